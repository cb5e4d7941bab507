/- A part of the proof. -/
import Derived.Test.YtcfhmdljeeppfaaGreatCPtQ
import Derived.Test.YtcfhmdljeeppfaaGreatCMm4
import Derived.Test.YtcfhmdljeeppfaaGreatCAmW
import Derived.Test.YtcfhmdljeeppfaaGreatCAmO
set_option linter.all false
set_option maxHeartbeats 16000000
namespace Go.AM
open Go Go.Proofs Tryz
abbrev Po:=Nat×Nat×Nat
def poOK (o:Po):Prop:=o.1<256∧o.2.1<65536∧o.2.2<256
def PoV (o:Po):AV:=.agg [.v (.int .u8 o.1),.v (.int .u16 o.2.1),.v (.int .u8 o.2.2)]
noncomputable def spA (s:AsD) (o:Po):AsD :=
 if o.1%6=0 then (if s.2.2.2.1.getD (o.2.1%512) 0=-1 then stA s (o.2.1%512) else s)
 else if o.1%6=1∨o.1%6=2 then (if s.2.2.2.1.getD (o.2.1%512) 0=-1 then s else chA s (o.2.1%512) (decide (o.1%6=2)))
 else if o.1%6=3∨o.1%6=4 then acA s (o.2.2%2) (o.2.1%512) (decide (o.1%6=4))
 else if hugeT s.1 ((o.2.1%512/8:Nat):Int)=true then ((splP s.1 ((o.2.1%512/8:Nat):Int)).1,s.2)
 else if (asmP s.1 ((o.2.1%512/8:Nat):Int)).2=0 then ((asmP s.1 ((o.2.1%512/8:Nat):Int)).1,s.2) else s
theorem Sc.fr {s:AsD} (h:Sc s) {p:Nat} (hp:p<512):s.2.2.2.1.getD p 0=-1∨s.2.2.2.1.getD p 0=p:=h.t.frv p hp
theorem spA_ok {s:AsD} (h:Sc s) (o:Po) (hn:s.2.2.2.2.2+2≤1000000):Sc (spA s o)∧(spA s o).2.2.2.2.2≤s.2.2.2.2.2+2:=by
 obtain ⟨kd,pg,cp⟩:=o
 unfold spA
 simp only
 have hp:pg%512<512:=Nat.mod_lt _ (by omega)
 obtain ⟨p,hpp⟩:∃ p,p=pg%512:=⟨_,rfl⟩
 rw [← hpp] at hp ⊢
 have hfr:=h.fr hp
 split
 ·split
  ·rename_i h0
   obtain ⟨a1,_,_,_,a2⟩:=stA_ok h hp h0 hn
   exact ⟨a1,a2⟩
  ·exact ⟨h,by omega⟩
 ·split
  ·split
   ·exact ⟨h,by omega⟩
   ·rename_i h0
    obtain ⟨a1,_,_⟩:=ch_ok h hp (hfr.resolve_left h0) (decide (kd%6=2))
    refine ⟨a1,?_⟩
    unfold chA
    split<;>(simp only;omega)
  ·split
   ·refine ⟨acA_ok h hp _,?_⟩
    unfold acA
    split<;>(simp only;omega)
   ·obtain ⟨⟨r,ns,ds⟩,b0,b1,fr,wr,nx⟩:=s
    obtain ⟨ht,ha,hb,hn'⟩:=h
    simp only at ht ha hb hn' ⊢
    split
    ·rename_i hh
     obtain ⟨u,u1,u2,_⟩:=ht.split (by omega) hh
     rw [u1]
     exact ⟨⟨u2,ha,hb,hn'⟩,by show nx≤nx+2;omega⟩
    ·split
     ·rename_i h0
      obtain ⟨⟨u,e⟩,hu⟩:∃ u,u=asmP (r,ns,ds) ((p/8:Nat):Int):=⟨_,rfl⟩
      rw [← hu] at h0 ⊢
      simp only at h0 ⊢
      subst h0
      exact ⟨⟨(ht.asm (by omega) hu.symm).2,ha,hb,hn'⟩,by show nx≤nx+2;omega⟩
     ·exact ⟨⟨ht,ha,hb,hn'⟩,by show nx≤nx+2;omega⟩
abbrev SpI:={x:AsD×Po // Sc x.1∧poOK x.2∧x.1.2.2.2.2.2+2≤1000000}
noncomputable def spS:List AV→List AO→Option (AV×List AO):=specG (ι:=SpI) (fun x=>[.bp 0 0,PoV x.1.2]) (fun x=>asM x.1.1) (fun _=>rtO [B true]) fun x=>asM (spA x.1.1 x.1.2)
theorem spS_at {s:AsD} {o:Po} (h:Sc s) (ho:poOK o) (hn:s.2.2.2.2.2+2≤1000000):spS [.bp 0 0,PoV o] (asM s)=some (B true,asM (spA s o)):=by
 refine sGe (ι:=SpI) (A:=fun x=>[.bp 0 0,PoV x.1.2]) (M:=fun x=>asM x.1.1) (R:=fun _=>rtO [B true]) (O:=fun x=>asM (spA x.1.1 x.1.2)) ⟨(s,o),h,ho,hn⟩ fun j hA hM=>?_
 obtain ⟨⟨s',o'⟩,h'⟩:=j
 have e:=asM_inj h'.1.k h.k hM
 simp only at e
 subst e
 obtain ⟨a,b,c⟩:=o
 obtain ⟨a',b',c'⟩:=o'
 simp only [cJ,PoV,AV.agg.injEq,AV.v.injEq,Value.int.injEq,true_and,and_true,Int.ofNat_inj] at hA
 obtain ⟨rfl,rfl,rfl⟩:=hA
 exact ⟨rfl,rfl⟩
set_option maxRecDepth 4000 in
theorem callAs {F:List AV→List AO→Option (AV×List AO)} {s s':AsD} {cs:List AV} (h1:nmsL cs=[]) (h2:∀ σ f,renL σ f cs=cs) (h3:∀ M,curBL M cs=true) (hF:F (.bp 0 0::cs) (asM s)=some (B true,asM s')) {b:Nat} (M:Nat→AO) (nid:Nat) (hM:M b=.box (asC s.1 s.2.1 s.2.2.1 s.2.2.2.1 s.2.2.2.2.1 s.2.2.2.2.2)) :
  caG F (.bp b 0::cs) M nid=some (B true,[(b,.box (asC s'.1 s'.2.1 s'.2.2.1 s'.2.2.2.1 s'.2.2.2.2.1 s'.2.2.2.2.2))]):=by
 simp only [asM] at hF
 unfold caG
 have hg:gat M 64 (nmsL (.bp b 0::cs)) []=[b]:=by
  simp [gat,nmsL,AV.nms,AO.nms,hM,h1]
 simp only [hg]
 rw [if_pos ?cg]
 case cg=>simp [CallG,nmsL,AV.nms,AO.nms,Led,curBL,AV.curB,AO.curB,verOf,nDd,hM,h1,h3]
 simp [renL,AV.ren,AO.ren,posN,canO,nmsL,hM,hF,RetG,getL,AV.nms,AO.nms,updN,nmN,shN,verOf,rng,Led,h1,h2]
theorem callSt {s:AsD} {p:Nat} (h:Sc s) (hp:p<512) (h0:s.2.2.2.1.getD p 0=-1) (hn:s.2.2.2.2.2+2≤1000000) {b:Nat} (M:Nat→AO) (nid:Nat) (hM:M b=.box (asC s.1 s.2.1 s.2.2.1 s.2.2.2.1 s.2.2.2.2.1 s.2.2.2.2.2)) :
  caG stS [.bp b 0,I p] M nid=some (B true,[(b,.box (asC (stA s p).1 (stA s p).2.1 (stA s p).2.2.1 (stA s p).2.2.2.1 (stA s p).2.2.2.2.1 (stA s p).2.2.2.2.2))]) :=
 callAs (cs:=[I p]) (by simp [nmsL,AV.nms]) (fun σ f=>by simp [renL,AV.ren]) (fun M=>by simp [curBL,AV.curB]) (stS_at h hp h0 hn) M nid hM
theorem callCh {s:AsD} {p:Nat} (pr:Bool) (h:Sc s) (hp:p<512) (h0:s.2.2.2.1.getD p 0=p) {b:Nat} (M:Nat→AO) (nid:Nat) (hM:M b=.box (asC s.1 s.2.1 s.2.2.1 s.2.2.2.1 s.2.2.2.2.1 s.2.2.2.2.2)) :
  caG chS [.bp b 0,I p,B pr] M nid=some (B true,[(b,.box (asC (chA s p pr).1 (chA s p pr).2.1 (chA s p pr).2.2.1 (chA s p pr).2.2.2.1 (chA s p pr).2.2.2.2.1 (chA s p pr).2.2.2.2.2))]) :=
 callAs (cs:=[I p,B pr]) (by simp [nmsL,AV.nms]) (fun σ f=>by simp [renL,AV.ren]) (fun M=>by simp [curBL,AV.curB]) (chS_at pr h hp h0) M nid hM
theorem callAc {s:AsD} {c p:Nat} (wt:Bool) (h:Sc s) (hc:c<2) (hp:p<512) {b:Nat} (M:Nat→AO) (nid:Nat) (hM:M b=.box (asC s.1 s.2.1 s.2.2.1 s.2.2.2.1 s.2.2.2.2.1 s.2.2.2.2.2)) :
  caG acS [.bp b 0,I c,I p,B wt] M nid=some (B true,[(b,.box (asC (acA s c p wt).1 (acA s c p wt).2.1 (acA s c p wt).2.2.1 (acA s c p wt).2.2.2.1 (acA s c p wt).2.2.2.2.1 (acA s c p wt).2.2.2.2.2))]) :=
 callAs (cs:=[I c,I p,B wt]) (by simp [nmsL,AV.nms]) (fun σ f=>by simp [renL,AV.ren]) (fun M=>by simp [curBL,AV.curB]) (acS_at wt h hc hp) M nid hM
theorem s16 (X:AX) (L:TsX X) (hst:X.call 70=caG stS) (hch:X.call 71=caG chS) (hac:X.call 72=caG acS):GSd prog 16 spS:=by
 have hX:=L.ok
 have hw:=L.w
 unfold spS
 refine gsS func16 rfl X fun ⟨⟨s,kd,pg,cp⟩,hs,⟨o1,o2,o3⟩,hn⟩ w0 B' E=>⟨by show 2≤105;decide,?_⟩
 simp only at hs o1 o2 o3 hn ⊢
 have hk:=hs.k
 have hvl:=vt_len hs.t.v
 have eA:spA s (kd,pg,cp)=if kd%6=0 then (if s.2.2.2.1.getD (pg%512) 0=-1 then stA s (pg%512) else s)
  else if kd%6=1∨kd%6=2 then (if s.2.2.2.1.getD (pg%512) 0=-1 then s else chA s (pg%512) (decide (kd%6=2)))
  else if kd%6=3∨kd%6=4 then acA s (cp%2) (pg%512) (decide (kd%6=4))
  else if hugeT s.1 ((pg%512/8:Nat):Int)=true then ((splP s.1 ((pg%512/8:Nat):Int)).1,s.2)
  else if (asmP s.1 ((pg%512/8:Nat):Int)).2=0 then ((asmP s.1 ((pg%512/8:Nat):Int)).1,s.2) else s:=rfl
 rw [eA]
 clear eA
 have hp:pg%512<512:=Nat.mod_lt _ (by omega)
 have hcp:cp%2<2:=Nat.mod_lt _ (by omega)
 have m1:((pg:Int)).tmod 512=((pg%512:Nat):Int):=by rw [Int.tmod_eq_emod_of_nonneg (by omega)];omega
 have m1':((pg:Int))%512=((pg%512:Nat):Int):=by omega
 have m2:((cp:Int)).tmod 2=((cp%2:Nat):Int):=by rw [Int.tmod_eq_emod_of_nonneg (by omega)];omega
 have m2':((cp:Int))%2=((cp%2:Nat):Int):=by omega
 have m3:((kd:Int)).tmod 6=((kd%6:Nat):Int):=by rw [Int.tmod_eq_emod_of_nonneg (by omega)];omega
 have m3':((kd:Int))%6=((kd%6:Nat):Int):=by omega
 obtain ⟨p,hpp⟩:∃ p,p=pg%512:=⟨_,rfl⟩
 obtain ⟨c,hcc⟩:∃ p,p=cp%2:=⟨_,rfl⟩
 obtain ⟨k,hkk⟩:∃ p,p=kd%6:=⟨_,rfl⟩
 have hk6:k<6:=by omega
 rw [← hpp] at hp m1 m1' ⊢
 rw [← hcc] at hcp m2 m2' ⊢
 rw [← hkk] at m3 m3' ⊢
 clear hpp hcc hkk
 have q1:((p:Int)).tdiv 8=((p/8:Nat):Int):=by rw [Int.tdiv_eq_ediv_of_nonneg (by omega)];omega
 have q1':((p:Int))/8=((p/8:Nat):Int):=by omega
 have hl:=fun t=>@asC_len t s.2.1 s.2.2.1 s.2.2.2.1 s.2.2.2.2.1 s.2.2.2.2.2 hk.2.2.2.1 hk.2.2.2.2
 have gf:=@asC_f s.1 s.2.1 s.2.2.1 s.2.2.2.1 s.2.2.2.2.1 s.2.2.2.2.2 hk.2.2.2.1 p hp
 have hfr:=hs.fr hp
 have hw1:∀ x:Nat,x<65536→IntKind.i64.wrap (x:Int)=x:=fun x hx=>w64_ ⟨by omega,by omega⟩
 rcases (by omega:k=0∨k=1∨k=2∨k=3∨k=4∨k=5) with rfl|rfl|rfl|rfl|rfl|rfl
 ·rw [if_pos rfl]
  simp only [asM,PoV]
  show AW ⟨prog,X,105,w0,⟨B',E,1⟩⟩ _ _ _
  have hc:Cx.OK ⟨prog,X,105,w0,⟨B',E,1⟩⟩:=⟨hX,mixed⟩
  rcases hfr with h1|h1
  ·rw [if_pos h1]
   have st:=fun M n hM=>@callSt s p hs hp h1 hn 0 M n hM
   rw [← hst] at st
   rw [h1] at gf
   have gfE:=getE_of gf
   have zS:=jj m1<|jj m1'<|jj m2<|jj m2'<|jj m3<|jj m3'<|jj hl<|jj gf<|jj gfE<|st
   refine dF64 ?_
   repeat (intro K hK)
   clear zS
   refine ⟨by simp,_,by simp [aRs,aRt,f16];rfl,?_⟩
   simp only [idx]
   exact dle
  ·rw [if_neg (by omega)]
   rw [h1] at gf
   have gfE:=getE_of gf
   have h2:(0:Int)≤(p:Int):=by omega
   have zS:=jj m1<|jj m1'<|jj m2<|jj m2'<|jj m3<|jj m3'<|jj hl<|jj gf<|jj gfE<|h2
   refine dF64 ?_
   repeat (intro K hK)
   clear zS
   refine ⟨by simp,_,by simp [aRs,aRt,f16];rfl,?_⟩
   simp only [idx]
   exact dle
 ·rw [if_neg (by decide),if_pos (.inl rfl),show decide (1=2)=false from rfl]
  simp only [asM,PoV]
  show AW ⟨prog,X,105,w0,⟨B',E,1⟩⟩ _ _ _
  have hc:Cx.OK ⟨prog,X,105,w0,⟨B',E,1⟩⟩:=⟨hX,mixed⟩
  rcases hfr with h1|h1
  ·rw [if_pos h1]
   rw [h1] at gf
   have gfE:=getE_of gf
   have zS:=jj m1<|jj m1'<|jj m2<|jj m2'<|jj m3<|jj m3'<|jj hl<|jj gf<|gfE
   refine dF64 ?_
   repeat (intro K hK)
   clear zS
   refine ⟨by simp,_,by simp [aRs,aRt,f16];rfl,?_⟩
   simp only [idx]
   exact dle
  ·rw [if_neg (by omega)]
   have ch:=fun M n hM=>@callCh s p false hs hp h1 0 M n hM
   rw [← hch] at ch
   rw [h1] at gf
   have gfE:=getE_of gf
   have h2:¬ (p:Int)<0:=by omega
   have zS:=jj m1<|jj m1'<|jj m2<|jj m2'<|jj m3<|jj m3'<|jj hl<|jj gf<|jj gfE<|jj h2<|ch
   refine dF64 ?_
   repeat (intro K hK)
   clear zS
   refine ⟨by simp,_,by simp [aRs,aRt,f16];rfl,?_⟩
   simp only [idx]
   exact dle
 ·rw [if_neg (by decide),if_pos (.inr rfl),show decide (2=2)=true from rfl]
  simp only [asM,PoV]
  show AW ⟨prog,X,105,w0,⟨B',E,1⟩⟩ _ _ _
  have hc:Cx.OK ⟨prog,X,105,w0,⟨B',E,1⟩⟩:=⟨hX,mixed⟩
  rcases hfr with h1|h1
  ·rw [if_pos h1]
   rw [h1] at gf
   have gfE:=getE_of gf
   have zS:=jj m1<|jj m1'<|jj m2<|jj m2'<|jj m3<|jj m3'<|jj hl<|jj gf<|gfE
   refine dF64 ?_
   repeat (intro K hK)
   clear zS
   refine ⟨by simp,_,by simp [aRs,aRt,f16];rfl,?_⟩
   simp only [idx]
   exact dle
  ·rw [if_neg (by omega)]
   have ch:=fun M n hM=>@callCh s p true hs hp h1 0 M n hM
   rw [← hch] at ch
   rw [h1] at gf
   have gfE:=getE_of gf
   have h2:¬ (p:Int)<0:=by omega
   have zS:=jj m1<|jj m1'<|jj m2<|jj m2'<|jj m3<|jj m3'<|jj hl<|jj gf<|jj gfE<|jj h2<|ch
   refine dF64 ?_
   repeat (intro K hK)
   clear zS
   refine ⟨by simp,_,by simp [aRs,aRt,f16];rfl,?_⟩
   simp only [idx]
   exact dle
 ·rw [if_neg (by decide),if_neg (by decide),if_pos (.inl rfl),show decide (3=4)=false from rfl]
  simp only [asM,PoV]
  show AW ⟨prog,X,105,w0,⟨B',E,1⟩⟩ _ _ _
  have hc:Cx.OK ⟨prog,X,105,w0,⟨B',E,1⟩⟩:=⟨hX,mixed⟩
  have ac:=fun M n hM=>@callAc s c p false hs hcp hp 0 M n hM
  rw [← hac] at ac
  have zS:=jj m1<|jj m1'<|jj m2<|jj m2'<|jj m3<|jj m3'<|ac
  refine dF64 ?_
  repeat (intro K hK)
  clear zS
  refine ⟨by simp,_,by simp [aRs,aRt,f16];rfl,?_⟩
  simp only [idx]
  exact dle
 ·rw [if_neg (by decide),if_neg (by decide),if_pos (.inr rfl),show decide (4=4)=true from rfl]
  simp only [asM,PoV]
  show AW ⟨prog,X,105,w0,⟨B',E,1⟩⟩ _ _ _
  have hc:Cx.OK ⟨prog,X,105,w0,⟨B',E,1⟩⟩:=⟨hX,mixed⟩
  have ac:=fun M n hM=>@callAc s c p true hs hcp hp 0 M n hM
  rw [← hac] at ac
  have zS:=jj m1<|jj m1'<|jj m2<|jj m2'<|jj m3<|jj m3'<|ac
  refine dF64 ?_
  repeat (intro K hK)
  clear zS
  refine ⟨by simp,_,by simp [aRs,aRt,f16];rfl,?_⟩
  simp only [idx]
  exact dle
 ·rw [if_neg (by decide),if_neg (by decide),if_neg (by decide)]
  have hu:=L.hu s.1 ((p/8:Nat):Int) hk.1
  have sp:=L.sp s.1 ((p/8:Nat):Int) ⟨hk.1,by omega⟩
  have am:=L.am s.1 ((p/8:Nat):Int) ⟨hk.1,by omega⟩
  have spz:hugeT s.1 ((p/8:Nat):Int)=true→(splP s.1 ((p/8:Nat):Int)).2=0:=fun hh=>by
   obtain ⟨⟨r,ns,ds⟩,b0,b1,fr,wr,nx⟩:=s
   obtain ⟨u,u1,_⟩:=hs.t.split (by omega) hh
   simp only
   rw [u1]
  obtain ⟨⟨r,ns,ds⟩,b0,b1,fr,wr,nx⟩:=s
  simp only at hu sp am spz hl ⊢
  obtain ⟨g,hg⟩:∃ g,g=((p/8:Nat):Int):=⟨_,rfl⟩
  rw [← hg] at hu sp am spz q1 q1' ⊢
  simp only [TbV] at hu sp am
  cases hh:hugeT (r,ns,ds) g with
  | true =>
   rw [if_pos rfl]
   rw [hh] at hu
   rw [spz hh] at sp
   obtain ⟨⟨ur,un,ud⟩,hU⟩:∃ u,u=(splP (r,ns,ds) g).1:=⟨_,rfl⟩
   rw [← hU] at sp ⊢
   simp only [asM,PoV]
   show AW ⟨prog,X,105,w0,⟨B',E,1⟩⟩ _ _ _
   have hc:Cx.OK ⟨prog,X,105,w0,⟨B',E,1⟩⟩:=⟨hX,mixed⟩
   have zS:=jj m1<|jj m1'<|jj m2<|jj m2'<|jj m3<|jj m3'<|jj hl<|jj hu<|jj sp<|jj q1<|q1'
   refine dF64 ?_
   repeat (intro K hK)
   clear zS
   refine ⟨by simp,_,by simp [aRs,aRt,f16];rfl,?_⟩
   simp only [idx]
   exact dle
  | false =>
   rw [if_neg (by simp)]
   rw [hh] at hu
   obtain ⟨⟨⟨ur,un,ud⟩,e⟩,hU⟩:∃ u,u=asmP (r,ns,ds) g:=⟨_,rfl⟩
   rw [← hU] at am ⊢
   simp only at am ⊢
   rcases dE (e=0) with he|he
   ·rw [if_pos he]
    subst he
    simp only [asM,PoV]
    show AW ⟨prog,X,105,w0,⟨B',E,1⟩⟩ _ _ _
    have hc:Cx.OK ⟨prog,X,105,w0,⟨B',E,1⟩⟩:=⟨hX,mixed⟩
    have zS:=jj m1<|jj m1'<|jj m2<|jj m2'<|jj m3<|jj m3'<|jj hl<|jj hu<|jj am<|jj q1<|q1'
    refine dF64 ?_
    repeat (intro K hK)
    clear zS
    refine ⟨by simp,_,by simp [aRs,aRt,f16];rfl,?_⟩
    simp only [idx]
    exact dle
   ·rw [if_neg he]
    simp only [asM,PoV]
    show AW ⟨prog,X,105,w0,⟨B',E,1⟩⟩ _ _ _
    have hc:Cx.OK ⟨prog,X,105,w0,⟨B',E,1⟩⟩:=⟨hX,mixed⟩
    have zS:=jj m1<|jj m1'<|jj m2<|jj m2'<|jj m3<|jj m3'<|jj hl<|jj hu<|jj am<|jj q1<|jj q1'<|he
    refine dF64 ?_
    repeat (intro K hK)
    clear zS
    refine ⟨by simp,_,by simp [aRs,aRt,f16];rfl,?_⟩
    simp only [idx]
    exact dle
def ns0:NdL:=[(0,zs8)]
def m0:List Nat:=List.replicate 512 0
theorem m0_len:m0.length=512:=List.length_replicate
theorem m0_getD {p:Nat}:m0.getD p 0=0:=by
 unfold m0
 rw [List.getD_eq_getElem?_getD,List.getElem?_replicate]
 split<;>rfl
theorem ns0_ok:tbOK (0,ns0,[]):=by
 refine ⟨fun n hn=>?_,by simp [ns0],by simp⟩
 simp [ns0] at hn
 subst hn
 exact ⟨rfl,fun w hw=>by simp [zs8] at hw;omega⟩
theorem ns0_chk:chkC (0,ns0,[])=true:=by kernel_rfl
theorem isM_0:IsM ns0 m0 1:=by
 have hv:Vt (0,ns0,[]):=(chk_iff ns0_ok).1 (chkC_ok ns0_chk)
 have hM:Mof ns0 0=some zs8:=(mMo hv.num.asc).1 (by simp [ns0])
 have hz:∀ i,wM (Mof ns0) 0 i=0:=fun i=>by unfold wM;rw [hM];exact zs8_getD i
 have h1:∀ q,frP WA (Mof ns0) 0 1 q=none:=fun q=>by
  simp only [frP,Option.bind_some]
  rw [hz];exact tab0
 refine ⟨hv,ns0_ok,m0_len,fun p hp=>?_,fun d q hq hd x hx=>?_,fun n hn=>?_,fun w hw=>?_⟩
 ·rw [wlk_of (M:=Mof ns0) (root:=0) hp (l:=2) (by omega) (f:=0) rfl (.inl (by rw [hz];exact tab0)),m0_getD]
  exact hz _
 ·exfalso
  have hd2:d≤2:=by have:=mem_Pos.1 hq;simp only at this;omega
  rcases (by omega:d=1∨d=2) with rfl|rfl
  ·rw [h1] at hx;simp at hx
  ·simp only [frP] at hx
   have:=h1 (q/8)
   simp only [frP] at this
   rw [this] at hx
   simp at hx
 ·simp [ns0] at hn
  subst hn
  show (0:Int)<_
  omega
 ·have:=List.eq_of_mem_replicate hw
  omega
def cellB (m:List Nat) (i j n:Nat):Bool:=(List.range n).any fun k=>decide (m.getD (i*64+j*8+k) 0≠0)
def rowN (m:List Nat) (i n:Nat):Nat:=((List.range n).filter fun j=>cellB m i j 8).length
def rowB (m:List Nat) (i n:Nat):Bool:=(List.range n).any fun j=>cellB m i j 8
def prefN (m:List Nat):Nat→Nat
 | 0=>1
 | n+1=>prefN m n+(rowN m n 8+if rowB m n 8=true then 1 else 0)
def lstM (m:List Nat):Nat→List Pe
 | 0=>[]
 | n+1=>lstM m n++if m.getD n 0≠0 then [((n:Int),m.getD n 0)] else []
theorem IsM.chk {ns:NdL} {m:List Nat} {nx:Nat} (h:IsM ns m nx):chk (0,ns,[])=0:=(chk_iff h.ok).2 h.v
theorem IsM.lst {ns:NdL} {m:List Nat} {nx:Nat} (h:IsM ns m nx):lstT (0,ns,[])=lstM m 512:=by
 unfold lstT
 rw [if_pos h.chk]
 have key:∀ n,n≤512→lsA (0,ns,[]) n=lstM m n:=by
  intro n
  induction n with
  | zero=>intro _;rfl
  | succ n ih =>
   intro hn
   have hp:n<512:=by omega
   simp only [lsA,lstM]
   rw [ih (by omega)]
   congr 1
   unfold lsF
   obtain ⟨f,l,w,hw⟩:∃ f l w,wlk (Mof ns) 0 n=(f,l,w):=⟨_,_,_,rfl⟩
   have hwm:=h.w n hp
   have hls:=(h.v.pv.walk hp).2.2
   simp only at hls
   rw [hw] at hwm hls
   simp only at hwm
   rw [hls,← hwm]
   by_cases h0:w=0
   ·simp [h0]
   ·have hl:=lev0 h.v hp hw h0
    rw [if_pos ⟨h0,.inl hl⟩,if_pos h0]
 exact key 512 (Nat.le_refl _)
set_option maxHeartbeats 8000000
noncomputable def TnF:List AV→Option AV:=spF (ι:={x:Int // 1≤x∧x≤16}) (fun x=>[I x.1]) fun x=>rtO [TlO (x.1,[]),I 0]
theorem s69 (X:AX) (hX:XOK prog X) (hw:X.W wT):PSd prog 69 TnF:=by
 unfold TnF
 refine psS hX mixed func69 rfl fun ⟨x,h1,h2⟩ w0 G=>⟨by show 1≤13;decide,rfl,?_⟩
 show AW ⟨prog,X,13,w0,.pure G⟩ _ _ _
 have hc:=okc hX 13 w0 G
 simp only at h1 h2 ⊢
 have h1I:¬ x<1:=by omega
 have h2I:¬ 16<x:=by omega
 simp only [TlO]
 have zS:=jj h1I<|h2I
 refine dM64 ?_
 repeat (intro K hK)
 clear zS
 refine ⟨by simp,?_⟩
 simp [lvI,f69,trw]
 try exact dt
def fr0:List Int:=List.replicate 512 (-1)
def fz0:List Int:=List.replicate 512 0
def wr0:List Bool:=List.replicate 512 false
def frI (i:Nat):List Int:=List.replicate i (-1)++List.replicate (512 - i) 0
theorem frI_len {i:Nat} (h:i≤512):(frI i).length=512:=by simp [frI];omega
theorem frI_0:frI 0=fz0:=by
 unfold frI fz0
 rw [List.replicate_zero,List.nil_append]
theorem frI_e:frI 512=fr0:=by
 unfold frI fr0
 rw [Nat.sub_self,List.replicate_zero,List.append_nil]
theorem frI_s {i:Nat} (h:i<512):(frI i).set i (-1)=frI (i+1):=by
 unfold frI
 rw [List.set_append_right _ _ (by simp),List.length_replicate,Nat.sub_self,show 512 - i=(512 - (i+1))+1 by omega,List.replicate_succ,List.set_cons_zero,List.replicate_succ',List.append_assoc]
 rfl
def s0A (x:Int):AsD:=((0,ns0,[]),(x,[]),(x,[]),fr0,wr0,1)
noncomputable def anS:List AV→List AO→Option (AV×List AO):=specG (ι:={x:Int // 1≤x∧x≤16}) (fun x=>[I x.1]) (fun _=>[]) (fun _=>rtO [.bp 0 0,B true]) fun x=>asM (s0A x.1)
theorem anS_at {x:Int} (h:1≤x∧x≤16):anS [I x] []=some (.tup [.bp 0 0,B true],asM (s0A x)):=by
 refine sGe (ι:={x:Int // 1≤x∧x≤16}) (A:=fun x=>[I x.1]) (M:=fun _=>[]) (R:=fun _=>rtO [.bp 0 0,B true]) (O:=fun x=>asM (s0A x.1)) ⟨x,h⟩ fun j hA _=>?_
 obtain ⟨y,hy⟩:=j
 simp only [cJ,I,AV.v.injEq,Value.int.injEq,true_and,and_true] at hA
 subst hA
 exact ⟨rfl,rfl⟩
theorem zi512_map:zi512.map AV.v=fz0.map I:=by
 unfold zi512 fz0
 rw [List.map_replicate,List.map_replicate]
theorem zb512_map:zb512.map AV.v=wr0.map B:=by
 unfold zb512 wr0
 rw [List.map_replicate,List.map_replicate]
theorem zAs_map:zAs.map AV.v=.v (.int .i64 0)::.v (.slice none 0 0)::.v (.slice none 0 0)::.v (.int .i64 0)::.v (.slice none 0 0)::.v (.int .i64 0)::.v (.slice none 0 0)::asT fz0 wr0 0:=by
 unfold zAs asT
 rw [List.map_append,List.map_append,List.map_append,zi512_map,zb512_map]
 rfl
theorem fz0_len:fz0.length=512:=by unfold fz0;rw [List.length_replicate]
theorem wr0_len:wr0.length=512:=by unfold wr0;rw [List.length_replicate]
theorem fr0_len:fr0.length=512:=by unfold fr0;rw [List.length_replicate]
theorem zAs_len:zAs.length=1032:=by
 have:(zAs.map AV.v).length=1032:=by
  rw [zAs_map]
  simp [asT,fz0_len,wr0_len]
 rw [← this,List.length_map]
theorem zAs_one:(∀ x:Value,x∈zAs→x.oneCell'=true)=True:=eq_true fun x hx=>by
 unfold zAs zi512 zb512 at hx
 rcases List.mem_append.1 hx with h|h
 ·simp only [List.mem_cons,List.not_mem_nil,or_false] at h
  rcases h with rfl|rfl|rfl|rfl|rfl|rfl|rfl<;>rfl
 ·rcases List.mem_append.1 h with h|h
  ·rw [List.eq_of_mem_replicate h];rfl
  ·rcases List.mem_append.1 h with h|h
   ·rw [List.eq_of_mem_replicate h];rfl
   ·rw [List.mem_singleton] at h;rw [h];rfl
theorem zAs_set (x:Int):((((((((List.map AV.v zAs).set 0 (I 0)).set 1 (.rd 9 (nrw ns0))).set 2 (.rd 2 (prw []))).set 3 (I x)).set 4 (.rd 3 (trw []))).set 5 (I x)).set 6 (.rd 3 (trw []))).set 1031 (.v (.int .i64 1))=asC (0,ns0,[]) (x,[]) (x,[]) fz0 wr0 1:=by
 rw [zAs_map]
 simp only [List.set_cons_zero,List.set_cons_succ]
 exact asC_sn (t:=(0,ns0,[])) (b0:=(x,[])) (b1:=(x,[])) (nx:=0) fz0_len wr0_len 1
theorem s15 (X:AX) (hX:XOK prog X) (hw:X.W wT) (hne:∀ M n,X.call 49 [I 0] M n=some (.tup [TbV (0,ns0,[]),I 0],[])) (htn:∀ x:Int,1≤x∧x≤16→∀ M n,X.call 69 [I x] M n=some (.tup [TlV (x,[]),I 0],[])):GSd prog 15 anS:=by
 unfold anS
 refine gsS func15 rfl X fun ⟨x,hx⟩ w0 B' E=>⟨by show 1≤52;decide,?_⟩
 simp only at hx ⊢
 have tn:=htn x hx
 simp only [TbV,TlV] at hne tn
 simp only [asM,s0A]
 show AW ⟨prog,X,52,w0,⟨B',E,0⟩⟩ _ _ _
 have hc:Cx.OK ⟨prog,X,52,w0,⟨B',E,0⟩⟩:=⟨hX,mixed⟩
 have zs:=zAs_set x
 have zl:=zAs_len
 have zo:=zAs_one
 have zS:=jj hne<|jj tn<|jj zs<|jj zl<|zo
 repeat' (first|(refine aSk fun K hK=>?_)|(refine eF64 ?_)|(refine eC (fun h=>?_) (fun h=>?_)<;>(try simp at h))|(refine hK _ ?_;clear hK)|(clear hK;refine hK _ ?_;clear hK))
 all_goals clear zS
 refine aLK (s0:=?lps1) (m0:=?lpm1) (ι:={i:Nat // i≤512}) [5,7,9,10] (fun i=>[(32,I i.1)]) (fun i=>[(480,.box (asC (0,ns0,[]) (x,[]) (x,[]) (frI i.1) wr0 1))]) (fun i=>512 - i.1) ⟨0,by omega⟩ ?lhs1 ?lhm1 ?_ ?_
 case lhs1=>first|(simp [kpS];done)|(simp [kpS];rfl)
 case lhm1=>first|rfl|(simp;done)|(simp;rfl)
 ·simp only [frI_0]
  exact dle
 ·rintro ⟨i,hi⟩
  simp only
  have hfl:=frI_len hi
  have hl:=@asC_len (0,ns0,[]) (x,[]) (x,[]) (frI i) wr0 1 hfl wr0_len
  rcases dE (i<512) with hil|hil
  ·have hilI:(i:Int)<512:=by omega
   have sf:=@asC_sf (0,ns0,[]) (x,[]) (x,[]) (frI i) wr0 1 hfl i hil (-1)
   rw [frI_s hil] at sf
   have zS:=jj hilI<|jj hl<|sf
   repeat' (first|(refine aSk fun K hK=>?_)|(refine eF64 ?_)|(refine eC (fun h=>?_) (fun h=>?_)<;>(try simp at h))|(refine hK _ ?_;clear hK)|clear hK)
   all_goals clear zS
   refine ⟨i+1,?_,by omega,by omega⟩
   exact dle
  ·obtain rfl:i=512:=by omega
   rw [frI_e]
   repeat' (first|(refine aSk fun K hK=>?_)|(refine eF64o ?_)|(refine eC (fun h=>?_) (fun h=>?_)<;>(try simp at h))|(refine hK _ ?_;clear hK)|clear hK)
   refine ⟨by simp,_,by simp [aRs,aRt,f15];rfl,?_⟩
   simp only [idx]
   refine le_turn (s1:=?tus2) (m1:=?tum2) [(480,0)] [0] [480] ?tua2 ?tub2 ?tuc2 ?tud2 ?tue2 ?tuf2 ?tug2
   case tua2=>first|(simp [kpS];done)|(simp [kpS];rfl)
   case tub2=>first|(simp;done)|(simp;rfl)
   case tuc2=>simp
   case tud2=>simp
   case tue2=>simp
   case tuf2=>simp
   case tug2 =>
    simp [swp,vr]
    exact dle
theorem s0_ok {x:Int} (h:1≤x∧x≤16):Sc (s0A x):=by
 have hg:∀ p:Nat,p<512→fr0.getD p 0=-1:=fun p hp=>by
  unfold fr0
  rw [List.getD_eq_getElem?_getD,List.getElem?_replicate,if_pos hp];rfl
 have hb:Bc (x,[]) fr0 wr0:=⟨⟨by simp,by simp⟩,by
  rw [chB_z]
  exact ⟨h.1,h.2,by simp;omega,fun i hi=>by simp at hi⟩,fun x hx=>by simp at hx⟩
 refine ⟨⟨isM_0.v,isM_0.ok,fr0_len,wr0_len,⟨fun n hn=>?_,fun d hd=>by simp [s0A] at hd⟩,fun p hp=>.inl (hg p hp),fun p hp _=>?_,fun p hp e=>?_⟩,hb,hb,by simp [s0A]⟩
 ·have:=isM_0.fr n hn
  exact this
 ·have:=isM_0.w p hp
  rw [m0_getD] at this
  exact this
 ·have h1:=hg p hp
  simp only [s0A] at e
  omega
theorem callSp {s:AsD} {o:Po} (h:Sc s) (ho:poOK o) (hn:s.2.2.2.2.2+2≤1000000) {b:Nat} (M:Nat→AO) (nid:Nat) (hM:M b=.box (asC s.1 s.2.1 s.2.2.1 s.2.2.2.1 s.2.2.2.2.1 s.2.2.2.2.2)) :
  caG spS [.bp b 0,PoV o] M nid=some (B true,[(b,.box (asC (spA s o).1 (spA s o).2.1 (spA s o).2.2.1 (spA s o).2.2.2.1 (spA s o).2.2.2.2.1 (spA s o).2.2.2.2.2))]) :=
 callAs (cs:=[PoV o]) (by simp [PoV,nmsL,AV.nms]) (fun σ f=>by simp [PoV,renL,AV.ren]) (fun M=>by simp [PoV,curBL,AV.curB]) (spS_at h ho hn) M nid hM
noncomputable def rnA (x:Int) (l:List Po) (i:Nat):AsD:=(l.take i).foldl spA (s0A x)
def poG (l:List Po) (i:Nat):Po:=l.getD i (0,0,0)
theorem poG_eq {l:List Po} {i:Nat} (h:i<l.length):poG l i=l[i]:=by
 unfold poG
 rw [List.getD_eq_getElem?_getD,List.getElem?_eq_getElem h];rfl
theorem rnA_s {x:Int} {l:List Po} {i:Nat} (h:i<l.length):rnA x l (i+1)=spA (rnA x l i) (poG l i):=by
 unfold rnA
 rw [List.take_add_one,List.getElem?_eq_getElem h,List.foldl_append,poG_eq h]
 rfl
theorem rnA_ok {x:Int} (hx:1≤x∧x≤16) {l:List Po} (hl:l.length≤60):∀ {i:Nat},i≤l.length→Sc (rnA x l i)∧(rnA x l i).2.2.2.2.2≤1+2*i
 | 0,_=>⟨s0_ok hx,by simp [rnA,s0A]⟩
 | i+1,hi=>by
  obtain ⟨h1,h2⟩:=rnA_ok hx hl (i:=i) (by omega)
  rw [rnA_s (by omega)]
  obtain ⟨h3,h4⟩:=spA_ok h1 (poG l i) (by omega)
  exact ⟨h3,by omega⟩
def porow (o:Po):List AV:=[.v (.int .u8 o.1),.v (.int .u16 o.2.1),.v (.int .u8 o.2.2)]
def porows (l:List Po):List (List AV):=l.map porow
@[simp] theorem porows_len (l:List Po):(porows l).length=l.length:=by simp [porows]
theorem porows_gi {l:List Po} {i:Nat} (h:i<l.length):(porows l)[i]?=some [.v (.int .u8 (poG l i).1),.v (.int .u16 (poG l i).2.1),.v (.int .u8 (poG l i).2.2)]:=by
 rw [poG_eq h];simp [porows,porow,h]
theorem porows_gE {l:List Po} {i:Nat} (h:i<l.length):∀ h',(porows l)[i]'(h')=[.v (.int .u8 (poG l i).1),.v (.int .u16 (poG l i).2.1),.v (.int .u8 (poG l i).2.2)]:=getE_of (porows_gi h)
abbrev TcI:={x:Int×List Po // ∀ o∈x.2,poOK o}
set_option maxHeartbeats 16000000 in
theorem s3 (X:AX) (hX:XOK prog X) (hw:X.W wT) (haw:∀ M n,X.call 14 [] M n=some (B true,[]))
  (han:∀ x:Int,1≤x∧x≤16→∀ M n,X.call 15 [I x] M n=some (.tup [.bp n 0,B true],[(n,.box (asC (s0A x).1 (s0A x).2.1 (s0A x).2.2.1 (s0A x).2.2.2.1 (s0A x).2.2.2.2.1 (s0A x).2.2.2.2.2))]))
  (hst:X.call 16=caG spS):PSd prog 3 (spF (ι:=TcI) (fun x=>[I x.1.1,.rd 3 (porows x.1.2)]) fun _=>rtO [B true]):=by
 refine psS hX mixed func3 rfl fun ⟨⟨x,l⟩,hlo⟩ w0 G=>⟨by show 2≤43;decide,rfl,?_⟩
 show AW ⟨prog,X,43,w0,.pure G⟩ _ _ _
 have hc:=okc hX 43 w0 G
 simp only at hlo ⊢
 rcases dE (x<1) with h1|h1
 ·have zS:=jj haw<|h1
  refine dF64 ?_
  repeat (intro K hK)
  clear zS
  refine ⟨by simp,?_⟩
  simp [lvI,f3]
  try exact dt
 ·rcases dE (16<x) with h2|h2
  ·have zS:=jj haw<|jj h1<|h2
   refine dF64 ?_
   repeat (intro K hK)
   clear zS
   refine ⟨by simp,?_⟩
   simp [lvI,f3]
   try exact dt
  ·rcases dE (60<l.length) with h3|h3
   ·have h3I:(60:Int)<(l.length:Int):=by omega
    have zS:=jj haw<|jj h1<|jj h2<|jj h3<|h3I
    refine dF64 ?_
    repeat (intro K hK)
    clear zS
    refine ⟨by simp,?_⟩
    simp [lvI,f3]
    try exact dt
   ·have h3I:¬ (60:Int)<(l.length:Int):=by omega
    have an:=han x ⟨by omega,by omega⟩
    have e0:s0A x=rnA x l 0:=rfl
    rw [e0] at an
    obtain ⟨F,hF⟩:∃ F:Nat→AsD,F=rnA x l:=⟨_,rfl⟩
    have hs:∀ i,i<l.length→F (i+1)=spA (F i) (poG l i):=fun i hi=>by rw [hF];exact rnA_s hi
    have hok:∀ i,i≤l.length→Sc (F i)∧(F i).2.2.2.2.2≤1+2*i:=fun i hi=>by rw [hF];exact rnA_ok ⟨by omega,by omega⟩ (by omega) hi
    rw [← hF] at an
    clear e0 hF
    have zS:=jj an<|jj h1<|jj h2<|jj h3<|h3I
    repeat' (first|(refine aSk fun K hK=>?_)|(refine eF64 ?_)|(refine eC (fun h=>?_) (fun h=>?_)<;>(try simp at h))|(refine hK _ ?_;clear hK)|(clear hK;refine hK _ ?_;clear hK))
    all_goals clear zS
    refine aLK (s0:=?lps1) (m0:=?lpm1) (ι:={i:Nat // i≤l.length}) [5,26,27] (fun i=>[(28,I i.1),(6,B true)]) (fun i=>[(208,.box (asC (F i.1).1 (F i.1).2.1 (F i.1).2.2.1 (F i.1).2.2.2.1 (F i.1).2.2.2.2.1 (F i.1).2.2.2.2.2))]) (fun i=>l.length - i.1) ⟨0,by omega⟩ ?lhs1 ?lhm1 ?_ ?_
    case lhs1=>first|(simp [kpS];done)|(simp [kpS];rfl)
    case lhm1=>first|rfl|(simp;done)|(simp;rfl)
    ·exact dle
    ·rintro ⟨i,hi⟩
     simp only
     rcases dE (i<l.length) with hil|hil
     ·have hilI:(i:Int)<(l.length:Int):=by omega
      obtain ⟨k1,k2⟩:=hok i hi
      have hpo:poOK (poG l i):=hlo _ (by rw [poG_eq hil];exact List.getElem_mem hil)
      have sp:=fun M n hM=>@callSp (F i) (poG l i) k1 hpo (by omega) 208 M n hM
      rw [← hst,← hs i hil] at sp
      have hg:=porows_gi hil
      have hgE:=porows_gE hil
      obtain ⟨⟨a,b,c⟩,ho⟩:∃ o,o=poG l i:=⟨_,rfl⟩
      rw [← ho] at sp hg hgE
      simp only [PoV] at sp hg hgE
      have zS:=jj hilI<|jj hg<|jj hgE<|sp
      repeat' (first|(refine aSk fun K hK=>?_)|(refine eF64 ?_)|(refine eC (fun h=>?_) (fun h=>?_)<;>(try simp at h))|(refine hK _ ?_;clear hK)|clear hK)
      all_goals clear zS
      refine ⟨i+1,?_,by omega,by omega⟩
      exact dle
     ·obtain rfl:i=l.length:=by omega
      have zS:=haw
      repeat' (first|(refine aSk fun K hK=>?_)|(refine eF64 ?_)|(refine eC (fun h=>?_) (fun h=>?_)<;>(try simp at h))|(refine hK _ ?_;clear hK)|clear hK)
      all_goals clear zS
      refine ⟨by simp,?_⟩
      simp [lvI,f3]
      try exact dt
def repC (t:Tb) (p w:Nat):Tb×Nat×Int :=
 if (lsT t p).2.2=0 then (zT,0,6)
 else if (decR w).2≠0∨(decR w).1.1=0∨(decR w).1.1=4∨suitB (decR w).1 (lsT t p).2.1=false then (zT,0,3)
 else (putT t p w,(lsT t p).2.2,0)
theorem repC_ok {t:Tb} {p w:Nat} (h:chkC t=true) (hp:p<512):repP t p w=repC t p w:=by
 unfold repP
 rw [if_neg (by rw [ckd_z (chkC_ok h) (by omega) (by omega)];decide),Int.toNat_natCast]
 rfl
def acC (t:Tb) (b:Tl) (s:Int) (p:Nat) (wr:Bool):Tb×Tl×Int×Int :=
 if chB b≠0 then (zT,zB,0,chB b)
 else if plcB s p=false then (zT,zB,0,2)
 else if (lkT b s p).2=true∧(wr=false∨((decR (lkT b s p).1).1.2.2.1=true∧(decR (lkT b s p).1).1.2.2.2.2.1=true)) then (t,b,frmG (decR (lkT b s p).1).1 p,0)
 else if rfE (decR (lsT t p).2.2).1 wr≠0 then (t,(inT b s p).1,0,rfE (decR (lsT t p).2.2).1 wr)
 else ((repC t p (mkW (lsT t p).2.2 wr).1).1,(fiT b s p (mkW (lsT t p).2.2 wr).1).1,frmG (decR (lsT t p).2.2).1 p,0)
theorem acC_ok {t:Tb} {b:Tl} {s:Int} {p:Nat} {wr:Bool} (h:chkC t=true) (hp:p<512):acT t b s p wr=acC t b s p wr:=by
 unfold acT acM
 rw [if_neg (by simp [chkC_ok h]),walkC_ok h hp]
 simp only [repC_ok h hp]
 rfl
def t8:Tb:=(10,[(10,[0,2820,0,0,0,0,0,0]),(11,[3076,0,0,0,0,0,0,0]),(12,[0,0,0,0,0,0,1289,0])],[])
def v8:Tb:=(10,[(10,[0,2820,0,0,0,0,0,0]),(11,[3076,0,0,0,0,0,0,0]),(12,[0,0,0,0,0,0,1337,0])],[])
def h8:Tb:=(10,[(10,[0,2820,0,0,0,0,0,0]),(11,[3076,0,0,0,0,0,0,0]),(12,[0,0,0,0,0,0,1321,0])],[])
def b8:Tl:=(2,[])
def c8:Tl:=(2,[(0,70,1305)])
def tt0:Tb:=(0,ns0,[])
def tt1:Tb:=(0,[(0,[260,0,0,0,0,0,0,0]),(1,[0,0,516,0,0,0,0,0]),(2,[4105,0,0,0,0,0,0,0])],[])
def tt2:Tb:=(0,[(0,[260,0,0,0,0,0,0,0]),(1,[0,0,516,0,0,0,0,0]),(2,[4105,4361,0,0,0,0,0,0])],[])
def tt3:Tb:=(0,[(0,[260,0,0,0,0,0,0,0]),(1,[0,0,516,0,0,0,0,0]),(2,[4105,4361,4617,0,0,0,0,0])],[])
def tt4:Tb:=(0,[(0,[260,0,0,0,0,0,0,0]),(1,[0,0,516,0,0,0,0,0]),(2,[4105,4361,4617,4873,0,0,0,0])],[])
def tt5:Tb:=(0,[(0,[260,0,0,0,0,0,0,0]),(1,[0,0,516,0,0,0,0,0]),(2,[4105,4361,4617,4873,5129,0,0,0])],[])
def tt6:Tb:=(0,[(0,[260,0,0,0,0,0,0,0]),(1,[0,0,516,0,0,0,0,0]),(2,[4105,4361,4617,4873,5129,5385,0,0])],[])
def tt7:Tb:=(0,[(0,[260,0,0,0,0,0,0,0]),(1,[0,0,516,0,0,0,0,0]),(2,[4105,4361,4617,4873,5129,5385,5641,0])],[])
def tt8:Tb:=(0,[(0,[260,0,0,0,0,0,0,0]),(1,[0,0,516,0,0,0,0,0]),(2,[4105,4361,4617,4873,5129,5385,5641,5897])],[])
def tA:Tb:=(0,[(0,[260,0,0,0,0,0,0,0]),(1,[0,0,4169,0,0,0,0,0])],[(2,2)])
def tB:Tb:=(0,[(0,[260,0,0,0,0,0,0,0]),(1,[0,0,4217,0,0,0,0,0])],[(2,2)])
def tC:Tb:=(0,[(0,[260,0,0,0,0,0,0,0]),(1,[0,0,516,0,0,0,0,0]),(2,[4153,4409,4665,4921,5177,5433,5689,5945])],[])
def tD:Tb:=(0,[(0,[260,0,0,0,0,0,0,0]),(1,[0,0,516,0,0,0,0,0]),(2,[4153,4409,4665,4921,5169,5433,5689,5945])],[])
theorem tt0C:chkC tt0=true:=by kernel_rfl
theorem tt1C:chkC tt1=true:=by kernel_rfl
theorem tt2C:chkC tt2=true:=by kernel_rfl
theorem tt3C:chkC tt3=true:=by kernel_rfl
theorem tt4C:chkC tt4=true:=by kernel_rfl
theorem tt5C:chkC tt5=true:=by kernel_rfl
theorem tt6C:chkC tt6=true:=by kernel_rfl
theorem tt7C:chkC tt7=true:=by kernel_rfl
theorem tt8C:chkC tt8=true:=by kernel_rfl
theorem tAC:chkC tA=true:=by kernel_rfl
theorem tBC:chkC tB=true:=by kernel_rfl
theorem tCC:chkC tC=true:=by kernel_rfl
theorem tDC:chkC tD=true:=by kernel_rfl
theorem missC_ok {t:Tb} {p:Nat} (h:chkC t=true) (hp:p<512):missT t p=if (lsT t p).2.1=1∧(decR (lsT t p).2.2).1.2.2.2.2.2=true then (0,7) else ((lsT t p).2.1,0):=by
 rw [missT_z (ckd_z (chkC_ok h) (by omega) (by omega)),Int.toNat_natCast]
theorem hugC_ok {t:Tb} {g:Nat} (h:chkC t=true) (hg:g<64):hugeT t g=(decR (lsT t (g*8)).2.2).1.2.2.2.2.2:=by
 unfold hugeT
 rw [if_pos (ckd_z (chkC_ok h) (by omega) (by omega)),Int.toNat_natCast]
theorem mi0:missT tt0 ((16:Nat):Int)=(2,0):=(missC_ok (p:=16) tt0C (by decide)).trans (by kernel_rfl)
theorem se0:setP tt0 ((16:Nat):Int) (wdP 16) (nxF 1 2)=(tt1,0):=(setC_ok (p:=16) tt0C (by decide)).trans (by kernel_rfl)
theorem mi1:missT tt1 ((17:Nat):Int)=(0,0):=(missC_ok (p:=17) tt1C (by decide)).trans (by kernel_rfl)
theorem se1:setP tt1 ((17:Nat):Int) (wdP 17) (nxF 3 0)=(tt2,0):=(setC_ok (p:=17) tt1C (by decide)).trans (by kernel_rfl)
theorem mi2:missT tt2 ((18:Nat):Int)=(0,0):=(missC_ok (p:=18) tt2C (by decide)).trans (by kernel_rfl)
theorem se2:setP tt2 ((18:Nat):Int) (wdP 18) (nxF 3 0)=(tt3,0):=(setC_ok (p:=18) tt2C (by decide)).trans (by kernel_rfl)
theorem mi3:missT tt3 ((19:Nat):Int)=(0,0):=(missC_ok (p:=19) tt3C (by decide)).trans (by kernel_rfl)
theorem se3:setP tt3 ((19:Nat):Int) (wdP 19) (nxF 3 0)=(tt4,0):=(setC_ok (p:=19) tt3C (by decide)).trans (by kernel_rfl)
theorem mi4:missT tt4 ((20:Nat):Int)=(0,0):=(missC_ok (p:=20) tt4C (by decide)).trans (by kernel_rfl)
theorem se4:setP tt4 ((20:Nat):Int) (wdP 20) (nxF 3 0)=(tt5,0):=(setC_ok (p:=20) tt4C (by decide)).trans (by kernel_rfl)
theorem mi5:missT tt5 ((21:Nat):Int)=(0,0):=(missC_ok (p:=21) tt5C (by decide)).trans (by kernel_rfl)
theorem se5:setP tt5 ((21:Nat):Int) (wdP 21) (nxF 3 0)=(tt6,0):=(setC_ok (p:=21) tt5C (by decide)).trans (by kernel_rfl)
theorem mi6:missT tt6 ((22:Nat):Int)=(0,0):=(missC_ok (p:=22) tt6C (by decide)).trans (by kernel_rfl)
theorem se6:setP tt6 ((22:Nat):Int) (wdP 22) (nxF 3 0)=(tt7,0):=(setC_ok (p:=22) tt6C (by decide)).trans (by kernel_rfl)
theorem mi7:missT tt7 ((23:Nat):Int)=(0,0):=(missC_ok (p:=23) tt7C (by decide)).trans (by kernel_rfl)
theorem se7:setP tt7 ((23:Nat):Int) (wdP 23) (nxF 3 0)=(tt8,0):=(setC_ok (p:=23) tt7C (by decide)).trans (by kernel_rfl)
theorem hu8:hugeT tt8 2=false:=(hugC_ok (g:=2) tt8C (by decide)).trans (by kernel_rfl)
theorem huA:hugeT tA 2=true:=(hugC_ok (g:=2) tAC (by decide)).trans (by kernel_rfl)
theorem huB:hugeT tB 2=true:=(hugC_ok (g:=2) tBC (by decide)).trans (by kernel_rfl)
theorem huD:hugeT tD 2=false:=(hugC_ok (g:=2) tDC (by decide)).trans (by kernel_rfl)
theorem jo8:joinR [4105,4361,4617,4873,5129,5385,5641,5897]=(4169,0):=by kernel_rfl
theorem as8:asmP tt8 2=(tA,0):=by
 unfold asmP
 rw [if_neg (by rw [show (2:Int)=((2:Nat):Int) from rfl,ckd_z (chkC_ok tt8C) (by decide) (by decide)];decide),show (2:Int)=((2:Nat):Int) from rfl,Int.toNat_natCast]
 have e1:(lsT tt8 (2*8)).2.1=0:=by kernel_rfl
 have e2:(gn tt8.2.1 (lsT tt8 (2*8)).1).2=[4105,4361,4617,4873,5129,5385,5641,5897]:=by kernel_rfl
 rw [if_neg (by simp [e1]),e2,jo8]
 have key:∀ j:Int×Int,j=(4169,0)→(if j.2≠0 then (zT,j.2) else ((tt8.1,asN tt8 (2*8) j.1.toNat,insK tt8.2.2 (((2:Nat):Int),(gn tt8.2.1 (lsT tt8 (2*8)).1).1)),0))=(tA,0):=fun j hj=>by
  subst hj
  kernel_rfl
 exact key _ rfl
def cB:Tl:=(2,[(3,16,4217)])
def cF:Tl:=(2,[(3,21,5433)])
theorem acB:acT tA (2,[]) 3 20 true=(tB,cB,20,0):=(acC_ok (p:=20) tAC (by decide)).trans (by kernel_rfl)
theorem spB':splP tB 2=(tC,0):=(splC_ok (g:=2) tBC (by decide)).trans (by kernel_rfl)
theorem waC:walkT tC 20=(5177,0,0):=(walkC_ok (p:=20) tCC (by decide)).trans (by kernel_rfl)
theorem prC:prW 5177=(5169,0):=by kernel_rfl
theorem reC:repP tC 20 5169=(tD,5177,0):=(repC_ok (p:=20) tCC (by decide)).trans (by kernel_rfl)
theorem inB:inT cB 3 20=((2,[]),0):=by kernel_rfl
theorem inB0:inT (2,[]) 3 20=((2,[]),0):=by kernel_rfl
theorem acD:acT tD (2,[]) 3 20 true=(tD,(2,[]),0,12):=(acC_ok (p:=20) tDC (by decide)).trans (by kernel_rfl)
theorem acF':acT tD (2,[]) 3 21 false=(tD,cF,21,0):=(acC_ok (p:=21) tDC (by decide)).trans (by kernel_rfl)
def b2:Tl:=(2,[])
def frE:Nat→List Int
 | 0=>fr0
 | i+1=>(frE i).set (16+i) ((16+i:Nat):Int)
def wrE:Nat→List Bool
 | 0=>wr0
 | i+1=>(wrE i).set (16+i) true
def ttE:Nat→Tb
 | 0=>tt0|1=>tt1|2=>tt2|3=>tt3|4=>tt4|5=>tt5|6=>tt6|7=>tt7|_=>tt8
def nxE:Nat→Int
 | 0=>1
 | _=>3
def e8 (i:Nat):AsD:=(ttE i,b2,b2,frE i,wrE i,nxE i)
def xA:AsD:=(tA,b2,b2,frE 8,wrE 8,3)
def xB:AsD:=(tB,b2,cB,frE 8,wrE 8,3)
def xD:AsD:=(tD,b2,b2,frE 8,(wrE 8).set 20 false,3)
def xF:AsD:=(tD,b2,cF,frE 8,(wrE 8).set 20 false,3)
theorem fr0_get {p:Nat} (hp:p<512):fr0.getD p 0=-1:=by
 unfold fr0
 rw [List.getD_eq_getElem?_getD,List.getElem?_replicate,if_pos hp];rfl
theorem frE_len:∀ i,(frE i).length=512
 | 0=>fr0_len
 | i+1=>by simp only [frE,List.length_set];exact frE_len i
theorem frE_get:∀ (i p:Nat),i≤8→p<512→(frE i).getD p 0=if 16≤p∧p<16+i then (p:Int) else -1
 | 0,p,_,hp=>by
  simp only [frE]
  rw [fr0_get hp,if_neg (by omega)]
 | i+1,p,hi,hp=>by
  simp only [frE]
  rw [getDs (by rw [frE_len];omega),frE_get i p (by omega) hp]
  by_cases e:p=16+i
  ·rw [if_pos e,if_pos (by omega),e]
  ·rw [if_neg e]
   by_cases h:16≤p∧p<16+i
   ·rw [if_pos h,if_pos (by omega)]
   ·rw [if_neg h,if_neg (by omega)]
theorem stA_eq {s:AsD} {p k:Nat} {u:Tb} (hm:missT s.1 p=(k,0)) (hs:setP s.1 p (wdP p) (nxF s.2.2.2.2.2.toNat k)=(u,0)):stA s p=(u,s.2.1,s.2.2.1,s.2.2.2.1.set p p,s.2.2.2.2.1.set p true,s.2.2.2.2.2+k):=by
 unfold stA
 rw [hm]
 simp only
 rw [hs]
theorem run8:∀ i,i<8→stA (e8 i) (16+i)=e8 (i+1):=fun i hi=>by
 rcases (by omega:i=0∨i=1∨i=2∨i=3∨i=4∨i=5∨i=6∨i=7) with rfl|rfl|rfl|rfl|rfl|rfl|rfl|rfl
 ·rw [show stA (e8 0) (16+0)=stA (e8 0) 16 from rfl,stA_eq (s:=e8 0) (p:=16) (k:=2) (u:=tt1) mi0 se0];rfl
 ·rw [show stA (e8 1) (16+1)=stA (e8 1) 17 from rfl,stA_eq (s:=e8 1) (p:=17) (k:=0) (u:=tt2) mi1 se1];rfl
 ·rw [show stA (e8 2) (16+2)=stA (e8 2) 18 from rfl,stA_eq (s:=e8 2) (p:=18) (k:=0) (u:=tt3) mi2 se2];rfl
 ·rw [show stA (e8 3) (16+3)=stA (e8 3) 19 from rfl,stA_eq (s:=e8 3) (p:=19) (k:=0) (u:=tt4) mi3 se3];rfl
 ·rw [show stA (e8 4) (16+4)=stA (e8 4) 20 from rfl,stA_eq (s:=e8 4) (p:=20) (k:=0) (u:=tt5) mi4 se4];rfl
 ·rw [show stA (e8 5) (16+5)=stA (e8 5) 21 from rfl,stA_eq (s:=e8 5) (p:=21) (k:=0) (u:=tt6) mi5 se5];rfl
 ·rw [show stA (e8 6) (16+6)=stA (e8 6) 22 from rfl,stA_eq (s:=e8 6) (p:=22) (k:=0) (u:=tt7) mi6 se6];rfl
 ·rw [show stA (e8 7) (16+7)=stA (e8 7) 23 from rfl,stA_eq (s:=e8 7) (p:=23) (k:=0) (u:=tt8) mi7 se7];rfl
theorem r8 (i:Nat) (hi:i<8):spA (e8 i) (0,16+i,0)=e8 (i+1):=by
 unfold spA
 simp only
 rw [if_pos (by simp),show (16+i)%512=16+i from Nat.mod_eq_of_lt (by omega),if_pos,run8 i hi]
 show (frE i).getD (16+i) 0=-1
 rw [frE_get i _ (by omega) (by omega),if_neg (by omega)]
theorem e8_ok:∀ i,i≤8→Sc (e8 i)
 | 0,_=>s0_ok (x:=2) (by omega)
 | i+1,hi=>by
  have h:=e8_ok i (by omega)
  have:=(spA_ok h (0,16+i,0) (by show nxE i+2≤1000000;unfold nxE;split<;>omega)).1
  rwa [r8 i (by omega)] at this
theorem rA:spA (e8 8) (5,16,0)=xA:=by
 unfold spA
 simp only
 rw [if_neg (by simp),if_neg (by simp),if_neg (by simp)]
 have e1:hugeT (e8 8).1 ((16%512/8:Nat):Int)=false:=hu8
 have e2:asmP (e8 8).1 ((16%512/8:Nat):Int)=(tA,0):=as8
 rw [e1,if_neg (by simp),e2,if_pos rfl]
 rfl
theorem rB:spA xA (4,20,1)=xB:=by
 unfold spA acA
 simp only
 rw [if_neg (by simp),if_neg (by simp),if_pos (by simp),if_neg (by simp)]
 have e1:acT xA.1 xA.2.2.1 3 ((20%512:Nat):Int) (decide True)=(tB,cB,20,0):=acB
 rw [e1]
 rfl
theorem rD:spA xB (2,20,0)=xD:=by
 unfold spA
 simp only
 rw [if_neg (by simp),if_pos (by simp),if_neg]
 ·unfold chA chT
  have e1:hugeT xB.1 ((20%512/8:Nat):Int)=true:=huB
  have e2:splP xB.1 ((20%512/8:Nat):Int)=(tC,0):=spB'
  have e3:walkT tC ((20%512:Nat):Int)=(5177,0,0):=waC
  have e4:repP tC ((20%512:Nat):Int) 5169=(tD,5177,0):=reC
  have e5:inT xB.2.1 3 ((20%512:Nat):Int)=(b2,0):=inB0
  have e6:inT xB.2.2.1 3 ((20%512:Nat):Int)=(b2,0):=inB
  rw [if_pos (by simp),e1,if_pos rfl,e2]
  simp only
  rw [e3]
  simp only
  rw [prC]
  simp only
  rw [e4,e5,e6]
  rfl
 ·show ¬ (frE 8).getD (20%512) 0=-1
  rw [frE_get 8 _ (by omega) (by omega),if_pos (by omega)]
  decide
theorem rE:spA xD (4,20,1)=xD:=by
 unfold spA acA
 simp only
 rw [if_neg (by simp),if_neg (by simp),if_pos (by simp),if_neg (by simp)]
 have e1:acT xD.1 xD.2.2.1 3 ((20%512:Nat):Int) (decide True)=(tD,b2,0,12):=acD
 rw [e1]
 rfl
theorem rF:spA xD (3,21,1)=xF:=by
 unfold spA acA
 simp only
 rw [if_neg (by simp),if_neg (by simp),if_pos (by simp),if_neg (by simp)]
 have e1:acT xD.1 xD.2.2.1 3 ((21%512:Nat):Int) (decide (3%6=4))=(tD,cF,21,0):=acF'
 rw [e1]
 rfl
theorem xA_ok:Sc xA:=by
 have:=(spA_ok (e8_ok 8 (by omega)) (5,16,0) (by decide)).1
 rwa [rA] at this
theorem xB_ok:Sc xB:=by
 have:=(spA_ok xA_ok (4,20,1) (by decide)).1
 rwa [rB] at this
theorem xD_ok:Sc xD:=by
 have:=(spA_ok xB_ok (2,20,0) (by decide)).1
 rwa [rD] at this
theorem xF_ok:Sc xF:=by
 have:=(spA_ok xD_ok (3,21,1) (by decide)).1
 rwa [rF] at this
def asV (s:AsD):List AV:=asC s.1 s.2.1 s.2.2.1 s.2.2.2.1 s.2.2.2.2.1 s.2.2.2.2.2
theorem asV_len {s:AsD} (h:Sc s):(asV s).length=1032:=asC_len h.t.fl h.t.wl
@[simp] theorem asV_under {n:Nat} {s:AsD}:AV.underL n (asV s):=closed_under asC_cl
set_option maxHeartbeats 16000000 in
theorem s14 (X:AX) (hX:XOK prog X) (hw:X.W wT)
  (han:∀ x:Int,1≤x∧x≤16→∀ M n,X.call 15 [I x] M n=some (.tup [.bp n 0,B true],[(n,.box (asC (s0A x).1 (s0A x).2.1 (s0A x).2.2.1 (s0A x).2.2.2.1 (s0A x).2.2.2.2.1 (s0A x).2.2.2.2.2))]))
  (hst:X.call 16=caG spS) (hu:∀ (t:Tb) (x:Int),tbOK t→∀ M n,X.call 41 [TbV t,I x] M n=some (B (hugeT t x),[]))
  (hch:∀ t:Tb,tbOK t→∀ M n,X.call 40 [TbV t] M n=some (I (chk t),[])):PSd prog 14 (spF (ι:=Unit) (fun _=>[]) fun _=>rtO [B true]):=by
 refine psS hX mixed func14 rfl fun _ w0 G=>⟨by show 0≤74;decide,rfl,?_⟩
 show AW ⟨prog,X,74,w0,.pure G⟩ _ _ _
 have hc:=okc hX 74 w0 G
 have an:∀ M n,X.call 15 [I 2] M n=some (.tup [.bp n 0,B true],[(n,.box (asV (e8 0)))]):=fun M n=>han 2 (by decide) M n
 have st:∀ (s s':AsD) (o:Po),Sc s→poOK o→s.2.2.2.2.2+2≤1000000→spA s o=s'→∀ b M n,M b=.box (asV s)→X.call 16 [.bp b 0,PoV o] M n=some (B true,[(b,.box (asV s'))]):=fun s s' o h ho hn e b M n hM=>by
  rw [hst,← e];exact callSp h ho hn M n hM
 have hu1:=hu tA 2 xA_ok.t.ok
 have hu2:=hu tD 2 xF_ok.t.ok
 have ch:=hch tD xF_ok.t.ok
 rw [huA] at hu1
 rw [huD] at hu2
 rw [chkC_ok tDC] at ch
 have la:=asV_len xA_ok
 have lf:=asV_len xF_ok
 have ta:List.take 3 (asV xA)=[I tA.1,.rd 9 (nrw tA.2.1),.rd 2 (prw tA.2.2)]:=rfl
 have tf:List.take 3 (asV xF)=[I tD.1,.rd 9 (nrw tD.2.1),.rd 2 (prw tD.2.2)]:=rfl
 simp only [TbV] at hu1 hu2 ch
 obtain ⟨⟨ar,an1,ad⟩,hTA⟩:∃ t,t=tA:=⟨_,rfl⟩
 obtain ⟨⟨dr,dn,dd⟩,hTD⟩:∃ t,t=tD:=⟨_,rfl⟩
 rw [← hTA] at hu1 ta
 rw [← hTD] at hu2 ch tf
 simp only at hu1 hu2 ch ta tf
 have hnx:∀ i,nxE i+2≤1000000:=fun i=>by unfold nxE;split<;>omega
 have st8:∀ i:Nat,i<8→∀ b M n,M b=.box (asV (e8 i))→X.call 16 [.bp b 0,.agg [.v (.int .u8 0),.v (.int .u16 (16+(i:Int))),.v (.int .u8 0)]] M n=some (B true,[(b,.box (asV (e8 (i+1))))]):=fun i hi b M n hM=>by
  have:=st (e8 i) (e8 (i+1)) (0,16+i,0) (e8_ok i (by omega)) ⟨by simp,by simp only;omega,by simp⟩ (hnx i) (r8 i hi) b M n hM
  rw [PoV] at this
  simp only at this
  rw [show ((16+i:Nat):Int)=16+(i:Int) by omega] at this
  exact this
 have stA':∀ b M n,M b=.box (asV (e8 8))→X.call 16 [.bp b 0,.agg [.v (.int .u8 5),.v (.int .u16 16),.v (.int .u8 0)]] M n=some (B true,[(b,.box (asV xA))]):=st (e8 8) xA (5,16,0) (e8_ok 8 (by omega)) (by unfold poOK;decide) (by decide) rA
 have stB:∀ b M n,M b=.box (asV xA)→X.call 16 [.bp b 0,.agg [.v (.int .u8 4),.v (.int .u16 20),.v (.int .u8 1)]] M n=some (B true,[(b,.box (asV xB))]):=st xA xB (4,20,1) xA_ok (by unfold poOK;decide) (by decide) rB
 have stD:∀ b M n,M b=.box (asV xB)→X.call 16 [.bp b 0,.agg [.v (.int .u8 2),.v (.int .u16 20),.v (.int .u8 0)]] M n=some (B true,[(b,.box (asV xD))]):=st xB xD (2,20,0) xB_ok (by unfold poOK;decide) (by decide) rD
 have stE:∀ b M n,M b=.box (asV xD)→X.call 16 [.bp b 0,.agg [.v (.int .u8 4),.v (.int .u16 20),.v (.int .u8 1)]] M n=some (B true,[(b,.box (asV xD))]):=st xD xD (4,20,1) xD_ok (by unfold poOK;decide) (by decide) rE
 have stF:∀ b M n,M b=.box (asV xD)→X.call 16 [.bp b 0,.agg [.v (.int .u8 3),.v (.int .u16 21),.v (.int .u8 1)]] M n=some (B true,[(b,.box (asV xF))]):=st xD xF (3,21,1) xD_ok (by unfold poOK;decide) (by decide) rF
 obtain ⟨G,hG⟩:∃ G:Nat→AsD,G=e8:=⟨_,rfl⟩
 rw [← hG] at an stA'
 simp only [← hG] at st8
 clear hG hTA hTD
 have zS:=an
 repeat' (first|(refine aSk fun K hK=>?_)|(refine eF64 ?_)|(refine eC (fun h=>?_) (fun h=>?_)<;>(try simp at h))|(refine hK _ ?_;clear hK)|(clear hK;refine hK _ ?_;clear hK))
 all_goals clear zS
 refine aLK (s0:=?lps1) (m0:=?lpm1) (ι:={i:Nat // i≤8}) [1] (fun i=>[(10,I i.1),(2,B true)]) (fun i=>[(16,.box (asV (G i.1)))]) (fun i=>8 - i.1) ⟨0,by omega⟩ ?lhs1 ?lhm1 ?_ ?_
 case lhs1=>first|(simp [kpS];done)|(simp [kpS];rfl)
 case lhm1=>first|rfl|(simp;done)|(simp;rfl)
 ·exact dle
 ·rintro ⟨i,hi⟩
  simp only
  rcases dE (i<8) with hil|hil
  ·have hilI:(i:Int)<8:=by omega
   have s8:=st8 i hil 16
   have hwu:IntKind.u16.wrap (16+(i:Int))=16+i:=by
    rcases (by omega:i=0∨i=1∨i=2∨i=3∨i=4∨i=5∨i=6∨i=7) with rfl|rfl|rfl|rfl|rfl|rfl|rfl|rfl<;>rfl
   have zS:=jj hilI<|jj s8<|hwu
   repeat' (first|(refine aSk fun K hK=>?_)|(refine eF64 ?_)|(refine eC (fun h=>?_) (fun h=>?_)<;>(try simp at h))|(refine hK _ ?_;clear hK)|clear hK)
   all_goals clear zS
   refine ⟨i+1,?_,by omega,by omega⟩
   exact dle
  ·obtain rfl:i=8:=by omega
   have q1:=stA' 16
   have q2:=stB 16
   have q3:=stD 16
   have q4:=stE 16
   have q5:=stF 16
   have zS:=jj q1<|jj q2<|jj q3<|jj q4<|jj q5<|jj hu1<|jj hu2<|jj ch<|jj la<|jj lf<|jj ta<|tf
   repeat' (first|(refine aSk fun K hK=>?_)|(refine eF64 ?_)|(refine eC (fun h=>?_) (fun h=>?_)<;>(try simp at h))|(refine hK _ ?_;clear hK)|clear hK)
   all_goals clear zS
   refine ⟨by simp,?_⟩
   simp [lvI,f14]
   try exact dt
theorem callDelN {b v i j:Nat} {l:List Nd} {fl:Bool} (hi:i≤j∧j≤l.length∧l.length≤1000000) (M:Nat→AO) (nid:Nat) (hb:M b=.vec v 9 fl (nrw l)) :
  callM false nine9 FDelN [.sl b v 9 0 l.length,I i,I j] M nid=some (.sl nid 1 9 0 (l.length - (j - i)),[(nid,.vec 1 9 false (nrw (l.take i++l.drop j))),(b,.dead)]):=by
 have hF:=FDelN_at l i j hi
 have e1:min i l.length+(l.length - j)=l.length - (j - i):=by omega
 simp [callM,giveArg,takeArg,hb,hF,tkL,e1]
set_option maxHeartbeats 16000000 in
theorem s66 (X:AX) (hX:XOK prog X) (hw:X.W wT)
  (hck:∀ t:Tb,tbOK t→∀ (n lim:Int) M k,X.call 109 [TbV t,I n,I lim] M k=some (I (ckd t n lim),[]))
  (hpa:∀ (t:Tb) (p:Nat),ptO t p→∀ M n,X.call 137 [TbV t,I p] M n=some (.sl n 1 3 0 (ptL t p).length,[(n,.vec 1 3 false (srows (ptL t p)))]))
  (hdg:∀ (p l:Nat),p<512→l≤2→∀ M n,X.call 139 [I p,I l] M n=some (I (dgt p l),[]))
  (hcl:∀ t:Tb,tbOK t→∀ M n,X.call 128 [TbV t] M n=some (TbC t n,[(n,.vec 1 9 false (nrw t.2.1)),(n+1,.vec 1 2 false (prw t.2.2))]))
  (hjo:∀ ws:List Nat,ws.length=8→(∀ w∈ws,w<2^64)→∀ M n,X.call 152 [.agg (wcs ws)] M n=some (.tup [U (joinR ws).1,I (joinR ws).2],[]))
  (hde:X.call 153=callM false nine9 FDelN) (hdp:X.call 135=caG dpS) :
  PSd prog 66 (spF (ι:={x:Tb×Int // tbOK x.1∧x.1.2.1.length≤999000}) (fun x=>[TbV x.1.1,I x.1.2]) fun x=>rtO [TbO (asmP x.1.1 x.1.2).1,I (asmP x.1.1 x.1.2).2]):=by
 refine psS hX mixed func66 rfl fun ⟨⟨⟨r,ns,ds⟩,pI⟩,ht,hl9⟩ w0 G=>⟨by show 2≤79;decide,rfl,?_⟩
 show AW ⟨prog,X,79,w0,.pure G⟩ _ _ _
 have hc:=okc hX 79 w0 G
 simp only at hl9 ht ⊢
 have hck':=hck _ ht pI 64
 have hl1:ns.length≤1000000:=ht.2.1
 have hl2:ds.length≤1000000:=ht.2.2
 rcases dE (ckd (r,ns,ds) pI 64≠0) with hk|hk
 ·have e:asmP (r,ns,ds) pI=(zT,ckd (r,ns,ds) pI 64):=by unfold asmP;rw [if_pos hk]
  rw [e]
  obtain ⟨c,hc0⟩:∃ c,c=ckd (r,ns,ds) pI 64:=⟨_,rfl⟩
  rw [← hc0] at hck' hk ⊢
  simp only [TbV,TbO,zT] at hck' ⊢
  have zS:=jj hck'<|hk
  refine dM64 ?_
  repeat (intro K hK)
  clear zS
  refine ⟨by simp,?_⟩
  simp [lvI,f66,nrw,prw]
  try exact dt
 ·obtain ⟨hpv,hp0,hp1⟩:=ckd_pt ht hk
  have hvt:=ckd_vt ht hk
  obtain ⟨g,rfl⟩:=Int.eq_ofNat_of_zero_le hp0
  have hg:g<64:=by omega
  obtain ⟨p,hpg⟩:∃ p,p=g*8:=⟨_,rfl⟩
  have hp:p<512:=by omega
  have hz:ckd (r,ns,ds) g 64=0:=by omega
  rw [hz] at hck'
  have hpa':=hpa _ _ (hpv.pto ht hp)
  have hgm:(g:Int)*8=(p:Int):=by omega
  have eS:asmP (r,ns,ds) g=if (lsT (r,ns,ds) p).2.1≠0 then (zT,6)
    else if (joinR (gn ns (lsT (r,ns,ds) p).1).2).2≠0 then (zT,(joinR (gn ns (lsT (r,ns,ds) p).1).2).2)
    else ((r,asN (r,ns,ds) p (joinR (gn ns (lsT (r,ns,ds) p).1).2).1.toNat,insK ds ((g:Int),(gn ns (lsT (r,ns,ds) p).1).1)),0):=by
   unfold asmP
   rw [if_neg hk,Int.toNat_natCast,← hpg]
  rw [eS]
  clear eS
  rcases dE ((lsT (r,ns,ds) p).2.1=0) with hl0|hl0
  ·rw [if_neg (by simp [hl0])]
   obtain ⟨f00,l00,w00,hwk⟩:∃ f l w,wlk (Mof ns) r p=(f,l,w):=⟨_,_,_,rfl⟩
   have hgab:∀ d∈ds,d.1≠(g:Int):=grp_abs hvt hg (by
    rw [← hpg]
    cases hh:(decR (lsT (r,ns,ds) p).2.2).1.2.2.2.2.2 with
    | false=>rfl
    | true =>
     have h1:=(hpv.walk hp).2.2
     simp only at h1
     rw [hwk] at h1
     rw [h1] at hh hl0
     simp only at hh hl0
     have:=(hug_lev hpv.vm hp hwk hh).1
     omega)
   have hlt:=(lsT_lt hpv hp).1
   simp only at hlt
   have h8:=(ht.1 _ (gn_mem hlt)).1
   have h64:=(ht.1 _ (gn_mem hlt)).2
   have hjo':=hjo _ h8 h64
   obtain ⟨n2,w2,n1,w1,g1,f,a1,a2,a3,a4,_,_,_,_,_,_⟩:=asm_eq hpv ht hp hl0 0
   obtain ⟨J,hJ⟩:∃ J,J=joinR (gn ns (lsT (r,ns,ds) p).1).2:=⟨_,rfl⟩
   have hJok:=@joinR_ok (gn ns (lsT (r,ns,ds) p).1).2 h8
   rw [← hJ] at hjo' hJok ⊢
   obtain ⟨jw,je⟩:=J
   simp only at hjo' hJok ⊢
   rw [a1] at hpa'
   have hgn:=nrG hlt
   have hgnE:=nrE hlt
   have hwl:(wcs (gn ns (lsT (r,ns,ds) p).1).2).length=8:=by simp [h8]
   have hcl':=hcl _ ht
   have hdg':=hdg p 1 hp (by omega)
   rw [show ((1:Nat):Int)=1 from rfl] at hdg'
   have hdl:=dgt_lt p 1
   have hdI:((dgt p 1:Nat):Int)<8:=by omega
   have hlI:(((lsT (r,ns,ds) p).1:Nat):Int)<(ns.length:Int):=by omega
   have hn1I:(n1:Int)<(ns.length:Int):=by omega
   rcases dE (je=0) with hje|hje
   ·subst hje
    rw [if_neg (by simp)]
    obtain ⟨w,hw1,hw64⟩:=hJok rfl
    subst hw1
    rw [Int.toNat_natCast]
    obtain ⟨n2',w2',n1',w1',g1',f',b1,b2,b3,b4,b5,b6,b7,b8,b9,b10⟩:=asm_eq hpv ht hp hl0 w
    obtain ⟨rfl,rfl,rfl,rfl⟩:n2'=n2∧w2'=w2∧n1'=n1∧w1'=w1:=by
     rw [a1] at b1
     simp only [cJ,pJ,true_and,and_true] at b1
     obtain ⟨⟨h1,h2⟩,h3,h4⟩:=b1
     exact ⟨h1.symm,h2.symm,h3.symm,h4.symm⟩
    have hgn1:=nrG a2
    have hgn1E:=nrE a2
    have h81:=(ht.1 _ (gn_mem a2)).1
    have hset:=@nrows_setN ns n1' (dgt p 1) w a2
    have hwl1:(wcs (gn ns n1').2).length=8:=by simp [h81]
    have hsl:(setN ns n1' (dgt p 1) w).length=ns.length:=sNl
    have hde':=fun (b:Nat) M nid h=>@callDelN b 1 (lsT (r,ns,ds) p).1 ((lsT (r,ns,ds) p).1+1) (setN ns n1' (dgt p 1) w) false ⟨by omega,by rw [hsl];omega,by rw [hsl];exact hl1⟩ M nid h
    rw [← hde,b9,hsl,show (lsT (r,ns,ds) p).1+1 - (lsT (r,ns,ds) p).1=1 by omega,show (((lsT (r,ns,ds) p).1+1:Nat):Int)=(((lsT (r,ns,ds) p).1:Nat):Int)+1 by omega] at hde'
    have hAl:(asN (r,ns,ds) p w).length=ns.length - 1:=by
     rw [← b9]
     simp only [List.length_append,List.length_take,List.length_drop,hsl]
     omega
    have htA:tbOK (r,asN (r,ns,ds) p w,ds):=⟨by rw [b10];exact delK_ok (setN_ok ht.1 hw64 a2),by show (asN (r,ns,ds) p w).length≤_;omega,hl2⟩
    have hdp':=fun M nid=>@callDp 656 1072 641 (by decide) (by decide) (by decide) r (asN (r,ns,ds) p w) ds (g:Int) (f:Int) htA hvt.num.dasc 0 0 M nid
    rw [← hdp,hAl,insL_eq hvt.num.dasc hgab] at hdp'
    rw [a3] at hgn hgnE ⊢
    obtain ⟨R,hR⟩:∃ R,R=setN ns n1' (dgt p 1) w:=⟨_,rfl⟩
    rw [← hR] at hset hde' hsl
    obtain ⟨A,hA⟩:∃ A,A=asN (r,ns,ds) p w:=⟨_,rfl⟩
    rw [← hA] at hde' hdp' hAl ⊢
    obtain ⟨⟨n0,l0,w0⟩,hS⟩:∃ S,S=lsT (r,ns,ds) p:=⟨_,rfl⟩
    rw [← hS] at hpa' hjo' hgn hgnE hwl hlt hlI hl0 hde'
    simp only at hpa' hjo' hgn hgnE hwl hlt hlI hl0 hde' ⊢
    subst hl0
    obtain ⟨⟨fr0,ws0⟩,hm0⟩:∃ m,m=gn ns n0:=⟨_,rfl⟩
    rw [← hm0] at hgn hgnE hwl hjo'
    simp only at hgn hgnE hwl hjo'
    have hcx:∀ x,x∈wcs ws0→AV.isClosed x=true:=fun a ha=>by
     obtain ⟨w,_,rfl⟩:=List.mem_map.1 ha
     rfl
    obtain ⟨cs0,hcs0⟩:∃ cs,cs=wcs ws0:=⟨_,rfl⟩
    rw [← hcs0] at hgn hgnE hwl hjo' hcx
    simp only [AV.isClosed] at hcx
    have htk0:List.take 8 cs0=cs0:=tkL (by omega)
    obtain ⟨⟨fr1,ws1⟩,hm1⟩:∃ m,m=gn ns n1':=⟨_,rfl⟩
    rw [← hm1] at hgn1 hgn1E hwl1 hset
    simp only at hgn1 hgn1E hwl1 hset
    obtain ⟨cs1,hcs1⟩:∃ cs,cs=wcs ws1:=⟨_,rfl⟩
    rw [← hcs1] at hgn1 hgn1E hwl1 hset
    obtain ⟨dg,hdg0⟩:∃ dg,dg=dgt p 1:=⟨_,rfl⟩
    rw [← hdg0] at hdl hdI hdg' hset
    have hs1:∀ w:Int,(I fr1::cs1).set (1+dg) (AV.v (.int .u64 w))=I fr1::cs1.set dg (AV.v (.int .u64 w)):=fun w=>by rw [Nat.add_comm];rfl
    have hil:=@insK_len _ ((g:Int),(f:Int)) ds
    have tkR:List.take (ns.length - 1) (nrw A)=nrw A:=tkL (by simp;omega)
    have tkd:List.take (ds.length+1) (prw (insK ds ((g:Int),(f:Int))))=prw (insK ds ((g:Int),(f:Int))):=tkL (by simp;omega)
    clear hcs0 hm0 hcs1 hm1 hdg0 hS hA hR hJ h8 h64 h81 b1 b2 b3 b5 b6 b7 b8 b9 b10 a1 htA
    simp only [TbV,TbO,TbC,U,srows,srow,List.map_cons,List.map_nil,List.length_cons,List.length_nil,Nat.zero_add,Nat.reduceAdd] at hck' hpa' hjo' hcl' hset hde' hdp' ⊢
    have zS:=jj hck'<|jj hgm<|jj hpa'<|jj hlt<|jj hlI<|jj hgn<|jj hgnE<|jj hwl<|jj hcx<|jj htk0<|jj hjo'<|jj hcl'<|jj a2<|jj hn1I<|jj hgn1<|jj hgn1E<|jj hwl1<|jj hdg'<|jj hdl<|jj hdI<|jj hset<|jj hs1<|jj hsl<|jj hde'<|hdp'
    refine dF64 ?_
    repeat (intro K hK)
    clear zS
    refine ⟨by simp,?_⟩
    simp [lvI,f66,hAl,hil,tkR,tkd]
    try exact dt
   ·rw [if_pos hje]
    obtain ⟨⟨n0,l0,w0⟩,hS⟩:∃ S,S=lsT (r,ns,ds) p:=⟨_,rfl⟩
    rw [← hS] at hpa' hjo' hgn hgnE hwl hlt hlI hl0
    simp only at hpa' hjo' hgn hgnE hwl hlt hlI hl0 ⊢
    subst hl0
    obtain ⟨⟨fr0,ws0⟩,hm0⟩:∃ m,m=gn ns n0:=⟨_,rfl⟩
    rw [← hm0] at hgn hgnE hwl hjo'
    simp only at hgn hgnE hwl hjo'
    have hcx:∀ x,x∈wcs ws0→AV.isClosed x=true:=fun a ha=>by
     obtain ⟨w,_,rfl⟩:=List.mem_map.1 ha
     rfl
    obtain ⟨cs0,hcs0⟩:∃ cs,cs=wcs ws0:=⟨_,rfl⟩
    rw [← hcs0] at hgn hgnE hwl hjo' hcx
    simp only [AV.isClosed] at hcx
    have htk0:List.take 8 cs0=cs0:=tkL (by omega)
    clear hcs0 hm0 hS hJ h8 h64 a1 hJok
    simp only [TbV,TbO,TbC,zT,U,srows,srow,List.map_cons,List.map_nil,List.length_cons,List.length_nil,Nat.zero_add,Nat.reduceAdd] at hck' hpa' hjo' ⊢
    have zS:=jj hck'<|jj hgm<|jj hpa'<|jj hlt<|jj hlI<|jj hgn<|jj hgnE<|jj hwl<|jj hcx<|jj htk0<|jj hjo'<|hje
    refine dF64 ?_
    repeat (intro K hK)
    clear zS
    refine ⟨by simp,?_⟩
    simp [lvI,f66,nrw,prw]
    try exact dt
  ·rw [if_pos hl0]
   have hlen:((ptL (r,ns,ds) p).length:Int)=3↔False:=by
    rcases (by have:=(lsT_lt hpv hp).2;omega:(lsT (r,ns,ds) p).2.1=1∨(lsT (r,ns,ds) p).2.1=2) with h1|h1
    ·obtain ⟨_,_,_,h2⟩:=path_1 hpv hp h1
     rw [h2];simp
    ·have h2:=path_2 hpv hp h1
     rw [h2];simp
   have hlenN:(ptL (r,ns,ds) p).length=3↔False:=⟨fun h=>hlen.1 (by omega),False.elim⟩
   obtain ⟨L,hL⟩:∃ L,L=ptL (r,ns,ds) p:=⟨_,rfl⟩
   rw [← hL] at hpa' hlen hlenN
   simp only [TbV,TbO,zT] at hck' hpa' ⊢
   have zS:=jj hck'<|jj hgm<|jj hpa'<|jj hlen<|hlenN
   refine dF64 ?_
   repeat (intro K hK)
   clear zS
   refine ⟨by simp,?_⟩
   simp [lvI,f66,nrw,prw]
   try exact dt
def SamO (X:AX) (t:Tb):Prop:=∀ (a0 va0 b0 vb0:Nat) (fa0 fb0:Bool) (a1 va1 b1 vb1:Nat) (fa1 fb1:Bool) (M:Nat→AO) (n:Nat),M a0=.vec va0 9 fa0 (nrw t.2.1)→M b0=.vec vb0 2 fb0 (prw t.2.2)→M a1=.vec va1 9 fa1 (nrw t.2.1)→M b1=.vec vb1 2 fb1 (prw t.2.2) →
 X.call 31 [.agg [I t.1,.sl a0 va0 9 0 t.2.1.length,.sl b0 vb0 2 0 t.2.2.length],.agg [I t.1,.sl a1 va1 9 0 t.2.1.length,.sl b1 vb1 2 0 t.2.2.length]] M n=some (B true,[])
def EqiO (X:AX) (l:List Int):Prop:=∀ (c vc d vd:Nat) (fc fd:Bool) (M:Nat→AO) (n:Nat),M c=.vec vc 1 fc (irw l)→M d=.vec vd 1 fd (irw l)→X.call 46 [.sl c vc 1 0 l.length,.sl d vd 1 0 l.length] M n=some (B true,[])
def EqpO (X:AX) (l:List Pe):Prop:=∀ (c vc d vd:Nat) (fc fd:Bool) (M:Nat→AO) (n:Nat),M c=.vec vc 2 fc (erows l)→M d=.vec vd 2 fd (erows l)→X.call 43 [.sl c vc 2 0 l.length,.sl d vd 2 0 l.length] M n=some (B true,[])
def tbF (t:Tb):Prop:=∀ n∈t.2.1,ndOK n
theorem tbF_ok {t:Tb} (h:tbF t) (hf:t.2.1.length≤80∧t.2.2.length≤70):tbOK t:=⟨h,by omega,by omega⟩
theorem lstT_len {t:Tb}:(lstT t).length≤1000000:=by
 unfold lstT
 split
 ·have:=@lsA_le t 512;omega
 ·simp
theorem frmT_few {t:Tb} (hf:t.2.1.length≤80∧t.2.2.length≤70):(frmT t).length≤1000000:=by
 unfold frmT framesT
 split
 ·simp [nFr,depF];omega
 ·simp
structure LawP (X:AX):Prop where
 ok:XOK prog X
 w:X.W wT
 few:∀ (t:Tb) (M:Nat→AO) (n:Nat),X.call 33 [TbV t] M n=some (B (decide (t.2.1.length≤80∧t.2.2.length≤70)),[])
 aw:∀ (M:Nat→AO) (n:Nat),X.call 34 [] M n=some (B true,[])
 same:∀ t:Tb,tbOK t→SamO X t
 eqi:∀ l:List Int,l.length≤1000000→EqiO X l
 eqp:∀ l:List Pe,l.length≤1000000→EqpO X l
structure LawC (X:AX):Prop extends LawP X where
 wa:∀ (t:Tb) (x:Int),tbOK t→∀ M n,X.call 35 [TbV t,I x] M n=some (.tup [U (walkT t x).1,I (walkT t x).2.1,I (walkT t x).2.2],[])
 wa':∀ (t:Tb) (x:Int),tbOK t→∀ M n,X.call 36 [TbV t,I x] M n=some (.tup [U (walkT t x).1,I (walkT t x).2.1,I (walkT t x).2.2],[])
 mi:∀ (t:Tb) (x:Int),tbOK t→∀ M n,X.call 37 [TbV t,I x] M n=some (.tup [I (missT t x).1,I (missT t x).2],[])
 mi':∀ (t:Tb) (x:Int),tbOK t→∀ M n,X.call 38 [TbV t,I x] M n=some (.tup [I (missT t x).1,I (missT t x).2],[])
 ch:∀ t:Tb,tbOK t→∀ M n,X.call 39 [TbV t] M n=some (I (chk t),[])
 ch':∀ t:Tb,tbOK t→∀ M n,X.call 40 [TbV t] M n=some (I (chk t),[])
 hu:∀ (t:Tb) (x:Int),tbOK t→∀ M n,X.call 41 [TbV t,I x] M n=some (B (hugeT t x),[])
 hu':∀ (t:Tb) (x:Int),tbOK t→∀ M n,X.call 42 [TbV t,I x] M n=some (B (hugeT t x),[])
 li:∀ t:Tb,tbOK t→∀ M n,X.call 44 [TbV t] M n=some (.sl n 1 2 0 (lstT t).length,[(n,.vec 1 2 false (erows (lstT t)))])
 li':∀ t:Tb,tbOK t→∀ M n,X.call 45 [TbV t] M n=some (.sl n 1 2 0 (lstT t).length,[(n,.vec 1 2 false (erows (lstT t)))])
 fr:∀ t:Tb,tbOK t→∀ M n,X.call 47 [TbV t] M n=some (.sl n 1 1 0 (frmT t).length,[(n,.vec 1 1 false (irw (frmT t)))])
 fr':∀ t:Tb,tbOK t→∀ M n,X.call 48 [TbV t] M n=some (.sl n 1 1 0 (frmT t).length,[(n,.vec 1 1 false (irw (frmT t)))])
set_option maxHeartbeats 8000000 in
theorem s6 (X:AX) (L:LawC X):PSd prog 6 (spF (ι:={x:Tb×Int // tbF x.1}) (fun x=>[TbV x.1.1,I x.1.2]) fun _=>rtO [B true]):=by
 have hX:=L.ok
 have hw:=L.w
 refine psS hX mixed func6 rfl fun ⟨⟨⟨r,ns,ds⟩,p⟩,htf⟩ w0 G=>⟨by show 2≤101;decide,rfl,?_⟩
 show AW ⟨prog,X,101,w0,.pure G⟩ _ _ _
 have hc:=okc hX 101 w0 G
 have few:=L.few (r,ns,ds)
 have aw:=L.aw
 simp only at few htf ⊢
 rcases dE (ns.length≤80∧ds.length≤70) with hf|hf
 ·rw [decide_eq_true hf] at few
  have ht:=tbF_ok htf hf
  have wa:=L.wa _ p ht
  have wa':=L.wa' _ p ht
  have mi:=L.mi _ p ht
  have mi':=L.mi' _ p ht
  have ch:=L.ch _ ht
  have ch':=L.ch' _ ht
  have hu:=L.hu _ p ht
  have hu':=L.hu' _ p ht
  have li:=L.li _ ht
  have li':=L.li' _ ht
  have fr:=L.fr _ ht
  have fr':=L.fr' _ ht
  have eqi:=L.eqi _ (frmT_few (t:=(r,ns,ds)) hf)
  have eqp:=L.eqp _ (lstT_len (t:=(r,ns,ds)))
  obtain ⟨⟨w,l,e⟩,hW⟩:∃ x,x=walkT (r,ns,ds) p:=⟨_,rfl⟩
  obtain ⟨⟨m,f⟩,hMi⟩:∃ x,x=missT (r,ns,ds) p:=⟨_,rfl⟩
  obtain ⟨c,hC⟩:∃ x,x=chk (r,ns,ds):=⟨_,rfl⟩
  obtain ⟨h,hH⟩:∃ x,x=hugeT (r,ns,ds) p:=⟨_,rfl⟩
  obtain ⟨ls,hL⟩:∃ x,x=lstT (r,ns,ds):=⟨_,rfl⟩
  obtain ⟨fs,hF⟩:∃ x,x=frmT (r,ns,ds):=⟨_,rfl⟩
  rw [← hW] at wa wa'
  rw [← hMi] at mi mi'
  rw [← hC] at ch ch'
  rw [← hH] at hu hu'
  rw [← hL] at li li' eqp
  rw [← hF] at fr fr' eqi
  unfold EqiO at eqi
  unfold EqpO at eqp
  simp only [TbV,U] at few wa wa' mi mi' ch ch' hu hu' li li' fr fr' ⊢
  have zS:=jj few<|jj aw<|jj wa<|jj wa'<|jj mi<|jj mi'<|jj ch<|jj ch'<|jj hu<|jj hu'<|jj li<|jj li'<|jj fr<|jj fr'<|jj eqi<|eqp
  refine dF64 ?_
  repeat (intro K hK)
  clear zS
  all_goals refine ⟨by simp,?_⟩
  all_goals simp [lvI,f6]
  all_goals try exact dt
 ·rw [decide_eq_false hf] at few
  simp only [TbV] at few ⊢
  have zS:=jj few<|aw
  refine dF64 ?_
  repeat (intro K hK)
  clear zS
  all_goals refine ⟨by simp,?_⟩
  all_goals simp [lvI,f6]
  all_goals try exact dt
end Go.AM
namespace Go.AM
open Go
def shI:Sh:=.int .i64
theorem fitL_one {s:Sh} {xs:List AV} (h:FitL [s] xs):∃ a,xs=[a]∧Fit s a:=by
 match xs,h with
 | [a],h=>simp only [FitL] at h;exact ⟨a,rfl,h.1⟩
 | [],h=>simp [FitL] at h
 | _::_::_,h=>simp [FitL] at h
theorem fit_int {a:AV} (h:Fit shI a):∃ n,a=I n∧-9223372036854775808≤n∧n≤9223372036854775807:=by
 simp only [shI,Fit] at h
 obtain ⟨n,rfl,hw⟩:=h
 refine ⟨n,rfl,?_⟩
 simpa [Lit.wf,IntKind.min,IntKind.max,IntKind.signed,IntKind.bits] using hw
theorem fitL_cons {s:Sh} {r:List Sh} {xs:List AV} (h:FitL (s::r) xs):∃ a ar,xs=a::ar∧Fit s a∧FitL r ar:=by
 cases xs with
 | nil=>simp [FitL] at h
 | cons a ar=>simp only [FitL] at h;exact ⟨a,ar,rfl,h.1,h.2⟩
theorem arg_one {P:Program} {t:TypeId} {s:Sh} {a:AV} (hs:shapeOf P 10 t=some [s]) (h1:∀ fs,P.underlying t≠some (.struct fs)) (h2:∀ n e,P.underlying t≠some (.array n e)) (h:FitArg P t a):Fit s a:=by
 obtain ⟨sh,h3,h4⟩:=h
 rw [hs] at h3
 simp only [oJ] at h3
 subst h3
 rcases h4 with ⟨⟨fs,hf⟩|⟨n,e,hf⟩,_⟩|⟨_,h5⟩
 ·exact absurd hf (h1 fs)
 ·exact absurd hf (h2 _ _)
 ·obtain ⟨b,hb,hf⟩:=fitL_one h5
  obtain rfl:a=b:=by simpa using hb
  exact hf
end Go.AM
namespace Go.AM
open Go Go.Proofs Tryz
theorem laid:laidOutB prog=true:=by kernel_rfl
theorem owns:ownKnob prog.godebug=none:=by kernel_rfl
theorem shInt:shapeOf prog 10 3=some [shI]:=by kernel_rfl
theorem arg_int {a:AV} (h:FitArg prog 3 a):∃ n,a=I n:=by
 obtain ⟨n,rfl,_⟩:=fit_int (arg_one shInt (fun fs=>by simp [Tryz.underlying3]) (fun n e=>by simp [Tryz.underlying3]) h)
 exact ⟨n,rfl⟩
set_option maxRecDepth 4000
theorem peek_w {M:Nat→AO}:∀ {ws:List Nat},pLs M (wcs ws)=some (wcs ws)
 | []=>rfl
 | w::ws=>by
  have ih:=peek_w (M:=M) (ws:=ws)
  show (match peekLeaf M (U w),pLs M (wcs ws) with
   | some x,some xs=>some (x::xs)
   | _,_=>none)=_
  rw [ih];rfl
theorem peek_ws {M:Nat→AO} {ws:List Nat}:peekVals M [.agg (wcs ws)]=some [.agg (wcs ws)]:=by
 simp [peekVals,peekVal,peek_w]
noncomputable def JoF:List AV→Option AV:=spF (ι:={ws:List Nat // ws.length=8∧∀ w∈ws,w<2^64}) (fun x=>[.agg (wcs x.1)]) fun x=>rtO [U (joinR x.1).1,I (joinR x.1).2]
theorem cJo (ws:List Nat) (h8:ws.length=8) (h64:∀ w∈ws,w<2^64) (M:Nat→AO) (n:Nat):caP JoF [.agg (wcs ws)] M n=some (.tup [U (joinR ws).1,I (joinR ws).2],[]):=by
 refine cPs (ι:={ws:List Nat // ws.length=8∧∀ w∈ws,w<2^64}) (A:=fun x=>[.agg (wcs x.1)]) (R:=fun x=>rtO [U (joinR x.1).1,I (joinR x.1).2]) ⟨ws,h8,h64⟩ ?_ ?_ (by simp [U])
 ·exact peek_ws
 ·rintro ⟨ws',h'⟩ e
  simp only [cJ,AV.agg.injEq,wcs_inj,and_true] at e
  subst e;rfl
noncomputable def AsF:List AV→Option AV:=spF (ι:={x:Tb×Int // tbOK x.1∧x.1.2.1.length≤999000}) (fun x=>[TbV x.1.1,I x.1.2]) fun x=>rtO [TbO (asmP x.1.1 x.1.2).1,I (asmP x.1.1 x.1.2).2]
def outC (b:Tl) (n:Nat):List (Nat×AO):=[(n,.vec 1 3 false (trw b.2))]
set_option maxRecDepth 4000
theorem tep_inj {a b:Te}:AV.rp [I a.1,I a.2.1,U a.2.2]=AV.rp [I b.1,I b.2.1,U b.2.2]↔a=b:=by
 rw [AV.rp.injEq];exact rp_inj
theorem Uinj {a b:Nat}:U a=U b↔a=b:=by
 constructor
 ·intro h;simp only [U,AV.v.injEq,Value.int.injEq,true_and] at h;omega
 ·rintro rfl;rfl
theorem Iinj {a b:Int}:I a=I b↔a=b:=by simp [I]
theorem Binj {a b:Bool}:B a=B b↔a=b:=by simp [B]
theorem rpI_inj {a b:Int}:AV.rp [I a]=AV.rp [I b]↔a=b:=by simp [I]
theorem open_tl {b:Tl} {e:Int} {n:Nat}:oRt n (rtO [TlO b,I e])=(.tup [TlC b n,I e],outC b n,n+1):=by
 simp [rtO,oRt,oVs,oVl,oLs,oLf,TlO,TlC,outC,trw]
theorem open_tl1 {b:Tl} {n:Nat}:oRt n (rtO [TlO b])=(TlC b n,outC b n,n+1):=by
 simp [rtO,oRt,oVs,oVl,oLs,oLf,TlO,TlC,outC,trw]
theorem open_tb1 {t:Tb} {n:Nat}:oRt n (rtO [TbO t])=(TbC t n,outT t n,n+2):=by
 simp [rtO,oRt,oVs,oVl,oLs,oLf,TbO,TbC,outT]
theorem cTr (w:Nat) (hw:w<2^64) (M:Nat→AO) (n:Nat):caP TrF [U w] M n=some (.tup [B (trB w),B (hgB w)],[]):=by
 unfold TrF
 rw [cPs (ι:={w:Nat // w<2^64}) (A:=fun x=>[U x.1]) (R:=fun x=>rtO [B (trB x.1),B (hgB x.1)]) ⟨w,hw⟩ (by simp [TeV,TlV,TbV,EnV,U]) ?_ (by simp [rtO,oRt,oVs,oVl,oLs,oLf,TeV,TlV,TbV,EnV,U])]
 ·simp [rtO,oRt,oVs,oVl,oLs,oLf,TeV,TlV,TbV,EnV,U]
 ·rintro ⟨w',h'⟩ e
  simp only [cJ,TeV_inj,TlJ,TbJ,EnV_inj,Iinj,Uinj,Binj,tep_inj,rpI_inj,irI,trI,and_true] at e
  subst e;rfl
theorem cSpn (w:Nat) (hw:w<2^64) (M:Nat→AO) (n:Nat):caP SpnF [U w] M n=some (I (spn w),[]):=by
 unfold SpnF
 rw [cPs (ι:={w:Nat // w<2^64}) (A:=fun x=>[U x.1]) (R:=fun x=>rtO [I (spn x.1)]) ⟨w,hw⟩ (by simp [TeV,TlV,TbV,EnV,U]) ?_ (by simp [rtO,oRt,oVs,oVl,oLs,oLf,TeV,TlV,TbV,EnV,U])]
 ·simp [rtO,oRt,oVs,oVl,oLs,oLf,TeV,TlV,TbV,EnV,U]
 ·rintro ⟨w',h'⟩ e
  simp only [cJ,TeV_inj,TlJ,TbJ,EnV_inj,Iinj,Uinj,Binj,tep_inj,rpI_inj,irI,trI,and_true] at e
  subst e;rfl
theorem cPlc (s p:Int) (M:Nat→AO) (n:Nat):caP PlcF [I s,I p] M n=some (I (if plcB s p=true then 0 else 2),[]):=by
 unfold PlcF
 rw [cPs (ι:=Int×Int) (A:=fun x=>[I x.1,I x.2]) (R:=fun x=>rtO [I (if plcB x.1 x.2=true then 0 else 2)]) (s,p) (by simp [TeV,TlV,TbV,EnV,U]) ?_ (by simp [rtO,oRt,oVs,oVl,oLs,oLf,TeV,TlV,TbV,EnV,U])]
 ·simp [rtO,oRt,oVs,oVl,oLs,oLf,TeV,TlV,TbV,EnV,U]
 ·rintro ⟨s',p'⟩ e
  simp only [cJ,TeV_inj,TlJ,TbJ,EnV_inj,Iinj,Uinj,Binj,tep_inj,rpI_inj,irI,trI,and_true] at e
  obtain ⟨rfl,rfl⟩:=e;rfl
theorem cCv (x:Te) (s p:Int) (hx:teOK x) (M:Nat→AO) (n:Nat):caP CvF [TeV x,I s,I p] M n=some (B (cvB x s p),[]):=by
 unfold CvF
 rw [cPs (ι:={x:Te×Int×Int // teOK x.1}) (A:=fun x=>[TeV x.1.1,I x.1.2.1,I x.1.2.2]) (R:=fun x=>rtO [B (cvB x.1.1 x.1.2.1 x.1.2.2)]) ⟨(x,s,p),hx⟩ (by simp [TeV,TlV,TbV,EnV,U]) ?_ (by simp [rtO,oRt,oVs,oVl,oLs,oLf,TeV,TlV,TbV,EnV,U])]
 ·simp [rtO,oRt,oVs,oVl,oLs,oLf,TeV,TlV,TbV,EnV,U]
 ·rintro ⟨⟨x',s',p'⟩,h'⟩ e
  simp only [cJ,TeV_inj,TlJ,TbJ,EnV_inj,Iinj,Uinj,Binj,tep_inj,rpI_inj,irI,trI,and_true] at e
  obtain ⟨rfl,rfl,rfl⟩:=e;rfl
theorem cOv (x y:Te) (hx:teOK x) (hy:teOK y) (M:Nat→AO) (n:Nat):caP OvF [TeV x,TeV y] M n=some (B (ovB x y),[]):=by
 unfold OvF
 rw [cPs (ι:={x:Te×Te // teOK x.1∧teOK x.2}) (A:=fun x=>[TeV x.1.1,TeV x.1.2]) (R:=fun x=>rtO [B (ovB x.1.1 x.1.2)]) ⟨(x,y),hx,hy⟩ (by simp [TeV,TlV,TbV,EnV,U]) ?_ (by simp [rtO,oRt,oVs,oVl,oLs,oLf,TeV,TlV,TbV,EnV,U])]
 ·simp [rtO,oRt,oVs,oVl,oLs,oLf,TeV,TlV,TbV,EnV,U]
 ·rintro ⟨⟨x',y'⟩,h'⟩ e
  simp only [cJ,TeV_inj,TlJ,TbJ,EnV_inj,Iinj,Uinj,Binj,tep_inj,rpI_inj,irI,trI,and_true] at e
  obtain ⟨rfl,rfl⟩:=e;rfl
theorem cCj (x y:Te) (hx:teOK x) (hy:teOK y) (M:Nat→AO) (n:Nat):caP CkJ [TeV y,.rp [I x.1,I x.2.1,U x.2.2]] M n=some (B (ovB x y),[]):=by
 unfold CkJ
 rw [cPs (ι:={x:Te×Te // teOK x.1∧teOK x.2}) (A:=fun x=>[TeV x.1.2,.rp [I x.1.1.1,I x.1.1.2.1,U x.1.1.2.2]]) (R:=fun x=>rtO [B (ovB x.1.1 x.1.2)]) ⟨(x,y),hx,hy⟩ (by simp [TeV,TlV,TbV,EnV,U]) ?_ (by simp [rtO,oRt,oVs,oVl,oLs,oLf,TeV,TlV,TbV,EnV,U])]
 ·simp [rtO,oRt,oVs,oVl,oLs,oLf,TeV,TlV,TbV,EnV,U]
 ·rintro ⟨⟨x',y'⟩,h'⟩ e
  simp only [cJ,TeV_inj,TlJ,TbJ,EnV_inj,Iinj,Uinj,Binj,tep_inj,rpI_inj,irI,trI,and_true] at e
  obtain ⟨rfl,rfl⟩:=e;rfl
theorem cIj (x:Te) (s p:Int) (hx:teOK x) (M:Nat→AO) (n:Nat):caP IvF [TeV x,.rp [I s],.rp [I p]] M n=some (B (cvB x s p),[]):=by
 unfold IvF
 rw [cPs (ι:={x:Te×Int×Int // teOK x.1}) (A:=fun x=>[TeV x.1.1,.rp [I x.1.2.1],.rp [I x.1.2.2]]) (R:=fun x=>rtO [B (cvB x.1.1 x.1.2.1 x.1.2.2)]) ⟨(x,s,p),hx⟩ (by simp [TeV,TlV,TbV,EnV,U]) ?_ (by simp [rtO,oRt,oVs,oVl,oLs,oLf,TeV,TlV,TbV,EnV,U])]
 ·simp [rtO,oRt,oVs,oVl,oLs,oLf,TeV,TlV,TbV,EnV,U]
 ·rintro ⟨⟨x',s',p'⟩,h'⟩ e
  simp only [cJ,TeV_inj,TlJ,TbJ,EnV_inj,Iinj,Uinj,Binj,tep_inj,rpI_inj,irI,trI,and_true] at e
  obtain ⟨rfl,rfl,rfl⟩:=e;rfl
theorem cPw (w:Nat) (hw:w<2^64) (M:Nat→AO) (n:Nat):caP PgF [U w] M n=some (.tup [EnV (pgW w).1,I (pgW w).2],[]):=by
 unfold PgF
 rw [cPs (ι:={w:Nat // w<2^64}) (A:=fun x=>[U x.1]) (R:=fun x=>rtO [EnV (pgW x.1).1,I (pgW x.1).2]) ⟨w,hw⟩ (by simp [TeV,TlV,TbV,EnV,U]) ?_ (by simp [rtO,oRt,oVs,oVl,oLs,oLf,TeV,TlV,TbV,EnV,U])]
 ·simp [rtO,oRt,oVs,oVl,oLs,oLf,TeV,TlV,TbV,EnV,U]
 ·rintro ⟨w',h'⟩ e
  simp only [cJ,TeV_inj,TlJ,TbJ,EnV_inj,Iinj,Uinj,Binj,tep_inj,rpI_inj,irI,trI,and_true] at e
  subst e;rfl
theorem cCt (b:Tl) (h:tlOK b) (M:Nat→AO) (n:Nat):caP CtF [TlV b] M n=some (I (chB b),[]):=by
 unfold CtF
 rw [cPs (ι:={b:Tl // tlOK b}) (A:=fun x=>[TlV x.1]) (R:=fun x=>rtO [I (chB x.1)]) ⟨b,h⟩ (by simp [TeV,TlV,TbV,EnV,U]) ?_ (by simp [rtO,oRt,oVs,oVl,oLs,oLf,TeV,TlV,TbV,EnV,U])]
 ·simp [rtO,oRt,oVs,oVl,oLs,oLf,TeV,TlV,TbV,EnV,U]
 ·rintro ⟨b',h'⟩ e
  simp only [cJ,TeV_inj,TlJ,TbJ,EnV_inj,Iinj,Uinj,Binj,tep_inj,rpI_inj,irI,trI,and_true] at e
  subst e;rfl
theorem cLk (b:Tl) (s p:Int) (h:tlOK b) (M:Nat→AO) (n:Nat):caP LkF [TlV b,I s,I p] M n=some (.tup [U (lkT b s p).1,B (lkT b s p).2],[]):=by
 unfold LkF
 rw [cPs (ι:={x:Tl×Int×Int // tlOK x.1}) (A:=fun x=>[TlV x.1.1,I x.1.2.1,I x.1.2.2]) (R:=fun x=>rtO [U (lkT x.1.1 x.1.2.1 x.1.2.2).1,B (lkT x.1.1 x.1.2.1 x.1.2.2).2]) ⟨(b,s,p),h⟩ (by simp [TeV,TlV,TbV,EnV,U]) ?_ (by simp [rtO,oRt,oVs,oVl,oLs,oLf,TeV,TlV,TbV,EnV,U])]
 ·simp [rtO,oRt,oVs,oVl,oLs,oLf,TeV,TlV,TbV,EnV,U]
 ·rintro ⟨⟨b',s',p'⟩,h'⟩ e
  simp only [cJ,TeV_inj,TlJ,TbJ,EnV_inj,Iinj,Uinj,Binj,tep_inj,rpI_inj,irI,trI,and_true] at e
  obtain ⟨rfl,rfl,rfl⟩:=e;rfl
theorem cIn (b:Tl) (s p:Int) (h:tlOK b) (M:Nat→AO) (n:Nat):caP InF [TlV b,I s,I p] M n=some (.tup [TlC (inT b s p).1 n,I (inT b s p).2],outC (inT b s p).1 n):=by
 unfold InF
 rw [cPs (ι:={x:Tl×Int×Int // tlOK x.1}) (A:=fun x=>[TlV x.1.1,I x.1.2.1,I x.1.2.2]) (R:=fun x=>rtO [TlO (inT x.1.1 x.1.2.1 x.1.2.2).1,I (inT x.1.1 x.1.2.1 x.1.2.2).2]) ⟨(b,s,p),h⟩ (by simp [TeV,TlV,TbV,EnV,U]) ?_ (by rw [open_tl];simp only;omega)]
 ·rw [open_tl]
 ·rintro ⟨⟨b',s',p'⟩,h'⟩ e
  simp only [cJ,TeV_inj,TlJ,TbJ,EnV_inj,Iinj,Uinj,Binj,tep_inj,rpI_inj,irI,trI,and_true] at e
  obtain ⟨rfl,rfl,rfl⟩:=e;rfl
theorem cFl (b:Tl) (s p:Int) (w:Nat) (h:tlOK b) (hw:w<2^64) (M:Nat→AO) (n:Nat):caP FiF7 [TlV b,I s,I p,U w] M n=some (.tup [TlC (fiT b s p w).1 n,I (fiT b s p w).2],outC (fiT b s p w).1 n):=by
 unfold FiF7
 rw [cPs (ι:={x:Tl×Int×Int×Nat // tlOK x.1∧x.2.2.2<2^64}) (A:=fun x=>[TlV x.1.1,I x.1.2.1,I x.1.2.2.1,U x.1.2.2.2]) (R:=fun x=>rtO [TlO (fiT x.1.1 x.1.2.1 x.1.2.2.1 x.1.2.2.2).1,I (fiT x.1.1 x.1.2.1 x.1.2.2.1 x.1.2.2.2).2]) ⟨(b,s,p,w),h,hw⟩ (by simp [TeV,TlV,TbV,EnV,U]) ?_ (by rw [open_tl];simp only;omega)]
 ·rw [open_tl]
 ·rintro ⟨⟨b',s',p',w'⟩,h'⟩ e
  simp only [cJ,TeV_inj,TlJ,TbJ,EnV_inj,Iinj,Uinj,Binj,tep_inj,rpI_inj,irI,trI,and_true] at e
  obtain ⟨rfl,rfl,rfl,rfl⟩:=e;rfl
theorem cFg (e:En) (p:Int) (h1:0≤e.2.1) (h2:e.2.1≤4294967295) (h3:0≤p) (M:Nat→AO) (n:Nat):caP FrgF [EnV e,I p] M n=some (I (frmG e p),[]):=by
 unfold FrgF
 rw [cPs (ι:={x:En×Int // 0≤x.1.2.1∧x.1.2.1≤4294967295∧0≤x.2}) (A:=fun x=>[EnV x.1.1,I x.1.2]) (R:=fun x=>rtO [I (frmG x.1.1 x.1.2)]) ⟨(e,p),h1,h2,h3⟩ (by simp [TeV,TlV,TbV,EnV,U]) ?_ (by simp [rtO,oRt,oVs,oVl,oLs,oLf,TeV,TlV,TbV,EnV,U])]
 ·simp [rtO,oRt,oVs,oVl,oLs,oLf,TeV,TlV,TbV,EnV,U]
 ·rintro ⟨⟨e',p'⟩,h'⟩ e
  simp only [cJ,TeV_inj,TlJ,TbJ,EnV_inj,Iinj,Uinj,Binj,tep_inj,rpI_inj,irI,trI,and_true] at e
  obtain ⟨rfl,rfl⟩:=e;rfl
theorem cRf (e:En) (wr:Bool) (M:Nat→AO) (n:Nat):caP RfF [EnV e,B wr] M n=some (I (rfE e wr),[]):=by
 unfold RfF
 rw [cPs (ι:=En×Bool) (A:=fun x=>[EnV x.1,B x.2]) (R:=fun x=>rtO [I (rfE x.1 x.2)]) (e,wr) (by simp [TeV,TlV,TbV,EnV,U]) ?_ (by simp [rtO,oRt,oVs,oVl,oLs,oLf,TeV,TlV,TbV,EnV,U])]
 ·simp [rtO,oRt,oVs,oVl,oLs,oLf,TeV,TlV,TbV,EnV,U]
 ·rintro ⟨e',wr'⟩ e
  simp only [cJ,TeV_inj,TlJ,TbJ,EnV_inj,Iinj,Uinj,Binj,tep_inj,rpI_inj,irI,trI,and_true] at e
  obtain ⟨rfl,rfl⟩:=e;rfl
theorem cCoT (t:Tb) (h:tbOK t) (M:Nat→AO) (n:Nat):caP CoTF [TbV t] M n=some (TbC t n,outT t n):=by
 unfold CoTF
 rw [cPs (ι:={x:Tb // tbOK x}) (A:=fun x=>[TbV x.1]) (R:=fun x=>rtO [TbO x.1]) ⟨t,h⟩ (by simp [TeV,TlV,TbV,EnV,U]) ?_ (by rw [open_tb1];simp only;omega)]
 ·rw [open_tb1]
 ·rintro ⟨t',h'⟩ e
  simp only [cJ,TeV_inj,TlJ,TbJ,EnV_inj,Iinj,Uinj,Binj,tep_inj,rpI_inj,irI,trI,and_true] at e
  subst e;rfl
theorem cCoB (b:Tl) (h:b.2.length≤1000000) (M:Nat→AO) (n:Nat):caP CoBF [TlV b] M n=some (TlC b n,outC b n):=by
 unfold CoBF
 rw [cPs (ι:={x:Tl // x.2.length≤1000000}) (A:=fun x=>[TlV x.1]) (R:=fun x=>rtO [TlO x.1]) ⟨b,h⟩ (by simp [TeV,TlV,TbV,EnV,U]) ?_ (by rw [open_tl1];simp only;omega)]
 ·rw [open_tl1]
 ·rintro ⟨b',h'⟩ e
  simp only [cJ,TeV_inj,TlJ,TbJ,EnV_inj,Iinj,Uinj,Binj,tep_inj,rpI_inj,irI,trI,and_true] at e
  subst e;rfl
theorem cMk (w:Nat) (wr:Bool) (hw:w<2^64) (M:Nat→AO) (n:Nat):caP MkF [U w,B wr] M n=some (.tup [U (mkW w wr).1,I (mkW w wr).2],[]):=by
 unfold MkF
 rw [cPs (ι:={x:Nat×Bool // x.1<2^64}) (A:=fun x=>[U x.1.1,B x.1.2]) (R:=fun x=>rtO [U (mkW x.1.1 x.1.2).1,I (mkW x.1.1 x.1.2).2]) ⟨(w,wr),hw⟩ (by simp [TeV,TlV,TbV,EnV,U]) ?_ (by simp [rtO,oRt,oVs,oVl,oLs,oLf,TeV,TlV,TbV,EnV,U])]
 ·simp [rtO,oRt,oVs,oVl,oLs,oLf,TeV,TlV,TbV,EnV,U]
 ·rintro ⟨⟨w',wr'⟩,h'⟩ e
  simp only [cJ,TeV_inj,TlJ,TbJ,EnV_inj,Iinj,Uinj,Binj,tep_inj,rpI_inj,irI,trI,and_true] at e
  obtain ⟨rfl,rfl⟩:=e;rfl
theorem cRe (t:Tb) (p:Int) (w:Nat) (h:tbOK t) (hw:w<2^64) (M:Nat→AO) (n:Nat):caP ReF [TbV t,I p,U w] M n=some (.tup [TbC (repP t p w).1 n,U (repP t p w).2.1,I (repP t p w).2.2],outT (repP t p w).1 n):=by
 unfold ReF
 rw [cPs (ι:={x:Tb×Int×Nat // tbOK x.1∧x.2.2<2^64}) (A:=fun x=>[TbV x.1.1,I x.1.2.1,U x.1.2.2]) (R:=fun x=>rtO [TbO (repP x.1.1 x.1.2.1 x.1.2.2).1,U (repP x.1.1 x.1.2.1 x.1.2.2).2.1,I (repP x.1.1 x.1.2.1 x.1.2.2).2.2]) ⟨(t,p,w),h,hw⟩ (by simp [TeV,TlV,TbV,EnV,U]) ?_ (by rw [open_rep];simp only;omega)]
 ·rw [open_rep]
 ·rintro ⟨⟨t',p',w'⟩,h'⟩ e
  simp only [cJ,TeV_inj,TlJ,TbJ,EnV_inj,Iinj,Uinj,Binj,tep_inj,rpI_inj,irI,trI,and_true] at e
  obtain ⟨rfl,rfl,rfl⟩:=e;rfl
set_option maxRecDepth 4000
theorem trow_pl {l:List Te}:∀ e∈trw l,∀ a∈e,a.plain:=by
 intro e he a ha
 obtain ⟨x,_,rfl⟩:=List.mem_map.1 he
 simp [trow] at ha
 rcases ha with rfl|rfl|rfl<;>trivial
theorem DfT_flat {a0:AV} {avs:List AV} {r o:AV} (h:DfT a0 avs=some (r,o)):r.flat∧o.flatO:=by
 obtain ⟨i,_,_,h3,h4⟩:=specM_some h
 subst h3 h4
 exact ⟨trow_pl,trivial⟩
theorem TlO_fv {b:Tl}:(TlO b).flatV:=by
 intro a ha
 simp at ha
 rcases ha with rfl|rfl
 ·trivial
 ·exact trow_pl
theorem tlO_fl {b:Tl} {n:Int}:(rtO [TlO b,I n]).flat:=by
 intro a ha
 simp at ha
 rcases ha with rfl|rfl
 ·exact TlO_fv
 ·trivial
theorem fkM {X:AX} (h1:X.call 167=caP CkJ) (h2:X.call 173=caP CkJ) (h3:X.call 171=caP IvF):FkX X :=
 ⟨fun x y hx hy M k=>by rw [h1];exact cCj x y hx hy M k,fun x y hx hy M k=>by rw [h2];exact cCj x y hx hy M k,fun x s p hx M k=>by rw [h3];exact cIj x s p hx M k⟩
theorem tbO_fl1 {t:Tb}:(rtO [TbO t]).flat:=TbO_fl
theorem tlO_fl1 {b:Tl}:(rtO [TlO b]).flat:=TlO_fv
noncomputable section
set_option maxRecDepth 4000
def Pc0:AX:=((AX.start wT).eqAt 103).eqAt 148
theorem pc0:XOK prog Pc0:=xok_eq (xok_eq (xok_start _ _) eqE) eqW8
def Pc1:AX:=Pc0.add 196 (caP FbF)
theorem pc1:XOK prog Pc1:=xoS pc0 (s196 Pc0 pc0) (fun _=>trivial) func196 (by kernel_rfl)
def Pc2:AX:=Pc1.add 217 (caP FbF)
theorem pc2:XOK prog Pc2:=xoS pc1 (s217 Pc1 pc1) (fun _=>trivial) func217 (by kernel_rfl)
def Pc3:AX:=Pc2.add 195 (caP FmF)
theorem pc3:XOK prog Pc3:=xoS pc2 (s195 Pc2 pc2 w0T rfl) (fun _=>trivial) func195 (by kernel_rfl)
def Pc4:AX:=Pc3.add 216 (caP FmF)
theorem pc4:XOK prog Pc4:=xoS pc3 (s216 Pc3 pc3 w0T rfl) (fun _=>trivial) func216 (by kernel_rfl)
def Pc5:AX:=Pc4.add 143 (caP EncF)
theorem pc5:XOK prog Pc5:=xoS pc4 (s143 Pc4 pc4 w0T cFm cFb) (fun x=>enc_flat x) func143 (by kernel_rfl)
def Pc6:AX:=Pc5.add 187 (caP EncF)
theorem pc6:XOK prog Pc6:=xoS pc5 (s187 Pc5 pc5 w0T cFm cFb) (fun x=>enc_flat x) func187 (by kernel_rfl)
def Pc7:AX:=Pc6.add 56 (caP DecF)
theorem pc7:XOK prog Pc7:=xoS pc6 (s56 Pc6 pc6 w0T cEn) (fun x=>dec_flat x.1) func56 (by kernel_rfl)
def Pc8:AX:=Pc7.add 131 (caP DecF)
theorem pc8:XOK prog Pc8:=xoS pc7 (s131 Pc7 pc7 w0T cEn) (fun x=>dec_flat x.1) func131 (by kernel_rfl)
def Pc9:AX:=Pc8.add 113 (caP EtF)
theorem pc9:XOK prog Pc9:=xoS pc8 (s113 Pc8 pc8 w0T (fun n h M k=>cDe n h M k)) (fun _=>by simp [rtO,AV.flat,AV.flatV,AV.flat1,EnV]) func113 (by kernel_rfl)
def Pc10:AX:=Pc9.add 126 (caP IfF)
theorem pc10:XOK prog Pc10:=xoS pc9 (s126 Pc9 pc9 ) (fun _=>trivial) func126 (by kernel_rfl)
def Pc11:AX:=Pc10.add 112 (caP DigF)
theorem pc11:XOK prog Pc11:=xoS pc10 (s112 Pc10 pc10 ) (fun _=>trivial) func112 (by kernel_rfl)
def Pc12:AX:=Pc11.add 117 (caP SuF)
theorem pc12:XOK prog Pc12:=xoS pc11 (s117 Pc11 pc11 w0T) (fun _=>trivial) func117 (by kernel_rfl)
def Pc13:AX:=Pc12.add 132 (caP SuF)
theorem pc13:XOK prog Pc13:=xoS pc12 (s132 Pc12 pc12 w0T) (fun _=>trivial) func132 (by kernel_rfl)
def Pc14:AX:=Pc13.add 122 (caP FiF)
theorem pc14:XOK prog Pc14:=xoS pc13 (s122 Pc13 pc13 ) (fun _=>trivial) func122 (by kernel_rfl)
def Pc15:AX:=Pc14.add 124 (caP DpF)
theorem pc15:XOK prog Pc15:=xoS pc14 (s124 Pc14 pc14 ) (fun _=>trivial) func124 (by kernel_rfl)
def Pc16:AX:=Pc15.add 119 (caP RaF)
theorem pc16:XOK prog Pc16:=xoS pc15 (s119 Pc15 pc15 ) (fun _=>trivial) func119 (by kernel_rfl)
def Pc17:AX:=Pc16.add 120 (caP OrF)
theorem pc17:XOK prog Pc17:=xoS pc16 (s120 Pc16 pc16 w0T) (fun _=>trivial) func120 (by kernel_rfl)
def Pc18:AX:=Pc17.add 121 (caP TwF)
theorem pc18:XOK prog Pc18:=xoS pc17 (s121 Pc17 pc17 w0T (fun t f h M n=>cFi t f h M n)) (fun _=>trivial) func121 (by kernel_rfl)
def Pc19:AX:=Pc18.add 115 (caP IxF)
theorem pc19:XOK prog Pc19:=xoS pc18 (s115 Pc18 pc18 w0T) (fun x=>idxE_pl) func115 (by kernel_rfl)
def Pc20:AX:=Pc19.add 114 (caP NuF)
theorem pc20:XOK prog Pc20:=xoS pc19 (s114 Pc19 pc19 w0T (fun x M n=>cIf x M n) (fun t h M n=>cIx t h M n)) (fun _=>trivial) func114 (by kernel_rfl)
def Pc21:AX:=Pc20.add 116 (caG (ckS 0))
theorem pc21:XOK prog Pc21:=xpM pc20 (by kernel_rfl) (.inl ⟨(s116_0 Pc20 pc20 w0T (fun n h M k=>cDe n h M k) (fun e l M n=>cSu e l M n)).caG,boK _ func116 (by kernel_rfl)⟩) fun _ _ _ _ h=>cGk h
def Pc22:AX:=Pc21.add 116 (caG (ckS 1))
theorem pc22:XOK prog Pc22:=xpM pc21 (by kernel_rfl) (.inl ⟨(s116_1 Pc21 pc21 w0T (fun n h M k=>cDe n h M k) (fun e l M n=>cSu e l M n) rfl).caG,boK _ func116 (by kernel_rfl)⟩) fun _ _ _ _ h=>cGk h
def Pc23:AX:=Pc22.add 116 (caG (ckS 2))
theorem pc23:XOK prog Pc23:=xpM pc22 (by kernel_rfl) (.inl ⟨(s116_2 Pc22 pc22 w0T (fun n h M k=>cDe n h M k) (fun e l M n=>cSu e l M n) rfl).caG,boK _ func116 (by kernel_rfl)⟩) fun _ _ _ _ h=>cGk h
def Pc24:AX:=Pc23.add 182 (caP FIxB)
theorem pc24:XOK prog Pc24:=xoS pc23 (s182 Pc23 pc23 ) (fun _=>trivial) func182 (by kernel_rfl)
def Pc25:AX:=Pc24.add 118 (caP FCtB)
theorem pc25:XOK prog Pc25:=xoS pc24 (s118 Pc24 pc24 rfl) (fun _=>trivial) func118 (by kernel_rfl)
def Pc26:AX:=Pc25.add 194 (caP FIxI)
theorem pc26:XOK prog Pc26:=xoS pc25 (s194 Pc25 pc25 ) (fun _=>trivial) func194 (by kernel_rfl)
def Pc27:AX:=Pc26.add 142 (caP fun avs=>FCtI (avs.map (nilV 1)))
theorem pc27:XOK prog Pc27:=xok_specn pc26 1 (s142 Pc26 pc26 rfl) (fun _=>trivial) func142 (by kernel_rfl)
def Pc28:AX:=Pc27.add 39 (caP ChF)
theorem pc28:XOK prog Pc28:=xoS pc27 (s39 Pc27 pc27 w0T (fun t h M n=>cNu t h M n) (fun t h M n=>cIx t h M n) rfl rfl) (fun _=>trivial) func39 (by kernel_rfl)
def Pc29:AX:=Pc28.add 123 (caG (rwS 0))
theorem pc29:XOK prog Pc29:=xpM pc28 (by kernel_rfl) (.inl ⟨(s123_0 Pc28 pc28 w0T (fun n h M k=>cDe n h M k) (fun e l M n=>cSu e l M n) (fun t f h M n=>cFi t f h M n) (fun t f h M n=>cDp t f h M n)).caG,boK _ func123 (by kernel_rfl)⟩) fun _ _ _ _ h=>cGk h
def Pc30:AX:=Pc29.add 123 (caG (rwS 1))
theorem pc30:XOK prog Pc30:=xpM pc29 (by kernel_rfl) (.inl ⟨(s123_1 Pc29 pc29 w0T (fun n h M k=>cDe n h M k) (fun e l M n=>cSu e l M n) (fun t f h M n=>cFi t f h M n) (fun t f h M n=>cDp t f h M n) rfl).caG,boK _ func123 (by kernel_rfl)⟩) fun _ _ _ _ h=>cGk h
def Pc31:AX:=Pc30.add 123 (caG (rwS 2))
theorem pc31:XOK prog Pc31:=xpM pc30 (by kernel_rfl) (.inl ⟨(s123_2 Pc30 pc30 w0T (fun n h M k=>cDe n h M k) (fun e l M n=>cSu e l M n) (fun t f h M n=>cFi t f h M n) (fun t f h M n=>cDp t f h M n) rfl).caG,boK _ func123 (by kernel_rfl)⟩) fun _ _ _ _ h=>cGk h
def Pc32:AX:=Pc31.add 40 (caP ChF)
theorem pc32:XOK prog Pc32:=xoS pc31 (s40_c Pc31 pc31 w0T (fun t h M n=>cRa t h M n) (fun t h M n=>cOr t h M n) (fun t h M n=>cTw t h M n) (fun t f h M n=>cFi t f h M n) rfl) (fun _=>trivial) func40 (by kernel_rfl)
def Pc33:AX:=Pc32.add 139 (caP DgtF)
theorem pc33:XOK prog Pc33:=xoS pc32 (s139 Pc32 pc32 w0T) (fun _=>trivial) func139 (by kernel_rfl)
def Pc34:AX:=Pc33.add 137 (caP PaF)
theorem pc34:XOK prog Pc34:=xoS pc33 (s137 Pc33 pc33 w0T (fun t h M n=>cIx t h M n) (fun p l h1 h2 M n=>cDgt p l h1 h2 M n) (fun w h M n=>cEt w h M n)) (fun x=>srow_pl) func137 (by kernel_rfl)
def Pc35:AX:=Pc34.add 110 (caP LaF)
theorem pc35:XOK prog Pc35:=xoS pc34 (s110 Pc34 pc34 w0T (fun t p h M n=>cPa t p h M n)) (fun x=>by simp [rtO,AV.flat,AV.flatV,AV.flat1,U,stV,srow]) func110 (by kernel_rfl)
def Pc36:AX:=Pc35.add 109 (caP CkF)
theorem pc36:XOK prog Pc36:=xoS pc35 (s109 Pc35 pc35 w0T (fun t h M n=>cCh t h M n)) (fun _=>trivial) func109 (by kernel_rfl)
def Pc37:AX:=Pc36.add 35 (caP WaF)
theorem pc37:XOK prog Pc37:=xoS pc36 (s35 Pc36 pc36 w0T (fun t h n lim M k=>cCk t h n lim M k) (fun t p h M n=>cLa t p h M n)) (fun _=>by simp [rtO,AV.flat,AV.flatV,AV.flat1,U]) func35 (by kernel_rfl)
def Pc38:AX:=Pc37.add 37 (caP MiF)
theorem pc38:XOK prog Pc38:=xoS pc37 (s37 Pc37 pc37 w0T (fun t h n lim M k=>cCk t h n lim M k) (fun t p h M n=>cLa t p h M n) (fun w h M n=>cEt w h M n)) (fun _=>by simp [rtO,AV.flat,AV.flatV,AV.flat1,U]) func37 (by kernel_rfl)
def Pc39:AX:=Pc38.add 41 (caP HuF)
theorem pc39:XOK prog Pc39:=xoS pc38 (s41 Pc38 pc38 w0T (fun t h n lim M k=>cCk t h n lim M k) (fun t p h M n=>cLa t p h M n) (fun w h M n=>cEt w h M n)) (fun _=>trivial) func41 (by kernel_rfl)
def Pc40:AX:=Pc39.add 214 (sortN)
theorem pc40:XOK prog Pc40:=xpM pc39 (by kernel_rfl) (.inl ⟨sort_ok,boK _ func214 (by kernel_rfl)⟩) fun _ _ _ _ h=>sort_keys h
def Pc41:AX:=Pc40.add 184 (callC FClN)
theorem pc41:XOK prog Pc41:=xok_add pc40 (.inl ⟨PSd.callC (s184 Pc40 pc40 w0T),boK _ func184 (by kernel_rfl)⟩) fun _ _ _ _ h b hb=>callC_keys h b hb
def Pc42:AX:=Pc41.add 185 (callC FClD)
theorem pc42:XOK prog Pc42:=xok_add pc41 (.inl ⟨PSd.callC (s185 Pc41 pc41 w0T),boK _ func185 (by kernel_rfl)⟩) fun _ _ _ _ h b hb=>callC_keys h b hb
def Pc43:AX:=Pc42.add 128 (caP ClF)
theorem pc43:XOK prog Pc43:=xoS pc42 (s128 Pc42 pc42 w0T rfl rfl) (fun x=>TbO_fl) func128 (by kernel_rfl)
def Pc44:AX:=Pc43.add 49 (caP NeF)
theorem pc44:XOK prog Pc44:=xoS pc43 (s49 Pc43 pc43 w0T (fun x M n=>cIf x M n)) (fun x=>newO_fl) func49 (by kernel_rfl)
def Pc45:AX:=Pc44.add 218 ovlF
theorem pc45:XOK prog Pc45:=xok_add pc44 (.inr xOvl) fun _ _ _ _ h=>ovlF_keys h
def Pc46:AX:=Pc45.add 190 (callM false two2 FInsD)
theorem pc46:XOK prog Pc46:=xpM pc45 (by kernel_rfl) (.inl ⟨((s190 Pc45 pc45 rfl).callM fun _ _ _ _ h=>FInsD_flat h),boK _ func190 (by kernel_rfl)⟩) fun _ _ _ _ h=>callM_keys h
def Pc47:AX:=Pc46.add 192 (callM false two2 FDelD)
theorem pc47:XOK prog Pc47:=xpM pc46 (by kernel_rfl) (.inl ⟨((s192 Pc46 pc46 w0T).callM fun _ _ _ _ h=>FDelD_flat h),boK _ func192 (by kernel_rfl)⟩) fun _ _ _ _ h=>callM_keys h
def Pc48:AX:=Pc47.add 189 (caG clS)
theorem pc48:XOK prog Pc48:=xpM pc47 (by kernel_rfl) (.inl ⟨(s189 Pc47 pc47 w0T).caG,boK _ func189 (by kernel_rfl)⟩) fun _ _ _ _ h=>cGk h
def Pc49:AX:=Pc48.add 191 (caG clS)
theorem pc49:XOK prog Pc49:=xpM pc48 (by kernel_rfl) (.inl ⟨(s191 Pc48 pc48 w0T).caG,boK _ func191 (by kernel_rfl)⟩) fun _ _ _ _ h=>cGk h
def Pc50:AX:=Pc49.add 188 (caG seB)
theorem pc50:XOK prog Pc50:=xpM pc49 (by kernel_rfl) (.inl ⟨(GSd.or (s188 Pc49 pc49 w0T 189 rfl) (s188 Pc49 pc49 w0T 191 rfl)).caG,boK _ func188 (by kernel_rfl)⟩) fun _ _ _ _ h=>cGk h
def Pc51:AX:=Pc50.add 130 (caG puS)
theorem pc51:XOK prog Pc51:=xpM pc50 (by kernel_rfl) (.inl ⟨(s130 Pc50 pc50 w0T (olaR rfl) (fun p l h1 h2 M n=>cDgt p l h1 h2 M n)).caG,boK _ func130 (by kernel_rfl)⟩) fun _ _ _ _ h=>cGk h
def Pc52:AX:=Pc51.add 186 (caG adS)
theorem pc52:XOK prog Pc52:=xpM pc51 (by kernel_rfl) (.inl ⟨(s186 Pc51 pc51 w0T rfl).caG,boK _ func186 (by kernel_rfl)⟩) fun _ _ _ _ h=>cGk h
def Pc53:AX:=Pc52.add 129 (caG deB)
theorem pc53:XOK prog Pc53:=xpM pc52 (by kernel_rfl) (.inl ⟨(GSd.or (s129 Pc52 pc52 w0T (olaR rfl) (fun p l h1 h2 M n=>cDgt p l h1 h2 M n) (fun f hf M n=>encT f hf M n) rfl) (s129_1 Pc52 pc52 w0T (olaR rfl) (fun p l h1 h2 M n=>cDgt p l h1 h2 M n) (fun f hf M n=>encT f hf M n) rfl)).caG,boK _ func129 (by kernel_rfl)⟩) fun _ _ _ _ h=>cGk h
def Pc54:AX:=Pc53.add 135 (caG dpS)
theorem pc54:XOK prog Pc54:=xpM pc53 (by kernel_rfl) (.inl ⟨(s135 Pc53 pc53 w0T rfl rfl).caG,boK _ func135 (by kernel_rfl)⟩) fun _ _ _ _ h=>cGk h
def Pc55:AX:=Pc54.add 138 (caG wdS)
theorem pc55:XOK prog Pc55:=xpM pc54 (by kernel_rfl) (.inl ⟨(s138 Pc54 pc54 w0T rfl rfl).caG,boK _ func138 (by kernel_rfl)⟩) fun _ _ _ _ h=>cGk h
def Pc56:AX:=Pc55.add 127 (caP FhF)
theorem pc56:XOK prog Pc56:=xoS pc55 (s127 Pc55 pc55 w0T (fun x M n=>cIf x M n) (fun t h M n=>cIx t h M n)) (fun _=>trivial) func127 (by kernel_rfl)
def Pc57:AX:=Pc56.add 51 (caP SeF)
theorem pc57:XOK prog Pc57:=xoS pc56 (s51 Pc56 pc56 w0T (fun t h n lim M k=>cCk t h n lim M k) (fun t p h M n=>cLa t p h M n) (fun n h M k=>cDe n h M k) (fun w h M n=>cEt w h M n) (fun t fs m ht ha hl M n=>cFh t fs m ht ha hl M n) (fun t h M n=>cCl t h M n) rfl rfl) (fun x=>tabO_fl) func51 (by kernel_rfl)
def Pc58:AX:=Pc57.add 68 (caP PrF)
theorem pc58:XOK prog Pc58:=xoS pc57 (s68 Pc57 pc57 w0T (fun n h M k=>cDe n h M k) (fun k f d a x h M n=>cEn k f d a x h M n)) (fun _=>by simp [rtO,AV.flat,AV.flatV,AV.flat1,U]) func68 (by kernel_rfl)
def Pc59:AX:=Pc58.add 64 (caP SpF)
theorem pc59:XOK prog Pc59:=xoS pc58 (s64 Pc58 pc58 w0T (fun t h n lim M k=>cCk t h n lim M k) (fun t p h M n=>cLa t p h M n) (fun w h M n=>cEt w h M n) (fun t h M n=>cCl t h M n) (fun w i h M n=>cPr w i h M n) rfl rfl rfl) (fun x=>tabO_fl) func64 (by kernel_rfl)
def Pc60:AX:=Pc59.add 141 (caG clrB)
theorem pc60:XOK prog Pc60:=xpM pc59 (by kernel_rfl) (.inl ⟨(GSd.or (s141 Pc59 pc59 w0T (octR rfl)) (s141_0 Pc59 pc59 w0T (octR rfl))).caG,boK _ func141 (by kernel_rfl)⟩) fun _ _ _ _ h=>cGk h
def Pc61:AX:=Pc60.add 193 (caG ixB)
theorem pc61:XOK prog Pc61:=xpM pc60 (by kernel_rfl) (.inl ⟨(GSd.or (s193 Pc60 pc60 w0T rfl) (s193_0 Pc60 pc60 w0T rfl)).caG,boK _ func193 (by kernel_rfl)⟩) fun _ _ _ _ h=>cGk h
def Pc62:AX:=Pc61.add 140 (caG dfB)
theorem pc62:XOK prog Pc62:=xpM pc61 (by kernel_rfl) (.inl ⟨(GSd.or (s140 Pc61 pc61 w0T rfl rfl) (s140_0 Pc61 pc61 w0T rfl)).caG,boK _ func140 (by kernel_rfl)⟩) fun _ _ _ _ h=>cGk h
def Pc63:AX:=Pc62.add 55 (caP ClrF)
theorem pc63:XOK prog Pc63:=xoS pc62 (s55 Pc62 pc62 w0T rfl (fun t h n lim M k=>cCk t h n lim M k) (fun t p h M n=>cPa t p h M n) (fun p l h1 h2 M n=>cDgt p l h1 h2 M n) (fun t h M n=>cCl t h M n) rfl rfl) (fun x=>clrO_fl) func55 (by kernel_rfl)
def Pc64:AX:=Pc63.add 61 (caP ReF)
theorem pc64:XOK prog Pc64:=xoS pc63 (s61 Pc63 pc63 w0T (fun t h n lim M k=>cCk t h n lim M k) (fun t p h M n=>cLa t p h M n) (fun n h M k=>cDe n h M k) (fun e l M n=>cSu e l M n) (fun t h M n=>cCl t h M n) rfl) (fun x=>repO_fl) func61 (by kernel_rfl)
def Pc65:AX:=Pc64.add 153 (callM false nine9 FDelN)
theorem pc65:XOK prog Pc65:=xpM pc64 (by kernel_rfl) (.inl ⟨((s153 Pc64 pc64 w0T).callM fun _ _ _ _ h=>FDelN_flat h),boK _ func153 (by kernel_rfl)⟩) fun _ _ _ _ h=>callM_keys h
def Pc66:AX:=Pc65.add 152 (caP JoF)
theorem pc66:XOK prog Pc66:=xoS pc65 (s152 Pc65 pc65 w0T (fun n h M k=>cDe n h M k) (fun k f d a x h M n=>cEn k f d a x h M n)) (fun _=>by simp [rtO,AV.flat,AV.flatV,AV.flat1,U]) func152 (by kernel_rfl)
def Pc67:AX:=Pc66.add 66 (caP AsF)
theorem pc67:XOK prog Pc67:=xoS pc66 (s66 Pc66 pc66 w0T (fun t h n lim M k=>cCk t h n lim M k) (fun t p h M n=>cPa t p h M n) (fun p l h1 h2 M n=>cDgt p l h1 h2 M n) (fun t h M n=>cCl t h M n) (fun ws h8 h64 M n=>cJo ws h8 h64 M n) rfl rfl) (fun x=>tabO_fl) func66 (by kernel_rfl)
def Pc68:AX:=Pc67.add 165 (caP TrF)
theorem pc68:XOK prog Pc68:=xoS pc67 (s165 Pc67 pc67 w0T (fun n h M k=>cDe n h M k)) (fun _=>by simp [rtO,AV.flat,AV.flatV,AV.flat1,U]) func165 (by kernel_rfl)
def Pc69:AX:=Pc68.add 209 (caP SpnF)
theorem pc69:XOK prog Pc69:=xoS pc68 (s209 Pc68 pc68 w0T (fun w h M k=>cTr w h M k)) (fun _=>trivial) func209 (by kernel_rfl)
def Pc70:AX:=Pc69.add 164 (caP PlcF)
theorem pc70:XOK prog Pc70:=xoS pc69 (s164 Pc69 pc69 w0T) (fun _=>trivial) func164 (by kernel_rfl)
def Pc71:AX:=Pc70.add 169 (caP CvF)
theorem pc71:XOK prog Pc71:=xoS pc70 (s169 Pc70 pc70 w0T (fun w h M k=>cSpn w h M k)) (fun _=>trivial) func169 (by kernel_rfl)
def Pc72:AX:=Pc71.add 168 (caP OvF)
theorem pc72:XOK prog Pc72:=xoS pc71 (s168 Pc71 pc71 w0T (fun w h M k=>cSpn w h M k)) (fun _=>trivial) func168 (by kernel_rfl)
def Pc73:AX:=Pc72.add 167 (caP CkJ)
theorem pc73:XOK prog Pc73:=xoS pc72 (s167 Pc72 pc72 w0T (fun x y h1 h2 M k=>cOv x y h1 h2 M k)) (fun _=>trivial) func167 (by kernel_rfl)
def Pc74:AX:=Pc73.add 173 (caP CkJ)
theorem pc74:XOK prog Pc74:=xoS pc73 (s173 Pc73 pc73 w0T (fun x y h1 h2 M k=>cOv x y h1 h2 M k)) (fun _=>trivial) func173 (by kernel_rfl)
def Pc75:AX:=Pc74.add 171 (caP IvF)
theorem pc75:XOK prog Pc75:=xoS pc74 (s171 Pc74 pc74 w0T (fun x s p h M k=>cCv x s p h M k)) (fun _=>trivial) func171 (by kernel_rfl)
def Pc76:AX:=Pc75.add 208 (caP IxJ)
theorem pc76:XOK prog Pc76:=xoS pc75 (s208 Pc75 pc75 w0T (fkM rfl rfl rfl)) (fun _=>trivial) func208 (by kernel_rfl)
def Pc77:AX:=Pc76.add 166 (caP CfF)
theorem pc77:XOK prog Pc77:=xoS pc76 (s166 Pc76 pc76 w0T rfl) (fun _=>trivial) func166 (by kernel_rfl)
def Pc78:AX:=Pc77.add 211 (caP ClTF)
theorem pc78:XOK prog Pc78:=xoS pc77 (s211 Pc77 pc77 w0T) (fun x=>trow_pl) func211 (by kernel_rfl)
def Pc79:AX:=Pc78.add 210 (callM false three3 DfT)
theorem pc79:XOK prog Pc79:=xpM pc78 (by kernel_rfl) (.inl ⟨((s210 Pc78 pc78 w0T rfl (fkM rfl rfl rfl)).callM fun _ _ _ _ h=>DfT_flat h),boK _ func210 (by kernel_rfl)⟩) fun _ _ _ _ h=>callM_keys h
def Pc80:AX:=Pc79.add 92 (caP CtF)
theorem pc80:XOK prog Pc80:=xoS pc79 (s92 Pc79 pc79 w0T (fun s p M k=>cPlc s p M k) (fun w h M k=>cTr w h M k) rfl) (fun _=>trivial) func92 (by kernel_rfl)
def Pc81:AX:=Pc80.add 93 (caP LkF)
theorem pc81:XOK prog Pc81:=xoS pc80 (s93 Pc80 pc80 w0T (fun b h M k=>cCt b h M k) (fun x s p h M k=>cCv x s p h M k)) (fun _=>by simp [rtO,AV.flat,AV.flatV,AV.flat1,U]) func93 (by kernel_rfl)
def Pc82:AX:=Pc81.add 170 (caP WoF)
theorem pc82:XOK prog Pc82:=xoS pc81 (s170 Pc81 pc81 w0T rfl rfl) (fun x=>TlO_fl) func170 (by kernel_rfl)
def Pc83:AX:=Pc82.add 98 (caP InF)
theorem pc83:XOK prog Pc83:=xoS pc82 (s98 Pc82 pc82 w0T (fun b h M k=>cCt b h M k) (fun s p M k=>cPlc s p M k) rfl) (fun x=>tlO_fl) func98 (by kernel_rfl)
def Pc84:AX:=Pc83.add 100 (caP FiF7)
theorem pc84:XOK prog Pc84:=xoS pc83 (s100 Pc83 pc83 w0T (fun b h M k=>cCt b h M k) (fun s p M k=>cPlc s p M k) (fun w h M k=>cTr w h M k) rfl) (fun x=>tlO_fl) func100 (by kernel_rfl)
def Pc85:AX:=Pc84.add 172 (caP PgF)
theorem pc85:XOK prog Pc85:=xoS pc84 (s172 Pc84 pc84 w0T (fun n h M k=>cDe n h M k)) (fun _=>by simp [rtO,AV.flat,AV.flatV,AV.flat1,U,EnV]) func172 (by kernel_rfl)
def Pc86:AX:=Pc85.add 99 (caP MkF)
theorem pc86:XOK prog Pc86:=xoS pc85 (s99 Pc85 pc85 w0T (fun w h M k=>cPw w h M k)) (fun _=>by simp [rtO,AV.flat,AV.flatV,AV.flat1,U]) func99 (by kernel_rfl)
def Pc87:AX:=Pc86.add 96 (caP FrgF)
theorem pc87:XOK prog Pc87:=xoS pc86 (s96 Pc86 pc86 w0T) (fun _=>trivial) func96 (by kernel_rfl)
def Pc88:AX:=Pc87.add 97 (caP RfF)
theorem pc88:XOK prog Pc88:=xoS pc87 (s97 Pc87 pc87 w0T) (fun _=>trivial) func97 (by kernel_rfl)
def Pc89:AX:=Pc88.add 94 (caP CoTF)
theorem pc89:XOK prog Pc89:=xoS pc88 (s94 Pc88 pc88 w0T) (fun x=>tbO_fl1) func94 (by kernel_rfl)
def Pc90:AX:=Pc89.add 95 (caP CoBF)
theorem pc90:XOK prog Pc90:=xoS pc89 (s95 Pc89 pc89 w0T) (fun x=>tlO_fl1) func95 (by kernel_rfl)
theorem callD_ok {F:List AV→Option AV} {avs:List AV} {r:AV} {M:Nat→AO} {n:Nat} (hF:F avs=some r) (hc:avs.all AV.closedV=true) (ho:oRt n r=(r,[],n)):callD F avs M n=some (r,[]):=by
 simp only [callD]
 rw [if_pos hc,hF]
 simp only [ho]
 rw [if_pos (by omega)]
noncomputable abbrev Ta0:AX:=Pc90
theorem ta0:XOK prog Ta0:=pc90
def SeD:List AV→Option AV:=spF (ι:={x:StD // stOK x}) (fun x=>[TbV x.1.1,I x.1.2.1,U x.1.2.2.1,.rd 1 (irw x.1.2.2.2)]) fun x=>rtO [TbV (setP x.1.1 x.1.2.1 x.1.2.2.1 x.1.2.2.2).1,I (setP x.1.1 x.1.2.1 x.1.2.2.1 x.1.2.2.2).2]
theorem SeD_s:PSd prog 51 SeD:=PSd.softF (s51 Pc56 pc56 w0T (fun t h n lim M k=>cCk t h n lim M k) (fun t p h M n=>cLa t p h M n) (fun n h M k=>cDe n h M k) (fun w h M n=>cEt w h M n) (fun t fs m ht ha hl M n=>cFh t fs m ht ha hl M n) (fun t h M n=>cCl t h M n) rfl rfl) fun i=>by simp [RLe,rtO,SLeVs,SLeV,SLeL,SLe,TbO,TbV,TlO,TlV,U]
def Ta1:AX:=Ta0.add 51 (callD SeD)
theorem ta1:XOK prog Ta1:=xok_add ta0 (.inl ⟨PSd.callD SeD_s,boK _ func51 (by kernel_rfl)⟩) fun _ _ _ _ h b hb=>callD_keys h b hb
theorem SeD_k (t:Tb) (p:Int) (w:Nat) (fs:List Int) (h:stOK (t,p,w,fs)) (M:Nat→AO) (n:Nat):callD SeD [TbV t,I p,U w,.rd 1 (irw fs)] M n=some (.tup [TbV (setP t p w fs).1,I (setP t p w fs).2],[]):=by
 refine callD_ok (sFe (ι:={x:StD // stOK x}) (A:=fun x=>[TbV x.1.1,I x.1.2.1,U x.1.2.2.1,.rd 1 (irw x.1.2.2.2)]) (R:=fun x=>rtO [TbV (setP x.1.1 x.1.2.1 x.1.2.2.1 x.1.2.2.2).1,I (setP x.1.1 x.1.2.1 x.1.2.2.1 x.1.2.2.2).2]) ⟨(t,p,w,fs),h⟩ ?_) (by simp [AV.closedV,TbV,TlV,U]) (by simp [rtO,oRt,oVs,oVl,oLs,oLf,TbV,TlV,U])
 rintro ⟨⟨t',p',w',fs'⟩,h'⟩ e
 simp only [cJ,TbJ,TlJ,U,I,B,AV.v.injEq,Value.int.injEq,Value.bool.injEq,AV.rd.injEq,irI,true_and,and_true,Int.ofNat_inj] at e
 obtain ⟨rfl,rfl,rfl,rfl⟩:=e;rfl
def SpD:List AV→Option AV:=spF (ι:={x:Tb×Int // tbOK x.1∧x.1.2.1.length≤999000}) (fun x=>[TbV x.1.1,I x.1.2]) fun x=>rtO [TbV (splP x.1.1 x.1.2).1,I (splP x.1.1 x.1.2).2]
theorem SpD_s:PSd prog 64 SpD:=PSd.softF (s64 Pc58 pc58 w0T (fun t h n lim M k=>cCk t h n lim M k) (fun t p h M n=>cLa t p h M n) (fun w h M n=>cEt w h M n) (fun t h M n=>cCl t h M n) (fun w i h M n=>cPr w i h M n) rfl rfl rfl) fun i=>by simp [RLe,rtO,SLeVs,SLeV,SLeL,SLe,TbO,TbV,TlO,TlV,U]
def Ta2:AX:=Ta1.add 64 (callD SpD)
theorem ta2:XOK prog Ta2:=xok_add ta1 (.inl ⟨PSd.callD SpD_s,boK _ func64 (by kernel_rfl)⟩) fun _ _ _ _ h b hb=>callD_keys h b hb
theorem SpD_k (t:Tb) (g:Int) (h:tbOK t∧t.2.1.length≤999000) (M:Nat→AO) (n:Nat):callD SpD [TbV t,I g] M n=some (.tup [TbV (splP t g).1,I (splP t g).2],[]):=by
 refine callD_ok (sFe (ι:={x:Tb×Int // tbOK x.1∧x.1.2.1.length≤999000}) (A:=fun x=>[TbV x.1.1,I x.1.2]) (R:=fun x=>rtO [TbV (splP x.1.1 x.1.2).1,I (splP x.1.1 x.1.2).2]) ⟨(t,g),h⟩ ?_) (by simp [AV.closedV,TbV,TlV,U]) (by simp [rtO,oRt,oVs,oVl,oLs,oLf,TbV,TlV,U])
 rintro ⟨⟨t',g'⟩,h'⟩ e
 simp only [cJ,TbJ,TlJ,U,I,B,AV.v.injEq,Value.int.injEq,Value.bool.injEq,AV.rd.injEq,irI,true_and,and_true,Int.ofNat_inj] at e
 obtain ⟨rfl,rfl⟩:=e;rfl
def AsmD:List AV→Option AV:=spF (ι:={x:Tb×Int // tbOK x.1∧x.1.2.1.length≤999000}) (fun x=>[TbV x.1.1,I x.1.2]) fun x=>rtO [TbV (asmP x.1.1 x.1.2).1,I (asmP x.1.1 x.1.2).2]
theorem AsmD_s:PSd prog 66 AsmD:=PSd.softF (s66 Pc66 pc66 w0T (fun t h n lim M k=>cCk t h n lim M k) (fun t p h M n=>cPa t p h M n) (fun p l h1 h2 M n=>cDgt p l h1 h2 M n) (fun t h M n=>cCl t h M n) (fun ws h8 h64 M n=>cJo ws h8 h64 M n) rfl rfl) fun i=>by simp [RLe,rtO,SLeVs,SLeV,SLeL,SLe,TbO,TbV,TlO,TlV,U]
def Ta3:AX:=Ta2.add 66 (callD AsmD)
theorem ta3:XOK prog Ta3:=xok_add ta2 (.inl ⟨PSd.callD AsmD_s,boK _ func66 (by kernel_rfl)⟩) fun _ _ _ _ h b hb=>callD_keys h b hb
theorem AsmD_k (t:Tb) (g:Int) (h:tbOK t∧t.2.1.length≤999000) (M:Nat→AO) (n:Nat):callD AsmD [TbV t,I g] M n=some (.tup [TbV (asmP t g).1,I (asmP t g).2],[]):=by
 refine callD_ok (sFe (ι:={x:Tb×Int // tbOK x.1∧x.1.2.1.length≤999000}) (A:=fun x=>[TbV x.1.1,I x.1.2]) (R:=fun x=>rtO [TbV (asmP x.1.1 x.1.2).1,I (asmP x.1.1 x.1.2).2]) ⟨(t,g),h⟩ ?_) (by simp [AV.closedV,TbV,TlV,U]) (by simp [rtO,oRt,oVs,oVl,oLs,oLf,TbV,TlV,U])
 rintro ⟨⟨t',g'⟩,h'⟩ e
 simp only [cJ,TbJ,TlJ,U,I,B,AV.v.injEq,Value.int.injEq,Value.bool.injEq,AV.rd.injEq,irI,true_and,and_true,Int.ofNat_inj] at e
 obtain ⟨rfl,rfl⟩:=e;rfl
def ClrD:List AV→Option AV:=spF (ι:={x:Tb×Int // tbOK x.1∧x.1.2.1.length≤999000}) (fun x=>[TbV x.1.1,I x.1.2]) fun x=>rtO [TbV (clrP x.1.1 x.1.2).1,U (clrP x.1.1 x.1.2).2.1,.rd 1 (irw (clrP x.1.1 x.1.2).2.2.1),I (clrP x.1.1 x.1.2).2.2.2]
theorem ClrD_s:PSd prog 55 ClrD:=PSd.softF (s55 Pc62 pc62 w0T rfl (fun t h n lim M k=>cCk t h n lim M k) (fun t p h M n=>cPa t p h M n) (fun p l h1 h2 M n=>cDgt p l h1 h2 M n) (fun t h M n=>cCl t h M n) rfl rfl) fun i=>by simp [RLe,rtO,SLeVs,SLeV,SLeL,SLe,TbO,TbV,TlO,TlV,U]
def Ta4:AX:=Ta3.add 55 (callD ClrD)
theorem ta4:XOK prog Ta4:=xok_add ta3 (.inl ⟨PSd.callD ClrD_s,boK _ func55 (by kernel_rfl)⟩) fun _ _ _ _ h b hb=>callD_keys h b hb
theorem ClrD_k (t:Tb) (g:Int) (h:tbOK t∧t.2.1.length≤999000) (M:Nat→AO) (n:Nat):callD ClrD [TbV t,I g] M n=some (.tup [TbV (clrP t g).1,U (clrP t g).2.1,.rd 1 (irw (clrP t g).2.2.1),I (clrP t g).2.2.2],[]):=by
 refine callD_ok (sFe (ι:={x:Tb×Int // tbOK x.1∧x.1.2.1.length≤999000}) (A:=fun x=>[TbV x.1.1,I x.1.2]) (R:=fun x=>rtO [TbV (clrP x.1.1 x.1.2).1,U (clrP x.1.1 x.1.2).2.1,.rd 1 (irw (clrP x.1.1 x.1.2).2.2.1),I (clrP x.1.1 x.1.2).2.2.2]) ⟨(t,g),h⟩ ?_) (by simp [AV.closedV,TbV,TlV,U]) (by simp [rtO,oRt,oVs,oVl,oLs,oLf,TbV,TlV,U])
 rintro ⟨⟨t',g'⟩,h'⟩ e
 simp only [cJ,TbJ,TlJ,U,I,B,AV.v.injEq,Value.int.injEq,Value.bool.injEq,AV.rd.injEq,irI,true_and,and_true,Int.ofNat_inj] at e
 obtain ⟨rfl,rfl⟩:=e;rfl
def ReD:List AV→Option AV:=spF (ι:={x:Tb×Int×Nat // tbOK x.1∧x.2.2<2^64}) (fun x=>[TbV x.1.1,I x.1.2.1,U x.1.2.2]) fun x=>rtO [TbV (repP x.1.1 x.1.2.1 x.1.2.2).1,U (repP x.1.1 x.1.2.1 x.1.2.2).2.1,I (repP x.1.1 x.1.2.1 x.1.2.2).2.2]
theorem ReD_s:PSd prog 61 ReD:=PSd.softF (s61 Pc63 pc63 w0T (fun t h n lim M k=>cCk t h n lim M k) (fun t p h M n=>cLa t p h M n) (fun n h M k=>cDe n h M k) (fun e l M n=>cSu e l M n) (fun t h M n=>cCl t h M n) rfl) fun i=>by simp [RLe,rtO,SLeVs,SLeV,SLeL,SLe,TbO,TbV,TlO,TlV,U]
def Ta5:AX:=Ta4.add 61 (callD ReD)
theorem ta5:XOK prog Ta5:=xok_add ta4 (.inl ⟨PSd.callD ReD_s,boK _ func61 (by kernel_rfl)⟩) fun _ _ _ _ h b hb=>callD_keys h b hb
theorem ReD_k (t:Tb) (p:Int) (w:Nat) (h:tbOK t∧w<2^64) (M:Nat→AO) (n:Nat):callD ReD [TbV t,I p,U w] M n=some (.tup [TbV (repP t p w).1,U (repP t p w).2.1,I (repP t p w).2.2],[]):=by
 refine callD_ok (sFe (ι:={x:Tb×Int×Nat // tbOK x.1∧x.2.2<2^64}) (A:=fun x=>[TbV x.1.1,I x.1.2.1,U x.1.2.2]) (R:=fun x=>rtO [TbV (repP x.1.1 x.1.2.1 x.1.2.2).1,U (repP x.1.1 x.1.2.1 x.1.2.2).2.1,I (repP x.1.1 x.1.2.1 x.1.2.2).2.2]) ⟨(t,p,w),h⟩ ?_) (by simp [AV.closedV,TbV,TlV,U]) (by simp [rtO,oRt,oVs,oVl,oLs,oLf,TbV,TlV,U])
 rintro ⟨⟨t',p',w'⟩,h'⟩ e
 simp only [cJ,TbJ,TlJ,U,I,B,AV.v.injEq,Value.int.injEq,Value.bool.injEq,AV.rd.injEq,irI,true_and,and_true,Int.ofNat_inj] at e
 obtain ⟨rfl,rfl,rfl⟩:=e;rfl
def InvD:List AV→Option AV:=spF (ι:={x:Tl×Int×Int // tlOK x.1}) (fun x=>[TlV x.1.1,I x.1.2.1,I x.1.2.2]) fun x=>rtO [TlV (inT x.1.1 x.1.2.1 x.1.2.2).1,I (inT x.1.1 x.1.2.1 x.1.2.2).2]
theorem InvD_s:PSd prog 98 InvD:=PSd.softF (s98 Pc82 pc82 w0T (fun b h M k=>cCt b h M k) (fun s p M k=>cPlc s p M k) rfl) fun i=>by simp [RLe,rtO,SLeVs,SLeV,SLeL,SLe,TbO,TbV,TlO,TlV,U]
def Ta6:AX:=Ta5.add 98 (callD InvD)
theorem ta6:XOK prog Ta6:=xok_add ta5 (.inl ⟨PSd.callD InvD_s,boK _ func98 (by kernel_rfl)⟩) fun _ _ _ _ h b hb=>callD_keys h b hb
theorem InvD_k (b:Tl) (s p:Int) (h:tlOK b) (M:Nat→AO) (n:Nat):callD InvD [TlV b,I s,I p] M n=some (.tup [TlV (inT b s p).1,I (inT b s p).2],[]):=by
 refine callD_ok (sFe (ι:={x:Tl×Int×Int // tlOK x.1}) (A:=fun x=>[TlV x.1.1,I x.1.2.1,I x.1.2.2]) (R:=fun x=>rtO [TlV (inT x.1.1 x.1.2.1 x.1.2.2).1,I (inT x.1.1 x.1.2.1 x.1.2.2).2]) ⟨(b,s,p),h⟩ ?_) (by simp [AV.closedV,TbV,TlV,U]) (by simp [rtO,oRt,oVs,oVl,oLs,oLf,TbV,TlV,U])
 rintro ⟨⟨b',s',p'⟩,h'⟩ e
 simp only [cJ,TbJ,TlJ,U,I,B,AV.v.injEq,Value.int.injEq,Value.bool.injEq,AV.rd.injEq,irI,true_and,and_true,Int.ofNat_inj] at e
 obtain ⟨rfl,rfl,rfl⟩:=e;rfl
def AccD:List AV→Option AV:=spF (ι:={x:Tb×Tl×Int×Int×Bool // tbOK x.1∧tlOK x.2.1}) (fun x=>[TbV x.1.1,TlV x.1.2.1,I x.1.2.2.1,I x.1.2.2.2.1,B x.1.2.2.2.2]) fun x=>rtO [TbV (acT x.1.1 x.1.2.1 x.1.2.2.1 x.1.2.2.2.1 x.1.2.2.2.2).1,TlV (acT x.1.1 x.1.2.1 x.1.2.2.1 x.1.2.2.2.1 x.1.2.2.2.2).2.1,I (acT x.1.1 x.1.2.1 x.1.2.2.1 x.1.2.2.2.1 x.1.2.2.2.2).2.2.1,I (acT x.1.1 x.1.2.1 x.1.2.2.1 x.1.2.2.2.1 x.1.2.2.2.2).2.2.2]
theorem AccD_s:PSd prog 29 AccD:=PSd.softF (s29 Pc90 pc90 w0T ⟨(fun t h M n=>cCh t h M n),(fun b h M k=>cCt b h M k),(fun b s p h M n=>cLk b s p h M n),(fun n h M k=>cDe n h M k),(fun t h M n=>cCoT t h M n),(fun b h M n=>cCoB b h M n),(fun e p h1 h2 h3 M n=>cFg e p h1 h2 h3 M n),(fun t x h M n=>cWa t x h M n),(fun e wr M n=>cRf e wr M n),(fun b s p h M n=>cIn b s p h M n),(fun w wr h M n=>cMk w wr h M n),(fun t p w h hw M n=>cRe t p w h hw M n),(fun b s p w h hw M n=>cFl b s p w h hw M n)⟩) fun i=>by simp [RLe,rtO,SLeVs,SLeV,SLeL,SLe,TbO,TbV,TlO,TlV,U]
def Ta7:AX:=Ta6.add 29 (callD AccD)
theorem ta7:XOK prog Ta7:=xok_add ta6 (.inl ⟨PSd.callD AccD_s,boK _ func29 (by kernel_rfl)⟩) fun _ _ _ _ h b hb=>callD_keys h b hb
theorem AccD_k (t:Tb) (b:Tl) (s p:Int) (wr:Bool) (h:tbOK t∧tlOK b) (M:Nat→AO) (n:Nat):callD AccD [TbV t,TlV b,I s,I p,B wr] M n=some (.tup [TbV (acT t b s p wr).1,TlV (acT t b s p wr).2.1,I (acT t b s p wr).2.2.1,I (acT t b s p wr).2.2.2],[]):=by
 refine callD_ok (sFe (ι:={x:Tb×Tl×Int×Int×Bool // tbOK x.1∧tlOK x.2.1}) (A:=fun x=>[TbV x.1.1,TlV x.1.2.1,I x.1.2.2.1,I x.1.2.2.2.1,B x.1.2.2.2.2]) (R:=fun x=>rtO [TbV (acT x.1.1 x.1.2.1 x.1.2.2.1 x.1.2.2.2.1 x.1.2.2.2.2).1,TlV (acT x.1.1 x.1.2.1 x.1.2.2.1 x.1.2.2.2.1 x.1.2.2.2.2).2.1,I (acT x.1.1 x.1.2.1 x.1.2.2.1 x.1.2.2.2.1 x.1.2.2.2.2).2.2.1,I (acT x.1.1 x.1.2.1 x.1.2.2.1 x.1.2.2.2.1 x.1.2.2.2.2).2.2.2]) ⟨(t,b,s,p,wr),h⟩ ?_) (by simp [AV.closedV,TbV,TlV,U]) (by simp [rtO,oRt,oVs,oVl,oLs,oLf,TbV,TlV,U])
 rintro ⟨⟨t',b',s',p',wr'⟩,h'⟩ e
 simp only [cJ,TbJ,TlJ,U,I,B,AV.v.injEq,Value.int.injEq,Value.bool.injEq,AV.rd.injEq,irI,true_and,and_true,Int.ofNat_inj] at e
 obtain ⟨rfl,rfl,rfl,rfl,rfl⟩:=e;rfl
def NwD:List AV→Option AV:=spF (ι:=Int) (fun x=>[I x]) fun x=>rtO [TbV (newT x).1,I (newT x).2]
theorem NwD_s:PSd prog 49 NwD:=PSd.softF (s49 Pc43 pc43 w0T (fun x M n=>cIf x M n)) fun i=>by simp [RLe,rtO,SLeVs,SLeV,SLeL,SLe,TbO,TbV,TlO,TlV,U]
def Ta8:AX:=Ta7.add 49 (callD NwD)
theorem ta8:XOK prog Ta8:=xok_add ta7 (.inl ⟨PSd.callD NwD_s,boK _ func49 (by kernel_rfl)⟩) fun _ _ _ _ h b hb=>callD_keys h b hb
theorem NwD_k (x:Int) (h:True) (M:Nat→AO) (n:Nat):callD NwD [I x] M n=some (.tup [TbV (newT x).1,I (newT x).2],[]):=by
 refine callD_ok (sFe (ι:=Int) (A:=fun x=>[I x]) (R:=fun x=>rtO [TbV (newT x).1,I (newT x).2]) x ?_) (by simp [AV.closedV,TbV,TlV,U]) (by simp [rtO,oRt,oVs,oVl,oLs,oLf,TbV,TlV,U])
 intro y e
 simp only [cJ,I,AV.v.injEq,Value.int.injEq,true_and,and_true] at e
 subst e;rfl
def TnD:List AV→Option AV:=spF (ι:={x:Int // 1≤x∧x≤16}) (fun x=>[I x.1]) fun x=>rtO [TlV (x.1,[]),I 0]
theorem TnD_s:PSd prog 69 TnD:=PSd.softF (s69 Ta8 ta8 w0T) fun i=>by simp [RLe,rtO,SLeVs,SLeV,SLeL,SLe,TbO,TbV,TlO,TlV,U]
def Ta9:AX:=Ta8.add 69 (callD TnD)
theorem ta9:XOK prog Ta9:=xok_add ta8 (.inl ⟨PSd.callD TnD_s,boK _ func69 (by kernel_rfl)⟩) fun _ _ _ _ h b hb=>callD_keys h b hb
theorem TnD_k (x:Int) (h:1≤x∧x≤16) (M:Nat→AO) (n:Nat):callD TnD [I x] M n=some (.tup [TlV (x,[]),I 0],[]):=by
 refine callD_ok (sFe (ι:={x:Int // 1≤x∧x≤16}) (A:=fun x=>[I x.1]) (R:=fun x=>rtO [TlV (x.1,[]),I 0]) ⟨x,h⟩ ?_) (by simp [AV.closedV,TbV,TlV,U]) (by simp [rtO,oRt,oVs,oVl,oLs,oLf,TbV,TlV,U])
 rintro ⟨y,h'⟩ e
 simp only [cJ,I,AV.v.injEq,Value.int.injEq,true_and,and_true] at e
 subst e;rfl
def Ta10:AX:=Ta9.add 156 (caP PtF)
theorem ta10:XOK prog Ta10:=xoS ta9 (s156 Ta9 ta9 w0T (fun n h M k=>cDe n h M k)) (fun _=>by simp [rtO,AV.flat,AV.flatV,AV.flat1,U]) func156 (by kernel_rfl)
theorem cPt (w:Nat) (h:w<2^64) (M:Nat→AO) (n:Nat):caP PtF [U w] M n=some (.tup [U (prW w).1,I (prW w).2],[]) :=
 cPs (ι:={w:Nat // w<2^64}) (A:=fun x=>[U x.1]) (R:=fun x=>rtO [U (prW x.1).1,I (prW x.1).2]) ⟨w,h⟩ (by simp [U]) (by
  rintro ⟨w',h'⟩ e
  simp only [cJ,U,AV.v.injEq,Value.int.injEq,true_and,and_true,Int.ofNat_inj] at e
  subst e;rfl) (by simp [U])
def cAn (avs:List AV) (M:Nat→AO) (nid:Nat):Option (AV×List (Nat×AO)):=match avs with
 | [.v (.int .i64 x)]=>if 1≤x∧x≤16 then some (.tup [.bp nid 0,B true],[(nid,.box (asV (s0A x)))]) else none
 | _=>none
theorem cAn_le {avs:List AV} {M:Nat→AO} {nid:Nat} {r:AV×List (Nat×AO)} (h:cAn avs M nid=some r):caG anS avs M nid=some r:=by
 unfold cAn at h
 split at h
 ·rename_i x
  split at h
  ·rename_i hx
   rw [← h]
   have hF:=anS_at hx
   simp only [asM] at hF
   have hF:anS [.v (.int .i64 x)] []=some (.tup [.bp 0 0,B true],[.box (asV (s0A x))]):=hF
   unfold caG
   simp [gat,nmsL,AV.nms,CallG,Led,curBL,AV.curB,renL,AV.ren,hF,RetG,getL,AO.nms,updN,nmN,shN,rng,asV,AO.ren,canO]
  ·cases h
 ·cases h
theorem cAn_keys {avs:List AV} {M:Nat→AO} {nid:Nat} {r:AV×List (Nat×AO)} (h:cAn avs M nid=some r):∀ b∈r.2.map (·.1),nid≤b∧b<nid+16:=by
 unfold cAn at h
 split at h
 ·split at h
  ·simp only [oJ] at h
   subst h
   intro b hb
   simp at hb
   omega
  ·cases h
 ·cases h
theorem anG:GSd prog 15 anS:=s15 Ta10 ta10 w0T (fun M n=>NwD_k 0 trivial M n) (fun x h M n=>TnD_k x h M n)
theorem kAn:CallOK prog 15 cAn:=fun avs M nid av u h=>anG.caG avs M nid av u (cAn_le h)
def Ta11:AX:=Ta10.add 15 cAn
theorem ta11:XOK prog Ta11:=xok_add ta10 (.inl ⟨kAn,boK _ func15 (by kernel_rfl)⟩) fun _ _ _ _ h b hb=>cAn_keys h b hb
def Ta12:AX:=Ta11.add 155 (caG flS)
theorem ta12:XOK prog Ta12:=xpM ta11 (by kernel_rfl) (.inl ⟨(s155 Ta11 ta11 w0T (fun b s p h M n=>InvD_k b s p h M n)).caG,boK _ func155 (by kernel_rfl)⟩) fun _ _ _ _ h=>cGk h
def Ta13:AX:=Ta12.add 70 (caG stS)
theorem ta13:XOK prog Ta13:=xpM ta12 (by kernel_rfl) (.inl ⟨(s70 Ta12 ta12 w0T (fun t x h M n=>cMi t x h M n) (fun k f d a x h M n=>cEn k f d a x h M n) (fun t x w fs h M n=>SeD_k t x w fs h M n)).caG,boK _ func70 (by kernel_rfl)⟩) fun _ _ _ _ h=>cGk h
theorem tsX {X:AX} (hX:XOK prog X) (hw:X.W wT) (h1:X.call 41=caP HuF) (h2:X.call 64=callD SpD) (h3:X.call 66=callD AsmD) (h4:X.call 55=callD ClrD) (h5:X.call 35=caP WaF) (h6:X.call 156=caP PtF) (h7:X.call 61=callD ReD) (h8:X.call 29=callD AccD):TsX X :=
 ⟨hX,hw,fun t x h M n=>by rw [h1];exact cHu t x h M n,fun t x h M n=>by rw [h2];exact SpD_k t x h M n,fun t x h M n=>by rw [h3];exact AsmD_k t x h M n,fun t x h M n=>by rw [h4];exact ClrD_k t x h M n,fun t x h M n=>by rw [h5];exact cWa t x h M n,fun w h M n=>by rw [h6];exact cPt w h M n,fun t x w h M n=>by rw [h7];exact ReD_k t x w h M n,fun t b s p wr h M n=>by rw [h8];exact AccD_k t b s p wr h M n⟩
def Ta14:AX:=Ta13.add 71 (caG chS)
theorem ta14:XOK prog Ta14:=xpM ta13 (by kernel_rfl) (.inl ⟨(s71 Ta13 (tsX ta13 w0T rfl rfl rfl rfl rfl rfl rfl rfl) rfl).caG,boK _ func71 (by kernel_rfl)⟩) fun _ _ _ _ h=>cGk h
def Ta15:AX:=Ta14.add 72 (caG acS)
theorem ta15:XOK prog Ta15:=xpM ta14 (by kernel_rfl) (.inl ⟨(s72 Ta14 (tsX ta14 w0T rfl rfl rfl rfl rfl rfl rfl rfl)).caG,boK _ func72 (by kernel_rfl)⟩) fun _ _ _ _ h=>cGk h
def Ta16:AX:=Ta15.add 16 (caG spS)
theorem ta16:XOK prog Ta16:=xpM ta15 (by kernel_rfl) (.inl ⟨(s16 Ta15 (tsX ta15 w0T rfl rfl rfl rfl rfl rfl rfl rfl) rfl rfl rfl).caG,boK _ func16 (by kernel_rfl)⟩) fun _ _ _ _ h=>cGk h
theorem cAn_at (x:Int) (h:1≤x∧x≤16) (M:Nat→AO) (n:Nat):cAn [I x] M n=some (.tup [.bp n 0,B true],[(n,.box (asC (s0A x).1 (s0A x).2.1 (s0A x).2.2.1 (s0A x).2.2.2.1 (s0A x).2.2.2.2.1 (s0A x).2.2.2.2.2))]):=by
 unfold cAn
 simp only
 rw [if_pos h]
 rfl
def Ta17:AX:=Ta16.add 14 (caP (spF (ι:=Unit) (fun _=>[]) fun _=>rtO [B true]))
theorem ta17:XOK prog Ta17:=xoS ta16 (s14 Ta16 ta16 w0T (fun x h M n=>cAn_at x h M n) rfl (fun t x h M n=>cHu t x h M n) (fun t h M n=>cCh t h M n)) (fun _=>trivial) func14 (by kernel_rfl)
theorem cAwU (M:Nat→AO) (n:Nat):caP (spF (ι:=Unit) (fun _=>[]) fun _=>rtO [B true]) [] M n=some (B true,[]):=by
 rw [cPs (ι:=Unit) (A:=fun _=>[]) (R:=fun _=>rtO [B true]) () (by simp) (fun _ _=>rfl) (by simp [rtO,oRt,oVs,oVl,oLs,oLf])]
 simp [rtO,oRt,oVs,oVl,oLs,oLf]
theorem caches':PSd prog 3 (spF (ι:=TcI) (fun x=>[I x.1.1,.rd 3 (porows x.1.2)]) fun _=>rtO [B true]) :=
 s3 Ta17 ta17 w0T (fun M n=>cAwU M n) (fun x h M n=>cAn_at x h M n) rfl
def shU8:Sh:=.int .u8
def shU16:Sh:=.int .u16
theorem fit_u8 {a:AV} (h:Fit shU8 a):∃ n:Nat,a=.v (.int .u8 n)∧n<256:=by
 simp only [shU8,Fit] at h
 obtain ⟨n,rfl,hw⟩:=h
 have h2:0≤n∧n≤255:=by simpa [Lit.wf,IntKind.min,IntKind.max,IntKind.signed,IntKind.bits] using hw
 exact ⟨n.toNat,by rw [show ((n.toNat:Nat):Int)=n by omega],by omega⟩
theorem fit_u16 {a:AV} (h:Fit shU16 a):∃ n:Nat,a=.v (.int .u16 n)∧n<65536:=by
 simp only [shU16,Fit] at h
 obtain ⟨n,rfl,hw⟩:=h
 have h2:0≤n∧n≤65535:=by simpa [Lit.wf,IntKind.min,IntKind.max,IntKind.signed,IntKind.bits] using hw
 exact ⟨n.toNat,by rw [show ((n.toNat:Nat):Int)=n by omega],by omega⟩
theorem rows_po:∀ {xs:List (List AV)},(∀ e∈xs,FitL [shU8,shU16,shU8] e)→∃ l,xs=porows l∧∀ o∈l,poOK o
 | [],_=>⟨[],rfl,by simp⟩
 | e::r,h=>by
  obtain ⟨l,rfl,hl⟩:=rows_po (xs:=r) fun e' he=>h e' (by simp [he])
  obtain ⟨a,ar,rfl,ha,hr⟩:=fitL_cons (h e (by simp))
  obtain ⟨b,br,rfl,hb,hr2⟩:=fitL_cons hr
  obtain ⟨c,rfl,hcz⟩:=fitL_one hr2
  obtain ⟨x,rfl,hx⟩:=fit_u8 ha
  obtain ⟨y,rfl,hy⟩:=fit_u16 hb
  obtain ⟨z,rfl,hz⟩:=fit_u8 hcz
  refine ⟨(x,y,z)::l,rfl,fun o ho=>?_⟩
  rcases List.mem_cons.1 ho with rfl|ho
  ·exact ⟨hx,hy,hz⟩
  ·exact hl o ho
theorem arg_pops {a:AV} (h:FitArg prog 22 a):∃ l,a=.rd 3 (porows l)∧∀ o∈l,poOK o:=by
 have:=arg_one (show shapeOf prog 10 22=some [.sl [shU8,shU16,shU8]] by kernel_rfl) (fun fs=>by simp [Tryz.underlying22]) (fun n e=>by simp [Tryz.underlying22]) h
 simp only [Fit] at this
 obtain ⟨xs,rfl,_,hx⟩:=this
 obtain ⟨l,rfl,hl⟩:=rows_po hx
 exact ⟨l,rfl,hl⟩
theorem int_pops_F (avs:List AV) (h:FitArgs prog [3,22] avs):spF (ι:=TcI) (fun x=>[I x.1.1,.rd 3 (porows x.1.2)]) (fun _=>rtO [B true]) avs=some (B true):=by
 match avs,h with
 | [a,b],h =>
  simp only [FitArgs] at h
  obtain ⟨x,rfl⟩:=arg_int h.1
  obtain ⟨l,rfl,hl⟩:=arg_pops h.2.1
  exact sFe (A:=fun x:TcI=>[I x.1.1,.rd 3 (porows x.1.2)]) (R:=fun _=>rtO [B true]) ⟨(x,l),hl⟩ fun _ _=>rfl
 | [],h=>simp [FitArgs] at h
 | [_],h=>simp [FitArgs] at h
 | _::_::_::_,h=>simp [FitArgs] at h
end
end Go.AM
