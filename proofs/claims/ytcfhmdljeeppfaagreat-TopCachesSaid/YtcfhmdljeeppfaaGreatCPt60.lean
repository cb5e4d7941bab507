/- A part of the proof. -/
import Derived.Test.YtcfhmdljeeppfaaGreatCPt36
import Derived.Test.YtcfhmdljeeppfaaGreatCAmW
import Derived.Test.YtcfhmdljeeppfaaGreatCAmO
set_option linter.all false
set_option maxHeartbeats 1000000
namespace Go.AM
open Go Go.Proofs Tryz
noncomputable section
def nil0:AV:=.v (.slice none 0 0)
def frM (fr:List Int):List AO:=[.box [.sl 1 1 1 0 fr.length],.vec 1 1 false (irw fr)]
theorem frM_inj {a b:List Int} (h:frM a=frM b):a=b:=by
 simp only [frM,cJ,AO.vec.injEq,true_and,irI,and_true] at h
 exact h.2
def clrS:List AV→List AO→Option (AV×List AO):=specG (ι:={x:Nd×List Int // x.1.2.length=8∧x.2.length≤1000}) (fun x=>[.agg (nrow x.1.1),.bp 0 0]) (fun x=>frM x.1.2) (fun x=>rtO [B (decide (x.1.1.1∈x.1.2))]) fun x=>frM x.1.2
theorem clrS_at {n:Nd} {fr:List Int} (h:n.2.length=8) (h2:fr.length≤1000):clrS [.agg (nrow n),.bp 0 0] (frM fr)=some (B (decide (n.1∈fr)),frM fr):=by
 refine sGe (ι:={x:Nd×List Int // x.1.2.length=8∧x.2.length≤1000}) (A:=fun x=>[.agg (nrow x.1.1),.bp 0 0]) (M:=fun x=>frM x.1.2) (R:=fun x=>rtO [B (decide (x.1.1.1∈x.1.2))]) (O:=fun x=>frM x.1.2) ⟨(n,fr),h,h2⟩ fun j hA hM=>?_
 obtain ⟨⟨n',fr'⟩,h'⟩:=j
 have:=frM_inj hM
 simp only at this
 subst this
 simp only [cJ,AV.agg.injEq,nrow_inj,and_true] at hA
 subst hA
 exact ⟨rfl,rfl⟩
def clrS0:List AV→List AO→Option (AV×List AO):=specG (ι:={x:Nd // x.2.length=8}) (fun x=>[.agg (nrow x.1),.bp 0 0]) (fun x=>[.box [nil0]]) (fun x=>rtO [B false]) fun x=>[.box [nil0]]
theorem clrS0_at {n:Nd} (h:n.2.length=8):clrS0 [.agg (nrow n),.bp 0 0] [.box [nil0]]=some (B false,[.box [nil0]]):=by
 refine sGe (ι:={x:Nd // x.2.length=8}) (A:=fun x=>[.agg (nrow x.1),.bp 0 0]) (M:=fun x=>[.box [nil0]]) (R:=fun x=>rtO [B false]) (O:=fun x=>[.box [nil0]]) ⟨n,h⟩ fun j hA hM=>⟨rfl,rfl⟩
def OwnI (X:AX):Prop:=(∀ (fr:List Int) (x:Int),fr.length≤1000→∀ (b v:Nat) (f:Bool) (M:Nat→AO) (n:Nat),M b=.vec v 1 f (irw fr)→X.call 142 [.sl b v 1 0 fr.length,I x] M n=some (B (decide (x∈fr)),[]))∧∀ (x:Int) (M:Nat→AO) (n:Nat),X.call 142 [.v (.slice none 0 0),I x] M n=some (B false,[])
theorem s141 (X:AX) (hX:XOK prog X) (hw:X.W wT) (hct:OwnI X):GSd prog 141 clrS:=by
 unfold clrS
 refine gsS func141 rfl X fun ⟨⟨⟨f,ws⟩,fr⟩,h8,hfr⟩ w0 L E=>⟨by show 2≤8;decide,?_⟩
 simp only at h8 hfr
 have hc1:=hct.1 fr f hfr
 have hwl:(wcs ws).length=8:=by simp [h8]
 simp only [frM,nrow]
 obtain ⟨cs,hcs⟩:∃ cs,cs=wcs ws:=⟨_,rfl⟩
 rw [← hcs] at hwl ⊢
 show AW ⟨prog,X,8,w0,⟨L,E,2⟩⟩ _ _ _
 have hc:Cx.OK ⟨prog,X,8,w0,⟨L,E,2⟩⟩:=⟨hX,mixed⟩
 have zS:=jj hwl<|hc1
 refine dM64 ?_
 repeat (intro K hK)
 clear zS
 refine ⟨by simp,_,by simp [aRs,aRt,f141];rfl,?_⟩
 simp only [idx]
 exact dle
theorem s141_0 (X:AX) (hX:XOK prog X) (hw:X.W wT) (hct:OwnI X):GSd prog 141 clrS0:=by
 unfold clrS0
 refine gsS func141 rfl X fun ⟨⟨f,ws⟩,h8⟩ w0 L E=>⟨by show 2≤8;decide,?_⟩
 simp only at h8
 have hc1:=hct.2 f
 have hwl:(wcs ws).length=8:=by simp [h8]
 simp only [nil0,nrow]
 obtain ⟨cs,hcs⟩:∃ cs,cs=wcs ws:=⟨_,rfl⟩
 rw [← hcs] at hwl ⊢
 show AW ⟨prog,X,8,w0,⟨L,E,1⟩⟩ _ _ _
 have hc:Cx.OK ⟨prog,X,8,w0,⟨L,E,1⟩⟩:=⟨hX,mixed⟩
 have zS:=jj hwl<|hc1
 refine dM64 ?_
 repeat (intro K hK)
 clear zS
 refine ⟨by simp,_,by simp [aRs,aRt,f141];rfl,?_⟩
 simp only [idx]
 exact dle
def clrB:List AV→List AO→Option (AV×List AO):=orG clrS clrS0
theorem ren_wcs {σ:Nat→Nat} {v:Nat→Nat→Nat}:∀ {ws:List Nat},renL σ v (wcs ws)=wcs ws
 | []=>rfl
 | w::ws=>by
  show AV.ren σ v (U w)::renL σ v (wcs ws)=_
  rw [ren_wcs (ws:=ws)];rfl
theorem nms_wcs:∀ {ws:List Nat},nmsL (wcs ws)=[]
 | []=>rfl
 | w::ws=>by
  show AV.nms (U w)++nmsL (wcs ws)=[]
  rw [nms_wcs (ws:=ws)];rfl
theorem cur_wcs {M:Nat→AO}:∀ {ws:List Nat},curBL M (wcs ws)=true
 | []=>rfl
 | w::ws=>by
  show (AV.curB M (U w)&&curBL M (wcs ws))=true
  rw [cur_wcs (ws:=ws)];rfl
theorem callCr {a b:Nat} (hab:a≠b) {n:Nd} {fr:List Int} (h:n.2.length=8) (h2:fr.length≤1000) (M:Nat→AO) (nid:Nat) (h0:M a=.box [.sl b 1 1 0 fr.length]) (h1:M b=.vec 1 1 false (irw fr)) :
  caG clrB [.agg (nrow n),.bp a 0] M nid=some (B (decide (n.1∈fr)),[(a,.box [.sl b 1 1 0 fr.length]),(b,.vec 1 1 false (irw fr))]):=by
 have hF:clrB _ _=_:=orG_1 (clrS_at h h2)
 simp only [frM] at hF
 have hba:b≠a:=fun e=>hab e.symm
 have hr:∀ σ v,renL σ v (nrow n)=nrow n:=fun σ v=>by
  show AV.ren σ v (I n.1)::renL σ v (wcs n.2)=_
  rw [ren_wcs];rfl
 have hn:nmsL (nrow n)=[]:=by
  show AV.nms (I n.1)++nmsL (wcs n.2)=[]
  rw [nms_wcs];rfl
 have hcu:curBL M (nrow n)=true:=by
  show (AV.curB M (I n.1)&&curBL M (wcs n.2))=true
  rw [cur_wcs];rfl
 unfold caG
 have hg:gat M 64 (nmsL [.agg (nrow n),.bp a 0]) []=[a,b]:=by
  simp [gat,nmsL,AV.nms,AO.nms,h0,h1,hab,hba,hn]
 simp only [hg]
 rw [if_pos ?cg]
 case cg=>simp [CallG,nmsL,AV.nms,AO.nms,Led,curBL,AV.curB,AO.curB,verOf,nDd,h0,h1,hab,hba,hn,hcu]
 simp [renL,AV.ren,AO.ren,posN,canO,nmsL,h0,h1,hF,RetG,getL,AV.nms,AO.nms,updN,nmN,shN,verOf,rng,Led,hab,hba,hr,hn,gat]
theorem clrB_0 {n:Nd} (h:n.2.length=8):clrB [.agg (nrow n),.bp 0 0] [.box [nil0]]=some (B false,[.box [nil0]]):=orG_2 (specG_none fun i _ h2=>by simp [frM,nil0] at h2) (clrS0_at h)
theorem callCr0 {a:Nat} {n:Nd} (h:n.2.length=8) (M:Nat→AO) (nid:Nat) (h0:M a=.box [nil0]) :
  caG clrB [.agg (nrow n),.bp a 0] M nid=some (B false,[(a,.box [nil0])]):=by
 have hF:=clrB_0 h
 unfold nil0 at h0 hF ⊢
 have hr:∀ σ v,renL σ v (nrow n)=nrow n:=fun σ v=>by
  show AV.ren σ v (I n.1)::renL σ v (wcs n.2)=_
  rw [ren_wcs];rfl
 have hn:nmsL (nrow n)=[]:=by
  show AV.nms (I n.1)++nmsL (wcs n.2)=[]
  rw [nms_wcs];rfl
 have hcu:curBL M (nrow n)=true:=by
  show (AV.curB M (I n.1)&&curBL M (wcs n.2))=true
  rw [cur_wcs];rfl
 unfold caG
 have hg:gat M 64 (nmsL [.agg (nrow n),.bp a 0]) []=[a]:=by
  simp [gat,nmsL,AV.nms,AO.nms,h0,hn]
 simp only [hg]
 rw [if_pos ?cg]
 case cg=>simp [CallG,nmsL,AV.nms,AO.nms,Led,curBL,AV.curB,AO.curB,verOf,nDd,h0,hn,hcu]
 simp [renL,AV.ren,AO.ren,posN,canO,nmsL,h0,hF,RetG,getL,AV.nms,AO.nms,updN,nmN,shN,verOf,rng,Led,hr,hn,gat]
end
set_option maxHeartbeats 4000000
def inF (fr:List Int) (n:Nd):Bool:=decide (n.1∈fr)
def ixM (ns:NdL) (fr:List Int):List AO:=[.vec 1 9 false (nrw ns),.box [.sl 2 1 1 0 fr.length],.vec 1 1 false (irw fr)]
theorem ixM_inj {a b:NdL} {x y:List Int} (h:ixM a x=ixM b y):a=b∧x=y:=by
 simp only [ixM,cJ,AO.vec.injEq,true_and,irI,nrows_inj,and_true] at h
 exact ⟨h.1,h.2.2⟩
def ixM0 (ns:NdL):List AO:=[.vec 1 9 false (nrw ns),.box [nil0]]
theorem ixM0_inj {a b:NdL} (h:ixM0 a=ixM0 b):a=b:=by
 simp only [ixM0,cJ,AO.vec.injEq,true_and,nrows_inj,and_true] at h
 exact h
abbrev IxD:=NdL×List Int
abbrev ixOK (x:IxD):Prop:=(∀ n∈x.1,ndOK n)∧x.1.length≤1000000∧x.2.length≤1000
noncomputable def ixS:List AV→List AO→Option (AV×List AO):=specG (ι:={x:IxD // ixOK x}) (fun x=>[.sl 0 1 9 0 x.1.1.length,.fn 141 [.bp 1 0]]) (fun x=>ixM x.1.1 x.1.2) (fun x=>rtO [I (fstG (inF x.1.2) x.1.1)]) fun x=>ixM x.1.1 x.1.2
theorem ixS_at {ns:NdL} {fr:List Int} (h:ixOK (ns,fr)):ixS [.sl 0 1 9 0 ns.length,.fn 141 [.bp 1 0]] (ixM ns fr)=some (I (fstG (inF fr) ns),ixM ns fr):=by
 refine sGe (ι:={x:IxD // ixOK x}) (A:=fun x=>[.sl 0 1 9 0 x.1.1.length,.fn 141 [.bp 1 0]]) (M:=fun x=>ixM x.1.1 x.1.2) (R:=fun x=>rtO [I (fstG (inF x.1.2) x.1.1)]) (O:=fun x=>ixM x.1.1 x.1.2) ⟨(ns,fr),h⟩ fun j hA hM=>?_
 obtain ⟨⟨n',fr'⟩,h'⟩:=j
 obtain ⟨rfl,rfl⟩:=ixM_inj hM
 exact ⟨rfl,rfl⟩
noncomputable def ixS0:List AV→List AO→Option (AV×List AO):=specG (ι:={x:NdL // ixOK (x,[])}) (fun x=>[.sl 0 1 9 0 x.1.length,.fn 141 [.bp 1 0]]) (fun x=>ixM0 x.1) (fun x=>rtO [I (fstG (inF []) x.1)]) fun x=>ixM0 x.1
theorem ixS0_at {ns:NdL} (h:ixOK (ns,[])):ixS0 [.sl 0 1 9 0 ns.length,.fn 141 [.bp 1 0]] (ixM0 ns)=some (I (fstG (inF []) ns),ixM0 ns):=by
 refine sGe (ι:={x:NdL // ixOK (x,[])}) (A:=fun x=>[.sl 0 1 9 0 x.1.length,.fn 141 [.bp 1 0]]) (M:=fun x=>ixM0 x.1) (R:=fun x=>rtO [I (fstG (inF []) x.1)]) (O:=fun x=>ixM0 x.1) ⟨ns,h⟩ fun j hA hM=>?_
 obtain ⟨n',h'⟩:=j
 have:=ixM0_inj hM
 simp only at this
 subst this
 exact ⟨rfl,rfl⟩
theorem s193 (X:AX) (hX:XOK prog X) (hw:X.W wT) (hcl:X.call 141=caG clrB):GSd prog 193 ixS:=by
 unfold ixS
 refine gsS func193 rfl X fun ⟨⟨ns,fr⟩,hok,hl,hfr⟩ w0 L E=>⟨by show 2≤19;decide,?_⟩
 simp only at hok hl hfr
 skip
 have hcr:=fun (n:Nd) (h:n.2.length=8) M nid=>@callCr 1 2 (by decide) n fr h hfr M nid
 rw [← hcl] at hcr
 simp only [ixM,nil0] at hcr ⊢
 show AW ⟨prog,X,19,w0,⟨L,E,3⟩⟩ _ _ _
 have hc:Cx.OK ⟨prog,X,19,w0,⟨L,E,3⟩⟩:=⟨hX,mixed⟩
 repeat' (first|(refine aSk fun K hK=>?_)|(refine eMo ?_)|(refine eC (fun h=>?_) (fun h=>?_)<;>(try simp at h))|(refine hK _ ?_;clear hK)|(clear hK;refine hK _ ?_;clear hK))
 refine aLK (s0:=?lps1) (m0:=?lpm1) (ι:={i:Nat // i≤ns.length∧∀ j,j<i→inF fr (gn ns j)=false}) [0,1,7] (fun s=>[(8,I s.1)]) (fun _=>[]) (fun s=>ns.length - s.1) ⟨0,by omega,by omega⟩ ?lhs1 ?lhm1 ?_ ?_
 case lhs1=>first|(simp [kpS];done)|(simp [kpS];rfl)
 case lhm1=>first|rfl|(simp;done)|(simp;rfl)
 ·exact dle
 ·rintro ⟨i,hi,hinv⟩
  simp only
  rcases dE (i<ns.length) with hil|hil
  ·have hilI:(i:Int)<(ns.length:Int):=by omega
   have hg:=nrG hil
   have hgE:=nrE hil
   have h8:=(hok _ (gn_mem hil)).1
   have hcr':=hcr _ h8
   have hat:=fstG_at (p:=inF fr) hil
   rw [← gn_eq hil] at hat
   have hinv2:inF fr (gn ns i)=false→∀ j,j<i+1→inF fr (gn ns j)=false:=fun h j hj=>by
    rcases Nat.lt_succ_iff_lt_or_eq.1 hj with h5|rfl
    ·exact hinv j h5
    ·exact h
   obtain ⟨⟨g,ws⟩,hm⟩:∃ m,m=gn ns i:=⟨_,rfl⟩
   rw [← hm] at hg hgE h8 hcr' hat hinv2
   simp only [nrow] at hg hgE h8 hcr' hat hinv2
   have hwl:(wcs ws).length=8:=by simp [h8]
   obtain ⟨cs,hcs⟩:∃ cs,cs=wcs ws:=⟨_,rfl⟩
   rw [← hcs] at hg hgE hwl hcr'
   have htk:List.take 8 cs=cs:=tkL (by omega)
   clear hcs hm
   rcases dE (g∈fr) with hgf|hgf
   ·rw [decide_eq_true hgf] at hcr'
    have e:=hat (by simp [inF,hgf]) fun j hj=>by have:=hinv j hj;rw [gn_eq (by omega)] at this;exact this
    have zS:=jj hilI<|jj hil<|jj hg<|jj hgE<|jj hwl<|jj htk<|hcr'
    repeat' (first|(refine aSk fun K hK=>?_)|(refine eM64 ?_)|(refine eC (fun h=>?_) (fun h=>?_)<;>(try simp at h))|(refine hK _ ?_;clear hK)|clear hK)
    all_goals clear zS
    refine ⟨by simp,_,by simp [aRs,aRt,f193];rfl,?_⟩
    simp only [idx,e]
    exact dle
   ·rw [decide_eq_false hgf] at hcr'
    have e:=hinv2 (by simp [inF,hgf])
    have zS:=jj hilI<|jj hil<|jj hg<|jj hgE<|jj hwl<|jj htk<|hcr'
    repeat' (first|(refine aSk fun K hK=>?_)|(refine eM64 ?_)|(refine eC (fun h=>?_) (fun h=>?_)<;>(try simp at h))|(refine hK _ ?_;clear hK)|clear hK)
    all_goals clear zS
    refine ⟨i+1,?_,⟨by omega,e⟩,by omega⟩
    exact dle
  ·obtain rfl:i=ns.length:=by omega
   have e:fstG (inF fr) ns=-1:=fstG_not fun j hj=>by have:=hinv j hj;rw [gn_eq hj] at this;exact this
   repeat' (first|(refine aSk fun K hK=>?_)|(refine eMo ?_)|(refine eC (fun h=>?_) (fun h=>?_)<;>(try simp at h))|(refine hK _ ?_;clear hK)|clear hK)
   refine ⟨by simp,_,by simp [aRs,aRt,f193];rfl,?_⟩
   simp only [idx,e]
   exact dle
theorem s193_0 (X:AX) (hX:XOK prog X) (hw:X.W wT) (hcl:X.call 141=caG clrB):GSd prog 193 ixS0:=by
 unfold ixS0
 refine gsS func193 rfl X fun ⟨ns,hok,hl,hfr⟩ w0 L E=>⟨by show 2≤19;decide,?_⟩
 simp only at hok hl hfr
 skip
 have hcr:=fun (n:Nd) (h:n.2.length=8) M nid=>@callCr0 1 n h M nid
 rw [← hcl] at hcr
 simp only [ixM0,nil0] at hcr ⊢
 show AW ⟨prog,X,19,w0,⟨L,E,2⟩⟩ _ _ _
 have hc:Cx.OK ⟨prog,X,19,w0,⟨L,E,2⟩⟩:=⟨hX,mixed⟩
 repeat' (first|(refine aSk fun K hK=>?_)|(refine eMo ?_)|(refine eC (fun h=>?_) (fun h=>?_)<;>(try simp at h))|(refine hK _ ?_;clear hK)|(clear hK;refine hK _ ?_;clear hK))
 refine aLK (s0:=?lps2) (m0:=?lpm2) (ι:={i:Nat // i≤ns.length∧∀ j,j<i→inF ([]:List Int) (gn ns j)=false}) [0,1,7] (fun s=>[(8,I s.1)]) (fun _=>[]) (fun s=>ns.length - s.1) ⟨0,by omega,by omega⟩ ?lhs2 ?lhm2 ?_ ?_
 case lhs2=>first|(simp [kpS];done)|(simp [kpS];rfl)
 case lhm2=>first|rfl|(simp;done)|(simp;rfl)
 ·exact dle
 ·rintro ⟨i,hi,hinv⟩
  simp only
  rcases dE (i<ns.length) with hil|hil
  ·have hilI:(i:Int)<(ns.length:Int):=by omega
   have hg:=nrG hil
   have hgE:=nrE hil
   have h8:=(hok _ (gn_mem hil)).1
   have hcr':=hcr _ h8
   have hat:=fstG_at (p:=inF ([]:List Int)) hil
   rw [← gn_eq hil] at hat
   have hinv2:inF ([]:List Int) (gn ns i)=false→∀ j,j<i+1→inF ([]:List Int) (gn ns j)=false:=fun h j hj=>by
    rcases Nat.lt_succ_iff_lt_or_eq.1 hj with h5|rfl
    ·exact hinv j h5
    ·exact h
   obtain ⟨⟨g,ws⟩,hm⟩:∃ m,m=gn ns i:=⟨_,rfl⟩
   rw [← hm] at hg hgE h8 hcr' hat hinv2
   simp only [nrow] at hg hgE h8 hcr' hat hinv2
   have hwl:(wcs ws).length=8:=by simp [h8]
   obtain ⟨cs,hcs⟩:∃ cs,cs=wcs ws:=⟨_,rfl⟩
   rw [← hcs] at hg hgE hwl hcr'
   have htk:List.take 8 cs=cs:=tkL (by omega)
   clear hcs hm
   have e:=hinv2 (by simp [inF])
   have zS:=jj hilI<|jj hil<|jj hg<|jj hgE<|jj hwl<|jj htk<|hcr'
   repeat' (first|(refine aSk fun K hK=>?_)|(refine eM64 ?_)|(refine eC (fun h=>?_) (fun h=>?_)<;>(try simp at h))|(refine hK _ ?_;clear hK)|clear hK)
   all_goals clear zS
   refine ⟨i+1,?_,⟨by omega,e⟩,by omega⟩
   exact dle
  ·obtain rfl:i=ns.length:=by omega
   have e:fstG (inF ([]:List Int)) ns=-1:=fstG_not fun j hj=>by have:=hinv j hj;rw [gn_eq hj] at this;exact this
   repeat' (first|(refine aSk fun K hK=>?_)|(refine eMo ?_)|(refine eC (fun h=>?_) (fun h=>?_)<;>(try simp at h))|(refine hK _ ?_;clear hK)|clear hK)
   refine ⟨by simp,_,by simp [aRs,aRt,f193];rfl,?_⟩
   simp only [idx,e]
   exact dle
set_option maxHeartbeats 4000000
noncomputable section
def kpF (fr:List Int) (ns:NdL):NdL:=ns.filter fun n=>!inF fr n
theorem kpF_len {fr:List Int} {ns:NdL}:(kpF fr ns).length≤ns.length:=List.length_filter_le _ _
theorem kpF_s {fr:List Int} {ns:NdL} {j:Nat} (h:j<ns.length):kpF fr (ns.take (j+1))=kpF fr (ns.take j)++(if inF fr (gn ns j)=true then [] else [gn ns j]):=by
 rw [take_succ_gn h]
 unfold kpF
 rw [List.filter_append]
 cases hb:inF fr (gn ns j)<;>simp [hb]
def dfR (fr:List Int) (ns:NdL):NdL:=kpF fr ns++List.replicate (ns.length - (kpF fr ns).length) (0,zs8)
def ixB:List AV→List AO→Option (AV×List AO):=orG ixS ixS0
theorem ixB_0 {ns:NdL} (h:ixOK (ns,[])):ixB [.sl 0 1 9 0 ns.length,.fn 141 [.bp 1 0]] (ixM0 ns)=some (I (fstG (inF []) ns),ixM0 ns):=orG_2 (specG_none fun i _ h2=>by simp [ixM,ixM0] at h2) (ixS0_at h)
theorem callIx {ns:NdL} {fr:List Int} (h:ixOK (ns,fr)) (M:Nat→AO) (nid:Nat) (h0:M 0=.vec 1 9 false (nrw ns)) (h1:M 1=.box [.sl 2 1 1 0 fr.length]) (h2:M 2=.vec 1 1 false (irw fr)) :
  caG ixB [.sl 0 1 9 0 ns.length,.fn 141 [.bp 1 0]] M nid=some (I (fstG (inF fr) ns),[(0,.vec 1 9 false (nrw ns)),(1,.box [.sl 2 1 1 0 fr.length]),(2,.vec 1 1 false (irw fr))]):=by
 have hF:ixB _ _=_:=orG_1 (ixS_at h)
 simp only [ixM] at hF
 unfold caG
 have hg:gat M 64 (nmsL [.sl 0 1 9 0 ns.length,.fn 141 [.bp 1 0]]) []=[0,1,2]:=by
  simp [gat,nmsL,AV.nms,AO.nms,h0,h1,h2]
 simp only [hg]
 rw [if_pos ?cg]
 case cg=>simp [CallG,nmsL,AV.nms,AO.nms,Led,curBL,AV.curB,AO.curB,verOf,nDd,h0,h1,h2]
 simp [renL,AV.ren,AO.ren,posN,canO,nmsL,h0,h1,h2,hF,RetG,getL,AV.nms,AO.nms,updN,nmN,shN,verOf,rng,Led]
theorem callIx0 {ns:NdL} (h:ixOK (ns,[])) (M:Nat→AO) (nid:Nat) (h0:M 0=.vec 1 9 false (nrw ns)) (h1:M 1=.box [.v (.slice none 0 0)]) :
  caG ixB [.sl 0 1 9 0 ns.length,.fn 141 [.bp 1 0]] M nid=some (I (fstG (inF []) ns),[(0,.vec 1 9 false (nrw ns)),(1,.box [.v (.slice none 0 0)])]):=by
 have hF:=ixB_0 h
 simp only [ixM0,nil0] at hF
 unfold caG
 have hg:gat M 64 (nmsL [.sl 0 1 9 0 ns.length,.fn 141 [.bp 1 0]]) []=[0,1]:=by
  simp [gat,nmsL,AV.nms,AO.nms,h0,h1]
 simp only [hg]
 rw [if_pos ?cg]
 case cg=>simp [CallG,nmsL,AV.nms,AO.nms,Led,curBL,AV.curB,AO.curB,verOf,nDd,h0,h1]
 simp [renL,AV.ren,AO.ren,posN,canO,nmsL,h0,h1,hF,RetG,getL,AV.nms,AO.nms,updN,nmN,shN,verOf,rng,Led]
def dfS:List AV→List AO→Option (AV×List AO):=specG (ι:={x:IxD // ixOK x}) (fun x=>[.sl 0 1 9 0 x.1.1.length,.fn 141 [.bp 1 0]]) (fun x=>ixM x.1.1 x.1.2) (fun x=>rtO [.sl 0 1 9 0 (kpF x.1.2 x.1.1).length]) fun x=>ixM (dfR x.1.2 x.1.1) x.1.2
theorem dfS_at {ns:NdL} {fr:List Int} (h:ixOK (ns,fr)):dfS [.sl 0 1 9 0 ns.length,.fn 141 [.bp 1 0]] (ixM ns fr)=some (.sl 0 1 9 0 (kpF fr ns).length,ixM (dfR fr ns) fr):=by
 refine sGe (ι:={x:IxD // ixOK x}) (A:=fun x=>[.sl 0 1 9 0 x.1.1.length,.fn 141 [.bp 1 0]]) (M:=fun x=>ixM x.1.1 x.1.2) (R:=fun x=>rtO [.sl 0 1 9 0 (kpF x.1.2 x.1.1).length]) (O:=fun x=>ixM (dfR x.1.2 x.1.1) x.1.2) ⟨(ns,fr),h⟩ fun j hA hM=>?_
 obtain ⟨⟨n',fr'⟩,h'⟩:=j
 obtain ⟨rfl,rfl⟩:=ixM_inj hM
 exact ⟨rfl,rfl⟩
def dfS0:List AV→List AO→Option (AV×List AO):=specG (ι:={x:NdL // ixOK (x,[])}) (fun x=>[.sl 0 1 9 0 x.1.length,.fn 141 [.bp 1 0]]) (fun x=>ixM0 x.1) (fun x=>rtO [.sl 0 1 9 0 x.1.length]) fun x=>ixM0 x.1
theorem dfS0_at {ns:NdL} (h:ixOK (ns,[])):dfS0 [.sl 0 1 9 0 ns.length,.fn 141 [.bp 1 0]] (ixM0 ns)=some (.sl 0 1 9 0 ns.length,ixM0 ns):=by
 refine sGe (ι:={x:NdL // ixOK (x,[])}) (A:=fun x=>[.sl 0 1 9 0 x.1.length,.fn 141 [.bp 1 0]]) (M:=fun x=>ixM0 x.1) (R:=fun x=>rtO [.sl 0 1 9 0 x.1.length]) (O:=fun x=>ixM0 x.1) ⟨ns,h⟩ fun j hA hM=>?_
 obtain ⟨n',h'⟩:=j
 have:=ixM0_inj hM
 simp only at this
 subst this
 exact ⟨rfl,rfl⟩
theorem nrows_set {S:NdL} {c:Nat} {n:Nd}:(nrw S).set c (nrow n)=nrw (S.set c n):=by unfold nrw;rw [List.map_set]
theorem s140 (X:AX) (hX:XOK prog X) (hw:X.W wT) (hcl:X.call 141=caG clrB) (hix:X.call 193=caG ixB):GSd prog 140 dfS:=by
 unfold dfS
 refine gsS func140 rfl X fun ⟨⟨ns,fr⟩,hok,hl,hfr⟩ w0 L E=>⟨by show 2≤42;decide,?_⟩
 simp only at hok hl hfr
 have hcr:=fun (n:Nd) (h:n.2.length=8) M nid=>@callCr 1 2 (by decide) n fr h hfr M nid
 have hci:=fun M nid=>@callIx ns fr ⟨hok,hl,hfr⟩ M nid
 rw [← hcl] at hcr
 rw [← hix] at hci
 simp only [ixM]
 show AW ⟨prog,X,42,w0,⟨L,E,3⟩⟩ _ _ _
 have hc:Cx.OK ⟨prog,X,42,w0,⟨L,E,3⟩⟩:=⟨hX,mixed⟩
 rcases dE (ns.findIdx (inF fr)<ns.length) with hex|hex
 ·obtain ⟨i,hi,h1,h2⟩:∃ j,j<ns.length∧inF fr (gn ns j)=true∧∀ k,k<j→inF fr (gn ns k)=false:=by
   refine ⟨ns.findIdx (inF fr),hex,?_,fun k hk=>?_⟩
   ·rw [gn_eq hex];exact List.findIdx_getElem (w:=hex)
   ·rw [gn_eq (by omega)];simpa using List.not_of_lt_findIdx hk
  have e:fstG (inF fr) ns=i:=fstG_at hi (by rw [← gn_eq hi];exact h1) fun j hj=>by rw [← gn_eq (by omega)];exact h2 j hj
  rw [e] at hci
  have hiI:¬ (i:Int)=-1:=by omega
  have hkt:kpF fr (ns.take i)=ns.take i:=by
   unfold kpF
   refine List.filter_eq_self.2 fun x hx=>?_
   obtain ⟨j,hj,rfl⟩:=List.getElem_of_mem hx
   have hj2:j<i:=by simp at hj;omega
   have:=h2 j hj2
   rw [gn_eq (by omega)] at this
   rw [List.getElem_take,this];rfl
  have hk1:kpF fr (ns.take (i+1))=ns.take i:=by rw [kpF_s hi,h1,hkt];simp
  have zS:=jj hci<|hiI
  repeat' (first|(refine aSk fun K hK=>?_)|(refine eM64 ?_)|(refine eC (fun h=>?_) (fun h=>?_)<;>(try simp at h))|(refine hK _ ?_;clear hK)|(clear hK;refine hK _ ?_;clear hK))
  all_goals clear zS
  refine aLK (s0:=?lps1) (m0:=?lpm1) (ι:={s:Nat×NdL // s.1≤ns.length∧s.2.length=ns.length∧s.2.take (kpF fr (ns.take s.1)).length=kpF fr (ns.take s.1)∧(∀ k,s.1≤k→k<ns.length→gn s.2 k=gn ns k)∧(kpF fr (ns.take s.1)).length<s.1∧∀ x∈s.2,x.2.length=8}) [0,1] (fun s=>[(6,I s.1.1),(5,I (kpF fr (ns.take s.1.1)).length)]) (fun s=>[(0,.vec 1 9 false (nrw s.1.2))]) (fun s=>ns.length - s.1.1) ⟨(i+1,ns),by simp only;omega,rfl,by simp only [hk1,List.length_take];rw [Nat.min_eq_left (by omega)],fun k _ _=>rfl,by simp only [hk1,List.length_take];omega,fun x hx=>(hok x hx).1⟩ ?lhs1 ?lhm1 ?_ ?_
  case lhs1=>first|(simp [kpS];done)|(simp [kpS];rfl)
  case lhm1=>first|rfl|(simp;done)|(simp;rfl)
  ·simp only [hk1,List.length_take,Nat.min_eq_left (Nat.le_of_lt hi)]
   exact dle
  ·rintro ⟨⟨j,S⟩,hj,hSl,hSt,hSd,hcj,hS8⟩
   simp only at hj hSl hSt hSd hcj hS8 ⊢
   obtain ⟨c,hcc⟩:∃ c,c=(kpF fr (ns.take j)).length:=⟨_,rfl⟩
   rw [← hcc] at hSt hcj ⊢
   rcases dE (j<ns.length) with hjl|hjl
   ·have hjS:j<S.length:=by omega
    have hjI:(j:Int)<(ns.length:Int):=by omega
    have hcS:c<S.length:=by omega
    have hcI:(c:Int)<(ns.length:Int):=by omega
    have hcl2:c<ns.length:=by omega
    have hg:=nrG hjS
    have hgE:=nrE hjS
    rw [hSd j (Nat.le_refl _) hjl] at hg hgE
    have hks:=@kpF_s fr ns j hjl
    have h8:=(hok _ (gn_mem hjl)).1
    have hcr':=hcr _ h8
    have hse:=@nrows_set S c (gn ns j)
    have hSd2:∀ k,j+1≤k→k<ns.length→gn (S.set c (gn ns j)) k=gn ns k:=fun k h3 h4=>by
     rw [gn_eq (by simp;omega),List.getElem_set_ne (by omega),← gn_eq (by omega)]
     exact hSd k (by omega) h4
    have hSt2:(S.set c (gn ns j)).take (c+1)=kpF fr (ns.take j)++[gn ns j]:=by
     rw [List.take_add_one,List.getElem?_set_self (by omega),List.take_set_of_le (Nat.le_refl _),hSt];rfl
    obtain ⟨⟨g,ws⟩,hm⟩:∃ m,m=gn ns j:=⟨_,rfl⟩
    rw [← hm] at hg hgE h8 hcr' hks hse hSd2 hSt2
    simp only [nrow] at hg hgE h8 hcr' hse
    have hwl:(wcs ws).length=8:=by simp [h8]
    obtain ⟨T,hT⟩:∃ T,T=S.set c (g,ws):=⟨_,rfl⟩
    have hT8:∀ x∈T,x.2.length=8:=fun x hx=>by
     rw [hT] at hx
     rcases List.mem_or_eq_of_mem_set hx with h5|h5
     ·exact hS8 x h5
     ·rw [h5];exact h8
    have hgc:=nrG hcS
    have hgcE:=nrE hcS
    have hc8:=hS8 _ (gn_mem hcS)
    obtain ⟨⟨g2,ws2⟩,hm2⟩:∃ m,m=gn S c:=⟨_,rfl⟩
    rw [← hm2] at hgc hgcE hc8
    simp only at hgc hgcE hc8
    have hwl2:(wcs ws2).length=8:=by simp [hc8]
    obtain ⟨cs2,hcs2⟩:∃ cs,cs=wcs ws2:=⟨_,rfl⟩
    rw [← hcs2] at hgc hgcE hwl2
    have hdr2:List.drop 8 cs2=[]:=List.drop_of_length_le (by omega)
    clear hcs2 hm2
    have hTl:T.length=ns.length:=by rw [hT];simpa using hSl
    rw [← hT] at hse hSd2 hSt2
    have hcx:∀ x,x∈wcs ws→AV.isClosed x=true:=fun a ha=>by
     obtain ⟨w,_,rfl⟩:=List.mem_map.1 ha
     rfl
    obtain ⟨cs,hcs⟩:∃ cs,cs=wcs ws:=⟨_,rfl⟩
    rw [← hcs] at hg hgE hwl hcr' hse hcx
    simp only [AV.isClosed] at hcx
    have htk:List.take 8 cs=cs:=tkL (by omega)
    clear hcs hm
    rcases dE (g∈fr) with hgf|hgf
    ·rw [decide_eq_true hgf] at hcr'
     rw [if_pos (by simp [inF,hgf]),List.append_nil] at hks
     have zS:=jj hjI<|jj hjl<|jj hjS<|jj hg<|jj hgE<|jj hwl<|jj htk<|hcr'
     repeat' (first|(refine aSk fun K hK=>?_)|(refine eM64 ?_)|(refine eC (fun h=>?_) (fun h=>?_)<;>(try simp at h))|(refine hK _ ?_;clear hK)|clear hK)
     all_goals clear zS
     refine ⟨j+1,S,?_,⟨by omega,hSl,by rw [hks,← hcc];exact hSt,fun k h3 h4=>hSd k (by omega) h4,by rw [hks,← hcc];omega,fun a b h=>hS8 (a,b) h⟩,by omega⟩
     simp only [hks,← hcc]
     exact dle
    ·rw [decide_eq_false hgf] at hcr'
     rw [if_neg (by simp [inF,hgf])] at hks
     have hkl:(kpF fr (ns.take (j+1))).length=c+1:=by rw [hks,List.length_append,← hcc];rfl
     have zS:=jj hjI<|jj hjl<|jj hjS<|jj hg<|jj hgE<|jj hwl<|jj htk<|jj hcr'<|jj hcI<|jj hcl2<|jj hcS<|jj hgc<|jj hgcE<|jj hwl2<|jj hdr2<|jj hse<|hcx
     repeat' (first|(refine aSk fun K hK=>?_)|(refine eM64 ?_)|(refine eC (fun h=>?_) (fun h=>?_)<;>(try simp at h))|(refine hK _ ?_;clear hK)|clear hK)
     all_goals clear zS
     refine ⟨j+1,T,?_,⟨by omega,hTl,by rw [hkl,hks];exact hSt2,hSd2,by omega,fun a b h=>hT8 (a,b) h⟩,by omega⟩
     simp only [hkl]
     exact dle
   ·obtain rfl:j=ns.length:=by omega
    rw [List.take_length] at hcc hSt
    repeat' (first|(refine aSk fun K hK=>?_)|(refine eMo ?_)|(refine eC (fun h=>?_) (fun h=>?_)<;>(try simp at h))|(refine hK _ ?_;clear hK)|clear hK)
    refine ⟨by simp,_,by simp [aRs,aRt,f140];rfl,?_⟩
    have e1:List.take c (nrw S)++(List.replicate (ns.length - c) [AV.v (Value.int IntKind.i64 0),AV.v (Value.int IntKind.u64 0),AV.v (Value.int IntKind.u64 0),AV.v (Value.int IntKind.u64 0),AV.v (Value.int IntKind.u64 0),AV.v (Value.int IntKind.u64 0),AV.v (Value.int IntKind.u64 0),AV.v (Value.int IntKind.u64 0),AV.v (Value.int IntKind.u64 0)]++List.drop (c+(ns.length - c)) (nrw S))=nrw (dfR fr ns):=by
     rw [nrows_replicate,nrows_take,hSt,List.drop_of_length_le (by simp;omega),List.append_nil,nrows_append]
     unfold dfR
     rw [hcc]
    simp only [idx,e1,← hcc]
    exact dle
 ·have e:fstG (inF fr) ns=-1:=fstG_not fun j hj=>by
   have h3:=List.findIdx_le_length (xs:=ns) (p:=inF fr)
   simpa using List.not_of_lt_findIdx (p:=inF fr) (xs:=ns) (i:=j) (by omega)
  have hkp:kpF fr ns=ns:=by
   unfold kpF
   refine List.filter_eq_self.2 fun x hx=>?_
   obtain ⟨j,hj,rfl⟩:=List.getElem_of_mem hx
   have h3:=List.findIdx_le_length (xs:=ns) (p:=inF fr)
   have:=List.not_of_lt_findIdx (p:=inF fr) (xs:=ns) (i:=j) (by omega)
   simpa using this
  have hdf:dfR fr ns=ns:=by unfold dfR;rw [hkp];simp
  rw [e] at hci
  have zS:=hci
  refine dM64 ?_
  repeat (intro K hK)
  clear zS
  refine ⟨by simp,_,by simp [aRs,aRt,f140];rfl,?_⟩
  simp only [idx,hkp,hdf]
  exact dle
theorem s140_0 (X:AX) (hX:XOK prog X) (hw:X.W wT) (hix:X.call 193=caG ixB):GSd prog 140 dfS0:=by
 unfold dfS0
 refine gsS func140 rfl X fun ⟨ns,hok,hl,hfr⟩ w0 L E=>⟨by show 2≤42;decide,?_⟩
 simp only at hok hl hfr
 have hci:=fun M nid=>@callIx0 ns ⟨hok,hl,hfr⟩ M nid
 rw [← hix] at hci
 simp only [ixM0,nil0]
 show AW ⟨prog,X,42,w0,⟨L,E,2⟩⟩ _ _ _
 have hc:Cx.OK ⟨prog,X,42,w0,⟨L,E,2⟩⟩:=⟨hX,mixed⟩
 have e:fstG (inF []) ns=-1:=fstG_not fun j hj=>by simp [inF]
 rw [e] at hci
 have zS:=hci
 refine dM64 ?_
 repeat (intro K hK)
 clear zS
 refine ⟨by simp,_,by simp [aRs,aRt,f140];rfl,?_⟩
 simp only [idx]
 exact dle
def dfB:List AV→List AO→Option (AV×List AO):=orG dfS dfS0
end
theorem dfB_0 {ns:NdL} (h:ixOK (ns,[])):dfB [.sl 0 1 9 0 ns.length,.fn 141 [.bp 1 0]] (ixM0 ns)=some (.sl 0 1 9 0 ns.length,ixM0 ns):=orG_2 (specG_none fun i _ h2=>by simp [ixM,ixM0] at h2) (dfS0_at h)
theorem dfR_len {fr:List Int} {ns:NdL}:(dfR fr ns).length=ns.length:=by
 have:=@kpF_len fr ns
 simp [dfR];omega
set_option maxHeartbeats 1000000 in
theorem callDf {a b c:Nat} (hab:a≠b) (hac:a≠c) (hbc:b≠c) {ns:NdL} {fr:List Int} (h:ixOK (ns,fr)) {L:Nat} (hL:L=ns.length) {v v3:Nat} (M:Nat→AO) (nid:Nat) (h0:M a=.vec (v+1) 9 false (nrw ns)) (h1:M b=.box [.sl c (v3+1) 1 0 fr.length]) (h2:M c=.vec (v3+1) 1 false (irw fr)) :
  caG dfB [.sl a (v+1) 9 0 L,.fn 141 [.bp b 0]] M nid=some (.sl a (v+1) 9 0 (kpF fr ns).length,[(a,.vec (v+1) 9 false (nrw (dfR fr ns))),(b,.box [.sl c (v3+1) 1 0 fr.length]),(c,.vec (v3+1) 1 false (irw fr))]):=by
 subst hL
 have hF:dfB _ _=_:=orG_1 (dfS_at h)
 simp only [ixM] at hF
 have hba:b≠a:=fun e=>hab e.symm
 have hca:c≠a:=fun e=>hac e.symm
 have hcb:c≠b:=fun e=>hbc e.symm
 unfold caG
 have hg:gat M 64 (nmsL [.sl a (v+1) 9 0 ns.length,.fn 141 [.bp b 0]]) []=[a,b,c]:=by
  simp [gat,nmsL,AV.nms,AO.nms,h0,h1,h2,hab,hac,hbc,hba,hca,hcb]
 simp only [hg]
 rw [if_pos ?cg]
 case cg=>simp [CallG,nmsL,AV.nms,AO.nms,Led,curBL,AV.curB,AO.curB,verOf,nDd,h0,h1,h2,hab,hac,hbc,hba,hca,hcb]
 have e1:1+v=v+1:=by omega
 have e2:1+v3=v3+1:=by omega
 simp [renL,AV.ren,AO.ren,posN,canO,nmsL,h0,h1,h2,hF,RetG,getL,AV.nms,AO.nms,updN,nmN,shN,verOf,rng,Led,hab,hac,hbc,hba,hca,hcb,e1,e2]
theorem callDf0 {a b:Nat} (hab:a≠b) {ns:NdL} (h:ixOK (ns,[])) {L:Nat} (hL:L=ns.length) {v:Nat} (M:Nat→AO) (nid:Nat) (h0:M a=.vec (v+1) 9 false (nrw ns)) (h1:M b=.box [.v (.slice none 0 0)]) :
  caG dfB [.sl a (v+1) 9 0 L,.fn 141 [.bp b 0]] M nid=some (.sl a (v+1) 9 0 L,[(a,.vec (v+1) 9 false (nrw ns)),(b,.box [.v (.slice none 0 0)])]):=by
 subst hL
 have hF:=dfB_0 h
 simp only [ixM0,nil0] at hF
 have hba:b≠a:=fun e=>hab e.symm
 unfold caG
 have hg:gat M 64 (nmsL [.sl a (v+1) 9 0 ns.length,.fn 141 [.bp b 0]]) []=[a,b]:=by
  simp [gat,nmsL,AV.nms,AO.nms,h0,h1,hab,hba]
 simp only [hg]
 rw [if_pos ?cg]
 case cg=>simp [CallG,nmsL,AV.nms,AO.nms,Led,curBL,AV.curB,AO.curB,verOf,nDd,h0,h1,hab,hba]
 have e1:1+v=v+1:=by omega
 simp [renL,AV.ren,AO.ren,posN,canO,nmsL,h0,h1,hF,RetG,getL,AV.nms,AO.nms,updN,nmN,shN,verOf,rng,Led,hab,hba,e1]
def clrL (p:Nat) (ns:NdL):List Stp→NdL×List Int
 | []=>(ns,[])
 | [s]=>(setN ns s.1 (dgt p s.2.1) 0,[])
 | s::q=>if (gn (setN ns s.1 (dgt p s.2.1) 0) s.1).2=zs8 then ((clrL p (setN ns s.1 (dgt p s.2.1) 0) q).1,(gn ns s.1).1::(clrL p (setN ns s.1 (dgt p s.2.1) 0) q).2) else (setN ns s.1 (dgt p s.2.1) 0,[])
def clrF (t:Tb) (p:Nat):List Int:=if (lsT t p).2.1=1 then [(gp t.2.2 (lowD t.2.2 ((p/8:Nat):Int))).2] else []
def clrD (t:Tb) (p:Nat):List Dp:=if (lsT t p).2.1=1 then delL t.2.2 ((p/8:Nat):Int) else t.2.2
def clrA (t:Tb) (p:Nat):List Int:=clrF t p++(clrL p t.2.1 (ptL t p).reverse).2
noncomputable def clrP (t:Tb) (p:Int):Tb×Nat×List Int×Int :=
 if ckd t p 512≠0 then (zT,0,[],ckd t p 512)
 else if (lsT t p.toNat).2.2=0 then (zT,0,[],6)
 else ((t.1,kpF (clrA t p.toNat) (clrL p.toNat t.2.1 (ptL t p.toNat).reverse).1,clrD t p.toNat),(lsT t p.toNat).2.2,clrA t p.toNat,0)
theorem path_0 {r:Int} {ns:NdL} {ds:List Dp} (h:Pv (r,ns,ds)) {p:Nat} (hp:p<512) (hl:(lsT (r,ns,ds) p).2.1=0):∃ n2 w2 n1 w1,n2<ns.length∧n1<ns.length∧ptL (r,ns,ds) p=[(n2,2,w2),(n1,1,w1),lsT (r,ns,ds) p]:=by
 have hr:=fnd_lt h.root
 unfold lsT ptL at *
 simp only [lst,pth] at hl ⊢
 cases h2:kid WA ns (wd ns (rtN (r,ns,ds)) (dgt p 2)) with
 | none=>rw [h2] at hl;simp at hl
 | some n1 =>
  rw [h2] at hl
  simp only at hl ⊢
  cases h1:kid WA ns (wd ns n1 (dgt p 1)) with
  | none=>rw [h1] at hl;simp at hl
  | some n0 =>
   obtain ⟨g,_,hg⟩:=kid_some.1 h2
   exact ⟨_,_,n1,_,hr,fnd_lt hg,rfl⟩
theorem path_1 {r:Int} {ns:NdL} {ds:List Dp} (h:Pv (r,ns,ds)) {p:Nat} (hp:p<512) (hl:(lsT (r,ns,ds) p).2.1=1):∃ n2 w2,n2<ns.length∧ptL (r,ns,ds) p=[(n2,2,w2),lsT (r,ns,ds) p]:=by
 have hr:=fnd_lt h.root
 unfold lsT ptL at *
 simp only [lst,pth] at hl ⊢
 cases h2:kid WA ns (wd ns (rtN (r,ns,ds)) (dgt p 2)) with
 | none=>rw [h2] at hl;simp at hl
 | some n1 =>
  rw [h2] at hl
  simp only at hl ⊢
  cases h1:kid WA ns (wd ns n1 (dgt p 1)) with
  | some n0=>rw [h1] at hl;simp at hl
  | none=>exact ⟨_,_,hr,rfl⟩
def z8:List Value:=[.int .u64 0,.int .u64 0,.int .u64 0,.int .u64 0,.int .u64 0,.int .u64 0,.int .u64 0,.int .u64 0]
def z8A:List AV:=[.v (.int .u64 0),.v (.int .u64 0),.v (.int .u64 0),.v (.int .u64 0),.v (.int .u64 0),.v (.int .u64 0),.v (.int .u64 0),.v (.int .u64 0)]
theorem path_2 {r:Int} {ns:NdL} {ds:List Dp} (h:Pv (r,ns,ds)) {p:Nat} (hp:p<512) (hl:(lsT (r,ns,ds) p).2.1=2):ptL (r,ns,ds) p=[lsT (r,ns,ds) p]:=by
 unfold lsT ptL at *
 simp only [lst,pth] at hl ⊢
 cases h2:kid WA ns (wd ns (rtN (r,ns,ds)) (dgt p 2)) with
 | none=>rfl
 | some n1 =>
  rw [h2] at hl
  simp only at hl
  cases h1:kid WA ns (wd ns n1 (dgt p 1)) with
  | none=>rw [h1] at hl;simp at hl
  | some n0=>rw [h1] at hl;simp at hl
theorem ent_level {r:Int} {ns:NdL} {ds:List Dp} (hv:Vt (r,ns,ds)) {p:Nat} (hp:p<512) (h0:(lsT (r,ns,ds) p).2.2≠0):(lsT (r,ns,ds) p).2.1≠2∧((lsT (r,ns,ds) p).2.1=1→lowD ds ((p/8:Nat):Int)<ds.length):=by
 have hpv:=hv.pv
 obtain ⟨f,l,w,hw⟩:∃ f l w,wlk (Mof ns) r p=(f,l,w):=⟨_,_,_,rfl⟩
 have h1:=(hpv.walk hp).2.2
 simp only at h1
 rw [hw] at h1
 rw [h1] at h0 ⊢
 simp only at h0 ⊢
 obtain ⟨a1,a2,a3,a4,a5,a6⟩:=wlk_at hpv.vm hp hw
 have hk:(decR w).1.1≠0:=fun h=>h0 ((kind0 a6).1 h)
 have h4:(decR w).1.1≠4:=decR_tab.1 a5
 have a7:=a6
 unfold okWb at a7
 simp only [Bool.and_eq_true,decide_eq_true_eq] at a7
 obtain ⟨_,a7⟩:=a7
 unfold suitB at a7
 rw [if_neg hk,if_neg h4] at a7
 refine ⟨fun e=>?_,fun e=>?_⟩
 ·subst e;simp at a7
 ·subst e
  by_cases hk1:(decR w).1.1=1
  ·rw [if_pos hk1] at a7
   simp at a7
   refine (lowD_key (ds:=ds) hv.num.dasc ?_).1
   have hd:=hv.dep
   simp only at hd
   rw [hd]
   refine mem_hugM.2 ⟨p/8,by omega,rfl,hugB_iff.2 ⟨f,?_,?_⟩⟩
   ·simp only at a3
    have:p/8^(1+1)=p/8/8:=by simp;omega
    rw [this] at a3
    exact a3
   ·simp only at a4
    rw [dgt1] at a4
    rw [← a4]
    unfold hugW
    rw [hk1,a7];rfl
  ·rw [if_neg hk1] at a7
   simp at a7
structure Rnd (S:NdL) (a dg:Nat) (fr:Int) (cs cs':List AV) (b:Bool):Prop where
 g:(nrw S)[a]?=some (I fr::cs)
 gE:∀ h',(nrw S)[a]'(h')=I fr::cs
 l:cs.length=8
 st:(nrw S).set a (I fr::cs.set dg (.v (.int .u64 0)))=nrw (setN S a dg 0)
 g':(nrw (setN S a dg 0))[a]?=some (I fr::cs')
 gE':∀ h',(nrw (setN S a dg 0))[a]'(h')=I fr::cs'
 l':cs'.length=8
 eq:eqL cs' z8A=some b
 sk:sameK z8 cs'=true
 s1:(I fr::cs).set (1+dg) (.v (.int .u64 0))=I fr::cs.set dg (.v (.int .u64 0))
theorem rnd {S:NdL} (hS:∀ x∈S,ndOK x) {a dg:Nat} (ha:a<S.length) (hd:dg<8):∃ cs cs',Rnd S a dg (gn S a).1 cs cs' (decide ((gn (setN S a dg 0) a).2=zs8)):=by
 have h8:=(hS _ (gn_mem ha)).1
 have hg:gn (setN S a dg 0) a=((gn S a).1,(gn S a).2.set dg 0):=by
  rw [gn_eq (by rw [sNl];exact ha)]
  unfold setN
  rw [List.getElem_set_self];rfl
 have ha':a<(setN S a dg 0).length:=by rw [sNl];exact ha
 have hn:=@nrows_setN S a dg 0 ha
 have g':=nrG ha'
 have gE':=nrE ha'
 rw [hg] at g' gE' ⊢
 refine ⟨wcs (gn S a).2,wcs ((gn S a).2.set dg 0),nrG ha,nrE ha,by simp [h8],hn,g',gE',by simp [h8],?_,?_,?_⟩
 ·show eqL _ (wcs zs8)=_
  exact eqL_wcs (by simp [h8,zs8])
 ·exact sameK_wcs (n:=8) (by simp [h8])
 ·rw [Nat.add_comm];rfl
theorem kpF_nil {S:NdL}:kpF [] S=S:=by unfold kpF;exact List.filter_eq_self.2 fun x _=>by simp [inF]
theorem setN_ndok {S:NdL} (hS:∀ x∈S,ndOK x) {a dg:Nat} (ha:a<S.length):∀ x∈setN S a dg 0,ndOK x:=setN_ok hS (by omega) ha
set_option maxHeartbeats 16000000 in
theorem s55 (X:AX) (hX:XOK prog X) (hw:X.W wT) (he:X.eqs 148=true) (hck:∀ t:Tb,tbOK t→∀ (n lim:Int) M k,X.call 109 [TbV t,I n,I lim] M k=some (I (ckd t n lim),[]))
  (hpa:∀ (t:Tb) (p:Nat),ptO t p→∀ M n,X.call 137 [TbV t,I p] M n=some (.sl n 1 3 0 (ptL t p).length,[(n,.vec 1 3 false (srows (ptL t p)))]))
  (hdg:∀ (p l:Nat),p<512→l≤2→∀ M n,X.call 139 [I p,I l] M n=some (I (dgt p l),[]))
  (hcl:∀ t:Tb,tbOK t→∀ M n,X.call 128 [TbV t] M n=some (TbC t n,[(n,.vec 1 9 false (nrw t.2.1)),(n+1,.vec 1 2 false (prw t.2.2))]))
  (hwd:X.call 138=caG wdS) (hdf:X.call 140=caG dfB) :
  PSd prog 55 (spF (ι:={x:Tb×Int // tbOK x.1∧x.1.2.1.length≤999000}) (fun x=>[TbV x.1.1,I x.1.2]) fun x=>rtO [TbO (clrP x.1.1 x.1.2).1,U (clrP x.1.1 x.1.2).2.1,.ow 1 (irw (clrP x.1.1 x.1.2).2.2.1),I (clrP x.1.1 x.1.2).2.2.2]):=by
 refine psS hX mixed func55 rfl fun ⟨⟨⟨r,ns,ds⟩,pI⟩,ht,hl9⟩ w0 G=>⟨by show 2≤96;decide,rfl,?_⟩
 show AW ⟨prog,X,96,w0,.pure G⟩ _ _ _
 have hc:=okc hX 96 w0 G
 simp only at hl9 ht ⊢
 have hck':=hck _ ht pI 512
 have hl1:ns.length≤1000000:=ht.2.1
 have hl2:ds.length≤1000000:=ht.2.2
 rcases dE (ckd (r,ns,ds) pI 512≠0) with hk|hk
 ·have e:clrP (r,ns,ds) pI=(zT,0,[],ckd (r,ns,ds) pI 512):=by unfold clrP;rw [if_pos hk]
  rw [e]
  obtain ⟨c,hc0⟩:∃ c,c=ckd (r,ns,ds) pI 512:=⟨_,rfl⟩
  rw [← hc0] at hck' hk ⊢
  simp only [TbV,TbO,zT,U] at hck' ⊢
  have zS:=jj hck'<|hk
  refine dM64 ?_
  repeat (intro K hK)
  clear zS
  refine ⟨by simp,?_⟩
  simp [lvI,f55,nrw,prw,irw]
  try exact dt
 ·obtain ⟨hpv,hp0,hp1⟩:=ckd_pt ht hk
  have hvt:=ckd_vt ht hk
  obtain ⟨p,rfl⟩:=Int.eq_ofNat_of_zero_le hp0
  have hp:p<512:=by omega
  have hz:ckd (r,ns,ds) p 512=0:=by omega
  rw [hz] at hck'
  have hpa':=hpa _ _ (hpv.pto ht hp)
  have hcl':=hcl _ ht
  have eS:clrP (r,ns,ds) p=if (lsT (r,ns,ds) p).2.2=0 then (zT,0,[],6) else ((r,kpF (clrA (r,ns,ds) p) (clrL p ns (ptL (r,ns,ds) p).reverse).1,clrD (r,ns,ds) p),(lsT (r,ns,ds) p).2.2,clrA (r,ns,ds) p,0):=by
   unfold clrP
   rw [if_neg hk,Int.toNat_natCast]
  rw [eS]
  have hdg2:=hdg p 2 hp (by omega)
  have hdg1:=hdg p 1 hp (by omega)
  have hdg0:=hdg p 0 hp (by omega)
  have hd2:=dgt_lt p 2
  have hd1:=dgt_lt p 1
  have hd0:=dgt_lt p 0
  have hlw:=lsT_lt hpv hp
  rw [show ((2:Nat):Int)=2 from rfl] at hdg2
  rw [show ((1:Nat):Int)=1 from rfl] at hdg1
  rw [show ((0:Nat):Int)=0 from rfl] at hdg0
  have hd2I:((dgt p 2:Nat):Int)<8:=by omega
  have hd1I:((dgt p 1:Nat):Int)<8:=by omega
  have hd0I:((dgt p 0:Nat):Int)<8:=by omega
  have hdv:(p:Int).tdiv 8=((p/8:Nat):Int):=by rw [Int.tdiv_eq_ediv_of_nonneg (by omega)];omega
  rcases (by omega:(lsT (r,ns,ds) p).2.1=0∨(lsT (r,ns,ds) p).2.1=1∨(lsT (r,ns,ds) p).2.1=2) with hlev|hlev|hlev
  ·obtain ⟨n2,w2,n1,w1,hn2,hn1,hpl⟩:=path_0 hpv hp hlev
   have hA:clrA (r,ns,ds) p=(clrL p ns (ptL (r,ns,ds) p).reverse).2:=by unfold clrA clrF;rw [if_neg (by rw [hlev];decide)];rfl
   have hD:clrD (r,ns,ds) p=ds:=by unfold clrD;rw [if_neg (by rw [hlev];decide)]
   rw [hA,hD]
   rw [hpl] at hpa' ⊢
   obtain ⟨⟨n0,l0,w⟩,hS⟩:∃ S,S=lsT (r,ns,ds) p:=⟨_,rfl⟩
   rw [← hS] at hlev hlw hpa' ⊢
   simp only at hlev hlw
   subst hlev
   clear hS hA hD eS hpl
   simp only [TbV,TbO,TbC,srows,srow,List.map_cons,List.map_nil,U,List.reverse_cons,List.reverse_nil,List.nil_append,List.cons_append,List.length_cons,List.length_nil,Nat.zero_add] at hck' hpa' hcl' ⊢
   rcases dE (w=0) with hw0|hw0
   ·rw [if_pos hw0]
    subst hw0
    simp only [zT]
    have zS:=jj hck'<|hpa'
    refine dM64 ?_
    repeat (intro K hK)
    clear zS
    all_goals refine ⟨by simp,?_⟩
    all_goals simp [lvI,f55,nrw,prw,irw]
    all_goals try exact dt
   ·rw [if_neg hw0]
    have hw0I:¬ (w:Int)=0:=by omega
    have hn0:n0<ns.length:=hlw.1
    have hn0I:(n0:Int)<(ns.length:Int):=by omega
    have hn1I:(n1:Int)<(ns.length:Int):=by omega
    have hn2I:(n2:Int)<(ns.length:Int):=by omega
    obtain ⟨ca,ca',Ra⟩:=rnd (S:=ns) ht.1 (a:=n0) hn0 hd0
    have qRa:=Ra.eq
    have kRa:=Ra.sk
    simp only [z8,z8A] at qRa kRa
    have tkRa:List.take 8 ca'=ca':=tkL (by have:=Ra.l';omega)
    have cA:clrL p ns [(n0,0,w),(n1,1,w1),(n2,2,w2)]=if (gn (setN ns n0 (dgt p 0) 0) n0).2=zs8 then ((clrL p (setN ns n0 (dgt p 0) 0) [(n1,1,w1),(n2,2,w2)]).1,(gn ns n0).1::(clrL p (setN ns n0 (dgt p 0) 0) [(n1,1,w1),(n2,2,w2)]).2) else (setN ns n0 (dgt p 0) 0,[]):=rfl
    have g0:(gn ns n0).1=(gn ns n0).1:=rfl
    obtain ⟨S1,hS1⟩:∃ S,S=setN ns n0 (dgt p 0) 0:=⟨_,rfl⟩
    have hS1o:∀ x∈S1,ndOK x:=by rw [hS1];exact setN_ndok ht.1 hn0
    have hS1l:S1.length=ns.length:=by rw [hS1,sNl]
    have Ra1:=Ra.st
    have Ra2:=Ra.g'
    have Ra3:=Ra.gE'
    rw [← hS1] at cA qRa Ra1 Ra2 Ra3
    have hS1n:∀ n,n<ns.length→n<S1.length:=fun n h=>by omega
    have hn1S:n1<S1.length:=by omega
    obtain ⟨cb,cb',Rb⟩:=rnd (S:=S1) hS1o (a:=n1) hn1S hd1
    have qRb:=Rb.eq
    have kRb:=Rb.sk
    simp only [z8,z8A] at qRb kRb
    have tkRb:List.take 8 cb'=cb':=tkL (by have:=Rb.l';omega)
    have cB:clrL p S1 [(n1,1,w1),(n2,2,w2)]=if (gn (setN S1 n1 (dgt p 1) 0) n1).2=zs8 then ((clrL p (setN S1 n1 (dgt p 1) 0) [(n2,2,w2)]).1,(gn S1 n1).1::(clrL p (setN S1 n1 (dgt p 1) 0) [(n2,2,w2)]).2) else (setN S1 n1 (dgt p 1) 0,[]):=rfl
    obtain ⟨S2,hS2⟩:∃ S,S=setN S1 n1 (dgt p 1) 0:=⟨_,rfl⟩
    have hS2o:∀ x∈S2,ndOK x:=by rw [hS2];exact setN_ndok hS1o hn1S
    have hS2l:S2.length=ns.length:=by rw [hS2,sNl];exact hS1l
    have Rb1:=Rb.st
    have Rb2:=Rb.g'
    have Rb3:=Rb.gE'
    rw [← hS2] at cB qRb Rb1 Rb2 Rb3
    have hn2S:n2<S2.length:=by omega
    obtain ⟨cc,cc',Rc⟩:=rnd (S:=S2) hS2o (a:=n2) hn2S hd2
    have qRc:=Rc.eq
    have kRc:=Rc.sk
    simp only [z8,z8A] at qRc kRc
    have tkRc:List.take 8 cc'=cc':=tkL (by have:=Rc.l';omega)
    have cC:clrL p S2 [(n2,2,w2)]=(setN S2 n2 (dgt p 2) 0,[]):=rfl
    obtain ⟨S3,hS3⟩:∃ S,S=setN S2 n2 (dgt p 2) 0:=⟨_,rfl⟩
    have hS3o:∀ x∈S3,ndOK x:=by rw [hS3];exact setN_ndok hS2o hn2S
    have hS3l:S3.length=ns.length:=by rw [hS3,sNl];exact hS2l
    have Rc1:=Rc.st
    have Rc2:=Rc.g'
    have Rc3:=Rc.gE'
    rw [← hS3] at cC qRc Rc1 Rc2 Rc3
    clear hS1 hS2 hS3
    obtain ⟨f0,hf0⟩:∃ f,f=(gn ns n0).1:=⟨_,rfl⟩
    obtain ⟨f1,hf1⟩:∃ f,f=(gn S1 n1).1:=⟨_,rfl⟩
    rw [← hf0] at cA Ra
    rw [← hf1] at cB Rb
    rw [← hf0] at Ra2 Ra3 Ra1
    rw [← hf1] at Rb2 Rb3 Rb1
    rcases dE ((gn S1 n0).2=zs8) with hza|hza
    ·rw [decide_eq_true hza] at qRa
     rw [if_pos hza] at cA
     rcases dE ((gn S2 n1).2=zs8) with hzb|hzb
     ·rw [decide_eq_true hzb] at qRb
      rw [if_pos hzb,cC] at cB
      rw [cB] at cA
      rw [cA]
      have hdf':=fun M n=>@callDf 432 480 1200 (by decide) (by decide) (by decide) S3 [f0,f1] ⟨hS3o,by show S3.length≤_;omega,by simp⟩ ns.length hS3l.symm 0 1 M n
      rw [← hdf] at hdf'
      simp only [Nat.zero_add,irw,List.map_cons,List.map_nil,List.length_cons,List.length_nil,Nat.reduceAdd] at hdf'
      have zS:=jj hck'<|jj hpa'<|jj hcl'<|jj hw0<|jj hw0I<|jj hdg2<|jj hdg1<|jj hdg0<|jj hd2<|jj hd1<|jj hd0<|jj hd2I<|jj hd1I<|jj hd0I<|jj he<|jj eqLs<|sameKs
      repeat' (first|(refine aSk fun K hK=>?_)|(refine eF64 ?_)|(refine eC (fun h=>?_) (fun h=>?_)<;>(try simp at h))|(refine hK _ ?_;clear hK)|(clear hK;refine hK _ ?_;clear hK))
      all_goals clear zS
      refine aRs_ 3 (aRd ?_)
      have zS:=jj hck'<|jj hpa'<|jj hcl'<|jj hw0<|jj hw0I<|jj hdg2<|jj hdg1<|jj hdg0<|jj hd2<|jj hd1<|jj hd0<|jj hd2I<|jj hd1I<|jj hd0I<|jj he<|jj eqLs<|jj sameKs<|jj hn0<|jj hn1<|jj hn2<|jj hn0I<|jj hn1I<|jj hn2I<|jj hn1S<|jj hn2S<|jj Ra.g<|jj Ra.gE<|jj Ra.l<|jj Ra1<|jj Ra2<|jj Ra3<|jj Ra.l'<|jj Ra.s1<|jj qRa<|jj kRa<|jj tkRa<|jj Rb.g<|jj Rb.gE<|jj Rb.l<|jj Rb1<|jj Rb2<|jj Rb3<|jj Rb.l'<|jj Rb.s1<|jj qRb<|jj kRb<|jj tkRb<|jj Rc.g<|jj Rc.gE<|jj Rc.l<|jj Rc1<|jj Rc2<|jj Rc3<|jj Rc.l'<|jj Rc.s1<|jj tkRc<|hdf'
      repeat' (first|(refine aSk fun K hK=>?_)|(refine eF64 ?_)|(refine eC (fun h=>?_) (fun h=>?_)<;>(try simp at h))|(refine hK _ ?_;clear hK)|clear hK)
      all_goals clear zS
      have hkl:=@kpF_len [f0,f1] S3
      have tkR:List.take (kpF [f0,f1] S3).length (nrw (dfR [f0,f1] S3))=nrw (kpF [f0,f1] S3):=by
       rw [nrows_take];unfold dfR;rw [List.take_left]
      have hkd:(kpF [f0,f1] S3).length≤(dfR [f0,f1] S3).length:=by rw [dfR_len];exact hkl
      have tkD:List.take ds.length (prw ds)=prw ds:=tkL (by simp)
      refine ⟨by simp,?_⟩
      simp [lvI,f55,tkR,hkd,tkD,irw]
      try exact dt
     ·rw [decide_eq_false hzb] at qRb
      rw [if_neg hzb] at cB
      rw [cB] at cA
      rw [cA]
      have hdf':=fun M n=>@callDf 432 480 1200 (by decide) (by decide) (by decide) S2 [f0] ⟨hS2o,by show S2.length≤_;omega,by simp⟩ ns.length hS2l.symm 0 0 M n
      rw [← hdf] at hdf'
      simp only [Nat.zero_add,irw,List.map_cons,List.map_nil,List.length_cons,List.length_nil,Nat.reduceAdd] at hdf'
      have zS:=jj hck'<|jj hpa'<|jj hcl'<|jj hw0<|jj hw0I<|jj hdg2<|jj hdg1<|jj hdg0<|jj hd2<|jj hd1<|jj hd0<|jj hd2I<|jj hd1I<|jj hd0I<|jj he<|jj eqLs<|sameKs
      repeat' (first|(refine aSk fun K hK=>?_)|(refine eF64 ?_)|(refine eC (fun h=>?_) (fun h=>?_)<;>(try simp at h))|(refine hK _ ?_;clear hK)|(clear hK;refine hK _ ?_;clear hK))
      all_goals clear zS
      refine aRs_ 2 (aRd ?_)
      have zS:=jj hck'<|jj hpa'<|jj hcl'<|jj hw0<|jj hw0I<|jj hdg2<|jj hdg1<|jj hdg0<|jj hd2<|jj hd1<|jj hd0<|jj hd2I<|jj hd1I<|jj hd0I<|jj he<|jj eqLs<|jj sameKs<|jj hn0<|jj hn1<|jj hn2<|jj hn0I<|jj hn1I<|jj hn2I<|jj hn1S<|jj hn2S<|jj Ra.g<|jj Ra.gE<|jj Ra.l<|jj Ra1<|jj Ra2<|jj Ra3<|jj Ra.l'<|jj Ra.s1<|jj qRa<|jj kRa<|jj tkRa<|jj Rb.g<|jj Rb.gE<|jj Rb.l<|jj Rb1<|jj Rb2<|jj Rb3<|jj Rb.l'<|jj Rb.s1<|jj qRb<|jj kRb<|jj tkRb<|hdf'
      repeat' (first|(refine aSk fun K hK=>?_)|(refine eF64 ?_)|(refine eC (fun h=>?_) (fun h=>?_)<;>(try simp at h))|(refine hK _ ?_;clear hK)|clear hK)
      all_goals clear zS
      have hkl:=@kpF_len [f0] S2
      have tkR:List.take (kpF [f0] S2).length (nrw (dfR [f0] S2))=nrw (kpF [f0] S2):=by
       rw [nrows_take];unfold dfR;rw [List.take_left]
      have hkd:(kpF [f0] S2).length≤(dfR [f0] S2).length:=by rw [dfR_len];exact hkl
      have tkD:List.take ds.length (prw ds)=prw ds:=tkL (by simp)
      refine ⟨by simp,?_⟩
      simp [lvI,f55,tkR,hkd,tkD,irw]
      try exact dt
    ·rw [decide_eq_false hza] at qRa
     rw [if_neg hza] at cA
     rw [cA]
     have hdf':=fun M n=>@callDf0 432 480 (by decide) S1 ⟨hS1o,by show S1.length≤_;omega,by simp⟩ ns.length hS1l.symm 0 M n
     rw [← hdf] at hdf'
     simp only [Nat.zero_add,irw,List.map_cons,List.map_nil,List.length_cons,List.length_nil,Nat.reduceAdd] at hdf'
     have zS:=jj hck'<|jj hpa'<|jj hcl'<|jj hw0<|jj hw0I<|jj hdg2<|jj hdg1<|jj hdg0<|jj hd2<|jj hd1<|jj hd0<|jj hd2I<|jj hd1I<|jj hd0I<|jj he<|jj eqLs<|sameKs
     repeat' (first|(refine aSk fun K hK=>?_)|(refine eF64 ?_)|(refine eC (fun h=>?_) (fun h=>?_)<;>(try simp at h))|(refine hK _ ?_;clear hK)|(clear hK;refine hK _ ?_;clear hK))
     all_goals clear zS
     refine aRs_ 1 (aRd ?_)
     have zS:=jj hck'<|jj hpa'<|jj hcl'<|jj hw0<|jj hw0I<|jj hdg2<|jj hdg1<|jj hdg0<|jj hd2<|jj hd1<|jj hd0<|jj hd2I<|jj hd1I<|jj hd0I<|jj he<|jj eqLs<|jj sameKs<|jj hn0<|jj hn1<|jj hn2<|jj hn0I<|jj hn1I<|jj hn2I<|jj hn1S<|jj hn2S<|jj Ra.g<|jj Ra.gE<|jj Ra.l<|jj Ra1<|jj Ra2<|jj Ra3<|jj Ra.l'<|jj Ra.s1<|jj qRa<|jj kRa<|jj tkRa<|hdf'
     repeat' (first|(refine aSk fun K hK=>?_)|(refine eF64 ?_)|(refine eC (fun h=>?_) (fun h=>?_)<;>(try simp at h))|(refine hK _ ?_;clear hK)|clear hK)
     all_goals clear zS
     have tkR:List.take ns.length (nrw S1)=nrw S1:=tkL (by simp;omega)
     have tkD:List.take ds.length (prw ds)=prw ds:=tkL (by simp)
     refine ⟨by simp,?_⟩
     simp [lvI,f55,tkR,kpF_nil,hS1l,tkD,irw]
     try exact dt
  ·have hent:=ent_level hvt hp
   obtain ⟨n2,w2,hn2,hpl⟩:=path_1 hpv hp hlev
   have hA:clrA (r,ns,ds) p=(gp ds (lowD ds ((p/8:Nat):Int))).2::(clrL p ns (ptL (r,ns,ds) p).reverse).2:=by unfold clrA clrF;rw [if_pos hlev];rfl
   have hD:clrD (r,ns,ds) p=delL ds ((p/8:Nat):Int):=by unfold clrD;rw [if_pos hlev]
   rw [hA,hD]
   rw [hpl] at hpa' ⊢
   obtain ⟨⟨n1,l0,w⟩,hS⟩:∃ S,S=lsT (r,ns,ds) p:=⟨_,rfl⟩
   rw [← hS] at hlev hlw hpa' hent ⊢
   simp only at hlev hlw hent
   subst hlev
   clear hS hA hD eS hpl
   simp only [TbV,TbO,TbC,srows,srow,List.map_cons,List.map_nil,U,List.reverse_cons,List.reverse_nil,List.nil_append,List.cons_append,List.length_cons,List.length_nil,Nat.zero_add] at hck' hpa' hcl' ⊢
   rcases dE (w=0) with hw0|hw0
   ·rw [if_pos hw0]
    subst hw0
    simp only [zT]
    have zS:=jj hck'<|hpa'
    refine dM64 ?_
    repeat (intro K hK)
    clear zS
    all_goals refine ⟨by simp,?_⟩
    all_goals simp [lvI,f55,nrw,prw,irw]
    all_goals try exact dt
   ·rw [if_neg hw0]
    have hw0I:¬ (w:Int)=0:=by omega
    have hlo:=(hent hw0).2 rfl
    have hwd':=fun M n=>@callWd 448 432 433 (by decide) (by decide) (by decide) r ns ds ((p/8:Nat):Int) ht hvt.num.dasc hlo 0 0 M n
    rw [← hwd] at hwd'
    simp only [Nat.zero_add] at hwd'
    have hdlen:=delL_len hlo
    have hdle:ds.length - 1≤1000000:=by omega
    obtain ⟨fd,hfd⟩:∃ f,f=(gp ds (lowD ds ((p/8:Nat):Int))).2:=⟨_,rfl⟩
    obtain ⟨DL,hDL⟩:∃ D,D=delL ds ((p/8:Nat):Int):=⟨_,rfl⟩
    rw [← hfd,← hDL] at hwd' ⊢
    rw [← hDL] at hdlen
    obtain ⟨g8,hg8⟩:∃ g:Int,g=((p/8:Nat):Int):=⟨_,rfl⟩
    rw [← hg8] at hdv hwd'
    have hn1:n1<ns.length:=hlw.1
    have hn1I:(n1:Int)<(ns.length:Int):=by omega
    have hn2I:(n2:Int)<(ns.length:Int):=by omega
    obtain ⟨cb,cb',Rb⟩:=rnd (S:=ns) ht.1 (a:=n1) hn1 hd1
    have qRb:=Rb.eq
    have kRb:=Rb.sk
    simp only [z8,z8A] at qRb kRb
    have tkRb:List.take 8 cb'=cb':=tkL (by have:=Rb.l';omega)
    have cB:clrL p ns [(n1,1,w),(n2,2,w2)]=if (gn (setN ns n1 (dgt p 1) 0) n1).2=zs8 then ((clrL p (setN ns n1 (dgt p 1) 0) [(n2,2,w2)]).1,(gn ns n1).1::(clrL p (setN ns n1 (dgt p 1) 0) [(n2,2,w2)]).2) else (setN ns n1 (dgt p 1) 0,[]):=rfl
    obtain ⟨S2,hS2⟩:∃ S,S=setN ns n1 (dgt p 1) 0:=⟨_,rfl⟩
    have hS2o:∀ x∈S2,ndOK x:=by rw [hS2];exact setN_ndok ht.1 hn1
    have hS2l:S2.length=ns.length:=by rw [hS2,sNl]
    have Rb1:=Rb.st
    have Rb2:=Rb.g'
    have Rb3:=Rb.gE'
    rw [← hS2] at cB qRb Rb1 Rb2 Rb3
    have hn2S:n2<S2.length:=by omega
    obtain ⟨cc,cc',Rc⟩:=rnd (S:=S2) hS2o (a:=n2) hn2S hd2
    have qRc:=Rc.eq
    have kRc:=Rc.sk
    simp only [z8,z8A] at qRc kRc
    have tkRc:List.take 8 cc'=cc':=tkL (by have:=Rc.l';omega)
    have cC:clrL p S2 [(n2,2,w2)]=(setN S2 n2 (dgt p 2) 0,[]):=rfl
    obtain ⟨S3,hS3⟩:∃ S,S=setN S2 n2 (dgt p 2) 0:=⟨_,rfl⟩
    have hS3o:∀ x∈S3,ndOK x:=by rw [hS3];exact setN_ndok hS2o hn2S
    have hS3l:S3.length=ns.length:=by rw [hS3,sNl];exact hS2l
    have Rc1:=Rc.st
    have Rc2:=Rc.g'
    have Rc3:=Rc.gE'
    rw [← hS3] at cC qRc Rc1 Rc2 Rc3
    clear hS2 hS3
    obtain ⟨f1,hf1⟩:∃ f,f=(gn ns n1).1:=⟨_,rfl⟩
    rw [← hf1] at cB Rb Rb2 Rb3 Rb1
    rcases dE ((gn S2 n1).2=zs8) with hzb|hzb
    ·rw [decide_eq_true hzb] at qRb
     rw [if_pos hzb,cC] at cB
     rw [cB]
     have hdf':=fun M n=>@callDf 432 480 624 (by decide) (by decide) (by decide) S3 [fd,f1] ⟨hS3o,by show S3.length≤_;omega,by simp⟩ ns.length hS3l.symm 0 1 M n
     rw [← hdf] at hdf'
     simp only [Nat.zero_add,irw,List.map_cons,List.map_nil,List.length_cons,List.length_nil,Nat.reduceAdd] at hdf'
     have zS:=jj hck'<|jj hpa'<|jj hcl'<|jj hw0<|jj hw0I<|jj hdg2<|jj hdg1<|jj hdg0<|jj hd2<|jj hd1<|jj hd0<|jj hd2I<|jj hd1I<|jj hd0I<|jj he<|jj eqLs<|jj sameKs<|jj hwd'<|hdv
     repeat' (first|(refine aSk fun K hK=>?_)|(refine eF64 ?_)|(refine eC (fun h=>?_) (fun h=>?_)<;>(try simp at h))|(refine hK _ ?_;clear hK)|(clear hK;refine hK _ ?_;clear hK))
     all_goals clear zS
     refine aRs_ 2 (aRd ?_)
     have zS:=jj hck'<|jj hpa'<|jj hcl'<|jj hw0<|jj hw0I<|jj hdg2<|jj hdg1<|jj hdg0<|jj hd2<|jj hd1<|jj hd0<|jj hd2I<|jj hd1I<|jj hd0I<|jj he<|jj eqLs<|jj sameKs<|jj hwd'<|jj hdv<|jj hn1<|jj hn2<|jj hn1I<|jj hn2I<|jj hn2S<|jj Rb.g<|jj Rb.gE<|jj Rb.l<|jj Rb1<|jj Rb2<|jj Rb3<|jj Rb.l'<|jj Rb.s1<|jj qRb<|jj kRb<|jj tkRb<|jj Rc.g<|jj Rc.gE<|jj Rc.l<|jj Rc1<|jj Rc2<|jj Rc3<|jj Rc.l'<|jj Rc.s1<|jj tkRc<|hdf'
     repeat' (first|(refine aSk fun K hK=>?_)|(refine eF64 ?_)|(refine eC (fun h=>?_) (fun h=>?_)<;>(try simp at h))|(refine hK _ ?_;clear hK)|clear hK)
     all_goals clear zS
     have hkl:=@kpF_len [fd,f1] S3
     have tkR:List.take (kpF [fd,f1] S3).length (nrw (dfR [fd,f1] S3))=nrw (kpF [fd,f1] S3):=by
      rw [nrows_take];unfold dfR;rw [List.take_left]
     have hkd:(kpF [fd,f1] S3).length≤(dfR [fd,f1] S3).length:=by rw [dfR_len];exact hkl
     have tkD:List.take (ds.length - 1) (prw DL)=prw DL:=tkL (by simp;omega)
     refine ⟨by simp,?_⟩
     simp [lvI,f55,tkR,hkd,tkD,hdlen,irw]
     try exact dt
    ·rw [decide_eq_false hzb] at qRb
     rw [if_neg hzb] at cB
     rw [cB]
     have hdf':=fun M n=>@callDf 432 480 624 (by decide) (by decide) (by decide) S2 [fd] ⟨hS2o,by show S2.length≤_;omega,by simp⟩ ns.length hS2l.symm 0 0 M n
     rw [← hdf] at hdf'
     simp only [Nat.zero_add,irw,List.map_cons,List.map_nil,List.length_cons,List.length_nil,Nat.reduceAdd] at hdf'
     have zS:=jj hck'<|jj hpa'<|jj hcl'<|jj hw0<|jj hw0I<|jj hdg2<|jj hdg1<|jj hdg0<|jj hd2<|jj hd1<|jj hd0<|jj hd2I<|jj hd1I<|jj hd0I<|jj he<|jj eqLs<|jj sameKs<|jj hwd'<|hdv
     repeat' (first|(refine aSk fun K hK=>?_)|(refine eF64 ?_)|(refine eC (fun h=>?_) (fun h=>?_)<;>(try simp at h))|(refine hK _ ?_;clear hK)|(clear hK;refine hK _ ?_;clear hK))
     all_goals clear zS
     refine aRs_ 1 (aRd ?_)
     have zS:=jj hck'<|jj hpa'<|jj hcl'<|jj hw0<|jj hw0I<|jj hdg2<|jj hdg1<|jj hdg0<|jj hd2<|jj hd1<|jj hd0<|jj hd2I<|jj hd1I<|jj hd0I<|jj he<|jj eqLs<|jj sameKs<|jj hwd'<|jj hdv<|jj hn1<|jj hn2<|jj hn1I<|jj hn2I<|jj hn2S<|jj Rb.g<|jj Rb.gE<|jj Rb.l<|jj Rb1<|jj Rb2<|jj Rb3<|jj Rb.l'<|jj Rb.s1<|jj qRb<|jj kRb<|jj tkRb<|hdf'
     repeat' (first|(refine aSk fun K hK=>?_)|(refine eF64 ?_)|(refine eC (fun h=>?_) (fun h=>?_)<;>(try simp at h))|(refine hK _ ?_;clear hK)|clear hK)
     all_goals clear zS
     have hkl:=@kpF_len [fd] S2
     have tkR:List.take (kpF [fd] S2).length (nrw (dfR [fd] S2))=nrw (kpF [fd] S2):=by
      rw [nrows_take];unfold dfR;rw [List.take_left]
     have hkd:(kpF [fd] S2).length≤(dfR [fd] S2).length:=by rw [dfR_len];exact hkl
     have tkD:List.take (ds.length - 1) (prw DL)=prw DL:=tkL (by simp;omega)
     refine ⟨by simp,?_⟩
     simp [lvI,f55,tkR,hkd,tkD,hdlen,irw]
     try exact dt
  ·have hent:=ent_level hvt hp
   have hpl:=path_2 hpv hp hlev
   rw [hpl] at hpa' ⊢
   obtain ⟨⟨n2,l0,w⟩,hS⟩:∃ S,S=lsT (r,ns,ds) p:=⟨_,rfl⟩
   rw [← hS] at hlev hpa' hent ⊢
   simp only at hlev hent
   subst hlev
   have hw0:w=0:=Decidable.byContradiction fun h=>(hent h).1 rfl
   subst hw0
   rw [if_pos rfl]
   clear hS eS hpl
   simp only [TbV,TbO,zT,srows,srow,List.map_cons,List.map_nil,U,List.length_cons,List.length_nil,Nat.zero_add] at hck' hpa' ⊢
   have zS:=jj hck'<|hpa'
   refine dM64 ?_
   repeat (intro K hK)
   clear zS
   all_goals refine ⟨by simp,?_⟩
   all_goals simp [lvI,f55,nrw,prw,irw]
   all_goals try exact dt
set_option maxHeartbeats 2000000
noncomputable section
@[simp] theorem tyTe:Types prog 153=some ⟨.struct [(0,3,1),(1,3,1),(2,76,1)],3,24,[.int .i64 0,.int .i64 0,.int .u64 0]⟩:=by kernel_rfl
@[simp] theorem tyTl:Types prog 66=some ⟨.struct [(0,3,1),(1,64,1)],2,32,[.int .i64 0,.slice none 0 0]⟩:=by kernel_rfl
@[simp] theorem tyTes:Types prog 64=some ⟨.slice 153,1,24,[.slice none 0 0]⟩:=by kernel_rfl
def trow (x:Te):List AV:=[I x.1,I x.2.1,U x.2.2]
def trw (l:List Te):List (List AV):=l.map trow
def TeV (x:Te):AV:=.agg [I x.1,I x.2.1,U x.2.2]
def TlV (b:Tl):AV:=.agg [I b.1,.rd 3 (trw b.2)]
@[simp] theorem trows_length (l:List Te):(trw l).length=l.length:=by simp [trw]
theorem trow_inj {a b:Te}:trow a=trow b↔a=b:=by
 obtain ⟨a1,a2,a3⟩:=a
 obtain ⟨b1,b2,b3⟩:=b
 simp only [trow,I,U,cJ,AV.v.injEq,Value.int.injEq,true_and,and_true,Int.ofNat_inj,pJ]
theorem trI:∀ {a b:List Te},trw a=trw b↔a=b
 | [],[]=>by simp [trw]
 | [],_::_=>by simp [trw]
 | _::_,[]=>by simp [trw]
 | a::l,b::m=>by
  have ih:=trI (a:=l) (b:=m)
  simp only [trw,List.map_cons,cJ,trow_inj] at ih ⊢
  rw [ih]
theorem TeV_inj {a b:Te}:TeV a=TeV b↔a=b:=by
 have:=@trow_inj a b
 simp only [trow] at this
 simp only [TeV,AV.agg.injEq]
 exact this
theorem TlJ {a b:Tl}:TlV a=TlV b↔a=b:=by
 obtain ⟨a1,a2⟩:=a
 obtain ⟨b1,b2⟩:=b
 simp only [TlV,I,AV.agg.injEq,cJ,AV.v.injEq,Value.int.injEq,true_and,and_true,AV.rd.injEq,trI,pJ]
theorem trows_gi {l:List Te} {i:Nat} (h:i<l.length):(trw l)[i]?=some (trow (gt l i)):=by
 rw [gt_eq h]
 simp [trw,List.getElem?_eq_getElem h]
theorem trows_gE {l:List Te} {i:Nat} (h:i<l.length):∀ h',(trw l)[i]'(h')=trow (gt l i):=fun h'=>by
 have:=trows_gi h
 rw [List.getElem?_eq_getElem h'] at this
 exact Option.some.inj this
def TrF:List AV→Option AV:=spF (ι:={w:Nat // w<2^64}) (fun x=>[U x.1]) fun x=>rtO [B (trB x.1),B (hgB x.1)]
theorem s165 (X:AX) (hX:XOK prog X) (hw:X.W wT) (hde:∀ n:Nat,n<2^64→∀ M k,X.call 56 [U n] M k=some (.tup [EnV (decR n).1,I (decR n).2],[])):PSd prog 165 TrF:=by
 unfold TrF
 refine psS hX mixed func165 rfl fun ⟨w,hw64⟩ w0 G=>⟨by show 1≤24;decide,rfl,?_⟩
 show AW ⟨prog,X,24,w0,.pure G⟩ _ _ _
 have hc:=okc hX 24 w0 G
 simp only at hw64 ⊢
 have hd:=hde w hw64
 unfold trB hgB
 obtain ⟨⟨⟨k,num,b1,b2,b3,hg⟩,er⟩,hx⟩:∃ x,x=decR w:=⟨_,rfl⟩
 rw [← hx] at hd ⊢
 simp only [EnV,U] at hd ⊢
 rcases dE (er=0) with h1|h1
 ·rcases dE (k=1) with h2|h2
  ·cases hg
   ·have zS:=jj hd<|jj h1<|h2
    refine dF64 ?_
    repeat (intro K hK)
    clear zS
    refine ⟨by simp,?_⟩
    simp [lvI,f165,h1,h2]
    try exact dt
   ·have zS:=jj hd<|jj h1<|h2
    refine dF64 ?_
    repeat (intro K hK)
    clear zS
    refine ⟨by simp,?_⟩
    simp [lvI,f165,h1,h2]
    try exact dt
  ·cases hg
   ·have zS:=jj hd<|jj h1<|h2
    refine dF64 ?_
    repeat (intro K hK)
    clear zS
    refine ⟨by simp,?_⟩
    simp [lvI,f165,h1,h2]
    try exact dt
   ·have zS:=jj hd<|jj h1<|h2
    refine dF64 ?_
    repeat (intro K hK)
    clear zS
    refine ⟨by simp,?_⟩
    simp [lvI,f165,h1,h2]
    try exact dt
 ·have zS:=jj hd<|h1
  refine dF64 ?_
  repeat (intro K hK)
  clear zS
  refine ⟨by simp,?_⟩
  simp [lvI,f165,h1]
  try exact dt
def SpnF:List AV→Option AV:=spF (ι:={w:Nat // w<2^64}) (fun x=>[U x.1]) fun x=>rtO [I (spn x.1)]
theorem s209 (X:AX) (hX:XOK prog X) (hw:X.W wT) (htr:∀ w:Nat,w<2^64→∀ M k,X.call 165 [U w] M k=some (.tup [B (trB w),B (hgB w)],[])):PSd prog 209 SpnF:=by
 unfold SpnF
 refine psS hX mixed func209 rfl fun ⟨w,hw64⟩ w0 G=>⟨by show 1≤11;decide,rfl,?_⟩
 show AW ⟨prog,X,11,w0,.pure G⟩ _ _ _
 have hc:=okc hX 11 w0 G
 simp only at hw64 ⊢
 have ht:=htr w hw64
 unfold spn
 obtain ⟨a,ha⟩:∃ x,x=trB w:=⟨_,rfl⟩
 obtain ⟨b,hb⟩:∃ x,x=hgB w:=⟨_,rfl⟩
 rw [← ha,← hb] at ht
 rw [← hb]
 simp only [U] at ht ⊢
 cases b
 ·have zS:=ht
  refine dM64 ?_
  repeat (intro K hK)
  clear zS
  refine ⟨by simp,?_⟩
  simp [lvI,f209]
  try exact dt
 ·have zS:=ht
  refine dM64 ?_
  repeat (intro K hK)
  clear zS
  refine ⟨by simp,?_⟩
  simp [lvI,f209]
  try exact dt
def PlcF:List AV→Option AV:=spF (ι:=Int×Int) (fun x=>[I x.1,I x.2]) fun x=>rtO [I (if plcB x.1 x.2=true then 0 else 2)]
theorem s164 (X:AX) (hX:XOK prog X) (hw:X.W wT):PSd prog 164 PlcF:=by
 unfold PlcF
 refine psS hX mixed func164 rfl fun ⟨s,p⟩ w0 G=>⟨by show 2≤19;decide,rfl,?_⟩
 show AW ⟨prog,X,19,w0,.pure G⟩ _ _ _
 have hc:=okc hX 19 w0 G
 simp only
 rcases dE (s<0) with h1|h1
 ·rw [show plcB s p=false by unfold plcB;exact decide_eq_false (by omega),if_neg (by decide)]
  have zS:=h1
  refine dM64 ?_
  repeat (intro K hK)
  clear zS
  refine ⟨by simp,?_⟩
  simp [lvI,f164]
  try exact dt
 ·rcases dE (8≤s) with h2|h2
  ·rw [show plcB s p=false by unfold plcB;exact decide_eq_false (by omega),if_neg (by decide)]
   have zS:=jj h1<|h2
   refine dM64 ?_
   repeat (intro K hK)
   clear zS
   refine ⟨by simp,?_⟩
   simp [lvI,f164]
   try exact dt
  ·rcases dE (p<0) with h3|h3
   ·rw [show plcB s p=false by unfold plcB;exact decide_eq_false (by omega),if_neg (by decide)]
    have zS:=jj h1<|jj h2<|h3
    refine dM64 ?_
    repeat (intro K hK)
    clear zS
    refine ⟨by simp,?_⟩
    simp [lvI,f164]
    try exact dt
   ·rcases dE (512≤p) with h4|h4
    ·rw [show plcB s p=false by unfold plcB;exact decide_eq_false (by omega),if_neg (by decide)]
     have zS:=jj h1<|jj h2<|jj h3<|h4
     refine dM64 ?_
     repeat (intro K hK)
     clear zS
     refine ⟨by simp,?_⟩
     simp [lvI,f164]
     try exact dt
    ·rw [show plcB s p=true by unfold plcB;exact decide_eq_true (by omega),if_pos rfl]
     have zS:=jj h1<|jj h2<|jj h3<|h4
     refine dM64 ?_
     repeat (intro K hK)
     clear zS
     refine ⟨by simp,?_⟩
     simp [lvI,f164]
     try exact dt
theorem spn_le {w:Nat}:1≤spn w∧spn w≤8:=by unfold spn;split<;>omega
def teOK (x:Te):Prop:=0≤x.2.1∧x.2.1<512∧x.2.2<2^64
def CvF:List AV→Option AV:=spF (ι:={x:Te×Int×Int // teOK x.1}) (fun x=>[TeV x.1.1,I x.1.2.1,I x.1.2.2]) fun x=>rtO [B (cvB x.1.1 x.1.2.1 x.1.2.2)]
theorem s169 (X:AX) (hX:XOK prog X) (hw:X.W wT) (hsp:∀ w:Nat,w<2^64→∀ M k,X.call 209 [U w] M k=some (I (spn w),[])):PSd prog 169 CvF:=by
 unfold CvF
 refine psS hX mixed func169 rfl fun ⟨⟨⟨xs,xp,xw⟩,s,p⟩,hok⟩ w0 G=>⟨by show 3≤27;decide,rfl,?_⟩
 show AW ⟨prog,X,27,w0,.pure G⟩ _ _ _
 have hc:=okc hX 27 w0 G
 obtain ⟨h1,h2,h3⟩:=hok
 simp only at h1 h2 h3 ⊢
 have hs:=hsp xw h3
 have hle:=@spn_le xw
 unfold cvB
 simp only [TeV]
 obtain ⟨v,hv⟩:∃ x,x=spn xw:=⟨_,rfl⟩
 rw [← hv] at hs hle ⊢
 simp only [U] at hs ⊢
 rcases dE (xs=s) with k1|k1
 ·rcases dE (xp≤p) with k2|k2
  ·rcases dE (p<xp+v) with k3|k3
   ·rw [decide_eq_true ⟨k1,k2,k3⟩]
    have zS:=jj hs<|jj k1<|jj k2<|k3
    refine dF64 ?_
    repeat (intro K hK)
    clear zS
    refine ⟨by simp,?_⟩
    simp [lvI,f169]
    try exact dt
   ·rw [decide_eq_false (fun k=>k3 k.2.2)]
    have zS:=jj hs<|jj k1<|jj k2<|k3
    refine dF64 ?_
    repeat (intro K hK)
    clear zS
    refine ⟨by simp,?_⟩
    simp [lvI,f169]
    try exact dt
  ·rw [decide_eq_false (fun k=>k2 k.2.1)]
   have zS:=jj hs<|jj k1<|k2
   refine dF64 ?_
   repeat (intro K hK)
   clear zS
   refine ⟨by simp,?_⟩
   simp [lvI,f169]
   try exact dt
 ·rw [decide_eq_false (fun k=>k1 k.1)]
  have zS:=jj hs<|k1
  refine dF64 ?_
  repeat (intro K hK)
  clear zS
  refine ⟨by simp,?_⟩
  simp [lvI,f169]
  try exact dt
def OvF:List AV→Option AV:=spF (ι:={x:Te×Te // teOK x.1∧teOK x.2}) (fun x=>[TeV x.1.1,TeV x.1.2]) fun x=>rtO [B (ovB x.1.1 x.1.2)]
theorem s168 (X:AX) (hX:XOK prog X) (hw:X.W wT) (hsp:∀ w:Nat,w<2^64→∀ M k,X.call 209 [U w] M k=some (I (spn w),[])):PSd prog 168 OvF:=by
 unfold OvF
 refine psS hX mixed func168 rfl fun ⟨⟨⟨xs,xp,xw⟩,ys,yp,yw⟩,hok,hok2⟩ w0 G=>⟨by show 2≤32;decide,rfl,?_⟩
 show AW ⟨prog,X,32,w0,.pure G⟩ _ _ _
 have hc:=okc hX 32 w0 G
 obtain ⟨h1,h2,h3⟩:=hok
 obtain ⟨g1,g2,g3⟩:=hok2
 simp only at h1 h2 h3 g1 g2 g3 ⊢
 have hs:=hsp xw h3
 have hle:=@spn_le xw
 have gs:=hsp yw g3
 have gle:=@spn_le yw
 unfold ovB
 simp only [TeV]
 obtain ⟨v,hv⟩:∃ x,x=spn xw:=⟨_,rfl⟩
 rw [← hv] at hs hle ⊢
 obtain ⟨u,hu⟩:∃ x,x=spn yw:=⟨_,rfl⟩
 rw [← hu] at gs gle ⊢
 simp only [U] at hs gs ⊢
 rcases dE (xs=ys) with k1|k1
 ·rcases dE (xp<yp+u) with k2|k2
  ·rcases dE (yp<xp+v) with k3|k3
   ·rw [decide_eq_true ⟨k1,k2,k3⟩]
    have zS:=jj hs<|jj gs<|jj k1<|jj k2<|k3
    refine dF64 ?_
    repeat (intro K hK)
    clear zS
    refine ⟨by simp,?_⟩
    simp [lvI,f168]
    try exact dt
   ·rw [decide_eq_false (fun k=>k3 k.2.2)]
    have zS:=jj hs<|jj gs<|jj k1<|jj k2<|k3
    refine dF64 ?_
    repeat (intro K hK)
    clear zS
    refine ⟨by simp,?_⟩
    simp [lvI,f168]
    try exact dt
  ·rw [decide_eq_false (fun k=>k2 k.2.1)]
   have zS:=jj hs<|jj gs<|jj k1<|k2
   refine dF64 ?_
   repeat (intro K hK)
   clear zS
   refine ⟨by simp,?_⟩
   simp [lvI,f168]
   try exact dt
 ·rw [decide_eq_false (fun k=>k1 k.1)]
  have zS:=jj hs<|jj gs<|k1
  refine dF64 ?_
  repeat (intro K hK)
  clear zS
  refine ⟨by simp,?_⟩
  simp [lvI,f168]
  try exact dt
def pgW (w:Nat):En×Int:=if (decR w).2≠0 then (zE,(decR w).2) else if (decR w).1.1≠1 then (zE,11) else ((decR w).1,0)
def PgF:List AV→Option AV:=spF (ι:={w:Nat // w<2^64}) (fun x=>[U x.1]) fun x=>rtO [EnV (pgW x.1).1,I (pgW x.1).2]
theorem s172 (X:AX) (hX:XOK prog X) (hw:X.W wT) (hde:∀ n:Nat,n<2^64→∀ M k,X.call 56 [U n] M k=some (.tup [EnV (decR n).1,I (decR n).2],[])):PSd prog 172 PgF:=by
 unfold PgF
 refine psS hX mixed func172 rfl fun ⟨w,hw64⟩ w0 G=>⟨by show 1≤20;decide,rfl,?_⟩
 show AW ⟨prog,X,20,w0,.pure G⟩ _ _ _
 have hc:=okc hX 20 w0 G
 simp only at hw64 ⊢
 have hd:=hde w hw64
 unfold pgW
 obtain ⟨⟨⟨k,num,b1,b2,b3,hg⟩,er⟩,hx⟩:∃ x,x=decR w:=⟨_,rfl⟩
 rw [← hx] at hd ⊢
 simp only [EnV,U] at hd ⊢
 rcases dE (er=0) with h1|h1
 ·rcases dE (k=1) with h2|h2
  ·rw [if_neg (by simp [h1]),if_neg (by simp [h2])]
   have zS:=jj hd<|jj h1<|h2
   refine dM64 ?_
   repeat (intro K hK)
   clear zS
   refine ⟨by simp,?_⟩
   simp [lvI,f172,h1,h2]
   try exact dt
  ·rw [if_neg (by simp [h1]),if_pos h2]
   simp only [zE]
   have zS:=jj hd<|jj h1<|h2
   refine dM64 ?_
   repeat (intro K hK)
   clear zS
   refine ⟨by simp,?_⟩
   simp [lvI,f172,h1,h2]
   try exact dt
 ·rw [if_pos h1]
  simp only [zE]
  have zS:=jj hd<|h1
  refine dM64 ?_
  repeat (intro K hK)
  clear zS
  refine ⟨by simp,?_⟩
  simp [lvI,f172,h1]
  try exact dt
theorem mkW_pg {w:Nat} {wr:Bool}:mkW w wr=if (pgW w).2≠0 then (0,(pgW w).2) else if wr=false then (w ||| 16,0) else if (pgW w).1.2.2.1=false then (0,12) else (w ||| 16 ||| 32,0):=by
 unfold mkW pgW
 by_cases h1:(decR w).2≠0
 ·simp [h1]
 ·rw [if_neg h1,if_neg h1]
  by_cases h2:(decR w).1.1≠1
  ·simp [h2]
  ·simp [h2]
end
theorem closed_nms:∀ {cs:List AV},cs.all AV.isClosed=true→nmsL cs=[]
 | [],_=>rfl
 | a::r,h=>by
  simp only [List.all_cons,Bool.and_eq_true] at h
  have ih:=closed_nms h.2
  cases a<;>simp_all [AV.isClosed,nmsL,AV.nms]
theorem closed_ren {σ:Nat→Nat} {f:Nat→Nat→Nat}:∀ {cs:List AV},cs.all AV.isClosed=true→renL σ f cs=cs
 | [],_=>rfl
 | a::r,h=>by
  simp only [List.all_cons,Bool.and_eq_true] at h
  have ih:=closed_ren (σ:=σ) (f:=f) h.2
  cases a<;>simp_all [AV.isClosed,renL,AV.ren]
theorem closed_curB {M:Nat→AO}:∀ {cs:List AV},cs.all AV.isClosed=true→curBL M cs=true
 | [],_=>rfl
 | a::r,h=>by
  simp only [List.all_cons,Bool.and_eq_true] at h
  have ih:=closed_curB (M:=M) h.2
  cases a<;>simp_all [AV.isClosed,curBL,AV.curB]
theorem closed_under {n:Nat}:∀ {cs:List AV},cs.all AV.isClosed=true→AV.underL n cs
 | [],_=>by simp [AV.underL]
 | a::r,h=>by
  simp only [List.all_cons,Bool.and_eq_true] at h
  have ih:=closed_under (n:=n) h.2
  cases a<;>simp_all [AV.isClosed,AV.underL,AV.under]
theorem closed_cur {M:Nat→AO}:∀ {cs:List AV},cs.all AV.isClosed=true→curL M cs
 | [],_=>by simp [curL]
 | a::r,h=>by
  simp only [List.all_cons,Bool.and_eq_true] at h
  have ih:=closed_cur (M:=M) h.2
  cases a<;>simp_all [AV.isClosed,curL,AV.cur]
theorem closed_iso {n:Nat} {σ:Nat→Nat}:∀ {cs:List AV},cs.all AV.isClosed=true→isoL n σ cs=cs
 | [],_=>by simp [isoL]
 | a::r,h=>by
  simp only [List.all_cons,Bool.and_eq_true] at h
  have ih:=closed_iso (n:=n) (σ:=σ) h.2
  cases a<;>simp_all [AV.isClosed,isoL,AV.iso]
def asT (fr:List Int) (wr:List Bool) (nx:Int):List AV:=fr.map I++(wr.map B++[I nx])
def asC (t:Tb) (b0 b1:Tl) (fr:List Int) (wr:List Bool) (nx:Int):List AV:=I t.1::.rd 9 (nrw t.2.1)::.rd 2 (prw t.2.2)::I b0.1::.rd 3 (trw b0.2)::I b1.1::.rd 3 (trw b1.2)::asT fr wr nx
section
variable {t:Tb} {b0 b1:Tl} {fr:List Int} {wr:List Bool} {nx:Int}
theorem asT_cl:(asT fr wr nx).all AV.isClosed=true:=by
 unfold asT
 simp [AV.isClosed]
theorem asC_cl:(asC t b0 b1 fr wr nx).all AV.isClosed=true:=by
 unfold asC
 simp [AV.isClosed,asT_cl]
@[simp] theorem asC_nms:nmsL (asC t b0 b1 fr wr nx)=[]:=closed_nms asC_cl
@[simp] theorem asC_ren {σ:Nat→Nat} {f:Nat→Nat→Nat}:renL σ f (asC t b0 b1 fr wr nx)=asC t b0 b1 fr wr nx:=closed_ren asC_cl
@[simp] theorem asC_curB {M:Nat→AO}:curBL M (asC t b0 b1 fr wr nx)=true:=closed_curB asC_cl
@[simp] theorem asC_under {n:Nat}:AV.underL n (asC t b0 b1 fr wr nx):=closed_under asC_cl
@[simp] theorem asC_cur {M:Nat→AO}:curL M (asC t b0 b1 fr wr nx):=closed_cur asC_cl
@[simp] theorem asC_iso {n:Nat} {σ:Nat→Nat}:isoL n σ (asC t b0 b1 fr wr nx)=asC t b0 b1 fr wr nx:=closed_iso asC_cl
@[simp] theorem asC_t:List.take 3 (asC t b0 b1 fr wr nx)=[I t.1,.rd 9 (nrw t.2.1),.rd 2 (prw t.2.2)]:=rfl
@[simp] theorem asC_b0:List.take 2 (List.drop 3 (asC t b0 b1 fr wr nx))=[I b0.1,.rd 3 (trw b0.2)]:=rfl
@[simp] theorem asC_b1:List.take 2 (List.drop 5 (asC t b0 b1 fr wr nx))=[I b1.1,.rd 3 (trw b1.2)]:=rfl
@[simp] theorem asC_st {a:Int} {ns:NdL} {ds:List Dp}:(((asC t b0 b1 fr wr nx).set 0 (I a)).set 1 (.rd 9 (nrw ns))).set 2 (.rd 2 (prw ds))=asC (a,ns,ds) b0 b1 fr wr nx:=rfl
@[simp] theorem asC_sb0 {a:Int} {l:List Te}:((asC t b0 b1 fr wr nx).set 3 (I a)).set 4 (.rd 3 (trw l))=asC t (a,l) b1 fr wr nx:=rfl
@[simp] theorem asC_sb1 {a:Int} {l:List Te}:((asC t b0 b1 fr wr nx).set 5 (I a)).set 6 (.rd 3 (trw l))=asC t b0 (a,l) fr wr nx:=rfl
theorem asC_len (hf:fr.length=512) (hw:wr.length=512):(asC t b0 b1 fr wr nx).length=1032:=by simp [asC,asT,hf,hw]
theorem asC_f (hf:fr.length=512) {p:Nat} (hp:p<512):(asC t b0 b1 fr wr nx)[7+p]?=some (I (fr.getD p 0)):=by
 have e:7+p=p+1+1+1+1+1+1+1:=by omega
 rw [e]
 simp only [asC,List.getElem?_cons_succ,asT]
 rw [List.getElem?_append_left (by simp;omega),List.getElem?_map,List.getElem?_eq_getElem (by omega),List.getD_eq_getElem?_getD,List.getElem?_eq_getElem (by omega)]
 rfl
theorem asC_w (hf:fr.length=512) (hw:wr.length=512) {p:Nat} (hp:p<512):(asC t b0 b1 fr wr nx)[519+p]?=some (B (wr.getD p false)):=by
 have e:519+p=512+p+1+1+1+1+1+1+1:=by omega
 rw [e]
 simp only [asC,List.getElem?_cons_succ,asT]
 rw [List.getElem?_append_right (by simp;omega),List.getElem?_append_left (by simp;omega),List.getElem?_map]
 simp only [List.length_map,hf,show 512+p - 512=p by omega]
 rw [List.getElem?_eq_getElem (by omega),List.getD_eq_getElem?_getD,List.getElem?_eq_getElem (by omega)]
 rfl
theorem asC_n (hf:fr.length=512) (hw:wr.length=512):(asC t b0 b1 fr wr nx)[1031]?=some (I nx):=by
 simp only [asC,List.getElem?_cons_succ,asT]
 rw [List.getElem?_append_right (by simp [hf]),List.getElem?_append_right (by simp [hf,hw])]
 simp [hf,hw]
theorem getE_of {α:Type} {l:List α} {n:Nat} {a:α} (h:l[n]?=some a):∀ h',l[n]'(h')=a:=fun h'=>by
 rw [List.getElem?_eq_getElem h'] at h
 exact Option.some.inj h
theorem asC_sf (hf:fr.length=512) {p:Nat} (hp:p<512) (v:Int):(asC t b0 b1 fr wr nx).set (7+p) (I v)=asC t b0 b1 (fr.set p v) wr nx:=by
 have e:7+p=p+1+1+1+1+1+1+1:=by omega
 rw [e]
 simp only [asC,List.set_cons_succ,asT]
 rw [List.set_append_left _ _ (by simp;omega),List.map_set]
theorem asC_sw (hf:fr.length=512) (hw:wr.length=512) {p:Nat} (hp:p<512) (v:Bool):(asC t b0 b1 fr wr nx).set (519+p) (B v)=asC t b0 b1 fr (wr.set p v) nx:=by
 have e:519+p=512+p+1+1+1+1+1+1+1:=by omega
 rw [e]
 simp only [asC,List.set_cons_succ,asT]
 rw [List.set_append_right _ _ (by simp;omega),List.set_append_left _ _ (by simp;omega)]
 simp only [List.length_map,hf,show 512+p - 512=p by omega]
 rw [List.map_set]
theorem asC_sn (hf:fr.length=512) (hw:wr.length=512) (v:Int):(asC t b0 b1 fr wr nx).set 1031 (I v)=asC t b0 b1 fr wr v:=by
 simp only [asC,List.set_cons_succ,asT]
 rw [List.set_append_right _ _ (by simp [hf]),List.set_append_right _ _ (by simp [hf,hw])]
 simp [hf,hw]
end
end Go.AM
set_option maxHeartbeats 4000000
namespace Go.AM
open Go Go.Proofs Tryz
noncomputable section
inductive Fk where
 | ck (x:Te)
 | fl (x:Te)
 | iv (s p:Int)
def fkA:Fk→AV
 | .ck x=>.fn 167 [.rp [I x.1,I x.2.1,U x.2.2]]
 | .fl x=>.fn 173 [.rp [I x.1,I x.2.1,U x.2.2]]
 | .iv s p=>.fn 171 [.rp [I s],.rp [I p]]
def fkP:Fk→Te→Bool
 | .ck x,y=>ovB x y
 | .fl x,y=>ovB x y
 | .iv s p,y=>cvB y s p
def fkO:Fk→Prop
 | .ck x=>teOK x
 | .fl x=>teOK x
 | .iv _ _=>True
theorem rp_inj {a b:Te}:([I a.1,I a.2.1,U a.2.2]:List AV)=[I b.1,I b.2.1,U b.2.2]↔a=b:=@trow_inj a b
theorem fkA_inj {a b:Fk}:fkA a=fkA b↔a=b:=by
 cases a<;>cases b<;>simp [fkA,I,U,Prod.ext_iff]
 all_goals omega
def fsI (p:Te→Bool) (l:List Te):Int:=if l.findIdx p<l.length then (l.findIdx p:Int) else -1
theorem fsI_at {p:Te→Bool} {l:List Te} {i:Nat} (hi:i<l.length) (hp:p (gt l i)=true) (hn:∀ j,j<i→p (gt l j)=false):fsI p l=i:=by
 have:l.findIdx p=i:=by
  rw [List.findIdx_eq hi]
  refine ⟨by rw [← gt_eq hi];exact hp,fun j hj=>?_⟩
  have:=hn j hj
  rw [gt_eq (by omega)] at this
  exact this
 unfold fsI
 rw [this,if_pos hi]
theorem fsI_not {p:Te→Bool} {l:List Te} (hn:∀ j,j<l.length→p (gt l j)=false):fsI p l=-1:=by
 have:l.findIdx p=l.length:=by
  rw [List.findIdx_eq_length]
  intro x hx
  obtain ⟨j,hj,rfl⟩:=List.getElem_of_mem hx
  have:=hn j hj
  rw [gt_eq hj] at this
  exact this
 unfold fsI
 rw [this,if_neg (by omega)]
theorem fsI_cases (p:Te→Bool) (l:List Te):(fsI p l=-1∧∀ j,j<l.length→p (gt l j)=false)∨∃ i,i<l.length∧fsI p l=(i:Int)∧p (gt l i)=true∧∀ j,j<i→p (gt l j)=false:=by
 by_cases h:l.findIdx p<l.length
 ·right
  refine ⟨l.findIdx p,h,by unfold fsI;rw [if_pos h],?_,fun j hj=>?_⟩
  ·rw [gt_eq h];exact List.findIdx_getElem
  ·rw [gt_eq (by omega)]
   have:=List.not_of_lt_findIdx hj
   simpa using this
 ·left
  have h2:l.findIdx p=l.length:=Nat.le_antisymm (List.findIdx_le_length) (by omega)
  refine ⟨by unfold fsI;rw [if_neg h],fun j hj=>?_⟩
  rw [gt_eq hj]
  exact (List.findIdx_eq_length.1 h2) _ (List.getElem_mem hj)
theorem fsI_any {p:Te→Bool} {l:List Te}:decide (0≤fsI p l)=l.any p:=by
 rcases fsI_cases p l with ⟨h1,h2⟩|⟨i,hi,h1,h2,_⟩
 ·rw [h1]
  have:l.any p=false:=by
   rw [List.any_eq_false]
   intro x hx
   obtain ⟨j,hj,rfl⟩:=List.getElem_of_mem hx
   have:=h2 j hj
   rw [gt_eq hj] at this
   simp [this]
  rw [this];rfl
 ·rw [h1]
  have:l.any p=true:=List.any_eq_true.2 ⟨_,gt_mem hi,h2⟩
  rw [this];simp
def tesOK (l:List Te):Prop:=l.length≤1000000∧∀ x∈l,teOK x
def CkJ:List AV→Option AV:=spF (ι:={x:Te×Te // teOK x.1∧teOK x.2}) (fun x=>[TeV x.1.2,.rp [I x.1.1.1,I x.1.1.2.1,U x.1.1.2.2]]) fun x=>rtO [B (ovB x.1.1 x.1.2)]
def IvF:List AV→Option AV:=spF (ι:={x:Te×Int×Int // teOK x.1}) (fun x=>[TeV x.1.1,.rp [I x.1.2.1],.rp [I x.1.2.2]]) fun x=>rtO [B (cvB x.1.1 x.1.2.1 x.1.2.2)]
theorem s167 (X:AX) (hX:XOK prog X) (hw:X.W wT) (hov:∀ x y,teOK x→teOK y→∀ M k,X.call 168 [TeV x,TeV y] M k=some (B (ovB x y),[])):PSd prog 167 CkJ:=by
 unfold CkJ
 refine psS hX mixed func167 rfl fun ⟨⟨⟨x1,x2,x3⟩,y1,y2,y3⟩,h1,h2⟩ w0 G=>⟨by show 2≤7;decide,rfl,?_⟩
 show AW ⟨prog,X,7,w0,.pure G⟩ _ _ _
 have hc:=okc hX 7 w0 G
 have h:=hov _ _ h1 h2
 simp only [TeV] at h ⊢
 have zS:=h
 refine dM64 ?_
 repeat (intro K hK)
 clear zS
 refine ⟨by simp,?_⟩
 simp [lvI,f167]
 try exact dt
theorem s173 (X:AX) (hX:XOK prog X) (hw:X.W wT) (hov:∀ x y,teOK x→teOK y→∀ M k,X.call 168 [TeV x,TeV y] M k=some (B (ovB x y),[])):PSd prog 173 CkJ:=by
 unfold CkJ
 refine psS hX mixed func173 rfl fun ⟨⟨⟨x1,x2,x3⟩,y1,y2,y3⟩,h1,h2⟩ w0 G=>⟨by show 2≤7;decide,rfl,?_⟩
 show AW ⟨prog,X,7,w0,.pure G⟩ _ _ _
 have hc:=okc hX 7 w0 G
 have h:=hov _ _ h1 h2
 simp only [TeV] at h ⊢
 have zS:=h
 refine dM64 ?_
 repeat (intro K hK)
 clear zS
 refine ⟨by simp,?_⟩
 simp [lvI,f173]
 try exact dt
theorem s171 (X:AX) (hX:XOK prog X) (hw:X.W wT) (hcv:∀ x s p,teOK x→∀ M k,X.call 169 [TeV x,I s,I p] M k=some (B (cvB x s p),[])):PSd prog 171 IvF:=by
 unfold IvF
 refine psS hX mixed func171 rfl fun ⟨⟨⟨x1,x2,x3⟩,s,p⟩,h1⟩ w0 G=>⟨by show 3≤9;decide,rfl,?_⟩
 show AW ⟨prog,X,9,w0,.pure G⟩ _ _ _
 have hc:=okc hX 9 w0 G
 have h:=hcv _ s p h1
 simp only [TeV] at h ⊢
 have zS:=h
 refine dM64 ?_
 repeat (intro K hK)
 clear zS
 refine ⟨by simp,?_⟩
 simp [lvI,f171]
 try exact dt
structure FkX (X:AX):Prop where
 ck:∀ x y,teOK x→teOK y→∀ M k,X.call 167 [TeV y,.rp [I x.1,I x.2.1,U x.2.2]] M k=some (B (ovB x y),[])
 fl:∀ x y,teOK x→teOK y→∀ M k,X.call 173 [TeV y,.rp [I x.1,I x.2.1,U x.2.2]] M k=some (B (ovB x y),[])
 iv:∀ x s p,teOK x→∀ M k,X.call 171 [TeV x,.rp [I s],.rp [I p]] M k=some (B (cvB x s p),[])
theorem s208 (X:AX) (hX:XOK prog X) (hw:X.W wT) (fx:FkX X) :
  PSd prog 208 (spF (ι:={x:List Te×Fk // tesOK x.1∧fkO x.2}) (fun x=>[.rd 3 (trw x.1.1),fkA x.1.2]) fun x=>rtO [I (fsI (fkP x.1.2) x.1.1)]):=by
 refine psS hX mixed func208 rfl fun ⟨⟨l,o⟩,⟨hl,hok⟩,hfo⟩ w0 G=>⟨by show 2≤19;decide,rfl,?_⟩
 show AW ⟨prog,X,19,w0,.pure G⟩ _ _ _
 have hc:=okc hX 19 w0 G
 simp only at hl hok hfo ⊢
 cases o with
 | ck c =>
  obtain ⟨c1,c2,c3⟩:=c
  unfold fkA
  simp only
  repeat' (first|(refine aSk fun K hK=>?_)|(refine eMo ?_)|(refine eC (fun h=>?_) (fun h=>?_)<;>(try simp at h))|(refine hK _ ?_;clear hK)|(clear hK;refine hK _ ?_;clear hK))
  refine aLK (s0:=?lps1) (m0:=?lpm1) (ι:={i:Nat // i≤l.length∧∀ j,j<i→fkP (.ck (c1,c2,c3)) (gt l j)=false}) [0,1,7] (fun i=>[(8,I i.1)]) (fun _=>[]) (fun i=>l.length - i.1) ⟨0,by omega,by omega⟩ ?lhs1 ?lhm1 ?_ ?_
  case lhs1=>first|(simp [kpS];done)|(simp [kpS];rfl)
  case lhm1=>first|rfl|(simp;done)|(simp;rfl)
  ·exact dle
  ·rintro ⟨i,hi,hinv⟩
   simp only
   rcases dE (i<l.length) with hil|hil
   ·have hilI:(i:Int)<(l.length:Int):=by omega
    have hg:=trows_gi hil
    have hgE:=trows_gE hil
    have hq:=fx.ck ⟨c1,c2,c3⟩ _ hfo (hok _ (gt_mem hil))
    have hat:=fsI_at (p:=fkP (.ck (c1,c2,c3))) hil
    have hnx:fkP (.ck (c1,c2,c3)) (gt l i)=false→∀ j,j<i+1→fkP (.ck (c1,c2,c3)) (gt l j)=false:=fun h j hj=>by
     rcases Nat.lt_succ_iff_lt_or_eq.1 hj with h5|rfl
     ·exact hinv j h5
     ·exact h
    obtain ⟨⟨x1,x2,x3⟩,hm⟩:∃ m,m=gt l i:=⟨_,rfl⟩
    rw [← hm] at hg hgE hq hat hnx
    simp only [trow,TeV,fkP] at hg hgE hq hat hnx
    obtain ⟨v,hv⟩:∃ v,v=ovB (c1,c2,c3) (x1,x2,x3):=⟨_,rfl⟩
    rw [← hv] at hq hat hnx
    cases v with
    | true =>
     have hr:=hat rfl hinv
     simp only [fkP] at hr ⊢
     rw [hr]
     have zS:=jj hilI<|jj hil<|jj hg<|jj hgE<|hq
     repeat' (first|(refine aSk fun K hK=>?_)|(refine eM64 ?_)|(refine eC (fun h=>?_) (fun h=>?_)<;>(try simp at h))|(refine hK _ ?_;clear hK)|clear hK)
     all_goals clear zS
     refine ⟨by simp,?_⟩
     simp [lvI,f208]
     try exact dt
    | false =>
     have hr:=hnx rfl
     have zS:=jj hilI<|jj hil<|jj hg<|jj hgE<|hq
     repeat' (first|(refine aSk fun K hK=>?_)|(refine eM64 ?_)|(refine eC (fun h=>?_) (fun h=>?_)<;>(try simp at h))|(refine hK _ ?_;clear hK)|clear hK)
     all_goals clear zS
     refine ⟨i+1,?_,⟨by omega,hr⟩,by omega⟩
     exact dle
   ·obtain rfl:i=l.length:=by omega
    repeat' (first|(refine aSk fun K hK=>?_)|(refine eMo ?_)|(refine eC (fun h=>?_) (fun h=>?_)<;>(try simp at h))|(refine hK _ ?_;clear hK)|clear hK)
    rw [fsI_not hinv]
    refine ⟨by simp,?_⟩
    simp [lvI,f208]
    try exact dt
 | fl c =>
  obtain ⟨c1,c2,c3⟩:=c
  unfold fkA
  simp only
  repeat' (first|(refine aSk fun K hK=>?_)|(refine eMo ?_)|(refine eC (fun h=>?_) (fun h=>?_)<;>(try simp at h))|(refine hK _ ?_;clear hK)|(clear hK;refine hK _ ?_;clear hK))
  refine aLK (s0:=?lps2) (m0:=?lpm2) (ι:={i:Nat // i≤l.length∧∀ j,j<i→fkP (.fl (c1,c2,c3)) (gt l j)=false}) [0,1,7] (fun i=>[(8,I i.1)]) (fun _=>[]) (fun i=>l.length - i.1) ⟨0,by omega,by omega⟩ ?lhs2 ?lhm2 ?_ ?_
  case lhs2=>first|(simp [kpS];done)|(simp [kpS];rfl)
  case lhm2=>first|rfl|(simp;done)|(simp;rfl)
  ·exact dle
  ·rintro ⟨i,hi,hinv⟩
   simp only
   rcases dE (i<l.length) with hil|hil
   ·have hilI:(i:Int)<(l.length:Int):=by omega
    have hg:=trows_gi hil
    have hgE:=trows_gE hil
    have hq:=fx.fl ⟨c1,c2,c3⟩ _ hfo (hok _ (gt_mem hil))
    have hat:=fsI_at (p:=fkP (.fl (c1,c2,c3))) hil
    have hnx:fkP (.fl (c1,c2,c3)) (gt l i)=false→∀ j,j<i+1→fkP (.fl (c1,c2,c3)) (gt l j)=false:=fun h j hj=>by
     rcases Nat.lt_succ_iff_lt_or_eq.1 hj with h5|rfl
     ·exact hinv j h5
     ·exact h
    obtain ⟨⟨x1,x2,x3⟩,hm⟩:∃ m,m=gt l i:=⟨_,rfl⟩
    rw [← hm] at hg hgE hq hat hnx
    simp only [trow,TeV,fkP] at hg hgE hq hat hnx
    obtain ⟨v,hv⟩:∃ v,v=ovB (c1,c2,c3) (x1,x2,x3):=⟨_,rfl⟩
    rw [← hv] at hq hat hnx
    cases v with
    | true =>
     have hr:=hat rfl hinv
     simp only [fkP] at hr ⊢
     rw [hr]
     have zS:=jj hilI<|jj hil<|jj hg<|jj hgE<|hq
     repeat' (first|(refine aSk fun K hK=>?_)|(refine eM64 ?_)|(refine eC (fun h=>?_) (fun h=>?_)<;>(try simp at h))|(refine hK _ ?_;clear hK)|clear hK)
     all_goals clear zS
     refine ⟨by simp,?_⟩
     simp [lvI,f208]
     try exact dt
    | false =>
     have hr:=hnx rfl
     have zS:=jj hilI<|jj hil<|jj hg<|jj hgE<|hq
     repeat' (first|(refine aSk fun K hK=>?_)|(refine eM64 ?_)|(refine eC (fun h=>?_) (fun h=>?_)<;>(try simp at h))|(refine hK _ ?_;clear hK)|clear hK)
     all_goals clear zS
     refine ⟨i+1,?_,⟨by omega,hr⟩,by omega⟩
     exact dle
   ·obtain rfl:i=l.length:=by omega
    repeat' (first|(refine aSk fun K hK=>?_)|(refine eMo ?_)|(refine eC (fun h=>?_) (fun h=>?_)<;>(try simp at h))|(refine hK _ ?_;clear hK)|clear hK)
    rw [fsI_not hinv]
    refine ⟨by simp,?_⟩
    simp [lvI,f208]
    try exact dt
 | iv s p =>
  unfold fkA
  simp only
  repeat' (first|(refine aSk fun K hK=>?_)|(refine eMo ?_)|(refine eC (fun h=>?_) (fun h=>?_)<;>(try simp at h))|(refine hK _ ?_;clear hK)|(clear hK;refine hK _ ?_;clear hK))
  refine aLK (s0:=?lps3) (m0:=?lpm3) (ι:={i:Nat // i≤l.length∧∀ j,j<i→fkP (.iv s p) (gt l j)=false}) [0,1,7] (fun i=>[(8,I i.1)]) (fun _=>[]) (fun i=>l.length - i.1) ⟨0,by omega,by omega⟩ ?lhs3 ?lhm3 ?_ ?_
  case lhs3=>first|(simp [kpS];done)|(simp [kpS];rfl)
  case lhm3=>first|rfl|(simp;done)|(simp;rfl)
  ·exact dle
  ·rintro ⟨i,hi,hinv⟩
   simp only
   rcases dE (i<l.length) with hil|hil
   ·have hilI:(i:Int)<(l.length:Int):=by omega
    have hg:=trows_gi hil
    have hgE:=trows_gE hil
    have hq:=fx.iv _ s p (hok _ (gt_mem hil))
    have hat:=fsI_at (p:=fkP (.iv s p)) hil
    have hnx:fkP (.iv s p) (gt l i)=false→∀ j,j<i+1→fkP (.iv s p) (gt l j)=false:=fun h j hj=>by
     rcases Nat.lt_succ_iff_lt_or_eq.1 hj with h5|rfl
     ·exact hinv j h5
     ·exact h
    obtain ⟨⟨x1,x2,x3⟩,hm⟩:∃ m,m=gt l i:=⟨_,rfl⟩
    rw [← hm] at hg hgE hq hat hnx
    simp only [trow,TeV,fkP] at hg hgE hq hat hnx
    obtain ⟨v,hv⟩:∃ v,v=cvB (x1,x2,x3) s p:=⟨_,rfl⟩
    rw [← hv] at hq hat hnx
    cases v with
    | true =>
     have hr:=hat rfl hinv
     simp only [fkP] at hr ⊢
     rw [hr]
     have zS:=jj hilI<|jj hil<|jj hg<|jj hgE<|hq
     repeat' (first|(refine aSk fun K hK=>?_)|(refine eM64 ?_)|(refine eC (fun h=>?_) (fun h=>?_)<;>(try simp at h))|(refine hK _ ?_;clear hK)|clear hK)
     all_goals clear zS
     refine ⟨by simp,?_⟩
     simp [lvI,f208]
     try exact dt
    | false =>
     have hr:=hnx rfl
     have zS:=jj hilI<|jj hil<|jj hg<|jj hgE<|hq
     repeat' (first|(refine aSk fun K hK=>?_)|(refine eM64 ?_)|(refine eC (fun h=>?_) (fun h=>?_)<;>(try simp at h))|(refine hK _ ?_;clear hK)|clear hK)
     all_goals clear zS
     refine ⟨i+1,?_,⟨by omega,hr⟩,by omega⟩
     exact dle
   ·obtain rfl:i=l.length:=by omega
    repeat' (first|(refine aSk fun K hK=>?_)|(refine eMo ?_)|(refine eC (fun h=>?_) (fun h=>?_)<;>(try simp at h))|(refine hK _ ?_;clear hK)|clear hK)
    rw [fsI_not hinv]
    refine ⟨by simp,?_⟩
    simp [lvI,f208]
    try exact dt
def IxJ:List AV→Option AV:=spF (ι:={x:List Te×Fk // tesOK x.1∧fkO x.2}) (fun x=>[.rd 3 (trw x.1.1),fkA x.1.2]) fun x=>rtO [I (fsI (fkP x.1.2) x.1.1)]
theorem IxJ_at (l:List Te) (o:Fk) (h:tesOK l) (ho:fkO o):IxJ [.rd 3 (trw l),fkA o]=some (I (fsI (fkP o) l)) :=
 sFe (ι:={x:List Te×Fk // tesOK x.1∧fkO x.2}) (A:=fun x=>[.rd 3 (trw x.1.1),fkA x.1.2]) (R:=fun x=>rtO [I (fsI (fkP x.1.2) x.1.1)]) ⟨(l,o),h,ho⟩ (by
  rintro ⟨⟨k,c⟩,h⟩ e
  simp only [cJ,AV.rd.injEq,trI,fkA_inj,true_and,and_true] at e
  obtain ⟨rfl,rfl⟩:=e;rfl)
def CfF:List AV→Option AV:=spF (ι:={x:List Te×Te // tesOK x.1∧teOK x.2}) (fun x=>[.rd 3 (trw x.1.1),fkA (.ck x.1.2)]) fun x=>rtO [B (x.1.1.any (ovB x.1.2))]
theorem s166 (X:AX) (hX:XOK prog X) (hw:X.W wT) (hix:X.call 208=caP IxJ):PSd prog 166 CfF:=by
 unfold CfF
 refine psS hX mixed func166 rfl fun ⟨⟨l,c1,c2,c3⟩,hl,hx⟩ w0 G=>⟨by show 2≤9;decide,rfl,?_⟩
 show AW ⟨prog,X,9,w0,.pure G⟩ _ _ _
 have hc:=okc hX 9 w0 G
 simp only at hl hx ⊢
 have hF:=IxJ_at l (.ck (c1,c2,c3)) hl hx
 have ha:=@fsI_any (fkP (.ck (c1,c2,c3))) l
 rw [show (fkP (.ck (c1,c2,c3)))=ovB (c1,c2,c3) from rfl] at hF ha
 rw [← ha]
 simp only [fkA] at hF ⊢
 obtain ⟨v,hv⟩:∃ v,v=fsI (ovB (c1,c2,c3)) l:=⟨_,rfl⟩
 rw [← hv] at hF ⊢
 rcases dE (0≤v) with h0|h0
 ·rw [decide_eq_true h0]
  have zS:=jj hix<|jj hF<|h0
  refine dM64 ?_
  repeat (intro K hK)
  clear zS
  refine ⟨by simp,?_⟩
  simp [lvI,f166]
  try exact dt
 ·rw [decide_eq_false h0]
  have zS:=jj hix<|jj hF<|h0
  refine dM64 ?_
  repeat (intro K hK)
  clear zS
  refine ⟨by simp,?_⟩
  simp [lvI,f166]
  try exact dt
def ClTF:List AV→Option AV:=spF (ι:={l:List Te // l.length≤1000000}) (fun x=>[.rd 3 (trw x.1)]) fun x=>rtO [.ow 3 (trw x.1)]
theorem s211 (X:AX) (hX:XOK prog X) (hw:X.W wT):PSd prog 211 ClTF:=by
 unfold ClTF
 refine psS hX mixed func211 rfl fun ⟨l,hl⟩ w0 G=>⟨by show 1≤8;decide,rfl,?_⟩
 show AW ⟨prog,X,8,w0,.pure G⟩ _ _ _
 have hc:=okc hX 8 w0 G
 simp only at hl ⊢
 cases l with
 | nil =>
  refine aw_cases_nil 0 3 (by simp [trw,eSt]) ?_ fun p n=>?_
  ·refine dM64o ?_
   repeat (intro K hK)
   refine ⟨by simp,?_⟩
   simp [lvI,f211,trw]
   try exact dt
  ·refine dM64o ?_
   repeat (intro K hK)
   refine ⟨by simp,?_⟩
   simp [lvI,f211,trw]
   try exact dt
 | cons x l =>
  have hl':l.length+1≤1000000:=by simpa using hl
  obtain ⟨e,he⟩:∃ e,e=trow x:=⟨_,rfl⟩
  obtain ⟨T,hT⟩:∃ T,T=trw l:=⟨_,rfl⟩
  have hc2:trw (x::l)=e::T:=by rw [he,hT];rfl
  have hTl:T.length=l.length:=by rw [hT];simp
  have tk:List.take T.length T=T:=tkL (Nat.le_refl _)
  rw [hc2]
  clear he hT
  have zS:=tk
  refine dM64 ?_
  repeat (intro K hK)
  clear zS
  refine ⟨by simp,?_⟩
  simp [lvI,f211,tk]
  try exact dt
def drpT (p:Te→Bool) (l:List Te):List Te:=l.filter fun y=>!p y
theorem drpT_snoc {p:Te→Bool} {l:List Te} {x:Te}:drpT p (l++[x])=if p x=true then drpT p l else drpT p l++[x]:=by
 unfold drpT
 rw [List.filter_append]
 cases h:p x<;>simp [h]
theorem drpT_none {p:Te→Bool} {l:List Te} (h:∀ j,j<l.length→p (gt l j)=false):drpT p l=l:=by
 unfold drpT
 rw [List.filter_eq_self]
 intro m hm
 obtain ⟨j,hj,rfl⟩:=List.getElem_of_mem hm
 have:=h j hj
 rw [gt_eq hj] at this
 simp [this]
theorem trows_take (l:List Te) (n:Nat):trw (l.take n)=(trw l).take n:=by simp [trw,List.map_take]
theorem tkT (l:List Te):List.take l.length (trw l)=trw l:=tkL (by simp)
theorem take_succ_gt {l:List Te} {j:Nat} (h:j<l.length):l.take (j+1)=l.take j++[gt l j]:=by
 rw [List.take_add_one,List.getElem?_eq_getElem h,gt_eq h];rfl
theorem gt_app_at {a b:List Te} {m:Te} {k:Nat} (h:a.length=k):gt (a++m::b) k=m:=by
 unfold gt;subst h;simp [List.getD_eq_getElem?_getD]
theorem drop_gt {l:List Te} {j:Nat} (h:j<l.length):l.drop j=gt l j::l.drop (j+1):=by
 rw [List.drop_eq_getElem_cons h,gt_eq h]
theorem trows_set (l:List Te) (n:Nat) (a b:Int) (c:Nat):(trw l).set n [I a,I b,.v (.int .u64 c)]=trw (l.set n (a,b,c)):=by simp [trw,trow,U,List.map_set]
theorem set_midT (F:List Te) (g v:Te) (G:List Te):(F++g::G).set F.length v=F++v::G:=by
 rw [List.set_append_right _ _ (Nat.le_refl _)];simp
def three3 (_:Nat):Nat:=3
def DfT:AV→List AV→Option (AV×AV):=specM (ι:={x:List Te×Fk // tesOK x.1∧fkO x.2}) (fun x=>.ow 3 (trw x.1.1)) (fun x=>[fkA x.1.2]) (fun x=>rtO [.ow 3 (trw (drpT (fkP x.1.2) x.1.1))]) fun _=>.any
theorem DfT_at (l:List Te) (o:Fk) (h:tesOK l) (ho:fkO o):DfT (.ow 3 (trw l)) [fkA o]=some (.ow 3 (trw (drpT (fkP o) l)),.any) :=
 specM_eq (A0:=fun x:{x:List Te×Fk // tesOK x.1∧fkO x.2}=>AV.ow 3 (trw x.1.1)) (A:=fun x=>[fkA x.1.2]) (R:=fun x=>rtO [.ow 3 (trw (drpT (fkP x.1.2) x.1.1))]) (O:=fun _=>.any) ⟨(l,o),h,ho⟩ (by
  rintro ⟨⟨l',o'⟩,h1⟩ e1 e2
  simp only [AV.ow.injEq,trI,true_and] at e1
  simp only [cJ,fkA_inj,and_true] at e2
  subst e1 e2
  exact ⟨rfl,rfl⟩)
theorem s210 (X:AX) (hX:XOK prog X) (hw:X.W wT) (hix:X.call 208=caP IxJ) (fx:FkX X):MSound prog 210 DfT:=by
 unfold DfT
 refine msound_spec func210 rfl X fun ⟨⟨l,o⟩,⟨hl,hok⟩,hfo⟩ w0 bl E=>⟨by show 2≤42;decide,rfl,?_⟩
 simp only at hl hok hfo
 show AW ⟨prog,X,42,w0,⟨bl,E,1⟩⟩ _ _ _
 have hc:Cx.OK ⟨prog,X,42,w0,⟨bl,E,1⟩⟩:=⟨hX,mixed⟩
 have hF:=IxJ_at l o ⟨hl,hok⟩ hfo
 cases o with
 | ck c =>
  obtain ⟨c1,c2,c3⟩:=c
  obtain ⟨P,hP⟩:∃ P,P=fkP (.ck (c1,c2,c3)):=⟨_,rfl⟩
  rw [← hP] at hF
  simp only [← hP]
  simp only [fkA,U] at hF ⊢
  rcases fsI_cases P l with ⟨h1,h2⟩|⟨k,hk,h1,h2,h3⟩
  ·rw [h1] at hF
   have hD:=drpT_none h2
   have zS:=jj hix<|jj hF<|tkT
   refine dM64 ?_
   repeat (intro K hK)
   clear zS
   refine ⟨by simp,lMa ?_⟩
   simp (disch:=first|omega|assumption|(simp;done)|fail) [if_pos,if_neg,lvI,f210]
   rw [hD]
   first|done|exact (tkT l).symm
  ·rw [h1] at hF
   have zS:=jj hix<|jj hF<|tkT
   repeat' (first|(refine aSk fun K hK=>?_)|(refine eM64 ?_)|(refine eC (fun h=>?_) (fun h=>?_)<;>(try simp at h))|(refine hK _ ?_;clear hK)|(clear hK;refine hK _ ?_;clear hK))
   all_goals clear zS
   have htk:drpT P (l.take k)=l.take k:=drpT_none fun j hj=>by
    rw [List.length_take] at hj
    have:=h3 j (by omega)
    rw [gt_eq (by omega)] at this
    rw [gt_eq (by rw [List.length_take];omega),List.getElem_take]
    exact this
   have hD0:drpT P (l.take (k+1))=l.take k:=by rw [take_succ_gt hk,drpT_snoc,if_pos h2,htk]
   have hlk:(l.take k).length=k:=by rw [List.length_take];omega
   have hW0:l.take k++[gt l k]++l.drop (k+1)=l:=by rw [← take_succ_gt hk,List.take_append_drop]
   refine aLK (s0:=?lps4) (m0:=?lpm4) (ι:={x:Nat×List Te // x.1≤l.length∧(drpT P (l.take x.1)).length+x.2.length=x.1∧1≤x.2.length}) [0,1] (fun x=>[(6,I x.1.1),(5,I (drpT P (l.take x.1.1)).length)]) (fun x=>[(0,.vec 1 3 false (trw (drpT P (l.take x.1.1)++x.1.2++l.drop x.1.1)))]) (fun x=>l.length - x.1.1) ⟨(k+1,[gt l k]),by simp only [hD0,hlk];simp;omega⟩ ?lhs4 ?lhm4 ?_ ?_
   case lhs4=>first|(simp [kpS];done)|(simp [kpS];rfl)
   case lhm4=>first|rfl|(simp;done)|(simp;rfl)
   ·simp only [hD0,hlk,hW0]
    exact dle
   ·rintro ⟨⟨j,G⟩,hj,hFG,hG1⟩
    simp only at hj hFG hG1 ⊢
    obtain ⟨F,hFe⟩:∃ F,F=drpT P (l.take j):=⟨_,rfl⟩
    rw [← hFe] at hFG ⊢
    rcases dE (j<l.length) with hjl|hjl
    ·have hjI:(j:Int)<(l.length:Int):=by omega
     have hdr:=drop_gt hjl
     have hins:=drpT_snoc (p:=P) (l:=l.take j) (x:=gt l j)
     rw [← take_succ_gt hjl,← hFe] at hins
     have hq:=fx.ck ⟨c1,c2,c3⟩ _ hfo (hok _ (gt_mem hjl))
     have hPq:P (gt l j)=fkP (.ck (c1,c2,c3)) (gt l j):=by rw [hP]
     obtain ⟨⟨x,y,z⟩,hm⟩:∃ m,m=gt l j:=⟨_,rfl⟩
     rw [← hm] at hdr hins hq hPq
     simp only [TeV,fkP] at hq hPq
     rw [← hPq] at hq
     obtain ⟨W,hW⟩:∃ W,W=F++G++l.drop j:=⟨_,rfl⟩
     have hWl:W.length=l.length:=by rw [hW];simp;omega
     have hWj:gt W j=(x,y,z):=by rw [hW,hdr];exact gt_app_at (by rw [List.length_append];exact hFG)
     have hFl:F.length<W.length:=by omega
     have hFI:(F.length:Int)<(W.length:Int):=by omega
     have hFI2:(F.length:Int)<(l.length:Int):=by omega
     have hFL2:F.length<l.length:=by omega
     have hg:=trows_gi (l:=W) (i:=j) (by omega)
     have hgE:=trows_gE (l:=W) (i:=j) (by omega)
     rw [hWj] at hg hgE
     simp only [trow,U] at hg hgE
     simp only [U] at hq
     have hgF:=trows_gi hFl
     have hgFE:=trows_gE hFl
     obtain ⟨⟨f1,f2,f3⟩,hf⟩:∃ m,m=gt W F.length:=⟨_,rfl⟩
     rw [← hf] at hgF hgFE
     simp only [trow,U] at hgF hgFE
     have hFb:F.length≤1000000:=by omega
     rw [← hW]
     cases hv:P (x,y,z) with
     | true =>
      rw [hv] at hq
      rw [if_pos hv] at hins
      have zS:=jj hjI<|jj hg<|jj hgE<|jj hWl<|hq
      repeat' (first|(refine aSk fun K hK=>?_)|(refine eM64 ?_)|(refine eC (fun h=>?_) (fun h=>?_)<;>(try simp at h))|(refine hK _ ?_;clear hK)|clear hK)
      all_goals clear zS
      have hWe:F++(G++[(x,y,z)]++l.drop (j+1))=W:=by rw [hW,hdr];simp
      refine ⟨j+1,G++[(x,y,z)],?_,⟨by omega,by rw [hins];simp;omega,by simp⟩,by omega⟩
      simp only [hins,hWe]
      refine le_turn (s1:=?tus5) (m1:=?tum5) [] [0,1,5,6] [0] ?tua5 ?tub5 ?tuc5 ?tud5 ?tue5 ?tuf5 ?tug5
      case tua5=>first|(simp [kpS];done)|(simp [kpS];rfl)
      case tub5=>first|(simp;done)|(simp;rfl)
      case tuc5=>simp
      case tud5=>simp
      case tue5=>simp
      case tuf5=>simp
      case tug5 =>
       simp [swp,vr]
       exact dle
     | false =>
      rw [hv] at hq
      rw [if_neg (by simp [hv])] at hins
      have zS:=jj hjI<|jj hg<|jj hgE<|jj hWl<|jj hq<|jj hgF<|jj hgFE<|jj hFI<|jj hFI2<|jj hFL2<|trows_set
      repeat' (first|(refine aSk fun K hK=>?_)|(refine eM64 ?_)|(refine eC (fun h=>?_) (fun h=>?_)<;>(try simp at h))|(refine hK _ ?_;clear hK)|clear hK)
      all_goals clear zS
      obtain ⟨g,G',rfl⟩:∃ g G',G=g::G':=by
       cases G with
       | nil=>simp at hG1
       | cons g G'=>exact ⟨g,G',rfl⟩
      have hWs:(F++[(x,y,z)])++(G'++[(x,y,z)]++l.drop (j+1))=W.set F.length (x,y,z):=by
       have e:=set_midT F g (x,y,z) (G'++l.drop j)
       have e2:F++g::(G'++l.drop j)=W:=by rw [hW];simp
       rw [e2] at e
       rw [e,hdr];simp
      simp only [List.length_cons] at hFG
      refine ⟨j+1,G'++[(x,y,z)],?_,⟨by omega,by rw [hins];simp;omega,by simp⟩,by omega⟩
      simp only [hins,hWs]
      refine le_turn (s1:=?tus6) (m1:=?tum6) [] [0,1,5,6] [0] ?tua6 ?tub6 ?tuc6 ?tud6 ?tue6 ?tuf6 ?tug6
      case tua6=>first|(simp [kpS];done)|(simp [kpS];rfl)
      case tub6=>first|(simp;done)|(simp;rfl)
      case tuc6=>simp
      case tud6=>simp
      case tue6=>simp
      case tuf6=>simp
      case tug6 =>
       simp [swp,vr]
       exact dle
    ·obtain rfl:j=l.length:=by omega
     rw [List.take_length] at hFe
     have hnil:l.drop l.length=[]:=List.drop_eq_nil_of_le (Nat.le_refl _)
     rw [hnil]
     have zS:=jj tkT<|hFG
     repeat' (first|(refine aSk fun K hK=>?_)|(refine eM64 ?_)|(refine eC (fun h=>?_) (fun h=>?_)<;>(try simp at h))|(refine hK _ ?_;clear hK)|clear hK)
     all_goals clear zS
     refine ⟨by simp,lMa ?_⟩
     simp (disch:=first|omega|assumption|(simp;done)|fail) [if_pos,if_neg,lvI,f210]
     rw [← hFe,← trows_take]
     simp
 | fl c =>
  obtain ⟨c1,c2,c3⟩:=c
  obtain ⟨P,hP⟩:∃ P,P=fkP (.fl (c1,c2,c3)):=⟨_,rfl⟩
  rw [← hP] at hF
  simp only [← hP]
  simp only [fkA,U] at hF ⊢
  rcases fsI_cases P l with ⟨h1,h2⟩|⟨k,hk,h1,h2,h3⟩
  ·rw [h1] at hF
   have hD:=drpT_none h2
   have zS:=jj hix<|jj hF<|tkT
   refine dM64 ?_
   repeat (intro K hK)
   clear zS
   refine ⟨by simp,lMa ?_⟩
   simp (disch:=first|omega|assumption|(simp;done)|fail) [if_pos,if_neg,lvI,f210]
   rw [hD]
   first|done|exact (tkT l).symm
  ·rw [h1] at hF
   have zS:=jj hix<|jj hF<|tkT
   repeat' (first|(refine aSk fun K hK=>?_)|(refine eM64 ?_)|(refine eC (fun h=>?_) (fun h=>?_)<;>(try simp at h))|(refine hK _ ?_;clear hK)|(clear hK;refine hK _ ?_;clear hK))
   all_goals clear zS
   have htk:drpT P (l.take k)=l.take k:=drpT_none fun j hj=>by
    rw [List.length_take] at hj
    have:=h3 j (by omega)
    rw [gt_eq (by omega)] at this
    rw [gt_eq (by rw [List.length_take];omega),List.getElem_take]
    exact this
   have hD0:drpT P (l.take (k+1))=l.take k:=by rw [take_succ_gt hk,drpT_snoc,if_pos h2,htk]
   have hlk:(l.take k).length=k:=by rw [List.length_take];omega
   have hW0:l.take k++[gt l k]++l.drop (k+1)=l:=by rw [← take_succ_gt hk,List.take_append_drop]
   refine aLK (s0:=?lps7) (m0:=?lpm7) (ι:={x:Nat×List Te // x.1≤l.length∧(drpT P (l.take x.1)).length+x.2.length=x.1∧1≤x.2.length}) [0,1] (fun x=>[(6,I x.1.1),(5,I (drpT P (l.take x.1.1)).length)]) (fun x=>[(0,.vec 1 3 false (trw (drpT P (l.take x.1.1)++x.1.2++l.drop x.1.1)))]) (fun x=>l.length - x.1.1) ⟨(k+1,[gt l k]),by simp only [hD0,hlk];simp;omega⟩ ?lhs7 ?lhm7 ?_ ?_
   case lhs7=>first|(simp [kpS];done)|(simp [kpS];rfl)
   case lhm7=>first|rfl|(simp;done)|(simp;rfl)
   ·simp only [hD0,hlk,hW0]
    exact dle
   ·rintro ⟨⟨j,G⟩,hj,hFG,hG1⟩
    simp only at hj hFG hG1 ⊢
    obtain ⟨F,hFe⟩:∃ F,F=drpT P (l.take j):=⟨_,rfl⟩
    rw [← hFe] at hFG ⊢
    rcases dE (j<l.length) with hjl|hjl
    ·have hjI:(j:Int)<(l.length:Int):=by omega
     have hdr:=drop_gt hjl
     have hins:=drpT_snoc (p:=P) (l:=l.take j) (x:=gt l j)
     rw [← take_succ_gt hjl,← hFe] at hins
     have hq:=fx.fl ⟨c1,c2,c3⟩ _ hfo (hok _ (gt_mem hjl))
     have hPq:P (gt l j)=fkP (.fl (c1,c2,c3)) (gt l j):=by rw [hP]
     obtain ⟨⟨x,y,z⟩,hm⟩:∃ m,m=gt l j:=⟨_,rfl⟩
     rw [← hm] at hdr hins hq hPq
     simp only [TeV,fkP] at hq hPq
     rw [← hPq] at hq
     obtain ⟨W,hW⟩:∃ W,W=F++G++l.drop j:=⟨_,rfl⟩
     have hWl:W.length=l.length:=by rw [hW];simp;omega
     have hWj:gt W j=(x,y,z):=by rw [hW,hdr];exact gt_app_at (by rw [List.length_append];exact hFG)
     have hFl:F.length<W.length:=by omega
     have hFI:(F.length:Int)<(W.length:Int):=by omega
     have hFI2:(F.length:Int)<(l.length:Int):=by omega
     have hFL2:F.length<l.length:=by omega
     have hg:=trows_gi (l:=W) (i:=j) (by omega)
     have hgE:=trows_gE (l:=W) (i:=j) (by omega)
     rw [hWj] at hg hgE
     simp only [trow,U] at hg hgE
     simp only [U] at hq
     have hgF:=trows_gi hFl
     have hgFE:=trows_gE hFl
     obtain ⟨⟨f1,f2,f3⟩,hf⟩:∃ m,m=gt W F.length:=⟨_,rfl⟩
     rw [← hf] at hgF hgFE
     simp only [trow,U] at hgF hgFE
     have hFb:F.length≤1000000:=by omega
     rw [← hW]
     cases hv:P (x,y,z) with
     | true =>
      rw [hv] at hq
      rw [if_pos hv] at hins
      have zS:=jj hjI<|jj hg<|jj hgE<|jj hWl<|hq
      repeat' (first|(refine aSk fun K hK=>?_)|(refine eM64 ?_)|(refine eC (fun h=>?_) (fun h=>?_)<;>(try simp at h))|(refine hK _ ?_;clear hK)|clear hK)
      all_goals clear zS
      have hWe:F++(G++[(x,y,z)]++l.drop (j+1))=W:=by rw [hW,hdr];simp
      refine ⟨j+1,G++[(x,y,z)],?_,⟨by omega,by rw [hins];simp;omega,by simp⟩,by omega⟩
      simp only [hins,hWe]
      refine le_turn (s1:=?tus8) (m1:=?tum8) [] [0,1,5,6] [0] ?tua8 ?tub8 ?tuc8 ?tud8 ?tue8 ?tuf8 ?tug8
      case tua8=>first|(simp [kpS];done)|(simp [kpS];rfl)
      case tub8=>first|(simp;done)|(simp;rfl)
      case tuc8=>simp
      case tud8=>simp
      case tue8=>simp
      case tuf8=>simp
      case tug8 =>
       simp [swp,vr]
       exact dle
     | false =>
      rw [hv] at hq
      rw [if_neg (by simp [hv])] at hins
      have zS:=jj hjI<|jj hg<|jj hgE<|jj hWl<|jj hq<|jj hgF<|jj hgFE<|jj hFI<|jj hFI2<|jj hFL2<|trows_set
      repeat' (first|(refine aSk fun K hK=>?_)|(refine eM64 ?_)|(refine eC (fun h=>?_) (fun h=>?_)<;>(try simp at h))|(refine hK _ ?_;clear hK)|clear hK)
      all_goals clear zS
      obtain ⟨g,G',rfl⟩:∃ g G',G=g::G':=by
       cases G with
       | nil=>simp at hG1
       | cons g G'=>exact ⟨g,G',rfl⟩
      have hWs:(F++[(x,y,z)])++(G'++[(x,y,z)]++l.drop (j+1))=W.set F.length (x,y,z):=by
       have e:=set_midT F g (x,y,z) (G'++l.drop j)
       have e2:F++g::(G'++l.drop j)=W:=by rw [hW];simp
       rw [e2] at e
       rw [e,hdr];simp
      simp only [List.length_cons] at hFG
      refine ⟨j+1,G'++[(x,y,z)],?_,⟨by omega,by rw [hins];simp;omega,by simp⟩,by omega⟩
      simp only [hins,hWs]
      refine le_turn (s1:=?tus9) (m1:=?tum9) [] [0,1,5,6] [0] ?tua9 ?tub9 ?tuc9 ?tud9 ?tue9 ?tuf9 ?tug9
      case tua9=>first|(simp [kpS];done)|(simp [kpS];rfl)
      case tub9=>first|(simp;done)|(simp;rfl)
      case tuc9=>simp
      case tud9=>simp
      case tue9=>simp
      case tuf9=>simp
      case tug9 =>
       simp [swp,vr]
       exact dle
    ·obtain rfl:j=l.length:=by omega
     rw [List.take_length] at hFe
     have hnil:l.drop l.length=[]:=List.drop_eq_nil_of_le (Nat.le_refl _)
     rw [hnil]
     have zS:=jj tkT<|hFG
     repeat' (first|(refine aSk fun K hK=>?_)|(refine eM64 ?_)|(refine eC (fun h=>?_) (fun h=>?_)<;>(try simp at h))|(refine hK _ ?_;clear hK)|clear hK)
     all_goals clear zS
     refine ⟨by simp,lMa ?_⟩
     simp (disch:=first|omega|assumption|(simp;done)|fail) [if_pos,if_neg,lvI,f210]
     rw [← hFe,← trows_take]
     simp
 | iv s p =>
  obtain ⟨P,hP⟩:∃ P,P=fkP (.iv s p):=⟨_,rfl⟩
  rw [← hP] at hF
  simp only [← hP]
  simp only [fkA,U] at hF ⊢
  rcases fsI_cases P l with ⟨h1,h2⟩|⟨k,hk,h1,h2,h3⟩
  ·rw [h1] at hF
   have hD:=drpT_none h2
   have zS:=jj hix<|jj hF<|tkT
   refine dM64 ?_
   repeat (intro K hK)
   clear zS
   refine ⟨by simp,lMa ?_⟩
   simp (disch:=first|omega|assumption|(simp;done)|fail) [if_pos,if_neg,lvI,f210]
   rw [hD]
   first|done|exact (tkT l).symm
  ·rw [h1] at hF
   have zS:=jj hix<|jj hF<|tkT
   repeat' (first|(refine aSk fun K hK=>?_)|(refine eM64 ?_)|(refine eC (fun h=>?_) (fun h=>?_)<;>(try simp at h))|(refine hK _ ?_;clear hK)|(clear hK;refine hK _ ?_;clear hK))
   all_goals clear zS
   have htk:drpT P (l.take k)=l.take k:=drpT_none fun j hj=>by
    rw [List.length_take] at hj
    have:=h3 j (by omega)
    rw [gt_eq (by omega)] at this
    rw [gt_eq (by rw [List.length_take];omega),List.getElem_take]
    exact this
   have hD0:drpT P (l.take (k+1))=l.take k:=by rw [take_succ_gt hk,drpT_snoc,if_pos h2,htk]
   have hlk:(l.take k).length=k:=by rw [List.length_take];omega
   have hW0:l.take k++[gt l k]++l.drop (k+1)=l:=by rw [← take_succ_gt hk,List.take_append_drop]
   refine aLK (s0:=?lps10) (m0:=?lpm10) (ι:={x:Nat×List Te // x.1≤l.length∧(drpT P (l.take x.1)).length+x.2.length=x.1∧1≤x.2.length}) [0,1] (fun x=>[(6,I x.1.1),(5,I (drpT P (l.take x.1.1)).length)]) (fun x=>[(0,.vec 1 3 false (trw (drpT P (l.take x.1.1)++x.1.2++l.drop x.1.1)))]) (fun x=>l.length - x.1.1) ⟨(k+1,[gt l k]),by simp only [hD0,hlk];simp;omega⟩ ?lhs10 ?lhm10 ?_ ?_
   case lhs10=>first|(simp [kpS];done)|(simp [kpS];rfl)
   case lhm10=>first|rfl|(simp;done)|(simp;rfl)
   ·simp only [hD0,hlk,hW0]
    exact dle
   ·rintro ⟨⟨j,G⟩,hj,hFG,hG1⟩
    simp only at hj hFG hG1 ⊢
    obtain ⟨F,hFe⟩:∃ F,F=drpT P (l.take j):=⟨_,rfl⟩
    rw [← hFe] at hFG ⊢
    rcases dE (j<l.length) with hjl|hjl
    ·have hjI:(j:Int)<(l.length:Int):=by omega
     have hdr:=drop_gt hjl
     have hins:=drpT_snoc (p:=P) (l:=l.take j) (x:=gt l j)
     rw [← take_succ_gt hjl,← hFe] at hins
     have hq:=fx.iv _ s p (hok _ (gt_mem hjl))
     have hPq:P (gt l j)=fkP (.iv s p) (gt l j):=by rw [hP]
     obtain ⟨⟨x,y,z⟩,hm⟩:∃ m,m=gt l j:=⟨_,rfl⟩
     rw [← hm] at hdr hins hq hPq
     simp only [TeV,fkP] at hq hPq
     rw [← hPq] at hq
     obtain ⟨W,hW⟩:∃ W,W=F++G++l.drop j:=⟨_,rfl⟩
     have hWl:W.length=l.length:=by rw [hW];simp;omega
     have hWj:gt W j=(x,y,z):=by rw [hW,hdr];exact gt_app_at (by rw [List.length_append];exact hFG)
     have hFl:F.length<W.length:=by omega
     have hFI:(F.length:Int)<(W.length:Int):=by omega
     have hFI2:(F.length:Int)<(l.length:Int):=by omega
     have hFL2:F.length<l.length:=by omega
     have hg:=trows_gi (l:=W) (i:=j) (by omega)
     have hgE:=trows_gE (l:=W) (i:=j) (by omega)
     rw [hWj] at hg hgE
     simp only [trow,U] at hg hgE
     simp only [U] at hq
     have hgF:=trows_gi hFl
     have hgFE:=trows_gE hFl
     obtain ⟨⟨f1,f2,f3⟩,hf⟩:∃ m,m=gt W F.length:=⟨_,rfl⟩
     rw [← hf] at hgF hgFE
     simp only [trow,U] at hgF hgFE
     have hFb:F.length≤1000000:=by omega
     rw [← hW]
     cases hv:P (x,y,z) with
     | true =>
      rw [hv] at hq
      rw [if_pos hv] at hins
      have zS:=jj hjI<|jj hg<|jj hgE<|jj hWl<|hq
      repeat' (first|(refine aSk fun K hK=>?_)|(refine eM64 ?_)|(refine eC (fun h=>?_) (fun h=>?_)<;>(try simp at h))|(refine hK _ ?_;clear hK)|clear hK)
      all_goals clear zS
      have hWe:F++(G++[(x,y,z)]++l.drop (j+1))=W:=by rw [hW,hdr];simp
      refine ⟨j+1,G++[(x,y,z)],?_,⟨by omega,by rw [hins];simp;omega,by simp⟩,by omega⟩
      simp only [hins,hWe]
      refine le_turn (s1:=?tus11) (m1:=?tum11) [] [0,1,5,6] [0] ?tua11 ?tub11 ?tuc11 ?tud11 ?tue11 ?tuf11 ?tug11
      case tua11=>first|(simp [kpS];done)|(simp [kpS];rfl)
      case tub11=>first|(simp;done)|(simp;rfl)
      case tuc11=>simp
      case tud11=>simp
      case tue11=>simp
      case tuf11=>simp
      case tug11 =>
       simp [swp,vr]
       exact dle
     | false =>
      rw [hv] at hq
      rw [if_neg (by simp [hv])] at hins
      have zS:=jj hjI<|jj hg<|jj hgE<|jj hWl<|jj hq<|jj hgF<|jj hgFE<|jj hFI<|jj hFI2<|jj hFL2<|trows_set
      repeat' (first|(refine aSk fun K hK=>?_)|(refine eM64 ?_)|(refine eC (fun h=>?_) (fun h=>?_)<;>(try simp at h))|(refine hK _ ?_;clear hK)|clear hK)
      all_goals clear zS
      obtain ⟨g,G',rfl⟩:∃ g G',G=g::G':=by
       cases G with
       | nil=>simp at hG1
       | cons g G'=>exact ⟨g,G',rfl⟩
      have hWs:(F++[(x,y,z)])++(G'++[(x,y,z)]++l.drop (j+1))=W.set F.length (x,y,z):=by
       have e:=set_midT F g (x,y,z) (G'++l.drop j)
       have e2:F++g::(G'++l.drop j)=W:=by rw [hW];simp
       rw [e2] at e
       rw [e,hdr];simp
      simp only [List.length_cons] at hFG
      refine ⟨j+1,G'++[(x,y,z)],?_,⟨by omega,by rw [hins];simp;omega,by simp⟩,by omega⟩
      simp only [hins,hWs]
      refine le_turn (s1:=?tus12) (m1:=?tum12) [] [0,1,5,6] [0] ?tua12 ?tub12 ?tuc12 ?tud12 ?tue12 ?tuf12 ?tug12
      case tua12=>first|(simp [kpS];done)|(simp [kpS];rfl)
      case tub12=>first|(simp;done)|(simp;rfl)
      case tuc12=>simp
      case tud12=>simp
      case tue12=>simp
      case tuf12=>simp
      case tug12 =>
       simp [swp,vr]
       exact dle
    ·obtain rfl:j=l.length:=by omega
     rw [List.take_length] at hFe
     have hnil:l.drop l.length=[]:=List.drop_eq_nil_of_le (Nat.le_refl _)
     rw [hnil]
     have zS:=jj tkT<|hFG
     repeat' (first|(refine aSk fun K hK=>?_)|(refine eM64 ?_)|(refine eC (fun h=>?_) (fun h=>?_)<;>(try simp at h))|(refine hK _ ?_;clear hK)|clear hK)
     all_goals clear zS
     refine ⟨by simp,lMa ?_⟩
     simp (disch:=first|omega|assumption|(simp;done)|fail) [if_pos,if_neg,lvI,f210]
     rw [← hFe,← trows_take]
     simp
end
def tlOK (b:Tl):Prop:=b.2.length≤1000000∧∀ x∈b.2,x.2.2<2^64
theorem CfF_at (l:List Te) (x:Te) (h:tesOK l) (hx:teOK x):CfF [.rd 3 (trw l),.fn 167 [.rp [I x.1,I x.2.1,U x.2.2]]]=some (B (l.any (ovB x))) :=
 sFe (ι:={x:List Te×Te // tesOK x.1∧teOK x.2}) (A:=fun x=>[.rd 3 (trw x.1.1),fkA (.ck x.1.2)]) (R:=fun x=>rtO [B (x.1.1.any (ovB x.1.2))]) ⟨(l,x),h,hx⟩ (by
  rintro ⟨⟨k,c⟩,h⟩ e
  simp only [cJ,AV.rd.injEq,trI,fkA_inj,true_and,and_true,Fk.ck.injEq] at e
  obtain ⟨rfl,rfl⟩:=e;rfl)
theorem erE_2 {l:List Te} {i:Nat} (h:plcB (gt l i).1 (gt l i).2.1=false):erE l i=2:=by
 have:efE (gt l i)=2:=by unfold efE;rw [if_pos h]
 unfold erE
 rw [this];rfl
theorem erE_3 {l:List Te} {i:Nat} (h:plcB (gt l i).1 (gt l i).2.1=true) (h2:trB (gt l i).2.2=false∨(hgB (gt l i).2.2=true∧(gt l i).2.1%8≠0)):erE l i=3:=by
 have:efE (gt l i)=3:=by unfold efE;rw [if_neg (by simp [h]),if_pos h2]
 unfold erE
 rw [this];rfl
theorem efE_0 {x:Te} (h:plcB x.1 x.2.1=true) (h2:trB x.2.2=true) (h3:hgB x.2.2=false∨x.2.1%8=0):efE x=0:=by
 unfold efE
 rw [if_neg (by simp [h]),if_neg]
 rintro (k|⟨k1,k2⟩)
 ·rw [h2] at k;simp at k
 ·rcases h3 with h3|h3
  ·rw [h3] at k1;simp at k1
  ·exact k2 h3
theorem erE_7 {l:List Te} {i:Nat} (h:efE (gt l i)=0) (h2:(l.take i).any (ovB (gt l i))=true):erE l i=7:=by
 unfold erE
 rw [if_neg (by simp [h]),if_pos h2]
theorem erE_0 {l:List Te} {i:Nat} (h:efE (gt l i)=0) (h2:(l.take i).any (ovB (gt l i))=false):erE l i=0:=by
 unfold erE
 rw [if_neg (by simp [h]),if_neg (by simp [h2])]
theorem te_ok {x:Te} (h:efE x=0) (h2:x.2.2<2^64):teOK x:=by
 obtain ⟨⟨_,_,h3,h4⟩,_,_⟩:=efE_z h
 exact ⟨h3,h4,h2⟩
theorem pre_ok {l:List Te} {i:Nat} (hl:l.length≤1000000) (hu:∀ x∈l,x.2.2<2^64) (h:∀ j,j<i→erE l j=0):tesOK (l.take i):=by
 refine ⟨by simp;omega,fun x hx=>?_⟩
 obtain ⟨j,hj,rfl⟩:=List.getElem_of_mem hx
 simp only [List.length_take] at hj
 rw [List.getElem_take]
 have h1:=(erE_z (h j (by omega))).1
 rw [gt_eq (by omega)] at h1
 exact te_ok h1 (hu _ (List.getElem_mem _))
theorem tl_ok {b:Tl} (h:tlOK b) (h0:chB b=0):tesOK b.2:=by
 have:=pre_ok h.1 h.2 (i:=b.2.length) (fun j hj=>(chB_z.1 h0).2.2.2 j hj)
 rwa [List.take_length] at this
noncomputable def CtF:List AV→Option AV:=spF (ι:={b:Tl // tlOK b}) (fun x=>[TlV x.1]) fun x=>rtO [I (chB x.1)]
set_option maxHeartbeats 4000000 in
theorem s92 (X:AX) (hX:XOK prog X) (hw:X.W wT) (hpl:∀ s p M k,X.call 164 [I s,I p] M k=some (I (if plcB s p=true then 0 else 2),[]))
  (htr:∀ w:Nat,w<2^64→∀ M k,X.call 165 [U w] M k=some (.tup [B (trB w),B (hgB w)],[])) (hcf:X.call 166=caP CfF):PSd prog 92 CtF:=by
 unfold CtF
 refine psS hX mixed func92 rfl fun ⟨⟨s,l⟩,hl,hu⟩ w0 G=>⟨by show 1≤62;decide,rfl,?_⟩
 show AW ⟨prog,X,62,w0,.pure G⟩ _ _ _
 have hc:=okc hX 62 w0 G
 simp only at hl hu ⊢
 simp only [TlV]
 rcases dE (s<1) with h1|h1
 ·have e:chB (s,l)=1:=by unfold chB;rw [if_pos (.inl h1)]
  rw [e]
  have zS:=h1
  refine dM64 ?_
  repeat (intro K hK)
  clear zS
  refine ⟨by simp,?_⟩
  simp [lvI,f92]
  try exact dt
 ·rcases dE (16<s) with h2|h2
  ·have e:chB (s,l)=1:=by unfold chB;rw [if_pos (.inr h2)]
   rw [e]
   have zS:=jj h1<|h2
   refine dM64 ?_
   repeat (intro K hK)
   clear zS
   refine ⟨by simp,?_⟩
   simp [lvI,f92]
   try exact dt
  ·rcases dE (s<(l.length:Int)) with h3|h3
   ·have e:chB (s,l)=8:=by unfold chB;rw [if_neg (by simp only;omega),if_pos h3]
    rw [e]
    have zS:=jj h1<|jj h2<|h3
    refine dM64 ?_
    repeat (intro K hK)
    clear zS
    refine ⟨by simp,?_⟩
    simp [lvI,f92]
    try exact dt
   ·have e:chB (s,l)=frst (erE l) l.length:=by unfold chB;rw [if_neg (by simp only;omega),if_neg h3]
    rw [e]
    have zS:=jj h1<|jj h2<|h3
    repeat' (first|(refine aSk fun K hK=>?_)|(refine eM64 ?_)|(refine eC (fun h=>?_) (fun h=>?_)<;>(try simp at h))|(refine hK _ ?_;clear hK)|(clear hK;refine hK _ ?_;clear hK))
    all_goals clear zS
    refine aLK (s0:=?lps1) (m0:=?lpm1) (ι:={i:Nat // i≤l.length∧∀ j,j<i→erE l j=0}) [1,23,24] (fun i=>[(25,I i.1)]) (fun _=>[]) (fun i=>l.length - i.1) ⟨0,by omega,by omega⟩ ?lhs1 ?lhm1 ?_ ?_
    case lhs1=>first|(simp [kpS];done)|(simp [kpS];rfl)
    case lhm1=>first|rfl|(simp;done)|(simp;rfl)
    ·exact dle
    ·rintro ⟨i,hi,hinv⟩
     simp only
     rcases dE (i<l.length) with hil|hil
     ·have hilI:(i:Int)<(l.length:Int):=by omega
      have hg:=trows_gi hil
      have hgE:=trows_gE hil
      have hx3:=hu _ (gt_mem hil)
      have hat:erE l i≠0→frst (erE l) l.length=erE l i:=fun h=>frst_at hinv h hil
      have hnx:erE l i=0→∀ j,j<i+1→erE l j=0:=fun h j hj=>by
       rcases Nat.lt_succ_iff_lt_or_eq.1 hj with h5|rfl
       ·exact hinv j h5
       ·exact h
      have e2:=@erE_2 l i
      have e3:=@erE_3 l i
      have e0:=@efE_0 (gt l i)
      have e7:=@erE_7 l i
      have e00:=@erE_0 l i
      have hcfa:=CfF_at (l.take i) (gt l i) (pre_ok hl hu hinv)
      have hto:efE (gt l i)=0→teOK (gt l i):=fun h=>te_ok h hx3
      rw [trows_take] at hcfa
      obtain ⟨v,hv⟩:∃ v,v=(l.take i).any (ovB (gt l i)):=⟨_,rfl⟩
      rw [← hv] at hcfa e7 e00
      obtain ⟨ef,hef⟩:∃ v,v=efE (gt l i):=⟨_,rfl⟩
      rw [← hef] at e0 e7 e00 hto
      obtain ⟨⟨x1,x2,x3⟩,hm⟩:∃ m,m=gt l i:=⟨_,rfl⟩
      rw [← hm] at hg hgE hx3 e2 e3 e0 hcfa hto
      simp only [trow,U] at hg hgE hx3 e2 e3 e0 hcfa
      have hp:=hpl x1 x2
      have ht:=htr x3 hx3
      obtain ⟨a,ha⟩:∃ a,a=trB x3:=⟨_,rfl⟩
      obtain ⟨b,hb⟩:∃ b,b=hgB x3:=⟨_,rfl⟩
      obtain ⟨c,hcc⟩:∃ c,c=plcB x1 x2:=⟨_,rfl⟩
      rw [← hcc] at hp e2 e3 e0
      rw [← ha,← hb] at ht e3 e0
      simp only [U] at ht
      cases c with
      | false =>
       have er:=e2 rfl
       rw [er] at hat
       have hfe:=hat (by decide)
       rw [if_neg (by decide)] at hp
       rw [hfe]
       have zS:=jj hilI<|jj hil<|jj hg<|jj hgE<|hp
       repeat' (first|(refine aSk fun K hK=>?_)|(refine eM64 ?_)|(refine eC (fun h=>?_) (fun h=>?_)<;>(try simp at h))|(refine hK _ ?_;clear hK)|clear hK)
       all_goals clear zS
       refine ⟨by simp,?_⟩
       simp [lvI,f92]
       try exact dt
       try exact hfe
      | true =>
       rw [if_pos rfl] at hp
       have hx2:0≤x2:=by
        unfold plcB at hcc
        have:=hcc.symm
        simp only [decide_eq_true_eq] at this
        exact this.2.2.1
       have htm:x2.tmod 8=x2%8:=Int.tmod_eq_emod_of_nonneg hx2
       cases a with
       | false =>
        have er:=e3 rfl (.inl rfl)
        rw [er] at hat
        have hfe:=hat (by decide)
        rw [hfe]
        have zS:=jj hilI<|jj hil<|jj hg<|jj hgE<|jj hp<|ht
        repeat' (first|(refine aSk fun K hK=>?_)|(refine eM64 ?_)|(refine eC (fun h=>?_) (fun h=>?_)<;>(try simp at h))|(refine hK _ ?_;clear hK)|clear hK)
        all_goals clear zS
        refine ⟨by simp,?_⟩
        simp [lvI,f92]
        try exact dt
        try exact hfe
       | true =>
        rcases dE (b=true∧x2%8≠0) with hb8|hb8
        ·have er:=e3 rfl (.inr hb8)
         rw [er] at hat
         have hfe:=hat (by decide)
         obtain ⟨rfl,hr8⟩:=hb8
         rw [hfe]
         have zS:=jj hilI<|jj hil<|jj hg<|jj hgE<|jj hp<|jj ht<|jj htm<|hr8
         repeat' (first|(refine aSk fun K hK=>?_)|(refine eM64 ?_)|(refine eC (fun h=>?_) (fun h=>?_)<;>(try simp at h))|(refine hK _ ?_;clear hK)|clear hK)
         all_goals clear zS
         refine ⟨by simp,?_⟩
         simp [lvI,f92]
         try exact dt
         try exact hfe
        ·have hb9:b=false∨x2%8=0:=by
          cases b with
          | false=>exact .inl rfl
          | true=>exact .inr (by by_cases k:x2%8=0;exact k;exact absurd ⟨rfl,k⟩ hb8)
         have ez:=e0 rfl rfl hb9
         have hF:=hcfa (hto ez)
         cases v with
         | true =>
          have er:=e7 ez rfl
          rw [er] at hat
          have hfe:=hat (by decide)
          rw [hfe]
          cases b with
          | false =>
           have zS:=jj hilI<|jj hil<|jj hg<|jj hgE<|jj hp<|jj ht<|jj hcf<|hF
           repeat' (first|(refine aSk fun K hK=>?_)|(refine eM64 ?_)|(refine eC (fun h=>?_) (fun h=>?_)<;>(try simp at h))|(refine hK _ ?_;clear hK)|clear hK)
           all_goals clear zS
           refine ⟨by simp,?_⟩
           simp [lvI,f92]
           try exact dt
           try exact hfe
          | true =>
           have hr8:x2%8=0:=by simpa using hb9
           have zS:=jj hilI<|jj hil<|jj hg<|jj hgE<|jj hp<|jj ht<|jj htm<|jj hr8<|jj hcf<|hF
           repeat' (first|(refine aSk fun K hK=>?_)|(refine eM64 ?_)|(refine eC (fun h=>?_) (fun h=>?_)<;>(try simp at h))|(refine hK _ ?_;clear hK)|clear hK)
           all_goals clear zS
           refine ⟨by simp,?_⟩
           simp [lvI,f92]
           try exact dt
           try exact hfe
         | false =>
          have er:=hnx (e00 ez rfl)
          cases b with
          | false =>
           have zS:=jj hilI<|jj hil<|jj hg<|jj hgE<|jj hp<|jj ht<|jj hcf<|hF
           repeat' (first|(refine aSk fun K hK=>?_)|(refine eM64 ?_)|(refine eC (fun h=>?_) (fun h=>?_)<;>(try simp at h))|(refine hK _ ?_;clear hK)|clear hK)
           all_goals clear zS
           refine ⟨i+1,?_,⟨by omega,er⟩,by omega⟩
           exact dle
          | true =>
           have hr8:x2%8=0:=by simpa using hb9
           have zS:=jj hilI<|jj hil<|jj hg<|jj hgE<|jj hp<|jj ht<|jj htm<|jj hr8<|jj hcf<|hF
           repeat' (first|(refine aSk fun K hK=>?_)|(refine eM64 ?_)|(refine eC (fun h=>?_) (fun h=>?_)<;>(try simp at h))|(refine hK _ ?_;clear hK)|clear hK)
           all_goals clear zS
           refine ⟨i+1,?_,⟨by omega,er⟩,by omega⟩
           exact dle
     ·obtain rfl:i=l.length:=by omega
      have hfe:frst (erE l) l.length=0:=frst_z.2 hinv
      rw [hfe]
      repeat' (first|(refine aSk fun K hK=>?_)|(refine eMo ?_)|(refine eC (fun h=>?_) (fun h=>?_)<;>(try simp at h))|(refine hK _ ?_;clear hK)|clear hK)
      refine ⟨by simp,?_⟩
      simp [lvI,f92]
      try exact dt
      try exact hfe
end Go.AM
