/- A part of the proof; no condition. -/
import Derived.Test.YtcfhmdljeeppfaaGreatHPt54
set_option linter.all false
set_option maxHeartbeats 1000000
namespace Go.AM
open Go Go.Proofs
def nil0:AV:=.v (.slice none 0 0)
def frM (fr:List Int):List AO:=[.box [.sl 1 1 1 0 fr.length],.vec 1 1 false (irows fr)]
theorem frM_inj {a b:List Int} (h:frM a=frM b):a=b:=by
 simp only [frM,List.cons.injEq,AO.vec.injEq,true_and,irows_inj,and_true] at h
 exact h.2
noncomputable def clrS:List AV→List AO→Option (AV×List AO):=specG (ι:={x:Nd×List Int // x.1.2.length=8∧x.2.length≤1000}) (fun x=>[.agg (nrow x.1.1),.bp 0 0]) (fun x=>frM x.1.2) (fun x=>retOf [B (decide (x.1.1.1∈x.1.2))]) fun x=>frM x.1.2
theorem clrS_at {n:Nd} {fr:List Int} (h:n.2.length=8) (h2:fr.length≤1000):clrS [.agg (nrow n),.bp 0 0] (frM fr)=some (B (decide (n.1∈fr)),frM fr):=by
 refine specG_eq (ι:={x:Nd×List Int // x.1.2.length=8∧x.2.length≤1000}) (A:=fun x=>[.agg (nrow x.1.1),.bp 0 0]) (M:=fun x=>frM x.1.2) (R:=fun x=>retOf [B (decide (x.1.1.1∈x.1.2))]) (O:=fun x=>frM x.1.2) ⟨(n,fr),h,h2⟩ fun j hA hM=>?_
 obtain ⟨⟨n',fr'⟩,h'⟩:=j
 have:=frM_inj hM
 simp only at this
 subst this
 simp only [List.cons.injEq,AV.agg.injEq,nrow_inj,and_true] at hA
 subst hA
 exact ⟨rfl,rfl⟩
noncomputable def clrS0:List AV→List AO→Option (AV×List AO):=specG (ι:={x:Nd // x.2.length=8}) (fun x=>[.agg (nrow x.1),.bp 0 0]) (fun x=>[.box [nil0]]) (fun x=>retOf [B false]) fun x=>[.box [nil0]]
theorem clrS0_at {n:Nd} (h:n.2.length=8):clrS0 [.agg (nrow n),.bp 0 0] [.box [nil0]]=some (B false,[.box [nil0]]):=by
 refine specG_eq (ι:={x:Nd // x.2.length=8}) (A:=fun x=>[.agg (nrow x.1),.bp 0 0]) (M:=fun x=>[.box [nil0]]) (R:=fun x=>retOf [B false]) (O:=fun x=>[.box [nil0]]) ⟨n,h⟩ fun j hA hM=>⟨rfl,rfl⟩
def OwnI (X:AX):Prop:=(∀ (fr:List Int) (x:Int),fr.length≤1000→∀ (b v:Nat) (f:Bool) (M:Nat→AO) (n:Nat),M b=.vec v 1 f (irows fr)→X.call 142 [.sl b v 1 0 fr.length,I x] M n=some (B (decide (x∈fr)),[]))∧∀ (x:Int) (M:Nat→AO) (n:Nat),X.call 142 [.v (.slice none 0 0),I x] M n=some (B false,[])
theorem s141 (X:AX) (hX:XOK Tryz.prog X) (hw:X.W wT) (hct:OwnI X):GSound Tryz.prog 141 clrS:=by
 unfold clrS
 refine gsound_spec Tryz.func141 rfl X fun ⟨⟨⟨f,ws⟩,fr⟩,h8,hfr⟩ w0 L E=>⟨by show 2≤8;decide,?_⟩
 simp only at h8 hfr
 have hc1:=hct.1 fr f hfr
 have hwl:(wcs ws).length=8:=by simp [h8]
 simp only [frM,nrow]
 obtain ⟨cs,hcs⟩:∃ cs,cs=wcs ws:=⟨_,rfl⟩
 rw [← hcs] at hwl ⊢
 show AW ⟨Tryz.prog,X,8,w0,⟨L,E,2⟩⟩ _ _ _
 have hc:Cx.OK ⟨Tryz.prog,X,8,w0,⟨L,E,2⟩⟩:=⟨hX,mixed⟩
 have zS:=jj hwl<|hc1
 refine dM64 ?_
 repeat (intro K hK)
 clear zS
 refine ⟨by simp,_,by simp [aResults,aResult,Tryz.f141];rfl,?_⟩
 simp only [idx]
 exact dle
theorem s141_0 (X:AX) (hX:XOK Tryz.prog X) (hw:X.W wT) (hct:OwnI X):GSound Tryz.prog 141 clrS0:=by
 unfold clrS0
 refine gsound_spec Tryz.func141 rfl X fun ⟨⟨f,ws⟩,h8⟩ w0 L E=>⟨by show 2≤8;decide,?_⟩
 simp only at h8
 have hc1:=hct.2 f
 have hwl:(wcs ws).length=8:=by simp [h8]
 simp only [nil0,nrow]
 obtain ⟨cs,hcs⟩:∃ cs,cs=wcs ws:=⟨_,rfl⟩
 rw [← hcs] at hwl ⊢
 show AW ⟨Tryz.prog,X,8,w0,⟨L,E,1⟩⟩ _ _ _
 have hc:Cx.OK ⟨Tryz.prog,X,8,w0,⟨L,E,1⟩⟩:=⟨hX,mixed⟩
 have zS:=jj hwl<|hc1
 refine dM64 ?_
 repeat (intro K hK)
 clear zS
 refine ⟨by simp,_,by simp [aResults,aResult,Tryz.f141];rfl,?_⟩
 simp only [idx]
 exact dle
noncomputable def clrB:List AV→List AO→Option (AV×List AO):=orG clrS clrS0
theorem ren_wcs {σ:Nat→Nat} {v:Nat→Nat→Nat}:∀ {ws:List Nat},renL σ v (wcs ws)=wcs ws
 | []=>rfl
 | w::ws=>by
  show AV.ren σ v (U w)::renL σ v (wcs ws)=_
  rw [ren_wcs (ws:=ws)];rfl
theorem nms_wcs:∀ {ws:List Nat},nmsL (wcs ws)=[]
 | []=>rfl
 | w::ws=>by
  show AV.nms (U w)++nmsL (wcs ws)=[]
  rw [nms_wcs (ws:=ws)];rfl
theorem cur_wcs {M:Nat→AO}:∀ {ws:List Nat},curBL M (wcs ws)=true
 | []=>rfl
 | w::ws=>by
  show (AV.curB M (U w)&&curBL M (wcs ws))=true
  rw [cur_wcs (ws:=ws)];rfl
theorem callCr {a b:Nat} (hab:a≠b) {n:Nd} {fr:List Int} (h:n.2.length=8) (h2:fr.length≤1000) (M:Nat→AO) (nid:Nat) (h0:M a=.box [.sl b 1 1 0 fr.length]) (h1:M b=.vec 1 1 false (irows fr)) :
  callG clrB [.agg (nrow n),.bp a 0] M nid=some (B (decide (n.1∈fr)),[(a,.box [.sl b 1 1 0 fr.length]),(b,.vec 1 1 false (irows fr))]):=by
 have hF:clrB _ _=_:=orG_1 (clrS_at h h2)
 simp only [frM] at hF
 have hba:b≠a:=fun e=>hab e.symm
 have hr:∀ σ v,renL σ v (nrow n)=nrow n:=fun σ v=>by
  show AV.ren σ v (I n.1)::renL σ v (wcs n.2)=_
  rw [ren_wcs];rfl
 have hn:nmsL (nrow n)=[]:=by
  show AV.nms (I n.1)++nmsL (wcs n.2)=[]
  rw [nms_wcs];rfl
 have hcu:curBL M (nrow n)=true:=by
  show (AV.curB M (I n.1)&&curBL M (wcs n.2))=true
  rw [cur_wcs];rfl
 unfold callG
 have hg:gat M 64 (nmsL [.agg (nrow n),.bp a 0]) []=[a,b]:=by
  simp [gat,nmsL,AV.nms,AO.nms,h0,h1,hab,hba,hn]
 simp only [hg]
 rw [if_pos ?cg]
 case cg=>simp [CallG,nmsL,AV.nms,AO.nms,Led,curBL,AV.curB,AO.curB,verOf,notDead,h0,h1,hab,hba,hn,hcu]
 simp [renL,AV.ren,AO.ren,posN,canO,nmsL,h0,h1,hF,RetG,getL,AV.nms,AO.nms,updN,nmN,shN,verOf,rng,Led,hab,hba,hr,hn,gat]
theorem clrB_0 {n:Nd} (h:n.2.length=8):clrB [.agg (nrow n),.bp 0 0] [.box [nil0]]=some (B false,[.box [nil0]]):=orG_2 (specG_none fun i _ h2=>by simp [frM,nil0] at h2) (clrS0_at h)
theorem callCr0 {a:Nat} {n:Nd} (h:n.2.length=8) (M:Nat→AO) (nid:Nat) (h0:M a=.box [nil0]) :
  callG clrB [.agg (nrow n),.bp a 0] M nid=some (B false,[(a,.box [nil0])]):=by
 have hF:=clrB_0 h
 unfold nil0 at h0 hF ⊢
 have hr:∀ σ v,renL σ v (nrow n)=nrow n:=fun σ v=>by
  show AV.ren σ v (I n.1)::renL σ v (wcs n.2)=_
  rw [ren_wcs];rfl
 have hn:nmsL (nrow n)=[]:=by
  show AV.nms (I n.1)++nmsL (wcs n.2)=[]
  rw [nms_wcs];rfl
 have hcu:curBL M (nrow n)=true:=by
  show (AV.curB M (I n.1)&&curBL M (wcs n.2))=true
  rw [cur_wcs];rfl
 unfold callG
 have hg:gat M 64 (nmsL [.agg (nrow n),.bp a 0]) []=[a]:=by
  simp [gat,nmsL,AV.nms,AO.nms,h0,hn]
 simp only [hg]
 rw [if_pos ?cg]
 case cg=>simp [CallG,nmsL,AV.nms,AO.nms,Led,curBL,AV.curB,AO.curB,verOf,notDead,h0,hn,hcu]
 simp [renL,AV.ren,AO.ren,posN,canO,nmsL,h0,hF,RetG,getL,AV.nms,AO.nms,updN,nmN,shN,verOf,rng,Led,hr,hn,gat]
end Go.AM
set_option maxHeartbeats 4000000
namespace Go.AM
open Go Go.Proofs
def inF (fr:List Int) (n:Nd):Bool:=decide (n.1∈fr)
def ixM (ns:NdL) (fr:List Int):List AO:=[.vec 1 9 false (nrows ns),.box [.sl 2 1 1 0 fr.length],.vec 1 1 false (irows fr)]
theorem ixM_inj {a b:NdL} {x y:List Int} (h:ixM a x=ixM b y):a=b∧x=y:=by
 simp only [ixM,List.cons.injEq,AO.vec.injEq,true_and,irows_inj,nrows_inj,and_true] at h
 exact ⟨h.1,h.2.2⟩
def ixM0 (ns:NdL):List AO:=[.vec 1 9 false (nrows ns),.box [nil0]]
theorem ixM0_inj {a b:NdL} (h:ixM0 a=ixM0 b):a=b:=by
 simp only [ixM0,List.cons.injEq,AO.vec.injEq,true_and,nrows_inj,and_true] at h
 exact h
abbrev IxD:=NdL×List Int
abbrev ixOK (x:IxD):Prop:=(∀ n∈x.1,ndOK n)∧x.1.length≤1000000∧x.2.length≤1000
noncomputable def ixS:List AV→List AO→Option (AV×List AO):=specG (ι:={x:IxD // ixOK x}) (fun x=>[.sl 0 1 9 0 x.1.1.length,.fn 141 [.bp 1 0]]) (fun x=>ixM x.1.1 x.1.2) (fun x=>retOf [I (fstG (inF x.1.2) x.1.1)]) fun x=>ixM x.1.1 x.1.2
theorem ixS_at {ns:NdL} {fr:List Int} (h:ixOK (ns,fr)):ixS [.sl 0 1 9 0 ns.length,.fn 141 [.bp 1 0]] (ixM ns fr)=some (I (fstG (inF fr) ns),ixM ns fr):=by
 refine specG_eq (ι:={x:IxD // ixOK x}) (A:=fun x=>[.sl 0 1 9 0 x.1.1.length,.fn 141 [.bp 1 0]]) (M:=fun x=>ixM x.1.1 x.1.2) (R:=fun x=>retOf [I (fstG (inF x.1.2) x.1.1)]) (O:=fun x=>ixM x.1.1 x.1.2) ⟨(ns,fr),h⟩ fun j hA hM=>?_
 obtain ⟨⟨n',fr'⟩,h'⟩:=j
 obtain ⟨rfl,rfl⟩:=ixM_inj hM
 exact ⟨rfl,rfl⟩
noncomputable def ixS0:List AV→List AO→Option (AV×List AO):=specG (ι:={x:NdL // ixOK (x,[])}) (fun x=>[.sl 0 1 9 0 x.1.length,.fn 141 [.bp 1 0]]) (fun x=>ixM0 x.1) (fun x=>retOf [I (fstG (inF []) x.1)]) fun x=>ixM0 x.1
theorem ixS0_at {ns:NdL} (h:ixOK (ns,[])):ixS0 [.sl 0 1 9 0 ns.length,.fn 141 [.bp 1 0]] (ixM0 ns)=some (I (fstG (inF []) ns),ixM0 ns):=by
 refine specG_eq (ι:={x:NdL // ixOK (x,[])}) (A:=fun x=>[.sl 0 1 9 0 x.1.length,.fn 141 [.bp 1 0]]) (M:=fun x=>ixM0 x.1) (R:=fun x=>retOf [I (fstG (inF []) x.1)]) (O:=fun x=>ixM0 x.1) ⟨ns,h⟩ fun j hA hM=>?_
 obtain ⟨n',h'⟩:=j
 have:=ixM0_inj hM
 simp only at this
 subst this
 exact ⟨rfl,rfl⟩
theorem s193 (X:AX) (hX:XOK Tryz.prog X) (hw:X.W wT) (hcl:X.call 141=callG clrB):GSound Tryz.prog 193 ixS:=by
 unfold ixS
 refine gsound_spec Tryz.func193 rfl X fun ⟨⟨ns,fr⟩,hok,hl,hfr⟩ w0 L E=>⟨by show 2≤19;decide,?_⟩
 simp only at hok hl hfr
 skip
 have hcr:=fun (n:Nd) (h:n.2.length=8) M nid=>@callCr 1 2 (by decide) n fr h hfr M nid
 rw [← hcl] at hcr
 simp only [ixM,nil0] at hcr ⊢
 show AW ⟨Tryz.prog,X,19,w0,⟨L,E,3⟩⟩ _ _ _
 have hc:Cx.OK ⟨Tryz.prog,X,19,w0,⟨L,E,3⟩⟩:=⟨hX,mixed⟩
 repeat' (first|(apply aw_seq_k;intro K hK)|(refine eM64o ?_)|(refine aw_cond (b:=_) (by exact rfl) (fun h=>?_) (fun h=>?_)<;>(try simp at h))|(refine eB ?_)|(refine hK _ ?_;clear hK)|(clear hK;refine hK _ ?_;clear hK)|(clear hK;clear hK;refine hK _ ?_;clear hK)|(clear hK;clear hK;clear hK;refine hK _ ?_;clear hK))
 refine aw_loopK (s0:=?lps1) (m0:=?lpm1) (ι:={i:Nat // i≤ns.length∧∀ j,j<i→inF fr (gn ns j)=false}) [0,1,7] (fun s=>[(8,I s.1)]) (fun _=>[]) (fun s=>ns.length - s.1) ⟨0,by omega,by omega⟩ ?lhs1 ?lhm1 ?_ ?_
 case lhs1=>first|(simp [keepS];done)|(simp [keepS];rfl)
 case lhm1=>first|rfl|(simp;done)|(simp;rfl)
 ·exact dle
 ·rintro ⟨i,hi,hinv⟩
  simp only
  rcases Decidable.em (i<ns.length) with hil|hil
  ·have hilI:(i:Int)<(ns.length:Int):=by omega
   have hg:=nrows_gi hil
   have hgE:=nrows_gE hil
   have h8:=(hok _ (gn_mem hil)).1
   have hcr':=hcr _ h8
   have hat:=fstG_at (p:=inF fr) hil
   rw [← gn_eq hil] at hat
   have hinv2:inF fr (gn ns i)=false→∀ j,j<i+1→inF fr (gn ns j)=false:=fun h j hj=>by
    rcases Nat.lt_succ_iff_lt_or_eq.1 hj with h5|rfl
    ·exact hinv j h5
    ·exact h
   obtain ⟨⟨g,ws⟩,hm⟩:∃ m,m=gn ns i:=⟨_,rfl⟩
   rw [← hm] at hg hgE h8 hcr' hat hinv2
   simp only [nrow] at hg hgE h8 hcr' hat hinv2
   have hwl:(wcs ws).length=8:=by simp [h8]
   obtain ⟨cs,hcs⟩:∃ cs,cs=wcs ws:=⟨_,rfl⟩
   rw [← hcs] at hg hgE hwl hcr'
   have htk:List.take 8 cs=cs:=List.take_of_length_le (by omega)
   clear hcs hm
   rcases Decidable.em (g∈fr) with hgf|hgf
   ·rw [decide_eq_true hgf] at hcr'
    have e:=hat (by simp [inF,hgf]) fun j hj=>by have:=hinv j hj;rw [gn_eq (by omega)] at this;exact this
    have zS:=jj hilI<|jj hil<|jj hg<|jj hgE<|jj hwl<|jj htk<|hcr'
    repeat' (first|(apply aw_seq_k;intro K hK)|(refine eM64 ?_)|(refine aw_cond (b:=_) (by exact rfl) (fun h=>?_) (fun h=>?_)<;>(try simp at h))|(refine eB ?_)|(refine hK _ ?_;clear hK)|(clear hK;refine hK _ ?_;clear hK)|(clear hK;clear hK;refine hK _ ?_;clear hK)|(clear hK;clear hK;clear hK;refine hK _ ?_;clear hK))
    all_goals clear zS
    refine ⟨by simp,_,by simp [aResults,aResult,Tryz.f193];rfl,?_⟩
    simp only [idx,e]
    exact dle
   ·rw [decide_eq_false hgf] at hcr'
    have e:=hinv2 (by simp [inF,hgf])
    have zS:=jj hilI<|jj hil<|jj hg<|jj hgE<|jj hwl<|jj htk<|hcr'
    repeat' (first|(apply aw_seq_k;intro K hK)|(refine eM64 ?_)|(refine aw_cond (b:=_) (by exact rfl) (fun h=>?_) (fun h=>?_)<;>(try simp at h))|(refine eB ?_)|(refine hK _ ?_;clear hK)|(clear hK;refine hK _ ?_;clear hK)|(clear hK;clear hK;refine hK _ ?_;clear hK)|(clear hK;clear hK;clear hK;refine hK _ ?_;clear hK))
    all_goals clear zS
    refine ⟨i+1,?_,⟨by omega,e⟩,by omega⟩
    exact dle
  ·obtain rfl:i=ns.length:=by omega
   have e:fstG (inF fr) ns=-1:=fstG_not fun j hj=>by have:=hinv j hj;rw [gn_eq hj] at this;exact this
   repeat' (first|(apply aw_seq_k;intro K hK)|(refine eM64o ?_)|(refine aw_cond (b:=_) (by exact rfl) (fun h=>?_) (fun h=>?_)<;>(try simp at h))|(refine eB ?_)|(refine hK _ ?_;clear hK)|(clear hK;refine hK _ ?_;clear hK)|(clear hK;clear hK;refine hK _ ?_;clear hK)|(clear hK;clear hK;clear hK;refine hK _ ?_;clear hK))
   refine ⟨by simp,_,by simp [aResults,aResult,Tryz.f193];rfl,?_⟩
   simp only [idx,e]
   exact dle
theorem s193_0 (X:AX) (hX:XOK Tryz.prog X) (hw:X.W wT) (hcl:X.call 141=callG clrB):GSound Tryz.prog 193 ixS0:=by
 unfold ixS0
 refine gsound_spec Tryz.func193 rfl X fun ⟨ns,hok,hl,hfr⟩ w0 L E=>⟨by show 2≤19;decide,?_⟩
 simp only at hok hl hfr
 skip
 have hcr:=fun (n:Nd) (h:n.2.length=8) M nid=>@callCr0 1 n h M nid
 rw [← hcl] at hcr
 simp only [ixM0,nil0] at hcr ⊢
 show AW ⟨Tryz.prog,X,19,w0,⟨L,E,2⟩⟩ _ _ _
 have hc:Cx.OK ⟨Tryz.prog,X,19,w0,⟨L,E,2⟩⟩:=⟨hX,mixed⟩
 repeat' (first|(apply aw_seq_k;intro K hK)|(refine eM64o ?_)|(refine aw_cond (b:=_) (by exact rfl) (fun h=>?_) (fun h=>?_)<;>(try simp at h))|(refine eB ?_)|(refine hK _ ?_;clear hK)|(clear hK;refine hK _ ?_;clear hK)|(clear hK;clear hK;refine hK _ ?_;clear hK)|(clear hK;clear hK;clear hK;refine hK _ ?_;clear hK))
 refine aw_loopK (s0:=?lps2) (m0:=?lpm2) (ι:={i:Nat // i≤ns.length∧∀ j,j<i→inF ([]:List Int) (gn ns j)=false}) [0,1,7] (fun s=>[(8,I s.1)]) (fun _=>[]) (fun s=>ns.length - s.1) ⟨0,by omega,by omega⟩ ?lhs2 ?lhm2 ?_ ?_
 case lhs2=>first|(simp [keepS];done)|(simp [keepS];rfl)
 case lhm2=>first|rfl|(simp;done)|(simp;rfl)
 ·exact dle
 ·rintro ⟨i,hi,hinv⟩
  simp only
  rcases Decidable.em (i<ns.length) with hil|hil
  ·have hilI:(i:Int)<(ns.length:Int):=by omega
   have hg:=nrows_gi hil
   have hgE:=nrows_gE hil
   have h8:=(hok _ (gn_mem hil)).1
   have hcr':=hcr _ h8
   have hat:=fstG_at (p:=inF ([]:List Int)) hil
   rw [← gn_eq hil] at hat
   have hinv2:inF ([]:List Int) (gn ns i)=false→∀ j,j<i+1→inF ([]:List Int) (gn ns j)=false:=fun h j hj=>by
    rcases Nat.lt_succ_iff_lt_or_eq.1 hj with h5|rfl
    ·exact hinv j h5
    ·exact h
   obtain ⟨⟨g,ws⟩,hm⟩:∃ m,m=gn ns i:=⟨_,rfl⟩
   rw [← hm] at hg hgE h8 hcr' hat hinv2
   simp only [nrow] at hg hgE h8 hcr' hat hinv2
   have hwl:(wcs ws).length=8:=by simp [h8]
   obtain ⟨cs,hcs⟩:∃ cs,cs=wcs ws:=⟨_,rfl⟩
   rw [← hcs] at hg hgE hwl hcr'
   have htk:List.take 8 cs=cs:=List.take_of_length_le (by omega)
   clear hcs hm
   have e:=hinv2 (by simp [inF])
   have zS:=jj hilI<|jj hil<|jj hg<|jj hgE<|jj hwl<|jj htk<|hcr'
   repeat' (first|(apply aw_seq_k;intro K hK)|(refine eM64 ?_)|(refine aw_cond (b:=_) (by exact rfl) (fun h=>?_) (fun h=>?_)<;>(try simp at h))|(refine eB ?_)|(refine hK _ ?_;clear hK)|(clear hK;refine hK _ ?_;clear hK)|(clear hK;clear hK;refine hK _ ?_;clear hK)|(clear hK;clear hK;clear hK;refine hK _ ?_;clear hK))
   all_goals clear zS
   refine ⟨i+1,?_,⟨by omega,e⟩,by omega⟩
   exact dle
  ·obtain rfl:i=ns.length:=by omega
   have e:fstG (inF ([]:List Int)) ns=-1:=fstG_not fun j hj=>by have:=hinv j hj;rw [gn_eq hj] at this;exact this
   repeat' (first|(apply aw_seq_k;intro K hK)|(refine eM64o ?_)|(refine aw_cond (b:=_) (by exact rfl) (fun h=>?_) (fun h=>?_)<;>(try simp at h))|(refine eB ?_)|(refine hK _ ?_;clear hK)|(clear hK;refine hK _ ?_;clear hK)|(clear hK;clear hK;refine hK _ ?_;clear hK)|(clear hK;clear hK;clear hK;refine hK _ ?_;clear hK))
   refine ⟨by simp,_,by simp [aResults,aResult,Tryz.f193];rfl,?_⟩
   simp only [idx,e]
   exact dle
end Go.AM
set_option maxHeartbeats 4000000
namespace Go.AM
open Go Go.Proofs
def kpF (fr:List Int) (ns:NdL):NdL:=ns.filter fun n=>!inF fr n
theorem kpF_len {fr:List Int} {ns:NdL}:(kpF fr ns).length≤ns.length:=List.length_filter_le _ _
theorem kpF_s {fr:List Int} {ns:NdL} {j:Nat} (h:j<ns.length):kpF fr (ns.take (j+1))=kpF fr (ns.take j)++(if inF fr (gn ns j)=true then [] else [gn ns j]):=by
 rw [take_succ_gn h]
 unfold kpF
 rw [List.filter_append]
 cases hb:inF fr (gn ns j)<;>simp [hb]
def dfR (fr:List Int) (ns:NdL):NdL:=kpF fr ns++List.replicate (ns.length - (kpF fr ns).length) (0,zs8)
noncomputable def ixB:List AV→List AO→Option (AV×List AO):=orG ixS ixS0
theorem ixB_0 {ns:NdL} (h:ixOK (ns,[])):ixB [.sl 0 1 9 0 ns.length,.fn 141 [.bp 1 0]] (ixM0 ns)=some (I (fstG (inF []) ns),ixM0 ns):=orG_2 (specG_none fun i _ h2=>by simp [ixM,ixM0] at h2) (ixS0_at h)
theorem callIx {ns:NdL} {fr:List Int} (h:ixOK (ns,fr)) (M:Nat→AO) (nid:Nat) (h0:M 0=.vec 1 9 false (nrows ns)) (h1:M 1=.box [.sl 2 1 1 0 fr.length]) (h2:M 2=.vec 1 1 false (irows fr)) :
  callG ixB [.sl 0 1 9 0 ns.length,.fn 141 [.bp 1 0]] M nid=some (I (fstG (inF fr) ns),[(0,.vec 1 9 false (nrows ns)),(1,.box [.sl 2 1 1 0 fr.length]),(2,.vec 1 1 false (irows fr))]):=by
 have hF:ixB _ _=_:=orG_1 (ixS_at h)
 simp only [ixM] at hF
 unfold callG
 have hg:gat M 64 (nmsL [.sl 0 1 9 0 ns.length,.fn 141 [.bp 1 0]]) []=[0,1,2]:=by
  simp [gat,nmsL,AV.nms,AO.nms,h0,h1,h2]
 simp only [hg]
 rw [if_pos ?cg]
 case cg=>simp [CallG,nmsL,AV.nms,AO.nms,Led,curBL,AV.curB,AO.curB,verOf,notDead,h0,h1,h2]
 simp [renL,AV.ren,AO.ren,posN,canO,nmsL,h0,h1,h2,hF,RetG,getL,AV.nms,AO.nms,updN,nmN,shN,verOf,rng,Led]
theorem callIx0 {ns:NdL} (h:ixOK (ns,[])) (M:Nat→AO) (nid:Nat) (h0:M 0=.vec 1 9 false (nrows ns)) (h1:M 1=.box [.v (.slice none 0 0)]) :
  callG ixB [.sl 0 1 9 0 ns.length,.fn 141 [.bp 1 0]] M nid=some (I (fstG (inF []) ns),[(0,.vec 1 9 false (nrows ns)),(1,.box [.v (.slice none 0 0)])]):=by
 have hF:=ixB_0 h
 simp only [ixM0,nil0] at hF
 unfold callG
 have hg:gat M 64 (nmsL [.sl 0 1 9 0 ns.length,.fn 141 [.bp 1 0]]) []=[0,1]:=by
  simp [gat,nmsL,AV.nms,AO.nms,h0,h1]
 simp only [hg]
 rw [if_pos ?cg]
 case cg=>simp [CallG,nmsL,AV.nms,AO.nms,Led,curBL,AV.curB,AO.curB,verOf,notDead,h0,h1]
 simp [renL,AV.ren,AO.ren,posN,canO,nmsL,h0,h1,hF,RetG,getL,AV.nms,AO.nms,updN,nmN,shN,verOf,rng,Led]
noncomputable def dfS:List AV→List AO→Option (AV×List AO):=specG (ι:={x:IxD // ixOK x}) (fun x=>[.sl 0 1 9 0 x.1.1.length,.fn 141 [.bp 1 0]]) (fun x=>ixM x.1.1 x.1.2) (fun x=>retOf [.sl 0 1 9 0 (kpF x.1.2 x.1.1).length]) fun x=>ixM (dfR x.1.2 x.1.1) x.1.2
theorem dfS_at {ns:NdL} {fr:List Int} (h:ixOK (ns,fr)):dfS [.sl 0 1 9 0 ns.length,.fn 141 [.bp 1 0]] (ixM ns fr)=some (.sl 0 1 9 0 (kpF fr ns).length,ixM (dfR fr ns) fr):=by
 refine specG_eq (ι:={x:IxD // ixOK x}) (A:=fun x=>[.sl 0 1 9 0 x.1.1.length,.fn 141 [.bp 1 0]]) (M:=fun x=>ixM x.1.1 x.1.2) (R:=fun x=>retOf [.sl 0 1 9 0 (kpF x.1.2 x.1.1).length]) (O:=fun x=>ixM (dfR x.1.2 x.1.1) x.1.2) ⟨(ns,fr),h⟩ fun j hA hM=>?_
 obtain ⟨⟨n',fr'⟩,h'⟩:=j
 obtain ⟨rfl,rfl⟩:=ixM_inj hM
 exact ⟨rfl,rfl⟩
noncomputable def dfS0:List AV→List AO→Option (AV×List AO):=specG (ι:={x:NdL // ixOK (x,[])}) (fun x=>[.sl 0 1 9 0 x.1.length,.fn 141 [.bp 1 0]]) (fun x=>ixM0 x.1) (fun x=>retOf [.sl 0 1 9 0 x.1.length]) fun x=>ixM0 x.1
theorem dfS0_at {ns:NdL} (h:ixOK (ns,[])):dfS0 [.sl 0 1 9 0 ns.length,.fn 141 [.bp 1 0]] (ixM0 ns)=some (.sl 0 1 9 0 ns.length,ixM0 ns):=by
 refine specG_eq (ι:={x:NdL // ixOK (x,[])}) (A:=fun x=>[.sl 0 1 9 0 x.1.length,.fn 141 [.bp 1 0]]) (M:=fun x=>ixM0 x.1) (R:=fun x=>retOf [.sl 0 1 9 0 x.1.length]) (O:=fun x=>ixM0 x.1) ⟨ns,h⟩ fun j hA hM=>?_
 obtain ⟨n',h'⟩:=j
 have:=ixM0_inj hM
 simp only at this
 subst this
 exact ⟨rfl,rfl⟩
theorem nrows_set {S:NdL} {c:Nat} {n:Nd}:(nrows S).set c (nrow n)=nrows (S.set c n):=by unfold nrows;rw [List.map_set]
theorem s140 (X:AX) (hX:XOK Tryz.prog X) (hw:X.W wT) (hcl:X.call 141=callG clrB) (hix:X.call 193=callG ixB):GSound Tryz.prog 140 dfS:=by
 unfold dfS
 refine gsound_spec Tryz.func140 rfl X fun ⟨⟨ns,fr⟩,hok,hl,hfr⟩ w0 L E=>⟨by show 2≤42;decide,?_⟩
 simp only at hok hl hfr
 have hcr:=fun (n:Nd) (h:n.2.length=8) M nid=>@callCr 1 2 (by decide) n fr h hfr M nid
 have hci:=fun M nid=>@callIx ns fr ⟨hok,hl,hfr⟩ M nid
 rw [← hcl] at hcr
 rw [← hix] at hci
 simp only [ixM]
 show AW ⟨Tryz.prog,X,42,w0,⟨L,E,3⟩⟩ _ _ _
 have hc:Cx.OK ⟨Tryz.prog,X,42,w0,⟨L,E,3⟩⟩:=⟨hX,mixed⟩
 rcases Decidable.em (ns.findIdx (inF fr)<ns.length) with hex|hex
 ·obtain ⟨i,hi,h1,h2⟩:∃ j,j<ns.length∧inF fr (gn ns j)=true∧∀ k,k<j→inF fr (gn ns k)=false:=by
   refine ⟨ns.findIdx (inF fr),hex,?_,fun k hk=>?_⟩
   ·rw [gn_eq hex];exact List.findIdx_getElem (w:=hex)
   ·rw [gn_eq (by omega)];simpa using List.not_of_lt_findIdx hk
  have e:fstG (inF fr) ns=i:=fstG_at hi (by rw [← gn_eq hi];exact h1) fun j hj=>by rw [← gn_eq (by omega)];exact h2 j hj
  rw [e] at hci
  have hiI:¬ (i:Int)=-1:=by omega
  have hkt:kpF fr (ns.take i)=ns.take i:=by
   unfold kpF
   refine List.filter_eq_self.2 fun x hx=>?_
   obtain ⟨j,hj,rfl⟩:=List.getElem_of_mem hx
   have hj2:j<i:=by simp at hj;omega
   have:=h2 j hj2
   rw [gn_eq (by omega)] at this
   rw [List.getElem_take,this];rfl
  have hk1:kpF fr (ns.take (i+1))=ns.take i:=by rw [kpF_s hi,h1,hkt];simp
  have zS:=jj hci<|hiI
  repeat' (first|(apply aw_seq_k;intro K hK)|(refine eM64 ?_)|(refine aw_cond (b:=_) (by exact rfl) (fun h=>?_) (fun h=>?_)<;>(try simp at h))|(refine eB ?_)|(refine hK _ ?_;clear hK)|(clear hK;refine hK _ ?_;clear hK)|(clear hK;clear hK;refine hK _ ?_;clear hK)|(clear hK;clear hK;clear hK;refine hK _ ?_;clear hK))
  all_goals clear zS
  refine aw_loopK (s0:=?lps1) (m0:=?lpm1) (ι:={s:Nat×NdL // s.1≤ns.length∧s.2.length=ns.length∧s.2.take (kpF fr (ns.take s.1)).length=kpF fr (ns.take s.1)∧(∀ k,s.1≤k→k<ns.length→gn s.2 k=gn ns k)∧(kpF fr (ns.take s.1)).length<s.1∧∀ x∈s.2,x.2.length=8}) [0,1] (fun s=>[(6,I s.1.1),(5,I (kpF fr (ns.take s.1.1)).length)]) (fun s=>[(0,.vec 1 9 false (nrows s.1.2))]) (fun s=>ns.length - s.1.1) ⟨(i+1,ns),by simp only;omega,rfl,by simp only [hk1,List.length_take];rw [Nat.min_eq_left (by omega)],fun k _ _=>rfl,by simp only [hk1,List.length_take];omega,fun x hx=>(hok x hx).1⟩ ?lhs1 ?lhm1 ?_ ?_
  case lhs1=>first|(simp [keepS];done)|(simp [keepS];rfl)
  case lhm1=>first|rfl|(simp;done)|(simp;rfl)
  ·simp only [hk1,List.length_take,Nat.min_eq_left (Nat.le_of_lt hi)]
   exact dle
  ·rintro ⟨⟨j,S⟩,hj,hSl,hSt,hSd,hcj,hS8⟩
   simp only at hj hSl hSt hSd hcj hS8 ⊢
   obtain ⟨c,hcc⟩:∃ c,c=(kpF fr (ns.take j)).length:=⟨_,rfl⟩
   rw [← hcc] at hSt hcj ⊢
   rcases Decidable.em (j<ns.length) with hjl|hjl
   ·have hjS:j<S.length:=by omega
    have hjI:(j:Int)<(ns.length:Int):=by omega
    have hcS:c<S.length:=by omega
    have hcI:(c:Int)<(ns.length:Int):=by omega
    have hcl2:c<ns.length:=by omega
    have hg:=nrows_gi hjS
    have hgE:=nrows_gE hjS
    rw [hSd j (Nat.le_refl _) hjl] at hg hgE
    have hks:=@kpF_s fr ns j hjl
    have h8:=(hok _ (gn_mem hjl)).1
    have hcr':=hcr _ h8
    have hse:=@nrows_set S c (gn ns j)
    have hSd2:∀ k,j+1≤k→k<ns.length→gn (S.set c (gn ns j)) k=gn ns k:=fun k h3 h4=>by
     rw [gn_eq (by simp;omega),List.getElem_set_ne (by omega),← gn_eq (by omega)]
     exact hSd k (by omega) h4
    have hSt2:(S.set c (gn ns j)).take (c+1)=kpF fr (ns.take j)++[gn ns j]:=by
     rw [List.take_add_one,List.getElem?_set_self (by omega),List.take_set_of_le (Nat.le_refl _),hSt];rfl
    obtain ⟨⟨g,ws⟩,hm⟩:∃ m,m=gn ns j:=⟨_,rfl⟩
    rw [← hm] at hg hgE h8 hcr' hks hse hSd2 hSt2
    simp only [nrow] at hg hgE h8 hcr' hse
    have hwl:(wcs ws).length=8:=by simp [h8]
    obtain ⟨T,hT⟩:∃ T,T=S.set c (g,ws):=⟨_,rfl⟩
    have hT8:∀ x∈T,x.2.length=8:=fun x hx=>by
     rw [hT] at hx
     rcases List.mem_or_eq_of_mem_set hx with h5|h5
     ·exact hS8 x h5
     ·rw [h5];exact h8
    have hgc:=nrows_gi hcS
    have hgcE:=nrows_gE hcS
    have hc8:=hS8 _ (gn_mem hcS)
    obtain ⟨⟨g2,ws2⟩,hm2⟩:∃ m,m=gn S c:=⟨_,rfl⟩
    rw [← hm2] at hgc hgcE hc8
    simp only at hgc hgcE hc8
    have hwl2:(wcs ws2).length=8:=by simp [hc8]
    obtain ⟨cs2,hcs2⟩:∃ cs,cs=wcs ws2:=⟨_,rfl⟩
    rw [← hcs2] at hgc hgcE hwl2
    have hdr2:List.drop 8 cs2=[]:=List.drop_of_length_le (by omega)
    clear hcs2 hm2
    have hTl:T.length=ns.length:=by rw [hT];simpa using hSl
    rw [← hT] at hse hSd2 hSt2
    have hcx:∀ x,x∈wcs ws→AV.isClosed x=true:=fun a ha=>by
     obtain ⟨w,_,rfl⟩:=List.mem_map.1 ha
     rfl
    obtain ⟨cs,hcs⟩:∃ cs,cs=wcs ws:=⟨_,rfl⟩
    rw [← hcs] at hg hgE hwl hcr' hse hcx
    simp only [AV.isClosed] at hcx
    have htk:List.take 8 cs=cs:=List.take_of_length_le (by omega)
    clear hcs hm
    rcases Decidable.em (g∈fr) with hgf|hgf
    ·rw [decide_eq_true hgf] at hcr'
     rw [if_pos (by simp [inF,hgf]),List.append_nil] at hks
     have zS:=jj hjI<|jj hjl<|jj hjS<|jj hg<|jj hgE<|jj hwl<|jj htk<|hcr'
     repeat' (first|(apply aw_seq_k;intro K hK)|(refine eM64 ?_)|(refine aw_cond (b:=_) (by exact rfl) (fun h=>?_) (fun h=>?_)<;>(try simp at h))|(refine eB ?_)|(refine hK _ ?_;clear hK)|(clear hK;refine hK _ ?_;clear hK)|(clear hK;clear hK;refine hK _ ?_;clear hK)|(clear hK;clear hK;clear hK;refine hK _ ?_;clear hK))
     all_goals clear zS
     refine ⟨j+1,S,?_,⟨by omega,hSl,by rw [hks,← hcc];exact hSt,fun k h3 h4=>hSd k (by omega) h4,by rw [hks,← hcc];omega,fun a b h=>hS8 (a,b) h⟩,by omega⟩
     simp only [hks,← hcc]
     exact dle
    ·rw [decide_eq_false hgf] at hcr'
     rw [if_neg (by simp [inF,hgf])] at hks
     have hkl:(kpF fr (ns.take (j+1))).length=c+1:=by rw [hks,List.length_append,← hcc];rfl
     have zS:=jj hjI<|jj hjl<|jj hjS<|jj hg<|jj hgE<|jj hwl<|jj htk<|jj hcr'<|jj hcI<|jj hcl2<|jj hcS<|jj hgc<|jj hgcE<|jj hwl2<|jj hdr2<|jj hse<|hcx
     repeat' (first|(apply aw_seq_k;intro K hK)|(refine eM64 ?_)|(refine aw_cond (b:=_) (by exact rfl) (fun h=>?_) (fun h=>?_)<;>(try simp at h))|(refine eB ?_)|(refine hK _ ?_;clear hK)|(clear hK;refine hK _ ?_;clear hK)|(clear hK;clear hK;refine hK _ ?_;clear hK)|(clear hK;clear hK;clear hK;refine hK _ ?_;clear hK))
     all_goals clear zS
     refine ⟨j+1,T,?_,⟨by omega,hTl,by rw [hkl,hks];exact hSt2,hSd2,by omega,fun a b h=>hT8 (a,b) h⟩,by omega⟩
     simp only [hkl]
     exact dle
   ·obtain rfl:j=ns.length:=by omega
    rw [List.take_length] at hcc hSt
    repeat' (first|(apply aw_seq_k;intro K hK)|(refine eM64o ?_)|(refine aw_cond (b:=_) (by exact rfl) (fun h=>?_) (fun h=>?_)<;>(try simp at h))|(refine eB ?_)|(refine hK _ ?_;clear hK)|(clear hK;refine hK _ ?_;clear hK)|(clear hK;clear hK;refine hK _ ?_;clear hK)|(clear hK;clear hK;clear hK;refine hK _ ?_;clear hK))
    refine ⟨by simp,_,by simp [aResults,aResult,Tryz.f140];rfl,?_⟩
    have e1:List.take c (nrows S)++(List.replicate (ns.length - c) [AV.v (Value.int IntKind.i64 0),AV.v (Value.int IntKind.u64 0),AV.v (Value.int IntKind.u64 0),AV.v (Value.int IntKind.u64 0),AV.v (Value.int IntKind.u64 0),AV.v (Value.int IntKind.u64 0),AV.v (Value.int IntKind.u64 0),AV.v (Value.int IntKind.u64 0),AV.v (Value.int IntKind.u64 0)]++List.drop (c+(ns.length - c)) (nrows S))=nrows (dfR fr ns):=by
     rw [nrows_replicate,nrows_take,hSt,List.drop_of_length_le (by simp;omega),List.append_nil,nrows_append]
     unfold dfR
     rw [hcc]
    simp only [idx,e1,← hcc]
    exact dle
 ·have e:fstG (inF fr) ns=-1:=fstG_not fun j hj=>by
   have h3:=List.findIdx_le_length (xs:=ns) (p:=inF fr)
   simpa using List.not_of_lt_findIdx (p:=inF fr) (xs:=ns) (i:=j) (by omega)
  have hkp:kpF fr ns=ns:=by
   unfold kpF
   refine List.filter_eq_self.2 fun x hx=>?_
   obtain ⟨j,hj,rfl⟩:=List.getElem_of_mem hx
   have h3:=List.findIdx_le_length (xs:=ns) (p:=inF fr)
   have:=List.not_of_lt_findIdx (p:=inF fr) (xs:=ns) (i:=j) (by omega)
   simpa using this
  have hdf:dfR fr ns=ns:=by unfold dfR;rw [hkp];simp
  rw [e] at hci
  have zS:=hci
  refine dM64 ?_
  repeat (intro K hK)
  clear zS
  refine ⟨by simp,_,by simp [aResults,aResult,Tryz.f140];rfl,?_⟩
  simp only [idx,hkp,hdf]
  exact dle
theorem s140_0 (X:AX) (hX:XOK Tryz.prog X) (hw:X.W wT) (hix:X.call 193=callG ixB):GSound Tryz.prog 140 dfS0:=by
 unfold dfS0
 refine gsound_spec Tryz.func140 rfl X fun ⟨ns,hok,hl,hfr⟩ w0 L E=>⟨by show 2≤42;decide,?_⟩
 simp only at hok hl hfr
 have hci:=fun M nid=>@callIx0 ns ⟨hok,hl,hfr⟩ M nid
 rw [← hix] at hci
 simp only [ixM0,nil0]
 show AW ⟨Tryz.prog,X,42,w0,⟨L,E,2⟩⟩ _ _ _
 have hc:Cx.OK ⟨Tryz.prog,X,42,w0,⟨L,E,2⟩⟩:=⟨hX,mixed⟩
 have e:fstG (inF []) ns=-1:=fstG_not fun j hj=>by simp [inF]
 rw [e] at hci
 have zS:=hci
 refine dM64 ?_
 repeat (intro K hK)
 clear zS
 refine ⟨by simp,_,by simp [aResults,aResult,Tryz.f140];rfl,?_⟩
 simp only [idx]
 exact dle
noncomputable def dfB:List AV→List AO→Option (AV×List AO):=orG dfS dfS0
end Go.AM
namespace Go.AM
open Go Go.Proofs
theorem dfB_0 {ns:NdL} (h:ixOK (ns,[])):dfB [.sl 0 1 9 0 ns.length,.fn 141 [.bp 1 0]] (ixM0 ns)=some (.sl 0 1 9 0 ns.length,ixM0 ns):=orG_2 (specG_none fun i _ h2=>by simp [ixM,ixM0] at h2) (dfS0_at h)
theorem dfR_len {fr:List Int} {ns:NdL}:(dfR fr ns).length=ns.length:=by
 have:=@kpF_len fr ns
 simp [dfR];omega
set_option maxHeartbeats 1000000 in
theorem callDf {a b c:Nat} (hab:a≠b) (hac:a≠c) (hbc:b≠c) {ns:NdL} {fr:List Int} (h:ixOK (ns,fr)) {L:Nat} (hL:L=ns.length) {v v3:Nat} (M:Nat→AO) (nid:Nat) (h0:M a=.vec (v+1) 9 false (nrows ns)) (h1:M b=.box [.sl c (v3+1) 1 0 fr.length]) (h2:M c=.vec (v3+1) 1 false (irows fr)) :
  callG dfB [.sl a (v+1) 9 0 L,.fn 141 [.bp b 0]] M nid=some (.sl a (v+1) 9 0 (kpF fr ns).length,[(a,.vec (v+1) 9 false (nrows (dfR fr ns))),(b,.box [.sl c (v3+1) 1 0 fr.length]),(c,.vec (v3+1) 1 false (irows fr))]):=by
 subst hL
 have hF:dfB _ _=_:=orG_1 (dfS_at h)
 simp only [ixM] at hF
 have hba:b≠a:=fun e=>hab e.symm
 have hca:c≠a:=fun e=>hac e.symm
 have hcb:c≠b:=fun e=>hbc e.symm
 unfold callG
 have hg:gat M 64 (nmsL [.sl a (v+1) 9 0 ns.length,.fn 141 [.bp b 0]]) []=[a,b,c]:=by
  simp [gat,nmsL,AV.nms,AO.nms,h0,h1,h2,hab,hac,hbc,hba,hca,hcb]
 simp only [hg]
 rw [if_pos ?cg]
 case cg=>simp [CallG,nmsL,AV.nms,AO.nms,Led,curBL,AV.curB,AO.curB,verOf,notDead,h0,h1,h2,hab,hac,hbc,hba,hca,hcb]
 have e1:1+v=v+1:=by omega
 have e2:1+v3=v3+1:=by omega
 simp [renL,AV.ren,AO.ren,posN,canO,nmsL,h0,h1,h2,hF,RetG,getL,AV.nms,AO.nms,updN,nmN,shN,verOf,rng,Led,hab,hac,hbc,hba,hca,hcb,e1,e2]
theorem callDf0 {a b:Nat} (hab:a≠b) {ns:NdL} (h:ixOK (ns,[])) {L:Nat} (hL:L=ns.length) {v:Nat} (M:Nat→AO) (nid:Nat) (h0:M a=.vec (v+1) 9 false (nrows ns)) (h1:M b=.box [.v (.slice none 0 0)]) :
  callG dfB [.sl a (v+1) 9 0 L,.fn 141 [.bp b 0]] M nid=some (.sl a (v+1) 9 0 L,[(a,.vec (v+1) 9 false (nrows ns)),(b,.box [.v (.slice none 0 0)])]):=by
 subst hL
 have hF:=dfB_0 h
 simp only [ixM0,nil0] at hF
 have hba:b≠a:=fun e=>hab e.symm
 unfold callG
 have hg:gat M 64 (nmsL [.sl a (v+1) 9 0 ns.length,.fn 141 [.bp b 0]]) []=[a,b]:=by
  simp [gat,nmsL,AV.nms,AO.nms,h0,h1,hab,hba]
 simp only [hg]
 rw [if_pos ?cg]
 case cg=>simp [CallG,nmsL,AV.nms,AO.nms,Led,curBL,AV.curB,AO.curB,verOf,notDead,h0,h1,hab,hba]
 have e1:1+v=v+1:=by omega
 simp [renL,AV.ren,AO.ren,posN,canO,nmsL,h0,h1,hF,RetG,getL,AV.nms,AO.nms,updN,nmN,shN,verOf,rng,Led,hab,hba,e1]
def clrL (p:Nat) (ns:NdL):List Stp→NdL×List Int
 | []=>(ns,[])
 | [s]=>(setN ns s.1 (dgt p s.2.1) 0,[])
 | s::q=>if (gn (setN ns s.1 (dgt p s.2.1) 0) s.1).2=zs8 then ((clrL p (setN ns s.1 (dgt p s.2.1) 0) q).1,(gn ns s.1).1::(clrL p (setN ns s.1 (dgt p s.2.1) 0) q).2) else (setN ns s.1 (dgt p s.2.1) 0,[])
def clrF (t:Tb) (p:Nat):List Int:=if (lsT t p).2.1=1 then [(gp t.2.2 (lowD t.2.2 ((p/8:Nat):Int))).2] else []
def clrD (t:Tb) (p:Nat):List Dp:=if (lsT t p).2.1=1 then delL t.2.2 ((p/8:Nat):Int) else t.2.2
def clrA (t:Tb) (p:Nat):List Int:=clrF t p++(clrL p t.2.1 (ptL t p).reverse).2
noncomputable def clrP (t:Tb) (p:Int):Tb×Nat×List Int×Int :=
 if ckd t p 512≠0 then (zT,0,[],ckd t p 512)
 else if (lsT t p.toNat).2.2=0 then (zT,0,[],6)
 else ((t.1,kpF (clrA t p.toNat) (clrL p.toNat t.2.1 (ptL t p.toNat).reverse).1,clrD t p.toNat),(lsT t p.toNat).2.2,clrA t p.toNat,0)
theorem path_0 {r:Int} {ns:NdL} {ds:List Dp} (h:Pv (r,ns,ds)) {p:Nat} (hp:p<512) (hl:(lsT (r,ns,ds) p).2.1=0):∃ n2 w2 n1 w1,n2<ns.length∧n1<ns.length∧ptL (r,ns,ds) p=[(n2,2,w2),(n1,1,w1),lsT (r,ns,ds) p]:=by
 have hr:=fnd_lt h.root
 unfold lsT ptL at *
 simp only [lst,pth] at hl ⊢
 cases h2:kid WA ns (wd ns (rtN (r,ns,ds)) (dgt p 2)) with
 | none=>rw [h2] at hl;simp at hl
 | some n1 =>
  rw [h2] at hl
  simp only at hl ⊢
  cases h1:kid WA ns (wd ns n1 (dgt p 1)) with
  | none=>rw [h1] at hl;simp at hl
  | some n0 =>
   obtain ⟨g,_,hg⟩:=kid_some.1 h2
   exact ⟨_,_,n1,_,hr,fnd_lt hg,rfl⟩
theorem path_1 {r:Int} {ns:NdL} {ds:List Dp} (h:Pv (r,ns,ds)) {p:Nat} (hp:p<512) (hl:(lsT (r,ns,ds) p).2.1=1):∃ n2 w2,n2<ns.length∧ptL (r,ns,ds) p=[(n2,2,w2),lsT (r,ns,ds) p]:=by
 have hr:=fnd_lt h.root
 unfold lsT ptL at *
 simp only [lst,pth] at hl ⊢
 cases h2:kid WA ns (wd ns (rtN (r,ns,ds)) (dgt p 2)) with
 | none=>rw [h2] at hl;simp at hl
 | some n1 =>
  rw [h2] at hl
  simp only at hl ⊢
  cases h1:kid WA ns (wd ns n1 (dgt p 1)) with
  | some n0=>rw [h1] at hl;simp at hl
  | none=>exact ⟨_,_,hr,rfl⟩
end Go.AM
namespace Go.AM
open Go Go.Proofs
def z8:List Value:=[.int .u64 0,.int .u64 0,.int .u64 0,.int .u64 0,.int .u64 0,.int .u64 0,.int .u64 0,.int .u64 0]
def z8A:List AV:=[.v (.int .u64 0),.v (.int .u64 0),.v (.int .u64 0),.v (.int .u64 0),.v (.int .u64 0),.v (.int .u64 0),.v (.int .u64 0),.v (.int .u64 0)]
theorem path_2 {r:Int} {ns:NdL} {ds:List Dp} (h:Pv (r,ns,ds)) {p:Nat} (hp:p<512) (hl:(lsT (r,ns,ds) p).2.1=2):ptL (r,ns,ds) p=[lsT (r,ns,ds) p]:=by
 unfold lsT ptL at *
 simp only [lst,pth] at hl ⊢
 cases h2:kid WA ns (wd ns (rtN (r,ns,ds)) (dgt p 2)) with
 | none=>rfl
 | some n1 =>
  rw [h2] at hl
  simp only at hl
  cases h1:kid WA ns (wd ns n1 (dgt p 1)) with
  | none=>rw [h1] at hl;simp at hl
  | some n0=>rw [h1] at hl;simp at hl
theorem ent_level {r:Int} {ns:NdL} {ds:List Dp} (hv:Vt (r,ns,ds)) {p:Nat} (hp:p<512) (h0:(lsT (r,ns,ds) p).2.2≠0):(lsT (r,ns,ds) p).2.1≠2∧((lsT (r,ns,ds) p).2.1=1→lowD ds ((p/8:Nat):Int)<ds.length):=by
 have hpv:=hv.pv
 obtain ⟨f,l,w,hw⟩:∃ f l w,wlk (Mof ns) r p=(f,l,w):=⟨_,_,_,rfl⟩
 have h1:=(hpv.walk hp).2.2
 simp only at h1
 rw [hw] at h1
 rw [h1] at h0 ⊢
 simp only at h0 ⊢
 obtain ⟨a1,a2,a3,a4,a5,a6⟩:=wlk_at hpv.vm hp hw
 have hk:(decR w).1.1≠0:=fun h=>h0 ((kind0 a6).1 h)
 have h4:(decR w).1.1≠4:=decR_tab.1 a5
 have a7:=a6
 unfold okWb at a7
 simp only [Bool.and_eq_true,decide_eq_true_eq] at a7
 obtain ⟨_,a7⟩:=a7
 unfold suitB at a7
 rw [if_neg hk,if_neg h4] at a7
 refine ⟨fun e=>?_,fun e=>?_⟩
 ·subst e;simp at a7
 ·subst e
  by_cases hk1:(decR w).1.1=1
  ·rw [if_pos hk1] at a7
   simp at a7
   refine (lowD_key (ds:=ds) hv.num.dasc ?_).1
   have hd:=hv.dep
   simp only at hd
   rw [hd]
   refine mem_hugM.2 ⟨p/8,by omega,rfl,hugB_iff.2 ⟨f,?_,?_⟩⟩
   ·simp only at a3
    have:p/8^(1+1)=p/8/8:=by simp;omega
    rw [this] at a3
    exact a3
   ·simp only at a4
    rw [dgt1] at a4
    rw [← a4]
    unfold hugW
    rw [hk1,a7];rfl
  ·rw [if_neg hk1] at a7
   simp at a7
structure Rnd (S:NdL) (a dg:Nat) (fr:Int) (cs cs':List AV) (b:Bool):Prop where
 g:(nrows S)[a]?=some (I fr::cs)
 gE:∀ h',(nrows S)[a]'(h')=I fr::cs
 l:cs.length=8
 st:(nrows S).set a (I fr::cs.set dg (.v (.int .u64 0)))=nrows (setN S a dg 0)
 g':(nrows (setN S a dg 0))[a]?=some (I fr::cs')
 gE':∀ h',(nrows (setN S a dg 0))[a]'(h')=I fr::cs'
 l':cs'.length=8
 eq:eqL cs' z8A=some b
 sk:sameK z8 cs'=true
 s1:(I fr::cs).set (1+dg) (.v (.int .u64 0))=I fr::cs.set dg (.v (.int .u64 0))
theorem rnd {S:NdL} (hS:∀ x∈S,ndOK x) {a dg:Nat} (ha:a<S.length) (hd:dg<8):∃ cs cs',Rnd S a dg (gn S a).1 cs cs' (decide ((gn (setN S a dg 0) a).2=zs8)):=by
 have h8:=(hS _ (gn_mem ha)).1
 have hg:gn (setN S a dg 0) a=((gn S a).1,(gn S a).2.set dg 0):=by
  rw [gn_eq (by rw [setN_len];exact ha)]
  unfold setN
  rw [List.getElem_set_self];rfl
 have ha':a<(setN S a dg 0).length:=by rw [setN_len];exact ha
 have hn:=@nrows_setN S a dg 0 ha
 have g':=nrows_gi ha'
 have gE':=nrows_gE ha'
 rw [hg] at g' gE' ⊢
 refine ⟨wcs (gn S a).2,wcs ((gn S a).2.set dg 0),nrows_gi ha,nrows_gE ha,by simp [h8],hn,g',gE',by simp [h8],?_,?_,?_⟩
 ·show eqL _ (wcs zs8)=_
  exact eqL_wcs (by simp [h8,zs8])
 ·exact sameK_wcs (n:=8) (by simp [h8])
 ·rw [Nat.add_comm];rfl
theorem kpF_nil {S:NdL}:kpF [] S=S:=by unfold kpF;exact List.filter_eq_self.2 fun x _=>by simp [inF]
theorem setN_ndok {S:NdL} (hS:∀ x∈S,ndOK x) {a dg:Nat} (ha:a<S.length):∀ x∈setN S a dg 0,ndOK x:=setN_ok hS (by omega) ha
set_option maxHeartbeats 16000000 in
theorem s55 (X:AX) (hX:XOK Tryz.prog X) (hw:X.W wT) (he:X.eqs 148=true) (hck:∀ t:Tb,tbOK t→∀ (n lim:Int) M k,X.call 109 [TbV t,I n,I lim] M k=some (I (ckd t n lim),[]))
  (hpa:∀ (t:Tb) (p:Nat),ptO t p→∀ M n,X.call 137 [TbV t,I p] M n=some (.sl n 1 3 0 (ptL t p).length,[(n,.vec 1 3 false (srows (ptL t p)))]))
  (hdg:∀ (p l:Nat),p<512→l≤2→∀ M n,X.call 139 [I p,I l] M n=some (I (dgt p l),[]))
  (hcl:∀ t:Tb,tbOK t→∀ M n,X.call 128 [TbV t] M n=some (TbC t n,[(n,.vec 1 9 false (nrows t.2.1)),(n+1,.vec 1 2 false (prows t.2.2))]))
  (hwd:X.call 138=callG wdS) (hdf:X.call 140=callG dfB) :
  PSound Tryz.prog 55 (specF (ι:={x:Tb×Int // tbOK x.1∧x.1.2.1.length≤999000}) (fun x=>[TbV x.1.1,I x.1.2]) fun x=>retOf [TbO (clrP x.1.1 x.1.2).1,U (clrP x.1.1 x.1.2).2.1,.ow 1 (irows (clrP x.1.1 x.1.2).2.2.1),I (clrP x.1.1 x.1.2).2.2.2]):=by
 refine psound_spec hX mixed Tryz.func55 rfl fun ⟨⟨⟨r,ns,ds⟩,pI⟩,ht,hl9⟩ w0 G=>⟨by show 2≤96;decide,rfl,?_⟩
 show AW ⟨Tryz.prog,X,96,w0,.pure G⟩ _ _ _
 have hc:Cx.OK ⟨Tryz.prog,X,96,w0,.pure G⟩:=⟨hX,mixed⟩
 simp only at hl9 ht ⊢
 have hck':=hck _ ht pI 512
 have hl1:ns.length≤1000000:=ht.2.1
 have hl2:ds.length≤1000000:=ht.2.2
 rcases Decidable.em (ckd (r,ns,ds) pI 512≠0) with hk|hk
 ·have e:clrP (r,ns,ds) pI=(zT,0,[],ckd (r,ns,ds) pI 512):=by unfold clrP;rw [if_pos hk]
  rw [e]
  obtain ⟨c,hc0⟩:∃ c,c=ckd (r,ns,ds) pI 512:=⟨_,rfl⟩
  rw [← hc0] at hck' hk ⊢
  simp only [TbV,TbO,zT,U] at hck' ⊢
  have zS:=jj hck'<|hk
  refine dM64 ?_
  repeat (intro K hK)
  clear zS
  refine ⟨by simp,?_⟩
  simp [leaves_iff,Tryz.f55,nrows,prows,irows]
  try exact dt
 ·obtain ⟨hpv,hp0,hp1⟩:=ckd_pt ht hk
  have hvt:=ckd_vt ht hk
  obtain ⟨p,rfl⟩:=Int.eq_ofNat_of_zero_le hp0
  have hp:p<512:=by omega
  have hz:ckd (r,ns,ds) p 512=0:=by omega
  rw [hz] at hck'
  have hpa':=hpa _ _ (hpv.pto ht hp)
  have hcl':=hcl _ ht
  have eS:clrP (r,ns,ds) p=if (lsT (r,ns,ds) p).2.2=0 then (zT,0,[],6) else ((r,kpF (clrA (r,ns,ds) p) (clrL p ns (ptL (r,ns,ds) p).reverse).1,clrD (r,ns,ds) p),(lsT (r,ns,ds) p).2.2,clrA (r,ns,ds) p,0):=by
   unfold clrP
   rw [if_neg hk,Int.toNat_natCast]
  rw [eS]
  have hdg2:=hdg p 2 hp (by omega)
  have hdg1:=hdg p 1 hp (by omega)
  have hdg0:=hdg p 0 hp (by omega)
  have hd2:=dgt_lt p 2
  have hd1:=dgt_lt p 1
  have hd0:=dgt_lt p 0
  have hlw:=lsT_lt hpv hp
  rw [show ((2:Nat):Int)=2 from rfl] at hdg2
  rw [show ((1:Nat):Int)=1 from rfl] at hdg1
  rw [show ((0:Nat):Int)=0 from rfl] at hdg0
  have hd2I:((dgt p 2:Nat):Int)<8:=by omega
  have hd1I:((dgt p 1:Nat):Int)<8:=by omega
  have hd0I:((dgt p 0:Nat):Int)<8:=by omega
  have hdv:(p:Int).tdiv 8=((p/8:Nat):Int):=by rw [Int.tdiv_eq_ediv_of_nonneg (by omega)];omega
  rcases (by omega:(lsT (r,ns,ds) p).2.1=0∨(lsT (r,ns,ds) p).2.1=1∨(lsT (r,ns,ds) p).2.1=2) with hlev|hlev|hlev
  ·obtain ⟨n2,w2,n1,w1,hn2,hn1,hpl⟩:=path_0 hpv hp hlev
   have hA:clrA (r,ns,ds) p=(clrL p ns (ptL (r,ns,ds) p).reverse).2:=by unfold clrA clrF;rw [if_neg (by rw [hlev];decide)];rfl
   have hD:clrD (r,ns,ds) p=ds:=by unfold clrD;rw [if_neg (by rw [hlev];decide)]
   rw [hA,hD]
   rw [hpl] at hpa' ⊢
   obtain ⟨⟨n0,l0,w⟩,hS⟩:∃ S,S=lsT (r,ns,ds) p:=⟨_,rfl⟩
   rw [← hS] at hlev hlw hpa' ⊢
   simp only at hlev hlw
   subst hlev
   clear hS hA hD eS hpl
   simp only [TbV,TbO,TbC,srows,srow,List.map_cons,List.map_nil,U,List.reverse_cons,List.reverse_nil,List.nil_append,List.cons_append,List.length_cons,List.length_nil,Nat.zero_add] at hck' hpa' hcl' ⊢
   rcases Decidable.em (w=0) with hw0|hw0
   ·rw [if_pos hw0]
    subst hw0
    simp only [zT]
    have zS:=jj hck'<|hpa'
    refine dM64 ?_
    repeat (intro K hK)
    clear zS
    all_goals refine ⟨by simp,?_⟩
    all_goals simp [leaves_iff,Tryz.f55,nrows,prows,irows]
    all_goals try exact dt
   ·rw [if_neg hw0]
    have hw0I:¬ (w:Int)=0:=by omega
    have hn0:n0<ns.length:=hlw.1
    have hn0I:(n0:Int)<(ns.length:Int):=by omega
    have hn1I:(n1:Int)<(ns.length:Int):=by omega
    have hn2I:(n2:Int)<(ns.length:Int):=by omega
    obtain ⟨ca,ca',Ra⟩:=rnd (S:=ns) ht.1 (a:=n0) hn0 hd0
    have qRa:=Ra.eq
    have kRa:=Ra.sk
    simp only [z8,z8A] at qRa kRa
    have tkRa:List.take 8 ca'=ca':=List.take_of_length_le (by have:=Ra.l';omega)
    have cA:clrL p ns [(n0,0,w),(n1,1,w1),(n2,2,w2)]=if (gn (setN ns n0 (dgt p 0) 0) n0).2=zs8 then ((clrL p (setN ns n0 (dgt p 0) 0) [(n1,1,w1),(n2,2,w2)]).1,(gn ns n0).1::(clrL p (setN ns n0 (dgt p 0) 0) [(n1,1,w1),(n2,2,w2)]).2) else (setN ns n0 (dgt p 0) 0,[]):=rfl
    have g0:(gn ns n0).1=(gn ns n0).1:=rfl
    obtain ⟨S1,hS1⟩:∃ S,S=setN ns n0 (dgt p 0) 0:=⟨_,rfl⟩
    have hS1o:∀ x∈S1,ndOK x:=by rw [hS1];exact setN_ndok ht.1 hn0
    have hS1l:S1.length=ns.length:=by rw [hS1,setN_len]
    have Ra1:=Ra.st
    have Ra2:=Ra.g'
    have Ra3:=Ra.gE'
    rw [← hS1] at cA qRa Ra1 Ra2 Ra3
    have hS1n:∀ n,n<ns.length→n<S1.length:=fun n h=>by omega
    have hn1S:n1<S1.length:=by omega
    obtain ⟨cb,cb',Rb⟩:=rnd (S:=S1) hS1o (a:=n1) hn1S hd1
    have qRb:=Rb.eq
    have kRb:=Rb.sk
    simp only [z8,z8A] at qRb kRb
    have tkRb:List.take 8 cb'=cb':=List.take_of_length_le (by have:=Rb.l';omega)
    have cB:clrL p S1 [(n1,1,w1),(n2,2,w2)]=if (gn (setN S1 n1 (dgt p 1) 0) n1).2=zs8 then ((clrL p (setN S1 n1 (dgt p 1) 0) [(n2,2,w2)]).1,(gn S1 n1).1::(clrL p (setN S1 n1 (dgt p 1) 0) [(n2,2,w2)]).2) else (setN S1 n1 (dgt p 1) 0,[]):=rfl
    obtain ⟨S2,hS2⟩:∃ S,S=setN S1 n1 (dgt p 1) 0:=⟨_,rfl⟩
    have hS2o:∀ x∈S2,ndOK x:=by rw [hS2];exact setN_ndok hS1o hn1S
    have hS2l:S2.length=ns.length:=by rw [hS2,setN_len];exact hS1l
    have Rb1:=Rb.st
    have Rb2:=Rb.g'
    have Rb3:=Rb.gE'
    rw [← hS2] at cB qRb Rb1 Rb2 Rb3
    have hn2S:n2<S2.length:=by omega
    obtain ⟨cc,cc',Rc⟩:=rnd (S:=S2) hS2o (a:=n2) hn2S hd2
    have qRc:=Rc.eq
    have kRc:=Rc.sk
    simp only [z8,z8A] at qRc kRc
    have tkRc:List.take 8 cc'=cc':=List.take_of_length_le (by have:=Rc.l';omega)
    have cC:clrL p S2 [(n2,2,w2)]=(setN S2 n2 (dgt p 2) 0,[]):=rfl
    obtain ⟨S3,hS3⟩:∃ S,S=setN S2 n2 (dgt p 2) 0:=⟨_,rfl⟩
    have hS3o:∀ x∈S3,ndOK x:=by rw [hS3];exact setN_ndok hS2o hn2S
    have hS3l:S3.length=ns.length:=by rw [hS3,setN_len];exact hS2l
    have Rc1:=Rc.st
    have Rc2:=Rc.g'
    have Rc3:=Rc.gE'
    rw [← hS3] at cC qRc Rc1 Rc2 Rc3
    clear hS1 hS2 hS3
    obtain ⟨f0,hf0⟩:∃ f,f=(gn ns n0).1:=⟨_,rfl⟩
    obtain ⟨f1,hf1⟩:∃ f,f=(gn S1 n1).1:=⟨_,rfl⟩
    rw [← hf0] at cA Ra
    rw [← hf1] at cB Rb
    rw [← hf0] at Ra2 Ra3 Ra1
    rw [← hf1] at Rb2 Rb3 Rb1
    rcases Decidable.em ((gn S1 n0).2=zs8) with hza|hza
    ·rw [decide_eq_true hza] at qRa
     rw [if_pos hza] at cA
     rcases Decidable.em ((gn S2 n1).2=zs8) with hzb|hzb
     ·rw [decide_eq_true hzb] at qRb
      rw [if_pos hzb,cC] at cB
      rw [cB] at cA
      rw [cA]
      have hdf':=fun M n=>@callDf 432 480 1200 (by decide) (by decide) (by decide) S3 [f0,f1] ⟨hS3o,by show S3.length≤_;omega,by simp⟩ ns.length hS3l.symm 0 1 M n
      rw [← hdf] at hdf'
      simp only [Nat.zero_add,irows,List.map_cons,List.map_nil,List.length_cons,List.length_nil,Nat.reduceAdd] at hdf'
      have zS:=jj hck'<|jj hpa'<|jj hcl'<|jj hw0<|jj hw0I<|jj hdg2<|jj hdg1<|jj hdg0<|jj hd2<|jj hd1<|jj hd0<|jj hd2I<|jj hd1I<|jj hd0I<|jj he<|jj eqLs<|sameKs
      repeat' (first|(apply aw_seq_k;intro K hK)|(refine eF64 ?_)|(refine aw_cond (b:=_) (by exact rfl) (fun h=>?_) (fun h=>?_)<;>(try simp at h))|(refine eB ?_)|(refine hK _ ?_;clear hK)|(clear hK;refine hK _ ?_;clear hK)|(clear hK;clear hK;refine hK _ ?_;clear hK)|(clear hK;clear hK;clear hK;refine hK _ ?_;clear hK))
      all_goals clear zS
      refine aw_rounds 3 (aw_round ?_)
      have zS:=jj hck'<|jj hpa'<|jj hcl'<|jj hw0<|jj hw0I<|jj hdg2<|jj hdg1<|jj hdg0<|jj hd2<|jj hd1<|jj hd0<|jj hd2I<|jj hd1I<|jj hd0I<|jj he<|jj eqLs<|jj sameKs<|jj hn0<|jj hn1<|jj hn2<|jj hn0I<|jj hn1I<|jj hn2I<|jj hn1S<|jj hn2S<|jj Ra.g<|jj Ra.gE<|jj Ra.l<|jj Ra1<|jj Ra2<|jj Ra3<|jj Ra.l'<|jj Ra.s1<|jj qRa<|jj kRa<|jj tkRa<|jj Rb.g<|jj Rb.gE<|jj Rb.l<|jj Rb1<|jj Rb2<|jj Rb3<|jj Rb.l'<|jj Rb.s1<|jj qRb<|jj kRb<|jj tkRb<|jj Rc.g<|jj Rc.gE<|jj Rc.l<|jj Rc1<|jj Rc2<|jj Rc3<|jj Rc.l'<|jj Rc.s1<|jj tkRc<|hdf'
      repeat' (first|(apply aw_seq_k;intro K hK)|(refine eF64 ?_)|(refine aw_cond (b:=_) (by exact rfl) (fun h=>?_) (fun h=>?_)<;>(try simp at h))|(refine eB ?_)|(refine hK _ ?_;clear hK)|(clear hK;refine hK _ ?_;clear hK)|(clear hK;clear hK;refine hK _ ?_;clear hK)|(clear hK;clear hK;clear hK;refine hK _ ?_;clear hK))
      all_goals clear zS
      have hkl:=@kpF_len [f0,f1] S3
      have tkR:List.take (kpF [f0,f1] S3).length (nrows (dfR [f0,f1] S3))=nrows (kpF [f0,f1] S3):=by
       rw [nrows_take];unfold dfR;rw [List.take_left]
      have hkd:(kpF [f0,f1] S3).length≤(dfR [f0,f1] S3).length:=by rw [dfR_len];exact hkl
      have tkD:List.take ds.length (prows ds)=prows ds:=List.take_of_length_le (by simp)
      refine ⟨by simp,?_⟩
      simp [leaves_iff,Tryz.f55,tkR,hkd,tkD,irows]
      try exact dt
     ·rw [decide_eq_false hzb] at qRb
      rw [if_neg hzb] at cB
      rw [cB] at cA
      rw [cA]
      have hdf':=fun M n=>@callDf 432 480 1200 (by decide) (by decide) (by decide) S2 [f0] ⟨hS2o,by show S2.length≤_;omega,by simp⟩ ns.length hS2l.symm 0 0 M n
      rw [← hdf] at hdf'
      simp only [Nat.zero_add,irows,List.map_cons,List.map_nil,List.length_cons,List.length_nil,Nat.reduceAdd] at hdf'
      have zS:=jj hck'<|jj hpa'<|jj hcl'<|jj hw0<|jj hw0I<|jj hdg2<|jj hdg1<|jj hdg0<|jj hd2<|jj hd1<|jj hd0<|jj hd2I<|jj hd1I<|jj hd0I<|jj he<|jj eqLs<|sameKs
      repeat' (first|(apply aw_seq_k;intro K hK)|(refine eF64 ?_)|(refine aw_cond (b:=_) (by exact rfl) (fun h=>?_) (fun h=>?_)<;>(try simp at h))|(refine eB ?_)|(refine hK _ ?_;clear hK)|(clear hK;refine hK _ ?_;clear hK)|(clear hK;clear hK;refine hK _ ?_;clear hK)|(clear hK;clear hK;clear hK;refine hK _ ?_;clear hK))
      all_goals clear zS
      refine aw_rounds 2 (aw_round ?_)
      have zS:=jj hck'<|jj hpa'<|jj hcl'<|jj hw0<|jj hw0I<|jj hdg2<|jj hdg1<|jj hdg0<|jj hd2<|jj hd1<|jj hd0<|jj hd2I<|jj hd1I<|jj hd0I<|jj he<|jj eqLs<|jj sameKs<|jj hn0<|jj hn1<|jj hn2<|jj hn0I<|jj hn1I<|jj hn2I<|jj hn1S<|jj hn2S<|jj Ra.g<|jj Ra.gE<|jj Ra.l<|jj Ra1<|jj Ra2<|jj Ra3<|jj Ra.l'<|jj Ra.s1<|jj qRa<|jj kRa<|jj tkRa<|jj Rb.g<|jj Rb.gE<|jj Rb.l<|jj Rb1<|jj Rb2<|jj Rb3<|jj Rb.l'<|jj Rb.s1<|jj qRb<|jj kRb<|jj tkRb<|hdf'
      repeat' (first|(apply aw_seq_k;intro K hK)|(refine eF64 ?_)|(refine aw_cond (b:=_) (by exact rfl) (fun h=>?_) (fun h=>?_)<;>(try simp at h))|(refine eB ?_)|(refine hK _ ?_;clear hK)|(clear hK;refine hK _ ?_;clear hK)|(clear hK;clear hK;refine hK _ ?_;clear hK)|(clear hK;clear hK;clear hK;refine hK _ ?_;clear hK))
      all_goals clear zS
      have hkl:=@kpF_len [f0] S2
      have tkR:List.take (kpF [f0] S2).length (nrows (dfR [f0] S2))=nrows (kpF [f0] S2):=by
       rw [nrows_take];unfold dfR;rw [List.take_left]
      have hkd:(kpF [f0] S2).length≤(dfR [f0] S2).length:=by rw [dfR_len];exact hkl
      have tkD:List.take ds.length (prows ds)=prows ds:=List.take_of_length_le (by simp)
      refine ⟨by simp,?_⟩
      simp [leaves_iff,Tryz.f55,tkR,hkd,tkD,irows]
      try exact dt
    ·rw [decide_eq_false hza] at qRa
     rw [if_neg hza] at cA
     rw [cA]
     have hdf':=fun M n=>@callDf0 432 480 (by decide) S1 ⟨hS1o,by show S1.length≤_;omega,by simp⟩ ns.length hS1l.symm 0 M n
     rw [← hdf] at hdf'
     simp only [Nat.zero_add,irows,List.map_cons,List.map_nil,List.length_cons,List.length_nil,Nat.reduceAdd] at hdf'
     have zS:=jj hck'<|jj hpa'<|jj hcl'<|jj hw0<|jj hw0I<|jj hdg2<|jj hdg1<|jj hdg0<|jj hd2<|jj hd1<|jj hd0<|jj hd2I<|jj hd1I<|jj hd0I<|jj he<|jj eqLs<|sameKs
     repeat' (first|(apply aw_seq_k;intro K hK)|(refine eF64 ?_)|(refine aw_cond (b:=_) (by exact rfl) (fun h=>?_) (fun h=>?_)<;>(try simp at h))|(refine eB ?_)|(refine hK _ ?_;clear hK)|(clear hK;refine hK _ ?_;clear hK)|(clear hK;clear hK;refine hK _ ?_;clear hK)|(clear hK;clear hK;clear hK;refine hK _ ?_;clear hK))
     all_goals clear zS
     refine aw_rounds 1 (aw_round ?_)
     have zS:=jj hck'<|jj hpa'<|jj hcl'<|jj hw0<|jj hw0I<|jj hdg2<|jj hdg1<|jj hdg0<|jj hd2<|jj hd1<|jj hd0<|jj hd2I<|jj hd1I<|jj hd0I<|jj he<|jj eqLs<|jj sameKs<|jj hn0<|jj hn1<|jj hn2<|jj hn0I<|jj hn1I<|jj hn2I<|jj hn1S<|jj hn2S<|jj Ra.g<|jj Ra.gE<|jj Ra.l<|jj Ra1<|jj Ra2<|jj Ra3<|jj Ra.l'<|jj Ra.s1<|jj qRa<|jj kRa<|jj tkRa<|hdf'
     repeat' (first|(apply aw_seq_k;intro K hK)|(refine eF64 ?_)|(refine aw_cond (b:=_) (by exact rfl) (fun h=>?_) (fun h=>?_)<;>(try simp at h))|(refine eB ?_)|(refine hK _ ?_;clear hK)|(clear hK;refine hK _ ?_;clear hK)|(clear hK;clear hK;refine hK _ ?_;clear hK)|(clear hK;clear hK;clear hK;refine hK _ ?_;clear hK))
     all_goals clear zS
     have tkR:List.take ns.length (nrows S1)=nrows S1:=List.take_of_length_le (by simp;omega)
     have tkD:List.take ds.length (prows ds)=prows ds:=List.take_of_length_le (by simp)
     refine ⟨by simp,?_⟩
     simp [leaves_iff,Tryz.f55,tkR,kpF_nil,hS1l,tkD,irows]
     try exact dt
  ·have hent:=ent_level hvt hp
   obtain ⟨n2,w2,hn2,hpl⟩:=path_1 hpv hp hlev
   have hA:clrA (r,ns,ds) p=(gp ds (lowD ds ((p/8:Nat):Int))).2::(clrL p ns (ptL (r,ns,ds) p).reverse).2:=by unfold clrA clrF;rw [if_pos hlev];rfl
   have hD:clrD (r,ns,ds) p=delL ds ((p/8:Nat):Int):=by unfold clrD;rw [if_pos hlev]
   rw [hA,hD]
   rw [hpl] at hpa' ⊢
   obtain ⟨⟨n1,l0,w⟩,hS⟩:∃ S,S=lsT (r,ns,ds) p:=⟨_,rfl⟩
   rw [← hS] at hlev hlw hpa' hent ⊢
   simp only at hlev hlw hent
   subst hlev
   clear hS hA hD eS hpl
   simp only [TbV,TbO,TbC,srows,srow,List.map_cons,List.map_nil,U,List.reverse_cons,List.reverse_nil,List.nil_append,List.cons_append,List.length_cons,List.length_nil,Nat.zero_add] at hck' hpa' hcl' ⊢
   rcases Decidable.em (w=0) with hw0|hw0
   ·rw [if_pos hw0]
    subst hw0
    simp only [zT]
    have zS:=jj hck'<|hpa'
    refine dM64 ?_
    repeat (intro K hK)
    clear zS
    all_goals refine ⟨by simp,?_⟩
    all_goals simp [leaves_iff,Tryz.f55,nrows,prows,irows]
    all_goals try exact dt
   ·rw [if_neg hw0]
    have hw0I:¬ (w:Int)=0:=by omega
    have hlo:=(hent hw0).2 rfl
    have hwd':=fun M n=>@callWd 448 432 433 (by decide) (by decide) (by decide) r ns ds ((p/8:Nat):Int) ht hvt.num.dasc hlo 0 0 M n
    rw [← hwd] at hwd'
    simp only [Nat.zero_add] at hwd'
    have hdlen:=delL_len hlo
    have hdle:ds.length - 1≤1000000:=by omega
    obtain ⟨fd,hfd⟩:∃ f,f=(gp ds (lowD ds ((p/8:Nat):Int))).2:=⟨_,rfl⟩
    obtain ⟨DL,hDL⟩:∃ D,D=delL ds ((p/8:Nat):Int):=⟨_,rfl⟩
    rw [← hfd,← hDL] at hwd' ⊢
    rw [← hDL] at hdlen
    obtain ⟨g8,hg8⟩:∃ g:Int,g=((p/8:Nat):Int):=⟨_,rfl⟩
    rw [← hg8] at hdv hwd'
    have hn1:n1<ns.length:=hlw.1
    have hn1I:(n1:Int)<(ns.length:Int):=by omega
    have hn2I:(n2:Int)<(ns.length:Int):=by omega
    obtain ⟨cb,cb',Rb⟩:=rnd (S:=ns) ht.1 (a:=n1) hn1 hd1
    have qRb:=Rb.eq
    have kRb:=Rb.sk
    simp only [z8,z8A] at qRb kRb
    have tkRb:List.take 8 cb'=cb':=List.take_of_length_le (by have:=Rb.l';omega)
    have cB:clrL p ns [(n1,1,w),(n2,2,w2)]=if (gn (setN ns n1 (dgt p 1) 0) n1).2=zs8 then ((clrL p (setN ns n1 (dgt p 1) 0) [(n2,2,w2)]).1,(gn ns n1).1::(clrL p (setN ns n1 (dgt p 1) 0) [(n2,2,w2)]).2) else (setN ns n1 (dgt p 1) 0,[]):=rfl
    obtain ⟨S2,hS2⟩:∃ S,S=setN ns n1 (dgt p 1) 0:=⟨_,rfl⟩
    have hS2o:∀ x∈S2,ndOK x:=by rw [hS2];exact setN_ndok ht.1 hn1
    have hS2l:S2.length=ns.length:=by rw [hS2,setN_len]
    have Rb1:=Rb.st
    have Rb2:=Rb.g'
    have Rb3:=Rb.gE'
    rw [← hS2] at cB qRb Rb1 Rb2 Rb3
    have hn2S:n2<S2.length:=by omega
    obtain ⟨cc,cc',Rc⟩:=rnd (S:=S2) hS2o (a:=n2) hn2S hd2
    have qRc:=Rc.eq
    have kRc:=Rc.sk
    simp only [z8,z8A] at qRc kRc
    have tkRc:List.take 8 cc'=cc':=List.take_of_length_le (by have:=Rc.l';omega)
    have cC:clrL p S2 [(n2,2,w2)]=(setN S2 n2 (dgt p 2) 0,[]):=rfl
    obtain ⟨S3,hS3⟩:∃ S,S=setN S2 n2 (dgt p 2) 0:=⟨_,rfl⟩
    have hS3o:∀ x∈S3,ndOK x:=by rw [hS3];exact setN_ndok hS2o hn2S
    have hS3l:S3.length=ns.length:=by rw [hS3,setN_len];exact hS2l
    have Rc1:=Rc.st
    have Rc2:=Rc.g'
    have Rc3:=Rc.gE'
    rw [← hS3] at cC qRc Rc1 Rc2 Rc3
    clear hS2 hS3
    obtain ⟨f1,hf1⟩:∃ f,f=(gn ns n1).1:=⟨_,rfl⟩
    rw [← hf1] at cB Rb Rb2 Rb3 Rb1
    rcases Decidable.em ((gn S2 n1).2=zs8) with hzb|hzb
    ·rw [decide_eq_true hzb] at qRb
     rw [if_pos hzb,cC] at cB
     rw [cB]
     have hdf':=fun M n=>@callDf 432 480 624 (by decide) (by decide) (by decide) S3 [fd,f1] ⟨hS3o,by show S3.length≤_;omega,by simp⟩ ns.length hS3l.symm 0 1 M n
     rw [← hdf] at hdf'
     simp only [Nat.zero_add,irows,List.map_cons,List.map_nil,List.length_cons,List.length_nil,Nat.reduceAdd] at hdf'
     have zS:=jj hck'<|jj hpa'<|jj hcl'<|jj hw0<|jj hw0I<|jj hdg2<|jj hdg1<|jj hdg0<|jj hd2<|jj hd1<|jj hd0<|jj hd2I<|jj hd1I<|jj hd0I<|jj he<|jj eqLs<|jj sameKs<|jj hwd'<|hdv
     repeat' (first|(apply aw_seq_k;intro K hK)|(refine eF64 ?_)|(refine aw_cond (b:=_) (by exact rfl) (fun h=>?_) (fun h=>?_)<;>(try simp at h))|(refine eB ?_)|(refine hK _ ?_;clear hK)|(clear hK;refine hK _ ?_;clear hK)|(clear hK;clear hK;refine hK _ ?_;clear hK)|(clear hK;clear hK;clear hK;refine hK _ ?_;clear hK))
     all_goals clear zS
     refine aw_rounds 2 (aw_round ?_)
     have zS:=jj hck'<|jj hpa'<|jj hcl'<|jj hw0<|jj hw0I<|jj hdg2<|jj hdg1<|jj hdg0<|jj hd2<|jj hd1<|jj hd0<|jj hd2I<|jj hd1I<|jj hd0I<|jj he<|jj eqLs<|jj sameKs<|jj hwd'<|jj hdv<|jj hn1<|jj hn2<|jj hn1I<|jj hn2I<|jj hn2S<|jj Rb.g<|jj Rb.gE<|jj Rb.l<|jj Rb1<|jj Rb2<|jj Rb3<|jj Rb.l'<|jj Rb.s1<|jj qRb<|jj kRb<|jj tkRb<|jj Rc.g<|jj Rc.gE<|jj Rc.l<|jj Rc1<|jj Rc2<|jj Rc3<|jj Rc.l'<|jj Rc.s1<|jj tkRc<|hdf'
     repeat' (first|(apply aw_seq_k;intro K hK)|(refine eF64 ?_)|(refine aw_cond (b:=_) (by exact rfl) (fun h=>?_) (fun h=>?_)<;>(try simp at h))|(refine eB ?_)|(refine hK _ ?_;clear hK)|(clear hK;refine hK _ ?_;clear hK)|(clear hK;clear hK;refine hK _ ?_;clear hK)|(clear hK;clear hK;clear hK;refine hK _ ?_;clear hK))
     all_goals clear zS
     have hkl:=@kpF_len [fd,f1] S3
     have tkR:List.take (kpF [fd,f1] S3).length (nrows (dfR [fd,f1] S3))=nrows (kpF [fd,f1] S3):=by
      rw [nrows_take];unfold dfR;rw [List.take_left]
     have hkd:(kpF [fd,f1] S3).length≤(dfR [fd,f1] S3).length:=by rw [dfR_len];exact hkl
     have tkD:List.take (ds.length - 1) (prows DL)=prows DL:=List.take_of_length_le (by simp;omega)
     refine ⟨by simp,?_⟩
     simp [leaves_iff,Tryz.f55,tkR,hkd,tkD,hdlen,irows]
     try exact dt
    ·rw [decide_eq_false hzb] at qRb
     rw [if_neg hzb] at cB
     rw [cB]
     have hdf':=fun M n=>@callDf 432 480 624 (by decide) (by decide) (by decide) S2 [fd] ⟨hS2o,by show S2.length≤_;omega,by simp⟩ ns.length hS2l.symm 0 0 M n
     rw [← hdf] at hdf'
     simp only [Nat.zero_add,irows,List.map_cons,List.map_nil,List.length_cons,List.length_nil,Nat.reduceAdd] at hdf'
     have zS:=jj hck'<|jj hpa'<|jj hcl'<|jj hw0<|jj hw0I<|jj hdg2<|jj hdg1<|jj hdg0<|jj hd2<|jj hd1<|jj hd0<|jj hd2I<|jj hd1I<|jj hd0I<|jj he<|jj eqLs<|jj sameKs<|jj hwd'<|hdv
     repeat' (first|(apply aw_seq_k;intro K hK)|(refine eF64 ?_)|(refine aw_cond (b:=_) (by exact rfl) (fun h=>?_) (fun h=>?_)<;>(try simp at h))|(refine eB ?_)|(refine hK _ ?_;clear hK)|(clear hK;refine hK _ ?_;clear hK)|(clear hK;clear hK;refine hK _ ?_;clear hK)|(clear hK;clear hK;clear hK;refine hK _ ?_;clear hK))
     all_goals clear zS
     refine aw_rounds 1 (aw_round ?_)
     have zS:=jj hck'<|jj hpa'<|jj hcl'<|jj hw0<|jj hw0I<|jj hdg2<|jj hdg1<|jj hdg0<|jj hd2<|jj hd1<|jj hd0<|jj hd2I<|jj hd1I<|jj hd0I<|jj he<|jj eqLs<|jj sameKs<|jj hwd'<|jj hdv<|jj hn1<|jj hn2<|jj hn1I<|jj hn2I<|jj hn2S<|jj Rb.g<|jj Rb.gE<|jj Rb.l<|jj Rb1<|jj Rb2<|jj Rb3<|jj Rb.l'<|jj Rb.s1<|jj qRb<|jj kRb<|jj tkRb<|hdf'
     repeat' (first|(apply aw_seq_k;intro K hK)|(refine eF64 ?_)|(refine aw_cond (b:=_) (by exact rfl) (fun h=>?_) (fun h=>?_)<;>(try simp at h))|(refine eB ?_)|(refine hK _ ?_;clear hK)|(clear hK;refine hK _ ?_;clear hK)|(clear hK;clear hK;refine hK _ ?_;clear hK)|(clear hK;clear hK;clear hK;refine hK _ ?_;clear hK))
     all_goals clear zS
     have hkl:=@kpF_len [fd] S2
     have tkR:List.take (kpF [fd] S2).length (nrows (dfR [fd] S2))=nrows (kpF [fd] S2):=by
      rw [nrows_take];unfold dfR;rw [List.take_left]
     have hkd:(kpF [fd] S2).length≤(dfR [fd] S2).length:=by rw [dfR_len];exact hkl
     have tkD:List.take (ds.length - 1) (prows DL)=prows DL:=List.take_of_length_le (by simp;omega)
     refine ⟨by simp,?_⟩
     simp [leaves_iff,Tryz.f55,tkR,hkd,tkD,hdlen,irows]
     try exact dt
  ·have hent:=ent_level hvt hp
   have hpl:=path_2 hpv hp hlev
   rw [hpl] at hpa' ⊢
   obtain ⟨⟨n2,l0,w⟩,hS⟩:∃ S,S=lsT (r,ns,ds) p:=⟨_,rfl⟩
   rw [← hS] at hlev hpa' hent ⊢
   simp only at hlev hent
   subst hlev
   have hw0:w=0:=Decidable.byContradiction fun h=>(hent h).1 rfl
   subst hw0
   rw [if_pos rfl]
   clear hS eS hpl
   simp only [TbV,TbO,zT,srows,srow,List.map_cons,List.map_nil,U,List.length_cons,List.length_nil,Nat.zero_add] at hck' hpa' ⊢
   have zS:=jj hck'<|hpa'
   refine dM64 ?_
   repeat (intro K hK)
   clear zS
   all_goals refine ⟨by simp,?_⟩
   all_goals simp [leaves_iff,Tryz.f55,nrows,prows,irows]
   all_goals try exact dt
end Go.AM
