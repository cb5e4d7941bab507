/- A part of the proof. -/
import Derived.Test.YtcfhmdljeeppfaaGreatGPt36
import Derived.Test.YtcfhmdljeeppfaaGreatGAmW
import Derived.Test.YtcfhmdljeeppfaaGreatGAmO
import Derived.Maps.RangeRun
set_option linter.all false
set_option maxHeartbeats 4000000
namespace Go.AM
open Go Go.Proofs Tryz
noncomputable section
def kpF (fr:List Int) (ns:NdL):NdL:=ns.filter fun n=>!inF fr n
theorem zf1 {fr:List Int} {ns:NdL}:(kpF fr ns).length<=ns.length:=List.length_filter_le _ _
theorem zuJ {fr:List Int} {ns:NdL} {j:Nat} (h:j<ns.length):kpF fr (ns.take (j+1))=kpF fr (ns.take j)++(if inF fr (gn ns j)=true then [] else [gn ns j]):=by rw [ziB h];unfold kpF;rw [List.filter_append];cases hb:inF fr (gn ns j)<;>simp [hb]
def dfR (fr:List Int) (ns:NdL):NdL:=kpF fr ns++List.replicate (ns.length - (kpF fr ns).length) (0,zs8)
def ixB:List AV->List AO->Option (AV×List AO):=orG ixS zwp
theorem zxv {ns:NdL} (h:zit (ns,[])):ixB [.sl 0 1 9 0 ns.length,.fn 141 [.bp 1 0]] (zfc ns)=some (I (zdM (inF []) ns),zfc ns):=zpr (zdf fun i _ h2=>by simp [ixM,zfc] at h2) (zr9 h)
theorem zvA {ns:NdL} {fr:List Int} (h:zit (ns,fr)) (M:Nat->AO) (nid:Nat) (h0:M 0=.vec 1 9 false (nrw ns)) (h1:M 1=.box [.sl 2 1 1 0 fr.length]) (h2:M 2=.vec 1 1 false (irw fr)) :
  caG ixB [.sl 0 1 9 0 ns.length,.fn 141 [.bp 1 0]] M nid=some (I (zdM (inF fr) ns),[(0,.vec 1 9 false (nrw ns)),(1,.box [.sl 2 1 1 0 fr.length]),(2,.vec 1 1 false (irw fr))]):=by
 have hF:ixB _ _=_:=znr (zuL h);simp only [ixM] at hF;unfold caG;have hg:gat M 64 (nmsL [.sl 0 1 9 0 ns.length,.fn 141 [.bp 1 0]]) []=[0,1,2]:=by simp [gat,nmsL,AV.nms,AO.nms,h0,h1,h2]
 simp only [hg];rw [if_pos ?cg]
 case cg=>simp [zbp,nmsL,AV.nms,AO.nms,Led,curBL,AV.curB,AO.curB,zaj,nDd,h0,h1,h2]
 simp [renL,AV.ren,AO.ren,zbL,zdP,nmsL,h0,h1,h2,hF,zeZ,zcc,AV.nms,AO.nms,zdC,nmN,shN,zaj,rng,Led]
theorem zsG {ns:NdL} (h:zit (ns,[])) (M:Nat->AO) (nid:Nat) (h0:M 0=.vec 1 9 false (nrw ns)) (h1:M 1=.box [.v (.slice none 0 0)]) :
  caG ixB [.sl 0 1 9 0 ns.length,.fn 141 [.bp 1 0]] M nid=some (I (zdM (inF []) ns),[(0,.vec 1 9 false (nrw ns)),(1,.box [.v (.slice none 0 0)])]):=by
 have hF:=zxv h;simp only [zfc,zhI] at hF;unfold caG;have hg:gat M 64 (nmsL [.sl 0 1 9 0 ns.length,.fn 141 [.bp 1 0]]) []=[0,1]:=by simp [gat,nmsL,AV.nms,AO.nms,h0,h1]
 simp only [hg];rw [if_pos ?cg]
 case cg=>simp [zbp,nmsL,AV.nms,AO.nms,Led,curBL,AV.curB,AO.curB,zaj,nDd,h0,h1]
 simp [renL,AV.ren,AO.ren,zbL,zdP,nmsL,h0,h1,hF,zeZ,zcc,AV.nms,AO.nms,zdC,nmN,shN,zaj,rng,Led]
def dfS:List AV->List AO->Option (AV×List AO):=za1 (ι:={x:IxD // zit x}) (fun x=>[.sl 0 1 9 0 x.1.1.length,.fn 141 [.bp 1 0]]) (fun x=>ixM x.1.1 x.1.2) (fun x=>rtO [.sl 0 1 9 0 (kpF x.1.2 x.1.1).length]) fun x=>ixM (dfR x.1.2 x.1.1) x.1.2
theorem zve {ns:NdL} {fr:List Int} (h:zit (ns,fr)):dfS [.sl 0 1 9 0 ns.length,.fn 141 [.bp 1 0]] (ixM ns fr)=some (.sl 0 1 9 0 (kpF fr ns).length,ixM (dfR fr ns) fr):=by refine sGe (ι:={x:IxD // zit x}) (A:=fun x=>[.sl 0 1 9 0 x.1.1.length,.fn 141 [.bp 1 0]]) (M:=fun x=>ixM x.1.1 x.1.2) (R:=fun x=>rtO [.sl 0 1 9 0 (kpF x.1.2 x.1.1).length]) (O:=fun x=>ixM (dfR x.1.2 x.1.1) x.1.2) ⟨(ns,fr),h⟩ fun j hA hM=>?_;obtain ⟨⟨n',fr'⟩,h'⟩:=j;obtain ⟨rfl,rfl⟩:=znX hM;exact ⟨rfl,rfl⟩
def zwv:List AV->List AO->Option (AV×List AO):=za1 (ι:={x:NdL // zit (x,[])}) (fun x=>[.sl 0 1 9 0 x.1.length,.fn 141 [.bp 1 0]]) (fun x=>zfc x.1) (fun x=>rtO [.sl 0 1 9 0 x.1.length]) fun x=>zfc x.1
theorem zsv {ns:NdL} (h:zit (ns,[])):zwv [.sl 0 1 9 0 ns.length,.fn 141 [.bp 1 0]] (zfc ns)=some (.sl 0 1 9 0 ns.length,zfc ns):=by refine sGe (ι:={x:NdL // zit (x,[])}) (A:=fun x=>[.sl 0 1 9 0 x.1.length,.fn 141 [.bp 1 0]]) (M:=fun x=>zfc x.1) (R:=fun x=>rtO [.sl 0 1 9 0 x.1.length]) (O:=fun x=>zfc x.1) ⟨ns,h⟩ fun j hA hM=>?_;obtain ⟨n',h'⟩:=j;have:=zlh hM;simp only at this;subst this;exact ⟨rfl,rfl⟩
theorem znz {S:NdL} {c:Nat} {n:Nd}:(nrw S).set c (zcq n)=nrw (S.set c n):=by unfold nrw;rw [List.map_set]
theorem zBW (X:AX) (hX:XOK prog X) (hw:X.W wT) (hcl:X.call 141=caG zq4) (hix:X.call 193=caG ixB):GSd prog 140 dfS:=by
 unfold dfS;refine gsS func140 rfl X fun ⟨⟨ns,fr⟩,hok,hl,hfr⟩ w0 L E=>⟨by show 2<=42;decide,?_⟩
 simp only at hok hl hfr;have hcr:=fun (n:Nd) (h:n.2.length=8) M nid=>@zra 1 2 (by decide) n fr h hfr M nid;have hci:=fun M nid=>@zvA ns fr ⟨hok,hl,hfr⟩ M nid;rw [<- hcl] at hcr;rw [<- hix] at hci;simp only [ixM];show AW ⟨prog,X,42,w0,⟨L,E,3⟩⟩ _ _ _;have hc:Cx.OK ⟨prog,X,42,w0,⟨L,E,3⟩⟩:=⟨hX,mixed⟩
 rcases dE (ns.findIdx (inF fr)<ns.length) with hex|hex
 ·obtain ⟨i,hi,h1,h2⟩:∃ j,j<ns.length∧inF fr (gn ns j)=true∧∀ k,k<j->inF fr (gn ns k)=false:=by
   refine ⟨ns.findIdx (inF fr),hex,?_,fun k hk=>?_⟩
   ·rw [zcl hex];exact List.findIdx_getElem (w:=hex)
   ·rw [zcl (by omega)];simpa using List.not_of_lt_findIdx hk
  have e:zdM (inF fr) ns=i:=zf9 hi (by rw [<- zcl hi];exact h1) fun j hj=>by rw [<- zcl (by omega)];exact h2 j hj
  rw [e] at hci;have hiI:¬ (i:Int)=-1:=by omega
  have hkt:kpF fr (ns.take i)=ns.take i:=by
   unfold kpF;refine List.filter_eq_self.2 fun x hx=>?_;obtain ⟨j,hj,rfl⟩:=List.getElem_of_mem hx;have hj2:j<i:=by simp at hj;omega
   have:=h2 j hj2;rw [zcl (by omega)] at this;rw [List.getElem_take,this];rfl
  have hk1:kpF fr (ns.take (i+1))=ns.take i:=by rw [zuJ hi,h1,hkt];simp
  have zS:=jj hci<|hiI;repeat' (first|(refine aSk fun K hK=>?_)|(refine zi ?_)|(refine eC (fun h=>?_) (fun h=>?_)<;>(try simp at h))|(refine hK _ ?_;clear hK)|(clear hK;refine hK _ ?_;clear hK))
  all_goals clear zS
  refine aLK (s0:=?lps1) (m0:=?lpm1) (ι:={s:Nat×NdL // s.1<=ns.length∧s.2.length=ns.length∧s.2.take (kpF fr (ns.take s.1)).length=kpF fr (ns.take s.1)∧(∀ k,s.1<=k->k<ns.length->gn s.2 k=gn ns k)∧(kpF fr (ns.take s.1)).length<s.1∧∀ x∈s.2,x.2.length=8}) [0,1] (fun s=>[(6,I s.1.1),(5,I (kpF fr (ns.take s.1.1)).length)]) (fun s=>[(0,.vec 1 9 false (nrw s.1.2))]) (fun s=>ns.length - s.1.1) ⟨(i+1,ns),by simp only;omega,rfl,by simp only [hk1,List.length_take];rw [Nat.min_eq_left (by omega)],fun k _ _=>rfl,by simp only [hk1,List.length_take];omega,fun x hx=>(hok x hx).1⟩ ?lhs1 ?lhm1 ?_ ?_
  case lhs1=>first|(simp [kpS];done)|(simp [kpS];rfl)
  case lhm1=>first|rfl|(simp;done)|(simp;rfl)
  ·simp only [hk1,List.length_take,Nat.min_eq_left (Nat.le_of_lt hi)];exact dle
  ·rintro ⟨⟨j,S⟩,hj,hSl,hSt,hSd,hcj,hS8⟩;simp only at hj hSl hSt hSd hcj hS8 ⊢;obtain ⟨c,hcc⟩:∃ c,c=(kpF fr (ns.take j)).length:=⟨_,rfl⟩
   rw [<- hcc] at hSt hcj ⊢;rcases dE (j<ns.length) with hjl|hjl
   ·have hjS:j<S.length:=by omega
    have hjI:(j:Int)<(ns.length:Int):=by omega
    have hcS:c<S.length:=by omega
    have hcI:(c:Int)<(ns.length:Int):=by omega
    have hcl2:c<ns.length:=by omega
    have hg:=nrG hjS;have hgE:=nrE hjS;rw [hSd j (Nat.le_refl _) hjl] at hg hgE;have hks:=@zuJ fr ns j hjl;have h8:=(hok _ (zaL hjl)).1;have hcr':=hcr _ h8;have hse:=@znz S c (gn ns j);have hSd2:∀ k,j+1<=k->k<ns.length->gn (S.set c (gn ns j)) k=gn ns k:=fun k h3 h4=>by rw [zcl (by simp;omega),List.getElem_set_ne (by omega),<- zcl (by omega)];exact hSd k (by omega) h4
    have hSt2:(S.set c (gn ns j)).take (c+1)=kpF fr (ns.take j)++[gn ns j]:=by rw [List.take_add_one,List.getElem?_set_self (by omega),List.take_set_of_le (Nat.le_refl _),hSt];rfl
    obtain ⟨⟨g,ws⟩,hm⟩:∃ m,m=gn ns j:=⟨_,rfl⟩
    rw [<- hm] at hg hgE h8 hcr' hks hse hSd2 hSt2;simp only [zcq] at hg hgE h8 hcr' hse;have hwl:(wcs ws).length=8:=by simp [h8]
    obtain ⟨T,hT⟩:∃ T,T=S.set c (g,ws):=⟨_,rfl⟩
    have hT8:∀ x∈T,x.2.length=8:=fun x hx=>by
     rw [hT] at hx;rcases List.mem_or_eq_of_mem_set hx with h5|h5
     ·exact hS8 x h5
     ·rw [h5];exact h8
    have hgc:=nrG hcS;have hgcE:=nrE hcS;have hc8:=hS8 _ (zaL hcS);obtain ⟨⟨g2,ws2⟩,hm2⟩:∃ m,m=gn S c:=⟨_,rfl⟩
    rw [<- hm2] at hgc hgcE hc8;simp only at hgc hgcE hc8;have hwl2:(wcs ws2).length=8:=by simp [hc8]
    obtain ⟨cs2,hcs2⟩:∃ cs,cs=wcs ws2:=⟨_,rfl⟩
    rw [<- hcs2] at hgc hgcE hwl2;have hdr2:List.drop 8 cs2=[]:=List.drop_of_length_le (by omega);clear hcs2 hm2;have hTl:T.length=ns.length:=by rw [hT];simpa using hSl
    rw [<- hT] at hse hSd2 hSt2;have hcx:∀ x,x∈wcs ws->AV.isClosed x=true:=fun a ha=>by obtain ⟨w,_,rfl⟩:=List.mem_map.1 ha;rfl
    obtain ⟨cs,hcs⟩:∃ cs,cs=wcs ws:=⟨_,rfl⟩
    rw [<- hcs] at hg hgE hwl hcr' hse hcx;simp only [AV.isClosed] at hcx;have htk:List.take 8 cs=cs:=tkL (by omega);clear hcs hm;rcases dE (g∈fr) with hgf|hgf
    ·rw [decide_eq_true hgf] at hcr';rw [if_pos (by simp [inF,hgf]),List.append_nil] at hks;have zS:=jj hjI<|jj hjl<|jj hjS<|jj hg<|jj hgE<|jj hwl<|jj htk<|hcr';repeat' (first|(refine aSk fun K hK=>?_)|(refine zi ?_)|(refine eC (fun h=>?_) (fun h=>?_)<;>(try simp at h))|(refine hK _ ?_;clear hK)|clear hK)
     all_goals clear zS
     refine ⟨j+1,S,?_,⟨by omega,hSl,by rw [hks,<- hcc];exact hSt,fun k h3 h4=>hSd k (by omega) h4,by rw [hks,<- hcc];omega,fun a b h=>hS8 (a,b) h⟩,by omega⟩;simp only [hks,<- hcc];exact dle
    ·rw [decide_eq_false hgf] at hcr';rw [if_neg (by simp [inF,hgf])] at hks;have hkl:(kpF fr (ns.take (j+1))).length=c+1:=by rw [hks,List.length_append,<- hcc];rfl
     have zS:=jj hjI<|jj hjl<|jj hjS<|jj hg<|jj hgE<|jj hwl<|jj htk<|jj hcr'<|jj hcI<|jj hcl2<|jj hcS<|jj hgc<|jj hgcE<|jj hwl2<|jj hdr2<|jj hse<|hcx;repeat' (first|(refine aSk fun K hK=>?_)|(refine zi ?_)|(refine eC (fun h=>?_) (fun h=>?_)<;>(try simp at h))|(refine hK _ ?_;clear hK)|clear hK)
     all_goals clear zS
     refine ⟨j+1,T,?_,⟨by omega,hTl,by rw [hkl,hks];exact hSt2,hSd2,by omega,fun a b h=>hT8 (a,b) h⟩,by omega⟩;simp only [hkl];exact dle
   ·obtain rfl:j=ns.length:=by omega
    rw [List.take_length] at hcc hSt;repeat' (first|(refine aSk fun K hK=>?_)|(refine eMo ?_)|(refine eC (fun h=>?_) (fun h=>?_)<;>(try simp at h))|(refine hK _ ?_;clear hK)|clear hK)
    refine ⟨by simp,_,by simp [aRs,aRt,f140];rfl,?_⟩;have e1:List.take c (nrw S)++(List.replicate (ns.length - c) [AV.v (Value.int IntKind.i64 0),AV.v (Value.int IntKind.u64 0),AV.v (Value.int IntKind.u64 0),AV.v (Value.int IntKind.u64 0),AV.v (Value.int IntKind.u64 0),AV.v (Value.int IntKind.u64 0),AV.v (Value.int IntKind.u64 0),AV.v (Value.int IntKind.u64 0),AV.v (Value.int IntKind.u64 0)]++List.drop (c+(ns.length - c)) (nrw S))=nrw (dfR fr ns):=by rw [zfU,zcj,hSt,List.drop_of_length_le (by simp;omega),List.append_nil,ziT];unfold dfR;rw [hcc]
    simp only [idx,e1,<- hcc];exact dle
 ·have e:zdM (inF fr) ns=-1:=zdo fun j hj=>by have h3:=List.findIdx_le_length (xs:=ns) (p:=inF fr);simpa using List.not_of_lt_findIdx (p:=inF fr) (xs:=ns) (i:=j) (by omega)
  have hkp:kpF fr ns=ns:=by unfold kpF;refine List.filter_eq_self.2 fun x hx=>?_;obtain ⟨j,hj,rfl⟩:=List.getElem_of_mem hx;have h3:=List.findIdx_le_length (xs:=ns) (p:=inF fr);have:=List.not_of_lt_findIdx (p:=inF fr) (xs:=ns) (i:=j) (by omega);simpa using this
  have hdf:dfR fr ns=ns:=by unfold dfR;rw [hkp];simp
  rw [e] at hci;have zS:=hci;refine zl ?_;repeat (intro K hK)
  clear zS;refine ⟨by simp,_,by simp [aRs,aRt,f140];rfl,?_⟩;simp only [idx,hkp,hdf];exact dle
theorem zt7 (X:AX) (hX:XOK prog X) (hw:X.W wT) (hix:X.call 193=caG ixB):GSd prog 140 zwv:=by
 unfold zwv;refine gsS func140 rfl X fun ⟨ns,hok,hl,hfr⟩ w0 L E=>⟨by show 2<=42;decide,?_⟩
 simp only at hok hl hfr;have hci:=fun M nid=>@zsG ns ⟨hok,hl,hfr⟩ M nid;rw [<- hix] at hci;simp only [zfc,zhI];show AW ⟨prog,X,42,w0,⟨L,E,2⟩⟩ _ _ _;have hc:Cx.OK ⟨prog,X,42,w0,⟨L,E,2⟩⟩:=⟨hX,mixed⟩
 have e:zdM (inF []) ns=-1:=zdo fun j hj=>by simp [inF]
 rw [e] at hci;have zS:=hci;refine zl ?_;repeat (intro K hK)
 clear zS;refine ⟨by simp,_,by simp [aRs,aRt,f140];rfl,?_⟩;simp only [idx];exact dle
def dfB:List AV->List AO->Option (AV×List AO):=orG dfS zwv
end
theorem zxH {ns:NdL} (h:zit (ns,[])):dfB [.sl 0 1 9 0 ns.length,.fn 141 [.bp 1 0]] (zfc ns)=some (.sl 0 1 9 0 ns.length,zfc ns):=zpr (zdf fun i _ h2=>by simp [ixM,zfc] at h2) (zsv h)
theorem zh2 {fr:List Int} {ns:NdL}:(dfR fr ns).length=ns.length:=by have:=@zf1 fr ns;simp [dfR];omega
set_option maxHeartbeats 1000000 in
theorem zlM {a b c:Nat} (hab:a≠b) (hac:a≠c) (hbc:b≠c) {ns:NdL} {fr:List Int} (h:zit (ns,fr)) {L:Nat} (hL:L=ns.length) {v v3:Nat} (M:Nat->AO) (nid:Nat) (h0:M a=.vec (v+1) 9 false (nrw ns)) (h1:M b=.box [.sl c (v3+1) 1 0 fr.length]) (h2:M c=.vec (v3+1) 1 false (irw fr)) :
  caG dfB [.sl a (v+1) 9 0 L,.fn 141 [.bp b 0]] M nid=some (.sl a (v+1) 9 0 (kpF fr ns).length,[(a,.vec (v+1) 9 false (nrw (dfR fr ns))),(b,.box [.sl c (v3+1) 1 0 fr.length]),(c,.vec (v3+1) 1 false (irw fr))]):=by
 subst hL;have hF:dfB _ _=_:=znr (zve h);simp only [ixM] at hF;have hba:b≠a:=fun e=>hab e.symm;have hca:c≠a:=fun e=>hac e.symm;have hcb:c≠b:=fun e=>hbc e.symm;unfold caG;have hg:gat M 64 (nmsL [.sl a (v+1) 9 0 ns.length,.fn 141 [.bp b 0]]) []=[a,b,c]:=by simp [gat,nmsL,AV.nms,AO.nms,h0,h1,h2,hab,hac,hbc,hba,hca,hcb]
 simp only [hg];rw [if_pos ?cg]
 case cg=>simp [zbp,nmsL,AV.nms,AO.nms,Led,curBL,AV.curB,AO.curB,zaj,nDd,h0,h1,h2,hab,hac,hbc,hba,hca,hcb]
 have e1:1+v=v+1:=by omega
 have e2:1+v3=v3+1:=by omega
 simp [renL,AV.ren,AO.ren,zbL,zdP,nmsL,h0,h1,h2,hF,zeZ,zcc,AV.nms,AO.nms,zdC,nmN,shN,zaj,rng,Led,hab,hac,hbc,hba,hca,hcb,e1,e2]
theorem zsJ {a b:Nat} (hab:a≠b) {ns:NdL} (h:zit (ns,[])) {L:Nat} (hL:L=ns.length) {v:Nat} (M:Nat->AO) (nid:Nat) (h0:M a=.vec (v+1) 9 false (nrw ns)) (h1:M b=.box [.v (.slice none 0 0)]) :
  caG dfB [.sl a (v+1) 9 0 L,.fn 141 [.bp b 0]] M nid=some (.sl a (v+1) 9 0 L,[(a,.vec (v+1) 9 false (nrw ns)),(b,.box [.v (.slice none 0 0)])]):=by
 subst hL;have hF:=zxH h;simp only [zfc,zhI] at hF;have hba:b≠a:=fun e=>hab e.symm;unfold caG;have hg:gat M 64 (nmsL [.sl a (v+1) 9 0 ns.length,.fn 141 [.bp b 0]]) []=[a,b]:=by simp [gat,nmsL,AV.nms,AO.nms,h0,h1,hab,hba]
 simp only [hg];rw [if_pos ?cg]
 case cg=>simp [zbp,nmsL,AV.nms,AO.nms,Led,curBL,AV.curB,AO.curB,zaj,nDd,h0,h1,hab,hba]
 have e1:1+v=v+1:=by omega
 simp [renL,AV.ren,AO.ren,zbL,zdP,nmsL,h0,h1,hF,zeZ,zcc,AV.nms,AO.nms,zdC,nmN,shN,zaj,rng,Led,hab,hba,e1]
def zgh (p:Nat) (ns:NdL):List Stp->NdL×List Int
 | []=>(ns,[])
 | [s]=>(zo ns s.1 (dgt p s.2.1) 0,[])
 | s::q=>if (gn (zo ns s.1 (dgt p s.2.1) 0) s.1).2=zs8 then ((zgh p (zo ns s.1 (dgt p s.2.1) 0) q).1,(gn ns s.1).1::(zgh p (zo ns s.1 (dgt p s.2.1) 0) q).2) else (zo ns s.1 (dgt p s.2.1) 0,[])
def zwz (t:Tb) (p:Nat):List Int:=if (lsT t p).2.1=1 then [(gp t.2.2 (zdG t.2.2 ((p/8:Nat):Int))).2] else []
def zq3 (t:Tb) (p:Nat):List Dp:=if (lsT t p).2.1=1 then zpd t.2.2 ((p/8:Nat):Int) else t.2.2
def zpe (t:Tb) (p:Nat):List Int:=zwz t p++(zgh p t.2.1 (ptL t p).reverse).2
noncomputable def zcM (t:Tb) (p:Int):Tb×Nat×List Int×Int :=if ckd t p 512≠0 then (zT,0,[],ckd t p 512)
 else if (lsT t p.toNat).2.2=0 then (zT,0,[],6)
 else ((t.1,kpF (zpe t p.toNat) (zgh p.toNat t.2.1 (ptL t p.toNat).reverse).1,zq3 t p.toNat),(lsT t p.toNat).2.2,zpe t p.toNat,0)
theorem zuo {r:Int} {ns:NdL} {ds:List Dp} (h:Pv (r,ns,ds)) {p:Nat} (hp:p<512) (hl:(lsT (r,ns,ds) p).2.1=0):∃ n2 w2 n1 w1,n2<ns.length∧n1<ns.length∧ptL (r,ns,ds) p=[(n2,2,w2),(n1,1,w1),lsT (r,ns,ds) p]:=by
 have hr:=zay h.root;unfold lsT ptL at *
 simp only [lst,pth] at hl ⊢;cases h2:kid WA ns (wd ns (rtN (r,ns,ds)) (dgt p 2)) with
 | none=>rw [h2] at hl;simp at hl
 | some n1 =>
  rw [h2] at hl;simp only at hl ⊢;cases h1:kid WA ns (wd ns n1 (dgt p 1)) with
  | none=>rw [h1] at hl;simp at hl
  | some n0 =>obtain ⟨g,_,hg⟩:=zb0.1 h2;exact ⟨_,_,n1,_,hr,zay hg,rfl⟩
theorem zun {r:Int} {ns:NdL} {ds:List Dp} (h:Pv (r,ns,ds)) {p:Nat} (hp:p<512) (hl:(lsT (r,ns,ds) p).2.1=1):∃ n2 w2,n2<ns.length∧ptL (r,ns,ds) p=[(n2,2,w2),lsT (r,ns,ds) p]:=by
 have hr:=zay h.root;unfold lsT ptL at *
 simp only [lst,pth] at hl ⊢;cases h2:kid WA ns (wd ns (rtN (r,ns,ds)) (dgt p 2)) with
 | none=>rw [h2] at hl;simp at hl
 | some n1 =>
  rw [h2] at hl;simp only at hl ⊢;cases h1:kid WA ns (wd ns n1 (dgt p 1)) with
  | some n0=>rw [h1] at hl;simp at hl
  | none=>exact ⟨_,_,hr,rfl⟩
def z8:List Value:=[.int .u64 0,.int .u64 0,.int .u64 0,.int .u64 0,.int .u64 0,.int .u64 0,.int .u64 0,.int .u64 0]
def z8A:List AV:=[.v (.int .u64 0),.v (.int .u64 0),.v (.int .u64 0),.v (.int .u64 0),.v (.int .u64 0),.v (.int .u64 0),.v (.int .u64 0),.v (.int .u64 0)]
theorem zum {r:Int} {ns:NdL} {ds:List Dp} (h:Pv (r,ns,ds)) {p:Nat} (hp:p<512) (hl:(lsT (r,ns,ds) p).2.1=2):ptL (r,ns,ds) p=[lsT (r,ns,ds) p]:=by
 unfold lsT ptL at *
 simp only [lst,pth] at hl ⊢;cases h2:kid WA ns (wd ns (rtN (r,ns,ds)) (dgt p 2)) with
 | none=>rfl
 | some n1 =>
  rw [h2] at hl;simp only at hl;cases h1:kid WA ns (wd ns n1 (dgt p 1)) with
  | none=>rw [h1] at hl;simp at hl
  | some n0=>rw [h1] at hl;simp at hl
theorem zjj {r:Int} {ns:NdL} {ds:List Dp} (hv:Vt (r,ns,ds)) {p:Nat} (hp:p<512) (h0:(lsT (r,ns,ds) p).2.2≠0):(lsT (r,ns,ds) p).2.1≠2∧((lsT (r,ns,ds) p).2.1=1->zdG ds ((p/8:Nat):Int)<ds.length):=by
 have hpv:=hv.pv;obtain ⟨f,l,w,hw⟩:∃ f l w,wlk (Mof ns) r p=(f,l,w):=⟨_,_,_,rfl⟩
 have h1:=(hpv.walk hp).2.2;simp only at h1;rw [hw] at h1;rw [h1] at h0 ⊢;simp only at h0 ⊢;obtain ⟨a1,a2,a3,a4,a5,a6⟩:=zap hpv.vm hp hw;have hk:(zj w).1.1≠0:=fun h=>h0 ((zpH a6).1 h);have h4:(zj w).1.1≠4:=zlH.1 a5;have a7:=a6;unfold zcO at a7;simp only [Bool.and_eq_true,decide_eq_true_eq] at a7;obtain ⟨_,a7⟩:=a7;unfold zaO at a7;rw [if_neg hk,if_neg h4] at a7;refine ⟨fun e=>?_,fun e=>?_⟩
 ·subst e;simp at a7
 ·subst e;by_cases hk1:(zj w).1.1=1
  ·rw [if_pos hk1] at a7;simp at a7;refine (zpD (ds:=ds) hv.num.dasc ?_).1;have hd:=hv.dep;simp only at hd;rw [hd];refine zfm.2 ⟨p/8,by omega,rfl,zfp.2 ⟨f,?_,?_⟩⟩
   ·simp only at a3;have:p/8^(1+1)=p/8/8:=by simp;omega
    rw [this] at a3;exact a3
   ·simp only at a4;rw [zos] at a4;rw [<- a4];unfold zeP;rw [hk1,a7];rfl
  ·rw [if_neg hk1] at a7;simp at a7
structure Rnd (S:NdL) (a dg:Nat) (fr:Int) (cs cs':List AV) (b:Bool):Prop where
 g:(nrw S)[a]?=some (I fr::cs)
 gE:∀ h',(nrw S)[a]'(h')=I fr::cs
 l:cs.length=8
 st:(nrw S).set a (I fr::cs.set dg (.v (.int .u64 0)))=nrw (zo S a dg 0)
 g':(nrw (zo S a dg 0))[a]?=some (I fr::cs')
 gE':∀ h',(nrw (zo S a dg 0))[a]'(h')=I fr::cs'
 l':cs'.length=8
 eq:eqL cs' z8A=some b
 sk:zcU z8 cs'=true
 s1:(I fr::cs).set (1+dg) (.v (.int .u64 0))=I fr::cs.set dg (.v (.int .u64 0))
theorem rnd {S:NdL} (hS:∀ x∈S,zis x) {a dg:Nat} (ha:a<S.length) (hd:dg<8):∃ cs cs',Rnd S a dg (gn S a).1 cs cs' (decide ((gn (zo S a dg 0) a).2=zs8)):=by
 have h8:=(hS _ (zaL ha)).1;have hg:gn (zo S a dg 0) a=((gn S a).1,(gn S a).2.set dg 0):=by rw [zcl (by rw [sNl];exact ha)];unfold zo;rw [List.getElem_set_self];rfl
 have ha':a<(zo S a dg 0).length:=by rw [sNl];exact ha
 have hn:=@zdi S a dg 0 ha;have g':=nrG ha';have gE':=nrE ha';rw [hg] at g' gE' ⊢;refine ⟨wcs (gn S a).2,wcs ((gn S a).2.set dg 0),nrG ha,nrE ha,by simp [h8],hn,g',gE',by simp [h8],?_,?_,?_⟩
 ·show eqL _ (wcs zs8)=_;exact zoo (by simp [h8,zs8])
 ·exact ziI (n:=8) (by simp [h8])
 ·rw [Nat.add_comm];rfl
theorem znT {S:NdL}:kpF [] S=S:=by unfold kpF;exact List.filter_eq_self.2 fun x _=>by simp [inF]
theorem zcT {S:NdL} (hS:∀ x∈S,zis x) {a dg:Nat} (ha:a<S.length):∀ x∈zo S a dg 0,zis x:=zfC hS (by omega) ha
set_option maxHeartbeats 16000000 in
theorem s55 (X:AX) (hX:XOK prog X) (hw:X.W wT) (he:X.eqs 148=true) (hck:∀ t:Tb,zf t->∀ (n lim:Int) M k,X.call 109 [TbV t,I n,I lim] M k=some (I (ckd t n lim),[]))
  (hpa:∀ (t:Tb) (p:Nat),ptO t p->∀ M n,X.call 137 [TbV t,I p] M n=some (.sl n 1 3 0 (ptL t p).length,[(n,.vec 1 3 false (zbt (ptL t p)))]))
  (hdg:∀ (p l:Nat),p<512->l<=2->∀ M n,X.call 139 [I p,I l] M n=some (I (dgt p l),[]))
  (hcl:∀ t:Tb,zf t->∀ M n,X.call 128 [TbV t] M n=some (TbC t n,[(n,.vec 1 9 false (nrw t.2.1)),(n+1,.vec 1 2 false (prw t.2.2))]))
  (hwd:X.call 138=caG wdS) (hdf:X.call 140=caG dfB) :
  PSd prog 55 (spF (ι:={x:Tb×Int // zf x.1∧x.1.2.1.length<=999000}) (fun x=>[TbV x.1.1,I x.1.2]) fun x=>rtO [TbO (zcM x.1.1 x.1.2).1,U (zcM x.1.1 x.1.2).2.1,.ow 1 (irw (zcM x.1.1 x.1.2).2.2.1),I (zcM x.1.1 x.1.2).2.2.2]):=by
 refine psS hX mixed func55 rfl fun ⟨⟨⟨r,ns,ds⟩,pI⟩,ht,hl9⟩ w0 G=>⟨by show 2<=96;decide,rfl,?_⟩
 show AW ⟨prog,X,96,w0,.pure G⟩ _ _ _;have hc:=okc hX 96 w0 G;simp only at hl9 ht ⊢;have hck':=hck _ ht pI 512;have hl1:ns.length<=1000000:=ht.2.1;have hl2:ds.length<=1000000:=ht.2.2;rcases dE (ckd (r,ns,ds) pI 512≠0) with hk|hk
 ·have e:zcM (r,ns,ds) pI=(zT,0,[],ckd (r,ns,ds) pI 512):=by unfold zcM;rw [if_pos hk]
  rw [e];obtain ⟨c,hc0⟩:∃ c,c=ckd (r,ns,ds) pI 512:=⟨_,rfl⟩
  rw [<- hc0] at hck' hk ⊢;simp only [TbV,TbO,zT,U] at hck' ⊢;have zS:=jj hck'<|hk;refine zl ?_;repeat (intro K hK)
  clear zS;refine ⟨by simp,?_⟩;simp [lvI,f55,nrw,prw,irw];try exact dt
 ·obtain ⟨hpv,hp0,hp1⟩:=zoE ht hk;have hvt:=zq5 ht hk;obtain ⟨p,rfl⟩:=Int.eq_ofNat_of_zero_le hp0;have hp:p<512:=by omega
  have hz:ckd (r,ns,ds) p 512=0:=by omega
  rw [hz] at hck';have hpa':=hpa _ _ (hpv.pto ht hp);have hcl':=hcl _ ht;have eS:zcM (r,ns,ds) p=if (lsT (r,ns,ds) p).2.2=0 then (zT,0,[],6) else ((r,kpF (zpe (r,ns,ds) p) (zgh p ns (ptL (r,ns,ds) p).reverse).1,zq3 (r,ns,ds) p),(lsT (r,ns,ds) p).2.2,zpe (r,ns,ds) p,0):=by unfold zcM;rw [if_neg hk,Int.toNat_natCast]
  rw [eS];have hdg2:=hdg p 2 hp (by omega);have hdg1:=hdg p 1 hp (by omega);have hdg0:=hdg p 0 hp (by omega);have hd2:=zbA p 2;have hd1:=zbA p 1;have hd0:=zbA p 0;have hlw:=zg6 hpv hp;rw [show ((2:Nat):Int)=2 from rfl] at hdg2;rw [show ((1:Nat):Int)=1 from rfl] at hdg1;rw [show ((0:Nat):Int)=0 from rfl] at hdg0;have hd2I:((dgt p 2:Nat):Int)<8:=by omega
  have hd1I:((dgt p 1:Nat):Int)<8:=by omega
  have hd0I:((dgt p 0:Nat):Int)<8:=by omega
  have hdv:(p:Int).tdiv 8=((p/8:Nat):Int):=by rw [Int.tdiv_eq_ediv_of_nonneg (by omega)];omega
  rcases (by omega:(lsT (r,ns,ds) p).2.1=0∨(lsT (r,ns,ds) p).2.1=1∨(lsT (r,ns,ds) p).2.1=2) with hlev|hlev|hlev
  ·obtain ⟨n2,w2,n1,w1,hn2,hn1,hpl⟩:=zuo hpv hp hlev;have hA:zpe (r,ns,ds) p=(zgh p ns (ptL (r,ns,ds) p).reverse).2:=by unfold zpe zwz;rw [if_neg (by rw [hlev];decide)];rfl
   have hD:zq3 (r,ns,ds) p=ds:=by unfold zq3;rw [if_neg (by rw [hlev];decide)]
   rw [hA,hD];rw [hpl] at hpa' ⊢;obtain ⟨⟨n0,l0,w⟩,hS⟩:∃ S,S=lsT (r,ns,ds) p:=⟨_,rfl⟩
   rw [<- hS] at hlev hlw hpa' ⊢;simp only at hlev hlw;subst hlev;clear hS hA hD eS hpl;simp only [TbV,TbO,TbC,zbt,zfa,List.map_cons,List.map_nil,U,List.reverse_cons,List.reverse_nil,List.nil_append,List.cons_append,List.length_cons,List.length_nil,Nat.zero_add] at hck' hpa' hcl' ⊢;rcases dE (w=0) with hw0|hw0
   ·rw [if_pos hw0];subst hw0;simp only [zT];have zS:=jj hck'<|hpa';refine zl ?_;repeat (intro K hK)
    clear zS;all_goals refine ⟨by simp,?_⟩
    all_goals simp [lvI,f55,nrw,prw,irw]
    all_goals try exact dt
   ·rw [if_neg hw0];have hw0I:¬ (w:Int)=0:=by omega
    have hn0:n0<ns.length:=hlw.1;have hn0I:(n0:Int)<(ns.length:Int):=by omega
    have hn1I:(n1:Int)<(ns.length:Int):=by omega
    have hn2I:(n2:Int)<(ns.length:Int):=by omega
    obtain ⟨ca,ca',Ra⟩:=rnd (S:=ns) ht.1 (a:=n0) hn0 hd0;have qRa:=Ra.eq;have kRa:=Ra.sk;simp only [z8,z8A] at qRa kRa;have tkRa:List.take 8 ca'=ca':=tkL (by have:=Ra.l';omega);have cA:zgh p ns [(n0,0,w),(n1,1,w1),(n2,2,w2)]=if (gn (zo ns n0 (dgt p 0) 0) n0).2=zs8 then ((zgh p (zo ns n0 (dgt p 0) 0) [(n1,1,w1),(n2,2,w2)]).1,(gn ns n0).1::(zgh p (zo ns n0 (dgt p 0) 0) [(n1,1,w1),(n2,2,w2)]).2) else (zo ns n0 (dgt p 0) 0,[]):=rfl
    have g0:(gn ns n0).1=(gn ns n0).1:=rfl;obtain ⟨S1,hS1⟩:∃ S,S=zo ns n0 (dgt p 0) 0:=⟨_,rfl⟩
    have hS1o:∀ x∈S1,zis x:=by rw [hS1];exact zcT ht.1 hn0
    have hS1l:S1.length=ns.length:=by rw [hS1,sNl]
    have Ra1:=Ra.st;have Ra2:=Ra.g';have Ra3:=Ra.gE';rw [<- hS1] at cA qRa Ra1 Ra2 Ra3;have hS1n:∀ n,n<ns.length->n<S1.length:=fun n h=>by omega
    have hn1S:n1<S1.length:=by omega
    obtain ⟨cb,cb',Rb⟩:=rnd (S:=S1) hS1o (a:=n1) hn1S hd1;have qRb:=Rb.eq;have kRb:=Rb.sk;simp only [z8,z8A] at qRb kRb;have tkRb:List.take 8 cb'=cb':=tkL (by have:=Rb.l';omega);have cB:zgh p S1 [(n1,1,w1),(n2,2,w2)]=if (gn (zo S1 n1 (dgt p 1) 0) n1).2=zs8 then ((zgh p (zo S1 n1 (dgt p 1) 0) [(n2,2,w2)]).1,(gn S1 n1).1::(zgh p (zo S1 n1 (dgt p 1) 0) [(n2,2,w2)]).2) else (zo S1 n1 (dgt p 1) 0,[]):=rfl
    obtain ⟨S2,hS2⟩:∃ S,S=zo S1 n1 (dgt p 1) 0:=⟨_,rfl⟩
    have hS2o:∀ x∈S2,zis x:=by rw [hS2];exact zcT hS1o hn1S
    have hS2l:S2.length=ns.length:=by rw [hS2,sNl];exact hS1l
    have Rb1:=Rb.st;have Rb2:=Rb.g';have Rb3:=Rb.gE';rw [<- hS2] at cB qRb Rb1 Rb2 Rb3;have hn2S:n2<S2.length:=by omega
    obtain ⟨cc,cc',Rc⟩:=rnd (S:=S2) hS2o (a:=n2) hn2S hd2;have qRc:=Rc.eq;have kRc:=Rc.sk;simp only [z8,z8A] at qRc kRc;have tkRc:List.take 8 cc'=cc':=tkL (by have:=Rc.l';omega);have cC:zgh p S2 [(n2,2,w2)]=(zo S2 n2 (dgt p 2) 0,[]):=rfl;obtain ⟨S3,hS3⟩:∃ S,S=zo S2 n2 (dgt p 2) 0:=⟨_,rfl⟩
    have hS3o:∀ x∈S3,zis x:=by rw [hS3];exact zcT hS2o hn2S
    have hS3l:S3.length=ns.length:=by rw [hS3,sNl];exact hS2l
    have Rc1:=Rc.st;have Rc2:=Rc.g';have Rc3:=Rc.gE';rw [<- hS3] at cC qRc Rc1 Rc2 Rc3;clear hS1 hS2 hS3;obtain ⟨f0,hf0⟩:∃ f,f=(gn ns n0).1:=⟨_,rfl⟩
    obtain ⟨f1,hf1⟩:∃ f,f=(gn S1 n1).1:=⟨_,rfl⟩
    rw [<- hf0] at cA Ra;rw [<- hf1] at cB Rb;rw [<- hf0] at Ra2 Ra3 Ra1;rw [<- hf1] at Rb2 Rb3 Rb1;rcases dE ((gn S1 n0).2=zs8) with hza|hza
    ·rw [decide_eq_true hza] at qRa;rw [if_pos hza] at cA;rcases dE ((gn S2 n1).2=zs8) with hzb|hzb
     ·rw [decide_eq_true hzb] at qRb;rw [if_pos hzb,cC] at cB;rw [cB] at cA;rw [cA];have hdf':=fun M n=>@zlM 432 480 1200 (by decide) (by decide) (by decide) S3 [f0,f1] ⟨hS3o,by show S3.length<=_;omega,by simp⟩ ns.length hS3l.symm 0 1 M n;rw [<- hdf] at hdf';simp only [Nat.zero_add,irw,List.map_cons,List.map_nil,List.length_cons,List.length_nil,Nat.reduceAdd] at hdf';have zS:=jj hck'<|jj hpa'<|jj hcl'<|jj hw0<|jj hw0I<|jj hdg2<|jj hdg1<|jj hdg0<|jj hd2<|jj hd1<|jj hd0<|jj hd2I<|jj hd1I<|jj hd0I<|jj he<|jj ziu<|zbi;repeat' (first|(refine aSk fun K hK=>?_)|(refine zp ?_)|(refine eC (fun h=>?_) (fun h=>?_)<;>(try simp at h))|(refine hK _ ?_;clear hK)|(clear hK;refine hK _ ?_;clear hK))
      all_goals clear zS
      refine zif 3 (aRd ?_);have zS:=jj hck'<|jj hpa'<|jj hcl'<|jj hw0<|jj hw0I<|jj hdg2<|jj hdg1<|jj hdg0<|jj hd2<|jj hd1<|jj hd0<|jj hd2I<|jj hd1I<|jj hd0I<|jj he<|jj ziu<|jj zbi<|jj hn0<|jj hn1<|jj hn2<|jj hn0I<|jj hn1I<|jj hn2I<|jj hn1S<|jj hn2S<|jj Ra.g<|jj Ra.gE<|jj Ra.l<|jj Ra1<|jj Ra2<|jj Ra3<|jj Ra.l'<|jj Ra.s1<|jj qRa<|jj kRa<|jj tkRa<|jj Rb.g<|jj Rb.gE<|jj Rb.l<|jj Rb1<|jj Rb2<|jj Rb3<|jj Rb.l'<|jj Rb.s1<|jj qRb<|jj kRb<|jj tkRb<|jj Rc.g<|jj Rc.gE<|jj Rc.l<|jj Rc1<|jj Rc2<|jj Rc3<|jj Rc.l'<|jj Rc.s1<|jj tkRc<|hdf';repeat' (first|(refine aSk fun K hK=>?_)|(refine zp ?_)|(refine eC (fun h=>?_) (fun h=>?_)<;>(try simp at h))|(refine hK _ ?_;clear hK)|clear hK)
      all_goals clear zS
      have hkl:=@zf1 [f0,f1] S3;have tkR:List.take (kpF [f0,f1] S3).length (nrw (dfR [f0,f1] S3))=nrw (kpF [f0,f1] S3):=by rw [zcj];unfold dfR;rw [List.take_left]
      have hkd:(kpF [f0,f1] S3).length<=(dfR [f0,f1] S3).length:=by rw [zh2];exact hkl
      have tkD:List.take ds.length (prw ds)=prw ds:=tkL (by simp);refine ⟨by simp,?_⟩;simp [lvI,f55,tkR,hkd,tkD,irw];try exact dt
     ·rw [decide_eq_false hzb] at qRb;rw [if_neg hzb] at cB;rw [cB] at cA;rw [cA];have hdf':=fun M n=>@zlM 432 480 1200 (by decide) (by decide) (by decide) S2 [f0] ⟨hS2o,by show S2.length<=_;omega,by simp⟩ ns.length hS2l.symm 0 0 M n;rw [<- hdf] at hdf';simp only [Nat.zero_add,irw,List.map_cons,List.map_nil,List.length_cons,List.length_nil,Nat.reduceAdd] at hdf';have zS:=jj hck'<|jj hpa'<|jj hcl'<|jj hw0<|jj hw0I<|jj hdg2<|jj hdg1<|jj hdg0<|jj hd2<|jj hd1<|jj hd0<|jj hd2I<|jj hd1I<|jj hd0I<|jj he<|jj ziu<|zbi;repeat' (first|(refine aSk fun K hK=>?_)|(refine zp ?_)|(refine eC (fun h=>?_) (fun h=>?_)<;>(try simp at h))|(refine hK _ ?_;clear hK)|(clear hK;refine hK _ ?_;clear hK))
      all_goals clear zS
      refine zif 2 (aRd ?_);have zS:=jj hck'<|jj hpa'<|jj hcl'<|jj hw0<|jj hw0I<|jj hdg2<|jj hdg1<|jj hdg0<|jj hd2<|jj hd1<|jj hd0<|jj hd2I<|jj hd1I<|jj hd0I<|jj he<|jj ziu<|jj zbi<|jj hn0<|jj hn1<|jj hn2<|jj hn0I<|jj hn1I<|jj hn2I<|jj hn1S<|jj hn2S<|jj Ra.g<|jj Ra.gE<|jj Ra.l<|jj Ra1<|jj Ra2<|jj Ra3<|jj Ra.l'<|jj Ra.s1<|jj qRa<|jj kRa<|jj tkRa<|jj Rb.g<|jj Rb.gE<|jj Rb.l<|jj Rb1<|jj Rb2<|jj Rb3<|jj Rb.l'<|jj Rb.s1<|jj qRb<|jj kRb<|jj tkRb<|hdf';repeat' (first|(refine aSk fun K hK=>?_)|(refine zp ?_)|(refine eC (fun h=>?_) (fun h=>?_)<;>(try simp at h))|(refine hK _ ?_;clear hK)|clear hK)
      all_goals clear zS
      have hkl:=@zf1 [f0] S2;have tkR:List.take (kpF [f0] S2).length (nrw (dfR [f0] S2))=nrw (kpF [f0] S2):=by rw [zcj];unfold dfR;rw [List.take_left]
      have hkd:(kpF [f0] S2).length<=(dfR [f0] S2).length:=by rw [zh2];exact hkl
      have tkD:List.take ds.length (prw ds)=prw ds:=tkL (by simp);refine ⟨by simp,?_⟩;simp [lvI,f55,tkR,hkd,tkD,irw];try exact dt
    ·rw [decide_eq_false hza] at qRa;rw [if_neg hza] at cA;rw [cA];have hdf':=fun M n=>@zsJ 432 480 (by decide) S1 ⟨hS1o,by show S1.length<=_;omega,by simp⟩ ns.length hS1l.symm 0 M n;rw [<- hdf] at hdf';simp only [Nat.zero_add,irw,List.map_cons,List.map_nil,List.length_cons,List.length_nil,Nat.reduceAdd] at hdf';have zS:=jj hck'<|jj hpa'<|jj hcl'<|jj hw0<|jj hw0I<|jj hdg2<|jj hdg1<|jj hdg0<|jj hd2<|jj hd1<|jj hd0<|jj hd2I<|jj hd1I<|jj hd0I<|jj he<|jj ziu<|zbi;repeat' (first|(refine aSk fun K hK=>?_)|(refine zp ?_)|(refine eC (fun h=>?_) (fun h=>?_)<;>(try simp at h))|(refine hK _ ?_;clear hK)|(clear hK;refine hK _ ?_;clear hK))
     all_goals clear zS
     refine zif 1 (aRd ?_);have zS:=jj hck'<|jj hpa'<|jj hcl'<|jj hw0<|jj hw0I<|jj hdg2<|jj hdg1<|jj hdg0<|jj hd2<|jj hd1<|jj hd0<|jj hd2I<|jj hd1I<|jj hd0I<|jj he<|jj ziu<|jj zbi<|jj hn0<|jj hn1<|jj hn2<|jj hn0I<|jj hn1I<|jj hn2I<|jj hn1S<|jj hn2S<|jj Ra.g<|jj Ra.gE<|jj Ra.l<|jj Ra1<|jj Ra2<|jj Ra3<|jj Ra.l'<|jj Ra.s1<|jj qRa<|jj kRa<|jj tkRa<|hdf';repeat' (first|(refine aSk fun K hK=>?_)|(refine zp ?_)|(refine eC (fun h=>?_) (fun h=>?_)<;>(try simp at h))|(refine hK _ ?_;clear hK)|clear hK)
     all_goals clear zS
     have tkR:List.take ns.length (nrw S1)=nrw S1:=tkL (by simp;omega);have tkD:List.take ds.length (prw ds)=prw ds:=tkL (by simp);refine ⟨by simp,?_⟩;simp [lvI,f55,tkR,znT,hS1l,tkD,irw];try exact dt
  ·have hent:=zjj hvt hp;obtain ⟨n2,w2,hn2,hpl⟩:=zun hpv hp hlev;have hA:zpe (r,ns,ds) p=(gp ds (zdG ds ((p/8:Nat):Int))).2::(zgh p ns (ptL (r,ns,ds) p).reverse).2:=by unfold zpe zwz;rw [if_pos hlev];rfl
   have hD:zq3 (r,ns,ds) p=zpd ds ((p/8:Nat):Int):=by unfold zq3;rw [if_pos hlev]
   rw [hA,hD];rw [hpl] at hpa' ⊢;obtain ⟨⟨n1,l0,w⟩,hS⟩:∃ S,S=lsT (r,ns,ds) p:=⟨_,rfl⟩
   rw [<- hS] at hlev hlw hpa' hent ⊢;simp only at hlev hlw hent;subst hlev;clear hS hA hD eS hpl;simp only [TbV,TbO,TbC,zbt,zfa,List.map_cons,List.map_nil,U,List.reverse_cons,List.reverse_nil,List.nil_append,List.cons_append,List.length_cons,List.length_nil,Nat.zero_add] at hck' hpa' hcl' ⊢;rcases dE (w=0) with hw0|hw0
   ·rw [if_pos hw0];subst hw0;simp only [zT];have zS:=jj hck'<|hpa';refine zl ?_;repeat (intro K hK)
    clear zS;all_goals refine ⟨by simp,?_⟩
    all_goals simp [lvI,f55,nrw,prw,irw]
    all_goals try exact dt
   ·rw [if_neg hw0];have hw0I:¬ (w:Int)=0:=by omega
    have hlo:=(hent hw0).2 rfl;have hwd':=fun M n=>@zvw 448 432 433 (by decide) (by decide) (by decide) r ns ds ((p/8:Nat):Int) ht hvt.num.dasc hlo 0 0 M n;rw [<- hwd] at hwd';simp only [Nat.zero_add] at hwd';have hdlen:=zh3 hlo;have hdle:ds.length - 1<=1000000:=by omega
    obtain ⟨fd,hfd⟩:∃ f,f=(gp ds (zdG ds ((p/8:Nat):Int))).2:=⟨_,rfl⟩
    obtain ⟨DL,hDL⟩:∃ D,D=zpd ds ((p/8:Nat):Int):=⟨_,rfl⟩
    rw [<- hfd,<- hDL] at hwd' ⊢;rw [<- hDL] at hdlen;obtain ⟨g8,hg8⟩:∃ g:Int,g=((p/8:Nat):Int):=⟨_,rfl⟩
    rw [<- hg8] at hdv hwd';have hn1:n1<ns.length:=hlw.1;have hn1I:(n1:Int)<(ns.length:Int):=by omega
    have hn2I:(n2:Int)<(ns.length:Int):=by omega
    obtain ⟨cb,cb',Rb⟩:=rnd (S:=ns) ht.1 (a:=n1) hn1 hd1;have qRb:=Rb.eq;have kRb:=Rb.sk;simp only [z8,z8A] at qRb kRb;have tkRb:List.take 8 cb'=cb':=tkL (by have:=Rb.l';omega);have cB:zgh p ns [(n1,1,w),(n2,2,w2)]=if (gn (zo ns n1 (dgt p 1) 0) n1).2=zs8 then ((zgh p (zo ns n1 (dgt p 1) 0) [(n2,2,w2)]).1,(gn ns n1).1::(zgh p (zo ns n1 (dgt p 1) 0) [(n2,2,w2)]).2) else (zo ns n1 (dgt p 1) 0,[]):=rfl
    obtain ⟨S2,hS2⟩:∃ S,S=zo ns n1 (dgt p 1) 0:=⟨_,rfl⟩
    have hS2o:∀ x∈S2,zis x:=by rw [hS2];exact zcT ht.1 hn1
    have hS2l:S2.length=ns.length:=by rw [hS2,sNl]
    have Rb1:=Rb.st;have Rb2:=Rb.g';have Rb3:=Rb.gE';rw [<- hS2] at cB qRb Rb1 Rb2 Rb3;have hn2S:n2<S2.length:=by omega
    obtain ⟨cc,cc',Rc⟩:=rnd (S:=S2) hS2o (a:=n2) hn2S hd2;have qRc:=Rc.eq;have kRc:=Rc.sk;simp only [z8,z8A] at qRc kRc;have tkRc:List.take 8 cc'=cc':=tkL (by have:=Rc.l';omega);have cC:zgh p S2 [(n2,2,w2)]=(zo S2 n2 (dgt p 2) 0,[]):=rfl;obtain ⟨S3,hS3⟩:∃ S,S=zo S2 n2 (dgt p 2) 0:=⟨_,rfl⟩
    have hS3o:∀ x∈S3,zis x:=by rw [hS3];exact zcT hS2o hn2S
    have hS3l:S3.length=ns.length:=by rw [hS3,sNl];exact hS2l
    have Rc1:=Rc.st;have Rc2:=Rc.g';have Rc3:=Rc.gE';rw [<- hS3] at cC qRc Rc1 Rc2 Rc3;clear hS2 hS3;obtain ⟨f1,hf1⟩:∃ f,f=(gn ns n1).1:=⟨_,rfl⟩
    rw [<- hf1] at cB Rb Rb2 Rb3 Rb1;rcases dE ((gn S2 n1).2=zs8) with hzb|hzb
    ·rw [decide_eq_true hzb] at qRb;rw [if_pos hzb,cC] at cB;rw [cB];have hdf':=fun M n=>@zlM 432 480 624 (by decide) (by decide) (by decide) S3 [fd,f1] ⟨hS3o,by show S3.length<=_;omega,by simp⟩ ns.length hS3l.symm 0 1 M n;rw [<- hdf] at hdf';simp only [Nat.zero_add,irw,List.map_cons,List.map_nil,List.length_cons,List.length_nil,Nat.reduceAdd] at hdf';have zS:=jj hck'<|jj hpa'<|jj hcl'<|jj hw0<|jj hw0I<|jj hdg2<|jj hdg1<|jj hdg0<|jj hd2<|jj hd1<|jj hd0<|jj hd2I<|jj hd1I<|jj hd0I<|jj he<|jj ziu<|jj zbi<|jj hwd'<|hdv;repeat' (first|(refine aSk fun K hK=>?_)|(refine zp ?_)|(refine eC (fun h=>?_) (fun h=>?_)<;>(try simp at h))|(refine hK _ ?_;clear hK)|(clear hK;refine hK _ ?_;clear hK))
     all_goals clear zS
     refine zif 2 (aRd ?_);have zS:=jj hck'<|jj hpa'<|jj hcl'<|jj hw0<|jj hw0I<|jj hdg2<|jj hdg1<|jj hdg0<|jj hd2<|jj hd1<|jj hd0<|jj hd2I<|jj hd1I<|jj hd0I<|jj he<|jj ziu<|jj zbi<|jj hwd'<|jj hdv<|jj hn1<|jj hn2<|jj hn1I<|jj hn2I<|jj hn2S<|jj Rb.g<|jj Rb.gE<|jj Rb.l<|jj Rb1<|jj Rb2<|jj Rb3<|jj Rb.l'<|jj Rb.s1<|jj qRb<|jj kRb<|jj tkRb<|jj Rc.g<|jj Rc.gE<|jj Rc.l<|jj Rc1<|jj Rc2<|jj Rc3<|jj Rc.l'<|jj Rc.s1<|jj tkRc<|hdf';repeat' (first|(refine aSk fun K hK=>?_)|(refine zp ?_)|(refine eC (fun h=>?_) (fun h=>?_)<;>(try simp at h))|(refine hK _ ?_;clear hK)|clear hK)
     all_goals clear zS
     have hkl:=@zf1 [fd,f1] S3;have tkR:List.take (kpF [fd,f1] S3).length (nrw (dfR [fd,f1] S3))=nrw (kpF [fd,f1] S3):=by rw [zcj];unfold dfR;rw [List.take_left]
     have hkd:(kpF [fd,f1] S3).length<=(dfR [fd,f1] S3).length:=by rw [zh2];exact hkl
     have tkD:List.take (ds.length - 1) (prw DL)=prw DL:=tkL (by simp;omega);refine ⟨by simp,?_⟩;simp [lvI,f55,tkR,hkd,tkD,hdlen,irw];try exact dt
    ·rw [decide_eq_false hzb] at qRb;rw [if_neg hzb] at cB;rw [cB];have hdf':=fun M n=>@zlM 432 480 624 (by decide) (by decide) (by decide) S2 [fd] ⟨hS2o,by show S2.length<=_;omega,by simp⟩ ns.length hS2l.symm 0 0 M n;rw [<- hdf] at hdf';simp only [Nat.zero_add,irw,List.map_cons,List.map_nil,List.length_cons,List.length_nil,Nat.reduceAdd] at hdf';have zS:=jj hck'<|jj hpa'<|jj hcl'<|jj hw0<|jj hw0I<|jj hdg2<|jj hdg1<|jj hdg0<|jj hd2<|jj hd1<|jj hd0<|jj hd2I<|jj hd1I<|jj hd0I<|jj he<|jj ziu<|jj zbi<|jj hwd'<|hdv;repeat' (first|(refine aSk fun K hK=>?_)|(refine zp ?_)|(refine eC (fun h=>?_) (fun h=>?_)<;>(try simp at h))|(refine hK _ ?_;clear hK)|(clear hK;refine hK _ ?_;clear hK))
     all_goals clear zS
     refine zif 1 (aRd ?_);have zS:=jj hck'<|jj hpa'<|jj hcl'<|jj hw0<|jj hw0I<|jj hdg2<|jj hdg1<|jj hdg0<|jj hd2<|jj hd1<|jj hd0<|jj hd2I<|jj hd1I<|jj hd0I<|jj he<|jj ziu<|jj zbi<|jj hwd'<|jj hdv<|jj hn1<|jj hn2<|jj hn1I<|jj hn2I<|jj hn2S<|jj Rb.g<|jj Rb.gE<|jj Rb.l<|jj Rb1<|jj Rb2<|jj Rb3<|jj Rb.l'<|jj Rb.s1<|jj qRb<|jj kRb<|jj tkRb<|hdf';repeat' (first|(refine aSk fun K hK=>?_)|(refine zp ?_)|(refine eC (fun h=>?_) (fun h=>?_)<;>(try simp at h))|(refine hK _ ?_;clear hK)|clear hK)
     all_goals clear zS
     have hkl:=@zf1 [fd] S2;have tkR:List.take (kpF [fd] S2).length (nrw (dfR [fd] S2))=nrw (kpF [fd] S2):=by rw [zcj];unfold dfR;rw [List.take_left]
     have hkd:(kpF [fd] S2).length<=(dfR [fd] S2).length:=by rw [zh2];exact hkl
     have tkD:List.take (ds.length - 1) (prw DL)=prw DL:=tkL (by simp;omega);refine ⟨by simp,?_⟩;simp [lvI,f55,tkR,hkd,tkD,hdlen,irw];try exact dt
  ·have hent:=zjj hvt hp;have hpl:=zum hpv hp hlev;rw [hpl] at hpa' ⊢;obtain ⟨⟨n2,l0,w⟩,hS⟩:∃ S,S=lsT (r,ns,ds) p:=⟨_,rfl⟩
   rw [<- hS] at hlev hpa' hent ⊢;simp only at hlev hent;subst hlev;have hw0:w=0:=Decidable.byContradiction fun h=>(hent h).1 rfl;subst hw0;rw [if_pos rfl];clear hS eS hpl;simp only [TbV,TbO,zT,zbt,zfa,List.map_cons,List.map_nil,U,List.length_cons,List.length_nil,Nat.zero_add] at hck' hpa' ⊢;have zS:=jj hck'<|hpa';refine zl ?_;repeat (intro K hK)
   clear zS;all_goals refine ⟨by simp,?_⟩
   all_goals simp [lvI,f55,nrw,prw,irw]
   all_goals try exact dt
def zxr (t:Tb):Bool :=
 decide (∀ n∈t.2.1,zha n.1)&&(decide (∀ d∈t.2.2,zha d.2∧0<=d.1∧d.1<64)&&(decide (t.2.1.Pairwise fun a b=>a.1<b.1)&&(decide (t.2.2.Pairwise fun a b=>a.1<b.1) &&
 (decide (∀ d∈t.2.2,∀ n∈t.2.1,n.1≠d.2)&&(decide (t.2.2.Pairwise fun a b=>a.2≠b.2)&&decide (∃ n∈t.2.1,n.1=t.1))))))
theorem zrS {t:Tb} (h:zxr t=true):zs4 t:=by simp only [zxr,Bool.and_eq_true,decide_eq_true_eq] at h;obtain ⟨h1,h2,h3,h4,h5,h6,h7⟩:=h;exact ⟨h1,h2,h3,h4,h5,h6,h7⟩
def zmS (t:Tb):Bool:=zxr t&&decide ((wkA t).1=true∧false ∉ (wkA t).2.1∧(wkA t).2.2=t.2.2.map (·.1))
theorem zsC {t:Tb} (h:zmS t=true):chk t=0:=by simp only [zmS,Bool.and_eq_true,decide_eq_true_eq] at h;unfold chk;rw [if_neg (by simp [zfS.2 (zrS h.1)]),if_pos h.2]
def hT:Tb:=(10,[(10,[0,2820,0,0,0,0,0,0]),(11,[0,4201,0,0,0,0,0,0])],[(9,12)])
theorem hC:zmS hT=true:=by kernel_rfl
def OwT (M:Nat->AO) (t:Tb) (a va b vb:Nat):Prop:=(∃ f,M a=.vec va 9 f (nrw t.2.1))∧∃ f,M b=.vec vb 2 f (prw t.2.2)
def TbS (t:Tb) (a va b vb:Nat):AV:=.agg [I t.1,.sl a va 9 0 t.2.1.length,.sl b vb 2 0 t.2.2.length]
theorem zpp {M:Nat->AO} {t:Tb} {a va b vb:Nat} {rest rs:List AV} (h:OwT M t a va b vb) (hr:zah M rest=some rs):zah M (TbS t a va b vb::rest)=some (TbV t::rs):=by obtain ⟨⟨f1,h1⟩,f2,h2⟩:=h;have e1:List.take t.2.1.length (nrw t.2.1)=nrw t.2.1:=tkL (by simp);have e2:List.take t.2.2.length (prw t.2.2)=prw t.2.2:=tkL (by simp);simp [TbS,TbV,hr,h1,h2,e1,e2]
noncomputable section
def FbF:List AV->Option AV:=spF (ι:=Bool×Int) (fun x=>[B x.1,U x.2]) fun x=>rtO [U (fb x.1 x.2)]
theorem cFb (b:Bool) (c:Int) (M:Nat->AO) (n:Nat):caP FbF [B b,.v (.int .u64 c)] M n=some (.v (.int .u64 (fb b c)),[]) :=cPs (ι:=Bool×Int) (A:=fun x=>[B x.1,U x.2]) (R:=fun x=>rtO [U (fb x.1 x.2)]) (b,c) (by simp [U]) (by rintro ⟨b',c'⟩ e;simp [B,U] at e;obtain ⟨rfl,rfl⟩:=e;rfl) (by simp [U])
def FmF:List AV->Option AV:=spF (ι:={e:En // 0<=e.1∧e.1<=4}) (fun x=>[EnV x.1]) fun x=>rtO [B (zhX x.1)]
theorem cFm (k f:Int) (d a x h:Bool) (hk:0<=k∧k<=4) (M:Nat->AO) (n:Nat):caP FmF [.agg [I k,I f,B d,B a,B x,B h]] M n=some (B (zhX (k,f,d,a,x,h)),[]) :=cPs (ι:={e:En // 0<=e.1∧e.1<=4}) (A:=fun x=>[EnV x.1]) (R:=fun x=>rtO [B (zhX x.1)]) ⟨(k,f,d,a,x,h),hk⟩ (by simp [EnV]) (by rintro ⟨e',h'⟩ e;simp only [cJ,zkM,and_true] at e;subst e;rfl) (by simp)
def zy4:List AV->Option AV:=spF (ι:=En) (fun x=>[EnV x]) fun x=>rtO [U (zdq x).1,I (zdq x).2]
theorem cEn (k f:Int) (d a x h:Bool) (M:Nat->AO) (n:Nat):caP zy4 [.agg [I k,I f,B d,B a,B x,B h]] M n=some (.tup [U (zdq (k,f,d,a,x,h)).1,I (zdq (k,f,d,a,x,h)).2],[]) :=cPs (ι:=En) (A:=fun x=>[EnV x]) (R:=fun x=>rtO [U (zdq x).1,I (zdq x).2]) (k,f,d,a,x,h) (by simp [EnV]) (by rintro e' e;simp only [cJ,zkM,and_true] at e;subst e;rfl) (by simp [U])
def zA0:List AV->Option AV:=spF (ι:={n:Nat // n<2^64}) (fun x=>[U x.1]) fun x=>rtO [EnV (zj x.1).1,I (zj x.1).2]
theorem ztU {a b:Nat} (h:[U a]=[U b]):a=b:=by simp only [cJ,U,AV.v.injEq,Value.int.injEq,true_and,and_true] at h;omega
theorem cDe (w:Nat) (hw:w<2^64) (M:Nat->AO) (n:Nat):caP zA0 [U w] M n=some (.tup [EnV (zj w).1,I (zj w).2],[]) :=cPs (ι:={n:Nat // n<2^64}) (A:=fun x=>[U x.1]) (R:=fun x=>rtO [EnV (zj x.1).1,I (zj x.1).2]) ⟨w,hw⟩ (by simp [U]) (by rintro ⟨w',h'⟩ e;have:=ztU e;simp only at this;subst this;rfl) (by simp [EnV])
def Te0:AX:=(((((AX.start wT).eqAt 103).eqAt 170).eqAt 86).eqAt 148).eqAt 150
theorem w0T:Te0.W wT:=⟨rfl,rfl⟩
theorem zpZ (x:En):(rtO [U (zdq x).1,I (zdq x).2]).flat:=by simp [rtO,AV.flat,AV.flatV,AV.flat1,U]
theorem zp4 (n:Nat):(rtO [EnV (zj n).1,I (zj n).2]).flat:=by simp [rtO,AV.flat,AV.flatV,AV.flat1,EnV]
end
theorem zrT {l:List Nd}:∀ e∈nrw l,∀ a∈e,a.plain:=by intro e he a ha;obtain ⟨x,_,rfl⟩:=List.mem_map.1 he;simp only [zcq,wcs,List.mem_cons,List.mem_map] at ha;rcases ha with rfl|⟨y,_,rfl⟩<;>trivial
theorem zrH {l:List Dp}:∀ e∈prw l,∀ a∈e,a.plain:=by intro e he a ha;obtain ⟨x,_,rfl⟩:=List.mem_map.1 he;simp at ha;rcases ha with rfl|rfl<;>trivial
theorem zry {l:List Stp}:∀ e∈zbt l,∀ a∈e,a.plain:=by intro e he a ha;obtain ⟨x,_,rfl⟩:=List.mem_map.1 he;simp [zfa] at ha;rcases ha with rfl|rfl|rfl<;>trivial
theorem zsr {l:List Pe}:∀ e∈za9 l,∀ a∈e,a.plain:=by intro e he a ha;obtain ⟨x,_,rfl⟩:=List.mem_map.1 he;simp [zwt] at ha;rcases ha with rfl|rfl<;>trivial
theorem zlb:∀ {l:List (List Int×AV)} {q:List Int} {b:AV} {p:List Int×AV},p∈zgz l q b->p∈l∨p=(q,b)
 | [],q,b,p,h=>by simp [zgz] at h;exact .inr h
 | (k,a)::r,q,b,p,h=>by
  simp only [zgz] at h;split at h
  ·rcases List.mem_cons.1 h with h|h
   ·exact .inr h
   ·exact .inl (by simp [h])
  ·rcases List.mem_cons.1 h with h|h
   ·exact .inl (by simp [h])
   ·rcases zlb h with h|h
    ·exact .inl (by simp [h])
    ·exact .inr h
theorem zn4 {ns:List Nd}:∀ {n:Nat},∀ p∈zcF ns n,p.2.plain
 | 0,p,h=>by simp [zcF] at h
 | n+1,p,h=>by
  simp only [zcF] at h;rcases zlb h with h|h
  ·exact zn4 p h
  ·rw [h];trivial
theorem zv2 {t:Tb}:(TbO t).flatV:=by
 intro a ha;simp at ha;rcases ha with rfl|rfl|rfl
 ·trivial
 ·exact zrT
 ·exact zrH
theorem cT1 {D:Tb->Prop} {R:Tb->AV} {t:Tb} (h:D t) (M:Nat->AO) (n:Nat) {a:AV} {u:List (Nat×AO)} {k:Nat} (ho:oRt n (R t)=(a,u,k)) (hk:k<=n+16):caP (spF (ι:={x:Tb // D x}) (fun x=>[TbV x.1]) fun x=>R x.1) [TbV t] M n=some (a,u):=by rw [cPs (ι:={x:Tb // D x}) (A:=fun x=>[TbV x.1]) (R:=fun x=>R x.1) ⟨t,h⟩ (by simp [TbV]) ?_ (by rw [ho];exact hk),ho];rintro ⟨j,hj⟩ e;simp only [cJ,TbJ,and_true] at e;subst e;rfl
theorem cT2 {D:Tb->Int->Prop} {R:Tb->Int->AV} {t:Tb} {x:Int} (h:D t x) (M:Nat->AO) (n:Nat) {a:AV} {u:List (Nat×AO)} {k:Nat} (ho:oRt n (R t x)=(a,u,k)) (hk:k<=n+16):caP (spF (ι:={x:Tb×Int // D x.1 x.2}) (fun x=>[TbV x.1.1,I x.1.2]) fun x=>R x.1.1 x.1.2) [TbV t,I x] M n=some (a,u):=by rw [cPs (ι:={x:Tb×Int // D x.1 x.2}) (A:=fun x=>[TbV x.1.1,I x.1.2]) (R:=fun x=>R x.1.1 x.1.2) ⟨(t,x),h⟩ (by simp [TbV]) ?_ (by rw [ho];exact hk),ho];rintro ⟨⟨j,y⟩,hj⟩ e;simp only [cJ,TbJ,I,AV.v.injEq,Value.int.injEq,true_and,and_true] at e;obtain ⟨rfl,rfl⟩:=e;rfl
theorem cT3 {D:Tb->Nat->Prop} {R:Tb->Nat->AV} {t:Tb} {x:Nat} (h:D t x) (M:Nat->AO) (n:Nat) {a:AV} {u:List (Nat×AO)} {k:Nat} (ho:oRt n (R t x)=(a,u,k)) (hk:k<=n+16):caP (spF (ι:={x:Tb×Nat // D x.1 x.2}) (fun x=>[TbV x.1.1,I x.1.2]) fun x=>R x.1.1 x.1.2) [TbV t,I x] M n=some (a,u):=by rw [cPs (ι:={x:Tb×Nat // D x.1 x.2}) (A:=fun x=>[TbV x.1.1,I x.1.2]) (R:=fun x=>R x.1.1 x.1.2) ⟨(t,x),h⟩ (by simp [TbV]) ?_ (by rw [ho];exact hk),ho];rintro ⟨⟨j,y⟩,hj⟩ e;simp only [cJ,TbJ,I,AV.v.injEq,Value.int.injEq,true_and,and_true,Int.ofNat_inj] at e;obtain ⟨rfl,rfl⟩:=e;rfl
theorem oT3 {D:Tb->Nat->Prop} {R:Tb->Nat->AV} {t:Tb} {x:Nat} (h:D t x) {p vp q vq:Nat} {M:Nat->AO} (hM:OwT M t p vp q vq) (n:Nat) {a:AV} {u:List (Nat×AO)} {k:Nat} (ho:oRt n (R t x)=(a,u,k)) (hk:k<=n+16):caP (spF (ι:={x:Tb×Nat // D x.1 x.2}) (fun x=>[TbV x.1.1,I x.1.2]) fun x=>R x.1.1 x.1.2) [TbS t p vp q vq,I x] M n=some (a,u):=by rw [cPs (ι:={x:Tb×Nat // D x.1 x.2}) (A:=fun x=>[TbV x.1.1,I x.1.2]) (R:=fun x=>R x.1.1 x.1.2) ⟨(t,x),h⟩ (zpp hM (by simp)) ?_ (by rw [ho];exact hk),ho];rintro ⟨⟨j,y⟩,hj⟩ e;simp only [cJ,TbJ,I,AV.v.injEq,Value.int.injEq,true_and,and_true,Int.ofNat_inj] at e;obtain ⟨rfl,rfl⟩:=e;rfl
noncomputable section
set_option maxRecDepth 4000
def EtF:List AV->Option AV:=spF (ι:={n:Nat // n<2^64}) (fun x=>[U x.1]) fun x=>rtO [EnV (zj x.1).1]
theorem cEt (w:Nat) (hw:w<2^64) (M:Nat->AO) (n:Nat):caP EtF [U w] M n=some (EnV (zj w).1,[]) :=cPs (ι:={n:Nat // n<2^64}) (A:=fun x=>[U x.1]) (R:=fun x=>rtO [EnV (zj x.1).1]) ⟨w,hw⟩ (by simp [U]) (by rintro ⟨w',h'⟩ e;have:=ztU e;simp only at this;subst this;rfl) (by simp [EnV])
def IfF:List AV->Option AV:=spF (ι:=Int) (fun x=>[I x]) fun x=>rtO [B (decide (0<=x∧x<=4294967295))]
theorem cIf (x:Int) (M:Nat->AO) (n:Nat):caP IfF [I x] M n=some (B (decide (0<=x∧x<=4294967295)),[]) :=cPs (ι:=Int) (A:=fun x=>[I x]) (R:=fun x=>rtO [B (decide (0<=x∧x<=4294967295))]) x (by simp) (by intro j e;simp at e;subst e;rfl) (by simp)
def zCA:List AV->Option AV:=spF (ι:=Tb) (fun x=>[TbV x]) fun x=>rtO [B (decide (x.2.1.length<=80∧x.2.2.length<=70))]
theorem zCJ (t:Tb) (M:Nat->AO) (n:Nat):caP zCA [TbV t] M n=some (B (decide (t.2.1.length<=80∧t.2.2.length<=70)),[]) :=cPs (ι:=Tb) (A:=fun x=>[TbV x]) (R:=fun x=>rtO [B (decide (x.2.1.length<=80∧x.2.2.length<=70))]) t (by simp [TbV]) (by intro j e;simp only [cJ,TbJ,and_true] at e;subst e;rfl) (by simp)
def zCB:List AV->Option AV:=spF (ι:={x:Nat×Nat // x.1<512∧x.2<=2}) (fun x=>[I x.1.1,I x.1.2]) fun x=>rtO [I (dig x.1.1 x.1.2)]
theorem zCK (p l:Nat) (h1:p<512) (h2:l<=2) (M:Nat->AO) (n:Nat):caP zCB [I p,I l] M n=some (I (dig p l),[]) :=cPs (ι:={x:Nat×Nat // x.1<512∧x.2<=2}) (A:=fun x=>[I x.1.1,I x.1.2]) (R:=fun x=>rtO [I (dig x.1.1 x.1.2)]) ⟨(p,l),h1,h2⟩ (by simp) (by rintro ⟨⟨p',l'⟩,h'⟩ e;simp only [cJ,I,AV.v.injEq,Value.int.injEq,true_and,and_true,Int.ofNat_inj] at e;obtain ⟨rfl,rfl⟩:=e;rfl) (by simp)
def zAZ:List AV->Option AV:=spF (ι:={x:Nat×Nat // x.1<512∧x.2<=2}) (fun x=>[I x.1.1,I x.1.2]) fun x=>rtO [I (dgt x.1.1 x.1.2)]
theorem zvI (p l:Nat) (h1:p<512) (h2:l<=2) (M:Nat->AO) (n:Nat):caP zAZ [I p,I l] M n=some (I (dgt p l),[]) :=cPs (ι:={x:Nat×Nat // x.1<512∧x.2<=2}) (A:=fun x=>[I x.1.1,I x.1.2]) (R:=fun x=>rtO [I (dgt x.1.1 x.1.2)]) ⟨(p,l),h1,h2⟩ (by simp) (by rintro ⟨⟨p',l'⟩,h'⟩ e;simp only [cJ,I,AV.v.injEq,Value.int.injEq,true_and,and_true,Int.ofNat_inj] at e;obtain ⟨rfl,rfl⟩:=e;rfl) (by simp)
def SuF:List AV->Option AV:=spF (ι:=En×Nat) (fun x=>[EnV x.1,I x.2]) fun x=>rtO [B (zaO x.1 x.2)]
theorem cSu (e:En) (l:Nat) (M:Nat->AO) (n:Nat):caP SuF [EnV e,I l] M n=some (B (zaO e l),[]) :=cPs (ι:=En×Nat) (A:=fun x=>[EnV x.1,I x.2]) (R:=fun x=>rtO [B (zaO x.1 x.2)]) (e,l) (by simp [EnV]) (by rintro ⟨e',l'⟩ e;simp only [cJ,zkM,I,AV.v.injEq,Value.int.injEq,true_and,and_true,Int.ofNat_inj] at e;obtain ⟨rfl,rfl⟩:=e;rfl) (by simp)
def IxF:List AV->Option AV:=spF (ι:={x:Tb // zf x}) (fun x=>[TbV x.1]) fun x=>rtO [.om 1 (zcF x.1.2.1 x.1.2.1.length)]
theorem cIx (t:Tb) (ht:zf t) (M:Nat->AO) (n:Nat):caP IxF [TbV t] M n=some (.mp n 1,[(n,.map 1 1 (zcF t.2.1 t.2.1.length))]):=cT1 (D:=zf) (R:=fun t=>rtO [.om 1 (zcF t.2.1 t.2.1.length)]) ht M n rfl (by simp [rtO,oRt,oVs,oVl,oLs,oLf,stV,zfa,U,TbO])
def NuF:List AV->Option AV:=spF (ι:={x:Tb // zf x}) (fun x=>[TbV x.1]) fun x=>rtO [I (zdL x.1)]
theorem cNu (t:Tb) (ht:zf t) (M:Nat->AO) (n:Nat):caP NuF [TbV t] M n=some (I (zdL t),[]):=cT1 (D:=zf) (R:=fun t=>rtO [I (zdL t)]) ht M n rfl (by simp [rtO,oRt,oVs,oVl,oLs,oLf,stV,zfa,U,TbO])
def ChF:List AV->Option AV:=spF (ι:={x:Tb // zf x}) (fun x=>[TbV x.1]) fun x=>rtO [I (chk x.1)]
theorem cCh (t:Tb) (ht:zf t) (M:Nat->AO) (n:Nat):caP ChF [TbV t] M n=some (I (chk t),[]):=cT1 (D:=zf) (R:=fun t=>rtO [I (chk t)]) ht M n rfl (by simp [rtO,oRt,oVs,oVl,oLs,oLf,stV,zfa,U,TbO])
def PaF:List AV->Option AV:=spF (ι:={x:Tb×Nat // ptO x.1 x.2}) (fun x=>[TbV x.1.1,I x.1.2]) fun x=>rtO [.ow 3 (zbt (ptL x.1.1 x.1.2))]
theorem cPa (t:Tb) (p:Nat) (h:ptO t p) (M:Nat->AO) (n:Nat):caP PaF [TbV t,I p] M n=some (.sl n 1 3 0 (ptL t p).length,[(n,.vec 1 3 false (zbt (ptL t p)))]):=cT3 (D:=ptO) (R:=fun t p=>rtO [.ow 3 (zbt (ptL t p))]) (k:=n+1) h M n (by simp [rtO,oRt,oVl,oLf,zbt]) (by omega)
def LaF:List AV->Option AV:=spF (ι:={x:Tb×Nat // ptO x.1 x.2}) (fun x=>[TbV x.1.1,I x.1.2]) fun x=>rtO [stV (lsT x.1.1 x.1.2)]
theorem cLa (t:Tb) (p:Nat) (h:ptO t p) (M:Nat->AO) (n:Nat):caP LaF [TbV t,I p] M n=some (stV (lsT t p),[]):=cT3 (D:=ptO) (R:=fun t p=>rtO [stV (lsT t p)]) h M n rfl (by simp [rtO,oRt,oVs,oVl,oLs,oLf,stV,zfa,U,TbO])
def CkF:List AV->Option AV:=spF (ι:={x:Tb×Int×Int // zf x.1}) (fun x=>[TbV x.1.1,I x.1.2.1,I x.1.2.2]) fun x=>rtO [I (ckd x.1.1 x.1.2.1 x.1.2.2)]
theorem cCk (t:Tb) (ht:zf t) (a b:Int) (M:Nat->AO) (n:Nat):caP CkF [TbV t,I a,I b] M n=some (I (ckd t a b),[]) :=cPs (ι:={x:Tb×Int×Int // zf x.1}) (A:=fun x=>[TbV x.1.1,I x.1.2.1,I x.1.2.2]) (R:=fun x=>rtO [I (ckd x.1.1 x.1.2.1 x.1.2.2)]) ⟨(t,a,b),ht⟩ (by simp [TbV]) (by rintro ⟨⟨t',a',b'⟩,h'⟩ e;simp only [cJ,TbJ,I,AV.v.injEq,Value.int.injEq,true_and,and_true] at e;obtain ⟨rfl,rfl,rfl⟩:=e;rfl) (by simp)
def WaF:List AV->Option AV:=spF (ι:={x:Tb×Int // zf x.1}) (fun x=>[TbV x.1.1,I x.1.2]) fun x=>rtO [U (zaK x.1.1 x.1.2).1,I (zaK x.1.1 x.1.2).2.1,I (zaK x.1.1 x.1.2).2.2]
theorem cWa (t:Tb) (x:Int) (ht:zf t) (M:Nat->AO) (n:Nat):caP WaF [TbV t,I x] M n=some (.tup [U (zaK t x).1,I (zaK t x).2.1,I (zaK t x).2.2],[]):=cT2 (D:=fun t _=>zf t) (R:=fun t x=>rtO [U (zaK t x).1,I (zaK t x).2.1,I (zaK t x).2.2]) ht M n rfl (by simp [rtO,oRt,oVs,oVl,oLs,oLf,stV,zfa,U,TbO])
def MiF:List AV->Option AV:=spF (ι:={x:Tb×Int // zf x.1}) (fun x=>[TbV x.1.1,I x.1.2]) fun x=>rtO [I (zaq x.1.1 x.1.2).1,I (zaq x.1.1 x.1.2).2]
theorem cMi (t:Tb) (x:Int) (ht:zf t) (M:Nat->AO) (n:Nat):caP MiF [TbV t,I x] M n=some (.tup [I (zaq t x).1,I (zaq t x).2],[]):=cT2 (D:=fun t _=>zf t) (R:=fun t x=>rtO [I (zaq t x).1,I (zaq t x).2]) ht M n rfl (by simp [rtO,oRt,oVs,oVl,oLs,oLf,stV,zfa,U,TbO])
def ClF:List AV->Option AV:=spF (ι:={x:Tb // zf x}) (fun x=>[TbV x.1]) fun x=>rtO [TbO x.1]
theorem cCl (t:Tb) (ht:zf t) (M:Nat->AO) (n:Nat):caP ClF [TbV t] M n=some (TbC t n,[(n,.vec 1 9 false (nrw t.2.1)),(n+1,.vec 1 2 false (prw t.2.2))]):=cT1 (D:=zf) (R:=fun t=>rtO [TbO t]) (k:=n+2) ht M n (by simp [rtO,oRt,oVl,oLs,oLf,TbO,TbC]) (by omega)
theorem ziQ {avs:List AV} {M:Nat->AO} {nid:Nat} {r:AV×List (Nat×AO)} (h:zir avs M nid=some r):∀ b∈r.2.map (·.1),nid<=b∧b<nid+16:=by unfold zir at h;split at h<;>(try split at h)<;>(try split at h)<;>simp at h;rw [<- h];simp
theorem zxq {X:AX} (h:X.call 110=caP LaF):zwQ X 110 (fun t x=>0<=x∧ptO t x.toNat) fun t x=>stV (lsT t x.toNat):=fun r ns ds x hd a va b vb f1 f2 M n h1 h2=>by
 rw [h];obtain ⟨k,rfl⟩:∃ k:Nat,x=k:=⟨x.toNat,by omega⟩
 exact oT3 (D:=ptO) (R:=fun t p=>rtO [stV (lsT t p)]) (t:=(r,ns,ds)) hd.2 ⟨⟨f1,h1⟩,f2,h2⟩ n rfl (by simp [rtO,oRt,oVs,oVl,oLs,oLf,stV,zfa,U,TbO])
theorem zp1 {g:Nat} (hg:g<=4294967295):zdq (4,(g:Int),false,false,false,false)=(((g*256+4:Nat):Int),0):=by rw [zhb (by simp only;omega) (by unfold zky;simp only;omega) (by rfl)];unfold zmR fb;simp;omega
theorem zAK (f:Nat) (hf:f<=4294967295) (M:Nat->AO) (n:Nat):caP zy4 [.agg [I 4,I f,B false,B false,B false,B false]] M n=some (.tup [U ((f*256+4:Nat)),I 0],[]):=by rw [cEn,zp1 hf]
def FhF:List AV->Option AV:=spF (ι:={x:UsD×Nat // zf x.1.1∧zby x.1.1.2.1∧x.1.2.length<=1000}) (fun x=>[TbV x.1.1.1,.rd 1 (irw x.1.1.2),I x.1.2]) fun x=>rtO [B (decide (x.1.1.2.length=x.1.2)&&usB x.1.1.1.2.1 x.1.1.1.2.2 x.1.1.2)]
theorem cFh (t:Tb) (fs:List Int) (m:Nat) (ht:zf t) (ha:zby t.2.1) (hl:fs.length<=1000) (M:Nat->AO) (n:Nat):caP FhF [TbV t,.rd 1 (irw fs),I m] M n=some (B (decide (fs.length=m)&&usB t.2.1 t.2.2 fs),[]) :=cPs (ι:={x:UsD×Nat // zf x.1.1∧zby x.1.1.2.1∧x.1.2.length<=1000}) (A:=fun x=>[TbV x.1.1.1,.rd 1 (irw x.1.1.2),I x.1.2]) (R:=fun x=>rtO [B (decide (x.1.1.2.length=x.1.2)&&usB x.1.1.1.2.1 x.1.1.1.2.2 x.1.1.2)]) ⟨((t,fs),m),ht,ha,hl⟩ (by simp [TbV]) (by rintro ⟨⟨⟨t',fs'⟩,m'⟩,h'⟩ e;simp only [cJ,TbJ,I,AV.v.injEq,Value.int.injEq,true_and,and_true,AV.rd.injEq,irI,Int.ofNat_inj] at e;obtain ⟨rfl,rfl,rfl⟩:=e;rfl) (by simp)
def LiF:List AV->Option AV:=spF (ι:={x:Tb // zf x}) (fun x=>[TbV x.1]) fun x=>rtO [.ow 2 (za9 (zq x.1))]
theorem zAH {X:AX} (h:X.call 142=caP fun avs=>zv8 (avs.map (zpx 1))):zyT X:=by
 have key:∀ (fr:List Int) (x:Int),fr.length<=1000->zv8 [.rd 1 (irw fr),I x]=some (B (decide (x∈fr))):=fun fr x hl=>by refine sFe (ι:={x:List Int×Int // x.1.length<=9223372036854775807}) (A:=fun x=>[.rd 1 (irw x.1.1),I x.1.2]) (R:=fun x=>rtO [B (decide (x.1.2∈x.1.1))]) ⟨(fr,x),by simp only;omega⟩ fun j e=>?_;obtain ⟨⟨f',x'⟩,h'⟩:=j;simp only [cJ,AV.rd.injEq,irI,I,AV.v.injEq,Value.int.injEq,true_and,and_true] at e;obtain ⟨rfl,rfl⟩:=e;rfl
 refine ⟨fun fr x hl b v f M n hM=>?_,fun x M n=>?_⟩
 ·rw [h];have tk:List.take fr.length (irw fr)=irw fr:=tkL (by simp);simp [caP,hM,tk,zpx,zrY,key fr x hl]
 ·rw [h];have:=key [] x (by simp);simp only [irw,List.map_nil] at this;simp [caP,zpx,zrY,this]
end
set_option maxRecDepth 4000
theorem zns {l:List Pe} {n:Nat}:oRt n (rtO [.ow 2 (za9 l)])=(.sl n 1 2 0 l.length,[(n,.vec 1 2 false (za9 l))],n+1):=by simp [rtO,oRt,oVl,oLf,za9]
def zCw (X:AX) (t:Tb):Prop:=∀ (a0 va0 b0 vb0:Nat) (fa0 fb0:Bool) (a1 va1 b1 vb1:Nat) (fa1 fb1:Bool) (M:Nat->AO) (n:Nat),M a0=.vec va0 9 fa0 (nrw t.2.1)->M b0=.vec vb0 2 fb0 (prw t.2.2)->M a1=.vec va1 9 fa1 (nrw t.2.1)->M b1=.vec vb1 2 fb1 (prw t.2.2) ->
 X.call 31 [.agg [I t.1,.sl a0 va0 9 0 t.2.1.length,.sl b0 vb0 2 0 t.2.2.length],.agg [I t.1,.sl a1 va1 9 0 t.2.1.length,.sl b1 vb1 2 0 t.2.2.length]] M n=some (B true,[])
def zAY (X:AX) (l:List Int):Prop:=∀ (c vc d vd:Nat) (fc fd:Bool) (M:Nat->AO) (n:Nat),M c=.vec vc 1 fc (irw l)->M d=.vec vd 1 fd (irw l)->X.call 46 [.sl c vc 1 0 l.length,.sl d vd 1 0 l.length] M n=some (B true,[])
def zAX (X:AX) (l:List Pe):Prop:=∀ (c vc d vd:Nat) (fc fd:Bool) (M:Nat->AO) (n:Nat),M c=.vec vc 2 fc (za9 l)->M d=.vec vd 2 fd (za9 l)->X.call 43 [.sl c vc 2 0 l.length,.sl d vd 2 0 l.length] M n=some (B true,[])
def tbF (t:Tb):Prop:=∀ n∈t.2.1,zis n
theorem ztY {t:Tb} (h:tbF t) (hf:t.2.1.length<=80∧t.2.2.length<=70):zf t:=⟨h,by omega,by omega⟩
theorem zpC {t:Tb}:(zq t).length<=1000000:=by
 unfold zq;split
 ·have:=@znN t 512;omega
 ·simp
theorem zpU {t:Tb} (hf:t.2.1.length<=80∧t.2.2.length<=70):(zsm t).length<=1000000:=by
 unfold zsm zoj;split
 ·simp [nFr,zlF];omega
 ·simp
structure zCx (X:AX):Prop where
 ok:XOK prog X
 w:X.W wT
 few:∀ (t:Tb) (M:Nat->AO) (n:Nat),X.call 33 [TbV t] M n=some (B (decide (t.2.1.length<=80∧t.2.2.length<=70)),[])
 aw:∀ (M:Nat->AO) (n:Nat),X.call 34 [] M n=some (B true,[])
 same:∀ t:Tb,zf t->zCw X t
 eqi:∀ l:List Int,l.length<=1000000->zAY X l
 eqp:∀ l:List Pe,l.length<=1000000->zAX X l
structure zCy (X:AX):Prop extends zCx X where
 wa:∀ (t:Tb) (x:Int),zf t->∀ M n,X.call 35 [TbV t,I x] M n=some (.tup [U (zaK t x).1,I (zaK t x).2.1,I (zaK t x).2.2],[])
 wa':∀ (t:Tb) (x:Int),zf t->∀ M n,X.call 36 [TbV t,I x] M n=some (.tup [U (zaK t x).1,I (zaK t x).2.1,I (zaK t x).2.2],[])
 mi:∀ (t:Tb) (x:Int),zf t->∀ M n,X.call 37 [TbV t,I x] M n=some (.tup [I (zaq t x).1,I (zaq t x).2],[])
 mi':∀ (t:Tb) (x:Int),zf t->∀ M n,X.call 38 [TbV t,I x] M n=some (.tup [I (zaq t x).1,I (zaq t x).2],[])
 ch:∀ t:Tb,zf t->∀ M n,X.call 39 [TbV t] M n=some (I (chk t),[])
 ch':∀ t:Tb,zf t->∀ M n,X.call 40 [TbV t] M n=some (I (chk t),[])
 hu:∀ (t:Tb) (x:Int),zf t->∀ M n,X.call 41 [TbV t,I x] M n=some (B (zsh t x),[])
 hu':∀ (t:Tb) (x:Int),zf t->∀ M n,X.call 42 [TbV t,I x] M n=some (B (zsh t x),[])
 li:∀ t:Tb,zf t->∀ M n,X.call 44 [TbV t] M n=some (.sl n 1 2 0 (zq t).length,[(n,.vec 1 2 false (za9 (zq t)))])
 li':∀ t:Tb,zf t->∀ M n,X.call 45 [TbV t] M n=some (.sl n 1 2 0 (zq t).length,[(n,.vec 1 2 false (za9 (zq t)))])
 fr:∀ t:Tb,zf t->∀ M n,X.call 47 [TbV t] M n=some (.sl n 1 1 0 (zsm t).length,[(n,.vec 1 1 false (irw (zsm t)))])
 fr':∀ t:Tb,zf t->∀ M n,X.call 48 [TbV t] M n=some (.sl n 1 1 0 (zsm t).length,[(n,.vec 1 1 false (irw (zsm t)))])
theorem cLi (t:Tb) (ht:zf t) (M:Nat->AO) (n:Nat):caP LiF [TbV t] M n=some (.sl n 1 2 0 (zq t).length,[(n,.vec 1 2 false (za9 (zq t)))]):=cT1 (D:=zf) (R:=fun t=>rtO [.ow 2 (za9 (zq t))]) ht M n zns (by omega)
set_option maxHeartbeats 8000000 in
theorem s6 (X:AX) (L:zCy X):PSd prog 6 (spF (ι:={x:Tb×Int // tbF x.1}) (fun x=>[TbV x.1.1,I x.1.2]) fun _=>rtO [B true]):=by
 have hX:=L.ok;have hw:=L.w;refine psS hX mixed func6 rfl fun ⟨⟨⟨r,ns,ds⟩,p⟩,htf⟩ w0 G=>⟨by show 2<=101;decide,rfl,?_⟩
 show AW ⟨prog,X,101,w0,.pure G⟩ _ _ _;have hc:=okc hX 101 w0 G;have few:=L.few (r,ns,ds);have aw:=L.aw;simp only at few htf ⊢;rcases dE (ns.length<=80∧ds.length<=70) with hf|hf
 ·rw [decide_eq_true hf] at few;have ht:=ztY htf hf;have wa:=L.wa _ p ht;have wa':=L.wa' _ p ht;have mi:=L.mi _ p ht;have mi':=L.mi' _ p ht;have ch:=L.ch _ ht;have ch':=L.ch' _ ht;have hu:=L.hu _ p ht;have hu':=L.hu' _ p ht;have li:=L.li _ ht;have li':=L.li' _ ht;have fr:=L.fr _ ht;have fr':=L.fr' _ ht;have eqi:=L.eqi _ (zpU (t:=(r,ns,ds)) hf);have eqp:=L.eqp _ (zpC (t:=(r,ns,ds)));obtain ⟨⟨w,l,e⟩,hW⟩:∃ x,x=zaK (r,ns,ds) p:=⟨_,rfl⟩
  obtain ⟨⟨m,f⟩,hMi⟩:∃ x,x=zaq (r,ns,ds) p:=⟨_,rfl⟩
  obtain ⟨c,hC⟩:∃ x,x=chk (r,ns,ds):=⟨_,rfl⟩
  obtain ⟨h,hH⟩:∃ x,x=zsh (r,ns,ds) p:=⟨_,rfl⟩
  obtain ⟨ls,hL⟩:∃ x,x=zq (r,ns,ds):=⟨_,rfl⟩
  obtain ⟨fs,hF⟩:∃ x,x=zsm (r,ns,ds):=⟨_,rfl⟩
  rw [<- hW] at wa wa';rw [<- hMi] at mi mi';rw [<- hC] at ch ch';rw [<- hH] at hu hu';rw [<- hL] at li li' eqp;rw [<- hF] at fr fr' eqi;unfold zAY at eqi;unfold zAX at eqp;simp only [TbV,U] at few wa wa' mi mi' ch ch' hu hu' li li' fr fr' ⊢;have zS:=jj few<|jj aw<|jj wa<|jj wa'<|jj mi<|jj mi'<|jj ch<|jj ch'<|jj hu<|jj hu'<|jj li<|jj li'<|jj fr<|jj fr'<|jj eqi<|eqp;refine zhd ?_;repeat (intro K hK)
  clear zS;all_goals refine ⟨by simp,?_⟩
  all_goals simp [lvI,f6]
  all_goals try exact dt
 ·rw [decide_eq_false hf] at few;simp only [TbV] at few ⊢;have zS:=jj few<|aw;refine zhd ?_;repeat (intro K hK)
  clear zS;all_goals refine ⟨by simp,?_⟩
  all_goals simp [lvI,f6]
  all_goals try exact dt
end Go.AM
namespace Go.AM
open Go
def shI:Sh:=.int .i64
theorem zly {s:Sh} {xs:List AV} (h:FitL [s] xs):∃ a,xs=[a]∧Fit s a:=by
 match xs,h with
 | [a],h=>simp only [FitL] at h;exact ⟨a,rfl,h.1⟩
 | [],h=>simp [FitL] at h
 | _::_::_,h=>simp [FitL] at h
theorem zhY {a:AV} (h:Fit shI a):∃ n,a=I n∧-9223372036854775808<=n∧n<=9223372036854775807:=by simp only [shI,Fit] at h;obtain ⟨n,rfl,hw⟩:=h;refine ⟨n,rfl,?_⟩;simpa [Lit.wf,IntKind.min,IntKind.max,IntKind.signed,IntKind.bits] using hw
theorem zgb {s:Sh} {r:List Sh} {xs:List AV} (h:FitL (s::r) xs):∃ a ar,xs=a::ar∧Fit s a∧FitL r ar:=by
 cases xs with
 | nil=>simp [FitL] at h
 | cons a ar=>simp only [FitL] at h;exact ⟨a,ar,rfl,h.1,h.2⟩
theorem zsR {P:Program} {t:TypeId} {s:Sh} {a:AV} (hs:za8 P 10 t=some [s]) (h1:∀ fs,P.underlying t≠some (.struct fs)) (h2:∀ n e,P.underlying t≠some (.array n e)) (h:zo2 P t a):Fit s a:=by
 obtain ⟨sh,h3,h4⟩:=h;rw [hs] at h3;simp only [oJ] at h3;subst h3;rcases h4 with ⟨⟨fs,hf⟩|⟨n,e,hf⟩,_⟩|⟨_,h5⟩
 ·exact absurd hf (h1 fs)
 ·exact absurd hf (h2 _ _)
 ·obtain ⟨b,hb,hf⟩:=zly h5;obtain rfl:a=b:=by simpa using hb
  exact hf
end Go.AM
namespace Go.AM
open Go Go.Proofs Tryz
theorem laid:laidOutB prog=true:=by kernel_rfl
theorem owns:ownKnob prog.godebug=none:=by kernel_rfl
def gpe (l:List Pe) (i:Nat):Pe:=l.getD i (0,0)
theorem zoc {l:List Pe} {i:Nat} (h:i<l.length):gpe l i=l[i]:=by unfold gpe;rw [List.getD_eq_getElem?_getD,List.getElem?_eq_getElem h];rfl
theorem zhU {l:List Pe} {i:Nat} (h:i<l.length):gpe l i∈l:=by rw [zoc h];exact List.getElem_mem h
theorem znM {t:Tb} (ht:zf t):∀ x∈zq t,x.2<2^64:=by
 unfold zq;split
 ·rename_i h0;have hpv:=zjs ht h0;have key:∀ n,n<=512->∀ x∈lsA t n,x.2<2^64:=by
   intro n;induction n with
   | zero=>intro _ x hx;simp [lsA] at hx
   | succ n ih =>
    intro hn x hx;simp only [lsA] at hx;rcases List.mem_append.1 hx with h|h
    ·exact ih (by omega) x h
    ·unfold lsF at h;split at h
     ·simp at h;rw [h];exact zj8 ht hpv (by omega)
     ·simp at h
  exact key 512 (Nat.le_refl _)
 ·intro x hx;simp at hx
theorem zhP {t:Tb}:(zq t).length<=512:=by
 unfold zq;split
 ·have key:∀ n,(lsA t n).length<=n:=by
   intro n;induction n with
   | zero=>simp [lsA]
   | succ n ih =>
    simp only [lsA,List.length_append];have:(lsF t n).length<=1:=by unfold lsF;split<;>simp
    omega
  exact key 512
 ·simp
theorem zgf {l:List Pe} {i:Nat} (h:i<l.length):(za9 l)[i]?=some [I (gpe l i).1,U (gpe l i).2]:=by rw [zoc h];simp [za9,zwt,List.getElem?_eq_getElem h]
theorem zjg {l:List Pe} {i:Nat} (h:i<l.length):∀ h',(za9 l)[i]'(h')=[I (gpe l i).1,U (gpe l i).2]:=fun h'=>by have:=zgf h;rw [List.getElem?_eq_getElem h'] at this;exact Option.some.inj this
@[simp] theorem zzp:za prog 133=some ⟨.struct [(0,3,1),(1,3,1)],2,16,[.int .i64 0,.int .i64 0]⟩:=by kernel_rfl
@[simp] theorem zw1:za prog 57=some ⟨.slice 133,1,24,[.slice none 0 0]⟩:=by kernel_rfl
def nmE (x:Pe):List (Int×Int):=if (zj x.2).1.1=1∧(zj x.2).1.2.2.2.2.2=true then (List.range 8).map fun i=>(x.1+(i:Nat),(zj x.2).1.2.1+(i:Nat))
 else if (zj x.2).1.1=1∨(zj x.2).1.1=3 then [(x.1,(zj x.2).1.2.1)] else []
def nmT (l:List Pe):List (Int×Int):=l.flatMap nmE
def ofE (fr s:Int) (l:List (Int×Int)):List Dp:=(l.filter fun x=>decide (x.2=fr)).map fun x=>(s,x.1)
theorem zj0 {fr s:Int} {a b:List (Int×Int)}:ofE fr s (a++b)=ofE fr s a++ofE fr s b:=by simp [ofE]
theorem zuu {fr s x f:Int}:ofE fr s [(x,f)]=if f=fr then [(s,x)] else []:=by unfold ofE;by_cases h:f=fr<;>simp [h]
theorem zhF {fr s:Int} {a:List (Int×Int)}:(ofE fr s a).length<=a.length:=by unfold ofE;rw [List.length_map];exact List.length_filter_le _ _
theorem zfV {x:Pe}:(nmE x).length<=8:=by
 unfold nmE;split
 ·simp
 ·split<;>simp
theorem zdZ:∀ {l:List Pe},(nmT l).length<=8*l.length
 | []=>by simp [nmT]
 | x::l=>by have h1:=@zdZ l;have h2:=@zfV x;unfold nmT at h1 ⊢;simp only [List.flatMap_cons,List.length_append,List.length_cons];omega
theorem zuy {l:List Pe} {i:Nat} (h:i<l.length):nmT (l.take (i+1))=nmT (l.take i)++nmE (gpe l i):=by unfold nmT;rw [List.take_add_one,List.getElem?_eq_getElem h,zoc h,List.flatMap_append];simp
theorem zqO {t:Tb}:∀ x∈zq t,0<=x.1∧x.1<512:=by
 unfold zq;split
 ·have key:∀ n,n<=512->∀ x∈lsA t n,0<=x.1∧x.1<512:=by
   intro n;induction n with
   | zero=>intro _ x hx;simp [lsA] at hx
   | succ n ih =>
    intro hn x hx;simp only [lsA] at hx;rcases List.mem_append.1 hx with h|h
    ·exact ih (by omega) x h
    ·unfold lsF at h;split at h
     ·simp at h;rw [h];simp only;omega
     ·simp at h
  exact key 512 (Nat.le_refl _)
 ·intro x hx;simp at hx
def ofM (L:List Dp) (v:Nat) (fr s:Int):List AO:=[.box [I fr],.box [.sl 2 v 2 0 L.length],.vec v 2 false (prw L),.box [I s]]
theorem znv {L L':List Dp} {v v':Nat} {fr fr' s s':Int} (h:ofM L v fr s=ofM L' v' fr' s'):L=L'∧fr=fr'∧s=s':=by simp only [ofM,cJ,AO.box.injEq,I,AV.v.injEq,Value.int.injEq,true_and,AO.vec.injEq,zaa,and_true] at h;exact ⟨h.2.2.1.2,h.1,h.2.2.2⟩
abbrev OfD:=List Dp×Int×Int×Int×Int
noncomputable def ofS:List AV->List AO->Option (AV×List AO):=za1 (ι:={x:OfD // x.1.length<=1000000}) (fun x=>[I x.1.2.2.2.1,I x.1.2.2.2.2,.bp 0 0,.bp 1 0,.bp 3 0]) (fun x=>ofM x.1.1 1 x.1.2.1 x.1.2.2.1) (fun _=>.tup [])
 fun x=>ofM (x.1.1++ofE x.1.2.1 x.1.2.2.1 [(x.1.2.2.2.1,x.1.2.2.2.2)]) (1+(ofE x.1.2.1 x.1.2.2.1 [(x.1.2.2.2.1,x.1.2.2.2.2)]).length) x.1.2.1 x.1.2.2.1
theorem zut {L:List Dp} (fr s pg nu:Int) (h:L.length<=1000000):ofS [I pg,I nu,.bp 0 0,.bp 1 0,.bp 3 0] (ofM L 1 fr s)=some (.tup [],ofM (L++ofE fr s [(pg,nu)]) (1+(ofE fr s [(pg,nu)]).length) fr s):=by refine sGe (ι:={x:OfD // x.1.length<=1000000}) (A:=fun x=>[I x.1.2.2.2.1,I x.1.2.2.2.2,.bp 0 0,.bp 1 0,.bp 3 0]) (M:=fun x=>ofM x.1.1 1 x.1.2.1 x.1.2.2.1) (R:=fun _=>.tup []) (O:=fun x=>ofM (x.1.1++ofE x.1.2.1 x.1.2.2.1 [(x.1.2.2.2.1,x.1.2.2.2.2)]) (1+(ofE x.1.2.1 x.1.2.2.1 [(x.1.2.2.2.1,x.1.2.2.2.2)]).length) x.1.2.1 x.1.2.2.1) ⟨(L,fr,s,pg,nu),h⟩ fun j hA hM=>?_;obtain ⟨⟨L',fr',s',pg',nu'⟩,h'⟩:=j;obtain ⟨rfl,rfl,rfl⟩:=znv hM;simp only [cJ,I,AV.v.injEq,Value.int.injEq,true_and,and_true] at hA;obtain ⟨rfl,rfl⟩:=hA;exact ⟨rfl,rfl⟩
theorem ziN (A:List Dp) (a b:Int):prw A++[[I a,I b]]=prw (A++[(a,b)]):=by simp [prw]
theorem zw5 (A:List Dp):List.take A.length (prw A)=prw A:=tkL (by simp)
set_option maxHeartbeats 4000000 in
theorem s88 (X:AX) (hX:XOK prog X) (hw:X.W wT):GSd prog 88 ofS:=by
 unfold ofS;refine gsS func88 rfl X fun ⟨⟨L,fr,s,pg,nu⟩,hl⟩ w0 B E=>⟨by show 5<=16;decide,?_⟩
 simp only at hl ⊢;rw [zuu];simp only [ofM];show AW ⟨prog,X,16,w0,⟨B,E,4⟩⟩ _ _ _;have hc:Cx.OK ⟨prog,X,16,w0,⟨B,E,4⟩⟩:=⟨hX,mixed⟩
 rcases dE (nu=fr) with h1|h1
 ·subst h1;simp only [if_true,List.length_append,List.length_cons,List.length_nil,Nat.zero_add];have zS:=jj hl<|jj ziN<|zw5;refine zl ?_;repeat (intro K hK)
  clear zS;refine ⟨[],rfl,?_⟩;simp only [idx];exact dle
 ·simp only [if_neg h1,List.append_nil,List.length_nil,Nat.add_zero];have zS:=jj hl<|h1;refine zl ?_;repeat (intro K hK)
  clear zS;refine ⟨by simp,[],rfl,?_⟩;simp only [idx];exact dle
end Go.AM
namespace Go.AM
open Go
def Unt (E:Env) (w:World) (k:Nat):Prop:=k<w.heap.size∧¬ E.G k∧∀ b base sz,E.alive b->E.loc b≠some (k,base,sz)
theorem zdd.other {N:Nat} {w0:World} {bl:Bk} {E:Env} {a:Act} {w w':World} {g:Nat->AV} {m:Nat->AO} (h:zdd N w0 bl E a w g m) {r:Nat} (hg:¬ E.G r) (hl:∀ b base sz,E.alive b->E.loc b≠some (r,base,sz)) (hr0:w0.heap.size<=r)
  (hsz:w.heap.size<=w'.heap.size) (hos:w'.os=w.os) (hout:w'.output=w.output) (hk:∀ k,k<w.heap.size->k≠r->w'.heap[k]?=w.heap[k]?):zdd N w0 bl E a w' g m:=by
 have hG:∀ k,E.G k->w'.heap[k]?=w.heap[k]?:=fun k hk'=>hk k (h.inv.good k hk') fun e=>hg (e ▸ hk');refine ⟨h.defers,h.size,⟨⟨hos.trans h.inv.frame.os,hout.trans h.inv.frame.out,Nat.le_trans h.inv.frame.size hsz,fun k h1 h2=>?_⟩,h.inv.gin,h.inv.low,h.inv.gout,fun k hk'=>Nat.lt_of_lt_of_le (h.inv.good k hk') hsz,fun b blk base sz h1 h2=>?_,h.inv.apart⟩,fun b hb=>?_,fun t=>?_⟩
 ·rw [hk k (by have:=h.inv.frame.size;omega) (by omega)];exact h.inv.frame.old k h1 h2
 ·obtain ⟨q1,q2,q3⟩:=h.inv.locs b blk base sz h1 h2;exact ⟨by omega,q2,q3⟩
 ·refine (h.mem b hb).mono (Env.Le.refl E) hG rfl rfl fun blk base sz h1=>?_;exact hk blk (h.inv.locs b blk base sz hb h1).1 fun e=>hl b base sz hb (e ▸ h1)
 ·exact (h.slots t).mono (Env.Le.refl E) hG
def zd7 (N:Nat) (w0:World) (bl:Bk) (a:Act) (w:World) (st:St) (F:List Nat):Prop :=∃ E,zdd N w0 bl E a w (zn st.s) (zb st.m)∧(∀ k,E.alive k->k<st.nx)∧(∀ k,zb st.m k≠.dead->k<st.nx)∧∀ k∈F,Unt E w k
open Classical in
theorem zk2 {N:Nat} {w0:World} {bl:Bk} {a:Act} {w:World} {st:St} {F:List Nat} (hs:zd7 N w0 bl a w st F) (n:Nat) (hn:bl.n<=n) :
  ∃ B:Bk,B.n=n∧Sat N w B a w st∧∀ a' w' st',Sat N w B a' w' st'->zd7 N w0 bl a' w' st' F∧∀ k∈F,w'.heap[k]?=w.heap[k]?:=by
 obtain ⟨E,h1,h2,h3,h4⟩:=hs
 let L:List Nat:=(List.range w.heap.size).filter fun k=>decide (∃ b base sz,E.alive b∧E.loc b=some (k,base,sz))
 have hL:∀ k,k∈L↔k<w.heap.size∧∃ b base sz,E.alive b∧E.loc b=some (k,base,sz):=fun k=>by simp [L]
 let B:Bk:=⟨L,{ E with alive:=fun k=>E.alive k∧k<n },n⟩
 have hB:B.E.Le E:=⟨fun _ h=>h,fun _ h=>h.1,fun _ _=>.inl ⟨rfl,rfl⟩⟩
 have hB0:bl.E.Le B.E:=⟨h1.inv.gin.G,fun k hk=>⟨h1.inv.gin.alive k hk,by have:=h1.inv.low k hk;omega⟩,h1.inv.gin.same⟩
 have hinv:Inv w B E w:=⟨⟨rfl,rfl,Nat.le_refl _,fun _ _ _=>rfl⟩,hB,fun k hk=>hk.2,fun k hk=>.inl hk,h1.inv.good,fun b blk base sz hb hl=>⟨(h1.inv.locs b blk base sz hb hl).1,(h1.inv.locs b blk base sz hb hl).2.1,.inr ((hL blk).2 ⟨(h1.inv.locs b blk base sz hb hl).1,b,base,sz,hb,hl⟩)⟩,h1.inv.apart⟩
 have hs1:Sat N w B a w st:=⟨E,⟨h1.defers,h1.size,hinv,h1.mem,h1.slots⟩,h2,h3⟩
 have hFL:∀ k∈F,k ∉ L:=fun k hk hm=>by obtain ⟨_,b,base,sz,q1,q2⟩:=(hL k).1 hm;exact (h4 k hk).2.2 b base sz q1 q2
 have hback:∀ k,k∈L->w0.heap.size<=k∨k∈bl.l:=fun k hk=>by obtain ⟨_,b,base,sz,q1,q2⟩:=(hL k).1 hk;exact (h1.inv.locs b k base sz q1 q2).2.2
 refine ⟨B,rfl,hs1,fun a' w' st' ⟨E',k1,k2,k3⟩=>⟨⟨E',⟨k1.defers,k1.size,?_,k1.mem,k1.slots⟩,k2,k3,fun k hk=>?_⟩,fun k hk=>?_⟩⟩
 ·have i0:=h1.inv;have i1:=k1.inv;refine ⟨⟨i1.frame.os.trans i0.frame.os,i1.frame.out.trans i0.frame.out,Nat.le_trans i0.frame.size i1.frame.size,fun k g1 g2=>?_⟩,hB0.trans i1.gin,i0.low,fun k hk=>?_,i1.good,fun b blk base sz g1 g2=>?_,i1.apart⟩
  ·rw [i1.frame.old k (by have:=i0.frame.size;omega) fun hm=>?_]
   ·exact i0.frame.old k g1 g2
   ·rcases hback k hm with g3|g3
    ·omega
    ·exact g2 g3
  ·rcases i1.gout k hk with g|g|g
   ·exact i0.gout k g
   ·exact .inr (.inl (by have:=i0.frame.size;omega))
   ·rcases hback k g with g3|g3
    ·exact .inr (.inl g3)
    ·exact .inr (.inr g3)
  ·obtain ⟨g3,g4,g5⟩:=i1.locs b blk base sz g1 g2;refine ⟨g3,g4,?_⟩;rcases g5 with g5|g5
   ·exact .inl (by have:=i0.frame.size;omega)
   ·exact hback blk g5
 ·obtain ⟨g1,g2,g3⟩:=h4 k hk;refine ⟨by have:=k1.inv.frame.size;omega,fun hg=>?_,fun b base sz hb hl=>?_⟩
  ·rcases k1.inv.gout k hg with g|g|g
   ·exact g2 g
   ·omega
   ·exact hFL k hk g
  ·rcases (k1.inv.locs b k base sz hb hl).2.2 with g|g
   ·omega
   ·exact hFL k hk g
 ·exact k1.inv.frame.old k (h4 k hk).1 (hFL k hk)
theorem leX {N:Nat} {w0:World} {bl:Bk} {a:Act} {w:World} {st st':St} {F:List Nat} (hs:zd7 N w0 bl a w st F) (h:Le bl.n st st'):zd7 N w0 bl a w st' F:=by obtain ⟨B,h1,h2,h3⟩:=zk2 hs bl.n (Nat.le_refl _);exact (h3 a w st' (h _ _ _ _ _ h1 h2)).1
theorem zd7.put {N:Nat} {w0:World} {bl:Bk} {a:Act} {w:World} {s:List (Nat×AV)} {m:List (Nat×AO)} {nx:Nat} {F:List Nat} (h:zd7 N w0 bl a w ⟨s,m,nx⟩ F) {d:Nat} (hd:d<N) {av:AV} {x:Value} (hx:∀ E:Env,Rep E w av x):zd7 N w0 bl (a.put (some d) x) w ⟨(d,av)::s,m,nx⟩ F:=by
 obtain ⟨E,h1,h2,h3,h4⟩:=h;have st:StT w0 bl E w [] E w:=StT.refl h1.inv rfl rfl rfl;have:=h1.put (o:={ (default:Oper) with dst:=some d }) st (by simp [zeu,hd]) (hx E);refine ⟨E,?_,h2,h3,h4⟩;have e:zn ((d,av)::s)=zfI (zn s) (some d) av:=by funext t;simp only [zn,zfI,oJ]
 rw [e];exact this
theorem zd7.other {N:Nat} {w0:World} {bl:Bk} {a:Act} {w w':World} {st:St} {F:List Nat} (h:zd7 N w0 bl a w st F) {r:Nat} (hr:r∈F) (hr0:w0.heap.size<=r)
  (hsz:w.heap.size<=w'.heap.size) (hos:w'.os=w.os) (hout:w'.output=w.output) (hk:∀ k,k<w.heap.size->k≠r->w'.heap[k]?=w.heap[k]?):zd7 N w0 bl a w' st F:=by obtain ⟨E,h1,h2,h3,h4⟩:=h;exact ⟨E,h1.other (h4 r hr).2.1 (h4 r hr).2.2 hr0 hsz hos hout hk,h2,h3,fun k hk'=>⟨Nat.lt_of_lt_of_le (h4 k hk').1 hsz,(h4 k hk').2⟩⟩
theorem zm1 {o:Oper} {f:Nat->Option Bool} (h:o.guard=none):Region.wanted o f=true:=by simp [Region.wanted,h]
theorem zeR:∀ (l:List (Nat×AV)) (t:Nat),zn l t=.any∨∃ p∈l,p.1=t∧zn l t=p.2
 | [],t=>.inl rfl
 | (k,a)::r,t=>by
  simp only [zn];by_cases e:k=t
  ·rw [if_pos e];exact .inr ⟨(k,a),by simp,e,rfl⟩
  ·rw [if_neg e];rcases zeR r t with h|⟨p,hp,h1,h2⟩
   ·exact .inl h
   ·exact .inr ⟨p,by simp [hp],h1,h2⟩
theorem zhy {P:Program} {X:AX} (hX:XOK P X) {ops:Array Oper} {N base:Nat} {w0:World} {bl:Bk} {Q:Exit->Act->World->Prop} {rest:List Oper}:∀ {ol:List Oper} {i:Nat} {E:Env} {a:Act} {w:World} {g g':Nat->AV} {m m':Nat->AO} {rs:List (AV×List (Nat×AO))},zjK (za P) X ops N base ol i g m rs g' m'->zdd N w0 bl E a w g m->(∀ k,E.alive k->k<base+16*i)->(∀ k,m k≠.dead->k<base+16*i) ->
  (∀ E' a' w',zdd N w0 bl E' a' w' g' m'->(∀ k,E'.alive k->k<base+16*(i+ol.length))->(∀ k,m' k≠.dead->k<base+16*(i+ol.length))->wpList P ops Q rest a' w')->wpList P ops Q (ol++rest) a w
 | [],i,E,a,w,g,g',m,m',[],h,hs,ha,hm,hq=>by
  obtain ⟨rfl,rfl⟩:=h;exact hq E a w hs (by simpa using ha) (by simpa using hm)
 | o::ol,i,E,a,w,g,g',m,m',r::rs,h,hs,ha,hm,hq=>by
  obtain ⟨h1,h2⟩:=h;have hdom:∀ b∈r.2.map (·.1),b<base+16*(i+1):=by
   obtain ⟨hd,h1⟩:=h1;have key:zav (za P) X o.op (zff g) m (base+16*i)=some r->∀ b∈r.2.map (·.1),b<base+16*(i+1):=fun he b hb=>by
    rcases zeB hX he b hb with h3|⟨_,h3⟩
    ·omega
    ·have:=hm b h3;omega
   cases hg:o.guard with
   | none=>simp only [hg] at h1;exact key h1
   | some jw =>
    obtain ⟨j,want⟩:=jw;simp only [hg] at h1;obtain ⟨d,b,_,_,h4⟩:=h1;split at h4
    ·exact key h4
    ·subst h4;simp
  have:=zhu hX (Q:=Q) (next:=wpList P ops Q (ol++rest)) hs h1 (fun k hk _ hal=>by have:=ha k hal;omega) fun E' a' w' st hs'=>by
   refine zhy hX h2 hs' (fun k hk=>?_) (fun k hk=>?_) fun E2 a2 w2 k1 k2 k3=>hq E2 a2 w2 k1 ?_ ?_
   ·rcases st.alive k hk with h3|h3
    ·have:=ha k h3;omega
    ·exact hdom k h3
   ·by_cases hk2:k∈r.2.map (·.1)
    ·exact hdom k hk2
    ·rw [zde hk2] at hk;have:=hm k hk;omega
   ·intro k hk;have:=k2 k hk;simp only [List.length_cons];omega
   ·intro k hk;have:=k3 k hk;simp only [List.length_cons];omega
  show wpList P ops Q (o::(ol++rest)) a w;unfold wpList;split
  ·rename_i hw;rw [if_pos hw] at this;exact .inl this
  ·rename_i hw;rw [if_neg hw] at this;exact this
 | [],_,_,_,_,_,_,_,_,_::_,h,_,_,_,_=>by simp [zjK] at h
 | _::_,_,_,_,_,_,_,_,_,[],h,_,_,_,_=>by simp [zjK] at h
def zjH {α:Type} (w0:World) (l:List Nat) (J:α->List Nat->World->Prop):Prop :=∀ x F w w',J x F w->(∀ k∈F,w'.heap[k]?=w.heap[k]?)->zaV w0 l w->zaV w0 l w'->w.heap.size<=w'.heap.size->J x F w'
def AWX {α:Type} (c:Cx) (J:α->List Nat->World->Prop) (k:Code) (st:St) (x:α) (Q:Exit->St->α->Prop):Prop :=∀ a w F,zd7 c.N c.w0 c.bl a w st F->J x F w->k.wp c.P (fun e a' w'=>∃ st' x' F',Q e st' x'∧zd7 c.N c.w0 c.bl a' w' st' F'∧J x' F' w') a w
theorem zd7.frame {N:Nat} {w0:World} {bl:Bk} {a:Act} {w:World} {st:St} {F:List Nat} (h:zd7 N w0 bl a w st F):zaV w0 bl.l w:=by obtain ⟨E,h1,_⟩:=h;exact h1.inv.frame
section
variable {α:Type} {c:Cx} {J:α->List Nat->World->Prop} {st:St} {x:α} {Q:Exit->St->α->Prop}
theorem zlN {k:Code} (hJ:zjH c.w0 c.bl.l J) (h:∀ w1 bl1,bl1.n=c.bl.n->AW ⟨c.P,c.X,c.N,w1,bl1⟩ k st (fun e st'=>Q e st' x)):AWX c J k st x Q:=fun a w F hs hj=>by
 obtain ⟨B,h1,h2,h3⟩:=zk2 hs c.bl.n (Nat.le_refl _);refine wp_mono (h w B h1 a w h2) fun e a' w' ⟨st',q1,q2⟩=>?_;obtain ⟨k1,k2⟩:=h3 a' w' st' q2;have hsz:w.heap.size<=w'.heap.size:=by obtain ⟨E',k3,_⟩:=q2;exact k3.inv.frame.size
 exact ⟨st',x,F,q1,k1,hJ x F w w' hj k2 hs.frame k1.frame hsz⟩
def ztX (N:St->α->Prop) (Q:Exit->St->α->Prop):Exit->St->α->Prop
 | .normal,st,x=>N st x
 | e,st,x=>Q e st x
theorem zb9 {k l:Code} (h:AWX c J k st x (ztX (fun st' x'=>AWX c J l st' x' Q) Q)):AWX c J (.seq k l) st x Q:=fun a w F hs hj =>
 wp_seq (wp_mono (h a w F hs hj) fun e _ _ ⟨st',x',F',h1,h2,h3⟩=>by cases e<;>first|exact h1 _ _ _ h2 h3|exact ⟨st',x',F',h1,h2,h3⟩)
theorem zfv (h:Q .normal st x):AWX c J .skip st x Q:=fun _ _ F hs hj=>wp_skip ⟨st,x,F,h,hs,hj⟩
theorem zia {id:Nat} (h:Q (.exit id) st x):AWX c J (.exit id) st x Q:=fun _ _ F hs hj=>wp_exit ⟨st,x,F,h,hs,hj⟩
theorem zaX {o:Operand} {k l:Code} {b:Bool} (hb:aEv st.s o=.v (.bool b)) (ht:b=true->AWX c J k st x Q) (hf:b=false->AWX c J l st x Q):AWX c J (.cond o k l) st x Q:=fun a w F hs hj=>by
 have he:a.eval o=.bool b:=by obtain ⟨E,h1,_⟩:=hs;have:=h1.eval o;rw [<- zdR,hb] at this;simpa only [Rep,zd] using this
 exact wp_cond_split he (fun h=>ht h a w F hs hj) (fun h=>hf h a w F hs hj)
def zre (id:Nat) (Q:Exit->St->α->Prop):Exit->St->α->Prop
 | .exit id',st,x=>if id'=id then Q .normal st x else Q (.exit id') st x
 | e,st,x=>Q e st x
theorem zcn {id:Nat} {k:Code} (h:AWX c J k st x (zre id Q)):AWX c J (.block id k) st x Q:=fun a w F hs hj =>
  wp_block (wp_mono (h a w F hs hj) fun e a' w' ⟨st',x',F',h1,h2⟩=>by
    cases e<;>first
      | exact ⟨st',x',F',h1,h2⟩
      | (simp only [zre] at h1
         simp only [Exit.inBlock];split at h1
         · rename_i e;rw [if_pos e];exact ⟨st',x',F',h1,h2⟩
         · rename_i e;rw [if_neg e];exact ⟨st',x',F',h1,h2⟩))
open Classical in
theorem zh9 {ι:Type} (S:ι->St) (V:ι->α) (μ:ι->Nat) (i0:ι) {k:Code} (h0:Le c.bl.n st (S i0)) (hx:V i0=x)
  (round:∀ i,AWX c J k (S i) (V i) (ztX (fun st' x'=>∃ i',Le c.bl.n st' (S i')∧V i'=x'∧μ i'<μ i) Q)):AWX c J (.loop k) st x Q:=fun a w F hs hj=>by
 let I:Act->World->Prop:=fun a w=>∃ i F,zd7 c.N c.w0 c.bl a w (S i) F∧J (V i) F w
 let M:Act->World->Nat:=fun a w=>if h:∃ n,∃ i F,(zd7 c.N c.w0 c.bl a w (S i) F∧J (V i) F w)∧μ i=n then (zgE h).choose else 0
 refine wp_loop I M ⟨i0,F,leX hs h0,by rw [hx];exact hj⟩ fun a w hI=>?_;have hex:∃ n,∃ i F,(zd7 c.N c.w0 c.bl a w (S i) F∧J (V i) F w)∧μ i=n:=let ⟨i,F,hi⟩:=hI;⟨μ i,i,F,hi,rfl⟩
 have hM:M a w=(zgE hex).choose:=dif_pos hex;obtain ⟨⟨i,F,hi,hmu⟩,hmin⟩:=(zgE hex).choose_spec;refine wp_mono (round i a w F hi.1 hi.2) fun e a' w' ⟨st',x',F',h1,h2,h3⟩=>?_;cases e
 case normal =>
  obtain ⟨i',k1,k3,k2⟩:=h1;have hs':zd7 c.N c.w0 c.bl a' w' (S i') F'∧J (V i') F' w':=⟨leX h2 k1,by rw [k3];exact h3⟩
  refine ⟨⟨i',F',hs'⟩,?_⟩;have hex':∃ n,∃ i F,(zd7 c.N c.w0 c.bl a' w' (S i) F∧J (V i) F w')∧μ i=n:=⟨μ i',i',F',hs',rfl⟩
  have hM':M a' w'=(zgE hex').choose:=dif_pos hex';rw [hM,hM',<- hmu];have:=(zgE hex').choose_spec.2 _ ⟨i',F',hs',rfl⟩;omega
 all_goals exact ⟨st',x',F',h1,h2,h3⟩
end
theorem zd7.touch {N:Nat} {w0:World} {bl:Bk} {a:Act} {w w':World} {st:St} {F:List Nat} (h:zd7 N w0 bl a w st F) (hF:∀ k∈F,w0.heap.size<=k∨k∈bl.l) (hfr:zaV w F w') :
  zd7 N w0 bl a w' st (F++List.range' w.heap.size (w'.heap.size - w.heap.size)):=by
 obtain ⟨E,h1,h2,h3,h4⟩:=h;have hG:∀ k,E.G k->w'.heap[k]?=w.heap[k]?:=fun k hk=>hfr.old k (h1.inv.good k hk) fun hm=>(h4 k hm).2.1 hk;have hsz:=hfr.size;refine ⟨E,⟨h1.defers,h1.size,⟨⟨hfr.os.trans h1.inv.frame.os,hfr.out.trans h1.inv.frame.out,Nat.le_trans h1.inv.frame.size hsz,fun k k1 k2=>?_⟩,h1.inv.gin,h1.inv.low,h1.inv.gout,fun k hk=>Nat.lt_of_lt_of_le (h1.inv.good k hk) hsz,fun b blk base sz k1 k2=>?_,h1.inv.apart⟩,fun b hb=>?_,fun t=>?_⟩,h2,h3,fun k hk=>?_⟩
 ·rw [hfr.old k (Nat.lt_of_lt_of_le k1 h1.inv.frame.size) fun hm=>?_]
  ·exact h1.inv.frame.old k k1 k2
  ·rcases hF k hm with q|q
   ·omega
   ·exact k2 q
 ·obtain ⟨q1,q2,q3⟩:=h1.inv.locs b blk base sz k1 k2;exact ⟨by omega,q2,q3⟩
 ·refine (h1.mem b hb).mono (Env.Le.refl E) hG rfl rfl fun blk base sz k1=>?_;exact hfr.old blk (h1.inv.locs b blk base sz hb k1).1 fun hm=>(h4 blk hm).2.2 b base sz hb k1
 ·exact (h1.slots t).mono (Env.Le.refl E) hG
 ·rcases List.mem_append.1 hk with hk|hk
  ·obtain ⟨q1,q2,q3⟩:=h4 k hk;exact ⟨by omega,q2,q3⟩
  ·have hk':=List.mem_range'_1.1 hk;refine ⟨by omega,fun hg=>?_,fun b base sz hb hl=>?_⟩
   ·have:=h1.inv.good k hg;omega
   ·have:=(h1.inv.locs b k base sz hb hl).1;omega
theorem zqf {α:Type} {c:Cx} {J:α->List Nat->World->Prop} {st:St} {x:α} {Q:Exit->St->α->Prop} {R:α->Prop} (hc:c.OK) {id:Nat} {ops:Array Oper} {pre:List Oper} {o:Oper} {d:Nat} {f:Operand} {g:FuncId}
  {args:Array Operand} {ats:Array TypeId} {s1:List (Nat×AV)} {m1:List (Nat×AO)} {caps avs:List AV}
  (hJ:zjH c.w0 c.bl.l J) (hF:∀ x F w,J x F w->∀ k∈F,c.w0.heap.size<=k∨k∈c.bl.l)
  (hops:ops.toList=pre++[o]) (hop:o.op=.call ⟨.value f,args,ats⟩) (hd:o.dst=some d) (hg:o.guard=none) (hdN:d<c.N)
  (hpre:zjw (za c.P) c.X ops c.N st.nx pre 0 st.s st.m=some (s1,m1)) (hf:aEv s1 f=.fn g caps) (ha:args.toList.map (aEv s1)=avs) (hb:ze9 c.P g)
  (hcall:∀ (E:Env) (w:World) (F:List Nat) (vs:List Value),J x F w->Inv c.w0 c.bl E w->(∀ k∈F,Unt E w k)->RepL E w (avs++caps) vs ->
   Calls c.P g vs.toArray w fun e w'=>∃ r x',e=.returned r∧R x'∧J x' (F++List.range' w.heap.size (w'.heap.size - w.heap.size)) w'∧zaV w F w')
  (hq:∀ x',R x'->Q .normal ⟨(d,.any)::s1,m1,st.nx+16*ops.size⟩ x'):AWX c J (.region id ops false) st x Q:=by
 intro a w F hs hj;obtain ⟨B,hB,h2,h3⟩:=zk2 hs c.bl.n (Nat.le_refl _);obtain ⟨E,k1,k2,k3⟩:=h2;obtain ⟨rs,hrs⟩:=zaR hpre;refine wp_region_list ?_;rw [hops];refine zhy hc.x hrs k1 (by simpa using k2) (by simpa using k3) fun E1 a1 w1 p1 p2 p3=>?_;have hlen:pre.length+1=ops.size:=by have:=congrArg List.length hops;simpa using this.symm
 obtain ⟨hx1,hk1⟩:=h3 a1 w1 ⟨s1,m1,st.nx+16*(0+pre.length)⟩ ⟨E1,p1,p2,p3⟩;have hj1:J x F w1:=hJ x F w w1 hj hk1 hs.frame hx1.frame p1.inv.frame.size;have hx1':=hx1;obtain ⟨E2,q1,q2,q3,q4⟩:=hx1;have hfv:=q1.eval f;rw [<- zdR,hf] at hfv;simp only [Rep] at hfv;obtain ⟨vs,hv,hcaps⟩:=hfv;have hargs:RepL E2 w1 (avs++caps) (args.toList.map a1.eval++vs):=by rw [<- ha];exact (zeh (fun y=>by rw [zdR];exact q1.eval y) args.toList).append hcaps
 obtain ⟨fn,b1,b2,b3⟩:=hb;have hbn:fn.body.isNone=false:=by cases hh:fn.body<;>simp [hh] at b2 ⊢
 have hC:=hcall E2 w1 F _ hj1 q1.inv q4 hargs;have harr:(args.toList.map a1.eval++vs).toArray=args.map a1.eval++vs.toArray:=by simp
 rw [harr] at hC;unfold wpList;rw [if_pos (zm1 hg)];left;unfold Oper.wp;simp only [hop,execOp,resolve,hv,Deferred.ofValue,Sem.run_bind,Sem.run_pure,Result.andThen_ok,invoke,callFunc,run_program,b1,b3,hbn,Bool.false_eq_true,if_false,Array.empty_append];refine Calls.mono hC fun e w' ⟨r,x',he,hR,hJ',hfr⟩=>?_;subst he;have ht:=(hx1'.touch (fun k hk=>hF x F w1 hj1 k hk) hfr).put hdN (av:=.any) (x:=r) fun E=>by simp [Rep,zd]
 rw [<- hd] at ht;have ht2:zd7 c.N c.w0 c.bl (a1.put o.dst r) w' ⟨(d,.any)::s1,m1,st.nx+16*ops.size⟩ (F++List.range' w1.heap.size (w'.heap.size - w1.heap.size)):=by obtain ⟨E3,z1,z2,z3,z4⟩:=ht;exact ⟨E3,z1,fun k hk=>by have:=z2 k hk;simp only at this ⊢;omega,fun k hk=>by have:=z3 k hk;simp only at this ⊢;omega,z4⟩
 exact ⟨_,x',_,hq x' hR,ht2,hJ'⟩
theorem zan {α:Type} {c:Cx} {J:α->List Nat->World->Prop} {st:St} {x:α} {Q:Exit->St->α->Prop} {k l:Code} (hJ:zjH c.w0 c.bl.l J)
  (h:∀ w1 bl1,bl1.n=c.bl.n->∀ K:St->Prop,(∀ st',AWX c J l st' x Q->K st')->AW ⟨c.P,c.X,c.N,w1,bl1⟩ k st (ze K fun _ _=>False)):AWX c J (.seq k l) st x Q :=zb9 (zlN hJ fun w1 bl1 hn=>zkz (h w1 bl1 hn (fun st'=>AWX c J l st' x Q) fun _ h=>h) fun e st' he=>by cases e<;>first|exact he|exact he.elim)
theorem zdv {α:Type} {c:Cx} {J:α->List Nat->World->Prop} {st:St} {x:α} {Q:Exit->St->α->Prop} {k:Code} (hJ:zjH c.w0 c.bl.l J)
  (h:∀ w1 bl1,bl1.n=c.bl.n->∀ K:St->Prop,(∀ st',Q .normal st' x->K st')->AW ⟨c.P,c.X,c.N,w1,bl1⟩ k st (ze K fun _ _=>False)):AWX c J k st x Q :=zlN hJ fun w1 bl1 hn=>zkz (h w1 bl1 hn (fun st'=>Q .normal st' x) fun _ h=>h) fun e st' he=>by cases e<;>first|exact he|exact he.elim
theorem zgm {α:Type} {c:Cx} {J:α->List Nat->World->Prop} {st:St} {x:α} {Q:Exit->St->α->Prop} (R:α->Prop) (caps avs:List AV) (n:Nat) (hc:c.OK) {id:Nat} {ops:Array Oper} {o:Oper} {d:Nat} {f:Operand} {g:FuncId}
  {args:Array Operand} {ats:Array TypeId}
  (hJ:zjH c.w0 c.bl.l J) (hF:∀ x F w,J x F w->∀ k∈F,c.w0.heap.size<=k∨k∈c.bl.l)
  (ho:ops.toList.drop n=[o]) (hop:o.op=.call ⟨.value f,args,ats⟩) (hd:o.dst=some d) (hg:o.guard=none) (hdN:d<c.N) (hb:ze9 c.P g)
  (hcall:∀ (E:Env) (w:World) (F:List Nat) (vs:List Value),J x F w->Inv c.w0 c.bl E w->(∀ k∈F,Unt E w k)->RepL E w (avs++caps) vs ->
   Calls c.P g vs.toArray w fun e w'=>∃ r x',e=.returned r∧R x'∧J x' (F++List.range' w.heap.size (w'.heap.size - w.heap.size)) w'∧zaV w F w')
  (h:∀ K:List (Nat×AV)->List (Nat×AO)->Prop,(∀ s1 m1,aEv s1 f=.fn g caps->args.toList.map (aEv s1)=avs->(∀ x',R x'->Q .normal ⟨(d,.any)::s1,m1,st.nx+16*ops.size⟩ x')->K s1 m1) ->
   zfy (za c.P) c.X ops c.N st.nx (ops.toList.take n) 0 st.s st.m K):AWX c J (.region id ops false) st x Q:=by
 obtain ⟨s1,m1,h1,h2,h3,h4⟩:=h (fun s1 m1=>aEv s1 f=.fn g caps∧args.toList.map (aEv s1)=avs∧∀ x',R x'->Q .normal ⟨(d,.any)::s1,m1,st.nx+16*ops.size⟩ x') fun s1 m1 q1 q2 q3=>⟨q1,q2,q3⟩
 exact zqf hc hJ hF (by rw [<- ho,List.take_append_drop]) hop hd hg hdN h1 h2 h3 hb hcall h4
theorem zoJ {α:Type} {P:Program} {X:AX} {f:FuncId} {fn:Func} {c:Code} {J:α->List Nat->World->Prop} {w:World} {F:List Nat} {Gw:Nat->Prop} {avs:List AV} {args:List Value} {x:α} {R:α->Prop}
  (hf:P.funcs[f]?=some fn) (hb:fn.body=some c) (hres:fn.results=#[]) (hr:RepL (Env.start Gw) w avs args) (hlen:avs.length<=fn.ntmps) (hG:∀ k,Gw k->k<w.heap.size) (hF:∀ k∈F,k<w.heap.size∧¬ Gw k) (hj:J x F w)
  (h:AWX ⟨P,X,fn.ntmps,w,⟨F,Env.start Gw,0⟩⟩ J c ⟨eSt avs,[],0⟩ x fun e st x'=>(e=.normal∨e=.ret)∧R x') :
  Calls P f args.toArray w fun e w'=>∃ r x' F',e=.returned r∧R x'∧J x' F' w'∧zaV w F w'∧∀ k∈F',k<w'.heap.size:=by
 have hll:=hr.length;have hsat:zd7 fn.ntmps w ⟨F,Env.start Gw,0⟩ { tmps:=args.toArray++Array.replicate (fn.ntmps - args.toArray.size) undef,defers:=[] } w ⟨eSt avs,[],0⟩ F:=by
  refine ⟨Env.start Gw,⟨rfl,by simp;omega,⟨⟨rfl,rfl,Nat.le_refl _,fun _ _ _=>rfl⟩,Env.Le.refl _,fun _ h=>h.elim,fun k hk=>.inl hk,hG,fun _ _ _ _ h=>h.elim,fun _ _ _ _ _ _ _ h=>h.elim⟩,fun b hb=>hb.elim,fun t=>?_⟩,fun k hk=>hk.elim,fun k hk=>absurd rfl hk,fun k hk=>⟨(hF k hk).1,(hF k hk).2,fun _ _ _ hb=>hb.elim⟩⟩;rw [eSt,zdn];simp only [Nat.zero_le,if_true,Nat.sub_zero];cases ht:avs[t]? with
  | none=>simp [Rep,zd]
  | some a =>
   obtain ⟨y,h1,h2⟩:=hr.get ht;have hlt:=(List.getElem?_eq_some_iff.1 ht).1;rw [Array.getD_eq_getD_getElem?,Array.getElem?_append_left (by simp;omega)];have:args.toArray[t]?=some y:=by simpa using h1
   rw [this];exact h2
 refine calls_of_wp hf hb (wp_mono (h _ _ F hsat hj) fun e a w' ⟨st',x',F',⟨he,hR⟩,hs,hJ⟩=>?_);obtain ⟨E',hs1,_,_,hU⟩:=hs;have hrun:(results fn a.tmps).run P w'=.ok (.tuple #[]) w':=by unfold results;rw [hres];simp
 have hfin:∃ r x' F',Ending.returned (.tuple #[])=.returned r∧R x'∧J x' F' w'∧zaV w F w'∧∀ k∈F',k<w'.heap.size:=⟨_,x',F',rfl,hR,hJ,hs1.inv.frame,fun k hk=>(hU k hk).1⟩
 rcases he with rfl|rfl
 ·exact ⟨hs1.defers,_,hrun,hfin⟩
 ·exact ⟨hs1.defers,_,hrun,hfin⟩
theorem zdd.close {N:Nat} {w0:World} {bl:Bk} {E:Env} {a:Act} {w:World} {g:Nat->AV} {m:Nat->AO} (h:zdd N w0 bl E a w g m) {F:List Nat} {kp:List (Nat×AV)} {nx:Nat}
  (hE:∀ b,bl.E.alive b->False) (hF:∀ k∈F,k<w.heap.size∧¬ E.G k) (hk:∀ p∈kp,zd w E.G p.2 (a.tmps.getD p.1 undef)):zd7 N w0 bl a w ⟨kp,[],nx⟩ F:=by
 have i:=h.inv;refine ⟨{ E with alive:=fun _=>False },⟨h.defers,h.size,⟨i.frame,⟨i.gin.G,fun b hb=>hE b hb,fun b hb=>(hE b hb).elim⟩,i.low,i.gout,i.good,fun _ _ _ _ hb=>hb.elim,fun _ _ _ _ _ _ _ hb=>hb.elim⟩,fun b hb=>hb.elim,fun t=>?_⟩,fun _ hb=>hb.elim,fun _ hb=>absurd rfl hb,fun k hk=>⟨(hF k hk).1,(hF k hk).2,fun _ _ _ hb=>hb.elim⟩⟩;rcases zeR kp t with e|⟨p,hp,rfl,e⟩
 ·rw [e];simp [Rep,zd]
 ·rw [e];exact Rep.of_c (E:={ E with alive:=fun _=>False }) (hk p hp)
theorem zoK {α:Type} {c:Cx} {J:α->List Nat->World->Prop} {st:St} {x:α} {Q:Exit->St->α->Prop} (R:α->Prop) (Pre:List (Nat×AV)->List (Nat×AO)->Prop) (kp:List (Nat×AV)) (nx:Nat) (caps avs:List AV) (n:Nat) (hc:c.OK) {id:Nat} {ops:Array Oper} {o:Oper} {d:Nat} {f:Operand} {g:FuncId}
  {args:Array Operand} {ats:Array TypeId} (hJ:zjH c.w0 c.bl.l J)
  (ho:ops.toList.drop n=[o]) (hop:o.op=.call ⟨.value f,args,ats⟩) (hd:o.dst=some d) (hg:o.guard=none) (hdN:d<c.N) (hb:ze9 c.P g)
  (hcall:∀ (E:Env) (a:Act) (w:World) (F:List Nat) (vs:List Value) (s1:List (Nat×AV)) (m1:List (Nat×AO)),Pre s1 m1->J x F w->zdd c.N c.w0 c.bl E a w (zn s1) (zb m1)->(∀ k∈F,Unt E w k)->RepL E w (avs++caps) vs ->
   ∃ F2,(∀ k∈F2,c.w0.heap.size<=k∨k∈c.bl.l)∧zd7 c.N c.w0 c.bl a w ⟨kp,[],nx⟩ F2∧Calls c.P g vs.toArray w fun e w'=>∃ r x',e=.returned r∧R x'∧J x' (F2++List.range' w.heap.size (w'.heap.size - w.heap.size)) w'∧zaV w F2 w')
  (h:∀ K:List (Nat×AV)->List (Nat×AO)->Prop,(∀ s1 m1,aEv s1 f=.fn g caps->args.toList.map (aEv s1)=avs->Pre s1 m1->K s1 m1)->zfy (za c.P) c.X ops c.N st.nx (ops.toList.take n) 0 st.s st.m K)
  (hq:∀ x',R x'->Q .normal ⟨(d,.any)::kp,[],nx⟩ x'):AWX c J (.region id ops false) st x Q:=by
 obtain ⟨s1,m1,hpre,hf,ha,hP⟩:=h (fun s1 m1=>aEv s1 f=.fn g caps∧args.toList.map (aEv s1)=avs∧Pre s1 m1) fun s1 m1 q1 q2 q3=>⟨q1,q2,q3⟩
 intro a w F hs hj;obtain ⟨B,hB,h2,h3⟩:=zk2 hs c.bl.n (Nat.le_refl _);obtain ⟨E,k1,k2,k3⟩:=h2;obtain ⟨rs,hrs⟩:=zaR hpre;refine wp_region_list ?_;have hops:ops.toList=ops.toList.take n++[o]:=by rw [<- ho,List.take_append_drop]
 rw [hops];refine zhy hc.x hrs k1 (by simpa using k2) (by simpa using k3) fun E1 a1 w1 p1 p2 p3=>?_;obtain ⟨hx1,hk1⟩:=h3 a1 w1 ⟨s1,m1,st.nx+16*(0+(ops.toList.take n).length)⟩ ⟨E1,p1,p2,p3⟩;have hj1:J x F w1:=hJ x F w w1 hj hk1 hs.frame hx1.frame p1.inv.frame.size;obtain ⟨E2,q1,q2,q3,q4⟩:=hx1;have hfv:=q1.eval f;rw [<- zdR,hf] at hfv;simp only [Rep] at hfv;obtain ⟨vs,hv,hcaps⟩:=hfv;have hargs:RepL E2 w1 (avs++caps) (args.toList.map a1.eval++vs):=by rw [<- ha];exact (zeh (fun y=>by rw [zdR];exact q1.eval y) args.toList).append hcaps
 obtain ⟨fn,b1,b2,b3⟩:=hb;have hbn:fn.body.isNone=false:=by cases hh:fn.body<;>simp [hh] at b2 ⊢
 obtain ⟨F2,hF2,hsx,hC⟩:=hcall E2 a1 w1 F _ s1 m1 hP hj1 q1 q4 hargs;have harr:(args.toList.map a1.eval++vs).toArray=args.map a1.eval++vs.toArray:=by simp
 rw [harr] at hC;unfold wpList;rw [if_pos (zm1 hg)];left;unfold Oper.wp;simp only [hop,execOp,resolve,hv,Deferred.ofValue,Sem.run_bind,Sem.run_pure,Result.andThen_ok,invoke,callFunc,run_program,b1,b3,hbn,Bool.false_eq_true,if_false,Array.empty_append];refine Calls.mono hC fun e w' ⟨r,x',he,hR,hJ',hfr⟩=>?_;subst he;have ht:=(hsx.touch hF2 hfr).put hdN (av:=.any) (x:=r) fun E=>by simp [Rep,zd]
 rw [<- hd] at ht;exact ⟨_,x',_,hq x' hR,ht,hJ'⟩
end Go.AM
namespace Go.AM
open Go
structure zgv (w0:World) (l0:List Nat) (G:Nat->Prop) (E:Env) (M:Nat->AO) (F:List Nat) (w:World):Prop where
 inv:Inv w0 ⟨l0,Env.start G,0⟩ E w
 mem:zai E w M
 loc:∀ b blk base sz,E.alive b->E.loc b=some (blk,base,sz)->blk∈F
 gs:∀ k,E.G k->G k∨k∈F
 low:∀ k∈F,w0.heap.size<=k∨k∈l0
 gw:∀ k,G k->k<w0.heap.size∧k ∉ l0
theorem zgv.keep {w0:World} {l0:List Nat} {G:Nat->Prop} {E:Env} {M:Nat->AO} {F:List Nat} {w w':World} (h:zgv w0 l0 G E M F w) (hF:∀ k∈F,w'.heap[k]?=w.heap[k]?) (hfr:zaV w0 l0 w') (hsz:w.heap.size<=w'.heap.size):zgv w0 l0 G E M F w':=by
 have hG:∀ k,E.G k->w'.heap[k]?=w.heap[k]?:=fun k hk=>by
  rcases h.gs k hk with q|q
  ·obtain ⟨q1,q2⟩:=h.gw k q;exact (hfr.old k q1 q2).trans (h.inv.frame.old k q1 q2).symm
  ·exact hF k q
 refine ⟨⟨hfr,h.inv.gin,h.inv.low,h.inv.gout,fun k hk=>Nat.lt_of_lt_of_le (h.inv.good k hk) hsz,fun b blk base sz k1 k2=>?_,h.inv.apart⟩,fun b hb=>?_,h.loc,h.gs,h.low,h.gw⟩
 ·obtain ⟨q1,q2,q3⟩:=h.inv.locs b blk base sz k1 k2;exact ⟨by omega,q2,q3⟩
 ·exact (h.mem b hb).mono (Env.Le.refl E) hG rfl rfl fun blk base sz k1=>hF blk (h.loc b blk base sz hb k1)
theorem zgv.obj {w0:World} {l0:List Nat} {G:Nat->Prop} {E:Env} {M M':Nat->AO} {F:List Nat} {w:World} (h:zgv w0 l0 G E M F w) (hm:zai E w M'):zgv w0 l0 G E M' F w:=⟨h.inv,hm,h.loc,h.gs,h.low,h.gw⟩
theorem zgv.base {w0:World} {l0:List Nat} {G:Nat->Prop} {E:Env} {M:Nat->AO} {F:List Nat} {w:World} (h:zgv w0 l0 G E M F w):Inv w ⟨F,Env.start E.G,0⟩ E w :=⟨⟨rfl,rfl,Nat.le_refl _,fun _ _ _=>rfl⟩,⟨fun _ h=>h,fun _ h=>h.elim,fun _ h=>h.elim⟩,fun _ h=>h.elim,fun k hk=>.inl hk,h.inv.good,fun b blk base sz k1 k2=>⟨(h.inv.locs b blk base sz k1 k2).1,(h.inv.locs b blk base sz k1 k2).2.1,.inr (h.loc b blk base sz k1 k2)⟩,h.inv.apart⟩
theorem zgv.frame {w0:World} {l0:List Nat} {G:Nat->Prop} {E:Env} {M:Nat->AO} {F:List Nat} {w w':World} (h:zgv w0 l0 G E M F w) (hfr:zaV w F w'):zaV w0 l0 w':=by
 have:=h.inv.frame.size;refine ⟨hfr.os.trans h.inv.frame.os,hfr.out.trans h.inv.frame.out,Nat.le_trans this hfr.size,fun k hk hl=>?_⟩;rw [hfr.old k (by omega) fun hm=>?_]
 ·exact h.inv.frame.old k hk hl
 ·rcases h.low k hm with q|q
  ·omega
  ·exact hl q
theorem zgv.step {w0:World} {l0:List Nat} {G:Nat->Prop} {E E':Env} {M:Nat->AO} {F:List Nat} {w w':World} {u:List (Nat×AO)} (h:zgv w0 l0 G E M F w) (st:StT w ⟨F,Env.start E.G,0⟩ E w u E' w') :
  zgv w0 l0 G E' (zbP M u) (F++List.range' w.heap.size (w'.heap.size - w.heap.size)) w'∧zaV w F w':=by
 have hsz:=st.size;have hw0:w0.heap.size<=w.heap.size:=h.inv.frame.size;have hlow:∀ k∈F++List.range' w.heap.size (w'.heap.size - w.heap.size),w0.heap.size<=k∨k∈l0:=fun k hk=>by
  rcases List.mem_append.1 hk with hk|hk
  ·exact h.low k hk
  ·have:=List.mem_range'_1.1 hk;exact .inl (by omega)
 have hnew:∀ k,k<w'.heap.size->(w.heap.size<=k∨k∈F)->k∈F++List.range' w.heap.size (w'.heap.size - w.heap.size):=fun k h1 h2=>by
  rcases h2 with h2|h2
  ·exact List.mem_append.2 (.inr (List.mem_range'_1.2 ⟨h2,by omega⟩))
  ·exact List.mem_append.2 (.inl h2)
 have hfr:zaV w F w':=⟨st.inv.frame.os,st.inv.frame.out,hsz,fun k hk hkF=>st.keep k hk fun b base sz hb _ hl=>hkF (h.loc b k base sz hb hl)⟩
 have hfr0:=h.frame hfr;refine ⟨⟨⟨hfr0,⟨fun k hk=>st.le.G k (h.inv.gin.G k hk),fun _ h=>h.elim,fun _ h=>h.elim⟩,fun _ h=>h.elim,fun k hk=>?_,st.inv.good,fun b blk base sz hb hl=>?_,st.inv.apart⟩,st.mem h.base h.mem,fun b blk base sz hb hl=>?_,fun k hk=>?_,hlow,h.gw⟩,hfr⟩
 ·rcases st.inv.gout k hk with q|q|q
  ·exact h.inv.gout k q
  ·exact .inr (.inl (by have:w.heap.size<=k:=q;omega))
  ·exact .inr (h.low k q)
 ·obtain ⟨q1,q2,q3⟩:=st.inv.locs b blk base sz hb hl;refine ⟨q1,q2,?_⟩;rcases q3 with q|q
  ·have:w.heap.size<=blk:=q;exact .inl (by omega)
  ·exact h.low blk q
 ·obtain ⟨q1,q2,q3⟩:=st.inv.locs b blk base sz hb hl;exact hnew blk q1 q3
 ·rcases st.inv.gout k hk with q|q|q
  ·rcases h.gs k q with q'|q'
   ·exact .inl q'
   ·exact .inr (List.mem_append.2 (.inl q'))
  ·exact .inr (hnew k (st.inv.good k hk) (.inl q))
  ·exact .inr (hnew k (st.inv.good k hk) (.inr q))
theorem zgv.call {P:Program} {g:FuncId} {cf:List AV->(Nat->AO)->Nat->Option (AV×List (Nat×AO))} (hco:zbb P g cf) {w0:World} {l0:List Nat} {G:Nat->Prop} {E:Env} {M:Nat->AO} {F:List Nat} {w:World} (h:zgv w0 l0 G E M F w)
  {avs:List AV} {vs:List Value} {nid:Nat} {av:AV} {u:List (Nat×AO)} (hr:RepL E w avs vs) (hn:∀ k,nid<=k->k<nid+16->¬ E.alive k) (hc:cf avs M nid=some (av,u)) :
  Calls P g vs.toArray w fun e w'=>∃ r E',e=.returned r∧Rep E' w' av r∧StT w ⟨F,Env.start E.G,0⟩ E w u E' w'∧zgv w0 l0 G E' (zbP M u) (F++List.range' w.heap.size (w'.heap.size - w.heap.size)) w'∧zaV w F w' :=Calls.mono (hco avs M nid av u hc w ⟨F,Env.start E.G,0⟩ E w vs.toArray (by simpa using hr) h.mem h.base hn) fun e w' ⟨x,E',h1,h2,h3⟩=>⟨x,E',h1,h3,h2,h.step h2⟩
theorem zoC:∀ {cs:List AV},cs.all AV.isClosed=true->nmsL cs=[]
 | [],_=>rfl
 | a::r,h=>by simp only [List.all_cons,Bool.and_eq_true] at h;have ih:=zoC h.2;cases a<;>simp_all [AV.isClosed,nmsL,AV.nms]
theorem zoB {σ:Nat->Nat} {f:Nat->Nat->Nat}:∀ {cs:List AV},cs.all AV.isClosed=true->renL σ f cs=cs
 | [],_=>rfl
 | a::r,h=>by simp only [List.all_cons,Bool.and_eq_true] at h;have ih:=zoB (σ:=σ) (f:=f) h.2;cases a<;>simp_all [AV.isClosed,renL,AV.ren]
theorem zlI {M:Nat->AO}:∀ {cs:List AV},cs.all AV.isClosed=true->curBL M cs=true
 | [],_=>rfl
 | a::r,h=>by simp only [List.all_cons,Bool.and_eq_true] at h;have ih:=zlI (M:=M) h.2;cases a<;>simp_all [AV.isClosed,curBL,AV.curB]
theorem zjp {n:Nat}:∀ {cs:List AV},cs.all AV.isClosed=true->AV.underL n cs
 | [],_=>by simp [AV.underL]
 | a::r,h=>by simp only [List.all_cons,Bool.and_eq_true] at h;have ih:=zjp (n:=n) h.2;cases a<;>simp_all [AV.isClosed,AV.underL,AV.under]
theorem zgv.more {w0:World} {l0:List Nat} {G:Nat->Prop} {E:Env} {M:Nat->AO} {F F':List Nat} {w:World} (h:zgv w0 l0 G E M F w) (hs:∀ k∈F,k∈F') (hl:∀ k∈F',w0.heap.size<=k∨k∈l0):zgv w0 l0 G E M F' w :=⟨h.inv,h.mem,fun b blk base sz k1 k2=>hs _ (h.loc b blk base sz k1 k2),fun k k1=>(h.gs k k1).imp id (hs k),hl,h.gw⟩
end Go.AM
set_option maxHeartbeats 4000000
namespace Go.AM
open Go Go.Proofs Tryz
@[simp] theorem zw0:za prog 52=some ⟨.slice 57,1,24,[.slice none 0 0]⟩:=by kernel_rfl
def zce (vs:List Value) (i:Nat) (a:AV):List AV:=(vs.map AV.v).set i a
@[simp] theorem zwh {vs:List Value} {i:Nat} {a:AV}:(zce vs i a).length=vs.length:=by simp [zce]
theorem zpj {vs:List Value} {i:Nat} (h:i<vs.length) (a:AV):(zce vs i a)[i]?=some a:=by simp [zce,h]
@[simp] theorem zpi {vs:List Value} {i:Nat} {a b:AV}:(zce vs i a).set i b=zce vs i b:=by simp [zce]
theorem zpl {vs:List Value}:(vs.map AV.v).all AV.isClosed=true:=by simp [List.all_eq_true,AV.isClosed]
@[simp] theorem zzj {vs:List Value}:nmsL (vs.map AV.v)=[]:=zoC zpl
@[simp] theorem ztP {vs:List Value} {σ:Nat->Nat} {f:Nat->Nat->Nat}:renL σ f (vs.map AV.v)=vs.map AV.v:=zoB zpl
@[simp] theorem zwZ {vs:List Value} {M:Nat->AO}:curBL M (vs.map AV.v)=true:=zlI zpl
@[simp] theorem zpk {vs:List Value} {n:Nat}:AV.underL n (vs.map AV.v):=zjp zpl
theorem zgO {n:Nat} {a:AV} (ha:a.under n):∀ {l:List AV} {i:Nat},AV.underL n l->AV.underL n (l.set i a)
 | [],_,h=>by simp [AV.underL]
 | _::_,0,h=>by simp only [List.set_cons_zero,AV.underL] at h ⊢;exact ⟨ha,h.2⟩
 | _::_,i+1,h=>by simp only [List.set_cons_succ,AV.underL] at h ⊢;exact ⟨h.1,zgO ha h.2⟩
@[simp] theorem zts {vs:List Value} {i n b m s o k:Nat} (h:b<n):AV.underL n (zce vs i (.sl b m s o k)):=zgO (a:=.sl b m s o k) h zpk
theorem zk0 {σ:Nat->Nat} {f:Nat->Nat->Nat} {a:AV}:∀ {l:List AV} {i:Nat},renL σ f (l.set i a)=(renL σ f l).set i (a.ren σ f)
 | [],_=>by simp [renL]
 | _::_,0=>by simp [renL]
 | _::_,i+1=>by simp [renL,zk0]
@[simp] theorem zwg {vs:List Value} {i:Nat} {a:AV} {σ:Nat->Nat} {f:Nat->Nat->Nat}:renL σ f (zce vs i a)=zce vs i (a.ren σ f):=by unfold zce;rw [zk0,ztP]
theorem zkQ {a:AV}:∀ {vs:List Value} {i:Nat},i<vs.length->nmsL (zce vs i a)=a.nms
 | [],_,h=>by simp at h
 | _::vs,0,_=>by simp [zce,nmsL,AV.nms]
 | _::vs,i+1,h=>by have:=zkQ (a:=a) (vs:=vs) (i:=i) (by simpa using h);unfold zce at this;simp [zce,nmsL,AV.nms,this]
theorem ziA {a:AV} {M:Nat->AO}:∀ {vs:List Value} {i:Nat},i<vs.length->curBL M (zce vs i a)=a.curB M
 | [],_,h=>by simp at h
 | _::vs,0,_=>by simp [zce,curBL]
 | _::vs,i+1,h=>by have:=ziA (a:=a) (M:=M) (vs:=vs) (i:=i) (by simpa using h);unfold zce at this;simp [zce,curBL,AV.curB,this]
def inM (xs:List (List AV)) (ins:Bool) (L:List Value) (o:Nat) (i:Nat) (v:Nat) (R:List Dp) (s:Int):List AO :=[.box [.rd 1 xs],.box [B ins],.box [.bs 3 o 1 xs.length],.box (zce L (o+i) (.sl 4 v 2 0 R.length)),.vec v 2 false (prw R),.box [I s]]
def inN (xs:List (List AV)) (ins:Bool) (L:List Value) (o:Nat) (s:Int):List AO :=[.box [.rd 1 xs],.box [B ins],.box [.bs 3 o 1 xs.length],.box (L.map AV.v),.box [I s]]
structure InD where
 xs:List (List AV)
 ins:Bool
 L:List Value
 o:Nat
 i:Nat
 R:List Dp
 s:Int
 pg:Int
structure zAW (x:InD):Prop where
 L:x.o+x.xs.length<=x.L.length
 i:x.i<x.xs.length
 n:x.xs.length<=1000000
 R:x.R.length<=1000000
noncomputable def inS:List AV->List AO->Option (AV×List AO) :=za1 (ι:={x:InD // zAW x}) (fun x=>[I x.1.pg,I x.1.i,.bp 0 0,.bp 1 0,.bp 2 0,.bp 5 0]) (fun x=>inM x.1.xs x.1.ins x.1.L x.1.o x.1.i 1 x.1.R x.1.s) (fun _=>.tup [])
  fun x=>inM x.1.xs x.1.ins x.1.L x.1.o x.1.i 2 (x.1.R++[(x.1.s,x.1.pg)]) x.1.s
theorem s85 (X:AX) (hX:XOK prog X) (hw:X.W wT):GSd prog 85 inS:=by
 unfold inS;refine gsS func85 rfl X fun ⟨⟨xs,ins,L,o,i,R,s,pg⟩,hL,hi,hx,hl⟩ w0 B E=>⟨by show 6<=24;decide,?_⟩
 simp only at hL hi hx hl ⊢;simp only [inM,List.length_append,List.length_cons,List.length_nil,Nat.zero_add];have hiI:(i:Int)<(xs.length:Int):=by omega
 have hiN:¬ (xs.length:Int)<=(i:Int):=by omega
 have hiL:o+i<L.length:=by omega
 have hgs:=zpj hiL;have hge:∀ (x:AV) (h:o+i<(zce L (o+i) x).length),(zce L (o+i) x)[o+i]=x:=fun x h=>by simp [zce]
 show AW ⟨prog,X,24,w0,⟨B,E,6⟩⟩ _ _ _;have hc:Cx.OK ⟨prog,X,24,w0,⟨B,E,6⟩⟩:=⟨hX,mixed⟩
 have zS:=jj hiI<|jj hiN<|jj hiL<|jj hgs<|jj hge<|jj ziN<|zw5;refine zhd ?_;repeat (intro K hK)
 clear zS;have hif:∀ a:AV,(if (o=0∧i=0)∧1=L.length then [a] else zce L (o+i) a)=zce L (o+i) a:=fun a=>by
  split
  ·rename_i h;obtain ⟨⟨rfl,rfl⟩,h1⟩:=h;match L,h1 with
   | [b],_=>simp [zce]
  ·rfl
 rw [hif];refine ⟨[],rfl,?_⟩;simp only [idx];exact dle
noncomputable def inU:List AV->List AO->Option (AV×List AO) :=za1 (ι:={x:InD×Int // (x.1.xs.length:Int)<=x.2}) (fun x=>[I x.1.1.pg,I x.1.2,.bp 0 0,.bp 1 0,.bp 2 0,.bp 4 0]) (fun x=>inN x.1.1.xs x.1.1.ins x.1.1.L x.1.1.o x.1.1.s) (fun _=>.tup [])
  fun x=>inN x.1.1.xs false x.1.1.L x.1.1.o x.1.1.s
theorem zxg (X:AX) (hX:XOK prog X) (hw:X.W wT):GSd prog 85 inU:=by
 unfold inU;refine gsS func85 rfl X fun ⟨⟨⟨xs,ins,L,o,i,R,s,pg⟩,nu⟩,hi⟩ w0 B E=>⟨by show 6<=24;decide,?_⟩
 simp only at hi ⊢;simp only [inN];show AW ⟨prog,X,24,w0,⟨B,E,5⟩⟩ _ _ _;have hc:Cx.OK ⟨prog,X,24,w0,⟨B,E,5⟩⟩:=⟨hX,mixed⟩
 have zS:=hi;refine zl ?_;repeat (intro K hK)
 clear zS;refine ⟨by simp,[],rfl,?_⟩;simp only [idx];exact dle
theorem zuQ {xs:List (List AV)} {ins:Bool} {L:List Value} {o i:Nat} {R:List Dp} {s pg:Int} (hL:o+xs.length<=L.length) (hi:i<xs.length) (hx:xs.length<=1000000) (hR:R.length<=1000000) :
  inS [I pg,I i,.bp 0 0,.bp 1 0,.bp 2 0,.bp 5 0] (inM xs ins L o i 1 R s)=some (.tup [],inM xs ins L o i 2 (R++[(s,pg)]) s):=by
 refine sGe (ι:={x:InD // zAW x}) (A:=fun x=>[I x.1.pg,I x.1.i,.bp 0 0,.bp 1 0,.bp 2 0,.bp 5 0]) (M:=fun x=>inM x.1.xs x.1.ins x.1.L x.1.o x.1.i 1 x.1.R x.1.s) (R:=fun _=>.tup [])
  (O:=fun x=>inM x.1.xs x.1.ins x.1.L x.1.o x.1.i 2 (x.1.R++[(x.1.s,x.1.pg)]) x.1.s) ⟨⟨xs,ins,L,o,i,R,s,pg⟩,hL,hi,hx,hR⟩ fun j hA hM=>⟨rfl,?_⟩
 obtain ⟨⟨xs',ins',L',o',i',R',s',pg'⟩,h'⟩:=j;simp only [cJ,I,AV.v.injEq,Value.int.injEq,true_and,and_true,Int.ofNat_inj] at hA;obtain ⟨rfl,rfl⟩:=hA;simp only [inM,cJ,AO.box.injEq,AO.vec.injEq,AV.rd.injEq,B,I,AV.v.injEq,Value.int.injEq,Value.bool.injEq,zaa,true_and,and_true,AV.bs.injEq] at hM;obtain ⟨rfl,rfl,⟨rfl,h3⟩,h4,rfl,rfl⟩:=hM;have:=congrArg (fun l=>l.set (o'+i') (AV.sl 4 2 2 0 (R'.length+1))) h4;simp only [zpi] at this;simp [inM,this]
theorem zuP {xs:List (List AV)} {ins:Bool} {L:List Value} {o:Nat} {s pg nu:Int} (hn:(xs.length:Int)<=nu) :
  inU [I pg,I nu,.bp 0 0,.bp 1 0,.bp 2 0,.bp 4 0] (inN xs ins L o s)=some (.tup [],inN xs false L o s):=by
 refine sGe (ι:={x:InD×Int // (x.1.xs.length:Int)<=x.2}) (A:=fun x=>[I x.1.1.pg,I x.1.2,.bp 0 0,.bp 1 0,.bp 2 0,.bp 4 0]) (M:=fun x=>inN x.1.1.xs x.1.1.ins x.1.1.L x.1.1.o x.1.1.s) (R:=fun _=>.tup [])
  (O:=fun x=>inN x.1.1.xs false x.1.1.L x.1.1.o x.1.1.s) ⟨(⟨xs,ins,L,o,0,[],s,pg⟩,nu),hn⟩ fun j hA hM=>⟨rfl,?_⟩
 obtain ⟨⟨⟨xs',ins',L',o',i',R',s',pg'⟩,nu'⟩,h'⟩:=j;simp only [inN,cJ,AO.box.injEq,AV.rd.injEq,B,I,AV.v.injEq,Value.int.injEq,Value.bool.injEq,true_and,and_true,AV.bs.injEq] at hM;obtain ⟨rfl,_,⟨rfl,_⟩,h4,rfl⟩:=hM;simp [inN,h4]
set_option maxHeartbeats 2000000
set_option maxRecDepth 4000 in
theorem zvC {xs:List (List AV)} {ins:Bool} {L:List Value} {o i v:Nat} {R:List Dp} {s:Int} (pg:Int) (hL:o+xs.length<=L.length) (hi:i<xs.length) (hx:xs.length<=1000000) (hR:R.length<=1000000) (hv:1<=v) {e:Nat} (he:5<=e)
  (M:Nat->AO) (nid:Nat) (h0:M 0=.box [.rd 1 xs]) (h1:M 1=.box [B ins]) (h2:M 2=.box [.bs 3 o 1 xs.length]) (h3:M 3=.box (zce L (o+i) (.sl e v 2 0 R.length))) (h4:M e=.vec v 2 false (prw R)) (h5:M 4=.box [I s]) :
  caG inS [I pg,I i,.bp 0 0,.bp 1 0,.bp 2 0,.bp 4 0] M nid=some (.tup [],[(0,.box [.rd 1 xs]),(1,.box [B ins]),(2,.box [.bs 3 o 1 xs.length]),(3,.box (zce L (o+i) (.sl e (v+1) 2 0 (R.length+1)))),(e,.vec (v+1) 2 false (prw (R++[(s,pg)]))),(4,.box [I s])]):=by
 have hF:=zuQ (ins:=ins) (s:=s) (pg:=pg) hL hi hx hR;simp only [inM,List.length_append,List.length_cons,List.length_nil,Nat.zero_add] at hF;obtain ⟨u,rfl⟩:∃ u,v=1+u:=⟨v - 1,by omega⟩
 have hiL:o+i<L.length:=by omega
 have n3:∀ a:AV,nmsL (zce L (o+i) a)=a.nms:=fun a=>zkQ hiL;have c3:∀ (a:AV) (M:Nat->AO),curBL M (zce L (o+i) a)=a.curB M:=fun a M=>ziA hiL;have q0:e≠0:=by omega
 have q1:e≠1:=by omega
 have q2:e≠2:=by omega
 have q3:e≠3:=by omega
 have q4:e≠4:=by omega
 have p0:=q0.symm;have p1:=q1.symm;have p2:=q2.symm;have p3:=q3.symm;have p4:=q4.symm;have e1:1+1+u=1+u+1:=by omega
 have e2:2+u=1+u+1:=by omega
 unfold caG;have hg:gat M 64 (nmsL [I pg,I i,.bp 0 0,.bp 1 0,.bp 2 0,.bp 4 0]) []=[0,1,2,3,e,4]:=by simp [gat,nmsL,AV.nms,AO.nms,h0,h1,h2,h3,h4,h5,n3,q0,q1,q2,q3,q4,p0,p1,p2,p3,p4]
 simp only [hg];rw [if_pos ?cg]
 case cg=>simp [zbp,nmsL,AV.nms,AO.nms,Led,curBL,AV.curB,AO.curB,zaj,nDd,h0,h1,h2,h3,h4,h5,n3,c3,q0,q1,q2,q3,q4,p0,p1,p2,p3,p4]
 simp [renL,AV.ren,AO.ren,zbL,zdP,nmsL,h0,h1,h2,h3,h4,h5,n3,c3,q0,q1,q2,q3,q4,p0,p1,p2,p3,p4,hF,zeZ,zcc,AV.nms,AO.nms,zdC,nmN,shN,zaj,rng,Led,e1,e2]
set_option maxRecDepth 4000 in
theorem zvB {xs:List (List AV)} {ins:Bool} {L:List Value} {o:Nat} {s:Int} (pg nu:Int) (hn:(xs.length:Int)<=nu)
  (M:Nat->AO) (nid:Nat) (h0:M 0=.box [.rd 1 xs]) (h1:M 1=.box [B ins]) (h2:M 2=.box [.bs 3 o 1 xs.length]) (h3:M 3=.box (L.map AV.v)) (h5:M 4=.box [I s]) :
  caG inU [I pg,I nu,.bp 0 0,.bp 1 0,.bp 2 0,.bp 4 0] M nid=some (.tup [],[(0,.box [.rd 1 xs]),(1,.box [B false]),(2,.box [.bs 3 o 1 xs.length]),(3,.box (L.map AV.v)),(4,.box [I s])]):=by
 have hF:=zuP (ins:=ins) (L:=L) (o:=o) (s:=s) (pg:=pg) hn;simp only [inN] at hF;unfold caG;have hg:gat M 64 (nmsL [I pg,I nu,.bp 0 0,.bp 1 0,.bp 2 0,.bp 4 0]) []=[0,1,2,3,4]:=by simp [gat,nmsL,AV.nms,AO.nms,h0,h1,h2,h3,h5]
 simp only [hg];rw [if_pos ?cg]
 case cg=>simp [zbp,nmsL,AV.nms,AO.nms,Led,curBL,AV.curB,AO.curB,zaj,nDd,h0,h1,h2,h3,h5]
 simp [renL,AV.ren,AO.ren,zbL,zdP,nmsL,h0,h1,h2,h3,h5,hF,zeZ,zcc,AV.nms,AO.nms,zdC,nmN,shN,zaj,rng,Led]
def hiM (xs:List (List AV)) (ins:Bool) (o:Nat) (L:List Value) (s:Int) (vers:Nat->Nat) (rows:List (List Dp)):Nat->AO
 | 0=>.box [.rd 1 xs]
 | 1=>.box [B ins]
 | 2=>.box [.bs 3 o 1 xs.length]
 | 3=>.box (L.map AV.v)
 | 4=>.box [I s]
 | e+5=>if e<xs.length then .vec (vers e) 2 false (prw (rows.getD e [])) else .dead
def zgM (w0:World) (l0:List Nat) (G:Nat->Prop) (k1 k2 k3 k4:Nat) (xs:List (List AV)) (s:Int) (x:Bool×List (List Dp)) (F:List Nat) (w:World):Prop :=∃ (E:Env) (o:Nat) (L:List Value) (vers:Nat->Nat),zgv w0 l0 G E (hiM xs x.1 o L s vers x.2) F w∧(∀ b,E.alive b↔b<5+xs.length) ∧
  (E.loc 0=some (k1,0,1)∧E.loc 1=some (k2,0,1)∧E.loc 2=some (k3,0,1)∧E.loc 4=some (k4,0,1))∧x.2.length=xs.length∧o+xs.length<=L.length ∧
  ∀ i,i<xs.length->∃ v,L[o+i]?=some v∧Rep E w (.sl (5+i) (vers i) 2 0 (x.2.getD i []).length) v
def inP (s:Int) (x:Bool×List (List Dp)) (e:Int×Int):Bool×List (List Dp) :=if e.2<x.2.length then (x.1,x.2.set e.2.toNat (x.2.getD e.2.toNat []++[(s,e.1)])) else (false,x.2)
theorem zgM.keep {w0:World} {l0:List Nat} {G:Nat->Prop} {k1 k2 k3 k4:Nat} {xs:List (List AV)} {s:Int} {x:Bool×List (List Dp)} {F:List Nat} {w w':World} (h:zgM w0 l0 G k1 k2 k3 k4 xs s x F w)
  (hF:∀ k∈F,w'.heap[k]?=w.heap[k]?) (hfr:zaV w0 l0 w') (hsz:w.heap.size<=w'.heap.size):zgM w0 l0 G k1 k2 k3 k4 xs s x F w':=by obtain ⟨E,o,L,vers,h1,h2,h3,h4,h5,h6⟩:=h;refine ⟨E,o,L,vers,h1.keep hF hfr hsz,h2,h3,h4,h5,fun i hi=>?_⟩;obtain ⟨v,q1,q2⟩:=h6 i hi;refine ⟨v,q1,?_⟩;simp only [Rep] at q2 ⊢;exact q2
theorem zcw {E:Env} {w:World}:∀ {L vs:List Value},RepL E w (L.map AV.v) vs↔vs=L
 | [],[]=>by simp [RepL]
 | [],_::_=>by simp [RepL]
 | _::_,[]=>by simp [RepL]
 | a::L,v::vs=>by simp only [List.map_cons,RepL,Rep,zd,zcw (L:=L),cJ]
theorem ziK {E:Env} {w:World} {a:AV} {x:Value}:∀ {L:List Value} {j:Nat},L[j]?=some x->Rep E w a x->RepL E w (zce L j a) L
 | [],_,h,_=>by simp at h
 | v::L,0,h,hr=>by
  simp only [List.getElem?_cons_zero,oJ] at h;subst h;simp only [zce,List.map_cons,List.set_cons_zero,RepL];exact ⟨hr,zcw.2 rfl⟩
 | v::L,j+1,h,hr=>by have:=ziK (L:=L) (j:=j) (by simpa using h) hr;simp only [zce,List.map_cons,List.set_cons_succ,RepL,Rep,zd,true_and] at this ⊢;exact this
theorem zeg {E:Env} {w:World} {a:AV}:∀ {L vs:List Value} {j:Nat},RepL E w (zce L j a) vs->j<L.length->vs.length=L.length∧(∀ k,k≠j->vs[k]?=L[k]?)∧∃ x,vs[j]?=some x∧Rep E w a x
 | [],_,_,_,h=>by simp at h
 | v::L,[],0,h,_=>by simp [zce,RepL] at h
 | v::L,[],j+1,h,_=>by simp [zce,RepL] at h
 | v::L,u::vs,0,h,_=>by
  simp only [zce,List.map_cons,List.set_cons_zero,RepL] at h;obtain ⟨h1,h2⟩:=h;rw [zcw] at h2;subst h2;refine ⟨rfl,fun k hk=>?_,u,rfl,h1⟩;cases k with
  | zero=>exact absurd rfl hk
  | succ k=>rfl
 | v::L,u::vs,j+1,h,hj=>by
  have hh:RepL E w (zce L j a) vs∧u=v:=by simp only [zce,List.map_cons,List.set_cons_succ,RepL,Rep,zd] at h ⊢;exact ⟨h.2,h.1⟩
  obtain ⟨q1,q2,q3⟩:=zeg (j:=j) hh.1 (by simpa using hj);refine ⟨by simp [q1],fun k hk=>?_,by simpa using q3⟩;cases k with
  | zero=>simp [hh.2]
  | succ k=>simpa using q2 k (by omega)
theorem zgl {E:Env} {w:World} {b:Nat} {cs:List AV} (h:ObR E w b (.box cs)):E.ver b=0:=by simp only [ObR] at h;exact h.1
theorem ziE {E E':Env} (h:E.Le E') {b:Nat} (hb:E.alive b) (h0:E.ver b=0):E'.ver b=0∧E'.loc b=E.loc b:=by
 rcases h.same b hb with ⟨q1,q2⟩|⟨q1,_⟩
 ·exact ⟨q1.trans h0,q2⟩
 ·omega
def pK (k:Nat):Value:=.pointer (some ⟨k,0,none⟩)
theorem zgM.call {w0:World} {l0:List Nat} {G:Nat->Prop} {k1 k2 k3 k4:Nat} {xs:List (List AV)} {s:Int} {x:Bool×List (List Dp)} {F:List Nat} {w:World} {X:AX} (hX:XOK prog X) (hw:X.W wT) (h:zgM w0 l0 G k1 k2 k3 k4 xs s x F w)
  (hn:xs.length<=1000000) (hR:∀ i,(x.2.getD i []).length<=1000000) (pg nu:Int) (hnu:0<=nu) :
  Calls prog 85 [Value.int .i64 pg,.int .i64 nu,pK k1,pK k2,pK k3,pK k4].toArray w fun e w'=>∃ r,e=.returned r∧zgM w0 l0 G k1 k2 k3 k4 xs s (inP s x (pg,nu)) (F++List.range' w.heap.size (w'.heap.size - w.heap.size)) w'∧zaV w F w':=by
 obtain ⟨ins,rows⟩:=x;obtain ⟨E,o,L,vers,h1,h2,⟨l1,l2,l3,l4⟩,h4,h5,h6⟩:=h;simp only at h1 h4 h6 hR;have al:∀ b,b<5->E.alive b:=fun b hb=>(h2 b).2 (by omega);have v0:E.ver 0=0:=zgl (h1.mem 0 (al 0 (by omega)));have v1:E.ver 1=0:=zgl (h1.mem 1 (al 1 (by omega)));have v2:E.ver 2=0:=zgl (h1.mem 2 (al 2 (by omega)));have v3:E.ver 3=0:=zgl (h1.mem 3 (al 3 (by omega)));have v4:E.ver 4=0:=zgl (h1.mem 4 (al 4 (by omega)));have hr:RepL E w [I pg,I nu,.bp 0 0,.bp 1 0,.bp 2 0,.bp 4 0] [Value.int .i64 pg,.int .i64 nu,pK k1,pK k2,pK k3,pK k4]:=by simp only [RepL,Rep,zd,I,and_true];exact ⟨trivial,trivial,⟨al 0 (by omega),v0,k1,1,l1,rfl⟩,⟨al 1 (by omega),v1,k2,1,l2,rfl⟩,⟨al 2 (by omega),v2,k3,1,l3,rfl⟩,⟨al 4 (by omega),v4,k4,1,l4,rfl⟩⟩
 have hfresh:∀ k,5+xs.length<=k->k<5+xs.length+16->¬ E.alive k:=fun k q1 _ q2=>by have:=(h2 k).1 q2;omega
 rcases dE (nu<(xs.length:Int)) with hlt|hge
 ·obtain ⟨i,rfl⟩:∃ i:Nat,nu=i:=⟨nu.toNat,by omega⟩
  have hi:i<xs.length:=by omega
  have hP:inP s (ins,rows) (pg,(i:Int))=(ins,rows.set i (rows.getD i []++[(s,pg)])):=by unfold inP;simp only [h4];rw [if_pos hlt];simp
  rw [hP];obtain ⟨v,q1,q2⟩:=h6 i hi;obtain ⟨R,hRd⟩:∃ R,R=rows.getD i []:=⟨_,rfl⟩
  have hRl:=hR i;rw [<- hRd] at hRl q2 ⊢
  let M2:Nat->AO:=fun b=>if b=3 then .box (zce L (o+i) (.sl (5+i) (vers i) 2 0 R.length)) else hiM xs ins o L s vers rows b
  have hm2:zai E w M2:=fun b hb=>by
   show ObR E w b (if b=3 then _ else _);split
   ·rename_i e;subst e;have hm:=h1.mem 3 hb;simp only [hiM,ObR] at hm ⊢;obtain ⟨a1,blk,t,vs,a2,a3,a4,a5⟩:=hm;rw [zcw] at a5;subst a5;exact ⟨a1,blk,t,vs,a2,a3,a4,ziK q1 q2⟩
   ·exact h1.mem b hb
  have hvi:1<=vers i:=by simp only [Rep] at q2;exact q2.2.1
  have e5:M2 (5+i)=.vec (vers i) 2 false (prw R):=by show (if 5+i=3 then _ else hiM xs ins o L s vers rows (5+i))=_;rw [if_neg (by omega),show 5+i=i+5 by omega];simp [hiM,hi,hRd]
  have hcl:=zvC (xs:=xs) (ins:=ins) (L:=L) (o:=o) (i:=i) (v:=vers i) (R:=R) (s:=s) pg h5 hi hn hRl hvi (e:=5+i) (by omega) M2 (5+xs.length) rfl rfl rfl rfl e5 rfl;refine Calls.mono (zgv.call (GSd.caG (s85 X hX hw)) (h1.obj hm2) hr hfresh hcl) fun e w' ⟨r,E',p1,p2,p3,p4,p5⟩=>⟨r,p1,?_,p5⟩
  have hm':=p4.mem;have al':∀ b,b<5+xs.length->E'.alive b:=fun b hb=>p3.le.alive b ((h2 b).2 hb);have o3:=hm' 3 (al' 3 (by omega));simp only [zbP,show (3:Nat)≠0 by omega] at o3;have o3':ObR E' w' 3 (.box (zce L (o+i) (.sl (5+i) (vers i+1) 2 0 (R.length+1)))):=by simpa [zbP] using o3
  simp only [ObR] at o3';obtain ⟨a1,blk,t,vs,a2,a3,a4,a5⟩:=o3';obtain ⟨b1,b2,y,b3,b4⟩:=zeg a5 (by omega);refine ⟨E',o,vs,fun j=>if j=i then vers i+1 else vers j,p4.obj fun b hb=>?_,fun b=>⟨fun hb=>?_,fun hb=>al' b hb⟩,⟨?_,?_,?_,?_⟩,by simpa using h4,by omega,fun j hj=>?_⟩
  ·have hob:=hm' b hb;match b,hb,hob with
   | 0,_,hob=>simpa [zbP,hiM] using hob
   | 1,_,hob=>simpa [zbP,hiM] using hob
   | 2,_,hob=>simpa [zbP,hiM] using hob
   | 3,_,_ =>
    simp only [hiM,ObR];exact ⟨a1,blk,t,vs,a2,a3,a4,zcw.2 rfl⟩
   | 4,_,hob =>
    have e4:(5+i=4)=False:=by simp;omega
    simpa [zbP,hiM,e4] using hob
   | j+5,hb,hob =>
    simp only [hiM];by_cases ej:j=i
    ·subst ej;have e0:(5+j=j+5)=True:=by simp;omega
     have g1:(rows.set j (R++[(s,pg)])).getD j []=R++[(s,pg)]:=by rw [List.getD_eq_getElem?_getD,List.getElem?_set_self (by omega)];rfl
     simp only [hi,if_true,g1];simpa [zbP,e0] using hob
    ·have e0:(5+i=j+5)=False:=by simp;omega
     have g1:(rows.set i (R++[(s,pg)])).getD j []=rows.getD j []:=by rw [List.getD_eq_getElem?_getD,List.getElem?_set_ne (Ne.symm ej),List.getD_eq_getElem?_getD]
     simp only [ej,if_false,g1];simpa [zbP,e0,M2,hiM] using hob
  ·rcases p3.alive b hb with q|q
   ·exact (h2 b).1 q
   ·simp only [List.map_cons,List.map_nil,List.mem_cons,List.not_mem_nil,or_false] at q;omega
  ·rw [(ziE p3.le (al 0 (by omega)) v0).2];exact l1
  ·rw [(ziE p3.le (al 1 (by omega)) v1).2];exact l2
  ·rw [(ziE p3.le (al 2 (by omega)) v2).2];exact l3
  ·rw [(ziE p3.le (al 4 (by omega)) v4).2];exact l4
  ·by_cases ej:j=i
   ·subst ej;have g1:(rows.set j (R++[(s,pg)])).getD j []=R++[(s,pg)]:=by rw [List.getD_eq_getElem?_getD,List.getElem?_set_self (by omega)];rfl
    simp only [g1,if_true,List.length_append,List.length_cons,List.length_nil,Nat.zero_add];exact ⟨y,b3,b4⟩
   ·have g1:(rows.set i (R++[(s,pg)])).getD j []=rows.getD j []:=by rw [List.getD_eq_getElem?_getD,List.getElem?_set_ne (Ne.symm ej),List.getD_eq_getElem?_getD]
    obtain ⟨z,c1,c2⟩:=h6 j hj;simp only [g1,ej,if_false];exact ⟨z,(b2 (o+j) (by omega)).trans c1,p3.rep h1.base c2⟩
 ·have hP:inP s (ins,rows) (pg,nu)=(false,rows):=by unfold inP;simp only [h4];rw [if_neg hge]
  rw [hP];have hcl:=zvB (xs:=xs) (ins:=ins) (L:=L) (o:=o) (s:=s) pg nu (by omega) (hiM xs ins o L s vers rows) (5+xs.length) rfl rfl rfl rfl rfl;refine Calls.mono (zgv.call (GSd.caG (zxg X hX hw)) h1 hr hfresh hcl) fun e w' ⟨r,E',p1,p2,p3,p4,p5⟩=>⟨r,p1,?_,p5⟩
  have hm':=p4.mem;have al':∀ b,b<5+xs.length->E'.alive b:=fun b hb=>p3.le.alive b ((h2 b).2 hb);refine ⟨E',o,L,vers,p4.obj fun b hb=>?_,fun b=>⟨fun hb=>?_,fun hb=>al' b hb⟩,⟨?_,?_,?_,?_⟩,h4,h5,fun j hj=>?_⟩
  ·have hob:=hm' b hb;match b,hb,hob with
   | 0,_,hob=>simpa [zbP,hiM] using hob
   | 1,_,hob=>simpa [zbP,hiM] using hob
   | 2,_,hob=>simpa [zbP,hiM] using hob
   | 3,_,hob=>simpa [zbP,hiM] using hob
   | 4,_,hob=>simpa [zbP,hiM] using hob
   | j+5,hb,hob=>simpa [zbP,hiM] using hob
  ·rcases p3.alive b hb with q|q
   ·exact (h2 b).1 q
   ·simp only [List.map_cons,List.map_nil,List.mem_cons,List.not_mem_nil,or_false] at q;omega
  ·rw [(ziE p3.le (al 0 (by omega)) v0).2];exact l1
  ·rw [(ziE p3.le (al 1 (by omega)) v1).2];exact l2
  ·rw [(ziE p3.le (al 2 (by omega)) v2).2];exact l3
  ·rw [(ziE p3.le (al 4 (by omega)) v4).2];exact l4
  ·obtain ⟨z,c1,c2⟩:=h6 j hj;exact ⟨z,c1,p3.rep h1.base c2⟩
end Go.AM
