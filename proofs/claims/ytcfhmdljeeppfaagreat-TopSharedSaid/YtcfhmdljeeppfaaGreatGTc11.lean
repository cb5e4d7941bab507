/- A part of the proof. -/
import Derived.Test.YtcfhmdljeeppfaaGreatGTc1
import Derived.Test.YtcfhmdljeeppfaaGreatGPt20
import Derived.Test.YtcfhmdljeeppfaaGreatGPt62
set_option linter.all false
namespace Go.AM
open Go Go.Proofs Tryz
noncomputable def wrR (c:Cw) (s p w:Int):Cw×Int:=if atC c s p=0 then wrC c s.toNat p.toNat w else (cw0,atC c s p)
noncomputable def FWr (k:Nat):List AV->Option AV:=spF (ι:={x:Cw×Int×Int×Int // zk x.1∧(atC x.1 x.2.1 x.2.2.1=0->x.2.1=(k:Int))}) (fun x=>[CwV x.1.1,I x.1.2.1,I x.1.2.2.1,I x.1.2.2.2]) fun x=>rtO [CwO (wrR x.1.1 x.1.2.1 x.1.2.2.1 x.1.2.2.2).1,I (wrR x.1.1 x.1.2.1 x.1.2.2.1 x.1.2.2.2).2]
theorem ixC {X:AX} (h:X.call 78=caP zv7) {fr:List Dp} (hl:fr.length<=1000000) {f:Nat} (M:Nat->AO) (nid:Nat) (hM:M f=.vec 1 2 false (prw fr)):X.call 78 [.sl f 1 2 0 fr.length,.fn 79 []] M nid=some (I (frI fr),[]):=by rw [h];have tk:List.take fr.length (prw fr)=prw fr:=tkL (by simp);exact cPs (ι:={l:List Dp // l.length<=1000000}) (A:=fun x=>[.rd 2 (prw x.1),.fn 79 []]) (R:=fun x=>rtO [I (frI x.1)]) (avs:=[.sl f 1 2 0 fr.length,.fn 79 []]) (M:=M) (n:=nid) ⟨fr,hl⟩ (by simp [zah,zbl,zaH,zbE,hM,tk]) (by rintro ⟨l',h'⟩ e;simp only [cJ,AV.rd.injEq,zaa,true_and,and_true] at e;obtain rfl:=e;rfl) (by simp [rtO,oRt,oVs,oVl,oLs,oLf])
theorem zno {l:List CwP} {j:Nat} {x:CwP} (h:j<l.length):(pgr (l.set j x))[j]?=some [I x.1,B x.2]:=by have:=ze3 (l:=l.set j x) (i:=j) (by simpa using h);rw [zf7 h,if_pos rfl] at this;exact this
theorem znp {l:List CwP} {j:Nat} {x:CwP} (h:j<l.length):∀ h',(pgr (l.set j x))[j]'(h')=[I x.1,B x.2]:=fun h'=>by have:=ze4 (l:=l.set j x) (i:=j) (by simpa using h) h';rw [zf7 h,if_pos rfl] at this;exact this
theorem zk3 {l:List Dp} {j:Nat} {x:Dp} (h:j<l.length):(prw (l.set j x))[j]?=some [I x.1,I x.2]:=by have:=zab (l:=l.set j x) (n:=j) (by simpa using h);rw [ze6 h,if_pos rfl] at this;exact this
theorem zk4 {l:List Dp} {j:Nat} {x:Dp} (h:j<l.length):∀ h',(prw (l.set j x))[j]'(h')=[I x.1,I x.2]:=fun h'=>by have:=zac (l:=l.set j x) (n:=j) (by simpa using h) h';rw [ze6 h,if_pos rfl] at this;exact this
theorem zuf {l:List Dp} {i:Nat} {x:Dp} {a b:Int}:(prw (l.set i x)).set i [AV.v (.int .i64 a),AV.v (.int .i64 b)]=prw (l.set i (a,b)):=by rw [zqE,List.set_set]
theorem zxy {l:List CwP} {i:Nat} {x:CwP} {a:Int} {b:Bool}:(pgr (l.set i x)).set i [AV.v (.int .i64 a),AV.v (.bool b)]=pgr (l.set i (a,b)):=by have:=@zfL (l.set i x) i (a,b);rw [List.set_set] at this;exact this
set_option maxHeartbeats 16000000 in
theorem s20 (k:Nat) (X:AX) (L:OpX X k):PSd prog 20 (FWr k):=by
 have hX:=L.ok;have hw:=L.w;unfold FWr;refine psS hX mixed func20 rfl fun ⟨⟨⟨sz,ss,fr,cp⟩,s,p,wd⟩,h,hsk⟩ w0 G=>⟨by show 4<=98;decide,rfl,?_⟩
 show AW ⟨prog,X,98,w0,.pure G⟩ _ _ _;have hc:=okc hX 98 w0 G;have ha:=L.at' _ s p h;simp only at h hsk ha ⊢;unfold wrR;rcases dE (atC (sz,ss,fr,cp) s p=0) with h0|h0
 ·rw [if_pos h0];have hs:=hsk h0;obtain ⟨h1,h2,h3⟩:=zoN h0;obtain ⟨h4,h5,h6⟩:=zgC h1;subst hs;obtain ⟨j,rfl⟩:=Int.eq_ofNat_of_zero_le h2;simp only at h3 h5 h6;have hk:k<ss.length:=by omega
  have hlv:=h.live _ (zaT hk);simp only [Int.toNat_natCast] at h6 hlv ⊢;have hll:=hlv.1 h6;have ow:=L.ow _ h hk;have owE:=fun M n=>(ow M n).trans (zjv h hk M n);have hsz:=h.sz;have hfr:=h.fr;have hcp:=h.cp;simp only at hsz hfr hcp;have hpg:=h.pg _ (zb8 hk (p:=j) (by simp only;omega));have hcb:=zp8 h;have hix:=fun (M:Nat->AO) (nid:Nat)=>@ixC X L.ix fr (by omega) 178 M nid;rw [h0] at ha;simp only at hpg hcb owE;unfold wrC;simp only;obtain ⟨⟨kb,l⟩,hx⟩:∃ x,x=gsp ss k:=⟨_,rfl⟩
  unfold CwV at ha owE ⊢;simp only at ha owE ⊢;have hjl:j<l.length:=by rw [<- hx] at hll;simp only at hll;omega
  have hjI:(j:Int)<(l.length:Int):=by omega
  have hkI:(k:Int)<(ss.length:Int):=by omega
  have e2:(gsp ss k).2=l:=by rw [<- hx]
  have e1:(gsp ss k).1=kb:=by rw [<- hx]
  rw [e1,e2];rw [e2] at hpg;have hg:=ze3 hjl;have hgE:=ze4 hjl;obtain ⟨⟨f,b⟩,hy⟩:∃ x,x=gpg l j:=⟨_,rfl⟩
  rw [<- hy] at hpg hg hgE ⊢;simp only at hpg hg hgE ⊢;have hn0:¬ (((if (0:Int)<=0 then (0:Int) else 1))<0):=by simp
  clear hn0;rcases dE (f<0∨1<(gp fr f.toNat).1) with hc1|hc1
  ·rw [if_pos hc1];rcases dE (frz fr<fr.length) with hz|hz
   ·rw [if_pos hz];have hfi:frI fr=(frz fr:Int):=by unfold frI;rw [if_pos hz]
    have hz0:=zqT hz;have hzg:=zab hz;have hzE:=zac hz;obtain ⟨z,hzd⟩:∃ z,z=frz fr:=⟨_,rfl⟩
    rw [<- hzd] at hz hfi hz0 hzg hzE ⊢;rw [hfi] at hix;obtain ⟨⟨z0,zw⟩,hzz⟩:∃ x,x=gp fr z:=⟨_,rfl⟩
    rw [<- hzz] at hz0 hzg hzE;simp only at hz0 hzg hzE;have hzI:(z:Int)<(fr.length:Int):=by omega
    have hzn:¬ (z:Int)<0:=by omega
    obtain ⟨L1,hL1d⟩:∃ L1,L1=l.set j ((z:Int),b):=⟨_,rfl⟩
    obtain ⟨L2,hL2d⟩:∃ L2,L2=l.set j ((z:Int),true):=⟨_,rfl⟩
    have hL2:L2.length=l.length:=by rw [hL2d];simp
    have p1:(pgr l).set j [I (z:Int),B b]=pgr L1:=by rw [hL1d];exact @zfL l j ((z:Int),b)
    have p2:(pgr L1)[j]?=some [I (z:Int),B b]:=by rw [hL1d];exact zno hjl
    have p2E:∀ h',(pgr L1)[j]'(h')=[I (z:Int),B b]:=by rw [hL1d];exact znp hjl
    have p3:(pgr L1).set j [I (z:Int),AV.v (.bool true)]=pgr L2:=by rw [hL1d,hL2d];exact zxy
    have p4:(pgr L2)[j]?=some [I (z:Int),B true]:=by rw [hL2d];exact zno hjl
    have p4E:∀ h',(pgr L2)[j]'(h')=[I (z:Int),B true]:=by rw [hL2d];exact znp hjl
    rw [<- hL2d];rcases dE (f<0) with hf|hf
    ·have hf':¬ 0<=f:=by omega
     rw [if_neg hf',if_neg hf'];obtain ⟨F1,hF1d⟩:∃ F1,F1=fr.set z ((1:Int),zw):=⟨_,rfl⟩
     obtain ⟨F2,hF2d⟩:∃ F2,F2=fr.set z ((1:Int),wd):=⟨_,rfl⟩
     have hF2:F2.length=fr.length:=by rw [hF2d];simp
     have q1:(prw fr).set z [AV.v (.int .i64 1),I zw]=prw F1:=by rw [hF1d];exact zqE
     have q2:(prw F1)[z]?=some [I 1,I zw]:=by rw [hF1d];exact zk3 hz
     have q2E:∀ h',(prw F1)[z]'(h')=[I 1,I zw]:=by rw [hF1d];exact zk4 hz
     have q3:(prw F1).set z [I 1,I wd]=prw F2:=by rw [hF1d,hF2d];exact zuf
     rw [<- hF2d];repeat' ((fail_if_success (with_reducible refine zb3 (id:=17) ?_));first
      | (apply aSk;intro K hK)
      | (refine zae hc (by exact zau) ?_;simp [List.zipIdx,ha,owE,e1,e2,hkI,hk,hjl,hjI,hg,hgE,hf,hf',hix,hzn,hz,hzI,hzg,hzE,p1,p2,p2E,p3,p4,p4E,q1,q2,q2E,q3,-zb,gMh,gMm,gMn];(repeat (simp (disch:=first|omega|assumption|fail) only [if_pos,if_neg,zm];try simp [List.zipIdx,ha,owE,e1,e2,hkI,hk,hjl,hjI,hg,hgE,hf,hf',hix,hzn,hz,hzI,hzg,hzE,p1,p2,p2E,p3,p4,p4E,q1,q2,q2E,q3,-zb,gMh,gMm,gMn]));try (repeat' (refine gQs (fun h=>?_) (fun h=>?_)<;>simp at h<;>(simp [List.zipIdx,ha,owE,e1,e2,hkI,hk,hjl,hjI,hg,hgE,hf,hf',hix,hzn,hz,hzI,hzg,hzE,p1,p2,p2E,p3,p4,p4E,q1,q2,q2E,q3,-zb,gMh,gMm,gMn];(repeat (simp (disch:=first|omega|assumption|fail) only [if_pos,if_neg,zm];try simp [List.zipIdx,ha,owE,e1,e2,hkI,hk,hjl,hjI,hg,hgE,hf,hf',hix,hzn,hz,hzI,hzg,hzE,p1,p2,p2E,p3,p4,p4E,q1,q2,q2E,q3,-zb,gMh,gMm,gMn]))))))
      | (refine za6 hc ?_;simp [List.zipIdx,ha,owE,e1,e2,hkI,hk,hjl,hjI,hg,hgE,hf,hf',hix,hzn,hz,hzI,hzg,hzE,p1,p2,p2E,p3,p4,p4E,q1,q2,q2E,q3,-zb,gMh,gMm,gMn];(repeat (simp (disch:=first|omega|assumption|fail) only [if_pos,if_neg,zm];try simp [List.zipIdx,ha,owE,e1,e2,hkI,hk,hjl,hjI,hg,hgE,hf,hf',hix,hzn,hz,hzI,hzg,hzE,p1,p2,p2E,p3,p4,p4E,q1,q2,q2E,q3,-zb,gMh,gMm,gMn]));refine ⟨by kernel_rfl,?_⟩)
      | (refine zae hc (by first|(intro _;rw [zat hw];kernel_rfl)|(intro _;rw [ordB_w0 hw0];kernel_rfl)|(intro _;kernel_rfl)) ?_;simp [List.zipIdx,ha,owE,e1,e2,hkI,hk,hjl,hjI,hg,hgE,hf,hf',hix,hzn,hz,hzI,hzg,hzE,p1,p2,p2E,p3,p4,p4E,q1,q2,q2E,q3,-zb,gMh,gMm,gMn];(repeat (simp (disch:=first|omega|assumption|fail) only [if_pos,if_neg,zm];try simp [List.zipIdx,ha,owE,e1,e2,hkI,hk,hjl,hjI,hg,hgE,hf,hf',hix,hzn,hz,hzI,hzg,hzE,p1,p2,p2E,p3,p4,p4E,q1,q2,q2E,q3,-zb,gMh,gMm,gMn]));try (repeat' (refine gQs (fun h=>?_) (fun h=>?_)<;>simp at h<;>(simp [List.zipIdx,ha,owE,e1,e2,hkI,hk,hjl,hjI,hg,hgE,hf,hf',hix,hzn,hz,hzI,hzg,hzE,p1,p2,p2E,p3,p4,p4E,q1,q2,q2E,q3,-zb,gMh,gMm,gMn];(repeat (simp (disch:=first|omega|assumption|fail) only [if_pos,if_neg,zm];try simp [List.zipIdx,ha,owE,e1,e2,hkI,hk,hjl,hjI,hg,hgE,hf,hf',hix,hzn,hz,hzI,hzg,hzE,p1,p2,p2E,p3,p4,p4E,q1,q2,q2E,q3,-zb,gMh,gMm,gMn]))))))
      | (refine eC (fun h=>?_) (fun h=>?_)<;>(try simp at h))
      | (refine aBl ?_)
      | (refine zaf ?_;simp only [ze,bkQ,if_true])
      | (refine zag ?_;simp [ze,bkQ])
      | (refine zar ?_;simp only [ze,bkQ])
      | (refine aRd ?_)
      | (refine hK _ ?_;clear hK)
      | (clear hK;refine hK _ ?_;clear hK)
      | (clear hK;clear hK;refine hK _ ?_;clear hK)
      | (clear hK;clear hK;clear hK;refine hK _ ?_;clear hK))
     refine zad (zem (c:=176) (i:=1) (b:=177) (v:=1) (v':=1) (sz:=2) (s':=2) (cs:=[B kb,.sl 177 1 2 0 l.length]) (xs:=pgr L2) (ys:=spr ss) (k:=k) (f:=false) (by simp) (by simp [hL2]) (by simp)) ?_;refine zad (zdl (b:=176) (v:=1) (sz:=2) (k:=k) (xs:=spr ss) (e:=[B kb,.rd 2 (pgr L2)]) (by simp) (by simp [AV.isClosed,B])) ?_;have hst:=@zdU ss k kb L2;have zS:=hst;repeat' (first|(refine aSk fun K hK=>?_)|(refine zp ?_)|(refine eC (fun h=>?_) (fun h=>?_)<;>(try simp at h))|(refine hK _ ?_;clear hK)|clear hK)
     all_goals clear zS
     have tk1:List.take ss.length (spr (ss.set k (kb,L2)))=spr (ss.set k (kb,L2)):=tkL (by simp);have tk2:List.take fr.length (prw F2)=prw F2:=tkL (by simp [hF2]);refine ⟨by simp,?_⟩;simp [lvI,f20,CwO,tk1,tk2,hF2];try exact dt
    ·have h0f:0<=f:=by omega
     obtain ⟨g,rfl⟩:=Int.eq_ofNat_of_zero_le h0f;rw [if_pos h0f,if_pos h0f];simp only [Int.toNat_natCast] at hc1 ⊢;have hgl:g<fr.length:=by omega
     have hgI:(g:Int)<(fr.length:Int):=by omega
     have hgg:=zab hgl;have hggE:=zac hgl;have hcg:=hcb g hgl;obtain ⟨⟨a,w1⟩,hgx⟩:∃ x,x=gp fr g:=⟨_,rfl⟩
     rw [<- hgx] at hc1 hgg hggE hcg ⊢;simp only at hc1 hgg hggE hcg ⊢;have ha1:1<a:=by omega
     have hgz:¬ z=g:=fun e=>by rw [e,<- hgx] at hzz;simp only [pJ] at hzz;omega
     obtain ⟨F0,hF0d⟩:∃ F0,F0=fr.set g (a - 1,w1):=⟨_,rfl⟩
     have hF0:F0.length=fr.length:=by rw [hF0d];simp
     have hz':z<F0.length:=by omega
     have q0:(prw fr).set g [AV.v (.int .i64 (a - 1)),I w1]=prw F0:=by rw [hF0d];exact zqE
     have hgz0:gp F0 z=(z0,zw):=by rw [hF0d,ze6 hgl,if_neg hgz];exact hzz.symm
     have q5:(prw F0)[z]?=some [I z0,I zw]:=by rw [zab hz',hgz0]
     have q5E:∀ h',(prw F0)[z]'(h')=[I z0,I zw]:=fun h'=>by rw [zac hz' h',hgz0]
     obtain ⟨F1,hF1d⟩:∃ F1,F1=F0.set z ((1:Int),zw):=⟨_,rfl⟩
     obtain ⟨F2,hF2d⟩:∃ F2,F2=F0.set z ((1:Int),wd):=⟨_,rfl⟩
     have hF2:F2.length=fr.length:=by rw [hF2d];simp [hF0]
     have q1:(prw F0).set z [AV.v (.int .i64 1),I zw]=prw F1:=by rw [hF1d];exact zqE
     have q2:(prw F1)[z]?=some [I 1,I zw]:=by rw [hF1d];exact zk3 hz'
     have q2E:∀ h',(prw F1)[z]'(h')=[I 1,I zw]:=by rw [hF1d];exact zk4 hz'
     have q3:(prw F1).set z [I 1,I wd]=prw F2:=by rw [hF1d,hF2d];exact zuf
     rw [<- hF0d,<- hF2d];have hfn:¬ (g:Int)<0:=by omega
     repeat' ((fail_if_success (with_reducible refine zb3 (id:=17) ?_));first
      | (apply aSk;intro K hK)
      | (refine zae hc (by exact zau) ?_;simp [List.zipIdx,ha,owE,e1,e2,hkI,hk,hjl,hjI,hg,hgE,hfn,ha1,hgl,hgI,hgg,hggE,q0,q5,q5E,hix,hzn,hz,hzI,p1,p2,p2E,p3,p4,p4E,q1,q2,q2E,q3,-zb,gMh,gMm,gMn];(repeat (simp (disch:=first|omega|assumption|fail) only [if_pos,if_neg,zm];try simp [List.zipIdx,ha,owE,e1,e2,hkI,hk,hjl,hjI,hg,hgE,hfn,ha1,hgl,hgI,hgg,hggE,q0,q5,q5E,hix,hzn,hz,hzI,p1,p2,p2E,p3,p4,p4E,q1,q2,q2E,q3,-zb,gMh,gMm,gMn]));try (repeat' (refine gQs (fun h=>?_) (fun h=>?_)<;>simp at h<;>(simp [List.zipIdx,ha,owE,e1,e2,hkI,hk,hjl,hjI,hg,hgE,hfn,ha1,hgl,hgI,hgg,hggE,q0,q5,q5E,hix,hzn,hz,hzI,p1,p2,p2E,p3,p4,p4E,q1,q2,q2E,q3,-zb,gMh,gMm,gMn];(repeat (simp (disch:=first|omega|assumption|fail) only [if_pos,if_neg,zm];try simp [List.zipIdx,ha,owE,e1,e2,hkI,hk,hjl,hjI,hg,hgE,hfn,ha1,hgl,hgI,hgg,hggE,q0,q5,q5E,hix,hzn,hz,hzI,p1,p2,p2E,p3,p4,p4E,q1,q2,q2E,q3,-zb,gMh,gMm,gMn]))))))
      | (refine za6 hc ?_;simp [List.zipIdx,ha,owE,e1,e2,hkI,hk,hjl,hjI,hg,hgE,hfn,ha1,hgl,hgI,hgg,hggE,q0,q5,q5E,hix,hzn,hz,hzI,p1,p2,p2E,p3,p4,p4E,q1,q2,q2E,q3,-zb,gMh,gMm,gMn];(repeat (simp (disch:=first|omega|assumption|fail) only [if_pos,if_neg,zm];try simp [List.zipIdx,ha,owE,e1,e2,hkI,hk,hjl,hjI,hg,hgE,hfn,ha1,hgl,hgI,hgg,hggE,q0,q5,q5E,hix,hzn,hz,hzI,p1,p2,p2E,p3,p4,p4E,q1,q2,q2E,q3,-zb,gMh,gMm,gMn]));refine ⟨by kernel_rfl,?_⟩)
      | (refine zae hc (by first|(intro _;rw [zat hw];kernel_rfl)|(intro _;rw [ordB_w0 hw0];kernel_rfl)|(intro _;kernel_rfl)) ?_;simp [List.zipIdx,ha,owE,e1,e2,hkI,hk,hjl,hjI,hg,hgE,hfn,ha1,hgl,hgI,hgg,hggE,q0,q5,q5E,hix,hzn,hz,hzI,p1,p2,p2E,p3,p4,p4E,q1,q2,q2E,q3,-zb,gMh,gMm,gMn];(repeat (simp (disch:=first|omega|assumption|fail) only [if_pos,if_neg,zm];try simp [List.zipIdx,ha,owE,e1,e2,hkI,hk,hjl,hjI,hg,hgE,hfn,ha1,hgl,hgI,hgg,hggE,q0,q5,q5E,hix,hzn,hz,hzI,p1,p2,p2E,p3,p4,p4E,q1,q2,q2E,q3,-zb,gMh,gMm,gMn]));try (repeat' (refine gQs (fun h=>?_) (fun h=>?_)<;>simp at h<;>(simp [List.zipIdx,ha,owE,e1,e2,hkI,hk,hjl,hjI,hg,hgE,hfn,ha1,hgl,hgI,hgg,hggE,q0,q5,q5E,hix,hzn,hz,hzI,p1,p2,p2E,p3,p4,p4E,q1,q2,q2E,q3,-zb,gMh,gMm,gMn];(repeat (simp (disch:=first|omega|assumption|fail) only [if_pos,if_neg,zm];try simp [List.zipIdx,ha,owE,e1,e2,hkI,hk,hjl,hjI,hg,hgE,hfn,ha1,hgl,hgI,hgg,hggE,q0,q5,q5E,hix,hzn,hz,hzI,p1,p2,p2E,p3,p4,p4E,q1,q2,q2E,q3,-zb,gMh,gMm,gMn]))))))
      | (refine eC (fun h=>?_) (fun h=>?_)<;>(try simp at h))
      | (refine aBl ?_)
      | (refine zaf ?_;simp only [ze,bkQ,if_true])
      | (refine zag ?_;simp [ze,bkQ])
      | (refine zar ?_;simp only [ze,bkQ])
      | (refine aRd ?_)
      | (refine hK _ ?_;clear hK)
      | (clear hK;refine hK _ ?_;clear hK)
      | (clear hK;clear hK;refine hK _ ?_;clear hK)
      | (clear hK;clear hK;clear hK;refine hK _ ?_;clear hK))
     refine zad (zem (c:=176) (i:=1) (b:=177) (v:=1) (v':=1) (sz:=2) (s':=2) (cs:=[B kb,.sl 177 1 2 0 l.length]) (xs:=pgr L2) (ys:=spr ss) (k:=k) (f:=false) (by simp) (by simp [hL2]) (by simp)) ?_;refine zad (zdl (b:=176) (v:=1) (sz:=2) (k:=k) (xs:=spr ss) (e:=[B kb,.rd 2 (pgr L2)]) (by simp) (by simp [AV.isClosed,B])) ?_;have hst:=@zdU ss k kb L2;have zS:=hst;repeat' (first|(refine aSk fun K hK=>?_)|(refine zp ?_)|(refine eC (fun h=>?_) (fun h=>?_)<;>(try simp at h))|(refine hK _ ?_;clear hK)|clear hK)
     all_goals clear zS
     have tk1:List.take ss.length (spr (ss.set k (kb,L2)))=spr (ss.set k (kb,L2)):=tkL (by simp);have tk2:List.take fr.length (prw F2)=prw F2:=tkL (by simp [hF2]);refine ⟨by simp,?_⟩;simp [lvI,f20,CwO,tk1,tk2,hF2];try exact dt
   ·rw [if_neg hz];have hfi:frI fr=-1:=by unfold frI;rw [if_neg hz]
    rw [hfi] at hix;rcases dE (f<0) with hf|hf
    ·have zS:=jj ha<|jj owE<|jj e1<|jj e2<|jj hkI<|jj hk<|jj hjl<|jj hjI<|jj hg<|jj hgE<|jj hf<|hix;refine zhd ?_;repeat (intro K hK)
     clear zS;refine ⟨by simp,?_⟩;simp [lvI,f20,CwO,cw0,spr,prw];try exact dt
    ·have h0f:0<=f:=by omega
     obtain ⟨g,rfl⟩:=Int.eq_ofNat_of_zero_le h0f;simp only [Int.toNat_natCast] at hc1;have hgl:g<fr.length:=by omega
     have hgI:(g:Int)<(fr.length:Int):=by omega
     have hgg:=zab hgl;have hggE:=zac hgl;have ha1:1<(gp fr g).1:=by omega
     have hfn:¬ (g:Int)<0:=by omega
     have zS:=jj ha<|jj owE<|jj e1<|jj e2<|jj hkI<|jj hk<|jj hjl<|jj hjI<|jj hg<|jj hgE<|jj hfn<|jj ha1<|jj hgl<|jj hgI<|jj hgg<|jj hggE<|hix;refine zhd ?_;repeat (intro K hK)
     clear zS;refine ⟨by simp,?_⟩;simp [lvI,f20,CwO,cw0,spr,prw];try exact dt
  ·rw [if_neg hc1];have h0f:0<=f:=by omega
   obtain ⟨g,rfl⟩:=Int.eq_ofNat_of_zero_le h0f;simp only [Int.toNat_natCast] at hc1 ⊢;have hgl:g<fr.length:=by omega
   have hgI:(g:Int)<(fr.length:Int):=by omega
   have hgg:=zab hgl;have hggE:=zac hgl;obtain ⟨⟨a,w1⟩,hgx⟩:∃ x,x=gp fr g:=⟨_,rfl⟩
   rw [<- hgx] at hc1 hgg hggE ⊢;simp only at hc1 hgg hggE ⊢;have ha1:¬ 1<a:=by omega
   have hfn:¬ (g:Int)<0:=by omega
   obtain ⟨L2,hL2d⟩:∃ L2,L2=l.set j ((g:Int),true):=⟨_,rfl⟩
   have hL2:L2.length=l.length:=by rw [hL2d];simp
   have p3:(pgr l).set j [I (g:Int),AV.v (.bool true)]=pgr L2:=by rw [hL2d];exact @zfL l j ((g:Int),true)
   have p4:(pgr L2)[j]?=some [I (g:Int),B true]:=by rw [hL2d];exact zno hjl
   have p4E:∀ h',(pgr L2)[j]'(h')=[I (g:Int),B true]:=by rw [hL2d];exact znp hjl
   obtain ⟨F2,hF2d⟩:∃ F2,F2=fr.set g (a,wd):=⟨_,rfl⟩
   have hF2:F2.length=fr.length:=by rw [hF2d];simp
   have q3:(prw fr).set g [I a,I wd]=prw F2:=by rw [hF2d];exact zqE
   rw [<- hL2d,<- hF2d];repeat' ((fail_if_success (with_reducible refine zb3 (id:=17) ?_));first
    | (apply aSk;intro K hK)
    | (refine zae hc (by exact zau) ?_;simp [List.zipIdx,ha,owE,e1,e2,hkI,hk,hjl,hjI,hg,hgE,hfn,ha1,hgl,hgI,hgg,hggE,p3,p4,p4E,q3,-zb,gMh,gMm,gMn];(repeat (simp (disch:=first|omega|assumption|fail) only [if_pos,if_neg,zm];try simp [List.zipIdx,ha,owE,e1,e2,hkI,hk,hjl,hjI,hg,hgE,hfn,ha1,hgl,hgI,hgg,hggE,p3,p4,p4E,q3,-zb,gMh,gMm,gMn]));try (repeat' (refine gQs (fun h=>?_) (fun h=>?_)<;>simp at h<;>(simp [List.zipIdx,ha,owE,e1,e2,hkI,hk,hjl,hjI,hg,hgE,hfn,ha1,hgl,hgI,hgg,hggE,p3,p4,p4E,q3,-zb,gMh,gMm,gMn];(repeat (simp (disch:=first|omega|assumption|fail) only [if_pos,if_neg,zm];try simp [List.zipIdx,ha,owE,e1,e2,hkI,hk,hjl,hjI,hg,hgE,hfn,ha1,hgl,hgI,hgg,hggE,p3,p4,p4E,q3,-zb,gMh,gMm,gMn]))))))
    | (refine za6 hc ?_;simp [List.zipIdx,ha,owE,e1,e2,hkI,hk,hjl,hjI,hg,hgE,hfn,ha1,hgl,hgI,hgg,hggE,p3,p4,p4E,q3,-zb,gMh,gMm,gMn];(repeat (simp (disch:=first|omega|assumption|fail) only [if_pos,if_neg,zm];try simp [List.zipIdx,ha,owE,e1,e2,hkI,hk,hjl,hjI,hg,hgE,hfn,ha1,hgl,hgI,hgg,hggE,p3,p4,p4E,q3,-zb,gMh,gMm,gMn]));refine ⟨by kernel_rfl,?_⟩)
    | (refine zae hc (by first|(intro _;rw [zat hw];kernel_rfl)|(intro _;rw [ordB_w0 hw0];kernel_rfl)|(intro _;kernel_rfl)) ?_;simp [List.zipIdx,ha,owE,e1,e2,hkI,hk,hjl,hjI,hg,hgE,hfn,ha1,hgl,hgI,hgg,hggE,p3,p4,p4E,q3,-zb,gMh,gMm,gMn];(repeat (simp (disch:=first|omega|assumption|fail) only [if_pos,if_neg,zm];try simp [List.zipIdx,ha,owE,e1,e2,hkI,hk,hjl,hjI,hg,hgE,hfn,ha1,hgl,hgI,hgg,hggE,p3,p4,p4E,q3,-zb,gMh,gMm,gMn]));try (repeat' (refine gQs (fun h=>?_) (fun h=>?_)<;>simp at h<;>(simp [List.zipIdx,ha,owE,e1,e2,hkI,hk,hjl,hjI,hg,hgE,hfn,ha1,hgl,hgI,hgg,hggE,p3,p4,p4E,q3,-zb,gMh,gMm,gMn];(repeat (simp (disch:=first|omega|assumption|fail) only [if_pos,if_neg,zm];try simp [List.zipIdx,ha,owE,e1,e2,hkI,hk,hjl,hjI,hg,hgE,hfn,ha1,hgl,hgI,hgg,hggE,p3,p4,p4E,q3,-zb,gMh,gMm,gMn]))))))
    | (refine eC (fun h=>?_) (fun h=>?_)<;>(try simp at h))
    | (refine aBl ?_)
    | (refine zaf ?_;simp only [ze,bkQ,if_true])
    | (refine zag ?_;simp [ze,bkQ])
    | (refine zar ?_;simp only [ze,bkQ])
    | (refine aRd ?_)
    | (refine hK _ ?_;clear hK)
    | (clear hK;refine hK _ ?_;clear hK)
    | (clear hK;clear hK;refine hK _ ?_;clear hK)
    | (clear hK;clear hK;clear hK;refine hK _ ?_;clear hK))
   refine zad (zem (c:=176) (i:=1) (b:=177) (v:=1) (v':=1) (sz:=2) (s':=2) (cs:=[B kb,.sl 177 1 2 0 l.length]) (xs:=pgr L2) (ys:=spr ss) (k:=k) (f:=false) (by simp) (by simp [hL2]) (by simp)) ?_;refine zad (zdl (b:=176) (v:=1) (sz:=2) (k:=k) (xs:=spr ss) (e:=[B kb,.rd 2 (pgr L2)]) (by simp) (by simp [AV.isClosed,B])) ?_;have hst:=@zdU ss k kb L2;have zS:=hst;repeat' (first|(refine aSk fun K hK=>?_)|(refine zp ?_)|(refine eC (fun h=>?_) (fun h=>?_)<;>(try simp at h))|(refine hK _ ?_;clear hK)|clear hK)
   all_goals clear zS
   have tk1:List.take ss.length (spr (ss.set k (kb,L2)))=spr (ss.set k (kb,L2)):=tkL (by simp);have tk2:List.take fr.length (prw F2)=prw F2:=tkL (by simp [hF2]);refine ⟨by simp,?_⟩;simp [lvI,f20,CwO,tk1,tk2,hF2];try exact dt
 ·rw [if_neg h0];obtain ⟨e,he⟩:∃ e,e=atC (sz,ss,fr,cp) s p:=⟨_,rfl⟩
  rw [<- he] at h0 ha ⊢;unfold CwV at ha ⊢;simp only at ha ⊢;have zS:=jj ha<|h0;refine zhd ?_;repeat (intro K hK)
  clear zS;refine ⟨by simp,?_⟩;simp [lvI,f20,CwO,cw0,spr,prw];try exact dt
noncomputable def fkR (c:Cw) (s:Int):Cw×Int×Int:=if liC c s=0 then (if c.2.1.length<8 then (fkC c s.toNat,(c.2.1.length:Int),0) else (cw0,0,9)) else (cw0,0,liC c s)
noncomputable def FFk (k:Nat):List AV->Option AV:=spF (ι:={x:Cw×Int // zk x.1∧(liC x.1 x.2=0->x.2=(k:Int))}) (fun x=>[CwV x.1.1,I x.1.2]) fun x=>rtO [CwO (fkR x.1.1 x.1.2).1,I (fkR x.1.1 x.1.2).2.1,I (fkR x.1.1 x.1.2).2.2]
def pgI (l:List CwP) (i:Nat):List CwP:=unw (l.take i)++l.drop i
theorem zfM {l:List CwP} {i:Nat}:(pgI l i).length=l.length:=by simp [pgI,unw];omega
theorem zxm {l:List CwP}:pgI l 0=l:=by simp [pgI,unw]
theorem zxl {l:List CwP}:pgI l l.length=unw l:=by simp [pgI]
theorem zul {l:List CwP} {i:Nat} (h:i<l.length):gpg (pgI l i) i=gpg l i:=by rw [zer (by rw [zfM];exact h),zer h];unfold pgI;rw [List.getElem_append_right (by simp [unw];omega)];simp [unw,Nat.min_eq_left (Nat.le_of_lt h)]
theorem zuk {l:List CwP} {i:Nat} (h:i<l.length):(pgI l i).set i ((gpg l i).1,false)=pgI l (i+1):=by
 unfold pgI;have e:(unw (l.take i)).length=i:=by simp [unw];omega
 rw [List.set_append_right _ _ (by omega),e,Nat.sub_self,List.drop_eq_getElem_cons h,List.set_cons_zero,zpR h];simp [unw]
theorem zuO {l:List CwP} {fr:List Dp} {i:Nat} (h:i<l.length):zg8 fr (l.take (i+1))=zpb (zg8 fr (l.take i)) (gpg l i).1:=by rw [zpR h,zln];rfl
set_option maxHeartbeats 16000000 in
theorem s21 (k:Nat) (X:AX) (L:OpX X k):PSd prog 21 (FFk k):=by
 have hX:=L.ok;have hw:=L.w;unfold FFk;refine psS hX mixed func21 rfl fun ⟨⟨⟨sz,ss,fr,cp⟩,s⟩,h,hsk⟩ w0 G=>⟨by show 2<=70;decide,rfl,?_⟩
 show AW ⟨prog,X,70,w0,.pure G⟩ _ _ _;have hc:=okc hX 70 w0 G;have ha:=L.li _ s h;simp only at h hsk ha ⊢;unfold fkR;rcases dE (liC (sz,ss,fr,cp) s=0) with h0|h0
 ·rw [if_pos h0];have hs:=hsk h0;obtain ⟨h4,h5,h6⟩:=zgC h0;subst hs;simp only at h5 h6;have hk:k<ss.length:=by omega
  have hsp:=h.sp;simp only at hsp;rw [h0] at ha;rcases dE (ss.length<8) with h8|h8
  ·simp only [if_pos h8];have h8I:¬ (8:Int)<=(ss.length:Int):=by omega
   have h8N:¬ 8<=ss.length:=by omega
   have hlv:=h.live _ (zaT hk);simp only [Int.toNat_natCast] at h6 hlv ⊢;have hll:=hlv.1 h6;have ow:=L.ow _ h hk;have owE:=fun M n=>(ow M n).trans (zjv h hk M n);have hsz:=h.sz;have hfr:=h.fr;have hcb:=zp8 h;have hpg:=fun (n:Nat) (hn:n<(gsp ss k).2.length)=>h.pg _ (zb8 hk hn);simp only at hsz hfr hcb owE hpg;unfold fkC;simp only;obtain ⟨⟨kb,l⟩,hx⟩:∃ x,x=gsp ss k:=⟨_,rfl⟩
   unfold CwV at ha owE ⊢;simp only at ha owE ⊢;have e2:(gsp ss k).2=l:=by rw [<- hx]
   have e1:(gsp ss k).1=kb:=by rw [<- hx]
   rw [e2] at hll hpg;rw [e1,e2];have hkI:(k:Int)<(ss.length:Int):=by omega
   obtain ⟨S2,hS2⟩:∃ S2,S2=ss.set k (kb,unw l)++[(true,unw l)]:=⟨_,rfl⟩
   rw [<- hS2];have zS:=jj ha<|jj owE<|jj e1<|jj e2<|jj hkI<|jj hk<|jj h8I<|h8N;repeat' (first|(refine aSk fun K hK=>?_)|(refine zp ?_)|(refine eC (fun h=>?_) (fun h=>?_)<;>(try simp at h))|(refine hK _ ?_;clear hK)|(clear hK;refine hK _ ?_;clear hK))
   all_goals clear zS
   refine aLK (s0:=?lps1) (m0:=?lpm1) (ι:={i:Nat // i<=l.length}) [2,4,8,32] (fun i=>[(33,I i.1)]) (fun i=>[(241,.vec 1 2 false (pgr (pgI l i.1))),(242,.vec 1 2 false (prw (zg8 fr (l.take i.1))))]) (fun i=>l.length - i.1) ⟨0,by omega⟩ ?lhs1 ?lhm1 ?_ ?_
   case lhs1=>first|(simp [kpS];done)|(simp [kpS];rfl)
   case lhm1=>first|rfl|(simp;done)|(simp;rfl)
   ·simp only [zxm,show zg8 fr (l.take 0)=fr from rfl];exact zaN (by simp) (by simp [zdT,AV.under,AV.underL,zbC]<;>omega) (by simp [zeE,AO.under,AV.underL,AV.under,zbC]<;>omega)
   ·rintro ⟨i,hi⟩;simp only;have hpl:=@zfM l i;have hfl:(zg8 fr (l.take i)).length=fr.length:=zdm;rcases dE (i<l.length) with hil|hil
    ·have hilI:(i:Int)<(l.length:Int):=by omega
     have hg:=ze3 (l:=pgI l i) (i:=i) (by omega);have hgE:=ze4 (l:=pgI l i) (i:=i) (by omega);have hg2:=ze3 (l:=pgI l (i+1)) (i:=i) (by rw [zfM];omega);have hg2E:=ze4 (l:=pgI l (i+1)) (i:=i) (by rw [zfM];omega);have e3:gpg (pgI l (i+1)) i=((gpg l i).1,false):=by rw [<- zuk hil,zf7 (by rw [zfM];exact hil),if_pos rfl]
     rw [zul hil] at hg hgE;rw [e3] at hg2 hg2E;have hps:(pgr (pgI l i)).set i [I (gpg l i).1,AV.v (.bool false)]=pgr (pgI l (i+1)):=by rw [<- zuk hil];exact @zfL (pgI l i) i ((gpg l i).1,false)
     have hpi:=hpg i hil;have his:=@zuO l fr i hil;have hgpc:=fun g=>@zkg g (l.take i) fr fun p hp=>by obtain ⟨q,hq,rfl⟩:=List.getElem_of_mem (List.mem_of_mem_take hp);have:=hpg q hq;rw [zer hq] at this;exact this.2.1
     have hcl:∀ g:Int,zbn (l.take i) g<=512:=fun g=>by
      unfold zbn;have h1:=List.length_filter_le (fun p:CwP=>decide (p.1=g)) (l.take i);have h2:(l.take i).length<=512:=by simp;omega
      omega
     obtain ⟨F,hF⟩:∃ F,F=zg8 fr (l.take i):=⟨_,rfl⟩
     rw [<- hF] at hfl his hgpc ⊢;obtain ⟨⟨f,b⟩,hy⟩:∃ x,x=gpg l i:=⟨_,rfl⟩
     rw [<- hy] at hg hgE hg2 hg2E hps hpi his;simp only at hg hgE hg2 hg2E hps hpi his;simp only [B] at hg2 hg2E;rcases dE (0<=f) with h0f|h0f
     ·obtain ⟨g,rfl⟩:=Int.eq_ofNat_of_zero_le h0f;have hgl:g<F.length:=by omega
      have hgI:(g:Int)<(fr.length:Int):=by omega
      have hgl2:g<fr.length:=by omega
      have hgg:=zab hgl;have hggE:=zac hgl;have hcg:=hcb g hgl2;have hgc:=hgpc g;have hc2:=hcl (g:Int);have hin:zpb F (g:Int)=F.set g ((gp F g).1+1,(gp F g).2):=by unfold zpb;rw [if_pos h0f];simp only [Int.toNat_natCast]
      rw [hin] at his;obtain ⟨⟨a,w1⟩,hgx⟩:∃ x,x=gp F g:=⟨_,rfl⟩
      rw [<- hgx] at hgg hggE his hgc;simp only [pJ] at hgg hggE his hgc;have hset:(prw F).set g [AV.v (.int .i64 (a+1)),I w1]=prw (zg8 fr (l.take (i+1))):=by rw [his];exact zqE
      have zS:=jj hilI<|jj hil<|jj hpl<|jj hfl<|jj hg<|jj hgE<|jj hg2<|jj hg2E<|jj hps<|jj hgl2<|jj hgI<|jj hgg<|jj hggE<|hset;repeat' (first|(refine aSk fun K hK=>?_)|(refine zp ?_)|(refine eC (fun h=>?_) (fun h=>?_)<;>(try simp at h))|(refine hK _ ?_;clear hK)|clear hK)
      all_goals clear zS
      refine ⟨i+1,?_,by omega,by omega⟩;exact dle
     ·have hin:zpb F f=F:=by unfold zpb;rw [if_neg h0f]
      rw [hin] at his;have zS:=jj hilI<|jj hil<|jj hpl<|jj hg<|jj hgE<|jj hg2<|jj hg2E<|jj hps<|h0f;repeat' (first|(refine aSk fun K hK=>?_)|(refine zp ?_)|(refine eC (fun h=>?_) (fun h=>?_)<;>(try simp at h))|(refine hK _ ?_;clear hK)|clear hK)
      all_goals clear zS
      refine ⟨i+1,?_,by omega,by omega⟩;rw [his];exact dle
    ·obtain rfl:i=l.length:=by omega
     rw [zxl,List.take_length];rw [List.take_length] at hfl;have cpf:=L.cp (unw l) (by simp [unw];omega);repeat' ((fail_if_success (with_reducible refine zb3 (id:=16) ?_));first
      | (apply aSk;intro K hK)
      | (refine zae hc (by exact zau) ?_;simp [List.zipIdx,-zb,gMh,gMm,gMn];(repeat (simp (disch:=first|omega|assumption|fail) only [if_pos,if_neg,zm];try simp [List.zipIdx,-zb,gMh,gMm,gMn]));try (repeat' (refine gQs (fun h=>?_) (fun h=>?_)<;>simp at h<;>(simp [List.zipIdx,-zb,gMh,gMm,gMn];(repeat (simp (disch:=first|omega|assumption|fail) only [if_pos,if_neg,zm];try simp [List.zipIdx,-zb,gMh,gMm,gMn]))))))
      | (refine za6 hc ?_;simp [List.zipIdx,-zb,gMh,gMm,gMn];(repeat (simp (disch:=first|omega|assumption|fail) only [if_pos,if_neg,zm];try simp [List.zipIdx,-zb,gMh,gMm,gMn]));refine ⟨by kernel_rfl,?_⟩)
      | (refine zae hc (by first|(intro _;rw [zat hw];kernel_rfl)|(intro _;rw [ordB_w0 hw0];kernel_rfl)|(intro _;kernel_rfl)) ?_;simp [List.zipIdx,-zb,gMh,gMm,gMn];(repeat (simp (disch:=first|omega|assumption|fail) only [if_pos,if_neg,zm];try simp [List.zipIdx,-zb,gMh,gMm,gMn]));try (repeat' (refine gQs (fun h=>?_) (fun h=>?_)<;>simp at h<;>(simp [List.zipIdx,-zb,gMh,gMm,gMn];(repeat (simp (disch:=first|omega|assumption|fail) only [if_pos,if_neg,zm];try simp [List.zipIdx,-zb,gMh,gMm,gMn]))))))
      | (refine eC (fun h=>?_) (fun h=>?_)<;>(try simp at h))
      | (refine aBl ?_)
      | (refine zaf ?_;simp only [ze,bkQ,if_true])
      | (refine zag ?_;simp [ze,bkQ])
      | (refine zar ?_;simp only [ze,bkQ])
      | (refine aRd ?_)
      | (refine hK _ ?_;clear hK)
      | (clear hK;refine hK _ ?_;clear hK)
      | (clear hK;clear hK;refine hK _ ?_;clear hK)
      | (clear hK;clear hK;clear hK;refine hK _ ?_;clear hK))
     have hul:(unw l).length=l.length:=zjP;refine zad (znR (t:=8) (c:=240) (i:=1) (b:=241) (v:=1) (v':=1) (sz:=2) (s':=2) (cs:=[B kb,.sl 241 1 2 0 l.length]) (xs:=pgr (unw l)) (ys:=spr ss) (k:=k) (f:=false) (by simp) (by simp [hul]) (by simp) (by simp [hul])) ?_;refine zad (zdl (b:=240) (v:=1) (sz:=2) (k:=k) (xs:=spr ss) (e:=[B kb,.rd 2 (pgr (unw l))]) (by simp) (by simp [AV.isClosed,B])) ?_;have hst:=@zdU ss k kb (unw l);obtain ⟨S1,hS1⟩:∃ S1,S1=ss.set k (kb,unw l):=⟨_,rfl⟩
     have hS1l:S1.length=ss.length:=by rw [hS1];simp
     have hS2l:S2.length=ss.length+1:=by rw [hS2];simp
     rw [<- hS1] at hst;have tk:List.take ss.length (spr S1)=spr S1:=tkL (by simp [hS1l]);have hap:spr S1++[[AV.v (.bool true),.rd 2 (pgr (unw l))]]=spr S2:=by rw [hS2,<- hS1];simp [spr,B]
     have tk1:List.take (ss.length+1) (spr S2)=spr S2:=tkL (by simp [hS2l]);have tk2:List.take fr.length (prw (zg8 fr l))=prw (zg8 fr l):=tkL (by simp [hfl]);have zS:=jj hst<|jj cpf<|jj tk<|hap;repeat' (first|(refine aSk fun K hK=>?_)|(refine zp ?_)|(refine eC (fun h=>?_) (fun h=>?_)<;>(try simp at h))|(refine hK _ ?_;clear hK)|clear hK)
     all_goals clear zS
     refine ⟨by simp,?_⟩;simp [lvI,f21,CwO,hS1l,tk1,tk2,hfl,hS2l];try exact dt
  ·simp only [if_neg h8];have h8I:(8:Int)<=(ss.length:Int):=by omega
   have h8N:8<=ss.length:=by omega
   unfold CwV at ha ⊢;simp only at ha ⊢;have zS:=jj ha<|jj h8I<|h8N;refine zhd ?_;repeat (intro K hK)
   clear zS;refine ⟨by simp,?_⟩;simp [lvI,f21,CwO,cw0,spr,prw];try exact dt
 ·rw [if_neg h0];obtain ⟨e,he⟩:∃ e,e=liC (sz,ss,fr,cp) s:=⟨_,rfl⟩
  rw [<- he] at h0 ha ⊢;unfold CwV at ha ⊢;simp only at ha ⊢;have zS:=jj ha<|h0;refine zhd ?_;repeat (intro K hK)
  clear zS;refine ⟨by simp,?_⟩;simp [lvI,f21,CwO,cw0,spr,prw];try exact dt
noncomputable section
def zqq:List AV->Option AV:=spF (ι:=Unit) (fun _=>[.v (.int .u64 1),.v (.int .u64 4)]) fun _=>rtO [.v (.int .u64 0),.v (.int .u64 4)]
theorem zBA (X:AX) (hX:XOK prog X) (hw:X.W wT):PSd prog 198 zqq:=by
 unfold zqq;refine psS hX mixed func198 rfl fun ⟨⟩ w0 G=>⟨by show 2<=51;decide,rfl,?_⟩
 show AW ⟨prog,X,51,w0,.pure G⟩ _ _ _;have hc:=okc hX 51 w0 G;have e0:zdI .and .u64 0 4294967295=0:=by kernel_rfl
 have e1:zdI .and .u64 1 4294967295=1:=by kernel_rfl
 have e4:zdI .and .u64 4 4294967295=4:=by kernel_rfl
 have b:IntKind.u64.bits=64:=rfl;have m:min 32 64=32:=rfl;repeat' (first|(apply aSk;intro K hK)|(refine zae hc (by exact zau) ?_;simp [List.zipIdx,e0,e1,e4,b,m,-zb,gMh,gMm,gMn];(repeat (simp (disch:=first|omega|assumption|fail) only [if_pos,if_neg,zbj];try simp [List.zipIdx,e0,e1,e4,b,m,-zb,gMh,gMm,gMn]));try (repeat' (refine gQs (fun h=>?_) (fun h=>?_)<;>simp at h<;>(simp [List.zipIdx,e0,e1,e4,b,m,-zb,gMh,gMm,gMn];(repeat (simp (disch:=first|omega|assumption|fail) only [if_pos,if_neg,zbj];try simp [List.zipIdx,e0,e1,e4,b,m,-zb,gMh,gMm,gMn]))))))|(refine za6 hc ?_;simp [List.zipIdx,e0,e1,e4,b,m,-zb,gMh,gMm,gMn];(repeat (simp (disch:=first|omega|assumption|fail) only [if_pos,if_neg,zbj];try simp [List.zipIdx,e0,e1,e4,b,m,-zb,gMh,gMm,gMn]));refine ⟨by kernel_rfl,?_⟩)|(refine zae hc (by first|(intro _;rw [zat hw];kernel_rfl)|(intro _;rw [ordB_w0 hw0];kernel_rfl)|(intro _;kernel_rfl)) ?_;simp [List.zipIdx,e0,e1,e4,b,m,-zb,gMh,gMm,gMn];(repeat (simp (disch:=first|omega|assumption|fail) only [if_pos,if_neg,zbj];try simp [List.zipIdx,e0,e1,e4,b,m,-zb,gMh,gMm,gMn]));try (repeat' (refine gQs (fun h=>?_) (fun h=>?_)<;>simp at h<;>(simp [List.zipIdx,e0,e1,e4,b,m,-zb,gMh,gMm,gMn];(repeat (simp (disch:=first|omega|assumption|fail) only [if_pos,if_neg,zbj];try simp [List.zipIdx,e0,e1,e4,b,m,-zb,gMh,gMm,gMn]))))))|(refine eC (fun h=>?_) (fun h=>?_)<;>(try simp at h))|(refine aBl ?_)|(refine zaf ?_;simp only [ze,bkQ,if_true])|(refine zag ?_;simp [ze,bkQ])|(refine zar ?_;simp only [ze,bkQ])|(refine aRd ?_)|(refine hK _ ?_;clear hK)|(clear hK;refine hK _ ?_;clear hK)|(clear hK;clear hK;refine hK _ ?_;clear hK)|(clear hK;clear hK;clear hK;refine hK _ ?_;clear hK))
 refine ⟨by simp,?_⟩;simp [lvI,f198];try exact dt
theorem zAJ {X:AX} {f:FuncId} (h:X.call f=caP zqq) (M:Nat->AO) (n:Nat):X.call f [.v (.int .u64 1),.v (.int .u64 4)] M n=some (.tup [.v (.int .u64 0),.v (.int .u64 4)],[]):=by rw [h];exact cPs (ι:=Unit) (A:=fun _=>[.v (.int .u64 1),.v (.int .u64 4)]) (R:=fun _=>rtO [.v (.int .u64 0),.v (.int .u64 4)]) () rfl (fun _ _=>rfl) (by simp [rtO,oRt,oVs,oVl])
theorem zBS (X:AX) (hX:XOK prog X) (hw:X.W wT) (h:X.call 198=caP zqq):PSd prog 157 zqq:=by
 unfold zqq;refine psS hX mixed func157 rfl fun ⟨⟩ w0 G=>⟨by show 2<=30;decide,rfl,?_⟩
 show AW ⟨prog,X,30,w0,.pure G⟩ _ _ _;have hc:=okc hX 30 w0 G;have hm:=zAJ h;have zS:=hm;repeat' (first|(refine aSk fun K hK=>?_)|(refine zp ?_)|(refine eC (fun h=>?_) (fun h=>?_)<;>(try simp at h))|(refine hK _ ?_;clear hK)|clear hK)
 all_goals clear zS
 refine ⟨by simp,?_⟩;simp [lvI,f157];try exact dt
def pg0:List CwP:=[(-1,false),(-1,false),(-1,false),(-1,false)]
def FRp:List AV->Option AV:=spF (ι:=Unit) (fun _=>[.rd 2 [[I (-1),B false]],I 4]) fun _=>rtO [.ow 2 (pgr pg0)]
theorem s73 (X:AX) (hX:XOK prog X) (hw:X.W wT) (h:X.call 157=caP zqq):PSd prog 73 FRp:=by
 unfold FRp;refine psS hX mixed func73 rfl fun ⟨⟩ w0 G=>⟨by show 2<=48;decide,rfl,?_⟩
 show AW ⟨prog,X,48,w0,.pure G⟩ _ _ _;have hc:=okc hX 48 w0 G;have hm:=zAJ h;have w1:IntKind.u64.wrap 1=1:=by kernel_rfl
 have w4:IntKind.u64.wrap 4=4:=by kernel_rfl
 have zS:=jj w1<|jj w4<|hm;repeat' (first|(refine aSk fun K hK=>?_)|(refine zp ?_)|(refine eC (fun h=>?_) (fun h=>?_)<;>(try simp at h))|(refine hK _ ?_;clear hK)|(clear hK;refine hK _ ?_;clear hK))
 all_goals clear zS
 refine zif 3 (aRd ?_);have zS:=hm;repeat' (first|(refine aSk fun K hK=>?_)|(refine zp ?_)|(refine eC (fun h=>?_) (fun h=>?_)<;>(try simp at h))|(refine hK _ ?_;clear hK)|clear hK)
 all_goals clear zS
 refine ⟨by simp,?_⟩;simp [lvI,f73,pg0,pgr];try exact dt
theorem cRp {b:Nat} (M:Nat->AO) (nid:Nat) (hM:M b=.vec 1 2 false [[I (-1),B false]]):caP FRp [.sl b 1 2 0 1,I 4] M nid=some (.sl nid 1 2 0 4,[(nid,.vec 1 2 false (pgr pg0))]):=by unfold FRp;rw [cPs (ι:=Unit) (A:=fun _=>[.rd 2 [[I (-1),B false]],I 4]) (R:=fun _=>rtO [.ow 2 (pgr pg0)]) () (by simp [zah,zbl,zbm,zaH,hM]) (fun _ _=>rfl) (by simp [rtO,oRt,oVs,oVl,oLs,oLf])];simp [rtO,oRt,oVs,oVl,oLs,oLf,pg0]
def zws:List Dp:=List.replicate 24 (0,0)
def cwN:Cw:=(4,[(true,pg0)],zws,0)
theorem zvm:zk cwN:=by
 have hp:pgs cwN.2.1=pg0:=by simp [cwN,pgs]
 have hm:∀ p∈pg0,p=(-1,false):=fun p hp=>by simp [pg0] at hp;exact hp
 have hl:cwN.2.2.1.length=24:=by simp [cwN,zws]
 have hg:∀ i:Nat,gp cwN.2.2.1 i=(0,0):=fun i=>by show (List.replicate 24 ((0:Int),(0:Int))).getD i (0,0)=_;rw [List.getD_eq_getElem?_getD,List.getElem?_replicate];split<;>rfl
 have hc:∀ i:Nat,zbn pg0 (i:Int)=0:=fun i=>by unfold zbn;rw [List.length_eq_zero_iff,List.filter_eq_nil_iff];intro p hp;rw [hm p hp];simp<;>omega
 refine ⟨by simp [cwN],by simp [cwN],by rw [hl];omega,by simp [cwN],fun s hs=>?_,fun p hp'=>?_,fun i hi=>?_,fun p hp' hw=>?_⟩
 ·simp [cwN] at hs;subst hs;exact ⟨fun _=>rfl,fun h=>by simp at h⟩
 ·rw [hp] at hp';rw [hm p hp',hl];exact ⟨by decide,by decide,fun _=>rfl⟩
 ·rw [hg,hp,hc];exact ⟨rfl,fun _=>rfl⟩
 ·rw [hp] at hp';rw [hm p hp'] at hw;simp at hw
def FNw:List AV->Option AV:=spF (ι:=Unit) (fun _=>[I 24,I 4]) fun _=>rtO [CwO cwN,I 0]
set_option maxHeartbeats 4000000 in
theorem s17 (X:AX) (hX:XOK prog X) (hw:X.W wT) (hr:X.call 73=caP FRp):PSd prog 17 FNw:=by
 unfold FNw;refine psS hX mixed func17 rfl fun ⟨⟩ w0 G=>⟨by show 2<=33;decide,rfl,?_⟩
 show AW ⟨prog,X,33,w0,.pure G⟩ _ _ _;have hc:=okc hX 33 w0 G;have hrp:=fun (b:Nat) (M:Nat->AO) nid hM=>(congrFun (congrFun (congrFun hr [.sl b 1 2 0 1,I 4]) M) nid).trans (@cRp b M nid hM);simp only [I,B] at hrp;repeat' ((fail_if_success (with_reducible refine zb3 (id:=4) ?_));first
  | (apply aSk;intro K hK)
  | (refine zae hc (by exact zau) ?_;simp [List.zipIdx,hrp,-zb,gMh,gMm,gMn];(repeat (simp (disch:=first|omega|assumption|fail) only [if_pos,if_neg,zm];try simp [List.zipIdx,hrp,-zb,gMh,gMm,gMn]));try (repeat' (refine gQs (fun h=>?_) (fun h=>?_)<;>simp at h<;>(simp [List.zipIdx,hrp,-zb,gMh,gMm,gMn];(repeat (simp (disch:=first|omega|assumption|fail) only [if_pos,if_neg,zm];try simp [List.zipIdx,hrp,-zb,gMh,gMm,gMn]))))))
  | (refine za6 hc ?_;simp [List.zipIdx,hrp,-zb,gMh,gMm,gMn];(repeat (simp (disch:=first|omega|assumption|fail) only [if_pos,if_neg,zm];try simp [List.zipIdx,hrp,-zb,gMh,gMm,gMn]));refine ⟨by kernel_rfl,?_⟩)
  | (refine zae hc (by first|(intro _;rw [zat hw];kernel_rfl)|(intro _;rw [ordB_w0 hw0];kernel_rfl)|(intro _;kernel_rfl)) ?_;simp [List.zipIdx,hrp,-zb,gMh,gMm,gMn];(repeat (simp (disch:=first|omega|assumption|fail) only [if_pos,if_neg,zm];try simp [List.zipIdx,hrp,-zb,gMh,gMm,gMn]));try (repeat' (refine gQs (fun h=>?_) (fun h=>?_)<;>simp at h<;>(simp [List.zipIdx,hrp,-zb,gMh,gMm,gMn];(repeat (simp (disch:=first|omega|assumption|fail) only [if_pos,if_neg,zm];try simp [List.zipIdx,hrp,-zb,gMh,gMm,gMn]))))))
  | (refine eC (fun h=>?_) (fun h=>?_)<;>(try simp at h))
  | (refine aBl ?_)
  | (refine zaf ?_;simp only [ze,bkQ,if_true])
  | (refine zag ?_;simp [ze,bkQ])
  | (refine zar ?_;simp only [ze,bkQ])
  | (refine aRd ?_)
  | (refine hK _ ?_;clear hK)
  | (clear hK;refine hK _ ?_;clear hK)
  | (clear hK;clear hK;refine hK _ ?_;clear hK)
  | (clear hK;clear hK;clear hK;refine hK _ ?_;clear hK))
 refine zad (znS (t:=6) (b:=304) (v:=1) (sz:=2) (f:=false) (xs:=pgr pg0) (by simp;rfl) (by simp)) ?_;repeat' (first|(refine aSk fun K hK=>?_)|(refine zd2 ?_)|(refine eC (fun h=>?_) (fun h=>?_)<;>(try simp at h))|(refine hK _ ?_;clear hK)|clear hK)
 refine ⟨by simp,?_⟩;simp [lvI,f17,CwO,cwN,zws,prw,spr];try exact dt
end
abbrev Mo:=Int×Int×Int×Int
def zr0 (o:Mo):List AV:=[I o.1,I o.2.1,I o.2.2.1,I o.2.2.2]
def zcK (l:List Mo):List (List AV):=l.map zr0
def gmo (l:List Mo) (i:Nat):Mo:=l.getD i (0,0,0,0)
@[simp] theorem ztC (l:List Mo):(zcK l).length=l.length:=by simp [zcK]
theorem zqS {l:List Mo} {n:Nat} (h:n<l.length):gmo l n=l[n]:=by unfold gmo;rw [List.getD_eq_getElem?_getD,List.getElem?_eq_getElem h];rfl
theorem znF {l:List Mo} {i:Nat} (h:i<l.length):(zcK l)[i]?=some [I (gmo l i).1,I (gmo l i).2.1,I (gmo l i).2.2.1,I (gmo l i).2.2.2]:=by rw [zqS h];simp [zcK,zr0,h]
theorem znG {l:List Mo} {i:Nat} (h:i<l.length):∀ h',(zcK l)[i]'(h')=[I (gmo l i).1,I (gmo l i).2.1,I (gmo l i).2.2.1,I (gmo l i).2.2.2]:=fun h'=>by rw [zqS h];simp [zcK,zr0]
@[simp] theorem zA6:za prog 43=some ⟨.struct [(0,3,1),(1,3,1),(2,3,1),(3,3,1)],4,32,[.int .i64 0,.int .i64 0,.int .i64 0,.int .i64 0]⟩:=by kernel_rfl
@[simp] theorem zzq:za prog 32=some ⟨.slice 43,1,24,[.slice none 0 0]⟩:=by kernel_rfl
def zrf:List AV->Bool
 | [.v (.int .i64 n)]=>decide (n=8∨n=2)
 | _=>false
structure ztH (X:AX):Prop where
 fo:FoX X
 nw:∀ M n,X.call 17 [I 24,I 4] M n=some (.tup [CwV cwN,I 0],[])
 be:X.call 18=fun avs M nid=>if zrf avs=true then caG beS avs M nid else none
 sh:∀ M n,X.call 19 [] M n=some (B true,[])
 wr:∀ (c:Cw) (s p w:Int),zk c->∀ M n,X.call 20 [CwV c,I s,I p,I w] M n=some (.tup [CwV (wrR c s p w).1,I (wrR c s p w).2],[])
 fk:∀ (c:Cw) (s:Int),zk c->∀ M n,X.call 21 [CwV c,I s] M n=some (.tup [CwV (fkR c s).1,I (fkR c s).2.1,I (fkR c s).2.2],[])
 un:∀ (c:Cw) (s p:Int),zk c->∀ M n,X.call 22 [CwV c,I s,I p] M n=some (.tup [CwV (unR c s p).1,I (unR c s p).2],[])
 ex:∀ (c:Cw) (s:Int),zk c->∀ M n,X.call 23 [CwV c,I s] M n=some (.tup [CwV (exR c s).1,I (exR c s).2],[])
 fl:X.call 24=caG foS
 inv:X.call 25=caP zta
 of:X.call 26=caP OfF
def CwG (c d:Cw):Prop:=zk d∧d.1=4∧d.2.2.1.length=24∧c.2.1.length<=d.2.1.length
theorem ztM {c:Cw} (h:zk c) (h4:c.1=4) (h24:c.2.2.1.length=24) {s p w:Int} (h0:(wrR c s p w).2=0):CwG c (wrR c s p w).1:=by
 unfold wrR at h0 ⊢;split at h0
 ·rename_i ha;rw [if_pos ha];obtain ⟨a1,a2,a3⟩:=zoN ha;obtain ⟨b1,b2,b3⟩:=zgC a1;have hs:s.toNat<c.2.1.length:=by omega
  have hl:=(h.live _ (zaT hs)).1 b3;have hp:p.toNat<(gsp c.2.1 s.toNat).2.length:=by omega
  refine ⟨h.write hs hp h0,?_,?_,?_⟩
  ·unfold wrC at h0 ⊢;simp only at h0 ⊢;split
   ·rename_i hh;rw [if_pos hh] at h0;split
    ·exact h4
    ·rename_i hh2;rw [if_neg hh2] at h0;simp at h0
   ·exact h4
  ·unfold wrC at h0 ⊢;simp only at h0 ⊢;split
   ·rename_i hh;rw [if_pos hh] at h0;split
    ·simp only [List.length_set];split<;>simpa using h24
    ·rename_i hh2;rw [if_neg hh2] at h0;simp at h0
   ·simpa using h24
  ·unfold wrC at h0 ⊢;simp only at h0 ⊢;split
   ·rename_i hh;rw [if_pos hh] at h0;split
    ·simp
    ·rename_i hh2;rw [if_neg hh2] at h0;simp at h0
   ·simp
 ·rename_i ha;exact absurd h0 ha
theorem ztT {c:Cw} (h:zk c) (h4:c.1=4) (h24:c.2.2.1.length=24) {s p:Int} (h0:(unR c s p).2=0):CwG c (unR c s p).1:=by
 unfold unR at h0 ⊢;split at h0
 ·rename_i ha;rw [if_pos ha];obtain ⟨a1,a2,a3⟩:=zoN ha;obtain ⟨b1,b2,b3⟩:=zgC a1;have hs:s.toNat<c.2.1.length:=by omega
  have hl:=(h.live _ (zaT hs)).1 b3;exact ⟨h.un hs (by omega),h4,by simp [unC,zeI,h24],by simp [unC]⟩
 ·rename_i ha;exact absurd h0 ha
theorem zu9 {c:Cw} (h:zk c) (h4:c.1=4) (h24:c.2.2.1.length=24) {s:Int} (h0:(exR c s).2=0):CwG c (exR c s).1:=by
 unfold exR at h0 ⊢;split at h0
 ·rename_i ha;rw [if_pos ha];obtain ⟨b1,b2,b3⟩:=zgC ha;have hs:s.toNat<c.2.1.length:=by omega
  have E:=h.exI hs (Nat.le_refl (gsp c.2.1 s.toNat).2.length);refine ⟨h.exit hs,?_,?_,?_⟩
  ·simp only [zlB];exact h4
  ·simp only [zlB];rw [E.fl];exact h24
  ·simp [zlB]
 ·rename_i ha;exact absurd h0 ha
theorem zu7 {c:Cw} (h:zk c) (h4:c.1=4) (h24:c.2.2.1.length=24) {s:Int} (h0:(fkR c s).2.2=0):CwG c (fkR c s).1:=by
 unfold fkR at h0 ⊢;split at h0
 ·rename_i ha;rw [if_pos ha];obtain ⟨b1,b2,b3⟩:=zgC ha;have hs:s.toNat<c.2.1.length:=by omega
  split at h0
  ·rename_i h8;rw [if_pos h8];exact ⟨h.fork hs h8 b3,h4,by simp [fkC,zdm,h24],by simp [fkC]⟩
  ·simp at h0
 ·rename_i ha;exact absurd h0 ha
theorem zxJ:cwN.1=4∧cwN.2.2.1.length=24∧wnt cwN=fun _ _=>-1:=by
 refine ⟨rfl,by simp [cwN,zws],?_⟩;funext s q;unfold wnt;split
 ·rename_i hh;have e:gsp cwN.2.1 s=(true,pg0)∨gsp cwN.2.1 s=(false,[]):=by
   match s with
   | 0=>exact .inl rfl
   | s+1=>exact .inr rfl
  rcases e with e|e
  ·rw [e] at hh ⊢;have hm:∀ p∈pg0,p=(-1,false):=fun p hp=>by simp [pg0] at hp;exact hp
   simp only;rw [hm _ (zhT hh.2)]
  ·rw [e] at hh;simp at hh
 ·rfl
theorem zAM (M:Nat->AO) (nid:Nat):caG beS [I 8] M nid=some (.tup [.bp nid 0,B true],[(nid,.box [.sl (nid+1) 1 3 0 8,.sl (nid+2) 1 1 0 32,I 108]),(nid+1,.vec 1 3 false (zc (zd9 8))),(nid+2,.vec 1 1 false (zg (zh (zd9 8) 32)))]):=by
 have hF:beS [I 8] []=some (.tup [.bp 0 0,B true],btM (zd9 8,bM0,((100+8:Nat):Int))) :=sGe (ι:={n:Nat // n<=8}) (A:=fun x=>[I x.1]) (M:=fun _=>[]) (R:=fun _=>rtO [.bp 0 0,B true]) (O:=fun x=>btM (zd9 x.1,bM0,((100+x.1:Nat):Int))) ⟨8,by decide⟩ fun j hA _=>by
   obtain ⟨n,hn⟩:=j;simp only [cJ,I,AV.v.injEq,Value.int.injEq,true_and,and_true] at hA;obtain rfl:n=8:=by omega
   exact ⟨rfl,rfl⟩
 have hm0:bM0.length=32:=by simp [bM0]
 rw [zqM (by decide)];simp only [btM,zh7,hm0] at hF;have hF:beS [AV.v (.int .i64 8)] []=_:=hF;unfold caG;simp [gat,nmsL,AV.nms,zbp,Led,curBL,AV.curB,renL,AV.ren,hF,zeZ,zcc,AO.nms,zdC,nmN,shN,rng,AO.ren,zdP,I,B]
theorem zvF {X:AX} (L:ztH X) (M:Nat->AO) (nid:Nat):X.call 18 [I 8] M nid=some (.tup [.bp nid 0,B true],[(nid,.box [.sl (nid+1) 1 3 0 8,.sl (nid+2) 1 1 0 32,I 108]),(nid+1,.vec 1 3 false (zc (zd9 8))),(nid+2,.vec 1 1 false (zg (zh (zd9 8) 32)))]):=by rw [L.be];show (if zrf [I 8]=true then caG beS [I 8] M nid else none)=_;rw [if_pos (show zrf [I 8]=true from rfl),zAM]
theorem zu6 {x:List Tb×Nat} {c:Cw} (h:(∃ F,TbI 8 x.1 F x.2)∧zk c∧c.2.2.1.length<=32∧x.2<=2000000000):foS [.bp 0 0,CwV c] (btM (btS x))=some (B true,btM (btS (foA c x c.2.1.length))) :=sGe (ι:=FoI) (A:=fun x=>[.bp 0 0,CwV x.1.2]) (M:=fun x=>btM (btS x.1.1)) (R:=fun _=>rtO [B true]) (O:=fun x=>btM (btS (foA x.1.2 x.1.1 x.1.2.2.1.length))) ⟨(x,c),h⟩ fun j hA hM=>by obtain ⟨⟨⟨T,n⟩,c'⟩,h'⟩:=j;obtain ⟨T2,n2⟩:=x;have:=zkw hM;simp only [btS,pJ,Int.ofNat_inj] at this;obtain ⟨rfl,_,rfl⟩:=this;simp only [cJ,zaJ,true_and,and_true] at hA;subst hA;exact ⟨rfl,rfl⟩
theorem zlL {X:AX} (L:ztH X) {T:List Tb} {nx:Nat} {F:Nat->Nat->Int} {c:Cw} (hT:TbI 8 T F nx) (h:zk c) (hf:c.2.2.1.length<=32) (hn:nx<=2000000000) {T':List Tb} {nx':Nat} (e:foA c (T,nx) c.2.1.length=(T',nx')) (hT':T'.length=8)
  {a t m:Nat} (hat:a≠t) (ham:a≠m) (htm:t≠m) (M:Nat->AO) (nid:Nat)
  (ha:M a=.box [.sl t 1 3 0 8,.sl m 1 1 0 32,I nx]) (hMT:M t=.vec 1 3 false (zc T)) (hm:M m=.vec 1 1 false (zg (zh T 32))) :
  X.call 24 [.bp a 0,CwV c] M nid=some (B true,[(a,.box [.sl t 1 3 0 8,.sl m 1 1 0 32,I nx']),(t,.vec 1 3 false (zc T')),(m,.vec 1 1 false (zg (zh T' 32)))]):=by have hF:=zu6 (x:=(T,nx)) (c:=c) ⟨⟨F,hT⟩,h,hf,hn⟩;rw [e] at hF;simp only [btM,btS,zal,hT.len,hT'] at hF;have hta:¬ t=a:=fun e=>hat e.symm;have hma:¬ m=a:=fun e=>ham e.symm;have hmt:¬ m=t:=fun e=>htm e.symm;rw [L.fl];unfold CwV at hF ⊢;unfold caG;simp [gat,nmsL,AV.nms,zbp,Led,curBL,AV.curB,renL,AV.ren,hF,zeZ,zcc,AO.nms,zdC,nmN,shN,rng,AO.ren,zdP,ha,hMT,hm,hat,ham,htm,hta,hma,hmt,zbL,nDd,AO.curB,zaj,I,B]
theorem zfu {X:AX} (L:ztH X) {T:List Tb} {nx:Nat} {F:Nat->Nat->Int} (hT:TbI 8 T F nx) {t m:Nat} (M:Nat->AO) (nid:Nat) (hMT:M t=.vec 1 3 false (zc T)) (hm:M m=.vec 1 1 false (zg (zh T 32))) :
  X.call 25 [.sl t 1 3 0 8,.sl m 1 1 0 32] M nid=some (B true,[]):=by
 have hl1:(zc T).length=8:=by simp [zc,hT.len]
 have tk1:List.take 8 (zc T)=zc T:=tkL (by omega);have hl2:(zg (zh T 32)).length=32:=by simp [zal]
 have tk2:List.take 32 (zg (zh T 32))=zg (zh T 32):=tkL (by omega);have hi:=hT.inv;rw [L.inv];have hok:(∀ t∈T,zf t)∧T.length<=1000000∧zgL (zh T 32)∧0<(zh T 32).length:=⟨fun t ht=>(hT.ok t ht).1,by rw [hT.len];omega,⟨by rw [zal];omega,fun q hq=>by obtain ⟨j,hj,rfl⟩:=List.getElem_of_mem hq;have:=@zbX T (j:Int);simp [zh];omega⟩,by rw [zal];omega⟩
 have key:=cPs (ι:=zyY) (A:=fun x=>[.rd 3 (zc x.1.1),.rd 1 (zg x.1.2)]) (R:=fun x=>rtO [B (zsd x.1.1 x.1.2)]) (avs:=[.sl t 1 3 0 8,.sl m 1 1 0 32]) (M:=M) (n:=nid) ⟨(T,zh T 32),hok⟩ (by simp [zah,zbl,zbm,zaH,hMT,hm,tk1,tk2,hl1,hl2]) (by rintro ⟨⟨t',m'⟩,h'⟩ e;simp only [cJ,AV.rd.injEq,zbk,zck,true_and,and_true] at e;obtain ⟨rfl,rfl⟩:=e;rfl) (by simp [rtO,oRt,oVs,oVl,oLs,oLf]);unfold zta;rw [key];simp only [hi];simp [rtO,oRt,oVs,oVl,oLs,oLf]
theorem zh5 {X:AX} (L:ztH X) {T:List Tb} {nx:Nat} {F:Nat->Nat->Int} (hT:TbI 8 T F nx) {t:Nat} (f:Int) (M:Nat->AO) (nid:Nat) (hMT:M t=.vec 1 3 false (zc T)) :
  X.call 26 [.sl t 1 3 0 8,I f] M nid=some (.sl nid 1 2 0 (ofT T f).length,[(nid,.vec 1 2 false (prw (ofT T f)))]):=by
 have hl1:(zc T).length=8:=by simp [zc,hT.len]
 have tk1:List.take 8 (zc T)=zc T:=tkL (by omega);rw [L.of];unfold OfF;have key:=cPs (ι:=TsI) (A:=fun x=>[.rd 3 (zc x.1.1),I x.1.2]) (R:=fun x=>rtO [.ow 2 (prw (ofT x.1.1 x.1.2))]) (avs:=[.sl t 1 3 0 8,I f]) (M:=M) (n:=nid) ⟨(T,f),fun t ht=>(hT.ok t ht).1,by rw [hT.len];omega⟩ (by simp [zah,zbl,zbm,zaH,hMT,tk1,hl1]) (by rintro ⟨⟨t',f'⟩,h'⟩ e;simp only [cJ,AV.rd.injEq,zbk,I,AV.v.injEq,Value.int.injEq,true_and,and_true] at e;obtain ⟨rfl,rfl⟩:=e;rfl) (by simp [rtO,oRt,oVl,oLf]);rw [key];simp [rtO,oRt,oVl,oLf]
abbrev ShS:=Nat×Cw×List Tb×Nat
set_option maxHeartbeats 64000000 in
theorem s4 (X:AX) (L:ztH X):PSd prog 4 (spF (ι:=List Mo) (fun x=>[.rd 4 (zcK x)]) fun _=>rtO [B true]):=by
 have hX:=L.fo.ok;have hw:=L.fo.w;refine psS hX mixed func4 rfl fun l w0 G=>⟨by show 1<=142;decide,rfl,?_⟩
 show AW ⟨prog,X,142,w0,.pure G⟩ _ _ _;have hc:=okc hX 142 w0 G;have nw:=L.nw;have sh:=L.sh;have be:=fun M nid=>zvF L M nid;obtain ⟨g4,g24,gw⟩:=zxJ;have gok:=zvm;obtain ⟨c0,hN⟩:∃ c,c=cwN:=⟨_,rfl⟩
 rw [<- hN] at nw g4 g24 gw gok;clear hN;obtain ⟨sz0,ss0,fr0,cp0⟩:=c0;unfold CwV at nw;simp only at nw;rcases dE (40<l.length) with h40|h40
 ·have h40I:(40:Int)<(l.length:Int):=by omega
  have zS:=jj nw<|jj be<|jj sh<|jj h40<|h40I;refine zhd ?_;repeat (intro K hK)
  clear zS;all_goals refine ⟨by simp,?_⟩
  all_goals simp [lvI,f4]
  all_goals try exact dt
 ·have h40I:¬ (40:Int)<(l.length:Int):=by omega
  have hT0:TbI 8 (zd9 8) (wnt (sz0,ss0,fr0,cp0)) 108:=by rw [gw];exact zrv (by decide)
  have zS:=jj nw<|jj be<|jj sh<|jj h40<|h40I;repeat' (first|(refine aSk fun K hK=>?_)|(refine zp ?_)|(refine eC (fun h=>?_) (fun h=>?_)<;>(try simp at h))|(refine hK _ ?_;clear hK)|(clear hK;refine hK _ ?_;clear hK))
  all_goals clear zS
  refine aLK (s0:=?lps1) (m0:=?lpm1) (ι:={x:ShS // x.1<=l.length∧zk x.2.1∧x.2.1.1=4∧x.2.1.2.2.1.length=24∧TbI 8 x.2.2.1 (wnt x.2.1) x.2.2.2∧x.2.2.2<=108+64*x.1}) [3,5,38,39] (fun x=>[(40,I x.1.1)]) (fun x=>[(80,.box [I x.1.2.1.1,.rd 2 (spr x.1.2.1.2.1),.rd 2 (prw x.1.2.1.2.2.1),I x.1.2.1.2.2.2]),(129,.vec 1 3 false (zc x.1.2.2.1)),(130,.vec 1 1 false (zg (zh x.1.2.2.1 32))),(128,.box [.sl 129 1 3 0 8,.sl 130 1 1 0 32,I x.1.2.2.2])]) (fun x=>l.length - x.1.1) ⟨(0,(sz0,ss0,fr0,cp0),zd9 8,108),by simp only;omega,gok,g4,g24,hT0,by simp only;omega⟩ ?lhs1 ?lhm1 ?_ ?_
  case lhs1=>first|(simp [kpS];done)|(simp [kpS];rfl)
  case lhm1=>first|rfl|(simp;done)|(simp;rfl)
  ·exact dle
  ·rintro ⟨⟨i,c,T,nx⟩,hi,hcw,h4,h24,hT,hnx⟩;simp only at hi hcw h4 h24 hT hnx ⊢;rcases dE (i<l.length) with hil|hil
   ·have hilI:(i:Int)<(l.length:Int):=by omega
    have hg:=znF hil;have hgE:=znG hil;obtain ⟨⟨k,s,p,w⟩,ho⟩:∃ o,o=gmo l i:=⟨_,rfl⟩
    rw [<- ho] at hg hgE;simp only at hg hgE;clear ho;obtain ⟨cz,cs,cf0,cc,hce⟩:∃ a b d e,c=(a,b,d,e):=⟨_,_,_,_,rfl⟩
    have hcz:c.1=cz∧c.2.1=cs∧c.2.2.1=cf0∧c.2.2.2=cc:=by rw [hce];exact ⟨rfl,rfl,rfl,rfl⟩
    obtain ⟨z1,z2,z3,z4⟩:=hcz;have hcw2:zk (cz,cs,cf0,cc):=hce ▸ hcw;have hT2:TbI 8 T (wnt (cz,cs,cf0,cc)) nx:=hce ▸ hT;have h42:cz=4:=z1 ▸ h4;have h242:cf0.length=24:=z3 ▸ h24;rw [z1,z2,z3,z4];rcases dE (k=0) with hk0|hk0
    ·subst hk0;have hop:=L.wr c s p w hcw;have hGG:=fun h0=>@ztM c hcw h4 h24 s p w h0;obtain ⟨D,hD⟩:∃ D,D=(wrR c s p w).1:=⟨_,rfl⟩
     obtain ⟨e,he⟩:∃ e,e=(wrR c s p w).2:=⟨_,rfl⟩
     rw [<- hD,<- he] at hop;rw [<- hD,<- he] at hGG;rw [hce] at hop;unfold CwV at hop;simp only at hop;rcases dE (e=0) with h0|h0
     ·have hG:=hGG h0;subst h0;clear hGG hD he;obtain ⟨d1,d2,d3,d4⟩:=hG;have hfo:=hT.follow d1 (by omega) d4 (by omega);have hsp:=d1.sp;obtain ⟨⟨T',nx'⟩,hx⟩:∃ x,x=foA D (T,nx) D.2.1.length:=⟨_,rfl⟩
      rw [<- hx] at hfo;obtain ⟨hT',hn'⟩:=hfo;simp only at hT' hn';have cf:=fun M nid=>zlL L hT d1 (by omega) (by omega) hx.symm hT'.len (a:=128) (t:=129) (m:=130) (by decide) (by decide) (by decide) M nid;have ci:=fun M nid=>zfu L hT' (t:=129) (m:=130) M nid;have co:=fun (f:Nat) M nid=>zh5 L hT' (t:=129) (f:Int) M nid;have hcn:=fun (f:Nat) hf=>hT'.count d1 d2 (f:=f) hf;clear hx;obtain ⟨dz,ds,df,dc⟩:=D;unfold CwV at cf;simp only at d2 d3 d4 hsp cf hcn hop;have h8:¬ (8:Int)<(ds.length:Int):=by omega
      have h8N:¬ 8<ds.length:=by omega
      have hdf:(df.length:Int)=24:=by omega
      have zS:=jj hilI<|jj hil<|jj hg<|jj hgE<|jj hop<|jj cf<|jj ci<|jj h8<|jj h8N<|jj d3<|hdf;repeat' (first|(refine aSk fun K hK=>?_)|(refine zp ?_)|(refine eC (fun h=>?_) (fun h=>?_)<;>(try simp at h))|(refine hK _ ?_;clear hK)|(clear hK;refine hK _ ?_;clear hK))
      all_goals clear zS
      refine aLK (s0:=?lps2) (m0:=?lpm2) (ι:={j:Nat // j<=24}) [3,5,38,39,40,122,123] (fun j=>[(124,I j.1)]) (fun j=>[]) (fun j=>24 - j.1) ⟨0,by omega⟩ ?lhs2 ?lhm2 ?_ ?_
      case lhs2=>first|(simp [kpS];done)|(simp [kpS];rfl)
      case lhm2=>first|rfl|(simp;done)|(simp;rfl)
      ·exact dle
      ·rintro ⟨j,hj⟩;simp only;rcases dE (j<24) with hjl|hjl
       ·have hjI:(j:Int)<24:=by omega
        have hjd:j<df.length:=by omega
        have hg1:=zab hjd;have hgE1:=zac hjd;have hcj:=hcn j hjd;have coj:=co j;have hol:=@zbX T' (j:Int);obtain ⟨O,hO⟩:∃ O,O=ofT T' (j:Int):=⟨_,rfl⟩
        rw [<- hO] at hcj coj hol;obtain ⟨⟨a,b⟩,hab⟩:∃ x,x=gp df j:=⟨_,rfl⟩
        rw [<- hab] at hg1 hgE1 hcj;simp only at hg1 hgE1 hcj;rw [<- hcj] at hg1 hgE1;have zS:=jj hjI<|jj hjd<|jj hg1<|jj hgE1<|coj;repeat' (first|(refine aSk fun K hK=>?_)|(refine zp ?_)|(refine eC (fun h=>?_) (fun h=>?_)<;>(try simp at h))|(refine hK _ ?_;clear hK)|clear hK)
        all_goals clear zS
        refine ⟨j+1,?_,by omega,by omega⟩;exact dle
       ·obtain rfl:j=24:=by omega
        repeat' (first|(refine aSk fun K hK=>?_)|(refine zd2 ?_)|(refine eC (fun h=>?_) (fun h=>?_)<;>(try simp at h))|(refine hK _ ?_;clear hK)|clear hK)
        refine ⟨i+1,dz,ds,df,dc,T',nx',?_,⟨by omega,d1,d2,d3,hT',by omega⟩,by omega⟩;exact dle
     ·clear hGG hD he;have zS:=jj hilI<|jj hil<|jj hg<|jj hgE<|jj hop<|h0;repeat' (first|(refine aSk fun K hK=>?_)|(refine zp ?_)|(refine eC (fun h=>?_) (fun h=>?_)<;>(try simp at h))|(refine hK _ ?_;clear hK)|clear hK)
      all_goals clear zS
      refine ⟨i+1,cz,cs,cf0,cc,T,nx,?_,⟨by omega,hcw2,h42,h242,hT2,by omega⟩,by omega⟩;exact dle
    ·rcases dE (k=1) with hk1|hk1
     ·subst hk1;have hop:=L.fk c s hcw;have hGG:=fun h0=>@zu7 c hcw h4 h24 s h0;obtain ⟨D,hD⟩:∃ D,D=(fkR c s).1:=⟨_,rfl⟩
      obtain ⟨e,he⟩:∃ e,e=(fkR c s).2.2:=⟨_,rfl⟩
      rw [<- hD,<- he] at hop;rw [<- hD,<- he] at hGG;rw [hce] at hop;unfold CwV at hop;simp only at hop;rcases dE (e=0) with h0|h0
      ·have hG:=hGG h0;subst h0;clear hGG hD he;obtain ⟨d1,d2,d3,d4⟩:=hG;have hfo:=hT.follow d1 (by omega) d4 (by omega);have hsp:=d1.sp;obtain ⟨⟨T',nx'⟩,hx⟩:∃ x,x=foA D (T,nx) D.2.1.length:=⟨_,rfl⟩
       rw [<- hx] at hfo;obtain ⟨hT',hn'⟩:=hfo;simp only at hT' hn';have cf:=fun M nid=>zlL L hT d1 (by omega) (by omega) hx.symm hT'.len (a:=128) (t:=129) (m:=130) (by decide) (by decide) (by decide) M nid;have ci:=fun M nid=>zfu L hT' (t:=129) (m:=130) M nid;have co:=fun (f:Nat) M nid=>zh5 L hT' (t:=129) (f:Int) M nid;have hcn:=fun (f:Nat) hf=>hT'.count d1 d2 (f:=f) hf;clear hx;obtain ⟨dz,ds,df,dc⟩:=D;unfold CwV at cf;simp only at d2 d3 d4 hsp cf hcn hop;have h8:¬ (8:Int)<(ds.length:Int):=by omega
       have h8N:¬ 8<ds.length:=by omega
       have hdf:(df.length:Int)=24:=by omega
       have zS:=jj hilI<|jj hil<|jj hg<|jj hgE<|jj hop<|jj cf<|jj ci<|jj h8<|jj h8N<|jj d3<|hdf;repeat' (first|(refine aSk fun K hK=>?_)|(refine zp ?_)|(refine eC (fun h=>?_) (fun h=>?_)<;>(try simp at h))|(refine hK _ ?_;clear hK)|(clear hK;refine hK _ ?_;clear hK))
       all_goals clear zS
       refine aLK (s0:=?lps3) (m0:=?lpm3) (ι:={j:Nat // j<=24}) [3,5,38,39,40,122,123] (fun j=>[(124,I j.1)]) (fun j=>[]) (fun j=>24 - j.1) ⟨0,by omega⟩ ?lhs3 ?lhm3 ?_ ?_
       case lhs3=>first|(simp [kpS];done)|(simp [kpS];rfl)
       case lhm3=>first|rfl|(simp;done)|(simp;rfl)
       ·exact dle
       ·rintro ⟨j,hj⟩;simp only;rcases dE (j<24) with hjl|hjl
        ·have hjI:(j:Int)<24:=by omega
         have hjd:j<df.length:=by omega
         have hg1:=zab hjd;have hgE1:=zac hjd;have hcj:=hcn j hjd;have coj:=co j;have hol:=@zbX T' (j:Int);obtain ⟨O,hO⟩:∃ O,O=ofT T' (j:Int):=⟨_,rfl⟩
         rw [<- hO] at hcj coj hol;obtain ⟨⟨a,b⟩,hab⟩:∃ x,x=gp df j:=⟨_,rfl⟩
         rw [<- hab] at hg1 hgE1 hcj;simp only at hg1 hgE1 hcj;rw [<- hcj] at hg1 hgE1;have zS:=jj hjI<|jj hjd<|jj hg1<|jj hgE1<|coj;repeat' (first|(refine aSk fun K hK=>?_)|(refine zp ?_)|(refine eC (fun h=>?_) (fun h=>?_)<;>(try simp at h))|(refine hK _ ?_;clear hK)|clear hK)
         all_goals clear zS
         refine ⟨j+1,?_,by omega,by omega⟩;exact dle
        ·obtain rfl:j=24:=by omega
         repeat' (first|(refine aSk fun K hK=>?_)|(refine zd2 ?_)|(refine eC (fun h=>?_) (fun h=>?_)<;>(try simp at h))|(refine hK _ ?_;clear hK)|clear hK)
         refine ⟨i+1,dz,ds,df,dc,T',nx',?_,⟨by omega,d1,d2,d3,hT',by omega⟩,by omega⟩;exact dle
      ·clear hGG hD he;have zS:=jj hilI<|jj hil<|jj hg<|jj hgE<|jj hop<|h0;repeat' (first|(refine aSk fun K hK=>?_)|(refine zp ?_)|(refine eC (fun h=>?_) (fun h=>?_)<;>(try simp at h))|(refine hK _ ?_;clear hK)|clear hK)
       all_goals clear zS
       refine ⟨i+1,cz,cs,cf0,cc,T,nx,?_,⟨by omega,hcw2,h42,h242,hT2,by omega⟩,by omega⟩;exact dle
     ·rcases dE (k=2) with hk2|hk2
      ·subst hk2;have hop:=L.un c s p hcw;have hGG:=fun h0=>@ztT c hcw h4 h24 s p h0;obtain ⟨D,hD⟩:∃ D,D=(unR c s p).1:=⟨_,rfl⟩
       obtain ⟨e,he⟩:∃ e,e=(unR c s p).2:=⟨_,rfl⟩
       rw [<- hD,<- he] at hop;rw [<- hD,<- he] at hGG;rw [hce] at hop;unfold CwV at hop;simp only at hop;rcases dE (e=0) with h0|h0
       ·have hG:=hGG h0;subst h0;clear hGG hD he;obtain ⟨d1,d2,d3,d4⟩:=hG;have hfo:=hT.follow d1 (by omega) d4 (by omega);have hsp:=d1.sp;obtain ⟨⟨T',nx'⟩,hx⟩:∃ x,x=foA D (T,nx) D.2.1.length:=⟨_,rfl⟩
        rw [<- hx] at hfo;obtain ⟨hT',hn'⟩:=hfo;simp only at hT' hn';have cf:=fun M nid=>zlL L hT d1 (by omega) (by omega) hx.symm hT'.len (a:=128) (t:=129) (m:=130) (by decide) (by decide) (by decide) M nid;have ci:=fun M nid=>zfu L hT' (t:=129) (m:=130) M nid;have co:=fun (f:Nat) M nid=>zh5 L hT' (t:=129) (f:Int) M nid;have hcn:=fun (f:Nat) hf=>hT'.count d1 d2 (f:=f) hf;clear hx;obtain ⟨dz,ds,df,dc⟩:=D;unfold CwV at cf;simp only at d2 d3 d4 hsp cf hcn hop;have h8:¬ (8:Int)<(ds.length:Int):=by omega
        have h8N:¬ 8<ds.length:=by omega
        have hdf:(df.length:Int)=24:=by omega
        have zS:=jj hilI<|jj hil<|jj hg<|jj hgE<|jj hop<|jj cf<|jj ci<|jj h8<|jj h8N<|jj d3<|hdf;repeat' (first|(refine aSk fun K hK=>?_)|(refine zp ?_)|(refine eC (fun h=>?_) (fun h=>?_)<;>(try simp at h))|(refine hK _ ?_;clear hK)|(clear hK;refine hK _ ?_;clear hK))
        all_goals clear zS
        refine aLK (s0:=?lps4) (m0:=?lpm4) (ι:={j:Nat // j<=24}) [3,5,38,39,40,122,123] (fun j=>[(124,I j.1)]) (fun j=>[]) (fun j=>24 - j.1) ⟨0,by omega⟩ ?lhs4 ?lhm4 ?_ ?_
        case lhs4=>first|(simp [kpS];done)|(simp [kpS];rfl)
        case lhm4=>first|rfl|(simp;done)|(simp;rfl)
        ·exact dle
        ·rintro ⟨j,hj⟩;simp only;rcases dE (j<24) with hjl|hjl
         ·have hjI:(j:Int)<24:=by omega
          have hjd:j<df.length:=by omega
          have hg1:=zab hjd;have hgE1:=zac hjd;have hcj:=hcn j hjd;have coj:=co j;have hol:=@zbX T' (j:Int);obtain ⟨O,hO⟩:∃ O,O=ofT T' (j:Int):=⟨_,rfl⟩
          rw [<- hO] at hcj coj hol;obtain ⟨⟨a,b⟩,hab⟩:∃ x,x=gp df j:=⟨_,rfl⟩
          rw [<- hab] at hg1 hgE1 hcj;simp only at hg1 hgE1 hcj;rw [<- hcj] at hg1 hgE1;have zS:=jj hjI<|jj hjd<|jj hg1<|jj hgE1<|coj;repeat' (first|(refine aSk fun K hK=>?_)|(refine zp ?_)|(refine eC (fun h=>?_) (fun h=>?_)<;>(try simp at h))|(refine hK _ ?_;clear hK)|clear hK)
          all_goals clear zS
          refine ⟨j+1,?_,by omega,by omega⟩;exact dle
         ·obtain rfl:j=24:=by omega
          repeat' (first|(refine aSk fun K hK=>?_)|(refine zd2 ?_)|(refine eC (fun h=>?_) (fun h=>?_)<;>(try simp at h))|(refine hK _ ?_;clear hK)|clear hK)
          refine ⟨i+1,dz,ds,df,dc,T',nx',?_,⟨by omega,d1,d2,d3,hT',by omega⟩,by omega⟩;exact dle
       ·clear hGG hD he;have zS:=jj hilI<|jj hil<|jj hg<|jj hgE<|jj hop<|h0;repeat' (first|(refine aSk fun K hK=>?_)|(refine zp ?_)|(refine eC (fun h=>?_) (fun h=>?_)<;>(try simp at h))|(refine hK _ ?_;clear hK)|clear hK)
        all_goals clear zS
        refine ⟨i+1,cz,cs,cf0,cc,T,nx,?_,⟨by omega,hcw2,h42,h242,hT2,by omega⟩,by omega⟩;exact dle
      ·rcases dE (k=3) with hk3|hk3
       ·subst hk3;have hop:=L.ex c s hcw;have hGG:=fun h0=>@zu9 c hcw h4 h24 s h0;obtain ⟨D,hD⟩:∃ D,D=(exR c s).1:=⟨_,rfl⟩
        obtain ⟨e,he⟩:∃ e,e=(exR c s).2:=⟨_,rfl⟩
        rw [<- hD,<- he] at hop;rw [<- hD,<- he] at hGG;rw [hce] at hop;unfold CwV at hop;simp only at hop;rcases dE (e=0) with h0|h0
        ·have hG:=hGG h0;subst h0;clear hGG hD he;obtain ⟨d1,d2,d3,d4⟩:=hG;have hfo:=hT.follow d1 (by omega) d4 (by omega);have hsp:=d1.sp;obtain ⟨⟨T',nx'⟩,hx⟩:∃ x,x=foA D (T,nx) D.2.1.length:=⟨_,rfl⟩
         rw [<- hx] at hfo;obtain ⟨hT',hn'⟩:=hfo;simp only at hT' hn';have cf:=fun M nid=>zlL L hT d1 (by omega) (by omega) hx.symm hT'.len (a:=128) (t:=129) (m:=130) (by decide) (by decide) (by decide) M nid;have ci:=fun M nid=>zfu L hT' (t:=129) (m:=130) M nid;have co:=fun (f:Nat) M nid=>zh5 L hT' (t:=129) (f:Int) M nid;have hcn:=fun (f:Nat) hf=>hT'.count d1 d2 (f:=f) hf;clear hx;obtain ⟨dz,ds,df,dc⟩:=D;unfold CwV at cf;simp only at d2 d3 d4 hsp cf hcn hop;have h8:¬ (8:Int)<(ds.length:Int):=by omega
         have h8N:¬ 8<ds.length:=by omega
         have hdf:(df.length:Int)=24:=by omega
         have zS:=jj hilI<|jj hil<|jj hg<|jj hgE<|jj hop<|jj cf<|jj ci<|jj h8<|jj h8N<|jj d3<|hdf;repeat' (first|(refine aSk fun K hK=>?_)|(refine zp ?_)|(refine eC (fun h=>?_) (fun h=>?_)<;>(try simp at h))|(refine hK _ ?_;clear hK)|(clear hK;refine hK _ ?_;clear hK))
         all_goals clear zS
         refine aLK (s0:=?lps5) (m0:=?lpm5) (ι:={j:Nat // j<=24}) [3,5,38,39,40,122,123] (fun j=>[(124,I j.1)]) (fun j=>[]) (fun j=>24 - j.1) ⟨0,by omega⟩ ?lhs5 ?lhm5 ?_ ?_
         case lhs5=>first|(simp [kpS];done)|(simp [kpS];rfl)
         case lhm5=>first|rfl|(simp;done)|(simp;rfl)
         ·exact dle
         ·rintro ⟨j,hj⟩;simp only;rcases dE (j<24) with hjl|hjl
          ·have hjI:(j:Int)<24:=by omega
           have hjd:j<df.length:=by omega
           have hg1:=zab hjd;have hgE1:=zac hjd;have hcj:=hcn j hjd;have coj:=co j;have hol:=@zbX T' (j:Int);obtain ⟨O,hO⟩:∃ O,O=ofT T' (j:Int):=⟨_,rfl⟩
           rw [<- hO] at hcj coj hol;obtain ⟨⟨a,b⟩,hab⟩:∃ x,x=gp df j:=⟨_,rfl⟩
           rw [<- hab] at hg1 hgE1 hcj;simp only at hg1 hgE1 hcj;rw [<- hcj] at hg1 hgE1;have zS:=jj hjI<|jj hjd<|jj hg1<|jj hgE1<|coj;repeat' (first|(refine aSk fun K hK=>?_)|(refine zp ?_)|(refine eC (fun h=>?_) (fun h=>?_)<;>(try simp at h))|(refine hK _ ?_;clear hK)|clear hK)
           all_goals clear zS
           refine ⟨j+1,?_,by omega,by omega⟩;exact dle
          ·obtain rfl:j=24:=by omega
           repeat' (first|(refine aSk fun K hK=>?_)|(refine zd2 ?_)|(refine eC (fun h=>?_) (fun h=>?_)<;>(try simp at h))|(refine hK _ ?_;clear hK)|clear hK)
           refine ⟨i+1,dz,ds,df,dc,T',nx',?_,⟨by omega,d1,d2,d3,hT',by omega⟩,by omega⟩;exact dle
        ·clear hGG hD he;have zS:=jj hilI<|jj hil<|jj hg<|jj hgE<|jj hop<|h0;repeat' (first|(refine aSk fun K hK=>?_)|(refine zp ?_)|(refine eC (fun h=>?_) (fun h=>?_)<;>(try simp at h))|(refine hK _ ?_;clear hK)|clear hK)
         all_goals clear zS
         refine ⟨i+1,cz,cs,cf0,cc,T,nx,?_,⟨by omega,hcw2,h42,h242,hT2,by omega⟩,by omega⟩;exact dle
       ·have zS:=jj hilI<|jj hil<|jj hg<|jj hgE<|jj hk0<|jj hk1<|jj hk2<|hk3;repeat' (first|(refine aSk fun K hK=>?_)|(refine zp ?_)|(refine eC (fun h=>?_) (fun h=>?_)<;>(try simp at h))|(refine hK _ ?_;clear hK)|clear hK)
        all_goals clear zS
        refine ⟨i+1,cz,cs,cf0,cc,T,nx,?_,⟨by omega,hcw2,h42,h242,hT2,by omega⟩,by omega⟩;exact dle
   ·obtain rfl:i=l.length:=by omega
    have zS:=sh;repeat' (first|(refine aSk fun K hK=>?_)|(refine zp ?_)|(refine eC (fun h=>?_) (fun h=>?_)<;>(try simp at h))|(refine hK _ ?_;clear hK)|clear hK)
    all_goals clear zS
    refine ⟨by simp,?_⟩;simp [lvI,f4];try exact dt
structure ShX (X:AX):Prop where
 fo:FoX X
 eq:X.eqs 133=true
 be:X.call 18=fun avs M nid=>if zrf avs=true then caG beS avs M nid else none
 inv:X.call 25=caP zta
 of:X.call 26=caP OfF
theorem zAN (M:Nat->AO) (nid:Nat):caG beS [I 2] M nid=some (.tup [.bp nid 0,B true],[(nid,.box [.sl (nid+1) 1 3 0 2,.sl (nid+2) 1 1 0 32,I 102]),(nid+1,.vec 1 3 false (zc (zd9 2))),(nid+2,.vec 1 1 false (zg (zh (zd9 2) 32)))]):=by
 have hF:beS [I 2] []=some (.tup [.bp 0 0,B true],btM (zd9 2,bM0,((100+2:Nat):Int))) :=sGe (ι:={n:Nat // n<=8}) (A:=fun x=>[I x.1]) (M:=fun _=>[]) (R:=fun _=>rtO [.bp 0 0,B true]) (O:=fun x=>btM (zd9 x.1,bM0,((100+x.1:Nat):Int))) ⟨2,by decide⟩ fun j hA _=>by
   obtain ⟨n,hn⟩:=j;simp only [cJ,I,AV.v.injEq,Value.int.injEq,true_and,and_true] at hA;obtain rfl:n=2:=by omega
   exact ⟨rfl,rfl⟩
 have hm0:bM0.length=32:=by simp [bM0]
 rw [zqM (by decide)];simp only [btM,zh7,hm0] at hF;have hF:beS [AV.v (.int .i64 2)] []=_:=hF;unfold caG;simp [gat,nmsL,AV.nms,zbp,Led,curBL,AV.curB,renL,AV.ren,hF,zeZ,zcc,AO.nms,zdC,nmN,shN,rng,AO.ren,zdP,I,B]
theorem zsN {X:AX} (L:ShX X) (M:Nat->AO) (nid:Nat):X.call 18 [I 2] M nid=some (.tup [.bp nid 0,B true],[(nid,.box [.sl (nid+1) 1 3 0 2,.sl (nid+2) 1 1 0 32,I 102]),(nid+1,.vec 1 3 false (zc (zd9 2))),(nid+2,.vec 1 1 false (zg (zh (zd9 2) 32)))]):=by rw [L.be];show (if zrf [I 2]=true then caG beS [I 2] M nid else none)=_;rw [if_pos (show zrf [I 2]=true from rfl),zAN]
theorem zlK {X:AX} (L:ShX X) {T:List Tb} {nx:Nat} {F:Nat->Nat->Int} (hT:TbI 2 T F nx) {t m:Nat} (M:Nat->AO) (nid:Nat) (hMT:M t=.vec 1 3 false (zc T)) (hm:M m=.vec 1 1 false (zg (zh T 32))) :
  X.call 25 [.sl t 1 3 0 2,.sl m 1 1 0 32] M nid=some (B true,[]):=by
 have hl1:(zc T).length=2:=by simp [zc,hT.len]
 have tk1:List.take 2 (zc T)=zc T:=tkL (by omega);have hl2:(zg (zh T 32)).length=32:=by simp [zal]
 have tk2:List.take 32 (zg (zh T 32))=zg (zh T 32):=tkL (by omega);have hi:=hT.inv;rw [L.inv];have hok:(∀ t∈T,zf t)∧T.length<=1000000∧zgL (zh T 32)∧0<(zh T 32).length:=⟨fun t ht=>(hT.ok t ht).1,by rw [hT.len];omega,⟨by rw [zal];omega,fun q hq=>by obtain ⟨j,hj,rfl⟩:=List.getElem_of_mem hq;have:=@zbX T (j:Int);simp [zh];omega⟩,by rw [zal];omega⟩
 have key:=cPs (ι:=zyY) (A:=fun x=>[.rd 3 (zc x.1.1),.rd 1 (zg x.1.2)]) (R:=fun x=>rtO [B (zsd x.1.1 x.1.2)]) (avs:=[.sl t 1 3 0 2,.sl m 1 1 0 32]) (M:=M) (n:=nid) ⟨(T,zh T 32),hok⟩ (by simp [zah,zbl,zbm,zaH,hMT,hm,tk1,tk2,hl1,hl2]) (by rintro ⟨⟨t',m'⟩,h'⟩ e;simp only [cJ,AV.rd.injEq,zbk,zck,true_and,and_true] at e;obtain ⟨rfl,rfl⟩:=e;rfl) (by simp [rtO,oRt,oVs,oVl,oLs,oLf]);unfold zta;rw [key];simp only [hi];simp [rtO,oRt,oVs,oVl,oLs,oLf]
theorem zsF {X:AX} (L:ShX X) {T:List Tb} {nx:Nat} {F:Nat->Nat->Int} (hT:TbI 2 T F nx) {t:Nat} (f:Int) (M:Nat->AO) (nid:Nat) (hMT:M t=.vec 1 3 false (zc T)) :
  X.call 26 [.sl t 1 3 0 2,I f] M nid=some (.sl nid 1 2 0 (ofT T f).length,[(nid,.vec 1 2 false (prw (ofT T f)))]):=by
 have hl1:(zc T).length=2:=by simp [zc,hT.len]
 have tk1:List.take 2 (zc T)=zc T:=tkL (by omega);rw [L.of];unfold OfF;have key:=cPs (ι:=TsI) (A:=fun x=>[.rd 3 (zc x.1.1),I x.1.2]) (R:=fun x=>rtO [.ow 2 (prw (ofT x.1.1 x.1.2))]) (avs:=[.sl t 1 3 0 2,I f]) (M:=M) (n:=nid) ⟨(T,f),fun t ht=>(hT.ok t ht).1,by rw [hT.len];omega⟩ (by simp [zah,zbl,zbm,zaH,hMT,tk1,hl1]) (by rintro ⟨⟨t',f'⟩,h'⟩ e;simp only [cJ,AV.rd.injEq,zbk,I,AV.v.injEq,Value.int.injEq,true_and,and_true] at e;obtain ⟨rfl,rfl⟩:=e;rfl) (by simp [rtO,oRt,oVl,oLf]);rw [key];simp [rtO,oRt,oVl,oLf]
def zkW:Nat->Nat->Int:=fun _ _=>-1
def zmd:Nat->Nat->Int:=zr zkW 0 0 3
def zmc:Nat->Nat->Int:=zr zmd 1 1 3
def zkV:Nat->Nat->Int:=zr zmc 1 0 4
def zqz:Nat->Nat->Int:=zr zkV 0 0 (-1)
theorem zt3 {T:List Tb} {nx:Nat} (h:TbI 2 T zkV nx):ofT T 3=[(0,60),(1,63)]:=by
 refine zb4 h.asc (by simp [ltM]) fun x=>?_;rw [h.of (by omega)];constructor
 ·rintro ⟨s,q,hs,hq,rfl,hF⟩;match s,q,hs,hq with
  | 0,0,_,_=>simp
  | 1,1,_,_=>simp
  | 0,1,_,_=>simp [zkV,zmc,zmd,zkW,zr] at hF
  | 0,2,_,_=>simp [zkV,zmc,zmd,zkW,zr] at hF
  | 0,3,_,_=>simp [zkV,zmc,zmd,zkW,zr] at hF
  | 1,0,_,_=>simp [zkV,zmc,zmd,zkW,zr] at hF
  | 1,2,_,_=>simp [zkV,zmc,zmd,zkW,zr] at hF
  | 1,3,_,_=>simp [zkV,zmc,zmd,zkW,zr] at hF
 ·intro hx;simp only [List.mem_cons,List.not_mem_nil,or_false] at hx;rcases hx with rfl|rfl
  ·exact ⟨0,0,by omega,by omega,rfl,rfl⟩
  ·exact ⟨1,1,by omega,by omega,rfl,rfl⟩
theorem zt2 {T:List Tb} {nx:Nat} (h:TbI 2 T zqz nx):ofT T 3=[(1,63)]:=by
 refine zb4 h.asc (by simp) fun x=>?_;rw [h.of (by omega)];constructor
 ·rintro ⟨s,q,hs,hq,rfl,hF⟩;match s,q,hs,hq with
  | 1,1,_,_=>simp
  | 0,0,_,_=>simp [zqz,zr] at hF
  | 0,1,_,_=>simp [zqz,zkV,zmc,zmd,zkW,zr] at hF
  | 0,2,_,_=>simp [zqz,zkV,zmc,zmd,zkW,zr] at hF
  | 0,3,_,_=>simp [zqz,zkV,zmc,zmd,zkW,zr] at hF
  | 1,0,_,_=>simp [zqz,zkV,zmc,zmd,zkW,zr] at hF
  | 1,2,_,_=>simp [zqz,zkV,zmc,zmd,zkW,zr] at hF
  | 1,3,_,_=>simp [zqz,zkV,zmc,zmd,zkW,zr] at hF
 ·intro hx;simp only [List.mem_cons,List.not_mem_nil,or_false] at hx;subst hx;exact ⟨1,1,by omega,by omega,rfl,rfl⟩
theorem zrB {X:AX} (L:FoX X) {N:Nat} {T:List Tb} {F:Nat->Nat->Int} {nx:Nat} (h:TbI N T F nx) {s q f:Nat} (hs:s<N) (hq:q<4) (hF:F s q=-1) (hf:f<32) (w:Bool) (hnx:nx<=4000000000) :
  ∃ T' nx',TbI N T' (zr F s q (f:Int)) nx'∧nx'<=nx+2∧∀ {a t m:Nat},a≠t->a≠m->t≠m->∀ (M:Nat->AO) (nid:Nat),M a=.box [.sl t 1 3 0 N,.sl m 1 1 0 32,I nx]->M t=.vec 1 3 false (zc T)->M m=.vec 1 1 false (zg (zh T 32)) ->
  X.call 74 [.bp a 0,I s,I (pgN q),I f,B w] M nid=some (B true,[(a,.box [.sl t 1 3 0 N,.sl m 1 1 0 32,I nx']),(t,.vec 1 3 false (zc T')),(m,.vec 1 1 false (zg (zh T' 32)))]):=by obtain ⟨i1,i2,i3,i4⟩:=h.install hs hq hF hf w hnx;exact ⟨_,_,i4,by omega,fun hat ham htm M nid ha hT hm=>zu5 L h hs hq hF hf w hnx rfl rfl hat ham htm M nid ha hT hm⟩
theorem zw8 {X:AX} (L:FoX X) {N:Nat} {T:List Tb} {F:Nat->Nat->Int} {nx:Nat} (h:TbI N T F nx) {s q f:Nat} (hs:s<N) (hq:q<4) (hf:F s q=(f:Int)) :
  ∃ T',TbI N T' (zr F s q (-1)) nx∧∀ {a t m:Nat},a≠t->a≠m->t≠m->∀ (M:Nat->AO) (nid:Nat),M a=.box [.sl t 1 3 0 N,.sl m 1 1 0 32,I nx]->M t=.vec 1 3 false (zc T)->M m=.vec 1 1 false (zg (zh T 32)) ->
  X.call 75 [.bp a 0,I s,I (pgN q),I f] M nid=some (B true,[(a,.box [.sl t 1 3 0 N,.sl m 1 1 0 32,I nx]),(t,.vec 1 3 false (zc T')),(m,.vec 1 1 false (zg (zh T' 32)))]) :=⟨_,h.rm0 hs hq (-1),fun hat ham htm M nid ha hT hm=>zu4 L h hs hq hf (-1) hat ham htm M nid ha hT hm⟩
set_option maxHeartbeats 16000000 in
theorem s19 (X:AX) (L:ShX X):PSd prog 19 (spF (ι:=Unit) (fun _=>[]) fun _=>rtO [B true]):=by
 have hX:=L.fo.ok;have hw:=L.fo.w;have heq:=L.eq;have pw2:prw [(0,60),(1,63)]=[[AV.v (.int .i64 0),AV.v (.int .i64 60)],[AV.v (.int .i64 1),AV.v (.int .i64 63)]]:=rfl;have pw1:prw [(1,63)]=[[AV.v (.int .i64 1),AV.v (.int .i64 63)]]:=rfl;refine psS hX mixed func19 rfl fun ⟨⟩ w0 G=>⟨by show 0<=76;decide,rfl,?_⟩
 show AW ⟨prog,X,76,w0,.pure G⟩ _ _ _;have hc:=okc hX 76 w0 G;have be:=fun M nid=>zsN L M nid;have h0:TbI 2 (zd9 2) zkW 102:=zrv (by decide);obtain ⟨T0,hT0⟩:∃ T,T=zd9 2:=⟨_,rfl⟩
 rw [<- hT0] at be h0;clear hT0;obtain ⟨T1,n1,h1,m1,c1⟩:=zrB L.fo h0 (s:=0) (q:=0) (f:=3) (by decide) (by decide) rfl (by decide) true (by decide);obtain ⟨T2,n2,h2,m2,c2⟩:=zrB L.fo h1 (s:=1) (q:=1) (f:=3) (by decide) (by decide) rfl (by decide) false (by omega);obtain ⟨T3,n3,h3,m3,c3⟩:=zrB L.fo h2 (s:=1) (q:=0) (f:=4) (by decide) (by decide) rfl (by decide) true (by omega);obtain ⟨T4,h4,c4⟩:=zw8 L.fo h3 (s:=0) (q:=0) (f:=3) (by decide) (by decide) rfl;have o3:=zt3 h3;have o4:=zt2 h4;have of:=fun M nid=>zsF L h3 (t:=17) 3 M nid;rw [o3] at of;have g3:(zg (zh T4 32))[3]?=some [.rd 2 (prw [(1,63)])]:=by rw [<- o4];simp [zg,zh,zuB]
 have v3:=fun M nid=>zlK L h3 (t:=17) (m:=18) M nid;have v4:=fun M nid=>zlK L h4 (t:=17) (m:=18) M nid;have k1:∀ M nid,_:=fun (M:Nat->AO) (nid:Nat)=>@c1 16 17 18 (by decide) (by decide) (by decide) M nid;have k2:∀ M nid,_:=fun (M:Nat->AO) (nid:Nat)=>@c2 16 17 18 (by decide) (by decide) (by decide) M nid;have k3:∀ M nid,_:=fun (M:Nat->AO) (nid:Nat)=>@c3 16 17 18 (by decide) (by decide) (by decide) M nid;have k4:∀ M nid,_:=fun (M:Nat->AO) (nid:Nat)=>@c4 16 17 18 (by decide) (by decide) (by decide) M nid;have p0:(I (pgN 0):AV)=AV.v (.int .i64 60):=rfl;have p1:(I (pgN 1):AV)=AV.v (.int .i64 63):=rfl;simp only [Int.natCast_zero,show (((1:Nat):Int))=1 from rfl,show (((3:Nat):Int))=3 from rfl,show (((4:Nat):Int))=4 from rfl,p0,p1,show (((0:Nat):Int))=0 from rfl] at k1 k2 k3 k4;clear c1 c2 c3 c4;have zS:=jj be<|jj of<|jj k1<|jj k2<|jj k3<|jj k4<|jj v3<|jj v4<|jj g3<|jj heq<|jj pw1<|jj pw2<|jj ziu<|zbi;refine zhd ?_;repeat (intro K hK)
 clear zS;refine ⟨by simp,?_⟩;simp [lvI,f19];try exact dt
noncomputable section
set_option maxRecDepth 4000
theorem zaU {F:List AV->Option AV} {avs:List AV} {r:AV} {M:Nat->AO} {n:Nat} (hF:F avs=some r) (hc:avs.all AV.closedV=true) (ho:oRt n r=(r,[],n)):callD F avs M n=some (r,[]):=by simp only [callD];rw [if_pos hc,hF];simp only [ho];rw [if_pos (by omega)]
def Sh0:AX:=((((((AX.start wT).eqAt 103).eqAt 170).eqAt 86).eqAt 148).eqAt 150).eqAt 133
theorem sh0:XOK prog Sh0:=zgN (zgN (zgN (zgN (zgN (zgN (zmV _ _) eqE) eqD) zCp) zCo) eqN) zxG
theorem xS {X : AX} {f : FuncId} {fn : Func} {ι : Type} {A : ι -> List AV} {R : ι -> AV} (h : XOK prog X) (hs : PSd prog f (spF A R)) (hf : prog.funcs[f]? = some fn) (hfl : ∀ i, (R i).flat := by exact fun _ => trivial) (hn : (fn.body.isSome && !(fn.name == "runtime.NumGoroutine")) = true := by kernel_rfl) : XOK prog (X.add f (caP (spF A R))) := xoS h hs hfl hf hn
theorem xG {X : AX} {f : FuncId} {fn : Func} {F : List AV -> List AO -> Option (AV × List AO)} (h : XOK prog X) (hs : GSd prog f F) (hf : prog.funcs[f]? = some fn) (hw : X.writes f = true := by kernel_rfl) (hn : (fn.body.isSome && !(fn.name == "runtime.NumGoroutine")) = true := by kernel_rfl) : XOK prog (X.add f (caG F)) := xpM h hw (.inl ⟨hs.caG, boK fn hf hn⟩) fun _ _ _ _ h => cGk h
theorem xD {X : AX} {f : FuncId} {fn : Func} {F : List AV -> Option AV} (h : XOK prog X) (hs : PSd prog f F) (hf : prog.funcs[f]? = some fn) (hn : (fn.body.isSome && !(fn.name == "runtime.NumGoroutine")) = true := by kernel_rfl) : XOK prog (X.add f (callD F)) := zb6 h (.inl ⟨PSd.callD hs, boK fn hf hn⟩) fun _ _ _ _ h b hb => zeV h b hb
def Sh1:AX:=Sh0.add 196 (caP FbF)
theorem sh1:XOK prog Sh1:=xS sh0 (zBB Sh0 sh0) func196
def Sh2:AX:=Sh1.add 195 (caP FmF)
theorem sh2:XOK prog Sh2:=xS sh1 (zBC Sh1 sh1 w0T rfl) func195
def Sh3:AX:=Sh2.add 143 (caP zy4)
theorem sh3:XOK prog Sh3:=xS sh2 (zBT Sh2 sh2 w0T cFm cFb) func143 (fun x=>zpZ x)
def Sh4:AX:=Sh3.add 56 (caP zA0)
theorem sh4:XOK prog Sh4:=xS sh3 (s56 Sh3 sh3 w0T cEn) func56 (fun x=>zp4 x.1)
def Sh5:AX:=Sh4.add 113 (caP EtF)
theorem sh5:XOK prog Sh5:=xS sh4 (zCa Sh4 sh4 w0T (fun n h M k=>cDe n h M k)) func113 (fun _=>by simp [rtO,AV.flat,AV.flatV,AV.flat1,EnV])
def Sh6:AX:=Sh5.add 126 (caP IfF)
theorem sh6:XOK prog Sh6:=xS sh5 (zB5 Sh5 sh5 ) func126
def Sh7:AX:=Sh6.add 117 (caP SuF)
theorem sh7:XOK prog Sh7:=xS sh6 (zB7 Sh6 sh6 w0T) func117
def Sh8:AX:=Sh7.add 115 (caP IxF)
theorem sh8:XOK prog Sh8:=xS sh7 (zB8 Sh7 sh7 w0T) func115 (fun x=>zn4)
def Sh9:AX:=Sh8.add 114 (caP NuF)
theorem sh9:XOK prog Sh9:=xS sh8 (zB9 Sh8 sh8 w0T (fun x M n=>cIf x M n) (fun t h M n=>cIx t h M n)) func114
def zyP:AX:=Sh9.add 116 (caG (ckS 0))
theorem zAF:XOK prog zyP:=xG sh9 (zub Sh9 sh9 w0T (fun n h M k=>cDe n h M k) (fun e l M n=>cSu e l M n)) func116
def zyO:AX:=zyP.add 116 (caG (ckS 1))
theorem zAE:XOK prog zyO:=xG zAF (zua zyP zAF w0T (fun n h M k=>cDe n h M k) (fun e l M n=>cSu e l M n) rfl) func116
def zyN:AX:=zyO.add 116 (caG (ckS 2))
theorem zAD:XOK prog zyN:=xG zAE (zt9 zyO zAE w0T (fun n h M k=>cDe n h M k) (fun e l M n=>cSu e l M n) rfl) func116
def zyM:AX:=zyN.add 182 (caP zv6)
theorem zAC:XOK prog zyM:=xS zAD (zBM zyN zAD ) func182
def zyL:AX:=zyM.add 118 (caP zv9)
theorem zAB:XOK prog zyL:=xS zAC (zB6 zyM zAC rfl) func118
def zyK:AX:=zyL.add 194 (caP zv5)
theorem zAA:XOK prog zyK:=xS zAB (zBD zyL zAB ) func194
def zyJ:AX:=zyK.add 142 (caP fun avs=>zv8 (avs.map (zpx 1)))
theorem zAz:XOK prog zyJ:=zmW zAA 1 (zBU zyK zAA rfl) (fun _=>trivial) func142 (by kernel_rfl)
def zyI:AX:=zyJ.add 39 (caP ChF)
theorem zAy:XOK prog zyI:=xS zAz (s39 zyJ zAz w0T (fun t h M n=>cNu t h M n) (fun t h M n=>cIx t h M n) rfl rfl) func39
def zyH:AX:=zyI.add 139 (caP zAZ)
theorem zAx:XOK prog zyH:=xS zAy (zBX zyI zAy w0T) func139
def zyG:AX:=zyH.add 137 (caP PaF)
theorem zAw:XOK prog zyG:=xS zAx (zBZ zyH zAx w0T (fun t h M n=>cIx t h M n) (fun p l h1 h2 M n=>zvI p l h1 h2 M n) (fun w h M n=>cEt w h M n)) func137 (fun x=>zry)
def zyF:AX:=zyG.add 110 (caP LaF)
theorem zAv:XOK prog zyF:=xS zAw (zCb zyG zAw w0T (fun t p h M n=>cPa t p h M n)) func110 (fun x=>by simp [rtO,AV.flat,AV.flatV,AV.flat1,U,stV,zfa])
def zyE:AX:=zyF.add 109 (caP CkF)
theorem zAu:XOK prog zyE:=xS zAv (zCc zyF zAv w0T (fun t h M n=>cCh t h M n)) func109
def zyD:AX:=zyE.add 35 (caP WaF)
theorem zAt:XOK prog zyD:=xS zAu (s35 zyE zAu w0T (fun t h n lim M k=>cCk t h n lim M k) (fun t p h M n=>cLa t p h M n)) func35 (fun _=>by simp [rtO,AV.flat,AV.flatV,AV.flat1,U])
def zAU:AX:=zyD.add 37 (caP MiF)
theorem zBj:XOK prog zAU:=xS zAt (s37 zyD zAt w0T (fun t h n lim M k=>cCk t h n lim M k) (fun t p h M n=>cLa t p h M n) (fun w h M n=>cEt w h M n)) func37 (fun _=>by simp [rtO,AV.flat,AV.flatV,AV.flat1,U])
def zyC:AX:=zAU.add 214 (ziH)
theorem zAs:XOK prog zyC:=xpM zBj (by kernel_rfl) (.inl ⟨zrz,boK _ func214 (by kernel_rfl)⟩) fun _ _ _ _ h=>znb h
def zyB:AX:=zyC.add 184 (callC zwc)
theorem zAr:XOK prog zyB:=zb6 zAs (.inl ⟨PSd.callC (zBL zyC zAs w0T),boK _ func184 (by kernel_rfl)⟩) fun _ _ _ _ h b hb=>zhh h b hb
def zyA:AX:=zyB.add 185 (callC zwd)
theorem zAq:XOK prog zyA:=zb6 zAr (.inl ⟨PSd.callC (zBK zyB zAr w0T),boK _ func185 (by kernel_rfl)⟩) fun _ _ _ _ h b hb=>zhh h b hb
def zAT:AX:=zyA.add 128 (caP ClF)
theorem zBi:XOK prog zAT:=xS zAq (zB3 zyA zAq w0T rfl rfl) func128 (fun x=>zv2)
def zyz:AX:=zAT.add 218 zir
theorem zAp:XOK prog zyz:=zb6 zBi (.inr zA2) fun _ _ _ _ h=>ziQ h
def zyy:AX:=zyz.add 190 (callM false ztu zo5)
theorem zAo:XOK prog zyy:=xpM zAp (by kernel_rfl) (.inl ⟨((zBH zyz zAp rfl).callM fun _ _ _ _ h=>zmM h),boK _ func190 (by kernel_rfl)⟩) fun _ _ _ _ h=>zdt h
def zyx:AX:=zyy.add 192 (callM false ztu zo6)
theorem zAn:XOK prog zyx:=xpM zAo (by kernel_rfl) (.inl ⟨((zBF zyy zAo w0T).callM fun _ _ _ _ h=>zmN h),boK _ func192 (by kernel_rfl)⟩) fun _ _ _ _ h=>zdt h
def zyw:AX:=zyx.add 189 (caG clS)
theorem zAm:XOK prog zyw:=xG zAn (zBI zyx zAn w0T) func189
def zwO:AX:=zyw.add 191 (caG clS)
theorem zxd:XOK prog zwO:=xG zAm (zBG zyw zAm w0T) func191
def zyv:AX:=zwO.add 188 (caG seB)
theorem zAl:XOK prog zyv:=xG zxd (GSd.or (zAG zwO zxd w0T 189 rfl) (zAG zwO zxd w0T 191 rfl)) func188
def zyu:AX:=zyv.add 130 (caG puS)
theorem zAk:XOK prog zyu:=xG zAl (zB1 zyv zAl w0T (zxq rfl) (fun p l h1 h2 M n=>zvI p l h1 h2 M n)) func130
def zwN:AX:=zyu.add 186 (caG adS)
theorem zxc:XOK prog zwN:=xG zAk (zBJ zyu zAk w0T rfl) func186
def zyt:AX:=zwN.add 129 (caG deB)
theorem zAj:XOK prog zyt:=xG zxc (GSd.or (zB2 zwN zxc w0T (zxq rfl) (fun p l h1 h2 M n=>zvI p l h1 h2 M n) (fun f hf M n=>zAK f hf M n) rfl) (zt8 zwN zxc w0T (zxq rfl) (fun p l h1 h2 M n=>zvI p l h1 h2 M n) (fun f hf M n=>zAK f hf M n) rfl)) func129
def zys:AX:=zyt.add 135 (caG dpS)
theorem zAi:XOK prog zys:=xG zAj (zB0 zyt zAj w0T rfl rfl) func135
def zyr:AX:=zys.add 138 (caG wdS)
theorem zAh:XOK prog zyr:=xG zAi (zBY zys zAi w0T rfl rfl) func138
def zyq:AX:=zyr.add 127 (caP FhF)
theorem zAg:XOK prog zyq:=xS zAh (zB4 zyr zAh w0T (fun x M n=>cIf x M n) (fun t h M n=>cIx t h M n)) func127
def zwM:AX:=zyq.add 44 (caP LiF)
theorem zxb:XOK prog zwM:=xS zAg (s44 zyq zAg w0T (fun t h M n=>cCh t h M n) (fun t p h M n=>cLa t p h M n)) func44 (fun x=>zsr)
def zwL:AX:=zwM.add 141 (caG zq4)
theorem zxa:XOK prog zwL:=xG zxb (GSd.or (zBV zwM zxb w0T (zAH rfl)) (zt6 zwM zxb w0T (zAH rfl))) func141
def zwK:AX:=zwL.add 193 (caG ixB)
theorem zw9:XOK prog zwK:=xG zxa (GSd.or (zBE zwL zxa w0T rfl) (zt5 zwL zxa w0T rfl)) func193
def zyp:AX:=zwK.add 140 (caG dfB)
theorem zAf:XOK prog zyp:=xG zw9 (GSd.or (zBW zwK zw9 w0T rfl rfl) (zt7 zwK zw9 w0T rfl)) func140
def SeS:List AV->Option AV:=spF (ι:={x:StD // ztZ x}) (fun x=>[TbV x.1.1,I x.1.2.1,U x.1.2.2.1,.rd 1 (irw x.1.2.2.2)]) fun x=>rtO [TbV (zdD x.1.1 x.1.2.1 x.1.2.2.1 x.1.2.2.2).1,I (zdD x.1.1 x.1.2.1 x.1.2.2.1 x.1.2.2.2).2]
theorem zyQ:PSd prog 51 SeS:=PSd.softF (s51 zyp zAf w0T (fun t h n lim M k=>cCk t h n lim M k) (fun t p h M n=>cLa t p h M n) (fun n h M k=>cDe n h M k) (fun w h M n=>cEt w h M n) (fun t fs m ht ha hl M n=>cFh t fs m ht ha hl M n) (fun t h M n=>cCl t h M n) rfl rfl) fun i=>by simp [RLe,rtO,zbx,zio,zgJ,SLe,TbO,TbV,U,CwO,CwV,MpV]
def zyo:AX:=zyp.add 51 (callD SeS)
theorem zAe:XOK prog zyo:=xD zAf zyQ func51
theorem zs1 (t:Tb) (p:Int) (w:Nat) (fs:List Int) (h:ztZ (t,p,w,fs)) (M:Nat->AO) (n:Nat):callD SeS [TbV t,I p,U w,.rd 1 (irw fs)] M n=some (.tup [TbV (zdD t p w fs).1,I (zdD t p w fs).2],[]):=by refine zaU (sFe (ι:={x:StD // ztZ x}) (A:=fun x=>[TbV x.1.1,I x.1.2.1,U x.1.2.2.1,.rd 1 (irw x.1.2.2.2)]) (R:=fun x=>rtO [TbV (zdD x.1.1 x.1.2.1 x.1.2.2.1 x.1.2.2.2).1,I (zdD x.1.1 x.1.2.1 x.1.2.2.1 x.1.2.2.2).2]) ⟨(t,p,w,fs),h⟩ ?_) (by simp [AV.closedV,AV.isClosed,TbV,U,CwV,MpV,I,B]) (by simp [rtO,oRt,oVs,oVl,oLs,oLf,TbV,U,CwV,MpV,CwO,I,B]);rintro ⟨⟨t',p',w',fs'⟩,h'⟩ e;simp only [cJ,TbJ,zaJ,zaF,U,I,B,AV.v.injEq,Value.int.injEq,Value.bool.injEq,AV.rd.injEq,irI,zaa,zaE,zaC,true_and,and_true,Int.ofNat_inj] at e;obtain ⟨rfl,rfl,rfl,rfl⟩:=e;rfl
def ClS:List AV->Option AV:=spF (ι:={x:Tb×Int // zf x.1∧x.1.2.1.length<=999000}) (fun x=>[TbV x.1.1,I x.1.2]) fun x=>rtO [TbV (zcM x.1.1 x.1.2).1,U (zcM x.1.1 x.1.2).2.1,.rd 1 (irw (zcM x.1.1 x.1.2).2.2.1),I (zcM x.1.1 x.1.2).2.2.2]
theorem zzh:PSd prog 55 ClS:=PSd.softF (s55 zyo zAe w0T rfl (fun t h n lim M k=>cCk t h n lim M k) (fun t p h M n=>cPa t p h M n) (fun p l h1 h2 M n=>zvI p l h1 h2 M n) (fun t h M n=>cCl t h M n) rfl rfl) fun i=>by simp [RLe,rtO,zbx,zio,zgJ,SLe,TbO,TbV,U,CwO,CwV,MpV]
def zyn:AX:=zyo.add 55 (callD ClS)
theorem zAd:XOK prog zyn:=xD zAe zzh func55
theorem ztq (t:Tb) (g:Int) (h:zf t∧t.2.1.length<=999000) (M:Nat->AO) (n:Nat):callD ClS [TbV t,I g] M n=some (.tup [TbV (zcM t g).1,U (zcM t g).2.1,.rd 1 (irw (zcM t g).2.2.1),I (zcM t g).2.2.2],[]):=by refine zaU (sFe (ι:={x:Tb×Int // zf x.1∧x.1.2.1.length<=999000}) (A:=fun x=>[TbV x.1.1,I x.1.2]) (R:=fun x=>rtO [TbV (zcM x.1.1 x.1.2).1,U (zcM x.1.1 x.1.2).2.1,.rd 1 (irw (zcM x.1.1 x.1.2).2.2.1),I (zcM x.1.1 x.1.2).2.2.2]) ⟨(t,g),h⟩ ?_) (by simp [AV.closedV,AV.isClosed,TbV,U,CwV,MpV,I,B]) (by simp [rtO,oRt,oVs,oVl,oLs,oLf,TbV,U,CwV,MpV,CwO,I,B]);rintro ⟨⟨t',g'⟩,h'⟩ e;simp only [cJ,TbJ,zaJ,zaF,U,I,B,AV.v.injEq,Value.int.injEq,Value.bool.injEq,AV.rd.injEq,irI,zaa,zaE,zaC,true_and,and_true,Int.ofNat_inj] at e;obtain ⟨rfl,rfl⟩:=e;rfl
def NwS:List AV->Option AV:=spF (ι:=Int) (fun x=>[I x]) fun x=>rtO [TbV (zmk x).1,I (zmk x).2]
theorem zyU:PSd prog 49 NwS:=PSd.softF (s49 zyn zAd w0T (fun x M n=>cIf x M n)) fun i=>by simp [RLe,rtO,zbx,zio,zgJ,SLe,TbO,TbV,U,CwO,CwV,MpV]
def zym:AX:=zyn.add 49 (callD NwS)
theorem zAc:XOK prog zym:=xD zAd zyU func49
theorem zyV (x:Int) (h:True) (M:Nat->AO) (n:Nat):callD NwS [I x] M n=some (.tup [TbV (zmk x).1,I (zmk x).2],[]):=by refine zaU (sFe (ι:=Int) (A:=fun x=>[I x]) (R:=fun x=>rtO [TbV (zmk x).1,I (zmk x).2]) x ?_) (by simp [AV.closedV,AV.isClosed,TbV,U,CwV,MpV,I,B]) (by simp [rtO,oRt,oVs,oVl,oLs,oLf,TbV,U,CwV,MpV,CwO,I,B]);rintro x' e;simp only [cJ,TbJ,zaJ,zaF,U,I,B,AV.v.injEq,Value.int.injEq,Value.bool.injEq,AV.rd.injEq,irI,zaa,zaE,zaC,true_and,and_true,Int.ofNat_inj] at e;obtain rfl:=e;rfl
def FzN:List AV->Option AV:=spF (ι:=Int) (fun x=>[I x]) fun x=>rtO [B false]
def FzC:List AV->Option AV:=spF (ι:=Int×Int) (fun x=>[I x.1,I x.2]) fun x=>rtO [I (zd4 x.1 x.2)]
def FzS:List AV->Option AV:=spF (ι:=Int) (fun x=>[I x]) fun x=>rtO [B (decide (0<=x∧x<8))]
def FzV:List AV->Option AV:=spF (ι:=Dp) (fun x=>[MpV x]) fun x=>rtO [B (decide (zgx x))]
def FzK:List AV->Option AV:=spF (ι:=Dp) (fun x=>[MpV x]) fun x=>rtO [B (!decide (zgx x))]
def FzO:List AV->Option AV:=spF (ι:=Dp×Dp) (fun x=>[MpV x.1,MpV x.2]) fun x=>rtO [I (zd3 x.1 x.2)]
theorem kzn (x:Int) (M:Nat->AO) (n:Nat):caP FzN [I x] M n=some (B false,[]) :=cPs (A:=fun x:Int=>[I x]) (R:=fun _=>rtO [B false]) x rfl (fun _ _=>rfl) (by simp)
theorem kzc (a b:Int) (M:Nat->AO) (n:Nat):caP FzC [I a,I b] M n=some (I (zd4 a b),[]) :=cPs (A:=fun x:Int×Int=>[I x.1,I x.2]) (R:=fun x=>rtO [I (zd4 x.1 x.2)]) (a,b) rfl (by rintro ⟨j,k⟩ e;simp at e;obtain ⟨rfl,rfl⟩:=e;rfl) (by simp)
theorem kzs (a:Int) (M:Nat->AO) (n:Nat):caP FzS [I a] M n=some (B (decide (0<=a∧a<8)),[]) :=cPs (A:=fun x:Int=>[I x]) (R:=fun x=>rtO [B (decide (0<=x∧x<8))]) a rfl (by intro j e;simp at e;subst e;rfl) (by simp)
theorem kzv (a b:Int) (M:Nat->AO) (n:Nat):caP FzV [.agg [I a,I b]] M n=some (B (decide (zgx (a,b))),[]) :=cPs (A:=fun x:Dp=>[MpV x]) (R:=fun x=>rtO [B (decide (zgx x))]) (a,b) rfl (by intro j e;simp [zaF] at e;subst e;rfl) (by simp)
theorem kzk (a b:Int) (M:Nat->AO) (n:Nat):caP FzK [.agg [I a,I b]] M n=some (B (!decide (zgx (a,b))),[]) :=cPs (A:=fun x:Dp=>[MpV x]) (R:=fun x=>rtO [B (!decide (zgx x))]) (a,b) rfl (by intro j e;simp [zaF] at e;subst e;rfl) (by simp)
theorem kzo (a b c d:Int) (M:Nat->AO) (n:Nat):caP FzO [.agg [I a,I b],.agg [I c,I d]] M n=some (I (zd3 (a,b) (c,d)),[]) :=cPs (A:=fun x:Dp×Dp=>[MpV x.1,MpV x.2]) (R:=fun x=>rtO [I (zd3 x.1 x.2)]) ((a,b),(c,d)) rfl (by rintro ⟨j,k⟩ e;simp [zaF] at e;obtain ⟨rfl,rfl⟩:=e;rfl) (by simp)
theorem zmK {a0:AV} {avs:List AV} {r o:AV} (h:zwR a0 avs=some (r,o)):r.flat∧o.flatO:=by obtain ⟨i,_,_,h3,h4⟩:=zbK h;subst h3 h4;exact ⟨zcg,trivial⟩
theorem zmL {a0:AV} {avs:List AV} {r o:AV} (h:zv4 a0 avs=some (r,o)):r.flat∧o.flatO:=by obtain ⟨i,_,_,h3,h4⟩:=zbK h;subst h3 h4;exact ⟨zcg,trivial⟩
def zyl:AX:=zym.add 244 (caP FzN)
theorem zAb:XOK prog zyl:=xS zAc (zBk zym zAc) func244
def zyk:AX:=zyl.add 224 (caP FzC)
theorem zAa:XOK prog zyk:=xS zAb (zBm zyl zAb fun x M n=>kzn x M n) func224
def zyj:AX:=zyk.add 223 (caP zyZ)
theorem zz9:XOK prog zyj:=xS zAa (zBn zyk zAa) func223
def zyi:AX:=zyj.add 222 (caP FzS)
theorem zz8:XOK prog zyi:=xS zz9 (zBo zyj zz9) func222
def zyh:AX:=zyi.add 200 (caP FzV)
theorem zz7:XOK prog zyh:=xS zz8 (zBy zyi zz8 fun x M n=>kzs x M n) func200
def zyg:AX:=zyh.add 221 (caP FzK)
theorem zz6:XOK prog zyg:=xS zz7 (zBp zyh zz7 fun a b M n=>kzv a b M n) func221
def zyf:AX:=zyg.add 202 (caP FzO)
theorem zz5:XOK prog zyf:=xS zz6 (zBw zyg zz6 w0T (fun a b M n=>kzc a b M n) rfl) func202
def zye:AX:=zyf.add 243 (caP zy0)
theorem zz4:XOK prog zye:=xS zz5 (zBl zyf zz5 w0T ⟨fun a b M n=>kzk a b M n⟩) func243
def zyd:AX:=zye.add 220 (caP zy2)
theorem zz3:XOK prog zyd:=xS zz4 (zBq zye zz4 w0T rfl) func220
def zyc:AX:=zyd.add 199 (caP ztg)
theorem zz2:XOK prog zyc:=xS zz3 (zBz zyd zz3 w0T rfl (fun a b c d M n=>kzo a b c d M n)) func199
def zyb:AX:=zyc.add 201 (caP zy3)
theorem zz1:XOK prog zyb:=xS zz2 (zBx zyc zz2 w0T (fun a b c d M n=>kzo a b c d M n)) func201 (fun _=>by simp [rtO,AV.flat,AV.flatV,AV.flat1,I,B])
def zAS:AX:=zyb.add 204 (caP zy1)
theorem zBh:XOK prog zAS:=xS zz1 (zBu zyb zz1) func204 (fun _=>zcg)
def zya:AX:=zAS.add 225 zir
theorem zz0:XOK prog zya:=zb6 zBh (.inr zwX) fun _ _ _ _ h=>ziQ h
def zx9:AX:=zya.add 203 (callM false zl6 zwR)
theorem zzZ:XOK prog zx9:=xpM zz0 (by kernel_rfl) (.inl ⟨((zBv zya zz0 rfl).callM fun _ _ _ _ h=>zmK h),boK _ func203 (by kernel_rfl)⟩) fun _ _ _ _ h=>zdt h
def zwJ:AX:=zx9.add 205 (callM false zl6 zv4)
theorem zzY:XOK prog zwJ:=xpM zzZ (by kernel_rfl) (.inl ⟨((zBt zx9 zzZ w0T).callM fun _ _ _ _ h=>zmL h),boK _ func205 (by kernel_rfl)⟩) fun _ _ _ _ h=>zdt h
theorem rmX:RmX zwJ:=⟨zzY,w0T,rfl,fun a b M n=>kzv a b M n,rfl,rfl,rfl,rfl,rfl⟩
def AdS:List AV->Option AV:=spF (ι:={x:List Dp×Dp // x.1.length<=1000000}) (fun x=>[.rd 2 (prw x.1.1),MpV x.1.2]) fun x=>rtO [.rd 2 (prw (zhj x.1.1 x.1.2).1),I (zhj x.1.1 x.1.2).2]
theorem zzi:PSd prog 158 AdS:=PSd.softF (zBR zwJ rmX) fun i=>by simp [RLe,rtO,zbx,zio,zgJ,SLe,TbO,TbV,U,CwO,CwV,MpV]
def zwI:AX:=zwJ.add 158 (callD AdS)
theorem zzX:XOK prog zwI:=xD zzY zzi func158
theorem ztr (l:List Dp) (a b:Int) (h:l.length<=1000000) (M:Nat->AO) (n:Nat):callD AdS [.rd 2 (prw l),.agg [I a,I b]] M n=some (.tup [.rd 2 (prw (zhj l (a,b)).1),I (zhj l (a,b)).2],[]):=by refine zaU (sFe (ι:={x:List Dp×Dp // x.1.length<=1000000}) (A:=fun x=>[.rd 2 (prw x.1.1),MpV x.1.2]) (R:=fun x=>rtO [.rd 2 (prw (zhj x.1.1 x.1.2).1),I (zhj x.1.1 x.1.2).2]) ⟨(l,(a,b)),h⟩ ?_) (by simp [AV.closedV,AV.isClosed,TbV,U,CwV,MpV,I,B]) (by simp [rtO,oRt,oVs,oVl,oLs,oLf,TbV,U,CwV,MpV,CwO,I,B]);rintro ⟨⟨l',m'⟩,h'⟩ e;simp only [cJ,TbJ,zaJ,U,I,B,AV.v.injEq,Value.int.injEq,Value.bool.injEq,AV.rd.injEq,irI,zaa,zaE,zaC,true_and,and_true,Int.ofNat_inj] at e;obtain ⟨rfl,e2⟩:=e;have e2:MpV m'=MpV (a,b):=e2;rw [zaF] at e2;subst e2;rfl
theorem zCf:RmX zwI:=⟨zzX,w0T,rfl,fun a b M n=>kzv a b M n,rfl,rfl,rfl,rfl,rfl⟩
def RvS:List AV->Option AV:=spF (ι:={x:List Dp×Dp // x.1.length<=1000000}) (fun x=>[.rd 2 (prw x.1.1),MpV x.1.2]) fun x=>rtO [.rd 2 (prw (zgS x.1.1 x.1.2).1),I (zgS x.1.1 x.1.2).2]
theorem zyR:PSd prog 159 RvS:=PSd.softF (zBQ zwI zCf) fun i=>by simp [RLe,rtO,zbx,zio,zgJ,SLe,TbO,TbV,U,CwO,CwV,MpV]
def zx8:AX:=zwI.add 159 (callD RvS)
theorem zzW:XOK prog zx8:=xD zzX zyR func159
theorem zs2 (l:List Dp) (a b:Int) (h:l.length<=1000000) (M:Nat->AO) (n:Nat):callD RvS [.rd 2 (prw l),.agg [I a,I b]] M n=some (.tup [.rd 2 (prw (zgS l (a,b)).1),I (zgS l (a,b)).2],[]):=by refine zaU (sFe (ι:={x:List Dp×Dp // x.1.length<=1000000}) (A:=fun x=>[.rd 2 (prw x.1.1),MpV x.1.2]) (R:=fun x=>rtO [.rd 2 (prw (zgS x.1.1 x.1.2).1),I (zgS x.1.1 x.1.2).2]) ⟨(l,(a,b)),h⟩ ?_) (by simp [AV.closedV,AV.isClosed,TbV,U,CwV,MpV,I,B]) (by simp [rtO,oRt,oVs,oVl,oLs,oLf,TbV,U,CwV,MpV,CwO,I,B]);rintro ⟨⟨l',m'⟩,h'⟩ e;simp only [cJ,TbJ,zaJ,U,I,B,AV.v.injEq,Value.int.injEq,Value.bool.injEq,AV.rd.injEq,irI,zaa,zaE,zaC,true_and,and_true,Int.ofNat_inj] at e;obtain ⟨rfl,e2⟩:=e;have e2:MpV m'=MpV (a,b):=e2;rw [zaF] at e2;subst e2;rfl
def zx7:AX:=zx8.add 87 (caP zwe)
theorem zzV:XOK prog zx7:=xS zzW (s87 zx8 zzW w0T rfl) func87
def zx6:AX:=zx7.add 86 (caP zwf)
theorem zzU:XOK prog zx6:=xS zzV (s86 zx7 zzV w0T rfl) func86
def zx5:AX:=zx6.add 88 (caG ofS)
theorem zzT:XOK prog zx5:=xG zzU (s88 zx6 zzU w0T) func88
def zx4:AX:=zx5.add 84 (caG naS)
theorem zzS:XOK prog zx4:=xG zzT (s84 zx5 zzT w0T (fun t h M n=>cLi t h M n) (fun w h M k=>cDe w h M k) rfl) func84
def zx3:AX:=zx4.add 26 (caP OfF)
theorem zzR:XOK prog zx3:=xS zzS (s26 zx4 zzS w0T rfl) func26 (fun _=>zcg)
def zwH:AX:=zx3.add 25 (caP zta)
theorem zzQ:XOK prog zwH:=xS zzR (s25 zx3 zzR w0T (fun t h M n=>cLi t h M n) (fun w h M k=>cDe w h M k) rfl) func25
theorem zCt:BtX zwH:=⟨zzQ,w0T,fun t x h M n=>cWa t x h M n,fun w h M k=>cDe w h M k,fun k f d a x h M n=>cEn k f d a x h M n,fun t x h M n=>cMi t x h M n,fun t p w fs h M n=>zs1 t p w fs h M n,fun t p h M n=>ztq t p h M n,fun l a b h M n=>ztr l a b h M n,fun l a b h M n=>zs2 l a b h M n⟩
def zwG:AX:=zwH.add 83 (caP FBa)
theorem zzP:XOK prog zwG:=xS zzQ (s83 zwH zCt) func83
theorem zCs:BtX zwG:=⟨zzP,w0T,fun t x h M n=>cWa t x h M n,fun w h M k=>cDe w h M k,fun k f d a x h M n=>cEn k f d a x h M n,fun t x h M n=>cMi t x h M n,fun t p w fs h M n=>zs1 t p w fs h M n,fun t p h M n=>ztq t p h M n,fun l a b h M n=>ztr l a b h M n,fun l a b h M n=>zs2 l a b h M n⟩
def zwF:AX:=zwG.add 75 (caG rmS)
theorem zzO:XOK prog zwF:=xG zzP (s75 zwG zCs) func75
theorem zCr:BtX zwF:=⟨zzO,w0T,fun t x h M n=>cWa t x h M n,fun w h M k=>cDe w h M k,fun k f d a x h M n=>cEn k f d a x h M n,fun t x h M n=>cMi t x h M n,fun t p w fs h M n=>zs1 t p w fs h M n,fun t p h M n=>ztq t p h M n,fun l a b h M n=>ztr l a b h M n,fun l a b h M n=>zs2 l a b h M n⟩
def zwE:AX:=zwF.add 74 (caG zmx)
theorem zzN:XOK prog zwE:=xG zzO (s74 zwF zCr) func74
theorem zCm:FoX zwE:=⟨zzN,w0T,rfl,rfl,rfl⟩
def zx2:AX:=zwE.add 24 (caG foS)
theorem zzM:XOK prog zx2:=xG zzN (s24 zwE zCm) func24
theorem zbb.weakenS {P:Program} {f:FuncId} {g g':List AV->(Nat->AO)->Nat->Option (AV×List (Nat×AO))} (h:zbb P f g) (hle:∀ avs M n r,g' avs M n=some r->g avs M n=some r):zbb P f g' :=fun avs M nid av u hc=>h avs M nid av u (hle _ _ _ _ hc)
def cBe (avs:List AV) (M:Nat->AO) (nid:Nat):Option (AV×List (Nat×AO)):=if zrf avs=true then caG beS avs M nid else none
theorem zqd {avs:List AV} {M:Nat->AO} {nid:Nat} {r:AV×List (Nat×AO)} (h:cBe avs M nid=some r):∀ b∈r.2.map (·.1),nid<=b∧b<nid+16:=by
 unfold cBe at h;split at h
 case isFalse=>cases h
 rename_i hb;unfold zrf at hb;split at hb
 case h_2=>cases hb
 rename_i x;simp only [decide_eq_true_eq] at hb;rcases hb with rfl|rfl
 ·rw [show [AV.v (.int .i64 8)]=[I 8] from rfl,zAM,oJ] at h;subst h;intro b hb;simp at hb;omega
 ·rw [show [AV.v (.int .i64 2)]=[I 2] from rfl,zAN,oJ] at h;subst h;intro b hb;simp at hb;omega
theorem zvJ (avs:List AV) (M:Nat->AO) (n:Nat) (r:AV×List (Nat×AO)) (h:cBe avs M n=some r):caG beS avs M n=some r:=by
 unfold cBe at h;split at h
 ·exact h
 ·cases h
def zwD:AX:=zx2.add 18 cBe
theorem zzL:XOK prog zwD:=zb6 zzM (.inl ⟨zbb.weakenS (s18 zx2 zzM w0T (fun x M n=>zyV x trivial M n)).caG zvJ,boK _ func18 (by kernel_rfl)⟩) fun _ _ _ _ h b hb=>zqd h b hb
theorem shX:ShX zwD:=⟨⟨zzL,w0T,rfl,rfl,rfl⟩,rfl,rfl,rfl,rfl⟩
def FzB:List AV->Option AV:=spF (ι:=Unit) (fun _=>[]) fun _=>rtO [B true]
theorem kzb (M:Nat->AO) (n:Nat):caP FzB [] M n=some (B true,[]):=cPs (ι:=Unit) (A:=fun _=>[]) (R:=fun _=>rtO [B true]) () rfl (fun _ _=>rfl) (by simp)
def zx1:AX:=zwD.add 19 (caP FzB)
theorem zzK:XOK prog zx1:=xS zzL (s19 zwD shX) func19
def FzW:List AV->Option AV:=spF (ι:=Dp) (fun x=>[.agg [I x.1,I x.2]]) fun x=>rtO [B (decide (x.1=0))]
def FzI:List AV->Option AV:=spF (ι:=Int×Int) (fun x=>[I x.1,I x.2]) fun x=>rtO [B (decide (1<=x.1∧x.1<=x.2))]
theorem kzw (a b:Int) (M:Nat->AO) (n:Nat):caP FzW [.agg [I a,I b]] M n=some (B (decide (a=0)),[]) :=cPs (A:=fun x:Dp=>[.agg [I x.1,I x.2]]) (R:=fun x=>rtO [B (decide (x.1=0))]) (a,b) rfl (by rintro ⟨j,k⟩ e;simp at e;obtain ⟨rfl,rfl⟩:=e;rfl) (by simp)
theorem kzi (a b:Int) (M:Nat->AO) (n:Nat):caP FzI [I a,I b] M n=some (B (decide (1<=a∧a<=b)),[]) :=cPs (A:=fun x:Int×Int=>[I x.1,I x.2]) (R:=fun x=>rtO [B (decide (1<=x.1∧x.1<=x.2))]) (a,b) rfl (by rintro ⟨j,k⟩ e;simp at e;obtain ⟨rfl,rfl⟩:=e;rfl) (by simp)
theorem kzf (c:Cw) (h:zk c) (M:Nat->AO) (n:Nat):caP zwT [CwV c] M n=some (B true,[]) :=cPs (ι:={c:Cw // zk c}) (A:=fun x=>[CwV x.1]) (R:=fun _=>rtO [B true]) ⟨c,h⟩ (by simp [CwV]) (fun _ _=>rfl) (by simp)
theorem kzq (c:Cw) (h:zk c) (M:Nat->AO) (n:Nat):caP zwU [CwV c] M n=some (I 0,[]) :=cPs (ι:={c:Cw // zk c}) (A:=fun x=>[CwV x.1]) (R:=fun _=>rtO [I 0]) ⟨c,h⟩ (by simp [CwV]) (fun _ _=>rfl) (by simp)
theorem kzl (c:Cw) (s:Int) (h:zk c) (M:Nat->AO) (n:Nat):caP zwS [CwV c,I s] M n=some (I (liC c s),[]) :=cPs (ι:={x:Cw×Int // zk x.1}) (A:=fun x=>[CwV x.1.1,I x.1.2]) (R:=fun x=>rtO [I (liC x.1.1 x.1.2)]) ⟨(c,s),h⟩ (by simp [CwV]) (by rintro ⟨⟨c',s'⟩,h'⟩ e;simp only [cJ,TbJ,zaJ,zaF,U,I,B,AV.v.injEq,Value.int.injEq,Value.bool.injEq,AV.rd.injEq,irI,zaa,zaE,zaC,true_and,and_true,Int.ofNat_inj] at e;obtain ⟨rfl,rfl⟩:=e;rfl) (by simp)
theorem kza (c:Cw) (s p:Int) (h:zk c) (M:Nat->AO) (n:Nat):caP zwV [CwV c,I s,I p] M n=some (I (atC c s p),[]) :=cPs (ι:={x:Cw×Int×Int // zk x.1}) (A:=fun x=>[CwV x.1.1,I x.1.2.1,I x.1.2.2]) (R:=fun x=>rtO [I (atC x.1.1 x.1.2.1 x.1.2.2)]) ⟨(c,s,p),h⟩ (by simp [CwV]) (by rintro ⟨⟨c',s',p'⟩,h'⟩ e;simp only [cJ,TbJ,zaJ,zaF,U,I,B,AV.v.injEq,Value.int.injEq,Value.bool.injEq,AV.rd.injEq,irI,zaa,zaE,zaC,true_and,and_true,Int.ofNat_inj] at e;obtain ⟨rfl,rfl,rfl⟩:=e;rfl) (by simp)
theorem zh6 {F:List AV->Option AV} {avs:List AV} {z:Nat} {xs:List (List AV)} (hF:F avs=some (.ow z xs)) (hc:avs.all AV.closedV=true) (M:Nat->AO) (n:Nat):callD F avs M n=some (.sl n 1 z 0 xs.length,[(n,.vec 1 z false xs)]):=by simp only [callD];rw [if_pos hc,hF];simp [oRt,oVl,oLf]
theorem kzS (l:List CwS) (h:l.length<=1000000) (M:Nat->AO) (n:Nat):callD zwa [.rd 2 (spr l)] M n=some (.sl n 1 2 0 l.length,[(n,.vec 1 2 false (spr l))]):=by have:=zh6 (ztl h) (by simp [AV.closedV,AV.isClosed]) M n;rwa [show (spr l).length=l.length by simp [spr]] at this
theorem kzR (l:List Dp) (h:l.length<=1000000) (M:Nat->AO) (n:Nat):callD zwb [.rd 2 (prw l)] M n=some (.sl n 1 2 0 l.length,[(n,.vec 1 2 false (prw l))]):=by have:=zh6 (ztm h) (by simp [AV.closedV,AV.isClosed]) M n;rwa [show (prw l).length=l.length by simp] at this
theorem kzP (l:List CwP) (h:l.length<=1000000) (M:Nat->AO) (n:Nat):callD ztI [.rd 2 (pgr l)] M n=some (.sl n 1 2 0 l.length,[(n,.vec 1 2 false (pgr l))]):=by have:=zh6 (ztn h) (by simp [AV.closedV,AV.isClosed]) M n;rwa [show (pgr l).length=l.length by simp [pgr]] at this
theorem zuj {l:List CwP}:∀ e∈pgr l,∀ a∈e,a.plain:=by intro e he a ha;simp only [pgr,List.mem_map] at he;obtain ⟨x,_,rfl⟩:=he;simp at ha;rcases ha with rfl|rfl<;>trivial
def zwW:List AV->Option AV:=spF (ι:={l:List CwP // l.length<=1000000}) (fun x=>[.rd 2 (pgr x.1)]) fun x=>rtO [.rd 2 (pgr x.1)]
theorem zo7 (l:List CwP) (h:l.length<=1000000) (M:Nat->AO) (n:Nat):callD zwW [.rd 2 (pgr l)] M n=some (.rd 2 (pgr l),[]):=by refine zaU (sFe (ι:={l:List CwP // l.length<=1000000}) (A:=fun x=>[.rd 2 (pgr x.1)]) (R:=fun x=>rtO [.rd 2 (pgr x.1)]) ⟨l,h⟩ ?_) (by simp [AV.closedV,AV.isClosed,TbV,U,CwV,MpV,I,B]) (by simp [rtO,oRt,oVs,oVl,oLs,oLf,TbV,U,CwV,MpV,CwO,I,B]);rintro ⟨l',h'⟩ e;simp only [cJ,TbJ,zaJ,zaF,U,I,B,AV.v.injEq,Value.int.injEq,Value.bool.injEq,AV.rd.injEq,irI,zaa,zaE,zaC,true_and,and_true,Int.ofNat_inj] at e;subst e;rfl
def zx0:AX:=zx1.add 79 (caP FzW)
theorem zzJ:XOK prog zx0:=xS zzK (s79 zx1 zzK) func79
def zxZ:AX:=zx0.add 78 (caP zv7)
theorem zzI:XOK prog zxZ:=xS zzJ (s78 zx0 zzJ w0T (fun a b M n=>kzw a b M n)) func78
def zxY:AX:=zxZ.add 206 (caP FzI)
theorem zzH:XOK prog zxY:=xS zzI (zBs zxZ zzI) func206
def zxX:AX:=zxY.add 207 (caP zwT)
theorem zzG:XOK prog zxX:=xS zzH (zBr zxY zzH w0T) func207
def zxW:AX:=zxX.add 162 (caP zwU)
theorem zzF:XOK prog zxW:=xS zzG (zBN zxX zzG w0T (fun a b M n=>kzi a b M n) (fun c h M n=>kzf c h M n)) func162
def zxV:AX:=zxW.add 80 (caP zwS)
theorem zzE:XOK prog zxV:=xS zzF (s80 zxW zzF w0T (fun c h M n=>kzq c h M n)) func80
def zxU:AX:=zxV.add 76 (caP zwV)
theorem zzD:XOK prog zxU:=xS zzE (s76 zxV zzE w0T (fun c s h M n=>kzl c s h M n)) func76
def zxT:AX:=zxU.add 160 (callD zwa)
theorem zzC:XOK prog zxT:=xD zzD (zBP zxU zzD w0T) func160
def zxS:AX:=zxT.add 161 (callD zwb)
theorem zzB:XOK prog zxS:=xD zzC (zBO zxT zzC w0T) func161
def zxR:AX:=zxS.add 198 (caP zqq)
theorem zzA:XOK prog zxR:=xS zzB (zBA zxS zzB w0T) func198 (fun _=>by simp [rtO,AV.flat,AV.flatV,AV.flat1,U])
def zxQ:AX:=zxR.add 157 (caP zqq)
theorem zzz:XOK prog zxQ:=xS zzA (zBS zxR zzA w0T rfl) func157 (fun _=>by simp [rtO,AV.flat,AV.flatV,AV.flat1,U])
def zxP:AX:=zxQ.add 73 (caP FRp)
theorem zzy:XOK prog zxP:=xS zzz (s73 zxQ zzz w0T rfl) func73 (fun _=>zuj)
def NcS:List AV->Option AV:=spF (ι:=Unit) (fun x=>[I 24,I 4]) fun x=>rtO [CwV cwN,I 0]
theorem zyW:PSd prog 17 NcS:=PSd.softF (s17 zxP zzy w0T rfl) fun i=>by simp [RLe,rtO,zbx,zio,zgJ,SLe,TbO,TbV,U,CwO,CwV,MpV]
def zxO:AX:=zxP.add 17 (callD NcS)
theorem zzx:XOK prog zxO:=xD zzy zyW func17
theorem zyX  (h:True) (M:Nat->AO) (n:Nat):callD NcS [I 24,I 4] M n=some (.tup [CwV cwN,I 0],[]):=by refine zaU (sFe (ι:=Unit) (A:=fun x=>[I 24,I 4]) (R:=fun x=>rtO [CwV cwN,I 0]) () ?_) (by simp [AV.closedV,AV.isClosed,TbV,U,CwV,MpV,I,B]) (by simp [rtO,oRt,oVs,oVl,oLs,oLf,TbV,U,CwV,MpV,CwO,I,B]);exact fun _ _=>rfl
def zv3:AX:=zxO.add 82 (caG zmu)
theorem zwk:XOK prog zv3:=xG zzx (s82 zxO zzx w0T) func82
def zn0:AO->Bool
 | .vo _ _ _ _ [_,.rd _ _]=>true
 | _=>false
theorem zbb.iteS {P:Program} {f:FuncId} {g g':List AV->(Nat->AO)->Nat->Option (AV×List (Nat×AO))} {p:(Nat->AO)->Bool} (h:zbb P f g) (h':zbb P f g'):zbb P f (fun avs M n=>if p M=true then g avs M n else g' avs M n):=by
 intro avs M nid av u hc;simp only at hc;split at hc
 ·exact h avs M nid av u hc
 ·exact h' avs M nid av u hc
def zqc (avs:List AV) (M:Nat->AO) (n:Nat):Option (AV×List (Nat×AO)):=if zn0 (M 64)=true then callD ztI avs M n else callD zwW avs M n
theorem zoG {avs:List AV} {M:Nat->AO} {nid:Nat} {r:AV×List (Nat×AO)} (h:zqc avs M nid=some r):∀ b∈r.2.map (·.1),nid<=b∧b<nid+16:=by
 unfold zqc at h;split at h
 ·exact zeV h
 ·exact zeV h
theorem clH:PSd prog 81 ztI:=s81 zv3 zwk w0T
theorem zAL:PSd prog 81 zwW:=PSd.softF (s81 zv3 zwk w0T) fun i=>by simp [RLe,rtO,zbx,zio,zgJ,SLe,TbO,TbV,U,CwO,CwV,MpV]
def ShM:AX:=zv3.add 81 zqc
theorem zBb:XOK prog ShM:=zb6 zwk (.inl ⟨zbb.iteS (p:=fun M=>zn0 (M 64)) (PSd.callD clH) (PSd.callD zAL),boK _ func81 (by kernel_rfl)⟩) fun _ _ _ _ h b hb=>zoG h b hb
theorem owX:OwX ShM 64 where
 s:=fun l h M n=>kzS l h M n
 f:=fun l h M n=>kzR l h M n
 p0:=fun l h M n v s f xs e=>by show zqc _ _ _=_;unfold zqc;rw [e,if_neg (by simp [zn0])];exact zo7 l h M n
 p1:=fun l h M n v s xs k b r e=>by show zqc _ _ _=_;unfold zqc;rw [e,if_pos (show zn0 (.vo v s xs k [B b,.rd 2 r])=true from rfl)];exact kzP l h M n
 p2:=fun l h M n v s xs k b c w m o q e=>by show zqc _ _ _=_;unfold zqc;rw [e,if_neg (by simp [zn0])];exact zo7 l h M n
theorem zCg (k:Nat):GSd prog 77 (zup k):=s77 k ShM zBb w0T owX
def zxM:AX:=zv3.add 81 (callD zwW)
theorem zzw:XOK prog zxM:=xD zwk zAL func81
def ShK (k:Nat):AX:=zxM.add 77 (cOw k)
theorem shK (k:Nat):XOK prog (ShK k):=zb6 zzw (.inl ⟨zbb.weakenS (zCg k).caG fun _ _ _ _ h=>zvH h,boK _ func77 (by kernel_rfl)⟩) fun _ _ _ _ h b hb=>zqb h b hb
theorem zwn (k:Nat):OpX (ShK k) k:=⟨shK k,w0T,fun c s p h M n=>kza c s p h M n,fun c s h M n=>kzl c s h M n,fun c h hk M n=>rfl,rfl,rfl,fun l h M n=>zo7 l h M n⟩
theorem PSd.unionS {P:Program} {f:FuncId} {ι:Type} {A:ι->List AV} {R:ι->AV} (h:∀ i,∃ F,PSd P f F∧F (A i)=some (R i)):PSd P f (spF A R):=by intro w G args avs r hr;obtain ⟨i,e1,e2⟩:=zeJ hr;obtain ⟨F,hF,e⟩:=h i;exact hF w G args avs r (by rw [<- e1,<- e2];exact e)
theorem zrg {c:Cw} {s p:Int} (h:atC c s p=0):s=((s.toNat:Nat):Int):=by obtain ⟨a1,_,_⟩:=zoN h;obtain ⟨b1,b2,b3⟩:=zgC a1;omega
theorem zqP {c:Cw} {s:Int} (h:liC c s=0):s=((s.toNat:Nat):Int):=by obtain ⟨b1,b2,b3⟩:=zgC h;omega
noncomputable abbrev zAR:AX:=zxM
theorem zBg:XOK prog zAR:=zzw
theorem zy6:PSd prog 20 (spF (ι:={x:Cw×Int×Int×Int // zk x.1}) (fun x=>[CwV x.1.1,I x.1.2.1,I x.1.2.2.1,I x.1.2.2.2]) fun x=>rtO [CwO (wrR x.1.1 x.1.2.1 x.1.2.2.1 x.1.2.2.2).1,I (wrR x.1.1 x.1.2.1 x.1.2.2.1 x.1.2.2.2).2]):=PSd.unionS fun ⟨⟨c,s,p,w⟩,h⟩=>⟨FWr s.toNat,s20 s.toNat (ShK s.toNat) (zwn s.toNat),by refine sFe (ι:={x:Cw×Int×Int×Int // zk x.1∧(atC x.1 x.2.1 x.2.2.1=0->x.2.1=((s.toNat:Nat):Int))}) (A:=fun x=>[CwV x.1.1,I x.1.2.1,I x.1.2.2.1,I x.1.2.2.2]) (R:=fun x=>rtO [CwO (wrR x.1.1 x.1.2.1 x.1.2.2.1 x.1.2.2.2).1,I (wrR x.1.1 x.1.2.1 x.1.2.2.1 x.1.2.2.2).2]) ⟨(c,s,p,w),h,fun h0=>zrg h0⟩ ?_;rintro ⟨⟨c',s',p',w'⟩,h'⟩ e;simp only [cJ,TbJ,zaJ,zaF,U,I,B,AV.v.injEq,Value.int.injEq,Value.bool.injEq,AV.rd.injEq,irI,zaa,zaE,zaC,true_and,and_true,Int.ofNat_inj] at e;obtain ⟨rfl,rfl,rfl,rfl⟩:=e;rfl⟩
def CwW:List AV->Option AV:=spF (ι:={x:Cw×Int×Int×Int // zk x.1}) (fun x=>[CwV x.1.1,I x.1.2.1,I x.1.2.2.1,I x.1.2.2.2]) fun x=>rtO [CwV (wrR x.1.1 x.1.2.1 x.1.2.2.1 x.1.2.2.2).1,I (wrR x.1.1 x.1.2.1 x.1.2.2.1 x.1.2.2.2).2]
theorem zy5:PSd prog 20 CwW:=PSd.softF zy6 fun i=>by simp [RLe,rtO,zbx,zio,zgJ,SLe,TbO,TbV,U,CwO,CwV,MpV]
def zAQ:AX:=zAR.add 20 (callD CwW)
theorem zBf:XOK prog zAQ:=xD zBg zy5 func20
theorem zy7 (c:Cw) (s p w:Int) (h:zk c) (M:Nat->AO) (n:Nat):callD CwW [CwV c,I s,I p,I w] M n=some (.tup [CwV (wrR c s p w).1,I (wrR c s p w).2],[]):=by refine zaU (sFe (ι:={x:Cw×Int×Int×Int // zk x.1}) (A:=fun x=>[CwV x.1.1,I x.1.2.1,I x.1.2.2.1,I x.1.2.2.2]) (R:=fun x=>rtO [CwV (wrR x.1.1 x.1.2.1 x.1.2.2.1 x.1.2.2.2).1,I (wrR x.1.1 x.1.2.1 x.1.2.2.1 x.1.2.2.2).2]) ⟨(c,s,p,w),h⟩ ?_) (by simp [AV.closedV,AV.isClosed,TbV,U,CwV,MpV,I,B]) (by simp [rtO,oRt,oVs,oVl,oLs,oLf,TbV,U,CwV,MpV,CwO,I,B]);rintro ⟨⟨c',s',p',w'⟩,h'⟩ e;simp only [cJ,TbJ,zaJ,zaF,U,I,B,AV.v.injEq,Value.int.injEq,Value.bool.injEq,AV.rd.injEq,irI,zaa,zaE,zaC,true_and,and_true,Int.ofNat_inj] at e;obtain ⟨rfl,rfl,rfl,rfl⟩:=e;rfl
theorem zzc:PSd prog 21 (spF (ι:={x:Cw×Int // zk x.1}) (fun x=>[CwV x.1.1,I x.1.2]) fun x=>rtO [CwO (fkR x.1.1 x.1.2).1,I (fkR x.1.1 x.1.2).2.1,I (fkR x.1.1 x.1.2).2.2]):=PSd.unionS fun ⟨⟨c,s⟩,h⟩=>⟨FFk s.toNat,s21 s.toNat (ShK s.toNat) (zwn s.toNat),by refine sFe (ι:={x:Cw×Int // zk x.1∧(liC x.1 x.2=0->x.2=((s.toNat:Nat):Int))}) (A:=fun x=>[CwV x.1.1,I x.1.2]) (R:=fun x=>rtO [CwO (fkR x.1.1 x.1.2).1,I (fkR x.1.1 x.1.2).2.1,I (fkR x.1.1 x.1.2).2.2]) ⟨(c,s),h,fun h0=>zqP h0⟩ ?_;rintro ⟨⟨c',s'⟩,h'⟩ e;simp only [cJ,TbJ,zaJ,zaF,U,I,B,AV.v.injEq,Value.int.injEq,Value.bool.injEq,AV.rd.injEq,irI,zaa,zaE,zaC,true_and,and_true,Int.ofNat_inj] at e;obtain ⟨rfl,rfl⟩:=e;rfl⟩
def CwK:List AV->Option AV:=spF (ι:={x:Cw×Int // zk x.1}) (fun x=>[CwV x.1.1,I x.1.2]) fun x=>rtO [CwV (fkR x.1.1 x.1.2).1,I (fkR x.1.1 x.1.2).2.1,I (fkR x.1.1 x.1.2).2.2]
theorem zzb:PSd prog 21 CwK:=PSd.softF zzc fun i=>by simp [RLe,rtO,zbx,zio,zgJ,SLe,TbO,TbV,U,CwO,CwV,MpV]
def zAP:AX:=zAQ.add 21 (callD CwK)
theorem zBe:XOK prog zAP:=xD zBf zzb func21
theorem zzd (c:Cw) (s:Int) (h:zk c) (M:Nat->AO) (n:Nat):callD CwK [CwV c,I s] M n=some (.tup [CwV (fkR c s).1,I (fkR c s).2.1,I (fkR c s).2.2],[]):=by refine zaU (sFe (ι:={x:Cw×Int // zk x.1}) (A:=fun x=>[CwV x.1.1,I x.1.2]) (R:=fun x=>rtO [CwV (fkR x.1.1 x.1.2).1,I (fkR x.1.1 x.1.2).2.1,I (fkR x.1.1 x.1.2).2.2]) ⟨(c,s),h⟩ ?_) (by simp [AV.closedV,AV.isClosed,TbV,U,CwV,MpV,I,B]) (by simp [rtO,oRt,oVs,oVl,oLs,oLf,TbV,U,CwV,MpV,CwO,I,B]);rintro ⟨⟨c',s'⟩,h'⟩ e;simp only [cJ,TbJ,zaJ,zaF,U,I,B,AV.v.injEq,Value.int.injEq,Value.bool.injEq,AV.rd.injEq,irI,zaa,zaE,zaC,true_and,and_true,Int.ofNat_inj] at e;obtain ⟨rfl,rfl⟩:=e;rfl
theorem zy9:PSd prog 22 (spF (ι:={x:Cw×Int×Int // zk x.1}) (fun x=>[CwV x.1.1,I x.1.2.1,I x.1.2.2]) fun x=>rtO [CwO (unR x.1.1 x.1.2.1 x.1.2.2).1,I (unR x.1.1 x.1.2.1 x.1.2.2).2]):=PSd.unionS fun ⟨⟨c,s,p⟩,h⟩=>⟨FUn s.toNat,s22 s.toNat (ShK s.toNat) (zwn s.toNat),by refine sFe (ι:={x:Cw×Int×Int // zk x.1∧(atC x.1 x.2.1 x.2.2=0->x.2.1=((s.toNat:Nat):Int))}) (A:=fun x=>[CwV x.1.1,I x.1.2.1,I x.1.2.2]) (R:=fun x=>rtO [CwO (unR x.1.1 x.1.2.1 x.1.2.2).1,I (unR x.1.1 x.1.2.1 x.1.2.2).2]) ⟨(c,s,p),h,fun h0=>zrg h0⟩ ?_;rintro ⟨⟨c',s',p'⟩,h'⟩ e;simp only [cJ,TbJ,zaJ,zaF,U,I,B,AV.v.injEq,Value.int.injEq,Value.bool.injEq,AV.rd.injEq,irI,zaa,zaE,zaC,true_and,and_true,Int.ofNat_inj] at e;obtain ⟨rfl,rfl,rfl⟩:=e;rfl⟩
def CwU:List AV->Option AV:=spF (ι:={x:Cw×Int×Int // zk x.1}) (fun x=>[CwV x.1.1,I x.1.2.1,I x.1.2.2]) fun x=>rtO [CwV (unR x.1.1 x.1.2.1 x.1.2.2).1,I (unR x.1.1 x.1.2.1 x.1.2.2).2]
theorem zy8:PSd prog 22 CwU:=PSd.softF zy9 fun i=>by simp [RLe,rtO,zbx,zio,zgJ,SLe,TbO,TbV,U,CwO,CwV,MpV]
def zAO:AX:=zAP.add 22 (callD CwU)
theorem zBd:XOK prog zAO:=xD zBe zy8 func22
theorem zza (c:Cw) (s p:Int) (h:zk c) (M:Nat->AO) (n:Nat):callD CwU [CwV c,I s,I p] M n=some (.tup [CwV (unR c s p).1,I (unR c s p).2],[]):=by refine zaU (sFe (ι:={x:Cw×Int×Int // zk x.1}) (A:=fun x=>[CwV x.1.1,I x.1.2.1,I x.1.2.2]) (R:=fun x=>rtO [CwV (unR x.1.1 x.1.2.1 x.1.2.2).1,I (unR x.1.1 x.1.2.1 x.1.2.2).2]) ⟨(c,s,p),h⟩ ?_) (by simp [AV.closedV,AV.isClosed,TbV,U,CwV,MpV,I,B]) (by simp [rtO,oRt,oVs,oVl,oLs,oLf,TbV,U,CwV,MpV,CwO,I,B]);rintro ⟨⟨c',s',p'⟩,h'⟩ e;simp only [cJ,TbJ,zaJ,zaF,U,I,B,AV.v.injEq,Value.int.injEq,Value.bool.injEq,AV.rd.injEq,irI,zaa,zaE,zaC,true_and,and_true,Int.ofNat_inj] at e;obtain ⟨rfl,rfl,rfl⟩:=e;rfl
theorem zzf:PSd prog 23 (spF (ι:={x:Cw×Int // zk x.1}) (fun x=>[CwV x.1.1,I x.1.2]) fun x=>rtO [CwO (exR x.1.1 x.1.2).1,I (exR x.1.1 x.1.2).2]):=PSd.unionS fun ⟨⟨c,s⟩,h⟩=>⟨FEx s.toNat,s23 s.toNat (ShK s.toNat) (zwn s.toNat),by refine sFe (ι:={x:Cw×Int // zk x.1∧(liC x.1 x.2=0->x.2=((s.toNat:Nat):Int))}) (A:=fun x=>[CwV x.1.1,I x.1.2]) (R:=fun x=>rtO [CwO (exR x.1.1 x.1.2).1,I (exR x.1.1 x.1.2).2]) ⟨(c,s),h,fun h0=>zqP h0⟩ ?_;rintro ⟨⟨c',s'⟩,h'⟩ e;simp only [cJ,TbJ,zaJ,zaF,U,I,B,AV.v.injEq,Value.int.injEq,Value.bool.injEq,AV.rd.injEq,irI,zaa,zaE,zaC,true_and,and_true,Int.ofNat_inj] at e;obtain ⟨rfl,rfl⟩:=e;rfl⟩
def CwE:List AV->Option AV:=spF (ι:={x:Cw×Int // zk x.1}) (fun x=>[CwV x.1.1,I x.1.2]) fun x=>rtO [CwV (exR x.1.1 x.1.2).1,I (exR x.1.1 x.1.2).2]
theorem zze:PSd prog 23 CwE:=PSd.softF zzf fun i=>by simp [RLe,rtO,zbx,zio,zgJ,SLe,TbO,TbV,U,CwO,CwV,MpV]
def zxN:AX:=zAO.add 23 (callD CwE)
theorem zBc:XOK prog zxN:=xD zBd zze func23
theorem zzg (c:Cw) (s:Int) (h:zk c) (M:Nat->AO) (n:Nat):callD CwE [CwV c,I s] M n=some (.tup [CwV (exR c s).1,I (exR c s).2],[]):=by refine zaU (sFe (ι:={x:Cw×Int // zk x.1}) (A:=fun x=>[CwV x.1.1,I x.1.2]) (R:=fun x=>rtO [CwV (exR x.1.1 x.1.2).1,I (exR x.1.1 x.1.2).2]) ⟨(c,s),h⟩ ?_) (by simp [AV.closedV,AV.isClosed,TbV,U,CwV,MpV,I,B]) (by simp [rtO,oRt,oVs,oVl,oLs,oLf,TbV,U,CwV,MpV,CwO,I,B]);rintro ⟨⟨c',s'⟩,h'⟩ e;simp only [cJ,TbJ,zaJ,zaF,U,I,B,AV.v.injEq,Value.int.injEq,Value.bool.injEq,AV.rd.injEq,irI,zaa,zaE,zaC,true_and,and_true,Int.ofNat_inj] at e;obtain ⟨rfl,rfl⟩:=e;rfl
theorem zCk:ztH zxN:=⟨⟨zBc,w0T,rfl,rfl,rfl⟩,fun M n=>zyX trivial M n,rfl,fun M n=>kzb M n,fun c s p w h M n=>zy7 c s p w h M n,fun c s h M n=>zzd c s h M n,fun c s p h M n=>zza c s p h M n,fun c s h M n=>zzg c s h M n,rfl,rfl,rfl⟩
theorem shared':PSd prog 4 (spF (ι:=List Mo) (fun x=>[.rd 4 (zcK x)]) fun _=>rtO [B true]):=s4 zxN zCk
theorem zng:∀ {xs:List (List AV)},(∀ e∈xs,FitL [shI,shI,shI,shI] e)->∃ l,xs=zcK l
 | [],_=>⟨[],rfl⟩
 | e::r,h=>by obtain ⟨l,rfl⟩:=zng (xs:=r) fun e' he=>h e' (by simp [he]);obtain ⟨a,ar,rfl,ha,hr⟩:=zgb (h e (by simp));obtain ⟨b,br,rfl,hb,hr2⟩:=zgb hr;obtain ⟨c,cr,rfl,hcz,hr3⟩:=zgb hr2;obtain ⟨d,rfl,hd⟩:=zly hr3;obtain ⟨x,rfl,_⟩:=zhY ha;obtain ⟨y,rfl,_⟩:=zhY hb;obtain ⟨z,rfl,_⟩:=zhY hcz;obtain ⟨w,rfl,_⟩:=zhY hd;exact ⟨(x,y,z,w)::l,rfl⟩
theorem zqg {a:AV} (h:zo2 prog 32 a):∃ l,a=.rd 4 (zcK l):=by have:=zsR (show za8 prog 10 32=some [.sl [shI,shI,shI,shI]] by kernel_rfl) (fun fs=>by simp [Tryz.underlying32]) (fun n e=>by simp [Tryz.underlying32]) h;simp only [Fit] at this;obtain ⟨xs,rfl,_,hx⟩:=this;obtain ⟨l,rfl⟩:=zng hx;exact ⟨l,rfl⟩
theorem mops_F (avs:List AV) (h:zcb prog [32] avs):spF (ι:=List Mo) (fun x=>[.rd 4 (zcK x)]) (fun _=>rtO [B true]) avs=some (B true):=by
 match avs,h with
 | [a],h =>
  simp only [zcb] at h;obtain ⟨l,rfl⟩:=zqg h.1;exact sFe (A:=fun x:List Mo=>[.rd 4 (zcK x)]) (R:=fun _=>rtO [B true]) l fun _ _=>rfl
 | [],h=>simp [zcb] at h
 | _::_::_,h=>simp [zcb] at h
end
end Go.AM
