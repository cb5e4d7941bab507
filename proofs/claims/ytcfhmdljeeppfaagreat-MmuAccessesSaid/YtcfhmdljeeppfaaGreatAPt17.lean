/- A part of the proof: what functions of the program compute, by abstract execution of their code. Its theorems hold without further condition. -/
import Derived.Test.YtcfhmdljeeppfaaGreatAPtV
set_option linter.all false
namespace Go.AM
open Go Go.Proofs
@[simp] theorem tyFn:Types Tryz.prog 134=some ⟨.func,1,8,[.nilFunc]⟩:=by kernel_rfl
@[simp] theorem one_nilFunc:(Value.nilFunc).oneCell'=true:=rfl
def okWb (l w:Nat):Bool:=decide ((decR w).2=0)&&suitB (decR w).1 l
def tabW (w:Nat):Option Int:=if (decR w).1.1=4 then some (decR w).1.2.1 else none
def hugW (w:Nat):Bool:=decide ((decR w).1.1=1)&&(decR w).1.2.2.2.2.2
def WD (adm:Int→Bool):Wd:=⟨okWb,tabW,hugW,adm⟩
abbrev WA:Wd:=WD fun _=>true
theorem WD_ok (adm:Int→Bool):WdOK (WD adm) where
 flat:=fun w h=>by
  simp only [WD,okWb,Bool.and_eq_true] at h
  simp only [WD,tabW]
  rw [if_neg]
  intro e
  have:=h.2
  simp [suitB,e] at this
 one:=fun l w h h2=>by
  simp only [WD,okWb,Bool.and_eq_true] at h
  simp only [WD,hugW,Bool.and_eq_true,decide_eq_true_eq] at h2
  have:=h.2
  simp only [suitB,h2.1,h2.2] at this
  simp at this
  omega
 notab:=fun w h=>by
  simp only [WD,hugW,Bool.and_eq_true,decide_eq_true_eq] at h
  simp only [WD,tabW]
  rw [if_neg (by rw [h.1];decide)]
section
variable {D:Wd} {ns:NdL} {rc:Nat→Nat→WSt→Bool×WSt} {l n first k i:Nat} {st:WSt}
theorem wkF_bad (h:D.ok l (wd ns n i)=false):wkF D ns rc l n first (k+1) i st=(false,st):=by simp [wkF,h]
theorem wkF_adm (h:D.ok l (wd ns n i)=true) (h2:D.hug (wd ns n i)=true) (h3:D.adm (((first+i*8^l)/8:Nat):Int)=false):wkF D ns rc l n first (k+1) i st=(false,st):=by simp only [wkF,h];rw [if_neg (by simp),if_pos ⟨h2,h3⟩]
theorem wkF_hug (h:D.ok l (wd ns n i)=true) (h2:D.hug (wd ns n i)=true) (h3:D.adm (((first+i*8^l)/8:Nat):Int)=true) (h4:D.tab (wd ns n i)=none):wkF D ns rc l n first (k+1) i st=wkF D ns rc l n first k (i+1) (st.1,st.2++[(((first+i*8^l)/8:Nat):Int)]):=by
 simp only [wkF,h]
 rw [if_neg (by simp),if_neg (by rw [h3];simp),h4,if_pos h2]
theorem wkF_pl (h:D.ok l (wd ns n i)=true) (h2:D.hug (wd ns n i)=false) (h4:D.tab (wd ns n i)=none):wkF D ns rc l n first (k+1) i st=wkF D ns rc l n first k (i+1) st:=by
 simp only [wkF,h]
 rw [if_neg (by simp),if_neg (by rw [h2];simp),h4,if_neg (by rw [h2];simp)]
theorem wkF_lost {g:Int} (h:D.ok l (wd ns n i)=true) (h2:D.hug (wd ns n i)=false) (h4:D.tab (wd ns n i)=some g) (h5:fnd ns g=none):wkF D ns rc l n first (k+1) i st=(false,st):=by
 simp only [wkF,h]
 rw [if_neg (by simp),if_neg (by rw [h2];simp),h4,if_neg (by rw [h2];simp)]
 simp only [h5]
theorem wkF_rec {g:Int} {nx:Nat} (h:D.ok l (wd ns n i)=true) (h2:D.hug (wd ns n i)=false) (h4:D.tab (wd ns n i)=some g) (h5:fnd ns g=some nx):wkF D ns rc l n first (k+1) i st=if (rc nx (first+i*8^l) st).1=true then wkF D ns rc l n first k (i+1) (rc nx (first+i*8^l) st).2 else (false,(rc nx (first+i*8^l) st).2):=by
 simp only [wkF,h]
 rw [if_neg (by simp),if_neg (by rw [h2];simp),h4,if_neg (by rw [h2];simp)]
 simp only [h5]
def Adds (rc:Nat→Nat→WSt→Bool×WSt) (b:Nat):Prop:=∀ n f st,(rc n f st).2.1.length=st.1.length∧st.2.length≤(rc n f st).2.2.length∧(rc n f st).2.2.length≤st.2.length+b
theorem wkF_adds {b:Nat} (hrc:Adds rc b):∀ (k i:Nat) (st:WSt),(wkF D ns rc l n first k i st).2.1.length=st.1.length∧st.2.length≤(wkF D ns rc l n first k i st).2.2.length∧(wkF D ns rc l n first k i st).2.2.length≤st.2.length+k*(1+b)
 | 0,i,st=>by simp [wkF]
 | k+1,i,st=>by
  have hm:(k+1)*(1+b)=k*(1+b)+(1+b):=by rw [Nat.add_mul];omega
  rw [hm]
  cases h:D.ok l (wd ns n i) with
  | false=>rw [wkF_bad h];exact ⟨rfl,Nat.le_refl _,by simp only;omega⟩
  | true =>
   cases h2:D.hug (wd ns n i) with
   | true =>
    cases h3:D.adm (((first+i*8^l)/8:Nat):Int) with
    | false=>rw [wkF_adm h h2 h3];exact ⟨rfl,Nat.le_refl _,by simp only;omega⟩
    | true =>
     simp only [wkF,h,h2,h3]
     simp only [Bool.true_eq_false,if_false,and_false,if_true]
     cases h4:D.tab (wd ns n i) with
     | none =>
      simp only
      have:=wkF_adds hrc k (i+1) (st.1,st.2++[(((first+i*8^l)/8:Nat):Int)])
      simp only [List.length_append,List.length_singleton] at this
      refine ⟨this.1,by omega,by omega⟩
     | some g =>
      simp only
      cases h5:fnd ns g with
      | none=>simp;omega
      | some nx =>
       simp only
       obtain ⟨R,hR⟩:∃ R,R=rc nx (first+i*8^l) (st.1,st.2++[(((first+i*8^l)/8:Nat):Int)]):=⟨_,rfl⟩
       have h6:=hrc nx (first+i*8^l) (st.1,st.2++[(((first+i*8^l)/8:Nat):Int)])
       rw [← hR] at h6 ⊢
       simp only [List.length_append,List.length_singleton] at h6
       split
       ·have:=wkF_adds hrc k (i+1) R.2
        refine ⟨by omega,by omega,by omega⟩
       ·simp only
        refine ⟨by omega,by omega,by omega⟩
   | false =>
    cases h4:D.tab (wd ns n i) with
    | none =>
     rw [wkF_pl h h2 h4]
     have:=wkF_adds hrc k (i+1) st
     refine ⟨this.1,by omega,by omega⟩
    | some g =>
     cases h5:fnd ns g with
     | none=>rw [wkF_lost h h2 h4 h5];exact ⟨rfl,Nat.le_refl _,by simp only;omega⟩
     | some nx =>
      rw [wkF_rec h h2 h4 h5]
      obtain ⟨R,hR⟩:∃ R,R=rc nx (first+i*8^l) st:=⟨_,rfl⟩
      have h6:=hrc nx (first+i*8^l) st
      rw [← hR] at h6 ⊢
      split
      ·have:=wkF_adds hrc k (i+1) R.2
       refine ⟨by omega,by omega,by omega⟩
      ·simp only
       refine ⟨by omega,by omega,by omega⟩
end
def addsB:Nat→Nat
 | 0=>8
 | l+1=>8*(1+addsB l)
theorem wk_adds {D:Wd} {ns:NdL}:∀ {l:Nat},Adds (wk D ns l) (addsB l)
 | 0=>fun n f st=>by
  simp only [wk]
  split
  ·exact ⟨rfl,Nat.le_refl _,by simp only;omega⟩
  ·have:=wkF_adds (D:=D) (ns:=ns) (l:=0) (n:=n) (first:=f) (rc:=fun _ _ st=>(false,st)) (b:=0) (fun _ _ st=>by simp) 8 0 (st.1.set n true,st.2)
   simp only [List.length_set] at this
   simp only [addsB]
   exact this
 | l+1=>fun n f st=>by
  simp only [wk]
  split
  ·exact ⟨rfl,Nat.le_refl _,by simp only;omega⟩
  ·have:=wkF_adds (D:=D) (ns:=ns) (l:=l+1) (n:=n) (first:=f) (wk_adds (D:=D) (ns:=ns) (l:=l)) 8 0 (st.1.set n true,st.2)
   simp only [List.length_set] at this
   simp only [addsB]
   exact this
def brows (l:List Bool):List (List AV):=l.map fun b=>[B b]
@[simp] theorem brows_length (l:List Bool):(brows l).length=l.length:=by simp [brows]
theorem brows_gi {l:List Bool} {n:Nat} (h:n<l.length):(brows l)[n]?=some [B (l.getD n false)]:=by
 simp [brows,h,List.getD_eq_getElem?_getD]
theorem brows_gE {l:List Bool} {n:Nat} (h:n<l.length):∀ h',(brows l)[n]'(h')=[B (l.getD n false)]:=fun h'=>by
 have hg:=brows_gi h
 rw [List.getElem?_eq_getElem h'] at hg
 exact Option.some.inj hg
theorem brows_set {l:List Bool} {n:Nat} {b:Bool}:(brows l).set n [B b]=brows (l.set n b):=by simp [brows,List.map_set]
theorem brows_inj {a b:List Bool}:brows a=brows b↔a=b:=by
 constructor
 ·intro h
  refine List.map_inj_right (f:=fun b:Bool=>[B b]) (fun x y e=>?_) |>.1 h
  simpa [B] using e
 ·rintro rfl;rfl
abbrev CkD:=Tb×Nat×Nat×List Bool×List Int
def ckA (l:Nat) (x:CkD):List AV:=[I x.2.1,I l,I x.2.2.1,.bp 0 0,.bp 2 0,.bp 3 0,.bp 5 0,.bp 7 0]
def ckM (t:Tb) (led:List Bool) (hs:List Int) (v:Nat):List AO:=[.box [.sl 1 1 1 0 led.length],.vec 1 1 false (brows led),.box [I t.1,.rd 9 (nrows t.2.1),.rd 2 (prows t.2.2)],.box [.sl 4 v 1 0 hs.length],.vec v 1 false (irows hs),.box [.mp 6 1],.map 1 1 (idxE t.2.1 t.2.1.length),.box [.fn 116 [.bp 0 0,.bp 2 0,.bp 3 0,.bp 5 0,.bp 7 0]]]
def ckR (l:Nat) (x:CkD):Bool×WSt:=wk WA x.1.2.1 l x.2.1 x.2.2.1 (x.2.2.2.1,x.2.2.2.2)
def ckF:Nat→Nat
 | 2=>100|1=>600|_=>700
def ckH:Nat→Nat
 | 2=>100|1=>1000|_=>2000
def ckOK (l:Nat) (x:CkD):Prop:=tbOK x.1∧ascN x.1.2.1∧x.2.1<x.1.2.1.length∧x.2.2.1≤ckF l∧x.2.2.2.1.length=x.1.2.1.length∧x.2.2.2.2.length≤ckH l
noncomputable def ckS (l:Nat):List AV→List AO→Option (AV×List AO):=specG (ι:={x:CkD // ckOK l x}) (fun x=>ckA l x.1) (fun x=>ckM x.1.1 x.1.2.2.2.1 x.1.2.2.2.2 1) (fun x=>retOf [B (ckR l x.1).1]) fun x=>ckM x.1.1 (ckR l x.1).2.1 (ckR l x.1).2.2 (1+((ckR l x.1).2.2.length - x.1.2.2.2.2.length))
theorem ckS_at {l:Nat} {x:CkD} (h:ckOK l x):ckS l (ckA l x) (ckM x.1 x.2.2.2.1 x.2.2.2.2 1)=some (B (ckR l x).1,ckM x.1 (ckR l x).2.1 (ckR l x).2.2 (1+((ckR l x).2.2.length - x.2.2.2.2.length))):=by
 refine specG_eq (ι:={x:CkD // ckOK l x}) (A:=fun x=>ckA l x.1) (M:=fun x=>ckM x.1.1 x.1.2.2.2.1 x.1.2.2.2.2 1) (R:=fun x=>retOf [B (ckR l x.1).1]) ⟨x,h⟩ fun j hA hM=>?_
 obtain ⟨⟨⟨r,ns,ds⟩,n,f,led,hs⟩,hj⟩:=j
 obtain ⟨⟨r',ns',ds'⟩,n',f',led',hs'⟩:=x
 simp only [ckA,ckM,I,List.cons.injEq,AV.v.injEq,Value.int.injEq,true_and,and_true,AO.box.injEq,AO.vec.injEq,AV.rd.injEq,brows_inj,irows_inj,nrows_inj,prows_inj,AO.map.injEq] at hA hM
 obtain ⟨e1,e2⟩:=hA
 have e1:n=n':=by omega
 have e2:f=f':=by omega
 subst e1 e2
 obtain ⟨_,rfl,⟨rfl,rfl,rfl⟩,_,rfl,_⟩:=hM
 exact ⟨rfl,rfl⟩
end Go.AM
namespace Go.AM
open Go Go.Proofs
set_option maxHeartbeats 2000000 in
set_option maxRecDepth 4000 in
theorem callCk {l:Nat} {t:Tb} {n f:Nat} {led:List Bool} {hs:List Int} (h:ckOK l (t,n,f,led,hs)) {v:Nat} (hv:1≤v) {fl1 fl2:Bool} (M:Nat→AO) (nid:Nat)
  (h0:M 0=.box [.sl 1 1 1 0 led.length]) (h1:M 1=.vec 1 1 fl1 (brows led)) (h2:M 2=.box [I t.1,.rd 9 (nrows t.2.1),.rd 2 (prows t.2.2)]) (h3:M 3=.box [.sl 4 v 1 0 hs.length]) (h4:M 4=.vec v 1 fl2 (irows hs)) (h5:M 5=.box [.mp 6 1]) (h6:M 6=.map 1 1 (idxE t.2.1 t.2.1.length)) (h7:M 7=.box [.fn 116 [.bp 0 0,.bp 2 0,.bp 3 0,.bp 5 0,.bp 7 0]]) :
  callG (ckS l) [I n,I l,I f,.bp 0 0,.bp 2 0,.bp 3 0,.bp 5 0,.bp 7 0] M nid=some (B (ckR l (t,n,f,led,hs)).1,[(0,.box [.sl 1 1 1 0 (ckR l (t,n,f,led,hs)).2.1.length]),(1,.vec 1 1 false (brows (ckR l (t,n,f,led,hs)).2.1)),(2,.box [I t.1,.rd 9 (nrows t.2.1),.rd 2 (prows t.2.2)]),(3,.box [.sl 4 (v+((ckR l (t,n,f,led,hs)).2.2.length - hs.length)) 1 0 (ckR l (t,n,f,led,hs)).2.2.length]),(4,.vec (v+((ckR l (t,n,f,led,hs)).2.2.length - hs.length)) 1 false (irows (ckR l (t,n,f,led,hs)).2.2)),(5,.box [.mp 6 1]),(6,.map 1 1 (idxE t.2.1 t.2.1.length)),(7,.box [.fn 116 [.bp 0 0,.bp 2 0,.bp 3 0,.bp 5 0,.bp 7 0]])]):=by
 have hF:=ckS_at h
 simp only [ckA,ckM] at hF
 obtain ⟨R,hR⟩:∃ R,R=ckR l (t,n,f,led,hs):=⟨_,rfl⟩
 rw [← hR] at hF ⊢
 have hvv:1+(R.2.2.length - hs.length)+(v - 1)=v+(R.2.2.length - hs.length):=by omega
 have hv0:¬ v=0:=by omega
 unfold callG
 have hg:gat M 64 (nmsL [I n,I l,I f,.bp 0 0,.bp 2 0,.bp 3 0,.bp 5 0,.bp 7 0]) []=[0,1,2,3,4,5,6,7]:=by
  simp [gat,nmsL,AV.nms,AO.nms,h0,h1,h2,h3,h4,h5,h6,h7]
 simp only [hg]
 rw [if_pos ?cg]
 case cg=>simp [CallG,nmsL,AV.nms,AO.nms,Led,curBL,AV.curB,AO.curB,verOf,notDead,h0,h1,h2,h3,h4,h5,h6,h7]
 simp [renL,AV.ren,AO.ren,posN,canO,nmsL,h0,h1,h2,h3,h4,h5,h6,h7,hF,RetG,getL,AV.nms,AO.nms,updN,nmN,shN,verOf,hvv,rng,Led]
end Go.AM
namespace Go.AM
open Go Go.Proofs
theorem wd_lt {t:Tb} (ht:tbOK t) {n i:Nat} (hn:n<t.2.1.length):wd t.2.1 n i<2^64:=by
 unfold wd
 have h:=(ht.1 _ (gn_mem hn)).2
 rw [gn_getD] at h
 rw [List.getD_eq_getElem?_getD]
 cases hg:(t.2.1.getD n (0,[])).2[i]? with
 | none=>simp
 | some w=>simp only [Option.getD_some];exact h w (List.mem_of_getElem? hg)
theorem wcs_gi {l:List Nat} {i:Nat} (h:i<l.length):(wcs l)[i]?=some (U (l.getD i 0:Nat)):=by
 simp [wcs,h,List.getD_eq_getElem?_getD]
theorem wcs_gE {l:List Nat} {i:Nat} (h:i<l.length):∀ h',(wcs l)[i]'(h')=U (l.getD i 0:Nat):=fun h'=>by
 have hg:=wcs_gi h
 rw [List.getElem?_eq_getElem h'] at hg
 exact Option.some.inj hg
set_option maxHeartbeats 8000000 in
theorem s116_0 (X:AX) (hX:XOK Tryz.prog X) (hw:X.W wT) (hd:∀ n:Nat,n<2^64→∀ M k,X.call 56 [U n] M k=some (.tup [EnV (decR n).1,I (decR n).2],[]))
  (hsu:∀ (e:En) (l:Nat) M n,X.call 117 [EnV e,I l] M n=some (B (suitB e l),[])):GSound Tryz.prog 116 (ckS 0):=by
 unfold ckS
 refine gsound_spec Tryz.func116 rfl X fun ⟨⟨⟨r,ns,ds⟩,n,first,led,hs⟩,hx⟩ w0 L E=>⟨by show 8≤96;decide,?_⟩
 obtain ⟨ht,ha,hn,hf,hled,hhs⟩:=hx
 simp only [ckF,ckH] at ht ha hn hf hled hhs
 show AW ⟨Tryz.prog,X,96,w0,⟨L,E,8⟩⟩ _ _ _
 have hc:Cx.OK ⟨Tryz.prog,X,96,w0,⟨L,E,8⟩⟩:=⟨hX,mixed⟩
 have hl1:ns.length≤1000000:=ht.2.1
 obtain ⟨R,hR⟩:∃ R,R=ckR 0 ((r,ns,ds),n,first,led,hs):=⟨_,rfl⟩
 simp only [← hR,ckM,ckA]
 have hnl:n<led.length:=by omega
 have hnI:(n:Int)<(led.length:Int):=by omega
 have hnN:(n:Int)<(ns.length:Int):=by omega
 have hg0:=brows_gi hnl
 have hgE0:=brows_gE hnl
 unfold ckR at hR
 simp only at hR
 rw [wk] at hR
 cases hb:led.getD n false with
 | true =>
  rw [hb] at hR hg0 hgE0
  simp only [if_true] at hR
  subst hR
  simp only
  have zS:=jj hnl<|jj hnI<|jj hg0<|hgE0
  refine dM64 ?_
  repeat (intro K hK)
  clear zS
  refine ⟨by simp,_,by simp [aResults,aResult,Tryz.f116];rfl,?_⟩
  simp only [Nat.sub_self,Nat.add_zero,idx]
  exact dle
 | false =>
  rw [hb] at hR hg0 hgE0
  simp only [Bool.false_eq_true,if_false] at hR
  have hset:=@brows_set led n true
  obtain ⟨led1,hl1⟩:∃ l,l=led.set n true:=⟨_,rfl⟩
  have hled1:led1.length=led.length:=by rw [hl1];simp
  rw [← hl1] at hR hset
  have zS:=jj hnl<|jj hnI<|jj hg0<|jj hgE0<|hset
  repeat' (first|(apply aw_seq_k;intro K hK)|(refine eM64 ?_)|(refine aw_cond (b:=_) (by exact rfl) (fun h=>?_) (fun h=>?_)<;>(try simp at h))|(refine eB ?_)|(refine hK _ ?_;clear hK)|(clear hK;refine hK _ ?_;clear hK)|(clear hK;clear hK;refine hK _ ?_;clear hK)|(clear hK;clear hK;clear hK;refine hK _ ?_;clear hK))
  all_goals clear zS
  refine aw_rounds 1 (aw_round ?_)
  repeat' (first|(apply aw_seq_k;intro K hK)|(refine eM64o ?_)|(refine aw_cond (b:=_) (by exact rfl) (fun h=>?_) (fun h=>?_)<;>(try simp at h))|(refine eB ?_)|(refine hK _ ?_;clear hK)|(clear hK;refine hK _ ?_;clear hK)|(clear hK;clear hK;refine hK _ ?_;clear hK)|(clear hK;clear hK;clear hK;refine hK _ ?_;clear hK))
  obtain ⟨h0,hh0⟩:∃ h0,h0=hs.length:=⟨_,rfl⟩
  obtain ⟨ln,hln⟩:∃ ln,ln=led.length:=⟨_,rfl⟩
  have hRl:R.2.1.length=ln:=by rw [hR,(wkF_adds (b:=0) (fun _ _ _=>by simp) 8 0 (led1,hs)).1,hln];exact hled1
  rw [hRl,← hln]
  rw [← hh0]
  refine aw_loopK (s0:=?lps1) (m0:=?lpm1) (ι:={s:Nat×List Bool×List Int // s.1≤8∧s.2.1.length=ln∧h0≤s.2.2.length∧s.2.2.length≤h0+1*s.1∧wkF WA ns (fun _ _ st=>(false,st)) 0 n first (8 - s.1) s.1 (s.2.1,s.2.2)=R}) [0,1,2,4,5,6,7,12] (fun s=>[(31,I s.1.1)]) (fun s=>[(1,.vec 1 1 false (brows s.1.2.1)),(3,.box [.sl 4 (1+(s.1.2.2.length - h0)) 1 0 s.1.2.2.length]),(4,.vec (1+(s.1.2.2.length - h0)) 1 false (irows s.1.2.2))]) (fun s=>8 - s.1.1) ⟨(0,led1,hs),by simp,by simp only;omega,by simp only;omega,by simp only;omega,hR.symm⟩ ?lhs1 ?lhm1 ?_ ?_
  case lhs1=>first|(simp [keepS];done)|(simp [keepS];rfl)
  case lhm1=>first|rfl|(simp;done)|(simp;rfl)
  ·simp only [← hh0,Nat.sub_self,Nat.add_zero]
   exact dle
  ·clear hR hset hg0 hgE0 hb hnl hnI
   clear hl1
   rintro ⟨⟨i,led2,hs2⟩,hi,hl2,hh2,hb2,hst⟩
   simp only at hi hl2 hh2 hb2 hst ⊢
   obtain ⟨v,hv⟩:∃ v,v=1+(hs2.length - h0):=⟨_,rfl⟩
   rw [← hv]
   have hv1:1≤v:=by omega
   rcases Decidable.em (i<8) with hi8|hi8
   ·have hiI:(i:Int)<8:=by omega
    have hgn:=nrows_gi hn
    have hgnE:=nrows_gE hn
    have h8:(gn ns n).2.length=8:=(ht.1 _ (gn_mem hn)).1
    have hw8:=wcs_gi (l:=(gn ns n).2) (i:=i) (by omega)
    have hwE:=wcs_gE (l:=(gn ns n).2) (i:=i) (by omega)
    have hw64:=wd_lt ht (n:=n) (i:=i) hn
    obtain ⟨k8,hk8⟩:∃ k,8 - i=k+1:=⟨7 - i,by omega⟩
    have hk7:8 - (i+1)=k8:=by omega
    rw [hk8] at hst
    obtain ⟨w,hwd⟩:∃ w,w=wd ns n i:=⟨_,rfl⟩
    have hwg:(gn ns n).2.getD i 0=w:=hwd.symm
    rw [hwg] at hw8 hwE
    simp only at hw64
    rw [← hwd] at hw64
    have hwl:(wcs (gn ns n).2).length=8:=by simp [h8]
    obtain ⟨⟨fr,ws⟩,hm⟩:∃ m,m=gn ns n:=⟨_,rfl⟩
    rw [← hm] at hgn hgnE hw8 hwE hwl
    simp only at hgn hgnE hw8 hwE hwl
    obtain ⟨cs,hcs⟩:∃ cs,cs=wcs ws:=⟨_,rfl⟩
    rw [← hcs] at hgn hgnE hw8 hwE hwl
    clear hcs hm h8 hwg
    have hd':=hd w hw64
    have bad:=@wkF_bad WA ns (fun _ _ st=>(false,st)) 0 n first k8 i (led2,hs2)
    have pl:=@wkF_pl WA ns (fun _ _ st=>(false,st)) 0 n first k8 i (led2,hs2)
    have hug:=@wkF_hug WA ns (fun _ _ st=>(false,st)) 0 n first k8 i (led2,hs2)
    have lost:=fun g=>@wkF_lost WA ns (fun _ _ st=>(false,st)) 0 n first k8 i (led2,hs2) g
    have rcr:=fun g nx=>@wkF_rec WA ns (fun _ _ st=>(false,st)) 0 n first k8 i (led2,hs2) g nx
    have hone:=(WD_ok fun _=>true).one 0 w
    have hflat:=(WD_ok fun _=>true).flat w
    rw [← hwd] at bad pl hug lost rcr
    rw [hst] at bad pl hug lost rcr
    have hsu':=fun e=>hsu e 0
    obtain ⟨⟨⟨k,f,d,a,x,h⟩,e⟩,hE⟩:∃ r,r=decR w:=⟨_,rfl⟩
    have hok:WA.ok 0 w=(decide (e=0)&&suitB (k,f,d,a,x,h) 0):=by show okWb 0 w=_;unfold okWb;rw [← hE]
    have hhg:WA.hug w=(decide (k=1)&&h):=by show hugW w=_;unfold hugW;rw [← hE]
    have htb:WA.tab w=if k=4 then some f else none:=by show tabW w=_;unfold tabW;rw [← hE]
    rw [← hE] at hd'
    clear hE
    simp only [EnV,U] at hd' hw8 hwE
    have hsu2:∀ M n,X.call 117 [.agg [I k,I f,B d,B a,B x,B h],I 0] M n=some (B (suitB (k,f,d,a,x,h) 0),[]):=hsu' (k,f,d,a,x,h)
    rcases Decidable.em (e=0) with he|he
    ·subst he
     cases hsb:suitB (k,f,d,a,x,h) 0 with
     | false =>
      rw [hsb] at hsu2
      have hfin:=bad (by rw [hok,hsb];rfl)
      subst hfin
      simp only
      clear pl hug lost rcr hone hflat
      have zS:=jj hiI<|jj hi8<|jj hgn<|jj hgnE<|jj hw8<|jj hwE<|jj hwl<|jj hd'<|jj hsu2<|jj hn<|hnN
      repeat' (first|(apply aw_seq_k;intro K hK)|(refine eM64 ?_)|(refine aw_cond (b:=_) (by exact rfl) (fun h=>?_) (fun h=>?_)<;>(try simp at h))|(refine eB ?_)|(refine hK _ ?_;clear hK)|(clear hK;refine hK _ ?_;clear hK)|(clear hK;clear hK;refine hK _ ?_;clear hK)|(clear hK;clear hK;clear hK;refine hK _ ?_;clear hK))
      all_goals clear zS
      refine ⟨by simp,_,by simp [aResults,aResult,Tryz.f116];rfl,?_⟩
      simp only [← hv,idx]
      exact dle
     | true =>
      rw [hsb] at hsu2
      have hok1:WA.ok 0 w=true:=by rw [hok,hsb];rfl
      rcases Decidable.em (k=1∧h=true) with hk|hk
      ·obtain ⟨rfl,rfl⟩:=hk
       exact absurd (hone hok1 (by rw [hhg];rfl)) (by decide)
      ·have hhf:(decide (k=1)&&h)=false:=by
        rw [Bool.eq_false_iff];intro hh;simp only [Bool.and_eq_true,decide_eq_true_eq] at hh;exact hk hh
       rw [hhf] at hhg
       rcases Decidable.em (k=4) with hk4|hk4
       ·subst hk4
        have:=hflat hok1
        rw [htb] at this
        simp at this
       ·have hfin:=pl hok1 hhg (by rw [htb,if_neg hk4])
        clear bad hug lost rcr hone hflat
        rcases Decidable.em (k=1) with hk1|hk1
        ·subst hk1
         have hh0:h=false:=by cases h with|false=>rfl|true=>exact absurd ⟨rfl,rfl⟩ hk
         subst hh0
         have zS:=jj hiI<|jj hi8<|jj hgn<|jj hgnE<|jj hw8<|jj hwE<|jj hwl<|jj hd'<|jj hsu2<|jj hn<|hnN
         repeat' (first|(apply aw_seq_k;intro K hK)|(refine eM64 ?_)|(refine aw_cond (b:=_) (by exact rfl) (fun h=>?_) (fun h=>?_)<;>(try simp at h))|(refine eB ?_)|(refine hK _ ?_;clear hK)|(clear hK;refine hK _ ?_;clear hK)|(clear hK;clear hK;refine hK _ ?_;clear hK)|(clear hK;clear hK;clear hK;refine hK _ ?_;clear hK))
         all_goals clear zS
         refine ⟨i+1,led2,hs2,?_,⟨by omega,hl2,by omega,by omega,by rw [hk7];exact hfin.symm⟩,by omega⟩
         simp only [← hv]
         exact dle
        ·have zS:=jj hiI<|jj hi8<|jj hgn<|jj hgnE<|jj hw8<|jj hwE<|jj hwl<|jj hd'<|jj hsu2<|jj hn<|jj hnN<|jj hk1<|hk4
         repeat' (first|(apply aw_seq_k;intro K hK)|(refine eM64 ?_)|(refine aw_cond (b:=_) (by exact rfl) (fun h=>?_) (fun h=>?_)<;>(try simp at h))|(refine eB ?_)|(refine hK _ ?_;clear hK)|(clear hK;refine hK _ ?_;clear hK)|(clear hK;clear hK;refine hK _ ?_;clear hK)|(clear hK;clear hK;clear hK;refine hK _ ?_;clear hK))
         all_goals clear zS
         refine ⟨i+1,led2,hs2,?_,⟨by omega,hl2,by omega,by omega,by rw [hk7];exact hfin.symm⟩,by omega⟩
         simp only [← hv]
         exact dle
    ·have hfin:=bad (by rw [hok];simp [he])
     subst hfin
     simp only
     clear pl hug lost rcr hone hflat
     have zS:=jj hiI<|jj hi8<|jj hgn<|jj hgnE<|jj hw8<|jj hwE<|jj hwl<|jj hd'<|jj he<|jj hn<|hnN
     repeat' (first|(apply aw_seq_k;intro K hK)|(refine eM64 ?_)|(refine aw_cond (b:=_) (by exact rfl) (fun h=>?_) (fun h=>?_)<;>(try simp at h))|(refine eB ?_)|(refine hK _ ?_;clear hK)|(clear hK;refine hK _ ?_;clear hK)|(clear hK;clear hK;refine hK _ ?_;clear hK)|(clear hK;clear hK;clear hK;refine hK _ ?_;clear hK))
     all_goals clear zS
     refine ⟨by simp,_,by simp [aResults,aResult,Tryz.f116];rfl,?_⟩
     simp only [← hv,idx]
     exact dle
   ·obtain rfl:i=8:=by omega
    simp only [Nat.sub_self,wkF] at hst
    subst hst
    simp only
    repeat' (first|(apply aw_seq_k;intro K hK)|(refine eM64o ?_)|(refine aw_cond (b:=_) (by exact rfl) (fun h=>?_) (fun h=>?_)<;>(try simp at h))|(refine eB ?_)|(refine hK _ ?_;clear hK)|(clear hK;refine hK _ ?_;clear hK)|(clear hK;clear hK;refine hK _ ?_;clear hK)|(clear hK;clear hK;clear hK;refine hK _ ?_;clear hK))
    refine ⟨by simp,_,by simp [aResults,aResult,Tryz.f116];rfl,?_⟩
    simp only [← hv,idx]
    exact dle
end Go.AM
namespace Go.AM
open Go Go.Proofs
set_option maxHeartbeats 8000000 in
theorem s116_1 (X:AX) (hX:XOK Tryz.prog X) (hw:X.W wT) (hd:∀ n:Nat,n<2^64→∀ M k,X.call 56 [U n] M k=some (.tup [EnV (decR n).1,I (decR n).2],[]))
  (hsu:∀ (e:En) (l:Nat) M n,X.call 117 [EnV e,I l] M n=some (B (suitB e l),[])) (hrec:X.call 116=callG (ckS 0)):GSound Tryz.prog 116 (ckS 1):=by
 unfold ckS
 refine gsound_spec Tryz.func116 rfl X fun ⟨⟨⟨r,ns,ds⟩,n,first,led,hs⟩,hx⟩ w0 L E=>⟨by show 8≤96;decide,?_⟩
 obtain ⟨ht,ha,hn,hf,hled,hhs⟩:=hx
 simp only [ckF,ckH] at ht ha hn hf hled hhs
 show AW ⟨Tryz.prog,X,96,w0,⟨L,E,8⟩⟩ _ _ _
 have hc:Cx.OK ⟨Tryz.prog,X,96,w0,⟨L,E,8⟩⟩:=⟨hX,mixed⟩
 have hl1:ns.length≤1000000:=ht.2.1
 obtain ⟨R,hR⟩:∃ R,R=ckR 1 ((r,ns,ds),n,first,led,hs):=⟨_,rfl⟩
 simp only [← hR,ckM,ckA]
 have hnl:n<led.length:=by omega
 have hnI:(n:Int)<(led.length:Int):=by omega
 have hnN:(n:Int)<(ns.length:Int):=by omega
 have hg0:=brows_gi hnl
 have hgE0:=brows_gE hnl
 unfold ckR at hR
 simp only at hR
 rw [wk] at hR
 cases hb:led.getD n false with
 | true =>
  rw [hb] at hR hg0 hgE0
  simp only [if_true] at hR
  subst hR
  simp only
  have zS:=jj hnl<|jj hnI<|jj hg0<|hgE0
  refine dM64 ?_
  repeat (intro K hK)
  clear zS
  refine ⟨by simp,_,by simp [aResults,aResult,Tryz.f116];rfl,?_⟩
  simp only [Nat.sub_self,Nat.add_zero,idx]
  exact dle
 | false =>
  rw [hb] at hR hg0 hgE0
  simp only [Bool.false_eq_true,if_false] at hR
  have hset:=@brows_set led n true
  obtain ⟨led1,hl1⟩:∃ l,l=led.set n true:=⟨_,rfl⟩
  have hled1:led1.length=led.length:=by rw [hl1];simp
  rw [← hl1] at hR hset
  have zS:=jj hnl<|jj hnI<|jj hg0<|jj hgE0<|hset
  repeat' (first|(apply aw_seq_k;intro K hK)|(refine eM64 ?_)|(refine aw_cond (b:=_) (by exact rfl) (fun h=>?_) (fun h=>?_)<;>(try simp at h))|(refine eB ?_)|(refine hK _ ?_;clear hK)|(clear hK;refine hK _ ?_;clear hK)|(clear hK;clear hK;refine hK _ ?_;clear hK)|(clear hK;clear hK;clear hK;refine hK _ ?_;clear hK))
  all_goals clear zS
  refine aw_rounds 2 (aw_round ?_)
  repeat' (first|(apply aw_seq_k;intro K hK)|(refine eM64o ?_)|(refine aw_cond (b:=_) (by exact rfl) (fun h=>?_) (fun h=>?_)<;>(try simp at h))|(refine eB ?_)|(refine hK _ ?_;clear hK)|(clear hK;refine hK _ ?_;clear hK)|(clear hK;clear hK;refine hK _ ?_;clear hK)|(clear hK;clear hK;clear hK;refine hK _ ?_;clear hK))
  obtain ⟨h0,hh0⟩:∃ h0,h0=hs.length:=⟨_,rfl⟩
  obtain ⟨ln,hln⟩:∃ ln,ln=led.length:=⟨_,rfl⟩
  have hRl:R.2.1.length=ln:=by rw [hR,(wkF_adds (b:=8) (wk_adds (l:=0)) 8 0 (led1,hs)).1,hln];exact hled1
  rw [hRl,← hln]
  rw [← hh0]
  refine aw_loopK (s0:=?lps1) (m0:=?lpm1) (ι:={s:Nat×List Bool×List Int // s.1≤8∧s.2.1.length=ln∧h0≤s.2.2.length∧s.2.2.length≤h0+9*s.1∧wkF WA ns (wk WA ns 0) 1 n first (8 - s.1) s.1 (s.2.1,s.2.2)=R}) [0,1,2,4,5,6,7,12] (fun s=>[(31,I s.1.1)]) (fun s=>[(1,.vec 1 1 false (brows s.1.2.1)),(3,.box [.sl 4 (1+(s.1.2.2.length - h0)) 1 0 s.1.2.2.length]),(4,.vec (1+(s.1.2.2.length - h0)) 1 false (irows s.1.2.2))]) (fun s=>8 - s.1.1) ⟨(0,led1,hs),by simp,by simp only;omega,by simp only;omega,by simp only;omega,hR.symm⟩ ?lhs1 ?lhm1 ?_ ?_
  case lhs1=>first|(simp [keepS];done)|(simp [keepS];rfl)
  case lhm1=>first|rfl|(simp;done)|(simp;rfl)
  ·simp only [← hh0,Nat.sub_self,Nat.add_zero]
   exact dle
  ·clear hR hset hg0 hgE0 hb hnl hnI
   clear hl1
   rintro ⟨⟨i,led2,hs2⟩,hi,hl2,hh2,hb2,hst⟩
   simp only at hi hl2 hh2 hb2 hst ⊢
   obtain ⟨v,hv⟩:∃ v,v=1+(hs2.length - h0):=⟨_,rfl⟩
   rw [← hv]
   have hv1:1≤v:=by omega
   rcases Decidable.em (i<8) with hi8|hi8
   ·have hiI:(i:Int)<8:=by omega
    have hgn:=nrows_gi hn
    have hgnE:=nrows_gE hn
    have h8:(gn ns n).2.length=8:=(ht.1 _ (gn_mem hn)).1
    have hw8:=wcs_gi (l:=(gn ns n).2) (i:=i) (by omega)
    have hwE:=wcs_gE (l:=(gn ns n).2) (i:=i) (by omega)
    have hw64:=wd_lt ht (n:=n) (i:=i) hn
    obtain ⟨k8,hk8⟩:∃ k,8 - i=k+1:=⟨7 - i,by omega⟩
    have hk7:8 - (i+1)=k8:=by omega
    rw [hk8] at hst
    obtain ⟨w,hwd⟩:∃ w,w=wd ns n i:=⟨_,rfl⟩
    have hwg:(gn ns n).2.getD i 0=w:=hwd.symm
    rw [hwg] at hw8 hwE
    simp only at hw64
    rw [← hwd] at hw64
    have hwl:(wcs (gn ns n).2).length=8:=by simp [h8]
    obtain ⟨⟨fr,ws⟩,hm⟩:∃ m,m=gn ns n:=⟨_,rfl⟩
    rw [← hm] at hgn hgnE hw8 hwE hwl
    simp only at hgn hgnE hw8 hwE hwl
    obtain ⟨cs,hcs⟩:∃ cs,cs=wcs ws:=⟨_,rfl⟩
    rw [← hcs] at hgn hgnE hw8 hwE hwl
    clear hcs hm h8 hwg
    have hd':=hd w hw64
    have bad:=@wkF_bad WA ns (wk WA ns 0) 1 n first k8 i (led2,hs2)
    have pl:=@wkF_pl WA ns (wk WA ns 0) 1 n first k8 i (led2,hs2)
    have hug:=@wkF_hug WA ns (wk WA ns 0) 1 n first k8 i (led2,hs2)
    have lost:=fun g=>@wkF_lost WA ns (wk WA ns 0) 1 n first k8 i (led2,hs2) g
    have rcr:=fun g nx=>@wkF_rec WA ns (wk WA ns 0) 1 n first k8 i (led2,hs2) g nx
    have hone:=(WD_ok fun _=>true).one 1 w
    have hflat:=(WD_ok fun _=>true).flat w
    rw [← hwd] at bad pl hug lost rcr
    rw [hst] at bad pl hug lost rcr
    have hsu':=fun e=>hsu e 1
    obtain ⟨⟨⟨k,f,d,a,x,h⟩,e⟩,hE⟩:∃ r,r=decR w:=⟨_,rfl⟩
    have hok:WA.ok 1 w=(decide (e=0)&&suitB (k,f,d,a,x,h) 1):=by show okWb 1 w=_;unfold okWb;rw [← hE]
    have hhg:WA.hug w=(decide (k=1)&&h):=by show hugW w=_;unfold hugW;rw [← hE]
    have htb:WA.tab w=if k=4 then some f else none:=by show tabW w=_;unfold tabW;rw [← hE]
    rw [← hE] at hd'
    clear hE
    simp only [EnV,U] at hd' hw8 hwE
    have hsu2:∀ M n,X.call 117 [.agg [I k,I f,B d,B a,B x,B h],I 1] M n=some (B (suitB (k,f,d,a,x,h) 1),[]):=hsu' (k,f,d,a,x,h)
    rcases Decidable.em (e=0) with he|he
    ·subst he
     cases hsb:suitB (k,f,d,a,x,h) 1 with
     | false =>
      rw [hsb] at hsu2
      have hfin:=bad (by rw [hok,hsb];rfl)
      subst hfin
      simp only
      clear pl hug lost rcr hone hflat
      have zS:=jj hiI<|jj hi8<|jj hgn<|jj hgnE<|jj hw8<|jj hwE<|jj hwl<|jj hd'<|jj hsu2<|jj hn<|hnN
      repeat' (first|(apply aw_seq_k;intro K hK)|(refine eM64 ?_)|(refine aw_cond (b:=_) (by exact rfl) (fun h=>?_) (fun h=>?_)<;>(try simp at h))|(refine eB ?_)|(refine hK _ ?_;clear hK)|(clear hK;refine hK _ ?_;clear hK)|(clear hK;clear hK;refine hK _ ?_;clear hK)|(clear hK;clear hK;clear hK;refine hK _ ?_;clear hK))
      all_goals clear zS
      refine ⟨by simp,_,by simp [aResults,aResult,Tryz.f116];rfl,?_⟩
      simp only [← hv,idx]
      exact dle
     | true =>
      rw [hsb] at hsu2
      have hok1:WA.ok 1 w=true:=by rw [hok,hsb];rfl
      rcases Decidable.em (k=1∧h=true) with hk|hk
      ·obtain ⟨rfl,rfl⟩:=hk
       have hfin:=hug hok1 (by rw [hhg];rfl) rfl (by rw [htb];rfl)
       clear bad pl lost rcr hone hflat
       have hq:((first:Int)+(i:Int)*8).tdiv 8=(((first+i*8^1)/8:Nat):Int):=by rw [Int.tdiv_eq_ediv_of_nonneg (by omega)];omega
       obtain ⟨gq,hgq⟩:∃ g:Int,g=(((first+i*8^1)/8:Nat):Int):=⟨_,rfl⟩
       rw [← hgq] at hq hfin
       have hq2:((first:Int)+(i:Int)*8)/8=gq:=by rw [hgq];omega
       have happ:List.take hs2.length (irows hs2)++[[I gq]]=irows (hs2++[gq]):=by rw [← irows_append,List.take_of_length_le (by simp)];rfl
       simp only [I] at happ
       have zS:=jj hiI<|jj hi8<|jj hgn<|jj hgnE<|jj hw8<|jj hwE<|jj hwl<|jj hd'<|jj hsu2<|jj hn<|jj hnN<|jj hq<|hq2
       repeat' (first|(apply aw_seq_k;intro K hK)|(refine eM64 ?_)|(refine aw_cond (b:=_) (by exact rfl) (fun h=>?_) (fun h=>?_)<;>(try simp at h))|(refine eB ?_)|(refine hK _ ?_;clear hK)|(clear hK;refine hK _ ?_;clear hK)|(clear hK;clear hK;refine hK _ ?_;clear hK)|(clear hK;clear hK;clear hK;refine hK _ ?_;clear hK))
       all_goals clear zS
       refine ⟨i+1,led2,hs2++[gq],?_,⟨by omega,hl2,by simp only [List.length_append,List.length_singleton];omega,by simp only [List.length_append,List.length_singleton];omega,by rw [hk7];exact hfin.symm⟩,by omega⟩
       simp only [List.length_append,List.length_singleton,show 1+(hs2.length+1 - h0)=v+1 by omega,← happ]
       exact dle
      ·have hhf:(decide (k=1)&&h)=false:=by
        rw [Bool.eq_false_iff];intro hh;simp only [Bool.and_eq_true,decide_eq_true_eq] at hh;exact hk hh
       rw [hhf] at hhg
       rcases Decidable.em (k=4) with hk4|hk4
       ·subst hk4
        clear hone hflat hug pl bad
        have hget:=idxE_get ha f
        cases hfn:fnd ns f with
        | none =>
         rw [hfn] at hget
         try simp only [Option.map_none] at hget
         have hfin:=lost f hok1 hhg (by rw [htb];rfl) hfn
         subst hfin
         simp only
         clear lost rcr
         have zS:=jj hiI<|jj hi8<|jj hgn<|jj hgnE<|jj hw8<|jj hwE<|jj hwl<|jj hd'<|jj hsu2<|jj hn<|jj hnN<|hget
         repeat' (first|(apply aw_seq_k;intro K hK)|(refine eM64 ?_)|(refine aw_cond (b:=_) (by exact rfl) (fun h=>?_) (fun h=>?_)<;>(try simp at h))|(refine eB ?_)|(refine hK _ ?_;clear hK)|(clear hK;refine hK _ ?_;clear hK)|(clear hK;clear hK;refine hK _ ?_;clear hK)|(clear hK;clear hK;clear hK;refine hK _ ?_;clear hK))
         all_goals clear zS
         refine ⟨by simp,_,by simp [aResults,aResult,Tryz.f116];rfl,?_⟩
         simp only [← hv,idx]
         exact dle
        | some nx =>
         rw [hfn] at hget
         try simp only [Option.map_some] at hget
         have hnx:=fnd_lt hfn
         have hfin:=rcr f nx hok1 hhg (by rw [htb];rfl) hfn
         clear lost rcr
         have hckk:ckOK 0 ((r,ns,ds),nx,first+i*8,led2,hs2):=⟨ht,ha,hnx,by simp only [ckF];omega,by simp only;omega,by simp only [ckH];omega⟩
         have hcall:=@callCk 0 (r,ns,ds) nx (first+i*8) led2 hs2 hckk v hv1 false false
         have hckR:ckR 0 ((r,ns,ds),nx,first+i*8,led2,hs2)=wk WA ns 0 nx (first+i*8) (led2,hs2):=rfl
         rw [hckR] at hcall
         have hadd:=wk_adds (D:=WA) (ns:=ns) (l:=0) nx (first+i*8) (led2,hs2)
         rw [show (8:Nat)^1=8 from rfl] at hfin
         obtain ⟨⟨b3,led3,hs3⟩,hR3⟩:∃ R,R=wk WA ns 0 nx (first+i*8) (led2,hs2):=⟨_,rfl⟩
         rw [← hR3] at hcall hfin hadd
         clear hR3 hckR hckk
         simp only [addsB] at hcall hfin hadd
         rw [hl2] at hcall hadd
         rw [hadd.1] at hcall
         rw [← hrec] at hcall
         have hfI:((first+i*8:Nat):Int)=(first:Int)+(i:Int)*8:=by omega
         rw [hfI,show ((0:Nat):Int)=(0:Int) from rfl] at hcall
         obtain ⟨v3,hv3⟩:∃ v3,v3=v+(hs3.length - hs2.length):=⟨_,rfl⟩
         rw [← hv3] at hcall
         cases b3 with
         | false =>
          simp only [Bool.false_eq_true,if_false] at hfin
          subst hfin
          simp only
          have zS:=jj hiI<|jj hi8<|jj hgn<|jj hgnE<|jj hw8<|jj hwE<|jj hwl<|jj hd'<|jj hsu2<|jj hn<|jj hnN<|jj hget<|hcall
          repeat' (first|(apply aw_seq_k;intro K hK)|(refine eM64 ?_)|(refine aw_cond (b:=_) (by exact rfl) (fun h=>?_) (fun h=>?_)<;>(try simp at h))|(refine eB ?_)|(refine hK _ ?_;clear hK)|(clear hK;refine hK _ ?_;clear hK)|(clear hK;clear hK;refine hK _ ?_;clear hK)|(clear hK;clear hK;clear hK;refine hK _ ?_;clear hK))
          all_goals clear zS
          refine ⟨by simp,_,by simp [aResults,aResult,Tryz.f116];rfl,?_⟩
          simp only [show 1+(hs3.length - h0)=v3 by omega,idx]
          exact dle
         | true =>
          simp only [if_true] at hfin
          have zS:=jj hiI<|jj hi8<|jj hgn<|jj hgnE<|jj hw8<|jj hwE<|jj hwl<|jj hd'<|jj hsu2<|jj hn<|jj hnN<|jj hget<|hcall
          repeat' (first|(apply aw_seq_k;intro K hK)|(refine eM64 ?_)|(refine aw_cond (b:=_) (by exact rfl) (fun h=>?_) (fun h=>?_)<;>(try simp at h))|(refine eB ?_)|(refine hK _ ?_;clear hK)|(clear hK;refine hK _ ?_;clear hK)|(clear hK;clear hK;refine hK _ ?_;clear hK)|(clear hK;clear hK;clear hK;refine hK _ ?_;clear hK))
          all_goals clear zS
          refine ⟨i+1,led3,hs3,?_,⟨by omega,hadd.1,by omega,by omega,by rw [hk7];exact hfin.symm⟩,by omega⟩
          simp only [show 1+(hs3.length - h0)=v3 by omega]
          exact dle
       ·have hfin:=pl hok1 hhg (by rw [htb,if_neg hk4])
        clear bad hug lost rcr hone hflat
        rcases Decidable.em (k=1) with hk1|hk1
        ·subst hk1
         have hh0:h=false:=by cases h with|false=>rfl|true=>exact absurd ⟨rfl,rfl⟩ hk
         subst hh0
         have zS:=jj hiI<|jj hi8<|jj hgn<|jj hgnE<|jj hw8<|jj hwE<|jj hwl<|jj hd'<|jj hsu2<|jj hn<|hnN
         repeat' (first|(apply aw_seq_k;intro K hK)|(refine eM64 ?_)|(refine aw_cond (b:=_) (by exact rfl) (fun h=>?_) (fun h=>?_)<;>(try simp at h))|(refine eB ?_)|(refine hK _ ?_;clear hK)|(clear hK;refine hK _ ?_;clear hK)|(clear hK;clear hK;refine hK _ ?_;clear hK)|(clear hK;clear hK;clear hK;refine hK _ ?_;clear hK))
         all_goals clear zS
         refine ⟨i+1,led2,hs2,?_,⟨by omega,hl2,by omega,by omega,by rw [hk7];exact hfin.symm⟩,by omega⟩
         simp only [← hv]
         exact dle
        ·have zS:=jj hiI<|jj hi8<|jj hgn<|jj hgnE<|jj hw8<|jj hwE<|jj hwl<|jj hd'<|jj hsu2<|jj hn<|jj hnN<|jj hk1<|hk4
         repeat' (first|(apply aw_seq_k;intro K hK)|(refine eM64 ?_)|(refine aw_cond (b:=_) (by exact rfl) (fun h=>?_) (fun h=>?_)<;>(try simp at h))|(refine eB ?_)|(refine hK _ ?_;clear hK)|(clear hK;refine hK _ ?_;clear hK)|(clear hK;clear hK;refine hK _ ?_;clear hK)|(clear hK;clear hK;clear hK;refine hK _ ?_;clear hK))
         all_goals clear zS
         refine ⟨i+1,led2,hs2,?_,⟨by omega,hl2,by omega,by omega,by rw [hk7];exact hfin.symm⟩,by omega⟩
         simp only [← hv]
         exact dle
    ·have hfin:=bad (by rw [hok];simp [he])
     subst hfin
     simp only
     clear pl hug lost rcr hone hflat
     have zS:=jj hiI<|jj hi8<|jj hgn<|jj hgnE<|jj hw8<|jj hwE<|jj hwl<|jj hd'<|jj he<|jj hn<|hnN
     repeat' (first|(apply aw_seq_k;intro K hK)|(refine eM64 ?_)|(refine aw_cond (b:=_) (by exact rfl) (fun h=>?_) (fun h=>?_)<;>(try simp at h))|(refine eB ?_)|(refine hK _ ?_;clear hK)|(clear hK;refine hK _ ?_;clear hK)|(clear hK;clear hK;refine hK _ ?_;clear hK)|(clear hK;clear hK;clear hK;refine hK _ ?_;clear hK))
     all_goals clear zS
     refine ⟨by simp,_,by simp [aResults,aResult,Tryz.f116];rfl,?_⟩
     simp only [← hv,idx]
     exact dle
   ·obtain rfl:i=8:=by omega
    simp only [Nat.sub_self,wkF] at hst
    subst hst
    simp only
    repeat' (first|(apply aw_seq_k;intro K hK)|(refine eM64o ?_)|(refine aw_cond (b:=_) (by exact rfl) (fun h=>?_) (fun h=>?_)<;>(try simp at h))|(refine eB ?_)|(refine hK _ ?_;clear hK)|(clear hK;refine hK _ ?_;clear hK)|(clear hK;clear hK;refine hK _ ?_;clear hK)|(clear hK;clear hK;clear hK;refine hK _ ?_;clear hK))
    refine ⟨by simp,_,by simp [aResults,aResult,Tryz.f116];rfl,?_⟩
    simp only [← hv,idx]
    exact dle
end Go.AM
namespace Go.AM
open Go Go.Proofs
set_option maxHeartbeats 8000000 in
theorem s116_2 (X:AX) (hX:XOK Tryz.prog X) (hw:X.W wT) (hd:∀ n:Nat,n<2^64→∀ M k,X.call 56 [U n] M k=some (.tup [EnV (decR n).1,I (decR n).2],[]))
  (hsu:∀ (e:En) (l:Nat) M n,X.call 117 [EnV e,I l] M n=some (B (suitB e l),[])) (hrec:X.call 116=callG (ckS 1)):GSound Tryz.prog 116 (ckS 2):=by
 unfold ckS
 refine gsound_spec Tryz.func116 rfl X fun ⟨⟨⟨r,ns,ds⟩,n,first,led,hs⟩,hx⟩ w0 L E=>⟨by show 8≤96;decide,?_⟩
 obtain ⟨ht,ha,hn,hf,hled,hhs⟩:=hx
 simp only [ckF,ckH] at ht ha hn hf hled hhs
 show AW ⟨Tryz.prog,X,96,w0,⟨L,E,8⟩⟩ _ _ _
 have hc:Cx.OK ⟨Tryz.prog,X,96,w0,⟨L,E,8⟩⟩:=⟨hX,mixed⟩
 have hl1:ns.length≤1000000:=ht.2.1
 obtain ⟨R,hR⟩:∃ R,R=ckR 2 ((r,ns,ds),n,first,led,hs):=⟨_,rfl⟩
 simp only [← hR,ckM,ckA]
 have hnl:n<led.length:=by omega
 have hnI:(n:Int)<(led.length:Int):=by omega
 have hnN:(n:Int)<(ns.length:Int):=by omega
 have hg0:=brows_gi hnl
 have hgE0:=brows_gE hnl
 unfold ckR at hR
 simp only at hR
 rw [wk] at hR
 cases hb:led.getD n false with
 | true =>
  rw [hb] at hR hg0 hgE0
  simp only [if_true] at hR
  subst hR
  simp only
  have zS:=jj hnl<|jj hnI<|jj hg0<|hgE0
  refine dM64 ?_
  repeat (intro K hK)
  clear zS
  refine ⟨by simp,_,by simp [aResults,aResult,Tryz.f116];rfl,?_⟩
  simp only [Nat.sub_self,Nat.add_zero,idx]
  exact dle
 | false =>
  rw [hb] at hR hg0 hgE0
  simp only [Bool.false_eq_true,if_false] at hR
  have hset:=@brows_set led n true
  obtain ⟨led1,hl1⟩:∃ l,l=led.set n true:=⟨_,rfl⟩
  have hled1:led1.length=led.length:=by rw [hl1];simp
  rw [← hl1] at hR hset
  have zS:=jj hnl<|jj hnI<|jj hg0<|jj hgE0<|hset
  repeat' (first|(apply aw_seq_k;intro K hK)|(refine eM64 ?_)|(refine aw_cond (b:=_) (by exact rfl) (fun h=>?_) (fun h=>?_)<;>(try simp at h))|(refine eB ?_)|(refine hK _ ?_;clear hK)|(clear hK;refine hK _ ?_;clear hK)|(clear hK;clear hK;refine hK _ ?_;clear hK)|(clear hK;clear hK;clear hK;refine hK _ ?_;clear hK))
  all_goals clear zS
  refine aw_rounds 3 (aw_round ?_)
  repeat' (first|(apply aw_seq_k;intro K hK)|(refine eM64o ?_)|(refine aw_cond (b:=_) (by exact rfl) (fun h=>?_) (fun h=>?_)<;>(try simp at h))|(refine eB ?_)|(refine hK _ ?_;clear hK)|(clear hK;refine hK _ ?_;clear hK)|(clear hK;clear hK;refine hK _ ?_;clear hK)|(clear hK;clear hK;clear hK;refine hK _ ?_;clear hK))
  obtain ⟨h0,hh0⟩:∃ h0,h0=hs.length:=⟨_,rfl⟩
  obtain ⟨ln,hln⟩:∃ ln,ln=led.length:=⟨_,rfl⟩
  have hRl:R.2.1.length=ln:=by rw [hR,(wkF_adds (b:=72) (wk_adds (l:=1)) 8 0 (led1,hs)).1,hln];exact hled1
  rw [hRl,← hln]
  rw [← hh0]
  refine aw_loopK (s0:=?lps1) (m0:=?lpm1) (ι:={s:Nat×List Bool×List Int // s.1≤8∧s.2.1.length=ln∧h0≤s.2.2.length∧s.2.2.length≤h0+73*s.1∧wkF WA ns (wk WA ns 1) 2 n first (8 - s.1) s.1 (s.2.1,s.2.2)=R}) [0,1,2,4,5,6,7,12] (fun s=>[(31,I s.1.1)]) (fun s=>[(1,.vec 1 1 false (brows s.1.2.1)),(3,.box [.sl 4 (1+(s.1.2.2.length - h0)) 1 0 s.1.2.2.length]),(4,.vec (1+(s.1.2.2.length - h0)) 1 false (irows s.1.2.2))]) (fun s=>8 - s.1.1) ⟨(0,led1,hs),by simp,by simp only;omega,by simp only;omega,by simp only;omega,hR.symm⟩ ?lhs1 ?lhm1 ?_ ?_
  case lhs1=>first|(simp [keepS];done)|(simp [keepS];rfl)
  case lhm1=>first|rfl|(simp;done)|(simp;rfl)
  ·simp only [← hh0,Nat.sub_self,Nat.add_zero]
   exact dle
  ·clear hR hset hg0 hgE0 hb hnl hnI
   clear hl1
   rintro ⟨⟨i,led2,hs2⟩,hi,hl2,hh2,hb2,hst⟩
   simp only at hi hl2 hh2 hb2 hst ⊢
   obtain ⟨v,hv⟩:∃ v,v=1+(hs2.length - h0):=⟨_,rfl⟩
   rw [← hv]
   have hv1:1≤v:=by omega
   rcases Decidable.em (i<8) with hi8|hi8
   ·have hiI:(i:Int)<8:=by omega
    have hgn:=nrows_gi hn
    have hgnE:=nrows_gE hn
    have h8:(gn ns n).2.length=8:=(ht.1 _ (gn_mem hn)).1
    have hw8:=wcs_gi (l:=(gn ns n).2) (i:=i) (by omega)
    have hwE:=wcs_gE (l:=(gn ns n).2) (i:=i) (by omega)
    have hw64:=wd_lt ht (n:=n) (i:=i) hn
    obtain ⟨k8,hk8⟩:∃ k,8 - i=k+1:=⟨7 - i,by omega⟩
    have hk7:8 - (i+1)=k8:=by omega
    rw [hk8] at hst
    obtain ⟨w,hwd⟩:∃ w,w=wd ns n i:=⟨_,rfl⟩
    have hwg:(gn ns n).2.getD i 0=w:=hwd.symm
    rw [hwg] at hw8 hwE
    simp only at hw64
    rw [← hwd] at hw64
    have hwl:(wcs (gn ns n).2).length=8:=by simp [h8]
    obtain ⟨⟨fr,ws⟩,hm⟩:∃ m,m=gn ns n:=⟨_,rfl⟩
    rw [← hm] at hgn hgnE hw8 hwE hwl
    simp only at hgn hgnE hw8 hwE hwl
    obtain ⟨cs,hcs⟩:∃ cs,cs=wcs ws:=⟨_,rfl⟩
    rw [← hcs] at hgn hgnE hw8 hwE hwl
    clear hcs hm h8 hwg
    have hd':=hd w hw64
    have bad:=@wkF_bad WA ns (wk WA ns 1) 2 n first k8 i (led2,hs2)
    have pl:=@wkF_pl WA ns (wk WA ns 1) 2 n first k8 i (led2,hs2)
    have hug:=@wkF_hug WA ns (wk WA ns 1) 2 n first k8 i (led2,hs2)
    have lost:=fun g=>@wkF_lost WA ns (wk WA ns 1) 2 n first k8 i (led2,hs2) g
    have rcr:=fun g nx=>@wkF_rec WA ns (wk WA ns 1) 2 n first k8 i (led2,hs2) g nx
    have hone:=(WD_ok fun _=>true).one 2 w
    have hflat:=(WD_ok fun _=>true).flat w
    rw [← hwd] at bad pl hug lost rcr
    rw [hst] at bad pl hug lost rcr
    have hsu':=fun e=>hsu e 2
    obtain ⟨⟨⟨k,f,d,a,x,h⟩,e⟩,hE⟩:∃ r,r=decR w:=⟨_,rfl⟩
    have hok:WA.ok 2 w=(decide (e=0)&&suitB (k,f,d,a,x,h) 2):=by show okWb 2 w=_;unfold okWb;rw [← hE]
    have hhg:WA.hug w=(decide (k=1)&&h):=by show hugW w=_;unfold hugW;rw [← hE]
    have htb:WA.tab w=if k=4 then some f else none:=by show tabW w=_;unfold tabW;rw [← hE]
    rw [← hE] at hd'
    clear hE
    simp only [EnV,U] at hd' hw8 hwE
    have hsu2:∀ M n,X.call 117 [.agg [I k,I f,B d,B a,B x,B h],I 2] M n=some (B (suitB (k,f,d,a,x,h) 2),[]):=hsu' (k,f,d,a,x,h)
    rcases Decidable.em (e=0) with he|he
    ·subst he
     cases hsb:suitB (k,f,d,a,x,h) 2 with
     | false =>
      rw [hsb] at hsu2
      have hfin:=bad (by rw [hok,hsb];rfl)
      subst hfin
      simp only
      clear pl hug lost rcr hone hflat
      have zS:=jj hiI<|jj hi8<|jj hgn<|jj hgnE<|jj hw8<|jj hwE<|jj hwl<|jj hd'<|jj hsu2<|jj hn<|hnN
      repeat' (first|(apply aw_seq_k;intro K hK)|(refine eM64 ?_)|(refine aw_cond (b:=_) (by exact rfl) (fun h=>?_) (fun h=>?_)<;>(try simp at h))|(refine eB ?_)|(refine hK _ ?_;clear hK)|(clear hK;refine hK _ ?_;clear hK)|(clear hK;clear hK;refine hK _ ?_;clear hK)|(clear hK;clear hK;clear hK;refine hK _ ?_;clear hK))
      all_goals clear zS
      refine ⟨by simp,_,by simp [aResults,aResult,Tryz.f116];rfl,?_⟩
      simp only [← hv,idx]
      exact dle
     | true =>
      rw [hsb] at hsu2
      have hok1:WA.ok 2 w=true:=by rw [hok,hsb];rfl
      rcases Decidable.em (k=1∧h=true) with hk|hk
      ·obtain ⟨rfl,rfl⟩:=hk
       exact absurd (hone hok1 (by rw [hhg];rfl)) (by decide)
      ·have hhf:(decide (k=1)&&h)=false:=by
        rw [Bool.eq_false_iff];intro hh;simp only [Bool.and_eq_true,decide_eq_true_eq] at hh;exact hk hh
       rw [hhf] at hhg
       rcases Decidable.em (k=4) with hk4|hk4
       ·subst hk4
        clear hone hflat hug pl bad
        have hget:=idxE_get ha f
        cases hfn:fnd ns f with
        | none =>
         rw [hfn] at hget
         try simp only [Option.map_none] at hget
         have hfin:=lost f hok1 hhg (by rw [htb];rfl) hfn
         subst hfin
         simp only
         clear lost rcr
         have zS:=jj hiI<|jj hi8<|jj hgn<|jj hgnE<|jj hw8<|jj hwE<|jj hwl<|jj hd'<|jj hsu2<|jj hn<|jj hnN<|hget
         repeat' (first|(apply aw_seq_k;intro K hK)|(refine eM64 ?_)|(refine aw_cond (b:=_) (by exact rfl) (fun h=>?_) (fun h=>?_)<;>(try simp at h))|(refine eB ?_)|(refine hK _ ?_;clear hK)|(clear hK;refine hK _ ?_;clear hK)|(clear hK;clear hK;refine hK _ ?_;clear hK)|(clear hK;clear hK;clear hK;refine hK _ ?_;clear hK))
         all_goals clear zS
         refine ⟨by simp,_,by simp [aResults,aResult,Tryz.f116];rfl,?_⟩
         simp only [← hv,idx]
         exact dle
        | some nx =>
         rw [hfn] at hget
         try simp only [Option.map_some] at hget
         have hnx:=fnd_lt hfn
         have hfin:=rcr f nx hok1 hhg (by rw [htb];rfl) hfn
         clear lost rcr
         have hckk:ckOK 1 ((r,ns,ds),nx,first+i*64,led2,hs2):=⟨ht,ha,hnx,by simp only [ckF];omega,by simp only;omega,by simp only [ckH];omega⟩
         have hcall:=@callCk 1 (r,ns,ds) nx (first+i*64) led2 hs2 hckk v hv1 false false
         have hckR:ckR 1 ((r,ns,ds),nx,first+i*64,led2,hs2)=wk WA ns 1 nx (first+i*64) (led2,hs2):=rfl
         rw [hckR] at hcall
         have hadd:=wk_adds (D:=WA) (ns:=ns) (l:=1) nx (first+i*64) (led2,hs2)
         rw [show (8:Nat)^2=64 from rfl] at hfin
         obtain ⟨⟨b3,led3,hs3⟩,hR3⟩:∃ R,R=wk WA ns 1 nx (first+i*64) (led2,hs2):=⟨_,rfl⟩
         rw [← hR3] at hcall hfin hadd
         clear hR3 hckR hckk
         simp only [addsB] at hcall hfin hadd
         rw [hl2] at hcall hadd
         rw [hadd.1] at hcall
         rw [← hrec] at hcall
         have hfI:((first+i*64:Nat):Int)=(first:Int)+(i:Int)*64:=by omega
         rw [hfI,show ((1:Nat):Int)=(1:Int) from rfl] at hcall
         obtain ⟨v3,hv3⟩:∃ v3,v3=v+(hs3.length - hs2.length):=⟨_,rfl⟩
         rw [← hv3] at hcall
         cases b3 with
         | false =>
          simp only [Bool.false_eq_true,if_false] at hfin
          subst hfin
          simp only
          have zS:=jj hiI<|jj hi8<|jj hgn<|jj hgnE<|jj hw8<|jj hwE<|jj hwl<|jj hd'<|jj hsu2<|jj hn<|jj hnN<|jj hget<|hcall
          repeat' (first|(apply aw_seq_k;intro K hK)|(refine eM64 ?_)|(refine aw_cond (b:=_) (by exact rfl) (fun h=>?_) (fun h=>?_)<;>(try simp at h))|(refine eB ?_)|(refine hK _ ?_;clear hK)|(clear hK;refine hK _ ?_;clear hK)|(clear hK;clear hK;refine hK _ ?_;clear hK)|(clear hK;clear hK;clear hK;refine hK _ ?_;clear hK))
          all_goals clear zS
          refine ⟨by simp,_,by simp [aResults,aResult,Tryz.f116];rfl,?_⟩
          simp only [show 1+(hs3.length - h0)=v3 by omega,idx]
          exact dle
         | true =>
          simp only [if_true] at hfin
          have zS:=jj hiI<|jj hi8<|jj hgn<|jj hgnE<|jj hw8<|jj hwE<|jj hwl<|jj hd'<|jj hsu2<|jj hn<|jj hnN<|jj hget<|hcall
          repeat' (first|(apply aw_seq_k;intro K hK)|(refine eM64 ?_)|(refine aw_cond (b:=_) (by exact rfl) (fun h=>?_) (fun h=>?_)<;>(try simp at h))|(refine eB ?_)|(refine hK _ ?_;clear hK)|(clear hK;refine hK _ ?_;clear hK)|(clear hK;clear hK;refine hK _ ?_;clear hK)|(clear hK;clear hK;clear hK;refine hK _ ?_;clear hK))
          all_goals clear zS
          refine ⟨i+1,led3,hs3,?_,⟨by omega,hadd.1,by omega,by omega,by rw [hk7];exact hfin.symm⟩,by omega⟩
          simp only [show 1+(hs3.length - h0)=v3 by omega]
          exact dle
       ·have hfin:=pl hok1 hhg (by rw [htb,if_neg hk4])
        clear bad hug lost rcr hone hflat
        rcases Decidable.em (k=1) with hk1|hk1
        ·subst hk1
         have hh0:h=false:=by cases h with|false=>rfl|true=>exact absurd ⟨rfl,rfl⟩ hk
         subst hh0
         have zS:=jj hiI<|jj hi8<|jj hgn<|jj hgnE<|jj hw8<|jj hwE<|jj hwl<|jj hd'<|jj hsu2<|jj hn<|hnN
         repeat' (first|(apply aw_seq_k;intro K hK)|(refine eM64 ?_)|(refine aw_cond (b:=_) (by exact rfl) (fun h=>?_) (fun h=>?_)<;>(try simp at h))|(refine eB ?_)|(refine hK _ ?_;clear hK)|(clear hK;refine hK _ ?_;clear hK)|(clear hK;clear hK;refine hK _ ?_;clear hK)|(clear hK;clear hK;clear hK;refine hK _ ?_;clear hK))
         all_goals clear zS
         refine ⟨i+1,led2,hs2,?_,⟨by omega,hl2,by omega,by omega,by rw [hk7];exact hfin.symm⟩,by omega⟩
         simp only [← hv]
         exact dle
        ·have zS:=jj hiI<|jj hi8<|jj hgn<|jj hgnE<|jj hw8<|jj hwE<|jj hwl<|jj hd'<|jj hsu2<|jj hn<|jj hnN<|jj hk1<|hk4
         repeat' (first|(apply aw_seq_k;intro K hK)|(refine eM64 ?_)|(refine aw_cond (b:=_) (by exact rfl) (fun h=>?_) (fun h=>?_)<;>(try simp at h))|(refine eB ?_)|(refine hK _ ?_;clear hK)|(clear hK;refine hK _ ?_;clear hK)|(clear hK;clear hK;refine hK _ ?_;clear hK)|(clear hK;clear hK;clear hK;refine hK _ ?_;clear hK))
         all_goals clear zS
         refine ⟨i+1,led2,hs2,?_,⟨by omega,hl2,by omega,by omega,by rw [hk7];exact hfin.symm⟩,by omega⟩
         simp only [← hv]
         exact dle
    ·have hfin:=bad (by rw [hok];simp [he])
     subst hfin
     simp only
     clear pl hug lost rcr hone hflat
     have zS:=jj hiI<|jj hi8<|jj hgn<|jj hgnE<|jj hw8<|jj hwE<|jj hwl<|jj hd'<|jj he<|jj hn<|hnN
     repeat' (first|(apply aw_seq_k;intro K hK)|(refine eM64 ?_)|(refine aw_cond (b:=_) (by exact rfl) (fun h=>?_) (fun h=>?_)<;>(try simp at h))|(refine eB ?_)|(refine hK _ ?_;clear hK)|(clear hK;refine hK _ ?_;clear hK)|(clear hK;clear hK;refine hK _ ?_;clear hK)|(clear hK;clear hK;clear hK;refine hK _ ?_;clear hK))
     all_goals clear zS
     refine ⟨by simp,_,by simp [aResults,aResult,Tryz.f116];rfl,?_⟩
     simp only [← hv,idx]
     exact dle
   ·obtain rfl:i=8:=by omega
    simp only [Nat.sub_self,wkF] at hst
    subst hst
    simp only
    repeat' (first|(apply aw_seq_k;intro K hK)|(refine eM64o ?_)|(refine aw_cond (b:=_) (by exact rfl) (fun h=>?_) (fun h=>?_)<;>(try simp at h))|(refine eB ?_)|(refine hK _ ?_;clear hK)|(clear hK;refine hK _ ?_;clear hK)|(clear hK;clear hK;refine hK _ ?_;clear hK)|(clear hK;clear hK;clear hK;refine hK _ ?_;clear hK))
    refine ⟨by simp,_,by simp [aResults,aResult,Tryz.f116];rfl,?_⟩
    simp only [← hv,idx]
    exact dle
end Go.AM
namespace Go.AM
open Go Go.Proofs
theorem fstG_mem {α:Type} [DecidableEq α] {l:List α} {v:α}:0≤fstG (fun x=>decide (x=v)) l↔v∈l:=by
 rw [fstG_pos]
 constructor
 ·rintro ⟨j,hj,e⟩
  simp only [decide_eq_true_eq] at e
  rw [← e];exact List.getElem_mem hj
 ·intro h
  obtain ⟨j,hj,e⟩:=List.getElem_of_mem h
  exact ⟨j,hj,by simp [e]⟩
noncomputable def FIxB:List AV→Option AV:=specF (ι:={x:List Bool×Bool // x.1.length≤9223372036854775807}) (fun x=>[.rd 1 (brows x.1.1),B x.1.2]) fun x=>retOf [I (fstG (fun y=>decide (y=x.1.2)) x.1.1)]
theorem FIxB_at {l:List Bool} {v:Bool} (h:l.length≤9223372036854775807):FIxB [.rd 1 (brows l),B v]=some (I (fstG (fun y=>decide (y=v)) l)):=by
 refine specF_eq (ι:={x:List Bool×Bool // x.1.length≤9223372036854775807}) (A:=fun x=>[.rd 1 (brows x.1.1),B x.1.2]) (R:=fun x=>retOf [I (fstG (fun y=>decide (y=x.1.2)) x.1.1)]) ⟨(l,v),h⟩ fun j e=>?_
 obtain ⟨⟨l',v'⟩,h'⟩:=j
 simp only [List.cons.injEq,AV.rd.injEq,true_and,brows_inj,B,AV.v.injEq,Value.bool.injEq,and_true] at e
 obtain ⟨rfl,rfl⟩:=e
 rfl
theorem s182 (X:AX) (hX:XOK Tryz.prog X):PSound Tryz.prog 182 FIxB:=by
 unfold FIxB
 refine psound_spec hX mixed Tryz.func182 rfl fun ⟨⟨l,v⟩,hl⟩ w0 G=>⟨by show 2≤19;decide,rfl,?_⟩
 show AW ⟨Tryz.prog,X,19,w0,.pure G⟩ _ _ _
 have hc:Cx.OK ⟨Tryz.prog,X,19,w0,.pure G⟩:=⟨hX,mixed⟩
 simp only at hl ⊢
 repeat' (first|(apply aw_seq_k;intro K hK)|(refine eM64o ?_)|(refine aw_cond (b:=_) (by exact rfl) (fun h=>?_) (fun h=>?_)<;>(try simp at h))|(refine eB ?_)|(refine hK _ ?_;clear hK)|(clear hK;refine hK _ ?_;clear hK)|(clear hK;clear hK;refine hK _ ?_;clear hK)|(clear hK;clear hK;clear hK;refine hK _ ?_;clear hK))
 refine aw_loopK (s0:=?lps1) (m0:=?lpm1) (ι:={i:Nat // i≤l.length∧∀ j,j<i→¬ l.getD j false=v}) [0,1,7] (fun i=>[(8,I i.1)]) (fun _=>[]) (fun i=>l.length - i.1) ⟨0,by omega,by omega⟩ ?lhs1 ?lhm1 ?_ ?_
 case lhs1=>first|(simp [keepS];done)|(simp [keepS];rfl)
 case lhm1=>first|rfl|(simp;done)|(simp;rfl)
 ·exact dle
 ·rintro ⟨i,hi,hinv⟩
  simp only
  rcases Decidable.em (i<l.length) with hil|hil
  ·have hilI:(i:Int)<(l.length:Int):=by omega
   have hg:=brows_gi hil
   have hgE:=brows_gE hil
   have hat:=fstG_at (p:=fun y:Bool=>decide (y=v)) hil
   have hge:l[i]=l.getD i false:=by rw [List.getD_eq_getElem?_getD,List.getElem?_eq_getElem hil];rfl
   rw [hge] at hat
   obtain ⟨b,hb⟩:∃ b,b=l.getD i false:=⟨_,rfl⟩
   rw [← hb] at hg hgE hat
   rcases Decidable.em (b=v) with h1|h1
   ·subst h1
    have e:=hat (by simp) fun j hj=>by
     have:=hinv j hj
     rw [List.getD_eq_getElem?_getD,List.getElem?_eq_getElem (by omega)] at this
     simpa using this
    have zS:=jj hilI<|jj hg<|hgE
    repeat' (first|(apply aw_seq_k;intro K hK)|(refine eM64 ?_)|(refine aw_cond (b:=_) (by exact rfl) (fun h=>?_) (fun h=>?_)<;>(try simp at h))|(refine eB ?_)|(refine hK _ ?_;clear hK)|(clear hK;refine hK _ ?_;clear hK)|(clear hK;clear hK;refine hK _ ?_;clear hK)|(clear hK;clear hK;clear hK;refine hK _ ?_;clear hK))
    all_goals clear zS
    refine ⟨by simp,?_⟩
    simp [leaves_iff,Tryz.f182,e]
    try exact dt
   ·have h1':¬ v=b:=fun h=>h1 h.symm
    have h1b:(v == b)=false:=by simpa using h1'
    have zS:=jj hilI<|jj hg<|jj hgE<|jj h1'<|h1b
    repeat' (first|(apply aw_seq_k;intro K hK)|(refine eM64 ?_)|(refine aw_cond (b:=_) (by exact rfl) (fun h=>?_) (fun h=>?_)<;>(try simp at h))|(refine eB ?_)|(refine hK _ ?_;clear hK)|(clear hK;refine hK _ ?_;clear hK)|(clear hK;clear hK;refine hK _ ?_;clear hK)|(clear hK;clear hK;clear hK;refine hK _ ?_;clear hK))
    all_goals clear zS
    refine ⟨i+1,?_,⟨by omega,fun j hj=>?_⟩,by omega⟩
    ·exact dle
    ·rcases Nat.lt_succ_iff_lt_or_eq.1 hj with h2|rfl
     ·exact hinv j h2
     ·first|(rw [← hb];exact h1)|(rw [hb] at h1;simpa using h1)
  ·obtain rfl:i=l.length:=by omega
   have e:fstG (fun y:Bool=>decide (y=v)) l=-1:=fstG_not fun j hj=>by
    have:=hinv j hj
    rw [List.getD_eq_getElem?_getD,List.getElem?_eq_getElem hj] at this
    simpa using this
   repeat' (first|(apply aw_seq_k;intro K hK)|(refine eM64o ?_)|(refine aw_cond (b:=_) (by exact rfl) (fun h=>?_) (fun h=>?_)<;>(try simp at h))|(refine eB ?_)|(refine hK _ ?_;clear hK)|(clear hK;refine hK _ ?_;clear hK)|(clear hK;clear hK;refine hK _ ?_;clear hK)|(clear hK;clear hK;clear hK;refine hK _ ?_;clear hK))
   refine ⟨by simp,?_⟩
   simp [leaves_iff,Tryz.f182,e]
   try exact dt
noncomputable def FCtB:List AV→Option AV:=specF (ι:={x:List Bool×Bool // x.1.length≤9223372036854775807}) (fun x=>[.rd 1 (brows x.1.1),B x.1.2]) fun x=>retOf [B (decide (x.1.2∈x.1.1))]
theorem FCtB_at {l:List Bool} {v:Bool} (h:l.length≤9223372036854775807):FCtB [.rd 1 (brows l),B v]=some (B (decide (v∈l))):=by
 refine specF_eq (ι:={x:List Bool×Bool // x.1.length≤9223372036854775807}) (A:=fun x=>[.rd 1 (brows x.1.1),B x.1.2]) (R:=fun x=>retOf [B (decide (x.1.2∈x.1.1))]) ⟨(l,v),h⟩ fun j e=>?_
 obtain ⟨⟨l',v'⟩,h'⟩:=j
 simp only [List.cons.injEq,AV.rd.injEq,true_and,brows_inj,B,AV.v.injEq,Value.bool.injEq,and_true] at e
 obtain ⟨rfl,rfl⟩:=e
 rfl
theorem s118 (X:AX) (hX:XOK Tryz.prog X) (hi:X.call 182=callP FIxB):PSound Tryz.prog 118 FCtB:=by
 unfold FCtB
 refine psound_spec hX mixed Tryz.func118 rfl fun ⟨⟨l,v⟩,hl⟩ w0 G=>⟨by show 2≤9;decide,rfl,?_⟩
 show AW ⟨Tryz.prog,X,9,w0,.pure G⟩ _ _ _
 have hc:Cx.OK ⟨Tryz.prog,X,9,w0,.pure G⟩:=⟨hX,mixed⟩
 simp only at hl ⊢
 have hat:=FIxB_at (v:=v) hl
 have hm:=fstG_mem (l:=l) (v:=v)
 obtain ⟨q,hq⟩:∃ q,q=fstG (fun y=>decide (y=v)) l:=⟨_,rfl⟩
 rw [← hq] at hat hm
 rcases Decidable.em (0≤q) with h1|h1
 ·have e:decide (v∈l)=true:=decide_eq_true (hm.1 h1)
  have zS:=jj hi<|jj hat<|h1
  refine dM64 ?_
  repeat (intro K hK)
  clear zS
  refine ⟨by simp,?_⟩
  simp [leaves_iff,Tryz.f118,e]
  try exact dt
 ·have e:decide (v∈l)=false:=decide_eq_false fun h=>h1 (hm.2 h)
  have zS:=jj hi<|jj hat<|h1
  refine dM64 ?_
  repeat (intro K hK)
  clear zS
  refine ⟨by simp,?_⟩
  simp [leaves_iff,Tryz.f118,e]
  try exact dt
theorem irows_gE {l:List Int} {n:Nat} (h:n<l.length):∀ h',(irows l)[n]'(h')=[I (gi l n)]:=fun h'=>by
 have hg:=irows_gi h
 rw [List.getElem?_eq_getElem h'] at hg
 exact Option.some.inj hg
end Go.AM
namespace Go.AM
open Go Go.Proofs
set_option maxHeartbeats 2000000 in
set_option maxRecDepth 4000 in
theorem callCkT {l:Nat} {t:Tb} {n f:Nat} {led:List Bool} {hs:List Int} (h:ckOK l (t,n,f,led,hs)) {v:Nat} (hv:1≤v) {fl1 fl2:Bool} (M:Nat→AO) (nid:Nat)
  (h0:M 240=.box [.sl 224 1 1 0 led.length]) (h1:M 224=.vec 1 1 fl1 (brows led)) (h2:M 0=.box [I t.1,.rd 9 (nrows t.2.1),.rd 2 (prows t.2.2)]) (h3:M 272=.box [.sl 336 v 1 0 hs.length]) (h4:M 336=.vec v 1 fl2 (irows hs)) (h5:M 144=.box [.mp 128 1]) (h6:M 128=.map 1 1 (idxE t.2.1 t.2.1.length)) (h7:M 288=.box [.fn 116 [.bp 240 0,.bp 0 0,.bp 272 0,.bp 144 0,.bp 288 0]]) :
  callG (ckS l) [I n,I l,I f,.bp 240 0,.bp 0 0,.bp 272 0,.bp 144 0,.bp 288 0] M nid=some (B (ckR l (t,n,f,led,hs)).1,[(240,.box [.sl 224 1 1 0 (ckR l (t,n,f,led,hs)).2.1.length]),(224,.vec 1 1 false (brows (ckR l (t,n,f,led,hs)).2.1)),(0,.box [I t.1,.rd 9 (nrows t.2.1),.rd 2 (prows t.2.2)]),(272,.box [.sl 336 (v+((ckR l (t,n,f,led,hs)).2.2.length - hs.length)) 1 0 (ckR l (t,n,f,led,hs)).2.2.length]),(336,.vec (v+((ckR l (t,n,f,led,hs)).2.2.length - hs.length)) 1 false (irows (ckR l (t,n,f,led,hs)).2.2)),(144,.box [.mp 128 1]),(128,.map 1 1 (idxE t.2.1 t.2.1.length)),(288,.box [.fn 116 [.bp 240 0,.bp 0 0,.bp 272 0,.bp 144 0,.bp 288 0]])]):=by
 have hF:=ckS_at h
 simp only [ckA,ckM] at hF
 obtain ⟨R,hR⟩:∃ R,R=ckR l (t,n,f,led,hs):=⟨_,rfl⟩
 rw [← hR] at hF ⊢
 have hvv:1+(R.2.2.length - hs.length)+(v - 1)=v+(R.2.2.length - hs.length):=by omega
 have hv0:¬ v=0:=by omega
 unfold callG
 have hg:gat M 64 (nmsL [I n,I l,I f,.bp 240 0,.bp 0 0,.bp 272 0,.bp 144 0,.bp 288 0]) []=[240,224,0,272,336,144,128,288]:=by
  simp [gat,nmsL,AV.nms,AO.nms,h0,h1,h2,h3,h4,h5,h6,h7]
 simp only [hg]
 rw [if_pos ?cg]
 case cg=>simp [CallG,nmsL,AV.nms,AO.nms,Led,curBL,AV.curB,AO.curB,verOf,notDead,h0,h1,h2,h3,h4,h5,h6,h7]
 simp [renL,AV.ren,AO.ren,posN,canO,nmsL,h0,h1,h2,h3,h4,h5,h6,h7,hF,RetG,getL,AV.nms,AO.nms,updN,nmN,shN,verOf,hvv,rng,Led]
end Go.AM
