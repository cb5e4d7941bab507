/- A part of the proof: what functions of the program compute, by abstract execution of their code. Its theorems hold without further condition. -/
import Derived.Test.YtcfhmdljeeppfaaGreatSPt72
import Derived.Test.YtcfhmdljeeppfaaGreatSAmZa
import Derived.Test.YtcfhmdljeeppfaaGreatSAmS
set_option linter.all false
namespace Go.AM
open Go Go.Proofs
set_option maxRecDepth 4000
theorem open_tab {t:Tb} {e:Int} {n:Nat}:openRet n (retOf [TbO t,I e])=(.tup [TbC t n,I e],outT t n,n+2):=by
 simp [retOf,openRet,openVals,openVal,openLeaves,openLeaf,TbO,TbC,outT]
theorem open_clr {t:Tb} {w:Nat} {l:List Int} {e:Int} {n:Nat}:openRet n (retOf [TbO t,U w,.ow 1 (irows l),I e])=(.tup [TbC t n,U w,.sl (n+2) 1 1 0 l.length,I e],outT t n++[(n+2,.vec 1 1 false (irows l))],n+3):=by
 simp [retOf,openRet,openVals,openVal,openLeaves,openLeaf,TbO,TbC,outT,U]
theorem open_rep {t:Tb} {w:Nat} {e:Int} {n:Nat}:openRet n (retOf [TbO t,U w,I e])=(.tup [TbC t n,U w,I e],outT t n,n+2):=by
 simp [retOf,openRet,openVals,openVal,openLeaves,openLeaf,TbO,TbC,outT,U]
theorem open_irow {l:List Int} {n:Nat}:openRet n (retOf [.ow 1 (irows l)])=(.sl n 1 1 0 l.length,[(n,.vec 1 1 false (irows l))],n+1):=by
 simp [retOf,openRet,openVal,openLeaf]
theorem open_erow {l:List Pe} {n:Nat}:openRet n (retOf [.ow 2 (erows l)])=(.sl n 1 2 0 l.length,[(n,.vec 1 2 false (erows l))],n+1):=by
 simp [retOf,openRet,openVal,openLeaf,erows]
theorem oSt {R:StD→AV} {x:StD} (h:stOK x) {p vp q vq c vc:Nat} {fc:Bool} {M:Nat→AO} (hM:OwT M x.1 p vp q vq) (hc:M c=.vec vc 1 fc (irows x.2.2.2)) (n:Nat) {a:AV} {u:List (Nat×AO)} {k:Nat} (ho:openRet n (R x)=(a,u,k)) (hk:k≤n+16) :
  callP (specF (ι:={x:StD // stOK x}) (fun x=>[TbV x.1.1,I x.1.2.1,U x.1.2.2.1,.rd 1 (irows x.1.2.2.2)]) fun x=>R x.1) [TbS x.1 p vp q vq,I x.2.1,U x.2.2.1,.sl c vc 1 0 x.2.2.2.length] M n=some (a,u):=by
 have tk:List.take x.2.2.2.length (irows x.2.2.2)=irows x.2.2.2:=List.take_of_length_le (by simp)
 rw [callP_spec (ι:={x:StD // stOK x}) (A:=fun x=>[TbV x.1.1,I x.1.2.1,U x.1.2.2.1,.rd 1 (irows x.1.2.2.2)]) (R:=fun x=>R x.1) ⟨x,h⟩ (peek_tab hM (by simp [U,hc,tk])) ?_ (by rw [ho];exact hk),ho]
 rintro ⟨⟨t',p',w',fs'⟩,h'⟩ e
 obtain ⟨t,p,w,fs⟩:=x
 simp only [List.cons.injEq,TbV_inj,U,I,AV.v.injEq,Value.int.injEq,true_and,and_true,AV.rd.injEq,irows_inj,Int.ofNat_inj] at e
 obtain ⟨rfl,rfl,rfl,rfl⟩:=e;rfl
theorem oEi {l m:List Int} (hl:l.length≤1000000∧m.length≤1000000) {c vc d vd:Nat} {fc fd:Bool} {M:Nat→AO} (hc:M c=.vec vc 1 fc (irows l)) (hd:M d=.vec vd 1 fd (irows m)) (n:Nat):callP EiF [.sl c vc 1 0 l.length,.sl d vd 1 0 m.length] M n=some (B (decide (l=m)),[]):=by
 have tk:List.take l.length (irows l)=irows l:=List.take_of_length_le (by simp)
 have tm:List.take m.length (irows m)=irows m:=List.take_of_length_le (by simp)
 exact callP_spec (ι:={x:List Int×List Int // x.1.length≤1000000∧x.2.length≤1000000}) (A:=fun x=>[.rd 1 (irows x.1.1),.rd 1 (irows x.1.2)]) (R:=fun x=>retOf [B (decide (x.1.1=x.1.2))]) ⟨(l,m),hl⟩ (by simp [hc,hd,tk,tm]) (by
  rintro ⟨⟨l',m'⟩,h'⟩ e
  simp only [List.cons.injEq,AV.rd.injEq,irows_inj,true_and,and_true] at e
  obtain ⟨rfl,rfl⟩:=e;rfl) (by simp)
theorem erows_inj:∀ {a b:List Pe},erows a=erows b↔a=b
 | [],[]=>by simp [erows]
 | [],_::_=>by simp [erows]
 | _::_,[]=>by simp [erows]
 | (x,w)::a,(y,v)::b=>by
  have ih:=@erows_inj a b
  simp only [erows] at ih
  simp [erows,erow,U,ih]
  intro _
  omega
theorem oEp {l m:List Pe} (hl:l.length≤1000000∧m.length≤1000000) {c vc d vd:Nat} {fc fd:Bool} {M:Nat→AO} (hc:M c=.vec vc 2 fc (erows l)) (hd:M d=.vec vd 2 fd (erows m)) (n:Nat):callP EpF [.sl c vc 2 0 l.length,.sl d vd 2 0 m.length] M n=some (B (decide (l=m)),[]):=by
 have tk:List.take l.length (erows l)=erows l:=List.take_of_length_le (by simp [erows])
 have tm:List.take m.length (erows m)=erows m:=List.take_of_length_le (by simp [erows])
 have ll:(erows l).length=l.length:=by simp [erows]
 have lm:(erows m).length=m.length:=by simp [erows]
 exact callP_spec (ι:={x:List Pe×List Pe // x.1.length≤1000000∧x.2.length≤1000000}) (A:=fun x=>[.rd 2 (erows x.1.1),.rd 2 (erows x.1.2)]) (R:=fun x=>retOf [B (decide (x.1.1=x.1.2))]) ⟨(l,m),hl⟩ (by simp [hc,hd,tk,tm,ll,lm]) (by
  rintro ⟨⟨l',m'⟩,h'⟩ e
  simp only [List.cons.injEq,AV.rd.injEq,erows_inj,true_and,and_true] at e
  obtain ⟨rfl,rfl⟩:=e;rfl) (by simp)
theorem SaF_at {a b:Tb} (ha:tbOK a) (hb:tbOK b):SaF [TbV a,TbV b]=some (B (decide (a=b))):=by
 refine specF_eq (ι:={x:Tb×Tb // tbOK x.1∧tbOK x.2}) (A:=fun x=>[TbV x.1.1,TbV x.1.2]) (R:=fun x=>retOf [B (decide (x.1.1=x.1.2))]) ⟨(a,b),ha,hb⟩ fun j e=>?_
 obtain ⟨⟨a',b'⟩,h'⟩:=j
 simp only [List.cons.injEq,TbV_inj,and_true] at e
 obtain ⟨rfl,rfl⟩:=e;rfl
theorem oSa {a b:Tb} (ha:tbOK a) (hb:tbOK b) {avs:List AV} {M:Nat→AO} (hp:(peekVals M avs).map (List.map (nilV 2))=some [TbV a,TbV b]) (n:Nat):callP (fun avs=>SaF (avs.map (nilV 2))) avs M n=some (B (decide (a=b)),[]):=by
 unfold callP
 cases h:peekVals M avs with
 | none=>rw [h] at hp;simp at hp
 | some l =>
  rw [h] at hp
  simp only [Option.map_some,Option.some.injEq] at hp
  simp only [hp,SaF_at ha hb]
  simp
theorem tab2 {a b:Tb} {M:Nat→AO} {p vp q vq p' vp' q' vq':Nat} (h:OwT M a p vp q vq) (h':OwT M b p' vp' q' vq'):(peekVals M [TbS a p vp q vq,TbS b p' vp' q' vq']).map (List.map (nilV 2))=some [TbV a,TbV b]:=by
 rw [peek_tab h (rs:=[TbV b]) (peek_tab h' rfl)]
 simp [TbV,nilV,nilA]
theorem okA:tbOK aT:=by unfold tbOK ndOK;decide +kernel
theorem okB:tbOK bT:=by unfold tbOK ndOK;decide +kernel
theorem okH:tbOK hT:=by unfold tbOK ndOK;decide +kernel
theorem okS:tbOK sT:=by unfold tbOK ndOK;decide +kernel
theorem chkB':chk bT=0:=chkC_ok bC
theorem exaA:Exa TeA where
 ok:=teA
 w:=w0T
 new:=fun M n=>by
  have h:=cNe 10 M n
  rw [newA] at h
  exact h
 mis:=fun a va b vb f1 f2 M n h1 h2=>by
  have h:=oT2 (D:=fun t _=>tbOK t) (R:=fun t x=>retOf [I (missT t x).1,I (missT t x).2]) (t:=aT) (x:=70) okA (M:=M) ⟨⟨f1,h1⟩,f2,h2⟩ n rfl (by simp [retOf,openRet,openVals,openVal,openLeaves,openLeaf,U])
  rw [missA] at h
  exact h
 set:=fun a va b vb c vc f1 f2 f3 M n h1 h2 h3=>by
  have h:=oSt (R:=fun x=>retOf [TbO (setP x.1 x.2.1 x.2.2.1 x.2.2.2).1,I (setP x.1 x.2.1 x.2.2.1 x.2.2.2).2]) (x:=(aT,70,1305,[11,12])) ⟨okA,by decide,by decide,by decide⟩ (M:=M) ⟨⟨f1,h1⟩,f2,h2⟩ h3 n open_tab (by omega)
  simp only [setA] at h
  exact h
 sam1:=fun a va b vb fa fb c vc fc M n h1 h2 h3=>by
  have h:=oSa okB okB (avs:=[TbS bT a va b vb,.agg [I 10,.sl c vc 9 0 3,.v (.slice none 0 0)]]) (M:=M) (by
   rw [peek_tab (t:=bT) ⟨⟨fa,h1⟩,fb,h2⟩ (rs:=[.agg [I 10,.rd 9 (nrows bT.2.1),.v (.slice none 0 0)]]) (by simp [h3];rfl)]
   simp [TbV,nilV,nilA]
   exact ⟨rfl,rfl⟩) n
  rw [decide_eq_true rfl] at h
  exact h
 chk:=fun a va b vb fa fb M n h1 h2=>by
  have h:=oT1 (D:=tbOK) (R:=fun t=>retOf [I (chk t)]) okB (M:=M) ⟨⟨fa,h1⟩,fb,h2⟩ n rfl (by simp [retOf,openRet,openVals,openVal,openLeaves,openLeaf,U])
  rw [chkB'] at h
  exact h
 wl1:=fun a va b vb fa fb M n h1 h2=>by
  have h:=oT2 (D:=fun t _=>tbOK t) (R:=fun t x=>retOf [U (walkT t x).1,I (walkT t x).2.1,I (walkT t x).2.2]) (t:=bT) (x:=70) okB (M:=M) ⟨⟨fa,h1⟩,fb,h2⟩ n rfl (by simp [retOf,openRet,openVals,openVal,openLeaves,openLeaf,U])
  rw [walkB] at h
  exact h
 wl2:=fun a va b vb fa fb M n h1 h2=>by
  have h:=oT2 (D:=fun t _=>tbOK t) (R:=fun t x=>retOf [U (walkT t x).1,I (walkT t x).2.1,I (walkT t x).2.2]) (t:=bT) (x:=80) okB (M:=M) ⟨⟨fa,h1⟩,fb,h2⟩ n rfl (by simp [retOf,openRet,openVals,openVal,openLeaves,openLeaf,U])
  rw [walkB'] at h
  exact h
 clr:=fun a va b vb fa fb M n h1 h2=>by
  have h:=oT2 (D:=fun t _=>tbOK t∧t.2.1.length≤999000) (R:=fun t x=>retOf [TbO (clrP t x).1,U (clrP t x).2.1,.ow 1 (irows (clrP t x).2.2.1),I (clrP t x).2.2.2]) (t:=bT) (x:=70) ⟨okB,by decide⟩ (M:=M) ⟨⟨fa,h1⟩,fb,h2⟩ n open_clr (by omega)
  rw [clrB'] at h
  exact h
 sam2:=fun a va b vb fa fb a1 va1 b1 vb1 fa1 fb1 M n h1 h2 h3 h4=>by
  have h:=oSa okA okA (M:=M) (tab2 ⟨⟨fa,h1⟩,fb,h2⟩ ⟨⟨fa1,h3⟩,fb1,h4⟩) n
  rw [decide_eq_true rfl] at h
  exact h
 eq2:=fun c vc d vd fc fd M n h1 h2=>by
  have h:=oEi (l:=[12,11]) (m:=[12,11]) (by decide) h1 h2 n
  rw [decide_eq_true rfl] at h
  exact h
 seth:=fun a va b vb fa fb c vc fc M n h1 h2 h3=>by
  have h:=oSt (R:=fun x=>retOf [TbO (setH x.1 x.2.1 x.2.2.1 x.2.2.2).1,I (setH x.1 x.2.1 x.2.2.1 x.2.2.2).2]) (x:=(aT,9,4201,[11,12])) ⟨okA,by decide,by decide,by decide⟩ (M:=M) ⟨⟨fa,h1⟩,fb,h2⟩ h3 n open_tab (by omega)
  simp only [setHA] at h
  exact h
 spl:=fun a va b vb fa fb M n h1 h2=>by
  have h:=oT2 (D:=fun t _=>tbOK t∧t.2.1.length≤999000) (R:=fun t x=>retOf [TbO (splP t x).1,I (splP t x).2]) (t:=hT) (x:=9) ⟨okH,by decide⟩ (M:=M) ⟨⟨fa,h1⟩,fb,h2⟩ n open_tab (by omega)
  rw [splH] at h
  exact h
 wl3:=fun a va b vb fa fb M n h1 h2=>by
  have h:=oT2 (D:=fun t _=>tbOK t) (R:=fun t x=>retOf [U (walkT t x).1,I (walkT t x).2.1,I (walkT t x).2.2]) (t:=sT) (x:=75) okS (M:=M) ⟨⟨fa,h1⟩,fb,h2⟩ n rfl (by simp [retOf,openRet,openVals,openVal,openLeaves,openLeaf,U])
  rw [walkS] at h
  exact h
 hg1:=fun a va b vb fa fb M n h1 h2=>by
  have h:=oT2 (D:=fun t _=>tbOK t) (R:=fun t x=>retOf [B (hugeT t x)]) (t:=hT) (x:=9) okH (M:=M) ⟨⟨fa,h1⟩,fb,h2⟩ n rfl (by simp [retOf,openRet,openVals,openVal,openLeaves,openLeaf,U])
  rw [hugeH] at h
  exact h
 hg2:=fun a va b vb fa fb M n h1 h2=>by
  have h:=oT2 (D:=fun t _=>tbOK t) (R:=fun t x=>retOf [B (hugeT t x)]) (t:=sT) (x:=9) okS (M:=M) ⟨⟨fa,h1⟩,fb,h2⟩ n rfl (by simp [retOf,openRet,openVals,openVal,openLeaves,openLeaf,U])
  rw [hugeS] at h
  exact h
 frm:=fun a va b vb fa fb M n h1 h2=>by
  have h:=oT1 (D:=tbOK) (R:=fun t=>retOf [.ow 1 (irows (frmT t))]) (t:=hT) okH (M:=M) ⟨⟨fa,h1⟩,fb,h2⟩ n open_irow (by omega)
  rw [frmH] at h
  exact h
 eq3:=fun c vc d vd fc fd M n h1 h2=>by
  have h:=oEi (l:=[10,11,12]) (m:=[10,11,12]) (by decide) h1 h2 n
  rw [decide_eq_true rfl] at h
  exact h
 lst:=fun a va b vb fa fb M n h1 h2=>by
  have h:=oT1 (D:=tbOK) (R:=fun t=>retOf [.ow 2 (erows (lstT t))]) (t:=hT) okH (M:=M) ⟨⟨fa,h1⟩,fb,h2⟩ n open_erow (by omega)
  rw [lstH] at h
  exact h
 eqe:=fun c vc d vd fc fd M n h1 h2=>by
  have h:=oEp (l:=[(72,4201)]) (m:=[(72,4201)]) (by decide) h1 h2 n
  rw [decide_eq_true rfl] at h
  exact h
noncomputable def AwF:List AV→Option AV:=specF (ι:=Unit) (fun _=>[]) fun _=>retOf [B true]
theorem cAw (M:Nat→AO) (n:Nat):callP AwF [] M n=some (B true,[]):=callP_spec (ι:=Unit) (A:=fun _=>[]) (R:=fun _=>retOf [B true]) () rfl (fun _ _=>rfl) (by simp)
noncomputable def TeB:AX:=TeA.add 34 (callP AwF)
theorem teB:XOK Tryz.prog TeB:=xok_spec teA (s34 TeA exaA) (fun _=>trivial) Tryz.func34 (by kernel_rfl)
end Go.AM
namespace Go.AM
open Go Go.Proofs
def SamO (X:AX) (t:Tb):Prop:=∀ (a0 va0 b0 vb0:Nat) (fa0 fb0:Bool) (a1 va1 b1 vb1:Nat) (fa1 fb1:Bool) (M:Nat→AO) (n:Nat),M a0=.vec va0 9 fa0 (nrows t.2.1)→M b0=.vec vb0 2 fb0 (prows t.2.2)→M a1=.vec va1 9 fa1 (nrows t.2.1)→M b1=.vec vb1 2 fb1 (prows t.2.2) →
 X.call 31 [.agg [I t.1,.sl a0 va0 9 0 t.2.1.length,.sl b0 vb0 2 0 t.2.2.length],.agg [I t.1,.sl a1 va1 9 0 t.2.1.length,.sl b1 vb1 2 0 t.2.2.length]] M n=some (B true,[])
def EqiO (X:AX) (l:List Int):Prop:=∀ (c vc d vd:Nat) (fc fd:Bool) (M:Nat→AO) (n:Nat),M c=.vec vc 1 fc (irows l)→M d=.vec vd 1 fd (irows l)→X.call 46 [.sl c vc 1 0 l.length,.sl d vd 1 0 l.length] M n=some (B true,[])
def EqpO (X:AX) (l:List Pe):Prop:=∀ (c vc d vd:Nat) (fc fd:Bool) (M:Nat→AO) (n:Nat),M c=.vec vc 2 fc (erows l)→M d=.vec vd 2 fd (erows l)→X.call 43 [.sl c vc 2 0 l.length,.sl d vd 2 0 l.length] M n=some (B true,[])
theorem samO {X:AX} (h:X.call 31=callP fun avs=>SaF (avs.map (nilV 2))) {t:Tb} (ht:tbOK t):SamO X t:=fun a va b vb fa fb a1 va1 b1 vb1 fa1 fb1 M n h1 h2 h3 h4=>by
 have k:=oSa ht ht (M:=M) (tab2 ⟨⟨fa,h1⟩,fb,h2⟩ ⟨⟨fa1,h3⟩,fb1,h4⟩) n
 rw [decide_eq_true rfl] at k
 rw [h]
 exact k
theorem eqiO {X:AX} (h:X.call 46=callP EiF) {l:List Int} (hl:l.length≤1000000):EqiO X l:=fun c vc d vd fc fd M n h1 h2=>by
 have k:=oEi (l:=l) (m:=l) ⟨hl,hl⟩ h1 h2 n
 rw [decide_eq_true rfl] at k
 rw [h]
 exact k
theorem eqpO {X:AX} (h:X.call 43=callP EpF) {l:List Pe} (hl:l.length≤1000000):EqpO X l:=fun c vc d vd fc fd M n h1 h2=>by
 have k:=oEp (l:=l) (m:=l) ⟨hl,hl⟩ h1 h2 n
 rw [decide_eq_true rfl] at k
 rw [h]
 exact k
def tbF (t:Tb):Prop:=∀ n∈t.2.1,ndOK n
theorem tbF_ok {t:Tb} (h:tbF t) (hf:t.2.1.length≤80∧t.2.2.length≤70):tbOK t:=⟨h,by omega,by omega⟩
theorem lstT_len {t:Tb}:(lstT t).length≤1000000:=by
 unfold lstT
 split
 ·have:=@lsA_le t 512;omega
 ·simp
theorem frmT_few {t:Tb} (hf:t.2.1.length≤80∧t.2.2.length≤70):(frmT t).length≤1000000:=by
 unfold frmT framesT
 split
 ·simp [nFr,depF];omega
 ·simp
structure LawP (X:AX):Prop where
 ok:XOK Tryz.prog X
 w:X.W wT
 few:∀ (t:Tb) (M:Nat→AO) (n:Nat),X.call 33 [TbV t] M n=some (B (decide (t.2.1.length≤80∧t.2.2.length≤70)),[])
 aw:∀ (M:Nat→AO) (n:Nat),X.call 34 [] M n=some (B true,[])
 same:∀ t:Tb,tbOK t→SamO X t
 eqi:∀ l:List Int,l.length≤1000000→EqiO X l
 eqp:∀ l:List Pe,l.length≤1000000→EqpO X l
theorem lawP:LawP TeB:=⟨teB,w0T,fun t M n=>cFew t M n,fun M n=>cAw M n,fun t h=>samO rfl h,fun l h=>eqiO rfl h,fun l h=>eqpO rfl h⟩
structure LawC (X:AX):Prop extends LawP X where
 wa:∀ (t:Tb) (x:Int),tbOK t→∀ M n,X.call 35 [TbV t,I x] M n=some (.tup [U (walkT t x).1,I (walkT t x).2.1,I (walkT t x).2.2],[])
 wa':∀ (t:Tb) (x:Int),tbOK t→∀ M n,X.call 36 [TbV t,I x] M n=some (.tup [U (walkT t x).1,I (walkT t x).2.1,I (walkT t x).2.2],[])
 mi:∀ (t:Tb) (x:Int),tbOK t→∀ M n,X.call 37 [TbV t,I x] M n=some (.tup [I (missT t x).1,I (missT t x).2],[])
 mi':∀ (t:Tb) (x:Int),tbOK t→∀ M n,X.call 38 [TbV t,I x] M n=some (.tup [I (missT t x).1,I (missT t x).2],[])
 ch:∀ t:Tb,tbOK t→∀ M n,X.call 39 [TbV t] M n=some (I (chk t),[])
 ch':∀ t:Tb,tbOK t→∀ M n,X.call 40 [TbV t] M n=some (I (chk t),[])
 hu:∀ (t:Tb) (x:Int),tbOK t→∀ M n,X.call 41 [TbV t,I x] M n=some (B (hugeT t x),[])
 hu':∀ (t:Tb) (x:Int),tbOK t→∀ M n,X.call 42 [TbV t,I x] M n=some (B (hugeT t x),[])
 li:∀ t:Tb,tbOK t→∀ M n,X.call 44 [TbV t] M n=some (.sl n 1 2 0 (lstT t).length,[(n,.vec 1 2 false (erows (lstT t)))])
 li':∀ t:Tb,tbOK t→∀ M n,X.call 45 [TbV t] M n=some (.sl n 1 2 0 (lstT t).length,[(n,.vec 1 2 false (erows (lstT t)))])
 fr:∀ t:Tb,tbOK t→∀ M n,X.call 47 [TbV t] M n=some (.sl n 1 1 0 (frmT t).length,[(n,.vec 1 1 false (irows (frmT t)))])
 fr':∀ t:Tb,tbOK t→∀ M n,X.call 48 [TbV t] M n=some (.sl n 1 1 0 (frmT t).length,[(n,.vec 1 1 false (irows (frmT t)))])
theorem cLi (t:Tb) (ht:tbOK t) (M:Nat→AO) (n:Nat):callP LiF [TbV t] M n=some (.sl n 1 2 0 (lstT t).length,[(n,.vec 1 2 false (erows (lstT t)))]):=cT1 (D:=tbOK) (R:=fun t=>retOf [.ow 2 (erows (lstT t))]) ht M n open_erow (by omega)
theorem cFr (t:Tb) (ht:tbOK t) (M:Nat→AO) (n:Nat):callP FrF [TbV t] M n=some (.sl n 1 1 0 (frmT t).length,[(n,.vec 1 1 false (irows (frmT t)))]):=cT1 (D:=tbOK) (R:=fun t=>retOf [.ow 1 (irows (frmT t))]) ht M n open_irow (by omega)
theorem lawC:LawC TeB:=⟨lawP,fun t x h M n=>cWa t x h M n,fun t x h M n=>cWa t x h M n,fun t x h M n=>cMi t x h M n,fun t x h M n=>cMi t x h M n,fun t h M n=>cCh t h M n,fun t h M n=>cCh t h M n,fun t x h M n=>cHu t x h M n,fun t x h M n=>cHu t x h M n,fun t h M n=>cLi t h M n,fun t h M n=>cLi t h M n,fun t h M n=>cFr t h M n,fun t h M n=>cFr t h M n⟩
set_option maxHeartbeats 8000000 in
theorem s6 (X:AX) (L:LawC X):PSound Tryz.prog 6 (specF (ι:={x:Tb×Int // tbF x.1}) (fun x=>[TbV x.1.1,I x.1.2]) fun _=>retOf [B true]):=by
 have hX:=L.ok
 have hw:=L.w
 refine psound_spec hX mixed Tryz.func6 rfl fun ⟨⟨⟨r,ns,ds⟩,p⟩,htf⟩ w0 G=>⟨by show 2≤101;decide,rfl,?_⟩
 show AW ⟨Tryz.prog,X,101,w0,.pure G⟩ _ _ _
 have hc:Cx.OK ⟨Tryz.prog,X,101,w0,.pure G⟩:=⟨hX,mixed⟩
 have few:=L.few (r,ns,ds)
 have aw:=L.aw
 simp only at few htf ⊢
 rcases Decidable.em (ns.length≤80∧ds.length≤70) with hf|hf
 ·rw [decide_eq_true hf] at few
  have ht:=tbF_ok htf hf
  have wa:=L.wa _ p ht
  have wa':=L.wa' _ p ht
  have mi:=L.mi _ p ht
  have mi':=L.mi' _ p ht
  have ch:=L.ch _ ht
  have ch':=L.ch' _ ht
  have hu:=L.hu _ p ht
  have hu':=L.hu' _ p ht
  have li:=L.li _ ht
  have li':=L.li' _ ht
  have fr:=L.fr _ ht
  have fr':=L.fr' _ ht
  have eqi:=L.eqi _ (frmT_few (t:=(r,ns,ds)) hf)
  have eqp:=L.eqp _ (lstT_len (t:=(r,ns,ds)))
  obtain ⟨⟨w,l,e⟩,hW⟩:∃ x,x=walkT (r,ns,ds) p:=⟨_,rfl⟩
  obtain ⟨⟨m,f⟩,hMi⟩:∃ x,x=missT (r,ns,ds) p:=⟨_,rfl⟩
  obtain ⟨c,hC⟩:∃ x,x=chk (r,ns,ds):=⟨_,rfl⟩
  obtain ⟨h,hH⟩:∃ x,x=hugeT (r,ns,ds) p:=⟨_,rfl⟩
  obtain ⟨ls,hL⟩:∃ x,x=lstT (r,ns,ds):=⟨_,rfl⟩
  obtain ⟨fs,hF⟩:∃ x,x=frmT (r,ns,ds):=⟨_,rfl⟩
  rw [← hW] at wa wa'
  rw [← hMi] at mi mi'
  rw [← hC] at ch ch'
  rw [← hH] at hu hu'
  rw [← hL] at li li' eqp
  rw [← hF] at fr fr' eqi
  unfold EqiO at eqi
  unfold EqpO at eqp
  simp only [TbV,U] at few wa wa' mi mi' ch ch' hu hu' li li' fr fr' ⊢
  have zS:=jj few<|jj aw<|jj wa<|jj wa'<|jj mi<|jj mi'<|jj ch<|jj ch'<|jj hu<|jj hu'<|jj li<|jj li'<|jj fr<|jj fr'<|jj eqi<|eqp
  refine dF64 ?_
  repeat (intro K hK)
  clear zS
  all_goals refine ⟨by simp,?_⟩
  all_goals simp [leaves_iff,Tryz.f6]
  all_goals try exact dt
 ·rw [decide_eq_false hf] at few
  simp only [TbV] at few ⊢
  have zS:=jj few<|aw
  refine dF64 ?_
  repeat (intro K hK)
  clear zS
  all_goals refine ⟨by simp,?_⟩
  all_goals simp [leaves_iff,Tryz.f6]
  all_goals try exact dt
end Go.AM
namespace Go.AM
open Go
def shI:Sh:=.int .i64
def shL:Sh:=.sl [.int .i64]
theorem fitL_one {s:Sh} {xs:List AV} (h:FitL [s] xs):∃ a,xs=[a]∧Fit s a:=by
 match xs,h with
 | [a],h=>simp only [FitL] at h;exact ⟨a,rfl,h.1⟩
 | [],h=>simp [FitL] at h
 | _::_::_,h=>simp [FitL] at h
theorem fit_int {a:AV} (h:Fit shI a):∃ n,a=I n∧-9223372036854775808≤n∧n≤9223372036854775807:=by
 simp only [shI,Fit] at h
 obtain ⟨n,rfl,hw⟩:=h
 refine ⟨n,rfl,?_⟩
 simpa [Lit.wf,IntKind.min,IntKind.max,IntKind.signed,IntKind.bits] using hw
theorem rows_ints:∀ {xs:List (List AV)},(∀ e∈xs,FitL [shI] e)→∃ l,xs=irows l∧∀ x∈l,-9223372036854775808≤x∧x≤9223372036854775807
 | [],_=>⟨[],rfl,by simp⟩
 | e::r,h=>by
  obtain ⟨l,rfl,hl⟩:=rows_ints (xs:=r) fun e' he=>h e' (by simp [he])
  obtain ⟨a,rfl,ha⟩:=fitL_one (h e (by simp))
  obtain ⟨n,rfl,hn⟩:=fit_int ha
  refine ⟨n::l,rfl,fun x hx=>?_⟩
  rcases List.mem_cons.1 hx with rfl|hx
  ·exact hn
  ·exact hl x hx
theorem fit_ints {a:AV} (h:Fit shL a):∃ l,a=.rd 1 (irows l)∧l.length≤maxLen∧∀ x∈l,-9223372036854775808≤x∧x≤9223372036854775807:=by
 simp only [shL,Fit] at h
 obtain ⟨xs,rfl,hm,hx⟩:=h
 obtain ⟨l,rfl,hl⟩:=rows_ints hx
 exact ⟨l,rfl,by simpa using hm,hl⟩
theorem fitL_cons {s:Sh} {r:List Sh} {xs:List AV} (h:FitL (s::r) xs):∃ a ar,xs=a::ar∧Fit s a∧FitL r ar:=by
 cases xs with
 | nil=>simp [FitL] at h
 | cons a ar=>simp only [FitL] at h;exact ⟨a,ar,rfl,h.1,h.2⟩
theorem fitL_nil {xs:List AV} (h:FitL [] xs):xs=[]:=by cases xs with|nil=>rfl|cons a ar=>simp [FitL] at h
theorem arg_one {P:Program} {t:TypeId} {s:Sh} {a:AV} (hs:shapeOf P 10 t=some [s]) (h1:∀ fs,P.underlying t≠some (.struct fs)) (h2:∀ n e,P.underlying t≠some (.array n e)) (h:FitArg P t a):Fit s a:=by
 obtain ⟨sh,h3,h4⟩:=h
 rw [hs] at h3
 simp only [Option.some.injEq] at h3
 subst h3
 rcases h4 with ⟨⟨fs,hf⟩|⟨n,e,hf⟩,_⟩|⟨_,h5⟩
 ·exact absurd hf (h1 fs)
 ·exact absurd hf (h2 _ _)
 ·obtain ⟨b,hb,hf⟩:=fitL_one h5
  obtain rfl:a=b:=by simpa using hb
  exact hf
theorem arg_str {P:Program} {t:TypeId} {sh:List Sh} {a:AV} {fs:Array Field} (hs:shapeOf P 10 t=some sh) (h1:P.underlying t=some (.struct fs)) (h:FitArg P t a):∃ cs,a=.agg cs∧FitL sh cs:=by
 obtain ⟨sh',h3,h4⟩:=h
 rw [hs] at h3
 simp only [Option.some.injEq] at h3
 subst h3
 rcases h4 with ⟨_,cs,rfl,h5⟩|⟨h5,_⟩
 ·exact ⟨cs,rfl,h5⟩
 ·exact absurd h1 (h5.1 fs)
end Go.AM
namespace Go.AM
open Go Go.Proofs
theorem laid:laidOutB Tryz.prog=true:=by kernel_rfl
theorem owns:ownKnob Tryz.prog.godebug=none:=by kernel_rfl
def shQ:Sh:=.int .u64
theorem fit_u64 {a:AV} (h:Fit shQ a):∃ n:Nat,a=U n∧n<2^64:=by
 simp only [shQ,Fit] at h
 obtain ⟨n,rfl,hw⟩:=h
 have h2:0≤n∧n≤18446744073709551615:=by simpa [Lit.wf,IntKind.min,IntKind.max,IntKind.signed,IntKind.bits] using hw
 refine ⟨n.toNat,?_,by omega⟩
 unfold U
 rw [show ((n.toNat:Nat):Int)=n by omega]
theorem fit_words:∀ {k:Nat} {cs:List AV},FitL (List.replicate k shQ) cs→∃ ws:List Nat,cs=wcs ws∧ws.length=k∧∀ w∈ws,w<2^64
 | 0,cs,h=>by
  have:=fitL_nil h
  subst this
  exact ⟨[],rfl,rfl,by simp⟩
 | k+1,cs,h=>by
  rw [List.replicate_succ] at h
  obtain ⟨a,ar,rfl,ha,hr⟩:=fitL_cons h
  obtain ⟨w,rfl,hw⟩:=fit_u64 ha
  obtain ⟨ws,rfl,hl,hx⟩:=fit_words hr
  refine ⟨w::ws,rfl,by simp [hl],fun x hx'=>?_⟩
  rcases List.mem_cons.1 hx' with rfl|hx'
  ·exact hw
  ·exact hx x hx'
theorem rows_nd:∀ {xs:List (List AV)},(∀ e∈xs,FitL (shI::List.replicate 8 shQ) e)→∃ l,xs=nrows l∧∀ n∈l,ndOK n
 | [],_=>⟨[],rfl,by simp⟩
 | e::r,h=>by
  obtain ⟨l,rfl,hl⟩:=rows_nd (xs:=r) fun e' he=>h e' (by simp [he])
  obtain ⟨a,ar,rfl,ha,hr⟩:=fitL_cons (h e (by simp))
  obtain ⟨x,rfl,_⟩:=fit_int ha
  obtain ⟨ws,rfl,h8,hw⟩:=fit_words hr
  refine ⟨(x,ws)::l,rfl,fun n hn=>?_⟩
  rcases List.mem_cons.1 hn with rfl|hn
  ·exact ⟨h8,hw⟩
  ·exact hl n hn
theorem rows_dp:∀ {xs:List (List AV)},(∀ e∈xs,FitL [shI,shI] e)→∃ l,xs=prows l
 | [],_=>⟨[],rfl⟩
 | e::r,h=>by
  obtain ⟨l,rfl⟩:=rows_dp (xs:=r) fun e' he=>h e' (by simp [he])
  obtain ⟨a,ar,rfl,ha,hr⟩:=fitL_cons (h e (by simp))
  obtain ⟨b,rfl,hb⟩:=fitL_one hr
  obtain ⟨x,rfl,_⟩:=fit_int ha
  obtain ⟨y,rfl,_⟩:=fit_int hb
  exact ⟨(x,y)::l,rfl⟩
theorem shTab:shapeOf Tryz.prog 10 63=some [shI,.sl (shI::List.replicate 8 shQ),.sl [shI,shI]]:=by kernel_rfl
theorem shInt:shapeOf Tryz.prog 10 3=some [shI]:=by kernel_rfl
theorem shU64:shapeOf Tryz.prog 10 76=some [shQ]:=by kernel_rfl
theorem shOp:shapeOf Tryz.prog 10 95=some [shI,shQ,shL]:=by kernel_rfl
theorem arg_tab {a:AV} (h:FitArg Tryz.prog 63 a):∃ t:Tb,a=TbV t∧tbF t:=by
 obtain ⟨cs,rfl,hf⟩:=arg_str shTab Tryz.underlying63 h
 obtain ⟨x,ar,rfl,ha,hr⟩:=fitL_cons hf
 obtain ⟨y,br,rfl,hb,hr2⟩:=fitL_cons hr
 obtain ⟨z,rfl,hc⟩:=fitL_one hr2
 obtain ⟨r,rfl,_⟩:=fit_int ha
 simp only [Fit] at hb hc
 obtain ⟨xs,rfl,_,hx⟩:=hb
 obtain ⟨ys,rfl,_,hy⟩:=hc
 obtain ⟨ns,rfl,hn⟩:=rows_nd hx
 obtain ⟨ds,rfl⟩:=rows_dp hy
 exact ⟨(r,ns,ds),rfl,hn⟩
theorem arg_int {a:AV} (h:FitArg Tryz.prog 3 a):∃ n,a=I n:=by
 obtain ⟨n,rfl,_⟩:=fit_int (arg_one shInt (fun fs=>by simp [Tryz.underlying3]) (fun n e=>by simp [Tryz.underlying3]) h)
 exact ⟨n,rfl⟩
theorem arg_u64 {a:AV} (h:FitArg Tryz.prog 76 a):∃ n:Nat,a=U n∧n<2^64 :=
 fit_u64 (arg_one shU64 (fun fs=>by simp [Tryz.underlying76]) (fun n e=>by simp [Tryz.underlying76]) h)
abbrev Opp:=Int×Nat×List Int
def OpV (o:Opp):AV:=.agg [I o.1,U o.2.1,.rd 1 (irows o.2.2)]
theorem arg_op {a:AV} (h:FitArg Tryz.prog 95 a):∃ o:Opp,a=OpV o∧o.2.1<2^64:=by
 obtain ⟨cs,rfl,hf⟩:=arg_str shOp Tryz.underlying95 h
 obtain ⟨x,ar,rfl,ha,hr⟩:=fitL_cons hf
 obtain ⟨y,br,rfl,hb,hr2⟩:=fitL_cons hr
 obtain ⟨z,rfl,hc⟩:=fitL_one hr2
 obtain ⟨p,rfl,_⟩:=fit_int ha
 obtain ⟨w,rfl,hw⟩:=fit_u64 hb
 obtain ⟨l,rfl,_⟩:=fit_ints hc
 exact ⟨(p,w,l),rfl,hw⟩
theorem tab_int_F (avs:List AV) (h:FitArgs Tryz.prog [63,3] avs):specF (ι:={x:Tb×Int // tbF x.1}) (fun x=>[TbV x.1.1,I x.1.2]) (fun _=>retOf [B true]) avs=some (B true):=by
 match avs,h with
 | [a,b],h =>
  simp only [FitArgs] at h
  obtain ⟨t,rfl,ht⟩:=arg_tab h.1
  obtain ⟨x,rfl⟩:=arg_int h.2.1
  exact specF_eq (A:=fun x:{x:Tb×Int // tbF x.1}=>[TbV x.1.1,I x.1.2]) (R:=fun _=>retOf [B true]) ⟨(t,x),ht⟩ fun _ _=>rfl
 | [],h=>simp [FitArgs] at h
 | [_],h=>simp [FitArgs] at h
 | _::_::_::_,h=>simp [FitArgs] at h
theorem tab_op_F (avs:List AV) (h:FitArgs Tryz.prog [63,95] avs):specF (ι:={x:Tb×Opp // tbF x.1∧x.2.2.1<2^64}) (fun x=>[TbV x.1.1,OpV x.1.2]) (fun _=>retOf [B true]) avs=some (B true):=by
 match avs,h with
 | [a,b],h =>
  simp only [FitArgs] at h
  obtain ⟨t,rfl,ht⟩:=arg_tab h.1
  obtain ⟨x,rfl,hx⟩:=arg_op h.2.1
  exact specF_eq (A:=fun x:{x:Tb×Opp // tbF x.1∧x.2.2.1<2^64}=>[TbV x.1.1,OpV x.1.2]) (R:=fun _=>retOf [B true]) ⟨(t,x),ht,hx⟩ fun _ _=>rfl
 | [],h=>simp [FitArgs] at h
 | [_],h=>simp [FitArgs] at h
 | _::_::_::_,h=>simp [FitArgs] at h
theorem tab_int_u_F (avs:List AV) (h:FitArgs Tryz.prog [63,3,76] avs):specF (ι:={x:Tb×Int×Nat // tbF x.1∧x.2.2<2^64}) (fun x=>[TbV x.1.1,I x.1.2.1,U x.1.2.2]) (fun _=>retOf [B true]) avs=some (B true):=by
 match avs,h with
 | [a,b,c],h =>
  simp only [FitArgs] at h
  obtain ⟨t,rfl,ht⟩:=arg_tab h.1
  obtain ⟨x,rfl⟩:=arg_int h.2.1
  obtain ⟨y,rfl,hy⟩:=arg_u64 h.2.2.1
  exact specF_eq (A:=fun x:{x:Tb×Int×Nat // tbF x.1∧x.2.2<2^64}=>[TbV x.1.1,I x.1.2.1,U x.1.2.2]) (R:=fun _=>retOf [B true]) ⟨(t,x,y),ht,hy⟩ fun _ _=>rfl
 | [],h=>simp [FitArgs] at h
 | [_],h=>simp [FitArgs] at h
 | [_,_],h=>simp [FitArgs] at h
 | _::_::_::_::_,h=>simp [FitArgs] at h
theorem checks':PSound Tryz.prog 6 (specF (ι:={x:Tb×Int // tbF x.1}) (fun x=>[TbV x.1.1,I x.1.2]) fun _=>retOf [B true]):=s6 TeB lawC
end Go.AM
