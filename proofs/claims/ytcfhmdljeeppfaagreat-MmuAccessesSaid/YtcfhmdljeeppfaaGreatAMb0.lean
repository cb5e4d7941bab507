/- A part of the proof: what functions of the program compute, by abstract execution of their code. Its theorems hold without further condition. -/
import Derived.Test.YtcfhmdljeeppfaaGreatAMm9
import Derived.Test.YtcfhmdljeeppfaaGreatAMm7
import Derived.Test.YtcfhmdljeeppfaaGreatAMm4
set_option linter.all false
namespace Go.AM
open Go Go.Proofs
set_option maxRecDepth 4000
theorem tep_inj {a b:Te}:AV.rp [I a.1,I a.2.1,U a.2.2]=AV.rp [I b.1,I b.2.1,U b.2.2]↔a=b:=by
 rw [AV.rp.injEq];exact rp_inj
theorem Uinj {a b:Nat}:U a=U b↔a=b:=by
 constructor
 ·intro h;simp only [U,AV.v.injEq,Value.int.injEq,true_and] at h;omega
 ·rintro rfl;rfl
theorem Iinj {a b:Int}:I a=I b↔a=b:=by simp [I]
theorem Binj {a b:Bool}:B a=B b↔a=b:=by simp [B]
theorem rpI_inj {a b:Int}:AV.rp [I a]=AV.rp [I b]↔a=b:=by simp [I]
theorem open_tl {b:Tl} {e:Int} {n:Nat}:openRet n (retOf [TlO b,I e])=(.tup [TlC b n,I e],outC b n,n+1):=by
 simp [retOf,openRet,openVals,openVal,openLeaves,openLeaf,TlO,TlC,outC,trows]
theorem open_tl1 {b:Tl} {n:Nat}:openRet n (retOf [TlO b])=(TlC b n,outC b n,n+1):=by
 simp [retOf,openRet,openVals,openVal,openLeaves,openLeaf,TlO,TlC,outC,trows]
theorem open_tb1 {t:Tb} {n:Nat}:openRet n (retOf [TbO t])=(TbC t n,outT t n,n+2):=by
 simp [retOf,openRet,openVals,openVal,openLeaves,openLeaf,TbO,TbC,outT]
theorem open_ac {t:Tb} {b:Tl} {f e:Int} {n:Nat}:openRet n (retOf [TbO t,TlO b,I f,I e])=(.tup [TbC t n,TlC b (n+2),I f,I e],outT t n++outC b (n+2),n+3):=by
 simp [retOf,openRet,openVals,openVal,openLeaves,openLeaf,TlO,TlC,outC,TbO,TbC,outT,trows]
theorem open_ha {t:Tb} {l:List Int} {e:Int} {n:Nat}:openRet n (retOf [TbO t,.ow 1 (irows l),I e])=(.tup [TbC t n,.sl (n+2) 1 1 0 l.length,I e],outT t n++[(n+2,.vec 1 1 false (irows l))],n+3):=by
 simp [retOf,openRet,openVals,openVal,openLeaves,openLeaf,TbO,TbC,outT,irows]
theorem cTr (w:Nat) (hw:w<2^64) (M:Nat→AO) (n:Nat):callP TrF [U w] M n=some (.tup [B (trB w),B (hgB w)],[]):=by
 unfold TrF
 rw [callP_spec (ι:={w:Nat // w<2^64}) (A:=fun x=>[U x.1]) (R:=fun x=>retOf [B (trB x.1),B (hgB x.1)]) ⟨w,hw⟩ (by simp [TeV,TlV,TbV,EnV,U]) ?_ (by simp [retOf,openRet,openVals,openVal,openLeaves,openLeaf,TeV,TlV,TbV,EnV,U])]
 ·simp [retOf,openRet,openVals,openVal,openLeaves,openLeaf,TeV,TlV,TbV,EnV,U]
 ·rintro ⟨w',h'⟩ e
  simp only [List.cons.injEq,TeV_inj,TlV_inj,TbV_inj,EnV_inj,Iinj,Uinj,Binj,tep_inj,rpI_inj,irows_inj,trows_inj,and_true] at e
  subst e;rfl
theorem cSpn (w:Nat) (hw:w<2^64) (M:Nat→AO) (n:Nat):callP SpnF [U w] M n=some (I (spn w),[]):=by
 unfold SpnF
 rw [callP_spec (ι:={w:Nat // w<2^64}) (A:=fun x=>[U x.1]) (R:=fun x=>retOf [I (spn x.1)]) ⟨w,hw⟩ (by simp [TeV,TlV,TbV,EnV,U]) ?_ (by simp [retOf,openRet,openVals,openVal,openLeaves,openLeaf,TeV,TlV,TbV,EnV,U])]
 ·simp [retOf,openRet,openVals,openVal,openLeaves,openLeaf,TeV,TlV,TbV,EnV,U]
 ·rintro ⟨w',h'⟩ e
  simp only [List.cons.injEq,TeV_inj,TlV_inj,TbV_inj,EnV_inj,Iinj,Uinj,Binj,tep_inj,rpI_inj,irows_inj,trows_inj,and_true] at e
  subst e;rfl
theorem cPlc (s p:Int) (M:Nat→AO) (n:Nat):callP PlcF [I s,I p] M n=some (I (if plcB s p=true then 0 else 2),[]):=by
 unfold PlcF
 rw [callP_spec (ι:=Int×Int) (A:=fun x=>[I x.1,I x.2]) (R:=fun x=>retOf [I (if plcB x.1 x.2=true then 0 else 2)]) (s,p) (by simp [TeV,TlV,TbV,EnV,U]) ?_ (by simp [retOf,openRet,openVals,openVal,openLeaves,openLeaf,TeV,TlV,TbV,EnV,U])]
 ·simp [retOf,openRet,openVals,openVal,openLeaves,openLeaf,TeV,TlV,TbV,EnV,U]
 ·rintro ⟨s',p'⟩ e
  simp only [List.cons.injEq,TeV_inj,TlV_inj,TbV_inj,EnV_inj,Iinj,Uinj,Binj,tep_inj,rpI_inj,irows_inj,trows_inj,and_true] at e
  obtain ⟨rfl,rfl⟩:=e;rfl
theorem cCv (x:Te) (s p:Int) (hx:teOK x) (M:Nat→AO) (n:Nat):callP CvF [TeV x,I s,I p] M n=some (B (cvB x s p),[]):=by
 unfold CvF
 rw [callP_spec (ι:={x:Te×Int×Int // teOK x.1}) (A:=fun x=>[TeV x.1.1,I x.1.2.1,I x.1.2.2]) (R:=fun x=>retOf [B (cvB x.1.1 x.1.2.1 x.1.2.2)]) ⟨(x,s,p),hx⟩ (by simp [TeV,TlV,TbV,EnV,U]) ?_ (by simp [retOf,openRet,openVals,openVal,openLeaves,openLeaf,TeV,TlV,TbV,EnV,U])]
 ·simp [retOf,openRet,openVals,openVal,openLeaves,openLeaf,TeV,TlV,TbV,EnV,U]
 ·rintro ⟨⟨x',s',p'⟩,h'⟩ e
  simp only [List.cons.injEq,TeV_inj,TlV_inj,TbV_inj,EnV_inj,Iinj,Uinj,Binj,tep_inj,rpI_inj,irows_inj,trows_inj,and_true] at e
  obtain ⟨rfl,rfl,rfl⟩:=e;rfl
theorem cOv (x y:Te) (hx:teOK x) (hy:teOK y) (M:Nat→AO) (n:Nat):callP OvF [TeV x,TeV y] M n=some (B (ovB x y),[]):=by
 unfold OvF
 rw [callP_spec (ι:={x:Te×Te // teOK x.1∧teOK x.2}) (A:=fun x=>[TeV x.1.1,TeV x.1.2]) (R:=fun x=>retOf [B (ovB x.1.1 x.1.2)]) ⟨(x,y),hx,hy⟩ (by simp [TeV,TlV,TbV,EnV,U]) ?_ (by simp [retOf,openRet,openVals,openVal,openLeaves,openLeaf,TeV,TlV,TbV,EnV,U])]
 ·simp [retOf,openRet,openVals,openVal,openLeaves,openLeaf,TeV,TlV,TbV,EnV,U]
 ·rintro ⟨⟨x',y'⟩,h'⟩ e
  simp only [List.cons.injEq,TeV_inj,TlV_inj,TbV_inj,EnV_inj,Iinj,Uinj,Binj,tep_inj,rpI_inj,irows_inj,trows_inj,and_true] at e
  obtain ⟨rfl,rfl⟩:=e;rfl
theorem cCj (x y:Te) (hx:teOK x) (hy:teOK y) (M:Nat→AO) (n:Nat):callP CkJ [TeV y,.rp [I x.1,I x.2.1,U x.2.2]] M n=some (B (ovB x y),[]):=by
 unfold CkJ
 rw [callP_spec (ι:={x:Te×Te // teOK x.1∧teOK x.2}) (A:=fun x=>[TeV x.1.2,.rp [I x.1.1.1,I x.1.1.2.1,U x.1.1.2.2]]) (R:=fun x=>retOf [B (ovB x.1.1 x.1.2)]) ⟨(x,y),hx,hy⟩ (by simp [TeV,TlV,TbV,EnV,U]) ?_ (by simp [retOf,openRet,openVals,openVal,openLeaves,openLeaf,TeV,TlV,TbV,EnV,U])]
 ·simp [retOf,openRet,openVals,openVal,openLeaves,openLeaf,TeV,TlV,TbV,EnV,U]
 ·rintro ⟨⟨x',y'⟩,h'⟩ e
  simp only [List.cons.injEq,TeV_inj,TlV_inj,TbV_inj,EnV_inj,Iinj,Uinj,Binj,tep_inj,rpI_inj,irows_inj,trows_inj,and_true] at e
  obtain ⟨rfl,rfl⟩:=e;rfl
theorem cIj (x:Te) (s p:Int) (hx:teOK x) (M:Nat→AO) (n:Nat):callP IvF [TeV x,.rp [I s],.rp [I p]] M n=some (B (cvB x s p),[]):=by
 unfold IvF
 rw [callP_spec (ι:={x:Te×Int×Int // teOK x.1}) (A:=fun x=>[TeV x.1.1,.rp [I x.1.2.1],.rp [I x.1.2.2]]) (R:=fun x=>retOf [B (cvB x.1.1 x.1.2.1 x.1.2.2)]) ⟨(x,s,p),hx⟩ (by simp [TeV,TlV,TbV,EnV,U]) ?_ (by simp [retOf,openRet,openVals,openVal,openLeaves,openLeaf,TeV,TlV,TbV,EnV,U])]
 ·simp [retOf,openRet,openVals,openVal,openLeaves,openLeaf,TeV,TlV,TbV,EnV,U]
 ·rintro ⟨⟨x',s',p'⟩,h'⟩ e
  simp only [List.cons.injEq,TeV_inj,TlV_inj,TbV_inj,EnV_inj,Iinj,Uinj,Binj,tep_inj,rpI_inj,irows_inj,trows_inj,and_true] at e
  obtain ⟨rfl,rfl,rfl⟩:=e;rfl
theorem cPw (w:Nat) (hw:w<2^64) (M:Nat→AO) (n:Nat):callP PgF [U w] M n=some (.tup [EnV (pgW w).1,I (pgW w).2],[]):=by
 unfold PgF
 rw [callP_spec (ι:={w:Nat // w<2^64}) (A:=fun x=>[U x.1]) (R:=fun x=>retOf [EnV (pgW x.1).1,I (pgW x.1).2]) ⟨w,hw⟩ (by simp [TeV,TlV,TbV,EnV,U]) ?_ (by simp [retOf,openRet,openVals,openVal,openLeaves,openLeaf,TeV,TlV,TbV,EnV,U])]
 ·simp [retOf,openRet,openVals,openVal,openLeaves,openLeaf,TeV,TlV,TbV,EnV,U]
 ·rintro ⟨w',h'⟩ e
  simp only [List.cons.injEq,TeV_inj,TlV_inj,TbV_inj,EnV_inj,Iinj,Uinj,Binj,tep_inj,rpI_inj,irows_inj,trows_inj,and_true] at e
  subst e;rfl
theorem cCt (b:Tl) (h:tlOK b) (M:Nat→AO) (n:Nat):callP CtF [TlV b] M n=some (I (chB b),[]):=by
 unfold CtF
 rw [callP_spec (ι:={b:Tl // tlOK b}) (A:=fun x=>[TlV x.1]) (R:=fun x=>retOf [I (chB x.1)]) ⟨b,h⟩ (by simp [TeV,TlV,TbV,EnV,U]) ?_ (by simp [retOf,openRet,openVals,openVal,openLeaves,openLeaf,TeV,TlV,TbV,EnV,U])]
 ·simp [retOf,openRet,openVals,openVal,openLeaves,openLeaf,TeV,TlV,TbV,EnV,U]
 ·rintro ⟨b',h'⟩ e
  simp only [List.cons.injEq,TeV_inj,TlV_inj,TbV_inj,EnV_inj,Iinj,Uinj,Binj,tep_inj,rpI_inj,irows_inj,trows_inj,and_true] at e
  subst e;rfl
theorem cLk (b:Tl) (s p:Int) (h:tlOK b) (M:Nat→AO) (n:Nat):callP LkF [TlV b,I s,I p] M n=some (.tup [U (lkT b s p).1,B (lkT b s p).2],[]):=by
 unfold LkF
 rw [callP_spec (ι:={x:Tl×Int×Int // tlOK x.1}) (A:=fun x=>[TlV x.1.1,I x.1.2.1,I x.1.2.2]) (R:=fun x=>retOf [U (lkT x.1.1 x.1.2.1 x.1.2.2).1,B (lkT x.1.1 x.1.2.1 x.1.2.2).2]) ⟨(b,s,p),h⟩ (by simp [TeV,TlV,TbV,EnV,U]) ?_ (by simp [retOf,openRet,openVals,openVal,openLeaves,openLeaf,TeV,TlV,TbV,EnV,U])]
 ·simp [retOf,openRet,openVals,openVal,openLeaves,openLeaf,TeV,TlV,TbV,EnV,U]
 ·rintro ⟨⟨b',s',p'⟩,h'⟩ e
  simp only [List.cons.injEq,TeV_inj,TlV_inj,TbV_inj,EnV_inj,Iinj,Uinj,Binj,tep_inj,rpI_inj,irows_inj,trows_inj,and_true] at e
  obtain ⟨rfl,rfl,rfl⟩:=e;rfl
theorem cIn (b:Tl) (s p:Int) (h:tlOK b) (M:Nat→AO) (n:Nat):callP InF [TlV b,I s,I p] M n=some (.tup [TlC (inT b s p).1 n,I (inT b s p).2],outC (inT b s p).1 n):=by
 unfold InF
 rw [callP_spec (ι:={x:Tl×Int×Int // tlOK x.1}) (A:=fun x=>[TlV x.1.1,I x.1.2.1,I x.1.2.2]) (R:=fun x=>retOf [TlO (inT x.1.1 x.1.2.1 x.1.2.2).1,I (inT x.1.1 x.1.2.1 x.1.2.2).2]) ⟨(b,s,p),h⟩ (by simp [TeV,TlV,TbV,EnV,U]) ?_ (by rw [open_tl];simp only;omega)]
 ·rw [open_tl]
 ·rintro ⟨⟨b',s',p'⟩,h'⟩ e
  simp only [List.cons.injEq,TeV_inj,TlV_inj,TbV_inj,EnV_inj,Iinj,Uinj,Binj,tep_inj,rpI_inj,irows_inj,trows_inj,and_true] at e
  obtain ⟨rfl,rfl,rfl⟩:=e;rfl
theorem cFl (b:Tl) (s p:Int) (w:Nat) (h:tlOK b) (hw:w<2^64) (M:Nat→AO) (n:Nat):callP FiF7 [TlV b,I s,I p,U w] M n=some (.tup [TlC (fiT b s p w).1 n,I (fiT b s p w).2],outC (fiT b s p w).1 n):=by
 unfold FiF7
 rw [callP_spec (ι:={x:Tl×Int×Int×Nat // tlOK x.1∧x.2.2.2<2^64}) (A:=fun x=>[TlV x.1.1,I x.1.2.1,I x.1.2.2.1,U x.1.2.2.2]) (R:=fun x=>retOf [TlO (fiT x.1.1 x.1.2.1 x.1.2.2.1 x.1.2.2.2).1,I (fiT x.1.1 x.1.2.1 x.1.2.2.1 x.1.2.2.2).2]) ⟨(b,s,p,w),h,hw⟩ (by simp [TeV,TlV,TbV,EnV,U]) ?_ (by rw [open_tl];simp only;omega)]
 ·rw [open_tl]
 ·rintro ⟨⟨b',s',p',w'⟩,h'⟩ e
  simp only [List.cons.injEq,TeV_inj,TlV_inj,TbV_inj,EnV_inj,Iinj,Uinj,Binj,tep_inj,rpI_inj,irows_inj,trows_inj,and_true] at e
  obtain ⟨rfl,rfl,rfl,rfl⟩:=e;rfl
theorem cFg (e:En) (p:Int) (h1:0≤e.2.1) (h2:e.2.1≤4294967295) (h3:0≤p) (M:Nat→AO) (n:Nat):callP FrgF [EnV e,I p] M n=some (I (frmG e p),[]):=by
 unfold FrgF
 rw [callP_spec (ι:={x:En×Int // 0≤x.1.2.1∧x.1.2.1≤4294967295∧0≤x.2}) (A:=fun x=>[EnV x.1.1,I x.1.2]) (R:=fun x=>retOf [I (frmG x.1.1 x.1.2)]) ⟨(e,p),h1,h2,h3⟩ (by simp [TeV,TlV,TbV,EnV,U]) ?_ (by simp [retOf,openRet,openVals,openVal,openLeaves,openLeaf,TeV,TlV,TbV,EnV,U])]
 ·simp [retOf,openRet,openVals,openVal,openLeaves,openLeaf,TeV,TlV,TbV,EnV,U]
 ·rintro ⟨⟨e',p'⟩,h'⟩ e
  simp only [List.cons.injEq,TeV_inj,TlV_inj,TbV_inj,EnV_inj,Iinj,Uinj,Binj,tep_inj,rpI_inj,irows_inj,trows_inj,and_true] at e
  obtain ⟨rfl,rfl⟩:=e;rfl
theorem cRf (e:En) (wr:Bool) (M:Nat→AO) (n:Nat):callP RfF [EnV e,B wr] M n=some (I (rfE e wr),[]):=by
 unfold RfF
 rw [callP_spec (ι:=En×Bool) (A:=fun x=>[EnV x.1,B x.2]) (R:=fun x=>retOf [I (rfE x.1 x.2)]) (e,wr) (by simp [TeV,TlV,TbV,EnV,U]) ?_ (by simp [retOf,openRet,openVals,openVal,openLeaves,openLeaf,TeV,TlV,TbV,EnV,U])]
 ·simp [retOf,openRet,openVals,openVal,openLeaves,openLeaf,TeV,TlV,TbV,EnV,U]
 ·rintro ⟨e',wr'⟩ e
  simp only [List.cons.injEq,TeV_inj,TlV_inj,TbV_inj,EnV_inj,Iinj,Uinj,Binj,tep_inj,rpI_inj,irows_inj,trows_inj,and_true] at e
  obtain ⟨rfl,rfl⟩:=e;rfl
theorem cCoT (t:Tb) (h:tbOK t) (M:Nat→AO) (n:Nat):callP CoTF [TbV t] M n=some (TbC t n,outT t n):=by
 unfold CoTF
 rw [callP_spec (ι:={x:Tb // tbOK x}) (A:=fun x=>[TbV x.1]) (R:=fun x=>retOf [TbO x.1]) ⟨t,h⟩ (by simp [TeV,TlV,TbV,EnV,U]) ?_ (by rw [open_tb1];simp only;omega)]
 ·rw [open_tb1]
 ·rintro ⟨t',h'⟩ e
  simp only [List.cons.injEq,TeV_inj,TlV_inj,TbV_inj,EnV_inj,Iinj,Uinj,Binj,tep_inj,rpI_inj,irows_inj,trows_inj,and_true] at e
  subst e;rfl
theorem cCoB (b:Tl) (h:b.2.length≤1000000) (M:Nat→AO) (n:Nat):callP CoBF [TlV b] M n=some (TlC b n,outC b n):=by
 unfold CoBF
 rw [callP_spec (ι:={x:Tl // x.2.length≤1000000}) (A:=fun x=>[TlV x.1]) (R:=fun x=>retOf [TlO x.1]) ⟨b,h⟩ (by simp [TeV,TlV,TbV,EnV,U]) ?_ (by rw [open_tl1];simp only;omega)]
 ·rw [open_tl1]
 ·rintro ⟨b',h'⟩ e
  simp only [List.cons.injEq,TeV_inj,TlV_inj,TbV_inj,EnV_inj,Iinj,Uinj,Binj,tep_inj,rpI_inj,irows_inj,trows_inj,and_true] at e
  subst e;rfl
theorem cMk (w:Nat) (wr:Bool) (hw:w<2^64) (M:Nat→AO) (n:Nat):callP MkF [U w,B wr] M n=some (.tup [U (mkW w wr).1,I (mkW w wr).2],[]):=by
 unfold MkF
 rw [callP_spec (ι:={x:Nat×Bool // x.1<2^64}) (A:=fun x=>[U x.1.1,B x.1.2]) (R:=fun x=>retOf [U (mkW x.1.1 x.1.2).1,I (mkW x.1.1 x.1.2).2]) ⟨(w,wr),hw⟩ (by simp [TeV,TlV,TbV,EnV,U]) ?_ (by simp [retOf,openRet,openVals,openVal,openLeaves,openLeaf,TeV,TlV,TbV,EnV,U])]
 ·simp [retOf,openRet,openVals,openVal,openLeaves,openLeaf,TeV,TlV,TbV,EnV,U]
 ·rintro ⟨⟨w',wr'⟩,h'⟩ e
  simp only [List.cons.injEq,TeV_inj,TlV_inj,TbV_inj,EnV_inj,Iinj,Uinj,Binj,tep_inj,rpI_inj,irows_inj,trows_inj,and_true] at e
  obtain ⟨rfl,rfl⟩:=e;rfl
theorem cOd (w:Nat) (hw:w<2^64) (M:Nat→AO) (n:Nat):callP OdF [U w] M n=some (.tup [U (odW w).1,I (odW w).2],[]):=by
 unfold OdF
 rw [callP_spec (ι:={w:Nat // w<2^64}) (A:=fun x=>[U x.1]) (R:=fun x=>retOf [U (odW x.1).1,I (odW x.1).2]) ⟨w,hw⟩ (by simp [TeV,TlV,TbV,EnV,U]) ?_ (by simp [retOf,openRet,openVals,openVal,openLeaves,openLeaf,TeV,TlV,TbV,EnV,U])]
 ·simp [retOf,openRet,openVals,openVal,openLeaves,openLeaf,TeV,TlV,TbV,EnV,U]
 ·rintro ⟨w',h'⟩ e
  simp only [List.cons.injEq,TeV_inj,TlV_inj,TbV_inj,EnV_inj,Iinj,Uinj,Binj,tep_inj,rpI_inj,irows_inj,trows_inj,and_true] at e
  subst e;rfl
theorem cRe (t:Tb) (p:Int) (w:Nat) (h:tbOK t) (hw:w<2^64) (M:Nat→AO) (n:Nat):callP ReF [TbV t,I p,U w] M n=some (.tup [TbC (repP t p w).1 n,U (repP t p w).2.1,I (repP t p w).2.2],outT (repP t p w).1 n):=by
 unfold ReF
 rw [callP_spec (ι:={x:Tb×Int×Nat // tbOK x.1∧x.2.2<2^64}) (A:=fun x=>[TbV x.1.1,I x.1.2.1,U x.1.2.2]) (R:=fun x=>retOf [TbO (repP x.1.1 x.1.2.1 x.1.2.2).1,U (repP x.1.1 x.1.2.1 x.1.2.2).2.1,I (repP x.1.1 x.1.2.1 x.1.2.2).2.2]) ⟨(t,p,w),h,hw⟩ (by simp [TeV,TlV,TbV,EnV,U]) ?_ (by rw [open_rep];simp only;omega)]
 ·rw [open_rep]
 ·rintro ⟨⟨t',p',w'⟩,h'⟩ e
  simp only [List.cons.injEq,TeV_inj,TlV_inj,TbV_inj,EnV_inj,Iinj,Uinj,Binj,tep_inj,rpI_inj,irows_inj,trows_inj,and_true] at e
  obtain ⟨rfl,rfl,rfl⟩:=e;rfl
theorem cLs (t:Tb) (h:tbOK t) (M:Nat→AO) (n:Nat):callP LiF [TbV t] M n=some (.sl n 1 2 0 (lstT t).length,[(n,.vec 1 2 false (erows (lstT t)))]):=by
 unfold LiF
 rw [callP_spec (ι:={x:Tb // tbOK x}) (A:=fun x=>[TbV x.1]) (R:=fun x=>retOf [.ow 2 (erows (lstT x.1))]) ⟨t,h⟩ (by simp [TeV,TlV,TbV,EnV,U]) ?_ (by rw [open_erow];simp only;omega)]
 ·rw [open_erow]
 ·rintro ⟨t',h'⟩ e
  simp only [List.cons.injEq,TeV_inj,TlV_inj,TbV_inj,EnV_inj,Iinj,Uinj,Binj,tep_inj,rpI_inj,irows_inj,trows_inj,and_true] at e
  subst e;rfl
theorem cGr (p:Int) (h1:0≤p) (h2:p<1000000) (M:Nat→AO) (n:Nat):callP GrF [I p] M n=some (I (grp p),[]):=by
 unfold GrF
 rw [callP_spec (ι:={p:Int // 0≤p∧p<1000000}) (A:=fun x=>[I x.1]) (R:=fun x=>retOf [I (grp x.1)]) ⟨p,h1,h2⟩ (by simp [TeV,TlV,TbV,EnV,U]) ?_ (by simp [retOf,openRet,openVals,openVal,openLeaves,openLeaf,TeV,TlV,TbV,EnV,U])]
 ·simp [retOf,openRet,openVals,openVal,openLeaves,openLeaf,TeV,TlV,TbV,EnV,U]
 ·rintro ⟨p',h'⟩ e
  simp only [List.cons.injEq,TeV_inj,TlV_inj,TbV_inj,EnV_inj,Iinj,Uinj,Binj,tep_inj,rpI_inj,irows_inj,trows_inj,and_true] at e
  subst e;rfl
theorem cHt (x:Te) (s p:Int) (hx:x.2.2<2^64) (hp:p<1000000) (M:Nat→AO) (n:Nat):callP HtF [TeV x,I s,I p] M n=some (B (htB x s p),[]):=by
 unfold HtF
 rw [callP_spec (ι:={x:Te×Int×Int // x.1.2.2<2^64∧x.2.2<1000000}) (A:=fun x=>[TeV x.1.1,I x.1.2.1,I x.1.2.2]) (R:=fun x=>retOf [B (htB x.1.1 x.1.2.1 x.1.2.2)]) ⟨(x,s,p),hx,hp⟩ (by simp [TeV,TlV,TbV,EnV,U]) ?_ (by simp [retOf,openRet,openVals,openVal,openLeaves,openLeaf,TeV,TlV,TbV,EnV,U])]
 ·simp [retOf,openRet,openVals,openVal,openLeaves,openLeaf,TeV,TlV,TbV,EnV,U]
 ·rintro ⟨⟨x',s',p'⟩,h'⟩ e
  simp only [List.cons.injEq,TeV_inj,TlV_inj,TbV_inj,EnV_inj,Iinj,Uinj,Binj,tep_inj,rpI_inj,irows_inj,trows_inj,and_true] at e
  obtain ⟨rfl,rfl,rfl⟩:=e;rfl
theorem cOf (a b:Te) (h1:a.2.2<2^64) (h2:b.2.2<2^64) (h3:0≤b.2.1) (h4:b.2.1<512) (M:Nat→AO) (n:Nat):callP OrfF [TeV a,TeV b] M n=some (B (ovR a b),[]):=by
 unfold OrfF
 rw [callP_spec (ι:={x:Te×Te // x.1.2.2<2^64∧x.2.2.2<2^64∧0≤x.2.2.1∧x.2.2.1<512}) (A:=fun x=>[TeV x.1.1,TeV x.1.2]) (R:=fun x=>retOf [B (ovR x.1.1 x.1.2)]) ⟨(a,b),h1,h2,h3,h4⟩ (by simp [TeV,TlV,TbV,EnV,U]) ?_ (by simp [retOf,openRet,openVals,openVal,openLeaves,openLeaf,TeV,TlV,TbV,EnV,U])]
 ·simp [retOf,openRet,openVals,openVal,openLeaves,openLeaf,TeV,TlV,TbV,EnV,U]
 ·rintro ⟨⟨a',b'⟩,h'⟩ e
  simp only [List.cons.injEq,TeV_inj,TlV_inj,TbV_inj,EnV_inj,Iinj,Uinj,Binj,tep_inj,rpI_inj,irows_inj,trows_inj,and_true] at e
  obtain ⟨rfl,rfl⟩:=e;rfl
theorem cSp7 (s:Int) (M:Nat→AO) (n:Nat):callP SpF7 [I s] M n=some (B (decide (0≤s∧s<8)),[]):=by
 unfold SpF7
 rw [callP_spec (ι:=Int) (A:=fun x=>[I x]) (R:=fun x=>retOf [B (decide (0≤x∧x<8))]) s (by simp [TeV,TlV,TbV,EnV,U]) ?_ (by simp [retOf,openRet,openVals,openVal,openLeaves,openLeaf,TeV,TlV,TbV,EnV,U])]
 ·simp [retOf,openRet,openVals,openVal,openLeaves,openLeaf,TeV,TlV,TbV,EnV,U]
 ·rintro s' e
  simp only [List.cons.injEq,TeV_inj,TlV_inj,TbV_inj,EnV_inj,Iinj,Uinj,Binj,tep_inj,rpI_inj,irows_inj,trows_inj,and_true] at e
  subst e;rfl
theorem cPg7 (s:Int) (M:Nat→AO) (n:Nat):callP PgF7 [I s] M n=some (B (decide (0≤s∧s<512)),[]):=by
 unfold PgF7
 rw [callP_spec (ι:=Int) (A:=fun x=>[I x]) (R:=fun x=>retOf [B (decide (0≤x∧x<512))]) s (by simp [TeV,TlV,TbV,EnV,U]) ?_ (by simp [retOf,openRet,openVals,openVal,openLeaves,openLeaf,TeV,TlV,TbV,EnV,U])]
 ·simp [retOf,openRet,openVals,openVal,openLeaves,openLeaf,TeV,TlV,TbV,EnV,U]
 ·rintro s' e
  simp only [List.cons.injEq,TeV_inj,TlV_inj,TbV_inj,EnV_inj,Iinj,Uinj,Binj,tep_inj,rpI_inj,irows_inj,trows_inj,and_true] at e
  subst e;rfl
theorem cOne (x:Te) (hx:x.2.2<2^64) (M:Nat→AO) (n:Nat):callP OneF [TeV x] M n=some (I (efE x),[]):=by
 unfold OneF
 rw [callP_spec (ι:={x:Te // x.2.2<2^64}) (A:=fun x=>[TeV x.1]) (R:=fun x=>retOf [I (efE x.1)]) ⟨x,hx⟩ (by simp [TeV,TlV,TbV,EnV,U]) ?_ (by simp [retOf,openRet,openVals,openVal,openLeaves,openLeaf,TeV,TlV,TbV,EnV,U])]
 ·simp [retOf,openRet,openVals,openVal,openLeaves,openLeaf,TeV,TlV,TbV,EnV,U]
 ·rintro ⟨x',h'⟩ e
  simp only [List.cons.injEq,TeV_inj,TlV_inj,TbV_inj,EnV_inj,Iinj,Uinj,Binj,tep_inj,rpI_inj,irows_inj,trows_inj,and_true] at e
  subst e;rfl
end Go.AM
set_option maxHeartbeats 8000000
namespace Go.AM
open Go Go.Proofs
theorem s107 (X:AX) (hX:XOK Tryz.prog X) (hw:X.W wT) (hde:∀ n:Nat,n<2^64→∀ M k,X.call 131 [U n] M k=some (.tup [EnV (decR n).1,I (decR n).2],[])):PSound Tryz.prog 107 MkF:=by
 unfold MkF
 refine psound_spec hX mixed Tryz.func107 rfl fun ⟨⟨w,wr⟩,hw64⟩ w0 G=>⟨by show 2≤30;decide,rfl,?_⟩
 show AW ⟨Tryz.prog,X,30,w0,.pure G⟩ _ _ _
 have hc:Cx.OK ⟨Tryz.prog,X,30,w0,.pure G⟩:=⟨hX,mixed⟩
 simp only at hw64 ⊢
 have hd:=hde w hw64
 have e0:mkW w wr=if (decR w).2≠0 then (0,(decR w).2) else if (decR w).1.1≠1 then (0,11) else if wr=false then (w ||| 16,0) else if (decR w).1.2.2.1=false then (0,12) else (w ||| 16 ||| 32,0):=rfl
 obtain ⟨⟨⟨k,num,b1,b2,b3,hg⟩,er⟩,hx⟩:∃ x,x=decR w:=⟨_,rfl⟩
 rw [← hx] at hd e0
 have o1:=or_u hw64 (show 16<2^64 by decide)
 have o2:=or_u hw64 (show 48<2^64 by decide)
 rw [show ((16:Nat):Int)=16 from rfl] at o1
 rw [show ((48:Nat):Int)=48 from rfl] at o2
 rw [Nat.or_assoc,show (16 ||| 32:Nat)=48 from rfl] at e0
 obtain ⟨w1,hw1⟩:∃ x,x=w ||| 16:=⟨_,rfl⟩
 rw [← hw1] at o1 e0
 obtain ⟨w2,hw2⟩:∃ x,x=w ||| 48:=⟨_,rfl⟩
 rw [← hw2] at o2 e0
 obtain ⟨m,hm⟩:∃ m,m=mkW w wr:=⟨_,rfl⟩
 rw [← hm] at e0 ⊢
 simp only [EnV,U] at hd e0 ⊢
 rcases Decidable.em (er=0) with h1|h1
 ·rw [if_neg (by simp [h1])] at e0
  subst h1
  rcases Decidable.em (k=1) with h2|h2
  ·rw [if_neg (by simp [h2])] at e0
   subst h2
   cases wr with
   | false =>
    rw [if_pos rfl] at e0
    subst e0
    have zS:=jj hd<|o1
    refine dM64 ?_
    repeat (intro K hK)
    clear zS
    refine ⟨by simp,?_⟩
    simp [leaves_iff,Tryz.f107]
    try exact dt
   | true =>
    rw [if_neg (by decide)] at e0
    cases b1 with
    | false =>
     rw [if_pos rfl] at e0
     subst e0
     have zS:=hd
     refine dM64 ?_
     repeat (intro K hK)
     clear zS
     refine ⟨by simp,?_⟩
     simp [leaves_iff,Tryz.f107]
     try exact dt
    | true =>
     rw [if_neg (by decide)] at e0
     subst e0
     have zS:=jj hd<|o2
     refine dM64 ?_
     repeat (intro K hK)
     clear zS
     refine ⟨by simp,?_⟩
     simp [leaves_iff,Tryz.f107]
     try exact dt
  ·rw [if_pos h2] at e0
   subst e0
   have zS:=jj hd<|h2
   refine dM64 ?_
   repeat (intro K hK)
   clear zS
   refine ⟨by simp,?_⟩
   simp [leaves_iff,Tryz.f107]
   try exact dt
 ·rw [if_pos h1] at e0
  subst e0
  have zS:=jj hd<|h1
  refine dM64 ?_
  repeat (intro K hK)
  clear zS
  refine ⟨by simp,?_⟩
  simp [leaves_iff,Tryz.f107]
  try exact dt
def ivL (l:List Te) (s p:Int) (i:Nat):List Te:=(l.take i).filter fun y=>!cvB y s p
theorem ivL_s {l:List Te} {s p:Int} {i:Nat} (h:i<l.length):ivL l s p (i+1)=if cvB (gt l i) s p=true then ivL l s p i else ivL l s p i++[gt l i]:=by
 unfold ivL
 rw [take_succ_gt h,List.filter_append]
 by_cases h2:cvB (gt l i) s p=true
 ·rw [if_pos h2];simp [h2]
 ·rw [if_neg h2];simp [h2]
theorem ivL_len {l:List Te} {s p:Int} {i:Nat}:(ivL l s p i).length≤l.length:=by
 have h1:=(List.filter_sublist (p:=fun y=>!cvB y s p) (l:=l.take i)).length_le
 have h2:(l.take i).length≤l.length:=by rw [List.length_take];omega
 unfold ivL
 omega
theorem s177 (X:AX) (hX:XOK Tryz.prog X) (hw:X.W wT) (hct:∀ b:Tl,tlOK b→∀ M k,X.call 101 [TlV b] M k=some (I (chB b),[]))
  (hsp:∀ s M k,X.call 178 [I s] M k=some (B (decide (0≤s∧s<8)),[])) (hpg:∀ s M k,X.call 179 [I s] M k=some (B (decide (0≤s∧s<512)),[]))
  (hht:∀ (x:Te) (s p:Int),x.2.2<2^64→p<1000000→∀ M k,X.call 176 [TeV x,I s,I p] M k=some (B (htB x s p),[])):PSound Tryz.prog 177 InF:=by
 unfold InF
 refine psound_spec hX mixed Tryz.func177 rfl fun ⟨⟨⟨z,l⟩,s,p⟩,hok⟩ w0 G=>⟨by show 3≤56;decide,rfl,?_⟩
 show AW ⟨Tryz.prog,X,56,w0,.pure G⟩ _ _ _
 have hc:Cx.OK ⟨Tryz.prog,X,56,w0,.pure G⟩:=⟨hX,mixed⟩
 simp only at hok ⊢
 have ht:=hct _ hok
 have k1:=hsp s
 have k2:=hpg p
 rcases Decidable.em (chB (z,l)=0) with h0|h0
 ·rw [h0] at ht
  cases ha:decide (0≤s∧s<8) with
  | false =>
   have e:inT (z,l) s p=(zB,2):=by unfold inT;rw [if_neg (by simp [h0]),if_pos (by rw [plcB_sp,ha];rfl)]
   rw [e]
   rw [ha] at k1
   simp only [TlV,TlO,zB] at ht ⊢
   have zS:=jj ht<|k1
   refine dF64 ?_
   repeat (intro K hK)
   clear zS
   all_goals refine ⟨by simp,?_⟩
   all_goals simp [leaves_iff,Tryz.f177,trows]
   all_goals try exact dt
  | true =>
   rw [ha] at k1
   cases hb:decide (0≤p∧p<512) with
   | false =>
    have e:inT (z,l) s p=(zB,2):=by unfold inT;rw [if_neg (by simp [h0]),if_pos (by rw [plcB_sp,ha,hb];rfl)]
    rw [e]
    rw [hb] at k2
    simp only [TlV,TlO,zB] at ht ⊢
    have zS:=jj ht<|jj k1<|k2
    refine dF64 ?_
    repeat (intro K hK)
    clear zS
    all_goals refine ⟨by simp,?_⟩
    all_goals simp [leaves_iff,Tryz.f177,trows]
    all_goals try exact dt
   | true =>
    have hp2:=of_decide_eq_true hb
    have e:inT (z,l) s p=((z,ivL l s p l.length),0):=by unfold inT ivL;rw [if_neg (by simp [h0]),if_neg (by rw [plcB_sp,ha,hb];decide),List.take_length]
    rw [e]
    rw [hb] at k2
    have hef:∀ i,i<l.length→efE (gt l i)=0:=fun i hi=>(erE_z ((chB_z.1 h0).2.2.2 i hi)).1
    have hl16:=(chB_z.1 h0)
    simp only at hl16
    simp only [TlV] at ht ⊢
    have zS:=jj ht<|jj k1<|k2
    repeat' (first|(apply aw_seq_k;intro K hK)|(refine eF64 ?_)|(refine aw_cond (b:=_) (by exact rfl) (fun h=>?_) (fun h=>?_)<;>(try simp at h))|(refine eB ?_)|(refine hK _ ?_;clear hK)|(clear hK;refine hK _ ?_;clear hK)|(clear hK;clear hK;refine hK _ ?_;clear hK)|(clear hK;clear hK;clear hK;refine hK _ ?_;clear hK))
    all_goals clear zS
    refine aw_weaken (le_nilcell (b:=304) (i:=1) (sz:=3) (cs:=[I z,.v (.slice none 0 0)]) (by simp) (by simp)) ?_
    simp only [List.set_cons_succ,List.set_cons_zero]
    refine aw_loopK (s0:=?lps1) (m0:=?lpm1) (ι:={i:Nat // i≤l.length}) [1,2,3,6,9] (fun i=>[(10,I i.1)]) (fun i=>[(304,.box [I z,.sl 352 1 3 0 (ivL l s p i.1).length]),(352,.vec 1 3 false (trows (ivL l s p i.1)))]) (fun i=>l.length - i.1) ⟨0,by omega⟩ ?lhs1 ?lhm1 ?_ ?_
    case lhs1=>first|(simp [keepS];done)|(simp [keepS];rfl)
    case lhm1=>first|rfl|(simp;done)|(simp;rfl)
    ·simp only [show ivL l s p 0=[] from rfl]
     exact le_of2 (by simp) (by simp [AVle,AV.under,AV.underL,trows]<;>omega) (by simp [AOle,AO.under,AV.underL,AV.under,trows]<;>omega)
    ·rintro ⟨i,hi⟩
     simp only
     rcases Decidable.em (i<l.length) with hil|hil
     ·have hilI:(i:Int)<(l.length:Int):=by omega
      have hg:=trows_gi hil
      have hgE:=trows_gE hil
      have hq:=hht _ s p (hok.2 _ (gt_mem hil)) (by omega)
      rw [ht_cv (hef i hil)] at hq
      have hst:=@ivL_s l s p i hil
      have hln:=@ivL_len l s p i
      obtain ⟨c,hcv⟩:∃ c,c=cvB (gt l i) s p:=⟨_,rfl⟩
      rw [← hcv] at hq hst
      obtain ⟨⟨x1,x2,x3⟩,hm⟩:∃ m,m=gt l i:=⟨_,rfl⟩
      rw [← hm] at hg hgE hq hst
      simp only [trow,TeV,U] at hg hgE hq hst
      obtain ⟨A,hA⟩:∃ A,A=ivL l s p i:=⟨_,rfl⟩
      rw [← hA] at hst hln
      simp only [← hA]
      cases c with
      | true =>
       rw [if_pos rfl] at hst
       have zS:=jj hilI<|jj hil<|jj hg<|jj hgE<|hq
       repeat' (first|(apply aw_seq_k;intro K hK)|(refine eF64 ?_)|(refine aw_cond (b:=_) (by exact rfl) (fun h=>?_) (fun h=>?_)<;>(try simp at h))|(refine eB ?_)|(refine hK _ ?_;clear hK)|(clear hK;refine hK _ ?_;clear hK)|(clear hK;clear hK;refine hK _ ?_;clear hK)|(clear hK;clear hK;clear hK;refine hK _ ?_;clear hK))
       all_goals clear zS
       refine ⟨i+1,?_,by omega,by omega⟩
       simp only [hst]
       exact dle
      | false =>
       rw [if_neg (by decide)] at hst
       have tk:=tkT A
       have ta:trows A++[[I x1,I x2,.v (.int .u64 x3)]]=trows (A++[(x1,x2,x3)]):=by simp [trows,trow,U]
       have hA16:A.length≤16:=by omega
       have zS:=jj hilI<|jj hil<|jj hg<|jj hgE<|jj hq<|jj tk<|jj ta<|hA16
       repeat' (first|(apply aw_seq_k;intro K hK)|(refine eF64 ?_)|(refine aw_cond (b:=_) (by exact rfl) (fun h=>?_) (fun h=>?_)<;>(try simp at h))|(refine eB ?_)|(refine hK _ ?_;clear hK)|(clear hK;refine hK _ ?_;clear hK)|(clear hK;clear hK;refine hK _ ?_;clear hK)|(clear hK;clear hK;clear hK;refine hK _ ?_;clear hK))
       all_goals clear zS
       refine ⟨i+1,?_,by omega,by omega⟩
       simp only [hst,List.length_append,List.length_cons,List.length_nil,Nat.zero_add]
       refine le_turn (s1:=?tus2) (m1:=?tum2) [] [10,1,2,3,6,9] [0,16,304,352] ?tua2 ?tub2 ?tuc2 ?tud2 ?tue2 ?tuf2 ?tug2
       case tua2=>first|(simp [keepS];done)|(simp [keepS];rfl)
       case tub2=>first|(simp;done)|(simp;rfl)
       case tuc2=>simp
       case tud2=>simp
       case tue2=>simp
       case tuf2=>simp
       case tug2 =>
        simp [swp,vr]
        exact dle
     ·obtain rfl:i=l.length:=by omega
      obtain ⟨A,hA⟩:∃ A,A=ivL l s p l.length:=⟨_,rfl⟩
      simp only [← hA]
      have tk:=tkT A
      repeat' (first|(apply aw_seq_k;intro K hK)|(refine eF64o ?_)|(refine aw_cond (b:=_) (by exact rfl) (fun h=>?_) (fun h=>?_)<;>(try simp at h))|(refine eB ?_)|(refine hK _ ?_;clear hK)|(clear hK;refine hK _ ?_;clear hK)|(clear hK;clear hK;refine hK _ ?_;clear hK)|(clear hK;clear hK;clear hK;refine hK _ ?_;clear hK))
      all_goals refine ⟨by simp,?_⟩
      all_goals simp [leaves_iff,Tryz.f177,TlO,← hA,tk]
      all_goals try exact dt
 ·have e:inT (z,l) s p=(zB,chB (z,l)):=by unfold inT;rw [if_pos h0]
  rw [e]
  obtain ⟨c,hcz⟩:∃ c,c=chB (z,l):=⟨_,rfl⟩
  rw [← hcz] at ht h0 ⊢
  simp only [TlV,TlO,zB] at ht ⊢
  have zS:=jj ht<|h0
  refine dF64 ?_
  repeat (intro K hK)
  clear zS
  all_goals refine ⟨by simp,?_⟩
  all_goals simp [leaves_iff,Tryz.f177,trows]
  all_goals try exact dt
end Go.AM
namespace Go.AM
open Go Go.Proofs
def fvL (l:List Te) (x:Te) (i:Nat):List Te:=(l.take i).filter fun y=>!ovB x y
theorem fvL_s {l:List Te} {x:Te} {i:Nat} (h:i<l.length):fvL l x (i+1)=if ovB x (gt l i)=true then fvL l x i else fvL l x i++[gt l i]:=by
 unfold fvL
 rw [take_succ_gt h,List.filter_append]
 by_cases h2:ovB x (gt l i)=true
 ·rw [if_pos h2];simp [h2]
 ·rw [if_neg h2];simp [h2]
theorem fvL_len {l:List Te} {x:Te} {i:Nat}:(fvL l x i).length≤l.length:=by
 have h1:=(List.filter_sublist (p:=fun y=>!ovB x y) (l:=l.take i)).length_le
 have h2:(l.take i).length≤l.length:=by rw [List.length_take];omega
 unfold fvL
 omega
theorem fiX_ef {s p:Int} {w:Nat} (hp:plcB s p=true) (h0:trB w=true):efE (fiX s p w)=0∧0≤(fiX s p w).2.1∧(fiX s p w).2.1<512:=by
 unfold plcB at hp
 have hp:=of_decide_eq_true hp
 unfold efE fiX plcB
 simp only
 cases hg:hgB w with
 | true =>
  simp only [if_true]
  refine ⟨?_,by omega,by omega⟩
  rw [if_neg (by simp;omega),if_neg]
  rintro (h|⟨_,h⟩)
  ·rw [h0] at h;cases h
  ·omega
 | false =>
  simp only [Bool.false_eq_true,if_false]
  refine ⟨?_,by omega,by omega⟩
  rw [if_neg (by simp;omega),if_neg]
  rintro (h|⟨h,_⟩)
  ·rw [h0] at h;cases h
  ·cases h
set_option maxHeartbeats 16000000 in
theorem s108 (X:AX) (hX:XOK Tryz.prog X) (hw:X.W wT) (hct:∀ b:Tl,tlOK b→∀ M k,X.call 101 [TlV b] M k=some (I (chB b),[]))
  (hsp:∀ s M k,X.call 178 [I s] M k=some (B (decide (0≤s∧s<8)),[])) (hpg:∀ s M k,X.call 179 [I s] M k=some (B (decide (0≤s∧s<512)),[]))
  (htr:∀ w:Nat,w<2^64→∀ M k,X.call 180 [U w] M k=some (.tup [B (trB w),B (hgB w)],[]))
  (hgr:∀ p:Int,0≤p→p<1000000→∀ M k,X.call 181 [I p] M k=some (I (grp p),[]))
  (hov:∀ a b:Te,a.2.2<2^64→b.2.2<2^64→0≤b.2.1→b.2.1<512→∀ M k,X.call 175 [TeV a,TeV b] M k=some (B (ovR a b),[])):PSound Tryz.prog 108 FiF7:=by
 unfold FiF7
 refine psound_spec hX mixed Tryz.func108 rfl fun ⟨⟨⟨z,l⟩,s,p,w⟩,hok,hw64⟩ w0 G=>⟨by show 4≤84;decide,rfl,?_⟩
 show AW ⟨Tryz.prog,X,84,w0,.pure G⟩ _ _ _
 have hc:Cx.OK ⟨Tryz.prog,X,84,w0,.pure G⟩:=⟨hX,mixed⟩
 simp only at hok hw64 ⊢
 have ht:=hct _ hok
 have k1:=hsp s
 have k2:=hpg p
 have k3:=htr w hw64
 rcases Decidable.em (chB (z,l)=0) with h0|h0
 ·rw [h0] at ht
  cases ha:decide (0≤s∧s<8) with
  | false =>
   have e:fiT (z,l) s p w=(zB,2):=by unfold fiT;rw [if_neg (by simp [h0]),if_pos (by rw [plcB_sp,ha];rfl)]
   rw [e]
   rw [ha] at k1
   simp only [TlV,TlO,zB] at ht ⊢
   have zS:=jj ht<|k1
   refine dF64 ?_
   repeat (intro K hK)
   clear zS
   all_goals refine ⟨by simp,?_⟩
   all_goals simp [leaves_iff,Tryz.f108,trows]
   all_goals try exact dt
  | true =>
   rw [ha] at k1
   cases hb:decide (0≤p∧p<512) with
   | false =>
    have e:fiT (z,l) s p w=(zB,2):=by unfold fiT;rw [if_neg (by simp [h0]),if_pos (by rw [plcB_sp,ha,hb];rfl)]
    rw [e]
    rw [hb] at k2
    simp only [TlV,TlO,zB] at ht ⊢
    have zS:=jj ht<|jj k1<|k2
    refine dF64 ?_
    repeat (intro K hK)
    clear zS
    all_goals refine ⟨by simp,?_⟩
    all_goals simp [leaves_iff,Tryz.f108,trows]
    all_goals try exact dt
   | true =>
    have hpl:plcB s p=true:=by rw [plcB_sp,ha,hb];rfl
    have hp2:=of_decide_eq_true hb
    rw [hb] at k2
    cases htw:trB w with
    | false =>
     have e:fiT (z,l) s p w=(zB,3):=by unfold fiT;rw [if_neg (by simp [h0]),if_neg (by simp [hpl]),if_pos htw]
     rw [e]
     rw [htw] at k3
     simp only [TlV,TlO,zB,U] at ht k3 ⊢
     have zS:=jj ht<|jj k1<|jj k2<|k3
     refine dF64 ?_
     repeat (intro K hK)
     clear zS
     all_goals refine ⟨by simp,?_⟩
     all_goals simp [leaves_iff,Tryz.f108,trows]
     all_goals try exact dt
    | true =>
     have e:fiT (z,l) s p w=((z,fiL (z,l) (fiX s p w)),0):=by unfold fiT;rw [if_neg (by simp [h0]),if_neg (by simp [hpl]),if_neg (by simp [htw])]
     rw [e]
     obtain ⟨x1,x2,x3⟩:=fiX_ef hpl htw
     have hef:∀ i,i<l.length→efE (gt l i)=0:=fun i hi=>(erE_z ((chB_z.1 h0).2.2.2 i hi)).1
     have hl16:=(chB_z.1 h0)
     simp only at hl16
     rw [htw] at k3
     have hovx:∀ i,i<l.length→∀ M k,X.call 175 [TeV (gt l i),TeV (fiX s p w)] M k=some (B (ovB (fiX s p w) (gt l i)),[]):=fun i hi M k=>by
      have:=hov (gt l i) (fiX s p w) (hok.2 _ (gt_mem hi)) hw64 x2 x3 M k
      rw [ovR_eq (hef i hi) x1,ovB_comm] at this
      exact this
     have eL:fiL (z,l) (fiX s p w)=(if ((fvL l (fiX s p w) l.length).length:Int)=z then (fvL l (fiX s p w) l.length).drop 1 else fvL l (fiX s p w) l.length)++[fiX s p w]:=by unfold fiL fvL;rw [List.take_length]
     have eX:fiX s p w=(s,if hgB w=true then p - p%8 else p,w):=rfl
     have eg:grp p=p - p%8:=by unfold grp;rw [Int.tmod_eq_emod_of_nonneg hp2.1]
     have hgr':=hgr p hp2.1 (by omega)
     rw [eg] at hgr'
     cases hg:hgB w with
     | true =>
      rw [hg,if_pos rfl] at eX
      rw [hg] at k3
      obtain ⟨q,hq⟩:∃ q,q=p - p%8:=⟨_,rfl⟩
      rw [← hq] at eX hgr'
      rw [eX] at hovx eL x1 x2 x3
      simp only [TlV,U] at ht k3 ⊢
      have zS:=jj ht<|jj k1<|jj k2<|jj k3<|hgr'
      repeat' (first|(apply aw_seq_k;intro K hK)|(refine eF64 ?_)|(refine aw_cond (b:=_) (by exact rfl) (fun h=>?_) (fun h=>?_)<;>(try simp at h))|(refine eB ?_)|(refine hK _ ?_;clear hK)|(clear hK;refine hK _ ?_;clear hK)|(clear hK;clear hK;refine hK _ ?_;clear hK)|(clear hK;clear hK;clear hK;refine hK _ ?_;clear hK))
      all_goals clear zS
      refine aw_weaken (le_nilslot (t:=14) (sz:=3) (by simp)) ?_
      refine aw_loopK (s0:=?lps1) (m0:=?lpm1) (ι:={i:Nat // i≤l.length}) [4,8,13] (fun i=>[(15,I i.1),(14,.sl 608 1 3 0 (fvL l (s,q,w) i.1).length)]) (fun i=>[(608,.vec 1 3 false (trows (fvL l (s,q,w) i.1)))]) (fun i=>l.length - i.1) ⟨0,by omega⟩ ?lhs1 ?lhm1 ?_ ?_
      case lhs1=>first|(simp [keepS];done)|(simp [keepS];rfl)
      case lhm1=>first|rfl|(simp;done)|(simp;rfl)
      ·simp only [show fvL l (s,q,w) 0=[] from rfl]
       exact le_of2 (by simp) (by simp [AVle,AV.under,AV.underL,trows]<;>omega) (by simp [AOle,AO.under,AV.underL,AV.under,trows]<;>omega)
      ·rintro ⟨i,hi⟩
       simp only
       rcases Decidable.em (i<l.length) with hil|hil
       ·have hilI:(i:Int)<(l.length:Int):=by omega
        have hg:=trows_gi hil
        have hgE:=trows_gE hil
        have hq2:=hovx i hil
        have hst:=@fvL_s l (s,q,w) i hil
        have hln:=@fvL_len l (s,q,w) i
        obtain ⟨c,hcv⟩:∃ c,c=ovB (s,q,w) (gt l i):=⟨_,rfl⟩
        rw [← hcv] at hq2 hst
        obtain ⟨⟨y1,y2,y3⟩,hm⟩:∃ m,m=gt l i:=⟨_,rfl⟩
        rw [← hm] at hg hgE hq2 hst
        simp only [trow,TeV,U] at hg hgE hq2 hst
        obtain ⟨A,hA⟩:∃ A,A=fvL l (s,q,w) i:=⟨_,rfl⟩
        rw [← hA] at hst hln
        simp only [← hA]
        cases c with
        | true =>
         rw [if_pos rfl] at hst
         have zS:=jj hilI<|jj hil<|jj hg<|jj hgE<|hq2
         repeat' (first|(apply aw_seq_k;intro K hK)|(refine eF64 ?_)|(refine aw_cond (b:=_) (by exact rfl) (fun h=>?_) (fun h=>?_)<;>(try simp at h))|(refine eB ?_)|(refine hK _ ?_;clear hK)|(clear hK;refine hK _ ?_;clear hK)|(clear hK;clear hK;refine hK _ ?_;clear hK)|(clear hK;clear hK;clear hK;refine hK _ ?_;clear hK))
         all_goals clear zS
         refine ⟨i+1,?_,by omega,by omega⟩
         simp only [hst]
         exact le_of2 (by simp) (by simp [AVle,AV.under,AV.underL,U]<;>omega) (by simp [AOle,AO.under,AV.underL,AV.under,U]<;>omega)
        | false =>
         rw [if_neg (by decide)] at hst
         have tk:=tkT A
         have ta:trows A++[[I y1,I y2,.v (.int .u64 y3)]]=trows (A++[(y1,y2,y3)]):=by simp [trows,trow,U]
         have hA16:A.length≤16:=by omega
         have zS:=jj hilI<|jj hil<|jj hg<|jj hgE<|jj hq2<|jj tk<|jj ta<|hA16
         repeat' (first|(apply aw_seq_k;intro K hK)|(refine eF64 ?_)|(refine aw_cond (b:=_) (by exact rfl) (fun h=>?_) (fun h=>?_)<;>(try simp at h))|(refine eB ?_)|(refine hK _ ?_;clear hK)|(clear hK;refine hK _ ?_;clear hK)|(clear hK;clear hK;refine hK _ ?_;clear hK)|(clear hK;clear hK;clear hK;refine hK _ ?_;clear hK))
         all_goals clear zS
         refine ⟨i+1,?_,by omega,by omega⟩
         simp only [hst,List.length_append,List.length_cons,List.length_nil,Nat.zero_add]
         refine le_turn (s1:=?tus2) (m1:=?tum2) [] [15,14,1,2,3,4,8,12,13] [0,16,464,608] ?tua2 ?tub2 ?tuc2 ?tud2 ?tue2 ?tuf2 ?tug2
         case tua2=>first|(simp [keepS];done)|(simp [keepS];rfl)
         case tub2=>first|(simp;done)|(simp;rfl)
         case tuc2=>simp
         case tud2=>simp
         case tue2=>simp
         case tuf2=>simp
         case tug2 =>
          simp [swp,vr]
          exact dle
       ·obtain rfl:i=l.length:=by omega
        have hln:=@fvL_len l (s,q,w) l.length
        obtain ⟨A,hA⟩:∃ A,A=fvL l (s,q,w) l.length:=⟨_,rfl⟩
        rw [← hA] at eL hln
        simp only [← hA]
        have tk:=tkT A
        have hA16:A.length≤16:=by omega
        rcases Decidable.em ((A.length:Int)=z) with hz|hz
        ·rw [if_pos hz] at eL
         have hz2:z≤(A.length:Int):=by omega
         have hA1:1≤A.length:=by omega
         have hA1I:(1:Int)≤(A.length:Int):=by omega
         have zS:=jj hA16<|jj hz2<|jj hA1<|jj hA1I<|tk
         repeat' (first|(apply aw_seq_k;intro K hK)|(refine eF64 ?_)|(refine aw_cond (b:=_) (by exact rfl) (fun h=>?_) (fun h=>?_)<;>(try simp at h))|(refine eB ?_)|(refine hK _ ?_;clear hK)|(clear hK;refine hK _ ?_;clear hK)|(clear hK;clear hK;refine hK _ ?_;clear hK)|(clear hK;clear hK;clear hK;refine hK _ ?_;clear hK))
         all_goals clear zS
         rw [eX,eL]
         have f2:=@fin2 A hA1 s q w
         rw [show A.length - 1+1=A.length by omega] at f2
         have hA2:A.length - 1+1=A.length:=by omega
         all_goals refine ⟨by simp,?_⟩
         all_goals simp [leaves_iff,Tryz.f108,TlO,List.drop_one,f2,hA2]
         all_goals try exact dt
        ·rw [if_neg hz] at eL
         have hz2:¬ z≤(A.length:Int):=by omega
         have ta:trows A++[[I s,I q,.v (.int .u64 w)]]=trows (A++[(s,q,w)]):=by simp [trows,trow,U]
         have zS:=jj hA16<|jj hz2<|jj tk<|ta
         repeat' (first|(apply aw_seq_k;intro K hK)|(refine eF64 ?_)|(refine aw_cond (b:=_) (by exact rfl) (fun h=>?_) (fun h=>?_)<;>(try simp at h))|(refine eB ?_)|(refine hK _ ?_;clear hK)|(clear hK;refine hK _ ?_;clear hK)|(clear hK;clear hK;refine hK _ ?_;clear hK)|(clear hK;clear hK;clear hK;refine hK _ ?_;clear hK))
         all_goals clear zS
         rw [eX,eL]
         have t2:=tkT (A++[(s,q,w)])
         simp only [List.length_append,List.length_cons,List.length_nil,Nat.zero_add] at t2
         all_goals refine ⟨by simp,?_⟩
         all_goals simp [leaves_iff,Tryz.f108,TlO,t2]
         all_goals try exact dt
     | false =>
      rw [hg,if_neg (by decide)] at eX
      rw [hg] at k3
      rw [eX] at hovx eL x1 x2 x3
      simp only [TlV,U] at ht k3 ⊢
      have zS:=jj ht<|jj k1<|jj k2<|k3
      repeat' (first|(apply aw_seq_k;intro K hK)|(refine eF64 ?_)|(refine aw_cond (b:=_) (by exact rfl) (fun h=>?_) (fun h=>?_)<;>(try simp at h))|(refine eB ?_)|(refine hK _ ?_;clear hK)|(clear hK;refine hK _ ?_;clear hK)|(clear hK;clear hK;refine hK _ ?_;clear hK)|(clear hK;clear hK;clear hK;refine hK _ ?_;clear hK))
      all_goals clear zS
      refine aw_weaken (le_nilslot (t:=14) (sz:=3) (by simp)) ?_
      refine aw_loopK (s0:=?lps3) (m0:=?lpm3) (ι:={i:Nat // i≤l.length}) [4,8,13] (fun i=>[(15,I i.1),(14,.sl 544 1 3 0 (fvL l (s,p,w) i.1).length)]) (fun i=>[(544,.vec 1 3 false (trows (fvL l (s,p,w) i.1)))]) (fun i=>l.length - i.1) ⟨0,by omega⟩ ?lhs3 ?lhm3 ?_ ?_
      case lhs3=>first|(simp [keepS];done)|(simp [keepS];rfl)
      case lhm3=>first|rfl|(simp;done)|(simp;rfl)
      ·simp only [show fvL l (s,p,w) 0=[] from rfl]
       exact le_of2 (by simp) (by simp [AVle,AV.under,AV.underL,trows]<;>omega) (by simp [AOle,AO.under,AV.underL,AV.under,trows]<;>omega)
      ·rintro ⟨i,hi⟩
       simp only
       rcases Decidable.em (i<l.length) with hil|hil
       ·have hilI:(i:Int)<(l.length:Int):=by omega
        have hg:=trows_gi hil
        have hgE:=trows_gE hil
        have hq2:=hovx i hil
        have hst:=@fvL_s l (s,p,w) i hil
        have hln:=@fvL_len l (s,p,w) i
        obtain ⟨c,hcv⟩:∃ c,c=ovB (s,p,w) (gt l i):=⟨_,rfl⟩
        rw [← hcv] at hq2 hst
        obtain ⟨⟨y1,y2,y3⟩,hm⟩:∃ m,m=gt l i:=⟨_,rfl⟩
        rw [← hm] at hg hgE hq2 hst
        simp only [trow,TeV,U] at hg hgE hq2 hst
        obtain ⟨A,hA⟩:∃ A,A=fvL l (s,p,w) i:=⟨_,rfl⟩
        rw [← hA] at hst hln
        simp only [← hA]
        cases c with
        | true =>
         rw [if_pos rfl] at hst
         have zS:=jj hilI<|jj hil<|jj hg<|jj hgE<|hq2
         repeat' (first|(apply aw_seq_k;intro K hK)|(refine eF64 ?_)|(refine aw_cond (b:=_) (by exact rfl) (fun h=>?_) (fun h=>?_)<;>(try simp at h))|(refine eB ?_)|(refine hK _ ?_;clear hK)|(clear hK;refine hK _ ?_;clear hK)|(clear hK;clear hK;refine hK _ ?_;clear hK)|(clear hK;clear hK;clear hK;refine hK _ ?_;clear hK))
         all_goals clear zS
         refine ⟨i+1,?_,by omega,by omega⟩
         simp only [hst]
         exact le_of2 (by simp) (by simp [AVle,AV.under,AV.underL,U]<;>omega) (by simp [AOle,AO.under,AV.underL,AV.under,U]<;>omega)
        | false =>
         rw [if_neg (by decide)] at hst
         have tk:=tkT A
         have ta:trows A++[[I y1,I y2,.v (.int .u64 y3)]]=trows (A++[(y1,y2,y3)]):=by simp [trows,trow,U]
         have hA16:A.length≤16:=by omega
         have zS:=jj hilI<|jj hil<|jj hg<|jj hgE<|jj hq2<|jj tk<|jj ta<|hA16
         repeat' (first|(apply aw_seq_k;intro K hK)|(refine eF64 ?_)|(refine aw_cond (b:=_) (by exact rfl) (fun h=>?_) (fun h=>?_)<;>(try simp at h))|(refine eB ?_)|(refine hK _ ?_;clear hK)|(clear hK;refine hK _ ?_;clear hK)|(clear hK;clear hK;refine hK _ ?_;clear hK)|(clear hK;clear hK;clear hK;refine hK _ ?_;clear hK))
         all_goals clear zS
         refine ⟨i+1,?_,by omega,by omega⟩
         simp only [hst,List.length_append,List.length_cons,List.length_nil,Nat.zero_add]
         refine le_turn (s1:=?tus4) (m1:=?tum4) [] [15,14,1,2,3,4,8,12,13] [0,16,464,544] ?tua4 ?tub4 ?tuc4 ?tud4 ?tue4 ?tuf4 ?tug4
         case tua4=>first|(simp [keepS];done)|(simp [keepS];rfl)
         case tub4=>first|(simp;done)|(simp;rfl)
         case tuc4=>simp
         case tud4=>simp
         case tue4=>simp
         case tuf4=>simp
         case tug4 =>
          simp [swp,vr]
          exact dle
       ·obtain rfl:i=l.length:=by omega
        have hln:=@fvL_len l (s,p,w) l.length
        obtain ⟨A,hA⟩:∃ A,A=fvL l (s,p,w) l.length:=⟨_,rfl⟩
        rw [← hA] at eL hln
        simp only [← hA]
        have tk:=tkT A
        have hA16:A.length≤16:=by omega
        rcases Decidable.em ((A.length:Int)=z) with hz|hz
        ·rw [if_pos hz] at eL
         have hz2:z≤(A.length:Int):=by omega
         have hA1:1≤A.length:=by omega
         have hA1I:(1:Int)≤(A.length:Int):=by omega
         have zS:=jj hA16<|jj hz2<|jj hA1<|jj hA1I<|tk
         repeat' (first|(apply aw_seq_k;intro K hK)|(refine eF64 ?_)|(refine aw_cond (b:=_) (by exact rfl) (fun h=>?_) (fun h=>?_)<;>(try simp at h))|(refine eB ?_)|(refine hK _ ?_;clear hK)|(clear hK;refine hK _ ?_;clear hK)|(clear hK;clear hK;refine hK _ ?_;clear hK)|(clear hK;clear hK;clear hK;refine hK _ ?_;clear hK))
         all_goals clear zS
         rw [eX,eL]
         have f2:=@fin2 A hA1 s p w
         rw [show A.length - 1+1=A.length by omega] at f2
         have hA2:A.length - 1+1=A.length:=by omega
         all_goals refine ⟨by simp,?_⟩
         all_goals simp [leaves_iff,Tryz.f108,TlO,List.drop_one,f2,hA2]
         all_goals try exact dt
        ·rw [if_neg hz] at eL
         have hz2:¬ z≤(A.length:Int):=by omega
         have ta:trows A++[[I s,I p,.v (.int .u64 w)]]=trows (A++[(s,p,w)]):=by simp [trows,trow,U]
         have zS:=jj hA16<|jj hz2<|jj tk<|ta
         repeat' (first|(apply aw_seq_k;intro K hK)|(refine eF64 ?_)|(refine aw_cond (b:=_) (by exact rfl) (fun h=>?_) (fun h=>?_)<;>(try simp at h))|(refine eB ?_)|(refine hK _ ?_;clear hK)|(clear hK;refine hK _ ?_;clear hK)|(clear hK;clear hK;refine hK _ ?_;clear hK)|(clear hK;clear hK;clear hK;refine hK _ ?_;clear hK))
         all_goals clear zS
         rw [eX,eL]
         have t2:=tkT (A++[(s,p,w)])
         simp only [List.length_append,List.length_cons,List.length_nil,Nat.zero_add] at t2
         all_goals refine ⟨by simp,?_⟩
         all_goals simp [leaves_iff,Tryz.f108,TlO,t2]
         all_goals try exact dt
 ·have e:fiT (z,l) s p w=(zB,chB (z,l)):=by unfold fiT;rw [if_pos h0]
  rw [e]
  obtain ⟨c,hcz⟩:∃ c,c=chB (z,l):=⟨_,rfl⟩
  rw [← hcz] at ht h0 ⊢
  simp only [TlV,TlO,zB] at ht ⊢
  have zS:=jj ht<|h0
  refine dF64 ?_
  repeat (intro K hK)
  clear zS
  all_goals refine ⟨by simp,?_⟩
  all_goals simp [leaves_iff,Tryz.f108,trows]
  all_goals try exact dt
end Go.AM
set_option maxHeartbeats 16000000
namespace Go.AM
open Go Go.Proofs
noncomputable def MiT:List AV→Option AV:=specF (ι:={x:Tb×Tl×Int×Int×Int // tbOK x.1∧tlOK x.2.1}) (fun x=>[TbV x.1.1,TlV x.1.2.1,I x.1.2.2.1,I x.1.2.2.2.1,I x.1.2.2.2.2]) fun x=>retOf [TbO x.1.1,TlO (inT x.1.2.1 x.1.2.2.1 x.1.2.2.2.1).1,I 0,I x.1.2.2.2.2]
theorem s106 (X:AX) (hX:XOK Tryz.prog X) (hw:X.W wT) (cT:∀ t:Tb,tbOK t→∀ M n,X.call 104 [TbV t] M n=some (TbC t n,outT t n))
  (iv:∀ (b:Tl) (s p:Int),tlOK b→∀ M n,X.call 177 [TlV b,I s,I p] M n=some (.tup [TlC (inT b s p).1 n,I (inT b s p).2],[(n,.vec 1 3 false (trows (inT b s p).1.2))])):PSound Tryz.prog 106 MiT:=by
 unfold MiT
 refine psound_spec hX mixed Tryz.func106 rfl fun ⟨⟨⟨r,ns,ds⟩,⟨z,l⟩,s,p,e⟩,ht,hb⟩ w0 G=>⟨by show 5≤27;decide,rfl,?_⟩
 show AW ⟨Tryz.prog,X,27,w0,.pure G⟩ _ _ _
 have hc:Cx.OK ⟨Tryz.prog,X,27,w0,.pure G⟩:=⟨hX,mixed⟩
 simp only at ht hb ⊢
 have cT:=cT _ ht
 have iv:=iv _ s p hb
 obtain ⟨⟨⟨z',l'⟩,er⟩,hI⟩:∃ x,x=inT (z,l) s p:=⟨_,rfl⟩
 rw [← hI] at iv ⊢
 have t1:=tkN ns
 have t2:=tkP ds
 have t3:=tkT l'
 simp only [TbV,TlV,TbC,TlC,outT,TbO,TlO] at cT iv ⊢
 have zS:=jj cT<|iv
 refine dF64 ?_
 repeat (intro K hK)
 clear zS
 all_goals refine ⟨by simp,?_⟩
 all_goals simp [leaves_iff,Tryz.f106,t1,t2,t3]
 all_goals try exact dt
structure ArX (X:AX):Prop where
 ch:∀ t:Tb,tbOK t→∀ M n,X.call 40 [TbV t] M n=some (I (chk t),[])
 ct:∀ b:Tl,tlOK b→∀ M n,X.call 101 [TlV b] M n=some (I (chB b),[])
 lk:∀ (b:Tl) (s p:Int),tlOK b→p<1000000→∀ M n,X.call 102 [TlV b,I s,I p] M n=some (.tup [U (lkT b s p).1,B (lkT b s p).2],[])
 et:∀ w:Nat,w<2^64→∀ M k,X.call 103 [U w] M k=some (EnV (decR w).1,[])
 cT:∀ t:Tb,tbOK t→∀ M n,X.call 104 [TbV t] M n=some (TbC t n,outT t n)
 fg:∀ (e:En) (p:Int),0≤e.2.1→e.2.1≤4294967295→0≤p→∀ M n,X.call 105 [EnV e,I p] M n=some (I (frmG e p),[])
 wa:∀ (t:Tb) (x:Int),tbOK t→∀ M n,X.call 36 [TbV t,I x] M n=some (.tup [U (walkT t x).1,I (walkT t x).2.1,I (walkT t x).2.2],[])
 mi:∀ (t:Tb) (b:Tl) (s p e:Int),tbOK t→tlOK b→∀ M n,X.call 106 [TbV t,TlV b,I s,I p,I e] M n=some (.tup [TbC t n,TlC (inT b s p).1 (n+2),I 0,I e],outT t n++[(n+2,.vec 1 3 false (trows (inT b s p).1.2))])
 mq:∀ (w:Nat) (wr:Bool),w<2^64→∀ M n,X.call 107 [U w,B wr] M n=some (.tup [U (mkW w wr).1,I (mkW w wr).2],[])
 re:∀ (t:Tb) (p:Int) (w:Nat),tbOK t→w<2^64→∀ M n,X.call 62 [TbV t,I p,U w] M n=some (.tup [TbC (repP t p w).1 n,U (repP t p w).2.1,I (repP t p w).2.2],outT (repP t p w).1 n)
 fi:∀ (b:Tl) (s p:Int) (w:Nat),tlOK b→w<2^64→∀ M n,X.call 108 [TlV b,I s,I p,U w] M n=some (.tup [TlC (fiT b s p w).1 n,I (fiT b s p w).2],[(n,.vec 1 3 false (trows (fiT b s p w).1.2))])
theorem s30 (X:AX) (hX:XOK Tryz.prog X) (hw:X.W wT) (L:ArX X):PSound Tryz.prog 30 AcF:=by
 unfold AcF
 refine psound_spec hX mixed Tryz.func30 rfl fun ⟨⟨⟨r,ns,ds⟩,⟨z,l⟩,s,p,wr⟩,ht,hb⟩ w0 G=>⟨by show 5≤159;decide,rfl,?_⟩
 show AW ⟨Tryz.prog,X,159,w0,.pure G⟩ _ _ _
 have hc:Cx.OK ⟨Tryz.prog,X,159,w0,.pure G⟩:=⟨hX,mixed⟩
 simp only at ht hb ⊢
 have ch:=L.ch _ ht
 have ct:=L.ct _ hb
 rcases Decidable.em (chk (r,ns,ds)=0) with h0|h0
 ·rw [h0] at ch
  rcases Decidable.em (chB (z,l)=0) with g0|g0
  ·rw [g0] at ct
   cases hpb:plcB s p with
   | false =>
    have e:acT (r,ns,ds) (z,l) s p wr=(zT,zB,0,2):=by unfold acT;rw [if_neg (by simp [h0]),if_neg (by simp [g0]),if_pos hpb]
    rw [e]
    have hbad:s<0∨8≤s∨p<0∨512≤p:=by
     unfold plcB at hpb
     have:=of_decide_eq_false hpb
     omega
    simp only [TbV,TlV,TbO,TlO,zT,zB] at ch ct ⊢
    rcases Decidable.em (s<0) with k1|k1
    ·have zS:=jj ch<|jj ct<|k1
     refine dF64 ?_
     repeat (intro K hK)
     clear zS
     all_goals refine ⟨by simp,?_⟩
     all_goals simp [leaves_iff,Tryz.f30,nrows,prows,trows]
     all_goals try exact dt
    ·rcases Decidable.em (8≤s) with k2|k2
     ·have zS:=jj ch<|jj ct<|jj k1<|k2
      refine dF64 ?_
      repeat (intro K hK)
      clear zS
      all_goals refine ⟨by simp,?_⟩
      all_goals simp [leaves_iff,Tryz.f30,nrows,prows,trows]
      all_goals try exact dt
     ·rcases Decidable.em (p<0) with k3|k3
      ·have zS:=jj ch<|jj ct<|jj k1<|jj k2<|k3
       refine dF64 ?_
       repeat (intro K hK)
       clear zS
       all_goals refine ⟨by simp,?_⟩
       all_goals simp [leaves_iff,Tryz.f30,nrows,prows,trows]
       all_goals try exact dt
      ·have k4:512≤p:=by omega
       have zS:=jj ch<|jj ct<|jj k1<|jj k2<|jj k3<|k4
       refine dF64 ?_
       repeat (intro K hK)
       clear zS
       all_goals refine ⟨by simp,?_⟩
       all_goals simp [leaves_iff,Tryz.f30,nrows,prows,trows]
       all_goals try exact dt
   | true =>
    have hpl2:0≤s∧s<8∧0≤p∧p<512:=by unfold plcB at hpb;simpa using hpb
    have k1:¬ s<0:=by omega
    have k2:¬ 8≤s:=by omega
    have k3:¬ p<0:=by omega
    have k4:¬ 512≤p:=by omega
    have lk:=L.lk (z,l) s p hb (by omega)
    have de:=L.et _ (lk_u64 (s:=s) (p:=p) hb)
    have fg:=L.fg (decR (lkT (z,l) s p).1).1 p (decR_rng _).1 (decR_rng _).2 hpl2.2.2.1
    have cT:=L.cT _ ht
    have wa:=L.wa _ p ht
    have w64:=walk_u64 ht p
    have de2:=L.et _ w64
    have mi3:=L.mi _ _ s p 13 ht hb
    have mi2:=L.mi _ _ s p 12 ht hb
    have mk:=L.mq _ wr w64
    have re:=L.re _ p _ ht (mkW_lt (wr:=wr) w64)
    have fi:=L.fi _ s p _ hb (mkW_lt (wr:=wr) w64)
    have fg2:=L.fg (decR (walkT (r,ns,ds) p).1).1 p (decR_rng _).1 (decR_rng _).2 hpl2.2.2.1
    have eM:acM (r,ns,ds) (z,l) s p wr=if rfE (decR (walkT (r,ns,ds) p).1).1 wr≠0 then ((r,ns,ds),(inT (z,l) s p).1,0,rfE (decR (walkT (r,ns,ds) p).1).1 wr)
     else ((repP (r,ns,ds) p (mkW (walkT (r,ns,ds) p).1 wr).1).1,(fiT (z,l) s p (mkW (walkT (r,ns,ds) p).1 wr).1).1,frmG (decR (walkT (r,ns,ds) p).1).1 p,0):=rfl
    have eA:acT (r,ns,ds) (z,l) s p wr=if (lkT (z,l) s p).2=true∧(wr=false∨((decR (lkT (z,l) s p).1).1.2.2.1=true∧(decR (lkT (z,l) s p).1).1.2.2.2.2.1=true)) then ((r,ns,ds),(z,l),frmG (decR (lkT (z,l) s p).1).1 p,0) else acM (r,ns,ds) (z,l) s p wr:=by
     unfold acT
     rw [if_neg (by simp [h0]),if_neg (by simp [g0]),if_neg (by simp [hpb])]
    rw [eA]
    clear eA
    obtain ⟨⟨lw,lb⟩,hlk⟩:∃ x,x=lkT (z,l) s p:=⟨_,rfl⟩
    rw [← hlk] at lk de fg ⊢
    simp only at lk de fg ⊢
    obtain ⟨⟨k,num,b1,b2,b3,hg⟩,hx⟩:∃ x,x=(decR lw).1:=⟨_,rfl⟩
    rw [← hx] at de fg ⊢
    obtain ⟨⟨ww,wl,we⟩,hwa⟩:∃ x,x=walkT (r,ns,ds) p:=⟨_,rfl⟩
    rw [← hwa] at wa de2 mk re fi fg2 eM
    simp only at wa de2 mk re fi fg2 eM
    obtain ⟨⟨k',num',c1,c2,c3,hg'⟩,hx'⟩:∃ x,x=(decR ww).1:=⟨_,rfl⟩
    rw [← hx'] at de2 fg2 eM
    obtain ⟨⟨mw,me⟩,hmk⟩:∃ x,x=mkW ww wr:=⟨_,rfl⟩
    rw [← hmk] at mk re fi eM
    simp only at re fi eM
    obtain ⟨⟨⟨r2,n2,d2⟩,v2,e2⟩,hre⟩:∃ x,x=repP (r,ns,ds) p mw:=⟨_,rfl⟩
    rw [← hre] at re eM
    obtain ⟨⟨⟨z2,l2⟩,e3⟩,hfi⟩:∃ x,x=fiT (z,l) s p mw:=⟨_,rfl⟩
    rw [← hfi] at fi eM
    obtain ⟨⟨⟨z3,l3⟩,e4⟩,hiv⟩:∃ x,x=inT (z,l) s p:=⟨_,rfl⟩
    rw [← hiv] at mi3 mi2 eM
    obtain ⟨rv,hrv⟩:∃ x,x=rfE (k',num',c1,c2,c3,hg') wr:=⟨_,rfl⟩
    simp only at fg2 eM
    rw [← hrv] at eM
    obtain ⟨f1,hf1⟩:∃ x,x=frmG (k,num,b1,b2,b3,hg) p:=⟨_,rfl⟩
    rw [← hf1] at fg ⊢
    obtain ⟨f2,hf2⟩:∃ x,x=frmG (k',num',c1,c2,c3,hg') p:=⟨_,rfl⟩
    rw [← hf2] at fg2 eM
    have tkl:=tkT l
    have hln:l.length≤1073741824:=by have:=hb.1;simp only at this;omega
    rw [eM]
    clear eM hlk hx hwa hx' hmk hre hfi hiv hf1 hf2
    unfold rfE at hrv
    simp only at hrv
    simp only [TbV,TlV,TbC,TlC,TbO,TlO,EnV,U,outT,List.cons_append,List.nil_append] at ch ct lk de fg cT wa de2 mi3 mi2 mk re fi fg2 ⊢
    cases lb with
    | false =>
     rw [if_neg (by simp)]
     rcases Decidable.em (k'=1) with q1|q1
     ·subst q1
      cases wr with
      | false =>
       have hr0:rv=0:=by rw [hrv];simp
       rw [if_neg (by simp [hr0])]
       have zS:=jj ch<|jj ct<|jj k1<|jj k2<|jj k3<|jj k4<|jj lk<|jj wa<|jj de2<|jj mk<|jj re<|jj fi<|fg2
       refine dF64 ?_
       repeat (intro K hK)
       clear zS
       all_goals refine ⟨by simp,?_⟩
       all_goals simp [leaves_iff,Tryz.f30,tkN,tkP,tkT]
       all_goals try exact dt
      | true =>
       cases c1 with
       | true =>
        have hr0:rv=0:=by rw [hrv];simp
        rw [if_neg (by simp [hr0])]
        have zS:=jj ch<|jj ct<|jj k1<|jj k2<|jj k3<|jj k4<|jj lk<|jj wa<|jj de2<|jj mk<|jj re<|jj fi<|fg2
        refine dF64 ?_
        repeat (intro K hK)
        clear zS
        all_goals refine ⟨by simp,?_⟩
        all_goals simp [leaves_iff,Tryz.f30,tkN,tkP,tkT]
        all_goals try exact dt
       | false =>
        have hr0:rv=12:=by rw [hrv];simp
        rw [if_pos (by simp [hr0]),hr0]
        have zS:=jj ch<|jj ct<|jj k1<|jj k2<|jj k3<|jj k4<|jj lk<|jj wa<|jj de2<|mi2
        refine dF64 ?_
        repeat (intro K hK)
        clear zS
        all_goals refine ⟨by simp,?_⟩
        all_goals simp [leaves_iff,Tryz.f30,tkN,tkP,tkT]
        all_goals try exact dt
     ·skip
      have hr0:rv=13:=by rw [hrv];simp [q1]
      rw [if_pos (by simp [hr0]),hr0]
      have zS:=jj ch<|jj ct<|jj k1<|jj k2<|jj k3<|jj k4<|jj lk<|jj wa<|jj de2<|jj mi3<|q1
      refine dF64 ?_
      repeat (intro K hK)
      clear zS
      all_goals refine ⟨by simp,?_⟩
      all_goals simp [leaves_iff,Tryz.f30,tkN,tkP,tkT]
      all_goals try exact dt
    | true =>
     cases wr with
     | false =>
      rw [if_pos (by simp)]
      have zS:=jj ch<|jj ct<|jj k1<|jj k2<|jj k3<|jj k4<|jj lk<|jj de<|jj cT<|jj fg<|jj tkl<|hln
      refine dF64 ?_
      repeat (intro K hK)
      clear zS
      all_goals refine ⟨by simp,?_⟩
      all_goals simp [leaves_iff,Tryz.f30,tkN,tkP,tkT]
      all_goals try exact dt
     | true =>
      cases b1 with
      | true =>
       cases b3 with
       | true =>
        rw [if_pos (by simp)]
        have zS:=jj ch<|jj ct<|jj k1<|jj k2<|jj k3<|jj k4<|jj lk<|jj de<|jj cT<|jj fg<|jj tkl<|hln
        refine dF64 ?_
        repeat (intro K hK)
        clear zS
        all_goals refine ⟨by simp,?_⟩
        all_goals simp [leaves_iff,Tryz.f30,tkN,tkP,tkT]
        all_goals try exact dt
       | false =>
        rw [if_neg (by simp)]
        rcases Decidable.em (k'=1) with q1|q1
        ·subst q1
         cases c1 with
         | true =>
          have hr0:rv=0:=by rw [hrv];simp
          rw [if_neg (by simp [hr0])]
          have zS:=jj ch<|jj ct<|jj k1<|jj k2<|jj k3<|jj k4<|jj lk<|jj de<|jj wa<|jj de2<|jj mk<|jj re<|jj fi<|fg2
          refine dF64 ?_
          repeat (intro K hK)
          clear zS
          all_goals refine ⟨by simp,?_⟩
          all_goals simp [leaves_iff,Tryz.f30,tkN,tkP,tkT]
          all_goals try exact dt
         | false =>
          have hr0:rv=12:=by rw [hrv];simp
          rw [if_pos (by simp [hr0]),hr0]
          have zS:=jj ch<|jj ct<|jj k1<|jj k2<|jj k3<|jj k4<|jj lk<|jj de<|jj wa<|jj de2<|mi2
          refine dF64 ?_
          repeat (intro K hK)
          clear zS
          all_goals refine ⟨by simp,?_⟩
          all_goals simp [leaves_iff,Tryz.f30,tkN,tkP,tkT]
          all_goals try exact dt
        ·skip
         have hr0:rv=13:=by rw [hrv];simp [q1]
         rw [if_pos (by simp [hr0]),hr0]
         have zS:=jj ch<|jj ct<|jj k1<|jj k2<|jj k3<|jj k4<|jj lk<|jj de<|jj wa<|jj de2<|jj mi3<|q1
         refine dF64 ?_
         repeat (intro K hK)
         clear zS
         all_goals refine ⟨by simp,?_⟩
         all_goals simp [leaves_iff,Tryz.f30,tkN,tkP,tkT]
         all_goals try exact dt
      | false =>
       rw [if_neg (by simp)]
       rcases Decidable.em (k'=1) with q1|q1
       ·subst q1
        cases c1 with
        | true =>
         have hr0:rv=0:=by rw [hrv];simp
         rw [if_neg (by simp [hr0])]
         have zS:=jj ch<|jj ct<|jj k1<|jj k2<|jj k3<|jj k4<|jj lk<|jj de<|jj wa<|jj de2<|jj mk<|jj re<|jj fi<|fg2
         refine dF64 ?_
         repeat (intro K hK)
         clear zS
         all_goals refine ⟨by simp,?_⟩
         all_goals simp [leaves_iff,Tryz.f30,tkN,tkP,tkT]
         all_goals try exact dt
        | false =>
         have hr0:rv=12:=by rw [hrv];simp
         rw [if_pos (by simp [hr0]),hr0]
         have zS:=jj ch<|jj ct<|jj k1<|jj k2<|jj k3<|jj k4<|jj lk<|jj de<|jj wa<|jj de2<|mi2
         refine dF64 ?_
         repeat (intro K hK)
         clear zS
         all_goals refine ⟨by simp,?_⟩
         all_goals simp [leaves_iff,Tryz.f30,tkN,tkP,tkT]
         all_goals try exact dt
       ·skip
        have hr0:rv=13:=by rw [hrv];simp [q1]
        rw [if_pos (by simp [hr0]),hr0]
        have zS:=jj ch<|jj ct<|jj k1<|jj k2<|jj k3<|jj k4<|jj lk<|jj de<|jj wa<|jj de2<|jj mi3<|q1
        refine dF64 ?_
        repeat (intro K hK)
        clear zS
        all_goals refine ⟨by simp,?_⟩
        all_goals simp [leaves_iff,Tryz.f30,tkN,tkP,tkT]
        all_goals try exact dt
  ·have e:acT (r,ns,ds) (z,l) s p wr=(zT,zB,0,chB (z,l)):=by unfold acT;rw [if_neg (by simp [h0]),if_pos g0]
   rw [e]
   obtain ⟨c,hcz⟩:∃ c,c=chB (z,l):=⟨_,rfl⟩
   rw [← hcz] at ct g0 ⊢
   simp only [TbV,TlV,TbO,TlO,zT,zB] at ch ct ⊢
   have zS:=jj ch<|jj ct<|g0
   refine dF64 ?_
   repeat (intro K hK)
   clear zS
   all_goals refine ⟨by simp,?_⟩
   all_goals simp [leaves_iff,Tryz.f30,nrows,prows,trows]
   all_goals try exact dt
 ·have e:acT (r,ns,ds) (z,l) s p wr=(zT,zB,0,chk (r,ns,ds)):=by unfold acT;rw [if_pos h0]
  rw [e]
  obtain ⟨c,hcz⟩:∃ c,c=chk (r,ns,ds):=⟨_,rfl⟩
  rw [← hcz] at ch h0 ⊢
  simp only [TbV,TlV,TbO,TlO,zT,zB] at ch ⊢
  have zS:=jj ch<|h0
  refine dF64 ?_
  repeat (intro K hK)
  clear zS
  all_goals refine ⟨by simp,?_⟩
  all_goals simp [leaves_iff,Tryz.f30,nrows,prows,trows]
  all_goals try exact dt
end Go.AM
