/- A part of the proof: what functions of the program compute, by abstract execution of their code. Its theorems hold without further condition. -/
import Derived.Test.YtcfhmdljeeppfaaUTMr1
import Derived.Test.YtcfhmdljeeppfaaUTPt72
import Derived.Test.YtcfhmdljeeppfaaUAmMp
set_option linter.all false
namespace Go.AM
open Go Go.Proofs
set_option maxRecDepth 4000
theorem tep_inj {a b:Te}:AV.rp [I a.1,I a.2.1,U a.2.2]=AV.rp [I b.1,I b.2.1,U b.2.2]↔a=b:=by
 rw [AV.rp.injEq];exact rp_inj
theorem Uinj {a b:Nat}:U a=U b↔a=b:=by
 constructor
 ·intro h;simp only [U,AV.v.injEq,Value.int.injEq,true_and] at h;omega
 ·rintro rfl;rfl
theorem Iinj {a b:Int}:I a=I b↔a=b:=by simp [I]
theorem Binj {a b:Bool}:B a=B b↔a=b:=by simp [B]
theorem rpI_inj {a b:Int}:AV.rp [I a]=AV.rp [I b]↔a=b:=by simp [I]
theorem open_tl {b:Tl} {e:Int} {n:Nat}:openRet n (retOf [TlO b,I e])=(.tup [TlC b n,I e],outC b n,n+1):=by
 simp [retOf,openRet,openVals,openVal,openLeaves,openLeaf,TlO,TlC,outC,trows]
theorem open_tl1 {b:Tl} {n:Nat}:openRet n (retOf [TlO b])=(TlC b n,outC b n,n+1):=by
 simp [retOf,openRet,openVals,openVal,openLeaves,openLeaf,TlO,TlC,outC,trows]
theorem open_tb1 {t:Tb} {n:Nat}:openRet n (retOf [TbO t])=(TbC t n,outT t n,n+2):=by
 simp [retOf,openRet,openVals,openVal,openLeaves,openLeaf,TbO,TbC,outT]
theorem open_ac {t:Tb} {b:Tl} {f e:Int} {n:Nat}:openRet n (retOf [TbO t,TlO b,I f,I e])=(.tup [TbC t n,TlC b (n+2),I f,I e],outT t n++outC b (n+2),n+3):=by
 simp [retOf,openRet,openVals,openVal,openLeaves,openLeaf,TlO,TlC,outC,TbO,TbC,outT,trows]
theorem open_ha {t:Tb} {l:List Int} {e:Int} {n:Nat}:openRet n (retOf [TbO t,.ow 1 (irows l),I e])=(.tup [TbC t n,.sl (n+2) 1 1 0 l.length,I e],outT t n++[(n+2,.vec 1 1 false (irows l))],n+3):=by
 simp [retOf,openRet,openVals,openVal,openLeaves,openLeaf,TbO,TbC,outT,irows]
theorem cTr (w:Nat) (hw:w<2^64) (M:Nat→AO) (n:Nat):callP TrF [U w] M n=some (.tup [B (trB w),B (hgB w)],[]):=by
 unfold TrF
 rw [callP_spec (ι:={w:Nat // w<2^64}) (A:=fun x=>[U x.1]) (R:=fun x=>retOf [B (trB x.1),B (hgB x.1)]) ⟨w,hw⟩ (by simp [TeV,TlV,TbV,EnV,U]) ?_ (by simp [retOf,openRet,openVals,openVal,openLeaves,openLeaf,TeV,TlV,TbV,EnV,U])]
 ·simp [retOf,openRet,openVals,openVal,openLeaves,openLeaf,TeV,TlV,TbV,EnV,U]
 ·rintro ⟨w',h'⟩ e
  simp only [List.cons.injEq,TeV_inj,TlV_inj,TbV_inj,EnV_inj,Iinj,Uinj,Binj,tep_inj,rpI_inj,irows_inj,trows_inj,and_true] at e
  subst e;rfl
theorem cSpn (w:Nat) (hw:w<2^64) (M:Nat→AO) (n:Nat):callP SpnF [U w] M n=some (I (spn w),[]):=by
 unfold SpnF
 rw [callP_spec (ι:={w:Nat // w<2^64}) (A:=fun x=>[U x.1]) (R:=fun x=>retOf [I (spn x.1)]) ⟨w,hw⟩ (by simp [TeV,TlV,TbV,EnV,U]) ?_ (by simp [retOf,openRet,openVals,openVal,openLeaves,openLeaf,TeV,TlV,TbV,EnV,U])]
 ·simp [retOf,openRet,openVals,openVal,openLeaves,openLeaf,TeV,TlV,TbV,EnV,U]
 ·rintro ⟨w',h'⟩ e
  simp only [List.cons.injEq,TeV_inj,TlV_inj,TbV_inj,EnV_inj,Iinj,Uinj,Binj,tep_inj,rpI_inj,irows_inj,trows_inj,and_true] at e
  subst e;rfl
theorem cPlc (s p:Int) (M:Nat→AO) (n:Nat):callP PlcF [I s,I p] M n=some (I (if plcB s p=true then 0 else 2),[]):=by
 unfold PlcF
 rw [callP_spec (ι:=Int×Int) (A:=fun x=>[I x.1,I x.2]) (R:=fun x=>retOf [I (if plcB x.1 x.2=true then 0 else 2)]) (s,p) (by simp [TeV,TlV,TbV,EnV,U]) ?_ (by simp [retOf,openRet,openVals,openVal,openLeaves,openLeaf,TeV,TlV,TbV,EnV,U])]
 ·simp [retOf,openRet,openVals,openVal,openLeaves,openLeaf,TeV,TlV,TbV,EnV,U]
 ·rintro ⟨s',p'⟩ e
  simp only [List.cons.injEq,TeV_inj,TlV_inj,TbV_inj,EnV_inj,Iinj,Uinj,Binj,tep_inj,rpI_inj,irows_inj,trows_inj,and_true] at e
  obtain ⟨rfl,rfl⟩:=e;rfl
theorem cCv (x:Te) (s p:Int) (hx:teOK x) (M:Nat→AO) (n:Nat):callP CvF [TeV x,I s,I p] M n=some (B (cvB x s p),[]):=by
 unfold CvF
 rw [callP_spec (ι:={x:Te×Int×Int // teOK x.1}) (A:=fun x=>[TeV x.1.1,I x.1.2.1,I x.1.2.2]) (R:=fun x=>retOf [B (cvB x.1.1 x.1.2.1 x.1.2.2)]) ⟨(x,s,p),hx⟩ (by simp [TeV,TlV,TbV,EnV,U]) ?_ (by simp [retOf,openRet,openVals,openVal,openLeaves,openLeaf,TeV,TlV,TbV,EnV,U])]
 ·simp [retOf,openRet,openVals,openVal,openLeaves,openLeaf,TeV,TlV,TbV,EnV,U]
 ·rintro ⟨⟨x',s',p'⟩,h'⟩ e
  simp only [List.cons.injEq,TeV_inj,TlV_inj,TbV_inj,EnV_inj,Iinj,Uinj,Binj,tep_inj,rpI_inj,irows_inj,trows_inj,and_true] at e
  obtain ⟨rfl,rfl,rfl⟩:=e;rfl
theorem cOv (x y:Te) (hx:teOK x) (hy:teOK y) (M:Nat→AO) (n:Nat):callP OvF [TeV x,TeV y] M n=some (B (ovB x y),[]):=by
 unfold OvF
 rw [callP_spec (ι:={x:Te×Te // teOK x.1∧teOK x.2}) (A:=fun x=>[TeV x.1.1,TeV x.1.2]) (R:=fun x=>retOf [B (ovB x.1.1 x.1.2)]) ⟨(x,y),hx,hy⟩ (by simp [TeV,TlV,TbV,EnV,U]) ?_ (by simp [retOf,openRet,openVals,openVal,openLeaves,openLeaf,TeV,TlV,TbV,EnV,U])]
 ·simp [retOf,openRet,openVals,openVal,openLeaves,openLeaf,TeV,TlV,TbV,EnV,U]
 ·rintro ⟨⟨x',y'⟩,h'⟩ e
  simp only [List.cons.injEq,TeV_inj,TlV_inj,TbV_inj,EnV_inj,Iinj,Uinj,Binj,tep_inj,rpI_inj,irows_inj,trows_inj,and_true] at e
  obtain ⟨rfl,rfl⟩:=e;rfl
theorem cCj (x y:Te) (hx:teOK x) (hy:teOK y) (M:Nat→AO) (n:Nat):callP CkJ [TeV y,.rp [I x.1,I x.2.1,U x.2.2]] M n=some (B (ovB x y),[]):=by
 unfold CkJ
 rw [callP_spec (ι:={x:Te×Te // teOK x.1∧teOK x.2}) (A:=fun x=>[TeV x.1.2,.rp [I x.1.1.1,I x.1.1.2.1,U x.1.1.2.2]]) (R:=fun x=>retOf [B (ovB x.1.1 x.1.2)]) ⟨(x,y),hx,hy⟩ (by simp [TeV,TlV,TbV,EnV,U]) ?_ (by simp [retOf,openRet,openVals,openVal,openLeaves,openLeaf,TeV,TlV,TbV,EnV,U])]
 ·simp [retOf,openRet,openVals,openVal,openLeaves,openLeaf,TeV,TlV,TbV,EnV,U]
 ·rintro ⟨⟨x',y'⟩,h'⟩ e
  simp only [List.cons.injEq,TeV_inj,TlV_inj,TbV_inj,EnV_inj,Iinj,Uinj,Binj,tep_inj,rpI_inj,irows_inj,trows_inj,and_true] at e
  obtain ⟨rfl,rfl⟩:=e;rfl
theorem cIj (x:Te) (s p:Int) (hx:teOK x) (M:Nat→AO) (n:Nat):callP IvF [TeV x,.rp [I s],.rp [I p]] M n=some (B (cvB x s p),[]):=by
 unfold IvF
 rw [callP_spec (ι:={x:Te×Int×Int // teOK x.1}) (A:=fun x=>[TeV x.1.1,.rp [I x.1.2.1],.rp [I x.1.2.2]]) (R:=fun x=>retOf [B (cvB x.1.1 x.1.2.1 x.1.2.2)]) ⟨(x,s,p),hx⟩ (by simp [TeV,TlV,TbV,EnV,U]) ?_ (by simp [retOf,openRet,openVals,openVal,openLeaves,openLeaf,TeV,TlV,TbV,EnV,U])]
 ·simp [retOf,openRet,openVals,openVal,openLeaves,openLeaf,TeV,TlV,TbV,EnV,U]
 ·rintro ⟨⟨x',s',p'⟩,h'⟩ e
  simp only [List.cons.injEq,TeV_inj,TlV_inj,TbV_inj,EnV_inj,Iinj,Uinj,Binj,tep_inj,rpI_inj,irows_inj,trows_inj,and_true] at e
  obtain ⟨rfl,rfl,rfl⟩:=e;rfl
theorem cPw (w:Nat) (hw:w<2^64) (M:Nat→AO) (n:Nat):callP PgF [U w] M n=some (.tup [EnV (pgW w).1,I (pgW w).2],[]):=by
 unfold PgF
 rw [callP_spec (ι:={w:Nat // w<2^64}) (A:=fun x=>[U x.1]) (R:=fun x=>retOf [EnV (pgW x.1).1,I (pgW x.1).2]) ⟨w,hw⟩ (by simp [TeV,TlV,TbV,EnV,U]) ?_ (by simp [retOf,openRet,openVals,openVal,openLeaves,openLeaf,TeV,TlV,TbV,EnV,U])]
 ·simp [retOf,openRet,openVals,openVal,openLeaves,openLeaf,TeV,TlV,TbV,EnV,U]
 ·rintro ⟨w',h'⟩ e
  simp only [List.cons.injEq,TeV_inj,TlV_inj,TbV_inj,EnV_inj,Iinj,Uinj,Binj,tep_inj,rpI_inj,irows_inj,trows_inj,and_true] at e
  subst e;rfl
theorem cCt (b:Tl) (h:tlOK b) (M:Nat→AO) (n:Nat):callP CtF [TlV b] M n=some (I (chB b),[]):=by
 unfold CtF
 rw [callP_spec (ι:={b:Tl // tlOK b}) (A:=fun x=>[TlV x.1]) (R:=fun x=>retOf [I (chB x.1)]) ⟨b,h⟩ (by simp [TeV,TlV,TbV,EnV,U]) ?_ (by simp [retOf,openRet,openVals,openVal,openLeaves,openLeaf,TeV,TlV,TbV,EnV,U])]
 ·simp [retOf,openRet,openVals,openVal,openLeaves,openLeaf,TeV,TlV,TbV,EnV,U]
 ·rintro ⟨b',h'⟩ e
  simp only [List.cons.injEq,TeV_inj,TlV_inj,TbV_inj,EnV_inj,Iinj,Uinj,Binj,tep_inj,rpI_inj,irows_inj,trows_inj,and_true] at e
  subst e;rfl
theorem cLk (b:Tl) (s p:Int) (h:tlOK b) (M:Nat→AO) (n:Nat):callP LkF [TlV b,I s,I p] M n=some (.tup [U (lkT b s p).1,B (lkT b s p).2],[]):=by
 unfold LkF
 rw [callP_spec (ι:={x:Tl×Int×Int // tlOK x.1}) (A:=fun x=>[TlV x.1.1,I x.1.2.1,I x.1.2.2]) (R:=fun x=>retOf [U (lkT x.1.1 x.1.2.1 x.1.2.2).1,B (lkT x.1.1 x.1.2.1 x.1.2.2).2]) ⟨(b,s,p),h⟩ (by simp [TeV,TlV,TbV,EnV,U]) ?_ (by simp [retOf,openRet,openVals,openVal,openLeaves,openLeaf,TeV,TlV,TbV,EnV,U])]
 ·simp [retOf,openRet,openVals,openVal,openLeaves,openLeaf,TeV,TlV,TbV,EnV,U]
 ·rintro ⟨⟨b',s',p'⟩,h'⟩ e
  simp only [List.cons.injEq,TeV_inj,TlV_inj,TbV_inj,EnV_inj,Iinj,Uinj,Binj,tep_inj,rpI_inj,irows_inj,trows_inj,and_true] at e
  obtain ⟨rfl,rfl,rfl⟩:=e;rfl
theorem cIn (b:Tl) (s p:Int) (h:tlOK b) (M:Nat→AO) (n:Nat):callP InF [TlV b,I s,I p] M n=some (.tup [TlC (inT b s p).1 n,I (inT b s p).2],outC (inT b s p).1 n):=by
 unfold InF
 rw [callP_spec (ι:={x:Tl×Int×Int // tlOK x.1}) (A:=fun x=>[TlV x.1.1,I x.1.2.1,I x.1.2.2]) (R:=fun x=>retOf [TlO (inT x.1.1 x.1.2.1 x.1.2.2).1,I (inT x.1.1 x.1.2.1 x.1.2.2).2]) ⟨(b,s,p),h⟩ (by simp [TeV,TlV,TbV,EnV,U]) ?_ (by rw [open_tl];simp only;omega)]
 ·rw [open_tl]
 ·rintro ⟨⟨b',s',p'⟩,h'⟩ e
  simp only [List.cons.injEq,TeV_inj,TlV_inj,TbV_inj,EnV_inj,Iinj,Uinj,Binj,tep_inj,rpI_inj,irows_inj,trows_inj,and_true] at e
  obtain ⟨rfl,rfl,rfl⟩:=e;rfl
theorem cFl (b:Tl) (s p:Int) (w:Nat) (h:tlOK b) (hw:w<2^64) (M:Nat→AO) (n:Nat):callP FiF7 [TlV b,I s,I p,U w] M n=some (.tup [TlC (fiT b s p w).1 n,I (fiT b s p w).2],outC (fiT b s p w).1 n):=by
 unfold FiF7
 rw [callP_spec (ι:={x:Tl×Int×Int×Nat // tlOK x.1∧x.2.2.2<2^64}) (A:=fun x=>[TlV x.1.1,I x.1.2.1,I x.1.2.2.1,U x.1.2.2.2]) (R:=fun x=>retOf [TlO (fiT x.1.1 x.1.2.1 x.1.2.2.1 x.1.2.2.2).1,I (fiT x.1.1 x.1.2.1 x.1.2.2.1 x.1.2.2.2).2]) ⟨(b,s,p,w),h,hw⟩ (by simp [TeV,TlV,TbV,EnV,U]) ?_ (by rw [open_tl];simp only;omega)]
 ·rw [open_tl]
 ·rintro ⟨⟨b',s',p',w'⟩,h'⟩ e
  simp only [List.cons.injEq,TeV_inj,TlV_inj,TbV_inj,EnV_inj,Iinj,Uinj,Binj,tep_inj,rpI_inj,irows_inj,trows_inj,and_true] at e
  obtain ⟨rfl,rfl,rfl,rfl⟩:=e;rfl
theorem cFg (e:En) (p:Int) (h1:0≤e.2.1) (h2:e.2.1≤4294967295) (h3:0≤p) (M:Nat→AO) (n:Nat):callP FrgF [EnV e,I p] M n=some (I (frmG e p),[]):=by
 unfold FrgF
 rw [callP_spec (ι:={x:En×Int // 0≤x.1.2.1∧x.1.2.1≤4294967295∧0≤x.2}) (A:=fun x=>[EnV x.1.1,I x.1.2]) (R:=fun x=>retOf [I (frmG x.1.1 x.1.2)]) ⟨(e,p),h1,h2,h3⟩ (by simp [TeV,TlV,TbV,EnV,U]) ?_ (by simp [retOf,openRet,openVals,openVal,openLeaves,openLeaf,TeV,TlV,TbV,EnV,U])]
 ·simp [retOf,openRet,openVals,openVal,openLeaves,openLeaf,TeV,TlV,TbV,EnV,U]
 ·rintro ⟨⟨e',p'⟩,h'⟩ e
  simp only [List.cons.injEq,TeV_inj,TlV_inj,TbV_inj,EnV_inj,Iinj,Uinj,Binj,tep_inj,rpI_inj,irows_inj,trows_inj,and_true] at e
  obtain ⟨rfl,rfl⟩:=e;rfl
theorem cRf (e:En) (wr:Bool) (M:Nat→AO) (n:Nat):callP RfF [EnV e,B wr] M n=some (I (rfE e wr),[]):=by
 unfold RfF
 rw [callP_spec (ι:=En×Bool) (A:=fun x=>[EnV x.1,B x.2]) (R:=fun x=>retOf [I (rfE x.1 x.2)]) (e,wr) (by simp [TeV,TlV,TbV,EnV,U]) ?_ (by simp [retOf,openRet,openVals,openVal,openLeaves,openLeaf,TeV,TlV,TbV,EnV,U])]
 ·simp [retOf,openRet,openVals,openVal,openLeaves,openLeaf,TeV,TlV,TbV,EnV,U]
 ·rintro ⟨e',wr'⟩ e
  simp only [List.cons.injEq,TeV_inj,TlV_inj,TbV_inj,EnV_inj,Iinj,Uinj,Binj,tep_inj,rpI_inj,irows_inj,trows_inj,and_true] at e
  obtain ⟨rfl,rfl⟩:=e;rfl
theorem cCoT (t:Tb) (h:tbOK t) (M:Nat→AO) (n:Nat):callP CoTF [TbV t] M n=some (TbC t n,outT t n):=by
 unfold CoTF
 rw [callP_spec (ι:={x:Tb // tbOK x}) (A:=fun x=>[TbV x.1]) (R:=fun x=>retOf [TbO x.1]) ⟨t,h⟩ (by simp [TeV,TlV,TbV,EnV,U]) ?_ (by rw [open_tb1];simp only;omega)]
 ·rw [open_tb1]
 ·rintro ⟨t',h'⟩ e
  simp only [List.cons.injEq,TeV_inj,TlV_inj,TbV_inj,EnV_inj,Iinj,Uinj,Binj,tep_inj,rpI_inj,irows_inj,trows_inj,and_true] at e
  subst e;rfl
theorem cCoB (b:Tl) (h:b.2.length≤1000000) (M:Nat→AO) (n:Nat):callP CoBF [TlV b] M n=some (TlC b n,outC b n):=by
 unfold CoBF
 rw [callP_spec (ι:={x:Tl // x.2.length≤1000000}) (A:=fun x=>[TlV x.1]) (R:=fun x=>retOf [TlO x.1]) ⟨b,h⟩ (by simp [TeV,TlV,TbV,EnV,U]) ?_ (by rw [open_tl1];simp only;omega)]
 ·rw [open_tl1]
 ·rintro ⟨b',h'⟩ e
  simp only [List.cons.injEq,TeV_inj,TlV_inj,TbV_inj,EnV_inj,Iinj,Uinj,Binj,tep_inj,rpI_inj,irows_inj,trows_inj,and_true] at e
  subst e;rfl
theorem cMk (w:Nat) (wr:Bool) (hw:w<2^64) (M:Nat→AO) (n:Nat):callP MkF [U w,B wr] M n=some (.tup [U (mkW w wr).1,I (mkW w wr).2],[]):=by
 unfold MkF
 rw [callP_spec (ι:={x:Nat×Bool // x.1<2^64}) (A:=fun x=>[U x.1.1,B x.1.2]) (R:=fun x=>retOf [U (mkW x.1.1 x.1.2).1,I (mkW x.1.1 x.1.2).2]) ⟨(w,wr),hw⟩ (by simp [TeV,TlV,TbV,EnV,U]) ?_ (by simp [retOf,openRet,openVals,openVal,openLeaves,openLeaf,TeV,TlV,TbV,EnV,U])]
 ·simp [retOf,openRet,openVals,openVal,openLeaves,openLeaf,TeV,TlV,TbV,EnV,U]
 ·rintro ⟨⟨w',wr'⟩,h'⟩ e
  simp only [List.cons.injEq,TeV_inj,TlV_inj,TbV_inj,EnV_inj,Iinj,Uinj,Binj,tep_inj,rpI_inj,irows_inj,trows_inj,and_true] at e
  obtain ⟨rfl,rfl⟩:=e;rfl
theorem cOd (w:Nat) (hw:w<2^64) (M:Nat→AO) (n:Nat):callP OdF [U w] M n=some (.tup [U (odW w).1,I (odW w).2],[]):=by
 unfold OdF
 rw [callP_spec (ι:={w:Nat // w<2^64}) (A:=fun x=>[U x.1]) (R:=fun x=>retOf [U (odW x.1).1,I (odW x.1).2]) ⟨w,hw⟩ (by simp [TeV,TlV,TbV,EnV,U]) ?_ (by simp [retOf,openRet,openVals,openVal,openLeaves,openLeaf,TeV,TlV,TbV,EnV,U])]
 ·simp [retOf,openRet,openVals,openVal,openLeaves,openLeaf,TeV,TlV,TbV,EnV,U]
 ·rintro ⟨w',h'⟩ e
  simp only [List.cons.injEq,TeV_inj,TlV_inj,TbV_inj,EnV_inj,Iinj,Uinj,Binj,tep_inj,rpI_inj,irows_inj,trows_inj,and_true] at e
  subst e;rfl
theorem cRe (t:Tb) (p:Int) (w:Nat) (h:tbOK t) (hw:w<2^64) (M:Nat→AO) (n:Nat):callP ReF [TbV t,I p,U w] M n=some (.tup [TbC (repP t p w).1 n,U (repP t p w).2.1,I (repP t p w).2.2],outT (repP t p w).1 n):=by
 unfold ReF
 rw [callP_spec (ι:={x:Tb×Int×Nat // tbOK x.1∧x.2.2<2^64}) (A:=fun x=>[TbV x.1.1,I x.1.2.1,U x.1.2.2]) (R:=fun x=>retOf [TbO (repP x.1.1 x.1.2.1 x.1.2.2).1,U (repP x.1.1 x.1.2.1 x.1.2.2).2.1,I (repP x.1.1 x.1.2.1 x.1.2.2).2.2]) ⟨(t,p,w),h,hw⟩ (by simp [TeV,TlV,TbV,EnV,U]) ?_ (by rw [open_rep];simp only;omega)]
 ·rw [open_rep]
 ·rintro ⟨⟨t',p',w'⟩,h'⟩ e
  simp only [List.cons.injEq,TeV_inj,TlV_inj,TbV_inj,EnV_inj,Iinj,Uinj,Binj,tep_inj,rpI_inj,irows_inj,trows_inj,and_true] at e
  obtain ⟨rfl,rfl,rfl⟩:=e;rfl
theorem cLs (t:Tb) (h:tbOK t) (M:Nat→AO) (n:Nat):callP LiF [TbV t] M n=some (.sl n 1 2 0 (lstT t).length,[(n,.vec 1 2 false (erows (lstT t)))]):=by
 unfold LiF
 rw [callP_spec (ι:={x:Tb // tbOK x}) (A:=fun x=>[TbV x.1]) (R:=fun x=>retOf [.ow 2 (erows (lstT x.1))]) ⟨t,h⟩ (by simp [TeV,TlV,TbV,EnV,U]) ?_ (by rw [open_erow];simp only;omega)]
 ·rw [open_erow]
 ·rintro ⟨t',h'⟩ e
  simp only [List.cons.injEq,TeV_inj,TlV_inj,TbV_inj,EnV_inj,Iinj,Uinj,Binj,tep_inj,rpI_inj,irows_inj,trows_inj,and_true] at e
  subst e;rfl
theorem cGr (p:Int) (h1:0≤p) (h2:p<1000000) (M:Nat→AO) (n:Nat):callP GrF [I p] M n=some (I (grp p),[]):=by
 unfold GrF
 rw [callP_spec (ι:={p:Int // 0≤p∧p<1000000}) (A:=fun x=>[I x.1]) (R:=fun x=>retOf [I (grp x.1)]) ⟨p,h1,h2⟩ (by simp [TeV,TlV,TbV,EnV,U]) ?_ (by simp [retOf,openRet,openVals,openVal,openLeaves,openLeaf,TeV,TlV,TbV,EnV,U])]
 ·simp [retOf,openRet,openVals,openVal,openLeaves,openLeaf,TeV,TlV,TbV,EnV,U]
 ·rintro ⟨p',h'⟩ e
  simp only [List.cons.injEq,TeV_inj,TlV_inj,TbV_inj,EnV_inj,Iinj,Uinj,Binj,tep_inj,rpI_inj,irows_inj,trows_inj,and_true] at e
  subst e;rfl
theorem cHt (x:Te) (s p:Int) (hx:x.2.2<2^64) (hp:p<1000000) (M:Nat→AO) (n:Nat):callP HtF [TeV x,I s,I p] M n=some (B (htB x s p),[]):=by
 unfold HtF
 rw [callP_spec (ι:={x:Te×Int×Int // x.1.2.2<2^64∧x.2.2<1000000}) (A:=fun x=>[TeV x.1.1,I x.1.2.1,I x.1.2.2]) (R:=fun x=>retOf [B (htB x.1.1 x.1.2.1 x.1.2.2)]) ⟨(x,s,p),hx,hp⟩ (by simp [TeV,TlV,TbV,EnV,U]) ?_ (by simp [retOf,openRet,openVals,openVal,openLeaves,openLeaf,TeV,TlV,TbV,EnV,U])]
 ·simp [retOf,openRet,openVals,openVal,openLeaves,openLeaf,TeV,TlV,TbV,EnV,U]
 ·rintro ⟨⟨x',s',p'⟩,h'⟩ e
  simp only [List.cons.injEq,TeV_inj,TlV_inj,TbV_inj,EnV_inj,Iinj,Uinj,Binj,tep_inj,rpI_inj,irows_inj,trows_inj,and_true] at e
  obtain ⟨rfl,rfl,rfl⟩:=e;rfl
theorem cOf (a b:Te) (h1:a.2.2<2^64) (h2:b.2.2<2^64) (h3:0≤b.2.1) (h4:b.2.1<512) (M:Nat→AO) (n:Nat):callP OrfF [TeV a,TeV b] M n=some (B (ovR a b),[]):=by
 unfold OrfF
 rw [callP_spec (ι:={x:Te×Te // x.1.2.2<2^64∧x.2.2.2<2^64∧0≤x.2.2.1∧x.2.2.1<512}) (A:=fun x=>[TeV x.1.1,TeV x.1.2]) (R:=fun x=>retOf [B (ovR x.1.1 x.1.2)]) ⟨(a,b),h1,h2,h3,h4⟩ (by simp [TeV,TlV,TbV,EnV,U]) ?_ (by simp [retOf,openRet,openVals,openVal,openLeaves,openLeaf,TeV,TlV,TbV,EnV,U])]
 ·simp [retOf,openRet,openVals,openVal,openLeaves,openLeaf,TeV,TlV,TbV,EnV,U]
 ·rintro ⟨⟨a',b'⟩,h'⟩ e
  simp only [List.cons.injEq,TeV_inj,TlV_inj,TbV_inj,EnV_inj,Iinj,Uinj,Binj,tep_inj,rpI_inj,irows_inj,trows_inj,and_true] at e
  obtain ⟨rfl,rfl⟩:=e;rfl
theorem cSp7 (s:Int) (M:Nat→AO) (n:Nat):callP SpF7 [I s] M n=some (B (decide (0≤s∧s<8)),[]):=by
 unfold SpF7
 rw [callP_spec (ι:=Int) (A:=fun x=>[I x]) (R:=fun x=>retOf [B (decide (0≤x∧x<8))]) s (by simp [TeV,TlV,TbV,EnV,U]) ?_ (by simp [retOf,openRet,openVals,openVal,openLeaves,openLeaf,TeV,TlV,TbV,EnV,U])]
 ·simp [retOf,openRet,openVals,openVal,openLeaves,openLeaf,TeV,TlV,TbV,EnV,U]
 ·rintro s' e
  simp only [List.cons.injEq,TeV_inj,TlV_inj,TbV_inj,EnV_inj,Iinj,Uinj,Binj,tep_inj,rpI_inj,irows_inj,trows_inj,and_true] at e
  subst e;rfl
theorem cPg7 (s:Int) (M:Nat→AO) (n:Nat):callP PgF7 [I s] M n=some (B (decide (0≤s∧s<512)),[]):=by
 unfold PgF7
 rw [callP_spec (ι:=Int) (A:=fun x=>[I x]) (R:=fun x=>retOf [B (decide (0≤x∧x<512))]) s (by simp [TeV,TlV,TbV,EnV,U]) ?_ (by simp [retOf,openRet,openVals,openVal,openLeaves,openLeaf,TeV,TlV,TbV,EnV,U])]
 ·simp [retOf,openRet,openVals,openVal,openLeaves,openLeaf,TeV,TlV,TbV,EnV,U]
 ·rintro s' e
  simp only [List.cons.injEq,TeV_inj,TlV_inj,TbV_inj,EnV_inj,Iinj,Uinj,Binj,tep_inj,rpI_inj,irows_inj,trows_inj,and_true] at e
  subst e;rfl
theorem cOne (x:Te) (hx:x.2.2<2^64) (M:Nat→AO) (n:Nat):callP OneF [TeV x] M n=some (I (efE x),[]):=by
 unfold OneF
 rw [callP_spec (ι:={x:Te // x.2.2<2^64}) (A:=fun x=>[TeV x.1]) (R:=fun x=>retOf [I (efE x.1)]) ⟨x,hx⟩ (by simp [TeV,TlV,TbV,EnV,U]) ?_ (by simp [retOf,openRet,openVals,openVal,openLeaves,openLeaf,TeV,TlV,TbV,EnV,U])]
 ·simp [retOf,openRet,openVals,openVal,openLeaves,openLeaf,TeV,TlV,TbV,EnV,U]
 ·rintro ⟨x',h'⟩ e
  simp only [List.cons.injEq,TeV_inj,TlV_inj,TbV_inj,EnV_inj,Iinj,Uinj,Binj,tep_inj,rpI_inj,irows_inj,trows_inj,and_true] at e
  subst e;rfl
end Go.AM
set_option maxHeartbeats 4000000
namespace Go.AM
open Go Go.Proofs
noncomputable def loT (t:Tb) (p:Int) (wr:Bool):Int×Int :=
 if (walkT t p).2.2≠0 then (0,(walkT t p).2.2) else if rfE (decR (walkT t p).1).1 wr≠0 then (0,rfE (decR (walkT t p).1).1 wr) else (frmG (decR (walkT t p).1).1 p,0)
theorem walk_pos {t:Tb} {p:Int} (ht:tbOK t) (h:(walkT t p).2.2=0):0≤p∧p<512:=by
 unfold walkT at h
 split at h
 ·rename_i hk
  exact (ckd_pt ht (by rw [hk];simp:¬ ckd t p 512≠0)).2
 ·rename_i hk;exact absurd h hk
noncomputable def LoF:List AV→Option AV:=specF (ι:={x:Tb×Int×Bool // tbOK x.1}) (fun x=>[TbV x.1.1,I x.1.2.1,B x.1.2.2]) fun x=>retOf [I (loT x.1.1 x.1.2.1 x.1.2.2).1,I (loT x.1.1 x.1.2.1 x.1.2.2).2]
theorem s33 (X:AX) (hX:XOK Try.prog X) (hw:X.W wT) (hwa:∀ (t:Tb) (x:Int),tbOK t→∀ M n,X.call 58 [TbV t,I x] M n=some (.tup [U (walkT t x).1,I (walkT t x).2.1,I (walkT t x).2.2],[]))
  (hde:∀ w:Nat,w<2^64→∀ M k,X.call 30 [U w] M k=some (.tup [EnV (decR w).1,I (decR w).2],[]))
  (hfg:∀ (e:En) (p:Int),0≤e.2.1→e.2.1≤4294967295→0≤p→∀ M n,X.call 57 [EnV e,I p] M n=some (I (frmG e p),[]))
  (hrf:∀ (e:En) (wr:Bool) M n,X.call 59 [EnV e,B wr] M n=some (I (rfE e wr),[])):PSound Try.prog 33 LoF:=by
 unfold LoF
 refine psound_spec hX mixed Try.func33 rfl fun ⟨⟨t,p,wr⟩,ht⟩ w0 G=>⟨by show 3≤38;decide,rfl,?_⟩
 show AW ⟨Try.prog,X,38,w0,.pure G⟩ _ _ _
 have hc:Cx.OK ⟨Try.prog,X,38,w0,.pure G⟩:=⟨hX,mixed⟩
 simp only at ht ⊢
 have wa:=hwa t p ht
 have hwp:=@walk_pos t p ht
 have w64:=walk_u64 ht p
 have de:=hde _ w64
 have hrg:=decR_rng (walkT t p).1
 have e0:loT t p wr=if (walkT t p).2.2≠0 then (0,(walkT t p).2.2) else if rfE (decR (walkT t p).1).1 wr≠0 then (0,rfE (decR (walkT t p).1).1 wr) else (frmG (decR (walkT t p).1).1 p,0):=rfl
 have rf:=hrf (decR (walkT t p).1).1 wr
 have fg:=hfg (decR (walkT t p).1).1 p hrg.1 hrg.2
 obtain ⟨⟨w,lv,er⟩,hW⟩:∃ x,x=walkT t p:=⟨_,rfl⟩
 rw [← hW] at wa hwp de e0 rf fg
 obtain ⟨⟨en,er2⟩,hD⟩:∃ x,x=decR w:=⟨_,rfl⟩
 simp only at wa hwp de e0 rf fg
 rw [← hD] at de e0 rf fg
 simp only at de e0 rf fg
 obtain ⟨r,ns,ds⟩:=t
 obtain ⟨k,num,b1,b2,b3,hg⟩:=en
 generalize hrE:rfE (k,num,b1,b2,b3,hg) wr=rr at rf e0
 generalize hfE:frmG (k,num,b1,b2,b3,hg) p=ff at fg e0
 simp only [TbV,EnV,U] at wa de rf fg ⊢
 rcases Decidable.em (er=0) with h1|h1
 ·rw [if_neg (by simp [h1])] at e0
  have fg:=fg (hwp h1).1
  rcases Decidable.em (rr=0) with h2|h2
  ·rw [if_neg (by simp [h2])] at e0
   rw [e0]
   subst h1 h2
   have zS:=jj wa<|jj de<|jj rf<|fg
   refine dM64 ?_
   repeat (intro K hK)
   clear zS
   refine ⟨by simp,?_⟩
   simp [leaves_iff,Try.f33]
   try exact dt
  ·rw [if_pos h2] at e0
   rw [e0]
   subst h1
   have zS:=jj wa<|jj de<|jj rf<|h2
   refine dM64 ?_
   repeat (intro K hK)
   clear zS
   refine ⟨by simp,?_⟩
   simp [leaves_iff,Try.f33]
   try exact dt
 ·rw [if_pos h1] at e0
  rw [e0]
  have zS:=jj wa<|h1
  refine dM64 ?_
  repeat (intro K hK)
  clear zS
  refine ⟨by simp,?_⟩
  simp [leaves_iff,Try.f33]
  try exact dt
theorem s34 (X:AX) (hX:XOK Try.prog X) (hw:X.W wT) (hwa:∀ (t:Tb) (x:Int),tbOK t→∀ M n,X.call 78 [TbV t,I x] M n=some (.tup [U (walkT t x).1,I (walkT t x).2.1,I (walkT t x).2.2],[]))
  (het:∀ w:Nat,w<2^64→∀ M k,X.call 46 [U w] M k=some (EnV (decR w).1,[]))
  (hfg:∀ (e:En) (p:Int),0≤e.2.1→e.2.1≤4294967295→0≤p→∀ M n,X.call 79 [EnV e,I p] M n=some (I (frmG e p),[])):PSound Try.prog 34 LoF:=by
 unfold LoF
 refine psound_spec hX mixed Try.func34 rfl fun ⟨⟨t,p,wr⟩,ht⟩ w0 G=>⟨by show 3≤36;decide,rfl,?_⟩
 show AW ⟨Try.prog,X,36,w0,.pure G⟩ _ _ _
 have hc:Cx.OK ⟨Try.prog,X,36,w0,.pure G⟩:=⟨hX,mixed⟩
 simp only at ht ⊢
 have wa:=hwa t p ht
 have hwp:=@walk_pos t p ht
 have w64:=walk_u64 ht p
 have de:=het _ w64
 have hrg:=decR_rng (walkT t p).1
 have e0:loT t p wr=if (walkT t p).2.2≠0 then (0,(walkT t p).2.2) else if rfE (decR (walkT t p).1).1 wr≠0 then (0,rfE (decR (walkT t p).1).1 wr) else (frmG (decR (walkT t p).1).1 p,0):=rfl
 have fg:=hfg (decR (walkT t p).1).1 p hrg.1 hrg.2
 obtain ⟨⟨w,lv,er⟩,hW⟩:∃ x,x=walkT t p:=⟨_,rfl⟩
 rw [← hW] at wa hwp de e0 fg
 simp only at wa hwp de e0 fg
 obtain ⟨en,hD⟩:∃ x,x=(decR w).1:=⟨_,rfl⟩
 rw [← hD] at de e0 fg
 obtain ⟨r,ns,ds⟩:=t
 obtain ⟨k,num,b1,b2,b3,hg⟩:=en
 generalize hfE:frmG (k,num,b1,b2,b3,hg) p=ff at fg e0
 unfold rfE at e0
 simp only [TbV,EnV,U] at wa de fg e0 ⊢
 rcases Decidable.em (er=0) with h1|h1
 ·rw [if_neg (by simp [h1])] at e0
  have fg:=fg (hwp h1).1
  subst h1
  rcases Decidable.em (k=1) with h2|h2
  ·rw [if_neg (show ¬ k≠1 by simp [h2])] at e0
   subst h2
   cases wr with
   | true =>
    cases b1 with
    | true =>
     simp at e0
     rw [e0]
     have zS:=jj wa<|jj de<|fg
     refine dM64 ?_
     repeat (intro K hK)
     clear zS
     refine ⟨by simp,?_⟩
     simp [leaves_iff,Try.f34]
     try exact dt
    | false =>
     simp at e0
     rw [e0]
     have zS:=jj wa<|de
     refine dM64 ?_
     repeat (intro K hK)
     clear zS
     refine ⟨by simp,?_⟩
     simp [leaves_iff,Try.f34]
     try exact dt
   | false =>
    simp at e0
    rw [e0]
    have zS:=jj wa<|jj de<|fg
    refine dM64 ?_
    repeat (intro K hK)
    clear zS
    refine ⟨by simp,?_⟩
    simp [leaves_iff,Try.f34]
    try exact dt
  ·rw [if_pos h2] at e0
   simp at e0
   rw [e0]
   have zS:=jj wa<|jj de<|h2
   refine dM64 ?_
   repeat (intro K hK)
   clear zS
   refine ⟨by simp,?_⟩
   simp [leaves_iff,Try.f34]
   try exact dt
 ·rw [if_pos h1] at e0
  rw [e0]
  have zS:=jj wa<|h1
  refine dM64 ?_
  repeat (intro K hK)
  clear zS
  refine ⟨by simp,?_⟩
  simp [leaves_iff,Try.f34]
  try exact dt
end Go.AM
set_option maxHeartbeats 8000000
namespace Go.AM
open Go Go.Proofs
theorem le_nilrd {n:Nat} {s:List (Nat×AV)} {m:List (Nat×AO)} {nx t sz:Nat} (hb:getS s t=.v (.slice none 0 0)):Le n ⟨s,m,nx⟩ ⟨(t,.rd sz [])::s,m,nx⟩:=fun N w0 bl a w _ ⟨E,hs,h1,h2⟩=>by
 refine ⟨E,⟨hs.defers,hs.size,hs.inv,hs.mem,fun k=>?_⟩,h1,h2⟩
 simp only [getS]
 by_cases e:t=k
 ·subst e
  rw [if_pos rfl]
  have hr:=hs.slots t
  rw [hb] at hr
  simp only [Rep,CRep] at hr ⊢
  rw [hr]
  exact ⟨none,0,rfl,Nat.le_refl _,fun _=>rfl,.inl trivial⟩
 ·rw [if_neg e]
  exact hs.slots k
def adK (L:List Int) (n:Int):Nat→Nat
 | 0=>0
 | a+1=>if n<gi L a then adK L n a else a+1
theorem adK_le {L:List Int} {n:Int}:∀ {a:Nat},adK L n a≤a
 | 0=>Nat.le_refl _
 | a+1=>by
  simp only [adK]
  split
  ·exact Nat.le_trans adK_le (Nat.le_succ a)
  ·exact Nat.le_refl _
def adL (L:List Int) (n:Int):List Int :=
 if 0<adK L n L.length∧gi L (adK L n L.length - 1)=n then L else L.take (adK L n L.length)++n::L.drop (adK L n L.length)
noncomputable def AdF:List AV→Option AV:=specF (ι:={x:List Int×Int // x.1.length≤1000000}) (fun x=>[.rd 1 (irows x.1.1),I x.1.2]) fun x=>retOf [.rd 1 (irows (adL x.1.1 x.1.2))]
theorem s47 (X:AX) (hX:XOK Try.prog X) (hw:X.W wT):PSound Try.prog 47 AdF:=by
 unfold AdF
 refine psound_spec hX mixed Try.func47 rfl fun ⟨⟨L,n⟩,hl⟩ w0 G=>⟨by show 2≤49;decide,rfl,?_⟩
 show AW ⟨Try.prog,X,49,w0,.pure G⟩ _ _ _
 have hc:Cx.OK ⟨Try.prog,X,49,w0,.pure G⟩:=⟨hX,mixed⟩
 simp only at hl ⊢
 have eL:adL L n=if 0<adK L n L.length∧gi L (adK L n L.length - 1)=n then L else L.take (adK L n L.length)++n::L.drop (adK L n L.length):=rfl
 repeat' (first|(apply aw_seq_k;intro K hK)|(refine eM64o ?_)|(refine aw_cond (b:=_) (by exact rfl) (fun h=>?_) (fun h=>?_)<;>(try simp at h))|(refine eB ?_)|(refine hK _ ?_;clear hK)|(clear hK;refine hK _ ?_;clear hK)|(clear hK;clear hK;refine hK _ ?_;clear hK)|(clear hK;clear hK;clear hK;refine hK _ ?_;clear hK))
 refine aw_loopK (s0:=?lps1) (m0:=?lpm1) (ι:={a:Nat // a≤L.length∧adK L n a=adK L n L.length}) [0,1] (fun a=>[(5,I a.1)]) (fun a=>[]) (fun a=>a.1) ⟨L.length,by omega,rfl⟩ ?lhs1 ?lhm1 ?_ ?_
 case lhs1=>first|(simp [keepS];done)|(simp [keepS];rfl)
 case lhm1=>first|rfl|(simp;done)|(simp;rfl)
 ·exact dle
 ·rintro ⟨a,ha,hk⟩
  simp only
  cases a with
  | zero =>
   simp only [adK] at hk
   rw [← hk,if_neg (by simp)] at eL
   repeat' (first|(apply aw_seq_k;intro K hK)|(refine eM64o ?_)|(refine aw_cond (b:=_) (by exact rfl) (fun h=>?_) (fun h=>?_)<;>(try simp at h))|(refine eB ?_)|(refine hK _ ?_;clear hK)|(clear hK;refine hK _ ?_;clear hK)|(clear hK;clear hK;refine hK _ ?_;clear hK)|(clear hK;clear hK;clear hK;refine hK _ ?_;clear hK))
   rw [eL]
   have e1:List.take (L.length+1) ([I n]::List.take L.length (irows L))=irows (List.take 0 L++n::List.drop 0 L):=by
    rw [irows_tkl,List.take_of_length_le (by simp)]
    simp [irows]
   rw [show 1+L.length=L.length+1 by omega]
   refine ⟨by simp,?_⟩
   simp [leaves_iff,Try.f47,e1]
   try exact dt
  | succ a =>
   have hal:a<L.length:=by omega
   have halI:(a:Int)<(L.length:Int):=by omega
   have hg:=irows_gi hal
   have hgE:=irows_gE hal
   simp only [adK] at hk
   rcases Decidable.em (n<gi L a) with h1|h1
   ·rw [if_pos h1] at hk
    have zS:=jj hal<|jj halI<|jj hg<|jj hgE<|h1
    repeat' (first|(apply aw_seq_k;intro K hK)|(refine eM64 ?_)|(refine aw_cond (b:=_) (by exact rfl) (fun h=>?_) (fun h=>?_)<;>(try simp at h))|(refine eB ?_)|(refine hK _ ?_;clear hK)|(clear hK;refine hK _ ?_;clear hK)|(clear hK;clear hK;refine hK _ ?_;clear hK)|(clear hK;clear hK;clear hK;refine hK _ ?_;clear hK))
    all_goals clear zS
    refine ⟨a,?_,⟨by omega,hk⟩,by omega⟩
    exact dle
   ·rw [if_neg h1] at hk
    rw [← hk] at eL
    have htl:=irows_tkl L
    rcases Decidable.em (gi L a=n) with h2|h2
    ·rw [if_pos ⟨by omega,by simpa using h2⟩] at eL
     have zS:=jj hal<|jj halI<|jj hg<|jj hgE<|jj h1<|h2
     repeat' (first|(apply aw_seq_k;intro K hK)|(refine eM64 ?_)|(refine aw_cond (b:=_) (by exact rfl) (fun h=>?_) (fun h=>?_)<;>(try simp at h))|(refine eB ?_)|(refine hK _ ?_;clear hK)|(clear hK;refine hK _ ?_;clear hK)|(clear hK;clear hK;refine hK _ ?_;clear hK)|(clear hK;clear hK;clear hK;refine hK _ ?_;clear hK))
     all_goals clear zS
     refine ⟨by simp,?_⟩
     simp [leaves_iff,Try.f47,eL]
     try exact dt
    ·rw [if_neg (by simp [h2])] at eL
     have zS:=jj hal<|jj halI<|jj hg<|jj hgE<|jj h1<|h2
     repeat' (first|(apply aw_seq_k;intro K hK)|(refine eM64 ?_)|(refine aw_cond (b:=_) (by exact rfl) (fun h=>?_) (fun h=>?_)<;>(try simp at h))|(refine eB ?_)|(refine hK _ ?_;clear hK)|(clear hK;refine hK _ ?_;clear hK)|(clear hK;clear hK;refine hK _ ?_;clear hK)|(clear hK;clear hK;clear hK;refine hK _ ?_;clear hK))
     all_goals clear zS
     rw [eL]
     have hm:min (a+1) L.length=a+1:=by omega
     have e1:List.take (a+1+1+(L.length - (a+1))) (List.take (a+1+1) (List.take (a+1) (List.take (a+1) (irows L))++[[I n]])++List.take (L.length - (a+1)) (List.drop (a+1) (irows L)))=irows (List.take (a+1) L++n::List.drop (a+1) L):=by
      have q1:List.take (a+1) (List.take (a+1) (irows L))=irows (List.take (a+1) L):=by rw [List.take_take,Nat.min_self];simp [irows,List.map_take]
      have q2:List.take (L.length - (a+1)) (List.drop (a+1) (irows L))=irows (List.drop (a+1) L):=by
       rw [List.take_of_length_le (by simp)];simp [irows,List.map_drop]
      rw [q1,q2,irows_ap]
      have q3:List.take (a+1+1) (irows (List.take (a+1) L++[n]))=irows (List.take (a+1) L++[n]):=List.take_of_length_le (by simp;omega)
      rw [q3,List.take_of_length_le (by simp;omega)]
      simp [irows]
     rw [hm]
     refine ⟨by simp,?_⟩
     simp [leaves_iff,Try.f47,e1,hm]
     try exact dt
theorem gi_mem_take {L:List Int} {k:Nat} {x:Int} (h:x∈L.take k):∃ j,j<k∧j<L.length∧x=gi L j:=by
 obtain ⟨j,hj,rfl⟩:=List.mem_take_iff_getElem.1 h
 exact ⟨j,by omega,by omega,by rw [gi_eq (by omega)]⟩
theorem gi_mem_drop {L:List Int} {k:Nat} {x:Int} (h:x∈L.drop k):∃ j,k≤j∧j<L.length∧x=gi L j:=by
 obtain ⟨j,hj,rfl⟩:=List.mem_iff_getElem.1 h
 simp at hj
 refine ⟨k+j,by omega,by omega,?_⟩
 rw [gi_eq (by omega)];simp
theorem adK_spec {L:List Int} {n:Int}:∀ {a:Nat},(∀ j,adK L n a≤j→j<a→n<gi L j)∧(0<adK L n a→¬ n<gi L (adK L n a - 1))
 | 0=>⟨fun j _ h=>absurd h (by omega),fun h=>absurd h (by simp [adK])⟩
 | a+1=>by
  obtain ⟨h1,h2⟩:=@adK_spec L n a
  simp only [adK]
  by_cases h:n<gi L a
  ·rw [if_pos h]
   refine ⟨fun j hj hj2=>?_,h2⟩
   rcases Nat.lt_succ_iff_lt_or_eq.1 hj2 with h3|rfl
   ·exact h1 j hj h3
   ·exact h
  ·rw [if_neg h]
   exact ⟨fun j hj hj2=>absurd hj2 (by omega),fun _=>by simpa using h⟩
theorem adL_mem {L:List Int} {n x:Int}:x∈adL L n↔x∈L∨x=n:=by
 unfold adL
 split
 ·rename_i h
  constructor
  ·exact .inl
  ·rintro (h2|rfl)
   ·exact h2
   ·rw [← h.2]
    have:=@adK_le L (gi L (adK L x L.length - 1)) L.length
    rw [h.2] at this
    rw [gi_eq (by omega)]
    exact List.getElem_mem _
 ·conv=>rhs;rw [← List.take_append_drop (adK L n L.length) L]
  simp only [List.mem_append,List.mem_cons]
  constructor
  ·rintro (h|h|h)
   ·exact .inl (.inl h)
   ·exact .inr h
   ·exact .inl (.inr h)
  ·rintro ((h|h)|h)
   ·exact .inl h
   ·exact .inr (.inr h)
   ·exact .inr (.inl h)
theorem gi_asc {L:List Int} (h:L.Pairwise (·<·)) {i j:Nat} (hij:i<j) (hj:j<L.length):gi L i<gi L j:=by
 rw [gi_eq (by omega),gi_eq hj]
 exact List.pairwise_iff_getElem.1 h i j (by omega) hj hij
theorem adL_asc {L:List Int} {n:Int} (h:L.Pairwise (·<·)):(adL L n).Pairwise (·<·):=by
 obtain ⟨h1,h2⟩:=@adK_spec L n L.length
 unfold adL
 split
 ·exact h
 ·rename_i hnc
  have hd:∀ x∈L.drop (adK L n L.length),n<x:=fun x hx=>by
   obtain ⟨j,k1,k2,rfl⟩:=gi_mem_drop hx
   exact h1 j k1 k2
  have ht:∀ x∈L.take (adK L n L.length),x<n:=fun x hx=>by
   obtain ⟨j,k1,k2,rfl⟩:=gi_mem_take hx
   have k3:=h2 (by omega)
   have k4:gi L (adK L n L.length - 1)≠n:=fun e=>hnc ⟨by omega,e⟩
   have k5:=@adK_le L n L.length
   rcases Nat.lt_or_ge j (adK L n L.length - 1) with k6|k6
   ·have:=gi_asc h k6 (by omega)
    omega
   ·obtain rfl:j=adK L n L.length - 1:=by omega
    omega
  refine List.pairwise_append.2 ⟨h.sublist (List.take_sublist _ _),List.pairwise_cons.2 ⟨hd,h.sublist (List.drop_sublist _ _)⟩,fun x hx y hy=>?_⟩
  rcases List.mem_cons.1 hy with rfl|hy
  ·exact ht x hx
  ·exact Int.lt_trans (ht x hx) (hd y hy)
theorem adL_len {L:List Int} {n:Int}:(adL L n).length≤L.length+1:=by
 unfold adL
 split
 ·omega
 ·simp;omega
theorem sortL_uniq {A L:List Int} (hA:A.Pairwise (·<·)) (hL:L.Nodup) (h:∀ x,x∈A↔x∈L):sortL L=A :=
 sorted_perm (sortL_sorted L) (hA.imp fun h=>Int.le_of_lt h) ((sortL_perm L).trans ((List.perm_ext_iff_of_nodup hL (hA.imp fun h e=>by omega)).2 fun x=>(h x).symm))
def rrJ (n:Int) (L:List Int):Nat→List Int
 | 0=>L
 | j+1=>adL (rrJ n L j) (n+j)
def rrL (wr:Bool) (l:List Te):Nat→List Int
 | 0=>[]
 | i+1=>if rcS wr (gt l i)=true then rrL wr l i else rrJ (rcE (gt l i)).2.1 (rrL wr l i) (rcJ (gt l i))
theorem dd1_mem {L:List Int} {k x:Int}:x∈dd1 L k↔x∈L∨x=k:=by
 unfold dd1
 split
 ·rename_i h
  constructor
  ·exact .inl
  ·rintro (h2|rfl)
   ·exact h2
   ·exact h
 ·simp
theorem dd1_nd {L:List Int} {k:Int} (h:L.Nodup):(dd1 L k).Nodup:=by
 unfold dd1
 split
 ·exact h
 ·rename_i h2
  refine List.nodup_append.2 ⟨h,by simp,fun x hx y hy e=>?_⟩
  simp at hy
  subst hy e
  exact h2 hx
def SameL (A L:List Int):Prop:=A.Pairwise (·<·)∧L.Nodup∧∀ x,x∈A↔x∈L
theorem same_step {A L:List Int} {n:Int} (h:SameL A L):SameL (adL A n) (dd1 L n) :=
 ⟨adL_asc h.1,dd1_nd h.2.1,fun x=>by rw [adL_mem,dd1_mem,h.2.2 x]⟩
theorem same_J {A L:List Int} {n:Int} (h:SameL A L):∀ {j:Nat},SameL (rrJ n A j) (frJ n L j)
 | 0=>h
 | j+1=>same_step (same_J h)
theorem same_L {wr:Bool} {l:List Te}:∀ {i:Nat},SameL (rrL wr l i) (rcL wr l i)
 | 0=>⟨List.Pairwise.nil,List.Pairwise.nil,fun x=>by simp [rrL,rcL]⟩
 | i+1=>by
  simp only [rrL,rcL]
  split
  ·exact same_L
  ·exact same_J same_L
theorem rcT_ref {b:Tl} {wr:Bool} (h:chB b=0):rcT b wr=rrL wr b.2 b.2.length:=by
 unfold rcT
 rw [if_neg (by simp [h])]
 obtain ⟨h1,h2,h3⟩:=@same_L wr b.2 b.2.length
 exact sortL_uniq h1 h2 h3
theorem rrJ_len {n:Int} {L:List Int}:∀ {j:Nat},(rrJ n L j).length≤L.length+j
 | 0=>Nat.le_refl _
 | j+1=>by
  have:=@rrJ_len n L j
  have h2:=@adL_len (rrJ n L j) (n+j)
  simp only [rrJ]
  omega
theorem rrL_len {wr:Bool} {l:List Te}:∀ {i:Nat},(rrL wr l i).length≤8*i
 | 0=>Nat.le_refl _
 | i+1=>by
  have:=@rrL_len wr l i
  simp only [rrL]
  split
  ·omega
  ·have h2:=@rrJ_len (rcE (gt l i)).2.1 (rrL wr l i) (rcJ (gt l i))
   have h3:rcJ (gt l i)≤8:=by unfold rcJ;split<;>omega
   omega
noncomputable def RcD:List AV→Option AV:=specF (ι:={x:Tl×Bool // tlOK x.1}) (fun x=>[TlV x.1.1,B x.1.2]) fun x=>retOf [.rd 1 (irows (rcT x.1.1 x.1.2))]
theorem s18 (X:AX) (hX:XOK Try.prog X) (hw:X.W wT) (hct:∀ b:Tl,tlOK b→∀ M k,X.call 26 [TlV b] M k=some (I (chB b),[]))
  (het:∀ w:Nat,w<2^64→∀ M k,X.call 46 [U w] M k=some (EnV (decR w).1,[]))
  (had:∀ (L:List Int) (n:Int),L.length≤1000000→∀ M k,X.call 47 [.rd 1 (irows L),I n] M k=some (.rd 1 (irows (adL L n)),[])):PSound Try.prog 18 RcD:=by
 unfold RcD
 refine psound_spec hX mixed Try.func18 rfl fun ⟨⟨⟨z,l⟩,wr⟩,hok⟩ w0 G=>⟨by show 2≤49;decide,rfl,?_⟩
 show AW ⟨Try.prog,X,49,w0,.pure G⟩ _ _ _
 have hc:Cx.OK ⟨Try.prog,X,49,w0,.pure G⟩:=⟨hX,mixed⟩
 simp only at hok ⊢
 have ht:=hct _ hok
 rcases Decidable.em (chB (z,l)=0) with h0|h0
 ·have e:=@rcT_ref (z,l) wr h0
  simp only at e
  rw [e]
  rw [h0] at ht
  have hz:=chB_z.1 h0
  simp only at hz
  have hl16:l.length≤16:=by omega
  simp only [TlV] at ht ⊢
  have zS:=ht
  repeat' (first|(apply aw_seq_k;intro K hK)|(refine eM64 ?_)|(refine aw_cond (b:=_) (by exact rfl) (fun h=>?_) (fun h=>?_)<;>(try simp at h))|(refine eB ?_)|(refine hK _ ?_;clear hK)|(clear hK;refine hK _ ?_;clear hK)|(clear hK;clear hK;refine hK _ ?_;clear hK)|(clear hK;clear hK;clear hK;refine hK _ ?_;clear hK))
  all_goals clear zS
  refine aw_weaken (le_nilrd (t:=5) (sz:=1) (by simp)) ?_
  refine aw_loopK (s0:=?lps2) (m0:=?lpm2) (ι:={i:Nat // i≤l.length}) [1,15,16] (fun i=>[(17,I i.1),(5,.rd 1 (irows (rrL wr l i.1)))]) (fun i=>[]) (fun i=>l.length - i.1) ⟨0,by omega⟩ ?lhs2 ?lhm2 ?_ ?_
  case lhs2=>first|(simp [keepS];done)|(simp [keepS];rfl)
  case lhm2=>first|rfl|(simp;done)|(simp;rfl)
  ·simp only [show rrL wr l 0=[] from rfl]
   exact le_of2 (by simp) (by simp [AVle,AV.under,AV.underL,irows]<;>omega) (by simp [AOle,AO.under,AV.underL,AV.under,irows]<;>omega)
  ·rintro ⟨i,hi⟩
   simp only
   rcases Decidable.em (i<l.length) with hil|hil
   ·have hilI:(i:Int)<(l.length:Int):=by omega
    have hg:=trows_gi hil
    have hgE:=trows_gE hil
    have hu:=hok.2 _ (gt_mem hil)
    have hst:rrL wr l (i+1)=if rcS wr (gt l i)=true then rrL wr l i else rrJ (rcE (gt l i)).2.1 (rrL wr l i) (rcJ (gt l i)):=rfl
    have hrn:=decR_rng (gt l i).2.2
    simp only at hu
    have de:=het _ hu
    unfold rcS rcJ rcE at hst
    obtain ⟨⟨x1,x2,x3⟩,hm⟩:∃ m,m=gt l i:=⟨_,rfl⟩
    rw [← hm] at hg hgE hst hrn de
    simp only [trow,U] at hg hgE hst hrn de
    obtain ⟨⟨k,num,b1,b2,b3,hgf⟩,hx⟩:∃ x,x=(decR x3).1:=⟨_,rfl⟩
    rw [← hx] at hst hrn de
    simp only [EnV] at hst hrn de
    have hLl:=@rrL_len wr l i
    obtain ⟨L,hL⟩:∃ L,L=rrL wr l i:=⟨_,rfl⟩
    rw [← hL] at hst hLl
    simp only [← hL]
    have hadj:∀ j:Nat,j≤8→∀ M k,X.call 47 [.rd 1 (irows (rrJ num L j)),I (num+(j:Int))] M k=some (.rd 1 (irows (rrJ num L (j+1))),[]):=fun j hj M k=>by
     have h2:=@rrJ_len num L j
     exact had _ _ (by omega) M k
    cases wr with
    | true =>
     cases b1 with
     | true =>
      cases b3 with
      | true =>
       rw [if_neg (by simp)] at hst
       cases hgf with
       | false =>
        rw [if_neg (by decide)] at hst
        have zS:=jj hilI<|jj hil<|jj hg<|jj hgE<|de
        repeat' (first|(apply aw_seq_k;intro K hK)|(refine eM64 ?_)|(refine aw_cond (b:=_) (by exact rfl) (fun h=>?_) (fun h=>?_)<;>(try simp at h))|(refine eB ?_)|(refine hK _ ?_;clear hK)|(clear hK;refine hK _ ?_;clear hK)|(clear hK;clear hK;refine hK _ ?_;clear hK)|(clear hK;clear hK;clear hK;refine hK _ ?_;clear hK))
        all_goals clear zS
        refine aw_loopK (s0:=?lps3) (m0:=?lpm3) (ι:={j:Nat // j≤1}) [1,8,9,15,16,17] (fun j=>[(10,I j.1),(5,.rd 1 (irows (rrJ num L j.1)))]) (fun j=>[]) (fun j=>1 - j.1) ⟨0,by omega⟩ ?lhs3 ?lhm3 ?_ ?_
        case lhs3=>first|(simp [keepS];done)|(simp [keepS];rfl)
        case lhm3=>first|rfl|(simp;done)|(simp;rfl)
        ·simp only [show rrJ num L 0=L from rfl]
         exact le_of2 (by simp) (by simp [AVle,AV.under,AV.underL,irows]<;>omega) (by simp [AOle,AO.under,AV.underL,AV.under,irows]<;>omega)
        ·rintro ⟨j,hj⟩
         simp only
         rcases Decidable.em (j<1) with hjl|hjl
         ·have hjI:(j:Int)<1:=by omega
          have had':=hadj j (by omega)
          have zS:=jj hjl<|jj hjI<|had'
          repeat' (first|(apply aw_seq_k;intro K hK)|(refine eM64 ?_)|(refine aw_cond (b:=_) (by exact rfl) (fun h=>?_) (fun h=>?_)<;>(try simp at h))|(refine eB ?_)|(refine hK _ ?_;clear hK)|(clear hK;refine hK _ ?_;clear hK)|(clear hK;clear hK;refine hK _ ?_;clear hK)|(clear hK;clear hK;clear hK;refine hK _ ?_;clear hK))
          all_goals clear zS
          refine ⟨j+1,?_,by omega,by omega⟩
          exact le_of2 (by simp) (by simp [AVle,AV.under,AV.underL,irows]<;>omega) (by simp [AOle,AO.under,AV.underL,AV.under,irows]<;>omega)
         ·obtain rfl:j=1:=by omega
          repeat' (first|(apply aw_seq_k;intro K hK)|(refine eM64o ?_)|(refine aw_cond (b:=_) (by exact rfl) (fun h=>?_) (fun h=>?_)<;>(try simp at h))|(refine eB ?_)|(refine hK _ ?_;clear hK)|(clear hK;refine hK _ ?_;clear hK)|(clear hK;clear hK;refine hK _ ?_;clear hK)|(clear hK;clear hK;clear hK;refine hK _ ?_;clear hK))
          refine ⟨i+1,?_,by omega,by omega⟩
          simp only [hst]
          exact le_of2 (by simp) (by simp [AVle,AV.under,AV.underL,irows]<;>omega) (by simp [AOle,AO.under,AV.underL,AV.under,irows]<;>omega)
       | true =>
        rw [if_pos rfl] at hst
        have zS:=jj hilI<|jj hil<|jj hg<|jj hgE<|de
        repeat' (first|(apply aw_seq_k;intro K hK)|(refine eM64 ?_)|(refine aw_cond (b:=_) (by exact rfl) (fun h=>?_) (fun h=>?_)<;>(try simp at h))|(refine eB ?_)|(refine hK _ ?_;clear hK)|(clear hK;refine hK _ ?_;clear hK)|(clear hK;clear hK;refine hK _ ?_;clear hK)|(clear hK;clear hK;clear hK;refine hK _ ?_;clear hK))
        all_goals clear zS
        refine aw_loopK (s0:=?lps4) (m0:=?lpm4) (ι:={j:Nat // j≤8}) [1,8,9,15,16,17] (fun j=>[(10,I j.1),(5,.rd 1 (irows (rrJ num L j.1)))]) (fun j=>[]) (fun j=>8 - j.1) ⟨0,by omega⟩ ?lhs4 ?lhm4 ?_ ?_
        case lhs4=>first|(simp [keepS];done)|(simp [keepS];rfl)
        case lhm4=>first|rfl|(simp;done)|(simp;rfl)
        ·simp only [show rrJ num L 0=L from rfl]
         exact le_of2 (by simp) (by simp [AVle,AV.under,AV.underL,irows]<;>omega) (by simp [AOle,AO.under,AV.underL,AV.under,irows]<;>omega)
        ·rintro ⟨j,hj⟩
         simp only
         rcases Decidable.em (j<8) with hjl|hjl
         ·have hjI:(j:Int)<8:=by omega
          have had':=hadj j (by omega)
          have zS:=jj hjl<|jj hjI<|had'
          repeat' (first|(apply aw_seq_k;intro K hK)|(refine eM64 ?_)|(refine aw_cond (b:=_) (by exact rfl) (fun h=>?_) (fun h=>?_)<;>(try simp at h))|(refine eB ?_)|(refine hK _ ?_;clear hK)|(clear hK;refine hK _ ?_;clear hK)|(clear hK;clear hK;refine hK _ ?_;clear hK)|(clear hK;clear hK;clear hK;refine hK _ ?_;clear hK))
          all_goals clear zS
          refine ⟨j+1,?_,by omega,by omega⟩
          exact le_of2 (by simp) (by simp [AVle,AV.under,AV.underL,irows]<;>omega) (by simp [AOle,AO.under,AV.underL,AV.under,irows]<;>omega)
         ·obtain rfl:j=8:=by omega
          repeat' (first|(apply aw_seq_k;intro K hK)|(refine eM64o ?_)|(refine aw_cond (b:=_) (by exact rfl) (fun h=>?_) (fun h=>?_)<;>(try simp at h))|(refine eB ?_)|(refine hK _ ?_;clear hK)|(clear hK;refine hK _ ?_;clear hK)|(clear hK;clear hK;refine hK _ ?_;clear hK)|(clear hK;clear hK;clear hK;refine hK _ ?_;clear hK))
          refine ⟨i+1,?_,by omega,by omega⟩
          simp only [hst]
          exact le_of2 (by simp) (by simp [AVle,AV.under,AV.underL,irows]<;>omega) (by simp [AOle,AO.under,AV.underL,AV.under,irows]<;>omega)
      | false =>
       rw [if_pos (by simp)] at hst
       have zS:=jj hilI<|jj hil<|jj hg<|jj hgE<|de
       repeat' (first|(apply aw_seq_k;intro K hK)|(refine eM64 ?_)|(refine aw_cond (b:=_) (by exact rfl) (fun h=>?_) (fun h=>?_)<;>(try simp at h))|(refine eB ?_)|(refine hK _ ?_;clear hK)|(clear hK;refine hK _ ?_;clear hK)|(clear hK;clear hK;refine hK _ ?_;clear hK)|(clear hK;clear hK;clear hK;refine hK _ ?_;clear hK))
       all_goals clear zS
       refine ⟨i+1,?_,by omega,by omega⟩
       simp only [hst]
       exact le_of2 (by simp) (by simp [AVle,AV.under,AV.underL,irows]<;>omega) (by simp [AOle,AO.under,AV.underL,AV.under,irows]<;>omega)
     | false =>
      rw [if_pos (by simp)] at hst
      have zS:=jj hilI<|jj hil<|jj hg<|jj hgE<|de
      repeat' (first|(apply aw_seq_k;intro K hK)|(refine eM64 ?_)|(refine aw_cond (b:=_) (by exact rfl) (fun h=>?_) (fun h=>?_)<;>(try simp at h))|(refine eB ?_)|(refine hK _ ?_;clear hK)|(clear hK;refine hK _ ?_;clear hK)|(clear hK;clear hK;refine hK _ ?_;clear hK)|(clear hK;clear hK;clear hK;refine hK _ ?_;clear hK))
      all_goals clear zS
      refine ⟨i+1,?_,by omega,by omega⟩
      simp only [hst]
      exact le_of2 (by simp) (by simp [AVle,AV.under,AV.underL,irows]<;>omega) (by simp [AOle,AO.under,AV.underL,AV.under,irows]<;>omega)
    | false =>
     rw [if_neg (by simp)] at hst
     cases hgf with
     | false =>
      rw [if_neg (by decide)] at hst
      have zS:=jj hilI<|jj hil<|jj hg<|jj hgE<|de
      repeat' (first|(apply aw_seq_k;intro K hK)|(refine eM64 ?_)|(refine aw_cond (b:=_) (by exact rfl) (fun h=>?_) (fun h=>?_)<;>(try simp at h))|(refine eB ?_)|(refine hK _ ?_;clear hK)|(clear hK;refine hK _ ?_;clear hK)|(clear hK;clear hK;refine hK _ ?_;clear hK)|(clear hK;clear hK;clear hK;refine hK _ ?_;clear hK))
      all_goals clear zS
      refine aw_loopK (s0:=?lps5) (m0:=?lpm5) (ι:={j:Nat // j≤1}) [1,8,9,15,16,17] (fun j=>[(10,I j.1),(5,.rd 1 (irows (rrJ num L j.1)))]) (fun j=>[]) (fun j=>1 - j.1) ⟨0,by omega⟩ ?lhs5 ?lhm5 ?_ ?_
      case lhs5=>first|(simp [keepS];done)|(simp [keepS];rfl)
      case lhm5=>first|rfl|(simp;done)|(simp;rfl)
      ·simp only [show rrJ num L 0=L from rfl]
       exact le_of2 (by simp) (by simp [AVle,AV.under,AV.underL,irows]<;>omega) (by simp [AOle,AO.under,AV.underL,AV.under,irows]<;>omega)
      ·rintro ⟨j,hj⟩
       simp only
       rcases Decidable.em (j<1) with hjl|hjl
       ·have hjI:(j:Int)<1:=by omega
        have had':=hadj j (by omega)
        have zS:=jj hjl<|jj hjI<|had'
        repeat' (first|(apply aw_seq_k;intro K hK)|(refine eM64 ?_)|(refine aw_cond (b:=_) (by exact rfl) (fun h=>?_) (fun h=>?_)<;>(try simp at h))|(refine eB ?_)|(refine hK _ ?_;clear hK)|(clear hK;refine hK _ ?_;clear hK)|(clear hK;clear hK;refine hK _ ?_;clear hK)|(clear hK;clear hK;clear hK;refine hK _ ?_;clear hK))
        all_goals clear zS
        refine ⟨j+1,?_,by omega,by omega⟩
        exact le_of2 (by simp) (by simp [AVle,AV.under,AV.underL,irows]<;>omega) (by simp [AOle,AO.under,AV.underL,AV.under,irows]<;>omega)
       ·obtain rfl:j=1:=by omega
        repeat' (first|(apply aw_seq_k;intro K hK)|(refine eM64o ?_)|(refine aw_cond (b:=_) (by exact rfl) (fun h=>?_) (fun h=>?_)<;>(try simp at h))|(refine eB ?_)|(refine hK _ ?_;clear hK)|(clear hK;refine hK _ ?_;clear hK)|(clear hK;clear hK;refine hK _ ?_;clear hK)|(clear hK;clear hK;clear hK;refine hK _ ?_;clear hK))
        refine ⟨i+1,?_,by omega,by omega⟩
        simp only [hst]
        exact le_of2 (by simp) (by simp [AVle,AV.under,AV.underL,irows]<;>omega) (by simp [AOle,AO.under,AV.underL,AV.under,irows]<;>omega)
     | true =>
      rw [if_pos rfl] at hst
      have zS:=jj hilI<|jj hil<|jj hg<|jj hgE<|de
      repeat' (first|(apply aw_seq_k;intro K hK)|(refine eM64 ?_)|(refine aw_cond (b:=_) (by exact rfl) (fun h=>?_) (fun h=>?_)<;>(try simp at h))|(refine eB ?_)|(refine hK _ ?_;clear hK)|(clear hK;refine hK _ ?_;clear hK)|(clear hK;clear hK;refine hK _ ?_;clear hK)|(clear hK;clear hK;clear hK;refine hK _ ?_;clear hK))
      all_goals clear zS
      refine aw_loopK (s0:=?lps6) (m0:=?lpm6) (ι:={j:Nat // j≤8}) [1,8,9,15,16,17] (fun j=>[(10,I j.1),(5,.rd 1 (irows (rrJ num L j.1)))]) (fun j=>[]) (fun j=>8 - j.1) ⟨0,by omega⟩ ?lhs6 ?lhm6 ?_ ?_
      case lhs6=>first|(simp [keepS];done)|(simp [keepS];rfl)
      case lhm6=>first|rfl|(simp;done)|(simp;rfl)
      ·simp only [show rrJ num L 0=L from rfl]
       exact le_of2 (by simp) (by simp [AVle,AV.under,AV.underL,irows]<;>omega) (by simp [AOle,AO.under,AV.underL,AV.under,irows]<;>omega)
      ·rintro ⟨j,hj⟩
       simp only
       rcases Decidable.em (j<8) with hjl|hjl
       ·have hjI:(j:Int)<8:=by omega
        have had':=hadj j (by omega)
        have zS:=jj hjl<|jj hjI<|had'
        repeat' (first|(apply aw_seq_k;intro K hK)|(refine eM64 ?_)|(refine aw_cond (b:=_) (by exact rfl) (fun h=>?_) (fun h=>?_)<;>(try simp at h))|(refine eB ?_)|(refine hK _ ?_;clear hK)|(clear hK;refine hK _ ?_;clear hK)|(clear hK;clear hK;refine hK _ ?_;clear hK)|(clear hK;clear hK;clear hK;refine hK _ ?_;clear hK))
        all_goals clear zS
        refine ⟨j+1,?_,by omega,by omega⟩
        exact le_of2 (by simp) (by simp [AVle,AV.under,AV.underL,irows]<;>omega) (by simp [AOle,AO.under,AV.underL,AV.under,irows]<;>omega)
       ·obtain rfl:j=8:=by omega
        repeat' (first|(apply aw_seq_k;intro K hK)|(refine eM64o ?_)|(refine aw_cond (b:=_) (by exact rfl) (fun h=>?_) (fun h=>?_)<;>(try simp at h))|(refine eB ?_)|(refine hK _ ?_;clear hK)|(clear hK;refine hK _ ?_;clear hK)|(clear hK;clear hK;refine hK _ ?_;clear hK)|(clear hK;clear hK;clear hK;refine hK _ ?_;clear hK))
        refine ⟨i+1,?_,by omega,by omega⟩
        simp only [hst]
        exact le_of2 (by simp) (by simp [AVle,AV.under,AV.underL,irows]<;>omega) (by simp [AOle,AO.under,AV.underL,AV.under,irows]<;>omega)
   ·obtain rfl:i=l.length:=by omega
    repeat' (first|(apply aw_seq_k;intro K hK)|(refine eM64o ?_)|(refine aw_cond (b:=_) (by exact rfl) (fun h=>?_) (fun h=>?_)<;>(try simp at h))|(refine eB ?_)|(refine hK _ ?_;clear hK)|(clear hK;refine hK _ ?_;clear hK)|(clear hK;clear hK;refine hK _ ?_;clear hK)|(clear hK;clear hK;clear hK;refine hK _ ?_;clear hK))
    refine ⟨by simp,?_⟩
    simp [leaves_iff,Try.f18]
    try exact dt
 ·have e:rcT (z,l) wr=[]:=by unfold rcT;rw [if_pos h0]
  rw [e]
  obtain ⟨c,hcz⟩:∃ c,c=chB (z,l):=⟨_,rfl⟩
  rw [← hcz] at ht h0
  simp only [TlV] at ht ⊢
  have zS:=jj ht<|h0
  refine dM64 ?_
  repeat (intro K hK)
  clear zS
  refine ⟨by simp,?_⟩
  simp [leaves_iff,Try.f18,irows]
  try exact dt
end Go.AM
namespace Go.AM
open Go Go.Proofs
theorem tabW_inv {x:Nat} {g:Int} (h:tabW x=some g):0≤g∧g≤4294967295∧x=g.toNat*256+4:=by
 have hr:=decR_rng x
 unfold tabW at h
 split at h
 case isFalse=>simp at h
 rename_i hk
 simp only [Option.some.injEq] at h
 rw [h] at hr
 refine ⟨hr.1,hr.2,?_⟩
 by_cases he:encR (prs x)=((x:Int),0)
 ·rw [decR_z he] at hk h
  simp only at hk h
  have hb:¬ badF (prs x):=fun hb=>by rw [encR_f (by rw [hk];decide) hb] at he;simp at he
  cases hf:frmE (prs x) with
  | false=>rw [encR_m (by rw [hk];decide) hb hf] at he;simp at he
  | true =>
   rw [encR_z (by rw [hk];decide) hb hf] at he
   simp only [Prod.mk.injEq,and_true] at he
   unfold frmE noFl at hf
   rw [if_neg (by rw [hk];decide),if_neg (by rw [hk];decide),if_neg (by rw [hk];decide),if_pos (.inr hk)] at hf
   simp only [Bool.and_eq_true,Bool.not_eq_true'] at hf
   unfold encW fb at he
   rw [hk,h,hf.1,hf.2.1,hf.2.2.1,hf.2.2.2] at he
   simp at he
   omega
 ·rw [decR_n he] at hk
  exact absurd hk (by decide)
def unlW (w:Nat) (ws:List Nat):List Nat:=ws.map fun x=>if x=w then 0 else x
def unl (w:Nat) (ns:NdL):NdL:=ns.map fun n=>(n.1,unlW w n.2)
@[simp] theorem unl_len {w:Nat} {ns:NdL}:(unl w ns).length=ns.length:=by simp [unl]
@[simp] theorem unlW_len {w:Nat} {ws:List Nat}:(unlW w ws).length=ws.length:=by simp [unlW]
theorem fnd_unl {w:Nat} {ns:NdL} {f:Int}:fnd (unl w ns) f=fnd ns f:=by
 unfold fnd unl
 rw [List.findIdx_map,List.length_map]
 rfl
theorem Mof_unl {w:Nat} {ns:NdL} {f:Int}:Mof (unl w ns) f=(Mof ns f).map (unlW w):=by
 unfold Mof
 rw [fnd_unl]
 cases fnd ns f with
 | none=>rfl
 | some i =>
  simp only [Option.map_some,unl,List.getD_eq_getElem?_getD,List.getElem?_map]
  cases ns[i]?<;>rfl
theorem unl_asc {w:Nat} {ns:NdL} (h:ascN ns):ascN (unl w ns):=by
 unfold ascN unl
 rw [List.pairwise_map]
 exact h
theorem unl_ok {w:Nat} {ns:NdL} (h:∀ x∈ns,ndOK x):∀ x∈unl w ns,ndOK x:=fun x hx=>by
 obtain ⟨y,hy,rfl⟩:=List.mem_map.1 hx
 refine ⟨by simp [(h y hy).1],fun z hz=>?_⟩
 obtain ⟨u,hu,rfl⟩:=List.mem_map.1 hz
 have:=(h y hy).2 u hu
 split
 ·decide
 ·exact this
theorem delK_ok {ns:NdL} {g:Int} (h:∀ x∈ns,ndOK x):∀ x∈delK ns g,ndOK x:=fun x hx=>h x (mem_delK.1 hx).1
theorem unl_one {M:Mm} {root:Int} (hV:VM WA M root) {d q:Nat} (hx:(d,q)∈Pos) (hd:d<2) {f:Int} (hf:frP WA M root d q=some f) {i:Nat} (hi:i<8) {g:Int} (h0:tabW (wM M f i)=some g) {h:Int} {us:List Nat} (hm:M h=some us) :
  unlW (g.toNat*256+4) us=if h=f then us.set i 0 else us:=by
 obtain ⟨g0,g1,gw⟩:=tabW_inv h0
 obtain ⟨d',q',hx',hf'⟩:=hV.all h us hm
 obtain ⟨us',hm',h8,hok⟩:=hV.nd d' q' hx' h hf'
 rw [hm] at hm'
 simp only [Option.some.injEq] at hm'
 subst hm'
 have hgP:frP WA M root (d+1) (q*8+i)=some g:=by
  simp only [frP]
  rw [show (q*8+i)/8=q by omega,show (q*8+i)%8=i by omega,hf]
  exact h0
 have key:∀ j,j<8→us.getD j 0=g.toNat*256+4→h=f∧j=i:=fun j hj e=>by
  have hj':=hok j hj
  have htw:tabW (us.getD j 0)=some g:=by
   rw [e,tabW_tw (g:=g.toNat) (by omega),Int.toNat_of_nonneg g0]
  have hd':d'≤2:=by have:=mem_Pos.1 hx';simp only at this;omega
  by_cases e2:d'=2
  ·subst e2
   have:=(WD_ok fun _=>true).flat _ hj'
   rw [show (WD fun _=>true).tab=tabW from rfl,htw] at this
   simp at this
  ·have hgP':frP WA M root (d'+1) (q'*8+j)=some g:=by
    simp only [frP]
    rw [show (q'*8+j)/8=q' by omega,show (q'*8+j)%8=j by omega,hf']
    show tabW (wM M h j)=some g
    unfold wM
    rw [hm];exact htw
   have hin:=hV.inj _ _ _ _ (Pos_dn hx' (by omega) hj) (Pos_dn hx hd hi) g hgP' hgP
   have e3:d'=d:=by omega
   have e4:q'=q:=by omega
   subst e3 e4
   rw [hf] at hf'
   simp only [Option.some.injEq] at hf'
   exact ⟨hf'.symm,by omega⟩
 refine List.ext_getElem (by split<;>simp) fun j h1 h2=>?_
 have hj:j<8:=by simp at h1;omega
 have hg:us.getD j 0=us[j]'(by simpa using h1):=by rw [List.getD_eq_getElem?_getD,List.getElem?_eq_getElem (by simpa using h1)];rfl
 have k:=key j hj
 rw [hg] at k
 simp only [unlW,List.getElem_map]
 by_cases e:us[j]'(by simpa using h1)=g.toNat*256+4
 ·obtain ⟨rfl,rfl⟩:=k e
  rw [if_pos e]
  simp
 ·rw [if_neg e]
  by_cases e2:h=f
  ·subst e2
   simp only [if_true]
   rw [List.getElem_set]
   split
   ·rename_i e3
    subst e3
    exfalso
    apply e
    unfold wM at gw
    rw [hm] at gw
    simp only at gw
    rw [← hg]
    exact gw
   ·rfl
  ·simp only [if_neg e2]
theorem Mof_kp {ns:NdL} (ha:ascN ns) {fr:List Int} (x:Int):Mof (kpF fr ns) x=if x∈fr then none else Mof ns x:=by
 have hk:ascN (kpF fr ns):=List.Pairwise.filter _ ha
 split
 ·rename_i h
  refine (Mof_none hk).2 fun n hn e=>?_
  have:=(List.mem_filter.1 hn).2
  unfold inF at this
  rw [e] at this
  simp [h] at this
 ·rename_i h
  cases hm:Mof ns x with
  | none=>exact (Mof_none hk).2 fun n hn=>(Mof_none ha).1 hm n (List.mem_filter.1 hn).1
  | some us =>
   refine (mem_Mof hk).1 (List.mem_filter.2 ⟨(mem_Mof ha).2 hm,?_⟩)
   unfold inF
   simp [h]
theorem kpF_asc {ns:NdL} (ha:ascN ns) {fr:List Int}:ascN (kpF fr ns):=List.Pairwise.filter _ ha
theorem round {r:Int} {ns:NdL} {ds:List Dp} (h:Pv (r,ns,ds)) (ht:tbOK (r,ns,ds)) {p:Nat} (hp:p<512) {g:Int} {l w:Nat} (hw:wlk (Mof ns) r p=(g,l,w)) (hl:l<2) (hlf:∀ j,j<8→tabW (wM (Mof ns) g j)=none) :
  ∃ f k,frP WA (Mof ns) r (1 - l) (p/8^(l+2))=some f∧tabW (wM (Mof ns) f (dgt p (l+1)))=some g∧fnd ns f=some k∧f≠g∧0≤g∧g≤4294967295 ∧
   Mof (unl (g.toNat*256+4) (delK ns g))=updM1 (updW (Mof ns) f (dgt p (l+1)) 0) g none∧Pv (r,unl (g.toNat*256+4) (delK ns g),ds)∧tbOK (r,unl (g.toNat*256+4) (delK ns g),ds) ∧
   wlk (Mof (unl (g.toNat*256+4) (delK ns g))) r p=(f,l+1,0)∧unl (g.toNat*256+4) (delK ns g)=kpF [g] (setN ns k (dgt p (l+1)) 0):=by
 obtain ⟨a1,a2,a3,a4,a5,a6⟩:=wlk_at h.vm hp hw
 simp only at a3
 have hq:p/8^(l+1)=p/8^(l+2)*8+dgt p (l+1):=by
  unfold dgt
  rw [Nat.pow_succ 8 (l+1),← Nat.div_div_eq_div_mul]
  omega
 have hd8:=dgt_lt p (l+1)
 obtain ⟨f,hf,htb⟩:∃ f,frP WA (Mof ns) r (1 - l) (p/8^(l+2))=some f∧tabW (wM (Mof ns) f (dgt p (l+1)))=some g:=by
  rw [show 2 - l=(1 - l)+1 by omega,hq] at a3
  simp only [frP] at a3
  rw [show (p/8^(l+2)*8+dgt p (l+1))/8=p/8^(l+2) by omega,show (p/8^(l+2)*8+dgt p (l+1))%8=dgt p (l+1) by omega] at a3
  cases hc:frP WA (Mof ns) r (1 - l) (p/8^(l+2)) with
  | none=>rw [hc] at a3;simp at a3
  | some f=>rw [hc] at a3;exact ⟨f,rfl,a3⟩
 have hx:(1 - l,p/8^(l+2))∈Pos:=by
  have:=Pos_up (d:=1 - l) (q:=p/8^(l+1)) (by rw [show 1 - l+1=2 - l by omega];exact a2)
  rwa [hq,show (p/8^(l+2)*8+dgt p (l+1))/8=p/8^(l+2) by omega] at this
 obtain ⟨g0,g1,gw⟩:=tabW_inv htb
 have hpr:=h.vm.prune hx (by omega) hf hd8 (w:=0) htb hlf tab0 (ok0 (2 - (1 - l)))
 obtain ⟨us,hus,hu8,_⟩:=h.vm.nd _ _ hx f hf
 obtain ⟨k,hk,_⟩:=Mof_some.1 hus
 have hfg:f≠g:=fun e=>by
  have:=h.vm.inj _ _ _ _ hx a2 f hf (by rw [e];exact a3)
  omega
 have hM:Mof (unl (g.toNat*256+4) (delK ns g))=updM1 (updW (Mof ns) f (dgt p (l+1)) 0) g none:=by
  refine Mof_ext fun x=>?_
  rw [Mof_unl,Mof_del h.asc]
  unfold updM1 updW
  by_cases e:x=g
  ·simp [e]
  ·simp only [if_neg e]
   cases hm:Mof ns x with
   | none =>
    split
    ·rename_i e2;rw [e2,hus] at hm;simp at hm
    ·rfl
   | some vs =>
    simp only [Option.map_some]
    rw [unl_one h.vm hx (by omega) hf hd8 htb hm]
    by_cases e2:x=f
    ·subst e2;rw [hm];simp
    ·simp [e2]
 have hasc:ascN (unl (g.toNat*256+4) (delK ns g)):=unl_asc (delK_asc h.asc)
 have hsa:=setN_asc h.asc (i:=dgt p (l+1)) (w:=0) (fnd_lt hk)
 refine ⟨f,k,hf,htb,hk,hfg,g0,g1,hM,⟨hasc,?_⟩,⟨unl_ok (delK_ok ht.1),?_,ht.2.2⟩,?_,?_⟩
 ·show VM WA (Mof (unl _ _)) r
  rw [hM];exact hpr.1
 ·have h1:(delK ns g).length≤ns.length:=List.length_filter_le _ _
  have h2:=ht.2.1
  show (unl _ _).length≤_
  simp only [unl_len]
  simp only at h2
  omega
 ·have hfr:frP WA (Mof (unl (g.toNat*256+4) (delK ns g))) r (2 - (l+1)) (p/8^(l+1+1))=some f:=by
   rw [hM,show 2 - (l+1)=1 - l by omega,hpr.2 _ _ hx,if_neg (by omega)]
   exact hf
  have hwf:wM (Mof (unl (g.toNat*256+4) (delK ns g))) f (dgt p (l+1))=0:=by
   rw [hM,wM_updM1,if_neg hfg,wM_updW hus (by omega),if_pos ⟨rfl,rfl⟩]
  rw [wlk_of hp (by omega) hfr (.inl (by rw [hwf];exact tab0)),hwf]
 ·refine ext_asc hasc (kpF_asc hsa) fun x=>?_
  rw [hM,Mof_kp hsa,Mof_set h.asc hk]
  unfold updM1
  simp
end Go.AM
