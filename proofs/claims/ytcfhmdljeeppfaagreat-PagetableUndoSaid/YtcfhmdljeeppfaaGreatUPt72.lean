/- A part of the proof: what functions of the program compute, by abstract execution of their code. Its theorems hold without further condition. -/
import Derived.Test.YtcfhmdljeeppfaaGreatUPt65
import Derived.Test.YtcfhmdljeeppfaaGreatUAmZ
import Derived.Test.YtcfhmdljeeppfaaGreatUAmT
set_option linter.all false
namespace Go.AM
open Go Go.Proofs
set_option maxRecDepth 4000
noncomputable def EtF:List AV→Option AV:=specF (ι:={n:Nat // n<2^64}) (fun x=>[U x.1]) fun x=>retOf [EnV (decR x.1).1]
theorem cEt (w:Nat) (hw:w<2^64) (M:Nat→AO) (n:Nat):callP EtF [U w] M n=some (EnV (decR w).1,[]) :=
 callP_spec (ι:={n:Nat // n<2^64}) (A:=fun x=>[U x.1]) (R:=fun x=>retOf [EnV (decR x.1).1]) ⟨w,hw⟩ (by simp [U]) (by
  rintro ⟨w',h'⟩ e
  have:=u_inj e
  simp only at this
  subst this;rfl) (by simp [EnV])
noncomputable def Te9:AX:=Te8.add 113 (callP EtF)
theorem te9:XOK Tryz.prog Te9:=xok_spec te8 (s113 Te8 te8 w0T (fun n h M k=>cDe n h M k)) (fun _=>by simp [retOf,AV.flat,AV.flatV,AV.flat1,EnV]) Tryz.func113 (by kernel_rfl)
noncomputable def Te10:AX:=Te9.add 103 (callP EtF)
theorem te10:XOK Tryz.prog Te10:=xok_spec te9 (s103 Te9 te9 w0T (fun n h M k=>cDe n h M k)) (fun _=>by simp [retOf,AV.flat,AV.flatV,AV.flat1,EnV]) Tryz.func103 (by kernel_rfl)
noncomputable def IfF:List AV→Option AV:=specF (ι:=Int) (fun x=>[I x]) fun x=>retOf [B (decide (0≤x∧x≤4294967295))]
theorem cIf (x:Int) (M:Nat→AO) (n:Nat):callP IfF [I x] M n=some (B (decide (0≤x∧x≤4294967295)),[]) :=
 callP_spec (ι:=Int) (A:=fun x=>[I x]) (R:=fun x=>retOf [B (decide (0≤x∧x≤4294967295))]) x (by simp) (by
  intro j e
  simp at e;subst e;rfl) (by simp)
noncomputable def Te11:AX:=Te10.add 126 (callP IfF)
theorem te11:XOK Tryz.prog Te11:=xok_spec te10 (s126 Te10 te10 ) (fun _=>trivial) Tryz.func126 (by kernel_rfl)
noncomputable def FewF:List AV→Option AV:=specF (ι:=Tb) (fun x=>[TbV x]) fun x=>retOf [B (decide (x.2.1.length≤80∧x.2.2.length≤70))]
theorem cFew (t:Tb) (M:Nat→AO) (n:Nat):callP FewF [TbV t] M n=some (B (decide (t.2.1.length≤80∧t.2.2.length≤70)),[]) :=
 callP_spec (ι:=Tb) (A:=fun x=>[TbV x]) (R:=fun x=>retOf [B (decide (x.2.1.length≤80∧x.2.2.length≤70))]) t (by simp [TbV]) (by
  intro j e
  simp only [List.cons.injEq,TbV_inj,and_true] at e;subst e;rfl) (by simp)
noncomputable def Te12:AX:=Te11.add 33 (callP FewF)
theorem te12:XOK Tryz.prog Te12:=xok_spec te11 (s33 Te11 te11 ) (fun _=>trivial) Tryz.func33 (by kernel_rfl)
noncomputable def DigF:List AV→Option AV:=specF (ι:={x:Nat×Nat // x.1<512∧x.2≤2}) (fun x=>[I x.1.1,I x.1.2]) fun x=>retOf [I (dig x.1.1 x.1.2)]
theorem cDig (p l:Nat) (h1:p<512) (h2:l≤2) (M:Nat→AO) (n:Nat):callP DigF [I p,I l] M n=some (I (dig p l),[]) :=
 callP_spec (ι:={x:Nat×Nat // x.1<512∧x.2≤2}) (A:=fun x=>[I x.1.1,I x.1.2]) (R:=fun x=>retOf [I (dig x.1.1 x.1.2)]) ⟨(p,l),h1,h2⟩ (by simp) (by
  rintro ⟨⟨p',l'⟩,h'⟩ e
  simp only [List.cons.injEq,I,AV.v.injEq,Value.int.injEq,true_and,and_true,Int.ofNat_inj] at e
  obtain ⟨rfl,rfl⟩:=e;rfl) (by simp)
noncomputable def DgtF:List AV→Option AV:=specF (ι:={x:Nat×Nat // x.1<512∧x.2≤2}) (fun x=>[I x.1.1,I x.1.2]) fun x=>retOf [I (dgt x.1.1 x.1.2)]
theorem cDgt (p l:Nat) (h1:p<512) (h2:l≤2) (M:Nat→AO) (n:Nat):callP DgtF [I p,I l] M n=some (I (dgt p l),[]) :=
 callP_spec (ι:={x:Nat×Nat // x.1<512∧x.2≤2}) (A:=fun x=>[I x.1.1,I x.1.2]) (R:=fun x=>retOf [I (dgt x.1.1 x.1.2)]) ⟨(p,l),h1,h2⟩ (by simp) (by
  rintro ⟨⟨p',l'⟩,h'⟩ e
  simp only [List.cons.injEq,I,AV.v.injEq,Value.int.injEq,true_and,and_true,Int.ofNat_inj] at e
  obtain ⟨rfl,rfl⟩:=e;rfl) (by simp)
noncomputable def Te13:AX:=Te12.add 112 (callP DigF)
theorem te13:XOK Tryz.prog Te13:=xok_spec te12 (s112 Te12 te12 ) (fun _=>trivial) Tryz.func112 (by kernel_rfl)
noncomputable def SuF:List AV→Option AV:=specF (ι:=En×Nat) (fun x=>[EnV x.1,I x.2]) fun x=>retOf [B (suitB x.1 x.2)]
theorem cSu (e:En) (l:Nat) (M:Nat→AO) (n:Nat):callP SuF [EnV e,I l] M n=some (B (suitB e l),[]) :=
 callP_spec (ι:=En×Nat) (A:=fun x=>[EnV x.1,I x.2]) (R:=fun x=>retOf [B (suitB x.1 x.2)]) (e,l) (by simp [EnV]) (by
  rintro ⟨e',l'⟩ e
  simp only [List.cons.injEq,EnV_inj,I,AV.v.injEq,Value.int.injEq,true_and,and_true,Int.ofNat_inj] at e
  obtain ⟨rfl,rfl⟩:=e;rfl) (by simp)
noncomputable def Te14:AX:=Te13.add 117 (callP SuF)
theorem te14:XOK Tryz.prog Te14:=xok_spec te13 (s117 Te13 te13 w0T) (fun _=>trivial) Tryz.func117 (by kernel_rfl)
noncomputable def Te15:AX:=Te14.add 132 (callP SuF)
theorem te15:XOK Tryz.prog Te15:=xok_spec te14 (s132 Te14 te14 w0T) (fun _=>trivial) Tryz.func132 (by kernel_rfl)
noncomputable def FiF:List AV→Option AV:=specF (ι:={x:Tb×Int // tbOK x.1}) (fun x=>[TbV x.1.1,I x.1.2]) fun x=>retOf [I (fstG (fun n=>decide (n.1=x.1.2)) x.1.1.2.1)]
theorem cFi (t:Tb) (x:Int) (ht:tbOK t) (M:Nat→AO) (n:Nat):callP FiF [TbV t,I x] M n=some (I (fstG (fun n:Nd=>decide (n.1=x)) t.2.1),[]):=cT2 (D:=fun t _=>tbOK t) (R:=fun t x=>retOf [I (fstG (fun n:Nd=>decide (n.1=x)) t.2.1)]) ht M n rfl (by simp [retOf,openRet,openVals,openVal,openLeaves,openLeaf,stV,srow,U,TbO])
noncomputable def Te16:AX:=Te15.add 122 (callP FiF)
theorem te16:XOK Tryz.prog Te16:=xok_spec te15 (s122 Te15 te15 ) (fun _=>trivial) Tryz.func122 (by kernel_rfl)
noncomputable def DpF:List AV→Option AV:=specF (ι:={x:Tb×Int // tbOK x.1}) (fun x=>[TbV x.1.1,I x.1.2]) fun x=>retOf [I (fstG (fun n=>decide (n.1=x.1.2)) x.1.1.2.2)]
theorem cDp (t:Tb) (x:Int) (ht:tbOK t) (M:Nat→AO) (n:Nat):callP DpF [TbV t,I x] M n=some (I (fstG (fun n:Dp=>decide (n.1=x)) t.2.2),[]):=cT2 (D:=fun t _=>tbOK t) (R:=fun t x=>retOf [I (fstG (fun n:Dp=>decide (n.1=x)) t.2.2)]) ht M n rfl (by simp [retOf,openRet,openVals,openVal,openLeaves,openLeaf,stV,srow,U,TbO])
noncomputable def Te17:AX:=Te16.add 124 (callP DpF)
theorem te17:XOK Tryz.prog Te17:=xok_spec te16 (s124 Te16 te16 ) (fun _=>trivial) Tryz.func124 (by kernel_rfl)
noncomputable def RaF:List AV→Option AV:=specF (ι:={x:Tb // tbOK x}) (fun x=>[TbV x.1]) fun x=>retOf [B (rngB x.1)]
theorem cRa (t:Tb) (ht:tbOK t) (M:Nat→AO) (n:Nat):callP RaF [TbV t] M n=some (B (rngB t),[]):=cT1 (D:=tbOK) (R:=fun t=>retOf [B (rngB t)]) ht M n rfl (by simp [retOf,openRet,openVals,openVal,openLeaves,openLeaf,stV,srow,U,TbO])
noncomputable def Te18:AX:=Te17.add 119 (callP RaF)
theorem te18:XOK Tryz.prog Te18:=xok_spec te17 (s119 Te17 te17 ) (fun _=>trivial) Tryz.func119 (by kernel_rfl)
noncomputable def OrF:List AV→Option AV:=specF (ι:={x:Tb // tbOK x}) (fun x=>[TbV x.1]) fun x=>retOf [B (ascB x.1)]
theorem cOr (t:Tb) (ht:tbOK t) (M:Nat→AO) (n:Nat):callP OrF [TbV t] M n=some (B (ascB t),[]):=cT1 (D:=tbOK) (R:=fun t=>retOf [B (ascB t)]) ht M n rfl (by simp [retOf,openRet,openVals,openVal,openLeaves,openLeaf,stV,srow,U,TbO])
noncomputable def Te19:AX:=Te18.add 120 (callP OrF)
theorem te19:XOK Tryz.prog Te19:=xok_spec te18 (s120 Te18 te18 w0T) (fun _=>trivial) Tryz.func120 (by kernel_rfl)
noncomputable def TwF:List AV→Option AV:=specF (ι:={x:Tb // tbOK x}) (fun x=>[TbV x.1]) fun x=>retOf [B (twB x.1)]
theorem cTw (t:Tb) (ht:tbOK t) (M:Nat→AO) (n:Nat):callP TwF [TbV t] M n=some (B (twB t),[]):=cT1 (D:=tbOK) (R:=fun t=>retOf [B (twB t)]) ht M n rfl (by simp [retOf,openRet,openVals,openVal,openLeaves,openLeaf,stV,srow,U,TbO])
noncomputable def Te20:AX:=Te19.add 121 (callP TwF)
theorem te20:XOK Tryz.prog Te20:=xok_spec te19 (s121 Te19 te19 w0T (fun t f h M n=>cFi t f h M n)) (fun _=>trivial) Tryz.func121 (by kernel_rfl)
noncomputable def IxF:List AV→Option AV:=specF (ι:={x:Tb // tbOK x}) (fun x=>[TbV x.1]) fun x=>retOf [.om 1 (idxE x.1.2.1 x.1.2.1.length)]
theorem cIx (t:Tb) (ht:tbOK t) (M:Nat→AO) (n:Nat):callP IxF [TbV t] M n=some (.mp n 1,[(n,.map 1 1 (idxE t.2.1 t.2.1.length))]):=cT1 (D:=tbOK) (R:=fun t=>retOf [.om 1 (idxE t.2.1 t.2.1.length)]) ht M n rfl (by simp [retOf,openRet,openVals,openVal,openLeaves,openLeaf,stV,srow,U,TbO])
noncomputable def Te21:AX:=Te20.add 115 (callP IxF)
theorem te21:XOK Tryz.prog Te21:=xok_spec te20 (s115 Te20 te20 w0T) (fun x=>idxE_pl) Tryz.func115 (by kernel_rfl)
noncomputable def NuF:List AV→Option AV:=specF (ι:={x:Tb // tbOK x}) (fun x=>[TbV x.1]) fun x=>retOf [I (numB x.1)]
theorem cNu (t:Tb) (ht:tbOK t) (M:Nat→AO) (n:Nat):callP NuF [TbV t] M n=some (I (numB t),[]):=cT1 (D:=tbOK) (R:=fun t=>retOf [I (numB t)]) ht M n rfl (by simp [retOf,openRet,openVals,openVal,openLeaves,openLeaf,stV,srow,U,TbO])
noncomputable def Te22:AX:=Te21.add 114 (callP NuF)
theorem te22:XOK Tryz.prog Te22:=xok_spec te21 (s114 Te21 te21 w0T (fun x M n=>cIf x M n) (fun t h M n=>cIx t h M n)) (fun _=>trivial) Tryz.func114 (by kernel_rfl)
noncomputable def Te23:AX:=Te22.add 116 (callG (ckS 0))
theorem te23:XOK Tryz.prog Te23:=xok_putM te22 (by kernel_rfl) (.inl ⟨(s116_0 Te22 te22 w0T (fun n h M k=>cDe n h M k) (fun e l M n=>cSu e l M n)).callG,body_ok _ Tryz.func116 (by kernel_rfl)⟩) fun _ _ _ _ h=>callG_keys h
noncomputable def Te24:AX:=Te23.add 116 (callG (ckS 1))
theorem te24:XOK Tryz.prog Te24:=xok_putM te23 (by kernel_rfl) (.inl ⟨(s116_1 Te23 te23 w0T (fun n h M k=>cDe n h M k) (fun e l M n=>cSu e l M n) rfl).callG,body_ok _ Tryz.func116 (by kernel_rfl)⟩) fun _ _ _ _ h=>callG_keys h
noncomputable def Te25:AX:=Te24.add 116 (callG (ckS 2))
theorem te25:XOK Tryz.prog Te25:=xok_putM te24 (by kernel_rfl) (.inl ⟨(s116_2 Te24 te24 w0T (fun n h M k=>cDe n h M k) (fun e l M n=>cSu e l M n) rfl).callG,body_ok _ Tryz.func116 (by kernel_rfl)⟩) fun _ _ _ _ h=>callG_keys h
noncomputable def Te26:AX:=Te25.add 182 (callP FIxB)
theorem te26:XOK Tryz.prog Te26:=xok_spec te25 (s182 Te25 te25 ) (fun _=>trivial) Tryz.func182 (by kernel_rfl)
noncomputable def Te27:AX:=Te26.add 118 (callP FCtB)
theorem te27:XOK Tryz.prog Te27:=xok_spec te26 (s118 Te26 te26 rfl) (fun _=>trivial) Tryz.func118 (by kernel_rfl)
noncomputable def Te28:AX:=Te27.add 194 (callP FIxI)
theorem te28:XOK Tryz.prog Te28:=xok_spec te27 (s194 Te27 te27 ) (fun _=>trivial) Tryz.func194 (by kernel_rfl)
noncomputable def Te29:AX:=Te28.add 142 (callP fun avs=>FCtI (avs.map (nilV 1)))
theorem te29:XOK Tryz.prog Te29:=xok_specn te28 1 (s142 Te28 te28 rfl) (fun _=>trivial) Tryz.func142 (by kernel_rfl)
noncomputable def ChF:List AV→Option AV:=specF (ι:={x:Tb // tbOK x}) (fun x=>[TbV x.1]) fun x=>retOf [I (chk x.1)]
theorem cCh (t:Tb) (ht:tbOK t) (M:Nat→AO) (n:Nat):callP ChF [TbV t] M n=some (I (chk t),[]):=cT1 (D:=tbOK) (R:=fun t=>retOf [I (chk t)]) ht M n rfl (by simp [retOf,openRet,openVals,openVal,openLeaves,openLeaf,stV,srow,U,TbO])
noncomputable def Te30:AX:=Te29.add 39 (callP ChF)
theorem te30:XOK Tryz.prog Te30:=xok_spec te29 (s39 Te29 te29 w0T (fun t h M n=>cNu t h M n) (fun t h M n=>cIx t h M n) rfl rfl) (fun _=>trivial) Tryz.func39 (by kernel_rfl)
noncomputable def Te31:AX:=Te30.add 123 (callG (rwS 0))
theorem te31:XOK Tryz.prog Te31:=xok_putM te30 (by kernel_rfl) (.inl ⟨(s123_0 Te30 te30 w0T (fun n h M k=>cDe n h M k) (fun e l M n=>cSu e l M n) (fun t f h M n=>cFi t f h M n) (fun t f h M n=>cDp t f h M n)).callG,body_ok _ Tryz.func123 (by kernel_rfl)⟩) fun _ _ _ _ h=>callG_keys h
noncomputable def Te32:AX:=Te31.add 123 (callG (rwS 1))
theorem te32:XOK Tryz.prog Te32:=xok_putM te31 (by kernel_rfl) (.inl ⟨(s123_1 Te31 te31 w0T (fun n h M k=>cDe n h M k) (fun e l M n=>cSu e l M n) (fun t f h M n=>cFi t f h M n) (fun t f h M n=>cDp t f h M n) rfl).callG,body_ok _ Tryz.func123 (by kernel_rfl)⟩) fun _ _ _ _ h=>callG_keys h
noncomputable def Te33:AX:=Te32.add 123 (callG (rwS 2))
theorem te33:XOK Tryz.prog Te33:=xok_putM te32 (by kernel_rfl) (.inl ⟨(s123_2 Te32 te32 w0T (fun n h M k=>cDe n h M k) (fun e l M n=>cSu e l M n) (fun t f h M n=>cFi t f h M n) (fun t f h M n=>cDp t f h M n) rfl).callG,body_ok _ Tryz.func123 (by kernel_rfl)⟩) fun _ _ _ _ h=>callG_keys h
theorem s40_c (X:AX) (hX:XOK Tryz.prog X) (hw:X.W wT) (hra:∀ t:Tb,tbOK t→∀ M n,X.call 119 [TbV t] M n=some (B (rngB t),[])) (hor:∀ t:Tb,tbOK t→∀ M n,X.call 120 [TbV t] M n=some (B (ascB t),[]))
  (htw:∀ t:Tb,tbOK t→∀ M n,X.call 121 [TbV t] M n=some (B (twB t),[])) (hfi:∀ (t:Tb) f,tbOK t→∀ M n,X.call 122 [TbV t,I f] M n=some (I (fstG (fun n=>decide (n.1=f)) t.2.1),[]))
  (hwa:X.call 123=callG (rwS 2)):PSound Tryz.prog 40 ChF:=by
 have h:=s40 X hX hw hra hor htw hfi hwa
 have e:(fun x:{x:Tb // tbOK x}=>retOf [I (chkR x.1)])=fun x=>retOf [I (chk x.1)]:=funext fun x=>by rw [chkR_eq x.2]
 rw [e] at h
 exact h
noncomputable def Te34:AX:=Te33.add 40 (callP ChF)
theorem te34:XOK Tryz.prog Te34:=xok_spec te33 (s40_c Te33 te33 w0T (fun t h M n=>cRa t h M n) (fun t h M n=>cOr t h M n) (fun t h M n=>cTw t h M n) (fun t f h M n=>cFi t f h M n) rfl) (fun _=>trivial) Tryz.func40 (by kernel_rfl)
noncomputable def Te35:AX:=Te34.add 139 (callP DgtF)
theorem te35:XOK Tryz.prog Te35:=xok_spec te34 (s139 Te34 te34 w0T) (fun _=>trivial) Tryz.func139 (by kernel_rfl)
noncomputable def PaF:List AV→Option AV:=specF (ι:={x:Tb×Nat // ptO x.1 x.2}) (fun x=>[TbV x.1.1,I x.1.2]) fun x=>retOf [.ow 3 (srows (ptL x.1.1 x.1.2))]
theorem cPa (t:Tb) (p:Nat) (h:ptO t p) (M:Nat→AO) (n:Nat):callP PaF [TbV t,I p] M n=some (.sl n 1 3 0 (ptL t p).length,[(n,.vec 1 3 false (srows (ptL t p)))]):=cT3 (D:=ptO) (R:=fun t p=>retOf [.ow 3 (srows (ptL t p))]) (k:=n+1) h M n (by simp [retOf,openRet,openVal,openLeaf,srows]) (by omega)
noncomputable def Te36:AX:=Te35.add 137 (callP PaF)
theorem te36:XOK Tryz.prog Te36:=xok_spec te35 (s137 Te35 te35 w0T (fun t h M n=>cIx t h M n) (fun p l h1 h2 M n=>cDgt p l h1 h2 M n) (fun w h M n=>cEt w h M n)) (fun x=>srow_pl) Tryz.func137 (by kernel_rfl)
noncomputable def LaF:List AV→Option AV:=specF (ι:={x:Tb×Nat // ptO x.1 x.2}) (fun x=>[TbV x.1.1,I x.1.2]) fun x=>retOf [stV (lsT x.1.1 x.1.2)]
theorem cLa (t:Tb) (p:Nat) (h:ptO t p) (M:Nat→AO) (n:Nat):callP LaF [TbV t,I p] M n=some (stV (lsT t p),[]):=cT3 (D:=ptO) (R:=fun t p=>retOf [stV (lsT t p)]) h M n rfl (by simp [retOf,openRet,openVals,openVal,openLeaves,openLeaf,stV,srow,U,TbO])
noncomputable def Te37:AX:=Te36.add 110 (callP LaF)
theorem te37:XOK Tryz.prog Te37:=xok_spec te36 (s110 Te36 te36 w0T (fun t p h M n=>cPa t p h M n)) (fun x=>by simp [retOf,AV.flat,AV.flatV,AV.flat1,U,stV,srow]) Tryz.func110 (by kernel_rfl)
noncomputable def StF:List AV→Option AV:=specF (ι:={x:Tb×Nat // ptO x.1 x.2}) (fun x=>[TbV x.1.1,I x.1.2]) fun x=>retOf [I (lsT x.1.1 x.1.2).1,I (lsT x.1.1 x.1.2).2.1]
theorem cSt (t:Tb) (p:Nat) (h:ptO t p) (M:Nat→AO) (n:Nat):callP StF [TbV t,I p] M n=some (.tup [I (lsT t p).1,I (lsT t p).2.1],[]):=cT3 (D:=ptO) (R:=fun t p=>retOf [I (lsT t p).1,I (lsT t p).2.1]) h M n rfl (by simp [retOf,openRet,openVals,openVal,openLeaves,openLeaf,stV,srow,U,TbO])
noncomputable def Te38:AX:=Te37.add 111 (callP StF)
theorem te38:XOK Tryz.prog Te38:=xok_spec te37 (s111 Te37 te37 w0T (fun t f h M n=>cFi t f h M n) (fun p l h1 h2 M n=>cDig p l h1 h2 M n) (fun w h M n=>cEt w h M n)) (fun _=>by simp [retOf,AV.flat,AV.flatV,AV.flat1,U]) Tryz.func111 (by kernel_rfl)
noncomputable def CkF:List AV→Option AV:=specF (ι:={x:Tb×Int×Int // tbOK x.1}) (fun x=>[TbV x.1.1,I x.1.2.1,I x.1.2.2]) fun x=>retOf [I (ckd x.1.1 x.1.2.1 x.1.2.2)]
theorem cCk (t:Tb) (ht:tbOK t) (a b:Int) (M:Nat→AO) (n:Nat):callP CkF [TbV t,I a,I b] M n=some (I (ckd t a b),[]) :=
 callP_spec (ι:={x:Tb×Int×Int // tbOK x.1}) (A:=fun x=>[TbV x.1.1,I x.1.2.1,I x.1.2.2]) (R:=fun x=>retOf [I (ckd x.1.1 x.1.2.1 x.1.2.2)]) ⟨(t,a,b),ht⟩ (by simp [TbV]) (by
  rintro ⟨⟨t',a',b'⟩,h'⟩ e
  simp only [List.cons.injEq,TbV_inj,I,AV.v.injEq,Value.int.injEq,true_and,and_true] at e
  obtain ⟨rfl,rfl,rfl⟩:=e;rfl) (by simp)
noncomputable def Te39:AX:=Te38.add 109 (callP CkF)
theorem te39:XOK Tryz.prog Te39:=xok_spec te38 (s109 Te38 te38 w0T (fun t h M n=>cCh t h M n)) (fun _=>trivial) Tryz.func109 (by kernel_rfl)
noncomputable def WaF:List AV→Option AV:=specF (ι:={x:Tb×Int // tbOK x.1}) (fun x=>[TbV x.1.1,I x.1.2]) fun x=>retOf [U (walkT x.1.1 x.1.2).1,I (walkT x.1.1 x.1.2).2.1,I (walkT x.1.1 x.1.2).2.2]
theorem cWa (t:Tb) (x:Int) (ht:tbOK t) (M:Nat→AO) (n:Nat):callP WaF [TbV t,I x] M n=some (.tup [U (walkT t x).1,I (walkT t x).2.1,I (walkT t x).2.2],[]):=cT2 (D:=fun t _=>tbOK t) (R:=fun t x=>retOf [U (walkT t x).1,I (walkT t x).2.1,I (walkT t x).2.2]) ht M n rfl (by simp [retOf,openRet,openVals,openVal,openLeaves,openLeaf,stV,srow,U,TbO])
noncomputable def MiF:List AV→Option AV:=specF (ι:={x:Tb×Int // tbOK x.1}) (fun x=>[TbV x.1.1,I x.1.2]) fun x=>retOf [I (missT x.1.1 x.1.2).1,I (missT x.1.1 x.1.2).2]
noncomputable def HuF:List AV→Option AV:=specF (ι:={x:Tb×Int // tbOK x.1}) (fun x=>[TbV x.1.1,I x.1.2]) fun x=>retOf [B (hugeT x.1.1 x.1.2)]
noncomputable def Te40:AX:=Te39.add 35 (callP WaF)
theorem te40:XOK Tryz.prog Te40:=xok_spec te39 (s35 Te39 te39 w0T (fun t h n lim M k=>cCk t h n lim M k) (fun t p h M n=>cLa t p h M n)) (fun _=>by simp [retOf,AV.flat,AV.flatV,AV.flat1,U]) Tryz.func35 (by kernel_rfl)
noncomputable def Te41:AX:=Te40.add 37 (callP MiF)
theorem te41:XOK Tryz.prog Te41:=xok_spec te40 (s37 Te40 te40 w0T (fun t h n lim M k=>cCk t h n lim M k) (fun t p h M n=>cLa t p h M n) (fun w h M n=>cEt w h M n)) (fun _=>by simp [retOf,AV.flat,AV.flatV,AV.flat1,U]) Tryz.func37 (by kernel_rfl)
noncomputable def Te42:AX:=Te41.add 41 (callP HuF)
theorem te42:XOK Tryz.prog Te42:=xok_spec te41 (s41 Te41 te41 w0T (fun t h n lim M k=>cCk t h n lim M k) (fun t p h M n=>cLa t p h M n) (fun w h M n=>cEt w h M n)) (fun _=>trivial) Tryz.func41 (by kernel_rfl)
noncomputable def Te43:AX:=Te42.add 36 (callP WaF)
theorem te43:XOK Tryz.prog Te43:=xok_spec te42 (s36 Te42 te42 w0T (fun t h M n=>cCh t h M n) (fun t p h M n=>cSt t p h M n) (fun p l h1 h2 M n=>cDig p l h1 h2 M n)) (fun _=>by simp [retOf,AV.flat,AV.flatV,AV.flat1,U]) Tryz.func36 (by kernel_rfl)
theorem s38_c (X:AX) (hX:XOK Tryz.prog X) (hw:X.W wT) (hwk:∀ t:Tb,tbOK t→∀ (n:Int) M k,X.call 36 [TbV t,I n] M k=some (.tup [U (walkT t n).1,I (walkT t n).2.1,I (walkT t n).2.2],[])):PSound Tryz.prog 38 MiF:=by
 have h:=s38 X hX hw hwk
 have e:(fun x:{x:Tb×Int // tbOK x.1}=>retOf [I (missR x.1.1 x.1.2).1,I (missR x.1.1 x.1.2).2])=fun x=>retOf [I (missT x.1.1 x.1.2).1,I (missT x.1.1 x.1.2).2]:=funext fun x=>by rw [miss_eq x.2]
 rw [e] at h
 exact h
theorem s42_c (X:AX) (hX:XOK Tryz.prog X) (hw:X.W wT) (hch:∀ t:Tb,tbOK t→∀ M n,X.call 40 [TbV t] M n=some (I (chk t),[])) (hde:∀ (t:Tb) f,tbOK t→∀ M n,X.call 124 [TbV t,I f] M n=some (I (fstG (fun n=>decide (n.1=f)) t.2.2),[])):PSound Tryz.prog 42 HuF:=by
 have h:=s42 X hX hw hch hde
 have e:(fun x:{x:Tb×Int // tbOK x.1}=>retOf [B (hugeR x.1.1 x.1.2)])=fun x=>retOf [B (hugeT x.1.1 x.1.2)]:=funext fun x=>by rw [huge_eq x.2]
 rw [e] at h
 exact h
noncomputable def Te44:AX:=Te43.add 38 (callP MiF)
theorem te44:XOK Tryz.prog Te44:=xok_spec te43 (s38_c Te43 te43 w0T (fun t h x M n=>cWa t x h M n)) (fun _=>by simp [retOf,AV.flat,AV.flatV,AV.flat1,U]) Tryz.func38 (by kernel_rfl)
noncomputable def Te45:AX:=Te44.add 42 (callP HuF)
theorem te45:XOK Tryz.prog Te45:=xok_spec te44 (s42_c Te44 te44 w0T (fun t h M n=>cCh t h M n) (fun t f h M n=>cDp t f h M n)) (fun _=>trivial) Tryz.func42 (by kernel_rfl)
noncomputable def Te46:AX:=Te45.add 214 (sortN)
theorem te46:XOK Tryz.prog Te46:=xok_putM te45 (by kernel_rfl) (.inl ⟨sort_ok,body_ok _ Tryz.func214 (by kernel_rfl)⟩) fun _ _ _ _ h=>sort_keys h
noncomputable def ClF:List AV→Option AV:=specF (ι:={x:Tb // tbOK x}) (fun x=>[TbV x.1]) fun x=>retOf [TbO x.1]
theorem cCl (t:Tb) (ht:tbOK t) (M:Nat→AO) (n:Nat):callP ClF [TbV t] M n=some (TbC t n,[(n,.vec 1 9 false (nrows t.2.1)),(n+1,.vec 1 2 false (prows t.2.2))]):=cT1 (D:=tbOK) (R:=fun t=>retOf [TbO t]) (k:=n+2) ht M n (by simp [retOf,openRet,openVal,openLeaves,openLeaf,TbO,TbC]) (by omega)
noncomputable def Te47:AX:=Te46.add 184 (callC FClN)
theorem te47:XOK Tryz.prog Te47:=xok_add te46 (.inl ⟨PSound.callC (s184 Te46 te46 w0T),body_ok _ Tryz.func184 (by kernel_rfl)⟩) fun _ _ _ _ h b hb=>callC_keys h b hb
noncomputable def Te48:AX:=Te47.add 185 (callC FClD)
theorem te48:XOK Tryz.prog Te48:=xok_add te47 (.inl ⟨PSound.callC (s185 Te47 te47 w0T),body_ok _ Tryz.func185 (by kernel_rfl)⟩) fun _ _ _ _ h b hb=>callC_keys h b hb
noncomputable def Te49:AX:=Te48.add 128 (callP ClF)
theorem te49:XOK Tryz.prog Te49:=xok_spec te48 (s128 Te48 te48 w0T rfl rfl) (fun x=>TbO_fl) Tryz.func128 (by kernel_rfl)
noncomputable def NeF:List AV→Option AV:=specF (ι:=Int) (fun x=>[I x]) fun x=>retOf [TbO (newT x).1,I (newT x).2]
theorem newO_fl {x:Int}:(retOf [TbO (newT x).1,I (newT x).2]).flat:=by
 intro a ha
 simp at ha
 rcases ha with rfl|rfl
 ·exact TbO_fl
 ·trivial
theorem tabO_fl {t:Tb} {n:Int}:(retOf [TbO t,I n]).flat:=by
 intro a ha
 simp at ha
 rcases ha with rfl|rfl
 ·exact TbO_fl
 ·trivial
theorem cNe (x:Int) (M:Nat→AO) (n:Nat):callP NeF [I x] M n=some (.tup [TbC (newT x).1 n,I (newT x).2],outT (newT x).1 n):=by
 have h:=callP_spec (ι:=Int) (A:=fun x=>[I x]) (R:=fun x=>retOf [TbO (newT x).1,I (newT x).2]) (avs:=[I x]) (M:=M) (n:=n) x (by simp) (by
  intro j e
  simp at e;subst e;rfl) (by simp [TbO])
 show callP (specF _ _) _ _ _=_
 rw [h]
 simp [retOf,openRet,openVals,openVal,openLeaves,openLeaf,TbO,TbC,outT]
noncomputable def Te50:AX:=Te49.add 49 (callP NeF)
theorem te50:XOK Tryz.prog Te50:=xok_spec te49 (s49 Te49 te49 w0T (fun x M n=>cIf x M n)) (fun x=>newO_fl) Tryz.func49 (by kernel_rfl)
noncomputable def Te51:AX:=Te50.add 50 (callP NeF)
theorem te51:XOK Tryz.prog Te51:=xok_spec te50 (s50 Te50 te50 w0T) (fun x=>newO_fl) Tryz.func50 (by kernel_rfl)
noncomputable def Te52:AX:=Te51.add 218 ovlF
theorem ovlF_keys {avs:List AV} {M:Nat→AO} {nid:Nat} {r:AV×List (Nat×AO)} (h:ovlF avs M nid=some r):∀ b∈r.2.map (·.1),nid≤b∧b<nid+16:=by
 unfold ovlF at h
 split at h<;>(try split at h)<;>(try split at h)<;>simp at h
 rw [← h];simp
theorem te52:XOK Tryz.prog Te52:=xok_add te51 (.inr xOvl) fun _ _ _ _ h=>ovlF_keys h
noncomputable def Te53:AX:=Te52.add 190 (callM false two2 FInsD)
theorem te53:XOK Tryz.prog Te53:=xok_putM te52 (by kernel_rfl) (.inl ⟨((s190 Te52 te52 rfl).callM fun _ _ _ _ h=>FInsD_flat h),body_ok _ Tryz.func190 (by kernel_rfl)⟩) fun _ _ _ _ h=>callM_keys h
noncomputable def Te54:AX:=Te53.add 192 (callM false two2 FDelD)
theorem te54:XOK Tryz.prog Te54:=xok_putM te53 (by kernel_rfl) (.inl ⟨((s192 Te53 te53 w0T).callM fun _ _ _ _ h=>FDelD_flat h),body_ok _ Tryz.func192 (by kernel_rfl)⟩) fun _ _ _ _ h=>callM_keys h
noncomputable def Te55:AX:=Te54.add 189 (callG clS)
theorem te55:XOK Tryz.prog Te55:=xok_putM te54 (by kernel_rfl) (.inl ⟨(s189 Te54 te54 w0T).callG,body_ok _ Tryz.func189 (by kernel_rfl)⟩) fun _ _ _ _ h=>callG_keys h
noncomputable def Te56:AX:=Te55.add 191 (callG clS)
theorem te56:XOK Tryz.prog Te56:=xok_putM te55 (by kernel_rfl) (.inl ⟨(s191 Te55 te55 w0T).callG,body_ok _ Tryz.func191 (by kernel_rfl)⟩) fun _ _ _ _ h=>callG_keys h
noncomputable def Te57:AX:=Te56.add 188 (callG seB)
theorem te57:XOK Tryz.prog Te57:=xok_putM te56 (by kernel_rfl) (.inl ⟨(GSound.or (s188 Te56 te56 w0T 189 rfl) (s188 Te56 te56 w0T 191 rfl)).callG,body_ok _ Tryz.func188 (by kernel_rfl)⟩) fun _ _ _ _ h=>callG_keys h
theorem olaR {X:AX} (h:X.call 110=callP LaF):OwnR X 110 (fun t x=>0≤x∧ptO t x.toNat) fun t x=>stV (lsT t x.toNat):=fun r ns ds x hd a va b vb f1 f2 M n h1 h2=>by
 rw [h]
 obtain ⟨k,rfl⟩:∃ k:Nat,x=k:=⟨x.toNat,by omega⟩
 exact oT3 (D:=ptO) (R:=fun t p=>retOf [stV (lsT t p)]) (t:=(r,ns,ds)) hd.2 ⟨⟨f1,h1⟩,f2,h2⟩ n rfl (by simp [retOf,openRet,openVals,openVal,openLeaves,openLeaf,stV,srow,U,TbO])
noncomputable def Te58:AX:=Te57.add 130 (callG puS)
theorem te58:XOK Tryz.prog Te58:=xok_putM te57 (by kernel_rfl) (.inl ⟨(s130 Te57 te57 w0T (olaR rfl) (fun p l h1 h2 M n=>cDgt p l h1 h2 M n)).callG,body_ok _ Tryz.func130 (by kernel_rfl)⟩) fun _ _ _ _ h=>callG_keys h
noncomputable def Te59:AX:=Te58.add 186 (callG adS)
theorem te59:XOK Tryz.prog Te59:=xok_putM te58 (by kernel_rfl) (.inl ⟨(s186 Te58 te58 w0T rfl).callG,body_ok _ Tryz.func186 (by kernel_rfl)⟩) fun _ _ _ _ h=>callG_keys h
theorem encR_tab {g:Nat} (hg:g≤4294967295):encR (4,(g:Int),false,false,false,false)=(((g*256+4:Nat):Int),0):=by
 rw [encR_z (by simp only;omega) (by unfold badF;simp only;omega) (by rfl)]
 unfold encW fb
 simp
 omega
theorem encT (f:Nat) (hf:f≤4294967295) (M:Nat→AO) (n:Nat):callP EncF [.agg [I 4,I f,B false,B false,B false,B false]] M n=some (.tup [U ((f*256+4:Nat)),I 0],[]):=by
 rw [cEn,encR_tab hf]
noncomputable def Te60:AX:=Te59.add 129 (callG deB)
theorem te60:XOK Tryz.prog Te60:=xok_putM te59 (by kernel_rfl) (.inl ⟨(GSound.or (s129 Te59 te59 w0T (olaR rfl) (fun p l h1 h2 M n=>cDgt p l h1 h2 M n) (fun f hf M n=>encT f hf M n) rfl) (s129_1 Te59 te59 w0T (olaR rfl) (fun p l h1 h2 M n=>cDgt p l h1 h2 M n) (fun f hf M n=>encT f hf M n) rfl)).callG,body_ok _ Tryz.func129 (by kernel_rfl)⟩) fun _ _ _ _ h=>callG_keys h
noncomputable def Te61:AX:=Te60.add 135 (callG dpS)
theorem te61:XOK Tryz.prog Te61:=xok_putM te60 (by kernel_rfl) (.inl ⟨(s135 Te60 te60 w0T rfl rfl).callG,body_ok _ Tryz.func135 (by kernel_rfl)⟩) fun _ _ _ _ h=>callG_keys h
noncomputable def Te62:AX:=Te61.add 138 (callG wdS)
theorem te62:XOK Tryz.prog Te62:=xok_putM te61 (by kernel_rfl) (.inl ⟨(s138 Te61 te61 w0T rfl rfl).callG,body_ok _ Tryz.func138 (by kernel_rfl)⟩) fun _ _ _ _ h=>callG_keys h
noncomputable def FhF:List AV→Option AV:=specF (ι:={x:UsD×Nat // tbOK x.1.1∧ascN x.1.1.2.1∧x.1.2.length≤1000}) (fun x=>[TbV x.1.1.1,.rd 1 (irows x.1.1.2),I x.1.2]) fun x=>retOf [B (decide (x.1.1.2.length=x.1.2)&&usB x.1.1.1.2.1 x.1.1.1.2.2 x.1.1.2)]
theorem cFh (t:Tb) (fs:List Int) (m:Nat) (ht:tbOK t) (ha:ascN t.2.1) (hl:fs.length≤1000) (M:Nat→AO) (n:Nat):callP FhF [TbV t,.rd 1 (irows fs),I m] M n=some (B (decide (fs.length=m)&&usB t.2.1 t.2.2 fs),[]) :=
 callP_spec (ι:={x:UsD×Nat // tbOK x.1.1∧ascN x.1.1.2.1∧x.1.2.length≤1000}) (A:=fun x=>[TbV x.1.1.1,.rd 1 (irows x.1.1.2),I x.1.2]) (R:=fun x=>retOf [B (decide (x.1.1.2.length=x.1.2)&&usB x.1.1.1.2.1 x.1.1.1.2.2 x.1.1.2)]) ⟨((t,fs),m),ht,ha,hl⟩ (by simp [TbV]) (by
  rintro ⟨⟨⟨t',fs'⟩,m'⟩,h'⟩ e
  simp only [List.cons.injEq,TbV_inj,I,AV.v.injEq,Value.int.injEq,true_and,and_true,AV.rd.injEq,irows_inj,Int.ofNat_inj] at e
  obtain ⟨rfl,rfl,rfl⟩:=e;rfl) (by simp)
noncomputable def Te63:AX:=Te62.add 127 (callP FhF)
theorem te63:XOK Tryz.prog Te63:=xok_spec te62 (s127 Te62 te62 w0T (fun x M n=>cIf x M n) (fun t h M n=>cIx t h M n)) (fun _=>trivial) Tryz.func127 (by kernel_rfl)
noncomputable def SeF:List AV→Option AV:=specF (ι:={x:StD // stOK x}) (fun x=>[TbV x.1.1,I x.1.2.1,U x.1.2.2.1,.rd 1 (irows x.1.2.2.2)]) fun x=>retOf [TbO (setP x.1.1 x.1.2.1 x.1.2.2.1 x.1.2.2.2).1,I (setP x.1.1 x.1.2.1 x.1.2.2.1 x.1.2.2.2).2]
noncomputable def Te64:AX:=Te63.add 51 (callP SeF)
theorem te64:XOK Tryz.prog Te64:=xok_spec te63 (s51 Te63 te63 w0T (fun t h n lim M k=>cCk t h n lim M k) (fun t p h M n=>cLa t p h M n) (fun n h M k=>cDe n h M k) (fun w h M n=>cEt w h M n) (fun t fs m ht ha hl M n=>cFh t fs m ht ha hl M n) (fun t h M n=>cCl t h M n) rfl rfl) (fun x=>tabO_fl) Tryz.func51 (by kernel_rfl)
noncomputable def ShF:List AV→Option AV:=specF (ι:={x:StD // stOK x}) (fun x=>[TbV x.1.1,I x.1.2.1,U x.1.2.2.1,.rd 1 (irows x.1.2.2.2)]) fun x=>retOf [TbO (setH x.1.1 x.1.2.1 x.1.2.2.1 x.1.2.2.2).1,I (setH x.1.1 x.1.2.1 x.1.2.2.1 x.1.2.2.2).2]
noncomputable def Te65:AX:=Te64.add 53 (callP ShF)
theorem te65:XOK Tryz.prog Te65:=xok_spec te64 (s53 Te64 te64 w0T (fun t h n lim M k=>cCk t h n lim M k) (fun t p h M n=>cLa t p h M n) (fun n h M k=>cDe n h M k) (fun t fs m ht ha hl M n=>cFh t fs m ht ha hl M n) (fun t h M n=>cCl t h M n) rfl rfl rfl) (fun x=>tabO_fl) Tryz.func53 (by kernel_rfl)
noncomputable def PrF:List AV→Option AV:=specF (ι:={x:Nat×Int // x.1<2^64}) (fun x=>[U x.1.1,I x.1.2]) fun x=>retOf [U (partR x.1.1 x.1.2).1,I (partR x.1.1 x.1.2).2]
theorem cPr (w:Nat) (i:Int) (hw:w<2^64) (M:Nat→AO) (n:Nat):callP PrF [U w,I i] M n=some (.tup [U (partR w i).1,I (partR w i).2],[]) :=
 callP_spec (ι:={x:Nat×Int // x.1<2^64}) (A:=fun x=>[U x.1.1,I x.1.2]) (R:=fun x=>retOf [U (partR x.1.1 x.1.2).1,I (partR x.1.1 x.1.2).2]) ⟨(w,i),hw⟩ (by simp [U]) (by
  rintro ⟨⟨w',i'⟩,h'⟩ e
  simp only [List.cons.injEq,U,I,AV.v.injEq,Value.int.injEq,true_and,and_true,Int.ofNat_inj] at e
  obtain ⟨rfl,rfl⟩:=e;rfl) (by simp [U])
noncomputable def Te66:AX:=Te65.add 68 (callP PrF)
theorem te66:XOK Tryz.prog Te66:=xok_spec te65 (s68 Te65 te65 w0T (fun n h M k=>cDe n h M k) (fun k f d a x h M n=>cEn k f d a x h M n)) (fun _=>by simp [retOf,AV.flat,AV.flatV,AV.flat1,U]) Tryz.func68 (by kernel_rfl)
noncomputable def SpF:List AV→Option AV:=specF (ι:={x:Tb×Int // tbOK x.1∧x.1.2.1.length≤999000}) (fun x=>[TbV x.1.1,I x.1.2]) fun x=>retOf [TbO (splP x.1.1 x.1.2).1,I (splP x.1.1 x.1.2).2]
noncomputable def Te67:AX:=Te66.add 64 (callP SpF)
theorem te67:XOK Tryz.prog Te67:=xok_spec te66 (s64 Te66 te66 w0T (fun t h n lim M k=>cCk t h n lim M k) (fun t p h M n=>cLa t p h M n) (fun w h M n=>cEt w h M n) (fun t h M n=>cCl t h M n) (fun w i h M n=>cPr w i h M n) rfl rfl rfl) (fun x=>tabO_fl) Tryz.func64 (by kernel_rfl)
noncomputable def SaF:List AV→Option AV:=specF (ι:={x:Tb×Tb // tbOK x.1∧tbOK x.2}) (fun x=>[TbV x.1.1,TbV x.1.2]) fun x=>retOf [B (decide (x.1.1=x.1.2))]
noncomputable def Te68:AX:=Te67.add 31 (callP fun avs=>SaF (avs.map (nilV 2)))
theorem te68:XOK Tryz.prog Te68:=xok_specn te67 2 (s31 Te67 te67 w0T rfl rfl) (fun _=>trivial) Tryz.func31 (by kernel_rfl)
noncomputable def EiF:List AV→Option AV:=specF (ι:={x:List Int×List Int // x.1.length≤1000000∧x.2.length≤1000000}) (fun x=>[.rd 1 (irows x.1.1),.rd 1 (irows x.1.2)]) fun x=>retOf [B (decide (x.1.1=x.1.2))]
noncomputable def Te69:AX:=Te68.add 46 (callP EiF)
theorem te69:XOK Tryz.prog Te69:=xok_spec te68 (s46 Te68 te68 w0T) (fun _=>trivial) Tryz.func46 (by kernel_rfl)
noncomputable def EpF:List AV→Option AV:=specF (ι:={x:List Pe×List Pe // x.1.length≤1000000∧x.2.length≤1000000}) (fun x=>[.rd 2 (erows x.1.1),.rd 2 (erows x.1.2)]) fun x=>retOf [B (decide (x.1.1=x.1.2))]
noncomputable def Te70:AX:=Te69.add 43 (callP EpF)
theorem te70:XOK Tryz.prog Te70:=xok_spec te69 (s43 Te69 te69 w0T rfl) (fun _=>trivial) Tryz.func43 (by kernel_rfl)
noncomputable def Te71:AX:=Te70.add 183 (sortC)
theorem te71:XOK Tryz.prog Te71:=xok_putM te70 (by kernel_rfl) (.inl ⟨sortI_ok,body_ok _ Tryz.func183 (by kernel_rfl)⟩) fun _ _ _ _ h=>sortI_keys h
noncomputable def Te72:AX:=Te71.add 125 (callG siS)
theorem te72:XOK Tryz.prog Te72:=xok_putM te71 (by kernel_rfl) (.inl ⟨(s125 Te71 te71 w0T rfl).callG,body_ok _ Tryz.func125 (by kernel_rfl)⟩) fun _ _ _ _ h=>callG_keys h
noncomputable def FrF:List AV→Option AV:=specF (ι:={x:Tb // tbOK x}) (fun x=>[TbV x.1]) fun x=>retOf [.ow 1 (irows (frmT x.1))]
noncomputable def LiF:List AV→Option AV:=specF (ι:={x:Tb // tbOK x}) (fun x=>[TbV x.1]) fun x=>retOf [.ow 2 (erows (lstT x.1))]
noncomputable def Te73:AX:=Te72.add 47 (callP FrF)
theorem te73:XOK Tryz.prog Te73:=xok_spec te72 (s47 Te72 te72 w0T (fun t h M n=>cCh t h M n) rfl) (fun x=>irow_pl) Tryz.func47 (by kernel_rfl)
noncomputable def Te74:AX:=Te73.add 44 (callP LiF)
theorem te74:XOK Tryz.prog Te74:=xok_spec te73 (s44 Te73 te73 w0T (fun t h M n=>cCh t h M n) (fun t p h M n=>cLa t p h M n)) (fun x=>erow_pl) Tryz.func44 (by kernel_rfl)
noncomputable def Te75:AX:=Te74.add 45 (callP LiF)
theorem te75:XOK Tryz.prog Te75:=xok_spec te74 (s45 Te74 te74 w0T (fun t h M n=>cCh t h M n) (fun t p h M n=>cSt t p h M n) (fun p l h1 h2 M n=>cDig p l h1 h2 M n)) (fun x=>erow_pl) Tryz.func45 (by kernel_rfl)
noncomputable def Te76:AX:=Te75.add 48 (callP FrF)
theorem te76:XOK Tryz.prog Te76:=xok_spec te75 (s48 Te75 te75 w0T (fun t h M n=>cCh t h M n)) (fun x=>irow_pl) Tryz.func48 (by kernel_rfl)
theorem octR {X:AX} (h:X.call 142=callP fun avs=>FCtI (avs.map (nilV 1))):OwnI X:=by
 have key:∀ (fr:List Int) (x:Int),fr.length≤1000→FCtI [.rd 1 (irows fr),I x]=some (B (decide (x∈fr))):=fun fr x hl=>by
  refine specF_eq (ι:={x:List Int×Int // x.1.length≤9223372036854775807}) (A:=fun x=>[.rd 1 (irows x.1.1),I x.1.2]) (R:=fun x=>retOf [B (decide (x.1.2∈x.1.1))]) ⟨(fr,x),by simp only;omega⟩ fun j e=>?_
  obtain ⟨⟨f',x'⟩,h'⟩:=j
  simp only [List.cons.injEq,AV.rd.injEq,irows_inj,I,AV.v.injEq,Value.int.injEq,true_and,and_true] at e
  obtain ⟨rfl,rfl⟩:=e;rfl
 refine ⟨fun fr x hl b v f M n hM=>?_,fun x M n=>?_⟩
 ·rw [h]
  have tk:List.take fr.length (irows fr)=irows fr:=List.take_of_length_le (by simp)
  simp [callP,hM,tk,nilV,nilA,key fr x hl]
 ·rw [h]
  have:=key [] x (by simp)
  simp only [irows,List.map_nil] at this
  simp [callP,nilV,nilA,this]
noncomputable def Te77:AX:=Te76.add 141 (callG clrB)
theorem te77:XOK Tryz.prog Te77:=xok_putM te76 (by kernel_rfl) (.inl ⟨(GSound.or (s141 Te76 te76 w0T (octR rfl)) (s141_0 Te76 te76 w0T (octR rfl))).callG,body_ok _ Tryz.func141 (by kernel_rfl)⟩) fun _ _ _ _ h=>callG_keys h
noncomputable def Te78:AX:=Te77.add 193 (callG ixB)
theorem te78:XOK Tryz.prog Te78:=xok_putM te77 (by kernel_rfl) (.inl ⟨(GSound.or (s193 Te77 te77 w0T rfl) (s193_0 Te77 te77 w0T rfl)).callG,body_ok _ Tryz.func193 (by kernel_rfl)⟩) fun _ _ _ _ h=>callG_keys h
noncomputable def Te79:AX:=Te78.add 140 (callG dfB)
theorem te79:XOK Tryz.prog Te79:=xok_putM te78 (by kernel_rfl) (.inl ⟨(GSound.or (s140 Te78 te78 w0T rfl rfl) (s140_0 Te78 te78 w0T rfl)).callG,body_ok _ Tryz.func140 (by kernel_rfl)⟩) fun _ _ _ _ h=>callG_keys h
noncomputable def ClrF:List AV→Option AV:=specF (ι:={x:Tb×Int // tbOK x.1∧x.1.2.1.length≤999000}) (fun x=>[TbV x.1.1,I x.1.2]) fun x=>retOf [TbO (clrP x.1.1 x.1.2).1,U (clrP x.1.1 x.1.2).2.1,.ow 1 (irows (clrP x.1.1 x.1.2).2.2.1),I (clrP x.1.1 x.1.2).2.2.2]
theorem clrO_fl {t:Tb} {w:Nat} {l:List Int} {n:Int}:(retOf [TbO t,U w,.ow 1 (irows l),I n]).flat:=by
 intro a ha
 simp at ha
 rcases ha with rfl|rfl|rfl|rfl
 ·exact TbO_fl
 ·trivial
 ·exact irow_pl
 ·trivial
theorem repO_fl {t:Tb} {w:Nat} {n:Int}:(retOf [TbO t,U w,I n]).flat:=by
 intro a ha
 simp at ha
 rcases ha with rfl|rfl|rfl
 ·exact TbO_fl
 ·trivial
 ·trivial
noncomputable def Te80:AX:=Te79.add 55 (callP ClrF)
theorem te80:XOK Tryz.prog Te80:=xok_spec te79 (s55 Te79 te79 w0T rfl (fun t h n lim M k=>cCk t h n lim M k) (fun t p h M n=>cPa t p h M n) (fun p l h1 h2 M n=>cDgt p l h1 h2 M n) (fun t h M n=>cCl t h M n) rfl rfl) (fun x=>clrO_fl) Tryz.func55 (by kernel_rfl)
noncomputable def ReF:List AV→Option AV:=specF (ι:={x:Tb×Int×Nat // tbOK x.1∧x.2.2<2^64}) (fun x=>[TbV x.1.1,I x.1.2.1,U x.1.2.2]) fun x=>retOf [TbO (repP x.1.1 x.1.2.1 x.1.2.2).1,U (repP x.1.1 x.1.2.1 x.1.2.2).2.1,I (repP x.1.1 x.1.2.1 x.1.2.2).2.2]
noncomputable def Te81:AX:=Te80.add 61 (callP ReF)
theorem te81:XOK Tryz.prog Te81:=xok_spec te80 (s61 Te80 te80 w0T (fun t h n lim M k=>cCk t h n lim M k) (fun t p h M n=>cLa t p h M n) (fun n h M k=>cDe n h M k) (fun e l M n=>cSu e l M n) (fun t h M n=>cCl t h M n) rfl) (fun x=>repO_fl) Tryz.func61 (by kernel_rfl)
noncomputable abbrev TeA:AX:=Te81
theorem teA:XOK Tryz.prog TeA:=te81
end Go.AM
namespace Go.AM
open Go Go.Proofs
set_option maxRecDepth 4000
theorem open_tab {t:Tb} {e:Int} {n:Nat}:openRet n (retOf [TbO t,I e])=(.tup [TbC t n,I e],outT t n,n+2):=by
 simp [retOf,openRet,openVals,openVal,openLeaves,openLeaf,TbO,TbC,outT]
theorem open_clr {t:Tb} {w:Nat} {l:List Int} {e:Int} {n:Nat}:openRet n (retOf [TbO t,U w,.ow 1 (irows l),I e])=(.tup [TbC t n,U w,.sl (n+2) 1 1 0 l.length,I e],outT t n++[(n+2,.vec 1 1 false (irows l))],n+3):=by
 simp [retOf,openRet,openVals,openVal,openLeaves,openLeaf,TbO,TbC,outT,U]
theorem open_irow {l:List Int} {n:Nat}:openRet n (retOf [.ow 1 (irows l)])=(.sl n 1 1 0 l.length,[(n,.vec 1 1 false (irows l))],n+1):=by
 simp [retOf,openRet,openVal,openLeaf]
theorem open_erow {l:List Pe} {n:Nat}:openRet n (retOf [.ow 2 (erows l)])=(.sl n 1 2 0 l.length,[(n,.vec 1 2 false (erows l))],n+1):=by
 simp [retOf,openRet,openVal,openLeaf,erows]
theorem oSt {R:StD→AV} {x:StD} (h:stOK x) {p vp q vq c vc:Nat} {fc:Bool} {M:Nat→AO} (hM:OwT M x.1 p vp q vq) (hc:M c=.vec vc 1 fc (irows x.2.2.2)) (n:Nat) {a:AV} {u:List (Nat×AO)} {k:Nat} (ho:openRet n (R x)=(a,u,k)) (hk:k≤n+16) :
  callP (specF (ι:={x:StD // stOK x}) (fun x=>[TbV x.1.1,I x.1.2.1,U x.1.2.2.1,.rd 1 (irows x.1.2.2.2)]) fun x=>R x.1) [TbS x.1 p vp q vq,I x.2.1,U x.2.2.1,.sl c vc 1 0 x.2.2.2.length] M n=some (a,u):=by
 have tk:List.take x.2.2.2.length (irows x.2.2.2)=irows x.2.2.2:=List.take_of_length_le (by simp)
 rw [callP_spec (ι:={x:StD // stOK x}) (A:=fun x=>[TbV x.1.1,I x.1.2.1,U x.1.2.2.1,.rd 1 (irows x.1.2.2.2)]) (R:=fun x=>R x.1) ⟨x,h⟩ (peek_tab hM (by simp [U,hc,tk])) ?_ (by rw [ho];exact hk),ho]
 rintro ⟨⟨t',p',w',fs'⟩,h'⟩ e
 obtain ⟨t,p,w,fs⟩:=x
 simp only [List.cons.injEq,TbV_inj,U,I,AV.v.injEq,Value.int.injEq,true_and,and_true,AV.rd.injEq,irows_inj,Int.ofNat_inj] at e
 obtain ⟨rfl,rfl,rfl,rfl⟩:=e;rfl
theorem oEi {l m:List Int} (hl:l.length≤1000000∧m.length≤1000000) {c vc d vd:Nat} {fc fd:Bool} {M:Nat→AO} (hc:M c=.vec vc 1 fc (irows l)) (hd:M d=.vec vd 1 fd (irows m)) (n:Nat):callP EiF [.sl c vc 1 0 l.length,.sl d vd 1 0 m.length] M n=some (B (decide (l=m)),[]):=by
 have tk:List.take l.length (irows l)=irows l:=List.take_of_length_le (by simp)
 have tm:List.take m.length (irows m)=irows m:=List.take_of_length_le (by simp)
 exact callP_spec (ι:={x:List Int×List Int // x.1.length≤1000000∧x.2.length≤1000000}) (A:=fun x=>[.rd 1 (irows x.1.1),.rd 1 (irows x.1.2)]) (R:=fun x=>retOf [B (decide (x.1.1=x.1.2))]) ⟨(l,m),hl⟩ (by simp [hc,hd,tk,tm]) (by
  rintro ⟨⟨l',m'⟩,h'⟩ e
  simp only [List.cons.injEq,AV.rd.injEq,irows_inj,true_and,and_true] at e
  obtain ⟨rfl,rfl⟩:=e;rfl) (by simp)
theorem erows_inj:∀ {a b:List Pe},erows a=erows b↔a=b
 | [],[]=>by simp [erows]
 | [],_::_=>by simp [erows]
 | _::_,[]=>by simp [erows]
 | (x,w)::a,(y,v)::b=>by
  have ih:=@erows_inj a b
  simp only [erows] at ih
  simp [erows,erow,U,ih]
  intro _
  omega
theorem oEp {l m:List Pe} (hl:l.length≤1000000∧m.length≤1000000) {c vc d vd:Nat} {fc fd:Bool} {M:Nat→AO} (hc:M c=.vec vc 2 fc (erows l)) (hd:M d=.vec vd 2 fd (erows m)) (n:Nat):callP EpF [.sl c vc 2 0 l.length,.sl d vd 2 0 m.length] M n=some (B (decide (l=m)),[]):=by
 have tk:List.take l.length (erows l)=erows l:=List.take_of_length_le (by simp [erows])
 have tm:List.take m.length (erows m)=erows m:=List.take_of_length_le (by simp [erows])
 have ll:(erows l).length=l.length:=by simp [erows]
 have lm:(erows m).length=m.length:=by simp [erows]
 exact callP_spec (ι:={x:List Pe×List Pe // x.1.length≤1000000∧x.2.length≤1000000}) (A:=fun x=>[.rd 2 (erows x.1.1),.rd 2 (erows x.1.2)]) (R:=fun x=>retOf [B (decide (x.1.1=x.1.2))]) ⟨(l,m),hl⟩ (by simp [hc,hd,tk,tm,ll,lm]) (by
  rintro ⟨⟨l',m'⟩,h'⟩ e
  simp only [List.cons.injEq,AV.rd.injEq,erows_inj,true_and,and_true] at e
  obtain ⟨rfl,rfl⟩:=e;rfl) (by simp)
theorem SaF_at {a b:Tb} (ha:tbOK a) (hb:tbOK b):SaF [TbV a,TbV b]=some (B (decide (a=b))):=by
 refine specF_eq (ι:={x:Tb×Tb // tbOK x.1∧tbOK x.2}) (A:=fun x=>[TbV x.1.1,TbV x.1.2]) (R:=fun x=>retOf [B (decide (x.1.1=x.1.2))]) ⟨(a,b),ha,hb⟩ fun j e=>?_
 obtain ⟨⟨a',b'⟩,h'⟩:=j
 simp only [List.cons.injEq,TbV_inj,and_true] at e
 obtain ⟨rfl,rfl⟩:=e;rfl
theorem oSa {a b:Tb} (ha:tbOK a) (hb:tbOK b) {avs:List AV} {M:Nat→AO} (hp:(peekVals M avs).map (List.map (nilV 2))=some [TbV a,TbV b]) (n:Nat):callP (fun avs=>SaF (avs.map (nilV 2))) avs M n=some (B (decide (a=b)),[]):=by
 unfold callP
 cases h:peekVals M avs with
 | none=>rw [h] at hp;simp at hp
 | some l =>
  rw [h] at hp
  simp only [Option.map_some,Option.some.injEq] at hp
  simp only [hp,SaF_at ha hb]
  simp
theorem tab2 {a b:Tb} {M:Nat→AO} {p vp q vq p' vp' q' vq':Nat} (h:OwT M a p vp q vq) (h':OwT M b p' vp' q' vq'):(peekVals M [TbS a p vp q vq,TbS b p' vp' q' vq']).map (List.map (nilV 2))=some [TbV a,TbV b]:=by
 rw [peek_tab h (rs:=[TbV b]) (peek_tab h' rfl)]
 simp [TbV,nilV,nilA]
theorem okA:tbOK aT:=by unfold tbOK ndOK;decide +kernel
theorem okB:tbOK bT:=by unfold tbOK ndOK;decide +kernel
theorem okH:tbOK hT:=by unfold tbOK ndOK;decide +kernel
theorem okS:tbOK sT:=by unfold tbOK ndOK;decide +kernel
theorem chkB':chk bT=0:=chkC_ok bC
theorem exaA:Exa TeA where
 ok:=teA
 w:=w0T
 new:=fun M n=>by
  have h:=cNe 10 M n
  rw [newA] at h
  exact h
 mis:=fun a va b vb f1 f2 M n h1 h2=>by
  have h:=oT2 (D:=fun t _=>tbOK t) (R:=fun t x=>retOf [I (missT t x).1,I (missT t x).2]) (t:=aT) (x:=70) okA (M:=M) ⟨⟨f1,h1⟩,f2,h2⟩ n rfl (by simp [retOf,openRet,openVals,openVal,openLeaves,openLeaf,U])
  rw [missA] at h
  exact h
 set:=fun a va b vb c vc f1 f2 f3 M n h1 h2 h3=>by
  have h:=oSt (R:=fun x=>retOf [TbO (setP x.1 x.2.1 x.2.2.1 x.2.2.2).1,I (setP x.1 x.2.1 x.2.2.1 x.2.2.2).2]) (x:=(aT,70,1305,[11,12])) ⟨okA,by decide,by decide,by decide⟩ (M:=M) ⟨⟨f1,h1⟩,f2,h2⟩ h3 n open_tab (by omega)
  simp only [setA] at h
  exact h
 sam1:=fun a va b vb fa fb c vc fc M n h1 h2 h3=>by
  have h:=oSa okB okB (avs:=[TbS bT a va b vb,.agg [I 10,.sl c vc 9 0 3,.v (.slice none 0 0)]]) (M:=M) (by
   rw [peek_tab (t:=bT) ⟨⟨fa,h1⟩,fb,h2⟩ (rs:=[.agg [I 10,.rd 9 (nrows bT.2.1),.v (.slice none 0 0)]]) (by simp [h3];rfl)]
   simp [TbV,nilV,nilA]
   exact ⟨rfl,rfl⟩) n
  rw [decide_eq_true rfl] at h
  exact h
 chk:=fun a va b vb fa fb M n h1 h2=>by
  have h:=oT1 (D:=tbOK) (R:=fun t=>retOf [I (chk t)]) okB (M:=M) ⟨⟨fa,h1⟩,fb,h2⟩ n rfl (by simp [retOf,openRet,openVals,openVal,openLeaves,openLeaf,U])
  rw [chkB'] at h
  exact h
 wl1:=fun a va b vb fa fb M n h1 h2=>by
  have h:=oT2 (D:=fun t _=>tbOK t) (R:=fun t x=>retOf [U (walkT t x).1,I (walkT t x).2.1,I (walkT t x).2.2]) (t:=bT) (x:=70) okB (M:=M) ⟨⟨fa,h1⟩,fb,h2⟩ n rfl (by simp [retOf,openRet,openVals,openVal,openLeaves,openLeaf,U])
  rw [walkB] at h
  exact h
 wl2:=fun a va b vb fa fb M n h1 h2=>by
  have h:=oT2 (D:=fun t _=>tbOK t) (R:=fun t x=>retOf [U (walkT t x).1,I (walkT t x).2.1,I (walkT t x).2.2]) (t:=bT) (x:=80) okB (M:=M) ⟨⟨fa,h1⟩,fb,h2⟩ n rfl (by simp [retOf,openRet,openVals,openVal,openLeaves,openLeaf,U])
  rw [walkB'] at h
  exact h
 clr:=fun a va b vb fa fb M n h1 h2=>by
  have h:=oT2 (D:=fun t _=>tbOK t∧t.2.1.length≤999000) (R:=fun t x=>retOf [TbO (clrP t x).1,U (clrP t x).2.1,.ow 1 (irows (clrP t x).2.2.1),I (clrP t x).2.2.2]) (t:=bT) (x:=70) ⟨okB,by decide⟩ (M:=M) ⟨⟨fa,h1⟩,fb,h2⟩ n open_clr (by omega)
  rw [clrB'] at h
  exact h
 sam2:=fun a va b vb fa fb a1 va1 b1 vb1 fa1 fb1 M n h1 h2 h3 h4=>by
  have h:=oSa okA okA (M:=M) (tab2 ⟨⟨fa,h1⟩,fb,h2⟩ ⟨⟨fa1,h3⟩,fb1,h4⟩) n
  rw [decide_eq_true rfl] at h
  exact h
 eq2:=fun c vc d vd fc fd M n h1 h2=>by
  have h:=oEi (l:=[12,11]) (m:=[12,11]) (by decide) h1 h2 n
  rw [decide_eq_true rfl] at h
  exact h
 seth:=fun a va b vb fa fb c vc fc M n h1 h2 h3=>by
  have h:=oSt (R:=fun x=>retOf [TbO (setH x.1 x.2.1 x.2.2.1 x.2.2.2).1,I (setH x.1 x.2.1 x.2.2.1 x.2.2.2).2]) (x:=(aT,9,4201,[11,12])) ⟨okA,by decide,by decide,by decide⟩ (M:=M) ⟨⟨fa,h1⟩,fb,h2⟩ h3 n open_tab (by omega)
  simp only [setHA] at h
  exact h
 spl:=fun a va b vb fa fb M n h1 h2=>by
  have h:=oT2 (D:=fun t _=>tbOK t∧t.2.1.length≤999000) (R:=fun t x=>retOf [TbO (splP t x).1,I (splP t x).2]) (t:=hT) (x:=9) ⟨okH,by decide⟩ (M:=M) ⟨⟨fa,h1⟩,fb,h2⟩ n open_tab (by omega)
  rw [splH] at h
  exact h
 wl3:=fun a va b vb fa fb M n h1 h2=>by
  have h:=oT2 (D:=fun t _=>tbOK t) (R:=fun t x=>retOf [U (walkT t x).1,I (walkT t x).2.1,I (walkT t x).2.2]) (t:=sT) (x:=75) okS (M:=M) ⟨⟨fa,h1⟩,fb,h2⟩ n rfl (by simp [retOf,openRet,openVals,openVal,openLeaves,openLeaf,U])
  rw [walkS] at h
  exact h
 hg1:=fun a va b vb fa fb M n h1 h2=>by
  have h:=oT2 (D:=fun t _=>tbOK t) (R:=fun t x=>retOf [B (hugeT t x)]) (t:=hT) (x:=9) okH (M:=M) ⟨⟨fa,h1⟩,fb,h2⟩ n rfl (by simp [retOf,openRet,openVals,openVal,openLeaves,openLeaf,U])
  rw [hugeH] at h
  exact h
 hg2:=fun a va b vb fa fb M n h1 h2=>by
  have h:=oT2 (D:=fun t _=>tbOK t) (R:=fun t x=>retOf [B (hugeT t x)]) (t:=sT) (x:=9) okS (M:=M) ⟨⟨fa,h1⟩,fb,h2⟩ n rfl (by simp [retOf,openRet,openVals,openVal,openLeaves,openLeaf,U])
  rw [hugeS] at h
  exact h
 frm:=fun a va b vb fa fb M n h1 h2=>by
  have h:=oT1 (D:=tbOK) (R:=fun t=>retOf [.ow 1 (irows (frmT t))]) (t:=hT) okH (M:=M) ⟨⟨fa,h1⟩,fb,h2⟩ n open_irow (by omega)
  rw [frmH] at h
  exact h
 eq3:=fun c vc d vd fc fd M n h1 h2=>by
  have h:=oEi (l:=[10,11,12]) (m:=[10,11,12]) (by decide) h1 h2 n
  rw [decide_eq_true rfl] at h
  exact h
 lst:=fun a va b vb fa fb M n h1 h2=>by
  have h:=oT1 (D:=tbOK) (R:=fun t=>retOf [.ow 2 (erows (lstT t))]) (t:=hT) okH (M:=M) ⟨⟨fa,h1⟩,fb,h2⟩ n open_erow (by omega)
  rw [lstH] at h
  exact h
 eqe:=fun c vc d vd fc fd M n h1 h2=>by
  have h:=oEp (l:=[(72,4201)]) (m:=[(72,4201)]) (by decide) h1 h2 n
  rw [decide_eq_true rfl] at h
  exact h
noncomputable def AwF:List AV→Option AV:=specF (ι:=Unit) (fun _=>[]) fun _=>retOf [B true]
theorem cAw (M:Nat→AO) (n:Nat):callP AwF [] M n=some (B true,[]):=callP_spec (ι:=Unit) (A:=fun _=>[]) (R:=fun _=>retOf [B true]) () rfl (fun _ _=>rfl) (by simp)
noncomputable def TeB:AX:=TeA.add 34 (callP AwF)
theorem teB:XOK Tryz.prog TeB:=xok_spec teA (s34 TeA exaA) (fun _=>trivial) Tryz.func34 (by kernel_rfl)
end Go.AM
namespace Go.AM
open Go Go.Proofs
def SamO (X:AX) (t:Tb):Prop:=∀ (a0 va0 b0 vb0:Nat) (fa0 fb0:Bool) (a1 va1 b1 vb1:Nat) (fa1 fb1:Bool) (M:Nat→AO) (n:Nat),M a0=.vec va0 9 fa0 (nrows t.2.1)→M b0=.vec vb0 2 fb0 (prows t.2.2)→M a1=.vec va1 9 fa1 (nrows t.2.1)→M b1=.vec vb1 2 fb1 (prows t.2.2) →
 X.call 31 [.agg [I t.1,.sl a0 va0 9 0 t.2.1.length,.sl b0 vb0 2 0 t.2.2.length],.agg [I t.1,.sl a1 va1 9 0 t.2.1.length,.sl b1 vb1 2 0 t.2.2.length]] M n=some (B true,[])
def EqiO (X:AX) (l:List Int):Prop:=∀ (c vc d vd:Nat) (fc fd:Bool) (M:Nat→AO) (n:Nat),M c=.vec vc 1 fc (irows l)→M d=.vec vd 1 fd (irows l)→X.call 46 [.sl c vc 1 0 l.length,.sl d vd 1 0 l.length] M n=some (B true,[])
def EqpO (X:AX) (l:List Pe):Prop:=∀ (c vc d vd:Nat) (fc fd:Bool) (M:Nat→AO) (n:Nat),M c=.vec vc 2 fc (erows l)→M d=.vec vd 2 fd (erows l)→X.call 43 [.sl c vc 2 0 l.length,.sl d vd 2 0 l.length] M n=some (B true,[])
theorem samO {X:AX} (h:X.call 31=callP fun avs=>SaF (avs.map (nilV 2))) {t:Tb} (ht:tbOK t):SamO X t:=fun a va b vb fa fb a1 va1 b1 vb1 fa1 fb1 M n h1 h2 h3 h4=>by
 have k:=oSa ht ht (M:=M) (tab2 ⟨⟨fa,h1⟩,fb,h2⟩ ⟨⟨fa1,h3⟩,fb1,h4⟩) n
 rw [decide_eq_true rfl] at k
 rw [h]
 exact k
theorem eqiO {X:AX} (h:X.call 46=callP EiF) {l:List Int} (hl:l.length≤1000000):EqiO X l:=fun c vc d vd fc fd M n h1 h2=>by
 have k:=oEi (l:=l) (m:=l) ⟨hl,hl⟩ h1 h2 n
 rw [decide_eq_true rfl] at k
 rw [h]
 exact k
theorem eqpO {X:AX} (h:X.call 43=callP EpF) {l:List Pe} (hl:l.length≤1000000):EqpO X l:=fun c vc d vd fc fd M n h1 h2=>by
 have k:=oEp (l:=l) (m:=l) ⟨hl,hl⟩ h1 h2 n
 rw [decide_eq_true rfl] at k
 rw [h]
 exact k
def tbF (t:Tb):Prop:=∀ n∈t.2.1,ndOK n
theorem tbF_ok {t:Tb} (h:tbF t) (hf:t.2.1.length≤80∧t.2.2.length≤70):tbOK t:=⟨h,by omega,by omega⟩
structure LawP (X:AX):Prop where
 ok:XOK Tryz.prog X
 w:X.W wT
 few:∀ (t:Tb) (M:Nat→AO) (n:Nat),X.call 33 [TbV t] M n=some (B (decide (t.2.1.length≤80∧t.2.2.length≤70)),[])
 aw:∀ (M:Nat→AO) (n:Nat),X.call 34 [] M n=some (B true,[])
 same:∀ t:Tb,tbOK t→SamO X t
 eqi:∀ l:List Int,l.length≤1000000→EqiO X l
 eqp:∀ l:List Pe,l.length≤1000000→EqpO X l
end Go.AM
namespace Go.AM
open Go
def shI:Sh:=.int .i64
def shL:Sh:=.sl [.int .i64]
theorem fitL_one {s:Sh} {xs:List AV} (h:FitL [s] xs):∃ a,xs=[a]∧Fit s a:=by
 match xs,h with
 | [a],h=>simp only [FitL] at h;exact ⟨a,rfl,h.1⟩
 | [],h=>simp [FitL] at h
 | _::_::_,h=>simp [FitL] at h
theorem fit_int {a:AV} (h:Fit shI a):∃ n,a=I n∧-9223372036854775808≤n∧n≤9223372036854775807:=by
 simp only [shI,Fit] at h
 obtain ⟨n,rfl,hw⟩:=h
 refine ⟨n,rfl,?_⟩
 simpa [Lit.wf,IntKind.min,IntKind.max,IntKind.signed,IntKind.bits] using hw
theorem rows_ints:∀ {xs:List (List AV)},(∀ e∈xs,FitL [shI] e)→∃ l,xs=irows l∧∀ x∈l,-9223372036854775808≤x∧x≤9223372036854775807
 | [],_=>⟨[],rfl,by simp⟩
 | e::r,h=>by
  obtain ⟨l,rfl,hl⟩:=rows_ints (xs:=r) fun e' he=>h e' (by simp [he])
  obtain ⟨a,rfl,ha⟩:=fitL_one (h e (by simp))
  obtain ⟨n,rfl,hn⟩:=fit_int ha
  refine ⟨n::l,rfl,fun x hx=>?_⟩
  rcases List.mem_cons.1 hx with rfl|hx
  ·exact hn
  ·exact hl x hx
theorem fit_ints {a:AV} (h:Fit shL a):∃ l,a=.rd 1 (irows l)∧l.length≤maxLen∧∀ x∈l,-9223372036854775808≤x∧x≤9223372036854775807:=by
 simp only [shL,Fit] at h
 obtain ⟨xs,rfl,hm,hx⟩:=h
 obtain ⟨l,rfl,hl⟩:=rows_ints hx
 exact ⟨l,rfl,by simpa using hm,hl⟩
theorem fitL_cons {s:Sh} {r:List Sh} {xs:List AV} (h:FitL (s::r) xs):∃ a ar,xs=a::ar∧Fit s a∧FitL r ar:=by
 cases xs with
 | nil=>simp [FitL] at h
 | cons a ar=>simp only [FitL] at h;exact ⟨a,ar,rfl,h.1,h.2⟩
theorem fitL_nil {xs:List AV} (h:FitL [] xs):xs=[]:=by cases xs with|nil=>rfl|cons a ar=>simp [FitL] at h
theorem arg_one {P:Program} {t:TypeId} {s:Sh} {a:AV} (hs:shapeOf P 10 t=some [s]) (h1:∀ fs,P.underlying t≠some (.struct fs)) (h2:∀ n e,P.underlying t≠some (.array n e)) (h:FitArg P t a):Fit s a:=by
 obtain ⟨sh,h3,h4⟩:=h
 rw [hs] at h3
 simp only [Option.some.injEq] at h3
 subst h3
 rcases h4 with ⟨⟨fs,hf⟩|⟨n,e,hf⟩,_⟩|⟨_,h5⟩
 ·exact absurd hf (h1 fs)
 ·exact absurd hf (h2 _ _)
 ·obtain ⟨b,hb,hf⟩:=fitL_one h5
  obtain rfl:a=b:=by simpa using hb
  exact hf
theorem arg_str {P:Program} {t:TypeId} {sh:List Sh} {a:AV} {fs:Array Field} (hs:shapeOf P 10 t=some sh) (h1:P.underlying t=some (.struct fs)) (h:FitArg P t a):∃ cs,a=.agg cs∧FitL sh cs:=by
 obtain ⟨sh',h3,h4⟩:=h
 rw [hs] at h3
 simp only [Option.some.injEq] at h3
 subst h3
 rcases h4 with ⟨_,cs,rfl,h5⟩|⟨h5,_⟩
 ·exact ⟨cs,rfl,h5⟩
 ·exact absurd h1 (h5.1 fs)
end Go.AM
namespace Go.AM
open Go Go.Proofs
theorem laid:laidOutB Tryz.prog=true:=by kernel_rfl
theorem owns:ownKnob Tryz.prog.godebug=none:=by kernel_rfl
def shQ:Sh:=.int .u64
theorem fit_u64 {a:AV} (h:Fit shQ a):∃ n:Nat,a=U n∧n<2^64:=by
 simp only [shQ,Fit] at h
 obtain ⟨n,rfl,hw⟩:=h
 have h2:0≤n∧n≤18446744073709551615:=by simpa [Lit.wf,IntKind.min,IntKind.max,IntKind.signed,IntKind.bits] using hw
 refine ⟨n.toNat,?_,by omega⟩
 unfold U
 rw [show ((n.toNat:Nat):Int)=n by omega]
theorem fit_words:∀ {k:Nat} {cs:List AV},FitL (List.replicate k shQ) cs→∃ ws:List Nat,cs=wcs ws∧ws.length=k∧∀ w∈ws,w<2^64
 | 0,cs,h=>by
  have:=fitL_nil h
  subst this
  exact ⟨[],rfl,rfl,by simp⟩
 | k+1,cs,h=>by
  rw [List.replicate_succ] at h
  obtain ⟨a,ar,rfl,ha,hr⟩:=fitL_cons h
  obtain ⟨w,rfl,hw⟩:=fit_u64 ha
  obtain ⟨ws,rfl,hl,hx⟩:=fit_words hr
  refine ⟨w::ws,rfl,by simp [hl],fun x hx'=>?_⟩
  rcases List.mem_cons.1 hx' with rfl|hx'
  ·exact hw
  ·exact hx x hx'
theorem rows_nd:∀ {xs:List (List AV)},(∀ e∈xs,FitL (shI::List.replicate 8 shQ) e)→∃ l,xs=nrows l∧∀ n∈l,ndOK n
 | [],_=>⟨[],rfl,by simp⟩
 | e::r,h=>by
  obtain ⟨l,rfl,hl⟩:=rows_nd (xs:=r) fun e' he=>h e' (by simp [he])
  obtain ⟨a,ar,rfl,ha,hr⟩:=fitL_cons (h e (by simp))
  obtain ⟨x,rfl,_⟩:=fit_int ha
  obtain ⟨ws,rfl,h8,hw⟩:=fit_words hr
  refine ⟨(x,ws)::l,rfl,fun n hn=>?_⟩
  rcases List.mem_cons.1 hn with rfl|hn
  ·exact ⟨h8,hw⟩
  ·exact hl n hn
theorem rows_dp:∀ {xs:List (List AV)},(∀ e∈xs,FitL [shI,shI] e)→∃ l,xs=prows l
 | [],_=>⟨[],rfl⟩
 | e::r,h=>by
  obtain ⟨l,rfl⟩:=rows_dp (xs:=r) fun e' he=>h e' (by simp [he])
  obtain ⟨a,ar,rfl,ha,hr⟩:=fitL_cons (h e (by simp))
  obtain ⟨b,rfl,hb⟩:=fitL_one hr
  obtain ⟨x,rfl,_⟩:=fit_int ha
  obtain ⟨y,rfl,_⟩:=fit_int hb
  exact ⟨(x,y)::l,rfl⟩
theorem shTab:shapeOf Tryz.prog 10 63=some [shI,.sl (shI::List.replicate 8 shQ),.sl [shI,shI]]:=by kernel_rfl
theorem shOp:shapeOf Tryz.prog 10 95=some [shI,shQ,shL]:=by kernel_rfl
theorem arg_tab {a:AV} (h:FitArg Tryz.prog 63 a):∃ t:Tb,a=TbV t∧tbF t:=by
 obtain ⟨cs,rfl,hf⟩:=arg_str shTab Tryz.underlying63 h
 obtain ⟨x,ar,rfl,ha,hr⟩:=fitL_cons hf
 obtain ⟨y,br,rfl,hb,hr2⟩:=fitL_cons hr
 obtain ⟨z,rfl,hc⟩:=fitL_one hr2
 obtain ⟨r,rfl,_⟩:=fit_int ha
 simp only [Fit] at hb hc
 obtain ⟨xs,rfl,_,hx⟩:=hb
 obtain ⟨ys,rfl,_,hy⟩:=hc
 obtain ⟨ns,rfl,hn⟩:=rows_nd hx
 obtain ⟨ds,rfl⟩:=rows_dp hy
 exact ⟨(r,ns,ds),rfl,hn⟩
abbrev Opp:=Int×Nat×List Int
def OpV (o:Opp):AV:=.agg [I o.1,U o.2.1,.rd 1 (irows o.2.2)]
theorem arg_op {a:AV} (h:FitArg Tryz.prog 95 a):∃ o:Opp,a=OpV o∧o.2.1<2^64:=by
 obtain ⟨cs,rfl,hf⟩:=arg_str shOp Tryz.underlying95 h
 obtain ⟨x,ar,rfl,ha,hr⟩:=fitL_cons hf
 obtain ⟨y,br,rfl,hb,hr2⟩:=fitL_cons hr
 obtain ⟨z,rfl,hc⟩:=fitL_one hr2
 obtain ⟨p,rfl,_⟩:=fit_int ha
 obtain ⟨w,rfl,hw⟩:=fit_u64 hb
 obtain ⟨l,rfl,_⟩:=fit_ints hc
 exact ⟨(p,w,l),rfl,hw⟩
theorem tab_op_F (avs:List AV) (h:FitArgs Tryz.prog [63,95] avs):specF (ι:={x:Tb×Opp // tbF x.1∧x.2.2.1<2^64}) (fun x=>[TbV x.1.1,OpV x.1.2]) (fun _=>retOf [B true]) avs=some (B true):=by
 match avs,h with
 | [a,b],h =>
  simp only [FitArgs] at h
  obtain ⟨t,rfl,ht⟩:=arg_tab h.1
  obtain ⟨x,rfl,hx⟩:=arg_op h.2.1
  exact specF_eq (A:=fun x:{x:Tb×Opp // tbF x.1∧x.2.2.1<2^64}=>[TbV x.1.1,OpV x.1.2]) (R:=fun _=>retOf [B true]) ⟨(t,x),ht,hx⟩ fun _ _=>rfl
 | [],h=>simp [FitArgs] at h
 | [_],h=>simp [FitArgs] at h
 | _::_::_::_,h=>simp [FitArgs] at h
end Go.AM
