/- A part of the proof: what functions of the program compute, by abstract execution of their code. Its theorems hold without further condition. -/
import Derived.Test.YtcfhmdljeeppfaaUTMm4
set_option linter.all false
namespace Go.AM
open Go Go.Proofs
set_option maxRecDepth 4000
noncomputable def EtF:List AV→Option AV:=specF (ι:={n:Nat // n<2^64}) (fun x=>[U x.1]) fun x=>retOf [EnV (decR x.1).1]
theorem cEt (w:Nat) (hw:w<2^64) (M:Nat→AO) (n:Nat):callP EtF [U w] M n=some (EnV (decR w).1,[]) :=
 callP_spec (ι:={n:Nat // n<2^64}) (A:=fun x=>[U x.1]) (R:=fun x=>retOf [EnV (decR x.1).1]) ⟨w,hw⟩ (by simp [U]) (by
  rintro ⟨w',h'⟩ e
  have:=u_inj e
  simp only at this
  subst this;rfl) (by simp [EnV])
noncomputable def Te9:AX:=Te8.add 143 (callP EtF)
theorem te9:XOK Try.prog Te9:=xok_spec te8 (s143 Te8 te8 w0T (fun n h M k=>cDe n h M k)) (fun _=>by simp [retOf,AV.flat,AV.flatV,AV.flat1,EnV]) Try.func143 (by kernel_rfl)
noncomputable def Te10:AX:=Te9.add 46 (callP EtF)
theorem te10:XOK Try.prog Te10:=xok_spec te9 (s46 Te9 te9 w0T (fun n h M k=>cDe n h M k)) (fun _=>by simp [retOf,AV.flat,AV.flatV,AV.flat1,EnV]) Try.func46 (by kernel_rfl)
noncomputable def IfF:List AV→Option AV:=specF (ι:=Int) (fun x=>[I x]) fun x=>retOf [B (decide (0≤x∧x≤4294967295))]
theorem cIf (x:Int) (M:Nat→AO) (n:Nat):callP IfF [I x] M n=some (B (decide (0≤x∧x≤4294967295)),[]) :=
 callP_spec (ι:=Int) (A:=fun x=>[I x]) (R:=fun x=>retOf [B (decide (0≤x∧x≤4294967295))]) x (by simp) (by
  intro j e
  simp at e;subst e;rfl) (by simp)
noncomputable def Te11:AX:=Te10.add 119 (callP IfF)
theorem te11:XOK Try.prog Te11:=xok_spec te10 (s119 Te10 te10 ) (fun _=>trivial) Try.func119 (by kernel_rfl)
noncomputable def FewF:List AV→Option AV:=specF (ι:=Tb) (fun x=>[TbV x]) fun x=>retOf [B (decide (x.2.1.length≤80∧x.2.2.length≤70))]
theorem cFew (t:Tb) (M:Nat→AO) (n:Nat):callP FewF [TbV t] M n=some (B (decide (t.2.1.length≤80∧t.2.2.length≤70)),[]) :=
 callP_spec (ι:=Tb) (A:=fun x=>[TbV x]) (R:=fun x=>retOf [B (decide (x.2.1.length≤80∧x.2.2.length≤70))]) t (by simp [TbV]) (by
  intro j e
  simp only [List.cons.injEq,TbV_inj,and_true] at e;subst e;rfl) (by simp)
noncomputable def Te12:AX:=Te11.add 19 (callP FewF)
theorem te12:XOK Try.prog Te12:=xok_spec te11 (s19 Te11 te11 ) (fun _=>trivial) Try.func19 (by kernel_rfl)
noncomputable def DigF:List AV→Option AV:=specF (ι:={x:Nat×Nat // x.1<512∧x.2≤2}) (fun x=>[I x.1.1,I x.1.2]) fun x=>retOf [I (dig x.1.1 x.1.2)]
theorem cDig (p l:Nat) (h1:p<512) (h2:l≤2) (M:Nat→AO) (n:Nat):callP DigF [I p,I l] M n=some (I (dig p l),[]) :=
 callP_spec (ι:={x:Nat×Nat // x.1<512∧x.2≤2}) (A:=fun x=>[I x.1.1,I x.1.2]) (R:=fun x=>retOf [I (dig x.1.1 x.1.2)]) ⟨(p,l),h1,h2⟩ (by simp) (by
  rintro ⟨⟨p',l'⟩,h'⟩ e
  simp only [List.cons.injEq,I,AV.v.injEq,Value.int.injEq,true_and,and_true,Int.ofNat_inj] at e
  obtain ⟨rfl,rfl⟩:=e;rfl) (by simp)
noncomputable def DgtF:List AV→Option AV:=specF (ι:={x:Nat×Nat // x.1<512∧x.2≤2}) (fun x=>[I x.1.1,I x.1.2]) fun x=>retOf [I (dgt x.1.1 x.1.2)]
theorem cDgt (p l:Nat) (h1:p<512) (h2:l≤2) (M:Nat→AO) (n:Nat):callP DgtF [I p,I l] M n=some (I (dgt p l),[]) :=
 callP_spec (ι:={x:Nat×Nat // x.1<512∧x.2≤2}) (A:=fun x=>[I x.1.1,I x.1.2]) (R:=fun x=>retOf [I (dgt x.1.1 x.1.2)]) ⟨(p,l),h1,h2⟩ (by simp) (by
  rintro ⟨⟨p',l'⟩,h'⟩ e
  simp only [List.cons.injEq,I,AV.v.injEq,Value.int.injEq,true_and,and_true,Int.ofNat_inj] at e
  obtain ⟨rfl,rfl⟩:=e;rfl) (by simp)
noncomputable def Te13:AX:=Te12.add 108 (callP DigF)
theorem te13:XOK Try.prog Te13:=xok_spec te12 (s108 Te12 te12 ) (fun _=>trivial) Try.func108 (by kernel_rfl)
noncomputable def SuF:List AV→Option AV:=specF (ι:=En×Nat) (fun x=>[EnV x.1,I x.2]) fun x=>retOf [B (suitB x.1 x.2)]
theorem cSu (e:En) (l:Nat) (M:Nat→AO) (n:Nat):callP SuF [EnV e,I l] M n=some (B (suitB e l),[]) :=
 callP_spec (ι:=En×Nat) (A:=fun x=>[EnV x.1,I x.2]) (R:=fun x=>retOf [B (suitB x.1 x.2)]) (e,l) (by simp [EnV]) (by
  rintro ⟨e',l'⟩ e
  simp only [List.cons.injEq,EnV_inj,I,AV.v.injEq,Value.int.injEq,true_and,and_true,Int.ofNat_inj] at e
  obtain ⟨rfl,rfl⟩:=e;rfl) (by simp)
noncomputable def Te14:AX:=Te13.add 70 (callP SuF)
theorem te14:XOK Try.prog Te14:=xok_spec te13 (s70 Te13 te13 w0T) (fun _=>trivial) Try.func70 (by kernel_rfl)
noncomputable def Te15:AX:=Te14.add 110 (callP SuF)
theorem te15:XOK Try.prog Te15:=xok_spec te14 (s110 Te14 te14 w0T) (fun _=>trivial) Try.func110 (by kernel_rfl)
noncomputable def FiF:List AV→Option AV:=specF (ι:={x:Tb×Int // tbOK x.1}) (fun x=>[TbV x.1.1,I x.1.2]) fun x=>retOf [I (fstG (fun n=>decide (n.1=x.1.2)) x.1.1.2.1)]
theorem cFi (t:Tb) (x:Int) (ht:tbOK t) (M:Nat→AO) (n:Nat):callP FiF [TbV t,I x] M n=some (I (fstG (fun n:Nd=>decide (n.1=x)) t.2.1),[]):=cT2 (D:=fun t _=>tbOK t) (R:=fun t x=>retOf [I (fstG (fun n:Nd=>decide (n.1=x)) t.2.1)]) ht M n rfl (by simp [retOf,openRet,openVals,openVal,openLeaves,openLeaf,stV,srow,U,TbO])
noncomputable def Te16:AX:=Te15.add 83 (callP FiF)
theorem te16:XOK Try.prog Te16:=xok_spec te15 (s83 Te15 te15 ) (fun _=>trivial) Try.func83 (by kernel_rfl)
noncomputable def DpF:List AV→Option AV:=specF (ι:={x:Tb×Int // tbOK x.1}) (fun x=>[TbV x.1.1,I x.1.2]) fun x=>retOf [I (fstG (fun n=>decide (n.1=x.1.2)) x.1.1.2.2)]
theorem cDp (t:Tb) (x:Int) (ht:tbOK t) (M:Nat→AO) (n:Nat):callP DpF [TbV t,I x] M n=some (I (fstG (fun n:Dp=>decide (n.1=x)) t.2.2),[]):=cT2 (D:=fun t _=>tbOK t) (R:=fun t x=>retOf [I (fstG (fun n:Dp=>decide (n.1=x)) t.2.2)]) ht M n rfl (by simp [retOf,openRet,openVals,openVal,openLeaves,openLeaf,stV,srow,U,TbO])
noncomputable def Te17:AX:=Te16.add 125 (callP DpF)
theorem te17:XOK Try.prog Te17:=xok_spec te16 (s125 Te16 te16 ) (fun _=>trivial) Try.func125 (by kernel_rfl)
noncomputable def RaF:List AV→Option AV:=specF (ι:={x:Tb // tbOK x}) (fun x=>[TbV x.1]) fun x=>retOf [B (rngB x.1)]
theorem cRa (t:Tb) (ht:tbOK t) (M:Nat→AO) (n:Nat):callP RaF [TbV t] M n=some (B (rngB t),[]):=cT1 (D:=tbOK) (R:=fun t=>retOf [B (rngB t)]) ht M n rfl (by simp [retOf,openRet,openVals,openVal,openLeaves,openLeaf,stV,srow,U,TbO])
noncomputable def Te18:AX:=Te17.add 80 (callP RaF)
theorem te18:XOK Try.prog Te18:=xok_spec te17 (s80 Te17 te17 ) (fun _=>trivial) Try.func80 (by kernel_rfl)
noncomputable def OrF:List AV→Option AV:=specF (ι:={x:Tb // tbOK x}) (fun x=>[TbV x.1]) fun x=>retOf [B (ascB x.1)]
theorem cOr (t:Tb) (ht:tbOK t) (M:Nat→AO) (n:Nat):callP OrF [TbV t] M n=some (B (ascB t),[]):=cT1 (D:=tbOK) (R:=fun t=>retOf [B (ascB t)]) ht M n rfl (by simp [retOf,openRet,openVals,openVal,openLeaves,openLeaf,stV,srow,U,TbO])
noncomputable def Te19:AX:=Te18.add 81 (callP OrF)
theorem te19:XOK Try.prog Te19:=xok_spec te18 (s81 Te18 te18 w0T) (fun _=>trivial) Try.func81 (by kernel_rfl)
noncomputable def TwF:List AV→Option AV:=specF (ι:={x:Tb // tbOK x}) (fun x=>[TbV x.1]) fun x=>retOf [B (twB x.1)]
theorem cTw (t:Tb) (ht:tbOK t) (M:Nat→AO) (n:Nat):callP TwF [TbV t] M n=some (B (twB t),[]):=cT1 (D:=tbOK) (R:=fun t=>retOf [B (twB t)]) ht M n rfl (by simp [retOf,openRet,openVals,openVal,openLeaves,openLeaf,stV,srow,U,TbO])
noncomputable def Te20:AX:=Te19.add 82 (callP TwF)
theorem te20:XOK Try.prog Te20:=xok_spec te19 (s82 Te19 te19 w0T (fun t f h M n=>cFi t f h M n)) (fun _=>trivial) Try.func82 (by kernel_rfl)
noncomputable def IxF:List AV→Option AV:=specF (ι:={x:Tb // tbOK x}) (fun x=>[TbV x.1]) fun x=>retOf [.om 1 (idxE x.1.2.1 x.1.2.1.length)]
theorem cIx (t:Tb) (ht:tbOK t) (M:Nat→AO) (n:Nat):callP IxF [TbV t] M n=some (.mp n 1,[(n,.map 1 1 (idxE t.2.1 t.2.1.length))]):=cT1 (D:=tbOK) (R:=fun t=>retOf [.om 1 (idxE t.2.1 t.2.1.length)]) ht M n rfl (by simp [retOf,openRet,openVals,openVal,openLeaves,openLeaf,stV,srow,U,TbO])
noncomputable def Te21:AX:=Te20.add 68 (callP IxF)
theorem te21:XOK Try.prog Te21:=xok_spec te20 (s68 Te20 te20 w0T) (fun x=>idxE_pl) Try.func68 (by kernel_rfl)
noncomputable def NuF:List AV→Option AV:=specF (ι:={x:Tb // tbOK x}) (fun x=>[TbV x.1]) fun x=>retOf [I (numB x.1)]
theorem cNu (t:Tb) (ht:tbOK t) (M:Nat→AO) (n:Nat):callP NuF [TbV t] M n=some (I (numB t),[]):=cT1 (D:=tbOK) (R:=fun t=>retOf [I (numB t)]) ht M n rfl (by simp [retOf,openRet,openVals,openVal,openLeaves,openLeaf,stV,srow,U,TbO])
noncomputable def Te22:AX:=Te21.add 67 (callP NuF)
theorem te22:XOK Try.prog Te22:=xok_spec te21 (s67 Te21 te21 w0T (fun x M n=>cIf x M n) (fun t h M n=>cIx t h M n)) (fun _=>trivial) Try.func67 (by kernel_rfl)
noncomputable def Te23:AX:=Te22.add 69 (callG (ckS 0))
theorem te23:XOK Try.prog Te23:=xok_putM te22 (by kernel_rfl) (.inl ⟨(s69_0 Te22 te22 w0T (fun n h M k=>cDe n h M k) (fun e l M n=>cSu e l M n)).callG,body_ok _ Try.func69 (by kernel_rfl)⟩) fun _ _ _ _ h=>callG_keys h
noncomputable def Te24:AX:=Te23.add 69 (callG (ckS 1))
theorem te24:XOK Try.prog Te24:=xok_putM te23 (by kernel_rfl) (.inl ⟨(s69_1 Te23 te23 w0T (fun n h M k=>cDe n h M k) (fun e l M n=>cSu e l M n) rfl).callG,body_ok _ Try.func69 (by kernel_rfl)⟩) fun _ _ _ _ h=>callG_keys h
noncomputable def Te25:AX:=Te24.add 69 (callG (ckS 2))
theorem te25:XOK Try.prog Te25:=xok_putM te24 (by kernel_rfl) (.inl ⟨(s69_2 Te24 te24 w0T (fun n h M k=>cDe n h M k) (fun e l M n=>cSu e l M n) rfl).callG,body_ok _ Try.func69 (by kernel_rfl)⟩) fun _ _ _ _ h=>callG_keys h
noncomputable def Te26:AX:=Te25.add 120 (callP FIxB)
theorem te26:XOK Try.prog Te26:=xok_spec te25 (s120 Te25 te25 ) (fun _=>trivial) Try.func120 (by kernel_rfl)
noncomputable def Te27:AX:=Te26.add 71 (callP FCtB)
theorem te27:XOK Try.prog Te27:=xok_spec te26 (s71 Te26 te26 rfl) (fun _=>trivial) Try.func71 (by kernel_rfl)
noncomputable def Te28:AX:=Te27.add 63 (callP FIxI)
theorem te28:XOK Try.prog Te28:=xok_spec te27 (s63 Te27 te27 ) (fun _=>trivial) Try.func63 (by kernel_rfl)
noncomputable def Te29:AX:=Te28.add 25 (callP fun avs=>FCtI (avs.map (nilV 1)))
theorem te29:XOK Try.prog Te29:=xok_specn te28 1 (s25 Te28 te28 rfl) (fun _=>trivial) Try.func25 (by kernel_rfl)
noncomputable def ChF:List AV→Option AV:=specF (ι:={x:Tb // tbOK x}) (fun x=>[TbV x.1]) fun x=>retOf [I (chk x.1)]
theorem cCh (t:Tb) (ht:tbOK t) (M:Nat→AO) (n:Nat):callP ChF [TbV t] M n=some (I (chk t),[]):=cT1 (D:=tbOK) (R:=fun t=>retOf [I (chk t)]) ht M n rfl (by simp [retOf,openRet,openVals,openVal,openLeaves,openLeaf,stV,srow,U,TbO])
noncomputable def Te30:AX:=Te29.add 28 (callP ChF)
theorem te30:XOK Try.prog Te30:=xok_spec te29 (s28 Te29 te29 w0T (fun t h M n=>cNu t h M n) (fun t h M n=>cIx t h M n) rfl rfl) (fun _=>trivial) Try.func28 (by kernel_rfl)
noncomputable def Te31:AX:=Te30.add 84 (callG (rwS 0))
theorem te31:XOK Try.prog Te31:=xok_putM te30 (by kernel_rfl) (.inl ⟨(s84_0 Te30 te30 w0T (fun n h M k=>cDe n h M k) (fun e l M n=>cSu e l M n) (fun t f h M n=>cFi t f h M n) (fun t f h M n=>cDp t f h M n)).callG,body_ok _ Try.func84 (by kernel_rfl)⟩) fun _ _ _ _ h=>callG_keys h
noncomputable def Te32:AX:=Te31.add 84 (callG (rwS 1))
theorem te32:XOK Try.prog Te32:=xok_putM te31 (by kernel_rfl) (.inl ⟨(s84_1 Te31 te31 w0T (fun n h M k=>cDe n h M k) (fun e l M n=>cSu e l M n) (fun t f h M n=>cFi t f h M n) (fun t f h M n=>cDp t f h M n) rfl).callG,body_ok _ Try.func84 (by kernel_rfl)⟩) fun _ _ _ _ h=>callG_keys h
noncomputable def Te33:AX:=Te32.add 84 (callG (rwS 2))
theorem te33:XOK Try.prog Te33:=xok_putM te32 (by kernel_rfl) (.inl ⟨(s84_2 Te32 te32 w0T (fun n h M k=>cDe n h M k) (fun e l M n=>cSu e l M n) (fun t f h M n=>cFi t f h M n) (fun t f h M n=>cDp t f h M n) rfl).callG,body_ok _ Try.func84 (by kernel_rfl)⟩) fun _ _ _ _ h=>callG_keys h
theorem s35_c (X:AX) (hX:XOK Try.prog X) (hw:X.W wT) (hra:∀ t:Tb,tbOK t→∀ M n,X.call 80 [TbV t] M n=some (B (rngB t),[])) (hor:∀ t:Tb,tbOK t→∀ M n,X.call 81 [TbV t] M n=some (B (ascB t),[]))
  (htw:∀ t:Tb,tbOK t→∀ M n,X.call 82 [TbV t] M n=some (B (twB t),[])) (hfi:∀ (t:Tb) f,tbOK t→∀ M n,X.call 83 [TbV t,I f] M n=some (I (fstG (fun n=>decide (n.1=f)) t.2.1),[]))
  (hwa:X.call 84=callG (rwS 2)):PSound Try.prog 35 ChF:=by
 have h:=s35 X hX hw hra hor htw hfi hwa
 have e:(fun x:{x:Tb // tbOK x}=>retOf [I (chkR x.1)])=fun x=>retOf [I (chk x.1)]:=funext fun x=>by rw [chkR_eq x.2]
 rw [e] at h
 exact h
noncomputable def Te34:AX:=Te33.add 35 (callP ChF)
theorem te34:XOK Try.prog Te34:=xok_spec te33 (s35_c Te33 te33 w0T (fun t h M n=>cRa t h M n) (fun t h M n=>cOr t h M n) (fun t h M n=>cTw t h M n) (fun t f h M n=>cFi t f h M n) rfl) (fun _=>trivial) Try.func35 (by kernel_rfl)
noncomputable def Te35:AX:=Te34.add 138 (callP DgtF)
theorem te35:XOK Try.prog Te35:=xok_spec te34 (s138 Te34 te34 w0T) (fun _=>trivial) Try.func138 (by kernel_rfl)
noncomputable def PaF:List AV→Option AV:=specF (ι:={x:Tb×Nat // ptO x.1 x.2}) (fun x=>[TbV x.1.1,I x.1.2]) fun x=>retOf [.ow 3 (srows (ptL x.1.1 x.1.2))]
theorem cPa (t:Tb) (p:Nat) (h:ptO t p) (M:Nat→AO) (n:Nat):callP PaF [TbV t,I p] M n=some (.sl n 1 3 0 (ptL t p).length,[(n,.vec 1 3 false (srows (ptL t p)))]):=cT3 (D:=ptO) (R:=fun t p=>retOf [.ow 3 (srows (ptL t p))]) (k:=n+1) h M n (by simp [retOf,openRet,openVal,openLeaf,srows]) (by omega)
noncomputable def Te36:AX:=Te35.add 121 (callP PaF)
theorem te36:XOK Try.prog Te36:=xok_spec te35 (s121 Te35 te35 w0T (fun t h M n=>cIx t h M n) (fun p l h1 h2 M n=>cDgt p l h1 h2 M n) (fun w h M n=>cEt w h M n)) (fun x=>srow_pl) Try.func121 (by kernel_rfl)
noncomputable def LaF:List AV→Option AV:=specF (ι:={x:Tb×Nat // ptO x.1 x.2}) (fun x=>[TbV x.1.1,I x.1.2]) fun x=>retOf [stV (lsT x.1.1 x.1.2)]
theorem cLa (t:Tb) (p:Nat) (h:ptO t p) (M:Nat→AO) (n:Nat):callP LaF [TbV t,I p] M n=some (stV (lsT t p),[]):=cT3 (D:=ptO) (R:=fun t p=>retOf [stV (lsT t p)]) h M n rfl (by simp [retOf,openRet,openVals,openVal,openLeaves,openLeaf,stV,srow,U,TbO])
noncomputable def Te37:AX:=Te36.add 72 (callP LaF)
theorem te37:XOK Try.prog Te37:=xok_spec te36 (s72 Te36 te36 w0T (fun t p h M n=>cPa t p h M n)) (fun x=>by simp [retOf,AV.flat,AV.flatV,AV.flat1,U,stV,srow]) Try.func72 (by kernel_rfl)
noncomputable def StF:List AV→Option AV:=specF (ι:={x:Tb×Nat // ptO x.1 x.2}) (fun x=>[TbV x.1.1,I x.1.2]) fun x=>retOf [I (lsT x.1.1 x.1.2).1,I (lsT x.1.1 x.1.2).2.1]
theorem cSt (t:Tb) (p:Nat) (h:ptO t p) (M:Nat→AO) (n:Nat):callP StF [TbV t,I p] M n=some (.tup [I (lsT t p).1,I (lsT t p).2.1],[]):=cT3 (D:=ptO) (R:=fun t p=>retOf [I (lsT t p).1,I (lsT t p).2.1]) h M n rfl (by simp [retOf,openRet,openVals,openVal,openLeaves,openLeaf,stV,srow,U,TbO])
noncomputable def Te38:AX:=Te37.add 107 (callP StF)
theorem te38:XOK Try.prog Te38:=xok_spec te37 (s107 Te37 te37 w0T (fun t f h M n=>cFi t f h M n) (fun p l h1 h2 M n=>cDig p l h1 h2 M n) (fun w h M n=>cEt w h M n)) (fun _=>by simp [retOf,AV.flat,AV.flatV,AV.flat1,U]) Try.func107 (by kernel_rfl)
noncomputable def CkF:List AV→Option AV:=specF (ι:={x:Tb×Int×Int // tbOK x.1}) (fun x=>[TbV x.1.1,I x.1.2.1,I x.1.2.2]) fun x=>retOf [I (ckd x.1.1 x.1.2.1 x.1.2.2)]
theorem cCk (t:Tb) (ht:tbOK t) (a b:Int) (M:Nat→AO) (n:Nat):callP CkF [TbV t,I a,I b] M n=some (I (ckd t a b),[]) :=
 callP_spec (ι:={x:Tb×Int×Int // tbOK x.1}) (A:=fun x=>[TbV x.1.1,I x.1.2.1,I x.1.2.2]) (R:=fun x=>retOf [I (ckd x.1.1 x.1.2.1 x.1.2.2)]) ⟨(t,a,b),ht⟩ (by simp [TbV]) (by
  rintro ⟨⟨t',a',b'⟩,h'⟩ e
  simp only [List.cons.injEq,TbV_inj,I,AV.v.injEq,Value.int.injEq,true_and,and_true] at e
  obtain ⟨rfl,rfl,rfl⟩:=e;rfl) (by simp)
noncomputable def Te39:AX:=Te38.add 104 (callP CkF)
theorem te39:XOK Try.prog Te39:=xok_spec te38 (s104 Te38 te38 w0T (fun t h M n=>cCh t h M n)) (fun _=>trivial) Try.func104 (by kernel_rfl)
noncomputable def WaF:List AV→Option AV:=specF (ι:={x:Tb×Int // tbOK x.1}) (fun x=>[TbV x.1.1,I x.1.2]) fun x=>retOf [U (walkT x.1.1 x.1.2).1,I (walkT x.1.1 x.1.2).2.1,I (walkT x.1.1 x.1.2).2.2]
theorem cWa (t:Tb) (x:Int) (ht:tbOK t) (M:Nat→AO) (n:Nat):callP WaF [TbV t,I x] M n=some (.tup [U (walkT t x).1,I (walkT t x).2.1,I (walkT t x).2.2],[]):=cT2 (D:=fun t _=>tbOK t) (R:=fun t x=>retOf [U (walkT t x).1,I (walkT t x).2.1,I (walkT t x).2.2]) ht M n rfl (by simp [retOf,openRet,openVals,openVal,openLeaves,openLeaf,stV,srow,U,TbO])
noncomputable def Te40:AX:=Te39.add 58 (callP WaF)
theorem te40:XOK Try.prog Te40:=xok_spec te39 (s58 Te39 te39 w0T (fun t h n lim M k=>cCk t h n lim M k) (fun t p h M n=>cLa t p h M n)) (fun _=>by simp [retOf,AV.flat,AV.flatV,AV.flat1,U]) Try.func58 (by kernel_rfl)
noncomputable def Te41:AX:=Te40.add 78 (callP WaF)
theorem te41:XOK Try.prog Te41:=xok_spec te40 (s78 Te40 te40 w0T (fun t h M n=>cCh t h M n) (fun t p h M n=>cSt t p h M n) (fun p l h1 h2 M n=>cDig p l h1 h2 M n)) (fun _=>by simp [retOf,AV.flat,AV.flatV,AV.flat1,U]) Try.func78 (by kernel_rfl)
noncomputable def ClF:List AV→Option AV:=specF (ι:={x:Tb // tbOK x}) (fun x=>[TbV x.1]) fun x=>retOf [TbO x.1]
theorem cCl (t:Tb) (ht:tbOK t) (M:Nat→AO) (n:Nat):callP ClF [TbV t] M n=some (TbC t n,[(n,.vec 1 9 false (nrows t.2.1)),(n+1,.vec 1 2 false (prows t.2.2))]):=cT1 (D:=tbOK) (R:=fun t=>retOf [TbO t]) (k:=n+2) ht M n (by simp [retOf,openRet,openVal,openLeaves,openLeaf,TbO,TbC]) (by omega)
noncomputable def Te42:AX:=Te41.add 136 (callC FClN)
theorem te42:XOK Try.prog Te42:=xok_add te41 (.inl ⟨PSound.callC (s136 Te41 te41 w0T),body_ok _ Try.func136 (by kernel_rfl)⟩) fun _ _ _ _ h b hb=>callC_keys h b hb
noncomputable def Te43:AX:=Te42.add 137 (callC FClD)
theorem te43:XOK Try.prog Te43:=xok_add te42 (.inl ⟨PSound.callC (s137 Te42 te42 w0T),body_ok _ Try.func137 (by kernel_rfl)⟩) fun _ _ _ _ h b hb=>callC_keys h b hb
noncomputable def Te44:AX:=Te43.add 105 (callP ClF)
theorem te44:XOK Try.prog Te44:=xok_spec te43 (s105 Te43 te43 w0T rfl rfl) (fun x=>TbO_fl) Try.func105 (by kernel_rfl)
theorem olaR {X:AX} (h:X.call 72=callP LaF):OwnR X 72 (fun t x=>0≤x∧ptO t x.toNat) fun t x=>stV (lsT t x.toNat):=fun r ns ds x hd a va b vb f1 f2 M n h1 h2=>by
 rw [h]
 obtain ⟨k,rfl⟩:∃ k:Nat,x=k:=⟨x.toNat,by omega⟩
 exact oT3 (D:=ptO) (R:=fun t p=>retOf [stV (lsT t p)]) (t:=(r,ns,ds)) hd.2 ⟨⟨f1,h1⟩,f2,h2⟩ n rfl (by simp [retOf,openRet,openVals,openVal,openLeaves,openLeaf,stV,srow,U,TbO])
noncomputable def Te45:AX:=Te44.add 106 (callG puS)
theorem te45:XOK Try.prog Te45:=xok_putM te44 (by kernel_rfl) (.inl ⟨(s106 Te44 te44 w0T (olaR rfl) (fun p l h1 h2 M n=>cDgt p l h1 h2 M n)).callG,body_ok _ Try.func106 (by kernel_rfl)⟩) fun _ _ _ _ h=>callG_keys h
noncomputable def FhF:List AV→Option AV:=specF (ι:={x:UsD×Nat // tbOK x.1.1∧ascN x.1.1.2.1∧x.1.2.length≤1000}) (fun x=>[TbV x.1.1.1,.rd 1 (irows x.1.1.2),I x.1.2]) fun x=>retOf [B (decide (x.1.1.2.length=x.1.2)&&usB x.1.1.1.2.1 x.1.1.1.2.2 x.1.1.2)]
theorem cFh (t:Tb) (fs:List Int) (m:Nat) (ht:tbOK t) (ha:ascN t.2.1) (hl:fs.length≤1000) (M:Nat→AO) (n:Nat):callP FhF [TbV t,.rd 1 (irows fs),I m] M n=some (B (decide (fs.length=m)&&usB t.2.1 t.2.2 fs),[]) :=
 callP_spec (ι:={x:UsD×Nat // tbOK x.1.1∧ascN x.1.1.2.1∧x.1.2.length≤1000}) (A:=fun x=>[TbV x.1.1.1,.rd 1 (irows x.1.1.2),I x.1.2]) (R:=fun x=>retOf [B (decide (x.1.1.2.length=x.1.2)&&usB x.1.1.1.2.1 x.1.1.1.2.2 x.1.1.2)]) ⟨((t,fs),m),ht,ha,hl⟩ (by simp [TbV]) (by
  rintro ⟨⟨⟨t',fs'⟩,m'⟩,h'⟩ e
  simp only [List.cons.injEq,TbV_inj,I,AV.v.injEq,Value.int.injEq,true_and,and_true,AV.rd.injEq,irows_inj,Int.ofNat_inj] at e
  obtain ⟨rfl,rfl,rfl⟩:=e;rfl) (by simp)
noncomputable def SaF:List AV→Option AV:=specF (ι:={x:Tb×Tb // tbOK x.1∧tbOK x.2}) (fun x=>[TbV x.1.1,TbV x.1.2]) fun x=>retOf [B (decide (x.1.1=x.1.2))]
noncomputable def Te46:AX:=Te45.add 22 (callP fun avs=>SaF (avs.map (nilV 2)))
theorem te46:XOK Try.prog Te46:=xok_specn te45 2 (s22 Te45 te45 w0T rfl rfl) (fun _=>trivial) Try.func22 (by kernel_rfl)
noncomputable def EiF:List AV→Option AV:=specF (ι:={x:List Int×List Int // x.1.length≤1000000∧x.2.length≤1000000}) (fun x=>[.rd 1 (irows x.1.1),.rd 1 (irows x.1.2)]) fun x=>retOf [B (decide (x.1.1=x.1.2))]
noncomputable def Te47:AX:=Te46.add 16 (callP EiF)
theorem te47:XOK Try.prog Te47:=xok_spec te46 (s16 Te46 te46 w0T) (fun _=>trivial) Try.func16 (by kernel_rfl)
noncomputable def Te48:AX:=Te47.add 102 (sortC)
theorem te48:XOK Try.prog Te48:=xok_putM te47 (by kernel_rfl) (.inl ⟨sortI_ok,body_ok _ Try.func102 (by kernel_rfl)⟩) fun _ _ _ _ h=>sortI_keys h
noncomputable def Te49:AX:=Te48.add 45 (callG siS)
theorem te49:XOK Try.prog Te49:=xok_putM te48 (by kernel_rfl) (.inl ⟨(s45 Te48 te48 w0T rfl).callG,body_ok _ Try.func45 (by kernel_rfl)⟩) fun _ _ _ _ h=>callG_keys h
noncomputable def LiF:List AV→Option AV:=specF (ι:={x:Tb // tbOK x}) (fun x=>[TbV x.1]) fun x=>retOf [.ow 2 (erows (lstT x.1))]
noncomputable def Te50:AX:=Te49.add 29 (callP LiF)
theorem te50:XOK Try.prog Te50:=xok_spec te49 (s29 Te49 te49 w0T (fun t h M n=>cCh t h M n) (fun t p h M n=>cLa t p h M n)) (fun x=>erow_pl) Try.func29 (by kernel_rfl)
noncomputable def Te51:AX:=Te50.add 52 (callP LiF)
theorem te51:XOK Try.prog Te51:=xok_spec te50 (s52 Te50 te50 w0T (fun t h M n=>cCh t h M n) (fun t p h M n=>cSt t p h M n) (fun p l h1 h2 M n=>cDig p l h1 h2 M n)) (fun x=>erow_pl) Try.func52 (by kernel_rfl)
theorem octR {X:AX} (h:X.call 25=callP fun avs=>FCtI (avs.map (nilV 1))):OwnI X:=by
 have key:∀ (fr:List Int) (x:Int),fr.length≤1000→FCtI [.rd 1 (irows fr),I x]=some (B (decide (x∈fr))):=fun fr x hl=>by
  refine specF_eq (ι:={x:List Int×Int // x.1.length≤9223372036854775807}) (A:=fun x=>[.rd 1 (irows x.1.1),I x.1.2]) (R:=fun x=>retOf [B (decide (x.1.2∈x.1.1))]) ⟨(fr,x),by simp only;omega⟩ fun j e=>?_
  obtain ⟨⟨f',x'⟩,h'⟩:=j
  simp only [List.cons.injEq,AV.rd.injEq,irows_inj,I,AV.v.injEq,Value.int.injEq,true_and,and_true] at e
  obtain ⟨rfl,rfl⟩:=e;rfl
 refine ⟨fun fr x hl b v f M n hM=>?_,fun x M n=>?_⟩
 ·rw [h]
  have tk:List.take fr.length (irows fr)=irows fr:=List.take_of_length_le (by simp)
  simp [callP,hM,tk,nilV,nilA,key fr x hl]
 ·rw [h]
  have:=key [] x (by simp)
  simp only [irows,List.map_nil] at this
  simp [callP,nilV,nilA,this]
theorem repO_fl {t:Tb} {w:Nat} {n:Int}:(retOf [TbO t,U w,I n]).flat:=by
 intro a ha
 simp at ha
 rcases ha with rfl|rfl|rfl
 ·exact TbO_fl
 ·trivial
 ·trivial
noncomputable def ReF:List AV→Option AV:=specF (ι:={x:Tb×Int×Nat // tbOK x.1∧x.2.2<2^64}) (fun x=>[TbV x.1.1,I x.1.2.1,U x.1.2.2]) fun x=>retOf [TbO (repP x.1.1 x.1.2.1 x.1.2.2).1,U (repP x.1.1 x.1.2.1 x.1.2.2).2.1,I (repP x.1.1 x.1.2.1 x.1.2.2).2.2]
noncomputable def Te52:AX:=Te51.add 50 (callP ReF)
theorem te52:XOK Try.prog Te52:=xok_spec te51 (s50 Te51 te51 w0T (fun t h n lim M k=>cCk t h n lim M k) (fun t p h M n=>cLa t p h M n) (fun n h M k=>cDe n h M k) (fun e l M n=>cSu e l M n) (fun t h M n=>cCl t h M n) rfl) (fun x=>repO_fl) Try.func50 (by kernel_rfl)
noncomputable abbrev TeA:AX:=Te52
theorem teA:XOK Try.prog TeA:=te52
end Go.AM
namespace Go.AM
open Go Go.Proofs
set_option maxRecDepth 4000
theorem open_rep {t:Tb} {w:Nat} {e:Int} {n:Nat}:openRet n (retOf [TbO t,U w,I e])=(.tup [TbC t n,U w,I e],outT t n,n+2):=by
 simp [retOf,openRet,openVals,openVal,openLeaves,openLeaf,TbO,TbC,outT,U]
theorem open_irow {l:List Int} {n:Nat}:openRet n (retOf [.ow 1 (irows l)])=(.sl n 1 1 0 l.length,[(n,.vec 1 1 false (irows l))],n+1):=by
 simp [retOf,openRet,openVal,openLeaf]
theorem open_erow {l:List Pe} {n:Nat}:openRet n (retOf [.ow 2 (erows l)])=(.sl n 1 2 0 l.length,[(n,.vec 1 2 false (erows l))],n+1):=by
 simp [retOf,openRet,openVal,openLeaf,erows]
theorem oSt {R:StD→AV} {x:StD} (h:stOK x) {p vp q vq c vc:Nat} {fc:Bool} {M:Nat→AO} (hM:OwT M x.1 p vp q vq) (hc:M c=.vec vc 1 fc (irows x.2.2.2)) (n:Nat) {a:AV} {u:List (Nat×AO)} {k:Nat} (ho:openRet n (R x)=(a,u,k)) (hk:k≤n+16) :
  callP (specF (ι:={x:StD // stOK x}) (fun x=>[TbV x.1.1,I x.1.2.1,U x.1.2.2.1,.rd 1 (irows x.1.2.2.2)]) fun x=>R x.1) [TbS x.1 p vp q vq,I x.2.1,U x.2.2.1,.sl c vc 1 0 x.2.2.2.length] M n=some (a,u):=by
 have tk:List.take x.2.2.2.length (irows x.2.2.2)=irows x.2.2.2:=List.take_of_length_le (by simp)
 rw [callP_spec (ι:={x:StD // stOK x}) (A:=fun x=>[TbV x.1.1,I x.1.2.1,U x.1.2.2.1,.rd 1 (irows x.1.2.2.2)]) (R:=fun x=>R x.1) ⟨x,h⟩ (peek_tab hM (by simp [U,hc,tk])) ?_ (by rw [ho];exact hk),ho]
 rintro ⟨⟨t',p',w',fs'⟩,h'⟩ e
 obtain ⟨t,p,w,fs⟩:=x
 simp only [List.cons.injEq,TbV_inj,U,I,AV.v.injEq,Value.int.injEq,true_and,and_true,AV.rd.injEq,irows_inj,Int.ofNat_inj] at e
 obtain ⟨rfl,rfl,rfl,rfl⟩:=e;rfl
theorem oEi {l m:List Int} (hl:l.length≤1000000∧m.length≤1000000) {c vc d vd:Nat} {fc fd:Bool} {M:Nat→AO} (hc:M c=.vec vc 1 fc (irows l)) (hd:M d=.vec vd 1 fd (irows m)) (n:Nat):callP EiF [.sl c vc 1 0 l.length,.sl d vd 1 0 m.length] M n=some (B (decide (l=m)),[]):=by
 have tk:List.take l.length (irows l)=irows l:=List.take_of_length_le (by simp)
 have tm:List.take m.length (irows m)=irows m:=List.take_of_length_le (by simp)
 exact callP_spec (ι:={x:List Int×List Int // x.1.length≤1000000∧x.2.length≤1000000}) (A:=fun x=>[.rd 1 (irows x.1.1),.rd 1 (irows x.1.2)]) (R:=fun x=>retOf [B (decide (x.1.1=x.1.2))]) ⟨(l,m),hl⟩ (by simp [hc,hd,tk,tm]) (by
  rintro ⟨⟨l',m'⟩,h'⟩ e
  simp only [List.cons.injEq,AV.rd.injEq,irows_inj,true_and,and_true] at e
  obtain ⟨rfl,rfl⟩:=e;rfl) (by simp)
theorem SaF_at {a b:Tb} (ha:tbOK a) (hb:tbOK b):SaF [TbV a,TbV b]=some (B (decide (a=b))):=by
 refine specF_eq (ι:={x:Tb×Tb // tbOK x.1∧tbOK x.2}) (A:=fun x=>[TbV x.1.1,TbV x.1.2]) (R:=fun x=>retOf [B (decide (x.1.1=x.1.2))]) ⟨(a,b),ha,hb⟩ fun j e=>?_
 obtain ⟨⟨a',b'⟩,h'⟩:=j
 simp only [List.cons.injEq,TbV_inj,and_true] at e
 obtain ⟨rfl,rfl⟩:=e;rfl
theorem oSa {a b:Tb} (ha:tbOK a) (hb:tbOK b) {avs:List AV} {M:Nat→AO} (hp:(peekVals M avs).map (List.map (nilV 2))=some [TbV a,TbV b]) (n:Nat):callP (fun avs=>SaF (avs.map (nilV 2))) avs M n=some (B (decide (a=b)),[]):=by
 unfold callP
 cases h:peekVals M avs with
 | none=>rw [h] at hp;simp at hp
 | some l =>
  rw [h] at hp
  simp only [Option.map_some,Option.some.injEq] at hp
  simp only [hp,SaF_at ha hb]
  simp
theorem tab2 {a b:Tb} {M:Nat→AO} {p vp q vq p' vp' q' vq':Nat} (h:OwT M a p vp q vq) (h':OwT M b p' vp' q' vq'):(peekVals M [TbS a p vp q vq,TbS b p' vp' q' vq']).map (List.map (nilV 2))=some [TbV a,TbV b]:=by
 rw [peek_tab h (rs:=[TbV b]) (peek_tab h' rfl)]
 simp [TbV,nilV,nilA]
theorem okA:tbOK aT:=by unfold tbOK ndOK;decide +kernel
theorem okB:tbOK bT:=by unfold tbOK ndOK;decide +kernel
end Go.AM
namespace Go.AM
open Go Go.Proofs
noncomputable def acM (t:Tb) (b:Tl) (s p:Int) (wr:Bool):Tb×Tl×Int×Int :=
 if rfE (decR (walkT t p).1).1 wr≠0 then (t,(inT b s p).1,0,rfE (decR (walkT t p).1).1 wr)
 else ((repP t p (mkW (walkT t p).1 wr).1).1,(fiT b s p (mkW (walkT t p).1 wr).1).1,frmG (decR (walkT t p).1).1 p,0)
noncomputable def acT (t:Tb) (b:Tl) (s p:Int) (wr:Bool):Tb×Tl×Int×Int :=
 if chk t≠0 then (zT,zB,0,chk t)
 else if chB b≠0 then (zT,zB,0,chB b)
 else if plcB s p=false then (zT,zB,0,2)
 else if (lkT b s p).2=true∧(wr=false∨((decR (lkT b s p).1).1.2.2.1=true∧(decR (lkT b s p).1).1.2.2.2.2.1=true)) then (t,b,frmG (decR (lkT b s p).1).1 p,0)
 else acM t b s p wr
theorem mkW_lt {w:Nat} {wr:Bool} (h:w<2^64):(mkW w wr).1<2^64:=by
 unfold mkW
 split
 ·show 0<2^64;decide
 ·split
  ·show 0<2^64;decide
  ·split
   ·exact Nat.or_lt_two_pow h (by decide)
   ·split
    ·show 0<2^64;decide
    ·exact Nat.or_lt_two_pow (Nat.or_lt_two_pow h (by decide)) (by decide)
theorem lk_u64 {b:Tl} {s p:Int} (h:tlOK b):(lkT b s p).1<2^64:=by
 unfold lkT
 split
 ·decide
 ·split
  ·rename_i x hx
   exact h.2 _ (List.mem_of_find?_eq_some hx)
  ·decide
theorem walk_u64 {t:Tb} (ht:tbOK t) (p:Int):(walkT t p).1<2^64:=by
 unfold walkT
 split
 ·rename_i h
  obtain ⟨hpv,h0,h1⟩:=ckd_pt ht (by rw [h];simp:¬ ckd t p 512≠0)
  obtain ⟨q,rfl⟩:=Int.eq_ofNat_of_zero_le h0
  exact lsT_u64 ht hpv (by omega)
 ·show 0<2^64;decide
theorem tkN (l:NdL):List.take l.length (nrows l)=nrows l:=List.take_of_length_le (by simp)
theorem tkP (l:List Dp):List.take l.length (prows l)=prows l:=List.take_of_length_le (by simp)
structure AcX (X:AX):Prop where
 ch:∀ t:Tb,tbOK t→∀ M n,X.call 28 [TbV t] M n=some (I (chk t),[])
 ct:∀ b:Tl,tlOK b→∀ M n,X.call 44 [TlV b] M n=some (I (chB b),[])
 lk:∀ (b:Tl) (s p:Int),tlOK b→∀ M n,X.call 55 [TlV b,I s,I p] M n=some (.tup [U (lkT b s p).1,B (lkT b s p).2],[])
 de:∀ w:Nat,w<2^64→∀ M k,X.call 30 [U w] M k=some (.tup [EnV (decR w).1,I (decR w).2],[])
 cT:∀ t:Tb,tbOK t→∀ M n,X.call 48 [TbV t] M n=some (TbC t n,outT t n)
 cB:∀ b:Tl,b.2.length≤1000000→∀ M n,X.call 56 [TlV b] M n=some (TlC b n,[(n,.vec 1 3 false (trows b.2))])
 fg:∀ (e:En) (p:Int),0≤e.2.1→e.2.1≤4294967295→0≤p→∀ M n,X.call 57 [EnV e,I p] M n=some (I (frmG e p),[])
 wa:∀ (t:Tb) (x:Int),tbOK t→∀ M n,X.call 58 [TbV t,I x] M n=some (.tup [U (walkT t x).1,I (walkT t x).2.1,I (walkT t x).2.2],[])
 rf:∀ (e:En) (wr:Bool) M n,X.call 59 [EnV e,B wr] M n=some (I (rfE e wr),[])
 iv:∀ (b:Tl) (s p:Int),tlOK b→∀ M n,X.call 60 [TlV b,I s,I p] M n=some (.tup [TlC (inT b s p).1 n,I (inT b s p).2],[(n,.vec 1 3 false (trows (inT b s p).1.2))])
 mq:∀ (w:Nat) (wr:Bool),w<2^64→∀ M n,X.call 61 [U w,B wr] M n=some (.tup [U (mkW w wr).1,I (mkW w wr).2],[])
 re:∀ (t:Tb) (p:Int) (w:Nat),tbOK t→w<2^64→∀ M n,X.call 50 [TbV t,I p,U w] M n=some (.tup [TbC (repP t p w).1 n,U (repP t p w).2.1,I (repP t p w).2.2],outT (repP t p w).1 n)
 fi:∀ (b:Tl) (s p:Int) (w:Nat),tlOK b→w<2^64→∀ M n,X.call 62 [TlV b,I s,I p,U w] M n=some (.tup [TlC (fiT b s p w).1 n,I (fiT b s p w).2],[(n,.vec 1 3 false (trows (fiT b s p w).1.2))])
noncomputable def AcF:List AV→Option AV:=specF (ι:={x:Tb×Tl×Int×Int×Bool // tbOK x.1∧tlOK x.2.1}) (fun x=>[TbV x.1.1,TlV x.1.2.1,I x.1.2.2.1,I x.1.2.2.2.1,B x.1.2.2.2.2]) fun x=>retOf [TbO (acT x.1.1 x.1.2.1 x.1.2.2.1 x.1.2.2.2.1 x.1.2.2.2.2).1,TlO (acT x.1.1 x.1.2.1 x.1.2.2.1 x.1.2.2.2.1 x.1.2.2.2.2).2.1,I (acT x.1.1 x.1.2.1 x.1.2.2.1 x.1.2.2.2.1 x.1.2.2.2.2).2.2.1,I (acT x.1.1 x.1.2.1 x.1.2.2.1 x.1.2.2.2.1 x.1.2.2.2.2).2.2.2]
set_option maxHeartbeats 16000000 in
theorem s23 (X:AX) (hX:XOK Try.prog X) (hw:X.W wT) (L:AcX X):PSound Try.prog 23 AcF:=by
 unfold AcF
 refine psound_spec hX mixed Try.func23 rfl fun ⟨⟨⟨r,ns,ds⟩,⟨z,l⟩,s,p,wr⟩,ht,hb⟩ w0 G=>⟨by show 5≤150;decide,rfl,?_⟩
 show AW ⟨Try.prog,X,150,w0,.pure G⟩ _ _ _
 have hc:Cx.OK ⟨Try.prog,X,150,w0,.pure G⟩:=⟨hX,mixed⟩
 simp only at ht hb ⊢
 have ch:=L.ch _ ht
 have ct:=L.ct _ hb
 rcases Decidable.em (chk (r,ns,ds)=0) with h0|h0
 ·rw [h0] at ch
  rcases Decidable.em (chB (z,l)=0) with g0|g0
  ·rw [g0] at ct
   cases hpb:plcB s p with
   | false =>
    have e:acT (r,ns,ds) (z,l) s p wr=(zT,zB,0,2):=by unfold acT;rw [if_neg (by simp [h0]),if_neg (by simp [g0]),if_pos hpb]
    rw [e]
    have hbad:s<0∨8≤s∨p<0∨512≤p:=by
     unfold plcB at hpb
     have:=of_decide_eq_false hpb
     omega
    simp only [TbV,TlV,TbO,TlO,zT,zB] at ch ct ⊢
    rcases Decidable.em (s<0) with k1|k1
    ·have zS:=jj ch<|jj ct<|k1
     refine dF64 ?_
     repeat (intro K hK)
     clear zS
     all_goals refine ⟨by simp,?_⟩
     all_goals simp [leaves_iff,Try.f23,nrows,prows,trows]
     all_goals try exact dt
    ·rcases Decidable.em (8≤s) with k2|k2
     ·have zS:=jj ch<|jj ct<|jj k1<|k2
      refine dF64 ?_
      repeat (intro K hK)
      clear zS
      all_goals refine ⟨by simp,?_⟩
      all_goals simp [leaves_iff,Try.f23,nrows,prows,trows]
      all_goals try exact dt
     ·rcases Decidable.em (p<0) with k3|k3
      ·have zS:=jj ch<|jj ct<|jj k1<|jj k2<|k3
       refine dF64 ?_
       repeat (intro K hK)
       clear zS
       all_goals refine ⟨by simp,?_⟩
       all_goals simp [leaves_iff,Try.f23,nrows,prows,trows]
       all_goals try exact dt
      ·have k4:512≤p:=by omega
       have zS:=jj ch<|jj ct<|jj k1<|jj k2<|jj k3<|k4
       refine dF64 ?_
       repeat (intro K hK)
       clear zS
       all_goals refine ⟨by simp,?_⟩
       all_goals simp [leaves_iff,Try.f23,nrows,prows,trows]
       all_goals try exact dt
   | true =>
    have hpl2:0≤s∧s<8∧0≤p∧p<512:=by unfold plcB at hpb;simpa using hpb
    have k1:¬ s<0:=by omega
    have k2:¬ 8≤s:=by omega
    have k3:¬ p<0:=by omega
    have k4:¬ 512≤p:=by omega
    have lk:=L.lk (z,l) s p hb
    have de:=L.de _ (lk_u64 (s:=s) (p:=p) hb)
    have fg:=L.fg (decR (lkT (z,l) s p).1).1 p (decR_rng _).1 (decR_rng _).2 hpl2.2.2.1
    have cT:=L.cT _ ht
    have cB:=L.cB _ hb.1
    have wa:=L.wa _ p ht
    have w64:=walk_u64 ht p
    have de2:=L.de _ w64
    have rf:=L.rf (decR (walkT (r,ns,ds) p).1).1 wr
    have iv:=L.iv _ s p hb
    have mk:=L.mq _ wr w64
    have re:=L.re _ p _ ht (mkW_lt (wr:=wr) w64)
    have fi:=L.fi _ s p _ hb (mkW_lt (wr:=wr) w64)
    have fg2:=L.fg (decR (walkT (r,ns,ds) p).1).1 p (decR_rng _).1 (decR_rng _).2 hpl2.2.2.1
    have eM:acM (r,ns,ds) (z,l) s p wr=if rfE (decR (walkT (r,ns,ds) p).1).1 wr≠0 then ((r,ns,ds),(inT (z,l) s p).1,0,rfE (decR (walkT (r,ns,ds) p).1).1 wr)
     else ((repP (r,ns,ds) p (mkW (walkT (r,ns,ds) p).1 wr).1).1,(fiT (z,l) s p (mkW (walkT (r,ns,ds) p).1 wr).1).1,frmG (decR (walkT (r,ns,ds) p).1).1 p,0):=rfl
    have eA:acT (r,ns,ds) (z,l) s p wr=if (lkT (z,l) s p).2=true∧(wr=false∨((decR (lkT (z,l) s p).1).1.2.2.1=true∧(decR (lkT (z,l) s p).1).1.2.2.2.2.1=true)) then ((r,ns,ds),(z,l),frmG (decR (lkT (z,l) s p).1).1 p,0) else acM (r,ns,ds) (z,l) s p wr:=by
     unfold acT
     rw [if_neg (by simp [h0]),if_neg (by simp [g0]),if_neg (by simp [hpb])]
    rw [eA]
    clear eA
    obtain ⟨⟨lw,lb⟩,hlk⟩:∃ x,x=lkT (z,l) s p:=⟨_,rfl⟩
    rw [← hlk] at lk de fg ⊢
    simp only at lk de fg ⊢
    obtain ⟨⟨⟨k,num,b1,b2,b3,hg⟩,er⟩,hx⟩:∃ x,x=decR lw:=⟨_,rfl⟩
    rw [← hx] at de fg ⊢
    obtain ⟨⟨ww,wl,we⟩,hwa⟩:∃ x,x=walkT (r,ns,ds) p:=⟨_,rfl⟩
    rw [← hwa] at wa de2 rf mk re fi fg2 eM
    simp only at wa de2 rf mk re fi fg2 eM
    obtain ⟨⟨⟨k',num',c1,c2,c3,hg'⟩,er'⟩,hx'⟩:∃ x,x=decR ww:=⟨_,rfl⟩
    rw [← hx'] at de2 rf fg2 eM
    obtain ⟨⟨mw,me⟩,hmk⟩:∃ x,x=mkW ww wr:=⟨_,rfl⟩
    rw [← hmk] at mk re fi eM
    simp only at re fi eM
    obtain ⟨⟨⟨r2,n2,d2⟩,v2,e2⟩,hre⟩:∃ x,x=repP (r,ns,ds) p mw:=⟨_,rfl⟩
    rw [← hre] at re eM
    obtain ⟨⟨⟨z2,l2⟩,e3⟩,hfi⟩:∃ x,x=fiT (z,l) s p mw:=⟨_,rfl⟩
    rw [← hfi] at fi eM
    obtain ⟨⟨⟨z3,l3⟩,e4⟩,hiv⟩:∃ x,x=inT (z,l) s p:=⟨_,rfl⟩
    rw [← hiv] at iv eM
    obtain ⟨rv,hrv⟩:∃ x,x=rfE (k',num',c1,c2,c3,hg') wr:=⟨_,rfl⟩
    simp only at rf fg2 eM
    rw [← hrv] at rf eM
    obtain ⟨f1,hf1⟩:∃ x,x=frmG (k,num,b1,b2,b3,hg) p:=⟨_,rfl⟩
    rw [← hf1] at fg ⊢
    obtain ⟨f2,hf2⟩:∃ x,x=frmG (k',num',c1,c2,c3,hg') p:=⟨_,rfl⟩
    rw [← hf2] at fg2 eM
    have tkl:=tkT l
    rw [eM]
    clear eM hlk hx hwa hx' hmk hre hfi hiv hrv hf1 hf2
    simp only [TbV,TlV,TbC,TlC,TbO,TlO,EnV,U,outT] at ch ct lk de fg cT cB wa de2 rf iv mk re fi fg2 ⊢
    cases lb with
    | false =>
     rw [if_neg (by simp)]
     rcases Decidable.em (rv=0) with hr0|hr0
     ·rw [if_neg (by simp [hr0])]
      have zS:=jj ch<|jj ct<|jj k1<|jj k2<|jj k3<|jj k4<|jj lk<|jj wa<|jj de2<|jj rf<|jj mk<|jj re<|jj fi<|jj fg2<|hr0
      refine dF64 ?_
      repeat (intro K hK)
      clear zS
      all_goals refine ⟨by simp,?_⟩
      all_goals simp [leaves_iff,Try.f23,tkN,tkP,tkT]
      all_goals try exact dt
     ·rw [if_pos hr0]
      have zS:=jj ch<|jj ct<|jj k1<|jj k2<|jj k3<|jj k4<|jj lk<|jj wa<|jj de2<|jj rf<|jj iv<|jj cT<|hr0
      refine dF64 ?_
      repeat (intro K hK)
      clear zS
      all_goals refine ⟨by simp,?_⟩
      all_goals simp [leaves_iff,Try.f23,tkN,tkP,tkT]
      all_goals try exact dt
    | true =>
     cases wr with
     | false =>
      rw [if_pos (by simp)]
      have zS:=jj ch<|jj ct<|jj k1<|jj k2<|jj k3<|jj k4<|jj lk<|jj de<|jj cT<|jj cB<|fg
      refine dF64 ?_
      repeat (intro K hK)
      clear zS
      all_goals refine ⟨by simp,?_⟩
      all_goals simp [leaves_iff,Try.f23,tkN,tkP,tkT]
      all_goals try exact dt
     | true =>
      cases b1 with
      | true =>
       cases b3 with
       | true =>
        rw [if_pos (by simp)]
        have zS:=jj ch<|jj ct<|jj k1<|jj k2<|jj k3<|jj k4<|jj lk<|jj de<|jj cT<|jj cB<|fg
        refine dF64 ?_
        repeat (intro K hK)
        clear zS
        all_goals refine ⟨by simp,?_⟩
        all_goals simp [leaves_iff,Try.f23,tkN,tkP,tkT]
        all_goals try exact dt
       | false =>
        rw [if_neg (by simp)]
        rcases Decidable.em (rv=0) with hr0|hr0
        ·rw [if_neg (by simp [hr0])]
         have zS:=jj ch<|jj ct<|jj k1<|jj k2<|jj k3<|jj k4<|jj lk<|jj de<|jj wa<|jj de2<|jj rf<|jj mk<|jj re<|jj fi<|jj fg2<|hr0
         refine dF64 ?_
         repeat (intro K hK)
         clear zS
         all_goals refine ⟨by simp,?_⟩
         all_goals simp [leaves_iff,Try.f23,tkN,tkP,tkT]
         all_goals try exact dt
        ·rw [if_pos hr0]
         have zS:=jj ch<|jj ct<|jj k1<|jj k2<|jj k3<|jj k4<|jj lk<|jj de<|jj wa<|jj de2<|jj rf<|jj iv<|jj cT<|hr0
         refine dF64 ?_
         repeat (intro K hK)
         clear zS
         all_goals refine ⟨by simp,?_⟩
         all_goals simp [leaves_iff,Try.f23,tkN,tkP,tkT]
         all_goals try exact dt
      | false =>
       rw [if_neg (by simp)]
       rcases Decidable.em (rv=0) with hr0|hr0
       ·rw [if_neg (by simp [hr0])]
        have zS:=jj ch<|jj ct<|jj k1<|jj k2<|jj k3<|jj k4<|jj lk<|jj de<|jj wa<|jj de2<|jj rf<|jj mk<|jj re<|jj fi<|jj fg2<|hr0
        refine dF64 ?_
        repeat (intro K hK)
        clear zS
        all_goals refine ⟨by simp,?_⟩
        all_goals simp [leaves_iff,Try.f23,tkN,tkP,tkT]
        all_goals try exact dt
       ·rw [if_pos hr0]
        have zS:=jj ch<|jj ct<|jj k1<|jj k2<|jj k3<|jj k4<|jj lk<|jj de<|jj wa<|jj de2<|jj rf<|jj iv<|jj cT<|hr0
        refine dF64 ?_
        repeat (intro K hK)
        clear zS
        all_goals refine ⟨by simp,?_⟩
        all_goals simp [leaves_iff,Try.f23,tkN,tkP,tkT]
        all_goals try exact dt
  ·have e:acT (r,ns,ds) (z,l) s p wr=(zT,zB,0,chB (z,l)):=by unfold acT;rw [if_neg (by simp [h0]),if_pos g0]
   rw [e]
   obtain ⟨c,hcz⟩:∃ c,c=chB (z,l):=⟨_,rfl⟩
   rw [← hcz] at ct g0 ⊢
   simp only [TbV,TlV,TbO,TlO,zT,zB] at ch ct ⊢
   have zS:=jj ch<|jj ct<|g0
   refine dF64 ?_
   repeat (intro K hK)
   clear zS
   all_goals refine ⟨by simp,?_⟩
   all_goals simp [leaves_iff,Try.f23,nrows,prows,trows]
   all_goals try exact dt
 ·have e:acT (r,ns,ds) (z,l) s p wr=(zT,zB,0,chk (r,ns,ds)):=by unfold acT;rw [if_pos h0]
  rw [e]
  obtain ⟨c,hcz⟩:∃ c,c=chk (r,ns,ds):=⟨_,rfl⟩
  rw [← hcz] at ch h0 ⊢
  simp only [TbV,TlV,TbO,TlO,zT,zB] at ch ⊢
  have zS:=jj ch<|h0
  refine dF64 ?_
  repeat (intro K hK)
  clear zS
  all_goals refine ⟨by simp,?_⟩
  all_goals simp [leaves_iff,Try.f23,nrows,prows,trows]
  all_goals try exact dt
end Go.AM
