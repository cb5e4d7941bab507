/- A part of the proof: what functions of the program compute, by abstract execution of their code. Its theorems hold without further condition. -/
import Derived.Test.YtcfhmdljeeppfaaFTPt54
import Derived.Test.YtcfhmdljeeppfaaFAmZa
import Derived.Maps.RangeRun
set_option linter.all false
namespace Go.AM
open Go Go.Proofs
set_option maxRecDepth 4000
noncomputable def EtF:List AV→Option AV:=specF (ι:={n:Nat // n<2^64}) (fun x=>[U x.1]) fun x=>retOf [EnV (decR x.1).1]
theorem cEt (w:Nat) (hw:w<2^64) (M:Nat→AO) (n:Nat):callP EtF [U w] M n=some (EnV (decR w).1,[]) :=
 callP_spec (ι:={n:Nat // n<2^64}) (A:=fun x=>[U x.1]) (R:=fun x=>retOf [EnV (decR x.1).1]) ⟨w,hw⟩ (by simp [U]) (by
  rintro ⟨w',h'⟩ e
  have:=u_inj e
  simp only at this
  subst this;rfl) (by simp [EnV])
noncomputable def Te9:AX:=Te8.add 143 (callP EtF)
theorem te9:XOK Try.prog Te9:=xok_spec te8 (s143 Te8 te8 w0T (fun n h M k=>cDe n h M k)) (fun _=>by simp [retOf,AV.flat,AV.flatV,AV.flat1,EnV]) Try.func143 (by kernel_rfl)
noncomputable def Te10:AX:=Te9.add 46 (callP EtF)
theorem te10:XOK Try.prog Te10:=xok_spec te9 (s46 Te9 te9 w0T (fun n h M k=>cDe n h M k)) (fun _=>by simp [retOf,AV.flat,AV.flatV,AV.flat1,EnV]) Try.func46 (by kernel_rfl)
noncomputable def IfF:List AV→Option AV:=specF (ι:=Int) (fun x=>[I x]) fun x=>retOf [B (decide (0≤x∧x≤4294967295))]
theorem cIf (x:Int) (M:Nat→AO) (n:Nat):callP IfF [I x] M n=some (B (decide (0≤x∧x≤4294967295)),[]) :=
 callP_spec (ι:=Int) (A:=fun x=>[I x]) (R:=fun x=>retOf [B (decide (0≤x∧x≤4294967295))]) x (by simp) (by
  intro j e
  simp at e;subst e;rfl) (by simp)
noncomputable def Te11:AX:=Te10.add 119 (callP IfF)
theorem te11:XOK Try.prog Te11:=xok_spec te10 (s119 Te10 te10 ) (fun _=>trivial) Try.func119 (by kernel_rfl)
noncomputable def FewF:List AV→Option AV:=specF (ι:=Tb) (fun x=>[TbV x]) fun x=>retOf [B (decide (x.2.1.length≤80∧x.2.2.length≤70))]
theorem cFew (t:Tb) (M:Nat→AO) (n:Nat):callP FewF [TbV t] M n=some (B (decide (t.2.1.length≤80∧t.2.2.length≤70)),[]) :=
 callP_spec (ι:=Tb) (A:=fun x=>[TbV x]) (R:=fun x=>retOf [B (decide (x.2.1.length≤80∧x.2.2.length≤70))]) t (by simp [TbV]) (by
  intro j e
  simp only [List.cons.injEq,TbV_inj,and_true] at e;subst e;rfl) (by simp)
noncomputable def Te12:AX:=Te11.add 19 (callP FewF)
theorem te12:XOK Try.prog Te12:=xok_spec te11 (s19 Te11 te11 ) (fun _=>trivial) Try.func19 (by kernel_rfl)
noncomputable def DigF:List AV→Option AV:=specF (ι:={x:Nat×Nat // x.1<512∧x.2≤2}) (fun x=>[I x.1.1,I x.1.2]) fun x=>retOf [I (dig x.1.1 x.1.2)]
theorem cDig (p l:Nat) (h1:p<512) (h2:l≤2) (M:Nat→AO) (n:Nat):callP DigF [I p,I l] M n=some (I (dig p l),[]) :=
 callP_spec (ι:={x:Nat×Nat // x.1<512∧x.2≤2}) (A:=fun x=>[I x.1.1,I x.1.2]) (R:=fun x=>retOf [I (dig x.1.1 x.1.2)]) ⟨(p,l),h1,h2⟩ (by simp) (by
  rintro ⟨⟨p',l'⟩,h'⟩ e
  simp only [List.cons.injEq,I,AV.v.injEq,Value.int.injEq,true_and,and_true,Int.ofNat_inj] at e
  obtain ⟨rfl,rfl⟩:=e;rfl) (by simp)
noncomputable def DgtF:List AV→Option AV:=specF (ι:={x:Nat×Nat // x.1<512∧x.2≤2}) (fun x=>[I x.1.1,I x.1.2]) fun x=>retOf [I (dgt x.1.1 x.1.2)]
theorem cDgt (p l:Nat) (h1:p<512) (h2:l≤2) (M:Nat→AO) (n:Nat):callP DgtF [I p,I l] M n=some (I (dgt p l),[]) :=
 callP_spec (ι:={x:Nat×Nat // x.1<512∧x.2≤2}) (A:=fun x=>[I x.1.1,I x.1.2]) (R:=fun x=>retOf [I (dgt x.1.1 x.1.2)]) ⟨(p,l),h1,h2⟩ (by simp) (by
  rintro ⟨⟨p',l'⟩,h'⟩ e
  simp only [List.cons.injEq,I,AV.v.injEq,Value.int.injEq,true_and,and_true,Int.ofNat_inj] at e
  obtain ⟨rfl,rfl⟩:=e;rfl) (by simp)
noncomputable def Te13:AX:=Te12.add 108 (callP DigF)
theorem te13:XOK Try.prog Te13:=xok_spec te12 (s108 Te12 te12 ) (fun _=>trivial) Try.func108 (by kernel_rfl)
noncomputable def SuF:List AV→Option AV:=specF (ι:=En×Nat) (fun x=>[EnV x.1,I x.2]) fun x=>retOf [B (suitB x.1 x.2)]
theorem cSu (e:En) (l:Nat) (M:Nat→AO) (n:Nat):callP SuF [EnV e,I l] M n=some (B (suitB e l),[]) :=
 callP_spec (ι:=En×Nat) (A:=fun x=>[EnV x.1,I x.2]) (R:=fun x=>retOf [B (suitB x.1 x.2)]) (e,l) (by simp [EnV]) (by
  rintro ⟨e',l'⟩ e
  simp only [List.cons.injEq,EnV_inj,I,AV.v.injEq,Value.int.injEq,true_and,and_true,Int.ofNat_inj] at e
  obtain ⟨rfl,rfl⟩:=e;rfl) (by simp)
noncomputable def Te14:AX:=Te13.add 70 (callP SuF)
theorem te14:XOK Try.prog Te14:=xok_spec te13 (s70 Te13 te13 w0T) (fun _=>trivial) Try.func70 (by kernel_rfl)
noncomputable def Te15:AX:=Te14.add 110 (callP SuF)
theorem te15:XOK Try.prog Te15:=xok_spec te14 (s110 Te14 te14 w0T) (fun _=>trivial) Try.func110 (by kernel_rfl)
noncomputable def FiF:List AV→Option AV:=specF (ι:={x:Tb×Int // tbOK x.1}) (fun x=>[TbV x.1.1,I x.1.2]) fun x=>retOf [I (fstG (fun n=>decide (n.1=x.1.2)) x.1.1.2.1)]
theorem cFi (t:Tb) (x:Int) (ht:tbOK t) (M:Nat→AO) (n:Nat):callP FiF [TbV t,I x] M n=some (I (fstG (fun n:Nd=>decide (n.1=x)) t.2.1),[]):=cT2 (D:=fun t _=>tbOK t) (R:=fun t x=>retOf [I (fstG (fun n:Nd=>decide (n.1=x)) t.2.1)]) ht M n rfl (by simp [retOf,openRet,openVals,openVal,openLeaves,openLeaf,stV,srow,U,TbO])
noncomputable def Te16:AX:=Te15.add 83 (callP FiF)
theorem te16:XOK Try.prog Te16:=xok_spec te15 (s83 Te15 te15 ) (fun _=>trivial) Try.func83 (by kernel_rfl)
noncomputable def DpF:List AV→Option AV:=specF (ι:={x:Tb×Int // tbOK x.1}) (fun x=>[TbV x.1.1,I x.1.2]) fun x=>retOf [I (fstG (fun n=>decide (n.1=x.1.2)) x.1.1.2.2)]
theorem cDp (t:Tb) (x:Int) (ht:tbOK t) (M:Nat→AO) (n:Nat):callP DpF [TbV t,I x] M n=some (I (fstG (fun n:Dp=>decide (n.1=x)) t.2.2),[]):=cT2 (D:=fun t _=>tbOK t) (R:=fun t x=>retOf [I (fstG (fun n:Dp=>decide (n.1=x)) t.2.2)]) ht M n rfl (by simp [retOf,openRet,openVals,openVal,openLeaves,openLeaf,stV,srow,U,TbO])
noncomputable def Te17:AX:=Te16.add 125 (callP DpF)
theorem te17:XOK Try.prog Te17:=xok_spec te16 (s125 Te16 te16 ) (fun _=>trivial) Try.func125 (by kernel_rfl)
noncomputable def RaF:List AV→Option AV:=specF (ι:={x:Tb // tbOK x}) (fun x=>[TbV x.1]) fun x=>retOf [B (rngB x.1)]
theorem cRa (t:Tb) (ht:tbOK t) (M:Nat→AO) (n:Nat):callP RaF [TbV t] M n=some (B (rngB t),[]):=cT1 (D:=tbOK) (R:=fun t=>retOf [B (rngB t)]) ht M n rfl (by simp [retOf,openRet,openVals,openVal,openLeaves,openLeaf,stV,srow,U,TbO])
noncomputable def Te18:AX:=Te17.add 80 (callP RaF)
theorem te18:XOK Try.prog Te18:=xok_spec te17 (s80 Te17 te17 ) (fun _=>trivial) Try.func80 (by kernel_rfl)
noncomputable def OrF:List AV→Option AV:=specF (ι:={x:Tb // tbOK x}) (fun x=>[TbV x.1]) fun x=>retOf [B (ascB x.1)]
theorem cOr (t:Tb) (ht:tbOK t) (M:Nat→AO) (n:Nat):callP OrF [TbV t] M n=some (B (ascB t),[]):=cT1 (D:=tbOK) (R:=fun t=>retOf [B (ascB t)]) ht M n rfl (by simp [retOf,openRet,openVals,openVal,openLeaves,openLeaf,stV,srow,U,TbO])
noncomputable def Te19:AX:=Te18.add 81 (callP OrF)
theorem te19:XOK Try.prog Te19:=xok_spec te18 (s81 Te18 te18 w0T) (fun _=>trivial) Try.func81 (by kernel_rfl)
noncomputable def TwF:List AV→Option AV:=specF (ι:={x:Tb // tbOK x}) (fun x=>[TbV x.1]) fun x=>retOf [B (twB x.1)]
theorem cTw (t:Tb) (ht:tbOK t) (M:Nat→AO) (n:Nat):callP TwF [TbV t] M n=some (B (twB t),[]):=cT1 (D:=tbOK) (R:=fun t=>retOf [B (twB t)]) ht M n rfl (by simp [retOf,openRet,openVals,openVal,openLeaves,openLeaf,stV,srow,U,TbO])
noncomputable def Te20:AX:=Te19.add 82 (callP TwF)
theorem te20:XOK Try.prog Te20:=xok_spec te19 (s82 Te19 te19 w0T (fun t f h M n=>cFi t f h M n)) (fun _=>trivial) Try.func82 (by kernel_rfl)
noncomputable def IxF:List AV→Option AV:=specF (ι:={x:Tb // tbOK x}) (fun x=>[TbV x.1]) fun x=>retOf [.om 1 (idxE x.1.2.1 x.1.2.1.length)]
theorem cIx (t:Tb) (ht:tbOK t) (M:Nat→AO) (n:Nat):callP IxF [TbV t] M n=some (.mp n 1,[(n,.map 1 1 (idxE t.2.1 t.2.1.length))]):=cT1 (D:=tbOK) (R:=fun t=>retOf [.om 1 (idxE t.2.1 t.2.1.length)]) ht M n rfl (by simp [retOf,openRet,openVals,openVal,openLeaves,openLeaf,stV,srow,U,TbO])
noncomputable def Te21:AX:=Te20.add 68 (callP IxF)
theorem te21:XOK Try.prog Te21:=xok_spec te20 (s68 Te20 te20 w0T) (fun x=>idxE_pl) Try.func68 (by kernel_rfl)
noncomputable def NuF:List AV→Option AV:=specF (ι:={x:Tb // tbOK x}) (fun x=>[TbV x.1]) fun x=>retOf [I (numB x.1)]
theorem cNu (t:Tb) (ht:tbOK t) (M:Nat→AO) (n:Nat):callP NuF [TbV t] M n=some (I (numB t),[]):=cT1 (D:=tbOK) (R:=fun t=>retOf [I (numB t)]) ht M n rfl (by simp [retOf,openRet,openVals,openVal,openLeaves,openLeaf,stV,srow,U,TbO])
noncomputable def Te22:AX:=Te21.add 67 (callP NuF)
theorem te22:XOK Try.prog Te22:=xok_spec te21 (s67 Te21 te21 w0T (fun x M n=>cIf x M n) (fun t h M n=>cIx t h M n)) (fun _=>trivial) Try.func67 (by kernel_rfl)
noncomputable def Te23:AX:=Te22.add 69 (callG (ckS 0))
theorem te23:XOK Try.prog Te23:=xok_putM te22 (by kernel_rfl) (.inl ⟨(s69_0 Te22 te22 w0T (fun n h M k=>cDe n h M k) (fun e l M n=>cSu e l M n)).callG,body_ok _ Try.func69 (by kernel_rfl)⟩) fun _ _ _ _ h=>callG_keys h
noncomputable def Te24:AX:=Te23.add 69 (callG (ckS 1))
theorem te24:XOK Try.prog Te24:=xok_putM te23 (by kernel_rfl) (.inl ⟨(s69_1 Te23 te23 w0T (fun n h M k=>cDe n h M k) (fun e l M n=>cSu e l M n) rfl).callG,body_ok _ Try.func69 (by kernel_rfl)⟩) fun _ _ _ _ h=>callG_keys h
noncomputable def Te25:AX:=Te24.add 69 (callG (ckS 2))
theorem te25:XOK Try.prog Te25:=xok_putM te24 (by kernel_rfl) (.inl ⟨(s69_2 Te24 te24 w0T (fun n h M k=>cDe n h M k) (fun e l M n=>cSu e l M n) rfl).callG,body_ok _ Try.func69 (by kernel_rfl)⟩) fun _ _ _ _ h=>callG_keys h
noncomputable def Te26:AX:=Te25.add 120 (callP FIxB)
theorem te26:XOK Try.prog Te26:=xok_spec te25 (s120 Te25 te25 ) (fun _=>trivial) Try.func120 (by kernel_rfl)
noncomputable def Te27:AX:=Te26.add 71 (callP FCtB)
theorem te27:XOK Try.prog Te27:=xok_spec te26 (s71 Te26 te26 rfl) (fun _=>trivial) Try.func71 (by kernel_rfl)
noncomputable def Te28:AX:=Te27.add 63 (callP FIxI)
theorem te28:XOK Try.prog Te28:=xok_spec te27 (s63 Te27 te27 ) (fun _=>trivial) Try.func63 (by kernel_rfl)
noncomputable def Te29:AX:=Te28.add 25 (callP fun avs=>FCtI (avs.map (nilV 1)))
theorem te29:XOK Try.prog Te29:=xok_specn te28 1 (s25 Te28 te28 rfl) (fun _=>trivial) Try.func25 (by kernel_rfl)
noncomputable def ChF:List AV→Option AV:=specF (ι:={x:Tb // tbOK x}) (fun x=>[TbV x.1]) fun x=>retOf [I (chk x.1)]
theorem cCh (t:Tb) (ht:tbOK t) (M:Nat→AO) (n:Nat):callP ChF [TbV t] M n=some (I (chk t),[]):=cT1 (D:=tbOK) (R:=fun t=>retOf [I (chk t)]) ht M n rfl (by simp [retOf,openRet,openVals,openVal,openLeaves,openLeaf,stV,srow,U,TbO])
noncomputable def Te30:AX:=Te29.add 28 (callP ChF)
theorem te30:XOK Try.prog Te30:=xok_spec te29 (s28 Te29 te29 w0T (fun t h M n=>cNu t h M n) (fun t h M n=>cIx t h M n) rfl rfl) (fun _=>trivial) Try.func28 (by kernel_rfl)
noncomputable def Te31:AX:=Te30.add 84 (callG (rwS 0))
theorem te31:XOK Try.prog Te31:=xok_putM te30 (by kernel_rfl) (.inl ⟨(s84_0 Te30 te30 w0T (fun n h M k=>cDe n h M k) (fun e l M n=>cSu e l M n) (fun t f h M n=>cFi t f h M n) (fun t f h M n=>cDp t f h M n)).callG,body_ok _ Try.func84 (by kernel_rfl)⟩) fun _ _ _ _ h=>callG_keys h
noncomputable def Te32:AX:=Te31.add 84 (callG (rwS 1))
theorem te32:XOK Try.prog Te32:=xok_putM te31 (by kernel_rfl) (.inl ⟨(s84_1 Te31 te31 w0T (fun n h M k=>cDe n h M k) (fun e l M n=>cSu e l M n) (fun t f h M n=>cFi t f h M n) (fun t f h M n=>cDp t f h M n) rfl).callG,body_ok _ Try.func84 (by kernel_rfl)⟩) fun _ _ _ _ h=>callG_keys h
noncomputable def Te33:AX:=Te32.add 84 (callG (rwS 2))
theorem te33:XOK Try.prog Te33:=xok_putM te32 (by kernel_rfl) (.inl ⟨(s84_2 Te32 te32 w0T (fun n h M k=>cDe n h M k) (fun e l M n=>cSu e l M n) (fun t f h M n=>cFi t f h M n) (fun t f h M n=>cDp t f h M n) rfl).callG,body_ok _ Try.func84 (by kernel_rfl)⟩) fun _ _ _ _ h=>callG_keys h
theorem s35_c (X:AX) (hX:XOK Try.prog X) (hw:X.W wT) (hra:∀ t:Tb,tbOK t→∀ M n,X.call 80 [TbV t] M n=some (B (rngB t),[])) (hor:∀ t:Tb,tbOK t→∀ M n,X.call 81 [TbV t] M n=some (B (ascB t),[]))
  (htw:∀ t:Tb,tbOK t→∀ M n,X.call 82 [TbV t] M n=some (B (twB t),[])) (hfi:∀ (t:Tb) f,tbOK t→∀ M n,X.call 83 [TbV t,I f] M n=some (I (fstG (fun n=>decide (n.1=f)) t.2.1),[]))
  (hwa:X.call 84=callG (rwS 2)):PSound Try.prog 35 ChF:=by
 have h:=s35 X hX hw hra hor htw hfi hwa
 have e:(fun x:{x:Tb // tbOK x}=>retOf [I (chkR x.1)])=fun x=>retOf [I (chk x.1)]:=funext fun x=>by rw [chkR_eq x.2]
 rw [e] at h
 exact h
noncomputable def Te34:AX:=Te33.add 35 (callP ChF)
theorem te34:XOK Try.prog Te34:=xok_spec te33 (s35_c Te33 te33 w0T (fun t h M n=>cRa t h M n) (fun t h M n=>cOr t h M n) (fun t h M n=>cTw t h M n) (fun t f h M n=>cFi t f h M n) rfl) (fun _=>trivial) Try.func35 (by kernel_rfl)
noncomputable def Te35:AX:=Te34.add 138 (callP DgtF)
theorem te35:XOK Try.prog Te35:=xok_spec te34 (s138 Te34 te34 w0T) (fun _=>trivial) Try.func138 (by kernel_rfl)
noncomputable def PaF:List AV→Option AV:=specF (ι:={x:Tb×Nat // ptO x.1 x.2}) (fun x=>[TbV x.1.1,I x.1.2]) fun x=>retOf [.ow 3 (srows (ptL x.1.1 x.1.2))]
theorem cPa (t:Tb) (p:Nat) (h:ptO t p) (M:Nat→AO) (n:Nat):callP PaF [TbV t,I p] M n=some (.sl n 1 3 0 (ptL t p).length,[(n,.vec 1 3 false (srows (ptL t p)))]):=cT3 (D:=ptO) (R:=fun t p=>retOf [.ow 3 (srows (ptL t p))]) (k:=n+1) h M n (by simp [retOf,openRet,openVal,openLeaf,srows]) (by omega)
noncomputable def Te36:AX:=Te35.add 121 (callP PaF)
theorem te36:XOK Try.prog Te36:=xok_spec te35 (s121 Te35 te35 w0T (fun t h M n=>cIx t h M n) (fun p l h1 h2 M n=>cDgt p l h1 h2 M n) (fun w h M n=>cEt w h M n)) (fun x=>srow_pl) Try.func121 (by kernel_rfl)
noncomputable def LaF:List AV→Option AV:=specF (ι:={x:Tb×Nat // ptO x.1 x.2}) (fun x=>[TbV x.1.1,I x.1.2]) fun x=>retOf [stV (lsT x.1.1 x.1.2)]
theorem cLa (t:Tb) (p:Nat) (h:ptO t p) (M:Nat→AO) (n:Nat):callP LaF [TbV t,I p] M n=some (stV (lsT t p),[]):=cT3 (D:=ptO) (R:=fun t p=>retOf [stV (lsT t p)]) h M n rfl (by simp [retOf,openRet,openVals,openVal,openLeaves,openLeaf,stV,srow,U,TbO])
noncomputable def Te37:AX:=Te36.add 72 (callP LaF)
theorem te37:XOK Try.prog Te37:=xok_spec te36 (s72 Te36 te36 w0T (fun t p h M n=>cPa t p h M n)) (fun x=>by simp [retOf,AV.flat,AV.flatV,AV.flat1,U,stV,srow]) Try.func72 (by kernel_rfl)
noncomputable def StF:List AV→Option AV:=specF (ι:={x:Tb×Nat // ptO x.1 x.2}) (fun x=>[TbV x.1.1,I x.1.2]) fun x=>retOf [I (lsT x.1.1 x.1.2).1,I (lsT x.1.1 x.1.2).2.1]
theorem cSt (t:Tb) (p:Nat) (h:ptO t p) (M:Nat→AO) (n:Nat):callP StF [TbV t,I p] M n=some (.tup [I (lsT t p).1,I (lsT t p).2.1],[]):=cT3 (D:=ptO) (R:=fun t p=>retOf [I (lsT t p).1,I (lsT t p).2.1]) h M n rfl (by simp [retOf,openRet,openVals,openVal,openLeaves,openLeaf,stV,srow,U,TbO])
noncomputable def Te38:AX:=Te37.add 107 (callP StF)
theorem te38:XOK Try.prog Te38:=xok_spec te37 (s107 Te37 te37 w0T (fun t f h M n=>cFi t f h M n) (fun p l h1 h2 M n=>cDig p l h1 h2 M n) (fun w h M n=>cEt w h M n)) (fun _=>by simp [retOf,AV.flat,AV.flatV,AV.flat1,U]) Try.func107 (by kernel_rfl)
noncomputable def CkF:List AV→Option AV:=specF (ι:={x:Tb×Int×Int // tbOK x.1}) (fun x=>[TbV x.1.1,I x.1.2.1,I x.1.2.2]) fun x=>retOf [I (ckd x.1.1 x.1.2.1 x.1.2.2)]
theorem cCk (t:Tb) (ht:tbOK t) (a b:Int) (M:Nat→AO) (n:Nat):callP CkF [TbV t,I a,I b] M n=some (I (ckd t a b),[]) :=
 callP_spec (ι:={x:Tb×Int×Int // tbOK x.1}) (A:=fun x=>[TbV x.1.1,I x.1.2.1,I x.1.2.2]) (R:=fun x=>retOf [I (ckd x.1.1 x.1.2.1 x.1.2.2)]) ⟨(t,a,b),ht⟩ (by simp [TbV]) (by
  rintro ⟨⟨t',a',b'⟩,h'⟩ e
  simp only [List.cons.injEq,TbV_inj,I,AV.v.injEq,Value.int.injEq,true_and,and_true] at e
  obtain ⟨rfl,rfl,rfl⟩:=e;rfl) (by simp)
noncomputable def Te39:AX:=Te38.add 104 (callP CkF)
theorem te39:XOK Try.prog Te39:=xok_spec te38 (s104 Te38 te38 w0T (fun t h M n=>cCh t h M n)) (fun _=>trivial) Try.func104 (by kernel_rfl)
noncomputable def WaF:List AV→Option AV:=specF (ι:={x:Tb×Int // tbOK x.1}) (fun x=>[TbV x.1.1,I x.1.2]) fun x=>retOf [U (walkT x.1.1 x.1.2).1,I (walkT x.1.1 x.1.2).2.1,I (walkT x.1.1 x.1.2).2.2]
noncomputable def Te40:AX:=Te39.add 58 (callP WaF)
theorem te40:XOK Try.prog Te40:=xok_spec te39 (s58 Te39 te39 w0T (fun t h n lim M k=>cCk t h n lim M k) (fun t p h M n=>cLa t p h M n)) (fun _=>by simp [retOf,AV.flat,AV.flatV,AV.flat1,U]) Try.func58 (by kernel_rfl)
noncomputable def Te41:AX:=Te40.add 78 (callP WaF)
theorem te41:XOK Try.prog Te41:=xok_spec te40 (s78 Te40 te40 w0T (fun t h M n=>cCh t h M n) (fun t p h M n=>cSt t p h M n) (fun p l h1 h2 M n=>cDig p l h1 h2 M n)) (fun _=>by simp [retOf,AV.flat,AV.flatV,AV.flat1,U]) Try.func78 (by kernel_rfl)
noncomputable def ClF:List AV→Option AV:=specF (ι:={x:Tb // tbOK x}) (fun x=>[TbV x.1]) fun x=>retOf [TbO x.1]
theorem cCl (t:Tb) (ht:tbOK t) (M:Nat→AO) (n:Nat):callP ClF [TbV t] M n=some (TbC t n,[(n,.vec 1 9 false (nrows t.2.1)),(n+1,.vec 1 2 false (prows t.2.2))]):=cT1 (D:=tbOK) (R:=fun t=>retOf [TbO t]) (k:=n+2) ht M n (by simp [retOf,openRet,openVal,openLeaves,openLeaf,TbO,TbC]) (by omega)
noncomputable def Te42:AX:=Te41.add 136 (callC FClN)
theorem te42:XOK Try.prog Te42:=xok_add te41 (.inl ⟨PSound.callC (s136 Te41 te41 w0T),body_ok _ Try.func136 (by kernel_rfl)⟩) fun _ _ _ _ h b hb=>callC_keys h b hb
noncomputable def Te43:AX:=Te42.add 137 (callC FClD)
theorem te43:XOK Try.prog Te43:=xok_add te42 (.inl ⟨PSound.callC (s137 Te42 te42 w0T),body_ok _ Try.func137 (by kernel_rfl)⟩) fun _ _ _ _ h b hb=>callC_keys h b hb
noncomputable def Te44:AX:=Te43.add 105 (callP ClF)
theorem te44:XOK Try.prog Te44:=xok_spec te43 (s105 Te43 te43 w0T rfl rfl) (fun x=>TbO_fl) Try.func105 (by kernel_rfl)
theorem olaR {X:AX} (h:X.call 72=callP LaF):OwnR X 72 (fun t x=>0≤x∧ptO t x.toNat) fun t x=>stV (lsT t x.toNat):=fun r ns ds x hd a va b vb f1 f2 M n h1 h2=>by
 rw [h]
 obtain ⟨k,rfl⟩:∃ k:Nat,x=k:=⟨x.toNat,by omega⟩
 exact oT3 (D:=ptO) (R:=fun t p=>retOf [stV (lsT t p)]) (t:=(r,ns,ds)) hd.2 ⟨⟨f1,h1⟩,f2,h2⟩ n rfl (by simp [retOf,openRet,openVals,openVal,openLeaves,openLeaf,stV,srow,U,TbO])
noncomputable def Te45:AX:=Te44.add 106 (callG puS)
theorem te45:XOK Try.prog Te45:=xok_putM te44 (by kernel_rfl) (.inl ⟨(s106 Te44 te44 w0T (olaR rfl) (fun p l h1 h2 M n=>cDgt p l h1 h2 M n)).callG,body_ok _ Try.func106 (by kernel_rfl)⟩) fun _ _ _ _ h=>callG_keys h
noncomputable def SaF:List AV→Option AV:=specF (ι:={x:Tb×Tb // tbOK x.1∧tbOK x.2}) (fun x=>[TbV x.1.1,TbV x.1.2]) fun x=>retOf [B (decide (x.1.1=x.1.2))]
noncomputable def Te46:AX:=Te45.add 22 (callP fun avs=>SaF (avs.map (nilV 2)))
theorem te46:XOK Try.prog Te46:=xok_specn te45 2 (s22 Te45 te45 w0T rfl rfl) (fun _=>trivial) Try.func22 (by kernel_rfl)
noncomputable def EiF:List AV→Option AV:=specF (ι:={x:List Int×List Int // x.1.length≤1000000∧x.2.length≤1000000}) (fun x=>[.rd 1 (irows x.1.1),.rd 1 (irows x.1.2)]) fun x=>retOf [B (decide (x.1.1=x.1.2))]
noncomputable def Te47:AX:=Te46.add 16 (callP EiF)
theorem te47:XOK Try.prog Te47:=xok_spec te46 (s16 Te46 te46 w0T) (fun _=>trivial) Try.func16 (by kernel_rfl)
noncomputable def Te48:AX:=Te47.add 102 (sortC)
theorem te48:XOK Try.prog Te48:=xok_putM te47 (by kernel_rfl) (.inl ⟨sortI_ok,body_ok _ Try.func102 (by kernel_rfl)⟩) fun _ _ _ _ h=>sortI_keys h
noncomputable def Te49:AX:=Te48.add 45 (callG siS)
theorem te49:XOK Try.prog Te49:=xok_putM te48 (by kernel_rfl) (.inl ⟨(s45 Te48 te48 w0T rfl).callG,body_ok _ Try.func45 (by kernel_rfl)⟩) fun _ _ _ _ h=>callG_keys h
noncomputable def LiF:List AV→Option AV:=specF (ι:={x:Tb // tbOK x}) (fun x=>[TbV x.1]) fun x=>retOf [.ow 2 (erows (lstT x.1))]
noncomputable def Te50:AX:=Te49.add 29 (callP LiF)
theorem te50:XOK Try.prog Te50:=xok_spec te49 (s29 Te49 te49 w0T (fun t h M n=>cCh t h M n) (fun t p h M n=>cLa t p h M n)) (fun x=>erow_pl) Try.func29 (by kernel_rfl)
noncomputable def Te51:AX:=Te50.add 52 (callP LiF)
theorem te51:XOK Try.prog Te51:=xok_spec te50 (s52 Te50 te50 w0T (fun t h M n=>cCh t h M n) (fun t p h M n=>cSt t p h M n) (fun p l h1 h2 M n=>cDig p l h1 h2 M n)) (fun x=>erow_pl) Try.func52 (by kernel_rfl)
theorem repO_fl {t:Tb} {w:Nat} {n:Int}:(retOf [TbO t,U w,I n]).flat:=by
 intro a ha
 simp at ha
 rcases ha with rfl|rfl|rfl
 ·exact TbO_fl
 ·trivial
 ·trivial
noncomputable def ReF:List AV→Option AV:=specF (ι:={x:Tb×Int×Nat // tbOK x.1∧x.2.2<2^64}) (fun x=>[TbV x.1.1,I x.1.2.1,U x.1.2.2]) fun x=>retOf [TbO (repP x.1.1 x.1.2.1 x.1.2.2).1,U (repP x.1.1 x.1.2.1 x.1.2.2).2.1,I (repP x.1.1 x.1.2.1 x.1.2.2).2.2]
noncomputable def Te52:AX:=Te51.add 50 (callP ReF)
theorem te52:XOK Try.prog Te52:=xok_spec te51 (s50 Te51 te51 w0T (fun t h n lim M k=>cCk t h n lim M k) (fun t p h M n=>cLa t p h M n) (fun n h M k=>cDe n h M k) (fun e l M n=>cSu e l M n) (fun t h M n=>cCl t h M n) rfl) (fun x=>repO_fl) Try.func50 (by kernel_rfl)
noncomputable abbrev TeA:AX:=Te52
theorem teA:XOK Try.prog TeA:=te52
end Go.AM
namespace Go.AM
open Go Go.Proofs
set_option maxRecDepth 4000
theorem open_erow {l:List Pe} {n:Nat}:openRet n (retOf [.ow 2 (erows l)])=(.sl n 1 2 0 l.length,[(n,.vec 1 2 false (erows l))],n+1):=by
 simp [retOf,openRet,openVal,openLeaf,erows]
end Go.AM
namespace Go.AM
open Go
def Unt (E:Env) (w:World) (k:Nat):Prop:=k<w.heap.size∧¬ E.G k∧∀ b base sz,E.alive b→E.loc b≠some (k,base,sz)
theorem SatF.other {N:Nat} {w0:World} {bl:Bk} {E:Env} {a:Act} {w w':World} {g:Nat→AV} {m:Nat→AO} (h:SatF N w0 bl E a w g m) {r:Nat} (hg:¬ E.G r) (hl:∀ b base sz,E.alive b→E.loc b≠some (r,base,sz)) (hr0:w0.heap.size≤r)
  (hsz:w.heap.size≤w'.heap.size) (hos:w'.os=w.os) (hout:w'.output=w.output) (hk:∀ k,k<w.heap.size→k≠r→w'.heap[k]?=w.heap[k]?):SatF N w0 bl E a w' g m:=by
 have hG:∀ k,E.G k→w'.heap[k]?=w.heap[k]?:=fun k hk'=>hk k (h.inv.good k hk') fun e=>hg (e ▸ hk')
 refine ⟨h.defers,h.size,⟨⟨hos.trans h.inv.frame.os,hout.trans h.inv.frame.out,Nat.le_trans h.inv.frame.size hsz,fun k h1 h2=>?_⟩,h.inv.gin,h.inv.low,h.inv.gout,fun k hk'=>Nat.lt_of_lt_of_le (h.inv.good k hk') hsz,fun b blk base sz h1 h2=>?_,h.inv.apart⟩,fun b hb=>?_,fun t=>?_⟩
 ·rw [hk k (by have:=h.inv.frame.size;omega) (by omega)]
  exact h.inv.frame.old k h1 h2
 ·obtain ⟨q1,q2,q3⟩:=h.inv.locs b blk base sz h1 h2
  exact ⟨by omega,q2,q3⟩
 ·refine (h.mem b hb).mono (Env.Le.refl E) hG rfl rfl fun blk base sz h1=>?_
  exact hk blk (h.inv.locs b blk base sz hb h1).1 fun e=>hl b base sz hb (e ▸ h1)
 ·exact (h.slots t).mono (Env.Le.refl E) hG
def SatX (N:Nat) (w0:World) (bl:Bk) (a:Act) (w:World) (st:St) (F:List Nat):Prop :=
 ∃ E,SatF N w0 bl E a w (getS st.s) (getM st.m)∧(∀ k,E.alive k→k<st.nx)∧(∀ k,getM st.m k≠.dead→k<st.nx)∧∀ k∈F,Unt E w k
theorem SatX.put {N:Nat} {w0:World} {bl:Bk} {a:Act} {w:World} {s:List (Nat×AV)} {m:List (Nat×AO)} {nx:Nat} {F:List Nat} (h:SatX N w0 bl a w ⟨s,m,nx⟩ F) {d:Nat} (hd:d<N) {av:AV} {x:Value} (hx:∀ E:Env,Rep E w av x):SatX N w0 bl (a.put (some d) x) w ⟨(d,av)::s,m,nx⟩ F:=by
 obtain ⟨E,h1,h2,h3,h4⟩:=h
 have st:StepTo w0 bl E w [] E w:=StepTo.refl h1.inv rfl rfl rfl
 have:=h1.put (o:={ (default:Oper) with dst:=some d }) st (by simp [dstOK,hd]) (hx E)
 refine ⟨E,?_,h2,h3,h4⟩
 have e:getS ((d,av)::s)=putF (getS s) (some d) av:=by
  funext t
  simp only [getS,putF,Option.some.injEq]
 rw [e]
 exact this
theorem SatX.other {N:Nat} {w0:World} {bl:Bk} {a:Act} {w w':World} {st:St} {F:List Nat} (h:SatX N w0 bl a w st F) {r:Nat} (hr:r∈F) (hr0:w0.heap.size≤r)
  (hsz:w.heap.size≤w'.heap.size) (hos:w'.os=w.os) (hout:w'.output=w.output) (hk:∀ k,k<w.heap.size→k≠r→w'.heap[k]?=w.heap[k]?):SatX N w0 bl a w' st F:=by
 obtain ⟨E,h1,h2,h3,h4⟩:=h
 exact ⟨E,h1.other (h4 r hr).2.1 (h4 r hr).2.2 hr0 hsz hos hout hk,h2,h3,fun k hk'=>⟨Nat.lt_of_lt_of_le (h4 k hk').1 hsz,(h4 k hk').2⟩⟩
end Go.AM
namespace Go.AM
open Go Go.Proofs
@[simp] theorem one_mapM (b:Option Nat):(Value.map b).oneCell'=true:=rfl
end Go.AM
namespace Go.AM
open Go Go.Proofs
def gpe (l:List Pe) (i:Nat):Pe:=l.getD i (0,0)
theorem gpe_eq {l:List Pe} {i:Nat} (h:i<l.length):gpe l i=l[i]:=by
 unfold gpe
 rw [List.getD_eq_getElem?_getD,List.getElem?_eq_getElem h];rfl
theorem gpe_mem {l:List Pe} {i:Nat} (h:i<l.length):gpe l i∈l:=by rw [gpe_eq h];exact List.getElem_mem h
theorem lst_u64 {t:Tb} (ht:tbOK t):∀ x∈lstT t,x.2<2^64:=by
 unfold lstT
 split
 ·rename_i h0
  have hpv:=chk_pv ht h0
  have key:∀ n,n≤512→∀ x∈lsA t n,x.2<2^64:=by
   intro n
   induction n with
   | zero=>intro _ x hx;simp [lsA] at hx
   | succ n ih =>
    intro hn x hx
    simp only [lsA] at hx
    rcases List.mem_append.1 hx with h|h
    ·exact ih (by omega) x h
    ·unfold lsF at h
     split at h
     ·simp at h
      rw [h]
      exact lsT_u64 ht hpv (by omega)
     ·simp at h
  exact key 512 (Nat.le_refl _)
 ·intro x hx;simp at hx
theorem lstT_l5 {t:Tb}:(lstT t).length≤512:=by
 unfold lstT
 split
 ·have key:∀ n,(lsA t n).length≤n:=by
   intro n
   induction n with
   | zero=>simp [lsA]
   | succ n ih =>
    simp only [lsA,List.length_append]
    have:(lsF t n).length≤1:=by unfold lsF;split<;>simp
    omega
  exact key 512
 ·simp
theorem erows_giM {l:List Pe} {i:Nat} (h:i<l.length):(erows l)[i]?=some [I (gpe l i).1,U (gpe l i).2]:=by
 rw [gpe_eq h]
 simp [erows,erow,List.getElem?_eq_getElem h]
theorem erows_gEM {l:List Pe} {i:Nat} (h:i<l.length):∀ h',(erows l)[i]'(h')=[I (gpe l i).1,U (gpe l i).2]:=fun h'=>by
 have:=erows_giM h
 rw [List.getElem?_eq_getElem h'] at this
 exact Option.some.inj this
end Go.AM
namespace Go.AM
open Go Go.Proofs
@[simp] theorem tyMpgF:Types Try.prog 71=some ⟨.struct [(0,3,1),(1,3,1)],2,16,[.int .i64 0,.int .i64 0]⟩:=by kernel_rfl
@[simp] theorem tyMpgsF:Types Try.prog 29=some ⟨.slice 71,1,24,[.slice none 0 0]⟩:=by kernel_rfl
def nmE (x:Pe):List (Int×Int):=if (decR x.2).1.1=1∧(decR x.2).1.2.2.2.2.2=true then (List.range 8).map fun i=>(x.1+(i:Nat),(decR x.2).1.2.1+(i:Nat))
 else if (decR x.2).1.1=1∨(decR x.2).1.1=3 then [(x.1,(decR x.2).1.2.1)] else []
def nmT (l:List Pe):List (Int×Int):=l.flatMap nmE
def ofE (fr s:Int) (l:List (Int×Int)):List Dp:=(l.filter fun x=>decide (x.2=fr)).map fun x=>(s,x.1)
theorem ofE_app {fr s:Int} {a b:List (Int×Int)}:ofE fr s (a++b)=ofE fr s a++ofE fr s b:=by simp [ofE]
theorem ofE_1 {fr s x f:Int}:ofE fr s [(x,f)]=if f=fr then [(s,x)] else []:=by
 unfold ofE
 by_cases h:f=fr<;>simp [h]
theorem ofE_len {fr s:Int} {a:List (Int×Int)}:(ofE fr s a).length≤a.length:=by
 unfold ofE
 rw [List.length_map]
 exact List.length_filter_le _ _
theorem nmE_len {x:Pe}:(nmE x).length≤8:=by
 unfold nmE
 split
 ·simp
 ·split<;>simp
theorem nmT_len:∀ {l:List Pe},(nmT l).length≤8*l.length
 | []=>by simp [nmT]
 | x::l=>by
  have h1:=@nmT_len l
  have h2:=@nmE_len x
  unfold nmT at h1 ⊢
  simp only [List.flatMap_cons,List.length_append,List.length_cons]
  omega
theorem nmT_s {l:List Pe} {i:Nat} (h:i<l.length):nmT (l.take (i+1))=nmT (l.take i)++nmE (gpe l i):=by
 unfold nmT
 rw [List.take_add_one,List.getElem?_eq_getElem h,gpe_eq h,List.flatMap_append]
 simp
theorem lst_pg {t:Tb}:∀ x∈lstT t,0≤x.1∧x.1<512:=by
 unfold lstT
 split
 ·have key:∀ n,n≤512→∀ x∈lsA t n,0≤x.1∧x.1<512:=by
   intro n
   induction n with
   | zero=>intro _ x hx;simp [lsA] at hx
   | succ n ih =>
    intro hn x hx
    simp only [lsA] at hx
    rcases List.mem_append.1 hx with h|h
    ·exact ih (by omega) x h
    ·unfold lsF at h
     split at h
     ·simp at h
      rw [h]
      simp only
      omega
     ·simp at h
  exact key 512 (Nat.le_refl _)
 ·intro x hx;simp at hx
def ofM (L:List Dp) (v:Nat) (fr s:Int):List AO:=[.box [I fr],.box [.sl 2 v 2 0 L.length],.vec v 2 false (prows L),.box [I s]]
theorem ofM_inj {L L':List Dp} {v v':Nat} {fr fr' s s':Int} (h:ofM L v fr s=ofM L' v' fr' s'):L=L'∧fr=fr'∧s=s':=by
 simp only [ofM,List.cons.injEq,AO.box.injEq,I,AV.v.injEq,Value.int.injEq,true_and,AO.vec.injEq,prows_inj,and_true] at h
 exact ⟨h.2.2.1.2,h.1,h.2.2.2⟩
abbrev OfD:=List Dp×Int×Int×Int×Int
noncomputable def ofS:List AV→List AO→Option (AV×List AO):=specG (ι:={x:OfD // x.1.length≤1000000}) (fun x=>[I x.1.2.2.2.1,I x.1.2.2.2.2,.bp 0 0,.bp 1 0,.bp 3 0]) (fun x=>ofM x.1.1 1 x.1.2.1 x.1.2.2.1) (fun _=>.tup [])
 fun x=>ofM (x.1.1++ofE x.1.2.1 x.1.2.2.1 [(x.1.2.2.2.1,x.1.2.2.2.2)]) (1+(ofE x.1.2.1 x.1.2.2.1 [(x.1.2.2.2.1,x.1.2.2.2.2)]).length) x.1.2.1 x.1.2.2.1
theorem ofS_at {L:List Dp} (fr s pg nu:Int) (h:L.length≤1000000):ofS [I pg,I nu,.bp 0 0,.bp 1 0,.bp 3 0] (ofM L 1 fr s)=some (.tup [],ofM (L++ofE fr s [(pg,nu)]) (1+(ofE fr s [(pg,nu)]).length) fr s):=by
 refine specG_eq (ι:={x:OfD // x.1.length≤1000000}) (A:=fun x=>[I x.1.2.2.2.1,I x.1.2.2.2.2,.bp 0 0,.bp 1 0,.bp 3 0]) (M:=fun x=>ofM x.1.1 1 x.1.2.1 x.1.2.2.1) (R:=fun _=>.tup []) (O:=fun x=>ofM (x.1.1++ofE x.1.2.1 x.1.2.2.1 [(x.1.2.2.2.1,x.1.2.2.2.2)]) (1+(ofE x.1.2.1 x.1.2.2.1 [(x.1.2.2.2.1,x.1.2.2.2.2)]).length) x.1.2.1 x.1.2.2.1) ⟨(L,fr,s,pg,nu),h⟩ fun j hA hM=>?_
 obtain ⟨⟨L',fr',s',pg',nu'⟩,h'⟩:=j
 obtain ⟨rfl,rfl,rfl⟩:=ofM_inj hM
 simp only [List.cons.injEq,I,AV.v.injEq,Value.int.injEq,true_and,and_true] at hA
 obtain ⟨rfl,rfl⟩:=hA
 exact ⟨rfl,rfl⟩
theorem prows_ap1 (A:List Dp) (a b:Int):prows A++[[I a,I b]]=prows (A++[(a,b)]):=by simp [prows]
theorem tkPr (A:List Dp):List.take A.length (prows A)=prows A:=List.take_of_length_le (by simp)
set_option maxHeartbeats 4000000 in
theorem s41 (X:AX) (hX:XOK Try.prog X) (hw:X.W wT):GSound Try.prog 41 ofS:=by
 unfold ofS
 refine gsound_spec Try.func41 rfl X fun ⟨⟨L,fr,s,pg,nu⟩,hl⟩ w0 B E=>⟨by show 5≤16;decide,?_⟩
 simp only at hl ⊢
 rw [ofE_1]
 simp only [ofM]
 show AW ⟨Try.prog,X,16,w0,⟨B,E,4⟩⟩ _ _ _
 have hc:Cx.OK ⟨Try.prog,X,16,w0,⟨B,E,4⟩⟩:=⟨hX,mixed⟩
 rcases Decidable.em (nu=fr) with h1|h1
 ·subst h1
  simp only [if_true,List.length_append,List.length_cons,List.length_nil,Nat.zero_add]
  have zS:=jj hl<|jj prows_ap1<|tkPr
  refine dM64 ?_
  repeat (intro K hK)
  clear zS
  refine ⟨[],rfl,?_⟩
  simp only [idx]
  exact dle
 ·simp only [if_neg h1,List.append_nil,List.length_nil,Nat.add_zero]
  have zS:=jj hl<|h1
  refine dM64 ?_
  repeat (intro K hK)
  clear zS
  refine ⟨by simp,[],rfl,?_⟩
  simp only [idx]
  exact dle
end Go.AM
set_option maxHeartbeats 16000000
namespace Go.AM
open Go Go.Proofs
set_option maxRecDepth 4000 in
theorem callOf {L:List Dp} (fr s pg nu:Int) {v:Nat} (hl:L.length≤1000000) (hv:1≤v) {a b c d:Nat} (hab:a≠b) (hac:a≠c) (had:a≠d) (hbc:b≠c) (hbd:b≠d) (hcd:c≠d) (M:Nat→AO) (nid:Nat) (h0:M a=.box [I fr]) (h1:M b=.box [.sl c v 2 0 L.length]) (h2:M c=.vec v 2 false (prows L)) (h3:M d=.box [I s]) :
  callG ofS [I pg,I nu,.bp a 0,.bp b 0,.bp d 0] M nid=some (.tup [],[(a,.box [I fr]),(b,.box [.sl c (v+(ofE fr s [(pg,nu)]).length) 2 0 (L.length+(ofE fr s [(pg,nu)]).length)]),(c,.vec (v+(ofE fr s [(pg,nu)]).length) 2 false (prows (L++ofE fr s [(pg,nu)]))),(d,.box [I s])]):=by
 have hF:=ofS_at fr s pg nu hl
 obtain ⟨N,hN⟩:∃ N,N=ofE fr s [(pg,nu)]:=⟨_,rfl⟩
 rw [← hN] at hF ⊢
 simp only [ofM,List.length_append] at hF
 obtain ⟨u,rfl⟩:∃ u,v=1+u:=⟨v - 1,by omega⟩
 have hba:=hab.symm
 have hca:=hac.symm
 have hda:=had.symm
 have hcb:=hbc.symm
 have hdb:=hbd.symm
 have hdc:=hcd.symm
 have e1:1+N.length+u=1+u+N.length:=by omega
 unfold callG
 have hg:gat M 64 (nmsL [I pg,I nu,.bp a 0,.bp b 0,.bp d 0]) []=[a,b,c,d]:=by
  simp [gat,nmsL,AV.nms,AO.nms,h0,h1,h2,h3, *]
 simp only [hg]
 rw [if_pos ?cg]
 case cg=>simp [CallG,nmsL,AV.nms,AO.nms,Led,curBL,AV.curB,AO.curB,verOf,notDead,h0,h1,h2,h3,hab,hac,had,hbc,hbd,hcd,hba,hca,hda,hcb,hdb,hdc]
 simp [renL,AV.ren,AO.ren,posN,canO,nmsL,h0,h1,h2,h3,hab,hac,had,hbc,hbd,hcd,hba,hca,hda,hcb,hdb,hdc,hF,RetG,getL,AV.nms,AO.nms,updN,nmN,shN,verOf,rng,Led,e1]
abbrev NaD:=Tb×List Dp×Int×Int
noncomputable def naS:List AV→List AO→Option (AV×List AO):=specG (ι:={x:NaD // tbOK x.1∧x.2.1.length≤900000}) (fun x=>[TbV x.1.1,.fn 41 [.bp 0 0,.bp 1 0,.bp 3 0]]) (fun x=>ofM x.1.2.1 1 x.1.2.2.1 x.1.2.2.2) (fun _=>.tup [])
 fun x=>ofM (x.1.2.1++ofE x.1.2.2.1 x.1.2.2.2 (nmT (lstT x.1.1))) (1+(ofE x.1.2.2.1 x.1.2.2.2 (nmT (lstT x.1.1))).length) x.1.2.2.1 x.1.2.2.2
theorem naS_at {t:Tb} {L:List Dp} (fr s:Int) (ht:tbOK t) (h:L.length≤900000):naS [TbV t,.fn 41 [.bp 0 0,.bp 1 0,.bp 3 0]] (ofM L 1 fr s)=some (.tup [],ofM (L++ofE fr s (nmT (lstT t))) (1+(ofE fr s (nmT (lstT t))).length) fr s):=by
 refine specG_eq (ι:={x:NaD // tbOK x.1∧x.2.1.length≤900000}) (A:=fun x=>[TbV x.1.1,.fn 41 [.bp 0 0,.bp 1 0,.bp 3 0]]) (M:=fun x=>ofM x.1.2.1 1 x.1.2.2.1 x.1.2.2.2) (R:=fun _=>.tup []) (O:=fun x=>ofM (x.1.2.1++ofE x.1.2.2.1 x.1.2.2.2 (nmT (lstT x.1.1))) (1+(ofE x.1.2.2.1 x.1.2.2.2 (nmT (lstT x.1.1))).length) x.1.2.2.1 x.1.2.2.2) ⟨(t,L,fr,s),ht,h⟩ fun j hA hM=>?_
 obtain ⟨⟨t',L',fr',s'⟩,h'⟩:=j
 obtain ⟨rfl,rfl,rfl⟩:=ofM_inj hM
 simp only [List.cons.injEq,TbV_inj,and_true] at hA
 subst hA
 exact ⟨rfl,rfl⟩
theorem s40 (X:AX) (hX:XOK Try.prog X) (hw:X.W wT) (hli:∀ t:Tb,tbOK t→∀ M n,X.call 29 [TbV t] M n=some (.sl n 1 2 0 (lstT t).length,[(n,.vec 1 2 false (erows (lstT t)))]))
  (hde:∀ w:Nat,w<2^64→∀ M k,X.call 30 [U w] M k=some (.tup [EnV (decR w).1,I (decR w).2],[])) (hcl:X.call 41=callG ofS):GSound Try.prog 40 naS:=by
 unfold naS
 refine gsound_spec Try.func40 rfl X fun ⟨⟨⟨r,ns,ds⟩,L,fr,s⟩,ht,hl⟩ w0 B E=>⟨by show 2≤60;decide,?_⟩
 simp only at hl ht ⊢
 have li:=hli _ ht
 have hlu:=lst_u64 ht
 have hlp:=@lst_pg (r,ns,ds)
 have hll:=@lstT_l5 (r,ns,ds)
 obtain ⟨l,hL⟩:∃ l,l=lstT (r,ns,ds):=⟨_,rfl⟩
 rw [← hL] at li hlu hlp hll ⊢
 simp only [ofM,List.length_append]
 simp only [TbV] at li ⊢
 have hll2:=@nmT_len l
 have hall:=@ofE_len fr s (nmT l)
 have hca:∀ (A:List Dp) (v:Nat) (pg nu:Int),A.length≤1000000→1≤v→∀ M n,M 0=.box [I fr]→M 1=.box [.sl 2 v 2 0 A.length]→M 2=.vec v 2 false (prows A)→M 3=.box [I s] →
   X.call 41 [I pg,I nu,.bp 0 0,.bp 1 0,.bp 3 0] M n=some (.tup [],[(0,.box [I fr]),(1,.box [.sl 2 (v+(ofE fr s [(pg,nu)]).length) 2 0 (A.length+(ofE fr s [(pg,nu)]).length)]),(2,.vec (v+(ofE fr s [(pg,nu)]).length) 2 false (prows (A++ofE fr s [(pg,nu)]))),(3,.box [I s])]) :=
  fun A v pg nu h1 h2 M n q0 q1 q2 q3=>by rw [hcl];exact callOf fr s pg nu h1 h2 (by decide) (by decide) (by decide) (by decide) (by decide) (by decide) M n q0 q1 q2 q3
 show AW ⟨Try.prog,X,60,w0,⟨B,E,4⟩⟩ _ _ _
 have hc:Cx.OK ⟨Try.prog,X,60,w0,⟨B,E,4⟩⟩:=⟨hX,mixed⟩
 have zS:=li
 repeat' (first|(apply aw_seq_k;intro K hK)|(refine eM64 ?_)|(refine aw_cond (b:=_) (by exact rfl) (fun h=>?_) (fun h=>?_)<;>(try simp at h))|(refine eB ?_)|(refine hK _ ?_;clear hK)|(clear hK;refine hK _ ?_;clear hK)|(clear hK;clear hK;refine hK _ ?_;clear hK)|(clear hK;clear hK;clear hK;refine hK _ ?_;clear hK))
 all_goals clear zS
 refine aw_loopK (s0:=?lps1) (m0:=?lpm1) (ι:={i:Nat // i≤l.length}) [1,10,11] (fun i=>[(12,I i.1)]) (fun i=>[(1,.box [.sl 2 (1+(ofE fr s (nmT (l.take i.1))).length) 2 0 (L++ofE fr s (nmT (l.take i.1))).length]),(2,.vec (1+(ofE fr s (nmT (l.take i.1))).length) 2 false (prows (L++ofE fr s (nmT (l.take i.1)))))]) (fun i=>l.length - i.1) ⟨0,by omega⟩ ?lhs1 ?lhm1 ?_ ?_
 case lhs1=>first|(simp [keepS];done)|(simp [keepS];rfl)
 case lhm1=>first|rfl|(simp;done)|(simp;rfl)
 ·simp only [show ofE fr s (nmT (l.take 0))=[] by simp [nmT,ofE],List.append_nil,List.length_nil,Nat.add_zero]
  exact dle
 ·rintro ⟨i,hi⟩
  simp only
  have hNl:(ofE fr s (nmT (l.take i))).length≤4096:=by
   have h1:=@ofE_len fr s (nmT (l.take i))
   have h2:=@nmT_len (l.take i)
   have h3:(l.take i).length≤512:=by simp;omega
   omega
  rcases Decidable.em (i<l.length) with hil|hil
  ·have hilI:(i:Int)<(l.length:Int):=by omega
   have hg:=erows_giM hil
   have hgE:=erows_gEM hil
   have hu:=hlu _ (gpe_mem hil)
   have hpg:=hlp _ (gpe_mem hil)
   have de:=hde _ hu
   have hrg:=decR_rng (gpe l i).2
   have hns:=nmT_s hil
   obtain ⟨N,hN⟩:∃ N,N=ofE fr s (nmT (l.take i)):=⟨_,rfl⟩
   have hNs:ofE fr s (nmT (l.take (i+1)))=N++ofE fr s (nmE (gpe l i)):=by rw [hns,ofE_app,hN]
   rw [← hN] at hNl ⊢
   obtain ⟨⟨pg,w⟩,hx⟩:∃ x,x=gpe l i:=⟨_,rfl⟩
   rw [← hx] at hg hgE hu hpg de hrg hNs
   simp only at hg hgE hu hpg de hrg
   have hnE:nmE (pg,w)=if (decR w).1.1=1∧(decR w).1.2.2.2.2.2=true then (List.range 8).map fun i=>(pg+(i:Nat),(decR w).1.2.1+(i:Nat)) else if (decR w).1.1=1∨(decR w).1.1=3 then [(pg,(decR w).1.2.1)] else []:=rfl
   obtain ⟨⟨⟨k,num,b1,b2,b3,hgh⟩,er⟩,hD⟩:∃ x,x=decR w:=⟨_,rfl⟩
   rw [← hD] at de hrg hnE
   simp only at de hrg hnE
   simp only [EnV] at de
   rcases Decidable.em (k=1) with hk|hk
   ·subst hk
    cases hgh with
    | true =>
     rw [if_pos (by simp)] at hnE
     have zS:=jj hilI<|jj hg<|jj hgE<|de
     repeat' (first|(apply aw_seq_k;intro K hK)|(refine eM64 ?_)|(refine aw_cond (b:=_) (by exact rfl) (fun h=>?_) (fun h=>?_)<;>(try simp at h))|(refine eB ?_)|(refine hK _ ?_;clear hK)|(clear hK;refine hK _ ?_;clear hK)|(clear hK;clear hK;refine hK _ ?_;clear hK)|(clear hK;clear hK;clear hK;refine hK _ ?_;clear hK))
     all_goals clear zS
     have hQs:∀ j,j<8→ofE fr s ((nmE (pg,w)).take (j+1))=ofE fr s ((nmE (pg,w)).take j)++ofE fr s [(pg+(j:Nat),num+(j:Nat))]:=fun j hj=>by
      rw [← ofE_app]
      congr 1
      rw [hnE,List.take_add_one]
      simp [List.getElem?_range,hj]
     have hQl:∀ j,(ofE fr s ((nmE (pg,w)).take j)).length≤8:=fun j=>by
      have h1:=@ofE_len fr s ((nmE (pg,w)).take j)
      have h2:=@nmE_len (pg,w)
      have h3:((nmE (pg,w)).take j).length≤(nmE (pg,w)).length:=by simp;omega
      omega
     have hQ8:(nmE (pg,w)).take 8=nmE (pg,w):=List.take_of_length_le nmE_len
     clear hnE
     obtain ⟨F,hF⟩:∃ F:Nat→List Dp,∀ j,F j=ofE fr s ((nmE (pg,w)).take j):=⟨_,fun _=>rfl⟩
     have hF0:F 0=[]:=by rw [hF];simp [ofE]
     have hF8:ofE fr s (nmE (pg,w))=F 8:=by rw [hF,hQ8]
     rw [hF8] at hNs
     simp only [← hF] at hQs hQl
     refine aw_loopK (s0:=?lps2) (m0:=?lpm2) (ι:={j:Nat // j≤8}) [1,5,6,10,11,12] (fun j=>[(30,I j.1)]) (fun j=>[(1,.box [.sl 2 (1+N.length+(F j.1).length) 2 0 (L.length+N.length+(F j.1).length)]),(2,.vec (1+N.length+(F j.1).length) 2 false (prows (L++(N++F j.1))))]) (fun j=>8 - j.1) ⟨0,by omega⟩ ?lhs2 ?lhm2 ?_ ?_
     case lhs2=>first|(simp [keepS];done)|(simp [keepS];rfl)
     case lhm2=>first|rfl|(simp;done)|(simp;rfl)
     ·simp only [hF0,List.append_nil,List.length_nil,Nat.add_zero]
      exact le_of2 (by simp) (by simp [AVle,AV.under,AV.underL,U]<;>omega) (by simp [AOle,AO.under,AV.underL,AV.under,U]<;>omega)
     ·rintro ⟨j,hj⟩
      simp only
      rcases Decidable.em (j<8) with hjl|hjl
      ·have hjI:(j:Int)<8:=by omega
       have hql:=hQl j
       have ca:=hca (L++(N++F j)) (1+N.length+(F j).length) (pg+(j:Nat)) (num+(j:Nat)) (by simp;omega) (by omega)
       have hqs:=hQs j hjl
       obtain ⟨Q,hQ⟩:∃ Q,Q=ofE fr s [(pg+(j:Nat),num+(j:Nat))]:=⟨_,rfl⟩
       rw [← hQ] at ca hqs
       obtain ⟨P,hP⟩:∃ P,P=F j:=⟨_,rfl⟩
       rw [← hP] at hql ca hqs ⊢
       simp only [List.length_append,← Nat.add_assoc] at ca
       have zS:=jj hjI<|ca
       repeat' (first|(apply aw_seq_k;intro K hK)|(refine eM64 ?_)|(refine aw_cond (b:=_) (by exact rfl) (fun h=>?_) (fun h=>?_)<;>(try simp at h))|(refine eB ?_)|(refine hK _ ?_;clear hK)|(clear hK;refine hK _ ?_;clear hK)|(clear hK;clear hK;refine hK _ ?_;clear hK)|(clear hK;clear hK;clear hK;refine hK _ ?_;clear hK))
       all_goals clear zS
       refine ⟨j+1,?_,by omega,by omega⟩
       simp only [hqs,List.length_append,← Nat.add_assoc,List.append_assoc]
       exact le_of2 (by simp) (by simp [AVle,AV.under,AV.underL,U]<;>omega) (by simp [AOle,AO.under,AV.underL,AV.under,U]<;>omega)
      ·obtain rfl:j=8:=by omega
       repeat' (first|(apply aw_seq_k;intro K hK)|(refine eM64o ?_)|(refine aw_cond (b:=_) (by exact rfl) (fun h=>?_) (fun h=>?_)<;>(try simp at h))|(refine eB ?_)|(refine hK _ ?_;clear hK)|(clear hK;refine hK _ ?_;clear hK)|(clear hK;clear hK;refine hK _ ?_;clear hK)|(clear hK;clear hK;clear hK;refine hK _ ?_;clear hK))
       refine ⟨i+1,?_,by omega,by omega⟩
       simp only [hNs,List.length_append,← Nat.add_assoc]
       exact dle
    | false =>
     rw [if_neg (by simp),if_pos (by simp)] at hnE
     have ca:=hca (L++N) (1+N.length) pg num (by simp;omega) (by omega)
     have hNs':(ofE fr s [(pg,num)])=(ofE fr s [(pg,num)]):=rfl
     rw [hnE] at hNs
     obtain ⟨Q,hQ⟩:∃ Q,Q=ofE fr s [(pg,num)]:=⟨_,rfl⟩
     rw [← hQ] at ca hNs
     simp only [List.length_append] at ca
     have zS:=jj hilI<|jj hg<|jj hgE<|jj de<|ca
     repeat' (first|(apply aw_seq_k;intro K hK)|(refine eM64 ?_)|(refine aw_cond (b:=_) (by exact rfl) (fun h=>?_) (fun h=>?_)<;>(try simp at h))|(refine eB ?_)|(refine hK _ ?_;clear hK)|(clear hK;refine hK _ ?_;clear hK)|(clear hK;clear hK;refine hK _ ?_;clear hK)|(clear hK;clear hK;clear hK;refine hK _ ?_;clear hK))
     all_goals clear zS
     refine ⟨i+1,?_,by omega,by omega⟩
     simp only [hNs,List.length_append,← Nat.add_assoc]
     exact dle
   ·rcases Decidable.em (k=3) with hk3|hk3
    ·subst hk3
     rw [if_neg (by simp),if_pos (by simp)] at hnE
     have ca:=hca (L++N) (1+N.length) pg num (by simp;omega) (by omega)
     rw [hnE] at hNs
     obtain ⟨Q,hQ⟩:∃ Q,Q=ofE fr s [(pg,num)]:=⟨_,rfl⟩
     rw [← hQ] at ca hNs
     simp only [List.length_append] at ca
     have zS:=jj hilI<|jj hg<|jj hgE<|jj de<|ca
     repeat' (first|(apply aw_seq_k;intro K hK)|(refine eM64 ?_)|(refine aw_cond (b:=_) (by exact rfl) (fun h=>?_) (fun h=>?_)<;>(try simp at h))|(refine eB ?_)|(refine hK _ ?_;clear hK)|(clear hK;refine hK _ ?_;clear hK)|(clear hK;clear hK;refine hK _ ?_;clear hK)|(clear hK;clear hK;clear hK;refine hK _ ?_;clear hK))
     all_goals clear zS
     refine ⟨i+1,?_,by omega,by omega⟩
     simp only [hNs,List.length_append,← Nat.add_assoc]
     exact dle
    ·rw [if_neg (by simp [hk]),if_neg (by simp [hk,hk3])] at hnE
     rw [hnE,show ofE fr s []=[] from rfl,List.append_nil] at hNs
     have zS:=jj hilI<|jj hg<|jj hgE<|jj de<|jj hk<|hk3
     repeat' (first|(apply aw_seq_k;intro K hK)|(refine eM64 ?_)|(refine aw_cond (b:=_) (by exact rfl) (fun h=>?_) (fun h=>?_)<;>(try simp at h))|(refine eB ?_)|(refine hK _ ?_;clear hK)|(clear hK;refine hK _ ?_;clear hK)|(clear hK;clear hK;refine hK _ ?_;clear hK)|(clear hK;clear hK;clear hK;refine hK _ ?_;clear hK))
     all_goals clear zS
     refine ⟨i+1,?_,by omega,by omega⟩
     simp only [hNs,List.length_append]
     exact dle
  ·obtain rfl:i=l.length:=by omega
   rw [List.take_length]
   repeat' (first|(apply aw_seq_k;intro K hK)|(refine eM64o ?_)|(refine aw_cond (b:=_) (by exact rfl) (fun h=>?_) (fun h=>?_)<;>(try simp at h))|(refine eB ?_)|(refine hK _ ?_;clear hK)|(clear hK;refine hK _ ?_;clear hK)|(clear hK;clear hK;refine hK _ ?_;clear hK)|(clear hK;clear hK;clear hK;refine hK _ ?_;clear hK))
   refine ⟨[],rfl,?_⟩
   simp only [idx,List.length_append]
   exact dle
end Go.AM
set_option maxHeartbeats 16000000
namespace Go.AM
open Go Go.Proofs
@[simp] theorem tyNm:Types Try.prog 88=some ⟨.struct [(0,3,1),(1,3,1)],2,16,[.int .i64 0,.int .i64 0]⟩:=by kernel_rfl
@[simp] theorem tyNms:Types Try.prog 85=some ⟨.slice 88,1,24,[.slice none 0 0]⟩:=by kernel_rfl
@[simp] theorem tyTabs:Types Try.prog 22=some ⟨.slice 27,1,24,[.slice none 0 0]⟩:=by kernel_rfl
noncomputable def NmF:List AV→Option AV:=specF (ι:={x:Tb // tbOK x}) (fun x=>[TbV x.1]) fun x=>retOf [.ow 2 (prows (nmT (lstT x.1)))]
theorem s42 (X:AX) (hX:XOK Try.prog X) (hw:X.W wT) (hch:∀ t:Tb,tbOK t→∀ M n,X.call 35 [TbV t] M n=some (I (chk t),[]))
  (hli:∀ t:Tb,tbOK t→∀ M n,X.call 52 [TbV t] M n=some (.sl n 1 2 0 (lstT t).length,[(n,.vec 1 2 false (erows (lstT t)))]))
  (hde:∀ w:Nat,w<2^64→∀ M k,X.call 96 [U w] M k=some (.tup [EnV (decR w).1,I (decR w).2],[])):PSound Try.prog 42 NmF:=by
 unfold NmF
 refine psound_spec hX mixed Try.func42 rfl fun ⟨⟨r,ns,ds⟩,ht⟩ w0 G=>⟨by show 1≤76;decide,rfl,?_⟩
 show AW ⟨Try.prog,X,76,w0,.pure G⟩ _ _ _
 have hc:Cx.OK ⟨Try.prog,X,76,w0,.pure G⟩:=⟨hX,mixed⟩
 simp only at ht ⊢
 have ch:=hch _ ht
 have li:=hli _ ht
 have hlu:=lst_u64 ht
 have hlp:=@lst_pg (r,ns,ds)
 have hll:=@lstT_l5 (r,ns,ds)
 rcases Decidable.em (chk (r,ns,ds)=0) with h0|h0
 ·rw [h0] at ch
  obtain ⟨l,hL⟩:∃ l,l=lstT (r,ns,ds):=⟨_,rfl⟩
  rw [← hL] at li hlu hlp hll ⊢
  clear hL h0
  simp only [TbV] at ch li ⊢
  have zS:=jj ch<|li
  repeat' (first|(apply aw_seq_k;intro K hK)|(refine eM64 ?_)|(refine aw_cond (b:=_) (by exact rfl) (fun h=>?_) (fun h=>?_)<;>(try simp at h))|(refine eB ?_)|(refine hK _ ?_;clear hK)|(clear hK;refine hK _ ?_;clear hK)|(clear hK;clear hK;refine hK _ ?_;clear hK)|(clear hK;clear hK;clear hK;refine hK _ ?_;clear hK))
  all_goals clear zS
  refine aw_weaken (le_nilslot (t:=3) (sz:=2) (by simp)) ?_
  obtain ⟨F,hF⟩:∃ F:Nat→List (Int×Int),∀ j,F j=nmT (l.take j):=⟨_,fun _=>rfl⟩
  have hF0:F 0=[]:=by rw [hF];simp [nmT]
  have hFl:nmT l=F l.length:=by rw [hF,List.take_length]
  have hns:∀ i,i<l.length→F (i+1)=F i++nmE (gpe l i):=fun i hi=>by rw [hF,hF];exact nmT_s hi
  have hFb:∀ i,(F i).length≤4096:=fun i=>by
   have h2:=@nmT_len (l.take i)
   have h3:(l.take i).length≤512:=by simp;omega
   rw [hF];omega
  clear hF
  refine aw_loopK (s0:=?lps1) (m0:=?lpm1) (ι:={i:Nat // i≤l.length}) [4] (fun i=>[(5,I i.1),(3,.sl 160 1 2 0 (F i.1).length)]) (fun i=>[(160,.vec 1 2 false (prows (F i.1)))]) (fun i=>l.length - i.1) ⟨0,by omega⟩ ?lhs1 ?lhm1 ?_ ?_
  case lhs1=>first|(simp [keepS];done)|(simp [keepS];rfl)
  case lhm1=>first|rfl|(simp;done)|(simp;rfl)
  ·simp only [hF0]
   exact le_of2 (by simp) (by simp [AVle,AV.under,AV.underL,prows]<;>omega) (by simp [AOle,AO.under,AV.underL,AV.under,prows]<;>omega)
  ·rintro ⟨i,hi⟩
   simp only
   have hNl:=hFb i
   rcases Decidable.em (i<l.length) with hil|hil
   ·have hilI:(i:Int)<(l.length:Int):=by omega
    have hg:=erows_giM hil
    have hgE:=erows_gEM hil
    have hu:=hlu _ (gpe_mem hil)
    have hpg:=hlp _ (gpe_mem hil)
    have de:=hde _ hu
    have hrg:=decR_rng (gpe l i).2
    have hNs:=hns i hil
    obtain ⟨⟨pg,w⟩,hx⟩:∃ x,x=gpe l i:=⟨_,rfl⟩
    rw [← hx] at hg hgE hu hpg de hrg hNs
    simp only at hg hgE hu hpg de hrg
    have hnE:nmE (pg,w)=if (decR w).1.1=1∧(decR w).1.2.2.2.2.2=true then (List.range 8).map fun i=>(pg+(i:Nat),(decR w).1.2.1+(i:Nat)) else if (decR w).1.1=1∨(decR w).1.1=3 then [(pg,(decR w).1.2.1)] else []:=rfl
    obtain ⟨⟨⟨k,num,b1,b2,b3,hgh⟩,er⟩,hD⟩:∃ x,x=decR w:=⟨_,rfl⟩
    rw [← hD] at de hrg hnE
    simp only at de hrg hnE
    simp only [EnV] at de
    obtain ⟨N,hN⟩:∃ N,N=F i:=⟨_,rfl⟩
    rw [← hN] at hNs hNl ⊢
    have htk:=tkPr N
    rcases Decidable.em (k=1) with hk|hk
    ·subst hk
     cases hgh with
     | true =>
      rw [if_pos (by simp)] at hnE
      have hQs:∀ j,j<8→(nmE (pg,w)).take (j+1)=(nmE (pg,w)).take j++[(pg+(j:Nat),num+(j:Nat))]:=fun j hj=>by
       rw [hnE,List.take_add_one]
       simp [List.getElem?_range,hj]
      have hQ8:(nmE (pg,w)).take 8=nmE (pg,w):=List.take_of_length_le nmE_len
      have hQl:∀ j,((nmE (pg,w)).take j).length≤8:=fun j=>by
       have h2:=@nmE_len (pg,w)
       simp;omega
      clear hnE
      obtain ⟨Q,hQ⟩:∃ Q:Nat→List (Int×Int),∀ j,Q j=(nmE (pg,w)).take j:=⟨_,fun _=>rfl⟩
      have hQ0:Q 0=[]:=by rw [hQ];rfl
      rw [← hQ8,← hQ] at hNs
      simp only [← hQ] at hQs hQl
      clear hQ8 hQ
      have zS:=jj hilI<|jj hg<|jj hgE<|de
      repeat' (first|(apply aw_seq_k;intro K hK)|(refine eM64 ?_)|(refine aw_cond (b:=_) (by exact rfl) (fun h=>?_) (fun h=>?_)<;>(try simp at h))|(refine eB ?_)|(refine hK _ ?_;clear hK)|(clear hK;refine hK _ ?_;clear hK)|(clear hK;clear hK;refine hK _ ?_;clear hK)|(clear hK;clear hK;clear hK;refine hK _ ?_;clear hK))
      all_goals clear zS
      refine aw_loopK (s0:=?lps2) (m0:=?lpm2) (ι:={j:Nat // j≤8}) [4,5,6] (fun j=>[(8,I j.1),(3,.sl 160 1 2 0 (N.length+(Q j.1).length))]) (fun j=>[(160,.vec 1 2 false (prows (N++Q j.1)))]) (fun j=>8 - j.1) ⟨0,by omega⟩ ?lhs2 ?lhm2 ?_ ?_
      case lhs2=>first|(simp [keepS];done)|(simp [keepS];rfl)
      case lhm2=>first|rfl|(simp;done)|(simp;rfl)
      ·simp only [hQ0,List.append_nil,List.length_nil,Nat.add_zero]
       exact le_of2 (by simp) (by simp [AVle,AV.under,AV.underL,U]<;>omega) (by simp [AOle,AO.under,AV.underL,AV.under,U]<;>omega)
      ·rintro ⟨j,hj⟩
       simp only
       rcases Decidable.em (j<8) with hjl|hjl
       ·have hjI:(j:Int)<8:=by omega
        have hql:=hQl j
        have hqs:=hQs j hjl
        obtain ⟨P,hP⟩:∃ P,P=Q j:=⟨_,rfl⟩
        rw [← hP] at hql hqs ⊢
        have htk2:=tkPr (N++P)
        simp only [List.length_append] at htk2
        have zS:=jj hilI<|jj hg<|jj hgE<|jj hjI<|jj prows_ap1<|htk2
        repeat' (first|(apply aw_seq_k;intro K hK)|(refine eF64 ?_)|(refine aw_cond (b:=_) (by exact rfl) (fun h=>?_) (fun h=>?_)<;>(try simp at h))|(refine eB ?_)|(refine hK _ ?_;clear hK)|(clear hK;refine hK _ ?_;clear hK)|(clear hK;clear hK;refine hK _ ?_;clear hK)|(clear hK;clear hK;clear hK;refine hK _ ?_;clear hK))
        all_goals clear zS
        refine ⟨j+1,?_,by omega,by omega⟩
        simp only [hqs,List.length_append,List.length_cons,List.length_nil,Nat.zero_add,← Nat.add_assoc]
        refine le_turn (s1:=?tus3) (m1:=?tum3) [] [3,4,5,6,8] [0,112,160,369] ?tua3 ?tub3 ?tuc3 ?tud3 ?tue3 ?tuf3 ?tug3
        case tua3=>first|(simp [keepS];done)|(simp [keepS];rfl)
        case tub3=>first|(simp;done)|(simp;rfl)
        case tuc3=>simp
        case tud3=>simp
        case tue3=>simp
        case tuf3=>simp
        case tug3 =>
         simp [swp,vr]
         exact dle
       ·obtain rfl:j=8:=by omega
        repeat' (first|(apply aw_seq_k;intro K hK)|(refine eM64o ?_)|(refine aw_cond (b:=_) (by exact rfl) (fun h=>?_) (fun h=>?_)<;>(try simp at h))|(refine eB ?_)|(refine hK _ ?_;clear hK)|(clear hK;refine hK _ ?_;clear hK)|(clear hK;clear hK;refine hK _ ?_;clear hK)|(clear hK;clear hK;clear hK;refine hK _ ?_;clear hK))
        refine ⟨i+1,?_,by omega,by omega⟩
        simp only [hNs,List.length_append]
        refine le_turn (s1:=?tus4) (m1:=?tum4) [] [3,4,5] [0,112,160] ?tua4 ?tub4 ?tuc4 ?tud4 ?tue4 ?tuf4 ?tug4
        case tua4=>first|(simp [keepS];done)|(simp [keepS];rfl)
        case tub4=>first|(simp;done)|(simp;rfl)
        case tuc4=>simp
        case tud4=>simp
        case tue4=>simp
        case tuf4=>simp
        case tug4 =>
         simp [swp,vr]
         exact dle
     | false =>
      rw [if_neg (by simp),if_pos (by simp)] at hnE
      rw [hnE] at hNs
      have zS:=jj hilI<|jj hg<|jj hgE<|jj de<|jj hNl<|jj prows_ap1<|htk
      repeat' (first|(apply aw_seq_k;intro K hK)|(refine eF64 ?_)|(refine aw_cond (b:=_) (by exact rfl) (fun h=>?_) (fun h=>?_)<;>(try simp at h))|(refine eB ?_)|(refine hK _ ?_;clear hK)|(clear hK;refine hK _ ?_;clear hK)|(clear hK;clear hK;refine hK _ ?_;clear hK)|(clear hK;clear hK;clear hK;refine hK _ ?_;clear hK))
      all_goals clear zS
      refine ⟨i+1,?_,by omega,by omega⟩
      simp only [hNs,List.length_append,List.length_cons,List.length_nil,Nat.zero_add]
      refine le_turn (s1:=?tus5) (m1:=?tum5) [] [3,4,5] [0,112,160] ?tua5 ?tub5 ?tuc5 ?tud5 ?tue5 ?tuf5 ?tug5
      case tua5=>first|(simp [keepS];done)|(simp [keepS];rfl)
      case tub5=>first|(simp;done)|(simp;rfl)
      case tuc5=>simp
      case tud5=>simp
      case tue5=>simp
      case tuf5=>simp
      case tug5 =>
       simp [swp,vr]
       exact dle
    ·rcases Decidable.em (k=3) with hk3|hk3
     ·subst hk3
      rw [if_neg (by simp),if_pos (by simp)] at hnE
      rw [hnE] at hNs
      have zS:=jj hilI<|jj hg<|jj hgE<|jj de<|jj hNl<|jj prows_ap1<|htk
      repeat' (first|(apply aw_seq_k;intro K hK)|(refine eF64 ?_)|(refine aw_cond (b:=_) (by exact rfl) (fun h=>?_) (fun h=>?_)<;>(try simp at h))|(refine eB ?_)|(refine hK _ ?_;clear hK)|(clear hK;refine hK _ ?_;clear hK)|(clear hK;clear hK;refine hK _ ?_;clear hK)|(clear hK;clear hK;clear hK;refine hK _ ?_;clear hK))
      all_goals clear zS
      refine ⟨i+1,?_,by omega,by omega⟩
      simp only [hNs,List.length_append,List.length_cons,List.length_nil,Nat.zero_add]
      refine le_turn (s1:=?tus6) (m1:=?tum6) [] [3,4,5] [0,112,160] ?tua6 ?tub6 ?tuc6 ?tud6 ?tue6 ?tuf6 ?tug6
      case tua6=>first|(simp [keepS];done)|(simp [keepS];rfl)
      case tub6=>first|(simp;done)|(simp;rfl)
      case tuc6=>simp
      case tud6=>simp
      case tue6=>simp
      case tuf6=>simp
      case tug6 =>
       simp [swp,vr]
       exact dle
     ·rw [if_neg (by simp [hk]),if_neg (by simp [hk,hk3])] at hnE
      rw [hnE,List.append_nil] at hNs
      have zS:=jj hilI<|jj hg<|jj hgE<|jj de<|jj hk<|hk3
      repeat' (first|(apply aw_seq_k;intro K hK)|(refine eF64 ?_)|(refine aw_cond (b:=_) (by exact rfl) (fun h=>?_) (fun h=>?_)<;>(try simp at h))|(refine eB ?_)|(refine hK _ ?_;clear hK)|(clear hK;refine hK _ ?_;clear hK)|(clear hK;clear hK;refine hK _ ?_;clear hK)|(clear hK;clear hK;clear hK;refine hK _ ?_;clear hK))
      all_goals clear zS
      refine ⟨i+1,?_,by omega,by omega⟩
      simp only [hNs]
      exact dle
   ·obtain rfl:i=l.length:=by omega
    repeat' (first|(apply aw_seq_k;intro K hK)|(refine eM64o ?_)|(refine aw_cond (b:=_) (by exact rfl) (fun h=>?_) (fun h=>?_)<;>(try simp at h))|(refine eB ?_)|(refine hK _ ?_;clear hK)|(clear hK;refine hK _ ?_;clear hK)|(clear hK;clear hK;refine hK _ ?_;clear hK)|(clear hK;clear hK;clear hK;refine hK _ ?_;clear hK))
    refine ⟨by simp,?_⟩
    simp [leaves_iff,Try.f42,hFl,tkPr]
    try exact dt
 ·have e:lstT (r,ns,ds)=[]:=by unfold lstT;rw [if_neg h0]
  rw [e]
  obtain ⟨c,hcz⟩:∃ c,c=chk (r,ns,ds):=⟨_,rfl⟩
  rw [← hcz] at ch h0
  simp only [TbV] at ch ⊢
  have zS:=jj ch<|h0
  refine dM64 ?_
  repeat (intro K hK)
  clear zS
  refine ⟨by simp,?_⟩
  simp [leaves_iff,Try.f42,nmT,prows]
  try exact dt
noncomputable def SmdF:List AV→Option AV:=specF (ι:={x:List Dp×List Dp // x.1.length≤1000000∧x.2.length≤1000000}) (fun x=>[.rd 2 (prows x.1.1),.rd 2 (prows x.1.2)]) fun x=>retOf [B (decide (x.1.1=x.1.2))]
theorem s12 (X:AX) (hX:XOK Try.prog X) (hw:X.W wT) (he:X.eqs 71=true):PSound Try.prog 12 SmdF:=by
 unfold SmdF
 refine psound_spec hX mixed Try.func12 rfl fun ⟨⟨a,b⟩,ha,hb⟩ w0 G=>⟨by show 2≤26;decide,rfl,?_⟩
 show AW ⟨Try.prog,X,26,w0,.pure G⟩ _ _ _
 have hc:Cx.OK ⟨Try.prog,X,26,w0,.pure G⟩:=⟨hX,mixed⟩
 simp only at ha hb ⊢
 rcases Decidable.em (a.length=b.length) with h2|h2
 ·have h2I:(a.length:Int)=(b.length:Int):=by omega
  have zS:=h2
  repeat' (first|(apply aw_seq_k;intro K hK)|(refine eM64 ?_)|(refine aw_cond (b:=_) (by exact rfl) (fun h=>?_) (fun h=>?_)<;>(try simp at h))|(refine eB ?_)|(refine hK _ ?_;clear hK)|(clear hK;refine hK _ ?_;clear hK)|(clear hK;clear hK;refine hK _ ?_;clear hK)|(clear hK;clear hK;clear hK;refine hK _ ?_;clear hK))
  all_goals clear zS
  refine aw_loopK (s0:=?lps7) (m0:=?lpm7) (ι:={i:Nat // i≤b.length∧∀ j,j<i→gp a j=gp b j}) [0,1] (fun s=>[(5,I s.1)]) (fun _=>[]) (fun s=>b.length - s.1) ⟨0,by omega,by omega⟩ ?lhs7 ?lhm7 ?_ ?_
  case lhs7=>first|(simp [keepS];done)|(simp [keepS];rfl)
  case lhm7=>first|rfl|(simp;done)|(simp;rfl)
  ·exact dle
  ·rintro ⟨i,hi,hinv⟩
   simp only
   rcases Decidable.em (i<b.length) with hil|hil
   ·have hilI:(i:Int)<(b.length:Int):=by omega
    have hil2:i<a.length:=by omega
    have hg:=prows_gi hil
    have hgE:=prows_gE hil
    have hg2:=prows_gi hil2
    have hgE2:=prows_gE hil2
    have hex:gp a i=gp b i↔(gp a i).1=(gp b i).1∧(gp a i).2=(gp b i).2:=Prod.ext_iff
    obtain ⟨⟨x,y⟩,hm⟩:∃ m,m=gp a i:=⟨_,rfl⟩
    obtain ⟨⟨z,w⟩,hn⟩:∃ m,m=gp b i:=⟨_,rfl⟩
    rw [← hm] at hg2 hgE2 hex
    rw [← hn] at hg hgE hex
    simp only at hg hgE hg2 hgE2 hex
    rcases Decidable.em (x=z∧y=w) with hq|hq
    ·obtain ⟨rfl,rfl⟩:=hq
     have zS:=jj hilI<|jj hg<|jj hgE<|jj hg2<|jj hgE2<|jj h2<|jj he<|jj eqLs<|jj sameKs<|jj hil<|hil2
     repeat' (first|(apply aw_seq_k;intro K hK)|(refine eM64 ?_)|(refine aw_cond (b:=_) (by exact rfl) (fun h=>?_) (fun h=>?_)<;>(try simp at h))|(refine eB ?_)|(refine hK _ ?_;clear hK)|(clear hK;refine hK _ ?_;clear hK)|(clear hK;clear hK;refine hK _ ?_;clear hK)|(clear hK;clear hK;clear hK;refine hK _ ?_;clear hK))
     all_goals clear zS
     refine ⟨i+1,?_,⟨by omega,fun j hj=>?_⟩,by omega⟩
     ·exact dle
     ·rcases Nat.lt_succ_iff_lt_or_eq.1 hj with h5|rfl
      ·exact hinv j h5
      ·rw [← hm,← hn]
    ·have hne:decide (a=b)=false:=decide_eq_false fun e=>hq (by
      subst e
      rw [← hm] at hn
      simp only [Prod.mk.injEq] at hn
      exact ⟨hn.1.symm,hn.2.symm⟩)
     rcases Decidable.em (x=z) with q1|q1
     ·subst q1
      have q2:¬ y=w:=fun e=>hq ⟨rfl,e⟩
      have zS:=jj hilI<|jj hg<|jj hgE<|jj hg2<|jj hgE2<|jj h2<|jj he<|jj eqLs<|jj sameKs<|jj hil<|jj hil2<|q2
      repeat' (first|(apply aw_seq_k;intro K hK)|(refine eM64 ?_)|(refine aw_cond (b:=_) (by exact rfl) (fun h=>?_) (fun h=>?_)<;>(try simp at h))|(refine eB ?_)|(refine hK _ ?_;clear hK)|(clear hK;refine hK _ ?_;clear hK)|(clear hK;clear hK;refine hK _ ?_;clear hK)|(clear hK;clear hK;clear hK;refine hK _ ?_;clear hK))
      all_goals clear zS
      refine ⟨by simp,?_⟩
      simp [leaves_iff,Try.f12,hne]
      try exact dt
     ·have zS:=jj hilI<|jj hg<|jj hgE<|jj hg2<|jj hgE2<|jj h2<|jj he<|jj eqLs<|jj sameKs<|jj hil<|jj hil2<|q1
      repeat' (first|(apply aw_seq_k;intro K hK)|(refine eM64 ?_)|(refine aw_cond (b:=_) (by exact rfl) (fun h=>?_) (fun h=>?_)<;>(try simp at h))|(refine eB ?_)|(refine hK _ ?_;clear hK)|(clear hK;refine hK _ ?_;clear hK)|(clear hK;clear hK;refine hK _ ?_;clear hK)|(clear hK;clear hK;clear hK;refine hK _ ?_;clear hK))
      all_goals clear zS
      refine ⟨by simp,?_⟩
      simp [leaves_iff,Try.f12,hne]
      try exact dt
   ·obtain rfl:i=b.length:=by omega
    have he':a=b:=list_ext_gp h2 fun j hj=>hinv j (by omega)
    have hne:decide (a=b)=true:=decide_eq_true he'
    have zS:=h2
    repeat' (first|(apply aw_seq_k;intro K hK)|(refine eM64 ?_)|(refine aw_cond (b:=_) (by exact rfl) (fun h=>?_) (fun h=>?_)<;>(try simp at h))|(refine eB ?_)|(refine hK _ ?_;clear hK)|(clear hK;refine hK _ ?_;clear hK)|(clear hK;clear hK;refine hK _ ?_;clear hK)|(clear hK;clear hK;clear hK;refine hK _ ?_;clear hK))
    all_goals clear zS
    refine ⟨by simp,?_⟩
    simp [leaves_iff,Try.f12,hne]
    try exact dt
 ·have h2I:¬ (a.length:Int)=(b.length:Int):=by omega
  have hne:decide (a=b)=false:=decide_eq_false fun e=>h2 (by rw [e])
  have zS:=jj h2<|h2I
  refine dM64 ?_
  repeat (intro K hK)
  clear zS
  refine ⟨by simp,?_⟩
  simp [leaves_iff,Try.f12,hne]
  try exact dt
end Go.AM
