/- A part of the proof: what functions of the program compute, by abstract execution of their code. Its theorems hold without further condition. -/
import Derived.Test.YtcfhmdljeeppfaaTMj8
import Derived.Test.YtcfhmdljeeppfaaTMi4
set_option linter.all false
namespace Go.AM
open Go Go.Proofs
set_option maxRecDepth 4000
theorem callD_okI {F:List AV→Option AV} {avs:List AV} {r:AV} {M:Nat→AO} {n:Nat} (hF:F avs=some r) (hc:avs.all AV.closedV=true) (ho:openRet n r=(r,[],n)):callD F avs M n=some (r,[]):=by
 simp only [callD]
 rw [if_pos hc,hF]
 simp only [ho]
 rw [if_pos (by omega)]
noncomputable def Pi0:AX:=((((((AX.start wT).eqAt 65).eqAt 102).eqAt 63).eqAt 52).eqAt 54).eqAt 71
theorem pi0:XOK Try.prog Pi0:=xok_eq (xok_eq (xok_eq (xok_eq (xok_eq (xok_eq (xok_start _ _) eqE) eqD) eqPE) eqW8) eqN) eqMpg
noncomputable def Pi1:AX:=Pi0.add 123 (callP FbF)
theorem pi1:XOK Try.prog Pi1:=xok_spec pi0 (s123 Pi0 pi0) (fun _=>trivial) Try.func123 (by kernel_rfl)
noncomputable def Pi2:AX:=Pi1.add 122 (callP FmF)
theorem pi2:XOK Try.prog Pi2:=xok_spec pi1 (s122 Pi1 pi1 w0T rfl) (fun _=>trivial) Try.func122 (by kernel_rfl)
noncomputable def Pi3:AX:=Pi2.add 73 (callP EncF)
theorem pi3:XOK Try.prog Pi3:=xok_spec pi2 (s73 Pi2 pi2 w0T cFm cFb) (fun x=>enc_flat x) Try.func73 (by kernel_rfl)
noncomputable def Pi4:AX:=Pi3.add 30 (callP DecF)
theorem pi4:XOK Try.prog Pi4:=xok_spec pi3 (s30 Pi3 pi3 w0T cEn) (fun x=>dec_flat x.1) Try.func30 (by kernel_rfl)
noncomputable def Pi5:AX:=Pi4.add 143 (callP EtF)
theorem pi5:XOK Try.prog Pi5:=xok_spec pi4 (s143 Pi4 pi4 w0T (fun n h M k=>cDe n h M k)) (fun _=>by simp [retOf,AV.flat,AV.flatV,AV.flat1,EnV]) Try.func143 (by kernel_rfl)
noncomputable def Pi6:AX:=Pi5.add 119 (callP IfF)
theorem pi6:XOK Try.prog Pi6:=xok_spec pi5 (s119 Pi5 pi5 ) (fun _=>trivial) Try.func119 (by kernel_rfl)
noncomputable def Pi7:AX:=Pi6.add 70 (callP SuF)
theorem pi7:XOK Try.prog Pi7:=xok_spec pi6 (s70 Pi6 pi6 w0T) (fun _=>trivial) Try.func70 (by kernel_rfl)
noncomputable def Pi8:AX:=Pi7.add 68 (callP IxF)
theorem pi8:XOK Try.prog Pi8:=xok_spec pi7 (s68 Pi7 pi7 w0T) (fun x=>idxE_pl) Try.func68 (by kernel_rfl)
noncomputable def Pi9:AX:=Pi8.add 67 (callP NuF)
theorem pi9:XOK Try.prog Pi9:=xok_spec pi8 (s67 Pi8 pi8 w0T (fun x M n=>cIf x M n) (fun t h M n=>cIx t h M n)) (fun _=>trivial) Try.func67 (by kernel_rfl)
noncomputable def Pi10:AX:=Pi9.add 69 (callG (ckS 0))
theorem pi10:XOK Try.prog Pi10:=xok_putM pi9 (by kernel_rfl) (.inl ⟨(s69_0 Pi9 pi9 w0T (fun n h M k=>cDe n h M k) (fun e l M n=>cSu e l M n)).callG,body_ok _ Try.func69 (by kernel_rfl)⟩) fun _ _ _ _ h=>callG_keys h
noncomputable def Pi11:AX:=Pi10.add 69 (callG (ckS 1))
theorem pi11:XOK Try.prog Pi11:=xok_putM pi10 (by kernel_rfl) (.inl ⟨(s69_1 Pi10 pi10 w0T (fun n h M k=>cDe n h M k) (fun e l M n=>cSu e l M n) rfl).callG,body_ok _ Try.func69 (by kernel_rfl)⟩) fun _ _ _ _ h=>callG_keys h
noncomputable def Pi12:AX:=Pi11.add 69 (callG (ckS 2))
theorem pi12:XOK Try.prog Pi12:=xok_putM pi11 (by kernel_rfl) (.inl ⟨(s69_2 Pi11 pi11 w0T (fun n h M k=>cDe n h M k) (fun e l M n=>cSu e l M n) rfl).callG,body_ok _ Try.func69 (by kernel_rfl)⟩) fun _ _ _ _ h=>callG_keys h
noncomputable def Pi13:AX:=Pi12.add 120 (callP FIxB)
theorem pi13:XOK Try.prog Pi13:=xok_spec pi12 (s120 Pi12 pi12 ) (fun _=>trivial) Try.func120 (by kernel_rfl)
noncomputable def Pi14:AX:=Pi13.add 71 (callP FCtB)
theorem pi14:XOK Try.prog Pi14:=xok_spec pi13 (s71 Pi13 pi13 rfl) (fun _=>trivial) Try.func71 (by kernel_rfl)
noncomputable def Pi15:AX:=Pi14.add 28 (callP ChF)
theorem pi15:XOK Try.prog Pi15:=xok_spec pi14 (s28 Pi14 pi14 w0T (fun t h M n=>cNu t h M n) (fun t h M n=>cIx t h M n) rfl rfl) (fun _=>trivial) Try.func28 (by kernel_rfl)
noncomputable def Pi16:AX:=Pi15.add 138 (callP DgtF)
theorem pi16:XOK Try.prog Pi16:=xok_spec pi15 (s138 Pi15 pi15 w0T) (fun _=>trivial) Try.func138 (by kernel_rfl)
noncomputable def Pi17:AX:=Pi16.add 121 (callP PaF)
theorem pi17:XOK Try.prog Pi17:=xok_spec pi16 (s121 Pi16 pi16 w0T (fun t h M n=>cIx t h M n) (fun p l h1 h2 M n=>cDgt p l h1 h2 M n) (fun w h M n=>cEt w h M n)) (fun x=>srow_pl) Try.func121 (by kernel_rfl)
noncomputable def Pi18:AX:=Pi17.add 72 (callP LaF)
theorem pi18:XOK Try.prog Pi18:=xok_spec pi17 (s72 Pi17 pi17 w0T (fun t p h M n=>cPa t p h M n)) (fun x=>by simp [retOf,AV.flat,AV.flatV,AV.flat1,U,stV,srow]) Try.func72 (by kernel_rfl)
noncomputable def Pi19:AX:=Pi18.add 104 (callP CkF)
theorem pi19:XOK Try.prog Pi19:=xok_spec pi18 (s104 Pi18 pi18 w0T (fun t h M n=>cCh t h M n)) (fun _=>trivial) Try.func104 (by kernel_rfl)
noncomputable def Pi20:AX:=Pi19.add 29 (callP LiF)
theorem pi20:XOK Try.prog Pi20:=xok_spec pi19 (s29 Pi19 pi19 w0T (fun t h M n=>cCh t h M n) (fun t p h M n=>cLa t p h M n)) (fun x=>erow_pl) Try.func29 (by kernel_rfl)
noncomputable def Pi21:AX:=Pi20.add 41 (callG ofS)
theorem pi21:XOK Try.prog Pi21:=xok_putM pi20 (by kernel_rfl) (.inl ⟨(s41 Pi20 pi20 w0T).callG,body_ok _ Try.func41 (by kernel_rfl)⟩) fun _ _ _ _ h=>callG_keys h
noncomputable def Pi22:AX:=Pi21.add 40 (callG naS)
theorem pi22:XOK Try.prog Pi22:=xok_putM pi21 (by kernel_rfl) (.inl ⟨(s40 Pi21 pi21 w0T (fun t h M n=>cLi t h M n) (fun w h M k=>cDe w h M k) rfl).callG,body_ok _ Try.func40 (by kernel_rfl)⟩) fun _ _ _ _ h=>callG_keys h
noncomputable def Pi23:AX:=Pi22.add 13 (callP OfF)
theorem pi23:XOK Try.prog Pi23:=xok_spec pi22 (s13 Pi22 pi22 w0T rfl) (fun x=>prow_fl) Try.func13 (by kernel_rfl)
noncomputable def FjN:List AV→Option AV:=specF (ι:=Int) (fun x=>[I x]) fun _=>retOf [B false]
noncomputable def FjC:List AV→Option AV:=specF (ι:=Int×Int) (fun x=>[I x.1,I x.2]) fun x=>retOf [I (cmpIm x.1 x.2)]
noncomputable def FjS:List AV→Option AV:=specF (ι:=Int) (fun x=>[I x]) fun x=>retOf [B (decide (0≤x∧x<8))]
noncomputable def FjV:List AV→Option AV:=specF (ι:=Dp) (fun x=>[MpV x]) fun x=>retOf [B (decide (valM x))]
noncomputable def FjK:List AV→Option AV:=specF (ι:=Dp) (fun x=>[MpV x]) fun x=>retOf [B (!decide (valM x))]
noncomputable def FjD:List AV→Option AV:=specF (ι:=Dp×Int) (fun x=>[MpV x.1,.rp [I x.2]]) fun x=>retOf [B (decide (x.1.1=x.2))]
noncomputable def FjO:List AV→Option AV:=specF (ι:=Dp×Dp) (fun x=>[MpV x.1,MpV x.2]) fun x=>retOf [I (cmpMm x.1 x.2)]
noncomputable def FjH:List AV→Option AV:=specF (ι:={x:List Dp×Dp // x.1.length≤1000000}) (fun x=>[.rd 2 (prows x.1.1),MpV x.1.2]) fun x=>retOf [B (decide (chkM x.1.1=0∧x.1.2∈x.1.1))]
theorem kjn (x:Int) (M:Nat→AO) (n:Nat):callP FjN [I x] M n=some (B false,[]) :=
 callP_spec (A:=fun x:Int=>[I x]) (R:=fun _=>retOf [B false]) x rfl (fun _ _=>rfl) (by simp)
theorem kjc (a b:Int) (M:Nat→AO) (n:Nat):callP FjC [I a,I b] M n=some (I (cmpIm a b),[]) :=
 callP_spec (A:=fun x:Int×Int=>[I x.1,I x.2]) (R:=fun x=>retOf [I (cmpIm x.1 x.2)]) (a,b) rfl (by
  rintro ⟨j,k⟩ e
  simp at e;obtain ⟨rfl,rfl⟩:=e;rfl) (by simp)
theorem kjs (a:Int) (M:Nat→AO) (n:Nat):callP FjS [I a] M n=some (B (decide (0≤a∧a<8)),[]) :=
 callP_spec (A:=fun x:Int=>[I x]) (R:=fun x=>retOf [B (decide (0≤x∧x<8))]) a rfl (by
  intro j e
  simp at e;subst e;rfl) (by simp)
theorem kjv (a b:Int) (M:Nat→AO) (n:Nat):callP FjV [.agg [I a,I b]] M n=some (B (decide (valM (a,b))),[]) :=
 callP_spec (A:=fun x:Dp=>[MpV x]) (R:=fun x=>retOf [B (decide (valM x))]) (a,b) rfl (by
  intro j e
  simp [MpV_inj] at e;subst e;rfl) (by simp)
theorem kjk (a b:Int) (M:Nat→AO) (n:Nat):callP FjK [.agg [I a,I b]] M n=some (B (!decide (valM (a,b))),[]) :=
 callP_spec (A:=fun x:Dp=>[MpV x]) (R:=fun x=>retOf [B (!decide (valM x))]) (a,b) rfl (by
  intro j e
  simp [MpV_inj] at e;subst e;rfl) (by simp)
theorem kjd (a b s:Int) (M:Nat→AO) (n:Nat):callP FjD [.agg [I a,I b],.rp [I s]] M n=some (B (decide (a=s)),[]) :=
 callP_spec (A:=fun x:Dp×Int=>[MpV x.1,.rp [I x.2]]) (R:=fun x=>retOf [B (decide (x.1.1=x.2))]) ((a,b),s) (by simp [MpV]) (by
  rintro ⟨j,k⟩ e
  simp [MpV_inj] at e;obtain ⟨rfl,rfl⟩:=e;rfl) (by simp)
theorem kjo (a b c d:Int) (M:Nat→AO) (n:Nat):callP FjO [.agg [I a,I b],.agg [I c,I d]] M n=some (I (cmpMm (a,b) (c,d)),[]) :=
 callP_spec (A:=fun x:Dp×Dp=>[MpV x.1,MpV x.2]) (R:=fun x=>retOf [I (cmpMm x.1 x.2)]) ((a,b),(c,d)) rfl (by
  rintro ⟨j,k⟩ e
  simp [MpV_inj] at e;obtain ⟨rfl,rfl⟩:=e;rfl) (by simp)
theorem kjh (l:List Dp) (a b:Int) (h:l.length≤1000000) (M:Nat→AO) (n:Nat):callP FjH [.rd 2 (prows l),.agg [I a,I b]] M n=some (B (decide (chkM l=0∧(a,b)∈l)),[]) :=
 callP_spec (ι:={x:List Dp×Dp // x.1.length≤1000000}) (A:=fun x=>[.rd 2 (prows x.1.1),MpV x.1.2]) (R:=fun x=>retOf [B (decide (chkM x.1.1=0∧x.1.2∈x.1.1))]) ⟨(l,(a,b)),h⟩ (by simp [MpV]) (by
  rintro ⟨⟨j,k⟩,h'⟩ e
  simp [MpV_inj,prows_inj] at e
  obtain ⟨rfl,rfl⟩:=e;rfl) (by simp)
noncomputable def Pi24:AX:=Pi23.add 144 (callP FjN)
theorem pi24:XOK Try.prog Pi24:=xok_spec pi23 (s144 Pi23 pi23) (fun _=>trivial) Try.func144 (by kernel_rfl)
noncomputable def Pi25:AX:=Pi24.add 127 (callP FjC)
theorem pi25:XOK Try.prog Pi25:=xok_spec pi24 (s127 Pi24 pi24 fun x M n=>kjn x M n) (fun _=>trivial) Try.func127 (by kernel_rfl)
noncomputable def Pi26:AX:=Pi25.add 126 (callP FMor)
theorem pi26:XOK Try.prog Pi26:=xok_spec pi25 (s126 Pi25 pi25) (fun _=>trivial) Try.func126 (by kernel_rfl)
noncomputable def Pi27:AX:=Pi26.add 90 (callP FjS)
theorem pi27:XOK Try.prog Pi27:=xok_spec pi26 (s90 Pi26 pi26) (fun _=>trivial) Try.func90 (by kernel_rfl)
noncomputable def Pi28:AX:=Pi27.add 85 (callP FjV)
theorem pi28:XOK Try.prog Pi28:=xok_spec pi27 (s85 Pi27 pi27 fun x M n=>kjs x M n) (fun _=>trivial) Try.func85 (by kernel_rfl)
noncomputable def Pi29:AX:=Pi28.add 95 (callP FjK)
theorem pi29:XOK Try.prog Pi29:=xok_spec pi28 (s95 Pi28 pi28 fun a b M n=>kjv a b M n) (fun _=>trivial) Try.func95 (by kernel_rfl)
noncomputable def Pi30:AX:=Pi29.add 93 (callP FjD)
theorem pi30:XOK Try.prog Pi30:=xok_spec pi29 (s93 Pi29 pi29) (fun _=>trivial) Try.func93 (by kernel_rfl)
noncomputable def Pi31:AX:=Pi30.add 87 (callP FjO)
theorem pi31:XOK Try.prog Pi31:=xok_spec pi30 (s87 Pi30 pi30 w0T (fun a b M n=>kjc a b M n) rfl) (fun _=>trivial) Try.func87 (by kernel_rfl)
noncomputable def Pi32:AX:=Pi31.add 132 (callP FMif)
theorem pi32:XOK Try.prog Pi32:=xok_spec pi31 (s132 Pi31 pi31 w0T ⟨fun a b M n=>kjk a b M n,fun a b s M n=>kjd a b s M n⟩) (fun _=>trivial) Try.func132 (by kernel_rfl)
noncomputable def Pi33:AX:=Pi32.add 94 (callP FMcf)
theorem pi33:XOK Try.prog Pi33:=xok_spec pi32 (s94 Pi32 pi32 w0T rfl) (fun _=>trivial) Try.func94 (by kernel_rfl)
noncomputable def Pi34:AX:=Pi33.add 39 (callP FMchk)
theorem pi34:XOK Try.prog Pi34:=xok_spec pi33 (s39 Pi33 pi33 w0T rfl (fun a b c d M n=>kjo a b c d M n)) (fun _=>trivial) Try.func39 (by kernel_rfl)
noncomputable def Pi35:AX:=Pi34.add 124 (callP FMix)
theorem pi35:XOK Try.prog Pi35:=xok_spec pi34 (s124 Pi34 pi34 w0T rfl) (fun _=>trivial) Try.func124 (by kernel_rfl)
noncomputable def Pi36:AX:=Pi35.add 77 (callP FMct)
theorem pi36:XOK Try.prog Pi36:=xok_spec pi35 (s77 Pi35 pi35 w0T rfl) (fun _=>trivial) Try.func77 (by kernel_rfl)
noncomputable def Pi37:AX:=Pi36.add 32 (callP FjH)
theorem pi37:XOK Try.prog Pi37:=xok_spec pi36 (s32 Pi36 pi36 w0T rfl rfl) (fun _=>trivial) Try.func32 (by kernel_rfl)
noncomputable def Pi38:AX:=Pi37.add 76 (callP EqmF)
theorem pi38:XOK Try.prog Pi38:=xok_spec pi37 (s76 Pi37 pi37 w0T rfl) (fun _=>trivial) Try.func76 (by kernel_rfl)
noncomputable def Pi39:AX:=Pi38.add 75 (callP EqfF)
theorem pi39:XOK Try.prog Pi39:=xok_spec pi38 (s75 Pi38 pi38 w0T rfl) (fun _=>trivial) Try.func75 (by kernel_rfl)
noncomputable def Pi40:AX:=Pi39.add 31 (callP InvF)
theorem pi40:XOK Try.prog Pi40:=xok_spec pi39 (s31 Pi39 pi39 w0T (fun t h M n=>cLi t h M n) (fun w h M k=>cDe w h M k) rfl) (fun _=>trivial) Try.func31 (by kernel_rfl)
noncomputable def Pi41:AX:=Pi40.add 11 (callP (specF (ι:=Unit) (fun _=>[]) fun _=>retOf [B true]))
theorem pi41:XOK Try.prog Pi41:=xok_spec pi40 aw24 (fun _=>trivial) Try.func11 (by kernel_rfl)
noncomputable def NuL:List AV→Option AV:=specF (ι:={x:Tb // tbL x}) (fun x=>[TbV x.1]) fun x=>retOf [I (numB x.1)]
theorem cNuL (t:Tb) (ht:tbL t) (M:Nat→AO) (n:Nat):callP NuL [TbV t] M n=some (I (numB t),[]):=cT1 (D:=tbL) (R:=fun t=>retOf [I (numB t)]) ht M n rfl (by simp [retOf,openRet,openVals,openVal,openLeaves,openLeaf])
noncomputable def ChA:List AV→Option AV:=fun avs=>(ChF avs).orElse fun _=>NumL avs
theorem chF_none {t:Tb} (h:tbL t):ChF [TbV t]=none∨ChF [TbV t]=some (I (numB t)):=by
 cases e:ChF [TbV t] with
 | none=>exact .inl rfl
 | some r =>
  right
  obtain ⟨⟨t',h'⟩,h1,h2⟩:=specF_some e
  simp only [List.cons.injEq,TbV_inj,and_true] at h1
  cases h1
  rw [← h2]
  have hne:=numB_long (t:=t) h.2.2.1
  simp only [retOf]
  rw [show chk t=numB t by unfold chk;rw [if_pos hne]]
noncomputable def Pi42:AX:=Pi41.add 67 (callP NuL)
theorem pi42:XOK Try.prog Pi42:=xok_spec pi41 (s67_l Pi41 pi41 w0T (fun x M n=>cIf x M n)) (fun _=>trivial) Try.func67 (by kernel_rfl)
theorem chA_ok:PSound Try.prog 28 ChA:=PSound.or2 (s28 Pi14 pi14 w0T (fun t h M n=>cNu t h M n) (fun t h M n=>cIx t h M n) rfl rfl) (s28_l Pi42 pi42 w0T fun t h M n=>cNuL t h M n)
theorem chA_o {t:Tb} (h:tbOK t):ChA [TbV t]=some (I (chk t)):=by
 have e:ChF [TbV t]=some (I (chk t)):=specF_eq (ι:={x:Tb // tbOK x}) (A:=fun x=>[TbV x.1]) (R:=fun x=>retOf [I (chk x.1)]) ⟨t,h⟩ fun j e=>by
  obtain ⟨t',h'⟩:=j
  simp only [List.cons.injEq,TbV_inj,and_true] at e
  subst e;rfl
 unfold ChA
 rw [e];rfl
theorem chA_l {t:Tb} (h:tbL t):ChA [TbV t]=some (I (numB t)):=by
 unfold ChA
 rcases chF_none h with e|e
 ·rw [e];exact numL_at h
 ·rw [e];rfl
theorem cChO (t:Tb) (h:tbOK t) (M:Nat→AO) (n:Nat):callD ChA [TbV t] M n=some (I (chk t),[]):=callD_okI (chA_o h) (by simp [AV.closedV,TbV]) (by simp [openRet,openVals,openVal,openLeaves,openLeaf])
theorem cChL (t:Tb) (h:tbL t) (M:Nat→AO) (n:Nat):callD ChA [TbV t] M n=some (I (numB t),[]):=callD_okI (chA_l h) (by simp [AV.closedV,TbV]) (by simp [openRet,openVals,openVal,openLeaves,openLeaf])
noncomputable def Pi43:AX:=Pi42.add 28 (callD ChA)
theorem pi43:XOK Try.prog Pi43:=xok_add pi42 (.inl ⟨PSound.callD chA_ok,body_ok _ Try.func28 (by kernel_rfl)⟩) fun _ _ _ _ h b hb=>callD_keys h b hb
noncomputable def LiJ:List AV→Option AV:=specF (ι:={x:Tb // tbOK x}) (fun x=>[TbV x.1]) fun x=>retOf [.rd 2 (erows (lstT x.1))]
theorem LiJ_s:PSound Try.prog 29 LiJ:=PSound.softF (s29 Pi19 pi19 w0T (fun t h M n=>cCh t h M n) (fun t p h M n=>cLa t p h M n)) fun i=>by simp [RLe,retOf,SLeVs,SLeV,SLeL,SLe]
noncomputable def Pi44:AX:=Pi43.add 29 (callD LiJ)
theorem pi44:XOK Try.prog Pi44:=xok_add pi43 (.inl ⟨PSound.callD LiJ_s,body_ok _ Try.func29 (by kernel_rfl)⟩) fun _ _ _ _ h b hb=>callD_keys h b hb
theorem LiJ_k (t:Tb) (h:tbOK t) (M:Nat→AO) (n:Nat):callD LiJ [TbV t] M n=some (.rd 2 (erows (lstT t)),[]):=by
 refine callD_okI (specF_eq (ι:={x:Tb // tbOK x}) (A:=fun x=>[TbV x.1]) (R:=fun x=>retOf [.rd 2 (erows (lstT x.1))]) ⟨t,h⟩ ?_) (by simp [AV.closedV,TbV]) (by simp [retOf,openRet,openVals,openVal,openLeaves,openLeaf])
 rintro ⟨t',h'⟩ e
 simp only [List.cons.injEq,TbV_inj,and_true] at e
 subst e;rfl
noncomputable def OfJ:List AV→Option AV:=specF (ι:=TsI) (fun x=>[.rd 3 (tbrows x.1.1),I x.1.2]) fun x=>retOf [.rd 2 (prows (ofT x.1.1 x.1.2))]
theorem OfJ_s:PSound Try.prog 13 OfJ:=PSound.softF (s13 Pi22 pi22 w0T rfl) fun i=>by simp [RLe,retOf,SLeVs,SLeV,SLeL,SLe]
noncomputable def Pi45:AX:=Pi44.add 13 (callD OfJ)
theorem pi45:XOK Try.prog Pi45:=xok_add pi44 (.inl ⟨PSound.callD OfJ_s,body_ok _ Try.func13 (by kernel_rfl)⟩) fun _ _ _ _ h b hb=>callD_keys h b hb
theorem OfJ_k (ts:List Tb) (fr:Int) (h:(∀ t∈ts,tbOK t)∧ts.length≤1000000) (M:Nat→AO) (n:Nat):callD OfJ [.rd 3 (tbrows ts),I fr] M n=some (.rd 2 (prows (ofT ts fr)),[]):=by
 refine callD_okI (specF_eq (ι:=TsI) (A:=fun x=>[.rd 3 (tbrows x.1.1),I x.1.2]) (R:=fun x=>retOf [.rd 2 (prows (ofT x.1.1 x.1.2))]) ⟨(ts,fr),h⟩ ?_) (by simp [AV.closedV,TbV]) (by simp [retOf,openRet,openVals,openVal,openLeaves,openLeaf])
 rintro ⟨⟨t',f'⟩,h'⟩ e
 simp only [List.cons.injEq,AV.rd.injEq,tbrows_inj,I,AV.v.injEq,Value.int.injEq,true_and,and_true] at e
 obtain ⟨rfl,rfl⟩:=e;rfl
theorem cInvT {ts:List Tb} {ms:List (List Dp)} (h:(∀ t∈ts,tbOK t)∧ts.length≤1000000∧MssOK ms∧0<ms.length) (b v:Nat) (f:Bool) (M:Nat→AO) (n:Nat) (hM:M b=.vec v 1 f (mrows ms)):callP InvF [.rd 3 (tbrows ts),.sl b v 1 0 ms.length] M n=some (B (invT ts ms),[]):=by
 have tk:(mrows ms).take ms.length=mrows ms:=List.take_of_length_le (by simp)
 exact callP_spec (ι:=InvI) (A:=fun x=>[.rd 3 (tbrows x.1.1),.rd 1 (mrows x.1.2)]) (R:=fun x=>retOf [B (invT x.1.1 x.1.2)]) (avs:=[.rd 3 (tbrows ts),.sl b v 1 0 ms.length]) (M:=M) (n:=n) ⟨(ts,ms),h⟩ (by
  simp [peekVals,peekVal,peekLeaf,hM,tk]) (by
  rintro ⟨⟨t',m'⟩,h'⟩ e
  simp only [List.cons.injEq,AV.rd.injEq,tbrows_inj,mrows_inj,true_and,and_true] at e
  obtain ⟨rfl,rfl⟩:=e;rfl) (by simp [retOf,openRet,openVals,openVal,openLeaves,openLeaf])
theorem lawI:LawI Pi45:=⟨pi45,w0T,fun M n=>cAw24 M n,fun t h M n=>cChO t h M n,fun t h M n=>cChL t h M n,fun ts f h M n=>OfJ_k ts f h M n,fun t h M n=>LiJ_k t h M n,fun w h M k=>cDe w h M k,fun l a b h M n=>kjh l a b h M n,fun ts ms h b v f M n hM=>cInvT h b v f M n hM⟩
theorem inverts':PSound Try.prog 8 (specF (ι:={x:List Tb×Nat // tsI x.1∧x.2<256}) (fun x=>[.rd 3 (tbrows x.1.1),.v (.int .u8 x.1.2)]) fun _=>retOf [B true]):=s8 Pi45 lawI
theorem fit_u8i {a:AV} (h:Fit (.int .u8) a):∃ n:Nat,a=.v (.int .u8 n)∧n<256:=by
 simp only [Fit] at h
 obtain ⟨n,rfl,hw⟩:=h
 have h2:0≤n∧n≤255:=by simpa [Lit.wf,IntKind.min,IntKind.max,IntKind.signed,IntKind.bits] using hw
 refine ⟨n.toNat,?_,by omega⟩
 rw [show ((n.toNat:Nat):Int)=n by omega]
theorem rows_tbi:∀ {xs:List (List AV)},(∀ e∈xs,FitL [shI,.sl (shI::List.replicate 8 shQ),.sl [shI,shI]] e)→∃ l,xs=tbrows l∧tsI l
 | [],_=>⟨[],rfl,fun t ht=>by simp at ht⟩
 | e::r,h=>by
  obtain ⟨l,rfl,hl⟩:=rows_tbi (xs:=r) fun e' he=>h e' (by simp [he])
  obtain ⟨x,ar,rfl,ha,hr⟩:=fitL_cons (h e (by simp))
  obtain ⟨y,br,rfl,hb,hr2⟩:=fitL_cons hr
  obtain ⟨z,rfl,hcz⟩:=fitL_one hr2
  obtain ⟨q,rfl,_⟩:=fit_int ha
  simp only [Fit] at hb hcz
  obtain ⟨xs,rfl,_,hx⟩:=hb
  obtain ⟨ys,rfl,hyl,hy⟩:=hcz
  obtain ⟨ns,rfl,hn⟩:=rows_nd hx
  obtain ⟨ds,rfl⟩:=rows_dp hy
  refine ⟨(q,ns,ds)::l,rfl,fun t ht=>?_⟩
  rcases List.mem_cons.1 ht with rfl|ht
  ·exact ⟨hn,by
    have:(prows ds).length≤9223372036854775807:=hyl
    simpa using this⟩
  ·exact hl t ht
theorem arg_tabi {a:AV} (h:FitArg Try.prog 22 a):∃ l,a=.rd 3 (tbrows l)∧tsI l:=by
 have:=arg_one shTabs (fun fs=>by simp [Try.underlying22]) (fun n e=>by simp [Try.underlying22]) h
 simp only [Fit] at this
 obtain ⟨xs,rfl,_,hx⟩:=this
 obtain ⟨l,rfl,hl⟩:=rows_tbi hx
 exact ⟨l,rfl,hl⟩
theorem shU8i:shapeOf Try.prog 10 5=some [.int .u8]:=by kernel_rfl
theorem tabs_u8_F (avs:List AV) (h:FitArgs Try.prog [22,5] avs):specF (ι:={x:List Tb×Nat // tsI x.1∧x.2<256}) (fun x=>[.rd 3 (tbrows x.1.1),.v (.int .u8 x.1.2)]) (fun _=>retOf [B true]) avs=some (B true):=by
 match avs,h with
 | [a,b],h =>
  simp only [FitArgs] at h
  obtain ⟨t,rfl,ht⟩:=arg_tabi h.1
  obtain ⟨x,rfl,hx⟩:=fit_u8i (arg_one shU8i (fun fs=>by simp [Try.underlying5]) (fun n e=>by simp [Try.underlying5]) h.2.1)
  exact specF_eq (A:=fun x:{x:List Tb×Nat // tsI x.1∧x.2<256}=>[.rd 3 (tbrows x.1.1),.v (.int .u8 x.1.2)]) (R:=fun _=>retOf [B true]) ⟨(t,x),ht,hx⟩ fun _ _=>rfl
 | [],h=>simp [FitArgs] at h
 | [_],h=>simp [FitArgs] at h
 | _::_::_::_,h=>simp [FitArgs] at h
end Go.AM
