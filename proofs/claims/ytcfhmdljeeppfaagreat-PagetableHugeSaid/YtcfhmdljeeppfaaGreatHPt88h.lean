/- A part of the proof; no condition. -/
import Derived.Test.YtcfhmdljeeppfaaGreatHPt78
import Derived.Test.YtcfhmdljeeppfaaGreatHPt72
set_option linter.all false
namespace Go.AM
open Go Go.Proofs
set_option maxRecDepth 4000
noncomputable abbrev Tfh0:AX:=TeB
theorem tfh0:XOK Tryz.prog Tfh0:=teB
noncomputable def Tfh1:AX:=Tfh0.add 148 (callG insS)
theorem tfh1:XOK Tryz.prog Tfh1:=xok_putM tfh0 (by kernel_rfl) (.inl ⟨(s148 Tfh0 tfh0 w0T).callG,body_ok _ Tryz.func148 (by kernel_rfl)⟩) fun _ _ _ _ h=>callG_keys h
noncomputable def Tfh2:AX:=Tfh1.add 136 (callG keepS2)
theorem tfh2:XOK Tryz.prog Tfh2:=xok_putM tfh1 (by kernel_rfl) (.inl ⟨(s136 Tfh1 tfh1 w0T).callG,body_ok _ Tryz.func136 (by kernel_rfl)⟩) fun _ _ _ _ h=>callG_keys h
noncomputable def Tfh3:AX:=Tfh2.add 144 (callG relS)
theorem tfh3:XOK Tryz.prog Tfh3:=xok_putM tfh2 (by kernel_rfl) (.inl ⟨(s144 Tfh2 tfh2 w0T).callG,body_ok _ Tryz.func144 (by kernel_rfl)⟩) fun _ _ _ _ h=>callG_keys h
noncomputable def Tfh4:AX:=Tfh3.add 146 (callG remS)
theorem tfh4:XOK Tryz.prog Tfh4:=xok_putM tfh3 (by kernel_rfl) (.inl ⟨(s146 Tfh3 tfh3 w0T).callG,body_ok _ Tryz.func146 (by kernel_rfl)⟩) fun _ _ _ _ h=>callG_keys h
noncomputable def Tfh5:AX:=Tfh4.add 104 (callP ClF)
theorem tfh5:XOK Tryz.prog Tfh5:=xok_spec tfh4 (s104 Tfh4 tfh4 w0T) (fun x=>TbO_fl) Tryz.func104 (by kernel_rfl)
noncomputable def Tfh6:AX:=Tfh5.add 153 (callM false nine9 FDelN)
theorem tfh6:XOK Tryz.prog Tfh6:=xok_putM tfh5 (by kernel_rfl) (.inl ⟨((s153 Tfh5 tfh5 w0T).callM fun _ _ _ _ h=>FDelN_flat h),body_ok _ Tryz.func153 (by kernel_rfl)⟩) fun _ _ _ _ h=>callM_keys h
noncomputable def Tfh7:AX:=Tfh6.add 151 (callP PrF)
theorem tfh7:XOK Tryz.prog Tfh7:=xok_spec tfh6 (s151 Tfh6 tfh6 w0T (fun n h M k=>cDe n h M k) (fun k f d a x h M n=>cEn k f d a x h M n)) (fun _=>by simp [retOf,AV.flat,AV.flatV,AV.flat1,U]) Tryz.func151 (by kernel_rfl)
noncomputable def Tfh8:AX:=Tfh7.add 149 (callG rpS)
theorem tfh8:XOK Tryz.prog Tfh8:=xok_putM tfh7 (by kernel_rfl) (.inl ⟨(s149 Tfh7 tfh7 w0T (ofiR rfl)).callG,body_ok _ Tryz.func149 (by kernel_rfl)⟩) fun _ _ _ _ h=>callG_keys h
theorem ostR {X:AX} (h:X.call 111=callP StF):OwnR X 111 (fun t x=>0≤x∧ptO t x.toNat) fun t x=>.tup [I (lsT t x.toNat).1,I (lsT t x.toNat).2.1]:=fun r ns ds x hd a va b vb f1 f2 M n h1 h2=>by
 rw [h]
 obtain ⟨k,rfl⟩:∃ k:Nat,x=k:=⟨x.toNat,by omega⟩
 exact oT3 (D:=ptO) (R:=fun t p=>retOf [I (lsT t p).1,I (lsT t p).2.1]) (t:=(r,ns,ds)) hd.2 ⟨⟨f1,h1⟩,f2,h2⟩ n rfl (by simp [retOf,openRet,openVals,openVal,openLeaves,openLeaf])
noncomputable def WdF:List AV→Option AV:=specF (ι:=En) (fun x=>[EnV x]) fun x=>retOf [U (encR x).1]
theorem cWd (f:Nat) (hf:f≤4294967295) (M:Nat→AO) (n:Nat):callP WdF [.agg [I 4,I f,B false,B false,B false,B false]] M n=some (U ((f*256+4:Nat)),[]):=by
 have h:=callP_spec (ι:=En) (A:=fun x=>[EnV x]) (R:=fun x=>retOf [U (encR x).1]) (avs:=[.agg [I 4,I f,B false,B false,B false,B false]]) (M:=M) (n:=n) (4,(f:Int),false,false,false,false) (by simp [EnV]) (by
  rintro e' e
  simp only [List.cons.injEq,EnV_inj,and_true] at e;subst e;rfl) (by simp [U])
 rw [encR_tab hf] at h
 exact h
noncomputable def Tfh9:AX:=Tfh8.add 150 (callP WdF)
theorem tfh9:XOK Tryz.prog Tfh9:=xok_spec tfh8 (s150 Tfh8 tfh8 w0T (fun k f d a x h M n=>cEn k f d a x h M n)) (fun _=>trivial) Tryz.func150 (by kernel_rfl)
theorem peek_w {M:Nat→AO}:∀ {ws:List Nat},peekLeaves M (wcs ws)=some (wcs ws)
 | []=>rfl
 | w::ws=>by
  have ih:=peek_w (M:=M) (ws:=ws)
  show (match peekLeaf M (U w),peekLeaves M (wcs ws) with
   | some x,some xs=>some (x::xs)
   | _,_=>none)=_
  rw [ih];rfl
theorem peek_ws {M:Nat→AO} {ws:List Nat}:peekVals M [.agg (wcs ws)]=some [.agg (wcs ws)]:=by
 simp [peekVals,peekVal,peek_w]
noncomputable def Tfh10:AX:=Tfh9.add 147 (callG unS)
theorem tfh10:XOK Tryz.prog Tfh10:=xok_putM tfh9 (by kernel_rfl) (.inl ⟨(s147 Tfh9 tfh9 w0T (fun f hf M n=>cWd f hf M n)).callG,body_ok _ Tryz.func147 (by kernel_rfl)⟩) fun _ _ _ _ h=>callG_keys h
noncomputable def Tfh11:AX:=Tfh10.add 65 (callP SpF)
theorem tfh11:XOK Tryz.prog Tfh11:=xok_spec tfh10 (s65 Tfh10 tfh10 w0T (fun t h M n=>cCh t h M n) (fun t f h M n=>cDp t f h M n) (fun t p h M n=>cSt t p h M n) (fun t h M n=>cCl t h M n) (fun f hf M n=>cWd f hf M n) (fun w i h M n=>cPr w i h M n) rfl rfl rfl) (fun x=>tabO_fl) Tryz.func65 (by kernel_rfl)
noncomputable def JoF:List AV→Option AV:=specF (ι:={ws:List Nat // ws.length=8∧∀ w∈ws,w<2^64}) (fun x=>[.agg (wcs x.1)]) fun x=>retOf [U (joinR x.1).1,I (joinR x.1).2]
theorem cJo (ws:List Nat) (h8:ws.length=8) (h64:∀ w∈ws,w<2^64) (M:Nat→AO) (n:Nat):callP JoF [.agg (wcs ws)] M n=some (.tup [U (joinR ws).1,I (joinR ws).2],[]):=by
 refine callP_spec (ι:={ws:List Nat // ws.length=8∧∀ w∈ws,w<2^64}) (A:=fun x=>[.agg (wcs x.1)]) (R:=fun x=>retOf [U (joinR x.1).1,I (joinR x.1).2]) ⟨ws,h8,h64⟩ ?_ ?_ (by simp [U])
 ·exact peek_ws
 ·rintro ⟨ws',h'⟩ e
  simp only [List.cons.injEq,AV.agg.injEq,wcs_inj,and_true] at e
  subst e;rfl
noncomputable def Tfh12:AX:=Tfh11.add 152 (callP JoF)
theorem tfh12:XOK Tryz.prog Tfh12:=xok_spec tfh11 (s152 Tfh11 tfh11 w0T (fun n h M k=>cDe n h M k) (fun k f d a x h M n=>cEn k f d a x h M n)) (fun _=>by simp [retOf,AV.flat,AV.flatV,AV.flat1,U]) Tryz.func152 (by kernel_rfl)
noncomputable def Tfh13:AX:=Tfh12.add 154 (callP JoF)
theorem tfh13:XOK Tryz.prog Tfh13:=xok_spec tfh12 (s154 Tfh12 tfh12 w0T (fun n h M k=>cDe n h M k) (fun k f d a x h M n=>cEn k f d a x h M n)) (fun _=>by simp [retOf,AV.flat,AV.flatV,AV.flat1,U]) Tryz.func154 (by kernel_rfl)
noncomputable def AsF:List AV→Option AV:=specF (ι:={x:Tb×Int // tbOK x.1∧x.1.2.1.length≤999000}) (fun x=>[TbV x.1.1,I x.1.2]) fun x=>retOf [TbO (asmP x.1.1 x.1.2).1,I (asmP x.1.1 x.1.2).2]
noncomputable def Tfh14:AX:=Tfh13.add 66 (callP AsF)
theorem tfh14:XOK Tryz.prog Tfh14:=xok_spec tfh13 (s66 Tfh13 tfh13 w0T (fun t h n lim M k=>cCk t h n lim M k) (fun t p h M n=>cPa t p h M n) (fun p l h1 h2 M n=>cDgt p l h1 h2 M n) (fun t h M n=>cCl t h M n) (fun ws h8 h64 M n=>cJo ws h8 h64 M n) rfl rfl) (fun x=>tabO_fl) Tryz.func66 (by kernel_rfl)
noncomputable def Tfh15:AX:=Tfh14.add 67 (callP AsF)
theorem tfh15:XOK Tryz.prog Tfh15:=xok_spec tfh14 (s67 Tfh14 tfh14 w0T (fun t h M n=>cCh t h M n) (fun t p h M n=>cSt t p h M n) (fun t h M n=>cCl t h M n) (ostR rfl) (fun ws h8 h64 M n=>cJo ws h8 h64 M n) rfl rfl rfl) (fun x=>tabO_fl) Tryz.func67 (by kernel_rfl)
noncomputable abbrev TeCh:AX:=Tfh15
theorem teCh:XOK Tryz.prog TeCh:=tfh15
theorem cSp (t:Tb) (g:Int) (ht:tbOK t) (hl:t.2.1.length≤999000) (M:Nat→AO) (n:Nat):callP SpF [TbV t,I g] M n=some (.tup [TbC (splP t g).1 n,I (splP t g).2],outT (splP t g).1 n) :=
 cT2 (D:=fun t _=>tbOK t∧t.2.1.length≤999000) (R:=fun t x=>retOf [TbO (splP t x).1,I (splP t x).2]) ⟨ht,hl⟩ M n open_tab (by omega)
theorem cAs (t:Tb) (g:Int) (ht:tbOK t) (hl:t.2.1.length≤999000) (M:Nat→AO) (n:Nat):callP AsF [TbV t,I g] M n=some (.tup [TbC (asmP t g).1 n,I (asmP t g).2],outT (asmP t g).1 n) :=
 cT2 (D:=fun t _=>tbOK t∧t.2.1.length≤999000) (R:=fun t x=>retOf [TbO (asmP t x).1,I (asmP t x).2]) ⟨ht,hl⟩ M n open_tab (by omega)
theorem lawP2h:LawP TeCh:=⟨teCh,w0T,fun t M n=>cFew t M n,fun M n=>cAw M n,fun t h=>samO rfl h,fun l h=>eqiO rfl h,fun l h=>eqpO rfl h⟩
end Go.AM
namespace Go.AM
open Go Go.Proofs
theorem zT_ok:tbOK zT:=⟨fun n hn=>by simp [zT] at hn,by simp [zT],by simp [zT]⟩
theorem splP_ok {t:Tb} {g:Int} (ht:tbOK t) (hl9:t.2.1.length≤999000):tbOK (splP t g).1:=by
 obtain ⟨r,ns,ds⟩:=t
 unfold splP
 split
 ·exact zT_ok
 ·rename_i hk
  obtain ⟨hpv,hp0,hp1⟩:=ckd_pt ht hk
  have hvt:=ckd_vt ht hk
  obtain ⟨g,rfl⟩:=Int.eq_ofNat_of_zero_le hp0
  have hg:g<64:=by omega
  have hp:g*8<512:=by omega
  rw [Int.toNat_natCast]
  split
  ·rename_i hh
   obtain ⟨f0,l0,w,hwk⟩:∃ f l w,wlk (Mof ns) r (g*8)=(f,l,w):=⟨_,_,_,rfl⟩
   obtain ⟨e1,e2,e3,e4,e5⟩:=end_nd hpv hp hwk
   rw [e2] at hh ⊢
   simp only at hh ⊢
   obtain ⟨rfl,hh⟩:=hh
   obtain ⟨s1,s2,s3,s4⟩:=split_steps hvt ht hl9 hg rfl hwk hh
   simp only at s4
   obtain ⟨t1,t2,t3,_⟩:=s4.2 8 (Nat.le_refl _)
   have h4:=ht.2.2
   refine ⟨t2.1,t2.2.1,?_⟩
   show (delL _ _).length≤_
   have h3:=@lowD_le ds (g:Int)
   simp only [delL,List.length_append,List.length_take,List.length_drop]
   simp only at h4
   omega
  ·exact zT_ok
theorem asmP_ok {t:Tb} {g:Int} (ht:tbOK t) (hd:t.2.2.length≤999000):tbOK (asmP t g).1:=by
 obtain ⟨r,ns,ds⟩:=t
 unfold asmP
 split
 ·exact zT_ok
 ·rename_i hk
  obtain ⟨hpv,hp0,hp1⟩:=ckd_pt ht hk
  obtain ⟨g,rfl⟩:=Int.eq_ofNat_of_zero_le hp0
  have hp:g*8<512:=by omega
  rw [Int.toNat_natCast]
  split
  ·exact zT_ok
  ·rename_i hl
   split
   ·exact zT_ok
   ·rename_i hj
    have hlt:=(lsT_lt hpv hp).1
    have h8:=(ht.1 _ (gn_mem hlt)).1
    obtain ⟨w,hw1,hw64⟩:=joinR_ok h8 (by simpa using hj)
    simp only
    rw [hw1,Int.toNat_natCast]
    obtain ⟨n2,w2,n1,w1,g1,f,b1,b2,b3,b4,b5,b6,b7,b8,b9,b10⟩:=asm_eq hpv ht hp (by simpa using hl) w
    refine ⟨?_,?_,?_⟩
    ·show ∀ n∈asN _ _ _,ndOK n
     rw [b10];exact delK_ok (setN_ok ht.1 hw64 b2)
    ·show (asN _ _ _).length≤_
     rw [b10]
     have h1:(delK (setN ns n1 (dgt (g*8) 1) w) (f:Int)).length≤(setN ns n1 (dgt (g*8) 1) w).length:=List.length_filter_le _ _
     rw [setN_len] at h1
     have:=ht.2.1
     simp only at this
     omega
    ·show (insK _ _).length≤_
     rw [insK_len];simp only at hd;omega
def GrpFn (X:AX) (f:FuncId) (R:Tb→Int→Tb×Int):Prop:=∀ (t:Tb) (g:Int),tbOK t→t.2.1.length≤999000→∀ M n,X.call f [TbV t,I g] M n=some (.tup [TbC (R t g).1 n,I (R t g).2],outT (R t g).1 n)
structure LawH (X:AX):Prop extends LawP X where
 sp:GrpFn X 64 splP
 sp':GrpFn X 65 splP
 asq:GrpFn X 66 asmP
 asq':GrpFn X 67 asmP
theorem lawH:LawH TeCh:=⟨lawP2h,fun t g h1 h2 M n=>cSp t g h1 h2 M n,fun t g h1 h2 M n=>cSp t g h1 h2 M n,fun t g h1 h2 M n=>cAs t g h1 h2 M n,fun t g h1 h2 M n=>cAs t g h1 h2 M n⟩
set_option maxHeartbeats 8000000 in
theorem s12 (X:AX) (L:LawH X):PSound Tryz.prog 12 (specF (ι:={x:Tb×Int // tbF x.1}) (fun x=>[TbV x.1.1,I x.1.2]) fun _=>retOf [B true]):=by
 have hX:=L.ok
 have hw:=L.w
 refine psound_spec hX mixed Tryz.func12 rfl fun ⟨⟨⟨r,ns,ds⟩,g⟩,htf⟩ w0 G=>⟨by show 2≤62;decide,rfl,?_⟩
 show AW ⟨Tryz.prog,X,62,w0,.pure G⟩ _ _ _
 have hc:Cx.OK ⟨Tryz.prog,X,62,w0,.pure G⟩:=⟨hX,mixed⟩
 have few:=L.few (r,ns,ds)
 have aw:=L.aw
 simp only at few htf ⊢
 rcases Decidable.em (ns.length≤80∧ds.length≤70) with hf|hf
 ·rw [decide_eq_true hf] at few
  have ht:=tbF_ok htf hf
  have hl9:(r,ns,ds).2.1.length≤999000:=by show ns.length≤_;omega
  have sp:=L.sp _ g ht hl9
  have sp':=L.sp' _ g ht hl9
  have asq:=L.asq _ g ht hl9
  have asq':=L.asq' _ g ht hl9
  have sam:=L.same _ (splP_ok (g:=g) ht hl9)
  have sam2:=L.same _ (asmP_ok (g:=g) ht (by show ds.length≤_;omega))
  obtain ⟨⟨⟨r1,n1,d1⟩,e1⟩,hT⟩:∃ x,x=splP (r,ns,ds) g:=⟨_,rfl⟩
  rw [← hT] at sp sp' sam
  obtain ⟨⟨⟨r2,n2,d2⟩,e2⟩,hT2⟩:∃ x,x=asmP (r,ns,ds) g:=⟨_,rfl⟩
  rw [← hT2] at asq asq' sam2
  unfold SamO at sam sam2
  simp only [TbV,TbC,outT] at few sp sp' asq asq' sam sam2 ⊢
  have zS:=jj few<|jj aw<|jj sp<|jj sp'<|jj asq<|jj asq'<|jj sam<|sam2
  refine dF64 ?_
  repeat (intro K hK)
  clear zS
  all_goals refine ⟨by simp,?_⟩
  all_goals simp [leaves_iff,Tryz.f12]
  all_goals try exact dt
 ·rw [decide_eq_false hf] at few
  simp only [TbV] at few ⊢
  have zS:=jj few<|aw
  refine dF64 ?_
  repeat (intro K hK)
  clear zS
  all_goals refine ⟨by simp,?_⟩
  all_goals simp [leaves_iff,Tryz.f12]
  all_goals try exact dt
theorem huge':PSound Tryz.prog 12 (specF (ι:={x:Tb×Int // tbF x.1}) (fun x=>[TbV x.1.1,I x.1.2]) fun _=>retOf [B true]):=s12 TeCh lawH
end Go.AM
