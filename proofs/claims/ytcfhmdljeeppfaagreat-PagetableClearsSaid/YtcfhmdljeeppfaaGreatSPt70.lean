/- A part of the proof: what functions of the program compute, by abstract execution of their code. Its theorems hold without further condition. -/
import Derived.Test.YtcfhmdljeeppfaaGreatSPt65
set_option linter.all false
namespace Go.AM
open Go Go.Proofs
noncomputable def FbF:List AV→Option AV:=specF (ι:=Bool×Int) (fun x=>[B x.1,U x.2]) fun x=>retOf [U (fb x.1 x.2)]
theorem cFb (b:Bool) (c:Int) (M:Nat→AO) (n:Nat):callP FbF [B b,.v (.int .u64 c)] M n=some (.v (.int .u64 (fb b c)),[]) :=
 callP_spec (ι:=Bool×Int) (A:=fun x=>[B x.1,U x.2]) (R:=fun x=>retOf [U (fb x.1 x.2)]) (b,c) (by simp [U]) (by
  rintro ⟨b',c'⟩ e
  simp [B,U] at e;obtain ⟨rfl,rfl⟩:=e;rfl) (by simp [U])
noncomputable def FmF:List AV→Option AV:=specF (ι:={e:En // 0≤e.1∧e.1≤4}) (fun x=>[EnV x.1]) fun x=>retOf [B (frmE x.1)]
theorem cFm (k f:Int) (d a x h:Bool) (hk:0≤k∧k≤4) (M:Nat→AO) (n:Nat):callP FmF [.agg [I k,I f,B d,B a,B x,B h]] M n=some (B (frmE (k,f,d,a,x,h)),[]) :=
 callP_spec (ι:={e:En // 0≤e.1∧e.1≤4}) (A:=fun x=>[EnV x.1]) (R:=fun x=>retOf [B (frmE x.1)]) ⟨(k,f,d,a,x,h),hk⟩ (by simp [EnV]) (by
  rintro ⟨e',h'⟩ e
  simp only [List.cons.injEq,EnV_inj,and_true] at e;subst e;rfl) (by simp)
noncomputable def EncF:List AV→Option AV:=specF (ι:=En) (fun x=>[EnV x]) fun x=>retOf [U (encR x).1,I (encR x).2]
theorem cEn (k f:Int) (d a x h:Bool) (M:Nat→AO) (n:Nat):callP EncF [.agg [I k,I f,B d,B a,B x,B h]] M n=some (.tup [U (encR (k,f,d,a,x,h)).1,I (encR (k,f,d,a,x,h)).2],[]) :=
 callP_spec (ι:=En) (A:=fun x=>[EnV x]) (R:=fun x=>retOf [U (encR x).1,I (encR x).2]) (k,f,d,a,x,h) (by simp [EnV]) (by
  rintro e' e
  simp only [List.cons.injEq,EnV_inj,and_true] at e;subst e;rfl) (by simp [U])
noncomputable def DecF:List AV→Option AV:=specF (ι:={n:Nat // n<2^64}) (fun x=>[U x.1]) fun x=>retOf [EnV (decR x.1).1,I (decR x.1).2]
theorem u_inj {a b:Nat} (h:[U a]=[U b]):a=b:=by
 simp only [List.cons.injEq,U,AV.v.injEq,Value.int.injEq,true_and,and_true] at h;omega
theorem cDe (w:Nat) (hw:w<2^64) (M:Nat→AO) (n:Nat):callP DecF [U w] M n=some (.tup [EnV (decR w).1,I (decR w).2],[]) :=
 callP_spec (ι:={n:Nat // n<2^64}) (A:=fun x=>[U x.1]) (R:=fun x=>retOf [EnV (decR x.1).1,I (decR x.1).2]) ⟨w,hw⟩ (by simp [U]) (by
  rintro ⟨w',h'⟩ e
  have:=u_inj e
  simp only at this
  subst this;rfl) (by simp [EnV])
noncomputable def Te0:AX:=(((((AX.start wT).eqAt 103).eqAt 170).eqAt 86).eqAt 148).eqAt 150
theorem te0:XOK Tryz.prog Te0:=xok_eq (xok_eq (xok_eq (xok_eq (xok_eq (xok_start _ _) eqE) eqD) eqPE) eqW8) eqN
theorem w0T:Te0.W wT:=⟨rfl,rfl⟩
noncomputable def Te1:AX:=Te0.add 196 (callP FbF)
theorem te1:XOK Tryz.prog Te1:=xok_spec te0 (s196 Te0 te0) (fun _=>trivial) Tryz.func196 (by kernel_rfl)
noncomputable def Te2:AX:=Te1.add 217 (callP FbF)
theorem te2:XOK Tryz.prog Te2:=xok_spec te1 (s217 Te1 te1) (fun _=>trivial) Tryz.func217 (by kernel_rfl)
noncomputable def Te3:AX:=Te2.add 195 (callP FmF)
theorem te3:XOK Tryz.prog Te3:=xok_spec te2 (s195 Te2 te2 w0T rfl) (fun _=>trivial) Tryz.func195 (by kernel_rfl)
noncomputable def Te4:AX:=Te3.add 216 (callP FmF)
theorem te4:XOK Tryz.prog Te4:=xok_spec te3 (s216 Te3 te3 w0T rfl) (fun _=>trivial) Tryz.func216 (by kernel_rfl)
theorem enc_flat (x:En):(retOf [U (encR x).1,I (encR x).2]).flat:=by simp [retOf,AV.flat,AV.flatV,AV.flat1,U]
theorem dec_flat (n:Nat):(retOf [EnV (decR n).1,I (decR n).2]).flat:=by simp [retOf,AV.flat,AV.flatV,AV.flat1,EnV]
noncomputable def Te5:AX:=Te4.add 143 (callP EncF)
theorem te5:XOK Tryz.prog Te5:=xok_spec te4 (s143 Te4 te4 w0T cFm cFb) (fun x=>enc_flat x) Tryz.func143 (by kernel_rfl)
noncomputable def Te6:AX:=Te5.add 187 (callP EncF)
theorem te6:XOK Tryz.prog Te6:=xok_spec te5 (s187 Te5 te5 w0T cFm cFb) (fun x=>enc_flat x) Tryz.func187 (by kernel_rfl)
noncomputable def Te7:AX:=Te6.add 56 (callP DecF)
theorem te7:XOK Tryz.prog Te7:=xok_spec te6 (s56 Te6 te6 w0T cEn) (fun x=>dec_flat x.1) Tryz.func56 (by kernel_rfl)
noncomputable def Te8:AX:=Te7.add 131 (callP DecF)
theorem te8:XOK Tryz.prog Te8:=xok_spec te7 (s131 Te7 te7 w0T cEn) (fun x=>dec_flat x.1) Tryz.func131 (by kernel_rfl)
end Go.AM
namespace Go.AM
open Go Go.Proofs
theorem nrow_pl {l:List Nd}:∀ e∈nrows l,∀ a∈e,a.plain:=by
 intro e he a ha
 obtain ⟨x,_,rfl⟩:=List.mem_map.1 he
 simp only [nrow,wcs,List.mem_cons,List.mem_map] at ha
 rcases ha with rfl|⟨y,_,rfl⟩<;>trivial
theorem prow_pl {l:List Dp}:∀ e∈prows l,∀ a∈e,a.plain:=by
 intro e he a ha
 obtain ⟨x,_,rfl⟩:=List.mem_map.1 he
 simp at ha
 rcases ha with rfl|rfl<;>trivial
theorem srow_pl {l:List Stp}:∀ e∈srows l,∀ a∈e,a.plain:=by
 intro e he a ha
 obtain ⟨x,_,rfl⟩:=List.mem_map.1 he
 simp [srow] at ha
 rcases ha with rfl|rfl|rfl<;>trivial
theorem irow_pl {l:List Int}:∀ e∈irows l,∀ a∈e,a.plain:=by
 intro e he a ha
 obtain ⟨x,_,rfl⟩:=List.mem_map.1 he
 simp at ha
 subst ha;trivial
theorem erow_pl {l:List Pe}:∀ e∈erows l,∀ a∈e,a.plain:=by
 intro e he a ha
 obtain ⟨x,_,rfl⟩:=List.mem_map.1 he
 simp [erow] at ha
 rcases ha with rfl|rfl<;>trivial
theorem mem_mset:∀ {l:List (List Int×AV)} {q:List Int} {b:AV} {p:List Int×AV},p∈mset l q b→p∈l∨p=(q,b)
 | [],q,b,p,h=>by simp [mset] at h;exact .inr h
 | (k,a)::r,q,b,p,h=>by
  simp only [mset] at h
  split at h
  ·rcases List.mem_cons.1 h with h|h
   ·exact .inr h
   ·exact .inl (by simp [h])
  ·rcases List.mem_cons.1 h with h|h
   ·exact .inl (by simp [h])
   ·rcases mem_mset h with h|h
    ·exact .inl (by simp [h])
    ·exact .inr h
theorem idxE_pl {ns:List Nd}:∀ {n:Nat},∀ p∈idxE ns n,p.2.plain
 | 0,p,h=>by simp [idxE] at h
 | n+1,p,h=>by
  simp only [idxE] at h
  rcases mem_mset h with h|h
  ·exact idxE_pl p h
  ·rw [h];trivial
theorem TbO_fl {t:Tb}:(TbO t).flatV:=by
 intro a ha
 simp at ha
 rcases ha with rfl|rfl|rfl
 ·trivial
 ·exact nrow_pl
 ·exact prow_pl
theorem cT1 {D:Tb→Prop} {R:Tb→AV} {t:Tb} (h:D t) (M:Nat→AO) (n:Nat) {a:AV} {u:List (Nat×AO)} {k:Nat} (ho:openRet n (R t)=(a,u,k)) (hk:k≤n+16):callP (specF (ι:={x:Tb // D x}) (fun x=>[TbV x.1]) fun x=>R x.1) [TbV t] M n=some (a,u):=by
 rw [callP_spec (ι:={x:Tb // D x}) (A:=fun x=>[TbV x.1]) (R:=fun x=>R x.1) ⟨t,h⟩ (by simp [TbV]) ?_ (by rw [ho];exact hk),ho]
 rintro ⟨j,hj⟩ e
 simp only [List.cons.injEq,TbV_inj,and_true] at e
 subst e;rfl
theorem cT2 {D:Tb→Int→Prop} {R:Tb→Int→AV} {t:Tb} {x:Int} (h:D t x) (M:Nat→AO) (n:Nat) {a:AV} {u:List (Nat×AO)} {k:Nat} (ho:openRet n (R t x)=(a,u,k)) (hk:k≤n+16):callP (specF (ι:={x:Tb×Int // D x.1 x.2}) (fun x=>[TbV x.1.1,I x.1.2]) fun x=>R x.1.1 x.1.2) [TbV t,I x] M n=some (a,u):=by
 rw [callP_spec (ι:={x:Tb×Int // D x.1 x.2}) (A:=fun x=>[TbV x.1.1,I x.1.2]) (R:=fun x=>R x.1.1 x.1.2) ⟨(t,x),h⟩ (by simp [TbV]) ?_ (by rw [ho];exact hk),ho]
 rintro ⟨⟨j,y⟩,hj⟩ e
 simp only [List.cons.injEq,TbV_inj,I,AV.v.injEq,Value.int.injEq,true_and,and_true] at e
 obtain ⟨rfl,rfl⟩:=e;rfl
theorem cT3 {D:Tb→Nat→Prop} {R:Tb→Nat→AV} {t:Tb} {x:Nat} (h:D t x) (M:Nat→AO) (n:Nat) {a:AV} {u:List (Nat×AO)} {k:Nat} (ho:openRet n (R t x)=(a,u,k)) (hk:k≤n+16):callP (specF (ι:={x:Tb×Nat // D x.1 x.2}) (fun x=>[TbV x.1.1,I x.1.2]) fun x=>R x.1.1 x.1.2) [TbV t,I x] M n=some (a,u):=by
 rw [callP_spec (ι:={x:Tb×Nat // D x.1 x.2}) (A:=fun x=>[TbV x.1.1,I x.1.2]) (R:=fun x=>R x.1.1 x.1.2) ⟨(t,x),h⟩ (by simp [TbV]) ?_ (by rw [ho];exact hk),ho]
 rintro ⟨⟨j,y⟩,hj⟩ e
 simp only [List.cons.injEq,TbV_inj,I,AV.v.injEq,Value.int.injEq,true_and,and_true,Int.ofNat_inj] at e
 obtain ⟨rfl,rfl⟩:=e;rfl
theorem oT1 {D:Tb→Prop} {R:Tb→AV} {t:Tb} (h:D t) {p vp q vq:Nat} {M:Nat→AO} (hM:OwT M t p vp q vq) (n:Nat) {a:AV} {u:List (Nat×AO)} {k:Nat} (ho:openRet n (R t)=(a,u,k)) (hk:k≤n+16):callP (specF (ι:={x:Tb // D x}) (fun x=>[TbV x.1]) fun x=>R x.1) [TbS t p vp q vq] M n=some (a,u):=by
 rw [callP_spec (ι:={x:Tb // D x}) (A:=fun x=>[TbV x.1]) (R:=fun x=>R x.1) ⟨t,h⟩ (peek_tab hM rfl) ?_ (by rw [ho];exact hk),ho]
 rintro ⟨j,hj⟩ e
 simp only [List.cons.injEq,TbV_inj,and_true] at e
 subst e;rfl
theorem oT2 {D:Tb→Int→Prop} {R:Tb→Int→AV} {t:Tb} {x:Int} (h:D t x) {p vp q vq:Nat} {M:Nat→AO} (hM:OwT M t p vp q vq) (n:Nat) {a:AV} {u:List (Nat×AO)} {k:Nat} (ho:openRet n (R t x)=(a,u,k)) (hk:k≤n+16):callP (specF (ι:={x:Tb×Int // D x.1 x.2}) (fun x=>[TbV x.1.1,I x.1.2]) fun x=>R x.1.1 x.1.2) [TbS t p vp q vq,I x] M n=some (a,u):=by
 rw [callP_spec (ι:={x:Tb×Int // D x.1 x.2}) (A:=fun x=>[TbV x.1.1,I x.1.2]) (R:=fun x=>R x.1.1 x.1.2) ⟨(t,x),h⟩ (peek_tab hM (by simp)) ?_ (by rw [ho];exact hk),ho]
 rintro ⟨⟨j,y⟩,hj⟩ e
 simp only [List.cons.injEq,TbV_inj,I,AV.v.injEq,Value.int.injEq,true_and,and_true] at e
 obtain ⟨rfl,rfl⟩:=e;rfl
theorem oT3 {D:Tb→Nat→Prop} {R:Tb→Nat→AV} {t:Tb} {x:Nat} (h:D t x) {p vp q vq:Nat} {M:Nat→AO} (hM:OwT M t p vp q vq) (n:Nat) {a:AV} {u:List (Nat×AO)} {k:Nat} (ho:openRet n (R t x)=(a,u,k)) (hk:k≤n+16):callP (specF (ι:={x:Tb×Nat // D x.1 x.2}) (fun x=>[TbV x.1.1,I x.1.2]) fun x=>R x.1.1 x.1.2) [TbS t p vp q vq,I x] M n=some (a,u):=by
 rw [callP_spec (ι:={x:Tb×Nat // D x.1 x.2}) (A:=fun x=>[TbV x.1.1,I x.1.2]) (R:=fun x=>R x.1.1 x.1.2) ⟨(t,x),h⟩ (peek_tab hM (by simp)) ?_ (by rw [ho];exact hk),ho]
 rintro ⟨⟨j,y⟩,hj⟩ e
 simp only [List.cons.injEq,TbV_inj,I,AV.v.injEq,Value.int.injEq,true_and,and_true,Int.ofNat_inj] at e
 obtain ⟨rfl,rfl⟩:=e;rfl
end Go.AM
