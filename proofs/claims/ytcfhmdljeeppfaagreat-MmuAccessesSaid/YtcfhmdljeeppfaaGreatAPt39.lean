/- A part of the proof: what functions of the program compute, by abstract execution of their code. Its theorems hold without further condition. -/
import Derived.Test.YtcfhmdljeeppfaaGreatAPt30
import Derived.Shelf.SlSortFuncK.WholeK
import Derived.Test.YtcfhmdljeeppfaaGreatAAmTa
import Derived.Test.YtcfhmdljeeppfaaGreatAPt8
import Derived.Test.YtcfhmdljeeppfaaGreatAPtV
import Derived.Deep.RegionHeld3
import Derived.LoopN
import Derived.WalkKit
import Derived.Test.YtcfhmdljeeppfaaGreatAAmW
import Derived.Test.YtcfhmdljeeppfaaGreatAAmG2
set_option linter.all false
namespace Go.AM
open Go Go.Proofs
noncomputable def FClN:List AV→Option AV:=specF (ι:={l:List Nd // nds8 l∧l.length≤1000000}) (fun x=>[.rd 9 (nrows x.1)]) fun x=>retOf [.ow 9 (nrows x.1)]
noncomputable def FClD:List AV→Option AV:=specF (ι:={l:List Dp // l.length≤1000000}) (fun x=>[.rd 2 (prows x.1)]) fun x=>retOf [.ow 2 (prows x.1)]
theorem FClN_at {l:List Nd} (h:nds8 l) (h2:l.length≤1000000):FClN [.rd 9 (nrows l)]=some (.ow 9 (nrows l)):=by
 refine specF_eq (ι:={l:List Nd // nds8 l∧l.length≤1000000}) (A:=fun x=>[.rd 9 (nrows x.1)]) (R:=fun x=>retOf [.ow 9 (nrows x.1)]) ⟨l,h,h2⟩ fun j e=>?_
 simp only [List.cons.injEq,AV.rd.injEq,true_and,nrows_inj,and_true] at e
 rw [e]
theorem FClD_at {l:List Dp} (h2:l.length≤1000000):FClD [.rd 2 (prows l)]=some (.ow 2 (prows l)):=by
 refine specF_eq (ι:={l:List Dp // l.length≤1000000}) (A:=fun x=>[.rd 2 (prows x.1)]) (R:=fun x=>retOf [.ow 2 (prows x.1)]) ⟨l,h2⟩ fun j e=>?_
 simp only [List.cons.injEq,AV.rd.injEq,true_and,prows_inj,and_true] at e
 rw [e]
theorem s104 (X:AX) (hX:XOK Tryz.prog X) (hw:X.W wT):PSound Tryz.prog 104 (specF (ι:={x:Tb // tbOK x}) (fun x=>[TbV x.1]) fun x=>retOf [.agg [I x.1.1,.ow 9 (nrows x.1.2.1),.ow 2 (prows x.1.2.2)]]):=by
 refine psound_spec hX mixed Tryz.func104 rfl fun ⟨⟨r,ns,ds⟩,ht⟩ w0 G=>⟨by show 1≤20;decide,rfl,?_⟩
 show AW ⟨Tryz.prog,X,20,w0,.pure G⟩ _ _ _
 have hc:Cx.OK ⟨Tryz.prog,X,20,w0,.pure G⟩:=⟨hX,mixed⟩
 have hl1:ns.length≤1000000:=ht.2.1
 have hl2:ds.length≤1000000:=ht.2.2
 simp only [TbV]
 have tkn:List.take ns.length (nrows ns)=nrows ns:=List.take_of_length_le (by simp)
 have tkd:List.take ds.length (prows ds)=prows ds:=List.take_of_length_le (by simp)
 refine dM64o ?_
 repeat (intro K hK)
 refine ⟨by simp,?_⟩
 simp [leaves_iff,Tryz.f104,tkn,tkd]
 try exact dt
theorem s128 (X:AX) (hX:XOK Tryz.prog X) (hw:X.W wT) (h1:X.call 184=callC FClN) (h2:X.call 185=callC FClD):PSound Tryz.prog 128 (specF (ι:={x:Tb // tbOK x}) (fun x=>[TbV x.1]) fun x=>retOf [.agg [I x.1.1,.ow 9 (nrows x.1.2.1),.ow 2 (prows x.1.2.2)]]):=by
 refine psound_spec hX mixed Tryz.func128 rfl fun ⟨⟨r,ns,ds⟩,ht⟩ w0 G=>⟨by show 1≤12;decide,rfl,?_⟩
 show AW ⟨Tryz.prog,X,12,w0,.pure G⟩ _ _ _
 have hc:Cx.OK ⟨Tryz.prog,X,12,w0,.pure G⟩:=⟨hX,mixed⟩
 have hl1:ns.length≤1000000:=ht.2.1
 have hl2:ds.length≤1000000:=ht.2.2
 simp only [TbV]
 have e1:=FClN_at (nds8_of ht) hl1
 have e2:=FClD_at hl2
 simp only at e1 e2
 have tkn:List.take ns.length (nrows ns)=nrows ns:=List.take_of_length_le (by simp)
 have tkd:List.take ds.length (prows ds)=prows ds:=List.take_of_length_le (by simp)
 have zS:=jj h1<|jj h2<|jj e1<|e2
 refine dM64 ?_
 repeat (intro K hK)
 clear zS
 refine ⟨by simp,?_⟩
 simp [leaves_iff,Tryz.f128,tkn,tkd]
 try exact dt
theorem s184 (X:AX) (hX:XOK Tryz.prog X) (hw:X.W wT):PSound Tryz.prog 184 FClN:=by
 unfold FClN
 refine psound_spec hX mixed Tryz.func184 rfl fun ⟨ns,h8,hl⟩ w0 G=>⟨by show 1≤8;decide,rfl,?_⟩
 show AW ⟨Tryz.prog,X,8,w0,.pure G⟩ _ _ _
 have hc:Cx.OK ⟨Tryz.prog,X,8,w0,.pure G⟩:=⟨hX,mixed⟩
 simp only at h8 hl ⊢
 have tkn:List.take ns.length (nrows ns)=nrows ns:=List.take_of_length_le (by simp)
 cases ns with
 | nil =>
  refine aw_cases_nil 0 9 (by simp [nrows,enterS]) ?_ fun p n=>?_
  ·refine dM64o ?_
   repeat (intro K hK)
   refine ⟨by simp,?_⟩
   simp [leaves_iff,Tryz.f184,nrows]
   try exact dt
  ·refine dM64o ?_
   repeat (intro K hK)
   refine ⟨by simp,?_⟩
   simp [leaves_iff,Tryz.f184,nrows]
   try exact dt
 | cons x ns =>
  have hl':ns.length+1≤1000000:=by simpa using hl
  obtain ⟨e,he⟩:∃ e,e=nrow x:=⟨_,rfl⟩
  obtain ⟨T,hT⟩:∃ T,T=nrows ns:=⟨_,rfl⟩
  have hc2:nrows (x::ns)=e::T:=by rw [he,hT];rfl
  have hTl:T.length=ns.length:=by rw [hT];simp
  have tk:List.take T.length T=T:=List.take_of_length_le (Nat.le_refl _)
  rw [hc2]
  clear he hT tkn
  have zS:=tk
  refine dM64 ?_
  repeat (intro K hK)
  clear zS
  refine ⟨by simp,?_⟩
  simp [leaves_iff,Tryz.f184,tk]
  try exact dt
theorem s185 (X:AX) (hX:XOK Tryz.prog X) (hw:X.W wT):PSound Tryz.prog 185 FClD:=by
 unfold FClD
 refine psound_spec hX mixed Tryz.func185 rfl fun ⟨ds,hl⟩ w0 G=>⟨by show 1≤8;decide,rfl,?_⟩
 show AW ⟨Tryz.prog,X,8,w0,.pure G⟩ _ _ _
 have hc:Cx.OK ⟨Tryz.prog,X,8,w0,.pure G⟩:=⟨hX,mixed⟩
 simp only at hl ⊢
 cases ds with
 | nil =>
  refine aw_cases_nil 0 2 (by simp [prows,enterS]) ?_ fun p n=>?_
  ·refine dM64o ?_
   repeat (intro K hK)
   refine ⟨by simp,?_⟩
   simp [leaves_iff,Tryz.f185,prows]
   try exact dt
  ·refine dM64o ?_
   repeat (intro K hK)
   refine ⟨by simp,?_⟩
   simp [leaves_iff,Tryz.f185,prows]
   try exact dt
 | cons x ds =>
  have hl':ds.length+1≤1000000:=by simpa using hl
  obtain ⟨e,he⟩:∃ e,e=[I x.1,I x.2]:=⟨_,rfl⟩
  obtain ⟨T,hT⟩:∃ T,T=prows ds:=⟨_,rfl⟩
  have hc2:prows (x::ds)=e::T:=by rw [he,hT];rfl
  have hTl:T.length=ds.length:=by rw [hT];simp
  have tk:List.take T.length T=T:=List.take_of_length_le (Nat.le_refl _)
  rw [hc2]
  clear he hT
  have zS:=tk
  refine dM64 ?_
  repeat (intro K hK)
  clear zS
  refine ⟨by simp,?_⟩
  simp [leaves_iff,Tryz.f185,tk]
  try exact dt
def TbO (t:Tb):AV:=.agg [I t.1,.ow 9 (nrows t.2.1),.ow 2 (prows t.2.2)]
end Go.AM
namespace Go.AM
open Go Go.Proofs Go.Sort
structure SortD where
 nd:Nat
 m:Nat
 n:Nat
 bs:Nat
 tb:Nat
 r:AV
 dsA:AV
 f:Bool
 l:List Nd
 x:Nd
def SortD.ok (D:SortD) (avs:List AV) (M:Nat→AO):Prop :=
 avs=[.ifc 60 [.sl D.nd D.m 9 0 D.n],.fn 215 [.bp D.bs 0]]∧M D.bs=.box [.bp D.tb 0]∧M D.tb=.box [D.r,.sl D.nd D.m 9 0 D.n,D.dsA]∧M D.nd=.vec D.m 9 D.f (nrows (D.l++[D.x]))∧D.n=(D.l++[D.x]).length ∧
  ascK D.l∧(∀ a∈D.l,a.1≠D.x.1)∧1≤D.l.length∧D.l.length<1000000000∧nds8 (D.l++[D.x])
end Go.AM
namespace Go.AM
open Go Go.Proofs
def pMs (t:Tb) (v v2:Nat):List AO:=[.box [I t.1,.sl 1 v 9 0 t.2.1.length,.sl 2 v2 2 0 t.2.2.length],.vec v 9 false (nrows t.2.1),.vec v2 2 false (prows t.2.2)]
theorem pMs_inj {t t':Tb} {v v2:Nat} (h:pMs t v v2=pMs t' v v2):t=t':=by
 obtain ⟨r,ns,ds⟩:=t
 obtain ⟨r',ns',ds'⟩:=t'
 simp only [pMs,List.cons.injEq,AO.box.injEq,I,AV.v.injEq,Value.int.injEq,true_and,AO.vec.injEq,nrows_inj,prows_inj,and_true] at h
 obtain ⟨⟨h1,_⟩,h2,h3⟩:=h
 rw [h1,h2,h3]
def OwnR (X:AX) (f:FuncId) (D:Tb→Int→Prop) (R:Tb→Int→AV):Prop :=
 ∀ (r:Int) (ns:List Nd) (ds:List Dp) (x:Int),D (r,ns,ds) x→∀ (a va b vb:Nat) (f1 f2:Bool) (M:Nat→AO) (n:Nat),M a=.vec va 9 f1 (nrows ns)→M b=.vec vb 2 f2 (prows ds)→X.call f [.agg [I r,.sl a va 9 0 ns.length,.sl b vb 2 0 ds.length],I x] M n=some (R (r,ns,ds) x,[])
theorem nrows_setN {ns:List Nd} {n i w:Nat} (hn:n<ns.length):(nrows ns).set n (I (gn ns n).1::(wcs (gn ns n).2).set i (U w))=nrows (setN ns n i w):=by
 have:wcs ((gn ns n).2.set i w)=(wcs (gn ns n).2).set i (U w):=by simp [wcs,List.map_set]
 rw [← this]
 show (nrows ns).set n (nrow ((gn ns n).1,(gn ns n).2.set i w))=_
 unfold setN nrows
 rw [List.map_set]
 rfl
def putT (t:Tb) (p w:Nat):Tb:=(t.1,setN t.2.1 (lsT t p).1 (dgt p (lsT t p).2.1) w,t.2.2)
abbrev PuD:=Tb×Nat×Nat
noncomputable def puS:List AV→List AO→Option (AV×List AO):=specG (ι:={x:PuD // ptO x.1 x.2.1∧x.2.2<2^64}) (fun x=>[.bp 0 0,I x.1.2.1,U x.1.2.2]) (fun x=>pMs x.1.1 1 1) (fun x=>.tup []) fun x=>pMs (putT x.1.1 x.1.2.1 x.1.2.2) 1 1
theorem puS_at {t:Tb} {p w:Nat} (h:ptO t p) (hw:w<2^64):puS [.bp 0 0,I p,U w] (pMs t 1 1)=some (.tup [],pMs (putT t p w) 1 1):=by
 refine specG_eq (ι:={x:PuD // ptO x.1 x.2.1∧x.2.2<2^64}) (A:=fun x=>[.bp 0 0,I x.1.2.1,U x.1.2.2]) (M:=fun x=>pMs x.1.1 1 1) (R:=fun x=>.tup []) (O:=fun x=>pMs (putT x.1.1 x.1.2.1 x.1.2.2) 1 1) ⟨(t,p,w),h,hw⟩ fun j hA hM=>?_
 obtain ⟨⟨t',p',w'⟩,h'⟩:=j
 have e:=pMs_inj hM
 simp only at e
 subst e
 simp only [List.cons.injEq,I,U,AV.v.injEq,Value.int.injEq,true_and,and_true] at hA
 have e1:p'=p:=by omega
 have e2:w'=w:=by omega
 subst e1 e2
 exact ⟨rfl,rfl⟩
set_option maxHeartbeats 4000000 in
theorem s130 (X:AX) (hX:XOK Tryz.prog X) (hw:X.W wT) (hla:OwnR X 110 (fun t x=>0≤x∧ptO t x.toNat) fun t x=>stV (lsT t x.toNat)) (hdg:∀ (p l:Nat),p<512→l≤2→∀ M n,X.call 139 [I p,I l] M n=some (I (dgt p l),[])):GSound Tryz.prog 130 puS:=by
 unfold puS
 refine gsound_spec Tryz.func130 rfl X fun ⟨⟨⟨r,ns,ds⟩,p,w⟩,hpt,hw64⟩ w0 L E=>⟨by show 3≤26;decide,?_⟩
 simp only at hw64
 have hp:p<512:=hpt.2.2.1
 have hla':=hla r ns ds p ⟨by omega,hpt⟩
 obtain ⟨hlt1,hlt2⟩:(lsT (r,ns,ds) p).1<ns.length∧(lsT (r,ns,ds) p).2.1≤2:=by
  obtain ⟨_,_,_,⟨rt,hrt⟩,_⟩:=hpt
  exact lst_lt (by unfold rtN;rw [hrt];exact fnd_lt hrt)
 have ht:=hpt.1
 have hl1:ns.length≤1000000:=ht.2.1
 have hl2:ds.length≤1000000:=ht.2.2
 have hR:putT (r,ns,ds) p w=(r,setN ns (lsT (r,ns,ds) p).1 (dgt p (lsT (r,ns,ds) p).2.1) w,ds):=rfl
 obtain ⟨⟨a,b,c⟩,hS⟩:∃ S,S=lsT (r,ns,ds) p:=⟨_,rfl⟩
 simp only [Int.toNat_natCast] at hla'
 rw [← hS] at hla' hlt1 hlt2 hR
 simp only at hla' hlt1 hlt2 hR
 have hdg':=hdg p b hp hlt2
 have hdl:=dgt_lt p b
 have haN:(a:Int)<(ns.length:Int):=by omega
 have hgn:=nrows_gi hlt1
 have hgnE:=nrows_gE hlt1
 have h8:(gn ns a).2.length=8:=(ht.1 _ (gn_mem hlt1)).1
 have hset:=@nrows_setN ns a (dgt p b) w hlt1
 have hwl:(wcs (gn ns a).2).length=8:=by simp [h8]
 obtain ⟨NS,hNS⟩:∃ NS,NS=setN ns a (dgt p b) w:=⟨_,rfl⟩
 have hNl:NS.length=ns.length:=by rw [hNS];simp
 rw [← hNS] at hset hR
 obtain ⟨⟨fr,ws⟩,hm⟩:∃ m,m=gn ns a:=⟨_,rfl⟩
 rw [← hm] at hgn hgnE hwl hset
 simp only at hgn hgnE hwl hset
 obtain ⟨cs,hcs⟩:∃ cs,cs=wcs ws:=⟨_,rfl⟩
 rw [← hcs] at hgn hgnE hwl hset
 obtain ⟨dg,hdg0⟩:∃ dg,dg=dgt p b:=⟨_,rfl⟩
 rw [← hdg0] at hdl hdg' hset
 have hdI:(dg:Int)<8:=by omega
 clear hcs hm h8 hS
 simp only [pMs,hR,hNl,stV,srow,U] at hla' hset ⊢
 show AW ⟨Tryz.prog,X,26,w0,⟨L,E,3⟩⟩ _ _ _
 have hc:Cx.OK ⟨Tryz.prog,X,26,w0,⟨L,E,3⟩⟩:=⟨hX,mixed⟩
 have zS:=jj hla'<|jj hdg'<|jj hlt1<|jj haN<|jj hgn<|jj hgnE<|jj hwl<|jj hdl<|jj hdI<|hset
 refine dM64 ?_
 repeat (intro K hK)
 clear zS
 refine ⟨[],rfl,?_⟩
 have hs1:(I fr::cs).set (1+dg) (AV.v (.int .u64 w))=I fr::cs.set dg (AV.v (.int .u64 w)):=by rw [Nat.add_comm];rfl
 rw [hs1,hset]
 simp only [idx]
 exact dle
end Go.AM
namespace Go.AM
open Go Go.Proofs
set_option maxHeartbeats 2000000 in
set_option maxRecDepth 4000 in
theorem callPu {a b c:Nat} (hab:a≠b) (hac:a≠c) (hbc:b≠c) {r:Int} {ns:NdL} {ds:List Dp} {p w:Nat} (h:ptO (r,ns,ds) p) (hw:w<2^64) {v v2:Nat} (M:Nat→AO) (nid:Nat)
  (h0:M a=.box [I r,.sl b (v+1) 9 0 ns.length,.sl c (v2+1) 2 0 ds.length]) (h1:M b=.vec (v+1) 9 false (nrows ns)) (h2:M c=.vec (v2+1) 2 false (prows ds)) :
  callG puS [.bp a 0,I p,U w] M nid=some (.tup [],[(a,.box [I r,.sl b (v+1) 9 0 ns.length,.sl c (v2+1) 2 0 ds.length]),(b,.vec (v+1) 9 false (nrows (putT (r,ns,ds) p w).2.1)),(c,.vec (v2+1) 2 false (prows ds))]):=by
 have hF:=puS_at h hw
 have e0:putT (r,ns,ds) p w=(r,(putT (r,ns,ds) p w).2.1,ds):=rfl
 have hil:(putT (r,ns,ds) p w).2.1.length=ns.length:=setN_len
 rw [e0] at hF
 simp only [pMs,hil,U] at hF
 unfold callG U
 have hba:b≠a:=fun e=>hab e.symm
 have hca:c≠a:=fun e=>hac e.symm
 have hcb:c≠b:=fun e=>hbc e.symm
 have hg:gat M 64 (nmsL [.bp a 0,I p,.v (.int .u64 w)]) []=[a,b,c]:=by
  simp [gat,nmsL,AV.nms,AO.nms,h0,h1,h2,hab,hac,hbc,hba,hca,hcb]
 simp only [hg]
 rw [if_pos ?cg]
 case cg=>simp [CallG,nmsL,AV.nms,AO.nms,Led,curBL,AV.curB,AO.curB,verOf,notDead,h0,h1,h2,hab,hac,hbc,hba,hca,hcb]
 have e1:1+v=v+1:=by omega
 have e2:1+v2=v2+1:=by omega
 simp [renL,AV.ren,AO.ren,posN,canO,nmsL,h0,h1,h2,hF,RetG,getL,AV.nms,AO.nms,updN,nmN,shN,verOf,rng,Led,hab,hac,hbc,hba,hca,hcb,e1,e2]
def stD (r:Int) (ds:List Dp) (p:Nat) (ns:NdL) (f:Int):NdL:=insK (setN ns (lsT (r,ns,ds) p).1 (dgt p (lsT (r,ns,ds) p).2.1) (f.toNat*256+4)) (f,zs8)
def dpN (r:Int) (ds:List Dp) (p:Nat) (ns:NdL) (fs:List Int):NdL:=fs.foldl (stD r ds p) ns
theorem setN_ok {ns:NdL} {n i w:Nat} (h:∀ x∈ns,ndOK x) (hw:w<2^64) (hn:n<ns.length):∀ x∈setN ns n i w,ndOK x:=fun x hx=>by
 rcases List.mem_or_eq_of_mem_set hx with h1|h1
 ·exact h x h1
 ·rw [h1]
  have hm:=h _ (gn_mem hn)
  refine ⟨by simp only [List.length_set];exact hm.1,fun y hy=>?_⟩
  rcases List.mem_or_eq_of_mem_set hy with h2|h2
  ·exact hm.2 y h2
  ·rw [h2];exact hw
end Go.AM
namespace Go.AM
open Go Go.Proofs
def orG (F G:List AV→List AO→Option (AV×List AO)) (avs:List AV) (ms:List AO):Option (AV×List AO):=match F avs ms with
 | some r=>some r
 | none=>G avs ms
theorem GSound.or {P:Program} {f:FuncId} {F G:List AV→List AO→Option (AV×List AO)} (h1:GSound P f F) (h2:GSound P f G):GSound P f (orG F G):=fun w l E args avs ms r ms' h=>by
 unfold orG at h
 cases hf:F avs ms with
 | some x=>rw [hf] at h;exact h1 w l E args avs ms r ms' (hf.trans h)
 | none=>rw [hf] at h;exact h2 w l E args avs ms r ms' h
end Go.AM
namespace Go.AM
open Go Go.Proofs
def usB (ns:NdL) (ds:List Dp) (fs:List Int):Bool:=(List.range fs.length).all fun i=>decide (0≤gi fs i∧gi fs i≤4294967295)&&(ns.all fun n=>decide (n.1≠gi fs i))&&((List.range ds.length).all fun k=>decide ((gp ds k).2≠gi fs i))&&(List.range i).all fun j=>decide (gi fs j≠gi fs i)
end Go.AM
namespace Go.AM
open Go Go.Proofs
theorem decR_tw {g:Nat} (hg:g≤4294967295):decR (g*256+4)=((4,(g:Int),false,false,false,false),0):=by
 have hb:∀ j,3≤j→j<8→(g*256+4).testBit j=false:=fun j h1 h2=>by
  rw [Nat.testBit_eq_decide_div_mod_eq]
  rcases (by omega:j=3∨j=4∨j=5∨j=6∨j=7) with rfl|rfl|rfl|rfl|rfl
  all_goals exact decide_eq_false (by omega)
 have hp:prs (g*256+4)=(4,(g:Int),false,false,false,false):=by
  unfold prs
  rw [hb 3 (by omega) (by omega),hb 4 (by omega) (by omega),hb 5 (by omega) (by omega),hb 6 (by omega) (by omega)]
  rw [show (g*256+4)%8=4 by omega,show (g*256+4)/256%4294967296=g by omega]
  rfl
 have he:encR (4,(g:Int),false,false,false,false)=(((g*256+4:Nat):Int),0):=by
  rw [encR_z (by simp only;omega) (by unfold badF;simp only;omega) (by rfl)]
  unfold encW fb
  simp
  omega
 rw [decR_z (by rw [hp];exact he),hp]
theorem tabW_tw {g:Nat} (hg:g≤4294967295):tabW (g*256+4)=some (g:Int):=by unfold tabW;rw [decR_tw hg];rfl
theorem decR_0:decR 0=(zE,0):=by rfl
theorem wdZ (adm:Int→Bool):WdZ (WD adm) where
 ok:=fun l=>by show okWb l 0=true;unfold okWb;rw [decR_0];rfl
 tab:=by show tabW 0=none;unfold tabW;rw [decR_0];rfl
theorem kind0 {l w:Nat} (h:okWb l w=true):(decR w).1.1=0↔w=0:=by
 constructor
 ·intro h0
  unfold okWb at h
  simp only [Bool.and_eq_true,decide_eq_true_eq] at h
  by_cases he:encR (prs w)=((w:Int),0)
  ·rw [decR_z he] at h0
   simp only at h0
   by_cases hb:badF (prs w)
   ·rw [encR_f (by rw [h0];decide) hb] at he;simp at he
   ·cases hf:frmE (prs w) with
    | false=>rw [encR_m (by rw [h0];decide) hb hf] at he;simp at he
    | true =>
     rw [encR_z (by rw [h0];decide) hb hf] at he
     simp only [Prod.mk.injEq,and_true] at he
     unfold frmE noFl at hf
     rw [if_neg (by rw [h0];decide),if_neg (by rw [h0];decide),if_pos h0] at hf
     simp only [Bool.and_eq_true,decide_eq_true_eq,Bool.not_eq_true'] at hf
     unfold encW fb at he
     rw [h0,hf.1,hf.2.1,hf.2.2.1,hf.2.2.2.1,hf.2.2.2.2] at he
     simp at he
     omega
  ·rw [decR_n he] at h
   simp at h
 ·rintro rfl
  rw [decR_0];rfl
section
variable {M:Mm} {root:Int} {p:Nat}
theorem dgt2 (hp:p<512):dgt p 2=p/64:=by unfold dgt;simp;omega
theorem dgt1:dgt p 1=p/8%8:=by unfold dgt;simp
theorem dgt0:dgt p 0=p%8:=by unfold dgt;simp
theorem wlk_at (hV:VM WA M root) (hp:p<512) {f:Int} {l w:Nat} (h:wlk M root p=(f,l,w)) :
  l≤2∧(2 - l,p/8^(l+1))∈Pos∧frP WA M root (2 - l) (p/8^(l+1))=some f∧w=wM M f (dgt p l)∧tabW w=none∧okWb l w=true:=by
 have hok:∀ d q,(d,q)∈Pos→∀ f,frP WA M root d q=some f→∀ i,i<8→okWb (2 - d) (wM M f i)=true:=fun d q hx f hf i hi=>by
  obtain ⟨ws,h1,_,h3⟩:=hV.nd d q hx f hf
  unfold wM;rw [h1];exact h3 i hi
 have f1:frP WA M root 1 (p/64)=tabW (wM M root (p/64)):=by
  simp only [frP,Option.bind_some]
  rw [show p/64%8=p/64 by omega]
  rfl
 have f2:frP WA M root 2 (p/8)=(frP WA M root 1 (p/64)).bind fun f=>tabW (wM M f (p/8%8)):=by
  show (frP WA M root 1 (p/8/8)).bind _=_
  rw [show p/8/8=p/64 by omega]
  rfl
 unfold wlk at h
 cases h2:frP WA M root 2 (p/8) with
 | some g =>
  rw [h2] at h
  simp only [Prod.mk.injEq] at h
  obtain ⟨rfl,rfl,rfl⟩:=h
  have hx:=Pos2 (q:=p/8) (by omega)
  have ho:=hok 2 _ hx _ h2 (p%8) (by omega)
  refine ⟨by omega,by simpa using hx,by simpa using h2,by rw [dgt0],?_,ho⟩
  exact (WD_ok fun _=>true).flat _ ho
 | none =>
  rw [h2] at h f2
  simp only at h
  cases h1:frP WA M root 1 (p/64) with
  | some g =>
   rw [h1] at h f2
   simp only [Prod.mk.injEq] at h
   obtain ⟨rfl,rfl,rfl⟩:=h
   have hx:=Pos1 (q:=p/64) (by omega)
   have ho:=hok 1 _ hx _ h1 (p/8%8) (by omega)
   exact ⟨by omega,by simpa using hx,by simpa using h1,by rw [dgt1],f2.symm,ho⟩
  | none =>
   rw [h1] at h f1
   simp only [Prod.mk.injEq] at h
   obtain ⟨rfl,rfl,rfl⟩:=h
   have ho:=hok 0 0 Pos0 _ rfl (p/64) (by omega)
   refine ⟨by omega,by simp;rw [show p/512=0 by omega];exact Pos0,by simp [frP],by rw [dgt2 hp],f1.symm,ho⟩
theorem wlk_of (hp:p<512) {f:Int} {l:Nat} (hl:l≤2) (h:frP WA M root (2 - l) (p/8^(l+1))=some f) (h2:tabW (wM M f (dgt p l))=none∨l=0):wlk M root p=(f,l,wM M f (dgt p l)):=by
 have f2:frP WA M root 2 (p/8)=(frP WA M root 1 (p/64)).bind fun f=>tabW (wM M f (p/8%8)):=by
  show (frP WA M root 1 (p/8/8)).bind _=_
  rw [show p/8/8=p/64 by omega]
  rfl
 have f1:frP WA M root 1 (p/64)=tabW (wM M root (p/64)):=by
  simp only [frP,Option.bind_some]
  rw [show p/64%8=p/64 by omega]
  rfl
 unfold wlk
 rcases (by omega:l=0∨l=1∨l=2) with rfl|rfl|rfl
 ·simp at h
  rw [h];simp [dgt0]
 ·simp at h
  rw [dgt1] at h2
  have h2:=h2.resolve_right (by omega)
  rw [h,Option.bind_some,h2] at f2
  rw [f2,h];simp [dgt1]
 ·simp [frP] at h
  subst h
  rw [dgt2 hp] at h2
  have h2:=h2.resolve_right (by omega)
  rw [h2] at f1
  rw [f1] at f2
  rw [f2,f1];simp [dgt2 hp]
end
theorem Mof_ext {a b:Mm} (h:∀ g,a g=b g):a=b:=funext h
end Go.AM
namespace Go.AM
open Go Go.Proofs
def TbC (t:Tb) (n:Nat):AV:=.agg [I t.1,.sl n 1 9 0 t.2.1.length,.sl (n+1) 1 2 0 t.2.2.length]
def zT:Tb:=(0,[],[])
noncomputable def setP (t:Tb) (p:Int) (w:Nat) (fs:List Int):Tb×Int :=
 if ckd t p 512≠0 then (zT,ckd t p 512)
 else if (decR w).2≠0∨(decR w).1.1=0∨(decR w).1.1=4∨(decR w).1.2.2.2.2.2=true then (zT,3)
 else if (lsT t p.toNat).2.2≠0 then (zT,7)
 else if fs.length=(lsT t p.toNat).2.1∧usB t.2.1 t.2.2 fs=true then (putT (t.1,dpN t.1 t.2.2 p.toNat t.2.1 fs,t.2.2) p.toNat w,0)
 else (zT,1)
theorem ckd_pt {t:Tb} (ht:tbOK t) {n lim:Int} (h:¬ ckd t n lim≠0):Pv t∧0≤n∧n<lim:=by
 rcases ckd_cases t n lim with h1|h1
 ·exact absurd h1 h
 ·exact ⟨chk_pv ht h1.2.1,h1.2.2⟩
abbrev StD:=Tb×Int×Nat×List Int
def stOK (x:StD):Prop:=tbOK x.1∧x.1.2.1.length≤999000∧x.2.2.1<2^64∧x.2.2.2.length≤1000
end Go.AM
namespace Go.AM
open Go Go.Proofs
theorem decR_rng (w:Nat):0≤(decR w).1.2.1∧(decR w).1.2.1≤4294967295:=by
 unfold decR
 split
 ·exact (prs_rng w).2
 ·decide
end Go.AM
namespace Go.AM
open Go Go.Proofs
theorem decR_ok {w:Nat} (h:(decR w).2=0):(0≤(decR w).1.1∧(decR w).1.1≤4)∧¬ badF (decR w).1∧frmE (decR w).1=true∧encR (decR w).1=((w:Int),0):=by
 by_cases he:encR (prs w)=((w:Int),0)
 ·rw [decR_z he]
  simp only
  have hrg:=prs_rng w
  by_cases hk:0≤(prs w).1∧(prs w).1≤4
  ·by_cases hb:badF (prs w)
   ·rw [encR_f hk hb] at he;simp at he
   ·cases hm:frmE (prs w) with
    | false=>rw [encR_m hk hb hm] at he;simp at he
    | true=>exact ⟨hk,hb,rfl,he⟩
  ·rw [encR_k hk] at he;simp at he
 ·rw [decR_n he] at h;simp at h
theorem Pv.put {r:Int} {ns:NdL} {ds:List Dp} (h:Pv (r,ns,ds)) (ht:tbOK (r,ns,ds)) {p:Nat} (hp:p<512) {f:Int} {l w0 w:Nat} (hw:wlk (Mof ns) r p=(f,l,w0)) (hw64:w<2^64) (htb:tabW w=none) (hok:okWb l w=true) :
  Pv (r,(putT (r,ns,ds) p w).2.1,ds)∧tbOK (r,(putT (r,ns,ds) p w).2.1,ds)∧Mof (putT (r,ns,ds) p w).2.1=updW (Mof ns) f (dgt p l) w∧(∀ d q,(d,q)∈Pos→frP WA (Mof (putT (r,ns,ds) p w).2.1) r d q=frP WA (Mof ns) r d q)∧(putT (r,ns,ds) p w).2.1.length=ns.length:=by
 obtain ⟨hl2,hx,hfp,hwm,htn,_⟩:=wlk_at h.vm hp hw
 simp only at hfp hwm hx
 have hwk:=h.walk hp
 simp only at hwk
 have hfn:=hwk.2.1
 have hlv:=hwk.2.2
 rw [hw] at hfn hlv
 simp only at hfn hlv
 have hnl:(lsT (r,ns,ds) p).1<ns.length:=fnd_lt hfn
 have hst:(putT (r,ns,ds) p w).2.1=setN ns (lsT (r,ns,ds) p).1 (dgt p l) w:=by unfold putT;simp only [hlv]
 have hM:Mof (putT (r,ns,ds) p w).2.1=updW (Mof ns) f (dgt p l) w:=by rw [hst];exact Mof_ext (Mof_set h.asc hfn)
 have hpt:=h.vm.put hx hfp (i:=dgt p l) (w:=w) (dgt_lt p l) (by show tabW w=tabW _;rw [← hwm,htb,htn]) (by show okWb (2 - (2 - l)) w=true;rw [show 2 - (2 - l)=l by omega];exact hok)
 simp only at hpt
 rw [← hM] at hpt
 refine ⟨⟨by show ascN (putT (r,ns,ds) p w).2.1;rw [hst];exact setN_asc h.asc hnl,hpt.1⟩,⟨?_,?_,ht.2.2⟩,hM,hpt.2,by rw [hst,setN_len]⟩
 ·show ∀ x∈(putT (r,ns,ds) p w).2.1,ndOK x
  rw [hst];exact setN_ok ht.1 hw64 hnl
 ·show (putT (r,ns,ds) p w).2.1.length≤_
  rw [hst,setN_len];exact ht.2.1
end Go.AM
namespace Go.AM
open Go Go.Proofs
abbrev Te:=Int×Int×Nat
abbrev Tl:=Int×List Te
def trB (w:Nat):Bool:=decide ((decR w).2=0∧(decR w).1.1=1)
def hgB (w:Nat):Bool:=decide ((decR w).2=0)&&(decR w).1.2.2.2.2.2
def spn (w:Nat):Int:=if hgB w=true then 8 else 1
def plcB (s p:Int):Bool:=decide (0≤s∧s<8∧0≤p∧p<512)
def cvB (x:Te) (s p:Int):Bool:=decide (x.1=s∧x.2.1≤p∧p<x.2.1+spn x.2.2)
def ovB (a b:Te):Bool:=decide (a.1=b.1∧a.2.1<b.2.1+spn b.2.2∧b.2.1<a.2.1+spn a.2.2)
def efE (x:Te):Int:=if plcB x.1 x.2.1=false then 2 else if trB x.2.2=false∨(hgB x.2.2=true∧x.2.1%8≠0) then 3 else 0
def gt (l:List Te) (i:Nat):Te:=l.getD i (0,0,0)
theorem gt_eq {l:List Te} {i:Nat} (h:i<l.length):gt l i=l[i]:=by
 unfold gt
 rw [List.getD_eq_getElem?_getD,List.getElem?_eq_getElem h];rfl
theorem gt_mem {l:List Te} {i:Nat} (h:i<l.length):gt l i∈l:=by rw [gt_eq h];exact List.getElem_mem h
def erE (l:List Te) (i:Nat):Int:=if efE (gt l i)≠0 then efE (gt l i) else if (l.take i).any (ovB (gt l i))=true then 7 else 0
def frst (f:Nat→Int):Nat→Int
 | 0=>0
 | n+1=>if frst f n≠0 then frst f n else f n
theorem frst_z {f:Nat→Int}:∀ {n:Nat},frst f n=0↔∀ i,i<n→f i=0
 | 0=>by simp [frst]
 | n+1=>by
  have ih:=@frst_z f n
  unfold frst
  constructor
  ·intro h i hi
   by_cases h0:frst f n=0
   ·rw [if_neg (by simp [h0])] at h
    rcases Nat.lt_succ_iff_lt_or_eq.1 hi with h1|rfl
    ·exact ih.1 h0 i h1
    ·exact h
   ·rw [if_pos h0] at h;exact absurd h h0
  ·intro h
   have h0:frst f n=0:=ih.2 fun i hi=>h i (by omega)
   rw [if_neg (by simp [h0])]
   exact h n (by omega)
theorem frst_at {f:Nat→Int} {i:Nat} (hz:∀ j,j<i→f j=0) (h:f i≠0):∀ {n:Nat},i<n→frst f n=f i
 | 0,hn=>by omega
 | n+1,hn=>by
  unfold frst
  rcases Nat.lt_succ_iff_lt_or_eq.1 hn with h1|rfl
  ·have:=frst_at hz h h1
   rw [this,if_pos h]
  ·rw [if_neg]
   simp only [ne_eq,Decidable.not_not]
   exact frst_z.2 hz
def chB (b:Tl):Int:=if b.1<1∨16<b.1 then 1 else if b.1<b.2.length then 8 else frst (erE b.2) b.2.length
theorem chB_z {b:Tl}:chB b=0↔1≤b.1∧b.1≤16∧(b.2.length:Int)≤b.1∧∀ i,i<b.2.length→erE b.2 i=0:=by
 unfold chB
 split
 ·constructor
  ·intro h;simp at h
  ·rintro ⟨h1,h2,_⟩;omega
 ·split
  ·constructor
   ·intro h;simp at h
   ·rintro ⟨_,_,h3,_⟩;omega
  ·rw [frst_z]
   constructor
   ·intro h;exact ⟨by omega,by omega,by omega,h⟩
   ·exact fun h=>h.2.2.2
theorem erE_z {l:List Te} {i:Nat} (h:erE l i=0):efE (gt l i)=0∧∀ y∈l.take i,ovB (gt l i) y=false:=by
 unfold erE at h
 split at h
 ·rename_i h1;exact absurd h h1
 ·rename_i h1
  split at h
  ·simp at h
  ·rename_i h2
   refine ⟨by simpa using h1,fun y hy=>?_⟩
   cases hb:ovB (gt l i) y with
   | false=>rfl
   | true=>exact absurd (List.any_eq_true.2 ⟨y,hy,hb⟩) h2
theorem efE_z {x:Te} (h:efE x=0):(0≤x.1∧x.1<8∧0≤x.2.1∧x.2.1<512)∧trB x.2.2=true∧(hgB x.2.2=true→x.2.1%8=0):=by
 unfold efE at h
 split at h
 ·simp at h
 ·rename_i h1
  split at h
  ·simp at h
  ·rename_i h2
   refine ⟨by unfold plcB at h1;simpa using h1,?_,fun hg=>?_⟩
   ·cases hb:trB x.2.2 with
    | true=>rfl
    | false=>exact absurd (.inl hb) h2
   ·by_cases h3:x.2.1%8=0
    ·exact h3
    ·exact absurd (.inr ⟨hg,h3⟩) h2
def htB (x:Te) (s p:Int):Bool:=if x.1≠s then false else if hgB x.2.2=true then decide (0≤p∧x.2.1=p - p.tmod 8) else decide (x.2.1=p)
theorem ht_cv {x:Te} (h:efE x=0) (s p:Int):htB x s p=cvB x s p:=by
 obtain ⟨⟨h1,h2,h3,h4⟩,h5,h6⟩:=efE_z h
 unfold htB cvB spn
 by_cases e:x.1=s
 ·rw [if_neg (by simp [e])]
  cases hg:hgB x.2.2 with
  | true =>
   have h7:=h6 hg
   simp only [if_true]
   rw [decide_eq_decide]
   by_cases hp:0≤p
   ·rw [Int.tmod_eq_emod_of_nonneg hp]
    constructor
    ·rintro ⟨_,k⟩;exact ⟨e,by omega,by omega⟩
    ·rintro ⟨_,k1,k2⟩;exact ⟨hp,by omega⟩
   ·constructor
    ·rintro ⟨k,_⟩;exact absurd k hp
    ·rintro ⟨_,k1,k2⟩;omega
  | false =>
   simp only [Bool.false_eq_true,if_false]
   rw [decide_eq_decide]
   constructor
   ·intro k;exact ⟨e,by omega,by omega⟩
   ·rintro ⟨_,k1,k2⟩;omega
 ·rw [if_pos e]
  exact (decide_eq_false (by rintro ⟨k,_⟩;exact e k)).symm
def grp (p:Int):Int:=p - p.tmod 8
theorem ov_ref {a b:Te} (ha:efE a=0) (hb:efE b=0):(∃ i:Nat,i<8∧htB a b.1 (grp b.2.1+i)=true∧htB b b.1 (grp b.2.1+i)=true)↔ovB a b=true:=by
 obtain ⟨⟨a1,a2,a3,a4⟩,_,a6⟩:=efE_z ha
 obtain ⟨⟨b1,b2,b3,b4⟩,_,b6⟩:=efE_z hb
 have hg:grp b.2.1=b.2.1 - b.2.1%8:=by unfold grp;rw [Int.tmod_eq_emod_of_nonneg b3]
 have hsa:spn a.2.2=1∨(spn a.2.2=8∧a.2.1%8=0):=by
  unfold spn
  cases h:hgB a.2.2 with
  | true=>exact .inr ⟨rfl,a6 h⟩
  | false=>exact .inl rfl
 have hsb:spn b.2.2=1∨(spn b.2.2=8∧b.2.1%8=0):=by
  unfold spn
  cases h:hgB b.2.2 with
  | true=>exact .inr ⟨rfl,b6 h⟩
  | false=>exact .inl rfl
 constructor
 ·rintro ⟨i,hi,h1,h2⟩
  rw [ht_cv ha] at h1
  rw [ht_cv hb] at h2
  unfold cvB at h1 h2
  simp only [decide_eq_true_eq] at h1 h2
  unfold ovB
  rw [decide_eq_true_eq]
  exact ⟨h1.1,by omega,by omega⟩
 ·intro h
  unfold ovB at h
  rw [decide_eq_true_eq] at h
  obtain ⟨k1,k2,k3⟩:=h
  have hq:∃ q:Int,a.2.1≤q∧q<a.2.1+spn a.2.2∧b.2.1≤q∧q<b.2.1+spn b.2.2:=by
   by_cases hle:a.2.1≤b.2.1
   ·exact ⟨b.2.1,by omega,by omega,by omega,by omega⟩
   ·exact ⟨a.2.1,by omega,by omega,by omega,by omega⟩
  obtain ⟨q,q1,q2,q3,q4⟩:=hq
  refine ⟨(q - grp b.2.1).toNat,by omega,?_,?_⟩
  ·rw [ht_cv ha]
   unfold cvB
   rw [decide_eq_true_eq]
   exact ⟨k1,by omega,by omega⟩
  ·rw [ht_cv hb]
   unfold cvB
   rw [decide_eq_true_eq]
   exact ⟨rfl,by omega,by omega⟩
theorem ovB_comm {a b:Te}:ovB a b=ovB b a:=by
 unfold ovB
 rw [decide_eq_decide]
 constructor
 ·rintro ⟨h1,h2,h3⟩;exact ⟨h1.symm,h3,h2⟩
 ·rintro ⟨h1,h2,h3⟩;exact ⟨h1.symm,h3,h2⟩
def zB:Tl:=(0,[])
def lkT (b:Tl) (s p:Int):Nat×Bool:=if chB b≠0 then (0,false) else match b.2.find? fun x=>cvB x s p with
 | some x=>(x.2.2,true)
 | none=>(0,false)
def fiX (s p:Int) (w:Nat):Te:=(s,if hgB w=true then p - p%8 else p,w)
def fiL (b:Tl) (x:Te):List Te:=(if ((b.2.filter fun y=>!ovB x y).length:Int)=b.1 then (b.2.filter fun y=>!ovB x y).drop 1 else b.2.filter fun y=>!ovB x y)++[x]
def fiT (b:Tl) (s p:Int) (w:Nat):Tl×Int:=if chB b≠0 then (zB,chB b) else if plcB s p=false then (zB,2) else if trB w=false then (zB,3) else ((b.1,fiL b (fiX s p w)),0)
def inT (b:Tl) (s p:Int):Tl×Int:=if chB b≠0 then (zB,chB b) else if plcB s p=false then (zB,2) else ((b.1,b.2.filter fun y=>!cvB y s p),0)
def mkW (w:Nat) (wr:Bool):Nat×Int:=if (decR w).2≠0 then (0,(decR w).2) else if (decR w).1.1≠1 then (0,11) else if wr=false then (w ||| 16,0) else if (decR w).1.2.2.1=false then (0,12) else (w ||| 16 ||| 32,0)
def odW (w:Nat):Nat×Int:=if (decR w).2≠0 then (0,(decR w).2) else if (decR w).1.1≠1 then (0,11) else (w &&& (18446744073709551615 - 16),0)
def frmG (e:En) (p:Int):Int:=if e.2.2.2.2.2=true then e.2.1+p%8 else e.2.1
def rfE (e:En) (wr:Bool):Int:=if e.1≠1 then 13 else if wr=true∧e.2.2.1=false then 12 else 0
end Go.AM
namespace Go.AM
open Go Go.Proofs
theorem tab0:tabW 0=none:=(wdZ fun _=>true).tab
theorem ok0 (l:Nat):okWb l 0=true:=(wdZ fun _=>true).ok l
end Go.AM
namespace Go.AM
open Go Go.Proofs
set_option maxRecDepth 20000
theorem sameKV_int {q:IntKind}:∀ {n:Nat} {xs:List Value},sameKV (List.replicate n (.int q 0)) xs=true→∃ ls:List Int,xs=ls.map (Value.int q)∧ls.length=n
 | 0,[],_=>⟨[],rfl,rfl⟩
 | 0,x::xs,h=>by simp [sameKV] at h
 | n+1,[],h=>by simp [List.replicate_succ,sameKV] at h
 | n+1,x::xs,h=>by
  rw [List.replicate_succ] at h
  cases x<;>simp only [sameKV,Bool.and_eq_true,decide_eq_true_eq,Bool.false_eq_true] at h
  obtain ⟨rfl,h⟩:=h
  obtain ⟨ls,rfl,h2⟩:=sameKV_int h
  exact ⟨_::ls,rfl,by simp [h2]⟩
theorem eqV_int {q:IntKind}:∀ {ls:List Int} {ys:List Value} {b:Bool},eqV (ls.map (Value.int q)) ys=some b→∃ bs:List Int,ys=bs.map (Value.int q)∧bs.length=ls.length∧b=decide (ls=bs)
 | [],[],b,h=>by simp [eqV] at h;exact ⟨[],rfl,rfl,by simp [h]⟩
 | [],y::ys,b,h=>by simp [eqV] at h
 | a::ls,[],b,h=>by simp [eqV] at h
 | a::ls,y::ys,b,h=>by
  cases y<;>simp only [List.map_cons,eqV,reduceCtorEq] at h
  split at h
  case isFalse=>simp at h
  rename_i hk
  subst hk
  cases hr:eqV (ls.map (Value.int q)) ys with
  | none=>rw [hr] at h;simp at h
  | some r =>
   rw [hr] at h
   simp only [Option.map_some,Option.some.injEq] at h
   obtain ⟨bs,rfl,h2,rfl⟩:=eqV_int hr
   refine ⟨_::bs,rfl,by simp [h2],?_⟩
   rw [← h]
   simp
theorem eqI (w:World) {e:TypeId} {q:IntKind} (he:Tryz.prog.plainKey e=true) (hu:Tryz.prog.underlying e=some (.int q)) (d:Nat):∀ {ls bs:List Int} {k:Nat} {px py:List Value},px.length=k→py.length=k→ls.length=bs.length →
  (Op.eqItems (d+1) e 1 (px++ls.map (Value.int q)).toArray (py++bs.map (Value.int q)).toArray (List.range' k ls.length)).run Tryz.prog w=.ok (decide (ls=bs)) w
 | [],[],k,px,py,hp,hq,_=>rfl
 | [],_::_,_,_,_,_,_,h=>by simp at h
 | _::_,[],_,_,_,_,_,h=>by simp at h
 | a::ls,b::bs,k,px,py,hp,hq,hl=>by
  have hx:(px++(a::ls).map (Value.int q)).toArray[k*1]?=some (.int q a):=by simp [← hp]
  have hy:(py++(b::bs).map (Value.int q)).toArray[k*1]?=some (.int q b):=by simp [← hq]
  have ex:px++(a::ls).map (Value.int q)=(px++[.int q a])++ls.map (Value.int q):=by simp
  have ey:py++(b::bs).map (Value.int q)=(py++[.int q b])++bs.map (Value.int q):=by simp
  rw [show (a::ls).length=ls.length+1 from rfl,List.range'_succ]
  simp only [Op.eqItems,Sem.run_bind]
  rw [run_part_plain w he hx]
  simp only [Result.andThen_ok]
  rw [run_part_plain w he hy]
  simp only [Result.andThen_ok]
  rw [run_equalIn_int w _ e q q _ _ hu]
  simp only [Result.andThen_ok]
  have ih:=eqI w he hu d (ls:=ls) (bs:=bs) (k:=k+1) (px:=px++[.int q a]) (py:=py++[.int q b]) (by simp [hp]) (by simp [hq]) (by simpa using hl)
  rw [← ex,← ey] at ih
  by_cases e1:a=b
  ·subst e1
   simp only [beq_self_eq_true,Bool.not_true,Bool.false_eq_true,if_false]
   rw [ih]
   simp
  ·have hb:(a == b)=false:=by simpa using e1
   simp only [hb,Bool.not_false,if_true,Sem.run_pure]
   simp [e1]
theorem uW8:Tryz.prog.underlying 148=some (.array 8 76):=by kernel_rfl
theorem uU64:Tryz.prog.underlying 76=some (.int .u64):=by kernel_rfl
theorem pkU64:Tryz.prog.plainKey 76=true:=by kernel_rfl
theorem clU64:Tryz.prog.cellsOf 76=1:=by kernel_rfl
theorem clW8:Tryz.prog.cellsOf 148=8:=by kernel_rfl
theorem eqW (w:World) {ls bs:List Int} (ha:ls.length=8) (hb:bs.length=8) (d:Nat):(Op.equalIn (d+2) 148 (.agg (ls.map (Value.int .u64)).toArray) (.agg (bs.map (Value.int .u64)).toArray)).run Tryz.prog w=.ok (decide (ls=bs)) w:=by
 obtain ⟨i,hi⟩:=info_of_underlying uU64
 rw [run_equalIn_array w (d+1) _ _ uW8 hi,clU64,List.range_eq_range']
 have:=eqI w pkU64 uU64 d (ls:=ls) (bs:=bs) (k:=0) (px:=[]) (py:=[]) rfl rfl (by omega)
 rw [ha] at this
 simpa using this
theorem ckI (w:World) (em:Bool) (d:Nat) {e:TypeId} {q:IntKind} (he:Tryz.prog.plainKey e=true) (hu:Tryz.prog.underlying e=some (.int q)) (hs:∀ w,(sizeOf e).run Tryz.prog w=.ok 1 w):∀ {ls:List Int} {k:Nat} {px:List Value},px.length=k →
  (forIn (List.range' k ls.length) PUnit.unit fun i (_:PUnit)=>(do
    let a ← sizeOf e
    let b ← part e (px++ls.map (Value.int q)).toArray (i*a)
    Instr.checkKey em (d+1) e b
    pure (ForInStep.yield PUnit.unit):Sem (ForInStep PUnit))).run Tryz.prog w=.ok PUnit.unit w
 | [],k,px,_=>rfl
 | a::ls,k,px,hp=>by
  have hx:(px++(a::ls).map (Value.int q)).toArray[k*1]?=some (.int q a):=by simp [← hp]
  have ex:px++(a::ls).map (Value.int q)=(px++[.int q a])++ls.map (Value.int q):=by simp
  have ih:=ckI w em d he hu hs (ls:=ls) (k:=k+1) (px:=px++[.int q a]) (by simp [hp])
  rw [← ex] at ih
  rw [show (a::ls).length=ls.length+1 from rfl,List.range'_succ]
  simp only [List.forIn_cons,Sem.run_bind]
  rw [hs]
  simp only [Result.andThen_ok]
  rw [run_part_plain w he hx]
  simp only [Result.andThen_ok,ckP (v:=.int q a) he hu,Sem.run_pure]
  exact ih
theorem szU (w:World):(sizeOf 76).run Tryz.prog w=.ok 1 w:=by
 obtain ⟨i,hi⟩:=info_of_underlying uU64
 rw [run_sizeOf w hi,clU64]
theorem ckW (w:World) (em:Bool) (d:Nat) {ls:List Int} (ha:ls.length=8):(Instr.checkKey em (d+2) 148 (.agg (ls.map (Value.int .u64)).toArray)).run Tryz.prog w=.ok () w:=by
 rw [show d+2=d+1+1 from rfl,Instr.checkKey]
 simp only [Sem.run_bind,run_underlying uW8,Result.andThen_ok]
 simp only [Std.Legacy.Range.forIn_eq_forIn_range',Std.Legacy.Range.size,Nat.sub_zero,Nat.add_one_sub_one,Nat.div_one]
 have:=ckI w em d pkU64 uU64 szU (ls:=ls) (k:=0) (px:=[]) rfl
 rw [ha] at this
 simp only [List.nil_append] at this
 rw [this]
 rfl
theorem guardW:Tryz.prog.eqGuardType Tryz.prog.depth 148=false:=by kernel_rfl
theorem eqW8:EqOK Tryz.prog 148:=by
 intro d hd
 rw [tyW8,Option.some.injEq] at hd
 subst hd
 refine ⟨fun w xs b hk=>?_,fun w xs ys b hk he=>⟨?_,guardW⟩⟩
 ·obtain ⟨ls,rfl,ha⟩:=sameKV_int hk
  exact ckW w b 9998 ha
 ·obtain ⟨ls,rfl,ha⟩:=sameKV_int hk
  obtain ⟨bs,rfl,hb,rfl⟩:=eqV_int he
  exact eqW w ha (by omega) 9998
theorem uN:Tryz.prog.underlying 150=some (.struct (Tryz.prog.fieldsOf 150)):=by kernel_rfl
theorem stN:Tryz.prog.stoodInHeld 150=false:=by kernel_rfl
theorem guardN:Tryz.prog.eqGuardType Tryz.prog.depth 150=false:=by kernel_rfl
theorem partW (w:World) (x:Value) {ls:List Int} (ha:ls.length=8):(part 148 (x::ls.map (Value.int .u64)).toArray 1).run Tryz.prog w=.ok (.agg (ls.map (Value.int .u64)).toArray) w:=by
 obtain ⟨i,hi⟩:=info_of_underlying uW8
 have:((x::ls.map (Value.int .u64)).toArray.extract 1 9)=(ls.map (Value.int .u64)).toArray:=by
  apply Array.ext'
  rw [Array.toList_extract]
  simp [List.extract,ha,List.take_of_length_le]
 have tk:List.take 8 (ls.map (Value.int .u64))=ls.map (Value.int .u64):=List.take_of_length_le (by simp [ha])
 simp [part,isAgg,run_underlying uW8,run_sizeOf w hi,clW8,this,tk]
theorem fldN : ∃ n1 n2 f1 f2, (Tryz.prog.fieldsOf 150).toList = [f1, f2] ∧ f1.name = n1 ∧ f2.name = n2 ∧ n1 ≠ "_" ∧ n2 ≠ "_" ∧ f1.type = 3 ∧ f2.type = 148 ∧ f1.offset = 0 ∧ f2.offset = 1 :=
 ⟨ "Frame", "Entries", (Tryz.prog.fieldsOf 150)[0]!, (Tryz.prog.fieldsOf 150)[1]!, by kernel_rfl, by kernel_rfl, by kernel_rfl, by decide, by decide, by kernel_rfl, by kernel_rfl, by kernel_rfl, by kernel_rfl⟩
theorem pk3:Tryz.prog.plainKey 3=true:=by kernel_rfl
theorem eqN:EqOK Tryz.prog 150:=by
 intro d hd
 rw [tyN,Option.some.injEq] at hd
 subst hd
 obtain ⟨n1,n2,f1,f2,hf,e1,e2,e3,e4,e5,e6,e7,e8⟩:=fldN
 have form:∀ {xs:List Value},sameKV (Value.int .i64 0::List.replicate 8 (.int .u64 0)) xs=true→∃ (x:Int) (ls:List Int),xs=.int .i64 x::ls.map (Value.int .u64)∧ls.length=8:=fun {xs} h=>by
  cases xs with
  | nil=>simp [sameKV] at h
  | cons x xs =>
   cases x<;>simp only [sameKV,Bool.and_eq_true,decide_eq_true_eq,Bool.false_eq_true] at h
   obtain ⟨rfl,h⟩:=h
   obtain ⟨ls,rfl,h2⟩:=sameKV_int h
   exact ⟨_,ls,rfl,h2⟩
 refine ⟨fun w xs b hk=>?_,fun w xs ys b hk he=>⟨?_,guardN⟩⟩
 ·obtain ⟨x,ls,rfl,ha⟩:=form hk
  rw [show (10000:Nat)=9999+1 from rfl,Instr.checkKey]
  simp only [Sem.run_bind,run_underlying uN,Result.andThen_ok]
  rw [← Array.forIn_toList,hf]
  have hx:(Value.int .i64 x::ls.map (Value.int .u64)).toArray[0]?=some (.int .i64 x):=by simp
  simp only [List.forIn_cons,List.forIn_nil,Sem.run_bind,e1,e2,e5,e6,e7,e8]
  rw [if_pos e3]
  simp only [Sem.run_bind]
  rw [run_part_plain w pk3 hx]
  simp only [Result.andThen_ok,ckP (v:=.int .i64 x) (d:=9998) pk3 und3,Sem.run_pure]
  rw [if_pos e4]
  simp only [Sem.run_bind]
  rw [partW w _ ha]
  simp only [Result.andThen_ok]
  rw [ckW w b 9997 ha]
  rfl
 ·obtain ⟨x,ls,rfl,ha⟩:=form hk
  cases ys with
  | nil=>simp [eqV] at he
  | cons y ys =>
   cases y<;>simp only [eqV,reduceCtorEq] at he
   split at he
   case isFalse=>simp at he
   rename_i q y hq
   subst hq
   cases hr:eqV (ls.map (Value.int .u64)) ys with
   | none=>rw [hr] at he;simp at he
   | some r =>
    rw [hr] at he
    simp only [Option.map_some,Option.some.injEq] at he
    obtain ⟨bs,rfl,hb,rfl⟩:=eqV_int hr
    unfold Op.equal
    rw [show Op.maxDepth=9999+1 from rfl,run_equalIn_agg w _ _ _ _ uN stN,hf]
    simp only [Op.eqFields]
    rw [e1,if_pos e3,e5,e7]
    simp only [Sem.run_bind]
    rw [run_part_plain w pk3 (show (Value.int .i64 x::ls.map (Value.int .u64)).toArray[0]?=some (.int .i64 x) by simp)]
    simp only [Result.andThen_ok]
    rw [run_part_plain w pk3 (show (Value.int .i64 y::bs.map (Value.int .u64)).toArray[0]?=some (.int .i64 y) by simp)]
    simp only [Result.andThen_ok]
    rw [show (9999:Nat)=9998+1 from rfl,run_equalIn_int w _ 3 .i64 .i64 _ _ und3]
    simp only [Result.andThen_ok]
    by_cases exy:x=y
    ·subst exy
     simp only [beq_self_eq_true,Bool.not_true,Bool.false_eq_true,if_false]
     rw [e2,if_pos e4,e6,e8]
     simp only [Sem.run_bind]
     rw [partW w _ ha]
     simp only [Result.andThen_ok]
     rw [partW w _ (by omega)]
     simp only [Result.andThen_ok]
     rw [show 9998+1=9997+2 from rfl,eqW w ha (by omega) 9997]
     simp only [Result.andThen_ok]
     rw [← he]
     by_cases eab:ls=bs
     ·subst eab;simp
     ·simp [eab]
    ·have hb2:(x == y)=false:=by simpa using exy
     simp only [hb2,Bool.not_false,if_true,Sem.run_pure]
     rw [← he];simp [exy]
end Go.AM
namespace Go.AM
open Go Go.Proofs
theorem eqL_wcs:∀ {a b:List Nat},a.length=b.length→eqL (wcs a) (wcs b)=some (decide (a=b))
 | [],[],_=>rfl
 | [],_::_,h=>by simp at h
 | _::_,[],h=>by simp at h
 | x::a,y::b,h=>by
  have ih:=eqL_wcs (a:=a) (b:=b) (by simpa using h)
  show eqL (.v (.int .u64 x)::wcs a) (.v (.int .u64 y)::wcs b)=_
  simp only [eqL,ih,if_true,Option.map_some,Option.some.injEq,List.cons.injEq]
  by_cases e:x=y
  ·subst e;simp
  ·have:¬ (x:Int)=y:=by omega
   simp [e,this]
theorem sameK_wcs:∀ {n:Nat} {a:List Nat},a.length=n→sameK (List.replicate n (.int .u64 0)) (wcs a)=true
 | 0,[],_=>rfl
 | n+1,x::a,h=>by
  rw [List.replicate_succ]
  show (decide (IntKind.u64=IntKind.u64)&&sameK _ (wcs a))=true
  rw [sameK_wcs (by simpa using h)];rfl
 | 0,_::_,h=>by simp at h
 | _+1,[],h=>by simp at h
theorem list_ext_gn {a b:List Nd} (hl:a.length=b.length) (h:∀ j,j<a.length→gn a j=gn b j):a=b:=by
 refine List.ext_getElem hl fun i h1 h2=>?_
 have:=h i h1
 rw [gn_eq h1,gn_eq h2] at this
 exact this
theorem list_ext_gp {a b:List Dp} (hl:a.length=b.length) (h:∀ j,j<a.length→gp a j=gp b j):a=b:=by
 refine List.ext_getElem hl fun i h1 h2=>?_
 have:=h i h1
 rw [gp_eq h1,gp_eq h2] at this
 exact this
set_option maxHeartbeats 4000000 in
theorem s31 (X:AX) (hX:XOK Tryz.prog X) (hw:X.W wT) (hen:X.eqs 150=true) (hed:X.eqs 170=true):PSound Tryz.prog 31 (specF (ι:={x:Tb×Tb // tbOK x.1∧tbOK x.2}) (fun x=>[TbV x.1.1,TbV x.1.2]) fun x=>retOf [B (decide (x.1.1=x.1.2))]):=by
 refine psound_spec hX mixed Tryz.func31 rfl fun ⟨⟨⟨r,ns,ds⟩,⟨r',ns',ds'⟩⟩,ht,ht'⟩ w0 G=>⟨by show 2≤66;decide,rfl,?_⟩
 show AW ⟨Tryz.prog,X,66,w0,.pure G⟩ _ _ _
 have hc:Cx.OK ⟨Tryz.prog,X,66,w0,.pure G⟩:=⟨hX,mixed⟩
 simp only at ht ht' ⊢
 have hl1:ns.length≤1000000:=ht.2.1
 have hl2:ds.length≤1000000:=ht.2.2
 have hl1':ns'.length≤1000000:=ht'.2.1
 have hl2':ds'.length≤1000000:=ht'.2.2
 simp only [TbV]
 rcases Decidable.em (r=r') with h1|h1
 ·subst h1
  rcases Decidable.em (ns.length=ns'.length) with h2|h2
  ·have h2I:(ns.length:Int)=(ns'.length:Int):=by omega
   rcases Decidable.em (ds.length=ds'.length) with h3|h3
   ·have h3I:(ds.length:Int)=(ds'.length:Int):=by omega
    have zS:=jj h2<|h3
    repeat' (first|(apply aw_seq_k;intro K hK)|(refine eM64 ?_)|(refine aw_cond (b:=_) (by exact rfl) (fun h=>?_) (fun h=>?_)<;>(try simp at h))|(refine eB ?_)|(refine hK _ ?_;clear hK)|(clear hK;refine hK _ ?_;clear hK)|(clear hK;clear hK;refine hK _ ?_;clear hK)|(clear hK;clear hK;clear hK;refine hK _ ?_;clear hK))
    all_goals clear zS
    refine aw_loopK (s0:=?lps1) (m0:=?lpm1) (ι:={i:Nat // i≤ns'.length∧∀ j,j<i→gn ns j=gn ns' j}) [2,3,32] (fun s=>[(33,I s.1)]) (fun _=>[]) (fun s=>ns'.length - s.1) ⟨0,by omega,by omega⟩ ?lhs1 ?lhm1 ?_ ?_
    case lhs1=>first|(simp [keepS];done)|(simp [keepS];rfl)
    case lhm1=>first|rfl|(simp;done)|(simp;rfl)
    ·exact dle
    ·rintro ⟨i,hi,hinv⟩
     simp only
     rcases Decidable.em (i<ns'.length) with hil|hil
     ·have hilI:(i:Int)<(ns'.length:Int):=by omega
      have hil2:i<ns.length:=by omega
      have hil2I:(i:Int)<(ns.length:Int):=by omega
      have hg:=nrows_gi hil2
      have hgE:=nrows_gE hil2
      have hg':=nrows_gi hil
      have hgE':=nrows_gE hil
      have hlen:=(ht.1 _ (gn_mem hil2)).1
      have hlen':=(ht'.1 _ (gn_mem hil)).1
      have hdf:gn ns i≠gn ns' i→¬ (r,ns,ds)=(r,ns',ds'):=fun h e=>h (by simp only [Prod.mk.injEq] at e;rw [e.2.1])
      have hinv2:gn ns i=gn ns' i→∀ j,j<i+1→gn ns j=gn ns' j:=fun h j hj=>by
       rcases Nat.lt_succ_iff_lt_or_eq.1 hj with h5|rfl
       ·exact hinv j h5
       ·exact h
      obtain ⟨⟨a,ws⟩,hm⟩:∃ m,m=gn ns i:=⟨_,rfl⟩
      obtain ⟨⟨b,vs⟩,hm'⟩:∃ m,m=gn ns' i:=⟨_,rfl⟩
      rw [← hm,← hm'] at hdf hinv2
      rw [← hm] at hg hgE hlen
      rw [← hm'] at hg' hgE' hlen'
      simp only at hg hgE hlen hg' hgE' hlen'
      have heq:=eqL_wcs (a:=ws) (b:=vs) (by omega)
      have hsk:=sameK_wcs hlen
      have hsk':=sameK_wcs hlen'
      simp only [List.reduceReplicate] at hsk hsk'
      have hcl:(wcs ws).length=8:=by simp [hlen]
      have hcl':(wcs vs).length=8:=by simp [hlen']
      obtain ⟨cs,hcs⟩:∃ cs,cs=wcs ws:=⟨_,rfl⟩
      obtain ⟨cs',hcs'⟩:∃ cs,cs=wcs vs:=⟨_,rfl⟩
      rw [← hcs] at hg hgE heq hsk hcl
      rw [← hcs'] at hg' hgE' heq hsk' hcl'
      clear hm hm' hcs hcs'
      have htk:List.take 8 cs=cs:=List.take_of_length_le (by omega)
      have htk':List.take 8 cs'=cs':=List.take_of_length_le (by omega)
      rcases Decidable.em (a=b) with e1|e1
      ·subst e1
       rcases Decidable.em (ws=vs) with e2|e2
       ·subst e2
        rw [decide_eq_true rfl] at heq
        have:=hinv2 rfl
        have zS:=jj hilI<|jj hil<|jj hil2<|jj hil2I<|jj hg<|jj hgE<|jj hg'<|jj hgE'<|jj htk<|jj htk'<|jj heq<|jj hsk<|jj hsk'<|jj hcl<|jj hcl'<|jj hen<|jj eqLs<|jj sameKs<|h2
        repeat' (first|(apply aw_seq_k;intro K hK)|(refine eM64 ?_)|(refine aw_cond (b:=_) (by exact rfl) (fun h=>?_) (fun h=>?_)<;>(try simp at h))|(refine eB ?_)|(refine hK _ ?_;clear hK)|(clear hK;refine hK _ ?_;clear hK)|(clear hK;clear hK;refine hK _ ?_;clear hK)|(clear hK;clear hK;clear hK;refine hK _ ?_;clear hK))
        all_goals clear zS
        refine ⟨i+1,?_,⟨by omega,this⟩,by omega⟩
        exact dle
       ·rw [decide_eq_false e2] at heq
        have e:=hdf (by simpa using e2)
        have zS:=jj hilI<|jj hil<|jj hil2<|jj hil2I<|jj hg<|jj hgE<|jj hg'<|jj hgE'<|jj htk<|jj htk'<|jj heq<|jj hsk<|jj hsk'<|jj hcl<|jj hcl'<|jj hen<|jj eqLs<|jj sameKs<|h2
        repeat' (first|(apply aw_seq_k;intro K hK)|(refine eM64 ?_)|(refine aw_cond (b:=_) (by exact rfl) (fun h=>?_) (fun h=>?_)<;>(try simp at h))|(refine eB ?_)|(refine hK _ ?_;clear hK)|(clear hK;refine hK _ ?_;clear hK)|(clear hK;clear hK;refine hK _ ?_;clear hK)|(clear hK;clear hK;clear hK;refine hK _ ?_;clear hK))
        all_goals clear zS
        refine ⟨by simp,?_⟩
        simp [leaves_iff,Tryz.f31,e]
        try exact dt
      ·have e:=hdf (by simp [e1])
       have e1':¬ b=a:=fun h=>e1 h.symm
       rcases Decidable.em (ws=vs) with e2|e2
       ·rw [decide_eq_true e2] at heq
        have zS:=jj hilI<|jj hil<|jj hil2<|jj hil2I<|jj hg<|jj hgE<|jj hg'<|jj hgE'<|jj htk<|jj htk'<|jj heq<|jj hsk<|jj hsk'<|jj hcl<|jj hcl'<|jj hen<|jj eqLs<|jj sameKs<|jj h2<|jj e1<|e1'
        repeat' (first|(apply aw_seq_k;intro K hK)|(refine eM64 ?_)|(refine aw_cond (b:=_) (by exact rfl) (fun h=>?_) (fun h=>?_)<;>(try simp at h))|(refine eB ?_)|(refine hK _ ?_;clear hK)|(clear hK;refine hK _ ?_;clear hK)|(clear hK;clear hK;refine hK _ ?_;clear hK)|(clear hK;clear hK;clear hK;refine hK _ ?_;clear hK))
        all_goals clear zS
        refine ⟨by simp,?_⟩
        simp [leaves_iff,Tryz.f31,e]
        try exact dt
       ·rw [decide_eq_false e2] at heq
        have zS:=jj hilI<|jj hil<|jj hil2<|jj hil2I<|jj hg<|jj hgE<|jj hg'<|jj hgE'<|jj htk<|jj htk'<|jj heq<|jj hsk<|jj hsk'<|jj hcl<|jj hcl'<|jj hen<|jj eqLs<|jj sameKs<|jj h2<|jj e1<|e1'
        repeat' (first|(apply aw_seq_k;intro K hK)|(refine eM64 ?_)|(refine aw_cond (b:=_) (by exact rfl) (fun h=>?_) (fun h=>?_)<;>(try simp at h))|(refine eB ?_)|(refine hK _ ?_;clear hK)|(clear hK;refine hK _ ?_;clear hK)|(clear hK;clear hK;refine hK _ ?_;clear hK)|(clear hK;clear hK;clear hK;refine hK _ ?_;clear hK))
        all_goals clear zS
        refine ⟨by simp,?_⟩
        simp [leaves_iff,Tryz.f31,e]
        try exact dt
     ·obtain rfl:i=ns'.length:=by omega
      have hns:ns=ns':=list_ext_gn h2 fun j hj=>hinv j (by omega)
      clear hinv
      have zS:=h3
      repeat' (first|(apply aw_seq_k;intro K hK)|(refine eM64 ?_)|(refine aw_cond (b:=_) (by exact rfl) (fun h=>?_) (fun h=>?_)<;>(try simp at h))|(refine eB ?_)|(refine hK _ ?_;clear hK)|(clear hK;refine hK _ ?_;clear hK)|(clear hK;clear hK;refine hK _ ?_;clear hK)|(clear hK;clear hK;clear hK;refine hK _ ?_;clear hK))
      all_goals clear zS
      refine aw_loopK (s0:=?lps2) (m0:=?lpm2) (ι:={i:Nat // i≤ds'.length∧∀ j,j<i→gp ds j=gp ds' j}) [2,3,50] (fun s=>[(51,I s.1)]) (fun _=>[]) (fun s=>ds'.length - s.1) ⟨0,by omega,by omega⟩ ?lhs2 ?lhm2 ?_ ?_
      case lhs2=>first|(simp [keepS];done)|(simp [keepS];rfl)
      case lhm2=>first|rfl|(simp;done)|(simp;rfl)
      ·exact dle
      ·rintro ⟨i,hi,hinv⟩
       simp only
       rcases Decidable.em (i<ds'.length) with hil|hil
       ·have hilI:(i:Int)<(ds'.length:Int):=by omega
        have hil2:i<ds.length:=by omega
        have hil2I:(i:Int)<(ds.length:Int):=by omega
        have hg:=prows_gi hil2
        have hgE:=prows_gE hil2
        have hg':=prows_gi hil
        have hgE':=prows_gE hil
        have hdf:gp ds i≠gp ds' i→¬ (r,ns,ds)=(r,ns',ds'):=fun h e=>h (by simp only [Prod.mk.injEq] at e;rw [e.2.2])
        have hinv2:gp ds i=gp ds' i→∀ j,j<i+1→gp ds j=gp ds' j:=fun h j hj=>by
         rcases Nat.lt_succ_iff_lt_or_eq.1 hj with h5|rfl
         ·exact hinv j h5
         ·exact h
        obtain ⟨⟨a,b⟩,hm⟩:∃ m,m=gp ds i:=⟨_,rfl⟩
        obtain ⟨⟨c,d⟩,hm'⟩:∃ m,m=gp ds' i:=⟨_,rfl⟩
        rw [← hm,← hm'] at hdf hinv2
        rw [← hm] at hg hgE
        rw [← hm'] at hg' hgE'
        simp only at hg hgE hg' hgE'
        clear hm hm'
        rcases Decidable.em (a=c∧b=d) with e1|e1
        ·obtain ⟨rfl,rfl⟩:=e1
         have:=hinv2 rfl
         have zS:=jj hilI<|jj hil<|jj hil2<|jj hil2I<|jj hg<|jj hgE<|jj hg'<|jj hgE'<|jj hed<|jj eqLs<|jj sameKs<|h3
         repeat' (first|(apply aw_seq_k;intro K hK)|(refine eM64 ?_)|(refine aw_cond (b:=_) (by exact rfl) (fun h=>?_) (fun h=>?_)<;>(try simp at h))|(refine eB ?_)|(refine hK _ ?_;clear hK)|(clear hK;refine hK _ ?_;clear hK)|(clear hK;clear hK;refine hK _ ?_;clear hK)|(clear hK;clear hK;clear hK;refine hK _ ?_;clear hK))
         all_goals clear zS
         refine ⟨i+1,?_,⟨by omega,this⟩,by omega⟩
         exact dle
        ·have e:=hdf (by simp;omega)
         have e2:a=c→¬ b=d:=by omega
         have zS:=jj hilI<|jj hil<|jj hil2<|jj hil2I<|jj hg<|jj hgE<|jj hg'<|jj hgE'<|jj hed<|jj eqLs<|jj sameKs<|jj h3<|jj e1<|e2
         repeat' (first|(apply aw_seq_k;intro K hK)|(refine eM64 ?_)|(refine aw_cond (b:=_) (by exact rfl) (fun h=>?_) (fun h=>?_)<;>(try simp at h))|(refine eB ?_)|(refine hK _ ?_;clear hK)|(clear hK;refine hK _ ?_;clear hK)|(clear hK;clear hK;refine hK _ ?_;clear hK)|(clear hK;clear hK;clear hK;refine hK _ ?_;clear hK))
         all_goals clear zS
         refine ⟨by simp,?_⟩
         simp [leaves_iff,Tryz.f31,e]
         try exact dt
       ·obtain rfl:i=ds'.length:=by omega
        have hds:ds=ds':=list_ext_gp h3 fun j hj=>hinv j (by omega)
        have zS:=h3
        repeat' (first|(apply aw_seq_k;intro K hK)|(refine eM64 ?_)|(refine aw_cond (b:=_) (by exact rfl) (fun h=>?_) (fun h=>?_)<;>(try simp at h))|(refine eB ?_)|(refine hK _ ?_;clear hK)|(clear hK;refine hK _ ?_;clear hK)|(clear hK;clear hK;refine hK _ ?_;clear hK)|(clear hK;clear hK;clear hK;refine hK _ ?_;clear hK))
        all_goals clear zS
        refine ⟨by simp,?_⟩
        simp [leaves_iff,Tryz.f31,hns,hds]
        try exact dt
   ·have h3I:¬ (ds.length:Int)=(ds'.length:Int):=by omega
    have e:¬ (r,ns,ds)=(r,ns',ds'):=fun e=>by simp only [Prod.mk.injEq] at e;exact h3 (by rw [e.2.2])
    have zS:=jj h2<|jj h3<|h3I
    refine dM64 ?_
    repeat (intro K hK)
    clear zS
    all_goals refine ⟨by simp,?_⟩
    all_goals simp [leaves_iff,Tryz.f31,e]
    all_goals try exact dt
  ·have h2I:¬ (ns.length:Int)=(ns'.length:Int):=by omega
   have e:¬ (r,ns,ds)=(r,ns',ds'):=fun e=>by simp only [Prod.mk.injEq] at e;exact h2 (by rw [e.2.1])
   have zS:=jj h2<|h2I
   refine dM64 ?_
   repeat (intro K hK)
   clear zS
   all_goals refine ⟨by simp,?_⟩
   all_goals simp [leaves_iff,Tryz.f31,e]
   all_goals try exact dt
 ·have e:¬ (r,ns,ds)=(r',ns',ds'):=fun e=>by simp only [Prod.mk.injEq] at e;exact h1 e.1
  have zS:=h1
  refine dM64 ?_
  repeat (intro K hK)
  clear zS
  all_goals refine ⟨by simp,?_⟩
  all_goals simp [leaves_iff,Tryz.f31,e]
  all_goals try exact dt
end Go.AM
