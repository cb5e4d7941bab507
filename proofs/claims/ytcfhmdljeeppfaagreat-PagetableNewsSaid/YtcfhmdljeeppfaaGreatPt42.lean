/- A part of the proof: what functions of the program compute, by abstract execution of their code. Its theorems hold without further condition. -/
import Derived.Test.YtcfhmdljeeppfaaGreatPt41
import Derived.Test.YtcfhmdljeeppfaaGreatAmDr
set_option linter.all false
set_option maxHeartbeats 4000000
namespace Go.AM
open Go Go.Proofs
def pMs (t:Tb) (v v2:Nat):List AO:=[.box [I t.1,.sl 1 v 9 0 t.2.1.length,.sl 2 v2 2 0 t.2.2.length],.vec v 9 false (nrows t.2.1),.vec v2 2 false (prows t.2.2)]
theorem pMs_inj {t t':Tb} {v v2:Nat} (h:pMs t v v2=pMs t' v v2):t=t':=by
 obtain ⟨r,ns,ds⟩:=t
 obtain ⟨r',ns',ds'⟩:=t'
 simp only [pMs,List.cons.injEq,AO.box.injEq,I,AV.v.injEq,Value.int.injEq,true_and,AO.vec.injEq,nrows_inj,prows_inj,and_true] at h
 obtain ⟨⟨h1,_⟩,h2,h3⟩:=h
 rw [h1,h2,h3]
def OwnR (X:AX) (f:FuncId) (D:Tb→Int→Prop) (R:Tb→Int→AV):Prop :=
 ∀ (r:Int) (ns:List Nd) (ds:List Dp) (x:Int),D (r,ns,ds) x→∀ (a va b vb:Nat) (f1 f2:Bool) (M:Nat→AO) (n:Nat),M a=.vec va 9 f1 (nrows ns)→M b=.vec vb 2 f2 (prows ds)→X.call f [.agg [I r,.sl a va 9 0 ns.length,.sl b vb 2 0 ds.length],I x] M n=some (R (r,ns,ds) x,[])
theorem nrows_setN {ns:List Nd} {n i w:Nat} (hn:n<ns.length):(nrows ns).set n (I (gn ns n).1::(wcs (gn ns n).2).set i (U w))=nrows (setN ns n i w):=by
 have:wcs ((gn ns n).2.set i w)=(wcs (gn ns n).2).set i (U w):=by simp [wcs,List.map_set]
 rw [← this]
 show (nrows ns).set n (nrow ((gn ns n).1,(gn ns n).2.set i w))=_
 unfold setN nrows
 rw [List.map_set]
 rfl
def putT (t:Tb) (p w:Nat):Tb:=(t.1,setN t.2.1 (lsT t p).1 (dgt p (lsT t p).2.1) w,t.2.2)
abbrev PuD:=Tb×Nat×Nat
noncomputable def puS:List AV→List AO→Option (AV×List AO):=specG (ι:={x:PuD // ptO x.1 x.2.1∧x.2.2<2^64}) (fun x=>[.bp 0 0,I x.1.2.1,U x.1.2.2]) (fun x=>pMs x.1.1 1 1) (fun x=>.tup []) fun x=>pMs (putT x.1.1 x.1.2.1 x.1.2.2) 1 1
theorem puS_at {t:Tb} {p w:Nat} (h:ptO t p) (hw:w<2^64):puS [.bp 0 0,I p,U w] (pMs t 1 1)=some (.tup [],pMs (putT t p w) 1 1):=by
 refine specG_eq (ι:={x:PuD // ptO x.1 x.2.1∧x.2.2<2^64}) (A:=fun x=>[.bp 0 0,I x.1.2.1,U x.1.2.2]) (M:=fun x=>pMs x.1.1 1 1) (R:=fun x=>.tup []) (O:=fun x=>pMs (putT x.1.1 x.1.2.1 x.1.2.2) 1 1) ⟨(t,p,w),h,hw⟩ fun j hA hM=>?_
 obtain ⟨⟨t',p',w'⟩,h'⟩:=j
 have e:=pMs_inj hM
 simp only at e
 subst e
 simp only [List.cons.injEq,I,U,AV.v.injEq,Value.int.injEq,true_and,and_true] at hA
 have e1:p'=p:=by omega
 have e2:w'=w:=by omega
 subst e1 e2
 exact ⟨rfl,rfl⟩
theorem s130 (X:AX) (hX:XOK Tryz.prog X) (hw:X.W wT) (hla:OwnR X 110 (fun t x=>0≤x∧ptO t x.toNat) fun t x=>stV (lsT t x.toNat)) (hdg:∀ (p l:Nat),p<512→l≤2→∀ M n,X.call 139 [I p,I l] M n=some (I (dgt p l),[])):GSound Tryz.prog 130 puS:=by
 unfold puS
 refine gsound_spec Tryz.func130 rfl X fun ⟨⟨⟨r,ns,ds⟩,p,w⟩,hpt,hw64⟩ w0 L E=>⟨by show 3≤26;decide,?_⟩
 simp only at hw64
 have hp:p<512:=hpt.2.2.1
 have hla':=hla r ns ds p ⟨by omega,hpt⟩
 obtain ⟨hlt1,hlt2⟩:(lsT (r,ns,ds) p).1<ns.length∧(lsT (r,ns,ds) p).2.1≤2:=by
  obtain ⟨_,_,_,⟨rt,hrt⟩,_⟩:=hpt
  exact lst_lt (by unfold rtN;rw [hrt];exact fnd_lt hrt)
 have ht:=hpt.1
 have hl1:ns.length≤1000000:=ht.2.1
 have hl2:ds.length≤1000000:=ht.2.2
 have hR:putT (r,ns,ds) p w=(r,setN ns (lsT (r,ns,ds) p).1 (dgt p (lsT (r,ns,ds) p).2.1) w,ds):=rfl
 obtain ⟨⟨a,b,c⟩,hS⟩:∃ S,S=lsT (r,ns,ds) p:=⟨_,rfl⟩
 simp only [Int.toNat_natCast] at hla'
 rw [← hS] at hla' hlt1 hlt2 hR
 simp only at hla' hlt1 hlt2 hR
 have hdg':=hdg p b hp hlt2
 have hdl:=dgt_lt p b
 have haN:(a:Int)<(ns.length:Int):=by omega
 have hgn:=nrows_gi hlt1
 have hgnE:=nrows_gE hlt1
 have h8:(gn ns a).2.length=8:=(ht.1 _ (gn_mem hlt1)).1
 have hset:=@nrows_setN ns a (dgt p b) w hlt1
 have hwl:(wcs (gn ns a).2).length=8:=by simp [h8]
 obtain ⟨NS,hNS⟩:∃ NS,NS=setN ns a (dgt p b) w:=⟨_,rfl⟩
 have hNl:NS.length=ns.length:=by rw [hNS];simp
 rw [← hNS] at hset hR
 obtain ⟨⟨fr,ws⟩,hm⟩:∃ m,m=gn ns a:=⟨_,rfl⟩
 rw [← hm] at hgn hgnE hwl hset
 simp only at hgn hgnE hwl hset
 obtain ⟨cs,hcs⟩:∃ cs,cs=wcs ws:=⟨_,rfl⟩
 rw [← hcs] at hgn hgnE hwl hset
 obtain ⟨dg,hdg0⟩:∃ dg,dg=dgt p b:=⟨_,rfl⟩
 rw [← hdg0] at hdl hdg' hset
 have hdI:(dg:Int)<8:=by omega
 clear hcs hm h8 hS
 simp only [pMs,hR,hNl,stV,srow,U] at hla' hset ⊢
 show AW ⟨Tryz.prog,X,26,w0,⟨L,E,3⟩⟩ _ _ _
 have hc:Cx.OK ⟨Tryz.prog,X,26,w0,⟨L,E,3⟩⟩:=⟨hX,mixed⟩
 have zS:=jj hla'<|jj hdg'<|jj hlt1<|jj haN<|jj hgn<|jj hgnE<|jj hwl<|jj hdl<|jj hdI<|hset
 refine dM64 ?_
 repeat (intro K hK)
 clear zS
 refine ⟨[],rfl,?_⟩
 have hs1:(I fr::cs).set (1+dg) (AV.v (.int .u64 w))=I fr::cs.set dg (AV.v (.int .u64 w)):=by rw [Nat.add_comm];rfl
 rw [hs1,hset]
 simp only [idx]
 exact dle
noncomputable def adS:List AV→List AO→Option (AV×List AO):=specG (ι:={x:Tb×Int // tbOK x.1∧ascN x.1.2.1∧(∀ n∈x.1.2.1,n.1≠x.2)∧1≤x.1.2.1.length}) (fun x=>[.bp 0 0,I x.1.2]) (fun x=>pMs x.1.1 1 1) (fun x=>.tup []) fun x=>pMs (x.1.1.1,insK x.1.1.2.1 (x.1.2,zs8),x.1.1.2.2) 2 1
theorem adS_at {t:Tb} {f:Int} (ht:tbOK t) (ha:ascN t.2.1) (hn:∀ n∈t.2.1,n.1≠f) (hl:1≤t.2.1.length):adS [.bp 0 0,I f] (pMs t 1 1)=some (.tup [],pMs (t.1,insK t.2.1 (f,zs8),t.2.2) 2 1):=by
 refine specG_eq (ι:={x:Tb×Int // tbOK x.1∧ascN x.1.2.1∧(∀ n∈x.1.2.1,n.1≠x.2)∧1≤x.1.2.1.length}) (A:=fun x=>[.bp 0 0,I x.1.2]) (M:=fun x=>pMs x.1.1 1 1) (R:=fun x=>.tup []) (O:=fun x=>pMs (x.1.1.1,insK x.1.1.2.1 (x.1.2,zs8),x.1.1.2.2) 2 1) ⟨(t,f),ht,ha,hn,hl⟩ fun j hA hM=>?_
 obtain ⟨⟨t',f'⟩,h'⟩:=j
 have e:=pMs_inj hM
 simp only at e
 subst e
 simp only [List.cons.injEq,I,AV.v.injEq,Value.int.injEq,true_and,and_true] at hA
 subst hA
 exact ⟨rfl,rfl⟩
theorem s186 (X:AX) (hX:XOK Tryz.prog X) (hw:X.W wT) (hso:X.call 214=sortN):GSound Tryz.prog 186 adS:=by
 unfold adS
 refine gsound_spec Tryz.func186 rfl X fun ⟨⟨⟨r,ns,ds⟩,f⟩,ht,ha,hn,hl⟩ w0 L E=>⟨by show 2≤22;decide,?_⟩
 simp only at ha hn hl
 have hl1:ns.length≤1000000:=ht.2.1
 have hl2:ds.length≤1000000:=ht.2.2
 have hil:=@insK_len _ (f,zs8) ns
 simp only [pMs,hil]
 show AW ⟨Tryz.prog,X,22,w0,⟨L,E,3⟩⟩ _ _ _
 have hc:Cx.OK ⟨Tryz.prog,X,22,w0,⟨L,E,3⟩⟩:=⟨hX,mixed⟩
 have tkn:List.take ns.length (nrows ns)=nrows ns:=List.take_of_length_le (by simp)
 have ha1z:nrows ns++[[I f,.v (.int .u64 0),.v (.int .u64 0),.v (.int .u64 0),.v (.int .u64 0),.v (.int .u64 0),.v (.int .u64 0),.v (.int .u64 0),.v (.int .u64 0)]]=nrows (ns++[(f,zs8)]):=(nrows_snoc ns (f,zs8)).symm
 have hsort:∀ (M:Nat→AO) (bs nid:Nat),M bs=.box [.bp 0 0]→M 0=.box [I r,.sl 1 2 9 0 (ns.length+1),.sl 2 1 2 0 ds.length]→M 1=.vec 2 9 false (nrows (ns++[(f,zs8)]))→X.call 214 [.ifc 60 [.sl 1 2 9 0 (ns.length+1)],.fn 215 [.bp bs 0]] M nid=some (.tup [],[(1,.vec 2 9 false (nrows (insK ns (f,zs8))))]):=fun M bs nid h1 h2 h3=>by
  rw [hso]
  refine sortN_at (D:=⟨1,2,ns.length+1,bs,0,I r,.sl 2 1 2 0 ds.length,false,ns,(f,zs8)⟩) ⟨rfl,h1,h2,h3,by simp,ha,hn,hl,by show ns.length<1000000000;omega,fun a ha=>?_⟩
  rcases List.mem_append.1 ha with h|h
  ·exact nds8_of ht a h
  ·simp at h;rw [h];rfl
 have zS:=jj tkn<|jj ha1z<|hsort
 refine dF64 ?_
 repeat (intro K hK)
 clear zS
 refine ⟨[],rfl,?_⟩
 simp only [idx]
 trace_state
 exact dle
end Go.AM
set_option maxHeartbeats 4000000
namespace Go.AM
open Go Go.Proofs
set_option maxRecDepth 4000 in
theorem callAd {a b c:Nat} (hab:a≠b) (hac:a≠c) (hbc:b≠c) {r:Int} {ns:NdL} {ds:List Dp} {f:Int} (ht:tbOK (r,ns,ds)) (ha:ascN ns) (hn:∀ n∈ns,n.1≠f) (hl:1≤ns.length) {v v2:Nat} (M:Nat→AO) (nid:Nat)
  (h0:M a=.box [I r,.sl b (v+1) 9 0 ns.length,.sl c (v2+1) 2 0 ds.length]) (h1:M b=.vec (v+1) 9 false (nrows ns)) (h2:M c=.vec (v2+1) 2 false (prows ds)) :
  callG adS [.bp a 0,I f] M nid=some (.tup [],[(a,.box [I r,.sl b (v+2) 9 0 (ns.length+1),.sl c (v2+1) 2 0 ds.length]),(b,.vec (v+2) 9 false (nrows (insK ns (f,zs8)))),(c,.vec (v2+1) 2 false (prows ds))]):=by
 have hF:=adS_at (t:=(r,ns,ds)) ht ha hn hl
 have hil:=@insK_len _ (f,zs8) ns
 simp only [pMs,hil] at hF
 unfold callG
 have hba:b≠a:=fun e=>hab e.symm
 have hca:c≠a:=fun e=>hac e.symm
 have hcb:c≠b:=fun e=>hbc e.symm
 have hg:gat M 64 (nmsL [.bp a 0,I f]) []=[a,b,c]:=by
  simp [gat,nmsL,AV.nms,AO.nms,h0,h1,h2,hab,hac,hbc,hba,hca,hcb]
 simp only [hg]
 rw [if_pos ?cg]
 case cg=>simp [CallG,nmsL,AV.nms,AO.nms,Led,curBL,AV.curB,AO.curB,verOf,notDead,h0,h1,h2,hab,hac,hbc,hba,hca,hcb]
 have e1:2+v=v+2:=by omega
 have e2:1+v2=v2+1:=by omega
 simp [renL,AV.ren,AO.ren,posN,canO,nmsL,h0,h1,h2,hF,RetG,getL,AV.nms,AO.nms,updN,nmN,shN,verOf,rng,Led,hab,hac,hbc,hba,hca,hcb,e1,e2]
set_option maxRecDepth 4000 in
theorem callPu {a b c:Nat} (hab:a≠b) (hac:a≠c) (hbc:b≠c) {r:Int} {ns:NdL} {ds:List Dp} {p w:Nat} (h:ptO (r,ns,ds) p) (hw:w<2^64) {v v2:Nat} (M:Nat→AO) (nid:Nat)
  (h0:M a=.box [I r,.sl b (v+1) 9 0 ns.length,.sl c (v2+1) 2 0 ds.length]) (h1:M b=.vec (v+1) 9 false (nrows ns)) (h2:M c=.vec (v2+1) 2 false (prows ds)) :
  callG puS [.bp a 0,I p,U w] M nid=some (.tup [],[(a,.box [I r,.sl b (v+1) 9 0 ns.length,.sl c (v2+1) 2 0 ds.length]),(b,.vec (v+1) 9 false (nrows (putT (r,ns,ds) p w).2.1)),(c,.vec (v2+1) 2 false (prows ds))]):=by
 have hF:=puS_at h hw
 have e0:putT (r,ns,ds) p w=(r,(putT (r,ns,ds) p w).2.1,ds):=rfl
 have hil:(putT (r,ns,ds) p w).2.1.length=ns.length:=setN_len
 rw [e0] at hF
 simp only [pMs,hil,U] at hF
 unfold callG U
 have hba:b≠a:=fun e=>hab e.symm
 have hca:c≠a:=fun e=>hac e.symm
 have hcb:c≠b:=fun e=>hbc e.symm
 have hg:gat M 64 (nmsL [.bp a 0,I p,.v (.int .u64 w)]) []=[a,b,c]:=by
  simp [gat,nmsL,AV.nms,AO.nms,h0,h1,h2,hab,hac,hbc,hba,hca,hcb]
 simp only [hg]
 rw [if_pos ?cg]
 case cg=>simp [CallG,nmsL,AV.nms,AO.nms,Led,curBL,AV.curB,AO.curB,verOf,notDead,h0,h1,h2,hab,hac,hbc,hba,hca,hcb]
 have e1:1+v=v+1:=by omega
 have e2:1+v2=v2+1:=by omega
 simp [renL,AV.ren,AO.ren,posN,canO,nmsL,h0,h1,h2,hF,RetG,getL,AV.nms,AO.nms,updN,nmN,shN,verOf,rng,Led,hab,hac,hbc,hba,hca,hcb,e1,e2]
def stD (r:Int) (ds:List Dp) (p:Nat) (ns:NdL) (f:Int):NdL:=insK (setN ns (lsT (r,ns,ds) p).1 (dgt p (lsT (r,ns,ds) p).2.1) (f.toNat*256+4)) (f,zs8)
def dpN (r:Int) (ds:List Dp) (p:Nat) (ns:NdL) (fs:List Int):NdL:=fs.foldl (stD r ds p) ns
theorem dpN_0 {r:Int} {ds:List Dp} {p:Nat} {ns:NdL} {fs:List Int}:dpN r ds p ns (fs.take 0)=ns:=rfl
theorem dpN_s {r:Int} {ds:List Dp} {p:Nat} {ns:NdL} {fs:List Int} {i:Nat} (h:i<fs.length):dpN r ds p ns (fs.take (i+1))=stD r ds p (dpN r ds p ns (fs.take i)) (gi fs i):=by
 unfold dpN
 rw [gi_eq h,List.take_add_one,List.getElem?_eq_getElem h,List.foldl_append]
 rfl
def dpC (r:Int) (ds:List Dp) (p:Nat) (ns:NdL) (f:Int):Prop:=ptO (r,ns,ds) p∧(∀ n∈ns,n.1≠f)∧0≤f∧f≤4294967295
def dpOK (r:Int) (ds:List Dp) (p:Nat) (ns:NdL) (fs:List Int):Prop:=(p<512∧fs.length≤1000∧ns.length≤1000000∧ds.length≤1000000)∧∀ i,i<fs.length→dpC r ds p (dpN r ds p ns (fs.take i)) (gi fs i)
theorem setN_ok {ns:NdL} {n i w:Nat} (h:∀ x∈ns,ndOK x) (hw:w<2^64) (hn:n<ns.length):∀ x∈setN ns n i w,ndOK x:=fun x hx=>by
 rcases List.mem_or_eq_of_mem_set hx with h1|h1
 ·exact h x h1
 ·rw [h1]
  have hm:=h _ (gn_mem hn)
  refine ⟨by simp only [List.length_set];exact hm.1,fun y hy=>?_⟩
  rcases List.mem_or_eq_of_mem_set hy with h2|h2
  ·exact hm.2 y h2
  ·rw [h2];exact hw
theorem gE' {l:List Int} {n:Nat} (h:n<l.length):∀ h',l[n]'(h')=gi l n:=fun h'=>(gi_eq h).symm
theorem setN_fr {ns:NdL} {n i w:Nat} (hn:n<ns.length) {f:Int} (h:∀ x∈ns,x.1≠f):∀ x∈setN ns n i w,x.1≠f:=fun x hx=>by
 rcases List.mem_or_eq_of_mem_set hx with h1|h1
 ·exact h x h1
 ·have hm:=h _ (gn_mem hn)
  rw [h1];exact hm
abbrev DeD:=Tb×Nat×List Int
def dM (t:Tb) (p:Nat) (fs:List Int):List AO:=pMs (t.1,dpN t.1 t.2.2 p t.2.1 fs,t.2.2) (fs.length+1) 1
noncomputable def deS:List AV→List AO→Option (AV×List AO):=specG (ι:={x:DeD // dpOK x.1.1 x.1.2.2 x.2.1 x.1.2.1 x.2.2}) (fun x=>[.bp 0 0,I x.1.2.1,.rd 1 (irows x.1.2.2)]) (fun x=>pMs x.1.1 1 1) (fun x=>.tup []) fun x=>dM x.1.1 x.1.2.1 x.1.2.2
theorem deS_at {t:Tb} {p:Nat} {fs:List Int} (h:dpOK t.1 t.2.2 p t.2.1 fs):deS [.bp 0 0,I p,.rd 1 (irows fs)] (pMs t 1 1)=some (.tup [],dM t p fs):=by
 refine specG_eq (ι:={x:DeD // dpOK x.1.1 x.1.2.2 x.2.1 x.1.2.1 x.2.2}) (A:=fun x=>[.bp 0 0,I x.1.2.1,.rd 1 (irows x.1.2.2)]) (M:=fun x=>pMs x.1.1 1 1) (R:=fun x=>.tup []) (O:=fun x=>dM x.1.1 x.1.2.1 x.1.2.2) ⟨(t,p,fs),h⟩ fun j hA hM=>?_
 obtain ⟨⟨t',p',w'⟩,h'⟩:=j
 have e:=pMs_inj hM
 simp only at e
 subst e
 simp only [List.cons.injEq,I,AV.v.injEq,Value.int.injEq,true_and,and_true,AV.rd.injEq,irows_inj] at hA
 have e1:p'=p:=by omega
 have e2:w'=fs:=hA.2
 subst e1 e2
 exact ⟨rfl,rfl⟩
theorem s129 (X:AX) (hX:XOK Tryz.prog X) (hw:X.W wT) (hla:OwnR X 110 (fun t x=>0≤x∧ptO t x.toNat) fun t x=>stV (lsT t x.toNat)) (hdg:∀ (p l:Nat),p<512→l≤2→∀ M n,X.call 139 [I p,I l] M n=some (I (dgt p l),[]))
  (hen:∀ f:Nat,f≤4294967295→∀ M n,X.call 143 [.agg [I 4,I f,B false,B false,B false,B false]] M n=some (.tup [U ((f*256+4:Nat)),I 0],[])) (had:X.call 186=callG adS):GSound Tryz.prog 129 deS:=by
 unfold deS
 refine gsound_spec Tryz.func129 rfl X fun ⟨⟨⟨r,ns,ds⟩,p,fs⟩,⟨hp,hf8,hl1,hl2⟩,hdp⟩ w0 L E=>⟨by show 3≤46;decide,?_⟩
 simp only at hp hf8 hl1 hl2 hdp
 simp only [pMs,dM]
 show AW ⟨Tryz.prog,X,46,w0,⟨L,E,3⟩⟩ _ _ _
 have hc:Cx.OK ⟨Tryz.prog,X,46,w0,⟨L,E,3⟩⟩:=⟨hX,mixed⟩
 repeat' (first|(apply aw_seq_k;intro K hK)|(refine eM64o ?_)|(refine aw_cond (b:=_) (by exact rfl) (fun h=>?_) (fun h=>?_)<;>(try simp at h))|(refine eB ?_)|(refine hK _ ?_;clear hK)|(clear hK;refine hK _ ?_;clear hK)|(clear hK;clear hK;refine hK _ ?_;clear hK)|(clear hK;clear hK;clear hK;refine hK _ ?_;clear hK))
 refine aw_loopK (s0:=?lps1) (m0:=?lpm1) (ι:={i:Nat // i≤fs.length}) [0,1,11,12] (fun s=>[(13,I s.1)]) (fun s=>[(0,.box [I r,.sl 1 (s.1+1) 9 0 (dpN r ds p ns (fs.take s.1)).length,.sl 2 1 2 0 ds.length]),(1,.vec (s.1+1) 9 false (nrows (dpN r ds p ns (fs.take s.1))))]) (fun s=>fs.length - s.1) ⟨0,by simp⟩ ?lhs1 ?lhm1 ?_ ?_
 case lhs1=>first|(simp [keepS];done)|(simp [keepS];rfl)
 case lhm1=>first|rfl|(simp;done)|(simp;rfl)
 ·simp only [dpN_0]
  exact dle
 ·rintro ⟨i,hi⟩
  simp only at hi ⊢
  rcases Decidable.em (i<fs.length) with hil|hil
  ·have hilI:(i:Int)<(fs.length:Int):=by omega
   obtain ⟨hpt,hnf,hf0,hf1⟩:=hdp i hil
   have hds:=@dpN_s r ds p ns fs i hil
   have hg1:=irows_gi hil
   have hg2:=gE' hil
   obtain ⟨NS,hNS⟩:∃ NS,NS=dpN r ds p ns (fs.take i):=⟨_,rfl⟩
   rw [← hNS] at hpt hnf hds ⊢
   obtain ⟨f,hf⟩:=Int.eq_ofNat_of_zero_le hf0
   rw [hf] at hf1 hnf hds hg1 hg2
   have hen':=hen f (by omega)
   have hla':=hla r NS ds p ⟨by omega,hpt⟩
   obtain ⟨hlt1,hlt2⟩:(lsT (r,NS,ds) p).1<NS.length∧(lsT (r,NS,ds) p).2.1≤2:=by
    obtain ⟨_,_,_,⟨rt,hrt⟩,_⟩:=hpt
    exact lst_lt (by unfold rtN;rw [hrt];exact fnd_lt hrt)
   have ht:=hpt.1
   have ha:=hpt.2.1
   have hNl:NS.length≤1000000:=ht.2.1
   unfold stD at hds
   obtain ⟨⟨a,b,c⟩,hS⟩:∃ S,S=lsT (r,NS,ds) p:=⟨_,rfl⟩
   simp only [Int.toNat_natCast] at hla' hds
   rw [← hS] at hla' hlt1 hlt2 hds
   simp only at hla' hlt1 hlt2 hds
   have hdg':=hdg p b hp hlt2
   have hdl:=dgt_lt p b
   have haN:(a:Int)<(NS.length:Int):=by omega
   have hgn:=nrows_gi hlt1
   have hgnE:=nrows_gE hlt1
   have h8:(gn NS a).2.length=8:=(ht.1 _ (gn_mem hlt1)).1
   obtain ⟨w,hwd⟩:∃ w,w=f*256+4:=⟨_,rfl⟩
   rw [← hwd] at hen' hds
   have hset:=@nrows_setN NS a (dgt p b) w hlt1
   have hwl:(wcs (gn NS a).2).length=8:=by simp [h8]
   have hw64:w<2^64:=by omega
   obtain ⟨NT,hNT⟩:∃ NT,NT=setN NS a (dgt p b) w:=⟨_,rfl⟩
   have hNl2:NT.length=NS.length:=by rw [hNT];simp
   have ht2:tbOK (r,NT,ds):=⟨by rw [hNT];exact setN_ok ht.1 hw64 hlt1,by show NT.length≤1000000;omega,hl2⟩
   have ha2:ascN NT:=by rw [hNT];exact setN_asc ha hlt1
   have hn2:∀ n∈NT,n.1≠(f:Int):=by rw [hNT];exact setN_fr hlt1 hnf
   have hca:=fun M n=>@callAd 0 1 2 (by decide) (by decide) (by decide) r NT ds f ht2 ha2 hn2 (by omega) i 0 M n
   rw [← had] at hca
   simp only [hNl2,Nat.zero_add] at hca
   rw [← hNT] at hset hds
   obtain ⟨⟨fr,ws⟩,hm⟩:∃ m,m=gn NS a:=⟨_,rfl⟩
   rw [← hm] at hgn hgnE hwl hset
   simp only at hgn hgnE hwl hset
   obtain ⟨cs,hcs⟩:∃ cs,cs=wcs ws:=⟨_,rfl⟩
   rw [← hcs] at hgn hgnE hwl hset
   obtain ⟨dg,hdg0⟩:∃ dg,dg=dgt p b:=⟨_,rfl⟩
   rw [← hdg0] at hdl hdg' hset
   have hdI:(dg:Int)<8:=by omega
   clear hcs hm h8 hS
   have hs1:∀ w:Int,(I fr::cs).set (1+dg) (AV.v (.int .u64 w))=I fr::cs.set dg (AV.v (.int .u64 w)):=fun w=>by rw [Nat.add_comm];rfl
   have hil2:=@insK_len _ ((f:Int),zs8) NT
   clear hwd
   simp only [stV,srow,U] at hla' hset hen'
   have zS:=jj hilI<|jj hg1<|jj hg2<|jj hla'<|jj hen'<|jj hdg'<|jj hlt1<|jj haN<|jj hgn<|jj hgnE<|jj hwl<|jj hdl<|jj hdI<|jj hset<|jj hs1<|hca
   repeat' (first|(apply aw_seq_k;intro K hK)|(refine eF64 ?_)|(refine aw_cond (b:=_) (by exact rfl) (fun h=>?_) (fun h=>?_)<;>(try simp at h))|(refine eB ?_)|(refine hK _ ?_;clear hK)|(clear hK;refine hK _ ?_;clear hK)|(clear hK;clear hK;refine hK _ ?_;clear hK)|(clear hK;clear hK;clear hK;refine hK _ ?_;clear hK))
   all_goals clear zS
   refine ⟨i+1,?_,by omega,by omega⟩
   simp only [hds,hil2,hNl2]
   exact dle
  ·obtain rfl:i=fs.length:=by omega
   repeat' (first|(apply aw_seq_k;intro K hK)|(refine eM64o ?_)|(refine aw_cond (b:=_) (by exact rfl) (fun h=>?_) (fun h=>?_)<;>(try simp at h))|(refine eB ?_)|(refine hK _ ?_;clear hK)|(clear hK;refine hK _ ?_;clear hK)|(clear hK;clear hK;refine hK _ ?_;clear hK)|(clear hK;clear hK;clear hK;refine hK _ ?_;clear hK))
   refine ⟨[],rfl,?_⟩
   simp only [idx]
   exact dle
end Go.AM
set_option maxHeartbeats 4000000
namespace Go.AM
open Go Go.Proofs
def orG (F G:List AV→List AO→Option (AV×List AO)) (avs:List AV) (ms:List AO):Option (AV×List AO):=match F avs ms with
 | some r=>some r
 | none=>G avs ms
theorem GSound.or {P:Program} {f:FuncId} {F G:List AV→List AO→Option (AV×List AO)} (h1:GSound P f F) (h2:GSound P f G):GSound P f (orG F G):=fun w l E args avs ms r ms' h=>by
 unfold orG at h
 cases hf:F avs ms with
 | some x=>rw [hf] at h;exact h1 w l E args avs ms r ms' (hf.trans h)
 | none=>rw [hf] at h;exact h2 w l E args avs ms r ms' h
theorem orG_1 {F G:List AV→List AO→Option (AV×List AO)} {avs:List AV} {ms:List AO} {x:AV×List AO} (h:F avs ms=some x):orG F G avs ms=some x:=by unfold orG;rw [h]
theorem orG_2 {F G:List AV→List AO→Option (AV×List AO)} {avs:List AV} {ms:List AO} {x:AV×List AO} (h:F avs ms=none) (h2:G avs ms=some x):orG F G avs ms=some x:=by unfold orG;rw [h];exact h2
theorem specG_none {ι:Type} {A:ι→List AV} {M:ι→List AO} {R:ι→AV} {O:ι→List AO} {avs:List AV} {ms:List AO} (h:∀ i,A i=avs→M i=ms→False):specG A M R O avs ms=none:=by
 unfold specG
 rw [dif_neg (fun ⟨i,h1,h2⟩=>h i (by first|exact h1|exact h1.symm) (by first|exact h2|exact h2.symm))]
noncomputable def seB:List AV→List AO→Option (AV×List AO):=orG (seS 189) (seS 191)
theorem seB_1 {t:Tb} {g:Int} (ht:tbOK t) (ha:ascK t.2.2):seB [I t.2.2.length,.fn 189 [.bp 0 0,.bp 4 0]] (scM t g)=some (I (lowD t.2.2 g),scM t g):=orG_1 (seS_at ht ha)
theorem seB_2 {t:Tb} {g:Int} (ht:tbOK t) (ha:ascK t.2.2):seB [I t.2.2.length,.fn 191 [.bp 0 0,.bp 4 0]] (scM t g)=some (I (lowD t.2.2 g),scM t g):=orG_2 (specG_none fun i h1 _=>by
 simp only [List.cons.injEq,AV.fn.injEq] at h1
 exact absurd h1.2.1.1 (by decide)) (seS_at ht ha)
set_option maxRecDepth 4000 in
theorem callSe {c:FuncId} {e:Nat} (he:4≤e) (hcc:c=189∨c=191) {r:Int} {ns:NdL} {ds:List Dp} {g:Int} (ht:tbOK (r,ns,ds)) (ha:ascK ds) (M:Nat→AO) (nid:Nat)
  (h0:M 0=.box [I r,.sl 1 1 9 0 ns.length,.sl 2 1 2 0 ds.length]) (h1:M 1=.vec 1 9 false (nrows ns)) (h2:M 2=.vec 1 2 false (prows ds)) (h3:M 3=.box [.bp 0 0]) (h4:M e=.box [I g]) :
  callG seB [I ds.length,.fn c [.bp 3 0,.bp e 0]] M nid=some (I (lowD ds g),[(3,.box [.bp 0 0]),(0,.box [I r,.sl 1 1 9 0 ns.length,.sl 2 1 2 0 ds.length]),(1,.vec 1 9 false (nrows ns)),(2,.vec 1 2 false (prows ds)),(e,.box [I g])]):=by
 have n0:e≠0:=by omega
 have n1:e≠1:=by omega
 have n2:e≠2:=by omega
 have n3:e≠3:=by omega
 have m0:0≠e:=by omega
 have m1:1≠e:=by omega
 have m2:2≠e:=by omega
 have m3:3≠e:=by omega
 have hF:seB [I ds.length,.fn c [.bp 0 0,.bp 4 0]] (scM (r,ns,ds) g)=some (I (lowD ds g),scM (r,ns,ds) g):=by
  rcases hcc with rfl|rfl
  ·exact seB_1 (t:=(r,ns,ds)) ht ha
  ·exact seB_2 (t:=(r,ns,ds)) ht ha
 simp only [scM] at hF
 unfold callG
 have hg:gat M 64 (nmsL [I ds.length,.fn c [.bp 3 0,.bp e 0]]) []=[3,0,1,2,e]:=by
  simp [gat,nmsL,AV.nms,AO.nms,h0,h1,h2,h3,h4,n0,n1,n2,n3,m0,m1,m2,m3]
 simp only [hg]
 rw [if_pos ?cg]
 case cg=>simp [CallG,nmsL,AV.nms,AO.nms,Led,curBL,AV.curB,AO.curB,verOf,notDead,h0,h1,h2,h3,h4,n0,n1,n2,n3,m0,m1,m2,m3]
 simp [renL,AV.ren,AO.ren,posN,canO,nmsL,h0,h1,h2,h3,h4,n0,n1,n2,n3,m0,m1,m2,m3,hF,RetG,getL,AV.nms,AO.nms,updN,nmN,shN,verOf,rng,Led]
theorem callIns {b c v i:Nat} {l:List Dp} {g f:Int} {fl fl2:Bool} (hbc:b≠c) (hi:i≤l.length∧l.length≤1000000) (M:Nat→AO) (nid:Nat) (hb:M b=.vec v 2 fl (prows l)) (hc:M c=.vec 1 2 fl2 [[I g,I f]]) :
  callM false two2 FInsD [.sl b v 2 0 l.length,I i,.sl c 1 2 0 1] M nid=some (.sl nid 1 2 0 (l.length+1),[(nid,.vec 1 2 false (prows (l.take i++(g,f)::l.drop i))),(b,.dead)]):=by
 have hF:=FInsD_at l i g f hi
 have hcb:c≠b:=fun e=>hbc e.symm
 have e1:min i l.length+(l.length - i+1)=l.length+1:=by omega
 simp [callM,giveArg,takeArg,hb,hc,hbc,hcb,hF,List.take_of_length_le,e1]
theorem callDel {b v i j:Nat} {l:List Dp} {fl:Bool} (hi:i≤j∧j≤l.length∧l.length≤1000000) (M:Nat→AO) (nid:Nat) (hb:M b=.vec v 2 fl (prows l)) :
  callM false two2 FDelD [.sl b v 2 0 l.length,I i,I j] M nid=some (.sl nid 1 2 0 (l.length - (j - i)),[(nid,.vec 1 2 false (prows (l.take i++l.drop j))),(b,.dead)]):=by
 have hF:=FDelD_at l i j hi
 have e1:min i l.length+(l.length - j)=l.length - (j - i):=by omega
 simp [callM,giveArg,takeArg,hb,hF,List.take_of_length_le,e1]
def insL (ds:List Dp) (g f:Int):List Dp:=ds.take (lowD ds g)++(g,f)::ds.drop (lowD ds g)
abbrev DpD:=Tb×Int×Int
def oM (t:Tb) (ds:List Dp):List AO:=[.box [I t.1,.sl 1 1 9 0 t.2.1.length,.sl 3 1 2 0 ds.length],.vec 1 9 false (nrows t.2.1),.dead,.vec 1 2 false (prows ds)]
noncomputable def dpS:List AV→List AO→Option (AV×List AO):=specG (ι:={x:DpD // tbOK x.1∧ascK x.1.2.2}) (fun x=>[.bp 0 0,I x.1.2.1,I x.1.2.2]) (fun x=>pMs x.1.1 1 1) (fun x=>.tup []) fun x=>oM x.1.1 (insL x.1.1.2.2 x.1.2.1 x.1.2.2)
theorem dpS_at {t:Tb} {g f:Int} (ht:tbOK t) (ha:ascK t.2.2):dpS [.bp 0 0,I g,I f] (pMs t 1 1)=some (.tup [],oM t (insL t.2.2 g f)):=by
 refine specG_eq (ι:={x:DpD // tbOK x.1∧ascK x.1.2.2}) (A:=fun x=>[.bp 0 0,I x.1.2.1,I x.1.2.2]) (M:=fun x=>pMs x.1.1 1 1) (R:=fun x=>.tup []) (O:=fun x=>oM x.1.1 (insL x.1.1.2.2 x.1.2.1 x.1.2.2)) ⟨(t,g,f),ht,ha⟩ fun j hA hM=>?_
 obtain ⟨⟨t',g',f'⟩,h'⟩:=j
 have e:=pMs_inj hM
 simp only at e
 subst e
 simp only [List.cons.injEq,I,AV.v.injEq,Value.int.injEq,true_and,and_true] at hA
 obtain ⟨rfl,rfl⟩:=hA
 exact ⟨rfl,rfl⟩
theorem insL_len {ds:List Dp} {g f:Int}:(insL ds g f).length=ds.length+1:=by
 have:=@lowD_le ds g
 simp [insL];omega
theorem s135 (X:AX) (hX:XOK Tryz.prog X) (hw:X.W wT) (hse:X.call 188=callG seB) (hin:X.call 190=callM false two2 FInsD):GSound Tryz.prog 135 dpS:=by
 unfold dpS
 refine gsound_spec Tryz.func135 rfl X fun ⟨⟨⟨r,ns,ds⟩,g,f⟩,ht,ha⟩ w0 L E=>⟨by show 3≤27;decide,?_⟩
 simp only at ha
 have hl1:ns.length≤1000000:=ht.2.1
 have hl2:ds.length≤1000000:=ht.2.2
 have hse':=fun M n=>@callSe 189 19 (by decide) (.inl rfl) r ns ds g ht ha M n
 rw [← hse] at hse'
 have hlo:=@lowD_le ds g
 obtain ⟨i,hi⟩:∃ i,i=lowD ds g:=⟨_,rfl⟩
 have hil:insL ds g f=ds.take i++(g,f)::ds.drop i:=by rw [hi];rfl
 have hlen:=@insL_len ds g f
 rw [← hi] at hse' hlo
 have hin':=fun b c hbc M nid=>@callIns b c 1 i ds g f false false hbc ⟨hlo,hl2⟩ M nid
 rw [← hin,← hil] at hin'
 simp only [pMs,oM,hlen]
 show AW ⟨Tryz.prog,X,27,w0,⟨L,E,3⟩⟩ _ _ _
 have hc:Cx.OK ⟨Tryz.prog,X,27,w0,⟨L,E,3⟩⟩:=⟨hX,mixed⟩
 have zS:=jj hse'<|hin'
 refine dF64 ?_
 repeat (intro K hK)
 clear zS
 refine ⟨[],rfl,?_⟩
 simp only [idx]
 refine le_turn (s1:=?tus1) (m1:=?tum1) [(323,3)] [0] [0,1,2,323] ?tua1 ?tub1 ?tuc1 ?tud1 ?tue1 ?tuf1 ?tug1
 case tua1=>first|(simp [keepS];done)|(simp [keepS];rfl)
 case tub1=>first|(simp;done)|(simp;rfl)
 case tuc1=>simp
 case tud1=>simp
 case tue1=>simp
 case tuf1=>simp
 case tug1 =>
  simp [swp,vr]
  exact dle
def delL (ds:List Dp) (g:Int):List Dp:=ds.take (lowD ds g)++ds.drop (lowD ds g+1)
theorem delL_len {ds:List Dp} {g:Int} (h:lowD ds g<ds.length):(delL ds g).length=ds.length - 1:=by
 simp [delL];omega
noncomputable def wdS:List AV→List AO→Option (AV×List AO):=specG (ι:={x:Tb×Int // tbOK x.1∧ascK x.1.2.2∧lowD x.1.2.2 x.2<x.1.2.2.length}) (fun x=>[.bp 0 0,I x.1.2]) (fun x=>pMs x.1.1 1 1) (fun x=>retOf [I (gp x.1.1.2.2 (lowD x.1.1.2.2 x.1.2)).2]) fun x=>oM x.1.1 (delL x.1.1.2.2 x.1.2)
theorem wdS_at {t:Tb} {g:Int} (ht:tbOK t) (ha:ascK t.2.2) (hl:lowD t.2.2 g<t.2.2.length):wdS [.bp 0 0,I g] (pMs t 1 1)=some (I (gp t.2.2 (lowD t.2.2 g)).2,oM t (delL t.2.2 g)):=by
 refine specG_eq (ι:={x:Tb×Int // tbOK x.1∧ascK x.1.2.2∧lowD x.1.2.2 x.2<x.1.2.2.length}) (A:=fun x=>[.bp 0 0,I x.1.2]) (M:=fun x=>pMs x.1.1 1 1) (R:=fun x=>retOf [I (gp x.1.1.2.2 (lowD x.1.1.2.2 x.1.2)).2]) (O:=fun x=>oM x.1.1 (delL x.1.1.2.2 x.1.2)) ⟨(t,g),ht,ha,hl⟩ fun j hA hM=>?_
 obtain ⟨⟨t',g'⟩,h'⟩:=j
 have e:=pMs_inj hM
 simp only at e
 subst e
 simp only [List.cons.injEq,I,AV.v.injEq,Value.int.injEq,true_and,and_true] at hA
 subst hA
 exact ⟨rfl,rfl⟩
theorem s138 (X:AX) (hX:XOK Tryz.prog X) (hw:X.W wT) (hse:X.call 188=callG seB) (hde:X.call 192=callM false two2 FDelD):GSound Tryz.prog 138 wdS:=by
 unfold wdS
 refine gsound_spec Tryz.func138 rfl X fun ⟨⟨⟨r,ns,ds⟩,g⟩,ht,ha,hlo⟩ w0 L E=>⟨by show 2≤34;decide,?_⟩
 simp only at ha hlo
 have hl1:ns.length≤1000000:=ht.2.1
 have hl2:ds.length≤1000000:=ht.2.2
 have hse':=fun M n=>@callSe 191 19 (by decide) (.inr rfl) r ns ds g ht ha M n
 rw [← hse] at hse'
 have hlen:=delL_len hlo
 simp only [pMs,oM,hlen]
 obtain ⟨i,hi⟩:∃ i,i=lowD ds g:=⟨_,rfl⟩
 have hil:delL ds g=ds.take i++ds.drop (i+1):=by rw [hi];rfl
 rw [← hi] at hse' hlo ⊢
 have hde':=fun b M nid=>@callDel b 1 i (i+1) ds false ⟨by omega,by omega,hl2⟩ M nid
 rw [← hde,← hil,show i+1 - i=1 by omega,show ((i+1:Nat):Int)=(i:Int)+1 by omega] at hde'
 have hg:=prows_gi hlo
 have hgE:=prows_gE hlo
 obtain ⟨⟨d1,d2⟩,hm⟩:∃ m,m=gp ds i:=⟨_,rfl⟩
 rw [← hm] at hg hgE ⊢
 simp only at hg hgE ⊢
 have hiI:(i:Int)<(ds.length:Int):=by omega
 show AW ⟨Tryz.prog,X,34,w0,⟨L,E,3⟩⟩ _ _ _
 have hc:Cx.OK ⟨Tryz.prog,X,34,w0,⟨L,E,3⟩⟩:=⟨hX,mixed⟩
 have zS:=jj hse'<|jj hde'<|jj hg<|jj hgE<|jj hlo<|hiI
 refine dF64 ?_
 repeat (intro K hK)
 clear zS
 refine ⟨by simp,_,by simp [aResults,aResult,Tryz.f138];rfl,?_⟩
 simp only [idx]
 refine le_turn (s1:=?tus2) (m1:=?tum2) [(451,3)] [0] [0,1,2,451] ?tua2 ?tub2 ?tuc2 ?tud2 ?tue2 ?tuf2 ?tug2
 case tua2=>first|(simp [keepS];done)|(simp [keepS];rfl)
 case tub2=>first|(simp;done)|(simp;rfl)
 case tuc2=>simp
 case tud2=>simp
 case tue2=>simp
 case tuf2=>simp
 case tug2 =>
  simp [swp,vr]
  exact dle
end Go.AM
