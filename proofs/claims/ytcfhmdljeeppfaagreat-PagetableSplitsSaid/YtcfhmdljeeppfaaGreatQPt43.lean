/- A part of the proof; no condition. -/
import Derived.Test.YtcfhmdljeeppfaaGreatQPt40
import Derived.Test.YtcfhmdljeeppfaaGreatQPt31
set_option linter.all false
set_option maxHeartbeats 4000000
namespace Go.AM
open Go Go.Proofs
set_option maxRecDepth 4000 in
theorem callAd {a b c:Nat} (hab:a≠b) (hac:a≠c) (hbc:b≠c) {r:Int} {ns:NdL} {ds:List Dp} {f:Int} (ht:tbOK (r,ns,ds)) (ha:ascN ns) (hn:∀ n∈ns,n.1≠f) (hl:1≤ns.length) {v v2:Nat} (M:Nat→AO) (nid:Nat)
  (h0:M a=.box [I r,.sl b (v+1) 9 0 ns.length,.sl c (v2+1) 2 0 ds.length]) (h1:M b=.vec (v+1) 9 false (nrows ns)) (h2:M c=.vec (v2+1) 2 false (prows ds)) :
  callG adS [.bp a 0,I f] M nid=some (.tup [],[(a,.box [I r,.sl b (v+2) 9 0 (ns.length+1),.sl c (v2+1) 2 0 ds.length]),(b,.vec (v+2) 9 false (nrows (insK ns (f,zs8)))),(c,.vec (v2+1) 2 false (prows ds))]):=by
 have hF:=adS_at (t:=(r,ns,ds)) ht ha hn hl
 have hil:=@insK_len _ (f,zs8) ns
 simp only [pMs,hil] at hF
 unfold callG
 have hba:b≠a:=fun e=>hab e.symm
 have hca:c≠a:=fun e=>hac e.symm
 have hcb:c≠b:=fun e=>hbc e.symm
 have hg:gat M 64 (nmsL [.bp a 0,I f]) []=[a,b,c]:=by
  simp [gat,nmsL,AV.nms,AO.nms,h0,h1,h2,hab,hac,hbc,hba,hca,hcb]
 simp only [hg]
 rw [if_pos ?cg]
 case cg=>simp [CallG,nmsL,AV.nms,AO.nms,Led,curBL,AV.curB,AO.curB,verOf,notDead,h0,h1,h2,hab,hac,hbc,hba,hca,hcb]
 have e1:2+v=v+2:=by omega
 have e2:1+v2=v2+1:=by omega
 simp [renL,AV.ren,AO.ren,posN,canO,nmsL,h0,h1,h2,hF,RetG,getL,AV.nms,AO.nms,updN,nmN,shN,verOf,rng,Led,hab,hac,hbc,hba,hca,hcb,e1,e2]
set_option maxRecDepth 4000 in
theorem callPu {a b c:Nat} (hab:a≠b) (hac:a≠c) (hbc:b≠c) {r:Int} {ns:NdL} {ds:List Dp} {p w:Nat} (h:ptO (r,ns,ds) p) (hw:w<2^64) {v v2:Nat} (M:Nat→AO) (nid:Nat)
  (h0:M a=.box [I r,.sl b (v+1) 9 0 ns.length,.sl c (v2+1) 2 0 ds.length]) (h1:M b=.vec (v+1) 9 false (nrows ns)) (h2:M c=.vec (v2+1) 2 false (prows ds)) :
  callG puS [.bp a 0,I p,U w] M nid=some (.tup [],[(a,.box [I r,.sl b (v+1) 9 0 ns.length,.sl c (v2+1) 2 0 ds.length]),(b,.vec (v+1) 9 false (nrows (putT (r,ns,ds) p w).2.1)),(c,.vec (v2+1) 2 false (prows ds))]):=by
 have hF:=puS_at h hw
 have e0:putT (r,ns,ds) p w=(r,(putT (r,ns,ds) p w).2.1,ds):=rfl
 have hil:(putT (r,ns,ds) p w).2.1.length=ns.length:=setN_len
 rw [e0] at hF
 simp only [pMs,hil,U] at hF
 unfold callG U
 have hba:b≠a:=fun e=>hab e.symm
 have hca:c≠a:=fun e=>hac e.symm
 have hcb:c≠b:=fun e=>hbc e.symm
 have hg:gat M 64 (nmsL [.bp a 0,I p,.v (.int .u64 w)]) []=[a,b,c]:=by
  simp [gat,nmsL,AV.nms,AO.nms,h0,h1,h2,hab,hac,hbc,hba,hca,hcb]
 simp only [hg]
 rw [if_pos ?cg]
 case cg=>simp [CallG,nmsL,AV.nms,AO.nms,Led,curBL,AV.curB,AO.curB,verOf,notDead,h0,h1,h2,hab,hac,hbc,hba,hca,hcb]
 have e1:1+v=v+1:=by omega
 have e2:1+v2=v2+1:=by omega
 simp [renL,AV.ren,AO.ren,posN,canO,nmsL,h0,h1,h2,hF,RetG,getL,AV.nms,AO.nms,updN,nmN,shN,verOf,rng,Led,hab,hac,hbc,hba,hca,hcb,e1,e2]
def stD (r:Int) (ds:List Dp) (p:Nat) (ns:NdL) (f:Int):NdL:=insK (setN ns (lsT (r,ns,ds) p).1 (dgt p (lsT (r,ns,ds) p).2.1) (f.toNat*256+4)) (f,zs8)
def dpN (r:Int) (ds:List Dp) (p:Nat) (ns:NdL) (fs:List Int):NdL:=fs.foldl (stD r ds p) ns
theorem dpN_0 {r:Int} {ds:List Dp} {p:Nat} {ns:NdL} {fs:List Int}:dpN r ds p ns (fs.take 0)=ns:=rfl
theorem dpN_s {r:Int} {ds:List Dp} {p:Nat} {ns:NdL} {fs:List Int} {i:Nat} (h:i<fs.length):dpN r ds p ns (fs.take (i+1))=stD r ds p (dpN r ds p ns (fs.take i)) (gi fs i):=by
 unfold dpN
 rw [gi_eq h,List.take_add_one,List.getElem?_eq_getElem h,List.foldl_append]
 rfl
def dpC (r:Int) (ds:List Dp) (p:Nat) (ns:NdL) (f:Int):Prop:=ptO (r,ns,ds) p∧(∀ n∈ns,n.1≠f)∧0≤f∧f≤4294967295
def dpOK (r:Int) (ds:List Dp) (p:Nat) (ns:NdL) (fs:List Int):Prop:=(p<512∧fs.length≤1000∧ns.length≤1000000∧ds.length≤1000000)∧∀ i,i<fs.length→dpC r ds p (dpN r ds p ns (fs.take i)) (gi fs i)
theorem setN_ok {ns:NdL} {n i w:Nat} (h:∀ x∈ns,ndOK x) (hw:w<2^64) (hn:n<ns.length):∀ x∈setN ns n i w,ndOK x:=fun x hx=>by
 rcases List.mem_or_eq_of_mem_set hx with h1|h1
 ·exact h x h1
 ·rw [h1]
  have hm:=h _ (gn_mem hn)
  refine ⟨by simp only [List.length_set];exact hm.1,fun y hy=>?_⟩
  rcases List.mem_or_eq_of_mem_set hy with h2|h2
  ·exact hm.2 y h2
  ·rw [h2];exact hw
theorem gE' {l:List Int} {n:Nat} (h:n<l.length):∀ h',l[n]'(h')=gi l n:=fun h'=>(gi_eq h).symm
theorem setN_fr {ns:NdL} {n i w:Nat} (hn:n<ns.length) {f:Int} (h:∀ x∈ns,x.1≠f):∀ x∈setN ns n i w,x.1≠f:=fun x hx=>by
 rcases List.mem_or_eq_of_mem_set hx with h1|h1
 ·exact h x h1
 ·have hm:=h _ (gn_mem hn)
  rw [h1];exact hm
abbrev DeD:=Tb×Nat×List Int
def dM (t:Tb) (p:Nat) (fs:List Int):List AO:=pMs (t.1,dpN t.1 t.2.2 p t.2.1 fs,t.2.2) (fs.length+1) 1
noncomputable def deS:List AV→List AO→Option (AV×List AO):=specG (ι:={x:DeD // dpOK x.1.1 x.1.2.2 x.2.1 x.1.2.1 x.2.2}) (fun x=>[.bp 0 0,I x.1.2.1,.rd 1 (irows x.1.2.2)]) (fun x=>pMs x.1.1 1 1) (fun x=>.tup []) fun x=>dM x.1.1 x.1.2.1 x.1.2.2
theorem deS_at {t:Tb} {p:Nat} {fs:List Int} (h:dpOK t.1 t.2.2 p t.2.1 fs):deS [.bp 0 0,I p,.rd 1 (irows fs)] (pMs t 1 1)=some (.tup [],dM t p fs):=by
 refine specG_eq (ι:={x:DeD // dpOK x.1.1 x.1.2.2 x.2.1 x.1.2.1 x.2.2}) (A:=fun x=>[.bp 0 0,I x.1.2.1,.rd 1 (irows x.1.2.2)]) (M:=fun x=>pMs x.1.1 1 1) (R:=fun x=>.tup []) (O:=fun x=>dM x.1.1 x.1.2.1 x.1.2.2) ⟨(t,p,fs),h⟩ fun j hA hM=>?_
 obtain ⟨⟨t',p',w'⟩,h'⟩:=j
 have e:=pMs_inj hM
 simp only at e
 subst e
 simp only [List.cons.injEq,I,AV.v.injEq,Value.int.injEq,true_and,and_true,AV.rd.injEq,irows_inj] at hA
 have e1:p'=p:=by omega
 have e2:w'=fs:=hA.2
 subst e1 e2
 exact ⟨rfl,rfl⟩
theorem s129 (X:AX) (hX:XOK Tryz.prog X) (hw:X.W wT) (hla:OwnR X 110 (fun t x=>0≤x∧ptO t x.toNat) fun t x=>stV (lsT t x.toNat)) (hdg:∀ (p l:Nat),p<512→l≤2→∀ M n,X.call 139 [I p,I l] M n=some (I (dgt p l),[]))
  (hen:∀ f:Nat,f≤4294967295→∀ M n,X.call 143 [.agg [I 4,I f,B false,B false,B false,B false]] M n=some (.tup [U ((f*256+4:Nat)),I 0],[])) (had:X.call 186=callG adS):GSound Tryz.prog 129 deS:=by
 unfold deS
 refine gsound_spec Tryz.func129 rfl X fun ⟨⟨⟨r,ns,ds⟩,p,fs⟩,⟨hp,hf8,hl1,hl2⟩,hdp⟩ w0 L E=>⟨by show 3≤46;decide,?_⟩
 simp only at hp hf8 hl1 hl2 hdp
 simp only [pMs,dM]
 show AW ⟨Tryz.prog,X,46,w0,⟨L,E,3⟩⟩ _ _ _
 have hc:Cx.OK ⟨Tryz.prog,X,46,w0,⟨L,E,3⟩⟩:=⟨hX,mixed⟩
 repeat' (first|(apply aw_seq_k;intro K hK)|(refine eM64o ?_)|(refine aw_cond (b:=_) (by exact rfl) (fun h=>?_) (fun h=>?_)<;>(try simp at h))|(refine eB ?_)|(refine hK _ ?_;clear hK)|(clear hK;refine hK _ ?_;clear hK)|(clear hK;clear hK;refine hK _ ?_;clear hK)|(clear hK;clear hK;clear hK;refine hK _ ?_;clear hK))
 refine aw_loopK (s0:=?lps1) (m0:=?lpm1) (ι:={i:Nat // i≤fs.length}) [0,1,11,12] (fun s=>[(13,I s.1)]) (fun s=>[(0,.box [I r,.sl 1 (s.1+1) 9 0 (dpN r ds p ns (fs.take s.1)).length,.sl 2 1 2 0 ds.length]),(1,.vec (s.1+1) 9 false (nrows (dpN r ds p ns (fs.take s.1))))]) (fun s=>fs.length - s.1) ⟨0,by simp⟩ ?lhs1 ?lhm1 ?_ ?_
 case lhs1=>first|(simp [keepS];done)|(simp [keepS];rfl)
 case lhm1=>first|rfl|(simp;done)|(simp;rfl)
 ·simp only [dpN_0]
  exact dle
 ·rintro ⟨i,hi⟩
  simp only at hi ⊢
  rcases Decidable.em (i<fs.length) with hil|hil
  ·have hilI:(i:Int)<(fs.length:Int):=by omega
   obtain ⟨hpt,hnf,hf0,hf1⟩:=hdp i hil
   have hds:=@dpN_s r ds p ns fs i hil
   have hg1:=irows_gi hil
   have hg2:=gE' hil
   obtain ⟨NS,hNS⟩:∃ NS,NS=dpN r ds p ns (fs.take i):=⟨_,rfl⟩
   rw [← hNS] at hpt hnf hds ⊢
   obtain ⟨f,hf⟩:=Int.eq_ofNat_of_zero_le hf0
   rw [hf] at hf1 hnf hds hg1 hg2
   have hen':=hen f (by omega)
   have hla':=hla r NS ds p ⟨by omega,hpt⟩
   obtain ⟨hlt1,hlt2⟩:(lsT (r,NS,ds) p).1<NS.length∧(lsT (r,NS,ds) p).2.1≤2:=by
    obtain ⟨_,_,_,⟨rt,hrt⟩,_⟩:=hpt
    exact lst_lt (by unfold rtN;rw [hrt];exact fnd_lt hrt)
   have ht:=hpt.1
   have ha:=hpt.2.1
   have hNl:NS.length≤1000000:=ht.2.1
   unfold stD at hds
   obtain ⟨⟨a,b,c⟩,hS⟩:∃ S,S=lsT (r,NS,ds) p:=⟨_,rfl⟩
   simp only [Int.toNat_natCast] at hla' hds
   rw [← hS] at hla' hlt1 hlt2 hds
   simp only at hla' hlt1 hlt2 hds
   have hdg':=hdg p b hp hlt2
   have hdl:=dgt_lt p b
   have haN:(a:Int)<(NS.length:Int):=by omega
   have hgn:=nrows_gi hlt1
   have hgnE:=nrows_gE hlt1
   have h8:(gn NS a).2.length=8:=(ht.1 _ (gn_mem hlt1)).1
   obtain ⟨w,hwd⟩:∃ w,w=f*256+4:=⟨_,rfl⟩
   rw [← hwd] at hen' hds
   have hset:=@nrows_setN NS a (dgt p b) w hlt1
   have hwl:(wcs (gn NS a).2).length=8:=by simp [h8]
   have hw64:w<2^64:=by omega
   obtain ⟨NT,hNT⟩:∃ NT,NT=setN NS a (dgt p b) w:=⟨_,rfl⟩
   have hNl2:NT.length=NS.length:=by rw [hNT];simp
   have ht2:tbOK (r,NT,ds):=⟨by rw [hNT];exact setN_ok ht.1 hw64 hlt1,by show NT.length≤1000000;omega,hl2⟩
   have ha2:ascN NT:=by rw [hNT];exact setN_asc ha hlt1
   have hn2:∀ n∈NT,n.1≠(f:Int):=by rw [hNT];exact setN_fr hlt1 hnf
   have hca:=fun M n=>@callAd 0 1 2 (by decide) (by decide) (by decide) r NT ds f ht2 ha2 hn2 (by omega) i 0 M n
   rw [← had] at hca
   simp only [hNl2,Nat.zero_add] at hca
   rw [← hNT] at hset hds
   obtain ⟨⟨fr,ws⟩,hm⟩:∃ m,m=gn NS a:=⟨_,rfl⟩
   rw [← hm] at hgn hgnE hwl hset
   simp only at hgn hgnE hwl hset
   obtain ⟨cs,hcs⟩:∃ cs,cs=wcs ws:=⟨_,rfl⟩
   rw [← hcs] at hgn hgnE hwl hset
   obtain ⟨dg,hdg0⟩:∃ dg,dg=dgt p b:=⟨_,rfl⟩
   rw [← hdg0] at hdl hdg' hset
   have hdI:(dg:Int)<8:=by omega
   clear hcs hm h8 hS
   have hs1:∀ w:Int,(I fr::cs).set (1+dg) (AV.v (.int .u64 w))=I fr::cs.set dg (AV.v (.int .u64 w)):=fun w=>by rw [Nat.add_comm];rfl
   have hil2:=@insK_len _ ((f:Int),zs8) NT
   clear hwd
   simp only [stV,srow,U] at hla' hset hen'
   have zS:=jj hilI<|jj hg1<|jj hg2<|jj hla'<|jj hen'<|jj hdg'<|jj hlt1<|jj haN<|jj hgn<|jj hgnE<|jj hwl<|jj hdl<|jj hdI<|jj hset<|jj hs1<|hca
   repeat' (first|(apply aw_seq_k;intro K hK)|(refine eF64 ?_)|(refine aw_cond (b:=_) (by exact rfl) (fun h=>?_) (fun h=>?_)<;>(try simp at h))|(refine eB ?_)|(refine hK _ ?_;clear hK)|(clear hK;refine hK _ ?_;clear hK)|(clear hK;clear hK;refine hK _ ?_;clear hK)|(clear hK;clear hK;clear hK;refine hK _ ?_;clear hK))
   all_goals clear zS
   refine ⟨i+1,?_,by omega,by omega⟩
   simp only [hds,hil2,hNl2]
   exact dle
  ·obtain rfl:i=fs.length:=by omega
   repeat' (first|(apply aw_seq_k;intro K hK)|(refine eM64o ?_)|(refine aw_cond (b:=_) (by exact rfl) (fun h=>?_) (fun h=>?_)<;>(try simp at h))|(refine eB ?_)|(refine hK _ ?_;clear hK)|(clear hK;refine hK _ ?_;clear hK)|(clear hK;clear hK;refine hK _ ?_;clear hK)|(clear hK;clear hK;clear hK;refine hK _ ?_;clear hK))
   refine ⟨[],rfl,?_⟩
   simp only [idx]
   exact dle
end Go.AM
set_option maxHeartbeats 4000000
namespace Go.AM
open Go Go.Proofs
def orG (F G:List AV→List AO→Option (AV×List AO)) (avs:List AV) (ms:List AO):Option (AV×List AO):=match F avs ms with
 | some r=>some r
 | none=>G avs ms
theorem GSound.or {P:Program} {f:FuncId} {F G:List AV→List AO→Option (AV×List AO)} (h1:GSound P f F) (h2:GSound P f G):GSound P f (orG F G):=fun w l E args avs ms r ms' h=>by
 unfold orG at h
 cases hf:F avs ms with
 | some x=>rw [hf] at h;exact h1 w l E args avs ms r ms' (hf.trans h)
 | none=>rw [hf] at h;exact h2 w l E args avs ms r ms' h
theorem orG_1 {F G:List AV→List AO→Option (AV×List AO)} {avs:List AV} {ms:List AO} {x:AV×List AO} (h:F avs ms=some x):orG F G avs ms=some x:=by unfold orG;rw [h]
theorem orG_2 {F G:List AV→List AO→Option (AV×List AO)} {avs:List AV} {ms:List AO} {x:AV×List AO} (h:F avs ms=none) (h2:G avs ms=some x):orG F G avs ms=some x:=by unfold orG;rw [h];exact h2
theorem specG_none {ι:Type} {A:ι→List AV} {M:ι→List AO} {R:ι→AV} {O:ι→List AO} {avs:List AV} {ms:List AO} (h:∀ i,A i=avs→M i=ms→False):specG A M R O avs ms=none:=by
 unfold specG
 rw [dif_neg (fun ⟨i,h1,h2⟩=>h i (by first|exact h1|exact h1.symm) (by first|exact h2|exact h2.symm))]
noncomputable def seB:List AV→List AO→Option (AV×List AO):=orG (seS 189) (seS 191)
theorem seB_1 {t:Tb} {g:Int} (ht:tbOK t) (ha:ascK t.2.2):seB [I t.2.2.length,.fn 189 [.bp 0 0,.bp 4 0]] (scM t g)=some (I (lowD t.2.2 g),scM t g):=orG_1 (seS_at ht ha)
theorem seB_2 {t:Tb} {g:Int} (ht:tbOK t) (ha:ascK t.2.2):seB [I t.2.2.length,.fn 191 [.bp 0 0,.bp 4 0]] (scM t g)=some (I (lowD t.2.2 g),scM t g):=orG_2 (specG_none fun i h1 _=>by
 simp only [List.cons.injEq,AV.fn.injEq] at h1
 exact absurd h1.2.1.1 (by decide)) (seS_at ht ha)
set_option maxRecDepth 4000 in
theorem callSe {c:FuncId} {e:Nat} (he:4≤e) (hcc:c=189∨c=191) {r:Int} {ns:NdL} {ds:List Dp} {g:Int} (ht:tbOK (r,ns,ds)) (ha:ascK ds) (M:Nat→AO) (nid:Nat)
  (h0:M 0=.box [I r,.sl 1 1 9 0 ns.length,.sl 2 1 2 0 ds.length]) (h1:M 1=.vec 1 9 false (nrows ns)) (h2:M 2=.vec 1 2 false (prows ds)) (h3:M 3=.box [.bp 0 0]) (h4:M e=.box [I g]) :
  callG seB [I ds.length,.fn c [.bp 3 0,.bp e 0]] M nid=some (I (lowD ds g),[(3,.box [.bp 0 0]),(0,.box [I r,.sl 1 1 9 0 ns.length,.sl 2 1 2 0 ds.length]),(1,.vec 1 9 false (nrows ns)),(2,.vec 1 2 false (prows ds)),(e,.box [I g])]):=by
 have n0:e≠0:=by omega
 have n1:e≠1:=by omega
 have n2:e≠2:=by omega
 have n3:e≠3:=by omega
 have m0:0≠e:=by omega
 have m1:1≠e:=by omega
 have m2:2≠e:=by omega
 have m3:3≠e:=by omega
 have hF:seB [I ds.length,.fn c [.bp 0 0,.bp 4 0]] (scM (r,ns,ds) g)=some (I (lowD ds g),scM (r,ns,ds) g):=by
  rcases hcc with rfl|rfl
  ·exact seB_1 (t:=(r,ns,ds)) ht ha
  ·exact seB_2 (t:=(r,ns,ds)) ht ha
 simp only [scM] at hF
 unfold callG
 have hg:gat M 64 (nmsL [I ds.length,.fn c [.bp 3 0,.bp e 0]]) []=[3,0,1,2,e]:=by
  simp [gat,nmsL,AV.nms,AO.nms,h0,h1,h2,h3,h4,n0,n1,n2,n3,m0,m1,m2,m3]
 simp only [hg]
 rw [if_pos ?cg]
 case cg=>simp [CallG,nmsL,AV.nms,AO.nms,Led,curBL,AV.curB,AO.curB,verOf,notDead,h0,h1,h2,h3,h4,n0,n1,n2,n3,m0,m1,m2,m3]
 simp [renL,AV.ren,AO.ren,posN,canO,nmsL,h0,h1,h2,h3,h4,n0,n1,n2,n3,m0,m1,m2,m3,hF,RetG,getL,AV.nms,AO.nms,updN,nmN,shN,verOf,rng,Led]
theorem callIns {b c v i:Nat} {l:List Dp} {g f:Int} {fl fl2:Bool} (hbc:b≠c) (hi:i≤l.length∧l.length≤1000000) (M:Nat→AO) (nid:Nat) (hb:M b=.vec v 2 fl (prows l)) (hc:M c=.vec 1 2 fl2 [[I g,I f]]) :
  callM false two2 FInsD [.sl b v 2 0 l.length,I i,.sl c 1 2 0 1] M nid=some (.sl nid 1 2 0 (l.length+1),[(nid,.vec 1 2 false (prows (l.take i++(g,f)::l.drop i))),(b,.dead)]):=by
 have hF:=FInsD_at l i g f hi
 have hcb:c≠b:=fun e=>hbc e.symm
 have e1:min i l.length+(l.length - i+1)=l.length+1:=by omega
 simp [callM,giveArg,takeArg,hb,hc,hbc,hcb,hF,List.take_of_length_le,e1]
theorem callDel {b v i j:Nat} {l:List Dp} {fl:Bool} (hi:i≤j∧j≤l.length∧l.length≤1000000) (M:Nat→AO) (nid:Nat) (hb:M b=.vec v 2 fl (prows l)) :
  callM false two2 FDelD [.sl b v 2 0 l.length,I i,I j] M nid=some (.sl nid 1 2 0 (l.length - (j - i)),[(nid,.vec 1 2 false (prows (l.take i++l.drop j))),(b,.dead)]):=by
 have hF:=FDelD_at l i j hi
 have e1:min i l.length+(l.length - j)=l.length - (j - i):=by omega
 simp [callM,giveArg,takeArg,hb,hF,List.take_of_length_le,e1]
def insL (ds:List Dp) (g f:Int):List Dp:=ds.take (lowD ds g)++(g,f)::ds.drop (lowD ds g)
abbrev DpD:=Tb×Int×Int
def oM (t:Tb) (ds:List Dp):List AO:=[.box [I t.1,.sl 1 1 9 0 t.2.1.length,.sl 3 1 2 0 ds.length],.vec 1 9 false (nrows t.2.1),.dead,.vec 1 2 false (prows ds)]
noncomputable def dpS:List AV→List AO→Option (AV×List AO):=specG (ι:={x:DpD // tbOK x.1∧ascK x.1.2.2}) (fun x=>[.bp 0 0,I x.1.2.1,I x.1.2.2]) (fun x=>pMs x.1.1 1 1) (fun x=>.tup []) fun x=>oM x.1.1 (insL x.1.1.2.2 x.1.2.1 x.1.2.2)
theorem dpS_at {t:Tb} {g f:Int} (ht:tbOK t) (ha:ascK t.2.2):dpS [.bp 0 0,I g,I f] (pMs t 1 1)=some (.tup [],oM t (insL t.2.2 g f)):=by
 refine specG_eq (ι:={x:DpD // tbOK x.1∧ascK x.1.2.2}) (A:=fun x=>[.bp 0 0,I x.1.2.1,I x.1.2.2]) (M:=fun x=>pMs x.1.1 1 1) (R:=fun x=>.tup []) (O:=fun x=>oM x.1.1 (insL x.1.1.2.2 x.1.2.1 x.1.2.2)) ⟨(t,g,f),ht,ha⟩ fun j hA hM=>?_
 obtain ⟨⟨t',g',f'⟩,h'⟩:=j
 have e:=pMs_inj hM
 simp only at e
 subst e
 simp only [List.cons.injEq,I,AV.v.injEq,Value.int.injEq,true_and,and_true] at hA
 obtain ⟨rfl,rfl⟩:=hA
 exact ⟨rfl,rfl⟩
theorem insL_len {ds:List Dp} {g f:Int}:(insL ds g f).length=ds.length+1:=by
 have:=@lowD_le ds g
 simp [insL];omega
theorem s135 (X:AX) (hX:XOK Tryz.prog X) (hw:X.W wT) (hse:X.call 188=callG seB) (hin:X.call 190=callM false two2 FInsD):GSound Tryz.prog 135 dpS:=by
 unfold dpS
 refine gsound_spec Tryz.func135 rfl X fun ⟨⟨⟨r,ns,ds⟩,g,f⟩,ht,ha⟩ w0 L E=>⟨by show 3≤27;decide,?_⟩
 simp only at ha
 have hl1:ns.length≤1000000:=ht.2.1
 have hl2:ds.length≤1000000:=ht.2.2
 have hse':=fun M n=>@callSe 189 19 (by decide) (.inl rfl) r ns ds g ht ha M n
 rw [← hse] at hse'
 have hlo:=@lowD_le ds g
 obtain ⟨i,hi⟩:∃ i,i=lowD ds g:=⟨_,rfl⟩
 have hil:insL ds g f=ds.take i++(g,f)::ds.drop i:=by rw [hi];rfl
 have hlen:=@insL_len ds g f
 rw [← hi] at hse' hlo
 have hin':=fun b c hbc M nid=>@callIns b c 1 i ds g f false false hbc ⟨hlo,hl2⟩ M nid
 rw [← hin,← hil] at hin'
 simp only [pMs,oM,hlen]
 show AW ⟨Tryz.prog,X,27,w0,⟨L,E,3⟩⟩ _ _ _
 have hc:Cx.OK ⟨Tryz.prog,X,27,w0,⟨L,E,3⟩⟩:=⟨hX,mixed⟩
 have zS:=jj hse'<|hin'
 refine dF64 ?_
 repeat (intro K hK)
 clear zS
 refine ⟨[],rfl,?_⟩
 simp only [idx]
 refine le_turn (s1:=?tus1) (m1:=?tum1) [(323,3)] [0] [0,1,2,323] ?tua1 ?tub1 ?tuc1 ?tud1 ?tue1 ?tuf1 ?tug1
 case tua1=>first|(simp [keepS];done)|(simp [keepS];rfl)
 case tub1=>first|(simp;done)|(simp;rfl)
 case tuc1=>simp
 case tud1=>simp
 case tue1=>simp
 case tuf1=>simp
 case tug1 =>
  simp [swp,vr]
  exact dle
def delL (ds:List Dp) (g:Int):List Dp:=ds.take (lowD ds g)++ds.drop (lowD ds g+1)
theorem delL_len {ds:List Dp} {g:Int} (h:lowD ds g<ds.length):(delL ds g).length=ds.length - 1:=by
 simp [delL];omega
noncomputable def wdS:List AV→List AO→Option (AV×List AO):=specG (ι:={x:Tb×Int // tbOK x.1∧ascK x.1.2.2∧lowD x.1.2.2 x.2<x.1.2.2.length}) (fun x=>[.bp 0 0,I x.1.2]) (fun x=>pMs x.1.1 1 1) (fun x=>retOf [I (gp x.1.1.2.2 (lowD x.1.1.2.2 x.1.2)).2]) fun x=>oM x.1.1 (delL x.1.1.2.2 x.1.2)
theorem wdS_at {t:Tb} {g:Int} (ht:tbOK t) (ha:ascK t.2.2) (hl:lowD t.2.2 g<t.2.2.length):wdS [.bp 0 0,I g] (pMs t 1 1)=some (I (gp t.2.2 (lowD t.2.2 g)).2,oM t (delL t.2.2 g)):=by
 refine specG_eq (ι:={x:Tb×Int // tbOK x.1∧ascK x.1.2.2∧lowD x.1.2.2 x.2<x.1.2.2.length}) (A:=fun x=>[.bp 0 0,I x.1.2]) (M:=fun x=>pMs x.1.1 1 1) (R:=fun x=>retOf [I (gp x.1.1.2.2 (lowD x.1.1.2.2 x.1.2)).2]) (O:=fun x=>oM x.1.1 (delL x.1.1.2.2 x.1.2)) ⟨(t,g),ht,ha,hl⟩ fun j hA hM=>?_
 obtain ⟨⟨t',g'⟩,h'⟩:=j
 have e:=pMs_inj hM
 simp only at e
 subst e
 simp only [List.cons.injEq,I,AV.v.injEq,Value.int.injEq,true_and,and_true] at hA
 subst hA
 exact ⟨rfl,rfl⟩
theorem s138 (X:AX) (hX:XOK Tryz.prog X) (hw:X.W wT) (hse:X.call 188=callG seB) (hde:X.call 192=callM false two2 FDelD):GSound Tryz.prog 138 wdS:=by
 unfold wdS
 refine gsound_spec Tryz.func138 rfl X fun ⟨⟨⟨r,ns,ds⟩,g⟩,ht,ha,hlo⟩ w0 L E=>⟨by show 2≤34;decide,?_⟩
 simp only at ha hlo
 have hl1:ns.length≤1000000:=ht.2.1
 have hl2:ds.length≤1000000:=ht.2.2
 have hse':=fun M n=>@callSe 191 19 (by decide) (.inr rfl) r ns ds g ht ha M n
 rw [← hse] at hse'
 have hlen:=delL_len hlo
 simp only [pMs,oM,hlen]
 obtain ⟨i,hi⟩:∃ i,i=lowD ds g:=⟨_,rfl⟩
 have hil:delL ds g=ds.take i++ds.drop (i+1):=by rw [hi];rfl
 rw [← hi] at hse' hlo ⊢
 have hde':=fun b M nid=>@callDel b 1 i (i+1) ds false ⟨by omega,by omega,hl2⟩ M nid
 rw [← hde,← hil,show i+1 - i=1 by omega,show ((i+1:Nat):Int)=(i:Int)+1 by omega] at hde'
 have hg:=prows_gi hlo
 have hgE:=prows_gE hlo
 obtain ⟨⟨d1,d2⟩,hm⟩:∃ m,m=gp ds i:=⟨_,rfl⟩
 rw [← hm] at hg hgE ⊢
 simp only at hg hgE ⊢
 have hiI:(i:Int)<(ds.length:Int):=by omega
 show AW ⟨Tryz.prog,X,34,w0,⟨L,E,3⟩⟩ _ _ _
 have hc:Cx.OK ⟨Tryz.prog,X,34,w0,⟨L,E,3⟩⟩:=⟨hX,mixed⟩
 have zS:=jj hse'<|jj hde'<|jj hg<|jj hgE<|jj hlo<|hiI
 refine dF64 ?_
 repeat (intro K hK)
 clear zS
 refine ⟨by simp,_,by simp [aResults,aResult,Tryz.f138];rfl,?_⟩
 simp only [idx]
 refine le_turn (s1:=?tus2) (m1:=?tum2) [(451,3)] [0] [0,1,2,451] ?tua2 ?tub2 ?tuc2 ?tud2 ?tue2 ?tuf2 ?tug2
 case tua2=>first|(simp [keepS];done)|(simp [keepS];rfl)
 case tub2=>first|(simp;done)|(simp;rfl)
 case tuc2=>simp
 case tud2=>simp
 case tue2=>simp
 case tuf2=>simp
 case tug2 =>
  simp [swp,vr]
  exact dle
end Go.AM
namespace Go.AM
open Go Go.Proofs
theorem fnd_none {ns:NdL} {f:Int}:fnd ns f=none↔∀ n∈ns,n.1≠f:=by
 unfold fnd
 split
 ·rename_i h
  simp only [reduceCtorEq,false_iff]
  intro h2
  have:=List.findIdx_getElem (p:=fun n:Nd=>decide (n.1=f)) (w:=h)
  simp at this
  exact h2 _ (List.getElem_mem h) this
 ·rename_i h
  simp only [true_iff]
  intro n hn e
  refine h (List.findIdx_lt_length_of_exists ⟨n,hn,by simpa using e⟩)
def ksE (es:List (List Int×AV)) (l:List Int):Nat→List (List Int×AV)
 | 0=>es
 | k+1=>mset (ksE es l k) [gi l k] (I 0)
theorem ksE_get {es:List (List Int×AV)} {l:List Int} {f:Int}:∀ {n:Nat},mget (ksE es l n) [f]=none↔mget es [f]=none∧∀ k,k<n→gi l k≠f
 | 0=>by simp [ksE]
 | n+1=>by
  simp only [ksE]
  rw [mget_mset]
  by_cases h:f=gi l n
  ·subst h
   simp only [if_true,reduceCtorEq,false_iff,not_and]
   intro _ h2
   exact h2 n (by omega) rfl
  ·rw [if_neg (by simpa using h),ksE_get (n:=n)]
   constructor
   ·rintro ⟨h1,h2⟩
    refine ⟨h1,fun k hk=>?_⟩
    rcases Nat.lt_succ_iff_lt_or_eq.1 hk with h3|rfl
    ·exact h2 k h3
    ·exact fun e=>h e.symm
   ·exact fun ⟨h1,h2⟩=>⟨h1,fun k hk=>h2 k (by omega)⟩
def depF (ds:List Dp):List Int:=ds.map (·.2)
theorem depF_gi {ds:List Dp} {k:Nat} (h:k<ds.length):gi (depF ds) k=(gp ds k).2:=by
 rw [gi_eq (by simpa [depF] using h),gp_eq h];simp [depF]
def usC (ns:NdL) (ds:List Dp) (fs:List Int) (i:Nat):Prop:=frmN (gi fs i)∧(∀ n∈ns,n.1≠gi fs i)∧(∀ k,k<ds.length→(gp ds k).2≠gi fs i)∧∀ j,j<i→gi fs j≠gi fs i
def usB (ns:NdL) (ds:List Dp) (fs:List Int):Bool:=(List.range fs.length).all fun i=>decide (0≤gi fs i∧gi fs i≤4294967295)&&(ns.all fun n=>decide (n.1≠gi fs i))&&((List.range ds.length).all fun k=>decide ((gp ds k).2≠gi fs i))&&(List.range i).all fun j=>decide (gi fs j≠gi fs i)
theorem usB_iff {ns:NdL} {ds:List Dp} {fs:List Int}:usB ns ds fs=true↔∀ i,i<fs.length→usC ns ds fs i:=by
 simp only [usB,usC,frmN,List.all_eq_true,List.mem_range,Bool.and_eq_true,decide_eq_true_eq,and_assoc]
theorem usB_no {ns:NdL} {ds:List Dp} {fs:List Int} {i:Nat} (hi:i<fs.length) (h:¬ usC ns ds fs i):usB ns ds fs=false:=by
 cases hb:usB ns ds fs
 ·rfl
 ·exact absurd (usB_iff.1 hb i hi) h
theorem seen_none {ns:NdL} {ds:List Dp} {fs:List Int} (ha:ascN ns) {i:Nat} {f:Int}:mget (ksE (ksE (idxE ns ns.length) (depF ds) ds.length) fs i) [f]=none↔((∀ n∈ns,n.1≠f)∧∀ k,k<ds.length→(gp ds k).2≠f)∧∀ j,j<i→gi fs j≠f:=by
 have e:mget (idxE ns ns.length) [f]=none↔∀ n∈ns,n.1≠f:=by
  rw [idxE_get ha,← fnd_none]
  cases fnd ns f<;>simp
 rw [ksE_get,ksE_get,e]
 refine and_congr_left fun _=>and_congr_right fun _=>forall_congr' fun k=>?_
 constructor
 ·intro h hk;rw [← depF_gi hk];exact h hk
 ·intro h hk;rw [depF_gi hk];exact h hk
abbrev UsD:=Tb×List Int
set_option maxHeartbeats 4000000 in
theorem s127 (X:AX) (hX:XOK Tryz.prog X) (hw:X.W wT) (hfr:∀ x M n,X.call 126 [I x] M n=some (B (decide (0≤x∧x≤4294967295)),[]))
  (hix:∀ t:Tb,tbOK t→∀ M n,X.call 115 [TbV t] M n=some (.mp n 1,[(n,.map 1 1 (idxE t.2.1 t.2.1.length))])) :
  PSound Tryz.prog 127 (specF (ι:={x:UsD×Nat // tbOK x.1.1∧ascN x.1.1.2.1∧x.1.2.length≤1000}) (fun x=>[TbV x.1.1.1,.rd 1 (irows x.1.1.2),I x.1.2]) fun x=>retOf [B (decide (x.1.1.2.length=x.1.2)&&usB x.1.1.1.2.1 x.1.1.1.2.2 x.1.1.2)]):=by
 refine psound_spec hX mixed Tryz.func127 rfl fun ⟨⟨⟨⟨r,ns,ds⟩,fs⟩,m⟩,ht,ha,hf8⟩ w0 G=>⟨by show 3≤52;decide,rfl,?_⟩
 show AW ⟨Tryz.prog,X,52,w0,.pure G⟩ _ _ _
 have hc:Cx.OK ⟨Tryz.prog,X,52,w0,.pure G⟩:=⟨hX,mixed⟩
 simp only at ha hf8
 have hl1:ns.length≤1000000:=ht.2.1
 have hl2:ds.length≤1000000:=ht.2.2
 have hix':=hix (r,ns,ds) ht
 simp only [TbV] at hix' ⊢
 rcases Decidable.em (fs.length=m) with hm|hm
 ·subst hm
  simp only [decide_true,Bool.true_and]
  have zS:=hix'
  repeat' (first|(apply aw_seq_k;intro K hK)|(refine eM64 ?_)|(refine aw_cond (b:=_) (by exact rfl) (fun h=>?_) (fun h=>?_)<;>(try simp at h))|(refine eB ?_)|(refine hK _ ?_;clear hK)|(clear hK;refine hK _ ?_;clear hK)|(clear hK;clear hK;refine hK _ ?_;clear hK)|(clear hK;clear hK;clear hK;refine hK _ ?_;clear hK))
  all_goals clear zS
  refine aw_loopK (s0:=?lps1) (m0:=?lpm1) (ι:={i:Nat // i≤ds.length}) [1,7,21,22] (fun i=>[(23,I i.1)]) (fun i=>[(112,.map 1 1 (ksE (idxE ns ns.length) (depF ds) i.1))]) (fun i=>ds.length - i.1) ⟨0,by omega⟩ ?lhs1 ?lhm1 ?_ ?_
  case lhs1=>first|(simp [keepS];done)|(simp [keepS];rfl)
  case lhm1=>first|rfl|(simp;done)|(simp;rfl)
  ·simp only [ksE]
   exact dle
  ·rintro ⟨i,hi⟩
   simp only
   rcases Decidable.em (i<ds.length) with hil|hil
   ·have hilI:(i:Int)<(ds.length:Int):=by omega
    have hg:=prows_gi hil
    have hgE:=prows_gE hil
    have hnx:ksE (idxE ns ns.length) (depF ds) (i+1)=mset (ksE (idxE ns ns.length) (depF ds) i) [(gp ds i).2] (I 0):=by rw [← depF_gi hil];rfl
    obtain ⟨S,hS⟩:∃ S,S=ksE (idxE ns ns.length) (depF ds) i:=⟨_,rfl⟩
    rw [← hS] at hnx ⊢
    obtain ⟨⟨a,b⟩,hm⟩:∃ m,m=gp ds i:=⟨_,rfl⟩
    rw [← hm] at hg hgE hnx
    simp only at hg hgE hnx
    have zS:=jj hilI<|jj hg<|hgE
    repeat' (first|(apply aw_seq_k;intro K hK)|(refine eM64 ?_)|(refine aw_cond (b:=_) (by exact rfl) (fun h=>?_) (fun h=>?_)<;>(try simp at h))|(refine eB ?_)|(refine hK _ ?_;clear hK)|(clear hK;refine hK _ ?_;clear hK)|(clear hK;clear hK;refine hK _ ?_;clear hK)|(clear hK;clear hK;clear hK;refine hK _ ?_;clear hK))
    all_goals clear zS
    refine ⟨i+1,?_,by omega,by omega⟩
    simp only [hnx]
    refine le_turn (s1:=?tus2) (m1:=?tum2) [] [23,1,7,21,22] [0,112] ?tua2 ?tub2 ?tuc2 ?tud2 ?tue2 ?tuf2 ?tug2
    case tua2=>first|(simp [keepS];done)|(simp [keepS];rfl)
    case tub2=>first|(simp;done)|(simp;rfl)
    case tuc2=>simp
    case tud2=>simp
    case tue2=>simp
    case tuf2=>simp
    case tug2 =>
     simp [swp,vr]
     exact dle
   ·obtain rfl:i=ds.length:=by omega
    repeat' (first|(apply aw_seq_k;intro K hK)|(refine eM64o ?_)|(refine aw_cond (b:=_) (by exact rfl) (fun h=>?_) (fun h=>?_)<;>(try simp at h))|(refine eB ?_)|(refine hK _ ?_;clear hK)|(clear hK;refine hK _ ?_;clear hK)|(clear hK;clear hK;refine hK _ ?_;clear hK)|(clear hK;clear hK;clear hK;refine hK _ ?_;clear hK))
    refine aw_loopK (s0:=?lps3) (m0:=?lpm3) (ι:={i:Nat // i≤fs.length∧∀ j,j<i→usC ns ds fs j}) [7,31,32] (fun i=>[(33,I i.1)]) (fun i=>[(112,.map 1 1 (ksE (ksE (idxE ns ns.length) (depF ds) ds.length) fs i.1))]) (fun i=>fs.length - i.1) ⟨0,by omega,by omega⟩ ?lhs3 ?lhm3 ?_ ?_
    case lhs3=>first|(simp [keepS];done)|(simp [keepS];rfl)
    case lhm3=>first|rfl|(simp;done)|(simp;rfl)
    ·simp only [ksE]
     exact dle
    ·rintro ⟨i,hi,hinv⟩
     simp only
     rcases Decidable.em (i<fs.length) with hil|hil
     ·have hilI:(i:Int)<(fs.length:Int):=by omega
      have hg:=irows_gi hil
      have hgE:=gE' hil
      have hno:=@usB_no ns ds fs i hil
      have hsn:=@seen_none ns ds fs ha i (gi fs i)
      have hus:usC ns ds fs i↔frmN (gi fs i)∧((∀ n∈ns,n.1≠gi fs i)∧∀ k,k<ds.length→(gp ds k).2≠gi fs i)∧∀ j,j<i→gi fs j≠gi fs i:=by unfold usC;simp only [and_assoc]
      rw [← hsn] at hus
      have hnx:ksE (ksE (idxE ns ns.length) (depF ds) ds.length) fs (i+1)=mset (ksE (ksE (idxE ns ns.length) (depF ds) ds.length) fs i) [gi fs i] (I 0):=rfl
      obtain ⟨S,hS⟩:∃ S,S=ksE (ksE (idxE ns ns.length) (depF ds) ds.length) fs i:=⟨_,rfl⟩
      rw [← hS] at hnx hus ⊢
      unfold frmN at hus
      obtain ⟨b,hb⟩:∃ b,b=gi fs i:=⟨_,rfl⟩
      rw [← hb] at hg hgE hnx hus
      have hfr':=hfr b
      clear hsn hS
      cases hget:mget S [b] with
      | some v =>
       have e:=hno (fun h=>by have:=(hus.1 h).2;rw [hget] at this;simp at this)
       have zS:=jj hilI<|jj hg<|jj hgE<|hget
       repeat' (first|(apply aw_seq_k;intro K hK)|(refine eM64 ?_)|(refine aw_cond (b:=_) (by exact rfl) (fun h=>?_) (fun h=>?_)<;>(try simp at h))|(refine eB ?_)|(refine hK _ ?_;clear hK)|(clear hK;refine hK _ ?_;clear hK)|(clear hK;clear hK;refine hK _ ?_;clear hK)|(clear hK;clear hK;clear hK;refine hK _ ?_;clear hK))
       all_goals clear zS
       refine ⟨by simp,?_⟩
       simp [leaves_iff,Tryz.f127,e]
       try exact dt
      | none =>
       rcases Decidable.em (0≤b∧b≤4294967295) with h1|h1
       ·rw [decide_eq_true h1] at hfr'
        have hu:=hus.2 ⟨h1,hget⟩
        have zS:=jj hilI<|jj hg<|jj hgE<|jj hget<|hfr'
        repeat' (first|(apply aw_seq_k;intro K hK)|(refine eM64 ?_)|(refine aw_cond (b:=_) (by exact rfl) (fun h=>?_) (fun h=>?_)<;>(try simp at h))|(refine eB ?_)|(refine hK _ ?_;clear hK)|(clear hK;refine hK _ ?_;clear hK)|(clear hK;clear hK;refine hK _ ?_;clear hK)|(clear hK;clear hK;clear hK;refine hK _ ?_;clear hK))
        all_goals clear zS
        refine ⟨i+1,?_,⟨by omega,fun j hj=>?_⟩,by omega⟩
        ·simp only [hnx]
         refine le_turn (s1:=?tus4) (m1:=?tum4) [] [33,1,7,31,32] [0,112] ?tua4 ?tub4 ?tuc4 ?tud4 ?tue4 ?tuf4 ?tug4
         case tua4=>first|(simp [keepS];done)|(simp [keepS];rfl)
         case tub4=>first|(simp;done)|(simp;rfl)
         case tuc4=>simp
         case tud4=>simp
         case tue4=>simp
         case tuf4=>simp
         case tug4 =>
          simp [swp,vr]
          exact dle
        ·rcases Nat.lt_succ_iff_lt_or_eq.1 hj with h5|rfl
         ·exact hinv j h5
         ·exact hu
       ·rw [decide_eq_false h1] at hfr'
        have e:=hno (fun h=>h1 (hus.1 h).1)
        have zS:=jj hilI<|jj hg<|jj hgE<|jj hget<|hfr'
        repeat' (first|(apply aw_seq_k;intro K hK)|(refine eM64 ?_)|(refine aw_cond (b:=_) (by exact rfl) (fun h=>?_) (fun h=>?_)<;>(try simp at h))|(refine eB ?_)|(refine hK _ ?_;clear hK)|(clear hK;refine hK _ ?_;clear hK)|(clear hK;clear hK;refine hK _ ?_;clear hK)|(clear hK;clear hK;clear hK;refine hK _ ?_;clear hK))
        all_goals clear zS
        refine ⟨by simp,?_⟩
        simp [leaves_iff,Tryz.f127,e]
        try exact dt
     ·obtain rfl:i=fs.length:=by omega
      have e:=usB_iff.2 hinv
      repeat' (first|(apply aw_seq_k;intro K hK)|(refine eM64o ?_)|(refine aw_cond (b:=_) (by exact rfl) (fun h=>?_) (fun h=>?_)<;>(try simp at h))|(refine eB ?_)|(refine hK _ ?_;clear hK)|(clear hK;refine hK _ ?_;clear hK)|(clear hK;clear hK;refine hK _ ?_;clear hK)|(clear hK;clear hK;clear hK;refine hK _ ?_;clear hK))
      refine ⟨by simp,?_⟩
      simp [leaves_iff,Tryz.f127,e]
      try exact dt
 ·have hmI:¬ (fs.length:Int)=(m:Int):=by omega
  have zS:=jj hm<|hmI
  refine dM64 ?_
  repeat (intro K hK)
  clear zS
  refine ⟨by simp,?_⟩
  simp [leaves_iff,Tryz.f127,hm]
  try exact dt
end Go.AM
namespace Go.AM
open Go Go.Proofs
theorem decR_tw {g:Nat} (hg:g≤4294967295):decR (g*256+4)=((4,(g:Int),false,false,false,false),0):=by
 have hb:∀ j,3≤j→j<8→(g*256+4).testBit j=false:=fun j h1 h2=>by
  rw [Nat.testBit_eq_decide_div_mod_eq]
  rcases (by omega:j=3∨j=4∨j=5∨j=6∨j=7) with rfl|rfl|rfl|rfl|rfl
  all_goals exact decide_eq_false (by omega)
 have hp:prs (g*256+4)=(4,(g:Int),false,false,false,false):=by
  unfold prs
  rw [hb 3 (by omega) (by omega),hb 4 (by omega) (by omega),hb 5 (by omega) (by omega),hb 6 (by omega) (by omega)]
  rw [show (g*256+4)%8=4 by omega,show (g*256+4)/256%4294967296=g by omega]
  rfl
 have he:encR (4,(g:Int),false,false,false,false)=(((g*256+4:Nat):Int),0):=by
  rw [encR_z (by simp only;omega) (by unfold badF;simp only;omega) (by rfl)]
  unfold encW fb
  simp
  omega
 rw [decR_z (by rw [hp];exact he),hp]
theorem tabW_tw {g:Nat} (hg:g≤4294967295):tabW (g*256+4)=some (g:Int):=by unfold tabW;rw [decR_tw hg];rfl
theorem okWb_tw {g l:Nat} (hg:g≤4294967295) (hl:0<l):okWb l (g*256+4)=true:=by
 unfold okWb;rw [decR_tw hg]
 simp [suitB,hl]
theorem decR_0:decR 0=(zE,0):=by rfl
theorem wdZ (adm:Int→Bool):WdZ (WD adm) where
 ok:=fun l=>by show okWb l 0=true;unfold okWb;rw [decR_0];rfl
 tab:=by show tabW 0=none;unfold tabW;rw [decR_0];rfl
theorem kind0 {l w:Nat} (h:okWb l w=true):(decR w).1.1=0↔w=0:=by
 constructor
 ·intro h0
  unfold okWb at h
  simp only [Bool.and_eq_true,decide_eq_true_eq] at h
  by_cases he:encR (prs w)=((w:Int),0)
  ·rw [decR_z he] at h0
   simp only at h0
   by_cases hb:badF (prs w)
   ·rw [encR_f (by rw [h0];decide) hb] at he;simp at he
   ·cases hf:frmE (prs w) with
    | false=>rw [encR_m (by rw [h0];decide) hb hf] at he;simp at he
    | true =>
     rw [encR_z (by rw [h0];decide) hb hf] at he
     simp only [Prod.mk.injEq,and_true] at he
     unfold frmE noFl at hf
     rw [if_neg (by rw [h0];decide),if_neg (by rw [h0];decide),if_pos h0] at hf
     simp only [Bool.and_eq_true,decide_eq_true_eq,Bool.not_eq_true'] at hf
     unfold encW fb at he
     rw [h0,hf.1,hf.2.1,hf.2.2.1,hf.2.2.2.1,hf.2.2.2.2] at he
     simp at he
     omega
  ·rw [decR_n he] at h
   simp at h
 ·rintro rfl
  rw [decR_0];rfl
section
variable {M:Mm} {root:Int} {p:Nat}
theorem dgt2 (hp:p<512):dgt p 2=p/64:=by unfold dgt;simp;omega
theorem dgt1:dgt p 1=p/8%8:=by unfold dgt;simp
theorem dgt0:dgt p 0=p%8:=by unfold dgt;simp
theorem wlk_at (hV:VM WA M root) (hp:p<512) {f:Int} {l w:Nat} (h:wlk M root p=(f,l,w)) :
  l≤2∧(2 - l,p/8^(l+1))∈Pos∧frP WA M root (2 - l) (p/8^(l+1))=some f∧w=wM M f (dgt p l)∧tabW w=none∧okWb l w=true:=by
 have hok:∀ d q,(d,q)∈Pos→∀ f,frP WA M root d q=some f→∀ i,i<8→okWb (2 - d) (wM M f i)=true:=fun d q hx f hf i hi=>by
  obtain ⟨ws,h1,_,h3⟩:=hV.nd d q hx f hf
  unfold wM;rw [h1];exact h3 i hi
 have f1:frP WA M root 1 (p/64)=tabW (wM M root (p/64)):=by
  simp only [frP,Option.bind_some]
  rw [show p/64%8=p/64 by omega]
  rfl
 have f2:frP WA M root 2 (p/8)=(frP WA M root 1 (p/64)).bind fun f=>tabW (wM M f (p/8%8)):=by
  show (frP WA M root 1 (p/8/8)).bind _=_
  rw [show p/8/8=p/64 by omega]
  rfl
 unfold wlk at h
 cases h2:frP WA M root 2 (p/8) with
 | some g =>
  rw [h2] at h
  simp only [Prod.mk.injEq] at h
  obtain ⟨rfl,rfl,rfl⟩:=h
  have hx:=Pos2 (q:=p/8) (by omega)
  have ho:=hok 2 _ hx _ h2 (p%8) (by omega)
  refine ⟨by omega,by simpa using hx,by simpa using h2,by rw [dgt0],?_,ho⟩
  exact (WD_ok fun _=>true).flat _ ho
 | none =>
  rw [h2] at h f2
  simp only at h
  cases h1:frP WA M root 1 (p/64) with
  | some g =>
   rw [h1] at h f2
   simp only [Prod.mk.injEq] at h
   obtain ⟨rfl,rfl,rfl⟩:=h
   have hx:=Pos1 (q:=p/64) (by omega)
   have ho:=hok 1 _ hx _ h1 (p/8%8) (by omega)
   exact ⟨by omega,by simpa using hx,by simpa using h1,by rw [dgt1],f2.symm,ho⟩
  | none =>
   rw [h1] at h f1
   simp only [Prod.mk.injEq] at h
   obtain ⟨rfl,rfl,rfl⟩:=h
   have ho:=hok 0 0 Pos0 _ rfl (p/64) (by omega)
   refine ⟨by omega,by simp;rw [show p/512=0 by omega];exact Pos0,by simp [frP],by rw [dgt2 hp],f1.symm,ho⟩
theorem wlk_of (hp:p<512) {f:Int} {l:Nat} (hl:l≤2) (h:frP WA M root (2 - l) (p/8^(l+1))=some f) (h2:tabW (wM M f (dgt p l))=none∨l=0):wlk M root p=(f,l,wM M f (dgt p l)):=by
 have f2:frP WA M root 2 (p/8)=(frP WA M root 1 (p/64)).bind fun f=>tabW (wM M f (p/8%8)):=by
  show (frP WA M root 1 (p/8/8)).bind _=_
  rw [show p/8/8=p/64 by omega]
  rfl
 have f1:frP WA M root 1 (p/64)=tabW (wM M root (p/64)):=by
  simp only [frP,Option.bind_some]
  rw [show p/64%8=p/64 by omega]
  rfl
 unfold wlk
 rcases (by omega:l=0∨l=1∨l=2) with rfl|rfl|rfl
 ·simp at h
  rw [h];simp [dgt0]
 ·simp at h
  rw [dgt1] at h2
  have h2:=h2.resolve_right (by omega)
  rw [h,Option.bind_some,h2] at f2
  rw [f2,h];simp [dgt1]
 ·simp [frP] at h
  subst h
  rw [dgt2 hp] at h2
  have h2:=h2.resolve_right (by omega)
  rw [h2] at f1
  rw [f1] at f2
  rw [f2,f1];simp [dgt2 hp]
end
theorem Mof_ext {a b:Mm} (h:∀ g,a g=b g):a=b:=funext h
theorem Pv.grow {r:Int} {ns:NdL} {ds:List Dp} (h:Pv (r,ns,ds)) (ht:tbOK (r,ns,ds)) {p:Nat} (hp:p<512) {g:Nat} (hg:g≤4294967295) (hn:∀ n∈ns,n.1≠(g:Int)) {f:Int} {l w:Nat} (hw:wlk (Mof ns) r p=(f,l+1,w)) (hlen:ns.length<1000000) :
  Pv (r,stD r ds p ns g,ds)∧tbOK (r,stD r ds p ns g,ds)∧Mof (stD r ds p ns g)=updM1 (updW (Mof ns) f (dgt p (l+1)) (g*256+4)) g (some zs8)∧wlk (Mof (stD r ds p ns g)) r p=((g:Int),l,0)∧(stD r ds p ns g).length=ns.length+1∧∀ n∈stD r ds p ns g,n.1=g∨∃ m∈ns,n.1=m.1:=by
 obtain ⟨hl2,hx,hfp,hwm,htn,hok⟩:=wlk_at h.vm hp hw
 simp only at hfp hwm
 have hwk:=h.walk hp
 simp only at hwk
 have hfn:=hwk.2.1
 have hlv:=hwk.2.2
 rw [hw] at hfn hlv
 simp only at hfn hlv
 have hnl:(lsT (r,ns,ds) p).1<ns.length:=fnd_lt hfn
 have hst:stD r ds p ns g=insK (setN ns (lsT (r,ns,ds) p).1 (dgt p (l+1)) (g*256+4)) ((g:Int),zs8):=by
  unfold stD
  simp only [hlv,Int.toNat_natCast]
 have hsa:=setN_asc h.asc (i:=dgt p (l+1)) (w:=g*256+4) hnl
 have hsf:=setN_fr (i:=dgt p (l+1)) (w:=g*256+4) hnl hn
 have hM:Mof (stD r ds p ns g)=updM1 (updW (Mof ns) f (dgt p (l+1)) (g*256+4)) g (some zs8):=by
  rw [hst]
  refine Mof_ext fun x=>?_
  rw [Mof_ins hsa hsf,show Mof (setN ns (lsT (r,ns,ds) p).1 (dgt p (l+1)) (g*256+4))=updW (Mof ns) f (dgt p (l+1)) (g*256+4) from Mof_ext (Mof_set h.asc hfn)]
 have hMg:Mof ns (g:Int)=none:=(Mof_none h.asc).2 hn
 have hd8:=dgt_lt p (l+1)
 have hdl:2 - (l+1)<2:=by omega
 have hgr:=h.vm.grow (wdZ fun _=>true) hx hdl hfp (i:=dgt p (l+1)) (w:=g*256+4) hd8 (by rw [← hwm];exact htn) hMg (tabW_tw hg) (by show okWb (2 - (2 - (l+1))) _=true;exact okWb_tw hg (by omega))
 simp only at hgr
 rw [← hM] at hgr
 have hql:p/8^(l+1+1)*8+dgt p (l+1)=p/8^(l+1):=by
  unfold dgt
  rw [Nat.pow_succ,← Nat.div_div_eq_div_mul]
  omega
 have hfg:=hgr.2 (2 - l) (p/8^(l+1)) (by have:=Pos_dn hx hdl hd8;rw [hql] at this;rwa [show 2 - (l+1)+1=2 - l by omega] at this)
 rw [if_pos ⟨by omega,hql.symm⟩] at hfg
 have hMn:Mof (stD r ds p ns g) g=some zs8:=by rw [hM];simp [updM1]
 have hw0:∀ i,wM (Mof (stD r ds p ns g)) g i=0:=fun i=>by unfold wM;rw [hMn];exact zs8_getD i
 refine ⟨⟨by show ascN (stD r ds p ns g);rw [hst];exact insK_asc hsa hsf,hgr.1⟩,⟨?_,?_,ht.2.2⟩,hM,?_,?_,?_⟩
 ·intro x hx
  simp only at hx
  rw [hst] at hx
  rcases mem_insK.1 hx with e|hx
  ·rw [e];exact ⟨rfl,fun w hw=>by simp [zs8] at hw;omega⟩
  ·exact setN_ok ht.1 (by omega) hnl x hx
 ·show (stD r ds p ns g).length≤1000000
  rw [hst,insK_len,setN_len];omega
 ·have:=wlk_of (M:=Mof (stD r ds p ns g)) hp (l:=l) (by omega) hfg (.inl (by rw [hw0];exact (wdZ fun _=>true).tab))
  rw [this,hw0]
 ·rw [hst,insK_len,setN_len]
 ·intro n hn2
  rw [hst] at hn2
  rcases mem_insK.1 hn2 with e|hx
  ·exact .inl (by rw [e])
  ·refine .inr ?_
   rcases List.mem_or_eq_of_mem_set hx with h1|h1
   ·exact ⟨n,h1,rfl⟩
   ·exact ⟨_,gn_mem hnl,by rw [h1];rfl⟩
theorem deepL {r:Int} {ns:NdL} {ds:List Dp} (h:Pv (r,ns,ds)) (ht:tbOK (r,ns,ds)) {p:Nat} (hp:p<512) {fs:List Int} (hu:usB ns ds fs=true) (hlen:ns.length≤999000) {f:Int} {l w:Nat} (hw:wlk (Mof ns) r p=(f,l,w)):∀ i,i≤fs.length→i≤l →
  Pv (r,dpN r ds p ns (fs.take i),ds)∧tbOK (r,dpN r ds p ns (fs.take i),ds)∧(∃ f' w',wlk (Mof (dpN r ds p ns (fs.take i))) r p=(f',l - i,w')∧(0<i→w'=0))∧(dpN r ds p ns (fs.take i)).length=ns.length+i∧∀ n∈dpN r ds p ns (fs.take i),(∃ m∈ns,n.1=m.1)∨∃ j,j<i∧n.1=gi fs j
 | 0,_,_=>⟨by rw [dpN_0];exact h,by rw [dpN_0];exact ht,⟨f,w,by rw [dpN_0];exact hw,by omega⟩,by rw [dpN_0];rfl,fun n hn=>.inl ⟨n,by rw [dpN_0] at hn;exact hn,rfl⟩⟩
 | i+1,hi,hil=>by
  have hl2:=(wlk_at h.vm hp hw).1
  obtain ⟨h1,h2,⟨f',w',h3,_⟩,h4,h5⟩:=deepL h ht hp hu hlen hw i (by omega) (by omega)
  obtain ⟨⟨g0,g1⟩,u2,u3,u4⟩:=usB_iff.1 hu i (by omega)
  obtain ⟨g,hg⟩:=Int.eq_ofNat_of_zero_le g0
  rw [dpN_s (by omega)]
  rw [hg] at g1 u2 u3 u4 ⊢
  obtain ⟨L,hL⟩:∃ L,l - i=L+1:=⟨l - i - 1,by omega⟩
  rw [hL] at h3
  have hnew:∀ n∈dpN r ds p ns (fs.take i),n.1≠(g:Int):=fun n hn e=>by
   rcases h5 n hn with ⟨m,hm,k⟩|⟨j,hj,k⟩
   ·exact u2 m hm (by rw [← k];exact e)
   ·exact u4 j hj (by rw [← k];exact e)
  obtain ⟨k1,k2,_,k4,k5,k6⟩:=h1.grow h2 hp (g:=g) (by omega) hnew h3 (by omega)
  refine ⟨k1,k2,⟨_,_,by rw [show l - (i+1)=L by omega];exact k4,fun _=>rfl⟩,by rw [k5,h4];omega,fun n hn=>?_⟩
  rcases k6 n hn with e|⟨m,hm,e⟩
  ·exact .inr ⟨i,by omega,by rw [e,hg]⟩
  ·rcases h5 m hm with ⟨m2,hm2,k⟩|⟨j,hj,k⟩
   ·exact .inl ⟨m2,hm2,by rw [e,k]⟩
   ·exact .inr ⟨j,by omega,by rw [e,k]⟩
theorem deep_ok {r:Int} {ns:NdL} {ds:List Dp} (h:Pv (r,ns,ds)) (ht:tbOK (r,ns,ds)) {p:Nat} (hp:p<512) {fs:List Int} (hu:usB ns ds fs=true) (hlen:ns.length≤999000) {f:Int} {l w:Nat} (hw:wlk (Mof ns) r p=(f,l,w)) (hf8:fs.length≤1000) (hle:fs.length≤l):dpOK r ds p ns fs:=by
 refine ⟨⟨hp,hf8,by omega,ht.2.2⟩,fun i hi=>?_⟩
 obtain ⟨h1,h2,_,h4,h5⟩:=deepL h ht hp hu hlen hw i (by omega) (by omega)
 obtain ⟨⟨g0,g1⟩,u2,u3,u4⟩:=usB_iff.1 hu i hi
 refine ⟨h1.pto h2 hp,fun n hn e=>?_,g0,g1⟩
 rcases h5 n hn with ⟨m,hm,k⟩|⟨j,hj,k⟩
 ·exact u2 m hm (by rw [← k];exact e)
 ·exact u4 j hj (by rw [← k];exact e)
end Go.AM
namespace Go.AM
open Go Go.Proofs
abbrev D1D:=Tb×Nat×Nat
noncomputable def deS2:List AV→List AO→Option (AV×List AO):=specG (ι:={x:D1D // dpC x.1.1 x.1.2.2 x.2.1 x.1.2.1 x.2.2}) (fun x=>[.bp 0 0,I x.1.2.1,.sl 3 1 1 0 1]) (fun x=>pMs x.1.1 1 1++[.vec 1 1 false [[I x.1.2.2]]]) (fun x=>.tup []) fun x=>pMs (x.1.1.1,stD x.1.1.1 x.1.1.2.2 x.1.2.1 x.1.1.2.1 x.1.2.2,x.1.1.2.2) 2 1++[.vec 1 1 false [[I x.1.2.2]]]
theorem deS2_at {t:Tb} {p f:Nat} (h:dpC t.1 t.2.2 p t.2.1 f):deS2 [.bp 0 0,I p,.sl 3 1 1 0 1] (pMs t 1 1++[.vec 1 1 false [[I f]]])=some (.tup [],pMs (t.1,stD t.1 t.2.2 p t.2.1 f,t.2.2) 2 1++[.vec 1 1 false [[I f]]]):=by
 refine specG_eq (ι:={x:D1D // dpC x.1.1 x.1.2.2 x.2.1 x.1.2.1 x.2.2}) (A:=fun x=>[.bp 0 0,I x.1.2.1,.sl 3 1 1 0 1]) (M:=fun x=>pMs x.1.1 1 1++[.vec 1 1 false [[I x.1.2.2]]]) (R:=fun x=>.tup []) (O:=fun x=>pMs (x.1.1.1,stD x.1.1.1 x.1.1.2.2 x.1.2.1 x.1.1.2.1 x.1.2.2,x.1.1.2.2) 2 1++[.vec 1 1 false [[I x.1.2.2]]]) ⟨(t,p,f),h⟩ fun j hA hM=>?_
 obtain ⟨⟨t',p',f'⟩,h'⟩:=j
 obtain ⟨e,e2⟩:=List.append_inj' hM rfl
 have e:=pMs_inj e
 simp only at e
 subst e
 simp only [List.cons.injEq,I,AV.v.injEq,Value.int.injEq,true_and,and_true,AO.vec.injEq] at hA e2
 have e1:p'=p:=by omega
 have e3:f'=f:=by omega
 subst e1 e3
 exact ⟨rfl,rfl⟩
set_option maxHeartbeats 4000000 in
theorem s129_1 (X:AX) (hX:XOK Tryz.prog X) (hw:X.W wT) (hla:OwnR X 110 (fun t x=>0≤x∧ptO t x.toNat) fun t x=>stV (lsT t x.toNat)) (hdg:∀ (p l:Nat),p<512→l≤2→∀ M n,X.call 139 [I p,I l] M n=some (I (dgt p l),[]))
  (hen:∀ f:Nat,f≤4294967295→∀ M n,X.call 143 [.agg [I 4,I f,B false,B false,B false,B false]] M n=some (.tup [U ((f*256+4:Nat)),I 0],[])) (had:X.call 186=callG adS):GSound Tryz.prog 129 deS2:=by
 unfold deS2
 refine gsound_spec Tryz.func129 rfl X fun ⟨⟨⟨r,ns,ds⟩,p,f⟩,hpt,hnf,hf0,hf1⟩ w0 L E=>⟨by show 3≤46;decide,?_⟩
 simp only at hpt hnf hf0 hf1
 have hp:p<512:=hpt.2.2.1
 have hl1:ns.length≤1000000:=hpt.1.2.1
 have hl2:ds.length≤1000000:=hpt.1.2.2
 simp only [pMs]
 have hen':=hen f (by omega)
 have hla':=hla r ns ds p ⟨by omega,hpt⟩
 obtain ⟨hlt1,hlt2⟩:(lsT (r,ns,ds) p).1<ns.length∧(lsT (r,ns,ds) p).2.1≤2:=by
  obtain ⟨_,_,_,⟨rt,hrt⟩,_⟩:=hpt
  exact lst_lt (by unfold rtN;rw [hrt];exact fnd_lt hrt)
 have ht:=hpt.1
 have ha:=hpt.2.1
 have hds:stD r ds p ns f=insK (setN ns (lsT (r,ns,ds) p).1 (dgt p (lsT (r,ns,ds) p).2.1) (f*256+4)) ((f:Int),zs8):=by unfold stD;rw [Int.toNat_natCast]
 obtain ⟨⟨a,b,c⟩,hS⟩:∃ S,S=lsT (r,ns,ds) p:=⟨_,rfl⟩
 simp only [Int.toNat_natCast] at hla'
 rw [← hS] at hla' hlt1 hlt2 hds
 simp only at hla' hlt1 hlt2 hds
 have hdg':=hdg p b hp hlt2
 have hdl:=dgt_lt p b
 have haN:(a:Int)<(ns.length:Int):=by omega
 have hgn:=nrows_gi hlt1
 have hgnE:=nrows_gE hlt1
 have h8:(gn ns a).2.length=8:=(ht.1 _ (gn_mem hlt1)).1
 obtain ⟨w,hwd⟩:∃ w,w=f*256+4:=⟨_,rfl⟩
 rw [← hwd] at hen' hds
 have hset:=@nrows_setN ns a (dgt p b) w hlt1
 have hwl:(wcs (gn ns a).2).length=8:=by simp [h8]
 have hw64:w<2^64:=by omega
 obtain ⟨NT,hNT⟩:∃ NT,NT=setN ns a (dgt p b) w:=⟨_,rfl⟩
 have hNl2:NT.length=ns.length:=by rw [hNT];simp
 have ht2:tbOK (r,NT,ds):=⟨by rw [hNT];exact setN_ok ht.1 hw64 hlt1,by show NT.length≤1000000;omega,hl2⟩
 have ha2:ascN NT:=by rw [hNT];exact setN_asc ha hlt1
 have hn2:∀ n∈NT,n.1≠(f:Int):=by rw [hNT];exact setN_fr hlt1 hnf
 have hca:=fun M n=>@callAd 0 1 2 (by decide) (by decide) (by decide) r NT ds f ht2 ha2 hn2 (by omega) 0 0 M n
 rw [← had] at hca
 simp only [hNl2,Nat.zero_add] at hca
 rw [← hNT] at hset hds
 obtain ⟨⟨fr,ws⟩,hm⟩:∃ m,m=gn ns a:=⟨_,rfl⟩
 rw [← hm] at hgn hgnE hwl hset
 simp only at hgn hgnE hwl hset
 obtain ⟨cs,hcs⟩:∃ cs,cs=wcs ws:=⟨_,rfl⟩
 rw [← hcs] at hgn hgnE hwl hset
 obtain ⟨dg,hdg0⟩:∃ dg,dg=dgt p b:=⟨_,rfl⟩
 rw [← hdg0] at hdl hdg' hset
 have hdI:(dg:Int)<8:=by omega
 clear hcs hm h8 hS
 have hs1:∀ w:Int,(I fr::cs).set (1+dg) (AV.v (.int .u64 w))=I fr::cs.set dg (AV.v (.int .u64 w)):=fun w=>by rw [Nat.add_comm];rfl
 have hil2:=@insK_len _ ((f:Int),zs8) NT
 clear hwd
 simp only [stV,srow,U] at hla' hset hen'
 simp only [hds,hil2,hNl2]
 show AW ⟨Tryz.prog,X,46,w0,⟨L,E,4⟩⟩ _ _ _
 have hc:Cx.OK ⟨Tryz.prog,X,46,w0,⟨L,E,4⟩⟩:=⟨hX,mixed⟩
 repeat' (first|(apply aw_seq_k;intro K hK)|(refine eM64o ?_)|(refine aw_cond (b:=_) (by exact rfl) (fun h=>?_) (fun h=>?_)<;>(try simp at h))|(refine eB ?_)|(refine hK _ ?_;clear hK)|(clear hK;refine hK _ ?_;clear hK)|(clear hK;clear hK;refine hK _ ?_;clear hK)|(clear hK;clear hK;clear hK;refine hK _ ?_;clear hK))
 refine aw_rounds 2 (aw_round ?_)
 have zS:=jj hla'<|jj hen'<|jj hdg'<|jj hlt1<|jj haN<|jj hgn<|jj hgnE<|jj hwl<|jj hdl<|jj hdI<|jj hset<|jj hs1<|hca
 repeat' (first|(apply aw_seq_k;intro K hK)|(refine eF64 ?_)|(refine aw_cond (b:=_) (by exact rfl) (fun h=>?_) (fun h=>?_)<;>(try simp at h))|(refine eB ?_)|(refine hK _ ?_;clear hK)|(clear hK;refine hK _ ?_;clear hK)|(clear hK;clear hK;refine hK _ ?_;clear hK)|(clear hK;clear hK;clear hK;refine hK _ ?_;clear hK))
 all_goals clear zS
 refine ⟨[],rfl,?_⟩
 simp only [idx]
 exact dle
noncomputable def deB:List AV→List AO→Option (AV×List AO):=orG deS deS2
end Go.AM
set_option maxHeartbeats 8000000
namespace Go.AM
open Go Go.Proofs
set_option maxRecDepth 4000 in
theorem callDe {a b c:Nat} (hab:a≠b) (hac:a≠c) (hbc:b≠c) {r:Int} {ns:NdL} {ds:List Dp} {p:Nat} {fs:List Int} (h:dpOK r ds p ns fs) {v v2:Nat} (M:Nat→AO) (nid:Nat)
  (h0:M a=.box [I r,.sl b (v+1) 9 0 ns.length,.sl c (v2+1) 2 0 ds.length]) (h1:M b=.vec (v+1) 9 false (nrows ns)) (h2:M c=.vec (v2+1) 2 false (prows ds)) :
  callG deB [.bp a 0,I p,.rd 1 (irows fs)] M nid=some (.tup [],[(a,.box [I r,.sl b (fs.length+v+1) 9 0 (dpN r ds p ns fs).length,.sl c (v2+1) 2 0 ds.length]),(b,.vec (fs.length+v+1) 9 false (nrows (dpN r ds p ns fs))),(c,.vec (v2+1) 2 false (prows ds))]):=by
 have hF:deB _ _=_:=orG_1 (deS_at (t:=(r,ns,ds)) h)
 simp only [pMs,dM] at hF
 unfold callG
 have hba:b≠a:=fun e=>hab e.symm
 have hca:c≠a:=fun e=>hac e.symm
 have hcb:c≠b:=fun e=>hbc e.symm
 have hg:gat M 64 (nmsL [.bp a 0,I p,.rd 1 (irows fs)]) []=[a,b,c]:=by
  simp [gat,nmsL,AV.nms,AO.nms,h0,h1,h2,hab,hac,hbc,hba,hca,hcb]
 simp only [hg]
 rw [if_pos ?cg]
 case cg=>simp [CallG,nmsL,AV.nms,AO.nms,Led,curBL,AV.curB,AO.curB,verOf,notDead,h0,h1,h2,hab,hac,hbc,hba,hca,hcb]
 have e1:fs.length+1+v=fs.length+v+1:=by omega
 have e2:1+v2=v2+1:=by omega
 simp [renL,AV.ren,AO.ren,posN,canO,nmsL,h0,h1,h2,hF,RetG,getL,AV.nms,AO.nms,updN,nmN,shN,verOf,rng,Led,hab,hac,hbc,hba,hca,hcb,e1,e2]
def TbC (t:Tb) (n:Nat):AV:=.agg [I t.1,.sl n 1 9 0 t.2.1.length,.sl (n+1) 1 2 0 t.2.2.length]
def zT:Tb:=(0,[],[])
noncomputable def setP (t:Tb) (p:Int) (w:Nat) (fs:List Int):Tb×Int :=
 if ckd t p 512≠0 then (zT,ckd t p 512)
 else if (decR w).2≠0∨(decR w).1.1=0∨(decR w).1.1=4∨(decR w).1.2.2.2.2.2=true then (zT,3)
 else if (lsT t p.toNat).2.2≠0 then (zT,7)
 else if fs.length=(lsT t p.toNat).2.1∧usB t.2.1 t.2.2 fs=true then (putT (t.1,dpN t.1 t.2.2 p.toNat t.2.1 fs,t.2.2) p.toNat w,0)
 else (zT,1)
theorem ckd_pt {t:Tb} (ht:tbOK t) {n lim:Int} (h:¬ ckd t n lim≠0):Pv t∧0≤n∧n<lim:=by
 rcases ckd_cases t n lim with h1|h1
 ·exact absurd h1 h
 ·exact ⟨chk_pv ht h1.2.1,h1.2.2⟩
abbrev StD:=Tb×Int×Nat×List Int
def stOK (x:StD):Prop:=tbOK x.1∧x.1.2.1.length≤999000∧x.2.2.1<2^64∧x.2.2.2.length≤1000
theorem s51 (X:AX) (hX:XOK Tryz.prog X) (hw:X.W wT) (hck:∀ t:Tb,tbOK t→∀ (n lim:Int) M k,X.call 109 [TbV t,I n,I lim] M k=some (I (ckd t n lim),[]))
  (hla:∀ (t:Tb) (p:Nat),ptO t p→∀ M n,X.call 110 [TbV t,I p] M n=some (stV (lsT t p),[]))
  (hdc:∀ n:Nat,n<2^64→∀ M k,X.call 56 [U n] M k=some (.tup [EnV (decR n).1,I (decR n).2],[]))
  (hen:∀ w:Nat,w<2^64→∀ M n,X.call 113 [U w] M n=some (EnV (decR w).1,[]))
  (hfh:∀ (t:Tb) (fs:List Int) (m:Nat),tbOK t→ascN t.2.1→fs.length≤1000→∀ M n,X.call 127 [TbV t,.rd 1 (irows fs),I m] M n=some (B (decide (fs.length=m)&&usB t.2.1 t.2.2 fs),[]))
  (hcl:∀ t:Tb,tbOK t→∀ M n,X.call 128 [TbV t] M n=some (TbC t n,[(n,.vec 1 9 false (nrows t.2.1)),(n+1,.vec 1 2 false (prows t.2.2))]))
  (hde:X.call 129=callG deB) (hpu:X.call 130=callG puS) :
  PSound Tryz.prog 51 (specF (ι:={x:StD // stOK x}) (fun x=>[TbV x.1.1,I x.1.2.1,U x.1.2.2.1,.rd 1 (irows x.1.2.2.2)]) fun x=>retOf [TbO (setP x.1.1 x.1.2.1 x.1.2.2.1 x.1.2.2.2).1,I (setP x.1.1 x.1.2.1 x.1.2.2.1 x.1.2.2.2).2]):=by
 refine psound_spec hX mixed Tryz.func51 rfl fun ⟨⟨⟨r,ns,ds⟩,pI,w,fs⟩,ht,hl9,hw64,hf8⟩ w0 G=>⟨by show 4≤69;decide,rfl,?_⟩
 show AW ⟨Tryz.prog,X,69,w0,.pure G⟩ _ _ _
 have hc:Cx.OK ⟨Tryz.prog,X,69,w0,.pure G⟩:=⟨hX,mixed⟩
 simp only at hl9 hw64 hf8 ht ⊢
 have hck':=hck _ ht pI 512
 have hl1:ns.length≤1000000:=ht.2.1
 have hl2:ds.length≤1000000:=ht.2.2
 rcases Decidable.em (ckd (r,ns,ds) pI 512≠0) with hk|hk
 ·have e:setP (r,ns,ds) pI w fs=(zT,ckd (r,ns,ds) pI 512):=by unfold setP;rw [if_pos hk]
  rw [e]
  obtain ⟨c,hc0⟩:∃ c,c=ckd (r,ns,ds) pI 512:=⟨_,rfl⟩
  rw [← hc0] at hck' hk ⊢
  simp only [TbV,TbO,zT] at hck' ⊢
  have zS:=jj hck'<|hk
  refine dM64 ?_
  repeat (intro K hK)
  clear zS
  refine ⟨by simp,?_⟩
  simp [leaves_iff,Tryz.f51,nrows,prows]
  try exact dt
 ·obtain ⟨hpv,hp0,hp1⟩:=ckd_pt ht hk
  obtain ⟨p,rfl⟩:=Int.eq_ofNat_of_zero_le hp0
  have hp:p<512:=by omega
  have hz:ckd (r,ns,ds) p 512=0:=by omega
  rw [hz] at hck'
  have hdc':=hdc w hw64
  have hla':=hla _ _ (hpv.pto ht hp)
  have hlw:=lsT_u64 ht hpv hp
  have hen':=hen _ hlw
  have hlv:=(hpv.walk hp).2.2
  obtain ⟨f0,l0,w0',hwk⟩:∃ f l w,wlk (Mof ns) r p=(f,l,w):=⟨_,_,_,rfl⟩
  obtain ⟨hl02,_,_,_,hwt,hwok⟩:=wlk_at hpv.vm hp hwk
  have hk0:=kind0 hwok
  simp only at hlv
  rw [hwk] at hlv
  simp only at hlv
  have hls:lsT (r,ns,ds) p=((lsT (r,ns,ds) p).1,l0,w0'):=by rw [← hlv]
  have hfh':=hfh (r,ns,ds) fs l0 ht hpv.asc hf8
  have hcl':=hcl _ ht
  have eS:setP (r,ns,ds) p w fs=if (decR w).2≠0∨(decR w).1.1=0∨(decR w).1.1=4∨(decR w).1.2.2.2.2.2=true then (zT,3)
    else if w0'≠0 then (zT,7)
    else if fs.length=l0∧usB ns ds fs=true then (putT (r,dpN r ds p ns fs,ds) p w,0)
    else (zT,1):=by
   unfold setP
   rw [if_neg hk,Int.toNat_natCast,hlv]
  rw [eS]
  rw [hls] at hla' hen' hlw
  simp only at hen' hlw
  obtain ⟨a0,ha0⟩:∃ a,a=(lsT (r,ns,ds) p).1:=⟨_,rfl⟩
  rw [← ha0] at hla'
  obtain ⟨⟨⟨k,f,d,a,x,h⟩,e⟩,hE⟩:∃ r,r=decR w:=⟨_,rfl⟩
  obtain ⟨⟨⟨k2,f2,d2,a2,x2,h2⟩,e2⟩,hE2⟩:∃ r,r=decR w0':=⟨_,rfl⟩
  rw [← hE] at hdc' ⊢
  rw [← hE2] at hen' hk0
  clear hls eS hE hE2 hck hla hdc hen
  simp only [TbV,TbO,TbC,zT,EnV,stV,srow,U] at hck' hla' hdc' hen' hfh' hcl' hk0 ⊢
  rcases Decidable.em (e≠0∨k=0∨k=4∨h=true) with hb|hb
  ·rw [if_pos hb]
   rcases Decidable.em (e=0) with he|he
   ·rcases Decidable.em (k=0) with hk1|hk1
    ·have zS:=jj hck'<|jj hdc'<|jj he<|hk1
     refine dM64 ?_
     repeat (intro K hK)
     clear zS
     all_goals refine ⟨by simp,?_⟩
     all_goals simp [leaves_iff,Tryz.f51,nrows,prows]
     all_goals try exact dt
    ·rcases Decidable.em (k=4) with hk2|hk2
     ·have zS:=jj hck'<|jj hdc'<|jj he<|jj hk1<|hk2
      refine dM64 ?_
      repeat (intro K hK)
      clear zS
      all_goals refine ⟨by simp,?_⟩
      all_goals simp [leaves_iff,Tryz.f51,nrows,prows]
      all_goals try exact dt
     ·obtain rfl:h=true:=by
       rcases hb with hb|hb|hb|hb
       ·exact absurd he hb
       ·exact absurd hb hk1
       ·exact absurd hb hk2
       ·exact hb
      have zS:=jj hck'<|jj hdc'<|jj he<|jj hk1<|hk2
      refine dM64 ?_
      repeat (intro K hK)
      clear zS
      all_goals refine ⟨by simp,?_⟩
      all_goals simp [leaves_iff,Tryz.f51,nrows,prows]
      all_goals try exact dt
   ·have zS:=jj hck'<|jj hdc'<|he
    refine dM64 ?_
    repeat (intro K hK)
    clear zS
    all_goals refine ⟨by simp,?_⟩
    all_goals simp [leaves_iff,Tryz.f51,nrows,prows]
    all_goals try exact dt
  ·rw [if_neg hb]
   obtain ⟨rfl,hk1,hk2,rfl⟩:e=0∧k≠0∧k≠4∧h=false:=by
    refine ⟨by omega,by omega,by omega,?_⟩
    cases h
    ·rfl
    ·exact absurd (Or.inr (Or.inr (Or.inr rfl))) hb
   rcases Decidable.em (w0'=0) with hw0|hw0
   ·have hk3:=hk0.2 hw0
    rw [if_neg (by simp [hw0])]
    rcases Decidable.em (fs.length=l0∧usB ns ds fs=true) with hf|hf
    ·rw [if_pos hf]
     rw [decide_eq_true hf.1,hf.2] at hfh'
     have hdk:=deep_ok hpv ht hp hf.2 hl9 hwk hf8 (by omega)
     obtain ⟨j1,j2,⟨f',w',j3,j4⟩,j5,j6⟩:=deepL hpv ht hp hf.2 hl9 hwk fs.length (Nat.le_refl _) (by omega)
     rw [List.take_length] at j1 j2 j3 j5
     have hde':=fun M n=>@callDe 816 800 801 (by decide) (by decide) (by decide) r ns ds p fs hdk 0 0 M n
     rw [← hde] at hde'
     have hpu':=fun M n=>@callPu 816 800 801 (by decide) (by decide) (by decide) r (dpN r ds p ns fs) ds p w (j1.pto j2 hp) hw64 fs.length 0 M n
     rw [← hpu] at hpu'
     simp only [Nat.zero_add,Nat.add_zero,U] at hde' hpu'
     have hPl:(putT (r,dpN r ds p ns fs,ds) p w).2.1.length=(dpN r ds p ns fs).length:=setN_len
     have hP0:putT (r,dpN r ds p ns fs,ds) p w=(r,(putT (r,dpN r ds p ns fs,ds) p w).2.1,ds):=rfl
     rw [hP0]
     simp only
     obtain ⟨R,hR⟩:∃ R,R=(putT (r,dpN r ds p ns fs,ds) p w).2.1:=⟨_,rfl⟩
     rw [← hR] at hPl hpu' ⊢
     obtain ⟨D,hD⟩:∃ D,D=dpN r ds p ns fs:=⟨_,rfl⟩
     rw [← hD] at hde' hpu' hPl
     clear hR hD hP0
     have zS:=jj hck'<|jj hdc'<|jj hk1<|jj hk2<|jj hla'<|jj hen'<|jj hk3<|jj hfh'<|jj hcl'<|jj hde'<|hpu'
     refine dF64 ?_
     repeat (intro K hK)
     clear zS
     have tkR:List.take D.length (nrows R)=nrows R:=List.take_of_length_le (by simp;omega)
     have tkd:List.take ds.length (prows ds)=prows ds:=List.take_of_length_le (by simp)
     refine ⟨by simp,?_⟩
     simp [leaves_iff,Tryz.f51,hPl,tkR,tkd]
     try exact dt
    ·rw [if_neg hf]
     have hff:(decide (fs.length=l0)&&usB ns ds fs)=false:=by
      cases hu:usB ns ds fs
      ·simp
      ·rw [hu] at hf;simp at hf;simp [hf]
     rw [hff] at hfh'
     have zS:=jj hck'<|jj hdc'<|jj hk1<|jj hk2<|jj hla'<|jj hen'<|jj hk3<|hfh'
     refine dM64 ?_
     repeat (intro K hK)
     clear zS
     all_goals refine ⟨by simp,?_⟩
     all_goals simp [leaves_iff,Tryz.f51,nrows,prows]
     all_goals try exact dt
   ·have hk3:¬ k2=0:=fun h=>hw0 (hk0.1 h)
    rw [if_pos hw0]
    have zS:=jj hck'<|jj hdc'<|jj hk1<|jj hk2<|jj hla'<|jj hen'<|hk3
    refine dM64 ?_
    repeat (intro K hK)
    clear zS
    all_goals refine ⟨by simp,?_⟩
    all_goals simp [leaves_iff,Tryz.f51,nrows,prows]
    all_goals try exact dt
end Go.AM
