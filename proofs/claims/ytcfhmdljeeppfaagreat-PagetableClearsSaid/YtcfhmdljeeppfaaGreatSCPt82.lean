/- A part of the proof: what functions of the program compute, by abstract execution of their code. Its theorems hold without further condition. -/
import Derived.Test.YtcfhmdljeeppfaaGreatSCPt80
set_option linter.all false
namespace Go.AM
open Go Go.Proofs
theorem clrR_y {r:Int} {ds:List Dp} {p k:Nat} {N:NdL} {a:Nat} {g:Int} (ha:(lsT (r,N,ds) p).1=a) (hg:(gn N a).1=g) (h:(gn N a).2=zs8):clrR r ds p (k+1) N=((clrR r ds p k (unl (g.toNat*256+4) (delK N g))).1,g::(clrR r ds p k (unl (g.toNat*256+4) (delK N g))).2):=by
 subst ha hg
 simp only [clrR]
 rw [if_pos h]
theorem clrR_n {r:Int} {ds:List Dp} {p k:Nat} {N:NdL} {a:Nat} (ha:(lsT (r,N,ds) p).1=a) (h:¬ (gn N a).2=zs8):clrR r ds p (k+1) N=(N,[]):=by
 subst ha
 simp only [clrR]
 rw [if_neg h]
theorem kpF_un {N:NdL} {f:Int} (h:∀ n∈N,n.1≠f):kpF [f] N=N:=by
 unfold kpF
 refine List.filter_eq_self.2 fun n hn=>?_
 have:=h n hn
 simp [inF,this]
theorem clrL_fr {p:Nat} {f:Int}:∀ {l:List Stp} {N:NdL},(∀ s∈l,s.1<N.length)→(∀ n∈N,n.1≠f)→∀ n∈(clrL p N l).1,n.1≠f
 | [],N,_,h=>h
 | [s],N,hl,h=>setN_fr (hl s (by simp)) h
 | s::t::q,N,hl,h=>by
  simp only [clrL]
  have h1:=setN_fr (i:=dgt p s.2.1) (w:=0) (hl s (by simp)) h
  split
  ·exact clrL_fr (l:=t::q) (fun x hx=>by rw [setN_len];exact hl x (by simp [hx])) h1
  ·exact h1
theorem dep_key {r:Int} {ns:NdL} {ds:List Dp} (hv:Vt (r,ns,ds)) {p:Nat} (hp:p<512) (hl:(lsT (r,ns,ds) p).2.1=1) (h0:(lsT (r,ns,ds) p).2.2≠0):((p/8:Nat):Int)∈ds.map (·.1):=by
 have hpv:=hv.pv
 obtain ⟨f,l,w,hw⟩:∃ f l w,wlk (Mof ns) r p=(f,l,w):=⟨_,_,_,rfl⟩
 have h1:=(hpv.walk hp).2.2
 simp only at h1
 rw [hw] at h1
 rw [h1] at h0 hl
 simp only at h0 hl
 subst hl
 obtain ⟨a1,a2,a3,a4,a5,a6⟩:=wlk_at hpv.vm hp hw
 have hk:(decR w).1.1≠0:=fun h=>h0 ((kind0 a6).1 h)
 have h4:(decR w).1.1≠4:=decR_tab.1 a5
 have a7:=a6
 unfold okWb at a7
 simp only [Bool.and_eq_true,decide_eq_true_eq] at a7
 obtain ⟨_,a7⟩:=a7
 unfold suitB at a7
 rw [if_neg hk,if_neg h4] at a7
 by_cases hk1:(decR w).1.1=1
 ·rw [if_pos hk1] at a7
  simp at a7
  have hd:=hv.dep
  simp only at hd
  rw [hd]
  refine mem_hugM.2 ⟨p/8,by omega,rfl,hugB_iff.2 ⟨f,?_,?_⟩⟩
  ·simp only at a3
   have:p/8^(1+1)=p/8/8:=by simp;omega
   rw [this] at a3
   exact a3
  ·simp only at a4
   rw [dgt1] at a4
   rw [← a4]
   unfold hugW
   rw [hk1,a7];rfl
 ·rw [if_neg hk1] at a7
  simp at a7
theorem clrP_0 {r:Int} {ns:NdL} {ds:List Dp} (h:Pv (r,ns,ds)) (ht:tbOK (r,ns,ds)) {p:Nat} (hp:p<512) (hl:(lsT (r,ns,ds) p).2.1=0) :
  kpF (clrA (r,ns,ds) p) (clrL p ns (ptL (r,ns,ds) p).reverse).1=(clrR r ds p 2 (setN ns (lsT (r,ns,ds) p).1 (dgt p 0) 0)).1∧clrA (r,ns,ds) p=(clrR r ds p 2 (setN ns (lsT (r,ns,ds) p).1 (dgt p 0) 0)).2∧clrD (r,ns,ds) p=ds:=by
 obtain ⟨h1,h2⟩:=clr_0 h ht hp hl
 have hA:clrA (r,ns,ds) p=(clrL p ns (ptL (r,ns,ds) p).reverse).2:=by unfold clrA clrF;rw [if_neg (by rw [hl];decide)];rfl
 have hD:clrD (r,ns,ds) p=ds:=by unfold clrD;rw [if_neg (by rw [hl];decide)]
 rw [hA,hD,h1,h2]
 exact ⟨rfl,rfl,rfl⟩
theorem clrP_1 {r:Int} {ns:NdL} {ds:List Dp} (hv:Vt (r,ns,ds)) (ht:tbOK (r,ns,ds)) {p:Nat} (hp:p<512) (hl:(lsT (r,ns,ds) p).2.1=1) (h0:(lsT (r,ns,ds) p).2.2≠0) :
  kpF (clrA (r,ns,ds) p) (clrL p ns (ptL (r,ns,ds) p).reverse).1=(clrR r (delK ds ((p/8:Nat):Int)) p 1 (setN ns (lsT (r,ns,ds) p).1 (dgt p 1) 0)).1∧clrA (r,ns,ds) p=lastK (-1) ((p/8:Nat):Int) ds::(clrR r (delK ds ((p/8:Nat):Int)) p 1 (setN ns (lsT (r,ns,ds) p).1 (dgt p 1) 0)).2∧clrD (r,ns,ds) p=delK ds ((p/8:Nat):Int):=by
 have h:=hv.pv
 obtain ⟨h1,h2⟩:=clr_1 h ht hp hl
 have hdl:=(ent_level hv hp h0).2 hl
 have hR:∀ k N,clrR r (delK ds ((p/8:Nat):Int)) p k N=clrR r ds p k N:=by
  intro k
  induction k with
  | zero=>intro N;rfl
  | succ k ih =>
   intro N
   simp only [clrR]
   rw [show lsT (r,N,delK ds ((p/8:Nat):Int)) p=lsT (r,N,ds) p from rfl,ih]
 have hkey:(gp ds (lowD ds ((p/8:Nat):Int))).1=((p/8:Nat):Int):=by
  obtain ⟨f,l,w,hw⟩:∃ f l w,wlk (Mof ns) r p=(f,l,w):=⟨_,_,_,rfl⟩
  exact (lowD_key hv.num.dasc (dep_key hv hp hl h0)).2
 obtain ⟨d1,d2⟩:=delL_eq hv.num.dasc hdl hkey
 obtain ⟨n2,w2,g1,hpt,q2,q1,_⟩:=path_f1 h hp hl
 have hlt:=lsT_lt h hp
 have hap:=hv.num.apart _ (show gp ds (lowD ds ((p/8:Nat):Int))∈ds by rw [gp_eq hdl];exact List.getElem_mem hdl)
 have hX:∀ n∈(clrL p ns (ptL (r,ns,ds) p).reverse).1,n.1≠(gp ds (lowD ds ((p/8:Nat):Int))).2:=by
  refine clrL_fr (fun s hs=>?_) hap
  rw [hpt] at hs
  simp at hs
  rcases hs with rfl|rfl
  ·exact hlt.1
  ·exact fnd_lt q2
 have hA:clrA (r,ns,ds) p=(gp ds (lowD ds ((p/8:Nat):Int))).2::(clrL p ns (ptL (r,ns,ds) p).reverse).2:=by unfold clrA clrF;rw [if_pos hl];rfl
 have hD:clrD (r,ns,ds) p=delL ds ((p/8:Nat):Int):=by unfold clrD;rw [if_pos hl]
 have hk2:=@kp_kp (clrL p ns (ptL (r,ns,ds) p).reverse).1 (clrL p ns (ptL (r,ns,ds) p).reverse).2 [(gp ds (lowD ds ((p/8:Nat):Int))).2]
 rw [kpF_un hX] at hk2
 rw [hA,hD,hR,h1,h2,d1,d2]
 exact ⟨hk2.symm,rfl,rfl⟩
set_option maxHeartbeats 16000000 in
theorem s63 (X:AX) (hX:XOK Tryz.prog X) (hw:X.W wT)
  (hwa:∀ (t:Tb) (x:Int),tbOK t→∀ M n,X.call 36 [TbV t,I x] M n=some (.tup [U (walkT t x).1,I (walkT t x).2.1,I (walkT t x).2.2],[]))
  (hcl:∀ t:Tb,tbOK t→∀ M n,X.call 104 [TbV t] M n=some (TbC t n,[(n,.vec 1 9 false (nrows t.2.1)),(n+1,.vec 1 2 false (prows t.2.2))]))
  (hst:OwnR X 111 (fun t x=>0≤x∧ptO t x.toNat) fun t x=>.tup [I (lsT t x.toNat).1,I (lsT t x.toNat).2.1])
  (hdg:∀ (p l:Nat),p<512→l≤2→∀ M n,X.call 112 [I p,I l] M n=some (I (dig p l),[]))
  (hem:∀ x:Nd,x.2.length=8→∀ M n,X.call 145 [.agg (nrow x)] M n=some (B (decide (x.2=zs8)),[]))
  (hre:X.call 144=callG relS) (hrm:X.call 146=callG remS) (hun:X.call 147=callG unS) :
  PSound Tryz.prog 63 (specF (ι:={x:Tb×Int // tbOK x.1∧x.1.2.1.length≤999000}) (fun x=>[TbV x.1.1,I x.1.2]) fun x=>retOf [TbO (clrP x.1.1 x.1.2).1,U (clrP x.1.1 x.1.2).2.1,.ow 1 (irows (clrP x.1.1 x.1.2).2.2.1),I (clrP x.1.1 x.1.2).2.2.2]):=by
 refine psound_spec hX mixed Tryz.func63 rfl fun ⟨⟨⟨r,ns,ds⟩,pI⟩,ht,hl9⟩ w0 G=>⟨by show 2≤101;decide,rfl,?_⟩
 show AW ⟨Tryz.prog,X,101,w0,.pure G⟩ _ _ _
 have hc:Cx.OK ⟨Tryz.prog,X,101,w0,.pure G⟩:=⟨hX,mixed⟩
 simp only at hl9 ht ⊢
 have hwa':=hwa _ pI ht
 have hl1:ns.length≤1000000:=ht.2.1
 have hl2:ds.length≤1000000:=ht.2.2
 rcases Decidable.em (ckd (r,ns,ds) pI 512≠0) with hk|hk
 ·have e:clrP (r,ns,ds) pI=(zT,0,[],ckd (r,ns,ds) pI 512):=by unfold clrP;rw [if_pos hk]
  rw [e]
  rw [walkT_n (by exact hk)] at hwa'
  obtain ⟨c,hc0⟩:∃ c,c=ckd (r,ns,ds) pI 512:=⟨_,rfl⟩
  rw [← hc0] at hwa' hk ⊢
  simp only [TbV,TbO,zT,U] at hwa' ⊢
  have zS:=jj hwa'<|hk
  refine dM64 ?_
  repeat (intro K hK)
  clear zS
  refine ⟨by simp,?_⟩
  simp [leaves_iff,Tryz.f63,nrows,prows,irows]
  try exact dt
 ·obtain ⟨hpv,hp0,hp1⟩:=ckd_pt ht hk
  have hvt:=ckd_vt ht hk
  obtain ⟨p,rfl⟩:=Int.eq_ofNat_of_zero_le hp0
  have hp:p<512:=by omega
  have hz:ckd (r,ns,ds) p 512=0:=by omega
  rw [walkT_z hz,Int.toNat_natCast] at hwa'
  have hcl':=hcl _ ht
  have eS:clrP (r,ns,ds) p=if (lsT (r,ns,ds) p).2.2=0 then (zT,0,[],6) else ((r,kpF (clrA (r,ns,ds) p) (clrL p ns (ptL (r,ns,ds) p).reverse).1,clrD (r,ns,ds) p),(lsT (r,ns,ds) p).2.2,clrA (r,ns,ds) p,0):=by
   unfold clrP
   rw [if_neg hk,Int.toNat_natCast]
  rw [eS]
  clear eS
  rcases Decidable.em ((lsT (r,ns,ds) p).2.2=0) with hc0|hc0
  ·rw [if_pos hc0]
   rw [hc0] at hwa'
   obtain ⟨l,hl⟩:∃ l,l=(lsT (r,ns,ds) p).2.1:=⟨_,rfl⟩
   rw [← hl] at hwa'
   simp only [TbV,TbO,zT,U] at hwa' ⊢
   have zS:=hwa'
   refine dM64 ?_
   repeat (intro K hK)
   clear zS
   refine ⟨by simp,?_⟩
   simp [leaves_iff,Tryz.f63,nrows,prows,irows]
   try exact dt
  ·rw [if_neg hc0]
   have hlw:=lsT_lt hpv hp
   obtain ⟨f0,l0,c0,hwk⟩:∃ f l w,wlk (Mof ns) r p=(f,l,w):=⟨_,_,_,rfl⟩
   obtain ⟨b1,b2,b3,b4⟩:=clr_start hpv ht hp hwk
   obtain ⟨q1,q2,q3,q4,q5⟩:=end_nd hpv hp hwk
   have hst0:=hst r ns ds p ⟨by omega,hpv.pto ht hp⟩
   simp only [Int.toNat_natCast] at hst0
   have hlev:=(ent_level hvt hp hc0).1
   have hdv:(p:Int).tdiv 8=((p/8:Nat):Int):=by rw [Int.tdiv_eq_ediv_of_nonneg (by omega)];omega
   rcases (by omega:(lsT (r,ns,ds) p).2.1=0∨(lsT (r,ns,ds) p).2.1=1) with hl0|hl0
   ·obtain ⟨z1,z2,z3⟩:=clrP_0 hpv ht hp hl0
    rw [z1,z2,z3]
    rw [q2] at hl0 hc0
    simp only at hl0 hc0
    subst hl0
    have hdg':=hdg p 0 hp (by omega)
    rw [dig_dgt hp (by omega),show ((0:Nat):Int)=(0:Int) from rfl] at hdg'
    rw [q2] at hwa' hst0 ⊢
    simp only at hwa' hst0 ⊢
    obtain ⟨a,ha⟩:∃ a,a=(lsT (r,ns,ds) p).1:=⟨_,rfl⟩
    rw [← ha] at hst0 q5 b1 b2 b3 ⊢
    have hcI:¬ (c0:Int)=0:=by omega
    have haI:(a:Int)<(ns.length:Int):=by omega
    have hdl:=dgt_lt p 0
    have hgn:=nrows_gi q5
    have hgnE:=nrows_gE q5
    have h8:(gn ns a).2.length=8:=(ht.1 _ (gn_mem q5)).1
    have hset:=@nrows_setN ns a (dgt p 0) 0 q5
    have hwl:(wcs (gn ns a).2).length=8:=by simp [h8]
    have hsl:(setN ns a (dgt p 0) 0).length=ns.length:=setN_len
    obtain ⟨N0,hN0⟩:∃ R,R=setN ns a (dgt p 0) 0:=⟨_,rfl⟩
    rw [← hN0] at hset hsl b1 b2 b3 ⊢
    obtain ⟨⟨fr,ws⟩,hm⟩:∃ m,m=gn ns a:=⟨_,rfl⟩
    rw [← hm] at hgn hgnE hwl hset
    simp only at hgn hgnE hwl hset
    obtain ⟨cs,hcs⟩:∃ cs,cs=wcs ws:=⟨_,rfl⟩
    rw [← hcs] at hgn hgnE hwl hset
    obtain ⟨dg,hdg0⟩:∃ dg,dg=dgt p 0:=⟨_,rfl⟩
    rw [← hdg0] at hdl hdg' hset
    have hdI:(dg:Int)<8:=by omega
    have hs1:∀ w:Int,(I fr::cs).set (1+dg) (AV.v (.int .u64 w))=I fr::cs.set dg (AV.v (.int .u64 w)):=fun w=>by rw [Nat.add_comm];rfl
    clear hcs hm h8 hdg0 z1 z2 z3
    obtain ⟨⟨RN,RF⟩,hR⟩:∃ R,R=clrR r ds p 2 N0:=⟨_,rfl⟩
    rw [← hR]
    simp only [TbV,TbO,TbC,U] at hwa' hcl' hset ⊢
    have hset':(nrows ns).set a (I fr::cs.set dg (AV.v (Value.int IntKind.u64 0)))=nrows N0:=hset
    have zS:=jj hwa'<|jj hcl'<|jj hc0<|jj hcI<|jj hst0<|jj hdg'<|jj q5<|jj haI<|jj hgn<|jj hgnE<|jj hwl<|jj hdl<|jj hdI<|jj hset'<|hs1
    repeat' (first|(apply aw_seq_k;intro K hK)|(refine eF64 ?_)|(refine aw_cond (b:=_) (by exact rfl) (fun h=>?_) (fun h=>?_)<;>(try simp at h))|(refine eB ?_)|(refine hK _ ?_;clear hK)|(clear hK;refine hK _ ?_;clear hK)|(clear hK;clear hK;refine hK _ ?_;clear hK)|(clear hK;clear hK;clear hK;refine hK _ ?_;clear hK))
    all_goals clear zS
    trace_state
    refine aw_weaken (le_nilslot (t:=11) (sz:=1) (by simp)) ?_
    refine aw_loopK (s0:=?lps1) (m0:=?lpm1) (ι:={x:Nat×NdL×List Int // (0≤x.1∧x.1≤2)∧Pv (r,x.2.1,ds)∧tbOK (r,x.2.1,ds)∧x.2.1.length≤999000∧(∃ f,wlk (Mof x.2.1) r p=(f,x.1,0))∧(clrR r ds p (2 - x.1) x.2.1).1=RN∧x.2.2++(clrR r ds p (2 - x.1) x.2.1).2=RF∧x.2.2.length≤1+x.1}) [1,2,4,8] (fun s=>[(16,I s.1.1),(11,.sl 720 1 1 0 s.1.2.2.length)]) (fun s=>[(0,.box [I r,.sl 320 1 9 0 s.1.2.1.length,.sl 321 1 2 0 ds.length]),(320,.vec 1 9 false (nrows s.1.2.1)),(720,.vec 1 1 false (irows s.1.2.2))]) (fun s=>2 - s.1.1) ⟨(0,N0,[]),⟨by simp,by simp⟩,b1,b2,by simp only;omega,⟨_,b3⟩,by simp only;rw [← hR],by simp only;rw [← hR];simp,by simp⟩ ?lhs1 ?lhm1 ?_ ?_
    case lhs1=>first|(simp [keepS];done)|(simp [keepS];rfl)
    case lhm1=>first|rfl|(simp;done)|(simp;rfl)
    ·simp only [List.length_cons,List.length_nil]
     exact le_of2 (by simp) (by simp [AVle,AV.under,AV.underL,irows,hsl]<;>omega) (by simp [AOle,AO.under,AV.underL,AV.under,irows,hsl]<;>omega)
    ·rintro ⟨⟨l,N,fd⟩,⟨g1,g2⟩,g3,g4,g5,⟨f,g6⟩,g7,g8,g9⟩
     simp only at g1 g2 g3 g4 g5 g6 g7 g8 g9 ⊢
     have tkN:List.take N.length (nrows N)=nrows N:=List.take_of_length_le (by simp)
     have tkD:List.take ds.length (prows ds)=prows ds:=List.take_of_length_le (by simp)
     have tkF:List.take fd.length (irows fd)=irows fd:=List.take_of_length_le (by simp)
     rcases Decidable.em (l<2) with hl2c|hl2c
     ·have hl2I:(l:Int)<2:=by omega
      obtain ⟨e1,e2,e3,e4,e5⟩:=end_nd g3 hp g6
      have hst1:=hst r N ds p ⟨by omega,g3.pto g4 hp⟩
      simp only [Int.toNat_natCast] at hst1
      obtain ⟨S,hS⟩:∃ S,S=lsT (r,N,ds) p:=⟨_,rfl⟩
      have hS1:(lsT (r,N,ds) p).1=S.1:=by rw [hS]
      rw [← hS] at hst1 e1 e2 e3 e4 e5
      obtain ⟨a2,b,c⟩:=S
      simp only at hst1 e1 e2 e3 e4 e5 hS1
      have ha2I:(a2:Int)<(N.length:Int):=by omega
      have hg:=nrows_gi e5
      have hgE:=nrows_gE e5
      have h8:(gn N a2).2.length=8:=(g4.1 _ (gn_mem e5)).1
      have hem':=hem (gn N a2) h8
      obtain ⟨k,hk2⟩:∃ k,2 - l=k+1:=⟨1 - l,by omega⟩
      rw [hk2] at g7 g8
      rcases Decidable.em ((gn N a2).2=zs8) with hze|hze
      ·obtain ⟨f2,k2,_,_,_,_,gg0,gg1,_,r8,r9,r10,_⟩:=round g3 g4 hp g6 hl2c (zs_leaf (by rw [e4,hze]))
       rw [clrR_y hS1 e3 hze] at g7 g8
       simp only at g7 g8
       obtain ⟨fn,rfl⟩:=Int.eq_ofNat_of_zero_le gg0
       simp only [Int.toNat_natCast] at g7 g8 r8 r9 r10
       rw [decide_eq_true hze] at hem'
       have hdK:tbOK (r,delK N (fn:Int),ds):=⟨delK_ok g4.1,by have h1:(delK N (fn:Int)).length≤N.length:=List.length_filter_le _ _;have h2:=g4.2.1;simp only at h2 ⊢;omega,g4.2.2⟩
       have hdKl:(delK N (fn:Int)).length≤N.length:=List.length_filter_le _ _
       have hrm':=fun (a b:Nat) (hab:a≠b) M nid h1 h2=>@callRm a b hab r N ds (fn:Int) g4 0 0 M nid h1 h2
       have hun':=fun (a b:Nat) (hab:a≠b) M nid=>@callUn a b hab r (delK N (fn:Int)) ds fn hdK (by omega) 0 0 M nid
       rw [← hrm] at hrm'
       rw [← hun] at hun'
       have hul:(unl (fn*256+4) (delK N (fn:Int))).length=(delK N (fn:Int)).length:=unl_len
       have hap:=irows_ap fd (fn:Int)
       have hfl:fd.length+1=(fd++[(fn:Int)]).length:=by simp
       have hfl2:fd.length≤1000000:=by omega
       obtain ⟨N2,hN2⟩:∃ x,x=unl (fn*256+4) (delK N (fn:Int)):=⟨_,rfl⟩
       rw [← hN2] at hun' hul g7 g8 r8 r9 r10
       obtain ⟨N1,hN1⟩:∃ x,x=delK N (fn:Int):=⟨_,rfl⟩
       rw [← hN1] at hun' hul hrm' hdKl
       obtain ⟨⟨fr2,ws2⟩,hm2⟩:∃ m,m=gn N a2:=⟨_,rfl⟩
       rw [← hm2] at hg hgE h8 hem' e3
       simp only [nrow] at hg hgE h8 hem' e3
       subst e3
       have hwl2:(wcs ws2).length=8:=by simp [h8]
       have hcx:∀ x,x∈wcs ws2→AV.isClosed x=true:=fun a ha=>by
        obtain ⟨w,_,rfl⟩:=List.mem_map.1 ha
        rfl
       obtain ⟨cs2,hcs2⟩:∃ cs,cs=wcs ws2:=⟨_,rfl⟩
       rw [← hcs2] at hg hgE hwl2 hem' hcx
       simp only [AV.isClosed] at hcx
       have htk8:List.take 8 cs2=cs2:=List.take_of_length_le (by omega)
       clear hcs2 hm2 hN1 hN2 hS
       simp only [Nat.zero_add] at hrm' hun'
       have zS:=jj hl2I<|jj hst1<|jj e5<|jj ha2I<|jj hg<|jj hgE<|jj hwl2<|jj htk8<|jj hcx<|jj hem'<|jj hrm'<|jj hun'<|jj hap<|jj tkF<|hfl2
       repeat' (first|(apply aw_seq_k;intro K hK)|(refine eF64 ?_)|(refine aw_cond (b:=_) (by exact rfl) (fun h=>?_) (fun h=>?_)<;>(try simp at h))|(refine eB ?_)|(refine hK _ ?_;clear hK)|(clear hK;refine hK _ ?_;clear hK)|(clear hK;clear hK;refine hK _ ?_;clear hK)|(clear hK;clear hK;clear hK;refine hK _ ?_;clear hK))
       all_goals clear zS
       trace_state
       refine ⟨l+1,N2,fd++[(fn:Int)],?_,⟨by omega,r8,r9,by omega,⟨_,r10⟩,by rw [show 2 - (l+1)=k by omega];exact g7,by rw [show 2 - (l+1)=k by omega,List.append_assoc];exact g8,by simp only [List.length_append,List.length_singleton];omega⟩,by omega⟩
       simp only [hul,← hfl]
       refine le_turn (s1:=?tus2) (m1:=?tum2) [(1169,320)] [1,2,4,8,11,16] [0,16,320,321,720,1169] ?tua2 ?tub2 ?tuc2 ?tud2 ?tue2 ?tuf2 ?tug2
       case tua2=>first|(simp [keepS];done)|(simp [keepS];rfl)
       case tub2=>first|(simp;done)|(simp;rfl)
       case tuc2=>simp
       case tud2=>simp
       case tue2=>simp
       case tuf2=>simp
       case tug2 =>
        simp [swp,vr]
        exact dle
      ·rw [clrR_n hS1 hze] at g7 g8
       rw [List.append_nil] at g8
       simp only at g7 g8
       subst g7 g8
       rw [decide_eq_false hze] at hem'
       obtain ⟨⟨fr2,ws2⟩,hm2⟩:∃ m,m=gn N a2:=⟨_,rfl⟩
       rw [← hm2] at hg hgE h8 hem' e3
       simp only [nrow] at hg hgE h8 hem' e3
       have hwl2:(wcs ws2).length=8:=by simp [h8]
       have hcx:∀ x,x∈wcs ws2→AV.isClosed x=true:=fun a ha=>by
        obtain ⟨w,_,rfl⟩:=List.mem_map.1 ha
        rfl
       obtain ⟨cs2,hcs2⟩:∃ cs,cs=wcs ws2:=⟨_,rfl⟩
       rw [← hcs2] at hg hgE hwl2 hem' hcx
       simp only [AV.isClosed] at hcx
       have htk8:List.take 8 cs2=cs2:=List.take_of_length_le (by omega)
       clear hcs2 hm2 hS
       have zS:=jj hl2I<|jj hst1<|jj e5<|jj ha2I<|jj hg<|jj hgE<|jj hwl2<|jj htk8<|jj hcx<|hem'
       repeat' (first|(apply aw_seq_k;intro K hK)|(refine eF64 ?_)|(refine aw_cond (b:=_) (by exact rfl) (fun h=>?_) (fun h=>?_)<;>(try simp at h))|(refine eB ?_)|(refine hK _ ?_;clear hK)|(clear hK;refine hK _ ?_;clear hK)|(clear hK;clear hK;refine hK _ ?_;clear hK)|(clear hK;clear hK;clear hK;refine hK _ ?_;clear hK))
       all_goals clear zS
       refine ⟨by simp,?_⟩
       simp [leaves_iff,Tryz.f63,tkN,tkD,tkF]
       try exact dt
     ·obtain rfl:l=2:=by omega
      simp only [Nat.sub_self,clrR,List.append_nil] at g7 g8
      subst g7 g8
      repeat' (first|(apply aw_seq_k;intro K hK)|(refine eF64o ?_)|(refine aw_cond (b:=_) (by exact rfl) (fun h=>?_) (fun h=>?_)<;>(try simp at h))|(refine eB ?_)|(refine hK _ ?_;clear hK)|(clear hK;refine hK _ ?_;clear hK)|(clear hK;clear hK;refine hK _ ?_;clear hK)|(clear hK;clear hK;clear hK;refine hK _ ?_;clear hK))
      refine ⟨by simp,?_⟩
      simp [leaves_iff,Tryz.f63,tkN,tkD,tkF]
      try exact dt
   ·obtain ⟨z1,z2,z3⟩:=clrP_1 hvt ht hp hl0 hc0
    rw [z1,z2,z3]
    obtain ⟨dd,hdd⟩:∃ dd,dd=delK ds ((p/8:Nat):Int):=⟨_,rfl⟩
    have hddl:dd.length≤1000000:=by have h1:(delK ds ((p/8:Nat):Int)).length≤ds.length:=List.length_filter_le _ _;rw [hdd];omega
    rw [q2] at hl0 hc0
    simp only at hl0 hc0
    subst hl0
    have hdg':=hdg p 1 hp (by omega)
    rw [dig_dgt hp (by omega),show ((1:Nat):Int)=(1:Int) from rfl] at hdg'
    rw [q2] at hwa' hst0 ⊢
    simp only at hwa' hst0 ⊢
    obtain ⟨a,ha⟩:∃ a,a=(lsT (r,ns,ds) p).1:=⟨_,rfl⟩
    rw [← ha] at hst0 q5 b1 b2 b3 ⊢
    have hcI:¬ (c0:Int)=0:=by omega
    have haI:(a:Int)<(ns.length:Int):=by omega
    have hdl:=dgt_lt p 1
    have hgn:=nrows_gi q5
    have hgnE:=nrows_gE q5
    have h8:(gn ns a).2.length=8:=(ht.1 _ (gn_mem q5)).1
    have hset:=@nrows_setN ns a (dgt p 1) 0 q5
    have hwl:(wcs (gn ns a).2).length=8:=by simp [h8]
    have hsl:(setN ns a (dgt p 1) 0).length=ns.length:=setN_len
    obtain ⟨N0,hN0⟩:∃ R,R=setN ns a (dgt p 1) 0:=⟨_,rfl⟩
    rw [← hN0] at hset hsl b1 b2 b3 ⊢
    have hre':=fun (a b:Nat) (hab:a≠b) M nid h1 h2=>@callRe a b hab r N0 ds ((p/8:Nat):Int) b2 0 0 M nid h1 h2
    rw [← hre,hsl] at hre'
    have b1:Pv (r,N0,dd):=⟨b1.asc,b1.vm⟩
    have b2:tbOK (r,N0,dd):=⟨b2.1,b2.2.1,hddl⟩
    rw [← hdd] at hre' ⊢
    obtain ⟨lk,hlk⟩:∃ lk,lk=lastK (-1) ((p/8:Nat):Int) ds:=⟨_,rfl⟩
    rw [← hlk] at hre' ⊢
    rw [show ((p/8:Nat):Int)=(p:Int)/8 by omega] at hre'
    obtain ⟨⟨fr,ws⟩,hm⟩:∃ m,m=gn ns a:=⟨_,rfl⟩
    rw [← hm] at hgn hgnE hwl hset
    simp only at hgn hgnE hwl hset
    obtain ⟨cs,hcs⟩:∃ cs,cs=wcs ws:=⟨_,rfl⟩
    rw [← hcs] at hgn hgnE hwl hset
    obtain ⟨dg,hdg0⟩:∃ dg,dg=dgt p 1:=⟨_,rfl⟩
    rw [← hdg0] at hdl hdg' hset
    have hdI:(dg:Int)<8:=by omega
    have hs1:∀ w:Int,(I fr::cs).set (1+dg) (AV.v (.int .u64 w))=I fr::cs.set dg (AV.v (.int .u64 w)):=fun w=>by rw [Nat.add_comm];rfl
    clear hcs hm h8 hdg0 z1 z2 z3
    obtain ⟨⟨RN,RF⟩,hR⟩:∃ R,R=clrR r dd p 1 N0:=⟨_,rfl⟩
    rw [← hR]
    obtain ⟨RT,hRT⟩:∃ RT,RT=lk::RF:=⟨_,rfl⟩
    simp only [← hRT]
    simp only [TbV,TbO,TbC,U,Nat.zero_add] at hwa' hcl' hset hre' ⊢
    have hset':(nrows ns).set a (I fr::cs.set dg (AV.v (Value.int IntKind.u64 0)))=nrows N0:=hset
    have zS:=jj hwa'<|jj hcl'<|jj hc0<|jj hcI<|jj hst0<|jj hdg'<|jj q5<|jj haI<|jj hgn<|jj hgnE<|jj hwl<|jj hdl<|jj hdI<|jj hset'<|jj hs1<|jj hdv<|hre'
    repeat' (first|(apply aw_seq_k;intro K hK)|(refine eF64 ?_)|(refine aw_cond (b:=_) (by exact rfl) (fun h=>?_) (fun h=>?_)<;>(try simp at h))|(refine eB ?_)|(refine hK _ ?_;clear hK)|(clear hK;refine hK _ ?_;clear hK)|(clear hK;clear hK;refine hK _ ?_;clear hK)|(clear hK;clear hK;clear hK;refine hK _ ?_;clear hK))
    all_goals clear zS
    trace_state
    refine aw_loopK (s0:=?lps3) (m0:=?lpm3) (ι:={x:Nat×NdL×List Int // (1≤x.1∧x.1≤2)∧Pv (r,x.2.1,dd)∧tbOK (r,x.2.1,dd)∧x.2.1.length≤999000∧(∃ f,wlk (Mof x.2.1) r p=(f,x.1,0))∧(clrR r dd p (2 - x.1) x.2.1).1=RN∧x.2.2++(clrR r dd p (2 - x.1) x.2.1).2=RT∧x.2.2.length≤1+x.1}) [1,2,4,8] (fun s=>[(16,I s.1.1),(11,.sl 928 1 1 0 s.1.2.2.length)]) (fun s=>[(0,.box [I r,.sl 320 1 9 0 s.1.2.1.length,.sl 736 1 2 0 dd.length]),(320,.vec 1 9 false (nrows s.1.2.1)),(928,.vec 1 1 false (irows s.1.2.2)),(800,.dead)]) (fun s=>2 - s.1.1) ⟨(1,N0,[lk]),⟨by simp,by simp⟩,b1,b2,by simp only;omega,⟨_,b3⟩,by simp only;rw [← hR],by simp only;rw [← hR];simp;exact hRT.symm,by simp⟩ ?lhs3 ?lhm3 ?_ ?_
    case lhs3=>first|(simp [keepS];done)|(simp [keepS];rfl)
    case lhm3=>first|rfl|(simp;done)|(simp;rfl)
    ·simp only [List.length_cons,List.length_nil]
     exact le_of2 (by simp) (by simp [AVle,AV.under,AV.underL,irows,hsl]<;>omega) (by simp [AOle,AO.under,AV.underL,AV.under,irows,hsl]<;>omega)
    ·rintro ⟨⟨l,N,fd⟩,⟨g1,g2⟩,g3,g4,g5,⟨f,g6⟩,g7,g8,g9⟩
     simp only at g1 g2 g3 g4 g5 g6 g7 g8 g9 ⊢
     have tkN:List.take N.length (nrows N)=nrows N:=List.take_of_length_le (by simp)
     have tkD:List.take dd.length (prows dd)=prows dd:=List.take_of_length_le (by simp)
     have tkF:List.take fd.length (irows fd)=irows fd:=List.take_of_length_le (by simp)
     rcases Decidable.em (l<2) with hl2c|hl2c
     ·have hl2I:(l:Int)<2:=by omega
      obtain ⟨e1,e2,e3,e4,e5⟩:=end_nd g3 hp g6
      have hst1:=hst r N dd p ⟨by omega,g3.pto g4 hp⟩
      simp only [Int.toNat_natCast] at hst1
      obtain ⟨S,hS⟩:∃ S,S=lsT (r,N,dd) p:=⟨_,rfl⟩
      have hS1:(lsT (r,N,dd) p).1=S.1:=by rw [hS]
      rw [← hS] at hst1 e1 e2 e3 e4 e5
      obtain ⟨a2,b,c⟩:=S
      simp only at hst1 e1 e2 e3 e4 e5 hS1
      have ha2I:(a2:Int)<(N.length:Int):=by omega
      have hg:=nrows_gi e5
      have hgE:=nrows_gE e5
      have h8:(gn N a2).2.length=8:=(g4.1 _ (gn_mem e5)).1
      have hem':=hem (gn N a2) h8
      obtain ⟨k,hk2⟩:∃ k,2 - l=k+1:=⟨1 - l,by omega⟩
      rw [hk2] at g7 g8
      rcases Decidable.em ((gn N a2).2=zs8) with hze|hze
      ·obtain ⟨f2,k2,_,_,_,_,gg0,gg1,_,r8,r9,r10,_⟩:=round g3 g4 hp g6 hl2c (zs_leaf (by rw [e4,hze]))
       rw [clrR_y hS1 e3 hze] at g7 g8
       simp only at g7 g8
       obtain ⟨fn,rfl⟩:=Int.eq_ofNat_of_zero_le gg0
       simp only [Int.toNat_natCast] at g7 g8 r8 r9 r10
       rw [decide_eq_true hze] at hem'
       have hdK:tbOK (r,delK N (fn:Int),dd):=⟨delK_ok g4.1,by have h1:(delK N (fn:Int)).length≤N.length:=List.length_filter_le _ _;have h2:=g4.2.1;simp only at h2 ⊢;omega,g4.2.2⟩
       have hdKl:(delK N (fn:Int)).length≤N.length:=List.length_filter_le _ _
       have hrm':=fun (a b:Nat) (hab:a≠b) M nid h1 h2=>@callRm a b hab r N dd (fn:Int) g4 0 0 M nid h1 h2
       have hun':=fun (a b:Nat) (hab:a≠b) M nid=>@callUn a b hab r (delK N (fn:Int)) dd fn hdK (by omega) 0 0 M nid
       rw [← hrm] at hrm'
       rw [← hun] at hun'
       have hul:(unl (fn*256+4) (delK N (fn:Int))).length=(delK N (fn:Int)).length:=unl_len
       have hap:=irows_ap fd (fn:Int)
       have hfl:fd.length+1=(fd++[(fn:Int)]).length:=by simp
       have hfl2:fd.length≤1000000:=by omega
       obtain ⟨N2,hN2⟩:∃ x,x=unl (fn*256+4) (delK N (fn:Int)):=⟨_,rfl⟩
       rw [← hN2] at hun' hul g7 g8 r8 r9 r10
       obtain ⟨N1,hN1⟩:∃ x,x=delK N (fn:Int):=⟨_,rfl⟩
       rw [← hN1] at hun' hul hrm' hdKl
       obtain ⟨⟨fr2,ws2⟩,hm2⟩:∃ m,m=gn N a2:=⟨_,rfl⟩
       rw [← hm2] at hg hgE h8 hem' e3
       simp only [nrow] at hg hgE h8 hem' e3
       subst e3
       have hwl2:(wcs ws2).length=8:=by simp [h8]
       have hcx:∀ x,x∈wcs ws2→AV.isClosed x=true:=fun a ha=>by
        obtain ⟨w,_,rfl⟩:=List.mem_map.1 ha
        rfl
       obtain ⟨cs2,hcs2⟩:∃ cs,cs=wcs ws2:=⟨_,rfl⟩
       rw [← hcs2] at hg hgE hwl2 hem' hcx
       simp only [AV.isClosed] at hcx
       have htk8:List.take 8 cs2=cs2:=List.take_of_length_le (by omega)
       clear hcs2 hm2 hN1 hN2 hS
       simp only [Nat.zero_add] at hrm' hun'
       have zS:=jj hl2I<|jj hst1<|jj e5<|jj ha2I<|jj hg<|jj hgE<|jj hwl2<|jj htk8<|jj hcx<|jj hem'<|jj hrm'<|jj hun'<|jj hap<|jj tkF<|hfl2
       repeat' (first|(apply aw_seq_k;intro K hK)|(refine eF64 ?_)|(refine aw_cond (b:=_) (by exact rfl) (fun h=>?_) (fun h=>?_)<;>(try simp at h))|(refine eB ?_)|(refine hK _ ?_;clear hK)|(clear hK;refine hK _ ?_;clear hK)|(clear hK;clear hK;refine hK _ ?_;clear hK)|(clear hK;clear hK;clear hK;refine hK _ ?_;clear hK))
       all_goals clear zS
       trace_state
       refine ⟨l+1,N2,fd++[(fn:Int)],?_,⟨by omega,r8,r9,by omega,⟨_,r10⟩,by rw [show 2 - (l+1)=k by omega];exact g7,by rw [show 2 - (l+1)=k by omega,List.append_assoc];exact g8,by simp only [List.length_append,List.length_singleton];omega⟩,by omega⟩
       simp only [hul,← hfl]
       refine le_turn (s1:=?tus4) (m1:=?tum4) [(1440,320)] [1,2,4,8,11,16] [0,16,320,736,928,1440,321,912] ?tua4 ?tub4 ?tuc4 ?tud4 ?tue4 ?tuf4 ?tug4
       case tua4=>first|(simp [keepS];done)|(simp [keepS];rfl)
       case tub4=>first|(simp;done)|(simp;rfl)
       case tuc4=>simp
       case tud4=>simp
       case tue4=>simp
       case tuf4=>simp
       case tug4 =>
        simp [swp,vr]
        exact dle
      ·rw [clrR_n hS1 hze] at g7 g8
       rw [List.append_nil] at g8
       simp only at g7 g8
       subst g7 g8
       rw [decide_eq_false hze] at hem'
       obtain ⟨⟨fr2,ws2⟩,hm2⟩:∃ m,m=gn N a2:=⟨_,rfl⟩
       rw [← hm2] at hg hgE h8 hem' e3
       simp only [nrow] at hg hgE h8 hem' e3
       have hwl2:(wcs ws2).length=8:=by simp [h8]
       have hcx:∀ x,x∈wcs ws2→AV.isClosed x=true:=fun a ha=>by
        obtain ⟨w,_,rfl⟩:=List.mem_map.1 ha
        rfl
       obtain ⟨cs2,hcs2⟩:∃ cs,cs=wcs ws2:=⟨_,rfl⟩
       rw [← hcs2] at hg hgE hwl2 hem' hcx
       simp only [AV.isClosed] at hcx
       have htk8:List.take 8 cs2=cs2:=List.take_of_length_le (by omega)
       clear hcs2 hm2 hS
       have zS:=jj hl2I<|jj hst1<|jj e5<|jj ha2I<|jj hg<|jj hgE<|jj hwl2<|jj htk8<|jj hcx<|hem'
       repeat' (first|(apply aw_seq_k;intro K hK)|(refine eF64 ?_)|(refine aw_cond (b:=_) (by exact rfl) (fun h=>?_) (fun h=>?_)<;>(try simp at h))|(refine eB ?_)|(refine hK _ ?_;clear hK)|(clear hK;refine hK _ ?_;clear hK)|(clear hK;clear hK;refine hK _ ?_;clear hK)|(clear hK;clear hK;clear hK;refine hK _ ?_;clear hK))
       all_goals clear zS
       refine ⟨by simp,?_⟩
       simp [leaves_iff,Tryz.f63,tkN,tkD,tkF]
       try exact dt
     ·obtain rfl:l=2:=by omega
      simp only [Nat.sub_self,clrR,List.append_nil] at g7 g8
      subst g7 g8
      repeat' (first|(apply aw_seq_k;intro K hK)|(refine eF64o ?_)|(refine aw_cond (b:=_) (by exact rfl) (fun h=>?_) (fun h=>?_)<;>(try simp at h))|(refine eB ?_)|(refine hK _ ?_;clear hK)|(clear hK;refine hK _ ?_;clear hK)|(clear hK;clear hK;refine hK _ ?_;clear hK)|(clear hK;clear hK;clear hK;refine hK _ ?_;clear hK))
      refine ⟨by simp,?_⟩
      simp [leaves_iff,Tryz.f63,tkN,tkD,tkF]
      try exact dt
end Go.AM
