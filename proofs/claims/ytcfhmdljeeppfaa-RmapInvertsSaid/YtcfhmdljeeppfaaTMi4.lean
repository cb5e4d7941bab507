/- A part of the proof: what functions of the program compute, by abstract execution of their code. Its theorems hold without further condition. -/
import Derived.Test.YtcfhmdljeeppfaaAmHe
import Derived.Test.YtcfhmdljeeppfaaTPt57
import Derived.Test.YtcfhmdljeeppfaaAmT
import Derived.Test.YtcfhmdljeeppfaaTPtC
import Derived.Test.YtcfhmdljeeppfaaAmZa
set_option linter.all false
namespace Go.AM
open Go Go.Proofs
def ivF (s:Int) (x:Bool×List (List Dp)) (l:List (Int×Int)):Bool×List (List Dp):=l.foldl (inP s) x
theorem ivF_app {s:Int} {x:Bool×List (List Dp)} {a b:List (Int×Int)}:ivF s x (a++b)=ivF s (ivF s x a) b:=by simp [ivF]
theorem ivF_1 {s:Int} {x:Bool×List (List Dp)} {e:Int×Int}:ivF s x [e]=inP s x e:=rfl
theorem inP_len {s:Int} {x:Bool×List (List Dp)} {e:Int×Int}:(inP s x e).2.length=x.2.length:=by
 unfold inP
 split<;>simp
theorem inP_row {s:Int} {x:Bool×List (List Dp)} {e:Int×Int} (i:Nat):((inP s x e).2.getD i []).length≤(x.2.getD i []).length+1:=by
 unfold inP
 split
 ·simp only
  by_cases h:e.2.toNat=i
  ·subst h
   by_cases h2:e.2.toNat<x.2.length
   ·rw [List.getD_eq_getElem?_getD,List.getElem?_set_self h2]
    simp
   ·rw [List.set_eq_of_length_le (by omega)]
    omega
  ·rw [List.getD_eq_getElem?_getD,List.getElem?_set_ne h,List.getD_eq_getElem?_getD]
   omega
 ·simp only
  omega
theorem ivF_len {s:Int}:∀ {l:List (Int×Int)} {x:Bool×List (List Dp)},(ivF s x l).2.length=x.2.length
 | [],x=>rfl
 | e::l,x=>by
  show (ivF s (inP s x e) l).2.length=_
  rw [ivF_len,inP_len]
theorem ivF_row {s:Int} (i:Nat):∀ {l:List (Int×Int)} {x:Bool×List (List Dp)},((ivF s x l).2.getD i []).length≤(x.2.getD i []).length+l.length
 | [],x=>by simp [ivF]
 | e::l,x=>by
  have h1:=ivF_row (s:=s) i (l:=l) (x:=inP s x e)
  have h2:=@inP_row s x e i
  show ((ivF s (inP s x e) l).2.getD i []).length≤_
  simp only [List.length_cons]
  omega
theorem HidI.more {w0:World} {l0:List Nat} {G:Nat→Prop} {k1 k2 k3 k4:Nat} {xs:List (List AV)} {s:Int} {x:Bool×List (List Dp)} {F F':List Nat} {w:World} (h:HidI w0 l0 G k1 k2 k3 k4 xs s x F w)
  (hs:∀ k∈F,k∈F') (hl:∀ k∈F',w0.heap.size≤k∨k∈l0):HidI w0 l0 G k1 k2 k3 k4 xs s x F' w:=by
 obtain ⟨E,o,L,vers,h1,h2⟩:=h
 exact ⟨E,o,L,vers,h1.more hs hl,h2⟩
theorem HidI.low {w0:World} {l0:List Nat} {G:Nat→Prop} {k1 k2 k3 k4:Nat} {xs:List (List AV)} {s:Int} {x:Bool×List (List Dp)} {F:List Nat} {w:World} (h:HidI w0 l0 G k1 k2 k3 k4 xs s x F w):∀ k∈F,w0.heap.size≤k∨k∈l0:=by
 obtain ⟨E,o,L,vers,h1,h2⟩:=h
 exact h1.low
theorem HidI.frame {w0:World} {l0:List Nat} {G:Nat→Prop} {k1 k2 k3 k4:Nat} {xs:List (List AV)} {s:Int} {x:Bool×List (List Dp)} {F:List Nat} {w w':World} (h:HidI w0 l0 G k1 k2 k3 k4 xs s x F w) (hfr:Frame w F w'):Frame w0 l0 w':=by
 obtain ⟨E,o,L,vers,h1,h2⟩:=h
 exact h1.frame hfr
theorem HidI.size {w0:World} {l0:List Nat} {G:Nat→Prop} {k1 k2 k3 k4:Nat} {xs:List (List AV)} {s:Int} {x:Bool×List (List Dp)} {F:List Nat} {w:World} (h:HidI w0 l0 G k1 k2 k3 k4 xs s x F w):w0.heap.size≤w.heap.size:=by
 obtain ⟨E,o,L,vers,h1,h2⟩:=h
 exact h1.inv.frame.size
def bod (n:Nat) (x:Bool×List (List Dp)):Prop:=∀ i,(x.2.getD i []).length≤n
set_option maxHeartbeats 16000000 in
theorem namedX (X:AX) (hX:XOK Try.prog X) (hw:X.W wT) (hli:∀ t:Tb,tbOK t→∀ M n,X.call 29 [TbV t] M n=some (.sl n 1 2 0 (lstT t).length,[(n,.vec 1 2 false (erows (lstT t)))]))
  (hde:∀ w:Nat,w<2^64→∀ M k,X.call 30 [U w] M k=some (.tup [EnV (decR w).1,I (decR w).2],[]))
  {w0:World} {l0:List Nat} {G:Nat→Prop} {k1 k2 k3 k4:Nat} {xs:List (List AV)} {s:Int} {x:Bool×List (List Dp)} {F:List Nat} {w:World} (hn:xs.length≤1000000) (hh:HidI w0 l0 G k1 k2 k3 k4 xs s x F w) (hb:bod 900000 x)
  {t:Tb} (ht:tbOK t) {tv:Value} {Gw:Nat→Prop} (htv:CRep w Gw (TbV t) tv) (hG:∀ k,Gw k→k<w.heap.size) (hF:∀ k∈F,k<w.heap.size∧¬ Gw k) :
  Calls Try.prog 40 [tv,.func (.func 74) #[] #[pK k1,pK k2,pK k3,pK k4]].toArray w fun e w'=>∃ r,e=.returned r∧HidI w0 l0 G k1 k2 k3 k4 xs s (ivF s x (nmT (lstT t))) (F++List.range' w.heap.size (w'.heap.size - w.heap.size)) w'∧Frame w F w':=by
 let c:Cx:=⟨Try.prog,X,60,w,⟨F,Env.start Gw,0⟩⟩
 let J:Bool×List (List Dp)→List Nat→World→Prop:=fun x F' w'=>HidI w0 l0 G k1 k2 k3 k4 xs s x F' w'∧∀ k∈F',w.heap.size≤k∨k∈F
 have hJ:Keeps w F J:=fun x F' u u' h1 h2 h3 h4 h5=>⟨h1.1.keep h2 (hh.frame h4) h5,h1.2⟩
 have hJF:∀ x F' u,J x F' u→∀ k∈F',w.heap.size≤k∨k∈F:=fun x F' u h=>h.2
 have hcall:∀ x pg nu,bod 1000000 x→0≤nu→∀ (E:Env) (u:World) (F':List Nat) (vs:List Value),J x F' u→Inv w ⟨F,Env.start Gw,0⟩ E u→(∀ k∈F',Unt E u k)→RepL E u ([I pg,I nu]++[.v (pK k1),.v (pK k2),.v (pK k3),.v (pK k4)]) vs →
   Calls Try.prog 74 vs.toArray u fun e w'=>∃ r x',e=.returned r∧x'=inP s x (pg,nu)∧J x' (F'++List.range' u.heap.size (w'.heap.size - u.heap.size)) w'∧Frame u F' w':=by
  intro x pg nu h1 h2 E u F' vs h hI hU hr
  obtain rfl:vs=[Value.int .i64 pg,.int .i64 nu,pK k1,pK k2,pK k3,pK k4]:=repL_vm.1 hr
  refine Calls.mono (h.1.call hX hw hn h1 pg nu h2) fun e w' ⟨r,q1,q2,q3⟩=>⟨r,_,q1,rfl,⟨q2,fun k hk=>?_⟩,q3⟩
  have hsz:w.heap.size≤u.heap.size:=hI.frame.size
  rcases List.mem_append.1 hk with hk|hk
  ·exact h.2 k hk
  ·have:=List.mem_range'_1.1 hk
   exact .inl (by omega)
 have hbd:BodyOK Try.prog 74:=body_ok _ Try.func74 (by kernel_rfl)
 obtain ⟨FN,hFN⟩:∃ FN,FN=AV.fn 74 [.v (pK k1),.v (pK k2),.v (pK k3),.v (pK k4)]:=⟨_,rfl⟩
 have hFu:∀ n,FN.under n:=fun n=>by rw [hFN];simp [AV.under,AV.underL]
 have hFl:AVle FN FN:=by rw [hFN];simp [AVle]
 have hc0:c.OK:=⟨hX,mixed⟩
 have hbod:∀ es:List (Int×Int),es.length≤5000→bod 1000000 (ivF s x es):=fun es h i=>by
  have h1:=ivF_row (s:=s) i (l:=es) (x:=x)
  have h2:=hb i
  omega
 have hall:AWX c J (Try.f40.body.get rfl) ⟨enterS [TbV t,FN],[],0⟩ x (fun e st' x'=>(e=.normal∨e=.ret)∧x'=ivF s x (nmT (lstT t))):=by
  obtain ⟨r,ns,ds⟩:=t
  have li:=hli _ ht
  have hlu:=lst_u64 ht
  have hlp:=@lst_pg (r,ns,ds)
  have hll:=@lstT_l5 (r,ns,ds)
  obtain ⟨l,hL⟩:∃ l,l=lstT (r,ns,ds):=⟨_,rfl⟩
  rw [← hL] at li hlu hlp hll ⊢
  simp only [TbV] at li ⊢
  have hll2:=@nmT_len l
  refine awx_step hJ fun w1 bl1 hn1 K hK=>?_
  have hc:Cx.OK ⟨Try.prog,X,60,w1,bl1⟩:=⟨hX,mixed⟩
  show AW ⟨Try.prog,X,60,w1,bl1⟩ _ _ _
  have zS:=li
  repeat' (first|(apply aw_seq_k;intro K hK)|(refine eM64 ?_)|(refine aw_cond (b:=_) (by exact rfl) (fun h=>?_) (fun h=>?_)<;>(try simp at h))|(refine eB ?_)|(refine hK _ ?_;clear hK)|(clear hK;refine hK _ ?_;clear hK)|(clear hK;clear hK;refine hK _ ?_;clear hK)|(clear hK;clear hK;clear hK;refine hK _ ?_;clear hK))
  all_goals clear zS
  refine awx_step hJ fun w1 bl1 hn1 K hK=>?_
  have hc:Cx.OK ⟨Try.prog,X,60,w1,bl1⟩:=⟨hX,mixed⟩
  show AW ⟨Try.prog,X,60,w1,bl1⟩ _ _ _
  have zS:=li
  repeat' (first|(apply aw_seq_k;intro K hK)|(refine eM64 ?_)|(refine aw_cond (b:=_) (by exact rfl) (fun h=>?_) (fun h=>?_)<;>(try simp at h))|(refine eB ?_)|(refine hK _ ?_;clear hK)|(clear hK;refine hK _ ?_;clear hK)|(clear hK;clear hK;refine hK _ ?_;clear hK)|(clear hK;clear hK;clear hK;refine hK _ ?_;clear hK))
  all_goals clear zS
  refine awx_block (awx_loop (ι:={i:Nat // i≤l.length}) (fun i=>⟨[(12,I i.1),(11,I l.length),(10,.sl 32 1 2 0 l.length),(1,FN)],[(32,.vec 1 2 false (erows l))],80⟩) (fun i=>ivF s x (nmT (l.take i.1))) (fun i=>l.length - i.1) ⟨0,by omega⟩ ?_ ?_ ?_)
  ·show Le 0 _ _
   exact le_of2 (by simp) (by simp [AVle,AV.under,AV.underL,hFu,hFl,U]<;>omega) (by simp [AOle,AO.under,AV.underL,AV.under,hFu,hFl,U]<;>omega)
  ·simp [nmT,ivF]
  ·rintro ⟨i,hi⟩
   simp only
   rcases Decidable.em (i<l.length) with hil|hil
   ·have hilI:(i:Int)<(l.length:Int):=by omega
    have hg:=erows_giM hil
    have hgE:=erows_gEM hil
    have hu:=hlu _ (gpe_mem hil)
    have hpg:=hlp _ (gpe_mem hil)
    have de:=hde _ hu
    have hrg:=decR_rng (gpe l i).2
    have hns:=nmT_s hil
    obtain ⟨N,hN⟩:∃ N,N=nmT (l.take i):=⟨_,rfl⟩
    have hNl:N.length≤4096:=by
     have h2:=@nmT_len (l.take i)
     have h3:(l.take i).length≤512:=by simp;omega
     rw [hN];omega
    have hNs:nmT (l.take (i+1))=N++nmE (gpe l i):=by rw [hns,hN]
    rw [← hN]
    obtain ⟨⟨pg,v⟩,hx⟩:∃ x,x=gpe l i:=⟨_,rfl⟩
    rw [← hx] at hg hgE hu hpg de hrg hNs
    simp only at hg hgE hu hpg de hrg
    have hnE:nmE (pg,v)=if (decR v).1.1=1∧(decR v).1.2.2.2.2.2=true then (List.range 8).map fun i=>(pg+(i:Nat),(decR v).1.2.1+(i:Nat)) else if (decR v).1.1=1∨(decR v).1.1=3 then [(pg,(decR v).1.2.1)] else []:=rfl
    obtain ⟨⟨⟨k,num,b1,b2,b3,hgh⟩,er⟩,hD⟩:∃ x,x=decR v:=⟨_,rfl⟩
    rw [← hD] at de hrg hnE
    simp only at de hrg hnE
    simp only [EnV] at de
    refine awx_step hJ fun w1 bl1 hn1 K hK=>?_
    have hc:Cx.OK ⟨Try.prog,X,60,w1,bl1⟩:=⟨hX,mixed⟩
    show AW ⟨Try.prog,X,60,w1,bl1⟩ _ _ _
    have zS:=hilI
    repeat' (first|(apply aw_seq_k;intro K hK)|(refine eM64 ?_)|(refine aw_cond (b:=_) (by exact rfl) (fun h=>?_) (fun h=>?_)<;>(try simp at h))|(refine eB ?_)|(refine hK _ ?_;clear hK)|(clear hK;refine hK _ ?_;clear hK)|(clear hK;clear hK;refine hK _ ?_;clear hK)|(clear hK;clear hK;clear hK;refine hK _ ?_;clear hK))
    all_goals clear zS
    refine awx_seq (awx_cond (b:=true) rfl (fun _=>awx_skip ?_) fun h=>by cases h)
    show AWX c J _ _ _ _
    refine awx_seq (awx_block ?_)
    refine awx_step hJ fun w1 bl1 hn1 K hK=>?_
    have hc:Cx.OK ⟨Try.prog,X,60,w1,bl1⟩:=⟨hX,mixed⟩
    show AW ⟨Try.prog,X,60,w1,bl1⟩ _ _ _
    have zS:=jj hilI<|jj hg<|hgE
    repeat' (first|(apply aw_seq_k;intro K hK)|(refine eM64 ?_)|(refine aw_cond (b:=_) (by exact rfl) (fun h=>?_) (fun h=>?_)<;>(try simp at h))|(refine eB ?_)|(refine hK _ ?_;clear hK)|(clear hK;refine hK _ ?_;clear hK)|(clear hK;clear hK;refine hK _ ?_;clear hK)|(clear hK;clear hK;clear hK;refine hK _ ?_;clear hK))
    all_goals clear zS
    refine awx_step hJ fun w1 bl1 hn1 K hK=>?_
    have hc:Cx.OK ⟨Try.prog,X,60,w1,bl1⟩:=⟨hX,mixed⟩
    show AW ⟨Try.prog,X,60,w1,bl1⟩ _ _ _
    have zS:=de
    repeat' (first|(apply aw_seq_k;intro K hK)|(refine eM64 ?_)|(refine aw_cond (b:=_) (by exact rfl) (fun h=>?_) (fun h=>?_)<;>(try simp at h))|(refine eB ?_)|(refine hK _ ?_;clear hK)|(clear hK;refine hK _ ?_;clear hK)|(clear hK;clear hK;refine hK _ ?_;clear hK)|(clear hK;clear hK;clear hK;refine hK _ ?_;clear hK))
    all_goals clear zS
    refine awx_block ?_
    rcases Decidable.em (k=1) with hk|hk
    ·subst hk
     cases hgh with
     | true =>
      rw [if_pos (by simp)] at hnE
      refine awx_step hJ fun w1 bl1 hn1 K hK=>?_
      have hc:Cx.OK ⟨Try.prog,X,60,w1,bl1⟩:=⟨hX,mixed⟩
      show AW ⟨Try.prog,X,60,w1,bl1⟩ _ _ _
      have zS:=hilI
      repeat' (first|(apply aw_seq_k;intro K hK)|(refine eM64 ?_)|(refine aw_cond (b:=_) (by exact rfl) (fun h=>?_) (fun h=>?_)<;>(try simp at h))|(refine eB ?_)|(refine hK _ ?_;clear hK)|(clear hK;refine hK _ ?_;clear hK)|(clear hK;clear hK;refine hK _ ?_;clear hK)|(clear hK;clear hK;clear hK;refine hK _ ?_;clear hK))
      all_goals clear zS
      refine awx_cond (b:=true) rfl (fun _=>?_) fun h=>by cases h
      refine awx_step hJ fun w1 bl1 hn1 K hK=>?_
      have hc:Cx.OK ⟨Try.prog,X,60,w1,bl1⟩:=⟨hX,mixed⟩
      show AW ⟨Try.prog,X,60,w1,bl1⟩ _ _ _
      have zS:=hilI
      repeat' (first|(apply aw_seq_k;intro K hK)|(refine eM64 ?_)|(refine aw_cond (b:=_) (by exact rfl) (fun h=>?_) (fun h=>?_)<;>(try simp at h))|(refine eB ?_)|(refine hK _ ?_;clear hK)|(clear hK;refine hK _ ?_;clear hK)|(clear hK;clear hK;refine hK _ ?_;clear hK)|(clear hK;clear hK;clear hK;refine hK _ ?_;clear hK))
      all_goals clear zS
      have hQs:∀ j,j<8→(nmE (pg,v)).take (j+1)=(nmE (pg,v)).take j++[(pg+(j:Nat),num+(j:Nat))]:=fun j hj=>by
       rw [hnE,List.take_add_one]
       simp [List.getElem?_range,hj]
      have hQl:∀ j,((nmE (pg,v)).take j).length≤8:=fun j=>by
       have h2:=@nmE_len (pg,v)
       have h3:((nmE (pg,v)).take j).length≤(nmE (pg,v)).length:=by simp;omega
       omega
      have hQ8:(nmE (pg,v)).take 8=nmE (pg,v):=List.take_of_length_le nmE_len
      clear hnE
      refine awx_block (awx_loop (ι:={j:Nat // j≤8}) (fun j=>⟨[(30,I j.1),(6,.bp 256 0),(5,.bp 128 0),(12,I i),(11,I l.length),(10,.sl 32 1 2 0 l.length),(1,FN)],[(32,.vec 1 2 false (erows l)),(128,.box [I pg,U v]),(256,.box [I 1,I num,B b1,B b2,B b3,B true])],448⟩) (fun j=>ivF s x (N++(nmE (pg,v)).take j.1)) (fun j=>8 - j.1) ⟨0,by omega⟩ ?_ ?_ ?_)
      ·show Le 0 _ _
       exact le_of2 (by simp) (by simp [AVle,AV.under,AV.underL,hFu,hFl,U]<;>omega) (by simp [AOle,AO.under,AV.underL,AV.under,hFu,hFl,U]<;>omega)
      ·simp
      ·rintro ⟨j,hj⟩
       simp only
       rcases Decidable.em (j<8) with hjl|hjl
       ·have hjI:(j:Int)<8:=by omega
        have hql:=hQl j
        refine awx_step hJ fun w1 bl1 hn1 K hK=>?_
        have hc:Cx.OK ⟨Try.prog,X,60,w1,bl1⟩:=⟨hX,mixed⟩
        show AW ⟨Try.prog,X,60,w1,bl1⟩ _ _ _
        have zS:=hjI
        repeat' (first|(apply aw_seq_k;intro K hK)|(refine eM64 ?_)|(refine aw_cond (b:=_) (by exact rfl) (fun h=>?_) (fun h=>?_)<;>(try simp at h))|(refine eB ?_)|(refine hK _ ?_;clear hK)|(clear hK;refine hK _ ?_;clear hK)|(clear hK;clear hK;refine hK _ ?_;clear hK)|(clear hK;clear hK;clear hK;refine hK _ ?_;clear hK))
        all_goals clear zS
        refine awx_seq (awx_cond (b:=true) rfl (fun _=>awx_skip ?_) fun h=>by cases h)
        show AWX c J _ _ _ _
        refine awx_seq (awx_block ?_)
        refine awx_step hJ fun w1 bl1 hn1 K hK=>?_
        have hc:Cx.OK ⟨Try.prog,X,60,w1,bl1⟩:=⟨hX,mixed⟩
        show AW ⟨Try.prog,X,60,w1,bl1⟩ _ _ _
        have zS:=hjI
        repeat' (first|(apply aw_seq_k;intro K hK)|(refine eM64 ?_)|(refine aw_cond (b:=_) (by exact rfl) (fun h=>?_) (fun h=>?_)<;>(try simp at h))|(refine eB ?_)|(refine hK _ ?_;clear hK)|(clear hK;refine hK _ ?_;clear hK)|(clear hK;clear hK;refine hK _ ?_;clear hK)|(clear hK;clear hK;clear hK;refine hK _ ?_;clear hK))
        all_goals clear zS
        refine awx_callK (fun x'=>x'=inP s (ivF s x (N++(nmE (pg,v)).take j)) (pg+(j:Nat),num+(j:Nat))) [.v (pK k1),.v (pK k2),.v (pK k3),.v (pK k4)] [I (pg+(j:Nat)),I (num+(j:Nat))] 9 hc0 hJ hJF rfl rfl rfl rfl (by show 42<60;decide) hbd (hcall _ _ _ (hbod _ (by simp only [List.length_append];omega)) (by omega)) fun K hK=>?_
        show RunQ (Types Try.prog) X _ 60 _ _ 0 _ _ K
        simp [List.zipIdx,-getM,getM_hit,getM_miss,getM_none]
        (repeat (simp (disch:=first|omega|assumption|fail) only [if_pos,if_neg,wrap64];try simp [List.zipIdx,-getM,getM_hit,getM_miss,getM_none]))
        refine hK _ _ (by simp [hFN]) rfl fun x' hx'=>?_
        subst hx'
        show AWX c J _ _ _ _
        refine awx_last hJ fun w1 bl1 hn1 K hK=>?_
        have hc:Cx.OK ⟨Try.prog,X,60,w1,bl1⟩:=⟨hX,mixed⟩
        show AW ⟨Try.prog,X,60,w1,bl1⟩ _ _ _
        have zS:=hjI
        repeat' (first|(apply aw_seq_k;intro K hK)|(refine eM64 ?_)|(refine aw_cond (b:=_) (by exact rfl) (fun h=>?_) (fun h=>?_)<;>(try simp at h))|(refine eB ?_)|(refine hK _ ?_;clear hK)|(clear hK;refine hK _ ?_;clear hK)|(clear hK;clear hK;refine hK _ ?_;clear hK)|(clear hK;clear hK;clear hK;refine hK _ ?_;clear hK))
        all_goals clear zS
        refine ⟨⟨j+1,by omega⟩,?_,?_,by show 8 - (j+1)<8 - j;omega⟩
        ·show Le 0 _ _
         exact le_of2 (by simp) (by simp [AVle,AV.under,AV.underL,hFu,hFl,U]<;>omega) (by simp [AOle,AO.under,AV.underL,AV.under,hFu,hFl,U]<;>omega)
        ·show ivF s x (N++(nmE (pg,v)).take (j+1))=_
         rw [hQs j hjl,← List.append_assoc,ivF_app,ivF_1]
       ·obtain rfl:j=8:=by omega
        refine awx_step hJ fun w1 bl1 hn1 K hK=>?_
        have hc:Cx.OK ⟨Try.prog,X,60,w1,bl1⟩:=⟨hX,mixed⟩
        show AW ⟨Try.prog,X,60,w1,bl1⟩ _ _ _
        have zS:=hilI
        repeat' (first|(apply aw_seq_k;intro K hK)|(refine eM64 ?_)|(refine aw_cond (b:=_) (by exact rfl) (fun h=>?_) (fun h=>?_)<;>(try simp at h))|(refine eB ?_)|(refine hK _ ?_;clear hK)|(clear hK;refine hK _ ?_;clear hK)|(clear hK;clear hK;refine hK _ ?_;clear hK)|(clear hK;clear hK;clear hK;refine hK _ ?_;clear hK))
        all_goals clear zS
        refine awx_seq (awx_cond (b:=false) rfl (fun h=>by cases h) fun _=>awx_exit ?_)
        show AWX c J _ _ _ _
        refine awx_last hJ fun w1 bl1 hn1 K hK=>?_
        have hc:Cx.OK ⟨Try.prog,X,60,w1,bl1⟩:=⟨hX,mixed⟩
        show AW ⟨Try.prog,X,60,w1,bl1⟩ _ _ _
        have zS:=hilI
        repeat' (first|(apply aw_seq_k;intro K hK)|(refine eM64 ?_)|(refine aw_cond (b:=_) (by exact rfl) (fun h=>?_) (fun h=>?_)<;>(try simp at h))|(refine eB ?_)|(refine hK _ ?_;clear hK)|(clear hK;refine hK _ ?_;clear hK)|(clear hK;clear hK;refine hK _ ?_;clear hK)|(clear hK;clear hK;clear hK;refine hK _ ?_;clear hK))
        all_goals clear zS
        refine ⟨⟨i+1,by omega⟩,?_,?_,by show l.length - (i+1)<l.length - i;omega⟩
        ·show Le 0 _ _
         exact le_of2 (by simp) (by simp [AVle,AV.under,AV.underL,hFu,hFl,U]<;>omega) (by simp [AOle,AO.under,AV.underL,AV.under,hFu,hFl,U]<;>omega)
        ·show ivF s x (nmT (l.take (i+1)))=_
         rw [hNs,hQ8]
     | false =>
      rw [if_neg (by simp),if_pos (by simp)] at hnE
      refine awx_step hJ fun w1 bl1 hn1 K hK=>?_
      have hc:Cx.OK ⟨Try.prog,X,60,w1,bl1⟩:=⟨hX,mixed⟩
      show AW ⟨Try.prog,X,60,w1,bl1⟩ _ _ _
      have zS:=hilI
      repeat' (first|(apply aw_seq_k;intro K hK)|(refine eM64 ?_)|(refine aw_cond (b:=_) (by exact rfl) (fun h=>?_) (fun h=>?_)<;>(try simp at h))|(refine eB ?_)|(refine hK _ ?_;clear hK)|(clear hK;refine hK _ ?_;clear hK)|(clear hK;clear hK;refine hK _ ?_;clear hK)|(clear hK;clear hK;clear hK;refine hK _ ?_;clear hK))
      all_goals clear zS
      refine awx_cond (b:=false) rfl (fun h=>by cases h) fun _=>?_
      refine awx_step hJ fun w1 bl1 hn1 K hK=>?_
      have hc:Cx.OK ⟨Try.prog,X,60,w1,bl1⟩:=⟨hX,mixed⟩
      show AW ⟨Try.prog,X,60,w1,bl1⟩ _ _ _
      have zS:=hilI
      repeat' (first|(apply aw_seq_k;intro K hK)|(refine eM64 ?_)|(refine aw_cond (b:=_) (by exact rfl) (fun h=>?_) (fun h=>?_)<;>(try simp at h))|(refine eB ?_)|(refine hK _ ?_;clear hK)|(clear hK;refine hK _ ?_;clear hK)|(clear hK;clear hK;refine hK _ ?_;clear hK)|(clear hK;clear hK;clear hK;refine hK _ ?_;clear hK))
      all_goals clear zS
      refine awx_cond (b:=true) rfl (fun _=>?_) fun h=>by cases h
      refine awx_callK (fun x'=>x'=inP s (ivF s x N) (pg,num)) [.v (pK k1),.v (pK k2),.v (pK k3),.v (pK k4)] [I pg,I num] 5 hc0 hJ hJF rfl rfl rfl rfl (by show 58<60;decide) hbd (hcall _ _ _ (hbod _ (by omega)) (by omega)) fun K hK=>?_
      show RunQ (Types Try.prog) X _ 60 _ _ 0 _ _ K
      simp [List.zipIdx,-getM,getM_hit,getM_miss,getM_none]
      refine hK _ _ (by simp [hFN]) rfl fun x' hx'=>?_
      subst hx'
      show AWX c J _ _ _ _
      refine awx_last hJ fun w1 bl1 hn1 K hK=>?_
      have hc:Cx.OK ⟨Try.prog,X,60,w1,bl1⟩:=⟨hX,mixed⟩
      show AW ⟨Try.prog,X,60,w1,bl1⟩ _ _ _
      have zS:=hilI
      repeat' (first|(apply aw_seq_k;intro K hK)|(refine eM64 ?_)|(refine aw_cond (b:=_) (by exact rfl) (fun h=>?_) (fun h=>?_)<;>(try simp at h))|(refine eB ?_)|(refine hK _ ?_;clear hK)|(clear hK;refine hK _ ?_;clear hK)|(clear hK;clear hK;refine hK _ ?_;clear hK)|(clear hK;clear hK;clear hK;refine hK _ ?_;clear hK))
      all_goals clear zS
      refine ⟨⟨i+1,by omega⟩,?_,?_,by show l.length - (i+1)<l.length - i;omega⟩
      ·show Le 0 _ _
       exact le_of2 (by simp) (by simp [AVle,AV.under,AV.underL,hFu,hFl,U]<;>omega) (by simp [AOle,AO.under,AV.underL,AV.under,hFu,hFl,U]<;>omega)
      ·show ivF s x (nmT (l.take (i+1)))=_
       rw [hNs,hnE,ivF_app,ivF_1]
    ·have hk1:¬ (1:Int)=k:=fun e=>hk e.symm
     rcases Decidable.em (k=3) with h3|h3
     ·subst h3
      rw [if_neg (by simp),if_pos (by simp)] at hnE
      refine awx_step hJ fun w1 bl1 hn1 K hK=>?_
      have hc:Cx.OK ⟨Try.prog,X,60,w1,bl1⟩:=⟨hX,mixed⟩
      show AW ⟨Try.prog,X,60,w1,bl1⟩ _ _ _
      have zS:=jj hilI<|hk
      repeat' (first|(apply aw_seq_k;intro K hK)|(refine eM64 ?_)|(refine aw_cond (b:=_) (by exact rfl) (fun h=>?_) (fun h=>?_)<;>(try simp at h))|(refine eB ?_)|(refine hK _ ?_;clear hK)|(clear hK;refine hK _ ?_;clear hK)|(clear hK;clear hK;refine hK _ ?_;clear hK)|(clear hK;clear hK;clear hK;refine hK _ ?_;clear hK))
      all_goals clear zS
      refine awx_cond (b:=false) rfl (fun h=>by cases h) fun _=>?_
      refine awx_step hJ fun w1 bl1 hn1 K hK=>?_
      have hc:Cx.OK ⟨Try.prog,X,60,w1,bl1⟩:=⟨hX,mixed⟩
      show AW ⟨Try.prog,X,60,w1,bl1⟩ _ _ _
      have zS:=jj hilI<|hk
      repeat' (first|(apply aw_seq_k;intro K hK)|(refine eM64 ?_)|(refine aw_cond (b:=_) (by exact rfl) (fun h=>?_) (fun h=>?_)<;>(try simp at h))|(refine eB ?_)|(refine hK _ ?_;clear hK)|(clear hK;refine hK _ ?_;clear hK)|(clear hK;clear hK;refine hK _ ?_;clear hK)|(clear hK;clear hK;clear hK;refine hK _ ?_;clear hK))
      all_goals clear zS
      refine awx_cond (b:=true) rfl (fun _=>?_) fun h=>by cases h
      refine awx_callK (fun x'=>x'=inP s (ivF s x N) (pg,num)) [.v (pK k1),.v (pK k2),.v (pK k3),.v (pK k4)] [I pg,I num] 5 hc0 hJ hJF rfl rfl rfl rfl (by show 58<60;decide) hbd (hcall _ _ _ (hbod _ (by omega)) (by omega)) fun K hK=>?_
      show RunQ (Types Try.prog) X _ 60 _ _ 0 _ _ K
      simp [List.zipIdx,-getM,getM_hit,getM_miss,getM_none]
      refine hK _ _ (by simp [hFN]) rfl fun x' hx'=>?_
      subst hx'
      show AWX c J _ _ _ _
      refine awx_last hJ fun w1 bl1 hn1 K hK=>?_
      have hc:Cx.OK ⟨Try.prog,X,60,w1,bl1⟩:=⟨hX,mixed⟩
      show AW ⟨Try.prog,X,60,w1,bl1⟩ _ _ _
      have zS:=hilI
      repeat' (first|(apply aw_seq_k;intro K hK)|(refine eM64 ?_)|(refine aw_cond (b:=_) (by exact rfl) (fun h=>?_) (fun h=>?_)<;>(try simp at h))|(refine eB ?_)|(refine hK _ ?_;clear hK)|(clear hK;refine hK _ ?_;clear hK)|(clear hK;clear hK;refine hK _ ?_;clear hK)|(clear hK;clear hK;clear hK;refine hK _ ?_;clear hK))
      all_goals clear zS
      refine ⟨⟨i+1,by omega⟩,?_,?_,by show l.length - (i+1)<l.length - i;omega⟩
      ·show Le 0 _ _
       exact le_of2 (by simp) (by simp [AVle,AV.under,AV.underL,hFu,hFl,U]<;>omega) (by simp [AOle,AO.under,AV.underL,AV.under,hFu,hFl,U]<;>omega)
      ·show ivF s x (nmT (l.take (i+1)))=_
       rw [hNs,hnE,ivF_app,ivF_1]
     ·rw [if_neg (by simp [hk]),if_neg (by simp [hk,h3])] at hnE
      refine awx_step hJ fun w1 bl1 hn1 K hK=>?_
      have hc:Cx.OK ⟨Try.prog,X,60,w1,bl1⟩:=⟨hX,mixed⟩
      show AW ⟨Try.prog,X,60,w1,bl1⟩ _ _ _
      have zS:=jj hilI<|hk
      repeat' (first|(apply aw_seq_k;intro K hK)|(refine eM64 ?_)|(refine aw_cond (b:=_) (by exact rfl) (fun h=>?_) (fun h=>?_)<;>(try simp at h))|(refine eB ?_)|(refine hK _ ?_;clear hK)|(clear hK;refine hK _ ?_;clear hK)|(clear hK;clear hK;refine hK _ ?_;clear hK)|(clear hK;clear hK;clear hK;refine hK _ ?_;clear hK))
      all_goals clear zS
      refine awx_cond (b:=false) rfl (fun h=>by cases h) fun _=>?_
      refine awx_step hJ fun w1 bl1 hn1 K hK=>?_
      have hc:Cx.OK ⟨Try.prog,X,60,w1,bl1⟩:=⟨hX,mixed⟩
      show AW ⟨Try.prog,X,60,w1,bl1⟩ _ _ _
      have zS:=jj hilI<|jj hk<|h3
      repeat' (first|(apply aw_seq_k;intro K hK)|(refine eM64 ?_)|(refine aw_cond (b:=_) (by exact rfl) (fun h=>?_) (fun h=>?_)<;>(try simp at h))|(refine eB ?_)|(refine hK _ ?_;clear hK)|(clear hK;refine hK _ ?_;clear hK)|(clear hK;clear hK;refine hK _ ?_;clear hK)|(clear hK;clear hK;clear hK;refine hK _ ?_;clear hK))
      all_goals clear zS
      refine awx_cond (b:=false) rfl (fun h=>by cases h) fun _=>awx_skip ?_
      show AWX c J _ _ _ _
      refine awx_last hJ fun w1 bl1 hn1 K hK=>?_
      have hc:Cx.OK ⟨Try.prog,X,60,w1,bl1⟩:=⟨hX,mixed⟩
      show AW ⟨Try.prog,X,60,w1,bl1⟩ _ _ _
      have zS:=hilI
      repeat' (first|(apply aw_seq_k;intro K hK)|(refine eM64 ?_)|(refine aw_cond (b:=_) (by exact rfl) (fun h=>?_) (fun h=>?_)<;>(try simp at h))|(refine eB ?_)|(refine hK _ ?_;clear hK)|(clear hK;refine hK _ ?_;clear hK)|(clear hK;clear hK;refine hK _ ?_;clear hK)|(clear hK;clear hK;clear hK;refine hK _ ?_;clear hK))
      all_goals clear zS
      refine ⟨⟨i+1,by omega⟩,?_,?_,by show l.length - (i+1)<l.length - i;omega⟩
      ·show Le 0 _ _
       exact le_of2 (by simp) (by simp [AVle,AV.under,AV.underL,hFu,hFl,U]<;>omega) (by simp [AOle,AO.under,AV.underL,AV.under,hFu,hFl,U]<;>omega)
      ·show ivF s x (nmT (l.take (i+1)))=_
       rw [hNs,hnE,List.append_nil]
   ·obtain rfl:i=l.length:=by omega
    refine awx_step hJ fun w1 bl1 hn1 K hK=>?_
    have hc:Cx.OK ⟨Try.prog,X,60,w1,bl1⟩:=⟨hX,mixed⟩
    show AW ⟨Try.prog,X,60,w1,bl1⟩ _ _ _
    have zS:=hll
    repeat' (first|(apply aw_seq_k;intro K hK)|(refine eM64 ?_)|(refine aw_cond (b:=_) (by exact rfl) (fun h=>?_) (fun h=>?_)<;>(try simp at h))|(refine eB ?_)|(refine hK _ ?_;clear hK)|(clear hK;refine hK _ ?_;clear hK)|(clear hK;clear hK;refine hK _ ?_;clear hK)|(clear hK;clear hK;clear hK;refine hK _ ?_;clear hK))
    all_goals clear zS
    refine awx_seq (awx_cond (b:=false) rfl (fun h=>by cases h) fun _=>awx_exit ?_)
    refine ⟨.inl rfl,?_⟩
    rw [List.take_length]
 refine Calls.mono (awx_calls (X:=X) (J:=J) (F:=F) (Gw:=Gw) (avs:=[TbV t,FN]) Try.func40 rfl rfl ?_ (by show 2≤60;decide) hG hF ⟨hh,fun k hk=>.inr hk⟩ hall) fun e w' ⟨r,x',F',q1,q2,q3,q4,q5⟩=>⟨r,q1,?_,q4⟩
 ·simp only [RepL,and_true]
  refine ⟨Rep.of_c (E:=Env.start Gw) htv,?_⟩
  rw [hFN]
  simp only [Rep]
  exact ⟨[pK k1,pK k2,pK k3,pK k4],rfl,by simp [RepL,Rep,CRep]⟩
 ·subst q2
  have hsz:=hh.size
  have hfs:w.heap.size≤w'.heap.size:=q4.size
  refine q3.1.more (fun k hk=>?_) fun k hk=>?_
  ·rcases q3.2 k hk with q|q
   ·have:=q5 k hk
    exact List.mem_append.2 (.inr (List.mem_range'_1.2 ⟨q,by omega⟩))
   ·exact List.mem_append.2 (.inl q)
  ·rcases List.mem_append.1 hk with hk|hk
   ·exact hh.low k hk
   ·have:=List.mem_range'_1.1 hk
    exact .inl (by omega)
end Go.AM
namespace Go.AM
open Go Go.Proofs
@[simp] theorem tyTabs:Types Try.prog 22=some ⟨.slice 27,1,24,[.slice none 0 0]⟩:=by kernel_rfl
end Go.AM
set_option maxHeartbeats 16000000
namespace Go.AM
open Go Go.Proofs
def tbG (ts:List Tb) (i:Nat):Tb:=ts.getD i zT
theorem tbG_eq {l:List Tb} {i:Nat} (h:i<l.length):tbG l i=l[i]:=by
 unfold tbG
 rw [List.getD_eq_getElem?_getD,List.getElem?_eq_getElem h];rfl
theorem tbG_mem {l:List Tb} {i:Nat} (h:i<l.length):tbG l i∈l:=by rw [tbG_eq h];exact List.getElem_mem h
def tbR (t:Tb):List AV:=[I t.1,.rd 9 (nrows t.2.1),.rd 2 (prows t.2.2)]
def tbrows (ts:List Tb):List (List AV):=ts.map tbR
@[simp] theorem tbrows_len (ts:List Tb):(tbrows ts).length=ts.length:=by simp [tbrows]
theorem tbrows_gi {ts:List Tb} {i:Nat} (h:i<ts.length):(tbrows ts)[i]?=some [I (tbG ts i).1,.rd 9 (nrows (tbG ts i).2.1),.rd 2 (prows (tbG ts i).2.2)]:=by
 rw [tbG_eq h];simp [tbrows,tbR,h]
theorem tbrows_gE {ts:List Tb} {i:Nat} (h:i<ts.length):∀ h',(tbrows ts)[i]'(h')=[I (tbG ts i).1,.rd 9 (nrows (tbG ts i).2.1),.rd 2 (prows (tbG ts i).2.2)]:=fun h'=>by
 have:=tbrows_gi h
 rw [List.getElem?_eq_getElem h'] at this
 exact Option.some.inj this
theorem tbR_inj {t t':Tb} (h:tbR t=tbR t'):t=t':=by
 obtain ⟨r,ns,ds⟩:=t
 obtain ⟨r',ns',ds'⟩:=t'
 simp only [tbR,List.cons.injEq,I,AV.v.injEq,Value.int.injEq,true_and,AV.rd.injEq,nrows_inj,prows_inj,and_true] at h
 obtain ⟨rfl,rfl,rfl⟩:=h;rfl
theorem tbrows_inj:∀ {a b:List Tb},tbrows a=tbrows b↔a=b
 | [],[]=>by simp [tbrows]
 | [],_::_=>by simp [tbrows]
 | _::_,[]=>by simp [tbrows]
 | x::a,y::b=>by
  have ih:=@tbrows_inj a b
  unfold tbrows at ih ⊢
  simp only [List.map_cons,List.cons.injEq,ih]
  constructor
  ·rintro ⟨h,k⟩;exact ⟨tbR_inj h,k⟩
  ·rintro ⟨rfl,k⟩;exact ⟨rfl,k⟩
noncomputable def ofA (ts:List Tb) (fr:Int):Nat→List Dp
 | 0=>[]
 | n+1=>ofA ts fr n++ofE fr n (nmT (lstT (tbG ts n)))
noncomputable def ofT (ts:List Tb) (fr:Int):List Dp:=ofA (ts.take 8) fr (ts.take 8).length
theorem ofE_4096 {t:Tb} {fr s:Int}:(ofE fr s (nmT (lstT t))).length≤4096:=by
 have h1:=@ofE_len fr s (nmT (lstT t))
 have h2:=@nmT_len (lstT t)
 have h3:=@lstT_l5 t
 omega
theorem ofA_len {ts:List Tb} {fr:Int}:∀ {n:Nat},(ofA ts fr n).length≤4096*n
 | 0=>by simp [ofA]
 | n+1=>by
  have ih:=@ofA_len ts fr n
  have:=@ofE_4096 (tbG ts n) fr n
  simp only [ofA,List.length_append]
  omega
abbrev TsI:={x:List Tb×Int // (∀ t∈x.1,tbOK t)∧x.1.length≤1000000}
noncomputable def OfF:List AV→Option AV:=specF (ι:=TsI) (fun x=>[.rd 3 (tbrows x.1.1),I x.1.2]) fun x=>retOf [.ow 2 (prows (ofT x.1.1 x.1.2))]
set_option maxRecDepth 4000 in
theorem callNa {t:Tb} {L:List Dp} (fr s:Int) {v:Nat} (ht:tbOK t) (hl:L.length≤900000) (hv:1≤v) {a b c d:Nat} (hab:a≠b) (hac:a≠c) (had:a≠d) (hbc:b≠c) (hbd:b≠d) (hcd:c≠d) (M:Nat→AO) (nid:Nat) (h0:M a=.box [I fr]) (h1:M b=.box [.sl c v 2 0 L.length]) (h2:M c=.vec v 2 false (prows L)) (h3:M d=.box [I s]) :
  callG naS [TbV t,.fn 41 [.bp a 0,.bp b 0,.bp d 0]] M nid=some (.tup [],[(a,.box [I fr]),(b,.box [.sl c (v+(ofE fr s (nmT (lstT t))).length) 2 0 (L.length+(ofE fr s (nmT (lstT t))).length)]),(c,.vec (v+(ofE fr s (nmT (lstT t))).length) 2 false (prows (L++ofE fr s (nmT (lstT t))))),(d,.box [I s])]):=by
 have hF:=naS_at fr s ht hl
 obtain ⟨N,hN⟩:∃ N,N=ofE fr s (nmT (lstT t)):=⟨_,rfl⟩
 rw [← hN] at hF ⊢
 simp only [ofM,List.length_append,TbV] at hF
 obtain ⟨u,rfl⟩:∃ u,v=1+u:=⟨v - 1,by omega⟩
 have hba:=hab.symm
 have hca:=hac.symm
 have hda:=had.symm
 have hcb:=hbc.symm
 have hdb:=hbd.symm
 have hdc:=hcd.symm
 have e1:1+N.length+u=1+u+N.length:=by omega
 unfold callG
 have hg:gat M 64 (nmsL [TbV t,.fn 41 [.bp a 0,.bp b 0,.bp d 0]]) []=[a,b,c,d]:=by
  simp [gat,nmsL,AV.nms,AO.nms,h0,h1,h2,h3,TbV, *]
 simp only [hg]
 rw [if_pos ?cg]
 case cg=>simp [CallG,nmsL,AV.nms,AO.nms,Led,curBL,AV.curB,AO.curB,verOf,notDead,h0,h1,h2,h3,TbV,hab,hac,had,hbc,hbd,hcd,hba,hca,hda,hcb,hdb,hdc]
 simp [renL,AV.ren,AO.ren,posN,canO,nmsL,h0,h1,h2,h3,TbV,hab,hac,had,hbc,hbd,hcd,hba,hca,hda,hcb,hdb,hdc,hF,RetG,getL,AV.nms,AO.nms,updN,nmN,shN,verOf,rng,Led,e1]
theorem s13 (X:AX) (hX:XOK Try.prog X) (hw:X.W wT) (hna:X.call 40=callG naS):PSound Try.prog 13 OfF:=by
 unfold OfF
 refine psound_spec hX mixed Try.func13 rfl fun ⟨⟨ts,fr⟩,hts,hl⟩ w0 G=>⟨by show 2≤24;decide,rfl,?_⟩
 show AW ⟨Try.prog,X,24,w0,.pure G⟩ _ _ _
 have hc:Cx.OK ⟨Try.prog,X,24,w0,.pure G⟩:=⟨hX,mixed⟩
 simp only at hts hl ⊢
 have e0:ofT ts fr=ofA (ts.take 8) fr (ts.take 8).length:=rfl
 obtain ⟨T,hT⟩:∃ T,T=ts.take 8:=⟨_,rfl⟩
 have hT8:T.length≤8:=by rw [hT];simp;omega
 have hTt:∀ t∈T,tbOK t:=fun t ht=>hts t (by rw [hT] at ht;exact List.mem_of_mem_take ht)
 have hT1:List.take (min (ts.length:Int) 8).toNat (tbrows ts)=tbrows T:=by
  rw [hT]
  unfold tbrows
  rw [List.map_take]
  rcases Nat.le_total ts.length 8 with h|h
  ·rw [show (min (ts.length:Int) 8).toNat=ts.length by omega,List.take_of_length_le (by simp),List.take_of_length_le (by simp;omega)]
  ·rw [show (min (ts.length:Int) 8).toNat=8 by omega]
 have hT2:min (min (ts.length:Int) 8).toNat ts.length=T.length:=by rw [hT];simp;omega
 have hT3:((min (min (ts.length:Int) 8).toNat ts.length:Nat):Int)=T.length:=by rw [hT2]
 rw [← hT] at e0
 clear hT
 have hca:∀ (t:Tb) (A:List Dp) (s:Int),tbOK t→A.length≤900000→∀ (c d:Nat),c≠0→c≠32→d≠0→d≠32→c≠d→∀ M n,M 0=.box [I fr]→M 32=.box [.sl c 1 2 0 A.length]→M c=.vec 1 2 false (prows A)→M d=.box [I s] →
   X.call 40 [TbV t,.fn 41 [.bp 0 0,.bp 32 0,.bp d 0]] M n=some (.tup [],[(0,.box [I fr]),(32,.box [.sl c (1+(ofE fr s (nmT (lstT t))).length) 2 0 (A.length+(ofE fr s (nmT (lstT t))).length)]),(c,.vec (1+(ofE fr s (nmT (lstT t))).length) 2 false (prows (A++ofE fr s (nmT (lstT t))))),(d,.box [I s])]) :=
  fun t A s ht h1 c d c0 c3 d0 d3 cd M n q0 q1 q2 q3=>by rw [hna];exact callNa fr s ht h1 (by decide) (by decide) (Ne.symm c0) (Ne.symm d0) (Ne.symm c3) (Ne.symm d3) cd M n q0 q1 q2 q3
 simp only [TbV] at hca
 have zS:=jj hT1<|jj hT2<|hT3
 repeat' (first|(apply aw_seq_k;intro K hK)|(refine eM64 ?_)|(refine aw_cond (b:=_) (by exact rfl) (fun h=>?_) (fun h=>?_)<;>(try simp at h))|(refine eB ?_)|(refine hK _ ?_;clear hK)|(clear hK;refine hK _ ?_;clear hK)|(clear hK;clear hK;refine hK _ ?_;clear hK)|(clear hK;clear hK;clear hK;refine hK _ ?_;clear hK))
 all_goals clear zS
 refine aw_weaken (le_nilcell (b:=32) (i:=0) (sz:=2) (cs:=[.v (.slice none 0 0)]) (by simp) (by simp)) ?_
 simp only [List.set_cons_zero]
 refine aw_loopK (s0:=?lps1) (m0:=?lpm1) (ι:={i:Nat // i≤T.length}) [3,5,12,13] (fun i=>[(14,I i.1)]) (fun i=>[(32,.box [.sl 160 1 2 0 (ofA T fr i.1).length]),(160,.vec 1 2 false (prows (ofA T fr i.1)))]) (fun i=>T.length - i.1) ⟨0,by omega⟩ ?lhs1 ?lhm1 ?_ ?_
 case lhs1=>first|(simp [keepS];done)|(simp [keepS];rfl)
 case lhm1=>first|rfl|(simp;done)|(simp;rfl)
 ·simp only [ofA]
  exact le_of2 (by simp) (by simp [AVle,AV.under,AV.underL,prows]<;>omega) (by simp [AOle,AO.under,AV.underL,AV.under,prows]<;>omega)
 ·rintro ⟨i,hi⟩
  simp only
  have hA:=@ofA_len T fr i
  rcases Decidable.em (i<T.length) with hil|hil
  ·have hilI:(i:Int)<(T.length:Int):=by omega
   have hg:=tbrows_gi hil
   have hgE:=tbrows_gE hil
   have ht:=hTt _ (tbG_mem hil)
   have ca:=fun d d0 d3 cd=>hca (tbG T i) (ofA T fr i) i ht (by omega) 160 d (by decide) (by decide) d0 d3 cd
   have hs:ofA T fr (i+1)=ofA T fr i++ofE fr i (nmT (lstT (tbG T i))):=rfl
   obtain ⟨Q,hQ⟩:∃ Q,Q=ofE fr i (nmT (lstT (tbG T i))):=⟨_,rfl⟩
   obtain ⟨A,hAA⟩:∃ A,A=ofA T fr i:=⟨_,rfl⟩
   rw [← hQ] at ca hs
   rw [← hAA] at ca hs hA ⊢
   obtain ⟨⟨r,ns,ds⟩,ht0⟩:∃ t,t=tbG T i:=⟨_,rfl⟩
   rw [← ht0] at hg hgE ca
   simp only at hg hgE ca
   have zS:=jj hilI<|jj hg<|jj hgE<|ca
   repeat' (first|(apply aw_seq_k;intro K hK)|(refine eM64 ?_)|(refine aw_cond (b:=_) (by exact rfl) (fun h=>?_) (fun h=>?_)<;>(try simp at h))|(refine eB ?_)|(refine hK _ ?_;clear hK)|(clear hK;refine hK _ ?_;clear hK)|(clear hK;clear hK;refine hK _ ?_;clear hK)|(clear hK;clear hK;clear hK;refine hK _ ?_;clear hK))
   all_goals clear zS
   refine ⟨i+1,?_,by omega,by omega⟩
   simp only [hs,List.length_append]
   refine le_turn (s1:=?tus2) (m1:=?tum2) [] [3,5,12,13,14] [0,32,160] ?tua2 ?tub2 ?tuc2 ?tud2 ?tue2 ?tuf2 ?tug2
   case tua2=>first|(simp [keepS];done)|(simp [keepS];rfl)
   case tub2=>first|(simp;done)|(simp;rfl)
   case tuc2=>simp
   case tud2=>simp
   case tue2=>simp
   case tuf2=>simp
   case tug2 =>
    simp [swp,vr]
    exact dle
  ·obtain rfl:i=T.length:=by omega
   repeat' (first|(apply aw_seq_k;intro K hK)|(refine eM64o ?_)|(refine aw_cond (b:=_) (by exact rfl) (fun h=>?_) (fun h=>?_)<;>(try simp at h))|(refine eB ?_)|(refine hK _ ?_;clear hK)|(clear hK;refine hK _ ?_;clear hK)|(clear hK;clear hK;refine hK _ ?_;clear hK)|(clear hK;clear hK;clear hK;refine hK _ ?_;clear hK))
   refine ⟨by simp,?_⟩
   simp [leaves_iff,Try.f13,e0,tkPr]
   try exact dt
end Go.AM
namespace Go.AM
open Go Go.Proofs
@[simp] theorem tyMpg:Types Try.prog 71=some ⟨.struct [(0,3,1),(1,3,1)],2,16,[.int .i64 0,.int .i64 0]⟩:=by kernel_rfl
@[simp] theorem tyMpgs:Types Try.prog 29=some ⟨.slice 71,1,24,[.slice none 0 0]⟩:=by kernel_rfl
set_option maxRecDepth 8000 in
theorem eqMpg:EqOK Try.prog 71:=eqok_plain (by kernel_rfl) (fun d hd=>by
 rw [tyMpg,Option.some.injEq] at hd
 subst hd
 exact plB_ok (by kernel_rfl)) (by kernel_rfl) (by kernel_rfl)
theorem xOvlM:ExtOK Try.prog 128 ovlF :=
 ovl_ok (tR:=4) Try.func128 (by kernel_rfl) (by kernel_rfl) (by kernel_rfl) (by kernel_rfl) tyMpgs rfl tyMpg
theorem s88 (X:AX) (hX:XOK Try.prog X) (h42:X.call 128=ovlF):MSound Try.prog 88 (specM (ι:={x:List Dp×Nat×Dp // x.2.1≤x.1.length∧x.1.length≤1000000}) (fun x=>.ow 2 (prows x.1.1)) (fun x=>[I x.1.2.1,.rd 2 (prows [x.1.2.2])]) (fun x=>retOf [.ow 2 (prows (x.1.1.take x.1.2.1++x.1.2.2::x.1.1.drop x.1.2.1))]) fun _=>.any):=by
 refine msound_cap_spec Try.func88 rfl X fun ⟨⟨l,i,x⟩,hi,hl⟩ w0 bl E m=>⟨by show 3≤95;decide,rfl,?_⟩
 simp only at hi hl
 show AW ⟨Try.prog,X,95,w0,⟨bl,E,1⟩⟩ _ _ _
 have hc:Cx.OK ⟨Try.prog,X,95,w0,⟨bl,E,1⟩⟩:=⟨hX,mixed⟩
 have hm:m=0∨1≤m:=by omega
 have hP:prows l=prows (l.take i)++prows (l.drop i):=by rw [prows_append,List.take_append_drop]
 have hR:prows (l.take i++x::l.drop i)=prows (l.take i)++[I x.1,I x.2]::prows (l.drop i):=by simp [prows]
 have hPl:(prows (l.take i)).length=i:=by simp;omega
 rcases hm with rfl|hm
 ·repeat' (first|(apply aw_seq_k;intro K hK)|(refine aw_run hc (by first|exact aw_nod|(intro _;rw [ordB_w hw];kernel_rfl)|(intro _;rw [ordB_w0 hw0];kernel_rfl)|(intro _;kernel_rfl)) ?_;simp (disch:=first|omega|assumption|(simp;done)|fail) [if_pos,if_neg,List.zipIdx,Int.ofNat_inj,h42,ovlF,wrap64];try (repeat' (refine guardQ_split (fun h=>?_) (fun h=>?_)<;>simp at h<;>simp (disch:=first|omega|assumption|(simp;done)|fail) [if_pos,if_neg,List.zipIdx,Int.ofNat_inj,h42,ovlF,wrap64])))|(refine aw_cond (b:=_) (by exact rfl) (fun h=>?_) (fun h=>?_)<;>(try simp at h))|(refine aw_block ?_)|(refine aw_skip ?_;simp only [thenQ,blockQ,if_true])|(refine aw_exit ?_;simp [thenQ,blockQ])|(refine aw_ret ?_;simp only [thenQ,blockQ])|(refine hK _ ?_;clear hK)|(clear hK;refine hK _ ?_;clear hK)|(clear hK;clear hK;refine hK _ ?_;clear hK)|(clear hK;clear hK;clear hK;refine hK _ ?_;clear hK))
  all_goals first|(exfalso;omega)|skip
  all_goals (refine ⟨by simp,leavesM_any ?_⟩;simp (disch:=first|omega|assumption|(simp;done)|fail) [if_pos,if_neg,leaves_iff,Try.f88])
  ·subst h
   rw [prows_append]
   simp [List.take_of_length_le]
  ·rw [hR]
   exact ins_grow hP hPl (prows_length l)
 ·repeat' (first|(apply aw_seq_k;intro K hK)|(refine aw_run hc (by first|exact aw_nod|(intro _;rw [ordB_w hw];kernel_rfl)|(intro _;rw [ordB_w0 hw0];kernel_rfl)|(intro _;kernel_rfl)) ?_;simp (disch:=first|omega|assumption|(simp;done)|fail) [if_pos,if_neg,List.zipIdx,Int.ofNat_inj,h42,ovlF,wrap64];try (repeat' (refine guardQ_split (fun h=>?_) (fun h=>?_)<;>simp at h<;>simp (disch:=first|omega|assumption|(simp;done)|fail) [if_pos,if_neg,List.zipIdx,Int.ofNat_inj,h42,ovlF,wrap64])))|(refine aw_cond (b:=_) (by exact rfl) (fun h=>?_) (fun h=>?_)<;>(try simp at h))|(refine aw_block ?_)|(refine aw_skip ?_;simp only [thenQ,blockQ,if_true])|(refine aw_exit ?_;simp [thenQ,blockQ])|(refine aw_ret ?_;simp only [thenQ,blockQ])|(refine hK _ ?_;clear hK)|(clear hK;refine hK _ ?_;clear hK)|(clear hK;clear hK;refine hK _ ?_;clear hK)|(clear hK;clear hK;clear hK;refine hK _ ?_;clear hK))
  all_goals first|(exfalso;omega)|skip
  all_goals (refine ⟨by simp,leavesM_any ?_⟩;simp (disch:=first|omega|assumption|(simp;done)|fail) [if_pos,if_neg,leaves_iff,Try.f88])
  ·subst h
   rw [← List.append_assoc,prows_append,List.take_append_of_le_length (by simp),List.take_of_length_le (by simp)]
   simp [List.take_of_length_le]
  ·rw [hR]
   exact ins_shift hP hPl (prows_length l) (by simpa using hm) (by omega)
theorem ovlF_keysM {avs:List AV} {M:Nat→AO} {nid:Nat} {r:AV×List (Nat×AO)} (h:ovlF avs M nid=some r):∀ b∈r.2.map (·.1),nid≤b∧b<nid+16:=by
 unfold ovlF at h
 split at h<;>(try split at h)<;>(try split at h)<;>simp at h
 rw [← h];simp
theorem FInsM_flat {a0:AV} {avs:List AV} {r o:AV} (h:FInsD a0 avs=some (r,o)):r.flat∧o.flatO:=by
 obtain ⟨i,_,_,h3,h4⟩:=specM_some h
 subst h3 h4
 exact ⟨prow_flat,trivial⟩
def unP:List (List AV)→Option (List Dp)
 | []=>some []
 | [.v (.int .i64 a),.v (.int .i64 b)]::r=>match unP r with
  | some l=>some ((a,b)::l)
  | none=>none
 | _=>none
theorem unP_eq:∀ {xs:List (List AV)} {l:List Dp},unP xs=some l→xs=prows l
 | [],l,h=>by simp [unP] at h;subst h;rfl
 | e::r,l,h=>by
  unfold unP at h
  split at h
  ·rename_i heq;cases heq
  ·rename_i a b r' heq
   obtain ⟨rfl,rfl⟩:=List.cons.inj heq
   split at h
   ·rename_i l' hl
    simp only [Option.some.injEq] at h
    subst h
    rw [unP_eq hl];simp [prows]
   ·cases h
  ·cases h
def cIns (a0:AV) (avs:List AV):Option (AV×AV):=match a0,avs with
 | .ow 2 xs,[.v (.int .i64 i),.rd 2 [[.v (.int .i64 a),.v (.int .i64 b)]]]=>match unP xs with
  | some l=>if 0≤i∧i.toNat≤l.length∧l.length≤1000000 then some (.ow 2 (prows (l.take i.toNat++(a,b)::l.drop i.toNat)),.any) else none
  | none=>none
 | _,_=>none
theorem cIns_le {a0:AV} {avs:List AV} {r o:AV} (h:cIns a0 avs=some (r,o)):FInsD a0 avs=some (r,o):=by
 unfold cIns at h
 split at h
 ·rename_i xs i a b
  split at h
  ·rename_i l hl
   split at h
   ·rename_i hc
    have e:=unP_eq hl
    subst e
    have hi:i=(i.toNat:Int):=by omega
    rw [← h,← FInsD_at l i.toNat a b hc.2,← hi]
   ·cases h
  ·cases h
 ·cases h
theorem msIns (X:AX) (hX:XOK Try.prog X) (h42:X.call 128=ovlF):MSound Try.prog 88 cIns:=(s88 X hX h42).weaken fun _ _ _ _ h=>cIns_le h
def wV (f:FuncId):Bool:=Nat.beq f 88||Nat.beq f 92||Nat.beq f 91||Nat.beq f 130||Nat.beq f 146
noncomputable def Xv0:AX:=(AX.start wV).eqAt 71
theorem xv0:XOK Try.prog Xv0:=xok_eq (xok_start _ _) eqMpg
noncomputable def Xv1:AX:=Xv0.add 128 ovlF
theorem xv1:XOK Try.prog Xv1:=xok_add xv0 (.inr xOvlM) fun _ _ _ _ h=>ovlF_keysM h
noncomputable def Xv2:AX:=Xv1.add 88 (callM false two2 cIns)
theorem xv2:XOK Try.prog Xv2:=xok_putM xv1 (by kernel_rfl) (.inl ⟨((msIns Xv1 xv1 rfl).callM fun _ _ _ _ h=>FInsM_flat (cIns_le h)),body_ok _ Try.func88 (by kernel_rfl)⟩) fun _ _ _ _ h=>callM_keys h
end Go.AM
namespace Go.AM
open Go Go.Proofs
def evs:List Nat:=[36,37,38,32,39,85,90,87,95,93,77,86,89,91,92,94,124,126,127,130,131,155,132,144,146]
noncomputable def ev24:Ev:=⟨Types Try.prog,Xv2,fun f=>f=88||f=128,fun f=>f=91||f=92||f=130||f=146,fun f=>!(evs.contains f),fun _=>two2⟩
theorem ev_check24:ev24.check Try.prog evs=true:=by kernel_rfl
end Go.AM
namespace Go.AM
open Go Go.Proofs
set_option maxRecDepth 20000 in
theorem evx24 (n:Nat):XOK Try.prog (ev24.ax Try.prog n):=xok_eval rfl mixed xv2 evs (fun f h=>by
 simp only [ev24,Bool.not_eq_false'] at h
 exact List.contains_iff_mem.1 h) ev_check24 n
def R4:List (List AV):=[[I 0,I 9],[I 1,I 7],[I 2,I 3],[I 5,I 9]]
def okG (T:TypeId→Option TD) (X:AX) (fn:Func) (c:Code) (n:Nat) (tail:List AV):Bool :=
 Nat.ble (tail.length+1) fn.ntmps&&match aexec T X fn.ntmps n c ⟨enterS (.sl 0 1 2 0 4::tail),[(0,.vec 1 2 false R4)],1⟩ with
 | some (e,st)=>isEnd e&&(match fn.results.toList with|[]=>true|_=>false)&&(match getM st.m 0 with|.vec 1 2 false xs=>beqLL xs R4|_=>false)
 | none=>false
noncomputable def gS (tail:List AV):List AV→List AO→Option (AV×List AO):=specG (ι:=Unit) (fun _=>.sl 0 1 2 0 4::tail) (fun _=>[.vec 1 2 false R4]) (fun _=>.tup []) fun _=>[.vec 1 2 false R4]
theorem gS_at {tail:List AV} {avs:List AV} {ms:List AO} {r:AV} {ms':List AO} (h:gS tail avs ms=some (r,ms')):avs=.sl 0 1 2 0 4::tail∧ms=[.vec 1 2 false R4]∧r=.tup []∧ms'=[.vec 1 2 false R4]:=by
 unfold gS specG at h
 split at h
 ·rename_i hh
  obtain ⟨_,h1,h2⟩:=hh
  simp only [Option.some.injEq,Prod.mk.injEq] at h
  exact ⟨h1.symm,h2.symm,h.1.symm,h.2.symm⟩
 ·cases h
theorem okG_ok {f:FuncId} {fn:Func} {c:Code} {n:Nat} {X:AX} {tail:List AV} (hX:XOK Try.prog X) (hf:Try.prog.funcs[f]?=some fn) (hb:fn.body=some c) (ho:codeOrd X c=true) (h:okG (Types Try.prog) X fn c n tail=true):GSound Try.prog f (gS tail):=by
 refine gsound_of hf hb rfl fun w0 l E avs ms r ms' hF=>?_
 obtain ⟨rfl,rfl,rfl,rfl⟩:=gS_at hF
 unfold okG at h
 simp only [Bool.and_eq_true] at h
 obtain ⟨h1,h2⟩:=h
 split at h2
 ·rename_i e st hx
  simp only [Bool.and_eq_true] at h2
  obtain ⟨⟨h3,h4⟩,h5⟩:=h2
  have hres:fn.results.toList=[]:=by
   split at h4
   ·rename_i hh;exact hh
   ·cases h4
  have hm:getM st.m 0=.vec 1 2 false R4:=by
   split at h5
   ·rename_i xs hh
    rw [hh,beqLL_eq h5]
   ·cases h5
  refine ⟨by simpa using Nat.le_of_ble_eq_true h1,X,?_⟩
  refine aw_mono (aexec_ok (c:=⟨Try.prog,X,fn.ntmps,w0,⟨l,E,1⟩⟩) ⟨hX,mixed⟩ n c _ e st ho hx) fun e' s' ⟨k1,k2⟩=>?_
  subst k1 k2
  refine ⟨isEnd_or h3,[],?_,?_⟩
  ·rw [hres];rfl
  ·refine le_of2 (by simp) (fun p hp=>?_) (fun p hp=>?_)
   ·simp at hp
    subst hp
    exact ⟨by simp [getS,retOf,AVle],by simp [AV.under,AV.underL]⟩
   ·simp [idx,tidyM,remK] at hp
    subst hp
    exact ⟨by rw [hm];simp [AOle],by simp [AO.under,R4,AV.underL,AV.under],by simp⟩
 ·cases h2
def beqT:List AV→List AV→Bool
 | [],[]=>true
 | .v (.int .i64 a)::r,.v (.int .i64 b)::t=>decide (a=b)&&beqT r t
 | .fn f []::r,.fn g []::t=>Nat.beq f g&&beqT r t
 | _,_=>false
theorem beqT_eq:∀ {a b:List AV},beqT a b=true→a=b
 | [],[],_=>rfl
 | a::r,b::t,h=>by
  unfold beqT at h
  split at h
  ·rename_i e _;cases e
  ·rename_i e1 e2
   obtain ⟨rfl,rfl⟩:=List.cons.inj e1
   obtain ⟨rfl,rfl⟩:=List.cons.inj e2
   rw [Bool.and_eq_true] at h
   rw [of_decide_eq_true h.1,beqT_eq h.2]
  ·rename_i e1 e2
   obtain ⟨rfl,rfl⟩:=List.cons.inj e1
   obtain ⟨rfl,rfl⟩:=List.cons.inj e2
   rw [Bool.and_eq_true] at h
   rw [Nat.eq_of_beq_eq_true h.1,beqT_eq h.2]
  ·cases h
 | [],_::_,h=>by simp [beqT] at h
 | _::_,[],h=>by simp [beqT] at h
def gK (tail:List AV) (avs:List AV) (M:Nat→AO) (_nid:Nat):Option (AV×List (Nat×AO)):=match avs with
 | .sl b (v+1) 2 0 4::t=>match M b with
  | .vec v' 2 false xs=>if Nat.beq v' (v+1)&&beqT t tail&&beqLL xs R4 then some (.tup [],[(b,.vec (v+1) 2 false R4)]) else none
  | _=>none
 | _=>none
theorem gK_le {tail:List AV} (h1:nmsL tail=[]) (h2:∀ σ f,renL σ f tail=tail) (h3:∀ M,curBL M tail=true) {avs:List AV} {M:Nat→AO} {nid:Nat} {r:AV×List (Nat×AO)} (h:gK tail avs M nid=some r):callG (gS tail) avs M nid=some r:=by
 unfold gK at h
 split at h
 ·rename_i b v t
  split at h
  ·rename_i v' xs hM
   split at h
   ·rename_i hc
    rw [Bool.and_eq_true,Bool.and_eq_true] at hc
    obtain ⟨⟨hv,ht⟩,hx⟩:=hc
    have hv:=Nat.eq_of_beq_eq_true hv
    subst hv
    have ht:=beqT_eq ht
    have hx:=beqLL_eq hx
    subst ht hx
    rw [← h]
    have hF:gS t (.sl 0 1 2 0 4::t) [.vec 1 2 false R4]=some (.tup [],[.vec 1 2 false R4]):=specG_eq (ι:=Unit) (A:=fun _=>.sl 0 1 2 0 4::t) (M:=fun _=>[.vec 1 2 false R4]) (R:=fun _=>.tup []) (O:=fun _=>[.vec 1 2 false R4]) () fun _ _ _=>⟨rfl,rfl⟩
    have hn:nmsL (.sl b (v+1) 2 0 4::t)=[b]:=by simp [nmsL,h1,AV.nms]
    unfold callG
    have hg:gat M 64 (nmsL (.sl b (v+1) 2 0 4::t)) []=[b]:=by simp [gat,hn,h1,AO.nms,hM,nmsL,R4,AV.nms]
    simp only [hg]
    rw [if_pos ?cg]
    case cg=>simp [CallG,hn,h1,gat,nmsL,AV.nms,AO.nms,Led,curBL,AV.curB,AO.curB,verOf,notDead,hM,h3,R4]
    have e1:1+v=v+1:=by omega
    simp [renL,AV.ren,AO.ren,posN,canO,nmsL,h1,hg,hM,h2,hF,RetG,getL,AV.nms,AO.nms,updN,nmN,shN,verOf,rng,Led,e1]
   ·cases h
  ·cases h
 ·cases h
theorem gK_keys {tail:List AV} {avs:List AV} {M:Nat→AO} {nid:Nat} {r:AV×List (Nat×AO)} (h:gK tail avs M nid=some r):∀ b∈r.2.map (·.1),(nid≤b∧b<nid+16)∨M b≠.dead:=by
 unfold gK at h
 split at h
 ·split at h
  ·rename_i hM
   split at h
   ·simp only [Option.some.injEq] at h
    subst h
    intro b hb
    simp at hb
    subst hb
    right
    rw [hM];simp
   ·cases h
  ·cases h
 ·cases h
noncomputable def Xe0:AX:=ev24.ax Try.prog 400
theorem xe0:XOK Try.prog Xe0:=evx24 400
def tIs:List AV:=[I 0,I 4,.fn 87 []]
theorem oIs:okG (Types Try.prog) Xe0 Try.f146 (match Try.f146.body with|some c=>c|none=>.skip) 400 tIs=true:=by kernel_rfl
theorem gIs:GSound Try.prog 146 (gS tIs):=okG_ok (n:=400) xe0 Try.func146 rfl (by kernel_rfl) oIs
theorem kIs:CallOK Try.prog 146 (gK tIs):=fun avs M nid av u h=>gIs.callG avs M nid av u (gK_le (by simp [tIs,nmsL,AV.nms]) (fun σ f=>by simp [tIs,renL,AV.ren]) (fun M=>by simp [tIs,curBL,AV.curB]) h)
noncomputable def XIs:AX:=Xe0.add 146 (gK tIs)
theorem xIs:XOK Try.prog XIs:=xok_putM xe0 (by kernel_rfl) (.inl ⟨kIs,body_ok _ Try.func146 (by kernel_rfl)⟩) fun _ _ _ _ h=>gK_keys h
def tPq:List AV:=[I 0,I 4,I 3,.fn 87 []]
theorem oPq:okG (Types Try.prog) XIs Try.f130 (match Try.f130.body with|some c=>c|none=>.skip) 400 tPq=true:=by kernel_rfl
theorem gPq:GSound Try.prog 130 (gS tPq):=okG_ok (n:=400) xIs Try.func130 rfl (by kernel_rfl) oPq
theorem kPq:CallOK Try.prog 130 (gK tPq):=fun avs M nid av u h=>gPq.callG avs M nid av u (gK_le (by simp [tPq,nmsL,AV.nms]) (fun σ f=>by simp [tPq,renL,AV.ren]) (fun M=>by simp [tPq,curBL,AV.curB]) h)
noncomputable def XPq:AX:=XIs.add 130 (gK tPq)
theorem xPq:XOK Try.prog XPq:=xok_putM xIs (by kernel_rfl) (.inl ⟨kPq,body_ok _ Try.func130 (by kernel_rfl)⟩) fun _ _ _ _ h=>gK_keys h
def tSo:List AV:=[.fn 87 []]
theorem oSo:okG (Types Try.prog) XPq Try.f91 (match Try.f91.body with|some c=>c|none=>.skip) 400 tSo=true:=by kernel_rfl
theorem gSo:GSound Try.prog 91 (gS tSo):=okG_ok (n:=400) xPq Try.func91 rfl (by kernel_rfl) oSo
theorem kSo:CallOK Try.prog 91 (gK tSo):=fun avs M nid av u h=>gSo.callG avs M nid av u (gK_le (by simp [tSo,nmsL,AV.nms]) (fun σ f=>by simp [tSo,renL,AV.ren]) (fun M=>by simp [tSo,curBL,AV.curB]) h)
noncomputable def XSo:AX:=XPq.add 91 (gK tSo)
theorem xSo:XOK Try.prog XSo:=xok_putM xPq (by kernel_rfl) (.inl ⟨kSo,body_ok _ Try.func91 (by kernel_rfl)⟩) fun _ _ _ _ h=>gK_keys h
end Go.AM
namespace Go.AM
open Go Go.Proofs
noncomputable def cpF (avs:List AV):Option AV:=match Try.f37.body with
 | some c=>evalP (Types Try.prog) XSo Try.f37 c 400 avs
 | none=>none
theorem cp1:cpF [.rd 2 [[I 0,I 9],[I 1,I 7],[I 2,I 3]],I 0,I 5]=some (.tup [.ow 2 [[I 0,I 9],[I 1,I 7],[I 2,I 3],[I 5,I 9]],I 0]):=by kernel_rfl
theorem cp2:cpF [.rd 2 [[I 0,I 9],[I 1,I 7],[I 2,I 3]],I 0,I 0]=some (.tup [.v (.slice none 0 0),I 7]):=by kernel_rfl
theorem cp_sound {c:Code} (hb:Try.f37.body=some c) (ho:codeOrd XSo c=true):PSound Try.prog 37 cpF:=by
 have h:=psound_eval (X:=XSo) (fn:=Try.f37) 400 xSo mixed Try.func37 hb ho
 have e:cpF=evalP (Types Try.prog) XSo Try.f37 c 400:=by
  funext avs
  simp only [cpF,hb]
 rw [e];exact h
def cpM:List (List AV×AV):=[([.rd 2 [[I 0,I 9],[I 1,I 7],[I 2,I 3]],I 0,I 5],.tup [.ow 2 [[I 0,I 9],[I 1,I 7],[I 2,I 3],[I 5,I 9]],I 0]),([.rd 2 [[I 0,I 9],[I 1,I 7],[I 2,I 3]],I 0,I 0],.tup [.v (.slice none 0 0),I 7])]
noncomputable def XCp:AX:=XSo.add 37 (callP (memo cpM))
theorem xCp:XOK Try.prog XCp:=xok_add xSo (.inl ⟨(memo_sound (cp_sound rfl (by kernel_rfl)) (tab:=cpM) (by
 intro p hp
 simp only [cpM,List.mem_cons,List.not_mem_nil,or_false] at hp
 rcases hp with rfl|rfl
 ·exact cp1
 ·exact cp2)).callP fun _ _ h=>memo_flat (by kernel_rfl) h,body_ok _ Try.func37 (by kernel_rfl)⟩) fun _ _ _ _ h=>callP_keys h
noncomputable def a24F (avs:List AV):Option AV:=match Try.f11.body with
 | some c=>evalP (Types Try.prog) XCp Try.f11 c 400 avs
 | none=>none
theorem a24:a24F []=some (B true):=by kernel_rfl
theorem a24_sound {c:Code} (hb:Try.f11.body=some c) (ho:codeOrd XCp c=true):PSound Try.prog 11 a24F:=by
 have h:=psound_eval (X:=XCp) (fn:=Try.f11) 400 xCp mixed Try.func11 hb ho
 have e:a24F=evalP (Types Try.prog) XCp Try.f11 c 400:=by
  funext avs
  simp only [a24F,hb]
 rw [e];exact h
theorem aw24:PSound Try.prog 11 (specF (ι:=Unit) (fun _=>[]) fun _=>retOf [B true]):=(a24_sound rfl (by kernel_rfl)).weaken fun avs r h=>by
 unfold specF at h
 split at h
 ·rename_i hh
  obtain ⟨_,rfl⟩:=hh
  rw [a24];exact h
 ·cases h
end Go.AM
namespace Go.AM
open Go Go.Proofs
def tbF (t:Tb):Prop:=∀ n∈t.2.1,ndOK n
theorem cLi (t:Tb) (ht:tbOK t) (M:Nat→AO) (n:Nat):callP LiF [TbV t] M n=some (.sl n 1 2 0 (lstT t).length,[(n,.vec 1 2 false (erows (lstT t)))]):=cT1 (D:=tbOK) (R:=fun t=>retOf [.ow 2 (erows (lstT t))]) ht M n open_erow (by omega)
end Go.AM
namespace Go.AM
open Go
def shI:Sh:=.int .i64
theorem fitL_one {s:Sh} {xs:List AV} (h:FitL [s] xs):∃ a,xs=[a]∧Fit s a:=by
 match xs,h with
 | [a],h=>simp only [FitL] at h;exact ⟨a,rfl,h.1⟩
 | [],h=>simp [FitL] at h
 | _::_::_,h=>simp [FitL] at h
theorem fit_int {a:AV} (h:Fit shI a):∃ n,a=I n∧-9223372036854775808≤n∧n≤9223372036854775807:=by
 simp only [shI,Fit] at h
 obtain ⟨n,rfl,hw⟩:=h
 refine ⟨n,rfl,?_⟩
 simpa [Lit.wf,IntKind.min,IntKind.max,IntKind.signed,IntKind.bits] using hw
theorem fitL_cons {s:Sh} {r:List Sh} {xs:List AV} (h:FitL (s::r) xs):∃ a ar,xs=a::ar∧Fit s a∧FitL r ar:=by
 cases xs with
 | nil=>simp [FitL] at h
 | cons a ar=>simp only [FitL] at h;exact ⟨a,ar,rfl,h.1,h.2⟩
theorem fitL_nil {xs:List AV} (h:FitL [] xs):xs=[]:=by cases xs with|nil=>rfl|cons a ar=>simp [FitL] at h
theorem arg_one {P:Program} {t:TypeId} {s:Sh} {a:AV} (hs:shapeOf P 10 t=some [s]) (h1:∀ fs,P.underlying t≠some (.struct fs)) (h2:∀ n e,P.underlying t≠some (.array n e)) (h:FitArg P t a):Fit s a:=by
 obtain ⟨sh,h3,h4⟩:=h
 rw [hs] at h3
 simp only [Option.some.injEq] at h3
 subst h3
 rcases h4 with ⟨⟨fs,hf⟩|⟨n,e,hf⟩,_⟩|⟨_,h5⟩
 ·exact absurd hf (h1 fs)
 ·exact absurd hf (h2 _ _)
 ·obtain ⟨b,hb,hf⟩:=fitL_one h5
  obtain rfl:a=b:=by simpa using hb
  exact hf
end Go.AM
namespace Go.AM
open Go Go.Proofs
theorem laid:laidOutB Try.prog=true:=by kernel_rfl
theorem owns:ownKnob Try.prog.godebug=none:=by kernel_rfl
def shQ:Sh:=.int .u64
theorem fit_u64 {a:AV} (h:Fit shQ a):∃ n:Nat,a=U n∧n<2^64:=by
 simp only [shQ,Fit] at h
 obtain ⟨n,rfl,hw⟩:=h
 have h2:0≤n∧n≤18446744073709551615:=by simpa [Lit.wf,IntKind.min,IntKind.max,IntKind.signed,IntKind.bits] using hw
 refine ⟨n.toNat,?_,by omega⟩
 unfold U
 rw [show ((n.toNat:Nat):Int)=n by omega]
theorem fit_words:∀ {k:Nat} {cs:List AV},FitL (List.replicate k shQ) cs→∃ ws:List Nat,cs=wcs ws∧ws.length=k∧∀ w∈ws,w<2^64
 | 0,cs,h=>by
  have:=fitL_nil h
  subst this
  exact ⟨[],rfl,rfl,by simp⟩
 | k+1,cs,h=>by
  rw [List.replicate_succ] at h
  obtain ⟨a,ar,rfl,ha,hr⟩:=fitL_cons h
  obtain ⟨w,rfl,hw⟩:=fit_u64 ha
  obtain ⟨ws,rfl,hl,hx⟩:=fit_words hr
  refine ⟨w::ws,rfl,by simp [hl],fun x hx'=>?_⟩
  rcases List.mem_cons.1 hx' with rfl|hx'
  ·exact hw
  ·exact hx x hx'
theorem rows_nd:∀ {xs:List (List AV)},(∀ e∈xs,FitL (shI::List.replicate 8 shQ) e)→∃ l,xs=nrows l∧∀ n∈l,ndOK n
 | [],_=>⟨[],rfl,by simp⟩
 | e::r,h=>by
  obtain ⟨l,rfl,hl⟩:=rows_nd (xs:=r) fun e' he=>h e' (by simp [he])
  obtain ⟨a,ar,rfl,ha,hr⟩:=fitL_cons (h e (by simp))
  obtain ⟨x,rfl,_⟩:=fit_int ha
  obtain ⟨ws,rfl,h8,hw⟩:=fit_words hr
  refine ⟨(x,ws)::l,rfl,fun n hn=>?_⟩
  rcases List.mem_cons.1 hn with rfl|hn
  ·exact ⟨h8,hw⟩
  ·exact hl n hn
theorem rows_dp:∀ {xs:List (List AV)},(∀ e∈xs,FitL [shI,shI] e)→∃ l,xs=prows l
 | [],_=>⟨[],rfl⟩
 | e::r,h=>by
  obtain ⟨l,rfl⟩:=rows_dp (xs:=r) fun e' he=>h e' (by simp [he])
  obtain ⟨a,ar,rfl,ha,hr⟩:=fitL_cons (h e (by simp))
  obtain ⟨b,rfl,hb⟩:=fitL_one hr
  obtain ⟨x,rfl,_⟩:=fit_int ha
  obtain ⟨y,rfl,_⟩:=fit_int hb
  exact ⟨(x,y)::l,rfl⟩
end Go.AM
namespace Go.AM
open Go Go.Proofs
theorem prow_fl {l:List Dp}:(retOf [.ow 2 (prows l)]).flat:=prow_flat
theorem cAw24 (M:Nat→AO) (n:Nat):callP (specF (ι:=Unit) (fun _=>[]) fun _=>retOf [B true]) [] M n=some (B true,[]):=by
 rw [callP_spec (ι:=Unit) (A:=fun _=>[]) (R:=fun _=>retOf [B true]) () (by simp) (fun _ _=>rfl) (by simp [retOf,openRet,openVals,openVal,openLeaves,openLeaf])]
 simp [retOf,openRet,openVals,openVal,openLeaves,openLeaf]
theorem shTabs:shapeOf Try.prog 10 22=some [.sl [shI,.sl (shI::List.replicate 8 shQ),.sl [shI,shI]]]:=by kernel_rfl
end Go.AM
