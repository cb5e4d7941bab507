/- A part of the proof; no condition. -/
import Derived.Test.YtcfhmdljeeppfaaGreatQPt27
import Derived.Test.YtcfhmdljeeppfaaGreatQPt14
set_option linter.all false
set_option maxHeartbeats 4000000
namespace Go.AM
open Go Go.Proofs
@[simp] theorem tyStps:Types Tryz.prog 192=some ⟨.slice 173,1,24,[.slice none 0 0]⟩:=by kernel_rfl
def dgt (p l:Nat):Nat:=p/8^l%8
theorem dgt_lt (p l:Nat):dgt p l<8:=by unfold dgt;omega
theorem s139 (X:AX) (hX:XOK Tryz.prog X) (hw:X.W wT):PSound Tryz.prog 139 (specF (ι:={x:Nat×Nat // x.1<512∧x.2≤2}) (fun x=>[I x.1.1,I x.1.2]) fun x=>retOf [I (dgt x.1.1 x.1.2)]):=by
 refine psound_spec hX mixed Tryz.func139 rfl fun ⟨⟨n,l⟩,hn,hl⟩ w0 G=>⟨by show 2≤13;decide,rfl,?_⟩
 show AW ⟨Tryz.prog,X,13,w0,.pure G⟩ _ _ _
 have hc:Cx.OK ⟨Tryz.prog,X,13,w0,.pure G⟩:=⟨hX,mixed⟩
 simp only at hn hl ⊢
 have m1:(n:Int).tmod 8=((n%8:Nat):Int):=by rw [Int.tmod_eq_emod_of_nonneg (by omega)];omega
 have m2:((n:Int)/8).tmod 8=((n/8%8:Nat):Int):=by rw [Int.tmod_eq_emod_of_nonneg (by omega)];omega
 have m3:((n:Int)/8/8).tmod 8=((n/64%8:Nat):Int):=by rw [Int.tmod_eq_emod_of_nonneg (by omega)];omega
 have w8:IntKind.i64.wrap ((n:Int)/8)=(n:Int)/8:=wrap64 (by omega)
 have w64:IntKind.i64.wrap ((n:Int)/8/8)=(n:Int)/8/8:=wrap64 (by omega)
 have t8:((n:Int)/8).tdiv 8=(n:Int)/8/8:=Int.tdiv_eq_ediv_of_nonneg (by omega)
 rcases (by omega:l=0∨l=1∨l=2) with rfl|rfl|rfl
 ·have e:dgt n 0=n%8:=by unfold dgt;simp
  have zS:=jj m1<|jj m2<|jj m3<|jj w8<|jj w64<|t8
  repeat' (first|(apply aw_seq_k;intro K hK)|(refine eM64 ?_)|(refine aw_cond (b:=_) (by exact rfl) (fun h=>?_) (fun h=>?_)<;>(try simp at h))|(refine eB ?_)|(refine hK _ ?_;clear hK)|(clear hK;refine hK _ ?_;clear hK)|(clear hK;clear hK;refine hK _ ?_;clear hK)|(clear hK;clear hK;clear hK;refine hK _ ?_;clear hK))
  all_goals clear zS
  refine aw_rounds 1 (aw_round ?_)
  have zS:=jj m1<|jj m2<|jj m3<|jj w8<|jj w64<|t8
  repeat' (first|(apply aw_seq_k;intro K hK)|(refine eM64 ?_)|(refine aw_cond (b:=_) (by exact rfl) (fun h=>?_) (fun h=>?_)<;>(try simp at h))|(refine eB ?_)|(refine hK _ ?_;clear hK)|(clear hK;refine hK _ ?_;clear hK)|(clear hK;clear hK;refine hK _ ?_;clear hK)|(clear hK;clear hK;clear hK;refine hK _ ?_;clear hK))
  all_goals clear zS
  refine ⟨by simp,?_⟩
  simp [leaves_iff,Tryz.f139,e]
  try exact dt
 ·have e:dgt n 1=n/8%8:=by unfold dgt;simp
  have zS:=jj m1<|jj m2<|jj m3<|jj w8<|jj w64<|t8
  repeat' (first|(apply aw_seq_k;intro K hK)|(refine eM64 ?_)|(refine aw_cond (b:=_) (by exact rfl) (fun h=>?_) (fun h=>?_)<;>(try simp at h))|(refine eB ?_)|(refine hK _ ?_;clear hK)|(clear hK;refine hK _ ?_;clear hK)|(clear hK;clear hK;refine hK _ ?_;clear hK)|(clear hK;clear hK;clear hK;refine hK _ ?_;clear hK))
  all_goals clear zS
  refine aw_rounds 2 (aw_round ?_)
  have zS:=jj m1<|jj m2<|jj m3<|jj w8<|jj w64<|t8
  repeat' (first|(apply aw_seq_k;intro K hK)|(refine eM64 ?_)|(refine aw_cond (b:=_) (by exact rfl) (fun h=>?_) (fun h=>?_)<;>(try simp at h))|(refine eB ?_)|(refine hK _ ?_;clear hK)|(clear hK;refine hK _ ?_;clear hK)|(clear hK;clear hK;refine hK _ ?_;clear hK)|(clear hK;clear hK;clear hK;refine hK _ ?_;clear hK))
  all_goals clear zS
  refine ⟨by simp,?_⟩
  simp [leaves_iff,Tryz.f139,e]
  try exact dt
 ·have e:dgt n 2=n/64%8:=by unfold dgt;simp
  have zS:=jj m1<|jj m2<|jj m3<|jj w8<|jj w64<|t8
  repeat' (first|(apply aw_seq_k;intro K hK)|(refine eM64 ?_)|(refine aw_cond (b:=_) (by exact rfl) (fun h=>?_) (fun h=>?_)<;>(try simp at h))|(refine eB ?_)|(refine hK _ ?_;clear hK)|(clear hK;refine hK _ ?_;clear hK)|(clear hK;clear hK;refine hK _ ?_;clear hK)|(clear hK;clear hK;clear hK;refine hK _ ?_;clear hK))
  all_goals clear zS
  refine aw_rounds 3 (aw_round ?_)
  have zS:=jj m1<|jj m2<|jj m3<|jj w8<|jj w64<|t8
  repeat' (first|(apply aw_seq_k;intro K hK)|(refine eM64 ?_)|(refine aw_cond (b:=_) (by exact rfl) (fun h=>?_) (fun h=>?_)<;>(try simp at h))|(refine eB ?_)|(refine hK _ ?_;clear hK)|(clear hK;refine hK _ ?_;clear hK)|(clear hK;clear hK;refine hK _ ?_;clear hK)|(clear hK;clear hK;clear hK;refine hK _ ?_;clear hK))
  all_goals clear zS
  refine ⟨by simp,?_⟩
  simp [leaves_iff,Tryz.f139,e]
  try exact dt
abbrev Stp:=Nat×Nat×Nat
section
variable (ns:NdL) (p:Nat)
def pth:Nat→Nat→List Stp
 | 0,n=>[(n,0,wd ns n (dgt p 0))]
 | l+1,n=>(n,l+1,wd ns n (dgt p (l+1)))::(match kid WA ns (wd ns n (dgt p (l+1))) with
  | some nx=>pth l nx
  | none=>[])
def lst:Nat→Nat→Stp
 | 0,n=>(n,0,wd ns n (dgt p 0))
 | l+1,n=>match kid WA ns (wd ns n (dgt p (l+1))) with
  | some nx=>lst l nx
  | none=>(n,l+1,wd ns n (dgt p (l+1)))
def pok:Nat→Nat→Prop
 | 0,n=>tabW (wd ns n (dgt p 0))=none
 | l+1,n=>∀ g,tabW (wd ns n (dgt p (l+1)))=some g→∃ nx,fnd ns g=some nx∧pok l nx
end
theorem pth_lst {ns:NdL} {p:Nat}:∀ {l n:Nat},∃ i,pth ns p l n=i++[lst ns p l n]
 | 0,n=>⟨[],rfl⟩
 | l+1,n=>by
  simp only [pth,lst]
  cases kid WA ns (wd ns n (dgt p (l+1))) with
  | none=>exact ⟨[],rfl⟩
  | some nx =>
   obtain ⟨i,hi⟩:=pth_lst (ns:=ns) (p:=p) (l:=l) (n:=nx)
   simp only
   rw [hi]
   exact ⟨(n,l+1,wd ns n (dgt p (l+1)))::i,rfl⟩
theorem pth_len {ns:NdL} {p:Nat}:∀ {l n:Nat},(pth ns p l n).length≤l+1
 | 0,n=>by simp [pth]
 | l+1,n=>by
  simp only [pth]
  cases kid WA ns (wd ns n (dgt p (l+1))) with
  | none=>simp
  | some nx =>
   have:=pth_len (ns:=ns) (p:=p) (l:=l) (n:=nx)
   simp;omega
theorem lst_lt {ns:NdL} {p:Nat}:∀ {l n:Nat},n<ns.length→(lst ns p l n).1<ns.length∧(lst ns p l n).2.1≤l
 | 0,n,h=>⟨h,Nat.le_refl _⟩
 | l+1,n,h=>by
  simp only [lst]
  cases hk:kid WA ns (wd ns n (dgt p (l+1))) with
  | none=>exact ⟨h,Nat.le_refl _⟩
  | some nx =>
   have:=lst_lt (ns:=ns) (p:=p) (l:=l) (kid_lt hk)
   exact ⟨this.1,by simp only;omega⟩
theorem lst_word {ns:NdL} {p:Nat}:∀ {l n:Nat},(lst ns p l n).2.2=wd ns (lst ns p l n).1 (dgt p (lst ns p l n).2.1)
 | 0,n=>rfl
 | l+1,n=>by
  simp only [lst]
  cases hk:kid WA ns (wd ns n (dgt p (l+1))) with
  | none=>rfl
  | some nx=>exact lst_word
def srow (s:Stp):List AV:=[I s.1,I s.2.1,U s.2.2]
def srows (l:List Stp):List (List AV):=l.map srow
@[simp] theorem srows_length (l:List Stp):(srows l).length=l.length:=by simp [srows]
def stV (s:Stp):AV:=.agg (srow s)
def rtN (t:Tb):Nat:=(fnd t.2.1 t.1).getD 0
def ptO (t:Tb) (p:Nat):Prop:=tbOK t∧ascN t.2.1∧p<512∧(∃ r,fnd t.2.1 t.1=some r)∧pok t.2.1 p 2 (rtN t)
def ptL (t:Tb) (p:Nat):List Stp:=pth t.2.1 p 2 (rtN t)
def lsT (t:Tb) (p:Nat):Stp:=lst t.2.1 p 2 (rtN t)
theorem decR_tab {w:Nat}:tabW w=none↔(decR w).1.1≠4:=by
 unfold tabW
 split<;>simp [*]
theorem s137 (X:AX) (hX:XOK Tryz.prog X) (hw:X.W wT) (hix:∀ t:Tb,tbOK t→∀ M n,X.call 115 [TbV t] M n=some (.mp n 1,[(n,.map 1 1 (idxE t.2.1 t.2.1.length))]))
  (hdg:∀ (p l:Nat),p<512→l≤2→∀ M n,X.call 139 [I p,I l] M n=some (I (dgt p l),[])) (hen:∀ w:Nat,w<2^64→∀ M n,X.call 113 [U w] M n=some (EnV (decR w).1,[])) :
  PSound Tryz.prog 137 (specF (ι:={x:Tb×Nat // ptO x.1 x.2}) (fun x=>[TbV x.1.1,I x.1.2]) fun x=>retOf [.ow 3 (srows (ptL x.1.1 x.1.2))]):=by
 refine psound_spec hX mixed Tryz.func137 rfl fun ⟨⟨⟨r,ns,ds⟩,p⟩,ht,ha,hp,⟨rt,hrt⟩,hpo⟩ w0 G=>⟨by show 2≤46;decide,rfl,?_⟩
 show AW ⟨Tryz.prog,X,46,w0,.pure G⟩ _ _ _
 have hc:Cx.OK ⟨Tryz.prog,X,46,w0,.pure G⟩:=⟨hX,mixed⟩
 simp only at ha hp hrt hpo
 have hix':=hix (r,ns,ds) ht
 have hget:=idxE_get ha r
 rw [hrt] at hget
 try simp only [Option.map_some] at hget
 have hrl:=fnd_lt hrt
 have hl1:ns.length≤1000000:=ht.2.1
 have hrn:rtN (r,ns,ds)=rt:=by unfold rtN;simp only;rw [hrt];rfl
 rw [hrn] at hpo
 obtain ⟨F,hF⟩:∃ F,F=ptL (r,ns,ds) p:=⟨_,rfl⟩
 simp only [TbV,← hF] at hix' ⊢
 unfold ptL at hF
 rw [hrn] at hF
 simp only at hF
 have zS:=jj hix'<|hget
 repeat' (first|(apply aw_seq_k;intro K hK)|(refine eM64 ?_)|(refine aw_cond (b:=_) (by exact rfl) (fun h=>?_) (fun h=>?_)<;>(try simp at h))|(refine eB ?_)|(refine hK _ ?_;clear hK)|(clear hK;refine hK _ ?_;clear hK)|(clear hK;clear hK;refine hK _ ?_;clear hK)|(clear hK;clear hK;clear hK;refine hK _ ?_;clear hK))
 all_goals clear zS
 refine aw_weaken (le_nilslot (t:=7) (sz:=3) (by simp)) ?_
 refine aw_loopK (s0:=?lps1) (m0:=?lpm1) (ι:={s:Nat×Nat×List Stp // s.1≤2∧s.2.1<ns.length∧pok ns p s.1 s.2.1∧s.2.2++pth ns p s.1 s.2.1=F}) [1,2,5] (fun s=>[(8,I s.1.1),(6,I s.1.2.1),(7,.sl 192 1 3 0 s.1.2.2.length)]) (fun s=>[(192,.vec 1 3 false (srows s.1.2.2))]) (fun s=>s.1.1) ⟨(2,rt,[]),by simp,hrl,hpo,hF.symm⟩ ?lhs1 ?lhm1 ?_ ?_
 case lhs1=>first|(simp [keepS];done)|(simp [keepS];rfl)
 case lhm1=>first|rfl|(simp;done)|(simp;rfl)
 ·exact le_of2 (by simp) (by simp [AVle,AV.under,AV.underL,srows]<;>omega) (by simp [AOle,AO.under,AV.underL,AV.under,srows]<;>omega)
 ·rintro ⟨⟨l,n,acc⟩,hl,hn,hpk,hacc⟩
  simp only at hl hn hpk hacc ⊢
  have hnN:(n:Int)<(ns.length:Int):=by omega
  have hdl:=dgt_lt p l
  have hdI:(dgt p l:Int)<8:=by omega
  have hgn:=nrows_gi hn
  have hgnE:=nrows_gE hn
  have h8:(gn ns n).2.length=8:=(ht.1 _ (gn_mem hn)).1
  have hw8:=wcs_gi (l:=(gn ns n).2) (i:=dgt p l) (by omega)
  have hwE:=wcs_gE (l:=(gn ns n).2) (i:=dgt p l) (by omega)
  have hw64:=wd_lt ht (n:=n) (i:=dgt p l) hn
  have hdg':=hdg p l hp hl
  have hlen:(acc++pth ns p l n).length≤3+acc.length:=by rw [List.length_append];have:=pth_len (ns:=ns) (p:=p) (l:=l) (n:=n);omega
  obtain ⟨w,hwd⟩:∃ w,w=wd ns n (dgt p l):=⟨_,rfl⟩
  have hwg:(gn ns n).2.getD (dgt p l) 0=w:=hwd.symm
  rw [hwg] at hw8 hwE
  simp only at hw64
  rw [← hwd] at hw64
  have hwl:(wcs (gn ns n).2).length=8:=by simp [h8]
  obtain ⟨⟨fr,ws⟩,hm⟩:∃ m,m=gn ns n:=⟨_,rfl⟩
  rw [← hm] at hgn hgnE hw8 hwE hwl
  simp only at hgn hgnE hw8 hwE hwl
  obtain ⟨cs,hcs⟩:∃ cs,cs=wcs ws:=⟨_,rfl⟩
  rw [← hcs] at hgn hgnE hw8 hwE hwl
  clear hcs hm h8 hwg
  have hen':=hen w hw64
  have hst:∀ (x:List Stp),srows acc++[[I n,I l,U w]]=srows (acc++[(n,l,w)]):=fun _=>by simp [srows,srow]
  have hst:=hst []
  have htk:List.take acc.length (srows acc)=srows acc:=List.take_of_length_le (by simp)
  have hal:acc.length≤1000:=by
   have h1:F.length≤3:=by rw [hF];exact pth_len
   rw [← hacc,List.length_append] at h1;omega
  have hdR:tabW w=if (decR w).1.1=4 then some (decR w).1.2.1 else none:=rfl
  obtain ⟨⟨⟨k,f,d,a,x,h⟩,e⟩,hE⟩:∃ r,r=decR w:=⟨_,rfl⟩
  rw [← hE] at hen' hdR
  clear hE
  simp only [EnV,U] at hen' hw8 hwE hst hdR
  obtain ⟨dg,hdg0⟩:∃ dg,dg=dgt p l:=⟨_,rfl⟩
  rw [← hdg0] at hdl hdI hw8 hwE hdg' hwd
  rcases Decidable.em (k=4) with hk|hk
  ·subst hk
   simp only [if_true] at hdR
   cases l with
   | zero =>
    simp only [pok] at hpk
    rw [← hdg0,← hwd,hdR] at hpk
    simp at hpk
   | succ l =>
    simp only [pok,pth] at hpk hacc
    rw [← hdg0,← hwd] at hpk hacc
    obtain ⟨nx,hfn,hpk2⟩:=hpk f hdR
    have hkid:kid WA ns w=some nx:=kid_some.2 ⟨f,hdR,hfn⟩
    rw [hkid] at hacc
    simp only at hacc
    have hg2:=idxE_get ha f
    rw [hfn] at hg2
    try simp only [Option.map_some] at hg2
    have hnx:=fnd_lt hfn
    have hlI:((l+1:Nat):Int)=(l:Int)+1:=by omega
    rw [hlI] at hdg' hst ⊢
    have hl1I:((l:Int)+1 - 1)=(l:Int):=by omega
    have zS:=jj hdg'<|jj hn<|jj hnN<|jj hgn<|jj hgnE<|jj hw8<|jj hwE<|jj hwl<|jj hdl<|jj hdI<|jj hen'<|jj hg2<|jj htk<|jj hst<|jj hal<|hl1I
    repeat' (first|(apply aw_seq_k;intro K hK)|(refine eM64 ?_)|(refine aw_cond (b:=_) (by exact rfl) (fun h=>?_) (fun h=>?_)<;>(try simp at h))|(refine eB ?_)|(refine hK _ ?_;clear hK)|(clear hK;refine hK _ ?_;clear hK)|(clear hK;clear hK;refine hK _ ?_;clear hK)|(clear hK;clear hK;clear hK;refine hK _ ?_;clear hK))
    all_goals clear zS
    refine ⟨l,nx,acc++[(n,l+1,w)],?_,⟨by omega,hnx,hpk2,by simpa using hacc⟩,by omega⟩
    simp only [List.length_append,List.length_singleton]
    refine le_turn (s1:=?tus2) (m1:=?tum2) [] [1,2,5,6,7,8] [0,48,192] ?tua2 ?tub2 ?tuc2 ?tud2 ?tue2 ?tuf2 ?tug2
    case tua2=>first|(simp [keepS];done)|(simp [keepS];rfl)
    case tub2=>first|(simp;done)|(simp;rfl)
    case tuc2=>simp
    case tud2=>simp
    case tue2=>simp
    case tuf2=>simp
    case tug2 =>
     simp [swp,vr]
     exact dle
  ·have hkid:kid WA ns w=none:=by unfold kid;show (tabW w).bind _=none;rw [hdR,if_neg hk];rfl
   have hfin:F=acc++[(n,l,w)]:=by
    cases l with
    | zero=>simp only [pth] at hacc;rw [← hdg0,← hwd] at hacc;exact hacc.symm
    | succ l=>simp only [pth] at hacc;rw [← hdg0,← hwd,hkid] at hacc;exact hacc.symm
   rw [hfin]
   have zS:=jj hdg'<|jj hn<|jj hnN<|jj hgn<|jj hgnE<|jj hw8<|jj hwE<|jj hwl<|jj hdl<|jj hdI<|jj hen'<|jj hk<|jj htk<|jj hst<|hal
   repeat' (first|(apply aw_seq_k;intro K hK)|(refine eM64 ?_)|(refine aw_cond (b:=_) (by exact rfl) (fun h=>?_) (fun h=>?_)<;>(try simp at h))|(refine eB ?_)|(refine hK _ ?_;clear hK)|(clear hK;refine hK _ ?_;clear hK)|(clear hK;clear hK;refine hK _ ?_;clear hK)|(clear hK;clear hK;clear hK;refine hK _ ?_;clear hK))
   all_goals clear zS
   have htk2:List.take (acc.length+1) (srows (acc++[(n,l,w)]))=srows (acc++[(n,l,w)]):=List.take_of_length_le (by simp)
   refine ⟨by simp,?_⟩
   simp [leaves_iff,Tryz.f137,htk2]
   try exact dt
end Go.AM
set_option maxHeartbeats 4000000
namespace Go.AM
open Go Go.Proofs
theorem srows_last {ns:NdL} {p l n:Nat}:(srows (pth ns p l n))[(pth ns p l n).length - 1]?=some (srow (lst ns p l n)):=by
 obtain ⟨i,hi⟩:=pth_lst (ns:=ns) (p:=p) (l:=l) (n:=n)
 rw [hi]
 simp [srows]
theorem pth_pos {ns:NdL} {p l n:Nat}:1≤(pth ns p l n).length:=by
 obtain ⟨i,hi⟩:=pth_lst (ns:=ns) (p:=p) (l:=l) (n:=n)
 rw [hi];simp
theorem s110 (X:AX) (hX:XOK Tryz.prog X) (hw:X.W wT) (hpa:∀ (t:Tb) (p:Nat),ptO t p→∀ M n,X.call 137 [TbV t,I p] M n=some (.sl n 1 3 0 (ptL t p).length,[(n,.vec 1 3 false (srows (ptL t p)))])) :
  PSound Tryz.prog 110 (specF (ι:={x:Tb×Nat // ptO x.1 x.2}) (fun x=>[TbV x.1.1,I x.1.2]) fun x=>retOf [stV (lsT x.1.1 x.1.2)]):=by
 refine psound_spec hX mixed Tryz.func110 rfl fun ⟨⟨⟨r,ns,ds⟩,p⟩,ht⟩ w0 G=>⟨by show 2≤15;decide,rfl,?_⟩
 show AW ⟨Tryz.prog,X,15,w0,.pure G⟩ _ _ _
 have hc:Cx.OK ⟨Tryz.prog,X,15,w0,.pure G⟩:=⟨hX,mixed⟩
 have hpa':=hpa _ _ ht
 have hla:=srows_last (ns:=ns) (p:=p) (l:=2) (n:=rtN (r,ns,ds))
 have hpo:=pth_pos (ns:=ns) (p:=p) (l:=2) (n:=rtN (r,ns,ds))
 have hle:=pth_len (ns:=ns) (p:=p) (l:=2) (n:=rtN (r,ns,ds))
 have e1:ptL (r,ns,ds) p=pth ns p 2 (rtN (r,ns,ds)):=rfl
 have e2:lsT (r,ns,ds) p=lst ns p 2 (rtN (r,ns,ds)):=rfl
 simp only [e1,e2,TbV,stV] at hpa' ⊢
 obtain ⟨L,hL⟩:∃ L,L=pth ns p 2 (rtN (r,ns,ds)):=⟨_,rfl⟩
 obtain ⟨⟨a,b,c⟩,hS⟩:∃ S,S=lst ns p 2 (rtN (r,ns,ds)):=⟨_,rfl⟩
 rw [← hL] at hpa' hla hpo hle
 rw [← hS] at hla ⊢
 obtain ⟨k,hk⟩:∃ k,L.length=k+1:=⟨L.length - 1,by omega⟩
 rw [hk] at hpa' hla
 rw [Nat.add_sub_cancel] at hla
 have hkI:((k+1:Nat):Int) - 1=k:=by omega
 have hkJ:((k:Int)+1) - 1=k:=by omega
 have hlE:∀ h',(srows L)[k]'(h')=srow (a,b,c):=fun h'=>by
  rw [List.getElem?_eq_getElem h'] at hla
  exact Option.some.inj hla
 simp only [srow,U] at hla hlE ⊢
 have hk3:k≤2:=by omega
 have zS:=jj hpa'<|jj hkI<|jj hkJ<|jj hla<|jj hlE<|jj hk<|hk3
 refine dM64 ?_
 repeat (intro K hK)
 clear zS
 refine ⟨by simp,?_⟩
 simp [leaves_iff,Tryz.f110]
 try exact dt
theorem dig_dgt {p l:Nat} (hp:p<512) (hl:l≤2):dig p l=(dgt p l:Nat):=by
 unfold dig dgt
 rcases (by omega:l=0∨l=1∨l=2) with rfl|rfl|rfl
 ·simp
 ·simp
 ·simp
  omega
theorem s111 (X:AX) (hX:XOK Tryz.prog X) (hw:X.W wT) (hfi:∀ (t:Tb) f,tbOK t→∀ M n,X.call 122 [TbV t,I f] M n=some (I (fstG (fun n=>decide (n.1=f)) t.2.1),[]))
  (hdg:∀ (p l:Nat),p<512→l≤2→∀ M n,X.call 112 [I p,I l] M n=some (I (dig p l),[])) (hen:∀ w:Nat,w<2^64→∀ M n,X.call 103 [U w] M n=some (EnV (decR w).1,[])) :
  PSound Tryz.prog 111 (specF (ι:={x:Tb×Nat // ptO x.1 x.2}) (fun x=>[TbV x.1.1,I x.1.2]) fun x=>retOf [I (lsT x.1.1 x.1.2).1,I (lsT x.1.1 x.1.2).2.1]):=by
 refine psound_spec hX mixed Tryz.func111 rfl fun ⟨⟨⟨r,ns,ds⟩,p⟩,ht,ha,hp,⟨rt,hrt⟩,hpo⟩ w0 G=>⟨by show 2≤38;decide,rfl,?_⟩
 show AW ⟨Tryz.prog,X,38,w0,.pure G⟩ _ _ _
 have hc:Cx.OK ⟨Tryz.prog,X,38,w0,.pure G⟩:=⟨hX,mixed⟩
 simp only at ha hp hrt hpo
 have hfi':=fun f=>hfi (r,ns,ds) f ht
 have hrl:=fnd_lt hrt
 have hl1:ns.length≤1000000:=ht.2.1
 have hrn:rtN (r,ns,ds)=rt:=by unfold rtN;simp only;rw [hrt];rfl
 rw [hrn] at hpo
 have hfr:=hfi' r
 rw [fstG_fnd] at hfr
 simp only at hfr
 rw [hrt] at hfr
 try simp only at hfr
 obtain ⟨F,hF⟩:∃ F,F=lsT (r,ns,ds) p:=⟨_,rfl⟩
 simp only [TbV,← hF] at hfi' hfr ⊢
 unfold lsT at hF
 rw [hrn] at hF
 simp only at hF
 have zS:=hfr
 repeat' (first|(apply aw_seq_k;intro K hK)|(refine eM64 ?_)|(refine aw_cond (b:=_) (by exact rfl) (fun h=>?_) (fun h=>?_)<;>(try simp at h))|(refine eB ?_)|(refine hK _ ?_;clear hK)|(clear hK;refine hK _ ?_;clear hK)|(clear hK;clear hK;refine hK _ ?_;clear hK)|(clear hK;clear hK;clear hK;refine hK _ ?_;clear hK))
 all_goals clear zS
 refine aw_loopK (s0:=?lps1) (m0:=?lpm1) (ι:={s:Nat×Nat // s.1≤2∧s.2<ns.length∧pok ns p s.1 s.2∧lst ns p s.1 s.2=F}) [1,2] (fun s=>[(7,I s.1.1),(6,I s.1.2)]) (fun _=>[]) (fun s=>s.1.1) ⟨(2,rt),by simp,hrl,hpo,hF.symm⟩ ?lhs1 ?lhm1 ?_ ?_
 case lhs1=>first|(simp [keepS];done)|(simp [keepS];rfl)
 case lhm1=>first|rfl|(simp;done)|(simp;rfl)
 ·exact dle
 ·rintro ⟨⟨l,n⟩,hl,hn,hpk,hacc⟩
  simp only at hl hn hpk hacc ⊢
  have hnN:(n:Int)<(ns.length:Int):=by omega
  have hdl:=dgt_lt p l
  have hdI:(dgt p l:Int)<8:=by omega
  have hgn:=nrows_gi hn
  have hgnE:=nrows_gE hn
  have h8:(gn ns n).2.length=8:=(ht.1 _ (gn_mem hn)).1
  have hw8:=wcs_gi (l:=(gn ns n).2) (i:=dgt p l) (by omega)
  have hwE:=wcs_gE (l:=(gn ns n).2) (i:=dgt p l) (by omega)
  have hw64:=wd_lt ht (n:=n) (i:=dgt p l) hn
  have hdg':=hdg p l hp hl
  rw [dig_dgt hp hl] at hdg'
  obtain ⟨w,hwd⟩:∃ w,w=wd ns n (dgt p l):=⟨_,rfl⟩
  have hwg:(gn ns n).2.getD (dgt p l) 0=w:=hwd.symm
  rw [hwg] at hw8 hwE
  simp only at hw64
  rw [← hwd] at hw64
  have hwl:(wcs (gn ns n).2).length=8:=by simp [h8]
  obtain ⟨⟨fr,ws⟩,hm⟩:∃ m,m=gn ns n:=⟨_,rfl⟩
  rw [← hm] at hgn hgnE hw8 hwE hwl
  simp only at hgn hgnE hw8 hwE hwl
  obtain ⟨cs,hcs⟩:∃ cs,cs=wcs ws:=⟨_,rfl⟩
  rw [← hcs] at hgn hgnE hw8 hwE hwl
  clear hcs hm h8 hwg
  have hen':=hen w hw64
  have hdR:tabW w=if (decR w).1.1=4 then some (decR w).1.2.1 else none:=rfl
  obtain ⟨⟨⟨k,f,d,a,x,h⟩,e⟩,hE⟩:∃ r,r=decR w:=⟨_,rfl⟩
  rw [← hE] at hen' hdR
  clear hE
  simp only [EnV,U] at hen' hw8 hwE hdR
  obtain ⟨dg,hdg0⟩:∃ dg,dg=dgt p l:=⟨_,rfl⟩
  rw [← hdg0] at hdl hdI hw8 hwE hdg' hwd
  cases l with
  | zero =>
   have e:F=(n,0,w):=by rw [← hacc];simp only [lst];rw [← hdg0,← hwd]
   repeat' (first|(apply aw_seq_k;intro K hK)|(refine eM64o ?_)|(refine aw_cond (b:=_) (by exact rfl) (fun h=>?_) (fun h=>?_)<;>(try simp at h))|(refine eB ?_)|(refine hK _ ?_;clear hK)|(clear hK;refine hK _ ?_;clear hK)|(clear hK;clear hK;refine hK _ ?_;clear hK)|(clear hK;clear hK;clear hK;refine hK _ ?_;clear hK))
   refine ⟨by simp,?_⟩
   simp [leaves_iff,Tryz.f111,e]
   try exact dt
  | succ l =>
   have hlI:((l+1:Nat):Int)=(l:Int)+1:=by omega
   rw [hlI] at hdg' ⊢
   have hl0:0<(l:Int)+1:=by omega
   have hl1I:((l:Int)+1 - 1)=(l:Int):=by omega
   rcases Decidable.em (k=4) with hk|hk
   ·subst hk
    simp only [if_true] at hdR
    simp only [pok,lst] at hpk hacc
    rw [← hdg0,← hwd] at hpk hacc
    obtain ⟨nx,hfn,hpk2⟩:=hpk f hdR
    have hkid:kid WA ns w=some nx:=kid_some.2 ⟨f,hdR,hfn⟩
    rw [hkid] at hacc
    simp only at hacc
    have hf2:=hfi' f
    rw [fstG_fnd,hfn] at hf2
    try simp only at hf2
    have hnx:=fnd_lt hfn
    have zS:=jj hl0<|jj hdg'<|jj hn<|jj hnN<|jj hgn<|jj hgnE<|jj hw8<|jj hwE<|jj hwl<|jj hdl<|jj hdI<|jj hen'<|jj hf2<|hl1I
    repeat' (first|(apply aw_seq_k;intro K hK)|(refine eM64 ?_)|(refine aw_cond (b:=_) (by exact rfl) (fun h=>?_) (fun h=>?_)<;>(try simp at h))|(refine eB ?_)|(refine hK _ ?_;clear hK)|(clear hK;refine hK _ ?_;clear hK)|(clear hK;clear hK;refine hK _ ?_;clear hK)|(clear hK;clear hK;clear hK;refine hK _ ?_;clear hK))
    all_goals clear zS
    refine ⟨l,nx,?_,⟨by omega,hnx,hpk2,hacc⟩,by omega⟩
    exact dle
   ·have hkid:kid WA ns w=none:=by unfold kid;show (tabW w).bind _=none;rw [hdR,if_neg hk];rfl
    have e:F=(n,l+1,w):=by rw [← hacc];simp only [lst];rw [← hdg0,← hwd,hkid]
    have zS:=jj hl0<|jj hdg'<|jj hn<|jj hnN<|jj hgn<|jj hgnE<|jj hw8<|jj hwE<|jj hwl<|jj hdl<|jj hdI<|jj hen'<|hk
    repeat' (first|(apply aw_seq_k;intro K hK)|(refine eM64 ?_)|(refine aw_cond (b:=_) (by exact rfl) (fun h=>?_) (fun h=>?_)<;>(try simp at h))|(refine eB ?_)|(refine hK _ ?_;clear hK)|(clear hK;refine hK _ ?_;clear hK)|(clear hK;clear hK;refine hK _ ?_;clear hK)|(clear hK;clear hK;clear hK;refine hK _ ?_;clear hK))
    all_goals clear zS
    refine ⟨by simp,?_⟩
    simp [leaves_iff,Tryz.f111,e]
    try exact dt
noncomputable def ckd (t:Tb) (n lim:Int):Int:=if chk t≠0 then chk t else if n<0∨lim≤n then 2 else 0
theorem s109 (X:AX) (hX:XOK Tryz.prog X) (hw:X.W wT) (hch:∀ t:Tb,tbOK t→∀ M n,X.call 39 [TbV t] M n=some (I (chk t),[])) :
  PSound Tryz.prog 109 (specF (ι:={x:Tb×Int×Int // tbOK x.1}) (fun x=>[TbV x.1.1,I x.1.2.1,I x.1.2.2]) fun x=>retOf [I (ckd x.1.1 x.1.2.1 x.1.2.2)]):=by
 refine psound_spec hX mixed Tryz.func109 rfl fun ⟨⟨⟨r,ns,ds⟩,n,lim⟩,ht⟩ w0 G=>⟨by show 3≤20;decide,rfl,?_⟩
 show AW ⟨Tryz.prog,X,20,w0,.pure G⟩ _ _ _
 have hc:Cx.OK ⟨Tryz.prog,X,20,w0,.pure G⟩:=⟨hX,mixed⟩
 have hch':=hch _ ht
 unfold ckd
 obtain ⟨c,hc0⟩:∃ c,c=chk (r,ns,ds):=⟨_,rfl⟩
 simp only [TbV,← hc0] at hch' ⊢
 rcases Decidable.em (c=0) with h0|h0
 ·subst h0
  rcases Decidable.em (n<0) with h1|h1
  ·have zS:=jj hch'<|h1
   refine dM64 ?_
   repeat (intro K hK)
   clear zS
   refine ⟨by simp,?_⟩
   simp [leaves_iff,Tryz.f109,h1]
   try exact dt
  ·rcases Decidable.em (lim≤n) with h2|h2
   ·have zS:=jj hch'<|jj h1<|h2
    refine dM64 ?_
    repeat (intro K hK)
    clear zS
    refine ⟨by simp,?_⟩
    simp [leaves_iff,Tryz.f109,h1,h2]
    try exact dt
   ·have zS:=jj hch'<|jj h1<|h2
    refine dM64 ?_
    repeat (intro K hK)
    clear zS
    refine ⟨by simp,?_⟩
    simp [leaves_iff,Tryz.f109,h1,h2]
    try exact dt
 ·have zS:=jj hch'<|h0
  refine dM64 ?_
  repeat (intro K hK)
  clear zS
  refine ⟨by simp,?_⟩
  simp [leaves_iff,Tryz.f109,h0]
  try exact dt
end Go.AM
namespace Go.AM
open Go Go.Proofs
structure Pv (t:Tb):Prop where
 asc:ascN t.2.1
 vm:VM WA (Mof t.2.1) t.1
theorem Vt.pv {t:Tb} (h:Vt t):Pv t:=⟨h.num.asc,h.vm⟩
def wlk (M:Mm) (root:Int) (p:Nat):Int×Nat×Nat:=match frP WA M root 2 (p/8) with
 | some f=>(f,0,wM M f (p%8))
 | none=>match frP WA M root 1 (p/64) with
  | some f=>(f,1,wM M f (p/8%8))
  | none=>(root,2,wM M root (p/64))
theorem Pv.root {t:Tb} (h:Pv t):fnd t.2.1 t.1=some (rtN t):=by
 obtain ⟨ws,h1,_⟩:=h.vm.nd 0 0 Pos0 t.1 rfl
 obtain ⟨r,h2,_⟩:=Mof_some.1 h1
 unfold rtN
 rw [h2];rfl
theorem Pv.walk {t:Tb} (h:Pv t) {p:Nat} (hp:p<512):pok t.2.1 p 2 (rtN t)∧fnd t.2.1 (wlk (Mof t.2.1) t.1 p).1=some (lsT t p).1∧(lsT t p).2=(wlk (Mof t.2.1) t.1 p).2:=by
 have hr:=h.root
 have d2:dgt p 2=p/64:=by unfold dgt;simp;omega
 have d1:dgt p 1=p/8%8:=by unfold dgt;simp
 have d0:dgt p 0=p%8:=by unfold dgt;simp
 unfold lsT wlk
 simp only [pok,lst,d2,d1,d0]
 have q2:=h.vm.nd
 have f1:frP WA (Mof t.2.1) t.1 1 (p/64)=tabW (wd t.2.1 (rtN t) (p/64)):=by
  simp only [frP,Option.bind_some]
  rw [show p/64%8=p/64 by omega,wM_Mof hr]
  rfl
 have f2:frP WA (Mof t.2.1) t.1 2 (p/8)=(frP WA (Mof t.2.1) t.1 1 (p/64)).bind fun f=>tabW (wM (Mof t.2.1) f (p/8%8)):=by
  show (frP WA (Mof t.2.1) t.1 1 (p/8/8)).bind _=_
  rw [show p/8/8=p/64 by omega]
  rfl
 cases h1:tabW (wd t.2.1 (rtN t) (p/64)) with
 | none =>
  rw [h1] at f1
  rw [f1] at f2
  have hk:kid WA t.2.1 (wd t.2.1 (rtN t) (p/64))=none:=by unfold kid;show (tabW _).bind _=none;rw [h1];rfl
  rw [f2,f1,hk]
  simp only [Option.bind_none]
  refine ⟨fun g hg=>by simp at hg,hr,?_⟩
  rw [wM_Mof hr]
 | some g1 =>
  rw [h1] at f1
  rw [f1] at f2
  simp only [Option.bind_some] at f2
  obtain ⟨ws,m1,_⟩:=q2 1 (p/64) (Pos1 (by omega)) g1 f1
  obtain ⟨n1,hn1,_⟩:=Mof_some.1 m1
  have hk:kid WA t.2.1 (wd t.2.1 (rtN t) (p/64))=some n1:=kid_some.2 ⟨g1,h1,hn1⟩
  rw [hk,f1]
  rw [wM_Mof hn1] at f2
  simp only
  cases h2:tabW (wd t.2.1 n1 (p/8%8)) with
  | none =>
   rw [h2] at f2
   have hk2:kid WA t.2.1 (wd t.2.1 n1 (p/8%8))=none:=by unfold kid;show (tabW _).bind _=none;rw [h2];rfl
   rw [f2,hk2]
   simp only
   refine ⟨fun g hg=>?_,hn1,?_⟩
   ·simp only [Option.some.injEq] at hg
    subst hg
    exact ⟨n1,hn1,fun g hg=>by rw [h2] at hg;simp at hg⟩
   ·rw [wM_Mof hn1]
  | some g2 =>
   rw [h2] at f2
   obtain ⟨ws2,m2,_,m3⟩:=q2 2 (p/8) (Pos2 (by omega)) g2 f2
   obtain ⟨n2,hn2,e2⟩:=Mof_some.1 m2
   have hk2:kid WA t.2.1 (wd t.2.1 n1 (p/8%8))=some n2:=kid_some.2 ⟨g2,h2,hn2⟩
   rw [f2,hk2]
   simp only
   refine ⟨fun g hg=>?_,hn2,?_⟩
   ·simp only [Option.some.injEq] at hg
    subst hg
    refine ⟨n1,hn1,fun g hg=>?_⟩
    rw [h2] at hg
    simp only [Option.some.injEq] at hg
    subst hg
    refine ⟨n2,hn2,?_⟩
    have:=m3 (p%8) (by omega)
    refine (WD_ok fun _=>true).flat _ ?_
    unfold wd
    rw [e2]
    exact this
   ·rw [wM_Mof hn2]
theorem Pv.pto {t:Tb} (h:Pv t) (ht:tbOK t) {p:Nat} (hp:p<512):ptO t p:=⟨ht,h.asc,hp,⟨_,h.root⟩,(h.walk hp).1⟩
theorem lsT_lt {t:Tb} (h:Pv t) {p:Nat} (hp:p<512):(lsT t p).1<t.2.1.length∧(lsT t p).2.1≤2:=lst_lt (fnd_lt h.root)
theorem chk_pv {t:Tb} (ht:tbOK t) (h:chk t=0):Pv t:=((chk_iff ht).1 h).pv
end Go.AM
set_option maxHeartbeats 2000000
namespace Go.AM
open Go Go.Proofs
theorem ckd_cases (t:Tb) (n lim:Int):(ckd t n lim≠0)∨(ckd t n lim=0∧chk t=0∧0≤n∧n<lim):=by
 unfold ckd
 by_cases h:chk t=0
 ·rw [if_neg (by simp [h])]
  split
  ·left;decide
  ·right;exact ⟨rfl,h,by omega,by omega⟩
 ·rw [if_pos h];exact .inl h
theorem ckd_z {t:Tb} {n lim:Int} (h:chk t=0) (h1:0≤n) (h2:n<lim):ckd t n lim=0:=by
 unfold ckd
 rw [if_neg (by simp [h]),if_neg (by omega)]
theorem ckd_c {t:Tb} {n lim:Int} (h:chk t≠0):ckd t n lim=chk t:=by unfold ckd;rw [if_pos h]
theorem ckd_r {t:Tb} {n lim:Int} (h:chk t=0) (h1:n<0∨lim≤n):ckd t n lim=2:=by unfold ckd;rw [if_neg (by simp [h]),if_pos h1]
noncomputable def walkT (t:Tb) (n:Int):Nat×Nat×Int:=if ckd t n 512=0 then ((lsT t n.toNat).2.2,(lsT t n.toNat).2.1,0) else (0,0,ckd t n 512)
noncomputable def missT (t:Tb) (n:Int):Nat×Int:=if ckd t n 512=0 then (if (lsT t n.toNat).2.1=1∧(decR (lsT t n.toNat).2.2).1.2.2.2.2.2=true then (0,7) else ((lsT t n.toNat).2.1,0)) else (0,ckd t n 512)
noncomputable def missR (t:Tb) (n:Int):Nat×Int:=if (walkT t n).2.2=0 then (if 0<(walkT t n).2.1∧(walkT t n).1≠0 then (0,7) else ((walkT t n).2.1,0)) else (0,(walkT t n).2.2)
noncomputable def hugeT (t:Tb) (g:Int):Bool:=if ckd t g 64=0 then (decR (lsT t (g.toNat*8)).2.2).1.2.2.2.2.2 else false
noncomputable def hugeR (t:Tb) (g:Int):Bool:=decide (chk t=0∧0≤g∧g<64∧0≤fstG (fun n=>decide (n.1=g)) t.2.2)
theorem walkT_z {t:Tb} {n:Int} (h:ckd t n 512=0):walkT t n=((lsT t n.toNat).2.2,(lsT t n.toNat).2.1,0):=by unfold walkT;rw [if_pos h]
theorem walkT_n {t:Tb} {n:Int} (h:¬ ckd t n 512=0):walkT t n=(0,0,ckd t n 512):=by unfold walkT;rw [if_neg h]
theorem missT_z {t:Tb} {n:Int} (h:ckd t n 512=0):missT t n=if (lsT t n.toNat).2.1=1∧(decR (lsT t n.toNat).2.2).1.2.2.2.2.2=true then (0,7) else ((lsT t n.toNat).2.1,0):=by unfold missT;rw [if_pos h]
theorem missT_n {t:Tb} {n:Int} (h:¬ ckd t n 512=0):missT t n=(0,ckd t n 512):=by unfold missT;rw [if_neg h]
theorem lsT_u64 {t:Tb} (ht:tbOK t) (h:Pv t) {p:Nat} (hp:p<512):(lsT t p).2.2<2^64:=by
 have:=lst_word (ns:=t.2.1) (p:=p) (l:=2) (n:=rtN t)
 show (lst t.2.1 p 2 (rtN t)).2.2<_
 rw [this]
 exact wd_lt ht (lst_lt (fnd_lt h.root)).1
section
variable (X:AX) (hX:XOK Tryz.prog X) (hw:X.W wT) (hck:∀ t:Tb,tbOK t→∀ (n lim:Int) M k,X.call 109 [TbV t,I n,I lim] M k=some (I (ckd t n lim),[]))
 (hla:∀ (t:Tb) (p:Nat),ptO t p→∀ M n,X.call 110 [TbV t,I p] M n=some (stV (lsT t p),[]))
 (hen:∀ w:Nat,w<2^64→∀ M n,X.call 113 [U w] M n=some (EnV (decR w).1,[]))
include hX hw hck hla
theorem s35:PSound Tryz.prog 35 (specF (ι:={x:Tb×Int // tbOK x.1}) (fun x=>[TbV x.1.1,I x.1.2]) fun x=>retOf [U (walkT x.1.1 x.1.2).1,I (walkT x.1.1 x.1.2).2.1,I (walkT x.1.1 x.1.2).2.2]):=by
 refine psound_spec hX mixed Tryz.func35 rfl fun ⟨⟨⟨r,ns,ds⟩,n⟩,ht⟩ w0 G=>⟨by show 2≤22;decide,rfl,?_⟩
 show AW ⟨Tryz.prog,X,22,w0,.pure G⟩ _ _ _
 have hc:Cx.OK ⟨Tryz.prog,X,22,w0,.pure G⟩:=⟨hX,mixed⟩
 have hck':=hck _ ht n 512
 rcases ckd_cases (r,ns,ds) n 512 with h0|⟨h0,h1,h2,h3⟩
 ·have e:=walkT_n h0
  obtain ⟨c,hc0⟩:∃ c,c=ckd (r,ns,ds) n 512:=⟨_,rfl⟩
  rw [← hc0] at hck' e h0
  simp only [TbV,e,U] at hck' ⊢
  have zS:=jj hck'<|h0
  refine dM64 ?_
  repeat (intro K hK)
  clear zS
  refine ⟨by simp,?_⟩
  simp [leaves_iff,Tryz.f35]
  try exact dt
 ·have e:=walkT_z h0
  obtain ⟨p,rfl⟩:∃ p:Nat,n=p:=⟨n.toNat,by omega⟩
  have hp:p<512:=by omega
  have hpto:=(chk_pv ht h1).pto ht hp
  have hla':=hla _ p hpto
  rw [h0] at hck'
  rw [Int.toNat_natCast] at e
  obtain ⟨⟨a,b,c⟩,hS⟩:∃ S,S=lsT (r,ns,ds) p:=⟨_,rfl⟩
  rw [← hS] at hla' e
  simp only [TbV,e,stV,srow,U] at hck' hla' ⊢
  have zS:=jj hck'<|hla'
  refine dM64 ?_
  repeat (intro K hK)
  clear zS
  refine ⟨by simp,?_⟩
  simp [leaves_iff,Tryz.f35]
  try exact dt
include hen
theorem s37:PSound Tryz.prog 37 (specF (ι:={x:Tb×Int // tbOK x.1}) (fun x=>[TbV x.1.1,I x.1.2]) fun x=>retOf [I (missT x.1.1 x.1.2).1,I (missT x.1.1 x.1.2).2]):=by
 refine psound_spec hX mixed Tryz.func37 rfl fun ⟨⟨⟨r,ns,ds⟩,n⟩,ht⟩ w0 G=>⟨by show 2≤28;decide,rfl,?_⟩
 show AW ⟨Tryz.prog,X,28,w0,.pure G⟩ _ _ _
 have hc:Cx.OK ⟨Tryz.prog,X,28,w0,.pure G⟩:=⟨hX,mixed⟩
 have hck':=hck _ ht n 512
 rcases ckd_cases (r,ns,ds) n 512 with h0|⟨h0,h1,h2,h3⟩
 ·have e:=missT_n h0
  obtain ⟨c,hc0⟩:∃ c,c=ckd (r,ns,ds) n 512:=⟨_,rfl⟩
  rw [← hc0] at hck' e h0
  simp only [TbV,e] at hck' ⊢
  have zS:=jj hck'<|h0
  refine dM64 ?_
  repeat (intro K hK)
  clear zS
  refine ⟨by simp,?_⟩
  simp [leaves_iff,Tryz.f37]
  try exact dt
 ·have e:=missT_z h0
  obtain ⟨p,rfl⟩:∃ p:Nat,n=p:=⟨n.toNat,by omega⟩
  have hp:p<512:=by omega
  have hpv:=chk_pv ht h1
  have hpto:=hpv.pto ht hp
  have hla':=hla _ p hpto
  have hen':=hen _ (lsT_u64 ht hpv hp)
  rw [h0] at hck'
  rw [Int.toNat_natCast] at e
  obtain ⟨⟨a,b,c⟩,hS⟩:∃ S,S=lsT (r,ns,ds) p:=⟨_,rfl⟩
  rw [← hS] at hla' e hen'
  obtain ⟨⟨⟨k,f,d,a2,x,h⟩,e2⟩,hE⟩:∃ r,r=decR c:=⟨_,rfl⟩
  simp only [← hE] at hen' e
  simp only [TbV,stV,srow,U,EnV] at hck' hla' hen' ⊢
  rcases Decidable.em (b=1) with hb|hb
  ·subst hb
   cases h with
   | true =>
    simp only [and_self,if_true] at e
    have zS:=jj hck'<|jj hla'<|hen'
    refine dM64 ?_
    repeat (intro K hK)
    clear zS
    refine ⟨by simp,?_⟩
    simp [leaves_iff,Tryz.f37,e]
    try exact dt
   | false =>
    simp only [Bool.false_eq_true,and_false,if_false] at e
    have zS:=jj hck'<|jj hla'<|hen'
    refine dM64 ?_
    repeat (intro K hK)
    clear zS
    refine ⟨by simp,?_⟩
    simp [leaves_iff,Tryz.f37,e]
    try exact dt
  ·rw [if_neg (fun h=>hb h.1)] at e
   have hbI:¬ (b:Int)=1:=by omega
   have zS:=jj hck'<|jj hla'<|jj hen'<|jj hb<|hbI
   refine dM64 ?_
   repeat (intro K hK)
   clear zS
   refine ⟨by simp,?_⟩
   simp [leaves_iff,Tryz.f37,e]
   try exact dt
theorem s41:PSound Tryz.prog 41 (specF (ι:={x:Tb×Int // tbOK x.1}) (fun x=>[TbV x.1.1,I x.1.2]) fun x=>retOf [B (hugeT x.1.1 x.1.2)]):=by
 refine psound_spec hX mixed Tryz.func41 rfl fun ⟨⟨⟨r,ns,ds⟩,n⟩,ht⟩ w0 G=>⟨by show 2≤16;decide,rfl,?_⟩
 show AW ⟨Tryz.prog,X,16,w0,.pure G⟩ _ _ _
 have hc:Cx.OK ⟨Tryz.prog,X,16,w0,.pure G⟩:=⟨hX,mixed⟩
 have hck':=hck _ ht n 64
 rcases ckd_cases (r,ns,ds) n 64 with h0|⟨h0,h1,h2,h3⟩
 ·have e:hugeT (r,ns,ds) n=false:=by unfold hugeT;rw [if_neg h0]
  obtain ⟨c,hc0⟩:∃ c,c=ckd (r,ns,ds) n 64:=⟨_,rfl⟩
  rw [← hc0] at hck' h0
  simp only [TbV,e] at hck' ⊢
  have zS:=jj hck'<|h0
  refine dM64 ?_
  repeat (intro K hK)
  clear zS
  refine ⟨by simp,?_⟩
  simp [leaves_iff,Tryz.f41]
  try exact dt
 ·have e:hugeT (r,ns,ds) n=(decR (lsT (r,ns,ds) (n.toNat*8)).2.2).1.2.2.2.2.2:=by unfold hugeT;rw [if_pos h0]
  obtain ⟨p,rfl⟩:∃ p:Nat,n=p:=⟨n.toNat,by omega⟩
  have hp:p*8<512:=by omega
  have hpv:=chk_pv ht h1
  have hpto:=hpv.pto ht hp
  have hla':=hla _ (p*8) hpto
  have hen':=hen _ (lsT_u64 ht hpv hp)
  rw [h0] at hck'
  rw [Int.toNat_natCast] at e
  rw [show ((p*8:Nat):Int)=(p:Int)*8 by omega] at hla'
  obtain ⟨⟨a,b,c⟩,hS⟩:∃ S,S=lsT (r,ns,ds) (p*8):=⟨_,rfl⟩
  rw [← hS] at hla' e hen'
  obtain ⟨⟨⟨k,f,d,a2,x,h⟩,e2⟩,hE⟩:∃ r,r=decR c:=⟨_,rfl⟩
  simp only [← hE] at hen' e
  simp only [TbV,stV,srow,U,EnV] at hck' hla' hen' ⊢
  have zS:=jj hck'<|jj hla'<|hen'
  refine dM64 ?_
  repeat (intro K hK)
  clear zS
  refine ⟨by simp,?_⟩
  simp [leaves_iff,Tryz.f41,e]
  try exact dt
end
theorem s36 (X:AX) (hX:XOK Tryz.prog X) (hw:X.W wT) (hch:∀ t:Tb,tbOK t→∀ M n,X.call 40 [TbV t] M n=some (I (chk t),[]))
  (hst:∀ (t:Tb) (p:Nat),ptO t p→∀ M n,X.call 111 [TbV t,I p] M n=some (.tup [I (lsT t p).1,I (lsT t p).2.1],[]))
  (hdg:∀ (p l:Nat),p<512→l≤2→∀ M n,X.call 112 [I p,I l] M n=some (I (dig p l),[])) :
  PSound Tryz.prog 36 (specF (ι:={x:Tb×Int // tbOK x.1}) (fun x=>[TbV x.1.1,I x.1.2]) fun x=>retOf [U (walkT x.1.1 x.1.2).1,I (walkT x.1.1 x.1.2).2.1,I (walkT x.1.1 x.1.2).2.2]):=by
 refine psound_spec hX mixed Tryz.func36 rfl fun ⟨⟨⟨r,ns,ds⟩,n⟩,ht⟩ w0 G=>⟨by show 2≤38;decide,rfl,?_⟩
 show AW ⟨Tryz.prog,X,38,w0,.pure G⟩ _ _ _
 have hc:Cx.OK ⟨Tryz.prog,X,38,w0,.pure G⟩:=⟨hX,mixed⟩
 have hch':=hch _ ht
 have hl1:ns.length≤1000000:=ht.2.1
 rcases Decidable.em (chk (r,ns,ds)=0) with hc0|hc0
 ·rcases Decidable.em (n<0) with h1|h1
  ·have e:=walkT_n (t:=(r,ns,ds)) (n:=n) (by rw [ckd_r hc0 (.inl h1)];decide)
   rw [ckd_r hc0 (.inl h1)] at e
   rw [hc0] at hch'
   simp only [TbV,e,U] at hch' ⊢
   have zS:=jj hch'<|h1
   refine dM64 ?_
   repeat (intro K hK)
   clear zS
   refine ⟨by simp,?_⟩
   simp [leaves_iff,Tryz.f36]
   try exact dt
  ·rcases Decidable.em (512≤n) with h2|h2
   ·have e:=walkT_n (t:=(r,ns,ds)) (n:=n) (by rw [ckd_r hc0 (.inr h2)];decide)
    rw [ckd_r hc0 (.inr h2)] at e
    rw [hc0] at hch'
    simp only [TbV,e,U] at hch' ⊢
    have zS:=jj hch'<|jj h1<|h2
    refine dM64 ?_
    repeat (intro K hK)
    clear zS
    refine ⟨by simp,?_⟩
    simp [leaves_iff,Tryz.f36]
    try exact dt
   ·have e:=walkT_z (t:=(r,ns,ds)) (n:=n) (ckd_z hc0 (by omega) (by omega))
    obtain ⟨p,rfl⟩:∃ p:Nat,n=p:=⟨n.toNat,by omega⟩
    have hp:p<512:=by omega
    have hpv:=chk_pv ht hc0
    have hpto:=hpv.pto ht hp
    have hst':=hst _ p hpto
    rw [hc0] at hch'
    rw [Int.toNat_natCast] at e
    have hwo:=lst_word (ns:=ns) (p:=p) (l:=2) (n:=rtN (r,ns,ds))
    rw [show lst ns p 2 (rtN (r,ns,ds))=lsT (r,ns,ds) p from rfl] at hwo
    obtain ⟨hlt1,hlt2⟩:=lsT_lt hpv hp
    obtain ⟨⟨a,b,c⟩,hS⟩:∃ S,S=lsT (r,ns,ds) p:=⟨_,rfl⟩
    rw [← hS] at hst' e hwo hlt1 hlt2
    simp only at hwo hlt1 hlt2 hst' e
    have haN:(a:Int)<(ns.length:Int):=by omega
    have hdg':=hdg p b hp hlt2
    rw [dig_dgt hp hlt2] at hdg'
    have hdl:=dgt_lt p b
    have hgn:=nrows_gi hlt1
    have hgnE:=nrows_gE hlt1
    have h8:(gn ns a).2.length=8:=(ht.1 _ (gn_mem hlt1)).1
    have hw8:=wcs_gi (l:=(gn ns a).2) (i:=dgt p b) (by omega)
    have hwE:=wcs_gE (l:=(gn ns a).2) (i:=dgt p b) (by omega)
    have hwg:(gn ns a).2.getD (dgt p b) 0=c:=hwo.symm
    rw [hwg] at hw8 hwE
    have hwl:(wcs (gn ns a).2).length=8:=by simp [h8]
    obtain ⟨⟨fr,ws⟩,hm⟩:∃ m,m=gn ns a:=⟨_,rfl⟩
    rw [← hm] at hgn hgnE hw8 hwE hwl
    simp only at hgn hgnE hw8 hwE hwl
    obtain ⟨cs,hcs⟩:∃ cs,cs=wcs ws:=⟨_,rfl⟩
    rw [← hcs] at hgn hgnE hw8 hwE hwl
    obtain ⟨dg,hdg0⟩:∃ dg,dg=dgt p b:=⟨_,rfl⟩
    rw [← hdg0] at hdl hw8 hwE hdg'
    have hdI:(dg:Int)<8:=by omega
    clear hcs hm h8 hwg hwo hS
    simp only [TbV,U] at hch' hst' hw8 hwE ⊢
    have zS:=jj hch'<|jj hst'<|jj h1<|jj h2<|jj hdg'<|jj hlt1<|jj haN<|jj hgn<|jj hgnE<|jj hw8<|jj hwE<|jj hwl<|jj hdl<|hdI
    refine dM64 ?_
    repeat (intro K hK)
    clear zS
    refine ⟨by simp,?_⟩
    simp [leaves_iff,Tryz.f36,e]
    try exact dt
 ·have e:=walkT_n (t:=(r,ns,ds)) (n:=n) (by rw [ckd_c hc0];exact hc0)
  rw [ckd_c hc0] at e
  obtain ⟨c,hcc⟩:∃ c,c=chk (r,ns,ds):=⟨_,rfl⟩
  rw [← hcc] at hch' e hc0
  simp only [TbV,e,U] at hch' ⊢
  have zS:=jj hch'<|hc0
  refine dM64 ?_
  repeat (intro K hK)
  clear zS
  refine ⟨by simp,?_⟩
  simp [leaves_iff,Tryz.f36]
  try exact dt
theorem s38 (X:AX) (hX:XOK Tryz.prog X) (hw:X.W wT) (hwk:∀ t:Tb,tbOK t→∀ (n:Int) M k,X.call 36 [TbV t,I n] M k=some (.tup [U (walkT t n).1,I (walkT t n).2.1,I (walkT t n).2.2],[])) :
  PSound Tryz.prog 38 (specF (ι:={x:Tb×Int // tbOK x.1}) (fun x=>[TbV x.1.1,I x.1.2]) fun x=>retOf [I (missR x.1.1 x.1.2).1,I (missR x.1.1 x.1.2).2]):=by
 refine psound_spec hX mixed Tryz.func38 rfl fun ⟨⟨⟨r,ns,ds⟩,n⟩,ht⟩ w0 G=>⟨by show 2≤26;decide,rfl,?_⟩
 show AW ⟨Tryz.prog,X,26,w0,.pure G⟩ _ _ _
 have hc:Cx.OK ⟨Tryz.prog,X,26,w0,.pure G⟩:=⟨hX,mixed⟩
 have hwk':=hwk _ ht n
 have e:missR (r,ns,ds) n=if (walkT (r,ns,ds) n).2.2=0 then (if 0<(walkT (r,ns,ds) n).2.1∧(walkT (r,ns,ds) n).1≠0 then (0,7) else ((walkT (r,ns,ds) n).2.1,0)) else (0,(walkT (r,ns,ds) n).2.2):=rfl
 obtain ⟨⟨w,l,c⟩,hS⟩:∃ S,S=walkT (r,ns,ds) n:=⟨_,rfl⟩
 rw [← hS] at hwk' e
 simp only [TbV,U] at hwk' e ⊢
 rcases Decidable.em (c=0) with h0|h0
 ·subst h0
  rcases Decidable.em (0<l) with h1|h1
  ·have h1I:0<(l:Int):=by omega
   rcases Decidable.em (w=0) with h2|h2
   ·subst h2
    simp at e
    have zS:=jj hwk'<|jj h1<|h1I
    refine dM64 ?_
    repeat (intro K hK)
    clear zS
    refine ⟨by simp,?_⟩
    simp [leaves_iff,Tryz.f38,e]
    try exact dt
   ·have h2I:¬ (w:Int)=0:=by omega
    rw [if_pos rfl,if_pos ⟨h1,h2⟩] at e
    have zS:=jj hwk'<|jj h1<|jj h1I<|jj h2<|h2I
    refine dM64 ?_
    repeat (intro K hK)
    clear zS
    refine ⟨by simp,?_⟩
    simp [leaves_iff,Tryz.f38,e]
    try exact dt
  ·have hl0:l=0:=by omega
   subst hl0
   simp at e
   have zS:=hwk'
   refine dM64 ?_
   repeat (intro K hK)
   clear zS
   refine ⟨by simp,?_⟩
   simp [leaves_iff,Tryz.f38,e]
   try exact dt
 ·rw [if_neg h0] at e
  have zS:=jj hwk'<|h0
  refine dM64 ?_
  repeat (intro K hK)
  clear zS
  refine ⟨by simp,?_⟩
  simp [leaves_iff,Tryz.f38,e]
  try exact dt
theorem s42 (X:AX) (hX:XOK Tryz.prog X) (hw:X.W wT) (hch:∀ t:Tb,tbOK t→∀ M n,X.call 40 [TbV t] M n=some (I (chk t),[])) (hde:∀ (t:Tb) f,tbOK t→∀ M n,X.call 124 [TbV t,I f] M n=some (I (fstG (fun n=>decide (n.1=f)) t.2.2),[])) :
  PSound Tryz.prog 42 (specF (ι:={x:Tb×Int // tbOK x.1}) (fun x=>[TbV x.1.1,I x.1.2]) fun x=>retOf [B (hugeR x.1.1 x.1.2)]):=by
 refine psound_spec hX mixed Tryz.func42 rfl fun ⟨⟨⟨r,ns,ds⟩,g⟩,ht⟩ w0 G=>⟨by show 2≤22;decide,rfl,?_⟩
 show AW ⟨Tryz.prog,X,22,w0,.pure G⟩ _ _ _
 have hc:Cx.OK ⟨Tryz.prog,X,22,w0,.pure G⟩:=⟨hX,mixed⟩
 have hch':=hch _ ht
 have hde':=hde _ g ht
 have e:hugeR (r,ns,ds) g=decide (chk (r,ns,ds)=0∧0≤g∧g<64∧0≤fstG (fun n=>decide (n.1=g)) ds):=rfl
 obtain ⟨c,hcc⟩:∃ c,c=chk (r,ns,ds):=⟨_,rfl⟩
 simp only [TbV] at hde' ⊢
 obtain ⟨q,hq⟩:∃ q,q=fstG (fun n:Dp=>decide (n.1=g)) ds:=⟨_,rfl⟩
 rw [← hq] at hde' e
 rw [← hcc] at hch' e
 simp only [TbV] at hch'
 rcases Decidable.em (c=0) with h0|h0
 ·subst h0
  rcases Decidable.em (0≤g) with h1|h1
  ·rcases Decidable.em (g<64) with h2|h2
   ·rcases Decidable.em (0≤q) with h3|h3
    ·rw [decide_eq_true ⟨rfl,h1,h2,h3⟩] at e
     have zS:=jj hch'<|jj h1<|jj h2<|jj hde'<|h3
     refine dM64 ?_
     repeat (intro K hK)
     clear zS
     refine ⟨by simp,?_⟩
     simp [leaves_iff,Tryz.f42,e]
     try exact dt
    ·rw [decide_eq_false (fun h=>h3 h.2.2.2)] at e
     have zS:=jj hch'<|jj h1<|jj h2<|jj hde'<|h3
     refine dM64 ?_
     repeat (intro K hK)
     clear zS
     refine ⟨by simp,?_⟩
     simp [leaves_iff,Tryz.f42,e]
     try exact dt
   ·rw [decide_eq_false (fun h=>h2 h.2.2.1)] at e
    have zS:=jj hch'<|jj h1<|h2
    refine dM64 ?_
    repeat (intro K hK)
    clear zS
    refine ⟨by simp,?_⟩
    simp [leaves_iff,Tryz.f42,e]
    try exact dt
  ·rw [decide_eq_false (fun h=>h1 h.2.1)] at e
   have zS:=jj hch'<|h1
   refine dM64 ?_
   repeat (intro K hK)
   clear zS
   refine ⟨by simp,?_⟩
   simp [leaves_iff,Tryz.f42,e]
   try exact dt
 ·rw [decide_eq_false (fun h=>h0 h.1)] at e
  have zS:=jj hch'<|h0
  refine dM64 ?_
  repeat (intro K hK)
  clear zS
  refine ⟨by simp,?_⟩
  simp [leaves_iff,Tryz.f42,e]
  try exact dt
end Go.AM
namespace Go.AM
theorem sorted_ext {α:Type} {R:α→α→Prop} (hi:∀ a,¬ R a a) (ht:∀ {a b c},R a b→R b c→R a c):∀ {l m:List α},l.Pairwise R→m.Pairwise R→(∀ x,x∈l↔x∈m)→l=m
 | [],[],_,_,_=>rfl
 | [],y::m,_,_,h=>by have:=(h y).2 (by simp);simp at this
 | x::l,[],_,_,h=>by have:=(h x).1 (by simp);simp at this
 | x::l,y::m,hl,hm,h=>by
  rw [List.pairwise_cons] at hl hm
  have e:x=y:=by
   rcases List.mem_cons.1 ((h x).1 (by simp)) with e|h1
   ·exact e
   ·rcases List.mem_cons.1 ((h y).2 (by simp)) with e|h2
    ·exact e.symm
    ·exact absurd (ht (hl.1 y h2) (hm.1 x h1)) (hi x)
  subst e
  congr 1
  refine sorted_ext hi ht hl.2 hm.2 fun z=>?_
  constructor
  ·intro hz
   rcases List.mem_cons.1 ((h z).1 (by simp [hz])) with e|h1
   ·subst e;exact absurd (hl.1 z hz) (hi z)
   ·exact h1
  ·intro hz
   rcases List.mem_cons.1 ((h z).2 (by simp [hz])) with e|h1
   ·subst e;exact absurd (hm.1 z hz) (hi z)
   ·exact h1
section
variable {β:Type}
def ascK (l:List (Int×β)):Prop:=l.Pairwise fun a b=>a.1<b.1
theorem ascK_ext {l m:List (Int×β)} (hl:ascK l) (hm:ascK m) (h:∀ x,x∈l↔x∈m):l=m :=
 sorted_ext (R:=fun a b:Int×β=>a.1<b.1) (fun a=>Int.lt_irrefl _) (fun h1 h2=>Int.lt_trans h1 h2) hl hm h
theorem ascK_uniq {l:List (Int×β)} (h:ascK l) {a b:Int×β} (ha:a∈l) (hb:b∈l) (e:a.1=b.1):a=b:=by
 obtain ⟨i,hi,rfl⟩:=List.getElem_of_mem ha
 obtain ⟨j,hj,rfl⟩:=List.getElem_of_mem hb
 rcases Nat.lt_trichotomy i j with h1|h1|h1
 ·have:=List.pairwise_iff_getElem.1 h i j hi hj h1;omega
 ·subst h1;rfl
 ·have:=List.pairwise_iff_getElem.1 h j i hj hi h1;omega
def insK:List (Int×β)→Int×β→List (Int×β)
 | [],n=>[n]
 | a::r,n=>if n.1<a.1 then n::a::r else a::insK r n
theorem mem_insK {n x:Int×β}:∀ {l:List (Int×β)},x∈insK l n↔x=n∨x∈l
 | []=>by simp [insK]
 | a::r=>by
  simp only [insK]
  split
  ·simp
  ·simp only [List.mem_cons,mem_insK (l:=r)]
   constructor
   ·rintro (h|h|h)
    ·exact .inr (.inl h)
    ·exact .inl h
    ·exact .inr (.inr h)
   ·rintro (h|h|h)
    ·exact .inr (.inl h)
    ·exact .inl h
    ·exact .inr (.inr h)
theorem insK_len {n:Int×β}:∀ {l:List (Int×β)},(insK l n).length=l.length+1
 | []=>rfl
 | a::r=>by
  simp only [insK]
  split
  ·rfl
  ·simp [insK_len (l:=r)]
theorem insK_asc {n:Int×β}:∀ {l:List (Int×β)},ascK l→(∀ a∈l,a.1≠n.1)→ascK (insK l n)
 | [],_,_=>by simp [insK,ascK]
 | a::r,h,hn=>by
  unfold ascK at h ⊢
  rw [List.pairwise_cons] at h
  simp only [insK]
  split
  ·rename_i hlt
   refine List.pairwise_cons.2 ⟨fun b hb=>?_,List.pairwise_cons.2 h⟩
   rcases List.mem_cons.1 hb with e|hb
   ·rw [e];exact hlt
   ·exact Int.lt_trans hlt (h.1 b hb)
  ·rename_i hlt
   refine List.pairwise_cons.2 ⟨fun b hb=>?_,insK_asc h.2 fun b hb=>hn b (by simp [hb])⟩
   rcases mem_insK.1 hb with e|hb
   ·have:=hn a (by simp);rw [e];omega
   ·exact h.1 b hb
def delK (l:List (Int×β)) (k:Int):List (Int×β):=l.filter fun a=>decide (a.1≠k)
theorem mem_delK {l:List (Int×β)} {k:Int} {x:Int×β}:x∈delK l k↔x∈l∧x.1≠k:=by simp [delK]
theorem delK_asc {l:List (Int×β)} {k:Int} (h:ascK l):ascK (delK l k):=List.Pairwise.filter _ h
theorem insK_del {l:List (Int×β)} {n:Int×β} (h:ascK l) (hn:n∈l):insK (delK l n.1) n=l:=by
 refine ascK_ext (insK_asc (delK_asc h) fun a ha=>(mem_delK.1 ha).2) h fun x=>?_
 rw [mem_insK,mem_delK]
 constructor
 ·rintro (h1|h1)
  ·rw [h1];exact hn
  ·exact h1.1
 ·intro h1
  by_cases e:x.1=n.1
  ·exact .inl (ascK_uniq h h1 hn e)
  ·exact .inr ⟨h1,e⟩
theorem insK_of_perm {l m:List (Int×β)} {n:Int×β} (h:ascK l) (hn:∀ a∈l,a.1≠n.1) (hm:m.Pairwise fun a b=>¬ b.1<a.1) (hp:m.Perm (l++[n])):m=insK l n:=by
 have hk:(m.map (·.1)).Nodup:=by
  have h1:((l++[n]).map (·.1)).Nodup:=by
   rw [List.map_append,List.map_singleton]
   refine List.nodup_append.2 ⟨?_,by simp,fun a ha b hb e=>?_⟩
   ·unfold List.Nodup
    rw [List.pairwise_map]
    exact h.imp fun hab e=>by omega
   ·obtain ⟨x,hx,e1⟩:=List.mem_map.1 ha
    simp at hb
    exact hn x hx (by rw [e1,e,hb])
  exact (hp.map _).nodup_iff.2 h1
 have hma:ascK m:=by
  unfold List.Nodup at hk
  rw [List.pairwise_map] at hk
  exact List.Pairwise.imp (fun {a b} (hab:(¬ b.1<a.1)∧a.1≠b.1)=>by omega) (hm.and hk)
 refine ascK_ext hma (insK_asc h hn) fun x=>?_
 rw [hp.mem_iff,mem_insK]
 simp [or_comm]
end
section
variable {ns:NdL}
theorem mem_Mof (ha:ascN ns) {f:Int} {ws:List Nat}:(f,ws)∈ns↔Mof ns f=some ws:=by
 constructor
 ·intro h
  obtain ⟨i,hi,e⟩:=List.getElem_of_mem h
  have h1:=fnd_at ha hi
  rw [List.getD_eq_getElem?_getD,List.getElem?_eq_getElem hi,Option.getD_some,e] at h1
  refine Mof_some.2 ⟨i,h1,?_⟩
  rw [List.getD_eq_getElem?_getD,List.getElem?_eq_getElem hi,Option.getD_some,e]
 ·intro h
  obtain ⟨i,h1,rfl⟩:=Mof_some.1 h
  have hi:=fnd_lt h1
  have h2:=fnd_frame h1
  rw [← h2]
  rw [List.getD_eq_getElem?_getD,List.getElem?_eq_getElem hi,Option.getD_some]
  exact List.getElem_mem hi
theorem Mof_none (ha:ascN ns) {f:Int}:Mof ns f=none↔∀ n∈ns,n.1≠f:=by
 constructor
 ·rintro h ⟨g,ws⟩ hn e
  simp only at e
  subst e
  rw [(mem_Mof ha).1 hn] at h;simp at h
 ·intro h
  cases hm:Mof ns f with
  | none=>rfl
  | some ws=>exact absurd rfl (h _ ((mem_Mof ha).2 hm))
theorem ext_asc {ms:NdL} (ha:ascN ns) (hb:ascN ms) (h:∀ f,Mof ns f=Mof ms f):ns=ms:=by
 refine ascK_ext ha hb fun x=>?_
 obtain ⟨f,ws⟩:=x
 rw [mem_Mof ha,mem_Mof hb,h]
theorem Mof_ins (ha:ascN ns) {f:Int} {ws:List Nat} (hf:∀ n∈ns,n.1≠f):∀ g,Mof (insK ns (f,ws)) g=updM1 (Mof ns) f (some ws) g:=by
 intro g
 have hi:ascN (insK ns (f,ws)):=insK_asc ha hf
 unfold updM1
 split
 ·rename_i e
  subst e
  exact (mem_Mof hi).1 (mem_insK.2 (.inl rfl))
 ·rename_i e
  cases h:Mof ns g with
  | none =>
   refine (Mof_none hi).2 fun n hn=>?_
   rcases mem_insK.1 hn with h1|h1
   ·rw [h1];exact fun h=>e h.symm
   ·exact (Mof_none ha).1 h n h1
  | some us=>exact (mem_Mof hi).1 (mem_insK.2 (.inr ((mem_Mof ha).2 h)))
theorem Mof_del (ha:ascN ns) {f:Int}:∀ g,Mof (delK ns f) g=updM1 (Mof ns) f none g:=by
 intro g
 have hi:ascN (delK ns f):=delK_asc ha
 unfold updM1
 split
 ·rename_i e
  subst e
  exact (Mof_none hi).2 fun n hn=>(mem_delK.1 hn).2
 ·rename_i e
  cases h:Mof ns g with
  | none=>exact (Mof_none hi).2 fun n hn=>(Mof_none ha).1 h n (mem_delK.1 hn).1
  | some us=>exact (mem_Mof hi).1 (mem_delK.2 ⟨(mem_Mof ha).2 h,e⟩)
def setN (ns:NdL) (n i w:Nat):NdL:=ns.set n ((ns.getD n (0,[])).1,(ns.getD n (0,[])).2.set i w)
@[simp] theorem setN_len {n i w:Nat}:(setN ns n i w).length=ns.length:=by simp [setN]
theorem setN_asc (ha:ascN ns) {n i w:Nat} (hn:n<ns.length):ascN (setN ns n i w):=by
 have hk:∀ j (hj:j<(setN ns n i w).length) (hj2:j<ns.length),((setN ns n i w)[j]).1=(ns[j]).1:=fun j hj hj2=>by
  unfold setN at hj ⊢
  rw [List.getElem_set]
  split
  ·rename_i e
   subst e
   simp only
   rw [List.getD_eq_getElem?_getD,List.getElem?_eq_getElem hn];rfl
  ·rfl
 refine List.pairwise_iff_getElem.2 fun a b h1 h2 h3=>?_
 rw [hk a h1 (by simpa using h1),hk b h2 (by simpa using h2)]
 exact List.pairwise_iff_getElem.1 ha a b _ _ h3
theorem Mof_set (ha:ascN ns) {f:Int} {n i w:Nat} (hf:fnd ns f=some n):∀ g,Mof (setN ns n i w) g=updW (Mof ns) f i w g:=by
 intro g
 have hn:=fnd_lt hf
 have hi:ascN (setN ns n i w):=setN_asc ha hn
 have hfr:=fnd_frame hf
 have hmem:∀ x,x∈setN ns n i w↔x=(f,(ns.getD n (0,[])).2.set i w)∨(x∈ns∧x.1≠f):=fun x=>by
  constructor
  ·intro hx
   obtain ⟨j,hj,rfl⟩:=List.getElem_of_mem hx
   unfold setN at hj ⊢
   rw [List.getElem_set]
   split
   ·rw [hfr];exact .inl rfl
   ·rename_i e
    right
    have hj2:j<ns.length:=by simpa using hj
    refine ⟨List.getElem_mem hj2,fun e2=>e ?_⟩
    have h1:=fnd_at ha hj2
    rw [List.getD_eq_getElem?_getD,List.getElem?_eq_getElem hj2,Option.getD_some,e2,hf] at h1
    simpa using h1
  ·rintro (rfl|⟨h1,h2⟩)
   ·have:(setN ns n i w)[n]'(by simpa using hn)=(f,(ns.getD n (0,[])).2.set i w):=by
     unfold setN;rw [List.getElem_set,if_pos rfl,hfr]
    rw [← this];exact List.getElem_mem _
   ·obtain ⟨j,hj,rfl⟩:=List.getElem_of_mem h1
    have hjn:n≠j:=fun e=>h2 (by
     subst e
     rw [List.getD_eq_getElem?_getD,List.getElem?_eq_getElem hj,Option.getD_some] at hfr
     exact hfr)
    have:(setN ns n i w)[j]'(by simpa using hj)=ns[j]:=by
     unfold setN;rw [List.getElem_set,if_neg hjn]
    rw [← this];exact List.getElem_mem _
 unfold updW
 split
 ·rename_i e
  subst e
  have h1:Mof ns g=some (ns.getD n (0,[])).2:=Mof_some.2 ⟨n,hf,rfl⟩
  rw [h1]
  exact (mem_Mof hi).1 ((hmem _).2 (.inl rfl))
 ·rename_i e
  cases h:Mof ns g with
  | none =>
   refine (Mof_none hi).2 fun x hx=>?_
   rcases (hmem x).1 hx with rfl|⟨h1,h2⟩
   ·exact fun h=>e h.symm
   ·exact (Mof_none ha).1 h x h1
  | some us=>exact (mem_Mof hi).1 ((hmem _).2 (.inr ⟨(mem_Mof ha).2 h,e⟩))
end
end Go.AM
namespace Go.AM
section
variable {β:Type}
theorem insK_none {n:Int×β}:∀ {l:List (Int×β)},(∀ a∈l,¬ n.1<a.1)→insK l n=l++[n]
 | [],_=>rfl
 | a::r,h=>by
  simp only [insK]
  rw [if_neg (h a (by simp)),insK_none fun b hb=>h b (by simp [hb])]
  rfl
theorem insK_hit {n x:Int×β} {r:List (Int×β)}:∀ {l:List (Int×β)},(∀ a∈l,¬ n.1<a.1)→n.1<x.1→insK (l++x::r) n=l++n::x::r
 | [],_,h2=>by simp [insK,h2]
 | a::l,h,h2=>by
  simp only [List.cons_append,insK]
  rw [if_neg (h a (by simp)),insK_hit (fun b hb=>h b (by simp [hb])) h2]
def lastK (z:β) (k:Int) (l:List (Int×β)):β:=l.foldl (fun v d=>if d.1=k then d.2 else v) z
theorem lastK_at {z:β} {k:Int} {l:List (Int×β)} (h:ascK l) {v:β} (hv:(k,v)∈l):lastK z k l=v:=by
 have key:∀ (l:List (Int×β)) (z:β),(∀ d∈l,d.1=k→d.2=v)→((k,v)∈l∨z=v)→lastK z k l=v:=by
  intro l
  induction l with
  | nil=>intro z _ h;simpa [lastK] using h
  | cons d l ih =>
   intro z h1 h2
   show lastK (if d.1=k then d.2 else z) k l=v
   refine ih _ (fun e he=>h1 e (by simp [he])) ?_
   by_cases e:d.1=k
   ·rw [if_pos e];exact .inr (h1 d (by simp) e)
   ·rw [if_neg e]
    rcases h2 with h2|h2
    ·rcases List.mem_cons.1 h2 with h3|h3
     ·rw [← h3] at e;exact absurd rfl e
     ·exact .inl h3
    ·exact .inr h2
 exact key l z (fun d hd e=>by have:=ascK_uniq h hd hv e;rw [this]) (.inl hv)
end
end Go.AM
namespace Go.AM
open Go Go.Proofs
theorem nrows_take (l:List Nd) (n:Nat):(nrows l).take n=nrows (l.take n):=by simp [nrows,List.map_take]
theorem nrows_snoc (l:List Nd) (x:Nd):nrows (l++[x])=nrows l++[nrow x]:=by simp [nrows]
theorem take_succ_gn {l:List Nd} {n:Nat} (h:n<l.length):l.take (n+1)=l.take n++[gn l n]:=by
 rw [gn_eq h,List.take_add_one,List.getElem?_eq_getElem h];rfl
end Go.AM
namespace Go.AM
open Go Go.Proofs
noncomputable def FClN:List AV→Option AV:=specF (ι:={l:List Nd // nds8 l∧l.length≤1000000}) (fun x=>[.rd 9 (nrows x.1)]) fun x=>retOf [.ow 9 (nrows x.1)]
noncomputable def FClD:List AV→Option AV:=specF (ι:={l:List Dp // l.length≤1000000}) (fun x=>[.rd 2 (prows x.1)]) fun x=>retOf [.ow 2 (prows x.1)]
theorem FClN_at {l:List Nd} (h:nds8 l) (h2:l.length≤1000000):FClN [.rd 9 (nrows l)]=some (.ow 9 (nrows l)):=by
 refine specF_eq (ι:={l:List Nd // nds8 l∧l.length≤1000000}) (A:=fun x=>[.rd 9 (nrows x.1)]) (R:=fun x=>retOf [.ow 9 (nrows x.1)]) ⟨l,h,h2⟩ fun j e=>?_
 simp only [List.cons.injEq,AV.rd.injEq,true_and,nrows_inj,and_true] at e
 rw [e]
theorem FClD_at {l:List Dp} (h2:l.length≤1000000):FClD [.rd 2 (prows l)]=some (.ow 2 (prows l)):=by
 refine specF_eq (ι:={l:List Dp // l.length≤1000000}) (A:=fun x=>[.rd 2 (prows x.1)]) (R:=fun x=>retOf [.ow 2 (prows x.1)]) ⟨l,h2⟩ fun j e=>?_
 simp only [List.cons.injEq,AV.rd.injEq,true_and,prows_inj,and_true] at e
 rw [e]
theorem s104 (X:AX) (hX:XOK Tryz.prog X) (hw:X.W wT):PSound Tryz.prog 104 (specF (ι:={x:Tb // tbOK x}) (fun x=>[TbV x.1]) fun x=>retOf [.agg [I x.1.1,.ow 9 (nrows x.1.2.1),.ow 2 (prows x.1.2.2)]]):=by
 refine psound_spec hX mixed Tryz.func104 rfl fun ⟨⟨r,ns,ds⟩,ht⟩ w0 G=>⟨by show 1≤20;decide,rfl,?_⟩
 show AW ⟨Tryz.prog,X,20,w0,.pure G⟩ _ _ _
 have hc:Cx.OK ⟨Tryz.prog,X,20,w0,.pure G⟩:=⟨hX,mixed⟩
 have hl1:ns.length≤1000000:=ht.2.1
 have hl2:ds.length≤1000000:=ht.2.2
 simp only [TbV]
 have tkn:List.take ns.length (nrows ns)=nrows ns:=List.take_of_length_le (by simp)
 have tkd:List.take ds.length (prows ds)=prows ds:=List.take_of_length_le (by simp)
 refine dM64o ?_
 repeat (intro K hK)
 refine ⟨by simp,?_⟩
 simp [leaves_iff,Tryz.f104,tkn,tkd]
 try exact dt
theorem s128 (X:AX) (hX:XOK Tryz.prog X) (hw:X.W wT) (h1:X.call 184=callC FClN) (h2:X.call 185=callC FClD):PSound Tryz.prog 128 (specF (ι:={x:Tb // tbOK x}) (fun x=>[TbV x.1]) fun x=>retOf [.agg [I x.1.1,.ow 9 (nrows x.1.2.1),.ow 2 (prows x.1.2.2)]]):=by
 refine psound_spec hX mixed Tryz.func128 rfl fun ⟨⟨r,ns,ds⟩,ht⟩ w0 G=>⟨by show 1≤12;decide,rfl,?_⟩
 show AW ⟨Tryz.prog,X,12,w0,.pure G⟩ _ _ _
 have hc:Cx.OK ⟨Tryz.prog,X,12,w0,.pure G⟩:=⟨hX,mixed⟩
 have hl1:ns.length≤1000000:=ht.2.1
 have hl2:ds.length≤1000000:=ht.2.2
 simp only [TbV]
 have e1:=FClN_at (nds8_of ht) hl1
 have e2:=FClD_at hl2
 simp only at e1 e2
 have tkn:List.take ns.length (nrows ns)=nrows ns:=List.take_of_length_le (by simp)
 have tkd:List.take ds.length (prows ds)=prows ds:=List.take_of_length_le (by simp)
 have zS:=jj h1<|jj h2<|jj e1<|e2
 refine dM64 ?_
 repeat (intro K hK)
 clear zS
 refine ⟨by simp,?_⟩
 simp [leaves_iff,Tryz.f128,tkn,tkd]
 try exact dt
theorem s184 (X:AX) (hX:XOK Tryz.prog X) (hw:X.W wT):PSound Tryz.prog 184 FClN:=by
 unfold FClN
 refine psound_spec hX mixed Tryz.func184 rfl fun ⟨ns,h8,hl⟩ w0 G=>⟨by show 1≤8;decide,rfl,?_⟩
 show AW ⟨Tryz.prog,X,8,w0,.pure G⟩ _ _ _
 have hc:Cx.OK ⟨Tryz.prog,X,8,w0,.pure G⟩:=⟨hX,mixed⟩
 simp only at h8 hl ⊢
 have tkn:List.take ns.length (nrows ns)=nrows ns:=List.take_of_length_le (by simp)
 cases ns with
 | nil =>
  refine aw_cases_nil 0 9 (by simp [nrows,enterS]) ?_ fun p n=>?_
  ·refine dM64o ?_
   repeat (intro K hK)
   refine ⟨by simp,?_⟩
   simp [leaves_iff,Tryz.f184,nrows]
   try exact dt
  ·refine dM64o ?_
   repeat (intro K hK)
   refine ⟨by simp,?_⟩
   simp [leaves_iff,Tryz.f184,nrows]
   try exact dt
 | cons x ns =>
  have hl':ns.length+1≤1000000:=by simpa using hl
  obtain ⟨e,he⟩:∃ e,e=nrow x:=⟨_,rfl⟩
  obtain ⟨T,hT⟩:∃ T,T=nrows ns:=⟨_,rfl⟩
  have hc2:nrows (x::ns)=e::T:=by rw [he,hT];rfl
  have hTl:T.length=ns.length:=by rw [hT];simp
  have tk:List.take T.length T=T:=List.take_of_length_le (Nat.le_refl _)
  rw [hc2]
  clear he hT tkn
  have zS:=tk
  refine dM64 ?_
  repeat (intro K hK)
  clear zS
  refine ⟨by simp,?_⟩
  simp [leaves_iff,Tryz.f184,tk]
  try exact dt
theorem s185 (X:AX) (hX:XOK Tryz.prog X) (hw:X.W wT):PSound Tryz.prog 185 FClD:=by
 unfold FClD
 refine psound_spec hX mixed Tryz.func185 rfl fun ⟨ds,hl⟩ w0 G=>⟨by show 1≤8;decide,rfl,?_⟩
 show AW ⟨Tryz.prog,X,8,w0,.pure G⟩ _ _ _
 have hc:Cx.OK ⟨Tryz.prog,X,8,w0,.pure G⟩:=⟨hX,mixed⟩
 simp only at hl ⊢
 cases ds with
 | nil =>
  refine aw_cases_nil 0 2 (by simp [prows,enterS]) ?_ fun p n=>?_
  ·refine dM64o ?_
   repeat (intro K hK)
   refine ⟨by simp,?_⟩
   simp [leaves_iff,Tryz.f185,prows]
   try exact dt
  ·refine dM64o ?_
   repeat (intro K hK)
   refine ⟨by simp,?_⟩
   simp [leaves_iff,Tryz.f185,prows]
   try exact dt
 | cons x ds =>
  have hl':ds.length+1≤1000000:=by simpa using hl
  obtain ⟨e,he⟩:∃ e,e=[I x.1,I x.2]:=⟨_,rfl⟩
  obtain ⟨T,hT⟩:∃ T,T=prows ds:=⟨_,rfl⟩
  have hc2:prows (x::ds)=e::T:=by rw [he,hT];rfl
  have hTl:T.length=ds.length:=by rw [hT];simp
  have tk:List.take T.length T=T:=List.take_of_length_le (Nat.le_refl _)
  rw [hc2]
  clear he hT
  have zS:=tk
  refine dM64 ?_
  repeat (intro K hK)
  clear zS
  refine ⟨by simp,?_⟩
  simp [leaves_iff,Tryz.f185,tk]
  try exact dt
noncomputable def newT (r:Int):Tb×Int:=if 0≤r∧r≤4294967295 then ((r,[(r,zs8)],[]),0) else ((0,[],[]),2)
def TbO (t:Tb):AV:=.agg [I t.1,.ow 9 (nrows t.2.1),.ow 2 (prows t.2.2)]
theorem s49 (X:AX) (hX:XOK Tryz.prog X) (hw:X.W wT) (hfr:∀ x M n,X.call 126 [I x] M n=some (B (decide (0≤x∧x≤4294967295)),[])):PSound Tryz.prog 49 (specF (ι:=Int) (fun x=>[I x]) fun x=>retOf [TbO (newT x).1,I (newT x).2]):=by
 refine psound_spec hX mixed Tryz.func49 rfl fun r w0 G=>⟨by show 1≤13;decide,rfl,?_⟩
 show AW ⟨Tryz.prog,X,13,w0,.pure G⟩ _ _ _
 have hc:Cx.OK ⟨Tryz.prog,X,13,w0,.pure G⟩:=⟨hX,mixed⟩
 have hfr':=hfr r
 unfold newT TbO
 rcases Decidable.em (0≤r∧r≤4294967295) with h1|h1
 ·rw [decide_eq_true h1] at hfr'
  rw [if_pos h1]
  have zS:=hfr'
  refine dM64 ?_
  repeat (intro K hK)
  clear zS
  refine ⟨by simp,?_⟩
  simp [leaves_iff,Tryz.f49,nrows,nrow,wcs,prows,zs8,U]
  try exact dt
 ·rw [decide_eq_false h1] at hfr'
  rw [if_neg h1]
  have zS:=hfr'
  refine dM64 ?_
  repeat (intro K hK)
  clear zS
  refine ⟨by simp,?_⟩
  simp [leaves_iff,Tryz.f49,nrows,nrow,wcs,prows,zs8,U]
  try exact dt
theorem s50 (X:AX) (hX:XOK Tryz.prog X) (hw:X.W wT):PSound Tryz.prog 50 (specF (ι:=Int) (fun x=>[I x]) fun x=>retOf [TbO (newT x).1,I (newT x).2]):=by
 refine psound_spec hX mixed Tryz.func50 rfl fun r w0 G=>⟨by show 1≤16;decide,rfl,?_⟩
 show AW ⟨Tryz.prog,X,16,w0,.pure G⟩ _ _ _
 have hc:Cx.OK ⟨Tryz.prog,X,16,w0,.pure G⟩:=⟨hX,mixed⟩
 unfold newT TbO
 rcases Decidable.em (r<0) with h1|h1
 ·rw [if_neg (by omega)]
  have zS:=h1
  refine dM64 ?_
  repeat (intro K hK)
  clear zS
  refine ⟨by simp,?_⟩
  simp [leaves_iff,Tryz.f50,nrows,nrow,wcs,prows,zs8,U]
  try exact dt
 ·rcases Decidable.em (4294967295<r) with h2|h2
  ·rw [if_neg (by omega)]
   have zS:=jj h1<|h2
   refine dM64 ?_
   repeat (intro K hK)
   clear zS
   refine ⟨by simp,?_⟩
   simp [leaves_iff,Tryz.f50,nrows,nrow,wcs,prows,zs8,U]
   try exact dt
  ·rw [if_pos (by omega)]
   have zS:=jj h1<|h2
   refine dM64 ?_
   repeat (intro K hK)
   clear zS
   refine ⟨by simp,?_⟩
   simp [leaves_iff,Tryz.f50,nrows,nrow,wcs,prows,zs8,U]
   try exact dt
end Go.AM
