/- A part of the proof: what functions of the program compute, by abstract execution of their code. Its theorems hold without further condition. -/
import Derived.Test.YtcfhmdljeeppfaaUTPt27
import Derived.Test.YtcfhmdljeeppfaaUTPt14
import Derived.Shelf.SlSortFuncK.WholeK
import Derived.Test.YtcfhmdljeeppfaaUAmDs
import Derived.Test.YtcfhmdljeeppfaaUTPt6
import Derived.Deep.RegionHeld3
import Derived.LoopN
import Derived.WalkKit
import Derived.Test.YtcfhmdljeeppfaaUAmW
set_option linter.all false
set_option maxHeartbeats 4000000
namespace Go.AM
open Go Go.Proofs
@[simp] theorem tyStps:Types Try.prog 153=some ⟨.slice 124,1,24,[.slice none 0 0]⟩:=by kernel_rfl
def dgt (p l:Nat):Nat:=p/8^l%8
theorem dgt_lt (p l:Nat):dgt p l<8:=by unfold dgt;omega
theorem s138 (X:AX) (hX:XOK Try.prog X) (hw:X.W wT):PSound Try.prog 138 (specF (ι:={x:Nat×Nat // x.1<512∧x.2≤2}) (fun x=>[I x.1.1,I x.1.2]) fun x=>retOf [I (dgt x.1.1 x.1.2)]):=by
 refine psound_spec hX mixed Try.func138 rfl fun ⟨⟨n,l⟩,hn,hl⟩ w0 G=>⟨by show 2≤13;decide,rfl,?_⟩
 show AW ⟨Try.prog,X,13,w0,.pure G⟩ _ _ _
 have hc:Cx.OK ⟨Try.prog,X,13,w0,.pure G⟩:=⟨hX,mixed⟩
 simp only at hn hl ⊢
 have m1:(n:Int).tmod 8=((n%8:Nat):Int):=by rw [Int.tmod_eq_emod_of_nonneg (by omega)];omega
 have m2:((n:Int)/8).tmod 8=((n/8%8:Nat):Int):=by rw [Int.tmod_eq_emod_of_nonneg (by omega)];omega
 have m3:((n:Int)/8/8).tmod 8=((n/64%8:Nat):Int):=by rw [Int.tmod_eq_emod_of_nonneg (by omega)];omega
 have w8:IntKind.i64.wrap ((n:Int)/8)=(n:Int)/8:=wrap64 (by omega)
 have w64:IntKind.i64.wrap ((n:Int)/8/8)=(n:Int)/8/8:=wrap64 (by omega)
 have t8:((n:Int)/8).tdiv 8=(n:Int)/8/8:=Int.tdiv_eq_ediv_of_nonneg (by omega)
 rcases (by omega:l=0∨l=1∨l=2) with rfl|rfl|rfl
 ·have e:dgt n 0=n%8:=by unfold dgt;simp
  have zS:=jj m1<|jj m2<|jj m3<|jj w8<|jj w64<|t8
  repeat' (first|(apply aw_seq_k;intro K hK)|(refine eM64 ?_)|(refine aw_cond (b:=_) (by exact rfl) (fun h=>?_) (fun h=>?_)<;>(try simp at h))|(refine eB ?_)|(refine hK _ ?_;clear hK)|(clear hK;refine hK _ ?_;clear hK)|(clear hK;clear hK;refine hK _ ?_;clear hK)|(clear hK;clear hK;clear hK;refine hK _ ?_;clear hK))
  all_goals clear zS
  refine aw_rounds 1 (aw_round ?_)
  have zS:=jj m1<|jj m2<|jj m3<|jj w8<|jj w64<|t8
  repeat' (first|(apply aw_seq_k;intro K hK)|(refine eM64 ?_)|(refine aw_cond (b:=_) (by exact rfl) (fun h=>?_) (fun h=>?_)<;>(try simp at h))|(refine eB ?_)|(refine hK _ ?_;clear hK)|(clear hK;refine hK _ ?_;clear hK)|(clear hK;clear hK;refine hK _ ?_;clear hK)|(clear hK;clear hK;clear hK;refine hK _ ?_;clear hK))
  all_goals clear zS
  refine ⟨by simp,?_⟩
  simp [leaves_iff,Try.f138,e]
  try exact dt
 ·have e:dgt n 1=n/8%8:=by unfold dgt;simp
  have zS:=jj m1<|jj m2<|jj m3<|jj w8<|jj w64<|t8
  repeat' (first|(apply aw_seq_k;intro K hK)|(refine eM64 ?_)|(refine aw_cond (b:=_) (by exact rfl) (fun h=>?_) (fun h=>?_)<;>(try simp at h))|(refine eB ?_)|(refine hK _ ?_;clear hK)|(clear hK;refine hK _ ?_;clear hK)|(clear hK;clear hK;refine hK _ ?_;clear hK)|(clear hK;clear hK;clear hK;refine hK _ ?_;clear hK))
  all_goals clear zS
  refine aw_rounds 2 (aw_round ?_)
  have zS:=jj m1<|jj m2<|jj m3<|jj w8<|jj w64<|t8
  repeat' (first|(apply aw_seq_k;intro K hK)|(refine eM64 ?_)|(refine aw_cond (b:=_) (by exact rfl) (fun h=>?_) (fun h=>?_)<;>(try simp at h))|(refine eB ?_)|(refine hK _ ?_;clear hK)|(clear hK;refine hK _ ?_;clear hK)|(clear hK;clear hK;refine hK _ ?_;clear hK)|(clear hK;clear hK;clear hK;refine hK _ ?_;clear hK))
  all_goals clear zS
  refine ⟨by simp,?_⟩
  simp [leaves_iff,Try.f138,e]
  try exact dt
 ·have e:dgt n 2=n/64%8:=by unfold dgt;simp
  have zS:=jj m1<|jj m2<|jj m3<|jj w8<|jj w64<|t8
  repeat' (first|(apply aw_seq_k;intro K hK)|(refine eM64 ?_)|(refine aw_cond (b:=_) (by exact rfl) (fun h=>?_) (fun h=>?_)<;>(try simp at h))|(refine eB ?_)|(refine hK _ ?_;clear hK)|(clear hK;refine hK _ ?_;clear hK)|(clear hK;clear hK;refine hK _ ?_;clear hK)|(clear hK;clear hK;clear hK;refine hK _ ?_;clear hK))
  all_goals clear zS
  refine aw_rounds 3 (aw_round ?_)
  have zS:=jj m1<|jj m2<|jj m3<|jj w8<|jj w64<|t8
  repeat' (first|(apply aw_seq_k;intro K hK)|(refine eM64 ?_)|(refine aw_cond (b:=_) (by exact rfl) (fun h=>?_) (fun h=>?_)<;>(try simp at h))|(refine eB ?_)|(refine hK _ ?_;clear hK)|(clear hK;refine hK _ ?_;clear hK)|(clear hK;clear hK;refine hK _ ?_;clear hK)|(clear hK;clear hK;clear hK;refine hK _ ?_;clear hK))
  all_goals clear zS
  refine ⟨by simp,?_⟩
  simp [leaves_iff,Try.f138,e]
  try exact dt
abbrev Stp:=Nat×Nat×Nat
section
variable (ns:NdL) (p:Nat)
def pth:Nat→Nat→List Stp
 | 0,n=>[(n,0,wd ns n (dgt p 0))]
 | l+1,n=>(n,l+1,wd ns n (dgt p (l+1)))::(match kid WA ns (wd ns n (dgt p (l+1))) with
  | some nx=>pth l nx
  | none=>[])
def lst:Nat→Nat→Stp
 | 0,n=>(n,0,wd ns n (dgt p 0))
 | l+1,n=>match kid WA ns (wd ns n (dgt p (l+1))) with
  | some nx=>lst l nx
  | none=>(n,l+1,wd ns n (dgt p (l+1)))
def pok:Nat→Nat→Prop
 | 0,n=>tabW (wd ns n (dgt p 0))=none
 | l+1,n=>∀ g,tabW (wd ns n (dgt p (l+1)))=some g→∃ nx,fnd ns g=some nx∧pok l nx
end
theorem pth_lst {ns:NdL} {p:Nat}:∀ {l n:Nat},∃ i,pth ns p l n=i++[lst ns p l n]
 | 0,n=>⟨[],rfl⟩
 | l+1,n=>by
  simp only [pth,lst]
  cases kid WA ns (wd ns n (dgt p (l+1))) with
  | none=>exact ⟨[],rfl⟩
  | some nx =>
   obtain ⟨i,hi⟩:=pth_lst (ns:=ns) (p:=p) (l:=l) (n:=nx)
   simp only
   rw [hi]
   exact ⟨(n,l+1,wd ns n (dgt p (l+1)))::i,rfl⟩
theorem pth_len {ns:NdL} {p:Nat}:∀ {l n:Nat},(pth ns p l n).length≤l+1
 | 0,n=>by simp [pth]
 | l+1,n=>by
  simp only [pth]
  cases kid WA ns (wd ns n (dgt p (l+1))) with
  | none=>simp
  | some nx =>
   have:=pth_len (ns:=ns) (p:=p) (l:=l) (n:=nx)
   simp;omega
theorem lst_lt {ns:NdL} {p:Nat}:∀ {l n:Nat},n<ns.length→(lst ns p l n).1<ns.length∧(lst ns p l n).2.1≤l
 | 0,n,h=>⟨h,Nat.le_refl _⟩
 | l+1,n,h=>by
  simp only [lst]
  cases hk:kid WA ns (wd ns n (dgt p (l+1))) with
  | none=>exact ⟨h,Nat.le_refl _⟩
  | some nx =>
   have:=lst_lt (ns:=ns) (p:=p) (l:=l) (kid_lt hk)
   exact ⟨this.1,by simp only;omega⟩
theorem lst_word {ns:NdL} {p:Nat}:∀ {l n:Nat},(lst ns p l n).2.2=wd ns (lst ns p l n).1 (dgt p (lst ns p l n).2.1)
 | 0,n=>rfl
 | l+1,n=>by
  simp only [lst]
  cases hk:kid WA ns (wd ns n (dgt p (l+1))) with
  | none=>rfl
  | some nx=>exact lst_word
def srow (s:Stp):List AV:=[I s.1,I s.2.1,U s.2.2]
def srows (l:List Stp):List (List AV):=l.map srow
@[simp] theorem srows_length (l:List Stp):(srows l).length=l.length:=by simp [srows]
def stV (s:Stp):AV:=.agg (srow s)
def rtN (t:Tb):Nat:=(fnd t.2.1 t.1).getD 0
def ptO (t:Tb) (p:Nat):Prop:=tbOK t∧ascN t.2.1∧p<512∧(∃ r,fnd t.2.1 t.1=some r)∧pok t.2.1 p 2 (rtN t)
def ptL (t:Tb) (p:Nat):List Stp:=pth t.2.1 p 2 (rtN t)
def lsT (t:Tb) (p:Nat):Stp:=lst t.2.1 p 2 (rtN t)
theorem decR_tab {w:Nat}:tabW w=none↔(decR w).1.1≠4:=by
 unfold tabW
 split<;>simp [*]
theorem s121 (X:AX) (hX:XOK Try.prog X) (hw:X.W wT) (hix:∀ t:Tb,tbOK t→∀ M n,X.call 68 [TbV t] M n=some (.mp n 1,[(n,.map 1 1 (idxE t.2.1 t.2.1.length))]))
  (hdg:∀ (p l:Nat),p<512→l≤2→∀ M n,X.call 138 [I p,I l] M n=some (I (dgt p l),[])) (hen:∀ w:Nat,w<2^64→∀ M n,X.call 143 [U w] M n=some (EnV (decR w).1,[])) :
  PSound Try.prog 121 (specF (ι:={x:Tb×Nat // ptO x.1 x.2}) (fun x=>[TbV x.1.1,I x.1.2]) fun x=>retOf [.ow 3 (srows (ptL x.1.1 x.1.2))]):=by
 refine psound_spec hX mixed Try.func121 rfl fun ⟨⟨⟨r,ns,ds⟩,p⟩,ht,ha,hp,⟨rt,hrt⟩,hpo⟩ w0 G=>⟨by show 2≤46;decide,rfl,?_⟩
 show AW ⟨Try.prog,X,46,w0,.pure G⟩ _ _ _
 have hc:Cx.OK ⟨Try.prog,X,46,w0,.pure G⟩:=⟨hX,mixed⟩
 simp only at ha hp hrt hpo
 have hix':=hix (r,ns,ds) ht
 have hget:=idxE_get ha r
 rw [hrt] at hget
 try simp only [Option.map_some] at hget
 have hrl:=fnd_lt hrt
 have hl1:ns.length≤1000000:=ht.2.1
 have hrn:rtN (r,ns,ds)=rt:=by unfold rtN;simp only;rw [hrt];rfl
 rw [hrn] at hpo
 obtain ⟨F,hF⟩:∃ F,F=ptL (r,ns,ds) p:=⟨_,rfl⟩
 simp only [TbV,← hF] at hix' ⊢
 unfold ptL at hF
 rw [hrn] at hF
 simp only at hF
 have zS:=jj hix'<|hget
 repeat' (first|(apply aw_seq_k;intro K hK)|(refine eM64 ?_)|(refine aw_cond (b:=_) (by exact rfl) (fun h=>?_) (fun h=>?_)<;>(try simp at h))|(refine eB ?_)|(refine hK _ ?_;clear hK)|(clear hK;refine hK _ ?_;clear hK)|(clear hK;clear hK;refine hK _ ?_;clear hK)|(clear hK;clear hK;clear hK;refine hK _ ?_;clear hK))
 all_goals clear zS
 refine aw_weaken (le_nilslot (t:=7) (sz:=3) (by simp)) ?_
 refine aw_loopK (s0:=?lps1) (m0:=?lpm1) (ι:={s:Nat×Nat×List Stp // s.1≤2∧s.2.1<ns.length∧pok ns p s.1 s.2.1∧s.2.2++pth ns p s.1 s.2.1=F}) [1,2,5] (fun s=>[(8,I s.1.1),(6,I s.1.2.1),(7,.sl 192 1 3 0 s.1.2.2.length)]) (fun s=>[(192,.vec 1 3 false (srows s.1.2.2))]) (fun s=>s.1.1) ⟨(2,rt,[]),by simp,hrl,hpo,hF.symm⟩ ?lhs1 ?lhm1 ?_ ?_
 case lhs1=>first|(simp [keepS];done)|(simp [keepS];rfl)
 case lhm1=>first|rfl|(simp;done)|(simp;rfl)
 ·exact le_of2 (by simp) (by simp [AVle,AV.under,AV.underL,srows]<;>omega) (by simp [AOle,AO.under,AV.underL,AV.under,srows]<;>omega)
 ·rintro ⟨⟨l,n,acc⟩,hl,hn,hpk,hacc⟩
  simp only at hl hn hpk hacc ⊢
  have hnN:(n:Int)<(ns.length:Int):=by omega
  have hdl:=dgt_lt p l
  have hdI:(dgt p l:Int)<8:=by omega
  have hgn:=nrows_gi hn
  have hgnE:=nrows_gE hn
  have h8:(gn ns n).2.length=8:=(ht.1 _ (gn_mem hn)).1
  have hw8:=wcs_gi (l:=(gn ns n).2) (i:=dgt p l) (by omega)
  have hwE:=wcs_gE (l:=(gn ns n).2) (i:=dgt p l) (by omega)
  have hw64:=wd_lt ht (n:=n) (i:=dgt p l) hn
  have hdg':=hdg p l hp hl
  have hlen:(acc++pth ns p l n).length≤3+acc.length:=by rw [List.length_append];have:=pth_len (ns:=ns) (p:=p) (l:=l) (n:=n);omega
  obtain ⟨w,hwd⟩:∃ w,w=wd ns n (dgt p l):=⟨_,rfl⟩
  have hwg:(gn ns n).2.getD (dgt p l) 0=w:=hwd.symm
  rw [hwg] at hw8 hwE
  simp only at hw64
  rw [← hwd] at hw64
  have hwl:(wcs (gn ns n).2).length=8:=by simp [h8]
  obtain ⟨⟨fr,ws⟩,hm⟩:∃ m,m=gn ns n:=⟨_,rfl⟩
  rw [← hm] at hgn hgnE hw8 hwE hwl
  simp only at hgn hgnE hw8 hwE hwl
  obtain ⟨cs,hcs⟩:∃ cs,cs=wcs ws:=⟨_,rfl⟩
  rw [← hcs] at hgn hgnE hw8 hwE hwl
  clear hcs hm h8 hwg
  have hen':=hen w hw64
  have hst:∀ (x:List Stp),srows acc++[[I n,I l,U w]]=srows (acc++[(n,l,w)]):=fun _=>by simp [srows,srow]
  have hst:=hst []
  have htk:List.take acc.length (srows acc)=srows acc:=List.take_of_length_le (by simp)
  have hal:acc.length≤1000:=by
   have h1:F.length≤3:=by rw [hF];exact pth_len
   rw [← hacc,List.length_append] at h1;omega
  have hdR:tabW w=if (decR w).1.1=4 then some (decR w).1.2.1 else none:=rfl
  obtain ⟨⟨⟨k,f,d,a,x,h⟩,e⟩,hE⟩:∃ r,r=decR w:=⟨_,rfl⟩
  rw [← hE] at hen' hdR
  clear hE
  simp only [EnV,U] at hen' hw8 hwE hst hdR
  obtain ⟨dg,hdg0⟩:∃ dg,dg=dgt p l:=⟨_,rfl⟩
  rw [← hdg0] at hdl hdI hw8 hwE hdg' hwd
  rcases Decidable.em (k=4) with hk|hk
  ·subst hk
   simp only [if_true] at hdR
   cases l with
   | zero =>
    simp only [pok] at hpk
    rw [← hdg0,← hwd,hdR] at hpk
    simp at hpk
   | succ l =>
    simp only [pok,pth] at hpk hacc
    rw [← hdg0,← hwd] at hpk hacc
    obtain ⟨nx,hfn,hpk2⟩:=hpk f hdR
    have hkid:kid WA ns w=some nx:=kid_some.2 ⟨f,hdR,hfn⟩
    rw [hkid] at hacc
    simp only at hacc
    have hg2:=idxE_get ha f
    rw [hfn] at hg2
    try simp only [Option.map_some] at hg2
    have hnx:=fnd_lt hfn
    have hlI:((l+1:Nat):Int)=(l:Int)+1:=by omega
    rw [hlI] at hdg' hst ⊢
    have hl1I:((l:Int)+1 - 1)=(l:Int):=by omega
    have zS:=jj hdg'<|jj hn<|jj hnN<|jj hgn<|jj hgnE<|jj hw8<|jj hwE<|jj hwl<|jj hdl<|jj hdI<|jj hen'<|jj hg2<|jj htk<|jj hst<|jj hal<|hl1I
    repeat' (first|(apply aw_seq_k;intro K hK)|(refine eM64 ?_)|(refine aw_cond (b:=_) (by exact rfl) (fun h=>?_) (fun h=>?_)<;>(try simp at h))|(refine eB ?_)|(refine hK _ ?_;clear hK)|(clear hK;refine hK _ ?_;clear hK)|(clear hK;clear hK;refine hK _ ?_;clear hK)|(clear hK;clear hK;clear hK;refine hK _ ?_;clear hK))
    all_goals clear zS
    refine ⟨l,nx,acc++[(n,l+1,w)],?_,⟨by omega,hnx,hpk2,by simpa using hacc⟩,by omega⟩
    simp only [List.length_append,List.length_singleton]
    refine le_turn (s1:=?tus2) (m1:=?tum2) [] [1,2,5,6,7,8] [0,48,192] ?tua2 ?tub2 ?tuc2 ?tud2 ?tue2 ?tuf2 ?tug2
    case tua2=>first|(simp [keepS];done)|(simp [keepS];rfl)
    case tub2=>first|(simp;done)|(simp;rfl)
    case tuc2=>simp
    case tud2=>simp
    case tue2=>simp
    case tuf2=>simp
    case tug2 =>
     simp [swp,vr]
     exact dle
  ·have hkid:kid WA ns w=none:=by unfold kid;show (tabW w).bind _=none;rw [hdR,if_neg hk];rfl
   have hfin:F=acc++[(n,l,w)]:=by
    cases l with
    | zero=>simp only [pth] at hacc;rw [← hdg0,← hwd] at hacc;exact hacc.symm
    | succ l=>simp only [pth] at hacc;rw [← hdg0,← hwd,hkid] at hacc;exact hacc.symm
   rw [hfin]
   have zS:=jj hdg'<|jj hn<|jj hnN<|jj hgn<|jj hgnE<|jj hw8<|jj hwE<|jj hwl<|jj hdl<|jj hdI<|jj hen'<|jj hk<|jj htk<|jj hst<|hal
   repeat' (first|(apply aw_seq_k;intro K hK)|(refine eM64 ?_)|(refine aw_cond (b:=_) (by exact rfl) (fun h=>?_) (fun h=>?_)<;>(try simp at h))|(refine eB ?_)|(refine hK _ ?_;clear hK)|(clear hK;refine hK _ ?_;clear hK)|(clear hK;clear hK;refine hK _ ?_;clear hK)|(clear hK;clear hK;clear hK;refine hK _ ?_;clear hK))
   all_goals clear zS
   have htk2:List.take (acc.length+1) (srows (acc++[(n,l,w)]))=srows (acc++[(n,l,w)]):=List.take_of_length_le (by simp)
   refine ⟨by simp,?_⟩
   simp [leaves_iff,Try.f121,htk2]
   try exact dt
end Go.AM
set_option maxHeartbeats 4000000
namespace Go.AM
open Go Go.Proofs
theorem srows_last {ns:NdL} {p l n:Nat}:(srows (pth ns p l n))[(pth ns p l n).length - 1]?=some (srow (lst ns p l n)):=by
 obtain ⟨i,hi⟩:=pth_lst (ns:=ns) (p:=p) (l:=l) (n:=n)
 rw [hi]
 simp [srows]
theorem pth_pos {ns:NdL} {p l n:Nat}:1≤(pth ns p l n).length:=by
 obtain ⟨i,hi⟩:=pth_lst (ns:=ns) (p:=p) (l:=l) (n:=n)
 rw [hi];simp
theorem s72 (X:AX) (hX:XOK Try.prog X) (hw:X.W wT) (hpa:∀ (t:Tb) (p:Nat),ptO t p→∀ M n,X.call 121 [TbV t,I p] M n=some (.sl n 1 3 0 (ptL t p).length,[(n,.vec 1 3 false (srows (ptL t p)))])) :
  PSound Try.prog 72 (specF (ι:={x:Tb×Nat // ptO x.1 x.2}) (fun x=>[TbV x.1.1,I x.1.2]) fun x=>retOf [stV (lsT x.1.1 x.1.2)]):=by
 refine psound_spec hX mixed Try.func72 rfl fun ⟨⟨⟨r,ns,ds⟩,p⟩,ht⟩ w0 G=>⟨by show 2≤15;decide,rfl,?_⟩
 show AW ⟨Try.prog,X,15,w0,.pure G⟩ _ _ _
 have hc:Cx.OK ⟨Try.prog,X,15,w0,.pure G⟩:=⟨hX,mixed⟩
 have hpa':=hpa _ _ ht
 have hla:=srows_last (ns:=ns) (p:=p) (l:=2) (n:=rtN (r,ns,ds))
 have hpo:=pth_pos (ns:=ns) (p:=p) (l:=2) (n:=rtN (r,ns,ds))
 have hle:=pth_len (ns:=ns) (p:=p) (l:=2) (n:=rtN (r,ns,ds))
 have e1:ptL (r,ns,ds) p=pth ns p 2 (rtN (r,ns,ds)):=rfl
 have e2:lsT (r,ns,ds) p=lst ns p 2 (rtN (r,ns,ds)):=rfl
 simp only [e1,e2,TbV,stV] at hpa' ⊢
 obtain ⟨L,hL⟩:∃ L,L=pth ns p 2 (rtN (r,ns,ds)):=⟨_,rfl⟩
 obtain ⟨⟨a,b,c⟩,hS⟩:∃ S,S=lst ns p 2 (rtN (r,ns,ds)):=⟨_,rfl⟩
 rw [← hL] at hpa' hla hpo hle
 rw [← hS] at hla ⊢
 obtain ⟨k,hk⟩:∃ k,L.length=k+1:=⟨L.length - 1,by omega⟩
 rw [hk] at hpa' hla
 rw [Nat.add_sub_cancel] at hla
 have hkI:((k+1:Nat):Int) - 1=k:=by omega
 have hkJ:((k:Int)+1) - 1=k:=by omega
 have hlE:∀ h',(srows L)[k]'(h')=srow (a,b,c):=fun h'=>by
  rw [List.getElem?_eq_getElem h'] at hla
  exact Option.some.inj hla
 simp only [srow,U] at hla hlE ⊢
 have hk3:k≤2:=by omega
 have zS:=jj hpa'<|jj hkI<|jj hkJ<|jj hla<|jj hlE<|jj hk<|hk3
 refine dM64 ?_
 repeat (intro K hK)
 clear zS
 refine ⟨by simp,?_⟩
 simp [leaves_iff,Try.f72]
 try exact dt
theorem dig_dgt {p l:Nat} (hp:p<512) (hl:l≤2):dig p l=(dgt p l:Nat):=by
 unfold dig dgt
 rcases (by omega:l=0∨l=1∨l=2) with rfl|rfl|rfl
 ·simp
 ·simp
 ·simp
  omega
theorem s107 (X:AX) (hX:XOK Try.prog X) (hw:X.W wT) (hfi:∀ (t:Tb) f,tbOK t→∀ M n,X.call 83 [TbV t,I f] M n=some (I (fstG (fun n=>decide (n.1=f)) t.2.1),[]))
  (hdg:∀ (p l:Nat),p<512→l≤2→∀ M n,X.call 108 [I p,I l] M n=some (I (dig p l),[])) (hen:∀ w:Nat,w<2^64→∀ M n,X.call 46 [U w] M n=some (EnV (decR w).1,[])) :
  PSound Try.prog 107 (specF (ι:={x:Tb×Nat // ptO x.1 x.2}) (fun x=>[TbV x.1.1,I x.1.2]) fun x=>retOf [I (lsT x.1.1 x.1.2).1,I (lsT x.1.1 x.1.2).2.1]):=by
 refine psound_spec hX mixed Try.func107 rfl fun ⟨⟨⟨r,ns,ds⟩,p⟩,ht,ha,hp,⟨rt,hrt⟩,hpo⟩ w0 G=>⟨by show 2≤38;decide,rfl,?_⟩
 show AW ⟨Try.prog,X,38,w0,.pure G⟩ _ _ _
 have hc:Cx.OK ⟨Try.prog,X,38,w0,.pure G⟩:=⟨hX,mixed⟩
 simp only at ha hp hrt hpo
 have hfi':=fun f=>hfi (r,ns,ds) f ht
 have hrl:=fnd_lt hrt
 have hl1:ns.length≤1000000:=ht.2.1
 have hrn:rtN (r,ns,ds)=rt:=by unfold rtN;simp only;rw [hrt];rfl
 rw [hrn] at hpo
 have hfr:=hfi' r
 rw [fstG_fnd] at hfr
 simp only at hfr
 rw [hrt] at hfr
 try simp only at hfr
 obtain ⟨F,hF⟩:∃ F,F=lsT (r,ns,ds) p:=⟨_,rfl⟩
 simp only [TbV,← hF] at hfi' hfr ⊢
 unfold lsT at hF
 rw [hrn] at hF
 simp only at hF
 have zS:=hfr
 repeat' (first|(apply aw_seq_k;intro K hK)|(refine eM64 ?_)|(refine aw_cond (b:=_) (by exact rfl) (fun h=>?_) (fun h=>?_)<;>(try simp at h))|(refine eB ?_)|(refine hK _ ?_;clear hK)|(clear hK;refine hK _ ?_;clear hK)|(clear hK;clear hK;refine hK _ ?_;clear hK)|(clear hK;clear hK;clear hK;refine hK _ ?_;clear hK))
 all_goals clear zS
 refine aw_loopK (s0:=?lps1) (m0:=?lpm1) (ι:={s:Nat×Nat // s.1≤2∧s.2<ns.length∧pok ns p s.1 s.2∧lst ns p s.1 s.2=F}) [1,2] (fun s=>[(7,I s.1.1),(6,I s.1.2)]) (fun _=>[]) (fun s=>s.1.1) ⟨(2,rt),by simp,hrl,hpo,hF.symm⟩ ?lhs1 ?lhm1 ?_ ?_
 case lhs1=>first|(simp [keepS];done)|(simp [keepS];rfl)
 case lhm1=>first|rfl|(simp;done)|(simp;rfl)
 ·exact dle
 ·rintro ⟨⟨l,n⟩,hl,hn,hpk,hacc⟩
  simp only at hl hn hpk hacc ⊢
  have hnN:(n:Int)<(ns.length:Int):=by omega
  have hdl:=dgt_lt p l
  have hdI:(dgt p l:Int)<8:=by omega
  have hgn:=nrows_gi hn
  have hgnE:=nrows_gE hn
  have h8:(gn ns n).2.length=8:=(ht.1 _ (gn_mem hn)).1
  have hw8:=wcs_gi (l:=(gn ns n).2) (i:=dgt p l) (by omega)
  have hwE:=wcs_gE (l:=(gn ns n).2) (i:=dgt p l) (by omega)
  have hw64:=wd_lt ht (n:=n) (i:=dgt p l) hn
  have hdg':=hdg p l hp hl
  rw [dig_dgt hp hl] at hdg'
  obtain ⟨w,hwd⟩:∃ w,w=wd ns n (dgt p l):=⟨_,rfl⟩
  have hwg:(gn ns n).2.getD (dgt p l) 0=w:=hwd.symm
  rw [hwg] at hw8 hwE
  simp only at hw64
  rw [← hwd] at hw64
  have hwl:(wcs (gn ns n).2).length=8:=by simp [h8]
  obtain ⟨⟨fr,ws⟩,hm⟩:∃ m,m=gn ns n:=⟨_,rfl⟩
  rw [← hm] at hgn hgnE hw8 hwE hwl
  simp only at hgn hgnE hw8 hwE hwl
  obtain ⟨cs,hcs⟩:∃ cs,cs=wcs ws:=⟨_,rfl⟩
  rw [← hcs] at hgn hgnE hw8 hwE hwl
  clear hcs hm h8 hwg
  have hen':=hen w hw64
  have hdR:tabW w=if (decR w).1.1=4 then some (decR w).1.2.1 else none:=rfl
  obtain ⟨⟨⟨k,f,d,a,x,h⟩,e⟩,hE⟩:∃ r,r=decR w:=⟨_,rfl⟩
  rw [← hE] at hen' hdR
  clear hE
  simp only [EnV,U] at hen' hw8 hwE hdR
  obtain ⟨dg,hdg0⟩:∃ dg,dg=dgt p l:=⟨_,rfl⟩
  rw [← hdg0] at hdl hdI hw8 hwE hdg' hwd
  cases l with
  | zero =>
   have e:F=(n,0,w):=by rw [← hacc];simp only [lst];rw [← hdg0,← hwd]
   repeat' (first|(apply aw_seq_k;intro K hK)|(refine eM64o ?_)|(refine aw_cond (b:=_) (by exact rfl) (fun h=>?_) (fun h=>?_)<;>(try simp at h))|(refine eB ?_)|(refine hK _ ?_;clear hK)|(clear hK;refine hK _ ?_;clear hK)|(clear hK;clear hK;refine hK _ ?_;clear hK)|(clear hK;clear hK;clear hK;refine hK _ ?_;clear hK))
   refine ⟨by simp,?_⟩
   simp [leaves_iff,Try.f107,e]
   try exact dt
  | succ l =>
   have hlI:((l+1:Nat):Int)=(l:Int)+1:=by omega
   rw [hlI] at hdg' ⊢
   have hl0:0<(l:Int)+1:=by omega
   have hl1I:((l:Int)+1 - 1)=(l:Int):=by omega
   rcases Decidable.em (k=4) with hk|hk
   ·subst hk
    simp only [if_true] at hdR
    simp only [pok,lst] at hpk hacc
    rw [← hdg0,← hwd] at hpk hacc
    obtain ⟨nx,hfn,hpk2⟩:=hpk f hdR
    have hkid:kid WA ns w=some nx:=kid_some.2 ⟨f,hdR,hfn⟩
    rw [hkid] at hacc
    simp only at hacc
    have hf2:=hfi' f
    rw [fstG_fnd,hfn] at hf2
    try simp only at hf2
    have hnx:=fnd_lt hfn
    have zS:=jj hl0<|jj hdg'<|jj hn<|jj hnN<|jj hgn<|jj hgnE<|jj hw8<|jj hwE<|jj hwl<|jj hdl<|jj hdI<|jj hen'<|jj hf2<|hl1I
    repeat' (first|(apply aw_seq_k;intro K hK)|(refine eM64 ?_)|(refine aw_cond (b:=_) (by exact rfl) (fun h=>?_) (fun h=>?_)<;>(try simp at h))|(refine eB ?_)|(refine hK _ ?_;clear hK)|(clear hK;refine hK _ ?_;clear hK)|(clear hK;clear hK;refine hK _ ?_;clear hK)|(clear hK;clear hK;clear hK;refine hK _ ?_;clear hK))
    all_goals clear zS
    refine ⟨l,nx,?_,⟨by omega,hnx,hpk2,hacc⟩,by omega⟩
    exact dle
   ·have hkid:kid WA ns w=none:=by unfold kid;show (tabW w).bind _=none;rw [hdR,if_neg hk];rfl
    have e:F=(n,l+1,w):=by rw [← hacc];simp only [lst];rw [← hdg0,← hwd,hkid]
    have zS:=jj hl0<|jj hdg'<|jj hn<|jj hnN<|jj hgn<|jj hgnE<|jj hw8<|jj hwE<|jj hwl<|jj hdl<|jj hdI<|jj hen'<|hk
    repeat' (first|(apply aw_seq_k;intro K hK)|(refine eM64 ?_)|(refine aw_cond (b:=_) (by exact rfl) (fun h=>?_) (fun h=>?_)<;>(try simp at h))|(refine eB ?_)|(refine hK _ ?_;clear hK)|(clear hK;refine hK _ ?_;clear hK)|(clear hK;clear hK;refine hK _ ?_;clear hK)|(clear hK;clear hK;clear hK;refine hK _ ?_;clear hK))
    all_goals clear zS
    refine ⟨by simp,?_⟩
    simp [leaves_iff,Try.f107,e]
    try exact dt
noncomputable def ckd (t:Tb) (n lim:Int):Int:=if chk t≠0 then chk t else if n<0∨lim≤n then 2 else 0
theorem s104 (X:AX) (hX:XOK Try.prog X) (hw:X.W wT) (hch:∀ t:Tb,tbOK t→∀ M n,X.call 28 [TbV t] M n=some (I (chk t),[])) :
  PSound Try.prog 104 (specF (ι:={x:Tb×Int×Int // tbOK x.1}) (fun x=>[TbV x.1.1,I x.1.2.1,I x.1.2.2]) fun x=>retOf [I (ckd x.1.1 x.1.2.1 x.1.2.2)]):=by
 refine psound_spec hX mixed Try.func104 rfl fun ⟨⟨⟨r,ns,ds⟩,n,lim⟩,ht⟩ w0 G=>⟨by show 3≤20;decide,rfl,?_⟩
 show AW ⟨Try.prog,X,20,w0,.pure G⟩ _ _ _
 have hc:Cx.OK ⟨Try.prog,X,20,w0,.pure G⟩:=⟨hX,mixed⟩
 have hch':=hch _ ht
 unfold ckd
 obtain ⟨c,hc0⟩:∃ c,c=chk (r,ns,ds):=⟨_,rfl⟩
 simp only [TbV,← hc0] at hch' ⊢
 rcases Decidable.em (c=0) with h0|h0
 ·subst h0
  rcases Decidable.em (n<0) with h1|h1
  ·have zS:=jj hch'<|h1
   refine dM64 ?_
   repeat (intro K hK)
   clear zS
   refine ⟨by simp,?_⟩
   simp [leaves_iff,Try.f104,h1]
   try exact dt
  ·rcases Decidable.em (lim≤n) with h2|h2
   ·have zS:=jj hch'<|jj h1<|h2
    refine dM64 ?_
    repeat (intro K hK)
    clear zS
    refine ⟨by simp,?_⟩
    simp [leaves_iff,Try.f104,h1,h2]
    try exact dt
   ·have zS:=jj hch'<|jj h1<|h2
    refine dM64 ?_
    repeat (intro K hK)
    clear zS
    refine ⟨by simp,?_⟩
    simp [leaves_iff,Try.f104,h1,h2]
    try exact dt
 ·have zS:=jj hch'<|h0
  refine dM64 ?_
  repeat (intro K hK)
  clear zS
  refine ⟨by simp,?_⟩
  simp [leaves_iff,Try.f104,h0]
  try exact dt
end Go.AM
namespace Go.AM
open Go Go.Proofs
structure Pv (t:Tb):Prop where
 asc:ascN t.2.1
 vm:VM WA (Mof t.2.1) t.1
theorem Vt.pv {t:Tb} (h:Vt t):Pv t:=⟨h.num.asc,h.vm⟩
def wlk (M:Mm) (root:Int) (p:Nat):Int×Nat×Nat:=match frP WA M root 2 (p/8) with
 | some f=>(f,0,wM M f (p%8))
 | none=>match frP WA M root 1 (p/64) with
  | some f=>(f,1,wM M f (p/8%8))
  | none=>(root,2,wM M root (p/64))
theorem Pv.root {t:Tb} (h:Pv t):fnd t.2.1 t.1=some (rtN t):=by
 obtain ⟨ws,h1,_⟩:=h.vm.nd 0 0 Pos0 t.1 rfl
 obtain ⟨r,h2,_⟩:=Mof_some.1 h1
 unfold rtN
 rw [h2];rfl
theorem Pv.walk {t:Tb} (h:Pv t) {p:Nat} (hp:p<512):pok t.2.1 p 2 (rtN t)∧fnd t.2.1 (wlk (Mof t.2.1) t.1 p).1=some (lsT t p).1∧(lsT t p).2=(wlk (Mof t.2.1) t.1 p).2:=by
 have hr:=h.root
 have d2:dgt p 2=p/64:=by unfold dgt;simp;omega
 have d1:dgt p 1=p/8%8:=by unfold dgt;simp
 have d0:dgt p 0=p%8:=by unfold dgt;simp
 unfold lsT wlk
 simp only [pok,lst,d2,d1,d0]
 have q2:=h.vm.nd
 have f1:frP WA (Mof t.2.1) t.1 1 (p/64)=tabW (wd t.2.1 (rtN t) (p/64)):=by
  simp only [frP,Option.bind_some]
  rw [show p/64%8=p/64 by omega,wM_Mof hr]
  rfl
 have f2:frP WA (Mof t.2.1) t.1 2 (p/8)=(frP WA (Mof t.2.1) t.1 1 (p/64)).bind fun f=>tabW (wM (Mof t.2.1) f (p/8%8)):=by
  show (frP WA (Mof t.2.1) t.1 1 (p/8/8)).bind _=_
  rw [show p/8/8=p/64 by omega]
  rfl
 cases h1:tabW (wd t.2.1 (rtN t) (p/64)) with
 | none =>
  rw [h1] at f1
  rw [f1] at f2
  have hk:kid WA t.2.1 (wd t.2.1 (rtN t) (p/64))=none:=by unfold kid;show (tabW _).bind _=none;rw [h1];rfl
  rw [f2,f1,hk]
  simp only [Option.bind_none]
  refine ⟨fun g hg=>by simp at hg,hr,?_⟩
  rw [wM_Mof hr]
 | some g1 =>
  rw [h1] at f1
  rw [f1] at f2
  simp only [Option.bind_some] at f2
  obtain ⟨ws,m1,_⟩:=q2 1 (p/64) (Pos1 (by omega)) g1 f1
  obtain ⟨n1,hn1,_⟩:=Mof_some.1 m1
  have hk:kid WA t.2.1 (wd t.2.1 (rtN t) (p/64))=some n1:=kid_some.2 ⟨g1,h1,hn1⟩
  rw [hk,f1]
  rw [wM_Mof hn1] at f2
  simp only
  cases h2:tabW (wd t.2.1 n1 (p/8%8)) with
  | none =>
   rw [h2] at f2
   have hk2:kid WA t.2.1 (wd t.2.1 n1 (p/8%8))=none:=by unfold kid;show (tabW _).bind _=none;rw [h2];rfl
   rw [f2,hk2]
   simp only
   refine ⟨fun g hg=>?_,hn1,?_⟩
   ·simp only [Option.some.injEq] at hg
    subst hg
    exact ⟨n1,hn1,fun g hg=>by rw [h2] at hg;simp at hg⟩
   ·rw [wM_Mof hn1]
  | some g2 =>
   rw [h2] at f2
   obtain ⟨ws2,m2,_,m3⟩:=q2 2 (p/8) (Pos2 (by omega)) g2 f2
   obtain ⟨n2,hn2,e2⟩:=Mof_some.1 m2
   have hk2:kid WA t.2.1 (wd t.2.1 n1 (p/8%8))=some n2:=kid_some.2 ⟨g2,h2,hn2⟩
   rw [f2,hk2]
   simp only
   refine ⟨fun g hg=>?_,hn2,?_⟩
   ·simp only [Option.some.injEq] at hg
    subst hg
    refine ⟨n1,hn1,fun g hg=>?_⟩
    rw [h2] at hg
    simp only [Option.some.injEq] at hg
    subst hg
    refine ⟨n2,hn2,?_⟩
    have:=m3 (p%8) (by omega)
    refine (WD_ok fun _=>true).flat _ ?_
    unfold wd
    rw [e2]
    exact this
   ·rw [wM_Mof hn2]
theorem Pv.pto {t:Tb} (h:Pv t) (ht:tbOK t) {p:Nat} (hp:p<512):ptO t p:=⟨ht,h.asc,hp,⟨_,h.root⟩,(h.walk hp).1⟩
theorem lsT_lt {t:Tb} (h:Pv t) {p:Nat} (hp:p<512):(lsT t p).1<t.2.1.length∧(lsT t p).2.1≤2:=lst_lt (fnd_lt h.root)
theorem chk_pv {t:Tb} (ht:tbOK t) (h:chk t=0):Pv t:=((chk_iff ht).1 h).pv
end Go.AM
set_option maxHeartbeats 2000000
namespace Go.AM
open Go Go.Proofs
theorem ckd_cases (t:Tb) (n lim:Int):(ckd t n lim≠0)∨(ckd t n lim=0∧chk t=0∧0≤n∧n<lim):=by
 unfold ckd
 by_cases h:chk t=0
 ·rw [if_neg (by simp [h])]
  split
  ·left;decide
  ·right;exact ⟨rfl,h,by omega,by omega⟩
 ·rw [if_pos h];exact .inl h
theorem ckd_z {t:Tb} {n lim:Int} (h:chk t=0) (h1:0≤n) (h2:n<lim):ckd t n lim=0:=by
 unfold ckd
 rw [if_neg (by simp [h]),if_neg (by omega)]
theorem ckd_c {t:Tb} {n lim:Int} (h:chk t≠0):ckd t n lim=chk t:=by unfold ckd;rw [if_pos h]
theorem ckd_r {t:Tb} {n lim:Int} (h:chk t=0) (h1:n<0∨lim≤n):ckd t n lim=2:=by unfold ckd;rw [if_neg (by simp [h]),if_pos h1]
noncomputable def walkT (t:Tb) (n:Int):Nat×Nat×Int:=if ckd t n 512=0 then ((lsT t n.toNat).2.2,(lsT t n.toNat).2.1,0) else (0,0,ckd t n 512)
theorem walkT_z {t:Tb} {n:Int} (h:ckd t n 512=0):walkT t n=((lsT t n.toNat).2.2,(lsT t n.toNat).2.1,0):=by unfold walkT;rw [if_pos h]
theorem walkT_n {t:Tb} {n:Int} (h:¬ ckd t n 512=0):walkT t n=(0,0,ckd t n 512):=by unfold walkT;rw [if_neg h]
theorem lsT_u64 {t:Tb} (ht:tbOK t) (h:Pv t) {p:Nat} (hp:p<512):(lsT t p).2.2<2^64:=by
 have:=lst_word (ns:=t.2.1) (p:=p) (l:=2) (n:=rtN t)
 show (lst t.2.1 p 2 (rtN t)).2.2<_
 rw [this]
 exact wd_lt ht (lst_lt (fnd_lt h.root)).1
section
variable (X:AX) (hX:XOK Try.prog X) (hw:X.W wT) (hck:∀ t:Tb,tbOK t→∀ (n lim:Int) M k,X.call 104 [TbV t,I n,I lim] M k=some (I (ckd t n lim),[]))
 (hla:∀ (t:Tb) (p:Nat),ptO t p→∀ M n,X.call 72 [TbV t,I p] M n=some (stV (lsT t p),[]))
 (hen:∀ w:Nat,w<2^64→∀ M n,X.call 143 [U w] M n=some (EnV (decR w).1,[]))
include hX hw hck hla
theorem s58:PSound Try.prog 58 (specF (ι:={x:Tb×Int // tbOK x.1}) (fun x=>[TbV x.1.1,I x.1.2]) fun x=>retOf [U (walkT x.1.1 x.1.2).1,I (walkT x.1.1 x.1.2).2.1,I (walkT x.1.1 x.1.2).2.2]):=by
 refine psound_spec hX mixed Try.func58 rfl fun ⟨⟨⟨r,ns,ds⟩,n⟩,ht⟩ w0 G=>⟨by show 2≤22;decide,rfl,?_⟩
 show AW ⟨Try.prog,X,22,w0,.pure G⟩ _ _ _
 have hc:Cx.OK ⟨Try.prog,X,22,w0,.pure G⟩:=⟨hX,mixed⟩
 have hck':=hck _ ht n 512
 rcases ckd_cases (r,ns,ds) n 512 with h0|⟨h0,h1,h2,h3⟩
 ·have e:=walkT_n h0
  obtain ⟨c,hc0⟩:∃ c,c=ckd (r,ns,ds) n 512:=⟨_,rfl⟩
  rw [← hc0] at hck' e h0
  simp only [TbV,e,U] at hck' ⊢
  have zS:=jj hck'<|h0
  refine dM64 ?_
  repeat (intro K hK)
  clear zS
  refine ⟨by simp,?_⟩
  simp [leaves_iff,Try.f58]
  try exact dt
 ·have e:=walkT_z h0
  obtain ⟨p,rfl⟩:∃ p:Nat,n=p:=⟨n.toNat,by omega⟩
  have hp:p<512:=by omega
  have hpto:=(chk_pv ht h1).pto ht hp
  have hla':=hla _ p hpto
  rw [h0] at hck'
  rw [Int.toNat_natCast] at e
  obtain ⟨⟨a,b,c⟩,hS⟩:∃ S,S=lsT (r,ns,ds) p:=⟨_,rfl⟩
  rw [← hS] at hla' e
  simp only [TbV,e,stV,srow,U] at hck' hla' ⊢
  have zS:=jj hck'<|hla'
  refine dM64 ?_
  repeat (intro K hK)
  clear zS
  refine ⟨by simp,?_⟩
  simp [leaves_iff,Try.f58]
  try exact dt
include hen
end
theorem s78 (X:AX) (hX:XOK Try.prog X) (hw:X.W wT) (hch:∀ t:Tb,tbOK t→∀ M n,X.call 35 [TbV t] M n=some (I (chk t),[]))
  (hst:∀ (t:Tb) (p:Nat),ptO t p→∀ M n,X.call 107 [TbV t,I p] M n=some (.tup [I (lsT t p).1,I (lsT t p).2.1],[]))
  (hdg:∀ (p l:Nat),p<512→l≤2→∀ M n,X.call 108 [I p,I l] M n=some (I (dig p l),[])) :
  PSound Try.prog 78 (specF (ι:={x:Tb×Int // tbOK x.1}) (fun x=>[TbV x.1.1,I x.1.2]) fun x=>retOf [U (walkT x.1.1 x.1.2).1,I (walkT x.1.1 x.1.2).2.1,I (walkT x.1.1 x.1.2).2.2]):=by
 refine psound_spec hX mixed Try.func78 rfl fun ⟨⟨⟨r,ns,ds⟩,n⟩,ht⟩ w0 G=>⟨by show 2≤38;decide,rfl,?_⟩
 show AW ⟨Try.prog,X,38,w0,.pure G⟩ _ _ _
 have hc:Cx.OK ⟨Try.prog,X,38,w0,.pure G⟩:=⟨hX,mixed⟩
 have hch':=hch _ ht
 have hl1:ns.length≤1000000:=ht.2.1
 rcases Decidable.em (chk (r,ns,ds)=0) with hc0|hc0
 ·rcases Decidable.em (n<0) with h1|h1
  ·have e:=walkT_n (t:=(r,ns,ds)) (n:=n) (by rw [ckd_r hc0 (.inl h1)];decide)
   rw [ckd_r hc0 (.inl h1)] at e
   rw [hc0] at hch'
   simp only [TbV,e,U] at hch' ⊢
   have zS:=jj hch'<|h1
   refine dM64 ?_
   repeat (intro K hK)
   clear zS
   refine ⟨by simp,?_⟩
   simp [leaves_iff,Try.f78]
   try exact dt
  ·rcases Decidable.em (512≤n) with h2|h2
   ·have e:=walkT_n (t:=(r,ns,ds)) (n:=n) (by rw [ckd_r hc0 (.inr h2)];decide)
    rw [ckd_r hc0 (.inr h2)] at e
    rw [hc0] at hch'
    simp only [TbV,e,U] at hch' ⊢
    have zS:=jj hch'<|jj h1<|h2
    refine dM64 ?_
    repeat (intro K hK)
    clear zS
    refine ⟨by simp,?_⟩
    simp [leaves_iff,Try.f78]
    try exact dt
   ·have e:=walkT_z (t:=(r,ns,ds)) (n:=n) (ckd_z hc0 (by omega) (by omega))
    obtain ⟨p,rfl⟩:∃ p:Nat,n=p:=⟨n.toNat,by omega⟩
    have hp:p<512:=by omega
    have hpv:=chk_pv ht hc0
    have hpto:=hpv.pto ht hp
    have hst':=hst _ p hpto
    rw [hc0] at hch'
    rw [Int.toNat_natCast] at e
    have hwo:=lst_word (ns:=ns) (p:=p) (l:=2) (n:=rtN (r,ns,ds))
    rw [show lst ns p 2 (rtN (r,ns,ds))=lsT (r,ns,ds) p from rfl] at hwo
    obtain ⟨hlt1,hlt2⟩:=lsT_lt hpv hp
    obtain ⟨⟨a,b,c⟩,hS⟩:∃ S,S=lsT (r,ns,ds) p:=⟨_,rfl⟩
    rw [← hS] at hst' e hwo hlt1 hlt2
    simp only at hwo hlt1 hlt2 hst' e
    have haN:(a:Int)<(ns.length:Int):=by omega
    have hdg':=hdg p b hp hlt2
    rw [dig_dgt hp hlt2] at hdg'
    have hdl:=dgt_lt p b
    have hgn:=nrows_gi hlt1
    have hgnE:=nrows_gE hlt1
    have h8:(gn ns a).2.length=8:=(ht.1 _ (gn_mem hlt1)).1
    have hw8:=wcs_gi (l:=(gn ns a).2) (i:=dgt p b) (by omega)
    have hwE:=wcs_gE (l:=(gn ns a).2) (i:=dgt p b) (by omega)
    have hwg:(gn ns a).2.getD (dgt p b) 0=c:=hwo.symm
    rw [hwg] at hw8 hwE
    have hwl:(wcs (gn ns a).2).length=8:=by simp [h8]
    obtain ⟨⟨fr,ws⟩,hm⟩:∃ m,m=gn ns a:=⟨_,rfl⟩
    rw [← hm] at hgn hgnE hw8 hwE hwl
    simp only at hgn hgnE hw8 hwE hwl
    obtain ⟨cs,hcs⟩:∃ cs,cs=wcs ws:=⟨_,rfl⟩
    rw [← hcs] at hgn hgnE hw8 hwE hwl
    obtain ⟨dg,hdg0⟩:∃ dg,dg=dgt p b:=⟨_,rfl⟩
    rw [← hdg0] at hdl hw8 hwE hdg'
    have hdI:(dg:Int)<8:=by omega
    clear hcs hm h8 hwg hwo hS
    simp only [TbV,U] at hch' hst' hw8 hwE ⊢
    have zS:=jj hch'<|jj hst'<|jj h1<|jj h2<|jj hdg'<|jj hlt1<|jj haN<|jj hgn<|jj hgnE<|jj hw8<|jj hwE<|jj hwl<|jj hdl<|hdI
    refine dM64 ?_
    repeat (intro K hK)
    clear zS
    refine ⟨by simp,?_⟩
    simp [leaves_iff,Try.f78,e]
    try exact dt
 ·have e:=walkT_n (t:=(r,ns,ds)) (n:=n) (by rw [ckd_c hc0];exact hc0)
  rw [ckd_c hc0] at e
  obtain ⟨c,hcc⟩:∃ c,c=chk (r,ns,ds):=⟨_,rfl⟩
  rw [← hcc] at hch' e hc0
  simp only [TbV,e,U] at hch' ⊢
  have zS:=jj hch'<|hc0
  refine dM64 ?_
  repeat (intro K hK)
  clear zS
  refine ⟨by simp,?_⟩
  simp [leaves_iff,Try.f78]
  try exact dt
end Go.AM
namespace Go.AM
theorem sorted_ext {α:Type} {R:α→α→Prop} (hi:∀ a,¬ R a a) (ht:∀ {a b c},R a b→R b c→R a c):∀ {l m:List α},l.Pairwise R→m.Pairwise R→(∀ x,x∈l↔x∈m)→l=m
 | [],[],_,_,_=>rfl
 | [],y::m,_,_,h=>by have:=(h y).2 (by simp);simp at this
 | x::l,[],_,_,h=>by have:=(h x).1 (by simp);simp at this
 | x::l,y::m,hl,hm,h=>by
  rw [List.pairwise_cons] at hl hm
  have e:x=y:=by
   rcases List.mem_cons.1 ((h x).1 (by simp)) with e|h1
   ·exact e
   ·rcases List.mem_cons.1 ((h y).2 (by simp)) with e|h2
    ·exact e.symm
    ·exact absurd (ht (hl.1 y h2) (hm.1 x h1)) (hi x)
  subst e
  congr 1
  refine sorted_ext hi ht hl.2 hm.2 fun z=>?_
  constructor
  ·intro hz
   rcases List.mem_cons.1 ((h z).1 (by simp [hz])) with e|h1
   ·subst e;exact absurd (hl.1 z hz) (hi z)
   ·exact h1
  ·intro hz
   rcases List.mem_cons.1 ((h z).2 (by simp [hz])) with e|h1
   ·subst e;exact absurd (hm.1 z hz) (hi z)
   ·exact h1
section
variable {β:Type}
def ascK (l:List (Int×β)):Prop:=l.Pairwise fun a b=>a.1<b.1
theorem ascK_ext {l m:List (Int×β)} (hl:ascK l) (hm:ascK m) (h:∀ x,x∈l↔x∈m):l=m :=
 sorted_ext (R:=fun a b:Int×β=>a.1<b.1) (fun a=>Int.lt_irrefl _) (fun h1 h2=>Int.lt_trans h1 h2) hl hm h
def insK:List (Int×β)→Int×β→List (Int×β)
 | [],n=>[n]
 | a::r,n=>if n.1<a.1 then n::a::r else a::insK r n
def delK (l:List (Int×β)) (k:Int):List (Int×β):=l.filter fun a=>decide (a.1≠k)
theorem mem_delK {l:List (Int×β)} {k:Int} {x:Int×β}:x∈delK l k↔x∈l∧x.1≠k:=by simp [delK]
theorem delK_asc {l:List (Int×β)} {k:Int} (h:ascK l):ascK (delK l k):=List.Pairwise.filter _ h
end
section
variable {ns:NdL}
theorem mem_Mof (ha:ascN ns) {f:Int} {ws:List Nat}:(f,ws)∈ns↔Mof ns f=some ws:=by
 constructor
 ·intro h
  obtain ⟨i,hi,e⟩:=List.getElem_of_mem h
  have h1:=fnd_at ha hi
  rw [List.getD_eq_getElem?_getD,List.getElem?_eq_getElem hi,Option.getD_some,e] at h1
  refine Mof_some.2 ⟨i,h1,?_⟩
  rw [List.getD_eq_getElem?_getD,List.getElem?_eq_getElem hi,Option.getD_some,e]
 ·intro h
  obtain ⟨i,h1,rfl⟩:=Mof_some.1 h
  have hi:=fnd_lt h1
  have h2:=fnd_frame h1
  rw [← h2]
  rw [List.getD_eq_getElem?_getD,List.getElem?_eq_getElem hi,Option.getD_some]
  exact List.getElem_mem hi
theorem Mof_none (ha:ascN ns) {f:Int}:Mof ns f=none↔∀ n∈ns,n.1≠f:=by
 constructor
 ·rintro h ⟨g,ws⟩ hn e
  simp only at e
  subst e
  rw [(mem_Mof ha).1 hn] at h;simp at h
 ·intro h
  cases hm:Mof ns f with
  | none=>rfl
  | some ws=>exact absurd rfl (h _ ((mem_Mof ha).2 hm))
theorem ext_asc {ms:NdL} (ha:ascN ns) (hb:ascN ms) (h:∀ f,Mof ns f=Mof ms f):ns=ms:=by
 refine ascK_ext ha hb fun x=>?_
 obtain ⟨f,ws⟩:=x
 rw [mem_Mof ha,mem_Mof hb,h]
theorem Mof_del (ha:ascN ns) {f:Int}:∀ g,Mof (delK ns f) g=updM1 (Mof ns) f none g:=by
 intro g
 have hi:ascN (delK ns f):=delK_asc ha
 unfold updM1
 split
 ·rename_i e
  subst e
  exact (Mof_none hi).2 fun n hn=>(mem_delK.1 hn).2
 ·rename_i e
  cases h:Mof ns g with
  | none=>exact (Mof_none hi).2 fun n hn=>(Mof_none ha).1 h n (mem_delK.1 hn).1
  | some us=>exact (mem_Mof hi).1 (mem_delK.2 ⟨(mem_Mof ha).2 h,e⟩)
def setN (ns:NdL) (n i w:Nat):NdL:=ns.set n ((ns.getD n (0,[])).1,(ns.getD n (0,[])).2.set i w)
@[simp] theorem setN_len {n i w:Nat}:(setN ns n i w).length=ns.length:=by simp [setN]
theorem setN_asc (ha:ascN ns) {n i w:Nat} (hn:n<ns.length):ascN (setN ns n i w):=by
 have hk:∀ j (hj:j<(setN ns n i w).length) (hj2:j<ns.length),((setN ns n i w)[j]).1=(ns[j]).1:=fun j hj hj2=>by
  unfold setN at hj ⊢
  rw [List.getElem_set]
  split
  ·rename_i e
   subst e
   simp only
   rw [List.getD_eq_getElem?_getD,List.getElem?_eq_getElem hn];rfl
  ·rfl
 refine List.pairwise_iff_getElem.2 fun a b h1 h2 h3=>?_
 rw [hk a h1 (by simpa using h1),hk b h2 (by simpa using h2)]
 exact List.pairwise_iff_getElem.1 ha a b _ _ h3
theorem Mof_set (ha:ascN ns) {f:Int} {n i w:Nat} (hf:fnd ns f=some n):∀ g,Mof (setN ns n i w) g=updW (Mof ns) f i w g:=by
 intro g
 have hn:=fnd_lt hf
 have hi:ascN (setN ns n i w):=setN_asc ha hn
 have hfr:=fnd_frame hf
 have hmem:∀ x,x∈setN ns n i w↔x=(f,(ns.getD n (0,[])).2.set i w)∨(x∈ns∧x.1≠f):=fun x=>by
  constructor
  ·intro hx
   obtain ⟨j,hj,rfl⟩:=List.getElem_of_mem hx
   unfold setN at hj ⊢
   rw [List.getElem_set]
   split
   ·rw [hfr];exact .inl rfl
   ·rename_i e
    right
    have hj2:j<ns.length:=by simpa using hj
    refine ⟨List.getElem_mem hj2,fun e2=>e ?_⟩
    have h1:=fnd_at ha hj2
    rw [List.getD_eq_getElem?_getD,List.getElem?_eq_getElem hj2,Option.getD_some,e2,hf] at h1
    simpa using h1
  ·rintro (rfl|⟨h1,h2⟩)
   ·have:(setN ns n i w)[n]'(by simpa using hn)=(f,(ns.getD n (0,[])).2.set i w):=by
     unfold setN;rw [List.getElem_set,if_pos rfl,hfr]
    rw [← this];exact List.getElem_mem _
   ·obtain ⟨j,hj,rfl⟩:=List.getElem_of_mem h1
    have hjn:n≠j:=fun e=>h2 (by
     subst e
     rw [List.getD_eq_getElem?_getD,List.getElem?_eq_getElem hj,Option.getD_some] at hfr
     exact hfr)
    have:(setN ns n i w)[j]'(by simpa using hj)=ns[j]:=by
     unfold setN;rw [List.getElem_set,if_neg hjn]
    rw [← this];exact List.getElem_mem _
 unfold updW
 split
 ·rename_i e
  subst e
  have h1:Mof ns g=some (ns.getD n (0,[])).2:=Mof_some.2 ⟨n,hf,rfl⟩
  rw [h1]
  exact (mem_Mof hi).1 ((hmem _).2 (.inl rfl))
 ·rename_i e
  cases h:Mof ns g with
  | none =>
   refine (Mof_none hi).2 fun x hx=>?_
   rcases (hmem x).1 hx with rfl|⟨h1,h2⟩
   ·exact fun h=>e h.symm
   ·exact (Mof_none ha).1 h x h1
  | some us=>exact (mem_Mof hi).1 ((hmem _).2 (.inr ⟨(mem_Mof ha).2 h,e⟩))
end
end Go.AM
namespace Go.AM
open Go Go.Proofs
noncomputable def FClN:List AV→Option AV:=specF (ι:={l:List Nd // nds8 l∧l.length≤1000000}) (fun x=>[.rd 9 (nrows x.1)]) fun x=>retOf [.ow 9 (nrows x.1)]
noncomputable def FClD:List AV→Option AV:=specF (ι:={l:List Dp // l.length≤1000000}) (fun x=>[.rd 2 (prows x.1)]) fun x=>retOf [.ow 2 (prows x.1)]
theorem FClN_at {l:List Nd} (h:nds8 l) (h2:l.length≤1000000):FClN [.rd 9 (nrows l)]=some (.ow 9 (nrows l)):=by
 refine specF_eq (ι:={l:List Nd // nds8 l∧l.length≤1000000}) (A:=fun x=>[.rd 9 (nrows x.1)]) (R:=fun x=>retOf [.ow 9 (nrows x.1)]) ⟨l,h,h2⟩ fun j e=>?_
 simp only [List.cons.injEq,AV.rd.injEq,true_and,nrows_inj,and_true] at e
 rw [e]
theorem FClD_at {l:List Dp} (h2:l.length≤1000000):FClD [.rd 2 (prows l)]=some (.ow 2 (prows l)):=by
 refine specF_eq (ι:={l:List Dp // l.length≤1000000}) (A:=fun x=>[.rd 2 (prows x.1)]) (R:=fun x=>retOf [.ow 2 (prows x.1)]) ⟨l,h2⟩ fun j e=>?_
 simp only [List.cons.injEq,AV.rd.injEq,true_and,prows_inj,and_true] at e
 rw [e]
theorem s51 (X:AX) (hX:XOK Try.prog X) (hw:X.W wT):PSound Try.prog 51 (specF (ι:={x:Tb // tbOK x}) (fun x=>[TbV x.1]) fun x=>retOf [.agg [I x.1.1,.ow 9 (nrows x.1.2.1),.ow 2 (prows x.1.2.2)]]):=by
 refine psound_spec hX mixed Try.func51 rfl fun ⟨⟨r,ns,ds⟩,ht⟩ w0 G=>⟨by show 1≤20;decide,rfl,?_⟩
 show AW ⟨Try.prog,X,20,w0,.pure G⟩ _ _ _
 have hc:Cx.OK ⟨Try.prog,X,20,w0,.pure G⟩:=⟨hX,mixed⟩
 have hl1:ns.length≤1000000:=ht.2.1
 have hl2:ds.length≤1000000:=ht.2.2
 simp only [TbV]
 have tkn:List.take ns.length (nrows ns)=nrows ns:=List.take_of_length_le (by simp)
 have tkd:List.take ds.length (prows ds)=prows ds:=List.take_of_length_le (by simp)
 refine dM64o ?_
 repeat (intro K hK)
 refine ⟨by simp,?_⟩
 simp [leaves_iff,Try.f51,tkn,tkd]
 try exact dt
theorem s105 (X:AX) (hX:XOK Try.prog X) (hw:X.W wT) (h1:X.call 136=callC FClN) (h2:X.call 137=callC FClD):PSound Try.prog 105 (specF (ι:={x:Tb // tbOK x}) (fun x=>[TbV x.1]) fun x=>retOf [.agg [I x.1.1,.ow 9 (nrows x.1.2.1),.ow 2 (prows x.1.2.2)]]):=by
 refine psound_spec hX mixed Try.func105 rfl fun ⟨⟨r,ns,ds⟩,ht⟩ w0 G=>⟨by show 1≤12;decide,rfl,?_⟩
 show AW ⟨Try.prog,X,12,w0,.pure G⟩ _ _ _
 have hc:Cx.OK ⟨Try.prog,X,12,w0,.pure G⟩:=⟨hX,mixed⟩
 have hl1:ns.length≤1000000:=ht.2.1
 have hl2:ds.length≤1000000:=ht.2.2
 simp only [TbV]
 have e1:=FClN_at (nds8_of ht) hl1
 have e2:=FClD_at hl2
 simp only at e1 e2
 have tkn:List.take ns.length (nrows ns)=nrows ns:=List.take_of_length_le (by simp)
 have tkd:List.take ds.length (prows ds)=prows ds:=List.take_of_length_le (by simp)
 have zS:=jj h1<|jj h2<|jj e1<|e2
 refine dM64 ?_
 repeat (intro K hK)
 clear zS
 refine ⟨by simp,?_⟩
 simp [leaves_iff,Try.f105,tkn,tkd]
 try exact dt
theorem s136 (X:AX) (hX:XOK Try.prog X) (hw:X.W wT):PSound Try.prog 136 FClN:=by
 unfold FClN
 refine psound_spec hX mixed Try.func136 rfl fun ⟨ns,h8,hl⟩ w0 G=>⟨by show 1≤8;decide,rfl,?_⟩
 show AW ⟨Try.prog,X,8,w0,.pure G⟩ _ _ _
 have hc:Cx.OK ⟨Try.prog,X,8,w0,.pure G⟩:=⟨hX,mixed⟩
 simp only at h8 hl ⊢
 have tkn:List.take ns.length (nrows ns)=nrows ns:=List.take_of_length_le (by simp)
 cases ns with
 | nil =>
  refine aw_cases_nil 0 9 (by simp [nrows,enterS]) ?_ fun p n=>?_
  ·refine dM64o ?_
   repeat (intro K hK)
   refine ⟨by simp,?_⟩
   simp [leaves_iff,Try.f136,nrows]
   try exact dt
  ·refine dM64o ?_
   repeat (intro K hK)
   refine ⟨by simp,?_⟩
   simp [leaves_iff,Try.f136,nrows]
   try exact dt
 | cons x ns =>
  have hl':ns.length+1≤1000000:=by simpa using hl
  obtain ⟨e,he⟩:∃ e,e=nrow x:=⟨_,rfl⟩
  obtain ⟨T,hT⟩:∃ T,T=nrows ns:=⟨_,rfl⟩
  have hc2:nrows (x::ns)=e::T:=by rw [he,hT];rfl
  have hTl:T.length=ns.length:=by rw [hT];simp
  have tk:List.take T.length T=T:=List.take_of_length_le (Nat.le_refl _)
  rw [hc2]
  clear he hT tkn
  have zS:=tk
  refine dM64 ?_
  repeat (intro K hK)
  clear zS
  refine ⟨by simp,?_⟩
  simp [leaves_iff,Try.f136,tk]
  try exact dt
theorem s137 (X:AX) (hX:XOK Try.prog X) (hw:X.W wT):PSound Try.prog 137 FClD:=by
 unfold FClD
 refine psound_spec hX mixed Try.func137 rfl fun ⟨ds,hl⟩ w0 G=>⟨by show 1≤8;decide,rfl,?_⟩
 show AW ⟨Try.prog,X,8,w0,.pure G⟩ _ _ _
 have hc:Cx.OK ⟨Try.prog,X,8,w0,.pure G⟩:=⟨hX,mixed⟩
 simp only at hl ⊢
 cases ds with
 | nil =>
  refine aw_cases_nil 0 2 (by simp [prows,enterS]) ?_ fun p n=>?_
  ·refine dM64o ?_
   repeat (intro K hK)
   refine ⟨by simp,?_⟩
   simp [leaves_iff,Try.f137,prows]
   try exact dt
  ·refine dM64o ?_
   repeat (intro K hK)
   refine ⟨by simp,?_⟩
   simp [leaves_iff,Try.f137,prows]
   try exact dt
 | cons x ds =>
  have hl':ds.length+1≤1000000:=by simpa using hl
  obtain ⟨e,he⟩:∃ e,e=[I x.1,I x.2]:=⟨_,rfl⟩
  obtain ⟨T,hT⟩:∃ T,T=prows ds:=⟨_,rfl⟩
  have hc2:prows (x::ds)=e::T:=by rw [he,hT];rfl
  have hTl:T.length=ds.length:=by rw [hT];simp
  have tk:List.take T.length T=T:=List.take_of_length_le (Nat.le_refl _)
  rw [hc2]
  clear he hT
  have zS:=tk
  refine dM64 ?_
  repeat (intro K hK)
  clear zS
  refine ⟨by simp,?_⟩
  simp [leaves_iff,Try.f137,tk]
  try exact dt
def TbO (t:Tb):AV:=.agg [I t.1,.ow 9 (nrows t.2.1),.ow 2 (prows t.2.2)]
end Go.AM
namespace Go.AM
open Go Go.Proofs
def pMs (t:Tb) (v v2:Nat):List AO:=[.box [I t.1,.sl 1 v 9 0 t.2.1.length,.sl 2 v2 2 0 t.2.2.length],.vec v 9 false (nrows t.2.1),.vec v2 2 false (prows t.2.2)]
theorem pMs_inj {t t':Tb} {v v2:Nat} (h:pMs t v v2=pMs t' v v2):t=t':=by
 obtain ⟨r,ns,ds⟩:=t
 obtain ⟨r',ns',ds'⟩:=t'
 simp only [pMs,List.cons.injEq,AO.box.injEq,I,AV.v.injEq,Value.int.injEq,true_and,AO.vec.injEq,nrows_inj,prows_inj,and_true] at h
 obtain ⟨⟨h1,_⟩,h2,h3⟩:=h
 rw [h1,h2,h3]
def OwnR (X:AX) (f:FuncId) (D:Tb→Int→Prop) (R:Tb→Int→AV):Prop :=
 ∀ (r:Int) (ns:List Nd) (ds:List Dp) (x:Int),D (r,ns,ds) x→∀ (a va b vb:Nat) (f1 f2:Bool) (M:Nat→AO) (n:Nat),M a=.vec va 9 f1 (nrows ns)→M b=.vec vb 2 f2 (prows ds)→X.call f [.agg [I r,.sl a va 9 0 ns.length,.sl b vb 2 0 ds.length],I x] M n=some (R (r,ns,ds) x,[])
theorem nrows_setN {ns:List Nd} {n i w:Nat} (hn:n<ns.length):(nrows ns).set n (I (gn ns n).1::(wcs (gn ns n).2).set i (U w))=nrows (setN ns n i w):=by
 have:wcs ((gn ns n).2.set i w)=(wcs (gn ns n).2).set i (U w):=by simp [wcs,List.map_set]
 rw [← this]
 show (nrows ns).set n (nrow ((gn ns n).1,(gn ns n).2.set i w))=_
 unfold setN nrows
 rw [List.map_set]
 rfl
def putT (t:Tb) (p w:Nat):Tb:=(t.1,setN t.2.1 (lsT t p).1 (dgt p (lsT t p).2.1) w,t.2.2)
abbrev PuD:=Tb×Nat×Nat
noncomputable def puS:List AV→List AO→Option (AV×List AO):=specG (ι:={x:PuD // ptO x.1 x.2.1∧x.2.2<2^64}) (fun x=>[.bp 0 0,I x.1.2.1,U x.1.2.2]) (fun x=>pMs x.1.1 1 1) (fun x=>.tup []) fun x=>pMs (putT x.1.1 x.1.2.1 x.1.2.2) 1 1
theorem puS_at {t:Tb} {p w:Nat} (h:ptO t p) (hw:w<2^64):puS [.bp 0 0,I p,U w] (pMs t 1 1)=some (.tup [],pMs (putT t p w) 1 1):=by
 refine specG_eq (ι:={x:PuD // ptO x.1 x.2.1∧x.2.2<2^64}) (A:=fun x=>[.bp 0 0,I x.1.2.1,U x.1.2.2]) (M:=fun x=>pMs x.1.1 1 1) (R:=fun x=>.tup []) (O:=fun x=>pMs (putT x.1.1 x.1.2.1 x.1.2.2) 1 1) ⟨(t,p,w),h,hw⟩ fun j hA hM=>?_
 obtain ⟨⟨t',p',w'⟩,h'⟩:=j
 have e:=pMs_inj hM
 simp only at e
 subst e
 simp only [List.cons.injEq,I,U,AV.v.injEq,Value.int.injEq,true_and,and_true] at hA
 have e1:p'=p:=by omega
 have e2:w'=w:=by omega
 subst e1 e2
 exact ⟨rfl,rfl⟩
set_option maxHeartbeats 4000000 in
theorem s106 (X:AX) (hX:XOK Try.prog X) (hw:X.W wT) (hla:OwnR X 72 (fun t x=>0≤x∧ptO t x.toNat) fun t x=>stV (lsT t x.toNat)) (hdg:∀ (p l:Nat),p<512→l≤2→∀ M n,X.call 138 [I p,I l] M n=some (I (dgt p l),[])):GSound Try.prog 106 puS:=by
 unfold puS
 refine gsound_spec Try.func106 rfl X fun ⟨⟨⟨r,ns,ds⟩,p,w⟩,hpt,hw64⟩ w0 L E=>⟨by show 3≤26;decide,?_⟩
 simp only at hw64
 have hp:p<512:=hpt.2.2.1
 have hla':=hla r ns ds p ⟨by omega,hpt⟩
 obtain ⟨hlt1,hlt2⟩:(lsT (r,ns,ds) p).1<ns.length∧(lsT (r,ns,ds) p).2.1≤2:=by
  obtain ⟨_,_,_,⟨rt,hrt⟩,_⟩:=hpt
  exact lst_lt (by unfold rtN;rw [hrt];exact fnd_lt hrt)
 have ht:=hpt.1
 have hl1:ns.length≤1000000:=ht.2.1
 have hl2:ds.length≤1000000:=ht.2.2
 have hR:putT (r,ns,ds) p w=(r,setN ns (lsT (r,ns,ds) p).1 (dgt p (lsT (r,ns,ds) p).2.1) w,ds):=rfl
 obtain ⟨⟨a,b,c⟩,hS⟩:∃ S,S=lsT (r,ns,ds) p:=⟨_,rfl⟩
 simp only [Int.toNat_natCast] at hla'
 rw [← hS] at hla' hlt1 hlt2 hR
 simp only at hla' hlt1 hlt2 hR
 have hdg':=hdg p b hp hlt2
 have hdl:=dgt_lt p b
 have haN:(a:Int)<(ns.length:Int):=by omega
 have hgn:=nrows_gi hlt1
 have hgnE:=nrows_gE hlt1
 have h8:(gn ns a).2.length=8:=(ht.1 _ (gn_mem hlt1)).1
 have hset:=@nrows_setN ns a (dgt p b) w hlt1
 have hwl:(wcs (gn ns a).2).length=8:=by simp [h8]
 obtain ⟨NS,hNS⟩:∃ NS,NS=setN ns a (dgt p b) w:=⟨_,rfl⟩
 have hNl:NS.length=ns.length:=by rw [hNS];simp
 rw [← hNS] at hset hR
 obtain ⟨⟨fr,ws⟩,hm⟩:∃ m,m=gn ns a:=⟨_,rfl⟩
 rw [← hm] at hgn hgnE hwl hset
 simp only at hgn hgnE hwl hset
 obtain ⟨cs,hcs⟩:∃ cs,cs=wcs ws:=⟨_,rfl⟩
 rw [← hcs] at hgn hgnE hwl hset
 obtain ⟨dg,hdg0⟩:∃ dg,dg=dgt p b:=⟨_,rfl⟩
 rw [← hdg0] at hdl hdg' hset
 have hdI:(dg:Int)<8:=by omega
 clear hcs hm h8 hS
 simp only [pMs,hR,hNl,stV,srow,U] at hla' hset ⊢
 show AW ⟨Try.prog,X,26,w0,⟨L,E,3⟩⟩ _ _ _
 have hc:Cx.OK ⟨Try.prog,X,26,w0,⟨L,E,3⟩⟩:=⟨hX,mixed⟩
 have zS:=jj hla'<|jj hdg'<|jj hlt1<|jj haN<|jj hgn<|jj hgnE<|jj hwl<|jj hdl<|jj hdI<|hset
 refine dM64 ?_
 repeat (intro K hK)
 clear zS
 refine ⟨[],rfl,?_⟩
 have hs1:(I fr::cs).set (1+dg) (AV.v (.int .u64 w))=I fr::cs.set dg (AV.v (.int .u64 w)):=by rw [Nat.add_comm];rfl
 rw [hs1,hset]
 simp only [idx]
 exact dle
end Go.AM
namespace Go.AM
open Go Go.Proofs
set_option maxHeartbeats 2000000 in
set_option maxRecDepth 4000 in
theorem callPu {a b c:Nat} (hab:a≠b) (hac:a≠c) (hbc:b≠c) {r:Int} {ns:NdL} {ds:List Dp} {p w:Nat} (h:ptO (r,ns,ds) p) (hw:w<2^64) {v v2:Nat} (M:Nat→AO) (nid:Nat)
  (h0:M a=.box [I r,.sl b (v+1) 9 0 ns.length,.sl c (v2+1) 2 0 ds.length]) (h1:M b=.vec (v+1) 9 false (nrows ns)) (h2:M c=.vec (v2+1) 2 false (prows ds)) :
  callG puS [.bp a 0,I p,U w] M nid=some (.tup [],[(a,.box [I r,.sl b (v+1) 9 0 ns.length,.sl c (v2+1) 2 0 ds.length]),(b,.vec (v+1) 9 false (nrows (putT (r,ns,ds) p w).2.1)),(c,.vec (v2+1) 2 false (prows ds))]):=by
 have hF:=puS_at h hw
 have e0:putT (r,ns,ds) p w=(r,(putT (r,ns,ds) p w).2.1,ds):=rfl
 have hil:(putT (r,ns,ds) p w).2.1.length=ns.length:=setN_len
 rw [e0] at hF
 simp only [pMs,hil,U] at hF
 unfold callG U
 have hba:b≠a:=fun e=>hab e.symm
 have hca:c≠a:=fun e=>hac e.symm
 have hcb:c≠b:=fun e=>hbc e.symm
 have hg:gat M 64 (nmsL [.bp a 0,I p,.v (.int .u64 w)]) []=[a,b,c]:=by
  simp [gat,nmsL,AV.nms,AO.nms,h0,h1,h2,hab,hac,hbc,hba,hca,hcb]
 simp only [hg]
 rw [if_pos ?cg]
 case cg=>simp [CallG,nmsL,AV.nms,AO.nms,Led,curBL,AV.curB,AO.curB,verOf,notDead,h0,h1,h2,hab,hac,hbc,hba,hca,hcb]
 have e1:1+v=v+1:=by omega
 have e2:1+v2=v2+1:=by omega
 simp [renL,AV.ren,AO.ren,posN,canO,nmsL,h0,h1,h2,hF,RetG,getL,AV.nms,AO.nms,updN,nmN,shN,verOf,rng,Led,hab,hac,hbc,hba,hca,hcb,e1,e2]
def stD (r:Int) (ds:List Dp) (p:Nat) (ns:NdL) (f:Int):NdL:=insK (setN ns (lsT (r,ns,ds) p).1 (dgt p (lsT (r,ns,ds) p).2.1) (f.toNat*256+4)) (f,zs8)
def dpN (r:Int) (ds:List Dp) (p:Nat) (ns:NdL) (fs:List Int):NdL:=fs.foldl (stD r ds p) ns
theorem setN_ok {ns:NdL} {n i w:Nat} (h:∀ x∈ns,ndOK x) (hw:w<2^64) (hn:n<ns.length):∀ x∈setN ns n i w,ndOK x:=fun x hx=>by
 rcases List.mem_or_eq_of_mem_set hx with h1|h1
 ·exact h x h1
 ·rw [h1]
  have hm:=h _ (gn_mem hn)
  refine ⟨by simp only [List.length_set];exact hm.1,fun y hy=>?_⟩
  rcases List.mem_or_eq_of_mem_set hy with h2|h2
  ·exact hm.2 y h2
  ·rw [h2];exact hw
end Go.AM
namespace Go.AM
open Go Go.Proofs
def orG (F G:List AV→List AO→Option (AV×List AO)) (avs:List AV) (ms:List AO):Option (AV×List AO):=match F avs ms with
 | some r=>some r
 | none=>G avs ms
theorem GSound.or {P:Program} {f:FuncId} {F G:List AV→List AO→Option (AV×List AO)} (h1:GSound P f F) (h2:GSound P f G):GSound P f (orG F G):=fun w l E args avs ms r ms' h=>by
 unfold orG at h
 cases hf:F avs ms with
 | some x=>rw [hf] at h;exact h1 w l E args avs ms r ms' (hf.trans h)
 | none=>rw [hf] at h;exact h2 w l E args avs ms r ms' h
end Go.AM
namespace Go.AM
open Go Go.Proofs
def usB (ns:NdL) (ds:List Dp) (fs:List Int):Bool:=(List.range fs.length).all fun i=>decide (0≤gi fs i∧gi fs i≤4294967295)&&(ns.all fun n=>decide (n.1≠gi fs i))&&((List.range ds.length).all fun k=>decide ((gp ds k).2≠gi fs i))&&(List.range i).all fun j=>decide (gi fs j≠gi fs i)
abbrev UsD:=Tb×List Int
end Go.AM
namespace Go.AM
open Go Go.Proofs
theorem decR_tw {g:Nat} (hg:g≤4294967295):decR (g*256+4)=((4,(g:Int),false,false,false,false),0):=by
 have hb:∀ j,3≤j→j<8→(g*256+4).testBit j=false:=fun j h1 h2=>by
  rw [Nat.testBit_eq_decide_div_mod_eq]
  rcases (by omega:j=3∨j=4∨j=5∨j=6∨j=7) with rfl|rfl|rfl|rfl|rfl
  all_goals exact decide_eq_false (by omega)
 have hp:prs (g*256+4)=(4,(g:Int),false,false,false,false):=by
  unfold prs
  rw [hb 3 (by omega) (by omega),hb 4 (by omega) (by omega),hb 5 (by omega) (by omega),hb 6 (by omega) (by omega)]
  rw [show (g*256+4)%8=4 by omega,show (g*256+4)/256%4294967296=g by omega]
  rfl
 have he:encR (4,(g:Int),false,false,false,false)=(((g*256+4:Nat):Int),0):=by
  rw [encR_z (by simp only;omega) (by unfold badF;simp only;omega) (by rfl)]
  unfold encW fb
  simp
  omega
 rw [decR_z (by rw [hp];exact he),hp]
theorem tabW_tw {g:Nat} (hg:g≤4294967295):tabW (g*256+4)=some (g:Int):=by unfold tabW;rw [decR_tw hg];rfl
theorem decR_0:decR 0=(zE,0):=by rfl
theorem wdZ (adm:Int→Bool):WdZ (WD adm) where
 ok:=fun l=>by show okWb l 0=true;unfold okWb;rw [decR_0];rfl
 tab:=by show tabW 0=none;unfold tabW;rw [decR_0];rfl
theorem kind0 {l w:Nat} (h:okWb l w=true):(decR w).1.1=0↔w=0:=by
 constructor
 ·intro h0
  unfold okWb at h
  simp only [Bool.and_eq_true,decide_eq_true_eq] at h
  by_cases he:encR (prs w)=((w:Int),0)
  ·rw [decR_z he] at h0
   simp only at h0
   by_cases hb:badF (prs w)
   ·rw [encR_f (by rw [h0];decide) hb] at he;simp at he
   ·cases hf:frmE (prs w) with
    | false=>rw [encR_m (by rw [h0];decide) hb hf] at he;simp at he
    | true =>
     rw [encR_z (by rw [h0];decide) hb hf] at he
     simp only [Prod.mk.injEq,and_true] at he
     unfold frmE noFl at hf
     rw [if_neg (by rw [h0];decide),if_neg (by rw [h0];decide),if_pos h0] at hf
     simp only [Bool.and_eq_true,decide_eq_true_eq,Bool.not_eq_true'] at hf
     unfold encW fb at he
     rw [h0,hf.1,hf.2.1,hf.2.2.1,hf.2.2.2.1,hf.2.2.2.2] at he
     simp at he
     omega
  ·rw [decR_n he] at h
   simp at h
 ·rintro rfl
  rw [decR_0];rfl
section
variable {M:Mm} {root:Int} {p:Nat}
theorem dgt2 (hp:p<512):dgt p 2=p/64:=by unfold dgt;simp;omega
theorem dgt1:dgt p 1=p/8%8:=by unfold dgt;simp
theorem dgt0:dgt p 0=p%8:=by unfold dgt;simp
theorem wlk_at (hV:VM WA M root) (hp:p<512) {f:Int} {l w:Nat} (h:wlk M root p=(f,l,w)) :
  l≤2∧(2 - l,p/8^(l+1))∈Pos∧frP WA M root (2 - l) (p/8^(l+1))=some f∧w=wM M f (dgt p l)∧tabW w=none∧okWb l w=true:=by
 have hok:∀ d q,(d,q)∈Pos→∀ f,frP WA M root d q=some f→∀ i,i<8→okWb (2 - d) (wM M f i)=true:=fun d q hx f hf i hi=>by
  obtain ⟨ws,h1,_,h3⟩:=hV.nd d q hx f hf
  unfold wM;rw [h1];exact h3 i hi
 have f1:frP WA M root 1 (p/64)=tabW (wM M root (p/64)):=by
  simp only [frP,Option.bind_some]
  rw [show p/64%8=p/64 by omega]
  rfl
 have f2:frP WA M root 2 (p/8)=(frP WA M root 1 (p/64)).bind fun f=>tabW (wM M f (p/8%8)):=by
  show (frP WA M root 1 (p/8/8)).bind _=_
  rw [show p/8/8=p/64 by omega]
  rfl
 unfold wlk at h
 cases h2:frP WA M root 2 (p/8) with
 | some g =>
  rw [h2] at h
  simp only [Prod.mk.injEq] at h
  obtain ⟨rfl,rfl,rfl⟩:=h
  have hx:=Pos2 (q:=p/8) (by omega)
  have ho:=hok 2 _ hx _ h2 (p%8) (by omega)
  refine ⟨by omega,by simpa using hx,by simpa using h2,by rw [dgt0],?_,ho⟩
  exact (WD_ok fun _=>true).flat _ ho
 | none =>
  rw [h2] at h f2
  simp only at h
  cases h1:frP WA M root 1 (p/64) with
  | some g =>
   rw [h1] at h f2
   simp only [Prod.mk.injEq] at h
   obtain ⟨rfl,rfl,rfl⟩:=h
   have hx:=Pos1 (q:=p/64) (by omega)
   have ho:=hok 1 _ hx _ h1 (p/8%8) (by omega)
   exact ⟨by omega,by simpa using hx,by simpa using h1,by rw [dgt1],f2.symm,ho⟩
  | none =>
   rw [h1] at h f1
   simp only [Prod.mk.injEq] at h
   obtain ⟨rfl,rfl,rfl⟩:=h
   have ho:=hok 0 0 Pos0 _ rfl (p/64) (by omega)
   refine ⟨by omega,by simp;rw [show p/512=0 by omega];exact Pos0,by simp [frP],by rw [dgt2 hp],f1.symm,ho⟩
theorem wlk_of (hp:p<512) {f:Int} {l:Nat} (hl:l≤2) (h:frP WA M root (2 - l) (p/8^(l+1))=some f) (h2:tabW (wM M f (dgt p l))=none∨l=0):wlk M root p=(f,l,wM M f (dgt p l)):=by
 have f2:frP WA M root 2 (p/8)=(frP WA M root 1 (p/64)).bind fun f=>tabW (wM M f (p/8%8)):=by
  show (frP WA M root 1 (p/8/8)).bind _=_
  rw [show p/8/8=p/64 by omega]
  rfl
 have f1:frP WA M root 1 (p/64)=tabW (wM M root (p/64)):=by
  simp only [frP,Option.bind_some]
  rw [show p/64%8=p/64 by omega]
  rfl
 unfold wlk
 rcases (by omega:l=0∨l=1∨l=2) with rfl|rfl|rfl
 ·simp at h
  rw [h];simp [dgt0]
 ·simp at h
  rw [dgt1] at h2
  have h2:=h2.resolve_right (by omega)
  rw [h,Option.bind_some,h2] at f2
  rw [f2,h];simp [dgt1]
 ·simp [frP] at h
  subst h
  rw [dgt2 hp] at h2
  have h2:=h2.resolve_right (by omega)
  rw [h2] at f1
  rw [f1] at f2
  rw [f2,f1];simp [dgt2 hp]
end
theorem Mof_ext {a b:Mm} (h:∀ g,a g=b g):a=b:=funext h
end Go.AM
namespace Go.AM
open Go Go.Proofs
def TbC (t:Tb) (n:Nat):AV:=.agg [I t.1,.sl n 1 9 0 t.2.1.length,.sl (n+1) 1 2 0 t.2.2.length]
def zT:Tb:=(0,[],[])
noncomputable def setP (t:Tb) (p:Int) (w:Nat) (fs:List Int):Tb×Int :=
 if ckd t p 512≠0 then (zT,ckd t p 512)
 else if (decR w).2≠0∨(decR w).1.1=0∨(decR w).1.1=4∨(decR w).1.2.2.2.2.2=true then (zT,3)
 else if (lsT t p.toNat).2.2≠0 then (zT,7)
 else if fs.length=(lsT t p.toNat).2.1∧usB t.2.1 t.2.2 fs=true then (putT (t.1,dpN t.1 t.2.2 p.toNat t.2.1 fs,t.2.2) p.toNat w,0)
 else (zT,1)
theorem ckd_pt {t:Tb} (ht:tbOK t) {n lim:Int} (h:¬ ckd t n lim≠0):Pv t∧0≤n∧n<lim:=by
 rcases ckd_cases t n lim with h1|h1
 ·exact absurd h1 h
 ·exact ⟨chk_pv ht h1.2.1,h1.2.2⟩
abbrev StD:=Tb×Int×Nat×List Int
def stOK (x:StD):Prop:=tbOK x.1∧x.1.2.1.length≤999000∧x.2.2.1<2^64∧x.2.2.2.length≤1000
end Go.AM
namespace Go.AM
open Go Go.Proofs
theorem decR_rng (w:Nat):0≤(decR w).1.2.1∧(decR w).1.2.1≤4294967295:=by
 unfold decR
 split
 ·exact (prs_rng w).2
 ·decide
end Go.AM
