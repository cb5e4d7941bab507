/- A part of the proof: what functions of the program compute, by abstract execution of their code. Its theorems hold without further condition. -/
import Derived.Test.YtcfhmdljeeppfaaTPtC
import Derived.Test.YtcfhmdljeeppfaaAmQ
import Derived.Test.YtcfhmdljeeppfaaAmZa
import Derived.Maps.RangeRun
set_option linter.all false
namespace Go.AM
open Go Go.Proofs
theorem lsA_0 (t:Tb):lsA t 0=[]:=rfl
attribute [local irreducible] lsA
set_option maxHeartbeats 8000000 in
theorem s29 (X:AX) (hX:XOK Try.prog X) (hw:X.W wT) (hch:∀ t:Tb,tbOK t→∀ M n,X.call 28 [TbV t] M n=some (I (chk t),[]))
  (hla:∀ (t:Tb) (p:Nat),ptO t p→∀ M n,X.call 72 [TbV t,I p] M n=some (stV (lsT t p),[])) :
  PSound Try.prog 29 (specF (ι:={x:Tb // tbOK x}) (fun x=>[TbV x.1]) fun x=>retOf [.ow 2 (erows (lstT x.1))]):=by
 refine psound_spec hX mixed Try.func29 rfl fun ⟨⟨r,ns,ds⟩,ht⟩ w0 G=>⟨by show 1≤36;decide,rfl,?_⟩
 show AW ⟨Try.prog,X,36,w0,.pure G⟩ _ _ _
 have hc:Cx.OK ⟨Try.prog,X,36,w0,.pure G⟩:=⟨hX,mixed⟩
 simp only at ht ⊢
 have hl1:ns.length≤1000000:=ht.2.1
 have hl2:ds.length≤1000000:=ht.2.2
 have hch':=hch _ ht
 rcases Decidable.em (chk (r,ns,ds)=0) with hc0|hc0
 ·have e:lstT (r,ns,ds)=lsA (r,ns,ds) 512:=by unfold lstT;rw [if_pos hc0]
  have hpv:=chk_pv ht hc0
  have hla':=fun p hp=>hla _ p (hpv.pto ht (p:=p) hp)
  rw [e]
  rw [hc0] at hch'
  simp only [TbV] at hch' hla' ⊢
  have h00:0%8^(lsT (r,ns,ds) 0).2.1=0:=Nat.zero_mod _
  have zS:=hch'
  repeat' (first|(apply aw_seq_k;intro K hK)|(refine eM64 ?_)|(refine aw_cond (b:=_) (by exact rfl) (fun h=>?_) (fun h=>?_)<;>(try simp at h))|(refine eB ?_)|(refine hK _ ?_;clear hK)|(clear hK;refine hK _ ?_;clear hK)|(clear hK;clear hK;refine hK _ ?_;clear hK)|(clear hK;clear hK;clear hK;refine hK _ ?_;clear hK))
  all_goals clear zS
  refine aw_weaken (le_nilslot (t:=3) (sz:=2) (by simp)) ?_
  refine aw_loopK (s0:=?lps1) (m0:=?lpm1) (ι:={p:Nat // p≤512∧(p<512→p%8^(lsT (r,ns,ds) p).2.1=0)}) [1] (fun s=>[(4,I s.1),(3,.sl 112 1 2 0 (lsA (r,ns,ds) s.1).length)]) (fun s=>[(112,.vec 1 2 false (erows (lsA (r,ns,ds) s.1)))]) (fun s=>512 - s.1) ⟨0,by omega,fun _=>h00⟩ ?lhs1 ?lhm1 ?_ ?_
  case lhs1=>first|(simp [keepS];done)|(simp [keepS];rfl)
  case lhm1=>first|rfl|(simp;done)|(simp;rfl)
  ·simp only [lsA_0]
   exact le_of2 (by simp) (by simp [AVle,AV.under,AV.underL,erows]<;>omega) (by simp [AOle,AO.under,AV.underL,AV.under,erows]<;>omega)
  ·rintro ⟨p,hp,hal⟩
   simp only
   rcases Decidable.em (p<512) with hil|hil
   ·have hilI:(p:Int)<512:=by omega
    have hal:=hal hil
    have hla2:=hla' p hil
    have hlt2:=(lsT_lt hpv hil).2
    obtain ⟨⟨a,l,w⟩,hS⟩:∃ S,S=lsT (r,ns,ds) p:=⟨_,rfl⟩
    have hl2:(lsT (r,ns,ds) p).2=(l,w):=by rw [← hS]
    rw [← hS] at hal hla2 hlt2
    simp only at hal hlt2
    have hst:=lsA_step hpv hil hl2 hal
    have hnx:p+8^l<512→(p+8^l)%8^(lsT (r,ns,ds) (p+8^l)).2.1=0:=fun h=>lev_next hpv hil hl2 hal h
    have hAl:=@lsA_le (r,ns,ds) p
    have hp8:p+8^l≤512:=by
     rcases (by omega:l=0∨l=1∨l=2) with rfl|rfl|rfl<;>simp at hal ⊢<;>omega
    obtain ⟨A,hA⟩:∃ A,A=lsA (r,ns,ds) p:=⟨_,rfl⟩
    rw [← hA] at hst hAl ⊢
    clear hS
    have htk:=erows_tkl A
    have hap:=erows_ap A p w
    simp only [stV,srow,U] at hla2
    rcases Decidable.em (w=0) with hw0|hw0
    ·subst hw0
     rw [if_neg (by simp),List.append_nil] at hst
     rcases (by omega:l=0∨l=1∨l=2) with rfl|rfl|rfl
     ·simp only [show 8^0=1 from rfl] at hst hnx hp8
      have zS:=jj hilI<|hla2
      repeat' (first|(apply aw_seq_k;intro K hK)|(refine eM64 ?_)|(refine aw_cond (b:=_) (by exact rfl) (fun h=>?_) (fun h=>?_)<;>(try simp at h))|(refine eB ?_)|(refine hK _ ?_;clear hK)|(clear hK;refine hK _ ?_;clear hK)|(clear hK;clear hK;refine hK _ ?_;clear hK)|(clear hK;clear hK;clear hK;refine hK _ ?_;clear hK))
      all_goals clear zS
      refine aw_rounds 1 (aw_round ?_)
      repeat' (first|(apply aw_seq_k;intro K hK)|(refine eM64o ?_)|(refine aw_cond (b:=_) (by exact rfl) (fun h=>?_) (fun h=>?_)<;>(try simp at h))|(refine eB ?_)|(refine hK _ ?_;clear hK)|(clear hK;refine hK _ ?_;clear hK)|(clear hK;clear hK;refine hK _ ?_;clear hK)|(clear hK;clear hK;clear hK;refine hK _ ?_;clear hK))
      refine ⟨p+1,?_,⟨hp8,hnx⟩,by omega⟩
      simp only [hst]
      exact dle
     ·simp only [show 8^1=8 from rfl] at hst hnx hp8
      have zS:=jj hilI<|hla2
      repeat' (first|(apply aw_seq_k;intro K hK)|(refine eM64 ?_)|(refine aw_cond (b:=_) (by exact rfl) (fun h=>?_) (fun h=>?_)<;>(try simp at h))|(refine eB ?_)|(refine hK _ ?_;clear hK)|(clear hK;refine hK _ ?_;clear hK)|(clear hK;clear hK;refine hK _ ?_;clear hK)|(clear hK;clear hK;clear hK;refine hK _ ?_;clear hK))
      all_goals clear zS
      refine aw_rounds 2 (aw_round ?_)
      repeat' (first|(apply aw_seq_k;intro K hK)|(refine eM64o ?_)|(refine aw_cond (b:=_) (by exact rfl) (fun h=>?_) (fun h=>?_)<;>(try simp at h))|(refine eB ?_)|(refine hK _ ?_;clear hK)|(clear hK;refine hK _ ?_;clear hK)|(clear hK;clear hK;refine hK _ ?_;clear hK)|(clear hK;clear hK;clear hK;refine hK _ ?_;clear hK))
      refine ⟨p+8,?_,⟨hp8,hnx⟩,by omega⟩
      simp only [hst]
      exact dle
     ·simp only [show 8^2=64 from rfl] at hst hnx hp8
      have zS:=jj hilI<|hla2
      repeat' (first|(apply aw_seq_k;intro K hK)|(refine eM64 ?_)|(refine aw_cond (b:=_) (by exact rfl) (fun h=>?_) (fun h=>?_)<;>(try simp at h))|(refine eB ?_)|(refine hK _ ?_;clear hK)|(clear hK;refine hK _ ?_;clear hK)|(clear hK;clear hK;refine hK _ ?_;clear hK)|(clear hK;clear hK;clear hK;refine hK _ ?_;clear hK))
      all_goals clear zS
      refine aw_rounds 3 (aw_round ?_)
      repeat' (first|(apply aw_seq_k;intro K hK)|(refine eM64o ?_)|(refine aw_cond (b:=_) (by exact rfl) (fun h=>?_) (fun h=>?_)<;>(try simp at h))|(refine eB ?_)|(refine hK _ ?_;clear hK)|(clear hK;refine hK _ ?_;clear hK)|(clear hK;clear hK;refine hK _ ?_;clear hK)|(clear hK;clear hK;clear hK;refine hK _ ?_;clear hK))
      refine ⟨p+64,?_,⟨hp8,hnx⟩,by omega⟩
      simp only [hst]
      exact dle
    ·rw [if_pos hw0] at hst
     rw [← hst] at hap
     have hlen:A.length+1=(lsA (r,ns,ds) (p+8^l)).length:=by rw [hst];simp
     rcases (by omega:l=0∨l=1∨l=2) with rfl|rfl|rfl
     ·simp only [show 8^0=1 from rfl] at hst hnx hp8 hap hlen
      have zS:=jj hilI<|jj hla2<|jj hw0<|jj htk<|jj hap<|hAl
      repeat' (first|(apply aw_seq_k;intro K hK)|(refine eM64 ?_)|(refine aw_cond (b:=_) (by exact rfl) (fun h=>?_) (fun h=>?_)<;>(try simp at h))|(refine eB ?_)|(refine hK _ ?_;clear hK)|(clear hK;refine hK _ ?_;clear hK)|(clear hK;clear hK;refine hK _ ?_;clear hK)|(clear hK;clear hK;clear hK;refine hK _ ?_;clear hK))
      all_goals clear zS
      refine aw_rounds 1 (aw_round ?_)
      repeat' (first|(apply aw_seq_k;intro K hK)|(refine eM64o ?_)|(refine aw_cond (b:=_) (by exact rfl) (fun h=>?_) (fun h=>?_)<;>(try simp at h))|(refine eB ?_)|(refine hK _ ?_;clear hK)|(clear hK;refine hK _ ?_;clear hK)|(clear hK;clear hK;refine hK _ ?_;clear hK)|(clear hK;clear hK;clear hK;refine hK _ ?_;clear hK))
      refine ⟨p+1,?_,⟨hp8,hnx⟩,by omega⟩
      simp only [hlen]
      refine le_turn (s1:=?tus2) (m1:=?tum2) [] [4,3,1] [0,112] ?tua2 ?tub2 ?tuc2 ?tud2 ?tue2 ?tuf2 ?tug2
      case tua2=>first|(simp [keepS];done)|(simp [keepS];rfl)
      case tub2=>first|(simp;done)|(simp;rfl)
      case tuc2=>simp
      case tud2=>simp
      case tue2=>simp
      case tuf2=>simp
      case tug2 =>
       simp [swp,vr]
       exact dle
     ·simp only [show 8^1=8 from rfl] at hst hnx hp8 hap hlen
      have zS:=jj hilI<|jj hla2<|jj hw0<|jj htk<|jj hap<|hAl
      repeat' (first|(apply aw_seq_k;intro K hK)|(refine eM64 ?_)|(refine aw_cond (b:=_) (by exact rfl) (fun h=>?_) (fun h=>?_)<;>(try simp at h))|(refine eB ?_)|(refine hK _ ?_;clear hK)|(clear hK;refine hK _ ?_;clear hK)|(clear hK;clear hK;refine hK _ ?_;clear hK)|(clear hK;clear hK;clear hK;refine hK _ ?_;clear hK))
      all_goals clear zS
      refine aw_rounds 2 (aw_round ?_)
      repeat' (first|(apply aw_seq_k;intro K hK)|(refine eM64o ?_)|(refine aw_cond (b:=_) (by exact rfl) (fun h=>?_) (fun h=>?_)<;>(try simp at h))|(refine eB ?_)|(refine hK _ ?_;clear hK)|(clear hK;refine hK _ ?_;clear hK)|(clear hK;clear hK;refine hK _ ?_;clear hK)|(clear hK;clear hK;clear hK;refine hK _ ?_;clear hK))
      refine ⟨p+8,?_,⟨hp8,hnx⟩,by omega⟩
      simp only [hlen]
      refine le_turn (s1:=?tus3) (m1:=?tum3) [] [4,3,1] [0,112] ?tua3 ?tub3 ?tuc3 ?tud3 ?tue3 ?tuf3 ?tug3
      case tua3=>first|(simp [keepS];done)|(simp [keepS];rfl)
      case tub3=>first|(simp;done)|(simp;rfl)
      case tuc3=>simp
      case tud3=>simp
      case tue3=>simp
      case tuf3=>simp
      case tug3 =>
       simp [swp,vr]
       exact dle
     ·simp only [show 8^2=64 from rfl] at hst hnx hp8 hap hlen
      have zS:=jj hilI<|jj hla2<|jj hw0<|jj htk<|jj hap<|hAl
      repeat' (first|(apply aw_seq_k;intro K hK)|(refine eM64 ?_)|(refine aw_cond (b:=_) (by exact rfl) (fun h=>?_) (fun h=>?_)<;>(try simp at h))|(refine eB ?_)|(refine hK _ ?_;clear hK)|(clear hK;refine hK _ ?_;clear hK)|(clear hK;clear hK;refine hK _ ?_;clear hK)|(clear hK;clear hK;clear hK;refine hK _ ?_;clear hK))
      all_goals clear zS
      refine aw_rounds 3 (aw_round ?_)
      repeat' (first|(apply aw_seq_k;intro K hK)|(refine eM64o ?_)|(refine aw_cond (b:=_) (by exact rfl) (fun h=>?_) (fun h=>?_)<;>(try simp at h))|(refine eB ?_)|(refine hK _ ?_;clear hK)|(clear hK;refine hK _ ?_;clear hK)|(clear hK;clear hK;refine hK _ ?_;clear hK)|(clear hK;clear hK;clear hK;refine hK _ ?_;clear hK))
      refine ⟨p+64,?_,⟨hp8,hnx⟩,by omega⟩
      simp only [hlen]
      refine le_turn (s1:=?tus4) (m1:=?tum4) [] [4,3,1] [0,112] ?tua4 ?tub4 ?tuc4 ?tud4 ?tue4 ?tuf4 ?tug4
      case tua4=>first|(simp [keepS];done)|(simp [keepS];rfl)
      case tub4=>first|(simp;done)|(simp;rfl)
      case tuc4=>simp
      case tud4=>simp
      case tue4=>simp
      case tuf4=>simp
      case tug4 =>
       simp [swp,vr]
       exact dle
   ·obtain rfl:p=512:=by omega
    have htk:=erows_tkl (lsA (r,ns,ds) 512)
    obtain ⟨A,hA⟩:∃ A,A=lsA (r,ns,ds) 512:=⟨_,rfl⟩
    rw [← hA] at htk ⊢
    repeat' (first|(apply aw_seq_k;intro K hK)|(refine eM64o ?_)|(refine aw_cond (b:=_) (by exact rfl) (fun h=>?_) (fun h=>?_)<;>(try simp at h))|(refine eB ?_)|(refine hK _ ?_;clear hK)|(clear hK;refine hK _ ?_;clear hK)|(clear hK;clear hK;refine hK _ ?_;clear hK)|(clear hK;clear hK;clear hK;refine hK _ ?_;clear hK))
    refine ⟨by simp,?_⟩
    simp [leaves_iff,Try.f29,htk]
    try exact dt
    rw [hA]
 ·have e:lstT (r,ns,ds)=[]:=by unfold lstT;rw [if_neg hc0]
  rw [e]
  obtain ⟨c,hcc⟩:∃ c,c=chk (r,ns,ds):=⟨_,rfl⟩
  rw [← hcc] at hch' hc0
  simp only [TbV] at hch' ⊢
  have zS:=jj hch'<|hc0
  refine dM64 ?_
  repeat (intro K hK)
  clear zS
  refine ⟨by simp,?_⟩
  simp [leaves_iff,Try.f29,erows]
  try exact dt
end Go.AM
namespace Go.AM
open Go Go.Proofs
attribute [local irreducible] lsA
end Go.AM
namespace Go.AM
open Go Go.Proofs
def numC (t:Tb):Bool :=
 decide (∀ n∈t.2.1,frmN n.1)&&(decide (∀ d∈t.2.2,frmN d.2∧0≤d.1∧d.1<64)&&(decide (t.2.1.Pairwise fun a b=>a.1<b.1)&&(decide (t.2.2.Pairwise fun a b=>a.1<b.1) &&
 (decide (∀ d∈t.2.2,∀ n∈t.2.1,n.1≠d.2)&&(decide (t.2.2.Pairwise fun a b=>a.2≠b.2)&&decide (∃ n∈t.2.1,n.1=t.1))))))
def chkC (t:Tb):Bool:=numC t&&decide ((wkA t).1=true∧false ∉ (wkA t).2.1∧(wkA t).2.2=t.2.2.map (·.1))
def hT:Tb:=(10,[(10,[0,2820,0,0,0,0,0,0]),(11,[0,4201,0,0,0,0,0,0])],[(9,12)])
theorem hC:chkC hT=true:=by kernel_rfl
end Go.AM
namespace Go.AM
open Go Go.Proofs
noncomputable def FbF:List AV→Option AV:=specF (ι:=Bool×Int) (fun x=>[B x.1,U x.2]) fun x=>retOf [U (fb x.1 x.2)]
theorem cFb (b:Bool) (c:Int) (M:Nat→AO) (n:Nat):callP FbF [B b,.v (.int .u64 c)] M n=some (.v (.int .u64 (fb b c)),[]) :=
 callP_spec (ι:=Bool×Int) (A:=fun x=>[B x.1,U x.2]) (R:=fun x=>retOf [U (fb x.1 x.2)]) (b,c) (by simp [U]) (by
  rintro ⟨b',c'⟩ e
  simp [B,U] at e;obtain ⟨rfl,rfl⟩:=e;rfl) (by simp [U])
noncomputable def FmF:List AV→Option AV:=specF (ι:={e:En // 0≤e.1∧e.1≤4}) (fun x=>[EnV x.1]) fun x=>retOf [B (frmE x.1)]
theorem cFm (k f:Int) (d a x h:Bool) (hk:0≤k∧k≤4) (M:Nat→AO) (n:Nat):callP FmF [.agg [I k,I f,B d,B a,B x,B h]] M n=some (B (frmE (k,f,d,a,x,h)),[]) :=
 callP_spec (ι:={e:En // 0≤e.1∧e.1≤4}) (A:=fun x=>[EnV x.1]) (R:=fun x=>retOf [B (frmE x.1)]) ⟨(k,f,d,a,x,h),hk⟩ (by simp [EnV]) (by
  rintro ⟨e',h'⟩ e
  simp only [List.cons.injEq,EnV_inj,and_true] at e;subst e;rfl) (by simp)
noncomputable def EncF:List AV→Option AV:=specF (ι:=En) (fun x=>[EnV x]) fun x=>retOf [U (encR x).1,I (encR x).2]
theorem cEn (k f:Int) (d a x h:Bool) (M:Nat→AO) (n:Nat):callP EncF [.agg [I k,I f,B d,B a,B x,B h]] M n=some (.tup [U (encR (k,f,d,a,x,h)).1,I (encR (k,f,d,a,x,h)).2],[]) :=
 callP_spec (ι:=En) (A:=fun x=>[EnV x]) (R:=fun x=>retOf [U (encR x).1,I (encR x).2]) (k,f,d,a,x,h) (by simp [EnV]) (by
  rintro e' e
  simp only [List.cons.injEq,EnV_inj,and_true] at e;subst e;rfl) (by simp [U])
noncomputable def DecF:List AV→Option AV:=specF (ι:={n:Nat // n<2^64}) (fun x=>[U x.1]) fun x=>retOf [EnV (decR x.1).1,I (decR x.1).2]
theorem u_inj {a b:Nat} (h:[U a]=[U b]):a=b:=by
 simp only [List.cons.injEq,U,AV.v.injEq,Value.int.injEq,true_and,and_true] at h;omega
theorem cDe (w:Nat) (hw:w<2^64) (M:Nat→AO) (n:Nat):callP DecF [U w] M n=some (.tup [EnV (decR w).1,I (decR w).2],[]) :=
 callP_spec (ι:={n:Nat // n<2^64}) (A:=fun x=>[U x.1]) (R:=fun x=>retOf [EnV (decR x.1).1,I (decR x.1).2]) ⟨w,hw⟩ (by simp [U]) (by
  rintro ⟨w',h'⟩ e
  have:=u_inj e
  simp only at this
  subst this;rfl) (by simp [EnV])
noncomputable def Te0:AX:=(((((AX.start wT).eqAt 65).eqAt 102).eqAt 63).eqAt 52).eqAt 54
theorem w0T:Te0.W wT:=⟨rfl,rfl⟩
theorem enc_flat (x:En):(retOf [U (encR x).1,I (encR x).2]).flat:=by simp [retOf,AV.flat,AV.flatV,AV.flat1,U]
theorem dec_flat (n:Nat):(retOf [EnV (decR n).1,I (decR n).2]).flat:=by simp [retOf,AV.flat,AV.flatV,AV.flat1,EnV]
end Go.AM
namespace Go.AM
open Go Go.Proofs
theorem srow_pl {l:List Stp}:∀ e∈srows l,∀ a∈e,a.plain:=by
 intro e he a ha
 obtain ⟨x,_,rfl⟩:=List.mem_map.1 he
 simp [srow] at ha
 rcases ha with rfl|rfl|rfl<;>trivial
theorem erow_pl {l:List Pe}:∀ e∈erows l,∀ a∈e,a.plain:=by
 intro e he a ha
 obtain ⟨x,_,rfl⟩:=List.mem_map.1 he
 simp [erow] at ha
 rcases ha with rfl|rfl<;>trivial
theorem mem_mset:∀ {l:List (List Int×AV)} {q:List Int} {b:AV} {p:List Int×AV},p∈mset l q b→p∈l∨p=(q,b)
 | [],q,b,p,h=>by simp [mset] at h;exact .inr h
 | (k,a)::r,q,b,p,h=>by
  simp only [mset] at h
  split at h
  ·rcases List.mem_cons.1 h with h|h
   ·exact .inr h
   ·exact .inl (by simp [h])
  ·rcases List.mem_cons.1 h with h|h
   ·exact .inl (by simp [h])
   ·rcases mem_mset h with h|h
    ·exact .inl (by simp [h])
    ·exact .inr h
theorem idxE_pl {ns:List Nd}:∀ {n:Nat},∀ p∈idxE ns n,p.2.plain
 | 0,p,h=>by simp [idxE] at h
 | n+1,p,h=>by
  simp only [idxE] at h
  rcases mem_mset h with h|h
  ·exact idxE_pl p h
  ·rw [h];trivial
theorem cT1 {D:Tb→Prop} {R:Tb→AV} {t:Tb} (h:D t) (M:Nat→AO) (n:Nat) {a:AV} {u:List (Nat×AO)} {k:Nat} (ho:openRet n (R t)=(a,u,k)) (hk:k≤n+16):callP (specF (ι:={x:Tb // D x}) (fun x=>[TbV x.1]) fun x=>R x.1) [TbV t] M n=some (a,u):=by
 rw [callP_spec (ι:={x:Tb // D x}) (A:=fun x=>[TbV x.1]) (R:=fun x=>R x.1) ⟨t,h⟩ (by simp [TbV]) ?_ (by rw [ho];exact hk),ho]
 rintro ⟨j,hj⟩ e
 simp only [List.cons.injEq,TbV_inj,and_true] at e
 subst e;rfl
theorem cT3 {D:Tb→Nat→Prop} {R:Tb→Nat→AV} {t:Tb} {x:Nat} (h:D t x) (M:Nat→AO) (n:Nat) {a:AV} {u:List (Nat×AO)} {k:Nat} (ho:openRet n (R t x)=(a,u,k)) (hk:k≤n+16):callP (specF (ι:={x:Tb×Nat // D x.1 x.2}) (fun x=>[TbV x.1.1,I x.1.2]) fun x=>R x.1.1 x.1.2) [TbV t,I x] M n=some (a,u):=by
 rw [callP_spec (ι:={x:Tb×Nat // D x.1 x.2}) (A:=fun x=>[TbV x.1.1,I x.1.2]) (R:=fun x=>R x.1.1 x.1.2) ⟨(t,x),h⟩ (by simp [TbV]) ?_ (by rw [ho];exact hk),ho]
 rintro ⟨⟨j,y⟩,hj⟩ e
 simp only [List.cons.injEq,TbV_inj,I,AV.v.injEq,Value.int.injEq,true_and,and_true,Int.ofNat_inj] at e
 obtain ⟨rfl,rfl⟩:=e;rfl
end Go.AM
namespace Go.AM
open Go Go.Proofs
set_option maxRecDepth 4000
noncomputable def EtF:List AV→Option AV:=specF (ι:={n:Nat // n<2^64}) (fun x=>[U x.1]) fun x=>retOf [EnV (decR x.1).1]
theorem cEt (w:Nat) (hw:w<2^64) (M:Nat→AO) (n:Nat):callP EtF [U w] M n=some (EnV (decR w).1,[]) :=
 callP_spec (ι:={n:Nat // n<2^64}) (A:=fun x=>[U x.1]) (R:=fun x=>retOf [EnV (decR x.1).1]) ⟨w,hw⟩ (by simp [U]) (by
  rintro ⟨w',h'⟩ e
  have:=u_inj e
  simp only at this
  subst this;rfl) (by simp [EnV])
noncomputable def IfF:List AV→Option AV:=specF (ι:=Int) (fun x=>[I x]) fun x=>retOf [B (decide (0≤x∧x≤4294967295))]
theorem cIf (x:Int) (M:Nat→AO) (n:Nat):callP IfF [I x] M n=some (B (decide (0≤x∧x≤4294967295)),[]) :=
 callP_spec (ι:=Int) (A:=fun x=>[I x]) (R:=fun x=>retOf [B (decide (0≤x∧x≤4294967295))]) x (by simp) (by
  intro j e
  simp at e;subst e;rfl) (by simp)
noncomputable def DigF:List AV→Option AV:=specF (ι:={x:Nat×Nat // x.1<512∧x.2≤2}) (fun x=>[I x.1.1,I x.1.2]) fun x=>retOf [I (dig x.1.1 x.1.2)]
theorem cDig (p l:Nat) (h1:p<512) (h2:l≤2) (M:Nat→AO) (n:Nat):callP DigF [I p,I l] M n=some (I (dig p l),[]) :=
 callP_spec (ι:={x:Nat×Nat // x.1<512∧x.2≤2}) (A:=fun x=>[I x.1.1,I x.1.2]) (R:=fun x=>retOf [I (dig x.1.1 x.1.2)]) ⟨(p,l),h1,h2⟩ (by simp) (by
  rintro ⟨⟨p',l'⟩,h'⟩ e
  simp only [List.cons.injEq,I,AV.v.injEq,Value.int.injEq,true_and,and_true,Int.ofNat_inj] at e
  obtain ⟨rfl,rfl⟩:=e;rfl) (by simp)
noncomputable def DgtF:List AV→Option AV:=specF (ι:={x:Nat×Nat // x.1<512∧x.2≤2}) (fun x=>[I x.1.1,I x.1.2]) fun x=>retOf [I (dgt x.1.1 x.1.2)]
theorem cDgt (p l:Nat) (h1:p<512) (h2:l≤2) (M:Nat→AO) (n:Nat):callP DgtF [I p,I l] M n=some (I (dgt p l),[]) :=
 callP_spec (ι:={x:Nat×Nat // x.1<512∧x.2≤2}) (A:=fun x=>[I x.1.1,I x.1.2]) (R:=fun x=>retOf [I (dgt x.1.1 x.1.2)]) ⟨(p,l),h1,h2⟩ (by simp) (by
  rintro ⟨⟨p',l'⟩,h'⟩ e
  simp only [List.cons.injEq,I,AV.v.injEq,Value.int.injEq,true_and,and_true,Int.ofNat_inj] at e
  obtain ⟨rfl,rfl⟩:=e;rfl) (by simp)
noncomputable def SuF:List AV→Option AV:=specF (ι:=En×Nat) (fun x=>[EnV x.1,I x.2]) fun x=>retOf [B (suitB x.1 x.2)]
theorem cSu (e:En) (l:Nat) (M:Nat→AO) (n:Nat):callP SuF [EnV e,I l] M n=some (B (suitB e l),[]) :=
 callP_spec (ι:=En×Nat) (A:=fun x=>[EnV x.1,I x.2]) (R:=fun x=>retOf [B (suitB x.1 x.2)]) (e,l) (by simp [EnV]) (by
  rintro ⟨e',l'⟩ e
  simp only [List.cons.injEq,EnV_inj,I,AV.v.injEq,Value.int.injEq,true_and,and_true,Int.ofNat_inj] at e
  obtain ⟨rfl,rfl⟩:=e;rfl) (by simp)
noncomputable def IxF:List AV→Option AV:=specF (ι:={x:Tb // tbOK x}) (fun x=>[TbV x.1]) fun x=>retOf [.om 1 (idxE x.1.2.1 x.1.2.1.length)]
theorem cIx (t:Tb) (ht:tbOK t) (M:Nat→AO) (n:Nat):callP IxF [TbV t] M n=some (.mp n 1,[(n,.map 1 1 (idxE t.2.1 t.2.1.length))]):=cT1 (D:=tbOK) (R:=fun t=>retOf [.om 1 (idxE t.2.1 t.2.1.length)]) ht M n rfl (by simp [retOf,openRet,openVals,openVal,openLeaves,openLeaf,stV,srow,U,TbO])
noncomputable def NuF:List AV→Option AV:=specF (ι:={x:Tb // tbOK x}) (fun x=>[TbV x.1]) fun x=>retOf [I (numB x.1)]
theorem cNu (t:Tb) (ht:tbOK t) (M:Nat→AO) (n:Nat):callP NuF [TbV t] M n=some (I (numB t),[]):=cT1 (D:=tbOK) (R:=fun t=>retOf [I (numB t)]) ht M n rfl (by simp [retOf,openRet,openVals,openVal,openLeaves,openLeaf,stV,srow,U,TbO])
noncomputable def ChF:List AV→Option AV:=specF (ι:={x:Tb // tbOK x}) (fun x=>[TbV x.1]) fun x=>retOf [I (chk x.1)]
theorem cCh (t:Tb) (ht:tbOK t) (M:Nat→AO) (n:Nat):callP ChF [TbV t] M n=some (I (chk t),[]):=cT1 (D:=tbOK) (R:=fun t=>retOf [I (chk t)]) ht M n rfl (by simp [retOf,openRet,openVals,openVal,openLeaves,openLeaf,stV,srow,U,TbO])
noncomputable def PaF:List AV→Option AV:=specF (ι:={x:Tb×Nat // ptO x.1 x.2}) (fun x=>[TbV x.1.1,I x.1.2]) fun x=>retOf [.ow 3 (srows (ptL x.1.1 x.1.2))]
theorem cPa (t:Tb) (p:Nat) (h:ptO t p) (M:Nat→AO) (n:Nat):callP PaF [TbV t,I p] M n=some (.sl n 1 3 0 (ptL t p).length,[(n,.vec 1 3 false (srows (ptL t p)))]):=cT3 (D:=ptO) (R:=fun t p=>retOf [.ow 3 (srows (ptL t p))]) (k:=n+1) h M n (by simp [retOf,openRet,openVal,openLeaf,srows]) (by omega)
noncomputable def LaF:List AV→Option AV:=specF (ι:={x:Tb×Nat // ptO x.1 x.2}) (fun x=>[TbV x.1.1,I x.1.2]) fun x=>retOf [stV (lsT x.1.1 x.1.2)]
theorem cLa (t:Tb) (p:Nat) (h:ptO t p) (M:Nat→AO) (n:Nat):callP LaF [TbV t,I p] M n=some (stV (lsT t p),[]):=cT3 (D:=ptO) (R:=fun t p=>retOf [stV (lsT t p)]) h M n rfl (by simp [retOf,openRet,openVals,openVal,openLeaves,openLeaf,stV,srow,U,TbO])
noncomputable def CkF:List AV→Option AV:=specF (ι:={x:Tb×Int×Int // tbOK x.1}) (fun x=>[TbV x.1.1,I x.1.2.1,I x.1.2.2]) fun x=>retOf [I (ckd x.1.1 x.1.2.1 x.1.2.2)]
noncomputable def LiF:List AV→Option AV:=specF (ι:={x:Tb // tbOK x}) (fun x=>[TbV x.1]) fun x=>retOf [.ow 2 (erows (lstT x.1))]
end Go.AM
namespace Go.AM
open Go Go.Proofs
set_option maxRecDepth 4000
theorem open_erow {l:List Pe} {n:Nat}:openRet n (retOf [.ow 2 (erows l)])=(.sl n 1 2 0 l.length,[(n,.vec 1 2 false (erows l))],n+1):=by
 simp [retOf,openRet,openVal,openLeaf,erows]
end Go.AM
namespace Go.AM
open Go
def Unt (E:Env) (w:World) (k:Nat):Prop:=k<w.heap.size∧¬ E.G k∧∀ b base sz,E.alive b→E.loc b≠some (k,base,sz)
theorem SatF.other {N:Nat} {w0:World} {bl:Bk} {E:Env} {a:Act} {w w':World} {g:Nat→AV} {m:Nat→AO} (h:SatF N w0 bl E a w g m) {r:Nat} (hg:¬ E.G r) (hl:∀ b base sz,E.alive b→E.loc b≠some (r,base,sz)) (hr0:w0.heap.size≤r)
  (hsz:w.heap.size≤w'.heap.size) (hos:w'.os=w.os) (hout:w'.output=w.output) (hk:∀ k,k<w.heap.size→k≠r→w'.heap[k]?=w.heap[k]?):SatF N w0 bl E a w' g m:=by
 have hG:∀ k,E.G k→w'.heap[k]?=w.heap[k]?:=fun k hk'=>hk k (h.inv.good k hk') fun e=>hg (e ▸ hk')
 refine ⟨h.defers,h.size,⟨⟨hos.trans h.inv.frame.os,hout.trans h.inv.frame.out,Nat.le_trans h.inv.frame.size hsz,fun k h1 h2=>?_⟩,h.inv.gin,h.inv.low,h.inv.gout,fun k hk'=>Nat.lt_of_lt_of_le (h.inv.good k hk') hsz,fun b blk base sz h1 h2=>?_,h.inv.apart⟩,fun b hb=>?_,fun t=>?_⟩
 ·rw [hk k (by have:=h.inv.frame.size;omega) (by omega)]
  exact h.inv.frame.old k h1 h2
 ·obtain ⟨q1,q2,q3⟩:=h.inv.locs b blk base sz h1 h2
  exact ⟨by omega,q2,q3⟩
 ·refine (h.mem b hb).mono (Env.Le.refl E) hG rfl rfl fun blk base sz h1=>?_
  exact hk blk (h.inv.locs b blk base sz hb h1).1 fun e=>hl b base sz hb (e ▸ h1)
 ·exact (h.slots t).mono (Env.Le.refl E) hG
def SatX (N:Nat) (w0:World) (bl:Bk) (a:Act) (w:World) (st:St) (F:List Nat):Prop :=
 ∃ E,SatF N w0 bl E a w (getS st.s) (getM st.m)∧(∀ k,E.alive k→k<st.nx)∧(∀ k,getM st.m k≠.dead→k<st.nx)∧∀ k∈F,Unt E w k
open Classical in
theorem rebase {N:Nat} {w0:World} {bl:Bk} {a:Act} {w:World} {st:St} {F:List Nat} (hs:SatX N w0 bl a w st F) (n:Nat) (hn:bl.n≤n) :
  ∃ B:Bk,B.n=n∧Sat N w B a w st∧∀ a' w' st',Sat N w B a' w' st'→SatX N w0 bl a' w' st' F∧∀ k∈F,w'.heap[k]?=w.heap[k]?:=by
 obtain ⟨E,h1,h2,h3,h4⟩:=hs
 let L:List Nat:=(List.range w.heap.size).filter fun k=>decide (∃ b base sz,E.alive b∧E.loc b=some (k,base,sz))
 have hL:∀ k,k∈L↔k<w.heap.size∧∃ b base sz,E.alive b∧E.loc b=some (k,base,sz):=fun k=>by simp [L]
 let B:Bk:=⟨L,{ E with alive:=fun k=>E.alive k∧k<n },n⟩
 have hB:B.E.Le E:=⟨fun _ h=>h,fun _ h=>h.1,fun _ _=>.inl ⟨rfl,rfl⟩⟩
 have hB0:bl.E.Le B.E:=⟨h1.inv.gin.G,fun k hk=>⟨h1.inv.gin.alive k hk,by have:=h1.inv.low k hk;omega⟩,h1.inv.gin.same⟩
 have hinv:Inv w B E w:=⟨⟨rfl,rfl,Nat.le_refl _,fun _ _ _=>rfl⟩,hB,fun k hk=>hk.2,fun k hk=>.inl hk,h1.inv.good,fun b blk base sz hb hl=>⟨(h1.inv.locs b blk base sz hb hl).1,(h1.inv.locs b blk base sz hb hl).2.1,.inr ((hL blk).2 ⟨(h1.inv.locs b blk base sz hb hl).1,b,base,sz,hb,hl⟩)⟩,h1.inv.apart⟩
 have hs1:Sat N w B a w st:=⟨E,⟨h1.defers,h1.size,hinv,h1.mem,h1.slots⟩,h2,h3⟩
 have hFL:∀ k∈F,k ∉ L:=fun k hk hm=>by
  obtain ⟨_,b,base,sz,q1,q2⟩:=(hL k).1 hm
  exact (h4 k hk).2.2 b base sz q1 q2
 have hback:∀ k,k∈L→w0.heap.size≤k∨k∈bl.l:=fun k hk=>by
  obtain ⟨_,b,base,sz,q1,q2⟩:=(hL k).1 hk
  exact (h1.inv.locs b k base sz q1 q2).2.2
 refine ⟨B,rfl,hs1,fun a' w' st' ⟨E',k1,k2,k3⟩=>⟨⟨E',⟨k1.defers,k1.size,?_,k1.mem,k1.slots⟩,k2,k3,fun k hk=>?_⟩,fun k hk=>?_⟩⟩
 ·have i0:=h1.inv
  have i1:=k1.inv
  refine ⟨⟨i1.frame.os.trans i0.frame.os,i1.frame.out.trans i0.frame.out,Nat.le_trans i0.frame.size i1.frame.size,fun k g1 g2=>?_⟩,hB0.trans i1.gin,i0.low,fun k hk=>?_,i1.good,fun b blk base sz g1 g2=>?_,i1.apart⟩
  ·rw [i1.frame.old k (by have:=i0.frame.size;omega) fun hm=>?_]
   ·exact i0.frame.old k g1 g2
   ·rcases hback k hm with g3|g3
    ·omega
    ·exact g2 g3
  ·rcases i1.gout k hk with g|g|g
   ·exact i0.gout k g
   ·exact .inr (.inl (by have:=i0.frame.size;omega))
   ·rcases hback k g with g3|g3
    ·exact .inr (.inl g3)
    ·exact .inr (.inr g3)
  ·obtain ⟨g3,g4,g5⟩:=i1.locs b blk base sz g1 g2
   refine ⟨g3,g4,?_⟩
   rcases g5 with g5|g5
   ·exact .inl (by have:=i0.frame.size;omega)
   ·exact hback blk g5
 ·obtain ⟨g1,g2,g3⟩:=h4 k hk
  refine ⟨by have:=k1.inv.frame.size;omega,fun hg=>?_,fun b base sz hb hl=>?_⟩
  ·rcases k1.inv.gout k hg with g|g|g
   ·exact g2 g
   ·omega
   ·exact hFL k hk g
  ·rcases (k1.inv.locs b k base sz hb hl).2.2 with g|g
   ·omega
   ·exact hFL k hk g
 ·exact k1.inv.frame.old k (h4 k hk).1 (hFL k hk)
theorem leX {N:Nat} {w0:World} {bl:Bk} {a:Act} {w:World} {st st':St} {F:List Nat} (hs:SatX N w0 bl a w st F) (h:Le bl.n st st'):SatX N w0 bl a w st' F:=by
 obtain ⟨B,h1,h2,h3⟩:=rebase hs bl.n (Nat.le_refl _)
 exact (h3 a w st' (h _ _ _ _ _ h1 h2)).1
theorem SatX.put {N:Nat} {w0:World} {bl:Bk} {a:Act} {w:World} {s:List (Nat×AV)} {m:List (Nat×AO)} {nx:Nat} {F:List Nat} (h:SatX N w0 bl a w ⟨s,m,nx⟩ F) {d:Nat} (hd:d<N) {av:AV} {x:Value} (hx:∀ E:Env,Rep E w av x):SatX N w0 bl (a.put (some d) x) w ⟨(d,av)::s,m,nx⟩ F:=by
 obtain ⟨E,h1,h2,h3,h4⟩:=h
 have st:StepTo w0 bl E w [] E w:=StepTo.refl h1.inv rfl rfl rfl
 have:=h1.put (o:={ (default:Oper) with dst:=some d }) st (by simp [dstOK,hd]) (hx E)
 refine ⟨E,?_,h2,h3,h4⟩
 have e:getS ((d,av)::s)=putF (getS s) (some d) av:=by
  funext t
  simp only [getS,putF,Option.some.injEq]
 rw [e]
 exact this
theorem SatX.other {N:Nat} {w0:World} {bl:Bk} {a:Act} {w w':World} {st:St} {F:List Nat} (h:SatX N w0 bl a w st F) {r:Nat} (hr:r∈F) (hr0:w0.heap.size≤r)
  (hsz:w.heap.size≤w'.heap.size) (hos:w'.os=w.os) (hout:w'.output=w.output) (hk:∀ k,k<w.heap.size→k≠r→w'.heap[k]?=w.heap[k]?):SatX N w0 bl a w' st F:=by
 obtain ⟨E,h1,h2,h3,h4⟩:=h
 exact ⟨E,h1.other (h4 r hr).2.1 (h4 r hr).2.2 hr0 hsz hos hout hk,h2,h3,fun k hk'=>⟨Nat.lt_of_lt_of_le (h4 k hk').1 hsz,(h4 k hk').2⟩⟩
theorem wantedN {o:Oper} {f:Nat→Option Bool} (h:o.guard=none):Region.wanted o f=true:=by simp [Region.wanted,h]
theorem getS_cases:∀ (l:List (Nat×AV)) (t:Nat),getS l t=.any∨∃ p∈l,p.1=t∧getS l t=p.2
 | [],t=>.inl rfl
 | (k,a)::r,t=>by
  simp only [getS]
  by_cases e:k=t
  ·rw [if_pos e]
   exact .inr ⟨(k,a),by simp,e,rfl⟩
  ·rw [if_neg e]
   rcases getS_cases r t with h|⟨p,hp,h1,h2⟩
   ·exact .inl h
   ·exact .inr ⟨p,by simp [hp],h1,h2⟩
end Go.AM
namespace Go.AM
open Go Go.Proofs
@[simp] theorem one_mapM (b:Option Nat):(Value.map b).oneCell'=true:=rfl
end Go.AM
namespace Go.AM
open Go Go.Proofs
def gpe (l:List Pe) (i:Nat):Pe:=l.getD i (0,0)
theorem gpe_eq {l:List Pe} {i:Nat} (h:i<l.length):gpe l i=l[i]:=by
 unfold gpe
 rw [List.getD_eq_getElem?_getD,List.getElem?_eq_getElem h];rfl
theorem gpe_mem {l:List Pe} {i:Nat} (h:i<l.length):gpe l i∈l:=by rw [gpe_eq h];exact List.getElem_mem h
theorem lst_u64 {t:Tb} (ht:tbOK t):∀ x∈lstT t,x.2<2^64:=by
 unfold lstT
 split
 ·rename_i h0
  have hpv:=chk_pv ht h0
  have key:∀ n,n≤512→∀ x∈lsA t n,x.2<2^64:=by
   intro n
   induction n with
   | zero=>intro _ x hx;simp [lsA] at hx
   | succ n ih =>
    intro hn x hx
    simp only [lsA] at hx
    rcases List.mem_append.1 hx with h|h
    ·exact ih (by omega) x h
    ·unfold lsF at h
     split at h
     ·simp at h
      rw [h]
      exact lsT_u64 ht hpv (by omega)
     ·simp at h
  exact key 512 (Nat.le_refl _)
 ·intro x hx;simp at hx
theorem lstT_l5 {t:Tb}:(lstT t).length≤512:=by
 unfold lstT
 split
 ·have key:∀ n,(lsA t n).length≤n:=by
   intro n
   induction n with
   | zero=>simp [lsA]
   | succ n ih =>
    simp only [lsA,List.length_append]
    have:(lsF t n).length≤1:=by unfold lsF;split<;>simp
    omega
  exact key 512
 ·simp
theorem erows_giM {l:List Pe} {i:Nat} (h:i<l.length):(erows l)[i]?=some [I (gpe l i).1,U (gpe l i).2]:=by
 rw [gpe_eq h]
 simp [erows,erow,List.getElem?_eq_getElem h]
theorem erows_gEM {l:List Pe} {i:Nat} (h:i<l.length):∀ h',(erows l)[i]'(h')=[I (gpe l i).1,U (gpe l i).2]:=fun h'=>by
 have:=erows_giM h
 rw [List.getElem?_eq_getElem h'] at this
 exact Option.some.inj this
end Go.AM
namespace Go.AM
open Go Go.Proofs
@[simp] theorem tyMpgF:Types Try.prog 71=some ⟨.struct [(0,3,1),(1,3,1)],2,16,[.int .i64 0,.int .i64 0]⟩:=by kernel_rfl
@[simp] theorem tyMpgsF:Types Try.prog 29=some ⟨.slice 71,1,24,[.slice none 0 0]⟩:=by kernel_rfl
def nmE (x:Pe):List (Int×Int):=if (decR x.2).1.1=1∧(decR x.2).1.2.2.2.2.2=true then (List.range 8).map fun i=>(x.1+(i:Nat),(decR x.2).1.2.1+(i:Nat))
 else if (decR x.2).1.1=1∨(decR x.2).1.1=3 then [(x.1,(decR x.2).1.2.1)] else []
def nmT (l:List Pe):List (Int×Int):=l.flatMap nmE
def ofE (fr s:Int) (l:List (Int×Int)):List Dp:=(l.filter fun x=>decide (x.2=fr)).map fun x=>(s,x.1)
theorem ofE_app {fr s:Int} {a b:List (Int×Int)}:ofE fr s (a++b)=ofE fr s a++ofE fr s b:=by simp [ofE]
theorem ofE_1 {fr s x f:Int}:ofE fr s [(x,f)]=if f=fr then [(s,x)] else []:=by
 unfold ofE
 by_cases h:f=fr<;>simp [h]
theorem ofE_len {fr s:Int} {a:List (Int×Int)}:(ofE fr s a).length≤a.length:=by
 unfold ofE
 rw [List.length_map]
 exact List.length_filter_le _ _
theorem nmE_len {x:Pe}:(nmE x).length≤8:=by
 unfold nmE
 split
 ·simp
 ·split<;>simp
theorem nmT_len:∀ {l:List Pe},(nmT l).length≤8*l.length
 | []=>by simp [nmT]
 | x::l=>by
  have h1:=@nmT_len l
  have h2:=@nmE_len x
  unfold nmT at h1 ⊢
  simp only [List.flatMap_cons,List.length_append,List.length_cons]
  omega
theorem nmT_s {l:List Pe} {i:Nat} (h:i<l.length):nmT (l.take (i+1))=nmT (l.take i)++nmE (gpe l i):=by
 unfold nmT
 rw [List.take_add_one,List.getElem?_eq_getElem h,gpe_eq h,List.flatMap_append]
 simp
theorem lst_pg {t:Tb}:∀ x∈lstT t,0≤x.1∧x.1<512:=by
 unfold lstT
 split
 ·have key:∀ n,n≤512→∀ x∈lsA t n,0≤x.1∧x.1<512:=by
   intro n
   induction n with
   | zero=>intro _ x hx;simp [lsA] at hx
   | succ n ih =>
    intro hn x hx
    simp only [lsA] at hx
    rcases List.mem_append.1 hx with h|h
    ·exact ih (by omega) x h
    ·unfold lsF at h
     split at h
     ·simp at h
      rw [h]
      simp only
      omega
     ·simp at h
  exact key 512 (Nat.le_refl _)
 ·intro x hx;simp at hx
def ofM (L:List Dp) (v:Nat) (fr s:Int):List AO:=[.box [I fr],.box [.sl 2 v 2 0 L.length],.vec v 2 false (prows L),.box [I s]]
theorem ofM_inj {L L':List Dp} {v v':Nat} {fr fr' s s':Int} (h:ofM L v fr s=ofM L' v' fr' s'):L=L'∧fr=fr'∧s=s':=by
 simp only [ofM,List.cons.injEq,AO.box.injEq,I,AV.v.injEq,Value.int.injEq,true_and,AO.vec.injEq,prows_inj,and_true] at h
 exact ⟨h.2.2.1.2,h.1,h.2.2.2⟩
abbrev OfD:=List Dp×Int×Int×Int×Int
noncomputable def ofS:List AV→List AO→Option (AV×List AO):=specG (ι:={x:OfD // x.1.length≤1000000}) (fun x=>[I x.1.2.2.2.1,I x.1.2.2.2.2,.bp 0 0,.bp 1 0,.bp 3 0]) (fun x=>ofM x.1.1 1 x.1.2.1 x.1.2.2.1) (fun _=>.tup [])
 fun x=>ofM (x.1.1++ofE x.1.2.1 x.1.2.2.1 [(x.1.2.2.2.1,x.1.2.2.2.2)]) (1+(ofE x.1.2.1 x.1.2.2.1 [(x.1.2.2.2.1,x.1.2.2.2.2)]).length) x.1.2.1 x.1.2.2.1
theorem ofS_at {L:List Dp} (fr s pg nu:Int) (h:L.length≤1000000):ofS [I pg,I nu,.bp 0 0,.bp 1 0,.bp 3 0] (ofM L 1 fr s)=some (.tup [],ofM (L++ofE fr s [(pg,nu)]) (1+(ofE fr s [(pg,nu)]).length) fr s):=by
 refine specG_eq (ι:={x:OfD // x.1.length≤1000000}) (A:=fun x=>[I x.1.2.2.2.1,I x.1.2.2.2.2,.bp 0 0,.bp 1 0,.bp 3 0]) (M:=fun x=>ofM x.1.1 1 x.1.2.1 x.1.2.2.1) (R:=fun _=>.tup []) (O:=fun x=>ofM (x.1.1++ofE x.1.2.1 x.1.2.2.1 [(x.1.2.2.2.1,x.1.2.2.2.2)]) (1+(ofE x.1.2.1 x.1.2.2.1 [(x.1.2.2.2.1,x.1.2.2.2.2)]).length) x.1.2.1 x.1.2.2.1) ⟨(L,fr,s,pg,nu),h⟩ fun j hA hM=>?_
 obtain ⟨⟨L',fr',s',pg',nu'⟩,h'⟩:=j
 obtain ⟨rfl,rfl,rfl⟩:=ofM_inj hM
 simp only [List.cons.injEq,I,AV.v.injEq,Value.int.injEq,true_and,and_true] at hA
 obtain ⟨rfl,rfl⟩:=hA
 exact ⟨rfl,rfl⟩
theorem prows_ap1 (A:List Dp) (a b:Int):prows A++[[I a,I b]]=prows (A++[(a,b)]):=by simp [prows]
theorem tkPr (A:List Dp):List.take A.length (prows A)=prows A:=List.take_of_length_le (by simp)
set_option maxHeartbeats 4000000 in
theorem s41 (X:AX) (hX:XOK Try.prog X) (hw:X.W wT):GSound Try.prog 41 ofS:=by
 unfold ofS
 refine gsound_spec Try.func41 rfl X fun ⟨⟨L,fr,s,pg,nu⟩,hl⟩ w0 B E=>⟨by show 5≤16;decide,?_⟩
 simp only at hl ⊢
 rw [ofE_1]
 simp only [ofM]
 show AW ⟨Try.prog,X,16,w0,⟨B,E,4⟩⟩ _ _ _
 have hc:Cx.OK ⟨Try.prog,X,16,w0,⟨B,E,4⟩⟩:=⟨hX,mixed⟩
 rcases Decidable.em (nu=fr) with h1|h1
 ·subst h1
  simp only [if_true,List.length_append,List.length_cons,List.length_nil,Nat.zero_add]
  have zS:=jj hl<|jj prows_ap1<|tkPr
  refine dM64 ?_
  repeat (intro K hK)
  clear zS
  refine ⟨[],rfl,?_⟩
  simp only [idx]
  exact dle
 ·simp only [if_neg h1,List.append_nil,List.length_nil,Nat.add_zero]
  have zS:=jj hl<|h1
  refine dM64 ?_
  repeat (intro K hK)
  clear zS
  refine ⟨by simp,[],rfl,?_⟩
  simp only [idx]
  exact dle
end Go.AM
namespace Go.AM
open Go
theorem run_then {P:Program} {X:AX} (hX:XOK P X) {ops:Array Oper} {N base:Nat} {w0:World} {bl:Bk} {Q:Exit→Act→World→Prop} {rest:List Oper}:∀ {ol:List Oper} {i:Nat} {E:Env} {a:Act} {w:World} {g g':Nat→AV} {m m':Nat→AO} {rs:List (AV×List (Nat×AO))},
  Recs (Types P) X ops N base ol i g m rs g' m'→SatF N w0 bl E a w g m→(∀ k,E.alive k→k<base+16*i)→(∀ k,m k≠.dead→k<base+16*i) →
  (∀ E' a' w',SatF N w0 bl E' a' w' g' m'→(∀ k,E'.alive k→k<base+16*(i+ol.length))→(∀ k,m' k≠.dead→k<base+16*(i+ol.length))→wpList P ops Q rest a' w')→wpList P ops Q (ol++rest) a w
 | [],i,E,a,w,g,g',m,m',[],h,hs,ha,hm,hq=>by
  obtain ⟨rfl,rfl⟩:=h
  exact hq E a w hs (by simpa using ha) (by simpa using hm)
 | o::ol,i,E,a,w,g,g',m,m',r::rs,h,hs,ha,hm,hq=>by
  obtain ⟨h1,h2⟩:=h
  have hdom:∀ b∈r.2.map (·.1),b<base+16*(i+1):=by
   obtain ⟨hd,h1⟩:=h1
   have key:astep (Types P) X o.op (aEvF g) m (base+16*i)=some r→∀ b∈r.2.map (·.1),b<base+16*(i+1):=fun he b hb=>by
    rcases astep_dom hX he b hb with h3|⟨_,h3⟩
    ·omega
    ·have:=hm b h3;omega
   cases hg:o.guard with
   | none=>simp only [hg] at h1;exact key h1
   | some jw =>
    obtain ⟨j,want⟩:=jw
    simp only [hg] at h1
    obtain ⟨d,b,_,_,h4⟩:=h1
    split at h4
    ·exact key h4
    ·subst h4;simp
  have:=step_wp hX (Q:=Q) (next:=wpList P ops Q (ol++rest)) hs h1 (fun k hk _ hal=>by have:=ha k hal;omega) fun E' a' w' st hs'=>by
   refine run_then hX h2 hs' (fun k hk=>?_) (fun k hk=>?_) fun E2 a2 w2 k1 k2 k3=>hq E2 a2 w2 k1 ?_ ?_
   ·rcases st.alive k hk with h3|h3
    ·have:=ha k h3;omega
    ·exact hdom k h3
   ·by_cases hk2:k∈r.2.map (·.1)
    ·exact hdom k hk2
    ·rw [updM_not hk2] at hk
     have:=hm k hk;omega
   ·intro k hk;have:=k2 k hk;simp only [List.length_cons];omega
   ·intro k hk;have:=k3 k hk;simp only [List.length_cons];omega
  show wpList P ops Q (o::(ol++rest)) a w
  unfold wpList
  split
  ·rename_i hw;rw [if_pos hw] at this;exact .inl this
  ·rename_i hw;rw [if_neg hw] at this;exact this
 | [],_,_,_,_,_,_,_,_,_::_,h,_,_,_,_=>by simp [Recs] at h
 | _::_,_,_,_,_,_,_,_,_,[],h,_,_,_,_=>by simp [Recs] at h
def Keeps {α:Type} (w0:World) (l:List Nat) (J:α→List Nat→World→Prop):Prop :=
 ∀ x F w w',J x F w→(∀ k∈F,w'.heap[k]?=w.heap[k]?)→Frame w0 l w→Frame w0 l w'→w.heap.size≤w'.heap.size→J x F w'
def AWX {α:Type} (c:Cx) (J:α→List Nat→World→Prop) (k:Code) (st:St) (x:α) (Q:Exit→St→α→Prop):Prop :=
 ∀ a w F,SatX c.N c.w0 c.bl a w st F→J x F w→k.wp c.P (fun e a' w'=>∃ st' x' F',Q e st' x'∧SatX c.N c.w0 c.bl a' w' st' F'∧J x' F' w') a w
theorem SatX.frame {N:Nat} {w0:World} {bl:Bk} {a:Act} {w:World} {st:St} {F:List Nat} (h:SatX N w0 bl a w st F):Frame w0 bl.l w:=by
 obtain ⟨E,h1,_⟩:=h
 exact h1.inv.frame
section
variable {α:Type} {c:Cx} {J:α→List Nat→World→Prop} {st:St} {x:α} {Q:Exit→St→α→Prop}
theorem awx_lift {k:Code} (hJ:Keeps c.w0 c.bl.l J) (h:∀ w1 bl1,bl1.n=c.bl.n→AW ⟨c.P,c.X,c.N,w1,bl1⟩ k st (fun e st'=>Q e st' x)):AWX c J k st x Q:=fun a w F hs hj=>by
 obtain ⟨B,h1,h2,h3⟩:=rebase hs c.bl.n (Nat.le_refl _)
 refine wp_mono (h w B h1 a w h2) fun e a' w' ⟨st',q1,q2⟩=>?_
 obtain ⟨k1,k2⟩:=h3 a' w' st' q2
 have hsz:w.heap.size≤w'.heap.size:=by
  obtain ⟨E',k3,_⟩:=q2
  exact k3.inv.frame.size
 exact ⟨st',x,F,q1,k1,hJ x F w w' hj k2 hs.frame k1.frame hsz⟩
def thenX (N:St→α→Prop) (Q:Exit→St→α→Prop):Exit→St→α→Prop
 | .normal,st,x=>N st x
 | e,st,x=>Q e st x
theorem awx_seq {k l:Code} (h:AWX c J k st x (thenX (fun st' x'=>AWX c J l st' x' Q) Q)):AWX c J (.seq k l) st x Q:=fun a w F hs hj =>
 wp_seq (wp_mono (h a w F hs hj) fun e _ _ ⟨st',x',F',h1,h2,h3⟩=>by
  cases e<;>first|exact h1 _ _ _ h2 h3|exact ⟨st',x',F',h1,h2,h3⟩)
theorem awx_skip (h:Q .normal st x):AWX c J .skip st x Q:=fun _ _ F hs hj=>wp_skip ⟨st,x,F,h,hs,hj⟩
theorem awx_exit {id:Nat} (h:Q (.exit id) st x):AWX c J (.exit id) st x Q:=fun _ _ F hs hj=>wp_exit ⟨st,x,F,h,hs,hj⟩
theorem awx_cond {o:Operand} {k l:Code} {b:Bool} (hb:aEv st.s o=.v (.bool b)) (ht:b=true→AWX c J k st x Q) (hf:b=false→AWX c J l st x Q):AWX c J (.cond o k l) st x Q:=fun a w F hs hj=>by
 have he:a.eval o=.bool b:=by
  obtain ⟨E,h1,_⟩:=hs
  have:=h1.eval o
  rw [← aEv_eq,hb] at this
  simpa only [Rep,CRep] using this
 exact wp_cond_split he (fun h=>ht h a w F hs hj) (fun h=>hf h a w F hs hj)
def blockX (id:Nat) (Q:Exit→St→α→Prop):Exit→St→α→Prop
 | .exit id',st,x=>if id'=id then Q .normal st x else Q (.exit id') st x
 | e,st,x=>Q e st x
theorem awx_block {id:Nat} {k:Code} (h:AWX c J k st x (blockX id Q)):AWX c J (.block id k) st x Q:=fun a w F hs hj =>
  wp_block (wp_mono (h a w F hs hj) fun e a' w' ⟨st',x',F',h1,h2⟩=>by
    cases e<;>first
      | exact ⟨st',x',F',h1,h2⟩
      | (simp only [blockX] at h1
         simp only [Exit.inBlock]
         split at h1
         · rename_i e;rw [if_pos e];exact ⟨st',x',F',h1,h2⟩
         · rename_i e;rw [if_neg e];exact ⟨st',x',F',h1,h2⟩))
open Classical in
theorem awx_loop {ι:Type} (S:ι→St) (V:ι→α) (μ:ι→Nat) (i0:ι) {k:Code} (h0:Le c.bl.n st (S i0)) (hx:V i0=x)
  (round:∀ i,AWX c J k (S i) (V i) (thenX (fun st' x'=>∃ i',Le c.bl.n st' (S i')∧V i'=x'∧μ i'<μ i) Q)):AWX c J (.loop k) st x Q:=fun a w F hs hj=>by
 let I:Act→World→Prop:=fun a w=>∃ i F,SatX c.N c.w0 c.bl a w (S i) F∧J (V i) F w
 let M:Act→World→Nat:=fun a w=>if h:∃ n,∃ i F,(SatX c.N c.w0 c.bl a w (S i) F∧J (V i) F w)∧μ i=n then (least h).choose else 0
 refine wp_loop I M ⟨i0,F,leX hs h0,by rw [hx];exact hj⟩ fun a w hI=>?_
 have hex:∃ n,∃ i F,(SatX c.N c.w0 c.bl a w (S i) F∧J (V i) F w)∧μ i=n:=let ⟨i,F,hi⟩:=hI;⟨μ i,i,F,hi,rfl⟩
 have hM:M a w=(least hex).choose:=dif_pos hex
 obtain ⟨⟨i,F,hi,hmu⟩,hmin⟩:=(least hex).choose_spec
 refine wp_mono (round i a w F hi.1 hi.2) fun e a' w' ⟨st',x',F',h1,h2,h3⟩=>?_
 cases e
 case normal =>
  obtain ⟨i',k1,k3,k2⟩:=h1
  have hs':SatX c.N c.w0 c.bl a' w' (S i') F'∧J (V i') F' w':=⟨leX h2 k1,by rw [k3];exact h3⟩
  refine ⟨⟨i',F',hs'⟩,?_⟩
  have hex':∃ n,∃ i F,(SatX c.N c.w0 c.bl a' w' (S i) F∧J (V i) F w')∧μ i=n:=⟨μ i',i',F',hs',rfl⟩
  have hM':M a' w'=(least hex').choose:=dif_pos hex'
  rw [hM,hM',← hmu]
  have:=(least hex').choose_spec.2 _ ⟨i',F',hs',rfl⟩
  omega
 all_goals exact ⟨st',x',F',h1,h2,h3⟩
end
theorem SatX.touch {N:Nat} {w0:World} {bl:Bk} {a:Act} {w w':World} {st:St} {F:List Nat} (h:SatX N w0 bl a w st F) (hF:∀ k∈F,w0.heap.size≤k∨k∈bl.l) (hfr:Frame w F w') :
  SatX N w0 bl a w' st (F++List.range' w.heap.size (w'.heap.size - w.heap.size)):=by
 obtain ⟨E,h1,h2,h3,h4⟩:=h
 have hG:∀ k,E.G k→w'.heap[k]?=w.heap[k]?:=fun k hk=>hfr.old k (h1.inv.good k hk) fun hm=>(h4 k hm).2.1 hk
 have hsz:=hfr.size
 refine ⟨E,⟨h1.defers,h1.size,⟨⟨hfr.os.trans h1.inv.frame.os,hfr.out.trans h1.inv.frame.out,Nat.le_trans h1.inv.frame.size hsz,fun k k1 k2=>?_⟩,h1.inv.gin,h1.inv.low,h1.inv.gout,fun k hk=>Nat.lt_of_lt_of_le (h1.inv.good k hk) hsz,fun b blk base sz k1 k2=>?_,h1.inv.apart⟩,fun b hb=>?_,fun t=>?_⟩,h2,h3,fun k hk=>?_⟩
 ·rw [hfr.old k (Nat.lt_of_lt_of_le k1 h1.inv.frame.size) fun hm=>?_]
  ·exact h1.inv.frame.old k k1 k2
  ·rcases hF k hm with q|q
   ·omega
   ·exact k2 q
 ·obtain ⟨q1,q2,q3⟩:=h1.inv.locs b blk base sz k1 k2
  exact ⟨by omega,q2,q3⟩
 ·refine (h1.mem b hb).mono (Env.Le.refl E) hG rfl rfl fun blk base sz k1=>?_
  exact hfr.old blk (h1.inv.locs b blk base sz hb k1).1 fun hm=>(h4 blk hm).2.2 b base sz hb k1
 ·exact (h1.slots t).mono (Env.Le.refl E) hG
 ·rcases List.mem_append.1 hk with hk|hk
  ·obtain ⟨q1,q2,q3⟩:=h4 k hk
   exact ⟨by omega,q2,q3⟩
  ·have hk':=List.mem_range'_1.1 hk
   refine ⟨by omega,fun hg=>?_,fun b base sz hb hl=>?_⟩
   ·have:=h1.inv.good k hg;omega
   ·have:=(h1.inv.locs b k base sz hb hl).1;omega
theorem awx_call {α:Type} {c:Cx} {J:α→List Nat→World→Prop} {st:St} {x:α} {Q:Exit→St→α→Prop} {R:α→Prop} (hc:c.OK) {id:Nat} {ops:Array Oper} {pre:List Oper} {o:Oper} {d:Nat} {f:Operand} {g:FuncId}
  {args:Array Operand} {ats:Array TypeId} {s1:List (Nat×AV)} {m1:List (Nat×AO)} {caps avs:List AV}
  (hJ:Keeps c.w0 c.bl.l J) (hF:∀ x F w,J x F w→∀ k∈F,c.w0.heap.size≤k∨k∈c.bl.l)
  (hops:ops.toList=pre++[o]) (hop:o.op=.call ⟨.value f,args,ats⟩) (hd:o.dst=some d) (hg:o.guard=none) (hdN:d<c.N)
  (hpre:arun (Types c.P) c.X ops c.N st.nx pre 0 st.s st.m=some (s1,m1)) (hf:aEv s1 f=.fn g caps) (ha:args.toList.map (aEv s1)=avs) (hb:BodyOK c.P g)
  (hcall:∀ (E:Env) (w:World) (F:List Nat) (vs:List Value),J x F w→Inv c.w0 c.bl E w→(∀ k∈F,Unt E w k)→RepL E w (avs++caps) vs →
   Calls c.P g vs.toArray w fun e w'=>∃ r x',e=.returned r∧R x'∧J x' (F++List.range' w.heap.size (w'.heap.size - w.heap.size)) w'∧Frame w F w')
  (hq:∀ x',R x'→Q .normal ⟨(d,.any)::s1,m1,st.nx+16*ops.size⟩ x'):AWX c J (.region id ops false) st x Q:=by
 intro a w F hs hj
 obtain ⟨B,hB,h2,h3⟩:=rebase hs c.bl.n (Nat.le_refl _)
 obtain ⟨E,k1,k2,k3⟩:=h2
 obtain ⟨rs,hrs⟩:=recs_of_run hpre
 refine wp_region_list ?_
 rw [hops]
 refine run_then hc.x hrs k1 (by simpa using k2) (by simpa using k3) fun E1 a1 w1 p1 p2 p3=>?_
 have hlen:pre.length+1=ops.size:=by
  have:=congrArg List.length hops
  simpa using this.symm
 obtain ⟨hx1,hk1⟩:=h3 a1 w1 ⟨s1,m1,st.nx+16*(0+pre.length)⟩ ⟨E1,p1,p2,p3⟩
 have hj1:J x F w1:=hJ x F w w1 hj hk1 hs.frame hx1.frame p1.inv.frame.size
 have hx1':=hx1
 obtain ⟨E2,q1,q2,q3,q4⟩:=hx1
 have hfv:=q1.eval f
 rw [← aEv_eq,hf] at hfv
 simp only [Rep] at hfv
 obtain ⟨vs,hv,hcaps⟩:=hfv
 have hargs:RepL E2 w1 (avs++caps) (args.toList.map a1.eval++vs):=by
  rw [← ha]
  exact (repL_map (fun y=>by rw [aEv_eq];exact q1.eval y) args.toList).append hcaps
 obtain ⟨fn,b1,b2,b3⟩:=hb
 have hbn:fn.body.isNone=false:=by cases hh:fn.body<;>simp [hh] at b2 ⊢
 have hC:=hcall E2 w1 F _ hj1 q1.inv q4 hargs
 have harr:(args.toList.map a1.eval++vs).toArray=args.map a1.eval++vs.toArray:=by simp
 rw [harr] at hC
 unfold wpList
 rw [if_pos (wantedN hg)]
 left
 unfold Oper.wp
 simp only [hop,execOp,resolve,hv,Deferred.ofValue,Sem.run_bind,Sem.run_pure,Result.andThen_ok,invoke,callFunc,run_program,b1,b3,hbn,Bool.false_eq_true,if_false,Array.empty_append]
 refine Calls.mono hC fun e w' ⟨r,x',he,hR,hJ',hfr⟩=>?_
 subst he
 have ht:=(hx1'.touch (fun k hk=>hF x F w1 hj1 k hk) hfr).put hdN (av:=.any) (x:=r) fun E=>by simp [Rep,CRep]
 rw [← hd] at ht
 have ht2:SatX c.N c.w0 c.bl (a1.put o.dst r) w' ⟨(d,.any)::s1,m1,st.nx+16*ops.size⟩ (F++List.range' w1.heap.size (w'.heap.size - w1.heap.size)):=by
  obtain ⟨E3,z1,z2,z3,z4⟩:=ht
  exact ⟨E3,z1,fun k hk=>by have:=z2 k hk;simp only at this ⊢;omega,fun k hk=>by have:=z3 k hk;simp only at this ⊢;omega,z4⟩
 exact ⟨_,x',_,hq x' hR,ht2,hJ'⟩
theorem awx_step {α:Type} {c:Cx} {J:α→List Nat→World→Prop} {st:St} {x:α} {Q:Exit→St→α→Prop} {k l:Code} (hJ:Keeps c.w0 c.bl.l J)
  (h:∀ w1 bl1,bl1.n=c.bl.n→∀ K:St→Prop,(∀ st',AWX c J l st' x Q→K st')→AW ⟨c.P,c.X,c.N,w1,bl1⟩ k st (thenQ K fun _ _=>False)):AWX c J (.seq k l) st x Q :=
 awx_seq (awx_lift hJ fun w1 bl1 hn=>aw_mono (h w1 bl1 hn (fun st'=>AWX c J l st' x Q) fun _ h=>h) fun e st' he=>by
  cases e<;>first|exact he|exact he.elim)
theorem awx_last {α:Type} {c:Cx} {J:α→List Nat→World→Prop} {st:St} {x:α} {Q:Exit→St→α→Prop} {k:Code} (hJ:Keeps c.w0 c.bl.l J)
  (h:∀ w1 bl1,bl1.n=c.bl.n→∀ K:St→Prop,(∀ st',Q .normal st' x→K st')→AW ⟨c.P,c.X,c.N,w1,bl1⟩ k st (thenQ K fun _ _=>False)):AWX c J k st x Q :=
 awx_lift hJ fun w1 bl1 hn=>aw_mono (h w1 bl1 hn (fun st'=>Q .normal st' x) fun _ h=>h) fun e st' he=>by
  cases e<;>first|exact he|exact he.elim
theorem awx_callK {α:Type} {c:Cx} {J:α→List Nat→World→Prop} {st:St} {x:α} {Q:Exit→St→α→Prop} (R:α→Prop) (caps avs:List AV) (n:Nat) (hc:c.OK) {id:Nat} {ops:Array Oper} {o:Oper} {d:Nat} {f:Operand} {g:FuncId}
  {args:Array Operand} {ats:Array TypeId}
  (hJ:Keeps c.w0 c.bl.l J) (hF:∀ x F w,J x F w→∀ k∈F,c.w0.heap.size≤k∨k∈c.bl.l)
  (ho:ops.toList.drop n=[o]) (hop:o.op=.call ⟨.value f,args,ats⟩) (hd:o.dst=some d) (hg:o.guard=none) (hdN:d<c.N) (hb:BodyOK c.P g)
  (hcall:∀ (E:Env) (w:World) (F:List Nat) (vs:List Value),J x F w→Inv c.w0 c.bl E w→(∀ k∈F,Unt E w k)→RepL E w (avs++caps) vs →
   Calls c.P g vs.toArray w fun e w'=>∃ r x',e=.returned r∧R x'∧J x' (F++List.range' w.heap.size (w'.heap.size - w.heap.size)) w'∧Frame w F w')
  (h:∀ K:List (Nat×AV)→List (Nat×AO)→Prop,(∀ s1 m1,aEv s1 f=.fn g caps→args.toList.map (aEv s1)=avs→(∀ x',R x'→Q .normal ⟨(d,.any)::s1,m1,st.nx+16*ops.size⟩ x')→K s1 m1) →
   RunQ (Types c.P) c.X ops c.N st.nx (ops.toList.take n) 0 st.s st.m K):AWX c J (.region id ops false) st x Q:=by
 obtain ⟨s1,m1,h1,h2,h3,h4⟩:=h (fun s1 m1=>aEv s1 f=.fn g caps∧args.toList.map (aEv s1)=avs∧∀ x',R x'→Q .normal ⟨(d,.any)::s1,m1,st.nx+16*ops.size⟩ x') fun s1 m1 q1 q2 q3=>⟨q1,q2,q3⟩
 exact awx_call hc hJ hF (by rw [← ho,List.take_append_drop]) hop hd hg hdN h1 h2 h3 hb hcall h4
theorem awx_calls {α:Type} {P:Program} {X:AX} {f:FuncId} {fn:Func} {c:Code} {J:α→List Nat→World→Prop} {w:World} {F:List Nat} {Gw:Nat→Prop} {avs:List AV} {args:List Value} {x:α} {R:α→Prop}
  (hf:P.funcs[f]?=some fn) (hb:fn.body=some c) (hres:fn.results=#[]) (hr:RepL (Env.start Gw) w avs args) (hlen:avs.length≤fn.ntmps) (hG:∀ k,Gw k→k<w.heap.size) (hF:∀ k∈F,k<w.heap.size∧¬ Gw k) (hj:J x F w)
  (h:AWX ⟨P,X,fn.ntmps,w,⟨F,Env.start Gw,0⟩⟩ J c ⟨enterS avs,[],0⟩ x fun e st x'=>(e=.normal∨e=.ret)∧R x') :
  Calls P f args.toArray w fun e w'=>∃ r x' F',e=.returned r∧R x'∧J x' F' w'∧Frame w F w'∧∀ k∈F',k<w'.heap.size:=by
 have hll:=hr.length
 have hsat:SatX fn.ntmps w ⟨F,Env.start Gw,0⟩ { tmps:=args.toArray++Array.replicate (fn.ntmps - args.toArray.size) undef,defers:=[] } w ⟨enterS avs,[],0⟩ F:=by
  refine ⟨Env.start Gw,⟨rfl,by simp;omega,⟨⟨rfl,rfl,Nat.le_refl _,fun _ _ _=>rfl⟩,Env.Le.refl _,fun _ h=>h.elim,fun k hk=>.inl hk,hG,fun _ _ _ _ h=>h.elim,fun _ _ _ _ _ _ _ h=>h.elim⟩,fun b hb=>hb.elim,fun t=>?_⟩,fun k hk=>hk.elim,fun k hk=>absurd rfl hk,fun k hk=>⟨(hF k hk).1,(hF k hk).2,fun _ _ _ hb=>hb.elim⟩⟩
  rw [enterS,getS_enter]
  simp only [Nat.zero_le,if_true,Nat.sub_zero]
  cases ht:avs[t]? with
  | none=>simp [Rep,CRep]
  | some a =>
   obtain ⟨y,h1,h2⟩:=hr.get ht
   have hlt:=(List.getElem?_eq_some_iff.1 ht).1
   rw [Array.getD_eq_getD_getElem?,Array.getElem?_append_left (by simp;omega)]
   have:args.toArray[t]?=some y:=by simpa using h1
   rw [this]
   exact h2
 refine calls_of_wp hf hb (wp_mono (h _ _ F hsat hj) fun e a w' ⟨st',x',F',⟨he,hR⟩,hs,hJ⟩=>?_)
 obtain ⟨E',hs1,_,_,hU⟩:=hs
 have hrun:(results fn a.tmps).run P w'=.ok (.tuple #[]) w':=by
  unfold results
  rw [hres]
  simp
 have hfin:∃ r x' F',Ending.returned (.tuple #[])=.returned r∧R x'∧J x' F' w'∧Frame w F w'∧∀ k∈F',k<w'.heap.size:=⟨_,x',F',rfl,hR,hJ,hs1.inv.frame,fun k hk=>(hU k hk).1⟩
 rcases he with rfl|rfl
 ·exact ⟨hs1.defers,_,hrun,hfin⟩
 ·exact ⟨hs1.defers,_,hrun,hfin⟩
theorem SatF.close {N:Nat} {w0:World} {bl:Bk} {E:Env} {a:Act} {w:World} {g:Nat→AV} {m:Nat→AO} (h:SatF N w0 bl E a w g m) {F:List Nat} {kp:List (Nat×AV)} {nx:Nat}
  (hE:∀ b,bl.E.alive b→False) (hF:∀ k∈F,k<w.heap.size∧¬ E.G k) (hk:∀ p∈kp,CRep w E.G p.2 (a.tmps.getD p.1 undef)):SatX N w0 bl a w ⟨kp,[],nx⟩ F:=by
 have i:=h.inv
 refine ⟨{ E with alive:=fun _=>False },⟨h.defers,h.size,⟨i.frame,⟨i.gin.G,fun b hb=>hE b hb,fun b hb=>(hE b hb).elim⟩,i.low,i.gout,i.good,fun _ _ _ _ hb=>hb.elim,fun _ _ _ _ _ _ _ hb=>hb.elim⟩,fun b hb=>hb.elim,fun t=>?_⟩,fun _ hb=>hb.elim,fun _ hb=>absurd rfl hb,fun k hk=>⟨(hF k hk).1,(hF k hk).2,fun _ _ _ hb=>hb.elim⟩⟩
 rcases getS_cases kp t with e|⟨p,hp,rfl,e⟩
 ·rw [e];simp [Rep,CRep]
 ·rw [e]
  exact Rep.of_c (E:={ E with alive:=fun _=>False }) (hk p hp)
theorem awx_callH {α:Type} {c:Cx} {J:α→List Nat→World→Prop} {st:St} {x:α} {Q:Exit→St→α→Prop} (R:α→Prop) (Pre:List (Nat×AV)→List (Nat×AO)→Prop) (kp:List (Nat×AV)) (nx:Nat) (caps avs:List AV) (n:Nat) (hc:c.OK) {id:Nat} {ops:Array Oper} {o:Oper} {d:Nat} {f:Operand} {g:FuncId}
  {args:Array Operand} {ats:Array TypeId} (hJ:Keeps c.w0 c.bl.l J)
  (ho:ops.toList.drop n=[o]) (hop:o.op=.call ⟨.value f,args,ats⟩) (hd:o.dst=some d) (hg:o.guard=none) (hdN:d<c.N) (hb:BodyOK c.P g)
  (hcall:∀ (E:Env) (a:Act) (w:World) (F:List Nat) (vs:List Value) (s1:List (Nat×AV)) (m1:List (Nat×AO)),Pre s1 m1→J x F w→SatF c.N c.w0 c.bl E a w (getS s1) (getM m1)→(∀ k∈F,Unt E w k)→RepL E w (avs++caps) vs →
   ∃ F2,(∀ k∈F2,c.w0.heap.size≤k∨k∈c.bl.l)∧SatX c.N c.w0 c.bl a w ⟨kp,[],nx⟩ F2∧Calls c.P g vs.toArray w fun e w'=>∃ r x',e=.returned r∧R x'∧J x' (F2++List.range' w.heap.size (w'.heap.size - w.heap.size)) w'∧Frame w F2 w')
  (h:∀ K:List (Nat×AV)→List (Nat×AO)→Prop,(∀ s1 m1,aEv s1 f=.fn g caps→args.toList.map (aEv s1)=avs→Pre s1 m1→K s1 m1)→RunQ (Types c.P) c.X ops c.N st.nx (ops.toList.take n) 0 st.s st.m K)
  (hq:∀ x',R x'→Q .normal ⟨(d,.any)::kp,[],nx⟩ x'):AWX c J (.region id ops false) st x Q:=by
 obtain ⟨s1,m1,hpre,hf,ha,hP⟩:=h (fun s1 m1=>aEv s1 f=.fn g caps∧args.toList.map (aEv s1)=avs∧Pre s1 m1) fun s1 m1 q1 q2 q3=>⟨q1,q2,q3⟩
 intro a w F hs hj
 obtain ⟨B,hB,h2,h3⟩:=rebase hs c.bl.n (Nat.le_refl _)
 obtain ⟨E,k1,k2,k3⟩:=h2
 obtain ⟨rs,hrs⟩:=recs_of_run hpre
 refine wp_region_list ?_
 have hops:ops.toList=ops.toList.take n++[o]:=by rw [← ho,List.take_append_drop]
 rw [hops]
 refine run_then hc.x hrs k1 (by simpa using k2) (by simpa using k3) fun E1 a1 w1 p1 p2 p3=>?_
 obtain ⟨hx1,hk1⟩:=h3 a1 w1 ⟨s1,m1,st.nx+16*(0+(ops.toList.take n).length)⟩ ⟨E1,p1,p2,p3⟩
 have hj1:J x F w1:=hJ x F w w1 hj hk1 hs.frame hx1.frame p1.inv.frame.size
 obtain ⟨E2,q1,q2,q3,q4⟩:=hx1
 have hfv:=q1.eval f
 rw [← aEv_eq,hf] at hfv
 simp only [Rep] at hfv
 obtain ⟨vs,hv,hcaps⟩:=hfv
 have hargs:RepL E2 w1 (avs++caps) (args.toList.map a1.eval++vs):=by
  rw [← ha]
  exact (repL_map (fun y=>by rw [aEv_eq];exact q1.eval y) args.toList).append hcaps
 obtain ⟨fn,b1,b2,b3⟩:=hb
 have hbn:fn.body.isNone=false:=by cases hh:fn.body<;>simp [hh] at b2 ⊢
 obtain ⟨F2,hF2,hsx,hC⟩:=hcall E2 a1 w1 F _ s1 m1 hP hj1 q1 q4 hargs
 have harr:(args.toList.map a1.eval++vs).toArray=args.map a1.eval++vs.toArray:=by simp
 rw [harr] at hC
 unfold wpList
 rw [if_pos (wantedN hg)]
 left
 unfold Oper.wp
 simp only [hop,execOp,resolve,hv,Deferred.ofValue,Sem.run_bind,Sem.run_pure,Result.andThen_ok,invoke,callFunc,run_program,b1,b3,hbn,Bool.false_eq_true,if_false,Array.empty_append]
 refine Calls.mono hC fun e w' ⟨r,x',he,hR,hJ',hfr⟩=>?_
 subst he
 have ht:=(hsx.touch hF2 hfr).put hdN (av:=.any) (x:=r) fun E=>by simp [Rep,CRep]
 rw [← hd] at ht
 exact ⟨_,x',_,hq x' hR,ht,hJ'⟩
theorem aw_cut {c:Cx} {st:St} {Q:Exit→St→Prop} {id:Nat} {ops:Array Oper} (n:Nat) (hc:c.OK)
  (h:RunQ (Types c.P) c.X ops c.N st.nx (ops.toList.take n) 0 st.s st.m fun s m=>∃ s' m',Le c.bl.n ⟨s,m,st.nx+16*(0+(ops.toList.take n).length)⟩ ⟨s',m',st.nx+16*(0+(ops.toList.take n).length)⟩ ∧
   RunQ (Types c.P) c.X ops c.N st.nx (ops.toList.drop n) (0+(ops.toList.take n).length) s' m' fun s m=>Q .normal ⟨s,m,st.nx+16*ops.size⟩):AW c (.region id ops false) st Q:=by
 rintro a w ⟨E,h1,h2,h3⟩
 obtain ⟨s1,m1,hpre,s2,m2,hle,s3,m3,hrest,hq⟩:=h
 obtain ⟨rs,hrs⟩:=recs_of_run hpre
 obtain ⟨rs2,hrs2⟩:=recs_of_run hrest
 refine wp_region_list ?_
 have key:=run_then hc.x (ops:=ops) (rest:=ops.toList.drop n) (Q:=fun e a' w'=>∃ st',Q e st'∧Sat c.N c.w0 c.bl a' w' st') hrs h1 (by simpa using h2) (by simpa using h3) fun E1 a1 w1 p1 p2 p3=>by
  obtain ⟨E2,q1,q2,q3⟩:=hle _ _ _ _ _ rfl ⟨E1,p1,p2,p3⟩
  refine run_ordered hc.x hrs2 q1 q2 q3 fun E3 a3 w3 z1 z2 z3=>⟨_,hq,E3,z1,?_,?_⟩
  ·intro k hk
   have:=z2 k hk
   have e:0+(ops.toList.take n).length+(ops.toList.drop n).length=ops.size:=by
    rw [Nat.zero_add,← List.length_append,List.take_append_drop];simp
   rw [e] at this
   exact this
  ·intro k hk
   have:=z3 k hk
   have e:0+(ops.toList.take n).length+(ops.toList.drop n).length=ops.size:=by
    rw [Nat.zero_add,← List.length_append,List.take_append_drop];simp
   rw [e] at this
   exact this
 rw [List.take_append_drop] at key
 exact key
theorem aw_cutK {c:Cx} {st:St} {Q:Exit→St→Prop} {id:Nat} {ops:Array Oper} (n:Nat) (hc:c.OK)
  (h:∀ K:List (Nat×AV)→List (Nat×AO)→Prop,(∀ s m,(∃ s' m',Le c.bl.n ⟨s,m,st.nx+16*(0+(ops.toList.take n).length)⟩ ⟨s',m',st.nx+16*(0+(ops.toList.take n).length)⟩ ∧
   RunQ (Types c.P) c.X ops c.N st.nx (ops.toList.drop n) (0+(ops.toList.take n).length) s' m' fun s m=>Q .normal ⟨s,m,st.nx+16*ops.size⟩)→K s m)→RunQ (Types c.P) c.X ops c.N st.nx (ops.toList.take n) 0 st.s st.m K):AW c (.region id ops false) st Q :=
 aw_cut n hc (h _ fun _ _ hh=>hh)
end Go.AM
