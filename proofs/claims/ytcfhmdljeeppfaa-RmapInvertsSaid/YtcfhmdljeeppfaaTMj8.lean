/- A part of the proof: what functions of the program compute, by abstract execution of their code. Its theorems hold without further condition. -/
import Derived.Test.YtcfhmdljeeppfaaTMj1
import Derived.Test.YtcfhmdljeeppfaaAmZa
set_option linter.all false
namespace Go.AM
open Go
theorem inside_f {T:List Tb} {n:Nat} {e:Int×Int}:∀ {k i:Nat},i<k→e∈nmT (lstT (tbG T i))→(n:Int)≤e.2→inside T n k=false
 | 0,i,h,_,_=>by omega
 | k+1,i,h,he,hge=>by
  rw [inside]
  rcases Nat.lt_succ_iff_lt_or_eq.1 h with h1|rfl
  ·rw [inside_f h1 he hge];rfl
  ·have:((nmT (lstT (tbG T i))).all fun e=>decide (e.2<(n:Int)))=false:=by
    rw [List.all_eq_false]
    exact ⟨e,he,by simp;omega⟩
   rw [this,Bool.and_false]
theorem nmE_rg {pg:Int} {v:Nat} {k num er:Int} {b1 b2 b3 hgh:Bool} (hD:decR v=((k,num,b1,b2,b3,hgh),er)) (hk:k=1∨k=3) (hh:hgh=true→k=1) :
  nmE (pg,v)=(List.range (if hgh then 8 else 1)).map fun i=>(pg+(i:Nat),num+(i:Nat)):=by
 unfold nmE
 rw [hD]
 simp only
 cases hgh with
 | true=>rw [if_pos ⟨hh rfl,rfl⟩];rfl
 | false =>
  rw [if_neg (by simp),if_pos hk]
  simp
theorem nmT_of {l:List Pe} {j:Nat} (hj:j<l.length) {e:Int×Int} (he:e∈nmE (gpe l j)):e∈nmT l:=by
 unfold nmT
 exact List.mem_flatMap.2 ⟨_,gpe_mem hj,he⟩
theorem has_t {T:List Tb} {i:Nat} {pg f:Int} (hT:∀ t∈T,tbOK t∧chk t=0) (h8:T.length≤8) (hi:i<T.length) (he:(pg,f)∈nmT (lstT (tbG T i))) :
  chkM (ofT T f)=0∧((i:Int),pg)∈ofT T f:=by
 have e8:T.take 8=T:=List.take_of_length_le h8
 have hT2:∀ t∈T,tbOK t∧Vt t:=fun t ht=>by
  obtain ⟨h1,h2⟩:=hT t ht
  obtain ⟨r,ns,ds⟩:=t
  exact ⟨h1,(chk_iff h1).1 h2⟩
 unfold ofT
 rw [e8]
 exact ⟨ofA_chk hT2 h8,ofA_mem.2 ⟨i,hi,rfl,he⟩⟩
theorem ofT_len {T:List Tb} {f:Int}:(ofT T f).length≤32768:=by
 unfold ofT
 have h1:=@ofA_len (T.take 8) f (T.take 8).length
 have h2:(T.take 8).length≤8:=List.length_take_le _ _
 omega
theorem gmm_maps {T:List Tb} {n f:Nat} (h:f<n):gmm (mapsT T n) f=ofT T (f:Int):=by
 rw [gmm_eq (by simp [mapsT];omega)]
 simp [mapsT]
theorem mrows_set {ms:List (List Dp)} {i:Nat} {R:List Dp}:(mrows ms).set i [.rd 2 (prows R)]=mrows (ms.set i R):=by
 simp [mrows,List.map_set,mrow]
theorem mss_set {ms:List (List Dp)} {i:Nat} {R:List Dp} (h:MssOK ms) (hR:R.length≤1000000):MssOK (ms.set i R):=⟨by simpa using h.1,fun q hq=>by
 rcases List.mem_or_eq_of_mem_set hq with h1|rfl
 ·exact h.2 q h1
 ·exact hR⟩
theorem inv_set {T:List Tb} {ms:List (List Dp)} {i:Nat} {R:List Dp} (hms:ms=mapsT T ms.length) (hi:i<ms.length) (hR:R.length≠(gmm ms i).length):invT T (ms.set i R)=false:=by
 rw [invT_eq]
 have:mapsT T (ms.set i R).length≠ms.set i R:=fun e=>by
  rw [List.length_set,← hms] at e
  have e2:(gmm ms i).length=(gmm (ms.set i R) i).length:=congrArg (fun l=>(gmm l i).length) e
  rw [gmm_eq (ls:=ms.set i R) (by simpa using hi)] at e2
  simp only [List.getElem_set_self] at e2
  exact hR e2.symm
 rw [decide_eq_false this,Bool.and_false]
theorem cntA_le {ts:List Tb}:∀ {k:Nat},cntA ts k≤4096*k
 | 0=>by simp [cntA]
 | k+1=>by
  have ih:=@cntA_le ts k
  have h2:=@nmT_len (lstT (tbG ts k))
  have h3:=@lstT_l5 (tbG ts k)
  simp only [cntA]
  omega
end Go.AM
namespace Go.AM
open Go
def Env.shut (E:Env) (b:Nat):Env:={ G:=fun k=>E.G k∨∃ base sz,E.loc b=some (k,base,sz),alive:=E.alive,ver:=fun c=>if c=b then E.ver c+1 else E.ver c,loc:=fun c=>if c=b then none else E.loc c }
theorem SatF.shut {N:Nat} {w0:World} {bl:Bk} {E:Env} {a:Act} {w:World} {g:Nat→AV} {m:Nat→AO} {b v s:Nat} {f:Bool} {xs:List (List AV)} (h:SatF N w0 bl E a w g m) (hb:E.alive b) (hm:m b=.vec v s f xs) :
  SatF N w0 bl (E.shut b) a w g (fun c=>if c=b then .dead else m c)∧E.Le (E.shut b)∧∀ x,Rep E w (.sl b v s 0 xs.length) x→Rep (E.shut b) w (.rd s xs) x:=by
 have ho:=h.mem b hb
 rw [hm] at ho
 simp only [ObjRep] at ho
 obtain ⟨o1,o2,o3⟩:=ho
 have hle:E.Le (E.shut b):=⟨fun k hk=>.inl hk,fun c hc=>hc,fun c hc=>by
  by_cases e:c=b
  ·subst e
   exact .inr ⟨by rw [o1];exact o2,by simp [Env.shut]⟩
  ·exact .inl (by simp [Env.shut,e])⟩
 have hG:∀ k,(E.shut b).G k→E.G k∨∃ base sz,E.loc b=some (k,base,sz):=fun k hk=>hk
 have I:=h.inv
 refine ⟨⟨h.defers,h.size,⟨I.frame,I.gin.trans hle,I.low,fun k hk=>?_,fun k hk=>?_,fun c blk base sz hc hl=>?_,fun c c' blk base sz base' sz' hc hc' hl hl'=>?_⟩,fun c hc=>?_,fun t=>(h.slots t).mono hle fun _ _=>rfl⟩,hle,fun x hx=>?_⟩
 ·rcases hG k hk with hk|⟨base,sz,hl⟩
  ·exact I.gout k hk
  ·exact .inr (I.locs b k base sz hb hl).2.2
 ·rcases hG k hk with hk|⟨base,sz,hl⟩
  ·exact I.good k hk
  ·exact (I.locs b k base sz hb hl).1
 ·by_cases e:c=b
  ·simp [Env.shut,e] at hl
  ·simp only [Env.shut,if_neg e] at hl
   obtain ⟨l1,l2,l3⟩:=I.locs c blk base sz hc hl
   refine ⟨l1,fun hk=>?_,l3⟩
   rcases hG blk hk with hk|⟨base',sz',hl'⟩
   ·exact l2 hk
   ·exact e (I.apart c b blk base sz base' sz' hc hb hl hl')
 ·by_cases e:c=b
  ·simp [Env.shut,e] at hl
  ·by_cases e':c'=b
   ·simp [Env.shut,e'] at hl'
   ·simp only [Env.shut,if_neg e] at hl
    simp only [Env.shut,if_neg e'] at hl'
    exact I.apart c c' blk base sz base' sz' hc hc' hl hl'
 ·by_cases e:c=b
  ·simp only [e,if_true];trivial
  ·simp only [if_neg e]
   exact ObjRep.mono hle (fun _ _=>rfl) (by simp [Env.shut,e]) (by simp [Env.shut,e]) (fun _ _ _ _=>rfl) (h.mem c hc)
 ·simp only [Rep] at hx
  obtain ⟨_,_,_,p,c,rfl,h2,h3,h4⟩:=hx
  have h4:=h4 o1.symm
  simp only [Rep,CRep]
  refine ⟨p,c,rfl,h2,h3,?_⟩
  cases hl:E.loc b with
  | none=>rw [hl] at o3;exact .inl o3
  | some l =>
   obtain ⟨blk,base,sz⟩:=l
   rw [hl] at h4 o3
   simp only [SlAt] at h4 o3
   obtain ⟨ad,rfl,h5,_⟩:=h4
   obtain ⟨cs,t,_,_,_,_,_,hr⟩:=o3
   by_cases e:xs=[]
   ·exact .inl e
   ·right
    have:0<xs.length:=List.length_pos_iff.2 e
    refine ⟨blk,base,?_,.inr ⟨base,sz,hl⟩,hr.mono (fun k hk=>.inl hk) (fun _ _=>rfl) (.inl rfl)⟩
    rcases h5 with h5|h5
    ·omega
    ·rw [h5];simp
theorem le_seal {n:Nat} {s:List (Nat×AV)} {m:List (Nat×AO)} {nx t b v sz:Nat} {f:Bool} {xs:List (List AV)} (ht:getS s t=.sl b v sz 0 xs.length) (hm:getM m b=.vec v sz f xs) :
  Le n ⟨s,m,nx⟩ ⟨(t,.rd sz xs)::s,(b,.dead)::m,nx⟩:=fun N w0 bl a w _ ⟨E,hs,h1,h2⟩=>by
 have hr:=hs.slots t
 rw [ht] at hr
 have hb:E.alive b:=by simp only [Rep] at hr;exact hr.1
 obtain ⟨k1,k2,k3⟩:=hs.shut hb hm
 refine ⟨_,⟨k1.defers,k1.size,k1.inv,fun c hc=>?_,fun k=>?_⟩,fun k hk=>h1 k hk,fun k hk=>?_⟩
 ·have:=k1.mem c hc
  simp only [getM]
  by_cases e:b=c
  ·subst e;simpa using this
  ·rw [if_neg e]
   rw [if_neg (Ne.symm e)] at this
   exact this
 ·simp only [getS]
  by_cases e:t=k
  ·subst e;rw [if_pos rfl];exact k3 _ hr
  ·rw [if_neg e];exact k1.slots k
 ·simp only [getM] at hk
  split at hk
  ·exact absurd rfl hk
  ·exact h2 k hk
end Go.AM
namespace Go.AM
open Go Go.Proofs
@[simp] theorem tyU8F:Types Try.prog 5=some ⟨.int .u8,1,1,[.int .u8 0]⟩:=by kernel_rfl
structure LawI (X:AX):Prop where
 ok:XOK Try.prog X
 w:X.W wT
 aw:∀ M n,X.call 11 [] M n=some (B true,[])
 ck:∀ t:Tb,tbOK t→∀ M n,X.call 28 [TbV t] M n=some (I (chk t),[])
 cl:∀ t:Tb,tbL t→∀ M n,X.call 28 [TbV t] M n=some (I (numB t),[])
 of:∀ (ts:List Tb) (f:Int),((∀ t∈ts,tbOK t)∧ts.length≤1000000)→∀ M n,X.call 13 [.rd 3 (tbrows ts),I f] M n=some (.rd 2 (prows (ofT ts f)),[])
 li:∀ t:Tb,tbOK t→∀ M n,X.call 29 [TbV t] M n=some (.rd 2 (erows (lstT t)),[])
 de:∀ w:Nat,w<2^64→∀ M k,X.call 30 [U w] M k=some (.tup [EnV (decR w).1,I (decR w).2],[])
 ha:∀ (l:List Dp) (a b:Int),l.length≤1000000→∀ M n,X.call 32 [.rd 2 (prows l),.agg [I a,I b]] M n=some (B (decide (chkM l=0∧(a,b)∈l)),[])
 inv:∀ (ts:List Tb) (ms:List (List Dp)),((∀ t∈ts,tbOK t)∧ts.length≤1000000∧MssOK ms∧0<ms.length)→∀ (b v:Nat) (f:Bool) (M:Nat→AO) (n:Nat),M b=.vec v 1 f (mrows ms)→X.call 31 [.rd 3 (tbrows ts),.sl b v 1 0 ms.length] M n=some (B (invT ts ms),[])
def tsI (ts:List Tb):Prop:=∀ t∈ts,tbF t∧t.2.2.length≤9223372036854775807
def okT (t:Tb):Prop:=t.2.1.length≤80∧tbOK t∧chk t=0
set_option maxHeartbeats 16000000 in
theorem s8 (X:AX) (L:LawI X):PSound Try.prog 8 (specF (ι:={x:List Tb×Nat // tsI x.1∧x.2<256}) (fun x=>[.rd 3 (tbrows x.1.1),.v (.int .u8 x.1.2)]) fun _=>retOf [B true]):=by
 have hX:=L.ok
 have hw:=L.w
 have aw:=L.aw
 refine psound_spec hX mixed Try.func8 rfl fun ⟨⟨ts,at0⟩,htf,hat⟩ w0 G=>⟨by show 2≤178;decide,rfl,?_⟩
 show AW ⟨Try.prog,X,178,w0,.pure G⟩ _ _ _
 have hc:Cx.OK ⟨Try.prog,X,178,w0,.pure G⟩:=⟨hX,mixed⟩
 simp only at htf hat ⊢
 rcases Decidable.em (ts.length≤4) with h4|h4
 ·have h4I:¬ (4:Int)<(ts.length:Int):=by omega
  have h4N:¬ 4<ts.length:=by omega
  have zS:=jj aw<|jj h4I<|h4N
  repeat' (first|(apply aw_seq_k;intro K hK)|(refine eM64 ?_)|(refine aw_cond (b:=_) (by exact rfl) (fun h=>?_) (fun h=>?_)<;>(try simp at h))|(refine eB ?_)|(refine hK _ ?_;clear hK)|(clear hK;refine hK _ ?_;clear hK)|(clear hK;clear hK;refine hK _ ?_;clear hK)|(clear hK;clear hK;clear hK;refine hK _ ?_;clear hK))
  all_goals clear zS
  refine aw_loopK (s0:=?lps1) (m0:=?lpm1) (ι:={i:Nat // i≤ts.length∧∀ j,j<i→okT (tbG ts j)}) [0,1,31,32] (fun i=>[(33,I i.1)]) (fun i=>[]) (fun i=>ts.length - i.1) ⟨0,by omega,by omega⟩ ?lhs1 ?lhm1 ?_ ?_
  case lhs1=>first|(simp [keepS];done)|(simp [keepS];rfl)
  case lhm1=>first|rfl|(simp;done)|(simp;rfl)
  ·exact dle
  ·rintro ⟨i,hi,hinv⟩
   simp only
   rcases Decidable.em (i<ts.length) with hil|hil
   ·have hilI:(i:Int)<(ts.length:Int):=by omega
    have hg:=tbrows_gi hil
    have hgE:=tbrows_gE hil
    have htt:=htf _ (tbG_mem hil)
    have hinv2:okT (tbG ts i)→∀ j,j<i+1→okT (tbG ts j):=fun h j hj=>by
     rcases Nat.lt_succ_iff_lt_or_eq.1 hj with h5|rfl
     ·exact hinv j h5
     ·exact h
    obtain ⟨⟨r,ns,ds⟩,ht0⟩:∃ t,t=tbG ts i:=⟨_,rfl⟩
    rw [← ht0] at hg hgE htt hinv2
    simp only at hg hgE htt
    rcases Decidable.em (ns.length≤80) with h8|h8
    ·have h8I:¬ (80:Int)<(ns.length:Int):=by omega
     have h8N:¬ 80<ns.length:=by omega
     rcases Decidable.em (ds.length≤64) with hd|hd
     ·have hok:tbOK (r,ns,ds):=⟨htt.1,by show ns.length≤1000000;omega,by show ds.length≤1000000;omega⟩
      have ck:=L.ck _ hok
      have hinv3:chk (r,ns,ds)=0→∀ j,j<i+1→okT (tbG ts j):=fun h=>hinv2 ⟨h8,hok,h⟩
      obtain ⟨c,hcc⟩:∃ c,c=chk (r,ns,ds):=⟨_,rfl⟩
      rw [← hcc] at ck hinv3
      simp only [TbV] at ck
      rcases Decidable.em (c=0) with hc0|hc0
      ·subst hc0
       have hh:=hinv3 rfl
       clear hcc hinv2 hinv3
       have zS:=jj hilI<|jj hg<|jj hgE<|jj h8I<|jj h8N<|ck
       repeat' (first|(apply aw_seq_k;intro K hK)|(refine eM64 ?_)|(refine aw_cond (b:=_) (by exact rfl) (fun h=>?_) (fun h=>?_)<;>(try simp at h))|(refine eB ?_)|(refine hK _ ?_;clear hK)|(clear hK;refine hK _ ?_;clear hK)|(clear hK;clear hK;refine hK _ ?_;clear hK)|(clear hK;clear hK;clear hK;refine hK _ ?_;clear hK))
       all_goals clear zS
       refine ⟨i+1,?_,⟨by omega,hh⟩,by omega⟩
       exact dle
      ·clear hcc hinv2 hinv3
       have zS:=jj hilI<|jj hg<|jj hgE<|jj h8I<|jj h8N<|jj ck<|hc0
       repeat' (first|(apply aw_seq_k;intro K hK)|(refine eM64 ?_)|(refine aw_cond (b:=_) (by exact rfl) (fun h=>?_) (fun h=>?_)<;>(try simp at h))|(refine eB ?_)|(refine hK _ ?_;clear hK)|(clear hK;refine hK _ ?_;clear hK)|(clear hK;clear hK;refine hK _ ?_;clear hK)|(clear hK;clear hK;clear hK;refine hK _ ?_;clear hK))
       all_goals clear zS
       refine ⟨by simp,?_⟩
       simp [leaves_iff,Try.f8]
       try exact dt
     ·have hol:tbL (r,ns,ds):=⟨htt.1,by show ns.length≤1000000;omega,by show 64<ds.length;omega,htt.2⟩
      have ck:=L.cl _ hol
      have hne:=numB_long (t:=(r,ns,ds)) hol.2.2.1
      obtain ⟨c,hcc⟩:∃ c,c=numB (r,ns,ds):=⟨_,rfl⟩
      rw [← hcc] at ck hne
      simp only [TbV] at ck
      clear hcc hinv2
      have zS:=jj hilI<|jj hg<|jj hgE<|jj h8I<|jj h8N<|jj ck<|hne
      repeat' (first|(apply aw_seq_k;intro K hK)|(refine eM64 ?_)|(refine aw_cond (b:=_) (by exact rfl) (fun h=>?_) (fun h=>?_)<;>(try simp at h))|(refine eB ?_)|(refine hK _ ?_;clear hK)|(clear hK;refine hK _ ?_;clear hK)|(clear hK;clear hK;refine hK _ ?_;clear hK)|(clear hK;clear hK;clear hK;refine hK _ ?_;clear hK))
      all_goals clear zS
      refine ⟨by simp,?_⟩
      simp [leaves_iff,Try.f8]
      try exact dt
    ·have h8I:(80:Int)<(ns.length:Int):=by omega
     have h8N:80<ns.length:=by omega
     clear hinv2
     have zS:=jj hilI<|jj hg<|jj hgE<|jj h8I<|h8N
     repeat' (first|(apply aw_seq_k;intro K hK)|(refine eM64 ?_)|(refine aw_cond (b:=_) (by exact rfl) (fun h=>?_) (fun h=>?_)<;>(try simp at h))|(refine eB ?_)|(refine hK _ ?_;clear hK)|(clear hK;refine hK _ ?_;clear hK)|(clear hK;clear hK;refine hK _ ?_;clear hK)|(clear hK;clear hK;clear hK;refine hK _ ?_;clear hK))
     all_goals clear zS
     refine ⟨by simp,?_⟩
     simp [leaves_iff,Try.f8]
     try exact dt
   ·obtain rfl:i=ts.length:=by omega
    repeat' (first|(apply aw_seq_k;intro K hK)|(refine eM64o ?_)|(refine aw_cond (b:=_) (by exact rfl) (fun h=>?_) (fun h=>?_)<;>(try simp at h))|(refine eB ?_)|(refine hK _ ?_;clear hK)|(clear hK;refine hK _ ?_;clear hK)|(clear hK;clear hK;refine hK _ ?_;clear hK)|(clear hK;clear hK;clear hK;refine hK _ ?_;clear hK))
    have hTo:∀ t∈ts,tbOK t:=fun t ht=>by
     obtain ⟨j,hj,rfl⟩:=List.getElem_of_mem ht
     have:=hinv j hj
     rw [tbG_eq hj] at this
     exact this.2.1
    have of:=fun f=>L.of ts f ⟨hTo,by omega⟩
    obtain ⟨Fm,hFm⟩:∃ Fm:Nat→List (List Dp),∀ i,Fm i=mapsT ts i:=⟨_,fun _=>rfl⟩
    have hF0:Fm 0=[]:=by rw [hFm];rfl
    have hFl:∀ i,(Fm i).length=i:=fun i=>by rw [hFm];simp [mapsT]
    have hFs:∀ i:Nat,mrows (Fm i)++[[.rd 2 (prows (ofT ts (i:Int)))]]=mrows (Fm (i+1)):=fun i=>by
     rw [hFm,hFm]
     simp [mapsT,mrows,mrow,List.range_succ]
    refine aw_weaken (le_nilslot (t:=7) (sz:=1) (by simp)) ?_
    refine aw_loopK (s0:=?lps2) (m0:=?lpm2) (ι:={i:Nat // i≤256}) [0,1] (fun i=>[(47,I i.1),(7,.sl 224 1 1 0 i.1)]) (fun i=>[(224,.vec 1 1 false (mrows (Fm i.1)))]) (fun i=>256 - i.1) ⟨0,by omega⟩ ?lhs2 ?lhm2 ?_ ?_
    case lhs2=>first|(simp [keepS];done)|(simp [keepS];rfl)
    case lhm2=>first|rfl|(simp;done)|(simp;rfl)
    ·simp only [hF0]
     exact le_of2 (by simp) (by simp [AVle,AV.under,AV.underL,mrows]<;>omega) (by simp [AOle,AO.under,AV.underL,AV.under,mrows]<;>omega)
    ·rintro ⟨i,hi⟩
     simp only
     rcases Decidable.em (i<256) with hil|hil
     ·have hilI:(i:Int)<256:=by omega
      have ofi:=of i
      have hfs:=hFs i
      have hfl:=hFl i
      have htk:List.take i (mrows (Fm i))=mrows (Fm i):=List.take_of_length_le (by simp [hfl])
      obtain ⟨O,hO⟩:∃ O,O=ofT ts (i:Int):=⟨_,rfl⟩
      rw [← hO] at ofi hfs
      have zS:=jj hilI<|jj ofi<|jj hfs<|jj hfl<|htk
      repeat' (first|(apply aw_seq_k;intro K hK)|(refine eM64 ?_)|(refine aw_cond (b:=_) (by exact rfl) (fun h=>?_) (fun h=>?_)<;>(try simp at h))|(refine eB ?_)|(refine hK _ ?_;clear hK)|(clear hK;refine hK _ ?_;clear hK)|(clear hK;clear hK;refine hK _ ?_;clear hK)|(clear hK;clear hK;clear hK;refine hK _ ?_;clear hK))
      all_goals clear zS
      refine ⟨i+1,?_,by omega,by omega⟩
      refine le_turn (s1:=?tus3) (m1:=?tum3) [] [0,1,7,47] [224] ?tua3 ?tub3 ?tuc3 ?tud3 ?tue3 ?tuf3 ?tug3
      case tua3=>first|(simp [keepS];done)|(simp [keepS];rfl)
      case tub3=>first|(simp;done)|(simp;rfl)
      case tuc3=>simp
      case tud3=>simp
      case tue3=>simp
      case tuf3=>simp
      case tug3 =>
       simp [swp,vr]
       exact dle
     ·obtain rfl:i=256:=by omega
      repeat' (first|(apply aw_seq_k;intro K hK)|(refine eM64o ?_)|(refine aw_cond (b:=_) (by exact rfl) (fun h=>?_) (fun h=>?_)<;>(try simp at h))|(refine eB ?_)|(refine hK _ ?_;clear hK)|(clear hK;refine hK _ ?_;clear hK)|(clear hK;clear hK;refine hK _ ?_;clear hK)|(clear hK;clear hK;clear hK;refine hK _ ?_;clear hK))
      have hm256:Fm 256=mapsT ts 256:=hFm 256
      have hml:(mapsT ts 256).length=256:=by simp [mapsT]
      rw [hm256]
      obtain ⟨ms,hms⟩:∃ ms,ms=mapsT ts 256:=⟨_,rfl⟩
      rw [← hms] at hml ⊢
      clear of hFl hFs hF0 hFm hm256
      refine aw_loopK (s0:=?lps4) (m0:=?lpm4) (ι:={i:Nat // i≤ts.length∧inside ts 256 i=true}) [0,1,7,57,58] (fun i=>[(59,I i.1),(9,I (cntA ts i.1))]) (fun i=>[]) (fun i=>ts.length - i.1) ⟨0,by omega,rfl⟩ ?lhs4 ?lhm4 ?_ ?_
      case lhs4=>first|(simp [keepS];done)|(simp [keepS];rfl)
      case lhm4=>first|rfl|(simp;done)|(simp;rfl)
      ·simp only [cntA]
       exact dle
      ·rintro ⟨i,hi,hin⟩
       simp only
       rcases Decidable.em (i<ts.length) with hil|hil
       ·have hilI:(i:Int)<(ts.length:Int):=by omega
        have hg:=tbrows_gi hil
        have hgE:=tbrows_gE hil
        have hok:=hinv i hil
        have li:=L.li _ hok.2.1
        have hlu:=lst_u64 hok.2.1
        have hlp:=@lst_pg (tbG ts i)
        have hll:=@lstT_l5 (tbG ts i)
        obtain ⟨l,hL⟩:∃ l,l=lstT (tbG ts i):=⟨_,rfl⟩
        rw [← hL] at li hlu hlp hll
        obtain ⟨⟨r,ns,ds⟩,ht0⟩:∃ t,t=tbG ts i:=⟨_,rfl⟩
        rw [← ht0] at hg hgE li
        have hL0:l=lstT (r,ns,ds):=by rw [hL,ht0]
        simp only [TbV] at hg hgE li
        have zS:=jj hilI<|jj hg<|jj hgE<|li
        repeat' (first|(apply aw_seq_k;intro K hK)|(refine eM64 ?_)|(refine aw_cond (b:=_) (by exact rfl) (fun h=>?_) (fun h=>?_)<;>(try simp at h))|(refine eB ?_)|(refine hK _ ?_;clear hK)|(clear hK;refine hK _ ?_;clear hK)|(clear hK;clear hK;refine hK _ ?_;clear hK)|(clear hK;clear hK;clear hK;refine hK _ ?_;clear hK))
        all_goals clear zS
        refine aw_loopK (s0:=?lps5) (m0:=?lpm5) (ι:={j:Nat // j≤l.length∧∀ e∈nmT (l.take j),e.2<256}) [0,1,7,10,57,58,59,65,66] (fun j=>[(67,I j.1),(9,I ((cntA ts i+(nmT (l.take j.1)).length:Nat):Int))]) (fun j=>[]) (fun j=>l.length - j.1) ⟨0,by omega,by simp [nmT]⟩ ?lhs5 ?lhm5 ?_ ?_
        case lhs5=>first|(simp [keepS];done)|(simp [keepS];rfl)
        case lhm5=>first|rfl|(simp;done)|(simp;rfl)
        ·have e0:cntA ts i+(nmT (l.take 0)).length=cntA ts i:=by simp [nmT]
         simp only [e0]
         exact le_of2 (by simp) (by simp [AVle,AV.under,AV.underL,tidyM]<;>omega) (by simp [AOle,AO.under,AV.underL,AV.under,tidyM]<;>omega)
        ·rintro ⟨j,hj,hjn⟩
         simp only
         rcases Decidable.em (j<l.length) with hjl|hjl
         ·have hjI:(j:Int)<(l.length:Int):=by omega
          have hg1:=erows_giM hjl
          have hgE1:=erows_gEM hjl
          have hu:=hlu _ (gpe_mem hjl)
          have de:=L.de _ hu
          have hns:=nmT_s hjl
          have hrg:=decR_rng (gpe l j).2
          have hpg:=hlp _ (gpe_mem hjl)
          have hhg:=@decR_hug (gpe l j).2
          have hnE0:=@nmE.eq_1 (gpe l j)
          obtain ⟨N,hN⟩:∃ N,N=nmT (l.take j):=⟨_,rfl⟩
          rw [← hN] at hns hjn ⊢
          obtain ⟨⟨pg,v⟩,hx⟩:∃ x,x=gpe l j:=⟨_,rfl⟩
          rw [← hx] at hg1 hgE1 hu hpg de hrg hns hhg hnE0
          simp only at hg1 hgE1 hu hpg de hrg hhg hnE0
          obtain ⟨⟨⟨k,num,b1,b2,b3,hgh⟩,er⟩,hD⟩:∃ x,x=decR v:=⟨_,rfl⟩
          rw [← hD] at de hrg hhg hnE0
          simp only at de hrg hhg hnE0
          simp only [EnV] at de
          rcases Decidable.em (k=1∨k=3) with hk|hk
          ·clear hnE0
           have hnr:=nmE_rg (pg:=pg) hD.symm hk hhg
           have hnm:∀ e∈nmE (pg,v),e∈nmT (lstT (tbG ts i)):=fun e he=>by
            rw [← ht0,← hL0]
            exact nmT_of hjl (by rw [← hx];exact he)
           obtain ⟨P,hP⟩:∃ P:Nat,P=if hgh then 8 else 1:=⟨_,rfl⟩
           rw [← hP] at hnr
           have hmI:∀ e,e∈nmE (pg,v)↔∃ c:Nat,c<P∧e=(pg+(c:Int),num+(c:Int)):=fun e=>by
            rw [hnr]
            simp only [List.mem_map,List.mem_range]
            constructor
            ·rintro ⟨c,h1,rfl⟩;exact ⟨c,h1,rfl⟩
            ·rintro ⟨c,h1,rfl⟩;exact ⟨c,h1,rfl⟩
           have hnl:(nmE (pg,v)).length=P:=by rw [hnr];simp
           have hmok:MssOK ms:=⟨by omega,fun q hq=>by
            obtain ⟨j,hj,rfl⟩:=List.getElem_of_mem hq
            rw [← gmm_eq hj,hms,gmm_maps (by omega)]
            have:=@ofT_len ts (j:Int)
            omega⟩
           have iv:=L.inv ts ms ⟨hTo,by omega,hmok,by omega⟩
           rw [hml] at iv
           have e8:ts.take 8=ts:=List.take_of_length_le (by omega)
           have hTz:∀ t∈ts,tbOK t∧chk t=0:=fun t ht=>by
            obtain ⟨j,hj,rfl⟩:=List.getElem_of_mem ht
            have:=hinv j hj
            rw [tbG_eq hj] at this
            exact this.2
           have hiF:∀ e∈nmE (pg,v),256≤e.2→invT ts ms=false:=fun e he h256=>by
            rw [invT_eq,e8,hml,inside_f hil (hnm e he) h256,Bool.false_and]
           have hHas:∀ (f c:Nat),f<256→c<P→num+(c:Int)=(f:Int)→∀ M n,X.call 32 [.rd 2 (prows (gmm ms f)),.agg [I i,I (pg+(c:Int))]] M n=some (B true,[]):=fun f c hf hcP hfc M n=>by
            have e1:gmm ms f=ofT ts (f:Int):=by rw [hms,gmm_maps hf]
            have e2:=@ofT_len ts (f:Int)
            rw [L.ha _ _ _ (by rw [e1];omega) M n,e1,decide_eq_true (has_t hTz (by omega) hil (hnm _ ((hmI _).2 ⟨c,hcP,by rw [hfc]⟩)))]
           have hCi:=@cntA_le ts i
           have hNb:N.length≤4096:=by
            have h2:=@nmT_len (l.take j)
            have h3:(l.take j).length≤512:=by simp;omega
            rw [← hN] at h2
            omega
           have hP8:P≤8:=by rw [hP];split<;>omega
           have hcs:(k=1∧hgh=false∧P=1)∨(k=1∧hgh=true∧P=8)∨(k=3∧hgh=false∧P=1):=by
            cases hgh with
            | false=>rcases hk with h|h<;>simp [h,hP]
            | true=>simp [hhg rfl,hP]
           clear hk hhg hP hD
           rcases hcs with ⟨rfl,rfl,hP⟩|⟨rfl,rfl,hP⟩|⟨rfl,rfl,hP⟩
           ·have hPI:(P:Int)=1:=by omega
            have zS:=jj hjI<|jj hg1<|jj hgE1<|de
            repeat' (first|(apply aw_seq_k;intro K hK)|(refine eM64 ?_)|(refine aw_cond (b:=_) (by exact rfl) (fun h=>?_) (fun h=>?_)<;>(try simp at h))|(refine eB ?_)|(refine hK _ ?_;clear hK)|(clear hK;refine hK _ ?_;clear hK)|(clear hK;clear hK;refine hK _ ?_;clear hK)|(clear hK;clear hK;clear hK;refine hK _ ?_;clear hK))
            all_goals clear zS
            refine aw_loopK (s0:=?lps6) (m0:=?lpm6) (ι:={c:Nat // c≤P∧∀ q:Nat,q<c→num+(q:Int)<256}) [0,1,7,10,13,14,57,58,59,65,66,67,87] (fun c=>[(88,I c.1),(87,I (P:Int)),(9,I ((cntA ts i+N.length+c.1:Nat):Int))]) (fun c=>[]) (fun c=>P - c.1) ⟨0,by omega,by omega⟩ ?lhs6 ?lhm6 ?_ ?_
            case lhs6=>first|(simp [keepS];done)|(simp [keepS];rfl)
            case lhm6=>first|rfl|(simp;done)|(simp;rfl)
            ·exact le_of2 (by simp) (by simp [AVle,AV.under,AV.underL,tidyM,hPI,U]<;>omega) (by simp [AOle,AO.under,AV.underL,AV.under,tidyM,hPI,U]<;>omega)
            ·rintro ⟨c,hcP,hcn⟩
             simp only
             rcases Decidable.em (c<P) with hcl|hcl
             ·have hcI:(c:Int)<(P:Int):=by omega
              have hnum:¬ num+(c:Int)<0:=by omega
              rcases Decidable.em (num+(c:Int)<256) with hf|hf
              ·obtain ⟨f,hfe⟩:∃ f:Nat,num+(c:Int)=(f:Int):=⟨(num+(c:Int)).toNat,by omega⟩
               have hf2:f<256:=by omega
               have hfI:¬ (256:Int)≤(f:Int):=by omega
               have hfI2:¬ (f:Int)<0:=by omega
               have hm1:=mrows_gi (ls:=ms) (i:=f) (by omega)
               have hm2:=mrows_gE (ls:=ms) (i:=f) (by omega)
               have hh:=hHas f c hf2 hcl hfe
               obtain ⟨R,hR⟩:∃ R,R=gmm ms f:=⟨_,rfl⟩
               rw [← hR] at hm1 hm2 hh
               have zS:=jj hcI<|jj hfe<|jj hf2<|jj hfI<|jj hfI2<|jj hm1<|jj hm2<|jj hh<|hml
               repeat' (first|(apply aw_seq_k;intro K hK)|(refine eM64 ?_)|(refine aw_cond (b:=_) (by exact rfl) (fun h=>?_) (fun h=>?_)<;>(try simp at h))|(refine eB ?_)|(refine hK _ ?_;clear hK)|(clear hK;refine hK _ ?_;clear hK)|(clear hK;clear hK;refine hK _ ?_;clear hK)|(clear hK;clear hK;clear hK;refine hK _ ?_;clear hK))
               all_goals clear zS
               refine ⟨c+1,?_,⟨by omega,fun q hq=>by
                rcases Nat.lt_succ_iff_lt_or_eq.1 hq with h5|rfl
                ·exact hcn q h5
                ·exact hf⟩,by omega⟩
               exact le_of2 (by simp) (by simp [AVle,AV.under,AV.underL,U]<;>omega) (by simp [AOle,AO.under,AV.underL,AV.under,U]<;>omega)
              ·have iF:=hiF _ ((hmI _).2 ⟨c,hcl,rfl⟩) (by simp only;omega)
               rw [iF] at iv
               have hfI:(256:Int)≤num+(c:Int):=by omega
               have zS:=jj hcI<|jj hnum<|jj hfI<|jj iv<|hml
               repeat' (first|(apply aw_seq_k;intro K hK)|(refine eM64 ?_)|(refine aw_cond (b:=_) (by exact rfl) (fun h=>?_) (fun h=>?_)<;>(try simp at h))|(refine eB ?_)|(refine hK _ ?_;clear hK)|(clear hK;refine hK _ ?_;clear hK)|(clear hK;clear hK;refine hK _ ?_;clear hK)|(clear hK;clear hK;clear hK;refine hK _ ?_;clear hK))
               all_goals clear zS
               refine ⟨by simp,?_⟩
               simp [leaves_iff,Try.f8]
               try exact dt
             ·obtain rfl:c=P:=by omega
              repeat' (first|(apply aw_seq_k;intro K hK)|(refine eM64o ?_)|(refine aw_cond (b:=_) (by exact rfl) (fun h=>?_) (fun h=>?_)<;>(try simp at h))|(refine eB ?_)|(refine hK _ ?_;clear hK)|(clear hK;refine hK _ ?_;clear hK)|(clear hK;clear hK;refine hK _ ?_;clear hK)|(clear hK;clear hK;clear hK;refine hK _ ?_;clear hK))
              have hj2:∀ e∈nmT (l.take (j+1)),e.2<256:=by
               rw [hns]
               intro e he
               rcases List.mem_append.1 he with he|he
               ·exact hjn e he
               ·obtain ⟨q,hq,rfl⟩:=(hmI e).1 he
                exact hcn q hq
              refine ⟨j+1,?_,⟨by omega,fun a b he=>hj2 (a,b) he⟩,by omega⟩
              rw [hns,List.length_append,hnl,show ((cntA ts i:Nat):Int)+((N.length+c:Nat):Int)=(cntA ts i:Int)+(N.length:Int)+(c:Int) by omega]
              exact le_of2 (by simp) (by simp [AVle,AV.under,AV.underL,U]<;>omega) (by simp [AOle,AO.under,AV.underL,AV.under,U]<;>omega)
           ·have hPI:(P:Int)=8:=by omega
            have zS:=jj hjI<|jj hg1<|jj hgE1<|de
            repeat' (first|(apply aw_seq_k;intro K hK)|(refine eM64 ?_)|(refine aw_cond (b:=_) (by exact rfl) (fun h=>?_) (fun h=>?_)<;>(try simp at h))|(refine eB ?_)|(refine hK _ ?_;clear hK)|(clear hK;refine hK _ ?_;clear hK)|(clear hK;clear hK;refine hK _ ?_;clear hK)|(clear hK;clear hK;clear hK;refine hK _ ?_;clear hK))
            all_goals clear zS
            refine aw_loopK (s0:=?lps7) (m0:=?lpm7) (ι:={c:Nat // c≤P∧∀ q:Nat,q<c→num+(q:Int)<256}) [0,1,7,10,13,14,57,58,59,65,66,67,87] (fun c=>[(88,I c.1),(87,I (P:Int)),(9,I ((cntA ts i+N.length+c.1:Nat):Int))]) (fun c=>[]) (fun c=>P - c.1) ⟨0,by omega,by omega⟩ ?lhs7 ?lhm7 ?_ ?_
            case lhs7=>first|(simp [keepS];done)|(simp [keepS];rfl)
            case lhm7=>first|rfl|(simp;done)|(simp;rfl)
            ·exact le_of2 (by simp) (by simp [AVle,AV.under,AV.underL,tidyM,hPI,U]<;>omega) (by simp [AOle,AO.under,AV.underL,AV.under,tidyM,hPI,U]<;>omega)
            ·rintro ⟨c,hcP,hcn⟩
             simp only
             rcases Decidable.em (c<P) with hcl|hcl
             ·have hcI:(c:Int)<(P:Int):=by omega
              have hnum:¬ num+(c:Int)<0:=by omega
              rcases Decidable.em (num+(c:Int)<256) with hf|hf
              ·obtain ⟨f,hfe⟩:∃ f:Nat,num+(c:Int)=(f:Int):=⟨(num+(c:Int)).toNat,by omega⟩
               have hf2:f<256:=by omega
               have hfI:¬ (256:Int)≤(f:Int):=by omega
               have hfI2:¬ (f:Int)<0:=by omega
               have hm1:=mrows_gi (ls:=ms) (i:=f) (by omega)
               have hm2:=mrows_gE (ls:=ms) (i:=f) (by omega)
               have hh:=hHas f c hf2 hcl hfe
               obtain ⟨R,hR⟩:∃ R,R=gmm ms f:=⟨_,rfl⟩
               rw [← hR] at hm1 hm2 hh
               have zS:=jj hcI<|jj hfe<|jj hf2<|jj hfI<|jj hfI2<|jj hm1<|jj hm2<|jj hh<|hml
               repeat' (first|(apply aw_seq_k;intro K hK)|(refine eM64 ?_)|(refine aw_cond (b:=_) (by exact rfl) (fun h=>?_) (fun h=>?_)<;>(try simp at h))|(refine eB ?_)|(refine hK _ ?_;clear hK)|(clear hK;refine hK _ ?_;clear hK)|(clear hK;clear hK;refine hK _ ?_;clear hK)|(clear hK;clear hK;clear hK;refine hK _ ?_;clear hK))
               all_goals clear zS
               refine ⟨c+1,?_,⟨by omega,fun q hq=>by
                rcases Nat.lt_succ_iff_lt_or_eq.1 hq with h5|rfl
                ·exact hcn q h5
                ·exact hf⟩,by omega⟩
               exact le_of2 (by simp) (by simp [AVle,AV.under,AV.underL,U]<;>omega) (by simp [AOle,AO.under,AV.underL,AV.under,U]<;>omega)
              ·have iF:=hiF _ ((hmI _).2 ⟨c,hcl,rfl⟩) (by simp only;omega)
               rw [iF] at iv
               have hfI:(256:Int)≤num+(c:Int):=by omega
               have zS:=jj hcI<|jj hnum<|jj hfI<|jj iv<|hml
               repeat' (first|(apply aw_seq_k;intro K hK)|(refine eM64 ?_)|(refine aw_cond (b:=_) (by exact rfl) (fun h=>?_) (fun h=>?_)<;>(try simp at h))|(refine eB ?_)|(refine hK _ ?_;clear hK)|(clear hK;refine hK _ ?_;clear hK)|(clear hK;clear hK;refine hK _ ?_;clear hK)|(clear hK;clear hK;clear hK;refine hK _ ?_;clear hK))
               all_goals clear zS
               refine ⟨by simp,?_⟩
               simp [leaves_iff,Try.f8]
               try exact dt
             ·obtain rfl:c=P:=by omega
              repeat' (first|(apply aw_seq_k;intro K hK)|(refine eM64o ?_)|(refine aw_cond (b:=_) (by exact rfl) (fun h=>?_) (fun h=>?_)<;>(try simp at h))|(refine eB ?_)|(refine hK _ ?_;clear hK)|(clear hK;refine hK _ ?_;clear hK)|(clear hK;clear hK;refine hK _ ?_;clear hK)|(clear hK;clear hK;clear hK;refine hK _ ?_;clear hK))
              have hj2:∀ e∈nmT (l.take (j+1)),e.2<256:=by
               rw [hns]
               intro e he
               rcases List.mem_append.1 he with he|he
               ·exact hjn e he
               ·obtain ⟨q,hq,rfl⟩:=(hmI e).1 he
                exact hcn q hq
              refine ⟨j+1,?_,⟨by omega,fun a b he=>hj2 (a,b) he⟩,by omega⟩
              rw [hns,List.length_append,hnl,show ((cntA ts i:Nat):Int)+((N.length+c:Nat):Int)=(cntA ts i:Int)+(N.length:Int)+(c:Int) by omega]
              exact le_of2 (by simp) (by simp [AVle,AV.under,AV.underL,U]<;>omega) (by simp [AOle,AO.under,AV.underL,AV.under,U]<;>omega)
           ·have hPI:(P:Int)=1:=by omega
            have zS:=jj hjI<|jj hg1<|jj hgE1<|de
            repeat' (first|(apply aw_seq_k;intro K hK)|(refine eM64 ?_)|(refine aw_cond (b:=_) (by exact rfl) (fun h=>?_) (fun h=>?_)<;>(try simp at h))|(refine eB ?_)|(refine hK _ ?_;clear hK)|(clear hK;refine hK _ ?_;clear hK)|(clear hK;clear hK;refine hK _ ?_;clear hK)|(clear hK;clear hK;clear hK;refine hK _ ?_;clear hK))
            all_goals clear zS
            refine aw_loopK (s0:=?lps8) (m0:=?lpm8) (ι:={c:Nat // c≤P∧∀ q:Nat,q<c→num+(q:Int)<256}) [0,1,7,10,13,14,57,58,59,65,66,67,87] (fun c=>[(88,I c.1),(87,I (P:Int)),(9,I ((cntA ts i+N.length+c.1:Nat):Int))]) (fun c=>[]) (fun c=>P - c.1) ⟨0,by omega,by omega⟩ ?lhs8 ?lhm8 ?_ ?_
            case lhs8=>first|(simp [keepS];done)|(simp [keepS];rfl)
            case lhm8=>first|rfl|(simp;done)|(simp;rfl)
            ·exact le_of2 (by simp) (by simp [AVle,AV.under,AV.underL,tidyM,hPI,U]<;>omega) (by simp [AOle,AO.under,AV.underL,AV.under,tidyM,hPI,U]<;>omega)
            ·rintro ⟨c,hcP,hcn⟩
             simp only
             rcases Decidable.em (c<P) with hcl|hcl
             ·have hcI:(c:Int)<(P:Int):=by omega
              have hnum:¬ num+(c:Int)<0:=by omega
              rcases Decidable.em (num+(c:Int)<256) with hf|hf
              ·obtain ⟨f,hfe⟩:∃ f:Nat,num+(c:Int)=(f:Int):=⟨(num+(c:Int)).toNat,by omega⟩
               have hf2:f<256:=by omega
               have hfI:¬ (256:Int)≤(f:Int):=by omega
               have hfI2:¬ (f:Int)<0:=by omega
               have hm1:=mrows_gi (ls:=ms) (i:=f) (by omega)
               have hm2:=mrows_gE (ls:=ms) (i:=f) (by omega)
               have hh:=hHas f c hf2 hcl hfe
               obtain ⟨R,hR⟩:∃ R,R=gmm ms f:=⟨_,rfl⟩
               rw [← hR] at hm1 hm2 hh
               have zS:=jj hcI<|jj hfe<|jj hf2<|jj hfI<|jj hfI2<|jj hm1<|jj hm2<|jj hh<|hml
               repeat' (first|(apply aw_seq_k;intro K hK)|(refine eM64 ?_)|(refine aw_cond (b:=_) (by exact rfl) (fun h=>?_) (fun h=>?_)<;>(try simp at h))|(refine eB ?_)|(refine hK _ ?_;clear hK)|(clear hK;refine hK _ ?_;clear hK)|(clear hK;clear hK;refine hK _ ?_;clear hK)|(clear hK;clear hK;clear hK;refine hK _ ?_;clear hK))
               all_goals clear zS
               refine ⟨c+1,?_,⟨by omega,fun q hq=>by
                rcases Nat.lt_succ_iff_lt_or_eq.1 hq with h5|rfl
                ·exact hcn q h5
                ·exact hf⟩,by omega⟩
               exact le_of2 (by simp) (by simp [AVle,AV.under,AV.underL,U]<;>omega) (by simp [AOle,AO.under,AV.underL,AV.under,U]<;>omega)
              ·have iF:=hiF _ ((hmI _).2 ⟨c,hcl,rfl⟩) (by simp only;omega)
               rw [iF] at iv
               have hfI:(256:Int)≤num+(c:Int):=by omega
               have zS:=jj hcI<|jj hnum<|jj hfI<|jj iv<|hml
               repeat' (first|(apply aw_seq_k;intro K hK)|(refine eM64 ?_)|(refine aw_cond (b:=_) (by exact rfl) (fun h=>?_) (fun h=>?_)<;>(try simp at h))|(refine eB ?_)|(refine hK _ ?_;clear hK)|(clear hK;refine hK _ ?_;clear hK)|(clear hK;clear hK;refine hK _ ?_;clear hK)|(clear hK;clear hK;clear hK;refine hK _ ?_;clear hK))
               all_goals clear zS
               refine ⟨by simp,?_⟩
               simp [leaves_iff,Try.f8]
               try exact dt
             ·obtain rfl:c=P:=by omega
              repeat' (first|(apply aw_seq_k;intro K hK)|(refine eM64o ?_)|(refine aw_cond (b:=_) (by exact rfl) (fun h=>?_) (fun h=>?_)<;>(try simp at h))|(refine eB ?_)|(refine hK _ ?_;clear hK)|(clear hK;refine hK _ ?_;clear hK)|(clear hK;clear hK;refine hK _ ?_;clear hK)|(clear hK;clear hK;clear hK;refine hK _ ?_;clear hK))
              have hj2:∀ e∈nmT (l.take (j+1)),e.2<256:=by
               rw [hns]
               intro e he
               rcases List.mem_append.1 he with he|he
               ·exact hjn e he
               ·obtain ⟨q,hq,rfl⟩:=(hmI e).1 he
                exact hcn q hq
              refine ⟨j+1,?_,⟨by omega,fun a b he=>hj2 (a,b) he⟩,by omega⟩
              rw [hns,List.length_append,hnl,show ((cntA ts i:Nat):Int)+((N.length+c:Nat):Int)=(cntA ts i:Int)+(N.length:Int)+(c:Int) by omega]
              exact le_of2 (by simp) (by simp [AVle,AV.under,AV.underL,U]<;>omega) (by simp [AOle,AO.under,AV.underL,AV.under,U]<;>omega)
          ·have hk1:¬ k=1:=fun e=>hk (.inl e)
           have hk3:¬ k=3:=fun e=>hk (.inr e)
           rw [if_neg (by simp [hk1]),if_neg (by simp [hk1,hk3])] at hnE0
           rw [hnE0,List.append_nil] at hns
           clear hnE0 hhg
           have zS:=jj hjI<|jj hg1<|jj hgE1<|jj de<|jj hk1<|hk3
           repeat' (first|(apply aw_seq_k;intro K hK)|(refine eM64 ?_)|(refine aw_cond (b:=_) (by exact rfl) (fun h=>?_) (fun h=>?_)<;>(try simp at h))|(refine eB ?_)|(refine hK _ ?_;clear hK)|(clear hK;refine hK _ ?_;clear hK)|(clear hK;clear hK;refine hK _ ?_;clear hK)|(clear hK;clear hK;clear hK;refine hK _ ?_;clear hK))
           all_goals clear zS
           refine ⟨j+1,?_,⟨by omega,by rw [hns];intro a b he;exact hjn (a,b) he⟩,by omega⟩
           rw [hns]
           exact dle
         ·obtain rfl:j=l.length:=by omega
          rw [List.take_length] at hjn ⊢
          have hin2:inside ts 256 (i+1)=true:=by
           simp only [inside,hin,Bool.true_and,List.all_eq_true,decide_eq_true_eq]
           intro e he
           rw [← ht0,← hL0] at he
           exact hjn e he
          repeat' (first|(apply aw_seq_k;intro K hK)|(refine eM64o ?_)|(refine aw_cond (b:=_) (by exact rfl) (fun h=>?_) (fun h=>?_)<;>(try simp at h))|(refine eB ?_)|(refine hK _ ?_;clear hK)|(clear hK;refine hK _ ?_;clear hK)|(clear hK;clear hK;refine hK _ ?_;clear hK)|(clear hK;clear hK;clear hK;refine hK _ ?_;clear hK))
          refine ⟨i+1,?_,⟨by omega,hin2⟩,by omega⟩
          have ec:cntA ts (i+1)=cntA ts i+(nmT l).length:=by
           show cntA ts i+(nmT (lstT (tbG ts i))).length=_
           rw [← ht0,← hL0]
          rw [ec]
          exact dle
       ·obtain rfl:i=ts.length:=by omega
        repeat' (first|(apply aw_seq_k;intro K hK)|(refine eM64o ?_)|(refine aw_cond (b:=_) (by exact rfl) (fun h=>?_) (fun h=>?_)<;>(try simp at h))|(refine eB ?_)|(refine hK _ ?_;clear hK)|(clear hK;refine hK _ ?_;clear hK)|(clear hK;clear hK;refine hK _ ?_;clear hK)|(clear hK;clear hK;clear hK;refine hK _ ?_;clear hK))
        have e8:ts.take 8=ts:=List.take_of_length_le (by omega)
        have hsum:=sumF_ofA (T:=ts) (n:=256) hin
        obtain ⟨g,hgd⟩:∃ g:Nat→Nat,g=fun f:Nat=>(ofA ts (f:Int) ts.length).length:=⟨_,rfl⟩
        rw [← hgd] at hsum
        have hgm:∀ f,f<256→(gmm ms f).length=g f:=fun f hf=>by
         rw [hgd,hms]
         have:gmm (mapsT ts 256) f=ofT ts (f:Int):=by
          rw [gmm_eq (by simp [mapsT];omega)]
          simp [mapsT]
         rw [this]
         show (ofA (ts.take 8) (f:Int) (ts.take 8).length).length=_
         rw [e8]
        have hmono:∀ d i,sumF i g≤sumF (i+d) g:=fun d i=>by
         induction d with
         | zero=>exact Nat.le_refl _
         | succ d ih=>rw [← Nat.add_assoc,sumF_s];omega
        have hC:cntA ts ts.length≤4096*ts.length:=cntA_le
        clear hgd
        obtain ⟨C,hCd⟩:∃ C,C=cntA ts ts.length:=⟨_,rfl⟩
        rw [← hCd] at hsum hC ⊢
        refine aw_loopK (s0:=?lps9) (m0:=?lpm9) (ι:={i:Nat // i≤256}) [0,1,7,124,125] (fun i=>[(126,I i.1),(9,I ((C:Int) - (sumF i.1 g:Int)))]) (fun i=>[]) (fun i=>256 - i.1) ⟨0,by omega⟩ ?lhs9 ?lhm9 ?_ ?_
        case lhs9=>first|(simp [keepS];done)|(simp [keepS];rfl)
        case lhm9=>first|rfl|(simp;done)|(simp;rfl)
        ·have e0:(C:Int) - (sumF 0 g:Int)=C:=by rw [show sumF 0 g=0 from rfl];simp
         simp only [e0]
         exact le_of2 (by simp) (by simp [AVle,AV.under,AV.underL,tidyM]<;>omega) (by simp [AOle,AO.under,AV.underL,AV.under,tidyM]<;>omega)
        ·rintro ⟨i,hi⟩
         simp only
         rcases Decidable.em (i<256) with hil2|hil2
         ·have hilI2:(i:Int)<256:=by omega
          have hm1:=mrows_gi (ls:=ms) (i:=i) (by omega)
          have hm2:=mrows_gE (ls:=ms) (i:=i) (by omega)
          have hgl:=hgm i hil2
          have hs1:=@sumF_s i g
          have hs2:=hmono (256 - (i+1)) (i+1)
          rw [show i+1+(256 - (i+1))=256 by omega] at hs2
          obtain ⟨R,hR⟩:∃ R,R=gmm ms i:=⟨_,rfl⟩
          rw [← hR] at hm1 hm2 hgl
          have zS:=jj hilI2<|jj hil2<|jj hm1<|jj hm2<|hml
          repeat' (first|(apply aw_seq_k;intro K hK)|(refine eM64 ?_)|(refine aw_cond (b:=_) (by exact rfl) (fun h=>?_) (fun h=>?_)<;>(try simp at h))|(refine eB ?_)|(refine hK _ ?_;clear hK)|(clear hK;refine hK _ ?_;clear hK)|(clear hK;clear hK;refine hK _ ?_;clear hK)|(clear hK;clear hK;clear hK;refine hK _ ?_;clear hK))
          all_goals clear zS
          refine ⟨i+1,?_,by omega,by omega⟩
          have e1:(C:Int) - (sumF i g:Int) - (R.length:Int)=(C:Int) - (sumF (i+1) g:Int):=by omega
          rw [e1]
          exact dle
         ·obtain rfl:i=256:=by omega
          have hz:(C:Int) - (sumF 256 g:Int)=0:=by omega
          have hmok:MssOK ms:=⟨by omega,fun q hq=>by
           obtain ⟨j,hj,rfl⟩:=List.getElem_of_mem hq
           have q1:=hgm j (by omega)
           have q2:=@sumF_s j g
           have q3:=hmono (256 - (j+1)) (j+1)
           rw [show j+1+(256 - (j+1))=256 by omega] at q3
           rw [gmm_eq hj] at q1
           omega⟩
          have hI:=fun (ms':List (List Dp)) (h1:MssOK ms') (h2:ms'.length=256)=>L.inv ts ms' ⟨hTo,by omega,h1,by omega⟩
          have iv:=hI ms hmok hml
          have iT:invT ts ms=true:=by
           rw [invT_eq,e8,hml,hin,← hms]
           simp
          rw [iT,hml] at iv
          have htm:(at0:Int).tmod 256=(at0:Int):=by
           rw [Int.tmod_eq_emod_of_nonneg (by omega)];omega
          have hatI:(at0:Int)<256:=by omega
          have hm1:=mrows_gi (ls:=ms) (i:=at0) (by omega)
          have hm2:=mrows_gE (ls:=ms) (i:=at0) (by omega)
          have hRl:(gmm ms at0).length≤32768:=by rw [hms,gmm_maps hat];exact ofT_len
          obtain ⟨R,hR⟩:∃ R,R=gmm ms at0:=⟨_,rfl⟩
          rw [← hR] at hm1 hm2 hRl
          obtain ⟨D,hDd⟩:∃ D,D=R.drop 1:=⟨_,rfl⟩
          obtain ⟨Z,hZd⟩:∃ Z,Z=R++[((7:Int),(511:Int))]:=⟨_,rfl⟩
          have hd1:R.length - 1=D.length:=by rw [hDd];simp
          have hd2:List.take D.length (prows R).tail=prows D:=by
           rw [hDd,← List.drop_one,prows_drop]
           exact List.take_of_length_le (by simp)
          have hz1:R.length+1=Z.length:=by rw [hZd];simp
          have hz2:List.take R.length (prows R)=prows R:=List.take_of_length_le (by simp)
          have hz3:prows R++[[AV.v (.int .i64 7),AV.v (.int .i64 511)]]=prows Z:=by rw [hZd];simp [prows,I]
          obtain ⟨m1,hm1d⟩:∃ m1,m1=ms.set at0 D:=⟨_,rfl⟩
          obtain ⟨m2,hm2d⟩:∃ m2,m2=ms.set at0 Z:=⟨_,rfl⟩
          have hl1:m1.length=256:=by rw [hm1d];simp [hml]
          have hl2:m2.length=256:=by rw [hm2d];simp [hml]
          have f1:(mrows ms).set at0 [.rd 2 (prows D)]=mrows m1:=by rw [hm1d];exact mrows_set
          have f4:(mrows ms).set at0 [.rd 2 (prows Z)]=mrows m2:=by rw [hm2d];exact mrows_set
          have f3:(mrows m1).set at0 [.rd 2 (prows Z)]=mrows m2:=by rw [mrows_set,hm1d,List.set_set,hm2d]
          have hg1:gmm m1 at0=D:=by
           rw [gmm_eq (by omega)]
           simp [hm1d]
          have hm3:=mrows_gi (ls:=m1) (i:=at0) (by omega)
          have hm4:=mrows_gE (ls:=m1) (i:=at0) (by omega)
          rw [hg1] at hm3 hm4
          have ivF:∀ q:List Dp,q.length≤1000000→q.length≠R.length→∀ (b v:Nat) (f:Bool) (M:Nat→AO) (n:Nat),M b=.vec v 1 f (mrows (ms.set at0 q))→X.call 31 [.rd 3 (tbrows ts),.sl b v 1 0 256] M n=some (B false,[]):=fun q hq hqn=>by
           have h1:=hI (ms.set at0 q) (mss_set hmok hq) (by simpa using hml)
           rw [inv_set (by rw [hml];exact hms) (by omega) (by rw [← hR];exact hqn),List.length_set,hml] at h1
           exact h1
          have iv2:=ivF Z (by rw [← hz1];omega) (by rw [← hz1];omega)
          rw [← hm2d] at iv2
          rcases Decidable.em (0<R.length) with hR0|hR0
          ·have iv1:=ivF D (by rw [← hd1];omega) (by rw [← hd1];omega)
           rw [← hm1d] at iv1
           have hRI:(0:Int)<(R.length:Int):=by omega
           repeat' (first|(refine aw_cutK (id:=49) 6 hc ?_;intro K2 hK2;simp [List.zipIdx,hz,hml,iv,htm,hatI,hat,hm1,hm2,hR0,hRI,hd1,hd2,hz1,hz2,hz3,hl1,hl2,f1,f3,hm3,hm4,iv1,iv2,-getM,getM_hit,getM_miss,getM_none];(repeat (simp (disch:=first|omega|assumption|fail) only [if_pos,if_neg,wrap64];try simp [List.zipIdx,hz,hml,iv,htm,hatI,hat,hm1,hm2,hR0,hRI,hd1,hd2,hz1,hz2,hz3,hl1,hl2,f1,f3,hm3,hm4,iv1,iv2,-getM,getM_hit,getM_miss,getM_none]));(first|refine hK2 _ _ ⟨_,_,le_seal (t:=160) (b:=769) (v:=2) (sz:=2) (f:=false) (xs:=(prows D)) (by simp;done) (by simp;done),?_⟩);clear hK2;simp [List.zipIdx,hz,hml,iv,htm,hatI,hat,hm1,hm2,hR0,hRI,hd1,hd2,hz1,hz2,hz3,hl1,hl2,f1,f3,hm3,hm4,iv1,iv2,-getM,getM_hit,getM_miss,getM_none];(repeat (simp (disch:=first|omega|assumption|fail) only [if_pos,if_neg,wrap64];try simp [List.zipIdx,hz,hml,iv,htm,hatI,hat,hm1,hm2,hR0,hRI,hd1,hd2,hz1,hz2,hz3,hl1,hl2,f1,f3,hm3,hm4,iv1,iv2,-getM,getM_hit,getM_miss,getM_none])))|(refine aw_cutK (id:=52) 8 hc ?_;intro K2 hK2;simp [List.zipIdx,hz,hml,iv,htm,hatI,hat,hm1,hm2,hR0,hRI,hd1,hd2,hz1,hz2,hz3,hl1,hl2,f1,f3,hm3,hm4,iv1,iv2,-getM,getM_hit,getM_miss,getM_none];(repeat (simp (disch:=first|omega|assumption|fail) only [if_pos,if_neg,wrap64];try simp [List.zipIdx,hz,hml,iv,htm,hatI,hat,hm1,hm2,hR0,hRI,hd1,hd2,hz1,hz2,hz3,hl1,hl2,f1,f3,hm3,hm4,iv1,iv2,-getM,getM_hit,getM_miss,getM_none]));(first|refine hK2 _ _ ⟨_,_,le_seal (t:=172) (b:=945) (v:=3) (sz:=2) (f:=false) (xs:=(prows Z)) (by simp;done) (by simp;done),?_⟩);clear hK2;simp [List.zipIdx,hz,hml,iv,htm,hatI,hat,hm1,hm2,hR0,hRI,hd1,hd2,hz1,hz2,hz3,hl1,hl2,f1,f3,hm3,hm4,iv1,iv2,-getM,getM_hit,getM_miss,getM_none];(repeat (simp (disch:=first|omega|assumption|fail) only [if_pos,if_neg,wrap64];try simp [List.zipIdx,hz,hml,iv,htm,hatI,hat,hm1,hm2,hR0,hRI,hd1,hd2,hz1,hz2,hz3,hl1,hl2,f1,f3,hm3,hm4,iv1,iv2,-getM,getM_hit,getM_miss,getM_none])))|(apply aw_seq_k;intro K hK)|(refine aw_run hc (by first|exact aw_nod|(intro _;rw [ordB_w hw];kernel_rfl)|(intro _;rw [ordB_w0 hw0];kernel_rfl)|(intro _;kernel_rfl)) ?_;simp [List.zipIdx,hz,hml,iv,htm,hatI,hat,hm1,hm2,hR0,hRI,hd1,hd2,hz1,hz2,hz3,hl1,hl2,f1,f3,hm3,hm4,iv1,iv2,-getM,getM_hit,getM_miss,getM_none];(repeat (simp (disch:=first|omega|assumption|fail) only [if_pos,if_neg,wrap64];try simp [List.zipIdx,hz,hml,iv,htm,hatI,hat,hm1,hm2,hR0,hRI,hd1,hd2,hz1,hz2,hz3,hl1,hl2,f1,f3,hm3,hm4,iv1,iv2,-getM,getM_hit,getM_miss,getM_none]));try (repeat' (refine guardQ_split (fun h=>?_) (fun h=>?_)<;>simp at h<;>(simp [List.zipIdx,hz,hml,iv,htm,hatI,hat,hm1,hm2,hR0,hRI,hd1,hd2,hz1,hz2,hz3,hl1,hl2,f1,f3,hm3,hm4,iv1,iv2,-getM,getM_hit,getM_miss,getM_none];(repeat (simp (disch:=first|omega|assumption|fail) only [if_pos,if_neg,wrap64];try simp [List.zipIdx,hz,hml,iv,htm,hatI,hat,hm1,hm2,hR0,hRI,hd1,hd2,hz1,hz2,hz3,hl1,hl2,f1,f3,hm3,hm4,iv1,iv2,-getM,getM_hit,getM_miss,getM_none]))))))|(refine aw_cond (b:=_) (by exact rfl) (fun h=>?_) (fun h=>?_)<;>(try simp at h))|(refine aw_block ?_)|(refine aw_skip ?_;simp only [thenQ,blockQ,if_true])|(refine aw_exit ?_;simp [thenQ,blockQ])|(refine aw_ret ?_;simp only [thenQ,blockQ])|(refine aw_round ?_)|(refine hK _ ?_;clear hK)|(clear hK;refine hK _ ?_;clear hK)|(clear hK;clear hK;refine hK _ ?_;clear hK)|(clear hK;clear hK;clear hK;refine hK _ ?_;clear hK))
           refine ⟨by simp,?_⟩
           simp [leaves_iff,Try.f8]
           try exact dt
          ·have hRI:¬ (0:Int)<(R.length:Int):=by omega
           repeat' (first|(refine aw_cutK (id:=52) 8 hc ?_;intro K2 hK2;simp [List.zipIdx,hz,hml,iv,htm,hatI,hat,hm1,hm2,hR0,hRI,hz1,hz2,hz3,hl2,f4,iv2,-getM,getM_hit,getM_miss,getM_none];(repeat (simp (disch:=first|omega|assumption|fail) only [if_pos,if_neg,wrap64];try simp [List.zipIdx,hz,hml,iv,htm,hatI,hat,hm1,hm2,hR0,hRI,hz1,hz2,hz3,hl2,f4,iv2,-getM,getM_hit,getM_miss,getM_none]));(first|refine hK2 _ _ ⟨_,_,le_seal (t:=172) (b:=769) (v:=3) (sz:=2) (f:=false) (xs:=(prows Z)) (by simp;done) (by simp;done),?_⟩);clear hK2;simp [List.zipIdx,hz,hml,iv,htm,hatI,hat,hm1,hm2,hR0,hRI,hz1,hz2,hz3,hl2,f4,iv2,-getM,getM_hit,getM_miss,getM_none];(repeat (simp (disch:=first|omega|assumption|fail) only [if_pos,if_neg,wrap64];try simp [List.zipIdx,hz,hml,iv,htm,hatI,hat,hm1,hm2,hR0,hRI,hz1,hz2,hz3,hl2,f4,iv2,-getM,getM_hit,getM_miss,getM_none])))|(apply aw_seq_k;intro K hK)|(refine aw_run hc (by first|exact aw_nod|(intro _;rw [ordB_w hw];kernel_rfl)|(intro _;rw [ordB_w0 hw0];kernel_rfl)|(intro _;kernel_rfl)) ?_;simp [List.zipIdx,hz,hml,iv,htm,hatI,hat,hm1,hm2,hR0,hRI,hz1,hz2,hz3,hl2,f4,iv2,-getM,getM_hit,getM_miss,getM_none];(repeat (simp (disch:=first|omega|assumption|fail) only [if_pos,if_neg,wrap64];try simp [List.zipIdx,hz,hml,iv,htm,hatI,hat,hm1,hm2,hR0,hRI,hz1,hz2,hz3,hl2,f4,iv2,-getM,getM_hit,getM_miss,getM_none]));try (repeat' (refine guardQ_split (fun h=>?_) (fun h=>?_)<;>simp at h<;>(simp [List.zipIdx,hz,hml,iv,htm,hatI,hat,hm1,hm2,hR0,hRI,hz1,hz2,hz3,hl2,f4,iv2,-getM,getM_hit,getM_miss,getM_none];(repeat (simp (disch:=first|omega|assumption|fail) only [if_pos,if_neg,wrap64];try simp [List.zipIdx,hz,hml,iv,htm,hatI,hat,hm1,hm2,hR0,hRI,hz1,hz2,hz3,hl2,f4,iv2,-getM,getM_hit,getM_miss,getM_none]))))))|(refine aw_cond (b:=_) (by exact rfl) (fun h=>?_) (fun h=>?_)<;>(try simp at h))|(refine aw_block ?_)|(refine aw_skip ?_;simp only [thenQ,blockQ,if_true])|(refine aw_exit ?_;simp [thenQ,blockQ])|(refine aw_ret ?_;simp only [thenQ,blockQ])|(refine aw_round ?_)|(refine hK _ ?_;clear hK)|(clear hK;refine hK _ ?_;clear hK)|(clear hK;clear hK;refine hK _ ?_;clear hK)|(clear hK;clear hK;clear hK;refine hK _ ?_;clear hK))
           refine ⟨by simp,?_⟩
           simp [leaves_iff,Try.f8]
           try exact dt
 ·have h4I:(4:Int)<(ts.length:Int):=by omega
  have h4N:4<ts.length:=by omega
  have zS:=jj aw<|jj h4I<|h4N
  refine dM64 ?_
  repeat (intro K hK)
  clear zS
  refine ⟨by simp,?_⟩
  simp [leaves_iff,Try.f8]
  try exact dt
end Go.AM
