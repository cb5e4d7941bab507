/- A part of the proof: what functions of the program compute, by abstract execution of their code. Its theorems hold without further condition. -/
import Derived.Test.YtcfhmdljeeppfaaGreatSAmG1
import Derived.Test.YtcfhmdljeeppfaaGreatSAmZa
import Derived.Test.YtcfhmdljeeppfaaGreatSAmS
set_option linter.all false
namespace Go.AM
open Go
theorem posN_mem:∀ {σ:List Nat} {b:Nat},b∈σ→posN σ b<σ.length∧σ[posN σ b]?=some b
 | [],b,h=>by simp at h
 | c::r,b,h=>by
  simp only [posN]
  by_cases e:c=b
  ·rw [if_pos e];simp [e]
  ·rw [if_neg e]
   have:=posN_mem (σ:=r) ((List.mem_cons.1 h).resolve_left fun h=>e h.symm)
   simpa using this
theorem posN_at:∀ {σ:List Nat} {i b:Nat},σ.Nodup→σ[i]?=some b→posN σ b=i
 | [],i,b,_,h=>by simp at h
 | c::r,0,b,_,h=>by simp at h;simp [posN,h]
 | c::r,i+1,b,hn,h=>by
  obtain ⟨h1,h2⟩:=List.nodup_cons.1 hn
  simp only [List.getElem?_cons_succ] at h
  have hb:b∈r:=List.mem_of_getElem? h
  have hne:¬ c=b:=fun e=>h1 (e ▸ hb)
  simp only [posN,if_neg hne,posN_at h2 h]
def Env.sub (E:Env) (σ:List Nat):Env :=
 {G:=E.G,alive:=fun i=>i<σ.length,ver:=fun i=>match σ[i]? with|some b=>if E.ver b=0 then 0 else 1|none=>0,loc:=fun i=>(σ[i]?).bind E.loc }
def cn (σ:List Nat) (nid n:Nat) (b:Nat):Option Nat :=
 if b∈σ then some (posN σ b) else if nid≤b∧b<nid+(n - σ.length) then some (σ.length+(b - nid)) else none
def Env.back (E E':Env) (σ:List Nat) (nid n:Nat):Env :=
 {G:=E'.G,alive:=fun b=>E.alive b∨∃ i,cn σ nid n b=some i∧E'.alive i,
  ver:=fun b=>match cn σ nid n b with|some i=>E'.ver i+(if b∈σ then E.ver b - 1 else 0)|none=>E.ver b,
  loc:=fun b=>match cn σ nid n b with|some i=>E'.loc i|none=>E.loc b }
theorem mem_updN {M:Nat→AO} {σ:List Nat} {nid:Nat} {b:Nat} {o:AO}:∀ {ms:List AO} {i:Nat},(b,o)∈updN M σ nid i ms→∃ j p,ms[j]?=some p∧b=nmN σ nid (i+j)∧o=p.ren (nmN σ nid) (fun j m=>m+shN M σ j) (i+j)
 | [],i,h=>by simp [updN] at h
 | p::r,i,h=>by
  simp only [updN,List.mem_cons,Prod.mk.injEq] at h
  rcases h with ⟨rfl,rfl⟩|h
  ·exact ⟨0,p,by simp,rfl,rfl⟩
  ·obtain ⟨j,q,h1,h2,h3⟩:=mem_updN h
   exact ⟨j+1,q,by simpa using h1,by rw [h2];congr 1;omega,by rw [h3,show i+1+j=i+(j+1) by omega]⟩
theorem updN_keys {M:Nat→AO} {σ:List Nat} {nid:Nat} {j:Nat}:∀ {ms:List AO} {i:Nat},j<ms.length→nmN σ nid (i+j)∈(updN M σ nid i ms).map (·.1)
 | [],i,h=>by simp at h
 | p::r,i,h=>by
  simp only [updN,List.map_cons,List.mem_cons]
  cases j with
  | zero=>exact .inl rfl
  | succ j =>
   right
   have:=updN_keys (M:=M) (σ:=σ) (nid:=nid) (j:=j) (ms:=r) (i:=i+1) (by simpa using h)
   rwa [show i+1+j=i+(j+1) by omega] at this
theorem mem_rng {i n b:Nat}:b∈rng i n↔i≤b∧b<i+n:=by
 induction n generalizing i with
 | zero=>simp [rng]
 | succ n ih=>simp only [rng,List.mem_cons,ih];omega
theorem nmN_lt {σ:List Nat} {nid i:Nat} (h:i<σ.length):σ[i]?=some (nmN σ nid i):=by
 unfold nmN
 rw [dif_pos h,List.getElem?_eq_getElem h]
theorem nmN_ge {σ:List Nat} {nid i:Nat} (h:¬ i<σ.length):nmN σ nid i=nid+(i - σ.length):=by
 unfold nmN
 rw [dif_neg h]
theorem ren_obj {σ:Nat→Nat} {v:Nat→Nat→Nat} {b m':Nat} {o:AO} (h:∀ m,(∃ s f xs,o=.vec m s f xs)∨(∃ n es,o=.map m n es)→v b m=m') :
  o.renV σ v m'=o.ren σ v b:=by
 cases o with
 | dead=>rfl
 | box cs=>rfl
 | vec m s f xs=>simp only [AO.ren,AO.renV];rw [h m (.inl ⟨s,f,xs,rfl⟩)]
 | map m n es=>simp only [AO.ren,AO.renV];rw [h m (.inr ⟨n,es,rfl⟩)]
theorem GSound.callG {P:Program} {f:FuncId} {F:List AV→List AO→Option (AV×List AO)} (h:GSound P f F):CallOK P f (callG F):=by
 intro avs M nid av u hc w0 bl E w args hr hM hI hnid
 obtain ⟨args⟩:=args
 unfold AM.callG at hc
 simp only at hc
 obtain ⟨σ,hσ⟩:∃ σ,σ=gat M 64 (nmsL avs) []:=⟨_,rfl⟩
 rw [← hσ] at hc
 split at hc
 case isFalse=>simp at hc
 rename_i hC
 obtain ⟨hnd,hled,hdom,hargs,hobjs,hcurA,hcurO⟩:=hC
 split at hc
 case h_2=>simp at hc
 rename_i r ms' hF
 split at hc
 case isFalse=>simp at hc
 rename_i hR
 obtain ⟨⟨hk1,hk2⟩,hled2⟩:=hR
 simp only [Option.some.injEq,Prod.mk.injEq] at hc
 obtain ⟨rfl,rfl⟩:=hc
 obtain ⟨n,hn⟩:∃ n,n=ms'.length:=⟨_,rfl⟩
 obtain ⟨k,hk⟩:∃ k,k=σ.length:=⟨_,rfl⟩
 have hlen:(σ.map fun b=>canO σ (M b)).length=k:=by simp [hk]
 have hal:∀ b∈σ,E.alive b:=led_alive hM (fun b hb=>hr.nms_alive b hb) hled
 obtain ⟨l,hl⟩:∃ l:List Nat,l=σ.filterMap fun b=>(E.loc b).map (·.1):=⟨_,rfl⟩
 have hlm:∀ blk,blk∈l↔∃ b∈σ,∃ base sz,E.loc b=some (blk,base,sz):=fun blk=>by
  rw [hl,List.mem_filterMap]
  constructor
  ·rintro ⟨b,hb,e⟩
   cases hh:E.loc b with
   | none=>rw [hh] at e;simp at e
   | some L =>
    obtain ⟨x,y,z⟩:=L
    rw [hh] at e
    simp at e
    subst e
    exact ⟨b,hb,y,z,hh⟩
  ·rintro ⟨b,hb,base,sz,e⟩
   exact ⟨b,hb,by rw [e];rfl⟩
 have hlb:∀ blk∈l,blk<w.heap.size∧¬ E.G blk∧(w0.heap.size≤blk∨blk∈bl.l):=fun blk hb=>by
  obtain ⟨b,h1,base,sz,h2⟩:=(hlm blk).1 hb
  exact hI.locs b blk base sz (hal b h1) h2
 obtain ⟨Ec,hEc⟩:∃ Ec,Ec=E.sub σ:=⟨_,rfl⟩
 have ecG:Ec.G=E.G:=by rw [hEc];rfl
 have ecA:∀ i,Ec.alive i↔i<k:=fun i=>by rw [hEc,hk];rfl
 have ecV:∀ i b,σ[i]?=some b→Ec.ver i=if E.ver b=0 then 0 else 1:=fun i b e=>by rw [hEc];simp only [Env.sub,e]
 have ecL:∀ i b,σ[i]?=some b→Ec.loc i=E.loc b:=fun i b e=>by rw [hEc];simp only [Env.sub,e,Option.bind_some]
 have ecX:∀ i,i<k→∃ b,σ[i]?=some b∧b∈σ:=fun i hi=>⟨σ[i]'(by omega),List.getElem?_eq_getElem _,List.getElem_mem _⟩
 have hIc:Inv w ⟨l,Ec,k⟩ Ec w:=by
  refine ⟨⟨rfl,rfl,Nat.le_refl _,fun _ _ _=>rfl⟩,Env.Le.refl _,fun i hi=>(ecA i).1 hi,fun x hx=>.inl hx,fun x hx=>hI.good x (by rw [ecG] at hx;exact hx),fun i blk base sz hi hloc=>?_,fun i j blk base sz base' sz' hi hj hloc hloc'=>?_⟩
  ·obtain ⟨b,h1,h2⟩:=ecX i ((ecA i).1 hi)
   rw [ecL i b h1] at hloc
   have:=hI.locs b blk base sz (hal b h2) hloc
   exact ⟨this.1,by rw [ecG];exact this.2.1,.inr ((hlm blk).2 ⟨b,h2,base,sz,hloc⟩)⟩
  ·obtain ⟨b,h1,h2⟩:=ecX i ((ecA i).1 hi)
   obtain ⟨c,h3,h4⟩:=ecX j ((ecA j).1 hj)
   rw [ecL i b h1] at hloc
   rw [ecL j c h3] at hloc'
   have:=hI.apart b c blk base sz base' sz' (hal b h2) (hal c h4) hloc hloc'
   subst this
   rw [← posN_at hnd h1,← posN_at hnd h3]
 have hren:RenOK E Ec w w (posN σ) (fun _ _=>1) (·∈σ) (fun b m=>m=verOf (M b)):=by
  refine ⟨fun x hx=>by rw [ecG];exact hx,fun b _ hb=>(ecA _).2 (by rw [hk];exact (posN_mem hb).1),fun b _ hb=>ecL _ _ (posN_mem hb).2,fun b _ hb h0=>by rw [ecV _ _ (posN_mem hb).2,if_pos h0],fun b m hb1 hb hv hm hm2=>?_,fun _ _=>rfl⟩
  rw [ecV _ _ (posN_mem hb).2,if_neg (by omega)]
  refine ⟨Nat.le_refl _,Nat.le_refl _,fun _=>?_⟩
  exact (verOf_ver (hM b hb1) hm hv).symm
 have hMc:MemOK Ec w (getL (σ.map fun b=>canO σ (M b))):=fun i hi=>by
  obtain ⟨b,h1,h2⟩:=ecX i ((ecA i).1 hi)
  have e:getL (σ.map fun b=>canO σ (M b)) i=canO σ (M b):=by
   unfold getL
   rw [List.getElem?_map,h1];rfl
  rw [e]
  have hp:=posN_at hnd h1
  have ho:=hM b (hal b h2)
  have:=hren.obj (b:=b) (o:=M b) (m':=1) (fun _ _ _ _=>rfl) (hal b h2) h2 (okRO_cur (hobjs b h2) (hcurO b h2)) (fun hv=>⟨Nat.le_refl _,by rw [hp,ecV i b h1,if_neg (by omega)]⟩) ho
  rw [hp] at this
  unfold canO
  cases hMb:M b with
  | dead=>trivial
  | box cs=>rw [hMb] at this;exact this
  | vec m s f xs =>
   rw [hMb] at this
   simp only [ObjRep] at this ⊢
   obtain ⟨q1,q2,q3⟩:=this
   refine ⟨q1,q2,?_⟩
   cases hlc:Ec.loc i with
   | none=>simpa only [hlc] using q3
   | some L =>
    obtain ⟨blk,base,sz⟩:=L
    simp only [hlc] at q3 ⊢
    obtain ⟨c,t,p1,p2,p3,p4,p5,p6⟩:=q3
    exact ⟨c,t,p1,p2,p3,p4,fun e=>by simp at e,p6⟩
  | map m n es=>rw [hMb] at this;exact this
 have hrc:RepL Ec w (renL (posN σ) (fun _ _=>1) avs) args:=hren.repL (okRL_cur hargs hcurA) hr
 refine (h w l Ec args _ _ r ms' hF (by rw [hlen];exact hIc) (fun b hb=>(ecA b).2 (by rw [hlen] at hb;exact hb)) hMc hrc).mono fun e w' ⟨x,E',he,hI',hal',hM',hx⟩=>?_
 rw [hlen] at hI'
 have hcnσ:∀ b,b∈σ→cn σ nid n b=some (posN σ b):=fun b hb=>by unfold cn;rw [if_pos hb]
 have hσn:∀ b∈σ,¬ (nid≤b∧b<nid+16):=fun b hb hh=>hnid b hh.1 hh.2 (hal b hb)
 have hcnE:∀ b,E.alive b→b ∉ σ→cn σ nid n b=none:=fun b hb hn'=>by
  unfold cn
  rw [if_neg hn',if_neg]
  rintro ⟨h1,h2⟩
  exact hnid b h1 (by omega) hb
 have hcnN:∀ i,i<n→cn σ nid n (nmN σ nid i)=some i:=fun i hi=>by
  by_cases h1:i<σ.length
  ·have h2:=nmN_lt (nid:=nid) h1
   have hm:nmN σ nid i∈σ:=List.mem_of_getElem? h2
   rw [hcnσ _ hm,posN_at hnd h2]
  ·rw [nmN_ge h1]
   have hm:nid+(i - σ.length) ∉ σ:=fun hm=>hσn _ hm ⟨by omega,by omega⟩
   unfold cn
   rw [if_neg hm,if_pos ⟨by omega,by omega⟩]
   congr 1
   omega
 have hcnB:∀ b i,cn σ nid n b=some i→i<n∧nmN σ nid i=b:=fun b i e=>by
  unfold cn at e
  split at e
  ·rename_i hb
   simp only [Option.some.injEq] at e
   subst e
   obtain ⟨h1,h2⟩:=posN_mem hb
   have h3:=nmN_lt (nid:=nid) h1
   rw [h2] at h3
   exact ⟨by omega,by simpa using h3.symm⟩
  ·split at e
   ·rename_i hb hh
    simp only [Option.some.injEq] at e
    subst e
    exact ⟨by omega,by rw [nmN_ge (by omega)];omega⟩
   ·simp at e
 obtain ⟨E2,hE2⟩:∃ E2,E2=E.back E' σ nid n:=⟨_,rfl⟩
 have e2G:E2.G=E'.G:=by rw [hE2];rfl
 have e2A:∀ b,E2.alive b↔(E.alive b∨∃ i,cn σ nid n b=some i∧E'.alive i):=fun b=>by rw [hE2];rfl
 have e2L:∀ b i,cn σ nid n b=some i→E2.loc b=E'.loc i:=fun b i e=>by rw [hE2];simp only [Env.back,e]
 have e2V:∀ b i,cn σ nid n b=some i→E2.ver b=E'.ver i+(if b∈σ then E.ver b - 1 else 0):=fun b i e=>by rw [hE2];simp only [Env.back,e]
 have e2L0:∀ b,cn σ nid n b=none→E2.loc b=E.loc b:=fun b e=>by rw [hE2];simp only [Env.back,e]
 have e2V0:∀ b,cn σ nid n b=none→E2.ver b=E.ver b:=fun b e=>by rw [hE2];simp only [Env.back,e]
 have hE'k:∀ i,i<k→E'.alive i:=fun i hi=>hI'.gin.alive i ((ecA i).2 hi)
 have e2Ai:∀ b i,E2.alive b→cn σ nid n b=some i→E'.alive i:=fun b i hb e=>by
  rcases (e2A b).1 hb with h1|⟨j,h1,h2⟩
  ·by_cases hbσ:b∈σ
   ·rw [hcnσ b hbσ,Option.some.injEq] at e
    rw [← e]
    exact hE'k _ (by rw [hk];exact (posN_mem hbσ).1)
   ·rw [hcnE b h1 hbσ] at e;simp at e
  ·rw [h1,Option.some.injEq] at e
   rw [← e];exact h2
 have e2A0:∀ b,E2.alive b→cn σ nid n b=none→E.alive b∧b ∉ σ:=fun b hb e=>by
  rcases (e2A b).1 hb with h1|⟨j,h1,_⟩
  ·exact ⟨h1,fun hbσ=>by rw [hcnσ b hbσ] at e;simp at e⟩
  ·rw [h1] at e;simp at e
 have e2An:∀ i,E'.alive i→E2.alive (nmN σ nid i):=fun i hi=>(e2A _).2 (.inr ⟨i,hcnN i (by have:=hal' i hi;omega),hi⟩)
 have hlE:E.Le E2:=by
  refine ⟨fun x hx=>by rw [e2G];exact hI'.gin.G x (by show Ec.G x;rw [ecG];exact hx),fun b hb=>(e2A b).2 (.inl hb),fun b hb=>?_⟩
  by_cases hbσ:b∈σ
  ·have hcb:=hcnσ b hbσ
   obtain ⟨hp1,hp2⟩:=posN_mem hbσ
   rw [e2V b _ hcb,e2L b _ hcb,if_pos hbσ]
   have hs:=hI'.gin.same (posN σ b) ((ecA _).2 (by omega))
   have hv:=ecV _ b hp2
   have hloc:=ecL _ b hp2
   rcases hs with ⟨h1,h2⟩|⟨h1,h2⟩
   ·have h1':E'.ver (posN σ b)=Ec.ver (posN σ b):=h1
    have h2':E'.loc (posN σ b)=Ec.loc (posN σ b):=h2
    left
    rw [h1',h2',hv,hloc]
    split
    ·exact ⟨by omega,rfl⟩
    ·exact ⟨by omega,rfl⟩
   ·have h1':1≤Ec.ver (posN σ b):=h1
    have h2':Ec.ver (posN σ b)<E'.ver (posN σ b):=h2
    rw [hv] at h1' h2'
    right
    split at h1'
    ·omega
    ·rename_i hne
     rw [if_neg hne] at h2'
     exact ⟨by omega,by omega⟩
  ·have:=hcnE b hb hbσ
   exact .inl ⟨e2V0 b this,e2L0 b this⟩
 have hsz:w.heap.size≤w'.heap.size:=hI'.frame.size
 have hInv:Inv w0 bl E2 w':=by
  refine ⟨⟨hI'.frame.os.trans hI.frame.os,hI'.frame.out.trans hI.frame.out,Nat.le_trans hI.frame.size hsz,fun x hx hxb=>?_⟩,hI.gin.trans hlE,hI.low,fun x hx=>?_,fun x hx=>hI'.good x (by rw [e2G] at hx;exact hx),fun b blk base sz hb hloc=>?_,fun b b' blk base sz base' sz' hb hb' hloc hloc'=>?_⟩
  ·have hxl:x ∉ l:=fun hxl=>by
    rcases (hlb x hxl).2.2 with h1|h1
    ·omega
    ·exact hxb h1
   rw [hI'.frame.old x (by have:=hI.frame.size;omega) hxl]
   exact hI.frame.old x hx hxb
  ·rw [e2G] at hx
   rcases hI'.gout x hx with h1|h1|h1
   ·exact hI.gout x (by have h1':Ec.G x:=h1;rw [ecG] at h1';exact h1')
   ·exact .inr (.inl (by have:=hI.frame.size;omega))
   ·exact .inr (hlb x h1).2.2
  ·cases hcb:cn σ nid n b with
   | some i =>
    rw [e2L b i hcb] at hloc
    have:=hI'.locs i blk base sz (e2Ai b i hb hcb) hloc
    refine ⟨this.1,by rw [e2G];exact this.2.1,?_⟩
    rcases this.2.2 with h1|h1
    ·exact .inl (by have:=hI.frame.size;omega)
    ·exact (hlb blk h1).2.2
   | none =>
    rw [e2L0 b hcb] at hloc
    obtain ⟨hb1,hb2⟩:=e2A0 b hb hcb
    have h1:=hI.locs b blk base sz hb1 hloc
    refine ⟨by omega,fun hg=>?_,h1.2.2⟩
    rw [e2G] at hg
    rcases hI'.gout blk hg with h2|h2|h2
    ·have h2':Ec.G blk:=h2
     rw [ecG] at h2'
     exact h1.2.1 h2'
    ·omega
    ·obtain ⟨c,h3,base',sz',h4⟩:=(hlm blk).1 h2
     have:=hI.apart b c blk base sz base' sz' hb1 (hal c h3) hloc h4
     exact hb2 (this ▸ h3)
  ·have key:∀ b c i base sz base' sz',E2.alive b→cn σ nid n b=some i→E'.loc i=some (blk,base,sz)→E2.alive c→cn σ nid n c=none→E.loc c=some (blk,base',sz')→False:=fun b c i base sz base' sz' hb hcb hlb' hc hcc hlc=>by
    obtain ⟨hc1,hc2⟩:=e2A0 c hc hcc
    have h1:=hI.locs c blk base' sz' hc1 hlc
    rcases (hI'.locs i blk base sz (e2Ai b i hb hcb) hlb').2.2 with h2|h2
    ·omega
    ·obtain ⟨d,h3,base2,sz2,h4⟩:=(hlm blk).1 h2
     have:=hI.apart c d blk base' sz' base2 sz2 hc1 (hal d h3) hlc h4
     exact hc2 (this ▸ h3)
   cases hcb:cn σ nid n b with
   | some i =>
    rw [e2L b i hcb] at hloc
    cases hcb':cn σ nid n b' with
    | some j =>
     rw [e2L b' j hcb'] at hloc'
     have:=hI'.apart i j blk base sz base' sz' (e2Ai b i hb hcb) (e2Ai b' j hb' hcb') hloc hloc'
     rw [← (hcnB b i hcb).2,← (hcnB b' j hcb').2,this]
    | none =>
     rw [e2L0 b' hcb'] at hloc'
     exact (key b b' i base sz base' sz' hb hcb hloc hb' hcb' hloc').elim
   | none =>
    rw [e2L0 b hcb] at hloc
    cases hcb':cn σ nid n b' with
    | some j =>
     rw [e2L b' j hcb'] at hloc'
     exact (key b' b j base' sz' base sz hb' hcb' hloc' hb hcb hloc).elim
    | none =>
     rw [e2L0 b' hcb'] at hloc'
     exact hI.apart b b' blk base sz base' sz' (e2A0 b hb hcb).1 (e2A0 b' hb' hcb').1 hloc hloc'
 have hsh:∀ i b,σ[i]?=some b→1≤E.ver b→shN M σ i=E.ver b - 1:=fun i b e hv=>by
  unfold shN
  rw [e]
  simp only
  have hbσ:b∈σ:=List.mem_of_getElem? e
  have ho:=hM b (hal b hbσ)
  have hd:=hdom b hbσ
  cases hMb:M b with
  | dead=>rw [hMb] at hd;simp [notDead] at hd
  | box cs=>rw [hMb] at ho;simp only [ObjRep] at ho;omega
  | vec m s f xs=>rw [hMb] at ho;simp only [ObjRep] at ho;simp only [verOf];omega
  | map m n es=>rw [hMb] at ho;simp only [ObjRep] at ho;simp only [verOf];omega
 have hver:∀ i,E'.alive i→(E'.ver i=0→E2.ver (nmN σ nid i)=0)∧(1≤E'.ver i→E2.ver (nmN σ nid i)=E'.ver i+shN M σ i):=fun i hi=>by
  have hin:=hal' i hi
  rw [e2V _ i (hcnN i (by omega))]
  by_cases h1:i<σ.length
  ·have h2:=nmN_lt (nid:=nid) h1
   have hm:nmN σ nid i∈σ:=List.mem_of_getElem? h2
   rw [if_pos hm]
   have hs:=hI'.gin.same i ((ecA _).2 (by omega))
   have hv:=ecV i _ h2
   refine ⟨fun h0=>?_,fun h0=>?_⟩
   ·rcases hs with ⟨h3,_⟩|⟨h3,h4⟩
    ·have h3':E'.ver i=Ec.ver i:=h3
     rw [h0,hv] at h3'
     split at h3'<;>omega
    ·have h4':Ec.ver i<E'.ver i:=h4
     omega
   ·have hpos:1≤E.ver (nmN σ nid i):=by
     rcases hs with ⟨h3,_⟩|⟨h3,h4⟩
     ·have h3':E'.ver i=Ec.ver i:=h3
      rw [hv] at h3'
      split at h3'<;>omega
     ·have h3':1≤Ec.ver i:=h3
      rw [hv] at h3'
      split at h3'<;>omega
    rw [hsh i _ h2 hpos]
  ·have hm:nmN σ nid i ∉ σ:=fun hm=>by
    rw [nmN_ge h1] at hm
    exact hσn _ hm ⟨by omega,by omega⟩
   rw [if_neg hm]
   have:shN M σ i=0:=by
    unfold shN
    rw [List.getElem?_eq_none (by omega)]
   rw [this]
   exact ⟨fun h=>by omega,fun _=>rfl⟩
 have hren2:RenOK E' E2 w' w' (nmN σ nid) (fun j m=>m+shN M σ j) (fun _=>True) (fun _ _=>True):=by
  refine ⟨fun x hx=>by rw [e2G];exact hx,fun b hb _=>e2An b hb,fun b hb _=>e2L _ _ (hcnN b (by have:=hal' b hb;omega)),fun b hb _ h0=>(hver b hb).1 h0,fun b m hb _ _ hm hm2=>?_,fun _ _=>rfl⟩
  have:=(hver b hb).2 (by omega)
  rw [this]
  exact ⟨by omega,by omega,fun e=>by omega⟩
 have hrx:Rep E2 w' (r.ren (nmN σ nid) fun j m=>m+shN M σ j) x:=hren2.rep okR_true hx
 have hnew:∀ i,i<n→E'.alive i:=fun i hi=>by
  by_cases h1:i<k
  ·exact hE'k i h1
  ·refine led_alive hM' (fun b hb=>?_) hled2 i (mem_rng.2 ⟨by omega,by omega⟩)
   rcases List.mem_append.1 hb with hb|hb
   ·exact hx.nms_alive b hb
   ·obtain ⟨j,hj,hb⟩:=List.mem_flatMap.1 hb
    have:=mem_rng.1 hj
    exact (hM' j (hE'k j (by omega))).nms_alive b hb
 refine ⟨x,E2,he,⟨hlE,hInv,hsz,fun x hx hn'=>?_,fun b hb=>?_,fun b hb hn'=>?_,fun b o hbo=>?_⟩,hrx⟩
 ·refine hI'.frame.old x hx fun hxl=>?_
  obtain ⟨b,h1,base,sz,h2⟩:=(hlm x).1 hxl
  obtain ⟨hp1,hp2⟩:=posN_mem h1
  refine hn' b base sz (hal b h1) ?_ h2
  have:=updN_keys (M:=M) (σ:=σ) (nid:=nid) (j:=posN σ b) (ms:=ms') (i:=0) (by omega)
  rw [Nat.zero_add] at this
  have h3:=nmN_lt (nid:=nid) hp1
  rw [hp2,Option.some.injEq] at h3
  rwa [← h3] at this
 ·rcases (e2A b).1 hb with h1|⟨i,h1,h2⟩
  ·exact .inl h1
  ·right
   obtain ⟨h3,h4⟩:=hcnB b i h1
   have:=updN_keys (M:=M) (σ:=σ) (nid:=nid) (j:=i) (ms:=ms') (i:=0) (by omega)
   rwa [Nat.zero_add,h4] at this
 ·have hbσ:b ∉ σ:=fun hbσ=>by
   obtain ⟨hp1,hp2⟩:=posN_mem hbσ
   have:=updN_keys (M:=M) (σ:=σ) (nid:=nid) (j:=posN σ b) (ms:=ms') (i:=0) (by omega)
   rw [Nat.zero_add] at this
   have h3:=nmN_lt (nid:=nid) hp1
   rw [hp2,Option.some.injEq] at h3
   rw [← h3] at this
   exact hn' this
  have:=hcnE b hb hbσ
  exact ⟨e2V0 b this,e2L0 b this⟩
 ·obtain ⟨j,p,h1,h2,h3⟩:=mem_updN hbo
  rw [Nat.zero_add] at h2 h3
  have hj:j<n:=by rw [hn];exact (List.getElem?_eq_some_iff.1 h1).1
  have haj:=hnew j hj
  subst h2 h3
  refine ⟨e2An j haj,?_⟩
  have ho:=hM' j haj
  have hg:getL ms' j=p:=by unfold getL;rw [h1];rfl
  rw [hg] at ho
  have hob:=hren2.obj (b:=j) (o:=p) (m':=E'.ver j+shN M σ j) (fun _ _ _ _=>rfl) haj trivial okRO_true (fun hv=>⟨by omega,(hver j haj).2 hv⟩) ho
  rwa [ren_obj (b:=j) (fun m hm=>?_)] at hob
  rcases hm with ⟨s,f,xs,rfl⟩|⟨q,es,rfl⟩
  ·simp only [ObjRep] at ho
   rw [ho.1]
  ·simp only [ObjRep] at ho
   rw [ho.1]
theorem callG_keys {F:List AV→List AO→Option (AV×List AO)} {avs:List AV} {M:Nat→AO} {nid:Nat} {r:AV×List (Nat×AO)} (h:callG F avs M nid=some r):∀ b∈r.2.map (·.1),(nid≤b∧b<nid+16)∨M b≠.dead:=by
 unfold AM.callG at h
 simp only at h
 split at h
 case isFalse=>simp at h
 rename_i hC
 split at h
 case h_2=>simp at h
 split at h
 case isFalse=>simp at h
 rename_i hR
 simp only [Option.some.injEq] at h
 subst h
 intro b hb
 obtain ⟨⟨b',o⟩,hp,rfl⟩:=List.mem_map.1 hb
 obtain ⟨j,p,h1,h2,_⟩:=mem_updN hp
 rw [Nat.zero_add] at h2
 simp only
 subst h2
 have hj:=(List.getElem?_eq_some_iff.1 h1).1
 by_cases h3:j<(gat M 64 (nmsL avs) []).length
 ·right
  have h4:=nmN_lt (nid:=nid) h3
  have h5:=hC.2.2.1 _ (List.mem_of_getElem? h4)
  intro e
  rw [e] at h5
  simp [notDead] at h5
 ·left
  rw [nmN_ge h3]
  have:=hR.1
  omega
end Go.AM
namespace Go.AM
attribute [simp] CallG RetG gat AV.nms nmsL AO.nms Led notDead AV.curB curBL AO.curB verOf renL AV.ren posN canO shN updN AO.ren rng getL idx
end Go.AM
