/- A part of the proof: what functions of the program compute, by abstract execution of their code. Its theorems hold without further condition. -/
import Derived.Test.YtcfhmdljeeppfaaAmZa
import Derived.Test.YtcfhmdljeeppfaaAmT
set_option linter.all false
namespace Go.AM
open Go
theorem posN_mem:∀ {σ:List Nat} {b:Nat},b∈σ→posN σ b<σ.length∧σ[posN σ b]?=some b
 | [],b,h=>by simp at h
 | c::r,b,h=>by
  simp only [posN]
  by_cases e:c=b
  ·rw [if_pos e];simp [e]
  ·rw [if_neg e]
   have:=posN_mem (σ:=r) ((List.mem_cons.1 h).resolve_left fun h=>e h.symm)
   simpa using this
theorem posN_at:∀ {σ:List Nat} {i b:Nat},σ.Nodup→σ[i]?=some b→posN σ b=i
 | [],i,b,_,h=>by simp at h
 | c::r,0,b,_,h=>by simp at h;simp [posN,h]
 | c::r,i+1,b,hn,h=>by
  obtain ⟨h1,h2⟩:=List.nodup_cons.1 hn
  simp only [List.getElem?_cons_succ] at h
  have hb:b∈r:=List.mem_of_getElem? h
  have hne:¬ c=b:=fun e=>h1 (e ▸ hb)
  simp only [posN,if_neg hne,posN_at h2 h]
def Env.sub (E:Env) (σ:List Nat):Env :=
 {G:=E.G,alive:=fun i=>i<σ.length,ver:=fun i=>match σ[i]? with|some b=>if E.ver b=0 then 0 else 1|none=>0,loc:=fun i=>(σ[i]?).bind E.loc }
def cn (σ:List Nat) (nid n:Nat) (b:Nat):Option Nat :=
 if b∈σ then some (posN σ b) else if nid≤b∧b<nid+(n - σ.length) then some (σ.length+(b - nid)) else none
def Env.back (E E':Env) (σ:List Nat) (nid n:Nat):Env :=
 {G:=E'.G,alive:=fun b=>E.alive b∨∃ i,cn σ nid n b=some i∧E'.alive i,
  ver:=fun b=>match cn σ nid n b with|some i=>E'.ver i+(if b∈σ then E.ver b - 1 else 0)|none=>E.ver b,
  loc:=fun b=>match cn σ nid n b with|some i=>E'.loc i|none=>E.loc b }
theorem mem_updN {M:Nat→AO} {σ:List Nat} {nid:Nat} {b:Nat} {o:AO}:∀ {ms:List AO} {i:Nat},(b,o)∈updN M σ nid i ms→∃ j p,ms[j]?=some p∧b=nmN σ nid (i+j)∧o=p.ren (nmN σ nid) (fun j m=>m+shN M σ j) (i+j)
 | [],i,h=>by simp [updN] at h
 | p::r,i,h=>by
  simp only [updN,List.mem_cons,Prod.mk.injEq] at h
  rcases h with ⟨rfl,rfl⟩|h
  ·exact ⟨0,p,by simp,rfl,rfl⟩
  ·obtain ⟨j,q,h1,h2,h3⟩:=mem_updN h
   exact ⟨j+1,q,by simpa using h1,by rw [h2];congr 1;omega,by rw [h3,show i+1+j=i+(j+1) by omega]⟩
theorem updN_keys {M:Nat→AO} {σ:List Nat} {nid:Nat} {j:Nat}:∀ {ms:List AO} {i:Nat},j<ms.length→nmN σ nid (i+j)∈(updN M σ nid i ms).map (·.1)
 | [],i,h=>by simp at h
 | p::r,i,h=>by
  simp only [updN,List.map_cons,List.mem_cons]
  cases j with
  | zero=>exact .inl rfl
  | succ j =>
   right
   have:=updN_keys (M:=M) (σ:=σ) (nid:=nid) (j:=j) (ms:=r) (i:=i+1) (by simpa using h)
   rwa [show i+1+j=i+(j+1) by omega] at this
theorem mem_rng {i n b:Nat}:b∈rng i n↔i≤b∧b<i+n:=by
 induction n generalizing i with
 | zero=>simp [rng]
 | succ n ih=>simp only [rng,List.mem_cons,ih];omega
theorem nmN_lt {σ:List Nat} {nid i:Nat} (h:i<σ.length):σ[i]?=some (nmN σ nid i):=by
 unfold nmN
 rw [dif_pos h,List.getElem?_eq_getElem h]
theorem nmN_ge {σ:List Nat} {nid i:Nat} (h:¬ i<σ.length):nmN σ nid i=nid+(i - σ.length):=by
 unfold nmN
 rw [dif_neg h]
theorem ren_obj {σ:Nat→Nat} {v:Nat→Nat→Nat} {b m':Nat} {o:AO} (h:∀ m,(∃ s f xs,o=.vec m s f xs)∨(∃ n es,o=.map m n es)∨(∃ s xs k e,o=.vo m s xs k e)→v b m=m') :
  o.renV σ v m'=o.ren σ v b:=by
 cases o with
 | dead=>rfl
 | box cs=>rfl
 | vec m s f xs=>simp only [AO.ren,AO.renV];rw [h m (.inl ⟨s,f,xs,rfl⟩)]
 | map m n es=>simp only [AO.ren,AO.renV];rw [h m (.inr (.inl ⟨n,es,rfl⟩))]
 | vo m s xs k e=>simp only [AO.ren,AO.renV];rw [h m (.inr (.inr ⟨s,xs,k,e,rfl⟩))]
theorem GSound.callG {P:Program} {f:FuncId} {F:List AV→List AO→Option (AV×List AO)} (h:GSound P f F):CallOK P f (callG F):=by
 intro avs M nid av u hc w0 bl E w args hr hM hI hnid
 obtain ⟨args⟩:=args
 unfold AM.callG at hc
 simp only at hc
 obtain ⟨σ,hσ⟩:∃ σ,σ=gat M 64 (nmsL avs) []:=⟨_,rfl⟩
 rw [← hσ] at hc
 split at hc
 case isFalse=>simp at hc
 rename_i hC
 obtain ⟨hnd,hled,hdom,hargs,hobjs,hcurA,hcurO⟩:=hC
 split at hc
 case h_2=>simp at hc
 rename_i r ms' hF
 split at hc
 case isFalse=>simp at hc
 rename_i hR
 obtain ⟨⟨hk1,hk2⟩,hled2⟩:=hR
 simp only [Option.some.injEq,Prod.mk.injEq] at hc
 obtain ⟨rfl,rfl⟩:=hc
 obtain ⟨n,hn⟩:∃ n,n=ms'.length:=⟨_,rfl⟩
 obtain ⟨k,hk⟩:∃ k,k=σ.length:=⟨_,rfl⟩
 have hlen:(σ.map fun b=>canO σ (M b)).length=k:=by simp [hk]
 have hal:∀ b∈σ,E.alive b:=led_alive hM (fun b hb=>hr.nms_alive b hb) hled
 obtain ⟨l,hl⟩:∃ l:List Nat,l=σ.filterMap fun b=>(E.loc b).map (·.1):=⟨_,rfl⟩
 have hlm:∀ blk,blk∈l↔∃ b∈σ,∃ base sz,E.loc b=some (blk,base,sz):=fun blk=>by
  rw [hl,List.mem_filterMap]
  constructor
  ·rintro ⟨b,hb,e⟩
   cases hh:E.loc b with
   | none=>rw [hh] at e;simp at e
   | some L =>
    obtain ⟨x,y,z⟩:=L
    rw [hh] at e
    simp at e
    subst e
    exact ⟨b,hb,y,z,hh⟩
  ·rintro ⟨b,hb,base,sz,e⟩
   exact ⟨b,hb,by rw [e];rfl⟩
 have hlb:∀ blk∈l,blk<w.heap.size∧¬ E.G blk∧(w0.heap.size≤blk∨blk∈bl.l):=fun blk hb=>by
  obtain ⟨b,h1,base,sz,h2⟩:=(hlm blk).1 hb
  exact hI.locs b blk base sz (hal b h1) h2
 obtain ⟨Ec,hEc⟩:∃ Ec,Ec=E.sub σ:=⟨_,rfl⟩
 have ecG:Ec.G=E.G:=by rw [hEc];rfl
 have ecA:∀ i,Ec.alive i↔i<k:=fun i=>by rw [hEc,hk];rfl
 have ecV:∀ i b,σ[i]?=some b→Ec.ver i=if E.ver b=0 then 0 else 1:=fun i b e=>by rw [hEc];simp only [Env.sub,e]
 have ecL:∀ i b,σ[i]?=some b→Ec.loc i=E.loc b:=fun i b e=>by rw [hEc];simp only [Env.sub,e,Option.bind_some]
 have ecX:∀ i,i<k→∃ b,σ[i]?=some b∧b∈σ:=fun i hi=>⟨σ[i]'(by omega),List.getElem?_eq_getElem _,List.getElem_mem _⟩
 have hIc:Inv w ⟨l,Ec,k⟩ Ec w:=by
  refine ⟨⟨rfl,rfl,Nat.le_refl _,fun _ _ _=>rfl⟩,Env.Le.refl _,fun i hi=>(ecA i).1 hi,fun x hx=>.inl hx,fun x hx=>hI.good x (by rw [ecG] at hx;exact hx),fun i blk base sz hi hloc=>?_,fun i j blk base sz base' sz' hi hj hloc hloc'=>?_⟩
  ·obtain ⟨b,h1,h2⟩:=ecX i ((ecA i).1 hi)
   rw [ecL i b h1] at hloc
   have:=hI.locs b blk base sz (hal b h2) hloc
   exact ⟨this.1,by rw [ecG];exact this.2.1,.inr ((hlm blk).2 ⟨b,h2,base,sz,hloc⟩)⟩
  ·obtain ⟨b,h1,h2⟩:=ecX i ((ecA i).1 hi)
   obtain ⟨c,h3,h4⟩:=ecX j ((ecA j).1 hj)
   rw [ecL i b h1] at hloc
   rw [ecL j c h3] at hloc'
   have:=hI.apart b c blk base sz base' sz' (hal b h2) (hal c h4) hloc hloc'
   subst this
   rw [← posN_at hnd h1,← posN_at hnd h3]
 have hren:RenOK E Ec w w (posN σ) (fun _ _=>1) (·∈σ) (fun b m=>m=verOf (M b)):=by
  refine ⟨fun x hx=>by rw [ecG];exact hx,fun b _ hb=>(ecA _).2 (by rw [hk];exact (posN_mem hb).1),fun b _ hb=>ecL _ _ (posN_mem hb).2,fun b _ hb h0=>by rw [ecV _ _ (posN_mem hb).2,if_pos h0],fun b m hb1 hb hv hm hm2=>?_,fun _ _=>rfl⟩
  rw [ecV _ _ (posN_mem hb).2,if_neg (by omega)]
  refine ⟨Nat.le_refl _,Nat.le_refl _,fun _=>?_⟩
  exact (verOf_ver (hM b hb1) hm hv).symm
 have hMc:MemOK Ec w (getL (σ.map fun b=>canO σ (M b))):=fun i hi=>by
  obtain ⟨b,h1,h2⟩:=ecX i ((ecA i).1 hi)
  have e:getL (σ.map fun b=>canO σ (M b)) i=canO σ (M b):=by
   unfold getL
   rw [List.getElem?_map,h1];rfl
  rw [e]
  have hp:=posN_at hnd h1
  have ho:=hM b (hal b h2)
  have:=hren.obj (b:=b) (o:=M b) (m':=1) (fun _ _ _ _=>rfl) (hal b h2) h2 (okRO_cur (hobjs b h2) (hcurO b h2)) (fun hv=>⟨Nat.le_refl _,by rw [hp,ecV i b h1,if_neg (by omega)]⟩) ho
  rw [hp] at this
  unfold canO
  cases hMb:M b with
  | dead=>trivial
  | box cs=>rw [hMb] at this;exact this
  | vec m s f xs =>
   rw [hMb] at this
   simp only [ObjRep] at this ⊢
   obtain ⟨q1,q2,q3⟩:=this
   refine ⟨q1,q2,?_⟩
   cases hlc:Ec.loc i with
   | none=>simpa only [hlc] using q3
   | some L =>
    obtain ⟨blk,base,sz⟩:=L
    simp only [hlc] at q3 ⊢
    obtain ⟨c,t,p1,p2,p3,p4,p5,p6⟩:=q3
    exact ⟨c,t,p1,p2,p3,p4,fun e=>by simp at e,p6⟩
  | map m n es=>rw [hMb] at this;exact this
  | vo m s xs k e=>rw [hMb] at this;exact this
 have hrc:RepL Ec w (renL (posN σ) (fun _ _=>1) avs) args:=hren.repL (okRL_cur hargs hcurA) hr
 refine (h w l Ec args _ _ r ms' hF (by rw [hlen];exact hIc) (fun b hb=>(ecA b).2 (by rw [hlen] at hb;exact hb)) hMc hrc).mono fun e w' ⟨x,E',he,hI',hal',hM',hx⟩=>?_
 rw [hlen] at hI'
 have hcnσ:∀ b,b∈σ→cn σ nid n b=some (posN σ b):=fun b hb=>by unfold cn;rw [if_pos hb]
 have hσn:∀ b∈σ,¬ (nid≤b∧b<nid+16):=fun b hb hh=>hnid b hh.1 hh.2 (hal b hb)
 have hcnE:∀ b,E.alive b→b ∉ σ→cn σ nid n b=none:=fun b hb hn'=>by
  unfold cn
  rw [if_neg hn',if_neg]
  rintro ⟨h1,h2⟩
  exact hnid b h1 (by omega) hb
 have hcnN:∀ i,i<n→cn σ nid n (nmN σ nid i)=some i:=fun i hi=>by
  by_cases h1:i<σ.length
  ·have h2:=nmN_lt (nid:=nid) h1
   have hm:nmN σ nid i∈σ:=List.mem_of_getElem? h2
   rw [hcnσ _ hm,posN_at hnd h2]
  ·rw [nmN_ge h1]
   have hm:nid+(i - σ.length) ∉ σ:=fun hm=>hσn _ hm ⟨by omega,by omega⟩
   unfold cn
   rw [if_neg hm,if_pos ⟨by omega,by omega⟩]
   congr 1
   omega
 have hcnB:∀ b i,cn σ nid n b=some i→i<n∧nmN σ nid i=b:=fun b i e=>by
  unfold cn at e
  split at e
  ·rename_i hb
   simp only [Option.some.injEq] at e
   subst e
   obtain ⟨h1,h2⟩:=posN_mem hb
   have h3:=nmN_lt (nid:=nid) h1
   rw [h2] at h3
   exact ⟨by omega,by simpa using h3.symm⟩
  ·split at e
   ·rename_i hb hh
    simp only [Option.some.injEq] at e
    subst e
    exact ⟨by omega,by rw [nmN_ge (by omega)];omega⟩
   ·simp at e
 obtain ⟨E2,hE2⟩:∃ E2,E2=E.back E' σ nid n:=⟨_,rfl⟩
 have e2G:E2.G=E'.G:=by rw [hE2];rfl
 have e2A:∀ b,E2.alive b↔(E.alive b∨∃ i,cn σ nid n b=some i∧E'.alive i):=fun b=>by rw [hE2];rfl
 have e2L:∀ b i,cn σ nid n b=some i→E2.loc b=E'.loc i:=fun b i e=>by rw [hE2];simp only [Env.back,e]
 have e2V:∀ b i,cn σ nid n b=some i→E2.ver b=E'.ver i+(if b∈σ then E.ver b - 1 else 0):=fun b i e=>by rw [hE2];simp only [Env.back,e]
 have e2L0:∀ b,cn σ nid n b=none→E2.loc b=E.loc b:=fun b e=>by rw [hE2];simp only [Env.back,e]
 have e2V0:∀ b,cn σ nid n b=none→E2.ver b=E.ver b:=fun b e=>by rw [hE2];simp only [Env.back,e]
 have hE'k:∀ i,i<k→E'.alive i:=fun i hi=>hI'.gin.alive i ((ecA i).2 hi)
 have e2Ai:∀ b i,E2.alive b→cn σ nid n b=some i→E'.alive i:=fun b i hb e=>by
  rcases (e2A b).1 hb with h1|⟨j,h1,h2⟩
  ·by_cases hbσ:b∈σ
   ·rw [hcnσ b hbσ,Option.some.injEq] at e
    rw [← e]
    exact hE'k _ (by rw [hk];exact (posN_mem hbσ).1)
   ·rw [hcnE b h1 hbσ] at e;simp at e
  ·rw [h1,Option.some.injEq] at e
   rw [← e];exact h2
 have e2A0:∀ b,E2.alive b→cn σ nid n b=none→E.alive b∧b ∉ σ:=fun b hb e=>by
  rcases (e2A b).1 hb with h1|⟨j,h1,_⟩
  ·exact ⟨h1,fun hbσ=>by rw [hcnσ b hbσ] at e;simp at e⟩
  ·rw [h1] at e;simp at e
 have e2An:∀ i,E'.alive i→E2.alive (nmN σ nid i):=fun i hi=>(e2A _).2 (.inr ⟨i,hcnN i (by have:=hal' i hi;omega),hi⟩)
 have hlE:E.Le E2:=by
  refine ⟨fun x hx=>by rw [e2G];exact hI'.gin.G x (by show Ec.G x;rw [ecG];exact hx),fun b hb=>(e2A b).2 (.inl hb),fun b hb=>?_⟩
  by_cases hbσ:b∈σ
  ·have hcb:=hcnσ b hbσ
   obtain ⟨hp1,hp2⟩:=posN_mem hbσ
   rw [e2V b _ hcb,e2L b _ hcb,if_pos hbσ]
   have hs:=hI'.gin.same (posN σ b) ((ecA _).2 (by omega))
   have hv:=ecV _ b hp2
   have hloc:=ecL _ b hp2
   rcases hs with ⟨h1,h2⟩|⟨h1,h2⟩
   ·have h1':E'.ver (posN σ b)=Ec.ver (posN σ b):=h1
    have h2':E'.loc (posN σ b)=Ec.loc (posN σ b):=h2
    left
    rw [h1',h2',hv,hloc]
    split
    ·exact ⟨by omega,rfl⟩
    ·exact ⟨by omega,rfl⟩
   ·have h1':1≤Ec.ver (posN σ b):=h1
    have h2':Ec.ver (posN σ b)<E'.ver (posN σ b):=h2
    rw [hv] at h1' h2'
    right
    split at h1'
    ·omega
    ·rename_i hne
     rw [if_neg hne] at h2'
     exact ⟨by omega,by omega⟩
  ·have:=hcnE b hb hbσ
   exact .inl ⟨e2V0 b this,e2L0 b this⟩
 have hsz:w.heap.size≤w'.heap.size:=hI'.frame.size
 have hInv:Inv w0 bl E2 w':=by
  refine ⟨⟨hI'.frame.os.trans hI.frame.os,hI'.frame.out.trans hI.frame.out,Nat.le_trans hI.frame.size hsz,fun x hx hxb=>?_⟩,hI.gin.trans hlE,hI.low,fun x hx=>?_,fun x hx=>hI'.good x (by rw [e2G] at hx;exact hx),fun b blk base sz hb hloc=>?_,fun b b' blk base sz base' sz' hb hb' hloc hloc'=>?_⟩
  ·have hxl:x ∉ l:=fun hxl=>by
    rcases (hlb x hxl).2.2 with h1|h1
    ·omega
    ·exact hxb h1
   rw [hI'.frame.old x (by have:=hI.frame.size;omega) hxl]
   exact hI.frame.old x hx hxb
  ·rw [e2G] at hx
   rcases hI'.gout x hx with h1|h1|h1
   ·exact hI.gout x (by have h1':Ec.G x:=h1;rw [ecG] at h1';exact h1')
   ·exact .inr (.inl (by have:=hI.frame.size;omega))
   ·exact .inr (hlb x h1).2.2
  ·cases hcb:cn σ nid n b with
   | some i =>
    rw [e2L b i hcb] at hloc
    have:=hI'.locs i blk base sz (e2Ai b i hb hcb) hloc
    refine ⟨this.1,by rw [e2G];exact this.2.1,?_⟩
    rcases this.2.2 with h1|h1
    ·exact .inl (by have:=hI.frame.size;omega)
    ·exact (hlb blk h1).2.2
   | none =>
    rw [e2L0 b hcb] at hloc
    obtain ⟨hb1,hb2⟩:=e2A0 b hb hcb
    have h1:=hI.locs b blk base sz hb1 hloc
    refine ⟨by omega,fun hg=>?_,h1.2.2⟩
    rw [e2G] at hg
    rcases hI'.gout blk hg with h2|h2|h2
    ·have h2':Ec.G blk:=h2
     rw [ecG] at h2'
     exact h1.2.1 h2'
    ·omega
    ·obtain ⟨c,h3,base',sz',h4⟩:=(hlm blk).1 h2
     have:=hI.apart b c blk base sz base' sz' hb1 (hal c h3) hloc h4
     exact hb2 (this ▸ h3)
  ·have key:∀ b c i base sz base' sz',E2.alive b→cn σ nid n b=some i→E'.loc i=some (blk,base,sz)→E2.alive c→cn σ nid n c=none→E.loc c=some (blk,base',sz')→False:=fun b c i base sz base' sz' hb hcb hlb' hc hcc hlc=>by
    obtain ⟨hc1,hc2⟩:=e2A0 c hc hcc
    have h1:=hI.locs c blk base' sz' hc1 hlc
    rcases (hI'.locs i blk base sz (e2Ai b i hb hcb) hlb').2.2 with h2|h2
    ·omega
    ·obtain ⟨d,h3,base2,sz2,h4⟩:=(hlm blk).1 h2
     have:=hI.apart c d blk base' sz' base2 sz2 hc1 (hal d h3) hlc h4
     exact hc2 (this ▸ h3)
   cases hcb:cn σ nid n b with
   | some i =>
    rw [e2L b i hcb] at hloc
    cases hcb':cn σ nid n b' with
    | some j =>
     rw [e2L b' j hcb'] at hloc'
     have:=hI'.apart i j blk base sz base' sz' (e2Ai b i hb hcb) (e2Ai b' j hb' hcb') hloc hloc'
     rw [← (hcnB b i hcb).2,← (hcnB b' j hcb').2,this]
    | none =>
     rw [e2L0 b' hcb'] at hloc'
     exact (key b b' i base sz base' sz' hb hcb hloc hb' hcb' hloc').elim
   | none =>
    rw [e2L0 b hcb] at hloc
    cases hcb':cn σ nid n b' with
    | some j =>
     rw [e2L b' j hcb'] at hloc'
     exact (key b' b j base' sz' base sz hb' hcb' hloc' hb hcb hloc).elim
    | none =>
     rw [e2L0 b' hcb'] at hloc'
     exact hI.apart b b' blk base sz base' sz' (e2A0 b hb hcb).1 (e2A0 b' hb' hcb').1 hloc hloc'
 have hsh:∀ i b,σ[i]?=some b→1≤E.ver b→shN M σ i=E.ver b - 1:=fun i b e hv=>by
  unfold shN
  rw [e]
  simp only
  have hbσ:b∈σ:=List.mem_of_getElem? e
  have ho:=hM b (hal b hbσ)
  have hd:=hdom b hbσ
  cases hMb:M b with
  | dead=>rw [hMb] at hd;simp [notDead] at hd
  | box cs=>rw [hMb] at ho;simp only [ObjRep] at ho;omega
  | vec m s f xs=>rw [hMb] at ho;simp only [ObjRep] at ho;simp only [verOf];omega
  | map m n es=>rw [hMb] at ho;simp only [ObjRep] at ho;simp only [verOf];omega
  | vo m s xs k e=>rw [hMb] at ho;simp only [ObjRep] at ho;simp only [verOf];omega
 have hver:∀ i,E'.alive i→(E'.ver i=0→E2.ver (nmN σ nid i)=0)∧(1≤E'.ver i→E2.ver (nmN σ nid i)=E'.ver i+shN M σ i):=fun i hi=>by
  have hin:=hal' i hi
  rw [e2V _ i (hcnN i (by omega))]
  by_cases h1:i<σ.length
  ·have h2:=nmN_lt (nid:=nid) h1
   have hm:nmN σ nid i∈σ:=List.mem_of_getElem? h2
   rw [if_pos hm]
   have hs:=hI'.gin.same i ((ecA _).2 (by omega))
   have hv:=ecV i _ h2
   refine ⟨fun h0=>?_,fun h0=>?_⟩
   ·rcases hs with ⟨h3,_⟩|⟨h3,h4⟩
    ·have h3':E'.ver i=Ec.ver i:=h3
     rw [h0,hv] at h3'
     split at h3'<;>omega
    ·have h4':Ec.ver i<E'.ver i:=h4
     omega
   ·have hpos:1≤E.ver (nmN σ nid i):=by
     rcases hs with ⟨h3,_⟩|⟨h3,h4⟩
     ·have h3':E'.ver i=Ec.ver i:=h3
      rw [hv] at h3'
      split at h3'<;>omega
     ·have h3':1≤Ec.ver i:=h3
      rw [hv] at h3'
      split at h3'<;>omega
    rw [hsh i _ h2 hpos]
  ·have hm:nmN σ nid i ∉ σ:=fun hm=>by
    rw [nmN_ge h1] at hm
    exact hσn _ hm ⟨by omega,by omega⟩
   rw [if_neg hm]
   have:shN M σ i=0:=by
    unfold shN
    rw [List.getElem?_eq_none (by omega)]
   rw [this]
   exact ⟨fun h=>by omega,fun _=>rfl⟩
 have hren2:RenOK E' E2 w' w' (nmN σ nid) (fun j m=>m+shN M σ j) (fun _=>True) (fun _ _=>True):=by
  refine ⟨fun x hx=>by rw [e2G];exact hx,fun b hb _=>e2An b hb,fun b hb _=>e2L _ _ (hcnN b (by have:=hal' b hb;omega)),fun b hb _ h0=>(hver b hb).1 h0,fun b m hb _ _ hm hm2=>?_,fun _ _=>rfl⟩
  have:=(hver b hb).2 (by omega)
  rw [this]
  exact ⟨by omega,by omega,fun e=>by omega⟩
 have hrx:Rep E2 w' (r.ren (nmN σ nid) fun j m=>m+shN M σ j) x:=hren2.rep okR_true hx
 have hnew:∀ i,i<n→E'.alive i:=fun i hi=>by
  by_cases h1:i<k
  ·exact hE'k i h1
  ·refine led_alive hM' (fun b hb=>?_) hled2 i (mem_rng.2 ⟨by omega,by omega⟩)
   rcases List.mem_append.1 hb with hb|hb
   ·exact hx.nms_alive b hb
   ·obtain ⟨j,hj,hb⟩:=List.mem_flatMap.1 hb
    have:=mem_rng.1 hj
    exact (hM' j (hE'k j (by omega))).nms_alive b hb
 refine ⟨x,E2,he,⟨hlE,hInv,hsz,fun x hx hn'=>?_,fun b hb=>?_,fun b hb hn'=>?_,fun b o hbo=>?_⟩,hrx⟩
 ·refine hI'.frame.old x hx fun hxl=>?_
  obtain ⟨b,h1,base,sz,h2⟩:=(hlm x).1 hxl
  obtain ⟨hp1,hp2⟩:=posN_mem h1
  refine hn' b base sz (hal b h1) ?_ h2
  have:=updN_keys (M:=M) (σ:=σ) (nid:=nid) (j:=posN σ b) (ms:=ms') (i:=0) (by omega)
  rw [Nat.zero_add] at this
  have h3:=nmN_lt (nid:=nid) hp1
  rw [hp2,Option.some.injEq] at h3
  rwa [← h3] at this
 ·rcases (e2A b).1 hb with h1|⟨i,h1,h2⟩
  ·exact .inl h1
  ·right
   obtain ⟨h3,h4⟩:=hcnB b i h1
   have:=updN_keys (M:=M) (σ:=σ) (nid:=nid) (j:=i) (ms:=ms') (i:=0) (by omega)
   rwa [Nat.zero_add,h4] at this
 ·have hbσ:b ∉ σ:=fun hbσ=>by
   obtain ⟨hp1,hp2⟩:=posN_mem hbσ
   have:=updN_keys (M:=M) (σ:=σ) (nid:=nid) (j:=posN σ b) (ms:=ms') (i:=0) (by omega)
   rw [Nat.zero_add] at this
   have h3:=nmN_lt (nid:=nid) hp1
   rw [hp2,Option.some.injEq] at h3
   rw [← h3] at this
   exact hn' this
  have:=hcnE b hb hbσ
  exact ⟨e2V0 b this,e2L0 b this⟩
 ·obtain ⟨j,p,h1,h2,h3⟩:=mem_updN hbo
  rw [Nat.zero_add] at h2 h3
  have hj:j<n:=by rw [hn];exact (List.getElem?_eq_some_iff.1 h1).1
  have haj:=hnew j hj
  subst h2 h3
  refine ⟨e2An j haj,?_⟩
  have ho:=hM' j haj
  have hg:getL ms' j=p:=by unfold getL;rw [h1];rfl
  rw [hg] at ho
  have hob:=hren2.obj (b:=j) (o:=p) (m':=E'.ver j+shN M σ j) (fun _ _ _ _=>rfl) haj trivial okRO_true (fun hv=>⟨by omega,(hver j haj).2 hv⟩) ho
  rwa [ren_obj (b:=j) (fun m hm=>?_)] at hob
  rcases hm with ⟨s,f,xs,rfl⟩|⟨q,es,rfl⟩|⟨s,xs,q,e,rfl⟩
  ·simp only [ObjRep] at ho
   rw [ho.1]
  ·simp only [ObjRep] at ho
   rw [ho.1]
  ·simp only [ObjRep] at ho
   rw [ho.1]
theorem callG_keys {F:List AV→List AO→Option (AV×List AO)} {avs:List AV} {M:Nat→AO} {nid:Nat} {r:AV×List (Nat×AO)} (h:callG F avs M nid=some r):∀ b∈r.2.map (·.1),(nid≤b∧b<nid+16)∨M b≠.dead:=by
 unfold AM.callG at h
 simp only at h
 split at h
 case isFalse=>simp at h
 rename_i hC
 split at h
 case h_2=>simp at h
 split at h
 case isFalse=>simp at h
 rename_i hR
 simp only [Option.some.injEq] at h
 subst h
 intro b hb
 obtain ⟨⟨b',o⟩,hp,rfl⟩:=List.mem_map.1 hb
 obtain ⟨j,p,h1,h2,_⟩:=mem_updN hp
 rw [Nat.zero_add] at h2
 simp only
 subst h2
 have hj:=(List.getElem?_eq_some_iff.1 h1).1
 by_cases h3:j<(gat M 64 (nmsL avs) []).length
 ·right
  have h4:=nmN_lt (nid:=nid) h3
  have h5:=hC.2.2.1 _ (List.mem_of_getElem? h4)
  intro e
  rw [e] at h5
  simp [notDead] at h5
 ·left
  rw [nmN_ge h3]
  have:=hR.1
  omega
end Go.AM
namespace Go.AM
attribute [simp] CallG RetG gat AV.nms nmsL AO.nms Led notDead AV.curB curBL AO.curB verOf renL AV.ren posN canO shN updN AO.ren rng getL idx
end Go.AM
namespace Go.AM
open Go
def restr (S:List Nat) (M:Nat→AO):Nat→AO:=fun b=>if b∈S then M b else .dead
abbrev RecF:=List Nat×Rec
def RecsF (T:TypeId→Option TD) (X:AX) (ops:Array Oper) (N base:Nat):List Oper→Nat→(Nat→AV)→(Nat→AO)→List RecF→(Nat→AV)→(Nat→AO)→Prop
 | [],_,g,m,[],g',m'=>g'=g∧m'=m
 | o::ol,i,g,m,r::rs,g',m'=>stepRel T X ops N o g (restr r.1 m) (base+16*i) r.2∧RecsF T X ops N base ol (i+1) (putF g o.dst r.2.1) (updM m r.2.2) rs g' m'
 | _,_,_,_,_,_,_=>False
theorem recsF_at {T:TypeId→Option TD} {X:AX} {ops:Array Oper} {N base:Nat}:∀ {ol:List Oper} {i:Nat} {g g':Nat→AV} {m m':Nat→AO} {rs:List RecF},RecsF T X ops N base ol i g m rs g' m' →
  rs.length=ol.length∧g'=gF (ol.zip (rs.map (·.2))) i (fun _=>true) g∧m'=mF (ol.zip (rs.map (·.2))) i (fun _=>true) m ∧
  ∀ k o S r,ol[k]?=some o→rs[k]?=some (S,r)→stepRel T X ops N o (gF (ol.zip (rs.map (·.2))) i (fun j=>decide (j<i+k)) g) (restr S (mF (ol.zip (rs.map (·.2))) i (fun j=>decide (j<i+k)) m)) (base+16*(i+k)) r
 | [],i,g,g',m,m',[],h=>by
  obtain ⟨rfl,rfl⟩:=h
  exact ⟨rfl,rfl,rfl,fun k o S r hk=>by simp at hk⟩
 | o::ol,i,g,g',m,m',r::rs,h=>by
  obtain ⟨h1,h2⟩:=h
  obtain ⟨k1,k2,k3,k4⟩:=recsF_at h2
  refine ⟨by simp [k1],by simpa [gF] using k2,by simpa [mF] using k3,fun k o' S r' hk hr=>?_⟩
  cases k with
  | zero =>
   simp only [List.getElem?_cons_zero,Option.some.injEq] at hk hr
   subst hk
   subst hr
   rw [gF_none (fun j hj=>by simp;omega),mF_none (fun j hj=>by simp;omega)]
   exact h1
  | succ k =>
   simp only [List.getElem?_cons_succ] at hk hr
   have:=k4 k o' S r' hk hr
   simp only [List.map_cons,List.zip_cons_cons,gF,mF]
   rw [if_pos (by simp),if_pos (by simp)]
   rwa [show i+(k+1)=i+1+k from by omega]
 | [],_,_,_,_,_,_::_,h=>by simp [RecsF] at h
 | _::_,_,_,_,_,_,[],h=>by simp [RecsF] at h
structure OrdF (ops:Array Oper) (rs:List RecF):Prop where
 back:∀ j o,ops[j]?=some o→∀ e∈o.after,Region.binds .any e=true→e.on<j
 slot:∀ i j x y,ops[i]?=some x→ops[j]?=some y→i<j→Oper.apart ops x y=false→Anc ops i j
 mem:∀ i j p q,rs[i]?=some p→rs[j]?=some q→i<j→(∃ b,(b∈p.2.2.map (·.1)∧(b∈q.1∨b∈q.2.2.map (·.1)))∨(b∈q.2.2.map (·.1)∧b∈p.1))→Anc ops i j
section
variable {P:Program} {X:AX} {ops:Array Oper} {N base:Nat} {rs:List RecF} {g0 g':Nat→AV} {m0 m':Nat→AO}
theorem live_ofF (hX:XOK P X) (hz:∀ k o S r,ops.toList[k]?=some o→rs[k]?=some (S,r)→stepRel (Types P) X ops N o (gF (ops.toList.zip (rs.map (·.2))) 0 (fun j=>decide (j<0+k)) g0) (restr S (mF (ops.toList.zip (rs.map (·.2))) 0 (fun j=>decide (j<0+k)) m0)) (base+16*(0+k)) r)
  (hm0:∀ b,m0 b≠.dead→b<base):∀ k b,mF (ops.toList.zip (rs.map (·.2))) 0 (fun j=>decide (j<k)) m0 b≠.dead→b<base∨∃ j,j<k∧base+16*j≤b∧b<base+16*j+16∧∃ p,rs[j]?=some p∧b∈p.2.2.map (·.1):=by
 intro k
 induction k with
 | zero =>
  intro b hb
  rw [mF_none (fun j _=>by simp)] at hb
  exact .inl (hm0 b hb)
 | succ k ih =>
  intro b hb
  cases hk:(ops.toList.zip (rs.map (·.2)))[k]? with
  | none =>
   have:mF (ops.toList.zip (rs.map (·.2))) 0 (fun j=>decide (j<k+1)) m0 b=mF (ops.toList.zip (rs.map (·.2))) 0 (fun j=>decide (j<k)) m0 b:=mF_at rfl fun j o r hj _=>by
    have h1:=(List.getElem?_eq_some_iff.1 hj).1
    have h2:=List.getElem?_eq_none_iff.1 hk
    simp only [Nat.zero_add,decide_eq_decide]
    omega
   rw [this] at hb
   rcases ih b hb with h1|⟨j,h1,h2⟩
   ·exact .inl h1
   ·exact .inr ⟨j,by omega,h2⟩
  | some p =>
   obtain ⟨o,r⟩:=p
   obtain ⟨S,hS⟩:∃ S,rs[k]?=some (S,r)∧ops.toList[k]?=some o:=by
    rw [List.getElem?_zip_eq_some] at hk
    obtain ⟨h1,h2⟩:=hk
    rw [List.getElem?_map] at h2
    cases hr:rs[k]? with
    | none=>rw [hr] at h2;simp at h2
    | some q=>rw [hr] at h2;simp at h2;exact ⟨q.1,by rw [← h2],h1⟩
   by_cases hd:b∈r.2.map (·.1)
   ·rcases stepRel_dom hX (hz k o S r hS.2 hS.1) b hd with h1|⟨_,h1⟩
    ·exact .inr ⟨k,by omega,by omega,by omega,(S,r),hS.1,hd⟩
    ·simp only [Nat.zero_add] at h1
     have h1':mF (ops.toList.zip (rs.map (·.2))) 0 (fun j=>decide (j<k)) m0 b≠.dead:=fun e=>h1 (by unfold restr;split;exact e;rfl)
     rcases ih b h1' with h2|⟨j,h2,h3⟩
     ·exact .inl h2
     ·exact .inr ⟨j,by omega,h3⟩
   ·have:mF (ops.toList.zip (rs.map (·.2))) 0 (fun j=>decide (j<k+1)) m0 b=mF (ops.toList.zip (rs.map (·.2))) 0 (fun j=>decide (j<k)) m0 b:=mF_at rfl fun j o' r' hj hb'=>by
     have:j≠k:=fun e=>by subst e;rw [hk] at hj;simp at hj;rw [hj.2] at hd;exact hd hb'
     simp only [Nat.zero_add,decide_eq_decide]
     omega
    rw [this] at hb
    rcases ih b hb with h1|⟨j,h1,h2⟩
    ·exact .inl h1
    ·exact .inr ⟨j,by omega,h2⟩
theorem run_anyF {w0:World} {bl:Bk} {Q:Exit→Act→World→Prop} (hX:XOK P X) (hO:OrdF ops rs) (hrecs:RecsF (Types P) X ops N base ops.toList 0 g0 m0 rs g' m') (hm0:∀ b,m0 b≠.dead→b<base)
  (hq:∀ E a w,SatF N w0 bl E a w g' m'→(∀ b,E.alive b→b<base+16*ops.size)→Q .normal a w) :
  ∀ (fuel:Nat) (listed:Array Bool) (E:Env) (a:Act) (w:World),listed.size=ops.size→(List.range ops.size).countP (fun j=>!(listed.getD j false))≤fuel →
   (∀ j o,ops[j]?=some o→listed.getD j false=true→∀ e∈o.after,Region.binds .any e=true→listed.getD e.on false=true) →
   SatF N w0 bl E a w (gF (ops.toList.zip (rs.map (·.2))) 0 (fun j=>listed.getD j false) g0) (mF (ops.toList.zip (rs.map (·.2))) 0 (fun j=>listed.getD j false) m0) →
   (∀ b,E.alive b→b<base∨∃ j,listed.getD j false=true∧base+16*j≤b∧b<base+16*j+16)→wpAny P .any ops Q fuel listed a w:=by
 obtain ⟨hlen,hg',hm',hz⟩:=recsF_at hrecs
 have hzl:(ops.toList.zip (rs.map (·.2))).length=ops.size:=by simp [hlen]
 have hzget:∀ j o,ops[j]?=some o→∃ r,(ops.toList.zip (rs.map (·.2)))[j]?=some (o,r):=fun j o ho=>by
  have hj:j<ops.size:=(Array.getElem?_eq_some_iff.1 ho).1
  have:j<(ops.toList.zip (rs.map (·.2))).length:=by omega
  refine ⟨(rs[j]'(by rw [hlen];simpa using hj)).2,?_⟩
  rw [List.getElem?_eq_getElem this,List.getElem_zip,List.getElem_map]
  congr 2
  have:=(Array.getElem?_eq_some_iff.1 ho).2
  simpa using this
 have hzop:∀ {j o r},(ops.toList.zip (rs.map (·.2)))[j]?=some (o,r)→ops[j]?=some o:=fun {j o r} h=>by
  have h1:=(List.getElem?_eq_some_iff.1 h).2
  have hj:=(List.getElem?_eq_some_iff.1 h).1
  rw [List.getElem_zip] at h1
  simp only [Prod.mk.injEq] at h1
  have hj':j<ops.size:=by omega
  rw [Array.getElem?_eq_getElem hj']
  congr 1
  simpa using h1.1
 have done:∀ (listed:Array Bool) (E:Env) (a:Act) (w:World),(∀ j,j<ops.size→listed.getD j false=true)→SatF N w0 bl E a w (gF (ops.toList.zip (rs.map (·.2))) 0 (fun j=>listed.getD j false) g0) (mF (ops.toList.zip (rs.map (·.2))) 0 (fun j=>listed.getD j false) m0) →
   (∀ b,E.alive b→b<base∨∃ j,listed.getD j false=true∧base+16*j≤b∧b<base+16*j+16)→listed.size=ops.size→Q .normal a w:=fun listed E a w hall hs hal hsz=>by
  have e1:gF (ops.toList.zip (rs.map (·.2))) 0 (fun j=>listed.getD j false) g0=g':=by
   rw [hg']
   funext t
   exact gF_at rfl fun j o r hj _=>by
    simp only [Nat.zero_add]
    exact hall j (by have:=(List.getElem?_eq_some_iff.1 hj).1;omega)
  have e2:mF (ops.toList.zip (rs.map (·.2))) 0 (fun j=>listed.getD j false) m0=m':=by
   rw [hm']
   funext t
   exact mF_at rfl fun j o r hj _=>by
    simp only [Nat.zero_add]
    exact hall j (by have:=(List.getElem?_eq_some_iff.1 hj).1;omega)
  rw [e1,e2] at hs
  refine hq E a w hs fun b hb=>?_
  rcases hal b hb with h1|⟨j,h1,h2,h3⟩
  ·omega
  ·have:j<ops.size:=by
    rw [← hsz]
    by_cases hj:j<listed.size
    ·exact hj
    ·rw [Array.getD_eq_getD_getElem?,Array.getElem?_eq_none (by omega)] at h1;simp at h1
   omega
 intro fuel
 induction fuel with
 | zero =>
  intro listed E a w hsz hcnt hdown hs hal
  have hall:∀ j,j<ops.size→listed.getD j false=true:=fun j hj=>by
   have h0:(List.range ops.size).countP (fun j=>!(listed.getD j false))=0:=by omega
   have:=List.countP_eq_zero.1 h0 j (List.mem_range.2 hj)
   simpa using this
  refine ⟨?_,done listed E a w hall hs hal hsz⟩
  apply List.eq_nil_iff_forall_not_mem.2
  intro j hj
  obtain ⟨h1,o,ho,_⟩:=mem_ready.1 hj
  have hj':j<ops.size:=(Array.getElem?_eq_some_iff.1 ho).1
  have h2:=hall j hj'
  rw [Array.getD_eq_getD_getElem?,Array.getElem?_eq_getElem (by omega)] at h1 h2
  simp at h1 h2
  rw [h1] at h2
  simp at h2
 | succ fuel ih =>
  intro listed E a w hsz hcnt hdown hs hal
  refine ⟨fun hnil=>?_,fun i hi=>?_⟩
  ·refine done listed E a w ?_ hs hal hsz
   intro j
   induction j using Nat.strongRecOn with
   | _ j ihj =>
    intro hj
    cases hl:listed.getD j false with
    | true=>rfl
    | false =>
     exfalso
     have ho:ops[j]?=some ops[j]:=Array.getElem?_eq_getElem hj
     have:j∈Region.ready .any ops listed:=mem_ready.2 ⟨?_,_,ho,fun e he hb=>?_⟩
     ·rw [hnil] at this;simp at this
     ·rw [Array.getD_eq_getD_getElem?,Array.getElem?_eq_getElem (by omega)] at hl ⊢
      simpa using hl
     ·have hlt:=hO.back j _ ho e he hb
      exact ihj e.on hlt (by omega)
  ·obtain ⟨hi0,o,ho,hdeps⟩:=mem_ready.1 hi
   have hilt:i<ops.size:=(Array.getElem?_eq_some_iff.1 ho).1
   have hLi:listed.getD i false=false:=by
    rw [Array.getD_eq_getD_getElem?,Array.getElem?_eq_getElem (by omega)] at hi0 ⊢
    simpa using hi0
   obtain ⟨r,hzi⟩:=hzget i o ho
   have hzS:∀ {j y ry},(ops.toList.zip (rs.map (·.2)))[j]?=some (y,ry)→∃ S,rs[j]?=some (S,ry):=fun {j y ry} h=>by
    rw [List.getElem?_zip_eq_some] at h
    obtain ⟨h1,h2⟩:=h
    rw [List.getElem?_map] at h2
    cases hr:rs[j]? with
    | none=>rw [hr] at h2;simp at h2
    | some q=>rw [hr] at h2;simp at h2;exact ⟨q.1,by rw [← h2];exact hr⟩
   obtain ⟨S,hSi⟩:=hzS hzi
   have hstep:=hz i o S r (by simpa using ho) hSi
   simp only [Nat.zero_add] at hstep
   have before:∀ {j},Anc ops j i→listed.getD j false=true:=fun h=>anc_listed hdown h (.inr ⟨o,ho,hdeps⟩)
   have behind:∀ {j},Anc ops i j→listed.getD j false=false:=fun {j} h=>by
    cases hj:listed.getD j false with
    | false=>rfl
    | true=>have:=anc_listed hdown h (.inl hj);rw [hLi] at this;simp at this
   have conf:∀ {j y},ops[j]?=some y→j≠i→(Oper.apart ops y o=false∧Oper.apart ops o y=false)→listed.getD j false=decide (j<i):=fun {j y} hy hne hc=>by
    rcases Nat.lt_or_gt_of_ne hne with hlt|hgt
    ·rw [before (hO.slot j i y o hy ho hlt hc.1)];simp [hlt]
    ·rw [behind (hO.slot i j o y ho hy hgt hc.2)];simp;omega
   have confM:∀ {j b} {p:RecF},rs[j]?=some p→j≠i→(b∈p.2.2.map (·.1))→(b∈S∨b∈r.2.map (·.1))→listed.getD j false=decide (j<i):=fun {j b p} hp hne hb hc=>by
    rcases Nat.lt_or_gt_of_ne hne with hlt|hgt
    ·rw [before (hO.mem j i p (S,r) hp hSi hlt ⟨b,.inl ⟨hb,hc⟩⟩)];simp [hlt]
    ·rw [behind (hO.mem i j (S,r) p hSi hp hgt ⟨b,hc.elim (fun h=>.inr ⟨hb,h⟩) fun h=>.inl ⟨h,.inr hb⟩⟩)];simp;omega
   have slotc:∀ {y:Oper} {t:Nat},y.dst=some t→(t∈o.looksAt ops∨o.dst=some t)→Oper.apart ops y o=false∧Oper.apart ops o y=false:=fun {y t} hy ht=>by
    have h1:Oper.apart ops y o=false:=by
     cases hap:Oper.apart ops y o with
     | false=>rfl
     | true =>
      obtain ⟨p1,p2,p3⟩:=Oper.apart_spec hap
      rcases ht with ht|ht
      ·exact absurd ht (p1 t hy)
      ·exact absurd ht (p2 t hy)
    have h2:Oper.apart ops o y=false:=by
     cases hap:Oper.apart ops o y with
     | false=>rfl
     | true =>
      obtain ⟨p1,p2,p3⟩:=Oper.apart_spec hap
      rcases ht with ht|ht
      ·exact absurd ht (p3 t hy)
      ·exact absurd hy (p2 t ht)
    exact ⟨h1,h2⟩
   have hgeq:∀ t∈o.looksAt ops,gF (ops.toList.zip (rs.map (·.2))) 0 (fun j=>decide (j<i)) g0 t=gF (ops.toList.zip (rs.map (·.2))) 0 (fun j=>listed.getD j false) g0 t:=fun t ht=>gF_at rfl fun j y ry hj hd=>by
    simp only [Nat.zero_add]
    by_cases hji:j=i
    ·subst hji;rw [hLi];simp
    ·exact (conf (hzop hj) hji (slotc hd (.inl ht))).symm
   have hlive:=live_ofF hX hz hm0 i
   have hmeq:∀ b∈S,mF (ops.toList.zip (rs.map (·.2))) 0 (fun j=>decide (j<i)) m0 b=mF (ops.toList.zip (rs.map (·.2))) 0 (fun j=>listed.getD j false) m0 b:=fun b hb=>mF_at rfl fun j y ry hj hd=>by
    simp only [Nat.zero_add]
    by_cases hji:j=i
    ·subst hji;rw [hLi];simp
    ·obtain ⟨Sj,hSj⟩:=hzS hj
     exact (confM hSj hji hd (.inl hb)).symm
   have hst:∃ mm,stepRel (Types P) X ops N o (gF (ops.toList.zip (rs.map (·.2))) 0 (fun j=>listed.getD j false) g0) mm (base+16*i) r∧MemOK E w mm:=by
    refine ⟨_,stepRel_congr hstep hgeq (.inl rfl),fun b hb=>?_⟩
    unfold restr
    split
    ·rename_i hbS
     rw [hmeq b hbS];exact hs.mem b hb
    ·trivial
   obtain ⟨mm,hst1,hst2⟩:=hst
   have hs':SatF N w0 bl E a w (gF (ops.toList.zip (rs.map (·.2))) 0 (fun j=>listed.getD j false) g0) mm:=⟨hs.defers,hs.size,hs.inv,hst2,hs.slots⟩
   have hfree:∀ k,base+16*i≤k→k<base+16*i+16→¬ E.alive k:=fun k h1 h2 h3=>by
    rcases hal k h3 with h4|⟨j,h4,h5,h6⟩
    ·omega
    ·have:j=i:=by omega
     subst this;rw [hLi] at h4;simp at h4
   have hset:∀ j,(listed.setIfInBounds i true).getD j false=if i=j then true else listed.getD j false:=fun j=>by
    by_cases e:i=j
    ·subst e;simp [Array.getD_eq_getD_getElem?,hsz,hilt]
    ·simp [Array.getD_eq_getD_getElem?,Array.getElem?_setIfInBounds_ne e,e]
   have hgnew:gF (ops.toList.zip (rs.map (·.2))) 0 (fun j=>(listed.setIfInBounds i true).getD j false) g0=putF (gF (ops.toList.zip (rs.map (·.2))) 0 (fun j=>listed.getD j false) g0) o.dst r.1:=by
    funext t
    by_cases hd:o.dst=some t
    ·rw [putF,if_pos hd]
     refine gF_last hzi (by simp [hset]) hd fun j y ry hij hj hyd=>?_
     simp only [Nat.zero_add,hset]
     rw [if_neg (by omega)]
     have:=conf (hzop hj) (by omega) (slotc hyd (.inr hd))
     rw [this];simp;omega
    ·rw [putF,if_neg hd]
     refine gF_at rfl fun j y ry hj hyd=>?_
     simp only [Nat.zero_add,hset]
     rw [if_neg fun e=>?_]
     subst e
     rw [hzi] at hj
     simp only [Option.some.injEq,Prod.mk.injEq] at hj
     rw [hj.1] at hd
     exact hd hyd
   have hmnew:mF (ops.toList.zip (rs.map (·.2))) 0 (fun j=>(listed.setIfInBounds i true).getD j false) m0=updM (mF (ops.toList.zip (rs.map (·.2))) 0 (fun j=>listed.getD j false) m0) r.2:=by
    funext b
    by_cases hd:b∈r.2.map (·.1)
    ·refine mF_last hzi (by simp [hset]) hd (fun j y ry hij hj hyd=>?_) _
     simp only [Nat.zero_add,hset]
     rw [if_neg (by omega)]
     obtain ⟨Sj,hSj⟩:=hzS hj
     rw [confM hSj (by omega) hyd (.inr hd)];simp;omega
    ·rw [updM_not hd]
     refine mF_at rfl fun j y ry hj hyd=>?_
     simp only [Nat.zero_add,hset]
     rw [if_neg fun e=>?_]
     subst e
     rw [hzi] at hj
     simp only [Option.some.injEq,Prod.mk.injEq] at hj
     rw [hj.2] at hd
     exact hd hyd
   have key:=step_wp hX (Q:=Q) (next:=wpAny P .any ops Q fuel (listed.setIfInBounds i true)) hs' hst1 hfree fun E' a' w' st hs2=>by
    refine ih _ E' a' w' (by simp [hsz]) ?_ ?_ ?_ ?_
    ·have:(List.range ops.size).countP (fun j=>!((listed.setIfInBounds i true).getD j false))<(List.range ops.size).countP (fun j=>!(listed.getD j false)):=by
      refine countP_lt (fun x hx=>?_) ⟨i,List.mem_range.2 hilt,by simp [hLi],by simp [hset]⟩
      rw [hset] at hx
      split at hx
      ·simp at hx
      ·exact hx
     omega
    ·intro j y hy hj e he hb
     rw [hset] at hj ⊢
     split
     ·rfl
     ·split at hj
      ·rename_i hij;subst hij;rw [ho] at hy;simp at hy;subst hy;exact hdeps e he hb
      ·exact hdown j y hy hj e he hb
    ·rw [hgnew,hmnew]
     exact ⟨hs2.defers,hs2.size,hs2.inv,st.mem hs.inv hs.mem,hs2.slots⟩
    ·intro b hb
     rcases st.alive b hb with h1|h1
     ·rcases hal b h1 with h2|⟨j,h2,h3⟩
      ·exact .inl h2
      ·exact .inr ⟨j,by rw [hset,h2];simp,h3⟩
     ·rcases stepRel_dom hX hstep b h1 with h2|⟨h2,h3⟩
      ·exact .inr ⟨i,by simp [hset],h2.1,h2.2⟩
      ·have hbS:b∈S:=by
        by_cases hbS:b∈S
        ·exact hbS
        ·exact absurd (by unfold restr;rw [if_neg hbS]) h3
       have h3':mF (ops.toList.zip (rs.map (·.2))) 0 (fun j=>decide (j<i)) m0 b≠.dead:=fun e=>h3 (by unfold restr;rw [if_pos hbS];exact e)
       rcases hlive b h3' with h4|⟨j,h4,h5,h6,p,h7,h8⟩
       ·exact .inl h4
       ·refine .inr ⟨j,?_,h5,h6⟩
        rw [hset,before (hO.mem j i p (S,r) h7 hSi h4 ⟨b,.inl ⟨h8,.inl hbS⟩⟩)]
        simp
   unfold wpOp
   simp only [ho]
   split
   ·rename_i hw;rw [if_pos hw] at key;exact .inl key
   ·rename_i hw;rw [if_neg hw] at key;exact key
end
end Go.AM
namespace Go.AM
open Go
def opFoot (op:Op) (ev:Operand→AV) (M:Nat→AO):List Nat:=match op with
 | .load _ x=>(ev x).nms
 | .store _ x _=>(ev x).nms
 | .call c=>match c.callee with
  | .builtin b=>match b with
   | .len=>match c.args.toList.map ev with
    | [.mp b _]=>[b]
    | _=>[]
   | .min|.max|.cap=>[]
   | _=>nmsL (c.args.toList.map ev)
  | .value f=>gat M 64 (nmsL (ev f::c.args.toList.map ev)) []
  | _=>[]
 | .lookup _ x _ _=>(ev x).nms
 | .mapUpdate _ x _ _=>(ev x).nms
 | _=>[]
abbrev Foot:=List Nat×List Nat
def arunFt (T:TypeId→Option TD) (X:AX) (ops:Array Oper) (N base:Nat):List Oper→Nat→List (Nat×AV)→List (Nat×AO)→List Foot→Option (List (Nat×AV)×List (Nat×AO)×List Foot)
 | [],_,l,M,fs=>some (l,M,fs)
 | o::r,i,l,M,fs =>
  if dstOK N o=true then
   match o.guard with
   | none=>match astep T X o.op (aEv l) (restr (opFoot o.op (aEv l) (getM M)) (getM M)) (base+16*i) with
    | some (av,u)=>arunFt T X ops N base r (i+1) (putS l o.dst av) (updL M u) ((opFoot o.op (aEv l) (getM M),u.map (·.1))::fs)
    | none=>none
   | some (j,want)=>match (ops[j]?).bind (·.dst) with
    | some d=>match yV (getS l d) with
     | some (some b) =>
      if b=want then
       match astep T X o.op (aEv ((d,.v (.bool want))::l)) (restr (opFoot o.op (aEv ((d,.v (.bool want))::l)) (getM M)) (getM M)) (base+16*i) with
       | some (av,u)=>arunFt T X ops N base r (i+1) (putS ((d,.v (.bool want))::l) o.dst av) (updL M u) ((opFoot o.op (aEv ((d,.v (.bool want))::l)) (getM M),u.map (·.1))::fs)
       | none=>none
      else arunFt T X ops N base r (i+1) (putS ((d,.v (.bool (!want)))::l) o.dst .u) M (([],[])::fs)
     | some none=>arunFt T X ops N base r (i+1) (putS l o.dst .u) M (([],[])::fs)
     | none=>none
    | none=>none
  else none
def footOf (r:RecF):Foot:=(r.1,r.2.2.map (·.1))
theorem recsF_of_run {T:TypeId→Option TD} {X:AX} {ops:Array Oper} {N base:Nat}:∀ {ol:List Oper} {i:Nat} {l l':List (Nat×AV)} {M M':List (Nat×AO)} {fs fs':List Foot},arunFt T X ops N base ol i l M fs=some (l',M',fs') →
  ∃ rs,RecsF T X ops N base ol i (getS l) (getM M) rs (getS l') (getM M')∧fs'=(rs.map footOf).reverse++fs
 | [],i,l,l',M,M',fs,fs',h=>by
  simp only [arunFt,Option.some.injEq,Prod.mk.injEq] at h
  obtain ⟨rfl,rfl,rfl⟩:=h
  exact ⟨[],⟨rfl,rfl⟩,rfl⟩
 | o::ol,i,l,l',M,M',fs,fs',h=>by
  simp only [arunFt] at h
  split at h
  case isFalse=>simp at h
  rename_i hd
  cases hg:o.guard with
  | none =>
   simp only [hg] at h
   cases hs:astep T X o.op (aEv l) (restr (opFoot o.op (aEv l) (getM M)) (getM M)) (base+16*i)<;>simp only [hs,reduceCtorEq] at h
   rename_i r
   obtain ⟨av,u⟩:=r
   obtain ⟨rs,hrs,hfs⟩:=recsF_of_run h
   refine ⟨(opFoot o.op (aEv l) (getM M),av,u)::rs,?_,by rw [hfs];simp [footOf]⟩
   simp only [RecsF,stepRel,hg,hd,true_and]
   rw [getS_putS,getM_updL] at hrs
   exact ⟨by rw [← aEv_eq];exact hs,hrs⟩
  | some jw =>
   obtain ⟨j,want⟩:=jw
   simp only [hg] at h
   cases hdj:(ops[j]?).bind (·.dst)<;>simp only [hdj,reduceCtorEq] at h
   rename_i d
   cases hy:yV (getS l d)<;>simp only [hy,reduceCtorEq] at h
   rename_i y
   cases y with
   | none =>
    simp only at h
    obtain ⟨rs,hrs,hfs⟩:=recsF_of_run h
    refine ⟨([],.u,[])::rs,?_,by rw [hfs];simp [footOf]⟩
    simp only [RecsF,stepRel,hg,hd,true_and]
    rw [getS_putS] at hrs
    exact ⟨⟨d,none,hdj,hy,by simp⟩,hrs⟩
   | some b =>
   simp only at h
   have hgd:=yV_bool hy
   split at h
   ·rename_i hb
    subst hb
    have hsame:=getS_same l d _ hgd
    cases hs:astep T X o.op (aEv ((d,.v (.bool b))::l)) (restr (opFoot o.op (aEv ((d,.v (.bool b))::l)) (getM M)) (getM M)) (base+16*i)<;>simp only [hs,reduceCtorEq] at h
    rename_i r
    obtain ⟨av,u⟩:=r
    obtain ⟨rs,hrs,hfs⟩:=recsF_of_run h
    refine ⟨(opFoot o.op (aEv ((d,.v (.bool b))::l)) (getM M),av,u)::rs,?_,by rw [hfs];simp [footOf]⟩
    simp only [RecsF,stepRel,hg,hd,true_and]
    rw [getS_putS,getM_updL,hsame] at hrs
    have e1:aEv ((d,.v (.bool b))::l)=aEvF (getS l):=by rw [aEv_eq,hsame]
    rw [e1] at hs ⊢
    exact ⟨⟨d,some b,hdj,hy,by rw [if_pos rfl];exact hs⟩,hrs⟩
   ·rename_i hb
    have hnb:(!want)=b:=by cases b<;>cases want<;>simp at hb ⊢
    rw [hnb] at h
    have hsame:=getS_same l d _ hgd
    obtain ⟨rs,hrs,hfs⟩:=recsF_of_run h
    refine ⟨([],.u,[])::rs,?_,by rw [hfs];simp [footOf]⟩
    simp only [RecsF,stepRel,hg,hd,true_and]
    rw [getS_putS,hsame] at hrs
    exact ⟨⟨d,some b,hdj,hy,by rw [if_neg (by simpa using hb)];trivial⟩,hrs⟩
def memB (l:List Nat) (b:Nat):Bool:=l.any fun c=>Nat.beq c b
theorem memB_iff {l:List Nat} {b:Nat}:memB l b=true↔b∈l:=by
 unfold memB
 rw [List.any_eq_true]
 constructor
 ·rintro ⟨c,hc,e⟩
  rw [← Nat.eq_of_beq_eq_true e];exact hc
 ·exact fun h=>⟨b,h,Nat.beq_refl b⟩
def clashB (p q:Foot):Bool:=p.2.any (fun b=>memB q.1 b||memB q.2 b)||q.2.any fun b=>memB p.1 b
theorem clashB_iff {p q:Foot} (h:clashB p q=false):¬ ∃ b,(b∈p.2∧(b∈q.1∨b∈q.2))∨(b∈q.2∧b∈p.1):=by
 rintro ⟨b,hb⟩
 simp only [clashB,Bool.or_eq_false_iff,List.any_eq_false,Bool.or_eq_true,memB_iff] at h
 rcases hb with ⟨h1,h2⟩|⟨h1,h2⟩
 ·exact h.1 b h1 h2
 ·exact h.2 b h1 h2
def okD (ops:Array Oper) (fsr:List Foot):Bool :=
 ops.toList.zipIdx.all (fun p=>p.1.after.all fun e=>!Region.binds .any e||decide (e.on<p.2)) &&
 (ops.toList.zip fsr.reverse).zipIdx.all (fun p=>(ops.toList.zip fsr.reverse).zipIdx.all fun q=>!(decide (p.2<q.2))||(Oper.apart ops p.1.1 q.1.1&&!clashB p.1.2 q.1.2)||((ancAll ops.toList []).getD q.2 0).testBit p.2)
theorem ordF_of {ops:Array Oper} {rs:List RecF} (hl:rs.length=ops.toList.length) (h:okD ops (rs.map footOf).reverse=true):OrdF ops rs:=by
 simp only [okD,List.reverse_reverse,Bool.and_eq_true] at h
 obtain ⟨h1,h2⟩:=h
 have hz:∀ j o,ops[j]?=some o→(o,j)∈ops.toList.zipIdx:=fun j o ho=>by
  rw [List.mem_zipIdx_iff_getElem?]
  simpa using ho
 have hz2:∀ j o r,ops[j]?=some o→rs[j]?=some r→((o,footOf r),j)∈(ops.toList.zip (rs.map footOf)).zipIdx:=fun j o r ho hr=>by
  rw [List.mem_zipIdx_iff_getElem?,List.getElem?_zip_eq_some]
  exact ⟨by simpa using ho,by rw [List.getElem?_map,hr];rfl⟩
 have hanc:∀ i j x y p q,ops[i]?=some x→ops[j]?=some y→rs[i]?=some p→rs[j]?=some q→i<j→(Oper.apart ops x y&&!clashB (footOf p) (footOf q))=false→Anc ops i j:=fun i j x y p q hx hy hp hq hij hc=>by
  have h3:=List.all_eq_true.1 (List.all_eq_true.1 h2 _ (hz2 i x p hx hp)) _ (hz2 j y q hy hq)
  simp only [hij,decide_true,Bool.not_true,hc,Bool.false_or] at h3
  exact ancAll_spec ops.toList [] (fun j=>by simp) (fun j i hb=>by simp at hb) j i h3
 have hrs:∀ j o,ops[j]?=some o→∃ r,rs[j]?=some r:=fun j o ho=>by
  have hj:j<ops.size:=(Array.getElem?_eq_some_iff.1 ho).1
  exact ⟨rs[j]'(by rw [hl];simpa using hj),List.getElem?_eq_getElem _⟩
 have hos:∀ j (r:RecF),rs[j]?=some r→∃ o,ops[j]?=some o:=fun j r hr=>by
  have hj:j<rs.length:=(List.getElem?_eq_some_iff.1 hr).1
  rw [hl] at hj
  have hj:j<ops.size:=by simpa using hj
  exact ⟨_,Array.getElem?_eq_getElem hj⟩
 refine ⟨fun j o ho e he hb=>?_,fun i j x y hx hy hij hc=>?_,fun i j p q hp hq hij hc=>?_⟩
 ·have:=List.all_eq_true.1 h1 _ (hz j o ho)
  simp only [Array.all_eq_true'] at this
  have:=this e he
  simpa [hb] using this
 ·obtain ⟨p,hp⟩:=hrs i x hx
  obtain ⟨q,hq⟩:=hrs j y hy
  exact hanc i j x y p q hx hy hp hq hij (by rw [hc];rfl)
 ·obtain ⟨x,hx⟩:=hos i p hp
  obtain ⟨y,hy⟩:=hos j q hq
  refine hanc i j x y p q hx hy hp hq hij ?_
  cases hcl:clashB (footOf p) (footOf q) with
  | true=>simp
  | false=>exact absurd hc (clashB_iff hcl)
theorem region_drawnF {P:Program} {X:AX} (hX:XOK P X) (hmix:P.follows .mixedOrders=true) {id N:Nat} {ops:Array Oper} {w0:World} {bl:Bk} {a:Act} {w:World} {st:St} {s:List (Nat×AV)} {m:List (Nat×AO)} {fs:List Foot} {Q:Exit→Act→World→Prop}
  (hs:Sat N w0 bl a w st) (hh:arunFt (Types P) X ops N st.nx ops.toList 0 st.s st.m []=some (s,m,fs)) (hO:okD ops fs=true) (hq:∀ a' w',Sat N w0 bl a' w' ⟨s,m,st.nx+16*ops.size⟩→Q .normal a' w'):(Code.region id ops true).wp P Q a w:=by
 obtain ⟨rs,hrs,hfs⟩:=recsF_of_run hh
 rw [List.append_nil] at hfs
 subst hfs
 obtain ⟨E,h1,h2,h3⟩:=hs
 have hinv:Inv w0 bl E { w with drawn:=w.drawn+1 }:=(StepTo.refl (w':={ w with drawn:=w.drawn+1 }) h1.inv rfl rfl rfl).inv
 have hs1:SatF N w0 bl E a { w with drawn:=w.drawn+1 } (getS st.s) (getM st.m) :=
  ⟨h1.defers,h1.size,hinv,fun b hb=>ObjRep.mono (w:=w) (w':={ w with drawn:=w.drawn+1 }) (Env.Le.refl E) (fun _ _=>rfl) rfl rfl (fun _ _ _ _=>rfl) (h1.mem b hb),fun t=>Rep.mono (w:=w) (w':={ w with drawn:=w.drawn+1 }) (Env.Le.refl E) (fun _ _=>rfl) (h1.slots t)⟩
 have hlist:∀ j,(Array.replicate ops.size false).getD j false=false:=fun j=>by
  rw [Array.getD_eq_getD_getElem?,Array.getElem?_replicate]
  split<;>rfl
 obtain ⟨hlen,hg',hm',hz⟩:=recsF_at hrs
 have hord:=ordF_of hlen hO
 have hfin:∀ k,getM m k≠.dead→k<st.nx+16*ops.size:=fun k hk=>by
  rw [hm'] at hk
  have hk':mF (ops.toList.zip (rs.map (·.2))) 0 (fun j=>decide (j<ops.size)) (getM st.m) k≠.dead:=by
   rwa [mF_at (L':=fun _=>true) rfl fun j o r hj _=>by
    have:=(List.getElem?_eq_some_iff.1 hj).1
    simp at this
    simp;omega]
  rcases live_ofF hX hz h3 ops.size k hk' with h4|⟨j,h4,h5,h6,_⟩
  ·omega
  ·omega
 refine wp_region_any hmix (run_anyF hX hord hrs h3 (fun E' a' w' k1 k2=>hq a' w' ⟨E',k1,k2,hfin⟩) ops.size _ E a _ (by simp) ?_ (fun j o _ hj=>by rw [hlist] at hj;simp at hj) ?_ (fun b hb=>.inl (h2 b hb)))
 ·refine Nat.le_trans List.countP_le_length ?_
  simp
 ·rw [gF_none (fun j _=>hlist j),mF_none (fun j _=>hlist j)]
  exact hs1
def RunFt (T:TypeId→Option TD) (X:AX) (ops:Array Oper) (N base:Nat) (l:List Oper) (i:Nat) (s:List (Nat×AV)) (m:List (Nat×AO)) (fs:List Foot) (Q:List (Nat×AV)→List (Nat×AO)→Prop):Prop :=
 ∃ s' m' fs',arunFt T X ops N base l i s m fs=some (s',m',fs')∧okD ops fs'=true∧Q s' m'
def StepFt (T:TypeId→Option TD) (X:AX) (ops:Array Oper) (N base:Nat) (r:List Oper) (i:Nat) (s:List (Nat×AV)) (m:List (Nat×AO)) (fs:List Foot) (dst:Option Nat) (Q:List (Nat×AV)→List (Nat×AO)→Prop) (S:List Nat) (a:Option (AV×List (Nat×AO))):Prop :=
 ∃ av u,a=some (av,u)∧RunFt T X ops N base r (i+1) (putS s dst av) (updL m u) ((S,u.map (·.1))::fs) Q
def StepSt (T:TypeId→Option TD) (X:AX) (ops:Array Oper) (N base:Nat) (r:List Oper) (i:Nat) (s:List (Nat×AV)) (m:List (Nat×AO)) (fs:List Foot) (dst:Option Nat) (op:Op) (Q:List (Nat×AV)→List (Nat×AO)→Prop) (S:List Nat):Prop :=
 StepFt T X ops N base r i s m fs dst Q S (astep T X op (aEv s) (restr S (getM m)) (base+16*i))
section
variable {T:TypeId→Option TD} {X:AX} {ops:Array Oper} {N base:Nat} {l r:List Oper} {i:Nat} {s:List (Nat×AV)} {m:List (Nat×AO)} {fs:List Foot} {Q:List (Nat×AV)→List (Nat×AO)→Prop} {dst:Option Nat} {op:Op} {ty:TypeId} {pos:String} {aft:Array Edge}
@[simp] theorem runFt_nil:RunFt T X ops N base [] i s m fs Q↔okD ops fs=true∧Q s m:=by
 simp only [RunFt,arunFt,Option.some.injEq,Prod.mk.injEq]
 constructor
 ·rintro ⟨_,_,_,⟨rfl,rfl,rfl⟩,h⟩;exact h
 ·exact fun h=>⟨_,_,_,⟨rfl,rfl,rfl⟩,h⟩
@[simp] theorem stepFt_some {av:AV} {u:List (Nat×AO)} {S:List Nat}:StepFt T X ops N base r i s m fs dst Q S (some (av,u))↔RunFt T X ops N base r (i+1) (putS s dst av) (updL m u) ((S,u.map (·.1))::fs) Q:=by
 constructor
 ·rintro ⟨_,_,h,k⟩
  simp only [Option.some.injEq,Prod.mk.injEq] at h
  obtain ⟨rfl,rfl⟩:=h
  exact k
 ·exact fun k=>⟨_,_,rfl,k⟩
@[simp] theorem stepSt_cons {b:Nat} {S:List Nat}:StepSt T X ops N base r i s m fs dst op Q (b::S)↔StepFt T X ops N base r i s m fs dst Q (b::S) (astep T X op (aEv s) (restr (b::S) (getM m)) (base+16*i)):=Iff.rfl
@[simp] theorem stepSt_nil:StepSt T X ops N base r i s m fs dst op Q []↔StepFt T X ops N base r i s m fs dst Q [] (astep T X op (aEv s) (restr [] (getM m)) (base+16*i)):=Iff.rfl
@[simp] theorem runFt_plain:RunFt T X ops N base (⟨dst,op,ty,pos,aft,.none⟩::r) i s m fs Q↔dstOK N ⟨dst,op,ty,pos,aft,.none⟩=true∧StepSt T X ops N base r i s m fs dst op Q (opFoot op (aEv s) (getM m)):=by
 simp only [RunFt,arunFt,StepSt,StepFt]
 by_cases hd:dstOK N ⟨dst,op,ty,pos,aft,.none⟩=true
 ·simp only [hd,if_true,true_and]
  cases astep T X op (aEv s) (restr (opFoot op (aEv s) (getM m)) (getM m)) (base+16*i) with
  | none=>simp
  | some p =>
   obtain ⟨av,u⟩:=p
   simp only [Option.some.injEq,Prod.mk.injEq]
   constructor
   ·rintro ⟨s',m',fs',h,k⟩;exact ⟨av,u,⟨rfl,rfl⟩,s',m',fs',h,k⟩
   ·rintro ⟨av',u',⟨rfl,rfl⟩,s',m',fs',h,k⟩;exact ⟨s',m',fs',h,k⟩
 ·simp only [hd]
  simp
theorem aw_runFt {c:Cx} {st:St} {Q:Exit→St→Prop} {id:Nat} {ops:Array Oper} (hc:c.OK)
  (h:RunFt (Types c.P) c.X ops c.N st.nx ops.toList 0 st.s st.m [] fun s m=>Q .normal ⟨s,m,st.nx+16*ops.size⟩):AW c (.region id ops true) st Q:=fun a w hs=>by
 obtain ⟨s,m,fs,h1,h2,h3⟩:=h
 exact region_drawnF hc.x hc.mixed hs h1 h2 fun a' w' hs'=>⟨_,h3,hs'⟩
end
@[simp] theorem restr_at {S:List Nat} {M:Nat→AO} {b:Nat}:restr S M b=if b∈S then M b else .dead:=rfl
attribute [simp] opFoot AV.nms nmsL AO.nms gat
end Go.AM
namespace Go.AM
open Go
structure Hold (p:Prop):Prop where
 out:p
theorem jj {A B:Prop} (a:A) (b:B):A∧B:=⟨a,b⟩
theorem dM64 {G G':Prop} (h:G') (k:Hold G'→G:=by
 intro hEnd
 repeat' (first|(apply aw_seq_k;intro K hK)|(refine aw_run hc (by first|exact aw_nod|(intro _;rw [ordB_w hw];kernel_rfl)|(intro _;rw [ordB_w0 hw0];kernel_rfl)|(intro _;kernel_rfl)) ?_;simp [List.zipIdx,enterS,idx,zS,-getM,getM_hit,getM_miss,getM_none];(repeat (simp (disch:=first|omega|assumption|fail) only [if_pos,if_neg,wrap64];try simp [List.zipIdx,enterS,idx,zS,-getM,getM_hit,getM_miss,getM_none]));try (repeat' (refine guardQ_split (fun h=>?_) (fun h=>?_)<;>simp at h<;>(simp [List.zipIdx,enterS,idx,zS,-getM,getM_hit,getM_miss,getM_none];(repeat (simp (disch:=first|omega|assumption|fail) only [if_pos,if_neg,wrap64];try simp [List.zipIdx,enterS,idx,zS,-getM,getM_hit,getM_miss,getM_none]))))))|(refine aw_cond (b:=_) (by exact rfl) (fun h=>?_) (fun h=>?_)<;>(try simp at h))|(refine aw_block ?_)|(refine aw_skip ?_;simp only [thenQ,blockQ,if_true])|(refine aw_exit ?_;simp [thenQ,blockQ])|(refine aw_ret ?_;simp only [thenQ,blockQ])|(refine aw_round ?_)|(refine hK _ ?_;clear hK)|(clear hK;refine hK _ ?_;clear hK)|(clear hK;clear hK;refine hK _ ?_;clear hK)|(clear hK;clear hK;clear hK;refine hK _ ?_;clear hK))
 repeat (first|(rename St→Prop=>K;clear K)|(rename St→Prop=>K;revert K))
 exact hEnd.out):G:=k ⟨h⟩
theorem dM64o {G G':Prop} (h:G') (k:Hold G'→G:=by
 intro hEnd
 repeat' (first|(apply aw_seq_k;intro K hK)|(refine aw_run hc (by first|exact aw_nod|(intro _;rw [ordB_w hw];kernel_rfl)|(intro _;rw [ordB_w0 hw0];kernel_rfl)|(intro _;kernel_rfl)) ?_;simp [List.zipIdx,enterS,idx,-getM,getM_hit,getM_miss,getM_none];(repeat (simp (disch:=first|omega|assumption|fail) only [if_pos,if_neg,wrap64];try simp [List.zipIdx,enterS,idx,-getM,getM_hit,getM_miss,getM_none]));try (repeat' (refine guardQ_split (fun h=>?_) (fun h=>?_)<;>simp at h<;>(simp [List.zipIdx,enterS,idx,-getM,getM_hit,getM_miss,getM_none];(repeat (simp (disch:=first|omega|assumption|fail) only [if_pos,if_neg,wrap64];try simp [List.zipIdx,enterS,idx,-getM,getM_hit,getM_miss,getM_none]))))))|(refine aw_cond (b:=_) (by exact rfl) (fun h=>?_) (fun h=>?_)<;>(try simp at h))|(refine aw_block ?_)|(refine aw_skip ?_;simp only [thenQ,blockQ,if_true])|(refine aw_exit ?_;simp [thenQ,blockQ])|(refine aw_ret ?_;simp only [thenQ,blockQ])|(refine aw_round ?_)|(refine hK _ ?_;clear hK)|(clear hK;refine hK _ ?_;clear hK)|(clear hK;clear hK;refine hK _ ?_;clear hK)|(clear hK;clear hK;clear hK;refine hK _ ?_;clear hK))
 repeat (first|(rename St→Prop=>K;clear K)|(rename St→Prop=>K;revert K))
 exact hEnd.out):G:=k ⟨h⟩
theorem dM8 {G G':Prop} (h:G') (k:Hold G'→G:=by
 intro hEnd
 repeat' (first|(apply aw_seq_k;intro K hK)|(refine aw_run hc (by first|exact aw_nod|(intro _;rw [ordB_w hw];kernel_rfl)|(intro _;rw [ordB_w0 hw0];kernel_rfl)|(intro _;kernel_rfl)) ?_;simp [List.zipIdx,enterS,idx,zS,-getM,getM_hit,getM_miss,getM_none];(repeat (simp (disch:=first|omega|assumption|fail) only [if_pos,if_neg,wrap8];try simp [List.zipIdx,enterS,idx,zS,-getM,getM_hit,getM_miss,getM_none]));try (repeat' (refine guardQ_split (fun h=>?_) (fun h=>?_)<;>simp at h<;>(simp [List.zipIdx,enterS,idx,zS,-getM,getM_hit,getM_miss,getM_none];(repeat (simp (disch:=first|omega|assumption|fail) only [if_pos,if_neg,wrap8];try simp [List.zipIdx,enterS,idx,zS,-getM,getM_hit,getM_miss,getM_none]))))))|(refine aw_cond (b:=_) (by exact rfl) (fun h=>?_) (fun h=>?_)<;>(try simp at h))|(refine aw_block ?_)|(refine aw_skip ?_;simp only [thenQ,blockQ,if_true])|(refine aw_exit ?_;simp [thenQ,blockQ])|(refine aw_ret ?_;simp only [thenQ,blockQ])|(refine aw_round ?_)|(refine hK _ ?_;clear hK)|(clear hK;refine hK _ ?_;clear hK)|(clear hK;clear hK;refine hK _ ?_;clear hK)|(clear hK;clear hK;clear hK;refine hK _ ?_;clear hK))
 repeat (first|(rename St→Prop=>K;clear K)|(rename St→Prop=>K;revert K))
 exact hEnd.out):G:=k ⟨h⟩
theorem dM8o {G G':Prop} (h:G') (k:Hold G'→G:=by
 intro hEnd
 repeat' (first|(apply aw_seq_k;intro K hK)|(refine aw_run hc (by first|exact aw_nod|(intro _;rw [ordB_w hw];kernel_rfl)|(intro _;rw [ordB_w0 hw0];kernel_rfl)|(intro _;kernel_rfl)) ?_;simp [List.zipIdx,enterS,idx,-getM,getM_hit,getM_miss,getM_none];(repeat (simp (disch:=first|omega|assumption|fail) only [if_pos,if_neg,wrap8];try simp [List.zipIdx,enterS,idx,-getM,getM_hit,getM_miss,getM_none]));try (repeat' (refine guardQ_split (fun h=>?_) (fun h=>?_)<;>simp at h<;>(simp [List.zipIdx,enterS,idx,-getM,getM_hit,getM_miss,getM_none];(repeat (simp (disch:=first|omega|assumption|fail) only [if_pos,if_neg,wrap8];try simp [List.zipIdx,enterS,idx,-getM,getM_hit,getM_miss,getM_none]))))))|(refine aw_cond (b:=_) (by exact rfl) (fun h=>?_) (fun h=>?_)<;>(try simp at h))|(refine aw_block ?_)|(refine aw_skip ?_;simp only [thenQ,blockQ,if_true])|(refine aw_exit ?_;simp [thenQ,blockQ])|(refine aw_ret ?_;simp only [thenQ,blockQ])|(refine aw_round ?_)|(refine hK _ ?_;clear hK)|(clear hK;refine hK _ ?_;clear hK)|(clear hK;clear hK;refine hK _ ?_;clear hK)|(clear hK;clear hK;clear hK;refine hK _ ?_;clear hK))
 repeat (first|(rename St→Prop=>K;clear K)|(rename St→Prop=>K;revert K))
 exact hEnd.out):G:=k ⟨h⟩
theorem dF64 {G G':Prop} (h:G') (k:Hold G'→G:=by
 intro hEnd
 repeat' (first|(apply aw_seq_k;intro K hK)|(refine aw_run hc (by exact aw_nod) ?_;simp [List.zipIdx,enterS,idx,zS,-getM,getM_hit,getM_miss,getM_none];(repeat (simp (disch:=first|omega|assumption|fail) only [if_pos,if_neg,wrap64];try simp [List.zipIdx,enterS,idx,zS,-getM,getM_hit,getM_miss,getM_none]));try (repeat' (refine guardQ_split (fun h=>?_) (fun h=>?_)<;>simp at h<;>(simp [List.zipIdx,enterS,idx,zS,-getM,getM_hit,getM_miss,getM_none];(repeat (simp (disch:=first|omega|assumption|fail) only [if_pos,if_neg,wrap64];try simp [List.zipIdx,enterS,idx,zS,-getM,getM_hit,getM_miss,getM_none]))))))|(refine aw_runFt hc ?_;simp [List.zipIdx,enterS,idx,zS,-getM,getM_hit,getM_miss,getM_none];(repeat (simp (disch:=first|omega|assumption|fail) only [if_pos,if_neg,wrap64];try simp [List.zipIdx,enterS,idx,zS,-getM,getM_hit,getM_miss,getM_none]));refine ⟨by kernel_rfl,?_⟩)|(refine aw_run hc (by first|(intro _;rw [ordB_w hw];kernel_rfl)|(intro _;rw [ordB_w0 hw0];kernel_rfl)|(intro _;kernel_rfl)) ?_;simp [List.zipIdx,enterS,idx,zS,-getM,getM_hit,getM_miss,getM_none];(repeat (simp (disch:=first|omega|assumption|fail) only [if_pos,if_neg,wrap64];try simp [List.zipIdx,enterS,idx,zS,-getM,getM_hit,getM_miss,getM_none]));try (repeat' (refine guardQ_split (fun h=>?_) (fun h=>?_)<;>simp at h<;>(simp [List.zipIdx,enterS,idx,zS,-getM,getM_hit,getM_miss,getM_none];(repeat (simp (disch:=first|omega|assumption|fail) only [if_pos,if_neg,wrap64];try simp [List.zipIdx,enterS,idx,zS,-getM,getM_hit,getM_miss,getM_none]))))))|(refine aw_cond (b:=_) (by exact rfl) (fun h=>?_) (fun h=>?_)<;>(try simp at h))|(refine aw_block ?_)|(refine aw_skip ?_;simp only [thenQ,blockQ,if_true])|(refine aw_exit ?_;simp [thenQ,blockQ])|(refine aw_ret ?_;simp only [thenQ,blockQ])|(refine aw_round ?_)|(refine hK _ ?_;clear hK)|(clear hK;refine hK _ ?_;clear hK)|(clear hK;clear hK;refine hK _ ?_;clear hK)|(clear hK;clear hK;clear hK;refine hK _ ?_;clear hK))
 repeat (first|(rename St→Prop=>K;clear K)|(rename St→Prop=>K;revert K))
 exact hEnd.out):G:=k ⟨h⟩
theorem eM64 {G G':Prop} (h:G') (k:Hold G'→G:=by
 intro hEnd
 first
  | (refine aw_run hc (by first|exact aw_nod|(intro _;rw [ordB_w hw];kernel_rfl)|(intro _;rw [ordB_w0 hw0];kernel_rfl)|(intro _;kernel_rfl)) ?_;simp [List.zipIdx,enterS,idx,zS,-getM,getM_hit,getM_miss,getM_none];(repeat (simp (disch:=first|omega|assumption|fail) only [if_pos,if_neg,wrap64];try simp [List.zipIdx,enterS,idx,zS,-getM,getM_hit,getM_miss,getM_none]));try (repeat' (refine guardQ_split (fun h=>?_) (fun h=>?_)<;>simp at h<;>(simp [List.zipIdx,enterS,idx,zS,-getM,getM_hit,getM_miss,getM_none];(repeat (simp (disch:=first|omega|assumption|fail) only [if_pos,if_neg,wrap64];try simp [List.zipIdx,enterS,idx,zS,-getM,getM_hit,getM_miss,getM_none]))))))
 exact hEnd.out):G:=k ⟨h⟩
theorem eM64o {G G':Prop} (h:G') (k:Hold G'→G:=by
 intro hEnd
 first
  | (refine aw_run hc (by first|exact aw_nod|(intro _;rw [ordB_w hw];kernel_rfl)|(intro _;rw [ordB_w0 hw0];kernel_rfl)|(intro _;kernel_rfl)) ?_;simp [List.zipIdx,enterS,idx,-getM,getM_hit,getM_miss,getM_none];(repeat (simp (disch:=first|omega|assumption|fail) only [if_pos,if_neg,wrap64];try simp [List.zipIdx,enterS,idx,-getM,getM_hit,getM_miss,getM_none]));try (repeat' (refine guardQ_split (fun h=>?_) (fun h=>?_)<;>simp at h<;>(simp [List.zipIdx,enterS,idx,-getM,getM_hit,getM_miss,getM_none];(repeat (simp (disch:=first|omega|assumption|fail) only [if_pos,if_neg,wrap64];try simp [List.zipIdx,enterS,idx,-getM,getM_hit,getM_miss,getM_none]))))))
 exact hEnd.out):G:=k ⟨h⟩
theorem eB {G G':Prop} (h:G') (k:Hold G'→G:=by
 intro hEnd
 first
  | (refine aw_block ?_)
  | (refine aw_skip ?_;simp only [thenQ,blockQ,if_true])
  | (refine aw_exit ?_;simp [thenQ,blockQ])
  | (refine aw_ret ?_;simp only [thenQ,blockQ])
  | (refine aw_round ?_)
 exact hEnd.out):G:=k ⟨h⟩
theorem eqLs:eqL [] []=some true∧(∀ k a xs k' b ys,eqL (.v (.int k a)::xs) (.v (.int k' b)::ys)=if k=k' then (eqL xs ys).map (decide (a=b)&&·) else none)∧∀ a xs b ys,eqL (.v (.bool a)::xs) (.v (.bool b)::ys)=(eqL xs ys).map ((a == b)&&·):=⟨rfl,fun _ _ _ _ _ _=>rfl,fun _ _ _ _=>rfl⟩
theorem sameKs:sameK [] []=true∧(∀ k z r k' x s,sameK (.int k z::r) (.v (.int k' x)::s)=(decide (k=k')&&sameK r s))∧∀ z r x s,sameK (.bool z::r) (.v (.bool x)::s)=sameK r s:=⟨rfl,fun _ _ _ _ _ _=>rfl,fun _ _ _ _=>rfl⟩
theorem dt {G:Prop} (h:G:=by first|omega|(refine decide_eq_decide.2 ?_;omega)|(refine decide_eq_false ?_;omega)|(refine decide_eq_true ?_;omega)):G:=h
theorem dle {G:Prop} (h:G:=by exact le_of2 (by simp) (by simp [AVle,AV.under,AV.underL]<;>omega) (by simp [AOle,AO.under,AV.underL,AV.under]<;>omega)):G:=h
end Go.AM
