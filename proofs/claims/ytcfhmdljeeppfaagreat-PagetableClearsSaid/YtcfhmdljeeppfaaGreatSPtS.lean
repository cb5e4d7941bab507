/- A part of the proof: what functions of the program compute, by abstract execution of their code. Its theorems hold without further condition. -/
import Derived.Test.YtcfhmdljeeppfaaGreatSPtM
import Derived.Test.YtcfhmdljeeppfaaGreatSPt32
set_option linter.all false
namespace Go.AM
theorem sorted_ext {α:Type} {R:α→α→Prop} (hi:∀ a,¬ R a a) (ht:∀ {a b c},R a b→R b c→R a c):∀ {l m:List α},l.Pairwise R→m.Pairwise R→(∀ x,x∈l↔x∈m)→l=m
 | [],[],_,_,_=>rfl
 | [],y::m,_,_,h=>by have:=(h y).2 (by simp);simp at this
 | x::l,[],_,_,h=>by have:=(h x).1 (by simp);simp at this
 | x::l,y::m,hl,hm,h=>by
  rw [List.pairwise_cons] at hl hm
  have e:x=y:=by
   rcases List.mem_cons.1 ((h x).1 (by simp)) with e|h1
   ·exact e
   ·rcases List.mem_cons.1 ((h y).2 (by simp)) with e|h2
    ·exact e.symm
    ·exact absurd (ht (hl.1 y h2) (hm.1 x h1)) (hi x)
  subst e
  congr 1
  refine sorted_ext hi ht hl.2 hm.2 fun z=>?_
  constructor
  ·intro hz
   rcases List.mem_cons.1 ((h z).1 (by simp [hz])) with e|h1
   ·subst e;exact absurd (hl.1 z hz) (hi z)
   ·exact h1
  ·intro hz
   rcases List.mem_cons.1 ((h z).2 (by simp [hz])) with e|h1
   ·subst e;exact absurd (hm.1 z hz) (hi z)
   ·exact h1
section
variable {β:Type}
def ascK (l:List (Int×β)):Prop:=l.Pairwise fun a b=>a.1<b.1
theorem ascK_ext {l m:List (Int×β)} (hl:ascK l) (hm:ascK m) (h:∀ x,x∈l↔x∈m):l=m :=
 sorted_ext (R:=fun a b:Int×β=>a.1<b.1) (fun a=>Int.lt_irrefl _) (fun h1 h2=>Int.lt_trans h1 h2) hl hm h
theorem ascK_uniq {l:List (Int×β)} (h:ascK l) {a b:Int×β} (ha:a∈l) (hb:b∈l) (e:a.1=b.1):a=b:=by
 obtain ⟨i,hi,rfl⟩:=List.getElem_of_mem ha
 obtain ⟨j,hj,rfl⟩:=List.getElem_of_mem hb
 rcases Nat.lt_trichotomy i j with h1|h1|h1
 ·have:=List.pairwise_iff_getElem.1 h i j hi hj h1;omega
 ·subst h1;rfl
 ·have:=List.pairwise_iff_getElem.1 h j i hj hi h1;omega
def insK:List (Int×β)→Int×β→List (Int×β)
 | [],n=>[n]
 | a::r,n=>if n.1<a.1 then n::a::r else a::insK r n
theorem mem_insK {n x:Int×β}:∀ {l:List (Int×β)},x∈insK l n↔x=n∨x∈l
 | []=>by simp [insK]
 | a::r=>by
  simp only [insK]
  split
  ·simp
  ·simp only [List.mem_cons,mem_insK (l:=r)]
   constructor
   ·rintro (h|h|h)
    ·exact .inr (.inl h)
    ·exact .inl h
    ·exact .inr (.inr h)
   ·rintro (h|h|h)
    ·exact .inr (.inl h)
    ·exact .inl h
    ·exact .inr (.inr h)
theorem insK_len {n:Int×β}:∀ {l:List (Int×β)},(insK l n).length=l.length+1
 | []=>rfl
 | a::r=>by
  simp only [insK]
  split
  ·rfl
  ·simp [insK_len (l:=r)]
theorem insK_asc {n:Int×β}:∀ {l:List (Int×β)},ascK l→(∀ a∈l,a.1≠n.1)→ascK (insK l n)
 | [],_,_=>by simp [insK,ascK]
 | a::r,h,hn=>by
  unfold ascK at h ⊢
  rw [List.pairwise_cons] at h
  simp only [insK]
  split
  ·rename_i hlt
   refine List.pairwise_cons.2 ⟨fun b hb=>?_,List.pairwise_cons.2 h⟩
   rcases List.mem_cons.1 hb with e|hb
   ·rw [e];exact hlt
   ·exact Int.lt_trans hlt (h.1 b hb)
  ·rename_i hlt
   refine List.pairwise_cons.2 ⟨fun b hb=>?_,insK_asc h.2 fun b hb=>hn b (by simp [hb])⟩
   rcases mem_insK.1 hb with e|hb
   ·have:=hn a (by simp);rw [e];omega
   ·exact h.1 b hb
def delK (l:List (Int×β)) (k:Int):List (Int×β):=l.filter fun a=>decide (a.1≠k)
theorem mem_delK {l:List (Int×β)} {k:Int} {x:Int×β}:x∈delK l k↔x∈l∧x.1≠k:=by simp [delK]
theorem delK_asc {l:List (Int×β)} {k:Int} (h:ascK l):ascK (delK l k):=List.Pairwise.filter _ h
theorem insK_of_perm {l m:List (Int×β)} {n:Int×β} (h:ascK l) (hn:∀ a∈l,a.1≠n.1) (hm:m.Pairwise fun a b=>¬ b.1<a.1) (hp:m.Perm (l++[n])):m=insK l n:=by
 have hk:(m.map (·.1)).Nodup:=by
  have h1:((l++[n]).map (·.1)).Nodup:=by
   rw [List.map_append,List.map_singleton]
   refine List.nodup_append.2 ⟨?_,by simp,fun a ha b hb e=>?_⟩
   ·unfold List.Nodup
    rw [List.pairwise_map]
    exact h.imp fun hab e=>by omega
   ·obtain ⟨x,hx,e1⟩:=List.mem_map.1 ha
    simp at hb
    exact hn x hx (by rw [e1,e,hb])
  exact (hp.map _).nodup_iff.2 h1
 have hma:ascK m:=by
  unfold List.Nodup at hk
  rw [List.pairwise_map] at hk
  exact List.Pairwise.imp (fun {a b} (hab:(¬ b.1<a.1)∧a.1≠b.1)=>by omega) (hm.and hk)
 refine ascK_ext hma (insK_asc h hn) fun x=>?_
 rw [hp.mem_iff,mem_insK]
 simp [or_comm]
end
section
variable {ns:NdL}
theorem mem_Mof (ha:ascN ns) {f:Int} {ws:List Nat}:(f,ws)∈ns↔Mof ns f=some ws:=by
 constructor
 ·intro h
  obtain ⟨i,hi,e⟩:=List.getElem_of_mem h
  have h1:=fnd_at ha hi
  rw [List.getD_eq_getElem?_getD,List.getElem?_eq_getElem hi,Option.getD_some,e] at h1
  refine Mof_some.2 ⟨i,h1,?_⟩
  rw [List.getD_eq_getElem?_getD,List.getElem?_eq_getElem hi,Option.getD_some,e]
 ·intro h
  obtain ⟨i,h1,rfl⟩:=Mof_some.1 h
  have hi:=fnd_lt h1
  have h2:=fnd_frame h1
  rw [← h2]
  rw [List.getD_eq_getElem?_getD,List.getElem?_eq_getElem hi,Option.getD_some]
  exact List.getElem_mem hi
theorem Mof_none (ha:ascN ns) {f:Int}:Mof ns f=none↔∀ n∈ns,n.1≠f:=by
 constructor
 ·rintro h ⟨g,ws⟩ hn e
  simp only at e
  subst e
  rw [(mem_Mof ha).1 hn] at h;simp at h
 ·intro h
  cases hm:Mof ns f with
  | none=>rfl
  | some ws=>exact absurd rfl (h _ ((mem_Mof ha).2 hm))
theorem ext_asc {ms:NdL} (ha:ascN ns) (hb:ascN ms) (h:∀ f,Mof ns f=Mof ms f):ns=ms:=by
 refine ascK_ext ha hb fun x=>?_
 obtain ⟨f,ws⟩:=x
 rw [mem_Mof ha,mem_Mof hb,h]
theorem Mof_ins (ha:ascN ns) {f:Int} {ws:List Nat} (hf:∀ n∈ns,n.1≠f):∀ g,Mof (insK ns (f,ws)) g=updM1 (Mof ns) f (some ws) g:=by
 intro g
 have hi:ascN (insK ns (f,ws)):=insK_asc ha hf
 unfold updM1
 split
 ·rename_i e
  subst e
  exact (mem_Mof hi).1 (mem_insK.2 (.inl rfl))
 ·rename_i e
  cases h:Mof ns g with
  | none =>
   refine (Mof_none hi).2 fun n hn=>?_
   rcases mem_insK.1 hn with h1|h1
   ·rw [h1];exact fun h=>e h.symm
   ·exact (Mof_none ha).1 h n h1
  | some us=>exact (mem_Mof hi).1 (mem_insK.2 (.inr ((mem_Mof ha).2 h)))
theorem Mof_del (ha:ascN ns) {f:Int}:∀ g,Mof (delK ns f) g=updM1 (Mof ns) f none g:=by
 intro g
 have hi:ascN (delK ns f):=delK_asc ha
 unfold updM1
 split
 ·rename_i e
  subst e
  exact (Mof_none hi).2 fun n hn=>(mem_delK.1 hn).2
 ·rename_i e
  cases h:Mof ns g with
  | none=>exact (Mof_none hi).2 fun n hn=>(Mof_none ha).1 h n (mem_delK.1 hn).1
  | some us=>exact (mem_Mof hi).1 (mem_delK.2 ⟨(mem_Mof ha).2 h,e⟩)
def setN (ns:NdL) (n i w:Nat):NdL:=ns.set n ((ns.getD n (0,[])).1,(ns.getD n (0,[])).2.set i w)
@[simp] theorem setN_len {n i w:Nat}:(setN ns n i w).length=ns.length:=by simp [setN]
theorem setN_asc (ha:ascN ns) {n i w:Nat} (hn:n<ns.length):ascN (setN ns n i w):=by
 have hk:∀ j (hj:j<(setN ns n i w).length) (hj2:j<ns.length),((setN ns n i w)[j]).1=(ns[j]).1:=fun j hj hj2=>by
  unfold setN at hj ⊢
  rw [List.getElem_set]
  split
  ·rename_i e
   subst e
   simp only
   rw [List.getD_eq_getElem?_getD,List.getElem?_eq_getElem hn];rfl
  ·rfl
 refine List.pairwise_iff_getElem.2 fun a b h1 h2 h3=>?_
 rw [hk a h1 (by simpa using h1),hk b h2 (by simpa using h2)]
 exact List.pairwise_iff_getElem.1 ha a b _ _ h3
theorem Mof_set (ha:ascN ns) {f:Int} {n i w:Nat} (hf:fnd ns f=some n):∀ g,Mof (setN ns n i w) g=updW (Mof ns) f i w g:=by
 intro g
 have hn:=fnd_lt hf
 have hi:ascN (setN ns n i w):=setN_asc ha hn
 have hfr:=fnd_frame hf
 have hmem:∀ x,x∈setN ns n i w↔x=(f,(ns.getD n (0,[])).2.set i w)∨(x∈ns∧x.1≠f):=fun x=>by
  constructor
  ·intro hx
   obtain ⟨j,hj,rfl⟩:=List.getElem_of_mem hx
   unfold setN at hj ⊢
   rw [List.getElem_set]
   split
   ·rw [hfr];exact .inl rfl
   ·rename_i e
    right
    have hj2:j<ns.length:=by simpa using hj
    refine ⟨List.getElem_mem hj2,fun e2=>e ?_⟩
    have h1:=fnd_at ha hj2
    rw [List.getD_eq_getElem?_getD,List.getElem?_eq_getElem hj2,Option.getD_some,e2,hf] at h1
    simpa using h1
  ·rintro (rfl|⟨h1,h2⟩)
   ·have:(setN ns n i w)[n]'(by simpa using hn)=(f,(ns.getD n (0,[])).2.set i w):=by
     unfold setN;rw [List.getElem_set,if_pos rfl,hfr]
    rw [← this];exact List.getElem_mem _
   ·obtain ⟨j,hj,rfl⟩:=List.getElem_of_mem h1
    have hjn:n≠j:=fun e=>h2 (by
     subst e
     rw [List.getD_eq_getElem?_getD,List.getElem?_eq_getElem hj,Option.getD_some] at hfr
     exact hfr)
    have:(setN ns n i w)[j]'(by simpa using hj)=ns[j]:=by
     unfold setN;rw [List.getElem_set,if_neg hjn]
    rw [← this];exact List.getElem_mem _
 unfold updW
 split
 ·rename_i e
  subst e
  have h1:Mof ns g=some (ns.getD n (0,[])).2:=Mof_some.2 ⟨n,hf,rfl⟩
  rw [h1]
  exact (mem_Mof hi).1 ((hmem _).2 (.inl rfl))
 ·rename_i e
  cases h:Mof ns g with
  | none =>
   refine (Mof_none hi).2 fun x hx=>?_
   rcases (hmem x).1 hx with rfl|⟨h1,h2⟩
   ·exact fun h=>e h.symm
   ·exact (Mof_none ha).1 h x h1
  | some us=>exact (mem_Mof hi).1 ((hmem _).2 (.inr ⟨(mem_Mof ha).2 h,e⟩))
theorem fnd_set {n i w:Nat} (hn:n<ns.length) (g:Int):fnd (setN ns n i w) g=fnd ns g:=by
 have:∀ j,((setN ns n i w)[j]?.map fun x:Int×List Nat=>x.1)=ns[j]?.map fun x:Int×List Nat=>x.1:=fun j=>by
  unfold setN
  by_cases e:n=j
  ·subst e
   rw [List.getElem?_set_self hn,List.getElem?_eq_getElem hn]
   simp [List.getD_eq_getElem?_getD,List.getElem?_eq_getElem hn]
  ·rw [List.getElem?_set_ne e]
 have hmap:((setN ns n i w).map fun x:Int×List Nat=>x.1)=ns.map fun x:Int×List Nat=>x.1:=List.ext_getElem? fun j=>by simpa using this j
 have hidx:∀ l:NdL,l.findIdx (fun n=>decide (n.1=g))=(l.map fun x:Int×List Nat=>x.1).findIdx (fun f=>decide (f=g)):=fun l=>by
  rw [List.findIdx_map];rfl
 unfold fnd
 rw [hidx,hidx,hmap,setN_len]
end
end Go.AM
namespace Go.AM
section
variable {β:Type}
theorem insK_none {n:Int×β}:∀ {l:List (Int×β)},(∀ a∈l,¬ n.1<a.1)→insK l n=l++[n]
 | [],_=>rfl
 | a::r,h=>by
  simp only [insK]
  rw [if_neg (h a (by simp)),insK_none fun b hb=>h b (by simp [hb])]
  rfl
theorem insK_hit {n x:Int×β} {r:List (Int×β)}:∀ {l:List (Int×β)},(∀ a∈l,¬ n.1<a.1)→n.1<x.1→insK (l++x::r) n=l++n::x::r
 | [],_,h2=>by simp [insK,h2]
 | a::l,h,h2=>by
  simp only [List.cons_append,insK]
  rw [if_neg (h a (by simp)),insK_hit (fun b hb=>h b (by simp [hb])) h2]
theorem insK_snoc {n x:Int×β}:∀ {l:List (Int×β)},(∃ a∈l,n.1<a.1)→insK (l++[x]) n=insK l n++[x]
 | [],h=>by obtain ⟨a,ha,_⟩:=h;simp at ha
 | a::l,h=>by
  simp only [List.cons_append,insK]
  split
  ·rfl
  ·rename_i hn
   obtain ⟨b,hb,hb2⟩:=h
   rcases List.mem_cons.1 hb with rfl|hb
   ·exact absurd hb2 hn
   ·rw [insK_snoc ⟨b,hb,hb2⟩];rfl
theorem delK_snoc {l:List (Int×β)} {x:Int×β} {k:Int}:delK (l++[x]) k=if x.1=k then delK l k else delK l k++[x]:=by
 unfold delK
 rw [List.filter_append]
 by_cases e:x.1=k<;>simp [e]
def lastK (z:β) (k:Int) (l:List (Int×β)):β:=l.foldl (fun v d=>if d.1=k then d.2 else v) z
theorem lastK_snoc {z:β} {k:Int} {l:List (Int×β)} {x:Int×β}:lastK z k (l++[x])=if x.1=k then x.2 else lastK z k l:=by simp [lastK]
theorem lastK_at {z:β} {k:Int} {l:List (Int×β)} (h:ascK l) {v:β} (hv:(k,v)∈l):lastK z k l=v:=by
 have key:∀ (l:List (Int×β)) (z:β),(∀ d∈l,d.1=k→d.2=v)→((k,v)∈l∨z=v)→lastK z k l=v:=by
  intro l
  induction l with
  | nil=>intro z _ h;simpa [lastK] using h
  | cons d l ih =>
   intro z h1 h2
   show lastK (if d.1=k then d.2 else z) k l=v
   refine ih _ (fun e he=>h1 e (by simp [he])) ?_
   by_cases e:d.1=k
   ·rw [if_pos e];exact .inr (h1 d (by simp) e)
   ·rw [if_neg e]
    rcases h2 with h2|h2
    ·rcases List.mem_cons.1 h2 with h3|h3
     ·rw [← h3] at e;exact absurd rfl e
     ·exact .inl h3
    ·exact .inr h2
 exact key l z (fun d hd e=>by have:=ascK_uniq h hd hv e;rw [this]) (.inl hv)
def insD (l:List (Int×β)) (k:Int) (i:Nat):Bool:=(l.take i).any fun a=>decide (k<a.1)
def insA (l:List (Int×β)) (n:Int×β) (i:Nat):List (Int×β):=if insD l n.1 i=true then insK (l.take i) n else l.take i
theorem insD_0 {l:List (Int×β)} {k:Int}:insD l k 0=false:=by simp [insD]
theorem insA_0 {l:List (Int×β)} {n:Int×β}:insA l n 0=[]:=by simp [insA,insD]
theorem take_snoc {l:List (Int×β)} {i:Nat} (h:i<l.length):l.take (i+1)=l.take i++[l[i]]:=by
 rw [List.take_add_one,List.getElem?_eq_getElem h];rfl
theorem insD_t {l:List (Int×β)} {k:Int} {i:Nat} (h:i<l.length) (hd:insD l k i=true):insD l k (i+1)=true:=by
 unfold insD at hd ⊢
 rw [take_snoc h,List.any_append,hd];rfl
theorem insD_y {l:List (Int×β)} {k:Int} {i:Nat} (h:i<l.length) (hk:k<l[i].1):insD l k (i+1)=true:=by
 unfold insD
 rw [take_snoc h,List.any_append];simp [hk]
theorem insD_n {l:List (Int×β)} {k:Int} {i:Nat} (h:i<l.length) (hd:insD l k i=false) (hk:¬ k<l[i].1):insD l k (i+1)=false:=by
 unfold insD at hd ⊢
 rw [take_snoc h,List.any_append,hd];simp;omega
theorem insD_all {l:List (Int×β)} {k:Int} {i:Nat} (hd:insD l k i=false):∀ a∈l.take i,¬ k<a.1:=fun a ha hk=>by
 unfold insD at hd
 rw [List.any_eq_false] at hd
 exact hd a ha (by simpa using hk)
theorem insD_ex {l:List (Int×β)} {k:Int} {i:Nat} (hd:insD l k i=true):∃ a∈l.take i,k<a.1:=by
 unfold insD at hd
 obtain ⟨a,ha,h⟩:=List.any_eq_true.1 hd
 exact ⟨a,ha,by simpa using h⟩
theorem insA_t {l:List (Int×β)} {n:Int×β} {i:Nat} (h:i<l.length) (hd:insD l n.1 i=true):insA l n (i+1)=insA l n i++[l[i]]:=by
 unfold insA
 rw [if_pos (insD_t h hd),if_pos hd,take_snoc h,insK_snoc (insD_ex hd)]
theorem insA_y {l:List (Int×β)} {n:Int×β} {i:Nat} (h:i<l.length) (hd:insD l n.1 i=false) (hk:n.1<l[i].1):insA l n (i+1)=insA l n i++[n]++[l[i]]:=by
 unfold insA
 rw [if_pos (insD_y h hk),if_neg (by simp [hd]),take_snoc h,insK_hit (insD_all hd) hk];simp
theorem insA_n {l:List (Int×β)} {n:Int×β} {i:Nat} (h:i<l.length) (hd:insD l n.1 i=false) (hk:¬ n.1<l[i].1):insA l n (i+1)=insA l n i++[l[i]]:=by
 unfold insA
 rw [if_neg (by simp [insD_n h hd hk]),if_neg (by simp [hd]),take_snoc h]
theorem insA_end {l:List (Int×β)} {n:Int×β}:insK l n=if insD l n.1 l.length=true then insA l n l.length else insA l n l.length++[n]:=by
 unfold insA
 split
 ·rw [List.take_length]
 ·rename_i h
  rw [List.take_length]
  have:=insD_all (Bool.eq_false_iff.2 h)
  rw [List.take_length] at this
  exact insK_none this
theorem insA_len {l:List (Int×β)} {n:Int×β} {i:Nat}:(insA l n i).length≤l.length+1:=by
 unfold insA
 split
 ·rw [insK_len];simp;omega
 ·simp;omega
end
end Go.AM
namespace Go.AM
open Go Go.Proofs
def tAV (t:Tb):AV:=.agg [I t.1,.sl 0 1 9 0 t.2.1.length,.sl 1 1 2 0 t.2.2.length]
def tMs (t:Tb):List AO:=[.vec 1 9 false (nrows t.2.1),.vec 1 2 false (prows t.2.2)]
theorem nrows_take (l:List Nd) (n:Nat):(nrows l).take n=nrows (l.take n):=by simp [nrows,List.map_take]
theorem nrows_snoc (l:List Nd) (x:Nd):nrows (l++[x])=nrows l++[nrow x]:=by simp [nrows]
theorem take_succ_gn {l:List Nd} {n:Nat} (h:n<l.length):l.take (n+1)=l.take n++[gn l n]:=by
 rw [gn_eq h,List.take_add_one,List.getElem?_eq_getElem h];rfl
theorem tAV_inj {t t':Tb} (h:tAV t=tAV t') (h2:tMs t=tMs t'):t=t':=by
 obtain ⟨r,ns,ds⟩:=t
 obtain ⟨r',ns',ds'⟩:=t'
 simp only [tAV,tMs,AV.agg.injEq,List.cons.injEq,I,AV.v.injEq,Value.int.injEq,true_and,AO.vec.injEq,nrows_inj,prows_inj,and_true] at h h2
 obtain ⟨rfl,_⟩:=h
 obtain ⟨rfl,rfl⟩:=h2
 rfl
noncomputable def insS:List AV→List AO→Option (AV×List AO):=specG (ι:={x:Tb×Int // tbOK x.1}) (fun x=>[tAV x.1.1,I x.1.2]) (fun x=>tMs x.1.1) (fun x=>retOf [.agg [I x.1.1.1,.sl 2 1 9 0 (x.1.1.2.1.length+1),.sl 1 1 2 0 x.1.1.2.2.length]]) fun x=>tMs x.1.1++[.vec 1 9 false (nrows (insK x.1.1.2.1 (x.1.2,zs8)))]
set_option maxHeartbeats 4000000 in
theorem s148 (X:AX) (hX:XOK Tryz.prog X) (hw:X.W wT):GSound Tryz.prog 148 insS:=by
 unfold insS
 refine gsound_spec Tryz.func148 rfl X fun ⟨⟨⟨r,ns,ds⟩,f⟩,ht⟩ w0 L E=>⟨by show 2≤53;decide,?_⟩
 have hl1:ns.length≤1000000:=ht.2.1
 have hl2:ds.length≤1000000:=ht.2.2
 simp only [tAV,tMs]
 show AW ⟨Tryz.prog,X,53,w0,⟨L,E,2⟩⟩ _ _ _
 have hc:Cx.OK ⟨Tryz.prog,X,53,w0,⟨L,E,2⟩⟩:=⟨hX,mixed⟩
 have tkn:List.take ns.length (nrows ns)=nrows ns:=List.take_of_length_le (by simp)
 have zS:=tkn
 repeat' (first|(apply aw_seq_k;intro K hK)|(refine eM64 ?_)|(refine aw_cond (b:=_) (by exact rfl) (fun h=>?_) (fun h=>?_)<;>(try simp at h))|(refine eB ?_)|(refine hK _ ?_;clear hK)|(clear hK;refine hK _ ?_;clear hK)|(clear hK;clear hK;refine hK _ ?_;clear hK)|(clear hK;clear hK;clear hK;refine hK _ ?_;clear hK))
 all_goals clear zS
 refine aw_weaken (le_nilcell (b:=114) (i:=1) (sz:=9) rfl rfl) ?_
 refine aw_loopK (s0:=?lps1) (m0:=?lpm1) (ι:={i:Nat // i≤ns.length}) [1,4,5,15,16] (fun s=>[(17,I s.1),(6,B (insD ns f s.1))]) (fun s=>[(114,.box [I r,.sl 226 1 9 0 (insA ns (f,zs8) s.1).length,.sl 1 1 2 0 ds.length]),(226,.vec 1 9 false (nrows (insA ns (f,zs8) s.1)))]) (fun s=>ns.length - s.1) ⟨0,by simp⟩ ?lhs1 ?lhm1 ?_ ?_
 case lhs1=>first|(simp [keepS];done)|(simp [keepS];rfl)
 case lhm1=>first|rfl|(simp;done)|(simp;rfl)
 ·simp only [insD_0,insA_0]
  exact le_of2 (by simp) (by simp [AVle,AV.under,AV.underL,nrows]<;>omega) (by simp [AOle,AO.under,AV.underL,AV.under,nrows]<;>omega)
 ·rintro ⟨i,hi⟩
  simp only at hi ⊢
  have hal:=insA_len (l:=ns) (n:=(f,zs8)) (i:=i)
  have hti:=@insA_t _ ns (f,zs8) i
  have hyi:=@insA_y _ ns (f,zs8) i
  have hni:=@insA_n _ ns (f,zs8) i
  have hdt:=@insD_t _ ns f i
  have hdy:=@insD_y _ ns f i
  have hdn:=@insD_n _ ns f i
  have hend:=@insA_end _ ns (f,zs8)
  obtain ⟨acc,hacc⟩:∃ acc,acc=insA ns (f,zs8) i:=⟨_,rfl⟩
  obtain ⟨dn,hdn0⟩:∃ dn,dn=insD ns f i:=⟨_,rfl⟩
  rw [← hacc] at hal hti hyi hni ⊢
  rw [← hdn0] at hdt hdn ⊢
  have hdn1:insD ns (f,zs8).1 i=dn:=hdn0.symm
  rw [hdn1] at hti hyi hni
  have htk:List.take acc.length (nrows acc)=nrows acc:=List.take_of_length_le (by simp)
  have ha1:∀ x:Nd,nrows acc++[nrow x]=nrows (acc++[x]):=fun x=>(nrows_snoc acc x).symm
  have ha1z:nrows acc++[[I f,.v (.int .u64 0),.v (.int .u64 0),.v (.int .u64 0),.v (.int .u64 0),.v (.int .u64 0),.v (.int .u64 0),.v (.int .u64 0),.v (.int .u64 0)]]=nrows (acc++[(f,zs8)]):=ha1 (f,zs8)
  have ha2:List.take (acc.length+1) (nrows (acc++[(f,zs8)]))=nrows (acc++[(f,zs8)]):=List.take_of_length_le (by simp)
  rcases Decidable.em (i<ns.length) with hil|hil
  ·have hilI:(i:Int)<(ns.length:Int):=by omega
   have hti:=hti hil
   have hyi:=hyi hil
   have hni:=hni hil
   have hdt:=hdt hil
   have hdy:=hdy hil
   have hdn:=hdn hil
   rw [← gn_eq hil] at hti hyi hni hdy hdn
   have hg:=nrows_gi hil
   have hgE:=nrows_gE hil
   have hlen:=(ht.1 _ (gn_mem hil)).1
   obtain ⟨⟨g,ws⟩,hm⟩:∃ m,m=gn ns i:=⟨_,rfl⟩
   rw [← hm] at hg hgE hlen hti hyi hni hdy hdn
   simp only at hg hgE hlen hti hyi hni hdy hdn
   have hwl:(wcs ws).length=8:=by simpa using hlen
   have ha1g:nrows acc++[I g::wcs ws]=nrows (acc++[(g,ws)]):=ha1 (g,ws)
   have ha2g:nrows (acc++[(f,zs8)])++[I g::wcs ws]=nrows (acc++[(f,zs8)]++[(g,ws)]):=(nrows_snoc (acc++[(f,zs8)]) (g,ws)).symm
   have hcl:∀ x,x∈wcs ws→AV.isClosed x=true:=fun a ha=>by
    obtain ⟨w,_,rfl⟩:=List.mem_map.1 ha
    rfl
   have hcu:∀ m,AV.underL m (wcs ws):=fun m=>underL_iff.2 fun a ha=>by
    obtain ⟨w,_,rfl⟩:=List.mem_map.1 ha
    trivial
   obtain ⟨cs,hcs⟩:∃ cs,cs=wcs ws:=⟨_,rfl⟩
   rw [← hcs] at hg hgE hwl ha1g ha2g hcl hcu
   have hct:List.take 8 cs=cs:=List.take_of_length_le (by omega)
   simp only [AV.isClosed] at hcl
   clear hcs hm
   cases dn with
   | false =>
    rcases Decidable.em (f<g) with h1|h1
    ·have e1:=hyi rfl h1
     have e2:=hdy h1
     have zS:=jj hilI<|jj hg<|jj hgE<|jj hwl<|jj hct<|jj htk<|jj hal<|jj h1<|jj ha2<|jj ha2g<|jj ha1z<|hcl
     repeat' (first|(apply aw_seq_k;intro K hK)|(refine eM64 ?_)|(refine aw_cond (b:=_) (by exact rfl) (fun h=>?_) (fun h=>?_)<;>(try simp at h))|(refine eB ?_)|(refine hK _ ?_;clear hK)|(clear hK;refine hK _ ?_;clear hK)|(clear hK;clear hK;refine hK _ ?_;clear hK)|(clear hK;clear hK;clear hK;refine hK _ ?_;clear hK))
     all_goals clear zS
     refine ⟨i+1,?_,by omega,by omega⟩
     simp only [e1,e2,List.length_append,List.length_singleton]
     refine le_turn (s1:=?tus2) (m1:=?tum2) [] [1,4,5,6,15,16,17] [0,1,2,18,114,226] ?tua2 ?tub2 ?tuc2 ?tud2 ?tue2 ?tuf2 ?tug2
     case tua2=>first|(simp [keepS];done)|(simp [keepS];rfl)
     case tub2=>first|(simp;done)|(simp;rfl)
     case tuc2=>simp
     case tud2=>simp
     case tue2=>simp
     case tuf2=>simp
     case tug2 =>
      simp [swp,vr]
      exact dle
    ·have e1:=hni rfl h1
     have e2:=hdn rfl h1
     have zS:=jj hilI<|jj hg<|jj hgE<|jj hwl<|jj hct<|jj htk<|jj hal<|jj ha2<|jj ha2g<|jj ha1g<|jj ha1z<|jj hcl<|h1
     repeat' (first|(apply aw_seq_k;intro K hK)|(refine eM64 ?_)|(refine aw_cond (b:=_) (by exact rfl) (fun h=>?_) (fun h=>?_)<;>(try simp at h))|(refine eB ?_)|(refine hK _ ?_;clear hK)|(clear hK;refine hK _ ?_;clear hK)|(clear hK;clear hK;refine hK _ ?_;clear hK)|(clear hK;clear hK;clear hK;refine hK _ ?_;clear hK))
     all_goals clear zS
     refine ⟨i+1,?_,by omega,by omega⟩
     simp only [e1,e2,List.length_append,List.length_singleton]
     refine le_turn (s1:=?tus3) (m1:=?tum3) [] [1,4,5,6,15,16,17] [0,1,2,18,114,226] ?tua3 ?tub3 ?tuc3 ?tud3 ?tue3 ?tuf3 ?tug3
     case tua3=>first|(simp [keepS];done)|(simp [keepS];rfl)
     case tub3=>first|(simp;done)|(simp;rfl)
     case tuc3=>simp
     case tud3=>simp
     case tue3=>simp
     case tuf3=>simp
     case tug3 =>
      simp [swp,vr]
      exact dle
   | true =>
    have e1:=hti rfl
    have e2:=hdt rfl
    have zS:=jj hilI<|jj hg<|jj hgE<|jj hwl<|jj hct<|jj htk<|jj hal<|jj ha2<|jj ha2g<|jj ha1g<|jj ha1z<|hcl
    repeat' (first|(apply aw_seq_k;intro K hK)|(refine eM64 ?_)|(refine aw_cond (b:=_) (by exact rfl) (fun h=>?_) (fun h=>?_)<;>(try simp at h))|(refine eB ?_)|(refine hK _ ?_;clear hK)|(clear hK;refine hK _ ?_;clear hK)|(clear hK;clear hK;refine hK _ ?_;clear hK)|(clear hK;clear hK;clear hK;refine hK _ ?_;clear hK))
    all_goals clear zS
    refine ⟨i+1,?_,by omega,by omega⟩
    simp only [e1,e2,List.length_append,List.length_singleton]
    refine le_turn (s1:=?tus4) (m1:=?tum4) [] [1,4,5,6,15,16,17] [0,1,2,18,114,226] ?tua4 ?tub4 ?tuc4 ?tud4 ?tue4 ?tuf4 ?tug4
    case tua4=>first|(simp [keepS];done)|(simp [keepS];rfl)
    case tub4=>first|(simp;done)|(simp;rfl)
    case tuc4=>simp
    case tud4=>simp
    case tue4=>simp
    case tuf4=>simp
    case tug4 =>
     simp [swp,vr]
     exact dle
  ·obtain rfl:i=ns.length:=by omega
   rw [← hacc,show insD ns (f,zs8).1 ns.length=dn from hdn1] at hend
   have hil2:=@insK_len _ (f,zs8) ns
   rw [hend] at hil2
   cases dn with
   | false =>
    simp only [Bool.false_eq_true,if_false,List.length_append,List.length_singleton] at hil2 hend
    have hal2:acc.length=ns.length:=by omega
    have zS:=jj htk<|jj hal<|jj ha2<|ha1z
    repeat' (first|(apply aw_seq_k;intro K hK)|(refine eM64 ?_)|(refine aw_cond (b:=_) (by exact rfl) (fun h=>?_) (fun h=>?_)<;>(try simp at h))|(refine eB ?_)|(refine hK _ ?_;clear hK)|(clear hK;refine hK _ ?_;clear hK)|(clear hK;clear hK;refine hK _ ?_;clear hK)|(clear hK;clear hK;clear hK;refine hK _ ?_;clear hK))
    all_goals clear zS
    refine ⟨by simp,_,by simp [aResults,aResult,Tryz.f148];rfl,?_⟩
    simp only [idx,hend,hal2,List.cons_append,List.nil_append]
    refine le_turn (s1:=?tus5) (m1:=?tum5) [(226,2)] [0] [0,1,226] ?tua5 ?tub5 ?tuc5 ?tud5 ?tue5 ?tuf5 ?tug5
    case tua5=>first|(simp [keepS];done)|(simp [keepS];rfl)
    case tub5=>first|(simp;done)|(simp;rfl)
    case tuc5=>simp
    case tud5=>simp
    case tue5=>simp
    case tuf5=>simp
    case tug5 =>
     simp [swp,vr]
     exact dle
   | true =>
    simp only [if_true] at hil2 hend
    have zS:=jj htk<|jj hal<|jj ha2<|ha1z
    repeat' (first|(apply aw_seq_k;intro K hK)|(refine eM64 ?_)|(refine aw_cond (b:=_) (by exact rfl) (fun h=>?_) (fun h=>?_)<;>(try simp at h))|(refine eB ?_)|(refine hK _ ?_;clear hK)|(clear hK;refine hK _ ?_;clear hK)|(clear hK;clear hK;refine hK _ ?_;clear hK)|(clear hK;clear hK;clear hK;refine hK _ ?_;clear hK))
    all_goals clear zS
    refine ⟨by simp,_,by simp [aResults,aResult,Tryz.f148];rfl,?_⟩
    simp only [idx,hend,hil2,List.cons_append,List.nil_append]
    refine le_turn (s1:=?tus6) (m1:=?tum6) [(226,2)] [0] [0,1,226] ?tua6 ?tub6 ?tuc6 ?tud6 ?tue6 ?tuf6 ?tug6
    case tua6=>first|(simp [keepS];done)|(simp [keepS];rfl)
    case tub6=>first|(simp;done)|(simp;rfl)
    case tuc6=>simp
    case tud6=>simp
    case tue6=>simp
    case tuf6=>simp
    case tug6 =>
     simp [swp,vr]
     exact dle
end Go.AM
