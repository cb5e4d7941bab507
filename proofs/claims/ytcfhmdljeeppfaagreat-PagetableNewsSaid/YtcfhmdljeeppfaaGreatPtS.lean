/- A part of the proof: what functions of the program compute, by abstract execution of their code. Its theorems hold without further condition. -/
import Derived.Test.YtcfhmdljeeppfaaGreatPtM
import Derived.Test.YtcfhmdljeeppfaaGreatPt32
set_option linter.all false
namespace Go.AM
theorem sorted_ext {α:Type} {R:α→α→Prop} (hi:∀ a,¬ R a a) (ht:∀ {a b c},R a b→R b c→R a c):∀ {l m:List α},l.Pairwise R→m.Pairwise R→(∀ x,x∈l↔x∈m)→l=m
 | [],[],_,_,_=>rfl
 | [],y::m,_,_,h=>by have:=(h y).2 (by simp);simp at this
 | x::l,[],_,_,h=>by have:=(h x).1 (by simp);simp at this
 | x::l,y::m,hl,hm,h=>by
  rw [List.pairwise_cons] at hl hm
  have e:x=y:=by
   rcases List.mem_cons.1 ((h x).1 (by simp)) with e|h1
   ·exact e
   ·rcases List.mem_cons.1 ((h y).2 (by simp)) with e|h2
    ·exact e.symm
    ·exact absurd (ht (hl.1 y h2) (hm.1 x h1)) (hi x)
  subst e
  congr 1
  refine sorted_ext hi ht hl.2 hm.2 fun z=>?_
  constructor
  ·intro hz
   rcases List.mem_cons.1 ((h z).1 (by simp [hz])) with e|h1
   ·subst e;exact absurd (hl.1 z hz) (hi z)
   ·exact h1
  ·intro hz
   rcases List.mem_cons.1 ((h z).2 (by simp [hz])) with e|h1
   ·subst e;exact absurd (hm.1 z hz) (hi z)
   ·exact h1
section
variable {β:Type}
def ascK (l:List (Int×β)):Prop:=l.Pairwise fun a b=>a.1<b.1
theorem ascK_ext {l m:List (Int×β)} (hl:ascK l) (hm:ascK m) (h:∀ x,x∈l↔x∈m):l=m :=
 sorted_ext (R:=fun a b:Int×β=>a.1<b.1) (fun a=>Int.lt_irrefl _) (fun h1 h2=>Int.lt_trans h1 h2) hl hm h
def insK:List (Int×β)→Int×β→List (Int×β)
 | [],n=>[n]
 | a::r,n=>if n.1<a.1 then n::a::r else a::insK r n
theorem mem_insK {n x:Int×β}:∀ {l:List (Int×β)},x∈insK l n↔x=n∨x∈l
 | []=>by simp [insK]
 | a::r=>by
  simp only [insK]
  split
  ·simp
  ·simp only [List.mem_cons,mem_insK (l:=r)]
   constructor
   ·rintro (h|h|h)
    ·exact .inr (.inl h)
    ·exact .inl h
    ·exact .inr (.inr h)
   ·rintro (h|h|h)
    ·exact .inr (.inl h)
    ·exact .inl h
    ·exact .inr (.inr h)
theorem insK_len {n:Int×β}:∀ {l:List (Int×β)},(insK l n).length=l.length+1
 | []=>rfl
 | a::r=>by
  simp only [insK]
  split
  ·rfl
  ·simp [insK_len (l:=r)]
theorem insK_asc {n:Int×β}:∀ {l:List (Int×β)},ascK l→(∀ a∈l,a.1≠n.1)→ascK (insK l n)
 | [],_,_=>by simp [insK,ascK]
 | a::r,h,hn=>by
  unfold ascK at h ⊢
  rw [List.pairwise_cons] at h
  simp only [insK]
  split
  ·rename_i hlt
   refine List.pairwise_cons.2 ⟨fun b hb=>?_,List.pairwise_cons.2 h⟩
   rcases List.mem_cons.1 hb with e|hb
   ·rw [e];exact hlt
   ·exact Int.lt_trans hlt (h.1 b hb)
  ·rename_i hlt
   refine List.pairwise_cons.2 ⟨fun b hb=>?_,insK_asc h.2 fun b hb=>hn b (by simp [hb])⟩
   rcases mem_insK.1 hb with e|hb
   ·have:=hn a (by simp);rw [e];omega
   ·exact h.1 b hb
theorem insK_of_perm {l m:List (Int×β)} {n:Int×β} (h:ascK l) (hn:∀ a∈l,a.1≠n.1) (hm:m.Pairwise fun a b=>¬ b.1<a.1) (hp:m.Perm (l++[n])):m=insK l n:=by
 have hk:(m.map (·.1)).Nodup:=by
  have h1:((l++[n]).map (·.1)).Nodup:=by
   rw [List.map_append,List.map_singleton]
   refine List.nodup_append.2 ⟨?_,by simp,fun a ha b hb e=>?_⟩
   ·unfold List.Nodup
    rw [List.pairwise_map]
    exact h.imp fun hab e=>by omega
   ·obtain ⟨x,hx,e1⟩:=List.mem_map.1 ha
    simp at hb
    exact hn x hx (by rw [e1,e,hb])
  exact (hp.map _).nodup_iff.2 h1
 have hma:ascK m:=by
  unfold List.Nodup at hk
  rw [List.pairwise_map] at hk
  exact List.Pairwise.imp (fun {a b} (hab:(¬ b.1<a.1)∧a.1≠b.1)=>by omega) (hm.and hk)
 refine ascK_ext hma (insK_asc h hn) fun x=>?_
 rw [hp.mem_iff,mem_insK]
 simp [or_comm]
end
section
variable {ns:NdL}
theorem mem_Mof (ha:ascN ns) {f:Int} {ws:List Nat}:(f,ws)∈ns↔Mof ns f=some ws:=by
 constructor
 ·intro h
  obtain ⟨i,hi,e⟩:=List.getElem_of_mem h
  have h1:=fnd_at ha hi
  rw [List.getD_eq_getElem?_getD,List.getElem?_eq_getElem hi,Option.getD_some,e] at h1
  refine Mof_some.2 ⟨i,h1,?_⟩
  rw [List.getD_eq_getElem?_getD,List.getElem?_eq_getElem hi,Option.getD_some,e]
 ·intro h
  obtain ⟨i,h1,rfl⟩:=Mof_some.1 h
  have hi:=fnd_lt h1
  have h2:=fnd_frame h1
  rw [← h2]
  rw [List.getD_eq_getElem?_getD,List.getElem?_eq_getElem hi,Option.getD_some]
  exact List.getElem_mem hi
theorem Mof_none (ha:ascN ns) {f:Int}:Mof ns f=none↔∀ n∈ns,n.1≠f:=by
 constructor
 ·rintro h ⟨g,ws⟩ hn e
  simp only at e
  subst e
  rw [(mem_Mof ha).1 hn] at h;simp at h
 ·intro h
  cases hm:Mof ns f with
  | none=>rfl
  | some ws=>exact absurd rfl (h _ ((mem_Mof ha).2 hm))
theorem Mof_ins (ha:ascN ns) {f:Int} {ws:List Nat} (hf:∀ n∈ns,n.1≠f):∀ g,Mof (insK ns (f,ws)) g=updM1 (Mof ns) f (some ws) g:=by
 intro g
 have hi:ascN (insK ns (f,ws)):=insK_asc ha hf
 unfold updM1
 split
 ·rename_i e
  subst e
  exact (mem_Mof hi).1 (mem_insK.2 (.inl rfl))
 ·rename_i e
  cases h:Mof ns g with
  | none =>
   refine (Mof_none hi).2 fun n hn=>?_
   rcases mem_insK.1 hn with h1|h1
   ·rw [h1];exact fun h=>e h.symm
   ·exact (Mof_none ha).1 h n h1
  | some us=>exact (mem_Mof hi).1 (mem_insK.2 (.inr ((mem_Mof ha).2 h)))
def setN (ns:NdL) (n i w:Nat):NdL:=ns.set n ((ns.getD n (0,[])).1,(ns.getD n (0,[])).2.set i w)
@[simp] theorem setN_len {n i w:Nat}:(setN ns n i w).length=ns.length:=by simp [setN]
theorem setN_asc (ha:ascN ns) {n i w:Nat} (hn:n<ns.length):ascN (setN ns n i w):=by
 have hk:∀ j (hj:j<(setN ns n i w).length) (hj2:j<ns.length),((setN ns n i w)[j]).1=(ns[j]).1:=fun j hj hj2=>by
  unfold setN at hj ⊢
  rw [List.getElem_set]
  split
  ·rename_i e
   subst e
   simp only
   rw [List.getD_eq_getElem?_getD,List.getElem?_eq_getElem hn];rfl
  ·rfl
 refine List.pairwise_iff_getElem.2 fun a b h1 h2 h3=>?_
 rw [hk a h1 (by simpa using h1),hk b h2 (by simpa using h2)]
 exact List.pairwise_iff_getElem.1 ha a b _ _ h3
theorem Mof_set (ha:ascN ns) {f:Int} {n i w:Nat} (hf:fnd ns f=some n):∀ g,Mof (setN ns n i w) g=updW (Mof ns) f i w g:=by
 intro g
 have hn:=fnd_lt hf
 have hi:ascN (setN ns n i w):=setN_asc ha hn
 have hfr:=fnd_frame hf
 have hmem:∀ x,x∈setN ns n i w↔x=(f,(ns.getD n (0,[])).2.set i w)∨(x∈ns∧x.1≠f):=fun x=>by
  constructor
  ·intro hx
   obtain ⟨j,hj,rfl⟩:=List.getElem_of_mem hx
   unfold setN at hj ⊢
   rw [List.getElem_set]
   split
   ·rw [hfr];exact .inl rfl
   ·rename_i e
    right
    have hj2:j<ns.length:=by simpa using hj
    refine ⟨List.getElem_mem hj2,fun e2=>e ?_⟩
    have h1:=fnd_at ha hj2
    rw [List.getD_eq_getElem?_getD,List.getElem?_eq_getElem hj2,Option.getD_some,e2,hf] at h1
    simpa using h1
  ·rintro (rfl|⟨h1,h2⟩)
   ·have:(setN ns n i w)[n]'(by simpa using hn)=(f,(ns.getD n (0,[])).2.set i w):=by
     unfold setN;rw [List.getElem_set,if_pos rfl,hfr]
    rw [← this];exact List.getElem_mem _
   ·obtain ⟨j,hj,rfl⟩:=List.getElem_of_mem h1
    have hjn:n≠j:=fun e=>h2 (by
     subst e
     rw [List.getD_eq_getElem?_getD,List.getElem?_eq_getElem hj,Option.getD_some] at hfr
     exact hfr)
    have:(setN ns n i w)[j]'(by simpa using hj)=ns[j]:=by
     unfold setN;rw [List.getElem_set,if_neg hjn]
    rw [← this];exact List.getElem_mem _
 unfold updW
 split
 ·rename_i e
  subst e
  have h1:Mof ns g=some (ns.getD n (0,[])).2:=Mof_some.2 ⟨n,hf,rfl⟩
  rw [h1]
  exact (mem_Mof hi).1 ((hmem _).2 (.inl rfl))
 ·rename_i e
  cases h:Mof ns g with
  | none =>
   refine (Mof_none hi).2 fun x hx=>?_
   rcases (hmem x).1 hx with rfl|⟨h1,h2⟩
   ·exact fun h=>e h.symm
   ·exact (Mof_none ha).1 h x h1
  | some us=>exact (mem_Mof hi).1 ((hmem _).2 (.inr ⟨(mem_Mof ha).2 h,e⟩))
end
end Go.AM
namespace Go.AM
open Go Go.Proofs
theorem nrows_take (l:List Nd) (n:Nat):(nrows l).take n=nrows (l.take n):=by simp [nrows,List.map_take]
theorem nrows_snoc (l:List Nd) (x:Nd):nrows (l++[x])=nrows l++[nrow x]:=by simp [nrows]
theorem take_succ_gn {l:List Nd} {n:Nat} (h:n<l.length):l.take (n+1)=l.take n++[gn l n]:=by
 rw [gn_eq h,List.take_add_one,List.getElem?_eq_getElem h];rfl
end Go.AM
namespace Go.AM
open Go Go.Proofs
noncomputable def FClN:List AV→Option AV:=specF (ι:={l:List Nd // nds8 l∧l.length≤1000000}) (fun x=>[.rd 9 (nrows x.1)]) fun x=>retOf [.ow 9 (nrows x.1)]
noncomputable def FClD:List AV→Option AV:=specF (ι:={l:List Dp // l.length≤1000000}) (fun x=>[.rd 2 (prows x.1)]) fun x=>retOf [.ow 2 (prows x.1)]
theorem FClN_at {l:List Nd} (h:nds8 l) (h2:l.length≤1000000):FClN [.rd 9 (nrows l)]=some (.ow 9 (nrows l)):=by
 refine specF_eq (ι:={l:List Nd // nds8 l∧l.length≤1000000}) (A:=fun x=>[.rd 9 (nrows x.1)]) (R:=fun x=>retOf [.ow 9 (nrows x.1)]) ⟨l,h,h2⟩ fun j e=>?_
 simp only [List.cons.injEq,AV.rd.injEq,true_and,nrows_inj,and_true] at e
 rw [e]
theorem FClD_at {l:List Dp} (h2:l.length≤1000000):FClD [.rd 2 (prows l)]=some (.ow 2 (prows l)):=by
 refine specF_eq (ι:={l:List Dp // l.length≤1000000}) (A:=fun x=>[.rd 2 (prows x.1)]) (R:=fun x=>retOf [.ow 2 (prows x.1)]) ⟨l,h2⟩ fun j e=>?_
 simp only [List.cons.injEq,AV.rd.injEq,true_and,prows_inj,and_true] at e
 rw [e]
theorem s104 (X:AX) (hX:XOK Tryz.prog X) (hw:X.W wT):PSound Tryz.prog 104 (specF (ι:={x:Tb // tbOK x}) (fun x=>[TbV x.1]) fun x=>retOf [.agg [I x.1.1,.ow 9 (nrows x.1.2.1),.ow 2 (prows x.1.2.2)]]):=by
 refine psound_spec hX mixed Tryz.func104 rfl fun ⟨⟨r,ns,ds⟩,ht⟩ w0 G=>⟨by show 1≤20;decide,rfl,?_⟩
 show AW ⟨Tryz.prog,X,20,w0,.pure G⟩ _ _ _
 have hc:Cx.OK ⟨Tryz.prog,X,20,w0,.pure G⟩:=⟨hX,mixed⟩
 have hl1:ns.length≤1000000:=ht.2.1
 have hl2:ds.length≤1000000:=ht.2.2
 simp only [TbV]
 have tkn:List.take ns.length (nrows ns)=nrows ns:=List.take_of_length_le (by simp)
 have tkd:List.take ds.length (prows ds)=prows ds:=List.take_of_length_le (by simp)
 refine dM64o ?_
 repeat (intro K hK)
 refine ⟨by simp,?_⟩
 simp [leaves_iff,Tryz.f104,tkn,tkd]
 try exact dt
theorem s128 (X:AX) (hX:XOK Tryz.prog X) (hw:X.W wT) (h1:X.call 184=callC FClN) (h2:X.call 185=callC FClD):PSound Tryz.prog 128 (specF (ι:={x:Tb // tbOK x}) (fun x=>[TbV x.1]) fun x=>retOf [.agg [I x.1.1,.ow 9 (nrows x.1.2.1),.ow 2 (prows x.1.2.2)]]):=by
 refine psound_spec hX mixed Tryz.func128 rfl fun ⟨⟨r,ns,ds⟩,ht⟩ w0 G=>⟨by show 1≤12;decide,rfl,?_⟩
 show AW ⟨Tryz.prog,X,12,w0,.pure G⟩ _ _ _
 have hc:Cx.OK ⟨Tryz.prog,X,12,w0,.pure G⟩:=⟨hX,mixed⟩
 have hl1:ns.length≤1000000:=ht.2.1
 have hl2:ds.length≤1000000:=ht.2.2
 simp only [TbV]
 have e1:=FClN_at (nds8_of ht) hl1
 have e2:=FClD_at hl2
 simp only at e1 e2
 have tkn:List.take ns.length (nrows ns)=nrows ns:=List.take_of_length_le (by simp)
 have tkd:List.take ds.length (prows ds)=prows ds:=List.take_of_length_le (by simp)
 have zS:=jj h1<|jj h2<|jj e1<|e2
 refine dM64 ?_
 repeat (intro K hK)
 clear zS
 refine ⟨by simp,?_⟩
 simp [leaves_iff,Tryz.f128,tkn,tkd]
 try exact dt
theorem s184 (X:AX) (hX:XOK Tryz.prog X) (hw:X.W wT):PSound Tryz.prog 184 FClN:=by
 unfold FClN
 refine psound_spec hX mixed Tryz.func184 rfl fun ⟨ns,h8,hl⟩ w0 G=>⟨by show 1≤8;decide,rfl,?_⟩
 show AW ⟨Tryz.prog,X,8,w0,.pure G⟩ _ _ _
 have hc:Cx.OK ⟨Tryz.prog,X,8,w0,.pure G⟩:=⟨hX,mixed⟩
 simp only at h8 hl ⊢
 have tkn:List.take ns.length (nrows ns)=nrows ns:=List.take_of_length_le (by simp)
 cases ns with
 | nil =>
  refine aw_cases_nil 0 9 (by simp [nrows,enterS]) ?_ fun p n=>?_
  ·refine dM64o ?_
   repeat (intro K hK)
   refine ⟨by simp,?_⟩
   simp [leaves_iff,Tryz.f184,nrows]
   try exact dt
  ·refine dM64o ?_
   repeat (intro K hK)
   refine ⟨by simp,?_⟩
   simp [leaves_iff,Tryz.f184,nrows]
   try exact dt
 | cons x ns =>
  have hl':ns.length+1≤1000000:=by simpa using hl
  obtain ⟨e,he⟩:∃ e,e=nrow x:=⟨_,rfl⟩
  obtain ⟨T,hT⟩:∃ T,T=nrows ns:=⟨_,rfl⟩
  have hc2:nrows (x::ns)=e::T:=by rw [he,hT];rfl
  have hTl:T.length=ns.length:=by rw [hT];simp
  have tk:List.take T.length T=T:=List.take_of_length_le (Nat.le_refl _)
  rw [hc2]
  clear he hT tkn
  have zS:=tk
  refine dM64 ?_
  repeat (intro K hK)
  clear zS
  refine ⟨by simp,?_⟩
  simp [leaves_iff,Tryz.f184,tk]
  try exact dt
theorem s185 (X:AX) (hX:XOK Tryz.prog X) (hw:X.W wT):PSound Tryz.prog 185 FClD:=by
 unfold FClD
 refine psound_spec hX mixed Tryz.func185 rfl fun ⟨ds,hl⟩ w0 G=>⟨by show 1≤8;decide,rfl,?_⟩
 show AW ⟨Tryz.prog,X,8,w0,.pure G⟩ _ _ _
 have hc:Cx.OK ⟨Tryz.prog,X,8,w0,.pure G⟩:=⟨hX,mixed⟩
 simp only at hl ⊢
 cases ds with
 | nil =>
  refine aw_cases_nil 0 2 (by simp [prows,enterS]) ?_ fun p n=>?_
  ·refine dM64o ?_
   repeat (intro K hK)
   refine ⟨by simp,?_⟩
   simp [leaves_iff,Tryz.f185,prows]
   try exact dt
  ·refine dM64o ?_
   repeat (intro K hK)
   refine ⟨by simp,?_⟩
   simp [leaves_iff,Tryz.f185,prows]
   try exact dt
 | cons x ds =>
  have hl':ds.length+1≤1000000:=by simpa using hl
  obtain ⟨e,he⟩:∃ e,e=[I x.1,I x.2]:=⟨_,rfl⟩
  obtain ⟨T,hT⟩:∃ T,T=prows ds:=⟨_,rfl⟩
  have hc2:prows (x::ds)=e::T:=by rw [he,hT];rfl
  have hTl:T.length=ds.length:=by rw [hT];simp
  have tk:List.take T.length T=T:=List.take_of_length_le (Nat.le_refl _)
  rw [hc2]
  clear he hT
  have zS:=tk
  refine dM64 ?_
  repeat (intro K hK)
  clear zS
  refine ⟨by simp,?_⟩
  simp [leaves_iff,Tryz.f185,tk]
  try exact dt
noncomputable def newT (r:Int):Tb×Int:=if 0≤r∧r≤4294967295 then ((r,[(r,zs8)],[]),0) else ((0,[],[]),2)
def TbO (t:Tb):AV:=.agg [I t.1,.ow 9 (nrows t.2.1),.ow 2 (prows t.2.2)]
theorem s49 (X:AX) (hX:XOK Tryz.prog X) (hw:X.W wT) (hfr:∀ x M n,X.call 126 [I x] M n=some (B (decide (0≤x∧x≤4294967295)),[])):PSound Tryz.prog 49 (specF (ι:=Int) (fun x=>[I x]) fun x=>retOf [TbO (newT x).1,I (newT x).2]):=by
 refine psound_spec hX mixed Tryz.func49 rfl fun r w0 G=>⟨by show 1≤13;decide,rfl,?_⟩
 show AW ⟨Tryz.prog,X,13,w0,.pure G⟩ _ _ _
 have hc:Cx.OK ⟨Tryz.prog,X,13,w0,.pure G⟩:=⟨hX,mixed⟩
 have hfr':=hfr r
 unfold newT TbO
 rcases Decidable.em (0≤r∧r≤4294967295) with h1|h1
 ·rw [decide_eq_true h1] at hfr'
  rw [if_pos h1]
  have zS:=hfr'
  refine dM64 ?_
  repeat (intro K hK)
  clear zS
  refine ⟨by simp,?_⟩
  simp [leaves_iff,Tryz.f49,nrows,nrow,wcs,prows,zs8,U]
  try exact dt
 ·rw [decide_eq_false h1] at hfr'
  rw [if_neg h1]
  have zS:=hfr'
  refine dM64 ?_
  repeat (intro K hK)
  clear zS
  refine ⟨by simp,?_⟩
  simp [leaves_iff,Tryz.f49,nrows,nrow,wcs,prows,zs8,U]
  try exact dt
theorem s50 (X:AX) (hX:XOK Tryz.prog X) (hw:X.W wT):PSound Tryz.prog 50 (specF (ι:=Int) (fun x=>[I x]) fun x=>retOf [TbO (newT x).1,I (newT x).2]):=by
 refine psound_spec hX mixed Tryz.func50 rfl fun r w0 G=>⟨by show 1≤16;decide,rfl,?_⟩
 show AW ⟨Tryz.prog,X,16,w0,.pure G⟩ _ _ _
 have hc:Cx.OK ⟨Tryz.prog,X,16,w0,.pure G⟩:=⟨hX,mixed⟩
 unfold newT TbO
 rcases Decidable.em (r<0) with h1|h1
 ·rw [if_neg (by omega)]
  have zS:=h1
  refine dM64 ?_
  repeat (intro K hK)
  clear zS
  refine ⟨by simp,?_⟩
  simp [leaves_iff,Tryz.f50,nrows,nrow,wcs,prows,zs8,U]
  try exact dt
 ·rcases Decidable.em (4294967295<r) with h2|h2
  ·rw [if_neg (by omega)]
   have zS:=jj h1<|h2
   refine dM64 ?_
   repeat (intro K hK)
   clear zS
   refine ⟨by simp,?_⟩
   simp [leaves_iff,Tryz.f50,nrows,nrow,wcs,prows,zs8,U]
   try exact dt
  ·rw [if_pos (by omega)]
   have zS:=jj h1<|h2
   refine dM64 ?_
   repeat (intro K hK)
   clear zS
   refine ⟨by simp,?_⟩
   simp [leaves_iff,Tryz.f50,nrows,nrow,wcs,prows,zs8,U]
   try exact dt
end Go.AM
namespace Go.AM
open Go Go.Proofs
theorem prows_append (a b:List Dp):prows a++prows b=prows (a++b):=by simp [prows]
theorem prows_drop (l:List Dp) (n:Nat):(prows l).drop n=prows (l.drop n):=by simp [prows,List.map_drop]
theorem prow_flat {l:List Dp}:(AV.ow 2 (prows l)).flat:=by
 simp only [AV.flat,AV.flatV,AV.flat1]
 intro e he a ha
 obtain ⟨x,_,rfl⟩:=List.mem_map.1 he
 simp at ha
 rcases ha with rfl|rfl<;>trivial
theorem xOvl:ExtOK Tryz.prog 218 ovlF :=
 ovl_ok (tR:=4) Tryz.func218 (by kernel_rfl) (by kernel_rfl) (by kernel_rfl) (by kernel_rfl) tyDs rfl tyD
def two2 (_:Nat):Nat:=2
theorem prows_replicate (n:Nat):List.replicate n [AV.v (.int .i64 0),AV.v (.int .i64 0)]=prows (List.replicate n (0,0)):=by simp [prows,I]
theorem nrows_replicate (n:Nat):List.replicate n [AV.v (.int .i64 0),AV.v (.int .u64 0),AV.v (.int .u64 0),AV.v (.int .u64 0),AV.v (.int .u64 0),AV.v (.int .u64 0),AV.v (.int .u64 0),AV.v (.int .u64 0),AV.v (.int .u64 0)]=nrows (List.replicate n (0,zs8)):=by
 simp only [nrows,List.map_replicate];rfl
theorem nrows_append (a b:List Nd):nrows a++nrows b=nrows (a++b):=by simp [nrows]
theorem ins_shift {α:Type} {L P S A:List α} {x:α} {i n:Nat} (hL:L=P++S) (hi:P.length=i) (hn:L.length=n) (h1:1≤A.length) (hS:i<n) :
  P++x::S=List.take (n+1) (List.take i (List.take (i+1) (L++A)++(List.take (n - i) (List.take (n+1 - i) (List.drop i (L++A)))++List.drop (i+1+(n - i)) (L++A))) ++
   (List.take 1 [x]++List.drop (i+1) (List.take (i+1) (L++A)++(List.take (n - i) (List.take (n+1 - i) (List.drop i (L++A)))++List.drop (i+1+(n - i)) (L++A))))):=by
 subst hL hi
 obtain ⟨s,S,rfl⟩:∃ s S',S=s::S':=by cases S with|nil=>simp at hn;omega|cons a b=>exact ⟨a,b,rfl⟩
 obtain ⟨a,A,rfl⟩:∃ s S',A=s::S':=by cases A with|nil=>simp at h1|cons a b=>exact ⟨a,b,rfl⟩
 subst hn
 rw [List.length_append]
 have e1:List.take (P.length+1) (P++s::S++a::A)=P++[s]:=by simp [List.take_append,List.take_of_length_le]
 have e2:List.drop P.length (P++s::S++a::A)=s::S++a::A:=by simp
 have e3:P.length+(s::S).length - P.length=(s::S).length:=by omega
 have e4:P.length+(s::S).length+1 - P.length=(s::S).length+1:=by omega
 have e5:List.take (s::S).length (List.take ((s::S).length+1) (s::S++a::A))=s::S:=by rw [List.take_take,Nat.min_eq_left (by omega)];simp
 have e6:List.drop (P.length+1+(s::S).length) (P++s::S++a::A)=A:=by
  rw [show P.length+1+(s::S).length=(P++s::S).length+1 by simp;omega,← List.drop_drop,List.drop_left];simp
 rw [e1,e2,e3,e4,e5,e6]
 have e7:List.take P.length (P++[s]++(s::S++A))=P:=by simp
 have e8:List.drop (P.length+1) (P++[s]++(s::S++A))=s::S++A:=by
  rw [show P.length+1=(P++[s]).length by simp,List.drop_left]
 rw [e7,e8]
 have e9:P++([x].take 1++(s::S++A))=(P++x::s::S)++A:=by simp
 rw [e9,show P.length+(s::S).length+1=(P++x::s::S).length by simp;omega,List.take_left]
theorem ins_grow {α:Type} {L P S Z D:List α} {x:α} {i n:Nat} (hL:L=P++S) (hi:P.length=i) (hn:L.length=n) :
  P++x::S=List.take (n+1) (List.take (i+1) (List.take i (List.take i (L++[])++Z)++(List.take 1 [x]++List.drop (i+1) (List.take i (L++[])++Z)))++(List.take (n - i) (List.take (n - i) (List.drop i (L++[])))++D)):=by
 subst hL hi hn
 rw [List.length_append]
 have e0:List.take P.length (P++S++[])=P:=by simp
 have e1:List.take P.length (P++Z)=P:=by simp
 have e2:List.take (P.length+1) (P++(List.take 1 [x]++List.drop (P.length+1) (P++Z)))=P++[x]:=by simp [List.take_append,List.take_of_length_le]
 have e4:List.take (P.length+S.length - P.length) (List.take (P.length+S.length - P.length) (List.drop P.length (P++S++[])))=S:=by
  rw [show P.length+S.length - P.length=S.length by omega];simp
 rw [e0,e1,e2,e4]
 have e3:P++[x]++(S++D)=(P++x::S)++D:=by simp
 rw [e3,show P.length+S.length+1=(P++x::S).length by simp;omega,List.take_left]
theorem s190 (X:AX) (hX:XOK Tryz.prog X) (h42:X.call 218=ovlF):MSound Tryz.prog 190 (specM (ι:={x:List Dp×Nat×Dp // x.2.1≤x.1.length∧x.1.length≤1000000}) (fun x=>.ow 2 (prows x.1.1)) (fun x=>[I x.1.2.1,.rd 2 (prows [x.1.2.2])]) (fun x=>retOf [.ow 2 (prows (x.1.1.take x.1.2.1++x.1.2.2::x.1.1.drop x.1.2.1))]) fun _=>.any):=by
 refine msound_cap_spec Tryz.func190 rfl X fun ⟨⟨l,i,x⟩,hi,hl⟩ w0 bl E m=>⟨by show 3≤95;decide,rfl,?_⟩
 simp only at hi hl
 show AW ⟨Tryz.prog,X,95,w0,⟨bl,E,1⟩⟩ _ _ _
 have hc:Cx.OK ⟨Tryz.prog,X,95,w0,⟨bl,E,1⟩⟩:=⟨hX,mixed⟩
 have hm:m=0∨1≤m:=by omega
 have hP:prows l=prows (l.take i)++prows (l.drop i):=by rw [prows_append,List.take_append_drop]
 have hR:prows (l.take i++x::l.drop i)=prows (l.take i)++[I x.1,I x.2]::prows (l.drop i):=by simp [prows]
 have hPl:(prows (l.take i)).length=i:=by simp;omega
 rcases hm with rfl|hm
 ·repeat' (first|(apply aw_seq_k;intro K hK)|(refine aw_run hc (by first|exact aw_nod|(intro _;rw [ordB_w hw];kernel_rfl)|(intro _;rw [ordB_w0 hw0];kernel_rfl)|(intro _;kernel_rfl)) ?_;simp (disch:=first|omega|assumption|(simp;done)|fail) [if_pos,if_neg,List.zipIdx,Int.ofNat_inj,h42,ovlF,wrap64];try (repeat' (refine guardQ_split (fun h=>?_) (fun h=>?_)<;>simp at h<;>simp (disch:=first|omega|assumption|(simp;done)|fail) [if_pos,if_neg,List.zipIdx,Int.ofNat_inj,h42,ovlF,wrap64])))|(refine aw_cond (b:=_) (by exact rfl) (fun h=>?_) (fun h=>?_)<;>(try simp at h))|(refine aw_block ?_)|(refine aw_skip ?_;simp only [thenQ,blockQ,if_true])|(refine aw_exit ?_;simp [thenQ,blockQ])|(refine aw_ret ?_;simp only [thenQ,blockQ])|(refine hK _ ?_;clear hK)|(clear hK;refine hK _ ?_;clear hK)|(clear hK;clear hK;refine hK _ ?_;clear hK)|(clear hK;clear hK;clear hK;refine hK _ ?_;clear hK))
  all_goals first|(exfalso;omega)|skip
  all_goals (refine ⟨by simp,leavesM_any ?_⟩;simp (disch:=first|omega|assumption|(simp;done)|fail) [if_pos,if_neg,leaves_iff,Tryz.f190])
  ·subst h
   rw [prows_append]
   simp [List.take_of_length_le]
  ·rw [hR]
   exact ins_grow hP hPl (prows_length l)
 ·repeat' (first|(apply aw_seq_k;intro K hK)|(refine aw_run hc (by first|exact aw_nod|(intro _;rw [ordB_w hw];kernel_rfl)|(intro _;rw [ordB_w0 hw0];kernel_rfl)|(intro _;kernel_rfl)) ?_;simp (disch:=first|omega|assumption|(simp;done)|fail) [if_pos,if_neg,List.zipIdx,Int.ofNat_inj,h42,ovlF,wrap64];try (repeat' (refine guardQ_split (fun h=>?_) (fun h=>?_)<;>simp at h<;>simp (disch:=first|omega|assumption|(simp;done)|fail) [if_pos,if_neg,List.zipIdx,Int.ofNat_inj,h42,ovlF,wrap64])))|(refine aw_cond (b:=_) (by exact rfl) (fun h=>?_) (fun h=>?_)<;>(try simp at h))|(refine aw_block ?_)|(refine aw_skip ?_;simp only [thenQ,blockQ,if_true])|(refine aw_exit ?_;simp [thenQ,blockQ])|(refine aw_ret ?_;simp only [thenQ,blockQ])|(refine hK _ ?_;clear hK)|(clear hK;refine hK _ ?_;clear hK)|(clear hK;clear hK;refine hK _ ?_;clear hK)|(clear hK;clear hK;clear hK;refine hK _ ?_;clear hK))
  all_goals first|(exfalso;omega)|skip
  all_goals (refine ⟨by simp,leavesM_any ?_⟩;simp (disch:=first|omega|assumption|(simp;done)|fail) [if_pos,if_neg,leaves_iff,Tryz.f190])
  ·subst h
   rw [← List.append_assoc,prows_append,List.take_append_of_le_length (by simp),List.take_of_length_le (by simp)]
   simp [List.take_of_length_le]
  ·rw [hR]
   exact ins_shift hP hPl (prows_length l) (by simpa using hm) (by omega)
theorem s192 (X:AX) (hX:XOK Tryz.prog X) (hw:X.W wT):MSound Tryz.prog 192 (specM (ι:={x:List Dp×Nat×Nat // x.2.1≤x.2.2∧x.2.2≤x.1.length∧x.1.length≤1000000}) (fun x=>.ow 2 (prows x.1.1)) (fun x=>[I x.1.2.1,I x.1.2.2]) (fun x=>retOf [.ow 2 (prows (x.1.1.take x.1.2.1++x.1.1.drop x.1.2.2))]) fun _=>.any):=by
 refine msound_spec Tryz.func192 rfl X fun ⟨⟨l,i,j⟩,hij,hj,hl⟩ w0 bl E=>⟨by show 3≤33;decide,rfl,?_⟩
 simp only at hij hj hl
 show AW ⟨Tryz.prog,X,33,w0,⟨bl,E,1⟩⟩ _ _ _
 have hc:Cx.OK ⟨Tryz.prog,X,33,w0,⟨bl,E,1⟩⟩:=⟨hX,mixed⟩
 repeat' (first|(apply aw_seq_k;intro K hK)|(refine aw_run hc (by first|exact aw_nod|(intro _;rw [ordB_w hw];kernel_rfl)|(intro _;rw [ordB_w0 hw0];kernel_rfl)|(intro _;kernel_rfl)) ?_;simp (disch:=first|omega|assumption|(simp;done)|fail) [if_pos,if_neg,List.zipIdx,Int.ofNat_inj];try (repeat' (refine guardQ_split (fun h=>?_) (fun h=>?_)<;>simp at h<;>simp (disch:=first|omega|assumption|(simp;done)|fail) [if_pos,if_neg,List.zipIdx,Int.ofNat_inj])))|(refine aw_cond (b:=_) (by exact rfl) (fun h=>?_) (fun h=>?_)<;>(try simp at h))|(refine aw_block ?_)|(refine aw_skip ?_;simp only [thenQ,blockQ,if_true])|(refine aw_exit ?_;simp [thenQ,blockQ])|(refine aw_ret ?_;simp only [thenQ,blockQ])|(refine hK _ ?_;clear hK)|(clear hK;refine hK _ ?_;clear hK)|(clear hK;clear hK;refine hK _ ?_;clear hK)|(clear hK;clear hK;clear hK;refine hK _ ?_;clear hK))
 ·refine ⟨by simp,leavesM_any ?_⟩
  simp (disch:=first|omega|assumption|(simp;done)|fail) [if_pos,if_neg,leaves_iff,Tryz.f192]
  subst h
  simp [List.take_of_length_le]
 ·refine ⟨by simp,leavesM_any ?_⟩
  simp (disch:=first|omega|assumption|(simp;done)|fail) [if_pos,if_neg,leaves_iff,Tryz.f192,prows_take,prows_drop,prows_append,prows_replicate]
  have e1:l.take i++((l.drop j).take (l.length - j)++l.drop (i+(l.length - j)))=(l.take i++l.drop j)++l.drop (i+(l.length - j)):=by
   rw [List.take_of_length_le (l:=l.drop j) (by simp),List.append_assoc]
  have e2:(l.take i++l.drop j).length=i+(l.length - j):=by simp;omega
  have key:∀ (A B C:List Dp) n,A.length=n→A=((A++B).take n++C).take n:=by
   intro A B C n h
   subst h
   simp
  rw [e1]
  exact congrArg prows (key _ _ _ _ e2)
noncomputable def FInsD:AV→List AV→Option (AV×AV):=specM (ι:={x:List Dp×Nat×Dp // x.2.1≤x.1.length∧x.1.length≤1000000}) (fun x=>.ow 2 (prows x.1.1)) (fun x=>[I x.1.2.1,.rd 2 (prows [x.1.2.2])]) (fun x=>retOf [.ow 2 (prows (x.1.1.take x.1.2.1++x.1.2.2::x.1.1.drop x.1.2.1))]) fun _=>.any
theorem FInsD_at (l:List Dp) (i:Nat) (a b:Int) (h:i≤l.length∧l.length≤1000000):FInsD (.ow 2 (prows l)) [I i,.rd 2 [[I a,I b]]]=some (.ow 2 (prows (l.take i++(a,b)::l.drop i)),.any) :=
 specM_eq (A0:=fun x:{x:List Dp×Nat×Dp // x.2.1≤x.1.length∧x.1.length≤1000000}=>AV.ow 2 (prows x.1.1)) (A:=fun x=>[I x.1.2.1,.rd 2 (prows [x.1.2.2])]) (R:=fun x=>retOf [.ow 2 (prows (x.1.1.take x.1.2.1++x.1.2.2::x.1.1.drop x.1.2.1))]) (O:=fun _=>.any) ⟨(l,i,(a,b)),h⟩ (by
  rintro ⟨⟨l',i',x'⟩,h1,h2⟩ e1 e2
  simp only [AV.ow.injEq,prows_inj,true_and] at e1
  simp only [List.cons.injEq,AV.v.injEq,Value.int.injEq,true_and,AV.rd.injEq,prows_inj,and_true,Int.ofNat_inj] at e2
  obtain ⟨rfl,rfl⟩:=e2
  subst e1
  exact ⟨rfl,rfl⟩)
noncomputable def FDelD:AV→List AV→Option (AV×AV):=specM (ι:={x:List Dp×Nat×Nat // x.2.1≤x.2.2∧x.2.2≤x.1.length∧x.1.length≤1000000}) (fun x=>.ow 2 (prows x.1.1)) (fun x=>[I x.1.2.1,I x.1.2.2]) (fun x=>retOf [.ow 2 (prows (x.1.1.take x.1.2.1++x.1.1.drop x.1.2.2))]) fun _=>.any
theorem FDelD_at (l:List Dp) (i j:Nat) (h:i≤j∧j≤l.length∧l.length≤1000000):FDelD (.ow 2 (prows l)) [I i,I j]=some (.ow 2 (prows (l.take i++l.drop j)),.any) :=
 specM_eq (A0:=fun x:{x:List Dp×Nat×Nat // x.2.1≤x.2.2∧x.2.2≤x.1.length∧x.1.length≤1000000}=>AV.ow 2 (prows x.1.1)) (A:=fun x=>[I x.1.2.1,I x.1.2.2]) (R:=fun x=>retOf [.ow 2 (prows (x.1.1.take x.1.2.1++x.1.1.drop x.1.2.2))]) (O:=fun _=>.any) ⟨(l,i,j),h⟩ (by
  rintro ⟨⟨l',i',j'⟩,h1,h2⟩ e1 e2
  simp only [AV.ow.injEq,prows_inj,true_and] at e1
  simp only [List.cons.injEq,AV.v.injEq,Value.int.injEq,true_and,and_true,Int.ofNat_inj] at e2
  obtain ⟨rfl,rfl⟩:=e2
  subst e1
  exact ⟨rfl,rfl⟩)
theorem FInsD_flat {a0:AV} {avs:List AV} {r o:AV} (h:FInsD a0 avs=some (r,o)):r.flat∧o.flatO:=by
 obtain ⟨i,_,_,h3,h4⟩:=specM_some h
 subst h3 h4
 exact ⟨prow_flat,trivial⟩
theorem FDelD_flat {a0:AV} {avs:List AV} {r o:AV} (h:FDelD a0 avs=some (r,o)):r.flat∧o.flatO:=by
 obtain ⟨i,_,_,h3,h4⟩:=specM_some h
 subst h3 h4
 exact ⟨prow_flat,trivial⟩
end Go.AM
