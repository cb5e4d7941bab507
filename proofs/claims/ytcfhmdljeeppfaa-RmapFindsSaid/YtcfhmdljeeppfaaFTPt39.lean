/- A part of the proof: what functions of the program compute, by abstract execution of their code. Its theorems hold without further condition. -/
import Derived.Test.YtcfhmdljeeppfaaFTPt30
import Derived.Shelf.SlSortFuncK.WholeK
import Derived.Test.YtcfhmdljeeppfaaFAmTa
import Derived.Test.YtcfhmdljeeppfaaFTPt8
import Derived.Test.YtcfhmdljeeppfaaFPtV
import Derived.Deep.RegionHeld3
import Derived.LoopN
import Derived.WalkKit
import Derived.Test.YtcfhmdljeeppfaaFAmZa
import Derived.Test.YtcfhmdljeeppfaaFAmG2
import Derived.Shelf.Sort.Plain
import Derived.Shelf.Slices.In.SortNone
set_option linter.all false
namespace Go.AM
open Go Go.Proofs
noncomputable def FClN:List AV→Option AV:=specF (ι:={l:List Nd // nds8 l∧l.length≤1000000}) (fun x=>[.rd 9 (nrows x.1)]) fun x=>retOf [.ow 9 (nrows x.1)]
noncomputable def FClD:List AV→Option AV:=specF (ι:={l:List Dp // l.length≤1000000}) (fun x=>[.rd 2 (prows x.1)]) fun x=>retOf [.ow 2 (prows x.1)]
theorem FClN_at {l:List Nd} (h:nds8 l) (h2:l.length≤1000000):FClN [.rd 9 (nrows l)]=some (.ow 9 (nrows l)):=by
 refine specF_eq (ι:={l:List Nd // nds8 l∧l.length≤1000000}) (A:=fun x=>[.rd 9 (nrows x.1)]) (R:=fun x=>retOf [.ow 9 (nrows x.1)]) ⟨l,h,h2⟩ fun j e=>?_
 simp only [List.cons.injEq,AV.rd.injEq,true_and,nrows_inj,and_true] at e
 rw [e]
theorem FClD_at {l:List Dp} (h2:l.length≤1000000):FClD [.rd 2 (prows l)]=some (.ow 2 (prows l)):=by
 refine specF_eq (ι:={l:List Dp // l.length≤1000000}) (A:=fun x=>[.rd 2 (prows x.1)]) (R:=fun x=>retOf [.ow 2 (prows x.1)]) ⟨l,h2⟩ fun j e=>?_
 simp only [List.cons.injEq,AV.rd.injEq,true_and,prows_inj,and_true] at e
 rw [e]
theorem s51 (X:AX) (hX:XOK Try.prog X) (hw:X.W wT):PSound Try.prog 51 (specF (ι:={x:Tb // tbOK x}) (fun x=>[TbV x.1]) fun x=>retOf [.agg [I x.1.1,.ow 9 (nrows x.1.2.1),.ow 2 (prows x.1.2.2)]]):=by
 refine psound_spec hX mixed Try.func51 rfl fun ⟨⟨r,ns,ds⟩,ht⟩ w0 G=>⟨by show 1≤20;decide,rfl,?_⟩
 show AW ⟨Try.prog,X,20,w0,.pure G⟩ _ _ _
 have hc:Cx.OK ⟨Try.prog,X,20,w0,.pure G⟩:=⟨hX,mixed⟩
 have hl1:ns.length≤1000000:=ht.2.1
 have hl2:ds.length≤1000000:=ht.2.2
 simp only [TbV]
 have tkn:List.take ns.length (nrows ns)=nrows ns:=List.take_of_length_le (by simp)
 have tkd:List.take ds.length (prows ds)=prows ds:=List.take_of_length_le (by simp)
 refine dM64o ?_
 repeat (intro K hK)
 refine ⟨by simp,?_⟩
 simp [leaves_iff,Try.f51,tkn,tkd]
 try exact dt
theorem s105 (X:AX) (hX:XOK Try.prog X) (hw:X.W wT) (h1:X.call 136=callC FClN) (h2:X.call 137=callC FClD):PSound Try.prog 105 (specF (ι:={x:Tb // tbOK x}) (fun x=>[TbV x.1]) fun x=>retOf [.agg [I x.1.1,.ow 9 (nrows x.1.2.1),.ow 2 (prows x.1.2.2)]]):=by
 refine psound_spec hX mixed Try.func105 rfl fun ⟨⟨r,ns,ds⟩,ht⟩ w0 G=>⟨by show 1≤12;decide,rfl,?_⟩
 show AW ⟨Try.prog,X,12,w0,.pure G⟩ _ _ _
 have hc:Cx.OK ⟨Try.prog,X,12,w0,.pure G⟩:=⟨hX,mixed⟩
 have hl1:ns.length≤1000000:=ht.2.1
 have hl2:ds.length≤1000000:=ht.2.2
 simp only [TbV]
 have e1:=FClN_at (nds8_of ht) hl1
 have e2:=FClD_at hl2
 simp only at e1 e2
 have tkn:List.take ns.length (nrows ns)=nrows ns:=List.take_of_length_le (by simp)
 have tkd:List.take ds.length (prows ds)=prows ds:=List.take_of_length_le (by simp)
 have zS:=jj h1<|jj h2<|jj e1<|e2
 refine dM64 ?_
 repeat (intro K hK)
 clear zS
 refine ⟨by simp,?_⟩
 simp [leaves_iff,Try.f105,tkn,tkd]
 try exact dt
theorem s136 (X:AX) (hX:XOK Try.prog X) (hw:X.W wT):PSound Try.prog 136 FClN:=by
 unfold FClN
 refine psound_spec hX mixed Try.func136 rfl fun ⟨ns,h8,hl⟩ w0 G=>⟨by show 1≤8;decide,rfl,?_⟩
 show AW ⟨Try.prog,X,8,w0,.pure G⟩ _ _ _
 have hc:Cx.OK ⟨Try.prog,X,8,w0,.pure G⟩:=⟨hX,mixed⟩
 simp only at h8 hl ⊢
 have tkn:List.take ns.length (nrows ns)=nrows ns:=List.take_of_length_le (by simp)
 cases ns with
 | nil =>
  refine aw_cases_nil 0 9 (by simp [nrows,enterS]) ?_ fun p n=>?_
  ·refine dM64o ?_
   repeat (intro K hK)
   refine ⟨by simp,?_⟩
   simp [leaves_iff,Try.f136,nrows]
   try exact dt
  ·refine dM64o ?_
   repeat (intro K hK)
   refine ⟨by simp,?_⟩
   simp [leaves_iff,Try.f136,nrows]
   try exact dt
 | cons x ns =>
  have hl':ns.length+1≤1000000:=by simpa using hl
  obtain ⟨e,he⟩:∃ e,e=nrow x:=⟨_,rfl⟩
  obtain ⟨T,hT⟩:∃ T,T=nrows ns:=⟨_,rfl⟩
  have hc2:nrows (x::ns)=e::T:=by rw [he,hT];rfl
  have hTl:T.length=ns.length:=by rw [hT];simp
  have tk:List.take T.length T=T:=List.take_of_length_le (Nat.le_refl _)
  rw [hc2]
  clear he hT tkn
  have zS:=tk
  refine dM64 ?_
  repeat (intro K hK)
  clear zS
  refine ⟨by simp,?_⟩
  simp [leaves_iff,Try.f136,tk]
  try exact dt
theorem s137 (X:AX) (hX:XOK Try.prog X) (hw:X.W wT):PSound Try.prog 137 FClD:=by
 unfold FClD
 refine psound_spec hX mixed Try.func137 rfl fun ⟨ds,hl⟩ w0 G=>⟨by show 1≤8;decide,rfl,?_⟩
 show AW ⟨Try.prog,X,8,w0,.pure G⟩ _ _ _
 have hc:Cx.OK ⟨Try.prog,X,8,w0,.pure G⟩:=⟨hX,mixed⟩
 simp only at hl ⊢
 cases ds with
 | nil =>
  refine aw_cases_nil 0 2 (by simp [prows,enterS]) ?_ fun p n=>?_
  ·refine dM64o ?_
   repeat (intro K hK)
   refine ⟨by simp,?_⟩
   simp [leaves_iff,Try.f137,prows]
   try exact dt
  ·refine dM64o ?_
   repeat (intro K hK)
   refine ⟨by simp,?_⟩
   simp [leaves_iff,Try.f137,prows]
   try exact dt
 | cons x ds =>
  have hl':ds.length+1≤1000000:=by simpa using hl
  obtain ⟨e,he⟩:∃ e,e=[I x.1,I x.2]:=⟨_,rfl⟩
  obtain ⟨T,hT⟩:∃ T,T=prows ds:=⟨_,rfl⟩
  have hc2:prows (x::ds)=e::T:=by rw [he,hT];rfl
  have hTl:T.length=ds.length:=by rw [hT];simp
  have tk:List.take T.length T=T:=List.take_of_length_le (Nat.le_refl _)
  rw [hc2]
  clear he hT
  have zS:=tk
  refine dM64 ?_
  repeat (intro K hK)
  clear zS
  refine ⟨by simp,?_⟩
  simp [leaves_iff,Try.f137,tk]
  try exact dt
def TbO (t:Tb):AV:=.agg [I t.1,.ow 9 (nrows t.2.1),.ow 2 (prows t.2.2)]
end Go.AM
namespace Go.AM
open Go Go.Proofs
theorem prows_append (a b:List Dp):prows a++prows b=prows (a++b):=by simp [prows]
theorem prow_flat {l:List Dp}:(AV.ow 2 (prows l)).flat:=by
 simp only [AV.flat,AV.flatV,AV.flat1]
 intro e he a ha
 obtain ⟨x,_,rfl⟩:=List.mem_map.1 he
 simp at ha
 rcases ha with rfl|rfl<;>trivial
def two2 (_:Nat):Nat:=2
theorem ins_shift {α:Type} {L P S A:List α} {x:α} {i n:Nat} (hL:L=P++S) (hi:P.length=i) (hn:L.length=n) (h1:1≤A.length) (hS:i<n) :
  P++x::S=List.take (n+1) (List.take i (List.take (i+1) (L++A)++(List.take (n - i) (List.take (n+1 - i) (List.drop i (L++A)))++List.drop (i+1+(n - i)) (L++A))) ++
   (List.take 1 [x]++List.drop (i+1) (List.take (i+1) (L++A)++(List.take (n - i) (List.take (n+1 - i) (List.drop i (L++A)))++List.drop (i+1+(n - i)) (L++A))))):=by
 subst hL hi
 obtain ⟨s,S,rfl⟩:∃ s S',S=s::S':=by cases S with|nil=>simp at hn;omega|cons a b=>exact ⟨a,b,rfl⟩
 obtain ⟨a,A,rfl⟩:∃ s S',A=s::S':=by cases A with|nil=>simp at h1|cons a b=>exact ⟨a,b,rfl⟩
 subst hn
 rw [List.length_append]
 have e1:List.take (P.length+1) (P++s::S++a::A)=P++[s]:=by simp [List.take_append,List.take_of_length_le]
 have e2:List.drop P.length (P++s::S++a::A)=s::S++a::A:=by simp
 have e3:P.length+(s::S).length - P.length=(s::S).length:=by omega
 have e4:P.length+(s::S).length+1 - P.length=(s::S).length+1:=by omega
 have e5:List.take (s::S).length (List.take ((s::S).length+1) (s::S++a::A))=s::S:=by rw [List.take_take,Nat.min_eq_left (by omega)];simp
 have e6:List.drop (P.length+1+(s::S).length) (P++s::S++a::A)=A:=by
  rw [show P.length+1+(s::S).length=(P++s::S).length+1 by simp;omega,← List.drop_drop,List.drop_left];simp
 rw [e1,e2,e3,e4,e5,e6]
 have e7:List.take P.length (P++[s]++(s::S++A))=P:=by simp
 have e8:List.drop (P.length+1) (P++[s]++(s::S++A))=s::S++A:=by
  rw [show P.length+1=(P++[s]).length by simp,List.drop_left]
 rw [e7,e8]
 have e9:P++([x].take 1++(s::S++A))=(P++x::s::S)++A:=by simp
 rw [e9,show P.length+(s::S).length+1=(P++x::s::S).length by simp;omega,List.take_left]
theorem ins_grow {α:Type} {L P S Z D:List α} {x:α} {i n:Nat} (hL:L=P++S) (hi:P.length=i) (hn:L.length=n) :
  P++x::S=List.take (n+1) (List.take (i+1) (List.take i (List.take i (L++[])++Z)++(List.take 1 [x]++List.drop (i+1) (List.take i (L++[])++Z)))++(List.take (n - i) (List.take (n - i) (List.drop i (L++[])))++D)):=by
 subst hL hi hn
 rw [List.length_append]
 have e0:List.take P.length (P++S++[])=P:=by simp
 have e1:List.take P.length (P++Z)=P:=by simp
 have e2:List.take (P.length+1) (P++(List.take 1 [x]++List.drop (P.length+1) (P++Z)))=P++[x]:=by simp [List.take_append,List.take_of_length_le]
 have e4:List.take (P.length+S.length - P.length) (List.take (P.length+S.length - P.length) (List.drop P.length (P++S++[])))=S:=by
  rw [show P.length+S.length - P.length=S.length by omega];simp
 rw [e0,e1,e2,e4]
 have e3:P++[x]++(S++D)=(P++x::S)++D:=by simp
 rw [e3,show P.length+S.length+1=(P++x::S).length by simp;omega,List.take_left]
noncomputable def FInsD:AV→List AV→Option (AV×AV):=specM (ι:={x:List Dp×Nat×Dp // x.2.1≤x.1.length∧x.1.length≤1000000}) (fun x=>.ow 2 (prows x.1.1)) (fun x=>[I x.1.2.1,.rd 2 (prows [x.1.2.2])]) (fun x=>retOf [.ow 2 (prows (x.1.1.take x.1.2.1++x.1.2.2::x.1.1.drop x.1.2.1))]) fun _=>.any
theorem FInsD_at (l:List Dp) (i:Nat) (a b:Int) (h:i≤l.length∧l.length≤1000000):FInsD (.ow 2 (prows l)) [I i,.rd 2 [[I a,I b]]]=some (.ow 2 (prows (l.take i++(a,b)::l.drop i)),.any) :=
 specM_eq (A0:=fun x:{x:List Dp×Nat×Dp // x.2.1≤x.1.length∧x.1.length≤1000000}=>AV.ow 2 (prows x.1.1)) (A:=fun x=>[I x.1.2.1,.rd 2 (prows [x.1.2.2])]) (R:=fun x=>retOf [.ow 2 (prows (x.1.1.take x.1.2.1++x.1.2.2::x.1.1.drop x.1.2.1))]) (O:=fun _=>.any) ⟨(l,i,(a,b)),h⟩ (by
  rintro ⟨⟨l',i',x'⟩,h1,h2⟩ e1 e2
  simp only [AV.ow.injEq,prows_inj,true_and] at e1
  simp only [List.cons.injEq,AV.v.injEq,Value.int.injEq,true_and,AV.rd.injEq,prows_inj,and_true,Int.ofNat_inj] at e2
  obtain ⟨rfl,rfl⟩:=e2
  subst e1
  exact ⟨rfl,rfl⟩)
end Go.AM
namespace Go.AM
open Go Go.Proofs
def pMs (t:Tb) (v v2:Nat):List AO:=[.box [I t.1,.sl 1 v 9 0 t.2.1.length,.sl 2 v2 2 0 t.2.2.length],.vec v 9 false (nrows t.2.1),.vec v2 2 false (prows t.2.2)]
theorem pMs_inj {t t':Tb} {v v2:Nat} (h:pMs t v v2=pMs t' v v2):t=t':=by
 obtain ⟨r,ns,ds⟩:=t
 obtain ⟨r',ns',ds'⟩:=t'
 simp only [pMs,List.cons.injEq,AO.box.injEq,I,AV.v.injEq,Value.int.injEq,true_and,AO.vec.injEq,nrows_inj,prows_inj,and_true] at h
 obtain ⟨⟨h1,_⟩,h2,h3⟩:=h
 rw [h1,h2,h3]
def OwnR (X:AX) (f:FuncId) (D:Tb→Int→Prop) (R:Tb→Int→AV):Prop :=
 ∀ (r:Int) (ns:List Nd) (ds:List Dp) (x:Int),D (r,ns,ds) x→∀ (a va b vb:Nat) (f1 f2:Bool) (M:Nat→AO) (n:Nat),M a=.vec va 9 f1 (nrows ns)→M b=.vec vb 2 f2 (prows ds)→X.call f [.agg [I r,.sl a va 9 0 ns.length,.sl b vb 2 0 ds.length],I x] M n=some (R (r,ns,ds) x,[])
theorem nrows_setN {ns:List Nd} {n i w:Nat} (hn:n<ns.length):(nrows ns).set n (I (gn ns n).1::(wcs (gn ns n).2).set i (U w))=nrows (setN ns n i w):=by
 have:wcs ((gn ns n).2.set i w)=(wcs (gn ns n).2).set i (U w):=by simp [wcs,List.map_set]
 rw [← this]
 show (nrows ns).set n (nrow ((gn ns n).1,(gn ns n).2.set i w))=_
 unfold setN nrows
 rw [List.map_set]
 rfl
def putT (t:Tb) (p w:Nat):Tb:=(t.1,setN t.2.1 (lsT t p).1 (dgt p (lsT t p).2.1) w,t.2.2)
abbrev PuD:=Tb×Nat×Nat
noncomputable def puS:List AV→List AO→Option (AV×List AO):=specG (ι:={x:PuD // ptO x.1 x.2.1∧x.2.2<2^64}) (fun x=>[.bp 0 0,I x.1.2.1,U x.1.2.2]) (fun x=>pMs x.1.1 1 1) (fun x=>.tup []) fun x=>pMs (putT x.1.1 x.1.2.1 x.1.2.2) 1 1
theorem puS_at {t:Tb} {p w:Nat} (h:ptO t p) (hw:w<2^64):puS [.bp 0 0,I p,U w] (pMs t 1 1)=some (.tup [],pMs (putT t p w) 1 1):=by
 refine specG_eq (ι:={x:PuD // ptO x.1 x.2.1∧x.2.2<2^64}) (A:=fun x=>[.bp 0 0,I x.1.2.1,U x.1.2.2]) (M:=fun x=>pMs x.1.1 1 1) (R:=fun x=>.tup []) (O:=fun x=>pMs (putT x.1.1 x.1.2.1 x.1.2.2) 1 1) ⟨(t,p,w),h,hw⟩ fun j hA hM=>?_
 obtain ⟨⟨t',p',w'⟩,h'⟩:=j
 have e:=pMs_inj hM
 simp only at e
 subst e
 simp only [List.cons.injEq,I,U,AV.v.injEq,Value.int.injEq,true_and,and_true] at hA
 have e1:p'=p:=by omega
 have e2:w'=w:=by omega
 subst e1 e2
 exact ⟨rfl,rfl⟩
set_option maxHeartbeats 4000000 in
theorem s106 (X:AX) (hX:XOK Try.prog X) (hw:X.W wT) (hla:OwnR X 72 (fun t x=>0≤x∧ptO t x.toNat) fun t x=>stV (lsT t x.toNat)) (hdg:∀ (p l:Nat),p<512→l≤2→∀ M n,X.call 138 [I p,I l] M n=some (I (dgt p l),[])):GSound Try.prog 106 puS:=by
 unfold puS
 refine gsound_spec Try.func106 rfl X fun ⟨⟨⟨r,ns,ds⟩,p,w⟩,hpt,hw64⟩ w0 L E=>⟨by show 3≤26;decide,?_⟩
 simp only at hw64
 have hp:p<512:=hpt.2.2.1
 have hla':=hla r ns ds p ⟨by omega,hpt⟩
 obtain ⟨hlt1,hlt2⟩:(lsT (r,ns,ds) p).1<ns.length∧(lsT (r,ns,ds) p).2.1≤2:=by
  obtain ⟨_,_,_,⟨rt,hrt⟩,_⟩:=hpt
  exact lst_lt (by unfold rtN;rw [hrt];exact fnd_lt hrt)
 have ht:=hpt.1
 have hl1:ns.length≤1000000:=ht.2.1
 have hl2:ds.length≤1000000:=ht.2.2
 have hR:putT (r,ns,ds) p w=(r,setN ns (lsT (r,ns,ds) p).1 (dgt p (lsT (r,ns,ds) p).2.1) w,ds):=rfl
 obtain ⟨⟨a,b,c⟩,hS⟩:∃ S,S=lsT (r,ns,ds) p:=⟨_,rfl⟩
 simp only [Int.toNat_natCast] at hla'
 rw [← hS] at hla' hlt1 hlt2 hR
 simp only at hla' hlt1 hlt2 hR
 have hdg':=hdg p b hp hlt2
 have hdl:=dgt_lt p b
 have haN:(a:Int)<(ns.length:Int):=by omega
 have hgn:=nrows_gi hlt1
 have hgnE:=nrows_gE hlt1
 have h8:(gn ns a).2.length=8:=(ht.1 _ (gn_mem hlt1)).1
 have hset:=@nrows_setN ns a (dgt p b) w hlt1
 have hwl:(wcs (gn ns a).2).length=8:=by simp [h8]
 obtain ⟨NS,hNS⟩:∃ NS,NS=setN ns a (dgt p b) w:=⟨_,rfl⟩
 have hNl:NS.length=ns.length:=by rw [hNS];simp
 rw [← hNS] at hset hR
 obtain ⟨⟨fr,ws⟩,hm⟩:∃ m,m=gn ns a:=⟨_,rfl⟩
 rw [← hm] at hgn hgnE hwl hset
 simp only at hgn hgnE hwl hset
 obtain ⟨cs,hcs⟩:∃ cs,cs=wcs ws:=⟨_,rfl⟩
 rw [← hcs] at hgn hgnE hwl hset
 obtain ⟨dg,hdg0⟩:∃ dg,dg=dgt p b:=⟨_,rfl⟩
 rw [← hdg0] at hdl hdg' hset
 have hdI:(dg:Int)<8:=by omega
 clear hcs hm h8 hS
 simp only [pMs,hR,hNl,stV,srow,U] at hla' hset ⊢
 show AW ⟨Try.prog,X,26,w0,⟨L,E,3⟩⟩ _ _ _
 have hc:Cx.OK ⟨Try.prog,X,26,w0,⟨L,E,3⟩⟩:=⟨hX,mixed⟩
 have zS:=jj hla'<|jj hdg'<|jj hlt1<|jj haN<|jj hgn<|jj hgnE<|jj hwl<|jj hdl<|jj hdI<|hset
 refine dM64 ?_
 repeat (intro K hK)
 clear zS
 refine ⟨[],rfl,?_⟩
 have hs1:(I fr::cs).set (1+dg) (AV.v (.int .u64 w))=I fr::cs.set dg (AV.v (.int .u64 w)):=by rw [Nat.add_comm];rfl
 rw [hs1,hset]
 simp only [idx]
 exact dle
end Go.AM
namespace Go.AM
open Go Go.Proofs
set_option maxHeartbeats 2000000 in
set_option maxRecDepth 4000 in
theorem callPu {a b c:Nat} (hab:a≠b) (hac:a≠c) (hbc:b≠c) {r:Int} {ns:NdL} {ds:List Dp} {p w:Nat} (h:ptO (r,ns,ds) p) (hw:w<2^64) {v v2:Nat} (M:Nat→AO) (nid:Nat)
  (h0:M a=.box [I r,.sl b (v+1) 9 0 ns.length,.sl c (v2+1) 2 0 ds.length]) (h1:M b=.vec (v+1) 9 false (nrows ns)) (h2:M c=.vec (v2+1) 2 false (prows ds)) :
  callG puS [.bp a 0,I p,U w] M nid=some (.tup [],[(a,.box [I r,.sl b (v+1) 9 0 ns.length,.sl c (v2+1) 2 0 ds.length]),(b,.vec (v+1) 9 false (nrows (putT (r,ns,ds) p w).2.1)),(c,.vec (v2+1) 2 false (prows ds))]):=by
 have hF:=puS_at h hw
 have e0:putT (r,ns,ds) p w=(r,(putT (r,ns,ds) p w).2.1,ds):=rfl
 have hil:(putT (r,ns,ds) p w).2.1.length=ns.length:=setN_len
 rw [e0] at hF
 simp only [pMs,hil,U] at hF
 unfold callG U
 have hba:b≠a:=fun e=>hab e.symm
 have hca:c≠a:=fun e=>hac e.symm
 have hcb:c≠b:=fun e=>hbc e.symm
 have hg:gat M 64 (nmsL [.bp a 0,I p,.v (.int .u64 w)]) []=[a,b,c]:=by
  simp [gat,nmsL,AV.nms,AO.nms,h0,h1,h2,hab,hac,hbc,hba,hca,hcb]
 simp only [hg]
 rw [if_pos ?cg]
 case cg=>simp [CallG,nmsL,AV.nms,AO.nms,Led,curBL,AV.curB,AO.curB,verOf,notDead,h0,h1,h2,hab,hac,hbc,hba,hca,hcb]
 have e1:1+v=v+1:=by omega
 have e2:1+v2=v2+1:=by omega
 simp [renL,AV.ren,AO.ren,posN,canO,nmsL,h0,h1,h2,hF,RetG,getL,AV.nms,AO.nms,updN,nmN,shN,verOf,rng,Led,hab,hac,hbc,hba,hca,hcb,e1,e2]
theorem setN_ok {ns:NdL} {n i w:Nat} (h:∀ x∈ns,ndOK x) (hw:w<2^64) (hn:n<ns.length):∀ x∈setN ns n i w,ndOK x:=fun x hx=>by
 rcases List.mem_or_eq_of_mem_set hx with h1|h1
 ·exact h x h1
 ·rw [h1]
  have hm:=h _ (gn_mem hn)
  refine ⟨by simp only [List.length_set];exact hm.1,fun y hy=>?_⟩
  rcases List.mem_or_eq_of_mem_set hy with h2|h2
  ·exact hm.2 y h2
  ·rw [h2];exact hw
end Go.AM
namespace Go.AM
open Go Go.Proofs
def orG (F G:List AV→List AO→Option (AV×List AO)) (avs:List AV) (ms:List AO):Option (AV×List AO):=match F avs ms with
 | some r=>some r
 | none=>G avs ms
theorem GSound.or {P:Program} {f:FuncId} {F G:List AV→List AO→Option (AV×List AO)} (h1:GSound P f F) (h2:GSound P f G):GSound P f (orG F G):=fun w l E args avs ms r ms' h=>by
 unfold orG at h
 cases hf:F avs ms with
 | some x=>rw [hf] at h;exact h1 w l E args avs ms r ms' (hf.trans h)
 | none=>rw [hf] at h;exact h2 w l E args avs ms r ms' h
end Go.AM
namespace Go.AM
open Go Go.Proofs
theorem decR_0:decR 0=(zE,0):=by rfl
theorem kind0 {l w:Nat} (h:okWb l w=true):(decR w).1.1=0↔w=0:=by
 constructor
 ·intro h0
  unfold okWb at h
  simp only [Bool.and_eq_true,decide_eq_true_eq] at h
  by_cases he:encR (prs w)=((w:Int),0)
  ·rw [decR_z he] at h0
   simp only at h0
   by_cases hb:badF (prs w)
   ·rw [encR_f (by rw [h0];decide) hb] at he;simp at he
   ·cases hf:frmE (prs w) with
    | false=>rw [encR_m (by rw [h0];decide) hb hf] at he;simp at he
    | true =>
     rw [encR_z (by rw [h0];decide) hb hf] at he
     simp only [Prod.mk.injEq,and_true] at he
     unfold frmE noFl at hf
     rw [if_neg (by rw [h0];decide),if_neg (by rw [h0];decide),if_pos h0] at hf
     simp only [Bool.and_eq_true,decide_eq_true_eq,Bool.not_eq_true'] at hf
     unfold encW fb at he
     rw [h0,hf.1,hf.2.1,hf.2.2.1,hf.2.2.2.1,hf.2.2.2.2] at he
     simp at he
     omega
  ·rw [decR_n he] at h
   simp at h
 ·rintro rfl
  rw [decR_0];rfl
section
variable {M:Mm} {root:Int} {p:Nat}
theorem dgt2 (hp:p<512):dgt p 2=p/64:=by unfold dgt;simp;omega
theorem dgt1:dgt p 1=p/8%8:=by unfold dgt;simp
theorem dgt0:dgt p 0=p%8:=by unfold dgt;simp
theorem wlk_at (hV:VM WA M root) (hp:p<512) {f:Int} {l w:Nat} (h:wlk M root p=(f,l,w)) :
  l≤2∧(2 - l,p/8^(l+1))∈Pos∧frP WA M root (2 - l) (p/8^(l+1))=some f∧w=wM M f (dgt p l)∧tabW w=none∧okWb l w=true:=by
 have hok:∀ d q,(d,q)∈Pos→∀ f,frP WA M root d q=some f→∀ i,i<8→okWb (2 - d) (wM M f i)=true:=fun d q hx f hf i hi=>by
  obtain ⟨ws,h1,_,h3⟩:=hV.nd d q hx f hf
  unfold wM;rw [h1];exact h3 i hi
 have f1:frP WA M root 1 (p/64)=tabW (wM M root (p/64)):=by
  simp only [frP,Option.bind_some]
  rw [show p/64%8=p/64 by omega]
  rfl
 have f2:frP WA M root 2 (p/8)=(frP WA M root 1 (p/64)).bind fun f=>tabW (wM M f (p/8%8)):=by
  show (frP WA M root 1 (p/8/8)).bind _=_
  rw [show p/8/8=p/64 by omega]
  rfl
 unfold wlk at h
 cases h2:frP WA M root 2 (p/8) with
 | some g =>
  rw [h2] at h
  simp only [Prod.mk.injEq] at h
  obtain ⟨rfl,rfl,rfl⟩:=h
  have hx:=Pos2 (q:=p/8) (by omega)
  have ho:=hok 2 _ hx _ h2 (p%8) (by omega)
  refine ⟨by omega,by simpa using hx,by simpa using h2,by rw [dgt0],?_,ho⟩
  exact (WD_ok fun _=>true).flat _ ho
 | none =>
  rw [h2] at h f2
  simp only at h
  cases h1:frP WA M root 1 (p/64) with
  | some g =>
   rw [h1] at h f2
   simp only [Prod.mk.injEq] at h
   obtain ⟨rfl,rfl,rfl⟩:=h
   have hx:=Pos1 (q:=p/64) (by omega)
   have ho:=hok 1 _ hx _ h1 (p/8%8) (by omega)
   exact ⟨by omega,by simpa using hx,by simpa using h1,by rw [dgt1],f2.symm,ho⟩
  | none =>
   rw [h1] at h f1
   simp only [Prod.mk.injEq] at h
   obtain ⟨rfl,rfl,rfl⟩:=h
   have ho:=hok 0 0 Pos0 _ rfl (p/64) (by omega)
   refine ⟨by omega,by simp;rw [show p/512=0 by omega];exact Pos0,by simp [frP],by rw [dgt2 hp],f1.symm,ho⟩
theorem wlk_of (hp:p<512) {f:Int} {l:Nat} (hl:l≤2) (h:frP WA M root (2 - l) (p/8^(l+1))=some f) (h2:tabW (wM M f (dgt p l))=none∨l=0):wlk M root p=(f,l,wM M f (dgt p l)):=by
 have f2:frP WA M root 2 (p/8)=(frP WA M root 1 (p/64)).bind fun f=>tabW (wM M f (p/8%8)):=by
  show (frP WA M root 1 (p/8/8)).bind _=_
  rw [show p/8/8=p/64 by omega]
  rfl
 have f1:frP WA M root 1 (p/64)=tabW (wM M root (p/64)):=by
  simp only [frP,Option.bind_some]
  rw [show p/64%8=p/64 by omega]
  rfl
 unfold wlk
 rcases (by omega:l=0∨l=1∨l=2) with rfl|rfl|rfl
 ·simp at h
  rw [h];simp [dgt0]
 ·simp at h
  rw [dgt1] at h2
  have h2:=h2.resolve_right (by omega)
  rw [h,Option.bind_some,h2] at f2
  rw [f2,h];simp [dgt1]
 ·simp [frP] at h
  subst h
  rw [dgt2 hp] at h2
  have h2:=h2.resolve_right (by omega)
  rw [h2] at f1
  rw [f1] at f2
  rw [f2,f1];simp [dgt2 hp]
end
theorem Mof_ext {a b:Mm} (h:∀ g,a g=b g):a=b:=funext h
end Go.AM
namespace Go.AM
open Go Go.Proofs
def TbC (t:Tb) (n:Nat):AV:=.agg [I t.1,.sl n 1 9 0 t.2.1.length,.sl (n+1) 1 2 0 t.2.2.length]
def zT:Tb:=(0,[],[])
theorem ckd_pt {t:Tb} (ht:tbOK t) {n lim:Int} (h:¬ ckd t n lim≠0):Pv t∧0≤n∧n<lim:=by
 rcases ckd_cases t n lim with h1|h1
 ·exact absurd h1 h
 ·exact ⟨chk_pv ht h1.2.1,h1.2.2⟩
end Go.AM
namespace Go.AM
open Go Go.Proofs
theorem decR_rng (w:Nat):0≤(decR w).1.2.1∧(decR w).1.2.1≤4294967295:=by
 unfold decR
 split
 ·exact (prs_rng w).2
 ·decide
end Go.AM
namespace Go.AM
open Go Go.Proofs
theorem Pv.put {r:Int} {ns:NdL} {ds:List Dp} (h:Pv (r,ns,ds)) (ht:tbOK (r,ns,ds)) {p:Nat} (hp:p<512) {f:Int} {l w0 w:Nat} (hw:wlk (Mof ns) r p=(f,l,w0)) (hw64:w<2^64) (htb:tabW w=none) (hok:okWb l w=true) :
  Pv (r,(putT (r,ns,ds) p w).2.1,ds)∧tbOK (r,(putT (r,ns,ds) p w).2.1,ds)∧Mof (putT (r,ns,ds) p w).2.1=updW (Mof ns) f (dgt p l) w∧(∀ d q,(d,q)∈Pos→frP WA (Mof (putT (r,ns,ds) p w).2.1) r d q=frP WA (Mof ns) r d q)∧(putT (r,ns,ds) p w).2.1.length=ns.length:=by
 obtain ⟨hl2,hx,hfp,hwm,htn,_⟩:=wlk_at h.vm hp hw
 simp only at hfp hwm hx
 have hwk:=h.walk hp
 simp only at hwk
 have hfn:=hwk.2.1
 have hlv:=hwk.2.2
 rw [hw] at hfn hlv
 simp only at hfn hlv
 have hnl:(lsT (r,ns,ds) p).1<ns.length:=fnd_lt hfn
 have hst:(putT (r,ns,ds) p w).2.1=setN ns (lsT (r,ns,ds) p).1 (dgt p l) w:=by unfold putT;simp only [hlv]
 have hM:Mof (putT (r,ns,ds) p w).2.1=updW (Mof ns) f (dgt p l) w:=by rw [hst];exact Mof_ext (Mof_set h.asc hfn)
 have hpt:=h.vm.put hx hfp (i:=dgt p l) (w:=w) (dgt_lt p l) (by show tabW w=tabW _;rw [← hwm,htb,htn]) (by show okWb (2 - (2 - l)) w=true;rw [show 2 - (2 - l)=l by omega];exact hok)
 simp only at hpt
 rw [← hM] at hpt
 refine ⟨⟨by show ascN (putT (r,ns,ds) p w).2.1;rw [hst];exact setN_asc h.asc hnl,hpt.1⟩,⟨?_,?_,ht.2.2⟩,hM,hpt.2,by rw [hst,setN_len]⟩
 ·show ∀ x∈(putT (r,ns,ds) p w).2.1,ndOK x
  rw [hst];exact setN_ok ht.1 hw64 hnl
 ·show (putT (r,ns,ds) p w).2.1.length≤_
  rw [hst,setN_len];exact ht.2.1
end Go.AM
namespace Go.AM
open Go Go.Proofs
set_option maxRecDepth 20000
theorem sameKV_int {q:IntKind}:∀ {n:Nat} {xs:List Value},sameKV (List.replicate n (.int q 0)) xs=true→∃ ls:List Int,xs=ls.map (Value.int q)∧ls.length=n
 | 0,[],_=>⟨[],rfl,rfl⟩
 | 0,x::xs,h=>by simp [sameKV] at h
 | n+1,[],h=>by simp [List.replicate_succ,sameKV] at h
 | n+1,x::xs,h=>by
  rw [List.replicate_succ] at h
  cases x<;>simp only [sameKV,Bool.and_eq_true,decide_eq_true_eq,Bool.false_eq_true] at h
  obtain ⟨rfl,h⟩:=h
  obtain ⟨ls,rfl,h2⟩:=sameKV_int h
  exact ⟨_::ls,rfl,by simp [h2]⟩
theorem eqV_int {q:IntKind}:∀ {ls:List Int} {ys:List Value} {b:Bool},eqV (ls.map (Value.int q)) ys=some b→∃ bs:List Int,ys=bs.map (Value.int q)∧bs.length=ls.length∧b=decide (ls=bs)
 | [],[],b,h=>by simp [eqV] at h;exact ⟨[],rfl,rfl,by simp [h]⟩
 | [],y::ys,b,h=>by simp [eqV] at h
 | a::ls,[],b,h=>by simp [eqV] at h
 | a::ls,y::ys,b,h=>by
  cases y<;>simp only [List.map_cons,eqV,reduceCtorEq] at h
  split at h
  case isFalse=>simp at h
  rename_i hk
  subst hk
  cases hr:eqV (ls.map (Value.int q)) ys with
  | none=>rw [hr] at h;simp at h
  | some r =>
   rw [hr] at h
   simp only [Option.map_some,Option.some.injEq] at h
   obtain ⟨bs,rfl,h2,rfl⟩:=eqV_int hr
   refine ⟨_::bs,rfl,by simp [h2],?_⟩
   rw [← h]
   simp
theorem eqI (w:World) {e:TypeId} {q:IntKind} (he:Try.prog.plainKey e=true) (hu:Try.prog.underlying e=some (.int q)) (d:Nat):∀ {ls bs:List Int} {k:Nat} {px py:List Value},px.length=k→py.length=k→ls.length=bs.length →
  (Op.eqItems (d+1) e 1 (px++ls.map (Value.int q)).toArray (py++bs.map (Value.int q)).toArray (List.range' k ls.length)).run Try.prog w=.ok (decide (ls=bs)) w
 | [],[],k,px,py,hp,hq,_=>rfl
 | [],_::_,_,_,_,_,_,h=>by simp at h
 | _::_,[],_,_,_,_,_,h=>by simp at h
 | a::ls,b::bs,k,px,py,hp,hq,hl=>by
  have hx:(px++(a::ls).map (Value.int q)).toArray[k*1]?=some (.int q a):=by simp [← hp]
  have hy:(py++(b::bs).map (Value.int q)).toArray[k*1]?=some (.int q b):=by simp [← hq]
  have ex:px++(a::ls).map (Value.int q)=(px++[.int q a])++ls.map (Value.int q):=by simp
  have ey:py++(b::bs).map (Value.int q)=(py++[.int q b])++bs.map (Value.int q):=by simp
  rw [show (a::ls).length=ls.length+1 from rfl,List.range'_succ]
  simp only [Op.eqItems,Sem.run_bind]
  rw [run_part_plain w he hx]
  simp only [Result.andThen_ok]
  rw [run_part_plain w he hy]
  simp only [Result.andThen_ok]
  rw [run_equalIn_int w _ e q q _ _ hu]
  simp only [Result.andThen_ok]
  have ih:=eqI w he hu d (ls:=ls) (bs:=bs) (k:=k+1) (px:=px++[.int q a]) (py:=py++[.int q b]) (by simp [hp]) (by simp [hq]) (by simpa using hl)
  rw [← ex,← ey] at ih
  by_cases e1:a=b
  ·subst e1
   simp only [beq_self_eq_true,Bool.not_true,Bool.false_eq_true,if_false]
   rw [ih]
   simp
  ·have hb:(a == b)=false:=by simpa using e1
   simp only [hb,Bool.not_false,if_true,Sem.run_pure]
   simp [e1]
theorem uW8:Try.prog.underlying 52=some (.array 8 51):=by kernel_rfl
theorem uU64:Try.prog.underlying 51=some (.int .u64):=by kernel_rfl
theorem pkU64:Try.prog.plainKey 51=true:=by kernel_rfl
theorem clU64:Try.prog.cellsOf 51=1:=by kernel_rfl
theorem clW8:Try.prog.cellsOf 52=8:=by kernel_rfl
theorem eqW (w:World) {ls bs:List Int} (ha:ls.length=8) (hb:bs.length=8) (d:Nat):(Op.equalIn (d+2) 52 (.agg (ls.map (Value.int .u64)).toArray) (.agg (bs.map (Value.int .u64)).toArray)).run Try.prog w=.ok (decide (ls=bs)) w:=by
 obtain ⟨i,hi⟩:=info_of_underlying uU64
 rw [run_equalIn_array w (d+1) _ _ uW8 hi,clU64,List.range_eq_range']
 have:=eqI w pkU64 uU64 d (ls:=ls) (bs:=bs) (k:=0) (px:=[]) (py:=[]) rfl rfl (by omega)
 rw [ha] at this
 simpa using this
theorem ckI (w:World) (em:Bool) (d:Nat) {e:TypeId} {q:IntKind} (he:Try.prog.plainKey e=true) (hu:Try.prog.underlying e=some (.int q)) (hs:∀ w,(sizeOf e).run Try.prog w=.ok 1 w):∀ {ls:List Int} {k:Nat} {px:List Value},px.length=k →
  (forIn (List.range' k ls.length) PUnit.unit fun i (_:PUnit)=>(do
    let a ← sizeOf e
    let b ← part e (px++ls.map (Value.int q)).toArray (i*a)
    Instr.checkKey em (d+1) e b
    pure (ForInStep.yield PUnit.unit):Sem (ForInStep PUnit))).run Try.prog w=.ok PUnit.unit w
 | [],k,px,_=>rfl
 | a::ls,k,px,hp=>by
  have hx:(px++(a::ls).map (Value.int q)).toArray[k*1]?=some (.int q a):=by simp [← hp]
  have ex:px++(a::ls).map (Value.int q)=(px++[.int q a])++ls.map (Value.int q):=by simp
  have ih:=ckI w em d he hu hs (ls:=ls) (k:=k+1) (px:=px++[.int q a]) (by simp [hp])
  rw [← ex] at ih
  rw [show (a::ls).length=ls.length+1 from rfl,List.range'_succ]
  simp only [List.forIn_cons,Sem.run_bind]
  rw [hs]
  simp only [Result.andThen_ok]
  rw [run_part_plain w he hx]
  simp only [Result.andThen_ok,ckP (v:=.int q a) he hu,Sem.run_pure]
  exact ih
theorem szU (w:World):(sizeOf 51).run Try.prog w=.ok 1 w:=by
 obtain ⟨i,hi⟩:=info_of_underlying uU64
 rw [run_sizeOf w hi,clU64]
theorem ckW (w:World) (em:Bool) (d:Nat) {ls:List Int} (ha:ls.length=8):(Instr.checkKey em (d+2) 52 (.agg (ls.map (Value.int .u64)).toArray)).run Try.prog w=.ok () w:=by
 rw [show d+2=d+1+1 from rfl,Instr.checkKey]
 simp only [Sem.run_bind,run_underlying uW8,Result.andThen_ok]
 simp only [Std.Legacy.Range.forIn_eq_forIn_range',Std.Legacy.Range.size,Nat.sub_zero,Nat.add_one_sub_one,Nat.div_one]
 have:=ckI w em d pkU64 uU64 szU (ls:=ls) (k:=0) (px:=[]) rfl
 rw [ha] at this
 simp only [List.nil_append] at this
 rw [this]
 rfl
theorem guardW:Try.prog.eqGuardType Try.prog.depth 52=false:=by kernel_rfl
theorem eqW8:EqOK Try.prog 52:=by
 intro d hd
 rw [tyW8,Option.some.injEq] at hd
 subst hd
 refine ⟨fun w xs b hk=>?_,fun w xs ys b hk he=>⟨?_,guardW⟩⟩
 ·obtain ⟨ls,rfl,ha⟩:=sameKV_int hk
  exact ckW w b 9998 ha
 ·obtain ⟨ls,rfl,ha⟩:=sameKV_int hk
  obtain ⟨bs,rfl,hb,rfl⟩:=eqV_int he
  exact eqW w ha (by omega) 9998
theorem uN:Try.prog.underlying 54=some (.struct (Try.prog.fieldsOf 54)):=by kernel_rfl
theorem stN:Try.prog.stoodInHeld 54=false:=by kernel_rfl
theorem guardN:Try.prog.eqGuardType Try.prog.depth 54=false:=by kernel_rfl
theorem partW (w:World) (x:Value) {ls:List Int} (ha:ls.length=8):(part 52 (x::ls.map (Value.int .u64)).toArray 1).run Try.prog w=.ok (.agg (ls.map (Value.int .u64)).toArray) w:=by
 obtain ⟨i,hi⟩:=info_of_underlying uW8
 have:((x::ls.map (Value.int .u64)).toArray.extract 1 9)=(ls.map (Value.int .u64)).toArray:=by
  apply Array.ext'
  rw [Array.toList_extract]
  simp [List.extract,ha,List.take_of_length_le]
 have tk:List.take 8 (ls.map (Value.int .u64))=ls.map (Value.int .u64):=List.take_of_length_le (by simp [ha])
 simp [part,isAgg,run_underlying uW8,run_sizeOf w hi,clW8,this,tk]
theorem fldN : ∃ n1 n2 f1 f2, (Try.prog.fieldsOf 54).toList = [f1, f2] ∧ f1.name = n1 ∧ f2.name = n2 ∧ n1 ≠ "_" ∧ n2 ≠ "_" ∧ f1.type = 3 ∧ f2.type = 52 ∧ f1.offset = 0 ∧ f2.offset = 1 :=
 ⟨ "Frame", "Entries", (Try.prog.fieldsOf 54)[0]!, (Try.prog.fieldsOf 54)[1]!, by kernel_rfl, by kernel_rfl, by kernel_rfl, by decide, by decide, by kernel_rfl, by kernel_rfl, by kernel_rfl, by kernel_rfl⟩
theorem pk3:Try.prog.plainKey 3=true:=by kernel_rfl
theorem eqN:EqOK Try.prog 54:=by
 intro d hd
 rw [tyN,Option.some.injEq] at hd
 subst hd
 obtain ⟨n1,n2,f1,f2,hf,e1,e2,e3,e4,e5,e6,e7,e8⟩:=fldN
 have form:∀ {xs:List Value},sameKV (Value.int .i64 0::List.replicate 8 (.int .u64 0)) xs=true→∃ (x:Int) (ls:List Int),xs=.int .i64 x::ls.map (Value.int .u64)∧ls.length=8:=fun {xs} h=>by
  cases xs with
  | nil=>simp [sameKV] at h
  | cons x xs =>
   cases x<;>simp only [sameKV,Bool.and_eq_true,decide_eq_true_eq,Bool.false_eq_true] at h
   obtain ⟨rfl,h⟩:=h
   obtain ⟨ls,rfl,h2⟩:=sameKV_int h
   exact ⟨_,ls,rfl,h2⟩
 refine ⟨fun w xs b hk=>?_,fun w xs ys b hk he=>⟨?_,guardN⟩⟩
 ·obtain ⟨x,ls,rfl,ha⟩:=form hk
  rw [show (10000:Nat)=9999+1 from rfl,Instr.checkKey]
  simp only [Sem.run_bind,run_underlying uN,Result.andThen_ok]
  rw [← Array.forIn_toList,hf]
  have hx:(Value.int .i64 x::ls.map (Value.int .u64)).toArray[0]?=some (.int .i64 x):=by simp
  simp only [List.forIn_cons,List.forIn_nil,Sem.run_bind,e1,e2,e5,e6,e7,e8]
  rw [if_pos e3]
  simp only [Sem.run_bind]
  rw [run_part_plain w pk3 hx]
  simp only [Result.andThen_ok,ckP (v:=.int .i64 x) (d:=9998) pk3 und3,Sem.run_pure]
  rw [if_pos e4]
  simp only [Sem.run_bind]
  rw [partW w _ ha]
  simp only [Result.andThen_ok]
  rw [ckW w b 9997 ha]
  rfl
 ·obtain ⟨x,ls,rfl,ha⟩:=form hk
  cases ys with
  | nil=>simp [eqV] at he
  | cons y ys =>
   cases y<;>simp only [eqV,reduceCtorEq] at he
   split at he
   case isFalse=>simp at he
   rename_i q y hq
   subst hq
   cases hr:eqV (ls.map (Value.int .u64)) ys with
   | none=>rw [hr] at he;simp at he
   | some r =>
    rw [hr] at he
    simp only [Option.map_some,Option.some.injEq] at he
    obtain ⟨bs,rfl,hb,rfl⟩:=eqV_int hr
    unfold Op.equal
    rw [show Op.maxDepth=9999+1 from rfl,run_equalIn_agg w _ _ _ _ uN stN,hf]
    simp only [Op.eqFields]
    rw [e1,if_pos e3,e5,e7]
    simp only [Sem.run_bind]
    rw [run_part_plain w pk3 (show (Value.int .i64 x::ls.map (Value.int .u64)).toArray[0]?=some (.int .i64 x) by simp)]
    simp only [Result.andThen_ok]
    rw [run_part_plain w pk3 (show (Value.int .i64 y::bs.map (Value.int .u64)).toArray[0]?=some (.int .i64 y) by simp)]
    simp only [Result.andThen_ok]
    rw [show (9999:Nat)=9998+1 from rfl,run_equalIn_int w _ 3 .i64 .i64 _ _ und3]
    simp only [Result.andThen_ok]
    by_cases exy:x=y
    ·subst exy
     simp only [beq_self_eq_true,Bool.not_true,Bool.false_eq_true,if_false]
     rw [e2,if_pos e4,e6,e8]
     simp only [Sem.run_bind]
     rw [partW w _ ha]
     simp only [Result.andThen_ok]
     rw [partW w _ (by omega)]
     simp only [Result.andThen_ok]
     rw [show 9998+1=9997+2 from rfl,eqW w ha (by omega) 9997]
     simp only [Result.andThen_ok]
     rw [← he]
     by_cases eab:ls=bs
     ·subst eab;simp
     ·simp [eab]
    ·have hb2:(x == y)=false:=by simpa using exy
     simp only [hb2,Bool.not_false,if_true,Sem.run_pure]
     rw [← he];simp [exy]
end Go.AM
namespace Go.AM
open Go Go.Proofs
theorem eqL_wcs:∀ {a b:List Nat},a.length=b.length→eqL (wcs a) (wcs b)=some (decide (a=b))
 | [],[],_=>rfl
 | [],_::_,h=>by simp at h
 | _::_,[],h=>by simp at h
 | x::a,y::b,h=>by
  have ih:=eqL_wcs (a:=a) (b:=b) (by simpa using h)
  show eqL (.v (.int .u64 x)::wcs a) (.v (.int .u64 y)::wcs b)=_
  simp only [eqL,ih,if_true,Option.map_some,Option.some.injEq,List.cons.injEq]
  by_cases e:x=y
  ·subst e;simp
  ·have:¬ (x:Int)=y:=by omega
   simp [e,this]
theorem sameK_wcs:∀ {n:Nat} {a:List Nat},a.length=n→sameK (List.replicate n (.int .u64 0)) (wcs a)=true
 | 0,[],_=>rfl
 | n+1,x::a,h=>by
  rw [List.replicate_succ]
  show (decide (IntKind.u64=IntKind.u64)&&sameK _ (wcs a))=true
  rw [sameK_wcs (by simpa using h)];rfl
 | 0,_::_,h=>by simp at h
 | _+1,[],h=>by simp at h
theorem list_ext_gn {a b:List Nd} (hl:a.length=b.length) (h:∀ j,j<a.length→gn a j=gn b j):a=b:=by
 refine List.ext_getElem hl fun i h1 h2=>?_
 have:=h i h1
 rw [gn_eq h1,gn_eq h2] at this
 exact this
theorem list_ext_gp {a b:List Dp} (hl:a.length=b.length) (h:∀ j,j<a.length→gp a j=gp b j):a=b:=by
 refine List.ext_getElem hl fun i h1 h2=>?_
 have:=h i h1
 rw [gp_eq h1,gp_eq h2] at this
 exact this
set_option maxHeartbeats 4000000 in
theorem s22 (X:AX) (hX:XOK Try.prog X) (hw:X.W wT) (hen:X.eqs 54=true) (hed:X.eqs 102=true):PSound Try.prog 22 (specF (ι:={x:Tb×Tb // tbOK x.1∧tbOK x.2}) (fun x=>[TbV x.1.1,TbV x.1.2]) fun x=>retOf [B (decide (x.1.1=x.1.2))]):=by
 refine psound_spec hX mixed Try.func22 rfl fun ⟨⟨⟨r,ns,ds⟩,⟨r',ns',ds'⟩⟩,ht,ht'⟩ w0 G=>⟨by show 2≤66;decide,rfl,?_⟩
 show AW ⟨Try.prog,X,66,w0,.pure G⟩ _ _ _
 have hc:Cx.OK ⟨Try.prog,X,66,w0,.pure G⟩:=⟨hX,mixed⟩
 simp only at ht ht' ⊢
 have hl1:ns.length≤1000000:=ht.2.1
 have hl2:ds.length≤1000000:=ht.2.2
 have hl1':ns'.length≤1000000:=ht'.2.1
 have hl2':ds'.length≤1000000:=ht'.2.2
 simp only [TbV]
 rcases Decidable.em (r=r') with h1|h1
 ·subst h1
  rcases Decidable.em (ns.length=ns'.length) with h2|h2
  ·have h2I:(ns.length:Int)=(ns'.length:Int):=by omega
   rcases Decidable.em (ds.length=ds'.length) with h3|h3
   ·have h3I:(ds.length:Int)=(ds'.length:Int):=by omega
    have zS:=jj h2<|h3
    repeat' (first|(apply aw_seq_k;intro K hK)|(refine eM64 ?_)|(refine aw_cond (b:=_) (by exact rfl) (fun h=>?_) (fun h=>?_)<;>(try simp at h))|(refine eB ?_)|(refine hK _ ?_;clear hK)|(clear hK;refine hK _ ?_;clear hK)|(clear hK;clear hK;refine hK _ ?_;clear hK)|(clear hK;clear hK;clear hK;refine hK _ ?_;clear hK))
    all_goals clear zS
    refine aw_loopK (s0:=?lps1) (m0:=?lpm1) (ι:={i:Nat // i≤ns'.length∧∀ j,j<i→gn ns j=gn ns' j}) [2,3,32] (fun s=>[(33,I s.1)]) (fun _=>[]) (fun s=>ns'.length - s.1) ⟨0,by omega,by omega⟩ ?lhs1 ?lhm1 ?_ ?_
    case lhs1=>first|(simp [keepS];done)|(simp [keepS];rfl)
    case lhm1=>first|rfl|(simp;done)|(simp;rfl)
    ·exact dle
    ·rintro ⟨i,hi,hinv⟩
     simp only
     rcases Decidable.em (i<ns'.length) with hil|hil
     ·have hilI:(i:Int)<(ns'.length:Int):=by omega
      have hil2:i<ns.length:=by omega
      have hil2I:(i:Int)<(ns.length:Int):=by omega
      have hg:=nrows_gi hil2
      have hgE:=nrows_gE hil2
      have hg':=nrows_gi hil
      have hgE':=nrows_gE hil
      have hlen:=(ht.1 _ (gn_mem hil2)).1
      have hlen':=(ht'.1 _ (gn_mem hil)).1
      have hdf:gn ns i≠gn ns' i→¬ (r,ns,ds)=(r,ns',ds'):=fun h e=>h (by simp only [Prod.mk.injEq] at e;rw [e.2.1])
      have hinv2:gn ns i=gn ns' i→∀ j,j<i+1→gn ns j=gn ns' j:=fun h j hj=>by
       rcases Nat.lt_succ_iff_lt_or_eq.1 hj with h5|rfl
       ·exact hinv j h5
       ·exact h
      obtain ⟨⟨a,ws⟩,hm⟩:∃ m,m=gn ns i:=⟨_,rfl⟩
      obtain ⟨⟨b,vs⟩,hm'⟩:∃ m,m=gn ns' i:=⟨_,rfl⟩
      rw [← hm,← hm'] at hdf hinv2
      rw [← hm] at hg hgE hlen
      rw [← hm'] at hg' hgE' hlen'
      simp only at hg hgE hlen hg' hgE' hlen'
      have heq:=eqL_wcs (a:=ws) (b:=vs) (by omega)
      have hsk:=sameK_wcs hlen
      have hsk':=sameK_wcs hlen'
      simp only [List.reduceReplicate] at hsk hsk'
      have hcl:(wcs ws).length=8:=by simp [hlen]
      have hcl':(wcs vs).length=8:=by simp [hlen']
      obtain ⟨cs,hcs⟩:∃ cs,cs=wcs ws:=⟨_,rfl⟩
      obtain ⟨cs',hcs'⟩:∃ cs,cs=wcs vs:=⟨_,rfl⟩
      rw [← hcs] at hg hgE heq hsk hcl
      rw [← hcs'] at hg' hgE' heq hsk' hcl'
      clear hm hm' hcs hcs'
      have htk:List.take 8 cs=cs:=List.take_of_length_le (by omega)
      have htk':List.take 8 cs'=cs':=List.take_of_length_le (by omega)
      rcases Decidable.em (a=b) with e1|e1
      ·subst e1
       rcases Decidable.em (ws=vs) with e2|e2
       ·subst e2
        rw [decide_eq_true rfl] at heq
        have:=hinv2 rfl
        have zS:=jj hilI<|jj hil<|jj hil2<|jj hil2I<|jj hg<|jj hgE<|jj hg'<|jj hgE'<|jj htk<|jj htk'<|jj heq<|jj hsk<|jj hsk'<|jj hcl<|jj hcl'<|jj hen<|jj eqLs<|jj sameKs<|h2
        repeat' (first|(apply aw_seq_k;intro K hK)|(refine eM64 ?_)|(refine aw_cond (b:=_) (by exact rfl) (fun h=>?_) (fun h=>?_)<;>(try simp at h))|(refine eB ?_)|(refine hK _ ?_;clear hK)|(clear hK;refine hK _ ?_;clear hK)|(clear hK;clear hK;refine hK _ ?_;clear hK)|(clear hK;clear hK;clear hK;refine hK _ ?_;clear hK))
        all_goals clear zS
        refine ⟨i+1,?_,⟨by omega,this⟩,by omega⟩
        exact dle
       ·rw [decide_eq_false e2] at heq
        have e:=hdf (by simpa using e2)
        have zS:=jj hilI<|jj hil<|jj hil2<|jj hil2I<|jj hg<|jj hgE<|jj hg'<|jj hgE'<|jj htk<|jj htk'<|jj heq<|jj hsk<|jj hsk'<|jj hcl<|jj hcl'<|jj hen<|jj eqLs<|jj sameKs<|h2
        repeat' (first|(apply aw_seq_k;intro K hK)|(refine eM64 ?_)|(refine aw_cond (b:=_) (by exact rfl) (fun h=>?_) (fun h=>?_)<;>(try simp at h))|(refine eB ?_)|(refine hK _ ?_;clear hK)|(clear hK;refine hK _ ?_;clear hK)|(clear hK;clear hK;refine hK _ ?_;clear hK)|(clear hK;clear hK;clear hK;refine hK _ ?_;clear hK))
        all_goals clear zS
        refine ⟨by simp,?_⟩
        simp [leaves_iff,Try.f22,e]
        try exact dt
      ·have e:=hdf (by simp [e1])
       have e1':¬ b=a:=fun h=>e1 h.symm
       rcases Decidable.em (ws=vs) with e2|e2
       ·rw [decide_eq_true e2] at heq
        have zS:=jj hilI<|jj hil<|jj hil2<|jj hil2I<|jj hg<|jj hgE<|jj hg'<|jj hgE'<|jj htk<|jj htk'<|jj heq<|jj hsk<|jj hsk'<|jj hcl<|jj hcl'<|jj hen<|jj eqLs<|jj sameKs<|jj h2<|jj e1<|e1'
        repeat' (first|(apply aw_seq_k;intro K hK)|(refine eM64 ?_)|(refine aw_cond (b:=_) (by exact rfl) (fun h=>?_) (fun h=>?_)<;>(try simp at h))|(refine eB ?_)|(refine hK _ ?_;clear hK)|(clear hK;refine hK _ ?_;clear hK)|(clear hK;clear hK;refine hK _ ?_;clear hK)|(clear hK;clear hK;clear hK;refine hK _ ?_;clear hK))
        all_goals clear zS
        refine ⟨by simp,?_⟩
        simp [leaves_iff,Try.f22,e]
        try exact dt
       ·rw [decide_eq_false e2] at heq
        have zS:=jj hilI<|jj hil<|jj hil2<|jj hil2I<|jj hg<|jj hgE<|jj hg'<|jj hgE'<|jj htk<|jj htk'<|jj heq<|jj hsk<|jj hsk'<|jj hcl<|jj hcl'<|jj hen<|jj eqLs<|jj sameKs<|jj h2<|jj e1<|e1'
        repeat' (first|(apply aw_seq_k;intro K hK)|(refine eM64 ?_)|(refine aw_cond (b:=_) (by exact rfl) (fun h=>?_) (fun h=>?_)<;>(try simp at h))|(refine eB ?_)|(refine hK _ ?_;clear hK)|(clear hK;refine hK _ ?_;clear hK)|(clear hK;clear hK;refine hK _ ?_;clear hK)|(clear hK;clear hK;clear hK;refine hK _ ?_;clear hK))
        all_goals clear zS
        refine ⟨by simp,?_⟩
        simp [leaves_iff,Try.f22,e]
        try exact dt
     ·obtain rfl:i=ns'.length:=by omega
      have hns:ns=ns':=list_ext_gn h2 fun j hj=>hinv j (by omega)
      clear hinv
      have zS:=h3
      repeat' (first|(apply aw_seq_k;intro K hK)|(refine eM64 ?_)|(refine aw_cond (b:=_) (by exact rfl) (fun h=>?_) (fun h=>?_)<;>(try simp at h))|(refine eB ?_)|(refine hK _ ?_;clear hK)|(clear hK;refine hK _ ?_;clear hK)|(clear hK;clear hK;refine hK _ ?_;clear hK)|(clear hK;clear hK;clear hK;refine hK _ ?_;clear hK))
      all_goals clear zS
      refine aw_loopK (s0:=?lps2) (m0:=?lpm2) (ι:={i:Nat // i≤ds'.length∧∀ j,j<i→gp ds j=gp ds' j}) [2,3,50] (fun s=>[(51,I s.1)]) (fun _=>[]) (fun s=>ds'.length - s.1) ⟨0,by omega,by omega⟩ ?lhs2 ?lhm2 ?_ ?_
      case lhs2=>first|(simp [keepS];done)|(simp [keepS];rfl)
      case lhm2=>first|rfl|(simp;done)|(simp;rfl)
      ·exact dle
      ·rintro ⟨i,hi,hinv⟩
       simp only
       rcases Decidable.em (i<ds'.length) with hil|hil
       ·have hilI:(i:Int)<(ds'.length:Int):=by omega
        have hil2:i<ds.length:=by omega
        have hil2I:(i:Int)<(ds.length:Int):=by omega
        have hg:=prows_gi hil2
        have hgE:=prows_gE hil2
        have hg':=prows_gi hil
        have hgE':=prows_gE hil
        have hdf:gp ds i≠gp ds' i→¬ (r,ns,ds)=(r,ns',ds'):=fun h e=>h (by simp only [Prod.mk.injEq] at e;rw [e.2.2])
        have hinv2:gp ds i=gp ds' i→∀ j,j<i+1→gp ds j=gp ds' j:=fun h j hj=>by
         rcases Nat.lt_succ_iff_lt_or_eq.1 hj with h5|rfl
         ·exact hinv j h5
         ·exact h
        obtain ⟨⟨a,b⟩,hm⟩:∃ m,m=gp ds i:=⟨_,rfl⟩
        obtain ⟨⟨c,d⟩,hm'⟩:∃ m,m=gp ds' i:=⟨_,rfl⟩
        rw [← hm,← hm'] at hdf hinv2
        rw [← hm] at hg hgE
        rw [← hm'] at hg' hgE'
        simp only at hg hgE hg' hgE'
        clear hm hm'
        rcases Decidable.em (a=c∧b=d) with e1|e1
        ·obtain ⟨rfl,rfl⟩:=e1
         have:=hinv2 rfl
         have zS:=jj hilI<|jj hil<|jj hil2<|jj hil2I<|jj hg<|jj hgE<|jj hg'<|jj hgE'<|jj hed<|jj eqLs<|jj sameKs<|h3
         repeat' (first|(apply aw_seq_k;intro K hK)|(refine eM64 ?_)|(refine aw_cond (b:=_) (by exact rfl) (fun h=>?_) (fun h=>?_)<;>(try simp at h))|(refine eB ?_)|(refine hK _ ?_;clear hK)|(clear hK;refine hK _ ?_;clear hK)|(clear hK;clear hK;refine hK _ ?_;clear hK)|(clear hK;clear hK;clear hK;refine hK _ ?_;clear hK))
         all_goals clear zS
         refine ⟨i+1,?_,⟨by omega,this⟩,by omega⟩
         exact dle
        ·have e:=hdf (by simp;omega)
         have e2:a=c→¬ b=d:=by omega
         have zS:=jj hilI<|jj hil<|jj hil2<|jj hil2I<|jj hg<|jj hgE<|jj hg'<|jj hgE'<|jj hed<|jj eqLs<|jj sameKs<|jj h3<|jj e1<|e2
         repeat' (first|(apply aw_seq_k;intro K hK)|(refine eM64 ?_)|(refine aw_cond (b:=_) (by exact rfl) (fun h=>?_) (fun h=>?_)<;>(try simp at h))|(refine eB ?_)|(refine hK _ ?_;clear hK)|(clear hK;refine hK _ ?_;clear hK)|(clear hK;clear hK;refine hK _ ?_;clear hK)|(clear hK;clear hK;clear hK;refine hK _ ?_;clear hK))
         all_goals clear zS
         refine ⟨by simp,?_⟩
         simp [leaves_iff,Try.f22,e]
         try exact dt
       ·obtain rfl:i=ds'.length:=by omega
        have hds:ds=ds':=list_ext_gp h3 fun j hj=>hinv j (by omega)
        have zS:=h3
        repeat' (first|(apply aw_seq_k;intro K hK)|(refine eM64 ?_)|(refine aw_cond (b:=_) (by exact rfl) (fun h=>?_) (fun h=>?_)<;>(try simp at h))|(refine eB ?_)|(refine hK _ ?_;clear hK)|(clear hK;refine hK _ ?_;clear hK)|(clear hK;clear hK;refine hK _ ?_;clear hK)|(clear hK;clear hK;clear hK;refine hK _ ?_;clear hK))
        all_goals clear zS
        refine ⟨by simp,?_⟩
        simp [leaves_iff,Try.f22,hns,hds]
        try exact dt
   ·have h3I:¬ (ds.length:Int)=(ds'.length:Int):=by omega
    have e:¬ (r,ns,ds)=(r,ns',ds'):=fun e=>by simp only [Prod.mk.injEq] at e;exact h3 (by rw [e.2.2])
    have zS:=jj h2<|jj h3<|h3I
    refine dM64 ?_
    repeat (intro K hK)
    clear zS
    all_goals refine ⟨by simp,?_⟩
    all_goals simp [leaves_iff,Try.f22,e]
    all_goals try exact dt
  ·have h2I:¬ (ns.length:Int)=(ns'.length:Int):=by omega
   have e:¬ (r,ns,ds)=(r,ns',ds'):=fun e=>by simp only [Prod.mk.injEq] at e;exact h2 (by rw [e.2.1])
   have zS:=jj h2<|h2I
   refine dM64 ?_
   repeat (intro K hK)
   clear zS
   all_goals refine ⟨by simp,?_⟩
   all_goals simp [leaves_iff,Try.f22,e]
   all_goals try exact dt
 ·have e:¬ (r,ns,ds)=(r',ns',ds'):=fun e=>by simp only [Prod.mk.injEq] at e;exact h1 e.1
  have zS:=h1
  refine dM64 ?_
  repeat (intro K hK)
  clear zS
  all_goals refine ⟨by simp,?_⟩
  all_goals simp [leaves_iff,Try.f22,e]
  all_goals try exact dt
end Go.AM
namespace Go.AM
open Go Go.Proofs Go.Sort
def sortIRen:Go.Shelf.Ren :=
 {f:=fun x=>match x with
   | 189=>102
   | 125=>131
   | 257=>135
   | 128=>154
   | 129=>155
   | 294=>156
   | 295=>157
   | 296=>158
   | 297=>159
   | 298=>160
   | 299=>161
   | 216=>162
   | 300=>163
   | 301=>164
   | 328=>171
   | 329=>167
   | 330=>168
   | 331=>172
   | 332=>173
   | 215=>144
   | 343=>175
   | n=>n
  t:=fun x=>match x with
   | 28=>36
   | 3=>3
   | 46=>126
   | 0=>0
   | 51=>178
   | 53=>51
   | 4=>4
   | 183=>172
   | 182=>171
   | 131=>121
   | 5=>5
   | 9=>9
   | 218=>186
   | 222=>131
   | 228=>193
   | 229=>73
   | n=>n
  g:=fun n=>n }
theorem lay189:Go.Proofs.Lays.n189 Try.prog sortIRen :=
 {mixed:=mixed
  f125:=Try.func131.trans (congrArg some (by kernel_rfl))
  f128:=Try.func154.trans (congrArg some (by kernel_rfl))
  f129:=Try.func155.trans (congrArg some (by kernel_rfl))
  f189:=Try.func102.trans (congrArg some (by kernel_rfl))
  f215:=Try.func144.trans (congrArg some (by kernel_rfl))
  f216:=Try.func162.trans (congrArg some (by kernel_rfl))
  f257:=Try.func135.trans (congrArg some (by kernel_rfl))
  f294:=Try.func156.trans (congrArg some (by kernel_rfl))
  f295:=Try.func157.trans (congrArg some (by kernel_rfl))
  f296:=Try.func158.trans (congrArg some (by kernel_rfl))
  f297:=Try.func159.trans (congrArg some (by kernel_rfl))
  f298:=Try.func160.trans (congrArg some (by kernel_rfl))
  f299:=Try.func161.trans (congrArg some (by kernel_rfl))
  f300:=Try.func163.trans (congrArg some (by kernel_rfl))
  f301:=Try.func164.trans (congrArg some (by kernel_rfl))
  f328:=Try.func171.trans (congrArg some (by kernel_rfl))
  f329:=Try.func167.trans (congrArg some (by kernel_rfl))
  f330:=Try.func168.trans (congrArg some (by kernel_rfl))
  f331:=Try.func172.trans (congrArg some (by kernel_rfl))
  f332:=Try.func173.trans (congrArg some (by kernel_rfl))
  f343:=Try.func175.trans (congrArg some (by kernel_rfl))
  t0:=Try.underlying0
  a0:=Try.isAgg0
  z0:=Try.sizeOf0
  v0:=Try.zeroValue0
  t3:=Try.underlying3
  a3:=Try.isAgg3
  z3:=Try.sizeOf3
  v3:=Try.zeroValue3
  t4:=Try.underlying4
  a4:=Try.isAgg4
  z4:=Try.sizeOf4
  v4:=Try.zeroValue4
  t5:=Try.underlying5
  a5:=Try.isAgg5
  z5:=Try.sizeOf5
  v5:=Try.zeroValue5
  t9:=Try.underlying9
  a9:=Try.isAgg9
  z9:=Try.sizeOf9
  v9:=Try.zeroValue9
  t28:=Try.underlying36
  a28:=Try.isAgg36
  z28:=Try.sizeOf36
  v28:=Try.zeroValue36
  t46:=Try.underlying126
  a46:=Try.isAgg126
  z46:=Try.sizeOf126
  v46:=Try.zeroValue126
  t51:=Try.underlying178
  a51:=Try.isAgg178
  z51:=Try.sizeOf178
  v51:=Try.zeroValue178
  t53:=Try.underlying51
  a53:=Try.isAgg51
  z53:=Try.sizeOf51
  v53:=Try.zeroValue51
  t131:=Try.underlying121
  a131:=Try.isAgg121
  z131:=Try.sizeOf121
  v131:=Try.zeroValue121
  t182:=Try.underlying171
  a182:=Try.isAgg171
  z182:=Try.sizeOf171
  v182:=Try.zeroValue171
  t183:=Try.underlying172
  a183:=Try.isAgg172
  z183:=Try.sizeOf172
  v183:=Try.zeroValue172
  t218:=Try.underlying186
  a218:=Try.isAgg186
  z218:=Try.sizeOf186
  v218:=Try.zeroValue186
  t222:=Try.underlying131
  a222:=Try.isAgg131
  z222:=Try.sizeOf131
  v222:=Try.zeroValue131
  t228:=Try.underlying193
  a228:=Try.isAgg193
  z228:=Try.sizeOf193
  v228:=Try.zeroValue193
  t229:=Try.underlying73
  a229:=Try.isAgg73
  z229:=Try.sizeOf73
  v229:=Try.zeroValue73 }
def sortL (l:List Int):List Int:=l.mergeSort fun x y=>decide (x≤y)
@[simp] theorem sortL_len (l:List Int):(sortL l).length=l.length:=List.length_mergeSort _
def sortC (avs:List AV) (M:Nat→AO) (_nid:Nat):Option (AV×List (Nat×AO)) :=
 match avs with
 | [.sl b m s o n]=>match M b with
  | .vec m' s' f xs=>match unI xs with
   | some l=>if m=m'∧s=1∧s'=1∧o=0∧n=l.length∧n<4611686018427387904 then some (.tup [],[(b,.vec m 1 f (irows (sortL l)))]) else none
   | none=>none
  | _=>none
 | [.v (.slice none 0 0)]=>some (.tup [],[])
 | _=>none
theorem sortI_ok:CallOK Try.prog 102 sortC:=by
 intro avs M nid av u hc w0 bl E w args hr hM hI _
 have hone:∀ {a:AV},RepL E w [a] args.toList→∃ x,args=#[x]∧Rep E w a x:=fun {a} hr=>by
  cases hargs:args.toList with
  | nil=>rw [hargs] at hr;simp [RepL] at hr
  | cons x r =>
   rw [hargs] at hr
   simp only [RepL] at hr
   cases r with
   | nil=>exact ⟨x,by rw [← Array.toArray_toList (xs:=args),hargs],hr.1⟩
   | cons y r=>simp [RepL] at hr
 have htup:∀ (E':Env) (w':World),Rep E' w' (.tup []) (.tuple #[]):=fun E' w'=>by simp only [Rep];exact ⟨[],rfl,by simp [RepL]⟩
 unfold sortC at hc
 split at hc
 case h_3=>simp at hc
 case h_2 =>
  simp only [Option.some.injEq,Prod.mk.injEq] at hc
  obtain ⟨rfl,rfl⟩:=hc
  obtain ⟨x,rfl,hx⟩:=hone hr
  simp only [Rep,CRep] at hx
  subst hx
  have:=Any.slices_Sort_int_none lay189 none 0 w
  refine Calls.mono (this:Calls Try.prog 102 _ _ _) fun e w' ⟨he,hw⟩=>?_
  subst hw
  exact ⟨_,E,he,StepTo.refl hI rfl rfl rfl,htup _ _⟩
 case h_1 b m s o n =>
  split at hc
  case h_2=>simp at hc
  rename_i m' s' f xs hMb
  split at hc
  case h_2=>simp at hc
  rename_i l hl
  split at hc
  case isFalse=>simp at hc
  rename_i hcond
  obtain ⟨rfl,rfl,rfl,rfl,rfl,hlt⟩:=hcond
  simp only [Option.some.injEq,Prod.mk.injEq] at hc
  obtain ⟨rfl,rfl⟩:=hc
  obtain ⟨x,rfl,hx⟩:=hone hr
  simp only [Rep] at hx
  obtain ⟨hal,h1,h2,p,c,rfl,hnc,hpn,hsl⟩:=hx
  have hxs:=unI_eq hl
  subst hxs
  have ho:=hM b hal
  rw [hMb] at ho
  by_cases hl0:l=[]
  ·subst hl0
   have:=Any.slices_Sort_int_none lay189 p c w
   refine Calls.mono (this:Calls Try.prog 102 _ _ _) fun e w' ⟨he,hw⟩=>?_
   subst hw
   exact ⟨_,E,he,StepTo.retell hI hal (by simpa [sortL] using ho),htup _ _⟩
  ·have hpos:0<l.length:=by
    rcases Nat.eq_zero_or_pos l.length with e|e
    ·exact absurd (List.eq_nil_of_length_eq_zero e) hl0
    ·exact e
   simp only [ObjRep] at ho
   obtain ⟨hv,hm1,ho⟩:=ho
   cases hlc:E.loc b with
   | none =>
    simp only [hlc] at ho
    exact absurd (by simpa [irows] using ho) hl0
   | some L =>
    obtain ⟨blk,base,sz⟩:=L
    simp only [hlc] at ho
    obtain ⟨ca,t,hheap,hszc,honec,hfit,hff,hrows⟩:=ho
    have hs2:=hsl hv.symm
    simp only [hlc,SlAt] at hs2
    obtain ⟨a,rfl,ha,hcs⟩:=hs2
    have ha:=ha.resolve_left (by omega)
    simp only [Nat.zero_mul,Nat.add_zero] at ha
    subst ha
    have hblk:blk<w.heap.size:=(Array.getElem?_eq_some_iff.1 hheap).1
    have hcell:∀ j,j<l.length→w.cell? ⟨blk,base+j,none⟩=some (.int .i64 l[j]!):=fun j hj=>by
     have h3:=hrows.get (i:=j) (e:=[I l[j]]) (by simp [irows,hj])
     obtain ⟨x,h4,_,h5⟩:=h3.2.get (j:=0) (a:=I l[j]) rfl
     simp only [CRep] at h5
     subst h5
     simp only [Nat.mul_one,Nat.add_zero] at h4
     rw [h4,getElem!_pos l j hj]
    have hfz:∀ j,w.frozen? ⟨blk,base+j,none⟩=false:=fun j=>by
     unfold World.frozen?
     rw [hheap]
     simp
    have hH:Holds (Value.int .i64) w blk base l.toArray:=fun j hj=>⟨by
     rw [hcell j (by simpa using hj)]
     simp,hfz j⟩
    have:=Any.slices_Sort_int lay189 blk base c l w hH hblk hlt
    refine Calls.mono (this:Calls Try.prog 102 _ _ _) fun e w' ⟨he,n,os,hw⟩=>?_
    have hH2:Holds (Value.int .i64) w' blk base (sortL l).toArray:=by
     rw [hw]
     refine holds_grow _ _ _ _ _ _ (by simpa [ahead] using hblk) ?_
     exact holds_putRow _ _ _ _ l.toArray _ (fun j hj=>hH j hj) (by simp)
    have hsize:w.heap.size≤w'.heap.size:=by rw [hw];simp [ahead]
    have hother:∀ k,k<w.heap.size→k≠blk→w'.heap[k]?=w.heap[k]?:=fun k hk hne=>by
     rw [hw,heap_grow_old _ _ (by simpa [ahead] using hk)]
     simp only [putRow,mapBlock,Array.getElem?_modify]
     rw [if_neg (fun e=>hne e.symm)]
     rfl
    have hown:w'.heap[blk]?=some (.cells (putCells (Value.int .i64) base (sortL l).toArray ca) t (0,0)):=by
     rw [hw,heap_grow_old _ _ (by simpa [ahead] using hblk)]
     simp only [putRow,mapBlock,Array.getElem?_modify,if_true]
     have e:∀ n,(Sort.ahead w n).heap=w.heap:=fun n=>rfl
     rw [e,hheap]
     rfl
    refine ⟨_,E.upd b m (some (blk,base,sz)),he,?_,htup _ _⟩
    refine StepTo.one hI b _ m _ (fun _=>.inl ⟨hv.symm,hlc.symm⟩) (fun blk' base' sz' e=>?_) hsize (by rw [hw];rfl) (by rw [hw];rfl) (fun k hk hn=>hother k hk fun e=>?_) ?_
    ·simp only [Option.some.injEq,Prod.mk.injEq] at e
     exact .inl ⟨base,sz,hal,by rw [hlc,e.1]⟩
    ·subst e;exact hn base sz hal hlc
    ·simp only [ObjRep,Env.upd,if_true]
     refine ⟨trivial,hm1,_,t,hown,by simpa [putCells] using hszc,fun y hy=>?_,by simpa using hfit,fun hf=>by simpa using hff hf,CRows.of_get fun i e hi=>?_⟩
     ·rw [Array.mem_toList_iff] at hy
      obtain ⟨k,hk,rfl⟩:=Array.mem_iff_getElem.1 hy
      simp only [putCells,Array.getElem_mapIdx]
      split
      ·rfl
      ·exact honec _ (by rw [Array.mem_toList_iff];exact Array.getElem_mem _)
     ·have hil:i<(sortL l).length:=by
       have:=(List.getElem?_eq_some_iff.1 hi).1
       simpa using this
      simp only [irows,List.getElem?_map,List.getElem?_eq_getElem hil,Option.map_some,Option.some.injEq] at hi
      subst hi
      refine ⟨rfl,?_⟩
      simp only [CCells,Nat.mul_one]
      refine ⟨⟨_,(hH2 i (by simpa using hil)).1,rfl,?_⟩,trivial⟩
      simp only [CRep]
      simp only [List.getElem!_toArray]
      rw [getElem!_pos (sortL l) i hil]
theorem sortI_keys {avs:List AV} {M:Nat→AO} {nid:Nat} {r:AV×List (Nat×AO)} (h:sortC avs M nid=some r):∀ b∈r.2.map (·.1),(nid≤b∧b<nid+16)∨M b≠.dead:=by
 unfold sortC at h
 split at h
 case h_3=>simp at h
 case h_2=>simp only [Option.some.injEq] at h;subst h;simp
 split at h
 case h_2=>simp at h
 rename_i hMb
 split at h
 case h_2=>simp at h
 split at h
 case isFalse=>simp at h
 simp only [Option.some.injEq] at h
 subst h
 intro b hb
 simp at hb
 subst hb
 exact .inr (by rw [hMb];simp)
end Go.AM
