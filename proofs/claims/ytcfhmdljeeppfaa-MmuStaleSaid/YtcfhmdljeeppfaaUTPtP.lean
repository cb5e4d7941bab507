/- A part of the proof: what functions of the program compute, by abstract execution of their code. Its theorems hold without further condition. -/
import Derived.Test.YtcfhmdljeeppfaaUTPt31
import Derived.Test.YtcfhmdljeeppfaaUAmDs
import Derived.Shelf.Sort.Plain
import Derived.Shelf.Slices.In.SortNone
set_option linter.all false
namespace Go.AM
open Go Go.Proofs
theorem decR_enc {k f:Int} {d a x h:Bool} (hk:0≤k∧k≤4) (hf:0≤f∧f≤4294967295) (hb:¬ badF (k,f,d,a,x,h)) (hm:frmE (k,f,d,a,x,h)=true):∃ n:Nat,encR (k,f,d,a,x,h)=((n:Int),0)∧n<2^64∧decR n=((k,f,d,a,x,h),0):=by
 have he:encR (k,f,d,a,x,h)=(encW (k,f,d,a,x,h),0):=encR_z hk hb hm
 obtain ⟨kn,rfl⟩:=Int.eq_ofNat_of_zero_le hk.1
 obtain ⟨fn,rfl⟩:=Int.eq_ofNat_of_zero_le hf.1
 obtain ⟨n,hn⟩:∃ n:Nat,n=kn+(if d then 8 else 0)+(if a then 16 else 0)+(if x then 32 else 0)+(if h then 64 else 0)+fn*256:=⟨_,rfl⟩
 have hw:encW ((kn:Int),(fn:Int),d,a,x,h)=(n:Int):=by
  unfold encW fb
  rw [hn]
  cases d<;>cases a<;>cases x<;>cases h<;>simp<;>omega
 have hp:prs n=((kn:Int),(fn:Int),d,a,x,h):=by
  unfold prs
  have e1:n%8=kn:=by rw [hn];cases d<;>cases a<;>cases x<;>cases h<;>simp<;>omega
  have e2:n/256%4294967296=fn:=by rw [hn];cases d<;>cases a<;>cases x<;>cases h<;>simp<;>omega
  have t:∀ j,n.testBit j=decide (n/2^j%2=1):=fun j=>Nat.testBit_eq_decide_div_mod_eq
  have b3:n.testBit 3=d:=by rw [t,hn];cases d<;>cases a<;>cases x<;>cases h<;>simp<;>omega
  have b4:n.testBit 4=a:=by rw [t,hn];cases d<;>cases a<;>cases x<;>cases h<;>simp<;>omega
  have b5:n.testBit 5=x:=by rw [t,hn];cases d<;>cases a<;>cases x<;>cases h<;>simp<;>omega
  have b6:n.testBit 6=h:=by rw [t,hn];cases d<;>cases a<;>cases x<;>cases h<;>simp<;>omega
  rw [e1,e2,b3,b4,b5,b6]
 refine ⟨n,by rw [he,hw],?_,by rw [decR_z (by rw [hp,he,hw]),hp]⟩
 rw [hn]
 cases d<;>cases a<;>cases x<;>cases h<;>simp<;>omega
theorem decR_ok {w:Nat} (h:(decR w).2=0):(0≤(decR w).1.1∧(decR w).1.1≤4)∧¬ badF (decR w).1∧frmE (decR w).1=true∧encR (decR w).1=((w:Int),0):=by
 by_cases he:encR (prs w)=((w:Int),0)
 ·rw [decR_z he]
  simp only
  have hrg:=prs_rng w
  by_cases hk:0≤(prs w).1∧(prs w).1≤4
  ·by_cases hb:badF (prs w)
   ·rw [encR_f hk hb] at he;simp at he
   ·cases hm:frmE (prs w) with
    | false=>rw [encR_m hk hb hm] at he;simp at he
    | true=>exact ⟨hk,hb,rfl,he⟩
  ·rw [encR_k hk] at he;simp at he
 ·rw [decR_n he] at h;simp at h
theorem Pv.put {r:Int} {ns:NdL} {ds:List Dp} (h:Pv (r,ns,ds)) (ht:tbOK (r,ns,ds)) {p:Nat} (hp:p<512) {f:Int} {l w0 w:Nat} (hw:wlk (Mof ns) r p=(f,l,w0)) (hw64:w<2^64) (htb:tabW w=none) (hok:okWb l w=true) :
  Pv (r,(putT (r,ns,ds) p w).2.1,ds)∧tbOK (r,(putT (r,ns,ds) p w).2.1,ds)∧Mof (putT (r,ns,ds) p w).2.1=updW (Mof ns) f (dgt p l) w∧(∀ d q,(d,q)∈Pos→frP WA (Mof (putT (r,ns,ds) p w).2.1) r d q=frP WA (Mof ns) r d q)∧(putT (r,ns,ds) p w).2.1.length=ns.length:=by
 obtain ⟨hl2,hx,hfp,hwm,htn,_⟩:=wlk_at h.vm hp hw
 simp only at hfp hwm hx
 have hwk:=h.walk hp
 simp only at hwk
 have hfn:=hwk.2.1
 have hlv:=hwk.2.2
 rw [hw] at hfn hlv
 simp only at hfn hlv
 have hnl:(lsT (r,ns,ds) p).1<ns.length:=fnd_lt hfn
 have hst:(putT (r,ns,ds) p w).2.1=setN ns (lsT (r,ns,ds) p).1 (dgt p l) w:=by unfold putT;simp only [hlv]
 have hM:Mof (putT (r,ns,ds) p w).2.1=updW (Mof ns) f (dgt p l) w:=by rw [hst];exact Mof_ext (Mof_set h.asc hfn)
 have hpt:=h.vm.put hx hfp (i:=dgt p l) (w:=w) (dgt_lt p l) (by show tabW w=tabW _;rw [← hwm,htb,htn]) (by show okWb (2 - (2 - l)) w=true;rw [show 2 - (2 - l)=l by omega];exact hok)
 simp only at hpt
 rw [← hM] at hpt
 refine ⟨⟨by show ascN (putT (r,ns,ds) p w).2.1;rw [hst];exact setN_asc h.asc hnl,hpt.1⟩,⟨?_,?_,ht.2.2⟩,hM,hpt.2,by rw [hst,setN_len]⟩
 ·show ∀ x∈(putT (r,ns,ds) p w).2.1,ndOK x
  rw [hst];exact setN_ok ht.1 hw64 hnl
 ·show (putT (r,ns,ds) p w).2.1.length≤_
  rw [hst,setN_len];exact ht.2.1
theorem wlk_put {M M':Mm} {root:Int} (hV:VM WA M root) {p:Nat} (hp:p<512) {f:Int} {l w0 w:Nat} (hw:wlk M root p=(f,l,w0)) (htb:tabW w=none) (hM:M'=updW M f (dgt p l) w) (hfr:∀ d q,(d,q)∈Pos→frP WA M' root d q=frP WA M root d q)
  {p':Nat} (hp':p'<512) {f':Int} {l' w':Nat} (hw':wlk M root p'=(f',l',w')):wlk M' root p'=(f',l',if f'=f∧dgt p' l'=dgt p l then w else w'):=by
 obtain ⟨a1,a2,a3,a4,a5,a6⟩:=wlk_at hV hp hw
 obtain ⟨b1,b2,b3,b4,b5,b6⟩:=wlk_at hV hp' hw'
 obtain ⟨ws,c1,c2,_⟩:=hV.nd _ _ a2 f a3
 have e:wM M' f' (dgt p' l')=if f'=f∧dgt p' l'=dgt p l then w else w':=by
  rw [hM,wM_updW c1 (by have:=dgt_lt p l;omega),← b4]
 have:=wlk_of (M:=M') hp' (l:=l') b1 (by rw [hfr _ _ b2];exact b3) (.inl (by
  rw [e]
  split
  ·exact htb
  ·exact b5))
 rw [this,e]
theorem wlk_put_self {M M':Mm} {root:Int} (hV:VM WA M root) {p:Nat} (hp:p<512) {f:Int} {l w0 w:Nat} (hw:wlk M root p=(f,l,w0)) (htb:tabW w=none) (hM:M'=updW M f (dgt p l) w) (hfr:∀ d q,(d,q)∈Pos→frP WA M' root d q=frP WA M root d q):wlk M' root p=(f,l,w):=by
 rw [wlk_put hV hp hw htb hM hfr hp hw,if_pos ⟨rfl,rfl⟩]
end Go.AM
namespace Go.AM
open Go Go.Proofs
abbrev Te:=Int×Int×Nat
abbrev Tl:=Int×List Te
def trB (w:Nat):Bool:=decide ((decR w).2=0∧(decR w).1.1=1)
def hgB (w:Nat):Bool:=decide ((decR w).2=0)&&(decR w).1.2.2.2.2.2
def spn (w:Nat):Int:=if hgB w=true then 8 else 1
def plcB (s p:Int):Bool:=decide (0≤s∧s<8∧0≤p∧p<512)
def cvB (x:Te) (s p:Int):Bool:=decide (x.1=s∧x.2.1≤p∧p<x.2.1+spn x.2.2)
def ovB (a b:Te):Bool:=decide (a.1=b.1∧a.2.1<b.2.1+spn b.2.2∧b.2.1<a.2.1+spn a.2.2)
def efE (x:Te):Int:=if plcB x.1 x.2.1=false then 2 else if trB x.2.2=false∨(hgB x.2.2=true∧x.2.1%8≠0) then 3 else 0
def gt (l:List Te) (i:Nat):Te:=l.getD i (0,0,0)
theorem gt_eq {l:List Te} {i:Nat} (h:i<l.length):gt l i=l[i]:=by
 unfold gt
 rw [List.getD_eq_getElem?_getD,List.getElem?_eq_getElem h];rfl
theorem gt_mem {l:List Te} {i:Nat} (h:i<l.length):gt l i∈l:=by rw [gt_eq h];exact List.getElem_mem h
def erE (l:List Te) (i:Nat):Int:=if efE (gt l i)≠0 then efE (gt l i) else if (l.take i).any (ovB (gt l i))=true then 7 else 0
def frst (f:Nat→Int):Nat→Int
 | 0=>0
 | n+1=>if frst f n≠0 then frst f n else f n
theorem frst_z {f:Nat→Int}:∀ {n:Nat},frst f n=0↔∀ i,i<n→f i=0
 | 0=>by simp [frst]
 | n+1=>by
  have ih:=@frst_z f n
  unfold frst
  constructor
  ·intro h i hi
   by_cases h0:frst f n=0
   ·rw [if_neg (by simp [h0])] at h
    rcases Nat.lt_succ_iff_lt_or_eq.1 hi with h1|rfl
    ·exact ih.1 h0 i h1
    ·exact h
   ·rw [if_pos h0] at h;exact absurd h h0
  ·intro h
   have h0:frst f n=0:=ih.2 fun i hi=>h i (by omega)
   rw [if_neg (by simp [h0])]
   exact h n (by omega)
theorem frst_at {f:Nat→Int} {i:Nat} (hz:∀ j,j<i→f j=0) (h:f i≠0):∀ {n:Nat},i<n→frst f n=f i
 | 0,hn=>by omega
 | n+1,hn=>by
  unfold frst
  rcases Nat.lt_succ_iff_lt_or_eq.1 hn with h1|rfl
  ·have:=frst_at hz h h1
   rw [this,if_pos h]
  ·rw [if_neg]
   simp only [ne_eq,Decidable.not_not]
   exact frst_z.2 hz
def chB (b:Tl):Int:=if b.1<1∨16<b.1 then 1 else if b.1<b.2.length then 8 else frst (erE b.2) b.2.length
theorem chB_z {b:Tl}:chB b=0↔1≤b.1∧b.1≤16∧(b.2.length:Int)≤b.1∧∀ i,i<b.2.length→erE b.2 i=0:=by
 unfold chB
 split
 ·constructor
  ·intro h;simp at h
  ·rintro ⟨h1,h2,_⟩;omega
 ·split
  ·constructor
   ·intro h;simp at h
   ·rintro ⟨_,_,h3,_⟩;omega
  ·rw [frst_z]
   constructor
   ·intro h;exact ⟨by omega,by omega,by omega,h⟩
   ·exact fun h=>h.2.2.2
theorem erE_z {l:List Te} {i:Nat} (h:erE l i=0):efE (gt l i)=0∧∀ y∈l.take i,ovB (gt l i) y=false:=by
 unfold erE at h
 split at h
 ·rename_i h1;exact absurd h h1
 ·rename_i h1
  split at h
  ·simp at h
  ·rename_i h2
   refine ⟨by simpa using h1,fun y hy=>?_⟩
   cases hb:ovB (gt l i) y with
   | false=>rfl
   | true=>exact absurd (List.any_eq_true.2 ⟨y,hy,hb⟩) h2
theorem efE_z {x:Te} (h:efE x=0):(0≤x.1∧x.1<8∧0≤x.2.1∧x.2.1<512)∧trB x.2.2=true∧(hgB x.2.2=true→x.2.1%8=0):=by
 unfold efE at h
 split at h
 ·simp at h
 ·rename_i h1
  split at h
  ·simp at h
  ·rename_i h2
   refine ⟨by unfold plcB at h1;simpa using h1,?_,fun hg=>?_⟩
   ·cases hb:trB x.2.2 with
    | true=>rfl
    | false=>exact absurd (.inl hb) h2
   ·by_cases h3:x.2.1%8=0
    ·exact h3
    ·exact absurd (.inr ⟨hg,h3⟩) h2
def htB (x:Te) (s p:Int):Bool:=if x.1≠s then false else if hgB x.2.2=true then decide (0≤p∧x.2.1=p - p.tmod 8) else decide (x.2.1=p)
theorem ht_cv {x:Te} (h:efE x=0) (s p:Int):htB x s p=cvB x s p:=by
 obtain ⟨⟨h1,h2,h3,h4⟩,h5,h6⟩:=efE_z h
 unfold htB cvB spn
 by_cases e:x.1=s
 ·rw [if_neg (by simp [e])]
  cases hg:hgB x.2.2 with
  | true =>
   have h7:=h6 hg
   simp only [if_true]
   rw [decide_eq_decide]
   by_cases hp:0≤p
   ·rw [Int.tmod_eq_emod_of_nonneg hp]
    constructor
    ·rintro ⟨_,k⟩;exact ⟨e,by omega,by omega⟩
    ·rintro ⟨_,k1,k2⟩;exact ⟨hp,by omega⟩
   ·constructor
    ·rintro ⟨k,_⟩;exact absurd k hp
    ·rintro ⟨_,k1,k2⟩;omega
  | false =>
   simp only [Bool.false_eq_true,if_false]
   rw [decide_eq_decide]
   constructor
   ·intro k;exact ⟨e,by omega,by omega⟩
   ·rintro ⟨_,k1,k2⟩;omega
 ·rw [if_pos e]
  exact (decide_eq_false (by rintro ⟨k,_⟩;exact e k)).symm
def grp (p:Int):Int:=p - p.tmod 8
theorem ov_ref {a b:Te} (ha:efE a=0) (hb:efE b=0):(∃ i:Nat,i<8∧htB a b.1 (grp b.2.1+i)=true∧htB b b.1 (grp b.2.1+i)=true)↔ovB a b=true:=by
 obtain ⟨⟨a1,a2,a3,a4⟩,_,a6⟩:=efE_z ha
 obtain ⟨⟨b1,b2,b3,b4⟩,_,b6⟩:=efE_z hb
 have hg:grp b.2.1=b.2.1 - b.2.1%8:=by unfold grp;rw [Int.tmod_eq_emod_of_nonneg b3]
 have hsa:spn a.2.2=1∨(spn a.2.2=8∧a.2.1%8=0):=by
  unfold spn
  cases h:hgB a.2.2 with
  | true=>exact .inr ⟨rfl,a6 h⟩
  | false=>exact .inl rfl
 have hsb:spn b.2.2=1∨(spn b.2.2=8∧b.2.1%8=0):=by
  unfold spn
  cases h:hgB b.2.2 with
  | true=>exact .inr ⟨rfl,b6 h⟩
  | false=>exact .inl rfl
 constructor
 ·rintro ⟨i,hi,h1,h2⟩
  rw [ht_cv ha] at h1
  rw [ht_cv hb] at h2
  unfold cvB at h1 h2
  simp only [decide_eq_true_eq] at h1 h2
  unfold ovB
  rw [decide_eq_true_eq]
  exact ⟨h1.1,by omega,by omega⟩
 ·intro h
  unfold ovB at h
  rw [decide_eq_true_eq] at h
  obtain ⟨k1,k2,k3⟩:=h
  have hq:∃ q:Int,a.2.1≤q∧q<a.2.1+spn a.2.2∧b.2.1≤q∧q<b.2.1+spn b.2.2:=by
   by_cases hle:a.2.1≤b.2.1
   ·exact ⟨b.2.1,by omega,by omega,by omega,by omega⟩
   ·exact ⟨a.2.1,by omega,by omega,by omega,by omega⟩
  obtain ⟨q,q1,q2,q3,q4⟩:=hq
  refine ⟨(q - grp b.2.1).toNat,by omega,?_,?_⟩
  ·rw [ht_cv ha]
   unfold cvB
   rw [decide_eq_true_eq]
   exact ⟨k1,by omega,by omega⟩
  ·rw [ht_cv hb]
   unfold cvB
   rw [decide_eq_true_eq]
   exact ⟨rfl,by omega,by omega⟩
theorem ovB_comm {a b:Te}:ovB a b=ovB b a:=by
 unfold ovB
 rw [decide_eq_decide]
 constructor
 ·rintro ⟨h1,h2,h3⟩;exact ⟨h1.symm,h3,h2⟩
 ·rintro ⟨h1,h2,h3⟩;exact ⟨h1.symm,h3,h2⟩
def zB:Tl:=(0,[])
def lkT (b:Tl) (s p:Int):Nat×Bool:=if chB b≠0 then (0,false) else match b.2.find? fun x=>cvB x s p with
 | some x=>(x.2.2,true)
 | none=>(0,false)
def fiX (s p:Int) (w:Nat):Te:=(s,if hgB w=true then p - p%8 else p,w)
def fiL (b:Tl) (x:Te):List Te:=(if ((b.2.filter fun y=>!ovB x y).length:Int)=b.1 then (b.2.filter fun y=>!ovB x y).drop 1 else b.2.filter fun y=>!ovB x y)++[x]
def fiT (b:Tl) (s p:Int) (w:Nat):Tl×Int:=if chB b≠0 then (zB,chB b) else if plcB s p=false then (zB,2) else if trB w=false then (zB,3) else ((b.1,fiL b (fiX s p w)),0)
def inT (b:Tl) (s p:Int):Tl×Int:=if chB b≠0 then (zB,chB b) else if plcB s p=false then (zB,2) else ((b.1,b.2.filter fun y=>!cvB y s p),0)
def mkW (w:Nat) (wr:Bool):Nat×Int:=if (decR w).2≠0 then (0,(decR w).2) else if (decR w).1.1≠1 then (0,11) else if wr=false then (w ||| 16,0) else if (decR w).1.2.2.1=false then (0,12) else (w ||| 16 ||| 32,0)
def odW (w:Nat):Nat×Int:=if (decR w).2≠0 then (0,(decR w).2) else if (decR w).1.1≠1 then (0,11) else (w &&& (18446744073709551615 - 16),0)
def frmG (e:En) (p:Int):Int:=if e.2.2.2.2.2=true then e.2.1+p%8 else e.2.1
def rfE (e:En) (wr:Bool):Int:=if e.1≠1 then 13 else if wr=true∧e.2.2.1=false then 12 else 0
end Go.AM
namespace Go.AM
open Go Go.Proofs
theorem tab0:tabW 0=none:=(wdZ fun _=>true).tab
theorem ok0 (l:Nat):okWb l 0=true:=(wdZ fun _=>true).ok l
end Go.AM
namespace Go.AM
open Go Go.Proofs
set_option maxRecDepth 20000
theorem sameKV_int {q:IntKind}:∀ {n:Nat} {xs:List Value},sameKV (List.replicate n (.int q 0)) xs=true→∃ ls:List Int,xs=ls.map (Value.int q)∧ls.length=n
 | 0,[],_=>⟨[],rfl,rfl⟩
 | 0,x::xs,h=>by simp [sameKV] at h
 | n+1,[],h=>by simp [List.replicate_succ,sameKV] at h
 | n+1,x::xs,h=>by
  rw [List.replicate_succ] at h
  cases x<;>simp only [sameKV,Bool.and_eq_true,decide_eq_true_eq,Bool.false_eq_true] at h
  obtain ⟨rfl,h⟩:=h
  obtain ⟨ls,rfl,h2⟩:=sameKV_int h
  exact ⟨_::ls,rfl,by simp [h2]⟩
theorem eqV_int {q:IntKind}:∀ {ls:List Int} {ys:List Value} {b:Bool},eqV (ls.map (Value.int q)) ys=some b→∃ bs:List Int,ys=bs.map (Value.int q)∧bs.length=ls.length∧b=decide (ls=bs)
 | [],[],b,h=>by simp [eqV] at h;exact ⟨[],rfl,rfl,by simp [h]⟩
 | [],y::ys,b,h=>by simp [eqV] at h
 | a::ls,[],b,h=>by simp [eqV] at h
 | a::ls,y::ys,b,h=>by
  cases y<;>simp only [List.map_cons,eqV,reduceCtorEq] at h
  split at h
  case isFalse=>simp at h
  rename_i hk
  subst hk
  cases hr:eqV (ls.map (Value.int q)) ys with
  | none=>rw [hr] at h;simp at h
  | some r =>
   rw [hr] at h
   simp only [Option.map_some,Option.some.injEq] at h
   obtain ⟨bs,rfl,h2,rfl⟩:=eqV_int hr
   refine ⟨_::bs,rfl,by simp [h2],?_⟩
   rw [← h]
   simp
theorem eqI (w:World) {e:TypeId} {q:IntKind} (he:Try.prog.plainKey e=true) (hu:Try.prog.underlying e=some (.int q)) (d:Nat):∀ {ls bs:List Int} {k:Nat} {px py:List Value},px.length=k→py.length=k→ls.length=bs.length →
  (Op.eqItems (d+1) e 1 (px++ls.map (Value.int q)).toArray (py++bs.map (Value.int q)).toArray (List.range' k ls.length)).run Try.prog w=.ok (decide (ls=bs)) w
 | [],[],k,px,py,hp,hq,_=>rfl
 | [],_::_,_,_,_,_,_,h=>by simp at h
 | _::_,[],_,_,_,_,_,h=>by simp at h
 | a::ls,b::bs,k,px,py,hp,hq,hl=>by
  have hx:(px++(a::ls).map (Value.int q)).toArray[k*1]?=some (.int q a):=by simp [← hp]
  have hy:(py++(b::bs).map (Value.int q)).toArray[k*1]?=some (.int q b):=by simp [← hq]
  have ex:px++(a::ls).map (Value.int q)=(px++[.int q a])++ls.map (Value.int q):=by simp
  have ey:py++(b::bs).map (Value.int q)=(py++[.int q b])++bs.map (Value.int q):=by simp
  rw [show (a::ls).length=ls.length+1 from rfl,List.range'_succ]
  simp only [Op.eqItems,Sem.run_bind]
  rw [run_part_plain w he hx]
  simp only [Result.andThen_ok]
  rw [run_part_plain w he hy]
  simp only [Result.andThen_ok]
  rw [run_equalIn_int w _ e q q _ _ hu]
  simp only [Result.andThen_ok]
  have ih:=eqI w he hu d (ls:=ls) (bs:=bs) (k:=k+1) (px:=px++[.int q a]) (py:=py++[.int q b]) (by simp [hp]) (by simp [hq]) (by simpa using hl)
  rw [← ex,← ey] at ih
  by_cases e1:a=b
  ·subst e1
   simp only [beq_self_eq_true,Bool.not_true,Bool.false_eq_true,if_false]
   rw [ih]
   simp
  ·have hb:(a == b)=false:=by simpa using e1
   simp only [hb,Bool.not_false,if_true,Sem.run_pure]
   simp [e1]
theorem uW8:Try.prog.underlying 52=some (.array 8 51):=by kernel_rfl
theorem uU64:Try.prog.underlying 51=some (.int .u64):=by kernel_rfl
theorem pkU64:Try.prog.plainKey 51=true:=by kernel_rfl
theorem clU64:Try.prog.cellsOf 51=1:=by kernel_rfl
theorem clW8:Try.prog.cellsOf 52=8:=by kernel_rfl
theorem eqW (w:World) {ls bs:List Int} (ha:ls.length=8) (hb:bs.length=8) (d:Nat):(Op.equalIn (d+2) 52 (.agg (ls.map (Value.int .u64)).toArray) (.agg (bs.map (Value.int .u64)).toArray)).run Try.prog w=.ok (decide (ls=bs)) w:=by
 obtain ⟨i,hi⟩:=info_of_underlying uU64
 rw [run_equalIn_array w (d+1) _ _ uW8 hi,clU64,List.range_eq_range']
 have:=eqI w pkU64 uU64 d (ls:=ls) (bs:=bs) (k:=0) (px:=[]) (py:=[]) rfl rfl (by omega)
 rw [ha] at this
 simpa using this
theorem ckI (w:World) (em:Bool) (d:Nat) {e:TypeId} {q:IntKind} (he:Try.prog.plainKey e=true) (hu:Try.prog.underlying e=some (.int q)) (hs:∀ w,(sizeOf e).run Try.prog w=.ok 1 w):∀ {ls:List Int} {k:Nat} {px:List Value},px.length=k →
  (forIn (List.range' k ls.length) PUnit.unit fun i (_:PUnit)=>(do
    let a ← sizeOf e
    let b ← part e (px++ls.map (Value.int q)).toArray (i*a)
    Instr.checkKey em (d+1) e b
    pure (ForInStep.yield PUnit.unit):Sem (ForInStep PUnit))).run Try.prog w=.ok PUnit.unit w
 | [],k,px,_=>rfl
 | a::ls,k,px,hp=>by
  have hx:(px++(a::ls).map (Value.int q)).toArray[k*1]?=some (.int q a):=by simp [← hp]
  have ex:px++(a::ls).map (Value.int q)=(px++[.int q a])++ls.map (Value.int q):=by simp
  have ih:=ckI w em d he hu hs (ls:=ls) (k:=k+1) (px:=px++[.int q a]) (by simp [hp])
  rw [← ex] at ih
  rw [show (a::ls).length=ls.length+1 from rfl,List.range'_succ]
  simp only [List.forIn_cons,Sem.run_bind]
  rw [hs]
  simp only [Result.andThen_ok]
  rw [run_part_plain w he hx]
  simp only [Result.andThen_ok,ckP (v:=.int q a) he hu,Sem.run_pure]
  exact ih
theorem szU (w:World):(sizeOf 51).run Try.prog w=.ok 1 w:=by
 obtain ⟨i,hi⟩:=info_of_underlying uU64
 rw [run_sizeOf w hi,clU64]
theorem ckW (w:World) (em:Bool) (d:Nat) {ls:List Int} (ha:ls.length=8):(Instr.checkKey em (d+2) 52 (.agg (ls.map (Value.int .u64)).toArray)).run Try.prog w=.ok () w:=by
 rw [show d+2=d+1+1 from rfl,Instr.checkKey]
 simp only [Sem.run_bind,run_underlying uW8,Result.andThen_ok]
 simp only [Std.Legacy.Range.forIn_eq_forIn_range',Std.Legacy.Range.size,Nat.sub_zero,Nat.add_one_sub_one,Nat.div_one]
 have:=ckI w em d pkU64 uU64 szU (ls:=ls) (k:=0) (px:=[]) rfl
 rw [ha] at this
 simp only [List.nil_append] at this
 rw [this]
 rfl
theorem guardW:Try.prog.eqGuardType Try.prog.depth 52=false:=by kernel_rfl
theorem eqW8:EqOK Try.prog 52:=by
 intro d hd
 rw [tyW8,Option.some.injEq] at hd
 subst hd
 refine ⟨fun w xs b hk=>?_,fun w xs ys b hk he=>⟨?_,guardW⟩⟩
 ·obtain ⟨ls,rfl,ha⟩:=sameKV_int hk
  exact ckW w b 9998 ha
 ·obtain ⟨ls,rfl,ha⟩:=sameKV_int hk
  obtain ⟨bs,rfl,hb,rfl⟩:=eqV_int he
  exact eqW w ha (by omega) 9998
theorem uN:Try.prog.underlying 54=some (.struct (Try.prog.fieldsOf 54)):=by kernel_rfl
theorem stN:Try.prog.stoodInHeld 54=false:=by kernel_rfl
theorem guardN:Try.prog.eqGuardType Try.prog.depth 54=false:=by kernel_rfl
theorem partW (w:World) (x:Value) {ls:List Int} (ha:ls.length=8):(part 52 (x::ls.map (Value.int .u64)).toArray 1).run Try.prog w=.ok (.agg (ls.map (Value.int .u64)).toArray) w:=by
 obtain ⟨i,hi⟩:=info_of_underlying uW8
 have:((x::ls.map (Value.int .u64)).toArray.extract 1 9)=(ls.map (Value.int .u64)).toArray:=by
  apply Array.ext'
  rw [Array.toList_extract]
  simp [List.extract,ha,List.take_of_length_le]
 have tk:List.take 8 (ls.map (Value.int .u64))=ls.map (Value.int .u64):=List.take_of_length_le (by simp [ha])
 simp [part,isAgg,run_underlying uW8,run_sizeOf w hi,clW8,this,tk]
theorem fldN : ∃ n1 n2 f1 f2, (Try.prog.fieldsOf 54).toList = [f1, f2] ∧ f1.name = n1 ∧ f2.name = n2 ∧ n1 ≠ "_" ∧ n2 ≠ "_" ∧ f1.type = 3 ∧ f2.type = 52 ∧ f1.offset = 0 ∧ f2.offset = 1 :=
 ⟨ "Frame", "Entries", (Try.prog.fieldsOf 54)[0]!, (Try.prog.fieldsOf 54)[1]!, by kernel_rfl, by kernel_rfl, by kernel_rfl, by decide, by decide, by kernel_rfl, by kernel_rfl, by kernel_rfl, by kernel_rfl⟩
theorem pk3:Try.prog.plainKey 3=true:=by kernel_rfl
theorem eqN:EqOK Try.prog 54:=by
 intro d hd
 rw [tyN,Option.some.injEq] at hd
 subst hd
 obtain ⟨n1,n2,f1,f2,hf,e1,e2,e3,e4,e5,e6,e7,e8⟩:=fldN
 have form:∀ {xs:List Value},sameKV (Value.int .i64 0::List.replicate 8 (.int .u64 0)) xs=true→∃ (x:Int) (ls:List Int),xs=.int .i64 x::ls.map (Value.int .u64)∧ls.length=8:=fun {xs} h=>by
  cases xs with
  | nil=>simp [sameKV] at h
  | cons x xs =>
   cases x<;>simp only [sameKV,Bool.and_eq_true,decide_eq_true_eq,Bool.false_eq_true] at h
   obtain ⟨rfl,h⟩:=h
   obtain ⟨ls,rfl,h2⟩:=sameKV_int h
   exact ⟨_,ls,rfl,h2⟩
 refine ⟨fun w xs b hk=>?_,fun w xs ys b hk he=>⟨?_,guardN⟩⟩
 ·obtain ⟨x,ls,rfl,ha⟩:=form hk
  rw [show (10000:Nat)=9999+1 from rfl,Instr.checkKey]
  simp only [Sem.run_bind,run_underlying uN,Result.andThen_ok]
  rw [← Array.forIn_toList,hf]
  have hx:(Value.int .i64 x::ls.map (Value.int .u64)).toArray[0]?=some (.int .i64 x):=by simp
  simp only [List.forIn_cons,List.forIn_nil,Sem.run_bind,e1,e2,e5,e6,e7,e8]
  rw [if_pos e3]
  simp only [Sem.run_bind]
  rw [run_part_plain w pk3 hx]
  simp only [Result.andThen_ok,ckP (v:=.int .i64 x) (d:=9998) pk3 und3,Sem.run_pure]
  rw [if_pos e4]
  simp only [Sem.run_bind]
  rw [partW w _ ha]
  simp only [Result.andThen_ok]
  rw [ckW w b 9997 ha]
  rfl
 ·obtain ⟨x,ls,rfl,ha⟩:=form hk
  cases ys with
  | nil=>simp [eqV] at he
  | cons y ys =>
   cases y<;>simp only [eqV,reduceCtorEq] at he
   split at he
   case isFalse=>simp at he
   rename_i q y hq
   subst hq
   cases hr:eqV (ls.map (Value.int .u64)) ys with
   | none=>rw [hr] at he;simp at he
   | some r =>
    rw [hr] at he
    simp only [Option.map_some,Option.some.injEq] at he
    obtain ⟨bs,rfl,hb,rfl⟩:=eqV_int hr
    unfold Op.equal
    rw [show Op.maxDepth=9999+1 from rfl,run_equalIn_agg w _ _ _ _ uN stN,hf]
    simp only [Op.eqFields]
    rw [e1,if_pos e3,e5,e7]
    simp only [Sem.run_bind]
    rw [run_part_plain w pk3 (show (Value.int .i64 x::ls.map (Value.int .u64)).toArray[0]?=some (.int .i64 x) by simp)]
    simp only [Result.andThen_ok]
    rw [run_part_plain w pk3 (show (Value.int .i64 y::bs.map (Value.int .u64)).toArray[0]?=some (.int .i64 y) by simp)]
    simp only [Result.andThen_ok]
    rw [show (9999:Nat)=9998+1 from rfl,run_equalIn_int w _ 3 .i64 .i64 _ _ und3]
    simp only [Result.andThen_ok]
    by_cases exy:x=y
    ·subst exy
     simp only [beq_self_eq_true,Bool.not_true,Bool.false_eq_true,if_false]
     rw [e2,if_pos e4,e6,e8]
     simp only [Sem.run_bind]
     rw [partW w _ ha]
     simp only [Result.andThen_ok]
     rw [partW w _ (by omega)]
     simp only [Result.andThen_ok]
     rw [show 9998+1=9997+2 from rfl,eqW w ha (by omega) 9997]
     simp only [Result.andThen_ok]
     rw [← he]
     by_cases eab:ls=bs
     ·subst eab;simp
     ·simp [eab]
    ·have hb2:(x == y)=false:=by simpa using exy
     simp only [hb2,Bool.not_false,if_true,Sem.run_pure]
     rw [← he];simp [exy]
end Go.AM
namespace Go.AM
open Go Go.Proofs
theorem eqL_wcs:∀ {a b:List Nat},a.length=b.length→eqL (wcs a) (wcs b)=some (decide (a=b))
 | [],[],_=>rfl
 | [],_::_,h=>by simp at h
 | _::_,[],h=>by simp at h
 | x::a,y::b,h=>by
  have ih:=eqL_wcs (a:=a) (b:=b) (by simpa using h)
  show eqL (.v (.int .u64 x)::wcs a) (.v (.int .u64 y)::wcs b)=_
  simp only [eqL,ih,if_true,Option.map_some,Option.some.injEq,List.cons.injEq]
  by_cases e:x=y
  ·subst e;simp
  ·have:¬ (x:Int)=y:=by omega
   simp [e,this]
theorem sameK_wcs:∀ {n:Nat} {a:List Nat},a.length=n→sameK (List.replicate n (.int .u64 0)) (wcs a)=true
 | 0,[],_=>rfl
 | n+1,x::a,h=>by
  rw [List.replicate_succ]
  show (decide (IntKind.u64=IntKind.u64)&&sameK _ (wcs a))=true
  rw [sameK_wcs (by simpa using h)];rfl
 | 0,_::_,h=>by simp at h
 | _+1,[],h=>by simp at h
theorem list_ext_gn {a b:List Nd} (hl:a.length=b.length) (h:∀ j,j<a.length→gn a j=gn b j):a=b:=by
 refine List.ext_getElem hl fun i h1 h2=>?_
 have:=h i h1
 rw [gn_eq h1,gn_eq h2] at this
 exact this
theorem list_ext_gp {a b:List Dp} (hl:a.length=b.length) (h:∀ j,j<a.length→gp a j=gp b j):a=b:=by
 refine List.ext_getElem hl fun i h1 h2=>?_
 have:=h i h1
 rw [gp_eq h1,gp_eq h2] at this
 exact this
set_option maxHeartbeats 4000000 in
theorem s22 (X:AX) (hX:XOK Try.prog X) (hw:X.W wT) (hen:X.eqs 54=true) (hed:X.eqs 102=true):PSound Try.prog 22 (specF (ι:={x:Tb×Tb // tbOK x.1∧tbOK x.2}) (fun x=>[TbV x.1.1,TbV x.1.2]) fun x=>retOf [B (decide (x.1.1=x.1.2))]):=by
 refine psound_spec hX mixed Try.func22 rfl fun ⟨⟨⟨r,ns,ds⟩,⟨r',ns',ds'⟩⟩,ht,ht'⟩ w0 G=>⟨by show 2≤66;decide,rfl,?_⟩
 show AW ⟨Try.prog,X,66,w0,.pure G⟩ _ _ _
 have hc:Cx.OK ⟨Try.prog,X,66,w0,.pure G⟩:=⟨hX,mixed⟩
 simp only at ht ht' ⊢
 have hl1:ns.length≤1000000:=ht.2.1
 have hl2:ds.length≤1000000:=ht.2.2
 have hl1':ns'.length≤1000000:=ht'.2.1
 have hl2':ds'.length≤1000000:=ht'.2.2
 simp only [TbV]
 rcases Decidable.em (r=r') with h1|h1
 ·subst h1
  rcases Decidable.em (ns.length=ns'.length) with h2|h2
  ·have h2I:(ns.length:Int)=(ns'.length:Int):=by omega
   rcases Decidable.em (ds.length=ds'.length) with h3|h3
   ·have h3I:(ds.length:Int)=(ds'.length:Int):=by omega
    have zS:=jj h2<|h3
    repeat' (first|(apply aw_seq_k;intro K hK)|(refine eM64 ?_)|(refine aw_cond (b:=_) (by exact rfl) (fun h=>?_) (fun h=>?_)<;>(try simp at h))|(refine eB ?_)|(refine hK _ ?_;clear hK)|(clear hK;refine hK _ ?_;clear hK)|(clear hK;clear hK;refine hK _ ?_;clear hK)|(clear hK;clear hK;clear hK;refine hK _ ?_;clear hK))
    all_goals clear zS
    refine aw_loopK (s0:=?lps1) (m0:=?lpm1) (ι:={i:Nat // i≤ns'.length∧∀ j,j<i→gn ns j=gn ns' j}) [2,3,32] (fun s=>[(33,I s.1)]) (fun _=>[]) (fun s=>ns'.length - s.1) ⟨0,by omega,by omega⟩ ?lhs1 ?lhm1 ?_ ?_
    case lhs1=>first|(simp [keepS];done)|(simp [keepS];rfl)
    case lhm1=>first|rfl|(simp;done)|(simp;rfl)
    ·exact dle
    ·rintro ⟨i,hi,hinv⟩
     simp only
     rcases Decidable.em (i<ns'.length) with hil|hil
     ·have hilI:(i:Int)<(ns'.length:Int):=by omega
      have hil2:i<ns.length:=by omega
      have hil2I:(i:Int)<(ns.length:Int):=by omega
      have hg:=nrows_gi hil2
      have hgE:=nrows_gE hil2
      have hg':=nrows_gi hil
      have hgE':=nrows_gE hil
      have hlen:=(ht.1 _ (gn_mem hil2)).1
      have hlen':=(ht'.1 _ (gn_mem hil)).1
      have hdf:gn ns i≠gn ns' i→¬ (r,ns,ds)=(r,ns',ds'):=fun h e=>h (by simp only [Prod.mk.injEq] at e;rw [e.2.1])
      have hinv2:gn ns i=gn ns' i→∀ j,j<i+1→gn ns j=gn ns' j:=fun h j hj=>by
       rcases Nat.lt_succ_iff_lt_or_eq.1 hj with h5|rfl
       ·exact hinv j h5
       ·exact h
      obtain ⟨⟨a,ws⟩,hm⟩:∃ m,m=gn ns i:=⟨_,rfl⟩
      obtain ⟨⟨b,vs⟩,hm'⟩:∃ m,m=gn ns' i:=⟨_,rfl⟩
      rw [← hm,← hm'] at hdf hinv2
      rw [← hm] at hg hgE hlen
      rw [← hm'] at hg' hgE' hlen'
      simp only at hg hgE hlen hg' hgE' hlen'
      have heq:=eqL_wcs (a:=ws) (b:=vs) (by omega)
      have hsk:=sameK_wcs hlen
      have hsk':=sameK_wcs hlen'
      simp only [List.reduceReplicate] at hsk hsk'
      have hcl:(wcs ws).length=8:=by simp [hlen]
      have hcl':(wcs vs).length=8:=by simp [hlen']
      obtain ⟨cs,hcs⟩:∃ cs,cs=wcs ws:=⟨_,rfl⟩
      obtain ⟨cs',hcs'⟩:∃ cs,cs=wcs vs:=⟨_,rfl⟩
      rw [← hcs] at hg hgE heq hsk hcl
      rw [← hcs'] at hg' hgE' heq hsk' hcl'
      clear hm hm' hcs hcs'
      have htk:List.take 8 cs=cs:=List.take_of_length_le (by omega)
      have htk':List.take 8 cs'=cs':=List.take_of_length_le (by omega)
      rcases Decidable.em (a=b) with e1|e1
      ·subst e1
       rcases Decidable.em (ws=vs) with e2|e2
       ·subst e2
        rw [decide_eq_true rfl] at heq
        have:=hinv2 rfl
        have zS:=jj hilI<|jj hil<|jj hil2<|jj hil2I<|jj hg<|jj hgE<|jj hg'<|jj hgE'<|jj htk<|jj htk'<|jj heq<|jj hsk<|jj hsk'<|jj hcl<|jj hcl'<|jj hen<|jj eqLs<|jj sameKs<|h2
        repeat' (first|(apply aw_seq_k;intro K hK)|(refine eM64 ?_)|(refine aw_cond (b:=_) (by exact rfl) (fun h=>?_) (fun h=>?_)<;>(try simp at h))|(refine eB ?_)|(refine hK _ ?_;clear hK)|(clear hK;refine hK _ ?_;clear hK)|(clear hK;clear hK;refine hK _ ?_;clear hK)|(clear hK;clear hK;clear hK;refine hK _ ?_;clear hK))
        all_goals clear zS
        refine ⟨i+1,?_,⟨by omega,this⟩,by omega⟩
        exact dle
       ·rw [decide_eq_false e2] at heq
        have e:=hdf (by simpa using e2)
        have zS:=jj hilI<|jj hil<|jj hil2<|jj hil2I<|jj hg<|jj hgE<|jj hg'<|jj hgE'<|jj htk<|jj htk'<|jj heq<|jj hsk<|jj hsk'<|jj hcl<|jj hcl'<|jj hen<|jj eqLs<|jj sameKs<|h2
        repeat' (first|(apply aw_seq_k;intro K hK)|(refine eM64 ?_)|(refine aw_cond (b:=_) (by exact rfl) (fun h=>?_) (fun h=>?_)<;>(try simp at h))|(refine eB ?_)|(refine hK _ ?_;clear hK)|(clear hK;refine hK _ ?_;clear hK)|(clear hK;clear hK;refine hK _ ?_;clear hK)|(clear hK;clear hK;clear hK;refine hK _ ?_;clear hK))
        all_goals clear zS
        refine ⟨by simp,?_⟩
        simp [leaves_iff,Try.f22,e]
        try exact dt
      ·have e:=hdf (by simp [e1])
       have e1':¬ b=a:=fun h=>e1 h.symm
       rcases Decidable.em (ws=vs) with e2|e2
       ·rw [decide_eq_true e2] at heq
        have zS:=jj hilI<|jj hil<|jj hil2<|jj hil2I<|jj hg<|jj hgE<|jj hg'<|jj hgE'<|jj htk<|jj htk'<|jj heq<|jj hsk<|jj hsk'<|jj hcl<|jj hcl'<|jj hen<|jj eqLs<|jj sameKs<|jj h2<|jj e1<|e1'
        repeat' (first|(apply aw_seq_k;intro K hK)|(refine eM64 ?_)|(refine aw_cond (b:=_) (by exact rfl) (fun h=>?_) (fun h=>?_)<;>(try simp at h))|(refine eB ?_)|(refine hK _ ?_;clear hK)|(clear hK;refine hK _ ?_;clear hK)|(clear hK;clear hK;refine hK _ ?_;clear hK)|(clear hK;clear hK;clear hK;refine hK _ ?_;clear hK))
        all_goals clear zS
        refine ⟨by simp,?_⟩
        simp [leaves_iff,Try.f22,e]
        try exact dt
       ·rw [decide_eq_false e2] at heq
        have zS:=jj hilI<|jj hil<|jj hil2<|jj hil2I<|jj hg<|jj hgE<|jj hg'<|jj hgE'<|jj htk<|jj htk'<|jj heq<|jj hsk<|jj hsk'<|jj hcl<|jj hcl'<|jj hen<|jj eqLs<|jj sameKs<|jj h2<|jj e1<|e1'
        repeat' (first|(apply aw_seq_k;intro K hK)|(refine eM64 ?_)|(refine aw_cond (b:=_) (by exact rfl) (fun h=>?_) (fun h=>?_)<;>(try simp at h))|(refine eB ?_)|(refine hK _ ?_;clear hK)|(clear hK;refine hK _ ?_;clear hK)|(clear hK;clear hK;refine hK _ ?_;clear hK)|(clear hK;clear hK;clear hK;refine hK _ ?_;clear hK))
        all_goals clear zS
        refine ⟨by simp,?_⟩
        simp [leaves_iff,Try.f22,e]
        try exact dt
     ·obtain rfl:i=ns'.length:=by omega
      have hns:ns=ns':=list_ext_gn h2 fun j hj=>hinv j (by omega)
      clear hinv
      have zS:=h3
      repeat' (first|(apply aw_seq_k;intro K hK)|(refine eM64 ?_)|(refine aw_cond (b:=_) (by exact rfl) (fun h=>?_) (fun h=>?_)<;>(try simp at h))|(refine eB ?_)|(refine hK _ ?_;clear hK)|(clear hK;refine hK _ ?_;clear hK)|(clear hK;clear hK;refine hK _ ?_;clear hK)|(clear hK;clear hK;clear hK;refine hK _ ?_;clear hK))
      all_goals clear zS
      refine aw_loopK (s0:=?lps2) (m0:=?lpm2) (ι:={i:Nat // i≤ds'.length∧∀ j,j<i→gp ds j=gp ds' j}) [2,3,50] (fun s=>[(51,I s.1)]) (fun _=>[]) (fun s=>ds'.length - s.1) ⟨0,by omega,by omega⟩ ?lhs2 ?lhm2 ?_ ?_
      case lhs2=>first|(simp [keepS];done)|(simp [keepS];rfl)
      case lhm2=>first|rfl|(simp;done)|(simp;rfl)
      ·exact dle
      ·rintro ⟨i,hi,hinv⟩
       simp only
       rcases Decidable.em (i<ds'.length) with hil|hil
       ·have hilI:(i:Int)<(ds'.length:Int):=by omega
        have hil2:i<ds.length:=by omega
        have hil2I:(i:Int)<(ds.length:Int):=by omega
        have hg:=prows_gi hil2
        have hgE:=prows_gE hil2
        have hg':=prows_gi hil
        have hgE':=prows_gE hil
        have hdf:gp ds i≠gp ds' i→¬ (r,ns,ds)=(r,ns',ds'):=fun h e=>h (by simp only [Prod.mk.injEq] at e;rw [e.2.2])
        have hinv2:gp ds i=gp ds' i→∀ j,j<i+1→gp ds j=gp ds' j:=fun h j hj=>by
         rcases Nat.lt_succ_iff_lt_or_eq.1 hj with h5|rfl
         ·exact hinv j h5
         ·exact h
        obtain ⟨⟨a,b⟩,hm⟩:∃ m,m=gp ds i:=⟨_,rfl⟩
        obtain ⟨⟨c,d⟩,hm'⟩:∃ m,m=gp ds' i:=⟨_,rfl⟩
        rw [← hm,← hm'] at hdf hinv2
        rw [← hm] at hg hgE
        rw [← hm'] at hg' hgE'
        simp only at hg hgE hg' hgE'
        clear hm hm'
        rcases Decidable.em (a=c∧b=d) with e1|e1
        ·obtain ⟨rfl,rfl⟩:=e1
         have:=hinv2 rfl
         have zS:=jj hilI<|jj hil<|jj hil2<|jj hil2I<|jj hg<|jj hgE<|jj hg'<|jj hgE'<|jj hed<|jj eqLs<|jj sameKs<|h3
         repeat' (first|(apply aw_seq_k;intro K hK)|(refine eM64 ?_)|(refine aw_cond (b:=_) (by exact rfl) (fun h=>?_) (fun h=>?_)<;>(try simp at h))|(refine eB ?_)|(refine hK _ ?_;clear hK)|(clear hK;refine hK _ ?_;clear hK)|(clear hK;clear hK;refine hK _ ?_;clear hK)|(clear hK;clear hK;clear hK;refine hK _ ?_;clear hK))
         all_goals clear zS
         refine ⟨i+1,?_,⟨by omega,this⟩,by omega⟩
         exact dle
        ·have e:=hdf (by simp;omega)
         have e2:a=c→¬ b=d:=by omega
         have zS:=jj hilI<|jj hil<|jj hil2<|jj hil2I<|jj hg<|jj hgE<|jj hg'<|jj hgE'<|jj hed<|jj eqLs<|jj sameKs<|jj h3<|jj e1<|e2
         repeat' (first|(apply aw_seq_k;intro K hK)|(refine eM64 ?_)|(refine aw_cond (b:=_) (by exact rfl) (fun h=>?_) (fun h=>?_)<;>(try simp at h))|(refine eB ?_)|(refine hK _ ?_;clear hK)|(clear hK;refine hK _ ?_;clear hK)|(clear hK;clear hK;refine hK _ ?_;clear hK)|(clear hK;clear hK;clear hK;refine hK _ ?_;clear hK))
         all_goals clear zS
         refine ⟨by simp,?_⟩
         simp [leaves_iff,Try.f22,e]
         try exact dt
       ·obtain rfl:i=ds'.length:=by omega
        have hds:ds=ds':=list_ext_gp h3 fun j hj=>hinv j (by omega)
        have zS:=h3
        repeat' (first|(apply aw_seq_k;intro K hK)|(refine eM64 ?_)|(refine aw_cond (b:=_) (by exact rfl) (fun h=>?_) (fun h=>?_)<;>(try simp at h))|(refine eB ?_)|(refine hK _ ?_;clear hK)|(clear hK;refine hK _ ?_;clear hK)|(clear hK;clear hK;refine hK _ ?_;clear hK)|(clear hK;clear hK;clear hK;refine hK _ ?_;clear hK))
        all_goals clear zS
        refine ⟨by simp,?_⟩
        simp [leaves_iff,Try.f22,hns,hds]
        try exact dt
   ·have h3I:¬ (ds.length:Int)=(ds'.length:Int):=by omega
    have e:¬ (r,ns,ds)=(r,ns',ds'):=fun e=>by simp only [Prod.mk.injEq] at e;exact h3 (by rw [e.2.2])
    have zS:=jj h2<|jj h3<|h3I
    refine dM64 ?_
    repeat (intro K hK)
    clear zS
    all_goals refine ⟨by simp,?_⟩
    all_goals simp [leaves_iff,Try.f22,e]
    all_goals try exact dt
  ·have h2I:¬ (ns.length:Int)=(ns'.length:Int):=by omega
   have e:¬ (r,ns,ds)=(r,ns',ds'):=fun e=>by simp only [Prod.mk.injEq] at e;exact h2 (by rw [e.2.1])
   have zS:=jj h2<|h2I
   refine dM64 ?_
   repeat (intro K hK)
   clear zS
   all_goals refine ⟨by simp,?_⟩
   all_goals simp [leaves_iff,Try.f22,e]
   all_goals try exact dt
 ·have e:¬ (r,ns,ds)=(r',ns',ds'):=fun e=>by simp only [Prod.mk.injEq] at e;exact h1 e.1
  have zS:=h1
  refine dM64 ?_
  repeat (intro K hK)
  clear zS
  all_goals refine ⟨by simp,?_⟩
  all_goals simp [leaves_iff,Try.f22,e]
  all_goals try exact dt
end Go.AM
namespace Go.AM
open Go Go.Proofs Go.Sort
def sortIRen:Go.Shelf.Ren :=
 {f:=fun x=>match x with
   | 189=>102
   | 125=>131
   | 257=>135
   | 128=>154
   | 129=>155
   | 294=>156
   | 295=>157
   | 296=>158
   | 297=>159
   | 298=>160
   | 299=>161
   | 216=>162
   | 300=>163
   | 301=>164
   | 328=>171
   | 329=>167
   | 330=>168
   | 331=>172
   | 332=>173
   | 215=>144
   | 343=>175
   | n=>n
  t:=fun x=>match x with
   | 28=>36
   | 3=>3
   | 46=>126
   | 0=>0
   | 51=>178
   | 53=>51
   | 4=>4
   | 183=>172
   | 182=>171
   | 131=>121
   | 5=>5
   | 9=>9
   | 218=>186
   | 222=>131
   | 228=>193
   | 229=>73
   | n=>n
  g:=fun n=>n }
theorem lay189:Go.Proofs.Lays.n189 Try.prog sortIRen :=
 {mixed:=mixed
  f125:=Try.func131.trans (congrArg some (by kernel_rfl))
  f128:=Try.func154.trans (congrArg some (by kernel_rfl))
  f129:=Try.func155.trans (congrArg some (by kernel_rfl))
  f189:=Try.func102.trans (congrArg some (by kernel_rfl))
  f215:=Try.func144.trans (congrArg some (by kernel_rfl))
  f216:=Try.func162.trans (congrArg some (by kernel_rfl))
  f257:=Try.func135.trans (congrArg some (by kernel_rfl))
  f294:=Try.func156.trans (congrArg some (by kernel_rfl))
  f295:=Try.func157.trans (congrArg some (by kernel_rfl))
  f296:=Try.func158.trans (congrArg some (by kernel_rfl))
  f297:=Try.func159.trans (congrArg some (by kernel_rfl))
  f298:=Try.func160.trans (congrArg some (by kernel_rfl))
  f299:=Try.func161.trans (congrArg some (by kernel_rfl))
  f300:=Try.func163.trans (congrArg some (by kernel_rfl))
  f301:=Try.func164.trans (congrArg some (by kernel_rfl))
  f328:=Try.func171.trans (congrArg some (by kernel_rfl))
  f329:=Try.func167.trans (congrArg some (by kernel_rfl))
  f330:=Try.func168.trans (congrArg some (by kernel_rfl))
  f331:=Try.func172.trans (congrArg some (by kernel_rfl))
  f332:=Try.func173.trans (congrArg some (by kernel_rfl))
  f343:=Try.func175.trans (congrArg some (by kernel_rfl))
  t0:=Try.underlying0
  a0:=Try.isAgg0
  z0:=Try.sizeOf0
  v0:=Try.zeroValue0
  t3:=Try.underlying3
  a3:=Try.isAgg3
  z3:=Try.sizeOf3
  v3:=Try.zeroValue3
  t4:=Try.underlying4
  a4:=Try.isAgg4
  z4:=Try.sizeOf4
  v4:=Try.zeroValue4
  t5:=Try.underlying5
  a5:=Try.isAgg5
  z5:=Try.sizeOf5
  v5:=Try.zeroValue5
  t9:=Try.underlying9
  a9:=Try.isAgg9
  z9:=Try.sizeOf9
  v9:=Try.zeroValue9
  t28:=Try.underlying36
  a28:=Try.isAgg36
  z28:=Try.sizeOf36
  v28:=Try.zeroValue36
  t46:=Try.underlying126
  a46:=Try.isAgg126
  z46:=Try.sizeOf126
  v46:=Try.zeroValue126
  t51:=Try.underlying178
  a51:=Try.isAgg178
  z51:=Try.sizeOf178
  v51:=Try.zeroValue178
  t53:=Try.underlying51
  a53:=Try.isAgg51
  z53:=Try.sizeOf51
  v53:=Try.zeroValue51
  t131:=Try.underlying121
  a131:=Try.isAgg121
  z131:=Try.sizeOf121
  v131:=Try.zeroValue121
  t182:=Try.underlying171
  a182:=Try.isAgg171
  z182:=Try.sizeOf171
  v182:=Try.zeroValue171
  t183:=Try.underlying172
  a183:=Try.isAgg172
  z183:=Try.sizeOf172
  v183:=Try.zeroValue172
  t218:=Try.underlying186
  a218:=Try.isAgg186
  z218:=Try.sizeOf186
  v218:=Try.zeroValue186
  t222:=Try.underlying131
  a222:=Try.isAgg131
  z222:=Try.sizeOf131
  v222:=Try.zeroValue131
  t228:=Try.underlying193
  a228:=Try.isAgg193
  z228:=Try.sizeOf193
  v228:=Try.zeroValue193
  t229:=Try.underlying73
  a229:=Try.isAgg73
  z229:=Try.sizeOf73
  v229:=Try.zeroValue73 }
def sortL (l:List Int):List Int:=l.mergeSort fun x y=>decide (x≤y)
@[simp] theorem sortL_len (l:List Int):(sortL l).length=l.length:=List.length_mergeSort _
theorem sortL_perm (l:List Int):(sortL l).Perm l:=List.mergeSort_perm _ _
theorem sortL_sorted (l:List Int):(sortL l).Pairwise (·≤·):=by
 have:=List.pairwise_mergeSort (le:=fun x y:Int=>decide (x≤y)) (fun a b c h1 h2=>by simp at *;omega) (fun a b=>by simp;omega) l
 simpa [sortL] using this
def sortC (avs:List AV) (M:Nat→AO) (_nid:Nat):Option (AV×List (Nat×AO)) :=
 match avs with
 | [.sl b m s o n]=>match M b with
  | .vec m' s' f xs=>match unI xs with
   | some l=>if m=m'∧s=1∧s'=1∧o=0∧n=l.length∧n<4611686018427387904 then some (.tup [],[(b,.vec m 1 f (irows (sortL l)))]) else none
   | none=>none
  | _=>none
 | [.v (.slice none 0 0)]=>some (.tup [],[])
 | _=>none
theorem sortI_ok:CallOK Try.prog 102 sortC:=by
 intro avs M nid av u hc w0 bl E w args hr hM hI _
 have hone:∀ {a:AV},RepL E w [a] args.toList→∃ x,args=#[x]∧Rep E w a x:=fun {a} hr=>by
  cases hargs:args.toList with
  | nil=>rw [hargs] at hr;simp [RepL] at hr
  | cons x r =>
   rw [hargs] at hr
   simp only [RepL] at hr
   cases r with
   | nil=>exact ⟨x,by rw [← Array.toArray_toList (xs:=args),hargs],hr.1⟩
   | cons y r=>simp [RepL] at hr
 have htup:∀ (E':Env) (w':World),Rep E' w' (.tup []) (.tuple #[]):=fun E' w'=>by simp only [Rep];exact ⟨[],rfl,by simp [RepL]⟩
 unfold sortC at hc
 split at hc
 case h_3=>simp at hc
 case h_2 =>
  simp only [Option.some.injEq,Prod.mk.injEq] at hc
  obtain ⟨rfl,rfl⟩:=hc
  obtain ⟨x,rfl,hx⟩:=hone hr
  simp only [Rep,CRep] at hx
  subst hx
  have:=Any.slices_Sort_int_none lay189 none 0 w
  refine Calls.mono (this:Calls Try.prog 102 _ _ _) fun e w' ⟨he,hw⟩=>?_
  subst hw
  exact ⟨_,E,he,StepTo.refl hI rfl rfl rfl,htup _ _⟩
 case h_1 b m s o n =>
  split at hc
  case h_2=>simp at hc
  rename_i m' s' f xs hMb
  split at hc
  case h_2=>simp at hc
  rename_i l hl
  split at hc
  case isFalse=>simp at hc
  rename_i hcond
  obtain ⟨rfl,rfl,rfl,rfl,rfl,hlt⟩:=hcond
  simp only [Option.some.injEq,Prod.mk.injEq] at hc
  obtain ⟨rfl,rfl⟩:=hc
  obtain ⟨x,rfl,hx⟩:=hone hr
  simp only [Rep] at hx
  obtain ⟨hal,h1,h2,p,c,rfl,hnc,hpn,hsl⟩:=hx
  have hxs:=unI_eq hl
  subst hxs
  have ho:=hM b hal
  rw [hMb] at ho
  by_cases hl0:l=[]
  ·subst hl0
   have:=Any.slices_Sort_int_none lay189 p c w
   refine Calls.mono (this:Calls Try.prog 102 _ _ _) fun e w' ⟨he,hw⟩=>?_
   subst hw
   exact ⟨_,E,he,StepTo.retell hI hal (by simpa [sortL] using ho),htup _ _⟩
  ·have hpos:0<l.length:=by
    rcases Nat.eq_zero_or_pos l.length with e|e
    ·exact absurd (List.eq_nil_of_length_eq_zero e) hl0
    ·exact e
   simp only [ObjRep] at ho
   obtain ⟨hv,hm1,ho⟩:=ho
   cases hlc:E.loc b with
   | none =>
    simp only [hlc] at ho
    exact absurd (by simpa [irows] using ho) hl0
   | some L =>
    obtain ⟨blk,base,sz⟩:=L
    simp only [hlc] at ho
    obtain ⟨ca,t,hheap,hszc,honec,hfit,hff,hrows⟩:=ho
    have hs2:=hsl hv.symm
    simp only [hlc,SlAt] at hs2
    obtain ⟨a,rfl,ha,hcs⟩:=hs2
    have ha:=ha.resolve_left (by omega)
    simp only [Nat.zero_mul,Nat.add_zero] at ha
    subst ha
    have hblk:blk<w.heap.size:=(Array.getElem?_eq_some_iff.1 hheap).1
    have hcell:∀ j,j<l.length→w.cell? ⟨blk,base+j,none⟩=some (.int .i64 l[j]!):=fun j hj=>by
     have h3:=hrows.get (i:=j) (e:=[I l[j]]) (by simp [irows,hj])
     obtain ⟨x,h4,_,h5⟩:=h3.2.get (j:=0) (a:=I l[j]) rfl
     simp only [CRep] at h5
     subst h5
     simp only [Nat.mul_one,Nat.add_zero] at h4
     rw [h4,getElem!_pos l j hj]
    have hfz:∀ j,w.frozen? ⟨blk,base+j,none⟩=false:=fun j=>by
     unfold World.frozen?
     rw [hheap]
     simp
    have hH:Holds (Value.int .i64) w blk base l.toArray:=fun j hj=>⟨by
     rw [hcell j (by simpa using hj)]
     simp,hfz j⟩
    have:=Any.slices_Sort_int lay189 blk base c l w hH hblk hlt
    refine Calls.mono (this:Calls Try.prog 102 _ _ _) fun e w' ⟨he,n,os,hw⟩=>?_
    have hH2:Holds (Value.int .i64) w' blk base (sortL l).toArray:=by
     rw [hw]
     refine holds_grow _ _ _ _ _ _ (by simpa [ahead] using hblk) ?_
     exact holds_putRow _ _ _ _ l.toArray _ (fun j hj=>hH j hj) (by simp)
    have hsize:w.heap.size≤w'.heap.size:=by rw [hw];simp [ahead]
    have hother:∀ k,k<w.heap.size→k≠blk→w'.heap[k]?=w.heap[k]?:=fun k hk hne=>by
     rw [hw,heap_grow_old _ _ (by simpa [ahead] using hk)]
     simp only [putRow,mapBlock,Array.getElem?_modify]
     rw [if_neg (fun e=>hne e.symm)]
     rfl
    have hown:w'.heap[blk]?=some (.cells (putCells (Value.int .i64) base (sortL l).toArray ca) t (0,0)):=by
     rw [hw,heap_grow_old _ _ (by simpa [ahead] using hblk)]
     simp only [putRow,mapBlock,Array.getElem?_modify,if_true]
     have e:∀ n,(Sort.ahead w n).heap=w.heap:=fun n=>rfl
     rw [e,hheap]
     rfl
    refine ⟨_,E.upd b m (some (blk,base,sz)),he,?_,htup _ _⟩
    refine StepTo.one hI b _ m _ (fun _=>.inl ⟨hv.symm,hlc.symm⟩) (fun blk' base' sz' e=>?_) hsize (by rw [hw];rfl) (by rw [hw];rfl) (fun k hk hn=>hother k hk fun e=>?_) ?_
    ·simp only [Option.some.injEq,Prod.mk.injEq] at e
     exact .inl ⟨base,sz,hal,by rw [hlc,e.1]⟩
    ·subst e;exact hn base sz hal hlc
    ·simp only [ObjRep,Env.upd,if_true]
     refine ⟨trivial,hm1,_,t,hown,by simpa [putCells] using hszc,fun y hy=>?_,by simpa using hfit,fun hf=>by simpa using hff hf,CRows.of_get fun i e hi=>?_⟩
     ·rw [Array.mem_toList_iff] at hy
      obtain ⟨k,hk,rfl⟩:=Array.mem_iff_getElem.1 hy
      simp only [putCells,Array.getElem_mapIdx]
      split
      ·rfl
      ·exact honec _ (by rw [Array.mem_toList_iff];exact Array.getElem_mem _)
     ·have hil:i<(sortL l).length:=by
       have:=(List.getElem?_eq_some_iff.1 hi).1
       simpa using this
      simp only [irows,List.getElem?_map,List.getElem?_eq_getElem hil,Option.map_some,Option.some.injEq] at hi
      subst hi
      refine ⟨rfl,?_⟩
      simp only [CCells,Nat.mul_one]
      refine ⟨⟨_,(hH2 i (by simpa using hil)).1,rfl,?_⟩,trivial⟩
      simp only [CRep]
      simp only [List.getElem!_toArray]
      rw [getElem!_pos (sortL l) i hil]
theorem sortI_keys {avs:List AV} {M:Nat→AO} {nid:Nat} {r:AV×List (Nat×AO)} (h:sortC avs M nid=some r):∀ b∈r.2.map (·.1),(nid≤b∧b<nid+16)∨M b≠.dead:=by
 unfold sortC at h
 split at h
 case h_3=>simp at h
 case h_2=>simp only [Option.some.injEq] at h;subst h;simp
 split at h
 case h_2=>simp at h
 rename_i hMb
 split at h
 case h_2=>simp at h
 split at h
 case isFalse=>simp at h
 simp only [Option.some.injEq] at h
 subst h
 intro b hb
 simp at hb
 subst hb
 exact .inr (by rw [hMb];simp)
end Go.AM
namespace Go.AM
open Go Go.Proofs
theorem list_ext_gi {a b:List Int} (hl:a.length=b.length) (h:∀ j,j<a.length→gi a j=gi b j):a=b:=by
 refine List.ext_getElem hl fun i h1 h2=>?_
 have:=h i h1
 rw [gi_eq h1,gi_eq h2] at this
 exact this
set_option maxHeartbeats 2000000 in
theorem s16 (X:AX) (hX:XOK Try.prog X) (hw:X.W wT):PSound Try.prog 16 (specF (ι:={x:List Int×List Int // x.1.length≤1000000∧x.2.length≤1000000}) (fun x=>[.rd 1 (irows x.1.1),.rd 1 (irows x.1.2)]) fun x=>retOf [B (decide (x.1.1=x.1.2))]):=by
 refine psound_spec hX mixed Try.func16 rfl fun ⟨⟨l,m⟩,hl,hm⟩ w0 G=>⟨by show 2≤26;decide,rfl,?_⟩
 show AW ⟨Try.prog,X,26,w0,.pure G⟩ _ _ _
 have hc:Cx.OK ⟨Try.prog,X,26,w0,.pure G⟩:=⟨hX,mixed⟩
 simp only at hl hm ⊢
 rcases Decidable.em (l.length=m.length) with h1|h1
 ·have h1I:(l.length:Int)=(m.length:Int):=by omega
  have zS:=h1
  repeat' (first|(apply aw_seq_k;intro K hK)|(refine eM64 ?_)|(refine aw_cond (b:=_) (by exact rfl) (fun h=>?_) (fun h=>?_)<;>(try simp at h))|(refine eB ?_)|(refine hK _ ?_;clear hK)|(clear hK;refine hK _ ?_;clear hK)|(clear hK;clear hK;refine hK _ ?_;clear hK)|(clear hK;clear hK;clear hK;refine hK _ ?_;clear hK))
  all_goals clear zS
  refine aw_loopK (s0:=?lps1) (m0:=?lpm1) (ι:={i:Nat // i≤m.length∧∀ j,j<i→gi l j=gi m j}) [0,1,12] (fun s=>[(13,I s.1)]) (fun _=>[]) (fun s=>m.length - s.1) ⟨0,by omega,by omega⟩ ?lhs1 ?lhm1 ?_ ?_
  case lhs1=>first|(simp [keepS];done)|(simp [keepS];rfl)
  case lhm1=>first|rfl|(simp;done)|(simp;rfl)
  ·exact dle
  ·rintro ⟨i,hi,hinv⟩
   simp only
   rcases Decidable.em (i<m.length) with hil|hil
   ·have hilI:(i:Int)<(m.length:Int):=by omega
    have hil2:i<l.length:=by omega
    have hil2I:(i:Int)<(l.length:Int):=by omega
    have hg:=irows_gi hil2
    have hgE:=irows_gE hil2
    have hg':=irows_gi hil
    have hgE':=irows_gE hil
    have hdf:gi l i≠gi m i→¬ l=m:=fun h e=>h (by rw [e])
    obtain ⟨a,ha⟩:∃ a,a=gi l i:=⟨_,rfl⟩
    obtain ⟨b,hb⟩:∃ b,b=gi m i:=⟨_,rfl⟩
    rw [← ha,← hb] at hdf
    rw [← ha] at hg hgE
    rw [← hb] at hg' hgE'
    rcases Decidable.em (a=b) with e1|e1
    ·subst e1
     have zS:=jj hilI<|jj hil<|jj hil2<|jj hil2I<|jj hg<|jj hgE<|jj hg'<|jj hgE'<|h1
     repeat' (first|(apply aw_seq_k;intro K hK)|(refine eM64 ?_)|(refine aw_cond (b:=_) (by exact rfl) (fun h=>?_) (fun h=>?_)<;>(try simp at h))|(refine eB ?_)|(refine hK _ ?_;clear hK)|(clear hK;refine hK _ ?_;clear hK)|(clear hK;clear hK;refine hK _ ?_;clear hK)|(clear hK;clear hK;clear hK;refine hK _ ?_;clear hK))
     all_goals clear zS
     refine ⟨i+1,?_,⟨by omega,fun j hj=>?_⟩,by omega⟩
     ·exact dle
     ·rcases Nat.lt_succ_iff_lt_or_eq.1 hj with h5|rfl
      ·exact hinv j h5
      ·rw [← ha,← hb]
    ·have e:=hdf e1
     have e1':¬ b=a:=fun h=>e1 h.symm
     have zS:=jj hilI<|jj hil<|jj hil2<|jj hil2I<|jj hg<|jj hgE<|jj hg'<|jj hgE'<|jj h1<|jj e1<|e1'
     repeat' (first|(apply aw_seq_k;intro K hK)|(refine eM64 ?_)|(refine aw_cond (b:=_) (by exact rfl) (fun h=>?_) (fun h=>?_)<;>(try simp at h))|(refine eB ?_)|(refine hK _ ?_;clear hK)|(clear hK;refine hK _ ?_;clear hK)|(clear hK;clear hK;refine hK _ ?_;clear hK)|(clear hK;clear hK;clear hK;refine hK _ ?_;clear hK))
     all_goals clear zS
     refine ⟨by simp,?_⟩
     simp [leaves_iff,Try.f16,e]
     try exact dt
   ·obtain rfl:i=m.length:=by omega
    have e:l=m:=list_ext_gi h1 fun j hj=>hinv j (by omega)
    have zS:=h1
    repeat' (first|(apply aw_seq_k;intro K hK)|(refine eM64 ?_)|(refine aw_cond (b:=_) (by exact rfl) (fun h=>?_) (fun h=>?_)<;>(try simp at h))|(refine eB ?_)|(refine hK _ ?_;clear hK)|(clear hK;refine hK _ ?_;clear hK)|(clear hK;clear hK;refine hK _ ?_;clear hK)|(clear hK;clear hK;clear hK;refine hK _ ?_;clear hK))
    all_goals clear zS
    refine ⟨by simp,?_⟩
    simp [leaves_iff,Try.f16,e]
    try exact dt
 ·have h1I:¬ (l.length:Int)=(m.length:Int):=by omega
  have e:¬ l=m:=fun e=>h1 (by rw [e])
  have zS:=jj h1<|h1I
  refine dM64 ?_
  repeat (intro K hK)
  clear zS
  all_goals refine ⟨by simp,?_⟩
  all_goals simp [leaves_iff,Try.f16,e]
  all_goals try exact dt
abbrev Pe:=Int×Nat
def erow (x:Pe):List AV:=[I x.1,U x.2]
def erows (l:List Pe):List (List AV):=l.map erow
@[simp] theorem erows_length (l:List Pe):(erows l).length=l.length:=by simp [erows]
@[simp] theorem tyPE:Types Try.prog 63=some ⟨.struct [(0,3,1),(1,51,1)],2,16,[.int .i64 0,.int .u64 0]⟩:=by kernel_rfl
@[simp] theorem tyPEs:Types Try.prog 60=some ⟨.slice 63,1,24,[.slice none 0 0]⟩:=by kernel_rfl
noncomputable def siS:List AV→List AO→Option (AV×List AO):=specG (ι:={l:List Int // l.length≤2000000}) (fun l=>[.sl 0 1 1 0 l.1.length]) (fun l=>[.vec 1 1 false (irows l.1)]) (fun _=>.tup []) fun l=>[.vec 1 1 false (irows (sortL l.1))]
theorem siS_at {l:List Int} (h:l.length≤2000000):siS [.sl 0 1 1 0 l.length] [.vec 1 1 false (irows l)]=some (.tup [],[.vec 1 1 false (irows (sortL l))]):=by
 refine specG_eq (ι:={l:List Int // l.length≤2000000}) (A:=fun l=>[.sl 0 1 1 0 l.1.length]) (M:=fun l=>[.vec 1 1 false (irows l.1)]) (R:=fun _=>.tup []) (O:=fun l=>[.vec 1 1 false (irows (sortL l.1))]) ⟨l,h⟩ fun j hA hM=>?_
 simp only [List.cons.injEq,AO.vec.injEq,true_and,irows_inj,and_true] at hM
 rw [hM]
 exact ⟨rfl,rfl⟩
theorem unI_ir:∀ l:List Int,unI (irows l)=some l
 | []=>rfl
 | x::l=>by
  show (match unI (irows l) with|some r=>some (x::r)|none=>none)=_
  rw [unI_ir l]
theorem s45 (X:AX) (hX:XOK Try.prog X) (hw:X.W wT) (hs:X.call 102=sortC):GSound Try.prog 45 siS:=by
 unfold siS
 refine gsound_spec Try.func45 rfl X fun ⟨l,hl⟩ w0 L E=>⟨by show 1≤4;decide,?_⟩
 show AW ⟨Try.prog,X,4,w0,⟨L,E,1⟩⟩ _ _ _
 have hc:Cx.OK ⟨Try.prog,X,4,w0,⟨L,E,1⟩⟩:=⟨hX,mixed⟩
 have hl':l.length<4611686018427387904:=by omega
 have hu:=unI_ir l
 repeat' (first|(apply aw_seq_k;intro K hK)|(refine aw_run hc (by first|exact aw_nod|(intro _;rw [ordB_w hw];kernel_rfl)|(intro _;rw [ordB_w0 hw0];kernel_rfl)|(intro _;kernel_rfl)) ?_;simp [List.zipIdx,enterS,idx,hs,sortC,hu,hl',-getM,getM_hit,getM_miss,getM_none];(repeat (simp (disch:=first|omega|assumption|fail) only [if_pos,if_neg,wrap64];try simp [List.zipIdx,enterS,idx,hs,sortC,hu,hl',-getM,getM_hit,getM_miss,getM_none]));try (repeat' (refine guardQ_split (fun h=>?_) (fun h=>?_)<;>simp at h<;>(simp [List.zipIdx,enterS,idx,hs,sortC,hu,hl',-getM,getM_hit,getM_miss,getM_none];(repeat (simp (disch:=first|omega|assumption|fail) only [if_pos,if_neg,wrap64];try simp [List.zipIdx,enterS,idx,hs,sortC,hu,hl',-getM,getM_hit,getM_miss,getM_none]))))))|(refine aw_cond (b:=_) (by exact rfl) (fun h=>?_) (fun h=>?_)<;>(try simp at h))|(refine aw_block ?_)|(refine aw_skip ?_;simp only [thenQ,blockQ,if_true])|(refine aw_exit ?_;simp [thenQ,blockQ])|(refine aw_ret ?_;simp only [thenQ,blockQ])|(refine aw_round ?_)|(refine hK _ ?_;clear hK)|(clear hK;refine hK _ ?_;clear hK)|(clear hK;clear hK;refine hK _ ?_;clear hK)|(clear hK;clear hK;clear hK;refine hK _ ?_;clear hK))
 refine ⟨[],rfl,?_⟩
 simp only [idx]
 exact dle
end Go.AM
namespace Go.AM
open Go Go.Proofs
theorem sorted_perm {a b:List Int} (ha:a.Pairwise (·≤·)) (hb:b.Pairwise (·≤·)) (h:a.Perm b):a=b :=
 List.Perm.eq_of_pairwise (le:=fun a b:Int=>a≤b) (fun a b _ _ h1 h2=>Int.le_antisymm h1 h2) ha hb h
theorem irows_ap (a:List Int) (x:Int):irows a++[[I x]]=irows (a++[x]):=by simp [irows]
theorem irows_tkl (a:List Int):List.take a.length (irows a)=irows a:=List.take_of_length_le (by simp)
theorem callSi {b:Nat} {l:List Int} (h:l.length≤2000000) {v:Nat} (M:Nat→AO) (nid:Nat) (h0:M b=.vec (v+1) 1 false (irows l)) :
  callG siS [.sl b (v+1) 1 0 l.length] M nid=some (.tup [],[(b,.vec (v+1) 1 false (irows (sortL l)))]):=by
 have hF:=siS_at h
 unfold callG
 have hg:gat M 64 (nmsL [.sl b (v+1) 1 0 l.length]) []=[b]:=by simp [gat,nmsL,AV.nms,AO.nms,h0]
 simp only [hg]
 rw [if_pos ?cg]
 case cg=>simp [CallG,nmsL,AV.nms,AO.nms,Led,curBL,AV.curB,AO.curB,verOf,notDead,h0]
 have e1:1+v=v+1:=by omega
 simp [renL,AV.ren,AO.ren,posN,canO,nmsL,h0,hF,RetG,getL,AV.nms,AO.nms,updN,nmN,shN,verOf,rng,Led,e1]
end Go.AM
namespace Go.AM
open Go Go.Proofs
def lsF (t:Tb) (p:Nat):List Pe:=if (lsT t p).2.2≠0∧((lsT t p).2.1=0∨p%8=0) then [((p:Int),(lsT t p).2.2)] else []
def lsA (t:Tb):Nat→List Pe
 | 0=>[]
 | n+1=>lsA t n++lsF t n
theorem lsA_le {t:Tb}:∀ {n:Nat},(lsA t n).length≤n
 | 0=>by simp [lsA]
 | n+1=>by
  have:=@lsA_le t n
  simp only [lsA,lsF,List.length_append]
  split<;>simp<;>omega
noncomputable def lstT (t:Tb):List Pe:=if chk t=0 then lsA t 512 else []
theorem erows_ap (a:List Pe) (x:Int) (w:Nat):erows a++[[I x,.v (.int .u64 w)]]=erows (a++[(x,w)]):=by simp [erows,erow,U]
theorem erows_tkl (a:List Pe):List.take a.length (erows a)=erows a:=List.take_of_length_le (by simp)
section
variable {r:Int} {ns:NdL} {ds:List Dp}
theorem lev_same (h:Pv (r,ns,ds)) {p l w:Nat} (hp:p<512) (hl:(lsT (r,ns,ds) p).2=(l,w)) (ha:p%8^l=0) {q:Nat} (hq:p≤q) (hq2:q<p+8^l):(lsT (r,ns,ds) q).2=(l,w):=by
 obtain ⟨f0,l0,w0,hw⟩:∃ f l w,wlk (Mof ns) r p=(f,l,w):=⟨_,_,_,rfl⟩
 have h1:=(h.walk hp).2.2
 simp only at h1
 rw [hw] at h1
 rw [h1] at hl
 simp only [Prod.mk.injEq] at hl
 obtain ⟨rfl,rfl⟩:=hl
 obtain ⟨a1,a2,a3,a4,a5,a6⟩:=wlk_at h.vm hp hw
 have hq5:q<512:=by
  rcases (by omega:l0=0∨l0=1∨l0=2) with rfl|rfl|rfl<;>simp at ha hq2<;>omega
 have e1:q/8^(l0+1)=p/8^(l0+1):=by
  rcases (by omega:l0=0∨l0=1∨l0=2) with rfl|rfl|rfl<;>simp at ha hq2 ⊢<;>omega
 have e2:dgt q l0=dgt p l0:=by
  unfold dgt
  rcases (by omega:l0=0∨l0=1∨l0=2) with rfl|rfl|rfl<;>simp at ha hq2 ⊢<;>omega
 have h2:=wlk_of (M:=Mof ns) (root:=r) (p:=q) hq5 a1 (by rw [e1];exact a3) (.inl (by rw [e2];simp only at a4;rw [← a4];exact a5))
 have h3:=(h.walk hq5).2.2
 simp only at h3
 rw [h3,h2,e2]
 simp only at a4
 rw [← a4]
theorem lev_next (h:Pv (r,ns,ds)) {p l w:Nat} (hp:p<512) (hl:(lsT (r,ns,ds) p).2=(l,w)) (ha:p%8^l=0) (hq:p+8^l<512):(p+8^l)%8^(lsT (r,ns,ds) (p+8^l)).2.1=0:=by
 obtain ⟨f0,l0,w0,hw⟩:∃ f l w,wlk (Mof ns) r p=(f,l,w):=⟨_,_,_,rfl⟩
 obtain ⟨f1,l1,w1,hw1⟩:∃ f k w,wlk (Mof ns) r (p+8^l)=(f,k,w):=⟨_,_,_,rfl⟩
 have h1:=(h.walk hp).2.2
 have h2:=(h.walk hq).2.2
 simp only at h1 h2
 rw [hw] at h1
 rw [hw1] at h2
 rw [h1] at hl
 simp only [Prod.mk.injEq] at hl
 obtain ⟨rfl,rfl⟩:=hl
 rw [h2]
 simp only
 obtain ⟨a1,a2,a3,a4,a5,a6⟩:=wlk_at h.vm hp hw
 obtain ⟨b1,b2,b3,b4,b5,b6⟩:=wlk_at h.vm hq hw1
 by_cases hc:(p+8^l0)%8^l1=0
 ·exact hc
 ·exfalso
  have hc2:p%8^l1≠0∨8^l0%8^l1≠0:=by
   by_cases h3:p%8^l1=0
   ·right;intro h4;exact hc (by rw [Nat.add_mod,h3,h4];simp)
   ·exact .inl h3
  have hlt:l0<l1:=by
   rcases (by omega:l0=0∨l0=1∨l0=2) with rfl|rfl|rfl<;>rcases (by omega:l1=0∨l1=1∨l1=2) with rfl|rfl|rfl<;>simp at hc ha ⊢<;>omega
  have hsame:dgt (p+8^l0) l1=dgt p l1∧(p+8^l0)/8^(l1+1)=p/8^(l1+1):=by
   unfold dgt
   rcases (by omega:l0=0∨l0=1∨l0=2) with rfl|rfl|rfl<;>rcases (by omega:l1=0∨l1=1∨l1=2) with rfl|rfl|rfl<;>simp at hc ha ⊢<;>omega
  have:=wlk_of (M:=Mof ns) (root:=r) hp b1 (by rw [← hsame.2];exact b3) (.inl (by rw [← hsame.1];simp only at b4;rw [← b4];exact b5))
  rw [hw] at this
  simp only [Prod.mk.injEq] at this
  omega
theorem lsA_step (h:Pv (r,ns,ds)) {p l w:Nat} (hp:p<512) (hl:(lsT (r,ns,ds) p).2=(l,w)) (ha:p%8^l=0):lsA (r,ns,ds) (p+8^l)=lsA (r,ns,ds) p++(if w≠0 then [((p:Int),w)] else []):=by
 obtain ⟨f0,l0,w0,hw⟩:∃ f l w,wlk (Mof ns) r p=(f,l,w):=⟨_,_,_,rfl⟩
 have h1:=(h.walk hp).2.2
 simp only at h1
 rw [hw] at h1
 have hlw:l0=l∧w0=w:=by rw [h1] at hl;simpa using hl
 obtain ⟨rfl,rfl⟩:=hlw
 obtain ⟨a1,a2,a3,a4,a5,a6⟩:=wlk_at h.vm hp hw
 have hz2:l0=2→w0=0:=fun e=>by
  subst e
  unfold okWb at a6
  simp only [Bool.and_eq_true,decide_eq_true_eq] at a6
  obtain ⟨_,a7⟩:=a6
  unfold suitB at a7
  refine (kind0 (l:=2) (w:=w0) ?_).1 ?_
  ·unfold okWb;simp only [Bool.and_eq_true,decide_eq_true_eq];exact ⟨by assumption,by unfold suitB;exact a7⟩
  ·by_cases h0:(decR w0).1.1=0
   ·exact h0
   ·rw [if_neg h0] at a7
    have h4:(decR w0).1.1≠4:=decR_tab.1 a5
    rw [if_neg h4] at a7
    simp at a7
 have hmid:∀ d,1≤d→d≤8^l0→lsA (r,ns,ds) (p+d)=lsA (r,ns,ds) p++(if w0≠0 then [((p:Int),w0)] else []):=by
  intro d hd
  induction d with
  | zero=>omega
  | succ d ih =>
   intro hd2
   rw [show p+(d+1)=p+d+1 by omega]
   simp only [lsA]
   by_cases h0:d=0
   ·subst h0
    simp only [Nat.add_zero,lsF,hl]
    by_cases hw0:w0=0
    ·simp [hw0]
    ·have:l0=0∨p%8=0:=by
      rcases (by omega:l0=0∨l0=1∨l0=2) with e|e|e
      ·exact .inl e
      ·right;rw [e] at ha;simpa using ha
      ·exact absurd (hz2 e) hw0
     rw [if_pos ⟨hw0,this⟩,if_pos hw0]
   ·rw [ih (by omega) (by omega)]
    have hs:=lev_same h hp hl ha (q:=p+d) (by omega) (by omega)
    have:lsF (r,ns,ds) (p+d)=[]:=by
     unfold lsF
     rw [hs]
     rw [if_neg]
     rintro ⟨g1,g2⟩
     rcases (by omega:l0=0∨l0=1∨l0=2) with e|e|e
     ·subst e;simp at hd2;omega
     ·subst e
      simp at ha hd2 g2
      omega
     ·exact g1 (hz2 e)
    rw [this,List.append_nil]
 have hpos:1≤8^l0:=Nat.pow_pos (by decide)
 exact hmid _ hpos (Nat.le_refl _)
end
end Go.AM
