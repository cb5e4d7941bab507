/- A part of the proof: what functions of the program compute, by abstract execution of their code. Its theorems hold without further condition. -/
import Derived.Test.YtcfhmdljeeppfaaGreatSAmE
import Derived.Laws.Slices
import Derived.Laws.MakeOwn
set_option linter.all false
namespace Go.AM
open Go
def aBounds (lo hi:Option AV) (n mx:Nat):Option (Nat×Nat) :=
 match (match hi with
  | none=>some n
  | some (.v (.int _ x))=>if 0≤x∧(x≤n∨x≤mx) then some x.toNat else none
  | _=>none) with
 | none=>none
 | some h=>match lo with
  | none=>some (0,h)
  | some (.v (.int _ x))=>if 0≤x∧x≤h then some (x.toNat,h) else none
  | _=>none
def RepO (E:Env) (w:World):Option AV→Option Value→Prop
 | none,none=>True
 | some a,some x=>Rep E w a x
 | _,_=>False
theorem aBounds_ok {P:Program} {lo hi:Option AV} {n mx len cap l h:Nat} {b:Bool} {E:Env} {w:World} {vl vh:Option Value} (hb:aBounds lo hi n mx=some (l,h)) (hl:RepO E w lo vl) (hh:RepO E w hi vh) (hn:n=len) (hc:len≤cap) (hm:mx≤cap) :
  (Instr.sliceBounds b len cap vl vh none).run P w=.ok (l,h,cap) w∧l≤h∧(h≤n∨h≤mx):=by
 subst hn
 unfold aBounds at hb
 have key:∃ h',(match hi with
  | none=>some n
  | some (.v (.int _ x))=>if 0≤x∧(x≤n∨x≤mx) then some x.toNat else none
  | _=>none)=some h'∧(h'≤n∨h'≤mx)∧((match (generalizing:=false) vh,(none:Option Value) with
  | some v,some _=>Instr.sliceBound v cap .slice3B
  | some v,none=>Instr.sliceBound v cap (if b then .sliceAcap else .sliceAlen)
  | none,none=>pure n
  | none, some _ => stuck "Slice: max without high" : Sem Nat).run P w = .ok h' w) := by
  cases hi with
  | none =>
   cases vh with
   | none=>exact ⟨n,rfl,.inl (Nat.le_refl _),rfl⟩
   | some _=>simp [RepO] at hh
  | some a =>
   cases vh with
   | none=>simp [RepO] at hh
   | some x =>
    simp only [RepO] at hh
    cases a<;>try (simp at hb;done)
    rename_i y
    simp only [Rep,CRep] at hh
    subst hh
    cases x<;>try (simp at hb;done)
    rename_i k z
    simp only at hb ⊢
    by_cases hz:0≤z∧(z≤n∨z≤mx)
    ·rw [if_pos hz] at hb ⊢
     refine ⟨z.toNat,rfl,by omega,?_⟩
     rw [run_sliceBound _ k z cap _ hz.1 (by omega)]
    ·rw [if_neg hz] at hb
     simp at hb
 obtain ⟨h',k1,k2,k3⟩:=key
 rw [k1] at hb
 simp only at hb
 have low:l≤h∧h=h'∧((match (generalizing:=false) vl with
  | some v=>Instr.sliceBound v h' (if (none:Option Value).isSome then .slice3C else .sliceB)
  | none=>pure 0:Sem Nat).run P w=.ok l w):=by
  cases lo with
  | none =>
   cases vl with
   | none =>
    simp only [Option.some.injEq,Prod.mk.injEq] at hb
    obtain ⟨rfl,rfl⟩:=hb
    exact ⟨Nat.zero_le _,rfl,rfl⟩
   | some _=>simp [RepO] at hl
  | some a =>
   cases vl with
   | none=>simp [RepO] at hl
   | some x =>
    simp only [RepO] at hl
    cases a<;>try (simp at hb;done)
    rename_i y
    simp only [Rep,CRep] at hl
    subst hl
    cases x<;>try (simp at hb;done)
    rename_i k z
    simp only at hb ⊢
    by_cases hz:0≤z∧z≤h'
    ·rw [if_pos hz] at hb
     simp only [Option.some.injEq,Prod.mk.injEq] at hb
     obtain ⟨rfl,rfl⟩:=hb
     refine ⟨by omega,rfl,?_⟩
     rw [run_sliceBound _ k z h' _ hz.1 (by omega)]
    ·rw [if_neg hz] at hb
     simp at hb
 obtain ⟨l1,rfl,l3⟩:=low
 refine ⟨?_,l1,k2⟩
 unfold Instr.sliceBounds
 cases vh<;>cases vl<;>simp only [Sem.run_bind,Sem.run_pure,Result.andThen_ok,Result.ok.injEq,and_true] at k3 l3 ⊢
 all_goals try simp only [Option.isSome_none,Bool.false_eq_true,if_false] at l3 ⊢
 ·subst k3 l3;rfl
 ·subst k3;rw [l3];rfl
 ·subst l3;rw [k3];rfl
 ·rw [k3];simp only [Result.andThen_ok];rw [l3];rfl
def capOf (M:Nat→AO) (b m s o:Nat):Nat :=
 match M b with
 | .vec m' s' _ xs=>if m=m'∧s=s'∧1≤s then xs.length - o else 0
 | _=>0
theorem capOf_le {E:Env} {w:World} {M:Nat→AO} {b m s o c:Nat} {p:Option Addr} (hM:MemOK E w M) (hb:E.alive b) (h5:m=E.ver b→SlAt (E.loc b) s o p c):capOf M b m s o≤c:=by
 unfold capOf
 have ho:=hM b hb
 split
 ·rename_i m' s' f xs hMb
  split
  ·rename_i hm
   obtain ⟨rfl,rfl,hs⟩:=hm
   rw [hMb] at ho
   simp only [ObjRep] at ho
   obtain ⟨k1,k2,k3⟩:=ho
   have h5:=h5 k1.symm
   cases hl:E.loc b with
   | none=>simp only [hl] at k3;subst k3;simp
   | some l =>
    obtain ⟨blk,base,sz⟩:=l
    simp only [hl,SlAt] at h5 k3
    obtain ⟨a,_,_,q⟩:=h5
    obtain ⟨arr,t,_,_,_,k6,_,_⟩:=k3
    have h1:xs.length*s≤(o+c)*s:=by omega
    have:=Nat.le_of_mul_le_mul_right h1 (by omega)
    omega
  ·exact Nat.zero_le _
 ·exact Nat.zero_le _
def aSlice (T:TypeId→Option TD) (M:Nat→AO) (t:TypeId) (x:AV) (lo hi:Option AV):Option AV :=
 match T t with
 | none=>none
 | some d=>match d.k with
  | .slice e=>match T e with
   | none=>none
   | some de=>match x with
    | .rd s xs=>match aBounds lo hi xs.length 0 with
     | some (l,h)=>if s=de.size then some (.rd s ((xs.drop l).take (h - l))) else none
     | none=>none
    | .sl b m s o n=>match aBounds lo hi n (if hi.isSome then capOf M b m s o else 0) with
     | some (l,h)=>if s=de.size then some (.sl b m s (o+l) (h - l)) else none
     | none=>none
    | .v (.slice none 0 0)=>match aBounds lo hi 0 0 with
     | some _=>some (.v (.slice none 0 0))
     | none=>none
    | _=>none
  | .array n e=>match T e with
   | none=>none
   | some de=>match x with
    | .bp b o=>match aBounds lo hi n 0 with
     | some (l,h)=>some (.bs b (o+l*de.size) de.size (h - l))
     | none=>none
    | _=>none
  | _=>none
theorem aSlice_ok {P:Program} {M:Nat→AO} {t:TypeId} {x av:AV} {lo hi:Option AV} {E:Env} {w:World} {xv:Value} {vl vh:Option Value} (h:aSlice (Types P) M t x lo hi=some av) (hx:Rep E w x xv) (hl:RepO E w lo vl) (hh:RepO E w hi vh) (hM:MemOK E w M) :
  ∃ y,(Instr.sliceAt t xv vl vh none).run P w=.ok y w∧Rep E w av y:=by
 unfold aSlice at h
 cases ht:Types P t<;>simp only [ht,reduceCtorEq] at h
 rename_i d
 cases hk:d.k<;>simp only [hk,reduceCtorEq] at h
 case array n e =>
  cases he:Types P e<;>simp only [he,reduceCtorEq] at h
  rename_i de
  cases x<;>simp only [reduceCtorEq] at h
  rename_i b o
  cases hb:aBounds lo hi n 0<;>simp only [hb,reduceCtorEq] at h
  rename_i lh
  obtain ⟨l,hg⟩:=lh
  simp only [Option.some.injEq] at h
  subst h
  obtain ⟨h1,h2,h3⟩:=aBounds_ok (P:=P) (b:=false) (cap:=n) hb hl hh rfl (Nat.le_refl _) (Nat.zero_le _)
  simp only [Rep] at hx
  obtain ⟨k1,k2,blk,sz,k3,rfl⟩:=hx
  refine ⟨_,by simp only [Instr.sliceAt,Sem.run_bind,und_array ht hk,Result.andThen_ok,Instr.sureAddr,Sem.run_pure,h1,run_size he];rfl,?_⟩
  simp only [Rep]
  refine ⟨k1,k2,blk,sz,_,_,k3,rfl,by omega,?_⟩
  by_cases e0:hg - l=0
  ·exact .inl e0
  ·right
   rw [if_neg (by omega),add_plain]
 case slice e =>
  cases he:Types P e<;>simp only [he,reduceCtorEq] at h
  rename_i de
  have hsl:∀ p n c l g,(Instr.sliceBounds true n c vl vh none).run P w=.ok (l,g,c) w→(Instr.sliceAt t (.slice p n c) vl vh none).run P w=.ok (.slice (if c=l then p else p.map (·.add (l*de.size))) (g - l) (c - l)) w:=fun p n c l g hg=>by
   simp only [Instr.sliceAt,Instr.slice,Sem.run_bind,und_slice ht hk,Result.andThen_ok,hg,run_size he]
   rfl
  cases x<;>try (simp only [reduceCtorEq] at h;done)
  case rd s xs =>
   simp only at h
   cases hb:aBounds lo hi xs.length 0<;>simp only [hb,reduceCtorEq] at h
   rename_i lh
   obtain ⟨l,g⟩:=lh
   simp only at h
   split at h
   case isFalse=>simp at h
   rename_i hs
   subst hs
   simp only [Option.some.injEq] at h
   subst h
   simp only [Rep,CRep] at hx
   obtain ⟨p,c,rfl,k2,k3,k4⟩:=hx
   obtain ⟨h1,h2,h3⟩:=aBounds_ok (P:=P) (b:=true) (cap:=c) hb hl hh rfl k2 (Nat.zero_le _)
   refine ⟨_,hsl _ _ _ _ _ h1,?_⟩
   have hlen:((xs.drop l).take (g - l)).length=g - l:=by simp;omega
   simp only [Rep,CRep]
   refine ⟨_,c - l,by rw [hlen],by rw [hlen];omega,fun e0=>?_,?_⟩
   ·split at e0
    ·have:=k3 e0;omega
    ·cases p with
     | none=>have:=k3 rfl;omega
     | some _=>simp at e0
   ·by_cases e0:g - l=0
    ·left;rw [e0];simp
    ·rcases k4 with k4|⟨blk,off,rfl,k5,k6⟩
     ·subst k4;simp at h3;omega
     ·right
      rw [if_neg (by omega)]
      exact ⟨blk,off+l*de.size,by simp [add_plain],k5,k6.sub l (g - l)⟩
  case sl b m s o n =>
   simp only at h
   have hcp:aBounds lo hi n (if hi.isSome then capOf M b m s o else 0)=aBounds lo hi n (capOf M b m s o):=by cases hi<;>rfl
   rw [hcp] at h
   cases hb:aBounds lo hi n (capOf M b m s o)<;>simp only [hb,reduceCtorEq] at h
   rename_i lh
   obtain ⟨l,g⟩:=lh
   simp only at h
   split at h
   case isFalse=>simp at h
   rename_i hs
   subst hs
   simp only [Option.some.injEq] at h
   subst h
   simp only [Rep] at hx
   obtain ⟨k1,k2,k3,p,c,rfl,k4,k4',k5⟩:=hx
   obtain ⟨h1,h2,h3⟩:=aBounds_ok (P:=P) (b:=true) (cap:=c) hb hl hh rfl k4 (capOf_le hM k1 k5)
   have hgc:g≤c:=h3.elim (fun h=>Nat.le_trans h k4) fun h=>Nat.le_trans h (capOf_le hM k1 k5)
   refine ⟨_,hsl _ _ _ _ _ h1,?_⟩
   simp only [Rep]
   refine ⟨k1,k2,k3,_,c - l,rfl,by omega,fun e0=>?_,fun hm=>?_⟩
   ·split at e0
    ·have:=k4' e0;omega
    ·cases p with
     | none=>have:=k4' rfl;omega
     | some _=>simp at e0
   ·have:=k5 hm
    cases hL:E.loc b with
    | none =>
     simp only [hL,SlAt] at this ⊢
     obtain ⟨rfl,rfl⟩:=this
     have:l=0:=by omega
     subst this
     simp
    | some lo =>
     obtain ⟨blk,base,sz⟩:=lo
     simp only [hL,SlAt] at this ⊢
     obtain ⟨a,rfl,q1,q2⟩:=this
     split
     ·rename_i hcl
      exact ⟨a,rfl,.inl (by omega),by rw [show o+l+(c - l)=o+c from by omega];exact q2⟩
     ·rename_i hcl
      rcases q1 with q1|q1
      ·omega
      ·subst q1
       refine ⟨_,by simp only [Option.map_some,add_plain];rfl,.inr ?_,by rw [show o+l+(c - l)=o+c from by omega];exact q2⟩
       rw [Nat.add_mul,Nat.add_assoc]
  case v y =>
   split at h
   ·rename_i heq;simp at heq
   ·rename_i heq;simp at heq
   ·rename_i heq
    simp only [AV.v.injEq] at heq
    subst heq
    cases hb:aBounds lo hi 0 0<;>simp only [hb,reduceCtorEq] at h
    rename_i lh
    obtain ⟨l,g⟩:=lh
    simp only [Option.some.injEq] at h
    subst h
    simp only [Rep,CRep] at hx
    subst hx
    obtain ⟨h1,h2,h3⟩:=aBounds_ok (P:=P) (b:=true) (cap:=0) hb hl hh rfl (Nat.le_refl _) (Nat.le_refl _)
    refine ⟨_,hsl _ _ _ _ _ h1,?_⟩
    have:l=0:=by omega
    have:g=0:=by omega
    subst l g
    simp [Rep,CRep]
   ·simp at h
theorem aSlice_none {T:TypeId→Option TD} {M M':Nat→AO} {t:TypeId} {x:AV} {lo:Option AV}:aSlice T M t x lo none=aSlice T M' t x lo none:=by
 unfold aSlice
 cases T t with
 | none=>rfl
 | some d=>cases d.k<;>rfl
def aSlice3 (T:TypeId→Option TD) (t:TypeId) (x:AV) (lo:Option AV) (hi mx:AV):Option AV :=
 match T t with
 | none=>none
 | some d=>match d.k with
  | .slice e=>match T e,hi,mx with
   | some _,.v (.int _ h),.v (.int _ m)=>match x with
    | .sl _ _ _ _ n=>if m≤n∧h≤m∧0≤h then (match lo with
     | none=>some .any
     | some (.v (.int _ l))=>if 0≤l∧l≤h then some .any else none
     | _=>none) else none
    | _=>none
   | _,_,_=>none
  | _=>none
theorem aSlice3_ok {P:Program} {t:TypeId} {x hi mx av:AV} {lo:Option AV} {E:Env} {w:World} {xv vh vm:Value} {vl:Option Value} (h:aSlice3 (Types P) t x lo hi mx=some av) (hx:Rep E w x xv) (hl:RepO E w lo vl) (hh:Rep E w hi vh) (hm:Rep E w mx vm) :
  ∃ y,(Instr.sliceAt t xv vl (some vh) (some vm)).run P w=.ok y w∧Rep E w av y:=by
 unfold aSlice3 at h
 cases ht:Types P t<;>simp only [ht,reduceCtorEq] at h
 rename_i d
 cases hk:d.k<;>simp only [hk,reduceCtorEq] at h
 rename_i e
 cases he:Types P e<;>simp only [he,reduceCtorEq] at h
 rename_i de
 split at h
 case h_2=>simp at h
 rename_i k1 g k2 q heq1
 cases x<;>simp only [reduceCtorEq] at h
 rename_i b m s o n
 split at h
 case isFalse=>simp at h
 rename_i hb
 obtain ⟨h1,h2,h3⟩:=hb
 simp only [Rep,CRep] at hh hm
 subst hh hm
 simp only [Rep] at hx
 obtain ⟨_,_,_,p,c,rfl,k4,_,_⟩:=hx
 have b1:∀ code,(Instr.sliceBound (.int k2 q) c code).run P w=.ok q.toNat w:=fun code=>run_sliceBound _ k2 q c code (by omega) (by omega)
 have b2:∀ code,(Instr.sliceBound (.int k1 g) q.toNat code).run P w=.ok g.toNat w:=fun code=>run_sliceBound _ k1 g q.toNat code h3 (by omega)
 split at h
 ·cases vl with
  | some _=>simp [RepO] at hl
  | none =>
   simp only [Option.some.injEq] at h
   subst h
   refine ⟨_,by simp [Instr.sliceAt,Instr.slice,Instr.sliceBounds,und_slice ht hk,run_size he,b1,b2];rfl,by simp [Rep,CRep]⟩
 ·rename_i k3 l
  split at h
  case isFalse=>simp at h
  rename_i hlo
  cases vl with
  | none=>simp [RepO] at hl
  | some y =>
   simp only [RepO,Rep,CRep] at hl
   subst hl
   have b3:∀ code,(Instr.sliceBound (.int k3 l) g.toNat code).run P w=.ok l.toNat w:=fun code=>run_sliceBound _ k3 l g.toNat code hlo.1 (by omega)
   simp only [Option.some.injEq] at h
   subst h
   refine ⟨_,by simp [Instr.sliceAt,Instr.slice,Instr.sliceBounds,und_slice ht hk,run_size he,b1,b2,b3];rfl,by simp [Rep,CRep]⟩
 ·simp at h
def aInt:AV→Option Int
 | .v (.int _ n)=>some n
 | _=>none
theorem aInt_ok {P:Program} {E:Env} {w:World} {a:AV} {x:Value} {n:Int} (h:aInt a=some n) (hr:Rep E w a x):∃ k,x=.int k n∧(asIntOf x).run P w=.ok (k,n) w:=by
 unfold aInt at h
 split at h<;>simp only [Option.some.injEq,reduceCtorEq] at h
 subst h
 simp only [Rep,CRep] at hr
 subst hr
 exact ⟨_,rfl,rfl⟩
def aIndexAddr (T:TypeId→Option TD) (t:TypeId) (x i:AV):Option AV :=
 match T t,aInt i with
 | some d,some j =>
  match d.k with
  | .slice e=>match T e with
   | none=>none
   | some de=>match x with
    | .rd s xs=>if 0≤j∧s=de.size then (match xs[j.toNat]? with|some e=>some (.rp e)|none=>none) else none
    | .sl b m s o n=>if (0≤j∧j<n)∧s=de.size then some (.ep b m s (o+j.toNat) 0) else none
    | .bs b o s n=>if (0≤j∧j<n)∧s=de.size then some (.bp b (o+j.toNat*s)) else none
    | _=>none
  | .array n e=>match T e with
   | none=>none
   | some de=>if 0≤j∧j<n then (match x with
    | .bp b o=>some (.bp b (o+j.toNat*de.size))
    | .rp cs=>some (.rp (cs.drop (j.toNat*de.size)))
    | .ep b m s i' k=>some (.ep b m s i' (k+j.toNat*de.size))
    | _=>none) else none
  | _=>none
 | _,_=>none
theorem CCells.drop {w:World} {G:Nat→Prop} {blk off:Nat} {cs:List AV} (h:CCells w G blk off cs) (n:Nat):CCells w G blk (off+n) (cs.drop n) :=
 CCells.of_get fun j a e=>by
  rw [List.getElem?_drop] at e
  have:=h.get e
  rwa [Nat.add_assoc]
theorem aIndexAddr_ok {P:Program} {t:TypeId} {x i av:AV} {E:Env} {w:World} {xv iv:Value} (h:aIndexAddr (Types P) t x i=some av) (hx:Rep E w x xv) (hi:Rep E w i iv) :
  ∃ y,(Instr.indexAt t xv iv).run P w=.ok y w∧Rep E w av y:=by
 unfold aIndexAddr at h
 cases ht:Types P t<;>simp only [ht,reduceCtorEq] at h
 rename_i d
 cases hj:aInt i<;>simp only [hj,reduceCtorEq] at h
 rename_i j
 obtain ⟨k,rfl,hjr⟩:=aInt_ok (P:=P) hj hi
 cases hk:d.k<;>simp only [hk,reduceCtorEq] at h
 case array n e =>
  cases he:Types P e<;>simp only [he,reduceCtorEq] at h
  rename_i de
  split at h
  case isFalse=>simp at h
  rename_i hjn
  have hrun:∀ a,(Instr.indexAt t (.pointer (some a)) (.int k j)).run P w=.ok (.pointer (some (a.add (j.toNat*de.size)))) w:=fun a=>by
   simp [Instr.indexAt,hjr,und_array ht hk,Instr.sureAddr,hjn,run_size he]
  cases x<;>simp only [reduceCtorEq,Option.some.injEq] at h
  case bp b o =>
   subst h
   simp only [Rep] at hx
   obtain ⟨k1,k2,blk,sz,k3,rfl⟩:=hx
   exact ⟨_,hrun _,by simp only [Rep,add_plain];exact ⟨k1,k2,blk,sz,k3,rfl⟩⟩
  case rp cs =>
   subst h
   simp only [Rep,CRep] at hx
   obtain ⟨blk,off,rfl,k3,k4⟩:=hx
   exact ⟨_,hrun _,by simp only [Rep,CRep,add_plain];exact ⟨blk,_,rfl,k3,k4.drop _⟩⟩
  case ep b m s i' jj =>
   subst h
   simp only [Rep] at hx
   obtain ⟨k1,k2,k3,a,rfl,k5⟩:=hx
   refine ⟨_,hrun _,?_⟩
   simp only [Rep]
   refine ⟨k1,k2,k3,_,rfl,fun hm=>?_⟩
   obtain ⟨blk,base,sz,k6,rfl⟩:=k5 hm
   exact ⟨blk,base,sz,k6,by rw [add_plain,Nat.add_assoc]⟩
 case slice e =>
  cases he:Types P e<;>simp only [he,reduceCtorEq] at h
  rename_i de
  have hrun:∀ a (n:Nat) c,0≤j→j<(n:Int)→(Instr.indexAt t (.slice (some a) n c) (.int k j)).run P w=.ok (.pointer (some (a.add (j.toNat*de.size)))) w:=fun a n c h1 h2=>by
   simp [Instr.indexAt,hjr,und_slice ht hk,h1,h2,run_size he]
  cases x<;>simp only [reduceCtorEq] at h
  case rd s xs =>
   split at h
   case isFalse=>simp at h
   rename_i hjs
   obtain ⟨hj0,rfl⟩:=hjs
   cases hxe:xs[j.toNat]?<;>simp only [hxe,reduceCtorEq,Option.some.injEq] at h
   rename_i el
   subst h
   have hlt:=(List.getElem?_eq_some_iff.1 hxe).1
   simp only [Rep,CRep] at hx
   obtain ⟨p,c,rfl,k1,k2,k3⟩:=hx
   rcases k3 with rfl|⟨blk,off,rfl,k4,k5⟩
   ·simp at hlt
   ·refine ⟨_,hrun _ _ _ hj0 (by omega),?_⟩
    simp only [Rep,CRep,add_plain]
    exact ⟨blk,_,rfl,k4,(k5.get hxe).2⟩
  case sl b m s o n =>
   split at h
   case isFalse=>simp at h
   rename_i hjs
   obtain ⟨⟨hj0,hjn⟩,rfl⟩:=hjs
   simp only [Option.some.injEq] at h
   subst h
   simp only [Rep] at hx
   obtain ⟨k1,k2,k3,p,c,rfl,k4,k4',k5⟩:=hx
   cases p with
   | none=>have:=k4' rfl;omega
   | some a =>
    refine ⟨_,hrun _ _ _ hj0 hjn,?_⟩
    simp only [Rep]
    refine ⟨k1,k2,k3,_,rfl,fun hm=>?_⟩
    have:=k5 hm
    cases hL:E.loc b with
    | none =>
     simp only [hL,SlAt] at this
     omega
    | some lo =>
     obtain ⟨blk,base,sz⟩:=lo
     simp only [hL,SlAt,Option.some.injEq] at this
     obtain ⟨a',rfl,q1,q2⟩:=this
     rcases q1 with q1|q1
     ·omega
     ·subst q1
      exact ⟨blk,base,sz,rfl,by rw [add_plain,Nat.add_mul,Nat.add_zero,Nat.add_assoc]⟩
  case bs b o s n =>
   split at h
   case isFalse=>simp at h
   rename_i hjs
   obtain ⟨⟨hj0,hjn⟩,rfl⟩:=hjs
   simp only [Option.some.injEq] at h
   subst h
   simp only [Rep] at hx
   obtain ⟨k1,k2,blk,sz,p,c,k3,rfl,k4,k5⟩:=hx
   rcases k5 with k5|rfl
   ·omega
   ·refine ⟨_,hrun _ _ _ hj0 hjn,?_⟩
    simp only [Rep,add_plain]
    exact ⟨k1,k2,blk,sz,k3,rfl⟩
end Go.AM
