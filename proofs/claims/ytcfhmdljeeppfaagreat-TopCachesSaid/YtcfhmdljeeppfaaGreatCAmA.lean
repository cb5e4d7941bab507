/- A part of the proof. -/
import Derived.Calls
import Derived.Tactics
import Derived.Laws.World
import Derived.Laws.Sem
import Derived.Laws.Rows
import Derived.Laws.Cells
import Derived.Laws.Tables
import Derived.ChangeKeysEq
import Derived.Laws.Slices
import Derived.Laws.MakeOwn
set_option linter.all false
namespace Go.AM
open Go
inductive AV where
 | any
 | v (x:Value)
 | agg (cs:List AV)
 | tup (cs:List AV)
 | rd (s:Nat) (xs:List (List AV))
 | ow (s:Nat) (xs:List (List AV))
 | rp (cs:List AV)
 | rf (cs:List AV)
 | bp (b o:Nat)
 | sl (b m s o n:Nat)
 | ep (b m s i j:Nat)
 | bs (b o s n:Nat)
 | fn (f:FuncId) (cs:List AV)
 | ifc (t:TypeId) (cs:List AV)
 | mp (b m:Nat)
 | rm (n:Nat) (es:List (List Int×AV))
 | om (n:Nat) (es:List (List Int×AV))
 deriving Inhabited
inductive AO where
 | dead
 | box (cs:List AV)
 | vec (m s:Nat) (f:Bool) (xs:List (List AV))
 | map (m n:Nat) (es:List (List Int×AV))
 deriving Inhabited
def keyV:List Int→Value
 | [k]=>.int .i64 k
 | ks=>.agg (ks.map (Value.int .i64)).toArray
mutual
def CRep (w:World) (G:Nat→Prop):AV→Value→Prop
 | .any,_=>True
 | .v y,x=>x=y
 | .agg cs,x=>∃ vs:List Value,x=.agg vs.toArray∧(∀ y∈vs,y.oneCell'=true)∧CRL w G cs vs
 | .tup cs,x=>∃ vs:List Value,x=.tuple vs.toArray∧CRL w G cs vs
 | .rd s xs,x=>∃ p c,x=.slice p xs.length c∧xs.length≤c∧(p=none→c=0)∧(xs=[]∨∃ blk off,p=some ⟨blk,off,none⟩∧G blk∧CRows w G s blk off xs)
 | .rp cs,x=>∃ blk off,x=.pointer (some ⟨blk,off,none⟩)∧G blk∧CCs w G blk off cs
 | .fn f cs,x=>∃ vs:List Value,x=.func (.func f) #[] vs.toArray∧CRL w G cs vs
 | .ifc t cs,x=>∃ v:Value,x=.iface t v∧CRL w G cs [v]
 | .rm n es,x=>∃ blk ents clk,x=.map (some blk)∧G blk∧w.heap[blk]?=some (.map (List.toArray ents) clk)∧CEnts w G n es ents
 | _,_=>False
def CEnts (w:World) (G:Nat→Prop) (n:Nat):List (List Int×AV)→List MapEntry→Prop
 | [],[]=>True
 | (k,a)::r,e::s=>(k.length=n∧e.key=keyV k)∧CRep w G a e.val∧CEnts w G n r s
 | _,_=>False
def CRL (w:World) (G:Nat→Prop):List AV→List Value→Prop
 | [],[]=>True
 | a::as,x::xs=>CRep w G a x∧CRL w G as xs
 | _,_=>False
def CCs (w:World) (G:Nat→Prop) (blk:Nat) (off:Nat):List AV→Prop
 | []=>True
 | a::r=>(∃ x,w.cell? ⟨blk,off,none⟩=some x∧x.oneCell'=true∧CRep w G a x)∧CCs w G blk (off+1) r
def CRows (w:World) (G:Nat→Prop) (s blk:Nat) (off:Nat):List (List AV)→Prop
 | []=>True
 | e::r=>e.length=s∧CCs w G blk off e∧CRows w G s blk (off+s) r
end
structure Env where
 G:Nat→Prop
 alive:Nat→Prop
 ver:Nat→Nat
 loc:Nat→Option (Nat×Nat×Nat)
def SlAt (l:Option (Nat×Nat×Nat)) (s o:Nat) (p:Option Addr) (c:Nat):Prop :=
 match l with
 | none=>o=0∧c=0
 | some (blk,base,sz)=>∃ a,p=some a∧(c=0∨a=⟨blk,base+o*s,none⟩)∧base+(o+c)*s=sz
mutual
def Rep (E:Env) (w:World):AV→Value→Prop
 | .bp b o,x=>E.alive b∧E.ver b=0∧∃ blk sz,E.loc b=some (blk,0,sz)∧x=.pointer (some ⟨blk,o,none⟩)
 | .sl b m s o n,x=>E.alive b∧1≤m∧m≤E.ver b∧∃ p c,x=.slice p n c∧n≤c∧(p=none→c=0)∧(m=E.ver b→SlAt (E.loc b) s o p c)
 | .ep b m s i j,x=>E.alive b∧1≤m∧m≤E.ver b∧∃ a,x=.pointer (some a)∧(m=E.ver b→∃ blk base sz,E.loc b=some (blk,base,sz)∧a=⟨blk,base+i*s+j,none⟩)
 | .bs b o _ n,x=>E.alive b∧E.ver b=0∧∃ blk sz p c,E.loc b=some (blk,0,sz)∧x=.slice (some p) n c∧n≤c∧(n=0∨p=⟨blk,o,none⟩)
 | .mp b m,x=>E.alive b∧1≤m∧m≤E.ver b∧∃ blk,x=.map (some blk)∧(m=E.ver b→E.loc b=some (blk,0,0))
 | .agg cs,x=>∃ vs:List Value,x=.agg vs.toArray∧(∀ y∈vs,y.oneCell'=true)∧RepL E w cs vs
 | .tup cs,x=>∃ vs:List Value,x=.tuple vs.toArray∧RepL E w cs vs
 | .fn f cs,x=>∃ vs:List Value,x=.func (.func f) #[] vs.toArray∧RepL E w cs vs
 | .ifc t cs,x=>∃ v:Value,x=.iface t v∧RepL E w cs [v]
 | a,x=>CRep w E.G a x
def RepL (E:Env) (w:World):List AV→List Value→Prop
 | [],[]=>True
 | a::as,x::xs=>Rep E w a x∧RepL E w as xs
 | _,_=>False
end
def BornOK (ents:List MapEntry) (clk:Nat):Prop:=(∀ e∈ents,e.born<clk)∧(ents.map (·.born)).Nodup
def CEntB (w:World) (G:Nat→Prop) (n:Nat) (es:List (List Int×AV)) (ents:List MapEntry) (clk:Nat):Prop:=CEnts w G n es ents∧BornOK ents clk
def ObR (E:Env) (w:World) (b:Nat):AO→Prop
 | .dead=>True
 | .box cs=>E.ver b=0∧∃ blk t vs,E.loc b=some (blk,0,vs.length)∧w.heap[blk]?=some (.cells vs.toArray t (0,0))∧(∀ y∈vs,y.oneCell'=true)∧RepL E w cs vs
 | .vec m s f xs=>E.ver b=m∧1≤m∧match E.loc b with
  | none=>xs=[]
  | some (blk,base,sz)=>∃ c t,w.heap[blk]?=some (.cells c t (0,0))∧sz≤c.size∧(∀ y∈c.toList,y.oneCell'=true)∧base+xs.length*s≤sz∧(f=true→base+xs.length*s=sz)∧CRows w E.G s blk base xs
 | .map m n es=>E.ver b=m∧1≤m∧∃ blk ents clk,E.loc b=some (blk,0,0)∧w.heap[blk]?=some (.map (List.toArray ents) clk)∧CEntB w E.G n es ents clk
structure Frame (w0:World) (bl:List Nat) (w:World):Prop where
 os:w.os=w0.os
 out:w.output=w0.output
 size:w0.heap.size≤w.heap.size
 old:∀ k,k<w0.heap.size→k ∉ bl→w.heap[k]?=w0.heap[k]?
structure Env.Le (E E':Env):Prop where
 G:∀ k,E.G k→E'.G k
 alive:∀ b,E.alive b→E'.alive b
 same:∀ b,E.alive b→(E'.ver b=E.ver b∧E'.loc b=E.loc b)∨(1≤E.ver b∧E.ver b<E'.ver b)
structure Bk where
 l:List Nat
 E:Env
 n:Nat
def Bk.G (b:Bk):Nat→Prop:=b.E.G
def Env.start (G:Nat→Prop):Env:={ G:=G,alive:=fun _=>False,ver:=fun _=>0,loc:=fun _=>none }
def Bk.pure (G:Nat→Prop):Bk:=⟨[],Env.start G,0⟩
@[simp] theorem Bk.pure_l (G:Nat→Prop):(Bk.pure G).l=[]:=rfl
@[simp] theorem Bk.pure_n (G:Nat→Prop):(Bk.pure G).n=0:=rfl
@[simp] theorem Bk.pure_G (G:Nat→Prop):(Bk.pure G).G=G:=rfl
structure Inv (w0:World) (bl:Bk) (E:Env) (w:World):Prop where
 frame:Frame w0 bl.l w
 gin:bl.E.Le E
 low:∀ b,bl.E.alive b→b<bl.n
 gout:∀ k,E.G k→bl.G k∨w0.heap.size≤k∨k∈bl.l
 good:∀ k,E.G k→k<w.heap.size
 locs:∀ b blk base sz,E.alive b→E.loc b=some (blk,base,sz)→blk<w.heap.size∧¬ E.G blk∧(w0.heap.size≤blk∨blk∈bl.l)
 apart:∀ b b' blk base sz base' sz',E.alive b→E.alive b'→E.loc b=some (blk,base,sz)→E.loc b'=some (blk,base',sz')→b=b'
theorem Env.Le.refl (E:Env):E.Le E:=⟨fun _ h=>h,fun _ h=>h,fun _ _=>.inl ⟨rfl,rfl⟩⟩
theorem Env.Le.trans {A B C:Env} (h:A.Le B) (k:B.Le C):A.Le C :=
 ⟨fun x hx=>k.G x (h.G x hx),fun b hb=>k.alive b (h.alive b hb),fun b hb=>by
  rcases h.same b hb with ⟨h1,h2⟩|⟨h1,h2⟩<;>rcases k.same b (h.alive b hb) with ⟨k1,k2⟩|⟨k1,k2⟩
  ·exact .inl ⟨k1.trans h1,k2.trans h2⟩
  ·exact .inr ⟨by omega,by omega⟩
  ·exact .inr ⟨h1,by omega⟩
  ·exact .inr ⟨h1,by omega⟩⟩
theorem Frame.refl (w:World):Frame w [] w :=
 ⟨rfl,rfl,Nat.le_refl _,fun _ _ _=>rfl⟩
theorem cell_of_heap {w w':World} {blk:Nat} (h:w'.heap[blk]?=w.heap[blk]?) (off:Nat):w'.cell? ⟨blk,off,none⟩=w.cell? ⟨blk,off,none⟩:=by
 unfold World.cell?
 rw [h]
mutual
theorem CRep.mono {w w':World} {G G':Nat→Prop} (hG:∀ k,G k→G' k) (hw:∀ k,G k→w'.heap[k]?=w.heap[k]?):∀ {a:AV} {x:Value},CRep w G a x→CRep w' G' a x
 | .any,_,_=>by simp [CRep]
 | .v _,_,h=>by simpa [CRep] using h
 | .agg cs,_,h=>by
  simp only [CRep] at h ⊢
  obtain ⟨vs,h1,h2,h3⟩:=h
  exact ⟨vs,h1,h2,CRL.mono hG hw h3⟩
 | .tup cs,_,h=>by
  simp only [CRep] at h ⊢
  obtain ⟨vs,h1,h3⟩:=h
  exact ⟨vs,h1,CRL.mono hG hw h3⟩
 | .fn f cs,_,h=>by
  simp only [CRep] at h ⊢
  obtain ⟨vs,h1,h3⟩:=h
  exact ⟨vs,h1,CRL.mono hG hw h3⟩
 | .ifc t cs,_,h=>by
  simp only [CRep] at h ⊢
  obtain ⟨vs,h1,h3⟩:=h
  exact ⟨vs,h1,CRL.mono hG hw h3⟩
 | .rd s xs,_,h=>by
  simp only [CRep] at h ⊢
  obtain ⟨p,c,h1,h2,hpc,h3⟩:=h
  refine ⟨p,c,h1,h2,hpc,?_⟩
  rcases h3 with h3|⟨blk,off,h4,h5,h6⟩
  ·exact .inl h3
  ·exact .inr ⟨blk,off,h4,hG _ h5,CRows.mono hG hw (.inr h5) h6⟩
 | .rp cs,_,h=>by
  simp only [CRep] at h ⊢
  obtain ⟨blk,off,h4,h5,h6⟩:=h
  exact ⟨blk,off,h4,hG _ h5,CCs.mono hG hw (.inr h5) h6⟩
 | .rm n es,_,h=>by
  simp only [CRep] at h ⊢
  obtain ⟨blk,ents,clk,h4,h5,h6,h7⟩:=h
  exact ⟨blk,ents,clk,h4,hG _ h5,(hw _ h5).trans h6,CEnts.mono hG hw h7⟩
 | .ow ..,_,h=>by simp [CRep] at h
 | .rf ..,_,h=>by simp [CRep] at h
 | .bp ..,_,h=>by simp [CRep] at h
 | .sl ..,_,h=>by simp [CRep] at h
 | .ep ..,_,h=>by simp [CRep] at h
 | .bs ..,_,h=>by simp [CRep] at h
 | .mp ..,_,h=>by simp [CRep] at h
 | .om ..,_,h=>by simp [CRep] at h
theorem CEnts.mono {w w':World} {G G':Nat→Prop} (hG:∀ k,G k→G' k) (hw:∀ k,G k→w'.heap[k]?=w.heap[k]?) {n:Nat}:∀ {es:List (List Int×AV)} {xs:List MapEntry},CEnts w G n es xs→CEnts w' G' n es xs
 | [],[],_=>by simp [CEnts]
 | (k,a)::r,e::s,h=>by
  simp only [CEnts] at h ⊢
  exact ⟨h.1,CRep.mono hG hw h.2.1,CEnts.mono hG hw h.2.2⟩
 | [],_::_,h=>by simp [CEnts] at h
 | _::_,[],h=>by simp [CEnts] at h
theorem CRL.mono {w w':World} {G G':Nat→Prop} (hG:∀ k,G k→G' k) (hw:∀ k,G k→w'.heap[k]?=w.heap[k]?):∀ {as:List AV} {xs:List Value},CRL w G as xs→CRL w' G' as xs
 | [],[],_=>by simp [CRL]
 | a::as,x::xs,h=>by
  simp only [CRL] at h ⊢
  exact ⟨CRep.mono hG hw h.1,CRL.mono hG hw h.2⟩
 | [],_::_,h=>by simp [CRL] at h
 | _::_,[],h=>by simp [CRL] at h
theorem CCs.mono {w w':World} {G G':Nat→Prop} (hG:∀ k,G k→G' k) (hw:∀ k,G k→w'.heap[k]?=w.heap[k]?) {blk:Nat} (hb:w'.heap[blk]?=w.heap[blk]?∨G blk):∀ {off:Nat} {cs:List AV},CCs w G blk off cs→CCs w' G' blk off cs
 | _,[],_=>by simp [CCs]
 | off,a::r,h=>by
  simp only [CCs] at h ⊢
  obtain ⟨⟨x,h1,h2,h3⟩,h4⟩:=h
  exact ⟨⟨x,by rw [cell_of_heap (hb.elim id (hw _))];exact h1,h2,CRep.mono hG hw h3⟩,CCs.mono hG hw hb h4⟩
theorem CRows.mono {w w':World} {G G':Nat→Prop} (hG:∀ k,G k→G' k) (hw:∀ k,G k→w'.heap[k]?=w.heap[k]?) {s blk:Nat} (hb:w'.heap[blk]?=w.heap[blk]?∨G blk):∀ {off:Nat} {xs:List (List AV)},CRows w G s blk off xs→CRows w' G' s blk off xs
 | _,[],_=>by simp [CRows]
 | off,e::r,h=>by
  simp only [CRows] at h ⊢
  exact ⟨h.1,CCs.mono hG hw hb h.2.1,CRows.mono hG hw hb h.2.2⟩
end
theorem CEntB.mono {w w':World} {G G':Nat→Prop} {n:Nat} {es:List (List Int×AV)} {xs:List MapEntry} {clk:Nat} (h:CEntB w G n es xs clk) (hG:∀ k,G k→G' k) (hw:∀ k,G k→w'.heap[k]?=w.heap[k]?):CEntB w' G' n es xs clk:=⟨CEnts.mono hG hw h.1,h.2⟩
mutual
theorem Rep.mono {E E':Env} {w w':World} (hE:E.Le E') (hw:∀ k,E.G k→w'.heap[k]?=w.heap[k]?):∀ {a:AV} {x:Value},Rep E w a x→Rep E' w' a x
 | .bp b o,x,h=>by
  simp only [Rep] at h ⊢
  obtain ⟨h1,h2,blk,sz,h3,h4⟩:=h
  rcases hE.same b h1 with ⟨k1,k2⟩|⟨k1,_⟩
  ·exact ⟨hE.alive b h1,k1.trans h2,blk,sz,k2.trans h3,h4⟩
  ·omega
 | .bs b o s n,x,h=>by
  simp only [Rep] at h ⊢
  obtain ⟨h1,h2,blk,sz,p,c,h3,h4,h5⟩:=h
  rcases hE.same b h1 with ⟨k1,k2⟩|⟨k1,_⟩
  ·exact ⟨hE.alive b h1,k1.trans h2,blk,sz,p,c,k2.trans h3,h4,h5⟩
  ·omega
 | .sl b m s o n,x,h=>by
  simp only [Rep] at h ⊢
  obtain ⟨h1,h2,h3,p,c,h4,h4',h4'',h5⟩:=h
  rcases hE.same b h1 with ⟨k1,k2⟩|⟨k1,k2⟩
  ·exact ⟨hE.alive b h1,h2,by omega,p,c,h4,h4',h4'',fun e=>by rw [k2];exact h5 (e.trans k1)⟩
  ·exact ⟨hE.alive b h1,h2,by omega,p,c,h4,h4',h4'',fun e=>by omega⟩
 | .ep b m s i j,x,h=>by
  simp only [Rep] at h ⊢
  obtain ⟨h1,h2,h3,a,h4,h5⟩:=h
  rcases hE.same b h1 with ⟨k1,k2⟩|⟨k1,k2⟩
  ·exact ⟨hE.alive b h1,h2,by omega,a,h4,fun e=>by rw [k2];exact h5 (e.trans k1)⟩
  ·exact ⟨hE.alive b h1,h2,by omega,a,h4,fun e=>by omega⟩
 | .agg cs,_,h=>by
  simp only [Rep] at h ⊢
  obtain ⟨vs,h1,h2,h3⟩:=h
  exact ⟨vs,h1,h2,RepL.mono hE hw h3⟩
 | .tup cs,_,h=>by
  simp only [Rep] at h ⊢
  obtain ⟨vs,h1,h3⟩:=h
  exact ⟨vs,h1,RepL.mono hE hw h3⟩
 | .fn f cs,_,h=>by
  simp only [Rep] at h ⊢
  obtain ⟨vs,h1,h3⟩:=h
  exact ⟨vs,h1,RepL.mono hE hw h3⟩
 | .ifc t cs,_,h=>by
  simp only [Rep] at h ⊢
  obtain ⟨vs,h1,h3⟩:=h
  exact ⟨vs,h1,RepL.mono hE hw h3⟩
 | .mp b m,x,h=>by
  simp only [Rep] at h ⊢
  obtain ⟨h1,h2,h3,blk,h4,h5⟩:=h
  rcases hE.same b h1 with ⟨k1,k2⟩|⟨k1,k2⟩
  ·exact ⟨hE.alive b h1,h2,by omega,blk,h4,fun e=>by rw [k2];exact h5 (e.trans k1)⟩
  ·exact ⟨hE.alive b h1,h2,by omega,blk,h4,fun e=>by omega⟩
 | .rm ..,_,h=>by simp only [Rep] at h ⊢;exact h.mono hE.G hw
 | .om ..,_,h=>by simp only [Rep] at h ⊢;exact h.mono hE.G hw
 | .any,_,h=>by simp only [Rep] at h ⊢;exact h.mono hE.G hw
 | .v _,_,h=>by simp only [Rep] at h ⊢;exact h.mono hE.G hw
 | .rd ..,_,h=>by simp only [Rep] at h ⊢;exact h.mono hE.G hw
 | .ow ..,_,h=>by simp only [Rep] at h ⊢;exact h.mono hE.G hw
 | .rp ..,_,h=>by simp only [Rep] at h ⊢;exact h.mono hE.G hw
 | .rf ..,_,h=>by simp only [Rep] at h ⊢;exact h.mono hE.G hw
theorem RepL.mono {E E':Env} {w w':World} (hE:E.Le E') (hw:∀ k,E.G k→w'.heap[k]?=w.heap[k]?):∀ {as:List AV} {xs:List Value},RepL E w as xs→RepL E' w' as xs
 | [],[],_=>by simp [RepL]
 | a::as,x::xs,h=>by
  simp only [RepL] at h ⊢
  exact ⟨Rep.mono hE hw h.1,RepL.mono hE hw h.2⟩
 | [],_::_,h=>by simp [RepL] at h
 | _::_,[],h=>by simp [RepL] at h
end
theorem ObR.mono {E E':Env} {w w':World} (hE:E.Le E') (hw:∀ k,E.G k→w'.heap[k]?=w.heap[k]?) {b:Nat} (h1:E'.ver b=E.ver b) (h2:E'.loc b=E.loc b)
  (h3:∀ blk base sz,E.loc b=some (blk,base,sz)→w'.heap[blk]?=w.heap[blk]?):∀ {o:AO},ObR E w b o→ObR E' w' b o
 | .dead,_=>trivial
 | .box cs,h=>by
  simp only [ObR] at h ⊢
  obtain ⟨k1,blk,t,vs,k2,k3,k4,k5⟩:=h
  exact ⟨h1.trans k1,blk,t,vs,h2.trans k2,(h3 _ _ _ k2).trans k3,k4,k5.mono hE hw⟩
 | .vec m s f xs,h=>by
  simp only [ObR] at h ⊢
  obtain ⟨k1,k2,k3⟩:=h
  refine ⟨h1.trans k1,k2,?_⟩
  rw [h2]
  cases hl:E.loc b with
  | none=>simp only [hl] at k3 ⊢;exact k3
  | some l =>
   obtain ⟨blk,base,sz⟩:=l
   simp only [hl] at k3 ⊢
   obtain ⟨c,t,k4,k5,k5',k6,k6',k7⟩:=k3
   exact ⟨c,t,(h3 _ _ _ hl).trans k4,k5,k5',k6,k6',k7.mono hE.G hw (.inl (h3 _ _ _ hl))⟩
 | .map m n es,h=>by
  simp only [ObR] at h ⊢
  obtain ⟨k1,k0,blk,ents,clk,k2,k3,k4⟩:=h
  exact ⟨h1.trans k1,k0,blk,ents,clk,h2.trans k2,(h3 _ _ _ k2).trans k3,k4.mono hE.G hw⟩
theorem RepL.length {E:Env} {w:World}:∀ {as:List AV} {xs:List Value},RepL E w as xs→as.length=xs.length
 | [],[],_=>rfl
 | a::as,x::xs,h=>by simp only [RepL] at h;simp [RepL.length h.2]
 | [],_::_,h=>by simp [RepL] at h
 | _::_,[],h=>by simp [RepL] at h
theorem RepL.get {E:Env} {w:World}:∀ {as:List AV} {xs:List Value} {i:Nat} {a:AV},RepL E w as xs→as[i]?=some a→∃ x,xs[i]?=some x∧Rep E w a x
 | [],[],i,a,_,h=>by simp at h
 | a::as,x::xs,0,a',h,e=>by simp only [RepL] at h;simp at e;subst e;exact ⟨x,by simp,h.1⟩
 | a::as,x::xs,i+1,a',h,e=>by simp only [RepL] at h;simp at e;simpa using RepL.get h.2 e
 | [],_::_,_,_,h,_=>by simp [RepL] at h
 | _::_,[],_,_,h,_=>by simp [RepL] at h
theorem RepL.set {E:Env} {w:World}:∀ {as:List AV} {xs:List Value} {i:Nat} {a:AV} {x:Value},RepL E w as xs→Rep E w a x→RepL E w (as.set i a) (xs.set i x)
 | [],[],i,a,_,_,_=>by simp [RepL]
 | a::as,x::xs,0,a',x',h,e=>by simp only [RepL,List.set_cons_zero] at h ⊢;exact ⟨e,h.2⟩
 | a::as,x::xs,i+1,a',x',h,e=>by simp only [RepL,List.set_cons_succ] at h ⊢;exact ⟨h.1,RepL.set h.2 e⟩
 | [],_::_,_,_,_,h,_=>by simp [RepL] at h
 | _::_,[],_,_,_,h,_=>by simp [RepL] at h
theorem RepL.append {E:Env} {w:World}:∀ {as:List AV} {xs:List Value} {bs:List AV} {ys:List Value},RepL E w as xs→RepL E w bs ys→RepL E w (as++bs) (xs++ys)
 | [],[],_,_,_,h=>by simpa using h
 | a::as,x::xs,_,_,h,k=>by simp only [RepL,List.cons_append] at h ⊢;exact ⟨h.1,RepL.append h.2 k⟩
 | [],_::_,_,_,h,_=>by simp [RepL] at h
 | _::_,[],_,_,h,_=>by simp [RepL] at h
theorem RepL.take {E:Env} {w:World}:∀ {as:List AV} {xs:List Value} (n:Nat),RepL E w as xs→RepL E w (as.take n) (xs.take n)
 | [],[],n,_=>by simp [RepL]
 | a::as,x::xs,0,h=>by simp [RepL]
 | a::as,x::xs,n+1,h=>by simp only [RepL,List.take_succ_cons] at h ⊢;exact ⟨h.1,RepL.take n h.2⟩
 | [],_::_,_,h=>by simp [RepL] at h
 | _::_,[],_,h=>by simp [RepL] at h
theorem RepL.drop {E:Env} {w:World}:∀ {as:List AV} {xs:List Value} (n:Nat),RepL E w as xs→RepL E w (as.drop n) (xs.drop n)
 | [],[],n,_=>by simp [RepL]
 | a::as,x::xs,0,h=>by simpa using h
 | a::as,x::xs,n+1,h=>by simp only [RepL] at h;simpa using RepL.drop n h.2
 | [],_::_,_,h=>by simp [RepL] at h
 | _::_,[],_,h=>by simp [RepL] at h
theorem Rep.of_c {E:Env} {w:World}:∀ {a:AV} {x:Value},CRep w E.G a x→Rep E w a x
 | .any,_,h=>by simpa only [Rep] using h
 | .v _,_,h=>by simpa only [Rep] using h
 | .rd ..,_,h=>by simpa only [Rep] using h
 | .rp ..,_,h=>by simpa only [Rep] using h
 | .ow ..,_,h=>by simpa only [Rep] using h
 | .rf ..,_,h=>by simpa only [Rep] using h
 | .rm ..,_,h=>by simpa only [Rep] using h
 | .om ..,_,h=>by simpa only [Rep] using h
 | .mp ..,_,h=>by simp [CRep] at h
 | .bp ..,_,h=>by simp [CRep] at h
 | .sl ..,_,h=>by simp [CRep] at h
 | .ep ..,_,h=>by simp [CRep] at h
 | .bs ..,_,h=>by simp [CRep] at h
 | .agg cs,_,h=>by
  simp only [CRep,Rep] at h ⊢
  obtain ⟨vs,h1,h2,h3⟩:=h
  exact ⟨vs,h1,h2,go h3⟩
 | .tup cs,_,h=>by
  simp only [CRep,Rep] at h ⊢
  obtain ⟨vs,h1,h3⟩:=h
  exact ⟨vs,h1,go h3⟩
 | .fn f cs,_,h=>by
  simp only [CRep,Rep] at h ⊢
  obtain ⟨vs,h1,h3⟩:=h
  exact ⟨vs,h1,go h3⟩
 | .ifc t cs,_,h=>by
  simp only [CRep,Rep] at h ⊢
  obtain ⟨vs,h1,h3⟩:=h
  exact ⟨vs,h1,go h3⟩
where
 go:∀ {as:List AV} {xs:List Value},CRL w E.G as xs→RepL E w as xs
 | [],[],_=>by simp [RepL]
 | a::as,x::xs,h=>by simp only [CRL,RepL] at h ⊢;exact ⟨Rep.of_c h.1,go h.2⟩
 | [],_::_,h=>by simp [CRL] at h
 | _::_,[],h=>by simp [CRL] at h
theorem oJ {α:Type _} {a b:α}:(some a=some b)=(a=b):=Option.some.injEq a b
theorem pJ {α β:Type _} {a c:α} {b d:β}:((a,b)=(c,d))=(a=c∧b=d):=Prod.mk.injEq a b c d
theorem cJ {α:Type _} {a b:α} {l m:List α}:(a::l=b::m)=(a=b∧l=m):=List.cons.injEq a l b m
theorem dE (p:Prop) [Decidable p]:p∨¬p:=Decidable.em p
theorem tkL {α:Type _} {l:List α} {i:Nat} (h:l.length≤i):l.take i=l:=List.take_of_length_le h
def getM (M:List (Nat×AO)) (b:Nat):AO :=
 match M with
 | []=>.dead
 | (k,o)::r=>if k=b then o else getM r b
def setM (M:List (Nat×AO)) (b:Nat) (o:AO):List (Nat×AO) :=
 match M with
 | []=>[(b,o)]
 | (k,p)::r=>if k=b then (k,o)::r else (k,p)::setM r b o
def updM (M:Nat→AO) (u:List (Nat×AO)) (b:Nat):AO :=
 match u with
 | []=>M b
 | (k,o)::r=>if k=b then o else updM M r b
theorem getM_setM (M:List (Nat×AO)) (b k:Nat) (o:AO):getM (setM M b o) k=if b=k then o else getM M k:=by
 induction M with
 | nil=>simp [setM,getM]
 | cons x r ih =>
  obtain ⟨a,p⟩:=x
  simp only [setM]
  split
  ·rename_i h;subst h;simp only [getM];split<;>rfl
  ·rename_i h
   simp only [getM,ih]
   split
   ·rename_i h';subst h';rw [if_neg (Ne.symm h)]
   ·rfl
def Env.upd (E:Env) (b v:Nat) (l:Option (Nat×Nat×Nat)):Env :=
 {G:=E.G,alive:=fun k=>E.alive k∨k=b,ver:=fun k=>if k=b then v else E.ver k,loc:=fun k=>if k=b then l else E.loc k }
structure StT (w0:World) (bl:Bk) (E:Env) (w:World) (upd:List (Nat×AO)) (E':Env) (w':World):Prop where
 le:E.Le E'
 inv:Inv w0 bl E' w'
 size:w.heap.size≤w'.heap.size
 keep:∀ k,k<w.heap.size→(∀ b base sz,E.alive b→b∈upd.map (·.1)→E.loc b≠some (k,base,sz))→w'.heap[k]?=w.heap[k]?
 alive:∀ b,E'.alive b→E.alive b∨b∈upd.map (·.1)
 same:∀ b,E.alive b→b ∉ upd.map (·.1)→E'.ver b=E.ver b∧E'.loc b=E.loc b
 objs:∀ b o,(b,o)∈upd→E'.alive b∧ObR E' w' b o
def MemOK (E:Env) (w:World) (M:Nat→AO):Prop:=∀ b,E.alive b→ObR E w b (M b)
theorem Inv.keepG {w0:World} {bl:Bk} {E:Env} {w:World} (h:Inv w0 bl E w) {upd:List (Nat×AO)} {E':Env} {w':World} (st:StT w0 bl E w upd E' w') (k:Nat) (hk:E.G k):w'.heap[k]?=w.heap[k]? :=
 st.keep k (h.good k hk) fun b base sz hb _ hl=>(h.locs b k base sz hb hl).2.1 hk
theorem StT.rep {w0:World} {bl:Bk} {E:Env} {w:World} {upd:List (Nat×AO)} {E':Env} {w':World} (st:StT w0 bl E w upd E' w') (h:Inv w0 bl E w) {a:AV} {x:Value} (hr:Rep E w a x):Rep E' w' a x :=
 hr.mono st.le (h.keepG st)
theorem updM_mem {M:Nat→AO} {u:List (Nat×AO)} {b:Nat} (h:b∈u.map (·.1)):(b,updM M u b)∈u:=by
 induction u with
 | nil=>simp at h
 | cons x r ih =>
  obtain ⟨k,o⟩:=x
  simp only [updM]
  split
  ·rename_i e;subst e;simp
  ·rename_i e
   simp only [List.map_cons,List.mem_cons] at h
   rcases h with h|h
   ·exact absurd h.symm e
   ·exact List.mem_cons_of_mem _ (ih h)
theorem updM_not {M:Nat→AO} {u:List (Nat×AO)} {b:Nat} (h:b ∉ u.map (·.1)):updM M u b=M b:=by
 induction u with
 | nil=>rfl
 | cons x r ih =>
  obtain ⟨k,o⟩:=x
  simp only [List.map_cons,List.mem_cons,not_or] at h
  simp only [updM]
  rw [if_neg (fun e=>h.1 e.symm)]
  exact ih h.2
theorem StT.obj {w0:World} {bl:Bk} {E:Env} {w:World} {upd:List (Nat×AO)} {E':Env} {w':World} (st:StT w0 bl E w upd E' w') (h:Inv w0 bl E w) {b:Nat} {o:AO}
  (hb:E.alive b) (hn:b ∉ upd.map (·.1)) (ho:ObR E w b o):ObR E' w' b o:=by
 have hs:=st.same b hb hn
 refine ho.mono st.le (h.keepG st) hs.1 hs.2 fun blk base sz hl=>?_
 refine st.keep blk (h.locs b blk base sz hb hl).1 fun b' base' sz' hb' hm hl'=>?_
 have:=h.apart b b' blk base sz base' sz' hb hb' hl hl'
 subst this
 exact hn hm
theorem StT.mem {w0:World} {bl:Bk} {E:Env} {w:World} {upd:List (Nat×AO)} {E':Env} {w':World} (st:StT w0 bl E w upd E' w') (h:Inv w0 bl E w) {M:Nat→AO}
  (hM:MemOK E w M):MemOK E' w' (updM M upd):=by
 intro b hb
 by_cases hn:b∈upd.map (·.1)
 ·exact (st.objs b _ (updM_mem hn)).2
 ·rw [updM_not hn]
  rcases st.alive b hb with h1|h1
  ·exact st.obj h h1 hn (hM b h1)
  ·exact absurd h1 hn
theorem StT.refl {w0:World} {bl:Bk} {E:Env} {w w':World} (h:Inv w0 bl E w) (h1:w'.heap=w.heap) (h2:w'.os=w.os) (h3:w'.output=w.output):StT w0 bl E w [] E w' where
 le:=Env.Le.refl E
 inv:=⟨⟨h2.trans h.frame.os,h3.trans h.frame.out,by rw [h1];exact h.frame.size,fun k a b=>by rw [h1];exact h.frame.old k a b⟩,h.gin,h.low,h.gout,fun k hk=>by rw [h1];exact h.good k hk,fun b blk base sz a c=>by rw [h1];exact h.locs b blk base sz a c,h.apart⟩
 size:=by rw [h1];exact Nat.le_refl _
 keep:=fun k _ _=>by rw [h1]
 alive:=fun b hb=>.inl hb
 same:=fun b _ _=>⟨rfl,rfl⟩
 objs:=fun b o h=>by simp at h
theorem Env.le_upd {E:Env} {b v':Nat} {l':Option (Nat×Nat×Nat)} (hb:E.alive b→(v'=E.ver b∧l'=E.loc b)∨(1≤E.ver b∧E.ver b<v')):E.Le (E.upd b v' l') :=
 ⟨fun k hk=>hk,fun k hk=>.inl hk,fun k hk=>by
  by_cases e:k=b
  ·subst e;simpa [Env.upd] using hb hk
  ·exact .inl (by simp [Env.upd,e])⟩
theorem StT.one {w0:World} {bl:Bk} {E:Env} {w w':World} (h:Inv w0 bl E w) (b:Nat) (o:AO) (v':Nat) (l':Option (Nat×Nat×Nat))
  (hb:E.alive b→(v'=E.ver b∧l'=E.loc b)∨(1≤E.ver b∧E.ver b<v'))
  (hl:∀ blk base sz,l'=some (blk,base,sz)→(∃ base0 sz0,E.alive b∧E.loc b=some (blk,base0,sz0))∨(w.heap.size≤blk∧blk<w'.heap.size))
  (hsz:w.heap.size≤w'.heap.size) (hos:w'.os=w.os) (hout:w'.output=w.output)
  (hkeep:∀ k,k<w.heap.size→(∀ base sz,E.alive b→E.loc b≠some (k,base,sz))→w'.heap[k]?=w.heap[k]?)
  (hobj:ObR (E.upd b v' l') w' b o):StT w0 bl E w [(b,o)] (E.upd b v' l') w':=by
 have hle:E.Le (E.upd b v' l'):=Env.le_upd hb
 refine ⟨hle,⟨⟨hos.trans h.frame.os,hout.trans h.frame.out,Nat.le_trans h.frame.size hsz,fun k h1 h2=>?_⟩,h.gin.trans hle,h.low,h.gout,fun k hk=>Nat.lt_of_lt_of_le (h.good k hk) hsz,?_,?_⟩,hsz,?_,?_,?_,?_⟩
 ·rw [hkeep k (by have:=h.frame.size;omega) fun base sz h3 h4=>?_]
  ·exact h.frame.old k h1 h2
  ·have:=(h.locs b k base sz h3 h4).2.2
   rcases this with h5|h5
   ·omega
   ·exact h2 h5
 ·intro k blk base sz hk hlk
  by_cases e:k=b
  ·subst e
   simp only [Env.upd,if_true] at hlk
   rcases hl blk base sz hlk with ⟨base0,sz0,h1,h2⟩|⟨h1,h2⟩
   ·have h3:=h.locs k blk base0 sz0 h1 h2
    exact ⟨by omega,h3.2.1,h3.2.2⟩
   ·exact ⟨h2,fun hg=>by have:=h.good blk hg;omega,.inl (by have:=h.frame.size;omega)⟩
  ·simp only [Env.upd,e,if_false,or_false] at hlk hk
   have h3:=h.locs k blk base sz hk hlk
   exact ⟨by omega,h3.2.1,h3.2.2⟩
 ·intro k k' blk base sz base' sz' hk hk' hlk hlk'
  have key:∀ j base1 sz1,E.alive j→E.loc j=some (blk,base1,sz1)→j≠b→∀ base2 sz2,l'=some (blk,base2,sz2)→False:=fun j base1 sz1 h1 h2 h3 base2 sz2 h4=>by
   rcases hl blk base2 sz2 h4 with ⟨base0,sz0,h5,h6⟩|⟨h5,h6⟩
   ·exact h3 (h.apart j b blk _ _ _ _ h1 h5 h2 h6)
   ·have:=(h.locs j blk base1 sz1 h1 h2).1;omega
  by_cases e:k=b<;>by_cases e':k'=b
  ·rw [e,e']
  ·subst e
   simp only [Env.upd,if_true,e',if_false,or_false] at hlk hlk' hk'
   exact (key k' base' sz' hk' hlk' e' base sz hlk).elim
  ·subst e'
   simp only [Env.upd,if_true,e,if_false,or_false] at hlk hlk' hk
   exact (key k base sz hk hlk e base' sz' hlk').elim
  ·simp only [Env.upd,e,e',if_false,or_false] at hlk hlk' hk hk'
   exact h.apart k k' blk base sz base' sz' hk hk' hlk hlk'
 ·intro k hk hn
  exact hkeep k hk fun base sz h1 h2=>hn b base sz h1 (by simp) h2
 ·intro k hk
  rcases hk with hk|hk
  ·exact .inl hk
  ·exact .inr (by simp [hk])
 ·intro k hk hn
  have:k≠b:=by simpa using hn
  simp [Env.upd,this]
 ·intro k p hkp
  simp only [List.mem_singleton,Prod.mk.injEq] at hkp
  obtain ⟨rfl,rfl⟩:=hkp
  exact ⟨.inr rfl,hobj⟩
theorem StT.alloc {w0:World} {bl:Bk} {E:Env} {w:World} (h:Inv w0 bl E w) (b:Nat) (o:AO) (v' base:Nat) (c:Array Value) (t:TypeId) (hb:¬ E.alive b)
  (hobj:ObR (E.upd b v' (some (w.heap.size,base,c.size))) (w.alloc (.cells c t)) b o):StT w0 bl E w [(b,o)] (E.upd b v' (some (w.heap.size,base,c.size))) (w.alloc (.cells c t)):=by
 refine StT.one h b o v' _ (fun hh=>absurd hh hb) (fun blk base' sz e=>?_) (by simp) rfl rfl (fun k hk _=>heap_alloc_old w _ k hk) hobj
 ·simp only [Option.some.injEq,Prod.mk.injEq] at e
  exact .inr ⟨by omega,by simp;omega⟩
theorem StT.none {w0:World} {bl:Bk} {E:Env} {w:World} (h:Inv w0 bl E w) (b s:Nat) (hb:¬ E.alive b) (f:Bool:=true):StT w0 bl E w [(b,.vec 1 s f [])] (E.upd b 1 none) w:=by
 refine StT.one h b _ 1 Option.none (fun hh=>absurd hh hb) (fun blk base' sz e=>by simp at e) (Nat.le_refl _) rfl rfl (fun k hk _=>rfl) ?_
 simp [ObR,Env.upd]
theorem StT.write {w0:World} {bl:Bk} {E:Env} {w:World} (h:Inv w0 bl E w) (b:Nat) (o:AO) (v' blk base base' sz sz':Nat) (c c':Array Value) (t:TypeId) (hb:E.alive b)
  (hl:E.loc b=some (blk,base,sz)) (hc:w.heap[blk]?=some (.cells c t (0,0)))
  (hv:(v'=E.ver b∧base'=base∧sz'=sz)∨(1≤E.ver b∧E.ver b<v'))
  (hobj:ObR (E.upd b v' (some (blk,base',sz'))) (w.setRow blk c') b o):StT w0 bl E w [(b,o)] (E.upd b v' (some (blk,base',sz'))) (w.setRow blk c'):=by
 have hblk:blk<w.heap.size:=(Array.getElem?_eq_some_iff.1 hc).1
 refine StT.one h b o v' _ (fun _=>?_) (fun blk' base'' sz2 e=>?_) (by simp) rfl rfl (fun k hk hn=>setRow_other w blk k c' fun e=>?_) hobj
 ·rcases hv with ⟨h1,h2,h3⟩|h1
  ·exact .inl ⟨h1,by rw [h2,h3,hl]⟩
  ·exact .inr h1
 ·simp only [Option.some.injEq,Prod.mk.injEq] at e
  exact .inl ⟨base,sz,hb,by rw [hl,e.1]⟩
 ·subst e;exact hn base sz hb hl
theorem CCs.get {w:World} {G:Nat→Prop} {blk:Nat}:∀ {cs:List AV} {off j:Nat} {a:AV},CCs w G blk off cs→cs[j]?=some a→∃ x,w.cell? ⟨blk,off+j,none⟩=some x∧x.oneCell'=true∧CRep w G a x
 | [],off,j,a,_,e=>by simp at e
 | b::r,off,0,a,h,e=>by simp only [CCs] at h;simp at e;subst e;simpa using h.1
 | b::r,off,j+1,a,h,e=>by
  simp only [CCs] at h
  simp at e
  have:=CCs.get (j:=j) h.2 e
  rwa [Nat.add_right_comm,Nat.add_assoc] at this
theorem CCs.of_get {w:World} {G:Nat→Prop} {blk:Nat}:∀ {cs:List AV} {off:Nat},(∀ j a,cs[j]?=some a→∃ x,w.cell? ⟨blk,off+j,none⟩=some x∧x.oneCell'=true∧CRep w G a x)→CCs w G blk off cs
 | [],off,_=>by simp [CCs]
 | b::r,off,h=>by
  simp only [CCs]
  refine ⟨by simpa using h 0 b (by simp),CCs.of_get fun j a e=>?_⟩
  have:=h (j+1) a (by simpa using e)
  rwa [Nat.add_right_comm off 1 j,Nat.add_assoc]
theorem CRows.len {w:World} {G:Nat→Prop} {s blk:Nat}:∀ {xs:List (List AV)} {off:Nat},CRows w G s blk off xs→∀ e∈xs,e.length=s
 | [],off,_=>by simp
 | b::r,off,h=>by
  simp only [CRows] at h
  intro e he
  rcases List.mem_cons.1 he with rfl|he
  ·exact h.1
  ·exact CRows.len h.2.2 e he
theorem CRows.get {w:World} {G:Nat→Prop} {s blk:Nat}:∀ {xs:List (List AV)} {off i:Nat} {e:List AV},CRows w G s blk off xs→xs[i]?=some e→e.length=s∧CCs w G blk (off+i*s) e
 | [],off,i,a,_,e=>by simp at e
 | b::r,off,0,a,h,e=>by simp only [CRows] at h;simp at e;subst e;simpa using ⟨h.1,h.2.1⟩
 | b::r,off,i+1,a,h,e=>by
  simp only [CRows] at h
  simp at e
  have:=CRows.get (i:=i) h.2.2 e
  rw [show off+(i+1)*s=off+s+i*s from by rw [Nat.add_mul];omega]
  exact this
theorem CRows.of_get {w:World} {G:Nat→Prop} {s blk:Nat}:∀ {xs:List (List AV)} {off:Nat},(∀ i e,xs[i]?=some e→e.length=s∧CCs w G blk (off+i*s) e)→CRows w G s blk off xs
 | [],off,_=>by simp [CRows]
 | b::r,off,h=>by
  simp only [CRows]
  have h0:=h 0 b (by simp)
  refine ⟨h0.1,by simpa using h0.2,CRows.of_get fun i e he=>?_⟩
  have:=h (i+1) e (by simpa using he)
  rw [show off+s+i*s=off+(i+1)*s from by rw [Nat.add_mul];omega]
  exact this
theorem CCs.vals {w:World} {G:Nat→Prop} {blk:Nat}:∀ {cs:List AV} {off:Nat},CCs w G blk off cs →
  ∃ vs:List Value,vs.length=cs.length∧CRL w G cs vs∧(∀ y∈vs,y.oneCell'=true)∧∀ j v,vs[j]?=some v→w.cell? ⟨blk,off+j,none⟩=some v
 | [],off,_=>⟨[],by simp [CRL]⟩
 | b::r,off,h=>by
  simp only [CCs] at h
  obtain ⟨⟨x,h1,h2,h3⟩,h4⟩:=h
  obtain ⟨vs,k1,k2,k3,k4⟩:=CCs.vals h4
  refine ⟨x::vs,by simp [k1],by simp [CRL,h3,k2],by simp [h2];exact k3,fun j v e=>?_⟩
  cases j with
  | zero=>simp at e;subst e;simpa using h1
  | succ j=>simp at e;have:=k4 j v e;rwa [Nat.add_right_comm,Nat.add_assoc] at this
theorem aPl (blk off i:Nat):(⟨blk,off,none⟩:Addr).add i=⟨blk,off+i,none⟩:=by
 unfold Addr.add
 split
 ·rename_i h;simp [h]
 ·rfl
theorem StT.retell {w0:World} {bl:Bk} {E:Env} {w:World} (h:Inv w0 bl E w) {b:Nat} {o:AO} (hb:E.alive b) (ho:ObR E w b o):StT w0 bl E w [(b,o)] E w where
 le:=Env.Le.refl E
 inv:=h
 size:=Nat.le_refl _
 keep:=fun _ _ _=>rfl
 alive:=fun _ hb=>.inl hb
 same:=fun _ _ _=>⟨rfl,rfl⟩
 objs:=fun k p hkp=>by
  simp only [List.mem_singleton,Prod.mk.injEq] at hkp
  obtain ⟨rfl,rfl⟩:=hkp
  exact ⟨hb,ho⟩
inductive TK where
 | int (k:IntKind)|bool|slice (e:TypeId)|array (n:Nat) (e:TypeId)|struct (fs:List (Nat×TypeId×Nat))|pointer (e:TypeId)|map (k e:TypeId) (z:Option Value)|str|func|other
 deriving Inhabited
structure TD where
 k:TK
 size:Nat
 bytes:Nat
 zero:List Value
 deriving Inhabited
def TK.isOther:TK→Bool
 | .other=>true
 | _=>false
def TK.agg:TK→Bool
 | .array ..|.struct ..=>true
 | _=>false
def tkOf (P:Program):TypeDesc→TK
 | .int k=>.int k
 | .bool=>.bool
 | .slice e=>.slice e
 | .array n e=>.array n e
 | .struct fs=>match fs.toList.mapM (fun f=>(P.info? f.type).map fun i=>(f.offset,f.type,i.size)) with|some l=>.struct l|none=>.other
 | .pointer e=>.pointer e
 | .map k e=>.map k e ((P.info? e).bind (·.zero))
 | .string=>.str
 | .func ..=>.func
 | _=>.other
def Types (P:Program) (t:TypeId):Option TD :=
 match P.underlying t,P.info? t with
 | some u,some i=>match i.zero with
  | some z=>some ⟨tkOf P u,i.size,i.bytes,z.cells.toList⟩
  | none=>none
 | _,_=>none
theorem types_spec {P:Program} {t:TypeId} {d:TD} (h:Types P t=some d):∃ u i z,P.underlying t=some u∧P.info? t=some i∧i.zero=some z∧d=⟨tkOf P u,i.size,i.bytes,z.cells.toList⟩:=by
 unfold Types at h
 cases hu:P.underlying t<;>cases hi:P.info? t<;>simp only [hu,hi] at h<;>try (simp at h;done)
 rename_i u i
 cases hz:i.zero<;>simp only [hz] at h
 ·simp at h
 ·rename_i z
  exact ⟨u,i,z,rfl,rfl,hz,by simpa using h.symm⟩
section
variable {P:Program} {w:World} {t:TypeId} {d:TD}
theorem run_und (h:Types P t=some d):∃ u,(underlying t).run P w=.ok u w∧d.k=tkOf P u:=by
 obtain ⟨u,i,z,h1,h2,h3,rfl⟩:=types_spec h
 exact ⟨u,run_underlying h1 w,rfl⟩
theorem uSl {e:TypeId} (h:Types P t=some d) (hk:d.k=.slice e):(underlying t).run P w=.ok (.slice e) w:=by
 obtain ⟨u,i,z,h1,h2,h3,rfl⟩:=types_spec h
 rw [run_underlying h1 w]
 cases u<;>simp only [tkOf,reduceCtorEq] at hk<;>(try (split at hk<;>simp at hk;done))
 simpa using hk
theorem und_array {n:Nat} {e:TypeId} (h:Types P t=some d) (hk:d.k=.array n e):(underlying t).run P w=.ok (.array n e) w:=by
 obtain ⟨u,i,z,h1,h2,h3,rfl⟩:=types_spec h
 rw [run_underlying h1 w]
 cases u<;>simp only [tkOf,reduceCtorEq] at hk<;>(try (split at hk<;>simp at hk;done))
 simpa using hk
theorem und_int {k:IntKind} (h:Types P t=some d) (hk:d.k=.int k):(underlying t).run P w=.ok (.int k) w:=by
 obtain ⟨u,i,z,h1,h2,h3,rfl⟩:=types_spec h
 rw [run_underlying h1 w]
 cases u<;>simp only [tkOf,reduceCtorEq] at hk<;>(try (split at hk<;>simp at hk;done))
 simpa using hk
theorem und_str (h:Types P t=some d) (hk:d.k=.str):(underlying t).run P w=.ok .string w:=by
 obtain ⟨u,i,z,h1,h2,h3,rfl⟩:=types_spec h
 rw [run_underlying h1 w]
 cases u<;>simp only [tkOf,reduceCtorEq] at hk<;>(try (split at hk<;>simp at hk;done))
 rfl
theorem rSz (h:Types P t=some d):(sizeOf t).run P w=.ok d.size w:=by
 obtain ⟨u,i,z,h1,h2,h3,rfl⟩:=types_spec h
 simp [sizeOf,run_typeInfo w h2]
theorem run_info (h:Types P t=some d):∃ i,(typeInfo t).run P w=.ok i w∧i.bytes=d.bytes∧i.size=d.size:=by
 obtain ⟨u,i,z,h1,h2,h3,rfl⟩:=types_spec h
 exact ⟨i,run_typeInfo w h2,rfl,rfl⟩
theorem run_zero (h:Types P t=some d):∃ z,(zeroValue t).run P w=.ok z w∧z.cells.toList=d.zero:=by
 obtain ⟨u,i,z,h1,h2,h3,rfl⟩:=types_spec h
 exact ⟨z,by simp [zeroValue,run_typeInfo w h2,h3],rfl⟩
theorem run_agg (h:Types P t=some d) (ho:d.k≠.other):(isAgg t).run P w=.ok d.k.agg w:=by
 obtain ⟨u,i,z,h1,h2,h3,rfl⟩:=types_spec h
 simp only [isAgg,Sem.run_bind,run_underlying h1 w,Result.andThen_ok]
 cases u<;>simp only [tkOf,ne_eq,not_true_eq_false] at ho ⊢<;>try rfl
 split
 ·rfl
 ·rename_i hh;rw [hh] at ho;simp at ho
theorem und_struct {fs:List (Nat×TypeId×Nat)} (h:Types P t=some d) (hk:d.k=.struct fs):∃ l,(underlying t).run P w=.ok (.struct l) w∧P.underlying t=some (.struct l)∧l.toList.mapM (fun f=>(P.info? f.type).map fun i=>(f.offset,f.type,i.size))=some fs:=by
 obtain ⟨u,i,z,h1,h2,h3,rfl⟩:=types_spec h
 cases u<;>simp only [tkOf,reduceCtorEq] at hk
 rename_i l
 refine ⟨l,run_underlying h1 w,h1,?_⟩
 split at hk
 ·rename_i hh;rw [hh];simpa using hk
 ·simp at hk
end
def loadA (agg:Bool) (n:Nat) (cs:List AV) (o:Nat):Option AV :=
 if agg then (if o+n≤cs.length then some (.agg ((cs.drop o).take n)) else none) else cs[o]?
def aLoad (T:TypeId→Option TD) (M:Nat→AO) (t:TypeId) (a:AV):Option AV :=
 match T t with
 | none=>none
 | some d =>
  if d.k.isOther then none else
  match a with
  | .bp b o=>match M b with
   | .box cs=>loadA d.k.agg d.size cs o
   | _=>none
  | .rp cs=>loadA d.k.agg d.size cs 0
  | .ep b m s i j=>match M b with
   | .vec m' s' _ xs=>if m=m'∧s=s' then (match xs[i]? with|some e=>loadA d.k.agg d.size e j|none=>none) else none
   | _=>none
  | _=>none
theorem run_loadVar_at {P:Program} {w:World} {t:TypeId} {d:TD} (h:Types P t=some d) {E:Env} {cs:List AV} {vs:List Value} {blk off o:Nat} {av:AV}
  (hr:RepL E w cs vs) (hone:∀ y∈vs,y.oneCell'=true) (hc:∀ j v,vs[j]?=some v→w.cell? ⟨blk,off+j,none⟩=some v) (hl:loadA d.k.agg d.size cs o=some av) (hoth:d.k.isOther=false) :
  ∃ y,(loadVar t ⟨blk,off+o,none⟩).run P w=.ok y w∧Rep E w av y:=by
 have hne:d.k≠.other:=fun e=>by rw [e] at hoth;simp [TK.isOther] at hoth
 unfold loadA at hl
 cases ha:d.k.agg<;>simp only [ha,Bool.false_eq_true,if_false,if_true] at hl
 ·obtain ⟨y,h1,h2⟩:=hr.get hl
  exact ⟨y,by simp [loadVar,run_agg h hne,ha,run_load,hc o y h1],h2⟩
 ·split at hl
  ·rename_i hlt
   simp only [oJ] at hl
   subst hl
   have hlen:=hr.length
   have hrun:(loadCells ⟨blk,off+o,none⟩ ((vs.drop o).take d.size).length).run P w=.ok ((vs.drop o).take d.size).toArray w:=by
    refine run_loadCells_list (P:=P) (w:=w) _ _ fun j v e=>?_
    rw [aPl,Nat.add_assoc]
    refine hc _ _ ?_
    rw [List.getElem?_take] at e
    split at e
    ·rwa [List.getElem?_drop] at e
    ·simp at e
   rw [show ((vs.drop o).take d.size).length=d.size from by simp;omega] at hrun
   refine ⟨.agg ((vs.drop o).take d.size).toArray,by simp [loadVar,run_agg h hne,ha,rSz h,hrun],?_⟩
   simp only [Rep]
   exact ⟨_,rfl,fun y hy=>hone y (List.mem_of_mem_drop (List.mem_of_mem_take hy)),(hr.drop o).take _⟩
  ·simp at hl
theorem box_cells {E:Env} {w:World} {b:Nat} {cs:List AV} (h:ObR E w b (.box cs)):∃ blk sz vs,E.loc b=some (blk,0,sz)∧RepL E w cs vs∧(∀ y∈vs,y.oneCell'=true)∧∀ j v,vs[j]?=some v→w.cell? ⟨blk,j,none⟩=some v:=by
 simp only [ObR] at h
 obtain ⟨_,blk,t,vs,h1,h2,h3,h4⟩:=h
 exact ⟨blk,_,vs,h1,h4,h3,fun j v e=>by rw [cell_of_row w blk j _ t _ h2];simpa using e⟩
theorem aLoad_ok {P:Program} {M:Nat→AO} {t:TypeId} {a av:AV} {E:Env} {w:World} {x:Value} (h:aLoad (Types P) M t a=some av) (hr:Rep E w a x) (hM:MemOK E w M) :
  ∃ y,(Instr.loadAt t x).run P w=.ok y w∧Rep E w av y:=by
 unfold aLoad at h
 cases ht:Types P t<;>simp only [ht] at h
 ·simp at h
 rename_i d
 split at h
 ·simp at h
 rename_i hoth
 have hoth:d.k.isOther=false:=by simpa using hoth
 cases a<;>simp only [reduceCtorEq] at h
 case rp cs =>
  simp only [Rep,CRep] at hr
  obtain ⟨blk,off,rfl,hg,hcs⟩:=hr
  obtain ⟨vs,h1,h2,h3,h4⟩:=hcs.vals
  have:=run_loadVar_at ht (E:=E) (o:=0) (Rep.of_c.go h2) h3 h4 h hoth
  simpa [Instr.loadAt,Instr.sureAddr] using this
 case bp b o =>
  simp only [Rep] at hr
  obtain ⟨h1,h2,blk,sz,h3,rfl⟩:=hr
  have ho:=hM b h1
  cases hb:M b<;>simp only [hb,reduceCtorEq] at h ho
  rename_i cs
  obtain ⟨blk',sz',vs,k1,k2,k3,k4⟩:=box_cells ho
  rw [h3] at k1
  simp only [oJ,pJ] at k1
  obtain ⟨rfl,_,_⟩:=k1
  have:=run_loadVar_at ht (E:=E) (off:=0) k2 k3 (fun j v e=>by simpa using k4 j v e) h hoth
  simpa [Instr.loadAt,Instr.sureAddr] using this
 case ep b m s i j =>
  simp only [Rep] at hr
  obtain ⟨h1,h2,h3,pa,rfl,h5⟩:=hr
  have ho:=hM b h1
  cases hb:M b<;>simp only [hb,reduceCtorEq] at h ho
  rename_i m' s' f xs
  split at h
  ·rename_i hm
   obtain ⟨rfl,rfl⟩:=hm
   cases hx:xs[i]?<;>simp only [hx,reduceCtorEq] at h
   rename_i e
   simp only [ObR] at ho
   obtain ⟨k1,k2,k3⟩:=ho
   obtain ⟨blk,base,sz,hl,rfl⟩:=h5 k1.symm
   simp only [hl] at k3
   obtain ⟨c,ty,k4,k5,k5',k6,k6',k7⟩:=k3
   obtain ⟨l1,l2⟩:=k7.get hx
   obtain ⟨vs,n1,n2,n3,n4⟩:=l2.vals
   have:=run_loadVar_at ht (E:=E) (Rep.of_c.go n2) n3 n4 h hoth
   simpa [Instr.loadAt,Instr.sureAddr] using this
  ·simp at h
def AV.leaf:AV→Bool
 | .v x=>x.oneCell'
 | .rd ..|.rp ..|.bp ..|.sl ..|.ep ..|.bs ..|.fn ..|.ifc ..|.mp ..|.rm ..=>true
 | _=>false
def AV.cells:AV→Option (List AV)
 | .agg cs=>some cs
 | a=>if a.leaf then some [a] else none
def setL {α:Type} (cs:List α) (o:Nat):List α→List α
 | []=>cs
 | a::r=>setL (cs.set o a) (o+1) r
def putL (cs:List AV) (o:Nat) (new:List AV):List AV:=if o=0∧new.length=cs.length then new else setL cs o new
def AV.isClosed:AV→Bool
 | .v _|.rd ..|.rp ..|.rm ..=>true
 | _=>false
def aStore (T:TypeId→Option TD) (M:Nat→AO) (t:TypeId) (a x:AV):Option (List (Nat×AO)) :=
 match T t,x.cells with
 | some d,some new =>
  if new.length=d.size then
   match a with
   | .bp b o=>match M b with
    | .box cs=>if o+new.length≤cs.length then some [(b,.box (putL cs o new))] else none
    | _=>none
   | .ep b m s i j=>match M b with
    | .vec m' s' f xs=>if m=m'∧s=s'∧new.all AV.isClosed=true then (match xs[i]? with|some e=>if j+new.length≤e.length then some [(b,.vec m s f (xs.set i (putL e j new)))] else none|none=>none) else none
    | _=>none
   | _=>none
  else none
 | _,_=>none
theorem Rep.one {E:Env} {w:World}:∀ {a:AV} {x:Value},a.leaf=true→Rep E w a x→x.oneCell'=true
 | .v _,_,h,hr=>by simp only [Rep,CRep] at hr;subst hr;exact h
 | .rd ..,_,_,hr=>by simp only [Rep,CRep] at hr;obtain ⟨p,c,rfl,_⟩:=hr;rfl
 | .rp ..,_,_,hr=>by simp only [Rep,CRep] at hr;obtain ⟨p,c,rfl,_⟩:=hr;rfl
 | .bp ..,_,_,hr=>by simp only [Rep] at hr;obtain ⟨_,_,p,c,_,rfl⟩:=hr;rfl
 | .sl ..,_,_,hr=>by simp only [Rep] at hr;obtain ⟨_,_,_,_,_,rfl,_⟩:=hr;rfl
 | .ep ..,_,_,hr=>by simp only [Rep] at hr;obtain ⟨_,_,_,_,rfl,_⟩:=hr;rfl
 | .bs ..,_,_,hr=>by simp only [Rep] at hr;obtain ⟨_,_,_,_,_,_,_,rfl,_⟩:=hr;rfl
 | .fn ..,_,_,hr=>by simp only [Rep] at hr;obtain ⟨_,rfl,_⟩:=hr;rfl
 | .ifc ..,_,_,hr=>by simp only [Rep] at hr;obtain ⟨_,rfl,_⟩:=hr;rfl
 | .mp ..,_,_,hr=>by simp only [Rep] at hr;obtain ⟨_,_,_,_,rfl,_⟩:=hr;rfl
 | .rm ..,_,_,hr=>by simp only [Rep,CRep] at hr;obtain ⟨_,_,_,rfl,_⟩:=hr;rfl
 | .om ..,_,h,_=>by simp [AV.leaf] at h
 | .any,_,h,_=>by simp [AV.leaf] at h
 | .agg _,_,h,_=>by simp [AV.leaf] at h
 | .tup _,_,h,_=>by simp [AV.leaf] at h
 | .ow ..,_,h,_=>by simp [AV.leaf] at h
 | .rf ..,_,h,_=>by simp [AV.leaf] at h
theorem Value.cells_one {x:Value} (h:x.oneCell'=true):x.cells=#[x]:=by
 cases x<;>simp [Value.oneCell',Value.cells] at h ⊢
theorem Rep.cells {E:Env} {w:World} {a:AV} {x:Value} {new:List AV} (h:a.cells=some new) (hr:Rep E w a x):∃ vs:List Value,x.cells=vs.toArray∧RepL E w new vs∧∀ y∈vs,y.oneCell'=true:=by
 have leafcase:a.leaf=true→new=[a]→∃ vs:List Value,x.cells=vs.toArray∧RepL E w new vs∧∀ y∈vs,y.oneCell'=true:=fun h1 h2=>by
  subst h2
  have:=hr.one h1
  exact ⟨[x],by rw [Value.cells_one this],by simp [RepL,hr],by simpa using this⟩
 cases a
 case agg cs =>
  simp only [AV.cells,oJ] at h
  subst h
  simp only [Rep] at hr
  obtain ⟨vs,rfl,h2,h3⟩:=hr
  exact ⟨vs,rfl,h3,h2⟩
 all_goals
  simp only [AV.cells] at h
  split at h
  ·rename_i hl
   exact leafcase hl (by simpa using h.symm)
  ·simp at h
theorem setL_length {α:Type}:∀ (new cs:List α) (o:Nat),(setL cs o new).length=cs.length
 | [],cs,o=>rfl
 | a::r,cs,o=>by rw [setL,setL_length r];simp
theorem RepL.setL {E:Env} {w:World}:∀ {new:List AV} {vs:List Value} {cs:List AV} {us:List Value} {o:Nat},RepL E w cs us→RepL E w new vs→RepL E w (AM.setL cs o new) (AM.setL us o vs)
 | [],[],cs,us,o,h,_=>by simpa [AM.setL] using h
 | a::r,x::xs,cs,us,o,h,k=>by simp only [RepL] at k;simp only [AM.setL];exact RepL.setL (h.set k.1) k.2
 | [],_::_,_,_,_,_,k=>by simp [RepL] at k
 | _::_,[],_,_,_,_,k=>by simp [RepL] at k
theorem setL_mem {α:Type} {p:α→Prop}:∀ {new cs:List α} {o:Nat},(∀ y∈cs,p y)→(∀ y∈new,p y)→∀ y∈setL cs o new,p y
 | [],cs,o,h,_=>by simpa [setL] using h
 | a::r,cs,o,h,k=>by
  simp only [setL]
  refine setL_mem (fun y hy=>?_) (fun y hy=>k y (by simp [hy]))
  rcases List.mem_or_eq_of_mem_set hy with h1|h1
  ·exact h y h1
  ·subst h1;exact k _ (by simp)
theorem setL_all {α:Type}:∀ {new cs:List α} {o:Nat},o+new.length=cs.length→setL cs o new=cs.take o++new
 | [],cs,o,h=>by simp [setL];simp at h;rw [tkL (by omega)]
 | a::r,cs,o,h=>by
  simp only [setL]
  rw [setL_all (by simp at h ⊢;omega)]
  rw [List.take_succ_eq_append_getElem (by simp at h ⊢;omega)]
  simp [List.take_set_of_le]
theorem putL_eq {cs new:List AV} {o:Nat} (h:o+new.length≤cs.length):putL cs o new=setL cs o new:=by
 unfold putL
 split
 ·rename_i h1
  obtain ⟨rfl,h2⟩:=h1
  rw [setL_all (by omega)]
  simp
 ·rfl
theorem run_storeCells_at {P:Program} {t:TypeId} {blk:Nat}:∀ {vs:List Value} {off i:Nat} {c:Array Value} {w:World},w.heap[blk]?=some (.cells c t (0,0))→off+i+vs.length≤c.size→(∀ y∈vs,y.oneCell'=true) →
  (storeCells ⟨blk,off,none⟩ vs i).run P w=.ok () (w.setRow blk (setL c.toList (off+i) vs).toArray)
 | [],off,i,c,w,hc,_,_=>by
  simp only [storeCells,Sem.run_pure,setL,Array.toArray_toList]
  congr 1
  unfold World.setRow
  cases w
  simp only at hc ⊢
  congr 1
  apply Array.ext
  ·simp
  ·intro k h1 h2
   rw [Array.getElem_modify]
   split
   ·rename_i e
    subst e
    rw [(Array.getElem?_eq_some_iff.1 hc).2]
   ·rfl
 | v::r,off,i,c,w,hc,hl,ho=>by
  have hv:=ho v (by simp)
  have hlt:off+i<c.size:=by simp at hl;omega
  simp only [storeCells,Sem.run_bind,aPl]
  rw [run_store P w _ v _ hv,cell_of_row w blk _ c t _ hc,frozen_of_row w blk _ c t hc]
  simp only [Array.getElem?_eq_getElem hlt,Bool.false_eq_true,if_false,Result.andThen_ok]
  rw [setCell_eq_setRow w blk (off+i) c t (0,0) v hc]
  have hc':=setRow_heap w blk c (c.setIfInBounds (off+i) v) t (0,0) hc
  have:=run_storeCells_at (P:=P) (vs:=r) (off:=off) (i:=i+1) hc' (by simp at hl ⊢;omega) (fun y hy=>ho y (by simp [hy]))
  rw [this,setRow_setRow]
  simp [setL,Nat.add_assoc]
theorem mul_add_inj {s i j i' j':Nat} (h:j<s) (h':j'<s) (e:i*s+j=i'*s+j'):i=i'∧j=j':=by
 have h1:(i*s+j)/s=i:=by rw [Nat.add_comm,Nat.mul_comm,Nat.add_mul_div_left _ _ (by omega),Nat.div_eq_of_lt h];omega
 have h2:(i'*s+j')/s=i':=by rw [Nat.add_comm,Nat.mul_comm,Nat.add_mul_div_left _ _ (by omega),Nat.div_eq_of_lt h'];omega
 have:i=i':=by rw [← h1,e,h2]
 subst this
 exact ⟨rfl,by omega⟩
theorem setL_get {α:Type}:∀ {new cs:List α} {o k:Nat},o+new.length≤cs.length→(setL cs o new)[k]?=if o≤k∧k<o+new.length then new[k - o]? else cs[k]?
 | [],cs,o,k,h=>by simp [setL];intro h1 h2;omega
 | a::r,cs,o,k,h=>by
  simp only [setL]
  rw [setL_get (by simp at h ⊢;omega)]
  simp only [List.length_cons]
  by_cases h1:k=o
  ·subst h1
   rw [if_neg (by omega),if_pos (by omega),List.getElem?_set_self (by simp at h;omega)]
   simp
  ·by_cases h2:o+1≤k∧k<o+1+r.length
   ·rw [if_pos h2,if_pos (by omega),show k - o=(k - (o+1))+1 from by omega]
    simp
   ·rw [if_neg h2,if_neg (by omega),List.getElem?_set_ne (Ne.symm h1)]
theorem CRL.get {w:World} {G:Nat→Prop}:∀ {as:List AV} {xs:List Value} {i:Nat} {a:AV},CRL w G as xs→as[i]?=some a→∃ x,xs[i]?=some x∧CRep w G a x
 | [],[],i,a,_,h=>by simp at h
 | a::as,x::xs,0,a',h,e=>by simp only [CRL] at h;simp at e;subst e;exact ⟨x,by simp,h.1⟩
 | a::as,x::xs,i+1,a',h,e=>by simp only [CRL] at h;simp at e;simpa using CRL.get h.2 e
 | [],_::_,_,_,h,_=>by simp [CRL] at h
 | _::_,[],_,_,h,_=>by simp [CRL] at h
theorem Rep.to_c {E:Env} {w:World}:∀ {a:AV} {x:Value},a.isClosed=true→Rep E w a x→CRep w E.G a x
 | .v _,_,_,h=>by simpa only [Rep] using h
 | .rd ..,_,_,h=>by simpa only [Rep] using h
 | .rp ..,_,_,h=>by simpa only [Rep] using h
 | .rm ..,_,_,h=>by simpa only [Rep] using h
 | .mp ..,_,h,_=>by simp [AV.isClosed] at h
 | .om ..,_,h,_=>by simp [AV.isClosed] at h
 | .any,_,h,_=>by simp [AV.isClosed] at h
 | .agg _,_,h,_=>by simp [AV.isClosed] at h
 | .tup _,_,h,_=>by simp [AV.isClosed] at h
 | .ow ..,_,h,_=>by simp [AV.isClosed] at h
 | .rf ..,_,h,_=>by simp [AV.isClosed] at h
 | .bp ..,_,h,_=>by simp [AV.isClosed] at h
 | .sl ..,_,h,_=>by simp [AV.isClosed] at h
 | .ep ..,_,h,_=>by simp [AV.isClosed] at h
 | .bs ..,_,h,_=>by simp [AV.isClosed] at h
 | .fn ..,_,h,_=>by simp [AV.isClosed] at h
 | .ifc ..,_,h,_=>by simp [AV.isClosed] at h
theorem RepL.to_c {E:Env} {w:World}:∀ {as:List AV} {xs:List Value},as.all AV.isClosed=true→RepL E w as xs→CRL w E.G as xs
 | [],[],_,_=>by simp [CRL]
 | a::as,x::xs,hc,h=>by
  simp only [List.all_cons,Bool.and_eq_true] at hc
  simp only [RepL] at h
  simp only [CRL]
  exact ⟨h.1.to_c hc.1,RepL.to_c hc.2 h.2⟩
 | [],_::_,_,h=>by simp [RepL] at h
 | _::_,[],_,h=>by simp [RepL] at h
theorem aStore_ok {P:Program} {M:Nat→AO} {t:TypeId} {a av:AV} {u:List (Nat×AO)} {w0:World} {bl:Bk} {E:Env} {w:World} {x y:Value} (h:aStore (Types P) M t a av=some u)
  (hr:Rep E w a x) (hv:Rep E w av y) (hM:MemOK E w M) (hI:Inv w0 bl E w) :
  ∃ E' w',(Instr.storeAt t x y).run P w=.ok () w'∧StT w0 bl E w u E' w':=by
 unfold aStore at h
 cases ht:Types P t<;>simp only [ht,reduceCtorEq] at h
 rename_i d
 cases hn:av.cells<;>simp only [hn,reduceCtorEq] at h
 rename_i new
 obtain ⟨vs,hvs,hvr,hone⟩:=hv.cells hn
 split at h
 case isFalse=>simp at h
 rename_i hsz
 have hlen:=hvr.length
 have hrunv:∀ (blk off:Nat) (c:Array Value) (ty:TypeId),w.heap[blk]?=some (.cells c ty (0,0))→off+vs.length≤c.size →
   (Instr.storeAt t (.pointer (some ⟨blk,off,none⟩)) y).run P w=.ok () (w.setRow blk (setL c.toList off vs).toArray):=fun blk off c ty hc hl=>by
  have:=run_storeCells_at (P:=P) (i:=0) (off:=off) hc (by omega) hone
  have hs:y.cells.size=d.size:=by rw [hvs];simp;omega
  simp [Instr.storeAt,Instr.sureAddr,storeVar,rSz ht,hs]
  rw [hvs]
  simpa using this
 cases a<;>simp only [reduceCtorEq] at h
 case bp b o =>
  simp only [Rep] at hr
  obtain ⟨h1,h2,blk,sz,h3,rfl⟩:=hr
  have ho:=hM b h1
  cases hb:M b<;>simp only [hb,reduceCtorEq] at h ho
  rename_i cs
  split at h
  case isFalse=>simp at h
  rename_i hle
  simp only [oJ] at h
  subst h
  rw [putL_eq hle]
  simp only [ObR] at ho
  obtain ⟨hver,blk',ty,us,k1,k2,k3,k4⟩:=ho
  rw [h3] at k1
  simp only [oJ,pJ] at k1
  obtain ⟨rfl,-,rfl⟩:=k1
  have hlu:=k4.length
  refine ⟨E.upd b (E.ver b) (some (blk,0,us.length)),_,hrunv blk o _ ty k2 (by simp;omega),?_⟩
  refine StT.write hI b _ (E.ver b) blk 0 0 us.length us.length us.toArray _ ty h1 h3 k2 (.inl ⟨rfl,rfl,rfl⟩) ?_
  have hlen2:(setL us o vs).length=us.length:=setL_length _ _ _
  simp only [ObR]
  refine ⟨by simp [Env.upd,hver],blk,ty,setL us o vs,?_,setRow_heap w blk _ _ ty _ k2,setL_mem k3 hone,?_⟩
  ·simp [Env.upd,hlen2]
  ·have hw:∀ k,E.G k→(w.setRow blk (setL us.toArray.toList o vs).toArray).heap[k]?=w.heap[k]?:=fun k hk =>
    setRow_other _ _ _ _ fun e=>by subst e;exact (hI.locs b _ _ _ h1 h3).2.1 hk
   exact (RepL.setL k4 hvr).mono (Env.le_upd fun _=>.inl ⟨rfl,h3.symm⟩) hw
 case ep b m s i j =>
  simp only [Rep] at hr
  obtain ⟨h1,h2,h3,pa,rfl,h5⟩:=hr
  have ho:=hM b h1
  cases hb:M b<;>simp only [hb,reduceCtorEq] at h ho
  rename_i m' s' f xs
  split at h
  case isFalse=>simp at h
  rename_i hm
  obtain ⟨rfl,rfl,hcl⟩:=hm
  cases hx:xs[i]?<;>simp only [hx,reduceCtorEq] at h
  rename_i e
  split at h
  case isFalse=>simp at h
  rename_i hle
  simp only [oJ] at h
  subst h
  rw [putL_eq hle]
  simp only [ObR] at ho
  obtain ⟨k1,k2,k3⟩:=ho
  obtain ⟨blk,base,sz,hl,rfl⟩:=h5 k1.symm
  simp only [hl] at k3
  obtain ⟨c,ty,k4,k5,k5',k6,k6',k7⟩:=k3
  have hes:=(k7.get hx).1
  have hil:i<xs.length:=(List.getElem?_eq_some_iff.1 hx).1
  have hmul:(i+1)*s≤xs.length*s:=Nat.mul_le_mul_right s hil
  have hmul':(i+1)*s=i*s+s:=by rw [Nat.add_mul];omega
  refine ⟨E.upd b (E.ver b) (some (blk,base,sz)),_,hrunv blk _ c ty k4 (by omega),?_⟩
  refine StT.write hI b _ (E.ver b) blk base base sz sz c _ ty h1 hl k4 (.inl ⟨rfl,rfl,rfl⟩) ?_
  have hG:∀ k,E.G k→(w.setRow blk (setL c.toList (base+i*s+j) vs).toArray).heap[k]?=w.heap[k]?:=fun k hk =>
   setRow_other _ _ _ _ fun e=>by subst e;exact (hI.locs b _ _ _ h1 hl).2.1 hk
  simp only [ObR]
  refine ⟨by simp [Env.upd,k1],k2,?_⟩
  simp only [Env.upd,if_true]
  have hsl:(setL c.toList (base+i*s+j) vs).length=c.size:=by rw [setL_length];simp
  refine ⟨_,ty,setRow_heap w blk _ _ ty _ k4,by simpa [hsl] using k5,by simpa using setL_mem k5' hone,by simpa using k6,by simpa using k6',CRows.of_get fun i' e' he'=>?_⟩
  have hcell:∀ k,(w.setRow blk (setL c.toList (base+i*s+j) vs).toArray).cell? ⟨blk,k,none⟩=(setL c.toList (base+i*s+j) vs)[k]?:=fun k=>by
   rw [cell_setRow_same w blk k c _ ty _ k4];simp
  have hcold:∀ k,w.cell? ⟨blk,k,none⟩=c.toList[k]?:=fun k=>by rw [cell_of_row w blk k c ty _ k4];simp
  have hbound:base+i*s+j+vs.length≤c.toList.length:=by simp;omega
  by_cases hii:i'=i
  ·subst hii
   rw [List.getElem?_set_self (by exact hil)] at he'
   simp only [oJ] at he'
   subst he'
   refine ⟨by rw [setL_length];exact hes,CCs.of_get fun j' a' ha'=>?_⟩
   rw [hcell,setL_get hbound]
   rw [setL_get hle] at ha'
   by_cases hjj:j≤j'∧j'<j+new.length
   ·rw [if_pos hjj] at ha'
    rw [if_pos (by omega),show base+i'*s+j' - (base+i'*s+j)=j' - j from by omega]
    obtain ⟨y',hy1,hy2⟩:=(hvr.to_c hcl).get ha'
    exact ⟨y',hy1,hone y' (List.mem_of_getElem? hy1),hy2.mono (fun _ h=>h) hG⟩
   ·rw [if_neg hjj] at ha'
    rw [if_neg (by omega)]
    obtain ⟨y',hy1,hy2,hy3⟩:=(k7.get hx).2.get ha'
    rw [hcold] at hy1
    exact ⟨y',hy1,hy2,hy3.mono (fun _ h=>h) hG⟩
  ·rw [List.getElem?_set_ne (Ne.symm hii)] at he'
   have hrow:=k7.get he'
   refine ⟨hrow.1,CCs.of_get fun j' a' ha'=>?_⟩
   rw [hcell,setL_get hbound]
   have hj':j'<s:=by rw [← hrow.1];exact (List.getElem?_eq_some_iff.1 ha').1
   rw [if_neg ?_]
   ·obtain ⟨y',hy1,hy2,hy3⟩:=hrow.2.get ha'
    rw [hcold] at hy1
    exact ⟨y',hy1,hy2,hy3.mono (fun _ h=>h) hG⟩
   ·intro hh
    have:=mul_add_inj (s:=s) (i:=i') (j:=j') (i':=i) (j':=j'+i'*s - i*s) hj' (by omega) (by omega)
    exact hii this.1
end Go.AM
namespace Go.AM
open Go
structure VR (w:World) (G:Nat→Prop) (s:Nat) (vs:List Value) (rows:List (List AV)):Prop where
 len:vs.length=rows.length*s
 one:∀ y∈vs,y.oneCell'=true
 row:∀ e∈rows,e.length=s
 get:∀ i e,rows[i]?=some e→∀ j a,e[j]?=some a→∃ v,vs[i*s+j]?=some v∧CRep w G a v
theorem VR.nil {w:World} {G:Nat→Prop} {s:Nat}:VR w G s [] []:=⟨by simp,by simp,by simp,by simp⟩
theorem VR.mono {w w':World} {G G':Nat→Prop} {s:Nat} {vs:List Value} {rows:List (List AV)} (h:VR w G s vs rows) (hG:∀ k,G k→G' k) (hw:∀ k,G k→w'.heap[k]?=w.heap[k]?):VR w' G' s vs rows :=
 ⟨h.len,h.one,h.row,fun i e he j a ha=>let ⟨v,h1,h2⟩:=h.get i e he j a ha;⟨v,h1,h2.mono hG hw⟩⟩
theorem VR.append {w:World} {G:Nat→Prop} {s:Nat} {vs us:List Value} {rows rows':List (List AV)} (h:VR w G s vs rows) (k:VR w G s us rows'):VR w G s (vs++us) (rows++rows') where
 len:=by simp [h.len,k.len,Nat.add_mul]
 one:=fun y hy=>by rcases List.mem_append.1 hy with h1|h1;exact h.one y h1;exact k.one y h1
 row:=fun y hy=>by rcases List.mem_append.1 hy with h1|h1;exact h.row y h1;exact k.row y h1
 get:=fun i e he j a ha=>by
  by_cases hi:i<rows.length
  ·rw [List.getElem?_append_left hi] at he
   obtain ⟨v,h1,h2⟩:=h.get i e he j a ha
   exact ⟨v,by rw [List.getElem?_append_left (List.getElem?_eq_some_iff.1 h1).1];exact h1,h2⟩
  ·rw [List.getElem?_append_right (by omega)] at he
   obtain ⟨v,h1,h2⟩:=k.get _ e he j a ha
   refine ⟨v,?_,h2⟩
   have hle:rows.length*s≤i*s:=Nat.mul_le_mul_right s (by omega)
   rw [List.getElem?_append_right (by rw [h.len];omega),h.len,show i*s+j - rows.length*s=(i - rows.length)*s+j from by rw [Nat.sub_mul];omega]
   exact h1
theorem VR.one_row {w:World} {G:Nat→Prop} {vs:List Value} {e:List AV} (h:CRL w G e vs) (ho:∀ y∈vs,y.oneCell'=true):VR w G e.length vs [e] where
 len:=by
  have:∀ {as:List AV} {xs:List Value},CRL w G as xs→xs.length=as.length:=by
   intro as
   induction as with
   | nil=>intro xs h;cases xs<;>simp [CRL] at h ⊢
   | cons a r ih=>intro xs h;cases xs<;>simp only [CRL] at h ⊢;simp [ih h.2]
  simp [this h]
 one:=ho
 row:=by simp
 get:=fun i e' he j a ha=>by
  cases i with
  | zero=>simp at he;subst he;obtain ⟨v,h1,h2⟩:=h.get ha;exact ⟨v,by simpa using h1,h2⟩
  | succ i=>simp at he
theorem CRows.vals {w:World} {G:Nat→Prop} {s blk:Nat}:∀ {rows:List (List AV)} {off:Nat},CRows w G s blk off rows→∃ vs,VR w G s vs rows∧∀ k v,vs[k]?=some v→w.cell? ⟨blk,off+k,none⟩=some v
 | [],off,_=>⟨[],VR.nil,by simp⟩
 | e::r,off,h=>by
  simp only [CRows] at h
  obtain ⟨v1,h1,h2,h3,h4⟩:=h.2.1.vals
  obtain ⟨v2,k1,k2⟩:=CRows.vals h.2.2
  refine ⟨v1++v2,?_,fun k v e=>?_⟩
  ·have:=VR.one_row h2 h3
   rw [h.1] at this
   exact this.append k1
  ·by_cases hk:k<v1.length
   ·rw [List.getElem?_append_left hk] at e;exact h4 k v e
   ·rw [List.getElem?_append_right (by omega)] at e
    have:=k2 _ v e
    rwa [show off+s+(k - v1.length)=off+k from by omega] at this
theorem CRows.of_vals {w:World} {G:Nat→Prop} {s blk off:Nat} {vs:List Value} {rows:List (List AV)} (h:VR w G s vs rows) (hc:∀ k v,vs[k]?=some v→w.cell? ⟨blk,off+k,none⟩=some v):CRows w G s blk off rows :=
 CRows.of_get fun i e he=>⟨h.row e (List.mem_of_getElem? he),CCs.of_get fun j a ha=>by
  obtain ⟨v,h1,h2⟩:=h.get i e he j a ha
  exact ⟨v,by rw [Nat.add_assoc];exact hc _ v h1,h.one v (List.mem_of_getElem? h1),h2⟩⟩
theorem CRows.sub {w:World} {G:Nat→Prop} {s blk off:Nat} {xs:List (List AV)} (h:CRows w G s blk off xs) (o n:Nat):CRows w G s blk (off+o*s) ((xs.drop o).take n) :=
 CRows.of_get fun i e he=>by
  rw [List.getElem?_take] at he
  split at he
  ·rw [List.getElem?_drop] at he
   have:=h.get he
   rw [show off+o*s+i*s=off+(o+i)*s from by rw [Nat.add_mul];omega]
   exact this
  ·simp at he
theorem CRows.cons_left {w:World} {G:Nat→Prop} {s blk off:Nat} {xs ys:List (List AV)} (h:CRows w G s blk off xs) (k:CRows w G s blk (off+xs.length*s) ys):CRows w G s blk off (xs++ys) :=
 CRows.of_get fun i e he=>by
  by_cases hi:i<xs.length
  ·rw [List.getElem?_append_left hi] at he;exact h.get he
  ·rw [List.getElem?_append_right (by omega)] at he
   have:=k.get he
   have hle:xs.length*s≤i*s:=Nat.mul_le_mul_right s (by omega)
   rw [show off+i*s=off+xs.length*s+(i - xs.length)*s from by rw [Nat.sub_mul];omega]
   exact this
def aRows (M:Nat→AO) (sz:Nat):AV→Option (List (List AV))
 | .rd s xs=>if s=sz then some xs else none
 | .sl b m s o n=>match M b with
  | .vec m' s' _ xs=>if m=m'∧s=s'∧s=sz∧o+n≤xs.length then some ((xs.drop o).take n) else none
  | _=>none
 | .v (.slice none 0 0)=>some []
 | .v (.slice (some _) 0 _)=>some []
 | _=>none
theorem aRows_ok {M:Nat→AO} {sz:Nat} {a:AV} {rows:List (List AV)} {E:Env} {w:World} {x:Value} (h:aRows M sz a=some rows) (hr:Rep E w a x) (hM:MemOK E w M) :
  ∃ p c,x=.slice p rows.length c∧rows.length≤c∧(p=none→c=0)∧∃ vs,VR w E.G sz vs rows∧(rows=[]∨∃ blk off,p=some ⟨blk,off,none⟩∧∀ k v,vs[k]?=some v→w.cell? ⟨blk,off+k,none⟩=some v):=by
 unfold aRows at h
 cases a<;>(try simp only [reduceCtorEq] at h)
 case rd s xs =>
  split at h
  ·rename_i hs
   subst hs
   simp only [oJ] at h
   subst h
   simp only [Rep,CRep] at hr
   obtain ⟨p,c,h1,h2,h3,h4⟩:=hr
   rcases h4 with h4|⟨blk,off,h5,h6,h7⟩
   ·subst h4;exact ⟨p,c,h1,h2,h3,[],VR.nil,.inl rfl⟩
   ·obtain ⟨vs,k1,k2⟩:=h7.vals
    exact ⟨p,c,h1,h2,h3,vs,k1,.inr ⟨blk,off,h5,k2⟩⟩
  ·simp at h
 case sl b m s o n =>
  simp only [Rep] at hr
  obtain ⟨h1,h2,h3,p,c,rfl,h4,h4',h5⟩:=hr
  have ho:=hM b h1
  cases hb:M b<;>simp only [hb,reduceCtorEq] at h ho
  rename_i m' s' f xs
  split at h
  case isFalse=>simp at h
  rename_i hm
  obtain ⟨rfl,rfl,rfl,hle⟩:=hm
  simp only [oJ] at h
  subst h
  simp only [ObR] at ho
  obtain ⟨k1,k2,k3⟩:=ho
  have hsl:=h5 k1.symm
  have hlen:((xs.drop o).take n).length=n:=by simp;omega
  cases hl:E.loc b with
  | none =>
   simp only [hl,SlAt] at hsl
   obtain ⟨rfl,rfl⟩:=hsl
   obtain rfl:n=0:=by omega
   exact ⟨p,0,by simp,by simp,fun _=>rfl,[],by simpa using VR.nil,.inl (by simp)⟩
  | some l =>
   obtain ⟨blk,base,sz⟩:=l
   simp only [hl,SlAt] at hsl k3
   obtain ⟨pa,rfl,l4,l5⟩:=hsl
   obtain ⟨arr,ty,k4,k5,k5',k6,k6',k7⟩:=k3
   refine ⟨some pa,c,by rw [hlen],by omega,by simp,?_⟩
   obtain ⟨vs,n1,n2⟩:=(k7.sub o n).vals
   refine ⟨vs,n1,?_⟩
   rcases l4 with l4|l4
   ·left
    have:n=0:=by omega
    subst this
    simp
   ·exact .inr ⟨blk,_,by rw [l4],n2⟩
 case v y =>
  split at h
  ·rename_i heq
   simp at heq
  ·rename_i heq
   simp at heq
  ·rename_i heq
   simp only [AV.v.injEq] at heq
   subst heq
   simp only [oJ] at h
   subst h
   simp only [Rep,CRep] at hr
   subst hr
   exact ⟨none,0,rfl,by simp,fun _=>rfl,[],VR.nil,.inl rfl⟩
  ·rename_i heq
   simp only [AV.v.injEq] at heq
   subst heq
   simp only [oJ] at h
   subst h
   simp only [Rep,CRep] at hr
   subst hr
   exact ⟨_,_,rfl,by simp,by simp,[],VR.nil,.inl rfl⟩
  ·simp at h
theorem firstCells_ok {P:Program} {w:World} {G:Nat→Prop} {sz c:Nat} {p:Option Addr} {vs:List Value} {rows:List (List AV)} {n:Nat} (hv:VR w G sz vs rows) (hp:p=none→c=0) (hn:n=rows.length) (hc:rows.length≤c)
  (h:rows=[]∨∃ blk off,p=some ⟨blk,off,none⟩∧∀ k v,vs[k]?=some v→w.cell? ⟨blk,off+k,none⟩=some v) :
  (Builtin.firstCells sz n (.slice p n c)).run P w=.ok vs.toArray w:=by
 subst hn
 rcases h with h|⟨blk,off,rfl,h⟩
 ·subst h
  have:vs=[]:=by have:=hv.len;simp at this;exact this
  subst this
  cases p<;>simp [Builtin.firstCells,loadCells,loadCellsFrom]
 ·have:=run_loadCells_list (P:=P) (w:=w) ⟨blk,off,none⟩ vs fun j v e=>by rw [aPl];exact h j v e
  rw [hv.len] at this
  simpa [Builtin.firstCells] using this
theorem StT.renew {w0:World} {bl:Bk} {E:Env} {w w1:World} (h:Inv w0 bl E w) (hw1:w1.heap=w.heap) (ho1:w1.os=w.os) (ho2:w1.output=w.output) (b m s:Nat) (f:Bool) (xs:List (List AV)) (c:Array Value) (t:TypeId) (vs:List Value)
  (hb:E.alive b→1≤E.ver b∧E.ver b<m) (hm:1≤m) (hv:VR w E.G s vs xs) (hc:∀ (k:Nat) (v:Value),vs[k]?=some v→c[k]?=some v) (hsz:xs.length*s≤c.size) (hone:∀ y∈c.toList,y.oneCell'=true) (hf:f=true→xs.length*s=c.size) :
  StT w0 bl E w [(b,.vec m s f xs)] (E.upd b m (some (w.heap.size,0,c.size))) (w1.alloc (.cells c t)):=by
 have hnew:(w1.alloc (.cells c t)).heap[w.heap.size]?=some (.cells c t (0,0)):=by rw [← hw1];exact heap_alloc_new w1 _
 have hold:∀ k,k<w.heap.size→(w1.alloc (.cells c t)).heap[k]?=w.heap[k]?:=fun k hk=>by rw [heap_alloc_old w1 _ k (by rw [hw1];exact hk),hw1]
 have hsize:(w1.alloc (.cells c t)).heap.size=w.heap.size+1:=by simp [hw1]
 refine StT.one h b _ m _ (fun hh=>.inr (hb hh)) (fun blk base' sz e=>?_) (by omega) ho1 ho2 (fun k hk _=>hold k hk) ?_
 ·simp only [oJ,pJ] at e
  exact .inr ⟨by omega,by omega⟩
 ·simp only [ObR,Env.upd,if_true]
  refine ⟨trivial,hm,c,t,hnew,Nat.le_refl _,hone,by omega,by simpa using hf,CRows.of_vals (hv.mono (fun _ h=>h) fun k hk=>hold k (h.good k hk)) fun k v e=>?_⟩
  rw [cell_of_row _ _ _ c t _ hnew]
  simpa using hc k v e
def aAppend (T:TypeId→Option TD) (M:Nat→AO) (nid:Nat) (st xt:TypeId) (s x:AV):Option (AV×List (Nat×AO)) :=
  match T st,T xt with
  | some ds,some dx =>
    match ds.k,dx.k with
    | .slice e,.slice _ =>
      match T e with
      | some de =>
        match aRows M de.size s,aRows M de.size x with
        | some old,some new =>
          if old.length+new.length≤1073741824∧de.bytes≤65536∧de.zero.length=de.size∧de.zero.all Value.oneCell'=true then
            match s with
            | .sl b m _ o n=>match M b with
              | .vec _ _ f xs =>
                if (o+n<xs.length∨f=true)∧1≤de.size then
                  (if o+n+new.length≤xs.length then some (.sl b m de.size o (n+new.length),[(b,.vec m de.size f (xs.take (o+n)++(new++xs.drop (o+n+new.length))))])
                   else if f=true then some (.sl nid 1 de.size 0 (old.length+new.length),[(nid,.vec 1 de.size false (old++new))])
                   else some (.sl b (m+1) de.size 0 (old.length+new.length),[(b,.vec (m+1) de.size false (old++new))]))
                else some (.sl b (m+1) de.size 0 (old.length+new.length),[(b,.vec (m+1) de.size false (old++new))])
              | _=>none
            | .v (.slice none 0 0)=>some (.sl nid 1 de.size 0 (old.length+new.length),[(nid,.vec 1 de.size false (old++new))])
            | _=>none
          else none
        | _,_=>none
      | none=>none
    | _,_=>none
  | _,_=>none
theorem growBy_le:∀ (r c n b:Nat),c≤b→n+(n+768)/4≤b→Builtin.growBy n r c≤b
 | 0,c,n,b,h,_=>by simpa [Builtin.growBy] using h
 | r+1,c,n,b,h,k=>by
  simp only [Builtin.growBy]
  split
  ·exact h
  ·exact growBy_le r _ n b (by omega) k
theorem nextcap_le (need cap:Nat) (h:cap<need):Builtin.nextslicecap need cap≤2*need+1000:=by
 unfold Builtin.nextslicecap
 split
 ·omega
 ·split
  ·omega
  ·exact growBy_le 4 cap need _ (by omega) (by omega)
theorem cut_appendCap (need old:Nat) (e:TypeId) (t:Nat):need≤(Question.appendCap need old e).cut t:=by
 simp [Question.cut]
theorem append_run {P:Program} {w:World} {st xt e:TypeId} {ds dx de:TD} {ex:TypeId} (hst:Types P st=some ds) (hxt:Types P xt=some dx) (he:Types P e=some de) (hks:ds.k=.slice e) (hkx:dx.k=.slice ex) {G:Nat→Prop}
  {old new:List (List AV)} {p q:Option Addr} {c c':Nat} {vo vn:List Value}
  (ho:VR w G de.size vo old) (hn:VR w G de.size vn new) (hp:p=none→c=0) (hq:q=none→c'=0) (hc:old.length≤c) (hc':new.length≤c')
  (hco:old=[]∨∃ blk off,p=some ⟨blk,off,none⟩∧∀ k v,vo[k]?=some v→w.cell? ⟨blk,off+k,none⟩=some v)
  (hcn:new=[]∨∃ blk off,q=some ⟨blk,off,none⟩∧∀ k v,vn[k]?=some v→w.cell? ⟨blk,off+k,none⟩=some v)
  (hb:old.length+new.length≤1073741824∧de.bytes≤65536) (ty:TypeId) :
  (Builtin.append_ #[st,xt] ty #[.slice p old.length c,.slice q new.length c']).run P w =
   if old.length+new.length≤c then ((match p with|some a=>storeCells (a.add (old.length*de.size)) vn|none=>pure ()).run P w).andThen fun _ w'=>.ok (.slice p (old.length+new.length) c) w'
   else .ok (.slice (some ⟨w.heap.size,0,none⟩) (old.length+new.length) ((Question.appendCap (old.length+new.length) c e).cut (w.tape w.drawn (.appendCap (old.length+new.length) c e))))
    (({ w with drawn:=w.drawn+1 }:World).alloc (.cells (vo.toArray++vn.toArray++Builtin.zeroCells de.zero.toArray ((Question.appendCap (old.length+new.length) c e).cut (w.tape w.drawn (.appendCap (old.length+new.length) c e)) - (old.length+new.length))) e)):=by
 obtain ⟨i,hi,hib,_⟩:=run_info (P:=P) (w:=w) he
 obtain ⟨i2,hi2,_,_⟩:=run_info (P:=P) (w:={ w with drawn:=w.drawn+1 }) he
 obtain ⟨z,hz,hzz⟩:=run_zero (P:=P) (w:={ w with drawn:=w.drawn+1 }) he
 have f1:=firstCells_ok (P:=P) hn hq rfl hc' hcn
 have f2:=firstCells_ok (P:=P) (w:={ w with drawn:=w.drawn+1 }) (hn.mono (fun _ h=>h) fun _ _=>rfl) hq rfl hc' hcn
 have f3:=firstCells_ok (P:=P) (w:={ w with drawn:=w.drawn+1 }) (ho.mono (fun _ h=>h) fun _ _=>rfl) hp rfl hc hco
 simp only [Builtin.append_]
 simp only [List.getElem?_toArray,List.getElem?_cons_zero,List.getElem?_cons_succ,Sem.run_bind,uSl hst hks,uSl hxt hkx,Result.andThen_ok,rSz he,Sem.run_pure,Builtin.lenOf,Bool.false_eq_true,if_false,Bool.not_false,if_true,Sem.run_ite]
 split
 ·rename_i hle
  rw [f1]
  cases p<;>simp
 ·rename_i hle
  simp only [hi,Result.andThen_ok,hib]
  have hcap:=nextcap_le (old.length+new.length) c (by omega)
  have hmul:Builtin.nextslicecap (old.length+new.length) c*de.bytes≤(2*(old.length+new.length)+1000)*65536:=Nat.mul_le_mul hcap hb.2
  have hlim:¬ (Builtin.nextslicecap (old.length+new.length) c*de.bytes > 2^48):=by
   have:(2*(old.length+new.length)+1000)*65536≤2^48:=by omega
   omega
  have hbig:¬ (((old.length+new.length:Nat):Int) > IntKind.i64.max∧(False∨de.bytes=0)):=by
   intro hh
   have h1:=hh.1
   simp [IntKind.max,IntKind.signed,IntKind.bits] at h1
   omega
  rw [if_neg hbig,if_neg hlim]
  simp only [run_choose,Question.forced,Bool.false_eq_true,if_false,Result.andThen_ok,hi2,run_askRoom,f3,f2,hz,Sem.run_bind,newRow,run_newObj,Sem.run_pure]
  have:z.cells=de.zero.toArray:=by rw [← hzz]
  simp only [this]
  rfl
theorem Rep.slice_of {E:Env} {w:World} {b m s n c blk base sz:Nat} {p:Addr} (ha:E.alive b) (hm:1≤m) (hv:E.ver b=m) (hl:E.loc b=some (blk,base,sz)) (hc:n≤c) (hp:c=0∨p=⟨blk,base,none⟩) (hz:base+c*s=sz) :
  Rep E w (.sl b m s 0 n) (.slice (some p) n c):=by
 simp only [Rep]
 refine ⟨ha,hm,by omega,_,_,rfl,hc,by simp,fun _=>?_⟩
 simp only [hl,SlAt]
 exact ⟨p,rfl,by simpa using hp,by simpa using hz⟩
theorem aRows_sl {M:Nat→AO} {sz b m s o n:Nat} {rows:List (List AV)} (h:aRows M sz (.sl b m s o n)=some rows):∃ f xs,M b=.vec m s f xs∧s=sz∧o+n≤xs.length∧rows=(xs.drop o).take n:=by
 unfold aRows at h
 simp only at h
 cases hb:M b<;>simp only [hb,reduceCtorEq] at h
 split at h
 ·rename_i hm
  obtain ⟨rfl,rfl,h3,h4⟩:=hm
  exact ⟨_,_,rfl,h3,h4,by simpa using h.symm⟩
 ·simp at h
theorem aAppend_ok {P:Program} {M:Nat→AO} {nid:Nat} {st xt:TypeId} {s x av:AV} {u:List (Nat×AO)} {w0:World} {bl:Bk} {E:Env} {w:World} {sv xv:Value} (h:aAppend (Types P) M nid st xt s x=some (av,u))
  (hs:Rep E w s sv) (hx:Rep E w x xv) (hM:MemOK E w M) (hI:Inv w0 bl E w) (hnid:¬ E.alive nid) (ty:TypeId) :
  ∃ y E' w',(Builtin.append_ #[st,xt] ty #[sv,xv]).run P w=.ok y w'∧StT w0 bl E w u E' w'∧Rep E' w' av y:=by
 unfold aAppend at h
 cases hst:Types P st<;>simp only [hst,reduceCtorEq] at h
 rename_i ds
 cases hxt:Types P xt<;>simp only [hxt,reduceCtorEq] at h
 rename_i dx
 cases hks:ds.k<;>simp only [hks,reduceCtorEq] at h
 rename_i e
 cases hkx:dx.k<;>simp only [hkx,reduceCtorEq] at h
 rename_i ex
 cases he:Types P e<;>simp only [he,reduceCtorEq] at h
 rename_i de
 cases hro:aRows M de.size s<;>simp only [hro,reduceCtorEq] at h
 rename_i old
 cases hrn:aRows M de.size x<;>simp only [hrn,reduceCtorEq] at h
 rename_i new
 split at h
 case isFalse=>simp at h
 rename_i hb3
 obtain ⟨hb1,hb2,hzl0,hz1⟩:=hb3
 obtain ⟨p,c,rfl,ho2,ho3,vo,ho4,ho5⟩:=aRows_ok hro hs hM
 obtain ⟨q,c',rfl,hn2,hn3,vn,hn4,hn5⟩:=aRows_ok hrn hx hM
 have hrun:=append_run (P:=P) (w:=w) hst hxt he hks hkx ho4 hn4 ho3 hn3 ho2 hn2 ho5 hn5 ⟨hb1,hb2⟩ ty
 have hcap:=cut_appendCap (old.length+new.length) c e (w.tape w.drawn (.appendCap (old.length+new.length) c e))
 generalize hcc:(Question.appendCap (old.length+new.length) c e).cut (w.tape w.drawn (.appendCap (old.length+new.length) c e))=cc at hrun hcap
 generalize hzz:Builtin.zeroCells de.zero.toArray (cc - (old.length+new.length))=zz at hrun
 have hzl:zz.size=(cc - (old.length+new.length))*de.size:=by rw [← hzz];simp [Builtin.zeroCells,hzl0]
 have hsz:(vo.toArray++vn.toArray++zz).size=cc*de.size:=by
  simp [hzl,ho4.len,hn4.len]
  rw [← Nat.add_mul,← Nat.add_mul]
  congr 1
  omega
 have hzone:∀ y∈zz.toList,y.oneCell'=true:=fun y hy=>by
  rw [← hzz] at hy
  simp only [Builtin.zeroCells,Array.toList_map,List.mem_map] at hy
  obtain ⟨i,hi,rfl⟩:=hy
  by_cases h0:de.zero.length=0
  ·exfalso
   rw [h0] at hzl0
   simp [← hzl0,h0] at hi
  ·have:i%de.zero.toArray.size<de.zero.length:=by simpa using Nat.mod_lt _ (by omega)
   simp only [List.all_eq_true] at hz1
   rw [getElem!_pos de.zero.toArray _ (by simpa using this)]
   exact hz1 _ (by simp)
 have hcone:∀ y∈(vo.toArray++vn.toArray++zz).toList,y.oneCell'=true:=fun y hy=>by
  simp only [Array.toList_append,List.mem_append] at hy
  rcases hy with (hy|hy)|hy
  ·exact ho4.one y (by simpa using hy)
  ·exact hn4.one y (by simpa using hy)
  ·exact hzone y hy
 have hren:∀ b m,(E.alive b→1≤E.ver b∧E.ver b<m)→1≤m→StT w0 bl E w [(b,.vec m de.size false (old++new))] (E.upd b m (some (w.heap.size,0,cc*de.size))) (({ w with drawn:=w.drawn+1 }:World).alloc (.cells (vo.toArray++vn.toArray++zz) e)):=fun b m h1 h2=>by
  rw [← hsz]
  refine StT.renew (w1:={ w with drawn:=w.drawn+1 }) hI rfl rfl rfl b m de.size false (old++new) _ e (vo++vn) h1 h2 (ho4.append hn4) (fun k v hk=>?_) ?_ hcone (by simp)
  ·have hk':=(List.getElem?_eq_some_iff.1 hk).1
   rw [show (vo.toArray++vn.toArray++zz)=(vo++vn).toArray++zz from by simp,Array.getElem?_append_left (by simpa using hk')]
   simpa using hk
  ·rw [hsz,List.length_append]
   exact Nat.mul_le_mul_right _ hcap
 have hrep:∀ b m,1≤m→Rep (E.upd b m (some (w.heap.size,0,cc*de.size))) (({ w with drawn:=w.drawn+1 }:World).alloc (.cells (vo.toArray++vn.toArray++zz) e)) (.sl b m de.size 0 (old.length+new.length)) (.slice (some ⟨w.heap.size,0,none⟩) (old.length+new.length) cc):=fun b m h2 =>
  Rep.slice_of (blk:=w.heap.size) (base:=0) (sz:=cc*de.size) (.inr rfl) h2 (by simp [Env.upd]) (by simp [Env.upd]) hcap (.inr rfl) (by simp)
 cases s<;>(try simp only [reduceCtorEq] at h)
 case v sx =>
  split at h
  case h_1 heq=>simp at heq
  case h_3=>simp at h
  rename_i heq
  simp only [AV.v.injEq] at heq
  subst heq
  simp only [oJ,pJ] at h
  obtain ⟨rfl,rfl⟩:=h
  obtain rfl:old=[]:=by simpa [aRows] using hro.symm
  simp only [Rep,CRep,Value.slice.injEq] at hs
  obtain ⟨rfl,-,rfl⟩:=hs
  split at hrun
  ·rename_i hle
   have hn0:new=[]:=by simpa using hle
   subst hn0
   refine ⟨_,_,_,by rw [hrun];rfl,StT.none hI nid de.size hnid false,?_⟩
   simp only [Rep]
   exact ⟨.inr rfl,Nat.le_refl _,by simp [Env.upd],none,0,rfl,by simp,fun _=>rfl,fun _=>by simp [Env.upd,SlAt]⟩
  ·exact ⟨_,_,_,hrun,hren nid 1 (fun hh=>absurd hh hnid) (Nat.le_refl _),hrep nid 1 (Nat.le_refl _)⟩
 case sl b m s o n =>
  obtain ⟨f,xs,hMb,rfl,hle,rfl⟩:=aRows_sl hro
  have hlen:((xs.drop o).take n).length=n:=by simp;omega
  simp only [Rep] at hs
  obtain ⟨k1,k2,k3,p',c2,heq,k4,k4',k5⟩:=hs
  simp only [Value.slice.injEq] at heq
  obtain ⟨rfl,-,rfl⟩:=heq
  have hob:=hM b k1
  simp only [hMb,ObR] at hob
  obtain ⟨l1,l2,l3⟩:=hob
  have hsl:=k5 l1.symm
  have inplace:∀ blk base sz arr ty',E.loc b=some (blk,base,sz)→w.heap[blk]?=some (.cells arr ty' (0,0))→sz≤arr.size→base+(o+c)*de.size=sz→n+new.length≤c→(∃ a,p=some a∧(c=0∨a=⟨blk,base+o*de.size,none⟩)) →
    (Builtin.append_ #[st,xt] ty #[.slice p n c,.slice q new.length c']).run P w=.ok (.slice p (n+new.length) c) (w.setRow blk (setL arr.toList (base+o*de.size+n*de.size) vn).toArray)∧base+o*de.size+n*de.size+vn.length≤arr.toList.length:=by
   intro blk base sz arr ty' hl m1 m2 n4 hfit ⟨a,hpa,n3⟩
   subst hpa
   have hd:base+o*de.size+n*de.size+new.length*de.size≤sz:=by
    have h1:(o+(n+new.length))*de.size=o*de.size+n*de.size+new.length*de.size:=by rw [Nat.add_mul,Nat.add_mul];omega
    have h2:(o+(n+new.length))*de.size≤(o+c)*de.size:=Nat.mul_le_mul_right de.size (by omega)
    omega
   have hbound:base+o*de.size+n*de.size+vn.length≤arr.toList.length:=by rw [hn4.len];simp;omega
   have hstore:((storeCells (a.add (n*de.size)) vn).run P w)=.ok () (w.setRow blk (setL arr.toList (base+o*de.size+n*de.size) vn).toArray):=by
    rcases n3 with n3|n3
    ·have hv0:vn=[]:=by
      have:=hn4.len
      have h0:new.length=0:=by omega
      rw [h0] at this
      simpa using this
     subst hv0
     have:=run_storeCells_at (P:=P) (vs:=[]) (off:=base+o*de.size+n*de.size) (i:=0) m1 (by simpa using hbound) (by simp)
     simpa [storeCells] using this
    ·rw [n3,aPl]
     have:=run_storeCells_at (P:=P) (vs:=vn) (off:=base+o*de.size+n*de.size) (i:=0) m1 (by simpa using hbound) hn4.one
     simpa using this
   refine ⟨?_,hbound⟩
   rw [hlen,if_pos hfit] at hrun
   simp only at hrun
   rw [hstore] at hrun
   simpa only [Result.andThen_ok] using hrun
  have hlen1:((xs.drop o).take n).length+new.length=n+new.length:=by rw [hlen]
  rw [hlen1] at h hrep hcap
  have hrun':=hrun
  rw [hlen] at hrun'
  have consume:some (AV.sl b (m+1) de.size 0 (n+new.length),[(b,AO.vec (m+1) de.size false ((xs.drop o).take n++new))])=some (av,u) →
    ∃ y E' w',(Builtin.append_ #[st,xt] ty #[.slice p ((xs.drop o).take n).length c,.slice q new.length c']).run P w=.ok y w'∧StT w0 bl E w u E' w'∧Rep E' w' av y:=by
   intro h
   simp only [oJ,pJ] at h
   obtain ⟨rfl,rfl⟩:=h
   rw [hlen]
   by_cases hfit:n+new.length≤c
   case neg =>
    rw [if_neg hfit] at hrun'
    exact ⟨_,_,_,hrun',hren b (m+1) (fun _=>by omega) (by omega),hrep b (m+1) (by omega)⟩
   cases hl:E.loc b with
   | none =>
    simp only [hl,SlAt] at hsl l3
    obtain ⟨ho0,rfl⟩:=hsl
    subst l3
    obtain rfl:n=0:=by omega
    have hn0':new=[]:=List.length_eq_zero_iff.1 (by omega)
    subst hn0'
    have hv0:vn=[]:=by have:=hn4.len;simpa using this
    subst hv0
    rw [if_pos hfit] at hrun'
    refine ⟨.slice p 0 0,E.upd b (m+1) none,w,by rw [hrun'];cases p<;>simp [storeCells],?_,?_⟩
    ·refine StT.one hI b _ (m+1) none (fun _=>.inr (by omega)) (fun blk base sz e=>by simp at e) (Nat.le_refl _) rfl rfl (fun k hk _=>rfl) ?_
     simp [ObR,Env.upd]
    ·simp only [Rep]
     refine ⟨.inr rfl,by omega,by simp [Env.upd],p,0,by simp,by simp,fun _=>rfl,fun _=>by simp [Env.upd,SlAt]⟩
   | some l =>
    obtain ⟨blk,base,sz⟩:=l
    simp only [hl,SlAt] at hsl l3
    obtain ⟨p',rfl,n3,n4⟩:=hsl
    obtain ⟨arr,ty',m1,m2,m2',m3,m3',m4⟩:=l3
    obtain ⟨hr,hbound⟩:=inplace blk base sz arr ty' hl m1 m2 n4 hfit ⟨p',rfl,n3⟩
    have hG:∀ k,E.G k→(w.setRow blk (setL arr.toList (base+o*de.size+n*de.size) vn).toArray).heap[k]?=w.heap[k]?:=fun k hk =>
     setRow_other _ _ _ _ fun e=>by subst e;exact (hI.locs b _ _ _ k1 hl).2.1 hk
    have hoc:(o+c)*de.size=o*de.size+c*de.size:=Nat.add_mul ..
    have hnl:(n+new.length)*de.size≤c*de.size:=Nat.mul_le_mul_right de.size hfit
    refine ⟨_,E.upd b (m+1) (some (blk,base+o*de.size,sz)),_,hr,?_,?_⟩
    ·refine StT.write hI b _ (m+1) blk base (base+o*de.size) sz sz arr _ ty' k1 hl m1 (.inr (by omega)) ?_
     simp only [ObR,Env.upd,if_true]
     refine ⟨trivial,by omega,_,ty',setRow_heap w blk _ _ ty' _ m1,by simpa [setL_length] using m2,by simpa using setL_mem m2' hn4.one,?_,by simp,?_⟩
     ·rw [List.length_append,hlen];omega
     ·have hcell:∀ k,(w.setRow blk (setL arr.toList (base+o*de.size+n*de.size) vn).toArray).cell? ⟨blk,k,none⟩=(setL arr.toList (base+o*de.size+n*de.size) vn)[k]?:=fun k=>by
       rw [cell_setRow_same w blk k arr _ ty' _ m1];simp
      have hcold:∀ k,w.cell? ⟨blk,k,none⟩=arr.toList[k]?:=fun k=>by rw [cell_of_row w blk k arr ty' _ m1];simp
      refine CRows.cons_left ?_ ?_
      ·obtain ⟨vs,q1,q2⟩:=(m4.sub o n).vals
       refine CRows.of_vals (q1.mono (fun _ h=>h) hG) fun k v hk=>?_
       have hk':=(List.getElem?_eq_some_iff.1 hk).1
       rw [q1.len,hlen] at hk'
       rw [hcell,setL_get hbound,if_neg (by omega),← hcold]
       exact q2 k v hk
      ·rw [hlen]
       refine CRows.of_vals (hn4.mono (fun _ h=>h) hG) fun k v hk=>?_
       have hk':=(List.getElem?_eq_some_iff.1 hk).1
       rw [hcell,setL_get hbound,if_pos (by omega),show base+o*de.size+n*de.size+k - (base+o*de.size+n*de.size)=k from by omega]
       exact hk
    ·exact Rep.slice_of (blk:=blk) (base:=base+o*de.size) (sz:=sz) (.inr rfl) (by omega) (by simp [Env.upd]) (by simp [Env.upd]) (by omega) (n3.imp id (fun h=>h)) (by omega)
  simp only [hMb] at h
  split at h
  case isFalse=>exact consume h
  rename_i hcnd
  obtain ⟨hkn,hs1⟩:=hcnd
  split at h
  ·rename_i hfitx
   simp only [oJ,pJ] at h
   obtain ⟨rfl,rfl⟩:=h
   rw [hlen]
   cases hl:E.loc b with
   | none =>
    simp only [hl,SlAt] at hsl l3
    obtain ⟨ho0,rfl⟩:=hsl
    subst l3
    simp only [List.length_nil,Nat.le_zero_eq,Nat.add_eq_zero_iff,List.length_eq_zero_iff] at hfitx
    obtain ⟨⟨_,rfl⟩,rfl⟩:=hfitx
    have hv0:vn=[]:=by have:=hn4.len;simpa using this
    subst hv0
    rw [if_pos (by simp)] at hrun'
    refine ⟨.slice p 0 0,E,w,by rw [hrun'];cases p<;>simp [storeCells],?_,?_⟩
    ·refine StT.retell hI k1 ?_
     simp only [ObR,hl]
     exact ⟨l1,l2,by simp⟩
    ·simp only [Rep]
     exact ⟨k1,k2,k3,p,0,by simp,by simp,fun _=>rfl,fun _=>by simp [hl,SlAt,ho0]⟩
   | some l =>
    obtain ⟨blk,base,sz⟩:=l
    simp only [hl,SlAt] at hsl l3
    obtain ⟨p',rfl,n3,n4⟩:=hsl
    obtain ⟨arr,ty',m1,m2,m2',m3,m3',m4⟩:=l3
    have hfit:n+new.length≤c:=by
     have h1:xs.length*de.size≤(o+c)*de.size:=by omega
     have:=Nat.le_of_mul_le_mul_right h1 (by omega)
     omega
    obtain ⟨hr,hbound⟩:=inplace blk base sz arr ty' hl m1 m2 n4 hfit ⟨p',rfl,n3⟩
    have hG:∀ k,E.G k→(w.setRow blk (setL arr.toList (base+o*de.size+n*de.size) vn).toArray).heap[k]?=w.heap[k]?:=fun k hk =>
     setRow_other _ _ _ _ fun e=>by subst e;exact (hI.locs b _ _ _ k1 hl).2.1 hk
    have hxl:(xs.take (o+n)++(new++xs.drop (o+n+new.length))).length=xs.length:=by simp;omega
    refine ⟨_,E.upd b (E.ver b) (some (blk,base,sz)),_,hr,?_,?_⟩
    ·refine StT.write hI b _ (E.ver b) blk base base sz sz arr _ ty' k1 hl m1 (.inl ⟨rfl,rfl,rfl⟩) ?_
     simp only [ObR,Env.upd,if_true]
     refine ⟨l1,l2,_,ty',setRow_heap w blk _ _ ty' _ m1,by simpa [setL_length] using m2,by simpa using setL_mem m2' hn4.one,by rw [hxl];exact m3,by rw [hxl];exact m3',?_⟩
     have hcell:∀ k,(w.setRow blk (setL arr.toList (base+o*de.size+n*de.size) vn).toArray).cell? ⟨blk,k,none⟩=(setL arr.toList (base+o*de.size+n*de.size) vn)[k]?:=fun k=>by
      rw [cell_setRow_same w blk k arr _ ty' _ m1];simp
     have hcold:∀ k,w.cell? ⟨blk,k,none⟩=arr.toList[k]?:=fun k=>by rw [cell_of_row w blk k arr ty' _ m1];simp
     have e1:(o+n)*de.size=o*de.size+n*de.size:=Nat.add_mul ..
     have htl:(xs.take (o+n)).length=o+n:=by simp;omega
     refine CRows.cons_left ?_ (CRows.cons_left ?_ ?_)
     ·obtain ⟨vs,q1,q2⟩:=(m4.sub 0 (o+n)).vals
      simp only [List.drop_zero,Nat.zero_mul,Nat.add_zero] at q1 q2
      refine CRows.of_vals (q1.mono (fun _ h=>h) hG) fun k v hk=>?_
      have hk':=(List.getElem?_eq_some_iff.1 hk).1
      rw [q1.len,htl] at hk'
      rw [hcell,setL_get hbound,if_neg (by omega),← hcold]
      exact q2 k v hk
     ·rw [htl]
      refine CRows.of_vals (hn4.mono (fun _ h=>h) hG) fun k v hk=>?_
      have hk':=(List.getElem?_eq_some_iff.1 hk).1
      rw [hcell,setL_get hbound,if_pos (by omega),show base+(o+n)*de.size+k - (base+o*de.size+n*de.size)=k from by omega]
      exact hk
     ·rw [htl]
      obtain ⟨vs,q1,q2⟩:=(m4.sub (o+n+new.length) (xs.length - (o+n+new.length))).vals
      have e2:(o+n+new.length)*de.size=o*de.size+n*de.size+new.length*de.size:=by rw [Nat.add_mul,Nat.add_mul]
      have e3:((xs.drop (o+n+new.length)).take (xs.length - (o+n+new.length)))=xs.drop (o+n+new.length):=tkL (by simp)
      rw [e3] at q1
      refine CRows.of_vals (q1.mono (fun _ h=>h) hG) fun k v hk=>?_
      rw [hcell,setL_get hbound,if_neg (by have:=hn4.len;omega),← hcold]
      have:=q2 k v hk
      rwa [show base+(o+n+new.length)*de.size+k=base+(o+n)*de.size+new.length*de.size+k from by omega] at this
    ·simp only [Rep]
     refine ⟨.inr rfl,k2,by simp [Env.upd];omega,some p',c,rfl,hfit,by simp,fun _=>?_⟩
     simp only [Env.upd,if_true,SlAt]
     exact ⟨p',rfl,n3,n4⟩
  ·rename_i hnf
   split at h
   case isFalse=>exact consume h
   rename_i hft
   simp only [oJ,pJ] at h
   obtain ⟨rfl,rfl⟩:=h
   rw [hlen]
   have hnfit:¬ n+new.length≤c:=by
    cases hl:E.loc b with
    | none =>
     simp only [hl,SlAt] at hsl l3
     subst l3
     obtain ⟨rfl,rfl⟩:=hsl
     intro hh
     refine hnf ?_
     simp only [List.length_nil]
     omega
    | some l =>
     obtain ⟨blk,base,sz⟩:=l
     simp only [hl,SlAt] at hsl l3
     obtain ⟨p',rfl,n3,n4⟩:=hsl
     obtain ⟨arr,ty',m1,m2,m2',m3,m3',m4⟩:=l3
     have h1:(o+c)*de.size=xs.length*de.size:=by have:=m3' hft;omega
     have:=Nat.eq_of_mul_eq_mul_right (by omega) h1
     omega
   rw [if_neg hnfit] at hrun'
   exact ⟨_,_,_,hrun',hren nid 1 (fun hh=>absurd hh hnid) (Nat.le_refl _),hrep nid 1 (Nat.le_refl _)⟩
theorem overwrite_ok {w0:World} {bl:Bk} {E:Env} {w:World} {b m s q:Nat} {f:Bool} {xs new:List (List AV)} {vs:List Value} {blk base sz:Nat} {arr:Array Value} {ty:TypeId} (hI:Inv w0 bl E w) (hb:E.alive b) (hv:E.ver b=m) (hm:1≤m)
  (hl:E.loc b=some (blk,base,sz)) (m1:w.heap[blk]?=some (.cells arr ty (0,0))) (m2:sz≤arr.size) (m2':∀ y∈arr.toList,y.oneCell'=true) (m3:base+xs.length*s≤sz) (m3':f=true→base+xs.length*s=sz) (m4:CRows w E.G s blk base xs)
  (hn:VR w E.G s vs new) (hq:q+new.length≤xs.length) :
  StT w0 bl E w [(b,.vec m s f (xs.take q++(new++xs.drop (q+new.length))))] (E.upd b m (some (blk,base,sz))) (w.setRow blk (setL arr.toList (base+q*s) vs).toArray)∧base+q*s+vs.length≤arr.toList.length:=by
 have h1:(q+new.length)*s=q*s+new.length*s:=Nat.add_mul ..
 have h2:(q+new.length)*s≤xs.length*s:=Nat.mul_le_mul_right s hq
 have hbound:base+q*s+vs.length≤arr.toList.length:=by rw [hn.len];simp;omega
 refine ⟨?_,hbound⟩
 have hG:∀ k,E.G k→(w.setRow blk (setL arr.toList (base+q*s) vs).toArray).heap[k]?=w.heap[k]?:=fun k hk =>
  setRow_other _ _ _ _ fun e=>by subst e;exact (hI.locs b _ _ _ hb hl).2.1 hk
 have hxl:(xs.take q++(new++xs.drop (q+new.length))).length=xs.length:=by simp;omega
 refine StT.write hI b _ m blk base base sz sz arr _ ty hb hl m1 (.inl ⟨hv.symm,rfl,rfl⟩) ?_
 simp only [ObR,Env.upd,if_true]
 refine ⟨trivial,hm,_,ty,setRow_heap w blk _ _ ty _ m1,by simpa [setL_length] using m2,by simpa using setL_mem m2' hn.one,by rw [hxl];exact m3,by rw [hxl];exact m3',?_⟩
 have hcell:∀ k,(w.setRow blk (setL arr.toList (base+q*s) vs).toArray).cell? ⟨blk,k,none⟩=(setL arr.toList (base+q*s) vs)[k]?:=fun k=>by
  rw [cell_setRow_same w blk k arr _ ty _ m1];simp
 have hcold:∀ k,w.cell? ⟨blk,k,none⟩=arr.toList[k]?:=fun k=>by rw [cell_of_row w blk k arr ty _ m1];simp
 have htl:(xs.take q).length=q:=by simp;omega
 refine CRows.cons_left ?_ (CRows.cons_left ?_ ?_)
 ·obtain ⟨us,q1,q2⟩:=(m4.sub 0 q).vals
  simp only [List.drop_zero,Nat.zero_mul,Nat.add_zero] at q1 q2
  refine CRows.of_vals (q1.mono (fun _ h=>h) hG) fun k v hk=>?_
  have hk':=(List.getElem?_eq_some_iff.1 hk).1
  rw [q1.len,htl] at hk'
  rw [hcell,setL_get hbound,if_neg (by omega),← hcold]
  exact q2 k v hk
 ·rw [htl]
  refine CRows.of_vals (hn.mono (fun _ h=>h) hG) fun k v hk=>?_
  have hk':=(List.getElem?_eq_some_iff.1 hk).1
  rw [hcell,setL_get hbound,if_pos (by omega),show base+q*s+k - (base+q*s)=k from by omega]
  exact hk
 ·rw [htl]
  obtain ⟨us,q1,q2⟩:=(m4.sub (q+new.length) (xs.length - (q+new.length))).vals
  have e3:((xs.drop (q+new.length)).take (xs.length - (q+new.length)))=xs.drop (q+new.length):=tkL (by simp)
  rw [e3] at q1
  refine CRows.of_vals (q1.mono (fun _ h=>h) hG) fun k v hk=>?_
  rw [hcell,setL_get hbound,if_neg (by have:=hn.len;omega),← hcold]
  have:=q2 k v hk
  rwa [show base+(q+new.length)*s+k=base+q*s+new.length*s+k from by omega] at this
theorem overwrite_sl {P:Program} {w0:World} {bl:Bk} {E:Env} {w:World} {M:Nat→AO} {b m s o n c:Nat} {p:Option Addr} {f:Bool} {xs new:List (List AV)} {vs:List Value} (hI:Inv w0 bl E w) (hM:MemOK E w M) (hr:Rep E w (.sl b m s o n) (.slice p n c)) (hMb:M b=.vec m s f xs)
  (hn:VR w E.G s vs new) (hq:o+new.length≤xs.length) (hnn:new.length≤n) :
  ∃ E' w',((match p with|some a=>storeCells a vs|none=>pure ()).run P w)=.ok () w'∧StT w0 bl E w [(b,.vec m s f (xs.take o++(new++xs.drop (o+new.length))))] E' w':=by
 simp only [Rep] at hr
 obtain ⟨k1,k2,k3,p',c',heq,k4,k4',k5⟩:=hr
 simp only [Value.slice.injEq] at heq
 obtain ⟨rfl,-,rfl⟩:=heq
 have hob:=hM b k1
 simp only [hMb,ObR] at hob
 obtain ⟨l1,l2,l3⟩:=hob
 have hsl:=k5 l1.symm
 have same:new=[]→∃ E' w',((match p with|some a=>storeCells a vs|none=>pure ()).run P w)=.ok () w'∧StT w0 bl E w [(b,.vec m s f (xs.take o++(new++xs.drop (o+new.length))))] E' w':=fun h0=>by
  subst h0
  have hv0:vs=[]:=by have:=hn.len;simpa using this
  subst hv0
  refine ⟨E,w,by cases p<;>simp [storeCells],StT.retell hI k1 ?_⟩
  have hx:xs.take o++([]++xs.drop (o+([]:List (List AV)).length))=xs:=by simp
  rw [hx,← hMb]
  exact hM b k1
 cases hl:E.loc b with
 | none =>
  simp only [hl] at l3
  subst l3
  exact same (by simp at hq;exact hq.2)
 | some l =>
  obtain ⟨blk,base,sz⟩:=l
  simp only [hl,SlAt] at hsl l3
  obtain ⟨a,rfl,n3,n4⟩:=hsl
  obtain ⟨arr,ty,m1,m2,m2',m3,m3',m4⟩:=l3
  rcases n3 with n3|n3
  ·exact same (List.length_eq_zero_iff.1 (by omega))
  ·obtain ⟨st,hbound⟩:=overwrite_ok hI k1 l1 l2 hl m1 m2 m2' m3 m3' m4 hn hq
   refine ⟨_,_,?_,st⟩
   subst n3
   have:=run_storeCells_at (P:=P) (vs:=vs) (off:=base+o*s) (i:=0) m1 (by simpa using hbound) hn.one
   simpa using this
theorem VR.take {w:World} {G:Nat→Prop} {s:Nat} {vs:List Value} {rows:List (List AV)} (h:VR w G s vs rows) (k:Nat):VR w G s (vs.take (k*s)) (rows.take k):=by
 by_cases hk:k≤rows.length
 ·have h1:k*s≤rows.length*s:=Nat.mul_le_mul_right s hk
  refine ⟨?_,fun y hy=>h.one y (List.mem_of_mem_take hy),fun e he=>h.row e (List.mem_of_mem_take he),fun i e he j a ha=>?_⟩
  ·rw [List.length_take,h.len,List.length_take,Nat.min_eq_left h1,Nat.min_eq_left hk]
  ·have hik:i<k:=by
    have:=(List.getElem?_eq_some_iff.1 he).1
    simp at this;omega
   rw [List.getElem?_take,if_pos hik] at he
   obtain ⟨y,h1,h2⟩:=h.get i e he j a ha
   refine ⟨y,?_,h2⟩
   have hj:j<s:=by
    have:=(List.getElem?_eq_some_iff.1 ha).1
    rwa [h.row e (List.mem_of_getElem? he)] at this
   have:(i+1)*s≤k*s:=Nat.mul_le_mul_right s (by omega)
   have e1:(i+1)*s=i*s+s:=by rw [Nat.add_mul];omega
   rw [List.getElem?_take,if_pos (by omega)]
   exact h1
 ·have e1:rows.take k=rows:=tkL (by omega)
  have e2:vs.take (k*s)=vs:=tkL (by
   rw [h.len]
   exact Nat.mul_le_mul_right s (by omega))
  rw [e1,e2]
  exact h
def aBounds (lo hi:Option AV) (n mx:Nat):Option (Nat×Nat) :=
 match (match hi with
  | none=>some n
  | some (.v (.int _ x))=>if 0≤x∧(x≤n∨x≤mx) then some x.toNat else none
  | _=>none) with
 | none=>none
 | some h=>match lo with
  | none=>some (0,h)
  | some (.v (.int _ x))=>if 0≤x∧x≤h then some (x.toNat,h) else none
  | _=>none
def RepO (E:Env) (w:World):Option AV→Option Value→Prop
 | none,none=>True
 | some a,some x=>Rep E w a x
 | _,_=>False
theorem aBounds_ok {P:Program} {lo hi:Option AV} {n mx len cap l h:Nat} {b:Bool} {E:Env} {w:World} {vl vh:Option Value} (hb:aBounds lo hi n mx=some (l,h)) (hl:RepO E w lo vl) (hh:RepO E w hi vh) (hn:n=len) (hc:len≤cap) (hm:mx≤cap) :
  (Instr.sliceBounds b len cap vl vh none).run P w=.ok (l,h,cap) w∧l≤h∧(h≤n∨h≤mx):=by
 subst hn
 unfold aBounds at hb
 have key:∃ h',(match hi with
  | none=>some n
  | some (.v (.int _ x))=>if 0≤x∧(x≤n∨x≤mx) then some x.toNat else none
  | _=>none)=some h'∧(h'≤n∨h'≤mx)∧((match (generalizing:=false) vh,(none:Option Value) with
  | some v,some _=>Instr.sliceBound v cap .slice3B
  | some v,none=>Instr.sliceBound v cap (if b then .sliceAcap else .sliceAlen)
  | none,none=>pure n
  | none, some _ => stuck "Slice: max without high" : Sem Nat).run P w = .ok h' w) := by
  cases hi with
  | none =>
   cases vh with
   | none=>exact ⟨n,rfl,.inl (Nat.le_refl _),rfl⟩
   | some _=>simp [RepO] at hh
  | some a =>
   cases vh with
   | none=>simp [RepO] at hh
   | some x =>
    simp only [RepO] at hh
    cases a<;>try (simp at hb;done)
    rename_i y
    simp only [Rep,CRep] at hh
    subst hh
    cases x<;>try (simp at hb;done)
    rename_i k z
    simp only at hb ⊢
    by_cases hz:0≤z∧(z≤n∨z≤mx)
    ·rw [if_pos hz] at hb ⊢
     refine ⟨z.toNat,rfl,by omega,?_⟩
     rw [run_sliceBound _ k z cap _ hz.1 (by omega)]
    ·rw [if_neg hz] at hb
     simp at hb
 obtain ⟨h',k1,k2,k3⟩:=key
 rw [k1] at hb
 simp only at hb
 have low:l≤h∧h=h'∧((match (generalizing:=false) vl with
  | some v=>Instr.sliceBound v h' (if (none:Option Value).isSome then .slice3C else .sliceB)
  | none=>pure 0:Sem Nat).run P w=.ok l w):=by
  cases lo with
  | none =>
   cases vl with
   | none =>
    simp only [oJ,pJ] at hb
    obtain ⟨rfl,rfl⟩:=hb
    exact ⟨Nat.zero_le _,rfl,rfl⟩
   | some _=>simp [RepO] at hl
  | some a =>
   cases vl with
   | none=>simp [RepO] at hl
   | some x =>
    simp only [RepO] at hl
    cases a<;>try (simp at hb;done)
    rename_i y
    simp only [Rep,CRep] at hl
    subst hl
    cases x<;>try (simp at hb;done)
    rename_i k z
    simp only at hb ⊢
    by_cases hz:0≤z∧z≤h'
    ·rw [if_pos hz] at hb
     simp only [oJ,pJ] at hb
     obtain ⟨rfl,rfl⟩:=hb
     refine ⟨by omega,rfl,?_⟩
     rw [run_sliceBound _ k z h' _ hz.1 (by omega)]
    ·rw [if_neg hz] at hb
     simp at hb
 obtain ⟨l1,rfl,l3⟩:=low
 refine ⟨?_,l1,k2⟩
 unfold Instr.sliceBounds
 cases vh<;>cases vl<;>simp only [Sem.run_bind,Sem.run_pure,Result.andThen_ok,Result.ok.injEq,and_true] at k3 l3 ⊢
 all_goals try simp only [Option.isSome_none,Bool.false_eq_true,if_false] at l3 ⊢
 ·subst k3 l3;rfl
 ·subst k3;rw [l3];rfl
 ·subst l3;rw [k3];rfl
 ·rw [k3];simp only [Result.andThen_ok];rw [l3];rfl
def capOf (M:Nat→AO) (b m s o:Nat):Nat :=
 match M b with
 | .vec m' s' _ xs=>if m=m'∧s=s'∧1≤s then xs.length - o else 0
 | _=>0
theorem capOf_le {E:Env} {w:World} {M:Nat→AO} {b m s o c:Nat} {p:Option Addr} (hM:MemOK E w M) (hb:E.alive b) (h5:m=E.ver b→SlAt (E.loc b) s o p c):capOf M b m s o≤c:=by
 unfold capOf
 have ho:=hM b hb
 split
 ·rename_i m' s' f xs hMb
  split
  ·rename_i hm
   obtain ⟨rfl,rfl,hs⟩:=hm
   rw [hMb] at ho
   simp only [ObR] at ho
   obtain ⟨k1,k2,k3⟩:=ho
   have h5:=h5 k1.symm
   cases hl:E.loc b with
   | none=>simp only [hl] at k3;subst k3;simp
   | some l =>
    obtain ⟨blk,base,sz⟩:=l
    simp only [hl,SlAt] at h5 k3
    obtain ⟨a,_,_,q⟩:=h5
    obtain ⟨arr,t,_,_,_,k6,_,_⟩:=k3
    have h1:xs.length*s≤(o+c)*s:=by omega
    have:=Nat.le_of_mul_le_mul_right h1 (by omega)
    omega
  ·exact Nat.zero_le _
 ·exact Nat.zero_le _
def aSlice (T:TypeId→Option TD) (M:Nat→AO) (t:TypeId) (x:AV) (lo hi:Option AV):Option AV :=
 match T t with
 | none=>none
 | some d=>match d.k with
  | .slice e=>match T e with
   | none=>none
   | some de=>match x with
    | .rd s xs=>match aBounds lo hi xs.length 0 with
     | some (l,h)=>if s=de.size then some (.rd s ((xs.drop l).take (h - l))) else none
     | none=>none
    | .sl b m s o n=>match aBounds lo hi n (if hi.isSome then capOf M b m s o else 0) with
     | some (l,h)=>if s=de.size then some (.sl b m s (o+l) (h - l)) else none
     | none=>none
    | .v (.slice none 0 0)=>match aBounds lo hi 0 0 with
     | some _=>some (.v (.slice none 0 0))
     | none=>none
    | _=>none
  | .array n e=>match T e with
   | none=>none
   | some de=>match x with
    | .bp b o=>match aBounds lo hi n 0 with
     | some (l,h)=>some (.bs b (o+l*de.size) de.size (h - l))
     | none=>none
    | _=>none
  | _=>none
theorem aSlice_ok {P:Program} {M:Nat→AO} {t:TypeId} {x av:AV} {lo hi:Option AV} {E:Env} {w:World} {xv:Value} {vl vh:Option Value} (h:aSlice (Types P) M t x lo hi=some av) (hx:Rep E w x xv) (hl:RepO E w lo vl) (hh:RepO E w hi vh) (hM:MemOK E w M) :
  ∃ y,(Instr.sliceAt t xv vl vh none).run P w=.ok y w∧Rep E w av y:=by
 unfold aSlice at h
 cases ht:Types P t<;>simp only [ht,reduceCtorEq] at h
 rename_i d
 cases hk:d.k<;>simp only [hk,reduceCtorEq] at h
 case array n e =>
  cases he:Types P e<;>simp only [he,reduceCtorEq] at h
  rename_i de
  cases x<;>simp only [reduceCtorEq] at h
  rename_i b o
  cases hb:aBounds lo hi n 0<;>simp only [hb,reduceCtorEq] at h
  rename_i lh
  obtain ⟨l,hg⟩:=lh
  simp only [oJ] at h
  subst h
  obtain ⟨h1,h2,h3⟩:=aBounds_ok (P:=P) (b:=false) (cap:=n) hb hl hh rfl (Nat.le_refl _) (Nat.zero_le _)
  simp only [Rep] at hx
  obtain ⟨k1,k2,blk,sz,k3,rfl⟩:=hx
  refine ⟨_,by simp only [Instr.sliceAt,Sem.run_bind,und_array ht hk,Result.andThen_ok,Instr.sureAddr,Sem.run_pure,h1,rSz he];rfl,?_⟩
  simp only [Rep]
  refine ⟨k1,k2,blk,sz,_,_,k3,rfl,by omega,?_⟩
  by_cases e0:hg - l=0
  ·exact .inl e0
  ·right
   rw [if_neg (by omega),aPl]
 case slice e =>
  cases he:Types P e<;>simp only [he,reduceCtorEq] at h
  rename_i de
  have hsl:∀ p n c l g,(Instr.sliceBounds true n c vl vh none).run P w=.ok (l,g,c) w→(Instr.sliceAt t (.slice p n c) vl vh none).run P w=.ok (.slice (if c=l then p else p.map (·.add (l*de.size))) (g - l) (c - l)) w:=fun p n c l g hg=>by
   simp only [Instr.sliceAt,Instr.slice,Sem.run_bind,uSl ht hk,Result.andThen_ok,hg,rSz he]
   rfl
  cases x<;>try (simp only [reduceCtorEq] at h;done)
  case rd s xs =>
   simp only at h
   cases hb:aBounds lo hi xs.length 0<;>simp only [hb,reduceCtorEq] at h
   rename_i lh
   obtain ⟨l,g⟩:=lh
   simp only at h
   split at h
   case isFalse=>simp at h
   rename_i hs
   subst hs
   simp only [oJ] at h
   subst h
   simp only [Rep,CRep] at hx
   obtain ⟨p,c,rfl,k2,k3,k4⟩:=hx
   obtain ⟨h1,h2,h3⟩:=aBounds_ok (P:=P) (b:=true) (cap:=c) hb hl hh rfl k2 (Nat.zero_le _)
   refine ⟨_,hsl _ _ _ _ _ h1,?_⟩
   have hlen:((xs.drop l).take (g - l)).length=g - l:=by simp;omega
   simp only [Rep,CRep]
   refine ⟨_,c - l,by rw [hlen],by rw [hlen];omega,fun e0=>?_,?_⟩
   ·split at e0
    ·have:=k3 e0;omega
    ·cases p with
     | none=>have:=k3 rfl;omega
     | some _=>simp at e0
   ·by_cases e0:g - l=0
    ·left;rw [e0];simp
    ·rcases k4 with k4|⟨blk,off,rfl,k5,k6⟩
     ·subst k4;simp at h3;omega
     ·right
      rw [if_neg (by omega)]
      exact ⟨blk,off+l*de.size,by simp [aPl],k5,k6.sub l (g - l)⟩
  case sl b m s o n =>
   simp only at h
   have hcp:aBounds lo hi n (if hi.isSome then capOf M b m s o else 0)=aBounds lo hi n (capOf M b m s o):=by cases hi<;>rfl
   rw [hcp] at h
   cases hb:aBounds lo hi n (capOf M b m s o)<;>simp only [hb,reduceCtorEq] at h
   rename_i lh
   obtain ⟨l,g⟩:=lh
   simp only at h
   split at h
   case isFalse=>simp at h
   rename_i hs
   subst hs
   simp only [oJ] at h
   subst h
   simp only [Rep] at hx
   obtain ⟨k1,k2,k3,p,c,rfl,k4,k4',k5⟩:=hx
   obtain ⟨h1,h2,h3⟩:=aBounds_ok (P:=P) (b:=true) (cap:=c) hb hl hh rfl k4 (capOf_le hM k1 k5)
   have hgc:g≤c:=h3.elim (fun h=>Nat.le_trans h k4) fun h=>Nat.le_trans h (capOf_le hM k1 k5)
   refine ⟨_,hsl _ _ _ _ _ h1,?_⟩
   simp only [Rep]
   refine ⟨k1,k2,k3,_,c - l,rfl,by omega,fun e0=>?_,fun hm=>?_⟩
   ·split at e0
    ·have:=k4' e0;omega
    ·cases p with
     | none=>have:=k4' rfl;omega
     | some _=>simp at e0
   ·have:=k5 hm
    cases hL:E.loc b with
    | none =>
     simp only [hL,SlAt] at this ⊢
     obtain ⟨rfl,rfl⟩:=this
     have:l=0:=by omega
     subst this
     simp
    | some lo =>
     obtain ⟨blk,base,sz⟩:=lo
     simp only [hL,SlAt] at this ⊢
     obtain ⟨a,rfl,q1,q2⟩:=this
     split
     ·rename_i hcl
      exact ⟨a,rfl,.inl (by omega),by rw [show o+l+(c - l)=o+c from by omega];exact q2⟩
     ·rename_i hcl
      rcases q1 with q1|q1
      ·omega
      ·subst q1
       refine ⟨_,by simp only [Option.map_some,aPl];rfl,.inr ?_,by rw [show o+l+(c - l)=o+c from by omega];exact q2⟩
       rw [Nat.add_mul,Nat.add_assoc]
  case v y =>
   split at h
   ·rename_i heq;simp at heq
   ·rename_i heq;simp at heq
   ·rename_i heq
    simp only [AV.v.injEq] at heq
    subst heq
    cases hb:aBounds lo hi 0 0<;>simp only [hb,reduceCtorEq] at h
    rename_i lh
    obtain ⟨l,g⟩:=lh
    simp only [oJ] at h
    subst h
    simp only [Rep,CRep] at hx
    subst hx
    obtain ⟨h1,h2,h3⟩:=aBounds_ok (P:=P) (b:=true) (cap:=0) hb hl hh rfl (Nat.le_refl _) (Nat.le_refl _)
    refine ⟨_,hsl _ _ _ _ _ h1,?_⟩
    have:l=0:=by omega
    have:g=0:=by omega
    subst l g
    simp [Rep,CRep]
   ·simp at h
theorem aSlice_none {T:TypeId→Option TD} {M M':Nat→AO} {t:TypeId} {x:AV} {lo:Option AV}:aSlice T M t x lo none=aSlice T M' t x lo none:=by
 unfold aSlice
 cases T t with
 | none=>rfl
 | some d=>cases d.k<;>rfl
def aSlice3 (T:TypeId→Option TD) (t:TypeId) (x:AV) (lo:Option AV) (hi mx:AV):Option AV :=
 match T t with
 | none=>none
 | some d=>match d.k with
  | .slice e=>match T e,hi,mx with
   | some _,.v (.int _ h),.v (.int _ m)=>match x with
    | .sl _ _ _ _ n=>if m≤n∧h≤m∧0≤h then (match lo with
     | none=>some .any
     | some (.v (.int _ l))=>if 0≤l∧l≤h then some .any else none
     | _=>none) else none
    | _=>none
   | _,_,_=>none
  | _=>none
theorem aSlice3_ok {P:Program} {t:TypeId} {x hi mx av:AV} {lo:Option AV} {E:Env} {w:World} {xv vh vm:Value} {vl:Option Value} (h:aSlice3 (Types P) t x lo hi mx=some av) (hx:Rep E w x xv) (hl:RepO E w lo vl) (hh:Rep E w hi vh) (hm:Rep E w mx vm) :
  ∃ y,(Instr.sliceAt t xv vl (some vh) (some vm)).run P w=.ok y w∧Rep E w av y:=by
 unfold aSlice3 at h
 cases ht:Types P t<;>simp only [ht,reduceCtorEq] at h
 rename_i d
 cases hk:d.k<;>simp only [hk,reduceCtorEq] at h
 rename_i e
 cases he:Types P e<;>simp only [he,reduceCtorEq] at h
 rename_i de
 split at h
 case h_2=>simp at h
 rename_i k1 g k2 q heq1
 cases x<;>simp only [reduceCtorEq] at h
 rename_i b m s o n
 split at h
 case isFalse=>simp at h
 rename_i hb
 obtain ⟨h1,h2,h3⟩:=hb
 simp only [Rep,CRep] at hh hm
 subst hh hm
 simp only [Rep] at hx
 obtain ⟨_,_,_,p,c,rfl,k4,_,_⟩:=hx
 have b1:∀ code,(Instr.sliceBound (.int k2 q) c code).run P w=.ok q.toNat w:=fun code=>run_sliceBound _ k2 q c code (by omega) (by omega)
 have b2:∀ code,(Instr.sliceBound (.int k1 g) q.toNat code).run P w=.ok g.toNat w:=fun code=>run_sliceBound _ k1 g q.toNat code h3 (by omega)
 split at h
 ·cases vl with
  | some _=>simp [RepO] at hl
  | none =>
   simp only [oJ] at h
   subst h
   refine ⟨_,by simp [Instr.sliceAt,Instr.slice,Instr.sliceBounds,uSl ht hk,rSz he,b1,b2];rfl,by simp [Rep,CRep]⟩
 ·rename_i k3 l
  split at h
  case isFalse=>simp at h
  rename_i hlo
  cases vl with
  | none=>simp [RepO] at hl
  | some y =>
   simp only [RepO,Rep,CRep] at hl
   subst hl
   have b3:∀ code,(Instr.sliceBound (.int k3 l) g.toNat code).run P w=.ok l.toNat w:=fun code=>run_sliceBound _ k3 l g.toNat code hlo.1 (by omega)
   simp only [oJ] at h
   subst h
   refine ⟨_,by simp [Instr.sliceAt,Instr.slice,Instr.sliceBounds,uSl ht hk,rSz he,b1,b2,b3];rfl,by simp [Rep,CRep]⟩
 ·simp at h
def aInt:AV→Option Int
 | .v (.int _ n)=>some n
 | _=>none
theorem aInt_ok {P:Program} {E:Env} {w:World} {a:AV} {x:Value} {n:Int} (h:aInt a=some n) (hr:Rep E w a x):∃ k,x=.int k n∧(asIntOf x).run P w=.ok (k,n) w:=by
 unfold aInt at h
 split at h<;>simp only [oJ,reduceCtorEq] at h
 subst h
 simp only [Rep,CRep] at hr
 subst hr
 exact ⟨_,rfl,rfl⟩
def aIndexAddr (T:TypeId→Option TD) (t:TypeId) (x i:AV):Option AV :=
 match T t,aInt i with
 | some d,some j =>
  match d.k with
  | .slice e=>match T e with
   | none=>none
   | some de=>match x with
    | .rd s xs=>if 0≤j∧s=de.size then (match xs[j.toNat]? with|some e=>some (.rp e)|none=>none) else none
    | .sl b m s o n=>if (0≤j∧j<n)∧s=de.size then some (.ep b m s (o+j.toNat) 0) else none
    | .bs b o s n=>if (0≤j∧j<n)∧s=de.size then some (.bp b (o+j.toNat*s)) else none
    | _=>none
  | .array n e=>match T e with
   | none=>none
   | some de=>if 0≤j∧j<n then (match x with
    | .bp b o=>some (.bp b (o+j.toNat*de.size))
    | .rp cs=>some (.rp (cs.drop (j.toNat*de.size)))
    | .ep b m s i' k=>some (.ep b m s i' (k+j.toNat*de.size))
    | _=>none) else none
  | _=>none
 | _,_=>none
theorem CCs.drop {w:World} {G:Nat→Prop} {blk off:Nat} {cs:List AV} (h:CCs w G blk off cs) (n:Nat):CCs w G blk (off+n) (cs.drop n) :=
 CCs.of_get fun j a e=>by
  rw [List.getElem?_drop] at e
  have:=h.get e
  rwa [Nat.add_assoc]
theorem aIndexAddr_ok {P:Program} {t:TypeId} {x i av:AV} {E:Env} {w:World} {xv iv:Value} (h:aIndexAddr (Types P) t x i=some av) (hx:Rep E w x xv) (hi:Rep E w i iv) :
  ∃ y,(Instr.indexAt t xv iv).run P w=.ok y w∧Rep E w av y:=by
 unfold aIndexAddr at h
 cases ht:Types P t<;>simp only [ht,reduceCtorEq] at h
 rename_i d
 cases hj:aInt i<;>simp only [hj,reduceCtorEq] at h
 rename_i j
 obtain ⟨k,rfl,hjr⟩:=aInt_ok (P:=P) hj hi
 cases hk:d.k<;>simp only [hk,reduceCtorEq] at h
 case array n e =>
  cases he:Types P e<;>simp only [he,reduceCtorEq] at h
  rename_i de
  split at h
  case isFalse=>simp at h
  rename_i hjn
  have hrun:∀ a,(Instr.indexAt t (.pointer (some a)) (.int k j)).run P w=.ok (.pointer (some (a.add (j.toNat*de.size)))) w:=fun a=>by
   simp [Instr.indexAt,hjr,und_array ht hk,Instr.sureAddr,hjn,rSz he]
  cases x<;>simp only [reduceCtorEq,oJ] at h
  case bp b o =>
   subst h
   simp only [Rep] at hx
   obtain ⟨k1,k2,blk,sz,k3,rfl⟩:=hx
   exact ⟨_,hrun _,by simp only [Rep,aPl];exact ⟨k1,k2,blk,sz,k3,rfl⟩⟩
  case rp cs =>
   subst h
   simp only [Rep,CRep] at hx
   obtain ⟨blk,off,rfl,k3,k4⟩:=hx
   exact ⟨_,hrun _,by simp only [Rep,CRep,aPl];exact ⟨blk,_,rfl,k3,k4.drop _⟩⟩
  case ep b m s i' jj =>
   subst h
   simp only [Rep] at hx
   obtain ⟨k1,k2,k3,a,rfl,k5⟩:=hx
   refine ⟨_,hrun _,?_⟩
   simp only [Rep]
   refine ⟨k1,k2,k3,_,rfl,fun hm=>?_⟩
   obtain ⟨blk,base,sz,k6,rfl⟩:=k5 hm
   exact ⟨blk,base,sz,k6,by rw [aPl,Nat.add_assoc]⟩
 case slice e =>
  cases he:Types P e<;>simp only [he,reduceCtorEq] at h
  rename_i de
  have hrun:∀ a (n:Nat) c,0≤j→j<(n:Int)→(Instr.indexAt t (.slice (some a) n c) (.int k j)).run P w=.ok (.pointer (some (a.add (j.toNat*de.size)))) w:=fun a n c h1 h2=>by
   simp [Instr.indexAt,hjr,uSl ht hk,h1,h2,rSz he]
  cases x<;>simp only [reduceCtorEq] at h
  case rd s xs =>
   split at h
   case isFalse=>simp at h
   rename_i hjs
   obtain ⟨hj0,rfl⟩:=hjs
   cases hxe:xs[j.toNat]?<;>simp only [hxe,reduceCtorEq,oJ] at h
   rename_i el
   subst h
   have hlt:=(List.getElem?_eq_some_iff.1 hxe).1
   simp only [Rep,CRep] at hx
   obtain ⟨p,c,rfl,k1,k2,k3⟩:=hx
   rcases k3 with rfl|⟨blk,off,rfl,k4,k5⟩
   ·simp at hlt
   ·refine ⟨_,hrun _ _ _ hj0 (by omega),?_⟩
    simp only [Rep,CRep,aPl]
    exact ⟨blk,_,rfl,k4,(k5.get hxe).2⟩
  case sl b m s o n =>
   split at h
   case isFalse=>simp at h
   rename_i hjs
   obtain ⟨⟨hj0,hjn⟩,rfl⟩:=hjs
   simp only [oJ] at h
   subst h
   simp only [Rep] at hx
   obtain ⟨k1,k2,k3,p,c,rfl,k4,k4',k5⟩:=hx
   cases p with
   | none=>have:=k4' rfl;omega
   | some a =>
    refine ⟨_,hrun _ _ _ hj0 hjn,?_⟩
    simp only [Rep]
    refine ⟨k1,k2,k3,_,rfl,fun hm=>?_⟩
    have:=k5 hm
    cases hL:E.loc b with
    | none =>
     simp only [hL,SlAt] at this
     omega
    | some lo =>
     obtain ⟨blk,base,sz⟩:=lo
     simp only [hL,SlAt,oJ] at this
     obtain ⟨a',rfl,q1,q2⟩:=this
     rcases q1 with q1|q1
     ·omega
     ·subst q1
      exact ⟨blk,base,sz,rfl,by rw [aPl,Nat.add_mul,Nat.add_zero,Nat.add_assoc]⟩
  case bs b o s n =>
   split at h
   case isFalse=>simp at h
   rename_i hjs
   obtain ⟨⟨hj0,hjn⟩,rfl⟩:=hjs
   simp only [oJ] at h
   subst h
   simp only [Rep] at hx
   obtain ⟨k1,k2,blk,sz,p,c,k3,rfl,k4,k5⟩:=hx
   rcases k5 with k5|rfl
   ·omega
   ·refine ⟨_,hrun _ _ _ hj0 hjn,?_⟩
    simp only [Rep,aPl]
    exact ⟨k1,k2,blk,sz,k3,rfl⟩
end Go.AM
