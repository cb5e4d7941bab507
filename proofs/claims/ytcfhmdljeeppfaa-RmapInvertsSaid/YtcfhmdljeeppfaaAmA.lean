/- A part of the proof: what functions of the program compute, by abstract execution of their code. Its theorems hold without further condition. -/
import Derived.Calls
import Derived.Tactics
import Derived.Laws.World
import Derived.Laws.Sem
import Derived.Laws.Rows
import Derived.Laws.Cells
import Derived.Laws.Tables
import Derived.ChangeKeysEq
set_option linter.all false
namespace Go.AM
open Go
inductive AV where
 | any
 | v (x:Value)
 | agg (cs:List AV)
 | tup (cs:List AV)
 | rd (s:Nat) (xs:List (List AV))
 | ow (s:Nat) (xs:List (List AV))
 | rp (cs:List AV)
 | rf (cs:List AV)
 | bp (b o:Nat)
 | sl (b m s o n:Nat)
 | ep (b m s i j:Nat)
 | bs (b o s n:Nat)
 | fn (f:FuncId) (cs:List AV)
 | ifc (t:TypeId) (cs:List AV)
 | mp (b m:Nat)
 | rm (n:Nat) (es:List (List Int×AV))
 | om (n:Nat) (es:List (List Int×AV))
 deriving Inhabited
inductive AO where
 | dead
 | box (cs:List AV)
 | vec (m s:Nat) (f:Bool) (xs:List (List AV))
 | map (m n:Nat) (es:List (List Int×AV))
 | vo (m s:Nat) (xs:List (List AV)) (k:Nat) (e:List AV)
 deriving Inhabited
def keyV:List Int→Value
 | [k]=>.int .i64 k
 | ks=>.agg (ks.map (Value.int .i64)).toArray
mutual
def CRep (w:World) (G:Nat→Prop):AV→Value→Prop
 | .any,_=>True
 | .v y,x=>x=y
 | .agg cs,x=>∃ vs:List Value,x=.agg vs.toArray∧(∀ y∈vs,y.oneCell'=true)∧CRepL w G cs vs
 | .tup cs,x=>∃ vs:List Value,x=.tuple vs.toArray∧CRepL w G cs vs
 | .rd s xs,x=>∃ p c,x=.slice p xs.length c∧xs.length≤c∧(p=none→c=0)∧(xs=[]∨∃ blk off,p=some ⟨blk,off,none⟩∧G blk∧CRows w G s blk off xs)
 | .rp cs,x=>∃ blk off,x=.pointer (some ⟨blk,off,none⟩)∧G blk∧CCells w G blk off cs
 | .fn f cs,x=>∃ vs:List Value,x=.func (.func f) #[] vs.toArray∧CRepL w G cs vs
 | .ifc t cs,x=>∃ v:Value,x=.iface t v∧CRepL w G cs [v]
 | .rm n es,x=>∃ blk ents clk,x=.map (some blk)∧G blk∧w.heap[blk]?=some (.map (List.toArray ents) clk)∧CEnts w G n es ents
 | _,_=>False
def CEnts (w:World) (G:Nat→Prop) (n:Nat):List (List Int×AV)→List MapEntry→Prop
 | [],[]=>True
 | (k,a)::r,e::s=>(k.length=n∧e.key=keyV k)∧CRep w G a e.val∧CEnts w G n r s
 | _,_=>False
def CRepL (w:World) (G:Nat→Prop):List AV→List Value→Prop
 | [],[]=>True
 | a::as,x::xs=>CRep w G a x∧CRepL w G as xs
 | _,_=>False
def CCells (w:World) (G:Nat→Prop) (blk:Nat) (off:Nat):List AV→Prop
 | []=>True
 | a::r=>(∃ x,w.cell? ⟨blk,off,none⟩=some x∧x.oneCell'=true∧CRep w G a x)∧CCells w G blk (off+1) r
def CRows (w:World) (G:Nat→Prop) (s blk:Nat) (off:Nat):List (List AV)→Prop
 | []=>True
 | e::r=>e.length=s∧CCells w G blk off e∧CRows w G s blk (off+s) r
end
structure Env where
 G:Nat→Prop
 alive:Nat→Prop
 ver:Nat→Nat
 loc:Nat→Option (Nat×Nat×Nat)
def SlAt (l:Option (Nat×Nat×Nat)) (s o:Nat) (p:Option Addr) (c:Nat):Prop :=
 match l with
 | none=>o=0∧c=0
 | some (blk,base,sz)=>∃ a,p=some a∧(c=0∨a=⟨blk,base+o*s,none⟩)∧base+(o+c)*s=sz
mutual
def Rep (E:Env) (w:World):AV→Value→Prop
 | .bp b o,x=>E.alive b∧E.ver b=0∧∃ blk sz,E.loc b=some (blk,0,sz)∧x=.pointer (some ⟨blk,o,none⟩)
 | .sl b m s o n,x=>E.alive b∧1≤m∧m≤E.ver b∧∃ p c,x=.slice p n c∧n≤c∧(p=none→c=0)∧(m=E.ver b→SlAt (E.loc b) s o p c)
 | .ep b m s i j,x=>E.alive b∧1≤m∧m≤E.ver b∧∃ a,x=.pointer (some a)∧(m=E.ver b→∃ blk base sz,E.loc b=some (blk,base,sz)∧a=⟨blk,base+i*s+j,none⟩)
 | .bs b o _ n,x=>E.alive b∧E.ver b=0∧∃ blk sz p c,E.loc b=some (blk,0,sz)∧x=.slice (some p) n c∧n≤c∧(n=0∨p=⟨blk,o,none⟩)
 | .mp b m,x=>E.alive b∧1≤m∧m≤E.ver b∧∃ blk,x=.map (some blk)∧(m=E.ver b→E.loc b=some (blk,0,0))
 | .agg cs,x=>∃ vs:List Value,x=.agg vs.toArray∧(∀ y∈vs,y.oneCell'=true)∧RepL E w cs vs
 | .tup cs,x=>∃ vs:List Value,x=.tuple vs.toArray∧RepL E w cs vs
 | .fn f cs,x=>∃ vs:List Value,x=.func (.func f) #[] vs.toArray∧RepL E w cs vs
 | .ifc t cs,x=>∃ v:Value,x=.iface t v∧RepL E w cs [v]
 | a,x=>CRep w E.G a x
def RepL (E:Env) (w:World):List AV→List Value→Prop
 | [],[]=>True
 | a::as,x::xs=>Rep E w a x∧RepL E w as xs
 | _,_=>False
end
def BornOK (ents:List MapEntry) (clk:Nat):Prop:=(∀ e∈ents,e.born<clk)∧(ents.map (·.born)).Nodup
def CEntB (w:World) (G:Nat→Prop) (n:Nat) (es:List (List Int×AV)) (ents:List MapEntry) (clk:Nat):Prop:=CEnts w G n es ents∧BornOK ents clk
def ObjRep (E:Env) (w:World) (b:Nat):AO→Prop
 | .dead=>True
 | .box cs=>E.ver b=0∧∃ blk t vs,E.loc b=some (blk,0,vs.length)∧w.heap[blk]?=some (.cells vs.toArray t (0,0))∧(∀ y∈vs,y.oneCell'=true)∧RepL E w cs vs
 | .vec m s f xs=>E.ver b=m∧1≤m∧match E.loc b with
  | none=>xs=[]
  | some (blk,base,sz)=>∃ c t,w.heap[blk]?=some (.cells c t (0,0))∧sz≤c.size∧(∀ y∈c.toList,y.oneCell'=true)∧base+xs.length*s≤sz∧(f=true→base+xs.length*s=sz)∧CRows w E.G s blk base xs
 | .vo m s xs k e=>E.ver b=m∧1≤m∧k<xs.length∧e.length=s∧∃ blk base sz c t vs,E.loc b=some (blk,base,sz)∧w.heap[blk]?=some (.cells c t (0,0))∧sz≤c.size∧(∀ y∈c.toList,y.oneCell'=true)∧base+xs.length*s≤sz ∧
  (∀ i r,i≠k→xs[i]?=some r→r.length=s∧CCells w E.G blk (base+i*s) r)∧RepL E w e vs∧(∀ y∈vs,y.oneCell'=true)∧∀ j v,vs[j]?=some v→w.cell? ⟨blk,base+k*s+j,none⟩=some v
 | .map m n es=>E.ver b=m∧1≤m∧∃ blk ents clk,E.loc b=some (blk,0,0)∧w.heap[blk]?=some (.map (List.toArray ents) clk)∧CEntB w E.G n es ents clk
structure Frame (w0:World) (bl:List Nat) (w:World):Prop where
 os:w.os=w0.os
 out:w.output=w0.output
 size:w0.heap.size≤w.heap.size
 old:∀ k,k<w0.heap.size→k ∉ bl→w.heap[k]?=w0.heap[k]?
structure Env.Le (E E':Env):Prop where
 G:∀ k,E.G k→E'.G k
 alive:∀ b,E.alive b→E'.alive b
 same:∀ b,E.alive b→(E'.ver b=E.ver b∧E'.loc b=E.loc b)∨(1≤E.ver b∧E.ver b<E'.ver b)
structure Bk where
 l:List Nat
 E:Env
 n:Nat
def Bk.G (b:Bk):Nat→Prop:=b.E.G
def Env.start (G:Nat→Prop):Env:={ G:=G,alive:=fun _=>False,ver:=fun _=>0,loc:=fun _=>none }
def Bk.pure (G:Nat→Prop):Bk:=⟨[],Env.start G,0⟩
@[simp] theorem Bk.pure_l (G:Nat→Prop):(Bk.pure G).l=[]:=rfl
@[simp] theorem Bk.pure_n (G:Nat→Prop):(Bk.pure G).n=0:=rfl
@[simp] theorem Bk.pure_G (G:Nat→Prop):(Bk.pure G).G=G:=rfl
structure Inv (w0:World) (bl:Bk) (E:Env) (w:World):Prop where
 frame:Frame w0 bl.l w
 gin:bl.E.Le E
 low:∀ b,bl.E.alive b→b<bl.n
 gout:∀ k,E.G k→bl.G k∨w0.heap.size≤k∨k∈bl.l
 good:∀ k,E.G k→k<w.heap.size
 locs:∀ b blk base sz,E.alive b→E.loc b=some (blk,base,sz)→blk<w.heap.size∧¬ E.G blk∧(w0.heap.size≤blk∨blk∈bl.l)
 apart:∀ b b' blk base sz base' sz',E.alive b→E.alive b'→E.loc b=some (blk,base,sz)→E.loc b'=some (blk,base',sz')→b=b'
theorem Env.Le.refl (E:Env):E.Le E:=⟨fun _ h=>h,fun _ h=>h,fun _ _=>.inl ⟨rfl,rfl⟩⟩
theorem Env.Le.trans {A B C:Env} (h:A.Le B) (k:B.Le C):A.Le C :=
 ⟨fun x hx=>k.G x (h.G x hx),fun b hb=>k.alive b (h.alive b hb),fun b hb=>by
  rcases h.same b hb with ⟨h1,h2⟩|⟨h1,h2⟩<;>rcases k.same b (h.alive b hb) with ⟨k1,k2⟩|⟨k1,k2⟩
  ·exact .inl ⟨k1.trans h1,k2.trans h2⟩
  ·exact .inr ⟨by omega,by omega⟩
  ·exact .inr ⟨h1,by omega⟩
  ·exact .inr ⟨h1,by omega⟩⟩
theorem Frame.refl (w:World):Frame w [] w :=
 ⟨rfl,rfl,Nat.le_refl _,fun _ _ _=>rfl⟩
theorem cell_of_heap {w w':World} {blk:Nat} (h:w'.heap[blk]?=w.heap[blk]?) (off:Nat):w'.cell? ⟨blk,off,none⟩=w.cell? ⟨blk,off,none⟩:=by
 unfold World.cell?
 rw [h]
mutual
theorem CRep.mono {w w':World} {G G':Nat→Prop} (hG:∀ k,G k→G' k) (hw:∀ k,G k→w'.heap[k]?=w.heap[k]?):∀ {a:AV} {x:Value},CRep w G a x→CRep w' G' a x
 | .any,_,_=>by simp [CRep]
 | .v _,_,h=>by simpa [CRep] using h
 | .agg cs,_,h=>by
  simp only [CRep] at h ⊢
  obtain ⟨vs,h1,h2,h3⟩:=h
  exact ⟨vs,h1,h2,CRepL.mono hG hw h3⟩
 | .tup cs,_,h=>by
  simp only [CRep] at h ⊢
  obtain ⟨vs,h1,h3⟩:=h
  exact ⟨vs,h1,CRepL.mono hG hw h3⟩
 | .fn f cs,_,h=>by
  simp only [CRep] at h ⊢
  obtain ⟨vs,h1,h3⟩:=h
  exact ⟨vs,h1,CRepL.mono hG hw h3⟩
 | .ifc t cs,_,h=>by
  simp only [CRep] at h ⊢
  obtain ⟨vs,h1,h3⟩:=h
  exact ⟨vs,h1,CRepL.mono hG hw h3⟩
 | .rd s xs,_,h=>by
  simp only [CRep] at h ⊢
  obtain ⟨p,c,h1,h2,hpc,h3⟩:=h
  refine ⟨p,c,h1,h2,hpc,?_⟩
  rcases h3 with h3|⟨blk,off,h4,h5,h6⟩
  ·exact .inl h3
  ·exact .inr ⟨blk,off,h4,hG _ h5,CRows.mono hG hw (.inr h5) h6⟩
 | .rp cs,_,h=>by
  simp only [CRep] at h ⊢
  obtain ⟨blk,off,h4,h5,h6⟩:=h
  exact ⟨blk,off,h4,hG _ h5,CCells.mono hG hw (.inr h5) h6⟩
 | .rm n es,_,h=>by
  simp only [CRep] at h ⊢
  obtain ⟨blk,ents,clk,h4,h5,h6,h7⟩:=h
  exact ⟨blk,ents,clk,h4,hG _ h5,(hw _ h5).trans h6,CEnts.mono hG hw h7⟩
 | .ow ..,_,h=>by simp [CRep] at h
 | .rf ..,_,h=>by simp [CRep] at h
 | .bp ..,_,h=>by simp [CRep] at h
 | .sl ..,_,h=>by simp [CRep] at h
 | .ep ..,_,h=>by simp [CRep] at h
 | .bs ..,_,h=>by simp [CRep] at h
 | .mp ..,_,h=>by simp [CRep] at h
 | .om ..,_,h=>by simp [CRep] at h
theorem CEnts.mono {w w':World} {G G':Nat→Prop} (hG:∀ k,G k→G' k) (hw:∀ k,G k→w'.heap[k]?=w.heap[k]?) {n:Nat}:∀ {es:List (List Int×AV)} {xs:List MapEntry},CEnts w G n es xs→CEnts w' G' n es xs
 | [],[],_=>by simp [CEnts]
 | (k,a)::r,e::s,h=>by
  simp only [CEnts] at h ⊢
  exact ⟨h.1,CRep.mono hG hw h.2.1,CEnts.mono hG hw h.2.2⟩
 | [],_::_,h=>by simp [CEnts] at h
 | _::_,[],h=>by simp [CEnts] at h
theorem CRepL.mono {w w':World} {G G':Nat→Prop} (hG:∀ k,G k→G' k) (hw:∀ k,G k→w'.heap[k]?=w.heap[k]?):∀ {as:List AV} {xs:List Value},CRepL w G as xs→CRepL w' G' as xs
 | [],[],_=>by simp [CRepL]
 | a::as,x::xs,h=>by
  simp only [CRepL] at h ⊢
  exact ⟨CRep.mono hG hw h.1,CRepL.mono hG hw h.2⟩
 | [],_::_,h=>by simp [CRepL] at h
 | _::_,[],h=>by simp [CRepL] at h
theorem CCells.mono {w w':World} {G G':Nat→Prop} (hG:∀ k,G k→G' k) (hw:∀ k,G k→w'.heap[k]?=w.heap[k]?) {blk:Nat} (hb:w'.heap[blk]?=w.heap[blk]?∨G blk):∀ {off:Nat} {cs:List AV},CCells w G blk off cs→CCells w' G' blk off cs
 | _,[],_=>by simp [CCells]
 | off,a::r,h=>by
  simp only [CCells] at h ⊢
  obtain ⟨⟨x,h1,h2,h3⟩,h4⟩:=h
  exact ⟨⟨x,by rw [cell_of_heap (hb.elim id (hw _))];exact h1,h2,CRep.mono hG hw h3⟩,CCells.mono hG hw hb h4⟩
theorem CRows.mono {w w':World} {G G':Nat→Prop} (hG:∀ k,G k→G' k) (hw:∀ k,G k→w'.heap[k]?=w.heap[k]?) {s blk:Nat} (hb:w'.heap[blk]?=w.heap[blk]?∨G blk):∀ {off:Nat} {xs:List (List AV)},CRows w G s blk off xs→CRows w' G' s blk off xs
 | _,[],_=>by simp [CRows]
 | off,e::r,h=>by
  simp only [CRows] at h ⊢
  exact ⟨h.1,CCells.mono hG hw hb h.2.1,CRows.mono hG hw hb h.2.2⟩
end
theorem CEntB.mono {w w':World} {G G':Nat→Prop} {n:Nat} {es:List (List Int×AV)} {xs:List MapEntry} {clk:Nat} (h:CEntB w G n es xs clk) (hG:∀ k,G k→G' k) (hw:∀ k,G k→w'.heap[k]?=w.heap[k]?):CEntB w' G' n es xs clk:=⟨CEnts.mono hG hw h.1,h.2⟩
mutual
theorem Rep.mono {E E':Env} {w w':World} (hE:E.Le E') (hw:∀ k,E.G k→w'.heap[k]?=w.heap[k]?):∀ {a:AV} {x:Value},Rep E w a x→Rep E' w' a x
 | .bp b o,x,h=>by
  simp only [Rep] at h ⊢
  obtain ⟨h1,h2,blk,sz,h3,h4⟩:=h
  rcases hE.same b h1 with ⟨k1,k2⟩|⟨k1,_⟩
  ·exact ⟨hE.alive b h1,k1.trans h2,blk,sz,k2.trans h3,h4⟩
  ·omega
 | .bs b o s n,x,h=>by
  simp only [Rep] at h ⊢
  obtain ⟨h1,h2,blk,sz,p,c,h3,h4,h5⟩:=h
  rcases hE.same b h1 with ⟨k1,k2⟩|⟨k1,_⟩
  ·exact ⟨hE.alive b h1,k1.trans h2,blk,sz,p,c,k2.trans h3,h4,h5⟩
  ·omega
 | .sl b m s o n,x,h=>by
  simp only [Rep] at h ⊢
  obtain ⟨h1,h2,h3,p,c,h4,h4',h4'',h5⟩:=h
  rcases hE.same b h1 with ⟨k1,k2⟩|⟨k1,k2⟩
  ·exact ⟨hE.alive b h1,h2,by omega,p,c,h4,h4',h4'',fun e=>by rw [k2];exact h5 (e.trans k1)⟩
  ·exact ⟨hE.alive b h1,h2,by omega,p,c,h4,h4',h4'',fun e=>by omega⟩
 | .ep b m s i j,x,h=>by
  simp only [Rep] at h ⊢
  obtain ⟨h1,h2,h3,a,h4,h5⟩:=h
  rcases hE.same b h1 with ⟨k1,k2⟩|⟨k1,k2⟩
  ·exact ⟨hE.alive b h1,h2,by omega,a,h4,fun e=>by rw [k2];exact h5 (e.trans k1)⟩
  ·exact ⟨hE.alive b h1,h2,by omega,a,h4,fun e=>by omega⟩
 | .agg cs,_,h=>by
  simp only [Rep] at h ⊢
  obtain ⟨vs,h1,h2,h3⟩:=h
  exact ⟨vs,h1,h2,RepL.mono hE hw h3⟩
 | .tup cs,_,h=>by
  simp only [Rep] at h ⊢
  obtain ⟨vs,h1,h3⟩:=h
  exact ⟨vs,h1,RepL.mono hE hw h3⟩
 | .fn f cs,_,h=>by
  simp only [Rep] at h ⊢
  obtain ⟨vs,h1,h3⟩:=h
  exact ⟨vs,h1,RepL.mono hE hw h3⟩
 | .ifc t cs,_,h=>by
  simp only [Rep] at h ⊢
  obtain ⟨vs,h1,h3⟩:=h
  exact ⟨vs,h1,RepL.mono hE hw h3⟩
 | .mp b m,x,h=>by
  simp only [Rep] at h ⊢
  obtain ⟨h1,h2,h3,blk,h4,h5⟩:=h
  rcases hE.same b h1 with ⟨k1,k2⟩|⟨k1,k2⟩
  ·exact ⟨hE.alive b h1,h2,by omega,blk,h4,fun e=>by rw [k2];exact h5 (e.trans k1)⟩
  ·exact ⟨hE.alive b h1,h2,by omega,blk,h4,fun e=>by omega⟩
 | .rm ..,_,h=>by simp only [Rep] at h ⊢;exact h.mono hE.G hw
 | .om ..,_,h=>by simp only [Rep] at h ⊢;exact h.mono hE.G hw
 | .any,_,h=>by simp only [Rep] at h ⊢;exact h.mono hE.G hw
 | .v _,_,h=>by simp only [Rep] at h ⊢;exact h.mono hE.G hw
 | .rd ..,_,h=>by simp only [Rep] at h ⊢;exact h.mono hE.G hw
 | .ow ..,_,h=>by simp only [Rep] at h ⊢;exact h.mono hE.G hw
 | .rp ..,_,h=>by simp only [Rep] at h ⊢;exact h.mono hE.G hw
 | .rf ..,_,h=>by simp only [Rep] at h ⊢;exact h.mono hE.G hw
theorem RepL.mono {E E':Env} {w w':World} (hE:E.Le E') (hw:∀ k,E.G k→w'.heap[k]?=w.heap[k]?):∀ {as:List AV} {xs:List Value},RepL E w as xs→RepL E' w' as xs
 | [],[],_=>by simp [RepL]
 | a::as,x::xs,h=>by
  simp only [RepL] at h ⊢
  exact ⟨Rep.mono hE hw h.1,RepL.mono hE hw h.2⟩
 | [],_::_,h=>by simp [RepL] at h
 | _::_,[],h=>by simp [RepL] at h
end
theorem ObjRep.mono {E E':Env} {w w':World} (hE:E.Le E') (hw:∀ k,E.G k→w'.heap[k]?=w.heap[k]?) {b:Nat} (h1:E'.ver b=E.ver b) (h2:E'.loc b=E.loc b)
  (h3:∀ blk base sz,E.loc b=some (blk,base,sz)→w'.heap[blk]?=w.heap[blk]?):∀ {o:AO},ObjRep E w b o→ObjRep E' w' b o
 | .dead,_=>trivial
 | .box cs,h=>by
  simp only [ObjRep] at h ⊢
  obtain ⟨k1,blk,t,vs,k2,k3,k4,k5⟩:=h
  exact ⟨h1.trans k1,blk,t,vs,h2.trans k2,(h3 _ _ _ k2).trans k3,k4,k5.mono hE hw⟩
 | .vec m s f xs,h=>by
  simp only [ObjRep] at h ⊢
  obtain ⟨k1,k2,k3⟩:=h
  refine ⟨h1.trans k1,k2,?_⟩
  rw [h2]
  cases hl:E.loc b with
  | none=>simp only [hl] at k3 ⊢;exact k3
  | some l =>
   obtain ⟨blk,base,sz⟩:=l
   simp only [hl] at k3 ⊢
   obtain ⟨c,t,k4,k5,k5',k6,k6',k7⟩:=k3
   exact ⟨c,t,(h3 _ _ _ hl).trans k4,k5,k5',k6,k6',k7.mono hE.G hw (.inl (h3 _ _ _ hl))⟩
 | .vo m s xs k e,h=>by
  simp only [ObjRep] at h ⊢
  obtain ⟨k1,k2,kk,ke,blk,base,sz,c,t,vs,hl,k4,k5,k5',k6,k7,k8,k8',k9⟩:=h
  have hh:=h3 _ _ _ hl
  exact ⟨h1.trans k1,k2,kk,ke,blk,base,sz,c,t,vs,h2.trans hl,hh.trans k4,k5,k5',k6,fun i r hi hr=>⟨(k7 i r hi hr).1,(k7 i r hi hr).2.mono hE.G hw (.inl hh)⟩,k8.mono hE hw,k8',fun j v hv=>by rw [cell_of_heap hh];exact k9 j v hv⟩
 | .map m n es,h=>by
  simp only [ObjRep] at h ⊢
  obtain ⟨k1,k0,blk,ents,clk,k2,k3,k4⟩:=h
  exact ⟨h1.trans k1,k0,blk,ents,clk,h2.trans k2,(h3 _ _ _ k2).trans k3,k4.mono hE.G hw⟩
theorem RepL.length {E:Env} {w:World}:∀ {as:List AV} {xs:List Value},RepL E w as xs→as.length=xs.length
 | [],[],_=>rfl
 | a::as,x::xs,h=>by simp only [RepL] at h;simp [RepL.length h.2]
 | [],_::_,h=>by simp [RepL] at h
 | _::_,[],h=>by simp [RepL] at h
theorem RepL.get {E:Env} {w:World}:∀ {as:List AV} {xs:List Value} {i:Nat} {a:AV},RepL E w as xs→as[i]?=some a→∃ x,xs[i]?=some x∧Rep E w a x
 | [],[],i,a,_,h=>by simp at h
 | a::as,x::xs,0,a',h,e=>by simp only [RepL] at h;simp at e;subst e;exact ⟨x,by simp,h.1⟩
 | a::as,x::xs,i+1,a',h,e=>by simp only [RepL] at h;simp at e;simpa using RepL.get h.2 e
 | [],_::_,_,_,h,_=>by simp [RepL] at h
 | _::_,[],_,_,h,_=>by simp [RepL] at h
theorem RepL.set {E:Env} {w:World}:∀ {as:List AV} {xs:List Value} {i:Nat} {a:AV} {x:Value},RepL E w as xs→Rep E w a x→RepL E w (as.set i a) (xs.set i x)
 | [],[],i,a,_,_,_=>by simp [RepL]
 | a::as,x::xs,0,a',x',h,e=>by simp only [RepL,List.set_cons_zero] at h ⊢;exact ⟨e,h.2⟩
 | a::as,x::xs,i+1,a',x',h,e=>by simp only [RepL,List.set_cons_succ] at h ⊢;exact ⟨h.1,RepL.set h.2 e⟩
 | [],_::_,_,_,_,h,_=>by simp [RepL] at h
 | _::_,[],_,_,_,h,_=>by simp [RepL] at h
theorem RepL.append {E:Env} {w:World}:∀ {as:List AV} {xs:List Value} {bs:List AV} {ys:List Value},RepL E w as xs→RepL E w bs ys→RepL E w (as++bs) (xs++ys)
 | [],[],_,_,_,h=>by simpa using h
 | a::as,x::xs,_,_,h,k=>by simp only [RepL,List.cons_append] at h ⊢;exact ⟨h.1,RepL.append h.2 k⟩
 | [],_::_,_,_,h,_=>by simp [RepL] at h
 | _::_,[],_,_,h,_=>by simp [RepL] at h
theorem RepL.take {E:Env} {w:World}:∀ {as:List AV} {xs:List Value} (n:Nat),RepL E w as xs→RepL E w (as.take n) (xs.take n)
 | [],[],n,_=>by simp [RepL]
 | a::as,x::xs,0,h=>by simp [RepL]
 | a::as,x::xs,n+1,h=>by simp only [RepL,List.take_succ_cons] at h ⊢;exact ⟨h.1,RepL.take n h.2⟩
 | [],_::_,_,h=>by simp [RepL] at h
 | _::_,[],_,h=>by simp [RepL] at h
theorem RepL.drop {E:Env} {w:World}:∀ {as:List AV} {xs:List Value} (n:Nat),RepL E w as xs→RepL E w (as.drop n) (xs.drop n)
 | [],[],n,_=>by simp [RepL]
 | a::as,x::xs,0,h=>by simpa using h
 | a::as,x::xs,n+1,h=>by simp only [RepL] at h;simpa using RepL.drop n h.2
 | [],_::_,_,h=>by simp [RepL] at h
 | _::_,[],_,h=>by simp [RepL] at h
theorem Rep.of_c {E:Env} {w:World}:∀ {a:AV} {x:Value},CRep w E.G a x→Rep E w a x
 | .any,_,h=>by simpa only [Rep] using h
 | .v _,_,h=>by simpa only [Rep] using h
 | .rd ..,_,h=>by simpa only [Rep] using h
 | .rp ..,_,h=>by simpa only [Rep] using h
 | .ow ..,_,h=>by simpa only [Rep] using h
 | .rf ..,_,h=>by simpa only [Rep] using h
 | .rm ..,_,h=>by simpa only [Rep] using h
 | .om ..,_,h=>by simpa only [Rep] using h
 | .mp ..,_,h=>by simp [CRep] at h
 | .bp ..,_,h=>by simp [CRep] at h
 | .sl ..,_,h=>by simp [CRep] at h
 | .ep ..,_,h=>by simp [CRep] at h
 | .bs ..,_,h=>by simp [CRep] at h
 | .agg cs,_,h=>by
  simp only [CRep,Rep] at h ⊢
  obtain ⟨vs,h1,h2,h3⟩:=h
  exact ⟨vs,h1,h2,go h3⟩
 | .tup cs,_,h=>by
  simp only [CRep,Rep] at h ⊢
  obtain ⟨vs,h1,h3⟩:=h
  exact ⟨vs,h1,go h3⟩
 | .fn f cs,_,h=>by
  simp only [CRep,Rep] at h ⊢
  obtain ⟨vs,h1,h3⟩:=h
  exact ⟨vs,h1,go h3⟩
 | .ifc t cs,_,h=>by
  simp only [CRep,Rep] at h ⊢
  obtain ⟨vs,h1,h3⟩:=h
  exact ⟨vs,h1,go h3⟩
where
 go:∀ {as:List AV} {xs:List Value},CRepL w E.G as xs→RepL E w as xs
 | [],[],_=>by simp [RepL]
 | a::as,x::xs,h=>by simp only [CRepL,RepL] at h ⊢;exact ⟨Rep.of_c h.1,go h.2⟩
 | [],_::_,h=>by simp [CRepL] at h
 | _::_,[],h=>by simp [CRepL] at h
end Go.AM
namespace Go.AM
open Go
def getM (M:List (Nat×AO)) (b:Nat):AO :=
 match M with
 | []=>.dead
 | (k,o)::r=>if k=b then o else getM r b
def setM (M:List (Nat×AO)) (b:Nat) (o:AO):List (Nat×AO) :=
 match M with
 | []=>[(b,o)]
 | (k,p)::r=>if k=b then (k,o)::r else (k,p)::setM r b o
def updM (M:Nat→AO) (u:List (Nat×AO)) (b:Nat):AO :=
 match u with
 | []=>M b
 | (k,o)::r=>if k=b then o else updM M r b
theorem getM_setM (M:List (Nat×AO)) (b k:Nat) (o:AO):getM (setM M b o) k=if b=k then o else getM M k:=by
 induction M with
 | nil=>simp [setM,getM]
 | cons x r ih =>
  obtain ⟨a,p⟩:=x
  simp only [setM]
  split
  ·rename_i h;subst h;simp only [getM];split<;>rfl
  ·rename_i h
   simp only [getM,ih]
   split
   ·rename_i h';subst h';rw [if_neg (Ne.symm h)]
   ·rfl
def Env.upd (E:Env) (b v:Nat) (l:Option (Nat×Nat×Nat)):Env :=
 {G:=E.G,alive:=fun k=>E.alive k∨k=b,ver:=fun k=>if k=b then v else E.ver k,loc:=fun k=>if k=b then l else E.loc k }
structure StepTo (w0:World) (bl:Bk) (E:Env) (w:World) (upd:List (Nat×AO)) (E':Env) (w':World):Prop where
 le:E.Le E'
 inv:Inv w0 bl E' w'
 size:w.heap.size≤w'.heap.size
 keep:∀ k,k<w.heap.size→(∀ b base sz,E.alive b→b∈upd.map (·.1)→E.loc b≠some (k,base,sz))→w'.heap[k]?=w.heap[k]?
 alive:∀ b,E'.alive b→E.alive b∨b∈upd.map (·.1)
 same:∀ b,E.alive b→b ∉ upd.map (·.1)→E'.ver b=E.ver b∧E'.loc b=E.loc b
 objs:∀ b o,(b,o)∈upd→E'.alive b∧ObjRep E' w' b o
def MemOK (E:Env) (w:World) (M:Nat→AO):Prop:=∀ b,E.alive b→ObjRep E w b (M b)
theorem Inv.keepG {w0:World} {bl:Bk} {E:Env} {w:World} (h:Inv w0 bl E w) {upd:List (Nat×AO)} {E':Env} {w':World} (st:StepTo w0 bl E w upd E' w') (k:Nat) (hk:E.G k):w'.heap[k]?=w.heap[k]? :=
 st.keep k (h.good k hk) fun b base sz hb _ hl=>(h.locs b k base sz hb hl).2.1 hk
theorem StepTo.rep {w0:World} {bl:Bk} {E:Env} {w:World} {upd:List (Nat×AO)} {E':Env} {w':World} (st:StepTo w0 bl E w upd E' w') (h:Inv w0 bl E w) {a:AV} {x:Value} (hr:Rep E w a x):Rep E' w' a x :=
 hr.mono st.le (h.keepG st)
theorem updM_mem {M:Nat→AO} {u:List (Nat×AO)} {b:Nat} (h:b∈u.map (·.1)):(b,updM M u b)∈u:=by
 induction u with
 | nil=>simp at h
 | cons x r ih =>
  obtain ⟨k,o⟩:=x
  simp only [updM]
  split
  ·rename_i e;subst e;simp
  ·rename_i e
   simp only [List.map_cons,List.mem_cons] at h
   rcases h with h|h
   ·exact absurd h.symm e
   ·exact List.mem_cons_of_mem _ (ih h)
theorem updM_not {M:Nat→AO} {u:List (Nat×AO)} {b:Nat} (h:b ∉ u.map (·.1)):updM M u b=M b:=by
 induction u with
 | nil=>rfl
 | cons x r ih =>
  obtain ⟨k,o⟩:=x
  simp only [List.map_cons,List.mem_cons,not_or] at h
  simp only [updM]
  rw [if_neg (fun e=>h.1 e.symm)]
  exact ih h.2
theorem StepTo.obj {w0:World} {bl:Bk} {E:Env} {w:World} {upd:List (Nat×AO)} {E':Env} {w':World} (st:StepTo w0 bl E w upd E' w') (h:Inv w0 bl E w) {b:Nat} {o:AO}
  (hb:E.alive b) (hn:b ∉ upd.map (·.1)) (ho:ObjRep E w b o):ObjRep E' w' b o:=by
 have hs:=st.same b hb hn
 refine ho.mono st.le (h.keepG st) hs.1 hs.2 fun blk base sz hl=>?_
 refine st.keep blk (h.locs b blk base sz hb hl).1 fun b' base' sz' hb' hm hl'=>?_
 have:=h.apart b b' blk base sz base' sz' hb hb' hl hl'
 subst this
 exact hn hm
theorem StepTo.mem {w0:World} {bl:Bk} {E:Env} {w:World} {upd:List (Nat×AO)} {E':Env} {w':World} (st:StepTo w0 bl E w upd E' w') (h:Inv w0 bl E w) {M:Nat→AO}
  (hM:MemOK E w M):MemOK E' w' (updM M upd):=by
 intro b hb
 by_cases hn:b∈upd.map (·.1)
 ·exact (st.objs b _ (updM_mem hn)).2
 ·rw [updM_not hn]
  rcases st.alive b hb with h1|h1
  ·exact st.obj h h1 hn (hM b h1)
  ·exact absurd h1 hn
theorem StepTo.refl {w0:World} {bl:Bk} {E:Env} {w w':World} (h:Inv w0 bl E w) (h1:w'.heap=w.heap) (h2:w'.os=w.os) (h3:w'.output=w.output):StepTo w0 bl E w [] E w' where
 le:=Env.Le.refl E
 inv:=⟨⟨h2.trans h.frame.os,h3.trans h.frame.out,by rw [h1];exact h.frame.size,fun k a b=>by rw [h1];exact h.frame.old k a b⟩,h.gin,h.low,h.gout,fun k hk=>by rw [h1];exact h.good k hk,fun b blk base sz a c=>by rw [h1];exact h.locs b blk base sz a c,h.apart⟩
 size:=by rw [h1];exact Nat.le_refl _
 keep:=fun k _ _=>by rw [h1]
 alive:=fun b hb=>.inl hb
 same:=fun b _ _=>⟨rfl,rfl⟩
 objs:=fun b o h=>by simp at h
theorem Env.le_upd {E:Env} {b v':Nat} {l':Option (Nat×Nat×Nat)} (hb:E.alive b→(v'=E.ver b∧l'=E.loc b)∨(1≤E.ver b∧E.ver b<v')):E.Le (E.upd b v' l') :=
 ⟨fun k hk=>hk,fun k hk=>.inl hk,fun k hk=>by
  by_cases e:k=b
  ·subst e;simpa [Env.upd] using hb hk
  ·exact .inl (by simp [Env.upd,e])⟩
theorem StepTo.one {w0:World} {bl:Bk} {E:Env} {w w':World} (h:Inv w0 bl E w) (b:Nat) (o:AO) (v':Nat) (l':Option (Nat×Nat×Nat))
  (hb:E.alive b→(v'=E.ver b∧l'=E.loc b)∨(1≤E.ver b∧E.ver b<v'))
  (hl:∀ blk base sz,l'=some (blk,base,sz)→(∃ base0 sz0,E.alive b∧E.loc b=some (blk,base0,sz0))∨(w.heap.size≤blk∧blk<w'.heap.size))
  (hsz:w.heap.size≤w'.heap.size) (hos:w'.os=w.os) (hout:w'.output=w.output)
  (hkeep:∀ k,k<w.heap.size→(∀ base sz,E.alive b→E.loc b≠some (k,base,sz))→w'.heap[k]?=w.heap[k]?)
  (hobj:ObjRep (E.upd b v' l') w' b o):StepTo w0 bl E w [(b,o)] (E.upd b v' l') w':=by
 have hle:E.Le (E.upd b v' l'):=Env.le_upd hb
 refine ⟨hle,⟨⟨hos.trans h.frame.os,hout.trans h.frame.out,Nat.le_trans h.frame.size hsz,fun k h1 h2=>?_⟩,h.gin.trans hle,h.low,h.gout,fun k hk=>Nat.lt_of_lt_of_le (h.good k hk) hsz,?_,?_⟩,hsz,?_,?_,?_,?_⟩
 ·rw [hkeep k (by have:=h.frame.size;omega) fun base sz h3 h4=>?_]
  ·exact h.frame.old k h1 h2
  ·have:=(h.locs b k base sz h3 h4).2.2
   rcases this with h5|h5
   ·omega
   ·exact h2 h5
 ·intro k blk base sz hk hlk
  by_cases e:k=b
  ·subst e
   simp only [Env.upd,if_true] at hlk
   rcases hl blk base sz hlk with ⟨base0,sz0,h1,h2⟩|⟨h1,h2⟩
   ·have h3:=h.locs k blk base0 sz0 h1 h2
    exact ⟨by omega,h3.2.1,h3.2.2⟩
   ·exact ⟨h2,fun hg=>by have:=h.good blk hg;omega,.inl (by have:=h.frame.size;omega)⟩
  ·simp only [Env.upd,e,if_false,or_false] at hlk hk
   have h3:=h.locs k blk base sz hk hlk
   exact ⟨by omega,h3.2.1,h3.2.2⟩
 ·intro k k' blk base sz base' sz' hk hk' hlk hlk'
  have key:∀ j base1 sz1,E.alive j→E.loc j=some (blk,base1,sz1)→j≠b→∀ base2 sz2,l'=some (blk,base2,sz2)→False:=fun j base1 sz1 h1 h2 h3 base2 sz2 h4=>by
   rcases hl blk base2 sz2 h4 with ⟨base0,sz0,h5,h6⟩|⟨h5,h6⟩
   ·exact h3 (h.apart j b blk _ _ _ _ h1 h5 h2 h6)
   ·have:=(h.locs j blk base1 sz1 h1 h2).1;omega
  by_cases e:k=b<;>by_cases e':k'=b
  ·rw [e,e']
  ·subst e
   simp only [Env.upd,if_true,e',if_false,or_false] at hlk hlk' hk'
   exact (key k' base' sz' hk' hlk' e' base sz hlk).elim
  ·subst e'
   simp only [Env.upd,if_true,e,if_false,or_false] at hlk hlk' hk
   exact (key k base sz hk hlk e base' sz' hlk').elim
  ·simp only [Env.upd,e,e',if_false,or_false] at hlk hlk' hk hk'
   exact h.apart k k' blk base sz base' sz' hk hk' hlk hlk'
 ·intro k hk hn
  exact hkeep k hk fun base sz h1 h2=>hn b base sz h1 (by simp) h2
 ·intro k hk
  rcases hk with hk|hk
  ·exact .inl hk
  ·exact .inr (by simp [hk])
 ·intro k hk hn
  have:k≠b:=by simpa using hn
  simp [Env.upd,this]
 ·intro k p hkp
  simp only [List.mem_singleton,Prod.mk.injEq] at hkp
  obtain ⟨rfl,rfl⟩:=hkp
  exact ⟨.inr rfl,hobj⟩
theorem StepTo.alloc {w0:World} {bl:Bk} {E:Env} {w:World} (h:Inv w0 bl E w) (b:Nat) (o:AO) (v' base:Nat) (c:Array Value) (t:TypeId) (hb:¬ E.alive b)
  (hobj:ObjRep (E.upd b v' (some (w.heap.size,base,c.size))) (w.alloc (.cells c t)) b o):StepTo w0 bl E w [(b,o)] (E.upd b v' (some (w.heap.size,base,c.size))) (w.alloc (.cells c t)):=by
 refine StepTo.one h b o v' _ (fun hh=>absurd hh hb) (fun blk base' sz e=>?_) (by simp) rfl rfl (fun k hk _=>heap_alloc_old w _ k hk) hobj
 ·simp only [Option.some.injEq,Prod.mk.injEq] at e
  exact .inr ⟨by omega,by simp;omega⟩
theorem StepTo.none {w0:World} {bl:Bk} {E:Env} {w:World} (h:Inv w0 bl E w) (b s:Nat) (hb:¬ E.alive b) (f:Bool:=true):StepTo w0 bl E w [(b,.vec 1 s f [])] (E.upd b 1 none) w:=by
 refine StepTo.one h b _ 1 Option.none (fun hh=>absurd hh hb) (fun blk base' sz e=>by simp at e) (Nat.le_refl _) rfl rfl (fun k hk _=>rfl) ?_
 simp [ObjRep,Env.upd]
theorem StepTo.write {w0:World} {bl:Bk} {E:Env} {w:World} (h:Inv w0 bl E w) (b:Nat) (o:AO) (v' blk base base' sz sz':Nat) (c c':Array Value) (t:TypeId) (hb:E.alive b)
  (hl:E.loc b=some (blk,base,sz)) (hc:w.heap[blk]?=some (.cells c t (0,0)))
  (hv:(v'=E.ver b∧base'=base∧sz'=sz)∨(1≤E.ver b∧E.ver b<v'))
  (hobj:ObjRep (E.upd b v' (some (blk,base',sz'))) (w.setRow blk c') b o):StepTo w0 bl E w [(b,o)] (E.upd b v' (some (blk,base',sz'))) (w.setRow blk c'):=by
 have hblk:blk<w.heap.size:=(Array.getElem?_eq_some_iff.1 hc).1
 refine StepTo.one h b o v' _ (fun _=>?_) (fun blk' base'' sz2 e=>?_) (by simp) rfl rfl (fun k hk hn=>setRow_other w blk k c' fun e=>?_) hobj
 ·rcases hv with ⟨h1,h2,h3⟩|h1
  ·exact .inl ⟨h1,by rw [h2,h3,hl]⟩
  ·exact .inr h1
 ·simp only [Option.some.injEq,Prod.mk.injEq] at e
  exact .inl ⟨base,sz,hb,by rw [hl,e.1]⟩
 ·subst e;exact hn base sz hb hl
theorem CCells.get {w:World} {G:Nat→Prop} {blk:Nat}:∀ {cs:List AV} {off j:Nat} {a:AV},CCells w G blk off cs→cs[j]?=some a→∃ x,w.cell? ⟨blk,off+j,none⟩=some x∧x.oneCell'=true∧CRep w G a x
 | [],off,j,a,_,e=>by simp at e
 | b::r,off,0,a,h,e=>by simp only [CCells] at h;simp at e;subst e;simpa using h.1
 | b::r,off,j+1,a,h,e=>by
  simp only [CCells] at h
  simp at e
  have:=CCells.get (j:=j) h.2 e
  rwa [Nat.add_right_comm,Nat.add_assoc] at this
theorem CCells.of_get {w:World} {G:Nat→Prop} {blk:Nat}:∀ {cs:List AV} {off:Nat},(∀ j a,cs[j]?=some a→∃ x,w.cell? ⟨blk,off+j,none⟩=some x∧x.oneCell'=true∧CRep w G a x)→CCells w G blk off cs
 | [],off,_=>by simp [CCells]
 | b::r,off,h=>by
  simp only [CCells]
  refine ⟨by simpa using h 0 b (by simp),CCells.of_get fun j a e=>?_⟩
  have:=h (j+1) a (by simpa using e)
  rwa [Nat.add_right_comm off 1 j,Nat.add_assoc]
theorem CRows.len {w:World} {G:Nat→Prop} {s blk:Nat}:∀ {xs:List (List AV)} {off:Nat},CRows w G s blk off xs→∀ e∈xs,e.length=s
 | [],off,_=>by simp
 | b::r,off,h=>by
  simp only [CRows] at h
  intro e he
  rcases List.mem_cons.1 he with rfl|he
  ·exact h.1
  ·exact CRows.len h.2.2 e he
theorem CRows.get {w:World} {G:Nat→Prop} {s blk:Nat}:∀ {xs:List (List AV)} {off i:Nat} {e:List AV},CRows w G s blk off xs→xs[i]?=some e→e.length=s∧CCells w G blk (off+i*s) e
 | [],off,i,a,_,e=>by simp at e
 | b::r,off,0,a,h,e=>by simp only [CRows] at h;simp at e;subst e;simpa using ⟨h.1,h.2.1⟩
 | b::r,off,i+1,a,h,e=>by
  simp only [CRows] at h
  simp at e
  have:=CRows.get (i:=i) h.2.2 e
  rw [show off+(i+1)*s=off+s+i*s from by rw [Nat.add_mul];omega]
  exact this
theorem CRows.of_get {w:World} {G:Nat→Prop} {s blk:Nat}:∀ {xs:List (List AV)} {off:Nat},(∀ i e,xs[i]?=some e→e.length=s∧CCells w G blk (off+i*s) e)→CRows w G s blk off xs
 | [],off,_=>by simp [CRows]
 | b::r,off,h=>by
  simp only [CRows]
  have h0:=h 0 b (by simp)
  refine ⟨h0.1,by simpa using h0.2,CRows.of_get fun i e he=>?_⟩
  have:=h (i+1) e (by simpa using he)
  rw [show off+s+i*s=off+(i+1)*s from by rw [Nat.add_mul];omega]
  exact this
theorem CCells.vals {w:World} {G:Nat→Prop} {blk:Nat}:∀ {cs:List AV} {off:Nat},CCells w G blk off cs →
  ∃ vs:List Value,vs.length=cs.length∧CRepL w G cs vs∧(∀ y∈vs,y.oneCell'=true)∧∀ j v,vs[j]?=some v→w.cell? ⟨blk,off+j,none⟩=some v
 | [],off,_=>⟨[],by simp [CRepL]⟩
 | b::r,off,h=>by
  simp only [CCells] at h
  obtain ⟨⟨x,h1,h2,h3⟩,h4⟩:=h
  obtain ⟨vs,k1,k2,k3,k4⟩:=CCells.vals h4
  refine ⟨x::vs,by simp [k1],by simp [CRepL,h3,k2],by simp [h2];exact k3,fun j v e=>?_⟩
  cases j with
  | zero=>simp at e;subst e;simpa using h1
  | succ j=>simp at e;have:=k4 j v e;rwa [Nat.add_right_comm,Nat.add_assoc] at this
theorem add_plain (blk off i:Nat):(⟨blk,off,none⟩:Addr).add i=⟨blk,off+i,none⟩:=by
 unfold Addr.add
 split
 ·rename_i h;simp [h]
 ·rfl
theorem StepTo.retell {w0:World} {bl:Bk} {E:Env} {w:World} (h:Inv w0 bl E w) {b:Nat} {o:AO} (hb:E.alive b) (ho:ObjRep E w b o):StepTo w0 bl E w [(b,o)] E w where
 le:=Env.Le.refl E
 inv:=h
 size:=Nat.le_refl _
 keep:=fun _ _ _=>rfl
 alive:=fun _ hb=>.inl hb
 same:=fun _ _ _=>⟨rfl,rfl⟩
 objs:=fun k p hkp=>by
  simp only [List.mem_singleton,Prod.mk.injEq] at hkp
  obtain ⟨rfl,rfl⟩:=hkp
  exact ⟨hb,ho⟩
end Go.AM
