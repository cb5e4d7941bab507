/- A part of the proof: what functions of the program compute, by abstract execution of their code. Its theorems hold without further condition. -/
import Derived.Test.YtcfhmdljeeppfaaAmJ
set_option linter.all false
namespace Go.AM
open Go
structure Cx where
 P:Program
 X:AX
 N:Nat
 w0:World
 bl:Bk
structure Cx.OK (c:Cx):Prop where
 x:XOK c.P c.X
 mixed:c.P.follows .mixedOrders=true
def AW (c:Cx) (k:Code) (st:St) (Q:Exit→St→Prop):Prop :=
 ∀ a w,Sat c.N c.w0 c.bl a w st→k.wp c.P (fun e a' w'=>∃ st',Q e st'∧Sat c.N c.w0 c.bl a' w' st') a w
def Le (n:Nat) (st st':St):Prop:=∀ N w0 bl a w,bl.n=n→Sat N w0 bl a w st→Sat N w0 bl a w st'
theorem Le.refl (n:Nat) (st:St):Le n st st:=fun _ _ _ _ _ _ h=>h
theorem Le.trans {n:Nat} {a b c:St} (h:Le n a b) (k:Le n b c):Le n a c:=fun _ _ _ _ _ e s=>k _ _ _ _ _ e (h _ _ _ _ _ e s)
section
variable {c:Cx} {st:St} {Q:Exit→St→Prop}
theorem aw_skip (h:Q .normal st):AW c .skip st Q:=fun _ _ hs=>wp_skip ⟨st,h,hs⟩
theorem aw_exit {id:Nat} (h:Q (.exit id) st):AW c (.exit id) st Q:=fun _ _ hs=>wp_exit ⟨st,h,hs⟩
theorem aw_ret (h:Q .ret st):AW c .ret st Q:=fun _ _ hs=>wp_ret ⟨st,h,hs⟩
def thenQ (N:St→Prop) (Q:Exit→St→Prop):Exit→St→Prop
 | .normal,st=>N st
 | e,st=>Q e st
theorem aw_mono {k:Code} {Q':Exit→St→Prop} (h:AW c k st Q) (hq:∀ e st,Q e st→Q' e st):AW c k st Q':=fun a w hs =>
 wp_mono (h a w hs) fun e _ _ ⟨st',h1,h2⟩=>⟨st',hq e st' h1,h2⟩
theorem aw_seq {x y:Code} (h:AW c x st (thenQ (fun st'=>AW c y st' Q) Q)):AW c (.seq x y) st Q:=fun a w hs =>
 wp_seq (wp_mono (h a w hs) fun e _ _ ⟨st',h1,h2⟩=>by
  cases e<;>first|exact h1 _ _ h2|exact ⟨st',h1,h2⟩)
theorem aw_seq_k {x y:Code} (h:∀ K:St→Prop,(∀ st',AW c y st' Q→K st')→AW c x st (thenQ K Q)):AW c (.seq x y) st Q:=aw_seq (h _ fun _ h=>h)
theorem aw_region {id:Nat} {ops:Array Oper} {d:Bool} (hc:c.OK) (hO:d=true→ordB c.X ops=true)
  (h:∃ st',aregion (Types c.P) c.X c.N ops st=some st'∧Q .normal st'):AW c (.region id ops d) st Q:=fun a w hs=>by
 obtain ⟨st',h1,h2⟩:=h
 cases d
 ·exact region_ordered hc.x hs h1 fun a' w' hs'=>⟨st',h2,hs'⟩
 ·exact region_drawn hc.x hc.mixed hs (hO rfl) h1 fun a' w' hs'=>⟨st',h2,hs'⟩
theorem aw_cond {o:Operand} {x y:Code} {b:Bool} (hb:aEv st.s o=.v (.bool b)) (ht:b=true→AW c x st Q) (hf:b=false→AW c y st Q):AW c (.cond o x y) st Q:=fun a w hs=>by
 have he:a.eval o=.bool b:=by
  obtain ⟨E,h1,_⟩:=hs
  have:=h1.eval o
  rw [← aEv_eq,hb] at this
  simpa only [Rep,CRep] using this
 exact wp_cond_split he (fun h=>ht h a w hs) (fun h=>hf h a w hs)
def blockQ (id:Nat) (Q:Exit→St→Prop):Exit→St→Prop
 | .exit id',st=>if id'=id then Q .normal st else Q (.exit id') st
 | e,st=>Q e st
theorem aw_block {id:Nat} {x:Code} (h:AW c x st (blockQ id Q)):AW c (.block id x) st Q:=fun a w hs =>
  wp_block (wp_mono (h a w hs) fun e a' w' ⟨st',h1,h2⟩=>by
    cases e<;>first
      | exact ⟨st',h1,h2⟩
      | (simp only [blockQ] at h1
         simp only [Exit.inBlock]
         split at h1
         · rename_i e;rw [if_pos e];exact ⟨st',h1,h2⟩
         · rename_i e;rw [if_neg e];exact ⟨st',h1,h2⟩))
theorem aw_weaken {k:Code} {st':St} (hl:Le c.bl.n st st') (h:AW c k st' Q):AW c k st Q:=fun a w hs=>h a w (hl _ _ _ _ _ rfl hs)
theorem least {p:Nat→Prop} (h:∃ n,p n):∃ n,p n∧∀ m,p m→n≤m:=by
 obtain ⟨n,hn⟩:=h
 induction n using Nat.strongRecOn with
 | _ n ih =>
  by_cases hh:∃ m,m<n∧p m
  ·obtain ⟨m,h1,h2⟩:=hh;exact ih m h1 h2
  ·exact ⟨n,hn,fun m hm=>Nat.le_of_not_lt fun hlt=>hh ⟨m,hlt,hm⟩⟩
open Classical in
theorem aw_loop {ι:Type} (S:ι→St) (μ:ι→Nat) (i0:ι) {x:Code} (h0:Le c.bl.n st (S i0))
  (round:∀ i,AW c x (S i) (thenQ (fun st'=>∃ i',Le c.bl.n st' (S i')∧μ i'<μ i) Q)):AW c (.loop x) st Q:=fun a w hs=>by
 let I:Act→World→Prop:=fun a w=>∃ i,Sat c.N c.w0 c.bl a w (S i)
 let M:Act→World→Nat:=fun a w=>if h:∃ n,∃ i,Sat c.N c.w0 c.bl a w (S i)∧μ i=n then (least h).choose else 0
 refine wp_loop I M ⟨i0,h0 _ _ _ _ _ rfl hs⟩ fun a w hI=>?_
 have hex:∃ n,∃ i,Sat c.N c.w0 c.bl a w (S i)∧μ i=n:=let ⟨i,hi⟩:=hI;⟨μ i,i,hi,rfl⟩
 have hM:M a w=(least hex).choose:=dif_pos hex
 obtain ⟨⟨i,hi,hmu⟩,hmin⟩:=(least hex).choose_spec
 refine wp_mono (round i a w hi) fun e a' w' ⟨st',h1,h2⟩=>?_
 cases e
 case normal =>
  obtain ⟨i',k1,k2⟩:=h1
  have hs':=k1 _ _ _ _ _ rfl h2
  refine ⟨⟨i',hs'⟩,?_⟩
  have hex':∃ n,∃ i,Sat c.N c.w0 c.bl a' w' (S i)∧μ i=n:=⟨μ i',i',hs',rfl⟩
  have hM':M a' w'=(least hex').choose:=dif_pos hex'
  rw [hM,hM',← hmu]
  have:=(least hex').choose_spec.2 _ ⟨i',hs',rfl⟩
  omega
 all_goals exact ⟨st',h1,h2⟩
end
mutual
def AV.under (n:Nat):AV→Prop
 | .bp b _|.sl b _ _ _ _|.ep b _ _ _ _|.bs b _ _ _|.mp b _=>b<n
 | .agg cs|.tup cs|.fn _ cs|.ifc _ cs=>AV.underL n cs
 | _=>True
def AV.underL (n:Nat):List AV→Prop
 | []=>True
 | a::r=>a.under n∧AV.underL n r
end
def AO.under (n:Nat):AO→Prop
 | .box cs=>AV.underL n cs
 | .vo _ _ _ _ e=>AV.underL n e
 | _=>True
def Env.trim (E:Env) (n:Nat):Env:={ E with alive:=fun b=>E.alive b∧b<n }
mutual
theorem Rep.trim {E:Env} {w:World} {n:Nat}:∀ {a:AV} {x:Value},a.under n→Rep E w a x→Rep (E.trim n) w a x
 | .bp b o,x,hb,h=>by simp only [Rep,AV.under] at h hb ⊢;exact ⟨⟨h.1,hb⟩,h.2⟩
 | .bs b o s k,x,hb,h=>by simp only [Rep,AV.under] at h hb ⊢;exact ⟨⟨h.1,hb⟩,h.2⟩
 | .mp b m,x,hb,h=>by simp only [Rep,AV.under] at h hb ⊢;exact ⟨⟨h.1,hb⟩,h.2⟩
 | .rm ..,_,_,h=>by simp only [Rep] at h ⊢;exact h
 | .om ..,_,_,h=>by simp only [Rep] at h ⊢;exact h
 | .sl b m s o k,x,hb,h=>by simp only [Rep,AV.under] at h hb ⊢;exact ⟨⟨h.1,hb⟩,h.2⟩
 | .ep b m s i j,x,hb,h=>by simp only [Rep,AV.under] at h hb ⊢;exact ⟨⟨h.1,hb⟩,h.2⟩
 | .agg cs,_,hb,h=>by
  simp only [Rep,AV.under] at h hb ⊢
  obtain ⟨vs,h1,h2,h3⟩:=h
  exact ⟨vs,h1,h2,RepL.trim hb h3⟩
 | .tup cs,_,hb,h=>by
  simp only [Rep,AV.under] at h hb ⊢
  obtain ⟨vs,h1,h3⟩:=h
  exact ⟨vs,h1,RepL.trim hb h3⟩
 | .fn f cs,_,hb,h=>by
  simp only [Rep,AV.under] at h hb ⊢
  obtain ⟨vs,h1,h3⟩:=h
  exact ⟨vs,h1,RepL.trim hb h3⟩
 | .ifc f cs,_,hb,h=>by
  simp only [Rep,AV.under] at h hb ⊢
  obtain ⟨vs,h1,h3⟩:=h
  exact ⟨vs,h1,RepL.trim hb h3⟩
 | .any,_,_,h=>by simp only [Rep] at h ⊢;exact h
 | .v _,_,_,h=>by simp only [Rep] at h ⊢;exact h
 | .rd ..,_,_,h=>by simp only [Rep] at h ⊢;exact h
 | .ow ..,_,_,h=>by simp only [Rep] at h ⊢;exact h
 | .rp ..,_,_,h=>by simp only [Rep] at h ⊢;exact h
 | .rf ..,_,_,h=>by simp only [Rep] at h ⊢;exact h
theorem RepL.trim {E:Env} {w:World} {n:Nat}:∀ {as:List AV} {xs:List Value},AV.underL n as→RepL E w as xs→RepL (E.trim n) w as xs
 | [],[],_,_=>by simp [RepL]
 | a::as,x::xs,hb,h=>by
  simp only [RepL,AV.underL] at h hb ⊢
  exact ⟨Rep.trim hb.1 h.1,RepL.trim hb.2 h.2⟩
 | [],_::_,_,h=>by simp [RepL] at h
 | _::_,[],_,h=>by simp [RepL] at h
end
theorem ObjRep.trim {E:Env} {w:World} {n b:Nat}:∀ {o:AO},o.under n→ObjRep E w b o→ObjRep (E.trim n) w b o
 | .dead,_,_=>trivial
 | .vec ..,_,h=>h
 | .map ..,_,h=>h
 | .vo m s xs k e,hb,h=>by
  simp only [ObjRep,AO.under] at h hb ⊢
  obtain ⟨h1,h2,kk,ke,blk,base,sz,c,t,vs,hl,k4,k5,k5',k6,k7,k8,k9⟩:=h
  exact ⟨h1,h2,kk,ke,blk,base,sz,c,t,vs,hl,k4,k5,k5',k6,k7,k8.trim hb,k9⟩
 | .box cs,hb,h=>by
  simp only [ObjRep,AO.under] at h hb ⊢
  obtain ⟨h1,blk,t,vs,h2,h3,h4,h5⟩:=h
  exact ⟨h1,blk,t,vs,h2,h3,h4,h5.trim hb⟩
def AVle (a a':AV):Prop:=a'=.any∨a'=a∨(a=.v (.slice none 0 0)∧∃ s,a'=.rd s [])
theorem AVle.rep {E:Env} {w:World} {a a':AV} {x:Value} (h:AVle a a') (hr:Rep E w a x):Rep E w a' x:=by
 rcases h with rfl|rfl|⟨rfl,s,rfl⟩
 ·simp [Rep,CRep]
 ·exact hr
 ·simp only [Rep,CRep] at hr ⊢
  subst hr
  exact ⟨none,0,rfl,by simp,fun _=>rfl,.inl trivial⟩
def AVleL:List AV→List AV→Prop
 | [],[]=>True
 | a::r,b::s=>AVle a b∧AVleL r s
 | _,_=>False
theorem AVleL.rep {E:Env} {w:World}:∀ {as bs:List AV} {xs:List Value},AVleL as bs→RepL E w as xs→RepL E w bs xs
 | [],[],[],_,_=>by simp [RepL]
 | a::as,b::bs,x::xs,h,k=>by simp only [RepL,AVleL] at h k ⊢;exact ⟨h.1.rep k.1,AVleL.rep h.2 k.2⟩
 | [],[],_::_,_,h=>by simp [RepL] at h
 | _::_,_::_,[],_,h=>by simp [RepL] at h
 | [],_::_,_,h,_=>by simp [AVleL] at h
 | _::_,[],_,h,_=>by simp [AVleL] at h
def AOle (o o':AO):Prop:=o'=.dead∨o'=o∨∃ cs cs',o=.box cs∧o'=.box cs'∧AVleL cs cs'
theorem AOle.rep {E:Env} {w:World} {b:Nat} {o o':AO} (h:AOle o o') (hr:ObjRep E w b o):ObjRep E w b o':=by
 rcases h with rfl|rfl|⟨cs,cs',rfl,rfl,h⟩
 ·trivial
 ·exact hr
 ·simp only [ObjRep] at hr ⊢
  obtain ⟨h1,blk,t,vs,h2,h3,h4,h5⟩:=hr
  exact ⟨h1,blk,t,vs,h2,h3,h4,h.rep h5⟩
theorem getS_mem {s:List (Nat×AV)} {t:Nat}:getS s t=.any∨∃ p∈s,p.1=t∧p.2=getS s t:=by
 induction s with
 | nil=>exact .inl rfl
 | cons p r ih =>
  obtain ⟨k,a⟩:=p
  simp only [getS]
  split
  ·rename_i e;exact .inr ⟨(k,a),by simp,e,rfl⟩
  ·rcases ih with h|⟨p,h1,h2⟩
   ·exact .inl h
   ·exact .inr ⟨p,by simp [h1],h2⟩
theorem getM_mem {m:List (Nat×AO)} {t:Nat}:getM m t=.dead∨∃ p∈m,p.1=t∧p.2=getM m t:=by
 induction m with
 | nil=>exact .inl rfl
 | cons p r ih =>
  obtain ⟨k,a⟩:=p
  simp only [getM]
  split
  ·rename_i e;exact .inr ⟨(k,a),by simp,e,rfl⟩
  ·rcases ih with h|⟨p,h1,h2⟩
   ·exact .inl h
   ·exact .inr ⟨p,by simp [h1],h2⟩
theorem le_of {n:Nat} {s s':List (Nat×AV)} {m m':List (Nat×AO)} {nx nx':Nat} (hn:n≤nx') (hs:∀ p∈s',AVle (getS s p.1) p.2∧p.2.under nx') (hm:∀ p∈m',AOle (getM m p.1) p.2∧p.2.under nx'∧p.1<nx') :
  Le n ⟨s,m,nx⟩ ⟨s',m',nx'⟩:=fun N w0 bl a w hbn ⟨E,h,h1,h2⟩=>by
 refine ⟨E.trim nx',⟨h.defers,h.size,⟨h.inv.frame,⟨h.inv.gin.G,fun b hb=>⟨h.inv.gin.alive b hb,by have:=h.inv.low b hb;omega⟩,h.inv.gin.same⟩,h.inv.low,h.inv.gout,h.inv.good,fun b blk base sz hb=>h.inv.locs b blk base sz hb.1,fun b b' blk base sz base' sz' hb hb'=>h.inv.apart b b' blk base sz base' sz' hb.1 hb'.1⟩,fun b hb=>?_,fun t=>?_⟩,fun k hk=>hk.2,fun k hk=>?_⟩
 ·rcases getM_mem (m:=m') (t:=b) with e|⟨p,hp,rfl,e⟩
  ·rw [e];trivial
  ·have:=hm p hp
   rw [← e]
   exact (this.1.rep (h.mem _ hb.1)).trim this.2.1
 ·rcases getS_mem (s:=s') (t:=t) with e|⟨p,hp,rfl,e⟩
  ·rw [e];simp [Rep,CRep]
  ·have:=hs p hp
   rw [← e]
   exact (this.1.rep (h.slots _)).trim this.2
 ·rcases getM_mem (m:=m') (t:=k) with e|⟨p,hp,rfl,e⟩
  ·exact absurd e hk
  ·exact (hm p hp).2.2
def keepS (ks:List Nat) (s:List (Nat×AV)):List (Nat×AV):=ks.map fun k=>(k,getS s k)
theorem getS_keepS {ks:List Nat} {s:List (Nat×AV)} {t:Nat}:getS (keepS ks s) t=if t∈ks then getS s t else .any:=by
 induction ks with
 | nil=>rfl
 | cons k r ih =>
  simp only [keepS,List.map_cons,getS,List.mem_cons]
  by_cases e:k=t
  ·subst e;simp
  ·rw [if_neg e]
   simp only [keepS] at ih
   rw [ih]
   simp [Ne.symm e]
end Go.AM
namespace Go.AM
open Go
def OLeaf (w:World) (G:Nat→Prop):AV→Value→List Nat→Prop
 | .ow s xs,x,bl=>∃ p c,x=.slice p xs.length c∧xs.length≤c∧(p=none→c=0) ∧
   ((c=0∧bl=[])∨∃ blk base arr t,p=some ⟨blk,base,none⟩∧bl=[blk]∧w.heap[blk]?=some (.cells arr t (0,0))∧base+c*s≤arr.size∧(∀ y∈arr.toList,y.oneCell'=true)∧CRows w G s blk base xs)
 | .om n es,x,bl=>∃ blk ents clk,x=.map (some blk)∧bl=[blk]∧w.heap[blk]?=some (.map (List.toArray ents) clk)∧CEntB w G n es ents clk
 | a,x,bl=>bl=[]∧CRep w G a x
def OLeaves (w:World) (G:Nat→Prop):List AV→List Value→List Nat→Prop
 | [],[],bl=>bl=[]
 | a::as,x::xs,bl=>∃ b1 b2,bl=b1++b2∧OLeaf w G a x b1∧OLeaves w G as xs b2
 | _,_,_=>False
def OVal (w:World) (G:Nat→Prop):AV→Value→List Nat→Prop
 | .agg cs,x,bl=>∃ vs:List Value,x=.agg vs.toArray∧(∀ y∈vs,y.oneCell'=true)∧OLeaves w G cs vs bl
 | a,x,bl=>OLeaf w G a x bl
def OVals (w:World) (G:Nat→Prop):List AV→List Value→List Nat→Prop
 | [],[],bl=>bl=[]
 | a::as,x::xs,bl=>∃ b1 b2,bl=b1++b2∧OVal w G a x b1∧OVals w G as xs b2
 | _,_,_=>False
def ORet (w:World) (G:Nat→Prop):AV→Value→List Nat→Prop
 | .tup as,x,bl=>∃ vs:List Value,x=.tuple vs.toArray∧OVals w G as vs bl
 | a,x,bl=>OVal w G a x bl
def PSound (P:Program) (f:FuncId) (F:List AV→Option AV):Prop :=
 ∀ (w:World) (G:Nat→Prop) (args:Array Value) (avs:List AV) (r:AV),F avs=some r→(∀ k,G k→k<w.heap.size)→CRepL w G avs args.toList →
  Calls P f args w fun e w'=>∃ x G' bl,e=.returned x∧Frame w [] w'∧(∀ k,G k→G' k)∧(∀ k,G' k→k<w'.heap.size∧(G k∨w.heap.size≤k)) ∧
   ORet w' G' r x bl∧bl.Nodup∧∀ k∈bl,k<w'.heap.size∧¬ G' k∧w.heap.size≤k
def leaveLeaf (M:Nat→AO):AV→Option (AV×List Nat)
 | .sl b m s o n=>match M b with
  | .vec m' s' _ xs=>if m=m'∧s=s'∧o+n≤xs.length then some (.ow s ((xs.drop o).take n),[b]) else none
  | _=>none
 | .v x=>some (.v x,[])
 | .any=>some (.any,[])
 | .rd s xs=>some (.rd s xs,[])
 | .rp cs=>some (.rp cs,[])
 | .mp b m=>match M b with
  | .map m' n es=>if m=m' then some (.om n es,[b]) else none
  | _=>none
 | .rm n es=>some (.rm n es,[])
 | _=>none
def leaveLeaves (M:Nat→AO):List AV→Option (List AV×List Nat)
 | []=>some ([],[])
 | a::r=>match leaveLeaf M a,leaveLeaves M r with
  | some (x,i),some (xs,is)=>some (x::xs,i++is)
  | _,_=>none
def leaveVal (M:Nat→AO):AV→Option (AV×List Nat)
 | .agg cs=>match leaveLeaves M cs with
  | some (xs,is)=>some (.agg xs,is)
  | none=>none
 | a=>leaveLeaf M a
def leaveVals (M:Nat→AO):List AV→Option (List AV×List Nat)
 | []=>some ([],[])
 | a::r=>match leaveVal M a,leaveVals M r with
  | some (x,i),some (xs,is)=>some (x::xs,i++is)
  | _,_=>none
def Cov (E:Env) (ids bl:List Nat):Prop:=∃ js:List Nat,js.Sublist ids∧js.map (fun b=>(E.loc b).map (·.1))=bl.map some∧∀ b∈js,E.alive b
theorem Cov.nil {E:Env}:Cov E [] []:=⟨[],by simp,by simp,by simp⟩
theorem Cov.append {E:Env} {i j b c:List Nat} (h:Cov E i b) (k:Cov E j c):Cov E (i++j) (b++c):=by
 obtain ⟨x,h1,h2,h3⟩:=h
 obtain ⟨y,k1,k2,k3⟩:=k
 exact ⟨x++y,h1.append k1,by simp [h2,k2],fun b hb=>(List.mem_append.1 hb).elim (h3 b) (k3 b)⟩
theorem Cov.nodup {E:Env} {w0:World} {b0:Bk} {w:World} (hI:Inv w0 b0 E w) {ids bl:List Nat} (h:Cov E ids bl) (hn:ids.Nodup):bl.Nodup:=by
 obtain ⟨js,h1,h2,h3⟩:=h
 have hj:js.Nodup:=h1.nodup hn
 clear h1 hn
 induction js generalizing bl with
 | nil=>simp at h2;subst h2;simp
 | cons b js ih =>
  cases bl with
  | nil=>simp at h2
  | cons k bl =>
   simp only [List.map_cons,List.cons.injEq] at h2
   obtain ⟨e1,e2⟩:=h2
   have hjj:=List.nodup_cons.1 hj
   refine List.nodup_cons.2 ⟨fun hk=>?_,ih e2 (fun x hx=>h3 x (by simp [hx])) hjj.2⟩
   have:some k∈bl.map some:=List.mem_map.2 ⟨k,hk,rfl⟩
   rw [← e2] at this
   obtain ⟨b',hb',e3⟩:=List.mem_map.1 this
   cases hl:E.loc b<;>rw [hl] at e1<;>simp at e1
   rename_i l
   cases hl':E.loc b'<;>rw [hl'] at e3<;>simp at e3
   rename_i l'
   obtain ⟨x1,x2,x3⟩:=l
   obtain ⟨y1,y2,y3⟩:=l'
   simp only at e1 e3
   subst e1
   subst e3
   have:=hI.apart b b' y1 x2 x3 y2 y3 (h3 b (by simp)) (h3 b' (by simp [hb'])) hl hl'
   subst this
   exact hjj.1 hb'
theorem Cov.mem {E:Env} {ids bl:List Nat} (h:Cov E ids bl) {k:Nat} (hk:k∈bl):∃ b∈ids,∃ base sz,E.alive b∧E.loc b=some (k,base,sz):=by
 obtain ⟨js,h1,h2,h3⟩:=h
 have:some k∈bl.map some:=List.mem_map.2 ⟨k,hk,rfl⟩
 rw [← h2] at this
 obtain ⟨b,hb,e⟩:=List.mem_map.1 this
 cases hl:E.loc b<;>rw [hl] at e<;>simp at e
 rename_i l
 obtain ⟨x1,x2,x3⟩:=l
 simp only at e
 subst e
 exact ⟨b,h1.subset hb,x2,x3,h3 b hb,hl⟩
theorem leaveLeaf_ok {M:Nat→AO} {a r:AV} {ids:List Nat} {E:Env} {w:World} {x:Value} (h:leaveLeaf M a=some (r,ids)) (hr:Rep E w a x) (hM:MemOK E w M):∃ bl,OLeaf w E.G r x bl∧Cov E ids bl:=by
 unfold leaveLeaf at h
 cases a<;>simp only [reduceCtorEq] at h
 case sl b m s o n =>
  simp only [Rep] at hr
  obtain ⟨h1,h2,h3,p,c,rfl,h4,h4',h5⟩:=hr
  have ho:=hM b h1
  cases hb:M b<;>simp only [hb,reduceCtorEq] at h ho
  rename_i m' s' f xs
  split at h
  case isFalse=>simp at h
  rename_i hm
  obtain ⟨rfl,rfl,hle⟩:=hm
  simp only [Option.some.injEq,Prod.mk.injEq] at h
  obtain ⟨rfl,rfl⟩:=h
  simp only [ObjRep] at ho
  obtain ⟨k1,k2,k3⟩:=ho
  have hsl:=h5 k1.symm
  have hlen:((xs.drop o).take n).length=n:=by simp;omega
  by_cases hc:c=0
  ·exact ⟨[],by simp only [OLeaf];exact ⟨p,c,by rw [hlen],by omega,h4',.inl ⟨hc,trivial⟩⟩,⟨[],by simp,by simp,by simp⟩⟩
  ·cases hl:E.loc b with
   | none=>simp only [hl,SlAt] at hsl;exact absurd hsl.2 hc
   | some l =>
    obtain ⟨blk,base,sz⟩:=l
    simp only [hl,SlAt] at hsl k3
    obtain ⟨a,rfl,q1,q2⟩:=hsl
    obtain ⟨arr,t,k4,k5,k5',k6,k6',k7⟩:=k3
    rcases q1 with q1|rfl
    ·exact absurd q1 hc
    ·refine ⟨[blk],?_,⟨[b],by simp,by simp [hl],by simpa using h1⟩⟩
     simp only [OLeaf]
     refine ⟨_,c,by rw [hlen],by omega,h4',.inr ⟨blk,base+o*s,arr,t,rfl,rfl,k4,?_,k5',k7.sub o n⟩⟩
     have:(o+c)*s=o*s+c*s:=Nat.add_mul ..
     omega
 case mp b m =>
  simp only [Rep] at hr
  obtain ⟨h1,h2,_,blk,rfl,h3⟩:=hr
  have ho:=hM b h1
  cases hb:M b<;>simp only [hb,reduceCtorEq] at h ho
  split at h
  case isFalse=>simp at h
  rename_i hm
  subst hm
  simp only [Option.some.injEq,Prod.mk.injEq] at h
  obtain ⟨rfl,rfl⟩:=h
  simp only [ObjRep] at ho
  obtain ⟨hv,_,blk',ents,clk,k1,k2,k3⟩:=ho
  have h3:=h3 hv.symm
  rw [h3] at k1
  simp only [Option.some.injEq,Prod.mk.injEq,and_true] at k1
  subst k1
  exact ⟨[blk],by simp only [OLeaf];exact ⟨blk,ents,clk,rfl,rfl,k2,k3⟩,⟨[b],by simp,by simp [h3],by simpa using h1⟩⟩
 all_goals
  simp only [Option.some.injEq,Prod.mk.injEq] at h
  obtain ⟨rfl,rfl⟩:=h
  simp only [Rep] at hr
  exact ⟨[],by simp only [OLeaf];exact ⟨trivial,hr⟩,Cov.nil⟩
theorem leaveLeaves_ok {M:Nat→AO} {E:Env} {w:World} (hM:MemOK E w M):∀ {as rs:List AV} {ids:List Nat} {xs:List Value},leaveLeaves M as=some (rs,ids)→RepL E w as xs→∃ bl,OLeaves w E.G rs xs bl∧Cov E ids bl
 | [],rs,ids,[],h,_=>by
  simp only [leaveLeaves,Option.some.injEq,Prod.mk.injEq] at h
  obtain ⟨rfl,rfl⟩:=h
  exact ⟨[],by simp [OLeaves],Cov.nil⟩
 | a::as,rs,ids,x::xs,h,hr=>by
  simp only [RepL] at hr
  simp only [leaveLeaves] at h
  cases h1:leaveLeaf M a<;>simp only [h1,reduceCtorEq] at h
  rename_i p
  obtain ⟨r,i⟩:=p
  cases h2:leaveLeaves M as<;>simp only [h2,reduceCtorEq] at h
  rename_i p
  obtain ⟨rs',is⟩:=p
  simp only [Option.some.injEq,Prod.mk.injEq] at h
  obtain ⟨rfl,rfl⟩:=h
  obtain ⟨b1,k1,k2⟩:=leaveLeaf_ok h1 hr.1 hM
  obtain ⟨b2,k3,k4⟩:=leaveLeaves_ok hM h2 hr.2
  exact ⟨b1++b2,by simp only [OLeaves];exact ⟨b1,b2,rfl,k1,k3⟩,k2.append k4⟩
 | [],_,_,_::_,_,hr=>by simp [RepL] at hr
 | _::_,_,_,[],_,hr=>by simp [RepL] at hr
theorem leaveVal_ok {M:Nat→AO} {a r:AV} {ids:List Nat} {E:Env} {w:World} {x:Value} (h:leaveVal M a=some (r,ids)) (hr:Rep E w a x) (hM:MemOK E w M):∃ bl,OVal w E.G r x bl∧Cov E ids bl:=by
 have leafcase:leaveLeaf M a=some (r,ids)→∃ bl,OVal w E.G r x bl∧Cov E ids bl:=fun hl=>by
  obtain ⟨bl,k1,k2⟩:=leaveLeaf_ok hl hr hM
  refine ⟨bl,?_,k2⟩
  cases r<;>first|exact k1|(simp only [OLeaf,CRep] at k1;exact k1.2.elim)|skip
  cases a<;>simp only [leaveLeaf,reduceCtorEq,Option.some.injEq,Prod.mk.injEq,false_and] at hl
  all_goals
   split at hl
   ·first|(simp at hl;done)|(split at hl<;>simp at hl)
   ·simp at hl
 cases a<;>try exact leafcase h
 rename_i cs
 simp only [leaveVal] at h
 cases h2:leaveLeaves M cs<;>simp only [h2,reduceCtorEq] at h
 rename_i p
 obtain ⟨rs,is⟩:=p
 simp only [Option.some.injEq,Prod.mk.injEq] at h
 obtain ⟨rfl,rfl⟩:=h
 simp only [Rep] at hr
 obtain ⟨vs,rfl,q1,q2⟩:=hr
 obtain ⟨bl,k1,k2⟩:=leaveLeaves_ok hM h2 q2
 exact ⟨bl,by simp only [OVal];exact ⟨vs,rfl,q1,k1⟩,k2⟩
theorem leaveVal_tup {M:Nat→AO} {a r:AV} {ids:List Nat} (h:leaveVal M a=some (r,ids)) (cs:List AV):r≠.tup cs:=by
 rintro rfl
 cases a<;>simp only [leaveVal,leaveLeaf,reduceCtorEq,Option.some.injEq,Prod.mk.injEq,false_and] at h
 ·split at h<;>simp at h
 all_goals
  split at h
  ·first|(simp at h;done)|(split at h<;>simp at h)
  ·simp at h
theorem leaveVals_ok {M:Nat→AO} {E:Env} {w:World} (hM:MemOK E w M):∀ {as rs:List AV} {ids:List Nat} {xs:List Value},leaveVals M as=some (rs,ids)→RepL E w as xs→∃ bl,OVals w E.G rs xs bl∧Cov E ids bl
 | [],rs,ids,[],h,_=>by
  simp only [leaveVals,Option.some.injEq,Prod.mk.injEq] at h
  obtain ⟨rfl,rfl⟩:=h
  exact ⟨[],by simp [OVals],Cov.nil⟩
 | a::as,rs,ids,x::xs,h,hr=>by
  simp only [RepL] at hr
  simp only [leaveVals] at h
  cases h1:leaveVal M a<;>simp only [h1,reduceCtorEq] at h
  rename_i p
  obtain ⟨r,i⟩:=p
  cases h2:leaveVals M as<;>simp only [h2,reduceCtorEq] at h
  rename_i p
  obtain ⟨rs',is⟩:=p
  simp only [Option.some.injEq,Prod.mk.injEq] at h
  obtain ⟨rfl,rfl⟩:=h
  obtain ⟨b1,k1,k2⟩:=leaveVal_ok h1 hr.1 hM
  obtain ⟨b2,k3,k4⟩:=leaveVals_ok hM h2 hr.2
  exact ⟨b1++b2,by simp only [OVals];exact ⟨b1,b2,rfl,k1,k3⟩,k2.append k4⟩
 | [],_,_,_::_,_,hr=>by simp [RepL] at hr
 | _::_,_,_,[],_,hr=>by simp [RepL] at hr
def SLe (a a':AV):Prop:=a'=a∨a'=.any∨(a=.v (.slice none 0 0)∧∃ s,a'=.rd s []∨a'=.ow s [])∨∃ s xs,a=.ow s xs∧a'=.rd s xs
def SLeL:List AV→List AV→Prop
 | [],[]=>True
 | a::r,b::s=>SLe a b∧SLeL r s
 | _,_=>False
def SLeV:AV→AV→Prop
 | .agg cs,.agg cs'=>SLeL cs cs'
 | a,a'=>SLe a a'
def SLeVs:List AV→List AV→Prop
 | [],[]=>True
 | a::r,b::s=>SLeV a b∧SLeVs r s
 | _,_=>False
theorem OLeaf.crep {w:World} {G:Nat→Prop} {a:AV} {x:Value} {bl:List Nat} (ha:∀ s xs,a≠.ow s xs) (h:OLeaf w G a x bl) (hb:∀ n es,a≠.om n es:=by simp):bl=[]∧CRep w G a x:=by
 cases a<;>first|exact h|exact absurd rfl (ha _ _)|exact absurd rfl (hb _ _)
theorem OLeaf.of_crep {w:World} {G:Nat→Prop} {a:AV} {x:Value} (ha:∀ s xs,a≠.ow s xs) (h:CRep w G a x) (hb:∀ n es,a≠.om n es:=by simp):OLeaf w G a x []:=by
 cases a<;>first|exact ⟨rfl,h⟩|exact absurd rfl (ha _ _)|exact absurd rfl (hb _ _)
theorem OLeaf.mono {w:World} {G G':Nat→Prop} (hG:∀ k,G k→G' k) {a:AV} {x:Value} {bl:List Nat} (h:OLeaf w G a x bl):OLeaf w G' a x bl:=by
 by_cases ha:∃ s xs,a=.ow s xs
 ·obtain ⟨s,xs,rfl⟩:=ha
  simp only [OLeaf] at h ⊢
  obtain ⟨p,c,h1,h2,h3,h4⟩:=h
  refine ⟨p,c,h1,h2,h3,h4.imp id fun ⟨blk,base,arr,t,k1,k2,k3,k4,k4',k5⟩=>⟨blk,base,arr,t,k1,k2,k3,k4,k4',k5.mono hG (fun _ _=>rfl) (.inl rfl)⟩⟩
 ·by_cases hb:∃ n es,a=.om n es
  ·obtain ⟨n,es,rfl⟩:=hb
   simp only [OLeaf] at h ⊢
   obtain ⟨blk,ents,clk,h1,h2,h3,h4⟩:=h
   exact ⟨blk,ents,clk,h1,h2,h3,h4.mono hG fun _ _=>rfl⟩
  have hne:∀ s xs,a≠.ow s xs:=fun s xs e=>ha ⟨s,xs,e⟩
  have hne2:∀ n es,a≠.om n es:=fun n es e=>hb ⟨n,es,e⟩
  obtain ⟨rfl,h2⟩:=h.crep hne hne2
  exact OLeaf.of_crep hne (h2.mono hG fun _ _=>rfl) hne2
theorem SLe.leaf {w:World} {G:Nat→Prop} {a a':AV} {x:Value} {bl:List Nat} (h:SLe a a') (ho:OLeaf w G a x bl):∃ bl',bl'.Sublist bl∧∀ G',(∀ k,G k→G' k)→(∀ k∈bl,k ∉ bl'→G' k)→OLeaf w G' a' x bl':=by
 rcases h with rfl|rfl|⟨rfl,s,h⟩|⟨s,xs,rfl,rfl⟩
 ·exact ⟨bl,List.Sublist.refl _,fun G' hG _=>ho.mono hG⟩
 ·exact ⟨[],by simp,fun G' _ _=>by simp only [OLeaf,CRep];exact ⟨trivial,trivial⟩⟩
 ·obtain ⟨rfl,h2⟩:=ho.crep (by simp)
  simp only [CRep] at h2
  subst h2
  rcases h with rfl|rfl
  ·exact ⟨[],by simp,fun G' _ _=>by simp only [OLeaf,CRep];exact ⟨trivial,none,0,rfl,by simp,fun _=>rfl,.inl trivial⟩⟩
  ·exact ⟨[],by simp,fun G' _ _=>by simp only [OLeaf];exact ⟨none,0,rfl,by simp,fun _=>rfl,.inl ⟨rfl,trivial⟩⟩⟩
 ·simp only [OLeaf] at ho
  obtain ⟨p,c,h1,h2,h3,h4⟩:=ho
  refine ⟨[],by simp,fun G' hG hk=>?_⟩
  simp only [OLeaf,CRep]
  refine ⟨trivial,p,c,h1,h2,h3,?_⟩
  rcases h4 with ⟨h4,_⟩|⟨blk,base,arr,t,k1,k2,k3,k4,k4',k5⟩
  ·left
   exact List.length_eq_zero_iff.1 (by omega)
  ·right
   exact ⟨blk,base,k1,hk blk (by simp [k2]) (by simp),k5.mono hG (fun _ _=>rfl) (.inl rfl)⟩
theorem SLeL.leaves {w:World} {G:Nat→Prop}:∀ {as bs:List AV} {xs:List Value} {bl:List Nat},SLeL as bs→OLeaves w G as xs bl→bl.Nodup→∃ bl',bl'.Sublist bl∧∀ G',(∀ k,G k→G' k)→(∀ k∈bl,k ∉ bl'→G' k)→OLeaves w G' bs xs bl'
 | [],[],[],bl,_,h,_=>by
  simp only [OLeaves] at h
  subst h
  exact ⟨[],by simp,fun _ _ _=>by simp [OLeaves]⟩
 | a::as,b::bs,x::xs,bl,hs,h,hn=>by
  simp only [OLeaves] at h
  simp only [SLeL] at hs
  obtain ⟨b1,b2,rfl,h1,h2⟩:=h
  obtain ⟨n1,n2,n3⟩:=List.nodup_append.1 hn
  obtain ⟨c1,k1,k2⟩:=hs.1.leaf h1
  obtain ⟨c2,k3,k4⟩:=SLeL.leaves hs.2 h2 n2
  refine ⟨c1++c2,k1.append k3,fun G' hG hk=>?_⟩
  simp only [OLeaves]
  refine ⟨c1,c2,rfl,k2 G' hG fun k hk1 hk2=>hk k (by simp [hk1]) ?_,k4 G' hG fun k hk1 hk2=>hk k (by simp [hk1]) ?_⟩
  ·rw [List.mem_append]
   exact fun hh=>hh.elim hk2 fun h3=>n3 k hk1 k (k3.subset h3) rfl
  ·rw [List.mem_append]
   exact fun hh=>hh.elim (fun h3=>n3 k (k1.subset h3) k hk1 rfl) hk2
 | [],_::_,_,_,h,_,_=>by simp [SLeL] at h
 | _::_,[],_,_,h,_,_=>by simp [SLeL] at h
 | [],[],_::_,_,_,h,_=>by simp [OLeaves] at h
 | _::_,_::_,[],_,_,h,_=>by simp [OLeaves] at h
theorem SLeV.val {w:World} {G:Nat→Prop} {a a':AV} {x:Value} {bl:List Nat} (h:SLeV a a') (ho:OVal w G a x bl) (hn:bl.Nodup):∃ bl',bl'.Sublist bl∧∀ G',(∀ k,G k→G' k)→(∀ k∈bl,k ∉ bl'→G' k)→OVal w G' a' x bl':=by
 have leafcase:(∀ cs,a≠.agg cs)→(∀ cs,a'≠.agg cs)→∃ bl',bl'.Sublist bl∧∀ G',(∀ k,G k→G' k)→(∀ k∈bl,k ∉ bl'→G' k)→OVal w G' a' x bl':=fun ha ha'=>by
  have h1:SLe a a':=by cases a<;>first|exact absurd rfl (ha _)|exact h
  have h2:OLeaf w G a x bl:=by cases a<;>first|exact absurd rfl (ha _)|exact ho
  obtain ⟨c,k1,k2⟩:=h1.leaf h2
  refine ⟨c,k1,fun G' p q=>?_⟩
  have:=k2 G' p q
  cases a'<;>first|exact absurd rfl (ha' _)|exact this
 by_cases ha:∃ cs,a=.agg cs
 ·obtain ⟨cs,rfl⟩:=ha
  simp only [OVal] at ho
  obtain ⟨vs,rfl,h1,h2⟩:=ho
  cases a'<;>simp only [SLeV,SLe,reduceCtorEq,false_or,false_and,exists_const,or_false] at h
  case any=>exact ⟨[],by simp,fun _ _ _=>by simp only [OVal,OLeaf,CRep];exact ⟨trivial,trivial⟩⟩
  case agg cs' =>
   obtain ⟨c,k1,k2⟩:=SLeL.leaves h h2 hn
   exact ⟨c,k1,fun G' p q=>by simp only [OVal];exact ⟨vs,rfl,h1,k2 G' p q⟩⟩
 ·by_cases ha':∃ cs,a'=.agg cs
  ·obtain ⟨cs,rfl⟩:=ha'
   exfalso
   have h1:SLe a (.agg cs):=by cases a<;>first|exact absurd ⟨_,rfl⟩ ha|exact h
   rcases h1 with e|e|⟨_,s,e|e⟩|⟨_,_,_,e⟩<;>first|(exact ha ⟨cs,e.symm⟩)|(simp at e)
  ·exact leafcase (fun cs e=>ha ⟨cs,e⟩) (fun cs e=>ha' ⟨cs,e⟩)
theorem SLeVs.vals {w:World} {G:Nat→Prop}:∀ {as bs:List AV} {xs:List Value} {bl:List Nat},SLeVs as bs→OVals w G as xs bl→bl.Nodup→∃ bl',bl'.Sublist bl∧∀ G',(∀ k,G k→G' k)→(∀ k∈bl,k ∉ bl'→G' k)→OVals w G' bs xs bl'
 | [],[],[],bl,_,h,_=>by
  simp only [OVals] at h
  subst h
  exact ⟨[],by simp,fun _ _ _=>by simp [OVals]⟩
 | a::as,b::bs,x::xs,bl,hs,h,hn=>by
  simp only [OVals] at h
  simp only [SLeVs] at hs
  obtain ⟨b1,b2,rfl,h1,h2⟩:=h
  obtain ⟨n1,n2,n3⟩:=List.nodup_append.1 hn
  obtain ⟨c1,k1,k2⟩:=hs.1.val h1 n1
  obtain ⟨c2,k3,k4⟩:=SLeVs.vals hs.2 h2 n2
  refine ⟨c1++c2,k1.append k3,fun G' hG hk=>?_⟩
  simp only [OVals]
  refine ⟨c1,c2,rfl,k2 G' hG fun k hk1 hk2=>hk k (by simp [hk1]) ?_,k4 G' hG fun k hk1 hk2=>hk k (by simp [hk1]) ?_⟩
  ·rw [List.mem_append]
   exact fun hh=>hh.elim hk2 fun h3=>n3 k hk1 k (k3.subset h3) rfl
  ·rw [List.mem_append]
   exact fun hh=>hh.elim (fun h3=>n3 k (k1.subset h3) k hk1 rfl) hk2
 | [],_::_,_,_,h,_,_=>by simp [SLeVs] at h
 | _::_,[],_,_,h,_,_=>by simp [SLeVs] at h
 | [],[],_::_,_,_,h,_=>by simp [OVals] at h
 | _::_,_::_,[],_,_,h,_=>by simp [OVals] at h
theorem leaveVals_tup {M:Nat→AO}:∀ {as rs rl:List AV} {ids:List Nat},leaveVals M as=some (rs,ids)→SLeVs rs rl→∀ r∈rl,∀ cs,r≠.tup cs
 | [],rs,rl,ids,h,h4=>by
  simp only [leaveVals,Option.some.injEq,Prod.mk.injEq] at h
  rw [← h.1] at h4
  cases rl with
  | nil=>simp
  | cons r rl=>simp [SLeVs] at h4
 | a::as,rs,rl,ids,h,h4=>by
  simp only [leaveVals] at h
  cases h1:leaveVal M a<;>simp only [h1,reduceCtorEq] at h
  rename_i p
  obtain ⟨r,i⟩:=p
  cases h2:leaveVals M as<;>simp only [h2,reduceCtorEq] at h
  rename_i p
  obtain ⟨rs',is⟩:=p
  simp only [Option.some.injEq,Prod.mk.injEq] at h
  rw [← h.1] at h4
  cases rl with
  | nil=>simp
  | cons r' rl =>
   simp only [SLeVs] at h4
   intro q hq cs e
   rcases List.mem_cons.1 hq with rfl|hq
   ·subst e
    have h6:=h4.1
    have hra:=leaveVal_tup h1
    cases r<;>simp only [SLeV,SLe,reduceCtorEq,false_or,false_and,exists_const,or_false,and_false,AV.tup.injEq] at h6
    exact hra _ rfl
   ·exact leaveVals_tup h2 h4.2 q hq cs e
def aResult (T:TypeId→Option TD) (st:St):ResultVar→Option AV
 | .tmp t=>some (getS st.s t)
 | .cell a t=>aLoad T (getM st.m) t (getS st.s a)
def aResults (T:TypeId→Option TD) (st:St):List ResultVar→Option (List AV)
 | []=>some []
 | x::r=>match aResult T st x,aResults T st r with
  | some a,some as=>some (a::as)
  | _,_=>none
def retOf:List AV→AV
 | [a]=>a
 | l=>.tup l
def Leaves (T:TypeId→Option TD) (rv:List ResultVar) (st:St) (r:List AV):Prop :=
 ∃ as rs ids,aResults T st rv=some as∧leaveVals (getM st.m) as=some (rs,ids)∧ids.Nodup∧SLeVs rs r
theorem aResults_ok {P:Program} {N:Nat} {w0:World} {bl:Bk} {a:Act} {w:World} {E:Env} {st:St} (hs:SatF N w0 bl E a w (getS st.s) (getM st.m)):∀ {rv:List ResultVar} {as:List AV},aResults (Types P) st rv=some as →
  ∃ vs:List Value,(rv.mapM fun|.tmp t=>pure (a.tmps.getD t undef)|.cell b t=>do loadVar t (← asAddr (a.tmps.getD b undef)):Sem (List Value)).run P w=.ok vs w∧RepL E w as vs
 | [],as,h=>by
  simp only [aResults,Option.some.injEq] at h
  subst h
  exact ⟨[],by simp,by simp [RepL]⟩
 | x::rv,as,h=>by
  simp only [aResults] at h
  cases h1:aResult (Types P) st x<;>simp only [h1,reduceCtorEq] at h
  rename_i a1
  cases h2:aResults (Types P) st rv<;>simp only [h2,reduceCtorEq,Option.some.injEq] at h
  rename_i as'
  subst h
  obtain ⟨vs,k1,k2⟩:=aResults_ok hs h2
  have hx:∃ v,((match x with|.tmp t=>pure (a.tmps.getD t undef)|.cell b t=>do loadVar t (← asAddr (a.tmps.getD b undef)):Sem Value)).run P w=.ok v w∧Rep E w a1 v:=by
   cases x with
   | tmp t =>
    simp only [aResult,Option.some.injEq] at h1
    subst h1
    exact ⟨_,rfl,hs.slots t⟩
   | cell b t =>
    simp only [aResult] at h1
    obtain ⟨y,q1,q2⟩:=aLoad_ok h1 (hs.slots b) hs.mem
    refine ⟨y,?_,q2⟩
    rw [← q1]
    simp only [Instr.loadAt,Sem.run_bind]
    cases hv:a.tmps.getD b undef
    case pointer p =>
     cases p with
     | none =>
      exfalso
      simp [Instr.loadAt,Instr.sureAddr,hv] at q1
     | some p=>rfl
    all_goals
     exfalso
     simp [Instr.loadAt,Instr.sureAddr,hv] at q1
  obtain ⟨v,q1,q2⟩:=hx
  refine ⟨v::vs,?_,by simp only [RepL];exact ⟨q2,k2⟩⟩
  rw [List.mapM_cons,Sem.run_bind,q1]
  simp only [Result.andThen_ok,Sem.run_bind]
  rw [k1]
  rfl
def enterS (avs:List AV):List (Nat×AV):=avs.zipIdx.map fun p=>(p.2,p.1)
theorem getS_enter {avs:List AV} {t:Nat}:∀ {k:Nat},getS ((avs.zipIdx k).map fun p=>(p.2,p.1)) t=if k≤t then (avs[t - k]?).getD .any else .any:=by
 induction avs with
 | nil=>intro k;simp [getS]
 | cons a r ih =>
  intro k
  simp only [List.zipIdx_cons,List.map_cons,getS]
  by_cases e:k=t
  ·subst e;simp
  ·rw [if_neg e,ih]
   by_cases h:k≤t
   ·rw [if_pos (by omega),if_pos h,show t - k=(t - (k+1))+1 from by omega]
    simp
   ·rw [if_neg (by omega),if_neg h]
theorem psound_of {P:Program} {X:AX} {f:FuncId} {fn:Func} {c:Code} {N:Nat} {F:List AV→Option AV} (hX:XOK P X) (hmix:P.follows .mixedOrders=true) (hf:P.funcs[f]?=some fn) (hb:fn.body=some c) (hN:fn.ntmps=N)
    (h:∀ (w0:World) (G:Nat→Prop) (avs:List AV) (r:AV),F avs=some r→avs.length≤N∧∃ rl,retOf rl=r∧rl.length=fn.results.size∧AW ⟨P,X,N,w0,.pure G⟩ c ⟨enterS avs,[],0⟩ (fun e st=>(e=.normal∨e=.ret)∧Leaves (Types P) fn.results.toList st rl)) :
    PSound P f F:=by
  intro w G args avs r hF hG hargs
  obtain ⟨hlen,rl,hrl,hrlen,haw⟩:=h w G avs r hF
  have hal:args.size=avs.length:=by
    have:∀ {as:List AV} {xs:List Value},CRepL w G as xs→xs.length=as.length:=by
      intro as
      induction as with
      | nil=>intro xs h;cases xs<;>simp [CRepL] at h ⊢
      | cons a r ih=>intro xs h;cases xs<;>simp only [CRepL] at h ⊢;simp [ih h.2]
    simpa using this hargs
  let E:Env:=Env.start G
  have hslots:∀ t,Rep E w (getS (enterS avs) t) ((args++Array.replicate (N - args.size) undef).getD t undef):=fun t=>by
    rw [enterS,getS_enter]
    simp only [Nat.zero_le,if_true,Nat.sub_zero]
    cases ht:avs[t]? with
    | none=>simp [Rep,CRep]
    | some a =>
      obtain ⟨x,h1,h2⟩:=hargs.get ht
      have hlt:=(List.getElem?_eq_some_iff.1 ht).1
      rw [Array.getD_eq_getD_getElem?,Array.getElem?_append_left (by omega)]
      have:args[t]?=some x:=by simpa using h1
      rw [this]
      exact Rep.of_c (E:=E) h2
  have hsat:Sat N w (.pure G) { tmps:=args++Array.replicate (fn.ntmps - args.size) undef,defers:=[] } w ⟨enterS avs,[],0⟩:=by
    refine ⟨E,⟨rfl,by simp [hN];omega,⟨Frame.refl w,Env.Le.refl _,fun b hb=>hb.elim,fun _ h=>.inl h,hG,fun b _ _ _ hb=>hb.elim,fun b _ _ _ _ _ _ hb=>hb.elim⟩,fun b hb=>hb.elim,by rw [hN];exact hslots⟩,fun k hk=>hk.elim,fun k hk=>by simp [getM] at hk⟩
  refine calls_of_wp hf hb (wp_mono (haw _ _ hsat) fun e a w' ⟨st,⟨he,as,rs,ids,h1,h2,h3,h4⟩,E',hs,_,_⟩=>?_)
  obtain ⟨vs,k1,k2⟩:=aResults_ok hs h1
  obtain ⟨bl,k3,k4⟩:=leaveVals_ok hs.mem h2 k2
  have hnd:=k4.nodup hs.inv h3
  obtain ⟨bl',q1,q2⟩:=h4.vals k3 hnd
  have hbl:∀ k∈bl,k<w'.heap.size∧¬ E'.G k∧w.heap.size≤k:=fun k hk=>by
    obtain ⟨b,_,base,sz,hb1,hb2⟩:=k4.mem hk
    have:=hs.inv.locs b k base sz hb1 hb2
    exact ⟨this.1,this.2.1,this.2.2.resolve_right (by simp)⟩
  let G':Nat→Prop:=fun k=>E'.G k∨(k∈bl∧k ∉ bl')
  have hret:OVals w' G' rl vs bl':=q2 G' (fun k hk=>.inl hk) fun k hk hk'=>.inr ⟨hk,hk'⟩
  have hvl:vs.length=rl.length:=by
    have:∀ {as:List AV} {xs:List Value} {b:List Nat},OVals w' G' as xs b→xs.length=as.length:=by
      intro as
      induction as with
      | nil=>intro xs b h;cases xs<;>simp [OVals] at h ⊢
      | cons a r ih=>intro xs b h;cases xs<;>simp only [OVals] at h<;>first|exact h.elim|(obtain ⟨_,b2,_,_,h2⟩:=h;simp [ih h2])
    exact this hret
  have hrun:(results fn a.tmps).run P w'=.ok (if h:vs.toArray.size=1 then vs.toArray[0] else .tuple vs.toArray) w':=by
    unfold results
    rw [Sem.run_bind,← Array.toArray_toList (xs:=fn.results),List.mapM_toArray]
    simp only [Sem.run_map]
    have:(List.mapM (fun x=>match x with|.tmp t=>pure (a.tmps.getD t undef)|.cell b t=>do loadVar t (← asAddr (a.tmps.getD b undef))) fn.results.toList:Sem (List Value)).run P w'=.ok vs w':=k1
    erw [this]
    rfl
  have hnt:=leaveVals_tup h2 h4
  have hfin:∃ x G' bl,Ending.returned (if h:vs.toArray.size=1 then vs.toArray[0] else .tuple vs.toArray)=Ending.returned x∧Frame w [] w'∧(∀ k,G k→G' k)∧(∀ k,G' k→k<w'.heap.size∧(G k∨w.heap.size≤k))∧ORet w' G' r x bl∧bl.Nodup∧∀ k∈bl,k<w'.heap.size∧¬ G' k∧w.heap.size≤k:=by
   refine ⟨_,G',bl',rfl,hs.inv.frame,fun k hk=>.inl (hs.inv.gin.G k hk),fun k hk=>?_,?_,q1.nodup hnd,fun k hk=>?_⟩
   · rcases hk with hk|⟨hk,_⟩
     · exact ⟨hs.inv.good k hk,(hs.inv.gout k hk).imp id fun h=>h.resolve_right (by simp)⟩
     · exact ⟨(hbl k hk).1,.inr (hbl k hk).2.2⟩
   · subst hrl
     match rl,vs,hvl,hret,hnt with
     | [],[],_,hret,_=>exact ⟨[],by simp,hret⟩
     | [r],[v],_,hret,hnt =>
       simp only [OVals] at hret
       obtain ⟨b1,b2,e,h5,rfl⟩:=hret
       simp only [List.append_nil] at e
       subst e
       simp only [List.size_toArray,List.length_cons,List.length_nil,Nat.zero_add,dite_true,List.getElem_toArray,List.getElem_cons_zero,retOf]
       have hn':=hnt r (by simp)
       cases r<;>first|exact h5|exact absurd rfl (hn' _)
     | r1::r2::rl,v1::v2::vs,_,hret,_ =>
       simp only [retOf,ORet]
       exact ⟨v1::v2::vs,by simp,hret⟩
   · have h1:=hbl k (q1.subset hk)
     refine ⟨h1.1,fun hg=>?_,h1.2.2⟩
     rcases hg with hg|⟨_,hg⟩
     · exact h1.2.1 hg
     · exact hg hk
  rcases he with rfl|rfl
  · exact ⟨hs.defers,_,hrun,hfin⟩
  · exact ⟨hs.defers,_,hrun,hfin⟩
end Go.AM
