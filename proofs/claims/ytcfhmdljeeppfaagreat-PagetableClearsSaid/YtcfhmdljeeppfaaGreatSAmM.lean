/- A part of the proof: what functions of the program compute, by abstract execution of their code. Its theorems hold without further condition. -/
import Derived.Test.YtcfhmdljeeppfaaGreatSAmK
set_option linter.all false
namespace Go.AM
open Go
structure Cx where
 P:Program
 X:AX
 N:Nat
 w0:World
 bl:Bk
structure Cx.OK (c:Cx):Prop where
 x:XOK c.P c.X
 mixed:c.P.follows .mixedOrders=true
def AW (c:Cx) (k:Code) (st:St) (Q:Exit→St→Prop):Prop :=
 ∀ a w,Sat c.N c.w0 c.bl a w st→k.wp c.P (fun e a' w'=>∃ st',Q e st'∧Sat c.N c.w0 c.bl a' w' st') a w
def Le (n:Nat) (st st':St):Prop:=∀ N w0 bl a w,bl.n=n→Sat N w0 bl a w st→Sat N w0 bl a w st'
theorem Le.refl (n:Nat) (st:St):Le n st st:=fun _ _ _ _ _ _ h=>h
theorem Le.trans {n:Nat} {a b c:St} (h:Le n a b) (k:Le n b c):Le n a c:=fun _ _ _ _ _ e s=>k _ _ _ _ _ e (h _ _ _ _ _ e s)
section
variable {c:Cx} {st:St} {Q:Exit→St→Prop}
theorem aw_skip (h:Q .normal st):AW c .skip st Q:=fun _ _ hs=>wp_skip ⟨st,h,hs⟩
theorem aw_exit {id:Nat} (h:Q (.exit id) st):AW c (.exit id) st Q:=fun _ _ hs=>wp_exit ⟨st,h,hs⟩
theorem aw_ret (h:Q .ret st):AW c .ret st Q:=fun _ _ hs=>wp_ret ⟨st,h,hs⟩
def thenQ (N:St→Prop) (Q:Exit→St→Prop):Exit→St→Prop
 | .normal,st=>N st
 | e,st=>Q e st
theorem aw_mono {k:Code} {Q':Exit→St→Prop} (h:AW c k st Q) (hq:∀ e st,Q e st→Q' e st):AW c k st Q':=fun a w hs =>
 wp_mono (h a w hs) fun e _ _ ⟨st',h1,h2⟩=>⟨st',hq e st' h1,h2⟩
theorem aw_seq {x y:Code} (h:AW c x st (thenQ (fun st'=>AW c y st' Q) Q)):AW c (.seq x y) st Q:=fun a w hs =>
 wp_seq (wp_mono (h a w hs) fun e _ _ ⟨st',h1,h2⟩=>by
  cases e<;>first|exact h1 _ _ h2|exact ⟨st',h1,h2⟩)
theorem aw_seq_k {x y:Code} (h:∀ K:St→Prop,(∀ st',AW c y st' Q→K st')→AW c x st (thenQ K Q)):AW c (.seq x y) st Q:=aw_seq (h _ fun _ h=>h)
theorem aw_region {id:Nat} {ops:Array Oper} {d:Bool} (hc:c.OK) (hO:d=true→ordB c.X ops=true)
  (h:∃ st',aregion (Types c.P) c.X c.N ops st=some st'∧Q .normal st'):AW c (.region id ops d) st Q:=fun a w hs=>by
 obtain ⟨st',h1,h2⟩:=h
 cases d
 ·exact region_ordered hc.x hs h1 fun a' w' hs'=>⟨st',h2,hs'⟩
 ·exact region_drawn hc.x hc.mixed hs (hO rfl) h1 fun a' w' hs'=>⟨st',h2,hs'⟩
theorem aw_cond {o:Operand} {x y:Code} {b:Bool} (hb:aEv st.s o=.v (.bool b)) (ht:b=true→AW c x st Q) (hf:b=false→AW c y st Q):AW c (.cond o x y) st Q:=fun a w hs=>by
 have he:a.eval o=.bool b:=by
  obtain ⟨E,h1,_⟩:=hs
  have:=h1.eval o
  rw [← aEv_eq,hb] at this
  simpa only [Rep,CRep] using this
 exact wp_cond_split he (fun h=>ht h a w hs) (fun h=>hf h a w hs)
def blockQ (id:Nat) (Q:Exit→St→Prop):Exit→St→Prop
 | .exit id',st=>if id'=id then Q .normal st else Q (.exit id') st
 | e,st=>Q e st
theorem aw_block {id:Nat} {x:Code} (h:AW c x st (blockQ id Q)):AW c (.block id x) st Q:=fun a w hs =>
  wp_block (wp_mono (h a w hs) fun e a' w' ⟨st',h1,h2⟩=>by
    cases e<;>first
      | exact ⟨st',h1,h2⟩
      | (simp only [blockQ] at h1
         simp only [Exit.inBlock]
         split at h1
         · rename_i e;rw [if_pos e];exact ⟨st',h1,h2⟩
         · rename_i e;rw [if_neg e];exact ⟨st',h1,h2⟩))
theorem aw_weaken {k:Code} {st':St} (hl:Le c.bl.n st st') (h:AW c k st' Q):AW c k st Q:=fun a w hs=>h a w (hl _ _ _ _ _ rfl hs)
theorem least {p:Nat→Prop} (h:∃ n,p n):∃ n,p n∧∀ m,p m→n≤m:=by
 obtain ⟨n,hn⟩:=h
 induction n using Nat.strongRecOn with
 | _ n ih =>
  by_cases hh:∃ m,m<n∧p m
  ·obtain ⟨m,h1,h2⟩:=hh;exact ih m h1 h2
  ·exact ⟨n,hn,fun m hm=>Nat.le_of_not_lt fun hlt=>hh ⟨m,hlt,hm⟩⟩
open Classical in
theorem aw_loop {ι:Type} (S:ι→St) (μ:ι→Nat) (i0:ι) {x:Code} (h0:Le c.bl.n st (S i0))
  (round:∀ i,AW c x (S i) (thenQ (fun st'=>∃ i',Le c.bl.n st' (S i')∧μ i'<μ i) Q)):AW c (.loop x) st Q:=fun a w hs=>by
 let I:Act→World→Prop:=fun a w=>∃ i,Sat c.N c.w0 c.bl a w (S i)
 let M:Act→World→Nat:=fun a w=>if h:∃ n,∃ i,Sat c.N c.w0 c.bl a w (S i)∧μ i=n then (least h).choose else 0
 refine wp_loop I M ⟨i0,h0 _ _ _ _ _ rfl hs⟩ fun a w hI=>?_
 have hex:∃ n,∃ i,Sat c.N c.w0 c.bl a w (S i)∧μ i=n:=let ⟨i,hi⟩:=hI;⟨μ i,i,hi,rfl⟩
 have hM:M a w=(least hex).choose:=dif_pos hex
 obtain ⟨⟨i,hi,hmu⟩,hmin⟩:=(least hex).choose_spec
 refine wp_mono (round i a w hi) fun e a' w' ⟨st',h1,h2⟩=>?_
 cases e
 case normal =>
  obtain ⟨i',k1,k2⟩:=h1
  have hs':=k1 _ _ _ _ _ rfl h2
  refine ⟨⟨i',hs'⟩,?_⟩
  have hex':∃ n,∃ i,Sat c.N c.w0 c.bl a' w' (S i)∧μ i=n:=⟨μ i',i',hs',rfl⟩
  have hM':M a' w'=(least hex').choose:=dif_pos hex'
  rw [hM,hM',← hmu]
  have:=(least hex').choose_spec.2 _ ⟨i',hs',rfl⟩
  omega
 all_goals exact ⟨st',h1,h2⟩
end
mutual
def AV.under (n:Nat):AV→Prop
 | .bp b _|.sl b _ _ _ _|.ep b _ _ _ _|.bs b _ _ _|.mp b _=>b<n
 | .agg cs|.tup cs|.fn _ cs|.ifc _ cs=>AV.underL n cs
 | _=>True
def AV.underL (n:Nat):List AV→Prop
 | []=>True
 | a::r=>a.under n∧AV.underL n r
end
def AO.under (n:Nat):AO→Prop
 | .box cs=>AV.underL n cs
 | _=>True
theorem underL_iff {n:Nat}:∀ {l:List AV},AV.underL n l↔∀ a∈l,a.under n
 | []=>by simp [AV.underL]
 | a::r=>by simp [AV.underL,underL_iff (l:=r)]
def Env.trim (E:Env) (n:Nat):Env:={ E with alive:=fun b=>E.alive b∧b<n }
mutual
theorem Rep.trim {E:Env} {w:World} {n:Nat}:∀ {a:AV} {x:Value},a.under n→Rep E w a x→Rep (E.trim n) w a x
 | .bp b o,x,hb,h=>by simp only [Rep,AV.under] at h hb ⊢;exact ⟨⟨h.1,hb⟩,h.2⟩
 | .bs b o s k,x,hb,h=>by simp only [Rep,AV.under] at h hb ⊢;exact ⟨⟨h.1,hb⟩,h.2⟩
 | .mp b m,x,hb,h=>by simp only [Rep,AV.under] at h hb ⊢;exact ⟨⟨h.1,hb⟩,h.2⟩
 | .rm ..,_,_,h=>by simp only [Rep] at h ⊢;exact h
 | .om ..,_,_,h=>by simp only [Rep] at h ⊢;exact h
 | .sl b m s o k,x,hb,h=>by simp only [Rep,AV.under] at h hb ⊢;exact ⟨⟨h.1,hb⟩,h.2⟩
 | .ep b m s i j,x,hb,h=>by simp only [Rep,AV.under] at h hb ⊢;exact ⟨⟨h.1,hb⟩,h.2⟩
 | .agg cs,_,hb,h=>by
  simp only [Rep,AV.under] at h hb ⊢
  obtain ⟨vs,h1,h2,h3⟩:=h
  exact ⟨vs,h1,h2,RepL.trim hb h3⟩
 | .tup cs,_,hb,h=>by
  simp only [Rep,AV.under] at h hb ⊢
  obtain ⟨vs,h1,h3⟩:=h
  exact ⟨vs,h1,RepL.trim hb h3⟩
 | .fn f cs,_,hb,h=>by
  simp only [Rep,AV.under] at h hb ⊢
  obtain ⟨vs,h1,h3⟩:=h
  exact ⟨vs,h1,RepL.trim hb h3⟩
 | .ifc f cs,_,hb,h=>by
  simp only [Rep,AV.under] at h hb ⊢
  obtain ⟨vs,h1,h3⟩:=h
  exact ⟨vs,h1,RepL.trim hb h3⟩
 | .any,_,_,h=>by simp only [Rep] at h ⊢;exact h
 | .v _,_,_,h=>by simp only [Rep] at h ⊢;exact h
 | .rd ..,_,_,h=>by simp only [Rep] at h ⊢;exact h
 | .ow ..,_,_,h=>by simp only [Rep] at h ⊢;exact h
 | .rp ..,_,_,h=>by simp only [Rep] at h ⊢;exact h
 | .rf ..,_,_,h=>by simp only [Rep] at h ⊢;exact h
theorem RepL.trim {E:Env} {w:World} {n:Nat}:∀ {as:List AV} {xs:List Value},AV.underL n as→RepL E w as xs→RepL (E.trim n) w as xs
 | [],[],_,_=>by simp [RepL]
 | a::as,x::xs,hb,h=>by
  simp only [RepL,AV.underL] at h hb ⊢
  exact ⟨Rep.trim hb.1 h.1,RepL.trim hb.2 h.2⟩
 | [],_::_,_,h=>by simp [RepL] at h
 | _::_,[],_,h=>by simp [RepL] at h
end
theorem ObjRep.trim {E:Env} {w:World} {n b:Nat}:∀ {o:AO},o.under n→ObjRep E w b o→ObjRep (E.trim n) w b o
 | .dead,_,_=>trivial
 | .vec ..,_,h=>h
 | .map ..,_,h=>h
 | .box cs,hb,h=>by
  simp only [ObjRep,AO.under] at h hb ⊢
  obtain ⟨h1,blk,t,vs,h2,h3,h4,h5⟩:=h
  exact ⟨h1,blk,t,vs,h2,h3,h4,h5.trim hb⟩
def AVle (a a':AV):Prop:=a'=.any∨a'=a∨(a=.v (.slice none 0 0)∧∃ s,a'=.rd s [])
theorem AVle.rep {E:Env} {w:World} {a a':AV} {x:Value} (h:AVle a a') (hr:Rep E w a x):Rep E w a' x:=by
 rcases h with rfl|rfl|⟨rfl,s,rfl⟩
 ·simp [Rep,CRep]
 ·exact hr
 ·simp only [Rep,CRep] at hr ⊢
  subst hr
  exact ⟨none,0,rfl,by simp,fun _=>rfl,.inl trivial⟩
def AVleL:List AV→List AV→Prop
 | [],[]=>True
 | a::r,b::s=>AVle a b∧AVleL r s
 | _,_=>False
theorem AVleL.rep {E:Env} {w:World}:∀ {as bs:List AV} {xs:List Value},AVleL as bs→RepL E w as xs→RepL E w bs xs
 | [],[],[],_,_=>by simp [RepL]
 | a::as,b::bs,x::xs,h,k=>by simp only [RepL,AVleL] at h k ⊢;exact ⟨h.1.rep k.1,AVleL.rep h.2 k.2⟩
 | [],[],_::_,_,h=>by simp [RepL] at h
 | _::_,_::_,[],_,h=>by simp [RepL] at h
 | [],_::_,_,h,_=>by simp [AVleL] at h
 | _::_,[],_,h,_=>by simp [AVleL] at h
def AOle (o o':AO):Prop:=o'=.dead∨o'=o∨∃ cs cs',o=.box cs∧o'=.box cs'∧AVleL cs cs'
theorem AOle.rep {E:Env} {w:World} {b:Nat} {o o':AO} (h:AOle o o') (hr:ObjRep E w b o):ObjRep E w b o':=by
 rcases h with rfl|rfl|⟨cs,cs',rfl,rfl,h⟩
 ·trivial
 ·exact hr
 ·simp only [ObjRep] at hr ⊢
  obtain ⟨h1,blk,t,vs,h2,h3,h4,h5⟩:=hr
  exact ⟨h1,blk,t,vs,h2,h3,h4,h.rep h5⟩
theorem getS_mem {s:List (Nat×AV)} {t:Nat}:getS s t=.any∨∃ p∈s,p.1=t∧p.2=getS s t:=by
 induction s with
 | nil=>exact .inl rfl
 | cons p r ih =>
  obtain ⟨k,a⟩:=p
  simp only [getS]
  split
  ·rename_i e;exact .inr ⟨(k,a),by simp,e,rfl⟩
  ·rcases ih with h|⟨p,h1,h2⟩
   ·exact .inl h
   ·exact .inr ⟨p,by simp [h1],h2⟩
theorem getM_mem {m:List (Nat×AO)} {t:Nat}:getM m t=.dead∨∃ p∈m,p.1=t∧p.2=getM m t:=by
 induction m with
 | nil=>exact .inl rfl
 | cons p r ih =>
  obtain ⟨k,a⟩:=p
  simp only [getM]
  split
  ·rename_i e;exact .inr ⟨(k,a),by simp,e,rfl⟩
  ·rcases ih with h|⟨p,h1,h2⟩
   ·exact .inl h
   ·exact .inr ⟨p,by simp [h1],h2⟩
theorem le_of {n:Nat} {s s':List (Nat×AV)} {m m':List (Nat×AO)} {nx nx':Nat} (hn:n≤nx') (hs:∀ p∈s',AVle (getS s p.1) p.2∧p.2.under nx') (hm:∀ p∈m',AOle (getM m p.1) p.2∧p.2.under nx'∧p.1<nx') :
  Le n ⟨s,m,nx⟩ ⟨s',m',nx'⟩:=fun N w0 bl a w hbn ⟨E,h,h1,h2⟩=>by
 refine ⟨E.trim nx',⟨h.defers,h.size,⟨h.inv.frame,⟨h.inv.gin.G,fun b hb=>⟨h.inv.gin.alive b hb,by have:=h.inv.low b hb;omega⟩,h.inv.gin.same⟩,h.inv.low,h.inv.gout,h.inv.good,fun b blk base sz hb=>h.inv.locs b blk base sz hb.1,fun b b' blk base sz base' sz' hb hb'=>h.inv.apart b b' blk base sz base' sz' hb.1 hb'.1⟩,fun b hb=>?_,fun t=>?_⟩,fun k hk=>hk.2,fun k hk=>?_⟩
 ·rcases getM_mem (m:=m') (t:=b) with e|⟨p,hp,rfl,e⟩
  ·rw [e];trivial
  ·have:=hm p hp
   rw [← e]
   exact (this.1.rep (h.mem _ hb.1)).trim this.2.1
 ·rcases getS_mem (s:=s') (t:=t) with e|⟨p,hp,rfl,e⟩
  ·rw [e];simp [Rep,CRep]
  ·have:=hs p hp
   rw [← e]
   exact (this.1.rep (h.slots _)).trim this.2
 ·rcases getM_mem (m:=m') (t:=k) with e|⟨p,hp,rfl,e⟩
  ·exact absurd e hk
  ·exact (hm p hp).2.2
def keepS (ks:List Nat) (s:List (Nat×AV)):List (Nat×AV):=ks.map fun k=>(k,getS s k)
theorem getS_keepS {ks:List Nat} {s:List (Nat×AV)} {t:Nat}:getS (keepS ks s) t=if t∈ks then getS s t else .any:=by
 induction ks with
 | nil=>rfl
 | cons k r ih =>
  simp only [keepS,List.map_cons,getS,List.mem_cons]
  by_cases e:k=t
  ·subst e;simp
  ·rw [if_neg e]
   simp only [keepS] at ih
   rw [ih]
   simp [Ne.symm e]
end Go.AM
