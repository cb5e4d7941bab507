/- A part of the proof: what functions of the program compute, by abstract execution of their code. Its theorems hold without further condition. -/
import Derived.Test.YtcfhmdljeeppfaaUAmW
import Derived.Maps.RangeRun
import Derived.Test.YtcfhmdljeeppfaaUTPt72
set_option linter.all false
namespace Go.AM
open Go
def Unt (E:Env) (w:World) (k:Nat):Prop:=k<w.heap.size∧¬ E.G k∧∀ b base sz,E.alive b→E.loc b≠some (k,base,sz)
theorem SatF.other {N:Nat} {w0:World} {bl:Bk} {E:Env} {a:Act} {w w':World} {g:Nat→AV} {m:Nat→AO} (h:SatF N w0 bl E a w g m) {r:Nat} (hg:¬ E.G r) (hl:∀ b base sz,E.alive b→E.loc b≠some (r,base,sz)) (hr0:w0.heap.size≤r)
  (hsz:w.heap.size≤w'.heap.size) (hos:w'.os=w.os) (hout:w'.output=w.output) (hk:∀ k,k<w.heap.size→k≠r→w'.heap[k]?=w.heap[k]?):SatF N w0 bl E a w' g m:=by
 have hG:∀ k,E.G k→w'.heap[k]?=w.heap[k]?:=fun k hk'=>hk k (h.inv.good k hk') fun e=>hg (e ▸ hk')
 refine ⟨h.defers,h.size,⟨⟨hos.trans h.inv.frame.os,hout.trans h.inv.frame.out,Nat.le_trans h.inv.frame.size hsz,fun k h1 h2=>?_⟩,h.inv.gin,h.inv.low,h.inv.gout,fun k hk'=>Nat.lt_of_lt_of_le (h.inv.good k hk') hsz,fun b blk base sz h1 h2=>?_,h.inv.apart⟩,fun b hb=>?_,fun t=>?_⟩
 ·rw [hk k (by have:=h.inv.frame.size;omega) (by omega)]
  exact h.inv.frame.old k h1 h2
 ·obtain ⟨q1,q2,q3⟩:=h.inv.locs b blk base sz h1 h2
  exact ⟨by omega,q2,q3⟩
 ·refine (h.mem b hb).mono (Env.Le.refl E) hG rfl rfl fun blk base sz h1=>?_
  exact hk blk (h.inv.locs b blk base sz hb h1).1 fun e=>hl b base sz hb (e ▸ h1)
 ·exact (h.slots t).mono (Env.Le.refl E) hG
def SatX (N:Nat) (w0:World) (bl:Bk) (a:Act) (w:World) (st:St) (F:List Nat):Prop :=
 ∃ E,SatF N w0 bl E a w (getS st.s) (getM st.m)∧(∀ k,E.alive k→k<st.nx)∧(∀ k,getM st.m k≠.dead→k<st.nx)∧∀ k∈F,Unt E w k
theorem SatX.sat {N:Nat} {w0:World} {bl:Bk} {a:Act} {w:World} {st:St} {F:List Nat} (h:SatX N w0 bl a w st F):Sat N w0 bl a w st:=by
 obtain ⟨E,h1,h2,h3,_⟩:=h
 exact ⟨E,h1,h2,h3⟩
open Classical in
theorem rebase {N:Nat} {w0:World} {bl:Bk} {a:Act} {w:World} {st:St} {F:List Nat} (hs:SatX N w0 bl a w st F) (n:Nat) (hn:bl.n≤n) :
  ∃ B:Bk,B.n=n∧Sat N w B a w st∧∀ a' w' st',Sat N w B a' w' st'→SatX N w0 bl a' w' st' F∧∀ k∈F,w'.heap[k]?=w.heap[k]?:=by
 obtain ⟨E,h1,h2,h3,h4⟩:=hs
 let L:List Nat:=(List.range w.heap.size).filter fun k=>decide (∃ b base sz,E.alive b∧E.loc b=some (k,base,sz))
 have hL:∀ k,k∈L↔k<w.heap.size∧∃ b base sz,E.alive b∧E.loc b=some (k,base,sz):=fun k=>by simp [L]
 let B:Bk:=⟨L,{ E with alive:=fun k=>E.alive k∧k<n },n⟩
 have hB:B.E.Le E:=⟨fun _ h=>h,fun _ h=>h.1,fun _ _=>.inl ⟨rfl,rfl⟩⟩
 have hB0:bl.E.Le B.E:=⟨h1.inv.gin.G,fun k hk=>⟨h1.inv.gin.alive k hk,by have:=h1.inv.low k hk;omega⟩,h1.inv.gin.same⟩
 have hinv:Inv w B E w:=⟨⟨rfl,rfl,Nat.le_refl _,fun _ _ _=>rfl⟩,hB,fun k hk=>hk.2,fun k hk=>.inl hk,h1.inv.good,fun b blk base sz hb hl=>⟨(h1.inv.locs b blk base sz hb hl).1,(h1.inv.locs b blk base sz hb hl).2.1,.inr ((hL blk).2 ⟨(h1.inv.locs b blk base sz hb hl).1,b,base,sz,hb,hl⟩)⟩,h1.inv.apart⟩
 have hs1:Sat N w B a w st:=⟨E,⟨h1.defers,h1.size,hinv,h1.mem,h1.slots⟩,h2,h3⟩
 have hFL:∀ k∈F,k ∉ L:=fun k hk hm=>by
  obtain ⟨_,b,base,sz,q1,q2⟩:=(hL k).1 hm
  exact (h4 k hk).2.2 b base sz q1 q2
 have hback:∀ k,k∈L→w0.heap.size≤k∨k∈bl.l:=fun k hk=>by
  obtain ⟨_,b,base,sz,q1,q2⟩:=(hL k).1 hk
  exact (h1.inv.locs b k base sz q1 q2).2.2
 refine ⟨B,rfl,hs1,fun a' w' st' ⟨E',k1,k2,k3⟩=>⟨⟨E',⟨k1.defers,k1.size,?_,k1.mem,k1.slots⟩,k2,k3,fun k hk=>?_⟩,fun k hk=>?_⟩⟩
 ·have i0:=h1.inv
  have i1:=k1.inv
  refine ⟨⟨i1.frame.os.trans i0.frame.os,i1.frame.out.trans i0.frame.out,Nat.le_trans i0.frame.size i1.frame.size,fun k g1 g2=>?_⟩,hB0.trans i1.gin,i0.low,fun k hk=>?_,i1.good,fun b blk base sz g1 g2=>?_,i1.apart⟩
  ·rw [i1.frame.old k (by have:=i0.frame.size;omega) fun hm=>?_]
   ·exact i0.frame.old k g1 g2
   ·rcases hback k hm with g3|g3
    ·omega
    ·exact g2 g3
  ·rcases i1.gout k hk with g|g|g
   ·exact i0.gout k g
   ·exact .inr (.inl (by have:=i0.frame.size;omega))
   ·rcases hback k g with g3|g3
    ·exact .inr (.inl g3)
    ·exact .inr (.inr g3)
  ·obtain ⟨g3,g4,g5⟩:=i1.locs b blk base sz g1 g2
   refine ⟨g3,g4,?_⟩
   rcases g5 with g5|g5
   ·exact .inl (by have:=i0.frame.size;omega)
   ·exact hback blk g5
 ·obtain ⟨g1,g2,g3⟩:=h4 k hk
  refine ⟨by have:=k1.inv.frame.size;omega,fun hg=>?_,fun b base sz hb hl=>?_⟩
  ·rcases k1.inv.gout k hg with g|g|g
   ·exact g2 g
   ·omega
   ·exact hFL k hk g
  ·rcases (k1.inv.locs b k base sz hb hl).2.2 with g|g
   ·omega
   ·exact hFL k hk g
 ·exact k1.inv.frame.old k (h4 k hk).1 (hFL k hk)
theorem sub_run {P:Program} {X:AX} {N:Nat} {w0:World} {bl:Bk} {a:Act} {w:World} {st:St} {F:List Nat} {K:Code} {Q:Exit→St→Prop} (hs:SatX N w0 bl a w st F) (h:∀ w1 bl1,bl1.n=bl.n→AW ⟨P,X,N,w1,bl1⟩ K st Q) :
  K.wp P (fun e a' w'=>∃ st',Q e st'∧SatX N w0 bl a' w' st' F∧∀ k∈F,w'.heap[k]?=w.heap[k]?) a w:=by
 obtain ⟨B,h1,h2,h3⟩:=rebase hs bl.n (Nat.le_refl _)
 exact wp_mono (h w B h1 a w h2) fun e a' w' ⟨st',q1,q2⟩=>⟨st',q1,(h3 a' w' st' q2).1,(h3 a' w' st' q2).2⟩
theorem leX {N:Nat} {w0:World} {bl:Bk} {a:Act} {w:World} {st st':St} {F:List Nat} (hs:SatX N w0 bl a w st F) (h:Le bl.n st st'):SatX N w0 bl a w st' F:=by
 obtain ⟨B,h1,h2,h3⟩:=rebase hs bl.n (Nat.le_refl _)
 exact (h3 a w st' (h _ _ _ _ _ h1 h2)).1
theorem SatX.put {N:Nat} {w0:World} {bl:Bk} {a:Act} {w:World} {s:List (Nat×AV)} {m:List (Nat×AO)} {nx:Nat} {F:List Nat} (h:SatX N w0 bl a w ⟨s,m,nx⟩ F) {d:Nat} (hd:d<N) {av:AV} {x:Value} (hx:∀ E:Env,Rep E w av x):SatX N w0 bl (a.put (some d) x) w ⟨(d,av)::s,m,nx⟩ F:=by
 obtain ⟨E,h1,h2,h3,h4⟩:=h
 have st:StepTo w0 bl E w [] E w:=StepTo.refl h1.inv rfl rfl rfl
 have:=h1.put (o:={ (default:Oper) with dst:=some d }) st (by simp [dstOK,hd]) (hx E)
 refine ⟨E,?_,h2,h3,h4⟩
 have e:getS ((d,av)::s)=putF (getS s) (some d) av:=by
  funext t
  simp only [getS,putF,Option.some.injEq]
 rw [e]
 exact this
theorem SatX.other {N:Nat} {w0:World} {bl:Bk} {a:Act} {w w':World} {st:St} {F:List Nat} (h:SatX N w0 bl a w st F) {r:Nat} (hr:r∈F) (hr0:w0.heap.size≤r)
  (hsz:w.heap.size≤w'.heap.size) (hos:w'.os=w.os) (hout:w'.output=w.output) (hk:∀ k,k<w.heap.size→k≠r→w'.heap[k]?=w.heap[k]?):SatX N w0 bl a w' st F:=by
 obtain ⟨E,h1,h2,h3,h4⟩:=h
 exact ⟨E,h1.other (h4 r hr).2.1 (h4 r hr).2.2 hr0 hsz hos hout hk,h2,h3,fun k hk'=>⟨Nat.lt_of_lt_of_le (h4 k hk').1 hsz,(h4 k hk').2⟩⟩
theorem put_eval {a:Act} {d t:Nat} {v:Value} (hd:d<a.tmps.size):(a.put (some d) v).eval (.tmp t)=if t=d then v else a.eval (.tmp t):=by
 simp only [Act.put,Act.eval]
 by_cases e:t=d
 ·subst e
  rw [if_pos rfl]
  simp [Array.getD_eq_getD_getElem?,hd]
 ·rw [if_neg e]
  simp [Array.getD_eq_getD_getElem?,Array.getElem?_setIfInBounds_ne (Ne.symm e)]
def keyI (e:MapEntry):Int:=match e.key with
 | .int .i64 k=>k
 | _=>0
theorem ents_key {w:World} {G:Nat→Prop}:∀ {es:List (List Int×AV)} {xs:List MapEntry},CEnts w G 1 es xs→(∀ e∈xs,e.key=.int .i64 (keyI e))∧xs.map keyI=es.map fun p=>p.1.headD 0
 | [],[],_=>by simp
 | (k,a)::r,e::s,h=>by
  simp only [CEnts] at h
  obtain ⟨⟨h1,h2⟩,_,h4⟩:=h
  obtain ⟨i1,i2⟩:=ents_key h4
  obtain ⟨n,rfl⟩:∃ n,k=[n]:=by
   match k,h1 with
   | [n],_=>exact ⟨n,rfl⟩
  have hk:e.key=.int .i64 n:=h2
  have hn:keyI e=n:=by unfold keyI;rw [hk]
  refine ⟨fun x hx=>?_,by simp [hn,i2]⟩
  rcases List.mem_cons.1 hx with rfl|hx
  ·rw [hn];exact hk
  ·exact i1 x hx
 | [],_::_,h=>by simp [CEnts] at h
 | _::_,[],h=>by simp [CEnts] at h
theorem nodup_len {α:Type}:∀ {l m:List α},l.Nodup→(∀ x∈l,x∈m)→l.length≤m.length
 | [],_,_,_=>by simp
 | x::l,m,h,hs=>by
  classical
  rw [List.nodup_cons] at h
  have h1:=nodup_len (l:=l) (m:=m.erase x) h.2 fun y hy=>by
   have:y≠x:=fun e=>h.1 (e ▸ hy)
   exact (List.mem_erase_of_ne this).2 (hs y (by simp [hy]))
  rw [List.length_erase_of_mem (hs x (by simp))] at h1
  have:0<m.length:=List.length_pos_of_mem (hs x (by simp))
  simp only [List.length_cons]
  omega
theorem map_inj_of {α β:Type} {f:α→β}:∀ {l:List α},(l.map f).Nodup→∀ a∈l,∀ b∈l,f a=f b→a=b
 | [],_,a,ha,_,_,_=>by simp at ha
 | x::l,h,a,ha,b,hb,e=>by
  rw [List.map_cons,List.nodup_cons] at h
  rcases List.mem_cons.1 ha with ea|ha'
  ·rcases List.mem_cons.1 hb with eb|hb'
   ·rw [ea,eb]
   ·exact absurd (List.mem_map.2 ⟨b,hb',by rw [← e,ea]⟩) h.1
  ·rcases List.mem_cons.1 hb with eb|hb'
   ·exact absurd (List.mem_map.2 ⟨a,ha',by rw [e,eb]⟩) h.1
   ·exact map_inj_of h.2 a ha' b hb' e
theorem nodup_of_map {α β:Type} {f:α→β} {l:List α} (h:(l.map f).Nodup):l.Nodup:=by
 unfold List.Nodup at h ⊢
 rw [List.pairwise_map] at h
 exact h.imp fun h e=>h (congrArg f e)
theorem perm_of_nodup {α:Type} {f:α→Nat} {D L:List α} (hL:(L.map f).Nodup) (hD:(D.map f).Nodup) (h1:∀ x∈D,x∈L) (h2:∀ x∈L,f x∈D.map f):D.Perm L:=by
 classical
 have hDn:D.Nodup:=nodup_of_map hD
 have hLn:L.Nodup:=nodup_of_map hL
 refine (List.perm_ext_iff_of_nodup hDn hLn).2 fun x=>⟨h1 x,fun hx=>?_⟩
 obtain ⟨y,hy,e⟩:=List.mem_map.1 (h2 x hx)
 exact map_inj_of hL y (h1 y hy) x hx e ▸ hy
def ptrK (r:Nat):Value:=.pointer (some ⟨r,0,none⟩)
theorem wantedN {o:Oper} {f:Nat→Option Bool} (h:o.guard=none):Region.wanted o f=true:=by simp [Region.wanted,h]
theorem getS_cases:∀ (l:List (Nat×AV)) (t:Nat),getS l t=.any∨∃ p∈l,p.1=t∧getS l t=p.2
 | [],t=>.inl rfl
 | (k,a)::r,t=>by
  simp only [getS]
  by_cases e:k=t
  ·rw [if_pos e]
   exact .inr ⟨(k,a),by simp,e,rfl⟩
  ·rw [if_neg e]
   rcases getS_cases r t with h|⟨p,hp,h1,h2⟩
   ·exact .inl h
   ·exact .inr ⟨p,by simp [hp],h1,h2⟩
theorem op_move {P:Program} {ops:Array Oper} {Q:Exit→Act→World→Prop} {o:Oper} {rest:List Oper} {a:Act} {w:World} {x:Operand} {d:Nat} (h:o.op=.move x∨o.op=.assign x) (hd:o.dst=some d) (hg:o.guard=none)
  (hn:wpList P ops Q rest (a.put (some d) (a.eval x)) w):wpList P ops Q (o::rest) a w:=by
 unfold wpList
 rw [if_pos (wantedN hg)]
 left
 unfold Oper.wp execOp
 rcases h with h|h<;>simp only [h]<;>(show wpList P ops Q rest (a.put o.dst (a.eval x)) w;rw [hd];exact hn)
theorem op_extract {P:Program} {ops:Array Oper} {Q:Exit→Act→World→Prop} {o:Oper} {rest:List Oper} {a:Act} {w:World} {x:Operand} {d i:Nat} {vs:Array Value} {v:Value} (h:o.op=.extract x i) (hd:o.dst=some d) (hg:o.guard=none)
  (hx:a.eval x=.tuple vs) (hv:vs[i]?=some v) (hn:wpList P ops Q rest (a.put (some d) v) w):wpList P ops Q (o::rest) a w:=by
 unfold wpList
 rw [if_pos (wantedN hg)]
 left
 unfold Oper.wp execOp
 simp only [h,hx,Instr.extract,hv]
 show wpList P ops Q rest (a.put o.dst v) w
 rw [hd];exact hn
theorem op_run {P:Program} {ops:Array Oper} {Q:Exit→Act→World→Prop} {o:Oper} {rest:List Oper} {a:Act} {w w':World} {v:Value} {d:Nat} {S:Sem Value} (h:execOp a.eval o=(do pure (.value (← S)))) (hd:o.dst=some d) (hg:o.guard=none)
  (hs:S.run P w=.ok v w') (hn:wpList P ops Q rest (a.put (some d) v) w'):wpList P ops Q (o::rest) a w:=by
 unfold wpList
 rw [if_pos (wantedN hg)]
 left
 unfold Oper.wp
 rw [h]
 simp only [Sem.run_bind,hs,Result.andThen_ok,Sem.run_pure]
 show wpList P ops Q rest (a.put o.dst v) w'
 rw [hd];exact hn
theorem aw_keys {c:Cx} {st:St} {Q:Exit→St→Prop} {i1 i3 i5 bi bj n0 s5 b m d1 d2 d3 d4 d5 d6 d7:Nat} {tm kt et:TypeId} {o1 o2 o3 o4 o5 o6 o7:Oper} {BODY:Code} {es:List (List Int×AV)} (kp:List (Nat×AV)) (S:Nat→List Int→St)
  (q1:o1.op=.move (.tmp s5)) (q1d:o1.dst=some d1) (q1g:o1.guard=none)
  (q2:o2.op=.range tm (.tmp d1)) (q2d:o2.dst=some d2) (q2g:o2.guard=none)
  (q3:o3.op=.next (.tmp d2) false) (q3d:o3.dst=some d3) (q3g:o3.guard=none)
  (q4:o4.op=.extract (.tmp d3) 0) (q4d:o4.dst=some d4) (q4g:o4.guard=none)
  (q5:o5.op=.entry (.tmp d2)) (q5d:o5.dst=some d5) (q5g:o5.guard=none)
  (q6:o6.op=.extract (.tmp d5) 0) (q6d:o6.dst=some d6) (q6g:o6.guard=none)
  (q7:o7.op=.assign (.tmp d6)) (q7d:o7.dst=some d7) (q7g:o7.guard=none)
  (hN:d1<c.N∧d2<c.N∧d3<c.N∧d4<c.N∧d5<c.N∧d6<c.N∧d7<c.N) (hdd:d3≠d2∧d4≠d2∧d1≠d2)
  (htm:c.P.underlying tm=some (.map kt et)) (hm:getS st.s s5=.mp b m) (hob:getM st.m b=.map m 1 es) (hbn:c.bl.n≤b) (hn0:c.bl.n≤n0)
  (hkp:∀ p∈kp,getS st.s p.1=p.2∧p.2.isClosed=true)
  (h0:∀ r,Le c.bl.n ⟨(d2,.v (ptrK r))::(d1,.any)::kp,[],n0⟩ (S r []))
  (hS2:∀ r ks,getS (S r ks).s d2=.v (ptrK r))
  (hb:∀ w1 bl1 r ks x,bl1.n=c.bl.n→ks.length<es.length→AW ⟨c.P,c.X,c.N,w1,bl1⟩ BODY ⟨(d7,.v (.int .i64 x))::(d6,.v (.int .i64 x))::(d5,.any)::(d4,.v (.bool true))::(d3,.any)::(S r ks).s,(S r ks).m,(S r ks).nx⟩
   (fun e st'=>e=.normal∧Le c.bl.n st' (S r (ks++[x]))))
  (hq:∀ r ks,ks.Perm (es.map fun p=>p.1.headD 0)→Q .normal ⟨(d4,.v (.bool false))::(d3,.any)::(S r ks).s,(S r ks).m,(S r ks).nx⟩) :
  AW c (.seq (.region i1 #[o1,o2] false) (.block bi (.loop (.seq (.region i3 #[o3,o4] false) (.seq (.cond (.tmp d4) .skip (.exit bi)) (.block bj (.seq (.region i5 #[o5,o6,o7] false) BODY))))))) st Q:=by
 rintro a w ⟨E,h1,h2,h3⟩
 obtain ⟨g1,g2,g0,blk,ents,clk,g3,g4,g5,g6⟩:=mp_parts hob (by have:=h1.slots s5;rw [hm] at this;exact this) h1.mem
 obtain ⟨hN1,hN2,hN3,hN4,hN5,hN6,hN7⟩:=hN
 obtain ⟨r,hr⟩:∃ r,r=w.heap.size:=⟨_,rfl⟩
 have hr0:c.w0.heap.size≤r:=by rw [hr];exact h1.inv.frame.size
 have hblk:blk<w.heap.size:=(Array.getElem?_eq_some_iff.1 g5).1
 let E0:Env:={ E with alive:=fun k=>E.alive k∧k<c.bl.n }
 have hsat:SatF c.N c.w0 c.bl E0 a w (getS kp) (getM []):=by
  refine ⟨h1.defers,h1.size,?_,fun k hk=>trivial,fun t=>?_⟩
  ·have i0:=h1.inv
   exact ⟨i0.frame,⟨i0.gin.G,fun k hk=>⟨i0.gin.alive k hk,i0.low k hk⟩,i0.gin.same⟩,i0.low,i0.gout,i0.good,fun k q z s hk hl=>i0.locs k q z s hk.1 hl,fun k k' q z s z' s' hk hk'=>i0.apart k k' q z s z' s' hk.1 hk'.1⟩
  ·rcases getS_cases kp t with e|⟨p,hp,rfl,e⟩
   ·rw [e];simp [Rep,CRep]
   ·obtain ⟨k1,k2⟩:=hkp p hp
    have hr':=h1.slots p.1
    rw [k1] at hr'
    rw [e]
    have hc':CRep w E.G p.2 (a.tmps.getD p.1 undef):=hr'.to_c k2
    exact Rep.of_c (E:=E0) hc'
 have hblkU:¬ E0.G blk∧∀ b' base sz,E0.alive b'→E0.loc b'≠some (blk,base,sz):=by
  refine ⟨(h1.inv.locs b blk 0 0 g1 g3).2.1,fun b' base sz hb' hl'=>?_⟩
  have e:=h1.inv.apart b b' blk 0 0 base sz g1 hb'.1 g3 hl'
  have:=hb'.2
  omega
 have hrU:¬ E0.G r∧∀ b' base sz,E0.alive b'→E0.loc b'≠some (r,base,sz):=by
  refine ⟨fun hg=>?_,fun b' base sz hb' hl'=>?_⟩
  ·have:=h1.inv.good r hg;omega
  ·have:=(h1.inv.locs b' r base sz hb'.1 hl').1;omega
 obtain ⟨w1,hw1⟩:∃ w1,w1=w.alloc (.mapIter (some blk) clk #[] clk):=⟨_,rfl⟩
 have hsz1:w1.heap.size=w.heap.size+1:=by rw [hw1];simp
 have hold1:∀ k,k<w.heap.size→w1.heap[k]?=w.heap[k]?:=fun k hk=>by rw [hw1];exact heap_alloc_old w _ hk
 have hnew1:w1.heap[r]?=some (.mapIter (some blk) clk #[] clk):=by rw [hw1,hr];exact heap_alloc_new w _
 have hX0:SatX c.N c.w0 c.bl a w1 ⟨kp,[],n0⟩ [blk,r]:=by
  refine ⟨E0,hsat.other hrU.1 hrU.2 hr0 (by omega) (by rw [hw1];rfl) (by rw [hw1];rfl) fun k hk _=>hold1 k hk,fun k hk=>by have:=hk.2;show k<n0;omega,fun k hk=>absurd rfl hk,fun k hk=>?_⟩
  simp only [List.mem_cons,List.not_mem_nil,or_false] at hk
  rcases hk with rfl|rfl
  ·exact ⟨by omega,hblkU⟩
  ·exact ⟨by omega,hrU⟩
 refine wp_seq (wp_region_list ?_)
 show wpList c.P #[o1,o2] _ [o1,o2] a w
 refine op_move (.inl q1) q1d q1g ?_
 have hsz:a.tmps.size=c.N:=h1.size
 have ev1:a.eval (.tmp s5)=.map (some blk):=g4
 rw [ev1]
 refine op_run (S:=Instr.range tm ((a.put (some d1) (.map (some blk))).eval (.tmp d1))) (by unfold execOp;simp only [q2]) q2d q2g (v:=ptrK r) (w':=w1) ?_ ?_
 ·rw [put_eval (by omega),if_pos rfl,hw1,hr]
  exact run_range_map w tm kt et blk ents.toArray clk htm g5
 have hX1:=leX ((hX0.put (d:=d1) hN1 (av:=.any) (x:=.map (some blk)) fun E=>by simp [Rep,CRep]).put (d:=d2) hN2 (av:=.v (ptrK r)) (x:=ptrK r) fun E=>by simp [Rep,CRep]) (h0 r)
 show (Code.block bi _).wp c.P _ _ _
 refine wp_block ?_
 let I:Act→World→Prop:=fun a w=>∃ (ks:List Int) (D:List MapEntry) (seen:Array Nat) (c0:Nat),SatX c.N c.w0 c.bl a w (S r ks) [blk,r]∧w.heap[r]?=some (.mapIter (some blk) clk seen c0)∧clk≤c0∧w.heap[blk]?=some (.map ents.toArray clk)∧seen.toList=D.map (·.born)∧(∀ e∈D,e∈ents)∧(D.map (·.born)).Nodup∧ks=D.map keyI
 refine wp_loop I (fun _ w=>ents.length - (w.iterSeen r).size) ?_ ?_
 ·exact ⟨[],[],#[],clk,hX1,hnew1,Nat.le_refl _,by rw [hold1 blk hblk];exact g5,rfl,by simp,by simp,rfl⟩
 ·rintro a3 w3 ⟨ks,D,seen,c0,j1,j2,j3,j4,j5,j6,j7,j8⟩
  have hsz3:a3.tmps.size=c.N:=by obtain ⟨E',k1,_⟩:=j1;exact k1.size
  have hsl:a3.eval (.tmp d2)=ptrK r:=by
   obtain ⟨E',k1,_⟩:=j1
   have:=k1.slots d2
   rw [hS2] at this
   have h6:a3.tmps.getD d2 undef=ptrK r:=by simpa only [Rep,CRep] using this
   exact h6
  refine wp_seq (wp_region_list ?_)
  show wpList c.P #[o3,o4] _ [o3,o4] a3 w3
  rcases run_next_at (P:=c.P) w3 o3.type r blk clk c0 seen ents.toArray clk j2 j4 (by simpa using g6.2.1) j3 with ⟨l0,hrun⟩|⟨e,he,w4,hw4,hrun⟩
  ·refine op_run (S:=Instr.next (a3.eval (.tmp d2)) false o3.type) (by unfold execOp;simp only [q3]) q3d q3g (by rw [hsl];exact hrun) ?_
   refine op_extract q4 q4d q4g (vs:=#[.bool false]) (v:=.bool false) (by rw [put_eval (by omega),if_pos rfl]) rfl ?_
   have hf:∀ x,(a3.put (some d3) (.tuple #[.bool false])).tmps.size=x→x=c.N:=fun x hx=>by rw [← hx];simp [Act.put,hsz3]
   show (Code.seq (.cond (.tmp d4) .skip (.exit bi)) _).wp c.P _ _ _
   refine wp_seq (wp_cond_split (t:=false) (by rw [put_eval (by rw [hf _ rfl];exact hN4),if_pos rfl]) (fun h=>by cases h) fun _=>wp_exit ?_)
   simp only [Exit.then,Exit.inBlock,if_true]
   refine ⟨_,hq r ks ?_,((j1.put (d:=d3) hN3 (av:=.any) (x:=.tuple #[.bool false]) fun E=>by simp [Rep,CRep]).put (d:=d4) hN4 (av:=.v (.bool false)) (x:=.bool false) fun E=>by simp [Rep,CRep]).sat⟩
   have hp:D.Perm ents:=by
    refine perm_of_nodup (f:=fun e:MapEntry=>e.born) g6.2.2 j7 j6 fun x hx=>?_
    have hz:leftOf ents.toArray seen=#[]:=Array.eq_empty_of_size_eq_zero l0
    unfold leftOf at hz
    rw [Array.filter_eq_empty_iff] at hz
    have:=hz x (by simpa using hx)
    simp only [Bool.not_eq_true,Bool.not_eq_false'] at this
    have h5:x.born∈seen.toList:=by simpa using this
    rw [j5] at h5
    exact h5
   rw [j8,← (ents_key g6.1).2]
   exact hp.map _
  ·have hem:e∈ents∧e.born ∉ seen.toList:=by
    unfold leftOf at he
    simp at he
    exact ⟨he.1,by simpa using he.2⟩
   obtain ⟨w5,hw5⟩:∃ w5,w5=ChangeMaps.setBlock w4 r (.mapIter (some blk) clk (seen.push e.born) clk):=⟨_,rfl⟩
   rw [← hw5] at hrun
   have h4h:w4.heap=w3.heap∧w4.os=w3.os∧w4.output=w3.output:=by
    rcases hw4 with rfl|rfl
    ·exact ⟨rfl,rfl,rfl⟩
    ·exact ⟨rfl,rfl,rfl⟩
   have hrlt:r<w3.heap.size:=(Array.getElem?_eq_some_iff.1 j2).1
   have h5s:w5.heap.size=w3.heap.size:=by rw [hw5,← h4h.1];simp [ChangeMaps.setBlock]
   have h5r:w5.heap[r]?=some (.mapIter (some blk) clk (seen.push e.born) clk):=by
    rw [hw5]
    simp [ChangeMaps.setBlock,h4h.1,hrlt]
   have h5k:∀ k,k≠r→w5.heap[k]?=w3.heap[k]?:=fun k hk=>by
    rw [hw5,← h4h.1]
    simp only [ChangeMaps.setBlock]
    rw [Array.getElem?_setIfInBounds_ne (Ne.symm hk)]
   have hbr:blk≠r:=by omega
   have k1:SatX c.N c.w0 c.bl a3 w5 (S r ks) [blk,r]:=j1.other (r:=r) (by simp) hr0 (by omega) (by rw [hw5];exact h4h.2.1) (by rw [hw5];exact h4h.2.2) fun k _ hk=>h5k k hk
   refine op_run (S:=Instr.next (a3.eval (.tmp d2)) false o3.type) (by unfold execOp;simp only [q3]) q3d q3g (by rw [hsl];exact hrun) ?_
   obtain ⟨a4,ha4⟩:∃ a4,a4=a3.put (some d3) (.tuple #[.bool true,e.key,e.val]):=⟨_,rfl⟩
   rw [← ha4]
   have hsz4:a4.tmps.size=c.N:=by rw [ha4];simp [Act.put,hsz3]
   refine op_extract q4 q4d q4g (vs:=#[.bool true,e.key,e.val]) (v:=.bool true) (by rw [ha4,put_eval (by omega),if_pos rfl]) rfl ?_
   obtain ⟨a5,ha5⟩:∃ a5,a5=a4.put (some d4) (.bool true):=⟨_,rfl⟩
   rw [← ha5]
   have hsz5:a5.tmps.size=c.N:=by rw [ha5];simp [Act.put,hsz4]
   have k2:=(k1.put (d:=d3) hN3 (av:=.any) (x:=.tuple #[.bool true,e.key,e.val]) fun E=>by simp [Rep,CRep]).put (d:=d4) hN4 (av:=.v (.bool true)) (x:=.bool true) fun E=>by simp [Rep,CRep]
   rw [← ha4,← ha5] at k2
   show (Code.seq (.cond (.tmp d4) .skip (.exit bi)) _).wp c.P _ _ _
   refine wp_seq (wp_cond_split (t:=true) (by rw [ha5,put_eval (by omega),if_pos rfl]) (fun _=>wp_skip ?_) fun h=>by cases h)
   show (Code.block bj _).wp c.P _ _ _
   refine wp_block (wp_seq (wp_region_list ?_))
   show wpList c.P #[o5,o6,o7] _ [o5,o6,o7] a5 w5
   have hsl5:a5.eval (.tmp d2)=ptrK r:=by
    rw [ha5,put_eval (by omega),if_neg (Ne.symm hdd.2.1),ha4,put_eval (by omega),if_neg (Ne.symm hdd.1)]
    exact hsl
   refine op_run (S:=Instr.entry (a5.eval (.tmp d2))) (by unfold execOp;simp only [q5]) q5d q5g (v:=.tuple #[e.key,e.val]) (w':=w5) ?_ ?_
   ·rw [hsl5]
    exact run_entry_at w5 r blk clk seen ents.toArray clk e h5r (by rw [h5k blk hbr];exact j4) (by simpa using hem.1) (by simpa using g6.2.2)
   obtain ⟨a6,ha6⟩:∃ a6,a6=a5.put (some d5) (.tuple #[e.key,e.val]):=⟨_,rfl⟩
   rw [← ha6]
   have hsz6:a6.tmps.size=c.N:=by rw [ha6];simp [Act.put,hsz5]
   have hkey:=(ents_key g6.1).1 e hem.1
   refine op_extract q6 q6d q6g (vs:=#[e.key,e.val]) (v:=e.key) (by rw [ha6,put_eval (by omega),if_pos rfl]) rfl ?_
   rw [hkey]
   obtain ⟨a7,ha7⟩:∃ a7,a7=a6.put (some d6) (.int .i64 (keyI e)):=⟨_,rfl⟩
   rw [← ha7]
   have hsz7:a7.tmps.size=c.N:=by rw [ha7];simp [Act.put,hsz6]
   refine op_move (.inr q7) q7d q7g ?_
   have he7:a7.eval (.tmp d6)=.int .i64 (keyI e):=by rw [ha7,put_eval (by omega),if_pos rfl]
   rw [he7]
   have k3:=((k2.put (d:=d5) hN5 (av:=.any) (x:=.tuple #[e.key,e.val]) fun E=>by simp [Rep,CRep]).put (d:=d6) hN6 (av:=.v (.int .i64 (keyI e))) (x:=.int .i64 (keyI e)) fun E=>by simp [Rep,CRep]).put (d:=d7) hN7 (av:=.v (.int .i64 (keyI e))) (x:=.int .i64 (keyI e)) fun E=>by simp [Rep,CRep]
   rw [← ha6,← ha7] at k3
   have hDe:∀ x∈D++[e],x∈ents:=fun x hx=>by
    rcases List.mem_append.1 hx with h|h
    ·exact j6 x h
    ·simp at h;rw [h];exact hem.1
   have hDn:((D++[e]).map (·.born)).Nodup:=by
    rw [List.map_append]
    refine List.nodup_append.2 ⟨j7,by simp,fun x hx y hy hxy=>?_⟩
    simp at hy
    rw [hxy,hy,← j5] at hx
    exact hem.2 hx
   have hDl:D.length<ents.length:=by
    have:=nodup_len (nodup_of_map hDn) hDe
    simp at this
    omega
   have hsl0:seen.size=D.length:=by
    have:=congrArg List.length j5
    simpa using this
   have hlen:ents.length=es.length:=g6.1.len
   show BODY.wp c.P _ _ _
   refine wp_mono (sub_run k3 fun w1' bl1 hn=>hb w1' bl1 r ks (keyI e) hn (by rw [j8];simp;omega)) fun e' a' w' ⟨st',⟨he',hle⟩,hx,hk⟩=>?_
   subst he'
   have m1:w'.heap[r]?=some (.mapIter (some blk) clk (seen.push e.born) clk):=by rw [hk r (by simp)];exact h5r
   refine ⟨⟨ks++[keyI e],D++[e],seen.push e.born,clk,leX hx hle,m1,Nat.le_refl _,?_,?_,hDe,hDn,by rw [j8];simp⟩,?_⟩
   ·rw [hk blk (by simp),h5k blk hbr];exact j4
   ·simp [j5]
   ·show ents.length - (w'.iterSeen r).size<ents.length - (w3.iterSeen r).size
    have s1:w'.iterSeen r=seen.push e.born:=by unfold World.iterSeen;rw [m1]
    have s2:w3.iterSeen r=seen:=by unfold World.iterSeen;rw [j2]
    rw [s1,s2]
    simp
    omega
end Go.AM
namespace Go.AM
open Go Go.Proofs
@[simp] theorem tyMb:Types Try.prog 92=some ⟨.map 3 4 (some (.bool false)),1,8,[.map none]⟩:=by kernel_rfl
@[simp] theorem one_mapM (b:Option Nat):(Value.map b).oneCell'=true:=rfl
def kvs (L:List Int):List (List Int×AV):=L.map fun k=>([k],B true)
def dd1 (L:List Int) (k:Int):List Int:=if k∈L then L else L++[k]
theorem mset_kvs {k:Int}:∀ {L:List Int},mset (kvs L) [k] (B true)=kvs (dd1 L k)
 | []=>by simp [kvs,mset,dd1]
 | x::L=>by
  have ih:=mset_kvs (k:=k) (L:=L)
  simp only [kvs,List.map_cons,mset,dd1,List.mem_cons,List.cons.injEq,and_true] at ih ⊢
  by_cases h:k=x
  ·subst h;simp
  ·simp only [h,if_false,false_or]
   rw [ih]
   split<;>simp
theorem kvs_keys {L:List Int}:(kvs L).map (fun p=>p.1.headD 0)=L:=by
 unfold kvs
 rw [List.map_map]
 simp [Function.comp_def]
def frJ (n:Int) (L:List Int):Nat→List Int
 | 0=>L
 | j+1=>dd1 (frJ n L j) (n+j)
def rcE (x:Te):En:=(decR x.2.2).1
def rcS (wr:Bool) (x:Te):Bool:=wr&&!((rcE x).2.2.1&&(rcE x).2.2.2.2.1)
def rcJ (x:Te):Nat:=if (rcE x).2.2.2.2.2=true then 8 else 1
def rcL (wr:Bool) (l:List Te):Nat→List Int
 | 0=>[]
 | i+1=>if rcS wr (gt l i)=true then rcL wr l i else frJ (rcE (gt l i)).2.1 (rcL wr l i) (rcJ (gt l i))
noncomputable def rcT (b:Tl) (wr:Bool):List Int:=if chB b≠0 then [] else sortL (rcL wr b.2 b.2.length)
theorem dd1_len {L:List Int} {k:Int}:(dd1 L k).length≤L.length+1:=by unfold dd1;split<;>simp
theorem frJ_len {n:Int} {L:List Int}:∀ {j:Nat},(frJ n L j).length≤L.length+j
 | 0=>Nat.le_refl _
 | j+1=>by
  have:=@frJ_len n L j
  have h2:=@dd1_len (frJ n L j) (n+j)
  simp only [frJ]
  omega
theorem rcL_len {wr:Bool} {l:List Te}:∀ {i:Nat},(rcL wr l i).length≤8*i
 | 0=>Nat.le_refl _
 | i+1=>by
  have:=@rcL_len wr l i
  simp only [rcL]
  split
  ·omega
  ·have h2:=@frJ_len (rcE (gt l i)).2.1 (rcL wr l i) (rcJ (gt l i))
   have h3:rcJ (gt l i)≤8:=by unfold rcJ;split<;>omega
   omega
def rkS (r:Nat):List Int→St
 | []=>⟨[(12,.v (.slice none 0 0)),(55,.v (ptrK r))],[],1⟩
 | k::ks=>⟨[(12,.sl 1 1 1 0 (ks.length+1)),(55,.v (ptrK r))],[(1,.vec 1 1 false (irows (k::ks)))],2⟩
theorem sortL_congr {a b:List Int} (h:a.Perm b):sortL a=sortL b:=sorted_perm (sortL_sorted _) (sortL_sorted _) ((sortL_perm a).trans (h.trans (sortL_perm b).symm))
noncomputable def RcF:List AV→Option AV:=specF (ι:={x:Tl×Bool // tlOK x.1}) (fun x=>[TlV x.1.1,B x.1.2]) fun x=>retOf [.ow 1 (irows (rcT x.1.1 x.1.2))]
set_option maxHeartbeats 8000000 in
theorem s17 (X:AX) (hX:XOK Try.prog X) (hw:X.W wT) (hct:∀ b:Tl,tlOK b→∀ M k,X.call 44 [TlV b] M k=some (I (chB b),[]))
  (hde:∀ w:Nat,w<2^64→∀ M k,X.call 30 [U w] M k=some (.tup [EnV (decR w).1,I (decR w).2],[])) (hso:X.call 45=callG siS):PSound Try.prog 17 RcF:=by
 unfold RcF
 refine psound_spec hX mixed Try.func17 rfl fun ⟨⟨⟨z,l⟩,wr⟩,hok⟩ w0 G=>⟨by show 2≤67;decide,rfl,?_⟩
 show AW ⟨Try.prog,X,67,w0,.pure G⟩ _ _ _
 have hc:Cx.OK ⟨Try.prog,X,67,w0,.pure G⟩:=⟨hX,mixed⟩
 simp only at hok ⊢
 have ht:=hct _ hok
 rcases Decidable.em (chB (z,l)=0) with h0|h0
 ·have e:rcT (z,l) wr=sortL (rcL wr l l.length):=by unfold rcT;rw [if_neg (by simp [h0])]
  rw [e]
  rw [h0] at ht
  have hz:=chB_z.1 h0
  simp only at hz
  have hl16:l.length≤16:=by omega
  simp only [TlV] at ht ⊢
  have zS:=ht
  repeat' (first|(apply aw_seq_k;intro K hK)|(refine eM64 ?_)|(refine aw_cond (b:=_) (by exact rfl) (fun h=>?_) (fun h=>?_)<;>(try simp at h))|(refine eB ?_)|(refine hK _ ?_;clear hK)|(clear hK;refine hK _ ?_;clear hK)|(clear hK;clear hK;refine hK _ ?_;clear hK)|(clear hK;clear hK;clear hK;refine hK _ ?_;clear hK))
  all_goals clear zS
  refine aw_loopK (s0:=?lps1) (m0:=?lpm1) (ι:={i:Nat // i≤l.length}) [1,5,19,20] (fun i=>[(21,I i.1)]) (fun i=>[(80,.map 1 1 (kvs (rcL wr l i.1)))]) (fun i=>l.length - i.1) ⟨0,by omega⟩ ?lhs1 ?lhm1 ?_ ?_
  case lhs1=>first|(simp [keepS];done)|(simp [keepS];rfl)
  case lhm1=>first|rfl|(simp;done)|(simp;rfl)
  ·simp only [show kvs (rcL wr l 0)=[] from rfl]
   exact dle
  ·rintro ⟨i,hi⟩
   simp only
   rcases Decidable.em (i<l.length) with hil|hil
   ·have hilI:(i:Int)<(l.length:Int):=by omega
    have hg:=trows_gi hil
    have hgE:=trows_gE hil
    have hu:=hok.2 _ (gt_mem hil)
    have hst:rcL wr l (i+1)=if rcS wr (gt l i)=true then rcL wr l i else frJ (rcE (gt l i)).2.1 (rcL wr l i) (rcJ (gt l i)):=rfl
    have hrn:=decR_rng (gt l i).2.2
    simp only at hu
    have de:=hde _ hu
    unfold rcS rcJ rcE at hst
    obtain ⟨⟨x1,x2,x3⟩,hm⟩:∃ m,m=gt l i:=⟨_,rfl⟩
    rw [← hm] at hg hgE hst hrn de
    simp only [trow,U] at hg hgE hst hrn de
    obtain ⟨⟨⟨k,num,b1,b2,b3,hgf⟩,er⟩,hx⟩:∃ x,x=decR x3:=⟨_,rfl⟩
    rw [← hx] at hst hrn de
    simp only [EnV] at hst hrn de
    obtain ⟨L,hL⟩:∃ L,L=rcL wr l i:=⟨_,rfl⟩
    rw [← hL] at hst
    simp only [← hL]
    have loop1:∀ n:Nat,n=1∨n=8→∀ j,j<n→True:=fun _ _ _ _=>trivial
    have hmj:=fun j:Nat=>@mset_kvs (num+(j:Int)) (frJ num L j)
    have hfj:∀ j:Nat,dd1 (frJ num L j) (num+(j:Int))=frJ num L (j+1):=fun _=>rfl
    cases wr with
    | true =>
     cases b1 with
     | true =>
      cases b3 with
      | true =>
       rw [if_neg (by simp)] at hst
       cases hgf with
       | false =>
        rw [if_neg (by decide)] at hst
        have zS:=jj hilI<|jj hil<|jj hg<|jj hgE<|de
        repeat' (first|(apply aw_seq_k;intro K hK)|(refine eM64 ?_)|(refine aw_cond (b:=_) (by exact rfl) (fun h=>?_) (fun h=>?_)<;>(try simp at h))|(refine eB ?_)|(refine hK _ ?_;clear hK)|(clear hK;refine hK _ ?_;clear hK)|(clear hK;clear hK;refine hK _ ?_;clear hK)|(clear hK;clear hK;clear hK;refine hK _ ?_;clear hK))
        all_goals clear zS
        refine aw_loopK (s0:=?lps2) (m0:=?lpm2) (ι:={j:Nat // j≤1}) [1,5,8,19,20,21,43] (fun j=>[(44,I j.1)]) (fun j=>[(80,.map 1 1 (kvs (frJ num L j.1)))]) (fun j=>1 - j.1) ⟨0,by omega⟩ ?lhs2 ?lhm2 ?_ ?_
        case lhs2=>first|(simp [keepS];done)|(simp [keepS];rfl)
        case lhm2=>first|rfl|(simp;done)|(simp;rfl)
        ·simp only [show frJ num L 0=L from rfl]
         exact dle
        ·rintro ⟨j,hj⟩
         simp only
         rcases Decidable.em (j<1) with hjl|hjl
         ·have hjI:(j:Int)<1:=by omega
          have hmj':=hmj j
          rw [hfj] at hmj'
          have zS:=jj hjl<|jj hjI<|hmj'
          repeat' (first|(apply aw_seq_k;intro K hK)|(refine eM64 ?_)|(refine aw_cond (b:=_) (by exact rfl) (fun h=>?_) (fun h=>?_)<;>(try simp at h))|(refine eB ?_)|(refine hK _ ?_;clear hK)|(clear hK;refine hK _ ?_;clear hK)|(clear hK;clear hK;refine hK _ ?_;clear hK)|(clear hK;clear hK;clear hK;refine hK _ ?_;clear hK))
          all_goals clear zS
          refine ⟨j+1,?_,by omega,by omega⟩
          exact dle
         ·obtain rfl:j=1:=by omega
          repeat' (first|(apply aw_seq_k;intro K hK)|(refine eM64o ?_)|(refine aw_cond (b:=_) (by exact rfl) (fun h=>?_) (fun h=>?_)<;>(try simp at h))|(refine eB ?_)|(refine hK _ ?_;clear hK)|(clear hK;refine hK _ ?_;clear hK)|(clear hK;clear hK;refine hK _ ?_;clear hK)|(clear hK;clear hK;clear hK;refine hK _ ?_;clear hK))
          refine ⟨i+1,?_,by omega,by omega⟩
          simp only [hst]
          exact dle
       | true =>
        rw [if_pos rfl] at hst
        have zS:=jj hilI<|jj hil<|jj hg<|jj hgE<|de
        repeat' (first|(apply aw_seq_k;intro K hK)|(refine eM64 ?_)|(refine aw_cond (b:=_) (by exact rfl) (fun h=>?_) (fun h=>?_)<;>(try simp at h))|(refine eB ?_)|(refine hK _ ?_;clear hK)|(clear hK;refine hK _ ?_;clear hK)|(clear hK;clear hK;refine hK _ ?_;clear hK)|(clear hK;clear hK;clear hK;refine hK _ ?_;clear hK))
        all_goals clear zS
        refine aw_loopK (s0:=?lps3) (m0:=?lpm3) (ι:={j:Nat // j≤8}) [1,5,8,19,20,21,43] (fun j=>[(44,I j.1)]) (fun j=>[(80,.map 1 1 (kvs (frJ num L j.1)))]) (fun j=>8 - j.1) ⟨0,by omega⟩ ?lhs3 ?lhm3 ?_ ?_
        case lhs3=>first|(simp [keepS];done)|(simp [keepS];rfl)
        case lhm3=>first|rfl|(simp;done)|(simp;rfl)
        ·simp only [show frJ num L 0=L from rfl]
         exact dle
        ·rintro ⟨j,hj⟩
         simp only
         rcases Decidable.em (j<8) with hjl|hjl
         ·have hjI:(j:Int)<8:=by omega
          have hmj':=hmj j
          rw [hfj] at hmj'
          have zS:=jj hjl<|jj hjI<|hmj'
          repeat' (first|(apply aw_seq_k;intro K hK)|(refine eM64 ?_)|(refine aw_cond (b:=_) (by exact rfl) (fun h=>?_) (fun h=>?_)<;>(try simp at h))|(refine eB ?_)|(refine hK _ ?_;clear hK)|(clear hK;refine hK _ ?_;clear hK)|(clear hK;clear hK;refine hK _ ?_;clear hK)|(clear hK;clear hK;clear hK;refine hK _ ?_;clear hK))
          all_goals clear zS
          refine ⟨j+1,?_,by omega,by omega⟩
          exact dle
         ·obtain rfl:j=8:=by omega
          repeat' (first|(apply aw_seq_k;intro K hK)|(refine eM64o ?_)|(refine aw_cond (b:=_) (by exact rfl) (fun h=>?_) (fun h=>?_)<;>(try simp at h))|(refine eB ?_)|(refine hK _ ?_;clear hK)|(clear hK;refine hK _ ?_;clear hK)|(clear hK;clear hK;refine hK _ ?_;clear hK)|(clear hK;clear hK;clear hK;refine hK _ ?_;clear hK))
          refine ⟨i+1,?_,by omega,by omega⟩
          simp only [hst]
          exact dle
      | false =>
       rw [if_pos (by simp)] at hst
       have zS:=jj hilI<|jj hil<|jj hg<|jj hgE<|de
       repeat' (first|(apply aw_seq_k;intro K hK)|(refine eM64 ?_)|(refine aw_cond (b:=_) (by exact rfl) (fun h=>?_) (fun h=>?_)<;>(try simp at h))|(refine eB ?_)|(refine hK _ ?_;clear hK)|(clear hK;refine hK _ ?_;clear hK)|(clear hK;clear hK;refine hK _ ?_;clear hK)|(clear hK;clear hK;clear hK;refine hK _ ?_;clear hK))
       all_goals clear zS
       refine ⟨i+1,?_,by omega,by omega⟩
       simp only [hst]
       exact dle
     | false =>
      rw [if_pos (by simp)] at hst
      have zS:=jj hilI<|jj hil<|jj hg<|jj hgE<|de
      repeat' (first|(apply aw_seq_k;intro K hK)|(refine eM64 ?_)|(refine aw_cond (b:=_) (by exact rfl) (fun h=>?_) (fun h=>?_)<;>(try simp at h))|(refine eB ?_)|(refine hK _ ?_;clear hK)|(clear hK;refine hK _ ?_;clear hK)|(clear hK;clear hK;refine hK _ ?_;clear hK)|(clear hK;clear hK;clear hK;refine hK _ ?_;clear hK))
      all_goals clear zS
      refine ⟨i+1,?_,by omega,by omega⟩
      simp only [hst]
      exact dle
    | false =>
     rw [if_neg (by simp)] at hst
     cases hgf with
     | false =>
      rw [if_neg (by decide)] at hst
      have zS:=jj hilI<|jj hil<|jj hg<|jj hgE<|de
      repeat' (first|(apply aw_seq_k;intro K hK)|(refine eM64 ?_)|(refine aw_cond (b:=_) (by exact rfl) (fun h=>?_) (fun h=>?_)<;>(try simp at h))|(refine eB ?_)|(refine hK _ ?_;clear hK)|(clear hK;refine hK _ ?_;clear hK)|(clear hK;clear hK;refine hK _ ?_;clear hK)|(clear hK;clear hK;clear hK;refine hK _ ?_;clear hK))
      all_goals clear zS
      refine aw_loopK (s0:=?lps4) (m0:=?lpm4) (ι:={j:Nat // j≤1}) [1,5,8,19,20,21,43] (fun j=>[(44,I j.1)]) (fun j=>[(80,.map 1 1 (kvs (frJ num L j.1)))]) (fun j=>1 - j.1) ⟨0,by omega⟩ ?lhs4 ?lhm4 ?_ ?_
      case lhs4=>first|(simp [keepS];done)|(simp [keepS];rfl)
      case lhm4=>first|rfl|(simp;done)|(simp;rfl)
      ·simp only [show frJ num L 0=L from rfl]
       exact dle
      ·rintro ⟨j,hj⟩
       simp only
       rcases Decidable.em (j<1) with hjl|hjl
       ·have hjI:(j:Int)<1:=by omega
        have hmj':=hmj j
        rw [hfj] at hmj'
        have zS:=jj hjl<|jj hjI<|hmj'
        repeat' (first|(apply aw_seq_k;intro K hK)|(refine eM64 ?_)|(refine aw_cond (b:=_) (by exact rfl) (fun h=>?_) (fun h=>?_)<;>(try simp at h))|(refine eB ?_)|(refine hK _ ?_;clear hK)|(clear hK;refine hK _ ?_;clear hK)|(clear hK;clear hK;refine hK _ ?_;clear hK)|(clear hK;clear hK;clear hK;refine hK _ ?_;clear hK))
        all_goals clear zS
        refine ⟨j+1,?_,by omega,by omega⟩
        exact dle
       ·obtain rfl:j=1:=by omega
        repeat' (first|(apply aw_seq_k;intro K hK)|(refine eM64o ?_)|(refine aw_cond (b:=_) (by exact rfl) (fun h=>?_) (fun h=>?_)<;>(try simp at h))|(refine eB ?_)|(refine hK _ ?_;clear hK)|(clear hK;refine hK _ ?_;clear hK)|(clear hK;clear hK;refine hK _ ?_;clear hK)|(clear hK;clear hK;clear hK;refine hK _ ?_;clear hK))
        refine ⟨i+1,?_,by omega,by omega⟩
        simp only [hst]
        exact dle
     | true =>
      rw [if_pos rfl] at hst
      have zS:=jj hilI<|jj hil<|jj hg<|jj hgE<|de
      repeat' (first|(apply aw_seq_k;intro K hK)|(refine eM64 ?_)|(refine aw_cond (b:=_) (by exact rfl) (fun h=>?_) (fun h=>?_)<;>(try simp at h))|(refine eB ?_)|(refine hK _ ?_;clear hK)|(clear hK;refine hK _ ?_;clear hK)|(clear hK;clear hK;refine hK _ ?_;clear hK)|(clear hK;clear hK;clear hK;refine hK _ ?_;clear hK))
      all_goals clear zS
      refine aw_loopK (s0:=?lps5) (m0:=?lpm5) (ι:={j:Nat // j≤8}) [1,5,8,19,20,21,43] (fun j=>[(44,I j.1)]) (fun j=>[(80,.map 1 1 (kvs (frJ num L j.1)))]) (fun j=>8 - j.1) ⟨0,by omega⟩ ?lhs5 ?lhm5 ?_ ?_
      case lhs5=>first|(simp [keepS];done)|(simp [keepS];rfl)
      case lhm5=>first|rfl|(simp;done)|(simp;rfl)
      ·simp only [show frJ num L 0=L from rfl]
       exact dle
      ·rintro ⟨j,hj⟩
       simp only
       rcases Decidable.em (j<8) with hjl|hjl
       ·have hjI:(j:Int)<8:=by omega
        have hmj':=hmj j
        rw [hfj] at hmj'
        have zS:=jj hjl<|jj hjI<|hmj'
        repeat' (first|(apply aw_seq_k;intro K hK)|(refine eM64 ?_)|(refine aw_cond (b:=_) (by exact rfl) (fun h=>?_) (fun h=>?_)<;>(try simp at h))|(refine eB ?_)|(refine hK _ ?_;clear hK)|(clear hK;refine hK _ ?_;clear hK)|(clear hK;clear hK;refine hK _ ?_;clear hK)|(clear hK;clear hK;clear hK;refine hK _ ?_;clear hK))
        all_goals clear zS
        refine ⟨j+1,?_,by omega,by omega⟩
        exact dle
       ·obtain rfl:j=8:=by omega
        repeat' (first|(apply aw_seq_k;intro K hK)|(refine eM64o ?_)|(refine aw_cond (b:=_) (by exact rfl) (fun h=>?_) (fun h=>?_)<;>(try simp at h))|(refine eB ?_)|(refine hK _ ?_;clear hK)|(clear hK;refine hK _ ?_;clear hK)|(clear hK;clear hK;refine hK _ ?_;clear hK)|(clear hK;clear hK;clear hK;refine hK _ ?_;clear hK))
        refine ⟨i+1,?_,by omega,by omega⟩
        simp only [hst]
        exact dle
   ·obtain rfl:i=l.length:=by omega
    obtain ⟨L,hL⟩:∃ L,L=rcL wr l l.length:=⟨_,rfl⟩
    have hLn:L.length≤128:=by
     have:=@rcL_len wr l l.length
     rw [hL];omega
    rw [← hL]
    iterate 9 (first|(apply aw_seq_k;intro K hK)|(refine aw_run hc (by first|exact aw_nod|(intro _;rw [ordB_w hw];kernel_rfl)|(intro _;rw [ordB_w0 hw0];kernel_rfl)|(intro _;kernel_rfl)) ?_;simp [List.zipIdx,-getM,getM_hit,getM_miss,getM_none];(repeat (simp (disch:=first|omega|assumption|fail) only [if_pos,if_neg,wrap64];try simp [List.zipIdx,-getM,getM_hit,getM_miss,getM_none]));try (repeat' (refine guardQ_split (fun h=>?_) (fun h=>?_)<;>simp at h<;>(simp [List.zipIdx,-getM,getM_hit,getM_miss,getM_none];(repeat (simp (disch:=first|omega|assumption|fail) only [if_pos,if_neg,wrap64];try simp [List.zipIdx,-getM,getM_hit,getM_miss,getM_none]))))))|(refine aw_cond (b:=_) (by exact rfl) (fun h=>?_) (fun h=>?_)<;>(try simp at h))|(refine aw_block ?_)|(refine aw_skip ?_;simp only [thenQ,blockQ,if_true])|(refine aw_exit ?_;simp [thenQ,blockQ])|(refine aw_ret ?_;simp only [thenQ,blockQ])|(refine aw_round ?_)|(refine hK _ ?_;clear hK)|(clear hK;refine hK _ ?_;clear hK)|(clear hK;clear hK;refine hK _ ?_;clear hK)|(clear hK;clear hK;clear hK;refine hK _ ?_;clear hK))
    refine hK _ ?_
    clear hK
    apply aw_seq_k
    intro K1 hK1
    refine aw_keys (es:=kvs L) (b:=80) (m:=1) (n0:=1) (tm:=92) (kt:=3) (et:=4) [(12,.v (.slice none 0 0))] rkS rfl rfl rfl rfl rfl rfl rfl rfl rfl rfl rfl rfl rfl rfl rfl rfl rfl rfl rfl rfl rfl (by simp) (by decide) (by kernel_rfl) (by simp) (by simp) (by simp) (by simp) (by simp [AV.isClosed]) ?_ ?_ ?_ ?_
    ·intro r
     simp only [rkS]
     exact dle
    ·intro r ks
     cases ks<;>simp [rkS]
    ·intro w1 bl1 r ks x hbl hks
     have hc:Cx.OK ⟨Try.prog,X,67,w1,bl1⟩:=⟨hX,mixed⟩
     have hks':ks.length≤128:=by simp [kvs] at hks;omega
     cases ks with
     | nil =>
      simp only [rkS,List.nil_append]
      refine aw_weaken (le_nilslot (t:=12) (sz:=1) (by simp)) ?_
      repeat' (first|(apply aw_seq_k;intro K hK)|(refine eM64o ?_)|(refine aw_cond (b:=_) (by exact rfl) (fun h=>?_) (fun h=>?_)<;>(try simp at h))|(refine eB ?_)|(refine hK _ ?_;clear hK)|(clear hK;refine hK _ ?_;clear hK)|(clear hK;clear hK;refine hK _ ?_;clear hK)|(clear hK;clear hK;clear hK;refine hK _ ?_;clear hK))
      simp only [irows,List.map_cons,List.map_nil]
      refine le_turn (s1:=?tus6) (m1:=?tum6) [] [12,55] [1] ?tua6 ?tub6 ?tuc6 ?tud6 ?tue6 ?tuf6 ?tug6
      case tua6=>first|(simp [keepS];done)|(simp [keepS];rfl)
      case tub6=>first|(simp;done)|(simp;rfl)
      case tuc6=>simp
      case tud6=>simp
      case tue6=>simp
      case tuf6=>simp
      case tug6 =>
       simp [swp,vr]
       exact dle
     | cons k ks =>
      simp only [rkS,List.cons_append]
      have htk:=irows_tkl (k::ks)
      have hap:=irows_ap (k::ks) x
      simp only [List.length_cons] at hks' htk
      have zS:=jj hks'<|jj htk<|hap
      repeat' (first|(apply aw_seq_k;intro K hK)|(refine eM64 ?_)|(refine aw_cond (b:=_) (by exact rfl) (fun h=>?_) (fun h=>?_)<;>(try simp at h))|(refine eB ?_)|(refine hK _ ?_;clear hK)|(clear hK;refine hK _ ?_;clear hK)|(clear hK;clear hK;refine hK _ ?_;clear hK)|(clear hK;clear hK;clear hK;refine hK _ ?_;clear hK))
      all_goals clear zS
      refine le_turn (s1:=?tus7) (m1:=?tum7) [] [12,55] [1] ?tua7 ?tub7 ?tuc7 ?tud7 ?tue7 ?tuf7 ?tug7
      case tua7=>first|(simp [keepS];done)|(simp [keepS];rfl)
      case tub7=>first|(simp;done)|(simp;rfl)
      case tuc7=>simp
      case tud7=>simp
      case tue7=>simp
      case tuf7=>simp
      case tug7 =>
       simp [swp,vr]
       exact dle
    ·intro r ks hks
     rw [kvs_keys] at hks
     have hks':ks.length≤128:=by rw [hks.length_eq];exact hLn
     have e2:sortL (rcL wr l l.length)=sortL ks:=by rw [← hL];exact (sortL_congr hks).symm
     simp only [e2] at hK1
     refine hK1 _ ?_
     clear hK1
     cases ks with
     | nil =>
      simp only [rkS]
      refine aw_weaken (le_nilslot (t:=12) (sz:=1) (by simp)) ?_
      have e3:sortL []=[]:=List.Perm.eq_nil (sortL_perm [])
      rw [e3]
      have hcs:∀ (M:Nat→AO) n,M 1=.vec 1 1 false []→X.call 45 [.sl 1 1 1 0 0] M n=some (.tup [],[(1,.vec 1 1 false [])]):=fun M n hM=>by
       have:=@callSi 1 [] (by simp) 0 M n hM
       rw [← hso,e3] at this
       exact this
      have zS:=hcs
      repeat' (first|(apply aw_seq_k;intro K hK)|(refine eM64 ?_)|(refine aw_cond (b:=_) (by exact rfl) (fun h=>?_) (fun h=>?_)<;>(try simp at h))|(refine eB ?_)|(refine hK _ ?_;clear hK)|(clear hK;refine hK _ ?_;clear hK)|(clear hK;clear hK;refine hK _ ?_;clear hK)|(clear hK;clear hK;clear hK;refine hK _ ?_;clear hK))
      all_goals clear zS
      refine ⟨by simp,?_⟩
      simp [leaves_iff,Try.f17,irows]
      try exact dt
     | cons k ks =>
      simp only [rkS]
      have hcs:=fun M n=>@callSi 1 (k::ks) (by omega) 0 M n
      rw [← hso] at hcs
      simp only [List.length_cons] at hcs
      have hsl:(sortL (k::ks)).length=ks.length+1:=(sortL_perm (k::ks)).length_eq
      have htk:List.take (ks.length+1) (irows (sortL (k::ks)))=irows (sortL (k::ks)):=by rw [← hsl];exact irows_tkl _
      have zS:=hcs
      repeat' (first|(apply aw_seq_k;intro K hK)|(refine eM64 ?_)|(refine aw_cond (b:=_) (by exact rfl) (fun h=>?_) (fun h=>?_)<;>(try simp at h))|(refine eB ?_)|(refine hK _ ?_;clear hK)|(clear hK;refine hK _ ?_;clear hK)|(clear hK;clear hK;refine hK _ ?_;clear hK)|(clear hK;clear hK;clear hK;refine hK _ ?_;clear hK))
      all_goals clear zS
      refine ⟨by simp,?_⟩
      simp [leaves_iff,Try.f17,htk,hsl]
      try exact dt
 ·have e:rcT (z,l) wr=[]:=by unfold rcT;rw [if_pos h0]
  rw [e]
  obtain ⟨c,hcz⟩:∃ c,c=chB (z,l):=⟨_,rfl⟩
  rw [← hcz] at ht h0
  simp only [TlV] at ht ⊢
  have zS:=jj ht<|h0
  refine dM64 ?_
  repeat (intro K hK)
  clear zS
  refine ⟨by simp,?_⟩
  simp [leaves_iff,Try.f17,irows]
  try exact dt
end Go.AM
namespace Go.AM
open Go Go.Proofs
theorem zT_okm:tbOK zT:=⟨fun n hn=>by simp [zT] at hn,by simp [zT],by simp [zT]⟩
theorem repP_okm {t:Tb} {p:Int} {w:Nat} (ht:tbOK t) (hw:w<2^64):tbOK (repP t p w).1:=by
 obtain ⟨r,ns,ds⟩:=t
 unfold repP
 split
 ·exact zT_okm
 ·rename_i hk
  obtain ⟨hpv,hp0,hp1⟩:=ckd_pt ht hk
  obtain ⟨p,rfl⟩:=Int.eq_ofNat_of_zero_le hp0
  have hp:p<512:=by omega
  rw [Int.toNat_natCast]
  split
  ·exact zT_okm
  ·split
   ·exact zT_okm
   ·have hlt:=(lsT_lt hpv hp).1
    exact ⟨setN_ok ht.1 hw hlt,by show (setN _ _ _ _).length≤_;rw [setN_len];exact ht.2.1,ht.2.2⟩
theorem odW_lt {w:Nat} (h:w<2^64):(odW w).1<2^64:=by
 unfold odW
 split
 ·show 0<2^64;decide
 ·split
  ·show 0<2^64;decide
  ·exact Nat.lt_of_le_of_lt Nat.and_le_left h
noncomputable def haS (s:Tb×List Int) (x:Pe):Tb×List Int:=if (decR x.2).1.1≠1∨(decR x.2).1.2.2.2.1=false then s else ((repP s.1 x.1 (odW x.2).1).1,s.2++[x.1])
noncomputable def haL (t:Tb) (l:List Pe) (i:Nat):Tb×List Int:=(l.take i).foldl haS (t,[])
noncomputable def haT (t:Tb):Tb×List Int×Int:=if chk t≠0 then (zT,[],chk t) else ((haL t (lstT t) (lstT t).length).1,(haL t (lstT t) (lstT t).length).2,0)
def gpe (l:List Pe) (i:Nat):Pe:=l.getD i (0,0)
theorem gpe_eq {l:List Pe} {i:Nat} (h:i<l.length):gpe l i=l[i]:=by
 unfold gpe
 rw [List.getD_eq_getElem?_getD,List.getElem?_eq_getElem h];rfl
theorem gpe_mem {l:List Pe} {i:Nat} (h:i<l.length):gpe l i∈l:=by rw [gpe_eq h];exact List.getElem_mem h
theorem haL_s {t:Tb} {l:List Pe} {i:Nat} (h:i<l.length):haL t l (i+1)=haS (haL t l i) (gpe l i):=by
 unfold haL
 rw [List.take_add_one,List.getElem?_eq_getElem h,List.foldl_append,gpe_eq h]
 rfl
theorem haL_ok {t:Tb} (ht:tbOK t) {l:List Pe} (hl:∀ x∈l,x.2<2^64):∀ {i:Nat},i≤l.length→tbOK (haL t l i).1∧(haL t l i).2.length≤i
 | 0,_=>⟨ht,Nat.le_refl _⟩
 | i+1,hi=>by
  have ih:=haL_ok ht hl (i:=i) (by omega)
  rw [haL_s (by omega)]
  unfold haS
  split
  ·exact ⟨ih.1,by omega⟩
  ·exact ⟨repP_okm ih.1 (odW_lt (hl _ (gpe_mem (by omega)))),by simp;omega⟩
theorem lst_u64 {t:Tb} (ht:tbOK t):∀ x∈lstT t,x.2<2^64:=by
 unfold lstT
 split
 ·rename_i h0
  have hpv:=chk_pv ht h0
  have key:∀ n,n≤512→∀ x∈lsA t n,x.2<2^64:=by
   intro n
   induction n with
   | zero=>intro _ x hx;simp [lsA] at hx
   | succ n ih =>
    intro hn x hx
    simp only [lsA] at hx
    rcases List.mem_append.1 hx with h|h
    ·exact ih (by omega) x h
    ·unfold lsF at h
     split at h
     ·simp at h
      rw [h]
      exact lsT_u64 ht hpv (by omega)
     ·simp at h
  exact key 512 (Nat.le_refl _)
 ·intro x hx;simp at hx
theorem lstT_l5 {t:Tb}:(lstT t).length≤512:=by
 unfold lstT
 split
 ·have key:∀ n,(lsA t n).length≤n:=by
   intro n
   induction n with
   | zero=>simp [lsA]
   | succ n ih =>
    simp only [lsA,List.length_append]
    have:(lsF t n).length≤1:=by unfold lsF;split<;>simp
    omega
  exact key 512
 ·simp
theorem erows_giM {l:List Pe} {i:Nat} (h:i<l.length):(erows l)[i]?=some [I (gpe l i).1,U (gpe l i).2]:=by
 rw [gpe_eq h]
 simp [erows,erow,List.getElem?_eq_getElem h]
theorem erows_gEM {l:List Pe} {i:Nat} (h:i<l.length):∀ h',(erows l)[i]'(h')=[I (gpe l i).1,U (gpe l i).2]:=fun h'=>by
 have:=erows_giM h
 rw [List.getElem?_eq_getElem h'] at this
 exact Option.some.inj this
noncomputable def HaF:List AV→Option AV:=specF (ι:={x:Tb // tbOK x}) (fun x=>[TbV x.1]) fun x=>retOf [TbO (haT x.1).1,.ow 1 (irows (haT x.1).2.1),I (haT x.1).2.2]
def ReO (X:AX):Prop:=∀ (t:Tb) (p:Int) (w:Nat),tbOK t→w<2^64→∀ (a va b vb:Nat) (fa fb:Bool) (M:Nat→AO) (n:Nat),M a=.vec va 9 fa (nrows t.2.1)→M b=.vec vb 2 fb (prows t.2.2) →
 X.call 50 [TbS t a va b vb,I p,U w] M n=some (.tup [TbC (repP t p w).1 n,U (repP t p w).2.1,I (repP t p w).2.2],outT (repP t p w).1 n)
theorem reO {X:AX} (h:X.call 50=callP ReF):ReO X:=fun t p w ht hw a va b vb fa fb M n h1 h2=>by
 rw [h]
 unfold ReF
 rw [callP_spec (ι:={x:Tb×Int×Nat // tbOK x.1∧x.2.2<2^64}) (A:=fun x=>[TbV x.1.1,I x.1.2.1,U x.1.2.2]) (R:=fun x=>retOf [TbO (repP x.1.1 x.1.2.1 x.1.2.2).1,U (repP x.1.1 x.1.2.1 x.1.2.2).2.1,I (repP x.1.1 x.1.2.1 x.1.2.2).2.2]) ⟨(t,p,w),ht,hw⟩ (peek_tab ⟨⟨fa,h1⟩,fb,h2⟩ (by simp [U])) ?_ (by rw [open_rep];simp only;omega),open_rep]
 rintro ⟨⟨t',p',w'⟩,h'⟩ e
 simp only [List.cons.injEq,TbV_inj,U,I,AV.v.injEq,Value.int.injEq,true_and,and_true,Int.ofNat_inj] at e
 obtain ⟨rfl,rfl,rfl⟩:=e;rfl
set_option maxHeartbeats 16000000 in
theorem s20 (X:AX) (hX:XOK Try.prog X) (hw:X.W wT) (hch:∀ t:Tb,tbOK t→∀ M n,X.call 28 [TbV t] M n=some (I (chk t),[]))
  (hcT:∀ t:Tb,tbOK t→∀ M n,X.call 48 [TbV t] M n=some (TbC t n,outT t n))
  (hli:∀ t:Tb,tbOK t→∀ M n,X.call 29 [TbV t] M n=some (.sl n 1 2 0 (lstT t).length,[(n,.vec 1 2 false (erows (lstT t)))]))
  (hde:∀ w:Nat,w<2^64→∀ M k,X.call 30 [U w] M k=some (.tup [EnV (decR w).1,I (decR w).2],[]))
  (hod:∀ w:Nat,w<2^64→∀ M k,X.call 49 [U w] M k=some (.tup [U (odW w).1,I (odW w).2],[])) (hre:ReO X):PSound Try.prog 20 HaF:=by
 unfold HaF
 refine psound_spec hX mixed Try.func20 rfl fun ⟨⟨r,ns,ds⟩,ht⟩ w0 G=>⟨by show 1≤66;decide,rfl,?_⟩
 show AW ⟨Try.prog,X,66,w0,.pure G⟩ _ _ _
 have hc:Cx.OK ⟨Try.prog,X,66,w0,.pure G⟩:=⟨hX,mixed⟩
 have ch:=hch _ ht
 have cT:=hcT _ ht
 have li:=hli _ ht
 have hlu:=lst_u64 ht
 rcases Decidable.em (chk (r,ns,ds)=0) with h0|h0
 ·have e:haT (r,ns,ds)=((haL (r,ns,ds) (lstT (r,ns,ds)) (lstT (r,ns,ds)).length).1,(haL (r,ns,ds) (lstT (r,ns,ds)) (lstT (r,ns,ds)).length).2,0):=by unfold haT;rw [if_neg (by simp [h0])]
  rw [e]
  rw [h0] at ch
  have hll:=@lstT_l5 (r,ns,ds)
  obtain ⟨l,hl⟩:∃ l,l=lstT (r,ns,ds):=⟨_,rfl⟩
  rw [← hl] at li hlu hll ⊢
  clear hl
  simp only [TbV,TbC,outT,TbO] at ch cT li ⊢
  have zS:=jj ch<|jj cT<|li
  repeat' (first|(apply aw_seq_k;intro K hK)|(refine eM64 ?_)|(refine aw_cond (b:=_) (by exact rfl) (fun h=>?_) (fun h=>?_)<;>(try simp at h))|(refine eB ?_)|(refine hK _ ?_;clear hK)|(clear hK;refine hK _ ?_;clear hK)|(clear hK;clear hK;refine hK _ ?_;clear hK)|(clear hK;clear hK;clear hK;refine hK _ ?_;clear hK))
  all_goals clear zS
  refine aw_weaken (le_nilslot (t:=7) (sz:=1) (by simp)) ?_
  obtain ⟨t0,ht0⟩:∃ t0:Tb,t0=(r,ns,ds):=⟨_,rfl⟩
  rw [← ht0] at ht ⊢
  refine aw_loopK (s0:=?lps1) (m0:=?lpm1) (ι:={i:Nat // i≤l.length}) [2,6,23,24] (fun i=>[(25,I i.1),(7,.sl 288 1 1 0 (haL t0 l i.1).2.length)]) (fun i=>[(288,.vec 1 1 false (irows (haL t0 l i.1).2)),(176,.box [I (haL t0 l i.1).1.1,.sl 160 1 9 0 (haL t0 l i.1).1.2.1.length,.sl 161 1 2 0 (haL t0 l i.1).1.2.2.length]),(160,.vec 1 9 false (nrows (haL t0 l i.1).1.2.1)),(161,.vec 1 2 false (prows (haL t0 l i.1).1.2.2))]) (fun i=>l.length - i.1) ⟨0,by omega⟩ ?lhs1 ?lhm1 ?_ ?_
  case lhs1=>first|(simp [keepS];done)|(simp [keepS];rfl)
  case lhm1=>first|rfl|(simp;done)|(simp;rfl)
  ·simp only [show haL t0 l 0=((r,ns,ds),[]) by rw [ht0];rfl]
   exact le_of2 (by simp) (by simp [AVle,AV.under,AV.underL,irows]<;>omega) (by simp [AOle,AO.under,AV.underL,AV.under,irows]<;>omega)
  ·rintro ⟨i,hi⟩
   simp only
   rcases Decidable.em (i<l.length) with hil|hil
   ·have hilI:(i:Int)<(l.length:Int):=by omega
    have hg:=erows_giM hil
    have hgE:=erows_gEM hil
    have hu:=hlu _ (gpe_mem hil)
    have hst:=@haL_s t0 l i hil
    obtain ⟨ok1,ok2⟩:=haL_ok ht hlu (i:=i) (by omega)
    have de:=hde _ hu
    have od:=hod _ hu
    have odl:=odW_lt hu
    obtain ⟨⟨p,x⟩,hm⟩:∃ m,m=gpe l i:=⟨_,rfl⟩
    rw [← hm] at hg hgE hst hu de od odl
    obtain ⟨⟨⟨r1,ns1,ds1⟩,L⟩,hL⟩:∃ L,L=haL t0 l i:=⟨_,rfl⟩
    rw [← hL] at hst ok1 ok2
    simp only [← hL]
    unfold haS at hst
    simp only [U] at hg hgE hst de od odl ok1 ok2
    obtain ⟨⟨⟨k,num,b1,b2,b3,hgf⟩,er⟩,hx⟩:∃ y,y=decR x:=⟨_,rfl⟩
    rw [← hx] at hst de
    obtain ⟨⟨w2,er2⟩,hx2⟩:∃ y,y=odW x:=⟨_,rfl⟩
    rw [← hx2] at hst od odl
    simp only [EnV] at hst de od odl
    have hL5:L.length≤512:=by omega
    rcases Decidable.em (k=1) with hk1|hk1
    ·cases b2 with
     | true =>
      rw [if_neg (by simp [hk1])] at hst
      have re:=hre _ p w2 ok1 odl 160 1 161 1 false false
      simp only [TbS,TbC,outT,U] at re
      obtain ⟨⟨⟨r2,ns2,ds2⟩,w3,er3⟩,hx3⟩:∃ y,y=repP (r1,ns1,ds1) p w2:=⟨_,rfl⟩
      rw [← hx3] at re hst
      simp only at re hst
      have htk:=irows_tkl L
      have hap:=irows_ap L p
      subst hk1
      have zS:=jj hilI<|jj hil<|jj hg<|jj hgE<|jj de<|jj od<|jj re<|jj hL5<|jj htk<|hap
      repeat' (first|(apply aw_seq_k;intro K hK)|(refine eM64 ?_)|(refine aw_cond (b:=_) (by exact rfl) (fun h=>?_) (fun h=>?_)<;>(try simp at h))|(refine eB ?_)|(refine hK _ ?_;clear hK)|(clear hK;refine hK _ ?_;clear hK)|(clear hK;clear hK;refine hK _ ?_;clear hK)|(clear hK;clear hK;clear hK;refine hK _ ?_;clear hK))
      all_goals clear zS
      refine ⟨i+1,?_,by omega,by omega⟩
      simp only [hst]
      refine le_turn (s1:=?tus2) (m1:=?tum2) [(833,160),(834,161)] [2,6,7,23,24,25] [0,16,176,240,288,833,834] ?tua2 ?tub2 ?tuc2 ?tud2 ?tue2 ?tuf2 ?tug2
      case tua2=>first|(simp [keepS];done)|(simp [keepS];rfl)
      case tub2=>first|(simp;done)|(simp;rfl)
      case tuc2=>simp
      case tud2=>simp
      case tue2=>simp
      case tuf2=>simp
      case tug2 =>
       simp [swp,vr]
       exact dle
     | false =>
      rw [if_pos (by simp)] at hst
      subst hk1
      have zS:=jj hilI<|jj hil<|jj hg<|jj hgE<|de
      repeat' (first|(apply aw_seq_k;intro K hK)|(refine eM64 ?_)|(refine aw_cond (b:=_) (by exact rfl) (fun h=>?_) (fun h=>?_)<;>(try simp at h))|(refine eB ?_)|(refine hK _ ?_;clear hK)|(clear hK;refine hK _ ?_;clear hK)|(clear hK;clear hK;refine hK _ ?_;clear hK)|(clear hK;clear hK;clear hK;refine hK _ ?_;clear hK))
      all_goals clear zS
      refine ⟨i+1,?_,by omega,by omega⟩
      simp only [hst]
      exact dle
    ·rw [if_pos (by simp [hk1])] at hst
     have zS:=jj hilI<|jj hil<|jj hg<|jj hgE<|jj de<|hk1
     repeat' (first|(apply aw_seq_k;intro K hK)|(refine eM64 ?_)|(refine aw_cond (b:=_) (by exact rfl) (fun h=>?_) (fun h=>?_)<;>(try simp at h))|(refine eB ?_)|(refine hK _ ?_;clear hK)|(clear hK;refine hK _ ?_;clear hK)|(clear hK;clear hK;refine hK _ ?_;clear hK)|(clear hK;clear hK;clear hK;refine hK _ ?_;clear hK))
     all_goals clear zS
     refine ⟨i+1,?_,by omega,by omega⟩
     simp only [hst]
     exact dle
   ·obtain rfl:i=l.length:=by omega
    obtain ⟨⟨⟨r1,ns1,ds1⟩,L⟩,hL⟩:∃ L,L=haL t0 l l.length:=⟨_,rfl⟩
    simp only [← hL]
    have hL2:haL (r,ns,ds) l l.length=((r1,ns1,ds1),L):=by rw [← ht0];exact hL.symm
    have htk:=irows_tkl L
    have t1:=tkN ns1
    have t2:=tkP ds1
    repeat' (first|(apply aw_seq_k;intro K hK)|(refine eM64o ?_)|(refine aw_cond (b:=_) (by exact rfl) (fun h=>?_) (fun h=>?_)<;>(try simp at h))|(refine eB ?_)|(refine hK _ ?_;clear hK)|(clear hK;refine hK _ ?_;clear hK)|(clear hK;clear hK;refine hK _ ?_;clear hK)|(clear hK;clear hK;clear hK;refine hK _ ?_;clear hK))
    refine ⟨by simp,?_⟩
    simp [leaves_iff,Try.f20,hL2,htk,t1,t2]
    try exact dt
 ·have e:haT (r,ns,ds)=(zT,[],chk (r,ns,ds)):=by unfold haT;rw [if_pos h0]
  rw [e]
  obtain ⟨c,hcz⟩:∃ c,c=chk (r,ns,ds):=⟨_,rfl⟩
  rw [← hcz] at ch h0 ⊢
  simp only [TbV,TbO,zT] at ch ⊢
  have zS:=jj ch<|h0
  refine dM64 ?_
  repeat (intro K hK)
  clear zS
  refine ⟨by simp,?_⟩
  simp [leaves_iff,Try.f20,nrows,prows,irows]
  try exact dt
end Go.AM
namespace Go.AM
open Go Go.Proofs
def repC (t:Tb) (p w:Nat):Tb×Nat×Int :=
 if (lsT t p).2.2=0 then (zT,0,6)
 else if (decR w).2≠0∨(decR w).1.1=0∨(decR w).1.1=4∨suitB (decR w).1 (lsT t p).2.1=false then (zT,0,3)
 else (putT t p w,(lsT t p).2.2,0)
theorem repC_ok {t:Tb} {p w:Nat} (h:chkC t=true) (hp:p<512):repP t p w=repC t p w:=by
 unfold repP
 rw [if_neg (by rw [ckd_z (chkC_ok h) (by omega) (by omega)];decide),Int.toNat_natCast]
 rfl
def acC (t:Tb) (b:Tl) (s:Int) (p:Nat) (wr:Bool):Tb×Tl×Int×Int :=
 if chB b≠0 then (zT,zB,0,chB b)
 else if plcB s p=false then (zT,zB,0,2)
 else if (lkT b s p).2=true∧(wr=false∨((decR (lkT b s p).1).1.2.2.1=true∧(decR (lkT b s p).1).1.2.2.2.2.1=true)) then (t,b,frmG (decR (lkT b s p).1).1 p,0)
 else if rfE (decR (lsT t p).2.2).1 wr≠0 then (t,(inT b s p).1,0,rfE (decR (lsT t p).2.2).1 wr)
 else ((repC t p (mkW (lsT t p).2.2 wr).1).1,(fiT b s p (mkW (lsT t p).2.2 wr).1).1,frmG (decR (lsT t p).2.2).1 p,0)
theorem acC_ok {t:Tb} {b:Tl} {s:Int} {p:Nat} {wr:Bool} (h:chkC t=true) (hp:p<512):acT t b s p wr=acC t b s p wr:=by
 unfold acT acM
 rw [if_neg (by simp [chkC_ok h]),walkC_ok h hp]
 simp only [repC_ok h hp]
 rfl
def t8:Tb:=(10,[(10,[0,2820,0,0,0,0,0,0]),(11,[3076,0,0,0,0,0,0,0]),(12,[0,0,0,0,0,0,1289,0])],[])
def v8:Tb:=(10,[(10,[0,2820,0,0,0,0,0,0]),(11,[3076,0,0,0,0,0,0,0]),(12,[0,0,0,0,0,0,1337,0])],[])
def h8:Tb:=(10,[(10,[0,2820,0,0,0,0,0,0]),(11,[3076,0,0,0,0,0,0,0]),(12,[0,0,0,0,0,0,1321,0])],[])
def b8:Tl:=(2,[])
def c8:Tl:=(2,[(0,70,1305)])
def d8:Tl:=(2,[(0,70,1337)])
theorem t8C:chkC t8=true:=by kernel_rfl
theorem v8C:chkC v8=true:=by kernel_rfl
theorem ac1:acT t8 b8 0 70 false=(bT,c8,5,0):=(acC_ok (p:=70) t8C (by decide)).trans (by kernel_rfl)
theorem ac2:acT bT c8 0 70 true=(v8,d8,5,0):=(acC_ok (p:=70) bC (by decide)).trans (by kernel_rfl)
theorem ac3:acT aT d8 0 70 true=(aT,d8,5,0):=(acC_ok (p:=70) aC (by decide)).trans (by kernel_rfl)
theorem ac4:acT aT b8 0 70 false=(aT,b8,0,13):=(acC_ok (p:=70) aC (by decide)).trans (by kernel_rfl)
theorem lst8:lstT v8=[(70,1337)]:=(lstC_ok v8C).trans (by kernel_rfl)
theorem ha8:haT v8=(h8,[70],0):=by
 have e1:(odW 1337).1=1321:=by kernel_rfl
 have e2:repP v8 70 1321=(h8,1337,0):=(repC_ok (p:=70) v8C (by decide)).trans (by kernel_rfl)
 have e3:(decR 1337).1.1=1:=by kernel_rfl
 have e4:(decR 1337).1.2.2.2.1=true:=by kernel_rfl
 unfold haT
 rw [if_neg (by simp [chkC_ok v8C]),lst8]
 simp [haL,haS,e1,e2,e3,e4]
theorem rc1:rcT d8 true=[5]:=by
 have e0:chB d8=0:=by kernel_rfl
 have e1:rcL true d8.2 d8.2.length=[5]:=by kernel_rfl
 unfold rcT
 rw [if_neg (by simp [e0]),e1]
 exact List.perm_singleton.1 (sortL_perm [5])
theorem rc2:rcT c8 true=[]:=by
 have e0:chB c8=0:=by kernel_rfl
 have e1:rcL true c8.2 c8.2.length=[]:=by kernel_rfl
 unfold rcT
 rw [if_neg (by simp [e0]),e1]
 exact List.Perm.eq_nil (sortL_perm [])
theorem ok8:tbOK t8∧tbOK v8∧tbOK h8:=by unfold tbOK ndOK;decide +kernel
end Go.AM
