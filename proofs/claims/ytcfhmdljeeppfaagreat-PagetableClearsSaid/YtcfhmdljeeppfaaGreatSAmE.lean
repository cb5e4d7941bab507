/- A part of the proof: what functions of the program compute, by abstract execution of their code. Its theorems hold without further condition. -/
import Derived.Test.YtcfhmdljeeppfaaGreatSAmD
set_option linter.all false
namespace Go.AM
open Go
theorem Rep.slice_of {E:Env} {w:World} {b m s n c blk base sz:Nat} {p:Addr} (ha:E.alive b) (hm:1≤m) (hv:E.ver b=m) (hl:E.loc b=some (blk,base,sz)) (hc:n≤c) (hp:c=0∨p=⟨blk,base,none⟩) (hz:base+c*s=sz) :
  Rep E w (.sl b m s 0 n) (.slice (some p) n c):=by
 simp only [Rep]
 refine ⟨ha,hm,by omega,_,_,rfl,hc,by simp,fun _=>?_⟩
 simp only [hl,SlAt]
 exact ⟨p,rfl,by simpa using hp,by simpa using hz⟩
theorem aRows_sl {M:Nat→AO} {sz b m s o n:Nat} {rows:List (List AV)} (h:aRows M sz (.sl b m s o n)=some rows):∃ f xs,M b=.vec m s f xs∧s=sz∧o+n≤xs.length∧rows=(xs.drop o).take n:=by
 unfold aRows at h
 simp only at h
 cases hb:M b<;>simp only [hb,reduceCtorEq] at h
 split at h
 ·rename_i hm
  obtain ⟨rfl,rfl,h3,h4⟩:=hm
  exact ⟨_,_,rfl,h3,h4,by simpa using h.symm⟩
 ·simp at h
theorem aAppend_ok {P:Program} {M:Nat→AO} {nid:Nat} {st xt:TypeId} {s x av:AV} {u:List (Nat×AO)} {w0:World} {bl:Bk} {E:Env} {w:World} {sv xv:Value} (h:aAppend (Types P) M nid st xt s x=some (av,u))
  (hs:Rep E w s sv) (hx:Rep E w x xv) (hM:MemOK E w M) (hI:Inv w0 bl E w) (hnid:¬ E.alive nid) (ty:TypeId) :
  ∃ y E' w',(Builtin.append_ #[st,xt] ty #[sv,xv]).run P w=.ok y w'∧StepTo w0 bl E w u E' w'∧Rep E' w' av y:=by
 unfold aAppend at h
 cases hst:Types P st<;>simp only [hst,reduceCtorEq] at h
 rename_i ds
 cases hxt:Types P xt<;>simp only [hxt,reduceCtorEq] at h
 rename_i dx
 cases hks:ds.k<;>simp only [hks,reduceCtorEq] at h
 rename_i e
 cases hkx:dx.k<;>simp only [hkx,reduceCtorEq] at h
 rename_i ex
 cases he:Types P e<;>simp only [he,reduceCtorEq] at h
 rename_i de
 cases hro:aRows M de.size s<;>simp only [hro,reduceCtorEq] at h
 rename_i old
 cases hrn:aRows M de.size x<;>simp only [hrn,reduceCtorEq] at h
 rename_i new
 split at h
 case isFalse=>simp at h
 rename_i hb3
 obtain ⟨hb1,hb2,hzl0,hz1⟩:=hb3
 obtain ⟨p,c,rfl,ho2,ho3,vo,ho4,ho5⟩:=aRows_ok hro hs hM
 obtain ⟨q,c',rfl,hn2,hn3,vn,hn4,hn5⟩:=aRows_ok hrn hx hM
 have hrun:=append_run (P:=P) (w:=w) hst hxt he hks hkx ho4 hn4 ho3 hn3 ho2 hn2 ho5 hn5 ⟨hb1,hb2⟩ ty
 have hcap:=cut_appendCap (old.length+new.length) c e (w.tape w.drawn (.appendCap (old.length+new.length) c e))
 generalize hcc:(Question.appendCap (old.length+new.length) c e).cut (w.tape w.drawn (.appendCap (old.length+new.length) c e))=cc at hrun hcap
 generalize hzz:Builtin.zeroCells de.zero.toArray (cc - (old.length+new.length))=zz at hrun
 have hzl:zz.size=(cc - (old.length+new.length))*de.size:=by rw [← hzz];simp [Builtin.zeroCells,hzl0]
 have hsz:(vo.toArray++vn.toArray++zz).size=cc*de.size:=by
  simp [hzl,ho4.len,hn4.len]
  rw [← Nat.add_mul,← Nat.add_mul]
  congr 1
  omega
 have hzone:∀ y∈zz.toList,y.oneCell'=true:=fun y hy=>by
  rw [← hzz] at hy
  simp only [Builtin.zeroCells,Array.toList_map,List.mem_map] at hy
  obtain ⟨i,hi,rfl⟩:=hy
  by_cases h0:de.zero.length=0
  ·exfalso
   rw [h0] at hzl0
   simp [← hzl0,h0] at hi
  ·have:i%de.zero.toArray.size<de.zero.length:=by simpa using Nat.mod_lt _ (by omega)
   simp only [List.all_eq_true] at hz1
   rw [getElem!_pos de.zero.toArray _ (by simpa using this)]
   exact hz1 _ (by simp)
 have hcone:∀ y∈(vo.toArray++vn.toArray++zz).toList,y.oneCell'=true:=fun y hy=>by
  simp only [Array.toList_append,List.mem_append] at hy
  rcases hy with (hy|hy)|hy
  ·exact ho4.one y (by simpa using hy)
  ·exact hn4.one y (by simpa using hy)
  ·exact hzone y hy
 have hren:∀ b m,(E.alive b→1≤E.ver b∧E.ver b<m)→1≤m→StepTo w0 bl E w [(b,.vec m de.size false (old++new))] (E.upd b m (some (w.heap.size,0,cc*de.size))) (({ w with drawn:=w.drawn+1 }:World).alloc (.cells (vo.toArray++vn.toArray++zz) e)):=fun b m h1 h2=>by
  rw [← hsz]
  refine StepTo.renew (w1:={ w with drawn:=w.drawn+1 }) hI rfl rfl rfl b m de.size false (old++new) _ e (vo++vn) h1 h2 (ho4.append hn4) (fun k v hk=>?_) ?_ hcone (by simp)
  ·have hk':=(List.getElem?_eq_some_iff.1 hk).1
   rw [show (vo.toArray++vn.toArray++zz)=(vo++vn).toArray++zz from by simp,Array.getElem?_append_left (by simpa using hk')]
   simpa using hk
  ·rw [hsz,List.length_append]
   exact Nat.mul_le_mul_right _ hcap
 have hrep:∀ b m,1≤m→Rep (E.upd b m (some (w.heap.size,0,cc*de.size))) (({ w with drawn:=w.drawn+1 }:World).alloc (.cells (vo.toArray++vn.toArray++zz) e)) (.sl b m de.size 0 (old.length+new.length)) (.slice (some ⟨w.heap.size,0,none⟩) (old.length+new.length) cc):=fun b m h2 =>
  Rep.slice_of (blk:=w.heap.size) (base:=0) (sz:=cc*de.size) (.inr rfl) h2 (by simp [Env.upd]) (by simp [Env.upd]) hcap (.inr rfl) (by simp)
 cases s<;>(try simp only [reduceCtorEq] at h)
 case v sx =>
  split at h
  case h_1 heq=>simp at heq
  case h_3=>simp at h
  rename_i heq
  simp only [AV.v.injEq] at heq
  subst heq
  simp only [Option.some.injEq,Prod.mk.injEq] at h
  obtain ⟨rfl,rfl⟩:=h
  obtain rfl:old=[]:=by simpa [aRows] using hro.symm
  simp only [Rep,CRep,Value.slice.injEq] at hs
  obtain ⟨rfl,-,rfl⟩:=hs
  split at hrun
  ·rename_i hle
   have hn0:new=[]:=by simpa using hle
   subst hn0
   refine ⟨_,_,_,by rw [hrun];rfl,StepTo.none hI nid de.size hnid false,?_⟩
   simp only [Rep]
   exact ⟨.inr rfl,Nat.le_refl _,by simp [Env.upd],none,0,rfl,by simp,fun _=>rfl,fun _=>by simp [Env.upd,SlAt]⟩
  ·exact ⟨_,_,_,hrun,hren nid 1 (fun hh=>absurd hh hnid) (Nat.le_refl _),hrep nid 1 (Nat.le_refl _)⟩
 case sl b m s o n =>
  obtain ⟨f,xs,hMb,rfl,hle,rfl⟩:=aRows_sl hro
  have hlen:((xs.drop o).take n).length=n:=by simp;omega
  simp only [Rep] at hs
  obtain ⟨k1,k2,k3,p',c2,heq,k4,k4',k5⟩:=hs
  simp only [Value.slice.injEq] at heq
  obtain ⟨rfl,-,rfl⟩:=heq
  have hob:=hM b k1
  simp only [hMb,ObjRep] at hob
  obtain ⟨l1,l2,l3⟩:=hob
  have hsl:=k5 l1.symm
  have inplace:∀ blk base sz arr ty',E.loc b=some (blk,base,sz)→w.heap[blk]?=some (.cells arr ty' (0,0))→sz≤arr.size→base+(o+c)*de.size=sz→n+new.length≤c→(∃ a,p=some a∧(c=0∨a=⟨blk,base+o*de.size,none⟩)) →
    (Builtin.append_ #[st,xt] ty #[.slice p n c,.slice q new.length c']).run P w=.ok (.slice p (n+new.length) c) (w.setRow blk (setL arr.toList (base+o*de.size+n*de.size) vn).toArray)∧base+o*de.size+n*de.size+vn.length≤arr.toList.length:=by
   intro blk base sz arr ty' hl m1 m2 n4 hfit ⟨a,hpa,n3⟩
   subst hpa
   have hd:base+o*de.size+n*de.size+new.length*de.size≤sz:=by
    have h1:(o+(n+new.length))*de.size=o*de.size+n*de.size+new.length*de.size:=by rw [Nat.add_mul,Nat.add_mul];omega
    have h2:(o+(n+new.length))*de.size≤(o+c)*de.size:=Nat.mul_le_mul_right de.size (by omega)
    omega
   have hbound:base+o*de.size+n*de.size+vn.length≤arr.toList.length:=by rw [hn4.len];simp;omega
   have hstore:((storeCells (a.add (n*de.size)) vn).run P w)=.ok () (w.setRow blk (setL arr.toList (base+o*de.size+n*de.size) vn).toArray):=by
    rcases n3 with n3|n3
    ·have hv0:vn=[]:=by
      have:=hn4.len
      have h0:new.length=0:=by omega
      rw [h0] at this
      simpa using this
     subst hv0
     have:=run_storeCells_at (P:=P) (vs:=[]) (off:=base+o*de.size+n*de.size) (i:=0) m1 (by simpa using hbound) (by simp)
     simpa [storeCells] using this
    ·rw [n3,add_plain]
     have:=run_storeCells_at (P:=P) (vs:=vn) (off:=base+o*de.size+n*de.size) (i:=0) m1 (by simpa using hbound) hn4.one
     simpa using this
   refine ⟨?_,hbound⟩
   rw [hlen,if_pos hfit] at hrun
   simp only at hrun
   rw [hstore] at hrun
   simpa only [Result.andThen_ok] using hrun
  have hlen1:((xs.drop o).take n).length+new.length=n+new.length:=by rw [hlen]
  rw [hlen1] at h hrep hcap
  have hrun':=hrun
  rw [hlen] at hrun'
  have consume:some (AV.sl b (m+1) de.size 0 (n+new.length),[(b,AO.vec (m+1) de.size false ((xs.drop o).take n++new))])=some (av,u) →
    ∃ y E' w',(Builtin.append_ #[st,xt] ty #[.slice p ((xs.drop o).take n).length c,.slice q new.length c']).run P w=.ok y w'∧StepTo w0 bl E w u E' w'∧Rep E' w' av y:=by
   intro h
   simp only [Option.some.injEq,Prod.mk.injEq] at h
   obtain ⟨rfl,rfl⟩:=h
   rw [hlen]
   by_cases hfit:n+new.length≤c
   case neg =>
    rw [if_neg hfit] at hrun'
    exact ⟨_,_,_,hrun',hren b (m+1) (fun _=>by omega) (by omega),hrep b (m+1) (by omega)⟩
   cases hl:E.loc b with
   | none =>
    simp only [hl,SlAt] at hsl l3
    obtain ⟨ho0,rfl⟩:=hsl
    subst l3
    obtain rfl:n=0:=by omega
    have hn0':new=[]:=List.length_eq_zero_iff.1 (by omega)
    subst hn0'
    have hv0:vn=[]:=by have:=hn4.len;simpa using this
    subst hv0
    rw [if_pos hfit] at hrun'
    refine ⟨.slice p 0 0,E.upd b (m+1) none,w,by rw [hrun'];cases p<;>simp [storeCells],?_,?_⟩
    ·refine StepTo.one hI b _ (m+1) none (fun _=>.inr (by omega)) (fun blk base sz e=>by simp at e) (Nat.le_refl _) rfl rfl (fun k hk _=>rfl) ?_
     simp [ObjRep,Env.upd]
    ·simp only [Rep]
     refine ⟨.inr rfl,by omega,by simp [Env.upd],p,0,by simp,by simp,fun _=>rfl,fun _=>by simp [Env.upd,SlAt]⟩
   | some l =>
    obtain ⟨blk,base,sz⟩:=l
    simp only [hl,SlAt] at hsl l3
    obtain ⟨p',rfl,n3,n4⟩:=hsl
    obtain ⟨arr,ty',m1,m2,m2',m3,m3',m4⟩:=l3
    obtain ⟨hr,hbound⟩:=inplace blk base sz arr ty' hl m1 m2 n4 hfit ⟨p',rfl,n3⟩
    have hG:∀ k,E.G k→(w.setRow blk (setL arr.toList (base+o*de.size+n*de.size) vn).toArray).heap[k]?=w.heap[k]?:=fun k hk =>
     setRow_other _ _ _ _ fun e=>by subst e;exact (hI.locs b _ _ _ k1 hl).2.1 hk
    have hoc:(o+c)*de.size=o*de.size+c*de.size:=Nat.add_mul ..
    have hnl:(n+new.length)*de.size≤c*de.size:=Nat.mul_le_mul_right de.size hfit
    refine ⟨_,E.upd b (m+1) (some (blk,base+o*de.size,sz)),_,hr,?_,?_⟩
    ·refine StepTo.write hI b _ (m+1) blk base (base+o*de.size) sz sz arr _ ty' k1 hl m1 (.inr (by omega)) ?_
     simp only [ObjRep,Env.upd,if_true]
     refine ⟨trivial,by omega,_,ty',setRow_heap w blk _ _ ty' _ m1,by simpa [setL_length] using m2,by simpa using setL_mem m2' hn4.one,?_,by simp,?_⟩
     ·rw [List.length_append,hlen];omega
     ·have hcell:∀ k,(w.setRow blk (setL arr.toList (base+o*de.size+n*de.size) vn).toArray).cell? ⟨blk,k,none⟩=(setL arr.toList (base+o*de.size+n*de.size) vn)[k]?:=fun k=>by
       rw [cell_setRow_same w blk k arr _ ty' _ m1];simp
      have hcold:∀ k,w.cell? ⟨blk,k,none⟩=arr.toList[k]?:=fun k=>by rw [cell_of_row w blk k arr ty' _ m1];simp
      refine CRows.cons_left ?_ ?_
      ·obtain ⟨vs,q1,q2⟩:=(m4.sub o n).vals
       refine CRows.of_vals (q1.mono (fun _ h=>h) hG) fun k v hk=>?_
       have hk':=(List.getElem?_eq_some_iff.1 hk).1
       rw [q1.len,hlen] at hk'
       rw [hcell,setL_get hbound,if_neg (by omega),← hcold]
       exact q2 k v hk
      ·rw [hlen]
       refine CRows.of_vals (hn4.mono (fun _ h=>h) hG) fun k v hk=>?_
       have hk':=(List.getElem?_eq_some_iff.1 hk).1
       rw [hcell,setL_get hbound,if_pos (by omega),show base+o*de.size+n*de.size+k - (base+o*de.size+n*de.size)=k from by omega]
       exact hk
    ·exact Rep.slice_of (blk:=blk) (base:=base+o*de.size) (sz:=sz) (.inr rfl) (by omega) (by simp [Env.upd]) (by simp [Env.upd]) (by omega) (n3.imp id (fun h=>h)) (by omega)
  simp only [hMb] at h
  split at h
  case isFalse=>exact consume h
  rename_i hcnd
  obtain ⟨hkn,hs1⟩:=hcnd
  split at h
  ·rename_i hfitx
   simp only [Option.some.injEq,Prod.mk.injEq] at h
   obtain ⟨rfl,rfl⟩:=h
   rw [hlen]
   cases hl:E.loc b with
   | none =>
    simp only [hl,SlAt] at hsl l3
    obtain ⟨ho0,rfl⟩:=hsl
    subst l3
    simp only [List.length_nil,Nat.le_zero_eq,Nat.add_eq_zero_iff,List.length_eq_zero_iff] at hfitx
    obtain ⟨⟨_,rfl⟩,rfl⟩:=hfitx
    have hv0:vn=[]:=by have:=hn4.len;simpa using this
    subst hv0
    rw [if_pos (by simp)] at hrun'
    refine ⟨.slice p 0 0,E,w,by rw [hrun'];cases p<;>simp [storeCells],?_,?_⟩
    ·refine StepTo.retell hI k1 ?_
     simp only [ObjRep,hl]
     exact ⟨l1,l2,by simp⟩
    ·simp only [Rep]
     exact ⟨k1,k2,k3,p,0,by simp,by simp,fun _=>rfl,fun _=>by simp [hl,SlAt,ho0]⟩
   | some l =>
    obtain ⟨blk,base,sz⟩:=l
    simp only [hl,SlAt] at hsl l3
    obtain ⟨p',rfl,n3,n4⟩:=hsl
    obtain ⟨arr,ty',m1,m2,m2',m3,m3',m4⟩:=l3
    have hfit:n+new.length≤c:=by
     have h1:xs.length*de.size≤(o+c)*de.size:=by omega
     have:=Nat.le_of_mul_le_mul_right h1 (by omega)
     omega
    obtain ⟨hr,hbound⟩:=inplace blk base sz arr ty' hl m1 m2 n4 hfit ⟨p',rfl,n3⟩
    have hG:∀ k,E.G k→(w.setRow blk (setL arr.toList (base+o*de.size+n*de.size) vn).toArray).heap[k]?=w.heap[k]?:=fun k hk =>
     setRow_other _ _ _ _ fun e=>by subst e;exact (hI.locs b _ _ _ k1 hl).2.1 hk
    have hxl:(xs.take (o+n)++(new++xs.drop (o+n+new.length))).length=xs.length:=by simp;omega
    refine ⟨_,E.upd b (E.ver b) (some (blk,base,sz)),_,hr,?_,?_⟩
    ·refine StepTo.write hI b _ (E.ver b) blk base base sz sz arr _ ty' k1 hl m1 (.inl ⟨rfl,rfl,rfl⟩) ?_
     simp only [ObjRep,Env.upd,if_true]
     refine ⟨l1,l2,_,ty',setRow_heap w blk _ _ ty' _ m1,by simpa [setL_length] using m2,by simpa using setL_mem m2' hn4.one,by rw [hxl];exact m3,by rw [hxl];exact m3',?_⟩
     have hcell:∀ k,(w.setRow blk (setL arr.toList (base+o*de.size+n*de.size) vn).toArray).cell? ⟨blk,k,none⟩=(setL arr.toList (base+o*de.size+n*de.size) vn)[k]?:=fun k=>by
      rw [cell_setRow_same w blk k arr _ ty' _ m1];simp
     have hcold:∀ k,w.cell? ⟨blk,k,none⟩=arr.toList[k]?:=fun k=>by rw [cell_of_row w blk k arr ty' _ m1];simp
     have e1:(o+n)*de.size=o*de.size+n*de.size:=Nat.add_mul ..
     have htl:(xs.take (o+n)).length=o+n:=by simp;omega
     refine CRows.cons_left ?_ (CRows.cons_left ?_ ?_)
     ·obtain ⟨vs,q1,q2⟩:=(m4.sub 0 (o+n)).vals
      simp only [List.drop_zero,Nat.zero_mul,Nat.add_zero] at q1 q2
      refine CRows.of_vals (q1.mono (fun _ h=>h) hG) fun k v hk=>?_
      have hk':=(List.getElem?_eq_some_iff.1 hk).1
      rw [q1.len,htl] at hk'
      rw [hcell,setL_get hbound,if_neg (by omega),← hcold]
      exact q2 k v hk
     ·rw [htl]
      refine CRows.of_vals (hn4.mono (fun _ h=>h) hG) fun k v hk=>?_
      have hk':=(List.getElem?_eq_some_iff.1 hk).1
      rw [hcell,setL_get hbound,if_pos (by omega),show base+(o+n)*de.size+k - (base+o*de.size+n*de.size)=k from by omega]
      exact hk
     ·rw [htl]
      obtain ⟨vs,q1,q2⟩:=(m4.sub (o+n+new.length) (xs.length - (o+n+new.length))).vals
      have e2:(o+n+new.length)*de.size=o*de.size+n*de.size+new.length*de.size:=by rw [Nat.add_mul,Nat.add_mul]
      have e3:((xs.drop (o+n+new.length)).take (xs.length - (o+n+new.length)))=xs.drop (o+n+new.length):=List.take_of_length_le (by simp)
      rw [e3] at q1
      refine CRows.of_vals (q1.mono (fun _ h=>h) hG) fun k v hk=>?_
      rw [hcell,setL_get hbound,if_neg (by have:=hn4.len;omega),← hcold]
      have:=q2 k v hk
      rwa [show base+(o+n+new.length)*de.size+k=base+(o+n)*de.size+new.length*de.size+k from by omega] at this
    ·simp only [Rep]
     refine ⟨.inr rfl,k2,by simp [Env.upd];omega,some p',c,rfl,hfit,by simp,fun _=>?_⟩
     simp only [Env.upd,if_true,SlAt]
     exact ⟨p',rfl,n3,n4⟩
  ·rename_i hnf
   split at h
   case isFalse=>exact consume h
   rename_i hft
   simp only [Option.some.injEq,Prod.mk.injEq] at h
   obtain ⟨rfl,rfl⟩:=h
   rw [hlen]
   have hnfit:¬ n+new.length≤c:=by
    cases hl:E.loc b with
    | none =>
     simp only [hl,SlAt] at hsl l3
     subst l3
     obtain ⟨rfl,rfl⟩:=hsl
     intro hh
     refine hnf ?_
     simp only [List.length_nil]
     omega
    | some l =>
     obtain ⟨blk,base,sz⟩:=l
     simp only [hl,SlAt] at hsl l3
     obtain ⟨p',rfl,n3,n4⟩:=hsl
     obtain ⟨arr,ty',m1,m2,m2',m3,m3',m4⟩:=l3
     have h1:(o+c)*de.size=xs.length*de.size:=by have:=m3' hft;omega
     have:=Nat.eq_of_mul_eq_mul_right (by omega) h1
     omega
   rw [if_neg hnfit] at hrun'
   exact ⟨_,_,_,hrun',hren nid 1 (fun hh=>absurd hh hnid) (Nat.le_refl _),hrep nid 1 (Nat.le_refl _)⟩
theorem overwrite_ok {w0:World} {bl:Bk} {E:Env} {w:World} {b m s q:Nat} {f:Bool} {xs new:List (List AV)} {vs:List Value} {blk base sz:Nat} {arr:Array Value} {ty:TypeId} (hI:Inv w0 bl E w) (hb:E.alive b) (hv:E.ver b=m) (hm:1≤m)
  (hl:E.loc b=some (blk,base,sz)) (m1:w.heap[blk]?=some (.cells arr ty (0,0))) (m2:sz≤arr.size) (m2':∀ y∈arr.toList,y.oneCell'=true) (m3:base+xs.length*s≤sz) (m3':f=true→base+xs.length*s=sz) (m4:CRows w E.G s blk base xs)
  (hn:VR w E.G s vs new) (hq:q+new.length≤xs.length) :
  StepTo w0 bl E w [(b,.vec m s f (xs.take q++(new++xs.drop (q+new.length))))] (E.upd b m (some (blk,base,sz))) (w.setRow blk (setL arr.toList (base+q*s) vs).toArray)∧base+q*s+vs.length≤arr.toList.length:=by
 have h1:(q+new.length)*s=q*s+new.length*s:=Nat.add_mul ..
 have h2:(q+new.length)*s≤xs.length*s:=Nat.mul_le_mul_right s hq
 have hbound:base+q*s+vs.length≤arr.toList.length:=by rw [hn.len];simp;omega
 refine ⟨?_,hbound⟩
 have hG:∀ k,E.G k→(w.setRow blk (setL arr.toList (base+q*s) vs).toArray).heap[k]?=w.heap[k]?:=fun k hk =>
  setRow_other _ _ _ _ fun e=>by subst e;exact (hI.locs b _ _ _ hb hl).2.1 hk
 have hxl:(xs.take q++(new++xs.drop (q+new.length))).length=xs.length:=by simp;omega
 refine StepTo.write hI b _ m blk base base sz sz arr _ ty hb hl m1 (.inl ⟨hv.symm,rfl,rfl⟩) ?_
 simp only [ObjRep,Env.upd,if_true]
 refine ⟨trivial,hm,_,ty,setRow_heap w blk _ _ ty _ m1,by simpa [setL_length] using m2,by simpa using setL_mem m2' hn.one,by rw [hxl];exact m3,by rw [hxl];exact m3',?_⟩
 have hcell:∀ k,(w.setRow blk (setL arr.toList (base+q*s) vs).toArray).cell? ⟨blk,k,none⟩=(setL arr.toList (base+q*s) vs)[k]?:=fun k=>by
  rw [cell_setRow_same w blk k arr _ ty _ m1];simp
 have hcold:∀ k,w.cell? ⟨blk,k,none⟩=arr.toList[k]?:=fun k=>by rw [cell_of_row w blk k arr ty _ m1];simp
 have htl:(xs.take q).length=q:=by simp;omega
 refine CRows.cons_left ?_ (CRows.cons_left ?_ ?_)
 ·obtain ⟨us,q1,q2⟩:=(m4.sub 0 q).vals
  simp only [List.drop_zero,Nat.zero_mul,Nat.add_zero] at q1 q2
  refine CRows.of_vals (q1.mono (fun _ h=>h) hG) fun k v hk=>?_
  have hk':=(List.getElem?_eq_some_iff.1 hk).1
  rw [q1.len,htl] at hk'
  rw [hcell,setL_get hbound,if_neg (by omega),← hcold]
  exact q2 k v hk
 ·rw [htl]
  refine CRows.of_vals (hn.mono (fun _ h=>h) hG) fun k v hk=>?_
  have hk':=(List.getElem?_eq_some_iff.1 hk).1
  rw [hcell,setL_get hbound,if_pos (by omega),show base+q*s+k - (base+q*s)=k from by omega]
  exact hk
 ·rw [htl]
  obtain ⟨us,q1,q2⟩:=(m4.sub (q+new.length) (xs.length - (q+new.length))).vals
  have e3:((xs.drop (q+new.length)).take (xs.length - (q+new.length)))=xs.drop (q+new.length):=List.take_of_length_le (by simp)
  rw [e3] at q1
  refine CRows.of_vals (q1.mono (fun _ h=>h) hG) fun k v hk=>?_
  rw [hcell,setL_get hbound,if_neg (by have:=hn.len;omega),← hcold]
  have:=q2 k v hk
  rwa [show base+(q+new.length)*s+k=base+q*s+new.length*s+k from by omega] at this
theorem overwrite_sl {P:Program} {w0:World} {bl:Bk} {E:Env} {w:World} {M:Nat→AO} {b m s o n c:Nat} {p:Option Addr} {f:Bool} {xs new:List (List AV)} {vs:List Value} (hI:Inv w0 bl E w) (hM:MemOK E w M) (hr:Rep E w (.sl b m s o n) (.slice p n c)) (hMb:M b=.vec m s f xs)
  (hn:VR w E.G s vs new) (hq:o+new.length≤xs.length) (hnn:new.length≤n) :
  ∃ E' w',((match p with|some a=>storeCells a vs|none=>pure ()).run P w)=.ok () w'∧StepTo w0 bl E w [(b,.vec m s f (xs.take o++(new++xs.drop (o+new.length))))] E' w':=by
 simp only [Rep] at hr
 obtain ⟨k1,k2,k3,p',c',heq,k4,k4',k5⟩:=hr
 simp only [Value.slice.injEq] at heq
 obtain ⟨rfl,-,rfl⟩:=heq
 have hob:=hM b k1
 simp only [hMb,ObjRep] at hob
 obtain ⟨l1,l2,l3⟩:=hob
 have hsl:=k5 l1.symm
 have same:new=[]→∃ E' w',((match p with|some a=>storeCells a vs|none=>pure ()).run P w)=.ok () w'∧StepTo w0 bl E w [(b,.vec m s f (xs.take o++(new++xs.drop (o+new.length))))] E' w':=fun h0=>by
  subst h0
  have hv0:vs=[]:=by have:=hn.len;simpa using this
  subst hv0
  refine ⟨E,w,by cases p<;>simp [storeCells],StepTo.retell hI k1 ?_⟩
  have hx:xs.take o++([]++xs.drop (o+([]:List (List AV)).length))=xs:=by simp
  rw [hx,← hMb]
  exact hM b k1
 cases hl:E.loc b with
 | none =>
  simp only [hl] at l3
  subst l3
  exact same (by simp at hq;exact hq.2)
 | some l =>
  obtain ⟨blk,base,sz⟩:=l
  simp only [hl,SlAt] at hsl l3
  obtain ⟨a,rfl,n3,n4⟩:=hsl
  obtain ⟨arr,ty,m1,m2,m2',m3,m3',m4⟩:=l3
  rcases n3 with n3|n3
  ·exact same (List.length_eq_zero_iff.1 (by omega))
  ·obtain ⟨st,hbound⟩:=overwrite_ok hI k1 l1 l2 hl m1 m2 m2' m3 m3' m4 hn hq
   refine ⟨_,_,?_,st⟩
   subst n3
   have:=run_storeCells_at (P:=P) (vs:=vs) (off:=base+o*s) (i:=0) m1 (by simpa using hbound) hn.one
   simpa using this
theorem VR.take {w:World} {G:Nat→Prop} {s:Nat} {vs:List Value} {rows:List (List AV)} (h:VR w G s vs rows) (k:Nat):VR w G s (vs.take (k*s)) (rows.take k):=by
 by_cases hk:k≤rows.length
 ·have h1:k*s≤rows.length*s:=Nat.mul_le_mul_right s hk
  refine ⟨?_,fun y hy=>h.one y (List.mem_of_mem_take hy),fun e he=>h.row e (List.mem_of_mem_take he),fun i e he j a ha=>?_⟩
  ·rw [List.length_take,h.len,List.length_take,Nat.min_eq_left h1,Nat.min_eq_left hk]
  ·have hik:i<k:=by
    have:=(List.getElem?_eq_some_iff.1 he).1
    simp at this;omega
   rw [List.getElem?_take,if_pos hik] at he
   obtain ⟨y,h1,h2⟩:=h.get i e he j a ha
   refine ⟨y,?_,h2⟩
   have hj:j<s:=by
    have:=(List.getElem?_eq_some_iff.1 ha).1
    rwa [h.row e (List.mem_of_getElem? he)] at this
   have:(i+1)*s≤k*s:=Nat.mul_le_mul_right s (by omega)
   have e1:(i+1)*s=i*s+s:=by rw [Nat.add_mul];omega
   rw [List.getElem?_take,if_pos (by omega)]
   exact h1
 ·have e1:rows.take k=rows:=List.take_of_length_le (by omega)
  have e2:vs.take (k*s)=vs:=List.take_of_length_le (by
   rw [h.len]
   exact Nat.mul_le_mul_right s (by omega))
  rw [e1,e2]
  exact h
end Go.AM
