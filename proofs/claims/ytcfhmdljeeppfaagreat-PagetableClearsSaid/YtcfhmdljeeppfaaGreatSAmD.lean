/- A part of the proof: what functions of the program compute, by abstract execution of their code. Its theorems hold without further condition. -/
import Derived.Test.YtcfhmdljeeppfaaGreatSAmC
set_option linter.all false
namespace Go.AM
open Go
structure VR (w:World) (G:Nat→Prop) (s:Nat) (vs:List Value) (rows:List (List AV)):Prop where
 len:vs.length=rows.length*s
 one:∀ y∈vs,y.oneCell'=true
 row:∀ e∈rows,e.length=s
 get:∀ i e,rows[i]?=some e→∀ j a,e[j]?=some a→∃ v,vs[i*s+j]?=some v∧CRep w G a v
theorem VR.nil {w:World} {G:Nat→Prop} {s:Nat}:VR w G s [] []:=⟨by simp,by simp,by simp,by simp⟩
theorem VR.mono {w w':World} {G G':Nat→Prop} {s:Nat} {vs:List Value} {rows:List (List AV)} (h:VR w G s vs rows) (hG:∀ k,G k→G' k) (hw:∀ k,G k→w'.heap[k]?=w.heap[k]?):VR w' G' s vs rows :=
 ⟨h.len,h.one,h.row,fun i e he j a ha=>let ⟨v,h1,h2⟩:=h.get i e he j a ha;⟨v,h1,h2.mono hG hw⟩⟩
theorem VR.append {w:World} {G:Nat→Prop} {s:Nat} {vs us:List Value} {rows rows':List (List AV)} (h:VR w G s vs rows) (k:VR w G s us rows'):VR w G s (vs++us) (rows++rows') where
 len:=by simp [h.len,k.len,Nat.add_mul]
 one:=fun y hy=>by rcases List.mem_append.1 hy with h1|h1;exact h.one y h1;exact k.one y h1
 row:=fun y hy=>by rcases List.mem_append.1 hy with h1|h1;exact h.row y h1;exact k.row y h1
 get:=fun i e he j a ha=>by
  by_cases hi:i<rows.length
  ·rw [List.getElem?_append_left hi] at he
   obtain ⟨v,h1,h2⟩:=h.get i e he j a ha
   exact ⟨v,by rw [List.getElem?_append_left (List.getElem?_eq_some_iff.1 h1).1];exact h1,h2⟩
  ·rw [List.getElem?_append_right (by omega)] at he
   obtain ⟨v,h1,h2⟩:=k.get _ e he j a ha
   refine ⟨v,?_,h2⟩
   have hle:rows.length*s≤i*s:=Nat.mul_le_mul_right s (by omega)
   rw [List.getElem?_append_right (by rw [h.len];omega),h.len,show i*s+j - rows.length*s=(i - rows.length)*s+j from by rw [Nat.sub_mul];omega]
   exact h1
theorem VR.one_row {w:World} {G:Nat→Prop} {vs:List Value} {e:List AV} (h:CRepL w G e vs) (ho:∀ y∈vs,y.oneCell'=true):VR w G e.length vs [e] where
 len:=by
  have:∀ {as:List AV} {xs:List Value},CRepL w G as xs→xs.length=as.length:=by
   intro as
   induction as with
   | nil=>intro xs h;cases xs<;>simp [CRepL] at h ⊢
   | cons a r ih=>intro xs h;cases xs<;>simp only [CRepL] at h ⊢;simp [ih h.2]
  simp [this h]
 one:=ho
 row:=by simp
 get:=fun i e' he j a ha=>by
  cases i with
  | zero=>simp at he;subst he;obtain ⟨v,h1,h2⟩:=h.get ha;exact ⟨v,by simpa using h1,h2⟩
  | succ i=>simp at he
theorem CRows.vals {w:World} {G:Nat→Prop} {s blk:Nat}:∀ {rows:List (List AV)} {off:Nat},CRows w G s blk off rows→∃ vs,VR w G s vs rows∧∀ k v,vs[k]?=some v→w.cell? ⟨blk,off+k,none⟩=some v
 | [],off,_=>⟨[],VR.nil,by simp⟩
 | e::r,off,h=>by
  simp only [CRows] at h
  obtain ⟨v1,h1,h2,h3,h4⟩:=h.2.1.vals
  obtain ⟨v2,k1,k2⟩:=CRows.vals h.2.2
  refine ⟨v1++v2,?_,fun k v e=>?_⟩
  ·have:=VR.one_row h2 h3
   rw [h.1] at this
   exact this.append k1
  ·by_cases hk:k<v1.length
   ·rw [List.getElem?_append_left hk] at e;exact h4 k v e
   ·rw [List.getElem?_append_right (by omega)] at e
    have:=k2 _ v e
    rwa [show off+s+(k - v1.length)=off+k from by omega] at this
theorem CRows.of_vals {w:World} {G:Nat→Prop} {s blk off:Nat} {vs:List Value} {rows:List (List AV)} (h:VR w G s vs rows) (hc:∀ k v,vs[k]?=some v→w.cell? ⟨blk,off+k,none⟩=some v):CRows w G s blk off rows :=
 CRows.of_get fun i e he=>⟨h.row e (List.mem_of_getElem? he),CCells.of_get fun j a ha=>by
  obtain ⟨v,h1,h2⟩:=h.get i e he j a ha
  exact ⟨v,by rw [Nat.add_assoc];exact hc _ v h1,h.one v (List.mem_of_getElem? h1),h2⟩⟩
theorem CRows.sub {w:World} {G:Nat→Prop} {s blk off:Nat} {xs:List (List AV)} (h:CRows w G s blk off xs) (o n:Nat):CRows w G s blk (off+o*s) ((xs.drop o).take n) :=
 CRows.of_get fun i e he=>by
  rw [List.getElem?_take] at he
  split at he
  ·rw [List.getElem?_drop] at he
   have:=h.get he
   rw [show off+o*s+i*s=off+(o+i)*s from by rw [Nat.add_mul];omega]
   exact this
  ·simp at he
theorem CRows.cons_left {w:World} {G:Nat→Prop} {s blk off:Nat} {xs ys:List (List AV)} (h:CRows w G s blk off xs) (k:CRows w G s blk (off+xs.length*s) ys):CRows w G s blk off (xs++ys) :=
 CRows.of_get fun i e he=>by
  by_cases hi:i<xs.length
  ·rw [List.getElem?_append_left hi] at he;exact h.get he
  ·rw [List.getElem?_append_right (by omega)] at he
   have:=k.get he
   have hle:xs.length*s≤i*s:=Nat.mul_le_mul_right s (by omega)
   rw [show off+i*s=off+xs.length*s+(i - xs.length)*s from by rw [Nat.sub_mul];omega]
   exact this
def aRows (M:Nat→AO) (sz:Nat):AV→Option (List (List AV))
 | .rd s xs=>if s=sz then some xs else none
 | .sl b m s o n=>match M b with
  | .vec m' s' _ xs=>if m=m'∧s=s'∧s=sz∧o+n≤xs.length then some ((xs.drop o).take n) else none
  | _=>none
 | .v (.slice none 0 0)=>some []
 | .v (.slice (some _) 0 _)=>some []
 | _=>none
theorem aRows_ok {M:Nat→AO} {sz:Nat} {a:AV} {rows:List (List AV)} {E:Env} {w:World} {x:Value} (h:aRows M sz a=some rows) (hr:Rep E w a x) (hM:MemOK E w M) :
  ∃ p c,x=.slice p rows.length c∧rows.length≤c∧(p=none→c=0)∧∃ vs,VR w E.G sz vs rows∧(rows=[]∨∃ blk off,p=some ⟨blk,off,none⟩∧∀ k v,vs[k]?=some v→w.cell? ⟨blk,off+k,none⟩=some v):=by
 unfold aRows at h
 cases a<;>(try simp only [reduceCtorEq] at h)
 case rd s xs =>
  split at h
  ·rename_i hs
   subst hs
   simp only [Option.some.injEq] at h
   subst h
   simp only [Rep,CRep] at hr
   obtain ⟨p,c,h1,h2,h3,h4⟩:=hr
   rcases h4 with h4|⟨blk,off,h5,h6,h7⟩
   ·subst h4;exact ⟨p,c,h1,h2,h3,[],VR.nil,.inl rfl⟩
   ·obtain ⟨vs,k1,k2⟩:=h7.vals
    exact ⟨p,c,h1,h2,h3,vs,k1,.inr ⟨blk,off,h5,k2⟩⟩
  ·simp at h
 case sl b m s o n =>
  simp only [Rep] at hr
  obtain ⟨h1,h2,h3,p,c,rfl,h4,h4',h5⟩:=hr
  have ho:=hM b h1
  cases hb:M b<;>simp only [hb,reduceCtorEq] at h ho
  rename_i m' s' f xs
  split at h
  case isFalse=>simp at h
  rename_i hm
  obtain ⟨rfl,rfl,rfl,hle⟩:=hm
  simp only [Option.some.injEq] at h
  subst h
  simp only [ObjRep] at ho
  obtain ⟨k1,k2,k3⟩:=ho
  have hsl:=h5 k1.symm
  have hlen:((xs.drop o).take n).length=n:=by simp;omega
  cases hl:E.loc b with
  | none =>
   simp only [hl,SlAt] at hsl
   obtain ⟨rfl,rfl⟩:=hsl
   obtain rfl:n=0:=by omega
   exact ⟨p,0,by simp,by simp,fun _=>rfl,[],by simpa using VR.nil,.inl (by simp)⟩
  | some l =>
   obtain ⟨blk,base,sz⟩:=l
   simp only [hl,SlAt] at hsl k3
   obtain ⟨pa,rfl,l4,l5⟩:=hsl
   obtain ⟨arr,ty,k4,k5,k5',k6,k6',k7⟩:=k3
   refine ⟨some pa,c,by rw [hlen],by omega,by simp,?_⟩
   obtain ⟨vs,n1,n2⟩:=(k7.sub o n).vals
   refine ⟨vs,n1,?_⟩
   rcases l4 with l4|l4
   ·left
    have:n=0:=by omega
    subst this
    simp
   ·exact .inr ⟨blk,_,by rw [l4],n2⟩
 case v y =>
  split at h
  ·rename_i heq
   simp at heq
  ·rename_i heq
   simp at heq
  ·rename_i heq
   simp only [AV.v.injEq] at heq
   subst heq
   simp only [Option.some.injEq] at h
   subst h
   simp only [Rep,CRep] at hr
   subst hr
   exact ⟨none,0,rfl,by simp,fun _=>rfl,[],VR.nil,.inl rfl⟩
  ·rename_i heq
   simp only [AV.v.injEq] at heq
   subst heq
   simp only [Option.some.injEq] at h
   subst h
   simp only [Rep,CRep] at hr
   subst hr
   exact ⟨_,_,rfl,by simp,by simp,[],VR.nil,.inl rfl⟩
  ·simp at h
theorem firstCells_ok {P:Program} {w:World} {G:Nat→Prop} {sz c:Nat} {p:Option Addr} {vs:List Value} {rows:List (List AV)} {n:Nat} (hv:VR w G sz vs rows) (hp:p=none→c=0) (hn:n=rows.length) (hc:rows.length≤c)
  (h:rows=[]∨∃ blk off,p=some ⟨blk,off,none⟩∧∀ k v,vs[k]?=some v→w.cell? ⟨blk,off+k,none⟩=some v) :
  (Builtin.firstCells sz n (.slice p n c)).run P w=.ok vs.toArray w:=by
 subst hn
 rcases h with h|⟨blk,off,rfl,h⟩
 ·subst h
  have:vs=[]:=by have:=hv.len;simp at this;exact this
  subst this
  cases p<;>simp [Builtin.firstCells,loadCells,loadCellsFrom]
 ·have:=run_loadCells_list (P:=P) (w:=w) ⟨blk,off,none⟩ vs fun j v e=>by rw [add_plain];exact h j v e
  rw [hv.len] at this
  simpa [Builtin.firstCells] using this
theorem StepTo.renew {w0:World} {bl:Bk} {E:Env} {w w1:World} (h:Inv w0 bl E w) (hw1:w1.heap=w.heap) (ho1:w1.os=w.os) (ho2:w1.output=w.output) (b m s:Nat) (f:Bool) (xs:List (List AV)) (c:Array Value) (t:TypeId) (vs:List Value)
  (hb:E.alive b→1≤E.ver b∧E.ver b<m) (hm:1≤m) (hv:VR w E.G s vs xs) (hc:∀ (k:Nat) (v:Value),vs[k]?=some v→c[k]?=some v) (hsz:xs.length*s≤c.size) (hone:∀ y∈c.toList,y.oneCell'=true) (hf:f=true→xs.length*s=c.size) :
  StepTo w0 bl E w [(b,.vec m s f xs)] (E.upd b m (some (w.heap.size,0,c.size))) (w1.alloc (.cells c t)):=by
 have hnew:(w1.alloc (.cells c t)).heap[w.heap.size]?=some (.cells c t (0,0)):=by rw [← hw1];exact heap_alloc_new w1 _
 have hold:∀ k,k<w.heap.size→(w1.alloc (.cells c t)).heap[k]?=w.heap[k]?:=fun k hk=>by rw [heap_alloc_old w1 _ k (by rw [hw1];exact hk),hw1]
 have hsize:(w1.alloc (.cells c t)).heap.size=w.heap.size+1:=by simp [hw1]
 refine StepTo.one h b _ m _ (fun hh=>.inr (hb hh)) (fun blk base' sz e=>?_) (by omega) ho1 ho2 (fun k hk _=>hold k hk) ?_
 ·simp only [Option.some.injEq,Prod.mk.injEq] at e
  exact .inr ⟨by omega,by omega⟩
 ·simp only [ObjRep,Env.upd,if_true]
  refine ⟨trivial,hm,c,t,hnew,Nat.le_refl _,hone,by omega,by simpa using hf,CRows.of_vals (hv.mono (fun _ h=>h) fun k hk=>hold k (h.good k hk)) fun k v e=>?_⟩
  rw [cell_of_row _ _ _ c t _ hnew]
  simpa using hc k v e
def aAppend (T:TypeId→Option TD) (M:Nat→AO) (nid:Nat) (st xt:TypeId) (s x:AV):Option (AV×List (Nat×AO)) :=
  match T st,T xt with
  | some ds,some dx =>
    match ds.k,dx.k with
    | .slice e,.slice _ =>
      match T e with
      | some de =>
        match aRows M de.size s,aRows M de.size x with
        | some old,some new =>
          if old.length+new.length≤1073741824∧de.bytes≤65536∧de.zero.length=de.size∧de.zero.all Value.oneCell'=true then
            match s with
            | .sl b m _ o n=>match M b with
              | .vec _ _ f xs =>
                if (o+n<xs.length∨f=true)∧1≤de.size then
                  (if o+n+new.length≤xs.length then some (.sl b m de.size o (n+new.length),[(b,.vec m de.size f (xs.take (o+n)++(new++xs.drop (o+n+new.length))))])
                   else if f=true then some (.sl nid 1 de.size 0 (old.length+new.length),[(nid,.vec 1 de.size false (old++new))])
                   else some (.sl b (m+1) de.size 0 (old.length+new.length),[(b,.vec (m+1) de.size false (old++new))]))
                else some (.sl b (m+1) de.size 0 (old.length+new.length),[(b,.vec (m+1) de.size false (old++new))])
              | _=>none
            | .v (.slice none 0 0)=>some (.sl nid 1 de.size 0 (old.length+new.length),[(nid,.vec 1 de.size false (old++new))])
            | _=>none
          else none
        | _,_=>none
      | none=>none
    | _,_=>none
  | _,_=>none
theorem growBy_le:∀ (r c n b:Nat),c≤b→n+(n+768)/4≤b→Builtin.growBy n r c≤b
 | 0,c,n,b,h,_=>by simpa [Builtin.growBy] using h
 | r+1,c,n,b,h,k=>by
  simp only [Builtin.growBy]
  split
  ·exact h
  ·exact growBy_le r _ n b (by omega) k
theorem nextcap_le (need cap:Nat) (h:cap<need):Builtin.nextslicecap need cap≤2*need+1000:=by
 unfold Builtin.nextslicecap
 split
 ·omega
 ·split
  ·omega
  ·exact growBy_le 4 cap need _ (by omega) (by omega)
theorem cut_appendCap (need old:Nat) (e:TypeId) (t:Nat):need≤(Question.appendCap need old e).cut t:=by
 simp [Question.cut]
theorem append_run {P:Program} {w:World} {st xt e:TypeId} {ds dx de:TD} {ex:TypeId} (hst:Types P st=some ds) (hxt:Types P xt=some dx) (he:Types P e=some de) (hks:ds.k=.slice e) (hkx:dx.k=.slice ex) {G:Nat→Prop}
  {old new:List (List AV)} {p q:Option Addr} {c c':Nat} {vo vn:List Value}
  (ho:VR w G de.size vo old) (hn:VR w G de.size vn new) (hp:p=none→c=0) (hq:q=none→c'=0) (hc:old.length≤c) (hc':new.length≤c')
  (hco:old=[]∨∃ blk off,p=some ⟨blk,off,none⟩∧∀ k v,vo[k]?=some v→w.cell? ⟨blk,off+k,none⟩=some v)
  (hcn:new=[]∨∃ blk off,q=some ⟨blk,off,none⟩∧∀ k v,vn[k]?=some v→w.cell? ⟨blk,off+k,none⟩=some v)
  (hb:old.length+new.length≤1073741824∧de.bytes≤65536) (ty:TypeId) :
  (Builtin.append_ #[st,xt] ty #[.slice p old.length c,.slice q new.length c']).run P w =
   if old.length+new.length≤c then ((match p with|some a=>storeCells (a.add (old.length*de.size)) vn|none=>pure ()).run P w).andThen fun _ w'=>.ok (.slice p (old.length+new.length) c) w'
   else .ok (.slice (some ⟨w.heap.size,0,none⟩) (old.length+new.length) ((Question.appendCap (old.length+new.length) c e).cut (w.tape w.drawn (.appendCap (old.length+new.length) c e))))
    (({ w with drawn:=w.drawn+1 }:World).alloc (.cells (vo.toArray++vn.toArray++Builtin.zeroCells de.zero.toArray ((Question.appendCap (old.length+new.length) c e).cut (w.tape w.drawn (.appendCap (old.length+new.length) c e)) - (old.length+new.length))) e)):=by
 obtain ⟨i,hi,hib,_⟩:=run_info (P:=P) (w:=w) he
 obtain ⟨i2,hi2,_,_⟩:=run_info (P:=P) (w:={ w with drawn:=w.drawn+1 }) he
 obtain ⟨z,hz,hzz⟩:=run_zero (P:=P) (w:={ w with drawn:=w.drawn+1 }) he
 have f1:=firstCells_ok (P:=P) hn hq rfl hc' hcn
 have f2:=firstCells_ok (P:=P) (w:={ w with drawn:=w.drawn+1 }) (hn.mono (fun _ h=>h) fun _ _=>rfl) hq rfl hc' hcn
 have f3:=firstCells_ok (P:=P) (w:={ w with drawn:=w.drawn+1 }) (ho.mono (fun _ h=>h) fun _ _=>rfl) hp rfl hc hco
 simp only [Builtin.append_]
 simp only [List.getElem?_toArray,List.getElem?_cons_zero,List.getElem?_cons_succ,Sem.run_bind,und_slice hst hks,und_slice hxt hkx,Result.andThen_ok,run_size he,Sem.run_pure,Builtin.lenOf,Bool.false_eq_true,if_false,Bool.not_false,if_true,Sem.run_ite]
 split
 ·rename_i hle
  rw [f1]
  cases p<;>simp
 ·rename_i hle
  simp only [hi,Result.andThen_ok,hib]
  have hcap:=nextcap_le (old.length+new.length) c (by omega)
  have hmul:Builtin.nextslicecap (old.length+new.length) c*de.bytes≤(2*(old.length+new.length)+1000)*65536:=Nat.mul_le_mul hcap hb.2
  have hlim:¬ (Builtin.nextslicecap (old.length+new.length) c*de.bytes > 2^48):=by
   have:(2*(old.length+new.length)+1000)*65536≤2^48:=by omega
   omega
  have hbig:¬ (((old.length+new.length:Nat):Int) > IntKind.i64.max∧(False∨de.bytes=0)):=by
   intro hh
   have h1:=hh.1
   simp [IntKind.max,IntKind.signed,IntKind.bits] at h1
   omega
  rw [if_neg hbig,if_neg hlim]
  simp only [run_choose,Question.forced,Bool.false_eq_true,if_false,Result.andThen_ok,hi2,run_askRoom,f3,f2,hz,Sem.run_bind,newRow,run_newObj,Sem.run_pure]
  have:z.cells=de.zero.toArray:=by rw [← hzz]
  simp only [this]
  rfl
end Go.AM
