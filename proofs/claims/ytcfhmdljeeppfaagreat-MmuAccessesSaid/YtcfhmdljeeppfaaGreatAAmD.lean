/- A part of the proof: what functions of the program compute, by abstract execution of their code. Its theorems hold without further condition. -/
import Derived.Test.YtcfhmdljeeppfaaGreatAAmA
import Derived.Laws.Slices
import Derived.Laws.MakeOwn
set_option linter.all false
namespace Go.AM
open Go
structure VR (w:World) (G:Nat→Prop) (s:Nat) (vs:List Value) (rows:List (List AV)):Prop where
 len:vs.length=rows.length*s
 one:∀ y∈vs,y.oneCell'=true
 row:∀ e∈rows,e.length=s
 get:∀ i e,rows[i]?=some e→∀ j a,e[j]?=some a→∃ v,vs[i*s+j]?=some v∧CRep w G a v
theorem VR.nil {w:World} {G:Nat→Prop} {s:Nat}:VR w G s [] []:=⟨by simp,by simp,by simp,by simp⟩
theorem VR.mono {w w':World} {G G':Nat→Prop} {s:Nat} {vs:List Value} {rows:List (List AV)} (h:VR w G s vs rows) (hG:∀ k,G k→G' k) (hw:∀ k,G k→w'.heap[k]?=w.heap[k]?):VR w' G' s vs rows :=
 ⟨h.len,h.one,h.row,fun i e he j a ha=>let ⟨v,h1,h2⟩:=h.get i e he j a ha;⟨v,h1,h2.mono hG hw⟩⟩
theorem VR.append {w:World} {G:Nat→Prop} {s:Nat} {vs us:List Value} {rows rows':List (List AV)} (h:VR w G s vs rows) (k:VR w G s us rows'):VR w G s (vs++us) (rows++rows') where
 len:=by simp [h.len,k.len,Nat.add_mul]
 one:=fun y hy=>by rcases List.mem_append.1 hy with h1|h1;exact h.one y h1;exact k.one y h1
 row:=fun y hy=>by rcases List.mem_append.1 hy with h1|h1;exact h.row y h1;exact k.row y h1
 get:=fun i e he j a ha=>by
  by_cases hi:i<rows.length
  ·rw [List.getElem?_append_left hi] at he
   obtain ⟨v,h1,h2⟩:=h.get i e he j a ha
   exact ⟨v,by rw [List.getElem?_append_left (List.getElem?_eq_some_iff.1 h1).1];exact h1,h2⟩
  ·rw [List.getElem?_append_right (by omega)] at he
   obtain ⟨v,h1,h2⟩:=k.get _ e he j a ha
   refine ⟨v,?_,h2⟩
   have hle:rows.length*s≤i*s:=Nat.mul_le_mul_right s (by omega)
   rw [List.getElem?_append_right (by rw [h.len];omega),h.len,show i*s+j - rows.length*s=(i - rows.length)*s+j from by rw [Nat.sub_mul];omega]
   exact h1
theorem VR.one_row {w:World} {G:Nat→Prop} {vs:List Value} {e:List AV} (h:CRepL w G e vs) (ho:∀ y∈vs,y.oneCell'=true):VR w G e.length vs [e] where
 len:=by
  have:∀ {as:List AV} {xs:List Value},CRepL w G as xs→xs.length=as.length:=by
   intro as
   induction as with
   | nil=>intro xs h;cases xs<;>simp [CRepL] at h ⊢
   | cons a r ih=>intro xs h;cases xs<;>simp only [CRepL] at h ⊢;simp [ih h.2]
  simp [this h]
 one:=ho
 row:=by simp
 get:=fun i e' he j a ha=>by
  cases i with
  | zero=>simp at he;subst he;obtain ⟨v,h1,h2⟩:=h.get ha;exact ⟨v,by simpa using h1,h2⟩
  | succ i=>simp at he
theorem CRows.vals {w:World} {G:Nat→Prop} {s blk:Nat}:∀ {rows:List (List AV)} {off:Nat},CRows w G s blk off rows→∃ vs,VR w G s vs rows∧∀ k v,vs[k]?=some v→w.cell? ⟨blk,off+k,none⟩=some v
 | [],off,_=>⟨[],VR.nil,by simp⟩
 | e::r,off,h=>by
  simp only [CRows] at h
  obtain ⟨v1,h1,h2,h3,h4⟩:=h.2.1.vals
  obtain ⟨v2,k1,k2⟩:=CRows.vals h.2.2
  refine ⟨v1++v2,?_,fun k v e=>?_⟩
  ·have:=VR.one_row h2 h3
   rw [h.1] at this
   exact this.append k1
  ·by_cases hk:k<v1.length
   ·rw [List.getElem?_append_left hk] at e;exact h4 k v e
   ·rw [List.getElem?_append_right (by omega)] at e
    have:=k2 _ v e
    rwa [show off+s+(k - v1.length)=off+k from by omega] at this
theorem CRows.of_vals {w:World} {G:Nat→Prop} {s blk off:Nat} {vs:List Value} {rows:List (List AV)} (h:VR w G s vs rows) (hc:∀ k v,vs[k]?=some v→w.cell? ⟨blk,off+k,none⟩=some v):CRows w G s blk off rows :=
 CRows.of_get fun i e he=>⟨h.row e (List.mem_of_getElem? he),CCells.of_get fun j a ha=>by
  obtain ⟨v,h1,h2⟩:=h.get i e he j a ha
  exact ⟨v,by rw [Nat.add_assoc];exact hc _ v h1,h.one v (List.mem_of_getElem? h1),h2⟩⟩
theorem CRows.sub {w:World} {G:Nat→Prop} {s blk off:Nat} {xs:List (List AV)} (h:CRows w G s blk off xs) (o n:Nat):CRows w G s blk (off+o*s) ((xs.drop o).take n) :=
 CRows.of_get fun i e he=>by
  rw [List.getElem?_take] at he
  split at he
  ·rw [List.getElem?_drop] at he
   have:=h.get he
   rw [show off+o*s+i*s=off+(o+i)*s from by rw [Nat.add_mul];omega]
   exact this
  ·simp at he
theorem CRows.cons_left {w:World} {G:Nat→Prop} {s blk off:Nat} {xs ys:List (List AV)} (h:CRows w G s blk off xs) (k:CRows w G s blk (off+xs.length*s) ys):CRows w G s blk off (xs++ys) :=
 CRows.of_get fun i e he=>by
  by_cases hi:i<xs.length
  ·rw [List.getElem?_append_left hi] at he;exact h.get he
  ·rw [List.getElem?_append_right (by omega)] at he
   have:=k.get he
   have hle:xs.length*s≤i*s:=Nat.mul_le_mul_right s (by omega)
   rw [show off+i*s=off+xs.length*s+(i - xs.length)*s from by rw [Nat.sub_mul];omega]
   exact this
def aRows (M:Nat→AO) (sz:Nat):AV→Option (List (List AV))
 | .rd s xs=>if s=sz then some xs else none
 | .sl b m s o n=>match M b with
  | .vec m' s' _ xs=>if m=m'∧s=s'∧s=sz∧o+n≤xs.length then some ((xs.drop o).take n) else none
  | _=>none
 | .v (.slice none 0 0)=>some []
 | .v (.slice (some _) 0 _)=>some []
 | _=>none
theorem aRows_ok {M:Nat→AO} {sz:Nat} {a:AV} {rows:List (List AV)} {E:Env} {w:World} {x:Value} (h:aRows M sz a=some rows) (hr:Rep E w a x) (hM:MemOK E w M) :
  ∃ p c,x=.slice p rows.length c∧rows.length≤c∧(p=none→c=0)∧∃ vs,VR w E.G sz vs rows∧(rows=[]∨∃ blk off,p=some ⟨blk,off,none⟩∧∀ k v,vs[k]?=some v→w.cell? ⟨blk,off+k,none⟩=some v):=by
 unfold aRows at h
 cases a<;>(try simp only [reduceCtorEq] at h)
 case rd s xs =>
  split at h
  ·rename_i hs
   subst hs
   simp only [Option.some.injEq] at h
   subst h
   simp only [Rep,CRep] at hr
   obtain ⟨p,c,h1,h2,h3,h4⟩:=hr
   rcases h4 with h4|⟨blk,off,h5,h6,h7⟩
   ·subst h4;exact ⟨p,c,h1,h2,h3,[],VR.nil,.inl rfl⟩
   ·obtain ⟨vs,k1,k2⟩:=h7.vals
    exact ⟨p,c,h1,h2,h3,vs,k1,.inr ⟨blk,off,h5,k2⟩⟩
  ·simp at h
 case sl b m s o n =>
  simp only [Rep] at hr
  obtain ⟨h1,h2,h3,p,c,rfl,h4,h4',h5⟩:=hr
  have ho:=hM b h1
  cases hb:M b<;>simp only [hb,reduceCtorEq] at h ho
  rename_i m' s' f xs
  split at h
  case isFalse=>simp at h
  rename_i hm
  obtain ⟨rfl,rfl,rfl,hle⟩:=hm
  simp only [Option.some.injEq] at h
  subst h
  simp only [ObjRep] at ho
  obtain ⟨k1,k2,k3⟩:=ho
  have hsl:=h5 k1.symm
  have hlen:((xs.drop o).take n).length=n:=by simp;omega
  cases hl:E.loc b with
  | none =>
   simp only [hl,SlAt] at hsl
   obtain ⟨rfl,rfl⟩:=hsl
   obtain rfl:n=0:=by omega
   exact ⟨p,0,by simp,by simp,fun _=>rfl,[],by simpa using VR.nil,.inl (by simp)⟩
  | some l =>
   obtain ⟨blk,base,sz⟩:=l
   simp only [hl,SlAt] at hsl k3
   obtain ⟨pa,rfl,l4,l5⟩:=hsl
   obtain ⟨arr,ty,k4,k5,k5',k6,k6',k7⟩:=k3
   refine ⟨some pa,c,by rw [hlen],by omega,by simp,?_⟩
   obtain ⟨vs,n1,n2⟩:=(k7.sub o n).vals
   refine ⟨vs,n1,?_⟩
   rcases l4 with l4|l4
   ·left
    have:n=0:=by omega
    subst this
    simp
   ·exact .inr ⟨blk,_,by rw [l4],n2⟩
 case v y =>
  split at h
  ·rename_i heq
   simp at heq
  ·rename_i heq
   simp at heq
  ·rename_i heq
   simp only [AV.v.injEq] at heq
   subst heq
   simp only [Option.some.injEq] at h
   subst h
   simp only [Rep,CRep] at hr
   subst hr
   exact ⟨none,0,rfl,by simp,fun _=>rfl,[],VR.nil,.inl rfl⟩
  ·rename_i heq
   simp only [AV.v.injEq] at heq
   subst heq
   simp only [Option.some.injEq] at h
   subst h
   simp only [Rep,CRep] at hr
   subst hr
   exact ⟨_,_,rfl,by simp,by simp,[],VR.nil,.inl rfl⟩
  ·simp at h
theorem firstCells_ok {P:Program} {w:World} {G:Nat→Prop} {sz c:Nat} {p:Option Addr} {vs:List Value} {rows:List (List AV)} {n:Nat} (hv:VR w G sz vs rows) (hp:p=none→c=0) (hn:n=rows.length) (hc:rows.length≤c)
  (h:rows=[]∨∃ blk off,p=some ⟨blk,off,none⟩∧∀ k v,vs[k]?=some v→w.cell? ⟨blk,off+k,none⟩=some v) :
  (Builtin.firstCells sz n (.slice p n c)).run P w=.ok vs.toArray w:=by
 subst hn
 rcases h with h|⟨blk,off,rfl,h⟩
 ·subst h
  have:vs=[]:=by have:=hv.len;simp at this;exact this
  subst this
  cases p<;>simp [Builtin.firstCells,loadCells,loadCellsFrom]
 ·have:=run_loadCells_list (P:=P) (w:=w) ⟨blk,off,none⟩ vs fun j v e=>by rw [add_plain];exact h j v e
  rw [hv.len] at this
  simpa [Builtin.firstCells] using this
theorem StepTo.renew {w0:World} {bl:Bk} {E:Env} {w w1:World} (h:Inv w0 bl E w) (hw1:w1.heap=w.heap) (ho1:w1.os=w.os) (ho2:w1.output=w.output) (b m s:Nat) (f:Bool) (xs:List (List AV)) (c:Array Value) (t:TypeId) (vs:List Value)
  (hb:E.alive b→1≤E.ver b∧E.ver b<m) (hm:1≤m) (hv:VR w E.G s vs xs) (hc:∀ (k:Nat) (v:Value),vs[k]?=some v→c[k]?=some v) (hsz:xs.length*s≤c.size) (hone:∀ y∈c.toList,y.oneCell'=true) (hf:f=true→xs.length*s=c.size) :
  StepTo w0 bl E w [(b,.vec m s f xs)] (E.upd b m (some (w.heap.size,0,c.size))) (w1.alloc (.cells c t)):=by
 have hnew:(w1.alloc (.cells c t)).heap[w.heap.size]?=some (.cells c t (0,0)):=by rw [← hw1];exact heap_alloc_new w1 _
 have hold:∀ k,k<w.heap.size→(w1.alloc (.cells c t)).heap[k]?=w.heap[k]?:=fun k hk=>by rw [heap_alloc_old w1 _ k (by rw [hw1];exact hk),hw1]
 have hsize:(w1.alloc (.cells c t)).heap.size=w.heap.size+1:=by simp [hw1]
 refine StepTo.one h b _ m _ (fun hh=>.inr (hb hh)) (fun blk base' sz e=>?_) (by omega) ho1 ho2 (fun k hk _=>hold k hk) ?_
 ·simp only [Option.some.injEq,Prod.mk.injEq] at e
  exact .inr ⟨by omega,by omega⟩
 ·simp only [ObjRep,Env.upd,if_true]
  refine ⟨trivial,hm,c,t,hnew,Nat.le_refl _,hone,by omega,by simpa using hf,CRows.of_vals (hv.mono (fun _ h=>h) fun k hk=>hold k (h.good k hk)) fun k v e=>?_⟩
  rw [cell_of_row _ _ _ c t _ hnew]
  simpa using hc k v e
def aAppend (T:TypeId→Option TD) (M:Nat→AO) (nid:Nat) (st xt:TypeId) (s x:AV):Option (AV×List (Nat×AO)) :=
  match T st,T xt with
  | some ds,some dx =>
    match ds.k,dx.k with
    | .slice e,.slice _ =>
      match T e with
      | some de =>
        match aRows M de.size s,aRows M de.size x with
        | some old,some new =>
          if old.length+new.length≤1073741824∧de.bytes≤65536∧de.zero.length=de.size∧de.zero.all Value.oneCell'=true then
            match s with
            | .sl b m _ o n=>match M b with
              | .vec _ _ f xs =>
                if (o+n<xs.length∨f=true)∧1≤de.size then
                  (if o+n+new.length≤xs.length then some (.sl b m de.size o (n+new.length),[(b,.vec m de.size f (xs.take (o+n)++(new++xs.drop (o+n+new.length))))])
                   else if f=true then some (.sl nid 1 de.size 0 (old.length+new.length),[(nid,.vec 1 de.size false (old++new))])
                   else some (.sl b (m+1) de.size 0 (old.length+new.length),[(b,.vec (m+1) de.size false (old++new))]))
                else some (.sl b (m+1) de.size 0 (old.length+new.length),[(b,.vec (m+1) de.size false (old++new))])
              | _=>none
            | .v (.slice none 0 0)=>some (.sl nid 1 de.size 0 (old.length+new.length),[(nid,.vec 1 de.size false (old++new))])
            | _=>none
          else none
        | _,_=>none
      | none=>none
    | _,_=>none
  | _,_=>none
theorem growBy_le:∀ (r c n b:Nat),c≤b→n+(n+768)/4≤b→Builtin.growBy n r c≤b
 | 0,c,n,b,h,_=>by simpa [Builtin.growBy] using h
 | r+1,c,n,b,h,k=>by
  simp only [Builtin.growBy]
  split
  ·exact h
  ·exact growBy_le r _ n b (by omega) k
theorem nextcap_le (need cap:Nat) (h:cap<need):Builtin.nextslicecap need cap≤2*need+1000:=by
 unfold Builtin.nextslicecap
 split
 ·omega
 ·split
  ·omega
  ·exact growBy_le 4 cap need _ (by omega) (by omega)
theorem cut_appendCap (need old:Nat) (e:TypeId) (t:Nat):need≤(Question.appendCap need old e).cut t:=by
 simp [Question.cut]
theorem append_run {P:Program} {w:World} {st xt e:TypeId} {ds dx de:TD} {ex:TypeId} (hst:Types P st=some ds) (hxt:Types P xt=some dx) (he:Types P e=some de) (hks:ds.k=.slice e) (hkx:dx.k=.slice ex) {G:Nat→Prop}
  {old new:List (List AV)} {p q:Option Addr} {c c':Nat} {vo vn:List Value}
  (ho:VR w G de.size vo old) (hn:VR w G de.size vn new) (hp:p=none→c=0) (hq:q=none→c'=0) (hc:old.length≤c) (hc':new.length≤c')
  (hco:old=[]∨∃ blk off,p=some ⟨blk,off,none⟩∧∀ k v,vo[k]?=some v→w.cell? ⟨blk,off+k,none⟩=some v)
  (hcn:new=[]∨∃ blk off,q=some ⟨blk,off,none⟩∧∀ k v,vn[k]?=some v→w.cell? ⟨blk,off+k,none⟩=some v)
  (hb:old.length+new.length≤1073741824∧de.bytes≤65536) (ty:TypeId) :
  (Builtin.append_ #[st,xt] ty #[.slice p old.length c,.slice q new.length c']).run P w =
   if old.length+new.length≤c then ((match p with|some a=>storeCells (a.add (old.length*de.size)) vn|none=>pure ()).run P w).andThen fun _ w'=>.ok (.slice p (old.length+new.length) c) w'
   else .ok (.slice (some ⟨w.heap.size,0,none⟩) (old.length+new.length) ((Question.appendCap (old.length+new.length) c e).cut (w.tape w.drawn (.appendCap (old.length+new.length) c e))))
    (({ w with drawn:=w.drawn+1 }:World).alloc (.cells (vo.toArray++vn.toArray++Builtin.zeroCells de.zero.toArray ((Question.appendCap (old.length+new.length) c e).cut (w.tape w.drawn (.appendCap (old.length+new.length) c e)) - (old.length+new.length))) e)):=by
 obtain ⟨i,hi,hib,_⟩:=run_info (P:=P) (w:=w) he
 obtain ⟨i2,hi2,_,_⟩:=run_info (P:=P) (w:={ w with drawn:=w.drawn+1 }) he
 obtain ⟨z,hz,hzz⟩:=run_zero (P:=P) (w:={ w with drawn:=w.drawn+1 }) he
 have f1:=firstCells_ok (P:=P) hn hq rfl hc' hcn
 have f2:=firstCells_ok (P:=P) (w:={ w with drawn:=w.drawn+1 }) (hn.mono (fun _ h=>h) fun _ _=>rfl) hq rfl hc' hcn
 have f3:=firstCells_ok (P:=P) (w:={ w with drawn:=w.drawn+1 }) (ho.mono (fun _ h=>h) fun _ _=>rfl) hp rfl hc hco
 simp only [Builtin.append_]
 simp only [List.getElem?_toArray,List.getElem?_cons_zero,List.getElem?_cons_succ,Sem.run_bind,und_slice hst hks,und_slice hxt hkx,Result.andThen_ok,run_size he,Sem.run_pure,Builtin.lenOf,Bool.false_eq_true,if_false,Bool.not_false,if_true,Sem.run_ite]
 split
 ·rename_i hle
  rw [f1]
  cases p<;>simp
 ·rename_i hle
  simp only [hi,Result.andThen_ok,hib]
  have hcap:=nextcap_le (old.length+new.length) c (by omega)
  have hmul:Builtin.nextslicecap (old.length+new.length) c*de.bytes≤(2*(old.length+new.length)+1000)*65536:=Nat.mul_le_mul hcap hb.2
  have hlim:¬ (Builtin.nextslicecap (old.length+new.length) c*de.bytes > 2^48):=by
   have:(2*(old.length+new.length)+1000)*65536≤2^48:=by omega
   omega
  have hbig:¬ (((old.length+new.length:Nat):Int) > IntKind.i64.max∧(False∨de.bytes=0)):=by
   intro hh
   have h1:=hh.1
   simp [IntKind.max,IntKind.signed,IntKind.bits] at h1
   omega
  rw [if_neg hbig,if_neg hlim]
  simp only [run_choose,Question.forced,Bool.false_eq_true,if_false,Result.andThen_ok,hi2,run_askRoom,f3,f2,hz,Sem.run_bind,newRow,run_newObj,Sem.run_pure]
  have:z.cells=de.zero.toArray:=by rw [← hzz]
  simp only [this]
  rfl
end Go.AM
namespace Go.AM
open Go
theorem Rep.slice_of {E:Env} {w:World} {b m s n c blk base sz:Nat} {p:Addr} (ha:E.alive b) (hm:1≤m) (hv:E.ver b=m) (hl:E.loc b=some (blk,base,sz)) (hc:n≤c) (hp:c=0∨p=⟨blk,base,none⟩) (hz:base+c*s=sz) :
  Rep E w (.sl b m s 0 n) (.slice (some p) n c):=by
 simp only [Rep]
 refine ⟨ha,hm,by omega,_,_,rfl,hc,by simp,fun _=>?_⟩
 simp only [hl,SlAt]
 exact ⟨p,rfl,by simpa using hp,by simpa using hz⟩
theorem aRows_sl {M:Nat→AO} {sz b m s o n:Nat} {rows:List (List AV)} (h:aRows M sz (.sl b m s o n)=some rows):∃ f xs,M b=.vec m s f xs∧s=sz∧o+n≤xs.length∧rows=(xs.drop o).take n:=by
 unfold aRows at h
 simp only at h
 cases hb:M b<;>simp only [hb,reduceCtorEq] at h
 split at h
 ·rename_i hm
  obtain ⟨rfl,rfl,h3,h4⟩:=hm
  exact ⟨_,_,rfl,h3,h4,by simpa using h.symm⟩
 ·simp at h
theorem aAppend_ok {P:Program} {M:Nat→AO} {nid:Nat} {st xt:TypeId} {s x av:AV} {u:List (Nat×AO)} {w0:World} {bl:Bk} {E:Env} {w:World} {sv xv:Value} (h:aAppend (Types P) M nid st xt s x=some (av,u))
  (hs:Rep E w s sv) (hx:Rep E w x xv) (hM:MemOK E w M) (hI:Inv w0 bl E w) (hnid:¬ E.alive nid) (ty:TypeId) :
  ∃ y E' w',(Builtin.append_ #[st,xt] ty #[sv,xv]).run P w=.ok y w'∧StepTo w0 bl E w u E' w'∧Rep E' w' av y:=by
 unfold aAppend at h
 cases hst:Types P st<;>simp only [hst,reduceCtorEq] at h
 rename_i ds
 cases hxt:Types P xt<;>simp only [hxt,reduceCtorEq] at h
 rename_i dx
 cases hks:ds.k<;>simp only [hks,reduceCtorEq] at h
 rename_i e
 cases hkx:dx.k<;>simp only [hkx,reduceCtorEq] at h
 rename_i ex
 cases he:Types P e<;>simp only [he,reduceCtorEq] at h
 rename_i de
 cases hro:aRows M de.size s<;>simp only [hro,reduceCtorEq] at h
 rename_i old
 cases hrn:aRows M de.size x<;>simp only [hrn,reduceCtorEq] at h
 rename_i new
 split at h
 case isFalse=>simp at h
 rename_i hb3
 obtain ⟨hb1,hb2,hzl0,hz1⟩:=hb3
 obtain ⟨p,c,rfl,ho2,ho3,vo,ho4,ho5⟩:=aRows_ok hro hs hM
 obtain ⟨q,c',rfl,hn2,hn3,vn,hn4,hn5⟩:=aRows_ok hrn hx hM
 have hrun:=append_run (P:=P) (w:=w) hst hxt he hks hkx ho4 hn4 ho3 hn3 ho2 hn2 ho5 hn5 ⟨hb1,hb2⟩ ty
 have hcap:=cut_appendCap (old.length+new.length) c e (w.tape w.drawn (.appendCap (old.length+new.length) c e))
 generalize hcc:(Question.appendCap (old.length+new.length) c e).cut (w.tape w.drawn (.appendCap (old.length+new.length) c e))=cc at hrun hcap
 generalize hzz:Builtin.zeroCells de.zero.toArray (cc - (old.length+new.length))=zz at hrun
 have hzl:zz.size=(cc - (old.length+new.length))*de.size:=by rw [← hzz];simp [Builtin.zeroCells,hzl0]
 have hsz:(vo.toArray++vn.toArray++zz).size=cc*de.size:=by
  simp [hzl,ho4.len,hn4.len]
  rw [← Nat.add_mul,← Nat.add_mul]
  congr 1
  omega
 have hzone:∀ y∈zz.toList,y.oneCell'=true:=fun y hy=>by
  rw [← hzz] at hy
  simp only [Builtin.zeroCells,Array.toList_map,List.mem_map] at hy
  obtain ⟨i,hi,rfl⟩:=hy
  by_cases h0:de.zero.length=0
  ·exfalso
   rw [h0] at hzl0
   simp [← hzl0,h0] at hi
  ·have:i%de.zero.toArray.size<de.zero.length:=by simpa using Nat.mod_lt _ (by omega)
   simp only [List.all_eq_true] at hz1
   rw [getElem!_pos de.zero.toArray _ (by simpa using this)]
   exact hz1 _ (by simp)
 have hcone:∀ y∈(vo.toArray++vn.toArray++zz).toList,y.oneCell'=true:=fun y hy=>by
  simp only [Array.toList_append,List.mem_append] at hy
  rcases hy with (hy|hy)|hy
  ·exact ho4.one y (by simpa using hy)
  ·exact hn4.one y (by simpa using hy)
  ·exact hzone y hy
 have hren:∀ b m,(E.alive b→1≤E.ver b∧E.ver b<m)→1≤m→StepTo w0 bl E w [(b,.vec m de.size false (old++new))] (E.upd b m (some (w.heap.size,0,cc*de.size))) (({ w with drawn:=w.drawn+1 }:World).alloc (.cells (vo.toArray++vn.toArray++zz) e)):=fun b m h1 h2=>by
  rw [← hsz]
  refine StepTo.renew (w1:={ w with drawn:=w.drawn+1 }) hI rfl rfl rfl b m de.size false (old++new) _ e (vo++vn) h1 h2 (ho4.append hn4) (fun k v hk=>?_) ?_ hcone (by simp)
  ·have hk':=(List.getElem?_eq_some_iff.1 hk).1
   rw [show (vo.toArray++vn.toArray++zz)=(vo++vn).toArray++zz from by simp,Array.getElem?_append_left (by simpa using hk')]
   simpa using hk
  ·rw [hsz,List.length_append]
   exact Nat.mul_le_mul_right _ hcap
 have hrep:∀ b m,1≤m→Rep (E.upd b m (some (w.heap.size,0,cc*de.size))) (({ w with drawn:=w.drawn+1 }:World).alloc (.cells (vo.toArray++vn.toArray++zz) e)) (.sl b m de.size 0 (old.length+new.length)) (.slice (some ⟨w.heap.size,0,none⟩) (old.length+new.length) cc):=fun b m h2 =>
  Rep.slice_of (blk:=w.heap.size) (base:=0) (sz:=cc*de.size) (.inr rfl) h2 (by simp [Env.upd]) (by simp [Env.upd]) hcap (.inr rfl) (by simp)
 cases s<;>(try simp only [reduceCtorEq] at h)
 case v sx =>
  split at h
  case h_1 heq=>simp at heq
  case h_3=>simp at h
  rename_i heq
  simp only [AV.v.injEq] at heq
  subst heq
  simp only [Option.some.injEq,Prod.mk.injEq] at h
  obtain ⟨rfl,rfl⟩:=h
  obtain rfl:old=[]:=by simpa [aRows] using hro.symm
  simp only [Rep,CRep,Value.slice.injEq] at hs
  obtain ⟨rfl,-,rfl⟩:=hs
  split at hrun
  ·rename_i hle
   have hn0:new=[]:=by simpa using hle
   subst hn0
   refine ⟨_,_,_,by rw [hrun];rfl,StepTo.none hI nid de.size hnid false,?_⟩
   simp only [Rep]
   exact ⟨.inr rfl,Nat.le_refl _,by simp [Env.upd],none,0,rfl,by simp,fun _=>rfl,fun _=>by simp [Env.upd,SlAt]⟩
  ·exact ⟨_,_,_,hrun,hren nid 1 (fun hh=>absurd hh hnid) (Nat.le_refl _),hrep nid 1 (Nat.le_refl _)⟩
 case sl b m s o n =>
  obtain ⟨f,xs,hMb,rfl,hle,rfl⟩:=aRows_sl hro
  have hlen:((xs.drop o).take n).length=n:=by simp;omega
  simp only [Rep] at hs
  obtain ⟨k1,k2,k3,p',c2,heq,k4,k4',k5⟩:=hs
  simp only [Value.slice.injEq] at heq
  obtain ⟨rfl,-,rfl⟩:=heq
  have hob:=hM b k1
  simp only [hMb,ObjRep] at hob
  obtain ⟨l1,l2,l3⟩:=hob
  have hsl:=k5 l1.symm
  have inplace:∀ blk base sz arr ty',E.loc b=some (blk,base,sz)→w.heap[blk]?=some (.cells arr ty' (0,0))→sz≤arr.size→base+(o+c)*de.size=sz→n+new.length≤c→(∃ a,p=some a∧(c=0∨a=⟨blk,base+o*de.size,none⟩)) →
    (Builtin.append_ #[st,xt] ty #[.slice p n c,.slice q new.length c']).run P w=.ok (.slice p (n+new.length) c) (w.setRow blk (setL arr.toList (base+o*de.size+n*de.size) vn).toArray)∧base+o*de.size+n*de.size+vn.length≤arr.toList.length:=by
   intro blk base sz arr ty' hl m1 m2 n4 hfit ⟨a,hpa,n3⟩
   subst hpa
   have hd:base+o*de.size+n*de.size+new.length*de.size≤sz:=by
    have h1:(o+(n+new.length))*de.size=o*de.size+n*de.size+new.length*de.size:=by rw [Nat.add_mul,Nat.add_mul];omega
    have h2:(o+(n+new.length))*de.size≤(o+c)*de.size:=Nat.mul_le_mul_right de.size (by omega)
    omega
   have hbound:base+o*de.size+n*de.size+vn.length≤arr.toList.length:=by rw [hn4.len];simp;omega
   have hstore:((storeCells (a.add (n*de.size)) vn).run P w)=.ok () (w.setRow blk (setL arr.toList (base+o*de.size+n*de.size) vn).toArray):=by
    rcases n3 with n3|n3
    ·have hv0:vn=[]:=by
      have:=hn4.len
      have h0:new.length=0:=by omega
      rw [h0] at this
      simpa using this
     subst hv0
     have:=run_storeCells_at (P:=P) (vs:=[]) (off:=base+o*de.size+n*de.size) (i:=0) m1 (by simpa using hbound) (by simp)
     simpa [storeCells] using this
    ·rw [n3,add_plain]
     have:=run_storeCells_at (P:=P) (vs:=vn) (off:=base+o*de.size+n*de.size) (i:=0) m1 (by simpa using hbound) hn4.one
     simpa using this
   refine ⟨?_,hbound⟩
   rw [hlen,if_pos hfit] at hrun
   simp only at hrun
   rw [hstore] at hrun
   simpa only [Result.andThen_ok] using hrun
  have hlen1:((xs.drop o).take n).length+new.length=n+new.length:=by rw [hlen]
  rw [hlen1] at h hrep hcap
  have hrun':=hrun
  rw [hlen] at hrun'
  have consume:some (AV.sl b (m+1) de.size 0 (n+new.length),[(b,AO.vec (m+1) de.size false ((xs.drop o).take n++new))])=some (av,u) →
    ∃ y E' w',(Builtin.append_ #[st,xt] ty #[.slice p ((xs.drop o).take n).length c,.slice q new.length c']).run P w=.ok y w'∧StepTo w0 bl E w u E' w'∧Rep E' w' av y:=by
   intro h
   simp only [Option.some.injEq,Prod.mk.injEq] at h
   obtain ⟨rfl,rfl⟩:=h
   rw [hlen]
   by_cases hfit:n+new.length≤c
   case neg =>
    rw [if_neg hfit] at hrun'
    exact ⟨_,_,_,hrun',hren b (m+1) (fun _=>by omega) (by omega),hrep b (m+1) (by omega)⟩
   cases hl:E.loc b with
   | none =>
    simp only [hl,SlAt] at hsl l3
    obtain ⟨ho0,rfl⟩:=hsl
    subst l3
    obtain rfl:n=0:=by omega
    have hn0':new=[]:=List.length_eq_zero_iff.1 (by omega)
    subst hn0'
    have hv0:vn=[]:=by have:=hn4.len;simpa using this
    subst hv0
    rw [if_pos hfit] at hrun'
    refine ⟨.slice p 0 0,E.upd b (m+1) none,w,by rw [hrun'];cases p<;>simp [storeCells],?_,?_⟩
    ·refine StepTo.one hI b _ (m+1) none (fun _=>.inr (by omega)) (fun blk base sz e=>by simp at e) (Nat.le_refl _) rfl rfl (fun k hk _=>rfl) ?_
     simp [ObjRep,Env.upd]
    ·simp only [Rep]
     refine ⟨.inr rfl,by omega,by simp [Env.upd],p,0,by simp,by simp,fun _=>rfl,fun _=>by simp [Env.upd,SlAt]⟩
   | some l =>
    obtain ⟨blk,base,sz⟩:=l
    simp only [hl,SlAt] at hsl l3
    obtain ⟨p',rfl,n3,n4⟩:=hsl
    obtain ⟨arr,ty',m1,m2,m2',m3,m3',m4⟩:=l3
    obtain ⟨hr,hbound⟩:=inplace blk base sz arr ty' hl m1 m2 n4 hfit ⟨p',rfl,n3⟩
    have hG:∀ k,E.G k→(w.setRow blk (setL arr.toList (base+o*de.size+n*de.size) vn).toArray).heap[k]?=w.heap[k]?:=fun k hk =>
     setRow_other _ _ _ _ fun e=>by subst e;exact (hI.locs b _ _ _ k1 hl).2.1 hk
    have hoc:(o+c)*de.size=o*de.size+c*de.size:=Nat.add_mul ..
    have hnl:(n+new.length)*de.size≤c*de.size:=Nat.mul_le_mul_right de.size hfit
    refine ⟨_,E.upd b (m+1) (some (blk,base+o*de.size,sz)),_,hr,?_,?_⟩
    ·refine StepTo.write hI b _ (m+1) blk base (base+o*de.size) sz sz arr _ ty' k1 hl m1 (.inr (by omega)) ?_
     simp only [ObjRep,Env.upd,if_true]
     refine ⟨trivial,by omega,_,ty',setRow_heap w blk _ _ ty' _ m1,by simpa [setL_length] using m2,by simpa using setL_mem m2' hn4.one,?_,by simp,?_⟩
     ·rw [List.length_append,hlen];omega
     ·have hcell:∀ k,(w.setRow blk (setL arr.toList (base+o*de.size+n*de.size) vn).toArray).cell? ⟨blk,k,none⟩=(setL arr.toList (base+o*de.size+n*de.size) vn)[k]?:=fun k=>by
       rw [cell_setRow_same w blk k arr _ ty' _ m1];simp
      have hcold:∀ k,w.cell? ⟨blk,k,none⟩=arr.toList[k]?:=fun k=>by rw [cell_of_row w blk k arr ty' _ m1];simp
      refine CRows.cons_left ?_ ?_
      ·obtain ⟨vs,q1,q2⟩:=(m4.sub o n).vals
       refine CRows.of_vals (q1.mono (fun _ h=>h) hG) fun k v hk=>?_
       have hk':=(List.getElem?_eq_some_iff.1 hk).1
       rw [q1.len,hlen] at hk'
       rw [hcell,setL_get hbound,if_neg (by omega),← hcold]
       exact q2 k v hk
      ·rw [hlen]
       refine CRows.of_vals (hn4.mono (fun _ h=>h) hG) fun k v hk=>?_
       have hk':=(List.getElem?_eq_some_iff.1 hk).1
       rw [hcell,setL_get hbound,if_pos (by omega),show base+o*de.size+n*de.size+k - (base+o*de.size+n*de.size)=k from by omega]
       exact hk
    ·exact Rep.slice_of (blk:=blk) (base:=base+o*de.size) (sz:=sz) (.inr rfl) (by omega) (by simp [Env.upd]) (by simp [Env.upd]) (by omega) (n3.imp id (fun h=>h)) (by omega)
  simp only [hMb] at h
  split at h
  case isFalse=>exact consume h
  rename_i hcnd
  obtain ⟨hkn,hs1⟩:=hcnd
  split at h
  ·rename_i hfitx
   simp only [Option.some.injEq,Prod.mk.injEq] at h
   obtain ⟨rfl,rfl⟩:=h
   rw [hlen]
   cases hl:E.loc b with
   | none =>
    simp only [hl,SlAt] at hsl l3
    obtain ⟨ho0,rfl⟩:=hsl
    subst l3
    simp only [List.length_nil,Nat.le_zero_eq,Nat.add_eq_zero_iff,List.length_eq_zero_iff] at hfitx
    obtain ⟨⟨_,rfl⟩,rfl⟩:=hfitx
    have hv0:vn=[]:=by have:=hn4.len;simpa using this
    subst hv0
    rw [if_pos (by simp)] at hrun'
    refine ⟨.slice p 0 0,E,w,by rw [hrun'];cases p<;>simp [storeCells],?_,?_⟩
    ·refine StepTo.retell hI k1 ?_
     simp only [ObjRep,hl]
     exact ⟨l1,l2,by simp⟩
    ·simp only [Rep]
     exact ⟨k1,k2,k3,p,0,by simp,by simp,fun _=>rfl,fun _=>by simp [hl,SlAt,ho0]⟩
   | some l =>
    obtain ⟨blk,base,sz⟩:=l
    simp only [hl,SlAt] at hsl l3
    obtain ⟨p',rfl,n3,n4⟩:=hsl
    obtain ⟨arr,ty',m1,m2,m2',m3,m3',m4⟩:=l3
    have hfit:n+new.length≤c:=by
     have h1:xs.length*de.size≤(o+c)*de.size:=by omega
     have:=Nat.le_of_mul_le_mul_right h1 (by omega)
     omega
    obtain ⟨hr,hbound⟩:=inplace blk base sz arr ty' hl m1 m2 n4 hfit ⟨p',rfl,n3⟩
    have hG:∀ k,E.G k→(w.setRow blk (setL arr.toList (base+o*de.size+n*de.size) vn).toArray).heap[k]?=w.heap[k]?:=fun k hk =>
     setRow_other _ _ _ _ fun e=>by subst e;exact (hI.locs b _ _ _ k1 hl).2.1 hk
    have hxl:(xs.take (o+n)++(new++xs.drop (o+n+new.length))).length=xs.length:=by simp;omega
    refine ⟨_,E.upd b (E.ver b) (some (blk,base,sz)),_,hr,?_,?_⟩
    ·refine StepTo.write hI b _ (E.ver b) blk base base sz sz arr _ ty' k1 hl m1 (.inl ⟨rfl,rfl,rfl⟩) ?_
     simp only [ObjRep,Env.upd,if_true]
     refine ⟨l1,l2,_,ty',setRow_heap w blk _ _ ty' _ m1,by simpa [setL_length] using m2,by simpa using setL_mem m2' hn4.one,by rw [hxl];exact m3,by rw [hxl];exact m3',?_⟩
     have hcell:∀ k,(w.setRow blk (setL arr.toList (base+o*de.size+n*de.size) vn).toArray).cell? ⟨blk,k,none⟩=(setL arr.toList (base+o*de.size+n*de.size) vn)[k]?:=fun k=>by
      rw [cell_setRow_same w blk k arr _ ty' _ m1];simp
     have hcold:∀ k,w.cell? ⟨blk,k,none⟩=arr.toList[k]?:=fun k=>by rw [cell_of_row w blk k arr ty' _ m1];simp
     have e1:(o+n)*de.size=o*de.size+n*de.size:=Nat.add_mul ..
     have htl:(xs.take (o+n)).length=o+n:=by simp;omega
     refine CRows.cons_left ?_ (CRows.cons_left ?_ ?_)
     ·obtain ⟨vs,q1,q2⟩:=(m4.sub 0 (o+n)).vals
      simp only [List.drop_zero,Nat.zero_mul,Nat.add_zero] at q1 q2
      refine CRows.of_vals (q1.mono (fun _ h=>h) hG) fun k v hk=>?_
      have hk':=(List.getElem?_eq_some_iff.1 hk).1
      rw [q1.len,htl] at hk'
      rw [hcell,setL_get hbound,if_neg (by omega),← hcold]
      exact q2 k v hk
     ·rw [htl]
      refine CRows.of_vals (hn4.mono (fun _ h=>h) hG) fun k v hk=>?_
      have hk':=(List.getElem?_eq_some_iff.1 hk).1
      rw [hcell,setL_get hbound,if_pos (by omega),show base+(o+n)*de.size+k - (base+o*de.size+n*de.size)=k from by omega]
      exact hk
     ·rw [htl]
      obtain ⟨vs,q1,q2⟩:=(m4.sub (o+n+new.length) (xs.length - (o+n+new.length))).vals
      have e2:(o+n+new.length)*de.size=o*de.size+n*de.size+new.length*de.size:=by rw [Nat.add_mul,Nat.add_mul]
      have e3:((xs.drop (o+n+new.length)).take (xs.length - (o+n+new.length)))=xs.drop (o+n+new.length):=List.take_of_length_le (by simp)
      rw [e3] at q1
      refine CRows.of_vals (q1.mono (fun _ h=>h) hG) fun k v hk=>?_
      rw [hcell,setL_get hbound,if_neg (by have:=hn4.len;omega),← hcold]
      have:=q2 k v hk
      rwa [show base+(o+n+new.length)*de.size+k=base+(o+n)*de.size+new.length*de.size+k from by omega] at this
    ·simp only [Rep]
     refine ⟨.inr rfl,k2,by simp [Env.upd];omega,some p',c,rfl,hfit,by simp,fun _=>?_⟩
     simp only [Env.upd,if_true,SlAt]
     exact ⟨p',rfl,n3,n4⟩
  ·rename_i hnf
   split at h
   case isFalse=>exact consume h
   rename_i hft
   simp only [Option.some.injEq,Prod.mk.injEq] at h
   obtain ⟨rfl,rfl⟩:=h
   rw [hlen]
   have hnfit:¬ n+new.length≤c:=by
    cases hl:E.loc b with
    | none =>
     simp only [hl,SlAt] at hsl l3
     subst l3
     obtain ⟨rfl,rfl⟩:=hsl
     intro hh
     refine hnf ?_
     simp only [List.length_nil]
     omega
    | some l =>
     obtain ⟨blk,base,sz⟩:=l
     simp only [hl,SlAt] at hsl l3
     obtain ⟨p',rfl,n3,n4⟩:=hsl
     obtain ⟨arr,ty',m1,m2,m2',m3,m3',m4⟩:=l3
     have h1:(o+c)*de.size=xs.length*de.size:=by have:=m3' hft;omega
     have:=Nat.eq_of_mul_eq_mul_right (by omega) h1
     omega
   rw [if_neg hnfit] at hrun'
   exact ⟨_,_,_,hrun',hren nid 1 (fun hh=>absurd hh hnid) (Nat.le_refl _),hrep nid 1 (Nat.le_refl _)⟩
theorem overwrite_ok {w0:World} {bl:Bk} {E:Env} {w:World} {b m s q:Nat} {f:Bool} {xs new:List (List AV)} {vs:List Value} {blk base sz:Nat} {arr:Array Value} {ty:TypeId} (hI:Inv w0 bl E w) (hb:E.alive b) (hv:E.ver b=m) (hm:1≤m)
  (hl:E.loc b=some (blk,base,sz)) (m1:w.heap[blk]?=some (.cells arr ty (0,0))) (m2:sz≤arr.size) (m2':∀ y∈arr.toList,y.oneCell'=true) (m3:base+xs.length*s≤sz) (m3':f=true→base+xs.length*s=sz) (m4:CRows w E.G s blk base xs)
  (hn:VR w E.G s vs new) (hq:q+new.length≤xs.length) :
  StepTo w0 bl E w [(b,.vec m s f (xs.take q++(new++xs.drop (q+new.length))))] (E.upd b m (some (blk,base,sz))) (w.setRow blk (setL arr.toList (base+q*s) vs).toArray)∧base+q*s+vs.length≤arr.toList.length:=by
 have h1:(q+new.length)*s=q*s+new.length*s:=Nat.add_mul ..
 have h2:(q+new.length)*s≤xs.length*s:=Nat.mul_le_mul_right s hq
 have hbound:base+q*s+vs.length≤arr.toList.length:=by rw [hn.len];simp;omega
 refine ⟨?_,hbound⟩
 have hG:∀ k,E.G k→(w.setRow blk (setL arr.toList (base+q*s) vs).toArray).heap[k]?=w.heap[k]?:=fun k hk =>
  setRow_other _ _ _ _ fun e=>by subst e;exact (hI.locs b _ _ _ hb hl).2.1 hk
 have hxl:(xs.take q++(new++xs.drop (q+new.length))).length=xs.length:=by simp;omega
 refine StepTo.write hI b _ m blk base base sz sz arr _ ty hb hl m1 (.inl ⟨hv.symm,rfl,rfl⟩) ?_
 simp only [ObjRep,Env.upd,if_true]
 refine ⟨trivial,hm,_,ty,setRow_heap w blk _ _ ty _ m1,by simpa [setL_length] using m2,by simpa using setL_mem m2' hn.one,by rw [hxl];exact m3,by rw [hxl];exact m3',?_⟩
 have hcell:∀ k,(w.setRow blk (setL arr.toList (base+q*s) vs).toArray).cell? ⟨blk,k,none⟩=(setL arr.toList (base+q*s) vs)[k]?:=fun k=>by
  rw [cell_setRow_same w blk k arr _ ty _ m1];simp
 have hcold:∀ k,w.cell? ⟨blk,k,none⟩=arr.toList[k]?:=fun k=>by rw [cell_of_row w blk k arr ty _ m1];simp
 have htl:(xs.take q).length=q:=by simp;omega
 refine CRows.cons_left ?_ (CRows.cons_left ?_ ?_)
 ·obtain ⟨us,q1,q2⟩:=(m4.sub 0 q).vals
  simp only [List.drop_zero,Nat.zero_mul,Nat.add_zero] at q1 q2
  refine CRows.of_vals (q1.mono (fun _ h=>h) hG) fun k v hk=>?_
  have hk':=(List.getElem?_eq_some_iff.1 hk).1
  rw [q1.len,htl] at hk'
  rw [hcell,setL_get hbound,if_neg (by omega),← hcold]
  exact q2 k v hk
 ·rw [htl]
  refine CRows.of_vals (hn.mono (fun _ h=>h) hG) fun k v hk=>?_
  have hk':=(List.getElem?_eq_some_iff.1 hk).1
  rw [hcell,setL_get hbound,if_pos (by omega),show base+q*s+k - (base+q*s)=k from by omega]
  exact hk
 ·rw [htl]
  obtain ⟨us,q1,q2⟩:=(m4.sub (q+new.length) (xs.length - (q+new.length))).vals
  have e3:((xs.drop (q+new.length)).take (xs.length - (q+new.length)))=xs.drop (q+new.length):=List.take_of_length_le (by simp)
  rw [e3] at q1
  refine CRows.of_vals (q1.mono (fun _ h=>h) hG) fun k v hk=>?_
  rw [hcell,setL_get hbound,if_neg (by have:=hn.len;omega),← hcold]
  have:=q2 k v hk
  rwa [show base+(q+new.length)*s+k=base+q*s+new.length*s+k from by omega] at this
theorem overwrite_sl {P:Program} {w0:World} {bl:Bk} {E:Env} {w:World} {M:Nat→AO} {b m s o n c:Nat} {p:Option Addr} {f:Bool} {xs new:List (List AV)} {vs:List Value} (hI:Inv w0 bl E w) (hM:MemOK E w M) (hr:Rep E w (.sl b m s o n) (.slice p n c)) (hMb:M b=.vec m s f xs)
  (hn:VR w E.G s vs new) (hq:o+new.length≤xs.length) (hnn:new.length≤n) :
  ∃ E' w',((match p with|some a=>storeCells a vs|none=>pure ()).run P w)=.ok () w'∧StepTo w0 bl E w [(b,.vec m s f (xs.take o++(new++xs.drop (o+new.length))))] E' w':=by
 simp only [Rep] at hr
 obtain ⟨k1,k2,k3,p',c',heq,k4,k4',k5⟩:=hr
 simp only [Value.slice.injEq] at heq
 obtain ⟨rfl,-,rfl⟩:=heq
 have hob:=hM b k1
 simp only [hMb,ObjRep] at hob
 obtain ⟨l1,l2,l3⟩:=hob
 have hsl:=k5 l1.symm
 have same:new=[]→∃ E' w',((match p with|some a=>storeCells a vs|none=>pure ()).run P w)=.ok () w'∧StepTo w0 bl E w [(b,.vec m s f (xs.take o++(new++xs.drop (o+new.length))))] E' w':=fun h0=>by
  subst h0
  have hv0:vs=[]:=by have:=hn.len;simpa using this
  subst hv0
  refine ⟨E,w,by cases p<;>simp [storeCells],StepTo.retell hI k1 ?_⟩
  have hx:xs.take o++([]++xs.drop (o+([]:List (List AV)).length))=xs:=by simp
  rw [hx,← hMb]
  exact hM b k1
 cases hl:E.loc b with
 | none =>
  simp only [hl] at l3
  subst l3
  exact same (by simp at hq;exact hq.2)
 | some l =>
  obtain ⟨blk,base,sz⟩:=l
  simp only [hl,SlAt] at hsl l3
  obtain ⟨a,rfl,n3,n4⟩:=hsl
  obtain ⟨arr,ty,m1,m2,m2',m3,m3',m4⟩:=l3
  rcases n3 with n3|n3
  ·exact same (List.length_eq_zero_iff.1 (by omega))
  ·obtain ⟨st,hbound⟩:=overwrite_ok hI k1 l1 l2 hl m1 m2 m2' m3 m3' m4 hn hq
   refine ⟨_,_,?_,st⟩
   subst n3
   have:=run_storeCells_at (P:=P) (vs:=vs) (off:=base+o*s) (i:=0) m1 (by simpa using hbound) hn.one
   simpa using this
theorem VR.take {w:World} {G:Nat→Prop} {s:Nat} {vs:List Value} {rows:List (List AV)} (h:VR w G s vs rows) (k:Nat):VR w G s (vs.take (k*s)) (rows.take k):=by
 by_cases hk:k≤rows.length
 ·have h1:k*s≤rows.length*s:=Nat.mul_le_mul_right s hk
  refine ⟨?_,fun y hy=>h.one y (List.mem_of_mem_take hy),fun e he=>h.row e (List.mem_of_mem_take he),fun i e he j a ha=>?_⟩
  ·rw [List.length_take,h.len,List.length_take,Nat.min_eq_left h1,Nat.min_eq_left hk]
  ·have hik:i<k:=by
    have:=(List.getElem?_eq_some_iff.1 he).1
    simp at this;omega
   rw [List.getElem?_take,if_pos hik] at he
   obtain ⟨y,h1,h2⟩:=h.get i e he j a ha
   refine ⟨y,?_,h2⟩
   have hj:j<s:=by
    have:=(List.getElem?_eq_some_iff.1 ha).1
    rwa [h.row e (List.mem_of_getElem? he)] at this
   have:(i+1)*s≤k*s:=Nat.mul_le_mul_right s (by omega)
   have e1:(i+1)*s=i*s+s:=by rw [Nat.add_mul];omega
   rw [List.getElem?_take,if_pos (by omega)]
   exact h1
 ·have e1:rows.take k=rows:=List.take_of_length_le (by omega)
  have e2:vs.take (k*s)=vs:=List.take_of_length_le (by
   rw [h.len]
   exact Nat.mul_le_mul_right s (by omega))
  rw [e1,e2]
  exact h
end Go.AM
namespace Go.AM
open Go
def aBounds (lo hi:Option AV) (n mx:Nat):Option (Nat×Nat) :=
 match (match hi with
  | none=>some n
  | some (.v (.int _ x))=>if 0≤x∧(x≤n∨x≤mx) then some x.toNat else none
  | _=>none) with
 | none=>none
 | some h=>match lo with
  | none=>some (0,h)
  | some (.v (.int _ x))=>if 0≤x∧x≤h then some (x.toNat,h) else none
  | _=>none
def RepO (E:Env) (w:World):Option AV→Option Value→Prop
 | none,none=>True
 | some a,some x=>Rep E w a x
 | _,_=>False
theorem aBounds_ok {P:Program} {lo hi:Option AV} {n mx len cap l h:Nat} {b:Bool} {E:Env} {w:World} {vl vh:Option Value} (hb:aBounds lo hi n mx=some (l,h)) (hl:RepO E w lo vl) (hh:RepO E w hi vh) (hn:n=len) (hc:len≤cap) (hm:mx≤cap) :
  (Instr.sliceBounds b len cap vl vh none).run P w=.ok (l,h,cap) w∧l≤h∧(h≤n∨h≤mx):=by
 subst hn
 unfold aBounds at hb
 have key:∃ h',(match hi with
  | none=>some n
  | some (.v (.int _ x))=>if 0≤x∧(x≤n∨x≤mx) then some x.toNat else none
  | _=>none)=some h'∧(h'≤n∨h'≤mx)∧((match (generalizing:=false) vh,(none:Option Value) with
  | some v,some _=>Instr.sliceBound v cap .slice3B
  | some v,none=>Instr.sliceBound v cap (if b then .sliceAcap else .sliceAlen)
  | none,none=>pure n
  | none, some _ => stuck "Slice: max without high" : Sem Nat).run P w = .ok h' w) := by
  cases hi with
  | none =>
   cases vh with
   | none=>exact ⟨n,rfl,.inl (Nat.le_refl _),rfl⟩
   | some _=>simp [RepO] at hh
  | some a =>
   cases vh with
   | none=>simp [RepO] at hh
   | some x =>
    simp only [RepO] at hh
    cases a<;>try (simp at hb;done)
    rename_i y
    simp only [Rep,CRep] at hh
    subst hh
    cases x<;>try (simp at hb;done)
    rename_i k z
    simp only at hb ⊢
    by_cases hz:0≤z∧(z≤n∨z≤mx)
    ·rw [if_pos hz] at hb ⊢
     refine ⟨z.toNat,rfl,by omega,?_⟩
     rw [run_sliceBound _ k z cap _ hz.1 (by omega)]
    ·rw [if_neg hz] at hb
     simp at hb
 obtain ⟨h',k1,k2,k3⟩:=key
 rw [k1] at hb
 simp only at hb
 have low:l≤h∧h=h'∧((match (generalizing:=false) vl with
  | some v=>Instr.sliceBound v h' (if (none:Option Value).isSome then .slice3C else .sliceB)
  | none=>pure 0:Sem Nat).run P w=.ok l w):=by
  cases lo with
  | none =>
   cases vl with
   | none =>
    simp only [Option.some.injEq,Prod.mk.injEq] at hb
    obtain ⟨rfl,rfl⟩:=hb
    exact ⟨Nat.zero_le _,rfl,rfl⟩
   | some _=>simp [RepO] at hl
  | some a =>
   cases vl with
   | none=>simp [RepO] at hl
   | some x =>
    simp only [RepO] at hl
    cases a<;>try (simp at hb;done)
    rename_i y
    simp only [Rep,CRep] at hl
    subst hl
    cases x<;>try (simp at hb;done)
    rename_i k z
    simp only at hb ⊢
    by_cases hz:0≤z∧z≤h'
    ·rw [if_pos hz] at hb
     simp only [Option.some.injEq,Prod.mk.injEq] at hb
     obtain ⟨rfl,rfl⟩:=hb
     refine ⟨by omega,rfl,?_⟩
     rw [run_sliceBound _ k z h' _ hz.1 (by omega)]
    ·rw [if_neg hz] at hb
     simp at hb
 obtain ⟨l1,rfl,l3⟩:=low
 refine ⟨?_,l1,k2⟩
 unfold Instr.sliceBounds
 cases vh<;>cases vl<;>simp only [Sem.run_bind,Sem.run_pure,Result.andThen_ok,Result.ok.injEq,and_true] at k3 l3 ⊢
 all_goals try simp only [Option.isSome_none,Bool.false_eq_true,if_false] at l3 ⊢
 ·subst k3 l3;rfl
 ·subst k3;rw [l3];rfl
 ·subst l3;rw [k3];rfl
 ·rw [k3];simp only [Result.andThen_ok];rw [l3];rfl
def capOf (M:Nat→AO) (b m s o:Nat):Nat :=
 match M b with
 | .vec m' s' _ xs=>if m=m'∧s=s'∧1≤s then xs.length - o else 0
 | _=>0
theorem capOf_le {E:Env} {w:World} {M:Nat→AO} {b m s o c:Nat} {p:Option Addr} (hM:MemOK E w M) (hb:E.alive b) (h5:m=E.ver b→SlAt (E.loc b) s o p c):capOf M b m s o≤c:=by
 unfold capOf
 have ho:=hM b hb
 split
 ·rename_i m' s' f xs hMb
  split
  ·rename_i hm
   obtain ⟨rfl,rfl,hs⟩:=hm
   rw [hMb] at ho
   simp only [ObjRep] at ho
   obtain ⟨k1,k2,k3⟩:=ho
   have h5:=h5 k1.symm
   cases hl:E.loc b with
   | none=>simp only [hl] at k3;subst k3;simp
   | some l =>
    obtain ⟨blk,base,sz⟩:=l
    simp only [hl,SlAt] at h5 k3
    obtain ⟨a,_,_,q⟩:=h5
    obtain ⟨arr,t,_,_,_,k6,_,_⟩:=k3
    have h1:xs.length*s≤(o+c)*s:=by omega
    have:=Nat.le_of_mul_le_mul_right h1 (by omega)
    omega
  ·exact Nat.zero_le _
 ·exact Nat.zero_le _
def aSlice (T:TypeId→Option TD) (M:Nat→AO) (t:TypeId) (x:AV) (lo hi:Option AV):Option AV :=
 match T t with
 | none=>none
 | some d=>match d.k with
  | .slice e=>match T e with
   | none=>none
   | some de=>match x with
    | .rd s xs=>match aBounds lo hi xs.length 0 with
     | some (l,h)=>if s=de.size then some (.rd s ((xs.drop l).take (h - l))) else none
     | none=>none
    | .sl b m s o n=>match aBounds lo hi n (if hi.isSome then capOf M b m s o else 0) with
     | some (l,h)=>if s=de.size then some (.sl b m s (o+l) (h - l)) else none
     | none=>none
    | .v (.slice none 0 0)=>match aBounds lo hi 0 0 with
     | some _=>some (.v (.slice none 0 0))
     | none=>none
    | _=>none
  | .array n e=>match T e with
   | none=>none
   | some de=>match x with
    | .bp b o=>match aBounds lo hi n 0 with
     | some (l,h)=>some (.bs b (o+l*de.size) de.size (h - l))
     | none=>none
    | _=>none
  | _=>none
theorem aSlice_ok {P:Program} {M:Nat→AO} {t:TypeId} {x av:AV} {lo hi:Option AV} {E:Env} {w:World} {xv:Value} {vl vh:Option Value} (h:aSlice (Types P) M t x lo hi=some av) (hx:Rep E w x xv) (hl:RepO E w lo vl) (hh:RepO E w hi vh) (hM:MemOK E w M) :
  ∃ y,(Instr.sliceAt t xv vl vh none).run P w=.ok y w∧Rep E w av y:=by
 unfold aSlice at h
 cases ht:Types P t<;>simp only [ht,reduceCtorEq] at h
 rename_i d
 cases hk:d.k<;>simp only [hk,reduceCtorEq] at h
 case array n e =>
  cases he:Types P e<;>simp only [he,reduceCtorEq] at h
  rename_i de
  cases x<;>simp only [reduceCtorEq] at h
  rename_i b o
  cases hb:aBounds lo hi n 0<;>simp only [hb,reduceCtorEq] at h
  rename_i lh
  obtain ⟨l,hg⟩:=lh
  simp only [Option.some.injEq] at h
  subst h
  obtain ⟨h1,h2,h3⟩:=aBounds_ok (P:=P) (b:=false) (cap:=n) hb hl hh rfl (Nat.le_refl _) (Nat.zero_le _)
  simp only [Rep] at hx
  obtain ⟨k1,k2,blk,sz,k3,rfl⟩:=hx
  refine ⟨_,by simp only [Instr.sliceAt,Sem.run_bind,und_array ht hk,Result.andThen_ok,Instr.sureAddr,Sem.run_pure,h1,run_size he];rfl,?_⟩
  simp only [Rep]
  refine ⟨k1,k2,blk,sz,_,_,k3,rfl,by omega,?_⟩
  by_cases e0:hg - l=0
  ·exact .inl e0
  ·right
   rw [if_neg (by omega),add_plain]
 case slice e =>
  cases he:Types P e<;>simp only [he,reduceCtorEq] at h
  rename_i de
  have hsl:∀ p n c l g,(Instr.sliceBounds true n c vl vh none).run P w=.ok (l,g,c) w→(Instr.sliceAt t (.slice p n c) vl vh none).run P w=.ok (.slice (if c=l then p else p.map (·.add (l*de.size))) (g - l) (c - l)) w:=fun p n c l g hg=>by
   simp only [Instr.sliceAt,Instr.slice,Sem.run_bind,und_slice ht hk,Result.andThen_ok,hg,run_size he]
   rfl
  cases x<;>try (simp only [reduceCtorEq] at h;done)
  case rd s xs =>
   simp only at h
   cases hb:aBounds lo hi xs.length 0<;>simp only [hb,reduceCtorEq] at h
   rename_i lh
   obtain ⟨l,g⟩:=lh
   simp only at h
   split at h
   case isFalse=>simp at h
   rename_i hs
   subst hs
   simp only [Option.some.injEq] at h
   subst h
   simp only [Rep,CRep] at hx
   obtain ⟨p,c,rfl,k2,k3,k4⟩:=hx
   obtain ⟨h1,h2,h3⟩:=aBounds_ok (P:=P) (b:=true) (cap:=c) hb hl hh rfl k2 (Nat.zero_le _)
   refine ⟨_,hsl _ _ _ _ _ h1,?_⟩
   have hlen:((xs.drop l).take (g - l)).length=g - l:=by simp;omega
   simp only [Rep,CRep]
   refine ⟨_,c - l,by rw [hlen],by rw [hlen];omega,fun e0=>?_,?_⟩
   ·split at e0
    ·have:=k3 e0;omega
    ·cases p with
     | none=>have:=k3 rfl;omega
     | some _=>simp at e0
   ·by_cases e0:g - l=0
    ·left;rw [e0];simp
    ·rcases k4 with k4|⟨blk,off,rfl,k5,k6⟩
     ·subst k4;simp at h3;omega
     ·right
      rw [if_neg (by omega)]
      exact ⟨blk,off+l*de.size,by simp [add_plain],k5,k6.sub l (g - l)⟩
  case sl b m s o n =>
   simp only at h
   have hcp:aBounds lo hi n (if hi.isSome then capOf M b m s o else 0)=aBounds lo hi n (capOf M b m s o):=by cases hi<;>rfl
   rw [hcp] at h
   cases hb:aBounds lo hi n (capOf M b m s o)<;>simp only [hb,reduceCtorEq] at h
   rename_i lh
   obtain ⟨l,g⟩:=lh
   simp only at h
   split at h
   case isFalse=>simp at h
   rename_i hs
   subst hs
   simp only [Option.some.injEq] at h
   subst h
   simp only [Rep] at hx
   obtain ⟨k1,k2,k3,p,c,rfl,k4,k4',k5⟩:=hx
   obtain ⟨h1,h2,h3⟩:=aBounds_ok (P:=P) (b:=true) (cap:=c) hb hl hh rfl k4 (capOf_le hM k1 k5)
   have hgc:g≤c:=h3.elim (fun h=>Nat.le_trans h k4) fun h=>Nat.le_trans h (capOf_le hM k1 k5)
   refine ⟨_,hsl _ _ _ _ _ h1,?_⟩
   simp only [Rep]
   refine ⟨k1,k2,k3,_,c - l,rfl,by omega,fun e0=>?_,fun hm=>?_⟩
   ·split at e0
    ·have:=k4' e0;omega
    ·cases p with
     | none=>have:=k4' rfl;omega
     | some _=>simp at e0
   ·have:=k5 hm
    cases hL:E.loc b with
    | none =>
     simp only [hL,SlAt] at this ⊢
     obtain ⟨rfl,rfl⟩:=this
     have:l=0:=by omega
     subst this
     simp
    | some lo =>
     obtain ⟨blk,base,sz⟩:=lo
     simp only [hL,SlAt] at this ⊢
     obtain ⟨a,rfl,q1,q2⟩:=this
     split
     ·rename_i hcl
      exact ⟨a,rfl,.inl (by omega),by rw [show o+l+(c - l)=o+c from by omega];exact q2⟩
     ·rename_i hcl
      rcases q1 with q1|q1
      ·omega
      ·subst q1
       refine ⟨_,by simp only [Option.map_some,add_plain];rfl,.inr ?_,by rw [show o+l+(c - l)=o+c from by omega];exact q2⟩
       rw [Nat.add_mul,Nat.add_assoc]
  case v y =>
   split at h
   ·rename_i heq;simp at heq
   ·rename_i heq;simp at heq
   ·rename_i heq
    simp only [AV.v.injEq] at heq
    subst heq
    cases hb:aBounds lo hi 0 0<;>simp only [hb,reduceCtorEq] at h
    rename_i lh
    obtain ⟨l,g⟩:=lh
    simp only [Option.some.injEq] at h
    subst h
    simp only [Rep,CRep] at hx
    subst hx
    obtain ⟨h1,h2,h3⟩:=aBounds_ok (P:=P) (b:=true) (cap:=0) hb hl hh rfl (Nat.le_refl _) (Nat.le_refl _)
    refine ⟨_,hsl _ _ _ _ _ h1,?_⟩
    have:l=0:=by omega
    have:g=0:=by omega
    subst l g
    simp [Rep,CRep]
   ·simp at h
theorem aSlice_none {T:TypeId→Option TD} {M M':Nat→AO} {t:TypeId} {x:AV} {lo:Option AV}:aSlice T M t x lo none=aSlice T M' t x lo none:=by
 unfold aSlice
 cases T t with
 | none=>rfl
 | some d=>cases d.k<;>rfl
def aSlice3 (T:TypeId→Option TD) (t:TypeId) (x:AV) (lo:Option AV) (hi mx:AV):Option AV :=
 match T t with
 | none=>none
 | some d=>match d.k with
  | .slice e=>match T e,hi,mx with
   | some _,.v (.int _ h),.v (.int _ m)=>match x with
    | .sl _ _ _ _ n=>if m≤n∧h≤m∧0≤h then (match lo with
     | none=>some .any
     | some (.v (.int _ l))=>if 0≤l∧l≤h then some .any else none
     | _=>none) else none
    | _=>none
   | _,_,_=>none
  | _=>none
theorem aSlice3_ok {P:Program} {t:TypeId} {x hi mx av:AV} {lo:Option AV} {E:Env} {w:World} {xv vh vm:Value} {vl:Option Value} (h:aSlice3 (Types P) t x lo hi mx=some av) (hx:Rep E w x xv) (hl:RepO E w lo vl) (hh:Rep E w hi vh) (hm:Rep E w mx vm) :
  ∃ y,(Instr.sliceAt t xv vl (some vh) (some vm)).run P w=.ok y w∧Rep E w av y:=by
 unfold aSlice3 at h
 cases ht:Types P t<;>simp only [ht,reduceCtorEq] at h
 rename_i d
 cases hk:d.k<;>simp only [hk,reduceCtorEq] at h
 rename_i e
 cases he:Types P e<;>simp only [he,reduceCtorEq] at h
 rename_i de
 split at h
 case h_2=>simp at h
 rename_i k1 g k2 q heq1
 cases x<;>simp only [reduceCtorEq] at h
 rename_i b m s o n
 split at h
 case isFalse=>simp at h
 rename_i hb
 obtain ⟨h1,h2,h3⟩:=hb
 simp only [Rep,CRep] at hh hm
 subst hh hm
 simp only [Rep] at hx
 obtain ⟨_,_,_,p,c,rfl,k4,_,_⟩:=hx
 have b1:∀ code,(Instr.sliceBound (.int k2 q) c code).run P w=.ok q.toNat w:=fun code=>run_sliceBound _ k2 q c code (by omega) (by omega)
 have b2:∀ code,(Instr.sliceBound (.int k1 g) q.toNat code).run P w=.ok g.toNat w:=fun code=>run_sliceBound _ k1 g q.toNat code h3 (by omega)
 split at h
 ·cases vl with
  | some _=>simp [RepO] at hl
  | none =>
   simp only [Option.some.injEq] at h
   subst h
   refine ⟨_,by simp [Instr.sliceAt,Instr.slice,Instr.sliceBounds,und_slice ht hk,run_size he,b1,b2];rfl,by simp [Rep,CRep]⟩
 ·rename_i k3 l
  split at h
  case isFalse=>simp at h
  rename_i hlo
  cases vl with
  | none=>simp [RepO] at hl
  | some y =>
   simp only [RepO,Rep,CRep] at hl
   subst hl
   have b3:∀ code,(Instr.sliceBound (.int k3 l) g.toNat code).run P w=.ok l.toNat w:=fun code=>run_sliceBound _ k3 l g.toNat code hlo.1 (by omega)
   simp only [Option.some.injEq] at h
   subst h
   refine ⟨_,by simp [Instr.sliceAt,Instr.slice,Instr.sliceBounds,und_slice ht hk,run_size he,b1,b2,b3];rfl,by simp [Rep,CRep]⟩
 ·simp at h
def aInt:AV→Option Int
 | .v (.int _ n)=>some n
 | _=>none
theorem aInt_ok {P:Program} {E:Env} {w:World} {a:AV} {x:Value} {n:Int} (h:aInt a=some n) (hr:Rep E w a x):∃ k,x=.int k n∧(asIntOf x).run P w=.ok (k,n) w:=by
 unfold aInt at h
 split at h<;>simp only [Option.some.injEq,reduceCtorEq] at h
 subst h
 simp only [Rep,CRep] at hr
 subst hr
 exact ⟨_,rfl,rfl⟩
def aIndexAddr (T:TypeId→Option TD) (t:TypeId) (x i:AV):Option AV :=
 match T t,aInt i with
 | some d,some j =>
  match d.k with
  | .slice e=>match T e with
   | none=>none
   | some de=>match x with
    | .rd s xs=>if 0≤j∧s=de.size then (match xs[j.toNat]? with|some e=>some (.rp e)|none=>none) else none
    | .sl b m s o n=>if (0≤j∧j<n)∧s=de.size then some (.ep b m s (o+j.toNat) 0) else none
    | .bs b o s n=>if (0≤j∧j<n)∧s=de.size then some (.bp b (o+j.toNat*s)) else none
    | _=>none
  | .array n e=>match T e with
   | none=>none
   | some de=>if 0≤j∧j<n then (match x with
    | .bp b o=>some (.bp b (o+j.toNat*de.size))
    | .rp cs=>some (.rp (cs.drop (j.toNat*de.size)))
    | .ep b m s i' k=>some (.ep b m s i' (k+j.toNat*de.size))
    | _=>none) else none
  | _=>none
 | _,_=>none
theorem CCells.drop {w:World} {G:Nat→Prop} {blk off:Nat} {cs:List AV} (h:CCells w G blk off cs) (n:Nat):CCells w G blk (off+n) (cs.drop n) :=
 CCells.of_get fun j a e=>by
  rw [List.getElem?_drop] at e
  have:=h.get e
  rwa [Nat.add_assoc]
theorem aIndexAddr_ok {P:Program} {t:TypeId} {x i av:AV} {E:Env} {w:World} {xv iv:Value} (h:aIndexAddr (Types P) t x i=some av) (hx:Rep E w x xv) (hi:Rep E w i iv) :
  ∃ y,(Instr.indexAt t xv iv).run P w=.ok y w∧Rep E w av y:=by
 unfold aIndexAddr at h
 cases ht:Types P t<;>simp only [ht,reduceCtorEq] at h
 rename_i d
 cases hj:aInt i<;>simp only [hj,reduceCtorEq] at h
 rename_i j
 obtain ⟨k,rfl,hjr⟩:=aInt_ok (P:=P) hj hi
 cases hk:d.k<;>simp only [hk,reduceCtorEq] at h
 case array n e =>
  cases he:Types P e<;>simp only [he,reduceCtorEq] at h
  rename_i de
  split at h
  case isFalse=>simp at h
  rename_i hjn
  have hrun:∀ a,(Instr.indexAt t (.pointer (some a)) (.int k j)).run P w=.ok (.pointer (some (a.add (j.toNat*de.size)))) w:=fun a=>by
   simp [Instr.indexAt,hjr,und_array ht hk,Instr.sureAddr,hjn,run_size he]
  cases x<;>simp only [reduceCtorEq,Option.some.injEq] at h
  case bp b o =>
   subst h
   simp only [Rep] at hx
   obtain ⟨k1,k2,blk,sz,k3,rfl⟩:=hx
   exact ⟨_,hrun _,by simp only [Rep,add_plain];exact ⟨k1,k2,blk,sz,k3,rfl⟩⟩
  case rp cs =>
   subst h
   simp only [Rep,CRep] at hx
   obtain ⟨blk,off,rfl,k3,k4⟩:=hx
   exact ⟨_,hrun _,by simp only [Rep,CRep,add_plain];exact ⟨blk,_,rfl,k3,k4.drop _⟩⟩
  case ep b m s i' jj =>
   subst h
   simp only [Rep] at hx
   obtain ⟨k1,k2,k3,a,rfl,k5⟩:=hx
   refine ⟨_,hrun _,?_⟩
   simp only [Rep]
   refine ⟨k1,k2,k3,_,rfl,fun hm=>?_⟩
   obtain ⟨blk,base,sz,k6,rfl⟩:=k5 hm
   exact ⟨blk,base,sz,k6,by rw [add_plain,Nat.add_assoc]⟩
 case slice e =>
  cases he:Types P e<;>simp only [he,reduceCtorEq] at h
  rename_i de
  have hrun:∀ a (n:Nat) c,0≤j→j<(n:Int)→(Instr.indexAt t (.slice (some a) n c) (.int k j)).run P w=.ok (.pointer (some (a.add (j.toNat*de.size)))) w:=fun a n c h1 h2=>by
   simp [Instr.indexAt,hjr,und_slice ht hk,h1,h2,run_size he]
  cases x<;>simp only [reduceCtorEq] at h
  case rd s xs =>
   split at h
   case isFalse=>simp at h
   rename_i hjs
   obtain ⟨hj0,rfl⟩:=hjs
   cases hxe:xs[j.toNat]?<;>simp only [hxe,reduceCtorEq,Option.some.injEq] at h
   rename_i el
   subst h
   have hlt:=(List.getElem?_eq_some_iff.1 hxe).1
   simp only [Rep,CRep] at hx
   obtain ⟨p,c,rfl,k1,k2,k3⟩:=hx
   rcases k3 with rfl|⟨blk,off,rfl,k4,k5⟩
   ·simp at hlt
   ·refine ⟨_,hrun _ _ _ hj0 (by omega),?_⟩
    simp only [Rep,CRep,add_plain]
    exact ⟨blk,_,rfl,k4,(k5.get hxe).2⟩
  case sl b m s o n =>
   split at h
   case isFalse=>simp at h
   rename_i hjs
   obtain ⟨⟨hj0,hjn⟩,rfl⟩:=hjs
   simp only [Option.some.injEq] at h
   subst h
   simp only [Rep] at hx
   obtain ⟨k1,k2,k3,p,c,rfl,k4,k4',k5⟩:=hx
   cases p with
   | none=>have:=k4' rfl;omega
   | some a =>
    refine ⟨_,hrun _ _ _ hj0 hjn,?_⟩
    simp only [Rep]
    refine ⟨k1,k2,k3,_,rfl,fun hm=>?_⟩
    have:=k5 hm
    cases hL:E.loc b with
    | none =>
     simp only [hL,SlAt] at this
     omega
    | some lo =>
     obtain ⟨blk,base,sz⟩:=lo
     simp only [hL,SlAt,Option.some.injEq] at this
     obtain ⟨a',rfl,q1,q2⟩:=this
     rcases q1 with q1|q1
     ·omega
     ·subst q1
      exact ⟨blk,base,sz,rfl,by rw [add_plain,Nat.add_mul,Nat.add_zero,Nat.add_assoc]⟩
  case bs b o s n =>
   split at h
   case isFalse=>simp at h
   rename_i hjs
   obtain ⟨⟨hj0,hjn⟩,rfl⟩:=hjs
   simp only [Option.some.injEq] at h
   subst h
   simp only [Rep] at hx
   obtain ⟨k1,k2,blk,sz,p,c,k3,rfl,k4,k5⟩:=hx
   rcases k5 with k5|rfl
   ·omega
   ·refine ⟨_,hrun _ _ _ hj0 hjn,?_⟩
    simp only [Rep,add_plain]
    exact ⟨k1,k2,blk,sz,k3,rfl⟩
end Go.AM
