/- Steps of the memory under the abstract view: new blocks, writes into an object's block, reads of cells and of rows of cells. -/
import Derived.Test.YtjdahonmgfhpgaaAmA
import Derived.Laws.Tables
import Derived.ChangeKeysEq
set_option linter.all false
namespace Go.AM
open Go

def getM (M : List (Nat × AO)) (b : Nat) : AO :=
  match M with
  | [] => .dead
  | (k, o) :: r => if k = b then o else getM r b

def setM (M : List (Nat × AO)) (b : Nat) (o : AO) : List (Nat × AO) :=
  match M with
  | [] => [(b, o)]
  | (k, p) :: r => if k = b then (k, o) :: r else (k, p) :: setM r b o

def updM (M : Nat → AO) (u : List (Nat × AO)) (b : Nat) : AO :=
  match u with
  | [] => M b
  | (k, o) :: r => if k = b then o else updM M r b

theorem getM_setM (M : List (Nat × AO)) (b k : Nat) (o : AO) : getM (setM M b o) k = if b = k then o else getM M k := by
  induction M with
  | nil => simp [setM, getM]
  | cons x r ih =>
    obtain ⟨a, p⟩ := x
    simp only [setM]
    split
    · rename_i h; subst h; simp only [getM]; split <;> rfl
    · rename_i h
      simp only [getM, ih]
      split
      · rename_i h'; subst h'; rw [if_neg (Ne.symm h)]
      · rfl

def Env.upd (E : Env) (b v : Nat) (l : Option (Nat × Nat × Nat)) : Env :=
  { G := E.G, alive := fun k => E.alive k ∨ k = b, ver := fun k => if k = b then v else E.ver k, loc := fun k => if k = b then l else E.loc k }

structure StepTo (w0 : World) (bl : Bk) (E : Env) (w : World) (upd : List (Nat × AO)) (E' : Env) (w' : World) : Prop where
  le : E.Le E'
  inv : Inv w0 bl E' w'
  size : w.heap.size ≤ w'.heap.size
  keep : ∀ k, k < w.heap.size → (∀ b base sz, E.alive b → b ∈ upd.map (·.1) → E.loc b ≠ some (k, base, sz)) → w'.heap[k]? = w.heap[k]?
  alive : ∀ b, E'.alive b → E.alive b ∨ b ∈ upd.map (·.1)
  same : ∀ b, E.alive b → b ∉ upd.map (·.1) → E'.ver b = E.ver b ∧ E'.loc b = E.loc b
  objs : ∀ b o, (b, o) ∈ upd → E'.alive b ∧ ObjRep E' w' b o

def MemOK (E : Env) (w : World) (M : Nat → AO) : Prop := ∀ b, E.alive b → ObjRep E w b (M b)

theorem Inv.keepG {w0 : World} {bl : Bk} {E : Env} {w : World} (h : Inv w0 bl E w) {upd : List (Nat × AO)} {E' : Env} {w' : World} (st : StepTo w0 bl E w upd E' w') (k : Nat) (hk : E.G k) : w'.heap[k]? = w.heap[k]? :=
  st.keep k (h.good k hk) fun b base sz hb _ hl => (h.locs b k base sz hb hl).2.1 hk

theorem StepTo.rep {w0 : World} {bl : Bk} {E : Env} {w : World} {upd : List (Nat × AO)} {E' : Env} {w' : World} (st : StepTo w0 bl E w upd E' w') (h : Inv w0 bl E w) {a : AV} {x : Value} (hr : Rep E w a x) : Rep E' w' a x :=
  hr.mono st.le (h.keepG st)

theorem updM_mem {M : Nat → AO} {u : List (Nat × AO)} {b : Nat} (h : b ∈ u.map (·.1)) : (b, updM M u b) ∈ u := by
  induction u with
  | nil => simp at h
  | cons x r ih =>
    obtain ⟨k, o⟩ := x
    simp only [updM]
    split
    · rename_i e; subst e; simp
    · rename_i e
      simp only [List.map_cons, List.mem_cons] at h
      rcases h with h | h
      · exact absurd h.symm e
      · exact List.mem_cons_of_mem _ (ih h)

theorem updM_not {M : Nat → AO} {u : List (Nat × AO)} {b : Nat} (h : b ∉ u.map (·.1)) : updM M u b = M b := by
  induction u with
  | nil => rfl
  | cons x r ih =>
    obtain ⟨k, o⟩ := x
    simp only [List.map_cons, List.mem_cons, not_or] at h
    simp only [updM]
    rw [if_neg (fun e => h.1 e.symm)]
    exact ih h.2

/-- An object that the step does not touch is as it was. -/
theorem StepTo.obj {w0 : World} {bl : Bk} {E : Env} {w : World} {upd : List (Nat × AO)} {E' : Env} {w' : World} (st : StepTo w0 bl E w upd E' w') (h : Inv w0 bl E w) {b : Nat} {o : AO}
    (hb : E.alive b) (hn : b ∉ upd.map (·.1)) (ho : ObjRep E w b o) : ObjRep E' w' b o := by
  have hs := st.same b hb hn
  refine ho.mono st.le (h.keepG st) hs.1 hs.2 fun blk base sz hl => ?_
  refine st.keep blk (h.locs b blk base sz hb hl).1 fun b' base' sz' hb' hm hl' => ?_
  have := h.apart b b' blk base sz base' sz' hb hb' hl hl'
  subst this
  exact hn hm

theorem StepTo.mem {w0 : World} {bl : Bk} {E : Env} {w : World} {upd : List (Nat × AO)} {E' : Env} {w' : World} (st : StepTo w0 bl E w upd E' w') (h : Inv w0 bl E w) {M : Nat → AO}
    (hM : MemOK E w M) : MemOK E' w' (updM M upd) := by
  intro b hb
  by_cases hn : b ∈ upd.map (·.1)
  · exact (st.objs b _ (updM_mem hn)).2
  · rw [updM_not hn]
    rcases st.alive b hb with h1 | h1
    · exact st.obj h h1 hn (hM b h1)
    · exact absurd h1 hn

/-- Nothing but draws. -/
theorem StepTo.refl {w0 : World} {bl : Bk} {E : Env} {w w' : World} (h : Inv w0 bl E w) (h1 : w'.heap = w.heap) (h2 : w'.os = w.os) (h3 : w'.output = w.output) : StepTo w0 bl E w [] E w' where
  le := Env.Le.refl E
  inv := ⟨⟨h2.trans h.frame.os, h3.trans h.frame.out, by rw [h1]; exact h.frame.size, fun k a b => by rw [h1]; exact h.frame.old k a b, fun a ha => by
    rw [frozen_of_heap (w := w) (by rw [h1])]; exact h.frame.new a ha⟩, h.gin, h.low, h.gout, fun k hk => by rw [h1]; exact h.good k hk, fun b blk base sz a c => by rw [h1]; exact h.locs b blk base sz a c, h.apart⟩
  size := by rw [h1]; exact Nat.le_refl _
  keep := fun k _ _ => by rw [h1]
  alive := fun b hb => .inl hb
  same := fun b _ _ => ⟨rfl, rfl⟩
  objs := fun b o h => by simp at h

theorem Env.le_upd {E : Env} {b v' : Nat} {l' : Option (Nat × Nat × Nat)} (hb : E.alive b → (v' = E.ver b ∧ l' = E.loc b) ∨ (1 ≤ E.ver b ∧ E.ver b < v')) : E.Le (E.upd b v' l') :=
  ⟨fun k hk => hk, fun k hk => .inl hk, fun k hk => by
    by_cases e : k = b
    · subst e; simpa [Env.upd] using hb hk
    · exact .inl (by simp [Env.upd, e])⟩

theorem StepTo.one {w0 : World} {bl : Bk} {E : Env} {w w' : World} (h : Inv w0 bl E w) (b : Nat) (o : AO) (v' : Nat) (l' : Option (Nat × Nat × Nat))
    (hb : E.alive b → (v' = E.ver b ∧ l' = E.loc b) ∨ (1 ≤ E.ver b ∧ E.ver b < v'))
    (hl : ∀ blk base sz, l' = some (blk, base, sz) → (∃ base0 sz0, E.alive b ∧ E.loc b = some (blk, base0, sz0)) ∨ (w.heap.size ≤ blk ∧ blk < w'.heap.size))
    (hsz : w.heap.size ≤ w'.heap.size) (hos : w'.os = w.os) (hout : w'.output = w.output)
    (hkeep : ∀ k, k < w.heap.size → (∀ base sz, E.alive b → E.loc b ≠ some (k, base, sz)) → w'.heap[k]? = w.heap[k]?)
    (hfr : ∀ a : Addr, w.heap.size ≤ a.block → w'.frozen? a = false)
    (hfr2 : ∀ blk base sz, E.alive b → E.loc b = some (blk, base, sz) → ∀ a : Addr, a.block = blk → w'.frozen? a = false)
    (hobj : ObjRep (E.upd b v' l') w' b o) : StepTo w0 bl E w [(b, o)] (E.upd b v' l') w' := by
  have hle : E.Le (E.upd b v' l') := Env.le_upd hb
  have hfz : ∀ a : Addr, w.frozen? a = false → w'.frozen? a = false := fun a ha => by
    by_cases h1 : w.heap.size ≤ a.block
    · exact hfr a h1
    · by_cases h2 : ∃ base sz, E.alive b ∧ E.loc b = some (a.block, base, sz)
      · obtain ⟨base, sz, h3, h4⟩ := h2
        exact hfr2 _ _ _ h3 h4 a rfl
      · rw [frozen_of_heap (w := w) (hkeep a.block (by omega) fun base sz h3 h4 => h2 ⟨base, sz, h3, h4⟩)]; exact ha
  refine ⟨hle, ⟨⟨hos.trans h.frame.os, hout.trans h.frame.out, Nat.le_trans h.frame.size hsz, fun k h1 h2 => ?_, fun a ha => hfz a (h.frame.new a ha)⟩, h.gin.trans hle, h.low, h.gout, fun k hk => Nat.lt_of_lt_of_le (h.good k hk) hsz, ?_, ?_⟩, hsz, ?_, ?_, ?_, ?_⟩
  · rw [hkeep k (by have := h.frame.size; omega) fun base sz h3 h4 => ?_]
    · exact h.frame.old k h1 h2
    · have := (h.locs b k base sz h3 h4).2.2
      rcases this with h5 | h5
      · omega
      · exact h2 h5
  · intro k blk base sz hk hlk
    by_cases e : k = b
    · subst e
      simp only [Env.upd, if_true] at hlk
      rcases hl blk base sz hlk with ⟨base0, sz0, h1, h2⟩ | ⟨h1, h2⟩
      · have h3 := h.locs k blk base0 sz0 h1 h2
        exact ⟨by omega, h3.2.1, h3.2.2⟩
      · exact ⟨h2, fun hg => by have := h.good blk hg; omega, .inl (by have := h.frame.size; omega)⟩
    · simp only [Env.upd, e, if_false, or_false] at hlk hk
      have h3 := h.locs k blk base sz hk hlk
      exact ⟨by omega, h3.2.1, h3.2.2⟩
  · intro k k' blk base sz base' sz' hk hk' hlk hlk'
    have key : ∀ j base1 sz1, E.alive j → E.loc j = some (blk, base1, sz1) → j ≠ b → ∀ base2 sz2, l' = some (blk, base2, sz2) → False := fun j base1 sz1 h1 h2 h3 base2 sz2 h4 => by
      rcases hl blk base2 sz2 h4 with ⟨base0, sz0, h5, h6⟩ | ⟨h5, h6⟩
      · exact h3 (h.apart j b blk _ _ _ _ h1 h5 h2 h6)
      · have := (h.locs j blk base1 sz1 h1 h2).1; omega
    by_cases e : k = b <;> by_cases e' : k' = b
    · rw [e, e']
    · subst e
      simp only [Env.upd, if_true, e', if_false, or_false] at hlk hlk' hk'
      exact (key k' base' sz' hk' hlk' e' base sz hlk).elim
    · subst e'
      simp only [Env.upd, if_true, e, if_false, or_false] at hlk hlk' hk
      exact (key k base sz hk hlk e base' sz' hlk').elim
    · simp only [Env.upd, e, e', if_false, or_false] at hlk hlk' hk hk'
      exact h.apart k k' blk base sz base' sz' hk hk' hlk hlk'
  · intro k hk hn
    exact hkeep k hk fun base sz h1 h2 => hn b base sz h1 (by simp) h2
  · intro k hk
    rcases hk with hk | hk
    · exact .inl hk
    · exact .inr (by simp [hk])
  · intro k hk hn
    have : k ≠ b := by simpa using hn
    simp [Env.upd, this]
  · intro k p hkp
    simp only [List.mem_singleton, Prod.mk.injEq] at hkp
    obtain ⟨rfl, rfl⟩ := hkp
    exact ⟨.inr rfl, hobj⟩

/-- A new block of cells, under a new name. -/
theorem StepTo.alloc {w0 : World} {bl : Bk} {E : Env} {w : World} (h : Inv w0 bl E w) (b : Nat) (o : AO) (v' base : Nat) (c : Array Value) (t : TypeId) (hb : ¬ E.alive b)
    (hobj : ObjRep (E.upd b v' (some (w.heap.size, base, c.size))) (w.alloc (.cells c t)) b o) : StepTo w0 bl E w [(b, o)] (E.upd b v' (some (w.heap.size, base, c.size))) (w.alloc (.cells c t)) := by
  refine StepTo.one h b o v' _ (fun hh => absurd hh hb) (fun blk base' sz e => ?_) (by simp) rfl rfl (fun k hk _ => heap_alloc_old w _ k hk) (fun a ha => ?_) (fun blk base' sz hh => absurd hh hb) hobj
  · simp only [Option.some.injEq, Prod.mk.injEq] at e
    exact .inr ⟨by omega, by simp; omega⟩
  · by_cases e : a.block = w.heap.size
    · unfold World.frozen?
      rw [e, heap_alloc_new]
      simp
    · exact frozen_out _ _ (by simp; omega)

/-- A new name with no block: a nil slice. -/
theorem StepTo.none {w0 : World} {bl : Bk} {E : Env} {w : World} (h : Inv w0 bl E w) (b s : Nat) (hb : ¬ E.alive b) (f : Bool := true) : StepTo w0 bl E w [(b, .vec 1 s f [])] (E.upd b 1 none) w := by
  refine StepTo.one h b _ 1 Option.none (fun hh => absurd hh hb) (fun blk base' sz e => by simp at e) (Nat.le_refl _) rfl rfl (fun k hk _ => rfl) (fun a ha => frozen_out w a ha) (fun blk base' sz hh => absurd hh hb) ?_
  simp [ObjRep, Env.upd]

/-- A write into an object's own block. -/
theorem StepTo.write {w0 : World} {bl : Bk} {E : Env} {w : World} (h : Inv w0 bl E w) (b : Nat) (o : AO) (v' blk base base' sz sz' : Nat) (c c' : Array Value) (t : TypeId) (hb : E.alive b)
    (hl : E.loc b = some (blk, base, sz)) (hc : w.heap[blk]? = some (.cells c t (0, 0)))
    (hv : (v' = E.ver b ∧ base' = base ∧ sz' = sz) ∨ (1 ≤ E.ver b ∧ E.ver b < v'))
    (hobj : ObjRep (E.upd b v' (some (blk, base', sz'))) (w.setRow blk c') b o) : StepTo w0 bl E w [(b, o)] (E.upd b v' (some (blk, base', sz'))) (w.setRow blk c') := by
  have hblk : blk < w.heap.size := (Array.getElem?_eq_some_iff.1 hc).1
  refine StepTo.one h b o v' _ (fun _ => ?_) (fun blk' base'' sz2 e => ?_) (by simp) rfl rfl (fun k hk hn => setRow_other w blk k c' fun e => ?_) (fun a ha => frozen_out _ _ (by simpa using ha)) ?_ hobj
  · rcases hv with ⟨h1, h2, h3⟩ | h1
    · exact .inl ⟨h1, by rw [h2, h3, hl]⟩
    · exact .inr h1
  · simp only [Option.some.injEq, Prod.mk.injEq] at e
    exact .inl ⟨base, sz, hb, by rw [hl, e.1]⟩
  · subst e; exact hn base sz hb hl
  · intro blk' base'' sz2 _ hl' a ha
    rw [hl] at hl'
    simp only [Option.some.injEq, Prod.mk.injEq] at hl'
    unfold World.frozen?
    rw [ha, ← hl'.1, setRow_heap w blk c c' t (0, 0) hc]
    simp

/-! Reading cells and rows of cells -/
theorem CCells.get {w : World} {G : Nat → Prop} {blk : Nat} : ∀ {cs : List AV} {off j : Nat} {a : AV}, CCells w G blk off cs → cs[j]? = some a → ∃ x, w.cell? ⟨blk, off + j, none⟩ = some x ∧ x.oneCell' = true ∧ CRep w G a x
  | [], off, j, a, _, e => by simp at e
  | b :: r, off, 0, a, h, e => by simp only [CCells] at h; simp at e; subst e; simpa using h.1
  | b :: r, off, j + 1, a, h, e => by
    simp only [CCells] at h
    simp at e
    have := CCells.get (j := j) h.2 e
    rwa [Nat.add_right_comm, Nat.add_assoc] at this

theorem CCells.of_get {w : World} {G : Nat → Prop} {blk : Nat} : ∀ {cs : List AV} {off : Nat}, (∀ j a, cs[j]? = some a → ∃ x, w.cell? ⟨blk, off + j, none⟩ = some x ∧ x.oneCell' = true ∧ CRep w G a x) → CCells w G blk off cs
  | [], off, _ => by simp [CCells]
  | b :: r, off, h => by
    simp only [CCells]
    refine ⟨by simpa using h 0 b (by simp), CCells.of_get fun j a e => ?_⟩
    have := h (j + 1) a (by simpa using e)
    rwa [Nat.add_right_comm off 1 j, Nat.add_assoc]

theorem CRows.len {w : World} {G : Nat → Prop} {s blk : Nat} : ∀ {xs : List (List AV)} {off : Nat}, CRows w G s blk off xs → ∀ e ∈ xs, e.length = s
  | [], off, _ => by simp
  | b :: r, off, h => by
    simp only [CRows] at h
    intro e he
    rcases List.mem_cons.1 he with rfl | he
    · exact h.1
    · exact CRows.len h.2.2 e he

theorem CRows.get {w : World} {G : Nat → Prop} {s blk : Nat} : ∀ {xs : List (List AV)} {off i : Nat} {e : List AV}, CRows w G s blk off xs → xs[i]? = some e → e.length = s ∧ CCells w G blk (off + i * s) e
  | [], off, i, a, _, e => by simp at e
  | b :: r, off, 0, a, h, e => by simp only [CRows] at h; simp at e; subst e; simpa using ⟨h.1, h.2.1⟩
  | b :: r, off, i + 1, a, h, e => by
    simp only [CRows] at h
    simp at e
    have := CRows.get (i := i) h.2.2 e
    rw [show off + (i + 1) * s = off + s + i * s from by rw [Nat.add_mul]; omega]
    exact this

theorem CRows.of_get {w : World} {G : Nat → Prop} {s blk : Nat} : ∀ {xs : List (List AV)} {off : Nat}, (∀ i e, xs[i]? = some e → e.length = s ∧ CCells w G blk (off + i * s) e) → CRows w G s blk off xs
  | [], off, _ => by simp [CRows]
  | b :: r, off, h => by
    simp only [CRows]
    have h0 := h 0 b (by simp)
    refine ⟨h0.1, by simpa using h0.2, CRows.of_get fun i e he => ?_⟩
    have := h (i + 1) e (by simpa using he)
    rw [show off + s + i * s = off + (i + 1) * s from by rw [Nat.add_mul]; omega]
    exact this

/-- The values that lie in cells. -/
theorem CCells.vals {w : World} {G : Nat → Prop} {blk : Nat} : ∀ {cs : List AV} {off : Nat}, CCells w G blk off cs →
    ∃ vs : List Value, vs.length = cs.length ∧ CRepL w G cs vs ∧ (∀ y ∈ vs, y.oneCell' = true) ∧ ∀ j v, vs[j]? = some v → w.cell? ⟨blk, off + j, none⟩ = some v
  | [], off, _ => ⟨[], by simp [CRepL]⟩
  | b :: r, off, h => by
    simp only [CCells] at h
    obtain ⟨⟨x, h1, h2, h3⟩, h4⟩ := h
    obtain ⟨vs, k1, k2, k3, k4⟩ := CCells.vals h4
    refine ⟨x :: vs, by simp [k1], by simp [CRepL, h3, k2], by simp [h2]; exact k3, fun j v e => ?_⟩
    cases j with
    | zero => simp at e; subst e; simpa using h1
    | succ j => simp at e; have := k4 j v e; rwa [Nat.add_right_comm, Nat.add_assoc] at this

theorem add_plain (blk off i : Nat) : (⟨blk, off, none⟩ : Addr).add i = ⟨blk, off + i, none⟩ := by
  unfold Addr.add
  split
  · rename_i h; simp [h]
  · rfl

/-- What an object is, said anew. -/
theorem StepTo.retell {w0 : World} {bl : Bk} {E : Env} {w : World} (h : Inv w0 bl E w) {b : Nat} {o : AO} (hb : E.alive b) (ho : ObjRep E w b o) : StepTo w0 bl E w [(b, o)] E w where
  le := Env.Le.refl E
  inv := h
  size := Nat.le_refl _
  keep := fun _ _ _ => rfl
  alive := fun _ hb => .inl hb
  same := fun _ _ _ => ⟨rfl, rfl⟩
  objs := fun k p hkp => by
    simp only [List.mem_singleton, Prod.mk.injEq] at hkp
    obtain ⟨rfl, rfl⟩ := hkp
    exact ⟨hb, ho⟩
end Go.AM
