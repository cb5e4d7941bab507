/- The abstract values of the A-machine, what they say of a world, and how that carries over to later worlds. -/
import Derived.Calls
import Derived.Tactics
import Derived.Laws.World
import Derived.Laws.Sem
import Derived.Laws.Rows
import Derived.Laws.Cells
set_option linter.all false
namespace Go.AM
open Go

/-- Abstract values. rd: a slice that nobody writes; ow: a slice that is owned alone; rp, rf: pointers to cells, read-only and owned; bp: into box b; sl: a slice of object b at version m; ep: a pointer into such a slice; bs: a slice over a box. -/
inductive AV where
  | any
  | v (x : Value)
  | agg (cs : List AV)
  | tup (cs : List AV)
  | rd (s : Nat) (xs : List (List AV))
  | ow (s : Nat) (xs : List (List AV))
  | rp (cs : List AV)
  | rf (cs : List AV)
  | bp (b o : Nat)
  | sl (b m s o n : Nat)
  | ep (b m s i j : Nat)
  | bs (b o s n : Nat)
  | fn (f : FuncId) (cs : List AV)
  deriving Inhabited

/-- Abstract objects. -/
inductive AO where
  | dead
  | box (cs : List AV)
  | vec (m s : Nat) (f : Bool) (xs : List (List AV))
  deriving Inhabited

mutual
/-- A closed value: what it says of a value in a world; only blocks of G are read. -/
def CRep (w : World) (G : Nat → Prop) : AV → Value → Prop
  | .any, _ => True
  | .v y, x => x = y
  | .agg cs, x => ∃ vs : List Value, x = .agg vs.toArray ∧ (∀ y ∈ vs, y.oneCell' = true) ∧ CRepL w G cs vs
  | .tup cs, x => ∃ vs : List Value, x = .tuple vs.toArray ∧ CRepL w G cs vs
  | .rd s xs, x => ∃ p c, x = .slice p xs.length c ∧ xs.length ≤ c ∧ (p = none → c = 0) ∧ (xs = [] ∨ ∃ blk off, p = some ⟨blk, off, none⟩ ∧ G blk ∧ CRows w G s blk off xs)
  | .rp cs, x => ∃ blk off, x = .pointer (some ⟨blk, off, none⟩) ∧ G blk ∧ CCells w G blk off cs
  | .fn f cs, x => ∃ vs : List Value, x = .func (.func f) #[] vs.toArray ∧ CRepL w G cs vs
  | _, _ => False
def CRepL (w : World) (G : Nat → Prop) : List AV → List Value → Prop
  | [], [] => True
  | a :: as, x :: xs => CRep w G a x ∧ CRepL w G as xs
  | _, _ => False
def CCells (w : World) (G : Nat → Prop) (blk : Nat) (off : Nat) : List AV → Prop
  | [] => True
  | a :: r => (∃ x, w.cell? ⟨blk, off, none⟩ = some x ∧ x.oneCell' = true ∧ CRep w G a x) ∧ CCells w G blk (off + 1) r
def CRows (w : World) (G : Nat → Prop) (s blk : Nat) (off : Nat) : List (List AV) → Prop
  | [] => True
  | e :: r => e.length = s ∧ CCells w G blk off e ∧ CRows w G s blk (off + s) r
end

/-- The ghost side of a state: sealed blocks; which objects are there; their versions; where they lie (block, base, size of the block). -/
structure Env where
  G : Nat → Prop
  alive : Nat → Prop
  ver : Nat → Nat
  loc : Nat → Option (Nat × Nat × Nat)

/-- Where the header of a slice of an object points. -/
def SlAt (l : Option (Nat × Nat × Nat)) (s o : Nat) (p : Option Addr) (c : Nat) : Prop :=
  match l with
  | none => o = 0 ∧ c = 0
  | some (blk, base, sz) => ∃ a, p = some a ∧ (c = 0 ∨ a = ⟨blk, base + o * s, none⟩) ∧ base + (o + c) * s = sz

mutual
def Rep (E : Env) (w : World) : AV → Value → Prop
  | .bp b o, x => E.alive b ∧ E.ver b = 0 ∧ ∃ blk sz, E.loc b = some (blk, 0, sz) ∧ x = .pointer (some ⟨blk, o, none⟩)
  | .sl b m s o n, x => E.alive b ∧ 1 ≤ m ∧ m ≤ E.ver b ∧ ∃ p c, x = .slice p n c ∧ n ≤ c ∧ (p = none → c = 0) ∧ (m = E.ver b → SlAt (E.loc b) s o p c)
  | .ep b m s i j, x => E.alive b ∧ 1 ≤ m ∧ m ≤ E.ver b ∧ ∃ a, x = .pointer (some a) ∧ (m = E.ver b → ∃ blk base sz, E.loc b = some (blk, base, sz) ∧ a = ⟨blk, base + i * s + j, none⟩)
  | .bs b o _ n, x => E.alive b ∧ E.ver b = 0 ∧ ∃ blk sz p c, E.loc b = some (blk, 0, sz) ∧ x = .slice (some p) n c ∧ n ≤ c ∧ (n = 0 ∨ p = ⟨blk, o, none⟩)
  | .agg cs, x => ∃ vs : List Value, x = .agg vs.toArray ∧ (∀ y ∈ vs, y.oneCell' = true) ∧ RepL E w cs vs
  | .tup cs, x => ∃ vs : List Value, x = .tuple vs.toArray ∧ RepL E w cs vs
  | .fn f cs, x => ∃ vs : List Value, x = .func (.func f) #[] vs.toArray ∧ RepL E w cs vs
  | a, x => CRep w E.G a x
def RepL (E : Env) (w : World) : List AV → List Value → Prop
  | [], [] => True
  | a :: as, x :: xs => Rep E w a x ∧ RepL E w as xs
  | _, _ => False
end

def ObjRep (E : Env) (w : World) (b : Nat) : AO → Prop
  | .dead => True
  | .box cs => E.ver b = 0 ∧ ∃ blk t vs, E.loc b = some (blk, 0, vs.length) ∧ w.heap[blk]? = some (.cells vs.toArray t (0, 0)) ∧ (∀ y ∈ vs, y.oneCell' = true) ∧ RepL E w cs vs
  | .vec m s f xs => E.ver b = m ∧ 1 ≤ m ∧ match E.loc b with
    | none => xs = []
    | some (blk, base, sz) => ∃ c t, w.heap[blk]? = some (.cells c t (0, 0)) ∧ sz ≤ c.size ∧ (∀ y ∈ c.toList, y.oneCell' = true) ∧ base + xs.length * s ≤ sz ∧ (f = true → base + xs.length * s = sz) ∧ CRows w E.G s blk base xs

/-- What a run may have done to the world: blocks that were there, but for those listed, are as they were; new blocks are not frozen. -/
structure Frame (w0 : World) (bl : List Nat) (w : World) : Prop where
  os : w.os = w0.os
  out : w.output = w0.output
  size : w0.heap.size ≤ w.heap.size
  old : ∀ k, k < w0.heap.size → k ∉ bl → w.heap[k]? = w0.heap[k]?
  new : ∀ a : Addr, (w0.heap.size ≤ a.block ∨ a.block ∈ bl) → w.frozen? a = false

/-- One ghost state comes after another. -/
structure Env.Le (E E' : Env) : Prop where
  G : ∀ k, E.G k → E'.G k
  alive : ∀ b, E.alive b → E'.alive b
  same : ∀ b, E.alive b → (E'.ver b = E.ver b ∧ E'.loc b = E.loc b) ∨ (1 ≤ E.ver b ∧ E.ver b < E'.ver b)

/-- What a body is given: the blocks that it may change; the ghost state in which it begins, of which all names are below n. -/
structure Bk where
  l : List Nat
  E : Env
  n : Nat

def Bk.G (b : Bk) : Nat → Prop := b.E.G

def Env.start (G : Nat → Prop) : Env := { G := G, alive := fun _ => False, ver := fun _ => 0, loc := fun _ => none }
def Bk.pure (G : Nat → Prop) : Bk := ⟨[], Env.start G, 0⟩
@[simp] theorem Bk.pure_l (G : Nat → Prop) : (Bk.pure G).l = [] := rfl
@[simp] theorem Bk.pure_n (G : Nat → Prop) : (Bk.pure G).n = 0 := rfl
@[simp] theorem Bk.pure_G (G : Nat → Prop) : (Bk.pure G).G = G := rfl

structure Inv (w0 : World) (bl : Bk) (E : Env) (w : World) : Prop where
  frame : Frame w0 bl.l w
  gin : bl.E.Le E
  low : ∀ b, bl.E.alive b → b < bl.n
  gout : ∀ k, E.G k → bl.G k ∨ w0.heap.size ≤ k ∨ k ∈ bl.l
  good : ∀ k, E.G k → k < w.heap.size
  locs : ∀ b blk base sz, E.alive b → E.loc b = some (blk, base, sz) → blk < w.heap.size ∧ ¬ E.G blk ∧ (w0.heap.size ≤ blk ∨ blk ∈ bl.l)
  apart : ∀ b b' blk base sz base' sz', E.alive b → E.alive b' → E.loc b = some (blk, base, sz) → E.loc b' = some (blk, base', sz') → b = b'

theorem Env.Le.refl (E : Env) : E.Le E := ⟨fun _ h => h, fun _ h => h, fun _ _ => .inl ⟨rfl, rfl⟩⟩
theorem Env.Le.trans {A B C : Env} (h : A.Le B) (k : B.Le C) : A.Le C :=
  ⟨fun x hx => k.G x (h.G x hx), fun b hb => k.alive b (h.alive b hb), fun b hb => by
    rcases h.same b hb with ⟨h1, h2⟩ | ⟨h1, h2⟩ <;> rcases k.same b (h.alive b hb) with ⟨k1, k2⟩ | ⟨k1, k2⟩
    · exact .inl ⟨k1.trans h1, k2.trans h2⟩
    · exact .inr ⟨by omega, by omega⟩
    · exact .inr ⟨h1, by omega⟩
    · exact .inr ⟨h1, by omega⟩⟩

theorem Frame.refl (w : World) (h : ∀ a : Addr, w.heap.size ≤ a.block → w.frozen? a = false) : Frame w [] w :=
  ⟨rfl, rfl, Nat.le_refl _, fun _ _ _ => rfl, fun a ha => h a (by simpa using ha)⟩

theorem frozen_out (w : World) (a : Addr) (h : w.heap.size ≤ a.block) : w.frozen? a = false := by
  unfold World.frozen?
  rw [Array.getElem?_eq_none h]

theorem cell_of_heap {w w' : World} {blk : Nat} (h : w'.heap[blk]? = w.heap[blk]?) (off : Nat) : w'.cell? ⟨blk, off, none⟩ = w.cell? ⟨blk, off, none⟩ := by
  unfold World.cell?
  rw [h]

theorem frozen_of_heap {w w' : World} {a : Addr} (h : w'.heap[a.block]? = w.heap[a.block]?) : w'.frozen? a = w.frozen? a := by
  unfold World.frozen?
  rw [h]

mutual
theorem CRep.mono {w w' : World} {G G' : Nat → Prop} (hG : ∀ k, G k → G' k) (hw : ∀ k, G k → w'.heap[k]? = w.heap[k]?) : ∀ {a : AV} {x : Value}, CRep w G a x → CRep w' G' a x
  | .any, _, _ => by simp [CRep]
  | .v _, _, h => by simpa [CRep] using h
  | .agg cs, _, h => by
    simp only [CRep] at h ⊢
    obtain ⟨vs, h1, h2, h3⟩ := h
    exact ⟨vs, h1, h2, CRepL.mono hG hw h3⟩
  | .tup cs, _, h => by
    simp only [CRep] at h ⊢
    obtain ⟨vs, h1, h3⟩ := h
    exact ⟨vs, h1, CRepL.mono hG hw h3⟩
  | .fn f cs, _, h => by
    simp only [CRep] at h ⊢
    obtain ⟨vs, h1, h3⟩ := h
    exact ⟨vs, h1, CRepL.mono hG hw h3⟩
  | .rd s xs, _, h => by
    simp only [CRep] at h ⊢
    obtain ⟨p, c, h1, h2, hpc, h3⟩ := h
    refine ⟨p, c, h1, h2, hpc, ?_⟩
    rcases h3 with h3 | ⟨blk, off, h4, h5, h6⟩
    · exact .inl h3
    · exact .inr ⟨blk, off, h4, hG _ h5, CRows.mono hG hw (.inr h5) h6⟩
  | .rp cs, _, h => by
    simp only [CRep] at h ⊢
    obtain ⟨blk, off, h4, h5, h6⟩ := h
    exact ⟨blk, off, h4, hG _ h5, CCells.mono hG hw (.inr h5) h6⟩
  | .ow .., _, h => by simp [CRep] at h
  | .rf .., _, h => by simp [CRep] at h
  | .bp .., _, h => by simp [CRep] at h
  | .sl .., _, h => by simp [CRep] at h
  | .ep .., _, h => by simp [CRep] at h
  | .bs .., _, h => by simp [CRep] at h
theorem CRepL.mono {w w' : World} {G G' : Nat → Prop} (hG : ∀ k, G k → G' k) (hw : ∀ k, G k → w'.heap[k]? = w.heap[k]?) : ∀ {as : List AV} {xs : List Value}, CRepL w G as xs → CRepL w' G' as xs
  | [], [], _ => by simp [CRepL]
  | a :: as, x :: xs, h => by
    simp only [CRepL] at h ⊢
    exact ⟨CRep.mono hG hw h.1, CRepL.mono hG hw h.2⟩
  | [], _ :: _, h => by simp [CRepL] at h
  | _ :: _, [], h => by simp [CRepL] at h
theorem CCells.mono {w w' : World} {G G' : Nat → Prop} (hG : ∀ k, G k → G' k) (hw : ∀ k, G k → w'.heap[k]? = w.heap[k]?) {blk : Nat} (hb : w'.heap[blk]? = w.heap[blk]? ∨ G blk) : ∀ {off : Nat} {cs : List AV}, CCells w G blk off cs → CCells w' G' blk off cs
  | _, [], _ => by simp [CCells]
  | off, a :: r, h => by
    simp only [CCells] at h ⊢
    obtain ⟨⟨x, h1, h2, h3⟩, h4⟩ := h
    exact ⟨⟨x, by rw [cell_of_heap (hb.elim id (hw _))]; exact h1, h2, CRep.mono hG hw h3⟩, CCells.mono hG hw hb h4⟩
theorem CRows.mono {w w' : World} {G G' : Nat → Prop} (hG : ∀ k, G k → G' k) (hw : ∀ k, G k → w'.heap[k]? = w.heap[k]?) {s blk : Nat} (hb : w'.heap[blk]? = w.heap[blk]? ∨ G blk) : ∀ {off : Nat} {xs : List (List AV)}, CRows w G s blk off xs → CRows w' G' s blk off xs
  | _, [], _ => by simp [CRows]
  | off, e :: r, h => by
    simp only [CRows] at h ⊢
    exact ⟨h.1, CCells.mono hG hw hb h.2.1, CRows.mono hG hw hb h.2.2⟩
end

mutual
theorem Rep.mono {E E' : Env} {w w' : World} (hE : E.Le E') (hw : ∀ k, E.G k → w'.heap[k]? = w.heap[k]?) : ∀ {a : AV} {x : Value}, Rep E w a x → Rep E' w' a x
  | .bp b o, x, h => by
    simp only [Rep] at h ⊢
    obtain ⟨h1, h2, blk, sz, h3, h4⟩ := h
    rcases hE.same b h1 with ⟨k1, k2⟩ | ⟨k1, _⟩
    · exact ⟨hE.alive b h1, k1.trans h2, blk, sz, k2.trans h3, h4⟩
    · omega
  | .bs b o s n, x, h => by
    simp only [Rep] at h ⊢
    obtain ⟨h1, h2, blk, sz, p, c, h3, h4, h5⟩ := h
    rcases hE.same b h1 with ⟨k1, k2⟩ | ⟨k1, _⟩
    · exact ⟨hE.alive b h1, k1.trans h2, blk, sz, p, c, k2.trans h3, h4, h5⟩
    · omega
  | .sl b m s o n, x, h => by
    simp only [Rep] at h ⊢
    obtain ⟨h1, h2, h3, p, c, h4, h4', h4'', h5⟩ := h
    rcases hE.same b h1 with ⟨k1, k2⟩ | ⟨k1, k2⟩
    · exact ⟨hE.alive b h1, h2, by omega, p, c, h4, h4', h4'', fun e => by rw [k2]; exact h5 (e.trans k1)⟩
    · exact ⟨hE.alive b h1, h2, by omega, p, c, h4, h4', h4'', fun e => by omega⟩
  | .ep b m s i j, x, h => by
    simp only [Rep] at h ⊢
    obtain ⟨h1, h2, h3, a, h4, h5⟩ := h
    rcases hE.same b h1 with ⟨k1, k2⟩ | ⟨k1, k2⟩
    · exact ⟨hE.alive b h1, h2, by omega, a, h4, fun e => by rw [k2]; exact h5 (e.trans k1)⟩
    · exact ⟨hE.alive b h1, h2, by omega, a, h4, fun e => by omega⟩
  | .agg cs, _, h => by
    simp only [Rep] at h ⊢
    obtain ⟨vs, h1, h2, h3⟩ := h
    exact ⟨vs, h1, h2, RepL.mono hE hw h3⟩
  | .tup cs, _, h => by
    simp only [Rep] at h ⊢
    obtain ⟨vs, h1, h3⟩ := h
    exact ⟨vs, h1, RepL.mono hE hw h3⟩
  | .fn f cs, _, h => by
    simp only [Rep] at h ⊢
    obtain ⟨vs, h1, h3⟩ := h
    exact ⟨vs, h1, RepL.mono hE hw h3⟩
  | .any, _, h => by simp only [Rep] at h ⊢; exact h.mono hE.G hw
  | .v _, _, h => by simp only [Rep] at h ⊢; exact h.mono hE.G hw
  | .rd .., _, h => by simp only [Rep] at h ⊢; exact h.mono hE.G hw
  | .ow .., _, h => by simp only [Rep] at h ⊢; exact h.mono hE.G hw
  | .rp .., _, h => by simp only [Rep] at h ⊢; exact h.mono hE.G hw
  | .rf .., _, h => by simp only [Rep] at h ⊢; exact h.mono hE.G hw
theorem RepL.mono {E E' : Env} {w w' : World} (hE : E.Le E') (hw : ∀ k, E.G k → w'.heap[k]? = w.heap[k]?) : ∀ {as : List AV} {xs : List Value}, RepL E w as xs → RepL E' w' as xs
  | [], [], _ => by simp [RepL]
  | a :: as, x :: xs, h => by
    simp only [RepL] at h ⊢
    exact ⟨Rep.mono hE hw h.1, RepL.mono hE hw h.2⟩
  | [], _ :: _, h => by simp [RepL] at h
  | _ :: _, [], h => by simp [RepL] at h
end

/-- An object whose block is as it was, and whose place and version are as they were. -/
theorem ObjRep.mono {E E' : Env} {w w' : World} (hE : E.Le E') (hw : ∀ k, E.G k → w'.heap[k]? = w.heap[k]?) {b : Nat} (h1 : E'.ver b = E.ver b) (h2 : E'.loc b = E.loc b)
    (h3 : ∀ blk base sz, E.loc b = some (blk, base, sz) → w'.heap[blk]? = w.heap[blk]?) : ∀ {o : AO}, ObjRep E w b o → ObjRep E' w' b o
  | .dead, _ => trivial
  | .box cs, h => by
    simp only [ObjRep] at h ⊢
    obtain ⟨k1, blk, t, vs, k2, k3, k4, k5⟩ := h
    exact ⟨h1.trans k1, blk, t, vs, h2.trans k2, (h3 _ _ _ k2).trans k3, k4, k5.mono hE hw⟩
  | .vec m s f xs, h => by
    simp only [ObjRep] at h ⊢
    obtain ⟨k1, k2, k3⟩ := h
    refine ⟨h1.trans k1, k2, ?_⟩
    rw [h2]
    cases hl : E.loc b with
    | none => simp only [hl] at k3 ⊢; exact k3
    | some l =>
      obtain ⟨blk, base, sz⟩ := l
      simp only [hl] at k3 ⊢
      obtain ⟨c, t, k4, k5, k5', k6, k6', k7⟩ := k3
      exact ⟨c, t, (h3 _ _ _ hl).trans k4, k5, k5', k6, k6', k7.mono hE.G hw (.inl (h3 _ _ _ hl))⟩

theorem RepL.length {E : Env} {w : World} : ∀ {as : List AV} {xs : List Value}, RepL E w as xs → as.length = xs.length
  | [], [], _ => rfl
  | a :: as, x :: xs, h => by simp only [RepL] at h; simp [RepL.length h.2]
  | [], _ :: _, h => by simp [RepL] at h
  | _ :: _, [], h => by simp [RepL] at h

theorem RepL.get {E : Env} {w : World} : ∀ {as : List AV} {xs : List Value} {i : Nat} {a : AV}, RepL E w as xs → as[i]? = some a → ∃ x, xs[i]? = some x ∧ Rep E w a x
  | [], [], i, a, _, h => by simp at h
  | a :: as, x :: xs, 0, a', h, e => by simp only [RepL] at h; simp at e; subst e; exact ⟨x, by simp, h.1⟩
  | a :: as, x :: xs, i + 1, a', h, e => by simp only [RepL] at h; simp at e; simpa using RepL.get h.2 e
  | [], _ :: _, _, _, h, _ => by simp [RepL] at h
  | _ :: _, [], _, _, h, _ => by simp [RepL] at h

theorem RepL.set {E : Env} {w : World} : ∀ {as : List AV} {xs : List Value} {i : Nat} {a : AV} {x : Value}, RepL E w as xs → Rep E w a x → RepL E w (as.set i a) (xs.set i x)
  | [], [], i, a, _, _, _ => by simp [RepL]
  | a :: as, x :: xs, 0, a', x', h, e => by simp only [RepL, List.set_cons_zero] at h ⊢; exact ⟨e, h.2⟩
  | a :: as, x :: xs, i + 1, a', x', h, e => by simp only [RepL, List.set_cons_succ] at h ⊢; exact ⟨h.1, RepL.set h.2 e⟩
  | [], _ :: _, _, _, _, h, _ => by simp [RepL] at h
  | _ :: _, [], _, _, _, h, _ => by simp [RepL] at h

theorem RepL.append {E : Env} {w : World} : ∀ {as : List AV} {xs : List Value} {bs : List AV} {ys : List Value}, RepL E w as xs → RepL E w bs ys → RepL E w (as ++ bs) (xs ++ ys)
  | [], [], _, _, _, h => by simpa using h
  | a :: as, x :: xs, _, _, h, k => by simp only [RepL, List.cons_append] at h ⊢; exact ⟨h.1, RepL.append h.2 k⟩
  | [], _ :: _, _, _, h, _ => by simp [RepL] at h
  | _ :: _, [], _, _, h, _ => by simp [RepL] at h

theorem RepL.take {E : Env} {w : World} : ∀ {as : List AV} {xs : List Value} (n : Nat), RepL E w as xs → RepL E w (as.take n) (xs.take n)
  | [], [], n, _ => by simp [RepL]
  | a :: as, x :: xs, 0, h => by simp [RepL]
  | a :: as, x :: xs, n + 1, h => by simp only [RepL, List.take_succ_cons] at h ⊢; exact ⟨h.1, RepL.take n h.2⟩
  | [], _ :: _, _, h => by simp [RepL] at h
  | _ :: _, [], _, h => by simp [RepL] at h

theorem RepL.drop {E : Env} {w : World} : ∀ {as : List AV} {xs : List Value} (n : Nat), RepL E w as xs → RepL E w (as.drop n) (xs.drop n)
  | [], [], n, _ => by simp [RepL]
  | a :: as, x :: xs, 0, h => by simpa using h
  | a :: as, x :: xs, n + 1, h => by simp only [RepL] at h; simpa using RepL.drop n h.2
  | [], _ :: _, _, h => by simp [RepL] at h
  | _ :: _, [], _, h => by simp [RepL] at h

/-- Closed values say the same in both readings. -/
def AV.closed : AV → Prop
  | .any | .v _ | .rd .. | .rp .. => True
  | _ => False

theorem Rep.of_c {E : Env} {w : World} : ∀ {a : AV} {x : Value}, CRep w E.G a x → Rep E w a x
  | .any, _, h => by simpa only [Rep] using h
  | .v _, _, h => by simpa only [Rep] using h
  | .rd .., _, h => by simpa only [Rep] using h
  | .rp .., _, h => by simpa only [Rep] using h
  | .ow .., _, h => by simpa only [Rep] using h
  | .rf .., _, h => by simpa only [Rep] using h
  | .bp .., _, h => by simp [CRep] at h
  | .sl .., _, h => by simp [CRep] at h
  | .ep .., _, h => by simp [CRep] at h
  | .bs .., _, h => by simp [CRep] at h
  | .agg cs, _, h => by
    simp only [CRep, Rep] at h ⊢
    obtain ⟨vs, h1, h2, h3⟩ := h
    exact ⟨vs, h1, h2, go h3⟩
  | .tup cs, _, h => by
    simp only [CRep, Rep] at h ⊢
    obtain ⟨vs, h1, h3⟩ := h
    exact ⟨vs, h1, go h3⟩
  | .fn f cs, _, h => by
    simp only [CRep, Rep] at h ⊢
    obtain ⟨vs, h1, h3⟩ := h
    exact ⟨vs, h1, go h3⟩
where
  go : ∀ {as : List AV} {xs : List Value}, CRepL w E.G as xs → RepL E w as xs
  | [], [], _ => by simp [RepL]
  | a :: as, x :: xs, h => by simp only [CRepL, RepL] at h ⊢; exact ⟨Rep.of_c h.1, go h.2⟩
  | [], _ :: _, h => by simp [CRepL] at h
  | _ :: _, [], h => by simp [CRepL] at h
end Go.AM
