/- A region whose order is drawn: the run in the order of the text stands for every order, if operations that touch the same are ordered by the edges. -/
import Derived.Test.YtjdahonmgfhpgaaAmJ
set_option linter.all false
namespace Go.AM
open Go

abbrev Rec := AV × List (Nat × AO)

def gF : List (Oper × Rec) → Nat → (Nat → Bool) → (Nat → AV) → (Nat → AV)
  | [], _, _, g => g
  | (o, r) :: l, i, L, g => gF l (i + 1) L (if L i = true then putF g o.dst r.1 else g)

def mF : List (Oper × Rec) → Nat → (Nat → Bool) → (Nat → AO) → (Nat → AO)
  | [], _, _, m => m
  | (_, r) :: l, i, L, m => mF l (i + 1) L (if L i = true then updM m r.2 else m)

theorem gF_none : ∀ {l : List (Oper × Rec)} {i : Nat} {L : Nat → Bool} {g : Nat → AV}, (∀ j, i ≤ j → L j = false) → gF l i L g = g
  | [], _, _, _, _ => rfl
  | (o, r) :: l, i, L, g, h => by
    simp only [gF]
    rw [if_neg (by simp [h i (Nat.le_refl _)])]
    exact gF_none fun j hj => h j (by omega)

theorem mF_none : ∀ {l : List (Oper × Rec)} {i : Nat} {L : Nat → Bool} {m : Nat → AO}, (∀ j, i ≤ j → L j = false) → mF l i L m = m
  | [], _, _, _, _ => rfl
  | (o, r) :: l, i, L, m, h => by
    simp only [mF]
    rw [if_neg (by simp [h i (Nat.le_refl _)])]
    exact mF_none fun j hj => h j (by omega)

theorem gF_at {t : Nat} : ∀ {l : List (Oper × Rec)} {i : Nat} {L L' : Nat → Bool} {g g' : Nat → AV}, g t = g' t → (∀ j o r, l[j]? = some (o, r) → o.dst = some t → L (i + j) = L' (i + j)) → gF l i L g t = gF l i L' g' t
  | [], _, _, _, _, _, h, _ => h
  | (o, r) :: l, i, L, L', g, g', h, k => by
    simp only [gF]
    refine gF_at ?_ fun j o' r' hj ho => by
      have := k (j + 1) o' r' (by simpa using hj) ho
      rwa [show i + 1 + j = i + (j + 1) from by omega]
    by_cases hd : o.dst = some t
    · have := k 0 o r (by simp) hd
      simp only [Nat.add_zero] at this
      rw [this]
      split
      · simp [putF, hd]
      · exact h
    · have e1 : ∀ (b : Bool) (g : Nat → AV), (if b = true then putF g o.dst r.1 else g) t = g t := fun b g => by
        split
        · simp [putF, hd]
        · rfl
      rw [e1, e1]
      exact h

theorem mF_at {b : Nat} : ∀ {l : List (Oper × Rec)} {i : Nat} {L L' : Nat → Bool} {m m' : Nat → AO}, m b = m' b → (∀ j o r, l[j]? = some (o, r) → b ∈ r.2.map (·.1) → L (i + j) = L' (i + j)) → mF l i L m b = mF l i L' m' b
  | [], _, _, _, _, _, h, _ => h
  | (o, r) :: l, i, L, L', m, m', h, k => by
    simp only [mF]
    refine mF_at ?_ fun j o' r' hj ho => by
      have := k (j + 1) o' r' (by simpa using hj) ho
      rwa [show i + 1 + j = i + (j + 1) from by omega]
    by_cases hd : b ∈ r.2.map (·.1)
    · have := k 0 o r (by simp) hd
      simp only [Nat.add_zero] at this
      rw [this]
      split
      · have key : ∀ {u : List (Nat × AO)}, b ∈ u.map (·.1) → updM m u b = updM m' u b := by
          intro u
          induction u with
          | nil => simp
          | cons x u ih =>
            obtain ⟨c, o⟩ := x
            intro hb
            simp only [updM]
            split
            · rfl
            · rename_i hne
              simp only [List.map_cons, List.mem_cons] at hb
              exact ih (hb.resolve_left fun e => hne e.symm)
        exact key hd
      · exact h
    · have e1 : ∀ (c : Bool) (m : Nat → AO), (if c = true then updM m r.2 else m) b = m b := fun c m => by
        split
        · exact updM_not hd
        · rfl
      rw [e1, e1]
      exact h

theorem updM_mem' {m m' : Nat → AO} {b : Nat} {u : List (Nat × AO)} (h : b ∈ u.map (·.1)) : updM m u b = updM m' u b := by
  induction u with
  | nil => simp at h
  | cons x u ih =>
    obtain ⟨c, o⟩ := x
    simp only [updM]
    split
    · rfl
    · rename_i hne
      simp only [List.map_cons, List.mem_cons] at h
      exact ih (h.resolve_left fun e => hne e.symm)

/-- The last that writes a slot. -/
theorem gF_last {t : Nat} : ∀ {l : List (Oper × Rec)} {i k : Nat} {L : Nat → Bool} {g : Nat → AV} {o : Oper} {r : Rec}, l[k]? = some (o, r) → L (i + k) = true → o.dst = some t → (∀ j o' r', k < j → l[j]? = some (o', r') → o'.dst = some t → L (i + j) = false) → gF l i L g t = r.1
  | [], _, _, _, _, _, _, h, _, _, _ => by simp at h
  | (o', r') :: l, i, 0, L, g, o, r, h, hL, hd, hn => by
    simp only [List.getElem?_cons_zero, Option.some.injEq, Prod.mk.injEq] at h
    obtain ⟨rfl, rfl⟩ := h
    simp only [gF]
    rw [if_pos (by simpa using hL)]
    rw [gF_at (L' := fun _ => false) (g' := putF g o'.dst r'.1) rfl fun j o2 r2 hj ho => by
      have := hn (j + 1) o2 r2 (by omega) (by simpa using hj) ho
      rwa [show i + (j + 1) = i + 1 + j from by omega] at this]
    rw [gF_none (fun _ _ => rfl)]
    simp [putF, hd]
  | (o', r') :: l, i, k + 1, L, g, o, r, h, hL, hd, hn => by
    simp only [gF]
    refine gF_last (k := k) (by simpa using h) (by rwa [show i + 1 + k = i + (k + 1) from by omega]) hd fun j o2 r2 hj hl ho => ?_
    have := hn (j + 1) o2 r2 (by omega) (by simpa using hl) ho
    rwa [show i + 1 + j = i + (j + 1) from by omega]

theorem mF_last {b : Nat} : ∀ {l : List (Oper × Rec)} {i k : Nat} {L : Nat → Bool} {m : Nat → AO} {o : Oper} {r : Rec}, l[k]? = some (o, r) → L (i + k) = true → b ∈ r.2.map (·.1) → (∀ j o' r', k < j → l[j]? = some (o', r') → b ∈ r'.2.map (·.1) → L (i + j) = false) →
    ∀ m', mF l i L m b = updM m' r.2 b
  | [], _, _, _, _, _, _, h, _, _, _ => by simp at h
  | (o', r') :: l, i, 0, L, m, o, r, h, hL, hd, hn => by
    intro m'
    simp only [List.getElem?_cons_zero, Option.some.injEq, Prod.mk.injEq] at h
    obtain ⟨rfl, rfl⟩ := h
    simp only [mF]
    rw [if_pos (by simpa using hL)]
    rw [mF_at (L' := fun _ => false) (m' := updM m r'.2) rfl fun j o2 r2 hj ho => by
      have := hn (j + 1) o2 r2 (by omega) (by simpa using hj) ho
      rwa [show i + (j + 1) = i + 1 + j from by omega] at this]
    rw [mF_none (fun _ _ => rfl)]
    exact updM_mem' hd
  | (o', r') :: l, i, k + 1, L, m, o, r, h, hL, hd, hn => by
    simp only [mF]
    refine mF_last (k := k) (by simpa using h) (by rwa [show i + 1 + k = i + (k + 1) from by omega]) hd fun j o2 r2 hj hl ho => ?_
    have := hn (j + 1) o2 r2 (by omega) (by simpa using hl) ho
    rwa [show i + 1 + j = i + (j + 1) from by omega]

/-- What the records of a run say, operation by operation. -/
theorem recs_at {T : TypeId → Option TD} {X : AX} {ops : Array Oper} {N base : Nat} : ∀ {ol : List Oper} {i : Nat} {g g' : Nat → AV} {m m' : Nat → AO} {rs : List Rec}, Recs T X ops N base ol i g m rs g' m' →
    rs.length = ol.length ∧ g' = gF (ol.zip rs) i (fun _ => true) g ∧ m' = mF (ol.zip rs) i (fun _ => true) m ∧
    ∀ k o r, (ol.zip rs)[k]? = some (o, r) → stepRel T X ops N o (gF (ol.zip rs) i (fun j => decide (j < i + k)) g) (mF (ol.zip rs) i (fun j => decide (j < i + k)) m) (base + 16 * (i + k)) r
  | [], i, g, g', m, m', [], h => by
    obtain ⟨rfl, rfl⟩ := h
    exact ⟨rfl, rfl, rfl, fun k o r hk => by simp at hk⟩
  | o :: ol, i, g, g', m, m', r :: rs, h => by
    obtain ⟨h1, h2⟩ := h
    obtain ⟨k1, k2, k3, k4⟩ := recs_at h2
    refine ⟨by simp [k1], by simpa [gF] using k2, by simpa [mF] using k3, fun k o' r' hk => ?_⟩
    cases k with
    | zero =>
      simp only [List.zip_cons_cons, List.getElem?_cons_zero, Option.some.injEq, Prod.mk.injEq] at hk
      obtain ⟨rfl, rfl⟩ := hk
      rw [gF_none (fun j hj => by simp; omega), mF_none (fun j hj => by simp; omega)]
      exact h1
    | succ k =>
      simp only [List.zip_cons_cons, List.getElem?_cons_succ] at hk
      have := k4 k o' r' hk
      simp only [List.zip_cons_cons, gF, mF]
      rw [if_pos (by simp), if_pos (by simp)]
      rwa [show i + (k + 1) = i + 1 + k from by omega]
  | [], _, _, _, _, _, _ :: _, h => by simp [Recs] at h
  | _ :: _, _, _, _, _, _, [], h => by simp [Recs] at h

/-! The edges -/
inductive Anc (ops : Array Oper) : Nat → Nat → Prop where
  | edge {i j : Nat} {o : Oper} {e : Edge} : ops[j]? = some o → e ∈ o.after → Region.binds .any e = true → e.on = i → Anc ops i j
  | trans {i j : Nat} {o : Oper} {e : Edge} : ops[j]? = some o → e ∈ o.after → Region.binds .any e = true → Anc ops i e.on → Anc ops i j

def ancStep (acc : List Nat) (o : Oper) : Nat := o.after.toList.foldl (fun s e => if Region.binds .any e then s ||| 2 ^ e.on ||| acc.getD e.on 0 else s) 0

def ancAll : List Oper → List Nat → List Nat
  | [], acc => acc
  | o :: r, acc => ancAll r (acc ++ [ancStep acc o])

theorem ancStep_bit {acc : List Nat} {o : Oper} {i : Nat} (h : (ancStep acc o).testBit i = true) : ∃ e ∈ o.after, Region.binds .any e = true ∧ (e.on = i ∨ (acc.getD e.on 0).testBit i = true) := by
  have key : ∀ (l : List Edge) (s : Nat), (l.foldl (fun s e => if Region.binds .any e then s ||| 2 ^ e.on ||| acc.getD e.on 0 else s) s).testBit i = true → s.testBit i = true ∨ ∃ e ∈ l, Region.binds .any e = true ∧ (e.on = i ∨ (acc.getD e.on 0).testBit i = true) := by
    intro l
    induction l with
    | nil => intro s hs; exact .inl hs
    | cons e l ih =>
      intro s hs
      simp only [List.foldl_cons] at hs
      rcases ih _ hs with h1 | ⟨e', h1, h2⟩
      · split at h1
        · rename_i hb
          rw [Nat.testBit_or, Nat.testBit_or, Bool.or_eq_true, Bool.or_eq_true] at h1
          rcases h1 with (h1 | h1) | h1
          · exact .inl h1
          · rw [Nat.testBit_two_pow] at h1
            exact .inr ⟨e, by simp, hb, .inl (by simpa using h1)⟩
          · exact .inr ⟨e, by simp, hb, .inr h1⟩
        · exact .inl h1
      · exact .inr ⟨e', by simp [h1], h2⟩
  rcases key _ 0 h with h1 | ⟨e, h1, h2⟩
  · simp at h1
  · exact ⟨e, Array.mem_toList_iff.1 h1, h2⟩

theorem ancAll_spec {ops : Array Oper} : ∀ (l : List Oper) (acc : List Nat), (∀ j, l[j]? = ops[acc.length + j]?) → (∀ j i, (acc.getD j 0).testBit i = true → Anc ops i j) → ∀ j i, ((ancAll l acc).getD j 0).testBit i = true → Anc ops i j
  | [], acc, _, h, j, i, hb => h j i hb
  | o :: l, acc, hl, h, j, i, hb => by
    refine ancAll_spec l (acc ++ [ancStep acc o]) (fun j => ?_) (fun j i hb => ?_) j i hb
    · have := hl (j + 1)
      simp only [List.getElem?_cons_succ, List.length_append, List.length_singleton] at this ⊢
      rw [this]
      congr 1
      omega
    · by_cases h1 : j < acc.length
      · exact h j i (by rwa [List.getD_eq_getElem?_getD, List.getElem?_append_left h1, ← List.getD_eq_getElem?_getD] at hb)
      · by_cases h2 : j = acc.length
        · subst h2
          rw [List.getD_eq_getElem?_getD, List.getElem?_append_right (Nat.le_refl _)] at hb
          simp at hb
          obtain ⟨e, he, hb1, hb2⟩ := ancStep_bit hb
          have ho : ops[acc.length]? = some o := by have := hl 0; simpa using this.symm
          rcases hb2 with hb2 | hb2
          · exact .edge ho he hb1 hb2
          · exact .trans ho he hb1 (h _ _ hb2)
        · rw [List.getD_eq_getElem?_getD, List.getElem?_eq_none (by simp; omega)] at hb
          simp at hb

def conflict (X : AX) (ops : Array Oper) (x y : Oper) : Bool :=
  !(Oper.apart ops x y) || (opW X x.op && !opPure y.op) || (opW X y.op && !opPure x.op)

def ordB (X : AX) (ops : Array Oper) : Bool :=
  Region.noSelect ops &&
  ops.toList.zipIdx.all (fun p => p.1.after.all fun e => !Region.binds .any e || decide (e.on < p.2)) &&
  ops.toList.zipIdx.all (fun p => ops.toList.zipIdx.all fun q => !(decide (p.2 < q.2)) || !conflict X ops p.1 q.1 || ((ancAll ops.toList []).getD q.2 0).testBit p.2)

structure Ord (X : AX) (ops : Array Oper) : Prop where
  back : ∀ j o, ops[j]? = some o → ∀ e ∈ o.after, Region.binds .any e = true → e.on < j
  conf : ∀ i j x y, ops[i]? = some x → ops[j]? = some y → i < j → conflict X ops x y = true → Anc ops i j

theorem ord_of {X : AX} {ops : Array Oper} (h : ordB X ops = true) : Ord X ops := by
  simp only [ordB, Bool.and_eq_true] at h
  obtain ⟨⟨_, h1⟩, h2⟩ := h
  have hz : ∀ j o, ops[j]? = some o → (o, j) ∈ ops.toList.zipIdx := fun j o ho => by
    rw [List.mem_zipIdx_iff_getElem?]
    simpa using ho
  refine ⟨fun j o ho e he hb => ?_, fun i j x y hx hy hij hc => ?_⟩
  · have := List.all_eq_true.1 h1 _ (hz j o ho)
    simp only [Array.all_eq_true'] at this
    have := this e he
    simpa [hb] using this
  · have h3 := List.all_eq_true.1 (List.all_eq_true.1 h2 _ (hz i x hx)) _ (hz j y hy)
    simp only [hij, decide_true, Bool.not_true, hc, Bool.false_or] at h3
    exact ancAll_spec ops.toList [] (fun j => by simp) (fun j i hb => by simp at hb) j i h3
end Go.AM
