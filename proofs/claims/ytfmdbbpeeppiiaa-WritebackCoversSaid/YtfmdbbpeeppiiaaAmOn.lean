/- A slice that is grown by append: all cells of its block are single cells. -/
import Derived.RangeFuncBox
import Derived.OwnWalkIn
import Derived.Shelf.Abstract
import Derived.WalkKit
set_option linter.all false

namespace Go.Proofs
open Go Go.RowKit Go.Shelf

def OneB (w : World) (v : Value) : Prop := ∀ g cur e fr, v.ownBlock = some g → w.heap[g]? = some (.cells cur e fr) → ∀ y ∈ cur.toList, y.oneCell' = true
theorem OneB.nil (w : World) : OneB w (.slice none 0 0) := fun g _ _ _ h => by simp [Value.ownBlock] at h
theorem OneB.kept {w w' : World} {v : Value} (h : OneB w v) (hk : ∀ g, v.ownBlock = some g → w'.heap[g]? = w.heap[g]?) : OneB w' v := fun g cur e fr hg hc => h g cur e fr hg (by rw [← hk g hg]; exact hc)
theorem OneB.alloc {w : World} {base : Nat} {e : TypeId} {size : Nat} {v : Value} {n : Nat} {xs : List Value} (h : OneB w v) (hown : w.ownsRow base e size v n xs) (o : Obj) : OneB (w.alloc o) v :=
  h.kept fun g hg => heap_alloc_old w o g (hown.lt g hg).2

theorem zeroCells_one {z : Array Value} {n : Nat} (hz : ∀ y ∈ z.toList, y.oneCell' = true) : ∀ y ∈ (Builtin.zeroCells z n).toList, y.oneCell' = true := fun y hy => by
  simp only [Builtin.zeroCells, Array.toList_map, List.mem_map] at hy
  obtain ⟨i, hi, rfl⟩ := hy
  by_cases h0 : z.size = 0
  · exfalso
    rw [h0] at hi
    simp at hi
  · have : i % z.size < z.size := Nat.mod_lt _ (by omega)
    rw [getElem!_pos z _ this]
    exact hz _ (by simp)

theorem append_one {P : Program} (w : World) (base : Nat) (t ty e : TypeId) (i : TypeInfo) (z : Value) (size bytes : Nat) (ht : P.underlying t = some (.slice e)) (hi : P.info? e = some i) (hz : i.zero = some z)
    (hsize : i.size = size) (hby : i.bytes = bytes) (hzs : z.cells.size = size)
    (v : Value) (n : Nat) (xs : List Value) (hown : w.ownsRow base e size v n xs)
    (a : Addr) (m c : Nat) (news : List Value) (hl : news.length = m * size) (hnews : ∀ j u, news[j]? = some u → w.cell? (a.add j) = some u) (h1 : ∀ u ∈ news, u.oneCell' = true)
    (h63 : n + m ≤ maxLen) (hbytes : (n + m) * bytes ≤ 140737488355328) (hz1 : ∀ y ∈ z.cells.toList, y.oneCell' = true) (hone : OneB w v)
    {v' : Value} {w' : World} (hr : (Builtin.append_ #[t, t] ty #[v, .slice (some a) m c]).run P w = .ok v' w') : OneB w' v' := by
  subst hsize
  subst hby
  have hsmall : n + m ≤ 9223372036854775807 := by simp only [maxLen] at h63; omega
  rcases hown.2 with ⟨rfl, rfl⟩ | ⟨g, cap, cur, rfl, hbg, hg, hnc, hcm, hcs, htake⟩
  · by_cases hm : m = 0
    · subst hm
      have hn : news = [] := List.eq_nil_of_length_eq_zero (by simpa using hl)
      subst hn
      simp [Builtin.append_, run_underlying ht, sizeOf, typeInfo, hi, Builtin.lenOf, Builtin.firstCells, loadCells, loadCellsFrom] at hr
      obtain ⟨rfl, rfl⟩ := hr
      exact OneB.nil _
    · have hr2 := run_append_nil (P := P) w t ty e i z ht hi hz a m c news hl hnews (by omega) (by omega) (by have hb := hbytes; simp only [Nat.zero_add] at hb; omega)
      rw [hr2] at hr
      injection hr with e1 e2
      subst e1 e2
      intro g cur' e' fr hg hc
      simp only [Value.ownBlock, Option.some.injEq] at hg
      subst hg
      rw [show w.heap.size = w.drew.heap.size from rfl, heap_alloc_new] at hc
      simp only [Option.some.injEq, Obj.cells.injEq] at hc
      obtain ⟨rfl, _⟩ := hc
      intro y hy
      simp only [Array.toList_append, List.mem_append] at hy
      rcases hy with hy | hy
      · exact h1 y (by simpa using hy)
      · exact zeroCells_one hz1 y hy
  · have h0 := hone g cur e (0, 0) rfl hg
    have hx1 : ∀ u ∈ xs, u.oneCell' = true := fun u hu => h0 u (by rw [← htake] at hu; exact List.mem_of_mem_take hu)
    by_cases hroom : n + m ≤ cap
    · have hfit : n * i.size + news.length ≤ cur.size := by rw [hl, hcs, ← Nat.add_mul]; exact Nat.mul_le_mul_right _ hroom
      have hr2 := run_append_room (P := P) w t ty e i ht hi g n cap cur hg a m c news hl hnews h1 hroom hfit
      rw [hr2] at hr
      injection hr with e1 e2
      subst e1 e2
      intro g' cur' e' fr hg' hc
      simp only [Value.ownBlock, Option.some.injEq] at hg'
      subst hg'
      rw [setRow_heap w g cur _ e _ hg] at hc
      simp only [Option.some.injEq, Obj.cells.injEq] at hc
      obtain ⟨rfl, _⟩ := hc
      intro y hy
      simp only [List.mem_append] at hy
      rcases hy with (hy | hy) | hy
      · exact h0 y (List.mem_of_mem_take hy)
      · exact h1 y hy
      · exact h0 y (List.mem_of_mem_drop hy)
    · have holds : ∀ j u, xs[j]? = some u → w.cell? ((⟨g, 0, none⟩ : Addr).add j) = some u := hown.cells (g := g) rfl
      have hr2 := run_append_grow (P := P) w t ty e i z ht hi hz ⟨g, 0, none⟩ n cap xs hown.1 holds a m c news hl hnews (by omega) (by omega) (growslice_fits (by omega) hbytes)
      rw [hr2] at hr
      injection hr with e1 e2
      subst e1 e2
      intro g' cur' e' fr hg' hc
      simp only [Value.ownBlock, Option.some.injEq] at hg'
      subst hg'
      rw [show w.heap.size = w.drew.heap.size from rfl, heap_alloc_new] at hc
      simp only [Option.some.injEq, Obj.cells.injEq] at hc
      obtain ⟨rfl, _⟩ := hc
      intro y hy
      simp only [Array.toList_append, List.mem_append] at hy
      rcases hy with (hy | hy) | hy
      · exact hx1 y (by simpa using hy)
      · exact h1 y (by simpa using hy)
      · exact zeroCells_one hz1 y hy

theorem wpListIn_append_one {F : Fence} {n : Nat} {P : Program} (w : World) {ops : Array Oper} {rest : List Oper} {o : Oper} {a : Act} {Q : Exit → Act → World → Prop}
    (hg : o.guard = none) (s x : Operand) (t : TypeId) (hop : o.op = Op.call { callee := Callee.builtin Builtin.append, args := #[s, x], argTypes := #[t, t] })
    (base : Nat) (e : TypeId) (i : TypeInfo) (z : Value) (size bytes : Nat) (h1 : P.underlying t = some (.slice e)) (h2 : P.info? e = some i) (h3 : i.zero = some z) (h4 : i.size = size) (h5 : i.bytes = bytes) (h6 : z.cells.size = size) (h7 : 0 < size)
    (v : Value) (k : Nat) (xs : List Value) (hs : a.eval s = v) (hown : w.ownsRow base e size v k xs) (ad : Addr) (m c : Nat) (news : List Value) (hx : a.eval x = .slice (some ad) m c) (hn : news.length = m * size)
    (hc : ∀ j u, news[j]? = some u → w.cell? (ad.add j) = some u) (h1c : ∀ u ∈ news, u.oneCell' = true) (b1 : k + m ≤ maxLen) (b2 : (k + m) * bytes ≤ 140737488355328) (b3 : base ≤ w.heap.size) (hz1 : ∀ y ∈ z.cells.toList, y.oneCell' = true) (hone : OneB w v)
    (hK : ∀ v' w', w'.ownsRow base e size v' (k + m) (xs ++ news) → w.grownBy w' v.ownBlock → (v' = .slice none 0 0 ↔ v = .slice none 0 0 ∧ m = 0) → OneB w' v' → wpListIn F n P ops Q rest (a.put o.dst v') w') :
    wpListIn F n P ops Q (o :: rest) a w := by
  refine wpListIn_plain hg fun K hK' => ?_
  obtain ⟨v', w', hrun, r1, r2, r3⟩ := run_append_own (P := P) w base t o.type e i z size bytes h1 h2 h3 h4 h5 h6 h7 v k xs hown ad m c news hn hc h1c b1 b2 b3
  have r4 := append_one (P := P) w base t o.type e i z size bytes h1 h2 h3 h4 h5 h6 v k xs hown ad m c news hn hc h1c b1 b2 hz1 hone hrun
  unfold Oper.wpIn
  refine ⟨?_, ?_⟩
  · simp [Oper.about, hop, resolve, Target.leads, Sem.run_pure]
  · rw [Oper.semAt_plain F _ _ (by rw [hop]; intro c hc'; cases hc')]
    simp [execOp, hop, resolve, invoke, builtin, hs, hx, hrun, Result.andThen]
    exact hK' _ _ (hK v' w' r1 r2 r3 r4)

theorem holdsRowOne_own {β : Type} (n₀ B : Nat) (t e : TypeId) (size : Nat) (k : β → Nat) (f : β → List Value) (G : β → Value → Prop) : Own (fun s W => ∃ v, Boxed W B t v ∧ W.ownsRow n₀ e size v (k s) (f s) ∧ OneB W v ∧ G s v) := by
  rintro s X Y row ⟨v, hv, hr, h1, hG⟩ hg hrow
  refine ⟨v, hv.kept hg (fun e' => ?_), hr.kept hg ?_, h1.kept fun g hgv => hg.block g (hr.lt g hgv).2 fun e' => ?_, hG⟩
  · obtain ⟨o, ho, hc⟩ := hrow B e'.symm
    rw [show X.heap[B]? = _ from hv] at ho; cases ho; cases hc
  · rcases hr.2 with ⟨rfl, _⟩ | ⟨g, cap, cur, rfl, _, hgb, _⟩
    · exact .inl rfl
    · refine .inr fun e' => ?_
      obtain ⟨o, ho, hc⟩ := hrow g (by simpa [Value.ownBlock] using e'.symm)
      rw [hgb] at ho; cases ho; cases hc
  · rcases hr.2 with ⟨rfl, _⟩ | ⟨g', cap, cur, rfl, _, hgb, _⟩
    · simp [Value.ownBlock] at hgv
    · obtain ⟨o, ho, hc⟩ := hrow g e'.symm
      simp only [Value.ownBlock, Option.some.injEq] at hgv
      subst hgv
      rw [hgb] at ho; cases ho; cases hc
theorem OneB.set {w : World} {v v' : Value} {B : Nat} (h : OneB w v) (hne : v.ownBlock ≠ some B) : OneB (w.setCell ⟨B, 0, none⟩ v') v :=
  h.kept fun g hg => Below.heap_setCell _ _ _ g (fun e => hne (by rw [hg, e]))
theorem oneB_putObj {W : World} {base : Nat} {e : TypeId} {size : Nat} {v : Value} {k : Nat} {xs : List Value} (h1 : OneB W v) (h : W.ownsRow base e size v k xs) {l : Nat} {o : Obj} (o' : Obj) (hl : W.heap[l]? = some o) (ho : o.isCells = false) : OneB (W.putObj l o') v :=
  h1.kept fun g hg => (grownBy_putObj' W l o').block g (h.lt g hg).2 fun e' => by
    rcases h.2 with ⟨rfl, _⟩ | ⟨g', cap, cur, rfl, _, hgb, _⟩
    · simp [Value.ownBlock] at hg
    · simp only [Value.ownBlock, Option.some.injEq] at hg e'
      subst hg e'
      rw [hgb] at hl; cases hl; cases ho
end Go.Proofs
