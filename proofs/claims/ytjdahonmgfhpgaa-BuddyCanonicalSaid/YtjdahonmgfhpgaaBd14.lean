/- The table of the functions that BuddyChecks reaches; what a call of each gives. -/
import Derived.Test.YtjdahonmgfhpgaaBd12
import Derived.Test.YtjdahonmgfhpgaaBd13
import Derived.Test.YtjdahonmgfhpgaaAmW
set_option linter.all false

namespace Go.AM
open Go Go.Proofs

noncomputable def F42 : List AV → Option AV := (specF (ι := {x : Zn × Int × Nat // rangesZ x.1 ∧ x.2.2 ≤ 5}) (fun x => [.agg x.1.1.cells, I x.1.2.1, I x.1.2.2]) fun x => retOf [B (insideZ x.1.1 x.1.2.1 x.1.2.2)])
noncomputable def F64 : List AV → Option AV := (specF (ι := Int) (fun x => [I x]) fun _ => retOf [B false])
noncomputable def F57 : List AV → Option AV := (specF (ι := Int) (fun x => [I x]) fun _ => retOf [B false])
noncomputable def F56 : List AV → Option AV := (specF (ι := Int × Int) (fun x => [I x.1, I x.2]) fun x => retOf [B (x.1 < x.2)])
noncomputable def F43 : List AV → Option AV := (specF (ι := {x : List Int × Int // Sorted x.1 ∧ x.1.length ≤ 1000000}) (fun x => [.rd 1 (irows x.1.1), I x.1.2]) fun x => retOf [I (below x.1.1 x.1.2), B (x.1.2 ∈ x.1.1)])
noncomputable def F41 : List AV → Option AV := (specF (ι := Zn) (fun z => [.agg z.cells]) fun z => retOf [B (rangesZ z)])
noncomputable def F44 : List AV → Option AV := (specF (ι := Zn) (fun z => [.agg z.cells]) fun z => retOf [B (rangesZ z)])
noncomputable def F47 : List AV → Option AV := (specF (ι := {x : Zn × Int × Int // rangesZ x.1}) (fun x => [.agg x.1.1.cells, I x.1.2.1, I x.1.2.2]) fun x => retOf [B (0 ≤ x.1.2.2 ∧ x.1.2.2 ≤ 4 ∧ insideZ x.1.1 x.1.2.1 x.1.2.2.toNat)])
noncomputable def F45 : List AV → Option AV := (specF (ι := {z : Zn // rangesZ z ∧ ∀ k, k ≤ 4 → (z.fr k).length ≤ 1000}) (fun z => [.agg z.1.cells]) fun z => retOf [I (formErr z.1)])
noncomputable def F46 : List AV → Option AV := (specF (ι := {z : Zn // rangesZ z ∧ orderOK z ∧ ∀ k, k ≤ 4 → (z.fr k).length ≤ 1000}) (fun z => [.agg z.1.cells]) fun z => retOf [.ow 1 (irows (cnts (coverL z.1 5)))])
noncomputable def F15 : List AV → Option AV := (specF (ι := Zn) (fun z => [.agg z.cells]) fun z => retOf [B (fewZ z)])
noncomputable def F16 : List AV → Option AV := (specF (ι := {z : Zn // small z}) (fun z => [.agg z.1.cells]) fun z => retOf [I (checkZ z.1)])
noncomputable def F17 : List AV → Option AV := (specF (ι := {z : Zn // small z}) (fun z => [.agg z.1.cells]) fun z => retOf [I (checkZ z.1)])

@[simp] theorem Zn.peek {z : Zn} {M : Nat → AO} : peekLeaves M z.cells = some z.cells := rfl
theorem agg_inj {z y : Zn} : AV.agg z.cells = AV.agg y.cells ↔ z = y := by rw [AV.agg.injEq, Zn.cells_inj]

theorem cf64 (x : Int) (M : Nat → AO) (n : Nat) : callP F64 [I x] M n = some (B false, []) := callP_spec (A := fun x => [I x]) (R := fun _ => retOf [B false]) x rfl (fun _ _ => rfl) (by simp)
theorem cf57 (x : Int) (M : Nat → AO) (n : Nat) : callP F57 [I x] M n = some (B false, []) := callP_spec (A := fun x => [I x]) (R := fun _ => retOf [B false]) x rfl (fun _ _ => rfl) (by simp)
theorem cf56 (x y : Int) (M : Nat → AO) (n : Nat) : callP F56 [I x, I y] M n = some (B (x < y), []) := callP_spec (A := fun x : Int × Int => [I x.1, I x.2]) (R := fun x => retOf [B (x.1 < x.2)]) (x, y) rfl (by
  rintro ⟨a, b⟩ e
  simp at e
  obtain ⟨rfl, rfl⟩ := e; rfl) (by simp)
theorem cf43 (l : List Int) (x : Int) (M : Nat → AO) (n : Nat) (h : Sorted l) (h2 : l.length ≤ 1000000) : callP F43 [.rd 1 (irows l), I x] M n = some (.tup [I (below l x), B (x ∈ l)], []) :=
  callP_spec (ι := {x : List Int × Int // Sorted x.1 ∧ x.1.length ≤ 1000000}) (A := fun x => [.rd 1 (irows x.1.1), I x.1.2]) (R := fun x => retOf [I (below x.1.1 x.1.2), B (x.1.2 ∈ x.1.1)]) ⟨(l, x), h, h2⟩ rfl (by
    rintro ⟨⟨a, b⟩, h⟩ e
    simp [irows_inj] at e
    obtain ⟨rfl, rfl⟩ := e; rfl) (by simp)
theorem cf41 (z : Zn) (M : Nat → AO) (n : Nat) : callP F41 [.agg z.cells] M n = some (B (rangesZ z), []) := callP_spec (A := fun z : Zn => [.agg z.cells]) (R := fun z => retOf [B (rangesZ z)]) z (by simp) (by
  intro y e
  simp [Zn.cells_inj] at e
  subst e; rfl) (by simp)
theorem cf44 (z : Zn) (M : Nat → AO) (n : Nat) : callP F44 [.agg z.cells] M n = some (B (rangesZ z), []) := cf41 z M n
theorem cf15 (z : Zn) (M : Nat → AO) (n : Nat) : callP F15 [.agg z.cells] M n = some (B (fewZ z), []) := callP_spec (A := fun z : Zn => [.agg z.cells]) (R := fun z => retOf [B (fewZ z)]) z (by simp) (by
  intro y e
  simp [Zn.cells_inj] at e
  subst e; rfl) (by simp)
theorem cf42 (z : Zn) (f : Int) (k : Nat) (M : Nat → AO) (n : Nat) (h : rangesZ z) (hk : k ≤ 5) : callP F42 [.agg z.cells, I f, I (k : Int)] M n = some (B (insideZ z f k), []) :=
  callP_spec (ι := {x : Zn × Int × Nat // rangesZ x.1 ∧ x.2.2 ≤ 5}) (A := fun x => [.agg x.1.1.cells, I x.1.2.1, I x.1.2.2]) (R := fun x => retOf [B (insideZ x.1.1 x.1.2.1 x.1.2.2)]) ⟨(z, f, k), h, hk⟩ (by simp) (by
    rintro ⟨⟨a, b, c⟩, h⟩ e
    simp [Zn.cells_inj, Int.ofNat_inj] at e
    obtain ⟨rfl, rfl, rfl⟩ := e; rfl) (by simp)
theorem cf47 (z : Zn) (f o : Int) (M : Nat → AO) (n : Nat) (h : rangesZ z) : callP F47 [.agg z.cells, I f, I o] M n = some (B (0 ≤ o ∧ o ≤ 4 ∧ insideZ z f o.toNat), []) :=
  callP_spec (ι := {x : Zn × Int × Int // rangesZ x.1}) (A := fun x => [.agg x.1.1.cells, I x.1.2.1, I x.1.2.2]) (R := fun x => retOf [B (0 ≤ x.1.2.2 ∧ x.1.2.2 ≤ 4 ∧ insideZ x.1.1 x.1.2.1 x.1.2.2.toNat)]) ⟨(z, f, o), h⟩ (by simp) (by
    rintro ⟨⟨a, b, c⟩, h⟩ e
    simp [Zn.cells_inj] at e
    obtain ⟨rfl, rfl, rfl⟩ := e; rfl) (by simp)
theorem cf45 (z : Zn) (M : Nat → AO) (n : Nat) (h : rangesZ z) (h2 : small z) : callP F45 [.agg z.cells] M n = some (I (formErr z), []) :=
  callP_spec (ι := {z : Zn // rangesZ z ∧ ∀ k, k ≤ 4 → (z.fr k).length ≤ 1000}) (A := fun z => [.agg z.1.cells]) (R := fun z => retOf [I (formErr z.1)]) ⟨z, h, h2⟩ (by simp) (by
    rintro ⟨y, h⟩ e
    simp [Zn.cells_inj] at e
    subst e; rfl) (by simp)
theorem cf46 (z : Zn) (M : Nat → AO) (n : Nat) (h : rangesZ z) (h3 : formErr z = 0) (h2 : small z) : callP F46 [.agg z.cells] M n = some (.sl n 1 1 0 256, [(n, .vec 1 1 false (irows (cnts (coverL z 5))))]) := by
  have := callP_spec (ι := {z : Zn // rangesZ z ∧ orderOK z ∧ ∀ k, k ≤ 4 → (z.fr k).length ≤ 1000}) (A := fun z => [.agg z.1.cells]) (R := fun z => retOf [.ow 1 (irows (cnts (coverL z.1 5)))]) (avs := [.agg z.cells]) (M := M) (n := n) ⟨z, h, orderOK_iff.2 h3, h2⟩ (by simp) (by
    rintro ⟨y, h⟩ e
    simp [Zn.cells_inj] at e
    subst e; rfl) (by simp)
  exact this.trans (by simp)
theorem cf16 (z : Zn) (M : Nat → AO) (n : Nat) (h : small z) : callP F16 [.agg z.cells] M n = some (I (checkZ z), []) :=
  callP_spec (ι := {z : Zn // small z}) (A := fun z => [.agg z.1.cells]) (R := fun z => retOf [I (checkZ z.1)]) ⟨z, h⟩ (by simp) (by
    rintro ⟨y, h⟩ e
    simp [Zn.cells_inj] at e
    subst e; rfl) (by simp)
theorem cf17 (z : Zn) (M : Nat → AO) (n : Nat) (h : small z) : callP F17 [.agg z.cells] M n = some (I (checkZ z), []) := cf16 z M n h

noncomputable def T42 : AX := (AX.start wT).add 42 (callP F42)
theorem t42 : XOK Try.prog T42 := xok_spec (xok_start Try.prog wT) (s42 (AX.start wT) (xok_start Try.prog wT) ) (fun _ => by simp [AV.flat, AV.flatV, AV.flat1]) Try.func42 (by kernel_rfl)
noncomputable def T64 : AX := (T42).add 64 (callP F64)
theorem t64 : XOK Try.prog T64 := xok_spec t42 (s64 T42 t42 ) (fun _ => by simp [AV.flat, AV.flatV, AV.flat1]) Try.func64 (by kernel_rfl)
noncomputable def T57 : AX := (T64).add 57 (callP F57)
theorem t57 : XOK Try.prog T57 := xok_spec t64 (s57 T64 t64 ) (fun _ => by simp [AV.flat, AV.flatV, AV.flat1]) Try.func57 (by kernel_rfl)
noncomputable def T56 : AX := (T57).add 56 (callP F56)
theorem t56 : XOK Try.prog T56 := xok_spec t57 (s56 T57 t57 cf64) (fun _ => by simp [AV.flat, AV.flatV, AV.flat1]) Try.func56 (by kernel_rfl)
noncomputable def T43 : AX := (T56).add 43 (callP F43)
theorem t43 : XOK Try.prog T43 := xok_spec t56 (s43 T56 t56 cf56 cf57) (fun _ => by simp [AV.flat, AV.flatV, AV.flat1]) Try.func43 (by kernel_rfl)
noncomputable def T41 : AX := (T43).add 41 (callP F41)
theorem t41 : XOK Try.prog T41 := xok_spec t43 (s41 T43 t43 ) (fun _ => by simp [AV.flat, AV.flatV, AV.flat1]) Try.func41 (by kernel_rfl)
noncomputable def T44 : AX := (T41).add 44 (callP F44)
theorem t44 : XOK Try.prog T44 := xok_spec t41 (s44 T41 t41 ) (fun _ => by simp [AV.flat, AV.flatV, AV.flat1]) Try.func44 (by kernel_rfl)
noncomputable def T47 : AX := (T44).add 47 (callP F47)
theorem t47 : XOK Try.prog T47 := xok_spec t44 (s47 T44 t44 ) (fun _ => by simp [AV.flat, AV.flatV, AV.flat1]) Try.func47 (by kernel_rfl)
noncomputable def T45 : AX := (T47).add 45 (callP F45)
theorem t45 : XOK Try.prog T45 := xok_spec t47 (s45 T47 t47 (AX.W.start _) cf47) (fun _ => by simp [AV.flat, AV.flatV, AV.flat1]) Try.func45 (by kernel_rfl)
noncomputable def T46 : AX := (T45).add 46 (callP F46)
theorem t46 : XOK Try.prog T46 := xok_spec t45 (s46 T45 t45 ) (fun _ => flat_rows) Try.func46 (by kernel_rfl)
noncomputable def T15 : AX := (T46).add 15 (callP F15)
theorem t15 : XOK Try.prog T15 := xok_spec t46 (s15 T46 t46 ) (fun _ => by simp [AV.flat, AV.flatV, AV.flat1]) Try.func15 (by kernel_rfl)
noncomputable def T16 : AX := (T15).add 16 (callP F16)
theorem t16 : XOK Try.prog T16 := xok_spec t15 (s16 T15 t15 (AX.W.start _) cf41 cf42 cf43) (fun _ => by simp [AV.flat, AV.flatV, AV.flat1]) Try.func16 (by kernel_rfl)
noncomputable def T17 : AX := (T16).add 17 (callP F17)
theorem t17 : XOK Try.prog T17 := xok_spec t16 (s17 T16 t16 (AX.W.start _) cf44 cf45 cf46 cf47) (fun _ => by simp [AV.flat, AV.flatV, AV.flat1]) Try.func17 (by kernel_rfl)
end Go.AM