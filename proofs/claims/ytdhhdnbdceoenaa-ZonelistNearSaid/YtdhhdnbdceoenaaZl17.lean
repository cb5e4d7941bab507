/- Zonelist: the table of the functions, and what a call of each gives. -/
import Derived.Test.YtdhhdnbdceoenaaZl16
set_option linter.all false

namespace Go.AM
open Go Go.Proofs

theorem cfZ (R : List Zo → AV) (xs : List Zx) (M : Nat → AO) (n : Nat) (ho : (openRet n (R (zos xs))).2.2 ≤ n + 16) :
    callP (specF (ι := List Zx) (fun x => [.rd 10 (zrows x)]) fun x => R (zos x)) [.rd 10 (zrows xs)] M n = some ((openRet n (R (zos xs))).1, (openRet n (R (zos xs))).2.1) :=
  callP_spec (A := fun x : List Zx => [.rd 10 (zrows x)]) (R := fun x => R (zos x)) xs rfl (by
    intro j e
    simp at e
    simp only [zrows_inj e]) ho
theorem cfZI (R : List Zo → Int → AV) (xs : List Zx) (a : Int) (M : Nat → AO) (n : Nat) (ho : (openRet n (R (zos xs) a)).2.2 ≤ n + 16) :
    callP (specF (ι := List Zx × Int) (fun x => [.rd 10 (zrows x.1), I x.2]) fun x => R (zos x.1) x.2) [.rd 10 (zrows xs), I a] M n = some ((openRet n (R (zos xs) a)).1, (openRet n (R (zos xs) a)).2.1) :=
  callP_spec (A := fun x : List Zx × Int => [.rd 10 (zrows x.1), I x.2]) (R := fun x => R (zos x.1) x.2) (xs, a) rfl (by
    rintro ⟨j, b⟩ e
    simp at e
    simp only [zrows_inj e.1, e.2]) ho
theorem cfZIB (R : List Zo → Int → Bool → AV) (xs : List Zx) (a : Int) (b : Bool) (M : Nat → AO) (n : Nat) (ho : (openRet n (R (zos xs) a b)).2.2 ≤ n + 16) :
    callP (specF (ι := List Zx × Int × Bool) (fun x => [.rd 10 (zrows x.1), I x.2.1, B x.2.2]) fun x => R (zos x.1) x.2.1 x.2.2) [.rd 10 (zrows xs), I a, B b] M n = some ((openRet n (R (zos xs) a b)).1, (openRet n (R (zos xs) a b)).2.1) :=
  callP_spec (A := fun x : List Zx × Int × Bool => [.rd 10 (zrows x.1), I x.2.1, B x.2.2]) (R := fun x => R (zos x.1) x.2.1 x.2.2) (xs, a, b) rfl (by
    rintro ⟨j, c, d⟩ e
    simp at e
    simp only [zrows_inj e.1, e.2]) ho
theorem cfPk (xs : List Zx) (p : Po) (a : Int) (b : Bool) (M : Nat → AO) (n : Nat) :
    callP (specF (ι := PkA) (fun x => [.rd 10 (zrows x.xs), .agg [I x.p.kind, I x.p.nodes, I x.p.turn], I x.n, B x.k]) fun x => retOf [.ow 1 (irows x.R.1), I x.R.2]) [.rd 10 (zrows xs), .agg [I p.kind, I p.nodes, I p.turn], I a, B b] M n =
      some (.tup [.sl n 1 1 0 (pickR (zos xs) p a b).1.length, I (pickR (zos xs) p a b).2], [(n, .vec 1 1 false (irows (pickR (zos xs) p a b).1))]) := by
  have h := callP_spec (A := fun x : PkA => [.rd 10 (zrows x.xs), .agg [I x.p.kind, I x.p.nodes, I x.p.turn], I x.n, B x.k]) (R := fun x => retOf [.ow 1 (irows x.R.1), I x.R.2]) (avs := [.rd 10 (zrows xs), .agg [I p.kind, I p.nodes, I p.turn], I a, B b]) (M := M) (n := n) ⟨xs, p, a, b⟩ (by simp) (by
    rintro ⟨ys, ⟨k, m, t⟩, c, d⟩ e
    obtain ⟨k', m', t'⟩ := p
    simp at e
    obtain ⟨e1, ⟨rfl, rfl, rfl⟩, rfl, rfl⟩ := e
    simp only [PkA.R, zrows_inj e1]) (by simp)
  exact h.trans (by simp [PkA.R])
noncomputable def F43 : List AV → Option AV := (specF (ι := Int) (fun x => [I x]) fun _ => retOf [B false])
noncomputable def F28 : List AV → Option AV := (specF (ι := Int × Int) (fun x => [I x.1, I x.2]) fun x => retOf [I (cmpI x.1 x.2)])
noncomputable def F29 : List AV → Option AV := (specF (ι := {x : Int × Int // sm x.1 ∧ sm x.2}) (fun x => [I x.1.1, I x.1.2]) fun x => retOf [I (keyN x.1.1 x.1.2)])
noncomputable def F31 : List AV → Option AV := (specF (ι := {x : Int × Nat × List Zx // sm x.1 ∧ x.2.1 < x.2.2.length ∧ sm (zg (zos x.2.2) x.2.1).node}) (fun x => [I x.1.2.1, .rp [I x.1.1], .rp [.rd 10 (zrows x.1.2.2)]]) fun x => retOf [I (rankZ (zos x.1.2.2) x.1.1 x.1.2.1)])
noncomputable def F27 : List AV → Option AV := (specF (ι := {x : Int × Int × Int // sm x.1 ∧ sm x.2.1 ∧ sm x.2.2}) (fun x => [I x.1.1, I x.1.2.1, .rp [I x.1.2.2]]) fun x => retOf [I (cmpI (keyN x.1.2.2 x.1.1) (keyN x.1.2.2 x.1.2.1))])
noncomputable def F36 : List AV → Option AV := (specF (ι := {x : (Int × Nat × Int) × Nat × Nat × List Zx // x.1.2.1 < 16 ∧ x.2.2.1 < 4 ∧ x.2.1 < x.2.2.2.length ∧ (zg (zos x.2.2.2) x.2.1).node = (x.2.2.1 : Nat)}) (fun x => [I x.1.2.1, .rp [I x.1.1.1, I x.1.1.2.1, I x.1.1.2.2], .rp [.rd 10 (zrows x.1.2.2.2)]]) fun x => retOf [B (!inM x.1.1.2.1 x.1.2.2.1)])
noncomputable def F33 : List AV → Option AV := (specF (ι := {x : Int × (Nat × Nat) × List Zx // sm x.1 ∧ (x.2.1.1 < x.2.2.length ∧ sm (zg (zos x.2.2) x.2.1.1).node) ∧ (x.2.1.2 < x.2.2.length ∧ sm (zg (zos x.2.2) x.2.1.2).node)}) (fun x => [I x.1.2.1.1, I x.1.2.1.2, .rp [.fn 31 [.rp [I x.1.1], .rp [.rd 10 (zrows x.1.2.2)]]]]) fun x => retOf [I (cmpI (rankZ (zos x.1.2.2) x.1.1 x.1.2.1.1) (rankZ (zos x.1.2.2) x.1.1 x.1.2.1.2))])
noncomputable def F55 : List AV → Option AV := (specF (ι := {n : Nat // n ≤ 12}) (fun n => [.v (.int .u64 n.1)]) fun n => retOf [I (lenT n.1)])
noncomputable def F42 : List AV → Option AV := (specF (ι := {n : Nat // n ≤ 12}) (fun n => [.v (.int .u64 n.1)]) fun _ => retOf [.any])
noncomputable def F40 : List AV → Option AV := (specF (ι := {x : List Int × Int // x.1.length ≤ 1000}) (fun x => [.rd 1 (irows x.1.1), I x.1.2]) fun x => retOf [I (idxI x.1.1 x.1.2)])
noncomputable def F13 : List AV → Option AV := (specF (ι := List Zx) (fun x => [.rd 10 (zrows x)]) fun x => retOf [I (chkZ (zos x))])
noncomputable def F14 : List AV → Option AV := (specF (ι := List Zx) (fun x => [.rd 10 (zrows x)]) fun x => retOf [I (chkZ (zos x))])
noncomputable def F24 : List AV → Option AV := (specF (ι := List Zx × Int) (fun x => [.rd 10 (zrows x.1), I x.2]) fun x => retOf [I (errN (zos x.1) x.2)])
noncomputable def F30 : List AV → Option AV := (specF (ι := {x : List Zx × Int // x.1.length ≤ 6}) (fun x => [.rd 10 (zrows x.1.1), I x.1.2]) fun x => retOf [B (hasN (zos x.1.1) x.1.2)])
noncomputable def F34 : List AV → Option AV := (specF (ι := {n : Nat // n < 15}) (fun n => [I (n.1 + 1 : Nat)]) fun n => retOf [.ow 1 (irows (maskL (n.1 + 1 : Nat)))])
noncomputable def F39 : List AV → Option AV := (specF (ι := {x : Nat × Nat // x.1 < 16 ∧ x.2 < 4}) (fun x => [I x.1.1, I x.1.2]) fun x => retOf [B (inM x.1.1 x.1.2)])
noncomputable def F37 : List AV → Option AV := (specF (ι := Po) (fun p => [.agg [I p.kind, I p.nodes, I p.turn]]) fun p => retOf [I (polE p)])
noncomputable def F38 : List AV → Option AV := (specF (ι := {x : Po × Int // polE x.1 = 0}) (fun x => [.agg [I x.1.1.kind, I x.1.1.nodes, I x.1.1.turn], I x.1.2]) fun x => retOf [I (firstN x.1.1 x.1.2)])
noncomputable def F15 : List AV → Option AV := (specF (ι := List Zx × Int) (fun x => [.rd 10 (zrows x.1), I x.2]) fun x => retOf [.ow 1 (irows (nodesR (zos x.1) x.2).1), I (nodesR (zos x.1) x.2).2])
noncomputable def F16 : List AV → Option AV := (specF (ι := List Zx × Int) (fun x => [.rd 10 (zrows x.1), I x.2]) fun x => retOf [.ow 1 (irows (nodesR (zos x.1) x.2).1), I (nodesR (zos x.1) x.2).2])
noncomputable def F17 : List AV → Option AV := (specF (ι := List Zx × Int × Bool) (fun x => [.rd 10 (zrows x.1), I x.2.1, B x.2.2]) fun x => retOf [.ow 1 (irows (orderR (zos x.1) x.2.1 x.2.2).1), I (orderR (zos x.1) x.2.1 x.2.2).2])
noncomputable def F18 : List AV → Option AV := (specF (ι := List Zx × Int × Bool) (fun x => [.rd 10 (zrows x.1), I x.2.1, B x.2.2]) fun x => retOf [.ow 1 (irows (orderR (zos x.1) x.2.1 x.2.2).1), I (orderR (zos x.1) x.2.1 x.2.2).2])
noncomputable def F20 : List AV → Option AV := (specF (ι := PkA) (fun x => [.rd 10 (zrows x.xs), .agg [I x.p.kind, I x.p.nodes, I x.p.turn], I x.n, B x.k]) fun x => retOf [.ow 1 (irows x.R.1), I x.R.2])
noncomputable def F21 : List AV → Option AV := (specF (ι := PkA) (fun x => [.rd 10 (zrows x.xs), .agg [I x.p.kind, I x.p.nodes, I x.p.turn], I x.n, B x.k]) fun x => retOf [.ow 1 (irows x.R.1), I x.R.2])
noncomputable def F19 : List AV → Option AV := (specF (ι := {x : List Int × List Int // x.1.length ≤ 1000000 ∧ x.2.length ≤ 1000000}) (fun x => [.rd 1 (irows x.1.1), .rd 1 (irows x.1.2)]) fun x => retOf [B (x.1.1 = x.1.2)])
noncomputable def F11 : List AV → Option AV := (specF (ι := List Zx × Int) (fun x => [.rd 10 (zrows x.1), I x.2]) fun x => retOf [B ((x.1.length : Int) ≤ x.2)])
noncomputable def F22 : List AV → Option AV := (specF (ι := List Zx × Int) (fun x => [.rd 10 (zrows x.1), I x.2]) fun x => retOf [B (okZs (zos x.1) ∧ 0 ≤ x.2 ∧ x.2 < 4)])
noncomputable def F23 : List AV → Option AV := (specF (ι := {x : Int × Int // sm x.1 ∧ sm x.2}) (fun x => [I x.1.1, I x.1.2]) fun x => retOf [I (far x.1.1 x.1.2)])

theorem cf43 (x : Int) (M : Nat → AO) (n : Nat) : callP F43 [I x] M n = some (B false, []) := callP_spec (A := fun x => [I x]) (R := fun _ => retOf [B false]) x rfl (fun _ _ => rfl) (by simp)
theorem cf28 (x y : Int) (M : Nat → AO) (n : Nat) : callP F28 [I x, I y] M n = some (I (cmpI x y), []) :=
  callP_spec (A := fun x : Int × Int => [I x.1, I x.2]) (R := fun x => retOf [I (cmpI x.1 x.2)]) (x, y) rfl (by
    rintro ⟨a, b⟩ e
    simp at e
    obtain ⟨rfl, rfl⟩ := e; rfl) (by simp)
theorem cf29 (x y : Int) (M : Nat → AO) (n : Nat) (hx : sm x) (hy : sm y) : callP F29 [I x, I y] M n = some (I (keyN x y), []) :=
  callP_spec (ι := {x : Int × Int // sm x.1 ∧ sm x.2}) (A := fun x => [I x.1.1, I x.1.2]) (R := fun x => retOf [I (keyN x.1.1 x.1.2)]) ⟨(x, y), hx, hy⟩ rfl (by
    rintro ⟨⟨a, b⟩, h⟩ e
    simp at e
    obtain ⟨rfl, rfl⟩ := e; rfl) (by simp)
theorem cf31 (f : Int) (i : Nat) (xs : List Zx) (M : Nat → AO) (n : Nat) (hf : sm f) (hi : i < xs.length) (hs : sm (zg (zos xs) i).node) : callP F31 [I (i : Nat), .rp [I f], .rp [.rd 10 (zrows xs)]] M n = some (I (rankZ (zos xs) f i), []) :=
  callP_spec (ι := {x : Int × Nat × List Zx // sm x.1 ∧ x.2.1 < x.2.2.length ∧ sm (zg (zos x.2.2) x.2.1).node}) (A := fun x => [I x.1.2.1, .rp [I x.1.1], .rp [.rd 10 (zrows x.1.2.2)]]) (R := fun x => retOf [I (rankZ (zos x.1.2.2) x.1.1 x.1.2.1)]) ⟨(f, i, xs), hf, hi, hs⟩ (by simp) (by
    rintro ⟨⟨a, b, c⟩, h⟩ e
    simp [Int.ofNat_inj] at e
    simp only [zrows_inj e.2.2, e.1, e.2.1]) (by simp)
theorem cf27 (a b f : Int) (M : Nat → AO) (n : Nat) (ha : sm a) (hb : sm b) (hf : sm f) : callP F27 [I a, I b, .rp [I f]] M n = some (I (cmpI (keyN f a) (keyN f b)), []) :=
  callP_spec (ι := {x : Int × Int × Int // sm x.1 ∧ sm x.2.1 ∧ sm x.2.2}) (A := fun x => [I x.1.1, I x.1.2.1, .rp [I x.1.2.2]]) (R := fun x => retOf [I (cmpI (keyN x.1.2.2 x.1.1) (keyN x.1.2.2 x.1.2.1))]) ⟨(a, b, f), ha, hb, hf⟩ (by simp) (by
    rintro ⟨⟨a, b, c⟩, h⟩ e
    simp at e
    obtain ⟨rfl, rfl, rfl⟩ := e; rfl) (by simp)
theorem cf36 (k : Int) (m : Nat) (t : Int) (i n : Nat) (xs : List Zx) (M : Nat → AO) (j : Nat) (hm : m < 16) (hn : n < 4) (hi : i < xs.length) (he : (zg (zos xs) i).node = (n : Int)) : callP F36 [I (i : Nat), .rp [I k, I (m : Nat), I t], .rp [.rd 10 (zrows xs)]] M j = some (B (!inM (m : Nat) (n : Nat)), []) :=
  callP_spec (ι := {x : (Int × Nat × Int) × Nat × Nat × List Zx // x.1.2.1 < 16 ∧ x.2.2.1 < 4 ∧ x.2.1 < x.2.2.2.length ∧ (zg (zos x.2.2.2) x.2.1).node = (x.2.2.1 : Nat)}) (A := fun x => [I x.1.2.1, .rp [I x.1.1.1, I x.1.1.2.1, I x.1.1.2.2], .rp [.rd 10 (zrows x.1.2.2.2)]]) (R := fun x => retOf [B (!inM x.1.1.2.1 x.1.2.2.1)]) ⟨((k, m, t), i, n, xs), hm, hn, hi, he⟩ (by simp) (by
    rintro ⟨⟨⟨a, b, c⟩, d, e, f⟩, h⟩ e'
    simp [Int.ofNat_inj] at e'
    obtain ⟨rfl, ⟨rfl, rfl, rfl⟩, e2⟩ := e'
    have h4 := h.2.2.2
    simp only at h4 ⊢
    rw [zrows_inj e2, he] at h4
    rw [h4]) (by simp)
theorem cf33 (f : Int) (i j : Nat) (xs : List Zx) (M : Nat → AO) (n : Nat) (hf : sm f) (hi : i < xs.length ∧ sm (zg (zos xs) i).node) (hj : j < xs.length ∧ sm (zg (zos xs) j).node) : callP F33 [I (i : Nat), I (j : Nat), .rp [.fn 31 [.rp [I f], .rp [.rd 10 (zrows xs)]]]] M n = some (I (cmpI (rankZ (zos xs) f i) (rankZ (zos xs) f j)), []) :=
  callP_spec (ι := {x : Int × (Nat × Nat) × List Zx // sm x.1 ∧ (x.2.1.1 < x.2.2.length ∧ sm (zg (zos x.2.2) x.2.1.1).node) ∧ (x.2.1.2 < x.2.2.length ∧ sm (zg (zos x.2.2) x.2.1.2).node)}) (A := fun x => [I x.1.2.1.1, I x.1.2.1.2, .rp [.fn 31 [.rp [I x.1.1], .rp [.rd 10 (zrows x.1.2.2)]]]]) (R := fun x => retOf [I (cmpI (rankZ (zos x.1.2.2) x.1.1 x.1.2.1.1) (rankZ (zos x.1.2.2) x.1.1 x.1.2.1.2))]) ⟨(f, (i, j), xs), hf, hi, hj⟩ (by simp) (by
    rintro ⟨⟨a, ⟨b, c⟩, d⟩, h⟩ e
    simp [Int.ofNat_inj] at e
    simp only [zrows_inj e.2.2.2, e.1, e.2.1, e.2.2.1]) (by simp)
theorem cf55 (m : Nat) (h : m ≤ 12) (M : Nat → AO) (n : Nat) : callP F55 [.v (.int .u64 m)] M n = some (I (lenT m), []) :=
  callP_spec (ι := {n : Nat // n ≤ 12}) (A := fun n => [.v (.int .u64 n.1)]) (R := fun n => retOf [I (lenT n.1)]) ⟨m, h⟩ (by simp) (by
    rintro ⟨a, h⟩ e
    simp [Int.ofNat_inj] at e
    subst e; rfl) (by simp)
theorem cf42 (m : Nat) (h : m ≤ 12) (M : Nat → AO) (n : Nat) : callP F42 [.v (.int .u64 m)] M n = some (.any, []) :=
  callP_spec (ι := {n : Nat // n ≤ 12}) (A := fun n => [.v (.int .u64 n.1)]) (R := fun _ => retOf [.any]) ⟨m, h⟩ (by simp) (fun _ _ => rfl) (by simp [retOf, openRet, openVal, openLeaf])
theorem cf40 (l : List Int) (x : Int) (M : Nat → AO) (n : Nat) (h : l.length ≤ 1000) : callP F40 [.rd 1 (irows l), I x] M n = some (I (idxI l x), []) :=
  callP_spec (ι := {x : List Int × Int // x.1.length ≤ 1000}) (A := fun x => [.rd 1 (irows x.1.1), I x.1.2]) (R := fun x => retOf [I (idxI x.1.1 x.1.2)]) ⟨(l, x), h⟩ (by simp) (by
    rintro ⟨⟨a, b⟩, h⟩ e
    simp [irows_inj] at e
    obtain ⟨rfl, rfl⟩ := e; rfl) (by simp)
theorem cf13 (xs : List Zx) (M : Nat → AO) (n : Nat) : callP F13 [.rd 10 (zrows xs)] M n = some (I (chkZ (zos xs)), []) := cfZ (fun zs => retOf [I (chkZ zs)]) xs M n (by simp)
theorem cf14 (xs : List Zx) (M : Nat → AO) (n : Nat) : callP F14 [.rd 10 (zrows xs)] M n = some (I (chkZ (zos xs)), []) := cfZ (fun zs => retOf [I (chkZ zs)]) xs M n (by simp)
theorem cf24 (xs : List Zx) (a : Int) (M : Nat → AO) (n : Nat) : callP F24 [.rd 10 (zrows xs), I a] M n = some (I (errN (zos xs) a), []) := cfZI (fun zs a => retOf [I (errN zs a)]) xs a M n (by simp)
theorem cf11 (xs : List Zx) (a : Int) (M : Nat → AO) (n : Nat) : callP F11 [.rd 10 (zrows xs), I a] M n = some (B ((xs.length : Int) ≤ a), []) := by
  have := cfZI (fun zs a => retOf [B ((zs.length : Int) ≤ a)]) xs a M n (by simp)
  simp only [zos_len] at this
  exact this
theorem cf22 (xs : List Zx) (a : Int) (M : Nat → AO) (n : Nat) : callP F22 [.rd 10 (zrows xs), I a] M n = some (B (okZs (zos xs) ∧ 0 ≤ a ∧ a < 4), []) := cfZI (fun zs a => retOf [B (okZs zs ∧ 0 ≤ a ∧ a < 4)]) xs a M n (by simp)
theorem cf30 (xs : List Zx) (a : Int) (M : Nat → AO) (n : Nat) (h : xs.length ≤ 6) : callP F30 [.rd 10 (zrows xs), I a] M n = some (B (hasN (zos xs) a), []) :=
  callP_spec (ι := {x : List Zx × Int // x.1.length ≤ 6}) (A := fun x => [.rd 10 (zrows x.1.1), I x.1.2]) (R := fun x => retOf [B (hasN (zos x.1.1) x.1.2)]) ⟨(xs, a), h⟩ (by simp) (by
    rintro ⟨⟨j, b⟩, h⟩ e
    simp at e
    simp only [zrows_inj e.1, e.2]) (by simp)
theorem cf34 (m : Int) (h1 : 1 ≤ m) (h2 : m ≤ 15) (M : Nat → AO) (n : Nat) : callP F34 [I m] M n = some (.sl n 1 1 0 (maskL m).length, [(n, .vec 1 1 false (irows (maskL m)))]) := by
  obtain ⟨k, rfl⟩ : ∃ k : Nat, m = ((k + 1 : Nat) : Int) := ⟨(m - 1).toNat, by omega⟩
  have h := callP_spec (ι := {n : Nat // n < 15}) (A := fun n => [I (n.1 + 1 : Nat)]) (R := fun n => retOf [.ow 1 (irows (maskL (n.1 + 1 : Nat)))]) (avs := [I ((k + 1 : Nat) : Int)]) (M := M) (n := n) ⟨k, by omega⟩ (by simp) (by
    rintro ⟨a, h⟩ e
    have e : a = k := by simp at e; exact Int.ofNat_inj.1 e
    subst e; rfl) (by simp)
  exact h.trans (by simp)
theorem cf39 (m k : Nat) (M : Nat → AO) (n : Nat) (h1 : m < 16) (h2 : k < 4) : callP F39 [I m, I k] M n = some (B (inM m k), []) :=
  callP_spec (ι := {x : Nat × Nat // x.1 < 16 ∧ x.2 < 4}) (A := fun x => [I x.1.1, I x.1.2]) (R := fun x => retOf [B (inM x.1.1 x.1.2)]) ⟨(m, k), h1, h2⟩ (by simp) (by
    rintro ⟨⟨a, b⟩, h⟩ e
    simp [Int.ofNat_inj] at e
    obtain ⟨rfl, rfl⟩ := e; rfl) (by simp)
theorem cf37 (p : Po) (M : Nat → AO) (n : Nat) : callP F37 [.agg [I p.kind, I p.nodes, I p.turn]] M n = some (I (polE p), []) :=
  callP_spec (A := fun p : Po => [.agg [I p.kind, I p.nodes, I p.turn]]) (R := fun p => retOf [I (polE p)]) p (by simp) (by
    rintro ⟨a, b, c⟩ e
    obtain ⟨a', b', c'⟩ := p
    simp at e
    obtain ⟨rfl, rfl, rfl⟩ := e; rfl) (by simp)
theorem cf38 (p : Po) (f : Int) (M : Nat → AO) (n : Nat) (h : polE p = 0) : callP F38 [.agg [I p.kind, I p.nodes, I p.turn], I f] M n = some (I (firstN p f), []) :=
  callP_spec (ι := {x : Po × Int // polE x.1 = 0}) (A := fun x => [.agg [I x.1.1.kind, I x.1.1.nodes, I x.1.1.turn], I x.1.2]) (R := fun x => retOf [I (firstN x.1.1 x.1.2)]) ⟨(p, f), h⟩ (by simp) (by
    rintro ⟨⟨⟨a, b, c⟩, d⟩, h⟩ e
    obtain ⟨a', b', c'⟩ := p
    simp at e
    obtain ⟨⟨rfl, rfl, rfl⟩, rfl⟩ := e; rfl) (by simp)
theorem cf15 (xs : List Zx) (a : Int) (M : Nat → AO) (n : Nat) : callP F15 [.rd 10 (zrows xs), I a] M n = some (.tup [.sl n 1 1 0 (nodesR (zos xs) a).1.length, I (nodesR (zos xs) a).2], [(n, .vec 1 1 false (irows (nodesR (zos xs) a).1))]) :=
  (cfZI (fun zs a => retOf [.ow 1 (irows (nodesR zs a).1), I (nodesR zs a).2]) xs a M n (by simp)).trans (by simp)
theorem cf16 (xs : List Zx) (a : Int) (M : Nat → AO) (n : Nat) : callP F16 [.rd 10 (zrows xs), I a] M n = some (.tup [.sl n 1 1 0 (nodesR (zos xs) a).1.length, I (nodesR (zos xs) a).2], [(n, .vec 1 1 false (irows (nodesR (zos xs) a).1))]) := cf15 xs a M n
theorem cf17 (xs : List Zx) (a : Int) (b : Bool) (M : Nat → AO) (n : Nat) : callP F17 [.rd 10 (zrows xs), I a, B b] M n = some (.tup [.sl n 1 1 0 (orderR (zos xs) a b).1.length, I (orderR (zos xs) a b).2], [(n, .vec 1 1 false (irows (orderR (zos xs) a b).1))]) :=
  (cfZIB (fun zs a b => retOf [.ow 1 (irows (orderR zs a b).1), I (orderR zs a b).2]) xs a b M n (by simp)).trans (by simp)
theorem cf18 (xs : List Zx) (a : Int) (b : Bool) (M : Nat → AO) (n : Nat) : callP F18 [.rd 10 (zrows xs), I a, B b] M n = some (.tup [.sl n 1 1 0 (orderR (zos xs) a b).1.length, I (orderR (zos xs) a b).2], [(n, .vec 1 1 false (irows (orderR (zos xs) a b).1))]) := cf17 xs a b M n
theorem cf17' (xs : List Zx) (a : Int) (b : Bool) (M : Nat → AO) (n : Nat) (h : errN (zos xs) a = 0) : callP F17 [.rd 10 (zrows xs), I a, B b] M n = some (.tup [.sl n 1 1 0 (orderL (zos xs) a b).length, I 0], [(n, .vec 1 1 false (irows (orderL (zos xs) a b)))]) := by
  have e := cf17 xs a b M n
  have e2 : orderR (zos xs) a b = (orderL (zos xs) a b, 0) := by unfold orderR; rw [if_neg (by simp [h])]
  rw [e2] at e
  exact e
theorem cf20 (xs : List Zx) (p : Po) (a : Int) (b : Bool) (M : Nat → AO) (n : Nat) : callP F20 [.rd 10 (zrows xs), .agg [I p.kind, I p.nodes, I p.turn], I a, B b] M n = some (.tup [.sl n 1 1 0 (pickR (zos xs) p a b).1.length, I (pickR (zos xs) p a b).2], [(n, .vec 1 1 false (irows (pickR (zos xs) p a b).1))]) := cfPk xs p a b M n
theorem cf21 (xs : List Zx) (p : Po) (a : Int) (b : Bool) (M : Nat → AO) (n : Nat) : callP F21 [.rd 10 (zrows xs), .agg [I p.kind, I p.nodes, I p.turn], I a, B b] M n = some (.tup [.sl n 1 1 0 (pickR (zos xs) p a b).1.length, I (pickR (zos xs) p a b).2], [(n, .vec 1 1 false (irows (pickR (zos xs) p a b).1))]) := cfPk xs p a b M n
theorem F19_at {a b : List Int} (h1 : a.length ≤ 1000000) (h2 : b.length ≤ 1000000) : F19 [.rd 1 (irows a), .rd 1 (irows b)] = some (B (a = b)) :=
  specF_eq (ι := {x : List Int × List Int // x.1.length ≤ 1000000 ∧ x.2.length ≤ 1000000}) (A := fun x => [.rd 1 (irows x.1.1), .rd 1 (irows x.1.2)]) (R := fun x => retOf [B (x.1.1 = x.1.2)]) ⟨(a, b), h1, h2⟩ (by
    rintro ⟨⟨c, d⟩, h⟩ e
    simp [irows_inj] at e
    obtain ⟨rfl, rfl⟩ := e; rfl)
theorem cf23 (x y : Int) (M : Nat → AO) (n : Nat) (hx : sm x) (hy : sm y) : callP F23 [I x, I y] M n = some (I (far x y), []) :=
  callP_spec (ι := {x : Int × Int // sm x.1 ∧ sm x.2}) (A := fun x => [I x.1.1, I x.1.2]) (R := fun x => retOf [I (far x.1.1 x.1.2)]) ⟨(x, y), hx, hy⟩ rfl (by
    rintro ⟨⟨a, b⟩, h⟩ e
    simp at e
    obtain ⟨rfl, rfl⟩ := e; rfl) (by simp)

theorem flat_rowsI {l : List Int} {e : Int} : (retOf [.ow 1 (irows l), I e]).flat := by
  simp only [retOf, AV.flat, AV.flatV, AV.flat1]
  intro a ha
  rcases List.mem_cons.1 ha with rfl | ha
  · intro e he a ha
    obtain ⟨x, _, rfl⟩ := List.mem_map.1 he
    simp at ha; subst ha; trivial
  · simp at ha; subst ha; trivial

noncomputable def T43 : AX := (AX.start wT).add 43 (callP F43)
theorem t43 : XOK Try.prog T43 := xok_spec (xok_start Try.prog wT) (s43 _ (xok_start Try.prog wT)) (fun _ => by simp [AV.flat, AV.flatV, AV.flat1]) Try.func43 (by kernel_rfl)
noncomputable def T28 : AX := T43.add 28 (callP F28)
theorem t28 : XOK Try.prog T28 := xok_spec t43 (s28 T43 t43 cf43) (fun _ => by simp [AV.flat, AV.flatV, AV.flat1]) Try.func28 (by kernel_rfl)
noncomputable def T29 : AX := T28.add 29 (callP F29)
theorem t29 : XOK Try.prog T29 := xok_spec t28 (s29 T28 t28) (fun _ => by simp [AV.flat, AV.flatV, AV.flat1]) Try.func29 (by kernel_rfl)
noncomputable def T31 : AX := T29.add 31 (callP F31)
theorem t31 : XOK Try.prog T31 := xok_spec t29 (s31 T29 t29 (AX.W.start _) cf29) (fun _ => by simp [AV.flat, AV.flatV, AV.flat1]) Try.func31 (by kernel_rfl)
noncomputable def T27 : AX := T31.add 27 (callP F27)
theorem t27 : XOK Try.prog T27 := xok_spec t31 (s27 T31 t31 (AX.W.start _) cf28 cf29) (fun _ => by simp [AV.flat, AV.flatV, AV.flat1]) Try.func27 (by kernel_rfl)
noncomputable def T36 : AX := T27.add 36 (callP F36)
theorem t36 : XOK Try.prog T36 := xok_spec t27 (s36 T27 t27 (AX.W.start _)) (fun _ => by simp [AV.flat, AV.flatV, AV.flat1]) Try.func36 (by kernel_rfl)
noncomputable def Q28 : AX := AX.start0.add 28 (callP F28)
theorem q28 : XOK Try.prog Q28 := xok_spec (xok_start0 Try.prog) (s28 T43 t43 cf43) (fun _ => by simp [AV.flat, AV.flatV, AV.flat1]) Try.func28 (by kernel_rfl)
noncomputable def Q31 : AX := Q28.add 31 (callP F31)
theorem q31 : XOK Try.prog Q31 := xok_spec q28 (s31 T29 t29 (AX.W.start _) cf29) (fun _ => by simp [AV.flat, AV.flatV, AV.flat1]) Try.func31 (by kernel_rfl)
noncomputable def T33 : AX := T36.add 33 (callP F33)
theorem t33 : XOK Try.prog T33 := xok_spec t36 (s33 Q31 q31 AX.W0.start cf28 cf31) (fun _ => by simp [AV.flat, AV.flatV, AV.flat1]) Try.func33 (by kernel_rfl)

theorem flatK {Y : AX} {ι : Type} {A0 : ι → AV} {A : ι → List AV} {R : ι → AV} {O : ι → List Int} : ∀ a0 avs r s ys, specM A0 A R (fun x => .ow 1 (irows (O x))) a0 avs = some (r, .ow s ys) → ∀ e ∈ ys, ∀ a ∈ e, a.plain := by
  intro a0 avs r s ys h e he a ha
  obtain ⟨i, _, _, _, h4⟩ := specM_some h
  simp only [AV.ow.injEq] at h4
  obtain ⟨_, rfl⟩ := h4
  obtain ⟨x, _, rfl⟩ := List.mem_map.1 he
  simp at ha; subst ha; trivial
noncomputable def T46 : AX := T33.add 46 (callK (F46 T33))
theorem t46 : XOK Try.prog T46 := xok_putM t33 (by kernel_rfl) (.inl ⟨(s46 T33 t33 (AX.W.start _)).callK (flatK (Y := T33)), body_ok _ Try.func46 (by kernel_rfl)⟩) fun _ _ _ _ h => callK_keys h
noncomputable def T41 : AX := T46.add 41 (callK (F41 T33))
theorem t41 : XOK Try.prog T41 := xok_putM t46 (by kernel_rfl) (.inl ⟨(s41 T46 T33 t46 (AX.W.start _) rfl).callK (flatK (Y := T33)), body_ok _ Try.func41 (by kernel_rfl)⟩) fun _ _ _ _ h => callK_keys h
noncomputable def T44 : AX := T41.add 44 (callK (F44 T33))
theorem t44 : XOK Try.prog T44 := xok_putM t41 (by kernel_rfl) (.inl ⟨(s44 T41 T33 t41 (AX.W.start _) rfl).callK (flatK (Y := T33)), body_ok _ Try.func44 (by kernel_rfl)⟩) fun _ _ _ _ h => callK_keys h
noncomputable def T32 : AX := T44.add 32 (callK (F26 T33))
theorem t32 : XOK Try.prog T32 := xok_putM t44 (by kernel_rfl) (.inl ⟨(s32 T44 T33 t44 (AX.W.start _) rfl).callK (flatK (Y := T33)), body_ok _ Try.func32 (by kernel_rfl)⟩) fun _ _ _ _ h => callK_keys h
noncomputable def T55 : AX := T32.add 55 (callP F55)
theorem t55 : XOK Try.prog T55 := xok_spec t32 (s55) (fun _ => by simp [AV.flat, AV.flatV, AV.flat1]) Try.func55 (by kernel_rfl)
noncomputable def T42 : AX := T55.add 42 (callP F42)
theorem t42 : XOK Try.prog T42 := xok_spec t55 (s42 T55 t55 (AX.W.start _) cf55) (fun _ => by simp [AV.flat, AV.flatV, AV.flat1]) Try.func42 (by kernel_rfl)
noncomputable def T26 : AX := T42.add 26 (callK (F26 T33))
theorem t26 : XOK Try.prog T26 := xok_putM t42 (by kernel_rfl) (.inl ⟨(s26 T42 T33 t42 (AX.W.start _) rfl cf42).callK (flatK (Y := T33)), body_ok _ Try.func26 (by kernel_rfl)⟩) fun _ _ _ _ h => callK_keys h
theorem f45_flat : ∀ i : PA T33, (retOf [I (fIdx i.p i.l)]).flat := fun _ => trivial
noncomputable def T45 : AX := T26.add 45 (callP (F45 T33))
theorem t45 : XOK Try.prog T45 := xok_spec t26 (s45 T33 t33 (AX.W.start _)) f45_flat Try.func45 (by kernel_rfl)
theorem t33_some {g : FuncId} {avs : List AV} {M : Nat → AO} {n : Nat} {r : AV × List (Nat × AO)} (h : T33.call g avs M n = some r) : T45.call g avs M n = some r := by
  have hk : ∀ k ∈ [45, 26, 42, 55, 32, 44, 41, 46], T33.call k avs M n = none := by
    intro k hk
    simp only [List.mem_cons, List.not_mem_nil, or_false] at hk
    rcases hk with rfl | rfl | rfl | rfl | rfl | rfl | rfl | rfl <;> rfl
  have hne : ∀ k ∈ [45, 26, 42, 55, 32, 44, 41, 46], g ≠ k := fun k hkm e => by
    subst e
    rw [hk g hkm] at h
    simp at h
  simp only [List.mem_cons, List.not_mem_nil, or_false, forall_eq_or_imp, forall_eq] at hne
  obtain ⟨h1, h2, h3, h4, h5, h6, h7, h8⟩ := hne
  simp only [T45, T26, T42, T55, T32, T44, T41, T46, AX.add, if_neg h1, if_neg h2, if_neg h3, if_neg h4, if_neg h5, if_neg h6, if_neg h7, if_neg h8]
  exact h
theorem F35_flat {a0 : AV} {avs : List AV} {r o : AV} (h : F35 T33 a0 avs = some (r, o)) : r.flat ∧ o.flatO := by
  obtain ⟨i, _, _, h3, h4⟩ := specM_some h
  subst h3 h4
  exact ⟨flat_rows, trivial⟩
noncomputable def T35 : AX := T45.add 35 (callM false one1 (F35 T33))
theorem t35 : XOK Try.prog T35 := xok_putM t45 (by kernel_rfl) (.inl ⟨(s35 T45 T33 t45 (AX.W.start _) rfl fun x a M n ha => t33_some (x.ok.call a M n ha)).callM fun _ _ _ _ h => F35_flat h, body_ok _ Try.func35 (by kernel_rfl)⟩) fun _ _ _ _ h => callM_keys h
noncomputable def T40 : AX := T35.add 40 (callP F40)
theorem t40 : XOK Try.prog T40 := xok_spec t35 (s40 T35 t35) (fun _ => by simp [AV.flat, AV.flatV, AV.flat1]) Try.func40 (by kernel_rfl)
noncomputable def T25 : AX := T40.add 25 (callP F25)
theorem t25 : XOK Try.prog T25 := xok_spec t40 (s25 T40 t40 cf40) (fun _ => by simp [AV.flat, AV.flatV, AV.flat1]) Try.func25 (by kernel_rfl)
noncomputable def T13 : AX := T25.add 13 (callP F13)
theorem t13 : XOK Try.prog T13 := xok_spec t25 (s13 T25 t25) (fun _ => by simp [AV.flat, AV.flatV, AV.flat1]) Try.func13 (by kernel_rfl)
noncomputable def T14 : AX := T13.add 14 (callP F14)
theorem t14 : XOK Try.prog T14 := xok_spec t13 (s14 T13 t13) (fun _ => by simp [AV.flat, AV.flatV, AV.flat1]) Try.func14 (by kernel_rfl)
noncomputable def T24 : AX := T14.add 24 (callP F24)
theorem t24 : XOK Try.prog T24 := xok_spec t14 (s24 T14 t14 cf13) (fun _ => by simp [AV.flat, AV.flatV, AV.flat1]) Try.func24 (by kernel_rfl)
noncomputable def T30 : AX := T24.add 30 (callP F30)
theorem t30 : XOK Try.prog T30 := xok_spec t24 (s30 T24 t24) (fun _ => by simp [AV.flat, AV.flatV, AV.flat1]) Try.func30 (by kernel_rfl)
noncomputable def T34 : AX := T30.add 34 (callP F34)
theorem t34 : XOK Try.prog T34 := xok_spec t30 (s34) (fun _ => flat_rows) Try.func34 (by kernel_rfl)
noncomputable def T39 : AX := T34.add 39 (callP F39)
theorem t39 : XOK Try.prog T39 := xok_spec t34 (s39) (fun _ => by simp [AV.flat, AV.flatV, AV.flat1]) Try.func39 (by kernel_rfl)
noncomputable def T37 : AX := T39.add 37 (callP F37)
theorem t37 : XOK Try.prog T37 := xok_spec t39 (s37 T39 t39) (fun _ => by simp [AV.flat, AV.flatV, AV.flat1]) Try.func37 (by kernel_rfl)
noncomputable def T38 : AX := T37.add 38 (callP F38)
theorem t38 : XOK Try.prog T38 := xok_spec t37 (s38 T37 t37 (AX.W.start _) cf39) (fun _ => by simp [AV.flat, AV.flatV, AV.flat1]) Try.func38 (by kernel_rfl)
noncomputable def T15 : AX := T38.add 15 (callP F15)
theorem t15 : XOK Try.prog T15 := xok_spec t38 (s15 T38 T33 t38 (AX.W.start _) cf24 rfl rfl cf27) (fun _ => flat_rowsI) Try.func15 (by kernel_rfl)
noncomputable def T16 : AX := T15.add 16 (callP F16)
theorem t16 : XOK Try.prog T16 := xok_spec t15 (s16 T15 t15 (AX.W.start _) cf14 cf30) (fun _ => flat_rowsI) Try.func16 (by kernel_rfl)
noncomputable def T17 : AX := T16.add 17 (callP F17)
theorem t17 : XOK Try.prog T17 := xok_spec t16 (s17 T16 T33 t16 (AX.W.start _) cf24 rfl cf33) (fun _ => flat_rowsI) Try.func17 (by kernel_rfl)
noncomputable def T18 : AX := T17.add 18 (callP F18)
theorem t18 : XOK Try.prog T18 := xok_spec t17 (s18 T17 t17 (AX.W.start _) cf16) (fun _ => flat_rowsI) Try.func18 (by kernel_rfl)
noncomputable def T20 : AX := T18.add 20 (callP F20)
theorem t20 : XOK Try.prog T20 := xok_spec t18 (s20 T18 T33 t18 (AX.W.start _) cf13 cf24 cf34 cf17' rfl cf36) (fun _ => flat_rowsI) Try.func20 (by kernel_rfl)
noncomputable def T21 : AX := T20.add 21 (callP F21)
theorem t21 : XOK Try.prog T21 := xok_spec t20 (s21 T20 t20 (AX.W.start _) cf14 cf37 cf38 cf39 cf17') (fun _ => flat_rowsI) Try.func21 (by kernel_rfl)
noncomputable def T19 : AX := T21.add 19 (callP F19)
theorem t19 : XOK Try.prog T19 := xok_spec t21 (s19 T21 t21) (fun _ => by simp [AV.flat, AV.flatV, AV.flat1]) Try.func19 (by kernel_rfl)
noncomputable def T11 : AX := T19.add 11 (callP F11)
theorem t11 : XOK Try.prog T11 := xok_spec t19 (s11 T19 t19) (fun _ => by simp [AV.flat, AV.flatV, AV.flat1]) Try.func11 (by kernel_rfl)
noncomputable def T22 : AX := T11.add 22 (callP F22)
theorem t22 : XOK Try.prog T22 := xok_spec t11 (s22 T11 t11) (fun _ => by simp [AV.flat, AV.flatV, AV.flat1]) Try.func22 (by kernel_rfl)
noncomputable def T23 : AX := T22.add 23 (callP F23)
theorem t23 : XOK Try.prog T23 := xok_spec t22 (s23 T22 t22) (fun _ => by simp [AV.flat, AV.flatV, AV.flat1]) Try.func23 (by kernel_rfl)
end Go.AM
