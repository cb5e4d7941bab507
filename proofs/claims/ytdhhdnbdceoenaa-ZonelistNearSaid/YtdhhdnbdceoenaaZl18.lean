/- Zonelist: the fixed example; ZonelistChecks, ZonelistOrders, ZonelistPicks. -/
import Derived.Test.YtdhhdnbdceoenaaZl17
set_option linter.all false

namespace Go.AM
open Go Go.Proofs

def nl : AV := .v (.slice none 0 0)
def x0 : List Zx := [⟨⟨0, 0, 0, 0, 0⟩, nl, nl, nl, nl, nl⟩, ⟨⟨0, 1, 0, 0, 0⟩, nl, nl, nl, nl, nl⟩, ⟨⟨2, 0, 0, 0, 0⟩, nl, nl, nl, nl, nl⟩, ⟨⟨1, 1, 0, 0, 0⟩, nl, nl, nl, nl, nl⟩]
def x4 : List Zx := [⟨⟨4, 0, 0, 0, 0⟩, nl, nl, nl, nl, nl⟩]
theorem zr0 : zrows x0 = [[I 0, I 0, I 0, I 0, I 0, nl, nl, nl, nl, nl], [I 0, I 1, I 0, I 0, I 0, nl, nl, nl, nl, nl], [I 2, I 0, I 0, I 0, I 0, nl, nl, nl, nl, nl], [I 1, I 1, I 0, I 0, I 0, nl, nl, nl, nl, nl]] := rfl
theorem zr4 : zrows x4 = [[I 4, I 0, I 0, I 0, I 0, nl, nl, nl, nl, nl]] := rfl
theorem n0 : nodesR (zos x0) 1 = ([1, 0, 2], 0) := by decide +kernel
theorem o0 : orderR (zos x0) 1 false = ([3, 1, 0, 2], 0) := by decide +kernel
theorem o1 : orderR (zos x0) 1 true = ([0, 2], 0) := by decide +kernel
theorem p0 : pickR (zos x0) ⟨2, 5, 0⟩ 1 false = ([1, 0, 2], 0) := by decide +kernel
theorem p1 : pickR (zos x0) ⟨3, 6, 3⟩ 0 false = ([2, 3, 1, 0], 0) := by decide +kernel
theorem c4 : chkZ (zos x4) = 2 := by decide +kernel

structure LawX (X : AX) : Prop where
  h11 : X.call 11 = callP F11
  h13 : X.call 13 = callP F13
  h14 : X.call 14 = callP F14
  h15 : X.call 15 = callP F15
  h16 : X.call 16 = callP F16
  h17 : X.call 17 = callP F17
  h18 : X.call 18 = callP F18
  h20 : X.call 20 = callP F20
  h21 : X.call 21 = callP F21
  h19 : X.call 19 = callP F19
  h22 : X.call 22 = callP F22
  h23 : ∀ x y M n, sm x → sm y → X.call 23 [I x, I y] M n = some (I (far x y), [])
  w : X.W wT
  ok : XOK Try.prog X
theorem lx23 : LawX T23 := ⟨rfl, rfl, rfl, rfl, rfl, rfl, rfl, rfl, rfl, rfl, rfl, fun x y M n hx hy => cf23 x y M n hx hy, AX.W.start _, t23⟩

theorem FZ_at (R : List Zo → AV) (xs : List Zx) : specF (ι := List Zx) (fun x => [.rd 10 (zrows x)]) (fun x => R (zos x)) [.rd 10 (zrows xs)] = some (R (zos xs)) :=
  specF_eq (A := fun x : List Zx => [.rd 10 (zrows x)]) (R := fun x => R (zos x)) xs (by
    intro j e
    simp at e
    simp only [zrows_inj e])
theorem FZI_at (R : List Zo → Int → AV) (xs : List Zx) (a : Int) : specF (ι := List Zx × Int) (fun x => [.rd 10 (zrows x.1), I x.2]) (fun x => R (zos x.1) x.2) [.rd 10 (zrows xs), I a] = some (R (zos xs) a) :=
  specF_eq (A := fun x : List Zx × Int => [.rd 10 (zrows x.1), I x.2]) (R := fun x => R (zos x.1) x.2) (xs, a) (by
    rintro ⟨j, b⟩ e
    simp at e
    simp only [zrows_inj e.1, e.2])
theorem FZIB_at (R : List Zo → Int → Bool → AV) (xs : List Zx) (a : Int) (b : Bool) : specF (ι := List Zx × Int × Bool) (fun x => [.rd 10 (zrows x.1), I x.2.1, B x.2.2]) (fun x => R (zos x.1) x.2.1 x.2.2) [.rd 10 (zrows xs), I a, B b] = some (R (zos xs) a b) :=
  specF_eq (A := fun x : List Zx × Int × Bool => [.rd 10 (zrows x.1), I x.2.1, B x.2.2]) (R := fun x => R (zos x.1) x.2.1 x.2.2) (xs, a, b) (by
    rintro ⟨j, c, d⟩ e
    simp at e
    simp only [zrows_inj e.1, e.2])
theorem F11_at (xs : List Zx) (a : Int) : F11 [.rd 10 (zrows xs), I a] = some (B ((xs.length : Int) ≤ a)) := by
  have := FZI_at (fun zs a => retOf [B ((zs.length : Int) ≤ a)]) xs a
  simp only [zos_len] at this
  exact this
theorem F13_at (xs : List Zx) : F13 [.rd 10 (zrows xs)] = some (I (chkZ (zos xs))) := FZ_at (fun zs => retOf [I (chkZ zs)]) xs
theorem F14_at (xs : List Zx) : F14 [.rd 10 (zrows xs)] = some (I (chkZ (zos xs))) := FZ_at (fun zs => retOf [I (chkZ zs)]) xs
theorem F22_at (xs : List Zx) (a : Int) : F22 [.rd 10 (zrows xs), I a] = some (B (okZs (zos xs) ∧ 0 ≤ a ∧ a < 4)) := FZI_at (fun zs a => retOf [B (okZs zs ∧ 0 ≤ a ∧ a < 4)]) xs a
theorem F15_at (xs : List Zx) (a : Int) : F15 [.rd 10 (zrows xs), I a] = some (.tup [.ow 1 (irows (nodesR (zos xs) a).1), I (nodesR (zos xs) a).2]) := FZI_at (fun zs a => retOf [.ow 1 (irows (nodesR zs a).1), I (nodesR zs a).2]) xs a
theorem F16_at (xs : List Zx) (a : Int) : F16 [.rd 10 (zrows xs), I a] = some (.tup [.ow 1 (irows (nodesR (zos xs) a).1), I (nodesR (zos xs) a).2]) := F15_at xs a
theorem F17_at (xs : List Zx) (a : Int) (b : Bool) : F17 [.rd 10 (zrows xs), I a, B b] = some (.tup [.ow 1 (irows (orderR (zos xs) a b).1), I (orderR (zos xs) a b).2]) := FZIB_at (fun zs a b => retOf [.ow 1 (irows (orderR zs a b).1), I (orderR zs a b).2]) xs a b
theorem F18_at (xs : List Zx) (a : Int) (b : Bool) : F18 [.rd 10 (zrows xs), I a, B b] = some (.tup [.ow 1 (irows (orderR (zos xs) a b).1), I (orderR (zos xs) a b).2]) := F17_at xs a b
theorem F20_at (xs : List Zx) (k m t : Int) (a : Int) (b : Bool) : F20 [.rd 10 (zrows xs), .agg [I k, I m, I t], I a, B b] = some (.tup [.ow 1 (irows (pickR (zos xs) ⟨k, m, t⟩ a b).1), I (pickR (zos xs) ⟨k, m, t⟩ a b).2]) :=
  specF_eq (A := fun x : PkA => [.rd 10 (zrows x.xs), .agg [I x.p.kind, I x.p.nodes, I x.p.turn], I x.n, B x.k]) (R := fun x => retOf [.ow 1 (irows x.R.1), I x.R.2]) ⟨xs, ⟨k, m, t⟩, a, b⟩ (by
    rintro ⟨ys, ⟨k', m', t'⟩, c, d⟩ e
    simp at e
    obtain ⟨e1, ⟨rfl, rfl, rfl⟩, rfl, rfl⟩ := e
    simp only [PkA.R, zrows_inj e1])
theorem F21_at (xs : List Zx) (k m t : Int) (a : Int) (b : Bool) : F21 [.rd 10 (zrows xs), .agg [I k, I m, I t], I a, B b] = some (.tup [.ow 1 (irows (pickR (zos xs) ⟨k, m, t⟩ a b).1), I (pickR (zos xs) ⟨k, m, t⟩ a b).2]) := F20_at xs k m t a b

theorem F19_l {a b : List (List AV)} {la lb : List Int} (ha : a = irows la) (hb : b = irows lb) (h : la.length ≤ 1000000 ∧ lb.length ≤ 1000000) : F19 [.rd 1 a, .rd 1 b] = some (B (la = lb)) := by rw [ha, hb]; exact F19_at h.1 h.2

set_option maxHeartbeats 1000000 in
set_option maxRecDepth 20000 in
theorem s12 (X : AX) (L : LawX X) : PSound Try.prog 12 (specF (ι := Unit) (fun _ => []) fun _ => retOf [B true]) := by
  have hX := L.ok
  have hw := L.w
  refine psound_spec hX mixed Try.func12 rfl fun u w0 G => ⟨by show 0 ≤ 93; decide, rfl, ?_⟩
  show AW ⟨Try.prog, X, 93, w0, .pure G⟩ _ _ _
  have hc : Cx.OK ⟨Try.prog, X, 93, w0, .pure G⟩ := ⟨hX, mixed⟩
  have h15 := F15_at x0 1
  have h17 := F17_at x0 1 false
  have h17' := F17_at x0 1 true
  have h20 := F20_at x0 2 5 0 1 false
  have h20' := F20_at x0 3 6 3 0 false
  have h13 := F13_at x4
  rw [n0] at h15
  rw [o0] at h17
  rw [o1] at h17'
  rw [p0] at h20
  rw [p1] at h20'
  rw [c4] at h13
  simp only [zr0, zr4, nl] at h15 h17 h17' h20 h20' h13
  have h19 := L.h19
  have q1 : F19 [.rd 1 (irows [1, 0, 2]), .rd 1 [[I 1], [I 0], [I 2]]] = some (B true) := (F19_l (la := [1, 0, 2]) (lb := [1, 0, 2]) rfl rfl (by decide)).trans (by simp)
  have q2 : F19 [.rd 1 (irows [3, 1, 0, 2]), .rd 1 [[I 3], [I 1], [I 0], [I 2]]] = some (B true) := (F19_l (la := [3, 1, 0, 2]) (lb := [3, 1, 0, 2]) rfl rfl (by decide)).trans (by simp)
  have q3 : F19 [.rd 1 (irows [0, 2]), .rd 1 [[I 0], [I 2]]] = some (B true) := (F19_l (la := [0, 2]) (lb := [0, 2]) rfl rfl (by decide)).trans (by simp)
  have q4 : F19 [.rd 1 (irows [2, 3, 1, 0]), .rd 1 [[I 2], [I 3], [I 1], [I 0]]] = some (B true) := (F19_l (la := [2, 3, 1, 0]) (lb := [2, 3, 1, 0]) rfl rfl (by decide)).trans (by simp)
  simp only [irows, List.map] at h15 h17 h17' h20 h20' q1 q2 q3 q4
  repeat' (first | (apply aw_seq_k; intro K hK) | (refine aw_run hc (by first | exact aw_nod | (intro _; rw [ordB_w hw]; kernel_rfl) | (intro _; rw [ordB_w0 hw0]; kernel_rfl) | (intro _; kernel_rfl)) ?_; simp [List.zipIdx, L.h15, L.h17, L.h20, L.h13, h15, h17, h17', h20, h20', h13, h19, q1, q2, q3, q4, -getM, getM_hit, getM_miss, getM_none]; (repeat (simp (disch := first | omega | assumption | fail) only [if_pos, if_neg, wrap64]; try simp [List.zipIdx, L.h15, L.h17, L.h20, L.h13, h15, h17, h17', h20, h20', h13, h19, q1, q2, q3, q4, -getM, getM_hit, getM_miss, getM_none])); try (repeat' (refine guardQ_split (fun h => ?_) (fun h => ?_) <;> simp at h <;> (simp [List.zipIdx, L.h15, L.h17, L.h20, L.h13, h15, h17, h17', h20, h20', h13, h19, q1, q2, q3, q4, -getM, getM_hit, getM_miss, getM_none]; (repeat (simp (disch := first | omega | assumption | fail) only [if_pos, if_neg, wrap64]; try simp [List.zipIdx, L.h15, L.h17, L.h20, L.h13, h15, h17, h17', h20, h20', h13, h19, q1, q2, q3, q4, -getM, getM_hit, getM_miss, getM_none])))))) | (refine aw_cond (b := _) (by exact rfl) (fun h => ?_) (fun h => ?_) <;> (try simp at h)) | (refine aw_block ?_) | (refine aw_skip ?_; simp only [thenQ, blockQ, if_true]) | (refine aw_exit ?_; simp [thenQ, blockQ]) | (refine aw_ret ?_; simp only [thenQ, blockQ]) | (refine aw_round ?_) | (refine hK _ ?_; clear hK) | (clear hK; refine hK _ ?_; clear hK) | (clear hK; clear hK; refine hK _ ?_; clear hK) | (clear hK; clear hK; clear hK; refine hK _ ?_; clear hK))
  refine ⟨by simp, ?_⟩
  simp [leaves_iff, Try.f12]
  try (first | omega | (refine decide_eq_decide.2 ?_; omega) | (refine decide_eq_false ?_; omega) | (refine decide_eq_true ?_; omega))
end Go.AM
