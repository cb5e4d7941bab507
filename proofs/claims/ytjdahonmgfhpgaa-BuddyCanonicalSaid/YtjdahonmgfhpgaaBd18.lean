/- buddy.put as a call; buddy.New. -/
import Derived.Test.YtjdahonmgfhpgaaBd17
import Derived.Test.YtjdahonmgfhpgaaBdN
set_option linter.all false

namespace Go.AM
open Go Go.Proofs

noncomputable def F48 : AV → List AV → Option (AV × AV) := specM (ι := {x : Zn × Int × Nat // okPut x.1 ∧ 0 ≤ x.2.1 ∧ x.2.1 < 256 ∧ x.2.1 % 2 ^ x.2.2 = 0 ∧ x.2.2 ≤ 4}) (fun x => .rf x.1.1.ocells) (fun x => [I x.1.2.1, I x.1.2.2]) (fun _ => retOf []) (fun x => .rf (putZ (4 - x.1.2.2) x.1.1 x.1.2.1 x.1.2.2).ocells)

theorem ocells_inj {z y : Zn} : z.ocells = y.ocells ↔ z = y := by
  constructor
  · intro h
    simp only [Zn.ocells, List.cons.injEq, AV.v.injEq, Value.int.injEq, true_and, AV.ow.injEq, irows_inj, and_true] at h
    cases z; cases y; simp_all
  · rintro rfl; rfl

theorem s48 (X : AX) (hX : XOK Try.prog X) (hw : X.W wT) (h42 : X.call 42 = callP F42) (h43 : X.call 43 = callP F43) (h51 : X.call 51 = callM false one1 insF) (h53 : X.call 53 = callM false one1 delF) : MSound Try.prog 48 F48 := by
  refine msound_spec Try.func48 rfl X fun ⟨⟨z, f, k⟩, hz, h0, h1, hfk, hk⟩ w0 bl E => ⟨by show 3 ≤ 88; decide, rfl, ?_⟩
  simp only at hz h0 h1 hfk hk
  rcases le4 hk with rfl | rfl | rfl | rfl | rfl
  · exact s48_0 X hX hw h42 h43 h51 h53 z f hz h0 h1 hfk w0 bl E
  · exact s48_1 X hX hw h42 h43 h51 h53 z f hz h0 h1 hfk w0 bl E
  · exact s48_2 X hX hw h42 h43 h51 h53 z f hz h0 h1 hfk w0 bl E
  · exact s48_3 X hX hw h42 h43 h51 h53 z f hz h0 h1 hfk w0 bl E
  · exact s48_4 X hX hw h42 h43 h51 h53 z f hz h0 h1 hfk w0 bl E

theorem F48_at {z : Zn} {f : Int} {k : Nat} (hz : okPut z) (h0 : 0 ≤ f) (h1 : f < 256) (hfk : f % 2 ^ k = 0) (hk : k ≤ 4) : F48 (.rf z.ocells) [I f, I (k : Int)] = some (.tup [], .rf (putZ (4 - k) z f k).ocells) :=
  specM_eq (ι := {x : Zn × Int × Nat // okPut x.1 ∧ 0 ≤ x.2.1 ∧ x.2.1 < 256 ∧ x.2.1 % 2 ^ x.2.2 = 0 ∧ x.2.2 ≤ 4}) (A0 := fun x => .rf x.1.1.ocells) (A := fun x => [I x.1.2.1, I x.1.2.2]) (R := fun _ => retOf []) (O := fun x => .rf (putZ (4 - x.1.2.2) x.1.1 x.1.2.1 x.1.2.2).ocells) ⟨(z, f, k), hz, h0, h1, hfk, hk⟩ (by
    rintro ⟨⟨a, b, c⟩, h⟩ e1 e2
    simp only [AV.rf.injEq, ocells_inj] at e1
    simp only [List.cons.injEq, AV.v.injEq, Value.int.injEq, true_and, and_true, Int.ofNat_inj] at e2
    obtain ⟨rfl, rfl⟩ := e2
    subst e1
    exact ⟨rfl, rfl⟩)

theorem okPut_new {z : Zn} {n : Nat} (hz : rangesZ z) : okPut (newZ z n) :=
  ⟨(newZ_same z n).ranges.2 hz, fun k hk => canon_valid.sorted k hk, fun k hk => by have := valid_small ((newZ_same z n).ranges.2 hz) canon_valid k hk; omega⟩

/-- What put makes of a zone that is given cell by cell. -/
theorem F48_new {z : Zn} {n : Nat} (hz : rangesZ z) (hn : (n : Int) < z.count) : F48 (.rf [I z.node, I z.kind, I z.start, I z.count, I z.least, .ow 1 (irows (newZ z n).f0), .ow 1 (irows (newZ z n).f1), .ow 1 (irows (newZ z n).f2), .ow 1 (irows (newZ z n).f3), .ow 1 (irows (newZ z n).f4)]) [I (z.start + n), I 0] =
    some (.tup [], .rf [I z.node, I z.kind, I z.start, I z.count, I z.least, .ow 1 (irows (newZ z (n + 1)).f0), .ow 1 (irows (newZ z (n + 1)).f1), .ow 1 (irows (newZ z (n + 1)).f2), .ow 1 (irows (newZ z (n + 1)).f3), .ow 1 (irows (newZ z (n + 1)).f4)]) := by
  have h := F48_at (z := newZ z n) (f := z.start + n) (k := 0) (okPut_new hz) (by unfold rangesZ at hz; omega) (by unfold rangesZ at hz; omega) (by simp) (by omega)
  rw [show 4 - 0 = 4 from rfl, newZ_succ hz hn] at h
  exact h

def zeroZ : Zn := ⟨0, 0, 0, 0, 0, [], [], [], [], []⟩
end Go.AM
