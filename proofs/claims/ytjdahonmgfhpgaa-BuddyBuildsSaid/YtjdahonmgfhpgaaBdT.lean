/- Building a zone frame by frame, in plain words. -/
import Derived.Test.YtjdahonmgfhpgaaBdS
set_option linter.all false

namespace Go.AM
open Go

theorem badB_zero {z : Zn} {l : List Int} {i : Nat} (h : badB z l i = 0) : insideZ z (gi l i) 0 ∧ (0 < i → gi l (i - 1) < gi l i) := by
  unfold badB at h
  split at h
  · simp at h
  · rename_i h1
    split at h
    · simp at h
    · rename_i h2
      exact ⟨Decidable.of_not_not h1, fun h0 => by omega⟩
theorem badB_out {z : Zn} {l : List Int} {i : Nat} (h : ¬ insideZ z (gi l i) 0) : badB z l i = 2 := by unfold badB; rw [if_pos h]
theorem badB_order {z : Zn} {l : List Int} {i : Nat} (h : insideZ z (gi l i) 0) (h0 : 0 < i) (h1 : gi l i ≤ gi l (i - 1)) : badB z l i = 10 := by unfold badB; rw [if_neg (by simpa using h), if_pos ⟨h0, h1⟩]
theorem badB_ok {z : Zn} {l : List Int} {i : Nat} (h : insideZ z (gi l i) 0) (h1 : 0 < i → gi l (i - 1) < gi l i) : badB z l i = 0 := by
  unfold badB
  rw [if_neg (by simpa using h), if_neg]
  rintro ⟨h0, h2⟩
  have := h1 h0; omega
theorem good_sorted {z : Zn} {l : List Int} (h : ∀ j, j < l.length → badB z l j = 0) : Sorted l := sorted_adj fun i h0 hi => (badB_zero (h i hi)).2 h0

/-- The zone with the first n frames of a list. -/
noncomputable def bz (z : Zn) (l : List Int) (n : Nat) : Zn := canon z fun x => x ∈ l.take n
theorem bz_zero (z : Zn) (l : List Int) : bz z l 0 = noL z := canon_empty fun x hx => by simp at hx
theorem bz_full (z : Zn) (l : List Int) : bz z l l.length = canon z (· ∈ l) := by unfold bz; rw [List.take_length]
theorem bz_same (z : Zn) (l : List Int) (n : Nat) : sameP (bz z l n) z := canon_sameP z _
theorem bz_ok {z : Zn} {l : List Int} {n : Nat} (hz : rangesZ z) : okPut (bz z l n) :=
  ⟨(bz_same z l n).ranges.2 hz, fun k hk => canon_valid.sorted k hk, canon_small hz⟩
theorem take_next {l : List Int} {i : Nat} (hi : i < l.length) : l.take (i + 1) = l.take i ++ [gi l i] := by
  rw [gi_eq hi, List.take_append_getElem hi]
theorem bz_succ {z : Zn} {l : List Int} {i : Nat} (hz : rangesZ z) (h : ∀ j, j < l.length → badB z l j = 0) (hi : i < l.length) : putZ 4 (bz z l i) (gi l i) 0 = bz z l (i + 1) := by
  have hs := bz_same z l i
  have hin := (badB_zero (h i hi)).1
  have hin' : insideZ (bz z l i) (gi l i) 0 := hs.inside.2 hin
  have hIn : In z fun x => x ∈ l.take i := fun x hx => by
    obtain ⟨j, hj, rfl⟩ := List.mem_iff_getElem.1 (List.mem_of_mem_take hx)
    have := (badB_zero (h j hj)).1
    rw [gi_eq hj] at this
    exact (inside0 hz).1 this
  have hfr : ∀ x, free (bz z l i) x ↔ x ∈ l.take i := fun x => free_canon (by unfold rangesZ at hz; omega) hIn
  have hsorted := good_sorted h
  have hnew : gi l i ∉ l.take i := fun hm => by
    have h2 := take_next hi
    have h3 := sorted_take hsorted (i + 1)
    rw [h2] at h3
    have := (List.pairwise_append.1 h3).2.2 _ hm (gi l i) (by simp)
    omega
  have := put_canon (z := bz z l i) (f := gi l i) (k := 0) (by omega) canon_valid hin' (fun x h1 h2 hf => by
    have e : x = gi l i := by simp at h2; omega
    rw [e, hfr] at hf
    exact hnew hf)
  rw [show 4 - 0 = 4 from rfl] at this
  rw [this, canon_same hs]
  unfold bz
  refine canon_congr fun g => ?_
  have h3 := hfr g
  unfold bz at h3
  have h4 : (gi l i ≤ g ∧ g < gi l i + 2 ^ 0) ↔ g = gi l i := by simp; omega
  rw [h3, take_next hi, h4, List.mem_append, List.mem_singleton]
/-- What put makes of a zone that is given cell by cell. -/
theorem F48_bz {z : Zn} {l : List Int} {i : Nat} (hz : rangesZ z) (hb : ∀ j, j < l.length → badB z l j = 0) (hi : i < l.length) : F48 (.rf [I z.node, I z.kind, I z.start, I z.count, I z.least, .ow 1 (irows (bz z l i).f0), .ow 1 (irows (bz z l i).f1), .ow 1 (irows (bz z l i).f2), .ow 1 (irows (bz z l i).f3), .ow 1 (irows (bz z l i).f4)]) [I (gi l i), I 0] =
    some (.tup [], .rf [I z.node, I z.kind, I z.start, I z.count, I z.least, .ow 1 (irows (bz z l (i + 1)).f0), .ow 1 (irows (bz z l (i + 1)).f1), .ow 1 (irows (bz z l (i + 1)).f2), .ow 1 (irows (bz z l (i + 1)).f3), .ow 1 (irows (bz z l (i + 1)).f4)]) := by
  have hin := (badB_zero (hb i hi)).1
  have hbd := (inside0 hz).1 hin
  have h := F48_at (z := bz z l i) (f := gi l i) (k := 0) (bz_ok hz) (by unfold rangesZ at hz; omega) (by unfold rangesZ at hz; omega) (by simp) (by omega)
  rw [show 4 - 0 = 4 from rfl, bz_succ hz hb hi] at h
  exact h

theorem setOf_rep (n : Nat) (x : Int) : ¬ setOf (List.replicate n 0) x := fun h => by
  apply h.2
  by_cases hx : x.toNat < n
  · rw [gi_eq (by simpa using hx)]; simp
  · exact gi_out (by simp; omega)
/-- 256 zeros. -/
def zs256 : List Int := List.replicate 256 0
@[simp] theorem zs_len : zs256.length = 256 := List.length_replicate
theorem canon_list {z : Zn} {l : List Int} (hz : rangesZ z) (hb : ∀ j, j < l.length → badB z l j = 0) : canon z (setOf (upS zs256 (· ∈ l) 1)) = canon z (· ∈ l) :=
  canon_congr fun x => by
    rw [setOf_up1 zs_len fun y hy => by
      obtain ⟨j, hj, rfl⟩ := List.mem_iff_getElem.1 hy
      have := (badB_zero (hb j hj)).1
      rw [gi_eq hj] at this
      have := (inside0 hz).1 this
      unfold rangesZ at hz
      omega]
    exact ⟨fun h => h.resolve_left (setOf_rep 256 x), .inr⟩
theorem upS_take {s : List Int} {l : List Int} {i f : Nat} (hi : i < l.length) (hf : gi l i = (f : Int)) : (irows (upS s (fun x => x ∈ l.take i) 1)).set f [I 1] = irows (upS s (fun x => x ∈ l.take (i + 1)) 1) := by
  rw [upS_set]
  refine congrArg irows (upS_congr fun x => ?_)
  rw [take_next hi, hf]
  simp
end Go.AM
