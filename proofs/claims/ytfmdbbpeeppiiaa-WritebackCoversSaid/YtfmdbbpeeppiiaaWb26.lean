/- Writeback: the runs contain each dirty page exactly once. -/
import Derived.Test.YtfmdbbpeeppiiaaWb23
import Derived.Test.YtfmdbbpeeppiiaaWb24
set_option linter.all false

namespace Go.AM
open Go Go.Proofs
attribute [simp] ty42

/-- Ones where Q holds. -/
def icl (Q : Nat → Bool) : List Int := (List.range 64).map fun c => if Q c then 1 else 0
@[simp] theorem icl_len (Q : Nat → Bool) : (icl Q).length = 64 := by simp [icl]
theorem icl_get (Q : Nat → Bool) {c : Nat} (h : c < 64) : (icl Q).getD c 0 = if Q c then 1 else 0 := by
  simp [icl, List.getD_eq_getElem?_getD, h]
theorem icl_ext {Q R : Nat → Bool} (h : ∀ c, c < 64 → Q c = R c) : icl Q = icl R := by
  unfold icl
  refine List.map_congr_left fun c hc => ?_
  rw [h c (List.mem_range.1 hc)]
theorem icl_set {Q R : Nat → Bool} {x : Nat} {b : Bool} (hx : R x = b) (h : ∀ c, c < 64 → c ≠ x → R c = Q c) : (icl Q).set x (if b then 1 else 0) = icl R := by
  refine List.ext_getElem (by simp) fun c h1 h2 => ?_
  have hc : c < 64 := by simpa using h2
  rw [List.getElem_set]
  simp only [icl, List.getElem_map, List.getElem_range]
  by_cases e : x = c
  · subst e; rw [if_pos rfl, hx]
  · rw [if_neg e, h c hc fun h => e h.symm]
theorem icl_zero : oi64 = icl fun _ => false := by decide +kernel
theorem icl_none {Q : Nat → Bool} (h : ∀ c, c < 64 → Q c = false) : icl Q = oi64 := by
  rw [icl_zero]; exact icl_ext h

/-- The cells of the first k places of a run. -/
def inC (r : Tp) (k : Nat) (c : Nat) : Bool := decide (((c / 16 : Nat) : Int) = r.1 ∧ r.2.1 ≤ ((c % 16 : Nat) : Int) ∧ ((c % 16 : Nat) : Int) < r.2.1 + k)
def cvR (D : List Tp) (c : Nat) : Bool := D.any fun r => inC r r.2.2.toNat c
theorem cvR_snoc (D : List Tp) (r : Tp) (c : Nat) : cvR (D ++ [r]) c = (cvR D c || inC r r.2.2.toNat c) := by
  unfold cvR; simp
theorem inC_inR {r : Tp} {c : Nat} (h : 0 ≤ r.2.2) : inC r r.2.2.toNat c = inR r (((c / 16 : Nat) : Int), ((c % 16 : Nat) : Int), 0) := by
  unfold inC inR
  rw [show ((r.2.2.toNat : Nat) : Int) = r.2.2 by omega]
/-- A cell of a run is not covered by those before it. -/
theorem RunsOK.fresh {l : List Tp} {m : Int} {K : List Tp} (hK : RunsOK l m K) {i : Nat} (hi : i < K.length) {c : Nat} {k : Nat} (hk : (k : Int) ≤ (gd K i).2.2) (hc : inC (gd K i) k c = true) : cvR (K.take i) c = false := by
  rw [Bool.eq_false_iff]
  intro hh
  unfold cvR at hh
  rw [List.any_eq_true] at hh
  obtain ⟨s, hs, e⟩ := hh
  obtain ⟨j, hj, rfl⟩ := List.getElem_of_mem hs
  have hj' : j < i := by simp at hj; omega
  rw [List.getElem_take] at e
  have h1 := (hK.each _ (List.getElem_mem (show j < K.length by omega))).1.2.1
  rw [inC_inR (by omega)] at e
  have h2 := (hK.each _ (gd_mem hi)).1.2.1
  have h3 : inC (gd K i) (gd K i).2.2.toNat c = true := by
    unfold inC at hc ⊢
    simp only [decide_eq_true_eq] at hc ⊢
    omega
  rw [inC_inR (by omega), gd_eq hi] at h3
  exact List.pairwise_iff_getElem.1 hK.dis j i (by omega) hi hj' _ ⟨e, h3⟩
/-- What the counts are after i runs and k places of the next one. -/
def cntQ (K : List Tp) (i k : Nat) (c : Nat) : Bool := cvR (K.take i) c || inC (gd K i) k c
theorem cntQ_zero (K : List Tp) (i : Nat) : icl (cntQ K i 0) = icl (cvR (K.take i)) := by
  refine icl_ext fun c _ => ?_
  unfold cntQ inC
  have : ¬ (((c / 16 : Nat) : Int) = (gd K i).1 ∧ (gd K i).2.1 ≤ ((c % 16 : Nat) : Int) ∧ ((c % 16 : Nat) : Int) < (gd K i).2.1 + (0 : Nat)) := by omega
  rw [decide_eq_false this, Bool.or_false]
theorem cntQ_full {K : List Tp} {i : Nat} (hi : i < K.length) {k : Nat} (hk : (k : Int) = (gd K i).2.2) : icl (cntQ K i k) = icl (cvR (K.take (i + 1))) := by
  refine icl_ext fun c _ => ?_
  rw [take_succ_gd hi, cvR_snoc]
  unfold cntQ
  rw [show (gd K i).2.2.toNat = k by omega]
/-- One more place. -/
theorem RunsOK.more {l : List Tp} {m : Int} {K : List Tp} (hK : RunsOK l m K) {i : Nat} (hi : i < K.length) {a b k : Nat} (ha : (gd K i).1 = a) (hb : (gd K i).2.1 = b) (hk : (k : Int) < (gd K i).2.2) :
    (icl (cntQ K i k)).getD (a * 16 + (b + k)) 0 = 0 ∧ (icl (cntQ K i k)).set (a * 16 + (b + k)) 1 = icl (cntQ K i (k + 1)) := by
  have hr := (hK.each _ (gd_mem hi)).1
  unfold wrnN pgN at hr
  have h16 : b + k < 16 := by omega
  have h4 : a < 4 := by omega
  have e1 : (a * 16 + (b + k)) / 16 = a := by omega
  have e2 : (a * 16 + (b + k)) % 16 = b + k := by omega
  have hf := hK.fresh hi (c := a * 16 + (b + k)) (k := k + 1) (by omega) (by
    unfold inC
    rw [e1, e2, decide_eq_true_eq]
    omega)
  constructor
  · rw [icl_get _ (by omega)]
    unfold cntQ
    rw [hf]
    have : inC (gd K i) k (a * 16 + (b + k)) = false := by
      unfold inC
      rw [e1, e2, decide_eq_false_iff_not]
      omega
    rw [this]; rfl
  · refine icl_set (b := true) ?_ fun c hc hne => ?_
    · unfold cntQ inC
      rw [e1, e2]
      simp only [Bool.or_eq_true, decide_eq_true_eq]
      right; omega
    · unfold cntQ
      congr 1
      unfold inC
      rw [decide_eq_decide]
      omega
/-- Adjacent runs: the first one is as long as may be. -/
theorem RunsOK.adj {l : List Tp} {m : Int} {K : List Tp} (hK : RunsOK l m K) {r s : Tp} (hr : r ∈ K) (hs : s ∈ K) (h1 : r.1 = s.1) (h2 : r.2.1 + r.2.2 = s.2.1) : r.2.2 = m := by
  rcases (hK.each r hr).2.2.2 with h | h
  · exact h
  · have h3 := hK.each s hs
    have := h3.2.2.1 0 (by have := h3.1.2.1; omega)
    rw [h1, h2] at h
    rw [show s.2.1 + ((0 : Nat) : Int) = s.2.1 by omega, h] at this
    simp at this

/-! The pages strike out what they cover. -/
def rstQ (K l : List Tp) (i : Nat) (c : Nat) : Bool := cvR K c && !decide (c ∈ (l.take i).map cix)
theorem rstQ_zero (K l : List Tp) : icl (rstQ K l 0) = icl (cvR K) := icl_ext fun c _ => by simp [rstQ]
theorem rst_step {l : List Tp} (h0 : chkD l = 0) {m : Int} {K : List Tp} (hK : RunsOK l m K) {i : Nat} (hi : i < l.length) {a b : Nat} (ha : (gd l i).1 = a) (hb : (gd l i).2.1 = b) :
    (icl (rstQ K l i)).getD (a * 16 + b) 0 = 1 ∧ (icl (rstQ K l i)).set (a * 16 + b) 0 = icl (rstQ K l (i + 1)) := by
  obtain ⟨hV, hN⟩ := chk_zero.1 h0
  have hpg := (hV i hi).1
  unfold pgN at hpg
  have hcx : cix (gd l i) = a * 16 + b := by unfold cix; omega
  have hci := nodup_cix hV hi
  rw [hcx] at hci
  have hts := take_succ_gd hi
  have hnm : ¬ a * 16 + b ∈ (l.take i).map cix := fun hh => by
    have h2 : ((l.take (i + 1)).map plc).Nodup := hN.sublist ((List.take_sublist _ _).map _)
    rw [hts, List.map_append, List.nodup_append] at h2
    exact h2.2.2 _ (hci.1 hh) _ (by simp) rfl
  constructor
  · rw [icl_get _ (by omega)]
    unfold rstQ
    rw [decide_eq_false hnm]
    obtain ⟨r, hr, e⟩ := hK.all _ (gd_mem hi)
    have h1 := (hK.each r hr).1.2.1
    have : cvR K (a * 16 + b) = true := by
      unfold cvR
      rw [List.any_eq_true]
      refine ⟨r, hr, ?_⟩
      rw [inC_inR (by omega), show (a * 16 + b) / 16 = a by omega, show (a * 16 + b) % 16 = b by omega]
      rw [inR_iff] at e ⊢
      simp only
      omega
    rw [this]; rfl
  · refine icl_set (b := false) ?_ fun c hc hne => ?_
    · unfold rstQ
      rw [hts]
      simp [hcx]
    · unfold rstQ
      congr 2
      rw [decide_eq_decide, hts, List.map_append, List.mem_append]
      simp [hcx, hne]
theorem rst_end {l : List Tp} (h0 : chkD l = 0) {m : Int} {K : List Tp} (hK : RunsOK l m K) : icl (rstQ K l l.length) = oi64 := by
  refine icl_none fun c hc => ?_
  unfold rstQ
  rw [List.take_length]
  cases hcv : cvR K c
  · rfl
  · unfold cvR at hcv
    rw [List.any_eq_true] at hcv
    obtain ⟨r, hr, e⟩ := hcv
    obtain ⟨h1, _, h3, _⟩ := hK.each r hr
    unfold wrnN pgN at h1
    unfold inC at e
    simp only [decide_eq_true_eq] at e
    have := h3 (((c % 16 : Nat) : Int) - r.2.1).toNat (by omega)
    unfold hasP at this
    simp only [decide_eq_true_eq] at this
    obtain ⟨p, hp, e2⟩ := List.mem_map.1 this
    simp only [plc, Prod.mk.injEq] at e2
    have : c ∈ l.map cix := List.mem_map.2 ⟨p, hp, by unfold cix; omega⟩
    simp [this]
end Go.AM
