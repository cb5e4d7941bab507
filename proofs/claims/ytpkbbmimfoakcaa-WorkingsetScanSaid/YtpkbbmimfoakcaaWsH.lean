/- Workingset: a long row of pages beside those in use, in plain words. -/
import Derived.Test.YtpkbbmimfoakcaaWsG
set_option linter.all false

namespace Go.AM
open Go Go.Proofs

theorem lrun_fold (size b : Int) (l : List Int) : ∀ k, k ≤ l.length → lrun size b l k = (l.take k).foldl (lstep size b) ⟨[], [], [], []⟩
  | 0, _ => rfl
  | k + 1, h => by
    rw [take_succ_gi (by omega), List.foldl_append, ← lrun_fold size b l k (by omega)]
    rfl
/-- The numbers from a on. -/
def rgA (a : Int) (n : Nat) : List Int := (List.range n).map fun (k : Nat) => a + (k : Int)
theorem rgA_succ (a : Int) (n : Nat) : rgA a (n + 1) = rgA a n ++ [a + n] := by
  unfold rgA; rw [List.range_succ, List.map_append]; rfl
theorem rgA_len (a : Int) (n : Nat) : (rgA a n).length = n := by simp [rgA]
theorem rgA_mem {a y : Int} {n : Nat} : y ∈ rgA a n ↔ a ≤ y ∧ y < a + n := by
  unfold rgA
  rw [List.mem_map]
  constructor
  · rintro ⟨k, hk, rfl⟩
    rw [List.mem_range] at hk
    omega
  · intro h
    exact ⟨(y - a).toNat, List.mem_range.2 (by omega), by omega⟩
theorem rgA_nodup (a : Int) : ∀ n, (rgA a n).Nodup
  | 0 => by simp [rgA]
  | n + 1 => by
    rw [rgA_succ, List.nodup_append]
    refine ⟨rgA_nodup a n, by simp, fun x hx y hy => ?_⟩
    rw [List.mem_singleton] at hy
    rw [rgA_mem] at hx
    omega
theorem rgA_gi {a : Int} {n k : Nat} (h : k < n) : gi (rgA a n) k = a + k := by
  unfold gi rgA
  simp [List.getD_eq_getElem?_getD, h]
theorem rgA_drop {n j : Nat} (h : j < n) : (rgA 0 n).drop j = (j : Int) :: (rgA 0 n).drop (j + 1) := by
  rw [List.drop_eq_getElem_cons (by rw [rgA_len]; exact h)]
  congr 1
  have := rgA_gi (a := 0) h
  rw [gi_eq (by rw [rgA_len]; exact h)] at this
  rw [this]; omega

theorem scan1 {size b : Int} {n : Nat} (hs : (n : Int) < size) : ∀ j, j ≤ n → (rgA 0 j).foldl (lstep size b) ⟨[], [], [], []⟩ = ⟨rgA 0 j, [], [], List.replicate j (-2)⟩
  | 0, _ => rfl
  | j + 1, h => by
    rw [rgA_succ, List.foldl_append, scan1 hs j (by omega)]
    simp only [List.foldl_cons, List.foldl_nil]
    have hm : (0 + (j : Int)) ∉ rgA 0 j := by rw [rgA_mem]; omega
    unfold lstep
    rw [if_neg (by simp), if_neg hm]
    have hev : evL size ⟨rgA 0 j, [], [], List.replicate j (-2) ++ [distL [] (0 + (j : Int))]⟩ = ⟨rgA 0 j, [], [], List.replicate j (-2) ++ [distL [] (0 + (j : Int))]⟩ := by
      unfold evL
      rw [if_neg (by simp only [rgA_len, List.length_nil]; omega)]
    simp only
    rw [hev, distL_not.2 (by simp)]
    unfold putL'
    rw [if_neg (by omega)]
    simp only [List.replicate_succ']
theorem scan2 {size : Int} {n : Nat} (o : List Int) : ∀ j, j ≤ n → (rgA 0 j).foldl (lstep size n) ⟨rgA 0 n, [], [], o⟩ = ⟨(rgA 0 n).drop j, rgA 0 j, [], o ++ List.replicate j (-1)⟩
  | 0, _ => by simp [rgA]
  | j + 1, h => by
    rw [rgA_succ, List.foldl_append, scan2 o j (by omega)]
    simp only [List.foldl_cons, List.foldl_nil]
    have hm : (0 + (j : Int)) ∉ rgA 0 j := by rw [rgA_mem]; omega
    have hd := rgA_drop (show j < n by omega)
    have hnd := (rgA_nodup 0 n).sublist (List.drop_sublist j _)
    rw [hd] at hnd
    have hj : (0 + (j : Int)) = j := by omega
    have hm2 : (0 + (j : Int)) ∈ (rgA 0 n).drop j := by rw [hd, hj]; simp
    unfold lstep
    rw [if_neg hm, if_pos hm2]
    have hw : wo ((rgA 0 n).drop j) (0 + (j : Int)) = (rgA 0 n).drop (j + 1) := by
      rw [hd, hj, wo_cons, if_pos rfl, wo_not (List.nodup_cons.1 hnd).1]
    unfold actI actA
    simp only
    rw [if_neg (by rw [rgA_len]; omega), if_neg (by rw [rgA_len]; omega), hw]
    simp only [List.replicate_succ', List.append_assoc]
theorem scan3 {size : Int} {n : Nat} (hn : n ≤ 100) (hs : (n : Int) < size) (o : List Int) : ∀ j, ∃ ina gone, (rgA 100 j).foldl (lstep size n) ⟨[], rgA 0 n, [], o⟩ = ⟨ina, rgA 0 n, gone, o ++ List.replicate j (-2)⟩ ∧ (∀ y ∈ ina, y ∈ rgA 100 j) ∧ (∀ y ∈ gone, y ∈ rgA 100 j) ∧ (ina.length : Int) + n ≤ size
  | 0 => ⟨[], [], by simp [rgA], by simp, by simp, by simp; omega⟩
  | j + 1 => by
    obtain ⟨ina, gone, h1, h2, h3, h4⟩ := scan3 hn hs o j
    rw [rgA_succ, List.foldl_append, h1]
    simp only [List.foldl_cons, List.foldl_nil]
    have m1 : (100 + (j : Int)) ∉ rgA 0 n := by rw [rgA_mem]; omega
    have m2 : (100 + (j : Int)) ∉ ina := fun h => by have := h2 _ h; rw [rgA_mem] at this; omega
    have m3 : (100 + (j : Int)) ∉ gone := fun h => by have := h3 _ h; rw [rgA_mem] at this; omega
    have up : ∀ y, y ∈ rgA 100 j → y ∈ rgA 100 j ++ [100 + (j : Int)] := fun y h => List.mem_append_left _ h
    unfold lstep
    rw [if_neg m1, if_neg m2]
    simp only
    rw [distL_not.2 m3]
    unfold putL'
    rw [if_neg (by omega)]
    unfold evL
    simp only [rgA_len]
    by_cases hf : (ina.length : Int) + n = size
    · rw [if_pos hf]
      cases ina with
      | nil => simp at hf; omega
      | cons x r =>
        refine ⟨r ++ [100 + (j : Int)], gone ++ [x], by simp [gi, List.replicate_succ'], fun y hy => ?_, fun y hy => ?_, by simp at h4 ⊢; omega⟩
        · rcases List.mem_append.1 hy with h | h
          · exact up _ (h2 y (by simp [h]))
          · exact List.mem_append_right _ h
        · rcases List.mem_append.1 hy with h | h
          · exact up _ (h3 y h)
          · rw [List.mem_singleton] at h; subst h; exact up _ (h2 y (by simp))
    · rw [if_neg hf]
      refine ⟨ina ++ [100 + (j : Int)], gone, by simp [List.replicate_succ'], fun y hy => ?_, fun y hy => up _ (h3 y hy), by simp; omega⟩
      rcases List.mem_append.1 hy with h | h
      · exact up _ (h2 y h)
      · exact List.mem_append_right _ h
theorem scan4 {size b : Int} {n : Nat} (ina gone o : List Int) : ∀ j, j ≤ n → (rgA 0 j).foldl (lstep size b) ⟨ina, rgA 0 n, gone, o⟩ = ⟨ina, rgA 0 n, gone, o ++ List.replicate j (-1)⟩
  | 0, _ => by simp [rgA]
  | j + 1, h => by
    rw [rgA_succ, List.foldl_append, scan4 ina gone o j (by omega)]
    simp only [List.foldl_cons, List.foldl_nil]
    have hm : (0 + (j : Int)) ∈ rgA 0 n := by rw [rgA_mem]; omega
    unfold lstep
    rw [if_pos hm]
    simp only [List.replicate_succ', List.append_assoc]

def scanL (n r : Nat) : List Int := rgA 0 n ++ rgA 0 n ++ rgA 100 r ++ rgA 0 n
def scanO (n r : Nat) : List Int := List.replicate n (-2) ++ List.replicate n (-1) ++ List.replicate r (-2) ++ List.replicate n (-1)
theorem scan_out {size : Int} {n : Nat} (hn : n ≤ 100) (hs : (n : Int) < size) (r : Nat) : (lrun size n (scanL n r) (scanL n r).length).out = scanO n r := by
  rw [lrun_fold _ _ _ _ (Nat.le_refl _), List.take_length]
  unfold scanL scanO
  simp only [List.foldl_append]
  rw [scan1 hs n (Nat.le_refl _), scan2 _ n (Nat.le_refl _)]
  rw [List.drop_of_length_le (by rw [rgA_len]; omega)]
  obtain ⟨ina, gone, h, _⟩ := scan3 hn hs (List.replicate n (-2) ++ List.replicate n (-1)) r
  rw [h, scan4 _ _ _ n (Nat.le_refl _)]
theorem scanO_len (n r : Nat) : (scanO n r).length = 3 * n + r := by simp [scanO]; omega
theorem scanL_len (n r : Nat) : (scanL n r).length = 3 * n + r := by simp [scanL, rgA_len]; omega
theorem scanO_gi {n r i : Nat} (h1 : 2 * n + r ≤ i) (h2 : i < 3 * n + r) : gi (scanO n r) i = -1 := by
  unfold scanO gi
  rw [List.getD_eq_getElem?_getD, List.getElem?_append_right (by simp; omega), List.getElem?_replicate, if_pos (by simp; omega)]
  rfl
theorem fl_rep (n : Nat) : fl (List.replicate n (-2)) = n ∧ fl (List.replicate n (-1)) = 0 := by
  unfold fl
  constructor <;> simp [List.countP_replicate]
theorem fl_app2 (a b : List Int) : fl (a ++ b) = fl a + fl b := by unfold fl; rw [List.countP_append]
theorem scanO_fl (n r : Nat) : fl (scanO n r) = n + r := by
  unfold scanO
  simp only [fl_app2, fl_rep]
  omega
end Go.AM
