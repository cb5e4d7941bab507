/- Zones under a policy, in plain words. -/
import Derived.Test.YtdhhdnbdceoenaaZlP
set_option linter.all false

namespace Go.AM

structure Po where
  kind : Int
  nodes : Int
  turn : Int
def polE (p : Po) : Int := if p.kind < 0 ∨ 3 < p.kind then 1 else if p.kind ≠ 0 ∧ (p.nodes < 1 ∨ 15 < p.nodes) then 1 else if p.kind = 3 ∧ p.turn < 0 then 1 else 0
def inM (mask : Int) (n : Int) : Bool := decide (mask / 2 ^ n.toNat % 2 = 1)
def maskL (mask : Int) : List Int := [0, 1, 2, 3].filter (inM mask)
def firstN (p : Po) (node : Int) : Int := if p.kind = 1 then (maskL p.nodes).getD 0 0 else if p.kind = 3 then (maskL p.nodes).getD (p.turn % (maskL p.nodes).length).toNat 0 else node
def pickE (zs : List Zo) (p : Po) (node : Int) : Int := if chkZ zs ≠ 0 then chkZ zs else if polE p ≠ 0 then polE p else if node < 0 ∨ 4 ≤ node then 2 else 0
def pickL (zs : List Zo) (p : Po) (node : Int) (kernel : Bool) : List Int := if p.kind = 2 then (orderL zs node kernel).filter (fun i => inM p.nodes (zg zs i.toNat).node) else orderL zs (firstN p node) kernel
def pickR (zs : List Zo) (p : Po) (node : Int) (kernel : Bool) : List Int × Int := if pickE zs p node ≠ 0 then ([], pickE zs p node) else (pickL zs p node kernel, 0)

theorem pickE_zero {zs : List Zo} {p : Po} {node : Int} : pickE zs p node = 0 ↔ okZs zs ∧ polE p = 0 ∧ 0 ≤ node ∧ node < 4 := by
  unfold pickE
  rw [← chkZ_zero]
  by_cases h : chkZ zs = 0
  · rw [if_neg (by simp [h])]
    by_cases hp : polE p = 0
    · rw [if_neg (by simp [hp])]
      by_cases h2 : node < 0 ∨ 4 ≤ node
      · rw [if_pos h2]; constructor
        · intro e; omega
        · rintro ⟨_, _, h3⟩; omega
      · rw [if_neg h2]; simp [h, hp]; omega
    · rw [if_pos hp]; simp [hp]
  · rw [if_pos h]; simp [h]
theorem maskL_pos {mask : Int} (h : 1 ≤ mask ∧ mask ≤ 15) : 0 < (maskL mask).length := by
  have : ∀ m : Fin 16, 1 ≤ m.val → 0 < (maskL (m.val : Int)).length := by decide
  have h2 := this ⟨mask.toNat, by omega⟩ (by show 1 ≤ mask.toNat; omega)
  have e : ((mask.toNat : Nat) : Int) = mask := by omega
  simpa [e] using h2
theorem mem_maskL {mask n : Int} : n ∈ maskL mask ↔ (n = 0 ∨ n = 1 ∨ n = 2 ∨ n = 3) ∧ inM mask n = true := by simp [maskL, List.mem_filter]
theorem getD_mem {l : List Int} {i : Nat} (h : i < l.length) : l.getD i 0 ∈ l := by
  rw [List.getD_eq_getElem?_getD, List.getElem?_eq_getElem h, Option.getD_some]
  exact List.getElem_mem h
theorem firstN_ok {p : Po} {node : Int} (hp : polE p = 0) (h : 0 ≤ node ∧ node < 4) : 0 ≤ firstN p node ∧ firstN p node < 4 := by
  have hm : p.kind ≠ 0 → 1 ≤ p.nodes ∧ p.nodes ≤ 15 := fun hk => by
    unfold polE at hp
    split at hp
    · omega
    · split at hp
      · omega
      · omega
  have hin : ∀ n ∈ maskL p.nodes, 0 ≤ n ∧ n < 4 := fun n hn => by have := (mem_maskL.1 hn).1; omega
  unfold firstN
  split
  · rename_i hk
    exact hin _ (getD_mem (maskL_pos (hm (by omega))))
  · split
    · rename_i hk
      have hl := maskL_pos (hm (by omega))
      have h1 := Int.emod_nonneg p.turn (show (((maskL p.nodes).length : Nat) : Int) ≠ 0 by omega)
      have h2 := Int.emod_lt_of_pos p.turn (show (0 : Int) < (((maskL p.nodes).length : Nat) : Int) by omega)
      exact hin _ (getD_mem (by omega))
    · exact h
theorem order_nodup {zs : List Zo} {node : Int} {kernel : Bool} (h : okZs zs) : (orderL zs node kernel).Nodup :=
  (order_lex (node := node) (kernel := kernel) h).imp fun hab => (lex_acyc _ _ hab).2
theorem order_len {zs : List Zo} {node : Int} {kernel : Bool} (h : okZs zs) (h0 : 0 ≤ node ∧ node < 4) : (orderL zs node kernel).length ≤ 6 := by
  rw [← order_sort h h0, sortK_len]
  unfold idxZ
  rw [List.length_map]
  have := List.length_filter_le (fun i => suits kernel (zg zs i)) (List.range zs.length)
  rw [List.length_range] at this
  have := h.1
  omega
end Go.AM
