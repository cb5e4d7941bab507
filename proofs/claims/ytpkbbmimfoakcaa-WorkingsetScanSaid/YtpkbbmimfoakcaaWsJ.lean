/- slices.Sorted of the values of a slice: a new slice that holds the same numbers in order. -/
import Derived.Test.YtpkbbmimfoakcaaWsI
import Derived.Test.YtpkbbmimfoakcaaWsS
import Derived.Lib.SlKeysI
set_option linter.all false

namespace Go.Proofs
open Go Go.RowKit Go.Shelf Go.Sort Go.Maps

attribute [local go_sem] Oper.semAt_some

set_option maxRecDepth 100000 in
set_option maxHeartbeats 2000000 in
theorem Wsi.collect_in (F : Fence) (n : Nat) (h41 : F.fn 41) (h44 : F.fn 44) (h43 : F.fn 43) (hro : F.round = none) (hn : 3 ≤ n) (Bs Bo : Nat) (sv : Value) (zs : List Int) (hlen : zs.length ≤ maxLen) (hbytes : zs.length * 8 ≤ 140737488351232) (w : World) (hBs : Bs < w.heap.size)
    (hcs : w.cell? ⟨Bs, Bo, none⟩ = some sv) (hI : Wsi.Ints w.heap.size w sv zs) :
    CallsIn F n Try.prog 41 #[.func (.func 43) #[] #[.pointer (some ⟨Bs, Bo, none⟩)]] w fun e W' => ∃ v, e = .returned v ∧ W'.ownsRow w.heap.size 3 1 v zs.length (zs.map (Value.int .i64)) ∧ (v = .slice none 0 0 ↔ zs = []) ∧ Below w.heap.size w W' := by
  have h1 : 1 ≤ n := by omega
  refine callsIn_of_wp Try.func41 rfl h41 ?_ hro
  simp only [Try.ntmps41, List.size_toArray, List.length_cons, List.length_nil, Nat.reduceAdd, Nat.reduceSub, Array.replicate_succ, Array.replicate_zero, List.push_toArray, List.append_toArray, List.nil_append, List.cons_append]
  gi_wp2_with (gi_at_call 44; refine (Wsi.append_in F (n - 1) h44 h43 hro (by omega) Bs Bo sv zs hlen hbytes w hBs hcs hI).mono ?_; rintro e w' ⟨v, rfl, hrow, hnil, hb⟩)
  go_ret
  exact ⟨v, rfl, hrow, hnil, hb⟩

set_option maxRecDepth 100000 in
set_option maxHeartbeats 2000000 in
theorem Wsi.sorted_in (F : Fence) (n : Nat) (h39 : F.fn 39) (h42 : F.fn 42) (h41 : F.fn 41) (h44 : F.fn 44) (h43 : F.fn 43) (hro : F.round = none) (hn : 4 ≤ n)
    (hsort : ∀ (blk off cap : Nat) (ss : List Int) (W : World), Holds (Value.int .i64) W blk off ss.toArray → blk < W.heap.size → ss.length < 4611686018427387904 →
      CallsIn F (n - 1) Try.prog 42 #[.slice (some ⟨blk, off, none⟩) ss.length cap] W fun e w' => e = .returned (.tuple #[]) ∧ ∃ k os, w' = grow (putRow (Value.int .i64) (Sort.ahead W k) blk off (ss.mergeSort fun x y => decide (x ≤ y)).toArray) os)
    (hnone : ∀ (p : Option Addr) (cap : Nat) (W : World), CallsIn F (n - 1) Try.prog 42 #[.slice p 0 cap] W fun e w' => e = .returned (.tuple #[]) ∧ w' = W)
    (Bs Bo : Nat) (sv : Value) (zs : List Int) (hlen : zs.length ≤ 1000000) (w : World) (hBs : Bs < w.heap.size)
    (hcs : w.cell? ⟨Bs, Bo, none⟩ = some sv) (hI : Wsi.Ints w.heap.size w sv zs) :
    CallsIn F n Try.prog 39 #[.func (.func 43) #[] #[.pointer (some ⟨Bs, Bo, none⟩)]] w fun e W' => ∃ v, e = .returned v ∧ W'.ownsRow w.heap.size 3 1 v zs.length ((zs.mergeSort fun x y => decide (x ≤ y)).map (Value.int .i64)) ∧ Below w.heap.size w W' := by
  have h1 : 1 ≤ n := by omega
  refine callsIn_of_wp Try.func39 rfl h39 ?_ hro
  simp only [Try.ntmps39, List.size_toArray, List.length_cons, List.length_nil, Nat.reduceAdd, Nat.reduceSub, Array.replicate_succ, Array.replicate_zero, List.push_toArray, List.append_toArray, List.nil_append, List.cons_append]
  gi_wp2_with (gi_at_call 41; refine (Wsi.collect_in F (n - 1) h41 h44 h43 hro (by omega) Bs Bo sv zs (by simp only [maxLen]; omega) (by omega) w hBs hcs hI).mono ?_; rintro e W ⟨v, rfl, hrow, hnil, hb⟩)
  rcases hrow.2 with ⟨rfl, hz⟩ | ⟨gb, cap, cur, rfl, hbase, hgb, r1, r2, r3, r4⟩
  · have hss : zs = [] := List.eq_nil_of_length_eq_zero hz
    subst hss
    gi_wp2_with (gi_at_call 42; refine (hnone none 0 W).mono ?_; rintro e w' ⟨rfl, rfl⟩)
    go_ret
    exact ⟨.slice none 0 0, rfl, by simpa using hrow, hb⟩
  · have hH : Holds encZ W gb 0 zs.toArray := holds_of_block_i hgb (by simpa using r4)
    have hgl : gb < W.heap.size := (Array.getElem?_eq_some_iff.1 hgb).1
    have cS := hsort gb 0 cap zs W hH hgl (by omega)
    gi_wp2_with (gi_at_call 42; refine cS.mono ?_; rintro e w' ⟨rfl, nn, os, rfl⟩)
    go_ret
    exact ⟨_, rfl, ownsRow_sorted_i (by simp) hbase hgb r1 r2 r3, hb.grown (grownBy_sorted_i _) hb.size (fun j hj => by cases hj; exact hbase)⟩
end Go.Proofs
