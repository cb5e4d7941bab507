/- Writeback: the runs that the iterator gives (lines of a worked proof, turned to this program). -/
import Derived.RangeFuncBox
import Derived.RangeFuncLeaves
import Derived.Shelf.Abstract
import Derived.WalkKit
import Derived.OwnWalkIn
import Derived.TacticsInMore
import Derived.LoopNIn
import Derived.LoopIn
import Derived.Maps.AppendAt
import Derived.Test.YtfmdbbpeeppiiaaAmIt
import Derived.ControlIn
import Derived.Test.YtfmdbbpeeppiiaaWbP
set_option linter.all false

namespace Go.Proofs
open Go Go.RowKit Go.Shelf Go.AM

attribute [local go_sem] Oper.semAt_some

def Wbi.enc (x : Tp) : Array Value := #[.agg #[.int .i64 x.1, .int .i64 x.2.1, .int .i64 x.2.2]]

theorem Wbi.cont_fact {m : Int} {L : List Mp} {k q : Nat} (g1 : (q : Int) < m) (g2 : k + q < L.length) (g3 : (gm L (k + q)).1 = (gm L k).1) (g4 : (gm L (k + q)).2 = (gm L k).2 + q) : plc1 m (L.drop k) q = true := by
  unfold plc1
  have e0 : gm (L.drop k) 0 = gm L k := by unfold gm; simp [List.getD_eq_getElem?_getD]
  rw [e0, List.getElem?_drop, List.getElem?_eq_getElem g2, ← gm_eq g2]
  simp only [Bool.and_eq_true, decide_eq_true_eq, Option.some.injEq]
  exact ⟨g1, Prod.ext g3 g4⟩
theorem Wbi.exit_fact {m : Int} {L : List Mp} {k q : Nat} {pre : List Tp} (hpre : pre ++ runL m (L.drop k) = runL m L) (hlt : k < L.length) (hq1 : 1 ≤ q) (hq2 : k + q ≤ L.length) (hqp : ∀ j, 1 ≤ j → j < q → plc1 m (L.drop k) j = true)
    (hend : (q : Int) < m → k + q < L.length → (gm L (k + q)).1 = (gm L k).1 → ¬ (gm L (k + q)).2 = (gm L k).2 + q) : (pre ++ [((gm L k).1, (gm L k).2, (q : Int))]) ++ runL m (L.drop (k + q)) = runL m L := by
  have hcn : cntP m (L.drop k) = q := cntP_at hq1 (by rw [List.length_drop]; omega) hqp fun h2 => by
    rw [List.length_drop] at h2
    have g2 : k + q < L.length := by omega
    rw [Bool.eq_false_iff]
    intro h
    unfold plc1 at h
    have e0 : gm (L.drop k) 0 = gm L k := by unfold gm; simp [List.getD_eq_getElem?_getD]
    rw [e0, List.getElem?_drop, List.getElem?_eq_getElem g2, ← gm_eq g2] at h
    simp only [Bool.and_eq_true, decide_eq_true_eq, Option.some.injEq] at h
    exact hend h.1 g2 (by rw [h.2]) (by rw [h.2])
  have hrl := runL_cons m (gm L k) (L.drop (k + 1))
  have hdk : gm L k :: L.drop (k + 1) = L.drop k := by rw [List.drop_eq_getElem_cons hlt, gm_eq hlt]
  rw [hdk, hcn, List.drop_drop] at hrl
  rw [← hpre, hrl]
  simp

set_option maxRecDepth 100000 in
set_option maxHeartbeats 40000000 in
theorem Wbi.runs1_in (n : Nat) (hn : 1 ≤ n) (l Bs Bo Bm Mo n₀ b off cap : Nat) (L : List Mp) (m : Int) (hL : L.length ≤ 64) (hv : ∀ j, j < L.length → 0 ≤ (gm L j).2 ∧ (gm L j).2 < 16) (hb : b < n₀) (hbs : Bs < n₀) (hbm : Bm < n₀) (J Jx : List Tp → World → Prop) (hJd : ∀ pre W, J pre W → J pre W.drew)
    (hY : ∀ pre x W, J pre W → pre.length < 64 → YieldAt Fence.wide (n - 1) Try.prog l (Wbi.enc x) W fun e W' =>
      (e = .returned (.bool true) ∧ J (pre ++ [x]) W' ∧ Below n₀ W W') ∨ (e = .returned (.bool false) ∧ Jx (pre ++ [x]) W'))
    (W : World) (hBs : W.cell? ⟨Bs, Bo, none⟩ = some (.slice (some ⟨b, off, none⟩) L.length cap)) (hBm : W.cell? ⟨Bm, Mo, none⟩ = some (.int .i64 m))
    (hc0 : ∀ j, j < L.length → W.cell? ⟨b, off + j * 2, none⟩ = some (.int .i64 (gm L j).1)) (hc1 : ∀ j, j < L.length → W.cell? ⟨b, off + j * 2 + 1, none⟩ = some (.int .i64 (gm L j).2)) (h0 : J [] W) :
    CallsIn Fence.wide n Try.prog 53 #[.func (.yield l) #[] #[], .pointer (some ⟨Bs, Bo, none⟩), .pointer (some ⟨Bm, Mo, none⟩)] W fun e W' => (∃ v, e = .returned v) ∧
      ((∃ ys, ys = runL m L ∧ J ys W') ∨ (∃ pre, pre <+: runL m L ∧ Jx pre W')) := by
  have mixed := AM.mixed; have t3 := Try.underlying3; have a3 := Try.isAgg3; have z3 := Try.sizeOf3; have v3 := Try.zeroValue3
  have t55 := Try.underlying55; have a55 := Try.isAgg55; have z55 := Try.sizeOf55; have v55 := Try.zeroValue55
  refine callsIn_of_wp Try.func53 rfl trivial ?_ rfl
  simp only [Try.ntmps53, List.size_toArray, List.length_cons, List.length_nil, Nat.reduceAdd, Nat.reduceSub, Array.replicate_succ, Array.replicate_zero, List.push_toArray, List.append_toArray, List.nil_append, List.cons_append]
  gi_wp2
  gi_loopw [4] (fun i wr => ∃ (k : Nat) (pre : List Tp), k ≤ L.length ∧ i = .int .i64 k ∧ pre.length ≤ k ∧ pre ++ runL m (L.drop k) = runL m L ∧ J pre wr ∧ Below n₀ W wr)
    (fun i _ => L.length - (intOf i).toNat)
  case atStart => exact ⟨0, [], Nat.zero_le _, rfl, by simp, by simp, h0, Below.refl _ _⟩
  case round =>
    obtain ⟨k, pre, hk, rfl, hpl, hpre, hJs, hnx⟩ := hrel
    have hBs' := (hnx.cell (p := ⟨Bs, Bo, none⟩) hbs).trans hBs
    have hBm' := (hnx.cell (p := ⟨Bm, Mo, none⟩) hbm).trans hBm
    by_cases hlt : k < L.length
    · gi_wp2
      gi_loopw [5] (fun i w2 => ∃ q : Nat, i = .int .i64 q ∧ 1 ≤ q ∧ k + q ≤ L.length ∧ (∀ j, 1 ≤ j → j < q → plc1 m (L.drop k) j = true) ∧ J pre w2 ∧ Below n₀ W w2)
        (fun i _ => L.length - (intOf i).toNat)
      case atStart => exact ⟨1, rfl, Nat.le_refl _, by omega, fun j h1 h2 => by omega, hJs, hnx⟩
      case round =>
        obtain ⟨q, rfl, hq1, hq2, hqp, hJs2, hnx2⟩ := hrel
        clear hJs hnx hBs' hBm'
        have hBs' := (hnx2.cell (p := ⟨Bs, Bo, none⟩) hbs).trans hBs
        have hBm' := (hnx2.cell (p := ⟨Bm, Mo, none⟩) hbm).trans hBm
        have d0 := (hnx2.cell (p := ⟨b, off + k * 2, none⟩) hb).trans (hc0 k hlt)
        have d1 := (hnx2.cell (p := ⟨b, off + k * 2 + 1, none⟩) hb).trans (hc1 k hlt)
        have hvk := hv k hlt
        have eW : IntKind.i64.wrap ((k : Int) + (q : Int)) = (k : Int) + (q : Int) := AM.wrap64 (by omega)
        have eV : IntKind.i64.wrap ((gm L k).2 + (q : Int)) = (gm L k).2 + (q : Int) := AM.wrap64 (by omega)
        have hp1 : (0 ≤ (k : Int) + (q : Int)) = True := eq_true (by omega)
        by_cases g1 : (q : Int) < m
        · have f1 : ∀ inst : Decidable ((q : Int) < m), @decide ((q : Int) < m) inst = true := fun _ => decide_eq_true (by omega)
          by_cases g2 : k + q < L.length
          · have f2 : ∀ inst : Decidable ((k : Int) + (q : Int) < (L.length : Int)), @decide ((k : Int) + (q : Int) < (L.length : Int)) inst = true := fun _ => decide_eq_true (by omega)
            have f3 : ((k : Int) + (q : Int) < (L.length : Int)) = True := eq_true (by omega)
            have f4 : ((k : Int) < (L.length : Int)) = True := eq_true (by omega)
            have c0 := (hnx2.cell (p := ⟨b, off + (k + q) * 2, none⟩) hb).trans (hc0 (k + q) g2)
            have c1 := (hnx2.cell (p := ⟨b, off + (k + q) * 2 + 1, none⟩) hb).trans (hc1 (k + q) g2)
            by_cases g3 : (gm L (k + q)).1 = (gm L k).1
            · by_cases g4 : (gm L (k + q)).2 = (gm L k).2 + q
              · gi_wp2
                refine wpIn_wide.2 ?_
                refine wp_region_still_lit mixed (by kernel_rfl) ?_
                repeat (first | (simp only [eW, eV, hp1, f1, f2, f3, f4, g3, g4, if_true]) | (refine wpStill_step (fun K hK => ?_); go_simp; simp only [eW, eV, hp1, f1, f2, f3, f4, g3, g4, if_true]; go_simp; refine hK _ ?_; clear hK K) | still_step)
                refine wpStill_nil ?_
                gi_wp2
                go_roundw
                case rel =>
                  refine ⟨q + 1, by congr 1 <;> omega, by omega, by omega, fun j h1 h2 => ?_, hJd _ _ hJs2, hnx2.drew⟩
                  rcases Nat.lt_succ_iff_lt_or_eq.1 h2 with h | rfl
                  · exact hqp j h1 h
                  · exact Wbi.cont_fact g1 g2 g3 g4
                case measure => (simp [intOf]; try omega)
              · gi_wp2
                refine wpIn_wide.2 ?_
                refine wp_region_still_lit mixed (by kernel_rfl) ?_
                repeat (first | (simp only [eW, eV, hp1, f1, f2, f3, f4, g3, g4, if_true, if_false]) | (refine wpStill_step (fun K hK => ?_); go_simp; simp only [eW, eV, hp1, f1, f2, f3, f4, g3, g4, if_true, if_false]; go_simp; refine hK _ ?_; clear hK K) | still_step)
                refine wpStill_nil ?_
                have hB1 : wr.drew.cell? ⟨Bs, Bo, none⟩ = _ := hBs'
                have hM1 : wr.drew.cell? ⟨Bm, Mo, none⟩ = _ := hBm'
                have dd0 : wr.drew.cell? ⟨b, off + k * 2, none⟩ = _ := d0
                have dd1 : wr.drew.cell? ⟨b, off + k * 2 + 1, none⟩ = _ := d1
                have hJ1 := hJd _ _ hJs2
                have hN1 := hnx2.drew
                show Exit.then _ _ _ _ wr.drew
                obtain ⟨w2, hw2⟩ : ∃ w2, w2 = wr.drew := ⟨_, rfl⟩
                rw [← hw2] at hB1 hM1 dd0 dd1 hJ1 hN1 ⊢
                clear hw2 hBs' hBm' d0 d1 hJs2 hnx2
                have k4 : ((k : Int) < (L.length : Int)) = True := eq_true (by omega)
                obtain ⟨fn, tmps, assign, body, hy, hR⟩ := hY pre ((gm L k).1, (gm L k).2, (q : Int)) w2.drew (hJd _ _ hJ1) (by omega)
                gi_wp2
                refine wide_region_tail 13 mixed (by kernel_rfl) ?_
                simp only [List.take_succ_cons, List.take_zero, List.drop_succ_cons, List.drop_zero]
                repeat (first | (refine wpStill_step (fun K hK => ?_); go_simp; simp only [k4, if_true]; go_simp; refine hK _ ?_; clear hK K) | still_step)
                simp only [Wbi.enc] at hy
                refine wpStill_nil ?_
                gi_wp2
                have hfin := Wbi.exit_fact hpre hlt hq1 hq2 hqp (fun _ _ _ h => g4 h)
                refine hR.mono ?_
                rintro e W3 (⟨rfl, hJ3, hk3⟩ | ⟨rfl, hJx3⟩)
                · gi_wp2
                  go_roundw
                  case rel => exact ⟨k + q, _, hq2, by congr 1 <;> omega, by simp; omega, hfin, hJ3, hN1.drew.trans hk3⟩
                  case measure => (simp [intOf]; try omega)
                · gi_wp2
                  refine bodyPost_ret (results_none rfl _ _ _) rfl ?_
                  exact ⟨⟨_, rfl⟩, .inr ⟨_, ⟨_, hfin⟩, hJx3⟩⟩
            · gi_wp2
              refine wpIn_wide.2 ?_
              refine wp_region_still_lit mixed (by kernel_rfl) ?_
              repeat (first | (simp only [eW, eV, hp1, f1, f2, f3, f4, g3, if_true, if_false]) | (refine wpStill_step (fun K hK => ?_); go_simp; simp only [eW, eV, hp1, f1, f2, f3, f4, g3, if_true, if_false]; go_simp; refine hK _ ?_; clear hK K) | still_step)
              refine wpStill_nil ?_
              have hB1 : wr.drew.cell? ⟨Bs, Bo, none⟩ = _ := hBs'
              have hM1 : wr.drew.cell? ⟨Bm, Mo, none⟩ = _ := hBm'
              have dd0 : wr.drew.cell? ⟨b, off + k * 2, none⟩ = _ := d0
              have dd1 : wr.drew.cell? ⟨b, off + k * 2 + 1, none⟩ = _ := d1
              have hJ1 := hJd _ _ hJs2
              have hN1 := hnx2.drew
              show Exit.then _ _ _ _ wr.drew
              obtain ⟨w2, hw2⟩ : ∃ w2, w2 = wr.drew := ⟨_, rfl⟩
              rw [← hw2] at hB1 hM1 dd0 dd1 hJ1 hN1 ⊢
              clear hw2 hBs' hBm' d0 d1 hJs2 hnx2
              have k4 : ((k : Int) < (L.length : Int)) = True := eq_true (by omega)
              obtain ⟨fn, tmps, assign, body, hy, hR⟩ := hY pre ((gm L k).1, (gm L k).2, (q : Int)) w2.drew (hJd _ _ hJ1) (by omega)
              gi_wp2
              refine wide_region_tail 13 mixed (by kernel_rfl) ?_
              simp only [List.take_succ_cons, List.take_zero, List.drop_succ_cons, List.drop_zero]
              repeat (first | (refine wpStill_step (fun K hK => ?_); go_simp; simp only [k4, if_true]; go_simp; refine hK _ ?_; clear hK K) | still_step)
              simp only [Wbi.enc] at hy
              refine wpStill_nil ?_
              gi_wp2
              have hfin := Wbi.exit_fact hpre hlt hq1 hq2 hqp (fun _ _ h => absurd h g3)
              refine hR.mono ?_
              rintro e W3 (⟨rfl, hJ3, hk3⟩ | ⟨rfl, hJx3⟩)
              · gi_wp2
                go_roundw
                case rel => exact ⟨k + q, _, hq2, by congr 1 <;> omega, by simp; omega, hfin, hJ3, hN1.drew.trans hk3⟩
                case measure => (simp [intOf]; try omega)
              · gi_wp2
                refine bodyPost_ret (results_none rfl _ _ _) rfl ?_
                exact ⟨⟨_, rfl⟩, .inr ⟨_, ⟨_, hfin⟩, hJx3⟩⟩
          · have H2 : Hid ((L.length : Int) ≤ (k : Int) + (q : Int)) := by show _ ≤ _; omega
            clear g2
            gi_wp2
            refine wpIn_wide.2 ?_
            refine wp_region_still_lit mixed (by kernel_rfl) ?_
            repeat (first | (simp only [eW, f1]) | (refine wpStill_step (fun K hK => ?_); go_simp; split; (exfalso; rename_i hh; have hq := H2.out; omega); refine hK _ ?_; clear hK K; rename_i hh; clear hh) | still_step)
            refine wpStill_nil ?_
            have hB1 : wr.drew.cell? ⟨Bs, Bo, none⟩ = _ := hBs'
            have hM1 : wr.drew.cell? ⟨Bm, Mo, none⟩ = _ := hBm'
            have dd0 : wr.drew.cell? ⟨b, off + k * 2, none⟩ = _ := d0
            have dd1 : wr.drew.cell? ⟨b, off + k * 2 + 1, none⟩ = _ := d1
            have hJ1 := hJd _ _ hJs2
            have hN1 := hnx2.drew
            show Exit.then _ _ _ _ wr.drew
            obtain ⟨w2, hw2⟩ : ∃ w2, w2 = wr.drew := ⟨_, rfl⟩
            rw [← hw2] at hB1 hM1 dd0 dd1 hJ1 hN1 ⊢
            clear hw2 hBs' hBm' d0 d1 hJs2 hnx2
            have k4 : ((k : Int) < (L.length : Int)) = True := eq_true (by omega)
            obtain ⟨fn, tmps, assign, body, hy, hR⟩ := hY pre ((gm L k).1, (gm L k).2, (q : Int)) w2.drew (hJd _ _ hJ1) (by omega)
            gi_wp2
            refine wide_region_tail 13 mixed (by kernel_rfl) ?_
            simp only [List.take_succ_cons, List.take_zero, List.drop_succ_cons, List.drop_zero]
            repeat (first | (refine wpStill_step (fun K hK => ?_); go_simp; simp only [k4, if_true]; go_simp; refine hK _ ?_; clear hK K) | still_step)
            simp only [Wbi.enc] at hy
            refine wpStill_nil ?_
            gi_wp2
            have hfin := Wbi.exit_fact hpre hlt hq1 hq2 hqp (fun _ h => absurd h (by have := H2.out; omega))
            refine hR.mono ?_
            rintro e W3 (⟨rfl, hJ3, hk3⟩ | ⟨rfl, hJx3⟩)
            · gi_wp2
              go_roundw
              case rel => exact ⟨k + q, _, hq2, by congr 1 <;> omega, by simp; omega, hfin, hJ3, hN1.drew.trans hk3⟩
              case measure => (simp [intOf]; try omega)
            · gi_wp2
              refine bodyPost_ret (results_none rfl _ _ _) rfl ?_
              exact ⟨⟨_, rfl⟩, .inr ⟨_, ⟨_, hfin⟩, hJx3⟩⟩
        · have H2 : Hid (m ≤ (q : Int)) := by show _ ≤ _; omega
          clear g1
          gi_wp2
          refine wpIn_wide.2 ?_
          refine wp_region_still_lit mixed (by kernel_rfl) ?_
          iterate 4 still_step
          iterate 6 (refine wpStill_step (fun K hK => ?_); go_simp; split; (exfalso; rename_i hh; have hq := H2.out; omega); refine hK _ ?_; clear hK K; rename_i hh; clear hh)
          obtain ⟨bv, HB⟩ : ∃ bv : Bool, Hid (bv = false) := ⟨false, rfl⟩
          have ev : ∀ (x : Value) (inst : Decidable ((q : Int) < m)), @ite _ ((q : Int) < m) inst x (Value.bool false) = Value.bool bv := fun x inst => by rw [if_neg (by have := H2.out; omega), HB.out]
          refine wpStill_step (fun K hK => ?_)
          go_simp
          refine hK _ ?_
          clear hK K ev
          repeat (first | (refine wpStill_step (fun K hK => ?_); go_simp; split; (exfalso; rename_i hh; rw [HB.out] at hh; simp at hh); refine hK _ ?_; clear hK K; rename_i hh; clear hh) | still_step)
          refine wpStill_nil ?_
          have hb := HB.out
          subst hb
          have hB1 : wr.drew.cell? ⟨Bs, Bo, none⟩ = _ := hBs'
          have hM1 : wr.drew.cell? ⟨Bm, Mo, none⟩ = _ := hBm'
          have dd0 : wr.drew.cell? ⟨b, off + k * 2, none⟩ = _ := d0
          have dd1 : wr.drew.cell? ⟨b, off + k * 2 + 1, none⟩ = _ := d1
          have hJ1 := hJd _ _ hJs2
          have hN1 := hnx2.drew
          show Exit.then _ _ _ _ wr.drew
          obtain ⟨w2, hw2⟩ : ∃ w2, w2 = wr.drew := ⟨_, rfl⟩
          rw [← hw2] at hB1 hM1 dd0 dd1 hJ1 hN1 ⊢
          clear hw2 hBs' hBm' d0 d1 hJs2 hnx2
          have k4 : ((k : Int) < (L.length : Int)) = True := eq_true (by omega)
          obtain ⟨fn, tmps, assign, body, hy, hR⟩ := hY pre ((gm L k).1, (gm L k).2, (q : Int)) w2.drew (hJd _ _ hJ1) (by omega)
          gi_wp2
          refine wide_region_tail 13 mixed (by kernel_rfl) ?_
          simp only [List.take_succ_cons, List.take_zero, List.drop_succ_cons, List.drop_zero]
          repeat (first | (refine wpStill_step (fun K hK => ?_); go_simp; simp only [k4, if_true]; go_simp; refine hK _ ?_; clear hK K) | still_step)
          simp only [Wbi.enc] at hy
          refine wpStill_nil ?_
          gi_wp2
          have hfin := Wbi.exit_fact hpre hlt hq1 hq2 hqp (fun h => absurd h (by have := H2.out; omega))
          refine hR.mono ?_
          rintro e W3 (⟨rfl, hJ3, hk3⟩ | ⟨rfl, hJx3⟩)
          · gi_wp2
            go_roundw
            case rel => exact ⟨k + q, _, hq2, by congr 1 <;> omega, by simp; omega, hfin, hJ3, hN1.drew.trans hk3⟩
            case measure => (simp [intOf]; try omega)
          · gi_wp2
            refine bodyPost_ret (results_none rfl _ _ _) rfl ?_
            exact ⟨⟨_, rfl⟩, .inr ⟨_, ⟨_, hfin⟩, hJx3⟩⟩
    · obtain rfl : k = L.length := by omega
      gi_wp2
      go_end0
      refine ⟨⟨_, rfl⟩, .inl ⟨_, ?_, hJs⟩⟩
      rw [List.drop_length, runL_nil] at hpre
      simpa using hpre

set_option maxRecDepth 100000 in
set_option maxHeartbeats 1000000 in
theorem Wbi.runs1_nil_in (n : Nat) (l Bs Bo Bm Mo : Nat) (p : Option Addr) (c : Nat) (J : List Tp → World → Prop) (W : World) (hBs : W.cell? ⟨Bs, Bo, none⟩ = some (.slice p 0 c)) (h0 : J [] W) :
    CallsIn Fence.wide n Try.prog 53 #[.func (.yield l) #[] #[], .pointer (some ⟨Bs, Bo, none⟩), .pointer (some ⟨Bm, Mo, none⟩)] W fun e W' => (∃ v, e = .returned v) ∧ J [] W' := by
  refine callsIn_of_wp Try.func53 rfl trivial ?_ rfl
  simp only [Try.ntmps53, List.size_toArray, List.length_cons, List.length_nil, Nat.reduceAdd, Nat.reduceSub, Array.replicate_succ, Array.replicate_zero, List.push_toArray, List.append_toArray, List.nil_append, List.cons_append]
  gi_wp2
  gi_loopw [4] (fun i wr => i = .int .i64 0 ∧ wr = W) (fun _ _ => 0)
  case atStart => exact ⟨rfl, rfl⟩
  case round =>
    obtain ⟨rfl, rfl⟩ := hrel
    gi_wp2
    go_end0
    exact ⟨⟨_, rfl⟩, h0⟩
end Go.Proofs
