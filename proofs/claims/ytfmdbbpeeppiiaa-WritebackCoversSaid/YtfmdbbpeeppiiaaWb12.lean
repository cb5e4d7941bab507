/- Writeback: slices.Collect of the runs: a new slice that holds them (lines of a worked proof, turned to this program). -/
import Derived.Test.YtfmdbbpeeppiiaaWb11
import Derived.RangeFuncNested
import Derived.Test.YtfmdbbpeeppiiaaAmOn
set_option linter.all false

namespace Go.Proofs
open Go Go.RowKit Go.Shelf Go.AM

attribute [local go_sem] Oper.semAt_some

theorem Wbi.stops (n : Nat) (hn : 1 ≤ n) (Bs Bo Bm Mo b off cap : Nat) (L : List Mp) (m : Int) (hL : L.length ≤ 64) (hv : ∀ j, j < L.length → 0 ≤ (gm L j).2 ∧ (gm L j).2 < 16) (w : World) (hb : b < w.heap.size) (hbs : Bs < w.heap.size) (hbm : Bm < w.heap.size)
    (hBs : w.cell? ⟨Bs, Bo, none⟩ = some (.slice (some ⟨b, off, none⟩) L.length cap)) (hBm : w.cell? ⟨Bm, Mo, none⟩ = some (.int .i64 m))
    (hc0 : ∀ j, j < L.length → w.cell? ⟨b, off + j * 2, none⟩ = some (.int .i64 (gm L j).1)) (hc1 : ∀ j, j < L.length → w.cell? ⟨b, off + j * 2 + 1, none⟩ = some (.int .i64 (gm L j).2)) (n₀ : Nat) (hn₀ : n₀ ≤ w.heap.size) (hb' : b < n₀) (hbs' : Bs < n₀) (hbm' : Bm < n₀) :
    SeqStopsK Fence.wide n Try.prog 53 #[.pointer (some ⟨Bs, Bo, none⟩), .pointer (some ⟨Bm, Mo, none⟩)] Wbi.enc (Below n₀) (fun ys => ys = runL m L) (fun pre => pre <+: runL m L) 64 w := fun l J Jx W hW hA _ hY h0 =>
  Wbi.runs1_in n hn l Bs Bo Bm Mo n₀ b off cap L m hL hv hb' hbs' hbm' J Jx (fun pre W hj => hA pre W W.drew none hj ⟨rfl, rfl, rfl, Nat.le_refl _, fun _ _ _ => rfl⟩ (fun r e => by cases e)) hY W
    ((hW.cell (p := ⟨Bs, Bo, none⟩) hbs).trans hBs) ((hW.cell (p := ⟨Bm, Mo, none⟩) hbm).trans hBm) (fun j hj => (hW.cell (p := ⟨b, off + j * 2, none⟩) hb).trans (hc0 j hj)) (fun j hj => (hW.cell (p := ⟨b, off + j * 2 + 1, none⟩) hb).trans (hc1 j hj)) h0

def Boxed3 (W : World) (B : Nat) (t : TypeId) (a b c : Value) : Prop := W.heap[B]? = some (.cells #[a, b, c] t (0, 0))
theorem Boxed3.lt {W : World} {B : Nat} {t : TypeId} {a b c : Value} (h : Boxed3 W B t a b c) : B < W.heap.size := (Array.getElem?_eq_some_iff.1 h).1
theorem Boxed3.cells {W : World} {B : Nat} {t : TypeId} {a b c : Value} (h : Boxed3 W B t a b c) : W.cell? ⟨B, 0, none⟩ = some a ∧ W.cell? ⟨B, 1, none⟩ = some b ∧ W.cell? ⟨B, 2, none⟩ = some c := by
  simp [World.cell?, show W.heap[B]? = _ from h]
theorem Boxed3.own {β : Type} (B : Nat) (t : TypeId) (a b c : Value) : Own (fun (_ : β) W => Boxed3 W B t a b c) := by
  intro s X Y row h hg hrow
  refine (hg.block B (Boxed3.lt h) fun e => ?_).trans h
  obtain ⟨o, ho, hc⟩ := hrow B e.symm
  rw [show X.heap[B]? = _ from h] at ho
  cases ho; cases hc
theorem Boxed3.new (W : World) (t : TypeId) (a b c : Value) : Boxed3 (W.alloc (.cells #[a, b, c] t)) W.heap.size t a b c := World.alloc_heap_new W _

theorem cell_three_new (w : World) (x y z : Value) (t : TypeId) : ∀ j u, [x, y, z][j]? = some u → (w.alloc (.cells #[x, y, z] t)).cell? ((⟨w.heap.size, 0, none⟩ : Addr).add j) = some u := by
  intro j u h
  rw [List.getElem?_eq_some_iff] at h
  obtain ⟨hj, rfl⟩ := h
  match j, hj with
  | 0, _ => exact (Boxed3.new w t x y z).cells.1
  | 1, _ => exact (Boxed3.new w t x y z).cells.2.1
  | 2, _ => exact (Boxed3.new w t x y z).cells.2.2
theorem Wbi.info38 : (Try.prog.info? 38).map (fun i => (i.zero, i.size, i.bytes)) = some (some (.agg #[.int .i64 0, .int .i64 0, .int .i64 0]), 3, 24) := by kernel_rfl
def Wbi.flat (ys : List Tp) : List Value := ys.flatMap fun x => [.int .i64 x.1, .int .i64 x.2.1, .int .i64 x.2.2]

set_option maxRecDepth 100000 in
set_option maxHeartbeats 40000000 in
theorem Wbi.append_in (n : Nat) (hn : 2 ≤ n) (Bs Bo Bm Mo : Nat) (Y : List Tp) (w : World)
    (hseq : ∀ w1, Below w.heap.size w w1 → SeqStopsK Fence.wide (n - 1) Try.prog 53 #[.pointer (some ⟨Bs, Bo, none⟩), .pointer (some ⟨Bm, Mo, none⟩)] Wbi.enc (Below w.heap.size) (fun ys => ys = Y) (fun pre => pre <+: Y) 64 w1) :
    CallsIn Fence.wide n Try.prog 52 #[.slice none 0 0, .func (.func 53) #[] #[.pointer (some ⟨Bs, Bo, none⟩), .pointer (some ⟨Bm, Mo, none⟩)]] w fun e W' => ∃ v, e = .returned v ∧ W'.ownsRow w.heap.size 38 3 v Y.length (Wbi.flat Y) ∧ OneB W' v ∧ (v = .slice none 0 0 ↔ Y = []) ∧ Below w.heap.size w W' := by
  have h1 : 1 ≤ n := by omega
  have t38 := Try.underlying38; have a38 := Try.isAgg38; have z38 := Try.sizeOf38; have v38 := Try.zeroValue38
  have t33 := Try.underlying33; have a33 := Try.isAgg33; have z33 := Try.sizeOf33; have v33 := Try.zeroValue33
  obtain ⟨i0, hi, hz0, hz1, hz2⟩ := info_parts Wbi.info38
  refine callsIn_of_wp_marks Try.func52 rfl trivial ?_ rfl
  simp only [Try.ntmps52, List.size_toArray, List.length_cons, List.length_nil, Nat.reduceAdd, Nat.reduceSub, Array.replicate_succ, Array.replicate_zero, List.push_toArray, List.append_toArray, List.nil_append, List.cons_append]
  gi_wp2
  have bO := Boxed.new w 33 (.slice none 0 0)
  have hB0 : Below w.heap.size w (w.alloc (.cells #[.slice none 0 0] 33)) := (Below.refl _ w).alloc (Nat.le_refl _) _
  refine wpIn_rangeFunc_ownH rfl h1 (gf := 53) (lb := #[.pointer (some ⟨Bs, Bo, none⟩), .pointer (some ⟨Bm, Mo, none⟩)]) rfl trivial (enters_of Try.func53 (by kernel_rfl) rfl)
    (hseq _ hB0) belowK_t (belowK_b (by simp)) (Below.refl _ _) (fun _ => rfl)
    (fun pre W => (∃ v, Boxed W w.heap.size 33 v ∧ W.ownsRow w.heap.size 38 3 v pre.length (Wbi.flat pre) ∧ OneB W v ∧ (v = .slice none 0 0 ↔ pre = [])) ∧ Below w.heap.size w W)
    (fun _ _ _ => False)
    (OwnFrom.and (Own.from (holdsRowOne_own w.heap.size w.heap.size 33 38 3 (fun pre => pre.length) Wbi.flat (fun pre v => v = .slice none 0 0 ↔ pre = [])) _) (ownFrom_below (Nat.le_refl _) (by simp)))
    (fun _ _ _ _ _ hs _ _ => hs)
    ⟨⟨_, bO, World.ownsRow_nil _ _ _ _, OneB.nil _, by simp⟩, hB0⟩
    (fun x a' W => ∃ Bx, w.heap.size < Bx ∧ Boxed3 W Bx 38 (.int .i64 x.1) (.int .i64 x.2.1) (.int .i64 x.2.2) ∧ a' = { tmps := #[.slice none 0 0, .func (.func 53) #[] #[.pointer (some ⟨Bs, Bo, none⟩), .pointer (some ⟨Bm, Mo, none⟩)], .pointer (some ⟨w.heap.size, 0, none⟩), undef, .slice none 0 0, .pointer (some ⟨Bx, 0, none⟩), .func (.func 53) #[] #[.pointer (some ⟨Bs, Bo, none⟩), .pointer (some ⟨Bm, Mo, none⟩)], .agg #[.int .i64 x.1, .int .i64 x.2.1, .int .i64 x.2.2], undef, undef, undef, undef, undef], defers := [] })
    (fun x a' _ X Y row hs hg hr => by obtain ⟨Bx, e1, e2, e3⟩ := hs; exact ⟨Bx, e1, Boxed3.own (β := Unit) Bx 38 _ _ _ () X Y row e2 hg (fun r e => (hr r e).2), e3⟩)
    ?assign ?body ?done ?stop
  case assign =>
    rintro l pre x W K ⟨⟨v, hv1, hrow, hone, hnil⟩, hB1⟩ hK
    simp only [Wbi.enc]
    gi_wp2
    exact hK _ _ ((KeepsOthers.alloc _ _).from _) ((Below.refl _ W).alloc hB1.size _) ⟨⟨v, hv1.alloc _, hrow.alloc _, hone.alloc hrow _, hnil⟩, hB1.alloc hB1.size _⟩ ⟨W.heap.size, hv1.lt, Boxed3.new W 38 _ _ _, rfl⟩
  case body =>
    rintro l pre x a' W hl ⟨r, hr⟩ ⟨⟨v, hv1, hrow, hone, hnil⟩, hB1⟩ ⟨Bx, hBx, bX, rfl⟩ hlt
    have hc := hv1.cell
    obtain ⟨x0, x1, x2⟩ := bX.cells
    gi_wp2_with (gi_at_builtin; refine wpListIn_append_one _ rfl _ _ 33 rfl w.heap.size 38 i0 _ 3 24 Try.underlying33 hi hz0 hz1 hz2 rfl (by decide) _ _ _ rfl (hrow.alloc _) ⟨W.heap.size, 0, none⟩ 1 1 [.int .i64 x.1, .int .i64 x.2.1, .int .i64 x.2.2] rfl rfl (cell_three_new _ _ _ _ _) (by simp [Value.oneCell']) (by unfold maxLen; omega) (by omega) (by have := hB1.size; simp; omega) (by simp [Value.cells, Value.oneCell']) (hone.alloc hrow _) ?_; intro v' w1 hown' hgrow _ hone'; obtain ⟨g', cap', rfl⟩ := ownsRow_succ hown'; obtain ⟨hv1, hv2, hr2, hk2, hb2⟩ := hv1.appended (by decide) hrow hB1.size (Nat.le_refl _) hown' hgrow; have hc1 := hv1.cell; have hf1 := hv1.frozen; have ho2 := hone'.set (v' := .slice (some ⟨g', 0, none⟩) (pre.length + 1) cap') (hv1.not_row (by decide) hown').symm)
    exact ⟨hk2.from _, hb2, ⟨_, hv2, by simpa [Wbi.flat] using hr2, ho2, by simp⟩, hB1.trans hb2⟩
  case done =>
    rintro D ys W hD rfl ⟨⟨v, hv1, hrow, hone, hnil⟩, hB1⟩ hK
    have hc := hv1.cell
    gi_wp2
    refine ⟨by simp, .inl ⟨_, _, rfl, run_takeDeferred hK, ?_⟩⟩
    exact ⟨_, results_tmp rfl _ _ _, v, rfl, ownsRow_putObj hrow _ hK rfl, oneB_putObj hone hrow _ hK rfl, hnil, hB1.trans (belowK_b (w := w) (Nat.le_refl _) W D _ _ (by simp at hD; omega) hK rfl rfl)⟩
  case stop =>
    rintro D c pre W _ _ h _
    exact h.elim

set_option maxRecDepth 100000 in
set_option maxHeartbeats 2000000 in
theorem Wbi.collect_of (n : Nat) (hn : 3 ≤ n) (Bs Bo Bm Mo : Nat) (Y : List Tp) (w : World)
    (hseq : ∀ w1, Below w.heap.size w w1 → SeqStopsK Fence.wide (n - 1 - 1) Try.prog 53 #[.pointer (some ⟨Bs, Bo, none⟩), .pointer (some ⟨Bm, Mo, none⟩)] Wbi.enc (Below w.heap.size) (fun ys => ys = Y) (fun pre => pre <+: Y) 64 w1) :
    CallsIn Fence.wide n Try.prog 43 #[.func (.func 53) #[] #[.pointer (some ⟨Bs, Bo, none⟩), .pointer (some ⟨Bm, Mo, none⟩)]] w fun e W' => ∃ v, e = .returned v ∧ W'.ownsRow w.heap.size 38 3 v Y.length (Wbi.flat Y) ∧ OneB W' v ∧ (v = .slice none 0 0 ↔ Y = []) ∧ Below w.heap.size w W' := by
  have h1 : 1 ≤ n := by omega
  have hf : Fence.wide.fn 52 := trivial
  refine callsIn_of_wp Try.func43 rfl trivial ?_ rfl
  simp only [Try.ntmps43, List.size_toArray, List.length_cons, List.length_nil, Nat.reduceAdd, Nat.reduceSub, Array.replicate_succ, Array.replicate_zero, List.push_toArray, List.append_toArray, List.nil_append, List.cons_append]
  gi_wp2_with (gi_at_call 52; refine (Wbi.append_in (n - 1) (by omega) Bs Bo Bm Mo Y w hseq).mono ?_; rintro e w' ⟨v, rfl, hrow, hone, hnil, hb⟩)
  go_ret
  exact ⟨v, rfl, hrow, hone, hnil, hb⟩
theorem Wbi.collect_in (n : Nat) (hn : 3 ≤ n) (Bs Bo Bm Mo b off cap : Nat) (L : List Mp) (m : Int) (hL : L.length ≤ 64) (hv : ∀ j, j < L.length → 0 ≤ (gm L j).2 ∧ (gm L j).2 < 16) (w : World) (hb : b < w.heap.size) (hbs : Bs < w.heap.size) (hbm : Bm < w.heap.size)
    (hBs : w.cell? ⟨Bs, Bo, none⟩ = some (.slice (some ⟨b, off, none⟩) L.length cap)) (hBm : w.cell? ⟨Bm, Mo, none⟩ = some (.int .i64 m))
    (hc0 : ∀ j, j < L.length → w.cell? ⟨b, off + j * 2, none⟩ = some (.int .i64 (gm L j).1)) (hc1 : ∀ j, j < L.length → w.cell? ⟨b, off + j * 2 + 1, none⟩ = some (.int .i64 (gm L j).2)) :
    CallsIn Fence.wide n Try.prog 43 #[.func (.func 53) #[] #[.pointer (some ⟨Bs, Bo, none⟩), .pointer (some ⟨Bm, Mo, none⟩)]] w fun e W' => ∃ v, e = .returned v ∧ W'.ownsRow w.heap.size 38 3 v (runL m L).length (Wbi.flat (runL m L)) ∧ OneB W' v ∧ (v = .slice none 0 0 ↔ runL m L = []) ∧ Below w.heap.size w W' :=
  Wbi.collect_of n hn Bs Bo Bm Mo _ w fun w1 hB => Wbi.stops _ (by omega) Bs Bo Bm Mo b off cap L m hL hv w1 (Nat.lt_of_lt_of_le hb hB.size) (Nat.lt_of_lt_of_le hbs hB.size) (Nat.lt_of_lt_of_le hbm hB.size)
    ((hB.cell (p := ⟨Bs, Bo, none⟩) hbs).trans hBs) ((hB.cell (p := ⟨Bm, Mo, none⟩) hbm).trans hBm) (fun j hj => (hB.cell (p := ⟨b, off + j * 2, none⟩) hb).trans (hc0 j hj)) (fun j hj => (hB.cell (p := ⟨b, off + j * 2 + 1, none⟩) hb).trans (hc1 j hj)) w.heap.size hB.size hb hbs hbm
theorem Wbi.collect_nil_in (n : Nat) (hn : 3 ≤ n) (Bs Bo Bm Mo : Nat) (p : Option Addr) (c : Nat) (m : Int) (w : World) (hbs : Bs < w.heap.size) (hBs : w.cell? ⟨Bs, Bo, none⟩ = some (.slice p 0 c)) :
    CallsIn Fence.wide n Try.prog 43 #[.func (.func 53) #[] #[.pointer (some ⟨Bs, Bo, none⟩), .pointer (some ⟨Bm, Mo, none⟩)]] w fun e W' => ∃ v, e = .returned v ∧ W'.ownsRow w.heap.size 38 3 v (runL m []).length (Wbi.flat (runL m [])) ∧ OneB W' v ∧ (v = .slice none 0 0 ↔ runL m [] = []) ∧ Below w.heap.size w W' := by
  rw [runL_nil]
  exact Wbi.collect_of n hn Bs Bo Bm Mo _ w fun w1 hB l J Jx W hW _ _ _ h0 =>
    (Wbi.runs1_nil_in _ l Bs Bo Bm Mo p c J W ((hW.cell (p := ⟨Bs, Bo, none⟩) (Nat.lt_of_lt_of_le hbs hB.size)).trans ((hB.cell (p := ⟨Bs, Bo, none⟩) hbs).trans hBs)) h0).mono fun e W' ⟨he, hj⟩ => ⟨he, .inl ⟨_, rfl, hj⟩⟩
end Go.Proofs
