/- Writeback: '==' at an array of arrays of integers; cells of integers. -/
import Derived.Test.YtfmdbbpeeppiiaaWb2
import Derived.DeepKeys3
set_option linter.all false

namespace Go.AM
open Go Go.Proofs
set_option maxRecDepth 20000

theorem und42 : Try.prog.underlying 42 = some (.array 16 3) := by kernel_rfl
theorem und43 : Try.prog.underlying 43 = some (.array 4 42) := by kernel_rfl
theorem co3 : Try.prog.cellsOf 3 = 1 := by kernel_rfl
theorem co42 : Try.prog.cellsOf 42 = 16 := by kernel_rfl
theorem eqItems_ok {e : TypeId} {sz dd : Nat} {w : World} {xs ys : Array Value} {F : Nat → Bool} : ∀ {is : List Nat}, (∀ i ∈ is, ∃ a b, (part e xs (i * sz)).run Try.prog w = .ok a w ∧ (part e ys (i * sz)).run Try.prog w = .ok b w ∧ (Op.equalIn dd e a b).run Try.prog w = .ok (F i) w) →
    (Op.eqItems dd e sz xs ys is).run Try.prog w = .ok (is.all F) w
  | [], _ => rfl
  | i :: is, h => by
    obtain ⟨a, b, h1, h2, h3⟩ := h i (by simp)
    have ih := eqItems_ok (is := is) (F := F) fun j hj => h j (by simp [hj])
    simp only [Op.eqItems, Sem.run_bind, h1, h2, h3, Result.andThen_ok]
    cases hf : F i
    · simp [hf]
    · simp only [Bool.not_true, Bool.false_eq_true, if_false, List.all_cons, hf, Bool.true_and]
      exact ih
theorem getD_app {p : List Int} {i : Nat} (h : i < p.length) : p.getD i 0 = p[i] := by simp [List.getD_eq_getElem?_getD, h]
theorem eq42 (w : World) (d : Nat) (p q : List Int) (hp : p.length = 16) (hq : q.length = 16) : (Op.equalIn (d + 1 + 1) 42 (.agg (p.map (Value.int .i64)).toArray) (.agg (q.map (Value.int .i64)).toArray)).run Try.prog w = .ok (decide (p = q)) w := by
  obtain ⟨i0, hi⟩ := info_of_underlying und3
  rw [run_equalIn_array w (d + 1) _ _ und42 hi, co3, eqItems_ok (F := fun i => decide (p.getD i 0 = q.getD i 0)) fun i hi => ?_]
  · congr 1
    rw [Bool.eq_iff_iff]
    simp only [List.all_eq_true, List.mem_range, decide_eq_true_eq]
    constructor
    · intro h
      refine List.ext_getElem (by omega) fun i h1 h2 => ?_
      have := h i (by omega)
      rwa [getD_app h1, getD_app h2] at this
    · rintro rfl i _; rfl
  · have h16 : i < 16 := by simpa using hi
    refine ⟨.int .i64 p[i], .int .i64 q[i], run_part_plain w pl3 (by simp [show i < p.length by omega]), run_part_plain w pl3 (by simp [show i < q.length by omega]), ?_⟩
    rw [run_equalIn_int w d 3 .i64 .i64 _ _ und3, getD_app (by omega), getD_app (by omega)]
    congr 1
theorem part42 (w : World) (p : List Int) (i : Nat) (_h : i < 4) : (part 42 (p.map (Value.int .i64)).toArray (i * 16)).run Try.prog w = .ok (.agg (((p.drop (i * 16)).take 16).map (Value.int .i64)).toArray) w := by
  obtain ⟨i0, hi⟩ := info_of_underlying und42
  simp only [part, isAgg, Sem.run_bind, run_underlying und42, Result.andThen_ok, Sem.run_pure, if_true, run_sizeOf w hi, co42]
  congr 2
  apply Array.toList_inj.1
  rw [Array.toList_extract]
  simp [List.extract, List.map_take, List.map_drop]
theorem eq43' (w : World) (d : Nat) (p q : List Int) (hp : p.length = 64) (hq : q.length = 64) : (Op.equalIn (d + 1 + 1 + 1) 43 (.agg (p.map (Value.int .i64)).toArray) (.agg (q.map (Value.int .i64)).toArray)).run Try.prog w = .ok (decide (p = q)) w := by
  obtain ⟨i0, hi⟩ := info_of_underlying und42
  rw [run_equalIn_array w (d + 1 + 1) _ _ und43 hi, co42, eqItems_ok (F := fun i => decide ((p.drop (i * 16)).take 16 = (q.drop (i * 16)).take 16)) fun i hi => ?_]
  · congr 1
    rw [Bool.eq_iff_iff]
    simp only [List.all_eq_true, List.mem_range, decide_eq_true_eq]
    constructor
    · intro h
      refine List.ext_getElem (by omega) fun i h1 h2 => ?_
      have h3 := congrArg (fun l => l[i % 16]?) (h (i / 16) (by omega))
      simp only [List.getElem?_take, List.getElem?_drop] at h3
      rw [if_pos (by omega), if_pos (by omega), show i / 16 * 16 + i % 16 = i by omega, List.getElem?_eq_getElem h1, List.getElem?_eq_getElem h2] at h3
      exact Option.some.inj h3
    · rintro rfl i _; rfl
  · have h4 : i < 4 := by simpa using hi
    exact ⟨_, _, part42 w p i h4, part42 w q i h4, eq42 w d _ _ (by simp; omega) (by simp; omega)⟩

theorem ckA {e : TypeId} {w : World} {xs : Array Value} {em : Bool} {d sz : Nat} (hs : (sizeOf e).run Try.prog w = .ok sz w) : ∀ {is : List Nat}, (∀ i ∈ is, ∃ a, (part e xs (i * sz)).run Try.prog w = .ok a w ∧ (Instr.checkKey em d e a).run Try.prog w = .ok () w) →
    (forIn is PUnit.unit fun i (_ : PUnit) => (do
      let n ← sizeOf e
      let a ← part e xs (i * n)
      Instr.checkKey em d e a
      pure (ForInStep.yield PUnit.unit) : Sem (ForInStep PUnit))).run Try.prog w = .ok PUnit.unit w
  | [], _ => rfl
  | i :: is, h => by
    obtain ⟨a, h1, h2⟩ := h i (by simp)
    simp only [List.forIn_cons, Sem.run_bind, hs, Result.andThen_ok, h1, h2, Sem.run_pure]
    exact ckA hs fun j hj => h j (by simp [hj])
theorem ck42 (w : World) (em : Bool) (d : Nat) (p : List Int) (hp : p.length = 16) : (Instr.checkKey em (d + 1 + 1) 42 (.agg (p.map (Value.int .i64)).toArray)).run Try.prog w = .ok () w := by
  obtain ⟨i0, hi⟩ := info_of_underlying und3
  have hs : (sizeOf 3).run Try.prog w = .ok 1 w := by rw [run_sizeOf w hi, co3]
  rw [Instr.checkKey]
  simp only [Sem.run_bind, run_underlying und42, Result.andThen_ok]
  simp only [Std.Legacy.Range.forIn_eq_forIn_range', Std.Legacy.Range.size, Nat.sub_zero, Nat.add_one_sub_one, Nat.div_one]
  have := ckA (em := em) (d := d + 1) (xs := (p.map (Value.int .i64)).toArray) hs (is := List.range' 0 16) fun i hi => ⟨.int .i64 (p[i]'(by simp at hi; omega)), run_part_plain w pl3 (by
    have : i < p.length := by simp at hi; omega
    simp [this]), ck3 w em _ d⟩
  first | (rw [this]; rfl) | exact congrArg (fun r => Result.andThen r fun _ w' => Result.ok () w') this
theorem ck43 (w : World) (em : Bool) (d : Nat) (p : List Int) (hp : p.length = 64) : (Instr.checkKey em (d + 1 + 1 + 1) 43 (.agg (p.map (Value.int .i64)).toArray)).run Try.prog w = .ok () w := by
  obtain ⟨i0, hi⟩ := info_of_underlying und42
  have hs : (sizeOf 42).run Try.prog w = .ok 16 w := by rw [run_sizeOf w hi, co42]
  rw [Instr.checkKey]
  simp only [Sem.run_bind, run_underlying und43, Result.andThen_ok]
  simp only [Std.Legacy.Range.forIn_eq_forIn_range', Std.Legacy.Range.size, Nat.sub_zero, Nat.add_one_sub_one, Nat.div_one]
  have := ckA (em := em) (d := d + 1 + 1) (xs := (p.map (Value.int .i64)).toArray) hs (is := List.range' 0 4) fun i hi => by
    have h4 : i < 4 := by simp at hi; omega
    exact ⟨_, part42 w p i h4, ck42 w em d _ (by simp; omega)⟩
  first | (rw [this]; rfl) | exact congrArg (fun r => Result.andThen r fun _ w' => Result.ok () w') this
def zi64 : List Value := List.replicate 64 (.int .i64 0)
theorem ty42 : Types Try.prog 42 = some ⟨.array 16 3, 16, 128, List.replicate 16 (.int .i64 0)⟩ := by kernel_rfl
theorem ty43 : Types Try.prog 43 = some ⟨.array 4 42, 64, 512, zi64⟩ := by kernel_rfl
theorem eqok43 : EqOK Try.prog 43 := by
  intro d hd
  have hz : d.zero = List.replicate 64 (.int .i64 0) := by rw [ty43, Option.some.injEq] at hd; subst hd; rfl
  refine ⟨fun w xs b hk => ?_, fun w xs ys b hk he => ⟨?_, by kernel_rfl⟩⟩
  · rw [hz] at hk
    obtain ⟨p, rfl, hpl⟩ := sameKV_list hk
    exact ck43 w b 9997 p hpl
  · rw [hz] at hk
    obtain ⟨p, rfl, hpl⟩ := sameKV_list hk
    obtain ⟨q, rfl, hql, rfl⟩ := eqV_list he
    exact eq43' w 9997 p q hpl (by omega)

/-- The cells of an array of integers. -/
def ics (l : List Int) : List AV := l.map I
@[simp] theorem ics_len (l : List Int) : (ics l).length = l.length := by simp [ics]
theorem ics_get {l : List Int} {n : Nat} (h : n < l.length) : (ics l)[n]? = some (I (l.getD n 0)) := by
  simp [ics, List.getD_eq_getElem?_getD, h]
theorem ics_set (l : List Int) (n : Nat) (v : Int) : (ics l).set n (I v) = ics (l.set n v) := by
  simp [ics, List.map_set]
@[simp] theorem ics_under (n : Nat) (l : List Int) : AV.underL n (ics l) := by
  induction l with
  | nil => simp [ics, AV.underL]
  | cons x l ih => simp only [ics, List.map_cons, AV.underL]; exact ⟨by simp [AV.under], ih⟩
@[simp] theorem ics_cur (M : Nat → AO) (l : List Int) : curL M (ics l) := by
  induction l with
  | nil => simp [ics, curL]
  | cons x l ih => simp only [ics, List.map_cons, curL]; exact ⟨by simp [AV.cur], ih⟩
@[simp] theorem ics_iso (n : Nat) (σ : Nat → Nat) (l : List Int) : isoL n σ (ics l) = ics l := by
  induction l with
  | nil => simp [ics, isoL]
  | cons x l ih => simp only [ics, List.map_cons, isoL] at ih ⊢; rw [ih]; simp [AV.iso]
def oi64 : List Int := List.replicate 64 0
theorem zi64_one : ∀ x ∈ zi64, x.oneCell' = true := by
  intro x hx
  rw [(List.mem_replicate.1 hx).2]; rfl
theorem zi64_all : (∀ x : Value, x ∈ zi64 → x.oneCell' = true) = True := eq_true zi64_one
theorem zi64_map : zi64.map AV.v = ics oi64 := by
  unfold zi64 ics oi64
  rw [List.map_replicate, List.map_replicate]
theorem eqL_ics : ∀ {a b : List Int}, a.length = b.length → eqL (ics a) (ics b) = some (decide (a = b))
  | [], [], _ => by simp [ics, eqL]
  | x :: a, y :: b, h => by
    have ih := eqL_ics (a := a) (b := b) (by simpa using h)
    unfold ics at ih ⊢
    simp only [List.map_cons, eqL, ih]
    simp
  | [], _ :: _, h => by simp at h
  | _ :: _, [], h => by simp at h
theorem sameK_ics : ∀ {n : Nat} {a : List Int}, a.length = n → sameK (List.replicate n (.int .i64 0)) (ics a) = true
  | 0, [], _ => by simp [ics, sameK]
  | n + 1, x :: a, h => by
    have ih := sameK_ics (n := n) (a := a) (by simpa using h)
    unfold ics at ih ⊢
    simp only [List.replicate_succ, List.map_cons, sameK, ih]
    simp
  | 0, _ :: _, h => by simp at h
  | _ + 1, [], h => by simp at h
end Go.AM
