/- Writeback: types; pages, places and runs as rows; small functions. -/
import Derived.Test.YtfmdbbpeeppiiaaAmZd
import Derived.Test.YtfmdbbpeeppiiaaAmZ
import Derived.Test.YtfmdbbpeeppiiaaWbO
import Derived.Test.YtfmdbbpeeppiiaaProg
import Derived.ProofKit
import Derived.Laws.StructEq
import Derived.ChangeKeysEq
set_option linter.all false

namespace Go.AM
open Go Go.Proofs

@[simp] theorem ty3 : Types Try.prog 3 = some ⟨.int .i64, 1, 8, [.int .i64 0]⟩ := by kernel_rfl
@[simp] theorem ty4 : Types Try.prog 4 = some ⟨.bool, 1, 1, [.bool false]⟩ := by kernel_rfl
@[simp] theorem ty22 : Types Try.prog 22 = some ⟨.slice 30, 1, 24, [.slice none 0 0]⟩ := by kernel_rfl
@[simp] theorem ty30 : Types Try.prog 30 = some ⟨.struct [(0, 3, 1), (1, 3, 1), (2, 3, 1)], 3, 24, [.int .i64 0, .int .i64 0, .int .i64 0]⟩ := by kernel_rfl
@[simp] theorem ty33 : Types Try.prog 33 = some ⟨.slice 38, 1, 24, [.slice none 0 0]⟩ := by kernel_rfl
@[simp] theorem ty38 : Types Try.prog 38 = some ⟨.struct [(0, 3, 1), (1, 3, 1), (2, 3, 1)], 3, 24, [.int .i64 0, .int .i64 0, .int .i64 0]⟩ := by kernel_rfl
@[simp] theorem ty52 : Types Try.prog 52 = some ⟨.map 55 4 (some (.bool false)), 1, 8, [.map none]⟩ := by kernel_rfl
@[simp] theorem ty55 : Types Try.prog 55 = some ⟨.struct [(0, 3, 1), (1, 3, 1)], 2, 16, [.int .i64 0, .int .i64 0]⟩ := by kernel_rfl
@[simp] theorem ty63 : Types Try.prog 63 = some ⟨.slice 55, 1, 24, [.slice none 0 0]⟩ := by kernel_rfl
theorem mixed : Try.prog.follows .mixedOrders = true := by kernel_rfl
@[simp] theorem one_map (b : Option Nat) : (Value.map b).oneCell' = true := rfl

/-! At a struct of integers '==' compares the fields. -/
theorem und3 : Try.prog.underlying 3 = some (.int .i64) := by kernel_rfl
theorem pl3 : Try.prog.plainKey 3 = true := by kernel_rfl
def fdat (f : Field) : Bool × Nat × Nat := (decide (f.name ≠ "_"), f.type, f.offset)
def fsOf : Nat → Nat → List (Bool × Nat × Nat)
  | _, 0 => []
  | k, m + 1 => (true, 3, k) :: fsOf (k + 1) m
theorem eqF (w : World) : ∀ (m : Nat) (fs : List Field) (k : Nat), fs.map fdat = fsOf k m → ∀ p q : List Int, p.length = k + m → q.length = k + m →
    (Op.eqFields 9999 (p.map (Value.int .i64)).toArray (q.map (Value.int .i64)).toArray fs).run Try.prog w = .ok (decide (p.drop k = q.drop k)) w
  | 0, [], k, _, p, q, hp, hq => by
    rw [List.drop_eq_nil_of_le (by omega), List.drop_eq_nil_of_le (by omega)]
    rfl
  | m + 1, f :: fs, k, h, p, q, hp, hq => by
    simp only [List.map_cons, fsOf, List.cons.injEq, fdat, Prod.mk.injEq, decide_eq_true_eq] at h
    obtain ⟨⟨n1, t1, o1⟩, h⟩ := h
    have ih := eqF w m fs (k + 1) h p q (by omega) (by omega)
    have hkp : k < p.length := by omega
    have hkq : k < q.length := by omega
    rw [List.drop_eq_getElem_cons hkp, List.drop_eq_getElem_cons hkq]
    simp only [Op.eqFields]
    rw [if_pos n1, t1, o1]
    simp only [Sem.run_bind]
    rw [run_part_plain w pl3 (v := .int .i64 p[k]) (by simp [hkp])]
    simp only [Result.andThen_ok]
    rw [run_part_plain w pl3 (v := .int .i64 q[k]) (by simp [hkq])]
    simp only [Result.andThen_ok]
    rw [run_equalIn_int w _ 3 .i64 .i64 _ _ und3]
    simp only [Result.andThen_ok]
    by_cases e : p[k] = q[k]
    · simp only [e, beq_self_eq_true, Bool.not_true, Bool.false_eq_true, if_false]
      rw [ih]
      simp only [List.cons.injEq, true_and]
    · have hb : (p[k] == q[k]) = false := by simpa using e
      simp only [hb, Bool.not_false, if_true, Sem.run_pure, List.cons.injEq, e, false_and, decide_false]
  | 0, _ :: _, _, h, _, _, _, _ => by simp [fsOf] at h
  | _ + 1, [], _, h, _, _, _, _ => by simp [fsOf] at h
theorem ck3 (w : World) (b : Bool) (n : Int) (k : Nat) : (Instr.checkKey b (k + 1) 3 (.int .i64 n)).run Try.prog w = .ok () w := by
  rw [Instr.checkKey]
  simp [run_underlying und3]
theorem ckF (w : World) (b : Bool) (d : Nat) (cs : Array Value) : ∀ (m : Nat) (fs : List Field) (k : Nat), fs.map fdat = fsOf k m → (∀ j, j < k + m → ∃ n : Int, cs[j]? = some (.int .i64 n)) →
    (forIn fs PUnit.unit fun f (_ : PUnit) => (if f.name ≠ "_" then do
        let a ← part f.type cs f.offset
        Instr.checkKey b (d + 1) f.type a
        pure (ForInStep.yield PUnit.unit)
      else pure (ForInStep.yield PUnit.unit) : Sem (ForInStep PUnit))).run Try.prog w = .ok PUnit.unit w
  | 0, [], k, _, _ => rfl
  | m + 1, f :: fs, k, h, hc => by
    simp only [List.map_cons, fsOf, List.cons.injEq, fdat, Prod.mk.injEq, decide_eq_true_eq] at h
    obtain ⟨⟨n1, t1, o1⟩, h⟩ := h
    have ih := ckF w b d cs m fs (k + 1) h fun j hj => hc j (by omega)
    obtain ⟨n, hn⟩ := hc k (by omega)
    simp only [List.forIn_cons, Sem.run_bind]
    rw [if_pos n1, t1, o1]
    simp only [Sem.run_bind]
    rw [run_part_plain w pl3 hn]
    simp only [Result.andThen_ok, ck3, Sem.run_pure]
    exact ih
  | 0, _ :: _, _, h, _ => by simp [fsOf] at h
  | _ + 1, [], _, h, _ => by simp [fsOf] at h
theorem sameKV_list : ∀ {n : Nat} {xs : List Value}, sameKV (List.replicate n (.int .i64 0)) xs = true → ∃ p : List Int, xs = p.map (Value.int .i64) ∧ p.length = n
  | 0, xs, h => by
    cases xs with
    | nil => exact ⟨[], rfl, rfl⟩
    | cons x r => simp [sameKV] at h
  | n + 1, xs, h => by
    cases xs with
    | nil => simp [List.replicate_succ, sameKV] at h
    | cons x r =>
      cases x <;> simp [List.replicate_succ, sameKV] at h
      obtain ⟨rfl, h⟩ := h
      obtain ⟨p, rfl, hp⟩ := sameKV_list h
      rename_i a
      exact ⟨a :: p, rfl, by simp [hp]⟩
theorem eqV_list : ∀ {p : List Int} {ys : List Value} {b : Bool}, eqV (p.map (Value.int .i64)) ys = some b → ∃ q : List Int, ys = q.map (Value.int .i64) ∧ q.length = p.length ∧ b = decide (p = q)
  | [], ys, b, h => by
    cases ys with
    | nil => simp [eqV] at h; exact ⟨[], rfl, rfl, by simp [h]⟩
    | cons y r => simp [eqV] at h
  | a :: p, ys, b, h => by
    cases ys with
    | nil => simp [eqV] at h
    | cons y r =>
      cases y <;> simp only [List.map_cons, eqV, reduceCtorEq] at h
      split at h
      case isFalse => simp at h
      rename_i hk
      subst hk
      cases hr : eqV (p.map (Value.int .i64)) r with
      | none => simp [hr] at h
      | some b' =>
        simp only [hr, Option.map_some, Option.some.injEq] at h
        obtain ⟨q, rfl, hq, rfl⟩ := eqV_list hr
        rename_i c
        exact ⟨c :: q, rfl, by simp [hq], by rw [← h]; simp⟩
theorem eqok_ints {t n : Nat} (hu : Try.prog.underlying t = some (.struct (Try.prog.fieldsOf t))) (hf : (Try.prog.fieldsOf t).toList.map fdat = fsOf 0 n) (hp : Try.prog.stoodInHeld t = false) (hz : ∀ d, Types Try.prog t = some d → d.zero = List.replicate n (.int .i64 0)) (hg : Try.prog.eqGuardType Try.prog.depth t = false) : EqOK Try.prog t := by
  intro d hd
  refine ⟨fun w xs b hk => ?_, fun w xs ys b hk he => ⟨?_, hg⟩⟩
  · rw [hz d hd] at hk
    obtain ⟨p, rfl, hpl⟩ := sameKV_list hk
    rw [show (10000 : Nat) = 9998 + 1 + 1 from rfl, Instr.checkKey]
    simp only [Sem.run_bind, run_underlying hu, Result.andThen_ok]
    rw [← Array.forIn_toList]
    have := ckF w b 9998 (p.map (Value.int .i64)).toArray n (Try.prog.fieldsOf t).toList 0 hf fun j hj => ⟨p[j]'(by omega), by simp [show j < p.length by omega]⟩
    rw [this]
    rfl
  · rw [hz d hd] at hk
    obtain ⟨p, rfl, hpl⟩ := sameKV_list hk
    obtain ⟨q, rfl, hql, rfl⟩ := eqV_list he
    unfold Op.equal
    rw [show Op.maxDepth = 9999 + 1 from rfl, run_equalIn_agg w _ t _ _ hu hp]
    have := eqF w n (Try.prog.fieldsOf t).toList 0 hf p q (by omega) (by omega)
    simpa using this
end Go.AM
