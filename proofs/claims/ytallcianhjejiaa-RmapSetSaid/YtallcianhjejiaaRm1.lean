/- Rmap: types; mappings as rows; small functions. -/
import Derived.Test.YtallcianhjejiaaAmZd
import Derived.Test.YtallcianhjejiaaAmZ
import Derived.Test.YtallcianhjejiaaProg
import Derived.ProofKit
import Derived.Laws.StructEq
import Derived.ChangeKeysEq
set_option linter.all false

namespace Go.AM
open Go Go.Proofs

@[simp] theorem ty3 : Types Try.prog 3 = some ⟨.int .i64, 1, 8, [.int .i64 0]⟩ := by kernel_rfl
@[simp] theorem ty4 : Types Try.prog 4 = some ⟨.bool, 1, 1, [.bool false]⟩ := by kernel_rfl
@[simp] theorem ty22 : Types Try.prog 22 = some ⟨.slice 24, 1, 24, [.slice none 0 0]⟩ := by kernel_rfl
@[simp] theorem ty24 : Types Try.prog 24 = some ⟨.struct [(0, 3, 1), (1, 3, 1)], 2, 16, [.int .i64 0, .int .i64 0]⟩ := by kernel_rfl
@[simp] theorem ty57 : Types Try.prog 57 = some ⟨.int .u64, 1, 8, [.int .u64 0]⟩ := by kernel_rfl
@[simp] theorem ty61 : Types Try.prog 61 = some ⟨.slice 3, 1, 24, [.slice none 0 0]⟩ := by kernel_rfl
theorem mixed : Try.prog.follows .mixedOrders = true := by kernel_rfl

abbrev Mp := Int × Int
def Mv (m : Mp) : AV := .agg [I m.1, I m.2]
def prows (l : List Mp) : List (List AV) := l.map fun m => [I m.1, I m.2]
def gm (l : List Mp) (n : Nat) : Mp := l.getD n (0, 0)
@[simp] theorem prows_length (l : List Mp) : (prows l).length = l.length := by simp [prows]
theorem prows_nil : prows [] = [] := rfl
theorem prows_append (a b : List Mp) : prows a ++ prows b = prows (a ++ b) := by simp [prows]
theorem prows_take (l : List Mp) (n : Nat) : (prows l).take n = prows (l.take n) := by simp [prows, List.map_take]
theorem prows_drop (l : List Mp) (n : Nat) : (prows l).drop n = prows (l.drop n) := by simp [prows, List.map_drop]
theorem prows_cons (m : Mp) (l : List Mp) : prows (m :: l) = [I m.1, I m.2] :: prows l := rfl
theorem prows_one (m : Mp) : [[I m.1, I m.2]] = prows [m] := rfl
theorem prows_inj {l m : List Mp} : prows l = prows m ↔ l = m := by
  unfold prows
  constructor
  · intro h
    refine (List.map_inj_right (f := fun m : Mp => [I m.1, I m.2]) ?_).1 h
    rintro ⟨a, b⟩ ⟨c, d⟩ e
    simp [I] at e
    rw [e.1, e.2]
  · rintro rfl; rfl
theorem prows_gi {l : List Mp} {n : Nat} (h : n < l.length) : (prows l)[n]? = some [I (gm l n).1, I (gm l n).2] := by
  simp [prows, gm, List.getD_eq_getElem?_getD, h]
theorem prows_gE {l : List Mp} {n : Nat} (h : n < l.length) : ∀ h', (prows l)[n]'(h') = [I (gm l n).1, I (gm l n).2] := fun h' => by
  have hg := prows_gi h
  rw [List.getElem?_eq_getElem h'] at hg; exact Option.some.inj hg
theorem gm_mem {l : List Mp} {n : Nat} (h : n < l.length) : gm l n ∈ l := by
  unfold gm
  rw [List.getD_eq_getElem?_getD, List.getElem?_eq_getElem h]
  exact List.getElem_mem h
theorem gm_eq {l : List Mp} {n : Nat} (h : n < l.length) : gm l n = l[n] := by
  unfold gm
  rw [List.getD_eq_getElem?_getD, List.getElem?_eq_getElem h]; rfl
theorem take_succ_gm {l : List Mp} {n : Nat} (h : n < l.length) : l.take (n + 1) = l.take n ++ [gm l n] := by
  rw [List.take_succ_eq_append_getElem h, gm_eq h]
theorem Mv_inj {a b : Mp} : Mv a = Mv b ↔ a = b := by
  obtain ⟨a1, a2⟩ := a
  obtain ⟨b1, b2⟩ := b
  simp [Mv, I]

theorem sameKV_one {z : Value} {zs us : List Value} {k : IntKind} {n : Int} (hz : z = .int k n) (h : sameKV (z :: zs) us = true) : ∃ a r, us = .int k a :: r ∧ sameKV zs r = true := by
  subst hz
  cases us with
  | nil => simp [sameKV] at h
  | cons u r =>
    cases u <;> simp [sameKV] at h
    obtain ⟨rfl, h⟩ := h
    exact ⟨_, r, rfl, h⟩
theorem sameKV_nil {us : List Value} (h : sameKV [] us = true) : us = [] := by
  cases us with
  | nil => rfl
  | cons u r => simp [sameKV] at h
theorem eqV_one {k : IntKind} {a : Int} {r us : List Value} {b : Bool} (h : eqV (.int k a :: r) us = some b) : ∃ c s b', us = .int k c :: s ∧ eqV r s = some b' ∧ b = (decide (a = c) && b') := by
  cases us with
  | nil => simp [eqV] at h
  | cons u s =>
    cases u <;> simp only [eqV, reduceCtorEq] at h
    split at h
    case isFalse => simp at h
    rename_i hk
    subst hk
    cases hr : eqV r s with
    | none => simp [hr] at h
    | some b' =>
      simp only [hr, Option.map_some, Option.some.injEq] at h
      exact ⟨_, s, b', rfl, hr, h.symm⟩
theorem eqV_nil {us : List Value} {b : Bool} (h : eqV [] us = some b) : us = [] ∧ b = true := by
  cases us with
  | nil => simp [eqV] at h; exact ⟨rfl, h⟩
  | cons u r => simp [eqV] at h

theorem und24 : Try.prog.underlying 24 = some (.struct (Try.prog.fieldsOf 24)) := by kernel_rfl
theorem fs24 : (Try.prog.fieldsOf 24).toList.map (fun f => (decide (f.name ≠ "_"), f.type, f.offset)) = [(true, 3, 0), (true, 3, 1)] := by kernel_rfl
theorem und3 : Try.prog.underlying 3 = some (.int .i64) := by kernel_rfl
theorem pl3 : Try.prog.plainKey 3 = true := by kernel_rfl
/-- At mappings '==' compares the fields. -/
theorem eq24 : EqOK Try.prog 24 := by
  intro d hd w xs ys b hk he
  rw [ty24, Option.some.injEq] at hd
  subst hd
  refine ⟨?_, by kernel_rfl⟩
  obtain ⟨a1, r, rfl, hk1⟩ := sameKV_one rfl hk
  obtain ⟨a2, r, rfl, hk2⟩ := sameKV_one rfl hk1
  obtain rfl := sameKV_nil hk2
  obtain ⟨b1, s, c, rfl, he1, rfl⟩ := eqV_one he
  obtain ⟨b2, s, c, rfl, he2, rfl⟩ := eqV_one he1
  obtain ⟨rfl, rfl⟩ := eqV_nil he2
  have hf := fs24
  unfold Op.equal
  rw [show Op.maxDepth = 9998 + 1 + 1 from rfl, run_equalIn_agg w _ 24 _ _ und24 (by kernel_rfl)]
  obtain ⟨fs, hfs⟩ : ∃ fs, fs = (Try.prog.fieldsOf 24).toList := ⟨_, rfl⟩
  rw [← hfs] at hf ⊢
  match fs, hf with
  | [f, g], hf =>
    simp only [List.map_cons, List.map_nil, List.cons.injEq, Prod.mk.injEq, decide_eq_true_eq, and_true] at hf
    obtain ⟨⟨n1, t1, o1⟩, n2, t2, o2⟩ := hf
    simp only [Op.eqFields]
    rw [if_pos n1, if_pos n2, t1, t2, o1, o2]
    simp only [Sem.run_bind]
    rw [run_part_plain w pl3 (v := .int .i64 a1) rfl]
    simp only [Result.andThen_ok]
    rw [run_part_plain w pl3 (v := .int .i64 b1) rfl]
    simp only [Result.andThen_ok]
    rw [run_equalIn_int w _ 3 .i64 .i64 _ _ und3]
    simp only [Result.andThen_ok]
    by_cases e1 : a1 = b1
    · subst e1
      simp only [beq_self_eq_true, Bool.not_true, Bool.false_eq_true, if_false, Sem.run_bind]
      rw [run_part_plain w pl3 (v := .int .i64 a2) rfl]
      simp only [Result.andThen_ok]
      rw [run_part_plain w pl3 (v := .int .i64 b2) rfl]
      simp only [Result.andThen_ok]
      rw [run_equalIn_int w _ 3 .i64 .i64 _ _ und3]
      by_cases e2 : a2 = b2
      · subst e2; simp
      · simp [e2]
    · simp [e1]

/-- Is a mapping valid? -/
def valM (m : Mp) : Prop := (0 ≤ m.1 ∧ m.1 < 8) ∧ 0 ≤ m.2 ∧ m.2 < 512
instance (m : Mp) : Decidable (valM m) := by unfold valM; infer_instance
def ltM (a b : Mp) : Prop := a.1 < b.1 ∨ a.1 = b.1 ∧ a.2 < b.2
instance (a b : Mp) : Decidable (ltM a b) := by unfold ltM; infer_instance
def cmpI (a b : Int) : Int := if a < b then -1 else if b < a then 1 else 0
def cmpM (a b : Mp) : Int := if cmpI a.1 b.1 = 0 then cmpI a.2 b.2 else cmpI a.1 b.1
end Go.AM
