/- Functions of the library that have no body: slices.overlaps. -/
import Derived.Test.YtjdahonmgfhpgaaAmR
import Derived.Laws.Externs
set_option linter.all false
namespace Go.AM
open Go

def ovlF (avs : List AV) (M : Nat → AO) (_nid : Nat) : Option (AV × List (Nat × AO)) :=
  match avs with
  | [.rd s _, .sl b m s' _ _] => match M b with
    | .vec m' _ _ _ => if m = m' ∧ 1 ≤ s ∧ 1 ≤ s' then some (B false, []) else none
    | _ => none
  | _ => none

theorem run_overlaps_apart {P : Program} (w : World) {tS tR e : TypeId} {d de : TD} (ht : Types P tS = some d) (hk : d.k = .slice e) (he : Types P e = some de)
    (a b : Option Addr) (la ca lb cb : Nat) (h : la = 0 ∨ lb = 0 ∨ ∃ a' b' tA kA tB kB, a = some a' ∧ b = some b' ∧ a'.block ≠ b'.block ∧ w.shape? a'.block = some (tA, kA) ∧ w.shape? b'.block = some (tB, kB) ∧ kA ≠ 0 ∧ kB ≠ 0 ∧ ∀ x : Addr, x.block = b'.block → w.frozen? x = false) :
    (Extern.SlicesOverlaps.overlaps #[tS, tS] #[tR] #[.slice a la ca, .slice b lb cb]).run P w = .ok (.bool false) w := by
  change Sem.run P (α := Value) (do
    let some t := (#[tS, tS] : Array TypeId)[0]? | stuck "slices.overlaps: no parameter types"
    let .slice elem ← underlying t | stuck "slices.overlaps: slice type expected"
    let size ← sizeOf elem
    match a, b with
    | some a, some b =>
      if la = 0 ∨ lb = 0 ∨ size = 0 then pure (Value.bool false)
      else if a.block != b.block && (← frozen a) && (← frozen b) then unsupported .addressObserved
      else do
        if a.block != b.block then do
          noView a; noView b
          if ← mayBeOne a b then return Value.bool ((← choose (.extern "sameAddr.stringBytes" 2)) == 1)
        pure (Value.bool (a.block == b.block && a.off < b.off + lb * size && b.off < a.off + la * size))
    | _, _ => pure (Value.bool false)) w = _
  cases a with
  | none => simp [und_slice ht hk, run_size he]
  | some a =>
  cases b with
  | none => simp [und_slice ht hk, run_size he]
  | some b =>
  by_cases h0 : la = 0 ∨ lb = 0 ∨ de.size = 0
  · simp [und_slice ht hk, run_size he, h0]
  · obtain ⟨a', b', tA, kA, tB, kB, e1, e2, hne, hsa, hsb, hkA, hkB, hfb⟩ := (h.resolve_left fun h => h0 (.inl h)).resolve_left fun h => h0 (.inr (.inl h))
    simp only [Option.some.injEq] at e1 e2
    subst e1 e2
    have hnb : (a.block != b.block) = true := by simpa using hne
    have hnb' : (a.block == b.block) = false := by simpa using hne
    have f1 : w.frozen? b = false := hfb b rfl
    have f2 : w.frozen? { block := b.block, off := kB } = false := hfb _ rfl
    cases kB with
    | zero => exact absurd rfl hkB
    | succ kB =>
    cases kA with
    | zero => exact absurd rfl hkA
    | succ kA =>
      cases hfa : w.frozen? a <;> cases hfa2 : w.frozen? { block := a.block, off := kA + 1 } <;>
      simp [und_slice ht hk, run_size he, h0, hnb, hnb', frozen, noView, viewAt, mayBeOne, stringish, shape, Sem.run, hsa, hsb, f1, f2, hfa, hfa2]

theorem ovl_ok {P : Program} {f : FuncId} {fn : Func} {tS tR e : TypeId} {d de : TD} (hf : P.funcs[f]? = some fn) (hname : (fn.name == "runtime.NumGoroutine") = false) (hb : fn.body.isNone = true) (hn : Extern.findNext fn = none) (hx : Extern.find fn = some (Extern.SlicesOverlaps.overlaps #[tS, tS] #[tR]))
    (ht : Types P tS = some d) (hk : d.k = .slice e) (he : Types P e = some de) : ExtOK P f ovlF := by
  intro avs M nid av u h
  unfold ovlF at h
  split at h
  case h_2 => simp at h
  rename_i s xs b m s' o n
  split at h
  case h_2 => simp at h
  rename_i m' z ff ys hMb
  split at h
  case isFalse => simp at h
  rename_i hc
  obtain ⟨rfl, hs, hs'⟩ := hc
  simp only [Option.some.injEq, Prod.mk.injEq] at h
  obtain ⟨rfl, rfl⟩ := h
  refine ⟨rfl, fun w0 bl E w args hr hM hI => ?_⟩
  obtain ⟨args⟩ := args
  match args, hr with
  | [x, y], hr =>
    simp only [RepL, and_true] at hr
    obtain ⟨hr1, hr2⟩ := hr
    simp only [Rep, CRep] at hr1 hr2
    obtain ⟨p, c, rfl, h2, h3, h4⟩ := hr1
    obtain ⟨k1, k2, k3, q, c', rfl, k4, k4', k5⟩ := hr2
    have hob := hM b k1
    simp only [hMb, ObjRep] at hob
    obtain ⟨l1, l2, l3⟩ := hob
    have h5 := k5 l1.symm
    refine ⟨.bool false, w, ?_, rfl, rfl, rfl, by simp [Rep, CRep]⟩
    rw [run_callFunc_extern hf hname hb hn hx, run_overlaps_apart w ht hk he]
    · rfl
    · by_cases hx0 : xs.length = 0
      · exact .inl hx0
      by_cases hn0 : n = 0
      · exact .inr (.inl hn0)
      right; right
      rcases h4 with h4 | ⟨blk, off, rfl, hg, hrows⟩
      · subst h4; simp at hx0
      · cases hl : E.loc b with
        | none => simp only [hl, SlAt] at h5; omega
        | some l =>
          obtain ⟨blk', base, sz⟩ := l
          simp only [hl, SlAt] at h5 l3
          obtain ⟨a, rfl, q1, q2⟩ := h5
          obtain ⟨arr, t, m1, m2, _, _, _, _⟩ := l3
          have q1 := q1.resolve_left (by omega)
          subst q1
          have hloc := hI.locs b blk' base sz k1 hl
          obtain ⟨e0, r0, rfl⟩ : ∃ e0 r0, xs = e0 :: r0 := by cases xs with | nil => simp at hx0 | cons a b => exact ⟨a, b, rfl⟩
          simp only [CRows] at hrows
          obtain ⟨a0, r1, rfl⟩ : ∃ a0 r1, e0 = a0 :: r1 := by cases e0 with | nil => simp at hrows; omega | cons a b => exact ⟨a, b, rfl⟩
          simp only [CCells] at hrows
          obtain ⟨_, ⟨⟨v, hv, _, _⟩, _⟩, _⟩ := hrows
          have hsh : ∃ t k, w.shape? blk = some (t, k) ∧ k ≠ 0 := by
            unfold World.cell? at hv
            unfold World.shape?
            simp only at hv
            split at hv
            · refine ⟨_, _, rfl, fun e => ?_⟩
              simp only [Option.isSome_none, Bool.false_eq_true, if_false] at hv
              rw [Array.getElem?_eq_none (by omega)] at hv
              simp at hv
            · simp at hv
          obtain ⟨tA, kA, hsa, hkA⟩ := hsh
          have hpos : 1 ≤ (o + c') * s' := Nat.mul_pos (by omega) hs'
          refine ⟨_, _, tA, kA, t, arr.size, rfl, rfl, fun e => hloc.2.1 (by simp only at e; rw [← e]; exact hg), hsa, by simp only [World.shape?, m1], hkA, by omega, fun x hx => ?_⟩
          refine hI.frame.new x ?_
          rw [hx]
          exact hloc.2.2
  | [], hr => simp [RepL] at hr
  | [_], hr => simp [RepL] at hr
  | _ :: _ :: _ :: _, hr => simp [RepL] at hr

theorem msound_cap_spec {ι : Type} {sz : Nat} {A0 : ι → List (List AV)} {A : ι → List AV} {rl : ι → List AV} {O : ι → AV} {P : Program} {f : FuncId} {fn : Func} {c : Code} (hf : P.funcs[f]? = some fn) (hb : fn.body = some c) (X : AX)
    (h : ∀ (i : ι) (w0 : World) (bl : List Nat) (E : Env) (m : Nat), (A i).length + 1 ≤ fn.ntmps ∧ (rl i).length = fn.results.size ∧
      AW ⟨P, X, fn.ntmps, w0, ⟨bl, E, 1⟩⟩ c ⟨enterS (.sl 0 1 sz 0 (A0 i).length :: A i), [(0, .vec 1 sz true (A0 i ++ anyRows sz m))], 1⟩ (fun e st => (e = .normal ∨ e = .ret) ∧ LeavesM (Types P) fn.results.toList st (.sl 0 1 sz 0 (A0 i).length) (rl i) (O i))) :
    MSound P f (specM (fun i => .ow sz (A0 i)) A (fun i => retOf (rl i)) O) :=
  msound_cap hf hb rfl fun w0 bl E a0 avs r out hr => by
    obtain ⟨i, rfl, rfl, rfl, rfl⟩ := specM_some hr
    have := h i w0 bl E 0
    exact ⟨this.1, sz, A0 i, rfl, rl i, rfl, this.2.1, X, fun m => (h i w0 bl E m).2.2⟩

@[simp] theorem anyRows_length (s n : Nat) : (anyRows s n).length = n := by simp [anyRows]
end Go.AM
