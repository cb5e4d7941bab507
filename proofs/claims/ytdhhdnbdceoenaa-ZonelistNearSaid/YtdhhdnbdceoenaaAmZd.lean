/- Calls of functions that change a slice in place, which the caller goes on to use. -/
import Derived.Test.YtdhhdnbdceoenaaAmZc
set_option linter.all false

namespace Go.AM
open Go

/-- The first argument is a whole slice of an object; its rows are others afterwards. -/
def callK (F : AV → List AV → Option (AV × AV)) (avs : List AV) (M : Nat → AO) (_nid : Nat) : Option (AV × List (Nat × AO)) :=
  match avs with
  | .sl b m s 0 n :: rest => match M b with
    | .vec m' s' f xs => if m = m' ∧ s = s' ∧ n = xs.length then
        match peekVals (fun c => if c ∈ [b] then .dead else M c) rest with
        | some rs => match F (.ow s xs) rs with
          | some (.tup [], .ow s2 ys) => if s2 = s ∧ ys.length = n then some (.tup [], [(b, .vec m s f ys)]) else none
          | _ => none
        | none => none
      else none
    | _ => none
  | _ => none

theorem MSound.callK {P : Program} {f : FuncId} {F : AV → List AV → Option (AV × AV)} (h : MSound P f F) (hfl : ∀ a0 avs r s ys, F a0 avs = some (r, .ow s ys) → ∀ e ∈ ys, ∀ a ∈ e, a.plain) : CallOK P f (callK F) := by
  intro avs M nid av u hc w0 bl E w args hr hM hI _
  unfold AM.callK at hc
  split at hc
  case h_2 => simp at hc
  rename_i b m s n rest
  split at hc
  case h_2 => simp at hc
  rename_i m' s' fl xs hMb
  split at hc
  case isFalse => simp at hc
  rename_i hcond
  obtain ⟨rfl, rfl, rfl⟩ := hcond
  split at hc
  case h_2 => simp at hc
  rename_i rs hp
  split at hc
  case h_2 => simp at hc
  rename_i s2 ys hF
  split at hc
  case isFalse => simp at hc
  rename_i hcond
  obtain ⟨rfl, hys⟩ := hcond
  simp only [Option.some.injEq, Prod.mk.injEq] at hc
  obtain ⟨rfl, rfl⟩ := hc
  obtain ⟨x0, xl, rfl, hr0, hrr⟩ : ∃ x0 xl, args = (x0 :: xl).toArray ∧ Rep E w (.sl b m s2 0 xs.length) x0 ∧ RepL E w rest xl := by
    cases hargs : args.toList with
    | nil => rw [hargs] at hr; simp [RepL] at hr
    | cons x r =>
      rw [hargs] at hr
      simp only [RepL] at hr
      exact ⟨x, r, by rw [← hargs], hr⟩
  have hplain := hfl _ _ _ _ _ hF
  simp only [Rep] at hr0
  obtain ⟨hal, h1, h2, p, c, rfl, hnc, hpn, hsl⟩ := hr0
  have ho := hM b hal
  rw [hMb] at ho
  simp only [ObjRep] at ho
  obtain ⟨hv, hm1, ho⟩ := ho
  have hsl := hsl hv.symm
  have hM0 : MemOK E w (fun c => if c ∈ [b] then .dead else M c) := fun k hk => by
    show ObjRep E w k (if k ∈ [b] then AO.dead else M k)
    split
    · trivial
    · exact hM k hk
  have hret : ∀ {w' : World} {G' : Nat → Prop} {x : Value} {b2 : List Nat} {E' : Env}, ORet w' G' (.tup []) x b2 → Rep E' w' (.tup []) x := fun {w' G' x b2 E'} h => by
    simp only [ORet] at h
    obtain ⟨vs, rfl, h⟩ := h
    cases vs with
    | nil => simp only [Rep]; exact ⟨[], rfl, by simp [RepL]⟩
    | cons => simp [OVals] at h
  by_cases hc0 : c = 0
  · subst hc0
    have hx0 : xs = [] := List.eq_nil_of_length_eq_zero (by omega)
    subst hx0
    have hy0 : ys = [] := List.eq_nil_of_length_eq_zero (by simpa using hys)
    subst hy0
    have hpk := peekVals_ok (G := fun k => k < w.heap.size) (fun k hk => hI.good k hk) (fun b' blk base sz hb hd hl => (hI.locs b' blk base sz hb hl).1) hM0 hp hrr
    refine (h w _ _ xl _ rs [] _ _ hF (fun k hk => hk) (by simp only [OArg, OVal, OLeaf]; exact ⟨p, 0, rfl, by simp, fun _ => rfl, .inl (by simp)⟩) hpk (by simp) (by simp)).mono fun e w' ⟨x, G', b1, b2, he, hf, ho1, ho2, hnd, hb⟩ => ?_
    have stA := StepTo.pure hI hf E.G (fun _ h => h) fun k hk => ⟨Nat.lt_of_lt_of_le (hI.good k hk) hf.size, .inl hk⟩
    have hob := stA.obj hI hal (by simp) (hM b hal)
    rw [hMb] at hob
    have stB := StepTo.retell stA.inv hal hob
    refine ⟨x, _, he, by simpa using stA.trans stB (by simp), hret ho2⟩
  · cases hlc : E.loc b with
    | none => simp only [hlc, SlAt] at hsl; omega
    | some L =>
      obtain ⟨blk, base, sz⟩ := L
      simp only [hlc] at ho
      obtain ⟨ca, t, hheap, hszc, honec, hfit, hff, hrows⟩ := ho
      simp only [hlc, SlAt] at hsl
      obtain ⟨a, rfl, ha, hcs⟩ := hsl
      have ha := ha.resolve_left hc0
      simp only [Nat.zero_mul, Nat.add_zero, Nat.zero_add] at ha hcs
      subst ha
      have hloc := hI.locs b blk base sz hal hlc
      have hown : ∀ k blk' base' sz', E.alive k → E.loc k = some (blk', base', sz') → blk' ∈ [blk] → k = b := fun k blk' base' sz' hk hl hm => by
        simp only [List.mem_singleton] at hm
        subst hm
        exact hI.apart k b _ _ _ _ _ hk hal hl hlc
      have hpk := peekVals_ok (G := fun k => k < w.heap.size ∧ k ∉ [blk]) (fun k hk => ⟨hI.good k hk, fun hkb => by simp at hkb; subst hkb; exact hloc.2.1 hk⟩) (fun b' blk' base' sz' hb hd hl => ⟨(hI.locs b' blk' base' sz' hb hl).1, fun hk => by
        have := hown b' blk' base' sz' hb hl hk
        exact hd (by simp only [this, List.mem_singleton, if_true])⟩) hM0 hp hrr
      refine (h w _ _ xl _ rs [blk] _ _ hF (fun k hk => hk.1) (by
        simp only [OArg, OVal, OLeaf]
        exact ⟨_, c, rfl, hnc, hpn, .inr ⟨blk, base, ca, t, rfl, rfl, hheap, by omega, honec, hrows.mono (fun k hk => ⟨hI.good k hk, fun hkb => by simp at hkb; subst hkb; exact hloc.2.1 hk⟩) (fun _ _ => rfl) (.inl rfl)⟩⟩) hpk (by simp) (by simpa using hloc.1)).mono fun e w' ⟨x, G', b1, b2, he, hf, ho1, ho2, hnd, hb⟩ => ?_
      simp only [OArg, OVal, OLeaf] at ho1
      obtain ⟨p', c', e1, e2, e3, e4⟩ := ho1
      simp only [Value.slice.injEq] at e1
      obtain ⟨rfl, e5, rfl⟩ := e1
      rcases e4 with ⟨e4, _⟩ | ⟨blk', base', arr, t', e6, e7, e8, e9, e10, e11⟩
      · exact absurd e4 hc0
      · simp only [Option.some.injEq, Addr.mk.injEq, and_true] at e6
        obtain ⟨rfl, rfl⟩ := e6
        refine ⟨x, E.upd b m (some (blk, base, sz)), he, ?_, hret ho2⟩
        refine StepTo.one hI b _ m _ (fun _ => .inl ⟨hv.symm, hlc.symm⟩) (fun blk' base' sz' e => ?_) hf.size hf.os hf.out (fun k hk hn => hf.old k hk fun hm => ?_) ?_
        · simp only [Option.some.injEq, Prod.mk.injEq] at e
          exact .inl ⟨base, sz, hal, by rw [hlc, e.1]⟩
        · simp only [List.mem_singleton] at hm
          subst hm; exact hn base sz hal hlc
        · simp only [ObjRep, Env.upd, if_true]
          exact ⟨trivial, hm1, arr, t', e8, by omega, e10, by rw [hys]; exact hfit, fun hf => by rw [hys]; exact hff hf, plain_rows hplain e11⟩

theorem callK_keys {F : AV → List AV → Option (AV × AV)} {avs : List AV} {M : Nat → AO} {nid : Nat} {r : AV × List (Nat × AO)} (h : callK F avs M nid = some r) : ∀ b ∈ r.2.map (·.1), (nid ≤ b ∧ b < nid + 16) ∨ M b ≠ .dead := by
  unfold callK at h
  split at h
  case h_2 => simp at h
  split at h
  case h_2 => simp at h
  rename_i hMb
  split at h
  case isFalse => simp at h
  split at h
  case h_2 => simp at h
  split at h
  case h_2 => simp at h
  split at h
  case isFalse => simp at h
  simp only [Option.some.injEq] at h
  subst h
  intro k hk
  simp at hk
  subst hk
  exact .inr (by rw [hMb]; simp)
end Go.AM
