/- More rules: loops whose other slots stay, slices that may be nil, weaker specifications, numbers read off rows. -/
import Derived.Test.YtjdahonmgfhpgaaAmT
set_option linter.all false
namespace Go.AM
open Go

theorem aw_cases_nil {c : Cx} {k : Code} {st : St} {Q : Exit → St → Prop} (t s : Nat) (h : getS st.s t = .rd s []) (h1 : AW c k ⟨(t, .v (.slice none 0 0)) :: st.s, st.m, st.nx⟩ Q) (h2 : ∀ p n, AW c k ⟨(t, .v (.slice (some p) 0 n)) :: st.s, st.m, st.nx⟩ Q) : AW c k st Q := fun a w hs => by
  obtain ⟨E, hs0, hn, hm⟩ := hs
  have ht := hs0.slots t
  rw [h] at ht
  simp only [Rep, CRep] at ht
  obtain ⟨p, n, hx, _, hp, _⟩ := ht
  have key : ∀ v, a.tmps.getD t undef = v → Sat c.N c.w0 c.bl a w ⟨(t, .v v) :: st.s, st.m, st.nx⟩ := fun v hv => by
    refine ⟨E, ⟨hs0.defers, hs0.size, hs0.inv, hs0.mem, fun t' => ?_⟩, hn, hm⟩
    simp only [getS]
    split
    · rename_i e; subst e; simp only [Rep, CRep]; exact hv
    · exact hs0.slots t'
  cases p with
  | none => obtain rfl := hp rfl; exact h1 a w (key _ hx)
  | some p => exact h2 p n a w (key _ hx)

theorem sat_tidyM {N : Nat} {w0 : World} {bl : Bk} {a : Act} {w : World} {s : List (Nat × AV)} {m : List (Nat × AO)} {nx : Nat} : Sat N w0 bl a w ⟨s, tidyM m, nx⟩ ↔ Sat N w0 bl a w ⟨s, m, nx⟩ := by
  unfold Sat
  have e2 : getM (tidyM m) = getM m := funext fun t => getM_tidy
  simp only [e2]

theorem le_of2 {n : Nat} {s s' : List (Nat × AV)} {m m' : List (Nat × AO)} {nx nx' : Nat} (hn : n ≤ nx') (hs : ∀ p ∈ s', AVle (getS s p.1) p.2 ∧ p.2.under nx') (hm : ∀ p ∈ tidyM m', AOle (getM m p.1) p.2 ∧ p.2.under nx' ∧ p.1 < nx') :
    Le n ⟨s, m, nx⟩ ⟨s', m', nx'⟩ := fun N w0 bl a w hb h => sat_tidyM.1 (le_of hn hs hm N w0 bl a w hb h)

theorem aw_loopK {c : Cx} {st : St} {Q : Exit → St → Prop} {ι : Type} (ks : List Nat) (V : ι → List (Nat × AV)) (W : ι → List (Nat × AO)) (μ : ι → Nat) (i0 : ι) {x : Code} {s0 : List (Nat × AV)} {m0 : List (Nat × AO)}
    (_hs : keepS ks st.s = s0) (_hm : tidyM st.m = m0) (h0 : Le c.bl.n st ⟨V i0 ++ s0, W i0 ++ m0, st.nx⟩)
    (round : ∀ i, AW c x ⟨V i ++ s0, W i ++ m0, st.nx⟩ (thenQ (fun st' => ∃ i', Le c.bl.n st' ⟨V i' ++ s0, W i' ++ m0, st.nx⟩ ∧ μ i' < μ i) Q)) : AW c (.loop x) st Q :=
  aw_loop (fun i => ⟨V i ++ s0, W i ++ m0, st.nx⟩) μ i0 h0 round

@[simp] theorem nat_beq (n m : Nat) : Nat.beq n m = decide (n = m) := by
  rw [Bool.eq_iff_iff, decide_eq_true_iff]
  exact ⟨Nat.eq_of_beq_eq_true, fun h => by subst h; exact Nat.beq_refl n⟩

attribute [simp] tidyM remK

theorem PSound.weaken {P : Program} {f : FuncId} {F F' : List AV → Option AV} (h : PSound P f F) (hle : ∀ avs r, F' avs = some r → F avs = some r) : PSound P f F' :=
  fun w G args avs r hr => h w G args avs r (hle avs r hr)

theorem MSound.weaken {P : Program} {f : FuncId} {F F' : AV → List AV → Option (AV × AV)} (h : MSound P f F) (hle : ∀ a avs r o, F' a avs = some (r, o) → F a avs = some (r, o)) : MSound P f F' :=
  fun w G x0 args a0 avs bl r o hr => h w G x0 args a0 avs bl r o (hle a0 avs r o hr)

/-- The numbers of rows of one number each. -/
def unI : List (List AV) → Option (List Int)
  | [] => some []
  | [.v (.int .i64 x)] :: r => match unI r with
    | some l => some (x :: l)
    | none => none
  | _ => none

theorem unI_eq : ∀ {xs : List (List AV)} {l : List Int}, unI xs = some l → xs = irows l
  | [], l, h => by simp only [unI, Option.some.injEq] at h; subst h; rfl
  | e :: r, l, h => by
    unfold unI at h
    split at h
    · simp at *
    · rename_i x r' heq
      simp only [List.cons.injEq] at heq
      obtain ⟨rfl, rfl⟩ := heq
      cases hr : unI r <;> simp only [hr, reduceCtorEq, Option.some.injEq] at h
      subst h
      rw [unI_eq hr]; rfl
    · simp at h

theorem body_ok {P : Program} {f : FuncId} (fn : Func) (h : P.funcs[f]? = some fn) (h2 : (fn.body.isSome && !(fn.name == "runtime.NumGoroutine")) = true) : BodyOK P f := by
  simp only [Bool.and_eq_true, Bool.not_eq_true'] at h2
  exact ⟨fn, h, h2.1, h2.2⟩

/-- A number of a list, at a place within. -/
def gi (l : List Int) (n : Nat) : Int := l.getD n 0
theorem irows_gi {l : List Int} {n : Nat} (h : n < l.length) : (irows l)[n]? = some [I (gi l n)] := irows_get h
theorem gi_mem {l : List Int} {n : Nat} (h : n < l.length) : gi l n ∈ l := by
  unfold gi
  rw [List.getD_eq_getElem?_getD, List.getElem?_eq_getElem h]
  exact List.getElem_mem h
theorem gi_of_mem {l : List Int} {x : Int} (h : x ∈ l) : ∃ n, n < l.length ∧ gi l n = x := by
  obtain ⟨k, hk, rfl⟩ := List.getElem_of_mem h
  exact ⟨k, hk, by unfold gi; rw [List.getD_eq_getElem?_getD, List.getElem?_eq_getElem hk]; rfl⟩
theorem gi_eq {l : List Int} {n : Nat} (h : n < l.length) : gi l n = l[n] := by
  unfold gi
  rw [List.getD_eq_getElem?_getD, List.getElem?_eq_getElem h]; rfl
theorem take_succ_gi {l : List Int} {n : Nat} (h : n < l.length) : l.take (n + 1) = l.take n ++ [gi l n] := by
  rw [gi_eq h, List.take_add_one, List.getElem?_eq_getElem h]; rfl
theorem drop_gi {l : List Int} {n : Nat} (h : n < l.length) : l.drop n = gi l n :: l.drop (n + 1) := by
  rw [gi_eq h]; exact (List.drop_eq_getElem_cons h)

theorem wrapU64 {n : Int} (h : 0 ≤ n ∧ n ≤ 18446744073709551615) : IntKind.u64.wrap n = n := by
  have : IntKind.u64.wrap n = n % 18446744073709551616 := rfl
  rw [this]; omega
end Go.AM
