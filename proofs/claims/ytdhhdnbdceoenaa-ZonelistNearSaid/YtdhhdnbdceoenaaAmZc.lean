/- A function whose results are owned also returns them as rows that are only read. -/
import Derived.Test.YtdhhdnbdceoenaaAmZb
set_option linter.all false

namespace Go.AM
open Go

def RLe : AV → AV → Prop
  | .tup as, .tup bs => SLeVs as bs
  | .tup _, _ => False
  | _, .tup _ => False
  | a, b => SLeV a b

theorem RLe.ret {w : World} {G : Nat → Prop} {a b : AV} {x : Value} {bl : List Nat} (h : RLe a b) (ho : ORet w G a x bl) (hn : bl.Nodup) :
    ∃ bl', bl'.Sublist bl ∧ ∀ G', (∀ k, G k → G' k) → (∀ k ∈ bl, k ∉ bl' → G' k) → ORet w G' b x bl' := by
  by_cases ha : ∃ as, a = .tup as
  · obtain ⟨as, rfl⟩ := ha
    cases b <;> simp only [RLe] at h
    rename_i bs
    simp only [ORet] at ho
    obtain ⟨vs, rfl, ho⟩ := ho
    obtain ⟨c, k1, k2⟩ := h.vals ho hn
    exact ⟨c, k1, fun G' p q => by simp only [ORet]; exact ⟨vs, rfl, k2 G' p q⟩⟩
  · have h1 : SLeV a b := by cases a <;> first | exact absurd ⟨_, rfl⟩ ha | (cases b <;> first | exact h | exact h.elim)
    have h2 : OVal w G a x bl := by cases a <;> first | exact absurd ⟨_, rfl⟩ ha | exact ho
    obtain ⟨c, k1, k2⟩ := h1.val h2 hn
    refine ⟨c, k1, fun G' p q => ?_⟩
    have := k2 G' p q
    cases b <;> first | exact this | (cases a <;> first | exact h.elim | exact absurd ⟨_, rfl⟩ ha)

theorem PSound.soft {P : Program} {f : FuncId} {F F' : List AV → Option AV} (h : PSound P f F) (hs : ∀ avs r', F' avs = some r' → ∃ r, F avs = some r ∧ RLe r r') : PSound P f F' := by
  intro w G args avs r' hr hG ha
  obtain ⟨r, h1, h2⟩ := hs avs r' hr
  refine (h w G args avs r h1 hG ha).mono fun e w' hq => ?_
  obtain ⟨x, G', bl, q1, q2, q3, q4, q5, q6, q7⟩ := hq
  obtain ⟨c, k1, k2⟩ := h2.ret q5 q6
  refine ⟨x, fun k => G' k ∨ (k ∈ bl ∧ k ∉ c), c, q1, q2, fun k hk => .inl (q3 k hk), fun k hk => ?_, k2 _ (fun k hk => .inl hk) (fun k hk hn => .inr ⟨hk, hn⟩), k1.nodup q6, fun k hk => ?_⟩
  · rcases hk with hk | ⟨hk, _⟩
    · exact q4 k hk
    · exact ⟨(q7 k hk).1, .inr (q7 k hk).2.2⟩
  · have := q7 k (k1.subset hk)
    exact ⟨this.1, fun hh => hh.elim this.2.1 fun h3 => h3.2 hk, this.2.2⟩

theorem specF_soft {ι : Type} {A : ι → List AV} {R R' : ι → AV} (h : ∀ i, RLe (R i) (R' i)) {avs : List AV} {r' : AV} (hr : specF A R' avs = some r') : ∃ r, specF A R avs = some r ∧ RLe r r' := by
  unfold specF at hr ⊢
  split at hr
  · rename_i hh
    simp only [Option.some.injEq] at hr
    subst hr
    rw [dif_pos hh]
    exact ⟨_, rfl, h _⟩
  · simp at hr
theorem PSound.softF {P : Program} {f : FuncId} {ι : Type} {A : ι → List AV} {R R' : ι → AV} (h : PSound P f (specF A R)) (hs : ∀ i, RLe (R i) (R' i)) : PSound P f (specF A R') := h.soft fun _ _ hr => specF_soft hs hr

/-- A slot that holds a nil slice, as a slice of an object of its own. -/
theorem le_nilslot {n : Nat} {s : List (Nat × AV)} {m : List (Nat × AO)} {nx t sz : Nat} (hb : getS s t = .v (.slice none 0 0)) :
    Le n ⟨s, m, nx⟩ ⟨(t, .sl nx 1 sz 0 0) :: s, (nx, .vec 1 sz false []) :: m, nx + 1⟩ := fun N w0 bl a w _ ⟨E, hs, h1, h2⟩ => by
  have hna : ¬ E.alive nx := fun hh => by have := h1 nx hh; simp at this
  have st := StepTo.none hs.inv nx sz hna false
  have hmem := st.mem hs.inv hs.mem
  refine ⟨_, ⟨hs.defers, hs.size, st.inv, fun k hk => ?_, fun k => ?_⟩, fun k hk => ?_, fun k hk => ?_⟩
  · have := hmem k hk
    simpa only [updM, getM] using this
  · simp only [getS]
    by_cases e : t = k
    · subst e
      rw [if_pos rfl]
      have hr := hs.slots t
      rw [hb] at hr
      simp only [Rep, CRep] at hr
      rw [hr]
      simp only [Rep]
      exact ⟨.inr rfl, Nat.le_refl _, by simp [Env.upd], none, 0, rfl, Nat.le_refl _, fun _ => rfl, fun _ => by simp [Env.upd, SlAt]⟩
    · rw [if_neg e]
      exact st.rep hs.inv (hs.slots k)
  · rcases hk with hk | hk
    · have := h1 k hk; simp at this ⊢; omega
    · simp; omega
  · simp only [getM] at hk
    split at hk
    · simp; omega
    · have := h2 k hk; simp at this ⊢; omega

/-- Closed, or made of what is closed. -/
def AV.closedV : AV → Bool
  | .agg cs | .fn _ cs => cs.all AV.isClosed
  | a => a.isClosed

theorem Rep.to_cV {E : Env} {w : World} {a : AV} {x : Value} (hc : a.closedV = true) (h : Rep E w a x) : CRep w E.G a x := by
  by_cases ha : ∃ cs, a = .agg cs
  · obtain ⟨cs, rfl⟩ := ha
    simp only [Rep] at h
    obtain ⟨vs, h1, h2, h3⟩ := h
    simp only [CRep]
    exact ⟨vs, h1, h2, h3.to_c hc⟩
  · by_cases hf : ∃ g cs, a = .fn g cs
    · obtain ⟨g, cs, rfl⟩ := hf
      simp only [Rep] at h
      obtain ⟨vs, h1, h3⟩ := h
      simp only [CRep]
      exact ⟨vs, h1, h3.to_c hc⟩
    have : a.isClosed = true := by cases a <;> first | exact hc | exact absurd ⟨_, rfl⟩ ha | exact absurd ⟨_, _, rfl⟩ hf
    exact h.to_c this
theorem RepL.to_cV {E : Env} {w : World} : ∀ {as : List AV} {xs : List Value}, as.all AV.closedV = true → RepL E w as xs → CRepL w E.G as xs
  | [], [], _, _ => by simp [CRepL]
  | a :: as, x :: xs, hc, h => by
    simp only [List.all_cons, Bool.and_eq_true] at hc
    simp only [RepL] at h
    simp only [CRepL]
    exact ⟨Rep.to_cV hc.1 h.1, RepL.to_cV hc.2 h.2⟩
  | [], _ :: _, _, h => by simp [RepL] at h
  | _ :: _, [], _, h => by simp [RepL] at h

/-- The call of a function with values that nobody writes: its results may be such, too. -/
def callD (F : List AV → Option AV) (avs : List AV) (_M : Nat → AO) (nid : Nat) : Option (AV × List (Nat × AO)) :=
  if avs.all AV.closedV = true then match F avs with
    | some r => if (openRet nid r).2.2 ≤ nid + 16 then some ((openRet nid r).1, (openRet nid r).2.1) else none
    | none => none
  else none

theorem PSound.callD {P : Program} {f : FuncId} {F : List AV → Option AV} (h : PSound P f F) : CallOK P f (callD F) := by
  intro avs M nid av u hc w0 bl E w args hr hM hI hnid
  unfold AM.callD at hc
  split at hc
  case isFalse => simp at hc
  rename_i hcl
  cases hF : F avs <;> simp only [hF, reduceCtorEq] at hc
  rename_i r
  split at hc
  case isFalse => simp at hc
  rename_i hle
  simp only [Option.some.injEq, Prod.mk.injEq] at hc
  obtain ⟨rfl, rfl⟩ := hc
  refine (h w E.G args avs r hF hI.good (hr.to_cV hcl)).mono fun e w' ⟨x, G', bs, he, hf, hG, hG', ho, hnd, hb⟩ => ?_
  have st := StepTo.pure hI hf G' hG hG'
  have hsp : Spare w0 bl { E with G := G' } w' bs := fun k hk => by
    have h1 := hb k hk
    refine ⟨h1.1, h1.2.1, .inl (Nat.le_trans hI.frame.size h1.2.2), fun b base sz hb' hl => ?_⟩
    have := (hI.locs b k base sz hb' hl).1
    omega
  obtain ⟨E', o, hx⟩ := openRet_ok st.inv (nid := nid) (a := r) (fun k p q => hnid k p (by omega)) ho hsp hnd
  exact ⟨x, E', he, st.trans o.step (by simp), hx⟩
theorem callD_keys {F : List AV → Option AV} {avs : List AV} {M : Nat → AO} {nid : Nat} {r : AV × List (Nat × AO)} (h : callD F avs M nid = some r) : ∀ b ∈ r.2.map (·.1), nid ≤ b ∧ b < nid + 16 := by
  simp only [callD] at h
  split at h
  case isFalse => simp at h
  split at h
  case h_2 => simp at h
  split at h
  case isFalse => simp at h
  rename_i hle
  simp only [Option.some.injEq] at h
  subst h
  intro b hb
  have := openRet_keys b hb
  omega
theorem callD_spec {ι : Type} {A : ι → List AV} {R : ι → AV} {avs : List AV} {M : Nat → AO} {nid : Nat} (i : ι) (hA : A i = avs) (hc : avs.all AV.closedV = true) (inj : ∀ j, A j = A i → R j = R i) (ho : openRet nid (R i) = (R i, [], nid)) : callD (specF A R) avs M nid = some (R i, []) := by
  subst hA
  simp only [callD]
  rw [if_pos hc, specF_eq i inj]
  simp only [ho]
  rw [if_pos (by omega)]
end Go.AM
