/- Names and versions may be chosen anew: a state is the same under other names. -/
import Derived.Test.YtdhhdnbdceoenaaAmT
set_option linter.all false

namespace Go.AM
open Go

theorem getM_hit {k : Nat} {o : AO} {r : List (Nat × AO)} : getM ((k, o) :: r) k = o := by simp [getM]
theorem getM_miss {k b : Nat} {o : AO} {r : List (Nat × AO)} (h : k ≠ b) : getM ((k, o) :: r) b = getM r b := by simp [getM, h]
theorem getM_none {b : Nat} : getM [] b = .dead := rfl

/-- The version under which an object goes on: the names from n on begin anew. -/
def vr (n b m : Nat) : Nat := if b < n then m else if m = 0 then 0 else 1

mutual
def AV.iso (n : Nat) (σ : Nat → Nat) : AV → AV
  | .bp b o => .bp (σ b) o
  | .sl b m s o k => .sl (σ b) (vr n b m) s o k
  | .ep b m s i j => .ep (σ b) (vr n b m) s i j
  | .bs b o s k => .bs (σ b) o s k
  | .agg cs => .agg (isoL n σ cs)
  | .tup cs => .tup (isoL n σ cs)
  | .fn f cs => .fn f (isoL n σ cs)
  | .ifc f cs => .ifc f (isoL n σ cs)
  | .any => .any
  | .v x => .v x
  | .rd s xs => .rd s xs
  | .ow s xs => .ow s xs
  | .rp cs => .rp cs
  | .rf cs => .rf cs
  | .mp b m => .mp (σ b) (vr n b m)
  | .rm k es => .rm k es
  | .om k es => .om k es
def isoL (n : Nat) (σ : Nat → Nat) : List AV → List AV
  | [] => []
  | a :: r => a.iso n σ :: isoL n σ r
end

mutual
/-- Every slice that is spoken of is one of its object as it is now. -/
def AV.cur (M : Nat → AO) : AV → Prop
  | .sl b m _ _ _ | .ep b m _ _ _ => ∃ s f xs, M b = .vec m s f xs
  | .mp b m => ∃ k es, M b = .map m k es
  | .agg cs | .tup cs | .fn _ cs | .ifc _ cs => curL M cs
  | _ => True
def curL (M : Nat → AO) : List AV → Prop
  | [] => True
  | a :: r => a.cur M ∧ curL M r
end

def AO.iso (n : Nat) (σ : Nat → Nat) (b : Nat) : AO → AO
  | .dead => .dead
  | .box cs => .box (isoL n σ cs)
  | .vec m s f xs => .vec (vr n b m) s f xs
  | .map m k es => .map (vr n b m) k es

def AO.cur (M : Nat → AO) : AO → Prop
  | .box cs => curL M cs
  | _ => True

def Env.iso (E : Env) (n : Nat) (τ : Nat → Nat) : Env := { G := E.G, alive := fun b => E.alive (τ b), ver := fun b => vr n (τ b) (E.ver (τ b)), loc := fun b => E.loc (τ b) }

section
variable {E : Env} {w : World} {n : Nat} {σ τ : Nat → Nat} {M : Nat → AO}

mutual
theorem Rep.iso (hst : ∀ b, τ (σ b) = b) (hM : MemOK E w M) : ∀ {a : AV} {x : Value}, a.cur M → Rep E w a x → Rep (E.iso n τ) w (a.iso n σ) x
  | .bp b o, x, _, h => by
    simp only [Rep, AV.iso, Env.iso, hst] at h ⊢
    obtain ⟨h1, h2, h3⟩ := h
    exact ⟨h1, by rw [h2]; simp [vr], h3⟩
  | .sl b m s o k, x, hc, h => by
    simp only [Rep, AV.iso, Env.iso, hst, AV.cur] at h hc ⊢
    obtain ⟨h1, h2, h3, p, c, h4, h5, h6, h7⟩ := h
    obtain ⟨s', f', xs', hb⟩ := hc
    have ho := hM b h1
    rw [hb] at ho
    simp only [ObjRep] at ho
    obtain ⟨hv, _⟩ := ho
    refine ⟨h1, ?_, ?_, p, c, h4, h5, h6, fun _ => h7 hv.symm⟩
    · unfold vr; split
      · exact h2
      · rw [if_neg (by omega)]; exact Nat.le_refl _
    · rw [hv]; exact Nat.le_refl _
  | .ep b m s i j, x, hc, h => by
    simp only [Rep, AV.iso, Env.iso, hst, AV.cur] at h hc ⊢
    obtain ⟨h1, h2, h3, a, h4, h5⟩ := h
    obtain ⟨s', f', xs', hb⟩ := hc
    have ho := hM b h1
    rw [hb] at ho
    simp only [ObjRep] at ho
    obtain ⟨hv, _⟩ := ho
    refine ⟨h1, ?_, ?_, a, h4, fun _ => h5 hv.symm⟩
    · unfold vr; split
      · exact h2
      · rw [if_neg (by omega)]; exact Nat.le_refl _
    · rw [hv]; exact Nat.le_refl _
  | .bs b o s k, x, _, h => by
    simp only [Rep, AV.iso, Env.iso, hst] at h ⊢
    obtain ⟨h1, h2, h3⟩ := h
    exact ⟨h1, by rw [h2]; simp [vr], h3⟩
  | .mp b m, x, hc, h => by
    simp only [Rep, AV.iso, Env.iso, hst, AV.cur] at h hc ⊢
    obtain ⟨h1, h2, h3, blk, h4, h5⟩ := h
    obtain ⟨k', es', hb⟩ := hc
    have ho := hM b h1
    rw [hb] at ho
    simp only [ObjRep] at ho
    obtain ⟨hv, _⟩ := ho
    refine ⟨h1, ?_, ?_, blk, h4, fun _ => h5 hv.symm⟩
    · unfold vr; split
      · exact h2
      · rw [if_neg (by omega)]; exact Nat.le_refl _
    · rw [hv]; exact Nat.le_refl _
  | .rm .., _, _, h => by simp only [Rep, AV.iso] at h ⊢; exact h
  | .om .., _, _, h => by simp only [Rep, AV.iso] at h ⊢; exact h
  | .agg cs, x, hc, h => by
    simp only [Rep, AV.iso, AV.cur] at h hc ⊢
    obtain ⟨vs, h1, h2, h3⟩ := h
    exact ⟨vs, h1, h2, RepL.iso hst hM hc h3⟩
  | .tup cs, x, hc, h => by
    simp only [Rep, AV.iso, AV.cur] at h hc ⊢
    obtain ⟨vs, h1, h3⟩ := h
    exact ⟨vs, h1, RepL.iso hst hM hc h3⟩
  | .fn f cs, x, hc, h => by
    simp only [Rep, AV.iso, AV.cur] at h hc ⊢
    obtain ⟨vs, h1, h3⟩ := h
    exact ⟨vs, h1, RepL.iso hst hM hc h3⟩
  | .ifc f cs, x, hc, h => by
    simp only [Rep, AV.iso, AV.cur] at h hc ⊢
    obtain ⟨vs, h1, h3⟩ := h
    exact ⟨vs, h1, RepL.iso hst hM hc h3⟩
  | .any, _, _, h => by simp only [Rep, AV.iso] at h ⊢; exact h
  | .v _, _, _, h => by simp only [Rep, AV.iso] at h ⊢; exact h
  | .rd .., _, _, h => by simp only [Rep, AV.iso] at h ⊢; exact h
  | .ow .., _, _, h => by simp only [Rep, AV.iso] at h ⊢; exact h
  | .rp .., _, _, h => by simp only [Rep, AV.iso] at h ⊢; exact h
  | .rf .., _, _, h => by simp only [Rep, AV.iso] at h ⊢; exact h
theorem RepL.iso (hst : ∀ b, τ (σ b) = b) (hM : MemOK E w M) : ∀ {as : List AV} {xs : List Value}, curL M as → RepL E w as xs → RepL (E.iso n τ) w (isoL n σ as) xs
  | [], [], _, _ => by simp [RepL, isoL]
  | a :: as, x :: xs, hc, h => by
    simp only [RepL, isoL, curL] at h hc ⊢
    exact ⟨Rep.iso hst hM hc.1 h.1, RepL.iso hst hM hc.2 h.2⟩
  | [], _ :: _, _, h => by simp [RepL] at h
  | _ :: _, [], _, h => by simp [RepL] at h
end

theorem ObjRep.iso (hst : ∀ b, τ (σ b) = b) (hM : MemOK E w M) {b : Nat} : ∀ {o : AO}, o.cur M → ObjRep E w b o → ObjRep (E.iso n τ) w (σ b) (o.iso n σ b)
  | .dead, _, _ => trivial
  | .box cs, hc, h => by
    simp only [ObjRep, AO.iso, Env.iso, hst, AO.cur] at h hc ⊢
    obtain ⟨h1, blk, t, vs, h2, h3, h4, h5⟩ := h
    exact ⟨by rw [h1]; simp [vr], blk, t, vs, h2, h3, h4, RepL.iso hst hM hc h5⟩
  | .vec m s f xs, _, h => by
    simp only [ObjRep, AO.iso, Env.iso, hst] at h ⊢
    obtain ⟨h1, h2, h3⟩ := h
    refine ⟨by rw [h1], ?_, h3⟩
    unfold vr; split
    · exact h2
    · rw [if_neg (by omega)]; exact Nat.le_refl _
  | .map m k es, _, h => by
    simp only [ObjRep, AO.iso, Env.iso, hst] at h ⊢
    obtain ⟨h1, h2, h3⟩ := h
    refine ⟨by rw [h1], ?_, h3⟩
    unfold vr; split
    · exact h2
    · rw [if_neg (by omega)]; exact Nat.le_refl _
end

def St.iso (n : Nat) (σ : Nat → Nat) (st : St) : St := ⟨st.s.map fun p => (p.1, p.2.iso n σ), st.m.map fun p => (σ p.1, p.2.iso n σ p.1), st.nx⟩

theorem getS_iso {n : Nat} {σ : Nat → Nat} {t : Nat} : ∀ {l : List (Nat × AV)}, getS (l.map fun p => (p.1, p.2.iso n σ)) t = (getS l t).iso n σ
  | [] => by simp [getS, AV.iso]
  | p :: r => by
    simp only [List.map_cons, getS]
    split
    · rfl
    · exact getS_iso

theorem getM_iso {n : Nat} {σ τ : Nat → Nat} (hst : ∀ b, τ (σ b) = b) (hts : ∀ b, σ (τ b) = b) {t : Nat} : ∀ {l : List (Nat × AO)}, getM (l.map fun p => (σ p.1, p.2.iso n σ p.1)) t = (getM l (τ t)).iso n σ (τ t)
  | [] => by simp [getM, AO.iso]
  | p :: r => by
    simp only [List.map_cons, getM]
    by_cases e : σ p.1 = t
    · have : p.1 = τ t := by rw [← e, hst]
      rw [if_pos e, if_pos this, this]
    · have : ¬ p.1 = τ t := fun h => e (by rw [h, hts])
      rw [if_neg e, if_neg this]
      exact getM_iso hst hts

theorem le_iso {n : Nat} {st : St} {σ τ : Nat → Nat} (hst : ∀ b, τ (σ b) = b) (hts : ∀ b, σ (τ b) = b) (hfix : ∀ b, b < n → σ b = b) (hnx : ∀ b, b < st.nx → σ b < st.nx)
    (hs : ∀ p ∈ st.s, p.2.cur (getM st.m)) (hm : ∀ p ∈ st.m, p.2.cur (getM st.m)) : Le n st (st.iso n σ) := fun N w0 bl a w hb ⟨E, h, h1, h2⟩ => by
  subst hb
  have hcs : ∀ t, (getS st.s t).cur (getM st.m) := fun t => by
    rcases getS_mem (s := st.s) (t := t) with e | ⟨p, hp, _, e⟩
    · rw [e]; simp [AV.cur]
    · rw [← e]; exact hs p hp
  have hcm : ∀ t, (getM st.m t).cur (getM st.m) := fun t => by
    rcases getM_mem (m := st.m) (t := t) with e | ⟨p, hp, _, e⟩
    · rw [e]; trivial
    · rw [← e]; exact hm p hp
  have hfix' : ∀ b, b < bl.n → τ b = b := fun b hb => by have := hfix b hb; rw [← this, hst, this]
  refine ⟨E.iso bl.n τ, ⟨h.defers, h.size, ⟨h.inv.frame, ⟨h.inv.gin.G, fun b hb => ?_, fun b hb => ?_⟩, h.inv.low, h.inv.gout, h.inv.good, fun b blk base sz hb hl => h.inv.locs (τ b) blk base sz hb hl, fun b b' blk base sz base' sz' hb hb' hl hl' => ?_⟩, fun b hb => ?_, fun t => ?_⟩, fun k hk => ?_, fun k hk => ?_⟩
  · have hlow := h.inv.low b hb
    show E.alive (τ b)
    rw [hfix' b hlow]; exact h.inv.gin.alive b hb
  · have hlow := h.inv.low b hb
    have := h.inv.gin.same b hb
    simp only [Env.iso, hfix' b hlow, vr, if_pos hlow]
    exact this
  · have := h.inv.apart (τ b) (τ b') blk base sz base' sz' hb hb' hl hl'
    rw [← hts b, this, hts]
  · have := ObjRep.iso (n := bl.n) hst h.mem (hcm (τ b)) (h.mem (τ b) hb)
    simp only [St.iso]
    rw [getM_iso hst hts]
    rwa [hts] at this
  · simp only [St.iso]
    rw [getS_iso]
    exact Rep.iso hst h.mem (hcs t) (h.slots t)
  · have h3 := h1 (τ k) hk
    have := hnx (τ k) h3
    rwa [hts] at this
  · simp only [St.iso] at hk
    rw [getM_iso hst hts] at hk
    have h3 := h2 (τ k) (fun e => hk (by rw [e]; rfl))
    have := hnx (τ k) h3
    rwa [hts] at this

/-! Names that change places -/
def swp (l : List (Nat × Nat)) (b : Nat) : Nat := match l with
  | [] => b
  | (i, j) :: r => if b = i then j else if b = j then i else swp r b

def swpL : List (Nat × Nat) → List Nat
  | [] => []
  | (i, j) :: r => i :: j :: swpL r

theorem swp_or : ∀ (l : List (Nat × Nat)) (b : Nat), swp l b = b ∨ swp l b ∈ swpL l
  | [], b => .inl rfl
  | (i, j) :: r, b => by
    simp only [swp, swpL]
    split
    · right; simp
    · split
      · right; simp
      · rcases swp_or r b with h | h
        · exact .inl h
        · right; simp [h]

theorem swp_out : ∀ {l : List (Nat × Nat)} {b : Nat}, b ∉ swpL l → swp l b = b
  | [], b, _ => rfl
  | (i, j) :: r, b, h => by
    simp only [swpL, List.mem_cons, not_or] at h
    simp only [swp, if_neg h.1, if_neg h.2.1]
    exact swp_out h.2.2

theorem swp_inv : ∀ {l : List (Nat × Nat)}, (swpL l).Nodup → ∀ b, swp l (swp l b) = b
  | [], _, _ => rfl
  | (i, j) :: r, h, b => by
    simp only [swpL, List.nodup_cons, List.mem_cons, not_or] at h
    obtain ⟨⟨h1, h2⟩, h3, h4⟩ := h
    have ih := swp_inv h4
    by_cases e1 : b = i
    · subst e1
      simp only [swp, if_true]
      rw [if_neg (fun e => h1 e.symm)]
    · by_cases e2 : b = j
      · subst e2
        simp only [swp, if_neg e1, if_true]
      · have : swp ((i, j) :: r) b = swp r b := by simp only [swp, if_neg e1, if_neg e2]
        rw [this]
        rcases swp_or r b with h | h
        · rw [h]; simp only [swp, if_neg e1, if_neg e2]; exact h
        · simp only [swp]
          have n1 : ¬ swp r b = i := fun e => h2 (by rw [← e]; exact h)
          have n2 : ¬ swp r b = j := fun e => h3 (by rw [← e]; exact h)
          rw [if_neg n1, if_neg n2]
          exact ih b

theorem le_swp {n : Nat} {st : St} (l : List (Nat × Nat)) (hl : (swpL l).Nodup) (hb : ∀ b ∈ swpL l, n ≤ b ∧ b < st.nx) (hs : ∀ p ∈ st.s, p.2.cur (getM st.m)) (hm : ∀ p ∈ st.m, p.2.cur (getM st.m)) : Le n st (st.iso n (swp l)) :=
  le_iso (swp_inv hl) (swp_inv hl) (fun b hb' => swp_out fun h => by have := (hb b h).1; omega) (fun b hb' => by
    rcases swp_or l b with h | h
    · rw [h]; exact hb'
    · exact (hb _ h).2) hs hm

/-- Only some slots and objects are kept. -/
def keepM (ks : List Nat) (m : List (Nat × AO)) : List (Nat × AO) := ks.map fun k => (k, getM m k)

theorem getM_keepM {ks : List Nat} {m : List (Nat × AO)} {t : Nat} : getM (keepM ks m) t = if t ∈ ks then getM m t else .dead := by
  induction ks with
  | nil => rfl
  | cons k r ih =>
    simp only [keepM, List.map_cons, getM, List.mem_cons]
    by_cases e : k = t
    · subst e; simp
    · rw [if_neg e]
      simp only [keepM] at ih
      rw [ih]
      simp [Ne.symm e]

theorem le_keep2 (n : Nat) (ks km : List Nat) (st : St) : Le n st ⟨keepS ks st.s, keepM km st.m, st.nx⟩ := fun N w0 bl a w _ ⟨E, h, h1, h2⟩ => by
  refine ⟨E, ⟨h.defers, h.size, h.inv, fun b hb => ?_, fun t => ?_⟩, h1, fun k hk => h2 k fun e => hk ?_⟩
  · rw [getM_keepM]
    split
    · exact h.mem b hb
    · trivial
  · rw [getS_keepS]
    split
    · exact h.slots t
    · simp [Rep, CRep]
  · rw [getM_keepM, e]; simp

/-- The state of a round fits the state of the loop, under other names. -/
theorem le_turn {n : Nat} {s s' : List (Nat × AV)} {m m' : List (Nat × AO)} {nx nx' : Nat} (l : List (Nat × Nat)) (ks km : List Nat) {s1 : List (Nat × AV)} {m1 : List (Nat × AO)}
    (e1 : keepS ks s = s1) (e2 : keepM km m = m1) (hl : (swpL l).Nodup) (hb : ∀ b ∈ swpL l, n ≤ b ∧ b < nx) (hs : ∀ p ∈ s1, p.2.cur (getM m1)) (hm : ∀ p ∈ m1, p.2.cur (getM m1))
    (h : Le n ⟨s1.map fun p => (p.1, p.2.iso n (swp l)), m1.map fun p => (swp l p.1, p.2.iso n (swp l) p.1), nx⟩ ⟨s', m', nx'⟩) : Le n ⟨s, m, nx⟩ ⟨s', m', nx'⟩ := by
  subst e1 e2
  exact ((le_keep2 n ks km ⟨s, m, nx⟩).trans (le_swp l hl hb hs hm)).trans h

/-! A slice in a box that is nil, as a slice of an object of its own -/
theorem RepL.set' {E : Env} {w : World} : ∀ {as : List AV} {xs : List Value} {i : Nat} {a : AV} {x : Value}, RepL E w as xs → xs[i]? = some x → Rep E w a x → RepL E w (as.set i a) xs
  | [], [], i, a, x, _, h, _ => by simp at h
  | b :: as, y :: xs, 0, a, x, h, hx, hr => by
    simp only [RepL, List.set_cons_zero] at h ⊢
    simp only [List.getElem?_cons_zero, Option.some.injEq] at hx
    subst hx
    exact ⟨hr, h.2⟩
  | b :: as, y :: xs, i + 1, a, x, h, hx, hr => by
    simp only [RepL, List.set_cons_succ] at h ⊢
    exact ⟨h.1, RepL.set' h.2 (by simpa using hx) hr⟩
  | [], _ :: _, _, _, _, h, _, _ => by simp [RepL] at h
  | _ :: _, [], _, _, _, h, _, _ => by simp [RepL] at h

theorem le_nilcell {n : Nat} {s : List (Nat × AV)} {m : List (Nat × AO)} {nx b i sz : Nat} {cs : List AV} (hb : getM m b = .box cs) (hi : cs[i]? = some (.v (.slice none 0 0))) :
    Le n ⟨s, m, nx⟩ ⟨s, (b, .box (cs.set i (.sl nx 1 sz 0 0))) :: (nx, .vec 1 sz false []) :: m, nx + 1⟩ := fun N w0 bl a w _ ⟨E, hs, h1, h2⟩ => by
  have hna : ¬ E.alive nx := fun hh => by have := h1 nx hh; simp at this
  have hbn : b < nx := h2 b (by rw [hb]; simp)
  have st := StepTo.none hs.inv nx sz hna false
  have hmem := st.mem hs.inv hs.mem
  refine ⟨_, ⟨hs.defers, hs.size, st.inv, fun k hk => ?_, fun k => st.rep hs.inv (hs.slots k)⟩, fun k hk => ?_, fun k hk => ?_⟩
  · have := hmem k hk
    simp only [updM] at this
    simp only [getM]
    by_cases e : b = k
    · subst e
      rw [if_pos rfl]
      rw [if_neg (by omega), hb] at this
      simp only [ObjRep] at this ⊢
      obtain ⟨g1, blk, t, vs, g2, g3, g4, g5⟩ := this
      obtain ⟨x, q1, q2⟩ := g5.get hi
      simp only [Rep, CRep] at q2
      refine ⟨g1, blk, t, vs, g2, g3, g4, g5.set' q1 ?_⟩
      rw [q2]
      simp only [Rep]
      exact ⟨.inr rfl, Nat.le_refl _, by simp [Env.upd], none, 0, rfl, Nat.le_refl _, fun _ => rfl, fun _ => by simp [Env.upd, SlAt]⟩
    · rw [if_neg e]
      exact this
  · rcases hk with hk | hk
    · have := h1 k hk; simp at this ⊢; omega
    · simp; omega
  · simp only [getM] at hk
    split at hk
    · simp; omega
    · split at hk
      · simp; omega
      · have := h2 k hk; simp at this ⊢; omega

/-! A loop of few rounds, round by round -/
def AWR (c : Cx) (x : Code) (Q : Exit → St → Prop) : Nat → St → Prop
  | 0, _ => False
  | n + 1, st => AW c x st (thenQ (AWR c x Q n) Q)

theorem aw_round {c : Cx} {x : Code} {Q : Exit → St → Prop} {n : Nat} {st : St} (h : AW c x st (thenQ (AWR c x Q n) Q)) : AWR c x Q (n + 1) st := h

open Classical in
theorem aw_rounds {c : Cx} {x : Code} {Q : Exit → St → Prop} (n : Nat) {st : St} (h : AWR c x Q n st) : AW c (.loop x) st Q :=
  aw_loop (ι := {p : Nat × St // AWR c x Q p.1 p.2}) (fun i => i.1.2) (fun i => i.1.1) ⟨(n, st), h⟩ (Le.refl _ _) fun ⟨⟨m, s⟩, hm⟩ => by
    cases m with
    | zero => exact hm.elim
    | succ m =>
      exact aw_mono hm fun e s' hq => by
        cases e with
        | normal => exact ⟨⟨(m, s'), hq⟩, Le.refl _ _, by simp⟩
        | _ => exact hq
end Go.AM
