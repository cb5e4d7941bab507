/- Evaluation of code at values that are known: an interpreter for the abstract view, and its soundness. -/
import Derived.Test.YtdhhdnbdceoenaaAmQ
set_option linter.all false

namespace Go.AM
open Go

def remK {α : Type} (k : Nat) (l : List (Nat × α)) : List (Nat × α) := l.filter fun p => !(Nat.beq p.1 k)

def tidyS (l : List (Nat × AV)) : List (Nat × AV) := l.foldr (fun p acc => match p.2 with
  | .any => remK p.1 acc
  | a => (p.1, a) :: remK p.1 acc) []
def tidyM (l : List (Nat × AO)) : List (Nat × AO) := l.foldr (fun p acc => match p.2 with
  | .dead => remK p.1 acc
  | a => (p.1, a) :: remK p.1 acc) []

theorem getS_rem {k t : Nat} : ∀ {l : List (Nat × AV)}, getS (remK k l) t = if t = k then .any else getS l t
  | [] => by simp [remK, getS]
  | p :: r => by
    obtain ⟨j, a⟩ := p
    have ih := getS_rem (k := k) (t := t) (l := r)
    simp only [remK] at ih ⊢
    by_cases h : j = k
    · subst h
      rw [List.filter_cons_of_neg (by simp), ih]
      simp only [getS]
      by_cases e : t = j
      · simp [e]
      · simp [e, Ne.symm e]
    · rw [List.filter_cons_of_pos (by rw [Bool.not_eq_true', Bool.eq_false_iff]; exact fun hh => h (Nat.eq_of_beq_eq_true hh))]
      simp only [getS, ih]
      by_cases e : t = k
      · subst e; simp [h]
      · simp [e]

theorem getM_rem {k t : Nat} : ∀ {l : List (Nat × AO)}, getM (remK k l) t = if t = k then .dead else getM l t
  | [] => by simp [remK, getM]
  | p :: r => by
    obtain ⟨j, a⟩ := p
    have ih := getM_rem (k := k) (t := t) (l := r)
    simp only [remK] at ih ⊢
    by_cases h : j = k
    · subst h
      rw [List.filter_cons_of_neg (by simp), ih]
      simp only [getM]
      by_cases e : t = j
      · simp [e]
      · simp [e, Ne.symm e]
    · rw [List.filter_cons_of_pos (by rw [Bool.not_eq_true', Bool.eq_false_iff]; exact fun hh => h (Nat.eq_of_beq_eq_true hh))]
      simp only [getM, ih]
      by_cases e : t = k
      · subst e; simp [h]
      · simp [e]

theorem getS_tidy {t : Nat} : ∀ {l : List (Nat × AV)}, getS (tidyS l) t = getS l t
  | [] => rfl
  | p :: r => by
    obtain ⟨j, a⟩ := p
    have ih := getS_tidy (t := t) (l := r)
    simp only [tidyS] at ih
    simp only [tidyS, List.foldr_cons, getS]
    by_cases e : j = t
    · subst e
      rw [if_pos rfl]
      cases a <;> first | (simp only [getS_rem, if_true]; done) | simp [getS]
    · rw [if_neg e, ← ih]
      cases a <;> first | (rw [getS_rem, if_neg (Ne.symm e)]; done) | (simp only [getS, if_neg e]; rw [getS_rem, if_neg (Ne.symm e)])

theorem getM_tidy {t : Nat} : ∀ {l : List (Nat × AO)}, getM (tidyM l) t = getM l t
  | [] => rfl
  | p :: r => by
    obtain ⟨j, a⟩ := p
    have ih := getM_tidy (t := t) (l := r)
    simp only [tidyM] at ih
    simp only [tidyM, List.foldr_cons, getM]
    by_cases e : j = t
    · subst e
      rw [if_pos rfl]
      cases a <;> first | (simp only [getM_rem, if_true]; done) | simp [getM]
    · rw [if_neg e, ← ih]
      cases a <;> first | (rw [getM_rem, if_neg (Ne.symm e)]; done) | (simp only [getM, if_neg e]; rw [getM_rem, if_neg (Ne.symm e)])

def St.tidy (st : St) : St := ⟨tidyS st.s, tidyM st.m, st.nx⟩

theorem sat_tidy {N : Nat} {w0 : World} {bl : Bk} {a : Act} {w : World} {st : St} (h : Sat N w0 bl a w st) : Sat N w0 bl a w st.tidy := by
  unfold Sat at h ⊢
  have e1 : getS st.tidy.s = getS st.s := funext fun t => getS_tidy
  have e2 : getM st.tidy.m = getM st.m := funext fun t => getM_tidy
  rw [e1, e2]
  exact h

/-! To hold values in full: the kernel works on what is asked for, so what is kept is first worked out. -/
section
variable {β : Type}
def forceN (n : Nat) (k : Nat → β) : β := match n with
  | 0 => k 0
  | m + 1 => k (m + 1)
def forceI (n : Int) (k : Int → β) : β := match n with
  | .ofNat m => forceN m fun m => k (.ofNat m)
  | .negSucc m => forceN m fun m => k (.negSucc m)
def forceB (b : Bool) (k : Bool → β) : β := match b with
  | true => k true
  | false => k false
def forceV (x : Value) (k : Value → β) : β := match x with
  | .int t n => forceI n fun n => k (.int t n)
  | .bool b => forceB b fun b => k (.bool b)
  | x => k x
def forceK : List Int → (List Int → β) → β
  | [], k => k []
  | a :: r, k => forceI a fun a => forceK r fun r => k (a :: r)
mutual
def AV.force : AV → (AV → β) → β
  | .any, k => k .any
  | .v x, k => forceV x fun x => k (.v x)
  | .agg cs, k => forceL cs fun cs => k (.agg cs)
  | .tup cs, k => forceL cs fun cs => k (.tup cs)
  | .rd s xs, k => forceN s fun s => forceLL xs fun xs => k (.rd s xs)
  | .ow s xs, k => forceN s fun s => forceLL xs fun xs => k (.ow s xs)
  | .rp cs, k => forceL cs fun cs => k (.rp cs)
  | .rf cs, k => forceL cs fun cs => k (.rf cs)
  | .bp b o, k => forceN b fun b => forceN o fun o => k (.bp b o)
  | .sl b m s o n, k => forceN b fun b => forceN m fun m => forceN s fun s => forceN o fun o => forceN n fun n => k (.sl b m s o n)
  | .ep b m s i j, k => forceN b fun b => forceN m fun m => forceN s fun s => forceN i fun i => forceN j fun j => k (.ep b m s i j)
  | .bs b o s n, k => forceN b fun b => forceN o fun o => forceN s fun s => forceN n fun n => k (.bs b o s n)
  | .fn f cs, k => forceL cs fun cs => k (.fn f cs)
  | .ifc f cs, k => forceL cs fun cs => k (.ifc f cs)
  | .mp b m, k => forceN b fun b => forceN m fun m => k (.mp b m)
  | .rm n es, k => forceN n fun n => forceE es fun es => k (.rm n es)
  | .om n es, k => forceN n fun n => forceE es fun es => k (.om n es)
def forceE : List (List Int × AV) → (List (List Int × AV) → β) → β
  | [], k => k []
  | (q, a) :: r, k => forceK q fun q => a.force fun a => forceE r fun r => k ((q, a) :: r)
def forceL : List AV → (List AV → β) → β
  | [], k => k []
  | a :: r, k => a.force fun a => forceL r fun r => k (a :: r)
def forceLL : List (List AV) → (List (List AV) → β) → β
  | [], k => k []
  | a :: r, k => forceL a fun a => forceLL r fun r => k (a :: r)
end
def AO.force (o : AO) (k : AO → β) : β := match o with
  | .dead => k .dead
  | .box cs => forceL cs fun cs => k (.box cs)
  | .vec m s f xs => forceN m fun m => forceN s fun s => forceB f fun f => forceLL xs fun xs => k (.vec m s f xs)
  | .map m n es => forceN m fun m => forceN n fun n => forceE es fun es => k (.map m n es)
def forceM : List (Nat × AO) → (List (Nat × AO) → β) → β
  | [], k => k []
  | (n, o) :: r, k => forceN n fun n => o.force fun o => forceM r fun r => k ((n, o) :: r)
def forceS : List (Nat × AV) → (List (Nat × AV) → β) → β
  | [], k => k []
  | (n, o) :: r, k => forceN n fun n => o.force fun o => forceS r fun r => k ((n, o) :: r)

def setMf : List (Nat × AO) → Nat → AO → (List (Nat × AO) → β) → β
  | [], b, o, k => k [(b, o)]
  | (j, p) :: r, b, o, k => match Nat.beq j b with
    | true => k ((j, o) :: r)
    | false => setMf r b o fun r => k ((j, p) :: r)
theorem setMf_eq : ∀ (M : List (Nat × AO)) (b : Nat) (o : AO) (k : List (Nat × AO) → β), setMf M b o k = k (setM M b o)
  | [], b, o, k => rfl
  | (j, p) :: r, b, o, k => by
    simp only [setMf, setM]
    split
    · rename_i h; rw [if_pos (Nat.eq_of_beq_eq_true h)]
    · rename_i h; rw [if_neg (Nat.ne_of_beq_eq_false h), setMf_eq]
def consU : List (Nat × AO) → List (Nat × AO) → (List (Nat × AO) → β) → β
  | [], M, k => k M
  | (b, o) :: r, M, k => consU r M fun M => setMf M b o k
theorem consU_eq : ∀ (u M : List (Nat × AO)) (k : List (Nat × AO) → β), consU u M k = k (updL M u)
  | [], M, k => rfl
  | (b, o) :: r, M, k => by simp only [consU, consU_eq, updL, setMf_eq]

/-- Only the outermost word of each value. -/
def AV.sh (a : AV) (k : AV → β) : β := match a with
  | .any => k .any
  | .v x => k (.v x)
  | .agg cs => k (.agg cs)
  | .tup cs => k (.tup cs)
  | .rd s xs => k (.rd s xs)
  | .ow s xs => k (.ow s xs)
  | .rp cs => k (.rp cs)
  | .rf cs => k (.rf cs)
  | .bp b o => k (.bp b o)
  | .sl b m s o n => k (.sl b m s o n)
  | .ep b m s i j => k (.ep b m s i j)
  | .bs b o s n => k (.bs b o s n)
  | .fn f cs => k (.fn f cs)
  | .ifc f cs => k (.ifc f cs)
  | .mp b m => k (.mp b m)
  | .rm n es => k (.rm n es)
  | .om n es => k (.om n es)
def AO.sh (o : AO) (k : AO → β) : β := match o with
  | .dead => k .dead
  | .box cs => k (.box cs)
  | .vec m s f xs => k (.vec m s f xs)
  | .map m n es => k (.map m n es)
def shM : List (Nat × AO) → (List (Nat × AO) → β) → β
  | [], k => k []
  | (n, o) :: r, k => forceN n fun n => o.sh fun o => shM r fun r => k ((n, o) :: r)
def shS : List (Nat × AV) → (List (Nat × AV) → β) → β
  | [], k => k []
  | (n, o) :: r, k => forceN n fun n => o.sh fun o => shS r fun r => k ((n, o) :: r)

theorem forceN_eq (n : Nat) (k : Nat → β) : forceN n k = k n := by cases n <;> rfl
theorem forceI_eq (n : Int) (k : Int → β) : forceI n k = k n := by cases n <;> simp [forceI, forceN_eq]
theorem forceB_eq (n : Bool) (k : Bool → β) : forceB n k = k n := by cases n <;> rfl
theorem forceV_eq (n : Value) (k : Value → β) : forceV n k = k n := by cases n <;> simp [forceV, forceI_eq, forceB_eq]
theorem forceK_eq : ∀ (a : List Int) (k : List Int → β), forceK a k = k a
  | [], k => by simp only [forceK]
  | a :: r, k => by simp only [forceK, forceI_eq, forceK_eq]
mutual
theorem AV.force_eq : ∀ (a : AV) (k : AV → β), a.force k = k a
  | .any, k => by simp only [AV.force]
  | .v x, k => by simp only [AV.force, forceV_eq]
  | .agg cs, k => by simp only [AV.force, forceL_eq]
  | .tup cs, k => by simp only [AV.force, forceL_eq]
  | .rd s xs, k => by simp only [AV.force, forceN_eq, forceLL_eq]
  | .ow s xs, k => by simp only [AV.force, forceN_eq, forceLL_eq]
  | .rp cs, k => by simp only [AV.force, forceL_eq]
  | .rf cs, k => by simp only [AV.force, forceL_eq]
  | .bp b o, k => by simp only [AV.force, forceN_eq]
  | .sl b m s o n, k => by simp only [AV.force, forceN_eq]
  | .ep b m s i j, k => by simp only [AV.force, forceN_eq]
  | .bs b o s n, k => by simp only [AV.force, forceN_eq]
  | .fn f cs, k => by simp only [AV.force, forceL_eq]
  | .ifc f cs, k => by simp only [AV.force, forceL_eq]
  | .mp b m, k => by simp only [AV.force, forceN_eq]
  | .rm n es, k => by simp only [AV.force, forceN_eq, forceE_eq]
  | .om n es, k => by simp only [AV.force, forceN_eq, forceE_eq]
theorem forceE_eq : ∀ (a : List (List Int × AV)) (k : List (List Int × AV) → β), forceE a k = k a
  | [], k => by simp only [forceE]
  | (q, a) :: r, k => by simp only [forceE, forceK_eq, AV.force_eq, forceE_eq]
theorem forceL_eq : ∀ (a : List AV) (k : List AV → β), forceL a k = k a
  | [], k => by simp only [forceL]
  | a :: r, k => by simp only [forceL, AV.force_eq, forceL_eq]
theorem forceLL_eq : ∀ (a : List (List AV)) (k : List (List AV) → β), forceLL a k = k a
  | [], k => by simp only [forceLL]
  | a :: r, k => by simp only [forceLL, forceL_eq, forceLL_eq]
end
theorem AO.force_eq (a : AO) (k : AO → β) : a.force k = k a := by cases a <;> simp only [AO.force, forceL_eq, forceN_eq, forceB_eq, forceLL_eq, forceE_eq]
theorem forceM_eq : ∀ (a : List (Nat × AO)) (k : List (Nat × AO) → β), forceM a k = k a
  | [], k => by simp only [forceM]
  | (n, o) :: r, k => by simp only [forceM, forceN_eq, AO.force_eq, forceM_eq]
theorem AV.sh_eq (a : AV) (k : AV → β) : a.sh k = k a := by cases a <;> rfl
theorem AO.sh_eq (a : AO) (k : AO → β) : a.sh k = k a := by cases a <;> rfl
theorem shM_eq : ∀ (a : List (Nat × AO)) (k : List (Nat × AO) → β), shM a k = k a
  | [], k => by simp only [shM]
  | (n, o) :: r, k => by simp only [shM, forceN_eq, AO.sh_eq, shM_eq]
theorem shS_eq : ∀ (a : List (Nat × AV)) (k : List (Nat × AV) → β), shS a k = k a
  | [], k => by simp only [shS]
  | (n, o) :: r, k => by simp only [shS, forceN_eq, AV.sh_eq, shS_eq]
theorem forceS_eq : ∀ (a : List (Nat × AV)) (k : List (Nat × AV) → β), forceS a k = k a
  | [], k => by simp only [forceS]
  | (n, o) :: r, k => by simp only [forceS, forceN_eq, AV.force_eq, forceS_eq]
end

/-! The same run, in words that the kernel reads faster. -/
def getSf (l : List (Nat × AV)) (t : Nat) : AV :=
  match l with
  | [] => .any
  | (k, a) :: r => match Nat.beq k t with
    | true => a
    | false => getSf r t

def getMf (l : List (Nat × AO)) (t : Nat) : AO :=
  match l with
  | [] => .dead
  | (k, a) :: r => match Nat.beq k t with
    | true => a
    | false => getMf r t

theorem getSf_eq : ∀ {l : List (Nat × AV)} {t : Nat}, getSf l t = getS l t
  | [], _ => rfl
  | (k, a) :: r, t => by
    simp only [getSf, getS]
    split
    · rename_i h; rw [if_pos (Nat.eq_of_beq_eq_true h)]
    · rename_i h; rw [if_neg (Nat.ne_of_beq_eq_false h), getSf_eq]

theorem getMf_eq : ∀ {l : List (Nat × AO)} {t : Nat}, getMf l t = getM l t
  | [], _ => rfl
  | (k, a) :: r, t => by
    simp only [getMf, getM]
    split
    · rename_i h; rw [if_pos (Nat.eq_of_beq_eq_true h)]
    · rename_i h; rw [if_neg (Nat.ne_of_beq_eq_false h), getMf_eq]

def aEvf (l : List (Nat × AV)) : Operand → AV
  | .tmp t => getSf l t
  | .const v => .v v
  | .func f => .fn f []
  | .global _ => .any

theorem aEvf_eq (l : List (Nat × AV)) : aEvf l = aEv l := by
  funext x
  cases x <;> simp only [aEvf, aEv, getSf_eq]

theorem getMf_fun (l : List (Nat × AO)) : getMf l = getM l := funext fun _ => getMf_eq

def dstOKf (N : Nat) (o : Oper) : Bool := match o.dst with | some d => Nat.blt d N | none => true

theorem dstOKf_eq (N : Nat) (o : Oper) : dstOKf N o = dstOK N o := by
  unfold dstOKf dstOK
  cases o.dst with
  | none => rfl
  | some d =>
    simp only [Nat.blt]
    rw [Bool.eq_iff_iff, decide_eq_true_iff, Nat.ble_eq]
    exact Nat.succ_le_iff

def arunF (T : TypeId → Option TD) (X : AX) (ops : Array Oper) (N base : Nat) : List Oper → Nat → List (Nat × AV) → List (Nat × AO) → Option (List (Nat × AV) × List (Nat × AO))
  | [], _, l, M => some (l, M)
  | o :: r, i, l, M => match dstOKf N o with
    | false => none
    | true => match o.guard with
      | none => match astep T X o.op (aEvf l) (getMf M) (base + 16 * i) with
        | some (av, u) => av.force fun av => forceM u fun u => consU u M fun M => match o.dst with
          | some d => arunF T X ops N base r (i + 1) ((d, av) :: l) M
          | none => arunF T X ops N base r (i + 1) l M
        | none => none
      | some (j, want) => match (ops[j]?).bind (·.dst) with
        | some d => match yV (getSf l d) with
          | some (some b) => match b == want with
            | true => match astep T X o.op (aEvf ((d, .v (.bool want)) :: l)) (getMf M) (base + 16 * i) with
              | some (av, u) => av.force fun av => forceM u fun u => consU u M fun M => match o.dst with
                | some d' => arunF T X ops N base r (i + 1) ((d', av) :: (d, .v (.bool want)) :: l) M
                | none => arunF T X ops N base r (i + 1) ((d, .v (.bool want)) :: l) M
              | none => none
            | false => match o.dst with
              | some d' => arunF T X ops N base r (i + 1) ((d', .u) :: (d, .v (.bool (!want))) :: l) M
              | none => arunF T X ops N base r (i + 1) ((d, .v (.bool (!want))) :: l) M
          | some none => match o.dst with
            | some d' => arunF T X ops N base r (i + 1) ((d', .u) :: l) M
            | none => arunF T X ops N base r (i + 1) l M
          | none => none
        | none => none

theorem arunF_eq {T : TypeId → Option TD} {X : AX} {ops : Array Oper} {N base : Nat} : ∀ {ol : List Oper} {i : Nat} {l : List (Nat × AV)} {M : List (Nat × AO)}, arunF T X ops N base ol i l M = arun T X ops N base ol i l M
  | [], _, _, _ => rfl
  | o :: r, i, l, M => by
    simp only [arunF, arun, aEvf_eq, getMf_fun, getSf_eq, dstOKf_eq]
    cases hdo : o.dst <;> simp only [putS, AV.force_eq, forceM_eq, consU_eq]
    all_goals
    cases dstOK N o with
    | false => rfl
    | true =>
      simp only [if_true]
      cases o.guard with
      | none =>
        simp only
        cases astep T X o.op (aEv l) (getM M) (base + 16 * i) with
        | none => rfl
        | some p => exact arunF_eq
      | some jw =>
        obtain ⟨j, want⟩ := jw
        simp only
        cases (ops[j]?).bind (·.dst) with
        | none => rfl
        | some d =>
          simp only
          cases yV (getS l d) with
          | none => rfl
          | some y =>
            cases y with
            | none => exact arunF_eq
            | some b =>
              simp only
              by_cases h : b = want
              · subst h
                simp only [beq_self_eq_true, if_true]
                cases astep T X o.op (aEv ((d, .v (.bool b)) :: l)) (getM M) (base + 16 * i) with
                | none => rfl
                | some p => exact arunF_eq
              · have : (b == want) = false := by cases b <;> cases want <;> simp at h ⊢
                simp only [this, if_neg h]
                exact arunF_eq

def aregionF (T : TypeId → Option TD) (X : AX) (N : Nat) (ops : Array Oper) (st : St) : Option St :=
  match arunF T X ops N st.nx ops.toList 0 st.s st.m with
  | some (s, m) => forceN (st.nx + 16 * ops.size) fun n => some ⟨s, m, n⟩
  | none => none

theorem aregionF_eq {T : TypeId → Option TD} {X : AX} {N : Nat} {ops : Array Oper} {st : St} : aregionF T X N ops st = aregion T X N ops st := by
  simp only [aregionF, aregion, arunF_eq, forceN_eq]
  cases arun T X ops N st.nx ops.toList 0 st.s st.m <;> rfl

def aexec (T : TypeId → Option TD) (X : AX) (N : Nat) : Nat → Code → St → Option (Exit × St)
  | 0, _, _ => none
  | n + 1, k, st => match k with
    | .skip => some (.normal, st)
    | .exit id => some (.exit id, st)
    | .ret => some (.ret, st)
    | .seq x y => match aexec T X N n x st with
      | some (.normal, st') => aexec T X N n y st'
      | r => r
    | .region _ ops _ => match aregionF T X N ops st with
      | some st' => some (.normal, st')
      | none => none
    | .cond o x y => match aEvf st.s o with
      | .v (.bool true) => aexec T X N n x st
      | .v (.bool false) => aexec T X N n y st
      | _ => none
    | .block id x => match aexec T X N n x st with
      | some (.exit id', st') => if id' = id then some (.normal, st') else some (.exit id', st')
      | r => r
    | .loop x => shS (tidyS st.s) fun s => shM (tidyM st.m) fun m => match aexec T X N n x ⟨s, m, st.nx⟩ with
      | some (.normal, st') => aexec T X N n (.loop x) st'
      | r => r
    | _ => none

/-- Every region whose order is drawn has an order that does not matter. -/
def codeOrd (X : AX) : Code → Bool
  | .region _ ops d => !d || ordB X ops
  | .seq x y => codeOrd X x && codeOrd X y
  | .cond _ x y => codeOrd X x && codeOrd X y
  | .block _ x => codeOrd X x
  | .loop x => codeOrd X x
  | _ => true

theorem aw_tidy {c : Cx} {k : Code} {st : St} {Q : Exit → St → Prop} (h : AW c k st.tidy Q) : AW c k st Q := fun a w hs => h a w (sat_tidy hs)

theorem aw_untidy {c : Cx} {k : Code} {st st1 : St} {Q : Exit → St → Prop} {e : Exit} (h : AW c k st (fun e' s => e' = e ∧ s = st1)) (hq : Q e st1.tidy) : AW c k st Q := fun a w hs =>
  wp_mono (h a w hs) fun e' a' w' ⟨s, ⟨h1, h2⟩, h3⟩ => by subst h1 h2; exact ⟨_, hq, sat_tidy h3⟩

theorem aexec_ok {c : Cx} (hc : c.OK) : ∀ (n : Nat) (k : Code) (st : St) (e : Exit) (st' : St), codeOrd c.X k = true → aexec (Types c.P) c.X c.N n k st = some (e, st') → AW c k st (fun e' s => e' = e ∧ s = st') := by
  intro n
  induction n using Nat.strongRecOn with
  | _ n ih =>
    intro k st e st' ho h
    cases n with
    | zero => simp [aexec] at h
    | succ n =>
      cases k <;> simp only [aexec, reduceCtorEq, Option.some.injEq, Prod.mk.injEq] at h
      case skip => obtain ⟨rfl, rfl⟩ := h; exact aw_skip ⟨rfl, rfl⟩
      case exit => obtain ⟨rfl, rfl⟩ := h; exact aw_exit ⟨rfl, rfl⟩
      case ret => obtain ⟨rfl, rfl⟩ := h; exact aw_ret ⟨rfl, rfl⟩
      case seq x y =>
        simp only [codeOrd, Bool.and_eq_true] at ho
        cases hx : aexec (Types c.P) c.X c.N n x st with
        | none => simp [hx] at h
        | some p =>
          obtain ⟨e1, s1⟩ := p
          refine aw_seq (aw_mono (ih n (by omega) x st e1 s1 ho.1 hx) fun e2 s2 ⟨p1, p2⟩ => ?_)
          subst p1 p2
          rw [hx] at h
          cases e2 <;> simp only [Option.some.injEq, Prod.mk.injEq] at h
          case normal => exact ih n (by omega) y s2 e st' ho.2 h
          all_goals exact h
      case region id ops d =>
        rw [aregionF_eq] at h
        cases hr : aregion (Types c.P) c.X c.N ops st <;> simp only [hr, reduceCtorEq, Option.some.injEq, Prod.mk.injEq] at h
        rename_i s1
        obtain ⟨rfl, rfl⟩ := h
        refine aw_region hc (fun hd => ?_) ⟨s1, hr, rfl, rfl⟩
        subst hd
        simpa [codeOrd] using ho
      case cond o x y =>
        simp only [codeOrd, Bool.and_eq_true] at ho
        rw [aEvf_eq] at h
        split at h
        · rename_i hb
          exact aw_cond hb (fun _ => ih n (by omega) x st e st' ho.1 h) (fun hf => by simp at hf)
        · rename_i hb
          exact aw_cond hb (fun hf => by simp at hf) (fun _ => ih n (by omega) y st e st' ho.2 h)
        · simp at h
      case block id x =>
        simp only [codeOrd] at ho
        cases hx : aexec (Types c.P) c.X c.N n x st with
        | none => simp [hx] at h
        | some p =>
          obtain ⟨e1, s1⟩ := p
          refine aw_block (aw_mono (ih n (by omega) x st e1 s1 ho hx) fun e2 s2 ⟨p1, p2⟩ => ?_)
          subst p1 p2
          rw [hx] at h
          cases e2 <;> simp only [Option.some.injEq, Prod.mk.injEq] at h <;> simp only [blockQ]
          case exit id' =>
            split at h <;> simp only [Option.some.injEq, Prod.mk.injEq] at h
            · rename_i hh; rw [if_pos hh]; exact h
            · rename_i hh; rw [if_neg hh]; exact h
          all_goals exact h
      case loop x =>
        simp only [codeOrd] at ho
        have h0 : aexec (Types c.P) c.X c.N (n + 1) (.loop x) st = some (e, st') := by simp only [aexec]; exact h
        refine aw_loop (ι := {p : Nat × St // p.1 ≤ n + 1 ∧ aexec (Types c.P) c.X c.N p.1 (.loop x) p.2 = some (e, st')}) (fun i => i.1.2) (fun i => i.1.1) ⟨(n + 1, st), Nat.le_refl _, h0⟩ (Le.refl _ _) ?_
        rintro ⟨⟨m, s⟩, hm, hs⟩
        simp only at hm hs
        cases m with
        | zero => simp [aexec] at hs
        | succ m =>
          simp only [aexec, shS_eq, shM_eq] at hs
          change (match aexec (Types c.P) c.X c.N m x s.tidy with
            | some (.normal, st') => aexec (Types c.P) c.X c.N m (.loop x) st'
            | r => r) = _ at hs
          cases hx : aexec (Types c.P) c.X c.N m x s.tidy with
          | none => simp [hx] at hs
          | some p =>
            obtain ⟨e1, s1⟩ := p
            refine aw_tidy (aw_mono (ih m (by omega) x s.tidy e1 s1 ho hx) fun e2 s2 ⟨p1, p2⟩ => ?_)
            subst p1 p2
            rw [hx] at hs
            cases e2 <;> simp only [Option.some.injEq, Prod.mk.injEq] at hs
            case normal => exact ⟨⟨(m, s2), by simp only; omega, hs⟩, Le.refl _ _, by simp⟩
            all_goals exact hs

/-! Functions -/
def AV.plainB : AV → Bool
  | .any | .v _ => true
  | _ => false
def AV.flat1B : AV → Bool
  | .any | .v _ => true
  | .ow _ xs => xs.all fun e => e.all AV.plainB
  | _ => false
def AV.flatVB : AV → Bool
  | .agg cs => cs.all AV.flat1B
  | a => a.flat1B
def AV.flatB : AV → Bool
  | .tup cs => cs.all AV.flatVB
  | a => a.flatVB
def AV.flatOB : AV → Bool
  | .rf cs => cs.all AV.flat1B
  | _ => true

theorem plain_of {a : AV} (h : a.plainB = true) : a.plain := by cases a <;> simp_all [AV.plainB, AV.plain]
theorem flat1_of {a : AV} (h : a.flat1B = true) : a.flat1 := by
  cases a <;> simp only [AV.flat1B, reduceCtorEq] at h <;> simp only [AV.flat1]
  intro e he x hx
  have := List.all_eq_true.1 h e he
  exact plain_of (List.all_eq_true.1 this x hx)
theorem flatV_of {a : AV} (h : a.flatVB = true) : a.flatV := by
  by_cases hc : ∃ cs, a = .agg cs
  · obtain ⟨cs, rfl⟩ := hc
    intro x hx
    exact flat1_of (List.all_eq_true.1 h x hx)
  · have h1 : a.flat1B = true := by cases a <;> first | exact h | exact absurd ⟨_, rfl⟩ hc
    have h2 := flat1_of h1
    cases a <;> first | exact h2 | exact absurd ⟨_, rfl⟩ hc
theorem flat_of {a : AV} (h : a.flatB = true) : a.flat := by
  by_cases hc : ∃ cs, a = .tup cs
  · obtain ⟨cs, rfl⟩ := hc
    intro x hx
    exact flatV_of (List.all_eq_true.1 h x hx)
  · have h1 : a.flatVB = true := by cases a <;> first | exact h | exact absurd ⟨_, rfl⟩ hc
    have h2 := flatV_of h1
    cases a <;> first | exact h2 | exact absurd ⟨_, rfl⟩ hc
theorem flatO_of {a : AV} (h : a.flatOB = true) : a.flatO := by
  cases a <;> simp only [AV.flatOB] at h <;> simp only [AV.flatO]
  intro x hx
  exact flat1_of (List.all_eq_true.1 h x hx)

theorem SLeL.refl : ∀ l : List AV, SLeL l l
  | [] => by simp [SLeL]
  | _ :: r => by simp only [SLeL]; exact ⟨.inl rfl, SLeL.refl r⟩
theorem SLeV.refl (a : AV) : SLeV a a := by
  cases a <;> first | exact SLeL.refl _ | exact .inl rfl
theorem SLeVs.refl : ∀ l : List AV, SLeVs l l
  | [] => by simp [SLeVs]
  | a :: r => by simp only [SLeVs]; exact ⟨SLeV.refl a, SLeVs.refl r⟩

def nodupB : List Nat → Bool
  | [] => true
  | a :: r => !(r.any fun b => Nat.beq b a) && nodupB r
theorem nodup_of : ∀ {l : List Nat}, nodupB l = true → l.Nodup
  | [], _ => List.nodup_nil
  | a :: r, h => by
    simp only [nodupB, Bool.and_eq_true, Bool.not_eq_true', List.any_eq_false] at h
    refine List.nodup_cons.2 ⟨fun hm => ?_, nodup_of h.2⟩
    have := h.1 a hm
    simp at this

def isEnd : Exit → Bool
  | .normal | .ret => true
  | _ => false

def evalP (T : TypeId → Option TD) (X : AX) (fn : Func) (c : Code) (n : Nat) (avs : List AV) : Option AV :=
  match Nat.ble avs.length fn.ntmps, (forceL avs fun avs => forceS (enterS avs) fun s => aexec T X fn.ntmps n c ⟨s, [], 0⟩) with
  | true, some (e, st) => match isEnd e, aResults T st fn.results.toList with
    | true, some as => match leaveVals (getM st.m) as with
      | some (rs, ids) => match nodupB ids && Nat.beq rs.length fn.results.toList.length && (retOf rs).flatB with
        | true => some (retOf rs)
        | false => none
      | none => none
    | _, _ => none
  | _, _ => none

theorem isEnd_or {e : Exit} (h : isEnd e = true) : e = .normal ∨ e = .ret := by cases e <;> simp [isEnd] at h ⊢

theorem psound_eval {P : Program} {X : AX} {f : FuncId} {fn : Func} {c : Code} (n : Nat) (hX : XOK P X) (hmix : P.follows .mixedOrders = true) (hf : P.funcs[f]? = some fn) (hb : fn.body = some c) (ho : codeOrd X c = true) : PSound P f (evalP (Types P) X fn c n) := by
  refine psound_of hX hmix hf hb rfl fun w0 G avs r h => ?_
  simp only [evalP, forceL_eq, forceS_eq] at h
  split at h
  case h_2 => simp at h
  rename_i e st h1 h2
  split at h
  case h_2 => simp at h
  rename_i as h3 h4
  cases h5 : leaveVals (getM st.m) as <;> simp only [h5, reduceCtorEq] at h
  rename_i p
  obtain ⟨rs, ids⟩ := p
  split at h
  case h_2 => simp at h
  rename_i h6
  simp only [Bool.and_eq_true, Nat.beq_eq_true_eq] at h6
  simp only [Option.some.injEq] at h
  refine ⟨Nat.le_of_ble_eq_true h1, rs, h, by simpa using h6.1.2, ?_⟩
  refine aw_mono (aexec_ok (c := ⟨P, X, fn.ntmps, w0, .pure G⟩) ⟨hX, hmix⟩ n c _ e st ho h2) fun e' s' ⟨q1, q2⟩ => ?_
  subst q1 q2
  exact ⟨isEnd_or h3, as, rs, ids, h4, h5, nodup_of h6.1.1, SLeVs.refl _⟩

theorem evalP_flat {T : TypeId → Option TD} {X : AX} {fn : Func} {c : Code} {n : Nat} {avs : List AV} {r : AV} (h : evalP T X fn c n avs = some r) : r.flat := by
  simp only [evalP, forceL_eq, forceS_eq] at h
  split at h
  case h_2 => simp at h
  split at h
  case h_2 => simp at h
  split at h
  case h_2 => simp at h
  split at h
  case h_2 => simp at h
  rename_i h6
  simp only [Bool.and_eq_true] at h6
  simp only [Option.some.injEq] at h
  rw [← h]
  exact flat_of h6.2

def isRf : AV → Bool
  | .rf _ => true
  | _ => false

def evalM (T : TypeId → Option TD) (X : AX) (fn : Func) (c : Code) (n : Nat) (a0 : AV) (avs : List AV) : Option (AV × AV) :=
  match Nat.ble (avs.length + 1) fn.ntmps, (forceL avs fun avs => a0.force fun a0 => forceS (enterS ((openArg 0 a0).1 :: avs)) fun s => forceM (openArg 0 a0).2.1 fun m => aexec T X fn.ntmps n c ⟨s, m, (openArg 0 a0).2.2⟩) with
  | true, some (e, st) => match isEnd e, aResults T st fn.results.toList with
    | true, some as => match leaveVals (getM st.m) as with
      | some (rs, ids) => match (if isRf a0 then leaveArg (getM st.m) (openArg 0 a0).1 else some (.any, [])) with
        | some (o, is) => match nodupB (is ++ ids) && Nat.beq rs.length fn.results.toList.length && (retOf rs).flatB && o.flatOB with
          | true => some (retOf rs, o)
          | false => none
        | none => none
      | none => none
    | _, _ => none
  | _, _ => none

theorem msound_eval {P : Program} {X : AX} {f : FuncId} {fn : Func} {c : Code} (n : Nat) (hX : XOK P X) (hmix : P.follows .mixedOrders = true) (hf : P.funcs[f]? = some fn) (hb : fn.body = some c) (ho : codeOrd X c = true) : MSound P f (evalM (Types P) X fn c n) := by
  refine msound_of hf hb rfl fun w0 bl E a0 avs r out h => ?_
  simp only [evalM, forceL_eq, forceS_eq, forceM_eq, AV.force_eq] at h
  split at h
  case h_2 => simp at h
  rename_i e st h1 h2
  split at h
  case h_2 => simp at h
  rename_i as h3 h4
  cases h5 : leaveVals (getM st.m) as <;> simp only [h5, reduceCtorEq] at h
  rename_i p
  obtain ⟨rs, ids⟩ := p
  cases h7 : (if isRf a0 then leaveArg (getM st.m) (openArg 0 a0).1 else some (.any, [])) <;> simp only [h7, reduceCtorEq] at h
  rename_i q
  obtain ⟨o, is⟩ := q
  simp only at h
  split at h
  case h_2 => simp at h
  rename_i h6
  simp only [Bool.and_eq_true, Nat.beq_eq_true_eq] at h6
  simp only [Option.some.injEq, Prod.mk.injEq] at h
  refine ⟨Nat.le_of_ble_eq_true h1, rs, h.1, by simpa using h6.1.1.2, X, ?_⟩
  refine aw_mono (aexec_ok (c := ⟨P, X, fn.ntmps, w0, ⟨bl, E, (openArg 0 a0).2.2⟩⟩) ⟨hX, hmix⟩ n c _ e st ho h2) fun e' s' ⟨q1, q2⟩ => ?_
  subst q1 q2
  refine ⟨isEnd_or h3, as, rs, ids, o, is, h4, h5, ?_, nodup_of h6.1.1.1, SLeVs.refl _, .inl h.2.symm⟩
  split at h7
  · exact .inl h7
  · simp only [Option.some.injEq, Prod.mk.injEq] at h7
    exact .inr ⟨h7.1.symm, h7.2.symm⟩

theorem evalM_flat {T : TypeId → Option TD} {X : AX} {fn : Func} {c : Code} {n : Nat} {a0 : AV} {avs : List AV} {r out : AV} (h : evalM T X fn c n a0 avs = some (r, out)) : r.flat ∧ out.flatO := by
  simp only [evalM, forceL_eq, forceS_eq, forceM_eq, AV.force_eq] at h
  split at h
  case h_2 => simp at h
  split at h
  case h_2 => simp at h
  split at h
  case h_2 => simp at h
  split at h
  case h_2 => simp at h
  split at h
  case h_2 => simp at h
  rename_i h6
  simp only [Bool.and_eq_true] at h6
  simp only [Option.some.injEq, Prod.mk.injEq] at h
  rw [← h.1, ← h.2]
  exact ⟨flat_of h6.1.2, flatO_of h6.2⟩

/-- Types by a table. -/
def tyA (tab : List (Nat × TD)) (t : Nat) : Option TD := match tab with
  | [] => none
  | (k, d) :: r => match Nat.beq k t with
    | true => some d
    | false => tyA r t

def tyT (P : Program) (tab : List (Nat × TD)) (t : TypeId) : Option TD := match tyA tab t with
  | some d => some d
  | none => Types P t

theorem tyA_mem : ∀ {tab : List (Nat × TD)} {t : Nat} {d : TD}, tyA tab t = some d → (t, d) ∈ tab
  | [], _, _, h => by simp [tyA] at h
  | (k, e) :: r, t, d, h => by
    simp only [tyA] at h
    split at h
    · rename_i hk
      simp only [Option.some.injEq] at h
      subst h
      rw [Nat.eq_of_beq_eq_true hk]
      simp
    · exact List.mem_cons_of_mem _ (tyA_mem h)

theorem tyT_eq {P : Program} {tab : List (Nat × TD)} (h : tab.map (fun p => Types P p.1) = tab.map (fun p => some p.2)) : tyT P tab = Types P := by
  have hm : ∀ p ∈ tab, Types P p.1 = some p.2 := by
    rw [List.map_inj_left] at h
    exact h
  funext t
  unfold tyT
  split
  · rename_i d hd
    exact (hm _ (tyA_mem hd)).symm
  · rfl

/-- What is to be evaluated: the functions given (base), those that are pure, those that change their first argument. -/
structure Ev where
  T : TypeId → Option TD
  base : AX
  isBase : FuncId → Bool
  isM : FuncId → Bool
  skip : FuncId → Bool
  sz : FuncId → Nat → Nat

def Ev.w (v : Ev) (f : FuncId) : Bool := if v.isBase f then v.base.writes f else v.isM f

def Ev.call (P : Program) (v : Ev) : Nat → FuncId → List AV → (Nat → AO) → Nat → Option (AV × List (Nat × AO))
  | 0, f => fun avs M nid => match v.isBase f with
    | true => v.base.call f avs M nid
    | false => none
  | n + 1, f => fun avs M nid => match v.isBase f with
    | true => v.base.call f avs M nid
    | false => match v.skip f with
      | true => none
      | false => match P.funcs[f]? with
        | none => none
        | some fn => match fn.body with
          | none => none
          | some c => match v.isM f with
            | true => callM false (v.sz f) (evalM v.T ⟨Ev.call P v n, v.w, true, v.base.eqs⟩ fn c n) avs M nid
            | false => callP (evalP v.T ⟨Ev.call P v n, v.w, true, v.base.eqs⟩ fn c n) avs M nid

def Ev.ax (P : Program) (v : Ev) (n : Nat) : AX := ⟨Ev.call P v n, v.w, true, v.base.eqs⟩

/-- Each function that may be evaluated has a body whose drawn orders do not matter. -/
def Ev.check (P : Program) (v : Ev) (fs : List FuncId) : Bool := fs.all fun f => match P.funcs[f]? with
  | none => false
  | some fn => match fn.body with
    | none => false
    | some c => codeOrd (v.ax P 0) c && !(fn.name == "runtime.NumGoroutine")

theorem conflict_congr {X Y : AX} (h : X.writes = Y.writes) (h2 : X.anyW = Y.anyW) : codeOrd X = codeOrd Y := by
  obtain ⟨a, b, c, d⟩ := X
  obtain ⟨a', b', c', d'⟩ := Y
  simp only at h h2
  subst h h2
  have hw : ∀ o, opW ⟨a, b, c, d⟩ o = opW ⟨a', b, c, d'⟩ o := fun o => rfl
  have hc : conflict ⟨a, b, c, d⟩ = conflict ⟨a', b, c, d'⟩ := rfl
  have ho : ordB ⟨a, b, c, d⟩ = ordB ⟨a', b, c, d'⟩ := rfl
  funext k
  induction k <;> simp only [codeOrd] <;> simp_all

theorem xok_eval {P : Program} {v : Ev} (hT : v.T = Types P) (hmix : P.follows .mixedOrders = true) (hb : XOK P v.base) (fs : List FuncId) (hsk : ∀ f, v.skip f = false → f ∈ fs) (hck : v.check P fs = true) : ∀ n, XOK P (v.ax P n) := by
  have hfn : ∀ f, v.skip f = false → ∃ fn c, P.funcs[f]? = some fn ∧ fn.body = some c ∧ (∀ n, codeOrd (v.ax P n) c = true) ∧ (fn.name == "runtime.NumGoroutine") = false := fun f hf => by
    have := List.all_eq_true.1 hck f (hsk f hf)
    cases h1 : P.funcs[f]? <;> simp only [h1, Bool.false_eq_true] at this
    rename_i fn
    cases h2 : fn.body <;> simp only [h2, Bool.false_eq_true] at this
    rename_i c
    simp only [Bool.and_eq_true, Bool.not_eq_true'] at this
    exact ⟨fn, c, rfl, h2, fun n => by rw [conflict_congr (X := v.ax P n) (Y := v.ax P 0) rfl rfl]; exact this.1, this.2⟩
  intro n
  induction n with
  | zero =>
    refine ⟨fun f avs M nid r h => ?_, hb.eqs, fun f avs M nid r h => ?_, fun f _ => rfl⟩
    · simp only [Ev.ax, Ev.call] at h
      split at h
      case h_2 => simp at h
      rename_i hB
      have e : (v.ax P 0).call f = v.base.call f := by funext a b c; simp only [Ev.ax, Ev.call, hB]
      rw [e]
      exact hb.calls f avs M nid r h
    · simp only [Ev.ax, Ev.call] at h
      split at h
      case h_2 => simp at h
      rename_i hB
      have := hb.dom f avs M nid r h
      simpa only [Ev.ax, Ev.w, hB, if_true] using this
  | succ n ih =>
    have key : ∀ f, v.isBase f = false → v.skip f = false → ∃ fn c, P.funcs[f]? = some fn ∧ fn.body = some c ∧ (v.ax P (n + 1)).call f = (if v.isM f then callM false (v.sz f) (evalM (Types P) (v.ax P n) fn c n) else callP (evalP (Types P) (v.ax P n) fn c n)) ∧ codeOrd (v.ax P n) c = true ∧ BodyOK P f := fun f hB hS => by
      obtain ⟨fn, c, h1, h2, h3, h4⟩ := hfn f hS
      refine ⟨fn, c, h1, h2, ?_, h3 n, fn, h1, by simp [h2], h4⟩
      funext avs M nid
      simp only [Ev.ax, Ev.call, hB, hS, h1, h2, hT]
      cases v.isM f <;> rfl
    refine ⟨fun f avs M nid r h => ?_, hb.eqs, fun f avs M nid r h => ?_, fun f _ => rfl⟩
    · cases hB : v.isBase f with
      | true =>
        have e : (v.ax P (n + 1)).call f = v.base.call f := by funext a b c; simp only [Ev.ax, Ev.call, hB]
        rw [e] at h ⊢
        exact hb.calls f avs M nid r h
      | false =>
        cases hS : v.skip f with
        | true => simp [Ev.ax, Ev.call, hB, hS] at h
        | false =>
          obtain ⟨fn, c, h1, h2, h3, h4, h5⟩ := key f hB hS
          rw [h3]
          left
          refine ⟨?_, h5⟩
          split
          · exact (msound_eval n ih hmix h1 h2 h4).callM fun a0 avs r out h => evalM_flat h
          · exact (psound_eval n ih hmix h1 h2 h4).callP fun avs r h => evalP_flat h
    · cases hB : v.isBase f with
      | true =>
        have e : (v.ax P (n + 1)).call f = v.base.call f := by funext a b c; simp only [Ev.ax, Ev.call, hB]
        rw [e] at h
        have := hb.dom f avs M nid r h
        simpa only [Ev.ax, Ev.w, hB, if_true] using this
      | false =>
        cases hS : v.skip f with
        | true => simp [Ev.ax, Ev.call, hB, hS] at h
        | false =>
          obtain ⟨fn, c, h1, h2, h3, h4, h5⟩ := key f hB hS
          rw [h3] at h
          intro b hb'
          split at h
          · rename_i hM
            exact (callM_keys h b hb').imp id fun h => ⟨by simp [Ev.ax, Ev.w, hB, hM], h⟩
          · exact .inl (callP_keys h b hb')
end Go.AM

/- More rules: loops whose other slots stay, slices that may be nil, weaker specifications, numbers read off rows. -/
namespace Go.AM
open Go

theorem aw_cases_nil {c : Cx} {k : Code} {st : St} {Q : Exit → St → Prop} (t s : Nat) (h : getS st.s t = .rd s []) (h1 : AW c k ⟨(t, .v (.slice none 0 0)) :: st.s, st.m, st.nx⟩ Q) (h2 : ∀ p n, AW c k ⟨(t, .v (.slice (some p) 0 n)) :: st.s, st.m, st.nx⟩ Q) : AW c k st Q := fun a w hs => by
  obtain ⟨E, hs0, hn, hm⟩ := hs
  have ht := hs0.slots t
  rw [h] at ht
  simp only [Rep, CRep] at ht
  obtain ⟨p, n, hx, _, hp, _⟩ := ht
  have key : ∀ v, a.tmps.getD t undef = v → Sat c.N c.w0 c.bl a w ⟨(t, .v v) :: st.s, st.m, st.nx⟩ := fun v hv => by
    refine ⟨E, ⟨hs0.defers, hs0.size, hs0.inv, hs0.mem, fun t' => ?_⟩, hn, hm⟩
    simp only [getS]
    split
    · rename_i e; subst e; simp only [Rep, CRep]; exact hv
    · exact hs0.slots t'
  cases p with
  | none => obtain rfl := hp rfl; exact h1 a w (key _ hx)
  | some p => exact h2 p n a w (key _ hx)

theorem sat_tidyM {N : Nat} {w0 : World} {bl : Bk} {a : Act} {w : World} {s : List (Nat × AV)} {m : List (Nat × AO)} {nx : Nat} : Sat N w0 bl a w ⟨s, tidyM m, nx⟩ ↔ Sat N w0 bl a w ⟨s, m, nx⟩ := by
  unfold Sat
  have e2 : getM (tidyM m) = getM m := funext fun t => getM_tidy
  simp only [e2]

theorem le_of2 {n : Nat} {s s' : List (Nat × AV)} {m m' : List (Nat × AO)} {nx nx' : Nat} (hn : n ≤ nx') (hs : ∀ p ∈ s', AVle (getS s p.1) p.2 ∧ p.2.under nx') (hm : ∀ p ∈ tidyM m', AOle (getM m p.1) p.2 ∧ p.2.under nx' ∧ p.1 < nx') :
    Le n ⟨s, m, nx⟩ ⟨s', m', nx'⟩ := fun N w0 bl a w hb h => sat_tidyM.1 (le_of hn hs hm N w0 bl a w hb h)

theorem aw_loopK {c : Cx} {st : St} {Q : Exit → St → Prop} {ι : Type} (ks : List Nat) (V : ι → List (Nat × AV)) (W : ι → List (Nat × AO)) (μ : ι → Nat) (i0 : ι) {x : Code} {s0 : List (Nat × AV)} {m0 : List (Nat × AO)}
    (_hs : keepS ks st.s = s0) (_hm : tidyM st.m = m0) (h0 : Le c.bl.n st ⟨V i0 ++ s0, W i0 ++ m0, st.nx⟩)
    (round : ∀ i, AW c x ⟨V i ++ s0, W i ++ m0, st.nx⟩ (thenQ (fun st' => ∃ i', Le c.bl.n st' ⟨V i' ++ s0, W i' ++ m0, st.nx⟩ ∧ μ i' < μ i) Q)) : AW c (.loop x) st Q :=
  aw_loop (fun i => ⟨V i ++ s0, W i ++ m0, st.nx⟩) μ i0 h0 round

@[simp] theorem nat_beq (n m : Nat) : Nat.beq n m = decide (n = m) := by
  rw [Bool.eq_iff_iff, decide_eq_true_iff]
  exact ⟨Nat.eq_of_beq_eq_true, fun h => by subst h; exact Nat.beq_refl n⟩

attribute [simp] tidyM remK

theorem PSound.weaken {P : Program} {f : FuncId} {F F' : List AV → Option AV} (h : PSound P f F) (hle : ∀ avs r, F' avs = some r → F avs = some r) : PSound P f F' :=
  fun w G args avs r hr => h w G args avs r (hle avs r hr)

theorem MSound.weaken {P : Program} {f : FuncId} {F F' : AV → List AV → Option (AV × AV)} (h : MSound P f F) (hle : ∀ a avs r o, F' a avs = some (r, o) → F a avs = some (r, o)) : MSound P f F' :=
  fun w G x0 args a0 avs bl r o hr => h w G x0 args a0 avs bl r o (hle a0 avs r o hr)

/-- The numbers of rows of one number each. -/
def unI : List (List AV) → Option (List Int)
  | [] => some []
  | [.v (.int .i64 x)] :: r => match unI r with
    | some l => some (x :: l)
    | none => none
  | _ => none

theorem unI_eq : ∀ {xs : List (List AV)} {l : List Int}, unI xs = some l → xs = irows l
  | [], l, h => by simp only [unI, Option.some.injEq] at h; subst h; rfl
  | e :: r, l, h => by
    unfold unI at h
    split at h
    · simp at *
    · rename_i x r' heq
      simp only [List.cons.injEq] at heq
      obtain ⟨rfl, rfl⟩ := heq
      cases hr : unI r <;> simp only [hr, reduceCtorEq, Option.some.injEq] at h
      subst h
      rw [unI_eq hr]; rfl
    · simp at h

theorem body_ok {P : Program} {f : FuncId} (fn : Func) (h : P.funcs[f]? = some fn) (h2 : (fn.body.isSome && !(fn.name == "runtime.NumGoroutine")) = true) : BodyOK P f := by
  simp only [Bool.and_eq_true, Bool.not_eq_true'] at h2
  exact ⟨fn, h, h2.1, h2.2⟩

/-- A number of a list, at a place within. -/
def gi (l : List Int) (n : Nat) : Int := l.getD n 0
theorem irows_gi {l : List Int} {n : Nat} (h : n < l.length) : (irows l)[n]? = some [I (gi l n)] := irows_get h
theorem gi_mem {l : List Int} {n : Nat} (h : n < l.length) : gi l n ∈ l := by
  unfold gi
  rw [List.getD_eq_getElem?_getD, List.getElem?_eq_getElem h]
  exact List.getElem_mem h
theorem gi_of_mem {l : List Int} {x : Int} (h : x ∈ l) : ∃ n, n < l.length ∧ gi l n = x := by
  obtain ⟨k, hk, rfl⟩ := List.getElem_of_mem h
  exact ⟨k, hk, by unfold gi; rw [List.getD_eq_getElem?_getD, List.getElem?_eq_getElem hk]; rfl⟩
theorem gi_eq {l : List Int} {n : Nat} (h : n < l.length) : gi l n = l[n] := by
  unfold gi
  rw [List.getD_eq_getElem?_getD, List.getElem?_eq_getElem h]; rfl
theorem take_succ_gi {l : List Int} {n : Nat} (h : n < l.length) : l.take (n + 1) = l.take n ++ [gi l n] := by
  rw [gi_eq h, List.take_add_one, List.getElem?_eq_getElem h]; rfl
theorem drop_gi {l : List Int} {n : Nat} (h : n < l.length) : l.drop n = gi l n :: l.drop (n + 1) := by
  rw [gi_eq h]; exact (List.drop_eq_getElem_cons h)

theorem wrapU64 {n : Int} (h : 0 ≤ n ∧ n ≤ 18446744073709551615) : IntKind.u64.wrap n = n := by
  have : IntKind.u64.wrap n = n % 18446744073709551616 := rfl
  rw [this]; omega
end Go.AM

/- Tables of calls whose list of writing functions is fixed from the start. -/
namespace Go.AM
open Go

/-- The empty table, with the functions that will write. -/
def AX.start (w : FuncId → Bool) : AX := ⟨fun _ _ _ _ => .none, w, true, fun _ => false⟩

theorem xok_start (P : Program) (w : FuncId → Bool) : XOK P (AX.start w) where
  calls := fun f avs M nid r h => by simp [AX.start] at h
  eqs := fun t h => by simp [AX.start] at h
  dom := fun f avs M nid r h => by simp [AX.start] at h
  anyW := fun f _ => rfl

/-- A function that writes, in its place in the table. -/
theorem xok_putM {P : Program} {X : AX} (h : XOK P X) {f : FuncId} {g : List AV → (Nat → AO) → Nat → Option (AV × List (Nat × AO))} (hw : X.writes f = true) (hg : (CallOK P f g ∧ BodyOK P f) ∨ ExtOK P f g)
    (hd : ∀ avs M nid r, g avs M nid = some r → ∀ b ∈ r.2.map (·.1), (nid ≤ b ∧ b < nid + 16) ∨ M b ≠ .dead) : XOK P (X.add f g) where
  calls := fun k avs M nid r hr => by
    simp only [AX.add] at hr ⊢
    split
    · rename_i e; subst e; exact hg
    · rename_i e
      rw [if_neg e] at hr
      exact h.calls k avs M nid r hr
  eqs := h.eqs
  dom := fun k avs M nid r hr b hb => by
    simp only [AX.add] at hr ⊢
    split at hr
    · rename_i e; subst e
      exact (hd avs M nid r hr b hb).imp id fun h => ⟨hw, h⟩
    · exact h.dom k avs M nid r hr b hb
  anyW := h.anyW

/-- What a table writes. -/
def AX.W (X : AX) (w : FuncId → Bool) : Prop := X.writes = w ∧ X.anyW = true
theorem AX.W.start (w : FuncId → Bool) : (AX.start w).W w := ⟨rfl, rfl⟩
theorem AX.W.add {X : AX} {w : FuncId → Bool} (h : X.W w) (f : FuncId) (g : List AV → (Nat → AO) → Nat → Option (AV × List (Nat × AO))) : (X.add f g).W w := h

theorem ordB_w {X : AX} {w : FuncId → Bool} (h : X.W w) {ops : Array Oper} : ordB X ops = ordB (AX.start w) ops := by
  obtain ⟨a, b, c, d⟩ := X
  obtain ⟨h1, h2⟩ := h
  simp only at h1 h2
  subst h1 h2
  rfl
end Go.AM
