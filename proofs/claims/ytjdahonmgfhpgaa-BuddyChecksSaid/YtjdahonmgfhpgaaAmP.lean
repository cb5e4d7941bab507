/- What evaluates the abstract steps: the rewriting rules; the table of calls; a specification from a body. -/
import Derived.Test.YtjdahonmgfhpgaaAmO
import Derived.Laws.BitsLemmas
set_option linter.all false
namespace Go.AM
open Go


/-- A region, step by step: what it ends in satisfies Q. -/
def RunQ (T : TypeId → Option TD) (X : AX) (ops : Array Oper) (N base : Nat) (l : List Oper) (i : Nat) (s : List (Nat × AV)) (m : List (Nat × AO)) (Q : List (Nat × AV) → List (Nat × AO) → Prop) : Prop :=
  ∃ s' m', arun T X ops N base l i s m = some (s', m') ∧ Q s' m'

def StepQ (T : TypeId → Option TD) (X : AX) (ops : Array Oper) (N base : Nat) (r : List Oper) (i : Nat) (s : List (Nat × AV)) (m : List (Nat × AO)) (dst : Option Nat) (Q : List (Nat × AV) → List (Nat × AO) → Prop) (a : Option (AV × List (Nat × AO))) : Prop :=
  ∃ av u, a = some (av, u) ∧ RunQ T X ops N base r (i + 1) (putS s dst av) (updL m u) Q

def GuardQ (T : TypeId → Option TD) (X : AX) (ops : Array Oper) (N base : Nat) (r : List Oper) (i : Nat) (s : List (Nat × AV)) (m : List (Nat × AO)) (dst : Option Nat) (op : Op) (d : Option Nat) (want : Bool) (Q : List (Nat × AV) → List (Nat × AO) → Prop) (g : AV) : Prop :=
  ∃ k b, d = some k ∧ yV g = some b ∧
    (b = some want → StepQ T X ops N base r i ((k, .v (.bool want)) :: s) m dst Q (astep T X op (aEv ((k, .v (.bool want)) :: s)) (getM m) (base + 16 * i))) ∧
    (b = some (!want) → RunQ T X ops N base r (i + 1) (putS ((k, .v (.bool (!want))) :: s) dst .u) m Q) ∧
    (b = none → RunQ T X ops N base r (i + 1) (putS s dst .u) m Q)

section
variable {T : TypeId → Option TD} {X : AX} {ops : Array Oper} {N base : Nat} {l r : List Oper} {i : Nat} {s : List (Nat × AV)} {m : List (Nat × AO)} {Q : List (Nat × AV) → List (Nat × AO) → Prop} {dst : Option Nat} {op : Op} {ty : TypeId} {pos : String} {aft : Array Edge}

@[simp] theorem runQ_nil : RunQ T X ops N base [] i s m Q ↔ Q s m := by
  simp only [RunQ, arun, Option.some.injEq, Prod.mk.injEq]
  constructor
  · rintro ⟨_, _, ⟨rfl, rfl⟩, h⟩; exact h
  · exact fun h => ⟨_, _, ⟨rfl, rfl⟩, h⟩

@[simp] theorem stepQ_some {av : AV} {u : List (Nat × AO)} : StepQ T X ops N base r i s m dst Q (some (av, u)) ↔ RunQ T X ops N base r (i + 1) (putS s dst av) (updL m u) Q := by
  constructor
  · rintro ⟨_, _, h, k⟩
    simp only [Option.some.injEq, Prod.mk.injEq] at h
    obtain ⟨rfl, rfl⟩ := h
    exact k
  · exact fun k => ⟨_, _, rfl, k⟩

theorem stepQ_eq {a : Option (AV × List (Nat × AO))} : StepQ T X ops N base r i s m dst Q a ↔ ∃ s' m', (match (generalizing := false) a with | some (av, u) => arun T X ops N base r (i + 1) (putS s dst av) (updL m u) | none => none) = some (s', m') ∧ Q s' m' := by
  cases a with
  | none => simp [StepQ]
  | some p => obtain ⟨av, u⟩ := p; exact stepQ_some

theorem runQ_plain' (hd : dstOK N ⟨dst, op, ty, pos, aft, .none⟩ = true) : RunQ T X ops N base (⟨dst, op, ty, pos, aft, .none⟩ :: r) i s m Q ↔ StepQ T X ops N base r i s m dst Q (astep T X op (aEv s) (getM m) (base + 16 * i)) := by
  rw [stepQ_eq]
  simp only [RunQ, arun, hd, if_true]
  cases astep T X op (aEv s) (getM m) (base + 16 * i) <;> exact Iff.rfl

def dstAt (ops : Array Oper) (j : Nat) : Option Nat := (ops[j]?).bind (·.dst)

def slotAt (s : List (Nat × AV)) : Option Nat → AV
  | some k => getS s k
  | none => .any

theorem runQ_guard' {j : Nat} {want : Bool} (hd : dstOK N ⟨dst, op, ty, pos, aft, .some (j, want)⟩ = true) : RunQ T X ops N base (⟨dst, op, ty, pos, aft, .some (j, want)⟩ :: r) i s m Q ↔ GuardQ T X ops N base r i s m dst op (dstAt ops j) want Q (slotAt s (dstAt ops j)) := by
  simp only [RunQ, arun, hd, if_true, GuardQ, dstAt]
  cases h1 : (ops[j]?).bind (·.dst) with
  | none => simp
  | some k =>
    simp only [slotAt]
    cases hy : yV (getS s k) with
    | none => simp [hy]
    | some y =>
      skip
      cases y with
      | none =>
        constructor
        · rintro ⟨s', m', h, q⟩
          exact ⟨k, none, rfl, rfl, by simp, by simp, fun _ => ⟨s', m', h, q⟩⟩
        · rintro ⟨k', b, hk, hb, _, _, h3⟩
          simp only [Option.some.injEq] at hk hb
          subst hk hb
          exact h3 rfl
      | some b =>
        constructor
        · rintro ⟨s', m', h, q⟩
          refine ⟨k, some b, rfl, rfl, fun e => ?_, fun e => ?_, by simp⟩
          · simp only [Option.some.injEq] at e
            subst e
            simp only [if_true] at h
            exact stepQ_eq.2 ⟨s', m', h, q⟩
          · simp only [Option.some.injEq] at e
            simp only at h
            rw [if_neg (by rw [e]; cases want <;> simp)] at h
            exact ⟨s', m', h, q⟩
        · rintro ⟨k', b', hk, hb, h2, h3, _⟩
          simp only [Option.some.injEq] at hk hb
          subst hk hb
          by_cases e : b = want
          · subst e
            simp only [if_true]
            exact stepQ_eq.1 (h2 rfl)
          · simp only [if_neg e]
            exact h3 (by cases b <;> cases want <;> simp at e ⊢)

theorem runQ_dst {o : Oper} (h : RunQ T X ops N base (o :: r) i s m Q) : dstOK N o = true := by
  obtain ⟨s', m', h, _⟩ := h
  simp only [arun] at h
  split at h
  · rename_i hd; exact hd
  · simp at h

@[simp] theorem runQ_plain : RunQ T X ops N base (⟨dst, op, ty, pos, aft, .none⟩ :: r) i s m Q ↔ dstOK N ⟨dst, op, ty, pos, aft, .none⟩ = true ∧ StepQ T X ops N base r i s m dst Q (astep T X op (aEv s) (getM m) (base + 16 * i)) :=
  ⟨fun h => ⟨runQ_dst h, (runQ_plain' (runQ_dst h)).1 h⟩, fun h => (runQ_plain' h.1).2 h.2⟩

@[simp] theorem runQ_guard {j : Nat} {want : Bool} : RunQ T X ops N base (⟨dst, op, ty, pos, aft, .some (j, want)⟩ :: r) i s m Q ↔ dstOK N ⟨dst, op, ty, pos, aft, .some (j, want)⟩ = true ∧ GuardQ T X ops N base r i s m dst op (dstAt ops j) want Q (slotAt s (dstAt ops j)) :=
  ⟨fun h => ⟨runQ_dst h, (runQ_guard' (runQ_dst h)).1 h⟩, fun h => (runQ_guard' h.1).2 h.2⟩

theorem guardQ_split {d : Nat} {want b : Bool} (h1 : b = want → StepQ T X ops N base r i ((d, .v (.bool want)) :: s) m dst Q (astep T X op (aEv ((d, .v (.bool want)) :: s)) (getM m) (base + 16 * i)))
    (h2 : b = !want → RunQ T X ops N base r (i + 1) (putS ((d, .v (.bool (!want))) :: s) dst .u) m Q) : GuardQ T X ops N base r i s m dst op (some d) want Q (.v (.bool b)) :=
  ⟨d, some b, rfl, rfl, fun e => h1 (by simpa using e), fun e => h2 (by simpa using e), by simp⟩

@[simp] theorem guardQ_tt {d : Nat} : GuardQ T X ops N base r i s m dst op (some d) true Q (.v (.bool true)) ↔ StepQ T X ops N base r i ((d, .v (.bool true)) :: s) m dst Q (astep T X op (aEv ((d, .v (.bool true)) :: s)) (getM m) (base + 16 * i)) := by simp [GuardQ, yV]
@[simp] theorem guardQ_ff {d : Nat} : GuardQ T X ops N base r i s m dst op (some d) false Q (.v (.bool false)) ↔ StepQ T X ops N base r i ((d, .v (.bool false)) :: s) m dst Q (astep T X op (aEv ((d, .v (.bool false)) :: s)) (getM m) (base + 16 * i)) := by simp [GuardQ, yV]
@[simp] theorem guardQ_tf {d : Nat} : GuardQ T X ops N base r i s m dst op (some d) true Q (.v (.bool false)) ↔ RunQ T X ops N base r (i + 1) (putS ((d, .v (.bool false)) :: s) dst .u) m Q := by simp [GuardQ, yV]
@[simp] theorem guardQ_ft {d : Nat} : GuardQ T X ops N base r i s m dst op (some d) false Q (.v (.bool true)) ↔ RunQ T X ops N base r (i + 1) (putS ((d, .v (.bool true)) :: s) dst .u) m Q := by simp [GuardQ, yV]
@[simp] theorem guardQ_u {d : Nat} {want : Bool} : GuardQ T X ops N base r i s m dst op (some d) want Q .u ↔ RunQ T X ops N base r (i + 1) (putS s dst .u) m Q := by simp [GuardQ, yV]
end

theorem aw_run {c : Cx} {st : St} {Q : Exit → St → Prop} {id : Nat} {ops : Array Oper} {d : Bool} (hc : c.OK) (hO : d = true → ordB c.X ops = true)
    (h : RunQ (Types c.P) c.X ops c.N st.nx ops.toList 0 st.s st.m fun s m => Q .normal ⟨s, m, st.nx + 16 * ops.size⟩) : AW c (.region id ops d) st Q :=
  aw_region hc hO (by
    obtain ⟨s, m, h1, h2⟩ := h
    exact ⟨⟨s, m, _⟩, by simp [aregion, h1], h2⟩)

theorem aw_nod {p : Prop} (h : false = true) : p := absurd h (by simp)

attribute [simp] dstAt slotAt
attribute [simp] astep enterS aEv getS putS updL setM getM updM aBox aAlloc aNew AV.cells dstOK pureR aBin binI aUn aConv aLen aMinMax aLoad loadA aStore aFieldAddr aField aPart aIndex aIndexAddr aInt aSlice aBounds aAppend aRows aBuild aFill aBuildSlice aParts aMakeSlice aCallOp TK.isOther TK.agg setL putL AV.isClosed AV.leaf callP callC openRet openVal openVals openLeaf openLeaves peekVal peekVals peekLeaf peekLeaves peekPtr peekPtrs chunk capOf aSlice3 aCap aCopy aClear aApp aAppendZ aResult aResults retOf leaveVal leaveVals leaveLeaf leaveLeaves SLeVs SLeV SLeL SLe thenQ blockQ keepS

@[simp] theorem one_int {k : IntKind} {n : Int} : (Value.int k n).oneCell' = true := rfl
@[simp] theorem one_bool {b : Bool} : (Value.bool b).oneCell' = true := rfl
@[simp] theorem one_slice {p : Option Addr} {n c : Nat} : (Value.slice p n c).oneCell' = true := rfl
@[simp] theorem one_ptr {p : Option Addr} : (Value.pointer p).oneCell' = true := rfl

@[simp] theorem toNat_add2 (a b : Nat) : ((a : Int) + (b : Int)).toNat = a + b := by omega
@[simp] theorem toNat_add1 (a : Nat) : ((a : Int) + 1).toNat = a + 1 := by omega

abbrev I (n : Int) : AV := .v (.int .i64 n)
abbrev B (b : Bool) : AV := .v (.bool b)

theorem bits64 : IntKind.i64.bits = 64 := rfl
theorem wrap64 {n : Int} (h : -9223372036854775808 ≤ n ∧ n ≤ 9223372036854775807) : IntKind.i64.wrap n = n := by
  rw [IntKind.wrap_i64]; omega

theorem pow_le62 {o : Nat} (h : o ≤ 62) : (2 : Int) ^ o ≤ 4611686018427387904 ∧ 1 ≤ (2 : Int) ^ o := by
  have h1 : 2 ^ o ≤ 2 ^ 62 := Nat.pow_le_pow_right (by omega) h
  have h2 : 1 ≤ 2 ^ o := Nat.one_le_two_pow
  have h3 : ((2 ^ o : Nat) : Int) = (2 : Int) ^ o := by simp
  have h4 : (2 : Nat) ^ 62 = 4611686018427387904 := by decide
  rw [h4] at h1
  rw [← h3]
  omega

theorem wrap_pow {o : Nat} (h : o ≤ 62) : IntKind.i64.wrap ((2 : Int) ^ o) = 2 ^ o := wrap64 (by have := pow_le62 h; omega)

theorem tmod_pos {a b : Int} (ha : 0 ≤ a) : a.tmod b = a % b := Int.tmod_eq_emod_of_nonneg ha
theorem tdiv_pos {a b : Int} (ha : 0 ≤ a) : a.tdiv b = a / b := Int.tdiv_eq_ediv_of_nonneg ha

/-- A list of numbers, as rows. -/
def irows (l : List Int) : List (List AV) := l.map fun x => [I x]
@[simp] theorem irows_length (l : List Int) : (irows l).length = l.length := by simp [irows]
theorem irows_get {l : List Int} {n : Nat} (h : n < l.length) : (irows l)[n]? = some [I (l.getD n 0)] := by
  simp [irows, List.getD_eq_getElem?_getD, List.getElem?_eq_getElem h]
theorem irows_take (l : List Int) (n : Nat) : (irows l).take n = irows (l.take n) := by simp [irows, List.map_take]
theorem irows_drop (l : List Int) (n : Nat) : (irows l).drop n = irows (l.drop n) := by simp [irows, List.map_drop]
theorem irows_append (l m : List Int) : irows l ++ irows m = irows (l ++ m) := by simp [irows]
theorem irows_one (x : Int) : ([[I x]] : List (List AV)) = irows [x] := rfl
theorem irows_nil : ([] : List (List AV)) = irows [] := rfl
theorem irows_inj {l m : List Int} : irows l = irows m ↔ l = m := by
  constructor
  · intro h
    have : Function.Injective fun x : Int => [I x] := fun a b e => by simpa [I] using e
    exact List.map_inj_right (f := fun x : Int => [I x]) (fun a b e => this e) |>.1 h
  · rintro rfl; rfl

theorem leaves_iff {T : TypeId → Option TD} {rv : List ResultVar} {st : St} {r : List AV} : Leaves T rv st r ↔ (match (generalizing := false) aResults T st rv with
    | some as => (match (generalizing := false) leaveVals (getM st.m) as with | some (rs, ids) => ids.Nodup ∧ SLeVs rs r | none => False)
    | none => False) := by
  unfold Leaves
  cases aResults T st rv with
  | none => simp only [reduceCtorEq, false_and, exists_const]
  | some as =>
    simp only
    cases h : leaveVals (getM st.m) as with
    | none =>
      simp only [iff_false]
      rintro ⟨_, _, _, e, h2, _⟩
      simp only [Option.some.injEq] at e
      subst e
      rw [h] at h2
      simp at h2
    | some p =>
      obtain ⟨rs, ids⟩ := p
      simp only
      constructor
      · rintro ⟨_, _, _, e, h2, h3⟩
        simp only [Option.some.injEq] at e
        subst e
        rw [h] at h2
        simp only [Option.some.injEq, Prod.mk.injEq] at h2
        obtain ⟨rfl, rfl⟩ := h2
        exact h3
      · exact fun h3 => ⟨as, rs, ids, rfl, h, h3⟩

/-! The table of calls -/
def AX.none : AX := ⟨fun _ _ _ _ => .none, fun _ => false, false, fun _ => false⟩
def AX.add (X : AX) (f : FuncId) (g : List AV → (Nat → AO) → Nat → Option (AV × List (Nat × AO))) : AX := { X with call := fun k => if k = f then g else X.call k }
def AX.eqAt (X : AX) (t : TypeId) : AX := { X with eqs := fun k => k = t || X.eqs k }

theorem xok_none (P : Program) : XOK P AX.none where
  calls := fun f avs M nid r h => by simp [AX.none] at h
  eqs := fun t h => by simp [AX.none] at h
  dom := fun f avs M nid r h => by simp [AX.none] at h
  anyW := fun f h => by simp [AX.none] at h

theorem xok_add {P : Program} {X : AX} (h : XOK P X) {f : FuncId} {g : List AV → (Nat → AO) → Nat → Option (AV × List (Nat × AO))} (hg : (CallOK P f g ∧ BodyOK P f) ∨ ExtOK P f g)
    (hd : ∀ avs M nid r, g avs M nid = some r → ∀ b ∈ r.2.map (·.1), nid ≤ b ∧ b < nid + 16) : XOK P (X.add f g) where
  calls := fun k avs M nid r hr => by
    simp only [AX.add] at hr ⊢
    split
    · rename_i e; subst e; exact hg
    · rename_i e
      rw [if_neg e] at hr
      exact h.calls k avs M nid r hr
  eqs := h.eqs
  dom := fun k avs M nid r hr b hb => by
    simp only [AX.add] at hr ⊢
    split at hr
    · exact .inl (hd avs M nid r hr b hb)
    · exact h.dom k avs M nid r hr b hb
  anyW := h.anyW

theorem xok_eq {P : Program} {X : AX} (h : XOK P X) {t : TypeId} (ht : EqOK P t) : XOK P (X.eqAt t) where
  calls := h.calls
  eqs := fun k hk => by
    simp only [AX.eqAt, Bool.or_eq_true, decide_eq_true_eq] at hk
    rcases hk with rfl | hk
    · exact ht
    · exact h.eqs k hk
  dom := h.dom
  anyW := h.anyW

theorem openLeaf_keys {nid : Nat} {a : AV} : ∀ b ∈ (openLeaf nid a).2.1.map (·.1), nid ≤ b ∧ b < (openLeaf nid a).2.2 := by
  intro b hb
  cases a <;> simp [openLeaf] at hb ⊢
  omega
theorem openLeaves_keys : ∀ {as : List AV} {nid : Nat}, ∀ b ∈ (openLeaves nid as).2.1.map (·.1), nid ≤ b ∧ b < (openLeaves nid as).2.2
  | [], nid => by simp [openLeaves]
  | a :: as, nid => fun b hb => by
    simp only [openLeaves, List.map_append, List.mem_append] at hb ⊢
    rcases hb with hb | hb
    · exact ⟨(openLeaf_keys b hb).1, Nat.lt_of_lt_of_le (openLeaf_keys b hb).2 openLeaves_le⟩
    · exact ⟨Nat.le_trans openLeaf_le (openLeaves_keys b hb).1, (openLeaves_keys b hb).2⟩
theorem openVal_keys {nid : Nat} {a : AV} : ∀ b ∈ (openVal nid a).2.1.map (·.1), nid ≤ b ∧ b < (openVal nid a).2.2 := by
  intro b hb
  cases a <;> first | exact openLeaves_keys b hb | exact openLeaf_keys b hb
theorem openVals_keys : ∀ {as : List AV} {nid : Nat}, ∀ b ∈ (openVals nid as).2.1.map (·.1), nid ≤ b ∧ b < (openVals nid as).2.2
  | [], nid => by simp [openVals]
  | a :: as, nid => fun b hb => by
    simp only [openVals, List.map_append, List.mem_append] at hb ⊢
    rcases hb with hb | hb
    · exact ⟨(openVal_keys b hb).1, Nat.lt_of_lt_of_le (openVal_keys b hb).2 openVals_le⟩
    · exact ⟨Nat.le_trans openVal_le (openVals_keys b hb).1, (openVals_keys b hb).2⟩
theorem openRet_keys {nid : Nat} {a : AV} : ∀ b ∈ (openRet nid a).2.1.map (·.1), nid ≤ b ∧ b < (openRet nid a).2.2 := by
  intro b hb
  cases a <;> first | exact openVals_keys b hb | exact openVal_keys b hb

theorem callC_keys {F : List AV → Option AV} {avs : List AV} {M : Nat → AO} {nid : Nat} {r : AV × List (Nat × AO)} (h : callC F avs M nid = some r) : ∀ b ∈ r.2.map (·.1), nid ≤ b ∧ b < nid + 16 := by
  simp only [callC] at h
  split at h
  case isFalse => simp at h
  split at h
  case h_2 => simp at h
  split at h
  case isFalse => simp at h
  rename_i hle
  simp only [Option.some.injEq] at h
  subst h
  intro b hb
  have := openRet_keys b hb
  omega

theorem callP_keys {F : List AV → Option AV} {avs : List AV} {M : Nat → AO} {nid : Nat} {r : AV × List (Nat × AO)} (h : callP F avs M nid = some r) : ∀ b ∈ r.2.map (·.1), nid ≤ b ∧ b < nid + 16 := by
  simp only [callP] at h
  split at h
  case h_2 => simp at h
  split at h
  case h_2 => simp at h
  split at h
  case isFalse => simp at h
  rename_i hle
  simp only [Option.some.injEq] at h
  subst h
  intro b hb
  have := openRet_keys b hb
  omega

theorem psound_spec {ι : Type} {A : ι → List AV} {rl : ι → List AV} {P : Program} {X : AX} {f : FuncId} {fn : Func} {c : Code} (hX : XOK P X) (hmix : P.follows .mixedOrders = true) (hf : P.funcs[f]? = some fn) (hb : fn.body = some c)
    (h : ∀ (i : ι) (w0 : World) (G : Nat → Prop), (A i).length ≤ fn.ntmps ∧ (rl i).length = fn.results.size ∧ AW ⟨P, X, fn.ntmps, w0, .pure G⟩ c ⟨enterS (A i), [], 0⟩ (fun e st => (e = .normal ∨ e = .ret) ∧ Leaves (Types P) fn.results.toList st (rl i))) :
    PSound P f (specF A fun i => retOf (rl i)) :=
  psound_of hX hmix hf hb rfl fun w0 G avs r hr => by
    obtain ⟨i, rfl, rfl⟩ := specF_some hr
    have := h i w0 G
    exact ⟨this.1, rl i, rfl, this.2.1, this.2.2⟩
end Go.AM
