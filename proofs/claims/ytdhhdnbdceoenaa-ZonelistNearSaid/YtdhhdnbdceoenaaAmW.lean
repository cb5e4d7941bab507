/- Arguments that are handed in: what the reading of a statement says of them, in the abstract view. -/
import Derived.Test.YtdhhdnbdceoenaaAmT
import Derived.ProofKit
import Derived.OpenShut
set_option linter.all false

namespace Go.AM
open Go

/-- The shapes of cells. -/
inductive Sh where
  | int (k : IntKind)
  | bool
  | sl (s : List Sh)

mutual
def Fit : Sh → AV → Prop
  | .int k, a => ∃ n, a = .v (.int k n) ∧ (Lit.int k n).wf = true
  | .bool, a => ∃ b, a = .v (.bool b)
  | .sl s, a => ∃ xs, a = .rd s.length xs ∧ xs.length ≤ maxLen ∧ ∀ e ∈ xs, FitL s e
def FitL : List Sh → List AV → Prop
  | [], [] => True
  | s :: r, a :: as => Fit s a ∧ FitL r as
  | _, _ => False
end

def fieldsOf (P : Program) (g : TypeId → Option (List Sh)) : List Field → Nat → Option (List Sh)
  | [], _ => some []
  | f :: r, off => match g f.type, fieldsOf P g r (off + P.cellsOf f.type) with
    | some s, some l => if f.offset = off ∧ s.length = P.cellsOf f.type then some (s ++ l) else none
    | _, _ => none

def shapeOf (P : Program) : Nat → TypeId → Option (List Sh)
  | 0, _ => none
  | n + 1, t => match P.underlying t with
    | some .bool => some [.bool]
    | some (.int k) => some [.int k]
    | some (.slice e) => match shapeOf P n e with
      | some s => if s.length = P.cellsOf e ∧ 1 ≤ s.length then some [.sl s] else none
      | none => none
    | some (.struct fs) => match fieldsOf P (shapeOf P n) fs.toList 0 with
      | some s => if s.length = P.cellsOf t then some s else none
      | none => none
    | some (.array k e) => match shapeOf P n e with
      | some s => if s.length = P.cellsOf e ∧ k * s.length = P.cellsOf t then some (List.replicate k s).flatten else none
      | none => none
    | _ => none

theorem FitL.append : ∀ {s t : List Sh} {a b : List AV}, FitL s a → FitL t b → FitL (s ++ t) (a ++ b)
  | [], _, [], _, _, h => h
  | x :: s, t, y :: a, b, h, k => by
    simp only [FitL, List.cons_append] at h ⊢
    exact ⟨h.1, h.2.append k⟩
  | [], _, _ :: _, _, h, _ => by simp [FitL] at h
  | _ :: _, _, [], _, h, _ => by simp [FitL] at h

theorem CRepL.append {w : World} {G : Nat → Prop} : ∀ {a b : List AV} {xs ys : List Value}, CRepL w G a xs → CRepL w G b ys → CRepL w G (a ++ b) (xs ++ ys)
  | [], _, [], _, _, h => h
  | x :: s, t, y :: a, b, h, k => by
    simp only [CRepL, List.cons_append] at h ⊢
    exact ⟨h.1, h.2.append k⟩
  | [], _, _ :: _, _, h, _ => by simp [CRepL] at h
  | _ :: _, _, [], _, h, _ => by simp [CRepL] at h

theorem FitL.length : ∀ {s : List Sh} {a : List AV}, FitL s a → a.length = s.length
  | [], [], _ => rfl
  | _ :: _, _ :: _, h => by simp only [FitL] at h; simp [FitL.length h.2]
  | [], _ :: _, h => by simp [FitL] at h
  | _ :: _, [], h => by simp [FitL] at h

theorem CRepL.length {w : World} {G : Nat → Prop} : ∀ {a : List AV} {xs : List Value}, CRepL w G a xs → a.length = xs.length
  | [], [], _ => rfl
  | _ :: _, _ :: _, h => by simp only [CRepL] at h; simp [CRepL.length h.2]
  | [], _ :: _, h => by simp [CRepL] at h
  | _ :: _, [], h => by simp [CRepL] at h

/-- What a list of cells is, in the abstract view. -/
def Opened (w : World) (sh : List Sh) (cs : List Value) : Prop := ∃ avs, FitL sh avs ∧ CRepL w (allG w) avs cs ∧ ∀ y ∈ cs, y.oneCell' = true

theorem Opened.nil (w : World) : Opened w [] [] := ⟨[], by simp [FitL], by simp [CRepL], by simp⟩
theorem Opened.append {w : World} {s t : List Sh} {xs ys : List Value} (h : Opened w s xs) (k : Opened w t ys) : Opened w (s ++ t) (xs ++ ys) := by
  obtain ⟨a, h1, h2, h3⟩ := h
  obtain ⟨b, k1, k2, k3⟩ := k
  refine ⟨a ++ b, h1.append k1, h2.append k2, fun y hy => ?_⟩
  rcases List.mem_append.1 hy with hy | hy
  · exact h3 y hy
  · exact k3 y hy

section
variable {H : Type} {enc : TypeId × Value → H} {P : Program} {w : World} {base : Nat} {spare : Nat → Bool} {held : Bool}

theorem fields_open {n : Nat} {cs : List Value} {g : TypeId → Option (List Sh)} (hg : ∀ t sh fuel cs x, g t = some sh → DataW.trod enc P w base spare held fuel t cs = some x → Opened w sh cs) :
    ∀ {fs : List Field} {off : Nat} {sh : List Sh}, fieldsOf P g fs off = some sh → (∀ f ∈ fs, ∃ y, DataW.trod enc P w base spare held n f.type ((cs.drop f.offset).take (P.cellsOf f.type)) = some y) → Opened w sh ((cs.drop off).take sh.length)
  | [], off, sh, h, _ => by
    simp only [fieldsOf, Option.some.injEq] at h
    subst h
    simpa using Opened.nil w
  | f :: r, off, sh, h, hf => by
    simp only [fieldsOf] at h
    cases h1 : g f.type <;> simp only [h1, reduceCtorEq] at h
    rename_i s
    cases h2 : fieldsOf P g r (off + P.cellsOf f.type) <;> simp only [h2, reduceCtorEq] at h
    rename_i l
    split at h
    case isFalse => simp at h
    rename_i hc
    simp only [Option.some.injEq] at h
    subst h
    obtain ⟨y, hy⟩ := hf f (by simp)
    have a1 := hg _ _ _ _ _ h1 hy
    have a2 := fields_open hg h2 fun f' hf' => hf f' (by simp [hf'])
    rw [List.length_append, List.take_add, List.drop_drop, hc.2]
    rw [hc.1] at a1
    exact a1.append a2

theorem array_open {n k c : Nat} {e : TypeId} {cs : List Value} {s : List Sh} (hg : ∀ fuel cs x, DataW.trod enc P w base spare held fuel e cs = some x → Opened w s cs) (hc : s.length = c)
    (hf : ∀ i, i < k → ∃ y, DataW.trod enc P w base spare held n e ((cs.drop (i * c)).take c) = some y) : ∀ m i, i + m = k → Opened w (List.replicate m s).flatten ((cs.drop (i * c)).take (m * c))
  | 0, i, _ => by simpa using Opened.nil w
  | m + 1, i, h => by
    obtain ⟨y, hy⟩ := hf i (by omega)
    have a1 := hg _ _ _ hy
    have a2 := array_open hg hc hf m (i + 1) (by omega)
    rw [List.replicate_succ, List.flatten_cons, Nat.add_mul, Nat.one_mul, Nat.add_comm (m * c) c, List.take_add, List.drop_drop, ← Nat.succ_mul]
    exact a1.append a2

theorem shape_open : ∀ (m : Nat) (t : TypeId) (sh : List Sh) (fuel : Nat) (cs : List Value) (x : DataW H × List MemPlace), shapeOf P m t = some sh → DataW.trod enc P w base spare held fuel t cs = some x → Opened w sh cs
  | 0, _, _, _, _, _, h, _ => by simp [shapeOf] at h
  | m + 1, t, sh, fuel, cs, x, h, hd => by
    simp only [shapeOf] at h
    cases hu : P.underlying t with
    | none => simp [hu] at h
    | some u =>
      rw [hu] at h
      cases u <;> simp only [reduceCtorEq, Option.some.injEq] at h
      case bool =>
        subst h
        obtain ⟨b, rfl, _⟩ := DataW.trod_bool hu hd
        exact ⟨[.v (.bool b)], by simp [FitL, Fit], by simp [CRepL, CRep], by simp⟩
      case int k =>
        subst h
        obtain ⟨n, rfl, _, hw⟩ := DataW.trod_int hu hd
        exact ⟨[.v (.int k n)], by simp [FitL, Fit, hw], by simp [CRepL, CRep], by simp⟩
      case slice e =>
        cases hs : shapeOf P m e <;> simp only [hs, reduceCtorEq] at h
        rename_i s
        split at h
        case isFalse => simp at h
        rename_i hc
        simp only [Option.some.injEq] at h
        subst h
        rcases DataW.trod_slice hu hd with ⟨rfl, _⟩ | ⟨a, len, cap, elems, rest, n, _, rfl, _, hb, hl, hm, hlen, hel, _, _⟩
        · refine ⟨[.rd s.length []], by simp [FitL, Fit], ?_, by simp⟩
          simp only [CRepL, CRep, and_true]
          exact ⟨none, 0, rfl, by simp, fun _ => rfl, .inl trivial⟩
        · have each : ∀ i, i < len → ∃ avs cs', FitL s avs ∧ CRepL w (allG w) avs cs' ∧ (∀ y ∈ cs', y.oneCell' = true) ∧ w.cells? base (a.add (i * P.cellsOf e)) (P.cellsOf e) = some cs' := fun i hi => by
            have h1 := hel i hi
            have h2 : elems[i]? = some (elems[i]'(by omega)) := List.getElem?_eq_getElem (by omega)
            rw [h2, Option.bind_eq_some_iff] at h1
            obtain ⟨cs', q1, q2⟩ := h1
            obtain ⟨avs, p1, p2, p3⟩ := shape_open m e s _ _ _ hs q2
            exact ⟨avs, cs', p1, p2, p3, q1⟩
          by_cases h0 : len = 0
          · subst h0
            refine ⟨[.rd s.length []], by simp [FitL, Fit], ?_, by simp⟩
            simp only [CRepL, CRep, and_true]
            exact ⟨some a, cap, rfl, by simp, by simp, .inl trivial⟩
          · -- the address
            obtain ⟨avs0, cs0, f0, r0, _, c0⟩ := each 0 (by omega)
            have hcell0 := (World.cells?_some c0).2.2 0 (by have := f0.length; have := r0.length; have := (World.cells?_some c0).2.1; omega)
            have hcs0 : 0 < cs0.length := by have := f0.length; have := r0.length; omega
            have hsp : a.spot = none := by
              rw [List.getElem?_eq_getElem hcs0] at hcell0
              unfold World.cell? at hcell0
              split at hcell0
              · split at hcell0
                · simp at hcell0
                · rename_i hns
                  cases hq : a.spot with
                  | none => rfl
                  | some z => exfalso; apply hns; simp [Addr.add, hq]
              · simp at hcell0
            have hat : ∀ n, a.add n = ⟨a.block, a.off + n, none⟩ := fun n => by
              obtain ⟨b, o, sp⟩ := a
              simp only at hsp
              subst hsp
              unfold Addr.add
              split
              · rename_i h; subst h; rfl
              · rfl
            have hblk : a.block < w.heap.size := by
              rw [List.getElem?_eq_getElem hcs0] at hcell0
              unfold World.cell? at hcell0
              split at hcell0
              · rename_i hh
                have := (Array.getElem?_eq_some_iff.1 hh).1
                rw [hat] at this
                simpa [Addr.add] using this
              · simp at hcell0
            let f : Nat → List AV := fun i => if h : i < len then (each i h).choose else []
            have hf : ∀ i (h : i < len), ∃ cs', FitL s (f i) ∧ CRepL w (allG w) (f i) cs' ∧ (∀ y ∈ cs', y.oneCell' = true) ∧ w.cells? base (a.add (i * P.cellsOf e)) (P.cellsOf e) = some cs' := fun i h => by
              simp only [f, dif_pos h]
              exact (each i h).choose_spec
            refine ⟨[.rd s.length ((List.range len).map f)], ?_, ?_, by simp⟩
            · simp only [FitL, Fit, and_true]
              refine ⟨_, rfl, by simp; omega, fun e' he' => ?_⟩
              obtain ⟨i, hi, rfl⟩ := List.mem_map.1 he'
              obtain ⟨_, h1, _⟩ := hf i (List.mem_range.1 hi)
              exact h1
            · simp only [CRepL, CRep, and_true]
              refine ⟨some a, cap, by simp, by simp; omega, by simp, .inr ⟨a.block, a.off, ?_, hblk, CRows.of_get fun i e' he' => ?_⟩⟩
              · obtain ⟨b, o, sp⟩ := a
                simp only at hsp
                rw [hsp]
              · have hi : i < len := by
                  have := (List.getElem?_eq_some_iff.1 he').1
                  simpa using this
                have he2 : e' = f i := by
                  rw [List.getElem?_map, List.getElem?_range hi] at he'
                  simpa using he'.symm
                subst he2
                obtain ⟨cs', h1, h2, h3, h4⟩ := hf i hi
                have h5 := World.cells?_some h4
                refine ⟨h1.length, CCells.of_list h2 h3 fun j v hv => ?_⟩
                have hj : j < cs'.length := (List.getElem?_eq_some_iff.1 hv).1
                have h6 := h5.2.2 j (by have := h5.2.1; omega)
                rw [hv] at h6
                rw [← h6, hat]
                simp only [hc.1]
                unfold Addr.add
                split
                · rename_i hz; rw [hz]; rfl
                · rfl
      case struct fs =>
        cases hs : fieldsOf P (shapeOf P m) fs.toList 0 <;> simp only [hs, reduceCtorEq] at h
        rename_i s
        split at h
        case isFalse => simp at h
        rename_i hc
        simp only [Option.some.injEq] at h
        subst h
        obtain ⟨xs, n, rfl, _, hl, hxl, hx⟩ := DataW.trod_struct hu hd
        have := fields_open (n := n) (cs := cs) (fun t sh fuel cs x h1 h2 => shape_open m t sh fuel cs x h1 h2) hs fun f hf => by
          obtain ⟨i, hi, rfl⟩ := List.getElem_of_mem hf
          have hi' : i < fs.size := by simpa using hi
          have := hx i fs[i] (Array.getElem?_eq_getElem hi')
          rw [List.getElem?_eq_getElem (by omega)] at this
          exact ⟨_, by simpa using this⟩
        rw [List.drop_zero, List.take_of_length_le (by omega)] at this
        exact this
      case array k e =>
        cases hs : shapeOf P m e <;> simp only [hs, reduceCtorEq] at h
        rename_i s
        split at h
        case isFalse => simp at h
        rename_i hc
        simp only [Option.some.injEq] at h
        subst h
        obtain ⟨xs, n, rfl, _, hl, hxl, hx⟩ := DataW.trod_array hu hd
        have := array_open (n := n) (k := k) (c := P.cellsOf e) (cs := cs) (fun fuel cs x h => shape_open m e s fuel cs x hs h) hc.1 (fun i hi => by
          have := hx i hi
          rw [List.getElem?_eq_getElem (by omega)] at this
          exact ⟨_, this⟩) k 0 (by omega)
        rw [Nat.zero_mul, List.drop_zero, List.take_of_length_le (by rw [hl, ← hc.2, hc.1]; exact Nat.le_refl _)] at this
        exact this
end
end Go.AM

/- A function known at a few arguments, as a table: long evaluations are cut into pieces. -/
namespace Go.AM
open Go

def beqV : Value → Value → Bool
  | .int k a, .int k' b => decide (k = k') && decide (a = b)
  | .bool a, .bool b => a == b
  | .slice none n c, .slice none n' c' => Nat.beq n n' && Nat.beq c c'
  | _, _ => false

theorem beqV_eq {x y : Value} (h : beqV x y = true) : x = y := by
  unfold beqV at h
  split at h
  · simp only [Bool.and_eq_true, decide_eq_true_eq] at h; rw [h.1, h.2]
  · rw [eq_of_beq h]
  · simp only [Bool.and_eq_true] at h; rw [Nat.eq_of_beq_eq_true h.1, Nat.eq_of_beq_eq_true h.2]
  · simp at h

mutual
def AV.beq : AV → AV → Bool
  | .any, b => match b with | .any => true | _ => false
  | .v x, b => match b with | .v y => beqV x y | _ => false
  | .agg cs, b => match b with | .agg ds => beqL cs ds | _ => false
  | .tup cs, b => match b with | .tup ds => beqL cs ds | _ => false
  | .rd s xs, b => match b with | .rd t ys => Nat.beq s t && beqLL xs ys | _ => false
  | .ow s xs, b => match b with | .ow t ys => Nat.beq s t && beqLL xs ys | _ => false
  | _, _ => false
def beqL : List AV → List AV → Bool
  | [], b => match b with | [] => true | _ => false
  | x :: r, b => match b with | y :: s => x.beq y && beqL r s | _ => false
def beqLL : List (List AV) → List (List AV) → Bool
  | [], b => match b with | [] => true | _ => false
  | x :: r, b => match b with | y :: s => beqL x y && beqLL r s | _ => false
end

mutual
theorem AV.beq_eq : ∀ {a b : AV}, a.beq b = true → a = b
  | .any, b, h => by cases b <;> simp [AV.beq] at h; rfl
  | .v x, b, h => by
    cases b <;> simp only [AV.beq, Bool.false_eq_true] at h
    rw [beqV_eq h]
  | .agg cs, b, h => by
    cases b <;> simp only [AV.beq, Bool.false_eq_true] at h
    rw [beqL_eq h]
  | .tup cs, b, h => by
    cases b <;> simp only [AV.beq, Bool.false_eq_true] at h
    rw [beqL_eq h]
  | .rd s xs, b, h => by
    cases b <;> simp only [AV.beq, Bool.false_eq_true, Bool.and_eq_true] at h
    rw [Nat.eq_of_beq_eq_true h.1, beqLL_eq h.2]
  | .ow s xs, b, h => by
    cases b <;> simp only [AV.beq, Bool.false_eq_true, Bool.and_eq_true] at h
    rw [Nat.eq_of_beq_eq_true h.1, beqLL_eq h.2]
  | .rp _, _, h => by simp [AV.beq] at h
  | .rf _, _, h => by simp [AV.beq] at h
  | .bp .., _, h => by simp [AV.beq] at h
  | .sl .., _, h => by simp [AV.beq] at h
  | .ep .., _, h => by simp [AV.beq] at h
  | .bs .., _, h => by simp [AV.beq] at h
  | .fn .., _, h => by simp [AV.beq] at h
  | .ifc .., _, h => by simp [AV.beq] at h
theorem beqL_eq : ∀ {a b : List AV}, beqL a b = true → a = b
  | [], b, h => by cases b <;> simp [beqL] at h; rfl
  | x :: r, b, h => by
    cases b <;> simp only [beqL, Bool.false_eq_true, Bool.and_eq_true] at h
    rw [AV.beq_eq h.1, beqL_eq h.2]
theorem beqLL_eq : ∀ {a b : List (List AV)}, beqLL a b = true → a = b
  | [], b, h => by cases b <;> simp [beqLL] at h; rfl
  | x :: r, b, h => by
    cases b <;> simp only [beqLL, Bool.false_eq_true, Bool.and_eq_true] at h
    rw [beqL_eq h.1, beqLL_eq h.2]
end

def memo (tab : List (List AV × AV)) (avs : List AV) : Option AV := match tab with
  | [] => none
  | (as, r) :: t => match beqL as avs with
    | true => some r
    | false => memo t avs

theorem memo_sound {P : Program} {f : FuncId} {F : List AV → Option AV} (h : PSound P f F) : ∀ {tab : List (List AV × AV)}, (∀ p ∈ tab, F p.1 = some p.2) → PSound P f (memo tab)
  | tab, ht => h.weaken fun avs r hr => by
    induction tab with
    | nil => simp [memo] at hr
    | cons p t ih =>
      obtain ⟨as, q⟩ := p
      simp only [memo] at hr
      split at hr
      · rename_i hb
        simp only [Option.some.injEq] at hr
        subst hr
        rw [← beqL_eq hb]
        exact ht (as, q) (by simp)
      · exact ih (fun p hp => ht p (by simp [hp])) hr

theorem memo_flat {tab : List (List AV × AV)} (h : tab.all (fun p => p.2.flatB) = true) : ∀ {avs : List AV} {r : AV}, memo tab avs = some r → r.flat := by
  induction tab with
  | nil => intro avs r hr; simp [memo] at hr
  | cons p t ih =>
    intro avs r hr
    simp only [List.all_cons, Bool.and_eq_true] at h
    obtain ⟨as, q⟩ := p
    simp only [memo] at hr
    split at hr
    · simp only [Option.some.injEq] at hr
      subst hr
      exact flat_of h.1
    · exact ih h.2 hr
end Go.AM

/- Specified functions in a table of calls; a law at last. -/
namespace Go.AM
open Go

theorem specF_flat {ι : Type} {A : ι → List AV} {R : ι → AV} (h : ∀ i, (R i).flat) {avs : List AV} {r : AV} (hr : specF A R avs = some r) : r.flat := by
  obtain ⟨i, _, rfl⟩ := specF_some hr
  exact h i

theorem callP_spec {ι : Type} {A : ι → List AV} {R : ι → AV} {avs : List AV} {M : Nat → AO} {n : Nat} (i : ι) (hp : peekVals M avs = some (A i)) (inj : ∀ j, A j = A i → R j = R i) (ho : (openRet n (R i)).2.2 ≤ n + 16) :
    callP (specF A R) avs M n = some ((openRet n (R i)).1, (openRet n (R i)).2.1) := by
  unfold callP
  rw [hp]
  simp only [specF_eq i inj, if_pos ho]

theorem xok_spec {P : Program} {X : AX} (h : XOK P X) {f : FuncId} {fn : Func} {ι : Type} {A : ι → List AV} {R : ι → AV} (hs : PSound P f (specF A R)) (hfl : ∀ i, (R i).flat) (hf : P.funcs[f]? = some fn) (hn : (fn.body.isSome && !(fn.name == "runtime.NumGoroutine")) = true) :
    XOK P (X.add f (callP (specF A R))) :=
  xok_add h (.inl ⟨hs.callP fun _ _ h => specF_flat hfl h, body_ok fn hf hn⟩) fun _ _ _ _ h => callP_keys h

@[simp] theorem flat_int {n : Int} : (retOf [I n]).flat := trivial
@[simp] theorem flat_bool {b : Bool} : (retOf [B b]).flat := trivial
@[simp] theorem flat_int2 {n m : Int} : (retOf [I n, I m]).flat := by simp [retOf, AV.flat, AV.flatV, AV.flat1]
@[simp] theorem flat_intb {n : Int} {b : Bool} : (retOf [I n, B b]).flat := by simp [retOf, AV.flat, AV.flatV, AV.flat1]
theorem flat_rows {l : List Int} : (retOf [.ow 1 (irows l)]).flat := by
  simp only [retOf, AV.flat, AV.flatV, AV.flat1]
  intro e he a ha
  obtain ⟨x, _, rfl⟩ := List.mem_map.1 he
  simp at ha; subst ha; trivial
end Go.AM
