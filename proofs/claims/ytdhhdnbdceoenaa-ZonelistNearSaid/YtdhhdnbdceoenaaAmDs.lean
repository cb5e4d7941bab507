/- Regions whose order is drawn, by footprints: how they are evaluated. -/
import Derived.Test.YtdhhdnbdceoenaaAmDr
set_option linter.all false

namespace Go.AM
open Go

/-- The objects that an operation reads or changes. -/
def opFoot (op : Op) (ev : Operand → AV) (M : Nat → AO) : List Nat := match op with
  | .load _ x => (ev x).nms
  | .store _ x _ => (ev x).nms
  | .call c => match c.callee with
    | .builtin b => match b with
      | .len => match c.args.toList.map ev with
        | [.mp b _] => [b]
        | _ => []
      | .min | .max | .cap => []
      | _ => nmsL (c.args.toList.map ev)
    | .value f => gat M 64 (nmsL (ev f :: c.args.toList.map ev)) []
    | _ => []
  | .lookup _ x _ _ => (ev x).nms
  | .mapUpdate _ x _ _ => (ev x).nms
  | _ => []
abbrev Foot := List Nat × List Nat
def arunFt (T : TypeId → Option TD) (X : AX) (ops : Array Oper) (N base : Nat) : List Oper → Nat → List (Nat × AV) → List (Nat × AO) → List Foot → Option (List (Nat × AV) × List (Nat × AO) × List Foot)
  | [], _, l, M, fs => some (l, M, fs)
  | o :: r, i, l, M, fs =>
    if dstOK N o = true then
      match o.guard with
      | none => match astep T X o.op (aEv l) (restr (opFoot o.op (aEv l) (getM M)) (getM M)) (base + 16 * i) with
        | some (av, u) => arunFt T X ops N base r (i + 1) (putS l o.dst av) (updL M u) ((opFoot o.op (aEv l) (getM M), u.map (·.1)) :: fs)
        | none => none
      | some (j, want) => match (ops[j]?).bind (·.dst) with
        | some d => match yV (getS l d) with
          | some (some b) =>
            if b = want then
              match astep T X o.op (aEv ((d, .v (.bool want)) :: l)) (restr (opFoot o.op (aEv ((d, .v (.bool want)) :: l)) (getM M)) (getM M)) (base + 16 * i) with
              | some (av, u) => arunFt T X ops N base r (i + 1) (putS ((d, .v (.bool want)) :: l) o.dst av) (updL M u) ((opFoot o.op (aEv ((d, .v (.bool want)) :: l)) (getM M), u.map (·.1)) :: fs)
              | none => none
            else arunFt T X ops N base r (i + 1) (putS ((d, .v (.bool (!want))) :: l) o.dst .u) M (([], []) :: fs)
          | some none => arunFt T X ops N base r (i + 1) (putS l o.dst .u) M (([], []) :: fs)
          | none => none
        | none => none
    else none
def footOf (r : RecF) : Foot := (r.1, r.2.2.map (·.1))
theorem recsF_of_run {T : TypeId → Option TD} {X : AX} {ops : Array Oper} {N base : Nat} : ∀ {ol : List Oper} {i : Nat} {l l' : List (Nat × AV)} {M M' : List (Nat × AO)} {fs fs' : List Foot}, arunFt T X ops N base ol i l M fs = some (l', M', fs') →
    ∃ rs, RecsF T X ops N base ol i (getS l) (getM M) rs (getS l') (getM M') ∧ fs' = (rs.map footOf).reverse ++ fs
  | [], i, l, l', M, M', fs, fs', h => by
    simp only [arunFt, Option.some.injEq, Prod.mk.injEq] at h
    obtain ⟨rfl, rfl, rfl⟩ := h
    exact ⟨[], ⟨rfl, rfl⟩, rfl⟩
  | o :: ol, i, l, l', M, M', fs, fs', h => by
    simp only [arunFt] at h
    split at h
    case isFalse => simp at h
    rename_i hd
    cases hg : o.guard with
    | none =>
      simp only [hg] at h
      cases hs : astep T X o.op (aEv l) (restr (opFoot o.op (aEv l) (getM M)) (getM M)) (base + 16 * i) <;> simp only [hs, reduceCtorEq] at h
      rename_i r
      obtain ⟨av, u⟩ := r
      obtain ⟨rs, hrs, hfs⟩ := recsF_of_run h
      refine ⟨(opFoot o.op (aEv l) (getM M), av, u) :: rs, ?_, by rw [hfs]; simp [footOf]⟩
      simp only [RecsF, stepRel, hg, hd, true_and]
      rw [getS_putS, getM_updL] at hrs
      exact ⟨by rw [← aEv_eq]; exact hs, hrs⟩
    | some jw =>
      obtain ⟨j, want⟩ := jw
      simp only [hg] at h
      cases hdj : (ops[j]?).bind (·.dst) <;> simp only [hdj, reduceCtorEq] at h
      rename_i d
      cases hy : yV (getS l d) <;> simp only [hy, reduceCtorEq] at h
      rename_i y
      cases y with
      | none =>
        simp only at h
        obtain ⟨rs, hrs, hfs⟩ := recsF_of_run h
        refine ⟨([], .u, []) :: rs, ?_, by rw [hfs]; simp [footOf]⟩
        simp only [RecsF, stepRel, hg, hd, true_and]
        rw [getS_putS] at hrs
        exact ⟨⟨d, none, hdj, hy, by simp⟩, hrs⟩
      | some b =>
      simp only at h
      have hgd := yV_bool hy
      split at h
      · rename_i hb
        subst hb
        have hsame := getS_same l d _ hgd
        cases hs : astep T X o.op (aEv ((d, .v (.bool b)) :: l)) (restr (opFoot o.op (aEv ((d, .v (.bool b)) :: l)) (getM M)) (getM M)) (base + 16 * i) <;> simp only [hs, reduceCtorEq] at h
        rename_i r
        obtain ⟨av, u⟩ := r
        obtain ⟨rs, hrs, hfs⟩ := recsF_of_run h
        refine ⟨(opFoot o.op (aEv ((d, .v (.bool b)) :: l)) (getM M), av, u) :: rs, ?_, by rw [hfs]; simp [footOf]⟩
        simp only [RecsF, stepRel, hg, hd, true_and]
        rw [getS_putS, getM_updL, hsame] at hrs
        have e1 : aEv ((d, .v (.bool b)) :: l) = aEvF (getS l) := by rw [aEv_eq, hsame]
        rw [e1] at hs ⊢
        exact ⟨⟨d, some b, hdj, hy, by rw [if_pos rfl]; exact hs⟩, hrs⟩
      · rename_i hb
        have hnb : (!want) = b := by cases b <;> cases want <;> simp at hb ⊢
        rw [hnb] at h
        have hsame := getS_same l d _ hgd
        obtain ⟨rs, hrs, hfs⟩ := recsF_of_run h
        refine ⟨([], .u, []) :: rs, ?_, by rw [hfs]; simp [footOf]⟩
        simp only [RecsF, stepRel, hg, hd, true_and]
        rw [getS_putS, hsame] at hrs
        exact ⟨⟨d, some b, hdj, hy, by rw [if_neg (by simpa using hb)]; trivial⟩, hrs⟩

/-! The check -/
def memB (l : List Nat) (b : Nat) : Bool := l.any fun c => Nat.beq c b
theorem memB_iff {l : List Nat} {b : Nat} : memB l b = true ↔ b ∈ l := by
  unfold memB
  rw [List.any_eq_true]
  constructor
  · rintro ⟨c, hc, e⟩
    rw [← Nat.eq_of_beq_eq_true e]; exact hc
  · exact fun h => ⟨b, h, Nat.beq_refl b⟩
def clashB (p q : Foot) : Bool := p.2.any (fun b => memB q.1 b || memB q.2 b) || q.2.any fun b => memB p.1 b
theorem clashB_iff {p q : Foot} (h : clashB p q = false) : ¬ ∃ b, (b ∈ p.2 ∧ (b ∈ q.1 ∨ b ∈ q.2)) ∨ (b ∈ q.2 ∧ b ∈ p.1) := by
  rintro ⟨b, hb⟩
  simp only [clashB, Bool.or_eq_false_iff, List.any_eq_false, Bool.or_eq_true, memB_iff] at h
  rcases hb with ⟨h1, h2⟩ | ⟨h1, h2⟩
  · exact h.1 b h1 h2
  · exact h.2 b h1 h2
def okD (ops : Array Oper) (fsr : List Foot) : Bool :=
  ops.toList.zipIdx.all (fun p => p.1.after.all fun e => !Region.binds .any e || decide (e.on < p.2)) &&
  (ops.toList.zip fsr.reverse).zipIdx.all (fun p => (ops.toList.zip fsr.reverse).zipIdx.all fun q => !(decide (p.2 < q.2)) || (Oper.apart ops p.1.1 q.1.1 && !clashB p.1.2 q.1.2) || ((ancAll ops.toList []).getD q.2 0).testBit p.2)
theorem ordF_of {ops : Array Oper} {rs : List RecF} (hl : rs.length = ops.toList.length) (h : okD ops (rs.map footOf).reverse = true) : OrdF ops rs := by
  simp only [okD, List.reverse_reverse, Bool.and_eq_true] at h
  obtain ⟨h1, h2⟩ := h
  have hz : ∀ j o, ops[j]? = some o → (o, j) ∈ ops.toList.zipIdx := fun j o ho => by
    rw [List.mem_zipIdx_iff_getElem?]
    simpa using ho
  have hz2 : ∀ j o r, ops[j]? = some o → rs[j]? = some r → ((o, footOf r), j) ∈ (ops.toList.zip (rs.map footOf)).zipIdx := fun j o r ho hr => by
    rw [List.mem_zipIdx_iff_getElem?, List.getElem?_zip_eq_some]
    exact ⟨by simpa using ho, by rw [List.getElem?_map, hr]; rfl⟩
  have hanc : ∀ i j x y p q, ops[i]? = some x → ops[j]? = some y → rs[i]? = some p → rs[j]? = some q → i < j → (Oper.apart ops x y && !clashB (footOf p) (footOf q)) = false → Anc ops i j := fun i j x y p q hx hy hp hq hij hc => by
    have h3 := List.all_eq_true.1 (List.all_eq_true.1 h2 _ (hz2 i x p hx hp)) _ (hz2 j y q hy hq)
    simp only [hij, decide_true, Bool.not_true, hc, Bool.false_or] at h3
    exact ancAll_spec ops.toList [] (fun j => by simp) (fun j i hb => by simp at hb) j i h3
  have hrs : ∀ j o, ops[j]? = some o → ∃ r, rs[j]? = some r := fun j o ho => by
    have hj : j < ops.size := (Array.getElem?_eq_some_iff.1 ho).1
    exact ⟨rs[j]'(by rw [hl]; simpa using hj), List.getElem?_eq_getElem _⟩
  have hos : ∀ j (r : RecF), rs[j]? = some r → ∃ o, ops[j]? = some o := fun j r hr => by
    have hj : j < rs.length := (List.getElem?_eq_some_iff.1 hr).1
    rw [hl] at hj
    have hj : j < ops.size := by simpa using hj
    exact ⟨_, Array.getElem?_eq_getElem hj⟩
  refine ⟨fun j o ho e he hb => ?_, fun i j x y hx hy hij hc => ?_, fun i j p q hp hq hij hc => ?_⟩
  · have := List.all_eq_true.1 h1 _ (hz j o ho)
    simp only [Array.all_eq_true'] at this
    have := this e he
    simpa [hb] using this
  · obtain ⟨p, hp⟩ := hrs i x hx
    obtain ⟨q, hq⟩ := hrs j y hy
    exact hanc i j x y p q hx hy hp hq hij (by rw [hc]; rfl)
  · obtain ⟨x, hx⟩ := hos i p hp
    obtain ⟨y, hy⟩ := hos j q hq
    refine hanc i j x y p q hx hy hp hq hij ?_
    cases hcl : clashB (footOf p) (footOf q) with
    | true => simp
    | false => exact absurd hc (clashB_iff hcl)
theorem region_drawnF {P : Program} {X : AX} (hX : XOK P X) (hmix : P.follows .mixedOrders = true) {id N : Nat} {ops : Array Oper} {w0 : World} {bl : Bk} {a : Act} {w : World} {st : St} {s : List (Nat × AV)} {m : List (Nat × AO)} {fs : List Foot} {Q : Exit → Act → World → Prop}
    (hs : Sat N w0 bl a w st) (hh : arunFt (Types P) X ops N st.nx ops.toList 0 st.s st.m [] = some (s, m, fs)) (hO : okD ops fs = true) (hq : ∀ a' w', Sat N w0 bl a' w' ⟨s, m, st.nx + 16 * ops.size⟩ → Q .normal a' w') : (Code.region id ops true).wp P Q a w := by
  obtain ⟨rs, hrs, hfs⟩ := recsF_of_run hh
  rw [List.append_nil] at hfs
  subst hfs
  obtain ⟨E, h1, h2, h3⟩ := hs
  have hinv : Inv w0 bl E { w with drawn := w.drawn + 1 } := (StepTo.refl (w' := { w with drawn := w.drawn + 1 }) h1.inv rfl rfl rfl).inv
  have hs1 : SatF N w0 bl E a { w with drawn := w.drawn + 1 } (getS st.s) (getM st.m) :=
    ⟨h1.defers, h1.size, hinv, fun b hb => ObjRep.mono (w := w) (w' := { w with drawn := w.drawn + 1 }) (Env.Le.refl E) (fun _ _ => rfl) rfl rfl (fun _ _ _ _ => rfl) (h1.mem b hb), fun t => Rep.mono (w := w) (w' := { w with drawn := w.drawn + 1 }) (Env.Le.refl E) (fun _ _ => rfl) (h1.slots t)⟩
  have hlist : ∀ j, (Array.replicate ops.size false).getD j false = false := fun j => by
    rw [Array.getD_eq_getD_getElem?, Array.getElem?_replicate]
    split <;> rfl
  obtain ⟨hlen, hg', hm', hz⟩ := recsF_at hrs
  have hord := ordF_of hlen hO
  have hfin : ∀ k, getM m k ≠ .dead → k < st.nx + 16 * ops.size := fun k hk => by
    rw [hm'] at hk
    have hk' : mF (ops.toList.zip (rs.map (·.2))) 0 (fun j => decide (j < ops.size)) (getM st.m) k ≠ .dead := by
      rwa [mF_at (L' := fun _ => true) rfl fun j o r hj _ => by
        have := (List.getElem?_eq_some_iff.1 hj).1
        simp at this
        simp; omega]
    rcases live_ofF hX hz h3 ops.size k hk' with h4 | ⟨j, h4, h5, h6, _⟩
    · omega
    · omega
  refine wp_region_any hmix (run_anyF hX hord hrs h3 (fun E' a' w' k1 k2 => hq a' w' ⟨E', k1, k2, hfin⟩) ops.size _ E a _ (by simp) ?_ (fun j o _ hj => by rw [hlist] at hj; simp at hj) ?_ (fun b hb => .inl (h2 b hb)))
  · refine Nat.le_trans List.countP_le_length ?_
    simp
  · rw [gF_none (fun j _ => hlist j), mF_none (fun j _ => hlist j)]
    exact hs1

/-! Step by step -/
def RunFt (T : TypeId → Option TD) (X : AX) (ops : Array Oper) (N base : Nat) (l : List Oper) (i : Nat) (s : List (Nat × AV)) (m : List (Nat × AO)) (fs : List Foot) (Q : List (Nat × AV) → List (Nat × AO) → Prop) : Prop :=
  ∃ s' m' fs', arunFt T X ops N base l i s m fs = some (s', m', fs') ∧ okD ops fs' = true ∧ Q s' m'
def StepFt (T : TypeId → Option TD) (X : AX) (ops : Array Oper) (N base : Nat) (r : List Oper) (i : Nat) (s : List (Nat × AV)) (m : List (Nat × AO)) (fs : List Foot) (dst : Option Nat) (Q : List (Nat × AV) → List (Nat × AO) → Prop) (S : List Nat) (a : Option (AV × List (Nat × AO))) : Prop :=
  ∃ av u, a = some (av, u) ∧ RunFt T X ops N base r (i + 1) (putS s dst av) (updL m u) ((S, u.map (·.1)) :: fs) Q
/-- An operation, at what it reads. -/
def StepSt (T : TypeId → Option TD) (X : AX) (ops : Array Oper) (N base : Nat) (r : List Oper) (i : Nat) (s : List (Nat × AV)) (m : List (Nat × AO)) (fs : List Foot) (dst : Option Nat) (op : Op) (Q : List (Nat × AV) → List (Nat × AO) → Prop) (S : List Nat) : Prop :=
  StepFt T X ops N base r i s m fs dst Q S (astep T X op (aEv s) (restr S (getM m)) (base + 16 * i))
section
variable {T : TypeId → Option TD} {X : AX} {ops : Array Oper} {N base : Nat} {l r : List Oper} {i : Nat} {s : List (Nat × AV)} {m : List (Nat × AO)} {fs : List Foot} {Q : List (Nat × AV) → List (Nat × AO) → Prop} {dst : Option Nat} {op : Op} {ty : TypeId} {pos : String} {aft : Array Edge}
@[simp] theorem runFt_nil : RunFt T X ops N base [] i s m fs Q ↔ okD ops fs = true ∧ Q s m := by
  simp only [RunFt, arunFt, Option.some.injEq, Prod.mk.injEq]
  constructor
  · rintro ⟨_, _, _, ⟨rfl, rfl, rfl⟩, h⟩; exact h
  · exact fun h => ⟨_, _, _, ⟨rfl, rfl, rfl⟩, h⟩
@[simp] theorem stepFt_some {av : AV} {u : List (Nat × AO)} {S : List Nat} : StepFt T X ops N base r i s m fs dst Q S (some (av, u)) ↔ RunFt T X ops N base r (i + 1) (putS s dst av) (updL m u) ((S, u.map (·.1)) :: fs) Q := by
  constructor
  · rintro ⟨_, _, h, k⟩
    simp only [Option.some.injEq, Prod.mk.injEq] at h
    obtain ⟨rfl, rfl⟩ := h
    exact k
  · exact fun k => ⟨_, _, rfl, k⟩
@[simp] theorem stepSt_cons {b : Nat} {S : List Nat} : StepSt T X ops N base r i s m fs dst op Q (b :: S) ↔ StepFt T X ops N base r i s m fs dst Q (b :: S) (astep T X op (aEv s) (restr (b :: S) (getM m)) (base + 16 * i)) := Iff.rfl
@[simp] theorem stepSt_nil : StepSt T X ops N base r i s m fs dst op Q [] ↔ StepFt T X ops N base r i s m fs dst Q [] (astep T X op (aEv s) (restr [] (getM m)) (base + 16 * i)) := Iff.rfl
@[simp] theorem runFt_plain : RunFt T X ops N base (⟨dst, op, ty, pos, aft, .none⟩ :: r) i s m fs Q ↔ dstOK N ⟨dst, op, ty, pos, aft, .none⟩ = true ∧ StepSt T X ops N base r i s m fs dst op Q (opFoot op (aEv s) (getM m)) := by
  simp only [RunFt, arunFt, StepSt, StepFt]
  by_cases hd : dstOK N ⟨dst, op, ty, pos, aft, .none⟩ = true
  · simp only [hd, if_true, true_and]
    cases astep T X op (aEv s) (restr (opFoot op (aEv s) (getM m)) (getM m)) (base + 16 * i) with
    | none => simp
    | some p =>
      obtain ⟨av, u⟩ := p
      simp only [Option.some.injEq, Prod.mk.injEq]
      constructor
      · rintro ⟨s', m', fs', h, k⟩; exact ⟨av, u, ⟨rfl, rfl⟩, s', m', fs', h, k⟩
      · rintro ⟨av', u', ⟨rfl, rfl⟩, s', m', fs', h, k⟩; exact ⟨s', m', fs', h, k⟩
  · simp only [hd]
    simp
theorem aw_runFt {c : Cx} {st : St} {Q : Exit → St → Prop} {id : Nat} {ops : Array Oper} (hc : c.OK)
    (h : RunFt (Types c.P) c.X ops c.N st.nx ops.toList 0 st.s st.m [] fun s m => Q .normal ⟨s, m, st.nx + 16 * ops.size⟩) : AW c (.region id ops true) st Q := fun a w hs => by
  obtain ⟨s, m, fs, h1, h2, h3⟩ := h
  exact region_drawnF hc.x hc.mixed hs h1 h2 fun a' w' hs' => ⟨_, h3, hs'⟩
end
theorem restr_hit {S : List Nat} {M : Nat → AO} {b : Nat} (h : b ∈ S) : restr S M b = M b := if_pos h
@[simp] theorem restr_at {S : List Nat} {M : Nat → AO} {b : Nat} : restr S M b = if b ∈ S then M b else .dead := rfl
attribute [simp] opFoot AV.nms nmsL AO.nms gat
end Go.AM
