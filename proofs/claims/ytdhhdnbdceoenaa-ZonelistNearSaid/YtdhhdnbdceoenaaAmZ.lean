/- From the walk of a law to its statement: arguments of plain data, one bool as the answer, nothing changed. -/
import Derived.Test.YtdhhdnbdceoenaaAmW
import Derived.WalkKit
set_option linter.all false

namespace Go.AM
open Go Go.ChangeShapes Go.WideShapes Go.ChangeAt Go.RowKit

theorem okWide_agg {P : Program} {w : World} {r : Reach} {base : Nat} {t : TypeId} {v : Value} (h : Value.okWide P w r base t v) :
    (∃ cs, v = .agg cs ∧ ((∃ fs, P.underlying t = some (.struct fs)) ∨ ∃ n e, P.underlying t = some (.array n e))) ∨
    (v.cells = #[v] ∧ (∀ fs, P.underlying t ≠ some (.struct fs)) ∧ ∀ n e, P.underlying t ≠ some (.array n e)) := by
  unfold Value.okWide at h
  split at h
  · rename_i fs hu
    obtain ⟨cs, rfl, _⟩ := h
    exact .inl ⟨cs, rfl, .inl ⟨fs, hu⟩⟩
  · rename_i n e hu
    obtain ⟨cs, rfl, _⟩ := h
    exact .inl ⟨cs, rfl, .inr ⟨n, e, hu⟩⟩
  · rename_i h1 h2
    right
    refine ⟨?_, fun fs hu => h1 fs hu, fun n e hu => h2 n e hu⟩
    cases v with
    | agg cs =>
      exfalso
      unfold Cell.okWide at h
      split at h <;> try (rename_i heq; simp at heq; done)
      all_goals first
        | (rename_i heq; cases heq; done)
        | (unfold Cell.ok at h
           split at h <;> first | exact h | (rename_i heq; cases heq))
    | _ => rfl

/-- What is known of one argument. -/
def FitArg (P : Program) (t : TypeId) (a : AV) : Prop := ∃ sh, shapeOf P 10 t = some sh ∧
  ((((∃ fs, P.underlying t = some (.struct fs)) ∨ ∃ n e, P.underlying t = some (.array n e)) ∧ ∃ cs, a = .agg cs ∧ FitL sh cs) ∨
   (((∀ fs, P.underlying t ≠ some (.struct fs)) ∧ ∀ n e, P.underlying t ≠ some (.array n e)) ∧ FitL sh [a]))

def FitArgs (P : Program) : List TypeId → List AV → Prop
  | [], [] => True
  | t :: ts, a :: as => FitArg P t a ∧ FitArgs P ts as
  | _, _ => False

section
variable {H : Type} {enc : TypeId × Value → H} {P : Program} {w : World}

theorem args_open {base : Nat} {sp : Nat → Bool} {b0 : Nat} {r : Reach} : ∀ {ts : List TypeId} {vs : List Value} {ds : List (DataW H)} {ps : List MemPlace}, (∀ t ∈ ts, (shapeOf P 10 t).isSome = true) →
    (∀ (j : Nat) (t : TypeId) (v : Value), ts[j]? = some t → vs[j]? = some v → Value.okWide P w r b0 t v) → DataW.TrodAll enc P w base sp true ts vs ds ps → ∃ avs, FitArgs P ts avs ∧ CRepL w (allG w) avs vs ∧ ds.length = ts.length
  | [], [], [], _, _, _, _ => ⟨[], by simp [FitArgs], by simp [CRepL], rfl⟩
  | t :: ts, v :: vs, d :: ds, ps, hs, ho, h => by
    obtain ⟨p, q, h1, h2, _⟩ := h
    obtain ⟨avs, k1, k2, k3⟩ := args_open (fun t ht => hs t (by simp [ht])) (fun j t v hj hv => ho (j + 1) t v (by simpa using hj) (by simpa using hv)) h2
    have hsh := hs t (by simp)
    obtain ⟨sh, hsh⟩ := Option.isSome_iff_exists.1 hsh
    obtain ⟨fuel, hf⟩ := h1
    obtain ⟨as, q1, q2, q3⟩ := shape_open 10 t sh fuel _ _ hsh hf
    rcases okWide_agg (ho 0 t v rfl rfl) with ⟨cs, rfl, hu⟩ | ⟨hc, hu⟩
    · simp only [Value.cells] at q2 q3
      refine ⟨.agg as :: avs, ?_, ?_, by simp [k3]⟩
      · simp only [FitArgs]; exact ⟨⟨sh, hsh, .inl ⟨hu, as, rfl, q1⟩⟩, k1⟩
      · simp only [CRepL, CRep]; exact ⟨⟨cs.toList, by simp, q3, q2⟩, k2⟩
    · rw [hc] at q2
      simp only [List.size_toArray, Array.toList] at q2
      match as, q1, q2 with
      | [a], q1, q2 =>
        simp only [CRepL] at q2
        refine ⟨a :: avs, ?_, ?_, by simp [k3]⟩
        · simp only [FitArgs]; exact ⟨⟨sh, hsh, .inr ⟨hu, q1⟩⟩, k1⟩
        · simp only [CRepL]; exact ⟨q2.1, k2⟩
      | [], _, q2 => simp [CRepL] at q2
      | _ :: _ :: _, _, q2 => simp [CRepL] at q2
  | [], _ :: _, _, _, _, _, h => by simp [DataW.TrodAll] at h
  | [], [], _ :: _, _, _, _, h => by simp [DataW.TrodAll] at h
  | _ :: _, [], _, _, _, _, h => by simp [DataW.TrodAll] at h
  | _ :: _, _ :: _, [], _, _, _, h => by simp [DataW.TrodAll] at h

theorem args_stay (hl : laidOutB P = true) {W W' : World} (hsize : ∀ p : MemPlace, p.block < W.heap.size → W.sameAt W' p) {sp' : Nat → Bool} : ∀ {ts : List TypeId} {vs : List Value} {ds : List (DataW H)} {ps : List MemPlace}, (∀ t ∈ ts, (P.readableRec t && Nat.blt t P.types.size) = true) →
    DataW.TrodAll enc P W 0 (fun _ => true) true ts vs ds ps → (∀ p ∈ ps, p.block < W.heap.size) → (∀ p ∈ ps, sp' p.block = true) → DataW.TrodAll enc P W' 0 sp' true ts vs ds ps
  | [], [], [], _, _, h, _, _ => h
  | t :: ts, v :: vs, d :: ds, ps, hs, h, hlt, hsp => by
    obtain ⟨p, q, h1, h2, rfl⟩ := h
    have ht := hs t (by simp)
    simp only [Bool.and_eq_true] at ht
    exact ⟨p, q, WideElems.Trod_stays hl ht.1 (by have := ht.2; simp only [Nat.blt, Nat.ble_eq] at this; exact this) h1 (fun x hx => hsize x (hlt x (by simp [hx]))) (fun x hx => hsp x (by simp [hx])),
      args_stay hl hsize (fun t ht => hs t (by simp [ht])) h2 (fun x hx => hlt x (by simp [hx])) (fun x hx => hsp x (by simp [hx])), rfl⟩
  | [], _ :: _, _, _, _, h, _, _ => by simp [DataW.TrodAll] at h
  | [], [], _ :: _, _, _, h, _, _ => by simp [DataW.TrodAll] at h
  | _ :: _, [], _, _, _, h, _, _ => by simp [DataW.TrodAll] at h
  | _ :: _, _ :: _, [], _, _, h, _, _ => by simp [DataW.TrodAll] at h

theorem post_stay {f : Func} {s : ChangeSpec} {apart fresh handsOn again : Bool} {W W' : World} {args : Array Value} {v : Value} {ds gs : List (DataW H)} {before pa pv : List MemPlace}
    (hW : DataW.Whole enc P f.params.toList s.vars apart W args.toList ds gs before)
    (hres : ∀ (b : Nat) (sp : Nat → Bool) (hd : Bool), DataW.TrodAll enc P W' b sp hd f.resultTypes.toList (v.resultList f.resultTypes.size) (s.fn H (ds ++ gs)).results [])
    (hargs : ∀ sp : Nat → Bool, (∀ p ∈ before, sp p.block = true) → DataW.TrodAll enc P W' 0 sp true f.params.toList args.toList (s.fn H (ds ++ gs)).args pa)
    (hvars : ∀ sp : Nat → Bool, (∀ p ∈ before, sp p.block = true) → DataW.TrodVars enc P W' sp s.vars (s.fn H (ds ++ gs)).vars pv)
    (hps : before = pa ++ pv) (hk : W.keptBut W' (· ∈ before)) (hfz : ∀ a : Addr, a.block < W.heap.size → W'.frozen? a = W.frozen? a)
    (hok : ∀ (j : Nat) (t : TypeId) (r : Value), f.resultTypes[j]? = some t → (v.resultList f.resultTypes.size)[j]? = some r → Value.okWide P W' .any 0 t r) :
    s.post enc P f apart fresh handsOn again W args v W' := by
  have hlt := hW.lt
  have hthere : ∀ p ∈ before, (fun b => decide (b < W.heap.size)) p.block = true := fun p hp => by simpa using hlt p hp
  refine ⟨ds, gs, before, [], pa, pv, hW, hres _ _ _, hargs _ hthere, hvars _ hthere, World.keptBut_mono (fun p hp => ⟨hp, .inr (by rw [hps, List.mem_append] at hp; exact hp)⟩) hk, fun _ => ?_⟩
  obtain ⟨_, _, _, _, _, hz, hn⟩ := hW
  have hmem : ∀ p, p ∈ ([] ++ pa) ++ pv → p ∈ before := fun p hp => by rw [hps]; simpa using hp
  refine ⟨hok, _, _, ([] ++ pa) ++ pv, ⟨[] ++ pa, pv, trodAll_append (hargs _ (fun _ _ => rfl)) (hres _ _ _), hvars _ (fun _ _ => rfl), rfl, fun b off hp => ?_, fun ha => ?_⟩, fun p hp _ => ?_⟩
  · rw [hfz _ (hlt _ (hmem _ hp))]
    exact hz b off (hmem _ hp)
  · have := hn ha
    rw [hps] at this
    simpa using this
  · rw [hps]
    simpa using hp

/-- A law that answers true and changes nothing. -/
theorem law_contract {f : FuncId} {fn : Func} {s : ChangeSpec} {F : List AV → Option AV} {apart fresh handsOn again : Bool} {tb : TypeId} (hs : PSound P f F) (hl : laidOutB P = true)
    (hvars : s.vars = []) (hspec : ∀ (H : Type) (ds : List (DataW H)), ds.length = fn.params.size → (s.fn H ds).results = [.lit (.bool true)] ∧ (s.fn H ds).args = ds ∧ (s.fn H ds).vars = [])
    (hres : fn.resultTypes = #[tb]) (htb : P.underlying tb = some .bool) (hp : fn.params.toList.all (fun t => (shapeOf P 10 t).isSome && P.readableRec t && Nat.blt t P.types.size) = true)
    (hF : ∀ avs, FitArgs P fn.params.toList avs → F avs = some (B true))
    {W : World} {base : Nat} {args : Array Value} {ds gs : List (DataW H)} {before : List MemPlace}
    (hval : ∀ (j : Nat) t v, fn.params[j]? = some t → args[j]? = some v → Value.okWide P W .any base t v)
    (hW : DataW.Whole enc P fn.params.toList s.vars apart W args.toList ds gs before) :
    Calls P f args W fun e W' => ∃ v, e = .returned v ∧ s.post enc P fn apart fresh handsOn again W args v W' := by
  have hW' := hW
  obtain ⟨p, q, hA, hV, rfl, hfz, hnd⟩ := hW
  rw [hvars] at hV
  obtain ⟨rfl, rfl⟩ := trodVars_none hV
  have hpp : ∀ t ∈ fn.params.toList, (shapeOf P 10 t).isSome = true ∧ (P.readableRec t && Nat.blt t P.types.size) = true := fun t ht => by
    have := List.all_eq_true.1 hp t ht
    simp only [Bool.and_eq_true] at this ⊢
    exact ⟨this.1.1, this.1.2, this.2⟩
  obtain ⟨avs, h1, h2, h3⟩ := args_open (fun t ht => (hpp t ht).1) (fun j t v hj hv => hval j t v (by simpa using hj) (by simpa using hv)) hA
  refine (hs W (allG W) args avs (B true) (hF avs h1) (fun _ h => h) h2).mono fun e W' ⟨x, G', bl, he, hf, _, _, ho, _, _⟩ => ?_
  subst he
  have hx : x = .bool true := by simp only [ORet, OVal, OLeaf, CRep] at ho; exact ho.2
  subst hx
  have hlt : ∀ y ∈ p, y.block < W.heap.size := fun y hy => hW'.lt y (by simp [hy])
  have hold : ∀ k, k < W.heap.size → W'.heap[k]? = W.heap[k]? := fun k hk => hf.old k hk (by simp)
  have hsame : ∀ y : MemPlace, y.block < W.heap.size → W.sameAt W' y := fun y hy => by
    cases y with
    | cell b o => exact World.cell?_of_block (w := W) (hold b hy)
    | map b => exact hold b hy
  have hfr : ∀ a : Addr, a.block < W.heap.size → W'.frozen? a = W.frozen? a := fun a ha => World.frozen?_of_block (w := W) (hold a.block ha)
  have hsp := hspec H (ds ++ []) (by rw [List.append_nil, h3]; simp)
  simp only [List.append_nil] at hW' hsp
  refine ⟨_, rfl, post_stay (pa := p) (pv := []) (by simpa using hW') (fun b sp hd => ?_) (fun sp hsp' => ?_) (fun sp hsp' => ?_) rfl ⟨hf.os, hf.out, fun i hi => ?_⟩ hfr (ok_one hres rfl (okWide_bool_mk htb _))⟩
  · rw [List.append_nil, hsp.1, hres]
    exact trodAll_mk1 (shut_bool htb true)
  · rw [List.append_nil, hsp.2.1]
    exact args_stay hl hsame (fun t ht => (hpp t ht).2) hA hlt fun y hy => hsp' y (by simp [hy])
  · rw [List.append_nil, hsp.2.2, hvars]
    rfl
  · rw [hold i hi]
    split <;> simp_all
end
end Go.AM
