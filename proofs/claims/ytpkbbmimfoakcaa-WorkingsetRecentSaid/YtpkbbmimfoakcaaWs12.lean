/- Workingset: the table of the functions; the fixed example. -/
import Derived.Test.YtpkbbmimfoakcaaWs11
import Derived.Test.YtpkbbmimfoakcaaAmW
set_option linter.all false

namespace Go.AM
open Go Go.Proofs

/-- References that are no hits. -/
def fl (l : List Int) : Nat := l.countP fun x => decide (x ≠ -1)
theorem fl_succ {l : List Int} {i : Nat} (h : i < l.length) : fl (l.take (i + 1)) = fl (l.take i) + if gi l i = -1 then 0 else 1 := by
  unfold fl
  rw [take_succ_gi h, List.countP_append]
  by_cases e : gi l i = -1 <;> simp [e]
theorem s22 (X : AX) (hX : XOK Try.prog X) : PSound Try.prog 22 (specF (ι := {l : List Int // l.length ≤ 1000000}) (fun x => [.rd 1 (irows x.1)]) fun x => retOf [I (fl x.1)]) := by
  refine psound_spec hX mixed Try.func22 rfl fun ⟨l, hl⟩ w0 G => ⟨by show 1 ≤ 18; decide, rfl, ?_⟩
  show AW ⟨Try.prog, X, 18, w0, .pure G⟩ _ _ _
  have hc : Cx.OK ⟨Try.prog, X, 18, w0, .pure G⟩ := ⟨hX, mixed⟩
  simp only at hl ⊢
  repeat' (first | (apply aw_seq_k; intro K hK) | (refine aw_run hc (by first | exact aw_nod | (intro _; rw [ordB_w hw]; kernel_rfl) | (intro _; rw [ordB_w0 hw0]; kernel_rfl) | (intro _; kernel_rfl)) ?_; simp [List.zipIdx, -getM, getM_hit, getM_miss, getM_none]; (repeat (simp (disch := first | omega | assumption | fail) only [if_pos, if_neg, wrap64]; try simp [List.zipIdx, -getM, getM_hit, getM_miss, getM_none])); try (repeat' (refine guardQ_split (fun h => ?_) (fun h => ?_) <;> simp at h <;> (simp [List.zipIdx, -getM, getM_hit, getM_miss, getM_none]; (repeat (simp (disch := first | omega | assumption | fail) only [if_pos, if_neg, wrap64]; try simp [List.zipIdx, -getM, getM_hit, getM_miss, getM_none])))))) | (refine aw_cond (b := _) (by exact rfl) (fun h => ?_) (fun h => ?_) <;> (try simp at h)) | (refine aw_block ?_) | (refine aw_skip ?_; simp only [thenQ, blockQ, if_true]) | (refine aw_exit ?_; simp [thenQ, blockQ]) | (refine aw_ret ?_; simp only [thenQ, blockQ]) | (refine aw_round ?_) | (refine hK _ ?_; clear hK) | (clear hK; refine hK _ ?_; clear hK) | (clear hK; clear hK; refine hK _ ?_; clear hK) | (clear hK; clear hK; clear hK; refine hK _ ?_; clear hK))
  refine aw_loopK (s0 := ?lps1) (m0 := ?lpm1) (ι := {i : Nat // i ≤ l.length}) [6, 7] (fun i => [(8, I i.1), (3, I (fl (l.take i.1)))]) (fun _ => []) (fun i => l.length - i.1) ⟨0, by omega⟩ ?lhs1 ?lhm1 ?_ ?_
  case lhs1 => first | (simp [keepS]; done) | (simp [keepS]; rfl)
  case lhm1 => first | rfl | (simp; done) | (simp; rfl)
  · simp only [List.take_zero, fl, List.countP_nil]
    exact le_of2 (by simp) (by simp [AVle, AV.under, AV.underL] <;> omega) (by simp [AOle, AO.under, AV.underL, AV.under] <;> omega)
  · rintro ⟨i, hi⟩
    simp only
    have hcl : fl (l.take i) ≤ i := Nat.le_trans List.countP_le_length (by rw [List.length_take]; omega)
    obtain ⟨c, hc'⟩ : ∃ c, c = fl (l.take i) := ⟨_, rfl⟩
    rcases Decidable.em (i < l.length) with hil | hil
    · have hilI : (i : Int) < (l.length : Int) := by omega
      have hg := irows_gi hil
      have hs := fl_succ hil
      rw [← hc'] at hs hcl ⊢
      obtain ⟨x, hx⟩ : ∃ x, x = gi l i := ⟨_, rfl⟩
      rw [← hx] at hg hs
      have hgE : ∀ h, (irows l)[i]'h = [I x] := fun h => by rw [List.getElem?_eq_getElem h] at hg; exact Option.some.inj hg
      rcases Decidable.em (x = -1) with he | he
      · rw [if_pos he] at hs
        subst he
        repeat' (first | (apply aw_seq_k; intro K hK) | (refine aw_run hc (by first | exact aw_nod | (intro _; rw [ordB_w hw]; kernel_rfl) | (intro _; rw [ordB_w0 hw0]; kernel_rfl) | (intro _; kernel_rfl)) ?_; simp [List.zipIdx, hilI, hg, hgE, -getM, getM_hit, getM_miss, getM_none]; (repeat (simp (disch := first | omega | assumption | fail) only [if_pos, if_neg, wrap64]; try simp [List.zipIdx, hilI, hg, hgE, -getM, getM_hit, getM_miss, getM_none])); try (repeat' (refine guardQ_split (fun h => ?_) (fun h => ?_) <;> simp at h <;> (simp [List.zipIdx, hilI, hg, hgE, -getM, getM_hit, getM_miss, getM_none]; (repeat (simp (disch := first | omega | assumption | fail) only [if_pos, if_neg, wrap64]; try simp [List.zipIdx, hilI, hg, hgE, -getM, getM_hit, getM_miss, getM_none])))))) | (refine aw_cond (b := _) (by exact rfl) (fun h => ?_) (fun h => ?_) <;> (try simp at h)) | (refine aw_block ?_) | (refine aw_skip ?_; simp only [thenQ, blockQ, if_true]) | (refine aw_exit ?_; simp [thenQ, blockQ]) | (refine aw_ret ?_; simp only [thenQ, blockQ]) | (refine aw_round ?_) | (refine hK _ ?_; clear hK) | (clear hK; refine hK _ ?_; clear hK) | (clear hK; clear hK; refine hK _ ?_; clear hK) | (clear hK; clear hK; clear hK; refine hK _ ?_; clear hK))
        refine ⟨i + 1, ?_, by omega, by omega⟩
        simp only [hs]
        exact le_of2 (by simp) (by simp [AVle, AV.under, AV.underL] <;> omega) (by simp [AOle, AO.under, AV.underL, AV.under] <;> omega)
      · rw [if_neg he] at hs
        repeat' (first | (apply aw_seq_k; intro K hK) | (refine aw_run hc (by first | exact aw_nod | (intro _; rw [ordB_w hw]; kernel_rfl) | (intro _; rw [ordB_w0 hw0]; kernel_rfl) | (intro _; kernel_rfl)) ?_; simp [List.zipIdx, hilI, hg, hgE, he, -getM, getM_hit, getM_miss, getM_none]; (repeat (simp (disch := first | omega | assumption | fail) only [if_pos, if_neg, wrap64]; try simp [List.zipIdx, hilI, hg, hgE, he, -getM, getM_hit, getM_miss, getM_none])); try (repeat' (refine guardQ_split (fun h => ?_) (fun h => ?_) <;> simp at h <;> (simp [List.zipIdx, hilI, hg, hgE, he, -getM, getM_hit, getM_miss, getM_none]; (repeat (simp (disch := first | omega | assumption | fail) only [if_pos, if_neg, wrap64]; try simp [List.zipIdx, hilI, hg, hgE, he, -getM, getM_hit, getM_miss, getM_none])))))) | (refine aw_cond (b := _) (by exact rfl) (fun h => ?_) (fun h => ?_) <;> (try simp at h)) | (refine aw_block ?_) | (refine aw_skip ?_; simp only [thenQ, blockQ, if_true]) | (refine aw_exit ?_; simp [thenQ, blockQ]) | (refine aw_ret ?_; simp only [thenQ, blockQ]) | (refine aw_round ?_) | (refine hK _ ?_; clear hK) | (clear hK; refine hK _ ?_; clear hK) | (clear hK; clear hK; refine hK _ ?_; clear hK) | (clear hK; clear hK; clear hK; refine hK _ ?_; clear hK))
        refine ⟨i + 1, ?_, by omega, by omega⟩
        simp only [hs]
        exact le_of2 (by simp) (by simp [AVle, AV.under, AV.underL] <;> omega) (by simp [AOle, AO.under, AV.underL, AV.under] <;> omega)
    · obtain rfl : i = l.length := by omega
      rw [List.take_length] at hc'
      rw [List.take_length, ← hc']
      repeat' (first | (apply aw_seq_k; intro K hK) | (refine aw_run hc (by first | exact aw_nod | (intro _; rw [ordB_w hw]; kernel_rfl) | (intro _; rw [ordB_w0 hw0]; kernel_rfl) | (intro _; kernel_rfl)) ?_; simp [List.zipIdx, -getM, getM_hit, getM_miss, getM_none]; (repeat (simp (disch := first | omega | assumption | fail) only [if_pos, if_neg, wrap64]; try simp [List.zipIdx, -getM, getM_hit, getM_miss, getM_none])); try (repeat' (refine guardQ_split (fun h => ?_) (fun h => ?_) <;> simp at h <;> (simp [List.zipIdx, -getM, getM_hit, getM_miss, getM_none]; (repeat (simp (disch := first | omega | assumption | fail) only [if_pos, if_neg, wrap64]; try simp [List.zipIdx, -getM, getM_hit, getM_miss, getM_none])))))) | (refine aw_cond (b := _) (by exact rfl) (fun h => ?_) (fun h => ?_) <;> (try simp at h)) | (refine aw_block ?_) | (refine aw_skip ?_; simp only [thenQ, blockQ, if_true]) | (refine aw_exit ?_; simp [thenQ, blockQ]) | (refine aw_ret ?_; simp only [thenQ, blockQ]) | (refine aw_round ?_) | (refine hK _ ?_; clear hK) | (clear hK; refine hK _ ?_; clear hK) | (clear hK; clear hK; refine hK _ ?_; clear hK) | (clear hK; clear hK; clear hK; refine hK _ ?_; clear hK))
      refine ⟨by simp, ?_⟩
      simp [leaves_iff, Try.f22, hc']
      try (first | omega | (refine decide_eq_decide.2 ?_; omega) | (refine decide_eq_false ?_; omega) | (refine decide_eq_true ?_; omega))

theorem rows_flat {l : List Int} : (retOf [AV.ow 1 (irows l)]).flat := by
  intro e he a ha
  obtain ⟨x, _, rfl⟩ := List.mem_map.1 he
  simp at ha; subst ha; trivial
theorem rowsI_flat {l : List Int} {n : Int} : (retOf [AV.ow 1 (irows l), I n]).flat := by
  intro a ha
  simp at ha
  rcases ha with rfl | rfl
  · exact rows_flat (l := l)
  · trivial

noncomputable def F12 : List AV → Option AV := specF (ι := Int × Int) (fun x => [I x.1, I x.2]) fun x => retOf [I (dstR x.1 x.2).1, I (dstR x.1 x.2).2]
noncomputable def F14 : List AV → Option AV := specF (ι := Int × Int) (fun x => [I x.1, I x.2]) fun x => retOf [B (decide (0 ≤ x.1 ∧ x.1 ≤ x.2))]
noncomputable def F23 : List AV → Option AV := specF (ι := Int) (fun x => [I x]) fun x => retOf [B (decide (cnt x))]
noncomputable def F24 : List AV → Option AV := specF (ι := Int × Int) (fun x => [I x.1, I x.2]) fun x => retOf [I (errS x.1 x.2)]
noncomputable def F27 : List AV → Option AV := specF (ι := List Int × Int) (fun x => [.rd 1 (irows x.1), I x.2]) fun x => retOf [I (errS x.1.length x.2)]
noncomputable def F21 : List AV → Option AV := specF (ι := List Int) (fun x => [.rd 1 (irows x)]) fun x => retOf [I (estR x).1, I (estR x).2]
noncomputable def F16 : List AV → Option AV := specF (ι := List Int × Int) (fun x => [.rd 1 (irows x.1), I x.2]) fun x => retOf [.ow 1 (irows (refR x.1 x.2).1), I (refR x.1 x.2).2]
noncomputable def F18 : List AV → Option AV := specF (ι := {x : List Int × List Int // x.1.length ≤ 1000000 ∧ x.2.length ≤ 1000000}) (fun x => [.rd 1 (irows x.1.1), .rd 1 (irows x.1.2)]) fun x => retOf [B (x.1.1 = x.1.2)]
noncomputable def F19 : List AV → Option AV := specF (ι := List Int × Int × Int) (fun x => [.rd 1 (irows x.1), I x.2.1, I x.2.2]) fun x => retOf [.ow 1 (irows (lisR x.1 x.2.1 x.2.2).1), I (lisR x.1 x.2.1 x.2.2).2]
noncomputable def F22 : List AV → Option AV := specF (ι := {l : List Int // l.length ≤ 1000000}) (fun x => [.rd 1 (irows x.1)]) fun x => retOf [I (fl x.1)]

theorem cfII (R : Int → Int → AV) (a b : Int) (M : Nat → AO) (n : Nat) (ho : (openRet n (R a b)).2.2 ≤ n + 16) : callP (specF (ι := Int × Int) (fun x => [I x.1, I x.2]) fun x => R x.1 x.2) [I a, I b] M n = some ((openRet n (R a b)).1, (openRet n (R a b)).2.1) :=
  callP_spec (A := fun x : Int × Int => [I x.1, I x.2]) (R := fun x => R x.1 x.2) (a, b) rfl (by
    rintro ⟨j, c⟩ e
    simp at e
    obtain ⟨rfl, rfl⟩ := e; rfl) ho
theorem cf24 (a b : Int) (M : Nat → AO) (n : Nat) : callP F24 [I a, I b] M n = some (I (errS a b), []) := cfII (fun a b => retOf [I (errS a b)]) a b M n (by simp)
theorem cf14 (a b : Int) (M : Nat → AO) (n : Nat) : callP F14 [I a, I b] M n = some (B (decide (0 ≤ a ∧ a ≤ b)), []) := cfII (fun a b => retOf [B (decide (0 ≤ a ∧ a ≤ b))]) a b M n (by simp)
theorem cf12 (a b : Int) (M : Nat → AO) (n : Nat) : callP F12 [I a, I b] M n = some (.tup [I (dstR a b).1, I (dstR a b).2], []) := (cfII (fun a b => retOf [I (dstR a b).1, I (dstR a b).2]) a b M n (by simp)).trans (by simp)
theorem cf23 (x : Int) (M : Nat → AO) (n : Nat) : callP F23 [I x] M n = some (B (decide (cnt x)), []) :=
  callP_spec (A := fun x : Int => [I x]) (R := fun x => retOf [B (decide (cnt x))]) x rfl (by
    intro j e
    simp at e; subst e; rfl) (by simp)
theorem cf27 (l : List Int) (s : Int) (M : Nat → AO) (n : Nat) : callP F27 [.rd 1 (irows l), I s] M n = some (I (errS l.length s), []) :=
  callP_spec (A := fun x : List Int × Int => [.rd 1 (irows x.1), I x.2]) (R := fun x => retOf [I (errS x.1.length x.2)]) (l, s) (by simp) (by
    rintro ⟨j, c⟩ e
    simp [irows_inj] at e
    obtain ⟨rfl, rfl⟩ := e; rfl) (by simp)
theorem cf31 (l : List Int) (x : Int) (M : Nat → AO) (n : Nat) (h : l.length ≤ bigN) : callP F31 [.rd 1 (irows l), I x] M n = some (I (idxI l x), []) :=
  callP_spec (ι := {x : List Int × Int // x.1.length ≤ bigN}) (A := fun x => [.rd 1 (irows x.1.1), I x.1.2]) (R := fun x => retOf [I (idxI x.1.1 x.1.2)]) ⟨(l, x), h⟩ (by simp) (by
    rintro ⟨⟨a, b⟩, h⟩ e
    simp [irows_inj] at e
    obtain ⟨rfl, rfl⟩ := e; rfl) (by simp)

theorem F26_flat {a0 : AV} {avs : List AV} {r o : AV} (h : F26 a0 avs = some (r, o)) : r.flat ∧ o.flatO := by
  obtain ⟨⟨⟨c, es, p⟩, h1, hp⟩, _, _, h3, h4⟩ := specM_some h
  subst h3 h4
  refine ⟨by intro a ha; simp at ha, fun a ha => ?_⟩
  simp only [List.mem_cons, List.not_mem_nil, or_false] at ha
  rcases ha with rfl | rfl
  · trivial
  · exact mset_pl trivial hp
theorem ow_flat {l : List Int} : (AV.ow 1 (irows l)).flat1 := by
  intro e he a ha
  obtain ⟨x, _, rfl⟩ := List.mem_map.1 he
  simp at ha; subst ha; trivial
theorem F34_flat {a0 : AV} {avs : List AV} {r o : AV} (h : F34 a0 avs = some (r, o)) : r.flat ∧ o.flatO := by
  obtain ⟨i, _, _, h3, h4⟩ := specM_some h
  subst h3 h4
  refine ⟨by intro a ha; simp at ha, fun a ha => ?_⟩
  simp only [List.mem_cons, List.not_mem_nil, or_false] at ha
  rcases ha with rfl | rfl | rfl
  · exact ow_flat
  · exact ow_flat
  · trivial
theorem F35_flat {a0 : AV} {avs : List AV} {r o : AV} (h : F35 a0 avs = some (r, o)) : r.flat ∧ o.flatO := by
  obtain ⟨i, _, _, h3, h4⟩ := specM_some h
  subst h3 h4
  refine ⟨trivial, fun a ha => ?_⟩
  simp only [List.mem_cons, List.not_mem_nil, or_false] at ha
  rcases ha with rfl | rfl | rfl
  · exact ow_flat
  · exact ow_flat
  · trivial
theorem F32_flat {a0 : AV} {avs : List AV} {r o : AV} (h : F32 a0 avs = some (r, o)) : r.flat ∧ o.flatO := by
  obtain ⟨i, _, _, h3, h4⟩ := specM_some h
  subst h3 h4
  exact ⟨rows_flat, trivial⟩
theorem ccs_flat {a b c : List Int} {n : Int} : (retOf [AV.agg (ccs a b c n)]).flat := by
  intro x hx
  simp only [ccs, List.mem_cons, List.not_mem_nil, or_false] at hx
  rcases hx with rfl | rfl | rfl | rfl
  · exact ow_flat
  · exact ow_flat
  · exact ow_flat
  · trivial
theorem F37_flat {a0 : AV} {avs : List AV} {r o : AV} (h : F37 a0 avs = some (r, o)) : r.flat ∧ o.flatO := by
  obtain ⟨i, _, _, h3, h4⟩ := specM_some h
  subst h3 h4
  exact ⟨ccs_flat, trivial⟩
theorem F38_flat {a0 : AV} {avs : List AV} {r o : AV} (h : F38 a0 avs = some (r, o)) : r.flat ∧ o.flatO := by
  obtain ⟨i, _, _, h3, h4⟩ := specM_some h
  subst h3 h4
  exact ⟨ccs_flat, trivial⟩

noncomputable def T0 : AX := AX.start wT
theorem t0 : XOK Try.prog T0 := xok_start _ _
noncomputable def T12 : AX := T0.add 12 (callP F12)
theorem t12 : XOK Try.prog T12 := xok_spec t0 (s12 T0 t0) (fun _ => by intro a ha; simp at ha; rcases ha with rfl | rfl <;> trivial) Try.func12 (by kernel_rfl)
noncomputable def T23 : AX := T12.add 23 (callP F23)
theorem t23 : XOK Try.prog T23 := xok_spec t12 (s23 T12 t12) (fun _ => trivial) Try.func23 (by kernel_rfl)
noncomputable def T13 : AX := T23.add 13 (callP F12)
theorem t13 : XOK Try.prog T13 := xok_spec t23 (s13 T23 t23 cf23) (fun _ => by intro a ha; simp at ha; rcases ha with rfl | rfl <;> trivial) Try.func13 (by kernel_rfl)
noncomputable def T14 : AX := T13.add 14 (callP F14)
theorem t14 : XOK Try.prog T14 := xok_spec t13 (s14 T13 t13) (fun _ => trivial) Try.func14 (by kernel_rfl)
noncomputable def T15 : AX := T14.add 15 (callP F14)
theorem t15 : XOK Try.prog T15 := xok_spec t14 (s15 T14 t14) (fun _ => trivial) Try.func15 (by kernel_rfl)
noncomputable def T24 : AX := T15.add 24 (callP F24)
theorem t24 : XOK Try.prog T24 := xok_spec t15 (s24 T15 t15) (fun _ => trivial) Try.func24 (by kernel_rfl)
noncomputable def T27 : AX := T24.add 27 (callP F27)
theorem t27 : XOK Try.prog T27 := xok_spec t24 (s27 T24 t24) (fun _ => trivial) Try.func27 (by kernel_rfl)
noncomputable def T31 : AX := T27.add 31 (callP F31)
theorem t31 : XOK Try.prog T31 := xok_spec t27 (s31 T27 t27) (fun _ => trivial) Try.func31 (by kernel_rfl)
noncomputable def T30 : AX := T31.add 30 (callP F30)
theorem t30 : XOK Try.prog T30 := xok_spec t31 (s30 T31 t31 cf31) (fun _ => trivial) Try.func30 (by kernel_rfl)
noncomputable def T28 : AX := T30.add 28 (callP F28)
theorem t28 : XOK Try.prog T28 := xok_spec t30 (s28 T30 t30) (fun _ => trivial) Try.func28 (by kernel_rfl)
noncomputable def T29 : AX := T28.add 29 (callP F29)
theorem t29 : XOK Try.prog T29 := xok_spec t28 (s29 T28 t28) (fun _ => trivial) Try.func29 (by kernel_rfl)
noncomputable def T25 : AX := T29.add 25 (callP F25)
theorem t25 : XOK Try.prog T25 := xok_spec t29 (s25 T29 t29) (fun _ => trivial) Try.func25 (by kernel_rfl)
noncomputable def T26 : AX := T25.add 26 (callM false one1 F26)
theorem t26 : XOK Try.prog T26 := xok_putM t25 (by kernel_rfl) (.inl ⟨(s26 T25 t25 (AX.W.start _)).callM fun _ _ _ _ h => F26_flat h, body_ok _ Try.func26 (by kernel_rfl)⟩) fun _ _ _ _ h => callM_keys h
noncomputable def T34 : AX := T26.add 34 (callM false one1 F34)
theorem t34 : XOK Try.prog T34 := xok_putM t26 (by kernel_rfl) (.inl ⟨(s34 T26 t26 (AX.W.start _)).callM fun _ _ _ _ h => F34_flat h, body_ok _ Try.func34 (by kernel_rfl)⟩) fun _ _ _ _ h => callM_keys h
noncomputable def T35 : AX := T34.add 35 (callM false one1 F35)
theorem t35 : XOK Try.prog T35 := xok_putM t34 (by kernel_rfl) (.inl ⟨(s35 T34 t34 (AX.W.start _)).callM fun _ _ _ _ h => F35_flat h, body_ok _ Try.func35 (by kernel_rfl)⟩) fun _ _ _ _ h => callM_keys h
noncomputable def T32 : AX := T35.add 32 (callM false one1 F32)
theorem t32 : XOK Try.prog T32 := xok_putM t35 (by kernel_rfl) (.inl ⟨(s32 T35 t35 (AX.W.start _)).callM fun _ _ _ _ h => F32_flat h, body_ok _ Try.func32 (by kernel_rfl)⟩) fun _ _ _ _ h => callM_keys h
noncomputable def T33 : AX := T32.add 33 (callP F33)
theorem t33 : XOK Try.prog T33 := xok_spec t32 (s33 T32 t32) (fun _ => rows_flat) Try.func33 (by kernel_rfl)
noncomputable def T36 : AX := T33.add 36 (callP F36)
theorem t36 : XOK Try.prog T36 := xok_spec t33 (s36 T33 t33) (fun _ => rows_flat) Try.func36 (by kernel_rfl)
noncomputable def T37 : AX := T36.add 37 (callM false one1 F37)
theorem t37 : XOK Try.prog T37 := xok_putM t36 (by kernel_rfl) (.inl ⟨(s37 T36 t36 (AX.W.start _) rfl).callM fun _ _ _ _ h => F37_flat h, body_ok _ Try.func37 (by kernel_rfl)⟩) fun _ _ _ _ h => callM_keys h
noncomputable def T38 : AX := T37.add 38 (callM false one1 F38)
theorem t38 : XOK Try.prog T38 := xok_putM t37 (by kernel_rfl) (.inl ⟨(s38 T37 t37 (AX.W.start _)).callM fun _ _ _ _ h => F38_flat h, body_ok _ Try.func38 (by kernel_rfl)⟩) fun _ _ _ _ h => callM_keys h
noncomputable def T40 : AX := T38.add 40 (callD F40)
theorem t40 : XOK Try.prog T40 := xok_add t38 (.inl ⟨s40.callD, body_ok _ Try.func40 (by kernel_rfl)⟩) fun _ _ _ _ h => callD_keys h
noncomputable def T39 : AX := T40.add 39 (callD F39)
theorem t39 : XOK Try.prog T39 := xok_add t40 (.inl ⟨s39.callD, body_ok _ Try.func39 (by kernel_rfl)⟩) fun _ _ _ _ h => callD_keys h
noncomputable def T21 : AX := T39.add 21 (callP F21)
theorem t21 : XOK Try.prog T21 := xok_spec t39 (s21 T39 t39 (AX.W.start _) rfl rfl) (fun _ => by intro a ha; simp at ha; rcases ha with rfl | rfl <;> trivial) Try.func21 (by kernel_rfl)
noncomputable def T16 : AX := T21.add 16 (callP F16)
theorem t16 : XOK Try.prog T16 := xok_spec t21 (s16 T21 t21 (AX.W.start _) cf24 rfl rfl) (fun _ => rowsI_flat) Try.func16 (by kernel_rfl)
noncomputable def T17 : AX := T16.add 17 (callP F16)
theorem t17 : XOK Try.prog T17 := xok_spec t16 (s17 T16 t16 (AX.W.start _) cf27 rfl rfl) (fun _ => rowsI_flat) Try.func17 (by kernel_rfl)
noncomputable def T18 : AX := T17.add 18 (callP F18)
theorem t18 : XOK Try.prog T18 := xok_spec t17 (s18 T17 t17) (fun _ => trivial) Try.func18 (by kernel_rfl)
noncomputable def T19 : AX := T18.add 19 (callP F19)
theorem t19 : XOK Try.prog T19 := xok_spec t18 (s19 T18 t18 (AX.W.start _) cf24 rfl rfl cf14 rfl rfl rfl rfl rfl rfl) (fun _ => rowsI_flat) Try.func19 (by kernel_rfl)
noncomputable def T20 : AX := T19.add 20 (callP F19)
theorem t20 : XOK Try.prog T20 := xok_spec t19 (s20 T19 t19 (AX.W.start _) cf27 rfl rfl cf14 rfl rfl rfl) (fun _ => rowsI_flat) Try.func20 (by kernel_rfl)
noncomputable def T22 : AX := T20.add 22 (callP F22)
theorem t22 : XOK Try.prog T22 := xok_spec t20 (s22 T20 t20) (fun _ => trivial) Try.func22 (by kernel_rfl)

structure LawX (X : AX) : Prop where
  h12 : ∀ a b M n, X.call 12 [I a, I b] M n = some (.tup [I (dstR a b).1, I (dstR a b).2], [])
  h13 : ∀ a b M n, X.call 13 [I a, I b] M n = some (.tup [I (dstR a b).1, I (dstR a b).2], [])
  h14 : ∀ a b M n, X.call 14 [I a, I b] M n = some (B (decide (0 ≤ a ∧ a ≤ b)), [])
  h15 : ∀ a b M n, X.call 15 [I a, I b] M n = some (B (decide (0 ≤ a ∧ a ≤ b)), [])
  h16 : X.call 16 = callP F16
  h17 : X.call 17 = callP F16
  h18 : X.call 18 = callP F18
  h19 : X.call 19 = callP F19
  h20 : X.call 20 = callP F19
  h21 : X.call 21 = callP F21
  h22 : X.call 22 = callP F22
  w : X.W wT
  ok : XOK Try.prog X
theorem lx22 : LawX T22 := ⟨cf12, cf12, cf14, cf14, rfl, rfl, rfl, rfl, rfl, rfl, rfl, AX.W.start _, t22⟩

theorem F16_at (l : List Int) (s : Int) : F16 [.rd 1 (irows l), I s] = some (.tup [.ow 1 (irows (refR l s).1), I (refR l s).2]) :=
  specF_eq (A := fun x : List Int × Int => [.rd 1 (irows x.1), I x.2]) (R := fun x => retOf [.ow 1 (irows (refR x.1 x.2).1), I (refR x.1 x.2).2]) (l, s) (by
    rintro ⟨j, c⟩ e
    simp [irows_inj] at e
    obtain ⟨rfl, rfl⟩ := e; rfl)
theorem F19_at (l : List Int) (s b : Int) : F19 [.rd 1 (irows l), I s, I b] = some (.tup [.ow 1 (irows (lisR l s b).1), I (lisR l s b).2]) :=
  specF_eq (A := fun x : List Int × Int × Int => [.rd 1 (irows x.1), I x.2.1, I x.2.2]) (R := fun x => retOf [.ow 1 (irows (lisR x.1 x.2.1 x.2.2).1), I (lisR x.1 x.2.1 x.2.2).2]) (l, s, b) (by
    rintro ⟨j, c, d⟩ e
    simp [irows_inj] at e
    obtain ⟨rfl, rfl, rfl⟩ := e; rfl)
theorem F21_at (l : List Int) : F21 [.rd 1 (irows l)] = some (.tup [I (estR l).1, I (estR l).2]) :=
  specF_eq (A := fun x : List Int => [.rd 1 (irows x)]) (R := fun x => retOf [I (estR x).1, I (estR x).2]) l (by
    rintro j e
    simp [irows_inj] at e
    subst e; rfl)
theorem F22_at (l : List Int) (h : l.length ≤ 1000000) : F22 [.rd 1 (irows l)] = some (I (fl l)) :=
  specF_eq (ι := {l : List Int // l.length ≤ 1000000}) (A := fun x => [.rd 1 (irows x.1)]) (R := fun x => retOf [I (fl x.1)]) ⟨l, h⟩ (by
    rintro ⟨j, h⟩ e
    simp [irows_inj] at e
    subst e; rfl)
theorem F18_at (a b : List Int) (h : a.length ≤ 1000000 ∧ b.length ≤ 1000000) : F18 [.rd 1 (irows a), .rd 1 (irows b)] = some (B (a = b)) :=
  specF_eq (ι := {x : List Int × List Int // x.1.length ≤ 1000000 ∧ x.2.length ≤ 1000000}) (A := fun x => [.rd 1 (irows x.1.1), .rd 1 (irows x.1.2)]) (R := fun x => retOf [B (x.1.1 = x.1.2)]) ⟨(a, b), h⟩ (by
    rintro ⟨⟨a, b⟩, h⟩ e
    simp [irows_inj] at e
    obtain ⟨rfl, rfl⟩ := e; rfl)

theorem a0 : refR [1, 2, 3, 1, 4, 1] 3 = ([-2, -2, -2, -1, -2, 0], 0) := by decide +kernel
theorem a1 : lisR [1, 2, 3, 1, 2, 1] 2 1 = ([-2, -2, -2, 0, 0, -1], 0) := by decide +kernel
theorem sort_ex : sortL [2, 2, 2, 2, 90, 2, 2, 2] = [2, 2, 2, 2, 2, 2, 2, 90] :=
  List.Perm.eq_of_pairwise (le := fun a b : Int => a ≤ b) (fun a b _ _ h1 h2 => Int.le_antisymm h1 h2) (sortL_sorted _) (by decide) ((sortL_perm _).trans (by decide))
theorem a2 : estR [2, 2, 2, 2, 90, 2, 2, 2] = (2, 0) := by
  unfold estR
  rw [sort_ex]
  decide +kernel
theorem a3 : dstR 3 10 = (7, 0) := by decide +kernel
theorem F18_l {a b : List (List AV)} {la lb : List Int} (ha : a = irows la) (hb : b = irows lb) (h : la.length ≤ 1000000 ∧ lb.length ≤ 1000000) : F18 [.rd 1 a, .rd 1 b] = some (B (la = lb)) := by rw [ha, hb]; exact F18_at _ _ h

set_option maxHeartbeats 1000000 in
set_option maxRecDepth 20000 in
theorem s11 (X : AX) (L : LawX X) : PSound Try.prog 11 (specF (ι := Unit) (fun _ => []) fun _ => retOf [B true]) := by
  have hX := L.ok
  have hw := L.w
  refine psound_spec hX mixed Try.func11 rfl fun u w0 G => ⟨by show 0 ≤ 59; decide, rfl, ?_⟩
  show AW ⟨Try.prog, X, 59, w0, .pure G⟩ _ _ _
  have hc : Cx.OK ⟨Try.prog, X, 59, w0, .pure G⟩ := ⟨hX, mixed⟩
  have h16 := F16_at [1, 2, 3, 1, 4, 1] 3
  have h19 := F19_at [1, 2, 3, 1, 2, 1] 2 1
  have h21 := F21_at [2, 2, 2, 2, 90, 2, 2, 2]
  rw [a0] at h16
  rw [a1] at h19
  rw [a2] at h21
  have q1 : F18 [.rd 1 (irows [-2, -2, -2, -1, -2, 0]), .rd 1 (irows [-2, -2, -2, -1, -2, 0])] = some (B true) := (F18_at _ _ (by decide)).trans (by simp)
  have q2 : F18 [.rd 1 (irows [-2, -2, -2, 0, 0, -1]), .rd 1 (irows [-2, -2, -2, 0, 0, -1])] = some (B true) := (F18_at _ _ (by decide)).trans (by simp)
  simp only [irows, List.map] at h16 h19 h21 q1 q2
  repeat' (first | (apply aw_seq_k; intro K hK) | (refine aw_run hc (by first | exact aw_nod | (intro _; rw [ordB_w hw]; kernel_rfl) | (intro _; rw [ordB_w0 hw0]; kernel_rfl) | (intro _; kernel_rfl)) ?_; simp [List.zipIdx, L.h16, L.h19, L.h21, L.h18, L.h12, L.h14, h16, h19, h21, q1, q2, a3, -getM, getM_hit, getM_miss, getM_none]; (repeat (simp (disch := first | omega | assumption | fail) only [if_pos, if_neg, wrap64]; try simp [List.zipIdx, L.h16, L.h19, L.h21, L.h18, L.h12, L.h14, h16, h19, h21, q1, q2, a3, -getM, getM_hit, getM_miss, getM_none])); try (repeat' (refine guardQ_split (fun h => ?_) (fun h => ?_) <;> simp at h <;> (simp [List.zipIdx, L.h16, L.h19, L.h21, L.h18, L.h12, L.h14, h16, h19, h21, q1, q2, a3, -getM, getM_hit, getM_miss, getM_none]; (repeat (simp (disch := first | omega | assumption | fail) only [if_pos, if_neg, wrap64]; try simp [List.zipIdx, L.h16, L.h19, L.h21, L.h18, L.h12, L.h14, h16, h19, h21, q1, q2, a3, -getM, getM_hit, getM_miss, getM_none])))))) | (refine aw_cond (b := _) (by exact rfl) (fun h => ?_) (fun h => ?_) <;> (try simp at h)) | (refine aw_block ?_) | (refine aw_skip ?_; simp only [thenQ, blockQ, if_true]) | (refine aw_exit ?_; simp [thenQ, blockQ]) | (refine aw_ret ?_; simp only [thenQ, blockQ]) | (refine aw_round ?_) | (refine hK _ ?_; clear hK) | (clear hK; refine hK _ ?_; clear hK) | (clear hK; clear hK; refine hK _ ?_; clear hK) | (clear hK; clear hK; clear hK; refine hK _ ?_; clear hK))
  refine ⟨by simp, ?_⟩
  simp [leaves_iff, Try.f11]
  try (first | omega | (refine decide_eq_decide.2 ?_; omega) | (refine decide_eq_false ?_; omega) | (refine decide_eq_true ?_; omega))
noncomputable def F11 : List AV → Option AV := specF (ι := Unit) (fun _ => []) fun _ => retOf [B true]
theorem cf11 (M : Nat → AO) (n : Nat) : callP F11 [] M n = some (B true, []) := callP_spec (ι := Unit) (A := fun _ => []) (R := fun _ => retOf [B true]) () rfl (fun _ _ => rfl) (by simp)
noncomputable def T11 : AX := T22.add 11 (callP F11)
theorem t11 : XOK Try.prog T11 := xok_spec t22 (s11 T22 lx22) (fun _ => trivial) Try.func11 (by kernel_rfl)
theorem lx11 : LawX T11 := ⟨cf12, cf12, cf14, cf14, rfl, rfl, rfl, rfl, rfl, rfl, rfl, AX.W.start _, t11⟩
end Go.AM
