/- Rmap: the table of the functions; the laws at the table. -/
import Derived.Test.YtallcianhjejiaaRm16
import Derived.Test.YtallcianhjejiaaRm17c
set_option linter.all false

namespace Go.AM
open Go Go.Proofs

theorem prow_flat {l : List Mp} : (AV.ow 2 (prows l)).flat := by
  intro e he a ha
  obtain ⟨x, _, rfl⟩ := List.mem_map.1 he
  simp at ha
  rcases ha with rfl | rfl <;> trivial
theorem prowI_flat {l : List Mp} {n : Int} : (retOf [AV.ow 2 (prows l), I n]).flat := by
  intro a ha
  simp at ha
  rcases ha with rfl | rfl
  · exact prow_flat (l := l)
  · trivial
theorem IB_flat {n : Int} {b : Bool} : (retOf [I n, B b]).flat := by
  intro a ha
  simp at ha
  rcases ha with rfl | rfl <;> trivial

noncomputable def F22 : List AV → Option AV := specF (ι := Mp) (fun x => [Mv x]) fun x => retOf [B (decide (valM x))]
noncomputable def F23 : List AV → Option AV := specF (ι := Mp × Mp) (fun x => [Mv x.1, Mv x.2]) fun x => retOf [B (decide (ltM x.1 x.2))]
noncomputable def F34 : List AV → Option AV := specF (ι := Int) (fun x => [I x]) fun x => retOf [B (decide (0 ≤ x ∧ x < 8))]
noncomputable def F46 : List AV → Option AV := specF (ι := Int) (fun x => [I x]) fun _ => retOf [B false]
noncomputable def F40 : List AV → Option AV := specF (ι := Int × Int) (fun x => [I x.1, I x.2]) fun x => retOf [I (cmpI x.1 x.2)]
noncomputable def F27 : List AV → Option AV := specF (ι := Mp × Mp) (fun x => [Mv x.1, Mv x.2]) fun x => retOf [I (cmpM x.1 x.2)]
noncomputable def F25 : List AV → Option AV := specF (ι := Mp) (fun x => [Mv x]) fun x => retOf [B (!decide (valM x))]
noncomputable def F33 : List AV → Option AV := specF (ι := Mp × Int) (fun x => [Mv x.1, .rp [I x.2]]) fun x => retOf [B (decide (x.1.1 = x.2))]

theorem cf22 (a b : Int) (M : Nat → AO) (n : Nat) : callP F22 [.agg [I a, I b]] M n = some (B (decide (valM (a, b))), []) :=
  callP_spec (A := fun x : Mp => [Mv x]) (R := fun x => retOf [B (decide (valM x))]) (a, b) rfl (by
    intro j e
    simp [Mv_inj] at e; subst e; rfl) (by simp)
theorem cf25 (a b : Int) (M : Nat → AO) (n : Nat) : callP F25 [.agg [I a, I b]] M n = some (B (!decide (valM (a, b))), []) :=
  callP_spec (A := fun x : Mp => [Mv x]) (R := fun x => retOf [B (!decide (valM x))]) (a, b) rfl (by
    intro j e
    simp [Mv_inj] at e; subst e; rfl) (by simp)
theorem cf23 (a b c d : Int) (M : Nat → AO) (n : Nat) : callP F23 [.agg [I a, I b], .agg [I c, I d]] M n = some (B (decide (ltM (a, b) (c, d))), []) :=
  callP_spec (A := fun x : Mp × Mp => [Mv x.1, Mv x.2]) (R := fun x => retOf [B (decide (ltM x.1 x.2))]) ((a, b), (c, d)) rfl (by
    rintro ⟨j, k⟩ e
    simp [Mv_inj] at e; obtain ⟨rfl, rfl⟩ := e; rfl) (by simp)
theorem cf27 (a b c d : Int) (M : Nat → AO) (n : Nat) : callP F27 [.agg [I a, I b], .agg [I c, I d]] M n = some (I (cmpM (a, b) (c, d)), []) :=
  callP_spec (A := fun x : Mp × Mp => [Mv x.1, Mv x.2]) (R := fun x => retOf [I (cmpM x.1 x.2)]) ((a, b), (c, d)) rfl (by
    rintro ⟨j, k⟩ e
    simp [Mv_inj] at e; obtain ⟨rfl, rfl⟩ := e; rfl) (by simp)
theorem cf34 (a : Int) (M : Nat → AO) (n : Nat) : callP F34 [I a] M n = some (B (decide (0 ≤ a ∧ a < 8)), []) :=
  callP_spec (A := fun x : Int => [I x]) (R := fun x => retOf [B (decide (0 ≤ x ∧ x < 8))]) a rfl (by
    intro j e
    simp at e; subst e; rfl) (by simp)
theorem cf46 (a : Int) (M : Nat → AO) (n : Nat) : callP F46 [I a] M n = some (B false, []) :=
  callP_spec (A := fun x : Int => [I x]) (R := fun _ => retOf [B false]) a rfl (fun _ _ => rfl) (by simp)
theorem cf40 (a b : Int) (M : Nat → AO) (n : Nat) : callP F40 [I a, I b] M n = some (I (cmpI a b), []) :=
  callP_spec (A := fun x : Int × Int => [I x.1, I x.2]) (R := fun x => retOf [I (cmpI x.1 x.2)]) (a, b) rfl (by
    rintro ⟨j, k⟩ e
    simp at e; obtain ⟨rfl, rfl⟩ := e; rfl) (by simp)
theorem cf33 (a b s : Int) (M : Nat → AO) (n : Nat) : callP F33 [.agg [I a, I b], .rp [I s]] M n = some (B (decide (a = s)), []) :=
  callP_spec (A := fun x : Mp × Int => [Mv x.1, .rp [I x.2]]) (R := fun x => retOf [B (decide (x.1.1 = x.2))]) ((a, b), s) (by simp [Mv]) (by
    rintro ⟨j, k⟩ e
    simp [Mv_inj] at e; obtain ⟨rfl, rfl⟩ := e; rfl) (by simp)
theorem cf9 (l : List Mp) (h : l.length ≤ 1000000) (M : Nat → AO) (n : Nat) : callP F9 [.rd 2 (prows l)] M n = some (I (chk l), []) :=
  callP_spec (ι := {l : List Mp // l.length ≤ 1000000}) (A := fun x => [.rd 2 (prows x.1)]) (R := fun x => retOf [I (chk x.1)]) ⟨l, h⟩ (by simp) (by
    rintro ⟨k, h⟩ e
    simp [prows_inj] at e; subst e; rfl) (by simp)

theorem F30_flat {a0 : AV} {avs : List AV} {r o : AV} (h : F30 a0 avs = some (r, o)) : r.flat ∧ o.flatO := by
  obtain ⟨i, _, _, h3, h4⟩ := specM_some h
  subst h3 h4
  exact ⟨prow_flat, trivial⟩
theorem F37_flat {a0 : AV} {avs : List AV} {r o : AV} (h : F37 a0 avs = some (r, o)) : r.flat ∧ o.flatO := by
  obtain ⟨i, _, _, h3, h4⟩ := specM_some h
  subst h3 h4
  exact ⟨prow_flat, trivial⟩
theorem F32_flat {a0 : AV} {avs : List AV} {r o : AV} (h : F32 a0 avs = some (r, o)) : r.flat ∧ o.flatO := by
  obtain ⟨i, _, _, h3, h4⟩ := specM_some h
  subst h3 h4
  exact ⟨prow_flat, trivial⟩

noncomputable def T0 : AX := (AX.start wT).eqAt 24
theorem t0 : XOK Try.prog T0 := xok_eq (xok_start _ _) eq24
theorem w0T : T0.W wT := ⟨rfl, rfl⟩
noncomputable def T22 : AX := T0.add 22 (callP F22)
theorem t22 : XOK Try.prog T22 := xok_spec t0 (s22 T0 t0) (fun _ => trivial) Try.func22 (by kernel_rfl)
noncomputable def T23 : AX := T22.add 23 (callP F23)
theorem t23 : XOK Try.prog T23 := xok_spec t22 (s23 T22 t22) (fun _ => trivial) Try.func23 (by kernel_rfl)
noncomputable def T34 : AX := T23.add 34 (callP F34)
theorem t34 : XOK Try.prog T34 := xok_spec t23 (s34 T23 t23) (fun _ => trivial) Try.func34 (by kernel_rfl)
noncomputable def T46 : AX := T34.add 46 (callP F46)
theorem t46 : XOK Try.prog T46 := xok_spec t34 (s46 T34 t34) (fun _ => trivial) Try.func46 (by kernel_rfl)
noncomputable def T40 : AX := T46.add 40 (callP F40)
theorem t40 : XOK Try.prog T40 := xok_spec t46 (s40 T46 t46 cf46) (fun _ => trivial) Try.func40 (by kernel_rfl)
noncomputable def T39 : AX := T40.add 39 (callP F39)
theorem t39 : XOK Try.prog T39 := xok_spec t40 (s39 T40 t40) (fun _ => trivial) Try.func39 (by kernel_rfl)
noncomputable def T27 : AX := T39.add 27 (callP F27)
theorem t27 : XOK Try.prog T27 := xok_spec t39 (s27 T39 t39 w0T cf40 rfl) (fun _ => trivial) Try.func27 (by kernel_rfl)
noncomputable def T26 : AX := T27.add 26 (callP F22)
theorem t26 : XOK Try.prog T26 := xok_spec t27 (s26 T27 t27 cf34) (fun _ => trivial) Try.func26 (by kernel_rfl)
noncomputable def T25 : AX := T26.add 25 (callP F25)
theorem t25 : XOK Try.prog T25 := xok_spec t26 (s25 T26 t26 cf22) (fun _ => trivial) Try.func25 (by kernel_rfl)
noncomputable def T33 : AX := T25.add 33 (callP F33)
theorem t33 : XOK Try.prog T33 := xok_spec t25 (s33 T25 t25) (fun _ => trivial) Try.func33 (by kernel_rfl)
noncomputable def T9 : AX := T33.add 9 (callP F9)
theorem t9 : XOK Try.prog T9 := xok_spec t33 (s9 T33 t33 w0T cf22 cf23) (fun _ => trivial) Try.func9 (by kernel_rfl)
noncomputable def T38 : AX := T9.add 38 (callP F38)
theorem t38 : XOK Try.prog T38 := xok_spec t9 (s38 T9 t9 w0T ⟨cf25, cf33⟩) (fun _ => trivial) Try.func38 (by kernel_rfl)
noncomputable def T24 : AX := T38.add 24 (callP F24)
theorem t24 : XOK Try.prog T24 := xok_spec t38 (s24 T38 t38 w0T rfl) (fun _ => trivial) Try.func24 (by kernel_rfl)
noncomputable def T10 : AX := T24.add 10 (callP F9)
theorem t10 : XOK Try.prog T10 := xok_spec t24 (s10 T24 t24 w0T rfl cf27) (fun _ => trivial) Try.func10 (by kernel_rfl)
noncomputable def T41 : AX := T10.add 41 (callP F41)
theorem t41 : XOK Try.prog T41 := xok_spec t10 (s41 T10 t10 w0T rfl) (fun _ => trivial) Try.func41 (by kernel_rfl)
noncomputable def T28 : AX := T41.add 28 (callP F28)
theorem t28 : XOK Try.prog T28 := xok_spec t41 (s28 T41 t41 w0T rfl) (fun _ => trivial) Try.func28 (by kernel_rfl)
noncomputable def T12 : AX := T28.add 12 (callP F12)
theorem t12 : XOK Try.prog T12 := xok_spec t28 (s12 T28 t28 w0T rfl cf9) (fun _ => trivial) Try.func12 (by kernel_rfl)
noncomputable def T11 : AX := T12.add 11 (callP F12)
theorem t11 : XOK Try.prog T11 := xok_spec t12 (s11 T12 t12 w0T rfl rfl) (fun _ => trivial) Try.func11 (by kernel_rfl)
noncomputable def T29 : AX := T11.add 29 (callP F29)
theorem t29 : XOK Try.prog T29 := xok_spec t11 (s29 T11 t11 w0T cf27) (fun _ => IB_flat) Try.func29 (by kernel_rfl)
noncomputable def T31 : AX := T29.add 31 (callP F31)
theorem t31 : XOK Try.prog T31 := xok_spec t29 (s31 T29 t29) (fun _ => prow_flat) Try.func31 (by kernel_rfl)
noncomputable def T42 : AX := T31.add 42 ovlF
theorem t42 : XOK Try.prog T42 := xok_add t31 (.inr x42) (fun avs M nid r h => by
  unfold ovlF at h
  split at h <;> (try split at h) <;> (try split at h) <;> simp at h
  rw [← h]; simp)
noncomputable def T30 : AX := T42.add 30 (callM false two2 F30)
theorem t30 : XOK Try.prog T30 := xok_putM t42 (by kernel_rfl) (.inl ⟨(s30 T42 t42 rfl).callM fun _ _ _ _ h => F30_flat h, body_ok _ Try.func30 (by kernel_rfl)⟩) fun _ _ _ _ h => callM_keys h
noncomputable def T37 : AX := T30.add 37 (callM false two2 F37)
theorem t37 : XOK Try.prog T37 := xok_putM t30 (by kernel_rfl) (.inl ⟨(s37 T30 t30 w0T).callM fun _ _ _ _ h => F37_flat h, body_ok _ Try.func37 (by kernel_rfl)⟩) fun _ _ _ _ h => callM_keys h
noncomputable def T32 : AX := T37.add 32 (callM false two2 F32)
theorem t32 : XOK Try.prog T32 := xok_putM t37 (by kernel_rfl) (.inl ⟨(s32 T37 t37 w0T rfl ⟨cf25, cf33⟩).callM fun _ _ _ _ h => F32_flat h, body_ok _ Try.func32 (by kernel_rfl)⟩) fun _ _ _ _ h => callM_keys h
noncomputable def T35 : AX := T32.add 35 sortP
theorem t35 : XOK Try.prog T35 := xok_putM t32 (by kernel_rfl) (.inl ⟨sort_ok, body_ok _ Try.func35 (by kernel_rfl)⟩) fun _ _ _ _ h => sort_keys h
theorem rm35 : RmX T35 := ⟨t35, w0T, rfl, cf22, rfl, rfl, rfl, rfl, rfl, rfl⟩
noncomputable def T13 : AX := T35.add 13 (callP F13)
theorem t13 : XOK Try.prog T13 := xok_spec t35 (s13 T35 rm35) (fun _ => prowI_flat) Try.func13 (by kernel_rfl)
theorem rm13 : RmX T13 := ⟨t13, w0T, rfl, cf22, rfl, rfl, rfl, rfl, rfl, rfl⟩
noncomputable def T20 : AX := T13.add 20 (callP F20)
theorem t20 : XOK Try.prog T20 := xok_spec t13 (s20 T13 rm13) (fun _ => prowI_flat) Try.func20 (by kernel_rfl)
theorem rm20 : RmX T20 := ⟨t20, w0T, rfl, cf22, rfl, rfl, rfl, rfl, rfl, rfl⟩
noncomputable def T14 : AX := T20.add 14 (callP F14)
theorem t14 : XOK Try.prog T14 := xok_spec t20 (s14 T20 rm20) (fun _ => prow_flat) Try.func14 (by kernel_rfl)
theorem rm14 : RmX T14 := ⟨t14, w0T, rfl, cf22, rfl, rfl, rfl, rfl, rfl, rfl⟩
noncomputable def T15 : AX := T14.add 15 (callP F15)
theorem t15 : XOK Try.prog T15 := xok_spec t14 (s15 T14 rm14 cf34 rfl rfl) (fun _ => prowI_flat) Try.func15 (by kernel_rfl)
noncomputable def T36 : AX := T15.add 36 (callP F36)
theorem t36 : XOK Try.prog T36 := xok_spec t15 (s36 T15 t15 w0T cf23) (fun _ => prow_flat) Try.func36 (by kernel_rfl)
theorem rf36 : RefX T36 := ⟨t36, w0T, rfl, cf9, cf22⟩
noncomputable def T19 : AX := T36.add 19 (callP F13)
theorem t19 : XOK Try.prog T19 := xok_spec t36 (s19 T36 rf36 rfl rfl) (fun _ => prowI_flat) Try.func19 (by kernel_rfl)
theorem rf19 : RefX T19 := ⟨t19, w0T, rfl, cf9, cf22⟩
noncomputable def T21 : AX := T19.add 21 (callP F20)
theorem t21 : XOK Try.prog T21 := xok_spec t19 (s21 T19 rf19 rfl) (fun _ => prowI_flat) Try.func21 (by kernel_rfl)
theorem rf21 : RefX T21 := ⟨t21, w0T, rfl, cf9, cf22⟩
noncomputable def T16 : AX := T21.add 16 (callP F15)
theorem t16 : XOK Try.prog T16 := xok_spec t21 (s16 T21 rf21 rfl rfl) (fun _ => prowI_flat) Try.func16 (by kernel_rfl)
noncomputable def T17 : AX := T16.add 17 (callP F17)
theorem t17 : XOK Try.prog T17 := xok_spec t16 (s17 T16 t16 w0T rfl) (fun _ => trivial) Try.func17 (by kernel_rfl)
noncomputable def T18 : AX := T17.add 18 (callP F14)
theorem t18 : XOK Try.prog T18 := xok_spec t17 (s18 T17 t17 w0T cf9) (fun _ => prow_flat) Try.func18 (by kernel_rfl)
theorem lx18 : LawX T18 := ⟨t18, w0T, rfl, rfl, rfl, rfl, rfl, rfl, rfl, rfl, rfl, rfl, rfl, rfl, rfl, rfl⟩
noncomputable def F8 : List AV → Option AV := specF (ι := Unit) (fun _ => []) fun _ => retOf [B true]
theorem cf8 (M : Nat → AO) (n : Nat) : callP F8 [] M n = some (B true, []) := callP_spec (ι := Unit) (A := fun _ => []) (R := fun _ => retOf [B true]) () rfl (fun _ _ => rfl) (by simp)
noncomputable def T8 : AX := T18.add 8 (callP F8)
theorem t8 : XOK Try.prog T8 := xok_spec t18 (s8 T18 lx18) (fun _ => trivial) Try.func8 (by kernel_rfl)
theorem lx8 : LawX T8 := ⟨t8, w0T, rfl, rfl, rfl, rfl, rfl, rfl, rfl, rfl, rfl, rfl, rfl, rfl, rfl, rfl⟩

/-! The table of the laws that go on with what they are given. -/
theorem rle_rd (l : List Mp) (n : Int) : RLe (retOf [AV.ow 2 (prows l), I n]) (retOf [AV.rd 2 (prows l), I n]) := by
  simp [RLe, retOf, SLeVs, SLeV, SLe]
theorem g13 : PSound Try.prog 13 F13r := (s13 T35 rm35).softF fun _ => rle_rd _ _
theorem g20 : PSound Try.prog 20 F20r := (s20 T13 rm13).softF fun _ => rle_rd _ _
theorem g19 : PSound Try.prog 19 F13r := (s19 T36 rf36 rfl rfl).softF fun _ => rle_rd _ _
theorem g21 : PSound Try.prog 21 F20r := (s21 T19 rf19 rfl).softF fun _ => rle_rd _ _
noncomputable def V19 : AX := T8.add 19 (callD F13r)
theorem v19 : XOK Try.prog V19 := xok_add t8 (.inl ⟨g19.callD, body_ok _ Try.func19 (by kernel_rfl)⟩) fun _ _ _ _ h => callD_keys h
noncomputable def V21 : AX := V19.add 21 (callD F20r)
theorem v21 : XOK Try.prog V21 := xok_add v19 (.inl ⟨g21.callD, body_ok _ Try.func21 (by kernel_rfl)⟩) fun _ _ _ _ h => callD_keys h
noncomputable def V13 : AX := T8.add 13 (callD F13r)
theorem v13 : XOK Try.prog V13 := xok_add t8 (.inl ⟨g13.callD, body_ok _ Try.func13 (by kernel_rfl)⟩) fun _ _ _ _ h => callD_keys h
noncomputable def V20 : AX := V13.add 20 (callD F20r)
theorem v20 : XOK Try.prog V20 := xok_add v13 (.inl ⟨g20.callD, body_ok _ Try.func20 (by kernel_rfl)⟩) fun _ _ _ _ h => callD_keys h

theorem s3' : PSound Try.prog 3 (specF (ι := List Mp × Mp) (fun x => [.rd 2 (prows x.1), Mv x.2]) fun _ => retOf [B true]) := s3 T8 lx8 cf8
theorem s4' : PSound Try.prog 4 (specF (ι := List Mp × Int × Int) (fun x => [.rd 2 (prows x.1), I x.2.1, I x.2.2]) fun _ => retOf [B true]) := s4 T8 lx8 cf8
theorem s5' : PSound Try.prog 5 (specF (ι := {x : List Mp × Nat × Nat // x.2.1 < 256 ∧ x.2.2 < 256}) (fun x => [.rd 2 (prows x.1.1), U x.1.2.1, U x.1.2.2]) fun _ => retOf [B true]) := s5 T8 lx8 cf8
theorem s6' : PSound Try.prog 6 (specF (ι := List Mp × List Ops) (fun x => [.rd 2 (prows x.1), .rd 3 (orows x.2)]) fun _ => retOf [B true]) := s6 V21 v21 w0T cf8 rfl rfl rfl rfl rfl
theorem s7' : PSound Try.prog 7 (specF (ι := List Ops) (fun x => [.rd 3 (orows x)]) fun _ => retOf [B true]) := s7 V20 v20 w0T rfl cf8 rfl rfl rfl rfl
end Go.AM
