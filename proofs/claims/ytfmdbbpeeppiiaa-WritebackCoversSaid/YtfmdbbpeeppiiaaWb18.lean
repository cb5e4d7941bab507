/- Writeback: the table of the functions; the four laws of the reference at the table. -/
import Derived.Test.YtfmdbbpeeppiiaaWb17
set_option linter.all false

namespace Go.AM
open Go Go.Proofs

theorem drow_flat {l : List Tp} : (AV.ow 3 (drows l)).flat := by
  intro e he a ha
  obtain ⟨x, _, rfl⟩ := List.mem_map.1 he
  simp at ha
  rcases ha with rfl | rfl | rfl <;> trivial
theorem drowI_flat {l : List Tp} {n : Int} : (retOf [AV.ow 3 (drows l), I n]).flat := by
  intro a ha
  simp at ha
  rcases ha with rfl | rfl
  · exact drow_flat (l := l)
  · trivial
theorem Mv_flat {m : Mp} : (retOf [Mv m]).flat := by
  intro a ha
  simp [Mv] at ha
  rcases ha with rfl | rfl <;> trivial
theorem Tv_flat {m : Tp} : (retOf [Tv m]).flat := by
  intro a ha
  simp [Tv] at ha
  rcases ha with rfl | rfl | rfl <;> trivial

noncomputable def F33 : List AV → Option AV := specF (ι := Int × Int) (fun x => [I x.1, I x.2]) fun x => retOf [B (decide (pgN x.1 x.2))]
theorem cf33 (a b : Int) (M : Nat → AO) (n : Nat) : callP F33 [I a, I b] M n = some (B (decide (pgN a b)), []) :=
  callP_spec (ι := Int × Int) (A := fun x => [I x.1, I x.2]) (R := fun x => retOf [B (decide (pgN x.1 x.2))]) (a, b) (by simp [Mv, Tv]) (by
    rintro ⟨j, k⟩ e
    simp at e; obtain ⟨rfl, rfl⟩ := e; rfl) (by simp [Mv, Tv])
noncomputable def F34 : List AV → Option AV := specF (ι := Tp) (fun x => [Tv x]) fun x => retOf [Mv (x.1, x.2.1)]
theorem cf34 (a b c : Int) (M : Nat → AO) (n : Nat) : callP F34 [.agg [I a, I b, I c]] M n = some (.agg [I a, I b], []) :=
  callP_spec (ι := Tp) (A := fun x => [Tv x]) (R := fun x => retOf [Mv (x.1, x.2.1)]) (a, b, c) (by simp [Mv, Tv]) (by
    intro j e
    simp [Tv_inj] at e; subst e; rfl) (by simp [Mv, Tv])
noncomputable def F51 : List AV → Option AV := specF (ι := Int) (fun x => [I x]) fun x => retOf [B false]
theorem cf51 (a : Int) (M : Nat → AO) (n : Nat) : callP F51 [I a] M n = some (B false, []) :=
  callP_spec (ι := Int) (A := fun x => [I x]) (R := fun x => retOf [B false]) a (by simp [Mv, Tv]) (by
    intro j e
    rfl) (by simp [Mv, Tv])
noncomputable def F42 : List AV → Option AV := specF (ι := Int × Int) (fun x => [I x.1, I x.2]) fun x => retOf [I (cmpI x.1 x.2)]
theorem cf42 (a b : Int) (M : Nat → AO) (n : Nat) : callP F42 [I a, I b] M n = some (I (cmpI a b), []) :=
  callP_spec (ι := Int × Int) (A := fun x => [I x.1, I x.2]) (R := fun x => retOf [I (cmpI x.1 x.2)]) (a, b) (by simp [Mv, Tv]) (by
    rintro ⟨j, k⟩ e
    simp at e; obtain ⟨rfl, rfl⟩ := e; rfl) (by simp [Mv, Tv])
noncomputable def F31 : List AV → Option AV := specF (ι := Tp × Tp) (fun x => [Tv x.1, Tv x.2]) fun x => retOf [I (cmpD x.1 x.2)]
theorem cf31 (a b c d e f : Int) (M : Nat → AO) (n : Nat) : callP F31 [.agg [I a, I b, I c], .agg [I d, I e, I f]] M n = some (I (cmpD (a, b, c) (d, e, f)), []) :=
  callP_spec (ι := Tp × Tp) (A := fun x => [Tv x.1, Tv x.2]) (R := fun x => retOf [I (cmpD x.1 x.2)]) ((a, b, c), (d, e, f)) (by simp [Mv, Tv]) (by
    rintro ⟨j, k⟩ e
    simp [Tv_inj] at e; obtain ⟨rfl, rfl⟩ := e; rfl) (by simp [Mv, Tv])
noncomputable def F32 : List AV → Option AV := specF (ι := Tp × Tp) (fun x => [Tv x.1, Tv x.2]) fun x => retOf [B (decide (ltD x.1 x.2))]
theorem cf32 (a b c d e f : Int) (M : Nat → AO) (n : Nat) : callP F32 [.agg [I a, I b, I c], .agg [I d, I e, I f]] M n = some (B (decide (ltD (a, b, c) (d, e, f))), []) :=
  callP_spec (ι := Tp × Tp) (A := fun x => [Tv x.1, Tv x.2]) (R := fun x => retOf [B (decide (ltD x.1 x.2))]) ((a, b, c), (d, e, f)) (by simp [Mv, Tv]) (by
    rintro ⟨j, k⟩ e
    simp [Tv_inj] at e; obtain ⟨rfl, rfl⟩ := e; rfl) (by simp [Mv, Tv])
noncomputable def F40 : List AV → Option AV := specF (ι := Mp × Mp) (fun x => [Mv x.1, Mv x.2]) fun x => retOf [I (cmpP x.1 x.2)]
noncomputable def F10 : List AV → Option AV := specF (ι := List Tp) (fun x => [.rd 3 (drows x)]) fun x => retOf [B (decide (x.length ≤ 100))]
theorem cf10 (l : List Tp) (M : Nat → AO) (n : Nat) : callP F10 [.rd 3 (drows l)] M n = some (B (decide (l.length ≤ 100)), []) :=
  callP_spec (ι := List Tp) (A := fun x => [.rd 3 (drows x)]) (R := fun x => retOf [B (decide (x.length ≤ 100))]) l (by simp [Mv, Tv]) (by
    intro j e
    simp [drows_inj] at e; subst e; rfl) (by simp [Mv, Tv])
noncomputable def F38 : List AV → Option AV := specF (ι := Tp × Int × Int) (fun x => [Tv x.1, .rp [I x.2.1], .rp [I x.2.2]]) fun x => retOf [B (expB x.2.1 x.2.2 x.1)]
theorem cf38 (a b c n' g : Int) (M : Nat → AO) (n : Nat) : callP F38 [.agg [I a, I b, I c], .rp [I n'], .rp [I g]] M n = some (B (expB n' g (a, b, c)), []) :=
  callP_spec (ι := Tp × Int × Int) (A := fun x => [Tv x.1, .rp [I x.2.1], .rp [I x.2.2]]) (R := fun x => retOf [B (expB x.2.1 x.2.2 x.1)]) ((a, b, c), n', g) (by simp [Mv, Tv]) (by
    rintro ⟨j, k, m⟩ e
    simp [Tv_inj] at e; obtain ⟨rfl, rfl, rfl⟩ := e; rfl) (by simp [Mv, Tv])
noncomputable def F46 : List AV → Option AV := specF (ι := {x : Tp × Tp // 0 ≤ x.2.2.1 ∧ x.2.2.1 < 16 ∧ 0 ≤ x.2.2.2 ∧ x.2.2.2 ≤ 16}) (fun x => [Tv x.1.1, .rp [I x.1.2.1, I x.1.2.2.1, I x.1.2.2.2]]) fun x => retOf [B (inR x.1.2 x.1.1)]
theorem cf46 (a b c f i k : Int) (h1 : 0 ≤ i ∧ i < 16) (h2 : 0 ≤ k) (h3 : k ≤ 16) (M : Nat → AO) (n : Nat) : callP F46 [.agg [I a, I b, I c], .rp [I f, I i, I k]] M n = some (B (inR (f, i, k) (a, b, c)), []) :=
  callP_spec (ι := {x : Tp × Tp // 0 ≤ x.2.2.1 ∧ x.2.2.1 < 16 ∧ 0 ≤ x.2.2.2 ∧ x.2.2.2 ≤ 16}) (A := fun x => [Tv x.1.1, .rp [I x.1.2.1, I x.1.2.2.1, I x.1.2.2.2]]) (R := fun x => retOf [B (inR x.1.2 x.1.1)]) ⟨((a, b, c), (f, i, k)), h1.1, h1.2, h2, h3⟩ (by simp [Mv, Tv]) (by
    rintro ⟨⟨j, r1, r2, r3⟩, h⟩ e
    simp [Tv_inj] at e; obtain ⟨rfl, rfl, rfl, rfl⟩ := e; rfl) (by simp [Mv, Tv])
noncomputable def F36 : List AV → Option AV := specF (ι := {x : List Tp // 0 < x.length ∧ x.length ≤ 1000000}) (fun x => [.rd 3 (drows x.1), .fn 31 []]) fun x => retOf [Tv (mnL x.1)]
theorem cf36 (l : List Tp) (h : 0 < l.length) (h2 : l.length ≤ 1000000) (M : Nat → AO) (n : Nat) : callP F36 [.rd 3 (drows l), .fn 31 []] M n = some (Tv (mnL l), []) :=
  callP_spec (ι := {x : List Tp // 0 < x.length ∧ x.length ≤ 1000000}) (A := fun x => [.rd 3 (drows x.1), .fn 31 []]) (R := fun x => retOf [Tv (mnL x.1)]) ⟨l, h, h2⟩ (by simp [Mv, Tv]) (by
    rintro ⟨j, hj⟩ e
    simp [drows_inj] at e; subst e; rfl) (by simp [Mv, Tv])
noncomputable def F35 : List AV → Option AV := specF (ι := {x : List Tp × Tp // x.1.length ≤ 1000000}) (fun x => [.rd 3 (drows x.1.1), Tv x.1.2]) fun x => retOf [I (fstD (eqD x.1.2) x.1.1)]
theorem cf35 (l : List Tp) (a b c : Int) (h : l.length ≤ 1000000) (M : Nat → AO) (n : Nat) : callP F35 [.rd 3 (drows l), .agg [I a, I b, I c]] M n = some (I (fstD (eqD (a, b, c)) l), []) :=
  callP_spec (ι := {x : List Tp × Tp // x.1.length ≤ 1000000}) (A := fun x => [.rd 3 (drows x.1.1), Tv x.1.2]) (R := fun x => retOf [I (fstD (eqD x.1.2) x.1.1)]) ⟨(l, (a, b, c)), h⟩ (by simp [Mv, Tv]) (by
    rintro ⟨⟨j, k⟩, hj⟩ e
    simp [drows_inj, Tv_inj] at e; obtain ⟨rfl, rfl⟩ := e; rfl) (by simp [Mv, Tv])
theorem cf45 (l : List Tp) (a b : Int) (h : l.length ≤ 1000000) (M : Nat → AO) (n : Nat) : callP F45 [.rd 3 (drows l), I a, I b] M n = some (B (hasP l a b), []) :=
  callP_spec (ι := {x : List Tp × Int × Int // x.1.length ≤ 1000000}) (A := fun x => [.rd 3 (drows x.1.1), I x.1.2.1, I x.1.2.2]) (R := fun x => retOf [B (hasP x.1.1 x.1.2.1 x.1.2.2)]) ⟨(l, a, b), h⟩ (by simp [Mv, Tv]) (by
    rintro ⟨⟨j, k, m⟩, hj⟩ e
    simp [drows_inj] at e; obtain ⟨rfl, rfl, rfl⟩ := e; rfl) (by simp [Mv, Tv])
theorem cfchk (l : List Tp) (h : l.length ≤ 9223372036854775807) (M : Nat → AO) (n : Nat) : callP chkF [.rd 3 (drows l)] M n = some (I (chkD l), []) :=
  callP_spec (ι := {l : List Tp // l.length ≤ 9223372036854775807}) (A := fun x => [.rd 3 (drows x.1)]) (R := fun x => retOf [I (chkD x.1)]) ⟨l, h⟩ (by simp [Mv, Tv]) (by
    rintro ⟨j, hj⟩ e
    simp [drows_inj] at e; subst e; rfl) (by simp [Mv, Tv])

theorem F29_flat {a0 : AV} {avs : List AV} {r o : AV} (h : F29 a0 avs = some (r, o)) : r.flat ∧ o.flatO := by
  obtain ⟨i, _, _, h3, h4⟩ := specM_some h
  subst h3 h4
  exact ⟨drow_flat, trivial⟩
theorem F37_flat {a0 : AV} {avs : List AV} {r o : AV} (h : F37 a0 avs = some (r, o)) : r.flat ∧ o.flatO := by
  obtain ⟨i, _, _, h3, h4⟩ := specM_some h
  subst h3 h4
  exact ⟨drow_flat, trivial⟩

noncomputable def T0 : AX := (((AX.start wT).eqAt 30).eqAt 38).eqAt 55
theorem t0 : XOK Try.prog T0 := xok_eq (xok_eq (xok_eq (xok_start _ _) eq30) eq38) eq55
theorem w0T : T0.W wT := ⟨rfl, rfl⟩
noncomputable def T33 : AX := T0.add 33 (callP F33)
theorem t33 : XOK Try.prog T33 := xok_spec t0 (s33 T0 t0) (fun _ => trivial) Try.func33 (by kernel_rfl)
noncomputable def T34 : AX := T33.add 34 (callP F34)
theorem t34 : XOK Try.prog T34 := xok_spec t33 (s34 T33 t33) (fun _ => Mv_flat) Try.func34 (by kernel_rfl)
noncomputable def T51 : AX := T34.add 51 (callP F51)
theorem t51 : XOK Try.prog T51 := xok_spec t34 (s51 T34 t34) (fun _ => trivial) Try.func51 (by kernel_rfl)
noncomputable def T42 : AX := T51.add 42 (callP F42)
theorem t42 : XOK Try.prog T42 := xok_spec t51 (s42 T51 t51 cf51) (fun _ => trivial) Try.func42 (by kernel_rfl)
noncomputable def T41 : AX := T42.add 41 (callP F41)
theorem t41 : XOK Try.prog T41 := xok_spec t42 (s41 T42 t42) (fun _ => trivial) Try.func41 (by kernel_rfl)
noncomputable def T31 : AX := T41.add 31 (callP F31)
theorem t31 : XOK Try.prog T31 := xok_spec t41 (s31 T41 t41 w0T cf42 rfl) (fun _ => trivial) Try.func31 (by kernel_rfl)
noncomputable def T40 : AX := T31.add 40 (callP F40)
theorem t40 : XOK Try.prog T40 := xok_spec t31 (s40 T31 t31 w0T cf42 rfl) (fun _ => trivial) Try.func40 (by kernel_rfl)
noncomputable def T32 : AX := T40.add 32 (callP F32)
theorem t32 : XOK Try.prog T32 := xok_spec t40 (s32 T40 t40) (fun _ => trivial) Try.func32 (by kernel_rfl)
noncomputable def T10 : AX := T32.add 10 (callP F10)
theorem t10 : XOK Try.prog T10 := xok_spec t32 (s10 T32 t32) (fun _ => trivial) Try.func10 (by kernel_rfl)
noncomputable def T38 : AX := T10.add 38 (callP F38)
theorem t38 : XOK Try.prog T38 := xok_spec t10 (s38 T10 t10) (fun _ => trivial) Try.func38 (by kernel_rfl)
noncomputable def T46 : AX := T38.add 46 (callP F46)
theorem t46 : XOK Try.prog T46 := xok_spec t38 (s46 T38 t38) (fun _ => trivial) Try.func46 (by kernel_rfl)
noncomputable def T14 : AX := T46.add 14 (callP chkF)
theorem t14 : XOK Try.prog T14 := xok_spec t46 (s14 T46 t46 w0T rfl rfl cf33 cf34) (fun _ => trivial) Try.func14 (by kernel_rfl)
noncomputable def T15 : AX := T14.add 15 (callP chkF)
theorem t15 : XOK Try.prog T15 := xok_spec t14 (s15 T14 t14 w0T) (fun _ => trivial) Try.func15 (by kernel_rfl)
noncomputable def T17 : AX := T15.add 17 (callP nxtF)
theorem t17 : XOK Try.prog T17 := xok_spec t15 (s17 T15 t15 w0T (fun l h M n => cfchk l h M n) cf32) (fun _ => trivial) Try.func17 (by kernel_rfl)
noncomputable def T35 : AX := T17.add 35 (callP F35)
theorem t35 : XOK Try.prog T35 := xok_spec t17 (s35 T17 t17 w0T rfl) (fun _ => trivial) Try.func35 (by kernel_rfl)
noncomputable def T36 : AX := T35.add 36 (callP F36)
theorem t36 : XOK Try.prog T36 := xok_spec t35 (s36 T35 t35 w0T cf31) (fun _ => Tv_flat) Try.func36 (by kernel_rfl)
noncomputable def T45 : AX := T36.add 45 (callP F45)
theorem t45 : XOK Try.prog T45 := xok_spec t36 (s45 T36 t36) (fun _ => trivial) Try.func45 (by kernel_rfl)
noncomputable def T22 : AX := T45.add 22 (callP F21)
theorem t22 : XOK Try.prog T22 := xok_spec t45 (s22 T45 t45 w0T (fun l h M n => cfchk l h M n) (fun l a b h M n => cf45 l a b h M n)) (fun _ => drowI_flat) Try.func22 (by kernel_rfl)
noncomputable def T13 : AX := T22.add 13 (callP F13)
theorem t13 : XOK Try.prog T13 := xok_spec t22 (s13 T22 t22 w0T (fun l h M n => cfchk l h M n) cf32) (fun _ => drowI_flat) Try.func13 (by kernel_rfl)
noncomputable def T20 : AX := T13.add 20 (callP expF)
theorem t20 : XOK Try.prog T20 := xok_spec t13 (s20 T13 t13 w0T rfl) (fun _ => drowI_flat) Try.func20 (by kernel_rfl)
noncomputable def T25 : AX := T20.add 25 (callP wrtF)
theorem t25 : XOK Try.prog T25 := xok_spec t20 (s25 T20 t20 w0T (fun l h M n => cfchk l h M n) (fun l a b h M n => cf45 l a b h M n)) (fun _ => drowI_flat) Try.func25 (by kernel_rfl)
noncomputable def T28 : AX := T25.add 28 (callP F28)
theorem t28 : XOK Try.prog T28 := xok_spec t25 (s28 T25 t25) (fun _ => drow_flat) Try.func28 (by kernel_rfl)
noncomputable def T26 : AX := T28.add 26 (callP F28)
theorem t26 : XOK Try.prog T26 := xok_spec t28 (s26 T28 t28) (fun _ => drow_flat) Try.func26 (by kernel_rfl)
noncomputable def T18 : AX := T26.add 18 (callP eqlF)
theorem t18 : XOK Try.prog T18 := xok_spec t26 (s18 T26 t26 w0T rfl) (fun _ => trivial) Try.func18 (by kernel_rfl)
noncomputable def T23 : AX := T18.add 23 (callP eqlF)
theorem t23 : XOK Try.prog T23 := xok_spec t18 (s23 T18 t18 w0T rfl) (fun _ => trivial) Try.func23 (by kernel_rfl)
theorem fx23 : FnX T23 := ⟨fun a b c n g M k => cf38 a b c n g M k, fun a b c f i n h1 h2 h3 M k => cf46 a b c f i n h1 h2 h3 M k⟩
noncomputable def T49 : AX := T23.add 49 (callP F49)
theorem t49 : XOK Try.prog T49 := xok_spec t23 (s49 T23 t23 w0T fx23) (fun _ => trivial) Try.func49 (by kernel_rfl)
theorem fx49 : FnX T49 := ⟨fun a b c n g M k => cf38 a b c n g M k, fun a b c f i n h1 h2 h3 M k => cf46 a b c f i n h1 h2 h3 M k⟩
noncomputable def T29 : AX := T49.add 29 (callM false three3 F29)
theorem t29 : XOK Try.prog T29 := xok_putM t49 (by kernel_rfl) (.inl ⟨((s29 T49 t49 w0T).callM fun _ _ _ _ h => F29_flat h), body_ok _ Try.func29 (by kernel_rfl)⟩) fun _ _ _ _ h => callM_keys h
theorem fx29 : FnX T29 := ⟨fun a b c n g M k => cf38 a b c n g M k, fun a b c f i n h1 h2 h3 M k => cf46 a b c f i n h1 h2 h3 M k⟩
noncomputable def T37 : AX := T29.add 37 (callM false three3 F37)
theorem t37 : XOK Try.prog T37 := xok_putM t29 (by kernel_rfl) (.inl ⟨((s37 T29 t29 w0T rfl fx29).callM fun _ _ _ _ h => F37_flat h), body_ok _ Try.func37 (by kernel_rfl)⟩) fun _ _ _ _ h => callM_keys h
noncomputable def T30 : AX := T37.add 30 (sortD)
theorem t30 : XOK Try.prog T30 := xok_putM t37 (by kernel_rfl) (.inl ⟨sortD_ok, body_ok _ Try.func30 (by kernel_rfl)⟩) fun _ _ _ _ h => sortD_keys h
noncomputable def T39 : AX := T30.add 39 (sortP)
theorem t39 : XOK Try.prog T39 := xok_putM t30 (by kernel_rfl) (.inl ⟨sortP_ok, body_ok _ Try.func39 (by kernel_rfl)⟩) fun _ _ _ _ h => sortP_keys h
theorem wx39 : WbX T39 := ⟨t39, w0T, rfl, fun l h M n => cfchk l h M n, rfl, rfl, cf33, rfl⟩
noncomputable def T12 : AX := T39.add 12 (callP F13)
theorem t12 : XOK Try.prog T12 := xok_spec t39 (s12 T39 wx39) (fun _ => drowI_flat) Try.func12 (by kernel_rfl)
theorem wx12 : WbX T12 := ⟨t12, w0T, rfl, fun l h M n => cfchk l h M n, rfl, rfl, cf33, rfl⟩
noncomputable def T16 : AX := T12.add 16 (callP nxtF)
theorem t16 : XOK Try.prog T16 := xok_spec t12 (s16 T12 wx12 (fun l h h2 M n => cf36 l h h2 M n) (fun l a b c h M n => cf35 l a b c h M n)) (fun _ => trivial) Try.func16 (by kernel_rfl)
theorem wx16 : WbX T16 := ⟨t16, w0T, rfl, fun l h M n => cfchk l h M n, rfl, rfl, cf33, rfl⟩
noncomputable def T19 : AX := T16.add 19 (callP expF)
theorem t19 : XOK Try.prog T19 := xok_spec t16 (s19 T16 wx16 rfl) (fun _ => drowI_flat) Try.func19 (by kernel_rfl)
theorem wx19 : WbX T19 := ⟨t19, w0T, rfl, fun l h M n => cfchk l h M n, rfl, rfl, cf33, rfl⟩
noncomputable def T24 : AX := T19.add 24 (callP wrtF)
theorem t24 : XOK Try.prog T24 := xok_spec t19 (s24 T19 wx19) (fun _ => drowI_flat) Try.func24 (by kernel_rfl)
noncomputable def T44 : AX := T24.add 44 (callG F44)
theorem t44 : XOK Try.prog T44 := xok_putM t24 (by kernel_rfl) (.inl ⟨((s44 T24 t24).callG), body_ok _ Try.func44 (by kernel_rfl)⟩) fun _ _ _ _ h => callG_keys h
noncomputable def T43 : AX := T44.add 43 (callP F43)
theorem t43 : XOK Try.prog T43 := xok_spec t44 s43 (fun _ => drow_flat) Try.func43 (by kernel_rfl)
theorem wx43 : WbX T43 := ⟨t43, w0T, rfl, fun l h M n => cfchk l h M n, rfl, rfl, cf33, rfl⟩
noncomputable def T21 : AX := T43.add 21 (callP F21)
theorem t21 : XOK Try.prog T21 := xok_spec t43 (s21 T43 wx43 cf34 rfl rfl rfl) (fun _ => drowI_flat) Try.func21 (by kernel_rfl)
theorem lx21 : LawX T21 := ⟨t21, w0T, rfl, cf10, rfl, rfl, rfl, rfl, rfl, rfl, rfl, rfl, rfl, rfl, rfl, rfl, rfl, rfl, rfl, rfl, rfl⟩
noncomputable def F11 : List AV → Option AV := specF (ι := Unit) (fun _ => []) fun _ => retOf [B true]
theorem cf11 (M : Nat → AO) (n : Nat) : callP F11 [] M n = some (B true, []) := callP_spec (ι := Unit) (A := fun _ => []) (R := fun _ => retOf [B true]) () rfl (fun _ _ => rfl) (by simp)
noncomputable def T11 : AX := T21.add 11 (callP F11)
theorem t11 : XOK Try.prog T11 := xok_spec t21 (s11 T21 lx21 rfl) (fun _ => trivial) Try.func11 (by kernel_rfl)
theorem lx11 : LawX T11 := ⟨t11, w0T, rfl, cf10, rfl, rfl, rfl, rfl, rfl, rfl, rfl, rfl, rfl, rfl, rfl, rfl, rfl, rfl, rfl, rfl, rfl⟩

theorem s3' : PSound Try.prog 3 (specF (ι := {l : List Tp // l.length ≤ 9223372036854775807}) (fun x => [.rd 3 (drows x.1)]) fun _ => retOf [B true]) := s3 T11 lx11 cf11
theorem s4' : PSound Try.prog 4 (specF (ι := {x : List Tp × Int × Int // x.1.length ≤ 9223372036854775807}) (fun x => [.rd 3 (drows x.1.1), I x.1.2.1, I x.1.2.2]) fun _ => retOf [B true]) := s4 T11 lx11 cf11
theorem s5' : PSound Try.prog 5 (specF (ι := {x : List Tp × Int // x.1.length ≤ 9223372036854775807}) (fun x => [.rd 3 (drows x.1.1), I x.1.2]) fun _ => retOf [B true]) := s5 T11 lx11 cf11
theorem s6' : PSound Try.prog 6 (specF (ι := {x : List Tp × Tp // x.1.length ≤ 9223372036854775807}) (fun x => [.rd 3 (drows x.1.1), Tv x.1.2]) fun _ => retOf [B true]) := s6 T11 lx11 cf11
end Go.AM
