/- The table of the functions that New and Same reach; law BuddyBegins. -/
import Derived.Test.YtjdahonmgfhpgaaBd22
import Derived.Test.YtjdahonmgfhpgaaBd15
set_option linter.all false

namespace Go.AM
open Go Go.Proofs

noncomputable def F32 : List AV → Option AV := specF (ι := {x : List Int × List Int // x.1.length ≤ 1000000 ∧ x.2.length ≤ 1000000}) (fun x => [.rd 1 (irows x.1.1), .rd 1 (irows x.1.2)]) fun x => retOf [B (x.1.1 = x.1.2)]
theorem cf32 (a b : List Int) (M : Nat → AO) (n : Nat) (ha : a.length ≤ 1000000) (hb : b.length ≤ 1000000) : callP F32 [.rd 1 (irows a), .rd 1 (irows b)] M n = some (B (a = b), []) :=
  callP_spec (ι := {x : List Int × List Int // x.1.length ≤ 1000000 ∧ x.2.length ≤ 1000000}) (A := fun x => [.rd 1 (irows x.1.1), .rd 1 (irows x.1.2)]) (R := fun x => retOf [B (x.1.1 = x.1.2)]) ⟨(a, b), ha, hb⟩ rfl (by
    rintro ⟨⟨a, b⟩, h⟩ e
    simp [irows_inj] at e
    obtain ⟨rfl, rfl⟩ := e; rfl) (by simp)
noncomputable def F58 : List AV → Option AV := specF (ι := {x : List Int × Nat × Nat // x.1.length = 256 ∧ x.2.1 + 2 ^ x.2.2 ≤ 256 ∧ x.2.2 ≤ 4}) (fun x => [.rd 1 (irows x.1.1), I x.1.2.1, I x.1.2.2]) fun x => retOf [B (allB x.1.1 x.1.2.1 (2 ^ x.1.2.2))]
theorem F58_at (s : List Int) (f k : Nat) (hs : s.length = 256) (hf : f + 2 ^ k ≤ 256) (hk : k ≤ 4) : F58 [.rd 1 (irows s), I f, I k] = some (B (allB s f (2 ^ k))) :=
  specF_eq (ι := {x : List Int × Nat × Nat // x.1.length = 256 ∧ x.2.1 + 2 ^ x.2.2 ≤ 256 ∧ x.2.2 ≤ 4}) (A := fun x => [.rd 1 (irows x.1.1), I x.1.2.1, I x.1.2.2]) (R := fun x => retOf [B (allB x.1.1 x.1.2.1 (2 ^ x.1.2.2))]) ⟨(s, f, k), hs, hf, hk⟩ (by
    rintro ⟨⟨a, b, c⟩, h⟩ e
    simp [irows_inj, Int.ofNat_inj] at e
    obtain ⟨rfl, rfl, rfl⟩ := e; rfl)
noncomputable def F20 : List AV → Option AV := specF (ι := {x : Zn × Zn // small x.1 ∧ small x.2}) (fun x => [.agg x.1.1.cells, .agg x.1.2.cells]) fun x => retOf [B (sameB x.1.1 x.1.2)]
theorem F20_at {z y : Zn} (hz : small z) (hy : small y) : F20 [.agg z.cells, .agg y.cells] = some (B (sameB z y)) :=
  specF_eq (ι := {x : Zn × Zn // small x.1 ∧ small x.2}) (A := fun x => [.agg x.1.1.cells, .agg x.1.2.cells]) (R := fun x => retOf [B (sameB x.1.1 x.1.2)]) ⟨(z, y), hz, hy⟩ (by
    rintro ⟨⟨a, b⟩, h⟩ e
    simp [Zn.cells_inj] at e
    obtain ⟨rfl, rfl⟩ := e; rfl)
theorem F20_same {z : Zn} (hz : small z) : F20 [.agg [I z.node, I z.kind, I z.start, I z.count, I z.least, .rd 1 (irows z.f0), .rd 1 (irows z.f1), .rd 1 (irows z.f2), .rd 1 (irows z.f3), .rd 1 (irows z.f4)], .agg [I z.node, I z.kind, I z.start, I z.count, I z.least, .rd 1 (irows z.f0), .rd 1 (irows z.f1), .rd 1 (irows z.f2), .rd 1 (irows z.f3), .rd 1 (irows z.f4)]] = some (B true) :=
  (F20_at hz hz).trans (by rw [sameB_eq rfl])
noncomputable def F18 : List AV → Option AV := specF (ι := Int × Int × Int × Int × Int) (fun x => [I x.1, I x.2.1, I x.2.2.1, I x.2.2.2.1, I x.2.2.2.2]) fun x => retOf [.agg (newR (mkZ x.1 x.2.1 x.2.2.1 x.2.2.2.1 x.2.2.2.2)).ocells, I (newE (mkZ x.1 x.2.1 x.2.2.1 x.2.2.2.1 x.2.2.2.2))]
noncomputable def F19 : List AV → Option AV := specF (ι := Int × Int × Int × Int × Int) (fun x => [I x.1, I x.2.1, I x.2.2.1, I x.2.2.2.1, I x.2.2.2.2]) fun x => retOf [.agg (newR (mkZ x.1 x.2.1 x.2.2.1 x.2.2.2.1 x.2.2.2.2)).ocells, I (newE (mkZ x.1 x.2.1 x.2.2.1 x.2.2.2.1 x.2.2.2.2))]
theorem F18_at (a b c d e : Int) : F18 [I a, I b, I c, I d, I e] = some (.tup [.agg (newR (mkZ a b c d e)).ocells, I (newE (mkZ a b c d e))]) :=
  specF_eq (ι := Int × Int × Int × Int × Int) (A := fun x => [I x.1, I x.2.1, I x.2.2.1, I x.2.2.2.1, I x.2.2.2.2]) (R := fun x => retOf [.agg (newR (mkZ x.1 x.2.1 x.2.2.1 x.2.2.2.1 x.2.2.2.2)).ocells, I (newE (mkZ x.1 x.2.1 x.2.2.1 x.2.2.2.1 x.2.2.2.2))]) (a, b, c, d, e) (by
    rintro ⟨a, b, c, d, e⟩ h
    simp at h
    obtain ⟨rfl, rfl, rfl, rfl, rfl⟩ := h; rfl)
theorem F19_at (a b c d e : Int) : F19 [I a, I b, I c, I d, I e] = some (.tup [.agg (newR (mkZ a b c d e)).ocells, I (newE (mkZ a b c d e))]) := F18_at a b c d e

theorem irows_plain {l : List Int} : ∀ e ∈ irows l, ∀ a ∈ e, a.plain := by
  intro e he a ha
  obtain ⟨x, _, rfl⟩ := List.mem_map.1 he
  simp at ha; subst ha; trivial
theorem ocells_flat {z : Zn} : ∀ a ∈ z.ocells, a.flat1 := by
  intro a ha
  simp only [Zn.ocells, List.mem_cons, List.not_mem_nil, or_false] at ha
  rcases ha with rfl | rfl | rfl | rfl | rfl | rfl | rfl | rfl | rfl | rfl
  all_goals first | trivial | exact irows_plain
theorem flat_zone {z : Zn} : (retOf [.agg z.ocells]).flat := ocells_flat
theorem flat_zone1 {z : Zn} {e : Int} : (retOf [.agg z.ocells, I e]).flat := by
  simp only [retOf, AV.flat, List.mem_cons, List.not_mem_nil, or_false]
  rintro a (rfl | rfl)
  · exact ocells_flat
  · trivial
theorem flat_zone2 {z : Zn} {e g : Int} : (retOf [.agg z.ocells, I e, I g]).flat := by
  simp only [retOf, AV.flat, List.mem_cons, List.not_mem_nil, or_false]
  rintro a (rfl | rfl | rfl)
  · exact ocells_flat
  · trivial
  · trivial

theorem F48_flat {a0 : AV} {avs : List AV} {r o : AV} (h : F48 a0 avs = some (r, o)) : r.flat ∧ o.flatO := by
  unfold F48 specM at h
  split at h
  · simp only [Option.some.injEq, Prod.mk.injEq] at h
    obtain ⟨rfl, rfl⟩ := h
    exact ⟨by simp [retOf, AV.flat], ocells_flat⟩
  · simp at h
@[simp] theorem ty29 : Types Try.prog 29 = some ⟨.array 3 3, 3, 24, [.int .i64 0, .int .i64 0, .int .i64 0]⟩ := by kernel_rfl

noncomputable def U60 : AX := T17.add 60 ovlF
theorem u60 : XOK Try.prog U60 := xok_add t17 (.inr x60) (fun avs M nid r h => by
  unfold ovlF at h
  split at h <;> (try split at h) <;> (try split at h) <;> simp at h
  rw [← h]; simp)
noncomputable def U51 : AX := U60.add 51 (callM false one1 insF)
theorem u51 : XOK Try.prog U51 := xok_putM u60 (by kernel_rfl) (.inl ⟨(s51' U60 u60 rfl).callM fun _ _ _ _ h => insF_flat h, body_ok _ Try.func51 (by kernel_rfl)⟩) fun _ _ _ _ h => callM_keys h
noncomputable def U53 : AX := U51.add 53 (callM false one1 delF)
theorem u53 : XOK Try.prog U53 := xok_putM u51 (by kernel_rfl) (.inl ⟨(s53' U51 u51).callM fun _ _ _ _ h => delF_flat h, body_ok _ Try.func53 (by kernel_rfl)⟩) fun _ _ _ _ h => callM_keys h
noncomputable def U59 : AX := U53.add 59 (callP cloF)
theorem u59 : XOK Try.prog U59 := xok_add u53 (.inl ⟨(s59' U53 u53).callP fun _ _ h => cloF_flat h, body_ok _ Try.func59 (by kernel_rfl)⟩) fun _ _ _ _ h => callP_keys h
noncomputable def U48 : AX := U59.add 48 (callM false one1 F48)
theorem u48 : XOK Try.prog U48 := xok_putM u59 (by kernel_rfl) (.inl ⟨(s48 U59 u59 (AX.W.start _) rfl rfl rfl rfl).callM fun _ _ _ _ h => F48_flat h, body_ok _ Try.func48 (by kernel_rfl)⟩) fun _ _ _ _ h => callM_keys h
noncomputable def U32 : AX := U48.add 32 (callP F32)
theorem u32 : XOK Try.prog U32 := xok_spec u48 (s32 U48 u48) (fun _ => by simp [AV.flat, AV.flatV, AV.flat1]) Try.func32 (by kernel_rfl)
noncomputable def U58 : AX := U32.add 58 (callP F58)
theorem u58 : XOK Try.prog U58 := xok_spec u32 (s58 U32 u32) (fun _ => by simp [AV.flat, AV.flatV, AV.flat1]) Try.func58 (by kernel_rfl)
noncomputable def U20 : AX := U58.add 20 (callP F20)
theorem u20 : XOK Try.prog U20 := xok_spec u58 (s20 U58 u58 (AX.W.start _) cf32) (fun _ => by simp [AV.flat, AV.flatV, AV.flat1]) Try.func20 (by kernel_rfl)
noncomputable def U49 : AX := U20.add 49 (callP F49n)
theorem s49' : PSound Try.prog 49 F49 := s49 U20 u20 (AX.W.start _) rfl F58 rfl F58_at
theorem u49 : XOK Try.prog U49 := xok_specn u20 1 s49' (fun _ => flat_zone) Try.func49 (by kernel_rfl)
noncomputable def U41 : AX := U49.add 41 (callP F41n)
theorem u41 : XOK Try.prog U41 := xok_specn u49 1 (s41 U49 u49) (fun _ => by simp [AV.flat, AV.flatV, AV.flat1]) Try.func41 (by kernel_rfl)
noncomputable def U44 : AX := U41.add 44 (callP F44n)
theorem u44 : XOK Try.prog U44 := xok_specn u41 1 (s44 U41 u41) (fun _ => by simp [AV.flat, AV.flatV, AV.flat1]) Try.func44 (by kernel_rfl)
noncomputable def U18 : AX := U44.add 18 (callP F18)
theorem u18 : XOK Try.prog U18 := xok_spec u44 (s18 U44 u44 (AX.W.start _) rfl rfl) (fun _ => flat_zone1) Try.func18 (by kernel_rfl)
noncomputable def U19 : AX := U18.add 19 (callP F19)
theorem u19 : XOK Try.prog U19 := xok_spec u18 (s19 U18 u18 (AX.W.start _) rfl rfl) (fun _ => flat_zone1) Try.func19 (by kernel_rfl)
noncomputable def U14 : AX := U19.add 14 (callP F14)
theorem u14 : XOK Try.prog U14 := xok_add u19 (.inl ⟨s14.callP fun _ _ h => memo_flat (by kernel_rfl) h, body_ok _ Try.func14 (by kernel_rfl)⟩) fun _ _ _ _ h => callP_keys h

theorem newR_small (z : Zn) : small (newR z) := by
  unfold newR
  intro k hk
  split
  · rename_i hz
    have := valid_small ((newZ_same z z.count.toNat).ranges.2 hz) canon_valid k hk
    omega
  · rcases le4 hk with rfl | rfl | rfl | rfl | rfl <;> simp [zeroZ, Zn.fr]

theorem s4 (X : AX) (hX : XOK Try.prog X) (hw : X.W wT) (h14 : ∀ M n, X.call 14 [] M n = some (B true, [])) (h18 : X.call 18 = callP F18) (h19 : X.call 19 = callP F19) (h20 : X.call 20 = callP F20) :
    PSound Try.prog 4 (specF (ι := Int × Int × Int × Int × Int) (fun x => [I x.1, I x.2.1, .agg [I x.2.2.1, I x.2.2.2.1, I x.2.2.2.2]]) fun _ => retOf [B true]) := by
  refine psound_spec hX mixed Try.func4 rfl fun ⟨a, b, c, d, e⟩ w0 G => ⟨by show 3 ≤ 45; decide, rfl, ?_⟩
  show AW ⟨Try.prog, X, 45, w0, .pure G⟩ _ _ _
  have hc : Cx.OK ⟨Try.prog, X, 45, w0, .pure G⟩ := ⟨hX, mixed⟩
  obtain ⟨z, hz⟩ : ∃ z, z = newR (mkZ a b c d e) := ⟨_, rfl⟩
  have h18z := F18_at a b c d e
  have h19z := F19_at a b c d e
  rw [← hz] at h18z h19z
  have hzs := F20_same (hz ▸ newR_small _ : small z)
  repeat' (first | (apply aw_seq_k; intro K hK) | (refine aw_run hc (by first | exact aw_nod | (intro _; rw [ordB_w hw]; kernel_rfl) | (intro _; kernel_rfl)) ?_; simp [List.zipIdx, h14, h18, h19, h20, h18z, h19z, hzs, Zn.ocells, take_irows, -getM, getM_hit, getM_miss, getM_none]; (repeat (simp (disch := first | omega | assumption | fail) only [if_pos, if_neg, wrap64]; try simp [List.zipIdx, h14, h18, h19, h20, h18z, h19z, hzs, Zn.ocells, take_irows, -getM, getM_hit, getM_miss, getM_none])); try (repeat' (refine guardQ_split (fun h => ?_) (fun h => ?_) <;> simp at h <;> (simp [List.zipIdx, h14, h18, h19, h20, h18z, h19z, hzs, Zn.ocells, take_irows, -getM, getM_hit, getM_miss, getM_none]; (repeat (simp (disch := first | omega | assumption | fail) only [if_pos, if_neg, wrap64]; try simp [List.zipIdx, h14, h18, h19, h20, h18z, h19z, hzs, Zn.ocells, take_irows, -getM, getM_hit, getM_miss, getM_none])))))) | (refine aw_cond (b := _) (by exact rfl) (fun h => ?_) (fun h => ?_) <;> (try simp at h)) | (refine aw_block ?_) | (refine aw_skip ?_; simp only [thenQ, blockQ, if_true]) | (refine aw_exit ?_; simp [thenQ, blockQ]) | (refine aw_ret ?_; simp only [thenQ, blockQ]) | (refine aw_round ?_) | (refine hK _ ?_; clear hK) | (clear hK; refine hK _ ?_; clear hK) | (clear hK; clear hK; refine hK _ ?_; clear hK) | (clear hK; clear hK; clear hK; refine hK _ ?_; clear hK))
  refine ⟨by simp, ?_⟩
  simp [leaves_iff, Try.f4]
  try (first | omega | (refine decide_eq_decide.2 ?_; omega) | (refine decide_eq_false ?_; omega) | (refine decide_eq_true ?_; omega))
end Go.AM
