/- Workingset: the law Enough. -/
import Derived.Test.YtpkbbmimfoakcaaWsH
set_option linter.all false

namespace Go.AM
open Go Go.Proofs

def nis (l : List Nat) : List Int := l.map fun (x : Nat) => (x : Int)
theorem nis_len (l : List Nat) : (nis l).length = l.length := by simp [nis]
theorem nis_app (l m : List Nat) : nis (l ++ m) = nis l ++ nis m := by simp [nis]
theorem nis_take (l : List Nat) (k : Nat) : nis (l.take k) = (nis l).take k := by simp [nis, List.map_take]
theorem nis_succ {l : List Nat} {i : Nat} (h : i < l.length) : nis (l.take (i + 1)) = nis (l.take i) ++ [(gn l i : Int)] := by
  rw [take_succ_gn h, nis_app]; rfl
theorem nis_gi {l : List Nat} {i : Nat} (h : i < l.length) : gi (nis l) i = (gn l i : Int) := by
  unfold gi nis gn
  simp [List.getD_eq_getElem?_getD, h]
theorem nis_mem {l : List Nat} {x : Nat} : (x : Int) ∈ nis l ↔ x ∈ l := by
  unfold nis
  rw [List.mem_map]
  constructor
  · rintro ⟨y, hy, e⟩
    rw [← Int.ofNat_inj.1 e]; exact hy
  · intro h; exact ⟨x, h, rfl⟩
theorem difn_nis {l : List Nat} {i : Nat} (h : i < l.length) : difn (nis l) (i + 1) = difn (nis l) i + if gn l i ∈ l.take i then 0 else 1 := by
  simp only [difn]
  rw [nis_gi h, ← nis_take]
  simp only [nis_mem]

/-- The cells of an array of truths. -/
def bcs (l : List Bool) : List AV := l.map B
def gb (l : List Bool) (n : Nat) : Bool := l.getD n false
@[simp] theorem bcs_len (l : List Bool) : (bcs l).length = l.length := by simp [bcs]
theorem bcs_get {l : List Bool} {n : Nat} (h : n < l.length) : (bcs l)[n]? = some (B (gb l n)) := by
  simp [bcs, gb, List.getD_eq_getElem?_getD, h]
theorem bcs_set (l : List Bool) (n : Nat) (v : Bool) : (bcs l).set n (B v) = bcs (l.set n v) := by
  simp [bcs, List.map_set]
@[simp] theorem bcs_under (n : Nat) (l : List Bool) : AV.underL n (bcs l) := by
  induction l with
  | nil => simp [bcs, AV.underL]
  | cons x l ih => simp only [bcs, List.map_cons, AV.underL]; exact ⟨by simp [AV.under], ih⟩
@[simp] theorem bcs_cur (M : Nat → AO) (l : List Bool) : curL M (bcs l) := by
  induction l with
  | nil => simp [bcs, curL]
  | cons x l ih => simp only [bcs, List.map_cons, curL]; exact ⟨by simp [AV.cur], ih⟩
@[simp] theorem bcs_iso (n : Nat) (σ : Nat → Nat) (l : List Bool) : isoL n σ (bcs l) = bcs l := by
  induction l with
  | nil => simp [bcs, isoL]
  | cons x l ih => simp only [bcs, List.map_cons, isoL] at ih ⊢; rw [ih]; simp [AV.iso]

def seenL (l : List Nat) : List Bool := (List.range 256).map fun k => decide (k ∈ l)
theorem seenL_len (l : List Nat) : (seenL l).length = 256 := by simp [seenL]
theorem seenL_gb (l : List Nat) {k : Nat} (h : k < 256) : gb (seenL l) k = decide (k ∈ l) := by
  unfold gb seenL
  simp [List.getD_eq_getElem?_getD, h]
theorem seenL_ext {l m : List Nat} (h : ∀ k, k ∈ l ↔ k ∈ m) : seenL l = seenL m := by
  unfold seenL
  refine List.map_congr_left fun k _ => ?_
  simp [h]
theorem seenL_set {l m : List Nat} {x : Nat} (hm : ∀ k, k ∈ m ↔ k ∈ l ∨ k = x) : (seenL l).set x true = seenL m := by
  refine List.ext_getElem (by simp [seenL]) fun k h1 h2 => ?_
  rw [List.getElem_set]
  simp only [seenL, List.getElem_map, List.getElem_range]
  by_cases e : x = k
  · subst e; simp [hm]
  · rw [if_neg e]
    have : k ≠ x := fun h => e h.symm
    simp [hm, this]

def z256 : List Value := List.replicate 256 (.bool false)
def o256 : List Bool := List.replicate 256 false
theorem ty39 : Types Try.prog 39 = some ⟨.array 256 4, 256, 256, z256⟩ := by kernel_rfl
theorem z256_one : ∀ x ∈ z256, x.oneCell' = true := by
  intro x hx
  rw [(List.mem_replicate.1 hx).2]; rfl
theorem z256_all : (∀ x : Value, x ∈ z256 → x.oneCell' = true) = True := eq_true z256_one
theorem z256_map : z256.map AV.v = bcs o256 := by
  unfold z256 bcs o256
  rw [List.map_replicate, List.map_replicate]
theorem seen0 : seenL [] = o256 := by decide +kernel

set_option maxHeartbeats 2000000 in
theorem s8 (X : AX) (L : LawX X) (h11 : ∀ M n, X.call 11 [] M n = some (B true, [])) : PSound Try.prog 8 (specF (ι := {x : List Nat × Nat × Nat // (∀ y ∈ x.1, y < 256) ∧ x.2.1 < 256 ∧ x.2.2 < 256}) (fun x => [.rd 1 (urows x.1.1), U x.1.2.1, U x.1.2.2]) fun _ => retOf [B true]) := by
  have hX := L.ok
  have hw := L.w
  refine psound_spec hX mixed Try.func8 rfl fun ⟨⟨l, s, a⟩, hb, hs, ha⟩ w0 G => ⟨by show 3 ≤ 121; decide, rfl, ?_⟩
  show AW ⟨Try.prog, X, 121, w0, .pure G⟩ _ _ _
  have hc : Cx.OK ⟨Try.prog, X, 121, w0, .pure G⟩ := ⟨hX, mixed⟩
  simp only at hb hs ha ⊢
  rcases Decidable.em (300 < (l.length : Int)) with h | h
  · repeat' (first | (apply aw_seq_k; intro K hK) | (refine aw_run hc (by first | exact aw_nod | (intro _; rw [ordB_w hw]; kernel_rfl) | (intro _; rw [ordB_w0 hw0]; kernel_rfl) | (intro _; kernel_rfl)) ?_; simp [List.zipIdx, h11, h, -getM, getM_hit, getM_miss, getM_none]; (repeat (simp (disch := first | omega | assumption | fail) only [if_pos, if_neg, wrap64]; try simp [List.zipIdx, h11, h, -getM, getM_hit, getM_miss, getM_none])); try (repeat' (refine guardQ_split (fun h => ?_) (fun h => ?_) <;> simp at h <;> (simp [List.zipIdx, h11, h, -getM, getM_hit, getM_miss, getM_none]; (repeat (simp (disch := first | omega | assumption | fail) only [if_pos, if_neg, wrap64]; try simp [List.zipIdx, h11, h, -getM, getM_hit, getM_miss, getM_none])))))) | (refine aw_cond (b := _) (by exact rfl) (fun h => ?_) (fun h => ?_) <;> (try simp at h)) | (refine aw_block ?_) | (refine aw_skip ?_; simp only [thenQ, blockQ, if_true]) | (refine aw_exit ?_; simp [thenQ, blockQ]) | (refine aw_ret ?_; simp only [thenQ, blockQ]) | (refine aw_round ?_) | (refine hK _ ?_; clear hK) | (clear hK; refine hK _ ?_; clear hK) | (clear hK; clear hK; refine hK _ ?_; clear hK) | (clear hK; clear hK; clear hK; refine hK _ ?_; clear hK))
    refine ⟨by simp, ?_⟩
    simp [leaves_iff, Try.f8]
    try (first | omega | (refine decide_eq_decide.2 ?_; omega) | (refine decide_eq_false ?_; omega) | (refine decide_eq_true ?_; omega))
  · unfold U
    have h300 := h
    have hap : ∀ (A : List Int) (x : Int), irows A ++ [[I x]] = irows (A ++ [x]) := fun A x => by rw [irows_one, irows_append]
    repeat' (first | (apply aw_seq_k; intro K hK) | (refine aw_run hc (by first | exact aw_nod | (intro _; rw [ordB_w hw]; kernel_rfl) | (intro _; rw [ordB_w0 hw0]; kernel_rfl) | (intro _; kernel_rfl)) ?_; simp [List.zipIdx, h11, h, ty39, z256_all, z256_map, -getM, getM_hit, getM_miss, getM_none]; (repeat (simp (disch := first | omega | assumption | fail) only [if_pos, if_neg, wrap64, wrap8]; try simp [List.zipIdx, h11, h, ty39, z256_all, z256_map, -getM, getM_hit, getM_miss, getM_none])); try (repeat' (refine guardQ_split (fun h => ?_) (fun h => ?_) <;> simp at h <;> (simp [List.zipIdx, h11, h, ty39, z256_all, z256_map, -getM, getM_hit, getM_miss, getM_none]; (repeat (simp (disch := first | omega | assumption | fail) only [if_pos, if_neg, wrap64, wrap8]; try simp [List.zipIdx, h11, h, ty39, z256_all, z256_map, -getM, getM_hit, getM_miss, getM_none])))))) | (refine aw_cond (b := _) (by exact rfl) (fun h => ?_) (fun h => ?_) <;> (try simp at h)) | (refine aw_block ?_) | (refine aw_skip ?_; simp only [thenQ, blockQ, if_true]) | (refine aw_exit ?_; simp [thenQ, blockQ]) | (refine aw_ret ?_; simp only [thenQ, blockQ]) | (refine aw_round ?_) | (refine hK _ ?_; clear hK) | (clear hK; refine hK _ ?_; clear hK) | (clear hK; clear hK; refine hK _ ?_; clear hK) | (clear hK; clear hK; clear hK; refine hK _ ?_; clear hK))
    refine aw_weaken (le_nilslot (t := 8) (sz := 1) (by simp)) ?_
    refine aw_loopK (s0 := ?lps1) (m0 := ?lpm1) (ι := {i : Nat // i ≤ l.length}) [1, 2, 7, 27, 28] (fun i => [(29, I i.1), (9, I (difn (nis l) i.1)), (8, .sl 224 1 1 0 (nis (l.take i.1)).length)]) (fun i => [(128, .box (bcs (seenL (l.take i.1)))), (224, .vec 1 1 false (irows (nis (l.take i.1))))]) (fun i => l.length - i.1) ⟨0, by omega⟩ ?lhs1 ?lhm1 ?_ ?_
    case lhs1 => first | (simp [keepS]; done) | (simp [keepS]; rfl)
    case lhm1 => first | rfl | (simp; done) | (simp; rfl)
    · simp only [List.take_zero, nis, List.map_nil, List.length_nil, seen0, difn]
      exact le_of2 (by simp) (by simp [AVle, AV.under, AV.underL] <;> omega) (by simp [AOle, AO.under, AV.underL, AV.under] <;> omega)
    · rintro ⟨i, hi⟩
      simp only
      obtain ⟨A, hA⟩ : ∃ A, A = nis (l.take i) := ⟨_, rfl⟩
      have hAl : A.length ≤ 1073741823 := by rw [hA, nis_len, List.length_take]; omega
      obtain ⟨S, hS⟩ : ∃ S, S = seenL (l.take i) := ⟨_, rfl⟩
      have hSl : S.length = 256 := by rw [hS, seenL_len]
      rcases Decidable.em (i < l.length) with hil | hil
      · have hilI : (i : Int) < (l.length : Int) := by omega
        have hg := urows_gi hil
        have hgE := urows_gE hil
        have hms := nis_succ hil
        have hdn := difn_nis hil
        have hdl := difn_le (nis l) i
        have h256 := hb _ (gn_mem hil)
        have hts := take_succ_gn hil
        rw [← hA] at hms ⊢
        rw [← hS]
        obtain ⟨x, hx⟩ : ∃ x, x = gn l i := ⟨_, rfl⟩
        rw [← hx] at hg hgE hms h256 hdn hts
        obtain ⟨D, hD⟩ : ∃ D, D = difn (nis l) i := ⟨_, rfl⟩
        rw [← hD] at hdl hdn ⊢
        have hga := bcs_get (l := S) (n := x) (by omega)
        rw [hS, seenL_gb _ h256, ← hS] at hga
        have hgaE : ∀ h, (bcs S)[x]'h = B (decide (x ∈ l.take i)) := fun h => by rw [List.getElem?_eq_getElem h] at hga; exact Option.some.inj hga
        have hxI : (x : Int) < 256 := by omega
        rcases Decidable.em (x ∈ l.take i) with hm | hm
        · rw [if_pos hm] at hdn
          simp only [hm, decide_true] at hga hgaE
          have hse : seenL (l.take (i + 1)) = S := by
            rw [hS]; refine seenL_ext fun k => ?_
            rw [hts, List.mem_append, List.mem_singleton]
            exact ⟨fun h => h.elim id fun e => e ▸ hm, .inl⟩
          repeat' (first | (apply aw_seq_k; intro K hK) | (refine aw_run hc (by first | exact aw_nod | (intro _; rw [ordB_w hw]; kernel_rfl) | (intro _; rw [ordB_w0 hw0]; kernel_rfl) | (intro _; kernel_rfl)) ?_; simp [List.zipIdx, hilI, hg, hgE, hga, hgaE, hSl, hxI, hap, tkI, hAl, ty39, -getM, getM_hit, getM_miss, getM_none]; (repeat (simp (disch := first | omega | assumption | fail) only [if_pos, if_neg, wrap64, wrap8]; try simp [List.zipIdx, hilI, hg, hgE, hga, hgaE, hSl, hxI, hap, tkI, hAl, ty39, -getM, getM_hit, getM_miss, getM_none])); try (repeat' (refine guardQ_split (fun h => ?_) (fun h => ?_) <;> simp at h <;> (simp [List.zipIdx, hilI, hg, hgE, hga, hgaE, hSl, hxI, hap, tkI, hAl, ty39, -getM, getM_hit, getM_miss, getM_none]; (repeat (simp (disch := first | omega | assumption | fail) only [if_pos, if_neg, wrap64, wrap8]; try simp [List.zipIdx, hilI, hg, hgE, hga, hgaE, hSl, hxI, hap, tkI, hAl, ty39, -getM, getM_hit, getM_miss, getM_none])))))) | (refine aw_cond (b := _) (by exact rfl) (fun h => ?_) (fun h => ?_) <;> (try simp at h)) | (refine aw_block ?_) | (refine aw_skip ?_; simp only [thenQ, blockQ, if_true]) | (refine aw_exit ?_; simp [thenQ, blockQ]) | (refine aw_ret ?_; simp only [thenQ, blockQ]) | (refine aw_round ?_) | (refine hK _ ?_; clear hK) | (clear hK; refine hK _ ?_; clear hK) | (clear hK; clear hK; refine hK _ ?_; clear hK) | (clear hK; clear hK; clear hK; refine hK _ ?_; clear hK))
          refine ⟨i + 1, ?_, by omega, by omega⟩
          simp only [hms, hse, hdn]
          refine le_turn (s1 := ?tus2) (m1 := ?tum2) [] [1, 2, 7, 27, 28, 8, 9, 29] [128, 224] ?tua2 ?tub2 ?tuc2 ?tud2 ?tue2 ?tuf2 ?tug2
          case tua2 => first | (simp [keepS]; done) | (simp [keepS]; rfl)
          case tub2 => first | (simp; done) | (simp; rfl)
          case tuc2 => simp
          case tud2 => simp
          case tue2 => simp
          case tuf2 => simp
          case tug2 =>
            simp [swp, vr]
            exact le_of2 (by simp) (by simp [AVle, AV.under, AV.underL] <;> omega) (by simp [AOle, AO.under, AV.underL, AV.under] <;> omega)
        · rw [if_neg hm] at hdn
          simp only [hm, decide_false] at hga hgaE
          have hse : S.set x true = seenL (l.take (i + 1)) := by
            rw [hS]; refine seenL_set fun k => ?_
            rw [hts, List.mem_append, List.mem_singleton]
          repeat' (first | (apply aw_seq_k; intro K hK) | (refine aw_run hc (by first | exact aw_nod | (intro _; rw [ordB_w hw]; kernel_rfl) | (intro _; rw [ordB_w0 hw0]; kernel_rfl) | (intro _; kernel_rfl)) ?_; simp [List.zipIdx, hilI, hg, hgE, hga, hgaE, hSl, hxI, hap, tkI, hAl, ty39, bcs_set, -getM, getM_hit, getM_miss, getM_none]; (repeat (simp (disch := first | omega | assumption | fail) only [if_pos, if_neg, wrap64, wrap8]; try simp [List.zipIdx, hilI, hg, hgE, hga, hgaE, hSl, hxI, hap, tkI, hAl, ty39, bcs_set, -getM, getM_hit, getM_miss, getM_none])); try (repeat' (refine guardQ_split (fun h => ?_) (fun h => ?_) <;> simp at h <;> (simp [List.zipIdx, hilI, hg, hgE, hga, hgaE, hSl, hxI, hap, tkI, hAl, ty39, bcs_set, -getM, getM_hit, getM_miss, getM_none]; (repeat (simp (disch := first | omega | assumption | fail) only [if_pos, if_neg, wrap64, wrap8]; try simp [List.zipIdx, hilI, hg, hgE, hga, hgaE, hSl, hxI, hap, tkI, hAl, ty39, bcs_set, -getM, getM_hit, getM_miss, getM_none])))))) | (refine aw_cond (b := _) (by exact rfl) (fun h => ?_) (fun h => ?_) <;> (try simp at h)) | (refine aw_block ?_) | (refine aw_skip ?_; simp only [thenQ, blockQ, if_true]) | (refine aw_exit ?_; simp [thenQ, blockQ]) | (refine aw_ret ?_; simp only [thenQ, blockQ]) | (refine aw_round ?_) | (refine hK _ ?_; clear hK) | (clear hK; refine hK _ ?_; clear hK) | (clear hK; clear hK; refine hK _ ?_; clear hK) | (clear hK; clear hK; clear hK; refine hK _ ?_; clear hK))
          refine ⟨i + 1, ?_, by omega, by omega⟩
          simp only [hms, ← hse, hdn]
          refine le_turn (s1 := ?tus3) (m1 := ?tum3) [] [1, 2, 7, 27, 28, 8, 9, 29] [128, 224] ?tua3 ?tub3 ?tuc3 ?tud3 ?tue3 ?tuf3 ?tug3
          case tua3 => first | (simp [keepS]; done) | (simp [keepS]; rfl)
          case tub3 => first | (simp; done) | (simp; rfl)
          case tuc3 => simp
          case tud3 => simp
          case tue3 => simp
          case tuf3 => simp
          case tug3 =>
            simp [swp, vr]
            exact le_of2 (by simp) (by simp [AVle, AV.under, AV.underL] <;> omega) (by simp [AOle, AO.under, AV.underL, AV.under] <;> omega)
      · obtain rfl : i = l.length := by omega
        rw [List.take_length]
        have hLl := nis_len l
        have hdl := difn_le (nis l) l.length
        rw [← hLl] at hdl
        have hdL : difn (nis l) l.length = difn (nis l) (nis l).length := by rw [hLl]
        rw [hdL]
        obtain ⟨Lm, hLm⟩ : ∃ Lm, Lm = nis l := ⟨_, rfl⟩
        rw [← hLm] at hLl hdl ⊢
        obtain ⟨D, hD⟩ : ∃ D, D = difn Lm Lm.length := ⟨_, rfl⟩
        rw [hLl] at hD
        have hLL : difn Lm Lm.length = D := by rw [hLl, hD]
        have hDl : (D : Int) ≤ 300 := by omega
        obtain ⟨N, hN⟩ : ∃ N : Int, N = max 1 (D : Int) := ⟨_, rfl⟩
        have hN1 : 1 ≤ N := by omega
        have hN2 : N ≤ 300 := by omega
        have hN3 : (difn Lm Lm.length : Int) ≤ N := by omega
        have hNn : ¬ N + 1 = 0 := by omega
        obtain ⟨Z, hZ⟩ : ∃ Z : Int, Z = 1 + (s : Int) := ⟨_, rfl⟩
        obtain ⟨b, hbb⟩ : ∃ b : Int, b = (a : Int).tmod (N + 1) := ⟨_, rfl⟩
        have hb0 : 0 ≤ b := by rw [hbb]; exact Int.tmod_nonneg _ (by omega)
        have hb1 : b < N + 1 := by rw [hbb]; exact Int.tmod_lt_of_pos _ (by omega)
        have hF1 := F16_at Lm Z
        have hR1 : refR Lm Z = ((rrun Z Lm Lm.length).out, 0) := by
          unfold refR
          rw [if_pos (errS_zero.2 ⟨by omega, by omega, by omega⟩)]
        rw [hR1] at hF1
        have hF2 := F16_at Lm N
        have hR2 : refR Lm N = ((rrun N Lm Lm.length).out, 0) := by
          unfold refR
          rw [if_pos (errS_zero.2 ⟨by omega, by omega, by omega⟩)]
        rw [hR2] at hF2
        have hF3 := F19_at Lm N b
        have hR3 : lisR Lm N b = ((lrun N b Lm Lm.length).out, 0) := by
          have h1 : ¬ (b < 0 ∨ N < b) := by omega
          have hE : lisE Lm.length N b = 0 := by
            unfold lisE
            rw [if_pos (errS_zero.2 ⟨by omega, by omega, by omega⟩), if_neg h1]
          unfold lisR
          rw [if_pos hE]
        rw [hR3] at hF3
        simp only at hF1 hF2 hF3
        have hO1 := (rrun_inv (size := Z) (by omega) Lm Lm.length).out
        have hO2 := (rrun_inv (size := N) (by omega) Lm Lm.length).out
        have hO3 := (lrun_inv (size := N) (b := b) (by omega) Lm Lm.length).out
        have hG1 := (fl_few Z Lm Lm.length (by omega)).1
        have hG2 := (fl_all (size := N) Lm hN3 Lm.length (by omega)).1
        have hG3 := (fl_two (size := N) (b := b) Lm hN3 Lm.length (by omega)).1
        obtain ⟨O1, hO1e⟩ : ∃ O, O = (rrun Z Lm Lm.length).out := ⟨_, rfl⟩
        obtain ⟨O2, hO2e⟩ : ∃ O, O = (rrun N Lm Lm.length).out := ⟨_, rfl⟩
        obtain ⟨O3, hO3e⟩ : ∃ O, O = (lrun N b Lm Lm.length).out := ⟨_, rfl⟩
        rw [← hO1e] at hF1 hO1 hG1
        rw [← hO2e] at hF2 hO2 hG2
        rw [← hO3e] at hF3 hO3 hG3
        rw [hLL] at hG1 hG2 hG3 ⊢
        have hC1 := F22_at O1 (by omega)
        have hC2 := F22_at O2 (by omega)
        have hC3 := F22_at O3 (by omega)
        rw [hG2] at hC2
        rw [hG3] at hC3
        have hT : ∀ O : List Int, O.length = Lm.length → List.take Lm.length (irows O) = irows O := fun O h => List.take_of_length_le (by rw [irows_length]; omega)
        have hT1 := hT O1 hO1
        have hT2 := hT O2 hO2
        have hT3 := hT O3 hO3
        have hge : (D : Int) ≤ (fl O1 : Int) := by omega
        repeat' (first | (apply aw_seq_k; intro K hK) | (refine aw_run hc (by first | exact aw_nod | (intro _; rw [ordB_w hw]; kernel_rfl) | (intro _; rw [ordB_w0 hw0]; kernel_rfl) | (intro _; kernel_rfl)) ?_; simp [List.zipIdx, L.h16, L.h19, L.h22, hF1, hF2, hF3, hC1, hC2, hC3, hO1, hO2, hO3, hT1, hT2, hT3, ← hN, ← hZ, ← hbb, hNn, hge, tkI, -getM, getM_hit, getM_miss, getM_none]; (repeat (simp (disch := first | omega | assumption | fail) only [if_pos, if_neg, wrap64]; try simp [List.zipIdx, L.h16, L.h19, L.h22, hF1, hF2, hF3, hC1, hC2, hC3, hO1, hO2, hO3, hT1, hT2, hT3, ← hN, ← hZ, ← hbb, hNn, hge, tkI, -getM, getM_hit, getM_miss, getM_none])); try (repeat' (refine guardQ_split (fun h => ?_) (fun h => ?_) <;> simp at h <;> (simp [List.zipIdx, L.h16, L.h19, L.h22, hF1, hF2, hF3, hC1, hC2, hC3, hO1, hO2, hO3, hT1, hT2, hT3, ← hN, ← hZ, ← hbb, hNn, hge, tkI, -getM, getM_hit, getM_miss, getM_none]; (repeat (simp (disch := first | omega | assumption | fail) only [if_pos, if_neg, wrap64]; try simp [List.zipIdx, L.h16, L.h19, L.h22, hF1, hF2, hF3, hC1, hC2, hC3, hO1, hO2, hO3, hT1, hT2, hT3, ← hN, ← hZ, ← hbb, hNn, hge, tkI, -getM, getM_hit, getM_miss, getM_none])))))) | (refine aw_cond (b := _) (by exact rfl) (fun h => ?_) (fun h => ?_) <;> (try simp at h)) | (refine aw_block ?_) | (refine aw_skip ?_; simp only [thenQ, blockQ, if_true]) | (refine aw_exit ?_; simp [thenQ, blockQ]) | (refine aw_ret ?_; simp only [thenQ, blockQ]) | (refine aw_round ?_) | (refine hK _ ?_; clear hK) | (clear hK; refine hK _ ?_; clear hK) | (clear hK; clear hK; refine hK _ ?_; clear hK) | (clear hK; clear hK; clear hK; refine hK _ ?_; clear hK))
        refine ⟨by simp, ?_⟩
        simp [leaves_iff, Try.f8]
        try (first | omega | (refine decide_eq_decide.2 ?_; omega) | (refine decide_eq_false ?_; omega) | (refine decide_eq_true ?_; omega))
end Go.AM
