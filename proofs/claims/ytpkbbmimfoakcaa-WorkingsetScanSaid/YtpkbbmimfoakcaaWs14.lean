/- Workingset: the law Evicts. -/
import Derived.Test.YtpkbbmimfoakcaaWsE
set_option linter.all false

namespace Go.AM
open Go Go.Proofs

def U (n : Nat) : AV := .v (.int .u8 (n : Int))
def urows (l : List Nat) : List (List AV) := l.map fun (n : Nat) => [.v (.int .u8 (n : Int))]
@[simp] theorem urows_length (l : List Nat) : (urows l).length = l.length := by simp [urows]
theorem urows_inj {l m : List Nat} : urows l = urows m ↔ l = m := by
  unfold urows
  constructor
  · intro h
    refine (List.map_inj_right (f := fun n : Nat => [AV.v (.int .u8 (n : Int))]) ?_).1 h
    intro x y e
    simp at e
    exact Int.ofNat_inj.1 e
  · rintro rfl; rfl
def gn (l : List Nat) (n : Nat) : Nat := l.getD n 0
theorem urows_gi {l : List Nat} {n : Nat} (h : n < l.length) : (urows l)[n]? = some [.v (.int .u8 (gn l n : Int))] := by
  simp [urows, gn, List.getD_eq_getElem?_getD, h]
theorem urows_gE {l : List Nat} {n : Nat} (h : n < l.length) : ∀ h', (urows l)[n]'(h') = [.v (.int .u8 (gn l n : Int))] := fun h' => by
  have hg := urows_gi h
  rw [List.getElem?_eq_getElem h'] at hg; exact Option.some.inj hg
theorem gn_mem {l : List Nat} {n : Nat} (h : n < l.length) : gn l n ∈ l := by
  unfold gn
  rw [List.getD_eq_getElem?_getD, List.getElem?_eq_getElem h]
  exact List.getElem_mem h
theorem take_succ_gn {l : List Nat} {n : Nat} (h : n < l.length) : l.take (n + 1) = l.take n ++ [gn l n] := by
  unfold gn
  rw [List.take_succ_eq_append_getElem h, List.getD_eq_getElem?_getD, List.getElem?_eq_getElem h]; rfl
theorem gE {l : List Int} {n : Nat} (h : n < l.length) : ∀ h', (irows l)[n]'(h') = [I (gi l n)] := fun h' => by
  have hg := irows_gi h
  rw [List.getElem?_eq_getElem h'] at hg; exact Option.some.inj hg
theorem wrap8 {n : Int} (h : 0 ≤ n ∧ n < 256) : IntKind.u8.wrap n = n := by
  simp [IntKind.wrap, IntKind.bits, IntKind.signed]
  omega
theorem tmodN (a b : Nat) : ((a : Int)).tmod (b : Int) = ((a % b : Nat) : Int) := by
  rw [Int.tmod_eq_emod_of_nonneg (by omega)]; simp
theorem tmod12 (a : Nat) : ((a : Int)).tmod 12 = ((a % 12 : Nat) : Int) := tmodN a 12
theorem tmod16 (a : Nat) : ((a : Int)).tmod 16 = ((a % 16 : Nat) : Int) := tmodN a 16

def mods (l : List Nat) : List Int := l.map fun (x : Nat) => ((x % 16 : Nat) : Int)
theorem mods_succ {l : List Nat} {i : Nat} (h : i < l.length) : mods (l.take (i + 1)) = mods (l.take i) ++ [((gn l i % 16 : Nat) : Int)] := by
  unfold mods; rw [take_succ_gn h, List.map_append]; rfl
theorem mods_len (l : List Nat) : (mods l).length = l.length := by simp [mods]
theorem mods_gi {l : List Nat} {i : Nat} (h : i < l.length) : gi (mods l) i = ((gn l i % 16 : Nat) : Int) := by
  unfold gi mods gn
  simp [List.getD_eq_getElem?_getD, h]
theorem mods_mem {l : List Nat} {y : Int} (h : y ∈ mods l) : ∃ k : Nat, y = k ∧ k < 16 := by
  obtain ⟨x, _, rfl⟩ := List.mem_map.1 h
  exact ⟨_, rfl, Nat.mod_lt _ (by omega)⟩

/-- The cells of an array of numbers. -/
def ics (l : List Int) : List AV := l.map fun x => .v (.int .i64 x)
@[simp] theorem ics_len (l : List Int) : (ics l).length = l.length := by simp [ics]
theorem ics_get {l : List Int} {n : Nat} (h : n < l.length) : (ics l)[n]? = some (.v (.int .i64 (gi l n))) := by
  simp [ics, gi, List.getD_eq_getElem?_getD, h]
theorem ics_set (l : List Int) (n : Nat) (v : Int) : (ics l).set n (.v (.int .i64 v)) = ics (l.set n v) := by
  simp [ics, List.map_set]
@[simp] theorem ics_under (n : Nat) (l : List Int) : AV.underL n (ics l) := by
  induction l with
  | nil => simp [ics, AV.underL]
  | cons x l ih => simp only [ics, List.map_cons, AV.underL]; exact ⟨by simp [AV.under], ih⟩
@[simp] theorem ics_cur (M : Nat → AO) (l : List Int) : curL M (ics l) := by
  induction l with
  | nil => simp [ics, curL]
  | cons x l ih => simp only [ics, List.map_cons, curL]; exact ⟨by simp [AV.cur], ih⟩
@[simp] theorem ics_iso (n : Nat) (σ : Nat → Nat) (l : List Int) : isoL n σ (ics l) = ics l := by
  induction l with
  | nil => simp [ics, isoL]
  | cons x l ih => simp only [ics, List.map_cons, isoL] at ih ⊢; rw [ih]; simp [AV.iso]

def z16 : List Value := List.replicate 16 (.int .i64 0)
def o16 : List Int := List.replicate 16 0
theorem ty37 : Types Try.prog 37 = some ⟨.array 16 3, 16, 128, z16⟩ := by kernel_rfl
theorem z16_one : ∀ x ∈ z16, x.oneCell' = true := by
  intro x hx
  rw [(List.mem_replicate.1 hx).2]; rfl
theorem z16_all : (∀ x : Value, x ∈ z16 → x.oneCell' = true) = True := eq_true z16_one
theorem z16_map : z16.map AV.v = ics o16 := rfl
theorem at0 : atL ⟨[], [], [], []⟩ = o16 := rfl

set_option maxHeartbeats 2000000 in
theorem s7 (X : AX) (L : LawX X) (h11 : ∀ M n, X.call 11 [] M n = some (B true, [])) : PSound Try.prog 7 (specF (ι := {x : List Nat × Nat // (∀ y ∈ x.1, y < 256) ∧ x.2 < 256}) (fun x => [.rd 1 (urows x.1.1), U x.1.2]) fun _ => retOf [B true]) := by
  have hX := L.ok
  have hw := L.w
  refine psound_spec hX mixed Try.func7 rfl fun ⟨⟨l, s⟩, hb, hs⟩ w0 G => ⟨by show 2 ≤ 128; decide, rfl, ?_⟩
  show AW ⟨Try.prog, X, 128, w0, .pure G⟩ _ _ _
  have hc : Cx.OK ⟨Try.prog, X, 128, w0, .pure G⟩ := ⟨hX, mixed⟩
  simp only at hb hs ⊢
  rcases Decidable.em (300 < (l.length : Int)) with h | h
  · repeat' (first | (apply aw_seq_k; intro K hK) | (refine aw_run hc (by first | exact aw_nod | (intro _; rw [ordB_w hw]; kernel_rfl) | (intro _; rw [ordB_w0 hw0]; kernel_rfl) | (intro _; kernel_rfl)) ?_; simp [List.zipIdx, h11, h, -getM, getM_hit, getM_miss, getM_none]; (repeat (simp (disch := first | omega | assumption | fail) only [if_pos, if_neg, wrap64]; try simp [List.zipIdx, h11, h, -getM, getM_hit, getM_miss, getM_none])); try (repeat' (refine guardQ_split (fun h => ?_) (fun h => ?_) <;> simp at h <;> (simp [List.zipIdx, h11, h, -getM, getM_hit, getM_miss, getM_none]; (repeat (simp (disch := first | omega | assumption | fail) only [if_pos, if_neg, wrap64]; try simp [List.zipIdx, h11, h, -getM, getM_hit, getM_miss, getM_none])))))) | (refine aw_cond (b := _) (by exact rfl) (fun h => ?_) (fun h => ?_) <;> (try simp at h)) | (refine aw_block ?_) | (refine aw_skip ?_; simp only [thenQ, blockQ, if_true]) | (refine aw_exit ?_; simp [thenQ, blockQ]) | (refine aw_ret ?_; simp only [thenQ, blockQ]) | (refine aw_round ?_) | (refine hK _ ?_; clear hK) | (clear hK; refine hK _ ?_; clear hK) | (clear hK; clear hK; refine hK _ ?_; clear hK) | (clear hK; clear hK; clear hK; refine hK _ ?_; clear hK))
    refine ⟨by simp, ?_⟩
    simp [leaves_iff, Try.f7]
    try (first | omega | (refine decide_eq_decide.2 ?_; omega) | (refine decide_eq_false ?_; omega) | (refine decide_eq_true ?_; omega))
  · unfold U
    obtain ⟨c, hcc⟩ : ∃ c, c = s % 12 := ⟨_, rfl⟩
    have hc12 : c < 12 := by omega
    have e12 := tmod12 s
    rw [← hcc] at e12
    have hap : ∀ (A : List Int) (x : Int), irows A ++ [[I x]] = irows (A ++ [x]) := fun A x => by rw [irows_one, irows_append]
    repeat' (first | (apply aw_seq_k; intro K hK) | (refine aw_run hc (by first | exact aw_nod | (intro _; rw [ordB_w hw]; kernel_rfl) | (intro _; rw [ordB_w0 hw0]; kernel_rfl) | (intro _; kernel_rfl)) ?_; simp [List.zipIdx, h11, h, e12, -getM, getM_hit, getM_miss, getM_none]; (repeat (simp (disch := first | omega | assumption | fail) only [if_pos, if_neg, wrap64, wrap8]; try simp [List.zipIdx, h11, h, e12, -getM, getM_hit, getM_miss, getM_none])); try (repeat' (refine guardQ_split (fun h => ?_) (fun h => ?_) <;> simp at h <;> (simp [List.zipIdx, h11, h, e12, -getM, getM_hit, getM_miss, getM_none]; (repeat (simp (disch := first | omega | assumption | fail) only [if_pos, if_neg, wrap64, wrap8]; try simp [List.zipIdx, h11, h, e12, -getM, getM_hit, getM_miss, getM_none])))))) | (refine aw_cond (b := _) (by exact rfl) (fun h => ?_) (fun h => ?_) <;> (try simp at h)) | (refine aw_block ?_) | (refine aw_skip ?_; simp only [thenQ, blockQ, if_true]) | (refine aw_exit ?_; simp [thenQ, blockQ]) | (refine aw_ret ?_; simp only [thenQ, blockQ]) | (refine aw_round ?_) | (refine hK _ ?_; clear hK) | (clear hK; refine hK _ ?_; clear hK) | (clear hK; clear hK; refine hK _ ?_; clear hK) | (clear hK; clear hK; clear hK; refine hK _ ?_; clear hK))
    refine aw_weaken (le_nilslot (t := 6) (sz := 1) (by simp)) ?_
    refine aw_loopK (s0 := ?lps1) (m0 := ?lpm1) (ι := {i : Nat // i ≤ l.length}) [5, 28, 29] (fun i => [(30, I i.1), (6, .sl 272 1 1 0 (mods (l.take i.1)).length)]) (fun i => [(272, .vec 1 1 false (irows (mods (l.take i.1))))]) (fun i => l.length - i.1) ⟨0, by omega⟩ ?lhs1 ?lhm1 ?_ ?_
    case lhs1 => first | (simp [keepS]; done) | (simp [keepS]; rfl)
    case lhm1 => first | rfl | (simp; done) | (simp; rfl)
    · simp only [List.take_zero, mods, List.map_nil, List.length_nil]
      exact le_of2 (by simp) (by simp [AVle, AV.under, AV.underL] <;> omega) (by simp [AOle, AO.under, AV.underL, AV.under] <;> omega)
    · rintro ⟨i, hi⟩
      simp only
      obtain ⟨A, hA⟩ : ∃ A, A = mods (l.take i) := ⟨_, rfl⟩
      have hAl : A.length ≤ 1073741823 := by rw [hA, mods_len, List.length_take]; omega
      rcases Decidable.em (i < l.length) with hil | hil
      · have hilI : (i : Int) < (l.length : Int) := by omega
        have hg := urows_gi hil
        have hgE := urows_gE hil
        have hms := mods_succ hil
        rw [← hA] at hms ⊢
        have h256 := hb _ (gn_mem hil)
        obtain ⟨x, hx⟩ : ∃ x, x = gn l i := ⟨_, rfl⟩
        rw [← hx] at hg hgE hms h256
        obtain ⟨y, hy⟩ : ∃ y, y = x % 16 := ⟨_, rfl⟩
        have e16 := tmod16 x
        rw [← hy] at e16 hms
        have hy16 : y < 16 := by omega
        repeat' (first | (apply aw_seq_k; intro K hK) | (refine aw_run hc (by first | exact aw_nod | (intro _; rw [ordB_w hw]; kernel_rfl) | (intro _; rw [ordB_w0 hw0]; kernel_rfl) | (intro _; kernel_rfl)) ?_; simp [List.zipIdx, hilI, hg, hgE, e16, hap, tkI, hAl, -getM, getM_hit, getM_miss, getM_none]; (repeat (simp (disch := first | omega | assumption | fail) only [if_pos, if_neg, wrap64, wrap8]; try simp [List.zipIdx, hilI, hg, hgE, e16, hap, tkI, hAl, -getM, getM_hit, getM_miss, getM_none])); try (repeat' (refine guardQ_split (fun h => ?_) (fun h => ?_) <;> simp at h <;> (simp [List.zipIdx, hilI, hg, hgE, e16, hap, tkI, hAl, -getM, getM_hit, getM_miss, getM_none]; (repeat (simp (disch := first | omega | assumption | fail) only [if_pos, if_neg, wrap64, wrap8]; try simp [List.zipIdx, hilI, hg, hgE, e16, hap, tkI, hAl, -getM, getM_hit, getM_miss, getM_none])))))) | (refine aw_cond (b := _) (by exact rfl) (fun h => ?_) (fun h => ?_) <;> (try simp at h)) | (refine aw_block ?_) | (refine aw_skip ?_; simp only [thenQ, blockQ, if_true]) | (refine aw_exit ?_; simp [thenQ, blockQ]) | (refine aw_ret ?_; simp only [thenQ, blockQ]) | (refine aw_round ?_) | (refine hK _ ?_; clear hK) | (clear hK; refine hK _ ?_; clear hK) | (clear hK; clear hK; refine hK _ ?_; clear hK) | (clear hK; clear hK; clear hK; refine hK _ ?_; clear hK))
        refine ⟨i + 1, ?_, by omega, by omega⟩
        simp only [hms]
        refine le_turn (s1 := ?tus2) (m1 := ?tum2) [] [5, 28, 29, 6, 30] [272] ?tua2 ?tub2 ?tuc2 ?tud2 ?tue2 ?tuf2 ?tug2
        case tua2 => first | (simp [keepS]; done) | (simp [keepS]; rfl)
        case tub2 => first | (simp; done) | (simp; rfl)
        case tuc2 => simp
        case tud2 => simp
        case tue2 => simp
        case tuf2 => simp
        case tug2 =>
          simp [swp, vr]
          exact le_of2 (by simp) (by simp [AVle, AV.under, AV.underL] <;> omega) (by simp [AOle, AO.under, AV.underL, AV.under] <;> omega)
      · obtain rfl : i = l.length := by omega
        rw [List.take_length]
        have hLl := mods_len l
        have hmem := fun y hy => mods_mem (l := l) (y := y) hy
        have hmg := fun (i : Nat) (hi : i < l.length) => mods_gi hi
        obtain ⟨N, hN⟩ : ∃ N : Int, N = 1 + (c : Int) := ⟨_, rfl⟩
        rw [← hN]
        obtain ⟨Lm, hLm⟩ : ∃ Lm, Lm = mods l := ⟨_, rfl⟩
        rw [← hLm] at hLl hmem hmg ⊢
        have hF := F16_at Lm N
        have hR : refR Lm N = ((rrun N Lm Lm.length).out, 0) := by
          unfold refR
          rw [if_pos (errS_zero.2 ⟨by omega, by omega, by omega⟩)]
        rw [hR] at hF
        simp only at hF
        have hol := (rrun_inv (size := N) (by omega) Lm Lm.length).out
        obtain ⟨O, hO⟩ : ∃ O, O = (rrun N Lm Lm.length).out := ⟨_, rfl⟩
        rw [← hO] at hF hol
        repeat' (first | (apply aw_seq_k; intro K hK) | (refine aw_run hc (by first | exact aw_nod | (intro _; rw [ordB_w hw]; kernel_rfl) | (intro _; rw [ordB_w0 hw0]; kernel_rfl) | (intro _; kernel_rfl)) ?_; simp [List.zipIdx, L.h16, hF, tkI, hol, ty37, z16_all, z16_map, -getM, getM_hit, getM_miss, getM_none]; (repeat (simp (disch := first | omega | assumption | fail) only [if_pos, if_neg, wrap64]; try simp [List.zipIdx, L.h16, hF, tkI, hol, ty37, z16_all, z16_map, -getM, getM_hit, getM_miss, getM_none])); try (repeat' (refine guardQ_split (fun h => ?_) (fun h => ?_) <;> simp at h <;> (simp [List.zipIdx, L.h16, hF, tkI, hol, ty37, z16_all, z16_map, -getM, getM_hit, getM_miss, getM_none]; (repeat (simp (disch := first | omega | assumption | fail) only [if_pos, if_neg, wrap64]; try simp [List.zipIdx, L.h16, hF, tkI, hol, ty37, z16_all, z16_map, -getM, getM_hit, getM_miss, getM_none])))))) | (refine aw_cond (b := _) (by exact rfl) (fun h => ?_) (fun h => ?_) <;> (try simp at h)) | (refine aw_block ?_) | (refine aw_skip ?_; simp only [thenQ, blockQ, if_true]) | (refine aw_exit ?_; simp [thenQ, blockQ]) | (refine aw_ret ?_; simp only [thenQ, blockQ]) | (refine aw_round ?_) | (refine hK _ ?_; clear hK) | (clear hK; refine hK _ ?_; clear hK) | (clear hK; clear hK; refine hK _ ?_; clear hK) | (clear hK; clear hK; clear hK; refine hK _ ?_; clear hK))
        refine aw_weaken (le_nilslot (t := 12) (sz := 1) (by simp)) ?_
        obtain ⟨hsz⟩ : ∃ h : 1 ≤ N, True := ⟨by omega, trivial⟩
        have hinv := rrun_inv hsz Lm
        have hrm := rrun_mem N Lm
        have hro := fun (i : Nat) (hi : i < Lm.length) => rrun_out N hsz Lm hi
        rw [← hO] at hro
        refine aw_loopK (s0 := ?lps3) (m0 := ?lpm3) (ι := {i : Nat // i ≤ Lm.length}) [5, 9, 11, 56, 57] (fun i => [(58, I i.1), (13, I (rrun N Lm i.1).gone.length), (12, .sl 657 1 1 0 (rrun N Lm i.1).q.length)]) (fun i => [(561, .box (ics (atL (rrun N Lm i.1)))), (657, .vec 1 1 false (irows (rrun N Lm i.1).q))]) (fun i => Lm.length - i.1) ⟨0, by omega⟩ ?lhs3 ?lhm3 ?_ ?_
        case lhs3 => first | (simp [keepS]; done) | (simp [keepS]; rfl)
        case lhm3 => first | rfl | (simp; done) | (simp; rfl)
        · simp only [rrun, at0, List.length_nil]
          exact le_of2 (by simp) (by simp [AVle, AV.under, AV.underL] <;> omega) (by simp [AOle, AO.under, AV.underL, AV.under] <;> omega)
        · rintro ⟨i, hi⟩
          simp only
          obtain ⟨s, hs⟩ : ∃ s, s = rrun N Lm i := ⟨_, rfl⟩
          have hsi := hinv i
          have hrm1 := hrm i hi
          rw [← hs] at hsi hrm1 ⊢
          have hsucc : rrun N Lm (i + 1) = rstep N s (gi Lm i) := by rw [hs]; rfl
          rcases Decidable.em (i < Lm.length) with hil | hil
          · have hilI : (i : Int) < (Lm.length : Int) := by omega
            have hg := irows_gi hil
            have hgE := gE hil
            have hgo := irows_gi (l := O) (n := i) (by omega)
            have hgoE := gE (l := O) (n := i) (by omega)
            have hroi := hro i hil
            rw [← hs] at hroi
            obtain ⟨p, hp, hp16⟩ := hmem _ (gi_mem hil)
            rw [hp] at hg hgE hsucc hroi
            have hga := ics_get (l := atL s) (n := p) (by rw [atL_len]; omega)
            rw [atL_gi s hp16] at hga
            have hgaE : ∀ h, (ics (atL s))[p]'h = .v (.int .i64 (atv s p)) := fun h => by rw [List.getElem?_eq_getElem h] at hga; exact Option.some.inj hga
            have hal := atL_len s
            have hp16I : (p : Int) < 16 := by omega
            obtain ⟨d, hd⟩ : ∃ d, d = gi O i := ⟨_, rfl⟩
            rw [← hd] at hgo hgoE hroi
            have hlq : s.q.length ≤ 1073741823 := by have := hsi.qk; omega
            have htl : List.take (s.q.length - 1) (irows s.q).tail = irows (s.q.drop 1) := by rw [tlI, ← List.drop_one, irows_take, List.take_of_length_le (by simp)]
            unfold atv at hga hgaE
            rcases Decidable.em ((p : Int) ∈ s.q) with hpq | hpq
            · rw [if_pos hpq] at hga hgaE hroi
              subst hroi
              have hat := at_hit (size := N) hpq
              have hrq : rstep N s p = { s with out := s.out ++ [-1] } := by unfold rstep; rw [if_pos hpq]
              repeat' (first | (apply aw_seq_k; intro K hK) | (refine aw_run hc (by first | exact aw_nod | (intro _; rw [ordB_w hw]; kernel_rfl) | (intro _; rw [ordB_w0 hw0]; kernel_rfl) | (intro _; kernel_rfl)) ?_; simp [List.zipIdx, hilI, hg, hgE, hga, hgaE, hgo, hgoE, hal, hp16I, tkI, ty37, -getM, getM_hit, getM_miss, getM_none]; (repeat (simp (disch := first | omega | assumption | fail) only [if_pos, if_neg, wrap64]; try simp [List.zipIdx, hilI, hg, hgE, hga, hgaE, hgo, hgoE, hal, hp16I, tkI, ty37, -getM, getM_hit, getM_miss, getM_none])); try (repeat' (refine guardQ_split (fun h => ?_) (fun h => ?_) <;> simp at h <;> (simp [List.zipIdx, hilI, hg, hgE, hga, hgaE, hgo, hgoE, hal, hp16I, tkI, ty37, -getM, getM_hit, getM_miss, getM_none]; (repeat (simp (disch := first | omega | assumption | fail) only [if_pos, if_neg, wrap64]; try simp [List.zipIdx, hilI, hg, hgE, hga, hgaE, hgo, hgoE, hal, hp16I, tkI, ty37, -getM, getM_hit, getM_miss, getM_none])))))) | (refine aw_cond (b := _) (by exact rfl) (fun h => ?_) (fun h => ?_) <;> (try simp at h)) | (refine aw_block ?_) | (refine aw_skip ?_; simp only [thenQ, blockQ, if_true]) | (refine aw_exit ?_; simp [thenQ, blockQ]) | (refine aw_ret ?_; simp only [thenQ, blockQ]) | (refine aw_round ?_) | (refine hK _ ?_; clear hK) | (clear hK; refine hK _ ?_; clear hK) | (clear hK; clear hK; refine hK _ ?_; clear hK) | (clear hK; clear hK; clear hK; refine hK _ ?_; clear hK))
              refine ⟨i + 1, ?_, by omega, by omega⟩
              simp only [hsucc, hat]
              simp only [hrq]
              refine le_turn (s1 := ?tus4) (m1 := ?tum4) [] [5, 9, 11, 56, 57, 58, 13, 12] [272, 321, 561, 657] ?tua4 ?tub4 ?tuc4 ?tud4 ?tue4 ?tuf4 ?tug4
              case tua4 => first | (simp [keepS]; done) | (simp [keepS]; rfl)
              case tub4 => first | (simp; done) | (simp; rfl)
              case tuc4 => simp
              case tud4 => simp
              case tue4 => simp
              case tuf4 => simp
              case tug4 =>
                simp [swp, vr]
                exact le_of2 (by simp) (by simp [AVle, AV.under, AV.underL] <;> omega) (by simp [AOle, AO.under, AV.underL, AV.under] <;> omega)
            · rw [if_neg hpq] at hga hgaE hroi
              have hap : ∀ (A : List Int) (x : Int), irows A ++ [[I x]] = irows (A ++ [x]) := fun A x => by rw [irows_one, irows_append]
              rcases Decidable.em ((p : Int) ∈ s.gone) with hpg | hpg
              · rw [if_pos hpg] at hga hgaE
                obtain ⟨hd1, hd2⟩ := distL_rng hpg
                rw [← hroi] at hga hgaE hd1 hd2
                have hgl := hsi.gone
                have ha1 : ¬ ((s.gone.length : Int) + 1 - d = 0) := by omega
                have ha2 : ¬ ((s.gone.length : Int) + 1 - d = -1) := by omega
                have ha3 : 0 < (s.gone.length : Int) + 1 - d := by omega
                have ha5 : d < (s.gone.length : Int) + 1 := by omega
                have ha4 : (s.gone.length : Int) + 1 - ((s.gone.length : Int) + 1 - d) = d := by omega
                rcases Decidable.em ((s.q.length : Int) = N) with hf | hf
                · have hq0 : 0 < s.q.length := by omega
                  obtain ⟨x, hx, hx16⟩ := hmem _ (hrm1 _ (gi_mem (l := s.q) (n := 0) hq0))
                  have hgq := irows_gi (l := s.q) hq0
                  have hgqE := gE (l := s.q) hq0
                  rw [hx] at hgq hgqE
                  have hx16I : (x : Int) < 16 := by omega
                  have hat := at_evict hsi hsz hpq hf hp16 hx hx16
                  have hrq : rstep N s p = ⟨s.q.drop 1 ++ [(p : Int)], s.gone ++ [gi s.q 0], s.out ++ [distL s.gone p], mset (mdel s.held [gi s.q 0]) [(p : Int)] (B true)⟩ := by unfold rstep; rw [if_neg hpq, if_pos hf]
                  repeat' (first | (apply aw_seq_k; intro K hK) | (refine aw_run hc (by first | exact aw_nod | (intro _; rw [ordB_w hw]; kernel_rfl) | (intro _; rw [ordB_w0 hw0]; kernel_rfl) | (intro _; kernel_rfl)) ?_; simp [List.zipIdx, hilI, hg, hgE, hga, hgaE, hgo, hgoE, hal, hp16I, tkI, ty37, ha1, ha2, ha3, ha4, ha5, hf, hlq, hap, htl, ics_set, hq0, hgq, hgqE, hx16I, -getM, getM_hit, getM_miss, getM_none]; (repeat (simp (disch := first | omega | assumption | fail) only [if_pos, if_neg, wrap64]; try simp [List.zipIdx, hilI, hg, hgE, hga, hgaE, hgo, hgoE, hal, hp16I, tkI, ty37, ha1, ha2, ha3, ha4, ha5, hf, hlq, hap, htl, ics_set, hq0, hgq, hgqE, hx16I, -getM, getM_hit, getM_miss, getM_none])); try (repeat' (refine guardQ_split (fun h => ?_) (fun h => ?_) <;> simp at h <;> (simp [List.zipIdx, hilI, hg, hgE, hga, hgaE, hgo, hgoE, hal, hp16I, tkI, ty37, ha1, ha2, ha3, ha4, ha5, hf, hlq, hap, htl, ics_set, hq0, hgq, hgqE, hx16I, -getM, getM_hit, getM_miss, getM_none]; (repeat (simp (disch := first | omega | assumption | fail) only [if_pos, if_neg, wrap64]; try simp [List.zipIdx, hilI, hg, hgE, hga, hgaE, hgo, hgoE, hal, hp16I, tkI, ty37, ha1, ha2, ha3, ha4, ha5, hf, hlq, hap, htl, ics_set, hq0, hgq, hgqE, hx16I, -getM, getM_hit, getM_miss, getM_none])))))) | (refine aw_cond (b := _) (by exact rfl) (fun h => ?_) (fun h => ?_) <;> (try simp at h)) | (refine aw_block ?_) | (refine aw_skip ?_; simp only [thenQ, blockQ, if_true]) | (refine aw_exit ?_; simp [thenQ, blockQ]) | (refine aw_ret ?_; simp only [thenQ, blockQ]) | (refine aw_round ?_) | (refine hK _ ?_; clear hK) | (clear hK; refine hK _ ?_; clear hK) | (clear hK; clear hK; refine hK _ ?_; clear hK) | (clear hK; clear hK; clear hK; refine hK _ ?_; clear hK))
                  refine ⟨i + 1, ?_, by omega, by omega⟩
                  simp only [hsucc, ← hat]
                  simp only [hrq]
                  refine le_turn (s1 := ?tus5) (m1 := ?tum5) [] [5, 9, 11, 56, 57, 58, 13, 12] [272, 321, 561, 657] ?tua5 ?tub5 ?tuc5 ?tud5 ?tue5 ?tuf5 ?tug5
                  case tua5 => first | (simp [keepS]; done) | (simp [keepS]; rfl)
                  case tub5 => first | (simp; done) | (simp; rfl)
                  case tuc5 => simp
                  case tud5 => simp
                  case tue5 => simp
                  case tuf5 => simp
                  case tug5 =>
                    simp [swp, vr]
                    exact le_of2 (by simp) (by simp [AVle, AV.under, AV.underL] <;> omega) (by simp [AOle, AO.under, AV.underL, AV.under] <;> omega)
                · have hat := at_add (s := s) (size := N) hpq hf hp16
                  have hrq : rstep N s p = ⟨s.q ++ [(p : Int)], s.gone, s.out ++ [distL s.gone p], mset s.held [(p : Int)] (B true)⟩ := by unfold rstep; rw [if_neg hpq, if_neg hf]
                  repeat' (first | (apply aw_seq_k; intro K hK) | (refine aw_run hc (by first | exact aw_nod | (intro _; rw [ordB_w hw]; kernel_rfl) | (intro _; rw [ordB_w0 hw0]; kernel_rfl) | (intro _; kernel_rfl)) ?_; simp [List.zipIdx, hilI, hg, hgE, hga, hgaE, hgo, hgoE, hal, hp16I, tkI, ty37, ha1, ha2, ha3, ha4, ha5, hf, hlq, hap, ics_set, -getM, getM_hit, getM_miss, getM_none]; (repeat (simp (disch := first | omega | assumption | fail) only [if_pos, if_neg, wrap64]; try simp [List.zipIdx, hilI, hg, hgE, hga, hgaE, hgo, hgoE, hal, hp16I, tkI, ty37, ha1, ha2, ha3, ha4, ha5, hf, hlq, hap, ics_set, -getM, getM_hit, getM_miss, getM_none])); try (repeat' (refine guardQ_split (fun h => ?_) (fun h => ?_) <;> simp at h <;> (simp [List.zipIdx, hilI, hg, hgE, hga, hgaE, hgo, hgoE, hal, hp16I, tkI, ty37, ha1, ha2, ha3, ha4, ha5, hf, hlq, hap, ics_set, -getM, getM_hit, getM_miss, getM_none]; (repeat (simp (disch := first | omega | assumption | fail) only [if_pos, if_neg, wrap64]; try simp [List.zipIdx, hilI, hg, hgE, hga, hgaE, hgo, hgoE, hal, hp16I, tkI, ty37, ha1, ha2, ha3, ha4, ha5, hf, hlq, hap, ics_set, -getM, getM_hit, getM_miss, getM_none])))))) | (refine aw_cond (b := _) (by exact rfl) (fun h => ?_) (fun h => ?_) <;> (try simp at h)) | (refine aw_block ?_) | (refine aw_skip ?_; simp only [thenQ, blockQ, if_true]) | (refine aw_exit ?_; simp [thenQ, blockQ]) | (refine aw_ret ?_; simp only [thenQ, blockQ]) | (refine aw_round ?_) | (refine hK _ ?_; clear hK) | (clear hK; refine hK _ ?_; clear hK) | (clear hK; clear hK; refine hK _ ?_; clear hK) | (clear hK; clear hK; clear hK; refine hK _ ?_; clear hK))
                  refine ⟨i + 1, ?_, by omega, by omega⟩
                  simp only [hsucc, ← hat]
                  simp only [hrq]
                  refine le_turn (s1 := ?tus6) (m1 := ?tum6) [] [5, 9, 11, 56, 57, 58, 13, 12] [272, 321, 561, 657] ?tua6 ?tub6 ?tuc6 ?tud6 ?tue6 ?tuf6 ?tug6
                  case tua6 => first | (simp [keepS]; done) | (simp [keepS]; rfl)
                  case tub6 => first | (simp; done) | (simp; rfl)
                  case tuc6 => simp
                  case tud6 => simp
                  case tue6 => simp
                  case tuf6 => simp
                  case tug6 =>
                    simp [swp, vr]
                    exact le_of2 (by simp) (by simp [AVle, AV.under, AV.underL] <;> omega) (by simp [AOle, AO.under, AV.underL, AV.under] <;> omega)
              · rw [if_neg hpg] at hga hgaE
                rw [distL_not.2 hpg] at hroi
                subst hroi
                have hgl := hsi.gone
                rcases Decidable.em ((s.q.length : Int) = N) with hf | hf
                · have hq0 : 0 < s.q.length := by omega
                  obtain ⟨x, hx, hx16⟩ := hmem _ (hrm1 _ (gi_mem (l := s.q) (n := 0) hq0))
                  have hgq := irows_gi (l := s.q) hq0
                  have hgqE := gE (l := s.q) hq0
                  rw [hx] at hgq hgqE
                  have hx16I : (x : Int) < 16 := by omega
                  have hat := at_evict hsi hsz hpq hf hp16 hx hx16
                  have hrq : rstep N s p = ⟨s.q.drop 1 ++ [(p : Int)], s.gone ++ [gi s.q 0], s.out ++ [distL s.gone p], mset (mdel s.held [gi s.q 0]) [(p : Int)] (B true)⟩ := by unfold rstep; rw [if_neg hpq, if_pos hf]
                  repeat' (first | (apply aw_seq_k; intro K hK) | (refine aw_run hc (by first | exact aw_nod | (intro _; rw [ordB_w hw]; kernel_rfl) | (intro _; rw [ordB_w0 hw0]; kernel_rfl) | (intro _; kernel_rfl)) ?_; simp [List.zipIdx, hilI, hg, hgE, hga, hgaE, hgo, hgoE, hal, hp16I, tkI, ty37,  hf, hlq, hap, htl, ics_set, hq0, hgq, hgqE, hx16I, -getM, getM_hit, getM_miss, getM_none]; (repeat (simp (disch := first | omega | assumption | fail) only [if_pos, if_neg, wrap64]; try simp [List.zipIdx, hilI, hg, hgE, hga, hgaE, hgo, hgoE, hal, hp16I, tkI, ty37,  hf, hlq, hap, htl, ics_set, hq0, hgq, hgqE, hx16I, -getM, getM_hit, getM_miss, getM_none])); try (repeat' (refine guardQ_split (fun h => ?_) (fun h => ?_) <;> simp at h <;> (simp [List.zipIdx, hilI, hg, hgE, hga, hgaE, hgo, hgoE, hal, hp16I, tkI, ty37,  hf, hlq, hap, htl, ics_set, hq0, hgq, hgqE, hx16I, -getM, getM_hit, getM_miss, getM_none]; (repeat (simp (disch := first | omega | assumption | fail) only [if_pos, if_neg, wrap64]; try simp [List.zipIdx, hilI, hg, hgE, hga, hgaE, hgo, hgoE, hal, hp16I, tkI, ty37,  hf, hlq, hap, htl, ics_set, hq0, hgq, hgqE, hx16I, -getM, getM_hit, getM_miss, getM_none])))))) | (refine aw_cond (b := _) (by exact rfl) (fun h => ?_) (fun h => ?_) <;> (try simp at h)) | (refine aw_block ?_) | (refine aw_skip ?_; simp only [thenQ, blockQ, if_true]) | (refine aw_exit ?_; simp [thenQ, blockQ]) | (refine aw_ret ?_; simp only [thenQ, blockQ]) | (refine aw_round ?_) | (refine hK _ ?_; clear hK) | (clear hK; refine hK _ ?_; clear hK) | (clear hK; clear hK; refine hK _ ?_; clear hK) | (clear hK; clear hK; clear hK; refine hK _ ?_; clear hK))
                  refine ⟨i + 1, ?_, by omega, by omega⟩
                  simp only [hsucc, ← hat]
                  simp only [hrq]
                  refine le_turn (s1 := ?tus7) (m1 := ?tum7) [] [5, 9, 11, 56, 57, 58, 13, 12] [272, 321, 561, 657] ?tua7 ?tub7 ?tuc7 ?tud7 ?tue7 ?tuf7 ?tug7
                  case tua7 => first | (simp [keepS]; done) | (simp [keepS]; rfl)
                  case tub7 => first | (simp; done) | (simp; rfl)
                  case tuc7 => simp
                  case tud7 => simp
                  case tue7 => simp
                  case tuf7 => simp
                  case tug7 =>
                    simp [swp, vr]
                    exact le_of2 (by simp) (by simp [AVle, AV.under, AV.underL] <;> omega) (by simp [AOle, AO.under, AV.underL, AV.under] <;> omega)
                · have hat := at_add (s := s) (size := N) hpq hf hp16
                  have hrq : rstep N s p = ⟨s.q ++ [(p : Int)], s.gone, s.out ++ [distL s.gone p], mset s.held [(p : Int)] (B true)⟩ := by unfold rstep; rw [if_neg hpq, if_neg hf]
                  repeat' (first | (apply aw_seq_k; intro K hK) | (refine aw_run hc (by first | exact aw_nod | (intro _; rw [ordB_w hw]; kernel_rfl) | (intro _; rw [ordB_w0 hw0]; kernel_rfl) | (intro _; kernel_rfl)) ?_; simp [List.zipIdx, hilI, hg, hgE, hga, hgaE, hgo, hgoE, hal, hp16I, tkI, ty37,  hf, hlq, hap, ics_set, -getM, getM_hit, getM_miss, getM_none]; (repeat (simp (disch := first | omega | assumption | fail) only [if_pos, if_neg, wrap64]; try simp [List.zipIdx, hilI, hg, hgE, hga, hgaE, hgo, hgoE, hal, hp16I, tkI, ty37,  hf, hlq, hap, ics_set, -getM, getM_hit, getM_miss, getM_none])); try (repeat' (refine guardQ_split (fun h => ?_) (fun h => ?_) <;> simp at h <;> (simp [List.zipIdx, hilI, hg, hgE, hga, hgaE, hgo, hgoE, hal, hp16I, tkI, ty37,  hf, hlq, hap, ics_set, -getM, getM_hit, getM_miss, getM_none]; (repeat (simp (disch := first | omega | assumption | fail) only [if_pos, if_neg, wrap64]; try simp [List.zipIdx, hilI, hg, hgE, hga, hgaE, hgo, hgoE, hal, hp16I, tkI, ty37,  hf, hlq, hap, ics_set, -getM, getM_hit, getM_miss, getM_none])))))) | (refine aw_cond (b := _) (by exact rfl) (fun h => ?_) (fun h => ?_) <;> (try simp at h)) | (refine aw_block ?_) | (refine aw_skip ?_; simp only [thenQ, blockQ, if_true]) | (refine aw_exit ?_; simp [thenQ, blockQ]) | (refine aw_ret ?_; simp only [thenQ, blockQ]) | (refine aw_round ?_) | (refine hK _ ?_; clear hK) | (clear hK; refine hK _ ?_; clear hK) | (clear hK; clear hK; refine hK _ ?_; clear hK) | (clear hK; clear hK; clear hK; refine hK _ ?_; clear hK))
                  refine ⟨i + 1, ?_, by omega, by omega⟩
                  simp only [hsucc, ← hat]
                  simp only [hrq]
                  refine le_turn (s1 := ?tus8) (m1 := ?tum8) [] [5, 9, 11, 56, 57, 58, 13, 12] [272, 321, 561, 657] ?tua8 ?tub8 ?tuc8 ?tud8 ?tue8 ?tuf8 ?tug8
                  case tua8 => first | (simp [keepS]; done) | (simp [keepS]; rfl)
                  case tub8 => first | (simp; done) | (simp; rfl)
                  case tuc8 => simp
                  case tud8 => simp
                  case tue8 => simp
                  case tuf8 => simp
                  case tug8 =>
                    simp [swp, vr]
                    exact le_of2 (by simp) (by simp [AVle, AV.under, AV.underL] <;> omega) (by simp [AOle, AO.under, AV.underL, AV.under] <;> omega)
          · obtain rfl : i = Lm.length := by omega
            repeat' (first | (apply aw_seq_k; intro K hK) | (refine aw_run hc (by first | exact aw_nod | (intro _; rw [ordB_w hw]; kernel_rfl) | (intro _; rw [ordB_w0 hw0]; kernel_rfl) | (intro _; kernel_rfl)) ?_; simp [List.zipIdx, -getM, getM_hit, getM_miss, getM_none]; (repeat (simp (disch := first | omega | assumption | fail) only [if_pos, if_neg, wrap64]; try simp [List.zipIdx, -getM, getM_hit, getM_miss, getM_none])); try (repeat' (refine guardQ_split (fun h => ?_) (fun h => ?_) <;> simp at h <;> (simp [List.zipIdx, -getM, getM_hit, getM_miss, getM_none]; (repeat (simp (disch := first | omega | assumption | fail) only [if_pos, if_neg, wrap64]; try simp [List.zipIdx, -getM, getM_hit, getM_miss, getM_none])))))) | (refine aw_cond (b := _) (by exact rfl) (fun h => ?_) (fun h => ?_) <;> (try simp at h)) | (refine aw_block ?_) | (refine aw_skip ?_; simp only [thenQ, blockQ, if_true]) | (refine aw_exit ?_; simp [thenQ, blockQ]) | (refine aw_ret ?_; simp only [thenQ, blockQ]) | (refine aw_round ?_) | (refine hK _ ?_; clear hK) | (clear hK; refine hK _ ?_; clear hK) | (clear hK; clear hK; refine hK _ ?_; clear hK) | (clear hK; clear hK; clear hK; refine hK _ ?_; clear hK))
            refine ⟨by simp, ?_⟩
            simp [leaves_iff, Try.f7]
            try (first | omega | (refine decide_eq_decide.2 ?_; omega) | (refine decide_eq_false ?_; omega) | (refine decide_eq_true ?_; omega))
end Go.AM
