/- Rmap: the law Forks. -/
import Derived.Test.YtallcianhjejiaaRm13
set_option linter.all false

namespace Go.AM
open Go Go.Proofs

theorem chkV_mem {l : List Mp} : chkV l ↔ ∀ m ∈ l, valM m := by
  constructor
  · intro h m hm
    obtain ⟨j, hj, rfl⟩ := List.getElem_of_mem hm
    rw [← gm_eq hj]; exact h j hj
  · intro h i hi
    exact h _ (gm_mem hi)
theorem chkO_pw {l : List Mp} : chkO l ↔ l.Pairwise ltM := by
  constructor
  · intro h
    rw [List.pairwise_iff_getElem]
    intro i j hi hj hij
    have := chkO_lt h hij hj
    rwa [gm_eq hi, gm_eq hj] at this
  · intro h i hi
    rw [gm_eq (by omega), gm_eq hi]
    exact List.pairwise_iff_getElem.1 h i (i + 1) (by omega) hi (by omega)
theorem lt_nodup {l : List Mp} (h : l.Pairwise ltM) : l.Nodup := h.imp fun {a b} hab e => by subst e; exact ltM_irr _ hab
theorem lt_le {l : List Mp} (h : l.Pairwise ltM) : l.Pairwise leM := h.imp fun {a b} hab hba => ltM_irr _ (ltM_trans hab hba)
theorem le_lt {l : List Mp} (h : l.Pairwise leM) (hn : l.Nodup) : l.Pairwise ltM := by
  have := h.and hn
  refine this.imp fun {a b} hab => ?_
  rcases ltM_tri a b with h1 | h1 | h1
  · exact h1
  · exact absurd h1 hab.2
  · exact absurd h1 hab.1
theorem cpG_perm (f t : Int) (l : List Mp) : (cpG f t l).Perm (l ++ cpC f t l) := by simpa [cpG] using cpF_perm f t l []
theorem cpC_mem {f t : Int} {l : List Mp} {m : Mp} : m ∈ cpC f t l ↔ m.1 = t ∧ (f, m.2) ∈ l := by
  obtain ⟨a, b⟩ := m
  unfold cpC
  simp only [List.mem_map, List.mem_filter, decide_eq_true_eq, Prod.exists, Prod.mk.injEq]
  constructor
  · rintro ⟨x, y, ⟨h1, rfl⟩, rfl, rfl⟩
    exact ⟨rfl, h1⟩
  · rintro ⟨rfl, h⟩
    exact ⟨f, b, ⟨h, rfl⟩, rfl, rfl⟩
theorem cpC_nodup {f t : Int} : ∀ {l : List Mp}, l.Nodup → (cpC f t l).Nodup
  | [], _ => by simp [cpC]
  | x :: r, h => by
    obtain ⟨h1, h2⟩ := List.nodup_cons.1 h
    have ih := cpC_nodup (f := f) (t := t) h2
    by_cases e : x.1 = f
    · have : cpC f t (x :: r) = (t, x.2) :: cpC f t r := by unfold cpC; simp [e]
      rw [this, List.nodup_cons]
      refine ⟨fun hm => h1 ?_, ih⟩
      have := (cpC_mem.1 hm).2
      simp only at this
      rw [← e] at this
      exact this
    · have : cpC f t (x :: r) = cpC f t r := by unfold cpC; simp [e]
      rw [this]; exact ih
theorem fork_mem {p c : Int} {l : List Mp} {m : Mp} : m ∈ cpG p c l ↔ m ∈ l ∨ m.1 = c ∧ (p, m.2) ∈ l := by
  rw [(cpG_perm p c l).mem_iff, List.mem_append, cpC_mem]
theorem fork_chk {p c : Int} {l : List Mp} (h : chk l = 0) (hc : spN c) (hn : ∀ m ∈ l, m.1 ≠ c) : chk (cpG p c l) = 0 := by
  obtain ⟨hv, ho⟩ := chk_zero.1 h
  rw [chkV_mem] at hv
  have hpw := chkO_pw.1 ho
  refine chk_z (chkV_mem.2 fun m hm => ?_) (chkO_pw.2 (le_lt (cpF_sorted p c l [] List.Pairwise.nil) ?_))
  · rcases fork_mem.1 hm with hm | ⟨h1, h2⟩
    · exact hv m hm
    · have := hv _ h2
      unfold valM at this ⊢
      unfold spN at hc
      rw [h1]
      exact ⟨hc, this.2⟩
  · refine (cpG_perm p c l).nodup_iff.2 (List.nodup_append.2 ⟨lt_nodup hpw, cpC_nodup (lt_nodup hpw), fun a ha b hb e => ?_⟩)
    subst e
    exact hn a ha (cpC_mem.1 hb).1
theorem fork_drop {p c : Int} {l : List Mp} (h : chk l = 0) (hc : spN c) (hn : ∀ m ∈ l, m.1 ≠ c) : dropR (cpG p c l) c = l := by
  unfold dropR
  rw [if_pos (fork_chk h hc hn)]
  have hpw := chkO_pw.1 (chk_zero.1 h).2
  refine sort_uniq ?_ ((cpF_sorted p c l [] List.Pairwise.nil).sublist List.filter_sublist) (lt_le hpw)
  unfold dropM
  refine ((cpG_perm p c l).filter _).trans ?_
  rw [List.filter_append]
  have h1 : (l.filter fun m => !decide (m.1 = c)) = l := by
    rw [List.filter_eq_self]
    intro m hm
    simpa using hn m hm
  have h2 : ((cpC p c l).filter fun m => !decide (m.1 = c)) = [] := by
    rw [List.filter_eq_nil_iff]
    intro m hm
    simpa using (cpC_mem.1 hm).1
  rw [h1, h2, List.append_nil]
def cntM (l : List Mp) (p : Int) : Nat := l.countP fun m => decide (m.1 = p)
theorem cntM_snoc (l : List Mp) (p : Int) (m : Mp) : cntM (l ++ [m]) p = cntM l p + if m.1 = p then 1 else 0 := by
  unfold cntM
  rw [List.countP_append]
  by_cases h : m.1 = p <;> simp [h]
theorem cntM_le (l : List Mp) (p : Int) : cntM l p ≤ l.length := List.countP_le_length
theorem fork_len (p c : Int) (l : List Mp) : (cpG p c l).length = l.length + cntM l p := by
  rw [(cpG_perm p c l).length_eq, List.length_append]
  unfold cpC cntM
  rw [List.length_map, List.countP_eq_length_filter]

def U (n : Nat) : AV := .v (.int .u8 (n : Int))
theorem tmodN (a b : Nat) : ((a : Int)).tmod (b : Int) = ((a % b : Nat) : Int) := by
  rw [Int.tmod_eq_emod_of_nonneg (by omega)]; simp
theorem wrap8 {n : Int} (h : 0 ≤ n ∧ n < 256) : IntKind.u8.wrap n = n := by
  simp [IntKind.wrap, IntKind.bits, IntKind.signed]
  omega
@[simp] theorem ty5 : Types Try.prog 5 = some ⟨.int .u8, 1, 1, [.int .u8 0]⟩ := by kernel_rfl

set_option maxHeartbeats 1000000 in
theorem s5 (X : AX) (L : LawX X) (h8 : ∀ M n, X.call 8 [] M n = some (B true, [])) : PSound Try.prog 5 (specF (ι := {x : List Mp × Nat × Nat // x.2.1 < 256 ∧ x.2.2 < 256}) (fun x => [.rd 2 (prows x.1.1), U x.1.2.1, U x.1.2.2]) fun _ => retOf [B true]) := by
  have hX := L.ok
  have hw := L.w
  refine psound_spec hX mixed Try.func5 rfl fun ⟨⟨l, s, t⟩, hs, ht⟩ w0 G => ⟨by show 3 ≤ 102; decide, rfl, ?_⟩
  show AW ⟨Try.prog, X, 102, w0, .pure G⟩ _ _ _
  have hc : Cx.OK ⟨Try.prog, X, 102, w0, .pure G⟩ := ⟨hX, mixed⟩
  simp only at hs ht ⊢
  unfold U
  rcases Decidable.em (40 < (l.length : Int)) with h | h
  · repeat' (first | (apply aw_seq_k; intro K hK) | (refine aw_run hc (by first | exact aw_nod | (intro _; rw [ordB_w hw]; kernel_rfl) | (intro _; rw [ordB_w0 hw0]; kernel_rfl) | (intro _; kernel_rfl)) ?_; simp [List.zipIdx, h8, h, -getM, getM_hit, getM_miss, getM_none]; (repeat (simp (disch := first | omega | assumption | fail) only [if_pos, if_neg, wrap64]; try simp [List.zipIdx, h8, h, -getM, getM_hit, getM_miss, getM_none])); try (repeat' (refine guardQ_split (fun h => ?_) (fun h => ?_) <;> simp at h <;> (simp [List.zipIdx, h8, h, -getM, getM_hit, getM_miss, getM_none]; (repeat (simp (disch := first | omega | assumption | fail) only [if_pos, if_neg, wrap64]; try simp [List.zipIdx, h8, h, -getM, getM_hit, getM_miss, getM_none])))))) | (refine aw_cond (b := _) (by exact rfl) (fun h => ?_) (fun h => ?_) <;> (try simp at h)) | (refine aw_block ?_) | (refine aw_skip ?_; simp only [thenQ, blockQ, if_true]) | (refine aw_exit ?_; simp [thenQ, blockQ]) | (refine aw_ret ?_; simp only [thenQ, blockQ]) | (refine aw_round ?_) | (refine hK _ ?_; clear hK) | (clear hK; refine hK _ ?_; clear hK) | (clear hK; clear hK; refine hK _ ?_; clear hK) | (clear hK; clear hK; clear hK; refine hK _ ?_; clear hK))
    refine ⟨by simp, ?_⟩
    simp [leaves_iff, Try.f5]
    try (first | omega | (refine decide_eq_decide.2 ?_; omega) | (refine decide_eq_false ?_; omega) | (refine decide_eq_true ?_; omega))
  · have hl : l.length ≤ 40 := by omega
    have e1 := tmodN s 8
    have e2 := tmodN t 8
    obtain ⟨p, hp⟩ : ∃ p, p = s % 8 := ⟨_, rfl⟩
    obtain ⟨c, hcc⟩ : ∃ c, c = t % 8 := ⟨_, rfl⟩
    rw [← hp] at e1
    rw [← hcc] at e2
    have hp8 : p < 8 := by omega
    have hc8 : c < 8 := by omega
    have e1' : ((s : Int)).tmod 8 = (p : Int) := e1
    have e2' : ((t : Int)).tmod 8 = (c : Int) := e2
    repeat' (first | (apply aw_seq_k; intro K hK) | (refine aw_run hc (by first | exact aw_nod | (intro _; rw [ordB_w hw]; kernel_rfl) | (intro _; rw [ordB_w0 hw0]; kernel_rfl) | (intro _; kernel_rfl)) ?_; simp [List.zipIdx, h8, h, e1', e2', -getM, getM_hit, getM_miss, getM_none]; (repeat (simp (disch := first | omega | assumption | fail) only [if_pos, if_neg, wrap64, wrap8]; try simp [List.zipIdx, h8, h, e1', e2', -getM, getM_hit, getM_miss, getM_none])); try (repeat' (refine guardQ_split (fun h => ?_) (fun h => ?_) <;> simp at h <;> (simp [List.zipIdx, h8, h, e1', e2', -getM, getM_hit, getM_miss, getM_none]; (repeat (simp (disch := first | omega | assumption | fail) only [if_pos, if_neg, wrap64, wrap8]; try simp [List.zipIdx, h8, h, e1', e2', -getM, getM_hit, getM_miss, getM_none])))))) | (refine aw_cond (b := _) (by exact rfl) (fun h => ?_) (fun h => ?_) <;> (try simp at h)) | (refine aw_block ?_) | (refine aw_skip ?_; simp only [thenQ, blockQ, if_true]) | (refine aw_exit ?_; simp [thenQ, blockQ]) | (refine aw_ret ?_; simp only [thenQ, blockQ]) | (refine aw_round ?_) | (refine hK _ ?_; clear hK) | (clear hK; refine hK _ ?_; clear hK) | (clear hK; clear hK; refine hK _ ?_; clear hK) | (clear hK; clear hK; clear hK; refine hK _ ?_; clear hK))
    refine aw_loopK (s0 := ?lps1) (m0 := ?lpm1) (ι := {i : Nat // i ≤ l.length ∧ ∀ j, j < i → ¬ (gm l j).1 = (c : Int)}) [0, 7, 8, 30, 31] (fun i => [(32, I i.1), (9, I (cntM (l.take i.1) p))]) (fun _ => []) (fun i => l.length - i.1) ⟨0, by omega, by omega⟩ ?lhs1 ?lhm1 ?_ ?_
    case lhs1 => first | (simp [keepS]; done) | (simp [keepS]; rfl)
    case lhm1 => first | rfl | (simp; done) | (simp; rfl)
    · simp only [List.take_zero, cntM, List.countP_nil]
      exact le_of2 (by simp) (by simp [AVle, AV.under, AV.underL] <;> omega) (by simp [AOle, AO.under, AV.underL, AV.under] <;> omega)
    · rintro ⟨i, hi, hinv⟩
      simp only
      rcases Decidable.em (i < l.length) with hil | hil
      · have hilI : (i : Int) < (l.length : Int) := by omega
        have hg := prows_gi hil
        have hgE := prows_gE hil
        have hins := cntM_snoc (l.take i) p (gm l i)
        rw [← take_succ_gm hil] at hins
        have hcl := cntM_le (l.take i) p
        rw [List.length_take] at hcl
        obtain ⟨N, hN⟩ : ∃ N, N = cntM (l.take i) p := ⟨_, rfl⟩
        rw [← hN] at hins hcl ⊢
        obtain ⟨⟨x, y⟩, hm⟩ : ∃ m, m = gm l i := ⟨_, rfl⟩
        rw [← hm] at hg hgE hins
        simp only at hg hgE hins
        have hNb : N ≤ 40 := by omega
        rcases Decidable.em (x = (c : Int)) with hv | hv
        · repeat' (first | (apply aw_seq_k; intro K hK) | (refine aw_run hc (by first | exact aw_nod | (intro _; rw [ordB_w hw]; kernel_rfl) | (intro _; rw [ordB_w0 hw0]; kernel_rfl) | (intro _; kernel_rfl)) ?_; simp [List.zipIdx, hilI, hg, hgE, hv, -getM, getM_hit, getM_miss, getM_none]; (repeat (simp (disch := first | omega | assumption | fail) only [if_pos, if_neg, wrap64]; try simp [List.zipIdx, hilI, hg, hgE, hv, -getM, getM_hit, getM_miss, getM_none])); try (repeat' (refine guardQ_split (fun h => ?_) (fun h => ?_) <;> simp at h <;> (simp [List.zipIdx, hilI, hg, hgE, hv, -getM, getM_hit, getM_miss, getM_none]; (repeat (simp (disch := first | omega | assumption | fail) only [if_pos, if_neg, wrap64]; try simp [List.zipIdx, hilI, hg, hgE, hv, -getM, getM_hit, getM_miss, getM_none])))))) | (refine aw_cond (b := _) (by exact rfl) (fun h => ?_) (fun h => ?_) <;> (try simp at h)) | (refine aw_block ?_) | (refine aw_skip ?_; simp only [thenQ, blockQ, if_true]) | (refine aw_exit ?_; simp [thenQ, blockQ]) | (refine aw_ret ?_; simp only [thenQ, blockQ]) | (refine aw_round ?_) | (refine hK _ ?_; clear hK) | (clear hK; refine hK _ ?_; clear hK) | (clear hK; clear hK; refine hK _ ?_; clear hK) | (clear hK; clear hK; clear hK; refine hK _ ?_; clear hK))
          refine ⟨by simp, ?_⟩
          simp [leaves_iff, Try.f5]
          try (first | omega | (refine decide_eq_decide.2 ?_; omega) | (refine decide_eq_false ?_; omega) | (refine decide_eq_true ?_; omega))
        · rcases Decidable.em (x = (p : Int)) with hv2 | hv2
          · rw [if_pos hv2] at hins
            subst hv2
            repeat' (first | (apply aw_seq_k; intro K hK) | (refine aw_run hc (by first | exact aw_nod | (intro _; rw [ordB_w hw]; kernel_rfl) | (intro _; rw [ordB_w0 hw0]; kernel_rfl) | (intro _; kernel_rfl)) ?_; simp [List.zipIdx, hilI, hg, hgE, hv, -getM, getM_hit, getM_miss, getM_none]; (repeat (simp (disch := first | omega | assumption | fail) only [if_pos, if_neg, wrap64]; try simp [List.zipIdx, hilI, hg, hgE, hv, -getM, getM_hit, getM_miss, getM_none])); try (repeat' (refine guardQ_split (fun h => ?_) (fun h => ?_) <;> simp at h <;> (simp [List.zipIdx, hilI, hg, hgE, hv, -getM, getM_hit, getM_miss, getM_none]; (repeat (simp (disch := first | omega | assumption | fail) only [if_pos, if_neg, wrap64]; try simp [List.zipIdx, hilI, hg, hgE, hv, -getM, getM_hit, getM_miss, getM_none])))))) | (refine aw_cond (b := _) (by exact rfl) (fun h => ?_) (fun h => ?_) <;> (try simp at h)) | (refine aw_block ?_) | (refine aw_skip ?_; simp only [thenQ, blockQ, if_true]) | (refine aw_exit ?_; simp [thenQ, blockQ]) | (refine aw_ret ?_; simp only [thenQ, blockQ]) | (refine aw_round ?_) | (refine hK _ ?_; clear hK) | (clear hK; refine hK _ ?_; clear hK) | (clear hK; clear hK; refine hK _ ?_; clear hK) | (clear hK; clear hK; clear hK; refine hK _ ?_; clear hK))
            refine ⟨i + 1, ?_, ⟨by omega, fun j hj => ?_⟩, by omega⟩
            · simp only [hins]
              exact le_of2 (by simp) (by simp [AVle, AV.under, AV.underL] <;> omega) (by simp [AOle, AO.under, AV.underL, AV.under] <;> omega)
            · rcases Nat.lt_succ_iff_lt_or_eq.1 hj with h | rfl
              · exact hinv j h
              · rw [← hm]; exact hv
          · rw [if_neg hv2] at hins
            repeat' (first | (apply aw_seq_k; intro K hK) | (refine aw_run hc (by first | exact aw_nod | (intro _; rw [ordB_w hw]; kernel_rfl) | (intro _; rw [ordB_w0 hw0]; kernel_rfl) | (intro _; kernel_rfl)) ?_; simp [List.zipIdx, hilI, hg, hgE, hv, hv2, -getM, getM_hit, getM_miss, getM_none]; (repeat (simp (disch := first | omega | assumption | fail) only [if_pos, if_neg, wrap64]; try simp [List.zipIdx, hilI, hg, hgE, hv, hv2, -getM, getM_hit, getM_miss, getM_none])); try (repeat' (refine guardQ_split (fun h => ?_) (fun h => ?_) <;> simp at h <;> (simp [List.zipIdx, hilI, hg, hgE, hv, hv2, -getM, getM_hit, getM_miss, getM_none]; (repeat (simp (disch := first | omega | assumption | fail) only [if_pos, if_neg, wrap64]; try simp [List.zipIdx, hilI, hg, hgE, hv, hv2, -getM, getM_hit, getM_miss, getM_none])))))) | (refine aw_cond (b := _) (by exact rfl) (fun h => ?_) (fun h => ?_) <;> (try simp at h)) | (refine aw_block ?_) | (refine aw_skip ?_; simp only [thenQ, blockQ, if_true]) | (refine aw_exit ?_; simp [thenQ, blockQ]) | (refine aw_ret ?_; simp only [thenQ, blockQ]) | (refine aw_round ?_) | (refine hK _ ?_; clear hK) | (clear hK; refine hK _ ?_; clear hK) | (clear hK; clear hK; refine hK _ ?_; clear hK) | (clear hK; clear hK; clear hK; refine hK _ ?_; clear hK))
            refine ⟨i + 1, ?_, ⟨by omega, fun j hj => ?_⟩, by omega⟩
            · simp only [hins]
              exact le_of2 (by simp) (by simp [AVle, AV.under, AV.underL] <;> omega) (by simp [AOle, AO.under, AV.underL, AV.under] <;> omega)
            · rcases Nat.lt_succ_iff_lt_or_eq.1 hj with h | rfl
              · exact hinv j h
              · rw [← hm]; exact hv
      · obtain rfl : i = l.length := by omega
        rw [List.take_length]
        have hno : ∀ m ∈ l, m.1 ≠ (c : Int) := fun m hm => by
          obtain ⟨j, hj, rfl⟩ := List.getElem_of_mem hm
          have := hinv j hj
          rwa [gm_eq hj] at this
        have hspc : spN (c : Int) := by unfold spN; omega
        have hspp : spN (p : Int) := by unfold spN; omega
        have hF := F15_at l p c (by omega)
        have hK9 := F9_at l (by omega)
        rcases Decidable.em (chk l = 0) with h0 | h0
        · have hx : ¬ cpX l p c := by
            rintro ⟨j, hj, _, e⟩
            exact hno _ e rfl
          rw [cpyR_z h0 ⟨hspp, hspc⟩ hx] at hF
          simp only at hF
          have hgl := fork_len p c l
          have hgc := fork_chk (p := p) h0 hspc hno
          have hgd := fork_drop (p := p) h0 hspc hno
          have hgm := fun m => fork_mem (p := p) (c := c) (l := l) (m := m)
          have hcl := cntM_le l p
          obtain ⟨g, hgg⟩ : ∃ g, g = cpG p c l := ⟨_, rfl⟩
          rw [← hgg] at hF hgl hgc hgd
          have hgm' : ∀ m, m ∈ g ↔ m ∈ l ∨ m.1 = (c : Int) ∧ ((p : Int), m.2) ∈ l := fun m => by rw [hgg]; exact hgm m
          obtain ⟨N, hN⟩ : ∃ N, N = cntM l p := ⟨_, rfl⟩
          rw [← hN] at hgl hcl ⊢
          have hglI : (l.length : Int) + (N : Int) = (g.length : Int) := by omega
          have hG9 := F9_at g (by omega)
          rw [hgc] at hG9
          have hG14 := F14_at g c (by omega)
          rw [hgd] at hG14
          have hG17 := F17_at l l (by omega)
          simp only [decide_true] at hG17
          repeat' (first | (apply aw_seq_k; intro K hK) | (refine aw_run hc (by first | exact aw_nod | (intro _; rw [ordB_w hw]; kernel_rfl) | (intro _; rw [ordB_w0 hw0]; kernel_rfl) | (intro _; kernel_rfl)) ?_; simp [List.zipIdx, L.h15, L.h10, hF, hG9, hglI, tkM, -getM, getM_hit, getM_miss, getM_none]; (repeat (simp (disch := first | omega | assumption | fail) only [if_pos, if_neg, wrap64]; try simp [List.zipIdx, L.h15, L.h10, hF, hG9, hglI, tkM, -getM, getM_hit, getM_miss, getM_none])); try (repeat' (refine guardQ_split (fun h => ?_) (fun h => ?_) <;> simp at h <;> (simp [List.zipIdx, L.h15, L.h10, hF, hG9, hglI, tkM, -getM, getM_hit, getM_miss, getM_none]; (repeat (simp (disch := first | omega | assumption | fail) only [if_pos, if_neg, wrap64]; try simp [List.zipIdx, L.h15, L.h10, hF, hG9, hglI, tkM, -getM, getM_hit, getM_miss, getM_none])))))) | (refine aw_cond (b := _) (by exact rfl) (fun h => ?_) (fun h => ?_) <;> (try simp at h)) | (refine aw_block ?_) | (refine aw_skip ?_; simp only [thenQ, blockQ, if_true]) | (refine aw_exit ?_; simp [thenQ, blockQ]) | (refine aw_ret ?_; simp only [thenQ, blockQ]) | (refine aw_round ?_) | (refine hK _ ?_; clear hK) | (clear hK; refine hK _ ?_; clear hK) | (clear hK; clear hK; refine hK _ ?_; clear hK) | (clear hK; clear hK; clear hK; refine hK _ ?_; clear hK))
          refine aw_loopK (s0 := ?lps2) (m0 := ?lpm2) (ι := {i : Nat // i ≤ l.length}) [0, 7, 8, 12, 71, 72] (fun i => [(73, I i.1)]) (fun _ => []) (fun i => l.length - i.1) ⟨0, by omega⟩ ?lhs2 ?lhm2 ?_ ?_
          case lhs2 => first | (simp [keepS]; done) | (simp [keepS]; rfl)
          case lhm2 => first | rfl | (simp; done) | (simp; rfl)
          · exact le_of2 (by simp) (by simp [AVle, AV.under, AV.underL] <;> omega) (by simp [AOle, AO.under, AV.underL, AV.under] <;> omega)
          · rintro ⟨i, hi⟩
            simp only
            rcases Decidable.em (i < l.length) with hil | hil
            · have hilI : (i : Int) < (l.length : Int) := by omega
              have hg := prows_gi hil
              have hgE := prows_gE hil
              have hmem := gm_mem hil
              obtain ⟨⟨x, y⟩, hm⟩ : ∃ m, m = gm l i := ⟨_, rfl⟩
              rw [← hm] at hg hgE hmem
              simp only at hg hgE
              have hH1 := F12_at g x y (by omega)
              rw [show decide (chk g = 0 ∧ (x, y) ∈ g) = true from decide_eq_true ⟨hgc, (hgm' _).2 (.inl hmem)⟩] at hH1
              rcases Decidable.em (x = (p : Int)) with hv2 | hv2
              · subst hv2
                have hH2 := F12_at g c y (by omega)
                rw [show decide (chk g = 0 ∧ ((c : Int), y) ∈ g) = true from decide_eq_true ⟨hgc, (hgm' _).2 (.inr ⟨rfl, hmem⟩)⟩] at hH2
                repeat' (first | (apply aw_seq_k; intro K hK) | (refine aw_run hc (by first | exact aw_nod | (intro _; rw [ordB_w hw]; kernel_rfl) | (intro _; rw [ordB_w0 hw0]; kernel_rfl) | (intro _; kernel_rfl)) ?_; simp [List.zipIdx, hilI, hg, hgE, L.h11, hH1, hH2, tkM, -getM, getM_hit, getM_miss, getM_none]; (repeat (simp (disch := first | omega | assumption | fail) only [if_pos, if_neg, wrap64]; try simp [List.zipIdx, hilI, hg, hgE, L.h11, hH1, hH2, tkM, -getM, getM_hit, getM_miss, getM_none])); try (repeat' (refine guardQ_split (fun h => ?_) (fun h => ?_) <;> simp at h <;> (simp [List.zipIdx, hilI, hg, hgE, L.h11, hH1, hH2, tkM, -getM, getM_hit, getM_miss, getM_none]; (repeat (simp (disch := first | omega | assumption | fail) only [if_pos, if_neg, wrap64]; try simp [List.zipIdx, hilI, hg, hgE, L.h11, hH1, hH2, tkM, -getM, getM_hit, getM_miss, getM_none])))))) | (refine aw_cond (b := _) (by exact rfl) (fun h => ?_) (fun h => ?_) <;> (try simp at h)) | (refine aw_block ?_) | (refine aw_skip ?_; simp only [thenQ, blockQ, if_true]) | (refine aw_exit ?_; simp [thenQ, blockQ]) | (refine aw_ret ?_; simp only [thenQ, blockQ]) | (refine aw_round ?_) | (refine hK _ ?_; clear hK) | (clear hK; refine hK _ ?_; clear hK) | (clear hK; clear hK; refine hK _ ?_; clear hK) | (clear hK; clear hK; clear hK; refine hK _ ?_; clear hK))
                refine ⟨i + 1, ?_, by omega, by omega⟩
                exact le_of2 (by simp) (by simp [AVle, AV.under, AV.underL] <;> omega) (by simp [AOle, AO.under, AV.underL, AV.under] <;> omega)
              · repeat' (first | (apply aw_seq_k; intro K hK) | (refine aw_run hc (by first | exact aw_nod | (intro _; rw [ordB_w hw]; kernel_rfl) | (intro _; rw [ordB_w0 hw0]; kernel_rfl) | (intro _; kernel_rfl)) ?_; simp [List.zipIdx, hilI, hg, hgE, L.h11, hH1, hv2, tkM, -getM, getM_hit, getM_miss, getM_none]; (repeat (simp (disch := first | omega | assumption | fail) only [if_pos, if_neg, wrap64]; try simp [List.zipIdx, hilI, hg, hgE, L.h11, hH1, hv2, tkM, -getM, getM_hit, getM_miss, getM_none])); try (repeat' (refine guardQ_split (fun h => ?_) (fun h => ?_) <;> simp at h <;> (simp [List.zipIdx, hilI, hg, hgE, L.h11, hH1, hv2, tkM, -getM, getM_hit, getM_miss, getM_none]; (repeat (simp (disch := first | omega | assumption | fail) only [if_pos, if_neg, wrap64]; try simp [List.zipIdx, hilI, hg, hgE, L.h11, hH1, hv2, tkM, -getM, getM_hit, getM_miss, getM_none])))))) | (refine aw_cond (b := _) (by exact rfl) (fun h => ?_) (fun h => ?_) <;> (try simp at h)) | (refine aw_block ?_) | (refine aw_skip ?_; simp only [thenQ, blockQ, if_true]) | (refine aw_exit ?_; simp [thenQ, blockQ]) | (refine aw_ret ?_; simp only [thenQ, blockQ]) | (refine aw_round ?_) | (refine hK _ ?_; clear hK) | (clear hK; refine hK _ ?_; clear hK) | (clear hK; clear hK; refine hK _ ?_; clear hK) | (clear hK; clear hK; clear hK; refine hK _ ?_; clear hK))
                refine ⟨i + 1, ?_, by omega, by omega⟩
                exact le_of2 (by simp) (by simp [AVle, AV.under, AV.underL] <;> omega) (by simp [AOle, AO.under, AV.underL, AV.under] <;> omega)
            · obtain rfl : i = l.length := by omega
              repeat' (first | (apply aw_seq_k; intro K hK) | (refine aw_run hc (by first | exact aw_nod | (intro _; rw [ordB_w hw]; kernel_rfl) | (intro _; rw [ordB_w0 hw0]; kernel_rfl) | (intro _; kernel_rfl)) ?_; simp [List.zipIdx, L.h14, L.h17, hG14, hG17, tkM, -getM, getM_hit, getM_miss, getM_none]; (repeat (simp (disch := first | omega | assumption | fail) only [if_pos, if_neg, wrap64]; try simp [List.zipIdx, L.h14, L.h17, hG14, hG17, tkM, -getM, getM_hit, getM_miss, getM_none])); try (repeat' (refine guardQ_split (fun h => ?_) (fun h => ?_) <;> simp at h <;> (simp [List.zipIdx, L.h14, L.h17, hG14, hG17, tkM, -getM, getM_hit, getM_miss, getM_none]; (repeat (simp (disch := first | omega | assumption | fail) only [if_pos, if_neg, wrap64]; try simp [List.zipIdx, L.h14, L.h17, hG14, hG17, tkM, -getM, getM_hit, getM_miss, getM_none])))))) | (refine aw_cond (b := _) (by exact rfl) (fun h => ?_) (fun h => ?_) <;> (try simp at h)) | (refine aw_block ?_) | (refine aw_skip ?_; simp only [thenQ, blockQ, if_true]) | (refine aw_exit ?_; simp [thenQ, blockQ]) | (refine aw_ret ?_; simp only [thenQ, blockQ]) | (refine aw_round ?_) | (refine hK _ ?_; clear hK) | (clear hK; refine hK _ ?_; clear hK) | (clear hK; clear hK; refine hK _ ?_; clear hK) | (clear hK; clear hK; clear hK; refine hK _ ?_; clear hK))
              refine ⟨by simp, ?_⟩
              simp [leaves_iff, Try.f5]
              try (first | omega | (refine decide_eq_decide.2 ?_; omega) | (refine decide_eq_false ?_; omega) | (refine decide_eq_true ?_; omega))
        · rw [cpyR_c h0] at hF
          simp only [prows_nil] at hF
          obtain ⟨d, hd⟩ : ∃ d, d = chk l := ⟨_, rfl⟩
          rw [← hd] at hF hK9 h0
          repeat' (first | (apply aw_seq_k; intro K hK) | (refine aw_run hc (by first | exact aw_nod | (intro _; rw [ordB_w hw]; kernel_rfl) | (intro _; rw [ordB_w0 hw0]; kernel_rfl) | (intro _; kernel_rfl)) ?_; simp [List.zipIdx, L.h15, L.h10, hF, hK9, h0, tkM, -getM, getM_hit, getM_miss, getM_none]; (repeat (simp (disch := first | omega | assumption | fail) only [if_pos, if_neg, wrap64]; try simp [List.zipIdx, L.h15, L.h10, hF, hK9, h0, tkM, -getM, getM_hit, getM_miss, getM_none])); try (repeat' (refine guardQ_split (fun h => ?_) (fun h => ?_) <;> simp at h <;> (simp [List.zipIdx, L.h15, L.h10, hF, hK9, h0, tkM, -getM, getM_hit, getM_miss, getM_none]; (repeat (simp (disch := first | omega | assumption | fail) only [if_pos, if_neg, wrap64]; try simp [List.zipIdx, L.h15, L.h10, hF, hK9, h0, tkM, -getM, getM_hit, getM_miss, getM_none])))))) | (refine aw_cond (b := _) (by exact rfl) (fun h => ?_) (fun h => ?_) <;> (try simp at h)) | (refine aw_block ?_) | (refine aw_skip ?_; simp only [thenQ, blockQ, if_true]) | (refine aw_exit ?_; simp [thenQ, blockQ]) | (refine aw_ret ?_; simp only [thenQ, blockQ]) | (refine aw_round ?_) | (refine hK _ ?_; clear hK) | (clear hK; refine hK _ ?_; clear hK) | (clear hK; clear hK; refine hK _ ?_; clear hK) | (clear hK; clear hK; clear hK; refine hK _ ?_; clear hK))
          refine ⟨by simp, ?_⟩
          simp [leaves_iff, Try.f5]
          try (first | omega | (refine decide_eq_decide.2 ?_; omega) | (refine decide_eq_false ?_; omega) | (refine decide_eq_true ?_; omega))
end Go.AM
