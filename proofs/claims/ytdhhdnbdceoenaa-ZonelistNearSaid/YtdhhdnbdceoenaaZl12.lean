/- Zonelist: Pick. -/
import Derived.Test.YtdhhdnbdceoenaaZl11
import Derived.Test.YtdhhdnbdceoenaaZlR
set_option linter.all false

namespace Go.AM
open Go Go.Proofs

theorem cmp36 {Y : AX} (h36 : ∀ (k : Int) (m : Nat) (t : Int) (i n : Nat) xs M j, m < 16 → n < 4 → i < xs.length → (zg (zos xs) i).node = (n : Int) → Y.call 36 [I (i : Nat), .rp [I k, I (m : Nat), I t], .rp [.rd 10 (zrows xs)]] M j = some (B (!inM (m : Nat) (n : Nat)), []))
    {l : List Int} {k t : Int} {m : Nat} {xs : List Zx} (hl : ∀ x ∈ l, 0 ≤ x ∧ x < xs.length) (hok : okZs (zos xs)) (hm : m < 16) : PredOK Y l 36 [.rp [I k, I (m : Nat), I t], .rp [.rd 10 (zrows xs)]] (fun i => !inM (m : Nat) (zg (zos xs) i.toNat).node) :=
  ⟨fun n => by simp [AV.underL, AV.under], fun M => rfl, fun a M j ha => by
    obtain ⟨i, rfl⟩ := Int.eq_ofNat_of_zero_le (hl a ha).1
    have hi : i < xs.length := by have := (hl _ ha).2; omega
    have hn := (hok.2 _ (zg_mem (zs := zos xs) (i := i) (by rw [zos_len]; exact hi))).1
    obtain ⟨n, hn2⟩ := Int.eq_ofNat_of_zero_le hn.1
    have := h36 k m t i n xs M j hm (by omega) hi hn2
    rw [this, Int.toNat_natCast, hn2]⟩

theorem take_irows (l : List Int) : List.take l.length (irows l) = irows l := by rw [irows_take, List.take_length]
def one1 (_ : Nat) : Nat := 1
theorem pickR_err {zs : List Zo} {p : Po} {n : Int} {k : Bool} (e : Int) (h : pickE zs p n = e) (h0 : e ≠ 0) : pickR zs p n k = ([], e) := by unfold pickR; rw [h, if_pos h0]
theorem pickE_pol {zs : List Zo} {p : Po} {n : Int} (h : chkZ zs = 0) (hp : polE p = 1) : pickE zs p n = 1 := by unfold pickE; rw [if_neg (by simp [h]), hp]; rfl
theorem pickE_err {zs : List Zo} {p : Po} {n : Int} (h : chkZ zs = 0) (hp : polE p = 0) : pickE zs p n = errN zs n := by unfold pickE errN; simp [h, hp]
theorem pickR_ok {zs : List Zo} {p : Po} {n : Int} {k : Bool} (h : pickE zs p n = 0) : pickR zs p n k = (pickL zs p n k, 0) := by unfold pickR; rw [h]; rfl
structure PkA where
  xs : List Zx
  p : Po
  n : Int
  k : Bool
def PkA.R (x : PkA) : List Int × Int := pickR (zos x.xs) x.p x.n x.k
def ordC (xs : List Zx) (n : Int) (k : Bool) (i : Nat) : AV × List (Nat × AO) := (.tup [.sl i 1 1 0 (orderL (zos xs) n k).length, I 0], [(i, .vec 1 1 false (irows (orderL (zos xs) n k)))])

theorem s20 (X Y : AX) (hX : XOK Try.prog X) (hw : X.W wT) (h13 : ∀ xs M n, X.call 13 [.rd 10 (zrows xs)] M n = some (I (chkZ (zos xs)), []))
    (h24 : ∀ xs n M k, X.call 24 [.rd 10 (zrows xs), I n] M k = some (I (errN (zos xs) n), []))
    (h34 : ∀ m : Int, 1 ≤ m → m ≤ 15 → ∀ M n, X.call 34 [I m] M n = some (.sl n 1 1 0 (maskL m).length, [(n, .vec 1 1 false (irows (maskL m)))]))
    (h17 : ∀ xs n k M i, errN (zos xs) n = 0 → X.call 17 [.rd 10 (zrows xs), I n, B k] M i = some (.tup [.sl i 1 1 0 (orderL (zos xs) n k).length, I 0], [(i, .vec 1 1 false (irows (orderL (zos xs) n k)))]))
    (h35 : X.call 35 = callM false one1 (F35 Y))
    (h36 : ∀ (k : Int) (m : Nat) (t : Int) (i n : Nat) xs M j, m < 16 → n < 4 → i < xs.length → (zg (zos xs) i).node = (n : Int) → Y.call 36 [I (i : Nat), .rp [I k, I (m : Nat), I t], .rp [.rd 10 (zrows xs)]] M j = some (B (!inM (m : Nat) (n : Nat)), [])) :
    PSound Try.prog 20 (specF (ι := PkA) (fun x => [.rd 10 (zrows x.xs), .agg [I x.p.kind, I x.p.nodes, I x.p.turn], I x.n, B x.k]) fun x => retOf [.ow 1 (irows x.R.1), I x.R.2]) := by
  refine psound_spec hX mixed Try.func20 rfl fun ⟨xs, ⟨k, m, t⟩, n, kernel⟩ w0 G => ⟨by show 4 ≤ 102; decide, rfl, ?_⟩
  show AW ⟨Try.prog, X, 102, w0, .pure G⟩ _ _ _
  have hc : Cx.OK ⟨Try.prog, X, 102, w0, .pure G⟩ := ⟨hX, mixed⟩
  simp only [PkA.R]
  rcases Decidable.em (chkZ (zos xs) = 0) with hch | hch
  · have h13z := fun M i => h13 xs M i
    simp only [hch] at h13z
    rcases Decidable.em (k < 0) with hk0 | hk0
    · rw [pickR_err 1 (pickE_pol hch (by unfold polE; exact if_pos (.inl hk0))) (by decide)]
      repeat' (first | (apply aw_seq_k; intro K hK) | (refine aw_run hc (by first | exact aw_nod | (intro _; rw [ordB_w hw]; kernel_rfl) | (intro _; rw [ordB_w0 hw0]; kernel_rfl) | (intro _; kernel_rfl)) ?_; simp [List.zipIdx, h13z, hk0, -getM, getM_hit, getM_miss, getM_none]; (repeat (simp (disch := first | omega | assumption | fail) only [if_pos, if_neg, wrap64]; try simp [List.zipIdx, h13z, hk0, -getM, getM_hit, getM_miss, getM_none])); try (repeat' (refine guardQ_split (fun h => ?_) (fun h => ?_) <;> simp at h <;> (simp [List.zipIdx, h13z, hk0, -getM, getM_hit, getM_miss, getM_none]; (repeat (simp (disch := first | omega | assumption | fail) only [if_pos, if_neg, wrap64]; try simp [List.zipIdx, h13z, hk0, -getM, getM_hit, getM_miss, getM_none])))))) | (refine aw_cond (b := _) (by exact rfl) (fun h => ?_) (fun h => ?_) <;> (try simp at h)) | (refine aw_block ?_) | (refine aw_skip ?_; simp only [thenQ, blockQ, if_true]) | (refine aw_exit ?_; simp [thenQ, blockQ]) | (refine aw_ret ?_; simp only [thenQ, blockQ]) | (refine aw_round ?_) | (refine hK _ ?_; clear hK) | (clear hK; refine hK _ ?_; clear hK) | (clear hK; clear hK; refine hK _ ?_; clear hK) | (clear hK; clear hK; clear hK; refine hK _ ?_; clear hK))
      refine ⟨by simp, ?_⟩
      simp [leaves_iff, Try.f20, irows]
      try (first | omega | (refine decide_eq_decide.2 ?_; omega) | (refine decide_eq_false ?_; omega) | (refine decide_eq_true ?_; omega))
    rcases Decidable.em (3 < k) with hk3 | hk3
    · rw [pickR_err 1 (pickE_pol hch (by unfold polE; exact if_pos (.inr hk3))) (by decide)]
      repeat' (first | (apply aw_seq_k; intro K hK) | (refine aw_run hc (by first | exact aw_nod | (intro _; rw [ordB_w hw]; kernel_rfl) | (intro _; rw [ordB_w0 hw0]; kernel_rfl) | (intro _; kernel_rfl)) ?_; simp [List.zipIdx, h13z, hk0, hk3, -getM, getM_hit, getM_miss, getM_none]; (repeat (simp (disch := first | omega | assumption | fail) only [if_pos, if_neg, wrap64]; try simp [List.zipIdx, h13z, hk0, hk3, -getM, getM_hit, getM_miss, getM_none])); try (repeat' (refine guardQ_split (fun h => ?_) (fun h => ?_) <;> simp at h <;> (simp [List.zipIdx, h13z, hk0, hk3, -getM, getM_hit, getM_miss, getM_none]; (repeat (simp (disch := first | omega | assumption | fail) only [if_pos, if_neg, wrap64]; try simp [List.zipIdx, h13z, hk0, hk3, -getM, getM_hit, getM_miss, getM_none])))))) | (refine aw_cond (b := _) (by exact rfl) (fun h => ?_) (fun h => ?_) <;> (try simp at h)) | (refine aw_block ?_) | (refine aw_skip ?_; simp only [thenQ, blockQ, if_true]) | (refine aw_exit ?_; simp [thenQ, blockQ]) | (refine aw_ret ?_; simp only [thenQ, blockQ]) | (refine aw_round ?_) | (refine hK _ ?_; clear hK) | (clear hK; refine hK _ ?_; clear hK) | (clear hK; clear hK; refine hK _ ?_; clear hK) | (clear hK; clear hK; clear hK; refine hK _ ?_; clear hK))
      refine ⟨by simp, ?_⟩
      simp [leaves_iff, Try.f20, irows]
      try (first | omega | (refine decide_eq_decide.2 ?_; omega) | (refine decide_eq_false ?_; omega) | (refine decide_eq_true ?_; omega))
    have hkk : ¬ (k < 0 ∨ 3 < k) := by omega
    rcases Decidable.em (k = 0) with hkz | hkz
    · subst hkz
      have hp : polE ⟨0, m, t⟩ = 0 := by simp [polE]
      rcases Decidable.em (errN (zos xs) n = 0) with he | he
      · rw [pickR_ok ((pickE_err hch hp).trans he)]
        have h24z := fun M i => h24 xs n M i
        simp only [he] at h24z
        have h17z := fun M i => h17 xs n kernel M i he
        have hpl : pickL (zos xs) ⟨0, m, t⟩ n kernel = orderL (zos xs) n kernel := by simp [pickL, firstN]
        rw [hpl]
        repeat' (first | (apply aw_seq_k; intro K hK) | (refine aw_run hc (by first | exact aw_nod | (intro _; rw [ordB_w hw]; kernel_rfl) | (intro _; rw [ordB_w0 hw0]; kernel_rfl) | (intro _; kernel_rfl)) ?_; simp [List.zipIdx, h13z, h24z, h17z, -getM, getM_hit, getM_miss, getM_none]; (repeat (simp (disch := first | omega | assumption | fail) only [if_pos, if_neg, wrap64]; try simp [List.zipIdx, h13z, h24z, h17z, -getM, getM_hit, getM_miss, getM_none])); try (repeat' (refine guardQ_split (fun h => ?_) (fun h => ?_) <;> simp at h <;> (simp [List.zipIdx, h13z, h24z, h17z, -getM, getM_hit, getM_miss, getM_none]; (repeat (simp (disch := first | omega | assumption | fail) only [if_pos, if_neg, wrap64]; try simp [List.zipIdx, h13z, h24z, h17z, -getM, getM_hit, getM_miss, getM_none])))))) | (refine aw_cond (b := _) (by exact rfl) (fun h => ?_) (fun h => ?_) <;> (try simp at h)) | (refine aw_block ?_) | (refine aw_skip ?_; simp only [thenQ, blockQ, if_true]) | (refine aw_exit ?_; simp [thenQ, blockQ]) | (refine aw_ret ?_; simp only [thenQ, blockQ]) | (refine aw_round ?_) | (refine hK _ ?_; clear hK) | (clear hK; refine hK _ ?_; clear hK) | (clear hK; clear hK; refine hK _ ?_; clear hK) | (clear hK; clear hK; clear hK; refine hK _ ?_; clear hK))
        refine ⟨by simp, ?_⟩
        simp [leaves_iff, Try.f20, take_irows]
        try (first | omega | (refine decide_eq_decide.2 ?_; omega) | (refine decide_eq_false ?_; omega) | (refine decide_eq_true ?_; omega))
      · rw [pickR_err _ (pickE_err hch hp) he]
        repeat' (first | (apply aw_seq_k; intro K hK) | (refine aw_run hc (by first | exact aw_nod | (intro _; rw [ordB_w hw]; kernel_rfl) | (intro _; rw [ordB_w0 hw0]; kernel_rfl) | (intro _; kernel_rfl)) ?_; simp [List.zipIdx, h13z, h24, he, -getM, getM_hit, getM_miss, getM_none]; (repeat (simp (disch := first | omega | assumption | fail) only [if_pos, if_neg, wrap64]; try simp [List.zipIdx, h13z, h24, he, -getM, getM_hit, getM_miss, getM_none])); try (repeat' (refine guardQ_split (fun h => ?_) (fun h => ?_) <;> simp at h <;> (simp [List.zipIdx, h13z, h24, he, -getM, getM_hit, getM_miss, getM_none]; (repeat (simp (disch := first | omega | assumption | fail) only [if_pos, if_neg, wrap64]; try simp [List.zipIdx, h13z, h24, he, -getM, getM_hit, getM_miss, getM_none])))))) | (refine aw_cond (b := _) (by exact rfl) (fun h => ?_) (fun h => ?_) <;> (try simp at h)) | (refine aw_block ?_) | (refine aw_skip ?_; simp only [thenQ, blockQ, if_true]) | (refine aw_exit ?_; simp [thenQ, blockQ]) | (refine aw_ret ?_; simp only [thenQ, blockQ]) | (refine aw_round ?_) | (refine hK _ ?_; clear hK) | (clear hK; refine hK _ ?_; clear hK) | (clear hK; clear hK; refine hK _ ?_; clear hK) | (clear hK; clear hK; clear hK; refine hK _ ?_; clear hK))
        refine ⟨by simp, ?_⟩
        simp [leaves_iff, Try.f20, irows]
        try (first | omega | (refine decide_eq_decide.2 ?_; omega) | (refine decide_eq_false ?_; omega) | (refine decide_eq_true ?_; omega))
    rcases Decidable.em (m < 1) with hm1 | hm1
    · rw [pickR_err 1 (pickE_pol hch (by unfold polE; rw [if_neg hkk]; exact if_pos ⟨hkz, .inl hm1⟩)) (by decide)]
      repeat' (first | (apply aw_seq_k; intro K hK) | (refine aw_run hc (by first | exact aw_nod | (intro _; rw [ordB_w hw]; kernel_rfl) | (intro _; rw [ordB_w0 hw0]; kernel_rfl) | (intro _; kernel_rfl)) ?_; simp [List.zipIdx, h13z, hk0, hk3, hkz, hm1, -getM, getM_hit, getM_miss, getM_none]; (repeat (simp (disch := first | omega | assumption | fail) only [if_pos, if_neg, wrap64]; try simp [List.zipIdx, h13z, hk0, hk3, hkz, hm1, -getM, getM_hit, getM_miss, getM_none])); try (repeat' (refine guardQ_split (fun h => ?_) (fun h => ?_) <;> simp at h <;> (simp [List.zipIdx, h13z, hk0, hk3, hkz, hm1, -getM, getM_hit, getM_miss, getM_none]; (repeat (simp (disch := first | omega | assumption | fail) only [if_pos, if_neg, wrap64]; try simp [List.zipIdx, h13z, hk0, hk3, hkz, hm1, -getM, getM_hit, getM_miss, getM_none])))))) | (refine aw_cond (b := _) (by exact rfl) (fun h => ?_) (fun h => ?_) <;> (try simp at h)) | (refine aw_block ?_) | (refine aw_skip ?_; simp only [thenQ, blockQ, if_true]) | (refine aw_exit ?_; simp [thenQ, blockQ]) | (refine aw_ret ?_; simp only [thenQ, blockQ]) | (refine aw_round ?_) | (refine hK _ ?_; clear hK) | (clear hK; refine hK _ ?_; clear hK) | (clear hK; clear hK; refine hK _ ?_; clear hK) | (clear hK; clear hK; clear hK; refine hK _ ?_; clear hK))
      refine ⟨by simp, ?_⟩
      simp [leaves_iff, Try.f20, irows]
      try (first | omega | (refine decide_eq_decide.2 ?_; omega) | (refine decide_eq_false ?_; omega) | (refine decide_eq_true ?_; omega))
    rcases Decidable.em (15 < m) with hm15 | hm15
    · rw [pickR_err 1 (pickE_pol hch (by unfold polE; rw [if_neg hkk]; exact if_pos ⟨hkz, .inr hm15⟩)) (by decide)]
      repeat' (first | (apply aw_seq_k; intro K hK) | (refine aw_run hc (by first | exact aw_nod | (intro _; rw [ordB_w hw]; kernel_rfl) | (intro _; rw [ordB_w0 hw0]; kernel_rfl) | (intro _; kernel_rfl)) ?_; simp [List.zipIdx, h13z, hk0, hk3, hkz, hm1, hm15, -getM, getM_hit, getM_miss, getM_none]; (repeat (simp (disch := first | omega | assumption | fail) only [if_pos, if_neg, wrap64]; try simp [List.zipIdx, h13z, hk0, hk3, hkz, hm1, hm15, -getM, getM_hit, getM_miss, getM_none])); try (repeat' (refine guardQ_split (fun h => ?_) (fun h => ?_) <;> simp at h <;> (simp [List.zipIdx, h13z, hk0, hk3, hkz, hm1, hm15, -getM, getM_hit, getM_miss, getM_none]; (repeat (simp (disch := first | omega | assumption | fail) only [if_pos, if_neg, wrap64]; try simp [List.zipIdx, h13z, hk0, hk3, hkz, hm1, hm15, -getM, getM_hit, getM_miss, getM_none])))))) | (refine aw_cond (b := _) (by exact rfl) (fun h => ?_) (fun h => ?_) <;> (try simp at h)) | (refine aw_block ?_) | (refine aw_skip ?_; simp only [thenQ, blockQ, if_true]) | (refine aw_exit ?_; simp [thenQ, blockQ]) | (refine aw_ret ?_; simp only [thenQ, blockQ]) | (refine aw_round ?_) | (refine hK _ ?_; clear hK) | (clear hK; refine hK _ ?_; clear hK) | (clear hK; clear hK; refine hK _ ?_; clear hK) | (clear hK; clear hK; clear hK; refine hK _ ?_; clear hK))
      refine ⟨by simp, ?_⟩
      simp [leaves_iff, Try.f20, irows]
      try (first | omega | (refine decide_eq_decide.2 ?_; omega) | (refine decide_eq_false ?_; omega) | (refine decide_eq_true ?_; omega))
    have hmm : ¬ (k ≠ 0 ∧ (m < 1 ∨ 15 < m)) := by omega
    have h34z := fun M i => h34 m (by omega) (by omega) M i
    have hlen := maskL_pos (mask := m) (by omega)
    have hlenI : (0 : Int) < ((maskL m).length : Int) := by omega
    rcases Decidable.em (k = 1) with hk1 | hk1
    · subst hk1
      have hp : polE ⟨1, m, t⟩ = 0 := by unfold polE; rw [if_neg hkk, if_neg hmm]; simp
      rcases Decidable.em (errN (zos xs) n = 0) with he | he
      · rw [pickR_ok ((pickE_err hch hp).trans he)]
        have h24z := fun M i => h24 xs n M i
        simp only [he] at h24z
        have hf := firstN_ok (node := n) hp (errN_zero.1 he).2
        have hfe : firstN ⟨1, m, t⟩ n = gi (maskL m) 0 := rfl
        rw [hfe] at hf
        have h17z := fun M i => h17 xs (gi (maskL m) 0) kernel M i (errN_zero.2 ⟨(errN_zero.1 he).1, hf⟩)
        have hpl : pickL (zos xs) ⟨1, m, t⟩ n kernel = orderL (zos xs) (gi (maskL m) 0) kernel := by simp [pickL, hfe]
        rw [hpl]
        have hg := irows_gi (l := maskL m) (n := 0) hlen
        have hgE : ∀ h, (irows (maskL m))[0]'h = [I (gi (maskL m) 0)] := fun h => by rw [List.getElem?_eq_getElem h] at hg; exact Option.some.inj hg
        repeat' (first | (apply aw_seq_k; intro K hK) | (refine aw_run hc (by first | exact aw_nod | (intro _; rw [ordB_w hw]; kernel_rfl) | (intro _; rw [ordB_w0 hw0]; kernel_rfl) | (intro _; kernel_rfl)) ?_; simp [List.zipIdx, h13z, hm1, hm15, h24z, h34z, h17z, hlen, hlenI, hg, hgE, -getM, getM_hit, getM_miss, getM_none]; (repeat (simp (disch := first | omega | assumption | fail) only [if_pos, if_neg, wrap64]; try simp [List.zipIdx, h13z, hm1, hm15, h24z, h34z, h17z, hlen, hlenI, hg, hgE, -getM, getM_hit, getM_miss, getM_none])); try (repeat' (refine guardQ_split (fun h => ?_) (fun h => ?_) <;> simp at h <;> (simp [List.zipIdx, h13z, hm1, hm15, h24z, h34z, h17z, hlen, hlenI, hg, hgE, -getM, getM_hit, getM_miss, getM_none]; (repeat (simp (disch := first | omega | assumption | fail) only [if_pos, if_neg, wrap64]; try simp [List.zipIdx, h13z, hm1, hm15, h24z, h34z, h17z, hlen, hlenI, hg, hgE, -getM, getM_hit, getM_miss, getM_none])))))) | (refine aw_cond (b := _) (by exact rfl) (fun h => ?_) (fun h => ?_) <;> (try simp at h)) | (refine aw_block ?_) | (refine aw_skip ?_; simp only [thenQ, blockQ, if_true]) | (refine aw_exit ?_; simp [thenQ, blockQ]) | (refine aw_ret ?_; simp only [thenQ, blockQ]) | (refine aw_round ?_) | (refine hK _ ?_; clear hK) | (clear hK; refine hK _ ?_; clear hK) | (clear hK; clear hK; refine hK _ ?_; clear hK) | (clear hK; clear hK; clear hK; refine hK _ ?_; clear hK))
        refine ⟨by simp, ?_⟩
        simp [leaves_iff, Try.f20, take_irows]
        try (first | omega | (refine decide_eq_decide.2 ?_; omega) | (refine decide_eq_false ?_; omega) | (refine decide_eq_true ?_; omega))
      · rw [pickR_err _ (pickE_err hch hp) he]
        repeat' (first | (apply aw_seq_k; intro K hK) | (refine aw_run hc (by first | exact aw_nod | (intro _; rw [ordB_w hw]; kernel_rfl) | (intro _; rw [ordB_w0 hw0]; kernel_rfl) | (intro _; kernel_rfl)) ?_; simp [List.zipIdx, h13z, hm1, hm15, h24, he, -getM, getM_hit, getM_miss, getM_none]; (repeat (simp (disch := first | omega | assumption | fail) only [if_pos, if_neg, wrap64]; try simp [List.zipIdx, h13z, hm1, hm15, h24, he, -getM, getM_hit, getM_miss, getM_none])); try (repeat' (refine guardQ_split (fun h => ?_) (fun h => ?_) <;> simp at h <;> (simp [List.zipIdx, h13z, hm1, hm15, h24, he, -getM, getM_hit, getM_miss, getM_none]; (repeat (simp (disch := first | omega | assumption | fail) only [if_pos, if_neg, wrap64]; try simp [List.zipIdx, h13z, hm1, hm15, h24, he, -getM, getM_hit, getM_miss, getM_none])))))) | (refine aw_cond (b := _) (by exact rfl) (fun h => ?_) (fun h => ?_) <;> (try simp at h)) | (refine aw_block ?_) | (refine aw_skip ?_; simp only [thenQ, blockQ, if_true]) | (refine aw_exit ?_; simp [thenQ, blockQ]) | (refine aw_ret ?_; simp only [thenQ, blockQ]) | (refine aw_round ?_) | (refine hK _ ?_; clear hK) | (clear hK; refine hK _ ?_; clear hK) | (clear hK; clear hK; refine hK _ ?_; clear hK) | (clear hK; clear hK; clear hK; refine hK _ ?_; clear hK))
        refine ⟨by simp, ?_⟩
        simp [leaves_iff, Try.f20, irows]
        try (first | omega | (refine decide_eq_decide.2 ?_; omega) | (refine decide_eq_false ?_; omega) | (refine decide_eq_true ?_; omega))
    rcases Decidable.em (k = 3) with hk3' | hk3'
    · subst hk3'
      rcases Decidable.em (t < 0) with ht | ht
      · rw [pickR_err 1 (pickE_pol hch (by unfold polE; rw [if_neg hkk, if_neg hmm]; exact if_pos ⟨rfl, ht⟩)) (by decide)]
        repeat' (first | (apply aw_seq_k; intro K hK) | (refine aw_run hc (by first | exact aw_nod | (intro _; rw [ordB_w hw]; kernel_rfl) | (intro _; rw [ordB_w0 hw0]; kernel_rfl) | (intro _; kernel_rfl)) ?_; simp [List.zipIdx, h13z, hm1, hm15, ht, -getM, getM_hit, getM_miss, getM_none]; (repeat (simp (disch := first | omega | assumption | fail) only [if_pos, if_neg, wrap64]; try simp [List.zipIdx, h13z, hm1, hm15, ht, -getM, getM_hit, getM_miss, getM_none])); try (repeat' (refine guardQ_split (fun h => ?_) (fun h => ?_) <;> simp at h <;> (simp [List.zipIdx, h13z, hm1, hm15, ht, -getM, getM_hit, getM_miss, getM_none]; (repeat (simp (disch := first | omega | assumption | fail) only [if_pos, if_neg, wrap64]; try simp [List.zipIdx, h13z, hm1, hm15, ht, -getM, getM_hit, getM_miss, getM_none])))))) | (refine aw_cond (b := _) (by exact rfl) (fun h => ?_) (fun h => ?_) <;> (try simp at h)) | (refine aw_block ?_) | (refine aw_skip ?_; simp only [thenQ, blockQ, if_true]) | (refine aw_exit ?_; simp [thenQ, blockQ]) | (refine aw_ret ?_; simp only [thenQ, blockQ]) | (refine aw_round ?_) | (refine hK _ ?_; clear hK) | (clear hK; refine hK _ ?_; clear hK) | (clear hK; clear hK; refine hK _ ?_; clear hK) | (clear hK; clear hK; clear hK; refine hK _ ?_; clear hK))
        refine ⟨by simp, ?_⟩
        simp [leaves_iff, Try.f20, irows]
        try (first | omega | (refine decide_eq_decide.2 ?_; omega) | (refine decide_eq_false ?_; omega) | (refine decide_eq_true ?_; omega))
      have hp : polE ⟨3, m, t⟩ = 0 := by unfold polE; rw [if_neg hkk, if_neg hmm]; exact if_neg (fun h => ht h.2)
      rcases Decidable.em (errN (zos xs) n = 0) with he | he
      · rw [pickR_ok ((pickE_err hch hp).trans he)]
        have h24z := fun M i => h24 xs n M i
        simp only [he] at h24z
        have hf := firstN_ok (node := n) hp (errN_zero.1 he).2
        obtain ⟨r, hr⟩ := Int.eq_ofNat_of_zero_le (Int.emod_nonneg t (show (((maskL m).length : Nat) : Int) ≠ 0 by omega))
        have hrl := Int.emod_lt_of_pos t hlenI
        rw [hr] at hrl
        have hrl2 : r < (maskL m).length := by omega
        have hfe : firstN ⟨3, m, t⟩ n = gi (maskL m) r := by
          show (maskL m).getD (t % (maskL m).length).toNat 0 = _
          rw [hr]; rfl
        rw [hfe] at hf
        have htm : Int.tmod t ((maskL m).length : Int) = (r : Int) := by rw [Int.tmod_eq_emod_of_nonneg (by omega)]; exact hr
        have h17z := fun M i => h17 xs (gi (maskL m) r) kernel M i (errN_zero.2 ⟨(errN_zero.1 he).1, hf⟩)
        have hpl : pickL (zos xs) ⟨3, m, t⟩ n kernel = orderL (zos xs) (gi (maskL m) r) kernel := by simp [pickL, hfe]
        rw [hpl]
        have hg := irows_gi (l := maskL m) (n := r) hrl2
        have hgE : ∀ h, (irows (maskL m))[r]'h = [I (gi (maskL m) r)] := fun h => by rw [List.getElem?_eq_getElem h] at hg; exact Option.some.inj hg
        have hne : ¬ (maskL m).length = 0 := by omega
        have hneL : ¬ maskL m = [] := fun e => by rw [e] at hlen; simp at hlen
        repeat' (first | (apply aw_seq_k; intro K hK) | (refine aw_run hc (by first | exact aw_nod | (intro _; rw [ordB_w hw]; kernel_rfl) | (intro _; rw [ordB_w0 hw0]; kernel_rfl) | (intro _; kernel_rfl)) ?_; simp [List.zipIdx, h13z, hm1, hm15, ht, h24z, h34z, h17z, hneL, htm, hrl, hrl2, hg, hgE, -getM, getM_hit, getM_miss, getM_none]; (repeat (simp (disch := first | omega | assumption | fail) only [if_pos, if_neg, wrap64]; try simp [List.zipIdx, h13z, hm1, hm15, ht, h24z, h34z, h17z, hneL, htm, hrl, hrl2, hg, hgE, -getM, getM_hit, getM_miss, getM_none])); try (repeat' (refine guardQ_split (fun h => ?_) (fun h => ?_) <;> simp at h <;> (simp [List.zipIdx, h13z, hm1, hm15, ht, h24z, h34z, h17z, hneL, htm, hrl, hrl2, hg, hgE, -getM, getM_hit, getM_miss, getM_none]; (repeat (simp (disch := first | omega | assumption | fail) only [if_pos, if_neg, wrap64]; try simp [List.zipIdx, h13z, hm1, hm15, ht, h24z, h34z, h17z, hneL, htm, hrl, hrl2, hg, hgE, -getM, getM_hit, getM_miss, getM_none])))))) | (refine aw_cond (b := _) (by exact rfl) (fun h => ?_) (fun h => ?_) <;> (try simp at h)) | (refine aw_block ?_) | (refine aw_skip ?_; simp only [thenQ, blockQ, if_true]) | (refine aw_exit ?_; simp [thenQ, blockQ]) | (refine aw_ret ?_; simp only [thenQ, blockQ]) | (refine aw_round ?_) | (refine hK _ ?_; clear hK) | (clear hK; refine hK _ ?_; clear hK) | (clear hK; clear hK; refine hK _ ?_; clear hK) | (clear hK; clear hK; clear hK; refine hK _ ?_; clear hK))
        refine ⟨by simp, ?_⟩
        simp [leaves_iff, Try.f20, take_irows]
        try (first | omega | (refine decide_eq_decide.2 ?_; omega) | (refine decide_eq_false ?_; omega) | (refine decide_eq_true ?_; omega))
      · rw [pickR_err _ (pickE_err hch hp) he]
        repeat' (first | (apply aw_seq_k; intro K hK) | (refine aw_run hc (by first | exact aw_nod | (intro _; rw [ordB_w hw]; kernel_rfl) | (intro _; rw [ordB_w0 hw0]; kernel_rfl) | (intro _; kernel_rfl)) ?_; simp [List.zipIdx, h13z, hm1, hm15, ht, h24, he, -getM, getM_hit, getM_miss, getM_none]; (repeat (simp (disch := first | omega | assumption | fail) only [if_pos, if_neg, wrap64]; try simp [List.zipIdx, h13z, hm1, hm15, ht, h24, he, -getM, getM_hit, getM_miss, getM_none])); try (repeat' (refine guardQ_split (fun h => ?_) (fun h => ?_) <;> simp at h <;> (simp [List.zipIdx, h13z, hm1, hm15, ht, h24, he, -getM, getM_hit, getM_miss, getM_none]; (repeat (simp (disch := first | omega | assumption | fail) only [if_pos, if_neg, wrap64]; try simp [List.zipIdx, h13z, hm1, hm15, ht, h24, he, -getM, getM_hit, getM_miss, getM_none])))))) | (refine aw_cond (b := _) (by exact rfl) (fun h => ?_) (fun h => ?_) <;> (try simp at h)) | (refine aw_block ?_) | (refine aw_skip ?_; simp only [thenQ, blockQ, if_true]) | (refine aw_exit ?_; simp [thenQ, blockQ]) | (refine aw_ret ?_; simp only [thenQ, blockQ]) | (refine aw_round ?_) | (refine hK _ ?_; clear hK) | (clear hK; refine hK _ ?_; clear hK) | (clear hK; clear hK; refine hK _ ?_; clear hK) | (clear hK; clear hK; clear hK; refine hK _ ?_; clear hK))
        refine ⟨by simp, ?_⟩
        simp [leaves_iff, Try.f20, irows]
        try (first | omega | (refine decide_eq_decide.2 ?_; omega) | (refine decide_eq_false ?_; omega) | (refine decide_eq_true ?_; omega))
    · obtain rfl : k = 2 := by omega
      have hp : polE ⟨2, m, t⟩ = 0 := by unfold polE; rw [if_neg hkk, if_neg hmm]; simp
      rcases Decidable.em (errN (zos xs) n = 0) with he | he
      · rw [pickR_ok ((pickE_err hch hp).trans he)]
        have h24z := fun M i => h24 xs n M i
        simp only [he] at h24z
        have h17z := fun M i => h17 xs n kernel M i he
        obtain ⟨hok, hn⟩ := errN_zero.1 he
        obtain ⟨mn, rfl⟩ := Int.eq_ofNat_of_zero_le (show 0 ≤ m by omega)
        have hat := F35_at (Y := Y) ⟨orderL (zos xs) n kernel, 36, _, _, Nat.le_trans (order_len hok hn) (by decide), cmp36 (k := 2) (t := t) (m := mn) h36 (fun x hx => by have := order_range hok hn hx; rw [zos_len] at this; exact this) hok (by omega)⟩
        simp only at hat
        have hpl : pickL (zos xs) ⟨2, (mn : Int), t⟩ n kernel = keepL (fun i => !inM (mn : Int) (zg (zos xs) i.toNat).node) (orderL (zos xs) n kernel) := by simp [pickL, keepL]
        rw [hpl]
        have htk := take_irows (orderL (zos xs) n kernel)
        repeat' (first | (apply aw_seq_k; intro K hK) | (refine aw_run hc (by first | exact aw_nod | (intro _; rw [ordB_w hw]; kernel_rfl) | (intro _; rw [ordB_w0 hw0]; kernel_rfl) | (intro _; kernel_rfl)) ?_; simp [List.zipIdx, h13z, hm1, hm15, h24z, h17z, h35, hat, htk, one1, -getM, getM_hit, getM_miss, getM_none]; (repeat (simp (disch := first | omega | assumption | fail) only [if_pos, if_neg, wrap64]; try simp [List.zipIdx, h13z, hm1, hm15, h24z, h17z, h35, hat, htk, one1, -getM, getM_hit, getM_miss, getM_none])); try (repeat' (refine guardQ_split (fun h => ?_) (fun h => ?_) <;> simp at h <;> (simp [List.zipIdx, h13z, hm1, hm15, h24z, h17z, h35, hat, htk, one1, -getM, getM_hit, getM_miss, getM_none]; (repeat (simp (disch := first | omega | assumption | fail) only [if_pos, if_neg, wrap64]; try simp [List.zipIdx, h13z, hm1, hm15, h24z, h17z, h35, hat, htk, one1, -getM, getM_hit, getM_miss, getM_none])))))) | (refine aw_cond (b := _) (by exact rfl) (fun h => ?_) (fun h => ?_) <;> (try simp at h)) | (refine aw_block ?_) | (refine aw_skip ?_; simp only [thenQ, blockQ, if_true]) | (refine aw_exit ?_; simp [thenQ, blockQ]) | (refine aw_ret ?_; simp only [thenQ, blockQ]) | (refine aw_round ?_) | (refine hK _ ?_; clear hK) | (clear hK; refine hK _ ?_; clear hK) | (clear hK; clear hK; refine hK _ ?_; clear hK) | (clear hK; clear hK; clear hK; refine hK _ ?_; clear hK))
        refine ⟨by simp, ?_⟩
        simp [leaves_iff, Try.f20, take_irows]
        try (first | omega | (refine decide_eq_decide.2 ?_; omega) | (refine decide_eq_false ?_; omega) | (refine decide_eq_true ?_; omega))
      · rw [pickR_err _ (pickE_err hch hp) he]
        repeat' (first | (apply aw_seq_k; intro K hK) | (refine aw_run hc (by first | exact aw_nod | (intro _; rw [ordB_w hw]; kernel_rfl) | (intro _; rw [ordB_w0 hw0]; kernel_rfl) | (intro _; kernel_rfl)) ?_; simp [List.zipIdx, h13z, hm1, hm15, h24, he, -getM, getM_hit, getM_miss, getM_none]; (repeat (simp (disch := first | omega | assumption | fail) only [if_pos, if_neg, wrap64]; try simp [List.zipIdx, h13z, hm1, hm15, h24, he, -getM, getM_hit, getM_miss, getM_none])); try (repeat' (refine guardQ_split (fun h => ?_) (fun h => ?_) <;> simp at h <;> (simp [List.zipIdx, h13z, hm1, hm15, h24, he, -getM, getM_hit, getM_miss, getM_none]; (repeat (simp (disch := first | omega | assumption | fail) only [if_pos, if_neg, wrap64]; try simp [List.zipIdx, h13z, hm1, hm15, h24, he, -getM, getM_hit, getM_miss, getM_none])))))) | (refine aw_cond (b := _) (by exact rfl) (fun h => ?_) (fun h => ?_) <;> (try simp at h)) | (refine aw_block ?_) | (refine aw_skip ?_; simp only [thenQ, blockQ, if_true]) | (refine aw_exit ?_; simp [thenQ, blockQ]) | (refine aw_ret ?_; simp only [thenQ, blockQ]) | (refine aw_round ?_) | (refine hK _ ?_; clear hK) | (clear hK; refine hK _ ?_; clear hK) | (clear hK; clear hK; refine hK _ ?_; clear hK) | (clear hK; clear hK; clear hK; refine hK _ ?_; clear hK))
        refine ⟨by simp, ?_⟩
        simp [leaves_iff, Try.f20, irows]
        try (first | omega | (refine decide_eq_decide.2 ?_; omega) | (refine decide_eq_false ?_; omega) | (refine decide_eq_true ?_; omega))
  · have e1 : pickE (zos xs) ⟨k, m, t⟩ n = chkZ (zos xs) := by unfold pickE; rw [if_pos hch]
    have e2 : pickR (zos xs) ⟨k, m, t⟩ n kernel = ([], chkZ (zos xs)) := by unfold pickR; rw [e1, if_pos hch]
    rw [e2]
    repeat' (first | (apply aw_seq_k; intro K hK) | (refine aw_run hc (by first | exact aw_nod | (intro _; rw [ordB_w hw]; kernel_rfl) | (intro _; rw [ordB_w0 hw0]; kernel_rfl) | (intro _; kernel_rfl)) ?_; simp [List.zipIdx, h13, hch, -getM, getM_hit, getM_miss, getM_none]; (repeat (simp (disch := first | omega | assumption | fail) only [if_pos, if_neg, wrap64]; try simp [List.zipIdx, h13, hch, -getM, getM_hit, getM_miss, getM_none])); try (repeat' (refine guardQ_split (fun h => ?_) (fun h => ?_) <;> simp at h <;> (simp [List.zipIdx, h13, hch, -getM, getM_hit, getM_miss, getM_none]; (repeat (simp (disch := first | omega | assumption | fail) only [if_pos, if_neg, wrap64]; try simp [List.zipIdx, h13, hch, -getM, getM_hit, getM_miss, getM_none])))))) | (refine aw_cond (b := _) (by exact rfl) (fun h => ?_) (fun h => ?_) <;> (try simp at h)) | (refine aw_block ?_) | (refine aw_skip ?_; simp only [thenQ, blockQ, if_true]) | (refine aw_exit ?_; simp [thenQ, blockQ]) | (refine aw_ret ?_; simp only [thenQ, blockQ]) | (refine aw_round ?_) | (refine hK _ ?_; clear hK) | (clear hK; refine hK _ ?_; clear hK) | (clear hK; clear hK; refine hK _ ?_; clear hK) | (clear hK; clear hK; clear hK; refine hK _ ?_; clear hK))
    refine ⟨by simp, ?_⟩
    simp [leaves_iff, Try.f20, irows]
    try (first | omega | (refine decide_eq_decide.2 ?_; omega) | (refine decide_eq_false ?_; omega) | (refine decide_eq_true ?_; omega))
end Go.AM
