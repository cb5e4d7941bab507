/- Zones as results that are only read; rows of held blocks and of steps. -/
import Derived.Test.YtjdahonmgfhpgaaBd33
import Derived.Test.YtjdahonmgfhpgaaBdR
import Derived.Test.YtjdahonmgfhpgaaAmZc
set_option linter.all false

namespace Go.AM
open Go Go.Proofs

@[simp] theorem ty5 : Types Try.prog 5 = some ⟨.int .u8, 1, 1, [.int .u8 0]⟩ := by kernel_rfl
@[simp] theorem ty40 : Types Try.prog 40 = some ⟨.slice 69, 1, 24, [.slice none 0 0]⟩ := by kernel_rfl
@[simp] theorem ty41 : Types Try.prog 41 = some ⟨.slice 48, 1, 24, [.slice none 0 0]⟩ := by kernel_rfl
@[simp] theorem ty48 : Types Try.prog 48 = some ⟨.struct [(0, 3, 1), (1, 3, 1)], 2, 16, [.int .i64 0, .int .i64 0]⟩ := by kernel_rfl
@[simp] theorem ty69 : Types Try.prog 69 = some ⟨.struct [(0, 4, 1), (1, 5, 1), (2, 5, 1)], 3, 3, [.bool false, .int .u8 0, .int .u8 0]⟩ := by kernel_rfl

abbrev U8 (n : Int) : AV := .v (.int .u8 n)
def hrows (h : List Hb) : List (List AV) := h.map fun b => [I b.1, I (b.2 : Int)]
@[simp] theorem hrows_len (h : List Hb) : (hrows h).length = h.length := by simp [hrows]
theorem hrows_gi {h : List Hb} {i : Nat} (hi : i < h.length) : (hrows h)[i]? = some [I (hg h i).1, I ((hg h i).2 : Int)] := by rw [hg_eq hi]; simp [hrows, hi]
theorem hrows_append (h m : List Hb) : hrows h ++ hrows m = hrows (h ++ m) := by simp [hrows]
theorem hrows_one (b : Hb) : [[I b.1, I (b.2 : Int)]] = hrows [b] := rfl
theorem hrows_take (h : List Hb) (n : Nat) : (hrows h).take n = hrows (h.take n) := by simp [hrows, List.map_take]
theorem hrows_drop (h : List Hb) (n : Nat) : (hrows h).drop n = hrows (h.drop n) := by simp [hrows, List.map_drop]
theorem hrows_inj : ∀ {h m : List Hb}, hrows h = hrows m ↔ h = m
  | [], [] => by simp [hrows]
  | [], _ :: _ => by simp [hrows]
  | _ :: _, [] => by simp [hrows]
  | (a, b) :: h, (c, d) :: m => by
    have := hrows_inj (h := h) (m := m)
    simp only [hrows, List.map_cons, List.cons.injEq, AV.v.injEq, Value.int.injEq, true_and, and_true, Prod.mk.injEq, Int.ofNat_inj] at this ⊢
    rw [this]
def orows (l : List Opn) : List (List AV) := l.map fun o => [B o.give, U8 o.order, U8 o.pick]
@[simp] theorem orows_len (l : List Opn) : (orows l).length = l.length := by simp [orows]
def og (l : List Opn) (i : Nat) : Opn := l.getD i ⟨false, 0, 0⟩
theorem og_eq {l : List Opn} {i : Nat} (hi : i < l.length) : og l i = l[i] := by unfold og; simp [hi]
theorem orows_gi {l : List Opn} {i : Nat} (hi : i < l.length) : (orows l)[i]? = some [B (og l i).give, U8 (og l i).order, U8 (og l i).pick] := by rw [og_eq hi]; simp [orows, hi]
theorem orows_inj : ∀ {h m : List Opn}, orows h = orows m ↔ h = m
  | [], [] => by simp [orows]
  | [], _ :: _ => by simp [orows]
  | _ :: _, [] => by simp [orows]
  | ⟨a, b, c⟩ :: h, ⟨d, e, f⟩ :: m => by
    have := orows_inj (h := h) (m := m)
    simp only [orows, List.map_cons, List.cons.injEq, AV.v.injEq, Value.int.injEq, Value.bool.injEq, true_and, and_true, Opn.mk.injEq] at this ⊢
    rw [this]

@[simp] theorem Zn.closed {z : Zn} : z.cells.all AV.isClosed = true := by simp [Zn.cells, AV.isClosed]
@[simp] theorem Zn.opens {z : Zn} {n : Nat} : openLeaves n z.cells = (z.cells, [], n) := by simp [Zn.cells, openLeaves, openLeaf]
theorem softz {z : Zn} : SLeV (.agg z.ocells) (.agg z.cells) := by simp [Zn.ocells, Zn.cells, SLeV, SLeL, SLe]

noncomputable def G18 : List AV → Option AV := specF (ι := Int × Int × Int × Int × Int) (fun x => [I x.1, I x.2.1, I x.2.2.1, I x.2.2.2.1, I x.2.2.2.2]) fun x => retOf [.agg (newR (mkZ x.1 x.2.1 x.2.2.1 x.2.2.2.1 x.2.2.2.2)).cells, I (newE (mkZ x.1 x.2.1 x.2.2.1 x.2.2.2.1 x.2.2.2.2))]
noncomputable def G21 : List AV → Option AV := specF (ι := {x : Zn × Int // small x.1}) (fun x => [.agg x.1.1.cells, I x.1.2]) fun x => retOf [.agg (allocR x.1.1 x.1.2).1.cells, I (allocR x.1.1 x.1.2).2.1, I (allocR x.1.1 x.1.2).2.2]
noncomputable def G23 : List AV → Option AV := specF (ι := {x : Zn × Int × Int // small x.1}) (fun x => [.agg x.1.1.cells, I x.1.2.1, I x.1.2.2]) fun x => retOf [.agg (freeR x.1.1 x.1.2.1 x.1.2.2).1.cells, I (freeR x.1.1 x.1.2.1 x.1.2.2).2]
noncomputable def G27 : List AV → Option AV := specF (ι := {x : Zn × List Int // x.2.length ≤ 300}) (fun x => [.agg x.1.1.cells, .rd 1 (irows x.1.2)]) fun x => retOf [.agg (buildR x.1.1 x.1.2).1.cells, I (buildR x.1.1 x.1.2).2]
theorem cg18 (a b c d e : Int) (M : Nat → AO) (n : Nat) : callD G18 [I a, I b, I c, I d, I e] M n = some (.tup [.agg (newR (mkZ a b c d e)).cells, I (newE (mkZ a b c d e))], []) :=
  callD_spec (ι := Int × Int × Int × Int × Int) (A := fun x => [I x.1, I x.2.1, I x.2.2.1, I x.2.2.2.1, I x.2.2.2.2]) (R := fun x => retOf [.agg (newR (mkZ x.1 x.2.1 x.2.2.1 x.2.2.2.1 x.2.2.2.2)).cells, I (newE (mkZ x.1 x.2.1 x.2.2.1 x.2.2.2.1 x.2.2.2.2))]) (a, b, c, d, e) rfl (by simp [AV.closedV, AV.isClosed, Zn.closed, -List.all_eq_true]) (by
    rintro ⟨a, b, c, d, e⟩ h
    simp at h
    obtain ⟨rfl, rfl, rfl, rfl, rfl⟩ := h; rfl) (by simp)
theorem cg21 (z : Zn) (o : Int) (M : Nat → AO) (n : Nat) (hz : small z) : callD G21 [.agg z.cells, I o] M n = some (.tup [.agg (allocR z o).1.cells, I (allocR z o).2.1, I (allocR z o).2.2], []) :=
  callD_spec (ι := {x : Zn × Int // small x.1}) (A := fun x => [.agg x.1.1.cells, I x.1.2]) (R := fun x => retOf [.agg (allocR x.1.1 x.1.2).1.cells, I (allocR x.1.1 x.1.2).2.1, I (allocR x.1.1 x.1.2).2.2]) ⟨(z, o), hz⟩ rfl (by simp [AV.closedV, AV.isClosed, Zn.closed, -List.all_eq_true]) (by
    rintro ⟨⟨a, b⟩, h⟩ e
    simp [Zn.cells_inj] at e
    obtain ⟨rfl, rfl⟩ := e; rfl) (by simp)
theorem cg23 (z : Zn) (f o : Int) (M : Nat → AO) (n : Nat) (hz : small z) : callD G23 [.agg z.cells, I f, I o] M n = some (.tup [.agg (freeR z f o).1.cells, I (freeR z f o).2], []) :=
  callD_spec (ι := {x : Zn × Int × Int // small x.1}) (A := fun x => [.agg x.1.1.cells, I x.1.2.1, I x.1.2.2]) (R := fun x => retOf [.agg (freeR x.1.1 x.1.2.1 x.1.2.2).1.cells, I (freeR x.1.1 x.1.2.1 x.1.2.2).2]) ⟨(z, f, o), hz⟩ rfl (by simp [AV.closedV, AV.isClosed, Zn.closed, -List.all_eq_true]) (by
    rintro ⟨⟨a, b, c⟩, h⟩ e
    simp [Zn.cells_inj] at e
    obtain ⟨rfl, rfl, rfl⟩ := e; rfl) (by simp)
theorem cg27 (z : Zn) (l : List Int) (M : Nat → AO) (n : Nat) (hl : l.length ≤ 300) : callD G27 [.agg z.cells, .rd 1 (irows l)] M n = some (.tup [.agg (buildR z l).1.cells, I (buildR z l).2], []) :=
  callD_spec (ι := {x : Zn × List Int // x.2.length ≤ 300}) (A := fun x => [.agg x.1.1.cells, .rd 1 (irows x.1.2)]) (R := fun x => retOf [.agg (buildR x.1.1 x.1.2).1.cells, I (buildR x.1.1 x.1.2).2]) ⟨(z, l), hl⟩ rfl (by simp [AV.closedV, AV.isClosed, Zn.closed, -List.all_eq_true]) (by
    rintro ⟨⟨a, b⟩, h⟩ e
    simp [Zn.cells_inj, irows_inj] at e
    obtain ⟨rfl, rfl⟩ := e; rfl) (by simp)

theorem g18 : PSound Try.prog 18 G18 := (s18 U44 u44 (AX.W.start _) rfl rfl).softF fun _ => by simp only [retOf, RLe, SLeVs]; exact ⟨softz, .inl rfl, trivial⟩
theorem g21 : PSound Try.prog 21 G21 := (s21 U52 u52 (AX.W.start _) (fun z M n h => cf16 z M n h) rfl rfl rfl).softF fun _ => by simp only [retOf, RLe, SLeVs]; exact ⟨softz, .inl rfl, .inl rfl, trivial⟩
theorem g23 : PSound Try.prog 23 G23 := (s23 U22 u22 (AX.W.start _) (fun z M n h => cf16 z M n h) (fun z f k M n h hk => cf42 z f k M n h hk) rfl rfl (fun z x M n hv hz h0 h1 => cf52 z x M n hv hz h0 h1)).softF fun _ => by simp only [retOf, RLe, SLeVs]; exact ⟨softz, .inl rfl, trivial⟩
theorem g27 : PSound Try.prog 27 G27 := (s27 U30 u30 (AX.W.start _) rfl rfl rfl).softF fun _ => by simp only [retOf, RLe, SLeVs]; exact ⟨softz, .inl rfl, trivial⟩

noncomputable def V18 : AX := U28.add 18 (callD G18)
theorem v18 : XOK Try.prog V18 := xok_add u28 (.inl ⟨g18.callD, body_ok _ Try.func18 (by kernel_rfl)⟩) fun _ _ _ _ h => callD_keys h
noncomputable def V21 : AX := V18.add 21 (callD G21)
theorem v21 : XOK Try.prog V21 := xok_add v18 (.inl ⟨g21.callD, body_ok _ Try.func21 (by kernel_rfl)⟩) fun _ _ _ _ h => callD_keys h
noncomputable def V23 : AX := V21.add 23 (callD G23)
theorem v23 : XOK Try.prog V23 := xok_add v21 (.inl ⟨g23.callD, body_ok _ Try.func23 (by kernel_rfl)⟩) fun _ _ _ _ h => callD_keys h
noncomputable def V27 : AX := V23.add 27 (callD G27)
theorem v27 : XOK Try.prog V27 := xok_add v23 (.inl ⟨g27.callD, body_ok _ Try.func27 (by kernel_rfl)⟩) fun _ _ _ _ h => callD_keys h
end Go.AM

/- Play: steps on a zone. -/
namespace Go.AM
open Go Go.Proofs

def Zp (s c : Int) : Zn := mkZ 0 0 (s % 16) (1 + c % 64) 0
theorem Zp_ok (s c : Int) : rangesZ (Zp s c) := by
  have h1 := Int.emod_nonneg s (show (16 : Int) ≠ 0 by decide)
  have h2 := Int.emod_lt_of_pos s (show (0 : Int) < 16 by decide)
  have h3 := Int.emod_nonneg c (show (64 : Int) ≠ 0 by decide)
  have h4 := Int.emod_lt_of_pos c (show (0 : Int) < 64 by decide)
  unfold rangesZ Zp mkZ
  exact ⟨Int.le_refl 0, show (0 : Int) < 4 by decide, .inl rfl, h1, show s % 16 < 256 by omega, show 1 ≤ 1 + c % 64 by omega, show 1 + c % 64 ≤ 256 - s % 16 by omega, Int.le_refl 0, show 0 ≤ 1 + c % 64 by omega⟩

@[simp] theorem hrows_nil : hrows [] = [] := rfl
theorem play_nil (Z : Zn) : playP Z [] = (newZ Z Z.count.toNat, []) := rfl
theorem play_next (Z : Zn) {l : List Opn} {i : Nat} (hi : i < l.length) : playP Z (l.take (i + 1)) = stepP (playP Z (l.take i)) (og l i) := by
  unfold playP
  rw [List.take_succ_eq_append_getElem hi, List.foldl_append, og_eq hi]
  rfl

@[simp] theorem Zn.leaves {z : Zn} {M : Nat → AO} : leaveLeaves M z.cells = some (z.cells, []) := rfl
theorem SLeL.self : ∀ (l : List AV), SLeL l l
  | [] => trivial
  | _ :: r => ⟨.inl rfl, SLeL.self r⟩
@[simp] theorem Zn.sle {z : Zn} : SLeL z.cells z.cells := SLeL.self _

abbrev PlayArg := Int × Int × List Opn
def okPlay (x : PlayArg) : Prop := (0 ≤ x.1 ∧ x.1 ≤ 255) ∧ (0 ≤ x.2.1 ∧ x.2.1 ≤ 255) ∧ x.2.2.length ≤ 30 ∧ ∀ o ∈ x.2.2, (0 ≤ o.order ∧ o.order ≤ 255) ∧ 0 ≤ o.pick ∧ o.pick ≤ 255

theorem s25 (X : AX) (hX : XOK Try.prog X) (hw : X.W wT) (h18 : ∀ a b c d e M n, X.call 18 [I a, I b, I c, I d, I e] M n = some (.tup [.agg (newR (mkZ a b c d e)).cells, I (newE (mkZ a b c d e))], []))
    (h21 : ∀ z o M n, small z → X.call 21 [.agg z.cells, I o] M n = some (.tup [.agg (allocR z o).1.cells, I (allocR z o).2.1, I (allocR z o).2.2], []))
    (h23 : ∀ z f o M n, small z → X.call 23 [.agg z.cells, I f, I o] M n = some (.tup [.agg (freeR z f o).1.cells, I (freeR z f o).2], [])) :
    PSound Try.prog 25 (specF (ι := {x : PlayArg // okPlay x}) (fun x => [U8 x.1.1, U8 x.1.2.1, .rd 3 (orows x.1.2.2)]) fun x => retOf [.agg (playP (Zp x.1.1 x.1.2.1) x.1.2.2).1.cells, .ow 2 (hrows (playP (Zp x.1.1 x.1.2.1) x.1.2.2).2), B true]) := by
  refine psound_spec hX mixed Try.func25 rfl fun ⟨⟨s, c, l⟩, ⟨hs1, hs2⟩, ⟨hc1, hc2⟩, hlm, hop⟩ w0 G => ⟨by show 3 ≤ 107; decide, rfl, ?_⟩
  show AW ⟨Try.prog, X, 107, w0, .pure G⟩ _ _ _
  have hc : Cx.OK ⟨Try.prog, X, 107, w0, .pure G⟩ := ⟨hX, mixed⟩
  simp only at hs1 hs2 hc1 hc2 hlm hop ⊢
  have hZ := Zp_ok s c
  obtain ⟨Z, hZe⟩ : ∃ Z, Z = Zp s c := ⟨_, rfl⟩
  have hn1 : newR (mkZ 0 0 (s % 16) (1 + c % 64) 0) = newZ Z Z.count.toNat := by rw [hZe]; exact if_pos hZ
  have hn2 : newE (mkZ 0 0 (s % 16) (1 + c % 64) 0) = 0 := by unfold newE; exact if_pos hZ
  rw [← hZe] at hZ ⊢
  have ht1 := tmod_pos (b := 16) hs1
  have ht2 := tmod_pos (b := 64) hc1
  have h18z := fun M n => h18 0 0 (s % 16) (1 + c % 64) 0 M n
  rw [hn1, hn2] at h18z
  repeat' (first | (apply aw_seq_k; intro K hK) | (refine aw_run hc (by first | exact aw_nod | (intro _; rw [ordB_w hw]; kernel_rfl) | (intro _; kernel_rfl)) ?_; simp [List.zipIdx, ht1, ht2, h18z, -getM, getM_hit, getM_miss, getM_none]; (repeat (simp (disch := first | omega | assumption | fail) only [if_pos, if_neg, wrap64]; try simp [List.zipIdx, ht1, ht2, h18z, -getM, getM_hit, getM_miss, getM_none])); try (repeat' (refine guardQ_split (fun h => ?_) (fun h => ?_) <;> simp at h <;> (simp [List.zipIdx, ht1, ht2, h18z, -getM, getM_hit, getM_miss, getM_none]; (repeat (simp (disch := first | omega | assumption | fail) only [if_pos, if_neg, wrap64]; try simp [List.zipIdx, ht1, ht2, h18z, -getM, getM_hit, getM_miss, getM_none])))))) | (refine aw_cond (b := _) (by exact rfl) (fun h => ?_) (fun h => ?_) <;> (try simp at h)) | (refine aw_block ?_) | (refine aw_skip ?_; simp only [thenQ, blockQ, if_true]) | (refine aw_exit ?_; simp [thenQ, blockQ]) | (refine aw_ret ?_; simp only [thenQ, blockQ]) | (refine aw_round ?_) | (refine hK _ ?_; clear hK) | (clear hK; refine hK _ ?_; clear hK) | (clear hK; clear hK; refine hK _ ?_; clear hK) | (clear hK; clear hK; clear hK; refine hK _ ?_; clear hK))
  refine aw_weaken (le_nilslot (t := 11) (sz := 2) (by simp)) ?_
  refine aw_loopK (s0 := ?lps1) (m0 := ?lpm1) (ι := {i : Nat // i ≤ l.length}) [6, 9, 35, 36] (fun i => [(37, I i.1), (11, .sl 368 1 2 0 (playP Z (l.take i.1)).2.length)]) (fun i => [(224, .box (playP Z (l.take i.1)).1.cells), (368, .vec 1 2 false (hrows (playP Z (l.take i.1)).2))]) (fun i => l.length - i.1) ⟨0, by omega⟩ ?lhs1 ?lhm1 ?_ ?_
  case lhs1 => first | (simp [keepS]; done) | (simp [keepS]; rfl)
  case lhm1 => first | rfl | (simp; done) | (simp; rfl)
  · simp only [List.take_zero, play_nil]
    exact le_of2 (by simp) (by simp [AVle, AV.under, AV.underL] <;> omega) (by simp [AOle, AO.under, AV.underL, AV.under] <;> omega)
  · rintro ⟨i, hi⟩
    simp only
    rcases Decidable.em (i < l.length) with hil | hil
    · have hilI : (i : Int) < (l.length : Int) := by omega
      have hnx := play_next Z hil
      have hp := play_inv hZ (l.take i)
      have hlen := play_len (l.take i) Z
      have hgo := orows_gi hil
      obtain ⟨⟨ho1, ho2⟩, hp1, hp2⟩ := hop (og l i) (by rw [og_eq hil]; exact List.getElem_mem hil)
      rcases hst : playP Z (l.take i) with ⟨y, hd⟩
      rcases hgop : og l i with ⟨gv, od, pk⟩
      rw [hst, hgop] at hnx
      rw [hst] at hp hlen
      rw [hgop] at hgo ho1 ho2 hp1 hp2
      simp only at hp hlen hgo ho1 ho2 hp1 hp2 ⊢
      have hys := hp.small hZ
      have hlm2 : hd.length ≤ 30 := by simp at hlen; omega
      cases gv with
      | true =>
        rcases Decidable.em (hd = []) with hh | hh
        · subst hh
          have hstep : stepP (y, []) ⟨true, od, pk⟩ = (y, []) := by simp [stepP]
          repeat' (first | (apply aw_seq_k; intro K hK) | (refine aw_run hc (by first | exact aw_nod | (intro _; rw [ordB_w hw]; kernel_rfl) | (intro _; kernel_rfl)) ?_; simp [List.zipIdx, hilI, hgo, -getM, getM_hit, getM_miss, getM_none]; (repeat (simp (disch := first | omega | assumption | fail) only [if_pos, if_neg, wrap64]; try simp [List.zipIdx, hilI, hgo, -getM, getM_hit, getM_miss, getM_none])); try (repeat' (refine guardQ_split (fun h => ?_) (fun h => ?_) <;> simp at h <;> (simp [List.zipIdx, hilI, hgo, -getM, getM_hit, getM_miss, getM_none]; (repeat (simp (disch := first | omega | assumption | fail) only [if_pos, if_neg, wrap64]; try simp [List.zipIdx, hilI, hgo, -getM, getM_hit, getM_miss, getM_none])))))) | (refine aw_cond (b := _) (by exact rfl) (fun h => ?_) (fun h => ?_) <;> (try simp at h)) | (refine aw_block ?_) | (refine aw_skip ?_; simp only [thenQ, blockQ, if_true]) | (refine aw_exit ?_; simp [thenQ, blockQ]) | (refine aw_ret ?_; simp only [thenQ, blockQ]) | (refine aw_round ?_) | (refine hK _ ?_; clear hK) | (clear hK; refine hK _ ?_; clear hK) | (clear hK; clear hK; refine hK _ ?_; clear hK) | (clear hK; clear hK; clear hK; refine hK _ ?_; clear hK))
          refine ⟨i + 1, ?_, by omega, by omega⟩
          simp only [hnx, hstep]
          exact le_of2 (by simp) (by simp [AVle, AV.under, AV.underL] <;> omega) (by simp [AOle, AO.under, AV.underL, AV.under] <;> omega)
        · have hl0 : 0 < hd.length := by
            rcases Nat.eq_zero_or_pos hd.length with e | e
            · exact absurd (List.eq_nil_of_length_eq_zero e) hh
            · exact e
          have hlne : ¬ hd.length = 0 := by omega
          have hm1 := Int.emod_nonneg pk (show ((hd.length : Nat) : Int) ≠ 0 by omega)
          have hm2 := Int.emod_lt_of_pos pk (show (0 : Int) < ((hd.length : Nat) : Int) by omega)
          have htm := tmod_pos (b := (hd.length : Int)) hp1
          obtain ⟨m, hm⟩ := Int.eq_ofNat_of_zero_le hm1
          rw [hm] at htm hm1 hm2
          have hml : m < hd.length := by omega
          have hgm := hrows_gi hml
          have hgive := hp.give hZ hml
          have h23z := fun M n => h23 y (hg hd m).1 ((hg hd m).2 : Int) M n hys
          rw [hgive.1] at h23z
          have hstep : stepP (y, hd) ⟨true, od, pk⟩ = ((freeR y (hg hd m).1 (hg hd m).2).1, hdel hd m) := by
            simp only [stepP, if_true, if_neg hh, hm, Int.toNat_natCast]
          have hmn : min m hd.length = m := Nat.min_eq_left (by omega)
          have hle1 : m ≤ 1073741824 := by omega
          have hdd : hd.take m ++ hd.drop (m + 1) = hdel hd m := rfl
          have hdl := hdel_len hml
          repeat' (first | (apply aw_seq_k; intro K hK) | (refine aw_run hc (by first | exact aw_nod | (intro _; rw [ordB_w hw]; kernel_rfl) | (intro _; kernel_rfl)) ?_; simp [List.zipIdx, hilI, hgo, hlne, hl0, htm, hgm, h23z, hmn, hle1, hrows_take, hrows_drop, hrows_append, hdd, -getM, getM_hit, getM_miss, getM_none]; (repeat (simp (disch := first | omega | assumption | fail) only [if_pos, if_neg, wrap64]; try simp [List.zipIdx, hilI, hgo, hlne, hl0, htm, hgm, h23z, hmn, hle1, hrows_take, hrows_drop, hrows_append, hdd, -getM, getM_hit, getM_miss, getM_none])); try (repeat' (refine guardQ_split (fun h => ?_) (fun h => ?_) <;> simp at h <;> (simp [List.zipIdx, hilI, hgo, hlne, hl0, htm, hgm, h23z, hmn, hle1, hrows_take, hrows_drop, hrows_append, hdd, -getM, getM_hit, getM_miss, getM_none]; (repeat (simp (disch := first | omega | assumption | fail) only [if_pos, if_neg, wrap64]; try simp [List.zipIdx, hilI, hgo, hlne, hl0, htm, hgm, h23z, hmn, hle1, hrows_take, hrows_drop, hrows_append, hdd, -getM, getM_hit, getM_miss, getM_none])))))) | (refine aw_cond (b := _) (by exact rfl) (fun h => ?_) (fun h => ?_) <;> (try simp at h)) | (refine aw_block ?_) | (refine aw_skip ?_; simp only [thenQ, blockQ, if_true]) | (refine aw_exit ?_; simp [thenQ, blockQ]) | (refine aw_ret ?_; simp only [thenQ, blockQ]) | (refine aw_round ?_) | (refine hK _ ?_; clear hK) | (clear hK; refine hK _ ?_; clear hK) | (clear hK; clear hK; refine hK _ ?_; clear hK) | (clear hK; clear hK; clear hK; refine hK _ ?_; clear hK))
          have hl2 : m + (hd.length - (m + 1)) = (hdel hd m).length := by omega
          have htk2 : List.take m (List.take m hd) ++ List.take (hd.length - (m + 1)) (List.drop (m + 1) hd) = hdel hd m := by
            rw [List.take_take, Nat.min_self, List.take_of_length_le (l := hd.drop (m + 1)) (by simp)]; rfl
          refine ⟨i + 1, ?_, by omega, by omega⟩
          simp only [hnx, hstep, hl2, htk2]
          refine le_turn (s1 := ?tus2) (m1 := ?tum2) [(368, 993)] [37, 11, 6, 9, 35, 36] [0, 224, 993] ?tua2 ?tub2 ?tuc2 ?tud2 ?tue2 ?tuf2 ?tug2
          case tua2 => first | (simp [keepS]; done) | (simp [keepS]; rfl)
          case tub2 => first | (simp; done) | (simp; rfl)
          case tuc2 => simp
          case tud2 => simp
          case tue2 => simp
          case tuf2 => simp
          case tug2 =>
            simp [swp, vr]
            exact le_of2 (by simp) (by simp [AVle, AV.under, AV.underL] <;> omega) (by simp [AOle, AO.under, AV.underL, AV.under] <;> omega)
      | false =>
        have hm1 := Int.emod_nonneg od (show (5 : Int) ≠ 0 by decide)
        have hm2 := Int.emod_lt_of_pos od (show (0 : Int) < 5 by decide)
        have htm := tmod_pos (b := 5) ho1
        obtain ⟨k, hk⟩ := Int.eq_ofNat_of_zero_le hm1
        rw [hk] at htm hm1 hm2
        have h21z := fun M n => h21 y (k : Int) M n hys
        rcases hp.take hZ (show k ≤ 4 by omega) with ⟨he, _⟩ | ⟨he, _, _⟩
        · have hstep : stepP (y, hd) ⟨false, od, pk⟩ = (y, hd) := by
            simp only [stepP, hk]
            rw [if_neg (by simp), if_neg (by rw [he]; decide)]
          rw [he] at h21z
          repeat' (first | (apply aw_seq_k; intro K hK) | (refine aw_run hc (by first | exact aw_nod | (intro _; rw [ordB_w hw]; kernel_rfl) | (intro _; kernel_rfl)) ?_; simp [List.zipIdx, hilI, hgo, htm, h21z, -getM, getM_hit, getM_miss, getM_none]; (repeat (simp (disch := first | omega | assumption | fail) only [if_pos, if_neg, wrap64]; try simp [List.zipIdx, hilI, hgo, htm, h21z, -getM, getM_hit, getM_miss, getM_none])); try (repeat' (refine guardQ_split (fun h => ?_) (fun h => ?_) <;> simp at h <;> (simp [List.zipIdx, hilI, hgo, htm, h21z, -getM, getM_hit, getM_miss, getM_none]; (repeat (simp (disch := first | omega | assumption | fail) only [if_pos, if_neg, wrap64]; try simp [List.zipIdx, hilI, hgo, htm, h21z, -getM, getM_hit, getM_miss, getM_none])))))) | (refine aw_cond (b := _) (by exact rfl) (fun h => ?_) (fun h => ?_) <;> (try simp at h)) | (refine aw_block ?_) | (refine aw_skip ?_; simp only [thenQ, blockQ, if_true]) | (refine aw_exit ?_; simp [thenQ, blockQ]) | (refine aw_ret ?_; simp only [thenQ, blockQ]) | (refine aw_round ?_) | (refine hK _ ?_; clear hK) | (clear hK; refine hK _ ?_; clear hK) | (clear hK; clear hK; refine hK _ ?_; clear hK) | (clear hK; clear hK; clear hK; refine hK _ ?_; clear hK))
          refine ⟨i + 1, ?_, by omega, by omega⟩
          simp only [hnx, hstep]
          exact le_of2 (by simp) (by simp [AVle, AV.under, AV.underL] <;> omega) (by simp [AOle, AO.under, AV.underL, AV.under] <;> omega)
        · have hstep : stepP (y, hd) ⟨false, od, pk⟩ = ((allocR y k).1, hd ++ [((allocR y k).2.1, k)]) := by
            simp only [stepP, hk, Int.toNat_natCast]
            rw [if_neg (by simp), if_pos he]
          rw [he] at h21z
          have hle1 : hd.length ≤ 1073741823 := by omega
          have htk : List.take hd.length (hrows hd) = hrows hd := List.take_of_length_le (by simp)
          have hap : hrows hd ++ [[I (allocR y k).2.1, I (k : Int)]] = hrows (hd ++ [((allocR y k).2.1, k)]) := by rw [hrows_one ((allocR y k).2.1, k), hrows_append]
          repeat' (first | (apply aw_seq_k; intro K hK) | (refine aw_run hc (by first | exact aw_nod | (intro _; rw [ordB_w hw]; kernel_rfl) | (intro _; kernel_rfl)) ?_; simp [List.zipIdx, hilI, hgo, htm, h21z, hle1, htk, hap, -getM, getM_hit, getM_miss, getM_none]; (repeat (simp (disch := first | omega | assumption | fail) only [if_pos, if_neg, wrap64]; try simp [List.zipIdx, hilI, hgo, htm, h21z, hle1, htk, hap, -getM, getM_hit, getM_miss, getM_none])); try (repeat' (refine guardQ_split (fun h => ?_) (fun h => ?_) <;> simp at h <;> (simp [List.zipIdx, hilI, hgo, htm, h21z, hle1, htk, hap, -getM, getM_hit, getM_miss, getM_none]; (repeat (simp (disch := first | omega | assumption | fail) only [if_pos, if_neg, wrap64]; try simp [List.zipIdx, hilI, hgo, htm, h21z, hle1, htk, hap, -getM, getM_hit, getM_miss, getM_none])))))) | (refine aw_cond (b := _) (by exact rfl) (fun h => ?_) (fun h => ?_) <;> (try simp at h)) | (refine aw_block ?_) | (refine aw_skip ?_; simp only [thenQ, blockQ, if_true]) | (refine aw_exit ?_; simp [thenQ, blockQ]) | (refine aw_ret ?_; simp only [thenQ, blockQ]) | (refine aw_round ?_) | (refine hK _ ?_; clear hK) | (clear hK; refine hK _ ?_; clear hK) | (clear hK; clear hK; refine hK _ ?_; clear hK) | (clear hK; clear hK; clear hK; refine hK _ ?_; clear hK))
          refine ⟨i + 1, ?_, by omega, by omega⟩
          have hl2 : hd.length + 1 = (hd ++ [((allocR y k).2.1, k)]).length := by simp
          simp only [hnx, hstep, hl2]
          refine le_turn (s1 := ?tus3) (m1 := ?tum3) [] [37, 11, 6, 9, 35, 36] [0, 224, 368] ?tua3 ?tub3 ?tuc3 ?tud3 ?tue3 ?tuf3 ?tug3
          case tua3 => first | (simp [keepS]; done) | (simp [keepS]; rfl)
          case tub3 => first | (simp; done) | (simp; rfl)
          case tuc3 => simp
          case tud3 => simp
          case tue3 => simp
          case tuf3 => simp
          case tug3 =>
            simp [swp, vr]
            exact le_of2 (by simp) (by simp [AVle, AV.under, AV.underL] <;> omega) (by simp [AOle, AO.under, AV.underL, AV.under] <;> omega)
    · obtain rfl : i = l.length := by omega
      have htk : List.take (playP Z l).2.length (hrows (playP Z l).2) = hrows (playP Z l).2 := List.take_of_length_le (by simp)
      repeat' (first | (apply aw_seq_k; intro K hK) | (refine aw_run hc (by first | exact aw_nod | (intro _; rw [ordB_w hw]; kernel_rfl) | (intro _; kernel_rfl)) ?_; simp [List.zipIdx, List.take_length, -getM, getM_hit, getM_miss, getM_none]; (repeat (simp (disch := first | omega | assumption | fail) only [if_pos, if_neg, wrap64]; try simp [List.zipIdx, List.take_length, -getM, getM_hit, getM_miss, getM_none])); try (repeat' (refine guardQ_split (fun h => ?_) (fun h => ?_) <;> simp at h <;> (simp [List.zipIdx, List.take_length, -getM, getM_hit, getM_miss, getM_none]; (repeat (simp (disch := first | omega | assumption | fail) only [if_pos, if_neg, wrap64]; try simp [List.zipIdx, List.take_length, -getM, getM_hit, getM_miss, getM_none])))))) | (refine aw_cond (b := _) (by exact rfl) (fun h => ?_) (fun h => ?_) <;> (try simp at h)) | (refine aw_block ?_) | (refine aw_skip ?_; simp only [thenQ, blockQ, if_true]) | (refine aw_exit ?_; simp [thenQ, blockQ]) | (refine aw_ret ?_; simp only [thenQ, blockQ]) | (refine aw_round ?_) | (refine hK _ ?_; clear hK) | (clear hK; refine hK _ ?_; clear hK) | (clear hK; clear hK; refine hK _ ?_; clear hK) | (clear hK; clear hK; clear hK; refine hK _ ?_; clear hK))
      refine ⟨by simp, ?_⟩
      simp [leaves_iff, Try.f25, htk, Zn.leaves]
      try (first | omega | (refine decide_eq_decide.2 ?_; omega) | (refine decide_eq_false ?_; omega) | (refine decide_eq_true ?_; omega))
end Go.AM

/- Law BuddyBack. -/
namespace Go.AM
open Go Go.Proofs

@[simp] theorem ty39 : Types Try.prog 39 = some ⟨.array 2 5, 2, 2, [.int .u8 0, .int .u8 0]⟩ := by kernel_rfl
@[simp] theorem ty50 : Types Try.prog 50 = some ⟨.slice 5, 1, 24, [.slice none 0 0]⟩ := by kernel_rfl
def urows (l : List Int) : List (List AV) := l.map fun x => [U8 x]
@[simp] theorem urows_len (l : List Int) : (urows l).length = l.length := by simp [urows]
theorem urows_gi {l : List Int} {n : Nat} (h : n < l.length) : (urows l)[n]? = some [U8 (gi l n)] := by rw [gi_eq h]; simp [urows, h]
theorem urows_inj : ∀ {h m : List Int}, urows h = urows m ↔ h = m
  | [], [] => by simp [urows]
  | [], _ :: _ => by simp [urows]
  | _ :: _, [] => by simp [urows]
  | a :: h, c :: m => by
    have := urows_inj (h := h) (m := m)
    simp only [urows, List.map_cons, List.cons.injEq, AV.v.injEq, Value.int.injEq, true_and, and_true] at this ⊢
    rw [this]
def U8ok (n : Int) : Prop := 0 ≤ n ∧ n ≤ 255
def Opok (o : Opn) : Prop := U8ok o.order ∧ U8ok o.pick

noncomputable def G25 : List AV → Option AV := specF (ι := {x : PlayArg // okPlay x}) (fun x => [U8 x.1.1, U8 x.1.2.1, .rd 3 (orows x.1.2.2)]) fun x => retOf [.agg (playP (Zp x.1.1 x.1.2.1) x.1.2.2).1.cells, .ow 2 (hrows (playP (Zp x.1.1 x.1.2.1) x.1.2.2).2), B true]
theorem G25_at {s c : Int} {l : List Opn} (h : okPlay (s, c, l)) : G25 [U8 s, U8 c, .rd 3 (orows l)] = some (.tup [.agg (playP (Zp s c) l).1.cells, .ow 2 (hrows (playP (Zp s c) l).2), B true]) :=
  specF_eq (ι := {x : PlayArg // okPlay x}) (A := fun x => [U8 x.1.1, U8 x.1.2.1, .rd 3 (orows x.1.2.2)]) (R := fun x => retOf [.agg (playP (Zp x.1.1 x.1.2.1) x.1.2.2).1.cells, .ow 2 (hrows (playP (Zp x.1.1 x.1.2.1) x.1.2.2).2), B true]) ⟨(s, c, l), h⟩ (by
    rintro ⟨⟨a, b, d⟩, h⟩ e
    simp [orows_inj] at e
    obtain ⟨rfl, rfl, rfl⟩ := e; rfl)
theorem cg25 (s c : Int) (l : List Opn) (M : Nat → AO) (n : Nat) (h : okPlay (s, c, l)) : callD G25 [U8 s, U8 c, .rd 3 (orows l)] M n = some (.tup [.agg (playP (Zp s c) l).1.cells, .sl n 1 2 0 (playP (Zp s c) l).2.length, B true], [(n, .vec 1 2 false (hrows (playP (Zp s c) l).2))]) := by
  simp [callD, AV.closedV, AV.isClosed, G25_at h]
theorem g25 : PSound Try.prog 25 G25 := s25 V27 v27 (AX.W.start _) (fun a b c d e M n => cg18 a b c d e M n) (fun z o M n h => cg21 z o M n h) (fun z f o M n h => cg23 z f o M n h)
noncomputable def V25 : AX := V27.add 25 (callD G25)
theorem v25 : XOK Try.prog V25 := xok_add v27 (.inl ⟨g25.callD, body_ok _ Try.func25 (by kernel_rfl)⟩) fun _ _ _ _ h => callD_keys h

theorem F20_self {z : Zn} (h : small z) : F20 [.agg z.cells, .agg z.cells] = some (B true) := (F20_at h h).trans (by rw [sameB_eq rfl])

abbrev BackArg := (Int × Int) × List Opn × List Int
def okBack (x : BackArg) : Prop := U8ok x.1.1 ∧ U8ok x.1.2 ∧ (∀ o ∈ x.2.1, Opok o) ∧ (∀ q ∈ x.2.2, U8ok q)

theorem s9 (X : AX) (hX : XOK Try.prog X) (hw : X.W wT) (h14 : ∀ M n, X.call 14 [] M n = some (B true, []))
    (h18 : ∀ a b c d e M n, X.call 18 [I a, I b, I c, I d, I e] M n = some (.tup [.agg (newR (mkZ a b c d e)).cells, I (newE (mkZ a b c d e))], []))
    (h20 : X.call 20 = callP F20)
    (h23 : ∀ z f o M n, small z → X.call 23 [.agg z.cells, I f, I o] M n = some (.tup [.agg (freeR z f o).1.cells, I (freeR z f o).2], []))
    (h25 : ∀ s c l M n, okPlay (s, c, l) → X.call 25 [U8 s, U8 c, .rd 3 (orows l)] M n = some (.tup [.agg (playP (Zp s c) l).1.cells, .sl n 1 2 0 (playP (Zp s c) l).2.length, B true], [(n, .vec 1 2 false (hrows (playP (Zp s c) l).2))])) :
    PSound Try.prog 9 (specF (ι := {x : BackArg // okBack x}) (fun x => [.agg [U8 x.1.1.1, U8 x.1.1.2], .rd 3 (orows x.1.2.1), .rd 1 (urows x.1.2.2)]) fun _ => retOf [B true]) := by
  refine psound_spec hX mixed Try.func9 rfl fun ⟨⟨⟨s, c⟩, l, q⟩, hs, hcc, hop, hq⟩ w0 G => ⟨by show 3 ≤ 101; decide, rfl, ?_⟩
  show AW ⟨Try.prog, X, 101, w0, .pure G⟩ _ _ _
  have hc : Cx.OK ⟨Try.prog, X, 101, w0, .pure G⟩ := ⟨hX, mixed⟩
  simp only at hs hcc hop hq ⊢
  rcases Decidable.em (l.length ≤ 30) with hl | hl
  · have hlI : ¬ (30 : Int) < (l.length : Int) := by omega
    have h25z := fun M n => h25 s c l M n ⟨hs, hcc, hl, hop⟩
    have hZ := Zp_ok s c
    have hpi := play_inv hZ l
    have hpl := play_len l (Zp s c)
    have hn1 : newR (mkZ 0 0 (s % 16) (1 + c % 64) 0) = newZ (Zp s c) (Zp s c).count.toNat := if_pos hZ
    have hn2 : newE (mkZ 0 0 (s % 16) (1 + c % 64) 0) = 0 := by unfold newE; exact if_pos hZ
    have ht1 := tmod_pos (b := 16) hs.1
    have ht2 := tmod_pos (b := 64) hcc.1
    have h18z := fun M n => h18 0 0 (s % 16) (1 + c % 64) 0 M n
    rw [hn1, hn2] at h18z
    obtain ⟨Z, hZe⟩ : ∃ Z, Z = Zp s c := ⟨_, rfl⟩
    rw [← hZe] at hZ h18z hpi hpl h25z
    rcases hst : playP Z l with ⟨z0, hd0⟩
    rw [hst] at hpi hpl h25z
    simp only at hpi hpl h25z
    have hs1 := hs.1
    have hs2 := hs.2
    have hc1 := hcc.1
    have hc2 := hcc.2
    repeat' (first | (apply aw_seq_k; intro K hK) | (refine aw_run hc (by first | exact aw_nod | (intro _; rw [ordB_w hw]; kernel_rfl) | (intro _; kernel_rfl)) ?_; simp [List.zipIdx, h14, hlI, h25z, -getM, getM_hit, getM_miss, getM_none]; (repeat (simp (disch := first | omega | assumption | fail) only [if_pos, if_neg, wrap64]; try simp [List.zipIdx, h14, hlI, h25z, -getM, getM_hit, getM_miss, getM_none])); try (repeat' (refine guardQ_split (fun h => ?_) (fun h => ?_) <;> simp at h <;> (simp [List.zipIdx, h14, hlI, h25z, -getM, getM_hit, getM_miss, getM_none]; (repeat (simp (disch := first | omega | assumption | fail) only [if_pos, if_neg, wrap64]; try simp [List.zipIdx, h14, hlI, h25z, -getM, getM_hit, getM_miss, getM_none])))))) | (refine aw_cond (b := _) (by exact rfl) (fun h => ?_) (fun h => ?_) <;> (try simp at h)) | (refine aw_block ?_) | (refine aw_skip ?_; simp only [thenQ, blockQ, if_true]) | (refine aw_exit ?_; simp [thenQ, blockQ]) | (refine aw_ret ?_; simp only [thenQ, blockQ]) | (refine aw_round ?_) | (refine hK _ ?_; clear hK) | (clear hK; refine hK _ ?_; clear hK) | (clear hK; clear hK; refine hK _ ?_; clear hK) | (clear hK; clear hK; clear hK; refine hK _ ?_; clear hK))
    refine aw_loopK (s0 := ?lps1) (m0 := ?lpm1) (ι := {p : Zn × List Hb × Nat // PI Z p.1 p.2.1 ∧ p.2.1.length + p.2.2 ≤ 30}) [2, 3, 7] (fun p => [(10, I p.1.2.2), (8, .sl 224 1 2 0 p.1.2.1.length)]) (fun p => [(304, .box p.1.1.cells), (224, .vec 1 2 false (hrows p.1.2.1))]) (fun p => p.1.2.1.length) ⟨(z0, hd0, 0), hpi, by simp only; omega⟩ ?lhs1 ?lhm1 ?_ ?_
    case lhs1 => first | (simp [keepS]; done) | (simp [keepS]; rfl)
    case lhm1 => first | rfl | (simp; done) | (simp; rfl)
    · exact le_of2 (by simp) (by simp [AVle, AV.under, AV.underL] <;> omega) (by simp [AOle, AO.under, AV.underL, AV.under] <;> omega)
    · rintro ⟨⟨y, hd, n⟩, hp, hlen⟩
      simp only at hp hlen ⊢
      have hys := hp.small hZ
      rcases Decidable.em (0 < hd.length) with hl0 | hl0
      · have hl0I : (0 : Int) < (hd.length : Int) := by omega
        have key : ∃ m : Nat, m < hd.length ∧ (m : Int) = (if n < q.length then gi q n % hd.length else 0) := by
          split
          · have h1 := Int.emod_nonneg (gi q n) (show ((hd.length : Nat) : Int) ≠ 0 by omega)
            have h2 := Int.emod_lt_of_pos (gi q n) (show (0 : Int) < ((hd.length : Nat) : Int) by omega)
            exact ⟨(gi q n % hd.length).toNat, by omega, by omega⟩
          · exact ⟨0, hl0, rfl⟩
        obtain ⟨m, hml, hm⟩ := key
        have hgm := hrows_gi hml
        have hgive := hp.give hZ hml
        have h23z := fun M n => h23 y (hg hd m).1 ((hg hd m).2 : Int) M n hys
        rw [hgive.1] at h23z
        have hmn : min m hd.length = m := Nat.min_eq_left (by omega)
        have hle1 : m ≤ 1073741824 := by omega
        have hdd : hd.take m ++ hd.drop (m + 1) = hdel hd m := rfl
        have hdl := hdel_len hml
        have hlne : ¬ hd.length = 0 := by omega
        have hl2 : m + (hd.length - (m + 1)) = (hdel hd m).length := by omega
        have htk2 : List.take m (List.take m hd) ++ List.take (hd.length - (m + 1)) (List.drop (m + 1) hd) = hdel hd m := by
          rw [List.take_take, Nat.min_self, List.take_of_length_le (l := hd.drop (m + 1)) (by simp)]; rfl
        rcases Decidable.em (n < q.length) with hnq | hnq
        · have hnqI : (n : Int) < (q.length : Int) := by omega
          have hgq := urows_gi hnq
          have hq1 := hq (gi q n) (gi_mem hnq)
          have hqa := hq1.1
          have hqb := hq1.2
          rw [if_pos hnq] at hm
          have htm := tmod_pos (b := (hd.length : Int)) hqa
          rw [← hm] at htm
          repeat' (first | (apply aw_seq_k; intro K hK) | (refine aw_run hc (by first | exact aw_nod | (intro _; rw [ordB_w hw]; kernel_rfl) | (intro _; kernel_rfl)) ?_; simp [List.zipIdx, hl0I, hl0, hnqI, hgq, hlne, htm, hgm, h23z, hmn, hle1, hrows_take, hrows_drop, hrows_append, hdd, -getM, getM_hit, getM_miss, getM_none]; (repeat (simp (disch := first | omega | assumption | fail) only [if_pos, if_neg, wrap64]; try simp [List.zipIdx, hl0I, hl0, hnqI, hgq, hlne, htm, hgm, h23z, hmn, hle1, hrows_take, hrows_drop, hrows_append, hdd, -getM, getM_hit, getM_miss, getM_none])); try (repeat' (refine guardQ_split (fun h => ?_) (fun h => ?_) <;> simp at h <;> (simp [List.zipIdx, hl0I, hl0, hnqI, hgq, hlne, htm, hgm, h23z, hmn, hle1, hrows_take, hrows_drop, hrows_append, hdd, -getM, getM_hit, getM_miss, getM_none]; (repeat (simp (disch := first | omega | assumption | fail) only [if_pos, if_neg, wrap64]; try simp [List.zipIdx, hl0I, hl0, hnqI, hgq, hlne, htm, hgm, h23z, hmn, hle1, hrows_take, hrows_drop, hrows_append, hdd, -getM, getM_hit, getM_miss, getM_none])))))) | (refine aw_cond (b := _) (by exact rfl) (fun h => ?_) (fun h => ?_) <;> (try simp at h)) | (refine aw_block ?_) | (refine aw_skip ?_; simp only [thenQ, blockQ, if_true]) | (refine aw_exit ?_; simp [thenQ, blockQ]) | (refine aw_ret ?_; simp only [thenQ, blockQ]) | (refine aw_round ?_) | (refine hK _ ?_; clear hK) | (clear hK; refine hK _ ?_; clear hK) | (clear hK; clear hK; refine hK _ ?_; clear hK) | (clear hK; clear hK; clear hK; refine hK _ ?_; clear hK))
          refine ⟨_, hdel hd m, n + 1, ?_, ⟨hgive.2, by omega⟩, by omega⟩
          simp only [hl2, htk2]
          refine le_turn (s1 := ?tus2) (m1 := ?tum2) [(224, 1040)] [10, 8, 2, 3, 7] [0, 304, 1040] ?tua2 ?tub2 ?tuc2 ?tud2 ?tue2 ?tuf2 ?tug2
          case tua2 => first | (simp [keepS]; done) | (simp [keepS]; rfl)
          case tub2 => first | (simp; done) | (simp; rfl)
          case tuc2 => simp
          case tud2 => simp
          case tue2 => simp
          case tuf2 => simp
          case tug2 =>
            simp [swp, vr]
            exact le_of2 (by simp) (by simp [AVle, AV.under, AV.underL] <;> omega) (by simp [AOle, AO.under, AV.underL, AV.under] <;> omega)
        · have hnqI : ¬ (n : Int) < (q.length : Int) := by omega
          rw [if_neg hnq] at hm
          obtain rfl : m = 0 := by omega
          have hgm0 : ∀ h, (hrows hd)[0]'h = [I (hg hd 0).1, I ((hg hd 0).2 : Int)] := fun h => by
            rw [List.getElem?_eq_getElem h] at hgm; exact Option.some.inj hgm
          simp only [Nat.zero_add] at hl2 htk2 hdd
          repeat' (first | (apply aw_seq_k; intro K hK) | (refine aw_run hc (by first | exact aw_nod | (intro _; rw [ordB_w hw]; kernel_rfl) | (intro _; kernel_rfl)) ?_; simp [List.zipIdx, hl0I, hl0, hnqI, hlne, hgm, hgm0, h23z, hmn, hle1, hrows_take, hrows_drop, hrows_append, hdd, -getM, getM_hit, getM_miss, getM_none]; (repeat (simp (disch := first | omega | assumption | fail) only [if_pos, if_neg, wrap64]; try simp [List.zipIdx, hl0I, hl0, hnqI, hlne, hgm, hgm0, h23z, hmn, hle1, hrows_take, hrows_drop, hrows_append, hdd, -getM, getM_hit, getM_miss, getM_none])); try (repeat' (refine guardQ_split (fun h => ?_) (fun h => ?_) <;> simp at h <;> (simp [List.zipIdx, hl0I, hl0, hnqI, hlne, hgm, hgm0, h23z, hmn, hle1, hrows_take, hrows_drop, hrows_append, hdd, -getM, getM_hit, getM_miss, getM_none]; (repeat (simp (disch := first | omega | assumption | fail) only [if_pos, if_neg, wrap64]; try simp [List.zipIdx, hl0I, hl0, hnqI, hlne, hgm, hgm0, h23z, hmn, hle1, hrows_take, hrows_drop, hrows_append, hdd, -getM, getM_hit, getM_miss, getM_none])))))) | (refine aw_cond (b := _) (by exact rfl) (fun h => ?_) (fun h => ?_) <;> (try simp at h)) | (refine aw_block ?_) | (refine aw_skip ?_; simp only [thenQ, blockQ, if_true]) | (refine aw_exit ?_; simp [thenQ, blockQ]) | (refine aw_ret ?_; simp only [thenQ, blockQ]) | (refine aw_round ?_) | (refine hK _ ?_; clear hK) | (clear hK; refine hK _ ?_; clear hK) | (clear hK; clear hK; refine hK _ ?_; clear hK) | (clear hK; clear hK; clear hK; refine hK _ ?_; clear hK))
          refine ⟨_, hdel hd 0, n + 1, ?_, ⟨hgive.2, by omega⟩, by omega⟩
          have hl3 : hd.length - 1 = (hdel hd 0).length := by omega
          have htk3 : List.take (hd.length - 1) (hrows hd).tail = hrows (hdel hd 0) := by
            rw [List.take_of_length_le (by simp)]
            unfold hdel hrows
            simp
          simp only [htk3]
          simp only [hl3]
          refine le_turn (s1 := ?tus3) (m1 := ?tum3) [(224, 896)] [10, 8, 2, 3, 7] [0, 304, 896] ?tua3 ?tub3 ?tuc3 ?tud3 ?tue3 ?tuf3 ?tug3
          case tua3 => first | (simp [keepS]; done) | (simp [keepS]; rfl)
          case tub3 => first | (simp; done) | (simp; rfl)
          case tuc3 => simp
          case tud3 => simp
          case tue3 => simp
          case tuf3 => simp
          case tug3 =>
            simp [swp, vr]
            exact le_of2 (by simp) (by simp [AVle, AV.under, AV.underL] <;> omega) (by simp [AOle, AO.under, AV.underL, AV.under] <;> omega)
      · have hh : hd = [] := List.eq_nil_of_length_eq_zero (by omega)
        subst hh
        have hze := hp.empty hZ
        have h20z := F20_self hys
        rw [← hze] at h18z
        repeat' (first | (apply aw_seq_k; intro K hK) | (refine aw_run hc (by first | exact aw_nod | (intro _; rw [ordB_w hw]; kernel_rfl) | (intro _; kernel_rfl)) ?_; simp [List.zipIdx, ht1, ht2, h18z, h20, h20z, -getM, getM_hit, getM_miss, getM_none]; (repeat (simp (disch := first | omega | assumption | fail) only [if_pos, if_neg, wrap64]; try simp [List.zipIdx, ht1, ht2, h18z, h20, h20z, -getM, getM_hit, getM_miss, getM_none])); try (repeat' (refine guardQ_split (fun h => ?_) (fun h => ?_) <;> simp at h <;> (simp [List.zipIdx, ht1, ht2, h18z, h20, h20z, -getM, getM_hit, getM_miss, getM_none]; (repeat (simp (disch := first | omega | assumption | fail) only [if_pos, if_neg, wrap64]; try simp [List.zipIdx, ht1, ht2, h18z, h20, h20z, -getM, getM_hit, getM_miss, getM_none])))))) | (refine aw_cond (b := _) (by exact rfl) (fun h => ?_) (fun h => ?_) <;> (try simp at h)) | (refine aw_block ?_) | (refine aw_skip ?_; simp only [thenQ, blockQ, if_true]) | (refine aw_exit ?_; simp [thenQ, blockQ]) | (refine aw_ret ?_; simp only [thenQ, blockQ]) | (refine aw_round ?_) | (refine hK _ ?_; clear hK) | (clear hK; refine hK _ ?_; clear hK) | (clear hK; clear hK; refine hK _ ?_; clear hK) | (clear hK; clear hK; clear hK; refine hK _ ?_; clear hK))
        refine ⟨by simp, ?_⟩
        simp [leaves_iff, Try.f9]
        try (first | omega | (refine decide_eq_decide.2 ?_; omega) | (refine decide_eq_false ?_; omega) | (refine decide_eq_true ?_; omega))
  · have hlI : (30 : Int) < (l.length : Int) := by omega
    repeat' (first | (apply aw_seq_k; intro K hK) | (refine aw_run hc (by first | exact aw_nod | (intro _; rw [ordB_w hw]; kernel_rfl) | (intro _; kernel_rfl)) ?_; simp [List.zipIdx, h14, hlI, -getM, getM_hit, getM_miss, getM_none]; (repeat (simp (disch := first | omega | assumption | fail) only [if_pos, if_neg, wrap64]; try simp [List.zipIdx, h14, hlI, -getM, getM_hit, getM_miss, getM_none])); try (repeat' (refine guardQ_split (fun h => ?_) (fun h => ?_) <;> simp at h <;> (simp [List.zipIdx, h14, hlI, -getM, getM_hit, getM_miss, getM_none]; (repeat (simp (disch := first | omega | assumption | fail) only [if_pos, if_neg, wrap64]; try simp [List.zipIdx, h14, hlI, -getM, getM_hit, getM_miss, getM_none])))))) | (refine aw_cond (b := _) (by exact rfl) (fun h => ?_) (fun h => ?_) <;> (try simp at h)) | (refine aw_block ?_) | (refine aw_skip ?_; simp only [thenQ, blockQ, if_true]) | (refine aw_exit ?_; simp [thenQ, blockQ]) | (refine aw_ret ?_; simp only [thenQ, blockQ]) | (refine aw_round ?_) | (refine hK _ ?_; clear hK) | (clear hK; refine hK _ ?_; clear hK) | (clear hK; clear hK; refine hK _ ?_; clear hK) | (clear hK; clear hK; clear hK; refine hK _ ?_; clear hK))
    refine ⟨by simp, ?_⟩
    simp [leaves_iff, Try.f9]
    try (first | omega | (refine decide_eq_decide.2 ?_; omega) | (refine decide_eq_false ?_; omega) | (refine decide_eq_true ?_; omega))
end Go.AM

/- Law BuddyServes. -/
namespace Go.AM
open Go Go.Proofs

def AllF (z : Zn) (f n : Int) : Prop := ∀ x, f ≤ x → x < f + n → free z x
def SomeF (z : Zn) (w f : Int) : Prop := ∃ g, 0 ≤ g ∧ g % w = 0 ∧ g + w ≤ f ∧ AllF z g w
theorem AllF.zero (z : Zn) (f : Int) : AllF z f 0 := fun x h1 h2 => by omega
theorem AllF.next {z : Zn} {f n : Int} (hn : 0 ≤ n) : AllF z f (n + 1) ↔ AllF z f n ∧ free z (f + n) := by
  constructor
  · intro h; exact ⟨fun x h1 h2 => h x h1 (by omega), h _ (by omega) (by omega)⟩
  · rintro ⟨h1, h2⟩ x h3 h4
    by_cases e : x = f + n
    · rw [e]; exact h2
    · exact h1 x h3 (by omega)
theorem SomeF.zero {z : Zn} {k : Nat} : ¬ SomeF z (2 ^ k) 0 := by
  rintro ⟨g, h0, _, h1, _⟩
  have := pow_pos' (k := k)
  omega
theorem SomeF.next {z : Zn} {k : Nat} {f : Int} (hk : k ≤ 4) (h0 : 0 ≤ f) (hf : f % 2 ^ k = 0) : SomeF z (2 ^ k) (f + 2 ^ k) ↔ SomeF z (2 ^ k) f ∨ AllF z f (2 ^ k) := by
  constructor
  · rintro ⟨g, g0, g1, g2, g3⟩
    by_cases e : g + 2 ^ k ≤ f
    · exact .inl ⟨g, g0, g1, e, g3⟩
    · right
      have : g = f := by
        rcases le4 hk with rfl | rfl | rfl | rfl | rfl <;> (simp at *; omega)
      rw [← this]; exact g3
  · rintro (⟨g, g0, g1, g2, g3⟩ | h)
    · have := pow_pos' (k := k)
      exact ⟨g, g0, g1, by omega, g3⟩
    · exact ⟨f, h0, hf, Int.le_refl _, h⟩

theorem serves_iff {s c : Int} {y : Zn} {h : List Hb} (hp : PI (Zp s c) y h) {k : Nat} (hk : k ≤ 4) : SomeF y (2 ^ k) 80 ↔ ∃ j, k ≤ j ∧ j ≤ 4 ∧ y.fr j ≠ [] := by
  have hzin : ∀ x, free y x → 0 ≤ x ∧ x < 80 := fun x hx => by
    have h1 := hp.valid.inz x hx
    rw [hp.same.2.2.1, hp.same.2.2.2.1] at h1
    have h2 : (Zp s c).start = s % 16 := rfl
    have h3 : (Zp s c).count = 1 + c % 64 := rfl
    omega
  have hpk := pow_pos' (k := k)
  constructor
  · rintro ⟨g, g0, g1, g2, g3⟩
    have hin : insideZ y g k := by
      have h1 := hp.valid.inz g (g3 g (Int.le_refl _) (by omega))
      have h2 := hp.valid.inz (g + 2 ^ k - 1) (g3 _ (by omega) (by omega))
      exact ⟨h1.1, g1, by omega, by omega⟩
    obtain ⟨j, f, h1, h2, h3, _⟩ := cover hp.valid hk ⟨hin, g3⟩
    exact ⟨j, h1, h2, fun e => by rw [e] at h3; simp at h3⟩
  · rintro ⟨j, h1, h2, h3⟩
    obtain ⟨f, l, e⟩ : ∃ f l, y.fr j = f :: l := by
      cases h : y.fr j with
      | nil => exact absurd h h3
      | cons f l => exact ⟨f, l, rfl⟩
    have hm : f ∈ y.fr j := by rw [e]; simp
    have hin := hp.valid.inside j f h2 hm
    have hle : (2 : Int) ^ k ≤ 2 ^ j ∧ f % 2 ^ k = 0 := by
      have := hin.2.1
      rcases le4 h2 with rfl | rfl | rfl | rfl | rfl <;> (have := le4 hk; rcases this with rfl | rfl | rfl | rfl | rfl <;> first | (exfalso; omega) | (simp at *; try omega))
    have hall : AllF y f (2 ^ k) := fun x g1 g2 => ⟨j, f, h2, hm, g1, by omega⟩
    have a1 := hzin f (hall f (Int.le_refl _) (by omega))
    have a2 := hzin (f + 2 ^ k - 1) (hall _ (by omega) (by omega))
    exact ⟨f, a1.1, hle.2, by omega, hall⟩

open Classical in
theorem cg26 (z : Zn) (x : Int) (M : Nat → AO) (n : Nat) (hz : small z) (hc : checkZ z = 0) : callP F26 [.agg z.cells, I x] M n = some (B (decide (free z x)), []) := by
  have := F26_at hz x
  simp only [hc, true_and] at this
  simp [this]

abbrev ServeArg := (Int × Int) × List Opn × Int
def okServe (x : ServeArg) : Prop := U8ok x.1.1 ∧ U8ok x.1.2 ∧ (∀ o ∈ x.2.1, Opok o) ∧ U8ok x.2.2

open Classical in
theorem s7 (X : AX) (hX : XOK Try.prog X) (hw : X.W wT) (h14 : ∀ M n, X.call 14 [] M n = some (B true, []))
    (h21 : ∀ z o M n, small z → X.call 21 [.agg z.cells, I o] M n = some (.tup [.agg (allocR z o).1.cells, I (allocR z o).2.1, I (allocR z o).2.2], []))
    (h25 : ∀ s c l M n, okPlay (s, c, l) → X.call 25 [U8 s, U8 c, .rd 3 (orows l)] M n = some (.tup [.agg (playP (Zp s c) l).1.cells, .sl n 1 2 0 (playP (Zp s c) l).2.length, B true], [(n, .vec 1 2 false (hrows (playP (Zp s c) l).2))]))
    (h26 : ∀ z x M n, small z → checkZ z = 0 → X.call 26 [.agg z.cells, I x] M n = some (B (decide (free z x)), [])) :
    PSound Try.prog 7 (specF (ι := {x : ServeArg // okServe x}) (fun x => [.agg [U8 x.1.1.1, U8 x.1.1.2], .rd 3 (orows x.1.2.1), U8 x.1.2.2]) fun _ => retOf [B true]) := by
  refine psound_spec hX mixed Try.func7 rfl fun ⟨⟨⟨s, c⟩, l, od⟩, hs, hcc, hop, hod⟩ w0 G => ⟨by show 3 ≤ 88; decide, rfl, ?_⟩
  show AW ⟨Try.prog, X, 88, w0, .pure G⟩ _ _ _
  have hc : Cx.OK ⟨Try.prog, X, 88, w0, .pure G⟩ := ⟨hX, mixed⟩
  simp only at hs hcc hop hod ⊢
  rcases Decidable.em (l.length ≤ 30) with hl | hl
  · have hlI : ¬ (30 : Int) < (l.length : Int) := by omega
    have h25z := fun M n => h25 s c l M n ⟨hs, hcc, hl, hop⟩
    have hZ := Zp_ok s c
    have hpi := play_inv hZ l
    rcases hst : playP (Zp s c) l with ⟨y, hd⟩
    rw [hst] at hpi h25z
    simp only at hpi h25z
    have hys := hpi.small hZ
    have hck := hpi.check hZ
    have h26z := fun x M n => h26 y x M n hys hck
    have hm1 := Int.emod_nonneg od (show (5 : Int) ≠ 0 by decide)
    have hm2 := Int.emod_lt_of_pos od (show (0 : Int) < 5 by decide)
    have htm := tmod_pos (b := 5) hod.1
    obtain ⟨k, hk⟩ := Int.eq_ofNat_of_zero_le hm1
    rw [hk] at htm hm1 hm2
    have hk4 : k ≤ 4 := by omega
    have hit := serves_iff hpi hk4
    obtain ⟨w, hw1, hw2⟩ : ∃ w : Nat, (2 : Int) ^ k = w ∧ 2 ^ k = w := ⟨2 ^ k, by simp, rfl⟩
    have hw5 : w ≤ 16 := by
      rw [← hw2]
      rcases le4 hk4 with rfl | rfl | rfl | rfl | rfl <;> simp
    have hw0 : 1 ≤ w := by rw [← hw2]; exact Nat.one_le_two_pow
    have hsh : min k 64 = k := Nat.min_eq_left (by omega)
    have hwp := wrap_pow (show k ≤ 62 by omega)
    rw [hw1] at hit
    repeat' (first | (apply aw_seq_k; intro K hK) | (refine aw_run hc (by first | exact aw_nod | (intro _; rw [ordB_w hw]; kernel_rfl) | (intro _; kernel_rfl)) ?_; simp [List.zipIdx, h14, hlI, h25z, htm, hsh, hwp, hw1, bits64, -getM, getM_hit, getM_miss, getM_none]; (repeat (simp (disch := first | omega | assumption | fail) only [if_pos, if_neg, wrap64, wrapU64]; try simp [List.zipIdx, h14, hlI, h25z, htm, hsh, hwp, hw1, bits64, -getM, getM_hit, getM_miss, getM_none])); try (repeat' (refine guardQ_split (fun h => ?_) (fun h => ?_) <;> simp at h <;> (simp [List.zipIdx, h14, hlI, h25z, htm, hsh, hwp, hw1, bits64, -getM, getM_hit, getM_miss, getM_none]; (repeat (simp (disch := first | omega | assumption | fail) only [if_pos, if_neg, wrap64, wrapU64]; try simp [List.zipIdx, h14, hlI, h25z, htm, hsh, hwp, hw1, bits64, -getM, getM_hit, getM_miss, getM_none])))))) | (refine aw_cond (b := _) (by exact rfl) (fun h => ?_) (fun h => ?_) <;> (try simp at h)) | (refine aw_block ?_) | (refine aw_skip ?_; simp only [thenQ, blockQ, if_true]) | (refine aw_exit ?_; simp [thenQ, blockQ]) | (refine aw_ret ?_; simp only [thenQ, blockQ]) | (refine aw_round ?_) | (refine hK _ ?_; clear hK) | (clear hK; refine hK _ ?_; clear hK) | (clear hK; clear hK; refine hK _ ?_; clear hK) | (clear hK; clear hK; clear hK; refine hK _ ?_; clear hK))
    refine aw_loopK (s0 := ?lps1) (m0 := ?lpm1) (ι := {f : Nat // f ≤ 80 ∧ (f : Int) % 2 ^ k = 0}) [7, 10, 11] (fun f => [(12, B (decide (SomeF y w f.1))), (13, I f.1)]) (fun _ => []) (fun f => 80 - f.1) ⟨0, by omega, by simp⟩ ?lhs1 ?lhm1 ?_ ?_
    case lhs1 => first | (simp [keepS]; done) | (simp [keepS]; rfl)
    case lhm1 => first | rfl | (simp; done) | (simp; rfl)
    · have hz0 : ¬ SomeF y w ((0 : Nat) : Int) := by rw [← hw1]; exact SomeF.zero
      simp only [decide_eq_false hz0]
      exact le_of2 (by simp) (by simp [AVle, AV.under, AV.underL] <;> omega) (by simp [AOle, AO.under, AV.underL, AV.under] <;> omega)
    · rintro ⟨f, hf80, hfm⟩
      simp only
      rcases Decidable.em (f + w ≤ 80) with hfw | hfw
      · have hfwI : (f : Int) + (w : Int) ≤ 80 := by omega
        have hsn := SomeF.next (z := y) hk4 (show (0 : Int) ≤ (f : Int) by omega) hfm
        rw [hw1] at hsn
        have hfm2 : ((f + w : Nat) : Int) % 2 ^ k = 0 := by
          rw [Int.natCast_add, ← hw1, Int.add_emod_right]; exact hfm
        repeat' (first | (apply aw_seq_k; intro K hK) | (refine aw_run hc (by first | exact aw_nod | (intro _; rw [ordB_w hw]; kernel_rfl) | (intro _; kernel_rfl)) ?_; simp [List.zipIdx, hfwI, -getM, getM_hit, getM_miss, getM_none]; (repeat (simp (disch := first | omega | assumption | fail) only [if_pos, if_neg, wrap64]; try simp [List.zipIdx, hfwI, -getM, getM_hit, getM_miss, getM_none])); try (repeat' (refine guardQ_split (fun h => ?_) (fun h => ?_) <;> simp at h <;> (simp [List.zipIdx, hfwI, -getM, getM_hit, getM_miss, getM_none]; (repeat (simp (disch := first | omega | assumption | fail) only [if_pos, if_neg, wrap64]; try simp [List.zipIdx, hfwI, -getM, getM_hit, getM_miss, getM_none])))))) | (refine aw_cond (b := _) (by exact rfl) (fun h => ?_) (fun h => ?_) <;> (try simp at h)) | (refine aw_block ?_) | (refine aw_skip ?_; simp only [thenQ, blockQ, if_true]) | (refine aw_exit ?_; simp [thenQ, blockQ]) | (refine aw_ret ?_; simp only [thenQ, blockQ]) | (refine aw_round ?_) | (refine hK _ ?_; clear hK) | (clear hK; refine hK _ ?_; clear hK) | (clear hK; clear hK; refine hK _ ?_; clear hK) | (clear hK; clear hK; clear hK; refine hK _ ?_; clear hK))
        refine aw_loopK (s0 := ?lps2) (m0 := ?lpm2) (ι := {i : Nat // i ≤ w}) [7, 10, 11, 12, 13] (fun i => [(14, B (decide (AllF y f i.1))), (15, I ((f : Int) + (i.1 : Int)))]) (fun _ => []) (fun i => w - i.1) ⟨0, by omega⟩ ?lhs2 ?lhm2 ?_ ?_
        case lhs2 => first | (simp [keepS]; done) | (simp [keepS]; rfl)
        case lhm2 => first | rfl | (simp; done) | (simp; rfl)
        · have hz0 : AllF y f ((0 : Nat) : Int) := AllF.zero y f
          simp only [decide_eq_true hz0]
          exact le_of2 (by simp) (by simp [AVle, AV.under, AV.underL] <;> omega) (by simp [AOle, AO.under, AV.underL, AV.under] <;> omega)
        · rintro ⟨i, hi⟩
          simp only
          rcases Decidable.em (i < w) with hiw | hiw
          · have hiwI : (i : Int) < (w : Int) := by omega
            have hnx := AllF.next (z := y) (f := (f : Int)) (show (0 : Int) ≤ (i : Int) by omega)
            by_cases ha : AllF y f i
            · have h26y := fun M n => h26z ((f : Int) + (i : Int)) M n
              by_cases hb : free y ((f : Int) + (i : Int))
              · have hal : AllF y f ((i + 1 : Nat) : Int) := hnx.2 ⟨ha, hb⟩
                repeat' (first | (apply aw_seq_k; intro K hK) | (refine aw_run hc (by first | exact aw_nod | (intro _; rw [ordB_w hw]; kernel_rfl) | (intro _; kernel_rfl)) ?_; simp [List.zipIdx, hiwI, ha, h26y, hb, -getM, getM_hit, getM_miss, getM_none]; (repeat (simp (disch := first | omega | assumption | fail) only [if_pos, if_neg, wrap64]; try simp [List.zipIdx, hiwI, ha, h26y, hb, -getM, getM_hit, getM_miss, getM_none])); try (repeat' (refine guardQ_split (fun h => ?_) (fun h => ?_) <;> simp at h <;> (simp [List.zipIdx, hiwI, ha, h26y, hb, -getM, getM_hit, getM_miss, getM_none]; (repeat (simp (disch := first | omega | assumption | fail) only [if_pos, if_neg, wrap64]; try simp [List.zipIdx, hiwI, ha, h26y, hb, -getM, getM_hit, getM_miss, getM_none])))))) | (refine aw_cond (b := _) (by exact rfl) (fun h => ?_) (fun h => ?_) <;> (try simp at h)) | (refine aw_block ?_) | (refine aw_skip ?_; simp only [thenQ, blockQ, if_true]) | (refine aw_exit ?_; simp [thenQ, blockQ]) | (refine aw_ret ?_; simp only [thenQ, blockQ]) | (refine aw_round ?_) | (refine hK _ ?_; clear hK) | (clear hK; refine hK _ ?_; clear hK) | (clear hK; clear hK; refine hK _ ?_; clear hK) | (clear hK; clear hK; clear hK; refine hK _ ?_; clear hK))
                first | refine ⟨i + 1, ⟨by omega, ?_⟩, by omega⟩ | refine ⟨i + 1, ?_, by omega, by omega⟩
                simp only [decide_eq_true hal]
                exact le_of2 (by simp) (by simp [AVle, AV.under, AV.underL] <;> omega) (by simp [AOle, AO.under, AV.underL, AV.under] <;> omega)
              · have hal : ¬ AllF y f ((i + 1 : Nat) : Int) := fun h => hb (hnx.1 h).2
                repeat' (first | (apply aw_seq_k; intro K hK) | (refine aw_run hc (by first | exact aw_nod | (intro _; rw [ordB_w hw]; kernel_rfl) | (intro _; kernel_rfl)) ?_; simp [List.zipIdx, hiwI, ha, h26y, hb, -getM, getM_hit, getM_miss, getM_none]; (repeat (simp (disch := first | omega | assumption | fail) only [if_pos, if_neg, wrap64]; try simp [List.zipIdx, hiwI, ha, h26y, hb, -getM, getM_hit, getM_miss, getM_none])); try (repeat' (refine guardQ_split (fun h => ?_) (fun h => ?_) <;> simp at h <;> (simp [List.zipIdx, hiwI, ha, h26y, hb, -getM, getM_hit, getM_miss, getM_none]; (repeat (simp (disch := first | omega | assumption | fail) only [if_pos, if_neg, wrap64]; try simp [List.zipIdx, hiwI, ha, h26y, hb, -getM, getM_hit, getM_miss, getM_none])))))) | (refine aw_cond (b := _) (by exact rfl) (fun h => ?_) (fun h => ?_) <;> (try simp at h)) | (refine aw_block ?_) | (refine aw_skip ?_; simp only [thenQ, blockQ, if_true]) | (refine aw_exit ?_; simp [thenQ, blockQ]) | (refine aw_ret ?_; simp only [thenQ, blockQ]) | (refine aw_round ?_) | (refine hK _ ?_; clear hK) | (clear hK; refine hK _ ?_; clear hK) | (clear hK; clear hK; refine hK _ ?_; clear hK) | (clear hK; clear hK; clear hK; refine hK _ ?_; clear hK))
                first | refine ⟨i + 1, ⟨by omega, ?_⟩, by omega⟩ | refine ⟨i + 1, ?_, by omega, by omega⟩
                simp only [decide_eq_false hal]
                exact le_of2 (by simp) (by simp [AVle, AV.under, AV.underL] <;> omega) (by simp [AOle, AO.under, AV.underL, AV.under] <;> omega)
            · have hal : ¬ AllF y f ((i + 1 : Nat) : Int) := fun h => ha (hnx.1 h).1
              repeat' (first | (apply aw_seq_k; intro K hK) | (refine aw_run hc (by first | exact aw_nod | (intro _; rw [ordB_w hw]; kernel_rfl) | (intro _; kernel_rfl)) ?_; simp [List.zipIdx, hiwI, ha, -getM, getM_hit, getM_miss, getM_none]; (repeat (simp (disch := first | omega | assumption | fail) only [if_pos, if_neg, wrap64]; try simp [List.zipIdx, hiwI, ha, -getM, getM_hit, getM_miss, getM_none])); try (repeat' (refine guardQ_split (fun h => ?_) (fun h => ?_) <;> simp at h <;> (simp [List.zipIdx, hiwI, ha, -getM, getM_hit, getM_miss, getM_none]; (repeat (simp (disch := first | omega | assumption | fail) only [if_pos, if_neg, wrap64]; try simp [List.zipIdx, hiwI, ha, -getM, getM_hit, getM_miss, getM_none])))))) | (refine aw_cond (b := _) (by exact rfl) (fun h => ?_) (fun h => ?_) <;> (try simp at h)) | (refine aw_block ?_) | (refine aw_skip ?_; simp only [thenQ, blockQ, if_true]) | (refine aw_exit ?_; simp [thenQ, blockQ]) | (refine aw_ret ?_; simp only [thenQ, blockQ]) | (refine aw_round ?_) | (refine hK _ ?_; clear hK) | (clear hK; refine hK _ ?_; clear hK) | (clear hK; clear hK; refine hK _ ?_; clear hK) | (clear hK; clear hK; clear hK; refine hK _ ?_; clear hK))
              first | refine ⟨i + 1, ⟨by omega, ?_⟩, by omega⟩ | refine ⟨i + 1, ?_, by omega, by omega⟩
              simp only [decide_eq_false hal]
              exact le_of2 (by simp) (by simp [AVle, AV.under, AV.underL] <;> omega) (by simp [AOle, AO.under, AV.underL, AV.under] <;> omega)
          · obtain rfl : i = w := by omega
            by_cases hs0 : SomeF y i f
            · have hal : SomeF y i ((f + i : Nat) : Int) := hsn.2 (.inl hs0)
              repeat' (first | (apply aw_seq_k; intro K hK) | (refine aw_run hc (by first | exact aw_nod | (intro _; rw [ordB_w hw]; kernel_rfl) | (intro _; kernel_rfl)) ?_; simp [List.zipIdx, hs0, -getM, getM_hit, getM_miss, getM_none]; (repeat (simp (disch := first | omega | assumption | fail) only [if_pos, if_neg, wrap64]; try simp [List.zipIdx, hs0, -getM, getM_hit, getM_miss, getM_none])); try (repeat' (refine guardQ_split (fun h => ?_) (fun h => ?_) <;> simp at h <;> (simp [List.zipIdx, hs0, -getM, getM_hit, getM_miss, getM_none]; (repeat (simp (disch := first | omega | assumption | fail) only [if_pos, if_neg, wrap64]; try simp [List.zipIdx, hs0, -getM, getM_hit, getM_miss, getM_none])))))) | (refine aw_cond (b := _) (by exact rfl) (fun h => ?_) (fun h => ?_) <;> (try simp at h)) | (refine aw_block ?_) | (refine aw_skip ?_; simp only [thenQ, blockQ, if_true]) | (refine aw_exit ?_; simp [thenQ, blockQ]) | (refine aw_ret ?_; simp only [thenQ, blockQ]) | (refine aw_round ?_) | (refine hK _ ?_; clear hK) | (clear hK; refine hK _ ?_; clear hK) | (clear hK; clear hK; refine hK _ ?_; clear hK) | (clear hK; clear hK; clear hK; refine hK _ ?_; clear hK))
              first | refine ⟨f + i, ⟨⟨by omega, hfm2⟩, ?_⟩, by omega⟩ | refine ⟨f + i, ?_, ⟨by omega, hfm2⟩, by omega⟩
              simp only [decide_eq_true hal]
              exact le_of2 (by simp) (by simp [AVle, AV.under, AV.underL] <;> omega) (by simp [AOle, AO.under, AV.underL, AV.under] <;> omega)
            · by_cases ha : AllF y f i
              · have hal : SomeF y i ((f + i : Nat) : Int) := hsn.2 (.inr ha)
                repeat' (first | (apply aw_seq_k; intro K hK) | (refine aw_run hc (by first | exact aw_nod | (intro _; rw [ordB_w hw]; kernel_rfl) | (intro _; kernel_rfl)) ?_; simp [List.zipIdx, hs0, ha, -getM, getM_hit, getM_miss, getM_none]; (repeat (simp (disch := first | omega | assumption | fail) only [if_pos, if_neg, wrap64]; try simp [List.zipIdx, hs0, ha, -getM, getM_hit, getM_miss, getM_none])); try (repeat' (refine guardQ_split (fun h => ?_) (fun h => ?_) <;> simp at h <;> (simp [List.zipIdx, hs0, ha, -getM, getM_hit, getM_miss, getM_none]; (repeat (simp (disch := first | omega | assumption | fail) only [if_pos, if_neg, wrap64]; try simp [List.zipIdx, hs0, ha, -getM, getM_hit, getM_miss, getM_none])))))) | (refine aw_cond (b := _) (by exact rfl) (fun h => ?_) (fun h => ?_) <;> (try simp at h)) | (refine aw_block ?_) | (refine aw_skip ?_; simp only [thenQ, blockQ, if_true]) | (refine aw_exit ?_; simp [thenQ, blockQ]) | (refine aw_ret ?_; simp only [thenQ, blockQ]) | (refine aw_round ?_) | (refine hK _ ?_; clear hK) | (clear hK; refine hK _ ?_; clear hK) | (clear hK; clear hK; refine hK _ ?_; clear hK) | (clear hK; clear hK; clear hK; refine hK _ ?_; clear hK))
                first | refine ⟨f + i, ⟨⟨by omega, hfm2⟩, ?_⟩, by omega⟩ | refine ⟨f + i, ?_, ⟨by omega, hfm2⟩, by omega⟩
                simp only [decide_eq_true hal]
                exact le_of2 (by simp) (by simp [AVle, AV.under, AV.underL] <;> omega) (by simp [AOle, AO.under, AV.underL, AV.under] <;> omega)
              · have hal : ¬ SomeF y i ((f + i : Nat) : Int) := fun h => (hsn.1 h).elim hs0 ha
                repeat' (first | (apply aw_seq_k; intro K hK) | (refine aw_run hc (by first | exact aw_nod | (intro _; rw [ordB_w hw]; kernel_rfl) | (intro _; kernel_rfl)) ?_; simp [List.zipIdx, hs0, ha, -getM, getM_hit, getM_miss, getM_none]; (repeat (simp (disch := first | omega | assumption | fail) only [if_pos, if_neg, wrap64]; try simp [List.zipIdx, hs0, ha, -getM, getM_hit, getM_miss, getM_none])); try (repeat' (refine guardQ_split (fun h => ?_) (fun h => ?_) <;> simp at h <;> (simp [List.zipIdx, hs0, ha, -getM, getM_hit, getM_miss, getM_none]; (repeat (simp (disch := first | omega | assumption | fail) only [if_pos, if_neg, wrap64]; try simp [List.zipIdx, hs0, ha, -getM, getM_hit, getM_miss, getM_none])))))) | (refine aw_cond (b := _) (by exact rfl) (fun h => ?_) (fun h => ?_) <;> (try simp at h)) | (refine aw_block ?_) | (refine aw_skip ?_; simp only [thenQ, blockQ, if_true]) | (refine aw_exit ?_; simp [thenQ, blockQ]) | (refine aw_ret ?_; simp only [thenQ, blockQ]) | (refine aw_round ?_) | (refine hK _ ?_; clear hK) | (clear hK; refine hK _ ?_; clear hK) | (clear hK; clear hK; refine hK _ ?_; clear hK) | (clear hK; clear hK; clear hK; refine hK _ ?_; clear hK))
                first | refine ⟨f + i, ⟨⟨by omega, hfm2⟩, ?_⟩, by omega⟩ | refine ⟨f + i, ?_, ⟨by omega, hfm2⟩, by omega⟩
                simp only [decide_eq_false hal]
                exact le_of2 (by simp) (by simp [AVle, AV.under, AV.underL] <;> omega) (by simp [AOle, AO.under, AV.underL, AV.under] <;> omega)
      · obtain rfl : f = 80 := by
          rw [← hw2] at hfw
          rcases le4 hk4 with rfl | rfl | rfl | rfl | rfl <;> (simp at *; omega)
        have h21z := fun M n => h21 y (k : Int) M n hys
        have hfwI : ¬ (80 : Int) + (w : Int) ≤ 80 := by omega
        rw [show ((80 : Nat) : Int) = 80 from rfl]
        rcases hpi.take hZ hk4 with ⟨he, hn⟩ | ⟨he, hn, _⟩
        · have hno : ¬ SomeF y w 80 := fun h => by
            obtain ⟨j, j1, j2, j3⟩ := hit.1 h
            exact j3 (hn j j1 j2)
          rw [he] at h21z
          repeat' (first | (apply aw_seq_k; intro K hK) | (refine aw_run hc (by first | exact aw_nod | (intro _; rw [ordB_w hw]; kernel_rfl) | (intro _; kernel_rfl)) ?_; simp [List.zipIdx, hfwI, hno, h21z, -getM, getM_hit, getM_miss, getM_none]; (repeat (simp (disch := first | omega | assumption | fail) only [if_pos, if_neg, wrap64]; try simp [List.zipIdx, hfwI, hno, h21z, -getM, getM_hit, getM_miss, getM_none])); try (repeat' (refine guardQ_split (fun h => ?_) (fun h => ?_) <;> simp at h <;> (simp [List.zipIdx, hfwI, hno, h21z, -getM, getM_hit, getM_miss, getM_none]; (repeat (simp (disch := first | omega | assumption | fail) only [if_pos, if_neg, wrap64]; try simp [List.zipIdx, hfwI, hno, h21z, -getM, getM_hit, getM_miss, getM_none])))))) | (refine aw_cond (b := _) (by exact rfl) (fun h => ?_) (fun h => ?_) <;> (try simp at h)) | (refine aw_block ?_) | (refine aw_skip ?_; simp only [thenQ, blockQ, if_true]) | (refine aw_exit ?_; simp [thenQ, blockQ]) | (refine aw_ret ?_; simp only [thenQ, blockQ]) | (refine aw_round ?_) | (refine hK _ ?_; clear hK) | (clear hK; refine hK _ ?_; clear hK) | (clear hK; clear hK; refine hK _ ?_; clear hK) | (clear hK; clear hK; clear hK; refine hK _ ?_; clear hK))
          refine ⟨by simp, ?_⟩
          simp [leaves_iff, Try.f7]
          try (first | omega | (refine decide_eq_decide.2 ?_; omega) | (refine decide_eq_false ?_; omega) | (refine decide_eq_true ?_; omega))
        · have hyes : SomeF y w 80 := hit.2 hn
          rw [he] at h21z
          repeat' (first | (apply aw_seq_k; intro K hK) | (refine aw_run hc (by first | exact aw_nod | (intro _; rw [ordB_w hw]; kernel_rfl) | (intro _; kernel_rfl)) ?_; simp [List.zipIdx, hfwI, hyes, h21z, -getM, getM_hit, getM_miss, getM_none]; (repeat (simp (disch := first | omega | assumption | fail) only [if_pos, if_neg, wrap64]; try simp [List.zipIdx, hfwI, hyes, h21z, -getM, getM_hit, getM_miss, getM_none])); try (repeat' (refine guardQ_split (fun h => ?_) (fun h => ?_) <;> simp at h <;> (simp [List.zipIdx, hfwI, hyes, h21z, -getM, getM_hit, getM_miss, getM_none]; (repeat (simp (disch := first | omega | assumption | fail) only [if_pos, if_neg, wrap64]; try simp [List.zipIdx, hfwI, hyes, h21z, -getM, getM_hit, getM_miss, getM_none])))))) | (refine aw_cond (b := _) (by exact rfl) (fun h => ?_) (fun h => ?_) <;> (try simp at h)) | (refine aw_block ?_) | (refine aw_skip ?_; simp only [thenQ, blockQ, if_true]) | (refine aw_exit ?_; simp [thenQ, blockQ]) | (refine aw_ret ?_; simp only [thenQ, blockQ]) | (refine aw_round ?_) | (refine hK _ ?_; clear hK) | (clear hK; refine hK _ ?_; clear hK) | (clear hK; clear hK; refine hK _ ?_; clear hK) | (clear hK; clear hK; clear hK; refine hK _ ?_; clear hK))
          refine ⟨by simp, ?_⟩
          simp [leaves_iff, Try.f7]
          try (first | omega | (refine decide_eq_decide.2 ?_; omega) | (refine decide_eq_false ?_; omega) | (refine decide_eq_true ?_; omega))
  · have hlI : (30 : Int) < (l.length : Int) := by omega
    repeat' (first | (apply aw_seq_k; intro K hK) | (refine aw_run hc (by first | exact aw_nod | (intro _; rw [ordB_w hw]; kernel_rfl) | (intro _; kernel_rfl)) ?_; simp [List.zipIdx, h14, hlI, -getM, getM_hit, getM_miss, getM_none]; (repeat (simp (disch := first | omega | assumption | fail) only [if_pos, if_neg, wrap64]; try simp [List.zipIdx, h14, hlI, -getM, getM_hit, getM_miss, getM_none])); try (repeat' (refine guardQ_split (fun h => ?_) (fun h => ?_) <;> simp at h <;> (simp [List.zipIdx, h14, hlI, -getM, getM_hit, getM_miss, getM_none]; (repeat (simp (disch := first | omega | assumption | fail) only [if_pos, if_neg, wrap64]; try simp [List.zipIdx, h14, hlI, -getM, getM_hit, getM_miss, getM_none])))))) | (refine aw_cond (b := _) (by exact rfl) (fun h => ?_) (fun h => ?_) <;> (try simp at h)) | (refine aw_block ?_) | (refine aw_skip ?_; simp only [thenQ, blockQ, if_true]) | (refine aw_exit ?_; simp [thenQ, blockQ]) | (refine aw_ret ?_; simp only [thenQ, blockQ]) | (refine aw_round ?_) | (refine hK _ ?_; clear hK) | (clear hK; refine hK _ ?_; clear hK) | (clear hK; clear hK; refine hK _ ?_; clear hK) | (clear hK; clear hK; clear hK; refine hK _ ?_; clear hK))
    refine ⟨by simp, ?_⟩
    simp [leaves_iff, Try.f7]
    try (first | omega | (refine decide_eq_decide.2 ?_; omega) | (refine decide_eq_false ?_; omega) | (refine decide_eq_true ?_; omega))
end Go.AM

/- Law BuddyApart. -/
namespace Go.AM
open Go Go.Proofs

@[simp] theorem ty46 : Types Try.prog 46 = some ⟨.array 80 3, 80, 640, List.replicate 80 (.int .i64 0)⟩ := by kernel_rfl
def oc (g : Int → Int) : List AV := (List.range 80).map fun (x : Nat) => I (g x)
@[simp] theorem oc_len (g : Int → Int) : (oc g).length = 80 := by simp [oc]
theorem oc_get {g : Int → Int} {y : Nat} (h : y < 80) : (oc g)[y]? = some (I (g y)) := by simp [oc, h]
theorem oc_congr {g g' : Int → Int} (h : ∀ x : Nat, x < 80 → g x = g' x) : oc g = oc g' := by
  unfold oc
  apply List.ext_getElem (by simp)
  intro n h1 h2
  simp only [List.getElem_map, List.getElem_range]
  rw [h n (by simpa using h1)]
theorem oc_set {g : Int → Int} {y : Nat} {v : Int} : (oc g).set y (I v) = oc fun x => if x = (y : Int) then v else g x := by
  apply List.ext_getElem (by simp)
  intro n h1 h2
  rw [List.getElem_set]
  simp only [oc, List.getElem_map, List.getElem_range]
  by_cases e : y = n
  · subst e; simp
  · rw [if_neg e, if_neg (by omega)]
theorem oc_nil : List.replicate 80 (AV.v (.int .i64 0)) = oc fun _ => 0 := by
  unfold oc
  rw [List.map_const']
  simp
@[simp] theorem oc_under {g : Int → Int} {n : Nat} : AV.underL n (oc g) := by
  have : ∀ l : List Nat, AV.underL n (l.map fun (x : Nat) => I (g x)) := fun l => by
    induction l with
    | nil => simp [AV.underL]
    | cons a r ih => simp only [List.map_cons, AV.underL]; exact ⟨by simp [AV.under], ih⟩
  exact this _

@[simp] theorem own_nil {x : Int} : own [] x = 0 := rfl
theorem own_take {hd : List Hb} {j : Nat} (hj : j < hd.length) (x : Int) : own (hd.take (j + 1)) x = own (hd.take j) x + (if has (hg hd j) x then 1 else 0) := by
  unfold own
  rw [List.take_succ_eq_append_getElem hj, List.countP_append, List.countP_singleton, hg_eq hj]

theorem getE {l : List AV} {n : Nat} {a : AV} (h : l[n]? = some a) : ∀ h', l[n]'(h') = a := fun h' => by
  rw [List.getElem?_eq_getElem h'] at h; exact Option.some.inj h
def ownP (h : List Hb) (n i : Nat) (x : Int) : Int := (own h x : Int) + if (n : Int) ≤ x ∧ x < (n : Int) + (i : Int) then 1 else 0
theorem ownP_zero (h : List Hb) (n : Nat) : oc (ownP h n 0) = oc fun x => (own h x : Int) := oc_congr fun x _ => by unfold ownP; rw [if_neg (by omega)]; omega
theorem ownP_get {h : List Hb} {n i : Nat} (hi : n + i < 80) : (oc (ownP h n i))[n + i]? = some (I (own h ((n : Int) + (i : Int)) : Int)) := by
  rw [oc_get hi]
  unfold ownP
  rw [if_neg (by omega), Int.natCast_add, Int.add_zero]
theorem ownP_set {h : List Hb} {n i : Nat} : (oc (ownP h n i)).set (n + i) (I ((own h ((n : Int) + (i : Int)) : Int) + 1)) = oc (ownP h n (i + 1)) := by
  rw [oc_set]
  refine oc_congr fun x _ => ?_
  unfold ownP
  by_cases e : (x : Int) = ((n + i : Nat) : Int)
  · rw [if_pos e, if_pos (by omega), e, Int.natCast_add]
  · rw [if_neg e]
    by_cases h2 : (n : Int) ≤ (x : Int) ∧ (x : Int) < (n : Int) + (i : Int)
    · rw [if_pos h2, if_pos (by omega)]
    · rw [if_neg h2, if_neg (by omega)]
theorem own_le {h : List Hb} {x : Int} : own h x ≤ h.length := List.countP_le_length
open Classical in
noncomputable def ownF (h : List Hb) (y : Zn) (f : Nat) (x : Int) : Int := (own h x : Int) + if x < (f : Int) ∧ free y x then 1 else 0
theorem ownF_zero {h : List Hb} {y : Zn} : oc (ownF h y 0) = oc fun x => (own h x : Int) := oc_congr fun x _ => by unfold ownF; rw [if_neg (by omega)]; omega
theorem ownF_get {h : List Hb} {y : Zn} {f : Nat} (hf : f < 80) : (oc (ownF h y f))[f]? = some (I (own h (f : Int) : Int)) := by
  rw [oc_get hf]; unfold ownF; rw [if_neg (by omega), Int.add_zero]
theorem ownF_set {h : List Hb} {y : Zn} {f : Nat} (hfr : free y (f : Int)) : (oc (ownF h y f)).set f (I ((own h (f : Int) : Int) + 1)) = oc (ownF h y (f + 1)) := by
  rw [oc_set]
  refine oc_congr fun x _ => ?_
  unfold ownF
  by_cases e : (x : Int) = (f : Int)
  · rw [if_pos e, e, if_pos ⟨by omega, hfr⟩]
  · rw [if_neg e]
    by_cases h2 : (x : Int) < (f : Int) ∧ free y (x : Int)
    · rw [if_pos h2, if_pos ⟨by omega, h2.2⟩]
    · rw [if_neg h2, if_neg fun h3 => h2 ⟨by omega, h3.2⟩]
theorem ownF_next {h : List Hb} {y : Zn} {f : Nat} (hfr : ¬ free y (f : Int)) : oc (ownF h y f) = oc (ownF h y (f + 1)) :=
  oc_congr fun x _ => by
    unfold ownF
    by_cases h2 : (x : Int) < (f : Int) ∧ free y (x : Int)
    · rw [if_pos h2, if_pos ⟨by omega, h2.2⟩]
    · rw [if_neg h2, if_neg]
      rintro ⟨h3, h4⟩
      by_cases e : (x : Int) = (f : Int)
      · rw [e] at h4; exact hfr h4
      · exact h2 ⟨by omega, h4⟩
theorem ownF_get1 {h : List Hb} {y : Zn} {f : Nat} (hf : f < 80) (hfr : free y (f : Int)) : (oc (ownF h y (f + 1)))[f]? = some (I ((own h (f : Int) : Int) + 1)) := by
  rw [oc_get hf]; unfold ownF; rw [if_pos ⟨by omega, hfr⟩]

abbrev ApartArg := Int × Int × List Opn
def okApart (x : ApartArg) : Prop := U8ok x.1 ∧ U8ok x.2.1 ∧ (∀ o ∈ x.2.2, Opok o)

open Classical in
theorem s8 (X : AX) (hX : XOK Try.prog X) (hw : X.W wT) (h14 : ∀ M n, X.call 14 [] M n = some (B true, []))
    (h25 : ∀ s c l M n, okPlay (s, c, l) → X.call 25 [U8 s, U8 c, .rd 3 (orows l)] M n = some (.tup [.agg (playP (Zp s c) l).1.cells, .sl n 1 2 0 (playP (Zp s c) l).2.length, B true], [(n, .vec 1 2 false (hrows (playP (Zp s c) l).2))]))
    (h26 : ∀ z x M n, small z → checkZ z = 0 → X.call 26 [.agg z.cells, I x] M n = some (B (decide (free z x)), [])) :
    PSound Try.prog 8 (specF (ι := {x : ApartArg // okApart x}) (fun x => [U8 x.1.1, U8 x.1.2.1, .rd 3 (orows x.1.2.2)]) fun _ => retOf [B true]) := by
  refine psound_spec hX mixed Try.func8 rfl fun ⟨⟨s, c, l⟩, hs, hcc, hop⟩ w0 G => ⟨by show 3 ≤ 123; decide, rfl, ?_⟩
  show AW ⟨Try.prog, X, 123, w0, .pure G⟩ _ _ _
  have hc : Cx.OK ⟨Try.prog, X, 123, w0, .pure G⟩ := ⟨hX, mixed⟩
  simp only at hs hcc hop ⊢
  rcases Decidable.em (l.length ≤ 30) with hl | hl
  · have hlI : ¬ (30 : Int) < (l.length : Int) := by omega
    have h25z := fun M n => h25 s c l M n ⟨hs, hcc, hl, hop⟩
    have hZ := Zp_ok s c
    have hpi := play_inv hZ l
    have hpl := play_len l (Zp s c)
    rcases hst : playP (Zp s c) l with ⟨y, hd⟩
    rw [hst] at hpi hpl h25z
    simp only at hpi hpl h25z
    have hys := hpi.small hZ
    have hck := hpi.check hZ
    have h26z := fun x M n => h26 y x M n hys hck
    have hs1 := hs.1
    have hs2 := hs.2
    have hc1 := hcc.1
    have hc2 := hcc.2
    have ht1 := tmod_pos (b := 16) hs.1
    have ht2 := tmod_pos (b := 64) hcc.1
    have hZs : (Zp s c).start = s % 16 := rfl
    have hZc : (Zp s c).count = 1 + c % 64 := rfl
    have hb1 := Int.emod_nonneg s (show (16 : Int) ≠ 0 by decide)
    have hb2 := Int.emod_lt_of_pos s (show (0 : Int) < 16 by decide)
    have hb3 := Int.emod_nonneg c (show (64 : Int) ≠ 0 by decide)
    have hb4 := Int.emod_lt_of_pos c (show (0 : Int) < 64 by decide)
    obtain ⟨fs, hfs⟩ : ∃ fs, fs = s % 16 := ⟨_, rfl⟩
    obtain ⟨lc, hlc⟩ : ∃ lc, lc = c % 64 := ⟨_, rfl⟩
    rw [← hfs] at ht1 hZs hb1 hb2
    rw [← hlc] at ht2 hZc hb3 hb4
    repeat' (first | (apply aw_seq_k; intro K hK) | (refine aw_run hc (by first | exact aw_nod | (intro _; rw [ordB_w hw]; kernel_rfl) | (intro _; kernel_rfl)) ?_; simp [List.zipIdx, h14, hlI, h25z, ht1, ht2, oc_nil, -List.reduceReplicate, -getM, getM_hit, getM_miss, getM_none]; (repeat (simp (disch := first | omega | assumption | fail) only [if_pos, if_neg, wrap64]; try simp [List.zipIdx, h14, hlI, h25z, ht1, ht2, oc_nil, -List.reduceReplicate, -getM, getM_hit, getM_miss, getM_none])); try (repeat' (refine guardQ_split (fun h => ?_) (fun h => ?_) <;> simp at h <;> (simp [List.zipIdx, h14, hlI, h25z, ht1, ht2, oc_nil, -List.reduceReplicate, -getM, getM_hit, getM_miss, getM_none]; (repeat (simp (disch := first | omega | assumption | fail) only [if_pos, if_neg, wrap64]; try simp [List.zipIdx, h14, hlI, h25z, ht1, ht2, oc_nil, -List.reduceReplicate, -getM, getM_hit, getM_miss, getM_none])))))) | (refine aw_cond (b := _) (by exact rfl) (fun h => ?_) (fun h => ?_) <;> (try simp at h)) | (refine aw_block ?_) | (refine aw_skip ?_; simp only [thenQ, blockQ, if_true]) | (refine aw_exit ?_; simp [thenQ, blockQ]) | (refine aw_ret ?_; simp only [thenQ, blockQ]) | (refine aw_round ?_) | (refine hK _ ?_; clear hK) | (clear hK; refine hK _ ?_; clear hK) | (clear hK; clear hK; refine hK _ ?_; clear hK) | (clear hK; clear hK; clear hK; refine hK _ ?_; clear hK))
    refine aw_loopK (s0 := ?lps1) (m0 := ?lpm1) (ι := {j : Nat // j ≤ hd.length}) [7, 10, 11, 12, 47, 48] (fun j => [(49, I j.1)]) (fun j => [(560, .box (oc fun x => (own (hd.take j.1) x : Int)))]) (fun j => hd.length - j.1) ⟨0, by omega⟩ ?lhs1 ?lhm1 ?_ ?_
    case lhs1 => first | (simp [keepS]; done) | (simp [keepS]; rfl)
    case lhm1 => first | rfl | (simp; done) | (simp; rfl)
    · simp only [List.take_zero, own_nil, Int.natCast_zero]
      exact le_of2 (by simp) (by simp [AVle, AV.under, AV.underL] <;> omega) (by simp [AOle, AO.under, AV.underL, AV.under] <;> omega)
    · rintro ⟨j, hj⟩
      simp only
      rcases Decidable.em (j < hd.length) with hjl | hjl
      · have hjI : (j : Int) < (hd.length : Int) := by omega
        have hgj := hrows_gi hjl
        obtain ⟨hk4, hin⟩ := hpi.blk _ (hg_mem hjl)
        obtain ⟨b, hbe⟩ : ∃ b, b = hg hd j := ⟨_, rfl⟩
        have htk := own_take hjl
        rw [← hbe] at hgj hk4 hin htk
        obtain ⟨f, k⟩ := b
        simp only at hgj hk4 hin htk
        have hbd := inside_bounds hZ hin
        obtain ⟨n, rfl⟩ := Int.eq_ofNat_of_zero_le hbd.1
        obtain ⟨w, hw1, hw2⟩ : ∃ w : Nat, (2 : Int) ^ k = w ∧ 2 ^ k = w := ⟨2 ^ k, by simp, rfl⟩
        have hw5 : w ≤ 16 := by
          rw [← hw2]
          rcases le4 hk4 with rfl | rfl | rfl | rfl | rfl <;> simp
        have hw0 : 1 ≤ w := by rw [← hw2]; exact Nat.one_le_two_pow
        have hsh : min k 64 = k := Nat.min_eq_left (by omega)
        have hwp := wrap_pow (show k ≤ 62 by omega)
        obtain ⟨hi1, hi2, hi3, hi4⟩ := hin
        rw [hZs] at hi1 hi4
        rw [hZc] at hi4
        rw [hw1] at hi2 hi4
        have hlt : ¬ ((n : Int) < fs) := by omega
        have htm : ((n : Int)).tmod (w : Int) = 0 := by rw [tmod_pos (by omega)]; exact hi2
        have hwne : ¬ w = 0 := by omega
        have hgt : ¬ (fs + 1 + lc < (n : Int) + (w : Int)) := by omega
        repeat' (first | (apply aw_seq_k; intro K hK) | (refine aw_run hc (by first | exact aw_nod | (intro _; rw [ordB_w hw]; kernel_rfl) | (intro _; kernel_rfl)) ?_; simp [List.zipIdx, hjI, hgj, hsh, hwp, hw1, hlt, htm, hwne, hgt, bits64, -getM, getM_hit, getM_miss, getM_none]; (repeat (simp (disch := first | omega | assumption | fail) only [if_pos, if_neg, wrap64, wrapU64]; try simp [List.zipIdx, hjI, hgj, hsh, hwp, hw1, hlt, htm, hwne, hgt, bits64, -getM, getM_hit, getM_miss, getM_none])); try (repeat' (refine guardQ_split (fun h => ?_) (fun h => ?_) <;> simp at h <;> (simp [List.zipIdx, hjI, hgj, hsh, hwp, hw1, hlt, htm, hwne, hgt, bits64, -getM, getM_hit, getM_miss, getM_none]; (repeat (simp (disch := first | omega | assumption | fail) only [if_pos, if_neg, wrap64, wrapU64]; try simp [List.zipIdx, hjI, hgj, hsh, hwp, hw1, hlt, htm, hwne, hgt, bits64, -getM, getM_hit, getM_miss, getM_none])))))) | (refine aw_cond (b := _) (by exact rfl) (fun h => ?_) (fun h => ?_) <;> (try simp at h)) | (refine aw_block ?_) | (refine aw_skip ?_; simp only [thenQ, blockQ, if_true]) | (refine aw_exit ?_; simp [thenQ, blockQ]) | (refine aw_ret ?_; simp only [thenQ, blockQ]) | (refine aw_round ?_) | (refine hK _ ?_; clear hK) | (clear hK; refine hK _ ?_; clear hK) | (clear hK; clear hK; refine hK _ ?_; clear hK) | (clear hK; clear hK; clear hK; refine hK _ ?_; clear hK))
        refine aw_loopK (s0 := ?lps2) (m0 := ?lpm2) (ι := {i : Nat // i ≤ w}) [7, 10, 11, 12, 14, 15, 47, 48, 49] (fun i => [(16, I ((n : Int) + (i.1 : Int)))]) (fun i => [(560, .box (oc (ownP (hd.take j) n i.1)))]) (fun i => w - i.1) ⟨0, by omega⟩ ?lhs2 ?lhm2 ?_ ?_
        case lhs2 => first | (simp [keepS]; done) | (simp [keepS]; rfl)
        case lhm2 => first | rfl | (simp; done) | (simp; rfl)
        · simp only [ownP_zero]
          exact le_of2 (by simp) (by simp [AVle, AV.under, AV.underL] <;> omega) (by simp [AOle, AO.under, AV.underL, AV.under] <;> omega)
        · rintro ⟨i, hi⟩
          simp only
          rcases Decidable.em (i < w) with hiw | hiw
          · have hiwI : (i : Int) < (w : Int) := by omega
            have hto : ((n : Int) + (i : Int)).toNat = n + i := by omega
            have hg := ownP_get (h := hd.take j) (n := n) (i := i) (by omega)
            have hst := ownP_set (h := hd.take j) (n := n) (i := i)
            have hol : own (hd.take j) ((n : Int) + (i : Int)) ≤ 30 := by
              have h1 := own_le (h := hd.take j) (x := (n : Int) + (i : Int))
              simp at h1; omega
            have hn80 : n + i < 80 := by omega
            repeat' (first | (apply aw_seq_k; intro K hK) | (refine aw_run hc (by first | exact aw_nod | (intro _; rw [ordB_w hw]; kernel_rfl) | (intro _; kernel_rfl)) ?_; simp [List.zipIdx, hiwI, hto, hg, getE hg, hst, hn80, -getM, getM_hit, getM_miss, getM_none]; (repeat (simp (disch := first | omega | assumption | fail) only [if_pos, if_neg, wrap64]; try simp [List.zipIdx, hiwI, hto, hg, getE hg, hst, hn80, -getM, getM_hit, getM_miss, getM_none])); try (repeat' (refine guardQ_split (fun h => ?_) (fun h => ?_) <;> simp at h <;> (simp [List.zipIdx, hiwI, hto, hg, getE hg, hst, hn80, -getM, getM_hit, getM_miss, getM_none]; (repeat (simp (disch := first | omega | assumption | fail) only [if_pos, if_neg, wrap64]; try simp [List.zipIdx, hiwI, hto, hg, getE hg, hst, hn80, -getM, getM_hit, getM_miss, getM_none])))))) | (refine aw_cond (b := _) (by exact rfl) (fun h => ?_) (fun h => ?_) <;> (try simp at h)) | (refine aw_block ?_) | (refine aw_skip ?_; simp only [thenQ, blockQ, if_true]) | (refine aw_exit ?_; simp [thenQ, blockQ]) | (refine aw_ret ?_; simp only [thenQ, blockQ]) | (refine aw_round ?_) | (refine hK _ ?_; clear hK) | (clear hK; refine hK _ ?_; clear hK) | (clear hK; clear hK; refine hK _ ?_; clear hK) | (clear hK; clear hK; clear hK; refine hK _ ?_; clear hK))
            refine ⟨i + 1, ?_, by omega, by omega⟩
            exact le_of2 (by simp) (by simp [AVle, AV.under, AV.underL] <;> omega) (by simp [AOle, AO.under, AV.underL, AV.under] <;> omega)
          · obtain rfl : i = w := by omega
            have hfin : oc (ownP (hd.take j) n i) = oc fun x => (own (hd.take (j + 1)) x : Int) := oc_congr fun x _ => by
              rw [htk]
              unfold ownP has
              simp only [hw1]
              by_cases h2 : (n : Int) ≤ (x : Int) ∧ (x : Int) < (n : Int) + (i : Int)
              · rw [if_pos h2, if_pos (by simpa using h2)]; omega
              · rw [if_neg h2, if_neg (by simpa using h2)]; omega
            repeat' (first | (apply aw_seq_k; intro K hK) | (refine aw_run hc (by first | exact aw_nod | (intro _; rw [ordB_w hw]; kernel_rfl) | (intro _; kernel_rfl)) ?_; simp [List.zipIdx, -getM, getM_hit, getM_miss, getM_none]; (repeat (simp (disch := first | omega | assumption | fail) only [if_pos, if_neg, wrap64]; try simp [List.zipIdx, -getM, getM_hit, getM_miss, getM_none])); try (repeat' (refine guardQ_split (fun h => ?_) (fun h => ?_) <;> simp at h <;> (simp [List.zipIdx, -getM, getM_hit, getM_miss, getM_none]; (repeat (simp (disch := first | omega | assumption | fail) only [if_pos, if_neg, wrap64]; try simp [List.zipIdx, -getM, getM_hit, getM_miss, getM_none])))))) | (refine aw_cond (b := _) (by exact rfl) (fun h => ?_) (fun h => ?_) <;> (try simp at h)) | (refine aw_block ?_) | (refine aw_skip ?_; simp only [thenQ, blockQ, if_true]) | (refine aw_exit ?_; simp [thenQ, blockQ]) | (refine aw_ret ?_; simp only [thenQ, blockQ]) | (refine aw_round ?_) | (refine hK _ ?_; clear hK) | (clear hK; refine hK _ ?_; clear hK) | (clear hK; clear hK; refine hK _ ?_; clear hK) | (clear hK; clear hK; clear hK; refine hK _ ?_; clear hK))
            refine ⟨j + 1, ?_, by omega, by omega⟩
            rw [hfin]
            exact le_of2 (by simp) (by simp [AVle, AV.under, AV.underL] <;> omega) (by simp [AOle, AO.under, AV.underL, AV.under] <;> omega)
      · obtain rfl : j = hd.length := by omega
        rw [List.take_length]
        repeat' (first | (apply aw_seq_k; intro K hK) | (refine aw_run hc (by first | exact aw_nod | (intro _; rw [ordB_w hw]; kernel_rfl) | (intro _; kernel_rfl)) ?_; simp [List.zipIdx, -getM, getM_hit, getM_miss, getM_none]; (repeat (simp (disch := first | omega | assumption | fail) only [if_pos, if_neg, wrap64]; try simp [List.zipIdx, -getM, getM_hit, getM_miss, getM_none])); try (repeat' (refine guardQ_split (fun h => ?_) (fun h => ?_) <;> simp at h <;> (simp [List.zipIdx, -getM, getM_hit, getM_miss, getM_none]; (repeat (simp (disch := first | omega | assumption | fail) only [if_pos, if_neg, wrap64]; try simp [List.zipIdx, -getM, getM_hit, getM_miss, getM_none])))))) | (refine aw_cond (b := _) (by exact rfl) (fun h => ?_) (fun h => ?_) <;> (try simp at h)) | (refine aw_block ?_) | (refine aw_skip ?_; simp only [thenQ, blockQ, if_true]) | (refine aw_exit ?_; simp [thenQ, blockQ]) | (refine aw_ret ?_; simp only [thenQ, blockQ]) | (refine aw_round ?_) | (refine hK _ ?_; clear hK) | (clear hK; refine hK _ ?_; clear hK) | (clear hK; clear hK; refine hK _ ?_; clear hK) | (clear hK; clear hK; clear hK; refine hK _ ?_; clear hK))
        refine aw_loopK (s0 := ?lps3) (m0 := ?lpm3) (ι := {f : Nat // f ≤ 80}) [7, 10, 11, 12] (fun f => [(92, I f.1)]) (fun f => [(560, .box (oc (ownF hd y f.1)))]) (fun f => 80 - f.1) ⟨0, by omega⟩ ?lhs3 ?lhm3 ?_ ?_
        case lhs3 => first | (simp [keepS]; done) | (simp [keepS]; rfl)
        case lhm3 => first | rfl | (simp; done) | (simp; rfl)
        · simp only [ownF_zero]
          exact le_of2 (by simp) (by simp [AVle, AV.under, AV.underL] <;> omega) (by simp [AOle, AO.under, AV.underL, AV.under] <;> omega)
        · rintro ⟨f, hf⟩
          simp only
          rcases Decidable.em (f < 80) with hf8 | hf8
          · have hf8I : (f : Int) < 80 := by omega
            have hpart := hpi.part f
            rw [hZs, hZc] at hpart
            have hg := ownF_get (h := hd) (y := y) hf8
            by_cases hfr : free y (f : Int)
            · rw [if_pos hfr] at hpart
              have hzone : fs ≤ (f : Int) ∧ (f : Int) < fs + (1 + lc) := by
                apply Classical.byContradiction
                intro h; rw [if_neg h] at hpart; omega
              rw [if_pos hzone] at hpart
              have ho0 : own hd (f : Int) = 0 := by omega
              have hst := ownF_set (h := hd) hfr
              have hg1 := ownF_get1 (h := hd) hf8 hfr
              rw [ho0] at hg hst hg1
              simp only [Int.natCast_zero, Int.zero_add] at hg hst hg1
              have hz1 : fs ≤ (f : Int) := hzone.1
              have hz2 : (f : Int) < fs + 1 + lc := by omega
              repeat' (first | (apply aw_seq_k; intro K hK) | (refine aw_run hc (by first | exact aw_nod | (intro _; rw [ordB_w hw]; kernel_rfl) | (intro _; kernel_rfl)) ?_; simp [List.zipIdx, hf8I, hf8, h26z, hfr, hg, getE hg, hst, hg1, getE hg1, hz1, hz2, -getM, getM_hit, getM_miss, getM_none]; (repeat (simp (disch := first | omega | assumption | fail) only [if_pos, if_neg, wrap64]; try simp [List.zipIdx, hf8I, hf8, h26z, hfr, hg, getE hg, hst, hg1, getE hg1, hz1, hz2, -getM, getM_hit, getM_miss, getM_none])); try (repeat' (refine guardQ_split (fun h => ?_) (fun h => ?_) <;> simp at h <;> (simp [List.zipIdx, hf8I, hf8, h26z, hfr, hg, getE hg, hst, hg1, getE hg1, hz1, hz2, -getM, getM_hit, getM_miss, getM_none]; (repeat (simp (disch := first | omega | assumption | fail) only [if_pos, if_neg, wrap64]; try simp [List.zipIdx, hf8I, hf8, h26z, hfr, hg, getE hg, hst, hg1, getE hg1, hz1, hz2, -getM, getM_hit, getM_miss, getM_none])))))) | (refine aw_cond (b := _) (by exact rfl) (fun h => ?_) (fun h => ?_) <;> (try simp at h)) | (refine aw_block ?_) | (refine aw_skip ?_; simp only [thenQ, blockQ, if_true]) | (refine aw_exit ?_; simp [thenQ, blockQ]) | (refine aw_ret ?_; simp only [thenQ, blockQ]) | (refine aw_round ?_) | (refine hK _ ?_; clear hK) | (clear hK; refine hK _ ?_; clear hK) | (clear hK; clear hK; refine hK _ ?_; clear hK) | (clear hK; clear hK; clear hK; refine hK _ ?_; clear hK))
              refine ⟨f + 1, ?_, by omega, by omega⟩
              exact le_of2 (by simp) (by simp [AVle, AV.under, AV.underL] <;> omega) (by simp [AOle, AO.under, AV.underL, AV.under] <;> omega)
            · rw [if_neg hfr] at hpart
              rcases Decidable.em (fs ≤ (f : Int) ∧ (f : Int) < fs + (1 + lc)) with hzone | hzone
              · rw [if_pos hzone] at hpart
                have ho0 : own hd (f : Int) = 1 := by omega
                rw [ho0] at hg
                have hz1 : fs ≤ (f : Int) := hzone.1
                have hz2 : (f : Int) < fs + 1 + lc := by omega
                have hg : (oc (ownF hd y f))[f]? = some (I 1) := hg
                repeat' (first | (apply aw_seq_k; intro K hK) | (refine aw_run hc (by first | exact aw_nod | (intro _; rw [ordB_w hw]; kernel_rfl) | (intro _; kernel_rfl)) ?_; simp [List.zipIdx, hf8I, hf8, h26z, hfr, hg, getE hg, hz1, hz2, -getM, getM_hit, getM_miss, getM_none]; (repeat (simp (disch := first | omega | assumption | fail) only [if_pos, if_neg, wrap64]; try simp [List.zipIdx, hf8I, hf8, h26z, hfr, hg, getE hg, hz1, hz2, -getM, getM_hit, getM_miss, getM_none])); try (repeat' (refine guardQ_split (fun h => ?_) (fun h => ?_) <;> simp at h <;> (simp [List.zipIdx, hf8I, hf8, h26z, hfr, hg, getE hg, hz1, hz2, -getM, getM_hit, getM_miss, getM_none]; (repeat (simp (disch := first | omega | assumption | fail) only [if_pos, if_neg, wrap64]; try simp [List.zipIdx, hf8I, hf8, h26z, hfr, hg, getE hg, hz1, hz2, -getM, getM_hit, getM_miss, getM_none])))))) | (refine aw_cond (b := _) (by exact rfl) (fun h => ?_) (fun h => ?_) <;> (try simp at h)) | (refine aw_block ?_) | (refine aw_skip ?_; simp only [thenQ, blockQ, if_true]) | (refine aw_exit ?_; simp [thenQ, blockQ]) | (refine aw_ret ?_; simp only [thenQ, blockQ]) | (refine aw_round ?_) | (refine hK _ ?_; clear hK) | (clear hK; refine hK _ ?_; clear hK) | (clear hK; clear hK; refine hK _ ?_; clear hK) | (clear hK; clear hK; clear hK; refine hK _ ?_; clear hK))
                refine ⟨f + 1, ?_, by omega, by omega⟩
                rw [ownF_next hfr]
                exact le_of2 (by simp) (by simp [AVle, AV.under, AV.underL] <;> omega) (by simp [AOle, AO.under, AV.underL, AV.under] <;> omega)
              · rw [if_neg hzone] at hpart
                have ho0 : own hd (f : Int) = 0 := by omega
                rw [ho0] at hg
                have hg : (oc (ownF hd y f))[f]? = some (I 0) := hg
                rcases Decidable.em (fs ≤ (f : Int)) with hz1 | hz1
                · have hz2 : ¬ (f : Int) < fs + 1 + lc := by omega
                  repeat' (first | (apply aw_seq_k; intro K hK) | (refine aw_run hc (by first | exact aw_nod | (intro _; rw [ordB_w hw]; kernel_rfl) | (intro _; kernel_rfl)) ?_; simp [List.zipIdx, hf8I, hf8, h26z, hfr, hg, getE hg, hz1, hz2, -getM, getM_hit, getM_miss, getM_none]; (repeat (simp (disch := first | omega | assumption | fail) only [if_pos, if_neg, wrap64]; try simp [List.zipIdx, hf8I, hf8, h26z, hfr, hg, getE hg, hz1, hz2, -getM, getM_hit, getM_miss, getM_none])); try (repeat' (refine guardQ_split (fun h => ?_) (fun h => ?_) <;> simp at h <;> (simp [List.zipIdx, hf8I, hf8, h26z, hfr, hg, getE hg, hz1, hz2, -getM, getM_hit, getM_miss, getM_none]; (repeat (simp (disch := first | omega | assumption | fail) only [if_pos, if_neg, wrap64]; try simp [List.zipIdx, hf8I, hf8, h26z, hfr, hg, getE hg, hz1, hz2, -getM, getM_hit, getM_miss, getM_none])))))) | (refine aw_cond (b := _) (by exact rfl) (fun h => ?_) (fun h => ?_) <;> (try simp at h)) | (refine aw_block ?_) | (refine aw_skip ?_; simp only [thenQ, blockQ, if_true]) | (refine aw_exit ?_; simp [thenQ, blockQ]) | (refine aw_ret ?_; simp only [thenQ, blockQ]) | (refine aw_round ?_) | (refine hK _ ?_; clear hK) | (clear hK; refine hK _ ?_; clear hK) | (clear hK; clear hK; refine hK _ ?_; clear hK) | (clear hK; clear hK; clear hK; refine hK _ ?_; clear hK))
                  refine ⟨f + 1, ?_, by omega, by omega⟩
                  rw [ownF_next hfr]
                  exact le_of2 (by simp) (by simp [AVle, AV.under, AV.underL] <;> omega) (by simp [AOle, AO.under, AV.underL, AV.under] <;> omega)
                · repeat' (first | (apply aw_seq_k; intro K hK) | (refine aw_run hc (by first | exact aw_nod | (intro _; rw [ordB_w hw]; kernel_rfl) | (intro _; kernel_rfl)) ?_; simp [List.zipIdx, hf8I, hf8, h26z, hfr, hg, getE hg, hz1, -getM, getM_hit, getM_miss, getM_none]; (repeat (simp (disch := first | omega | assumption | fail) only [if_pos, if_neg, wrap64]; try simp [List.zipIdx, hf8I, hf8, h26z, hfr, hg, getE hg, hz1, -getM, getM_hit, getM_miss, getM_none])); try (repeat' (refine guardQ_split (fun h => ?_) (fun h => ?_) <;> simp at h <;> (simp [List.zipIdx, hf8I, hf8, h26z, hfr, hg, getE hg, hz1, -getM, getM_hit, getM_miss, getM_none]; (repeat (simp (disch := first | omega | assumption | fail) only [if_pos, if_neg, wrap64]; try simp [List.zipIdx, hf8I, hf8, h26z, hfr, hg, getE hg, hz1, -getM, getM_hit, getM_miss, getM_none])))))) | (refine aw_cond (b := _) (by exact rfl) (fun h => ?_) (fun h => ?_) <;> (try simp at h)) | (refine aw_block ?_) | (refine aw_skip ?_; simp only [thenQ, blockQ, if_true]) | (refine aw_exit ?_; simp [thenQ, blockQ]) | (refine aw_ret ?_; simp only [thenQ, blockQ]) | (refine aw_round ?_) | (refine hK _ ?_; clear hK) | (clear hK; refine hK _ ?_; clear hK) | (clear hK; clear hK; refine hK _ ?_; clear hK) | (clear hK; clear hK; clear hK; refine hK _ ?_; clear hK))
                  refine ⟨f + 1, ?_, by omega, by omega⟩
                  rw [ownF_next hfr]
                  exact le_of2 (by simp) (by simp [AVle, AV.under, AV.underL] <;> omega) (by simp [AOle, AO.under, AV.underL, AV.under] <;> omega)
          · obtain rfl : f = 80 := by omega
            repeat' (first | (apply aw_seq_k; intro K hK) | (refine aw_run hc (by first | exact aw_nod | (intro _; rw [ordB_w hw]; kernel_rfl) | (intro _; kernel_rfl)) ?_; simp [List.zipIdx, -getM, getM_hit, getM_miss, getM_none]; (repeat (simp (disch := first | omega | assumption | fail) only [if_pos, if_neg, wrap64]; try simp [List.zipIdx, -getM, getM_hit, getM_miss, getM_none])); try (repeat' (refine guardQ_split (fun h => ?_) (fun h => ?_) <;> simp at h <;> (simp [List.zipIdx, -getM, getM_hit, getM_miss, getM_none]; (repeat (simp (disch := first | omega | assumption | fail) only [if_pos, if_neg, wrap64]; try simp [List.zipIdx, -getM, getM_hit, getM_miss, getM_none])))))) | (refine aw_cond (b := _) (by exact rfl) (fun h => ?_) (fun h => ?_) <;> (try simp at h)) | (refine aw_block ?_) | (refine aw_skip ?_; simp only [thenQ, blockQ, if_true]) | (refine aw_exit ?_; simp [thenQ, blockQ]) | (refine aw_ret ?_; simp only [thenQ, blockQ]) | (refine aw_round ?_) | (refine hK _ ?_; clear hK) | (clear hK; refine hK _ ?_; clear hK) | (clear hK; clear hK; refine hK _ ?_; clear hK) | (clear hK; clear hK; clear hK; refine hK _ ?_; clear hK))
            refine ⟨by simp, ?_⟩
            simp [leaves_iff, Try.f8]
            try (first | omega | (refine decide_eq_decide.2 ?_; omega) | (refine decide_eq_false ?_; omega) | (refine decide_eq_true ?_; omega))
  · have hlI : (30 : Int) < (l.length : Int) := by omega
    repeat' (first | (apply aw_seq_k; intro K hK) | (refine aw_run hc (by first | exact aw_nod | (intro _; rw [ordB_w hw]; kernel_rfl) | (intro _; kernel_rfl)) ?_; simp [List.zipIdx, h14, hlI, -getM, getM_hit, getM_miss, getM_none]; (repeat (simp (disch := first | omega | assumption | fail) only [if_pos, if_neg, wrap64]; try simp [List.zipIdx, h14, hlI, -getM, getM_hit, getM_miss, getM_none])); try (repeat' (refine guardQ_split (fun h => ?_) (fun h => ?_) <;> simp at h <;> (simp [List.zipIdx, h14, hlI, -getM, getM_hit, getM_miss, getM_none]; (repeat (simp (disch := first | omega | assumption | fail) only [if_pos, if_neg, wrap64]; try simp [List.zipIdx, h14, hlI, -getM, getM_hit, getM_miss, getM_none])))))) | (refine aw_cond (b := _) (by exact rfl) (fun h => ?_) (fun h => ?_) <;> (try simp at h)) | (refine aw_block ?_) | (refine aw_skip ?_; simp only [thenQ, blockQ, if_true]) | (refine aw_exit ?_; simp [thenQ, blockQ]) | (refine aw_ret ?_; simp only [thenQ, blockQ]) | (refine aw_round ?_) | (refine hK _ ?_; clear hK) | (clear hK; refine hK _ ?_; clear hK) | (clear hK; clear hK; refine hK _ ?_; clear hK) | (clear hK; clear hK; clear hK; refine hK _ ?_; clear hK))
    refine ⟨by simp, ?_⟩
    simp [leaves_iff, Try.f8]
    try (first | omega | (refine decide_eq_decide.2 ?_; omega) | (refine decide_eq_false ?_; omega) | (refine decide_eq_true ?_; omega))
end Go.AM

/- The arguments of the laws Serves, Apart, Back. -/
namespace Go.AM
open Go Go.Proofs

def shU : Sh := .int .u8
def shO : Sh := .sl [.bool, shU, shU]
def shUs : Sh := .sl [shU]
theorem sh5 : shapeOf Try.prog 10 5 = some [shU] := by kernel_rfl
theorem sh39 : shapeOf Try.prog 10 39 = some [shU, shU] := by kernel_rfl
theorem sh40 : shapeOf Try.prog 10 40 = some [shO] := by kernel_rfl
theorem sh50 : shapeOf Try.prog 10 50 = some [shUs] := by kernel_rfl
theorem fit_u8 {a : AV} (h : Fit shU a) : ∃ n, a = U8 n ∧ U8ok n := by
  simp only [shU, Fit] at h
  obtain ⟨n, rfl, hw⟩ := h
  refine ⟨n, rfl, ?_⟩
  simpa [Lit.wf, IntKind.min, IntKind.max, IntKind.signed, IntKind.bits, U8ok] using hw
theorem rows_u8 : ∀ {xs : List (List AV)}, (∀ e ∈ xs, FitL [shU] e) → ∃ l, xs = urows l ∧ ∀ x ∈ l, U8ok x
  | [], _ => ⟨[], rfl, by simp⟩
  | e :: r, h => by
    obtain ⟨l, rfl, hl⟩ := rows_u8 (xs := r) fun e' he => h e' (by simp [he])
    obtain ⟨a, rfl, ha⟩ := fitL_one (h e (by simp))
    obtain ⟨n, rfl, hn⟩ := fit_u8 ha
    refine ⟨n :: l, rfl, fun x hx => ?_⟩
    rcases List.mem_cons.1 hx with rfl | hx
    · exact hn
    · exact hl x hx
theorem rows_op : ∀ {xs : List (List AV)}, (∀ e ∈ xs, FitL [.bool, shU, shU] e) → ∃ l, xs = orows l ∧ ∀ x ∈ l, Opok x
  | [], _ => ⟨[], rfl, by simp⟩
  | e :: r, h => by
    obtain ⟨l, rfl, hl⟩ := rows_op (xs := r) fun e' he => h e' (by simp [he])
    obtain ⟨_, _, rfl, h1, h4⟩ := fitL_cons (h e (by simp))
    obtain ⟨_, _, rfl, h2, h4⟩ := fitL_cons h4
    obtain ⟨_, _, rfl, h3, h4⟩ := fitL_cons h4
    obtain rfl := fitL_nil h4
    simp only [Fit] at h1
    obtain ⟨b, rfl⟩ := h1
    obtain ⟨n, rfl, hn⟩ := fit_u8 h2
    obtain ⟨m, rfl, hm⟩ := fit_u8 h3
    refine ⟨⟨b, n, m⟩ :: l, rfl, fun x hx => ?_⟩
    rcases List.mem_cons.1 hx with rfl | hx
    · exact ⟨hn, hm⟩
    · exact hl x hx
theorem arg_u8 {a : AV} (h : FitArg Try.prog 5 a) : ∃ n, a = U8 n ∧ U8ok n := by
  obtain ⟨sh, h1, h2⟩ := h
  rw [sh5] at h1
  simp only [Option.some.injEq] at h1
  subst h1
  rcases h2 with ⟨⟨fs, hf⟩ | ⟨n, e, hf⟩, _⟩ | ⟨_, h3⟩
  · simp [Try.underlying5] at hf
  · simp [Try.underlying5] at hf
  · obtain ⟨b, hb, hf⟩ := fitL_one h3
    obtain rfl : a = b := by simpa using hb
    exact fit_u8 hf
theorem arg_pair {a : AV} (h : FitArg Try.prog 39 a) : ∃ c d, a = .agg [U8 c, U8 d] ∧ U8ok c ∧ U8ok d := by
  obtain ⟨sh, h1, h2⟩ := h
  rw [sh39] at h1
  simp only [Option.some.injEq] at h1
  subst h1
  rcases h2 with ⟨_, cs, rfl, h3⟩ | ⟨h3, _⟩
  · obtain ⟨_, _, rfl, h1, h3⟩ := fitL_cons h3
    obtain ⟨_, _, rfl, h2, h3⟩ := fitL_cons h3
    obtain rfl := fitL_nil h3
    obtain ⟨a, rfl, ha⟩ := fit_u8 h1
    obtain ⟨b, rfl, hb⟩ := fit_u8 h2
    exact ⟨a, b, rfl, ha, hb⟩
  · exact absurd Try.underlying39 (h3.2 2 5)
theorem arg_ops {a : AV} (h : FitArg Try.prog 40 a) : ∃ l, a = .rd 3 (orows l) ∧ ∀ x ∈ l, Opok x := by
  obtain ⟨sh, h1, h2⟩ := h
  rw [sh40] at h1
  simp only [Option.some.injEq] at h1
  subst h1
  rcases h2 with ⟨⟨fs, hf⟩ | ⟨n, e, hf⟩, _⟩ | ⟨_, h3⟩
  · simp [Try.underlying40] at hf
  · simp [Try.underlying40] at hf
  · obtain ⟨b, hb, hf⟩ := fitL_one h3
    obtain rfl : a = b := by simpa using hb
    simp only [shO, Fit] at hf
    obtain ⟨xs, rfl, hm, hx⟩ := hf
    obtain ⟨l, rfl, hl⟩ := rows_op hx
    exact ⟨l, rfl, hl⟩
theorem arg_u8s {a : AV} (h : FitArg Try.prog 50 a) : ∃ l, a = .rd 1 (urows l) ∧ ∀ x ∈ l, U8ok x := by
  obtain ⟨sh, h1, h2⟩ := h
  rw [sh50] at h1
  simp only [Option.some.injEq] at h1
  subst h1
  rcases h2 with ⟨⟨fs, hf⟩ | ⟨n, e, hf⟩, _⟩ | ⟨_, h3⟩
  · simp [Try.underlying50] at hf
  · simp [Try.underlying50] at hf
  · obtain ⟨b, hb, hf⟩ := fitL_one h3
    obtain rfl : a = b := by simpa using hb
    simp only [shUs, Fit] at hf
    obtain ⟨xs, rfl, hm, hx⟩ := hf
    obtain ⟨l, rfl, hl⟩ := rows_u8 hx
    exact ⟨l, rfl, hl⟩

theorem s9' : PSound Try.prog 9 (specF (ι := {x : BackArg // okBack x}) (fun x => [.agg [U8 x.1.1.1, U8 x.1.1.2], .rd 3 (orows x.1.2.1), .rd 1 (urows x.1.2.2)]) fun _ => retOf [B true]) :=
  s9 V25 v25 (AX.W.start _) cf14 (fun a b c d e M n => cg18 a b c d e M n) rfl (fun z f o M n h => cg23 z f o M n h) (fun s c l M n h => cg25 s c l M n h)
theorem s7' : PSound Try.prog 7 (specF (ι := {x : ServeArg // okServe x}) (fun x => [.agg [U8 x.1.1.1, U8 x.1.1.2], .rd 3 (orows x.1.2.1), U8 x.1.2.2]) fun _ => retOf [B true]) :=
  s7 V25 v25 (AX.W.start _) cf14 (fun z o M n h => cg21 z o M n h) (fun s c l M n h => cg25 s c l M n h) (fun z x M n h hc => cg26 z x M n h hc)
theorem s8' : PSound Try.prog 8 (specF (ι := {x : ApartArg // okApart x}) (fun x => [U8 x.1.1, U8 x.1.2.1, .rd 3 (orows x.1.2.2)]) fun _ => retOf [B true]) :=
  s8 V25 v25 (AX.W.start _) cf14 (fun s c l M n h => cg25 s c l M n h) (fun z x M n h hc => cg26 z x M n h hc)

theorem back_F (avs : List AV) (h : FitArgs Try.prog [39, 40, 50] avs) : specF (ι := {x : BackArg // okBack x}) (fun x => [.agg [U8 x.1.1.1, U8 x.1.1.2], .rd 3 (orows x.1.2.1), .rd 1 (urows x.1.2.2)]) (fun _ => retOf [B true]) avs = some (B true) := by
  match avs, h with
  | [x, y, w], h =>
    simp only [FitArgs] at h
    obtain ⟨a, b, rfl, h1, h2⟩ := arg_pair h.1
    obtain ⟨l, rfl, h3⟩ := arg_ops h.2.1
    obtain ⟨q, rfl, h4⟩ := arg_u8s h.2.2.1
    exact specF_eq (ι := {x : BackArg // okBack x}) (A := fun x => [.agg [U8 x.1.1.1, U8 x.1.1.2], .rd 3 (orows x.1.2.1), .rd 1 (urows x.1.2.2)]) (R := fun _ => retOf [B true]) ⟨((a, b), l, q), h1, h2, h3, h4⟩ fun _ _ => rfl
  | [], h => simp [FitArgs] at h
  | [_], h => simp [FitArgs] at h
  | [_, _], h => simp [FitArgs] at h
  | _ :: _ :: _ :: _ :: _, h => simp [FitArgs] at h
theorem serves_F (avs : List AV) (h : FitArgs Try.prog [39, 40, 5] avs) : specF (ι := {x : ServeArg // okServe x}) (fun x => [.agg [U8 x.1.1.1, U8 x.1.1.2], .rd 3 (orows x.1.2.1), U8 x.1.2.2]) (fun _ => retOf [B true]) avs = some (B true) := by
  match avs, h with
  | [x, y, w], h =>
    simp only [FitArgs] at h
    obtain ⟨a, b, rfl, h1, h2⟩ := arg_pair h.1
    obtain ⟨l, rfl, h3⟩ := arg_ops h.2.1
    obtain ⟨q, rfl, h4⟩ := arg_u8 h.2.2.1
    exact specF_eq (ι := {x : ServeArg // okServe x}) (A := fun x => [.agg [U8 x.1.1.1, U8 x.1.1.2], .rd 3 (orows x.1.2.1), U8 x.1.2.2]) (R := fun _ => retOf [B true]) ⟨((a, b), l, q), h1, h2, h3, h4⟩ fun _ _ => rfl
  | [], h => simp [FitArgs] at h
  | [_], h => simp [FitArgs] at h
  | [_, _], h => simp [FitArgs] at h
  | _ :: _ :: _ :: _ :: _, h => simp [FitArgs] at h
theorem apart_F (avs : List AV) (h : FitArgs Try.prog [5, 5, 40] avs) : specF (ι := {x : ApartArg // okApart x}) (fun x => [U8 x.1.1, U8 x.1.2.1, .rd 3 (orows x.1.2.2)]) (fun _ => retOf [B true]) avs = some (B true) := by
  match avs, h with
  | [x, y, w], h =>
    simp only [FitArgs] at h
    obtain ⟨a, rfl, h1⟩ := arg_u8 h.1
    obtain ⟨b, rfl, h2⟩ := arg_u8 h.2.1
    obtain ⟨l, rfl, h3⟩ := arg_ops h.2.2.1
    exact specF_eq (ι := {x : ApartArg // okApart x}) (A := fun x => [U8 x.1.1, U8 x.1.2.1, .rd 3 (orows x.1.2.2)]) (R := fun _ => retOf [B true]) ⟨(a, b, l), h1, h2, h3⟩ fun _ _ => rfl
  | [], h => simp [FitArgs] at h
  | [_], h => simp [FitArgs] at h
  | [_, _], h => simp [FitArgs] at h
  | _ :: _ :: _ :: _ :: _, h => simp [FitArgs] at h
end Go.AM
