/- The order of zones, in plain words. -/
import Derived.Test.YtdhhdnbdceoenaaAmS1
set_option linter.all false

namespace Go.AM

structure Zo where
  node : Int
  kind : Int
  start : Int
  count : Int
  least : Int
  deriving Inhabited

def zerr (z : Zo) : Int := if z.node < 0 ∨ 4 ≤ z.node then 2 else if z.kind ≠ 0 ∧ z.kind ≠ 1 then 1 else 0
def firstE : List Zo → Int
  | [] => 0
  | z :: r => if zerr z ≠ 0 then zerr z else firstE r
def chkZ (zs : List Zo) : Int := if 6 < zs.length then 9 else firstE zs
def zg (zs : List Zo) (i : Nat) : Zo := zs.getD i ⟨0, 0, 0, 0, 0⟩
theorem zg_eq {zs : List Zo} {i : Nat} (h : i < zs.length) : zg zs i = zs[i] := by unfold zg; simp [h]
theorem zg_mem {zs : List Zo} {i : Nat} (h : i < zs.length) : zg zs i ∈ zs := by rw [zg_eq h]; exact List.getElem_mem h

theorem firstE_zero {zs : List Zo} : firstE zs = 0 ↔ ∀ z ∈ zs, zerr z = 0 := by
  induction zs with
  | nil => simp [firstE]
  | cons a r ih =>
    unfold firstE
    by_cases h : zerr a = 0
    · rw [if_neg (by simp [h]), ih]; simp [h]
    · rw [if_pos h]
      exact ⟨fun e => absurd e h, fun e => absurd (e a (by simp)) h⟩
theorem firstE_take {zs : List Zo} {i : Nat} (h : i < zs.length) (h0 : firstE (zs.take i) = 0) (he : zerr (zg zs i) ≠ 0) : firstE zs = zerr (zg zs i) := by
  induction zs generalizing i with
  | nil => simp at h
  | cons a r ih =>
    cases i with
    | zero =>
      have he : zerr a ≠ 0 := he
      unfold firstE; rw [if_pos he]; rfl
    | succ i =>
      simp only [List.take_succ_cons] at h0
      unfold firstE at h0 ⊢
      by_cases ha : zerr a = 0
      · rw [if_neg (by simp [ha])] at h0 ⊢
        exact ih (by simpa using h) h0 he
      · rw [if_pos ha] at h0; exact absurd h0 ha
theorem firstE_step {zs : List Zo} {i : Nat} (h : i < zs.length) (h0 : firstE (zs.take i) = 0) (he : zerr (zg zs i) = 0) : firstE (zs.take (i + 1)) = 0 := by
  rw [firstE_zero] at h0 ⊢
  intro z hz
  rw [List.take_succ_eq_append_getElem h, List.mem_append, List.mem_singleton] at hz
  rcases hz with hz | hz
  · exact h0 z hz
  · rw [hz, ← zg_eq h]; exact he

/-- Valid zones. -/
def okZs (zs : List Zo) : Prop := zs.length ≤ 6 ∧ ∀ z ∈ zs, (0 ≤ z.node ∧ z.node < 4) ∧ (z.kind = 0 ∨ z.kind = 1)
theorem chkZ_zero {zs : List Zo} : chkZ zs = 0 ↔ okZs zs := by
  unfold chkZ okZs
  by_cases h : 6 < zs.length
  · rw [if_pos h]; exact ⟨fun e => by omega, fun e => by omega⟩
  · rw [if_neg h, firstE_zero]
    constructor
    · intro hz
      refine ⟨by omega, fun z hm => ?_⟩
      have := hz z hm
      unfold zerr at this
      split at this
      · omega
      · split at this
        · omega
        · omega
    · rintro ⟨_, hz⟩ z hm
      have := hz z hm
      unfold zerr
      rw [if_neg (by omega), if_neg (by omega)]

def keyN (frm node : Int) : Int := if node < frm then 2 * (frm - node) else 2 * (node - frm) + 1
theorem keyN_inj {frm a b : Int} (h : keyN frm a = keyN frm b) : a = b := by
  unfold keyN at h
  split at h <;> split at h <;> omega
def hasN (zs : List Zo) (n : Int) : Bool := zs.any fun z => decide (z.node = n)
theorem hasN_iff {zs : List Zo} {n : Int} : hasN zs n = true ↔ ∃ z ∈ zs, z.node = n := by simp [hasN]
def cand (node : Int) : List Int := [node, node - 1, node + 1, node - 2, node + 2, node - 3, node + 3]
def nodesL (zs : List Zo) (node : Int) : List Int := (cand node).filter (hasN zs)
def errN (zs : List Zo) (node : Int) : Int := if chkZ zs ≠ 0 then chkZ zs else if node < 0 ∨ 4 ≤ node then 2 else 0
def nodesR (zs : List Zo) (node : Int) : List Int × Int := if errN zs node ≠ 0 then ([], errN zs node) else (nodesL zs node, 0)
theorem errN_zero {zs : List Zo} {node : Int} : errN zs node = 0 ↔ okZs zs ∧ 0 ≤ node ∧ node < 4 := by
  unfold errN
  rw [← chkZ_zero]
  by_cases h : chkZ zs = 0
  · rw [if_neg (by simp [h])]
    by_cases h2 : node < 0 ∨ 4 ≤ node
    · rw [if_pos h2]; constructor
      · intro e; omega
      · rintro ⟨_, h3⟩; omega
    · rw [if_neg h2]; simp [h]; omega
  · rw [if_pos h]; simp [h]

/-- The nodes of zones, each once, in the order in which they come. -/
def nub : List Int → List Int → List Int
  | acc, [] => acc
  | acc, x :: r => if x ∈ acc then nub acc r else nub (acc ++ [x]) r
def nubN (zs : List Zo) : List Int := zs.foldl (fun acc z => if z.node ∈ acc then acc else acc ++ [z.node]) []
theorem nubN_facts : ∀ (zs : List Zo) (acc : List Int), acc.Nodup → (zs.foldl (fun acc z => if z.node ∈ acc then acc else acc ++ [z.node]) acc).Nodup ∧ ∀ n, n ∈ zs.foldl (fun acc z => if z.node ∈ acc then acc else acc ++ [z.node]) acc ↔ n ∈ acc ∨ ∃ z ∈ zs, z.node = n
  | [], acc, h => ⟨h, fun n => by simp⟩
  | z :: r, acc, h => by
    simp only [List.foldl_cons]
    split
    · rename_i hm
      obtain ⟨h1, h2⟩ := nubN_facts r acc h
      refine ⟨h1, fun n => ?_⟩
      rw [h2]
      constructor
      · rintro (h3 | ⟨y, h3, h4⟩)
        · exact .inl h3
        · exact .inr ⟨y, by simp [h3], h4⟩
      · rintro (h3 | ⟨y, h3, h4⟩)
        · exact .inl h3
        · rcases List.mem_cons.1 h3 with rfl | h3
          · exact .inl (h4 ▸ hm)
          · exact .inr ⟨y, h3, h4⟩
    · rename_i hm
      obtain ⟨h1, h2⟩ := nubN_facts r (acc ++ [z.node]) (by
        rw [List.nodup_append]
        exact ⟨h, by simp, fun a ha b hb => by simp at hb; subst hb; intro e; subst e; exact hm ha⟩)
      refine ⟨h1, fun n => ?_⟩
      rw [h2]
      simp only [List.mem_append, List.mem_singleton]
      constructor
      · rintro ((h3 | h3) | ⟨y, h3, h4⟩)
        · exact .inl h3
        · exact .inr ⟨z, by simp, h3.symm⟩
        · exact .inr ⟨y, by simp [h3], h4⟩
      · rintro (h3 | ⟨y, h3, h4⟩)
        · exact .inl (.inl h3)
        · rcases List.mem_cons.1 h3 with rfl | h3
          · exact .inl (.inr h4.symm)
          · exact .inr ⟨y, h3, h4⟩
theorem cand_sorted (node : Int) : (cand node).Pairwise fun a b => keyN node a < keyN node b := by
  unfold cand
  have k0 : keyN node node = 1 := by unfold keyN; rw [if_neg (by omega)]; omega
  have k1 : keyN node (node - 1) = 2 := by unfold keyN; rw [if_pos (by omega)]; omega
  have k2 : keyN node (node + 1) = 3 := by unfold keyN; rw [if_neg (by omega)]; omega
  have k3 : keyN node (node - 2) = 4 := by unfold keyN; rw [if_pos (by omega)]; omega
  have k4 : keyN node (node + 2) = 5 := by unfold keyN; rw [if_neg (by omega)]; omega
  have k5 : keyN node (node - 3) = 6 := by unfold keyN; rw [if_pos (by omega)]; omega
  have k6 : keyN node (node + 3) = 7 := by unfold keyN; rw [if_neg (by omega)]; omega
  simp [k0, k1, k2, k3, k4, k5, k6]
theorem mem_nodesL {zs : List Zo} {node n : Int} (h : okZs zs) (h0 : 0 ≤ node ∧ node < 4) : n ∈ nodesL zs node ↔ ∃ z ∈ zs, z.node = n := by
  unfold nodesL
  rw [List.mem_filter, hasN_iff]
  constructor
  · exact fun h => h.2
  · intro hz
    refine ⟨?_, hz⟩
    obtain ⟨z, hm, rfl⟩ := hz
    have := (h.2 z hm).1
    unfold cand
    simp only [List.mem_cons, List.not_mem_nil, or_false]
    omega
theorem nodes_sort {zs : List Zo} {node : Int} (h : okZs zs) (h0 : 0 ≤ node ∧ node < 4) : sortK (keyN node) (nubN zs) = nodesL zs node := by
  obtain ⟨h1, h2⟩ := nubN_facts zs [] List.nodup_nil
  refine sortK_inj h1 (fun a _ b _ e => keyN_inj e) ((cand_sorted node).filter _) fun x => ?_
  rw [mem_nodesL h h0]
  have := h2 x
  simpa [nubN] using this

/-- The numbers of zones of a kind of which something holds. -/
def idxZ (zs : List Zo) (p : Zo → Bool) : List Int := ((List.range zs.length).filter fun i => p (zg zs i)).map fun (i : Nat) => (i : Int)
theorem mem_idx {zs : List Zo} {p : Zo → Bool} {x : Int} : x ∈ idxZ zs p ↔ 0 ≤ x ∧ x < zs.length ∧ p (zg zs x.toNat) = true := by
  unfold idxZ
  simp only [List.mem_map, List.mem_filter, List.mem_range]
  constructor
  · rintro ⟨i, ⟨h1, h2⟩, rfl⟩; exact ⟨by omega, by omega, by simpa using h2⟩
  · rintro ⟨h1, h2, h3⟩; exact ⟨x.toNat, ⟨by omega, h3⟩, by omega⟩
theorem idx_sorted (zs : List Zo) (p : Zo → Bool) : (idxZ zs p).Pairwise (· < ·) := by
  unfold idxZ
  rw [List.pairwise_map]
  refine List.Pairwise.imp ?_ ((List.pairwise_lt_range (n := zs.length)).filter _)
  intro a b h; omega
def suits (kernel : Bool) (z : Zo) : Bool := !kernel || decide (z.kind = 0)
def rankZ (zs : List Zo) (node : Int) (i : Int) : Int := 2 * keyN node (zg zs i.toNat).node + if (zg zs i.toNat).kind = 0 then 1 else 0
def onNode (zs : List Zo) (kernel : Bool) (n : Int) : List Int := (if kernel then [] else idxZ zs fun z => decide (z.node = n ∧ z.kind = 1)) ++ idxZ zs fun z => decide (z.node = n ∧ z.kind = 0)
def orderL (zs : List Zo) (node : Int) (kernel : Bool) : List Int := (nodesL zs node).flatMap (onNode zs kernel)
def orderR (zs : List Zo) (node : Int) (kernel : Bool) : List Int × Int := if errN zs node ≠ 0 then ([], errN zs node) else (orderL zs node kernel, 0)
theorem mem_onNode {zs : List Zo} {kernel : Bool} {n x : Int} (h : okZs zs) : x ∈ onNode zs kernel n ↔ 0 ≤ x ∧ x < zs.length ∧ (zg zs x.toNat).node = n ∧ suits kernel (zg zs x.toNat) = true := by
  unfold onNode suits
  rw [List.mem_append]
  constructor
  · rintro (hx | hx)
    · split at hx
      · simp at hx
      · rename_i hk
        have := mem_idx.1 hx
        simp at this hk
        simp [hk, this]
    · have := mem_idx.1 hx
      simp at this
      simp [this]
  · rintro ⟨h1, h2, h3, h4⟩
    have hz := (h.2 _ (zg_mem (show x.toNat < zs.length by omega))).2
    rcases hz with hz | hz
    · right; exact mem_idx.2 ⟨h1, h2, by simp [h3, hz]⟩
    · left
      have hk : kernel = false := by simpa [hz] using h4
      rw [hk]
      simp only [Bool.false_eq_true, if_false]
      exact mem_idx.2 ⟨h1, h2, by simp [h3, hz]⟩
theorem onNode_lex {zs : List Zo} {node : Int} {kernel : Bool} {n : Int} : (onNode zs kernel n).Pairwise (Lex (rankZ zs node)) := by
  unfold onNode
  rw [List.pairwise_append]
  have hs : ∀ (p : Zo → Bool), (∀ y z : Zo, p y = true → p z = true → y.node = z.node ∧ y.kind = z.kind) → (idxZ zs p).Pairwise (Lex (rankZ zs node)) := fun p hp => by
    refine List.Pairwise.imp_of_mem ?_ (idx_sorted zs p)
    intro a b ha hb h
    have h1 := (mem_idx.1 ha).2.2
    have h2 := (mem_idx.1 hb).2.2
    have := hp _ _ h1 h2
    exact .inr ⟨by unfold rankZ; rw [this.1, this.2], h⟩
  refine ⟨?_, hs _ fun y z h1 h2 => by simp at h1 h2; omega, fun a ha b hb => ?_⟩
  · split
    · exact List.Pairwise.nil
    · exact hs _ fun y z h1 h2 => by simp at h1 h2; omega
  · split at ha
    · simp at ha
    · have h1 := (mem_idx.1 ha).2.2
      have h2 := (mem_idx.1 hb).2.2
      simp at h1 h2
      left
      unfold rankZ
      rw [h1.1, h2.1, h1.2, h2.2]
      simp
      omega
theorem order_lex {zs : List Zo} {node : Int} {kernel : Bool} (h : okZs zs) : (orderL zs node kernel).Pairwise (Lex (rankZ zs node)) := by
  unfold orderL
  have hn : (nodesL zs node).Pairwise fun a b => keyN node a < keyN node b := (cand_sorted node).filter _
  generalize nodesL zs node = L at hn
  induction L with
  | nil => exact List.Pairwise.nil
  | cons a r ih =>
    obtain ⟨h1, h2⟩ := List.pairwise_cons.1 hn
    rw [List.flatMap_cons, List.pairwise_append]
    refine ⟨onNode_lex, ih h2, fun x hx y hy => ?_⟩
    obtain ⟨b, hb, hy⟩ := List.mem_flatMap.1 hy
    have e1 := (mem_onNode h).1 hx
    have e2 := (mem_onNode h).1 hy
    have := h1 b hb
    left
    unfold rankZ
    rw [e1.2.2.1, e2.2.2.1]
    split <;> split <;> omega
theorem mem_orderL {zs : List Zo} {node x : Int} {kernel : Bool} (h : okZs zs) (h0 : 0 ≤ node ∧ node < 4) : x ∈ orderL zs node kernel ↔ 0 ≤ x ∧ x < zs.length ∧ suits kernel (zg zs x.toNat) = true := by
  unfold orderL
  rw [List.mem_flatMap]
  constructor
  · rintro ⟨n, _, hx⟩
    have := (mem_onNode h).1 hx
    exact ⟨this.1, this.2.1, this.2.2.2⟩
  · rintro ⟨h1, h2, h3⟩
    exact ⟨_, (mem_nodesL h h0).2 ⟨_, zg_mem (show x.toNat < zs.length by omega), rfl⟩, (mem_onNode h).2 ⟨h1, h2, rfl, h3⟩⟩
theorem order_sort {zs : List Zo} {node : Int} {kernel : Bool} (h : okZs zs) (h0 : 0 ≤ node ∧ node < 4) : sortK (rankZ zs node) (idxZ zs (suits kernel)) = orderL zs node kernel :=
  sortK_eq (idx_sorted zs _) (order_lex h) fun x => by rw [mem_orderL h h0, mem_idx]
end Go.AM
