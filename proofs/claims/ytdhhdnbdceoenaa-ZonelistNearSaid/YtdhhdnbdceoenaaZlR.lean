/- What the independent statements ask of the order of zones, in plain words. -/
import Derived.Test.YtdhhdnbdceoenaaZlQ
set_option linter.all false

namespace Go.AM

/-- Each zone that suits is there exactly once. -/
theorem order_count {zs : List Zo} {node : Int} {kernel : Bool} (h : okZs zs) (h0 : 0 ≤ node ∧ node < 4) {i : Nat} (hi : i < zs.length) :
    (orderL zs node kernel).count (i : Int) = if suits kernel (zg zs i) then 1 else 0 := by
  have hn := order_nodup (node := node) (kernel := kernel) h
  have hm := mem_orderL (x := (i : Int)) (kernel := kernel) h h0
  simp only [Int.toNat_natCast] at hm
  by_cases hs : suits kernel (zg zs i) = true
  · rw [if_pos hs]
    have hmem := hm.2 ⟨by omega, by omega, hs⟩
    have h1 := List.count_pos_iff.2 hmem
    have h2 := List.nodup_iff_count.1 hn (i : Int)
    omega
  · rw [if_neg hs]
    exact List.count_eq_zero.2 fun hmem => hs (hm.1 hmem).2.2
theorem order_range {zs : List Zo} {node x : Int} {kernel : Bool} (h : okZs zs) (h0 : 0 ≤ node ∧ node < 4) (hx : x ∈ orderL zs node kernel) : 0 ≤ x ∧ x < zs.length := by
  have := (mem_orderL h h0).1 hx
  exact ⟨this.1, this.2.1⟩

def far (a b : Int) : Int := if a < b then b - a else a - b
/-- Of two that follow each other. -/
theorem order_near {zs : List Zo} {node a b : Int} (h : Lex (rankZ zs node) a b) (hka : (zg zs a.toNat).kind = 0 ∨ (zg zs a.toNat).kind = 1) (hkb : (zg zs b.toNat).kind = 0 ∨ (zg zs b.toNat).kind = 1) :
    ¬ (far (zg zs b.toNat).node node < far (zg zs a.toNat).node node ∨ (far (zg zs a.toNat).node node = far (zg zs b.toNat).node node ∧ (zg zs b.toNat).node < (zg zs a.toNat).node) ∨
      ((zg zs a.toNat).node = (zg zs b.toNat).node ∧ ((zg zs a.toNat).kind < (zg zs b.toNat).kind ∨ ((zg zs a.toNat).kind = (zg zs b.toNat).kind ∧ b ≤ a)))) := by
  generalize ea : (zg zs a.toNat).node = na at *
  generalize eb : (zg zs b.toNat).node = nb at *
  generalize eka : (zg zs a.toNat).kind = ka at *
  generalize ekb : (zg zs b.toNat).kind = kb at *
  unfold Lex rankZ at h
  rw [ea, eb, eka, ekb] at h
  unfold keyN at h
  unfold far
  rcases hka with rfl | rfl <;> rcases hkb with rfl | rfl <;> simp at h ⊢ <;> omega

theorem mask_pow {n : Int} (h : 0 ≤ n ∧ n < 4) : maskL (2 ^ n.toNat) = [n] := by
  have : ∀ m : Fin 4, maskL (2 ^ m.val) = [(m.val : Int)] := by decide
  have h2 := this ⟨n.toNat, by omega⟩
  have e : ((n.toNat : Nat) : Int) = n := by omega
  simpa [e] using h2

/-- Nodes and kinds are all that matters. -/
def Alike (zs ys : List Zo) : Prop := zs.length = ys.length ∧ ∀ i, i < zs.length → (zg zs i).node = (zg ys i).node ∧ (zg zs i).kind = (zg ys i).kind
theorem Alike.map {zs ys : List Zo} (h : Alike zs ys) : zs.map (fun z => (z.node, z.kind)) = ys.map fun z => (z.node, z.kind) := by
  apply List.ext_getElem (by simpa using h.1)
  intro i h1 h2
  have hi : i < zs.length := by simpa using h1
  have hi2 : i < ys.length := by simpa using h2
  have := h.2 i hi
  rw [zg_eq hi, zg_eq hi2] at this
  simp [this.1, this.2]
theorem firstE_map {zs : List Zo} : firstE zs = firstE (zs.map fun z => ⟨z.node, z.kind, 0, 0, 0⟩) := by
  induction zs with
  | nil => rfl
  | cons a r ih => simp only [List.map_cons, firstE, ih]; rfl
theorem hasN_map {zs : List Zo} {n : Int} : hasN zs n = hasN (zs.map fun z => ⟨z.node, z.kind, 0, 0, 0⟩) n := by simp [hasN, List.any_map, Function.comp_def]
theorem alike_map {zs ys : List Zo} (h : zs.map (fun z => (z.node, z.kind)) = ys.map fun z => (z.node, z.kind)) : (zs.map fun z => (⟨z.node, z.kind, 0, 0, 0⟩ : Zo)) = ys.map fun z => ⟨z.node, z.kind, 0, 0, 0⟩ := by
  have := congrArg (List.map fun p : Int × Int => (⟨p.1, p.2, 0, 0, 0⟩ : Zo)) h
  simpa [List.map_map, Function.comp_def] using this
theorem alike_pick {zs ys : List Zo} (h : Alike zs ys) (p : Po) (node : Int) (kernel : Bool) : pickR zs p node kernel = pickR ys p node kernel := by
  have hm := alike_map h.map
  have h1 : firstE zs = firstE ys := by rw [firstE_map, hm, ← firstE_map]
  have h2 : ∀ n, hasN zs n = hasN ys n := fun n => by rw [hasN_map, hm, ← hasN_map]
  have h3 : chkZ zs = chkZ ys := by unfold chkZ; rw [h.1, h1]
  have h4 : pickE zs p node = pickE ys p node := by unfold pickE; rw [h3]
  have h5 : ∀ n, nodesL zs n = nodesL ys n := fun n => by unfold nodesL; exact List.filter_congr fun x _ => h2 x
  have h6 : ∀ (q : Int → Int → Bool), idxZ zs (fun z => q z.node z.kind) = idxZ ys fun z => q z.node z.kind := fun q => by
    unfold idxZ
    rw [h.1]
    congr 1
    refine List.filter_congr fun i hi => ?_
    have := h.2 i (by have := List.mem_range.1 hi; have := h.1; omega)
    show q (zg zs i).node (zg zs i).kind = q (zg ys i).node (zg ys i).kind
    rw [this.1, this.2]
  have h7 : ∀ n, onNode zs kernel n = onNode ys kernel n := fun n => by
    unfold onNode
    have e1 := h6 fun a b => decide (a = n ∧ b = 1)
    have e2 := h6 fun a b => decide (a = n ∧ b = 0)
    rw [e1, e2]
  have h8 : ∀ n, orderL zs n kernel = orderL ys n kernel := fun n => by
    unfold orderL
    rw [h5]
    congr 1
    funext x
    exact h7 x
  unfold pickR
  rw [h4]
  by_cases he : pickE ys p node = 0
  · rw [if_neg (by simp [he]), if_neg (by simp [he])]
    have hz := pickE_zero.1 he
    unfold pickL
    rw [h8, h8]
    split
    · congr 1
      refine List.filter_congr fun x hx => ?_
      have hr := order_range hz.1 hz.2.2 hx
      have := h.2 x.toNat (by have := h.1; omega)
      rw [this.1]
    · rfl
  · rw [if_pos he, if_pos he]
end Go.AM
