/- Workingset: the cache with two lists, in plain words. -/
import Derived.Test.YtpkbbmimfoakcaaWs7
set_option linter.all false

namespace Go.AM
open Go Go.Proofs

structure LS where
  ina : List Int
  act : List Int
  gone : List Int
  out : List Int
/-- After the eviction, if there is one. -/
def evL (size : Int) (s : LS) : LS :=
  if (s.ina.length : Int) + s.act.length = size then { s with ina := s.ina.tail, act := if s.ina = [] then s.act.tail else s.act, gone := s.gone ++ [gi (s.ina ++ s.act) 0] } else s
def putL' (b : Int) (d : Int) (p : Int) (s : LS) : LS :=
  if 0 ≤ d ∧ d ≤ (s.act.length : Int) then { s with ina := actI b s.ina s.act p, act := actA b s.act p } else { s with ina := s.ina ++ [p] }
def lstep (size b : Int) (s : LS) (p : Int) : LS :=
  if p ∈ s.act then { s with out := s.out ++ [-1] }
  else if p ∈ s.ina then { s with ina := actI b (wo s.ina p) s.act p, act := actA b s.act p, out := s.out ++ [-1] }
  else putL' b (distL s.gone p) p (evL size { s with out := s.out ++ [distL s.gone p] })
def lrun (size b : Int) (l : List Int) : Nat → LS
  | 0 => ⟨[], [], [], []⟩
  | k + 1 => lstep size b (lrun size b l k) (gi l k)

structure LInv (size b : Int) (k : Nat) (s : LS) : Prop where
  out : s.out.length = k
  gone : s.gone.length ≤ k
  tot : s.ina.length + s.act.length ≤ k
  cap : (s.ina.length : Int) + s.act.length ≤ size
  nd : (s.ina ++ s.act).Nodup

theorem actIA_len (b : Int) (ina act : List Int) (p : Int) : (actI b ina act p).length + (actA b act p).length = ina.length + act.length + 1 := by
  unfold actI actA
  split <;> simp <;> omega
theorem actIA_perm (b : Int) (ina act : List Int) (p : Int) : (actI b ina act p ++ actA b act p).Perm (ina ++ act ++ [p]) := by
  unfold actI actA
  split
  · cases act with
    | nil => simp [gi]
    | cons x r => simp [gi]
  · simp
theorem wo_mem {l : List Int} {x y : Int} : y ∈ wo l x ↔ y ∈ l ∧ y ≠ x := by unfold wo; simp
theorem wo_nodup {l : List Int} {x : Int} (h : l.Nodup) : (wo l x).Nodup := h.sublist List.filter_sublist
theorem wo_length {l : List Int} {x : Int} (h : l.Nodup) (hx : x ∈ l) : (wo l x).length + 1 = l.length := by
  induction l with
  | nil => simp at hx
  | cons a r ih =>
    have hn := List.nodup_cons.1 h
    by_cases e : a = x
    · subst e
      have : wo (a :: r) a = wo r a := by unfold wo; simp
      rw [this, wo_not hn.1]; rfl
    · have hx' : x ∈ r := by
        rcases List.mem_cons.1 hx with h1 | h1
        · exact absurd h1.symm e
        · exact h1
      have : wo (a :: r) x = a :: wo r x := by unfold wo; simp [e]
      rw [this]
      simp only [List.length_cons]
      rw [ih hn.2 hx']

theorem evL_inv {size b : Int} (hs : 1 ≤ size) {k j : Nat} {s : LS} (h1 : s.out.length = j) (h2 : s.gone.length ≤ k) (h3 : s.ina.length + s.act.length ≤ k) (h4 : (s.ina.length : Int) + s.act.length ≤ size) (h5 : (s.ina ++ s.act).Nodup) :
    (evL size s).out.length = j ∧ (evL size s).gone.length ≤ k + 1 ∧ (evL size s).ina.length + (evL size s).act.length ≤ k ∧ ((evL size s).ina.length : Int) + (evL size s).act.length + 1 ≤ size ∧ ((evL size s).ina ++ (evL size s).act).Nodup ∧ ((evL size s).ina ++ (evL size s).act).Sublist (s.ina ++ s.act) := by
  unfold evL
  split
  · rename_i hf
    obtain ⟨ina, act, gone, out⟩ := s
    simp only at h1 h2 h3 h4 h5 hf ⊢
    cases ina with
    | nil =>
      cases act with
      | nil => simp at hf; omega
      | cons x r =>
        simp at h3 h4 h5 hf ⊢
        exact ⟨h1, by omega, by omega, by omega, h5.2⟩
    | cons x r =>
      simp at h3 h4 h5 hf ⊢
      exact ⟨h1, by omega, by omega, by omega, h5.2⟩
  · rename_i hf
    exact ⟨h1, by omega, h3, by omega, h5, List.Sublist.refl _⟩

theorem putL_inv {b d : Int} {p : Int} {s : LS} (h5 : (s.ina ++ s.act).Nodup) (hp : p ∉ s.ina ++ s.act) :
    (putL' b d p s).out = s.out ∧ (putL' b d p s).gone = s.gone ∧ (putL' b d p s).ina.length + (putL' b d p s).act.length = s.ina.length + s.act.length + 1 ∧ ((putL' b d p s).ina ++ (putL' b d p s).act).Nodup := by
  have hnd : (s.ina ++ s.act ++ [p]).Nodup := by
    rw [List.nodup_append]
    refine ⟨h5, by simp, fun a ha c hc => ?_⟩
    simp only [List.mem_singleton] at hc
    subst hc
    exact fun e => hp (e ▸ ha)
  unfold putL'
  split
  · exact ⟨rfl, rfl, actIA_len _ _ _ _, (actIA_perm _ _ _ _).nodup_iff.2 hnd⟩
  · refine ⟨rfl, rfl, by simp; omega, ?_⟩
    have : (s.ina ++ [p] ++ s.act).Perm (s.ina ++ s.act ++ [p]) := by
      rw [List.append_assoc, List.append_assoc]
      exact List.Perm.append_left _ List.perm_append_comm
    exact this.nodup_iff.2 hnd

theorem lstep_inv {size b : Int} (hs : 1 ≤ size) {k : Nat} {s : LS} (h : LInv size b k s) (p : Int) : LInv size b (k + 1) (lstep size b s p) := by
  obtain ⟨h1, h2, h3, h4, h5⟩ := h
  unfold lstep
  split
  · exact ⟨by simp [h1], by simpa using Nat.le_succ_of_le h2, by simpa using Nat.le_succ_of_le h3, h4, h5⟩
  · rename_i hpa
    split
    · rename_i hpi
      obtain ⟨n1, n2, n3⟩ := List.nodup_append.1 h5
      have hl := wo_length n1 hpi
      have hal := actIA_len b (wo s.ina p) s.act p
      refine ⟨by simp [h1], by simpa using Nat.le_succ_of_le h2, by simp only; omega, by simp only; omega, ?_⟩
      refine (actIA_perm _ _ _ _).nodup_iff.2 ?_
      rw [List.nodup_append]
      refine ⟨?_, by simp, fun a ha c hc => ?_⟩
      · rw [List.nodup_append]
        exact ⟨wo_nodup n1, n2, fun a ha c hc => n3 a (wo_mem.1 ha).1 c hc⟩
      · simp only [List.mem_singleton] at hc
        subst hc
        rintro rfl
        rcases List.mem_append.1 ha with h | h
        · exact (wo_mem.1 h).2 rfl
        · exact hpa h
    · rename_i hpi
      have e := evL_inv (b := b) hs (j := k + 1) (s := { s with out := s.out ++ [distL s.gone p] }) (by simp [h1]) h2 h3 h4 h5
      obtain ⟨e1, e2, e3, e4, e5, e6⟩ := e
      have hp : p ∉ (evL size { s with out := s.out ++ [distL s.gone p] }).ina ++ (evL size { s with out := s.out ++ [distL s.gone p] }).act := fun hm => by
        rcases List.mem_append.1 (e6.subset hm) with h | h
        · exact hpi h
        · exact hpa h
      obtain ⟨q1, q2, q3, q4⟩ := putL_inv (b := b) (d := distL s.gone p) e5 hp
      exact ⟨by rw [q1]; exact e1, by rw [q2]; exact e2, by omega, by omega, q4⟩
theorem lrun_inv {size b : Int} (hs : 1 ≤ size) (l : List Int) : ∀ k, LInv size b k (lrun size b l k)
  | 0 => ⟨rfl, by simp [lrun], by simp [lrun], by simp [lrun]; omega, by simp [lrun]⟩
  | k + 1 => lstep_inv hs (lrun_inv hs l k) _

/-- What Lists gives. -/
def lisE (n size b : Int) : Int := if errS n size = 0 then (if b < 0 ∨ size < b then 2 else 0) else errS n size
def lisR (l : List Int) (size b : Int) : List Int × Int := if lisE l.length size b = 0 then ((lrun size b l l.length).out, 0) else ([], lisE l.length size b)
end Go.AM
