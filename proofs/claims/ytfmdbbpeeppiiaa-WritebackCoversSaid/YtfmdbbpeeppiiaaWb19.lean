/- Writeback: the arguments of the laws. -/
import Derived.Test.YtfmdbbpeeppiiaaWb18
import Derived.Test.YtfmdbbpeeppiiaaAmWb
set_option linter.all false

namespace Go.AM
open Go Go.Proofs

theorem laid : laidOutB Try.prog = true := by kernel_rfl
theorem owns : ownKnob Try.prog.godebug = none := by kernel_rfl
theorem rows_tp : ∀ {xs : List (List AV)}, (∀ e ∈ xs, FitL [shI, shI, shI] e) → ∃ l, xs = drows l
  | [], _ => ⟨[], rfl⟩
  | e :: r, h => by
    obtain ⟨l, rfl⟩ := rows_tp (xs := r) fun e' he => h e' (by simp [he])
    obtain ⟨a, ar, rfl, ha, hr⟩ := fitL_cons (h e (by simp))
    obtain ⟨b, br, rfl, hb, hr2⟩ := fitL_cons hr
    obtain ⟨c, rfl, hcc⟩ := fitL_one hr2
    obtain ⟨x, rfl, _⟩ := fit_int ha
    obtain ⟨y, rfl, _⟩ := fit_int hb
    obtain ⟨z, rfl, _⟩ := fit_int hcc
    exact ⟨(x, y, z) :: l, rfl⟩
theorem sh22 : shapeOf Try.prog 10 22 = some [.sl [shI, shI, shI]] := by kernel_rfl
theorem sh38 : shapeOf Try.prog 10 38 = some [shI, shI, shI] := by kernel_rfl
theorem sh3 : shapeOf Try.prog 10 3 = some [shI] := by kernel_rfl
theorem sh4 : shapeOf Try.prog 10 4 = some [shB] := by kernel_rfl
theorem arg_ps {a : AV} (h : FitArg Try.prog 22 a) : ∃ l : {l : List Tp // l.length ≤ 9223372036854775807}, a = .rd 3 (drows l.1) := by
  have := arg_one sh22 (fun fs => by simp [Try.underlying22]) (fun n e => by simp [Try.underlying22]) h
  simp only [Fit] at this
  obtain ⟨xs, rfl, hl, hx⟩ := this
  obtain ⟨l, rfl⟩ := rows_tp hx
  refine ⟨⟨l, ?_⟩, rfl⟩
  rw [drows_length] at hl
  simp only [maxLen] at hl
  omega
theorem arg_run {a : AV} (h : FitArg Try.prog 38 a) : ∃ m, a = Tv m := by
  obtain ⟨cs, rfl, hf⟩ := arg_str sh38 Try.underlying38 h
  obtain ⟨x, ar, rfl, ha, hr⟩ := fitL_cons hf
  obtain ⟨y, br, rfl, hb, hr2⟩ := fitL_cons hr
  obtain ⟨z, rfl, hcc⟩ := fitL_one hr2
  obtain ⟨n, rfl, _⟩ := fit_int ha
  obtain ⟨k, rfl, _⟩ := fit_int hb
  obtain ⟨m, rfl, _⟩ := fit_int hcc
  exact ⟨(n, k, m), rfl⟩
theorem arg_int {a : AV} (h : FitArg Try.prog 3 a) : ∃ n, a = I n := by
  obtain ⟨n, rfl, _⟩ := fit_int (arg_one sh3 (fun fs => by simp [Try.underlying3]) (fun n e => by simp [Try.underlying3]) h)
  exact ⟨n, rfl⟩
theorem arg_bool {a : AV} (h : FitArg Try.prog 4 a) : ∃ b, a = B b := by
  obtain ⟨n, rfl⟩ := fit_bool (arg_one sh4 (fun fs => by simp [Try.underlying4]) (fun n e => by simp [Try.underlying4]) h)
  exact ⟨n, rfl⟩

theorem p_F (avs : List AV) (h : FitArgs Try.prog [22] avs) : specF (ι := {l : List Tp // l.length ≤ 9223372036854775807}) (fun x => [.rd 3 (drows x.1)]) (fun _ => retOf [B true]) avs = some (B true) := by
  match avs, h with
  | [a], h =>
    simp only [FitArgs] at h
    obtain ⟨x, rfl⟩ := arg_ps h.1
    exact specF_eq (A := fun x : {l : List Tp // l.length ≤ 9223372036854775807} => [.rd 3 (drows x.1)]) (R := fun _ => retOf [B true]) x fun _ _ => rfl
  | [], h => simp [FitArgs] at h
  | _ :: _ :: _, h => simp [FitArgs] at h
theorem pi_F (avs : List AV) (h : FitArgs Try.prog [22, 3] avs) : specF (ι := {x : List Tp × Int // x.1.length ≤ 9223372036854775807}) (fun x => [.rd 3 (drows x.1.1), I x.1.2]) (fun _ => retOf [B true]) avs = some (B true) := by
  match avs, h with
  | [a, b], h =>
    simp only [FitArgs] at h
    obtain ⟨⟨x, hx⟩, rfl⟩ := arg_ps h.1
    obtain ⟨y, rfl⟩ := arg_int h.2.1
    exact specF_eq (A := fun x : {x : List Tp × Int // x.1.length ≤ 9223372036854775807} => [.rd 3 (drows x.1.1), I x.1.2]) (R := fun _ => retOf [B true]) ⟨(x, y), hx⟩ fun _ _ => rfl
  | [], h => simp [FitArgs] at h
  | [_], h => simp [FitArgs] at h
  | _ :: _ :: _ :: _, h => simp [FitArgs] at h
theorem pii_F (avs : List AV) (h : FitArgs Try.prog [22, 3, 3] avs) : specF (ι := {x : List Tp × Int × Int // x.1.length ≤ 9223372036854775807}) (fun x => [.rd 3 (drows x.1.1), I x.1.2.1, I x.1.2.2]) (fun _ => retOf [B true]) avs = some (B true) := by
  match avs, h with
  | [a, b, c], h =>
    simp only [FitArgs] at h
    obtain ⟨⟨x, hx⟩, rfl⟩ := arg_ps h.1
    obtain ⟨y, rfl⟩ := arg_int h.2.1
    obtain ⟨z, rfl⟩ := arg_int h.2.2.1
    exact specF_eq (A := fun x : {x : List Tp × Int × Int // x.1.length ≤ 9223372036854775807} => [.rd 3 (drows x.1.1), I x.1.2.1, I x.1.2.2]) (R := fun _ => retOf [B true]) ⟨(x, y, z), hx⟩ fun _ _ => rfl
  | [], h => simp [FitArgs] at h
  | [_], h => simp [FitArgs] at h
  | [_, _], h => simp [FitArgs] at h
  | _ :: _ :: _ :: _ :: _, h => simp [FitArgs] at h
theorem pr_F (avs : List AV) (h : FitArgs Try.prog [22, 38] avs) : specF (ι := {x : List Tp × Tp // x.1.length ≤ 9223372036854775807}) (fun x => [.rd 3 (drows x.1.1), Tv x.1.2]) (fun _ => retOf [B true]) avs = some (B true) := by
  match avs, h with
  | [a, b], h =>
    simp only [FitArgs] at h
    obtain ⟨⟨x, hx⟩, rfl⟩ := arg_ps h.1
    obtain ⟨y, rfl⟩ := arg_run h.2.1
    exact specF_eq (A := fun x : {x : List Tp × Tp // x.1.length ≤ 9223372036854775807} => [.rd 3 (drows x.1.1), Tv x.1.2]) (R := fun _ => retOf [B true]) ⟨(x, y), hx⟩ fun _ _ => rfl
  | [], h => simp [FitArgs] at h
  | [_], h => simp [FitArgs] at h
  | _ :: _ :: _ :: _, h => simp [FitArgs] at h
theorem pib_F (avs : List AV) (h : FitArgs Try.prog [22, 3, 4] avs) : specF (ι := {x : List Tp × Int × Bool // x.1.length ≤ 9223372036854775807}) (fun x => [.rd 3 (drows x.1.1), I x.1.2.1, B x.1.2.2]) (fun _ => retOf [B true]) avs = some (B true) := by
  match avs, h with
  | [a, b, c], h =>
    simp only [FitArgs] at h
    obtain ⟨⟨x, hx⟩, rfl⟩ := arg_ps h.1
    obtain ⟨y, rfl⟩ := arg_int h.2.1
    obtain ⟨z, rfl⟩ := arg_bool h.2.2.1
    exact specF_eq (A := fun x : {x : List Tp × Int × Bool // x.1.length ≤ 9223372036854775807} => [.rd 3 (drows x.1.1), I x.1.2.1, B x.1.2.2]) (R := fun _ => retOf [B true]) ⟨(x, y, z), hx⟩ fun _ _ => rfl
  | [], h => simp [FitArgs] at h
  | [_], h => simp [FitArgs] at h
  | [_, _], h => simp [FitArgs] at h
  | _ :: _ :: _ :: _ :: _, h => simp [FitArgs] at h
end Go.AM
