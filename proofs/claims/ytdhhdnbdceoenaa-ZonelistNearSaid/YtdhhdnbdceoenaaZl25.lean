/- Zonelist: the arguments of the laws. -/
import Derived.Test.YtdhhdnbdceoenaaZl23
import Derived.Test.YtdhhdnbdceoenaaAmWb
set_option linter.all false

namespace Go.AM
open Go Go.Proofs

theorem laid : laidOutB Try.prog = true := by kernel_rfl
theorem owns : ownKnob Try.prog.godebug = none := by kernel_rfl
def shZ : List Sh := [shI, shI, shI, shI, shI, shL, shL, shL, shL, shL]
theorem sh22 : shapeOf Try.prog 10 22 = some [.sl shZ] := by kernel_rfl
theorem sh3 : shapeOf Try.prog 10 3 = some [shI] := by kernel_rfl
theorem sh4 : shapeOf Try.prog 10 4 = some [shB] := by kernel_rfl
theorem sh34 : shapeOf Try.prog 10 34 = some [shI, shI, shI] := by kernel_rfl
theorem sh36 : shapeOf Try.prog 10 36 = some [shI, shB] := by kernel_rfl

theorem rows_zones : ∀ {xs : List (List AV)}, (∀ e ∈ xs, FitL shZ e) → ∃ l, xs = zrows l
  | [], _ => ⟨[], rfl⟩
  | e :: r, h => by
    obtain ⟨l, rfl⟩ := rows_zones (xs := r) fun e' he => h e' (by simp [he])
    have h := h e (by simp)
    obtain ⟨_, _, rfl, h1, h⟩ := fitL_cons h
    obtain ⟨_, _, rfl, h2, h⟩ := fitL_cons h
    obtain ⟨_, _, rfl, h3, h⟩ := fitL_cons h
    obtain ⟨_, _, rfl, h4, h⟩ := fitL_cons h
    obtain ⟨_, _, rfl, h5, h⟩ := fitL_cons h
    obtain ⟨x6, _, rfl, h6, h⟩ := fitL_cons h
    obtain ⟨x7, _, rfl, h7, h⟩ := fitL_cons h
    obtain ⟨x8, _, rfl, h8, h⟩ := fitL_cons h
    obtain ⟨x9, _, rfl, h9, h⟩ := fitL_cons h
    obtain ⟨x10, _, rfl, h10, h⟩ := fitL_cons h
    obtain rfl := fitL_nil h
    obtain ⟨a, rfl, _⟩ := fit_int h1
    obtain ⟨b, rfl, _⟩ := fit_int h2
    obtain ⟨c, rfl, _⟩ := fit_int h3
    obtain ⟨d, rfl, _⟩ := fit_int h4
    obtain ⟨e, rfl, _⟩ := fit_int h5
    exact ⟨⟨⟨a, b, c, d, e⟩, x6, x7, x8, x9, x10⟩ :: l, rfl⟩
theorem arg_zones {a : AV} (h : FitArg Try.prog 22 a) : ∃ xs : List Zx, a = .rd 10 (zrows xs) := by
  have hf := arg_one sh22 (fun fs => by simp [Try.underlying22]) (fun n e => by simp [Try.underlying22]) h
  simp only [Fit] at hf
  obtain ⟨xs, rfl, _, hx⟩ := hf
  obtain ⟨l, rfl⟩ := rows_zones hx
  exact ⟨l, rfl⟩
theorem arg_int {a : AV} (h : FitArg Try.prog 3 a) : ∃ n, a = I n := by
  obtain ⟨n, rfl, _⟩ := fit_int (arg_one sh3 (fun fs => by simp [Try.underlying3]) (fun n e => by simp [Try.underlying3]) h)
  exact ⟨n, rfl⟩
theorem arg_bool {a : AV} (h : FitArg Try.prog 4 a) : ∃ n, a = B n := fit_bool (arg_one sh4 (fun fs => by simp [Try.underlying4]) (fun n e => by simp [Try.underlying4]) h)
theorem arg_pol {a : AV} (h : FitArg Try.prog 34 a) : ∃ p q r, a = .agg [I p, I q, I r] := by
  obtain ⟨cs, rfl, hf⟩ := arg_str sh34 Try.underlying34 h
  clear h
  have h := hf
  clear hf
  obtain ⟨_, _, rfl, h1, h⟩ := fitL_cons h
  obtain ⟨_, _, rfl, h2, h⟩ := fitL_cons h
  obtain ⟨_, _, rfl, h3, h⟩ := fitL_cons h
  obtain rfl := fitL_nil h
  obtain ⟨a, rfl, _⟩ := fit_int h1
  obtain ⟨b, rfl, _⟩ := fit_int h2
  obtain ⟨c, rfl, _⟩ := fit_int h3
  exact ⟨a, b, c, rfl⟩
theorem arg_at {a : AV} (h : FitArg Try.prog 36 a) : ∃ p q, a = .agg [I p, B q] := by
  obtain ⟨cs, rfl, hf⟩ := arg_str sh36 Try.underlying36 h
  clear h
  have h := hf
  clear hf
  obtain ⟨_, _, rfl, h1, h⟩ := fitL_cons h
  obtain ⟨_, _, rfl, h2, h⟩ := fitL_cons h
  obtain rfl := fitL_nil h
  obtain ⟨a, rfl, _⟩ := fit_int h1
  obtain ⟨b, rfl⟩ := fit_bool h2
  exact ⟨a, b, rfl⟩

noncomputable def F12 : List AV → Option AV := specF (ι := Unit) (fun _ => []) fun _ => retOf [B true]
theorem cf12 (M : Nat → AO) (n : Nat) : callP F12 [] M n = some (B true, []) := callP_spec (ι := Unit) (A := fun _ => []) (R := fun _ => retOf [B true]) () rfl (fun _ _ => rfl) (by simp)
noncomputable def T12 : AX := T23.add 12 (callP F12)
theorem t12 : XOK Try.prog T12 := xok_spec t23 (s12 T23 lx23) (fun _ => trivial) Try.func12 (by kernel_rfl)
theorem lx12 : LawX T12 := ⟨rfl, rfl, rfl, rfl, rfl, rfl, rfl, rfl, rfl, rfl, rfl, fun x y M n hx hy => cf23 x y M n hx hy, AX.W.start _, t12⟩
theorem s3' : PSound Try.prog 3 (specF (ι := List Zx) (fun x => [.rd 10 (zrows x)]) fun _ => retOf [B true]) := s3 T12 lx12 cf12
theorem s4' : PSound Try.prog 4 (specF (ι := List Zx × Int × Bool) (fun x => [.rd 10 (zrows x.1), I x.2.1, B x.2.2]) fun _ => retOf [B true]) := s4 T12 lx12 cf12
theorem s5' : PSound Try.prog 5 (specF (ι := PkA) (fun x => [.rd 10 (zrows x.xs), .agg [I x.p.kind, I x.p.nodes, I x.p.turn], .agg [I x.n, B x.k]]) fun _ => retOf [B true]) := s5 T12 lx12 cf12
theorem s6' : PSound Try.prog 6 (specF (ι := List Zx × Int × Bool) (fun x => [.rd 10 (zrows x.1), I x.2.1, B x.2.2]) fun _ => retOf [B true]) := s6 T12 lx12 cf12
theorem s8' : PSound Try.prog 8 (specF (ι := List Zx × Int × Int × Bool) (fun x => [.rd 10 (zrows x.1), I x.2.1, .agg [I x.2.2.1, B x.2.2.2]]) fun _ => retOf [B true]) := s8 T12 lx12 cf12
theorem s9' : PSound Try.prog 9 (specF (ι := List Zx × (Int × Int × Int) × Bool) (fun x => [.rd 10 (zrows x.1), .agg [I x.2.1.1, I x.2.1.2.1, I x.2.1.2.2], B x.2.2]) fun _ => retOf [B true]) := s9 T12 lx12 cf12
theorem s10' : PSound Try.prog 10 (specF (ι := PkA) (fun x => [.rd 10 (zrows x.xs), .agg [I x.p.kind, I x.p.nodes, I x.p.turn], .agg [I x.n, B x.k]]) fun _ => retOf [B true]) := s10 T12 lx12 cf12

theorem checks_F (avs : List AV) (h : FitArgs Try.prog [22] avs) : specF (ι := List Zx) (fun x => [.rd 10 (zrows x)]) (fun _ => retOf [B true]) avs = some (B true) := by
  match avs, h with
  | [a], h =>
    simp only [FitArgs] at h
    obtain ⟨xs, rfl⟩ := arg_zones h.1
    exact specF_eq (A := fun x : List Zx => [.rd 10 (zrows x)]) (R := fun _ => retOf [B true]) xs fun _ _ => rfl
  | [], h => simp [FitArgs] at h
  | _ :: _ :: _, h => simp [FitArgs] at h
theorem zib_F (avs : List AV) (h : FitArgs Try.prog [22, 3, 4] avs) : specF (ι := List Zx × Int × Bool) (fun x => [.rd 10 (zrows x.1), I x.2.1, B x.2.2]) (fun _ => retOf [B true]) avs = some (B true) := by
  match avs, h with
  | [a, b, c], h =>
    simp only [FitArgs] at h
    obtain ⟨xs, rfl⟩ := arg_zones h.1
    obtain ⟨n, rfl⟩ := arg_int h.2.1
    obtain ⟨k, rfl⟩ := arg_bool h.2.2.1
    exact specF_eq (A := fun x : List Zx × Int × Bool => [.rd 10 (zrows x.1), I x.2.1, B x.2.2]) (R := fun _ => retOf [B true]) (xs, n, k) fun _ _ => rfl
  | [], h => simp [FitArgs] at h
  | [_], h => simp [FitArgs] at h
  | [_, _], h => simp [FitArgs] at h
  | _ :: _ :: _ :: _ :: _, h => simp [FitArgs] at h
theorem zpa_F (avs : List AV) (h : FitArgs Try.prog [22, 34, 36] avs) : specF (ι := PkA) (fun x => [.rd 10 (zrows x.xs), .agg [I x.p.kind, I x.p.nodes, I x.p.turn], .agg [I x.n, B x.k]]) (fun _ => retOf [B true]) avs = some (B true) := by
  match avs, h with
  | [a, b, c], h =>
    simp only [FitArgs] at h
    obtain ⟨xs, rfl⟩ := arg_zones h.1
    obtain ⟨p, q, r, rfl⟩ := arg_pol h.2.1
    obtain ⟨n, k, rfl⟩ := arg_at h.2.2.1
    exact specF_eq (A := fun x : PkA => [.rd 10 (zrows x.xs), .agg [I x.p.kind, I x.p.nodes, I x.p.turn], .agg [I x.n, B x.k]]) (R := fun _ => retOf [B true]) ⟨xs, ⟨p, q, r⟩, n, k⟩ fun _ _ => rfl
  | [], h => simp [FitArgs] at h
  | [_], h => simp [FitArgs] at h
  | [_, _], h => simp [FitArgs] at h
  | _ :: _ :: _ :: _ :: _, h => simp [FitArgs] at h
theorem zia_F (avs : List AV) (h : FitArgs Try.prog [22, 3, 36] avs) : specF (ι := List Zx × Int × Int × Bool) (fun x => [.rd 10 (zrows x.1), I x.2.1, .agg [I x.2.2.1, B x.2.2.2]]) (fun _ => retOf [B true]) avs = some (B true) := by
  match avs, h with
  | [a, b, c], h =>
    simp only [FitArgs] at h
    obtain ⟨xs, rfl⟩ := arg_zones h.1
    obtain ⟨m, rfl⟩ := arg_int h.2.1
    obtain ⟨n, k, rfl⟩ := arg_at h.2.2.1
    exact specF_eq (A := fun x : List Zx × Int × Int × Bool => [.rd 10 (zrows x.1), I x.2.1, .agg [I x.2.2.1, B x.2.2.2]]) (R := fun _ => retOf [B true]) (xs, m, n, k) fun _ _ => rfl
  | [], h => simp [FitArgs] at h
  | [_], h => simp [FitArgs] at h
  | [_, _], h => simp [FitArgs] at h
  | _ :: _ :: _ :: _ :: _, h => simp [FitArgs] at h
theorem zpb_F (avs : List AV) (h : FitArgs Try.prog [22, 34, 4] avs) : specF (ι := List Zx × (Int × Int × Int) × Bool) (fun x => [.rd 10 (zrows x.1), .agg [I x.2.1.1, I x.2.1.2.1, I x.2.1.2.2], B x.2.2]) (fun _ => retOf [B true]) avs = some (B true) := by
  match avs, h with
  | [a, b, c], h =>
    simp only [FitArgs] at h
    obtain ⟨xs, rfl⟩ := arg_zones h.1
    obtain ⟨p, q, r, rfl⟩ := arg_pol h.2.1
    obtain ⟨k, rfl⟩ := arg_bool h.2.2.1
    exact specF_eq (A := fun x : List Zx × (Int × Int × Int) × Bool => [.rd 10 (zrows x.1), .agg [I x.2.1.1, I x.2.1.2.1, I x.2.1.2.2], B x.2.2]) (R := fun _ => retOf [B true]) (xs, (p, q, r), k) fun _ _ => rfl
  | [], h => simp [FitArgs] at h
  | [_], h => simp [FitArgs] at h
  | [_, _], h => simp [FitArgs] at h
  | _ :: _ :: _ :: _ :: _, h => simp [FitArgs] at h
end Go.AM
