/- A part of the proof: what functions of the program compute, by abstract execution of their code. Its theorems hold without further condition. -/
import Derived.Test.YtcfhmdljeeppfaaAmZa
import Derived.Test.YtcfhmdljeeppfaaAmG2
import Derived.Test.YtcfhmdljeeppfaaProg
import Derived.ProofKit
import Derived.Laws.StructEq
import Derived.ChangeKeysEq
import Derived.Test.YtcfhmdljeeppfaaAmH
set_option linter.all false
namespace Go.AM
open Go Go.Proofs
@[simp] theorem ty3:Types Try.prog 3=some ⟨.int .i64,1,8,[.int .i64 0]⟩:=by kernel_rfl
@[simp] theorem ty4:Types Try.prog 4=some ⟨.bool,1,1,[.bool false]⟩:=by kernel_rfl
@[simp] theorem tyU:Types Try.prog 51=some ⟨.int .u64,1,8,[.int .u64 0]⟩:=by kernel_rfl
@[simp] theorem tyE:Types Try.prog 65=some ⟨.struct [(0,3,1),(1,3,1),(2,4,1),(3,4,1),(4,4,1),(5,4,1)],6,24,[.int .i64 0,.int .i64 0,.bool false,.bool false,.bool false,.bool false]⟩:=by kernel_rfl
@[simp] theorem tyTab:Types Try.prog 27=some ⟨.struct [(0,3,1),(1,24,1),(2,25,1)],3,56,[.int .i64 0,.slice none 0 0,.slice none 0 0]⟩:=by kernel_rfl
@[simp] theorem tyNs:Types Try.prog 24=some ⟨.slice 54,1,24,[.slice none 0 0]⟩:=by kernel_rfl
@[simp] theorem tyDs:Types Try.prog 25=some ⟨.slice 102,1,24,[.slice none 0 0]⟩:=by kernel_rfl
@[simp] theorem tyN:Types Try.prog 54=some ⟨.struct [(0,3,1),(1,52,8)],9,72,.int .i64 0::List.replicate 8 (.int .u64 0)⟩:=by kernel_rfl
@[simp] theorem tyW8:Types Try.prog 52=some ⟨.array 8 51,8,64,List.replicate 8 (.int .u64 0)⟩:=by kernel_rfl
@[simp] theorem tyD:Types Try.prog 102=some ⟨.struct [(0,3,1),(1,3,1)],2,16,[.int .i64 0,.int .i64 0]⟩:=by kernel_rfl
@[simp] theorem tyIs:Types Try.prog 36=some ⟨.slice 3,1,24,[.slice none 0 0]⟩:=by kernel_rfl
@[simp] theorem tyBs:Types Try.prog 118=some ⟨.slice 4,1,24,[.slice none 0 0]⟩:=by kernel_rfl
@[simp] theorem tySt:Types Try.prog 124=some ⟨.struct [(0,3,1),(1,3,1),(2,51,1)],3,24,[.int .i64 0,.int .i64 0,.int .u64 0]⟩:=by kernel_rfl
theorem mixed:Try.prog.follows .mixedOrders=true:=by kernel_rfl
theorem und3:Try.prog.underlying 3=some (.int .i64):=by kernel_rfl
end Go.AM
namespace Go.AM
open Go Go.Proofs
set_option maxRecDepth 20000
noncomputable def FitV (t:TypeId):Value→Prop
 | .int q _=>Try.prog.underlying t=some (.int q)
 | .bool _=>Try.prog.underlying t=some .bool
 | _=>False
noncomputable def fitB (t:TypeId):Value→Bool
 | .int q _=>match Try.prog.underlying t with
  | some (.int q')=>decide (q'=q)
  | _=>false
 | .bool _=>match Try.prog.underlying t with
  | some .bool=>true
  | _=>false
 | _=>false
theorem fitB_ok {t:TypeId} {v:Value} (h:fitB t v=true):FitV t v:=by
 cases v<;>simp only [fitB,Bool.false_eq_true] at h
 all_goals (split at h<;>simp only [Bool.false_eq_true,decide_eq_true_eq] at h)
 ·assumption
 ·subst h;assumption
noncomputable def plB:List Field→Nat→List Value→Bool
 | [],_,[]=>true
 | f :: fs, k, z :: Z => (f.name != "_" && decide (f.offset = k) && Try.prog.plainKey f.type && fitB f.type z) && plB fs (k + 1) Z
 | _,_,_=>false
noncomputable def PlF:List Field→Nat→List Value→Prop
 | [],_,[]=>True
 | f :: fs, k, z :: Z => (f.name ≠ "_" ∧ f.offset = k ∧ Try.prog.plainKey f.type = true ∧ FitV f.type z) ∧ PlF fs (k + 1) Z
 | _,_,_=>False
theorem plB_ok:∀ {fs:List Field} {k:Nat} {Z:List Value},plB fs k Z=true→PlF fs k Z
 | [],_,[],_=>trivial
 | f::fs,k,z::Z,h=>by
  simp only [plB,Bool.and_eq_true,bne_iff_ne,decide_eq_true_eq] at h
  obtain ⟨⟨⟨⟨h1,h2⟩,h3⟩,h4⟩,h5⟩:=h
  exact ⟨⟨h1,h2,h3,fitB_ok h4⟩,plB_ok h5⟩
 | [],_,_::_,h=>by simp [plB] at h
 | _::_,_,[],h=>by simp [plB] at h
theorem eqG (w:World):∀ {Z:List Value} {fs:List Field} {k:Nat},PlF fs k Z→∀ {px py xs ys:List Value} {b:Bool},px.length=k→py.length=k→sameKV Z xs=true→eqV xs ys=some b →
  (Op.eqFields 9999 (px++xs).toArray (py++ys).toArray fs).run Try.prog w=.ok b w
 | [],[],k,_,px,py,xs,ys,b,_,_,hs,he=>by
  cases xs with
  | nil =>
   cases ys with
   | nil=>simp [eqV] at he;subst he;rfl
   | cons y ys=>simp [eqV] at he
  | cons x xs=>simp [sameKV] at hs
 | z::Z,f::fs,k,h,px,py,xs,ys,b,hp,hq,hs,he=>by
  simp only [PlF] at h
  obtain ⟨⟨n1,o1,p1,t1⟩,h⟩:=h
  cases xs with
  | nil=>cases z<;>simp [sameKV] at hs
  | cons x xs =>
   cases ys with
   | nil=>cases x<;>simp [eqV] at he
   | cons y ys =>
    have hx:(px++x::xs).toArray[k]?=some x:=by simp [← hp]
    have hy:(py++y::ys).toArray[k]?=some y:=by simp [← hq]
    have ex:px++x::xs=(px++[x])++xs:=by simp
    have ey:py++y::ys=(py++[y])++ys:=by simp
    simp only [Op.eqFields]
    rw [if_pos n1,o1]
    simp only [Sem.run_bind]
    rw [run_part_plain w p1 hx]
    simp only [Result.andThen_ok]
    rw [run_part_plain w p1 hy]
    simp only [Result.andThen_ok]
    cases z<;>simp only [FitV] at t1<;>cases x<;>simp only [sameKV,Bool.and_eq_true,decide_eq_true_eq,Bool.false_eq_true] at hs<;>cases y<;>simp only [eqV,reduceCtorEq] at he
    ·rename_i b1 b2 b3
     cases hr:eqV xs ys with
     | none=>simp [hr] at he
     | some r =>
      simp only [hr,Option.map_some,Option.some.injEq] at he
      have ih:=eqG w h (px:=px++[.bool b2]) (py:=py++[.bool b3]) (by simp [hp]) (by simp [hq]) hs hr
      rw [← ex,← ey] at ih
      rw [run_equalIn_bool' w _ f.type _ _ t1]
      simp only [Result.andThen_ok]
      by_cases e:(b2 == b3)=true
      ·simp only [e,Bool.not_true,Bool.false_eq_true,if_false,ih,Bool.true_and] at he ⊢
       rw [he]
      ·simp only [Bool.not_eq_true] at e
       simp only [e,Bool.false_and] at he ⊢
       simp [← he]
    ·rename_i q0 n0 q1 n1' q2 n2
     split at he
     case isFalse=>simp at he
     rename_i hk
     subst hk
     obtain ⟨rfl,hs⟩:=hs
     cases hr:eqV xs ys with
     | none=>simp [hr] at he
     | some r =>
      simp only [hr,Option.map_some,Option.some.injEq] at he
      have ih:=eqG w h (px:=px++[.int q0 n1']) (py:=py++[.int q0 n2]) (by simp [hp]) (by simp [hq]) hs hr
      rw [← ex,← ey] at ih
      rw [run_equalIn_int w _ f.type q0 q0 _ _ t1]
      simp only [Result.andThen_ok]
      by_cases e:n1'=n2
      ·subst e
       simp only [beq_self_eq_true,Bool.not_true,Bool.false_eq_true,if_false,ih,decide_true,Bool.true_and] at he ⊢
       rw [he]
      ·have hb:(n1' == n2)=false:=by simpa using e
       simp only [hb,Bool.not_false,if_true,Sem.run_pure]
       simp only [e,decide_false,Bool.false_and] at he
       rw [← he]
 | [],_::_,_,h,_,_,_,_,_,_,_,_,_=>by simp [PlF] at h
 | _::_,[],_,h,_,_,_,_,_,_,_,_,_=>by simp [PlF] at h
theorem ckP {w:World} {t:TypeId} {v:Value} {b:Bool} {d:Nat} (h:Try.prog.plainKey t=true) (hv:FitV t v):(Instr.checkKey b (d+1) t v).run Try.prog w=.ok () w:=by
 cases v<;>simp only [FitV] at hv<;>(rw [Instr.checkKey];simp [run_underlying hv])
theorem ckG (w:World) (em:Bool) (d:Nat):∀ {Z:List Value} {fs:List Field} {k:Nat},PlF fs k Z→∀ {px xs:List Value},px.length=k→sameKV Z xs=true →
  (forIn fs PUnit.unit fun f (_ : PUnit) => (if f.name ≠ "_" then do
    let a ← part f.type (px++xs).toArray f.offset
    Instr.checkKey em (d+1) f.type a
    pure (ForInStep.yield PUnit.unit)
   else pure (ForInStep.yield PUnit.unit):Sem (ForInStep PUnit))).run Try.prog w=.ok PUnit.unit w
 | [],[],k,_,px,xs,_,_=>rfl
 | z::Z,f::fs,k,h,px,xs,hp,hs=>by
  simp only [PlF] at h
  obtain ⟨⟨n1,o1,p1,t1⟩,h⟩:=h
  cases xs with
  | nil=>cases z<;>simp [sameKV] at hs
  | cons x xs =>
   have hx:(px++x::xs).toArray[k]?=some x:=by simp [← hp]
   have ex:px++x::xs=(px++[x])++xs:=by simp
   have key:sameKV Z xs=true∧FitV f.type x:=by
    clear hx ex
    cases z<;>simp only [FitV] at t1<;>cases x<;>simp only [sameKV,Bool.and_eq_true,decide_eq_true_eq,Bool.false_eq_true] at hs
    ·exact ⟨hs,t1⟩
    ·obtain ⟨rfl,hs⟩:=hs
     exact ⟨hs,t1⟩
   have ih:=ckG w em d h (px:=px++[x]) (xs:=xs) (by simp [hp]) key.1
   rw [← ex] at ih
   simp only [List.forIn_cons,Sem.run_bind]
   rw [if_pos n1,o1]
   simp only [Sem.run_bind]
   rw [run_part_plain w p1 hx]
   simp only [Result.andThen_ok,ckP p1 key.2,Sem.run_pure]
   exact ih
 | [],_::_,_,h,_,_,_,_=>by simp [PlF] at h
 | _::_,[],_,h,_,_,_,_=>by simp [PlF] at h
theorem eqok_plain {t:TypeId} (hu:Try.prog.underlying t=some (.struct (Try.prog.fieldsOf t))) (hf:∀ d,Types Try.prog t=some d→PlF (Try.prog.fieldsOf t).toList 0 d.zero) (hp:Try.prog.stoodInHeld t=false) (hg:Try.prog.eqGuardType Try.prog.depth t=false):EqOK Try.prog t:=by
 intro d hd
 refine ⟨fun w xs b hk=>?_,fun w xs ys b hk he=>⟨?_,hg⟩⟩
 ·rw [show (10000:Nat)=9998+1+1 from rfl,Instr.checkKey]
  simp only [Sem.run_bind,run_underlying hu,Result.andThen_ok]
  rw [← Array.forIn_toList]
  have:=ckG w b 9998 (hf d hd) (px:=[]) rfl hk
  rw [List.nil_append] at this
  rw [this]
  rfl
 ·unfold Op.equal
  rw [show Op.maxDepth=9999+1 from rfl,run_equalIn_agg w _ t _ _ hu hp]
  have:=eqG w (hf d hd) (px:=[]) (py:=[]) rfl rfl hk he
  simpa using this
theorem eqE:EqOK Try.prog 65:=eqok_plain (by kernel_rfl) (fun d hd=>by
 rw [tyE,Option.some.injEq] at hd
 subst hd
 exact plB_ok (by kernel_rfl)) (by kernel_rfl) (by kernel_rfl)
theorem eqD:EqOK Try.prog 102:=eqok_plain (by kernel_rfl) (fun d hd=>by
 rw [tyD,Option.some.injEq] at hd
 subst hd
 exact plB_ok (by kernel_rfl)) (by kernel_rfl) (by kernel_rfl)
theorem eqPE:EqOK Try.prog 63:=eqok_plain (by kernel_rfl) (fun d hd=>by
 have h:Types Try.prog 63=some ⟨.struct [(0,3,1),(1,51,1)],2,16,[.int .i64 0,.int .u64 0]⟩:=by kernel_rfl
 rw [h,Option.some.injEq] at hd
 subst hd
 exact plB_ok (by kernel_rfl)) (by kernel_rfl) (by kernel_rfl)
end Go.AM
namespace Go.AM
open Go Go.Proofs
abbrev En:=Int×Int×Bool×Bool×Bool×Bool
def EnV (e:En):AV:=.agg [I e.1,I e.2.1,B e.2.2.1,B e.2.2.2.1,B e.2.2.2.2.1,B e.2.2.2.2.2]
def U (n:Int):AV:=.v (.int .u64 n)
theorem EnV_inj {a b:En}:EnV a=EnV b↔a=b:=by
 obtain ⟨a1,a2,a3,a4,a5,a6⟩:=a
 obtain ⟨b1,b2,b3,b4,b5,b6⟩:=b
 simp [EnV,I,B]
def noFl (e:En):Bool:=!e.2.2.1&&(!e.2.2.2.1&&(!e.2.2.2.2.1&&!e.2.2.2.2.2))
def frmE (e:En):Bool :=
 if e.1=1 then true
 else if e.1=3 then !e.2.2.2.1&&(!e.2.2.2.2.1&&!e.2.2.2.2.2)
 else if e.1=0 then decide (e.2.1=0)&&noFl e
 else if e.1=2∨e.1=4 then noFl e else false
def wT (f:FuncId):Bool:=Nat.beq f 69||Nat.beq f 84||Nat.beq f 999999||Nat.beq f 999999||Nat.beq f 106||Nat.beq f 999999||Nat.beq f 999999||Nat.beq f 999999||Nat.beq f 999999||Nat.beq f 999999||Nat.beq f 45||Nat.beq f 999999||Nat.beq f 999999||Nat.beq f 999999||Nat.beq f 999999||Nat.beq f 999999||Nat.beq f 999999||Nat.beq f 999999||Nat.beq f 999999||Nat.beq f 999999||Nat.beq f 999999||Nat.beq f 999999||Nat.beq f 999999||Nat.beq f 999999||Nat.beq f 999999||Nat.beq f 102||Nat.beq f 141||Nat.beq f 133||Nat.beq f 999999||Nat.beq f 999999||Nat.beq f 999999||Nat.beq f 999999||Nat.beq f 999999||Nat.beq f 999999||Nat.beq f 999999||Nat.beq f 999999||Nat.beq f 999999||Nat.beq f 999999||Nat.beq f 88||Nat.beq f 999999||Nat.beq f 92||Nat.beq f 91||Nat.beq f 40||Nat.beq f 41||Nat.beq f 74||Nat.beq f 999999
def fb (b:Bool) (n:Int):Int:=if b then n else 0
theorem s123 (X:AX) (hX:XOK Try.prog X):PSound Try.prog 123 (specF (ι:=Bool×Int) (fun x=>[B x.1,U x.2]) fun x=>retOf [U (fb x.1 x.2)]):=by
 refine psound_spec hX mixed Try.func123 rfl fun ⟨b,n⟩ w0 G=>⟨by show 2≤7;decide,rfl,?_⟩
 show AW ⟨Try.prog,X,7,w0,.pure G⟩ _ _ _
 have hc:Cx.OK ⟨Try.prog,X,7,w0,.pure G⟩:=⟨hX,mixed⟩
 unfold U
 cases b
 ·refine dM8o ?_
  repeat (intro K hK)
  refine ⟨by simp,?_⟩
  simp [leaves_iff,Try.f123,fb]
  try exact dt
 ·refine dM8o ?_
  repeat (intro K hK)
  refine ⟨by simp,?_⟩
  simp [leaves_iff,Try.f123,fb]
  try exact dt
set_option maxHeartbeats 1000000 in
theorem s122 (X:AX) (hX:XOK Try.prog X) (hw:X.W wT) (he:X.eqs 65=true):PSound Try.prog 122 (specF (ι:={e:En // 0≤e.1∧e.1≤4}) (fun x=>[EnV x.1]) fun x=>retOf [B (frmE x.1)]):=by
 refine psound_spec hX mixed Try.func122 rfl fun ⟨⟨k,f,d,a,x,h⟩,hk1,hk2⟩ w0 G=>⟨by show 1≤32;decide,rfl,?_⟩
 show AW ⟨Try.prog,X,32,w0,.pure G⟩ _ _ _
 have hc:Cx.OK ⟨Try.prog,X,32,w0,.pure G⟩:=⟨hX,mixed⟩
 simp only at hk1 hk2
 unfold EnV
 simp only
 have hk:k=0∨k=1∨k=2∨k=3∨k=4:=by omega
 rcases hk with rfl|rfl|rfl|rfl|rfl
 ·have zS:=jj he<|jj eqLs<|sameKs
  refine dM8 ?_
  repeat (intro K hK)
  clear zS
  refine ⟨by simp,?_⟩
  simp [leaves_iff,Try.f122,frmE,noFl]
  try exact dt
 ·have zS:=jj he<|jj eqLs<|sameKs
  refine dM8 ?_
  repeat (intro K hK)
  clear zS
  refine ⟨by simp,?_⟩
  simp [leaves_iff,Try.f122,frmE,noFl]
  try exact dt
 ·have zS:=jj he<|jj eqLs<|sameKs
  refine dM8 ?_
  repeat (intro K hK)
  clear zS
  refine ⟨by simp,?_⟩
  simp [leaves_iff,Try.f122,frmE,noFl]
  try exact dt
 ·have zS:=jj he<|jj eqLs<|sameKs
  refine dM8 ?_
  repeat (intro K hK)
  clear zS
  refine ⟨by simp,?_⟩
  simp [leaves_iff,Try.f122,frmE,noFl]
  try exact dt
 ·have zS:=jj he<|jj eqLs<|sameKs
  refine dM8 ?_
  repeat (intro K hK)
  clear zS
  refine ⟨by simp,?_⟩
  simp [leaves_iff,Try.f122,frmE,noFl]
  try exact dt
end Go.AM
namespace Go.AM
open Go
theorem wrapU {n:Nat} (h:n<2^64):IntKind.u64.wrap (n:Int)=n:=by
 have:(2:Nat)^64=18446744073709551616:=by decide
 simp [IntKind.wrap,IntKind.signed,IntKind.bits]
 omega
theorem toNat_u {n:Nat} (h:n<2^64):(BitVec.ofInt 64 (n:Int)).toNat=n:=by
 rw [BitVec.toNat_ofInt]
 omega
theorem bitI_or {x y j:Nat} (hx:x<2^j) (h:x+y*2^j<2^64):bitI .or .u64 (x:Int) ((y*2^j:Nat):Int)=((x+y*2^j:Nat):Int):=by
 unfold bitI
 have e:(BitVec.ofInt 64 (x:Int) ||| BitVec.ofInt 64 ((y*2^j:Nat):Int)).toNat=x+y*2^j:=by
  rw [BitVec.toNat_or,toNat_u (by omega),toNat_u (by omega)]
  have:=Nat.shiftLeft_add_eq_or_of_lt hx y
  rw [Nat.shiftLeft_eq] at this
  rw [Nat.or_comm,← this,Nat.add_comm]
 show IntKind.u64.wrap (((BitVec.ofInt 64 (x:Int) ||| BitVec.ofInt 64 ((y*2^j:Nat):Int)).toNat:Nat):Int)=_
 rw [e]
 exact wrapU h
theorem bitI_and {x y:Nat} (hx:x<2^64) (hy:y<2^64):bitI .and .u64 (x:Int) (y:Int)=((x &&& y:Nat):Int):=by
 unfold bitI
 show IntKind.u64.wrap (((BitVec.ofInt 64 (x:Int) &&& BitVec.ofInt 64 (y:Int)).toNat:Nat):Int)=_
 rw [BitVec.toNat_and,toNat_u hx,toNat_u hy]
 exact wrapU (Nat.lt_of_le_of_lt Nat.and_le_left hx)
theorem and_mask (x j:Nat):x &&& (2^j - 1)=x%2^j:=Nat.and_two_pow_sub_one_eq_mod x j
theorem and_bit (x j:Nat):x &&& 2^j=if x.testBit j then 2^j else 0:=by
 refine Nat.eq_of_testBit_eq fun i=>?_
 rw [Nat.testBit_and,Nat.testBit_two_pow]
 by_cases h:j=i
 ·subst h
  cases hx:x.testBit j<;>simp [Nat.testBit_two_pow]
 ·have:¬ i=j:=fun e=>h e.symm
  cases hx:x.testBit j<;>simp [Nat.testBit_two_pow,h]
end Go.AM
namespace Go.AM
open Go Go.Proofs
theorem fb_rng (b:Bool) {n:Int} (h:0≤n):0≤fb b n∧fb b n≤n:=by
 unfold fb;cases b<;>simp<;>omega
theorem or_fb {x:Int} (b:Bool) {j:Nat} (h0:0≤x) (h1:x<2^j) (h2:j<63):bitI .or .u64 x (fb b (2^j))=x+fb b (2^j):=by
 obtain ⟨n,rfl⟩:∃ n:Nat,x=n:=⟨x.toNat,by omega⟩
 have hn:n<2^j:=by exact_mod_cast h1
 have hp:2^j≤2^62:=Nat.pow_le_pow_right (by omega) (by omega)
 have h62:(2:Nat)^62=4611686018427387904:=by decide
 have h64:(2:Nat)^64=18446744073709551616:=by decide
 have:=bitI_or (x:=n) (y:=if b then 1 else 0) (j:=j) hn (by cases b<;>simp<;>omega)
 unfold fb
 cases b
 ·simpa using this
 ·simpa using this
theorem or8 {x:Int} (b:Bool) (h0:0≤x) (h1:x<8):bitI .or .u64 x (fb b 8)=x+fb b 8:=or_fb b (j:=3) h0 h1 (by omega)
theorem or16 {x:Int} (b:Bool) (h0:0≤x) (h1:x<16):bitI .or .u64 x (fb b 16)=x+fb b 16:=or_fb b (j:=4) h0 h1 (by omega)
theorem or32 {x:Int} (b:Bool) (h0:0≤x) (h1:x<32):bitI .or .u64 x (fb b 32)=x+fb b 32:=or_fb b (j:=5) h0 h1 (by omega)
theorem or64 {x:Int} (b:Bool) (h0:0≤x) (h1:x<64):bitI .or .u64 x (fb b 64)=x+fb b 64:=or_fb b (j:=6) h0 h1 (by omega)
theorem or_top {x f:Int} (h0:0≤x) (h1:x<256) (h2:0≤f) (h3:f≤4294967295):bitI .or .u64 x (f*256)=x+f*256:=by
 obtain ⟨n,rfl⟩:∃ n:Nat,x=n:=⟨x.toNat,by omega⟩
 obtain ⟨m,rfl⟩:∃ m:Nat,f=m:=⟨f.toNat,by omega⟩
 have h64:(2:Nat)^64=18446744073709551616:=by decide
 have:=bitI_or (x:=n) (y:=m) (j:=8) (by omega) (by omega)
 simpa using this
def encW (e:En):Int:=e.1+fb e.2.2.1 8+fb e.2.2.2.1 16+fb e.2.2.2.2.1 32+fb e.2.2.2.2.2 64+e.2.1*256
def badF (e:En):Prop:=e.2.1<0∨4294967295<e.2.1∨e.1=1∧e.2.2.2.2.2=true∧4294967288<e.2.1
instance (e:En):Decidable (badF e):=by unfold badF;infer_instance
def encR (e:En):Int×Int:=if 0≤e.1∧e.1≤4 then (if badF e then (0,2) else if frmE e=true then (encW e,0) else (0,3)) else (0,1)
theorem encR_k {e:En} (h:¬ (0≤e.1∧e.1≤4)):encR e=(0,1):=by unfold encR;rw [if_neg h]
theorem encR_f {e:En} (h:0≤e.1∧e.1≤4) (h2:badF e):encR e=(0,2):=by unfold encR;rw [if_pos h,if_pos h2]
theorem encR_m {e:En} (h:0≤e.1∧e.1≤4) (h2:¬ badF e) (h3:frmE e=false):encR e=(0,3):=by unfold encR;rw [if_pos h,if_neg h2,h3];rfl
theorem encR_z {e:En} (h:0≤e.1∧e.1≤4) (h2:¬ badF e) (h3:frmE e=true):encR e=(encW e,0):=by unfold encR;rw [if_pos h,if_neg h2,if_pos h3]
theorem encSteps {k f:Int} {d a x h:Bool} (hk:0≤k∧k≤4) (hf:0≤f∧f≤4294967295):∃ w1 w2 w3 w4:Int,bitI .or .u64 k (fb d 8)=w1∧bitI .or .u64 w1 (fb a 16)=w2∧bitI .or .u64 w2 (fb x 32)=w3∧bitI .or .u64 w3 (fb h 64)=w4∧bitI .or .u64 w4 (f*256)=encW (k,f,d,a,x,h):=by
 have r1:=fb_rng d (n:=8) (by omega)
 have r2:=fb_rng a (n:=16) (by omega)
 have r3:=fb_rng x (n:=32) (by omega)
 have r4:=fb_rng h (n:=64) (by omega)
 refine ⟨_,_,_,_,or8 d (by omega) (by omega),or16 a (by omega) (by omega),or32 x (by omega) (by omega),or64 h (by omega) (by omega),?_⟩
 rw [or_top (by omega) (by omega) hf.1 hf.2]
 rfl
theorem wrapF {f:Int} (hf:0≤f∧f≤4294967295):IntKind.u64.wrap f=f∧IntKind.u64.wrap (f*256)=f*256:=by
 constructor
 ·exact wrapU64 ⟨by omega,by omega⟩
 ·exact wrapU64 ⟨by omega,by omega⟩
theorem encAll {k f:Int} {d a x h:Bool} (hk:0≤k∧k≤4) (hf:0≤f∧f≤4294967295) :
  bitI .or .u64 (bitI .or .u64 (bitI .or .u64 (bitI .or .u64 (bitI .or .u64 (IntKind.u64.wrap k) (fb d 8)) (fb a 16)) (fb x 32)) (fb h 64)) (IntKind.u64.wrap (IntKind.u64.wrap f*2^min 8 IntKind.u64.bits))=encW (k,f,d,a,x,h):=by
 obtain ⟨w1,w2,w3,w4,v1,v2,v3,v4,v5⟩:=encSteps (d:=d) (a:=a) (x:=x) (h:=h) hk hf
 have e1:f*2^min 8 IntKind.u64.bits=f*256:=by simp [IntKind.bits]
 have e2:IntKind.u64.wrap k=k:=wrapU64 ⟨by omega,by omega⟩
 rw [(wrapF hf).1,e1,e2,(wrapF hf).2,v1,v2,v3,v4,v5]
set_option maxHeartbeats 2000000 in
theorem s73 (X:AX) (hX:XOK Try.prog X) (hw:X.W wT) (hfo:∀ k f d a x h,0≤k∧k≤4→∀ M n,X.call 122 [.agg [I k,I f,B d,B a,B x,B h]] M n=some (B (frmE (k,f,d,a,x,h)),[]))
  (hfl:∀ b c M n,X.call 123 [B b,.v (.int .u64 c)] M n=some (.v (.int .u64 (fb b c)),[])):PSound Try.prog 73 (specF (ι:=En) (fun x=>[EnV x]) fun x=>retOf [U (encR x).1,I (encR x).2]):=by
 refine psound_spec hX mixed Try.func73 rfl fun ⟨k,f,d,a,x,h⟩ w0 G=>⟨by show 1≤63;decide,rfl,?_⟩
 show AW ⟨Try.prog,X,63,w0,.pure G⟩ _ _ _
 have hc:Cx.OK ⟨Try.prog,X,63,w0,.pure G⟩:=⟨hX,mixed⟩
 unfold EnV U
 simp only
 rcases Decidable.em (0≤k∧k≤4) with hk|hk
 ·have hfo':=hfo k f d a x h hk
  rcases Decidable.em (badF (k,f,d,a,x,h)) with hb|hb
  ·rw [encR_f hk hb]
   unfold badF at hb
   simp only at hb
   rcases (by omega:k=0∨k=1∨k=2∨k=3∨k=4) with rfl|rfl|rfl|rfl|rfl
   ·rcases Decidable.em (f<0) with g1|g1
    ·have zS:=g1
     refine dM8 ?_
     repeat (intro K hK)
     clear zS
     refine ⟨by simp,?_⟩
     simp [leaves_iff,Try.f73]
     try exact dt
    ·have g2:4294967295<f:=by
      rcases hb with hb|hb|hb
      ·exact absurd hb g1
      ·exact hb
      ·exact absurd hb.1 (by omega)
     have zS:=jj g1<|g2
     refine dM8 ?_
     repeat (intro K hK)
     clear zS
     refine ⟨by simp,?_⟩
     simp [leaves_iff,Try.f73]
     try exact dt
   ·rcases Decidable.em (f<0) with g1|g1
    ·have zS:=g1
     refine dM8 ?_
     repeat (intro K hK)
     clear zS
     refine ⟨by simp,?_⟩
     simp [leaves_iff,Try.f73]
     try exact dt
    ·rcases Decidable.em (4294967295<f) with g2|g2
     ·have zS:=jj g1<|g2
      refine dM8 ?_
      repeat (intro K hK)
      clear zS
      refine ⟨by simp,?_⟩
      simp [leaves_iff,Try.f73]
      try exact dt
     ·have g3:h=true∧4294967288<f:=by
       rcases hb with hb|hb|hb
       ·exact absurd hb g1
       ·exact absurd hb g2
       ·exact hb.2
      obtain ⟨rfl,g3⟩:=g3
      have zS:=jj g1<|jj g2<|g3
      refine dM8 ?_
      repeat (intro K hK)
      clear zS
      refine ⟨by simp,?_⟩
      simp [leaves_iff,Try.f73]
      try exact dt
   ·rcases Decidable.em (f<0) with g1|g1
    ·have zS:=g1
     refine dM8 ?_
     repeat (intro K hK)
     clear zS
     refine ⟨by simp,?_⟩
     simp [leaves_iff,Try.f73]
     try exact dt
    ·have g2:4294967295<f:=by
      rcases hb with hb|hb|hb
      ·exact absurd hb g1
      ·exact hb
      ·exact absurd hb.1 (by omega)
     have zS:=jj g1<|g2
     refine dM8 ?_
     repeat (intro K hK)
     clear zS
     refine ⟨by simp,?_⟩
     simp [leaves_iff,Try.f73]
     try exact dt
   ·rcases Decidable.em (f<0) with g1|g1
    ·have zS:=g1
     refine dM8 ?_
     repeat (intro K hK)
     clear zS
     refine ⟨by simp,?_⟩
     simp [leaves_iff,Try.f73]
     try exact dt
    ·have g2:4294967295<f:=by
      rcases hb with hb|hb|hb
      ·exact absurd hb g1
      ·exact hb
      ·exact absurd hb.1 (by omega)
     have zS:=jj g1<|g2
     refine dM8 ?_
     repeat (intro K hK)
     clear zS
     refine ⟨by simp,?_⟩
     simp [leaves_iff,Try.f73]
     try exact dt
   ·rcases Decidable.em (f<0) with g1|g1
    ·have zS:=g1
     refine dM8 ?_
     repeat (intro K hK)
     clear zS
     refine ⟨by simp,?_⟩
     simp [leaves_iff,Try.f73]
     try exact dt
    ·have g2:4294967295<f:=by
      rcases hb with hb|hb|hb
      ·exact absurd hb g1
      ·exact hb
      ·exact absurd hb.1 (by omega)
     have zS:=jj g1<|g2
     refine dM8 ?_
     repeat (intro K hK)
     clear zS
     refine ⟨by simp,?_⟩
     simp [leaves_iff,Try.f73]
     try exact dt
  ·have hb':=hb
   unfold badF at hb'
   simp only [not_or] at hb'
   have g1:¬ f<0:=hb'.1
   have g2:¬ 4294967295<f:=hb'.2.1
   have g3:=hb'.2.2
   have e5:=@encR_m (k,f,d,a,x,h) hk hb
   have e6:=@encR_z (k,f,d,a,x,h) hk hb
   obtain ⟨W,hW⟩:∃ W,W=encW (k,f,d,a,x,h):=⟨_,rfl⟩
   rw [← hW] at e6
   cases hfm:frmE (k,f,d,a,x,h) with
   | false =>
    rw [e5 hfm]
    rw [hfm] at hfo'
    rcases (by omega:k=0∨k=1∨k=2∨k=3∨k=4) with rfl|rfl|rfl|rfl|rfl
    ·have zS:=jj g1<|jj g2<|hfo'
     refine dM8 ?_
     repeat (intro K hK)
     clear zS
     refine ⟨by simp,?_⟩
     simp [leaves_iff,Try.f73]
     try exact dt
    ·have g4:¬ (h=true∧4294967288<f):=fun hh=>g3 ⟨rfl,hh⟩
     cases h
     ·have zS:=jj g1<|jj g2<|hfo'
      refine dM8 ?_
      repeat (intro K hK)
      clear zS
      refine ⟨by simp,?_⟩
      simp [leaves_iff,Try.f73]
      try exact dt
     ·have g5:¬ 4294967288<f:=fun hh=>g4 ⟨rfl,hh⟩
      have zS:=jj g1<|jj g2<|jj g5<|hfo'
      refine dM8 ?_
      repeat (intro K hK)
      clear zS
      refine ⟨by simp,?_⟩
      simp [leaves_iff,Try.f73]
      try exact dt
    ·have zS:=jj g1<|jj g2<|hfo'
     refine dM8 ?_
     repeat (intro K hK)
     clear zS
     refine ⟨by simp,?_⟩
     simp [leaves_iff,Try.f73]
     try exact dt
    ·have zS:=jj g1<|jj g2<|hfo'
     refine dM8 ?_
     repeat (intro K hK)
     clear zS
     refine ⟨by simp,?_⟩
     simp [leaves_iff,Try.f73]
     try exact dt
    ·have zS:=jj g1<|jj g2<|hfo'
     refine dM8 ?_
     repeat (intro K hK)
     clear zS
     refine ⟨by simp,?_⟩
     simp [leaves_iff,Try.f73]
     try exact dt
   | true =>
    rw [e6 hfm]
    rw [hfm] at hfo'
    clear e5 e6 hfm
    rcases (by omega:k=0∨k=1∨k=2∨k=3∨k=4) with rfl|rfl|rfl|rfl|rfl
    ·have zS:=jj g1<|jj g2<|jj hfo'<|hfl
     refine dM8 ?_
     repeat (intro K hK)
     clear zS
     refine ⟨by simp,?_⟩
     simp [leaves_iff,Try.f73]
     try exact dt
     (rw [hW];refine (encAll ?_ ?_).symm<;>constructor<;>omega)
    ·have g4:¬ (h=true∧4294967288<f):=fun hh=>g3 ⟨rfl,hh⟩
     cases h
     ·have zS:=jj g1<|jj g2<|jj hfo'<|hfl
      refine dM8 ?_
      repeat (intro K hK)
      clear zS
      refine ⟨by simp,?_⟩
      simp [leaves_iff,Try.f73]
      try exact dt
      (rw [hW];refine (encAll ?_ ?_).symm<;>constructor<;>omega)
     ·have g5:¬ 4294967288<f:=fun hh=>g4 ⟨rfl,hh⟩
      have zS:=jj g1<|jj g2<|jj g5<|jj hfo'<|hfl
      refine dM8 ?_
      repeat (intro K hK)
      clear zS
      refine ⟨by simp,?_⟩
      simp [leaves_iff,Try.f73]
      try exact dt
      (rw [hW];refine (encAll ?_ ?_).symm<;>constructor<;>omega)
    ·have zS:=jj g1<|jj g2<|jj hfo'<|hfl
     refine dM8 ?_
     repeat (intro K hK)
     clear zS
     refine ⟨by simp,?_⟩
     simp [leaves_iff,Try.f73]
     try exact dt
     (rw [hW];refine (encAll ?_ ?_).symm<;>constructor<;>omega)
    ·have zS:=jj g1<|jj g2<|jj hfo'<|hfl
     refine dM8 ?_
     repeat (intro K hK)
     clear zS
     refine ⟨by simp,?_⟩
     simp [leaves_iff,Try.f73]
     try exact dt
     (rw [hW];refine (encAll ?_ ?_).symm<;>constructor<;>omega)
    ·have zS:=jj g1<|jj g2<|jj hfo'<|hfl
     refine dM8 ?_
     repeat (intro K hK)
     clear zS
     refine ⟨by simp,?_⟩
     simp [leaves_iff,Try.f73]
     try exact dt
     (rw [hW];refine (encAll ?_ ?_).symm<;>constructor<;>omega)
 ·rw [encR_k hk]
  have e0:¬ k=0:=by omega
  have e1:¬ k=1:=by omega
  have e2:¬ k=2:=by omega
  have e3:¬ k=3:=by omega
  have e4:¬ k=4:=by omega
  have zS:=jj e0<|jj e1<|jj e2<|jj e3<|e4
  refine dM8 ?_
  repeat (intro K hK)
  clear zS
  refine ⟨by simp,?_⟩
  simp [leaves_iff,Try.f73]
  try exact dt
end Go.AM
namespace Go.AM
open Go Go.Proofs
def prs (n:Nat):En:=(((n%8:Nat):Int),((n/256%4294967296:Nat):Int),n.testBit 3,n.testBit 4,n.testBit 5,n.testBit 6)
def zE:En:=(0,0,false,false,false,false)
def decR (n:Nat):En×Int:=if encR (prs n)=((n:Int),0) then (prs n,0) else (zE,3)
theorem decR_z {n:Nat} (h:encR (prs n)=((n:Int),0)):decR n=(prs n,0):=by unfold decR;rw [if_pos h]
theorem decR_n {n:Nat} (h:¬ encR (prs n)=((n:Int),0)):decR n=(zE,3):=by unfold decR;rw [if_neg h]
theorem fb_zero (b:Bool) {n:Int} (h:n≠0):(fb b n=0)=(b=false):=by
 unfold fb;cases b<;>simp [h]
theorem fb_pos (b:Bool) {n:Int} (h:0<n):(0<fb b n)=(b=true):=by
 unfold fb;cases b<;>simp [h]
theorem and_fb {n:Nat} (hn:n<2^64) {j:Nat} (hj:j<63):bitI .and .u64 (n:Int) ((2^j:Nat):Int)=fb (n.testBit j) ((2^j:Nat):Int):=by
 have hp:2^j<2^64:=Nat.pow_lt_pow_right (by omega) (by omega)
 rw [bitI_and hn hp,and_bit]
 unfold fb
 cases n.testBit j<;>simp
theorem and7 {n:Nat} (hn:n<2^64):bitI .and .u64 (n:Int) 7=((n%8:Nat):Int):=by
 have:=bitI_and (x:=n) (y:=7) hn (by decide)
 rw [show (7:Nat)=2^3 - 1 from rfl,and_mask] at this
 exact this
theorem andF {n:Nat} (hn:n<2^64):bitI .and .u64 ((n:Int)/2^min 8 IntKind.u64.bits) 4294967295=((n/256%4294967296:Nat):Int):=by
 have e:(n:Int)/2^min 8 IntKind.u64.bits=((n/256:Nat):Int):=by
  rw [show (2:Int)^min 8 IntKind.u64.bits=256 by simp [IntKind.bits]]
  omega
 rw [e]
 have:=bitI_and (x:=n/256) (y:=4294967295) (by omega) (by decide)
 rw [show (4294967295:Nat)=2^32 - 1 from rfl,and_mask] at this
 exact this
theorem prs_rng (n:Nat):(0≤(prs n).1∧(prs n).1≤7)∧0≤(prs n).2.1∧(prs n).2.1≤4294967295:=by
 unfold prs
 simp only
 omega
set_option maxHeartbeats 2000000 in
theorem s30 (X:AX) (hX:XOK Try.prog X) (hw:X.W wT) (hen:∀ k f d a x h M n,X.call 73 [.agg [I k,I f,B d,B a,B x,B h]] M n=some (.tup [U (encR (k,f,d,a,x,h)).1,I (encR (k,f,d,a,x,h)).2],[])) :
  PSound Try.prog 30 (specF (ι:={n:Nat // n<2^64}) (fun x=>[U x.1]) fun x=>retOf [EnV (decR x.1).1,I (decR x.1).2]):=by
 refine psound_spec hX mixed Try.func30 rfl fun ⟨n,hn⟩ w0 G=>⟨by show 1≤41;decide,rfl,?_⟩
 show AW ⟨Try.prog,X,41,w0,.pure G⟩ _ _ _
 have hc:Cx.OK ⟨Try.prog,X,41,w0,.pure G⟩:=⟨hX,mixed⟩
 simp only at hn ⊢
 have p1:=and7 hn
 have p2:=andF hn
 have p3:=and_fb hn (j:=3) (by omega)
 have p4:=and_fb hn (j:=4) (by omega)
 have p5:=and_fb hn (j:=5) (by omega)
 have p6:=and_fb hn (j:=6) (by omega)
 simp only [show ((2^3:Nat):Int)=8 from rfl,show ((2^4:Nat):Int)=16 from rfl,show ((2^5:Nat):Int)=32 from rfl,show ((2^6:Nat):Int)=64 from rfl] at p3 p4 p5 p6
 have hrg:=prs_rng n
 have z3:=fb_zero (n.testBit 3) (n:=8) (by omega)
 have z4:=fb_zero (n.testBit 4) (n:=16) (by omega)
 have z5:=fb_zero (n.testBit 5) (n:=32) (by omega)
 have z6:=fb_zero (n.testBit 6) (n:=64) (by omega)
 have y3:=fb_pos (n.testBit 3) (n:=8) (by omega)
 have y4:=fb_pos (n.testBit 4) (n:=16) (by omega)
 have y5:=fb_pos (n.testBit 5) (n:=32) (by omega)
 have y6:=fb_pos (n.testBit 6) (n:=64) (by omega)
 have hdz:=@decR_z n
 have hdn:=@decR_n n
 obtain ⟨⟨k,f,d,a,x,h⟩,he⟩:∃ e,e=prs n:=⟨_,rfl⟩
 rw [← he] at hrg hdz hdn
 unfold prs at he
 simp only [Prod.mk.injEq] at he
 obtain ⟨e1,e2,e3,e4,e5,e6⟩:=he
 rw [← e1] at p1
 rw [← e2] at p2
 rw [← e3] at p3 z3 y3
 rw [← e4] at p4 z4 y4
 rw [← e5] at p5 z5 y5
 rw [← e6] at p6 z6 y6
 clear e1 e2 e3 e4 e5 e6
 simp only at hrg
 have hk:=wrap64 (n:=k) (by omega)
 have hf:=wrap64 (n:=f) (by omega)
 have hen':=hen k f d a x h
 obtain ⟨⟨W,c⟩,hR⟩:∃ r,r=encR (k,f,d,a,x,h):=⟨_,rfl⟩
 rw [← hR] at hen' hdz hdn
 simp only [Prod.mk.injEq] at hdz hdn
 simp only [U] at hen'
 unfold U
 rcases Decidable.em (c=0) with h0|h0
 ·rcases Decidable.em (W=(n:Int)) with h1|h1
  ·rw [hdz ⟨h1,h0⟩]
   subst h1 h0
   have zS:=jj p1<|jj p2<|jj p3<|jj p4<|jj p5<|jj p6<|jj z3<|jj z4<|jj z5<|jj z6<|jj y3<|jj y4<|jj y5<|jj y6<|jj hk<|jj hf<|hen'
   refine dM8 ?_
   repeat (intro K hK)
   clear zS
   refine ⟨by simp,?_⟩
   simp [leaves_iff,Try.f30,EnV]
   try exact dt
  ·rw [hdn fun hh=>h1 hh.1]
   subst h0
   have zS:=jj p1<|jj p2<|jj p3<|jj p4<|jj p5<|jj p6<|jj z3<|jj z4<|jj z5<|jj z6<|jj y3<|jj y4<|jj y5<|jj y6<|jj hk<|jj hf<|jj hen'<|h1
   refine dM8 ?_
   repeat (intro K hK)
   clear zS
   refine ⟨by simp,?_⟩
   simp [leaves_iff,Try.f30,EnV,zE]
   try exact dt
 ·rw [hdn fun hh=>h0 hh.2]
  have zS:=jj p1<|jj p2<|jj p3<|jj p4<|jj p5<|jj p6<|jj z3<|jj z4<|jj z5<|jj z6<|jj y3<|jj y4<|jj y5<|jj y6<|jj hk<|jj hf<|jj hen'<|h0
  refine dM8 ?_
  repeat (intro K hK)
  clear zS
  refine ⟨by simp,?_⟩
  simp [leaves_iff,Try.f30,EnV,zE]
  try exact dt
end Go.AM
namespace Go.AM
open Go Go.Proofs
abbrev Nd:=Int×List Nat
abbrev Dp:=Int×Int
abbrev Tb:=Int×List Nd×List Dp
def wcs (l:List Nat):List AV:=l.map fun w:Nat=>U (w:Int)
theorem wcs_inj:∀ {p q:List Nat},wcs p=wcs q↔p=q
 | [],[]=>by simp
 | [],_::_=>by simp [wcs]
 | _::_,[]=>by simp [wcs]
 | x::p,y::q=>by
  have ih:=wcs_inj (p:=p) (q:=q)
  unfold wcs at ih ⊢
  rw [List.map_cons,List.map_cons,List.cons.injEq,List.cons.injEq,ih]
  simp [U]
  intro _
  omega
@[simp] theorem wcs_len (l:List Nat):(wcs l).length=l.length:=by simp [wcs]
def nrow (n:Nd):List AV:=I n.1::wcs n.2
def nrows (l:List Nd):List (List AV):=l.map nrow
def prows (l:List Dp):List (List AV):=l.map fun m=>[I m.1,I m.2]
def TbV (t:Tb):AV:=.agg [I t.1,.rd 9 (nrows t.2.1),.rd 2 (prows t.2.2)]
def ndOK (n:Nd):Prop:=n.2.length=8∧∀ w∈n.2,w<2^64
def tbOK (t:Tb):Prop:=(∀ n∈t.2.1,ndOK n)∧t.2.1.length≤1000000∧t.2.2.length≤1000000
@[simp] theorem nrows_length (l:List Nd):(nrows l).length=l.length:=by simp [nrows]
@[simp] theorem prows_length (l:List Dp):(prows l).length=l.length:=by simp [prows]
theorem nrow_inj {a b:Nd}:nrow a=nrow b↔a=b:=by
 obtain ⟨a1,a2⟩:=a
 obtain ⟨b1,b2⟩:=b
 simp only [nrow,List.cons.injEq,wcs_inj,Prod.mk.injEq,I,AV.v.injEq,Value.int.injEq,true_and]
theorem nrows_inj {l m:List Nd}:nrows l=nrows m↔l=m:=by
 unfold nrows
 induction l generalizing m with
 | nil=>cases m<;>simp
 | cons x l ih=>cases m with
  | nil=>simp
  | cons y m=>simp [ih,nrow_inj]
theorem prows_inj {l m:List Dp}:prows l=prows m↔l=m:=by
 unfold prows
 induction l generalizing m with
 | nil=>cases m<;>simp
 | cons x l ih=>cases m with
  | nil=>simp
  | cons y m =>
   obtain ⟨x1,x2⟩:=x
   obtain ⟨y1,y2⟩:=y
   simp [ih,I]
theorem TbV_inj {a b:Tb}:TbV a=TbV b↔a=b:=by
 obtain ⟨a1,a2,a3⟩:=a
 obtain ⟨b1,b2,b3⟩:=b
 simp [TbV,I,nrows_inj,prows_inj]
theorem s119 (X:AX) (hX:XOK Try.prog X):PSound Try.prog 119 (specF (ι:=Int) (fun x=>[I x]) fun x=>retOf [B (decide (0≤x∧x≤4294967295))]):=by
 refine psound_spec hX mixed Try.func119 rfl fun x w0 G=>⟨by show 1≤9;decide,rfl,?_⟩
 show AW ⟨Try.prog,X,9,w0,.pure G⟩ _ _ _
 have hc:Cx.OK ⟨Try.prog,X,9,w0,.pure G⟩:=⟨hX,mixed⟩
 rcases Decidable.em (0≤x) with h1|h1
 ·have zS:=h1
  refine dM8 ?_
  repeat (intro K hK)
  clear zS
  refine ⟨by simp,?_⟩
  simp [leaves_iff,Try.f119,h1]
  try exact dt
 ·have zS:=h1
  refine dM8 ?_
  repeat (intro K hK)
  clear zS
  refine ⟨by simp,?_⟩
  simp [leaves_iff,Try.f119,h1]
  try exact dt
def dig (x l:Int):Int:=if l=2 then x/64 else if l=1 then x/8%8 else x%8
end Go.AM
namespace Go.AM
open Go Go.Proofs
def suitB (e:En) (l:Nat):Bool :=
 if e.1=0 then true else if e.1=4 then decide (0<l)
 else if e.1=1 then (if l=0 then !e.2.2.2.2.2 else if l=1 then e.2.2.2.2.2 else false) else decide (l=0)
set_option maxHeartbeats 1000000 in
theorem s70 (X:AX) (hX:XOK Try.prog X) (hw:X.W wT):PSound Try.prog 70 (specF (ι:=En×Nat) (fun x=>[EnV x.1,I x.2]) fun x=>retOf [B (suitB x.1 x.2)]):=by
 refine psound_spec hX mixed Try.func70 rfl fun ⟨⟨k,f,d,a,x,h⟩,l⟩ w0 G=>⟨by show 2≤32;decide,rfl,?_⟩
 show AW ⟨Try.prog,X,32,w0,.pure G⟩ _ _ _
 have hc:Cx.OK ⟨Try.prog,X,32,w0,.pure G⟩:=⟨hX,mixed⟩
 unfold EnV
 simp only
 rcases Decidable.em (k=0) with e0|e0
 ·subst e0
  refine dM8o ?_
  repeat (intro K hK)
  refine ⟨by simp,?_⟩
  simp [leaves_iff,Try.f70,suitB]
  try exact dt
 ·rcases Decidable.em (k=4) with e4|e4
  ·subst e4
   refine dM8o ?_
   repeat (intro K hK)
   refine ⟨by simp,?_⟩
   simp [leaves_iff,Try.f70,suitB]
   try exact dt
  ·rcases Decidable.em (k=1) with e1|e1
   ·subst e1
    rcases (by omega:l=0∨l=1∨(l≠0∧l≠1)) with rfl|rfl|⟨q0,q1⟩
    ·cases h
     ·refine dM8o ?_
      repeat (intro K hK)
      refine ⟨by simp,?_⟩
      simp [leaves_iff,Try.f70,suitB]
      try exact dt
     ·refine dM8o ?_
      repeat (intro K hK)
      refine ⟨by simp,?_⟩
      simp [leaves_iff,Try.f70,suitB]
      try exact dt
    ·cases h
     ·refine dM8o ?_
      repeat (intro K hK)
      refine ⟨by simp,?_⟩
      simp [leaves_iff,Try.f70,suitB]
      try exact dt
     ·refine dM8o ?_
      repeat (intro K hK)
      refine ⟨by simp,?_⟩
      simp [leaves_iff,Try.f70,suitB]
      try exact dt
    ·have z0:¬ (l:Int)=0:=by omega
     have z1:¬ (l:Int)=1:=by omega
     cases h
     ·have zS:=jj q0<|jj q1<|jj z0<|z1
      refine dM8 ?_
      repeat (intro K hK)
      clear zS
      refine ⟨by simp,?_⟩
      simp [leaves_iff,Try.f70,suitB,q0,q1]
      try exact dt
     ·have zS:=jj q0<|jj q1<|jj z0<|z1
      refine dM8 ?_
      repeat (intro K hK)
      clear zS
      refine ⟨by simp,?_⟩
      simp [leaves_iff,Try.f70,suitB,q0,q1]
      try exact dt
   ·have zS:=jj e0<|jj e4<|e1
    refine dM8 ?_
    repeat (intro K hK)
    clear zS
    refine ⟨by simp,?_⟩
    simp [leaves_iff,Try.f70,suitB,e0,e4,e1]
    try exact dt
theorem s143 (X:AX) (hX:XOK Try.prog X) (hw:X.W wT) (hd:∀ n:Nat,n<2^64→∀ M k,X.call 30 [U n] M k=some (.tup [EnV (decR n).1,I (decR n).2],[])) :
  PSound Try.prog 143 (specF (ι:={n:Nat // n<2^64}) (fun x=>[U x.1]) fun x=>retOf [EnV (decR x.1).1]):=by
 refine psound_spec hX mixed Try.func143 rfl fun ⟨n,hn⟩ w0 G=>⟨by show 1≤11;decide,rfl,?_⟩
 show AW ⟨Try.prog,X,11,w0,.pure G⟩ _ _ _
 have hc:Cx.OK ⟨Try.prog,X,11,w0,.pure G⟩:=⟨hX,mixed⟩
 have hn:n<2^64:=hn
 have hd':=hd n hn
 obtain ⟨⟨⟨k,f,d,a,x,h⟩,e⟩,hR⟩:∃ r,r=decR n:=⟨_,rfl⟩
 rw [← hR] at hd' ⊢
 simp only [EnV,U] at hd' ⊢
 have zS:=hd'
 refine dM8 ?_
 repeat (intro K hK)
 clear zS
 refine ⟨by simp,?_⟩
 simp [leaves_iff,Try.f143]
 try exact dt
end Go.AM
namespace Go.AM
open Go Go.Proofs
def gn (l:List Nd) (n:Nat):Nd:=l.getD n (0,[])
def gp (l:List Dp) (n:Nat):Dp:=l.getD n (0,0)
theorem gn_eq {l:List Nd} {n:Nat} (h:n<l.length):gn l n=l[n]:=by
 unfold gn;rw [List.getD_eq_getElem?_getD,List.getElem?_eq_getElem h];rfl
theorem gp_eq {l:List Dp} {n:Nat} (h:n<l.length):gp l n=l[n]:=by
 unfold gp;rw [List.getD_eq_getElem?_getD,List.getElem?_eq_getElem h];rfl
theorem gn_mem {l:List Nd} {n:Nat} (h:n<l.length):gn l n∈l:=by rw [gn_eq h];exact List.getElem_mem h
theorem gp_mem {l:List Dp} {n:Nat} (h:n<l.length):gp l n∈l:=by rw [gp_eq h];exact List.getElem_mem h
theorem nrows_gi {l:List Nd} {n:Nat} (h:n<l.length):(nrows l)[n]?=some (I (gn l n).1::wcs (gn l n).2):=by
 rw [gn_eq h];simp [nrows,nrow,h]
theorem nrows_gE {l:List Nd} {n:Nat} (h:n<l.length):∀ h',(nrows l)[n]'(h')=I (gn l n).1::wcs (gn l n).2:=fun h'=>by
 have hg:=nrows_gi h
 rw [List.getElem?_eq_getElem h'] at hg
 exact Option.some.inj hg
theorem prows_gi {l:List Dp} {n:Nat} (h:n<l.length):(prows l)[n]?=some [I (gp l n).1,I (gp l n).2]:=by
 rw [gp_eq h];simp [prows,h]
theorem prows_gE {l:List Dp} {n:Nat} (h:n<l.length):∀ h',(prows l)[n]'(h')=[I (gp l n).1,I (gp l n).2]:=fun h'=>by
 have hg:=prows_gi h
 rw [List.getElem?_eq_getElem h'] at hg
 exact Option.some.inj hg
def fstG {α:Type} (p:α→Bool) (l:List α):Int:=if l.findIdx p<l.length then (l.findIdx p:Int) else -1
theorem fstG_at {α:Type} {p:α→Bool} {l:List α} {i:Nat} (hi:i<l.length) (hp:p l[i]=true) (hn:∀ j (hj:j<i),p (l[j]'(by omega))=false):fstG p l=i:=by
 have:l.findIdx p=i:=by
  rw [List.findIdx_eq hi]
  exact ⟨hp,fun j hj=>hn j hj⟩
 unfold fstG
 rw [this,if_pos hi]
theorem fstG_not {α:Type} {p:α→Bool} {l:List α} (hn:∀ j (hj:j<l.length),p l[j]=false):fstG p l=-1:=by
 have:l.findIdx p=l.length:=by
  rw [List.findIdx_eq_length]
  intro x hx
  obtain ⟨j,hj,rfl⟩:=List.getElem_of_mem hx
  exact hn j hj
 unfold fstG
 rw [this,if_neg (by omega)]
end Go.AM
namespace Go.AM
open Go Go.Proofs
def frmN (x:Int):Prop:=0≤x∧x≤4294967295
instance (x:Int):Decidable (frmN x):=by unfold frmN;infer_instance
def rngN (ns:List Nd):Prop:=∀ j,j<ns.length→frmN (gn ns j).1
def rngD (ds:List Dp):Prop:=∀ j,j<ds.length→frmN (gp ds j).2∧0≤(gp ds j).1∧(gp ds j).1<64
open Classical in
noncomputable def rngB (t:Tb):Bool:=decide (rngN t.2.1∧rngD t.2.2)
theorem rngB_iff {t:Tb}:rngB t=true↔rngN t.2.1∧rngD t.2.2:=by unfold rngB;simp
theorem rngB_no {t:Tb} (h:¬ (rngN t.2.1∧rngD t.2.2)):rngB t=false:=by
 rw [Bool.eq_false_iff];exact fun hh=>h (rngB_iff.1 hh)
end Go.AM
namespace Go.AM
open Go Go.Proofs
open Classical in
noncomputable def ascB (t:Tb):Bool:=decide ((∀ j,j+1<t.2.1.length→(gn t.2.1 j).1<(gn t.2.1 (j+1)).1)∧∀ j,j+1<t.2.2.length→(gp t.2.2 j).1<(gp t.2.2 (j+1)).1)
theorem ascB_iff {t:Tb}:ascB t=true↔(∀ j,j+1<t.2.1.length→(gn t.2.1 j).1<(gn t.2.1 (j+1)).1)∧∀ j,j+1<t.2.2.length→(gp t.2.2 j).1<(gp t.2.2 (j+1)).1:=by unfold ascB;simp
theorem ascB_no {t:Tb} (h:¬ ((∀ j,j+1<t.2.1.length→(gn t.2.1 j).1<(gn t.2.1 (j+1)).1)∧∀ j,j+1<t.2.2.length→(gp t.2.2 j).1<(gp t.2.2 (j+1)).1)):ascB t=false:=by
 rw [Bool.eq_false_iff];exact fun hh=>h (ascB_iff.1 hh)
end Go.AM
namespace Go.AM
open Go Go.Proofs
theorem fstG_pos {α:Type} {p:α→Bool} {l:List α}:0≤fstG p l↔∃ j,∃ h:j<l.length,p l[j]=true:=by
 constructor
 ·intro h
  unfold fstG at h
  split at h
  ·rename_i hl
   exact ⟨_,hl,List.findIdx_getElem⟩
  ·omega
 ·rintro ⟨j,hj,hp⟩
  have:l.findIdx p<l.length:=List.findIdx_lt_length_of_exists ⟨_,List.getElem_mem hj,hp⟩
  unfold fstG
  rw [if_pos this];omega
def twN (t:Tb) (i:Nat):Prop:=(∃ j,j<t.2.1.length∧(gn t.2.1 j).1=(gp t.2.2 i).2)∨∃ j,j<i∧(gp t.2.2 j).2=(gp t.2.2 i).2
open Classical in
noncomputable def twB (t:Tb):Bool:=decide (∃ i,i<t.2.2.length∧twN t i)
theorem twB_iff {t:Tb}:twB t=true↔∃ i,i<t.2.2.length∧twN t i:=by unfold twB;simp
theorem twB_no {t:Tb} (h:∀ i,i<t.2.2.length→¬ twN t i):twB t=false:=by
 rw [Bool.eq_false_iff]
 intro hh
 obtain ⟨i,hi,h2⟩:=twB_iff.1 hh
 exact h i hi h2
end Go.AM
namespace Go.AM
open Go Go.Proofs
@[simp] theorem tyMap:Types Try.prog 116=some ⟨.map 3 3 (some (.int .i64 0)),1,8,[.map none]⟩:=by kernel_rfl
@[simp] theorem one_map (b:Option Nat):(Value.map b).oneCell'=true:=rfl
def idxE (l:List Nd):Nat→List (List Int×AV)
 | 0=>[]
 | k+1=>mset (idxE l k) [(gn l k).1] (I k)
attribute [simp] hintOK
set_option maxHeartbeats 1000000 in
theorem s68 (X:AX) (hX:XOK Try.prog X) (hw:X.W wT):PSound Try.prog 68 (specF (ι:={x:Tb // tbOK x}) (fun x=>[TbV x.1]) fun x=>retOf [.om 1 (idxE x.1.2.1 x.1.2.1.length)]):=by
 refine psound_spec hX mixed Try.func68 rfl fun ⟨⟨r,ns,ds⟩,ht⟩ w0 G=>⟨by show 1≤24;decide,rfl,?_⟩
 show AW ⟨Try.prog,X,24,w0,.pure G⟩ _ _ _
 have hc:Cx.OK ⟨Try.prog,X,24,w0,.pure G⟩:=⟨hX,mixed⟩
 have hl1:ns.length≤1000000:=ht.2.1
 simp only [TbV]
 repeat' (first|(apply aw_seq_k;intro K hK)|(refine eM64o ?_)|(refine aw_cond (b:=_) (by exact rfl) (fun h=>?_) (fun h=>?_)<;>(try simp at h))|(refine eB ?_)|(refine hK _ ?_;clear hK)|(clear hK;refine hK _ ?_;clear hK)|(clear hK;clear hK;refine hK _ ?_;clear hK)|(clear hK;clear hK;clear hK;refine hK _ ?_;clear hK))
 refine aw_loopK (s0:=?lps1) (m0:=?lpm1) (ι:={i:Nat // i≤ns.length}) [3,11,12] (fun i=>[(13,I i.1)]) (fun i=>[(80,.map 1 1 (idxE ns i.1))]) (fun i=>ns.length - i.1) ⟨0,by omega⟩ ?lhs1 ?lhm1 ?_ ?_
 case lhs1=>first|(simp [keepS];done)|(simp [keepS];rfl)
 case lhm1=>first|rfl|(simp;done)|(simp;rfl)
 ·simp only [idxE]
  exact dle
 ·rintro ⟨i,hi⟩
  simp only
  rcases Decidable.em (i<ns.length) with hil|hil
  ·have hilI:(i:Int)<(ns.length:Int):=by omega
   have hg:=nrows_gi hil
   have hgE:=nrows_gE hil
   have hlen:=(ht.1 _ (gn_mem hil)).1
   have hnx:idxE ns (i+1)=mset (idxE ns i) [(gn ns i).1] (I i):=rfl
   obtain ⟨S,hS⟩:∃ S,S=idxE ns i:=⟨_,rfl⟩
   rw [← hS] at hnx
   rw [← hS]
   obtain ⟨⟨g,ws⟩,hm⟩:∃ m,m=gn ns i:=⟨_,rfl⟩
   rw [← hm] at hg hgE hnx hlen
   simp only at hg hgE hnx hlen
   have zS:=jj hilI<|jj hg<|jj hgE<|hlen
   repeat' (first|(apply aw_seq_k;intro K hK)|(refine eM64 ?_)|(refine aw_cond (b:=_) (by exact rfl) (fun h=>?_) (fun h=>?_)<;>(try simp at h))|(refine eB ?_)|(refine hK _ ?_;clear hK)|(clear hK;refine hK _ ?_;clear hK)|(clear hK;clear hK;refine hK _ ?_;clear hK)|(clear hK;clear hK;clear hK;refine hK _ ?_;clear hK))
   all_goals clear zS
   refine ⟨i+1,?_,by omega,by omega⟩
   simp only [hnx]
   refine le_turn (s1:=?tus2) (m1:=?tum2) [] [1,3,11,12,13] [0,80] ?tua2 ?tub2 ?tuc2 ?tud2 ?tue2 ?tuf2 ?tug2
   case tua2=>first|(simp [keepS];done)|(simp [keepS];rfl)
   case tub2=>first|(simp;done)|(simp;rfl)
   case tuc2=>simp
   case tud2=>simp
   case tue2=>simp
   case tuf2=>simp
   case tug2 =>
    simp [swp,vr]
    exact dle
  ·obtain rfl:i=ns.length:=by omega
   repeat' (first|(apply aw_seq_k;intro K hK)|(refine eM64o ?_)|(refine aw_cond (b:=_) (by exact rfl) (fun h=>?_) (fun h=>?_)<;>(try simp at h))|(refine eB ?_)|(refine hK _ ?_;clear hK)|(clear hK;refine hK _ ?_;clear hK)|(clear hK;clear hK;refine hK _ ?_;clear hK)|(clear hK;clear hK;clear hK;refine hK _ ?_;clear hK))
   refine ⟨by simp,?_⟩
   simp [leaves_iff,Try.f68]
   try exact dt
end Go.AM
namespace Go.AM
structure Wd where
 ok:Nat→Nat→Bool
 tab:Nat→Option Int
 hug:Nat→Bool
 adm:Int→Bool
abbrev NdL:=List (Int×List Nat)
def fnd (ns:NdL) (f:Int):Option Nat:=if ns.findIdx (fun n=>decide (n.1=f))<ns.length then some (ns.findIdx fun n=>decide (n.1=f)) else none
theorem fnd_lt {ns:NdL} {f:Int} {i:Nat} (h:fnd ns f=some i):i<ns.length:=by
 unfold fnd at h
 split at h
 ·simp only [Option.some.injEq] at h;omega
 ·simp at h
def wd (ns:NdL) (n i:Nat):Nat:=(ns.getD n (0,[])).2.getD i 0
abbrev WSt:=List Bool×List Int
section
variable (D:Wd) (ns:NdL)
def kid (w:Nat):Option Nat:=(D.tab w).bind (fnd ns)
def wkF (rc:Nat→Nat→WSt→Bool×WSt) (l n first:Nat):Nat→Nat→WSt→Bool×WSt
 | 0,_,st=>(true,st)
 | k+1,i,st =>
  if D.ok l (wd ns n i)=false then (false,st) else
  if D.hug (wd ns n i)=true∧D.adm (((first+i*8^l)/8:Nat):Int)=false then (false,st) else
  let st1:WSt:=if D.hug (wd ns n i)=true then (st.1,st.2++[(((first+i*8^l)/8:Nat):Int)]) else st
  match D.tab (wd ns n i) with
  | none=>wkF rc l n first k (i+1) st1
  | some g=>match fnd ns g with
   | none=>(false,st1)
   | some nx=>if (rc nx (first+i*8^l) st1).1=true then wkF rc l n first k (i+1) (rc nx (first+i*8^l) st1).2 else (false,(rc nx (first+i*8^l) st1).2)
def wk:Nat→Nat→Nat→WSt→Bool×WSt
 | 0,n,first,st=>if st.1.getD n false=true then (false,st) else wkF D ns (fun _ _ st=>(false,st)) 0 n first 8 0 (st.1.set n true,st.2)
 | l+1,n,first,st=>if st.1.getD n false=true then (false,st) else wkF D ns (wk l) (l+1) n first 8 0 (st.1.set n true,st.2)
def ids:Nat→Nat→List Nat
 | 0,n=>[n]
 | l+1,n=>n::(List.range 8).flatMap fun i=>match kid D ns (wd ns n i) with
  | some nx=>ids l nx
  | none=>[]
def hugs:Nat→Nat→Nat→List Int
 | l,n,first=>(List.range 8).flatMap fun i=>(if D.hug (wd ns n i)=true then [(((first+i*8^l)/8:Nat):Int)] else [])++(match l with
  | 0=>[]
  | l+1=>match kid D ns (wd ns n i) with
   | some nx=>hugs l nx (first+i*8^(l+1))
   | none=>[])
def okW (l n first i:Nat):Prop:=D.ok l (wd ns n i)=true∧(D.hug (wd ns n i)=true→D.adm (((first+i*8^l)/8:Nat):Int)=true)∧∀ g,D.tab (wd ns n i)=some g→∃ nx,fnd ns g=some nx
def good:Nat→Nat→Nat→Prop
 | 0,n,first=>∀ i,i<8→okW D ns 0 n first i
 | l+1,n,first=>∀ i,i<8→okW D ns (l+1) n first i∧∀ nx,kid D ns (wd ns n i)=some nx→good l nx (first+i*8^(l+1))
end
def markL (led:List Bool) (l:List Nat):List Bool:=l.foldl (fun a i=>a.set i true) led
@[simp] theorem markL_nil (led:List Bool):markL led []=led:=rfl
theorem markL_append (led:List Bool) (a b:List Nat):markL led (a++b)=markL (markL led a) b:=by simp [markL]
theorem markL_cons (led:List Bool) (a:Nat) (b:List Nat):markL led (a::b)=markL (led.set a true) b:=rfl
@[simp] theorem markL_len (led:List Bool) (l:List Nat):(markL led l).length=led.length:=by
 unfold markL
 induction l generalizing led with
 | nil=>rfl
 | cons a l ih=>simp [ih]
theorem set_getD (led:List Bool) {i:Nat} (j:Nat) (hi:i<led.length):(led.set i true).getD j false=(decide (i=j)||led.getD j false):=by
 simp only [List.getD_eq_getElem?_getD,List.getElem?_set]
 by_cases e:i=j
 ·subst e;simp [hi]
 ·simp [e]
theorem markL_getD {led:List Bool}:∀ {l:List Nat} {j:Nat},(∀ i∈l,i<led.length)→(markL led l).getD j false=(decide (j∈l)||led.getD j false):=by
 intro l
 induction l generalizing led with
 | nil=>intro j _;simp
 | cons a l ih =>
  intro j h
  rw [markL_cons,ih (led:=led.set a true) (by intro i hi;simp;exact h i (by simp [hi])),set_getD led j (h a (by simp))]
  by_cases e:a=j
  ·subst e;simp
  ·have:¬ j=a:=fun h=>e h.symm
   simp [e,this]
section
variable {D:Wd} {ns:NdL}
theorem kid_lt {w n:Nat} (h:kid D ns w=some n):n<ns.length:=by
 unfold kid at h
 cases ht:D.tab w with
 | none=>simp [ht] at h
 | some g=>simp [ht] at h;exact fnd_lt h
theorem ids_lt:∀ {l n:Nat},n<ns.length→∀ i∈ids D ns l n,i<ns.length
 | 0,n,h,i,hi=>by simp only [ids,List.mem_singleton] at hi;omega
 | l+1,n,h,i,hi=>by
  simp only [ids,List.mem_cons,List.mem_flatMap] at hi
  rcases hi with rfl|⟨j,_,hi⟩
  ·exact h
  ·split at hi
   ·rename_i nx hk
    exact ids_lt (kid_lt hk) i hi
   ·simp at hi
def RcOK (D:Wd) (ns:NdL) (rc:Nat→Nat→WSt→Bool×WSt) (gd:Nat→Nat→Prop) (is:Nat→List Nat) (hs:Nat→Nat→List Int):Prop :=
 ∀ n first st,n<ns.length→st.1.length=ns.length →
  (((rc n first st).1=true↔gd n first∧(is n).Nodup∧∀ i∈is n,st.1.getD i false=false)∧((rc n first st).1=true→(rc n first st).2=(markL st.1 (is n),st.2++hs n first)))
def subI (D:Wd) (ns:NdL) (is:Nat→List Nat) (n:Nat) (i:Nat):List Nat:=match kid D ns (wd ns n i) with
 | some nx=>is nx
 | none=>[]
def subH (D:Wd) (ns:NdL) (hs:Nat→Nat→List Int) (l n first i:Nat):List Int:=(if D.hug (wd ns n i)=true then [(((first+i*8^l)/8:Nat):Int)] else [])++match kid D ns (wd ns n i) with
 | some nx=>hs nx (first+i*8^l)
 | none=>[]
theorem wkF_ok {rc:Nat→Nat→WSt→Bool×WSt} {gd:Nat→Nat→Prop} {is:Nat→List Nat} {hs:Nat→Nat→List Int} (hrc:RcOK D ns rc gd is hs) (hlt:∀ n,n<ns.length→∀ i∈is n,i<ns.length) {l n first:Nat} :
  ∀ {k i:Nat} {st:WSt},st.1.length=ns.length →
  (((wkF D ns rc l n first k i st).1=true↔(∀ j,i≤j→j<i+k→okW D ns l n first j∧∀ nx,kid D ns (wd ns n j)=some nx→gd nx (first+j*8^l)) ∧
    ((List.range' i k).flatMap (subI D ns is n)).Nodup∧∀ j∈(List.range' i k).flatMap (subI D ns is n),st.1.getD j false=false) ∧
   ((wkF D ns rc l n first k i st).1=true→(wkF D ns rc l n first k i st).2=(markL st.1 ((List.range' i k).flatMap (subI D ns is n)),st.2++(List.range' i k).flatMap (subH D ns hs l n first)))):=by
 intro k
 induction k with
 | zero =>
  intro i st hl
  simp only [wkF,true_iff,List.range'_zero,List.flatMap_nil]
  exact ⟨⟨fun j h1 h2=>by omega,List.nodup_nil,by simp⟩,fun _=>by simp⟩
 | succ k ih =>
  intro i st hl
  simp only [wkF,List.range'_succ,List.flatMap_cons]
  cases hok:D.ok l (wd ns n i) with
  | false =>
   simp only [if_true]
   constructor
   ·constructor
    ·intro h;simp at h
    ·rintro ⟨h,_⟩
     have:=(h i (Nat.le_refl _) (by omega)).1.1
     rw [hok] at this;simp at this
   ·intro h;simp at h
  | true =>
   simp only [Bool.true_eq_false,if_false]
   rcases Decidable.em (D.hug (wd ns n i)=true∧D.adm (((first+i*8^l)/8:Nat):Int)=false) with had|had
   ·rw [if_pos had]
    refine ⟨⟨fun h=>by simp at h,fun h=>?_⟩,fun h=>by simp at h⟩
    have:=(h.1 i (Nat.le_refl _) (by omega)).1.2.1 had.1
    rw [had.2] at this;simp at this
   rw [if_neg had]
   have had':D.hug (wd ns n i)=true→D.adm (((first+i*8^l)/8:Nat):Int)=true:=fun h=>by
    cases ha:D.adm (((first+i*8^l)/8:Nat):Int) with
    | true=>rfl
    | false=>exact absurd ⟨h,ha⟩ had
   obtain ⟨st1,hst1⟩:∃ st1:WSt,st1=(if D.hug (wd ns n i)=true then (st.1,st.2++[(((first+i*8^l)/8:Nat):Int)]) else st):=⟨_,rfl⟩
   rw [← hst1]
   have e1:st1.1=st.1:=by subst hst1;split<;>rfl
   have e2:st1.2=st.2++(if D.hug (wd ns n i)=true then [(((first+i*8^l)/8:Nat):Int)] else []):=by subst hst1;split<;>simp
   cases ht:D.tab (wd ns n i) with
   | none =>
    have hk:kid D ns (wd ns n i)=none:=by unfold kid;rw [ht];rfl
    have hsI:subI D ns is n i=[]:=by unfold subI;rw [hk]
    have hsH:subH D ns hs l n first i=(if D.hug (wd ns n i)=true then [(((first+i*8^l)/8:Nat):Int)] else []):=by unfold subH;rw [hk];simp
    have:=ih (i:=i+1) (st:=st1) (by rw [e1];exact hl)
    simp only [hsI,List.nil_append,hsH]
    rw [e1,e2,List.append_assoc] at this
    refine ⟨this.1.trans ?_,this.2⟩
    refine and_congr_left fun _=>?_
    constructor
    ·intro h j h1 h2
     by_cases e:j=i
     ·subst e;exact ⟨⟨hok,had',by simp [ht]⟩,by simp [hk]⟩
     ·exact h j (by omega) (by omega)
    ·intro h j h1 h2
     exact h j (by omega) (by omega)
   | some g =>
    simp only
    cases hf:fnd ns g with
    | none =>
     simp only
     constructor
     ·constructor
      ·intro h;simp at h
      ·rintro ⟨h,_⟩
       obtain ⟨nx,h2⟩:=(h i (Nat.le_refl _) (by omega)).1.2.2 g ht
       rw [hf] at h2;simp at h2
     ·intro h;simp at h
    | some nx =>
     have hk:kid D ns (wd ns n i)=some nx:=by unfold kid;rw [ht];exact hf
     have hsI:subI D ns is n i=is nx:=by unfold subI;rw [hk]
     have hsH:subH D ns hs l n first i=(if D.hug (wd ns n i)=true then [(((first+i*8^l)/8:Nat):Int)] else [])++hs nx (first+i*8^l):=by unfold subH;rw [hk]
     have hnx:=kid_lt hk
     have h1:=hrc nx (first+i*8^l) st1 hnx (by rw [e1];exact hl)
     rw [e1,e2] at h1
     simp only
     obtain ⟨R,hR⟩:∃ R,R=rc nx (first+i*8^l) st1:=⟨_,rfl⟩
     rw [← hR] at h1 ⊢
     rw [hsI,hsH]
     cases hb:R.1 with
     | false =>
      rw [hb] at h1
      simp only [Bool.false_eq_true,if_false,false_iff]
      refine ⟨?_,fun h=>h.elim⟩
      rintro ⟨h2,h3,h4⟩
      refine absurd (h1.1.2 ⟨(h2 i (Nat.le_refl _) (by omega)).2 nx hk,(List.nodup_append.1 h3).1,fun j hj=>h4 j (by simp [hj])⟩) (by simp)
     | true =>
      rw [hb] at h1
      obtain ⟨⟨g1,g2,g3⟩,g4⟩:=And.intro (h1.1.1 rfl) (h1.2 rfl)
      simp only [if_true]
      have h5:=ih (i:=i+1) (st:=R.2) (by rw [g4];simp [hl])
      rw [g4] at h5 ⊢
      simp only at h5
      have hin:∀ j∈is nx,j<st.1.length:=by rw [hl];exact hlt nx hnx
      rw [← markL_append] at h5
      simp only [List.append_assoc] at h5 ⊢
      refine ⟨h5.1.trans ?_,h5.2⟩
      constructor
      ·rintro ⟨a1,a2,a3⟩
       refine ⟨fun j q1 q2=>?_,?_,fun j hj=>?_⟩
       ·by_cases e:j=i
        ·subst e
         refine ⟨⟨hok,had',fun g' hg'=>?_⟩,fun nx' hnx'=>?_⟩
         ·rw [ht] at hg';simp only [Option.some.injEq] at hg';subst hg';exact ⟨nx,hf⟩
         ·rw [hk] at hnx';simp only [Option.some.injEq] at hnx';subst hnx';exact g1
        ·exact a1 j (by omega) (by omega)
       ·refine List.nodup_append.2 ⟨g2,a2,fun a ha b hb e=>?_⟩
        subst e
        have:=a3 a hb
        rw [markL_getD hin] at this
        simp [ha] at this
       ·rcases List.mem_append.1 hj with hj|hj
        ·exact g3 j hj
        ·have:=a3 j hj
         rw [markL_getD hin] at this
         simp only [Bool.or_eq_false_iff] at this
         exact this.2
      ·rintro ⟨a1,a2,a3⟩
       have a2':=List.nodup_append.1 a2
       refine ⟨fun j q1 q2=>a1 j (by omega) (by omega),a2'.2.1,fun j hj=>?_⟩
       rw [markL_getD hin,a3 j (by simp [hj])]
       simp only [Bool.or_false,decide_eq_false_iff_not]
       exact fun h=>a2'.2.2 j h j hj rfl
theorem wk_ok (hz:∀ w,D.ok 0 w=true→D.tab w=none):∀ {l:Nat},RcOK D ns (wk D ns l) (good D ns l) (ids D ns l) (hugs D ns l)
 | 0=>fun n first st hn hl=>by
  have hrc:RcOK D ns (fun _ _ st=>(false,st)) (fun _ _=>False) (fun _=>[]) (fun _ _=>[]):=fun n first st _ _=>by simp
  have h1:=wkF_ok hrc (fun n hn=>by simp) (l:=0) (n:=n) (first:=first) (k:=8) (i:=0) (st:=(st.1.set n true,st.2)) (by simpa using hl)
  simp only [wk]
  cases hb:st.1.getD n false with
  | true =>
   simp only [if_true]
   refine ⟨⟨fun h=>by simp at h,fun h=>?_⟩,fun h=>by simp at h⟩
   have:=h.2.2 n (by simp [ids])
   rw [hb] at this;simp at this
  | false =>
   simp only [Bool.false_eq_true,if_false]
   have hr:List.range' 0 8=List.range 8:=List.range_eq_range'.symm
   rw [hr] at h1
   have e1:(List.range 8).flatMap (subI D ns (fun _=>[]) n)=[]:=by
    rw [List.flatMap_eq_nil_iff]
    intro x _
    unfold subI
    split<;>rfl
   have e2:(List.range 8).flatMap (subH D ns (fun _ _=>[]) 0 n first)=hugs D ns 0 n first:=by
    unfold subH hugs
    congr 1
    funext i
    congr 1
    split<;>rfl
   rw [e1,e2] at h1
   have e3:ids D ns 0 n=[n]:=rfl
   rw [e3]
   refine ⟨h1.1.trans ?_,fun h=>by rw [h1.2 h];simp [markL]⟩
   simp only [good]
   constructor
   ·rintro ⟨a1,_,_⟩
    refine ⟨fun i hi=>(a1 i (by omega) (by omega)).1,by simp,by simpa using hb⟩
   ·rintro ⟨a1,_,_⟩
    refine ⟨fun j _ hj=>⟨a1 j (by omega),fun nx h=>?_⟩,by simp,by simp⟩
    have:=hz _ (a1 j (by omega)).1
    unfold kid at h
    rw [this] at h
    simp at h
 | l+1=>fun n first st hn hl=>by
  have h1:=wkF_ok (wk_ok hz (l:=l)) (fun n hn=>ids_lt hn) (l:=l+1) (n:=n) (first:=first) (k:=8) (i:=0) (st:=(st.1.set n true,st.2)) (by simpa using hl)
  simp only [wk]
  cases hb:st.1.getD n false with
  | true =>
   simp only [if_true]
   refine ⟨⟨fun h=>by simp at h,fun h=>?_⟩,fun h=>by simp at h⟩
   have:=h.2.2 n (by simp [ids])
   rw [hb] at this;simp at this
  | false =>
   simp only [Bool.false_eq_true,if_false]
   have hr:List.range' 0 8=List.range 8:=List.range_eq_range'.symm
   rw [hr] at h1
   have hset:∀ j,(st.1.set n true).getD j false=(decide (n=j)||st.1.getD j false):=fun j=>set_getD _ j (by omega)
   have e1:(List.range 8).flatMap (subI D ns (ids D ns l) n)=(List.range 8).flatMap fun i=>match kid D ns (wd ns n i) with
    | some nx=>ids D ns l nx
    | none=>[]:=rfl
   have e2:(List.range 8).flatMap (subH D ns (hugs D ns l) (l+1) n first)=hugs D ns (l+1) n first:=rfl
   have e3:ids D ns (l+1) n=n::(List.range 8).flatMap (subI D ns (ids D ns l) n):=rfl
   rw [e2] at h1
   rw [e3,markL_cons,List.nodup_cons]
   refine ⟨h1.1.trans ?_,h1.2⟩
   simp only [good]
   constructor
   ·rintro ⟨a1,a2,a3⟩
    refine ⟨fun i hi=>a1 i (by omega) (by omega),⟨fun hm=>?_,a2⟩,fun i hi=>?_⟩
    ·have:=a3 n hm
     rw [hset] at this;simp at this
    ·rcases List.mem_cons.1 hi with rfl|hi
     ·exact hb
     ·have:=a3 i hi
      rw [hset] at this
      simp only [Bool.or_eq_false_iff] at this
      exact this.2
   ·rintro ⟨a1,a2,a3⟩
    refine ⟨fun j _ hj=>a1 j (by omega),a2.2,fun j hj=>?_⟩
    rw [hset,a3 j (by simp [hj])]
    simp only [Bool.or_false,decide_eq_false_iff_not]
    rintro rfl
    exact a2.1 hj
end
end Go.AM
