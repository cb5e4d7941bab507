/- A part of the proof. -/
import Derived.Test.YtcfhmdljeeppfaaGreatGAmW
import Derived.Test.YtcfhmdljeeppfaaGreatProg
import Derived.ProofKit
import Derived.Laws.StructEq
import Derived.ChangeKeysEq
import Derived.Test.YtcfhmdljeeppfaaGreatGAmG
set_option linter.all false
namespace Go.AM
open Go Go.Proofs Tryz
@[simp] theorem ty3:za prog 3=some ⟨.int .i64,1,8,[.int .i64 0]⟩:=by kernel_rfl
@[simp] theorem ty4:za prog 4=some ⟨.bool,1,1,[.bool false]⟩:=by kernel_rfl
@[simp] theorem tyU:za prog 76=some ⟨.int .u64,1,8,[.int .u64 0]⟩:=by kernel_rfl
@[simp] theorem tyE:za prog 103=some ⟨.struct [(0,3,1),(1,3,1),(2,4,1),(3,4,1),(4,4,1),(5,4,1)],6,24,[.int .i64 0,.int .i64 0,.bool false,.bool false,.bool false,.bool false]⟩:=by kernel_rfl
@[simp] theorem zA4:za prog 63=some ⟨.struct [(0,3,1),(1,60,1),(2,61,1)],3,56,[.int .i64 0,.slice none 0 0,.slice none 0 0]⟩:=by kernel_rfl
@[simp] theorem zCE:za prog 60=some ⟨.slice 150,1,24,[.slice none 0 0]⟩:=by kernel_rfl
@[simp] theorem zA8:za prog 61=some ⟨.slice 170,1,24,[.slice none 0 0]⟩:=by kernel_rfl
@[simp] theorem tyN:za prog 150=some ⟨.struct [(0,3,1),(1,148,8)],9,72,.int .i64 0::List.replicate 8 (.int .u64 0)⟩:=by kernel_rfl
@[simp] theorem zA3:za prog 148=some ⟨.array 8 76,8,64,List.replicate 8 (.int .u64 0)⟩:=by kernel_rfl
@[simp] theorem tyD:za prog 170=some ⟨.struct [(0,3,1),(1,3,1)],2,16,[.int .i64 0,.int .i64 0]⟩:=by kernel_rfl
@[simp] theorem zCF:za prog 89=some ⟨.slice 3,1,24,[.slice none 0 0]⟩:=by kernel_rfl
@[simp] theorem zCH:za prog 177=some ⟨.slice 4,1,24,[.slice none 0 0]⟩:=by kernel_rfl
@[simp] theorem zCC:za prog 173=some ⟨.struct [(0,3,1),(1,3,1),(2,76,1)],3,24,[.int .i64 0,.int .i64 0,.int .u64 0]⟩:=by kernel_rfl
theorem mixed:prog.follows .mixedOrders=true:=by kernel_rfl
theorem okc {X:AX} (h:XOK prog X) (N:Nat) (w0:World) (G:Nat->Prop):Cx.OK ⟨prog,X,N,w0,.pure G⟩:=⟨h,mixed⟩
theorem zzk:prog.underlying 3=some (.int .i64):=by kernel_rfl
noncomputable section
set_option maxRecDepth 20000
def ztb (t:TypeId):Value->Prop
 | .int q _=>prog.underlying t=some (.int q)
 | .bool _=>prog.underlying t=some .bool
 | _=>False
def zxD (t:TypeId):Value->Bool
 | .int q _=>match prog.underlying t with
  | some (.int q')=>decide (q'=q)
  | _=>false
 | .bool _=>match prog.underlying t with
  | some .bool=>true
  | _=>false
 | _=>false
theorem zsq {t:TypeId} {v:Value} (h:zxD t v=true):ztb t v:=by
 cases v<;>simp only [zxD,Bool.false_eq_true] at h;all_goals (split at h<;>simp only [Bool.false_eq_true,decide_eq_true_eq] at h)
 ·assumption
 ·subst h;assumption
def plB:List Field->Nat->List Value->Bool
 | [],_,[]=>true
 | f :: fs, k, z :: Z => (f.name != "_" && decide (f.offset = k) && prog.plainKey f.type && zxD f.type z) && plB fs (k + 1) Z
 | _,_,_=>false
def PlF:List Field->Nat->List Value->Prop
 | [],_,[]=>True
 | f :: fs, k, z :: Z => (f.name ≠ "_" ∧ f.offset = k ∧ prog.plainKey f.type = true ∧ ztb f.type z) ∧ PlF fs (k + 1) Z
 | _,_,_=>False
theorem ziO:∀ {fs:List Field} {k:Nat} {Z:List Value},plB fs k Z=true->PlF fs k Z
 | [],_,[],_=>trivial
 | f::fs,k,z::Z,h=>by
  simp only [plB,Bool.and_eq_true,bne_iff_ne,decide_eq_true_eq] at h;obtain ⟨⟨⟨⟨h1,h2⟩,h3⟩,h4⟩,h5⟩:=h;exact ⟨⟨h1,h2,h3,zsq h4⟩,ziO h5⟩
 | [],_,_::_,h=>by simp [plB] at h
 | _::_,_,[],h=>by simp [plB] at h
theorem eqG (w:World):∀ {Z:List Value} {fs:List Field} {k:Nat},PlF fs k Z->∀ {px py xs ys:List Value} {b:Bool},px.length=k->py.length=k->zaQ Z xs=true->eqV xs ys=some b ->
  (Op.eqFields 9999 (px++xs).toArray (py++ys).toArray fs).run prog w=.ok b w
 | [],[],k,_,px,py,xs,ys,b,_,_,hs,he=>by
  cases xs with
  | nil =>
   cases ys with
   | nil=>simp [eqV] at he;subst he;rfl
   | cons y ys=>simp [eqV] at he
  | cons x xs=>simp [zaQ] at hs
 | z::Z,f::fs,k,h,px,py,xs,ys,b,hp,hq,hs,he=>by
  simp only [PlF] at h;obtain ⟨⟨n1,o1,p1,t1⟩,h⟩:=h;cases xs with
  | nil=>cases z<;>simp [zaQ] at hs
  | cons x xs =>
   cases ys with
   | nil=>cases x<;>simp [eqV] at he
   | cons y ys =>
    have hx:(px++x::xs).toArray[k]?=some x:=by simp [<- hp]
    have hy:(py++y::ys).toArray[k]?=some y:=by simp [<- hq]
    have ex:px++x::xs=(px++[x])++xs:=by simp
    have ey:py++y::ys=(py++[y])++ys:=by simp
    simp only [Op.eqFields];rw [if_pos n1,o1];simp only [Sem.run_bind];rw [run_part_plain w p1 hx];simp only [Result.andThen_ok];rw [run_part_plain w p1 hy];simp only [Result.andThen_ok];cases z<;>simp only [ztb] at t1<;>cases x<;>simp only [zaQ,Bool.and_eq_true,decide_eq_true_eq,Bool.false_eq_true] at hs<;>cases y<;>simp only [eqV,reduceCtorEq] at he
    ·rename_i b1 b2 b3;cases hr:eqV xs ys with
     | none=>simp [hr] at he
     | some r =>
      simp only [hr,Option.map_some,oJ] at he;have ih:=eqG w h (px:=px++[.bool b2]) (py:=py++[.bool b3]) (by simp [hp]) (by simp [hq]) hs hr;rw [<- ex,<- ey] at ih;rw [run_equalIn_bool' w _ f.type _ _ t1];simp only [Result.andThen_ok];by_cases e:(b2 == b3)=true
      ·simp only [e,Bool.not_true,Bool.false_eq_true,if_false,ih,Bool.true_and] at he ⊢;rw [he]
      ·simp only [Bool.not_eq_true] at e;simp only [e,Bool.false_and] at he ⊢;simp [<- he]
    ·rename_i q0 n0 q1 n1' q2 n2;split at he
     case isFalse=>simp at he
     rename_i hk;subst hk;obtain ⟨rfl,hs⟩:=hs;cases hr:eqV xs ys with
     | none=>simp [hr] at he
     | some r =>
      simp only [hr,Option.map_some,oJ] at he;have ih:=eqG w h (px:=px++[.int q0 n1']) (py:=py++[.int q0 n2]) (by simp [hp]) (by simp [hq]) hs hr;rw [<- ex,<- ey] at ih;rw [run_equalIn_int w _ f.type q0 q0 _ _ t1];simp only [Result.andThen_ok];by_cases e:n1'=n2
      ·subst e;simp only [beq_self_eq_true,Bool.not_true,Bool.false_eq_true,if_false,ih,decide_true,Bool.true_and] at he ⊢;rw [he]
      ·have hb:(n1' == n2)=false:=by simpa using e
       simp only [hb,Bool.not_false,if_true,Sem.run_pure];simp only [e,decide_false,Bool.false_and] at he;rw [<- he]
 | [],_::_,_,h,_,_,_,_,_,_,_,_,_=>by simp [PlF] at h
 | _::_,[],_,h,_,_,_,_,_,_,_,_,_=>by simp [PlF] at h
theorem ckP {w:World} {t:TypeId} {v:Value} {b:Bool} {d:Nat} (h:prog.plainKey t=true) (hv:ztb t v):(Instr.checkKey b (d+1) t v).run prog w=.ok () w:=by cases v<;>simp only [ztb] at hv<;>(rw [Instr.checkKey];simp [run_underlying hv])
theorem ckG (w:World) (em:Bool) (d:Nat):∀ {Z:List Value} {fs:List Field} {k:Nat},PlF fs k Z->∀ {px xs:List Value},px.length=k->zaQ Z xs=true ->
  (forIn fs PUnit.unit fun f (_ : PUnit) => (if f.name ≠ "_" then do
    let a <- part f.type (px++xs).toArray f.offset
    Instr.checkKey em (d+1) f.type a
    pure (ForInStep.yield PUnit.unit)
   else pure (ForInStep.yield PUnit.unit):Sem (ForInStep PUnit))).run prog w=.ok PUnit.unit w
 | [],[],k,_,px,xs,_,_=>rfl
 | z::Z,f::fs,k,h,px,xs,hp,hs=>by
  simp only [PlF] at h;obtain ⟨⟨n1,o1,p1,t1⟩,h⟩:=h;cases xs with
  | nil=>cases z<;>simp [zaQ] at hs
  | cons x xs =>
   have hx:(px++x::xs).toArray[k]?=some x:=by simp [<- hp]
   have ex:px++x::xs=(px++[x])++xs:=by simp
   have key:zaQ Z xs=true∧ztb f.type x:=by
    clear hx ex;cases z<;>simp only [ztb] at t1<;>cases x<;>simp only [zaQ,Bool.and_eq_true,decide_eq_true_eq,Bool.false_eq_true] at hs
    ·exact ⟨hs,t1⟩
    ·obtain ⟨rfl,hs⟩:=hs;exact ⟨hs,t1⟩
   have ih:=ckG w em d h (px:=px++[x]) (xs:=xs) (by simp [hp]) key.1;rw [<- ex] at ih;simp only [List.forIn_cons,Sem.run_bind];rw [if_pos n1,o1];simp only [Sem.run_bind];rw [run_part_plain w p1 hx];simp only [Result.andThen_ok,ckP p1 key.2,Sem.run_pure];exact ih
 | [],_::_,_,h,_,_,_,_=>by simp [PlF] at h
 | _::_,[],_,h,_,_,_,_=>by simp [PlF] at h
theorem zdp {t:TypeId} (hu:prog.underlying t=some (.struct (prog.fieldsOf t))) (hf:∀ d,za prog t=some d->PlF (prog.fieldsOf t).toList 0 d.zero) (hp:prog.stoodInHeld t=false) (hg:prog.eqGuardType prog.depth t=false):zqt prog t:=by
 intro d hd;refine ⟨fun w xs b hk=>?_,fun w xs ys b hk he=>⟨?_,hg⟩⟩
 ·rw [show (10000:Nat)=9998+1+1 from rfl,Instr.checkKey];simp only [Sem.run_bind,run_underlying hu,Result.andThen_ok];rw [<- Array.forIn_toList];have:=ckG w b 9998 (hf d hd) (px:=[]) rfl hk;rw [List.nil_append] at this;rw [this];rfl
 ·unfold Op.equal;rw [show Op.maxDepth=9999+1 from rfl,run_equalIn_agg w _ t _ _ hu hp];have:=eqG w (hf d hd) (px:=[]) (py:=[]) rfl rfl hk he;simpa using this
theorem eqE:zqt prog 103:=zdp (by kernel_rfl) (fun d hd=>by rw [tyE,oJ] at hd;subst hd;exact ziO (by kernel_rfl)) (by kernel_rfl) (by kernel_rfl)
theorem eqD:zqt prog 170:=zdp (by kernel_rfl) (fun d hd=>by rw [tyD,oJ] at hd;subst hd;exact ziO (by kernel_rfl)) (by kernel_rfl) (by kernel_rfl)
theorem zCp:zqt prog 86:=zdp (by kernel_rfl) (fun d hd=>by
 have h:za prog 86=some ⟨.struct [(0,3,1),(1,76,1)],2,16,[.int .i64 0,.int .u64 0]⟩:=by kernel_rfl
 rw [h,oJ] at hd;subst hd;exact ziO (by kernel_rfl)) (by kernel_rfl) (by kernel_rfl)
end
abbrev En:=Int×Int×Bool×Bool×Bool×Bool
def EnV (e:En):AV:=.agg [I e.1,I e.2.1,B e.2.2.1,B e.2.2.2.1,B e.2.2.2.2.1,B e.2.2.2.2.2]
def U (n:Int):AV:=.v (.int .u64 n)
theorem zkM {a b:En}:EnV a=EnV b↔a=b:=by obtain ⟨a1,a2,a3,a4,a5,a6⟩:=a;obtain ⟨b1,b2,b3,b4,b5,b6⟩:=b;simp [EnV,I,B]
def zpv (e:En):Bool:=!e.2.2.1&&(!e.2.2.2.1&&(!e.2.2.2.2.1&&!e.2.2.2.2.2))
def zhX (e:En):Bool :=if e.1=1 then true
 else if e.1=3 then !e.2.2.2.1&&(!e.2.2.2.2.1&&!e.2.2.2.2.2)
 else if e.1=0 then decide (e.2.1=0)&&zpv e
 else if e.1=2∨e.1=4 then zpv e else false
def wT (f:FuncId):Bool:=Nat.beq f 116||Nat.beq f 123||Nat.beq f 186||Nat.beq f 129||Nat.beq f 130||Nat.beq f 135||Nat.beq f 138||Nat.beq f 149||Nat.beq f 147||Nat.beq f 214||Nat.beq f 125||Nat.beq f 153||Nat.beq f 140||Nat.beq f 192||Nat.beq f 190||Nat.beq f 60||Nat.beq f 189||Nat.beq f 191||Nat.beq f 188||Nat.beq f 141||Nat.beq f 193||Nat.beq f 148||Nat.beq f 136||Nat.beq f 144||Nat.beq f 146||Nat.beq f 183||Nat.beq f 210||Nat.beq f 208||Nat.beq f 999999||Nat.beq f 999999||Nat.beq f 70||Nat.beq f 71||Nat.beq f 72||Nat.beq f 155||Nat.beq f 16||Nat.beq f 74||Nat.beq f 75||Nat.beq f 24||Nat.beq f 203||Nat.beq f 205||Nat.beq f 999999||Nat.beq f 999999||Nat.beq f 84||Nat.beq f 88||Nat.beq f 85||Nat.beq f 82
def fb (b:Bool) (n:Int):Int:=if b then n else 0
theorem zBB (X:AX) (hX:XOK prog X):PSd prog 196 (spF (ι:=Bool×Int) (fun x=>[B x.1,U x.2]) fun x=>rtO [U (fb x.1 x.2)]):=by
 refine psS hX mixed func196 rfl fun ⟨b,n⟩ w0 G=>⟨by show 2<=7;decide,rfl,?_⟩
 show AW ⟨prog,X,7,w0,.pure G⟩ _ _ _;have hc:=okc hX 7 w0 G;unfold U;cases b
 ·refine zq2 ?_;repeat (intro K hK)
  refine ⟨by simp,?_⟩;simp [lvI,f196,fb];try exact dt
 ·refine zq2 ?_;repeat (intro K hK)
  refine ⟨by simp,?_⟩;simp [lvI,f196,fb];try exact dt
set_option maxHeartbeats 1000000 in
theorem zBC (X:AX) (hX:XOK prog X) (hw:X.W wT) (he:X.eqs 103=true):PSd prog 195 (spF (ι:={e:En // 0<=e.1∧e.1<=4}) (fun x=>[EnV x.1]) fun x=>rtO [B (zhX x.1)]):=by
 refine psS hX mixed func195 rfl fun ⟨⟨k,f,d,a,x,h⟩,hk1,hk2⟩ w0 G=>⟨by show 1<=32;decide,rfl,?_⟩
 show AW ⟨prog,X,32,w0,.pure G⟩ _ _ _;have hc:=okc hX 32 w0 G;simp only at hk1 hk2;unfold EnV;simp only;have hk:k=0∨k=1∨k=2∨k=3∨k=4:=by omega
 rcases hk with rfl|rfl|rfl|rfl|rfl
 ·have zS:=jj he<|jj ziu<|zbi;refine dM8 ?_;repeat (intro K hK)
  clear zS;refine ⟨by simp,?_⟩;simp [lvI,f195,zhX,zpv];try exact dt
 ·have zS:=jj he<|jj ziu<|zbi;refine dM8 ?_;repeat (intro K hK)
  clear zS;refine ⟨by simp,?_⟩;simp [lvI,f195,zhX,zpv];try exact dt
 ·have zS:=jj he<|jj ziu<|zbi;refine dM8 ?_;repeat (intro K hK)
  clear zS;refine ⟨by simp,?_⟩;simp [lvI,f195,zhX,zpv];try exact dt
 ·have zS:=jj he<|jj ziu<|zbi;refine dM8 ?_;repeat (intro K hK)
  clear zS;refine ⟨by simp,?_⟩;simp [lvI,f195,zhX,zpv];try exact dt
 ·have zS:=jj he<|jj ziu<|zbi;refine dM8 ?_;repeat (intro K hK)
  clear zS;refine ⟨by simp,?_⟩;simp [lvI,f195,zhX,zpv];try exact dt
end Go.AM
namespace Go.AM
open Go
theorem ztK {n:Nat} (h:n<2^64):IntKind.u64.wrap (n:Int)=n:=by
 have:(2:Nat)^64=18446744073709551616:=by decide
 simp [IntKind.wrap,IntKind.signed,IntKind.bits];omega
theorem zhr {n:Nat} (h:n<2^64):(BitVec.ofInt 64 (n:Int)).toNat=n:=by rw [BitVec.toNat_ofInt];omega
theorem zoI {x y j:Nat} (hx:x<2^j) (h:x+y*2^j<2^64):zdI .or .u64 (x:Int) ((y*2^j:Nat):Int)=((x+y*2^j:Nat):Int):=by
 unfold zdI;have e:(BitVec.ofInt 64 (x:Int) ||| BitVec.ofInt 64 ((y*2^j:Nat):Int)).toNat=x+y*2^j:=by rw [BitVec.toNat_or,zhr (by omega),zhr (by omega)];have:=Nat.shiftLeft_add_eq_or_of_lt hx y;rw [Nat.shiftLeft_eq] at this;rw [Nat.or_comm,<- this,Nat.add_comm]
 show IntKind.u64.wrap (((BitVec.ofInt 64 (x:Int) ||| BitVec.ofInt 64 ((y*2^j:Nat):Int)).toNat:Nat):Int)=_;rw [e];exact ztK h
theorem zh8 {x y:Nat} (hx:x<2^64) (hy:y<2^64):zdI .and .u64 (x:Int) (y:Int)=((x &&& y:Nat):Int):=by unfold zdI;show IntKind.u64.wrap (((BitVec.ofInt 64 (x:Int) &&& BitVec.ofInt 64 (y:Int)).toNat:Nat):Int)=_;rw [BitVec.toNat_and,zhr hx,zhr hy];exact ztK (Nat.lt_of_le_of_lt Nat.and_le_left hx)
theorem zlQ (x j:Nat):x &&& (2^j - 1)=x%2^j:=Nat.and_two_pow_sub_one_eq_mod x j
theorem zsS (x j:Nat):x &&& 2^j=if x.testBit j then 2^j else 0:=by
 refine Nat.eq_of_testBit_eq fun i=>?_;rw [Nat.testBit_and,Nat.testBit_two_pow];by_cases h:j=i
 ·subst h;cases hx:x.testBit j<;>simp [Nat.testBit_two_pow]
 ·have:¬ i=j:=fun e=>h e.symm;cases hx:x.testBit j<;>simp [Nat.testBit_two_pow,h]
end Go.AM
namespace Go.AM
open Go Go.Proofs Tryz
theorem zlz (b:Bool) {n:Int} (h:0<=n):0<=fb b n∧fb b n<=n:=by unfold fb;cases b<;>simp<;>omega
theorem zpq {x:Int} (b:Bool) {j:Nat} (h0:0<=x) (h1:x<2^j) (h2:j<63):zdI .or .u64 x (fb b (2^j))=x+fb b (2^j):=by
 obtain ⟨n,rfl⟩:∃ n:Nat,x=n:=⟨x.toNat,by omega⟩
 have hn:n<2^j:=by exact_mod_cast h1
 have hp:2^j<=2^62:=Nat.pow_le_pow_right (by omega) (by omega);have h62:(2:Nat)^62=4611686018427387904:=by decide
 have h64:(2:Nat)^64=18446744073709551616:=by decide
 have:=zoI (x:=n) (y:=if b then 1 else 0) (j:=j) hn (by cases b<;>simp<;>omega);unfold fb;cases b
 ·simpa using this
 ·simpa using this
theorem or8 {x:Int} (b:Bool) (h0:0<=x) (h1:x<8):zdI .or .u64 x (fb b 8)=x+fb b 8:=zpq b (j:=3) h0 h1 (by omega)
theorem zCj {x:Int} (b:Bool) (h0:0<=x) (h1:x<16):zdI .or .u64 x (fb b 16)=x+fb b 16:=zpq b (j:=4) h0 h1 (by omega)
theorem zCi {x:Int} (b:Bool) (h0:0<=x) (h1:x<32):zdI .or .u64 x (fb b 32)=x+fb b 32:=zpq b (j:=5) h0 h1 (by omega)
theorem zCh {x:Int} (b:Bool) (h0:0<=x) (h1:x<64):zdI .or .u64 x (fb b 64)=x+fb b 64:=zpq b (j:=6) h0 h1 (by omega)
theorem zur {x f:Int} (h0:0<=x) (h1:x<256) (h2:0<=f) (h3:f<=4294967295):zdI .or .u64 x (f*256)=x+f*256:=by
 obtain ⟨n,rfl⟩:∃ n:Nat,x=n:=⟨x.toNat,by omega⟩
 obtain ⟨m,rfl⟩:∃ m:Nat,f=m:=⟨f.toNat,by omega⟩
 have h64:(2:Nat)^64=18446744073709551616:=by decide
 have:=zoI (x:=n) (y:=m) (j:=8) (by omega) (by omega);simpa using this
def zmR (e:En):Int:=e.1+fb e.2.2.1 8+fb e.2.2.2.1 16+fb e.2.2.2.2.1 32+fb e.2.2.2.2.2 64+e.2.1*256
def zky (e:En):Prop:=e.2.1<0∨4294967295<e.2.1∨e.1=1∧e.2.2.2.2.2=true∧4294967288<e.2.1
instance (e:En):Decidable (zky e):=by unfold zky;infer_instance
def zdq (e:En):Int×Int:=if 0<=e.1∧e.1<=4 then (if zky e then (0,2) else if zhX e=true then (zmR e,0) else (0,3)) else (0,1)
theorem zvb {e:En} (h:¬ (0<=e.1∧e.1<=4)):zdq e=(0,1):=by unfold zdq;rw [if_neg h]
theorem zor {e:En} (h:0<=e.1∧e.1<=4) (h2:zky e):zdq e=(0,2):=by unfold zdq;rw [if_pos h,if_pos h2]
theorem zoq {e:En} (h:0<=e.1∧e.1<=4) (h2:¬ zky e) (h3:zhX e=false):zdq e=(0,3):=by unfold zdq;rw [if_pos h,if_neg h2,h3];rfl
theorem zhb {e:En} (h:0<=e.1∧e.1<=4) (h2:¬ zky e) (h3:zhX e=true):zdq e=(zmR e,0):=by unfold zdq;rw [if_pos h,if_neg h2,if_pos h3]
theorem zp0 {k f:Int} {d a x h:Bool} (hk:0<=k∧k<=4) (hf:0<=f∧f<=4294967295):∃ w1 w2 w3 w4:Int,zdI .or .u64 k (fb d 8)=w1∧zdI .or .u64 w1 (fb a 16)=w2∧zdI .or .u64 w2 (fb x 32)=w3∧zdI .or .u64 w3 (fb h 64)=w4∧zdI .or .u64 w4 (f*256)=zmR (k,f,d,a,x,h):=by have r1:=zlz d (n:=8) (by omega);have r2:=zlz a (n:=16) (by omega);have r3:=zlz x (n:=32) (by omega);have r4:=zlz h (n:=64) (by omega);refine ⟨_,_,_,_,or8 d (by omega) (by omega),zCj a (by omega) (by omega),zCi x (by omega) (by omega),zCh h (by omega) (by omega),?_⟩;rw [zur (by omega) (by omega) hf.1 hf.2];rfl
theorem ztL {f:Int} (hf:0<=f∧f<=4294967295):IntKind.u64.wrap f=f∧IntKind.u64.wrap (f*256)=f*256:=by
 constructor
 ·exact zbj ⟨by omega,by omega⟩
 ·exact zbj ⟨by omega,by omega⟩
theorem zhc {k f:Int} {d a x h:Bool} (hk:0<=k∧k<=4) (hf:0<=f∧f<=4294967295) :
  zdI .or .u64 (zdI .or .u64 (zdI .or .u64 (zdI .or .u64 (zdI .or .u64 (IntKind.u64.wrap k) (fb d 8)) (fb a 16)) (fb x 32)) (fb h 64)) (IntKind.u64.wrap (IntKind.u64.wrap f*2^min 8 IntKind.u64.bits))=zmR (k,f,d,a,x,h):=by
 obtain ⟨w1,w2,w3,w4,v1,v2,v3,v4,v5⟩:=zp0 (d:=d) (a:=a) (x:=x) (h:=h) hk hf;have e1:f*2^min 8 IntKind.u64.bits=f*256:=by simp [IntKind.bits]
 have e2:IntKind.u64.wrap k=k:=zbj ⟨by omega,by omega⟩;rw [(ztL hf).1,e1,e2,(ztL hf).2,v1,v2,v3,v4,v5]
set_option maxHeartbeats 2000000 in
theorem zBT (X:AX) (hX:XOK prog X) (hw:X.W wT) (hfo:∀ k f d a x h,0<=k∧k<=4->∀ M n,X.call 195 [.agg [I k,I f,B d,B a,B x,B h]] M n=some (B (zhX (k,f,d,a,x,h)),[]))
  (hfl:∀ b c M n,X.call 196 [B b,.v (.int .u64 c)] M n=some (.v (.int .u64 (fb b c)),[])):PSd prog 143 (spF (ι:=En) (fun x=>[EnV x]) fun x=>rtO [U (zdq x).1,I (zdq x).2]):=by
 refine psS hX mixed func143 rfl fun ⟨k,f,d,a,x,h⟩ w0 G=>⟨by show 1<=63;decide,rfl,?_⟩
 show AW ⟨prog,X,63,w0,.pure G⟩ _ _ _;have hc:=okc hX 63 w0 G;unfold EnV U;simp only;rcases dE (0<=k∧k<=4) with hk|hk
 ·have hfo':=hfo k f d a x h hk;rcases dE (zky (k,f,d,a,x,h)) with hb|hb
  ·rw [zor hk hb];unfold zky at hb;simp only at hb;rcases (by omega:k=0∨k=1∨k=2∨k=3∨k=4) with rfl|rfl|rfl|rfl|rfl
   ·rcases dE (f<0) with g1|g1
    ·have zS:=g1;refine dM8 ?_;repeat (intro K hK)
     clear zS;refine ⟨by simp,?_⟩;simp [lvI,f143];try exact dt
    ·have g2:4294967295<f:=by
      rcases hb with hb|hb|hb
      ·exact absurd hb g1
      ·exact hb
      ·exact absurd hb.1 (by omega)
     have zS:=jj g1<|g2;refine dM8 ?_;repeat (intro K hK)
     clear zS;refine ⟨by simp,?_⟩;simp [lvI,f143];try exact dt
   ·rcases dE (f<0) with g1|g1
    ·have zS:=g1;refine dM8 ?_;repeat (intro K hK)
     clear zS;refine ⟨by simp,?_⟩;simp [lvI,f143];try exact dt
    ·rcases dE (4294967295<f) with g2|g2
     ·have zS:=jj g1<|g2;refine dM8 ?_;repeat (intro K hK)
      clear zS;refine ⟨by simp,?_⟩;simp [lvI,f143];try exact dt
     ·have g3:h=true∧4294967288<f:=by
       rcases hb with hb|hb|hb
       ·exact absurd hb g1
       ·exact absurd hb g2
       ·exact hb.2
      obtain ⟨rfl,g3⟩:=g3;have zS:=jj g1<|jj g2<|g3;refine dM8 ?_;repeat (intro K hK)
      clear zS;refine ⟨by simp,?_⟩;simp [lvI,f143];try exact dt
   ·rcases dE (f<0) with g1|g1
    ·have zS:=g1;refine dM8 ?_;repeat (intro K hK)
     clear zS;refine ⟨by simp,?_⟩;simp [lvI,f143];try exact dt
    ·have g2:4294967295<f:=by
      rcases hb with hb|hb|hb
      ·exact absurd hb g1
      ·exact hb
      ·exact absurd hb.1 (by omega)
     have zS:=jj g1<|g2;refine dM8 ?_;repeat (intro K hK)
     clear zS;refine ⟨by simp,?_⟩;simp [lvI,f143];try exact dt
   ·rcases dE (f<0) with g1|g1
    ·have zS:=g1;refine dM8 ?_;repeat (intro K hK)
     clear zS;refine ⟨by simp,?_⟩;simp [lvI,f143];try exact dt
    ·have g2:4294967295<f:=by
      rcases hb with hb|hb|hb
      ·exact absurd hb g1
      ·exact hb
      ·exact absurd hb.1 (by omega)
     have zS:=jj g1<|g2;refine dM8 ?_;repeat (intro K hK)
     clear zS;refine ⟨by simp,?_⟩;simp [lvI,f143];try exact dt
   ·rcases dE (f<0) with g1|g1
    ·have zS:=g1;refine dM8 ?_;repeat (intro K hK)
     clear zS;refine ⟨by simp,?_⟩;simp [lvI,f143];try exact dt
    ·have g2:4294967295<f:=by
      rcases hb with hb|hb|hb
      ·exact absurd hb g1
      ·exact hb
      ·exact absurd hb.1 (by omega)
     have zS:=jj g1<|g2;refine dM8 ?_;repeat (intro K hK)
     clear zS;refine ⟨by simp,?_⟩;simp [lvI,f143];try exact dt
  ·have hb':=hb;unfold zky at hb';simp only [not_or] at hb';have g1:¬ f<0:=hb'.1;have g2:¬ 4294967295<f:=hb'.2.1;have g3:=hb'.2.2;have e5:=@zoq (k,f,d,a,x,h) hk hb;have e6:=@zhb (k,f,d,a,x,h) hk hb;obtain ⟨W,hW⟩:∃ W,W=zmR (k,f,d,a,x,h):=⟨_,rfl⟩
   rw [<- hW] at e6;cases hfm:zhX (k,f,d,a,x,h) with
   | false =>
    rw [e5 hfm];rw [hfm] at hfo';rcases (by omega:k=0∨k=1∨k=2∨k=3∨k=4) with rfl|rfl|rfl|rfl|rfl
    ·have zS:=jj g1<|jj g2<|hfo';refine dM8 ?_;repeat (intro K hK)
     clear zS;refine ⟨by simp,?_⟩;simp [lvI,f143];try exact dt
    ·have g4:¬ (h=true∧4294967288<f):=fun hh=>g3 ⟨rfl,hh⟩;cases h
     ·have zS:=jj g1<|jj g2<|hfo';refine dM8 ?_;repeat (intro K hK)
      clear zS;refine ⟨by simp,?_⟩;simp [lvI,f143];try exact dt
     ·have g5:¬ 4294967288<f:=fun hh=>g4 ⟨rfl,hh⟩;have zS:=jj g1<|jj g2<|jj g5<|hfo';refine dM8 ?_;repeat (intro K hK)
      clear zS;refine ⟨by simp,?_⟩;simp [lvI,f143];try exact dt
    ·have zS:=jj g1<|jj g2<|hfo';refine dM8 ?_;repeat (intro K hK)
     clear zS;refine ⟨by simp,?_⟩;simp [lvI,f143];try exact dt
    ·have zS:=jj g1<|jj g2<|hfo';refine dM8 ?_;repeat (intro K hK)
     clear zS;refine ⟨by simp,?_⟩;simp [lvI,f143];try exact dt
    ·have zS:=jj g1<|jj g2<|hfo';refine dM8 ?_;repeat (intro K hK)
     clear zS;refine ⟨by simp,?_⟩;simp [lvI,f143];try exact dt
   | true =>
    rw [e6 hfm];rw [hfm] at hfo';clear e5 e6 hfm;rcases (by omega:k=0∨k=1∨k=2∨k=3∨k=4) with rfl|rfl|rfl|rfl|rfl
    ·have zS:=jj g1<|jj g2<|jj hfo'<|hfl;refine dM8 ?_;repeat (intro K hK)
     clear zS;refine ⟨by simp,?_⟩;simp [lvI,f143];try exact dt
     (rw [hW];refine (zhc ?_ ?_).symm<;>constructor<;>omega)
    ·have g4:¬ (h=true∧4294967288<f):=fun hh=>g3 ⟨rfl,hh⟩;cases h
     ·have zS:=jj g1<|jj g2<|jj hfo'<|hfl;refine dM8 ?_;repeat (intro K hK)
      clear zS;refine ⟨by simp,?_⟩;simp [lvI,f143];try exact dt
      (rw [hW];refine (zhc ?_ ?_).symm<;>constructor<;>omega)
     ·have g5:¬ 4294967288<f:=fun hh=>g4 ⟨rfl,hh⟩;have zS:=jj g1<|jj g2<|jj g5<|jj hfo'<|hfl;refine dM8 ?_;repeat (intro K hK)
      clear zS;refine ⟨by simp,?_⟩;simp [lvI,f143];try exact dt
      (rw [hW];refine (zhc ?_ ?_).symm<;>constructor<;>omega)
    ·have zS:=jj g1<|jj g2<|jj hfo'<|hfl;refine dM8 ?_;repeat (intro K hK)
     clear zS;refine ⟨by simp,?_⟩;simp [lvI,f143];try exact dt
     (rw [hW];refine (zhc ?_ ?_).symm<;>constructor<;>omega)
    ·have zS:=jj g1<|jj g2<|jj hfo'<|hfl;refine dM8 ?_;repeat (intro K hK)
     clear zS;refine ⟨by simp,?_⟩;simp [lvI,f143];try exact dt
     (rw [hW];refine (zhc ?_ ?_).symm<;>constructor<;>omega)
    ·have zS:=jj g1<|jj g2<|jj hfo'<|hfl;refine dM8 ?_;repeat (intro K hK)
     clear zS;refine ⟨by simp,?_⟩;simp [lvI,f143];try exact dt
     (rw [hW];refine (zhc ?_ ?_).symm<;>constructor<;>omega)
 ·rw [zvb hk];have e0:¬ k=0:=by omega
  have e1:¬ k=1:=by omega
  have e2:¬ k=2:=by omega
  have e3:¬ k=3:=by omega
  have e4:¬ k=4:=by omega
  have zS:=jj e0<|jj e1<|jj e2<|jj e3<|e4;refine dM8 ?_;repeat (intro K hK)
  clear zS;refine ⟨by simp,?_⟩;simp [lvI,f143];try exact dt
def prs (n:Nat):En:=(((n%8:Nat):Int),((n/256%4294967296:Nat):Int),n.testBit 3,n.testBit 4,n.testBit 5,n.testBit 6)
def zE:En:=(0,0,false,false,false,false)
def zj (n:Nat):En×Int:=if zdq (prs n)=((n:Int),0) then (prs n,0) else (zE,3)
theorem zjl {n:Nat} (h:zdq (prs n)=((n:Int),0)):zj n=(prs n,0):=by unfold zj;rw [if_pos h]
theorem zou {n:Nat} (h:¬ zdq (prs n)=((n:Int),0)):zj n=(zE,3):=by unfold zj;rw [if_neg h]
theorem zhZ (b:Bool) {n:Int} (h:n≠0):(fb b n=0)=(b=false):=by unfold fb;cases b<;>simp [h]
theorem zlA (b:Bool) {n:Int} (h:0<n):(0<fb b n)=(b=true):=by unfold fb;cases b<;>simp [h]
theorem zlR {n:Nat} (hn:n<2^64) {j:Nat} (hj:j<63):zdI .and .u64 (n:Int) ((2^j:Nat):Int)=fb (n.testBit j) ((2^j:Nat):Int):=by have hp:2^j<2^64:=Nat.pow_lt_pow_right (by omega) (by omega);rw [zh8 hn hp,zsS];unfold fb;cases n.testBit j<;>simp
theorem zCv {n:Nat} (hn:n<2^64):zdI .and .u64 (n:Int) 7=((n%8:Nat):Int):=by have:=zh8 (x:=n) (y:=7) hn (by decide);rw [show (7:Nat)=2^3 - 1 from rfl,zlQ] at this;exact this
theorem zCu {n:Nat} (hn:n<2^64):zdI .and .u64 ((n:Int)/2^min 8 IntKind.u64.bits) 4294967295=((n/256%4294967296:Nat):Int):=by
 have e:(n:Int)/2^min 8 IntKind.u64.bits=((n/256:Nat):Int):=by rw [show (2:Int)^min 8 IntKind.u64.bits=256 by simp [IntKind.bits]];omega
 rw [e];have:=zh8 (x:=n/256) (y:=4294967295) (by omega) (by decide);rw [show (4294967295:Nat)=2^32 - 1 from rfl,zlQ] at this;exact this
theorem znj (n:Nat):(0<=(prs n).1∧(prs n).1<=7)∧0<=(prs n).2.1∧(prs n).2.1<=4294967295:=by unfold prs;simp only;omega
set_option maxHeartbeats 2000000 in
theorem s56 (X:AX) (hX:XOK prog X) (hw:X.W wT) (hen:∀ k f d a x h M n,X.call 143 [.agg [I k,I f,B d,B a,B x,B h]] M n=some (.tup [U (zdq (k,f,d,a,x,h)).1,I (zdq (k,f,d,a,x,h)).2],[])) :
  PSd prog 56 (spF (ι:={n:Nat // n<2^64}) (fun x=>[U x.1]) fun x=>rtO [EnV (zj x.1).1,I (zj x.1).2]):=by
 refine psS hX mixed func56 rfl fun ⟨n,hn⟩ w0 G=>⟨by show 1<=41;decide,rfl,?_⟩
 show AW ⟨prog,X,41,w0,.pure G⟩ _ _ _;have hc:=okc hX 41 w0 G;simp only at hn ⊢;have p1:=zCv hn;have p2:=zCu hn;have p3:=zlR hn (j:=3) (by omega);have p4:=zlR hn (j:=4) (by omega);have p5:=zlR hn (j:=5) (by omega);have p6:=zlR hn (j:=6) (by omega);simp only [show ((2^3:Nat):Int)=8 from rfl,show ((2^4:Nat):Int)=16 from rfl,show ((2^5:Nat):Int)=32 from rfl,show ((2^6:Nat):Int)=64 from rfl] at p3 p4 p5 p6;have hrg:=znj n;have z3:=zhZ (n.testBit 3) (n:=8) (by omega);have z4:=zhZ (n.testBit 4) (n:=16) (by omega);have z5:=zhZ (n.testBit 5) (n:=32) (by omega);have z6:=zhZ (n.testBit 6) (n:=64) (by omega);have y3:=zlA (n.testBit 3) (n:=8) (by omega);have y4:=zlA (n.testBit 4) (n:=16) (by omega);have y5:=zlA (n.testBit 5) (n:=32) (by omega);have y6:=zlA (n.testBit 6) (n:=64) (by omega);have hdz:=@zjl n;have hdn:=@zou n;obtain ⟨⟨k,f,d,a,x,h⟩,he⟩:∃ e,e=prs n:=⟨_,rfl⟩
 rw [<- he] at hrg hdz hdn;unfold prs at he;simp only [pJ] at he;obtain ⟨e1,e2,e3,e4,e5,e6⟩:=he;rw [<- e1] at p1;rw [<- e2] at p2;rw [<- e3] at p3 z3 y3;rw [<- e4] at p4 z4 y4;rw [<- e5] at p5 z5 y5;rw [<- e6] at p6 z6 y6;clear e1 e2 e3 e4 e5 e6;simp only at hrg;have hk:=zm (n:=k) (by omega);have hf:=zm (n:=f) (by omega);have hen':=hen k f d a x h;obtain ⟨⟨W,c⟩,hR⟩:∃ r,r=zdq (k,f,d,a,x,h):=⟨_,rfl⟩
 rw [<- hR] at hen' hdz hdn;simp only [pJ] at hdz hdn;simp only [U] at hen';unfold U;rcases dE (c=0) with h0|h0
 ·rcases dE (W=(n:Int)) with h1|h1
  ·rw [hdz ⟨h1,h0⟩];subst h1 h0;have zS:=jj p1<|jj p2<|jj p3<|jj p4<|jj p5<|jj p6<|jj z3<|jj z4<|jj z5<|jj z6<|jj y3<|jj y4<|jj y5<|jj y6<|jj hk<|jj hf<|hen';refine dM8 ?_;repeat (intro K hK)
   clear zS;refine ⟨by simp,?_⟩;simp [lvI,f56,EnV];try exact dt
  ·rw [hdn fun hh=>h1 hh.1];subst h0;have zS:=jj p1<|jj p2<|jj p3<|jj p4<|jj p5<|jj p6<|jj z3<|jj z4<|jj z5<|jj z6<|jj y3<|jj y4<|jj y5<|jj y6<|jj hk<|jj hf<|jj hen'<|h1;refine dM8 ?_;repeat (intro K hK)
   clear zS;refine ⟨by simp,?_⟩;simp [lvI,f56,EnV,zE];try exact dt
 ·rw [hdn fun hh=>h0 hh.2];have zS:=jj p1<|jj p2<|jj p3<|jj p4<|jj p5<|jj p6<|jj z3<|jj z4<|jj z5<|jj z6<|jj y3<|jj y4<|jj y5<|jj y6<|jj hk<|jj hf<|jj hen'<|h0;refine dM8 ?_;repeat (intro K hK)
  clear zS;refine ⟨by simp,?_⟩;simp [lvI,f56,EnV,zE];try exact dt
abbrev Nd:=Int×List Nat
abbrev Dp:=Int×Int
abbrev Tb:=Int×List Nd×List Dp
def wcs (l:List Nat):List AV:=l.map fun w:Nat=>U (w:Int)
theorem zmZ:∀ {p q:List Nat},wcs p=wcs q↔p=q
 | [],[]=>by simp
 | [],_::_=>by simp [wcs]
 | _::_,[]=>by simp [wcs]
 | x::p,y::q=>by have ih:=zmZ (p:=p) (q:=q);unfold wcs at ih ⊢;rw [List.map_cons,List.map_cons,cJ,cJ,ih];simp [U];intro _;omega
@[simp] theorem zwY (l:List Nat):(wcs l).length=l.length:=by simp [wcs]
def zcq (n:Nd):List AV:=I n.1::wcs n.2
def nrw (l:List Nd):List (List AV):=l.map zcq
def prw (l:List Dp):List (List AV):=l.map fun m=>[I m.1,I m.2]
def TbV (t:Tb):AV:=.agg [I t.1,.rd 9 (nrw t.2.1),.rd 2 (prw t.2.2)]
def zis (n:Nd):Prop:=n.2.length=8∧∀ w∈n.2,w<2^64
def zf (t:Tb):Prop:=(∀ n∈t.2.1,zis n)∧t.2.1.length<=1000000∧t.2.2.length<=1000000
@[simp] theorem ziS (l:List Nd):(nrw l).length=l.length:=by simp [nrw]
@[simp] theorem zbU (l:List Dp):(prw l).length=l.length:=by simp [prw]
theorem zk7 {a b:Nd}:zcq a=zcq b↔a=b:=by obtain ⟨a1,a2⟩:=a;obtain ⟨b1,b2⟩:=b;simp only [zcq,cJ,zmZ,pJ,I,AV.v.injEq,Value.int.injEq,true_and]
theorem zbf {l m:List Nd}:nrw l=nrw m↔l=m:=by
 unfold nrw;induction l generalizing m with
 | nil=>cases m<;>simp
 | cons x l ih=>cases m with
  | nil=>simp
  | cons y m=>simp [ih,zk7]
theorem zaa {l m:List Dp}:prw l=prw m↔l=m:=by
 unfold prw;induction l generalizing m with
 | nil=>cases m<;>simp
 | cons x l ih=>cases m with
  | nil=>simp
  | cons y m =>obtain ⟨x1,x2⟩:=x;obtain ⟨y1,y2⟩:=y;simp [ih,I]
theorem TbJ {a b:Tb}:TbV a=TbV b↔a=b:=by obtain ⟨a1,a2,a3⟩:=a;obtain ⟨b1,b2,b3⟩:=b;simp [TbV,I,zbf,zaa]
theorem zB5 (X:AX) (hX:XOK prog X):PSd prog 126 (spF (ι:=Int) (fun x=>[I x]) fun x=>rtO [B (decide (0<=x∧x<=4294967295))]):=by
 refine psS hX mixed func126 rfl fun x w0 G=>⟨by show 1<=9;decide,rfl,?_⟩
 show AW ⟨prog,X,9,w0,.pure G⟩ _ _ _;have hc:=okc hX 9 w0 G;rcases dE (0<=x) with h1|h1
 ·have zS:=h1;refine dM8 ?_;repeat (intro K hK)
  clear zS;refine ⟨by simp,?_⟩;simp [lvI,f126,h1];try exact dt
 ·have zS:=h1;refine dM8 ?_;repeat (intro K hK)
  clear zS;refine ⟨by simp,?_⟩;simp [lvI,f126,h1];try exact dt
def dig (x l:Int):Int:=if l=2 then x/64 else if l=1 then x/8%8 else x%8
def zaO (e:En) (l:Nat):Bool :=if e.1=0 then true else if e.1=4 then decide (0<l)
 else if e.1=1 then (if l=0 then !e.2.2.2.2.2 else if l=1 then e.2.2.2.2.2 else false) else decide (l=0)
set_option maxHeartbeats 1000000 in
theorem zB7 (X:AX) (hX:XOK prog X) (hw:X.W wT):PSd prog 117 (spF (ι:=En×Nat) (fun x=>[EnV x.1,I x.2]) fun x=>rtO [B (zaO x.1 x.2)]):=by
 refine psS hX mixed func117 rfl fun ⟨⟨k,f,d,a,x,h⟩,l⟩ w0 G=>⟨by show 2<=32;decide,rfl,?_⟩
 show AW ⟨prog,X,32,w0,.pure G⟩ _ _ _;have hc:=okc hX 32 w0 G;unfold EnV;simp only;rcases dE (k=0) with e0|e0
 ·subst e0;refine zq2 ?_;repeat (intro K hK)
  refine ⟨by simp,?_⟩;simp [lvI,f117,zaO];try exact dt
 ·rcases dE (k=4) with e4|e4
  ·subst e4;refine zq2 ?_;repeat (intro K hK)
   refine ⟨by simp,?_⟩;simp [lvI,f117,zaO];try exact dt
  ·rcases dE (k=1) with e1|e1
   ·subst e1;rcases (by omega:l=0∨l=1∨(l≠0∧l≠1)) with rfl|rfl|⟨q0,q1⟩
    ·cases h
     ·refine zq2 ?_;repeat (intro K hK)
      refine ⟨by simp,?_⟩;simp [lvI,f117,zaO];try exact dt
     ·refine zq2 ?_;repeat (intro K hK)
      refine ⟨by simp,?_⟩;simp [lvI,f117,zaO];try exact dt
    ·cases h
     ·refine zq2 ?_;repeat (intro K hK)
      refine ⟨by simp,?_⟩;simp [lvI,f117,zaO];try exact dt
     ·refine zq2 ?_;repeat (intro K hK)
      refine ⟨by simp,?_⟩;simp [lvI,f117,zaO];try exact dt
    ·have z0:¬ (l:Int)=0:=by omega
     have z1:¬ (l:Int)=1:=by omega
     cases h
     ·have zS:=jj q0<|jj q1<|jj z0<|z1;refine dM8 ?_;repeat (intro K hK)
      clear zS;refine ⟨by simp,?_⟩;simp [lvI,f117,zaO,q0,q1];try exact dt
     ·have zS:=jj q0<|jj q1<|jj z0<|z1;refine dM8 ?_;repeat (intro K hK)
      clear zS;refine ⟨by simp,?_⟩;simp [lvI,f117,zaO,q0,q1];try exact dt
   ·have zS:=jj e0<|jj e4<|e1;refine dM8 ?_;repeat (intro K hK)
    clear zS;refine ⟨by simp,?_⟩;simp [lvI,f117,zaO,e0,e4,e1];try exact dt
theorem zCa (X:AX) (hX:XOK prog X) (hw:X.W wT) (hd:∀ n:Nat,n<2^64->∀ M k,X.call 56 [U n] M k=some (.tup [EnV (zj n).1,I (zj n).2],[])) :
  PSd prog 113 (spF (ι:={n:Nat // n<2^64}) (fun x=>[U x.1]) fun x=>rtO [EnV (zj x.1).1]):=by
 refine psS hX mixed func113 rfl fun ⟨n,hn⟩ w0 G=>⟨by show 1<=11;decide,rfl,?_⟩
 show AW ⟨prog,X,11,w0,.pure G⟩ _ _ _;have hc:=okc hX 11 w0 G;have hn:n<2^64:=hn;have hd':=hd n hn;obtain ⟨⟨⟨k,f,d,a,x,h⟩,e⟩,hR⟩:∃ r,r=zj n:=⟨_,rfl⟩
 rw [<- hR] at hd' ⊢;simp only [EnV,U] at hd' ⊢;have zS:=hd';refine dM8 ?_;repeat (intro K hK)
 clear zS;refine ⟨by simp,?_⟩;simp [lvI,f113];try exact dt
def gn (l:List Nd) (n:Nat):Nd:=l.getD n (0,[])
def gp (l:List Dp) (n:Nat):Dp:=l.getD n (0,0)
theorem zcl {l:List Nd} {n:Nat} (h:n<l.length):gn l n=l[n]:=by unfold gn;rw [List.getD_eq_getElem?_getD,List.getElem?_eq_getElem h];rfl
theorem zax {l:List Dp} {n:Nat} (h:n<l.length):gp l n=l[n]:=by unfold gp;rw [List.getD_eq_getElem?_getD,List.getElem?_eq_getElem h];rfl
theorem zaL {l:List Nd} {n:Nat} (h:n<l.length):gn l n∈l:=by rw [zcl h];exact List.getElem_mem h
theorem zlq {l:List Dp} {n:Nat} (h:n<l.length):gp l n∈l:=by rw [zax h];exact List.getElem_mem h
theorem nrG {l:List Nd} {n:Nat} (h:n<l.length):(nrw l)[n]?=some (I (gn l n).1::wcs (gn l n).2):=by rw [zcl h];simp [nrw,zcq,h]
theorem nrE {l:List Nd} {n:Nat} (h:n<l.length):∀ h',(nrw l)[n]'(h')=I (gn l n).1::wcs (gn l n).2:=fun h'=>by have hg:=nrG h;rw [List.getElem?_eq_getElem h'] at hg;exact Option.some.inj hg
theorem zab {l:List Dp} {n:Nat} (h:n<l.length):(prw l)[n]?=some [I (gp l n).1,I (gp l n).2]:=by rw [zax h];simp [prw,h]
theorem zac {l:List Dp} {n:Nat} (h:n<l.length):∀ h',(prw l)[n]'(h')=[I (gp l n).1,I (gp l n).2]:=fun h'=>by have hg:=zab h;rw [List.getElem?_eq_getElem h'] at hg;exact Option.some.inj hg
def zdM {α:Type} (p:α->Bool) (l:List α):Int:=if l.findIdx p<l.length then (l.findIdx p:Int) else -1
theorem zf9 {α:Type} {p:α->Bool} {l:List α} {i:Nat} (hi:i<l.length) (hp:p l[i]=true) (hn:∀ j (hj:j<i),p (l[j]'(by omega))=false):zdM p l=i:=by
 have:l.findIdx p=i:=by rw [List.findIdx_eq hi];exact ⟨hp,fun j hj=>hn j hj⟩
 unfold zdM;rw [this,if_pos hi]
theorem zdo {α:Type} {p:α->Bool} {l:List α} (hn:∀ j (hj:j<l.length),p l[j]=false):zdM p l=-1:=by
 have:l.findIdx p=l.length:=by rw [List.findIdx_eq_length];intro x hx;obtain ⟨j,hj,rfl⟩:=List.getElem_of_mem hx;exact hn j hj
 unfold zdM;rw [this,if_neg (by omega)]
def zha (x:Int):Prop:=0<=x∧x<=4294967295
instance (x:Int):Decidable (zha x):=by unfold zha;infer_instance
def zxh (ns:List Nd):Prop:=∀ j,j<ns.length->zha (gn ns j).1
def zxi (ds:List Dp):Prop:=∀ j,j<ds.length->zha (gp ds j).2∧0<=(gp ds j).1∧(gp ds j).1<64
open Classical in
noncomputable def zme (t:Tb):Bool:=decide (zxh t.2.1∧zxi t.2.2)
theorem zfk {t:Tb}:zme t=true↔zxh t.2.1∧zxi t.2.2:=by unfold zme;simp
theorem znh {t:Tb} (h:¬ (zxh t.2.1∧zxi t.2.2)):zme t=false:=by rw [Bool.eq_false_iff];exact fun hh=>h (zfk.1 hh)
open Classical in
noncomputable def zmA (t:Tb):Bool:=decide ((∀ j,j+1<t.2.1.length->(gn t.2.1 j).1<(gn t.2.1 (j+1)).1)∧∀ j,j+1<t.2.2.length->(gp t.2.2 j).1<(gp t.2.2 (j+1)).1)
theorem zeC {t:Tb}:zmA t=true↔(∀ j,j+1<t.2.1.length->(gn t.2.1 j).1<(gn t.2.1 (j+1)).1)∧∀ j,j+1<t.2.2.length->(gp t.2.2 j).1<(gp t.2.2 (j+1)).1:=by unfold zmA;simp
theorem zoP {t:Tb} (h:¬ ((∀ j,j+1<t.2.1.length->(gn t.2.1 j).1<(gn t.2.1 (j+1)).1)∧∀ j,j+1<t.2.2.length->(gp t.2.2 j).1<(gp t.2.2 (j+1)).1)):zmA t=false:=by rw [Bool.eq_false_iff];exact fun hh=>h (zeC.1 hh)
theorem zpT {α:Type} {p:α->Bool} {l:List α}:0<=zdM p l↔∃ j,∃ h:j<l.length,p l[j]=true:=by
 constructor
 ·intro h;unfold zdM at h;split at h
  ·rename_i hl;exact ⟨_,hl,List.findIdx_getElem⟩
  ·omega
 ·rintro ⟨j,hj,hp⟩;have:l.findIdx p<l.length:=List.findIdx_lt_length_of_exists ⟨_,List.getElem_mem hj,hp⟩;unfold zdM;rw [if_pos this];omega
theorem zgT (l:List Dp) (n:Nat):(prw l).take n=prw (l.take n):=by simp [prw,List.map_take]
def twN (t:Tb) (i:Nat):Prop:=(∃ j,j<t.2.1.length∧(gn t.2.1 j).1=(gp t.2.2 i).2)∨∃ j,j<i∧(gp t.2.2 j).2=(gp t.2.2 i).2
open Classical in
noncomputable def twB (t:Tb):Bool:=decide (∃ i,i<t.2.2.length∧twN t i)
theorem zhq {t:Tb}:twB t=true↔∃ i,i<t.2.2.length∧twN t i:=by unfold twB;simp
theorem zqw {t:Tb} (h:∀ i,i<t.2.2.length->¬ twN t i):twB t=false:=by rw [Bool.eq_false_iff];intro hh;obtain ⟨i,hi,h2⟩:=zhq.1 hh;exact h i hi h2
@[simp] theorem zA7:za prog 175=some ⟨.map 3 3 (some (.int .i64 0)),1,8,[.map none]⟩:=by kernel_rfl
@[simp] theorem zxo (b:Option Nat):(Value.map b).oneCell'=true:=rfl
def zcF (l:List Nd):Nat->List (List Int×AV)
 | 0=>[]
 | k+1=>zgz (zcF l k) [(gn l k).1] (I k)
attribute [simp] zn9
set_option maxHeartbeats 1000000 in
theorem zB8 (X:AX) (hX:XOK prog X) (hw:X.W wT):PSd prog 115 (spF (ι:={x:Tb // zf x}) (fun x=>[TbV x.1]) fun x=>rtO [.om 1 (zcF x.1.2.1 x.1.2.1.length)]):=by
 refine psS hX mixed func115 rfl fun ⟨⟨r,ns,ds⟩,ht⟩ w0 G=>⟨by show 1<=24;decide,rfl,?_⟩
 show AW ⟨prog,X,24,w0,.pure G⟩ _ _ _;have hc:=okc hX 24 w0 G;have hl1:ns.length<=1000000:=ht.2.1;simp only [TbV];repeat' (first|(refine aSk fun K hK=>?_)|(refine eMo ?_)|(refine eC (fun h=>?_) (fun h=>?_)<;>(try simp at h))|(refine hK _ ?_;clear hK)|(clear hK;refine hK _ ?_;clear hK))
 refine aLK (s0:=?lps1) (m0:=?lpm1) (ι:={i:Nat // i<=ns.length}) [3,11,12] (fun i=>[(13,I i.1)]) (fun i=>[(80,.map 1 1 (zcF ns i.1))]) (fun i=>ns.length - i.1) ⟨0,by omega⟩ ?lhs1 ?lhm1 ?_ ?_
 case lhs1=>first|(simp [kpS];done)|(simp [kpS];rfl)
 case lhm1=>first|rfl|(simp;done)|(simp;rfl)
 ·simp only [zcF];exact dle
 ·rintro ⟨i,hi⟩;simp only;rcases dE (i<ns.length) with hil|hil
  ·have hilI:(i:Int)<(ns.length:Int):=by omega
   have hg:=nrG hil;have hgE:=nrE hil;have hlen:=(ht.1 _ (zaL hil)).1;have hnx:zcF ns (i+1)=zgz (zcF ns i) [(gn ns i).1] (I i):=rfl;obtain ⟨S,hS⟩:∃ S,S=zcF ns i:=⟨_,rfl⟩
   rw [<- hS] at hnx;rw [<- hS];obtain ⟨⟨g,ws⟩,hm⟩:∃ m,m=gn ns i:=⟨_,rfl⟩
   rw [<- hm] at hg hgE hnx hlen;simp only at hg hgE hnx hlen;have zS:=jj hilI<|jj hg<|jj hgE<|hlen;repeat' (first|(refine aSk fun K hK=>?_)|(refine zi ?_)|(refine eC (fun h=>?_) (fun h=>?_)<;>(try simp at h))|(refine hK _ ?_;clear hK)|clear hK)
   all_goals clear zS
   refine ⟨i+1,?_,by omega,by omega⟩;simp only [hnx];refine zaI (s1:=?tus2) (m1:=?tum2) [] [1,3,11,12,13] [0,80] ?tua2 ?tub2 ?tuc2 ?tud2 ?tue2 ?tuf2 ?tug2
   case tua2=>first|(simp [kpS];done)|(simp [kpS];rfl)
   case tub2=>first|(simp;done)|(simp;rfl)
   case tuc2=>simp
   case tud2=>simp
   case tue2=>simp
   case tuf2=>simp
   case tug2 =>simp [swp,vr];exact dle
  ·obtain rfl:i=ns.length:=by omega
   repeat' (first|(refine aSk fun K hK=>?_)|(refine eMo ?_)|(refine eC (fun h=>?_) (fun h=>?_)<;>(try simp at h))|(refine hK _ ?_;clear hK)|clear hK)
   refine ⟨by simp,?_⟩;simp [lvI,f115];try exact dt
end Go.AM
namespace Go.AM
structure Wd where
 ok:Nat->Nat->Bool
 tab:Nat->Option Int
 hug:Nat->Bool
 adm:Int->Bool
abbrev NdL:=List (Int×List Nat)
def fnd (ns:NdL) (f:Int):Option Nat:=if ns.findIdx (fun n=>decide (n.1=f))<ns.length then some (ns.findIdx fun n=>decide (n.1=f)) else none
theorem zay {ns:NdL} {f:Int} {i:Nat} (h:fnd ns f=some i):i<ns.length:=by
 unfold fnd at h;split at h
 ·simp only [Option.some.injEq] at h;omega
 ·simp at h
def wd (ns:NdL) (n i:Nat):Nat:=(ns.getD n (0,[])).2.getD i 0
abbrev WSt:=List Bool×List Int
section
variable (D:Wd) (ns:NdL)
def kid (w:Nat):Option Nat:=(D.tab w).bind (fnd ns)
def wkF (rc:Nat->Nat->WSt->Bool×WSt) (l n first:Nat):Nat->Nat->WSt->Bool×WSt
 | 0,_,st=>(true,st)
 | k+1,i,st =>
  if D.ok l (wd ns n i)=false then (false,st) else
  if D.hug (wd ns n i)=true∧D.adm (((first+i*8^l)/8:Nat):Int)=false then (false,st) else
  let st1:WSt:=if D.hug (wd ns n i)=true then (st.1,st.2++[(((first+i*8^l)/8:Nat):Int)]) else st
  match D.tab (wd ns n i) with
  | none=>wkF rc l n first k (i+1) st1
  | some g=>match fnd ns g with
   | none=>(false,st1)
   | some nx=>if (rc nx (first+i*8^l) st1).1=true then wkF rc l n first k (i+1) (rc nx (first+i*8^l) st1).2 else (false,(rc nx (first+i*8^l) st1).2)
def wk:Nat->Nat->Nat->WSt->Bool×WSt
 | 0,n,first,st=>if st.1.getD n false=true then (false,st) else wkF D ns (fun _ _ st=>(false,st)) 0 n first 8 0 (st.1.set n true,st.2)
 | l+1,n,first,st=>if st.1.getD n false=true then (false,st) else wkF D ns (wk l) (l+1) n first 8 0 (st.1.set n true,st.2)
def ids:Nat->Nat->List Nat
 | 0,n=>[n]
 | l+1,n=>n::(List.range 8).flatMap fun i=>match kid D ns (wd ns n i) with
  | some nx=>ids l nx
  | none=>[]
def zmQ:Nat->Nat->Nat->List Int
 | l,n,first=>(List.range 8).flatMap fun i=>(if D.hug (wd ns n i)=true then [(((first+i*8^l)/8:Nat):Int)] else [])++(match l with
  | 0=>[]
  | l+1=>match kid D ns (wd ns n i) with
   | some nx=>zmQ l nx (first+i*8^(l+1))
   | none=>[])
def okW (l n first i:Nat):Prop:=D.ok l (wd ns n i)=true∧(D.hug (wd ns n i)=true->D.adm (((first+i*8^l)/8:Nat):Int)=true)∧∀ g,D.tab (wd ns n i)=some g->∃ nx,fnd ns g=some nx
def good:Nat->Nat->Nat->Prop
 | 0,n,first=>∀ i,i<8->okW D ns 0 n first i
 | l+1,n,first=>∀ i,i<8->okW D ns (l+1) n first i∧∀ nx,kid D ns (wd ns n i)=some nx->good l nx (first+i*8^(l+1))
end
def zdF (led:List Bool) (l:List Nat):List Bool:=l.foldl (fun a i=>a.set i true) led
@[simp] theorem zuD (led:List Bool):zdF led []=led:=rfl
theorem ziU (led:List Bool) (a b:List Nat):zdF led (a++b)=zdF (zdF led a) b:=by simp [zdF]
theorem zg4 (led:List Bool) (a:Nat) (b:List Nat):zdF led (a::b)=zdF (led.set a true) b:=rfl
@[simp] theorem zuE (led:List Bool) (l:List Nat):(zdF led l).length=led.length:=by
 unfold zdF;induction l generalizing led with
 | nil=>rfl
 | cons a l ih=>simp [ih]
theorem zkX (led:List Bool) {i:Nat} (j:Nat) (hi:i<led.length):(led.set i true).getD j false=(decide (i=j)||led.getD j false):=by
 simp only [List.getD_eq_getElem?_getD,List.getElem?_set];by_cases e:i=j
 ·subst e;simp [hi]
 ·simp [e]
theorem zdk {led:List Bool}:∀ {l:List Nat} {j:Nat},(∀ i∈l,i<led.length)->(zdF led l).getD j false=(decide (j∈l)||led.getD j false):=by
 intro l;induction l generalizing led with
 | nil=>intro j _;simp
 | cons a l ih =>
  intro j h;rw [zg4,ih (led:=led.set a true) (by intro i hi;simp;exact h i (by simp [hi])),zkX led j (h a (by simp))];by_cases e:a=j
  ·subst e;simp
  ·have:¬ j=a:=fun h=>e h.symm;simp [e,this]
section
variable {D:Wd} {ns:NdL}
theorem znV {w n:Nat} (h:kid D ns w=some n):n<ns.length:=by
 unfold kid at h;cases ht:D.tab w with
 | none=>simp [ht] at h
 | some g=>simp [ht] at h;exact zay h
theorem zn7:∀ {l n:Nat},n<ns.length->∀ i∈ids D ns l n,i<ns.length
 | 0,n,h,i,hi=>by simp only [ids,List.mem_singleton] at hi;omega
 | l+1,n,h,i,hi=>by
  simp only [ids,List.mem_cons,List.mem_flatMap] at hi;rcases hi with rfl|⟨j,_,hi⟩
  ·exact h
  ·split at hi
   ·rename_i nx hk;exact zn7 (znV hk) i hi
   ·simp at hi
def zyS (D:Wd) (ns:NdL) (rc:Nat->Nat->WSt->Bool×WSt) (gd:Nat->Nat->Prop) (is:Nat->List Nat) (hs:Nat->Nat->List Int):Prop :=∀ n first st,n<ns.length->st.1.length=ns.length ->
  (((rc n first st).1=true↔gd n first∧(is n).Nodup∧∀ i∈is n,st.1.getD i false=false)∧((rc n first st).1=true->(rc n first st).2=(zdF st.1 (is n),st.2++hs n first)))
def zna (D:Wd) (ns:NdL) (is:Nat->List Nat) (n:Nat) (i:Nat):List Nat:=match kid D ns (wd ns n i) with
 | some nx=>is nx
 | none=>[]
def zqx (D:Wd) (ns:NdL) (hs:Nat->Nat->List Int) (l n first i:Nat):List Int:=(if D.hug (wd ns n i)=true then [(((first+i*8^l)/8:Nat):Int)] else [])++match kid D ns (wd ns n i) with
 | some nx=>hs nx (first+i*8^l)
 | none=>[]
theorem zqu {rc:Nat->Nat->WSt->Bool×WSt} {gd:Nat->Nat->Prop} {is:Nat->List Nat} {hs:Nat->Nat->List Int} (hrc:zyS D ns rc gd is hs) (hlt:∀ n,n<ns.length->∀ i∈is n,i<ns.length) {l n first:Nat} :
  ∀ {k i:Nat} {st:WSt},st.1.length=ns.length ->
  (((wkF D ns rc l n first k i st).1=true↔(∀ j,i<=j->j<i+k->okW D ns l n first j∧∀ nx,kid D ns (wd ns n j)=some nx->gd nx (first+j*8^l)) ∧
    ((List.range' i k).flatMap (zna D ns is n)).Nodup∧∀ j∈(List.range' i k).flatMap (zna D ns is n),st.1.getD j false=false) ∧
   ((wkF D ns rc l n first k i st).1=true->(wkF D ns rc l n first k i st).2=(zdF st.1 ((List.range' i k).flatMap (zna D ns is n)),st.2++(List.range' i k).flatMap (zqx D ns hs l n first)))):=by
 intro k;induction k with
 | zero =>
  intro i st hl;simp only [wkF,true_iff,List.range'_zero,List.flatMap_nil];exact ⟨⟨fun j h1 h2=>by omega,List.nodup_nil,by simp⟩,fun _=>by simp⟩
 | succ k ih =>
  intro i st hl;simp only [wkF,List.range'_succ,List.flatMap_cons];cases hok:D.ok l (wd ns n i) with
  | false =>
   simp only [if_true];constructor
   ·constructor
    ·intro h;simp at h
    ·rintro ⟨h,_⟩;have:=(h i (Nat.le_refl _) (by omega)).1.1;rw [hok] at this;simp at this
   ·intro h;simp at h
  | true =>
   simp only [Bool.true_eq_false,if_false];rcases Decidable.em (D.hug (wd ns n i)=true∧D.adm (((first+i*8^l)/8:Nat):Int)=false) with had|had
   ·rw [if_pos had];refine ⟨⟨fun h=>by simp at h,fun h=>?_⟩,fun h=>by simp at h⟩;have:=(h.1 i (Nat.le_refl _) (by omega)).1.2.1 had.1;rw [had.2] at this;simp at this
   rw [if_neg had];have had':D.hug (wd ns n i)=true->D.adm (((first+i*8^l)/8:Nat):Int)=true:=fun h=>by
    cases ha:D.adm (((first+i*8^l)/8:Nat):Int) with
    | true=>rfl
    | false=>exact absurd ⟨h,ha⟩ had
   obtain ⟨st1,hst1⟩:∃ st1:WSt,st1=(if D.hug (wd ns n i)=true then (st.1,st.2++[(((first+i*8^l)/8:Nat):Int)]) else st):=⟨_,rfl⟩
   rw [<- hst1];have e1:st1.1=st.1:=by subst hst1;split<;>rfl
   have e2:st1.2=st.2++(if D.hug (wd ns n i)=true then [(((first+i*8^l)/8:Nat):Int)] else []):=by subst hst1;split<;>simp
   cases ht:D.tab (wd ns n i) with
   | none =>
    have hk:kid D ns (wd ns n i)=none:=by unfold kid;rw [ht];rfl
    have hsI:zna D ns is n i=[]:=by unfold zna;rw [hk]
    have hsH:zqx D ns hs l n first i=(if D.hug (wd ns n i)=true then [(((first+i*8^l)/8:Nat):Int)] else []):=by unfold zqx;rw [hk];simp
    have:=ih (i:=i+1) (st:=st1) (by rw [e1];exact hl);simp only [hsI,List.nil_append,hsH];rw [e1,e2,List.append_assoc] at this;refine ⟨this.1.trans ?_,this.2⟩;refine and_congr_left fun _=>?_;constructor
    ·intro h j h1 h2;by_cases e:j=i
     ·subst e;exact ⟨⟨hok,had',by simp [ht]⟩,by simp [hk]⟩
     ·exact h j (by omega) (by omega)
    ·intro h j h1 h2;exact h j (by omega) (by omega)
   | some g =>
    simp only;cases hf:fnd ns g with
    | none =>
     simp only;constructor
     ·constructor
      ·intro h;simp at h
      ·rintro ⟨h,_⟩;obtain ⟨nx,h2⟩:=(h i (Nat.le_refl _) (by omega)).1.2.2 g ht;rw [hf] at h2;simp at h2
     ·intro h;simp at h
    | some nx =>
     have hk:kid D ns (wd ns n i)=some nx:=by unfold kid;rw [ht];exact hf
     have hsI:zna D ns is n i=is nx:=by unfold zna;rw [hk]
     have hsH:zqx D ns hs l n first i=(if D.hug (wd ns n i)=true then [(((first+i*8^l)/8:Nat):Int)] else [])++hs nx (first+i*8^l):=by unfold zqx;rw [hk]
     have hnx:=znV hk;have h1:=hrc nx (first+i*8^l) st1 hnx (by rw [e1];exact hl);rw [e1,e2] at h1;simp only;obtain ⟨R,hR⟩:∃ R,R=rc nx (first+i*8^l) st1:=⟨_,rfl⟩
     rw [<- hR] at h1 ⊢;rw [hsI,hsH];cases hb:R.1 with
     | false =>
      rw [hb] at h1;simp only [Bool.false_eq_true,if_false,false_iff];refine ⟨?_,fun h=>h.elim⟩;rintro ⟨h2,h3,h4⟩;refine absurd (h1.1.2 ⟨(h2 i (Nat.le_refl _) (by omega)).2 nx hk,(List.nodup_append.1 h3).1,fun j hj=>h4 j (by simp [hj])⟩) (by simp)
     | true =>
      rw [hb] at h1;obtain ⟨⟨g1,g2,g3⟩,g4⟩:=And.intro (h1.1.1 rfl) (h1.2 rfl);simp only [if_true];have h5:=ih (i:=i+1) (st:=R.2) (by rw [g4];simp [hl]);rw [g4] at h5 ⊢;simp only at h5;have hin:∀ j∈is nx,j<st.1.length:=by rw [hl];exact hlt nx hnx
      rw [<- ziU] at h5;simp only [List.append_assoc] at h5 ⊢;refine ⟨h5.1.trans ?_,h5.2⟩;constructor
      ·rintro ⟨a1,a2,a3⟩;refine ⟨fun j q1 q2=>?_,?_,fun j hj=>?_⟩
       ·by_cases e:j=i
        ·subst e;refine ⟨⟨hok,had',fun g' hg'=>?_⟩,fun nx' hnx'=>?_⟩
         ·rw [ht] at hg';simp only [Option.some.injEq] at hg';subst hg';exact ⟨nx,hf⟩
         ·rw [hk] at hnx';simp only [Option.some.injEq] at hnx';subst hnx';exact g1
        ·exact a1 j (by omega) (by omega)
       ·refine List.nodup_append.2 ⟨g2,a2,fun a ha b hb e=>?_⟩;subst e;have:=a3 a hb;rw [zdk hin] at this;simp [ha] at this
       ·rcases List.mem_append.1 hj with hj|hj
        ·exact g3 j hj
        ·have:=a3 j hj;rw [zdk hin] at this;simp only [Bool.or_eq_false_iff] at this;exact this.2
      ·rintro ⟨a1,a2,a3⟩;have a2':=List.nodup_append.1 a2;refine ⟨fun j q1 q2=>a1 j (by omega) (by omega),a2'.2.1,fun j hj=>?_⟩;rw [zdk hin,a3 j (by simp [hj])];simp only [Bool.or_false,decide_eq_false_iff_not];exact fun h=>a2'.2.2 j h j hj rfl
theorem ztN (hz:∀ w,D.ok 0 w=true->D.tab w=none):∀ {l:Nat},zyS D ns (wk D ns l) (good D ns l) (ids D ns l) (zmQ D ns l)
 | 0=>fun n first st hn hl=>by
  have hrc:zyS D ns (fun _ _ st=>(false,st)) (fun _ _=>False) (fun _=>[]) (fun _ _=>[]):=fun n first st _ _=>by simp
  have h1:=zqu hrc (fun n hn=>by simp) (l:=0) (n:=n) (first:=first) (k:=8) (i:=0) (st:=(st.1.set n true,st.2)) (by simpa using hl);simp only [wk];cases hb:st.1.getD n false with
  | true =>
   simp only [if_true];refine ⟨⟨fun h=>by simp at h,fun h=>?_⟩,fun h=>by simp at h⟩;have:=h.2.2 n (by simp [ids]);rw [hb] at this;simp at this
  | false =>
   simp only [Bool.false_eq_true,if_false];have hr:List.range' 0 8=List.range 8:=List.range_eq_range'.symm;rw [hr] at h1;have e1:(List.range 8).flatMap (zna D ns (fun _=>[]) n)=[]:=by rw [List.flatMap_eq_nil_iff];intro x _;unfold zna;split<;>rfl
   have e2:(List.range 8).flatMap (zqx D ns (fun _ _=>[]) 0 n first)=zmQ D ns 0 n first:=by unfold zqx zmQ;congr 1;funext i;congr 1;split<;>rfl
   rw [e1,e2] at h1;have e3:ids D ns 0 n=[n]:=rfl;rw [e3];refine ⟨h1.1.trans ?_,fun h=>by rw [h1.2 h];simp [zdF]⟩;simp only [good];constructor
   ·rintro ⟨a1,_,_⟩;refine ⟨fun i hi=>(a1 i (by omega) (by omega)).1,by simp,by simpa using hb⟩
   ·rintro ⟨a1,_,_⟩;refine ⟨fun j _ hj=>⟨a1 j (by omega),fun nx h=>?_⟩,by simp,by simp⟩;have:=hz _ (a1 j (by omega)).1;unfold kid at h;rw [this] at h;simp at h
 | l+1=>fun n first st hn hl=>by
  have h1:=zqu (ztN hz (l:=l)) (fun n hn=>zn7 hn) (l:=l+1) (n:=n) (first:=first) (k:=8) (i:=0) (st:=(st.1.set n true,st.2)) (by simpa using hl);simp only [wk];cases hb:st.1.getD n false with
  | true =>
   simp only [if_true];refine ⟨⟨fun h=>by simp at h,fun h=>?_⟩,fun h=>by simp at h⟩;have:=h.2.2 n (by simp [ids]);rw [hb] at this;simp at this
  | false =>
   simp only [Bool.false_eq_true,if_false];have hr:List.range' 0 8=List.range 8:=List.range_eq_range'.symm;rw [hr] at h1;have hset:∀ j,(st.1.set n true).getD j false=(decide (n=j)||st.1.getD j false):=fun j=>zkX _ j (by omega);have e1:(List.range 8).flatMap (zna D ns (ids D ns l) n)=(List.range 8).flatMap fun i=>match kid D ns (wd ns n i) with
    | some nx=>ids D ns l nx
    | none=>[]:=rfl
   have e2:(List.range 8).flatMap (zqx D ns (zmQ D ns l) (l+1) n first)=zmQ D ns (l+1) n first:=rfl
   have e3:ids D ns (l+1) n=n::(List.range 8).flatMap (zna D ns (ids D ns l) n):=rfl;rw [e2] at h1;rw [e3,zg4,List.nodup_cons];refine ⟨h1.1.trans ?_,h1.2⟩;simp only [good];constructor
   ·rintro ⟨a1,a2,a3⟩;refine ⟨fun i hi=>a1 i (by omega) (by omega),⟨fun hm=>?_,a2⟩,fun i hi=>?_⟩
    ·have:=a3 n hm;rw [hset] at this;simp at this
    ·rcases List.mem_cons.1 hi with rfl|hi
     ·exact hb
     ·have:=a3 i hi;rw [hset] at this;simp only [Bool.or_eq_false_iff] at this;exact this.2
   ·rintro ⟨a1,a2,a3⟩;refine ⟨fun j _ hj=>a1 j (by omega),a2.2,fun j hj=>?_⟩;rw [hset,a3 j (by simp [hj])];simp only [Bool.or_false,decide_eq_false_iff_not];rintro rfl;exact a2.1 hj
end
end Go.AM
namespace Go.AM
theorem zdN {α β:Type} {l:List α} {f g:α->List β} (h:∀ a∈l,f a=g a):l.flatMap f=l.flatMap g:=by
 induction l with
 | nil=>rfl
 | cons a l ih=>rw [List.flatMap_cons,List.flatMap_cons,h a (by simp),ih fun b hb=>h b (by simp [hb])]
theorem zfd {α β:Type} {l:List α} {f g:α->Option β} (h:∀ a∈l,f a=g a):l.filterMap f=l.filterMap g:=by
 induction l with
 | nil=>rfl
 | cons a l ih=>rw [List.filterMap_cons,List.filterMap_cons,h a (by simp),ih fun b hb=>h b (by simp [hb])]
def plN (D:Wd) (ns:NdL) (r:Nat):Nat->Nat->Option Nat
 | 0,_=>some r
 | d+1,q=>(plN D ns r d (q/8)).bind fun n=>kid D ns (wd ns n (q%8))
def Pos:List (Nat×Nat):=(0,0)::(List.range 8).flatMap fun i=>(1,i)::(List.range 8).map fun j=>(2,i*8+j)
theorem za0 {x:Nat×Nat}:x∈Pos↔(x.1=0∧x.2=0)∨(x.1=1∧x.2<8)∨(x.1=2∧x.2<64):=by
 obtain ⟨a,b⟩:=x;simp only [Pos,List.mem_cons,Prod.mk.injEq,List.mem_flatMap,List.mem_range,List.mem_map];constructor
 ·rintro (⟨rfl,rfl⟩|⟨i,hi,⟨rfl,rfl⟩|⟨j,hj,rfl,rfl⟩⟩)
  ·exact .inl ⟨rfl,rfl⟩
  ·exact .inr (.inl ⟨rfl,hi⟩)
  ·exact .inr (.inr ⟨rfl,by omega⟩)
 ·rintro (⟨rfl,rfl⟩|⟨rfl,h⟩|⟨rfl,h⟩)
  ·exact .inl ⟨rfl,rfl⟩
  ·exact .inr ⟨b,h,.inl ⟨rfl,rfl⟩⟩
  ·exact .inr ⟨b/8,by omega,.inr ⟨b%8,by omega,rfl,by omega⟩⟩
theorem zjE:Pos.Nodup:=by decide +kernel
section
variable {D:Wd} {ns:NdL} {r:Nat}
theorem zn5:ids D ns 2 r=Pos.filterMap fun x=>plN D ns r x.1 x.2:=by
 simp only [ids,Pos,List.filterMap_cons,plN];congr 1;rw [List.filterMap_flatMap];refine zdN fun i hi=>?_;have hi':i<8:=List.mem_range.1 hi;simp only [List.filterMap_cons,plN,List.filterMap_map];have e1:i%8=i:=by omega
 simp only [Option.bind_some,e1];have e2:∀ j∈List.range 8,(match kid D ns (wd ns r i) with|some n=>kid D ns (wd ns n j)|none=>none)=((fun x:Nat×Nat=>plN D ns r x.1 x.2) ∘ fun j=>(2,i*8+j)) j:=fun j hj=>by
  have hj':j<8:=List.mem_range.1 hj;have e3:(i*8+j)/8=i:=by omega
  have e4:(i*8+j)%8=j:=by omega
  simp only [Function.comp,plN,Option.bind_some,e3,e4,e1];cases kid D ns (wd ns r i)<;>rfl
 cases hk:kid D ns (wd ns r i) with
 | none =>
  simp only [hk] at e2 ⊢;symm;rw [List.filterMap_eq_nil_iff];intro j hj;rw [<- e2 j hj]
 | some n =>
  simp only [hk] at e2 ⊢;congr 1;have:List.filterMap ((fun x:Nat×Nat=>plN D ns r x.1 x.2) ∘ fun j=>(2,i*8+j)) (List.range 8)=List.filterMap (fun j=>kid D ns (wd ns n j)) (List.range 8):=by exact zfd fun j hj=>(e2 j hj).symm
  rw [this];induction (List.range 8) with
  | nil=>rfl
  | cons a l ih=>rw [List.flatMap_cons,List.filterMap_cons,ih];cases kid D ns (wd ns n a)<;>rfl
theorem zn6:(ids D ns 2 r).Nodup↔∀ x∈Pos,∀ y∈Pos,∀ n,plN D ns r x.1 x.2=some n->plN D ns r y.1 y.2=some n->x=y:=by
 rw [zn5];unfold List.Nodup;rw [List.pairwise_filterMap];constructor
 ·intro h x hx y hy n h1 h2;rw [List.pairwise_iff_getElem] at h;obtain ⟨i,hi,rfl⟩:=List.getElem_of_mem hx;obtain ⟨j,hj,rfl⟩:=List.getElem_of_mem hy;rcases Nat.lt_trichotomy i j with hij|rfl|hij
  ·exact absurd rfl (h i j hi hj hij n h1 n h2)
  ·rfl
  ·exact absurd rfl (h j i hj hi hij n h2 n h1)
 ·intro h;have:=List.pairwise_iff_getElem.1 zjE;refine List.pairwise_iff_getElem.2 fun i j hi hj hij b h1 b' h2 e=>?_;subst e;exact this i j hi hj hij (h _ (List.getElem_mem hi) _ (List.getElem_mem hj) b h1 h2)
theorem znJ {n:Nat}:n∈ids D ns 2 r↔∃ x∈Pos,plN D ns r x.1 x.2=some n:=by rw [zn5,List.mem_filterMap]
structure zv0 (D:Wd):Prop where
 flat:∀ w,D.ok 0 w=true->D.tab w=none
 one:∀ l w,D.ok l w=true->D.hug w=true->l=1
 notab:∀ w,D.hug w=true->D.tab w=none
theorem zlr (hD:zv0 D):good D ns 2 r 0↔∀ x∈Pos,∀ n,plN D ns r x.1 x.2=some n->∀ i,i<8->D.ok (2 - x.1) (wd ns n i)=true∧(x.1=1->D.hug (wd ns n i)=true->D.adm ((x.2*8+i:Nat):Int)=true)∧∀ g,D.tab (wd ns n i)=some g->∃ nx,fnd ns g=some nx:=by
 constructor
 ·intro h x hx n hn i hi;rcases za0.1 hx with ⟨h1,h2⟩|⟨h1,h2⟩|⟨h1,h2⟩
  ·obtain ⟨a,b⟩:=x;simp only at h1 h2;subst h1 h2;simp only [plN,Option.some.injEq] at hn;subst hn;have:=(h i hi).1;exact ⟨this.1,fun e=>by simp at e,this.2.2⟩
  ·obtain ⟨a,b⟩:=x;simp only at h1 h2;subst h1;simp only [plN,Option.bind_some,show b%8=b by omega] at hn;have:=((h b h2).2 n hn i hi).1;refine ⟨this.1,fun _ hh=>?_,this.2.2⟩;have:=this.2.1 hh;simp only at this ⊢;rw [show (0+b*8^(1+1)+i*8^(0+1))/8=b*8+i by omega] at this;exact this
  ·obtain ⟨a,b⟩:=x;simp only at h1 h2;subst h1;simp only [plN,Option.bind_some] at hn;cases hk:kid D ns (wd ns r (b/8%8)) with
   | none=>rw [hk] at hn;simp at hn
   | some m =>rw [hk] at hn;simp only [Option.bind_some] at hn;have:=((h (b/8) (by omega)).2 m (by rw [show b/8%8=b/8 by omega] at hk;exact hk) (b%8) (by omega)).2 n hn i hi;exact ⟨this.1,fun e=>by simp at e,this.2.2⟩
 ·intro h i hi;have h0:=h (0,0) (by simp [Pos]) r rfl;have hnh:∀ {l w:Nat},l≠1->D.ok l w=true->D.hug w=true->False:=fun hl h1 h2=>hl (hD.one _ _ h1 h2);refine ⟨⟨(h0 i hi).1,fun hh=>(hnh (by decide) (h0 i hi).1 hh).elim,(h0 i hi).2.2⟩,fun n1 hk=>?_⟩;have h1:=h (1,i) (za0.2 (.inr (.inl ⟨rfl,hi⟩))) n1 (by simp only [plN,Option.bind_some,show i%8=i by omega];exact hk);intro j hj;refine ⟨⟨(h1 j hj).1,fun hh=>?_,(h1 j hj).2.2⟩,fun n2 hk2=>?_⟩
  ·have:=(h1 j hj).2.1 rfl hh;simp only at this;rw [show (0+i*8^(1+1)+j*8^(0+1))/8=i*8+j by omega];exact this
  ·have h2:=h (2,i*8+j) (za0.2 (.inr (.inr ⟨rfl,by show i*8+j<64;omega⟩))) n2 (by simp only [plN,Option.bind_some,show (i*8+j)/8=i by omega,show (i*8+j)%8=j by omega,show i%8=i by omega];rw [hk];exact hk2);intro k hk3;exact ⟨(h2 k hk3).1,fun hh=>(hnh (l:=0) (by decide) (h2 k hk3).1 hh).elim,(h2 k hk3).2.2⟩
def ztD (D:Wd) (ns:NdL) (r:Nat) (g:Nat):Bool:=match plN D ns r 1 (g/8) with
 | some n=>D.hug (wd ns n (g%8))
 | none=>false
def zxw (D:Wd) (ns:NdL) (r:Nat):List Int:=((List.range 64).filter (ztD D ns r)).map fun g:Nat=>(g:Int)
theorem zrF:List.range 64=(List.range 8).flatMap fun i=>(List.range 8).map fun j=>i*8+j:=by decide +kernel
theorem zpN (hD:zv0 D) (hg:good D ns 2 r 0):zmQ D ns 2 r 0=zxw D ns r:=by
 unfold zxw;rw [zrF,List.filter_flatMap,List.map_flatMap];unfold zmQ;refine zdN fun i hi=>?_;have hi':i<8:=List.mem_range.1 hi;have h0:=(hg i hi').1;have:D.hug (wd ns r i)=false:=by
  cases hh:D.hug (wd ns r i) with
  | false=>rfl
  | true=>exact absurd (hD.one _ _ h0.1 hh) (by decide)
 simp only [this,Bool.false_eq_true,if_false,List.nil_append];rw [List.filter_map,List.map_map];have e:∀ j,j<8->ztD D ns r (i*8+j)=(match kid D ns (wd ns r i) with|some n=>D.hug (wd ns n j)|none=>false):=fun j hj=>by unfold ztD;simp only [plN,Option.bind_some,show (i*8+j)/8=i by omega,show (i*8+j)%8=j by omega,show i%8=i by omega]
 cases hk:kid D ns (wd ns r i) with
 | none =>
  simp only;symm;rw [List.map_eq_nil_iff,List.filter_eq_nil_iff];intro j hj;have:=e j (List.mem_range.1 hj);rw [hk] at this;simp [this]
 | some n =>
  simp only;have h1:=(hg i hi').2 n hk;unfold zmQ;rw [hk] at e;simp only at e;have hn0:∀ j,j<8->(match kid D ns (wd ns n j) with|some nx=>zmQ D ns 0 nx (0+i*8^(1+1)+j*8^(0+1))|none=>[])=[]:=fun j hj=>by
   cases hk2:kid D ns (wd ns n j) with
   | none=>rfl
   | some m =>
    simp only;unfold zmQ;rw [List.flatMap_eq_nil_iff];intro k hk3;have h2:=(h1 j hj).2 m hk2 k (List.mem_range.1 hk3);have:D.hug (wd ns m k)=false:=by
     cases hh:D.hug (wd ns m k) with
     | false=>rfl
     | true=>exact absurd (hD.one _ _ h2.1 hh) (by decide)
    simp [this]
  have:∀ l:List Nat,(∀ j∈l,j<8)->(l.flatMap fun j=>(if D.hug (wd ns n j)=true then [(((0+i*8^(1+1)+j*8^(0+1))/8:Nat):Int)] else [])++(match kid D ns (wd ns n j) with|some nx=>zmQ D ns 0 nx (0+i*8^(1+1)+j*8^(0+1))|none=>[]))=List.map ((fun g:Nat=>(g:Int)) ∘ fun j=>i*8+j) (List.filter (ztD D ns r ∘ fun j=>i*8+j) l):=by
   intro l hl;induction l with
   | nil=>rfl
   | cons j l ih =>rw [List.flatMap_cons,ih fun k hk=>hl k (by simp [hk]),hn0 j (hl j (by simp)),List.append_nil,List.filter_cons];simp only [Function.comp,e j (hl j (by simp))];rw [show (0+i*8^(1+1)+j*8^(0+1))/8=i*8+j by omega];cases D.hug (wd ns n j)<;>simp
  exact this _ fun j hj=>List.mem_range.1 hj
end
end Go.AM
namespace Go.AM
abbrev Mm:=Int->Option (List Nat)
def wM (M:Mm) (f:Int) (i:Nat):Nat:=match M f with
 | some ws=>ws.getD i 0
 | none=>0
def frP (D:Wd) (M:Mm) (root:Int):Nat->Nat->Option Int
 | 0,_=>some root
 | d+1,q=>(frP D M root d (q/8)).bind fun f=>D.tab (wM M f (q%8))
structure VM (D:Wd) (M:Mm) (root:Int):Prop where
 nd:∀ d q,(d,q)∈Pos->∀ f,frP D M root d q=some f->∃ ws,M f=some ws∧ws.length=8∧∀ i,i<8->D.ok (2 - d) (ws.getD i 0)=true
 inj:∀ d q d' q',(d,q)∈Pos->(d',q')∈Pos->∀ f,frP D M root d q=some f->frP D M root d' q'=some f->d=d'∧q=q'
 all:∀ f ws,M f=some ws->∃ d q,(d,q)∈Pos∧frP D M root d q=some f
def zcs (M:Mm) (f:Int) (i w:Nat):Mm:=fun g=>if g=f then (M f).map (·.set i w) else M g
def zaW (M:Mm) (f:Int) (v:Option (List Nat)):Mm:=fun g=>if g=f then v else M g
def zs8:List Nat:=List.replicate 8 0
section
variable {D:Wd} {M:Mm} {root:Int}
theorem zcP {f g:Int} {i j w:Nat} {ws:List Nat} (h:M f=some ws) (hi:i<ws.length):wM (zcs M f i w) g j=if g=f∧j=i then w else wM M g j:=by
 unfold wM zcs;by_cases e:g=f
 ·subst e;simp only [if_true,h,Option.map_some,true_and];rw [List.getD_eq_getElem?_getD,List.getElem?_set];by_cases e2:i=j
  ·subst e2;simp [hi]
  ·have:¬ j=i:=fun h=>e2 h.symm;simp [e2,this,List.getD_eq_getElem?_getD]
 ·simp [e]
theorem zeb {f g:Int} {v:Option (List Nat)} {j:Nat}:wM (zaW M f v) g j=if g=f then (v.getD []).getD j 0 else wM M g j:=by
 unfold wM zaW;by_cases e:g=f
 ·subst e;cases v<;>simp
 ·simp [e]
theorem zcr (i:Nat):zs8.getD i 0=0:=by unfold zs8;rw [List.getD_eq_getElem?_getD,List.getElem?_replicate];split<;>rfl
theorem zs3:(0,0)∈Pos:=by decide
theorem ztG {q:Nat} (h:q<8):(1,q)∈Pos:=za0.2 (.inr (.inl ⟨rfl,h⟩))
theorem zwP {q:Nat} (h:q<64):(2,q)∈Pos:=za0.2 (.inr (.inr ⟨rfl,h⟩))
theorem zgs {d q:Nat} (h:(d+1,q)∈Pos):(d,q/8)∈Pos:=by have:=za0.1 h;simp only at this;refine za0.2 ?_;simp only;omega
theorem zgt {d q i:Nat} (h:(d,q)∈Pos) (hd:d<2) (hi:i<8):(d+1,q*8+i)∈Pos:=by have:=za0.1 h;simp only at this;refine za0.2 ?_;simp only;omega
theorem zsn {M':Mm} (h:∀ d q,(d,q)∈Pos->∀ f,frP D M root d q=some f->∀ i,i<8->D.tab (wM M' f i)=D.tab (wM M f i)):∀ d q,(d,q)∈Pos->frP D M' root d q=frP D M root d q:=by
 intro d;induction d with
 | zero=>intro q _;rfl
 | succ d ih =>
  intro q hq;simp only [frP];rw [ih (q/8) (zgs hq)];cases hf:frP D M root d (q/8) with
  | none=>rfl
  | some f=>simp only [Option.bind_some];exact h d (q/8) (zgs hq) f hf (q%8) (by omega)
theorem VM.put (hV:VM D M root) {d q:Nat} (hx:(d,q)∈Pos) {f:Int} (hf:frP D M root d q=some f) {i w:Nat} (hi:i<8) (ht:D.tab w=D.tab (wM M f i)) (hok:D.ok (2 - d) w=true) :
  VM D (zcs M f i w) root∧∀ d q,(d,q)∈Pos->frP D (zcs M f i w) root d q=frP D M root d q:=by
 obtain ⟨ws,h1,h2,h3⟩:=hV.nd d q hx f hf;have hfr:∀ d q,(d,q)∈Pos->frP D (zcs M f i w) root d q=frP D M root d q:=zsn fun d' q' hy g hg j hj=>by
  rw [zcP h1 (by omega)];split
  ·rename_i e;obtain ⟨rfl,rfl⟩:=e;exact ht
  ·rfl
 refine ⟨⟨fun d' q' hy g hg=>?_,fun a b a' b' ha hb g hg hg'=>?_,fun g us hg=>?_⟩,hfr⟩
 ·rw [hfr _ _ hy] at hg;by_cases e:g=f
  ·subst e;obtain ⟨rfl,rfl⟩:=hV.inj _ _ _ _ hy hx g hg hf;refine ⟨ws.set i w,by simp [zcs,h1],by simp [h2],fun j hj=>?_⟩;rw [List.getD_eq_getElem?_getD,List.getElem?_set];by_cases e2:i=j
   ·subst e2;simp [h2,hi,hok]
   ·simp only [e2,if_false];have:=h3 j hj;rwa [List.getD_eq_getElem?_getD] at this
  ·obtain ⟨us,k1,k2⟩:=hV.nd _ _ hy g hg;exact ⟨us,by simp [zcs,e,k1],k2⟩
 ·rw [hfr _ _ ha] at hg;rw [hfr _ _ hb] at hg';exact hV.inj _ _ _ _ ha hb g hg hg'
 ·have:∃ us',M g=some us':=by
   unfold zcs at hg;split at hg
   ·rename_i e;exact ⟨ws,by rw [e];exact h1⟩
   ·exact ⟨us,hg⟩
  obtain ⟨us',hu⟩:=this;obtain ⟨d',q',hy,k⟩:=hV.all g us' hu;exact ⟨d',q',hy,by rw [hfr _ _ hy];exact k⟩
structure WdZ (D:Wd):Prop where
 ok:∀ l,D.ok l 0=true
 tab:D.tab 0=none
theorem VM.grow (hZ:WdZ D) (hV:VM D M root) {d q:Nat} (hx:(d,q)∈Pos) (hd:d<2) {f:Int} (hf:frP D M root d q=some f) {i w:Nat} (hi:i<8) (h0:D.tab (wM M f i)=none) {g:Int} (hg:M g=none) (ht:D.tab w=some g) (hok:D.ok (2 - d) w=true) :
  VM D (zaW (zcs M f i w) g (some zs8)) root∧∀ a b,(a,b)∈Pos->frP D (zaW (zcs M f i w) g (some zs8)) root a b=if a=d+1∧b=q*8+i then some g else frP D M root a b:=by
 obtain ⟨ws,h1,h2,h3⟩:=hV.nd d q hx f hf;have hfg:¬ f=g:=fun e=>by rw [e] at h1;rw [h1] at hg;simp at hg
 have hw:∀ h j,wM (zaW (zcs M f i w) g (some zs8)) h j=if h=g then 0 else if h=f∧j=i then w else wM M h j:=fun h j=>by
  rw [zeb];by_cases e:h=g
  ·rw [if_pos e,if_pos e];exact zcr j
  ·rw [if_neg e,if_neg e,zcP h1 (by omega)]
 have hne:∀ a b,(a,b)∈Pos->frP D M root a b≠some g:=fun a b ha e=>by obtain ⟨us,k1,_⟩:=hV.nd a b ha g e;rw [k1] at hg;simp at hg
 have hch:frP D M root (d+1) (q*8+i)=none:=by simp only [frP];rw [show (q*8+i)/8=q by omega,show (q*8+i)%8=i by omega,hf];exact h0
 have hfr:∀ a b,(a,b)∈Pos->frP D (zaW (zcs M f i w) g (some zs8)) root a b=if a=d+1∧b=q*8+i then some g else frP D M root a b:=by
  intro a;induction a with
  | zero=>intro b _;rw [if_neg (by omega)];rfl
  | succ a ih =>
   intro b hb;have hup:=zgs hb;simp only [frP];rw [ih (b/8) hup];by_cases e1:a=d+1∧b/8=q*8+i
   ·rw [if_pos e1,if_neg (by omega)];obtain ⟨e2,e3⟩:=e1;rw [e2,e3,hch];simp only [Option.bind_some,Option.bind_none];rw [hw,if_pos rfl];exact hZ.tab
   ·rw [if_neg e1];cases hh:frP D M root a (b/8) with
    | none =>
     simp only [Option.bind_none];rw [if_neg];rintro ⟨e2,e3⟩;have e4:a=d:=by omega
     have e5:b/8=q:=by omega
     rw [e4,e5,hf] at hh;simp at hh
    | some h =>
     simp only [Option.bind_some];have hhg:¬ h=g:=fun e=>hne _ _ hup (by rw [hh,e]);rw [hw,if_neg hhg];by_cases e2:h=f∧b%8=i
     ·rw [if_pos e2];obtain ⟨e3,e4⟩:=e2;subst e3;obtain ⟨e5,e6⟩:=hV.inj _ _ _ _ hup hx h hh hf;rw [if_pos ⟨by omega,by omega⟩,ht]
     ·rw [if_neg e2,if_neg];rintro ⟨e3,e4⟩;have e5:a=d:=by omega
      have e6:b/8=q:=by omega
      rw [e5,e6,hf] at hh;simp only [Option.some.injEq] at hh;exact e2 ⟨hh.symm,by omega⟩
 refine ⟨⟨fun a b ha h hh=>?_,fun a b a' b' ha hb h hh hh'=>?_,fun h us hh=>?_⟩,hfr⟩
 ·rw [hfr _ _ ha] at hh;split at hh
  ·simp only [Option.some.injEq] at hh;subst hh;refine ⟨zs8,by simp [zaW],by simp [zs8],fun j _=>by rw [zcr];exact hZ.ok _⟩
  ·have hhg:¬ h=g:=fun e=>hne _ _ ha (by rw [hh,e]);by_cases e:h=f
   ·subst e;obtain ⟨rfl,rfl⟩:=hV.inj _ _ _ _ ha hx h hh hf;refine ⟨ws.set i w,by simp [zaW,hhg,zcs,h1],by simp [h2],fun j hj=>?_⟩;rw [List.getD_eq_getElem?_getD,List.getElem?_set];by_cases e2:i=j
    ·subst e2;simp [h2,hi,hok]
    ·simp only [e2,if_false];have:=h3 j hj;rwa [List.getD_eq_getElem?_getD] at this
   ·obtain ⟨us,k1,k2⟩:=hV.nd _ _ ha h hh;exact ⟨us,by simp [zaW,hhg,zcs,e,k1],k2⟩
 ·rw [hfr _ _ ha] at hh;rw [hfr _ _ hb] at hh';split at hh<;>split at hh'
  ·omega
  ·rename_i e _;simp only [Option.some.injEq] at hh;subst hh;exact absurd hh' (hne _ _ hb)
  ·rename_i _ e;simp only [Option.some.injEq] at hh';subst hh';exact absurd hh (hne _ _ ha)
  ·exact hV.inj _ _ _ _ ha hb h hh hh'
 ·by_cases e:h=g
  ·subst e;exact ⟨d+1,q*8+i,zgt hx hd hi,by rw [hfr _ _ (zgt hx hd hi),if_pos ⟨rfl,rfl⟩]⟩
  ·have:∃ us',M h=some us':=by
    unfold zaW zcs at hh;simp only [e,if_false] at hh;split at hh
    ·rename_i e2;exact ⟨ws,by rw [e2];exact h1⟩
    ·exact ⟨us,hh⟩
   obtain ⟨us',hu⟩:=this;obtain ⟨a,b,ha,k⟩:=hV.all h us' hu;refine ⟨a,b,ha,?_⟩;rw [hfr _ _ ha,if_neg]
   ·exact k
   ·rintro ⟨rfl,rfl⟩;rw [hch] at k;simp at k
theorem VM.prune (hV:VM D M root) {d q:Nat} (hx:(d,q)∈Pos) (hd:d<2) {f:Int} (hf:frP D M root d q=some f) {i w:Nat} (hi:i<8) {g:Int} (h0:D.tab (wM M f i)=some g) (hlf:∀ j,j<8->D.tab (wM M g j)=none) (ht:D.tab w=none) (hok:D.ok (2 - d) w=true) :
  VM D (zaW (zcs M f i w) g none) root∧∀ a b,(a,b)∈Pos->frP D (zaW (zcs M f i w) g none) root a b=if a=d+1∧b=q*8+i then none else frP D M root a b:=by
 obtain ⟨ws,h1,h2,h3⟩:=hV.nd d q hx f hf;have hcx:=zgt hx hd hi;have hch:frP D M root (d+1) (q*8+i)=some g:=by simp only [frP];rw [show (q*8+i)/8=q by omega,show (q*8+i)%8=i by omega,hf];exact h0
 have hfg:¬ f=g:=fun e=>by subst e;have:=hV.inj _ _ _ _ hx hcx f hf hch;omega
 have hw:∀ h j,¬ h=g->wM (zaW (zcs M f i w) g none) h j=if h=f∧j=i then w else wM M h j:=fun h j e=>by rw [zeb,if_neg e,zcP h1 (by omega)]
 have hfr:∀ a b,(a,b)∈Pos->frP D (zaW (zcs M f i w) g none) root a b=if a=d+1∧b=q*8+i then none else frP D M root a b:=by
  intro a;induction a with
  | zero=>intro b _;rw [if_neg (by omega)];rfl
  | succ a ih =>
   intro b hb;have hup:=zgs hb;simp only [frP];rw [ih (b/8) hup];by_cases e1:a=d+1∧b/8=q*8+i
   ·rw [if_pos e1,if_neg (by omega)];obtain ⟨e2,e3⟩:=e1;rw [e2,e3,hch];simp only [Option.bind_some,Option.bind_none];exact (hlf _ (by omega)).symm
   ·rw [if_neg e1];cases hh:frP D M root a (b/8) with
    | none =>
     simp only [Option.bind_none];split<;>rfl
    | some h =>
     simp only [Option.bind_some];have hhg:¬ h=g:=fun e=>by subst e;have:=hV.inj _ _ _ _ hup hcx h hh hch;omega
     rw [hw _ _ hhg];by_cases e2:h=f∧b%8=i
     ·rw [if_pos e2];obtain ⟨e3,e4⟩:=e2;subst e3;obtain ⟨e5,e6⟩:=hV.inj _ _ _ _ hup hx h hh hf;rw [if_pos ⟨by omega,by omega⟩,ht]
     ·rw [if_neg e2,if_neg];rintro ⟨e3,e4⟩;have e5:a=d:=by omega
      have e6:b/8=q:=by omega
      rw [e5,e6,hf] at hh;simp only [Option.some.injEq] at hh;exact e2 ⟨hh.symm,by omega⟩
 refine ⟨⟨fun a b ha h hh=>?_,fun a b a' b' ha hb h hh hh'=>?_,fun h us hh=>?_⟩,hfr⟩
 ·rw [hfr _ _ ha] at hh;split at hh
  ·simp at hh
  ·rename_i hnc;have hhg:¬ h=g:=fun e=>by subst e;exact hnc (hV.inj _ _ _ _ ha hcx h hh hch)
   by_cases e:h=f
   ·subst e;obtain ⟨rfl,rfl⟩:=hV.inj _ _ _ _ ha hx h hh hf;refine ⟨ws.set i w,by simp [zaW,hhg,zcs,h1],by simp [h2],fun j hj=>?_⟩;rw [List.getD_eq_getElem?_getD,List.getElem?_set];by_cases e2:i=j
    ·subst e2;simp [h2,hi,hok]
    ·simp only [e2,if_false];have:=h3 j hj;rwa [List.getD_eq_getElem?_getD] at this
   ·obtain ⟨us,k1,k2⟩:=hV.nd _ _ ha h hh;exact ⟨us,by simp [zaW,hhg,zcs,e,k1],k2⟩
 ·rw [hfr _ _ ha] at hh;rw [hfr _ _ hb] at hh';split at hh<;>split at hh'
  ·simp at hh
  ·simp at hh
  ·simp at hh'
  ·exact hV.inj _ _ _ _ ha hb h hh hh'
 ·have e:¬ h=g:=fun e=>by subst e;simp [zaW] at hh
  have:∃ us',M h=some us':=by
   unfold zaW zcs at hh;simp only [e,if_false] at hh;split at hh
   ·rename_i e2;exact ⟨ws,by rw [e2];exact h1⟩
   ·exact ⟨us,hh⟩
  obtain ⟨us',hu⟩:=this;obtain ⟨a,b,ha,k⟩:=hV.all h us' hu;refine ⟨a,b,ha,?_⟩;rw [hfr _ _ ha,if_neg]
  ·exact k
  ·rintro ⟨rfl,rfl⟩;rw [hch] at k;simp only [Option.some.injEq] at k;exact e k.symm
end
end Go.AM
namespace Go.AM
def Mof (ns:NdL):Mm:=fun f=>(fnd ns f).map fun i=>(ns.getD i (0,[])).2
def zby (ns:NdL):Prop:=ns.Pairwise fun a b=>a.1<b.1
def zpy (ns:NdL):Prop:=∀ n∈ns,n.2.length=8
section
variable {D:Wd} {ns:NdL} {root:Int}
theorem fFr {f:Int} {i:Nat} (h:fnd ns f=some i):(ns.getD i (0,[])).1=f:=by
 have hl:=zay h;unfold fnd at h;split at h
 ·rename_i hh;simp only [Option.some.injEq] at h;subst h;have:=List.findIdx_getElem (w:=hh);rw [List.getD_eq_getElem?_getD,List.getElem?_eq_getElem hh];simpa using this
 ·simp at h
theorem zoO (h:zby ns) {i j:Nat} (hij:i<j) (hj:j<ns.length):(ns.getD i (0,[])).1<(ns.getD j (0,[])).1:=by have:=List.pairwise_iff_getElem.1 h i j (by omega) hj hij;rw [List.getD_eq_getElem?_getD,List.getElem?_eq_getElem (by omega:i<ns.length),List.getD_eq_getElem?_getD,List.getElem?_eq_getElem hj];exact this
theorem zlx (h:zby ns) {i:Nat} (hi:i<ns.length):fnd ns (ns.getD i (0,[])).1=some i:=by
 have:ns.findIdx (fun n=>decide (n.1=(ns.getD i (0,[])).1))=i:=by rw [List.findIdx_eq hi];refine ⟨by rw [List.getD_eq_getElem?_getD,List.getElem?_eq_getElem hi];simp,fun j hj=>?_⟩;have:=zoO h hj hi;rw [List.getD_eq_getElem?_getD,List.getElem?_eq_getElem (by omega:j<ns.length)] at this;simp only [Option.getD_some] at this;simp only [decide_eq_false_iff_not];omega
 unfold fnd;rw [this,if_pos hi]
theorem zbR {f:Int} {n:Nat} (h:fnd ns f=some n) (i:Nat):wM (Mof ns) f i=wd ns n i:=by unfold wM Mof wd;rw [h];rfl
theorem zaB {f:Int} {ws:List Nat}:Mof ns f=some ws↔∃ i,fnd ns f=some i∧(ns.getD i (0,[])).2=ws:=by unfold Mof;simp
theorem zs6 (h8:zpy ns) {f:Int} {ws:List Nat} (h:Mof ns f=some ws):ws.length=8:=by obtain ⟨i,h1,rfl⟩:=zaB.1 h;have:=zay h1;rw [List.getD_eq_getElem?_getD,List.getElem?_eq_getElem this];exact h8 _ (List.getElem_mem this)
def frN (ns:NdL) (n:Nat):Int:=(ns.getD n (0,[])).1
theorem zb0 {w n:Nat}:kid D ns w=some n↔∃ g,D.tab w=some g∧fnd ns g=some n:=by unfold kid;cases D.tab w<;>simp
theorem zqU {r:Nat} (hr:fnd ns root=some r) (hfound:∀ d q,(d,q)∈Pos->∀ n,plN D ns r d q=some n->∀ i,i<8->∀ g,D.tab (wd ns n i)=some g->d<2->∃ nx,fnd ns g=some nx) :
  ∀ d q,(d,q)∈Pos->frP D (Mof ns) root d q=(plN D ns r d q).map (frN ns)∧∀ n,plN D ns r d q=some n->fnd ns (frN ns n)=some n:=by
 intro d;induction d with
 | zero =>
  intro q _;simp only [frP,plN,Option.map_some,Option.some.injEq];refine ⟨(fFr hr).symm,?_⟩;rintro n rfl;show fnd ns (ns.getD r (0,[])).1=some r;rw [fFr hr];exact hr
 | succ d ih =>
  intro q hq;have hup:=zgs hq;obtain ⟨h1,h2⟩:=ih _ hup;simp only [frP,plN];rw [h1];cases hp:plN D ns r d (q/8) with
  | none=>exact ⟨rfl,fun n h=>by simp at h⟩
  | some m =>
   simp only [Option.map_some,Option.bind_some];rw [zbR (h2 m hp)];have hd:d<2:=by have:=za0.1 hq;simp only at this;omega
   cases ht:D.tab (wd ns m (q%8)) with
   | none=>unfold kid;rw [ht];exact ⟨rfl,fun n h=>by simp at h⟩
   | some g =>obtain ⟨nx,h3⟩:=hfound d _ hup m hp (q%8) (by omega) g ht hd;have hk:kid D ns (wd ns m (q%8))=some nx:=zb0.2 ⟨g,ht,h3⟩;rw [hk];simp only [Option.map_some,Option.some.injEq];refine ⟨(fFr h3).symm,?_⟩;rintro n rfl;show fnd ns (ns.getD nx (0,[])).1=some nx;rw [fFr h3];exact h3
theorem zm3 (hD:zv0 D) (ha:zby ns) (h8:zpy ns) {r:Nat} (hr:fnd ns root=some r) :
  (good D ns 2 r 0∧(ids D ns 2 r).Nodup∧∀ n,n<ns.length->n∈ids D ns 2 r) ↔
   (VM D (Mof ns) root∧∀ q i f,q<8->i<8->frP D (Mof ns) root 1 q=some f->D.hug (wM (Mof ns) f i)=true->D.adm ((q*8+i:Nat):Int)=true):=by
 rw [zlr hD,zn6];constructor
 ·rintro ⟨h1,h2,h3⟩;have hfr:=zqU hr fun d q hx n hn i hi g hg _=>(h1 (d,q) hx n hn i hi).2.2 g hg;have key:∀ d q,(d,q)∈Pos->∀ f,frP D (Mof ns) root d q=some f->∃ n,plN D ns r d q=some n∧frN ns n=f∧fnd ns f=some n:=fun d q hx f hf=>by
   rw [(hfr d q hx).1] at hf;cases hp:plN D ns r d q with
   | none=>rw [hp] at hf;simp at hf
   | some n =>rw [hp] at hf;simp only [Option.map_some,Option.some.injEq] at hf;exact ⟨n,rfl,hf,by rw [<- hf];exact (hfr d q hx).2 n hp⟩
  refine ⟨⟨fun d q hx f hf=>?_,fun d q d' q' hx hy f hf hf'=>?_,fun f ws hf=>?_⟩,fun q i f hq hi hf hh=>?_⟩
  ·obtain ⟨n,k1,k2,k3⟩:=key d q hx f hf;refine ⟨(ns.getD n (0,[])).2,zaB.2 ⟨n,k3,rfl⟩,zs6 h8 (zaB.2 ⟨n,k3,rfl⟩),fun i hi=>?_⟩;exact (h1 (d,q) hx n k1 i hi).1
  ·obtain ⟨n,k1,k2,k3⟩:=key d q hx f hf;obtain ⟨m,l1,l2,l3⟩:=key d' q' hy f hf';rw [k3] at l3;simp only [Option.some.injEq] at l3;subst l3;have:=h2 (d,q) hx (d',q') hy n k1 l1;simpa using this
  ·obtain ⟨n,k1,k2⟩:=zaB.1 hf;obtain ⟨x,hx,k3⟩:=znJ.1 (h3 n (zay k1));refine ⟨x.1,x.2,hx,?_⟩;rw [(hfr x.1 x.2 hx).1,k3];simp only [Option.map_some,Option.some.injEq];exact fFr k1
  ·obtain ⟨n,k1,k2,k3⟩:=key 1 q (ztG hq) f hf;rw [zbR k3] at hh;exact (h1 (1,q) (ztG hq) n k1 i hi).2.1 rfl hh
 ·rintro ⟨hV,hadm⟩;have hfr:∀ d q,(d,q)∈Pos->frP D (Mof ns) root d q=(plN D ns r d q).map (frN ns)∧∀ n,plN D ns r d q=some n->fnd ns (frN ns n)=some n:=by
   intro d;induction d with
   | zero =>
    intro q _;simp only [frP,plN,Option.map_some,Option.some.injEq];refine ⟨(fFr hr).symm,?_⟩;rintro n rfl;show fnd ns (ns.getD r (0,[])).1=some r;rw [fFr hr];exact hr
   | succ d ih =>
    intro q hq;have hup:=zgs hq;obtain ⟨h1,h2⟩:=ih _ hup;have hfP:frP D (Mof ns) root (d+1) q=(frP D (Mof ns) root d (q/8)).bind fun f=>D.tab (wM (Mof ns) f (q%8)):=rfl;simp only [plN];rw [h1] at hfP;cases hp:plN D ns r d (q/8) with
    | none=>rw [hp] at hfP;rw [hfP];exact ⟨rfl,fun n h=>by simp at h⟩
    | some m =>
     rw [hp] at hfP;simp only [Option.map_some,Option.bind_some] at hfP ⊢;rw [zbR (h2 m hp)] at hfP;cases ht:D.tab (wd ns m (q%8)) with
     | none=>rw [hfP,ht];unfold kid;rw [ht];exact ⟨rfl,fun n h=>by simp at h⟩
     | some g =>rw [ht] at hfP;obtain ⟨ws,k1,_⟩:=hV.nd _ _ hq g hfP;obtain ⟨nx,h3,_⟩:=zaB.1 k1;have hk:kid D ns (wd ns m (q%8))=some nx:=zb0.2 ⟨g,ht,h3⟩;rw [hk,hfP];simp only [Option.map_some,Option.some.injEq];refine ⟨(fFr h3).symm,?_⟩;rintro n rfl;show fnd ns (ns.getD nx (0,[])).1=some nx;rw [fFr h3];exact h3
  refine ⟨fun x hx n hn i hi=>?_,fun x hx y hy n h1 h2=>?_,fun n hn=>?_⟩
  ·obtain ⟨d,q⟩:=x;simp only at hn ⊢;have k1:=(hfr d q hx).1;have k2:=(hfr d q hx).2 n hn;rw [hn] at k1;obtain ⟨ws,l1,l2,l3⟩:=hV.nd d q hx _ k1;have hw:∀ i,wd ns n i=ws.getD i 0:=fun i=>by rw [<- zbR k2 i];unfold wM;rw [l1]
   have hok:D.ok (2 - d) (wd ns n i)=true:=by rw [hw];exact l3 i hi
   refine ⟨hok,fun e hh=>?_,fun g hg=>?_⟩
   ·subst e;have hq:q<8:=by have:=za0.1 hx;simp only at this;omega
    exact hadm q i _ hq hi k1 (by rw [zbR k2];exact hh)
   ·rcases Nat.lt_or_ge d 2 with hd|hd
    ·have hc:frP D (Mof ns) root (d+1) (q*8+i)=some g:=by simp only [frP];rw [show (q*8+i)/8=q by omega,show (q*8+i)%8=i by omega,k1];simp only [Option.map_some,Option.bind_some];rw [zbR k2];exact hg
     obtain ⟨us,m1,_⟩:=hV.nd _ _ (zgt hx hd hi) g hc;obtain ⟨nx,m2,_⟩:=zaB.1 m1;exact ⟨nx,m2⟩
    ·have:d=2:=by have:=za0.1 hx;simp only at this;omega
     subst this;rw [hD.flat _ hok] at hg;simp at hg
  ·have k1:=(hfr x.1 x.2 hx).1;have k2:=(hfr y.1 y.2 hy).1;rw [h1] at k1;rw [h2] at k2;obtain ⟨e1,e2⟩:=hV.inj _ _ _ _ hx hy _ k1 k2;exact Prod.ext e1 e2
  ·have hf:=zlx ha hn;obtain ⟨d,q,hx,k1⟩:=hV.all _ _ (zaB.2 ⟨n,hf,rfl⟩);refine znJ.2 ⟨(d,q),hx,?_⟩;have k2:=(hfr d q hx).1;rw [k1] at k2;cases hp:plN D ns r d q with
   | none=>rw [hp] at k2;simp at k2
   | some m =>rw [hp] at k2;simp only [Option.map_some,Option.some.injEq] at k2;have k3:=(hfr d q hx).2 m hp;rw [<- k2,hf] at k3;exact k3.symm
theorem zpP (hD:zv0 D) (ha:zby ns) (h8:zpy ns) {r:Nat} (hr:fnd ns root=some r) (hg:good D ns 2 r 0) {g:Nat} (hg64:g<64):ztD D ns r g=true↔∃ f,frP D (Mof ns) root 1 (g/8)=some f∧D.hug (wM (Mof ns) f (g%8))=true:=by
 have h1:=(zlr hD).1 hg;have hfr:=zqU hr fun d q hx n hn i hi g hg _=>(h1 (d,q) hx n hn i hi).2.2 g hg;obtain ⟨k1,k2⟩:=hfr 1 (g/8) (ztG (by omega));unfold ztD;rw [k1];cases hp:plN D ns r 1 (g/8) with
 | none=>simp
 | some n =>simp only [Option.map_some,Option.some.injEq,exists_eq_left'];rw [zbR (k2 n hp)]
end
end Go.AM
namespace Go.AM
open Go Go.Proofs Tryz
theorem zc1 {es:List (List Int×AV)} {q r:List Int} {a:AV}:zd8 (zgz es q a) r=if r=q then some a else zd8 es r:=by
 induction es with
 | nil =>
  simp only [zgz,zd8]
 | cons e es ih =>
  obtain ⟨k,b⟩:=e;simp only [zgz];split
  ·rename_i h;subst h;simp only [zd8];split<;>simp_all
  ·rename_i h;simp only [zd8,ih];by_cases h1:r=k
   ·subst h1;rw [if_pos rfl,if_neg fun e=>h e.symm];simp
   ·rw [if_neg h1,if_neg h1]
theorem zhV (l:List Nd) (n:Nat):gn l n=l.getD n (0,[]):=rfl
theorem zf5 {ns:List Nd} {f:Int}:∀ {n:Nat},(∀ k,k<n->(gn ns k).1≠f)->zd8 (zcF ns n) [f]=none
 | 0,_=>rfl
 | n+1,h=>by simp only [zcF];rw [zc1,if_neg,zf5 fun k hk=>h k (by omega)];intro e;simp only [cJ,and_true] at e;exact h n (by omega) e.symm
theorem zki {ns:List Nd} (ha:zby ns) {k:Nat}:∀ {n:Nat},k<n->n<=ns.length->zd8 (zcF ns n) [(gn ns k).1]=some (I k)
 | 0,h,_=>by omega
 | n+1,h,hn=>by
  simp only [zcF];rw [zc1];by_cases e:k=n
  ·subst e;simp
  ·rw [if_neg]
   ·exact zki ha (by omega) (by omega)
   ·intro e2;simp only [cJ,and_true] at e2;have:=zoO ha (i:=k) (j:=n) (by omega) (by omega);rw [zhV,zhV] at e2;omega
theorem zcE {ns:List Nd} (ha:zby ns) (f:Int):zd8 (zcF ns ns.length) [f]=(fnd ns f).map fun k=>I (k:Int):=by
 cases h:fnd ns f with
 | some k =>
  have h1:=fFr h;rw [<- h1];exact zki ha (zay h) (Nat.le_refl _)
 | none =>refine zf5 fun k hk e=>?_;have:=zlx ha hk;rw [<- zhV,e,h] at this;simp at this
def zkZ (ns:List Nd) (ds:List Dp):Nat->List (List Int×AV)
 | 0=>zcF ns ns.length
 | k+1=>zgz (zkZ ns ds k) [(gp ds k).2] (I (-1))
theorem zfi {ns:List Nd} {ds:List Dp} {f:Int}:∀ {n:Nat},(∀ k,k<n->(gp ds k).2≠f)->zd8 (zkZ ns ds n) [f]=zd8 (zcF ns ns.length) [f]
 | 0,_=>rfl
 | n+1,h=>by simp only [zkZ];rw [zc1,if_neg,zfi fun k hk=>h k (by omega)];intro e;simp only [cJ,and_true] at e;exact h n (by omega) e.symm
theorem zhx {ns:List Nd} {ds:List Dp} {k:Nat}:∀ {n:Nat},k<n->zd8 (zkZ ns ds n) [(gp ds k).2]=some (I (-1))
 | 0,h=>by omega
 | n+1,h=>by
  simp only [zkZ];rw [zc1];by_cases e:(gp ds k).2=(gp ds n).2
  ·rw [e];simp
  ·rw [if_neg (by simpa using e)];have:k≠n:=fun h=>e (by rw [h]);exact zhx (by omega)
theorem zib {t:Tb} (h:zmA t=true):zby t.2.1:=by
 have h1:=(zeC.1 h).1;refine List.pairwise_iff_getElem.2 fun i j hi hj hij=>?_;have key:∀ d,i+d+1<t.2.1.length->(gn t.2.1 i).1<(gn t.2.1 (i+d+1)).1:=by
  intro d;induction d with
  | zero=>intro h;exact h1 i h
  | succ d ih=>intro h;exact Int.lt_trans (ih (by omega)) (h1 (i+d+1) h)
 have:=key (j - i - 1) (by omega);rw [show i+(j - i - 1)+1=j by omega,zcl hi,zcl hj] at this;exact this
noncomputable def zdL (t:Tb):Int:=if zme t=false then 2 else if zmA t=false then 10 else if twB t=true then 7 else if fnd t.2.1 t.1=none then 6 else 0
theorem zrt {t:Tb} (ha:zby t.2.1) {i:Nat} (hno:∀ j,j<i->¬ twN t j):twN t i↔zd8 (zkZ t.2.1 t.2.2 i) [(gp t.2.2 i).2]≠none:=by
 unfold twN;constructor
 ·rintro (⟨j,hj,e⟩|⟨j,hj,e⟩)
  ·by_cases hh:∃ k,k<i∧(gp t.2.2 k).2=(gp t.2.2 i).2
   ·obtain ⟨k,hk,e2⟩:=hh;rw [<- e2,zhx hk];simp
   ·rw [zfi fun k hk e2=>hh ⟨k,hk,e2⟩,<- e,zki ha hj (Nat.le_refl _)];simp
  ·rw [<- e,zhx hj];simp
 ·intro h;by_cases hh:∃ k,k<i∧(gp t.2.2 k).2=(gp t.2.2 i).2
  ·exact .inr hh
  ·left;rw [zfi fun k hk e2=>hh ⟨k,hk,e2⟩] at h;by_cases h3:∃ j,j<t.2.1.length∧(gn t.2.1 j).1=(gp t.2.2 i).2
   ·exact h3
   ·exact absurd (zf5 fun k hk e=>h3 ⟨k,hk,e⟩) h
theorem zqI {t:Tb} (h:zme t=false):zdL t=2:=by unfold zdL;rw [if_pos h]
theorem zny {t:Tb} (h0:zme t=true) (h:zmA t=false):zdL t=10:=by unfold zdL;rw [if_neg (by simp [h0]),if_pos h]
theorem zuw {t:Tb} (h0:zme t=true) (h1:zmA t=true) (h:twB t=true):zdL t=7:=by unfold zdL;rw [if_neg (by simp [h0]),if_neg (by simp [h1]),if_pos h]
theorem zqH {t:Tb} (h0:zme t=true) (h1:zmA t=true) (h2:twB t=false) (h:fnd t.2.1 t.1=none):zdL t=6:=by unfold zdL;rw [if_neg (by simp [h0]),if_neg (by simp [h1]),if_neg (by simp [h2]),if_pos h]
theorem zqJ {t:Tb} (h0:zme t=true) (h1:zmA t=true) (h2:twB t=false) (h:fnd t.2.1 t.1≠none):zdL t=0:=by unfold zdL;rw [if_neg (by simp [h0]),if_neg (by simp [h1]),if_neg (by simp [h2]),if_neg h]
theorem zpn {t:Tb} (ha:zby t.2.1) (h2:twB t=false):(∃ k:Nat,fnd t.2.1 t.1=some k∧zd8 (zkZ t.2.1 t.2.2 t.2.2.length) [t.1]=some (I k))∨(fnd t.2.1 t.1=none∧(zd8 (zkZ t.2.1 t.2.2 t.2.2.length) [t.1]=none∨zd8 (zkZ t.2.1 t.2.2 t.2.2.length) [t.1]=some (I (-1)))):=by
 have hno:∀ i,i<t.2.2.length->¬ twN t i:=fun i hi h=>by have:=zhq.2 ⟨i,hi,h⟩;rw [h2] at this;simp at this
 by_cases hh:∃ k,k<t.2.2.length∧(gp t.2.2 k).2=t.1
 ·obtain ⟨k,hk,e⟩:=hh;right;refine ⟨?_,.inr (by rw [<- e];exact zhx hk)⟩;cases h:fnd t.2.1 t.1 with
  | none=>rfl
  | some j =>exfalso;exact hno k hk (.inl ⟨j,zay h,by rw [e];exact fFr h⟩)
 ·rw [zfi fun k hk e=>hh ⟨k,hk,e⟩,zcE ha];cases h:fnd t.2.1 t.1 with
  | none=>right;exact ⟨rfl,.inl rfl⟩
  | some j=>left;exact ⟨j,rfl,rfl⟩
set_option maxHeartbeats 4000000 in
theorem zB9 (X:AX) (hX:XOK prog X) (hw:X.W wT) (hfr:∀ x M n,X.call 126 [I x] M n=some (B (decide (0<=x∧x<=4294967295)),[]))
  (hix:∀ t:Tb,zf t->∀ M n,X.call 115 [TbV t] M n=some (.mp n 1,[(n,.map 1 1 (zcF t.2.1 t.2.1.length))])) :
  PSd prog 114 (spF (ι:={x:Tb // zf x}) (fun x=>[TbV x.1]) fun x=>rtO [I (zdL x.1)]):=by
 refine psS hX mixed func114 rfl fun ⟨⟨r,ns,ds⟩,ht⟩ w0 G=>⟨by show 1<=126;decide,rfl,?_⟩
 show AW ⟨prog,X,126,w0,.pure G⟩ _ _ _;have hc:=okc hX 126 w0 G;have hl1:ns.length<=1000000:=ht.2.1;have hl2:ds.length<=1000000:=ht.2.2;have hix':=hix (r,ns,ds) ht;simp only [TbV] at hix' ⊢;repeat' (first|(refine aSk fun K hK=>?_)|(refine eMo ?_)|(refine eC (fun h=>?_) (fun h=>?_)<;>(try simp at h))|(refine hK _ ?_;clear hK)|(clear hK;refine hK _ ?_;clear hK))
 refine aLK (s0:=?lps1) (m0:=?lpm1) (ι:={i:Nat // i<=ns.length∧∀ j,j<i->zha (gn ns j).1}) [1,17,18] (fun i=>[(19,I i.1)]) (fun _=>[]) (fun i=>ns.length - i.1) ⟨0,by omega,by omega⟩ ?lhs1 ?lhm1 ?_ ?_
 case lhs1=>first|(simp [kpS];done)|(simp [kpS];rfl)
 case lhm1=>first|rfl|(simp;done)|(simp;rfl)
 ·exact dle
 ·rintro ⟨i,hi,hinv⟩;simp only;rcases dE (i<ns.length) with hil|hil
  ·have hilI:(i:Int)<(ns.length:Int):=by omega
   have hg:=nrG hil;have hgE:=nrE hil;have hno:¬ zha (gn ns i).1->zdL (r,ns,ds)=2:=fun h=>zqI (znh fun h2=>h (h2.1 i hil));have hlen:=(ht.1 _ (zaL hil)).1;obtain ⟨⟨g,ws⟩,hm⟩:∃ m,m=gn ns i:=⟨_,rfl⟩
   rw [<- hm] at hg hgE hno hlen;simp only [zha] at hg hgE hno hlen;have hfr':=hfr g;rcases dE (0<=g∧g<=4294967295) with h1|h1
   ·rw [decide_eq_true h1] at hfr';have zS:=jj hilI<|jj hg<|jj hgE<|jj hfr'<|hlen;repeat' (first|(refine aSk fun K hK=>?_)|(refine zi ?_)|(refine eC (fun h=>?_) (fun h=>?_)<;>(try simp at h))|(refine hK _ ?_;clear hK)|clear hK)
    all_goals clear zS
    refine ⟨i+1,?_,⟨by omega,fun j hj=>?_⟩,by omega⟩
    ·exact dle
    ·rcases Nat.lt_succ_iff_lt_or_eq.1 hj with h3|rfl
     ·exact hinv j h3
     ·rw [<- hm];unfold zha;simp only;omega
   ·rw [decide_eq_false h1] at hfr';have e:=hno h1;have zS:=jj hilI<|jj hg<|jj hgE<|jj hfr'<|hlen;repeat' (first|(refine aSk fun K hK=>?_)|(refine zi ?_)|(refine eC (fun h=>?_) (fun h=>?_)<;>(try simp at h))|(refine hK _ ?_;clear hK)|clear hK)
    all_goals clear zS
    refine ⟨by simp,?_⟩;simp [lvI,f114,e];try exact dt
  ·obtain rfl:i=ns.length:=by omega
   repeat' (first|(refine aSk fun K hK=>?_)|(refine eMo ?_)|(refine eC (fun h=>?_) (fun h=>?_)<;>(try simp at h))|(refine hK _ ?_;clear hK)|(clear hK;refine hK _ ?_;clear hK))
   refine aLK (s0:=?lps2) (m0:=?lpm2) (ι:={i:Nat // i<=ds.length∧∀ j,j<i->zha (gp ds j).2∧0<=(gp ds j).1∧(gp ds j).1<64}) [1,29,30] (fun i=>[(31,I i.1)]) (fun _=>[]) (fun i=>ds.length - i.1) ⟨0,by omega,by omega⟩ ?lhs2 ?lhm2 ?_ ?_
   case lhs2=>first|(simp [kpS];done)|(simp [kpS];rfl)
   case lhm2=>first|rfl|(simp;done)|(simp;rfl)
   ·exact dle
   ·rintro ⟨i,hi2,hinv2⟩;simp only;rcases dE (i<ds.length) with hil2|hil2
    ·have hilI2:(i:Int)<(ds.length:Int):=by omega
     have hg:=zab hil2;have hgE:=zac hil2;have hno:¬ (zha (gp ds i).2∧0<=(gp ds i).1∧(gp ds i).1<64)->zdL (r,ns,ds)=2:=fun h=>zqI (znh fun h2=>h (h2.2 i hil2));obtain ⟨⟨a,b⟩,hm⟩:∃ m,m=gp ds i:=⟨_,rfl⟩
     rw [<- hm] at hg hgE hno;simp only [zha] at hg hgE hno;have hfr':=hfr b;rcases dE (0<=b∧b<=4294967295) with h1|h1
     ·rw [decide_eq_true h1] at hfr';rcases dE (a<0) with h3|h3
      ·have e:=hno (by omega);have zS:=jj hilI2<|jj hg<|jj hgE<|jj hfr'<|h3;repeat' (first|(refine aSk fun K hK=>?_)|(refine zi ?_)|(refine eC (fun h=>?_) (fun h=>?_)<;>(try simp at h))|(refine hK _ ?_;clear hK)|clear hK)
       all_goals clear zS
       refine ⟨by simp,?_⟩;simp [lvI,f114,e];try exact dt
      ·rcases dE (64<=a) with h4|h4
       ·have e:=hno (by omega);have zS:=jj hilI2<|jj hg<|jj hgE<|jj hfr'<|jj h3<|h4;repeat' (first|(refine aSk fun K hK=>?_)|(refine zi ?_)|(refine eC (fun h=>?_) (fun h=>?_)<;>(try simp at h))|(refine hK _ ?_;clear hK)|clear hK)
        all_goals clear zS
        refine ⟨by simp,?_⟩;simp [lvI,f114,e];try exact dt
       ·have zS:=jj hilI2<|jj hg<|jj hgE<|jj hfr'<|jj h3<|h4;repeat' (first|(refine aSk fun K hK=>?_)|(refine zi ?_)|(refine eC (fun h=>?_) (fun h=>?_)<;>(try simp at h))|(refine hK _ ?_;clear hK)|clear hK)
        all_goals clear zS
        refine ⟨i+1,?_,⟨by omega,fun j hj=>?_⟩,by omega⟩
        ·exact dle
        ·rcases Nat.lt_succ_iff_lt_or_eq.1 hj with h5|rfl
         ·exact hinv2 j h5
         ·rw [<- hm];unfold zha;simp only;omega
     ·rw [decide_eq_false h1] at hfr';have e:=hno (by omega);have zS:=jj hilI2<|jj hg<|jj hgE<|hfr';repeat' (first|(refine aSk fun K hK=>?_)|(refine zi ?_)|(refine eC (fun h=>?_) (fun h=>?_)<;>(try simp at h))|(refine hK _ ?_;clear hK)|clear hK)
      all_goals clear zS
      refine ⟨by simp,?_⟩;simp [lvI,f114,e];try exact dt
    ·obtain rfl:i=ds.length:=by omega
     have hR:zme (r,ns,ds)=true:=zfk.2 ⟨fun j hj=>hinv j hj,fun j hj=>hinv2 j hj⟩;clear hinv hinv2;repeat' (first|(refine aSk fun K hK=>?_)|(refine eMo ?_)|(refine eC (fun h=>?_) (fun h=>?_)<;>(try simp at h))|(refine hK _ ?_;clear hK)|(clear hK;refine hK _ ?_;clear hK))
     refine aLK (s0:=?lps3) (m0:=?lpm3) (ι:={k:Nat // k<=ns.length∧∀ j,j<k->(gn ns j).1<(gn ns (j+1)).1}) [1] (fun k=>[(7,I ((k.1:Int)+1))]) (fun _=>[]) (fun k=>ns.length - k.1) ⟨0,by omega,by omega⟩ ?lhs3 ?lhm3 ?_ ?_
     case lhs3=>first|(simp [kpS];done)|(simp [kpS];rfl)
     case lhm3=>first|rfl|(simp;done)|(simp;rfl)
     ·exact dle
     ·rintro ⟨k,hk,hinv⟩;simp only;rcases dE (k+1<ns.length) with hil|hil
      ·have hilI:(k:Int)+1<(ns.length:Int):=by omega
       have hk1:k<ns.length:=by omega
       have hk1I:(k:Int)<(ns.length:Int):=by omega
       have hg:=nrG hil;have hgE:=nrE hil;have hg2:=nrG hk1;have hgE2:=nrE hk1;have hno:¬ (gn ns k).1<(gn ns (k+1)).1->zdL (r,ns,ds)=10:=fun h=>zny hR (zoP fun h2=>h (h2.1 k hil));obtain ⟨⟨a,b⟩,hm⟩:∃ m,m=gn ns (k+1):=⟨_,rfl⟩
       obtain ⟨⟨c,d⟩,hm2⟩:∃ m,m=gn ns k:=⟨_,rfl⟩
       rw [<- hm] at hg hgE hno;rw [<- hm2] at hg2 hgE2 hno;simp only at hg hgE hg2 hgE2 hno;rcases dE (a<=c) with h1|h1
       ·have e:=hno (by omega);have zS:=jj hil<|jj hilI<|jj hk1<|jj hk1I<|jj hg<|jj hgE<|jj hg2<|jj hgE2<|h1;repeat' (first|(refine aSk fun K hK=>?_)|(refine zi ?_)|(refine eC (fun h=>?_) (fun h=>?_)<;>(try simp at h))|(refine hK _ ?_;clear hK)|clear hK)
        all_goals clear zS
        refine ⟨by simp,?_⟩;simp [lvI,f114,e];try exact dt
       ·have zS:=jj hil<|jj hilI<|jj hk1<|jj hk1I<|jj hg<|jj hgE<|jj hg2<|jj hgE2<|h1;repeat' (first|(refine aSk fun K hK=>?_)|(refine zi ?_)|(refine eC (fun h=>?_) (fun h=>?_)<;>(try simp at h))|(refine hK _ ?_;clear hK)|clear hK)
        all_goals clear zS
        refine ⟨k+1,?_,⟨by omega,fun j hj=>?_⟩,by omega⟩
        ·exact dle
        ·rcases Nat.lt_succ_iff_lt_or_eq.1 hj with h3|rfl
         ·exact hinv j h3
         ·rw [<- hm,<- hm2];simp only;omega
      ·have hordN:∀ j,j+1<ns.length->(gn ns j).1<(gn ns (j+1)).1:=fun j hj=>hinv j (by omega);have hilI:¬ (k:Int)+1<(ns.length:Int):=by omega
       have zS:=jj hil<|hilI;repeat' (first|(refine aSk fun K hK=>?_)|(refine zi ?_)|(refine eC (fun h=>?_) (fun h=>?_)<;>(try simp at h))|(refine hK _ ?_;clear hK)|(clear hK;refine hK _ ?_;clear hK))
       all_goals clear zS
       refine aLK (s0:=?lps4) (m0:=?lpm4) (ι:={k:Nat // k<=ds.length∧∀ j,j<k->(gp ds j).1<(gp ds (j+1)).1}) [1] (fun k=>[(8,I ((k.1:Int)+1))]) (fun _=>[]) (fun k=>ds.length - k.1) ⟨0,by omega,by omega⟩ ?lhs4 ?lhm4 ?_ ?_
       case lhs4=>first|(simp [kpS];done)|(simp [kpS];rfl)
       case lhm4=>first|rfl|(simp;done)|(simp;rfl)
       ·exact dle
       ·rintro ⟨k2,hk2,hinv2⟩;simp only;rcases dE (k2+1<ds.length) with hilb|hilb
        ·have hilbI:(k2:Int)+1<(ds.length:Int):=by omega
         have hk3:k2<ds.length:=by omega
         have hk3I:(k2:Int)<(ds.length:Int):=by omega
         have hg:=zab hilb;have hgE:=zac hilb;have hg2:=zab hk3;have hgE2:=zac hk3;have hno:¬ (gp ds k2).1<(gp ds (k2+1)).1->zdL (r,ns,ds)=10:=fun h=>zny hR (zoP fun h2=>h (h2.2 k2 hilb));obtain ⟨⟨a,b⟩,hm⟩:∃ m,m=gp ds (k2+1):=⟨_,rfl⟩
         obtain ⟨⟨c,d⟩,hm2⟩:∃ m,m=gp ds k2:=⟨_,rfl⟩
         rw [<- hm] at hg hgE hno;rw [<- hm2] at hg2 hgE2 hno;simp only at hg hgE hg2 hgE2 hno;rcases dE (a<=c) with h1|h1
         ·have e:=hno (by omega);have zS:=jj hilb<|jj hilbI<|jj hk3<|jj hk3I<|jj hg<|jj hgE<|jj hg2<|jj hgE2<|h1;repeat' (first|(refine aSk fun K hK=>?_)|(refine zi ?_)|(refine eC (fun h=>?_) (fun h=>?_)<;>(try simp at h))|(refine hK _ ?_;clear hK)|clear hK)
          all_goals clear zS
          refine ⟨by simp,?_⟩;simp [lvI,f114,e];try exact dt
         ·have zS:=jj hilb<|jj hilbI<|jj hk3<|jj hk3I<|jj hg<|jj hgE<|jj hg2<|jj hgE2<|h1;repeat' (first|(refine aSk fun K hK=>?_)|(refine zi ?_)|(refine eC (fun h=>?_) (fun h=>?_)<;>(try simp at h))|(refine hK _ ?_;clear hK)|clear hK)
          all_goals clear zS
          refine ⟨k2+1,?_,⟨by omega,fun j hj=>?_⟩,by omega⟩
          ·exact dle
          ·rcases Nat.lt_succ_iff_lt_or_eq.1 hj with h3|rfl
           ·exact hinv2 j h3
           ·rw [<- hm,<- hm2];simp only;omega
        ·have hilbI:¬ (k2:Int)+1<(ds.length:Int):=by omega
         have hA:zmA (r,ns,ds)=true:=zeC.2 ⟨hordN,fun j hj=>hinv2 j (by have:j+1<ds.length:=hj;omega)⟩;have hAN:=zib hA;simp only at hAN;clear hordN hinv2;have zS:=jj hilb<|jj hilbI<|hix';repeat' (first|(refine aSk fun K hK=>?_)|(refine zi ?_)|(refine eC (fun h=>?_) (fun h=>?_)<;>(try simp at h))|(refine hK _ ?_;clear hK)|(clear hK;refine hK _ ?_;clear hK))
         all_goals clear zS
         refine aLK (s0:=?lps5) (m0:=?lpm5) (ι:={i:Nat // i<=ds.length∧∀ j,j<i->¬ twN (r,ns,ds) j}) [1,9,95,96] (fun i=>[(97,I i.1)]) (fun i=>[(400,.map 1 1 (zkZ ns ds i.1))]) (fun i=>ds.length - i.1) ⟨0,by omega,by omega⟩ ?lhs5 ?lhm5 ?_ ?_
         case lhs5=>first|(simp [kpS];done)|(simp [kpS];rfl)
         case lhm5=>first|rfl|(simp;done)|(simp;rfl)
         ·simp only [zkZ];exact dle
         ·rintro ⟨i,hi3,hinv⟩;simp only;rcases dE (i<ds.length) with hil3|hil3
          ·have hilI3:(i:Int)<(ds.length:Int):=by omega
           have hg:=zab hil3;have hgE:=zac hil3;have htw:=zrt (t:=(r,ns,ds)) hAN (i:=i) hinv;simp only at htw;have hyes:twN (r,ns,ds) i->zdL (r,ns,ds)=7:=fun h=>zuw hR hA (zhq.2 ⟨i,hil3,h⟩);have hnx:zkZ ns ds (i+1)=zgz (zkZ ns ds i) [(gp ds i).2] (I (-1)):=rfl;obtain ⟨S,hS⟩:∃ S,S=zkZ ns ds i:=⟨_,rfl⟩
           rw [<- hS] at hnx htw;rw [<- hS];obtain ⟨⟨a,b⟩,hm⟩:∃ m,m=gp ds i:=⟨_,rfl⟩
           rw [<- hm] at hg hgE hnx htw;simp only at hg hgE hnx htw;cases hget:zd8 S [b] with
           | some v =>
            have e:=hyes (htw.2 (by rw [hget];simp));have zS:=jj hilI3<|jj hg<|jj hgE<|hget;repeat' (first|(refine aSk fun K hK=>?_)|(refine zi ?_)|(refine eC (fun h=>?_) (fun h=>?_)<;>(try simp at h))|(refine hK _ ?_;clear hK)|clear hK)
            all_goals clear zS
            refine ⟨by simp,?_⟩;simp [lvI,f114,e];try exact dt
           | none =>
            have hno:¬ twN (r,ns,ds) i:=fun h=>htw.1 h hget;have zS:=jj hilI3<|jj hg<|jj hgE<|hget;repeat' (first|(refine aSk fun K hK=>?_)|(refine zi ?_)|(refine eC (fun h=>?_) (fun h=>?_)<;>(try simp at h))|(refine hK _ ?_;clear hK)|clear hK)
            all_goals clear zS
            refine ⟨i+1,?_,⟨by omega,fun j hj=>?_⟩,by omega⟩
            ·simp only [hnx];refine zaI (s1:=?tus6) (m1:=?tum6) [] [1,9,95,96,97] [0,400] ?tua6 ?tub6 ?tuc6 ?tud6 ?tue6 ?tuf6 ?tug6
             case tua6=>first|(simp [kpS];done)|(simp [kpS];rfl)
             case tub6=>first|(simp;done)|(simp;rfl)
             case tuc6=>simp
             case tud6=>simp
             case tue6=>simp
             case tuf6=>simp
             case tug6 =>simp [swp,vr];exact dle
            ·rcases Nat.lt_succ_iff_lt_or_eq.1 hj with h3|rfl
             ·exact hinv j h3
             ·exact hno
          ·obtain rfl:i=ds.length:=by omega
           have hT:twB (r,ns,ds)=false:=zqw fun j hj=>hinv j hj;rcases zpn (t:=(r,ns,ds)) hAN hT with ⟨k,h1,h2⟩|⟨h1,h2|h2⟩
           ·simp only at h1 h2;have e:zdL (r,ns,ds)=0:=zqJ hR hA hT (by simp only;rw [h1];simp);have hk0:¬ (k:Int)<0:=by omega
            have zS:=jj h2<|hk0;repeat' (first|(refine aSk fun K hK=>?_)|(refine zi ?_)|(refine eC (fun h=>?_) (fun h=>?_)<;>(try simp at h))|(refine hK _ ?_;clear hK)|clear hK)
            all_goals clear zS
            refine ⟨by simp,?_⟩;simp [lvI,f114,e];try exact dt
           ·simp only at h1 h2;have e:zdL (r,ns,ds)=6:=zqH hR hA hT h1;have zS:=h2;repeat' (first|(refine aSk fun K hK=>?_)|(refine zi ?_)|(refine eC (fun h=>?_) (fun h=>?_)<;>(try simp at h))|(refine hK _ ?_;clear hK)|clear hK)
            all_goals clear zS
            refine ⟨by simp,?_⟩;simp [lvI,f114,e];try exact dt
           ·simp only at h1 h2;have e:zdL (r,ns,ds)=6:=zqH hR hA hT h1;have zS:=h2;repeat' (first|(refine aSk fun K hK=>?_)|(refine zi ?_)|(refine eC (fun h=>?_) (fun h=>?_)<;>(try simp at h))|(refine hK _ ?_;clear hK)|clear hK)
            all_goals clear zS
            refine ⟨by simp,?_⟩;simp [lvI,f114,e];try exact dt
@[simp] theorem zCG:za prog 134=some ⟨.func,1,8,[.nilFunc]⟩:=by kernel_rfl
@[simp] theorem zrN:(Value.nilFunc).oneCell'=true:=rfl
def zcO (l w:Nat):Bool:=decide ((zj w).2=0)&&zaO (zj w).1 l
def zbc (w:Nat):Option Int:=if (zj w).1.1=4 then some (zj w).1.2.1 else none
def zeP (w:Nat):Bool:=decide ((zj w).1.1=1)&&(zj w).1.2.2.2.2.2
def WD (adm:Int->Bool):Wd:=⟨zcO,zbc,zeP,adm⟩
abbrev WA:Wd:=WD fun _=>true
theorem zeY (adm:Int->Bool):zv0 (WD adm) where
 flat:=fun w h=>by simp only [WD,zcO,Bool.and_eq_true] at h;simp only [WD,zbc];rw [if_neg];intro e;have:=h.2;simp [zaO,e] at this
 one:=fun l w h h2=>by simp only [WD,zcO,Bool.and_eq_true] at h;simp only [WD,zeP,Bool.and_eq_true,decide_eq_true_eq] at h2;have:=h.2;simp only [zaO,h2.1,h2.2] at this;simp at this;omega
 notab:=fun w h=>by simp only [WD,zeP,Bool.and_eq_true,decide_eq_true_eq] at h;simp only [WD,zbc];rw [if_neg (by rw [h.1];decide)]
section
variable {D:Wd} {ns:NdL} {rc:Nat->Nat->WSt->Bool×WSt} {l n first k i:Nat} {st:WSt}
theorem zho (h:D.ok l (wd ns n i)=false):wkF D ns rc l n first (k+1) i st=(false,st):=by simp [wkF,h]
theorem zrm (h:D.ok l (wd ns n i)=true) (h2:D.hug (wd ns n i)=true) (h3:D.adm (((first+i*8^l)/8:Nat):Int)=false):wkF D ns rc l n first (k+1) i st=(false,st):=by simp only [wkF,h];rw [if_neg (by simp),if_pos ⟨h2,h3⟩]
theorem zjN (h:D.ok l (wd ns n i)=true) (h2:D.hug (wd ns n i)=true) (h3:D.adm (((first+i*8^l)/8:Nat):Int)=true) (h4:D.tab (wd ns n i)=none):wkF D ns rc l n first (k+1) i st=wkF D ns rc l n first k (i+1) (st.1,st.2++[(((first+i*8^l)/8:Nat):Int)]):=by simp only [wkF,h];rw [if_neg (by simp),if_neg (by rw [h3];simp),h4,if_pos h2]
theorem zkO (h:D.ok l (wd ns n i)=true) (h2:D.hug (wd ns n i)=false) (h4:D.tab (wd ns n i)=none):wkF D ns rc l n first (k+1) i st=wkF D ns rc l n first k (i+1) st:=by simp only [wkF,h];rw [if_neg (by simp),if_neg (by rw [h2];simp),h4,if_neg (by rw [h2];simp)]
theorem zfg {g:Int} (h:D.ok l (wd ns n i)=true) (h2:D.hug (wd ns n i)=false) (h4:D.tab (wd ns n i)=some g) (h5:fnd ns g=none):wkF D ns rc l n first (k+1) i st=(false,st):=by simp only [wkF,h];rw [if_neg (by simp),if_neg (by rw [h2];simp),h4,if_neg (by rw [h2];simp)];simp only [h5]
theorem zhn {g:Int} {nx:Nat} (h:D.ok l (wd ns n i)=true) (h2:D.hug (wd ns n i)=false) (h4:D.tab (wd ns n i)=some g) (h5:fnd ns g=some nx):wkF D ns rc l n first (k+1) i st=if (rc nx (first+i*8^l) st).1=true then wkF D ns rc l n first k (i+1) (rc nx (first+i*8^l) st).2 else (false,(rc nx (first+i*8^l) st).2):=by simp only [wkF,h];rw [if_neg (by simp),if_neg (by rw [h2];simp),h4,if_neg (by rw [h2];simp)];simp only [h5]
def zA1 (rc:Nat->Nat->WSt->Bool×WSt) (b:Nat):Prop:=∀ n f st,(rc n f st).2.1.length=st.1.length∧st.2.length<=(rc n f st).2.2.length∧(rc n f st).2.2.length<=st.2.length+b
theorem zbB {b:Nat} (hrc:zA1 rc b):∀ (k i:Nat) (st:WSt),(wkF D ns rc l n first k i st).2.1.length=st.1.length∧st.2.length<=(wkF D ns rc l n first k i st).2.2.length∧(wkF D ns rc l n first k i st).2.2.length<=st.2.length+k*(1+b)
 | 0,i,st=>by simp [wkF]
 | k+1,i,st=>by
  have hm:(k+1)*(1+b)=k*(1+b)+(1+b):=by rw [Nat.add_mul];omega
  rw [hm];cases h:D.ok l (wd ns n i) with
  | false=>rw [zho h];exact ⟨rfl,Nat.le_refl _,by simp only;omega⟩
  | true =>
   cases h2:D.hug (wd ns n i) with
   | true =>
    cases h3:D.adm (((first+i*8^l)/8:Nat):Int) with
    | false=>rw [zrm h h2 h3];exact ⟨rfl,Nat.le_refl _,by simp only;omega⟩
    | true =>
     simp only [wkF,h,h2,h3];simp only [Bool.true_eq_false,if_false,and_false,if_true];cases h4:D.tab (wd ns n i) with
     | none =>
      simp only;have:=zbB hrc k (i+1) (st.1,st.2++[(((first+i*8^l)/8:Nat):Int)]);simp only [List.length_append,List.length_singleton] at this;refine ⟨this.1,by omega,by omega⟩
     | some g =>
      simp only;cases h5:fnd ns g with
      | none=>simp;omega
      | some nx =>
       simp only;obtain ⟨R,hR⟩:∃ R,R=rc nx (first+i*8^l) (st.1,st.2++[(((first+i*8^l)/8:Nat):Int)]):=⟨_,rfl⟩
       have h6:=hrc nx (first+i*8^l) (st.1,st.2++[(((first+i*8^l)/8:Nat):Int)]);rw [<- hR] at h6 ⊢;simp only [List.length_append,List.length_singleton] at h6;split
       ·have:=zbB hrc k (i+1) R.2;refine ⟨by omega,by omega,by omega⟩
       ·simp only;refine ⟨by omega,by omega,by omega⟩
   | false =>
    cases h4:D.tab (wd ns n i) with
    | none =>
     rw [zkO h h2 h4];have:=zbB hrc k (i+1) st;refine ⟨this.1,by omega,by omega⟩
    | some g =>
     cases h5:fnd ns g with
     | none=>rw [zfg h h2 h4 h5];exact ⟨rfl,Nat.le_refl _,by simp only;omega⟩
     | some nx =>
      rw [zhn h h2 h4 h5];obtain ⟨R,hR⟩:∃ R,R=rc nx (first+i*8^l) st:=⟨_,rfl⟩
      have h6:=hrc nx (first+i*8^l) st;rw [<- hR] at h6 ⊢;split
      ·have:=zbB hrc k (i+1) R.2;refine ⟨by omega,by omega,by omega⟩
      ·simp only;refine ⟨by omega,by omega,by omega⟩
end
def zkD:Nat->Nat
 | 0=>8
 | l+1=>8*(1+zkD l)
theorem zeG {D:Wd} {ns:NdL}:∀ {l:Nat},zA1 (wk D ns l) (zkD l)
 | 0=>fun n f st=>by
  simp only [wk];split
  ·exact ⟨rfl,Nat.le_refl _,by simp only;omega⟩
  ·have:=zbB (D:=D) (ns:=ns) (l:=0) (n:=n) (first:=f) (rc:=fun _ _ st=>(false,st)) (b:=0) (fun _ _ st=>by simp) 8 0 (st.1.set n true,st.2);simp only [List.length_set] at this;simp only [zkD];exact this
 | l+1=>fun n f st=>by
  simp only [wk];split
  ·exact ⟨rfl,Nat.le_refl _,by simp only;omega⟩
  ·have:=zbB (D:=D) (ns:=ns) (l:=l+1) (n:=n) (first:=f) (zeG (D:=D) (ns:=ns) (l:=l)) 8 0 (st.1.set n true,st.2);simp only [List.length_set] at this;simp only [zkD];exact this
def zaP (l:List Bool):List (List AV):=l.map fun b=>[B b]
@[simp] theorem zrd (l:List Bool):(zaP l).length=l.length:=by simp [zaP]
theorem zcI {l:List Bool} {n:Nat} (h:n<l.length):(zaP l)[n]?=some [B (l.getD n false)]:=by simp [zaP,h,List.getD_eq_getElem?_getD]
theorem zdu {l:List Bool} {n:Nat} (h:n<l.length):∀ h',(zaP l)[n]'(h')=[B (l.getD n false)]:=fun h'=>by have hg:=zcI h;rw [List.getElem?_eq_getElem h'] at hg;exact Option.some.inj hg
theorem zgj {l:List Bool} {n:Nat} {b:Bool}:(zaP l).set n [B b]=zaP (l.set n b):=by simp [zaP,List.map_set]
theorem zgk {a b:List Bool}:zaP a=zaP b↔a=b:=by
 constructor
 ·intro h;refine List.map_inj_right (f:=fun b:Bool=>[B b]) (fun x y e=>?_) |>.1 h;simpa [B] using e
 ·rintro rfl;rfl
abbrev CkD:=Tb×Nat×Nat×List Bool×List Int
def ckA (l:Nat) (x:CkD):List AV:=[I x.2.1,I l,I x.2.2.1,.bp 0 0,.bp 2 0,.bp 3 0,.bp 5 0,.bp 7 0]
def ckM (t:Tb) (led:List Bool) (hs:List Int) (v:Nat):List AO:=[.box [.sl 1 1 1 0 led.length],.vec 1 1 false (zaP led),.box [I t.1,.rd 9 (nrw t.2.1),.rd 2 (prw t.2.2)],.box [.sl 4 v 1 0 hs.length],.vec v 1 false (irw hs),.box [.mp 6 1],.map 1 1 (zcF t.2.1 t.2.1.length),.box [.fn 116 [.bp 0 0,.bp 2 0,.bp 3 0,.bp 5 0,.bp 7 0]]]
def ckR (l:Nat) (x:CkD):Bool×WSt:=wk WA x.1.2.1 l x.2.1 x.2.2.1 (x.2.2.2.1,x.2.2.2.2)
def ckF:Nat->Nat
 | 2=>100|1=>600|_=>700
def ckH:Nat->Nat
 | 2=>100|1=>1000|_=>2000
def zq7 (l:Nat) (x:CkD):Prop:=zf x.1∧zby x.1.2.1∧x.2.1<x.1.2.1.length∧x.2.2.1<=ckF l∧x.2.2.2.1.length=x.1.2.1.length∧x.2.2.2.2.length<=ckH l
noncomputable def ckS (l:Nat):List AV->List AO->Option (AV×List AO):=za1 (ι:={x:CkD // zq7 l x}) (fun x=>ckA l x.1) (fun x=>ckM x.1.1 x.1.2.2.2.1 x.1.2.2.2.2 1) (fun x=>rtO [B (ckR l x.1).1]) fun x=>ckM x.1.1 (ckR l x.1).2.1 (ckR l x.1).2.2 (1+((ckR l x.1).2.2.length - x.1.2.2.2.2.length))
theorem zq6 {l:Nat} {x:CkD} (h:zq7 l x):ckS l (ckA l x) (ckM x.1 x.2.2.2.1 x.2.2.2.2 1)=some (B (ckR l x).1,ckM x.1 (ckR l x).2.1 (ckR l x).2.2 (1+((ckR l x).2.2.length - x.2.2.2.2.length))):=by
 refine sGe (ι:={x:CkD // zq7 l x}) (A:=fun x=>ckA l x.1) (M:=fun x=>ckM x.1.1 x.1.2.2.2.1 x.1.2.2.2.2 1) (R:=fun x=>rtO [B (ckR l x.1).1]) ⟨x,h⟩ fun j hA hM=>?_;obtain ⟨⟨⟨r,ns,ds⟩,n,f,led,hs⟩,hj⟩:=j;obtain ⟨⟨r',ns',ds'⟩,n',f',led',hs'⟩:=x;simp only [ckA,ckM,I,cJ,AV.v.injEq,Value.int.injEq,true_and,and_true,AO.box.injEq,AO.vec.injEq,AV.rd.injEq,zgk,irI,zbf,zaa,AO.map.injEq] at hA hM;obtain ⟨e1,e2⟩:=hA;have e1:n=n':=by omega
 have e2:f=f':=by omega
 subst e1 e2;obtain ⟨_,rfl,⟨rfl,rfl,rfl⟩,_,rfl,_⟩:=hM;exact ⟨rfl,rfl⟩
end Go.AM
namespace Go.AM
open Go Go.Proofs Tryz
set_option maxHeartbeats 2000000 in
set_option maxRecDepth 4000 in
theorem zrb {l:Nat} {t:Tb} {n f:Nat} {led:List Bool} {hs:List Int} (h:zq7 l (t,n,f,led,hs)) {v:Nat} (hv:1<=v) {fl1 fl2:Bool} (M:Nat->AO) (nid:Nat)
  (h0:M 0=.box [.sl 1 1 1 0 led.length]) (h1:M 1=.vec 1 1 fl1 (zaP led)) (h2:M 2=.box [I t.1,.rd 9 (nrw t.2.1),.rd 2 (prw t.2.2)]) (h3:M 3=.box [.sl 4 v 1 0 hs.length]) (h4:M 4=.vec v 1 fl2 (irw hs)) (h5:M 5=.box [.mp 6 1]) (h6:M 6=.map 1 1 (zcF t.2.1 t.2.1.length)) (h7:M 7=.box [.fn 116 [.bp 0 0,.bp 2 0,.bp 3 0,.bp 5 0,.bp 7 0]]) :
  caG (ckS l) [I n,I l,I f,.bp 0 0,.bp 2 0,.bp 3 0,.bp 5 0,.bp 7 0] M nid=some (B (ckR l (t,n,f,led,hs)).1,[(0,.box [.sl 1 1 1 0 (ckR l (t,n,f,led,hs)).2.1.length]),(1,.vec 1 1 false (zaP (ckR l (t,n,f,led,hs)).2.1)),(2,.box [I t.1,.rd 9 (nrw t.2.1),.rd 2 (prw t.2.2)]),(3,.box [.sl 4 (v+((ckR l (t,n,f,led,hs)).2.2.length - hs.length)) 1 0 (ckR l (t,n,f,led,hs)).2.2.length]),(4,.vec (v+((ckR l (t,n,f,led,hs)).2.2.length - hs.length)) 1 false (irw (ckR l (t,n,f,led,hs)).2.2)),(5,.box [.mp 6 1]),(6,.map 1 1 (zcF t.2.1 t.2.1.length)),(7,.box [.fn 116 [.bp 0 0,.bp 2 0,.bp 3 0,.bp 5 0,.bp 7 0]])]):=by
 have hF:=zq6 h;simp only [ckA,ckM] at hF;obtain ⟨R,hR⟩:∃ R,R=ckR l (t,n,f,led,hs):=⟨_,rfl⟩
 rw [<- hR] at hF ⊢;have hvv:1+(R.2.2.length - hs.length)+(v - 1)=v+(R.2.2.length - hs.length):=by omega
 have hv0:¬ v=0:=by omega
 unfold caG;have hg:gat M 64 (nmsL [I n,I l,I f,.bp 0 0,.bp 2 0,.bp 3 0,.bp 5 0,.bp 7 0]) []=[0,1,2,3,4,5,6,7]:=by simp [gat,nmsL,AV.nms,AO.nms,h0,h1,h2,h3,h4,h5,h6,h7]
 simp only [hg];rw [if_pos ?cg]
 case cg=>simp [zbp,nmsL,AV.nms,AO.nms,Led,curBL,AV.curB,AO.curB,zaj,nDd,h0,h1,h2,h3,h4,h5,h6,h7]
 simp [renL,AV.ren,AO.ren,zbL,zdP,nmsL,h0,h1,h2,h3,h4,h5,h6,h7,hF,zeZ,zcc,AV.nms,AO.nms,zdC,nmN,shN,zaj,hvv,rng,Led]
theorem zmX {t:Tb} (ht:zf t) {n i:Nat} (hn:n<t.2.1.length):wd t.2.1 n i<2^64:=by
 unfold wd;have h:=(ht.1 _ (zaL hn)).2;rw [zhV] at h;rw [List.getD_eq_getElem?_getD];cases hg:(t.2.1.getD n (0,[])).2[i]? with
 | none=>simp
 | some w=>simp only [Option.getD_some];exact h w (List.mem_of_getElem? hg)
theorem ziz {l:List Nat} {i:Nat} (h:i<l.length):(wcs l)[i]?=some (U (l.getD i 0:Nat)):=by simp [wcs,h,List.getD_eq_getElem?_getD]
theorem zkP {l:List Nat} {i:Nat} (h:i<l.length):∀ h',(wcs l)[i]'(h')=U (l.getD i 0:Nat):=fun h'=>by have hg:=ziz h;rw [List.getElem?_eq_getElem h'] at hg;exact Option.some.inj hg
set_option maxHeartbeats 8000000 in
theorem zub (X:AX) (hX:XOK prog X) (hw:X.W wT) (hd:∀ n:Nat,n<2^64->∀ M k,X.call 56 [U n] M k=some (.tup [EnV (zj n).1,I (zj n).2],[]))
  (hsu:∀ (e:En) (l:Nat) M n,X.call 117 [EnV e,I l] M n=some (B (zaO e l),[])):GSd prog 116 (ckS 0):=by
 unfold ckS;refine gsS func116 rfl X fun ⟨⟨⟨r,ns,ds⟩,n,first,led,hs⟩,hx⟩ w0 L E=>⟨by show 8<=96;decide,?_⟩
 obtain ⟨ht,ha,hn,hf,hled,hhs⟩:=hx;simp only [ckF,ckH] at ht ha hn hf hled hhs;show AW ⟨prog,X,96,w0,⟨L,E,8⟩⟩ _ _ _;have hc:Cx.OK ⟨prog,X,96,w0,⟨L,E,8⟩⟩:=⟨hX,mixed⟩
 have hl1:ns.length<=1000000:=ht.2.1;obtain ⟨R,hR⟩:∃ R,R=ckR 0 ((r,ns,ds),n,first,led,hs):=⟨_,rfl⟩
 simp only [<- hR,ckM,ckA];have hnl:n<led.length:=by omega
 have hnI:(n:Int)<(led.length:Int):=by omega
 have hnN:(n:Int)<(ns.length:Int):=by omega
 have hg0:=zcI hnl;have hgE0:=zdu hnl;unfold ckR at hR;simp only at hR;rw [wk] at hR;cases hb:led.getD n false with
 | true =>
  rw [hb] at hR hg0 hgE0;simp only [if_true] at hR;subst hR;simp only;have zS:=jj hnl<|jj hnI<|jj hg0<|hgE0;refine zl ?_;repeat (intro K hK)
  clear zS;refine ⟨by simp,_,by simp [aRs,aRt,f116];rfl,?_⟩;simp only [Nat.sub_self,Nat.add_zero,idx];exact dle
 | false =>
  rw [hb] at hR hg0 hgE0;simp only [Bool.false_eq_true,if_false] at hR;have hset:=@zgj led n true;obtain ⟨led1,hl1⟩:∃ l,l=led.set n true:=⟨_,rfl⟩
  have hled1:led1.length=led.length:=by rw [hl1];simp
  rw [<- hl1] at hR hset;have zS:=jj hnl<|jj hnI<|jj hg0<|jj hgE0<|hset;repeat' (first|(refine aSk fun K hK=>?_)|(refine zi ?_)|(refine eC (fun h=>?_) (fun h=>?_)<;>(try simp at h))|(refine hK _ ?_;clear hK)|(clear hK;refine hK _ ?_;clear hK))
  all_goals clear zS
  refine zif 1 (aRd ?_);repeat' (first|(refine aSk fun K hK=>?_)|(refine eMo ?_)|(refine eC (fun h=>?_) (fun h=>?_)<;>(try simp at h))|(refine hK _ ?_;clear hK)|(clear hK;refine hK _ ?_;clear hK))
  obtain ⟨h0,hh0⟩:∃ h0,h0=hs.length:=⟨_,rfl⟩
  obtain ⟨ln,hln⟩:∃ ln,ln=led.length:=⟨_,rfl⟩
  have hRl:R.2.1.length=ln:=by rw [hR,(zbB (b:=0) (fun _ _ _=>by simp) 8 0 (led1,hs)).1,hln];exact hled1
  rw [hRl,<- hln];rw [<- hh0];refine aLK (s0:=?lps1) (m0:=?lpm1) (ι:={s:Nat×List Bool×List Int // s.1<=8∧s.2.1.length=ln∧h0<=s.2.2.length∧s.2.2.length<=h0+1*s.1∧wkF WA ns (fun _ _ st=>(false,st)) 0 n first (8 - s.1) s.1 (s.2.1,s.2.2)=R}) [0,1,2,4,5,6,7,12] (fun s=>[(31,I s.1.1)]) (fun s=>[(1,.vec 1 1 false (zaP s.1.2.1)),(3,.box [.sl 4 (1+(s.1.2.2.length - h0)) 1 0 s.1.2.2.length]),(4,.vec (1+(s.1.2.2.length - h0)) 1 false (irw s.1.2.2))]) (fun s=>8 - s.1.1) ⟨(0,led1,hs),by simp,by simp only;omega,by simp only;omega,by simp only;omega,hR.symm⟩ ?lhs1 ?lhm1 ?_ ?_
  case lhs1=>first|(simp [kpS];done)|(simp [kpS];rfl)
  case lhm1=>first|rfl|(simp;done)|(simp;rfl)
  ·simp only [<- hh0,Nat.sub_self,Nat.add_zero];exact dle
  ·clear hR hset hg0 hgE0 hb hnl hnI;clear hl1;rintro ⟨⟨i,led2,hs2⟩,hi,hl2,hh2,hb2,hst⟩;simp only at hi hl2 hh2 hb2 hst ⊢;obtain ⟨v,hv⟩:∃ v,v=1+(hs2.length - h0):=⟨_,rfl⟩
   rw [<- hv];have hv1:1<=v:=by omega
   rcases dE (i<8) with hi8|hi8
   ·have hiI:(i:Int)<8:=by omega
    have hgn:=nrG hn;have hgnE:=nrE hn;have h8:(gn ns n).2.length=8:=(ht.1 _ (zaL hn)).1;have hw8:=ziz (l:=(gn ns n).2) (i:=i) (by omega);have hwE:=zkP (l:=(gn ns n).2) (i:=i) (by omega);have hw64:=zmX ht (n:=n) (i:=i) hn;obtain ⟨k8,hk8⟩:∃ k,8 - i=k+1:=⟨7 - i,by omega⟩
    have hk7:8 - (i+1)=k8:=by omega
    rw [hk8] at hst;obtain ⟨w,hwd⟩:∃ w,w=wd ns n i:=⟨_,rfl⟩
    have hwg:(gn ns n).2.getD i 0=w:=hwd.symm;rw [hwg] at hw8 hwE;simp only at hw64;rw [<- hwd] at hw64;have hwl:(wcs (gn ns n).2).length=8:=by simp [h8]
    obtain ⟨⟨fr,ws⟩,hm⟩:∃ m,m=gn ns n:=⟨_,rfl⟩
    rw [<- hm] at hgn hgnE hw8 hwE hwl;simp only at hgn hgnE hw8 hwE hwl;obtain ⟨cs,hcs⟩:∃ cs,cs=wcs ws:=⟨_,rfl⟩
    rw [<- hcs] at hgn hgnE hw8 hwE hwl;clear hcs hm h8 hwg;have hd':=hd w hw64;have bad:=@zho WA ns (fun _ _ st=>(false,st)) 0 n first k8 i (led2,hs2)
    have pl:=@zkO WA ns (fun _ _ st=>(false,st)) 0 n first k8 i (led2,hs2)
    have hug:=@zjN WA ns (fun _ _ st=>(false,st)) 0 n first k8 i (led2,hs2)
    have lost:=fun g=>@zfg WA ns (fun _ _ st=>(false,st)) 0 n first k8 i (led2,hs2) g
    have rcr:=fun g nx=>@zhn WA ns (fun _ _ st=>(false,st)) 0 n first k8 i (led2,hs2) g nx
    have hone:=(zeY fun _=>true).one 0 w;have hflat:=(zeY fun _=>true).flat w;rw [<- hwd] at bad pl hug lost rcr;rw [hst] at bad pl hug lost rcr;have hsu':=fun e=>hsu e 0;obtain ⟨⟨⟨k,f,d,a,x,h⟩,e⟩,hE⟩:∃ r,r=zj w:=⟨_,rfl⟩
    have hok:WA.ok 0 w=(decide (e=0)&&zaO (k,f,d,a,x,h) 0):=by show zcO 0 w=_;unfold zcO;rw [<- hE]
    have hhg:WA.hug w=(decide (k=1)&&h):=by show zeP w=_;unfold zeP;rw [<- hE]
    have htb:WA.tab w=if k=4 then some f else none:=by show zbc w=_;unfold zbc;rw [<- hE]
    rw [<- hE] at hd';clear hE;simp only [EnV,U] at hd' hw8 hwE;have hsu2:∀ M n,X.call 117 [.agg [I k,I f,B d,B a,B x,B h],I 0] M n=some (B (zaO (k,f,d,a,x,h) 0),[]):=hsu' (k,f,d,a,x,h);rcases dE (e=0) with he|he
    ·subst he;cases hsb:zaO (k,f,d,a,x,h) 0 with
     | false =>
      rw [hsb] at hsu2;have hfin:=bad (by rw [hok,hsb];rfl);subst hfin;simp only;clear pl hug lost rcr hone hflat;have zS:=jj hiI<|jj hi8<|jj hgn<|jj hgnE<|jj hw8<|jj hwE<|jj hwl<|jj hd'<|jj hsu2<|jj hn<|hnN;repeat' (first|(refine aSk fun K hK=>?_)|(refine zi ?_)|(refine eC (fun h=>?_) (fun h=>?_)<;>(try simp at h))|(refine hK _ ?_;clear hK)|clear hK)
      all_goals clear zS
      refine ⟨by simp,_,by simp [aRs,aRt,f116];rfl,?_⟩;simp only [<- hv,idx];exact dle
     | true =>
      rw [hsb] at hsu2;have hok1:WA.ok 0 w=true:=by rw [hok,hsb];rfl
      rcases dE (k=1∧h=true) with hk|hk
      ·obtain ⟨rfl,rfl⟩:=hk;exact absurd (hone hok1 (by rw [hhg];rfl)) (by decide)
      ·have hhf:(decide (k=1)&&h)=false:=by rw [Bool.eq_false_iff];intro hh;simp only [Bool.and_eq_true,decide_eq_true_eq] at hh;exact hk hh
       rw [hhf] at hhg;rcases dE (k=4) with hk4|hk4
       ·subst hk4;have:=hflat hok1;rw [htb] at this;simp at this
       ·have hfin:=pl hok1 hhg (by rw [htb,if_neg hk4]);clear bad hug lost rcr hone hflat;rcases dE (k=1) with hk1|hk1
        ·subst hk1;have hh0:h=false:=by cases h with|false=>rfl|true=>exact absurd ⟨rfl,rfl⟩ hk
         subst hh0;have zS:=jj hiI<|jj hi8<|jj hgn<|jj hgnE<|jj hw8<|jj hwE<|jj hwl<|jj hd'<|jj hsu2<|jj hn<|hnN;repeat' (first|(refine aSk fun K hK=>?_)|(refine zi ?_)|(refine eC (fun h=>?_) (fun h=>?_)<;>(try simp at h))|(refine hK _ ?_;clear hK)|clear hK)
         all_goals clear zS
         refine ⟨i+1,led2,hs2,?_,⟨by omega,hl2,by omega,by omega,by rw [hk7];exact hfin.symm⟩,by omega⟩;simp only [<- hv];exact dle
        ·have zS:=jj hiI<|jj hi8<|jj hgn<|jj hgnE<|jj hw8<|jj hwE<|jj hwl<|jj hd'<|jj hsu2<|jj hn<|jj hnN<|jj hk1<|hk4;repeat' (first|(refine aSk fun K hK=>?_)|(refine zi ?_)|(refine eC (fun h=>?_) (fun h=>?_)<;>(try simp at h))|(refine hK _ ?_;clear hK)|clear hK)
         all_goals clear zS
         refine ⟨i+1,led2,hs2,?_,⟨by omega,hl2,by omega,by omega,by rw [hk7];exact hfin.symm⟩,by omega⟩;simp only [<- hv];exact dle
    ·have hfin:=bad (by rw [hok];simp [he]);subst hfin;simp only;clear pl hug lost rcr hone hflat;have zS:=jj hiI<|jj hi8<|jj hgn<|jj hgnE<|jj hw8<|jj hwE<|jj hwl<|jj hd'<|jj he<|jj hn<|hnN;repeat' (first|(refine aSk fun K hK=>?_)|(refine zi ?_)|(refine eC (fun h=>?_) (fun h=>?_)<;>(try simp at h))|(refine hK _ ?_;clear hK)|clear hK)
     all_goals clear zS
     refine ⟨by simp,_,by simp [aRs,aRt,f116];rfl,?_⟩;simp only [<- hv,idx];exact dle
   ·obtain rfl:i=8:=by omega
    simp only [Nat.sub_self,wkF] at hst;subst hst;simp only;repeat' (first|(refine aSk fun K hK=>?_)|(refine eMo ?_)|(refine eC (fun h=>?_) (fun h=>?_)<;>(try simp at h))|(refine hK _ ?_;clear hK)|clear hK)
    refine ⟨by simp,_,by simp [aRs,aRt,f116];rfl,?_⟩;simp only [<- hv,idx];exact dle
end Go.AM
