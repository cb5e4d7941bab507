/- A part of the proof: what functions of the program compute, by abstract execution of their code. Its theorems hold without further condition. -/
import Derived.Test.YtcfhmdljeeppfaaGreatUAmDr
import Derived.Test.YtcfhmdljeeppfaaGreatUAmH
set_option linter.all false
set_option maxHeartbeats 1000000
namespace Go.AM
open Go Go.Proofs
abbrev En:=Int×Int×Bool×Bool×Bool×Bool
def EnV (e:En):AV:=.agg [I e.1,I e.2.1,B e.2.2.1,B e.2.2.2.1,B e.2.2.2.2.1,B e.2.2.2.2.2]
def U (n:Int):AV:=.v (.int .u64 n)
theorem EnV_inj {a b:En}:EnV a=EnV b↔a=b:=by
 obtain ⟨a1,a2,a3,a4,a5,a6⟩:=a
 obtain ⟨b1,b2,b3,b4,b5,b6⟩:=b
 simp [EnV,I,B]
def noFl (e:En):Bool:=!e.2.2.1&&(!e.2.2.2.1&&(!e.2.2.2.2.1&&!e.2.2.2.2.2))
def frmE (e:En):Bool :=
 if e.1=1 then true
 else if e.1=3 then !e.2.2.2.1&&(!e.2.2.2.2.1&&!e.2.2.2.2.2)
 else if e.1=0 then decide (e.2.1=0)&&noFl e
 else if e.1=2∨e.1=4 then noFl e else false
def wT (f:FuncId):Bool:=Nat.beq f 116||Nat.beq f 123||Nat.beq f 186||Nat.beq f 129||Nat.beq f 130||Nat.beq f 135||Nat.beq f 138||Nat.beq f 149||Nat.beq f 147||Nat.beq f 214||Nat.beq f 125||Nat.beq f 153||Nat.beq f 140||Nat.beq f 192||Nat.beq f 190||Nat.beq f 60||Nat.beq f 189||Nat.beq f 191||Nat.beq f 188||Nat.beq f 141||Nat.beq f 193||Nat.beq f 148||Nat.beq f 136||Nat.beq f 144||Nat.beq f 146||Nat.beq f 183||Nat.beq f 210||Nat.beq f 208||Nat.beq f 999999||Nat.beq f 999999||Nat.beq f 70||Nat.beq f 71||Nat.beq f 72||Nat.beq f 155||Nat.beq f 16||Nat.beq f 74||Nat.beq f 75||Nat.beq f 24||Nat.beq f 203||Nat.beq f 205
def fb (b:Bool) (n:Int):Int:=if b then n else 0
theorem s196 (X:AX) (hX:XOK Tryz.prog X):PSound Tryz.prog 196 (specF (ι:=Bool×Int) (fun x=>[B x.1,U x.2]) fun x=>retOf [U (fb x.1 x.2)]):=by
 refine psound_spec hX mixed Tryz.func196 rfl fun ⟨b,n⟩ w0 G=>⟨by show 2≤7;decide,rfl,?_⟩
 show AW ⟨Tryz.prog,X,7,w0,.pure G⟩ _ _ _
 have hc:Cx.OK ⟨Tryz.prog,X,7,w0,.pure G⟩:=⟨hX,mixed⟩
 unfold U
 cases b
 ·refine dM8o ?_
  repeat (intro K hK)
  refine ⟨by simp,?_⟩
  simp [leaves_iff,Tryz.f196,fb]
  try exact dt
 ·refine dM8o ?_
  repeat (intro K hK)
  refine ⟨by simp,?_⟩
  simp [leaves_iff,Tryz.f196,fb]
  try exact dt
theorem s217 (X:AX) (hX:XOK Tryz.prog X):PSound Tryz.prog 217 (specF (ι:=Bool×Int) (fun x=>[B x.1,U x.2]) fun x=>retOf [U (fb x.1 x.2)]):=by
 refine psound_spec hX mixed Tryz.func217 rfl fun ⟨b,n⟩ w0 G=>⟨by show 2≤7;decide,rfl,?_⟩
 show AW ⟨Tryz.prog,X,7,w0,.pure G⟩ _ _ _
 have hc:Cx.OK ⟨Tryz.prog,X,7,w0,.pure G⟩:=⟨hX,mixed⟩
 unfold U
 cases b
 ·refine dM8o ?_
  repeat (intro K hK)
  refine ⟨by simp,?_⟩
  simp [leaves_iff,Tryz.f217,fb]
  try exact dt
 ·refine dM8o ?_
  repeat (intro K hK)
  refine ⟨by simp,?_⟩
  simp [leaves_iff,Tryz.f217,fb]
  try exact dt
theorem s195 (X:AX) (hX:XOK Tryz.prog X) (hw:X.W wT) (he:X.eqs 103=true):PSound Tryz.prog 195 (specF (ι:={e:En // 0≤e.1∧e.1≤4}) (fun x=>[EnV x.1]) fun x=>retOf [B (frmE x.1)]):=by
 refine psound_spec hX mixed Tryz.func195 rfl fun ⟨⟨k,f,d,a,x,h⟩,hk1,hk2⟩ w0 G=>⟨by show 1≤32;decide,rfl,?_⟩
 show AW ⟨Tryz.prog,X,32,w0,.pure G⟩ _ _ _
 have hc:Cx.OK ⟨Tryz.prog,X,32,w0,.pure G⟩:=⟨hX,mixed⟩
 simp only at hk1 hk2
 unfold EnV
 simp only
 have hk:k=0∨k=1∨k=2∨k=3∨k=4:=by omega
 rcases hk with rfl|rfl|rfl|rfl|rfl
 ·have zS:=jj he<|jj eqLs<|sameKs
  refine dM8 ?_
  repeat (intro K hK)
  clear zS
  refine ⟨by simp,?_⟩
  simp [leaves_iff,Tryz.f195,frmE,noFl]
  try exact dt
 ·have zS:=jj he<|jj eqLs<|sameKs
  refine dM8 ?_
  repeat (intro K hK)
  clear zS
  refine ⟨by simp,?_⟩
  simp [leaves_iff,Tryz.f195,frmE,noFl]
  try exact dt
 ·have zS:=jj he<|jj eqLs<|sameKs
  refine dM8 ?_
  repeat (intro K hK)
  clear zS
  refine ⟨by simp,?_⟩
  simp [leaves_iff,Tryz.f195,frmE,noFl]
  try exact dt
 ·have zS:=jj he<|jj eqLs<|sameKs
  refine dM8 ?_
  repeat (intro K hK)
  clear zS
  refine ⟨by simp,?_⟩
  simp [leaves_iff,Tryz.f195,frmE,noFl]
  try exact dt
 ·have zS:=jj he<|jj eqLs<|sameKs
  refine dM8 ?_
  repeat (intro K hK)
  clear zS
  refine ⟨by simp,?_⟩
  simp [leaves_iff,Tryz.f195,frmE,noFl]
  try exact dt
theorem s216 (X:AX) (hX:XOK Tryz.prog X) (hw:X.W wT) (he:X.eqs 103=true):PSound Tryz.prog 216 (specF (ι:={e:En // 0≤e.1∧e.1≤4}) (fun x=>[EnV x.1]) fun x=>retOf [B (frmE x.1)]):=by
 refine psound_spec hX mixed Tryz.func216 rfl fun ⟨⟨k,f,d,a,x,h⟩,hk1,hk2⟩ w0 G=>⟨by show 1≤45;decide,rfl,?_⟩
 show AW ⟨Tryz.prog,X,45,w0,.pure G⟩ _ _ _
 have hc:Cx.OK ⟨Tryz.prog,X,45,w0,.pure G⟩:=⟨hX,mixed⟩
 simp only at hk1 hk2
 unfold EnV
 simp only
 have hk:k=0∨k=1∨k=2∨k=3∨k=4:=by omega
 rcases hk with rfl|rfl|rfl|rfl|rfl
 ·have zS:=jj he<|jj eqLs<|sameKs
  refine dM8 ?_
  repeat (intro K hK)
  clear zS
  refine ⟨by simp,?_⟩
  simp [leaves_iff,Tryz.f216,frmE,noFl]
  try exact dt
 ·repeat' (first|(apply aw_seq_k;intro K hK)|(refine aw_run hc (by first|exact aw_nod|(intro _;rw [ordB_w hw];kernel_rfl)|(intro _;rw [ordB_w0 hw0];kernel_rfl)|(intro _;kernel_rfl)) ?_;simp [List.zipIdx,he,eqL,sameK,-getM,getM_hit,getM_miss,getM_none];(repeat (simp (disch:=first|omega|assumption|fail) only [if_pos,if_neg,wrap8];try simp [List.zipIdx,he,eqL,sameK,-getM,getM_hit,getM_miss,getM_none]));try (repeat' (refine guardQ_split (fun h=>?_) (fun h=>?_)<;>simp at h<;>(simp [List.zipIdx,he,eqL,sameK,-getM,getM_hit,getM_miss,getM_none];(repeat (simp (disch:=first|omega|assumption|fail) only [if_pos,if_neg,wrap8];try simp [List.zipIdx,he,eqL,sameK,-getM,getM_hit,getM_miss,getM_none]))))))|(refine aw_cond (b:=_) (by exact rfl) (fun h=>?_) (fun h=>?_)<;>(try simp at h))|(refine aw_block ?_)|(refine aw_skip ?_;simp only [thenQ,blockQ,if_true])|(refine aw_exit ?_;simp [thenQ,blockQ])|(refine aw_ret ?_;simp only [thenQ,blockQ])|(refine aw_round ?_)|(refine hK _ ?_;clear hK)|(clear hK;refine hK _ ?_;clear hK)|(clear hK;clear hK;refine hK _ ?_;clear hK)|(clear hK;clear hK;clear hK;refine hK _ ?_;clear hK))
  refine ⟨by simp,?_⟩
  simp [leaves_iff,Tryz.f216,frmE,noFl]
  try exact dt
 ·repeat' (first|(apply aw_seq_k;intro K hK)|(refine aw_run hc (by first|exact aw_nod|(intro _;rw [ordB_w hw];kernel_rfl)|(intro _;rw [ordB_w0 hw0];kernel_rfl)|(intro _;kernel_rfl)) ?_;simp [List.zipIdx,he,eqL,sameK,-getM,getM_hit,getM_miss,getM_none];(repeat (simp (disch:=first|omega|assumption|fail) only [if_pos,if_neg,wrap8];try simp [List.zipIdx,he,eqL,sameK,-getM,getM_hit,getM_miss,getM_none]));try (repeat' (refine guardQ_split (fun h=>?_) (fun h=>?_)<;>simp at h<;>(simp [List.zipIdx,he,eqL,sameK,-getM,getM_hit,getM_miss,getM_none];(repeat (simp (disch:=first|omega|assumption|fail) only [if_pos,if_neg,wrap8];try simp [List.zipIdx,he,eqL,sameK,-getM,getM_hit,getM_miss,getM_none]))))))|(refine aw_cond (b:=_) (by exact rfl) (fun h=>?_) (fun h=>?_)<;>(try simp at h))|(refine aw_block ?_)|(refine aw_skip ?_;simp only [thenQ,blockQ,if_true])|(refine aw_exit ?_;simp [thenQ,blockQ])|(refine aw_ret ?_;simp only [thenQ,blockQ])|(refine aw_round ?_)|(refine hK _ ?_;clear hK)|(clear hK;refine hK _ ?_;clear hK)|(clear hK;clear hK;refine hK _ ?_;clear hK)|(clear hK;clear hK;clear hK;refine hK _ ?_;clear hK))
  all_goals (refine ⟨by simp,?_⟩;simp_all [leaves_iff,frmE,noFl])
 ·repeat' (first|(apply aw_seq_k;intro K hK)|(refine aw_run hc (by first|exact aw_nod|(intro _;rw [ordB_w hw];kernel_rfl)|(intro _;rw [ordB_w0 hw0];kernel_rfl)|(intro _;kernel_rfl)) ?_;simp [List.zipIdx,he,eqL,sameK,-getM,getM_hit,getM_miss,getM_none];(repeat (simp (disch:=first|omega|assumption|fail) only [if_pos,if_neg,wrap8];try simp [List.zipIdx,he,eqL,sameK,-getM,getM_hit,getM_miss,getM_none]));try (repeat' (refine guardQ_split (fun h=>?_) (fun h=>?_)<;>simp at h<;>(simp [List.zipIdx,he,eqL,sameK,-getM,getM_hit,getM_miss,getM_none];(repeat (simp (disch:=first|omega|assumption|fail) only [if_pos,if_neg,wrap8];try simp [List.zipIdx,he,eqL,sameK,-getM,getM_hit,getM_miss,getM_none]))))))|(refine aw_cond (b:=_) (by exact rfl) (fun h=>?_) (fun h=>?_)<;>(try simp at h))|(refine aw_block ?_)|(refine aw_skip ?_;simp only [thenQ,blockQ,if_true])|(refine aw_exit ?_;simp [thenQ,blockQ])|(refine aw_ret ?_;simp only [thenQ,blockQ])|(refine aw_round ?_)|(refine hK _ ?_;clear hK)|(clear hK;refine hK _ ?_;clear hK)|(clear hK;clear hK;refine hK _ ?_;clear hK)|(clear hK;clear hK;clear hK;refine hK _ ?_;clear hK))
  all_goals (refine ⟨by simp,?_⟩;simp_all [leaves_iff,frmE,noFl])
 ·repeat' (first|(apply aw_seq_k;intro K hK)|(refine aw_run hc (by first|exact aw_nod|(intro _;rw [ordB_w hw];kernel_rfl)|(intro _;rw [ordB_w0 hw0];kernel_rfl)|(intro _;kernel_rfl)) ?_;simp [List.zipIdx,he,eqL,sameK,-getM,getM_hit,getM_miss,getM_none];(repeat (simp (disch:=first|omega|assumption|fail) only [if_pos,if_neg,wrap8];try simp [List.zipIdx,he,eqL,sameK,-getM,getM_hit,getM_miss,getM_none]));try (repeat' (refine guardQ_split (fun h=>?_) (fun h=>?_)<;>simp at h<;>(simp [List.zipIdx,he,eqL,sameK,-getM,getM_hit,getM_miss,getM_none];(repeat (simp (disch:=first|omega|assumption|fail) only [if_pos,if_neg,wrap8];try simp [List.zipIdx,he,eqL,sameK,-getM,getM_hit,getM_miss,getM_none]))))))|(refine aw_cond (b:=_) (by exact rfl) (fun h=>?_) (fun h=>?_)<;>(try simp at h))|(refine aw_block ?_)|(refine aw_skip ?_;simp only [thenQ,blockQ,if_true])|(refine aw_exit ?_;simp [thenQ,blockQ])|(refine aw_ret ?_;simp only [thenQ,blockQ])|(refine aw_round ?_)|(refine hK _ ?_;clear hK)|(clear hK;refine hK _ ?_;clear hK)|(clear hK;clear hK;refine hK _ ?_;clear hK)|(clear hK;clear hK;clear hK;refine hK _ ?_;clear hK))
  all_goals (refine ⟨by simp,?_⟩;simp_all [leaves_iff,frmE,noFl])
end Go.AM
namespace Go.AM
open Go
theorem wrapU {n:Nat} (h:n<2^64):IntKind.u64.wrap (n:Int)=n:=by
 have:(2:Nat)^64=18446744073709551616:=by decide
 simp [IntKind.wrap,IntKind.signed,IntKind.bits]
 omega
theorem toNat_u {n:Nat} (h:n<2^64):(BitVec.ofInt 64 (n:Int)).toNat=n:=by
 rw [BitVec.toNat_ofInt]
 omega
theorem bitI_or {x y j:Nat} (hx:x<2^j) (h:x+y*2^j<2^64):bitI .or .u64 (x:Int) ((y*2^j:Nat):Int)=((x+y*2^j:Nat):Int):=by
 unfold bitI
 have e:(BitVec.ofInt 64 (x:Int) ||| BitVec.ofInt 64 ((y*2^j:Nat):Int)).toNat=x+y*2^j:=by
  rw [BitVec.toNat_or,toNat_u (by omega),toNat_u (by omega)]
  have:=Nat.shiftLeft_add_eq_or_of_lt hx y
  rw [Nat.shiftLeft_eq] at this
  rw [Nat.or_comm,← this,Nat.add_comm]
 show IntKind.u64.wrap (((BitVec.ofInt 64 (x:Int) ||| BitVec.ofInt 64 ((y*2^j:Nat):Int)).toNat:Nat):Int)=_
 rw [e]
 exact wrapU h
theorem bitI_and {x y:Nat} (hx:x<2^64) (hy:y<2^64):bitI .and .u64 (x:Int) (y:Int)=((x &&& y:Nat):Int):=by
 unfold bitI
 show IntKind.u64.wrap (((BitVec.ofInt 64 (x:Int) &&& BitVec.ofInt 64 (y:Int)).toNat:Nat):Int)=_
 rw [BitVec.toNat_and,toNat_u hx,toNat_u hy]
 exact wrapU (Nat.lt_of_le_of_lt Nat.and_le_left hx)
theorem and_mask (x j:Nat):x &&& (2^j - 1)=x%2^j:=Nat.and_two_pow_sub_one_eq_mod x j
theorem and_bit (x j:Nat):x &&& 2^j=if x.testBit j then 2^j else 0:=by
 refine Nat.eq_of_testBit_eq fun i=>?_
 rw [Nat.testBit_and,Nat.testBit_two_pow]
 by_cases h:j=i
 ·subst h
  cases hx:x.testBit j<;>simp [Nat.testBit_two_pow]
 ·have:¬ i=j:=fun e=>h e.symm
  cases hx:x.testBit j<;>simp [Nat.testBit_two_pow,h]
end Go.AM
namespace Go.AM
open Go Go.Proofs
theorem fb_rng (b:Bool) {n:Int} (h:0≤n):0≤fb b n∧fb b n≤n:=by
 unfold fb;cases b<;>simp<;>omega
theorem or_fb {x:Int} (b:Bool) {j:Nat} (h0:0≤x) (h1:x<2^j) (h2:j<63):bitI .or .u64 x (fb b (2^j))=x+fb b (2^j):=by
 obtain ⟨n,rfl⟩:∃ n:Nat,x=n:=⟨x.toNat,by omega⟩
 have hn:n<2^j:=by exact_mod_cast h1
 have hp:2^j≤2^62:=Nat.pow_le_pow_right (by omega) (by omega)
 have h62:(2:Nat)^62=4611686018427387904:=by decide
 have h64:(2:Nat)^64=18446744073709551616:=by decide
 have:=bitI_or (x:=n) (y:=if b then 1 else 0) (j:=j) hn (by cases b<;>simp<;>omega)
 unfold fb
 cases b
 ·simpa using this
 ·simpa using this
theorem or8 {x:Int} (b:Bool) (h0:0≤x) (h1:x<8):bitI .or .u64 x (fb b 8)=x+fb b 8:=or_fb b (j:=3) h0 h1 (by omega)
theorem or16 {x:Int} (b:Bool) (h0:0≤x) (h1:x<16):bitI .or .u64 x (fb b 16)=x+fb b 16:=or_fb b (j:=4) h0 h1 (by omega)
theorem or32 {x:Int} (b:Bool) (h0:0≤x) (h1:x<32):bitI .or .u64 x (fb b 32)=x+fb b 32:=or_fb b (j:=5) h0 h1 (by omega)
theorem or64 {x:Int} (b:Bool) (h0:0≤x) (h1:x<64):bitI .or .u64 x (fb b 64)=x+fb b 64:=or_fb b (j:=6) h0 h1 (by omega)
theorem or_top {x f:Int} (h0:0≤x) (h1:x<256) (h2:0≤f) (h3:f≤4294967295):bitI .or .u64 x (f*256)=x+f*256:=by
 obtain ⟨n,rfl⟩:∃ n:Nat,x=n:=⟨x.toNat,by omega⟩
 obtain ⟨m,rfl⟩:∃ m:Nat,f=m:=⟨f.toNat,by omega⟩
 have h64:(2:Nat)^64=18446744073709551616:=by decide
 have:=bitI_or (x:=n) (y:=m) (j:=8) (by omega) (by omega)
 simpa using this
def encW (e:En):Int:=e.1+fb e.2.2.1 8+fb e.2.2.2.1 16+fb e.2.2.2.2.1 32+fb e.2.2.2.2.2 64+e.2.1*256
def badF (e:En):Prop:=e.2.1<0∨4294967295<e.2.1∨e.1=1∧e.2.2.2.2.2=true∧4294967288<e.2.1
instance (e:En):Decidable (badF e):=by unfold badF;infer_instance
def encR (e:En):Int×Int:=if 0≤e.1∧e.1≤4 then (if badF e then (0,2) else if frmE e=true then (encW e,0) else (0,3)) else (0,1)
theorem encR_k {e:En} (h:¬ (0≤e.1∧e.1≤4)):encR e=(0,1):=by unfold encR;rw [if_neg h]
theorem encR_f {e:En} (h:0≤e.1∧e.1≤4) (h2:badF e):encR e=(0,2):=by unfold encR;rw [if_pos h,if_pos h2]
theorem encR_m {e:En} (h:0≤e.1∧e.1≤4) (h2:¬ badF e) (h3:frmE e=false):encR e=(0,3):=by unfold encR;rw [if_pos h,if_neg h2,h3];rfl
theorem encR_z {e:En} (h:0≤e.1∧e.1≤4) (h2:¬ badF e) (h3:frmE e=true):encR e=(encW e,0):=by unfold encR;rw [if_pos h,if_neg h2,if_pos h3]
theorem encSteps {k f:Int} {d a x h:Bool} (hk:0≤k∧k≤4) (hf:0≤f∧f≤4294967295):∃ w1 w2 w3 w4:Int,bitI .or .u64 k (fb d 8)=w1∧bitI .or .u64 w1 (fb a 16)=w2∧bitI .or .u64 w2 (fb x 32)=w3∧bitI .or .u64 w3 (fb h 64)=w4∧bitI .or .u64 w4 (f*256)=encW (k,f,d,a,x,h):=by
 have r1:=fb_rng d (n:=8) (by omega)
 have r2:=fb_rng a (n:=16) (by omega)
 have r3:=fb_rng x (n:=32) (by omega)
 have r4:=fb_rng h (n:=64) (by omega)
 refine ⟨_,_,_,_,or8 d (by omega) (by omega),or16 a (by omega) (by omega),or32 x (by omega) (by omega),or64 h (by omega) (by omega),?_⟩
 rw [or_top (by omega) (by omega) hf.1 hf.2]
 rfl
theorem wrapF {f:Int} (hf:0≤f∧f≤4294967295):IntKind.u64.wrap f=f∧IntKind.u64.wrap (f*256)=f*256:=by
 constructor
 ·exact wrapU64 ⟨by omega,by omega⟩
 ·exact wrapU64 ⟨by omega,by omega⟩
theorem encAll {k f:Int} {d a x h:Bool} (hk:0≤k∧k≤4) (hf:0≤f∧f≤4294967295) :
  bitI .or .u64 (bitI .or .u64 (bitI .or .u64 (bitI .or .u64 (bitI .or .u64 (IntKind.u64.wrap k) (fb d 8)) (fb a 16)) (fb x 32)) (fb h 64)) (IntKind.u64.wrap (IntKind.u64.wrap f*2^min 8 IntKind.u64.bits))=encW (k,f,d,a,x,h):=by
 obtain ⟨w1,w2,w3,w4,v1,v2,v3,v4,v5⟩:=encSteps (d:=d) (a:=a) (x:=x) (h:=h) hk hf
 have e1:f*2^min 8 IntKind.u64.bits=f*256:=by simp [IntKind.bits]
 have e2:IntKind.u64.wrap k=k:=wrapU64 ⟨by omega,by omega⟩
 rw [(wrapF hf).1,e1,e2,(wrapF hf).2,v1,v2,v3,v4,v5]
set_option maxHeartbeats 2000000 in
theorem s143 (X:AX) (hX:XOK Tryz.prog X) (hw:X.W wT) (hfo:∀ k f d a x h,0≤k∧k≤4→∀ M n,X.call 195 [.agg [I k,I f,B d,B a,B x,B h]] M n=some (B (frmE (k,f,d,a,x,h)),[]))
  (hfl:∀ b c M n,X.call 196 [B b,.v (.int .u64 c)] M n=some (.v (.int .u64 (fb b c)),[])):PSound Tryz.prog 143 (specF (ι:=En) (fun x=>[EnV x]) fun x=>retOf [U (encR x).1,I (encR x).2]):=by
 refine psound_spec hX mixed Tryz.func143 rfl fun ⟨k,f,d,a,x,h⟩ w0 G=>⟨by show 1≤63;decide,rfl,?_⟩
 show AW ⟨Tryz.prog,X,63,w0,.pure G⟩ _ _ _
 have hc:Cx.OK ⟨Tryz.prog,X,63,w0,.pure G⟩:=⟨hX,mixed⟩
 unfold EnV U
 simp only
 rcases Decidable.em (0≤k∧k≤4) with hk|hk
 ·have hfo':=hfo k f d a x h hk
  rcases Decidable.em (badF (k,f,d,a,x,h)) with hb|hb
  ·rw [encR_f hk hb]
   unfold badF at hb
   simp only at hb
   rcases (by omega:k=0∨k=1∨k=2∨k=3∨k=4) with rfl|rfl|rfl|rfl|rfl
   ·rcases Decidable.em (f<0) with g1|g1
    ·have zS:=g1
     refine dM8 ?_
     repeat (intro K hK)
     clear zS
     refine ⟨by simp,?_⟩
     simp [leaves_iff,Tryz.f143]
     try exact dt
    ·have g2:4294967295<f:=by
      rcases hb with hb|hb|hb
      ·exact absurd hb g1
      ·exact hb
      ·exact absurd hb.1 (by omega)
     have zS:=jj g1<|g2
     refine dM8 ?_
     repeat (intro K hK)
     clear zS
     refine ⟨by simp,?_⟩
     simp [leaves_iff,Tryz.f143]
     try exact dt
   ·rcases Decidable.em (f<0) with g1|g1
    ·have zS:=g1
     refine dM8 ?_
     repeat (intro K hK)
     clear zS
     refine ⟨by simp,?_⟩
     simp [leaves_iff,Tryz.f143]
     try exact dt
    ·rcases Decidable.em (4294967295<f) with g2|g2
     ·have zS:=jj g1<|g2
      refine dM8 ?_
      repeat (intro K hK)
      clear zS
      refine ⟨by simp,?_⟩
      simp [leaves_iff,Tryz.f143]
      try exact dt
     ·have g3:h=true∧4294967288<f:=by
       rcases hb with hb|hb|hb
       ·exact absurd hb g1
       ·exact absurd hb g2
       ·exact hb.2
      obtain ⟨rfl,g3⟩:=g3
      have zS:=jj g1<|jj g2<|g3
      refine dM8 ?_
      repeat (intro K hK)
      clear zS
      refine ⟨by simp,?_⟩
      simp [leaves_iff,Tryz.f143]
      try exact dt
   ·rcases Decidable.em (f<0) with g1|g1
    ·have zS:=g1
     refine dM8 ?_
     repeat (intro K hK)
     clear zS
     refine ⟨by simp,?_⟩
     simp [leaves_iff,Tryz.f143]
     try exact dt
    ·have g2:4294967295<f:=by
      rcases hb with hb|hb|hb
      ·exact absurd hb g1
      ·exact hb
      ·exact absurd hb.1 (by omega)
     have zS:=jj g1<|g2
     refine dM8 ?_
     repeat (intro K hK)
     clear zS
     refine ⟨by simp,?_⟩
     simp [leaves_iff,Tryz.f143]
     try exact dt
   ·rcases Decidable.em (f<0) with g1|g1
    ·have zS:=g1
     refine dM8 ?_
     repeat (intro K hK)
     clear zS
     refine ⟨by simp,?_⟩
     simp [leaves_iff,Tryz.f143]
     try exact dt
    ·have g2:4294967295<f:=by
      rcases hb with hb|hb|hb
      ·exact absurd hb g1
      ·exact hb
      ·exact absurd hb.1 (by omega)
     have zS:=jj g1<|g2
     refine dM8 ?_
     repeat (intro K hK)
     clear zS
     refine ⟨by simp,?_⟩
     simp [leaves_iff,Tryz.f143]
     try exact dt
   ·rcases Decidable.em (f<0) with g1|g1
    ·have zS:=g1
     refine dM8 ?_
     repeat (intro K hK)
     clear zS
     refine ⟨by simp,?_⟩
     simp [leaves_iff,Tryz.f143]
     try exact dt
    ·have g2:4294967295<f:=by
      rcases hb with hb|hb|hb
      ·exact absurd hb g1
      ·exact hb
      ·exact absurd hb.1 (by omega)
     have zS:=jj g1<|g2
     refine dM8 ?_
     repeat (intro K hK)
     clear zS
     refine ⟨by simp,?_⟩
     simp [leaves_iff,Tryz.f143]
     try exact dt
  ·have hb':=hb
   unfold badF at hb'
   simp only [not_or] at hb'
   have g1:¬ f<0:=hb'.1
   have g2:¬ 4294967295<f:=hb'.2.1
   have g3:=hb'.2.2
   have e5:=@encR_m (k,f,d,a,x,h) hk hb
   have e6:=@encR_z (k,f,d,a,x,h) hk hb
   obtain ⟨W,hW⟩:∃ W,W=encW (k,f,d,a,x,h):=⟨_,rfl⟩
   rw [← hW] at e6
   cases hfm:frmE (k,f,d,a,x,h) with
   | false =>
    rw [e5 hfm]
    rw [hfm] at hfo'
    rcases (by omega:k=0∨k=1∨k=2∨k=3∨k=4) with rfl|rfl|rfl|rfl|rfl
    ·have zS:=jj g1<|jj g2<|hfo'
     refine dM8 ?_
     repeat (intro K hK)
     clear zS
     refine ⟨by simp,?_⟩
     simp [leaves_iff,Tryz.f143]
     try exact dt
    ·have g4:¬ (h=true∧4294967288<f):=fun hh=>g3 ⟨rfl,hh⟩
     cases h
     ·have zS:=jj g1<|jj g2<|hfo'
      refine dM8 ?_
      repeat (intro K hK)
      clear zS
      refine ⟨by simp,?_⟩
      simp [leaves_iff,Tryz.f143]
      try exact dt
     ·have g5:¬ 4294967288<f:=fun hh=>g4 ⟨rfl,hh⟩
      have zS:=jj g1<|jj g2<|jj g5<|hfo'
      refine dM8 ?_
      repeat (intro K hK)
      clear zS
      refine ⟨by simp,?_⟩
      simp [leaves_iff,Tryz.f143]
      try exact dt
    ·have zS:=jj g1<|jj g2<|hfo'
     refine dM8 ?_
     repeat (intro K hK)
     clear zS
     refine ⟨by simp,?_⟩
     simp [leaves_iff,Tryz.f143]
     try exact dt
    ·have zS:=jj g1<|jj g2<|hfo'
     refine dM8 ?_
     repeat (intro K hK)
     clear zS
     refine ⟨by simp,?_⟩
     simp [leaves_iff,Tryz.f143]
     try exact dt
    ·have zS:=jj g1<|jj g2<|hfo'
     refine dM8 ?_
     repeat (intro K hK)
     clear zS
     refine ⟨by simp,?_⟩
     simp [leaves_iff,Tryz.f143]
     try exact dt
   | true =>
    rw [e6 hfm]
    rw [hfm] at hfo'
    clear e5 e6 hfm
    rcases (by omega:k=0∨k=1∨k=2∨k=3∨k=4) with rfl|rfl|rfl|rfl|rfl
    ·have zS:=jj g1<|jj g2<|jj hfo'<|hfl
     refine dM8 ?_
     repeat (intro K hK)
     clear zS
     refine ⟨by simp,?_⟩
     simp [leaves_iff,Tryz.f143]
     try exact dt
     (rw [hW];refine (encAll ?_ ?_).symm<;>constructor<;>omega)
    ·have g4:¬ (h=true∧4294967288<f):=fun hh=>g3 ⟨rfl,hh⟩
     cases h
     ·have zS:=jj g1<|jj g2<|jj hfo'<|hfl
      refine dM8 ?_
      repeat (intro K hK)
      clear zS
      refine ⟨by simp,?_⟩
      simp [leaves_iff,Tryz.f143]
      try exact dt
      (rw [hW];refine (encAll ?_ ?_).symm<;>constructor<;>omega)
     ·have g5:¬ 4294967288<f:=fun hh=>g4 ⟨rfl,hh⟩
      have zS:=jj g1<|jj g2<|jj g5<|jj hfo'<|hfl
      refine dM8 ?_
      repeat (intro K hK)
      clear zS
      refine ⟨by simp,?_⟩
      simp [leaves_iff,Tryz.f143]
      try exact dt
      (rw [hW];refine (encAll ?_ ?_).symm<;>constructor<;>omega)
    ·have zS:=jj g1<|jj g2<|jj hfo'<|hfl
     refine dM8 ?_
     repeat (intro K hK)
     clear zS
     refine ⟨by simp,?_⟩
     simp [leaves_iff,Tryz.f143]
     try exact dt
     (rw [hW];refine (encAll ?_ ?_).symm<;>constructor<;>omega)
    ·have zS:=jj g1<|jj g2<|jj hfo'<|hfl
     refine dM8 ?_
     repeat (intro K hK)
     clear zS
     refine ⟨by simp,?_⟩
     simp [leaves_iff,Tryz.f143]
     try exact dt
     (rw [hW];refine (encAll ?_ ?_).symm<;>constructor<;>omega)
    ·have zS:=jj g1<|jj g2<|jj hfo'<|hfl
     refine dM8 ?_
     repeat (intro K hK)
     clear zS
     refine ⟨by simp,?_⟩
     simp [leaves_iff,Tryz.f143]
     try exact dt
     (rw [hW];refine (encAll ?_ ?_).symm<;>constructor<;>omega)
 ·rw [encR_k hk]
  have e0:¬ k=0:=by omega
  have e1:¬ k=1:=by omega
  have e2:¬ k=2:=by omega
  have e3:¬ k=3:=by omega
  have e4:¬ k=4:=by omega
  have zS:=jj e0<|jj e1<|jj e2<|jj e3<|e4
  refine dM8 ?_
  repeat (intro K hK)
  clear zS
  refine ⟨by simp,?_⟩
  simp [leaves_iff,Tryz.f143]
  try exact dt
end Go.AM
namespace Go.AM
open Go Go.Proofs
set_option maxHeartbeats 2000000 in
theorem s187 (X:AX) (hX:XOK Tryz.prog X) (hw:X.W wT) (hfo:∀ k f d a x h,0≤k∧k≤4→∀ M n,X.call 216 [.agg [I k,I f,B d,B a,B x,B h]] M n=some (B (frmE (k,f,d,a,x,h)),[]))
  (hfl:∀ b c M n,X.call 217 [B b,.v (.int .u64 c)] M n=some (.v (.int .u64 (fb b c)),[])):PSound Tryz.prog 187 (specF (ι:=En) (fun x=>[EnV x]) fun x=>retOf [U (encR x).1,I (encR x).2]):=by
 refine psound_spec hX mixed Tryz.func187 rfl fun ⟨k,f,d,a,x,h⟩ w0 G=>⟨by show 1≤61;decide,rfl,?_⟩
 show AW ⟨Tryz.prog,X,61,w0,.pure G⟩ _ _ _
 have hc:Cx.OK ⟨Tryz.prog,X,61,w0,.pure G⟩:=⟨hX,mixed⟩
 unfold EnV U
 simp only
 rcases Decidable.em (0≤k∧k≤4) with hk|hk
 ·have hfo':=hfo k f d a x h hk
  rcases Decidable.em (badF (k,f,d,a,x,h)) with hb|hb
  ·rw [encR_f hk hb]
   unfold badF at hb
   simp only at hb
   rcases (by omega:k=0∨k=1∨k=2∨k=3∨k=4) with rfl|rfl|rfl|rfl|rfl
   ·rcases Decidable.em (f<0) with g1|g1
    ·have zS:=g1
     refine dM8 ?_
     repeat (intro K hK)
     clear zS
     refine ⟨by simp,?_⟩
     simp [leaves_iff,Tryz.f187]
     try exact dt
    ·have g2:4294967295<f:=by
      rcases hb with hb|hb|hb
      ·exact absurd hb g1
      ·exact hb
      ·exact absurd hb.1 (by omega)
     have zS:=jj g1<|g2
     refine dM8 ?_
     repeat (intro K hK)
     clear zS
     refine ⟨by simp,?_⟩
     simp [leaves_iff,Tryz.f187]
     try exact dt
   ·rcases Decidable.em (f<0) with g1|g1
    ·have zS:=g1
     refine dM8 ?_
     repeat (intro K hK)
     clear zS
     refine ⟨by simp,?_⟩
     simp [leaves_iff,Tryz.f187]
     try exact dt
    ·rcases Decidable.em (4294967295<f) with g2|g2
     ·have zS:=jj g1<|g2
      refine dM8 ?_
      repeat (intro K hK)
      clear zS
      refine ⟨by simp,?_⟩
      simp [leaves_iff,Tryz.f187]
      try exact dt
     ·have g3:h=true∧4294967288<f:=by
       rcases hb with hb|hb|hb
       ·exact absurd hb g1
       ·exact absurd hb g2
       ·exact hb.2
      obtain ⟨rfl,g3⟩:=g3
      have zS:=jj g1<|jj g2<|g3
      refine dM8 ?_
      repeat (intro K hK)
      clear zS
      refine ⟨by simp,?_⟩
      simp [leaves_iff,Tryz.f187]
      try exact dt
   ·rcases Decidable.em (f<0) with g1|g1
    ·have zS:=g1
     refine dM8 ?_
     repeat (intro K hK)
     clear zS
     refine ⟨by simp,?_⟩
     simp [leaves_iff,Tryz.f187]
     try exact dt
    ·have g2:4294967295<f:=by
      rcases hb with hb|hb|hb
      ·exact absurd hb g1
      ·exact hb
      ·exact absurd hb.1 (by omega)
     have zS:=jj g1<|g2
     refine dM8 ?_
     repeat (intro K hK)
     clear zS
     refine ⟨by simp,?_⟩
     simp [leaves_iff,Tryz.f187]
     try exact dt
   ·rcases Decidable.em (f<0) with g1|g1
    ·have zS:=g1
     refine dM8 ?_
     repeat (intro K hK)
     clear zS
     refine ⟨by simp,?_⟩
     simp [leaves_iff,Tryz.f187]
     try exact dt
    ·have g2:4294967295<f:=by
      rcases hb with hb|hb|hb
      ·exact absurd hb g1
      ·exact hb
      ·exact absurd hb.1 (by omega)
     have zS:=jj g1<|g2
     refine dM8 ?_
     repeat (intro K hK)
     clear zS
     refine ⟨by simp,?_⟩
     simp [leaves_iff,Tryz.f187]
     try exact dt
   ·rcases Decidable.em (f<0) with g1|g1
    ·have zS:=g1
     refine dM8 ?_
     repeat (intro K hK)
     clear zS
     refine ⟨by simp,?_⟩
     simp [leaves_iff,Tryz.f187]
     try exact dt
    ·have g2:4294967295<f:=by
      rcases hb with hb|hb|hb
      ·exact absurd hb g1
      ·exact hb
      ·exact absurd hb.1 (by omega)
     have zS:=jj g1<|g2
     refine dM8 ?_
     repeat (intro K hK)
     clear zS
     refine ⟨by simp,?_⟩
     simp [leaves_iff,Tryz.f187]
     try exact dt
  ·have hb':=hb
   unfold badF at hb'
   simp only [not_or] at hb'
   have g1:¬ f<0:=hb'.1
   have g2:¬ 4294967295<f:=hb'.2.1
   have g3:=hb'.2.2
   have e5:=@encR_m (k,f,d,a,x,h) hk hb
   have e6:=@encR_z (k,f,d,a,x,h) hk hb
   obtain ⟨W,hW⟩:∃ W,W=encW (k,f,d,a,x,h):=⟨_,rfl⟩
   rw [← hW] at e6
   cases hfm:frmE (k,f,d,a,x,h) with
   | false =>
    rw [e5 hfm]
    rw [hfm] at hfo'
    rcases (by omega:k=0∨k=1∨k=2∨k=3∨k=4) with rfl|rfl|rfl|rfl|rfl
    ·have zS:=jj g1<|jj g2<|hfo'
     refine dM8 ?_
     repeat (intro K hK)
     clear zS
     refine ⟨by simp,?_⟩
     simp [leaves_iff,Tryz.f187]
     try exact dt
    ·have g4:¬ (h=true∧4294967288<f):=fun hh=>g3 ⟨rfl,hh⟩
     cases h
     ·have zS:=jj g1<|jj g2<|hfo'
      refine dM8 ?_
      repeat (intro K hK)
      clear zS
      refine ⟨by simp,?_⟩
      simp [leaves_iff,Tryz.f187]
      try exact dt
     ·have g5:¬ 4294967288<f:=fun hh=>g4 ⟨rfl,hh⟩
      have zS:=jj g1<|jj g2<|jj g5<|hfo'
      refine dM8 ?_
      repeat (intro K hK)
      clear zS
      refine ⟨by simp,?_⟩
      simp [leaves_iff,Tryz.f187]
      try exact dt
    ·have zS:=jj g1<|jj g2<|hfo'
     refine dM8 ?_
     repeat (intro K hK)
     clear zS
     refine ⟨by simp,?_⟩
     simp [leaves_iff,Tryz.f187]
     try exact dt
    ·have zS:=jj g1<|jj g2<|hfo'
     refine dM8 ?_
     repeat (intro K hK)
     clear zS
     refine ⟨by simp,?_⟩
     simp [leaves_iff,Tryz.f187]
     try exact dt
    ·have zS:=jj g1<|jj g2<|hfo'
     refine dM8 ?_
     repeat (intro K hK)
     clear zS
     refine ⟨by simp,?_⟩
     simp [leaves_iff,Tryz.f187]
     try exact dt
   | true =>
    rw [e6 hfm]
    rw [hfm] at hfo'
    clear e5 e6 hfm
    rcases (by omega:k=0∨k=1∨k=2∨k=3∨k=4) with rfl|rfl|rfl|rfl|rfl
    ·have zS:=jj g1<|jj g2<|jj hfo'<|hfl
     refine dM8 ?_
     repeat (intro K hK)
     clear zS
     refine ⟨by simp,?_⟩
     simp [leaves_iff,Tryz.f187]
     try exact dt
     (rw [hW];refine (encAll ?_ ?_).symm<;>constructor<;>omega)
    ·have g4:¬ (h=true∧4294967288<f):=fun hh=>g3 ⟨rfl,hh⟩
     cases h
     ·have zS:=jj g1<|jj g2<|jj hfo'<|hfl
      refine dM8 ?_
      repeat (intro K hK)
      clear zS
      refine ⟨by simp,?_⟩
      simp [leaves_iff,Tryz.f187]
      try exact dt
      (rw [hW];refine (encAll ?_ ?_).symm<;>constructor<;>omega)
     ·have g5:¬ 4294967288<f:=fun hh=>g4 ⟨rfl,hh⟩
      have zS:=jj g1<|jj g2<|jj g5<|jj hfo'<|hfl
      refine dM8 ?_
      repeat (intro K hK)
      clear zS
      refine ⟨by simp,?_⟩
      simp [leaves_iff,Tryz.f187]
      try exact dt
      (rw [hW];refine (encAll ?_ ?_).symm<;>constructor<;>omega)
    ·have zS:=jj g1<|jj g2<|jj hfo'<|hfl
     refine dM8 ?_
     repeat (intro K hK)
     clear zS
     refine ⟨by simp,?_⟩
     simp [leaves_iff,Tryz.f187]
     try exact dt
     (rw [hW];refine (encAll ?_ ?_).symm<;>constructor<;>omega)
    ·have zS:=jj g1<|jj g2<|jj hfo'<|hfl
     refine dM8 ?_
     repeat (intro K hK)
     clear zS
     refine ⟨by simp,?_⟩
     simp [leaves_iff,Tryz.f187]
     try exact dt
     (rw [hW];refine (encAll ?_ ?_).symm<;>constructor<;>omega)
    ·have zS:=jj g1<|jj g2<|jj hfo'<|hfl
     refine dM8 ?_
     repeat (intro K hK)
     clear zS
     refine ⟨by simp,?_⟩
     simp [leaves_iff,Tryz.f187]
     try exact dt
     (rw [hW];refine (encAll ?_ ?_).symm<;>constructor<;>omega)
 ·rw [encR_k hk]
  rcases Decidable.em (k<0) with e0|e0
  ·have zS:=e0
   refine dM8 ?_
   repeat (intro K hK)
   clear zS
   refine ⟨by simp,?_⟩
   simp [leaves_iff,Tryz.f187]
   try exact dt
  ·have e1:4<k:=by omega
   have zS:=jj e0<|e1
   refine dM8 ?_
   repeat (intro K hK)
   clear zS
   refine ⟨by simp,?_⟩
   simp [leaves_iff,Tryz.f187]
   try exact dt
end Go.AM
set_option maxHeartbeats 2000000
namespace Go.AM
open Go Go.Proofs
def prs (n:Nat):En:=(((n%8:Nat):Int),((n/256%4294967296:Nat):Int),n.testBit 3,n.testBit 4,n.testBit 5,n.testBit 6)
def zE:En:=(0,0,false,false,false,false)
def decR (n:Nat):En×Int:=if encR (prs n)=((n:Int),0) then (prs n,0) else (zE,3)
theorem decR_z {n:Nat} (h:encR (prs n)=((n:Int),0)):decR n=(prs n,0):=by unfold decR;rw [if_pos h]
theorem decR_n {n:Nat} (h:¬ encR (prs n)=((n:Int),0)):decR n=(zE,3):=by unfold decR;rw [if_neg h]
theorem fb_zero (b:Bool) {n:Int} (h:n≠0):(fb b n=0)=(b=false):=by
 unfold fb;cases b<;>simp [h]
theorem fb_pos (b:Bool) {n:Int} (h:0<n):(0<fb b n)=(b=true):=by
 unfold fb;cases b<;>simp [h]
theorem and_fb {n:Nat} (hn:n<2^64) {j:Nat} (hj:j<63):bitI .and .u64 (n:Int) ((2^j:Nat):Int)=fb (n.testBit j) ((2^j:Nat):Int):=by
 have hp:2^j<2^64:=Nat.pow_lt_pow_right (by omega) (by omega)
 rw [bitI_and hn hp,and_bit]
 unfold fb
 cases n.testBit j<;>simp
theorem and7 {n:Nat} (hn:n<2^64):bitI .and .u64 (n:Int) 7=((n%8:Nat):Int):=by
 have:=bitI_and (x:=n) (y:=7) hn (by decide)
 rw [show (7:Nat)=2^3 - 1 from rfl,and_mask] at this
 exact this
theorem andF {n:Nat} (hn:n<2^64):bitI .and .u64 ((n:Int)/2^min 8 IntKind.u64.bits) 4294967295=((n/256%4294967296:Nat):Int):=by
 have e:(n:Int)/2^min 8 IntKind.u64.bits=((n/256:Nat):Int):=by
  rw [show (2:Int)^min 8 IntKind.u64.bits=256 by simp [IntKind.bits]]
  omega
 rw [e]
 have:=bitI_and (x:=n/256) (y:=4294967295) (by omega) (by decide)
 rw [show (4294967295:Nat)=2^32 - 1 from rfl,and_mask] at this
 exact this
theorem prs_rng (n:Nat):(0≤(prs n).1∧(prs n).1≤7)∧0≤(prs n).2.1∧(prs n).2.1≤4294967295:=by
 unfold prs
 simp only
 omega
theorem s56 (X:AX) (hX:XOK Tryz.prog X) (hw:X.W wT) (hen:∀ k f d a x h M n,X.call 143 [.agg [I k,I f,B d,B a,B x,B h]] M n=some (.tup [U (encR (k,f,d,a,x,h)).1,I (encR (k,f,d,a,x,h)).2],[])) :
  PSound Tryz.prog 56 (specF (ι:={n:Nat // n<2^64}) (fun x=>[U x.1]) fun x=>retOf [EnV (decR x.1).1,I (decR x.1).2]):=by
 refine psound_spec hX mixed Tryz.func56 rfl fun ⟨n,hn⟩ w0 G=>⟨by show 1≤41;decide,rfl,?_⟩
 show AW ⟨Tryz.prog,X,41,w0,.pure G⟩ _ _ _
 have hc:Cx.OK ⟨Tryz.prog,X,41,w0,.pure G⟩:=⟨hX,mixed⟩
 simp only at hn ⊢
 have p1:=and7 hn
 have p2:=andF hn
 have p3:=and_fb hn (j:=3) (by omega)
 have p4:=and_fb hn (j:=4) (by omega)
 have p5:=and_fb hn (j:=5) (by omega)
 have p6:=and_fb hn (j:=6) (by omega)
 simp only [show ((2^3:Nat):Int)=8 from rfl,show ((2^4:Nat):Int)=16 from rfl,show ((2^5:Nat):Int)=32 from rfl,show ((2^6:Nat):Int)=64 from rfl] at p3 p4 p5 p6
 have hrg:=prs_rng n
 have z3:=fb_zero (n.testBit 3) (n:=8) (by omega)
 have z4:=fb_zero (n.testBit 4) (n:=16) (by omega)
 have z5:=fb_zero (n.testBit 5) (n:=32) (by omega)
 have z6:=fb_zero (n.testBit 6) (n:=64) (by omega)
 have y3:=fb_pos (n.testBit 3) (n:=8) (by omega)
 have y4:=fb_pos (n.testBit 4) (n:=16) (by omega)
 have y5:=fb_pos (n.testBit 5) (n:=32) (by omega)
 have y6:=fb_pos (n.testBit 6) (n:=64) (by omega)
 have hdz:=@decR_z n
 have hdn:=@decR_n n
 obtain ⟨⟨k,f,d,a,x,h⟩,he⟩:∃ e,e=prs n:=⟨_,rfl⟩
 rw [← he] at hrg hdz hdn
 unfold prs at he
 simp only [Prod.mk.injEq] at he
 obtain ⟨e1,e2,e3,e4,e5,e6⟩:=he
 rw [← e1] at p1
 rw [← e2] at p2
 rw [← e3] at p3 z3 y3
 rw [← e4] at p4 z4 y4
 rw [← e5] at p5 z5 y5
 rw [← e6] at p6 z6 y6
 clear e1 e2 e3 e4 e5 e6
 simp only at hrg
 have hk:=wrap64 (n:=k) (by omega)
 have hf:=wrap64 (n:=f) (by omega)
 have hen':=hen k f d a x h
 obtain ⟨⟨W,c⟩,hR⟩:∃ r,r=encR (k,f,d,a,x,h):=⟨_,rfl⟩
 rw [← hR] at hen' hdz hdn
 simp only [Prod.mk.injEq] at hdz hdn
 simp only [U] at hen'
 unfold U
 rcases Decidable.em (c=0) with h0|h0
 ·rcases Decidable.em (W=(n:Int)) with h1|h1
  ·rw [hdz ⟨h1,h0⟩]
   subst h1 h0
   have zS:=jj p1<|jj p2<|jj p3<|jj p4<|jj p5<|jj p6<|jj z3<|jj z4<|jj z5<|jj z6<|jj y3<|jj y4<|jj y5<|jj y6<|jj hk<|jj hf<|hen'
   refine dM8 ?_
   repeat (intro K hK)
   clear zS
   refine ⟨by simp,?_⟩
   simp [leaves_iff,Tryz.f56,EnV]
   try exact dt
  ·rw [hdn fun hh=>h1 hh.1]
   subst h0
   have zS:=jj p1<|jj p2<|jj p3<|jj p4<|jj p5<|jj p6<|jj z3<|jj z4<|jj z5<|jj z6<|jj y3<|jj y4<|jj y5<|jj y6<|jj hk<|jj hf<|jj hen'<|h1
   refine dM8 ?_
   repeat (intro K hK)
   clear zS
   refine ⟨by simp,?_⟩
   simp [leaves_iff,Tryz.f56,EnV,zE]
   try exact dt
 ·rw [hdn fun hh=>h0 hh.2]
  have zS:=jj p1<|jj p2<|jj p3<|jj p4<|jj p5<|jj p6<|jj z3<|jj z4<|jj z5<|jj z6<|jj y3<|jj y4<|jj y5<|jj y6<|jj hk<|jj hf<|jj hen'<|h0
  refine dM8 ?_
  repeat (intro K hK)
  clear zS
  refine ⟨by simp,?_⟩
  simp [leaves_iff,Tryz.f56,EnV,zE]
  try exact dt
theorem s131 (X:AX) (hX:XOK Tryz.prog X) (hw:X.W wT) (hen:∀ k f d a x h M n,X.call 187 [.agg [I k,I f,B d,B a,B x,B h]] M n=some (.tup [U (encR (k,f,d,a,x,h)).1,I (encR (k,f,d,a,x,h)).2],[])) :
  PSound Tryz.prog 131 (specF (ι:={n:Nat // n<2^64}) (fun x=>[U x.1]) fun x=>retOf [EnV (decR x.1).1,I (decR x.1).2]):=by
 refine psound_spec hX mixed Tryz.func131 rfl fun ⟨n,hn⟩ w0 G=>⟨by show 1≤41;decide,rfl,?_⟩
 show AW ⟨Tryz.prog,X,41,w0,.pure G⟩ _ _ _
 have hc:Cx.OK ⟨Tryz.prog,X,41,w0,.pure G⟩:=⟨hX,mixed⟩
 simp only at hn ⊢
 have p1:=and7 hn
 have p2:=andF hn
 have p3:=and_fb hn (j:=3) (by omega)
 have p4:=and_fb hn (j:=4) (by omega)
 have p5:=and_fb hn (j:=5) (by omega)
 have p6:=and_fb hn (j:=6) (by omega)
 simp only [show ((2^3:Nat):Int)=8 from rfl,show ((2^4:Nat):Int)=16 from rfl,show ((2^5:Nat):Int)=32 from rfl,show ((2^6:Nat):Int)=64 from rfl] at p3 p4 p5 p6
 have hrg:=prs_rng n
 have z3:=fb_zero (n.testBit 3) (n:=8) (by omega)
 have z4:=fb_zero (n.testBit 4) (n:=16) (by omega)
 have z5:=fb_zero (n.testBit 5) (n:=32) (by omega)
 have z6:=fb_zero (n.testBit 6) (n:=64) (by omega)
 have y3:=fb_pos (n.testBit 3) (n:=8) (by omega)
 have y4:=fb_pos (n.testBit 4) (n:=16) (by omega)
 have y5:=fb_pos (n.testBit 5) (n:=32) (by omega)
 have y6:=fb_pos (n.testBit 6) (n:=64) (by omega)
 have hdz:=@decR_z n
 have hdn:=@decR_n n
 obtain ⟨⟨k,f,d,a,x,h⟩,he⟩:∃ e,e=prs n:=⟨_,rfl⟩
 rw [← he] at hrg hdz hdn
 unfold prs at he
 simp only [Prod.mk.injEq] at he
 obtain ⟨e1,e2,e3,e4,e5,e6⟩:=he
 rw [← e1] at p1
 rw [← e2] at p2
 rw [← e3] at p3 z3 y3
 rw [← e4] at p4 z4 y4
 rw [← e5] at p5 z5 y5
 rw [← e6] at p6 z6 y6
 clear e1 e2 e3 e4 e5 e6
 simp only at hrg
 have hk:=wrap64 (n:=k) (by omega)
 have hf:=wrap64 (n:=f) (by omega)
 have hen':=hen k f d a x h
 obtain ⟨⟨W,c⟩,hR⟩:∃ r,r=encR (k,f,d,a,x,h):=⟨_,rfl⟩
 rw [← hR] at hen' hdz hdn
 simp only [Prod.mk.injEq] at hdz hdn
 simp only [U] at hen'
 unfold U
 rcases Decidable.em (c=0) with h0|h0
 ·rcases Decidable.em (W=(n:Int)) with h1|h1
  ·rw [hdz ⟨h1,h0⟩]
   subst h1 h0
   have zS:=jj p1<|jj p2<|jj p3<|jj p4<|jj p5<|jj p6<|jj z3<|jj z4<|jj z5<|jj z6<|jj y3<|jj y4<|jj y5<|jj y6<|jj hk<|jj hf<|hen'
   refine dM8 ?_
   repeat (intro K hK)
   clear zS
   refine ⟨by simp,?_⟩
   simp [leaves_iff,Tryz.f131,EnV]
   try exact dt
  ·rw [hdn fun hh=>h1 hh.1]
   subst h0
   have zS:=jj p1<|jj p2<|jj p3<|jj p4<|jj p5<|jj p6<|jj z3<|jj z4<|jj z5<|jj z6<|jj y3<|jj y4<|jj y5<|jj y6<|jj hk<|jj hf<|jj hen'<|h1
   refine dM8 ?_
   repeat (intro K hK)
   clear zS
   refine ⟨by simp,?_⟩
   simp [leaves_iff,Tryz.f131,EnV,zE]
   try exact dt
 ·rw [hdn fun hh=>h0 hh.2]
  have zS:=jj p1<|jj p2<|jj p3<|jj p4<|jj p5<|jj p6<|jj z3<|jj z4<|jj z5<|jj z6<|jj y3<|jj y4<|jj y5<|jj y6<|jj hk<|jj hf<|jj hen'<|h0
  refine dM8 ?_
  repeat (intro K hK)
  clear zS
  refine ⟨by simp,?_⟩
  simp [leaves_iff,Tryz.f131,EnV,zE]
  try exact dt
end Go.AM
namespace Go.AM
open Go Go.Proofs
abbrev Nd:=Int×List Nat
abbrev Dp:=Int×Int
abbrev Tb:=Int×List Nd×List Dp
def wcs (l:List Nat):List AV:=l.map fun w:Nat=>U (w:Int)
theorem wcs_inj:∀ {p q:List Nat},wcs p=wcs q↔p=q
 | [],[]=>by simp
 | [],_::_=>by simp [wcs]
 | _::_,[]=>by simp [wcs]
 | x::p,y::q=>by
  have ih:=wcs_inj (p:=p) (q:=q)
  unfold wcs at ih ⊢
  rw [List.map_cons,List.map_cons,List.cons.injEq,List.cons.injEq,ih]
  simp [U]
  intro _
  omega
@[simp] theorem wcs_len (l:List Nat):(wcs l).length=l.length:=by simp [wcs]
def nrow (n:Nd):List AV:=I n.1::wcs n.2
def nrows (l:List Nd):List (List AV):=l.map nrow
def prows (l:List Dp):List (List AV):=l.map fun m=>[I m.1,I m.2]
def TbV (t:Tb):AV:=.agg [I t.1,.rd 9 (nrows t.2.1),.rd 2 (prows t.2.2)]
def ndOK (n:Nd):Prop:=n.2.length=8∧∀ w∈n.2,w<2^64
def tbOK (t:Tb):Prop:=(∀ n∈t.2.1,ndOK n)∧t.2.1.length≤1000000∧t.2.2.length≤1000000
@[simp] theorem nrows_length (l:List Nd):(nrows l).length=l.length:=by simp [nrows]
@[simp] theorem prows_length (l:List Dp):(prows l).length=l.length:=by simp [prows]
theorem nrow_inj {a b:Nd}:nrow a=nrow b↔a=b:=by
 obtain ⟨a1,a2⟩:=a
 obtain ⟨b1,b2⟩:=b
 simp only [nrow,List.cons.injEq,wcs_inj,Prod.mk.injEq,I,AV.v.injEq,Value.int.injEq,true_and]
theorem nrows_inj {l m:List Nd}:nrows l=nrows m↔l=m:=by
 unfold nrows
 induction l generalizing m with
 | nil=>cases m<;>simp
 | cons x l ih=>cases m with
  | nil=>simp
  | cons y m=>simp [ih,nrow_inj]
theorem prows_inj {l m:List Dp}:prows l=prows m↔l=m:=by
 unfold prows
 induction l generalizing m with
 | nil=>cases m<;>simp
 | cons x l ih=>cases m with
  | nil=>simp
  | cons y m =>
   obtain ⟨x1,x2⟩:=x
   obtain ⟨y1,y2⟩:=y
   simp [ih,I]
theorem TbV_inj {a b:Tb}:TbV a=TbV b↔a=b:=by
 obtain ⟨a1,a2,a3⟩:=a
 obtain ⟨b1,b2,b3⟩:=b
 simp [TbV,I,nrows_inj,prows_inj]
theorem s126 (X:AX) (hX:XOK Tryz.prog X):PSound Tryz.prog 126 (specF (ι:=Int) (fun x=>[I x]) fun x=>retOf [B (decide (0≤x∧x≤4294967295))]):=by
 refine psound_spec hX mixed Tryz.func126 rfl fun x w0 G=>⟨by show 1≤9;decide,rfl,?_⟩
 show AW ⟨Tryz.prog,X,9,w0,.pure G⟩ _ _ _
 have hc:Cx.OK ⟨Tryz.prog,X,9,w0,.pure G⟩:=⟨hX,mixed⟩
 rcases Decidable.em (0≤x) with h1|h1
 ·have zS:=h1
  refine dM8 ?_
  repeat (intro K hK)
  clear zS
  refine ⟨by simp,?_⟩
  simp [leaves_iff,Tryz.f126,h1]
  try exact dt
 ·have zS:=h1
  refine dM8 ?_
  repeat (intro K hK)
  clear zS
  refine ⟨by simp,?_⟩
  simp [leaves_iff,Tryz.f126,h1]
  try exact dt
theorem s33 (X:AX) (hX:XOK Tryz.prog X):PSound Tryz.prog 33 (specF (ι:=Tb) (fun x=>[TbV x]) fun x=>retOf [B (decide (x.2.1.length≤80∧x.2.2.length≤70))]):=by
 refine psound_spec hX mixed Tryz.func33 rfl fun ⟨r,ns,ds⟩ w0 G=>⟨by show 1≤13;decide,rfl,?_⟩
 show AW ⟨Tryz.prog,X,13,w0,.pure G⟩ _ _ _
 have hc:Cx.OK ⟨Tryz.prog,X,13,w0,.pure G⟩:=⟨hX,mixed⟩
 unfold TbV
 simp only
 rcases Decidable.em ((ns.length:Int)≤80) with h1|h1
 ·have h2:ns.length≤80:=by omega
  have zS:=jj h1<|h2
  refine dM8 ?_
  repeat (intro K hK)
  clear zS
  refine ⟨by simp,?_⟩
  simp [leaves_iff,Tryz.f33,h2]
  try exact dt
 ·have h2:¬ ns.length≤80:=by omega
  have zS:=jj h1<|h2
  refine dM8 ?_
  repeat (intro K hK)
  clear zS
  refine ⟨by simp,?_⟩
  simp [leaves_iff,Tryz.f33,h2]
  try exact dt
def dig (x l:Int):Int:=if l=2 then x/64 else if l=1 then x/8%8 else x%8
theorem s112 (X:AX) (hX:XOK Tryz.prog X):PSound Tryz.prog 112 (specF (ι:={x:Nat×Nat // x.1<512∧x.2≤2}) (fun x=>[I x.1.1,I x.1.2]) fun x=>retOf [I (dig x.1.1 x.1.2)]):=by
 refine psound_spec hX mixed Tryz.func112 rfl fun ⟨⟨n,l⟩,hn,hl⟩ w0 G=>⟨by show 2≤17;decide,rfl,?_⟩
 show AW ⟨Tryz.prog,X,17,w0,.pure G⟩ _ _ _
 have hc:Cx.OK ⟨Tryz.prog,X,17,w0,.pure G⟩:=⟨hX,mixed⟩
 simp only at hn hl ⊢
 have m8:(n:Int).tmod 8=(n:Int)%8:=rfl
 have m88:((n:Int)/8).tmod 8=(n:Int)/8%8:=Int.tmod_eq_emod_of_nonneg (by omega)
 have w8:IntKind.i64.wrap ((n:Int)/8)=(n:Int)/8:=wrap64 (by omega)
 have w64:IntKind.i64.wrap ((n:Int)/64)=(n:Int)/64:=wrap64 (by omega)
 rcases (by omega:l=0∨l=1∨l=2) with rfl|rfl|rfl
 ·have zS:=jj m8<|jj m88<|jj w8<|w64
  refine dM8 ?_
  repeat (intro K hK)
  clear zS
  refine ⟨by simp,?_⟩
  simp [leaves_iff,Tryz.f112,dig]
  try exact dt
 ·have zS:=jj m8<|jj m88<|jj w8<|w64
  refine dM8 ?_
  repeat (intro K hK)
  clear zS
  refine ⟨by simp,?_⟩
  simp [leaves_iff,Tryz.f112,dig]
  try exact dt
 ·have zS:=jj m8<|jj m88<|jj w8<|w64
  refine dM8 ?_
  repeat (intro K hK)
  clear zS
  refine ⟨by simp,?_⟩
  simp [leaves_iff,Tryz.f112,dig]
  try exact dt
end Go.AM
set_option maxHeartbeats 1000000
namespace Go.AM
open Go Go.Proofs
def suitB (e:En) (l:Nat):Bool :=
 if e.1=0 then true else if e.1=4 then decide (0<l)
 else if e.1=1 then (if l=0 then !e.2.2.2.2.2 else if l=1 then e.2.2.2.2.2 else false) else decide (l=0)
theorem s117 (X:AX) (hX:XOK Tryz.prog X) (hw:X.W wT):PSound Tryz.prog 117 (specF (ι:=En×Nat) (fun x=>[EnV x.1,I x.2]) fun x=>retOf [B (suitB x.1 x.2)]):=by
 refine psound_spec hX mixed Tryz.func117 rfl fun ⟨⟨k,f,d,a,x,h⟩,l⟩ w0 G=>⟨by show 2≤32;decide,rfl,?_⟩
 show AW ⟨Tryz.prog,X,32,w0,.pure G⟩ _ _ _
 have hc:Cx.OK ⟨Tryz.prog,X,32,w0,.pure G⟩:=⟨hX,mixed⟩
 unfold EnV
 simp only
 rcases Decidable.em (k=0) with e0|e0
 ·subst e0
  refine dM8o ?_
  repeat (intro K hK)
  refine ⟨by simp,?_⟩
  simp [leaves_iff,Tryz.f117,suitB]
  try exact dt
 ·rcases Decidable.em (k=4) with e4|e4
  ·subst e4
   refine dM8o ?_
   repeat (intro K hK)
   refine ⟨by simp,?_⟩
   simp [leaves_iff,Tryz.f117,suitB]
   try exact dt
  ·rcases Decidable.em (k=1) with e1|e1
   ·subst e1
    rcases (by omega:l=0∨l=1∨(l≠0∧l≠1)) with rfl|rfl|⟨q0,q1⟩
    ·cases h
     ·refine dM8o ?_
      repeat (intro K hK)
      refine ⟨by simp,?_⟩
      simp [leaves_iff,Tryz.f117,suitB]
      try exact dt
     ·refine dM8o ?_
      repeat (intro K hK)
      refine ⟨by simp,?_⟩
      simp [leaves_iff,Tryz.f117,suitB]
      try exact dt
    ·cases h
     ·refine dM8o ?_
      repeat (intro K hK)
      refine ⟨by simp,?_⟩
      simp [leaves_iff,Tryz.f117,suitB]
      try exact dt
     ·refine dM8o ?_
      repeat (intro K hK)
      refine ⟨by simp,?_⟩
      simp [leaves_iff,Tryz.f117,suitB]
      try exact dt
    ·have z0:¬ (l:Int)=0:=by omega
     have z1:¬ (l:Int)=1:=by omega
     cases h
     ·have zS:=jj q0<|jj q1<|jj z0<|z1
      refine dM8 ?_
      repeat (intro K hK)
      clear zS
      refine ⟨by simp,?_⟩
      simp [leaves_iff,Tryz.f117,suitB,q0,q1]
      try exact dt
     ·have zS:=jj q0<|jj q1<|jj z0<|z1
      refine dM8 ?_
      repeat (intro K hK)
      clear zS
      refine ⟨by simp,?_⟩
      simp [leaves_iff,Tryz.f117,suitB,q0,q1]
      try exact dt
   ·have zS:=jj e0<|jj e4<|e1
    refine dM8 ?_
    repeat (intro K hK)
    clear zS
    refine ⟨by simp,?_⟩
    simp [leaves_iff,Tryz.f117,suitB,e0,e4,e1]
    try exact dt
theorem s132 (X:AX) (hX:XOK Tryz.prog X) (hw:X.W wT):PSound Tryz.prog 132 (specF (ι:=En×Nat) (fun x=>[EnV x.1,I x.2]) fun x=>retOf [B (suitB x.1 x.2)]):=by
 refine psound_spec hX mixed Tryz.func132 rfl fun ⟨⟨k,f,d,a,x,h⟩,l⟩ w0 G=>⟨by show 2≤32;decide,rfl,?_⟩
 show AW ⟨Tryz.prog,X,32,w0,.pure G⟩ _ _ _
 have hc:Cx.OK ⟨Tryz.prog,X,32,w0,.pure G⟩:=⟨hX,mixed⟩
 unfold EnV
 simp only
 rcases Decidable.em (k=0) with e0|e0
 ·subst e0
  refine dM8o ?_
  repeat (intro K hK)
  refine ⟨by simp,?_⟩
  simp [leaves_iff,Tryz.f132,suitB]
  try exact dt
 ·rcases Decidable.em (k=4) with e4|e4
  ·subst e4
   refine dM8o ?_
   repeat (intro K hK)
   refine ⟨by simp,?_⟩
   simp [leaves_iff,Tryz.f132,suitB]
   try exact dt
  ·rcases Decidable.em (k=1) with e1|e1
   ·subst e1
    rcases (by omega:l=0∨l=1∨(l≠0∧l≠1)) with rfl|rfl|⟨q0,q1⟩
    ·cases h
     ·refine dM8o ?_
      repeat (intro K hK)
      refine ⟨by simp,?_⟩
      simp [leaves_iff,Tryz.f132,suitB]
      try exact dt
     ·refine dM8o ?_
      repeat (intro K hK)
      refine ⟨by simp,?_⟩
      simp [leaves_iff,Tryz.f132,suitB]
      try exact dt
    ·cases h
     ·refine dM8o ?_
      repeat (intro K hK)
      refine ⟨by simp,?_⟩
      simp [leaves_iff,Tryz.f132,suitB]
      try exact dt
     ·refine dM8o ?_
      repeat (intro K hK)
      refine ⟨by simp,?_⟩
      simp [leaves_iff,Tryz.f132,suitB]
      try exact dt
    ·have z0:¬ (l:Int)=0:=by omega
     have z1:¬ (l:Int)=1:=by omega
     cases h
     ·have zS:=jj q0<|jj q1<|jj z0<|z1
      refine dM8 ?_
      repeat (intro K hK)
      clear zS
      refine ⟨by simp,?_⟩
      simp [leaves_iff,Tryz.f132,suitB,q0,q1]
      try exact dt
     ·have zS:=jj q0<|jj q1<|jj z0<|z1
      refine dM8 ?_
      repeat (intro K hK)
      clear zS
      refine ⟨by simp,?_⟩
      simp [leaves_iff,Tryz.f132,suitB,q0,q1]
      try exact dt
   ·have zS:=jj e0<|jj e4<|e1
    refine dM8 ?_
    repeat (intro K hK)
    clear zS
    refine ⟨by simp,?_⟩
    simp [leaves_iff,Tryz.f132,suitB,e0,e4,e1]
    try exact dt
theorem s113 (X:AX) (hX:XOK Tryz.prog X) (hw:X.W wT) (hd:∀ n:Nat,n<2^64→∀ M k,X.call 56 [U n] M k=some (.tup [EnV (decR n).1,I (decR n).2],[])) :
  PSound Tryz.prog 113 (specF (ι:={n:Nat // n<2^64}) (fun x=>[U x.1]) fun x=>retOf [EnV (decR x.1).1]):=by
 refine psound_spec hX mixed Tryz.func113 rfl fun ⟨n,hn⟩ w0 G=>⟨by show 1≤11;decide,rfl,?_⟩
 show AW ⟨Tryz.prog,X,11,w0,.pure G⟩ _ _ _
 have hc:Cx.OK ⟨Tryz.prog,X,11,w0,.pure G⟩:=⟨hX,mixed⟩
 have hn:n<2^64:=hn
 have hd':=hd n hn
 obtain ⟨⟨⟨k,f,d,a,x,h⟩,e⟩,hR⟩:∃ r,r=decR n:=⟨_,rfl⟩
 rw [← hR] at hd' ⊢
 simp only [EnV,U] at hd' ⊢
 have zS:=hd'
 refine dM8 ?_
 repeat (intro K hK)
 clear zS
 refine ⟨by simp,?_⟩
 simp [leaves_iff,Tryz.f113]
 try exact dt
theorem s103 (X:AX) (hX:XOK Tryz.prog X) (hw:X.W wT) (hd:∀ n:Nat,n<2^64→∀ M k,X.call 131 [U n] M k=some (.tup [EnV (decR n).1,I (decR n).2],[])) :
  PSound Tryz.prog 103 (specF (ι:={n:Nat // n<2^64}) (fun x=>[U x.1]) fun x=>retOf [EnV (decR x.1).1]):=by
 refine psound_spec hX mixed Tryz.func103 rfl fun ⟨n,hn⟩ w0 G=>⟨by show 1≤11;decide,rfl,?_⟩
 show AW ⟨Tryz.prog,X,11,w0,.pure G⟩ _ _ _
 have hc:Cx.OK ⟨Tryz.prog,X,11,w0,.pure G⟩:=⟨hX,mixed⟩
 have hn:n<2^64:=hn
 have hd':=hd n hn
 obtain ⟨⟨⟨k,f,d,a,x,h⟩,e⟩,hR⟩:∃ r,r=decR n:=⟨_,rfl⟩
 rw [← hR] at hd' ⊢
 simp only [EnV,U] at hd' ⊢
 have zS:=hd'
 refine dM8 ?_
 repeat (intro K hK)
 clear zS
 refine ⟨by simp,?_⟩
 simp [leaves_iff,Tryz.f103]
 try exact dt
end Go.AM
namespace Go.AM
open Go Go.Proofs
def gn (l:List Nd) (n:Nat):Nd:=l.getD n (0,[])
def gp (l:List Dp) (n:Nat):Dp:=l.getD n (0,0)
theorem gn_eq {l:List Nd} {n:Nat} (h:n<l.length):gn l n=l[n]:=by
 unfold gn;rw [List.getD_eq_getElem?_getD,List.getElem?_eq_getElem h];rfl
theorem gp_eq {l:List Dp} {n:Nat} (h:n<l.length):gp l n=l[n]:=by
 unfold gp;rw [List.getD_eq_getElem?_getD,List.getElem?_eq_getElem h];rfl
theorem gn_mem {l:List Nd} {n:Nat} (h:n<l.length):gn l n∈l:=by rw [gn_eq h];exact List.getElem_mem h
theorem gp_mem {l:List Dp} {n:Nat} (h:n<l.length):gp l n∈l:=by rw [gp_eq h];exact List.getElem_mem h
theorem nrows_gi {l:List Nd} {n:Nat} (h:n<l.length):(nrows l)[n]?=some (I (gn l n).1::wcs (gn l n).2):=by
 rw [gn_eq h];simp [nrows,nrow,h]
theorem nrows_gE {l:List Nd} {n:Nat} (h:n<l.length):∀ h',(nrows l)[n]'(h')=I (gn l n).1::wcs (gn l n).2:=fun h'=>by
 have hg:=nrows_gi h
 rw [List.getElem?_eq_getElem h'] at hg
 exact Option.some.inj hg
theorem prows_gi {l:List Dp} {n:Nat} (h:n<l.length):(prows l)[n]?=some [I (gp l n).1,I (gp l n).2]:=by
 rw [gp_eq h];simp [prows,h]
theorem prows_gE {l:List Dp} {n:Nat} (h:n<l.length):∀ h',(prows l)[n]'(h')=[I (gp l n).1,I (gp l n).2]:=fun h'=>by
 have hg:=prows_gi h
 rw [List.getElem?_eq_getElem h'] at hg
 exact Option.some.inj hg
def fstG {α:Type} (p:α→Bool) (l:List α):Int:=if l.findIdx p<l.length then (l.findIdx p:Int) else -1
theorem fstG_at {α:Type} {p:α→Bool} {l:List α} {i:Nat} (hi:i<l.length) (hp:p l[i]=true) (hn:∀ j (hj:j<i),p (l[j]'(by omega))=false):fstG p l=i:=by
 have:l.findIdx p=i:=by
  rw [List.findIdx_eq hi]
  exact ⟨hp,fun j hj=>hn j hj⟩
 unfold fstG
 rw [this,if_pos hi]
theorem fstG_not {α:Type} {p:α→Bool} {l:List α} (hn:∀ j (hj:j<l.length),p l[j]=false):fstG p l=-1:=by
 have:l.findIdx p=l.length:=by
  rw [List.findIdx_eq_length]
  intro x hx
  obtain ⟨j,hj,rfl⟩:=List.getElem_of_mem hx
  exact hn j hj
 unfold fstG
 rw [this,if_neg (by omega)]
theorem s122 (X:AX) (hX:XOK Tryz.prog X):PSound Tryz.prog 122 (specF (ι:={x:Tb×Int // tbOK x.1}) (fun x=>[TbV x.1.1,I x.1.2]) fun x=>retOf [I (fstG (fun n=>decide (n.1=x.1.2)) x.1.1.2.1)]):=by
 refine psound_spec hX mixed Tryz.func122 rfl fun ⟨⟨⟨r,ns,ds⟩,f⟩,ht⟩ w0 G=>⟨by show 2≤22;decide,rfl,?_⟩
 show AW ⟨Tryz.prog,X,22,w0,.pure G⟩ _ _ _
 have hc:Cx.OK ⟨Tryz.prog,X,22,w0,.pure G⟩:=⟨hX,mixed⟩
 have hl:ns.length≤1000000:=ht.2.1
 simp only [TbV]
 repeat' (first|(apply aw_seq_k;intro K hK)|(refine eM64o ?_)|(refine aw_cond (b:=_) (by exact rfl) (fun h=>?_) (fun h=>?_)<;>(try simp at h))|(refine eB ?_)|(refine hK _ ?_;clear hK)|(clear hK;refine hK _ ?_;clear hK)|(clear hK;clear hK;refine hK _ ?_;clear hK)|(clear hK;clear hK;clear hK;refine hK _ ?_;clear hK))
 refine aw_loopK (s0:=?lps1) (m0:=?lpm1) (ι:={i:Nat // i≤ns.length∧∀ j,j<i→¬ (gn ns j).1=f}) [1,2,8] (fun i=>[(9,I i.1)]) (fun _=>[]) (fun i=>ns.length - i.1) ⟨0,by omega,by omega⟩ ?lhs1 ?lhm1 ?_ ?_
 case lhs1=>first|(simp [keepS];done)|(simp [keepS];rfl)
 case lhm1=>first|rfl|(simp;done)|(simp;rfl)
 ·exact dle
 ·rintro ⟨i,hi,hinv⟩
  simp only
  rcases Decidable.em (i<ns.length) with hil|hil
  ·have hilI:(i:Int)<(ns.length:Int):=by omega
   have hg:=nrows_gi hil
   have hgE:=nrows_gE hil
   have hat:=fstG_at (p:=fun n:Nd=>decide (n.1=f)) hil
   rw [← gn_eq hil] at hat
   obtain ⟨⟨g,ws⟩,hm⟩:∃ m,m=gn ns i:=⟨_,rfl⟩
   rw [← hm] at hg hgE hat
   simp only at hg hgE hat
   rcases Decidable.em (g=f) with h1|h1
   ·subst h1
    have e:=hat (by simp) fun j hj=>by
     have:=hinv j hj
     rw [gn_eq (by omega)] at this
     simpa using this
    have zS:=jj hilI<|jj hg<|hgE
    repeat' (first|(apply aw_seq_k;intro K hK)|(refine eM64 ?_)|(refine aw_cond (b:=_) (by exact rfl) (fun h=>?_) (fun h=>?_)<;>(try simp at h))|(refine eB ?_)|(refine hK _ ?_;clear hK)|(clear hK;refine hK _ ?_;clear hK)|(clear hK;clear hK;refine hK _ ?_;clear hK)|(clear hK;clear hK;clear hK;refine hK _ ?_;clear hK))
    all_goals clear zS
    refine ⟨by simp,?_⟩
    simp [leaves_iff,Tryz.f122,e]
    try exact dt
   ·have zS:=jj hilI<|jj hg<|jj hgE<|h1
    repeat' (first|(apply aw_seq_k;intro K hK)|(refine eM64 ?_)|(refine aw_cond (b:=_) (by exact rfl) (fun h=>?_) (fun h=>?_)<;>(try simp at h))|(refine eB ?_)|(refine hK _ ?_;clear hK)|(clear hK;refine hK _ ?_;clear hK)|(clear hK;clear hK;refine hK _ ?_;clear hK)|(clear hK;clear hK;clear hK;refine hK _ ?_;clear hK))
    all_goals clear zS
    refine ⟨i+1,?_,⟨by omega,fun j hj=>?_⟩,by omega⟩
    ·exact dle
    ·rcases Nat.lt_succ_iff_lt_or_eq.1 hj with h2|rfl
     ·exact hinv j h2
     ·rw [← hm];exact h1
  ·obtain rfl:i=ns.length:=by omega
   have e:fstG (fun n:Nd=>decide (n.1=f)) ns=-1:=fstG_not fun j hj=>by
    have:=hinv j hj
    rw [gn_eq hj] at this
    simpa using this
   repeat' (first|(apply aw_seq_k;intro K hK)|(refine eM64o ?_)|(refine aw_cond (b:=_) (by exact rfl) (fun h=>?_) (fun h=>?_)<;>(try simp at h))|(refine eB ?_)|(refine hK _ ?_;clear hK)|(clear hK;refine hK _ ?_;clear hK)|(clear hK;clear hK;refine hK _ ?_;clear hK)|(clear hK;clear hK;clear hK;refine hK _ ?_;clear hK))
   refine ⟨by simp,?_⟩
   simp [leaves_iff,Tryz.f122,e]
   try exact dt
theorem s124 (X:AX) (hX:XOK Tryz.prog X):PSound Tryz.prog 124 (specF (ι:={x:Tb×Int // tbOK x.1}) (fun x=>[TbV x.1.1,I x.1.2]) fun x=>retOf [I (fstG (fun n=>decide (n.1=x.1.2)) x.1.1.2.2)]):=by
 refine psound_spec hX mixed Tryz.func124 rfl fun ⟨⟨⟨r,ns,ds⟩,f⟩,ht⟩ w0 G=>⟨by show 2≤22;decide,rfl,?_⟩
 show AW ⟨Tryz.prog,X,22,w0,.pure G⟩ _ _ _
 have hc:Cx.OK ⟨Tryz.prog,X,22,w0,.pure G⟩:=⟨hX,mixed⟩
 have hl:ds.length≤1000000:=ht.2.2
 simp only [TbV]
 repeat' (first|(apply aw_seq_k;intro K hK)|(refine eM64o ?_)|(refine aw_cond (b:=_) (by exact rfl) (fun h=>?_) (fun h=>?_)<;>(try simp at h))|(refine eB ?_)|(refine hK _ ?_;clear hK)|(clear hK;refine hK _ ?_;clear hK)|(clear hK;clear hK;refine hK _ ?_;clear hK)|(clear hK;clear hK;clear hK;refine hK _ ?_;clear hK))
 refine aw_loopK (s0:=?lps2) (m0:=?lpm2) (ι:={i:Nat // i≤ds.length∧∀ j,j<i→¬ (gp ds j).1=f}) [1,2,8] (fun i=>[(9,I i.1)]) (fun _=>[]) (fun i=>ds.length - i.1) ⟨0,by omega,by omega⟩ ?lhs2 ?lhm2 ?_ ?_
 case lhs2=>first|(simp [keepS];done)|(simp [keepS];rfl)
 case lhm2=>first|rfl|(simp;done)|(simp;rfl)
 ·exact dle
 ·rintro ⟨i,hi,hinv⟩
  simp only
  rcases Decidable.em (i<ds.length) with hil|hil
  ·have hilI:(i:Int)<(ds.length:Int):=by omega
   have hg:=prows_gi hil
   have hgE:=prows_gE hil
   have hat:=fstG_at (p:=fun n:Dp=>decide (n.1=f)) hil
   rw [← gp_eq hil] at hat
   obtain ⟨⟨g,ws⟩,hm⟩:∃ m,m=gp ds i:=⟨_,rfl⟩
   rw [← hm] at hg hgE hat
   simp only at hg hgE hat
   rcases Decidable.em (g=f) with h1|h1
   ·subst h1
    have e:=hat (by simp) fun j hj=>by
     have:=hinv j hj
     rw [gp_eq (by omega)] at this
     simpa using this
    have zS:=jj hilI<|jj hg<|hgE
    repeat' (first|(apply aw_seq_k;intro K hK)|(refine eM64 ?_)|(refine aw_cond (b:=_) (by exact rfl) (fun h=>?_) (fun h=>?_)<;>(try simp at h))|(refine eB ?_)|(refine hK _ ?_;clear hK)|(clear hK;refine hK _ ?_;clear hK)|(clear hK;clear hK;refine hK _ ?_;clear hK)|(clear hK;clear hK;clear hK;refine hK _ ?_;clear hK))
    all_goals clear zS
    refine ⟨by simp,?_⟩
    simp [leaves_iff,Tryz.f124,e]
    try exact dt
   ·have zS:=jj hilI<|jj hg<|jj hgE<|h1
    repeat' (first|(apply aw_seq_k;intro K hK)|(refine eM64 ?_)|(refine aw_cond (b:=_) (by exact rfl) (fun h=>?_) (fun h=>?_)<;>(try simp at h))|(refine eB ?_)|(refine hK _ ?_;clear hK)|(clear hK;refine hK _ ?_;clear hK)|(clear hK;clear hK;refine hK _ ?_;clear hK)|(clear hK;clear hK;clear hK;refine hK _ ?_;clear hK))
    all_goals clear zS
    refine ⟨i+1,?_,⟨by omega,fun j hj=>?_⟩,by omega⟩
    ·exact dle
    ·rcases Nat.lt_succ_iff_lt_or_eq.1 hj with h2|rfl
     ·exact hinv j h2
     ·rw [← hm];exact h1
  ·obtain rfl:i=ds.length:=by omega
   have e:fstG (fun n:Dp=>decide (n.1=f)) ds=-1:=fstG_not fun j hj=>by
    have:=hinv j hj
    rw [gp_eq hj] at this
    simpa using this
   repeat' (first|(apply aw_seq_k;intro K hK)|(refine eM64o ?_)|(refine aw_cond (b:=_) (by exact rfl) (fun h=>?_) (fun h=>?_)<;>(try simp at h))|(refine eB ?_)|(refine hK _ ?_;clear hK)|(clear hK;refine hK _ ?_;clear hK)|(clear hK;clear hK;refine hK _ ?_;clear hK)|(clear hK;clear hK;clear hK;refine hK _ ?_;clear hK))
   refine ⟨by simp,?_⟩
   simp [leaves_iff,Tryz.f124,e]
   try exact dt
end Go.AM
