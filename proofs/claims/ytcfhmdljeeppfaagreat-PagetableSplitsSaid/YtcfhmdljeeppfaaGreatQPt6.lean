/- A part of the proof; no condition. -/
import Derived.Test.YtcfhmdljeeppfaaGreatQAmDs
set_option linter.all false
namespace Go.AM
open Go Go.Proofs
set_option maxHeartbeats 2000000 in
theorem s187 (X:AX) (hX:XOK Tryz.prog X) (hw:X.W wT) (hfo:∀ k f d a x h,0≤k∧k≤4→∀ M n,X.call 216 [.agg [I k,I f,B d,B a,B x,B h]] M n=some (B (frmE (k,f,d,a,x,h)),[]))
  (hfl:∀ b c M n,X.call 217 [B b,.v (.int .u64 c)] M n=some (.v (.int .u64 (fb b c)),[])):PSound Tryz.prog 187 (specF (ι:=En) (fun x=>[EnV x]) fun x=>retOf [U (encR x).1,I (encR x).2]):=by
 refine psound_spec hX mixed Tryz.func187 rfl fun ⟨k,f,d,a,x,h⟩ w0 G=>⟨by show 1≤61;decide,rfl,?_⟩
 show AW ⟨Tryz.prog,X,61,w0,.pure G⟩ _ _ _
 have hc:Cx.OK ⟨Tryz.prog,X,61,w0,.pure G⟩:=⟨hX,mixed⟩
 unfold EnV U
 simp only
 rcases Decidable.em (0≤k∧k≤4) with hk|hk
 ·have hfo':=hfo k f d a x h hk
  rcases Decidable.em (badF (k,f,d,a,x,h)) with hb|hb
  ·rw [encR_f hk hb]
   unfold badF at hb
   simp only at hb
   rcases (by omega:k=0∨k=1∨k=2∨k=3∨k=4) with rfl|rfl|rfl|rfl|rfl
   ·rcases Decidable.em (f<0) with g1|g1
    ·have zS:=g1
     refine dM8 ?_
     repeat (intro K hK)
     clear zS
     refine ⟨by simp,?_⟩
     simp [leaves_iff,Tryz.f187]
     try exact dt
    ·have g2:4294967295<f:=by
      rcases hb with hb|hb|hb
      ·exact absurd hb g1
      ·exact hb
      ·exact absurd hb.1 (by omega)
     have zS:=jj g1<|g2
     refine dM8 ?_
     repeat (intro K hK)
     clear zS
     refine ⟨by simp,?_⟩
     simp [leaves_iff,Tryz.f187]
     try exact dt
   ·rcases Decidable.em (f<0) with g1|g1
    ·have zS:=g1
     refine dM8 ?_
     repeat (intro K hK)
     clear zS
     refine ⟨by simp,?_⟩
     simp [leaves_iff,Tryz.f187]
     try exact dt
    ·rcases Decidable.em (4294967295<f) with g2|g2
     ·have zS:=jj g1<|g2
      refine dM8 ?_
      repeat (intro K hK)
      clear zS
      refine ⟨by simp,?_⟩
      simp [leaves_iff,Tryz.f187]
      try exact dt
     ·have g3:h=true∧4294967288<f:=by
       rcases hb with hb|hb|hb
       ·exact absurd hb g1
       ·exact absurd hb g2
       ·exact hb.2
      obtain ⟨rfl,g3⟩:=g3
      have zS:=jj g1<|jj g2<|g3
      refine dM8 ?_
      repeat (intro K hK)
      clear zS
      refine ⟨by simp,?_⟩
      simp [leaves_iff,Tryz.f187]
      try exact dt
   ·rcases Decidable.em (f<0) with g1|g1
    ·have zS:=g1
     refine dM8 ?_
     repeat (intro K hK)
     clear zS
     refine ⟨by simp,?_⟩
     simp [leaves_iff,Tryz.f187]
     try exact dt
    ·have g2:4294967295<f:=by
      rcases hb with hb|hb|hb
      ·exact absurd hb g1
      ·exact hb
      ·exact absurd hb.1 (by omega)
     have zS:=jj g1<|g2
     refine dM8 ?_
     repeat (intro K hK)
     clear zS
     refine ⟨by simp,?_⟩
     simp [leaves_iff,Tryz.f187]
     try exact dt
   ·rcases Decidable.em (f<0) with g1|g1
    ·have zS:=g1
     refine dM8 ?_
     repeat (intro K hK)
     clear zS
     refine ⟨by simp,?_⟩
     simp [leaves_iff,Tryz.f187]
     try exact dt
    ·have g2:4294967295<f:=by
      rcases hb with hb|hb|hb
      ·exact absurd hb g1
      ·exact hb
      ·exact absurd hb.1 (by omega)
     have zS:=jj g1<|g2
     refine dM8 ?_
     repeat (intro K hK)
     clear zS
     refine ⟨by simp,?_⟩
     simp [leaves_iff,Tryz.f187]
     try exact dt
   ·rcases Decidable.em (f<0) with g1|g1
    ·have zS:=g1
     refine dM8 ?_
     repeat (intro K hK)
     clear zS
     refine ⟨by simp,?_⟩
     simp [leaves_iff,Tryz.f187]
     try exact dt
    ·have g2:4294967295<f:=by
      rcases hb with hb|hb|hb
      ·exact absurd hb g1
      ·exact hb
      ·exact absurd hb.1 (by omega)
     have zS:=jj g1<|g2
     refine dM8 ?_
     repeat (intro K hK)
     clear zS
     refine ⟨by simp,?_⟩
     simp [leaves_iff,Tryz.f187]
     try exact dt
  ·have hb':=hb
   unfold badF at hb'
   simp only [not_or] at hb'
   have g1:¬ f<0:=hb'.1
   have g2:¬ 4294967295<f:=hb'.2.1
   have g3:=hb'.2.2
   have e5:=@encR_m (k,f,d,a,x,h) hk hb
   have e6:=@encR_z (k,f,d,a,x,h) hk hb
   obtain ⟨W,hW⟩:∃ W,W=encW (k,f,d,a,x,h):=⟨_,rfl⟩
   rw [← hW] at e6
   cases hfm:frmE (k,f,d,a,x,h) with
   | false =>
    rw [e5 hfm]
    rw [hfm] at hfo'
    rcases (by omega:k=0∨k=1∨k=2∨k=3∨k=4) with rfl|rfl|rfl|rfl|rfl
    ·have zS:=jj g1<|jj g2<|hfo'
     refine dM8 ?_
     repeat (intro K hK)
     clear zS
     refine ⟨by simp,?_⟩
     simp [leaves_iff,Tryz.f187]
     try exact dt
    ·have g4:¬ (h=true∧4294967288<f):=fun hh=>g3 ⟨rfl,hh⟩
     cases h
     ·have zS:=jj g1<|jj g2<|hfo'
      refine dM8 ?_
      repeat (intro K hK)
      clear zS
      refine ⟨by simp,?_⟩
      simp [leaves_iff,Tryz.f187]
      try exact dt
     ·have g5:¬ 4294967288<f:=fun hh=>g4 ⟨rfl,hh⟩
      have zS:=jj g1<|jj g2<|jj g5<|hfo'
      refine dM8 ?_
      repeat (intro K hK)
      clear zS
      refine ⟨by simp,?_⟩
      simp [leaves_iff,Tryz.f187]
      try exact dt
    ·have zS:=jj g1<|jj g2<|hfo'
     refine dM8 ?_
     repeat (intro K hK)
     clear zS
     refine ⟨by simp,?_⟩
     simp [leaves_iff,Tryz.f187]
     try exact dt
    ·have zS:=jj g1<|jj g2<|hfo'
     refine dM8 ?_
     repeat (intro K hK)
     clear zS
     refine ⟨by simp,?_⟩
     simp [leaves_iff,Tryz.f187]
     try exact dt
    ·have zS:=jj g1<|jj g2<|hfo'
     refine dM8 ?_
     repeat (intro K hK)
     clear zS
     refine ⟨by simp,?_⟩
     simp [leaves_iff,Tryz.f187]
     try exact dt
   | true =>
    rw [e6 hfm]
    rw [hfm] at hfo'
    clear e5 e6 hfm
    rcases (by omega:k=0∨k=1∨k=2∨k=3∨k=4) with rfl|rfl|rfl|rfl|rfl
    ·have zS:=jj g1<|jj g2<|jj hfo'<|hfl
     refine dM8 ?_
     repeat (intro K hK)
     clear zS
     refine ⟨by simp,?_⟩
     simp [leaves_iff,Tryz.f187]
     try exact dt
     (rw [hW];refine (encAll ?_ ?_).symm<;>constructor<;>omega)
    ·have g4:¬ (h=true∧4294967288<f):=fun hh=>g3 ⟨rfl,hh⟩
     cases h
     ·have zS:=jj g1<|jj g2<|jj hfo'<|hfl
      refine dM8 ?_
      repeat (intro K hK)
      clear zS
      refine ⟨by simp,?_⟩
      simp [leaves_iff,Tryz.f187]
      try exact dt
      (rw [hW];refine (encAll ?_ ?_).symm<;>constructor<;>omega)
     ·have g5:¬ 4294967288<f:=fun hh=>g4 ⟨rfl,hh⟩
      have zS:=jj g1<|jj g2<|jj g5<|jj hfo'<|hfl
      refine dM8 ?_
      repeat (intro K hK)
      clear zS
      refine ⟨by simp,?_⟩
      simp [leaves_iff,Tryz.f187]
      try exact dt
      (rw [hW];refine (encAll ?_ ?_).symm<;>constructor<;>omega)
    ·have zS:=jj g1<|jj g2<|jj hfo'<|hfl
     refine dM8 ?_
     repeat (intro K hK)
     clear zS
     refine ⟨by simp,?_⟩
     simp [leaves_iff,Tryz.f187]
     try exact dt
     (rw [hW];refine (encAll ?_ ?_).symm<;>constructor<;>omega)
    ·have zS:=jj g1<|jj g2<|jj hfo'<|hfl
     refine dM8 ?_
     repeat (intro K hK)
     clear zS
     refine ⟨by simp,?_⟩
     simp [leaves_iff,Tryz.f187]
     try exact dt
     (rw [hW];refine (encAll ?_ ?_).symm<;>constructor<;>omega)
    ·have zS:=jj g1<|jj g2<|jj hfo'<|hfl
     refine dM8 ?_
     repeat (intro K hK)
     clear zS
     refine ⟨by simp,?_⟩
     simp [leaves_iff,Tryz.f187]
     try exact dt
     (rw [hW];refine (encAll ?_ ?_).symm<;>constructor<;>omega)
 ·rw [encR_k hk]
  rcases Decidable.em (k<0) with e0|e0
  ·have zS:=e0
   refine dM8 ?_
   repeat (intro K hK)
   clear zS
   refine ⟨by simp,?_⟩
   simp [leaves_iff,Tryz.f187]
   try exact dt
  ·have e1:4<k:=by omega
   have zS:=jj e0<|e1
   refine dM8 ?_
   repeat (intro K hK)
   clear zS
   refine ⟨by simp,?_⟩
   simp [leaves_iff,Tryz.f187]
   try exact dt
end Go.AM
set_option maxHeartbeats 2000000
namespace Go.AM
open Go Go.Proofs
def prs (n:Nat):En:=(((n%8:Nat):Int),((n/256%4294967296:Nat):Int),n.testBit 3,n.testBit 4,n.testBit 5,n.testBit 6)
def zE:En:=(0,0,false,false,false,false)
def decR (n:Nat):En×Int:=if encR (prs n)=((n:Int),0) then (prs n,0) else (zE,3)
theorem decR_z {n:Nat} (h:encR (prs n)=((n:Int),0)):decR n=(prs n,0):=by unfold decR;rw [if_pos h]
theorem decR_n {n:Nat} (h:¬ encR (prs n)=((n:Int),0)):decR n=(zE,3):=by unfold decR;rw [if_neg h]
theorem fb_zero (b:Bool) {n:Int} (h:n≠0):(fb b n=0)=(b=false):=by
 unfold fb;cases b<;>simp [h]
theorem fb_pos (b:Bool) {n:Int} (h:0<n):(0<fb b n)=(b=true):=by
 unfold fb;cases b<;>simp [h]
theorem and_fb {n:Nat} (hn:n<2^64) {j:Nat} (hj:j<63):bitI .and .u64 (n:Int) ((2^j:Nat):Int)=fb (n.testBit j) ((2^j:Nat):Int):=by
 have hp:2^j<2^64:=Nat.pow_lt_pow_right (by omega) (by omega)
 rw [bitI_and hn hp,and_bit]
 unfold fb
 cases n.testBit j<;>simp
theorem and7 {n:Nat} (hn:n<2^64):bitI .and .u64 (n:Int) 7=((n%8:Nat):Int):=by
 have:=bitI_and (x:=n) (y:=7) hn (by decide)
 rw [show (7:Nat)=2^3 - 1 from rfl,and_mask] at this
 exact this
theorem andF {n:Nat} (hn:n<2^64):bitI .and .u64 ((n:Int)/2^min 8 IntKind.u64.bits) 4294967295=((n/256%4294967296:Nat):Int):=by
 have e:(n:Int)/2^min 8 IntKind.u64.bits=((n/256:Nat):Int):=by
  rw [show (2:Int)^min 8 IntKind.u64.bits=256 by simp [IntKind.bits]]
  omega
 rw [e]
 have:=bitI_and (x:=n/256) (y:=4294967295) (by omega) (by decide)
 rw [show (4294967295:Nat)=2^32 - 1 from rfl,and_mask] at this
 exact this
theorem prs_rng (n:Nat):(0≤(prs n).1∧(prs n).1≤7)∧0≤(prs n).2.1∧(prs n).2.1≤4294967295:=by
 unfold prs
 simp only
 omega
theorem s56 (X:AX) (hX:XOK Tryz.prog X) (hw:X.W wT) (hen:∀ k f d a x h M n,X.call 143 [.agg [I k,I f,B d,B a,B x,B h]] M n=some (.tup [U (encR (k,f,d,a,x,h)).1,I (encR (k,f,d,a,x,h)).2],[])) :
  PSound Tryz.prog 56 (specF (ι:={n:Nat // n<2^64}) (fun x=>[U x.1]) fun x=>retOf [EnV (decR x.1).1,I (decR x.1).2]):=by
 refine psound_spec hX mixed Tryz.func56 rfl fun ⟨n,hn⟩ w0 G=>⟨by show 1≤41;decide,rfl,?_⟩
 show AW ⟨Tryz.prog,X,41,w0,.pure G⟩ _ _ _
 have hc:Cx.OK ⟨Tryz.prog,X,41,w0,.pure G⟩:=⟨hX,mixed⟩
 simp only at hn ⊢
 have p1:=and7 hn
 have p2:=andF hn
 have p3:=and_fb hn (j:=3) (by omega)
 have p4:=and_fb hn (j:=4) (by omega)
 have p5:=and_fb hn (j:=5) (by omega)
 have p6:=and_fb hn (j:=6) (by omega)
 simp only [show ((2^3:Nat):Int)=8 from rfl,show ((2^4:Nat):Int)=16 from rfl,show ((2^5:Nat):Int)=32 from rfl,show ((2^6:Nat):Int)=64 from rfl] at p3 p4 p5 p6
 have hrg:=prs_rng n
 have z3:=fb_zero (n.testBit 3) (n:=8) (by omega)
 have z4:=fb_zero (n.testBit 4) (n:=16) (by omega)
 have z5:=fb_zero (n.testBit 5) (n:=32) (by omega)
 have z6:=fb_zero (n.testBit 6) (n:=64) (by omega)
 have y3:=fb_pos (n.testBit 3) (n:=8) (by omega)
 have y4:=fb_pos (n.testBit 4) (n:=16) (by omega)
 have y5:=fb_pos (n.testBit 5) (n:=32) (by omega)
 have y6:=fb_pos (n.testBit 6) (n:=64) (by omega)
 have hdz:=@decR_z n
 have hdn:=@decR_n n
 obtain ⟨⟨k,f,d,a,x,h⟩,he⟩:∃ e,e=prs n:=⟨_,rfl⟩
 rw [← he] at hrg hdz hdn
 unfold prs at he
 simp only [Prod.mk.injEq] at he
 obtain ⟨e1,e2,e3,e4,e5,e6⟩:=he
 rw [← e1] at p1
 rw [← e2] at p2
 rw [← e3] at p3 z3 y3
 rw [← e4] at p4 z4 y4
 rw [← e5] at p5 z5 y5
 rw [← e6] at p6 z6 y6
 clear e1 e2 e3 e4 e5 e6
 simp only at hrg
 have hk:=wrap64 (n:=k) (by omega)
 have hf:=wrap64 (n:=f) (by omega)
 have hen':=hen k f d a x h
 obtain ⟨⟨W,c⟩,hR⟩:∃ r,r=encR (k,f,d,a,x,h):=⟨_,rfl⟩
 rw [← hR] at hen' hdz hdn
 simp only [Prod.mk.injEq] at hdz hdn
 simp only [U] at hen'
 unfold U
 rcases Decidable.em (c=0) with h0|h0
 ·rcases Decidable.em (W=(n:Int)) with h1|h1
  ·rw [hdz ⟨h1,h0⟩]
   subst h1 h0
   have zS:=jj p1<|jj p2<|jj p3<|jj p4<|jj p5<|jj p6<|jj z3<|jj z4<|jj z5<|jj z6<|jj y3<|jj y4<|jj y5<|jj y6<|jj hk<|jj hf<|hen'
   refine dM8 ?_
   repeat (intro K hK)
   clear zS
   refine ⟨by simp,?_⟩
   simp [leaves_iff,Tryz.f56,EnV]
   try exact dt
  ·rw [hdn fun hh=>h1 hh.1]
   subst h0
   have zS:=jj p1<|jj p2<|jj p3<|jj p4<|jj p5<|jj p6<|jj z3<|jj z4<|jj z5<|jj z6<|jj y3<|jj y4<|jj y5<|jj y6<|jj hk<|jj hf<|jj hen'<|h1
   refine dM8 ?_
   repeat (intro K hK)
   clear zS
   refine ⟨by simp,?_⟩
   simp [leaves_iff,Tryz.f56,EnV,zE]
   try exact dt
 ·rw [hdn fun hh=>h0 hh.2]
  have zS:=jj p1<|jj p2<|jj p3<|jj p4<|jj p5<|jj p6<|jj z3<|jj z4<|jj z5<|jj z6<|jj y3<|jj y4<|jj y5<|jj y6<|jj hk<|jj hf<|jj hen'<|h0
  refine dM8 ?_
  repeat (intro K hK)
  clear zS
  refine ⟨by simp,?_⟩
  simp [leaves_iff,Tryz.f56,EnV,zE]
  try exact dt
theorem s131 (X:AX) (hX:XOK Tryz.prog X) (hw:X.W wT) (hen:∀ k f d a x h M n,X.call 187 [.agg [I k,I f,B d,B a,B x,B h]] M n=some (.tup [U (encR (k,f,d,a,x,h)).1,I (encR (k,f,d,a,x,h)).2],[])) :
  PSound Tryz.prog 131 (specF (ι:={n:Nat // n<2^64}) (fun x=>[U x.1]) fun x=>retOf [EnV (decR x.1).1,I (decR x.1).2]):=by
 refine psound_spec hX mixed Tryz.func131 rfl fun ⟨n,hn⟩ w0 G=>⟨by show 1≤41;decide,rfl,?_⟩
 show AW ⟨Tryz.prog,X,41,w0,.pure G⟩ _ _ _
 have hc:Cx.OK ⟨Tryz.prog,X,41,w0,.pure G⟩:=⟨hX,mixed⟩
 simp only at hn ⊢
 have p1:=and7 hn
 have p2:=andF hn
 have p3:=and_fb hn (j:=3) (by omega)
 have p4:=and_fb hn (j:=4) (by omega)
 have p5:=and_fb hn (j:=5) (by omega)
 have p6:=and_fb hn (j:=6) (by omega)
 simp only [show ((2^3:Nat):Int)=8 from rfl,show ((2^4:Nat):Int)=16 from rfl,show ((2^5:Nat):Int)=32 from rfl,show ((2^6:Nat):Int)=64 from rfl] at p3 p4 p5 p6
 have hrg:=prs_rng n
 have z3:=fb_zero (n.testBit 3) (n:=8) (by omega)
 have z4:=fb_zero (n.testBit 4) (n:=16) (by omega)
 have z5:=fb_zero (n.testBit 5) (n:=32) (by omega)
 have z6:=fb_zero (n.testBit 6) (n:=64) (by omega)
 have y3:=fb_pos (n.testBit 3) (n:=8) (by omega)
 have y4:=fb_pos (n.testBit 4) (n:=16) (by omega)
 have y5:=fb_pos (n.testBit 5) (n:=32) (by omega)
 have y6:=fb_pos (n.testBit 6) (n:=64) (by omega)
 have hdz:=@decR_z n
 have hdn:=@decR_n n
 obtain ⟨⟨k,f,d,a,x,h⟩,he⟩:∃ e,e=prs n:=⟨_,rfl⟩
 rw [← he] at hrg hdz hdn
 unfold prs at he
 simp only [Prod.mk.injEq] at he
 obtain ⟨e1,e2,e3,e4,e5,e6⟩:=he
 rw [← e1] at p1
 rw [← e2] at p2
 rw [← e3] at p3 z3 y3
 rw [← e4] at p4 z4 y4
 rw [← e5] at p5 z5 y5
 rw [← e6] at p6 z6 y6
 clear e1 e2 e3 e4 e5 e6
 simp only at hrg
 have hk:=wrap64 (n:=k) (by omega)
 have hf:=wrap64 (n:=f) (by omega)
 have hen':=hen k f d a x h
 obtain ⟨⟨W,c⟩,hR⟩:∃ r,r=encR (k,f,d,a,x,h):=⟨_,rfl⟩
 rw [← hR] at hen' hdz hdn
 simp only [Prod.mk.injEq] at hdz hdn
 simp only [U] at hen'
 unfold U
 rcases Decidable.em (c=0) with h0|h0
 ·rcases Decidable.em (W=(n:Int)) with h1|h1
  ·rw [hdz ⟨h1,h0⟩]
   subst h1 h0
   have zS:=jj p1<|jj p2<|jj p3<|jj p4<|jj p5<|jj p6<|jj z3<|jj z4<|jj z5<|jj z6<|jj y3<|jj y4<|jj y5<|jj y6<|jj hk<|jj hf<|hen'
   refine dM8 ?_
   repeat (intro K hK)
   clear zS
   refine ⟨by simp,?_⟩
   simp [leaves_iff,Tryz.f131,EnV]
   try exact dt
  ·rw [hdn fun hh=>h1 hh.1]
   subst h0
   have zS:=jj p1<|jj p2<|jj p3<|jj p4<|jj p5<|jj p6<|jj z3<|jj z4<|jj z5<|jj z6<|jj y3<|jj y4<|jj y5<|jj y6<|jj hk<|jj hf<|jj hen'<|h1
   refine dM8 ?_
   repeat (intro K hK)
   clear zS
   refine ⟨by simp,?_⟩
   simp [leaves_iff,Tryz.f131,EnV,zE]
   try exact dt
 ·rw [hdn fun hh=>h0 hh.2]
  have zS:=jj p1<|jj p2<|jj p3<|jj p4<|jj p5<|jj p6<|jj z3<|jj z4<|jj z5<|jj z6<|jj y3<|jj y4<|jj y5<|jj y6<|jj hk<|jj hf<|jj hen'<|h0
  refine dM8 ?_
  repeat (intro K hK)
  clear zS
  refine ⟨by simp,?_⟩
  simp [leaves_iff,Tryz.f131,EnV,zE]
  try exact dt
end Go.AM
namespace Go.AM
open Go Go.Proofs
abbrev Nd:=Int×List Nat
abbrev Dp:=Int×Int
abbrev Tb:=Int×List Nd×List Dp
def wcs (l:List Nat):List AV:=l.map fun w:Nat=>U (w:Int)
theorem wcs_inj:∀ {p q:List Nat},wcs p=wcs q↔p=q
 | [],[]=>by simp
 | [],_::_=>by simp [wcs]
 | _::_,[]=>by simp [wcs]
 | x::p,y::q=>by
  have ih:=wcs_inj (p:=p) (q:=q)
  unfold wcs at ih ⊢
  rw [List.map_cons,List.map_cons,List.cons.injEq,List.cons.injEq,ih]
  simp [U]
  intro _
  omega
@[simp] theorem wcs_len (l:List Nat):(wcs l).length=l.length:=by simp [wcs]
def nrow (n:Nd):List AV:=I n.1::wcs n.2
def nrows (l:List Nd):List (List AV):=l.map nrow
def prows (l:List Dp):List (List AV):=l.map fun m=>[I m.1,I m.2]
def TbV (t:Tb):AV:=.agg [I t.1,.rd 9 (nrows t.2.1),.rd 2 (prows t.2.2)]
def ndOK (n:Nd):Prop:=n.2.length=8∧∀ w∈n.2,w<2^64
def tbOK (t:Tb):Prop:=(∀ n∈t.2.1,ndOK n)∧t.2.1.length≤1000000∧t.2.2.length≤1000000
@[simp] theorem nrows_length (l:List Nd):(nrows l).length=l.length:=by simp [nrows]
@[simp] theorem prows_length (l:List Dp):(prows l).length=l.length:=by simp [prows]
theorem nrow_inj {a b:Nd}:nrow a=nrow b↔a=b:=by
 obtain ⟨a1,a2⟩:=a
 obtain ⟨b1,b2⟩:=b
 simp only [nrow,List.cons.injEq,wcs_inj,Prod.mk.injEq,I,AV.v.injEq,Value.int.injEq,true_and]
theorem nrows_inj {l m:List Nd}:nrows l=nrows m↔l=m:=by
 unfold nrows
 induction l generalizing m with
 | nil=>cases m<;>simp
 | cons x l ih=>cases m with
  | nil=>simp
  | cons y m=>simp [ih,nrow_inj]
theorem prows_inj {l m:List Dp}:prows l=prows m↔l=m:=by
 unfold prows
 induction l generalizing m with
 | nil=>cases m<;>simp
 | cons x l ih=>cases m with
  | nil=>simp
  | cons y m =>
   obtain ⟨x1,x2⟩:=x
   obtain ⟨y1,y2⟩:=y
   simp [ih,I]
theorem TbV_inj {a b:Tb}:TbV a=TbV b↔a=b:=by
 obtain ⟨a1,a2,a3⟩:=a
 obtain ⟨b1,b2,b3⟩:=b
 simp [TbV,I,nrows_inj,prows_inj]
theorem s126 (X:AX) (hX:XOK Tryz.prog X):PSound Tryz.prog 126 (specF (ι:=Int) (fun x=>[I x]) fun x=>retOf [B (decide (0≤x∧x≤4294967295))]):=by
 refine psound_spec hX mixed Tryz.func126 rfl fun x w0 G=>⟨by show 1≤9;decide,rfl,?_⟩
 show AW ⟨Tryz.prog,X,9,w0,.pure G⟩ _ _ _
 have hc:Cx.OK ⟨Tryz.prog,X,9,w0,.pure G⟩:=⟨hX,mixed⟩
 rcases Decidable.em (0≤x) with h1|h1
 ·have zS:=h1
  refine dM8 ?_
  repeat (intro K hK)
  clear zS
  refine ⟨by simp,?_⟩
  simp [leaves_iff,Tryz.f126,h1]
  try exact dt
 ·have zS:=h1
  refine dM8 ?_
  repeat (intro K hK)
  clear zS
  refine ⟨by simp,?_⟩
  simp [leaves_iff,Tryz.f126,h1]
  try exact dt
theorem s33 (X:AX) (hX:XOK Tryz.prog X):PSound Tryz.prog 33 (specF (ι:=Tb) (fun x=>[TbV x]) fun x=>retOf [B (decide (x.2.1.length≤80∧x.2.2.length≤70))]):=by
 refine psound_spec hX mixed Tryz.func33 rfl fun ⟨r,ns,ds⟩ w0 G=>⟨by show 1≤13;decide,rfl,?_⟩
 show AW ⟨Tryz.prog,X,13,w0,.pure G⟩ _ _ _
 have hc:Cx.OK ⟨Tryz.prog,X,13,w0,.pure G⟩:=⟨hX,mixed⟩
 unfold TbV
 simp only
 rcases Decidable.em ((ns.length:Int)≤80) with h1|h1
 ·have h2:ns.length≤80:=by omega
  have zS:=jj h1<|h2
  refine dM8 ?_
  repeat (intro K hK)
  clear zS
  refine ⟨by simp,?_⟩
  simp [leaves_iff,Tryz.f33,h2]
  try exact dt
 ·have h2:¬ ns.length≤80:=by omega
  have zS:=jj h1<|h2
  refine dM8 ?_
  repeat (intro K hK)
  clear zS
  refine ⟨by simp,?_⟩
  simp [leaves_iff,Tryz.f33,h2]
  try exact dt
def dig (x l:Int):Int:=if l=2 then x/64 else if l=1 then x/8%8 else x%8
theorem s112 (X:AX) (hX:XOK Tryz.prog X):PSound Tryz.prog 112 (specF (ι:={x:Nat×Nat // x.1<512∧x.2≤2}) (fun x=>[I x.1.1,I x.1.2]) fun x=>retOf [I (dig x.1.1 x.1.2)]):=by
 refine psound_spec hX mixed Tryz.func112 rfl fun ⟨⟨n,l⟩,hn,hl⟩ w0 G=>⟨by show 2≤17;decide,rfl,?_⟩
 show AW ⟨Tryz.prog,X,17,w0,.pure G⟩ _ _ _
 have hc:Cx.OK ⟨Tryz.prog,X,17,w0,.pure G⟩:=⟨hX,mixed⟩
 simp only at hn hl ⊢
 have m8:(n:Int).tmod 8=(n:Int)%8:=rfl
 have m88:((n:Int)/8).tmod 8=(n:Int)/8%8:=Int.tmod_eq_emod_of_nonneg (by omega)
 have w8:IntKind.i64.wrap ((n:Int)/8)=(n:Int)/8:=wrap64 (by omega)
 have w64:IntKind.i64.wrap ((n:Int)/64)=(n:Int)/64:=wrap64 (by omega)
 rcases (by omega:l=0∨l=1∨l=2) with rfl|rfl|rfl
 ·have zS:=jj m8<|jj m88<|jj w8<|w64
  refine dM8 ?_
  repeat (intro K hK)
  clear zS
  refine ⟨by simp,?_⟩
  simp [leaves_iff,Tryz.f112,dig]
  try exact dt
 ·have zS:=jj m8<|jj m88<|jj w8<|w64
  refine dM8 ?_
  repeat (intro K hK)
  clear zS
  refine ⟨by simp,?_⟩
  simp [leaves_iff,Tryz.f112,dig]
  try exact dt
 ·have zS:=jj m8<|jj m88<|jj w8<|w64
  refine dM8 ?_
  repeat (intro K hK)
  clear zS
  refine ⟨by simp,?_⟩
  simp [leaves_iff,Tryz.f112,dig]
  try exact dt
end Go.AM
set_option maxHeartbeats 1000000
namespace Go.AM
open Go Go.Proofs
def suitB (e:En) (l:Nat):Bool :=
 if e.1=0 then true else if e.1=4 then decide (0<l)
 else if e.1=1 then (if l=0 then !e.2.2.2.2.2 else if l=1 then e.2.2.2.2.2 else false) else decide (l=0)
theorem s117 (X:AX) (hX:XOK Tryz.prog X) (hw:X.W wT):PSound Tryz.prog 117 (specF (ι:=En×Nat) (fun x=>[EnV x.1,I x.2]) fun x=>retOf [B (suitB x.1 x.2)]):=by
 refine psound_spec hX mixed Tryz.func117 rfl fun ⟨⟨k,f,d,a,x,h⟩,l⟩ w0 G=>⟨by show 2≤32;decide,rfl,?_⟩
 show AW ⟨Tryz.prog,X,32,w0,.pure G⟩ _ _ _
 have hc:Cx.OK ⟨Tryz.prog,X,32,w0,.pure G⟩:=⟨hX,mixed⟩
 unfold EnV
 simp only
 rcases Decidable.em (k=0) with e0|e0
 ·subst e0
  refine dM8o ?_
  repeat (intro K hK)
  refine ⟨by simp,?_⟩
  simp [leaves_iff,Tryz.f117,suitB]
  try exact dt
 ·rcases Decidable.em (k=4) with e4|e4
  ·subst e4
   refine dM8o ?_
   repeat (intro K hK)
   refine ⟨by simp,?_⟩
   simp [leaves_iff,Tryz.f117,suitB]
   try exact dt
  ·rcases Decidable.em (k=1) with e1|e1
   ·subst e1
    rcases (by omega:l=0∨l=1∨(l≠0∧l≠1)) with rfl|rfl|⟨q0,q1⟩
    ·cases h
     ·refine dM8o ?_
      repeat (intro K hK)
      refine ⟨by simp,?_⟩
      simp [leaves_iff,Tryz.f117,suitB]
      try exact dt
     ·refine dM8o ?_
      repeat (intro K hK)
      refine ⟨by simp,?_⟩
      simp [leaves_iff,Tryz.f117,suitB]
      try exact dt
    ·cases h
     ·refine dM8o ?_
      repeat (intro K hK)
      refine ⟨by simp,?_⟩
      simp [leaves_iff,Tryz.f117,suitB]
      try exact dt
     ·refine dM8o ?_
      repeat (intro K hK)
      refine ⟨by simp,?_⟩
      simp [leaves_iff,Tryz.f117,suitB]
      try exact dt
    ·have z0:¬ (l:Int)=0:=by omega
     have z1:¬ (l:Int)=1:=by omega
     cases h
     ·have zS:=jj q0<|jj q1<|jj z0<|z1
      refine dM8 ?_
      repeat (intro K hK)
      clear zS
      refine ⟨by simp,?_⟩
      simp [leaves_iff,Tryz.f117,suitB,q0,q1]
      try exact dt
     ·have zS:=jj q0<|jj q1<|jj z0<|z1
      refine dM8 ?_
      repeat (intro K hK)
      clear zS
      refine ⟨by simp,?_⟩
      simp [leaves_iff,Tryz.f117,suitB,q0,q1]
      try exact dt
   ·have zS:=jj e0<|jj e4<|e1
    refine dM8 ?_
    repeat (intro K hK)
    clear zS
    refine ⟨by simp,?_⟩
    simp [leaves_iff,Tryz.f117,suitB,e0,e4,e1]
    try exact dt
theorem s132 (X:AX) (hX:XOK Tryz.prog X) (hw:X.W wT):PSound Tryz.prog 132 (specF (ι:=En×Nat) (fun x=>[EnV x.1,I x.2]) fun x=>retOf [B (suitB x.1 x.2)]):=by
 refine psound_spec hX mixed Tryz.func132 rfl fun ⟨⟨k,f,d,a,x,h⟩,l⟩ w0 G=>⟨by show 2≤32;decide,rfl,?_⟩
 show AW ⟨Tryz.prog,X,32,w0,.pure G⟩ _ _ _
 have hc:Cx.OK ⟨Tryz.prog,X,32,w0,.pure G⟩:=⟨hX,mixed⟩
 unfold EnV
 simp only
 rcases Decidable.em (k=0) with e0|e0
 ·subst e0
  refine dM8o ?_
  repeat (intro K hK)
  refine ⟨by simp,?_⟩
  simp [leaves_iff,Tryz.f132,suitB]
  try exact dt
 ·rcases Decidable.em (k=4) with e4|e4
  ·subst e4
   refine dM8o ?_
   repeat (intro K hK)
   refine ⟨by simp,?_⟩
   simp [leaves_iff,Tryz.f132,suitB]
   try exact dt
  ·rcases Decidable.em (k=1) with e1|e1
   ·subst e1
    rcases (by omega:l=0∨l=1∨(l≠0∧l≠1)) with rfl|rfl|⟨q0,q1⟩
    ·cases h
     ·refine dM8o ?_
      repeat (intro K hK)
      refine ⟨by simp,?_⟩
      simp [leaves_iff,Tryz.f132,suitB]
      try exact dt
     ·refine dM8o ?_
      repeat (intro K hK)
      refine ⟨by simp,?_⟩
      simp [leaves_iff,Tryz.f132,suitB]
      try exact dt
    ·cases h
     ·refine dM8o ?_
      repeat (intro K hK)
      refine ⟨by simp,?_⟩
      simp [leaves_iff,Tryz.f132,suitB]
      try exact dt
     ·refine dM8o ?_
      repeat (intro K hK)
      refine ⟨by simp,?_⟩
      simp [leaves_iff,Tryz.f132,suitB]
      try exact dt
    ·have z0:¬ (l:Int)=0:=by omega
     have z1:¬ (l:Int)=1:=by omega
     cases h
     ·have zS:=jj q0<|jj q1<|jj z0<|z1
      refine dM8 ?_
      repeat (intro K hK)
      clear zS
      refine ⟨by simp,?_⟩
      simp [leaves_iff,Tryz.f132,suitB,q0,q1]
      try exact dt
     ·have zS:=jj q0<|jj q1<|jj z0<|z1
      refine dM8 ?_
      repeat (intro K hK)
      clear zS
      refine ⟨by simp,?_⟩
      simp [leaves_iff,Tryz.f132,suitB,q0,q1]
      try exact dt
   ·have zS:=jj e0<|jj e4<|e1
    refine dM8 ?_
    repeat (intro K hK)
    clear zS
    refine ⟨by simp,?_⟩
    simp [leaves_iff,Tryz.f132,suitB,e0,e4,e1]
    try exact dt
theorem s113 (X:AX) (hX:XOK Tryz.prog X) (hw:X.W wT) (hd:∀ n:Nat,n<2^64→∀ M k,X.call 56 [U n] M k=some (.tup [EnV (decR n).1,I (decR n).2],[])) :
  PSound Tryz.prog 113 (specF (ι:={n:Nat // n<2^64}) (fun x=>[U x.1]) fun x=>retOf [EnV (decR x.1).1]):=by
 refine psound_spec hX mixed Tryz.func113 rfl fun ⟨n,hn⟩ w0 G=>⟨by show 1≤11;decide,rfl,?_⟩
 show AW ⟨Tryz.prog,X,11,w0,.pure G⟩ _ _ _
 have hc:Cx.OK ⟨Tryz.prog,X,11,w0,.pure G⟩:=⟨hX,mixed⟩
 have hn:n<2^64:=hn
 have hd':=hd n hn
 obtain ⟨⟨⟨k,f,d,a,x,h⟩,e⟩,hR⟩:∃ r,r=decR n:=⟨_,rfl⟩
 rw [← hR] at hd' ⊢
 simp only [EnV,U] at hd' ⊢
 have zS:=hd'
 refine dM8 ?_
 repeat (intro K hK)
 clear zS
 refine ⟨by simp,?_⟩
 simp [leaves_iff,Tryz.f113]
 try exact dt
theorem s103 (X:AX) (hX:XOK Tryz.prog X) (hw:X.W wT) (hd:∀ n:Nat,n<2^64→∀ M k,X.call 131 [U n] M k=some (.tup [EnV (decR n).1,I (decR n).2],[])) :
  PSound Tryz.prog 103 (specF (ι:={n:Nat // n<2^64}) (fun x=>[U x.1]) fun x=>retOf [EnV (decR x.1).1]):=by
 refine psound_spec hX mixed Tryz.func103 rfl fun ⟨n,hn⟩ w0 G=>⟨by show 1≤11;decide,rfl,?_⟩
 show AW ⟨Tryz.prog,X,11,w0,.pure G⟩ _ _ _
 have hc:Cx.OK ⟨Tryz.prog,X,11,w0,.pure G⟩:=⟨hX,mixed⟩
 have hn:n<2^64:=hn
 have hd':=hd n hn
 obtain ⟨⟨⟨k,f,d,a,x,h⟩,e⟩,hR⟩:∃ r,r=decR n:=⟨_,rfl⟩
 rw [← hR] at hd' ⊢
 simp only [EnV,U] at hd' ⊢
 have zS:=hd'
 refine dM8 ?_
 repeat (intro K hK)
 clear zS
 refine ⟨by simp,?_⟩
 simp [leaves_iff,Tryz.f103]
 try exact dt
end Go.AM
namespace Go.AM
open Go Go.Proofs
def gn (l:List Nd) (n:Nat):Nd:=l.getD n (0,[])
def gp (l:List Dp) (n:Nat):Dp:=l.getD n (0,0)
theorem gn_eq {l:List Nd} {n:Nat} (h:n<l.length):gn l n=l[n]:=by
 unfold gn;rw [List.getD_eq_getElem?_getD,List.getElem?_eq_getElem h];rfl
theorem gp_eq {l:List Dp} {n:Nat} (h:n<l.length):gp l n=l[n]:=by
 unfold gp;rw [List.getD_eq_getElem?_getD,List.getElem?_eq_getElem h];rfl
theorem gn_mem {l:List Nd} {n:Nat} (h:n<l.length):gn l n∈l:=by rw [gn_eq h];exact List.getElem_mem h
theorem gp_mem {l:List Dp} {n:Nat} (h:n<l.length):gp l n∈l:=by rw [gp_eq h];exact List.getElem_mem h
theorem nrows_gi {l:List Nd} {n:Nat} (h:n<l.length):(nrows l)[n]?=some (I (gn l n).1::wcs (gn l n).2):=by
 rw [gn_eq h];simp [nrows,nrow,h]
theorem nrows_gE {l:List Nd} {n:Nat} (h:n<l.length):∀ h',(nrows l)[n]'(h')=I (gn l n).1::wcs (gn l n).2:=fun h'=>by
 have hg:=nrows_gi h
 rw [List.getElem?_eq_getElem h'] at hg
 exact Option.some.inj hg
theorem prows_gi {l:List Dp} {n:Nat} (h:n<l.length):(prows l)[n]?=some [I (gp l n).1,I (gp l n).2]:=by
 rw [gp_eq h];simp [prows,h]
theorem prows_gE {l:List Dp} {n:Nat} (h:n<l.length):∀ h',(prows l)[n]'(h')=[I (gp l n).1,I (gp l n).2]:=fun h'=>by
 have hg:=prows_gi h
 rw [List.getElem?_eq_getElem h'] at hg
 exact Option.some.inj hg
def fstG {α:Type} (p:α→Bool) (l:List α):Int:=if l.findIdx p<l.length then (l.findIdx p:Int) else -1
theorem fstG_at {α:Type} {p:α→Bool} {l:List α} {i:Nat} (hi:i<l.length) (hp:p l[i]=true) (hn:∀ j (hj:j<i),p (l[j]'(by omega))=false):fstG p l=i:=by
 have:l.findIdx p=i:=by
  rw [List.findIdx_eq hi]
  exact ⟨hp,fun j hj=>hn j hj⟩
 unfold fstG
 rw [this,if_pos hi]
theorem fstG_not {α:Type} {p:α→Bool} {l:List α} (hn:∀ j (hj:j<l.length),p l[j]=false):fstG p l=-1:=by
 have:l.findIdx p=l.length:=by
  rw [List.findIdx_eq_length]
  intro x hx
  obtain ⟨j,hj,rfl⟩:=List.getElem_of_mem hx
  exact hn j hj
 unfold fstG
 rw [this,if_neg (by omega)]
theorem s122 (X:AX) (hX:XOK Tryz.prog X):PSound Tryz.prog 122 (specF (ι:={x:Tb×Int // tbOK x.1}) (fun x=>[TbV x.1.1,I x.1.2]) fun x=>retOf [I (fstG (fun n=>decide (n.1=x.1.2)) x.1.1.2.1)]):=by
 refine psound_spec hX mixed Tryz.func122 rfl fun ⟨⟨⟨r,ns,ds⟩,f⟩,ht⟩ w0 G=>⟨by show 2≤22;decide,rfl,?_⟩
 show AW ⟨Tryz.prog,X,22,w0,.pure G⟩ _ _ _
 have hc:Cx.OK ⟨Tryz.prog,X,22,w0,.pure G⟩:=⟨hX,mixed⟩
 have hl:ns.length≤1000000:=ht.2.1
 simp only [TbV]
 repeat' (first|(apply aw_seq_k;intro K hK)|(refine eM64o ?_)|(refine aw_cond (b:=_) (by exact rfl) (fun h=>?_) (fun h=>?_)<;>(try simp at h))|(refine eB ?_)|(refine hK _ ?_;clear hK)|(clear hK;refine hK _ ?_;clear hK)|(clear hK;clear hK;refine hK _ ?_;clear hK)|(clear hK;clear hK;clear hK;refine hK _ ?_;clear hK))
 refine aw_loopK (s0:=?lps1) (m0:=?lpm1) (ι:={i:Nat // i≤ns.length∧∀ j,j<i→¬ (gn ns j).1=f}) [1,2,8] (fun i=>[(9,I i.1)]) (fun _=>[]) (fun i=>ns.length - i.1) ⟨0,by omega,by omega⟩ ?lhs1 ?lhm1 ?_ ?_
 case lhs1=>first|(simp [keepS];done)|(simp [keepS];rfl)
 case lhm1=>first|rfl|(simp;done)|(simp;rfl)
 ·exact dle
 ·rintro ⟨i,hi,hinv⟩
  simp only
  rcases Decidable.em (i<ns.length) with hil|hil
  ·have hilI:(i:Int)<(ns.length:Int):=by omega
   have hg:=nrows_gi hil
   have hgE:=nrows_gE hil
   have hat:=fstG_at (p:=fun n:Nd=>decide (n.1=f)) hil
   rw [← gn_eq hil] at hat
   obtain ⟨⟨g,ws⟩,hm⟩:∃ m,m=gn ns i:=⟨_,rfl⟩
   rw [← hm] at hg hgE hat
   simp only at hg hgE hat
   rcases Decidable.em (g=f) with h1|h1
   ·subst h1
    have e:=hat (by simp) fun j hj=>by
     have:=hinv j hj
     rw [gn_eq (by omega)] at this
     simpa using this
    have zS:=jj hilI<|jj hg<|hgE
    repeat' (first|(apply aw_seq_k;intro K hK)|(refine eM64 ?_)|(refine aw_cond (b:=_) (by exact rfl) (fun h=>?_) (fun h=>?_)<;>(try simp at h))|(refine eB ?_)|(refine hK _ ?_;clear hK)|(clear hK;refine hK _ ?_;clear hK)|(clear hK;clear hK;refine hK _ ?_;clear hK)|(clear hK;clear hK;clear hK;refine hK _ ?_;clear hK))
    all_goals clear zS
    refine ⟨by simp,?_⟩
    simp [leaves_iff,Tryz.f122,e]
    try exact dt
   ·have zS:=jj hilI<|jj hg<|jj hgE<|h1
    repeat' (first|(apply aw_seq_k;intro K hK)|(refine eM64 ?_)|(refine aw_cond (b:=_) (by exact rfl) (fun h=>?_) (fun h=>?_)<;>(try simp at h))|(refine eB ?_)|(refine hK _ ?_;clear hK)|(clear hK;refine hK _ ?_;clear hK)|(clear hK;clear hK;refine hK _ ?_;clear hK)|(clear hK;clear hK;clear hK;refine hK _ ?_;clear hK))
    all_goals clear zS
    refine ⟨i+1,?_,⟨by omega,fun j hj=>?_⟩,by omega⟩
    ·exact dle
    ·rcases Nat.lt_succ_iff_lt_or_eq.1 hj with h2|rfl
     ·exact hinv j h2
     ·rw [← hm];exact h1
  ·obtain rfl:i=ns.length:=by omega
   have e:fstG (fun n:Nd=>decide (n.1=f)) ns=-1:=fstG_not fun j hj=>by
    have:=hinv j hj
    rw [gn_eq hj] at this
    simpa using this
   repeat' (first|(apply aw_seq_k;intro K hK)|(refine eM64o ?_)|(refine aw_cond (b:=_) (by exact rfl) (fun h=>?_) (fun h=>?_)<;>(try simp at h))|(refine eB ?_)|(refine hK _ ?_;clear hK)|(clear hK;refine hK _ ?_;clear hK)|(clear hK;clear hK;refine hK _ ?_;clear hK)|(clear hK;clear hK;clear hK;refine hK _ ?_;clear hK))
   refine ⟨by simp,?_⟩
   simp [leaves_iff,Tryz.f122,e]
   try exact dt
theorem s124 (X:AX) (hX:XOK Tryz.prog X):PSound Tryz.prog 124 (specF (ι:={x:Tb×Int // tbOK x.1}) (fun x=>[TbV x.1.1,I x.1.2]) fun x=>retOf [I (fstG (fun n=>decide (n.1=x.1.2)) x.1.1.2.2)]):=by
 refine psound_spec hX mixed Tryz.func124 rfl fun ⟨⟨⟨r,ns,ds⟩,f⟩,ht⟩ w0 G=>⟨by show 2≤22;decide,rfl,?_⟩
 show AW ⟨Tryz.prog,X,22,w0,.pure G⟩ _ _ _
 have hc:Cx.OK ⟨Tryz.prog,X,22,w0,.pure G⟩:=⟨hX,mixed⟩
 have hl:ds.length≤1000000:=ht.2.2
 simp only [TbV]
 repeat' (first|(apply aw_seq_k;intro K hK)|(refine eM64o ?_)|(refine aw_cond (b:=_) (by exact rfl) (fun h=>?_) (fun h=>?_)<;>(try simp at h))|(refine eB ?_)|(refine hK _ ?_;clear hK)|(clear hK;refine hK _ ?_;clear hK)|(clear hK;clear hK;refine hK _ ?_;clear hK)|(clear hK;clear hK;clear hK;refine hK _ ?_;clear hK))
 refine aw_loopK (s0:=?lps2) (m0:=?lpm2) (ι:={i:Nat // i≤ds.length∧∀ j,j<i→¬ (gp ds j).1=f}) [1,2,8] (fun i=>[(9,I i.1)]) (fun _=>[]) (fun i=>ds.length - i.1) ⟨0,by omega,by omega⟩ ?lhs2 ?lhm2 ?_ ?_
 case lhs2=>first|(simp [keepS];done)|(simp [keepS];rfl)
 case lhm2=>first|rfl|(simp;done)|(simp;rfl)
 ·exact dle
 ·rintro ⟨i,hi,hinv⟩
  simp only
  rcases Decidable.em (i<ds.length) with hil|hil
  ·have hilI:(i:Int)<(ds.length:Int):=by omega
   have hg:=prows_gi hil
   have hgE:=prows_gE hil
   have hat:=fstG_at (p:=fun n:Dp=>decide (n.1=f)) hil
   rw [← gp_eq hil] at hat
   obtain ⟨⟨g,ws⟩,hm⟩:∃ m,m=gp ds i:=⟨_,rfl⟩
   rw [← hm] at hg hgE hat
   simp only at hg hgE hat
   rcases Decidable.em (g=f) with h1|h1
   ·subst h1
    have e:=hat (by simp) fun j hj=>by
     have:=hinv j hj
     rw [gp_eq (by omega)] at this
     simpa using this
    have zS:=jj hilI<|jj hg<|hgE
    repeat' (first|(apply aw_seq_k;intro K hK)|(refine eM64 ?_)|(refine aw_cond (b:=_) (by exact rfl) (fun h=>?_) (fun h=>?_)<;>(try simp at h))|(refine eB ?_)|(refine hK _ ?_;clear hK)|(clear hK;refine hK _ ?_;clear hK)|(clear hK;clear hK;refine hK _ ?_;clear hK)|(clear hK;clear hK;clear hK;refine hK _ ?_;clear hK))
    all_goals clear zS
    refine ⟨by simp,?_⟩
    simp [leaves_iff,Tryz.f124,e]
    try exact dt
   ·have zS:=jj hilI<|jj hg<|jj hgE<|h1
    repeat' (first|(apply aw_seq_k;intro K hK)|(refine eM64 ?_)|(refine aw_cond (b:=_) (by exact rfl) (fun h=>?_) (fun h=>?_)<;>(try simp at h))|(refine eB ?_)|(refine hK _ ?_;clear hK)|(clear hK;refine hK _ ?_;clear hK)|(clear hK;clear hK;refine hK _ ?_;clear hK)|(clear hK;clear hK;clear hK;refine hK _ ?_;clear hK))
    all_goals clear zS
    refine ⟨i+1,?_,⟨by omega,fun j hj=>?_⟩,by omega⟩
    ·exact dle
    ·rcases Nat.lt_succ_iff_lt_or_eq.1 hj with h2|rfl
     ·exact hinv j h2
     ·rw [← hm];exact h1
  ·obtain rfl:i=ds.length:=by omega
   have e:fstG (fun n:Dp=>decide (n.1=f)) ds=-1:=fstG_not fun j hj=>by
    have:=hinv j hj
    rw [gp_eq hj] at this
    simpa using this
   repeat' (first|(apply aw_seq_k;intro K hK)|(refine eM64o ?_)|(refine aw_cond (b:=_) (by exact rfl) (fun h=>?_) (fun h=>?_)<;>(try simp at h))|(refine eB ?_)|(refine hK _ ?_;clear hK)|(clear hK;refine hK _ ?_;clear hK)|(clear hK;clear hK;refine hK _ ?_;clear hK)|(clear hK;clear hK;clear hK;refine hK _ ?_;clear hK))
   refine ⟨by simp,?_⟩
   simp [leaves_iff,Tryz.f124,e]
   try exact dt
end Go.AM
namespace Go.AM
open Go Go.Proofs
def frmN (x:Int):Prop:=0≤x∧x≤4294967295
instance (x:Int):Decidable (frmN x):=by unfold frmN;infer_instance
def rngN (ns:List Nd):Prop:=∀ j,j<ns.length→frmN (gn ns j).1
def rngD (ds:List Dp):Prop:=∀ j,j<ds.length→frmN (gp ds j).2∧0≤(gp ds j).1∧(gp ds j).1<64
open Classical in
noncomputable def rngB (t:Tb):Bool:=decide (rngN t.2.1∧rngD t.2.2)
theorem rngB_iff {t:Tb}:rngB t=true↔rngN t.2.1∧rngD t.2.2:=by unfold rngB;simp
theorem rngB_no {t:Tb} (h:¬ (rngN t.2.1∧rngD t.2.2)):rngB t=false:=by
 rw [Bool.eq_false_iff];exact fun hh=>h (rngB_iff.1 hh)
set_option maxHeartbeats 1000000 in
theorem s119 (X:AX) (hX:XOK Tryz.prog X):PSound Tryz.prog 119 (specF (ι:={x:Tb // tbOK x}) (fun x=>[TbV x.1]) fun x=>retOf [B (rngB x.1)]):=by
 refine psound_spec hX mixed Tryz.func119 rfl fun ⟨⟨r,ns,ds⟩,ht⟩ w0 G=>⟨by show 1≤49;decide,rfl,?_⟩
 show AW ⟨Tryz.prog,X,49,w0,.pure G⟩ _ _ _
 have hc:Cx.OK ⟨Tryz.prog,X,49,w0,.pure G⟩:=⟨hX,mixed⟩
 have hl1:ns.length≤1000000:=ht.2.1
 have hl2:ds.length≤1000000:=ht.2.2
 simp only [TbV]
 repeat' (first|(apply aw_seq_k;intro K hK)|(refine eM64o ?_)|(refine aw_cond (b:=_) (by exact rfl) (fun h=>?_) (fun h=>?_)<;>(try simp at h))|(refine eB ?_)|(refine hK _ ?_;clear hK)|(clear hK;refine hK _ ?_;clear hK)|(clear hK;clear hK;refine hK _ ?_;clear hK)|(clear hK;clear hK;clear hK;refine hK _ ?_;clear hK))
 refine aw_loopK (s0:=?lps1) (m0:=?lpm1) (ι:={i:Nat // i≤ns.length∧∀ j,j<i→frmN (gn ns j).1}) [1,8,9] (fun i=>[(10,I i.1)]) (fun _=>[]) (fun i=>ns.length - i.1) ⟨0,by omega,by omega⟩ ?lhs1 ?lhm1 ?_ ?_
 case lhs1=>first|(simp [keepS];done)|(simp [keepS];rfl)
 case lhm1=>first|rfl|(simp;done)|(simp;rfl)
 ·exact dle
 ·rintro ⟨i,hi,hinv⟩
  simp only
  rcases Decidable.em (i<ns.length) with hil|hil
  ·have hilI:(i:Int)<(ns.length:Int):=by omega
   have hg:=nrows_gi hil
   have hgE:=nrows_gE hil
   have hno:¬ frmN (gn ns i).1→rngB (r,ns,ds)=false:=fun h=>rngB_no fun h2=>h (h2.1 i hil)
   have hlen:=(ht.1 _ (gn_mem hil)).1
   obtain ⟨⟨g,ws⟩,hm⟩:∃ m,m=gn ns i:=⟨_,rfl⟩
   rw [← hm] at hg hgE hno hlen
   simp only [frmN] at hg hgE hno hlen
   rcases Decidable.em (g<0) with h1|h1
   ·have zS:=jj hilI<|jj hg<|jj hgE<|jj h1<|hlen
    repeat' (first|(apply aw_seq_k;intro K hK)|(refine eM64 ?_)|(refine aw_cond (b:=_) (by exact rfl) (fun h=>?_) (fun h=>?_)<;>(try simp at h))|(refine eB ?_)|(refine hK _ ?_;clear hK)|(clear hK;refine hK _ ?_;clear hK)|(clear hK;clear hK;refine hK _ ?_;clear hK)|(clear hK;clear hK;clear hK;refine hK _ ?_;clear hK))
    all_goals clear zS
    refine ⟨by simp,?_⟩
    simp [leaves_iff,Tryz.f119,hno (by omega)]
    try exact dt
   ·rcases Decidable.em (4294967295<g) with h2|h2
    ·have zS:=jj hilI<|jj hg<|jj hgE<|jj h1<|jj h2<|hlen
     repeat' (first|(apply aw_seq_k;intro K hK)|(refine eM64 ?_)|(refine aw_cond (b:=_) (by exact rfl) (fun h=>?_) (fun h=>?_)<;>(try simp at h))|(refine eB ?_)|(refine hK _ ?_;clear hK)|(clear hK;refine hK _ ?_;clear hK)|(clear hK;clear hK;refine hK _ ?_;clear hK)|(clear hK;clear hK;clear hK;refine hK _ ?_;clear hK))
     all_goals clear zS
     refine ⟨by simp,?_⟩
     simp [leaves_iff,Tryz.f119,hno (by omega)]
     try exact dt
    ·have zS:=jj hilI<|jj hg<|jj hgE<|jj h1<|jj h2<|hlen
     repeat' (first|(apply aw_seq_k;intro K hK)|(refine eM64 ?_)|(refine aw_cond (b:=_) (by exact rfl) (fun h=>?_) (fun h=>?_)<;>(try simp at h))|(refine eB ?_)|(refine hK _ ?_;clear hK)|(clear hK;refine hK _ ?_;clear hK)|(clear hK;clear hK;refine hK _ ?_;clear hK)|(clear hK;clear hK;clear hK;refine hK _ ?_;clear hK))
     all_goals clear zS
     refine ⟨i+1,?_,⟨by omega,fun j hj=>?_⟩,by omega⟩
     ·exact dle
     ·rcases Nat.lt_succ_iff_lt_or_eq.1 hj with h3|rfl
      ·exact hinv j h3
      ·rw [← hm];unfold frmN;simp only;omega
  ·obtain rfl:i=ns.length:=by omega
   repeat' (first|(apply aw_seq_k;intro K hK)|(refine eM64o ?_)|(refine aw_cond (b:=_) (by exact rfl) (fun h=>?_) (fun h=>?_)<;>(try simp at h))|(refine eB ?_)|(refine hK _ ?_;clear hK)|(clear hK;refine hK _ ?_;clear hK)|(clear hK;clear hK;refine hK _ ?_;clear hK)|(clear hK;clear hK;clear hK;refine hK _ ?_;clear hK))
   refine aw_loopK (s0:=?lps2) (m0:=?lpm2) (ι:={i:Nat // i≤ds.length∧∀ j,j<i→frmN (gp ds j).2∧0≤(gp ds j).1∧(gp ds j).1<64}) [24,25] (fun i=>[(26,I i.1)]) (fun _=>[]) (fun i=>ds.length - i.1) ⟨0,by omega,by omega⟩ ?lhs2 ?lhm2 ?_ ?_
   case lhs2=>first|(simp [keepS];done)|(simp [keepS];rfl)
   case lhm2=>first|rfl|(simp;done)|(simp;rfl)
   ·exact dle
   ·rintro ⟨i,hi2,hinv2⟩
    simp only
    rcases Decidable.em (i<ds.length) with hil2|hil2
    ·have hilI2:(i:Int)<(ds.length:Int):=by omega
     have hg:=prows_gi hil2
     have hgE:=prows_gE hil2
     have hno:¬ (frmN (gp ds i).2∧0≤(gp ds i).1∧(gp ds i).1<64)→rngB (r,ns,ds)=false:=fun h=>rngB_no fun h2=>h (h2.2 i hil2)
     obtain ⟨⟨a,b⟩,hm⟩:∃ m,m=gp ds i:=⟨_,rfl⟩
     rw [← hm] at hg hgE hno
     simp only [frmN] at hg hgE hno
     rcases Decidable.em (b<0) with h1|h1
     ·have zS:=jj hilI2<|jj hg<|jj hgE<|h1
      repeat' (first|(apply aw_seq_k;intro K hK)|(refine eM64 ?_)|(refine aw_cond (b:=_) (by exact rfl) (fun h=>?_) (fun h=>?_)<;>(try simp at h))|(refine eB ?_)|(refine hK _ ?_;clear hK)|(clear hK;refine hK _ ?_;clear hK)|(clear hK;clear hK;refine hK _ ?_;clear hK)|(clear hK;clear hK;clear hK;refine hK _ ?_;clear hK))
      all_goals clear zS
      refine ⟨by simp,?_⟩
      simp [leaves_iff,Tryz.f119,hno (by omega)]
      try exact dt
     ·rcases Decidable.em (4294967295<b) with h2|h2
      ·have zS:=jj hilI2<|jj hg<|jj hgE<|jj h1<|h2
       repeat' (first|(apply aw_seq_k;intro K hK)|(refine eM64 ?_)|(refine aw_cond (b:=_) (by exact rfl) (fun h=>?_) (fun h=>?_)<;>(try simp at h))|(refine eB ?_)|(refine hK _ ?_;clear hK)|(clear hK;refine hK _ ?_;clear hK)|(clear hK;clear hK;refine hK _ ?_;clear hK)|(clear hK;clear hK;clear hK;refine hK _ ?_;clear hK))
       all_goals clear zS
       refine ⟨by simp,?_⟩
       simp [leaves_iff,Tryz.f119,hno (by omega)]
       try exact dt
      ·rcases Decidable.em (a<0) with h3|h3
       ·have zS:=jj hilI2<|jj hg<|jj hgE<|jj h1<|jj h2<|h3
        repeat' (first|(apply aw_seq_k;intro K hK)|(refine eM64 ?_)|(refine aw_cond (b:=_) (by exact rfl) (fun h=>?_) (fun h=>?_)<;>(try simp at h))|(refine eB ?_)|(refine hK _ ?_;clear hK)|(clear hK;refine hK _ ?_;clear hK)|(clear hK;clear hK;refine hK _ ?_;clear hK)|(clear hK;clear hK;clear hK;refine hK _ ?_;clear hK))
        all_goals clear zS
        refine ⟨by simp,?_⟩
        simp [leaves_iff,Tryz.f119,hno (by omega)]
        try exact dt
       ·rcases Decidable.em (64≤a) with h4|h4
        ·have zS:=jj hilI2<|jj hg<|jj hgE<|jj h1<|jj h2<|jj h3<|h4
         repeat' (first|(apply aw_seq_k;intro K hK)|(refine eM64 ?_)|(refine aw_cond (b:=_) (by exact rfl) (fun h=>?_) (fun h=>?_)<;>(try simp at h))|(refine eB ?_)|(refine hK _ ?_;clear hK)|(clear hK;refine hK _ ?_;clear hK)|(clear hK;clear hK;refine hK _ ?_;clear hK)|(clear hK;clear hK;clear hK;refine hK _ ?_;clear hK))
         all_goals clear zS
         refine ⟨by simp,?_⟩
         simp [leaves_iff,Tryz.f119,hno (by omega)]
         try exact dt
        ·have zS:=jj hilI2<|jj hg<|jj hgE<|jj h1<|jj h2<|jj h3<|h4
         repeat' (first|(apply aw_seq_k;intro K hK)|(refine eM64 ?_)|(refine aw_cond (b:=_) (by exact rfl) (fun h=>?_) (fun h=>?_)<;>(try simp at h))|(refine eB ?_)|(refine hK _ ?_;clear hK)|(clear hK;refine hK _ ?_;clear hK)|(clear hK;clear hK;refine hK _ ?_;clear hK)|(clear hK;clear hK;clear hK;refine hK _ ?_;clear hK))
         all_goals clear zS
         refine ⟨i+1,?_,⟨by omega,fun j hj=>?_⟩,by omega⟩
         ·exact dle
         ·rcases Nat.lt_succ_iff_lt_or_eq.1 hj with h5|rfl
          ·exact hinv2 j h5
          ·rw [← hm];unfold frmN;simp only;omega
    ·obtain rfl:i=ds.length:=by omega
     have e:rngB (r,ns,ds)=true:=rngB_iff.2 ⟨fun j hj=>hinv j hj,fun j hj=>hinv2 j hj⟩
     repeat' (first|(apply aw_seq_k;intro K hK)|(refine eM64o ?_)|(refine aw_cond (b:=_) (by exact rfl) (fun h=>?_) (fun h=>?_)<;>(try simp at h))|(refine eB ?_)|(refine hK _ ?_;clear hK)|(clear hK;refine hK _ ?_;clear hK)|(clear hK;clear hK;refine hK _ ?_;clear hK)|(clear hK;clear hK;clear hK;refine hK _ ?_;clear hK))
     refine ⟨by simp,?_⟩
     simp [leaves_iff,Tryz.f119,e]
     try exact dt
end Go.AM
namespace Go.AM
open Go Go.Proofs
open Classical in
noncomputable def ascB (t:Tb):Bool:=decide ((∀ j,j+1<t.2.1.length→(gn t.2.1 j).1<(gn t.2.1 (j+1)).1)∧∀ j,j+1<t.2.2.length→(gp t.2.2 j).1<(gp t.2.2 (j+1)).1)
theorem ascB_iff {t:Tb}:ascB t=true↔(∀ j,j+1<t.2.1.length→(gn t.2.1 j).1<(gn t.2.1 (j+1)).1)∧∀ j,j+1<t.2.2.length→(gp t.2.2 j).1<(gp t.2.2 (j+1)).1:=by unfold ascB;simp
theorem ascB_no {t:Tb} (h:¬ ((∀ j,j+1<t.2.1.length→(gn t.2.1 j).1<(gn t.2.1 (j+1)).1)∧∀ j,j+1<t.2.2.length→(gp t.2.2 j).1<(gp t.2.2 (j+1)).1)):ascB t=false:=by
 rw [Bool.eq_false_iff];exact fun hh=>h (ascB_iff.1 hh)
set_option maxHeartbeats 2000000 in
theorem s120 (X:AX) (hX:XOK Tryz.prog X) (hw:X.W wT):PSound Tryz.prog 120 (specF (ι:={x:Tb // tbOK x}) (fun x=>[TbV x.1]) fun x=>retOf [B (ascB x.1)]):=by
 refine psound_spec hX mixed Tryz.func120 rfl fun ⟨⟨r,ns,ds⟩,ht⟩ w0 G=>⟨by show 1≤47;decide,rfl,?_⟩
 show AW ⟨Tryz.prog,X,47,w0,.pure G⟩ _ _ _
 have hc:Cx.OK ⟨Tryz.prog,X,47,w0,.pure G⟩:=⟨hX,mixed⟩
 have hl1:ns.length≤1000000:=ht.2.1
 have hl2:ds.length≤1000000:=ht.2.2
 simp only [TbV]
 repeat' (first|(apply aw_seq_k;intro K hK)|(refine eM64o ?_)|(refine aw_cond (b:=_) (by exact rfl) (fun h=>?_) (fun h=>?_)<;>(try simp at h))|(refine eB ?_)|(refine hK _ ?_;clear hK)|(clear hK;refine hK _ ?_;clear hK)|(clear hK;clear hK;refine hK _ ?_;clear hK)|(clear hK;clear hK;clear hK;refine hK _ ?_;clear hK))
 refine aw_loopK (s0:=?lps1) (m0:=?lpm1) (ι:={k:Nat // k≤ns.length∧∀ j,j<k→(gn ns j).1<(gn ns (j+1)).1}) [1] (fun k=>[(3,I ((k.1:Int)+1))]) (fun _=>[]) (fun k=>ns.length - k.1) ⟨0,by omega,by omega⟩ ?lhs1 ?lhm1 ?_ ?_
 case lhs1=>first|(simp [keepS];done)|(simp [keepS];rfl)
 case lhm1=>first|rfl|(simp;done)|(simp;rfl)
 ·exact dle
 ·rintro ⟨k,hk,hinv⟩
  simp only
  rcases Decidable.em (k+1<ns.length) with hil|hil
  ·have hilI:(k:Int)+1<(ns.length:Int):=by omega
   have hk1:k<ns.length:=by omega
   have hk1I:(k:Int)<(ns.length:Int):=by omega
   have hg:=nrows_gi hil
   have hgE:=nrows_gE hil
   have hg2:=nrows_gi hk1
   have hgE2:=nrows_gE hk1
   have hno:¬ (gn ns k).1<(gn ns (k+1)).1→ascB (r,ns,ds)=false:=fun h=>ascB_no fun h2=>h (h2.1 k hil)
   obtain ⟨⟨a,b⟩,hm⟩:∃ m,m=gn ns (k+1):=⟨_,rfl⟩
   obtain ⟨⟨c,d⟩,hm2⟩:∃ m,m=gn ns k:=⟨_,rfl⟩
   rw [← hm] at hg hgE hno
   rw [← hm2] at hg2 hgE2 hno
   simp only at hg hgE hg2 hgE2 hno
   rcases Decidable.em (a≤c) with h1|h1
   ·have zS:=jj hil<|jj hilI<|jj hk1<|jj hk1I<|jj hg<|jj hgE<|jj hg2<|jj hgE2<|h1
    repeat' (first|(apply aw_seq_k;intro K hK)|(refine eM64 ?_)|(refine aw_cond (b:=_) (by exact rfl) (fun h=>?_) (fun h=>?_)<;>(try simp at h))|(refine eB ?_)|(refine hK _ ?_;clear hK)|(clear hK;refine hK _ ?_;clear hK)|(clear hK;clear hK;refine hK _ ?_;clear hK)|(clear hK;clear hK;clear hK;refine hK _ ?_;clear hK))
    all_goals clear zS
    refine ⟨by simp,?_⟩
    simp [leaves_iff,Tryz.f120,hno (by omega)]
    try exact dt
   ·have zS:=jj hil<|jj hilI<|jj hk1<|jj hk1I<|jj hg<|jj hgE<|jj hg2<|jj hgE2<|h1
    repeat' (first|(apply aw_seq_k;intro K hK)|(refine eM64 ?_)|(refine aw_cond (b:=_) (by exact rfl) (fun h=>?_) (fun h=>?_)<;>(try simp at h))|(refine eB ?_)|(refine hK _ ?_;clear hK)|(clear hK;refine hK _ ?_;clear hK)|(clear hK;clear hK;refine hK _ ?_;clear hK)|(clear hK;clear hK;clear hK;refine hK _ ?_;clear hK))
    all_goals clear zS
    refine ⟨k+1,?_,⟨by omega,fun j hj=>?_⟩,by omega⟩
    ·exact dle
    ·rcases Nat.lt_succ_iff_lt_or_eq.1 hj with h3|rfl
     ·exact hinv j h3
     ·rw [← hm,← hm2];simp only;omega
  ·have hilI:¬ (k:Int)+1<(ns.length:Int):=by omega
   clear hilI
   have hend:∀ j,j+1<ns.length→j<k:=fun j hj=>by omega
   have hordN:∀ j,j+1<ns.length→(gn ns j).1<(gn ns (j+1)).1:=fun j hj=>hinv j (hend j hj)
   have hilI:¬ (k:Int)+1<(ns.length:Int):=by omega
   have zS:=jj hil<|hilI
   repeat' (first|(apply aw_seq_k;intro K hK)|(refine eM64 ?_)|(refine aw_cond (b:=_) (by exact rfl) (fun h=>?_) (fun h=>?_)<;>(try simp at h))|(refine eB ?_)|(refine hK _ ?_;clear hK)|(clear hK;refine hK _ ?_;clear hK)|(clear hK;clear hK;refine hK _ ?_;clear hK)|(clear hK;clear hK;clear hK;refine hK _ ?_;clear hK))
   all_goals clear zS
   refine aw_loopK (s0:=?lps2) (m0:=?lpm2) (ι:={k:Nat // k≤ds.length∧∀ j,j<k→(gp ds j).1<(gp ds (j+1)).1}) [1] (fun k=>[(4,I ((k.1:Int)+1))]) (fun _=>[]) (fun k=>ds.length - k.1) ⟨0,by omega,by omega⟩ ?lhs2 ?lhm2 ?_ ?_
   case lhs2=>first|(simp [keepS];done)|(simp [keepS];rfl)
   case lhm2=>first|rfl|(simp;done)|(simp;rfl)
   ·exact dle
   ·rintro ⟨k2,hk2,hinv2⟩
    simp only
    rcases Decidable.em (k2+1<ds.length) with hilb|hilb
    ·have hilbI:(k2:Int)+1<(ds.length:Int):=by omega
     have hk3:k2<ds.length:=by omega
     have hk3I:(k2:Int)<(ds.length:Int):=by omega
     have hg:=prows_gi hilb
     have hgE:=prows_gE hilb
     have hg2:=prows_gi hk3
     have hgE2:=prows_gE hk3
     have hno:¬ (gp ds k2).1<(gp ds (k2+1)).1→ascB (r,ns,ds)=false:=fun h=>ascB_no fun h2=>h (h2.2 k2 hilb)
     obtain ⟨⟨a,b⟩,hm⟩:∃ m,m=gp ds (k2+1):=⟨_,rfl⟩
     obtain ⟨⟨c,d⟩,hm2⟩:∃ m,m=gp ds k2:=⟨_,rfl⟩
     rw [← hm] at hg hgE hno
     rw [← hm2] at hg2 hgE2 hno
     simp only at hg hgE hg2 hgE2 hno
     rcases Decidable.em (a≤c) with h1|h1
     ·have zS:=jj hilb<|jj hilbI<|jj hk3<|jj hk3I<|jj hg<|jj hgE<|jj hg2<|jj hgE2<|h1
      repeat' (first|(apply aw_seq_k;intro K hK)|(refine eM64 ?_)|(refine aw_cond (b:=_) (by exact rfl) (fun h=>?_) (fun h=>?_)<;>(try simp at h))|(refine eB ?_)|(refine hK _ ?_;clear hK)|(clear hK;refine hK _ ?_;clear hK)|(clear hK;clear hK;refine hK _ ?_;clear hK)|(clear hK;clear hK;clear hK;refine hK _ ?_;clear hK))
      all_goals clear zS
      refine ⟨by simp,?_⟩
      simp [leaves_iff,Tryz.f120,hno (by omega)]
      try exact dt
     ·have zS:=jj hilb<|jj hilbI<|jj hk3<|jj hk3I<|jj hg<|jj hgE<|jj hg2<|jj hgE2<|h1
      repeat' (first|(apply aw_seq_k;intro K hK)|(refine eM64 ?_)|(refine aw_cond (b:=_) (by exact rfl) (fun h=>?_) (fun h=>?_)<;>(try simp at h))|(refine eB ?_)|(refine hK _ ?_;clear hK)|(clear hK;refine hK _ ?_;clear hK)|(clear hK;clear hK;refine hK _ ?_;clear hK)|(clear hK;clear hK;clear hK;refine hK _ ?_;clear hK))
      all_goals clear zS
      refine ⟨k2+1,?_,⟨by omega,fun j hj=>?_⟩,by omega⟩
      ·exact dle
      ·rcases Nat.lt_succ_iff_lt_or_eq.1 hj with h3|rfl
       ·exact hinv2 j h3
       ·rw [← hm,← hm2];simp only;omega
    ·have hilbI:¬ (k2:Int)+1<(ds.length:Int):=by omega
     have e:ascB (r,ns,ds)=true:=ascB_iff.2 ⟨hordN,fun j hj=>hinv2 j (by have:j+1<ds.length:=hj;omega)⟩
     have zS:=jj hilb<|hilbI
     repeat' (first|(apply aw_seq_k;intro K hK)|(refine eM64 ?_)|(refine aw_cond (b:=_) (by exact rfl) (fun h=>?_) (fun h=>?_)<;>(try simp at h))|(refine eB ?_)|(refine hK _ ?_;clear hK)|(clear hK;refine hK _ ?_;clear hK)|(clear hK;clear hK;refine hK _ ?_;clear hK)|(clear hK;clear hK;clear hK;refine hK _ ?_;clear hK))
     all_goals clear zS
     refine ⟨by simp,?_⟩
     simp [leaves_iff,Tryz.f120,e]
     try exact dt
end Go.AM
namespace Go.AM
open Go Go.Proofs
theorem fstG_pos {α:Type} {p:α→Bool} {l:List α}:0≤fstG p l↔∃ j,∃ h:j<l.length,p l[j]=true:=by
 constructor
 ·intro h
  unfold fstG at h
  split at h
  ·rename_i hl
   exact ⟨_,hl,List.findIdx_getElem⟩
  ·omega
 ·rintro ⟨j,hj,hp⟩
  have:l.findIdx p<l.length:=List.findIdx_lt_length_of_exists ⟨_,List.getElem_mem hj,hp⟩
  unfold fstG
  rw [if_pos this];omega
theorem prows_take (l:List Dp) (n:Nat):(prows l).take n=prows (l.take n):=by simp [prows,List.map_take]
def twN (t:Tb) (i:Nat):Prop:=(∃ j,j<t.2.1.length∧(gn t.2.1 j).1=(gp t.2.2 i).2)∨∃ j,j<i∧(gp t.2.2 j).2=(gp t.2.2 i).2
open Classical in
noncomputable def twB (t:Tb):Bool:=decide (∃ i,i<t.2.2.length∧twN t i)
theorem twB_iff {t:Tb}:twB t=true↔∃ i,i<t.2.2.length∧twN t i:=by unfold twB;simp
theorem twB_no {t:Tb} (h:∀ i,i<t.2.2.length→¬ twN t i):twB t=false:=by
 rw [Bool.eq_false_iff]
 intro hh
 obtain ⟨i,hi,h2⟩:=twB_iff.1 hh
 exact h i hi h2
set_option maxHeartbeats 2000000 in
theorem s121 (X:AX) (hX:XOK Tryz.prog X) (hw:X.W wT) (hfi:∀ (t:Tb) f,tbOK t→∀ M n,X.call 122 [TbV t,I f] M n=some (I (fstG (fun n=>decide (n.1=f)) t.2.1),[])) :
  PSound Tryz.prog 121 (specF (ι:={x:Tb // tbOK x}) (fun x=>[TbV x.1]) fun x=>retOf [B (twB x.1)]):=by
 refine psound_spec hX mixed Tryz.func121 rfl fun ⟨⟨r,ns,ds⟩,ht⟩ w0 G=>⟨by show 1≤36;decide,rfl,?_⟩
 show AW ⟨Tryz.prog,X,36,w0,.pure G⟩ _ _ _
 have hc:Cx.OK ⟨Tryz.prog,X,36,w0,.pure G⟩:=⟨hX,mixed⟩
 have hl1:ns.length≤1000000:=ht.2.1
 have hl2:ds.length≤1000000:=ht.2.2
 have hfi':=fun f=>hfi (r,ns,ds) f ht
 simp only [TbV] at hfi' ⊢
 repeat' (first|(apply aw_seq_k;intro K hK)|(refine eM64o ?_)|(refine aw_cond (b:=_) (by exact rfl) (fun h=>?_) (fun h=>?_)<;>(try simp at h))|(refine eB ?_)|(refine hK _ ?_;clear hK)|(clear hK;refine hK _ ?_;clear hK)|(clear hK;clear hK;refine hK _ ?_;clear hK)|(clear hK;clear hK;clear hK;refine hK _ ?_;clear hK))
 refine aw_loopK (s0:=?lps1) (m0:=?lpm1) (ι:={i:Nat // i≤ds.length∧∀ j,j<i→¬ twN (r,ns,ds) j}) [1,8,9] (fun i=>[(10,I i.1)]) (fun _=>[]) (fun i=>ds.length - i.1) ⟨0,by omega,by omega⟩ ?lhs1 ?lhm1 ?_ ?_
 case lhs1=>first|(simp [keepS];done)|(simp [keepS];rfl)
 case lhm1=>first|rfl|(simp;done)|(simp;rfl)
 ·exact dle
 ·rintro ⟨i,hi,hinv⟩
  simp only
  rcases Decidable.em (i<ds.length) with hil|hil
  ·have hilI:(i:Int)<(ds.length:Int):=by omega
   have hg:=prows_gi hil
   have hgE:=prows_gE hil
   have hyes:twN (r,ns,ds) i→twB (r,ns,ds)=true:=fun h=>twB_iff.2 ⟨i,hil,h⟩
   have htw:∀ b,b=(gp ds i).2→(twN (r,ns,ds) i↔(0≤fstG (fun n:Nd=>decide (n.1=b)) ns)∨∃ j,j<i∧(gp ds j).2=b):=fun b hb=>by
    subst hb
    unfold twN
    rw [fstG_pos]
    refine or_congr_left ?_
    constructor
    ·rintro ⟨j,hj,e⟩
     exact ⟨j,hj,by rw [← gn_eq hj];simpa using e⟩
    ·rintro ⟨j,hj,e⟩
     exact ⟨j,hj,by rw [gn_eq hj];simpa using e⟩
   obtain ⟨⟨a,b⟩,hm⟩:∃ m,m=gp ds i:=⟨_,rfl⟩
   rw [← hm] at hg hgE
   have htb:=htw b (by rw [← hm])
   simp only at hg hgE
   have hfb:=hfi' b
   obtain ⟨q,hq⟩:∃ q,q=fstG (fun n:Nd=>decide (n.1=b)) ns:=⟨_,rfl⟩
   rw [← hq] at hfb htb
   rcases Decidable.em (0≤q) with h1|h1
   ·have e:=hyes (htb.2 (.inl h1))
    have zS:=jj hilI<|jj hg<|jj hgE<|jj hfb<|h1
    repeat' (first|(apply aw_seq_k;intro K hK)|(refine eM64 ?_)|(refine aw_cond (b:=_) (by exact rfl) (fun h=>?_) (fun h=>?_)<;>(try simp at h))|(refine eB ?_)|(refine hK _ ?_;clear hK)|(clear hK;refine hK _ ?_;clear hK)|(clear hK;clear hK;refine hK _ ?_;clear hK)|(clear hK;clear hK;clear hK;refine hK _ ?_;clear hK))
    all_goals clear zS
    refine ⟨by simp,?_⟩
    simp [leaves_iff,Tryz.f121,e]
    try exact dt
   ·have hlt:(ds.take i).length=i:=by simp;omega
    have zS:=jj hilI<|jj hg<|jj hgE<|jj hfb<|jj h1<|jj @prows_take<|hi
    repeat' (first|(apply aw_seq_k;intro K hK)|(refine eM64 ?_)|(refine aw_cond (b:=_) (by exact rfl) (fun h=>?_) (fun h=>?_)<;>(try simp at h))|(refine eB ?_)|(refine hK _ ?_;clear hK)|(clear hK;refine hK _ ?_;clear hK)|(clear hK;clear hK;refine hK _ ?_;clear hK)|(clear hK;clear hK;clear hK;refine hK _ ?_;clear hK))
    all_goals clear zS
    obtain ⟨E,hE⟩:∃ E,E=ds.take i:=⟨_,rfl⟩
    rw [← hE] at hlt
    rw [← hE]
    have hEg:∀ j,j<i→gp E j=gp ds j:=fun j hj=>by
     rw [gp_eq (by omega),gp_eq (by omega)]
     subst hE
     exact List.getElem_take
    refine aw_loopK (s0:=?lps2) (m0:=?lpm2) (ι:={j:Nat // j≤i∧∀ k,k<j→¬ (gp ds k).2=b}) [1,4,8,9,10,23,24] (fun j=>[(25,I j.1)]) (fun _=>[]) (fun j=>i - j.1) ⟨0,by omega,by omega⟩ ?lhs2 ?lhm2 ?_ ?_
    case lhs2=>first|(simp [keepS];done)|(simp [keepS];rfl)
    case lhm2=>first|rfl|(simp;done)|(simp;rfl)
    ·exact dle
    ·rintro ⟨j,hj,hinv2⟩
     simp only
     rcases Decidable.em (j<i) with hjl|hjl
     ·have hjI:(j:Int)<(i:Int):=by omega
      have hg2:=prows_gi (l:=E) (n:=j) (by omega)
      have hgE2:=prows_gE (l:=E) (n:=j) (by omega)
      rw [hEg j hjl] at hg2 hgE2
      obtain ⟨⟨c,d⟩,hm2⟩:∃ m,m=gp ds j:=⟨_,rfl⟩
      rw [← hm2] at hg2 hgE2
      simp only at hg2 hgE2
      rcases Decidable.em (d=b) with h2|h2
      ·have e:=hyes (htb.2 (.inr ⟨j,hjl,by rw [← hm2];exact h2⟩))
       subst h2
       have zS:=jj hjl<|jj hjI<|jj hlt<|jj hg2<|hgE2
       repeat' (first|(apply aw_seq_k;intro K hK)|(refine eM64 ?_)|(refine aw_cond (b:=_) (by exact rfl) (fun h=>?_) (fun h=>?_)<;>(try simp at h))|(refine eB ?_)|(refine hK _ ?_;clear hK)|(clear hK;refine hK _ ?_;clear hK)|(clear hK;clear hK;refine hK _ ?_;clear hK)|(clear hK;clear hK;clear hK;refine hK _ ?_;clear hK))
       all_goals clear zS
       refine ⟨by simp,?_⟩
       simp [leaves_iff,Tryz.f121,e]
       try exact dt
      ·have zS:=jj hjl<|jj hjI<|jj hlt<|jj hg2<|jj hgE2<|h2
       repeat' (first|(apply aw_seq_k;intro K hK)|(refine eM64 ?_)|(refine aw_cond (b:=_) (by exact rfl) (fun h=>?_) (fun h=>?_)<;>(try simp at h))|(refine eB ?_)|(refine hK _ ?_;clear hK)|(clear hK;refine hK _ ?_;clear hK)|(clear hK;clear hK;refine hK _ ?_;clear hK)|(clear hK;clear hK;clear hK;refine hK _ ?_;clear hK))
       all_goals clear zS
       refine ⟨j+1,?_,⟨by omega,fun k hk=>?_⟩,by omega⟩
       ·exact dle
       ·rcases Nat.lt_succ_iff_lt_or_eq.1 hk with h3|rfl
        ·exact hinv2 k h3
        ·rw [← hm2];exact h2
     ·obtain rfl:j=i:=by omega
      have hjI:¬ (j:Int)<(j:Int):=by omega
      have zS:=hjI
      repeat' (first|(apply aw_seq_k;intro K hK)|(refine eM64 ?_)|(refine aw_cond (b:=_) (by exact rfl) (fun h=>?_) (fun h=>?_)<;>(try simp at h))|(refine eB ?_)|(refine hK _ ?_;clear hK)|(clear hK;refine hK _ ?_;clear hK)|(clear hK;clear hK;refine hK _ ?_;clear hK)|(clear hK;clear hK;clear hK;refine hK _ ?_;clear hK))
      all_goals clear zS
      refine ⟨j+1,?_,⟨by omega,fun k hk=>?_⟩,by omega⟩
      ·exact dle
      ·rcases Nat.lt_succ_iff_lt_or_eq.1 hk with h3|rfl
       ·exact hinv k h3
       ·rw [htb]
        rintro (h4|⟨k2,h4,h5⟩)
        ·exact h1 h4
        ·exact hinv2 k2 h4 h5
  ·obtain rfl:i=ds.length:=by omega
   have e:twB (r,ns,ds)=false:=twB_no fun j hj=>hinv j hj
   repeat' (first|(apply aw_seq_k;intro K hK)|(refine eM64o ?_)|(refine aw_cond (b:=_) (by exact rfl) (fun h=>?_) (fun h=>?_)<;>(try simp at h))|(refine eB ?_)|(refine hK _ ?_;clear hK)|(clear hK;refine hK _ ?_;clear hK)|(clear hK;clear hK;refine hK _ ?_;clear hK)|(clear hK;clear hK;clear hK;refine hK _ ?_;clear hK))
   refine ⟨by simp,?_⟩
   simp [leaves_iff,Tryz.f121,e]
   try exact dt
end Go.AM
