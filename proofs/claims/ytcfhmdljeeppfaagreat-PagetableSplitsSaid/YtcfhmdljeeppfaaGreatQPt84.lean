/- A part of the proof; no condition. -/
import Derived.Test.YtcfhmdljeeppfaaGreatQPt47
import Derived.Test.YtcfhmdljeeppfaaGreatQPt72
set_option linter.all false
namespace Go.AM
open Go Go.Proofs
@[simp] theorem tyE8:Types Tryz.prog 237=some ⟨.array 8 103,48,192,[.int .i64 0,.int .i64 0,.bool false,.bool false,.bool false,.bool false,.int .i64 0,.int .i64 0,.bool false,.bool false,.bool false,.bool false,.int .i64 0,.int .i64 0,.bool false,.bool false,.bool false,.bool false,.int .i64 0,.int .i64 0,.bool false,.bool false,.bool false,.bool false,.int .i64 0,.int .i64 0,.bool false,.bool false,.bool false,.bool false,.int .i64 0,.int .i64 0,.bool false,.bool false,.bool false,.bool false,.int .i64 0,.int .i64 0,.bool false,.bool false,.bool false,.bool false,.int .i64 0,.int .i64 0,.bool false,.bool false,.bool false,.bool false]⟩:=by kernel_rfl
def chain:List (Bool×Int)→Int
 | []=>0
 | (b,c)::r=>if b=true then chain r else c
theorem chain_0:∀ {l:List (Bool×Int)},(∀ p∈l,p.1=false→p.2≠0)→chain l=0→∀ p∈l,p.1=true
 | [],_,_,p,hp=>by simp at hp
 | (b,c)::r,h,h0,p,hp=>by
  cases b with
  | false =>
   simp only [chain,Bool.false_eq_true,if_false] at h0
   exact absurd h0 (h (false,c) (by simp) rfl)
  | true =>
   simp only [chain,if_true] at h0
   rcases List.mem_cons.1 hp with rfl|hp
   ·rfl
   ·exact chain_0 (fun q hq=>h q (by simp [hq])) h0 p hp
def joinC (e0 e1 e2 e3 e4 e5 e6 e7:En×Int):List (Bool×Int):=[(decide (e0.2=0),e0.2),(decide (e1.2=0),e1.2),(decide (e2.2=0),e2.2),(decide (e3.2=0),e3.2),(decide (e4.2=0),e4.2),(decide (e5.2=0),e5.2),(decide (e6.2=0),e6.2),(decide (e7.2=0),e7.2),(decide (e0.1.1=1)&&!e0.1.2.2.2.2.2,11),(decide (e1.1.1=1)&&!e1.1.2.2.2.2.2,11),(decide (e2.1.1=1)&&!e2.1.2.2.2.2.2,11),(decide (e3.1.1=1)&&!e3.1.2.2.2.2.2,11),(decide (e4.1.1=1)&&!e4.1.2.2.2.2.2,11),(decide (e5.1.1=1)&&!e5.1.2.2.2.2.2,11),(decide (e6.1.1=1)&&!e6.1.2.2.2.2.2,11),(decide (e7.1.1=1)&&!e7.1.2.2.2.2.2,11),(decide (e0.1.2.1=e0.1.2.1+0),10),(decide (e1.1.2.1=e0.1.2.1+1),10),(decide (e2.1.2.1=e0.1.2.1+2),10),(decide (e3.1.2.1=e0.1.2.1+3),10),(decide (e4.1.2.1=e0.1.2.1+4),10),(decide (e5.1.2.1=e0.1.2.1+5),10),(decide (e6.1.2.1=e0.1.2.1+6),10),(decide (e7.1.2.1=e0.1.2.1+7),10),(e0.1.2.2.1 == e0.1.2.2.1,12),(e1.1.2.2.1 == e0.1.2.2.1,12),(e2.1.2.2.1 == e0.1.2.2.1,12),(e3.1.2.2.1 == e0.1.2.2.1,12),(e4.1.2.2.1 == e0.1.2.2.1,12),(e5.1.2.2.1 == e0.1.2.2.1,12),(e6.1.2.2.1 == e0.1.2.2.1,12),(e7.1.2.2.1 == e0.1.2.2.1,12)]
noncomputable def joinL (e0 e1 e2 e3 e4 e5 e6 e7:En×Int):Int×Int:=if chain (joinC e0 e1 e2 e3 e4 e5 e6 e7)=0 then encR (e0.1.1,e0.1.2.1,e0.1.2.2.1,((((((((e0.1.2.2.2.1||e0.1.2.2.2.1)||e1.1.2.2.2.1)||e2.1.2.2.2.1)||e3.1.2.2.2.1)||e4.1.2.2.2.1)||e5.1.2.2.2.1)||e6.1.2.2.2.1)||e7.1.2.2.2.1),((((((((e0.1.2.2.2.2.1||e0.1.2.2.2.2.1)||e1.1.2.2.2.2.1)||e2.1.2.2.2.2.1)||e3.1.2.2.2.2.1)||e4.1.2.2.2.2.1)||e5.1.2.2.2.2.1)||e6.1.2.2.2.2.1)||e7.1.2.2.2.2.1),true) else (0,chain (joinC e0 e1 e2 e3 e4 e5 e6 e7))
noncomputable def joinR (ws:List Nat):Int×Int:=joinL (decR (ws.getD 0 0)) (decR (ws.getD 1 0)) (decR (ws.getD 2 0)) (decR (ws.getD 3 0)) (decR (ws.getD 4 0)) (decR (ws.getD 5 0)) (decR (ws.getD 6 0)) (decR (ws.getD 7 0))
def accL (a:Bool) (l:List Bool):Nat→Bool
 | 0=>a
 | i+1=>accL a l i||l.getD i false
theorem list8 {l:List Nat} (h:l.length=8):∃ a b c d e f g i,l=[a,b,c,d,e,f,g,i]:=by
 match l,h with
 | [a,b,c,d,e,f,g,i],_=>exact ⟨a,b,c,d,e,f,g,i,rfl⟩
set_option maxHeartbeats 64000000 in
set_option maxRecDepth 20000 in
theorem s152 (X:AX) (hX:XOK Tryz.prog X) (hw:X.W wT) (hdc:∀ n:Nat,n<2^64→∀ M k,X.call 56 [U n] M k=some (.tup [EnV (decR n).1,I (decR n).2],[]))
  (hen:∀ k f d a x h M n,X.call 143 [.agg [I k,I f,B d,B a,B x,B h]] M n=some (.tup [U (encR (k,f,d,a,x,h)).1,I (encR (k,f,d,a,x,h)).2],[])) :
  PSound Tryz.prog 152 (specF (ι:={ws:List Nat // ws.length=8∧∀ w∈ws,w<2^64}) (fun x=>[.agg (wcs x.1)]) fun x=>retOf [U (joinR x.1).1,I (joinR x.1).2]):=by
 refine psound_spec hX mixed Tryz.func152 rfl fun ⟨ws,h8,hw64⟩ w0 G=>⟨by show 1≤89;decide,rfl,?_⟩
 show AW ⟨Tryz.prog,X,89,w0,.pure G⟩ _ _ _
 have hc:Cx.OK ⟨Tryz.prog,X,89,w0,.pure G⟩:=⟨hX,mixed⟩
 obtain ⟨w0,w1,w2,w3,w4,w5,w6,w7,rfl⟩:=list8 h8
 unfold joinR
 simp only [List.getD_cons_zero,List.getD_cons_succ,wcs,List.map_cons,List.map_nil]
 have hd0:=hdc w0 (hw64 _ (by simp))
 have hr0:=decR_rng w0
 obtain ⟨⟨⟨k0,f0,d0,a0,x0,h0⟩,c0⟩,hE0⟩:∃ r,r=decR w0:=⟨_,rfl⟩
 rw [← hE0] at hd0 hr0 ⊢
 simp only at hr0
 have hd1:=hdc w1 (hw64 _ (by simp))
 have hr1:=decR_rng w1
 obtain ⟨⟨⟨k1,f1,d1,a1,x1,h1⟩,c1⟩,hE1⟩:∃ r,r=decR w1:=⟨_,rfl⟩
 rw [← hE1] at hd1 hr1 ⊢
 simp only at hr1
 have hd2:=hdc w2 (hw64 _ (by simp))
 have hr2:=decR_rng w2
 obtain ⟨⟨⟨k2,f2,d2,a2,x2,h2⟩,c2⟩,hE2⟩:∃ r,r=decR w2:=⟨_,rfl⟩
 rw [← hE2] at hd2 hr2 ⊢
 simp only at hr2
 have hd3:=hdc w3 (hw64 _ (by simp))
 have hr3:=decR_rng w3
 obtain ⟨⟨⟨k3,f3,d3,a3,x3,h3⟩,c3⟩,hE3⟩:∃ r,r=decR w3:=⟨_,rfl⟩
 rw [← hE3] at hd3 hr3 ⊢
 simp only at hr3
 have hd4:=hdc w4 (hw64 _ (by simp))
 have hr4:=decR_rng w4
 obtain ⟨⟨⟨k4,f4,d4,a4,x4,h4⟩,c4⟩,hE4⟩:∃ r,r=decR w4:=⟨_,rfl⟩
 rw [← hE4] at hd4 hr4 ⊢
 simp only at hr4
 have hd5:=hdc w5 (hw64 _ (by simp))
 have hr5:=decR_rng w5
 obtain ⟨⟨⟨k5,f5,d5,a5,x5,h5⟩,c5⟩,hE5⟩:∃ r,r=decR w5:=⟨_,rfl⟩
 rw [← hE5] at hd5 hr5 ⊢
 simp only at hr5
 have hd6:=hdc w6 (hw64 _ (by simp))
 have hr6:=decR_rng w6
 obtain ⟨⟨⟨k6,f6,d6,a6,x6,h6⟩,c6⟩,hE6⟩:∃ r,r=decR w6:=⟨_,rfl⟩
 rw [← hE6] at hd6 hr6 ⊢
 simp only at hr6
 have hd7:=hdc w7 (hw64 _ (by simp))
 have hr7:=decR_rng w7
 obtain ⟨⟨⟨k7,f7,d7,a7,x7,h7⟩,c7⟩,hE7⟩:∃ r,r=decR w7:=⟨_,rfl⟩
 rw [← hE7] at hd7 hr7 ⊢
 simp only at hr7
 clear hw64 hdc h8 hE0 hE1 hE2 hE3 hE4 hE5 hE6 hE7
 simp only [EnV,U] at hen hd0 hd1 hd2 hd3 hd4 hd5 hd6 hd7 ⊢
 have zS:=jj hd0<|jj hd1<|jj hd2<|jj hd3<|jj hd4<|jj hd5<|jj hd6<|jj hd7<|hen
 repeat' (first|(apply aw_seq_k;intro K hK)|(refine eF64 ?_)|(refine aw_cond (b:=_) (by exact rfl) (fun h=>?_) (fun h=>?_)<;>(try simp at h))|(refine eB ?_)|(refine hK _ ?_;clear hK)|(clear hK;refine hK _ ?_;clear hK)|(clear hK;clear hK;refine hK _ ?_;clear hK)|(clear hK;clear hK;clear hK;refine hK _ ?_;clear hK))
 all_goals clear zS
 refine aw_rounds 9 (aw_round ?_)
 have zS:=jj hd0<|jj hd1<|jj hd2<|jj hd3<|jj hd4<|jj hd5<|jj hd6<|jj hd7<|hen
 repeat' (first|(apply aw_seq_k;intro K hK)|(refine eF64 ?_)|(refine aw_cond (b:=_) (by exact rfl) (fun h=>?_) (fun h=>?_)<;>(try simp at h))|(refine eB ?_)|(refine hK _ ?_;clear hK)|(clear hK;refine hK _ ?_;clear hK)|(clear hK;clear hK;refine hK _ ?_;clear hK)|(clear hK;clear hK;clear hK;refine hK _ ?_;clear hK))
 all_goals clear zS
 all_goals try (refine ⟨by simp,?_⟩;clear hen hd0 hd1 hd2 hd3 hd4 hd5 hd6 hd7 hX hw hc;simp [leaves_iff,Tryz.f152,joinL,joinC,chain, *];done)
 refine aw_rounds 9 (aw_round ?_)
 repeat' (first|(apply aw_seq_k;intro K hK)|(refine aw_run hc (by exact aw_nod) ?_;simp [List.zipIdx,hd0,hd1,hd2,hd3,hd4,hd5,hd6,hd7,hen,-getM,getM_hit,getM_miss,getM_none];(repeat (simp (disch:=first|omega|assumption|fail) only [if_pos,if_neg,wrap64];try simp [List.zipIdx,hd0,hd1,hd2,hd3,hd4,hd5,hd6,hd7,hen,-getM,getM_hit,getM_miss,getM_none]));try (repeat' (refine guardQ_split (fun h=>?_) (fun h=>?_)<;>simp at h<;>(simp [List.zipIdx,hd0,hd1,hd2,hd3,hd4,hd5,hd6,hd7,hen,-getM,getM_hit,getM_miss,getM_none];(repeat (simp (disch:=first|omega|assumption|fail) only [if_pos,if_neg,wrap64];try simp [List.zipIdx,hd0,hd1,hd2,hd3,hd4,hd5,hd6,hd7,hen,-getM,getM_hit,getM_miss,getM_none]))))))|(refine aw_runFt hc ?_;simp [List.zipIdx,hd0,hd1,hd2,hd3,hd4,hd5,hd6,hd7,hen,-getM,getM_hit,getM_miss,getM_none];(repeat (simp (disch:=first|omega|assumption|fail) only [if_pos,if_neg,wrap64];try simp [List.zipIdx,hd0,hd1,hd2,hd3,hd4,hd5,hd6,hd7,hen,-getM,getM_hit,getM_miss,getM_none]));refine ⟨by kernel_rfl,?_⟩)|(refine aw_run hc (by first|(intro _;rw [ordB_w hw];kernel_rfl)|(intro _;rw [ordB_w0 hw0];kernel_rfl)|(intro _;kernel_rfl)) ?_;simp [List.zipIdx,hd0,hd1,hd2,hd3,hd4,hd5,hd6,hd7,hen,-getM,getM_hit,getM_miss,getM_none];(repeat (simp (disch:=first|omega|assumption|fail) only [if_pos,if_neg,wrap64];try simp [List.zipIdx,hd0,hd1,hd2,hd3,hd4,hd5,hd6,hd7,hen,-getM,getM_hit,getM_miss,getM_none]));try (repeat' (refine guardQ_split (fun h=>?_) (fun h=>?_)<;>simp at h<;>(simp [List.zipIdx,hd0,hd1,hd2,hd3,hd4,hd5,hd6,hd7,hen,-getM,getM_hit,getM_miss,getM_none];(repeat (simp (disch:=first|omega|assumption|fail) only [if_pos,if_neg,wrap64];try simp [List.zipIdx,hd0,hd1,hd2,hd3,hd4,hd5,hd6,hd7,hen,-getM,getM_hit,getM_miss,getM_none]))))))|(refine aw_cond (b:=_) (by exact rfl) (fun h=>?_) (fun h=>?_)<;>(try simp at h))|(refine aw_block ?_)|(refine aw_skip ?_;simp only [thenQ,blockQ,if_true])|(refine aw_exit ?_;simp [thenQ,blockQ])|(refine aw_ret ?_;simp only [thenQ,blockQ])|(refine aw_round ?_)|(refine hK _ ?_;clear hK)|(clear hK;refine hK _ ?_;clear hK)|(clear hK;clear hK;refine hK _ ?_;clear hK)|(clear hK;clear hK;clear hK;refine hK _ ?_;clear hK))
 all_goals try (refine ⟨by simp,?_⟩;clear hen hd0 hd1 hd2 hd3 hd4 hd5 hd6 hd7 hX hw hc;simp [leaves_iff,Tryz.f152,joinL,joinC,chain, *];done)
 refine aw_rounds 9 (aw_round ?_)
 repeat' (first|(apply aw_seq_k;intro K hK)|(refine aw_run hc (by exact aw_nod) ?_;simp [List.zipIdx,hd0,hd1,hd2,hd3,hd4,hd5,hd6,hd7,hen,-getM,getM_hit,getM_miss,getM_none];(repeat (simp (disch:=first|omega|assumption|fail) only [if_pos,if_neg,wrap64];try simp [List.zipIdx,hd0,hd1,hd2,hd3,hd4,hd5,hd6,hd7,hen,-getM,getM_hit,getM_miss,getM_none]));try (repeat' (refine guardQ_split (fun h=>?_) (fun h=>?_)<;>simp at h<;>(simp [List.zipIdx,hd0,hd1,hd2,hd3,hd4,hd5,hd6,hd7,hen,-getM,getM_hit,getM_miss,getM_none];(repeat (simp (disch:=first|omega|assumption|fail) only [if_pos,if_neg,wrap64];try simp [List.zipIdx,hd0,hd1,hd2,hd3,hd4,hd5,hd6,hd7,hen,-getM,getM_hit,getM_miss,getM_none]))))))|(refine aw_runFt hc ?_;simp [List.zipIdx,hd0,hd1,hd2,hd3,hd4,hd5,hd6,hd7,hen,-getM,getM_hit,getM_miss,getM_none];(repeat (simp (disch:=first|omega|assumption|fail) only [if_pos,if_neg,wrap64];try simp [List.zipIdx,hd0,hd1,hd2,hd3,hd4,hd5,hd6,hd7,hen,-getM,getM_hit,getM_miss,getM_none]));refine ⟨by kernel_rfl,?_⟩)|(refine aw_run hc (by first|(intro _;rw [ordB_w hw];kernel_rfl)|(intro _;rw [ordB_w0 hw0];kernel_rfl)|(intro _;kernel_rfl)) ?_;simp [List.zipIdx,hd0,hd1,hd2,hd3,hd4,hd5,hd6,hd7,hen,-getM,getM_hit,getM_miss,getM_none];(repeat (simp (disch:=first|omega|assumption|fail) only [if_pos,if_neg,wrap64];try simp [List.zipIdx,hd0,hd1,hd2,hd3,hd4,hd5,hd6,hd7,hen,-getM,getM_hit,getM_miss,getM_none]));try (repeat' (refine guardQ_split (fun h=>?_) (fun h=>?_)<;>simp at h<;>(simp [List.zipIdx,hd0,hd1,hd2,hd3,hd4,hd5,hd6,hd7,hen,-getM,getM_hit,getM_miss,getM_none];(repeat (simp (disch:=first|omega|assumption|fail) only [if_pos,if_neg,wrap64];try simp [List.zipIdx,hd0,hd1,hd2,hd3,hd4,hd5,hd6,hd7,hen,-getM,getM_hit,getM_miss,getM_none]))))))|(refine aw_cond (b:=_) (by exact rfl) (fun h=>?_) (fun h=>?_)<;>(try simp at h))|(refine aw_block ?_)|(refine aw_skip ?_;simp only [thenQ,blockQ,if_true])|(refine aw_exit ?_;simp [thenQ,blockQ])|(refine aw_ret ?_;simp only [thenQ,blockQ])|(refine aw_round ?_)|(refine hK _ ?_;clear hK)|(clear hK;refine hK _ ?_;clear hK)|(clear hK;clear hK;refine hK _ ?_;clear hK)|(clear hK;clear hK;clear hK;refine hK _ ?_;clear hK))
 all_goals try (refine ⟨by simp,?_⟩;clear hen hd0 hd1 hd2 hd3 hd4 hd5 hd6 hd7 hX hw hc;simp [leaves_iff,Tryz.f152,joinL,joinC,chain, *];done)
 refine aw_loopK (s0:=?lps1) (m0:=?lpm1) (ι:={i:Nat // i≤8∧∀ j,j<i→[d0,d1,d2,d3,d4,d5,d6,d7].getD j false=d0}) [12,60] (fun s=>[(61,I s.1)]) (fun s=>[(6624,.box [I k0,I f0,B d0,B (accL a0 [a0,a1,a2,a3,a4,a5,a6,a7] s.1),B (accL x0 [x0,x1,x2,x3,x4,x5,x6,x7] s.1),B h0])]) (fun s=>8 - s.1) ⟨0,by simp,by simp⟩ ?lhs1 ?lhm1 ?_ ?_
 case lhs1=>first|(simp [keepS];done)|(simp [keepS];rfl)
 case lhm1=>first|rfl|(simp;done)|(simp;rfl)
 ·simp only [accL]
  exact dle
 ·rintro ⟨i,hi,hD⟩
  simp only at hi hD ⊢
  have q1:1<i→d1=d0:=fun h=>hD 1 h
  have q2:2<i→d2=d0:=fun h=>hD 2 h
  have q3:3<i→d3=d0:=fun h=>hD 3 h
  have q4:4<i→d4=d0:=fun h=>hD 4 h
  have q5:5<i→d5=d0:=fun h=>hD 5 h
  have q6:6<i→d6=d0:=fun h=>hD 6 h
  have q7:7<i→d7=d0:=fun h=>hD 7 h
  rcases Decidable.em (i<8) with hil|hil
  ·obtain ⟨j,hj⟩:∃ j,j=i+1:=⟨_,rfl⟩
   have hAn:accL a0 [a0,a1,a2,a3,a4,a5,a6,a7] j=(accL a0 [a0,a1,a2,a3,a4,a5,a6,a7] i||[a0,a1,a2,a3,a4,a5,a6,a7].getD i false):=by rw [hj];rfl
   have hXn:accL x0 [x0,x1,x2,x3,x4,x5,x6,x7] j=(accL x0 [x0,x1,x2,x3,x4,x5,x6,x7] i||[x0,x1,x2,x3,x4,x5,x6,x7].getD i false):=by rw [hj];rfl
   have hD2:[d0,d1,d2,d3,d4,d5,d6,d7].getD i false=d0→∀ k,k<j→[d0,d1,d2,d3,d4,d5,d6,d7].getD k false=d0:=fun h k hk=>by
    rcases (by omega:k<i∨k=i) with h1|rfl
    ·exact hD k h1
    ·exact h
   obtain ⟨A,hA⟩:∃ A,A=accL a0 [a0,a1,a2,a3,a4,a5,a6,a7] i:=⟨_,rfl⟩
   obtain ⟨Y,hY⟩:∃ Y,Y=accL x0 [x0,x1,x2,x3,x4,x5,x6,x7] i:=⟨_,rfl⟩
   rw [← hA] at hAn ⊢
   rw [← hY] at hXn ⊢
   obtain ⟨A2,hA2⟩:∃ A,A=accL a0 [a0,a1,a2,a3,a4,a5,a6,a7] j:=⟨_,rfl⟩
   obtain ⟨Y2,hY2⟩:∃ Y,Y=accL x0 [x0,x1,x2,x3,x4,x5,x6,x7] j:=⟨_,rfl⟩
   rw [← hA2] at hAn
   rw [← hY2] at hXn
   clear hA hY hD
   rcases (by omega:i=0∨i=1∨i=2∨i=3∨i=4∨i=5∨i=6∨i=7) with rfl|rfl|rfl|rfl|rfl|rfl|rfl|rfl
   all_goals
    simp only [List.getD_cons_zero,List.getD_cons_succ] at hAn hXn
    cases A<;>cases Y<;>simp only [Bool.true_or,Bool.false_or] at hAn hXn
   all_goals
    have zS:=jj hd0<|jj hd1<|jj hd2<|jj hd3<|jj hd4<|jj hd5<|jj hd6<|jj hd7<|hen
    repeat' (first|(apply aw_seq_k;intro K hK)|(refine eF64 ?_)|(refine aw_cond (b:=_) (by exact rfl) (fun h=>?_) (fun h=>?_)<;>(try simp at h))|(refine eB ?_)|(refine hK _ ?_;clear hK)|(clear hK;refine hK _ ?_;clear hK)|(clear hK;clear hK;refine hK _ ?_;clear hK)|(clear hK;clear hK;clear hK;refine hK _ ?_;clear hK))
    all_goals clear zS
   all_goals first
    | (refine ⟨by simp,?_⟩;clear hen hd0 hd1 hd2 hd3 hd4 hd5 hd6 hd7 hX hw hc;simp [leaves_iff,Tryz.f152,joinL,joinC,chain, *];done)
    | (refine ⟨j,?_,⟨by omega,hD2 (by first|rfl|assumption)⟩,by omega⟩;simp only [← hA2,← hY2,hAn,hXn];subst hj;exact dle)
  ·obtain rfl:i=8:=by omega
   have zS:=jj hd0<|jj hd1<|jj hd2<|jj hd3<|jj hd4<|jj hd5<|jj hd6<|jj hd7<|hen
   repeat' (first|(apply aw_seq_k;intro K hK)|(refine eF64 ?_)|(refine aw_cond (b:=_) (by exact rfl) (fun h=>?_) (fun h=>?_)<;>(try simp at h))|(refine eB ?_)|(refine hK _ ?_;clear hK)|(clear hK;refine hK _ ?_;clear hK)|(clear hK;clear hK;refine hK _ ?_;clear hK)|(clear hK;clear hK;clear hK;refine hK _ ?_;clear hK))
   all_goals clear zS
   all_goals (refine ⟨by simp,?_⟩;clear hen hd0 hd1 hd2 hd3 hd4 hd5 hd6 hd7 hX hw hc;simp [leaves_iff,Tryz.f152,joinL,joinC,chain,accL, *];done)
end Go.AM
namespace Go.AM
open Go Go.Proofs
theorem tabW_inv {x:Nat} {g:Int} (h:tabW x=some g):0≤g∧g≤4294967295∧x=g.toNat*256+4:=by
 have hr:=decR_rng x
 unfold tabW at h
 split at h
 case isFalse=>simp at h
 rename_i hk
 simp only [Option.some.injEq] at h
 rw [h] at hr
 refine ⟨hr.1,hr.2,?_⟩
 by_cases he:encR (prs x)=((x:Int),0)
 ·rw [decR_z he] at hk h
  simp only at hk h
  have hb:¬ badF (prs x):=fun hb=>by rw [encR_f (by rw [hk];decide) hb] at he;simp at he
  cases hf:frmE (prs x) with
  | false=>rw [encR_m (by rw [hk];decide) hb hf] at he;simp at he
  | true =>
   rw [encR_z (by rw [hk];decide) hb hf] at he
   simp only [Prod.mk.injEq,and_true] at he
   unfold frmE noFl at hf
   rw [if_neg (by rw [hk];decide),if_neg (by rw [hk];decide),if_neg (by rw [hk];decide),if_pos (.inr hk)] at hf
   simp only [Bool.and_eq_true,Bool.not_eq_true'] at hf
   unfold encW fb at he
   rw [hk,h,hf.1,hf.2.1,hf.2.2.1,hf.2.2.2] at he
   simp at he
   omega
 ·rw [decR_n he] at hk
  exact absurd hk (by decide)
def unlW (w:Nat) (ws:List Nat):List Nat:=ws.map fun x=>if x=w then 0 else x
def unl (w:Nat) (ns:NdL):NdL:=ns.map fun n=>(n.1,unlW w n.2)
@[simp] theorem unl_len {w:Nat} {ns:NdL}:(unl w ns).length=ns.length:=by simp [unl]
@[simp] theorem unlW_len {w:Nat} {ws:List Nat}:(unlW w ws).length=ws.length:=by simp [unlW]
theorem fnd_unl {w:Nat} {ns:NdL} {f:Int}:fnd (unl w ns) f=fnd ns f:=by
 unfold fnd unl
 rw [List.findIdx_map,List.length_map]
 rfl
theorem Mof_unl {w:Nat} {ns:NdL} {f:Int}:Mof (unl w ns) f=(Mof ns f).map (unlW w):=by
 unfold Mof
 rw [fnd_unl]
 cases fnd ns f with
 | none=>rfl
 | some i =>
  simp only [Option.map_some,unl,List.getD_eq_getElem?_getD,List.getElem?_map]
  cases ns[i]?<;>rfl
theorem unl_asc {w:Nat} {ns:NdL} (h:ascN ns):ascN (unl w ns):=by
 unfold ascN unl
 rw [List.pairwise_map]
 exact h
theorem unl_ok {w:Nat} {ns:NdL} (h:∀ x∈ns,ndOK x):∀ x∈unl w ns,ndOK x:=fun x hx=>by
 obtain ⟨y,hy,rfl⟩:=List.mem_map.1 hx
 refine ⟨by simp [(h y hy).1],fun z hz=>?_⟩
 obtain ⟨u,hu,rfl⟩:=List.mem_map.1 hz
 have:=(h y hy).2 u hu
 split
 ·decide
 ·exact this
theorem delK_ok {ns:NdL} {g:Int} (h:∀ x∈ns,ndOK x):∀ x∈delK ns g,ndOK x:=fun x hx=>h x (mem_delK.1 hx).1
theorem unl_one {M:Mm} {root:Int} (hV:VM WA M root) {d q:Nat} (hx:(d,q)∈Pos) (hd:d<2) {f:Int} (hf:frP WA M root d q=some f) {i:Nat} (hi:i<8) {g:Int} (h0:tabW (wM M f i)=some g) {h:Int} {us:List Nat} (hm:M h=some us) :
  unlW (g.toNat*256+4) us=if h=f then us.set i 0 else us:=by
 obtain ⟨g0,g1,gw⟩:=tabW_inv h0
 obtain ⟨d',q',hx',hf'⟩:=hV.all h us hm
 obtain ⟨us',hm',h8,hok⟩:=hV.nd d' q' hx' h hf'
 rw [hm] at hm'
 simp only [Option.some.injEq] at hm'
 subst hm'
 have hgP:frP WA M root (d+1) (q*8+i)=some g:=by
  simp only [frP]
  rw [show (q*8+i)/8=q by omega,show (q*8+i)%8=i by omega,hf]
  exact h0
 have key:∀ j,j<8→us.getD j 0=g.toNat*256+4→h=f∧j=i:=fun j hj e=>by
  have hj':=hok j hj
  have htw:tabW (us.getD j 0)=some g:=by
   rw [e,tabW_tw (g:=g.toNat) (by omega),Int.toNat_of_nonneg g0]
  have hd':d'≤2:=by have:=mem_Pos.1 hx';simp only at this;omega
  by_cases e2:d'=2
  ·subst e2
   have:=(WD_ok fun _=>true).flat _ hj'
   rw [show (WD fun _=>true).tab=tabW from rfl,htw] at this
   simp at this
  ·have hgP':frP WA M root (d'+1) (q'*8+j)=some g:=by
    simp only [frP]
    rw [show (q'*8+j)/8=q' by omega,show (q'*8+j)%8=j by omega,hf']
    show tabW (wM M h j)=some g
    unfold wM
    rw [hm];exact htw
   have hin:=hV.inj _ _ _ _ (Pos_dn hx' (by omega) hj) (Pos_dn hx hd hi) g hgP' hgP
   have e3:d'=d:=by omega
   have e4:q'=q:=by omega
   subst e3 e4
   rw [hf] at hf'
   simp only [Option.some.injEq] at hf'
   exact ⟨hf'.symm,by omega⟩
 refine List.ext_getElem (by split<;>simp) fun j h1 h2=>?_
 have hj:j<8:=by simp at h1;omega
 have hg:us.getD j 0=us[j]'(by simpa using h1):=by rw [List.getD_eq_getElem?_getD,List.getElem?_eq_getElem (by simpa using h1)];rfl
 have k:=key j hj
 rw [hg] at k
 simp only [unlW,List.getElem_map]
 by_cases e:us[j]'(by simpa using h1)=g.toNat*256+4
 ·obtain ⟨rfl,rfl⟩:=k e
  rw [if_pos e]
  simp
 ·rw [if_neg e]
  by_cases e2:h=f
  ·subst e2
   simp only [if_true]
   rw [List.getElem_set]
   split
   ·rename_i e3
    subst e3
    exfalso
    apply e
    unfold wM at gw
    rw [hm] at gw
    simp only at gw
    rw [← hg]
    exact gw
   ·rfl
  ·simp only [if_neg e2]
theorem Mof_kp {ns:NdL} (ha:ascN ns) {fr:List Int} (x:Int):Mof (kpF fr ns) x=if x∈fr then none else Mof ns x:=by
 have hk:ascN (kpF fr ns):=List.Pairwise.filter _ ha
 split
 ·rename_i h
  refine (Mof_none hk).2 fun n hn e=>?_
  have:=(List.mem_filter.1 hn).2
  unfold inF at this
  rw [e] at this
  simp [h] at this
 ·rename_i h
  cases hm:Mof ns x with
  | none=>exact (Mof_none hk).2 fun n hn=>(Mof_none ha).1 hm n (List.mem_filter.1 hn).1
  | some us =>
   refine (mem_Mof hk).1 (List.mem_filter.2 ⟨(mem_Mof ha).2 hm,?_⟩)
   unfold inF
   simp [h]
theorem kpF_asc {ns:NdL} (ha:ascN ns) {fr:List Int}:ascN (kpF fr ns):=List.Pairwise.filter _ ha
theorem round {r:Int} {ns:NdL} {ds:List Dp} (h:Pv (r,ns,ds)) (ht:tbOK (r,ns,ds)) {p:Nat} (hp:p<512) {g:Int} {l w:Nat} (hw:wlk (Mof ns) r p=(g,l,w)) (hl:l<2) (hlf:∀ j,j<8→tabW (wM (Mof ns) g j)=none) :
  ∃ f k,frP WA (Mof ns) r (1 - l) (p/8^(l+2))=some f∧tabW (wM (Mof ns) f (dgt p (l+1)))=some g∧fnd ns f=some k∧f≠g∧0≤g∧g≤4294967295 ∧
   Mof (unl (g.toNat*256+4) (delK ns g))=updM1 (updW (Mof ns) f (dgt p (l+1)) 0) g none∧Pv (r,unl (g.toNat*256+4) (delK ns g),ds)∧tbOK (r,unl (g.toNat*256+4) (delK ns g),ds) ∧
   wlk (Mof (unl (g.toNat*256+4) (delK ns g))) r p=(f,l+1,0)∧unl (g.toNat*256+4) (delK ns g)=kpF [g] (setN ns k (dgt p (l+1)) 0):=by
 obtain ⟨a1,a2,a3,a4,a5,a6⟩:=wlk_at h.vm hp hw
 simp only at a3
 have hq:p/8^(l+1)=p/8^(l+2)*8+dgt p (l+1):=by
  unfold dgt
  rw [Nat.pow_succ 8 (l+1),← Nat.div_div_eq_div_mul]
  omega
 have hd8:=dgt_lt p (l+1)
 obtain ⟨f,hf,htb⟩:∃ f,frP WA (Mof ns) r (1 - l) (p/8^(l+2))=some f∧tabW (wM (Mof ns) f (dgt p (l+1)))=some g:=by
  rw [show 2 - l=(1 - l)+1 by omega,hq] at a3
  simp only [frP] at a3
  rw [show (p/8^(l+2)*8+dgt p (l+1))/8=p/8^(l+2) by omega,show (p/8^(l+2)*8+dgt p (l+1))%8=dgt p (l+1) by omega] at a3
  cases hc:frP WA (Mof ns) r (1 - l) (p/8^(l+2)) with
  | none=>rw [hc] at a3;simp at a3
  | some f=>rw [hc] at a3;exact ⟨f,rfl,a3⟩
 have hx:(1 - l,p/8^(l+2))∈Pos:=by
  have:=Pos_up (d:=1 - l) (q:=p/8^(l+1)) (by rw [show 1 - l+1=2 - l by omega];exact a2)
  rwa [hq,show (p/8^(l+2)*8+dgt p (l+1))/8=p/8^(l+2) by omega] at this
 obtain ⟨g0,g1,gw⟩:=tabW_inv htb
 have hpr:=h.vm.prune hx (by omega) hf hd8 (w:=0) htb hlf tab0 (ok0 (2 - (1 - l)))
 obtain ⟨us,hus,hu8,_⟩:=h.vm.nd _ _ hx f hf
 obtain ⟨k,hk,_⟩:=Mof_some.1 hus
 have hfg:f≠g:=fun e=>by
  have:=h.vm.inj _ _ _ _ hx a2 f hf (by rw [e];exact a3)
  omega
 have hM:Mof (unl (g.toNat*256+4) (delK ns g))=updM1 (updW (Mof ns) f (dgt p (l+1)) 0) g none:=by
  refine Mof_ext fun x=>?_
  rw [Mof_unl,Mof_del h.asc]
  unfold updM1 updW
  by_cases e:x=g
  ·simp [e]
  ·simp only [if_neg e]
   cases hm:Mof ns x with
   | none =>
    split
    ·rename_i e2;rw [e2,hus] at hm;simp at hm
    ·rfl
   | some vs =>
    simp only [Option.map_some]
    rw [unl_one h.vm hx (by omega) hf hd8 htb hm]
    by_cases e2:x=f
    ·subst e2;rw [hm];simp
    ·simp [e2]
 have hasc:ascN (unl (g.toNat*256+4) (delK ns g)):=unl_asc (delK_asc h.asc)
 have hsa:=setN_asc h.asc (i:=dgt p (l+1)) (w:=0) (fnd_lt hk)
 refine ⟨f,k,hf,htb,hk,hfg,g0,g1,hM,⟨hasc,?_⟩,⟨unl_ok (delK_ok ht.1),?_,ht.2.2⟩,?_,?_⟩
 ·show VM WA (Mof (unl _ _)) r
  rw [hM];exact hpr.1
 ·have h1:(delK ns g).length≤ns.length:=List.length_filter_le _ _
  have h2:=ht.2.1
  show (unl _ _).length≤_
  simp only [unl_len]
  simp only at h2
  omega
 ·have hfr:frP WA (Mof (unl (g.toNat*256+4) (delK ns g))) r (2 - (l+1)) (p/8^(l+1+1))=some f:=by
   rw [hM,show 2 - (l+1)=1 - l by omega,hpr.2 _ _ hx,if_neg (by omega)]
   exact hf
  have hwf:wM (Mof (unl (g.toNat*256+4) (delK ns g))) f (dgt p (l+1))=0:=by
   rw [hM,wM_updM1,if_neg hfg,wM_updW hus (by omega),if_pos ⟨rfl,rfl⟩]
  rw [wlk_of hp (by omega) hfr (.inl (by rw [hwf];exact tab0)),hwf]
 ·refine ext_asc hasc (kpF_asc hsa) fun x=>?_
  rw [hM,Mof_kp hsa,Mof_set h.asc hk]
  unfold updM1
  simp
end Go.AM
namespace Go.AM
open Go Go.Proofs
theorem td_del {β:Type} {l:List (Int×β)} (ha:ascK l) {i:Nat} (hi:i<l.length):l.take i++l.drop (i+1)=delK l (l[i]).1:=by
 have hlt:∀ a∈l.take i,a.1≠(l[i]).1:=fun a ha'=>by
  obtain ⟨k,hk,rfl⟩:=List.getElem_of_mem ha'
  simp only [List.length_take] at hk
  rw [List.getElem_take]
  have:=List.pairwise_iff_getElem.1 ha k i (by omega) hi (by omega)
  omega
 have hgt:∀ a∈l.drop (i+1),a.1≠(l[i]).1:=fun a ha'=>by
  obtain ⟨k,hk,rfl⟩:=List.getElem_of_mem ha'
  simp only [List.length_drop] at hk
  rw [List.getElem_drop]
  have:=List.pairwise_iff_getElem.1 ha i (i+1+k) hi (by omega) (by omega)
  omega
 have e:delK l (l[i]).1=delK (l.take i++l[i]::l.drop (i+1)) (l[i]).1:=by rw [List.getElem_cons_drop,List.take_append_drop]
 rw [e]
 unfold delK
 rw [List.filter_append,List.filter_cons,if_neg (by simp),List.filter_eq_self.2 (fun a ha'=>by simpa using hlt a ha'),List.filter_eq_self.2 (fun a ha'=>by simpa using hgt a ha')]
theorem lowD_split {ds:List Dp} {g:Int} (h:lowD ds g<ds.length):ds=ds.take (lowD ds g)++gp ds (lowD ds g)::ds.drop (lowD ds g+1):=by
 rw [gp_eq h,List.getElem_cons_drop,List.take_append_drop]
theorem delL_eq {ds:List Dp} (ha:ascK ds) {g:Int} (h:lowD ds g<ds.length) (h2:(gp ds (lowD ds g)).1=g):delL ds g=delK ds g∧lastK (-1) g ds=(gp ds (lowD ds g)).2:=by
 have hm:gp ds (lowD ds g)∈ds:=by rw [gp_eq h];exact List.getElem_mem h
 constructor
 ·have:=td_del (l:=ds) ha h
  rw [← gp_eq h,h2] at this
  exact this
 ·refine lastK_at ha ?_
  obtain ⟨x,hx⟩:∃ x,x=gp ds (lowD ds g):=⟨_,rfl⟩
  rw [← hx] at h2 hm ⊢
  obtain ⟨x1,x2⟩:=x
  simp only at h2
  subst h2
  exact hm
theorem end_nd {r:Int} {ns:NdL} {ds:List Dp} (h:Pv (r,ns,ds)) {p:Nat} (hp:p<512) {g:Int} {l w:Nat} (hw:wlk (Mof ns) r p=(g,l,w)):fnd ns g=some (lsT (r,ns,ds) p).1∧(lsT (r,ns,ds) p).2=(l,w)∧(gn ns (lsT (r,ns,ds) p).1).1=g∧Mof ns g=some (gn ns (lsT (r,ns,ds) p).1).2∧(lsT (r,ns,ds) p).1<ns.length:=by
 have h1:=h.walk hp
 simp only at h1
 rw [hw] at h1
 exact ⟨h1.2.1,h1.2.2,fnd_frame h1.2.1,Mof_some.2 ⟨_,h1.2.1,rfl⟩,fnd_lt h1.2.1⟩
theorem path_f0 {r:Int} {ns:NdL} {ds:List Dp} (h:Pv (r,ns,ds)) {p:Nat} (hp:p<512) (hl:(lsT (r,ns,ds) p).2.1=0):∃ n2 w2 n1 w1 g1 g0,ptL (r,ns,ds) p=[(n2,2,w2),(n1,1,w1),lsT (r,ns,ds) p]∧fnd ns r=some n2∧fnd ns g1=some n1∧fnd ns g0=some (lsT (r,ns,ds) p).1 ∧
  frP WA (Mof ns) r 1 (p/64)=some g1∧frP WA (Mof ns) r 2 (p/8)=some g0:=by
 have hr:=h.root
 simp only at hr
 have d2:dgt p 2=p/64:=dgt2 hp
 have d1:dgt p 1=p/8%8:=dgt1
 have f1:frP WA (Mof ns) r 1 (p/64)=tabW (wd ns (rtN (r,ns,ds)) (p/64)):=by
  simp only [frP,Option.bind_some]
  rw [show p/64%8=p/64 by omega,wM_Mof hr]
  rfl
 have f2:frP WA (Mof ns) r 2 (p/8)=(frP WA (Mof ns) r 1 (p/64)).bind fun f=>tabW (wM (Mof ns) f (p/8%8)):=by
  show (frP WA (Mof ns) r 1 (p/8/8)).bind _=_
  rw [show p/8/8=p/64 by omega]
  rfl
 unfold lsT ptL at *
 simp only [lst,pth,d2,d1] at hl ⊢
 cases h2:kid WA ns (wd ns (rtN (r,ns,ds)) (p/64)) with
 | none=>rw [h2] at hl;simp at hl
 | some n1 =>
  rw [h2] at hl
  simp only at hl ⊢
  cases h1:kid WA ns (wd ns n1 (p/8%8)) with
  | none=>rw [h1] at hl;simp at hl
  | some n0 =>
   obtain ⟨g1,t1,hg1⟩:=kid_some.1 h2
   obtain ⟨g0,t0,hg0⟩:=kid_some.1 h1
   rw [show WA.tab=tabW from rfl] at t1 t0
   rw [t1] at f1
   rw [f1,Option.bind_some,wM_Mof hg1,t0] at f2
   exact ⟨_,_,n1,_,g1,g0,rfl,hr,hg1,hg0,f1,f2⟩
end Go.AM
namespace Go.AM
open Go Go.Proofs
theorem gn_setN {S:NdL} {i j w k:Nat} (hi:i<S.length):gn (setN S i j w) k=if k=i then ((gn S i).1,(gn S i).2.set j w) else gn S k:=by
 by_cases e:k=i
 ·subst e
  rw [if_pos rfl,gn_eq (by rw [setN_len];exact hi)]
  unfold setN
  rw [List.getElem_set_self];rfl
 ·rw [if_neg e]
  unfold gn setN
  rw [List.getD_eq_getElem?_getD,List.getElem?_set_ne (by omega),List.getD_eq_getElem?_getD]
end Go.AM
namespace Go.AM
open Go Go.Proofs
theorem lowD_lt {ds:List Dp} {g:Int} {k:Nat} (h:k<lowD ds g):¬ g≤(gp ds k).1:=by
 have hk:k<ds.length:=Nat.lt_of_lt_of_le h lowD_le
 have:=List.not_of_lt_findIdx (p:=fun d:Dp=>decide (g≤d.1)) (xs:=ds) h
 rw [gp_eq hk]
 simpa using this
theorem lowD_ge {ds:List Dp} {g:Int} (h:lowD ds g<ds.length):g≤(gp ds (lowD ds g)).1:=by
 have:=List.findIdx_getElem (p:=fun d:Dp=>decide (g≤d.1)) (xs:=ds) (w:=h)
 rw [gp_eq h]
 exact of_decide_eq_true this
theorem insL_eq {ds:List Dp} (ha:ascK ds) {g f:Int} (hn:∀ d∈ds,d.1≠g):insL ds g f=insK ds (g,f):=by
 have h1:∀ a∈ds.take (lowD ds g),¬ (g,f).1<a.1:=fun a ha'=>by
  obtain ⟨k,hk,rfl⟩:=List.getElem_of_mem ha'
  simp only [List.length_take] at hk
  rw [List.getElem_take]
  have:=lowD_lt (ds:=ds) (g:=g) (k:=k) (by omega)
  rw [gp_eq (by omega)] at this
  simp only
  omega
 unfold insL
 by_cases h:lowD ds g<ds.length
 ·have h2:=lowD_ge (ds:=ds) (g:=g) h
  have hm:gp ds (lowD ds g)∈ds:=by rw [gp_eq h];exact List.getElem_mem h
  have h3:=hn _ hm
  have e:=insK_hit (n:=(g,f)) (x:=gp ds (lowD ds g)) (r:=ds.drop (lowD ds g+1)) (l:=ds.take (lowD ds g)) h1 (by simp only;omega)
  rw [← lowD_split h] at e
  rw [e,gp_eq h,List.getElem_cons_drop]
 ·have e:=insK_none (n:=(g,f)) (l:=ds.take (lowD ds g)) h1
  rw [List.take_of_length_le (by omega)] at e
  rw [List.take_of_length_le (by omega),List.drop_of_length_le (by omega),e]
theorem grp_abs {r:Int} {ns:NdL} {ds:List Dp} (hv:Vt (r,ns,ds)) {g:Nat} (hg:g<64) (h0:(decR (lsT (r,ns,ds) (g*8)).2.2).1.2.2.2.2.2=false):∀ d∈ds,d.1≠(g:Int):=fun d hd e=>by
 have hm:(g:Int)∈ds.map (·.1):=List.mem_map.2 ⟨d,hd,e⟩
 have hdp:=hv.dep
 simp only at hdp
 rw [hdp] at hm
 obtain ⟨k,hk,e2,hb⟩:=mem_hugM.1 hm
 have:k=g:=by omega
 subst this
 rw [hugB_last hv hk,h0] at hb
 simp at hb
end Go.AM
namespace Go.AM
open Go Go.Proofs
theorem hug_lev {M:Mm} {root:Int} (hV:VM WA M root) {p:Nat} (hp:p<512) {f:Int} {l w:Nat} (hw:wlk M root p=(f,l,w)) (hh:(decR w).1.2.2.2.2.2=true):l=1∧(decR w).2=0:=by
 obtain ⟨a1,a2,a3,a4,a5,a6⟩:=wlk_at hV hp hw
 unfold okWb at a6
 simp only [Bool.and_eq_true,decide_eq_true_eq] at a6
 have hk:=kind_huge a6.1 hh
 have h2:=a6.2
 unfold suitB at h2
 rw [if_neg (by omega),if_neg (by omega),if_pos hk,hh] at h2
 refine ⟨?_,a6.1⟩
 by_cases h0:l=0
 ·rw [if_pos h0] at h2;simp at h2
 ·rw [if_neg h0] at h2
  by_cases h1:l=1
  ·exact h1
  ·rw [if_neg h1] at h2;simp at h2
end Go.AM
namespace Go.AM
open Go Go.Proofs
def asN (t:Tb) (p w:Nat):NdL:=(setN t.2.1 ((ptL t p).getD 1 (0,0,0)).1 (dgt p 1) w).take (lsT t p).1++(setN t.2.1 ((ptL t p).getD 1 (0,0,0)).1 (dgt p 1) w).drop ((lsT t p).1+1)
noncomputable def asmP (t:Tb) (g:Int):Tb×Int :=
 if ckd t g 64≠0 then (zT,ckd t g 64)
 else if (lsT t (g.toNat*8)).2.1≠0 then (zT,6)
 else if (joinR (gn t.2.1 (lsT t (g.toNat*8)).1).2).2≠0 then (zT,(joinR (gn t.2.1 (lsT t (g.toNat*8)).1).2).2)
 else ((t.1,asN t (g.toNat*8) (joinR (gn t.2.1 (lsT t (g.toNat*8)).1).2).1.toNat,insK t.2.2 (g,(gn t.2.1 (lsT t (g.toNat*8)).1).1)),0)
theorem asm_eq {r:Int} {ns:NdL} {ds:List Dp} (h:Pv (r,ns,ds)) (ht:tbOK (r,ns,ds)) {p:Nat} (hp:p<512) (hl:(lsT (r,ns,ds) p).2.1=0) (w:Nat) :
  ∃ n2 w2 n1 w1 g1,∃ f:Nat,ptL (r,ns,ds) p=[(n2,2,w2),(n1,1,w1),lsT (r,ns,ds) p]∧n1<ns.length∧(gn ns (lsT (r,ns,ds) p).1).1=(f:Int)∧f≤4294967295∧Pv (r,unl (f*256+4) (delK ns (f:Int)),ds)∧tbOK (r,unl (f*256+4) (delK ns (f:Int)),ds) ∧
   wlk (Mof (unl (f*256+4) (delK ns (f:Int)))) r p=(g1,1,0)∧setN (unl (f*256+4) (delK ns (f:Int))) (lsT (r,unl (f*256+4) (delK ns (f:Int)),ds) p).1 (dgt p 1) w=asN (r,ns,ds) p w ∧
   (setN ns n1 (dgt p 1) w).take (lsT (r,ns,ds) p).1++(setN ns n1 (dgt p 1) w).drop ((lsT (r,ns,ds) p).1+1)=asN (r,ns,ds) p w ∧
   asN (r,ns,ds) p w=delK (setN ns n1 (dgt p 1) w) (f:Int):=by
 obtain ⟨g,l,w0,hw⟩:∃ f l w,wlk (Mof ns) r p=(f,l,w):=⟨_,_,_,rfl⟩
 obtain ⟨e1,e2,e3,e4,e5⟩:=end_nd h hp hw
 obtain rfl:l=0:=by rw [e2] at hl;exact hl
 obtain ⟨n2,w2,n1,w1,g1,g0,hpt,q2,q1,q0,f1,f0⟩:=path_f0 h hp hl
 obtain rfl:g0=g:=by
  have k1:=fnd_frame q0
  have k2:=fnd_frame e1
  rw [← k1,k2]
 have hlf:∀ j,j<8→tabW (wM (Mof ns) g0 j)=none:=fun j hj=>by
  obtain ⟨ws,m1,m2,m3⟩:=h.vm.nd 2 (p/8) (Pos2 (by omega)) g0 f0
  have:=m3 j hj
  have h1:=(WD_ok fun _=>true).flat _ this
  unfold wM
  rw [m1]
  exact h1
 obtain ⟨f,k,c1,c2,c3,c4,c5,c6,c7,c8,c9,c10,c11⟩:=round h ht hp hw (by omega) hlf
 have hfg:f=g1:=by
  rw [show 1 - 0=1 from rfl,show p/8^(0+2)=p/64 by simp,f1] at c1
  simpa using c1.symm
 subst hfg
 have hk:k=n1:=by
  rw [q1] at c3
  simpa using c3.symm
 subst hk
 obtain ⟨fn,rfl⟩:=Int.eq_ofNat_of_zero_le c5
 simp only [Int.toNat_natCast,Nat.zero_add] at c7 c8 c9 c10 c11
 have hkl:=fnd_lt c3
 have hn0:(lsT (r,ns,ds) p).1<ns.length:=e5
 have hsa:=setN_asc h.asc (i:=dgt p 1) (w:=w) hkl
 have hN:asN (r,ns,ds) p w=(setN ns k (dgt p 1) w).take (lsT (r,ns,ds) p).1++(setN ns k (dgt p 1) w).drop ((lsT (r,ns,ds) p).1+1):=by
  unfold asN
  rw [hpt]
  rfl
 have hfr:(gn (setN ns k (dgt p 1) w) (lsT (r,ns,ds) p).1).1=(fn:Int):=by
  rw [gn_setN hkl]
  split
  ·rename_i e
   exfalso
   apply c4
   have k1:=fnd_frame c3
   have k2:=fnd_frame e1
   rw [← k1,← k2,e]
  ·exact e3
 have hD:asN (r,ns,ds) p w=delK (setN ns k (dgt p 1) w) (fn:Int):=by
  have:=td_del (l:=setN ns k (dgt p 1) w) hsa (i:=(lsT (r,ns,ds) p).1) (by rw [setN_len];exact hn0)
  rw [hN,this,← hfr,gn_eq (by rw [setN_len];exact hn0)]
 obtain ⟨d1,d2,d3,d4,d5⟩:=end_nd c8 hp c10
 refine ⟨n2,w2,k,w1,f,fn,hpt,hkl,e3,by omega,c8,c9,c10,?_,hN.symm,hD⟩
 rw [hD]
 refine ext_asc (setN_asc c8.asc d5) (delK_asc hsa) fun x=>?_
 rw [Mof_set c8.asc d1,Mof_del hsa,c7,show Mof (setN ns k (dgt p 1) w)=updW (Mof ns) f (dgt p 1) w from Mof_ext (Mof_set h.asc c3)]
 unfold updM1 updW
 by_cases x1:x=f
 ·subst x1
  simp only [if_true,if_neg c4,Option.map_map]
  congr 1
  funext l
  simp
 ·by_cases x2:x=(fn:Int)
  ·simp [x2]
   try exact fun h=>absurd h.symm c4
  ·simp [x1,x2]
theorem joinR_ok {ws:List Nat} (h8:ws.length=8) (h:(joinR ws).2=0):∃ n:Nat,(joinR ws).1=(n:Int)∧n<2^64:=by
 unfold joinR joinL at h ⊢
 split at h
 ·rename_i hc
  rw [if_pos hc]
  have hall:=chain_0 (fun p hp hf=>by
   simp only [joinC,List.mem_cons,List.not_mem_nil,or_false] at hp
   rcases hp with rfl|rfl|rfl|rfl|rfl|rfl|rfl|rfl|rfl|rfl|rfl|rfl|rfl|rfl|rfl|rfl|rfl|rfl|rfl|rfl|rfl|rfl|rfl|rfl|rfl|rfl|rfl|rfl|rfl|rfl|rfl|rfl<;>first|(intro h;simp at h;done)|(have:=of_decide_eq_false hf;exact this)) hc
  have hk:=hall _ (by simp only [joinC];exact List.mem_cons_of_mem _ (List.mem_cons_of_mem _ (List.mem_cons_of_mem _ (List.mem_cons_of_mem _ (List.mem_cons_of_mem _ (List.mem_cons_of_mem _ (List.mem_cons_of_mem _ (List.mem_cons_of_mem _ (List.mem_cons_self ..)))))))))
  simp only [Bool.and_eq_true,decide_eq_true_eq] at hk
  obtain ⟨hk1,_⟩:=hk
  rw [hk1] at h ⊢
  have hr:=decR_rng (ws.getD 0 0)
  obtain ⟨E,hE⟩:∃ E,E=decR (ws.getD 0 0):=⟨_,rfl⟩
  rw [← hE] at h hr ⊢
  obtain ⟨a,ha⟩:∃ a:Bool,a=(E.1.2.2.2.1||E.1.2.2.2.1||(decR (ws.getD 1 0)).1.2.2.2.1||(decR (ws.getD 2 0)).1.2.2.2.1||(decR (ws.getD 3 0)).1.2.2.2.1||(decR (ws.getD 4 0)).1.2.2.2.1||(decR (ws.getD 5 0)).1.2.2.2.1||(decR (ws.getD 6 0)).1.2.2.2.1||(decR (ws.getD 7 0)).1.2.2.2.1):=⟨_,rfl⟩
  obtain ⟨d,hd⟩:∃ a:Bool,a=(E.1.2.2.2.2.1||E.1.2.2.2.2.1||(decR (ws.getD 1 0)).1.2.2.2.2.1||(decR (ws.getD 2 0)).1.2.2.2.2.1||(decR (ws.getD 3 0)).1.2.2.2.2.1||(decR (ws.getD 4 0)).1.2.2.2.2.1||(decR (ws.getD 5 0)).1.2.2.2.2.1||(decR (ws.getD 6 0)).1.2.2.2.2.1||(decR (ws.getD 7 0)).1.2.2.2.2.1):=⟨_,rfl⟩
  rw [← ha,← hd] at h ⊢
  by_cases hb:badF (1,E.1.2.1,E.1.2.2.1,a,d,true)
  ·rw [encR_f (by simp) hb] at h;simp at h
  ·obtain ⟨n,h1,h2,_⟩:=decR_enc (k:=1) (f:=E.1.2.1) (d:=E.1.2.2.1) (a:=a) (x:=d) (h:=true) (by decide) hr hb rfl
   rw [h1]
   exact ⟨n,rfl,h2⟩
 ·rename_i hc
  exact absurd h hc
end Go.AM
namespace Go.AM
open Go Go.Proofs
theorem callDelN {b v i j:Nat} {l:List Nd} {fl:Bool} (hi:i≤j∧j≤l.length∧l.length≤1000000) (M:Nat→AO) (nid:Nat) (hb:M b=.vec v 9 fl (nrows l)) :
  callM false nine9 FDelN [.sl b v 9 0 l.length,I i,I j] M nid=some (.sl nid 1 9 0 (l.length - (j - i)),[(nid,.vec 1 9 false (nrows (l.take i++l.drop j))),(b,.dead)]):=by
 have hF:=FDelN_at l i j hi
 have e1:min i l.length+(l.length - j)=l.length - (j - i):=by omega
 simp [callM,giveArg,takeArg,hb,hF,List.take_of_length_le,e1]
set_option maxHeartbeats 16000000 in
theorem s66 (X:AX) (hX:XOK Tryz.prog X) (hw:X.W wT)
  (hck:∀ t:Tb,tbOK t→∀ (n lim:Int) M k,X.call 109 [TbV t,I n,I lim] M k=some (I (ckd t n lim),[]))
  (hpa:∀ (t:Tb) (p:Nat),ptO t p→∀ M n,X.call 137 [TbV t,I p] M n=some (.sl n 1 3 0 (ptL t p).length,[(n,.vec 1 3 false (srows (ptL t p)))]))
  (hdg:∀ (p l:Nat),p<512→l≤2→∀ M n,X.call 139 [I p,I l] M n=some (I (dgt p l),[]))
  (hcl:∀ t:Tb,tbOK t→∀ M n,X.call 128 [TbV t] M n=some (TbC t n,[(n,.vec 1 9 false (nrows t.2.1)),(n+1,.vec 1 2 false (prows t.2.2))]))
  (hjo:∀ ws:List Nat,ws.length=8→(∀ w∈ws,w<2^64)→∀ M n,X.call 152 [.agg (wcs ws)] M n=some (.tup [U (joinR ws).1,I (joinR ws).2],[]))
  (hde:X.call 153=callM false nine9 FDelN) (hdp:X.call 135=callG dpS) :
  PSound Tryz.prog 66 (specF (ι:={x:Tb×Int // tbOK x.1∧x.1.2.1.length≤999000}) (fun x=>[TbV x.1.1,I x.1.2]) fun x=>retOf [TbO (asmP x.1.1 x.1.2).1,I (asmP x.1.1 x.1.2).2]):=by
 refine psound_spec hX mixed Tryz.func66 rfl fun ⟨⟨⟨r,ns,ds⟩,pI⟩,ht,hl9⟩ w0 G=>⟨by show 2≤79;decide,rfl,?_⟩
 show AW ⟨Tryz.prog,X,79,w0,.pure G⟩ _ _ _
 have hc:Cx.OK ⟨Tryz.prog,X,79,w0,.pure G⟩:=⟨hX,mixed⟩
 simp only at hl9 ht ⊢
 have hck':=hck _ ht pI 64
 have hl1:ns.length≤1000000:=ht.2.1
 have hl2:ds.length≤1000000:=ht.2.2
 rcases Decidable.em (ckd (r,ns,ds) pI 64≠0) with hk|hk
 ·have e:asmP (r,ns,ds) pI=(zT,ckd (r,ns,ds) pI 64):=by unfold asmP;rw [if_pos hk]
  rw [e]
  obtain ⟨c,hc0⟩:∃ c,c=ckd (r,ns,ds) pI 64:=⟨_,rfl⟩
  rw [← hc0] at hck' hk ⊢
  simp only [TbV,TbO,zT] at hck' ⊢
  have zS:=jj hck'<|hk
  refine dM64 ?_
  repeat (intro K hK)
  clear zS
  refine ⟨by simp,?_⟩
  simp [leaves_iff,Tryz.f66,nrows,prows]
  try exact dt
 ·obtain ⟨hpv,hp0,hp1⟩:=ckd_pt ht hk
  have hvt:=ckd_vt ht hk
  obtain ⟨g,rfl⟩:=Int.eq_ofNat_of_zero_le hp0
  have hg:g<64:=by omega
  obtain ⟨p,hpg⟩:∃ p,p=g*8:=⟨_,rfl⟩
  have hp:p<512:=by omega
  have hz:ckd (r,ns,ds) g 64=0:=by omega
  rw [hz] at hck'
  have hpa':=hpa _ _ (hpv.pto ht hp)
  have hgm:(g:Int)*8=(p:Int):=by omega
  have eS:asmP (r,ns,ds) g=if (lsT (r,ns,ds) p).2.1≠0 then (zT,6)
    else if (joinR (gn ns (lsT (r,ns,ds) p).1).2).2≠0 then (zT,(joinR (gn ns (lsT (r,ns,ds) p).1).2).2)
    else ((r,asN (r,ns,ds) p (joinR (gn ns (lsT (r,ns,ds) p).1).2).1.toNat,insK ds ((g:Int),(gn ns (lsT (r,ns,ds) p).1).1)),0):=by
   unfold asmP
   rw [if_neg hk,Int.toNat_natCast,← hpg]
  rw [eS]
  clear eS
  rcases Decidable.em ((lsT (r,ns,ds) p).2.1=0) with hl0|hl0
  ·rw [if_neg (by simp [hl0])]
   obtain ⟨f00,l00,w00,hwk⟩:∃ f l w,wlk (Mof ns) r p=(f,l,w):=⟨_,_,_,rfl⟩
   have hgab:∀ d∈ds,d.1≠(g:Int):=grp_abs hvt hg (by
    rw [← hpg]
    cases hh:(decR (lsT (r,ns,ds) p).2.2).1.2.2.2.2.2 with
    | false=>rfl
    | true =>
     have h1:=(hpv.walk hp).2.2
     simp only at h1
     rw [hwk] at h1
     rw [h1] at hh hl0
     simp only at hh hl0
     have:=(hug_lev hpv.vm hp hwk hh).1
     omega)
   have hlt:=(lsT_lt hpv hp).1
   simp only at hlt
   have h8:=(ht.1 _ (gn_mem hlt)).1
   have h64:=(ht.1 _ (gn_mem hlt)).2
   have hjo':=hjo _ h8 h64
   obtain ⟨n2,w2,n1,w1,g1,f,a1,a2,a3,a4,_,_,_,_,_,_⟩:=asm_eq hpv ht hp hl0 0
   obtain ⟨J,hJ⟩:∃ J,J=joinR (gn ns (lsT (r,ns,ds) p).1).2:=⟨_,rfl⟩
   have hJok:=@joinR_ok (gn ns (lsT (r,ns,ds) p).1).2 h8
   rw [← hJ] at hjo' hJok ⊢
   obtain ⟨jw,je⟩:=J
   simp only at hjo' hJok ⊢
   rw [a1] at hpa'
   have hgn:=nrows_gi hlt
   have hgnE:=nrows_gE hlt
   have hwl:(wcs (gn ns (lsT (r,ns,ds) p).1).2).length=8:=by simp [h8]
   have hcl':=hcl _ ht
   have hdg':=hdg p 1 hp (by omega)
   rw [show ((1:Nat):Int)=1 from rfl] at hdg'
   have hdl:=dgt_lt p 1
   have hdI:((dgt p 1:Nat):Int)<8:=by omega
   have hlI:(((lsT (r,ns,ds) p).1:Nat):Int)<(ns.length:Int):=by omega
   have hn1I:(n1:Int)<(ns.length:Int):=by omega
   rcases Decidable.em (je=0) with hje|hje
   ·subst hje
    rw [if_neg (by simp)]
    obtain ⟨w,hw1,hw64⟩:=hJok rfl
    subst hw1
    rw [Int.toNat_natCast]
    obtain ⟨n2',w2',n1',w1',g1',f',b1,b2,b3,b4,b5,b6,b7,b8,b9,b10⟩:=asm_eq hpv ht hp hl0 w
    obtain ⟨rfl,rfl,rfl,rfl⟩:n2'=n2∧w2'=w2∧n1'=n1∧w1'=w1:=by
     rw [a1] at b1
     simp only [List.cons.injEq,Prod.mk.injEq,true_and,and_true] at b1
     obtain ⟨⟨h1,h2⟩,h3,h4⟩:=b1
     exact ⟨h1.symm,h2.symm,h3.symm,h4.symm⟩
    have hgn1:=nrows_gi a2
    have hgn1E:=nrows_gE a2
    have h81:=(ht.1 _ (gn_mem a2)).1
    have hset:=@nrows_setN ns n1' (dgt p 1) w a2
    have hwl1:(wcs (gn ns n1').2).length=8:=by simp [h81]
    have hsl:(setN ns n1' (dgt p 1) w).length=ns.length:=setN_len
    have hde':=fun (b:Nat) M nid h=>@callDelN b 1 (lsT (r,ns,ds) p).1 ((lsT (r,ns,ds) p).1+1) (setN ns n1' (dgt p 1) w) false ⟨by omega,by rw [hsl];omega,by rw [hsl];exact hl1⟩ M nid h
    rw [← hde,b9,hsl,show (lsT (r,ns,ds) p).1+1 - (lsT (r,ns,ds) p).1=1 by omega,show (((lsT (r,ns,ds) p).1+1:Nat):Int)=(((lsT (r,ns,ds) p).1:Nat):Int)+1 by omega] at hde'
    have hAl:(asN (r,ns,ds) p w).length=ns.length - 1:=by
     rw [← b9]
     simp only [List.length_append,List.length_take,List.length_drop,hsl]
     omega
    have htA:tbOK (r,asN (r,ns,ds) p w,ds):=⟨by rw [b10];exact delK_ok (setN_ok ht.1 hw64 a2),by show (asN (r,ns,ds) p w).length≤_;omega,hl2⟩
    have hdp':=fun M nid=>@callDp 656 1072 641 (by decide) (by decide) (by decide) r (asN (r,ns,ds) p w) ds (g:Int) (f:Int) htA hvt.num.dasc 0 0 M nid
    rw [← hdp,hAl,insL_eq hvt.num.dasc hgab] at hdp'
    rw [a3] at hgn hgnE ⊢
    obtain ⟨R,hR⟩:∃ R,R=setN ns n1' (dgt p 1) w:=⟨_,rfl⟩
    rw [← hR] at hset hde' hsl
    obtain ⟨A,hA⟩:∃ A,A=asN (r,ns,ds) p w:=⟨_,rfl⟩
    rw [← hA] at hde' hdp' hAl ⊢
    obtain ⟨⟨n0,l0,w0⟩,hS⟩:∃ S,S=lsT (r,ns,ds) p:=⟨_,rfl⟩
    rw [← hS] at hpa' hjo' hgn hgnE hwl hlt hlI hl0 hde'
    simp only at hpa' hjo' hgn hgnE hwl hlt hlI hl0 hde' ⊢
    subst hl0
    obtain ⟨⟨fr0,ws0⟩,hm0⟩:∃ m,m=gn ns n0:=⟨_,rfl⟩
    rw [← hm0] at hgn hgnE hwl hjo'
    simp only at hgn hgnE hwl hjo'
    have hcx:∀ x,x∈wcs ws0→AV.isClosed x=true:=fun a ha=>by
     obtain ⟨w,_,rfl⟩:=List.mem_map.1 ha
     rfl
    obtain ⟨cs0,hcs0⟩:∃ cs,cs=wcs ws0:=⟨_,rfl⟩
    rw [← hcs0] at hgn hgnE hwl hjo' hcx
    simp only [AV.isClosed] at hcx
    have htk0:List.take 8 cs0=cs0:=List.take_of_length_le (by omega)
    obtain ⟨⟨fr1,ws1⟩,hm1⟩:∃ m,m=gn ns n1':=⟨_,rfl⟩
    rw [← hm1] at hgn1 hgn1E hwl1 hset
    simp only at hgn1 hgn1E hwl1 hset
    obtain ⟨cs1,hcs1⟩:∃ cs,cs=wcs ws1:=⟨_,rfl⟩
    rw [← hcs1] at hgn1 hgn1E hwl1 hset
    obtain ⟨dg,hdg0⟩:∃ dg,dg=dgt p 1:=⟨_,rfl⟩
    rw [← hdg0] at hdl hdI hdg' hset
    have hs1:∀ w:Int,(I fr1::cs1).set (1+dg) (AV.v (.int .u64 w))=I fr1::cs1.set dg (AV.v (.int .u64 w)):=fun w=>by rw [Nat.add_comm];rfl
    have hil:=@insK_len _ ((g:Int),(f:Int)) ds
    have tkR:List.take (ns.length - 1) (nrows A)=nrows A:=List.take_of_length_le (by simp;omega)
    have tkd:List.take (ds.length+1) (prows (insK ds ((g:Int),(f:Int))))=prows (insK ds ((g:Int),(f:Int))):=List.take_of_length_le (by simp;omega)
    clear hcs0 hm0 hcs1 hm1 hdg0 hS hA hR hJ h8 h64 h81 b1 b2 b3 b5 b6 b7 b8 b9 b10 a1 htA
    simp only [TbV,TbO,TbC,U,srows,srow,List.map_cons,List.map_nil,List.length_cons,List.length_nil,Nat.zero_add,Nat.reduceAdd] at hck' hpa' hjo' hcl' hset hde' hdp' ⊢
    have zS:=jj hck'<|jj hgm<|jj hpa'<|jj hlt<|jj hlI<|jj hgn<|jj hgnE<|jj hwl<|jj hcx<|jj htk0<|jj hjo'<|jj hcl'<|jj a2<|jj hn1I<|jj hgn1<|jj hgn1E<|jj hwl1<|jj hdg'<|jj hdl<|jj hdI<|jj hset<|jj hs1<|jj hsl<|jj hde'<|hdp'
    refine dF64 ?_
    repeat (intro K hK)
    clear zS
    refine ⟨by simp,?_⟩
    simp [leaves_iff,Tryz.f66,hAl,hil,tkR,tkd]
    try exact dt
   ·rw [if_pos hje]
    obtain ⟨⟨n0,l0,w0⟩,hS⟩:∃ S,S=lsT (r,ns,ds) p:=⟨_,rfl⟩
    rw [← hS] at hpa' hjo' hgn hgnE hwl hlt hlI hl0
    simp only at hpa' hjo' hgn hgnE hwl hlt hlI hl0 ⊢
    subst hl0
    obtain ⟨⟨fr0,ws0⟩,hm0⟩:∃ m,m=gn ns n0:=⟨_,rfl⟩
    rw [← hm0] at hgn hgnE hwl hjo'
    simp only at hgn hgnE hwl hjo'
    have hcx:∀ x,x∈wcs ws0→AV.isClosed x=true:=fun a ha=>by
     obtain ⟨w,_,rfl⟩:=List.mem_map.1 ha
     rfl
    obtain ⟨cs0,hcs0⟩:∃ cs,cs=wcs ws0:=⟨_,rfl⟩
    rw [← hcs0] at hgn hgnE hwl hjo' hcx
    simp only [AV.isClosed] at hcx
    have htk0:List.take 8 cs0=cs0:=List.take_of_length_le (by omega)
    clear hcs0 hm0 hS hJ h8 h64 a1 hJok
    simp only [TbV,TbO,TbC,zT,U,srows,srow,List.map_cons,List.map_nil,List.length_cons,List.length_nil,Nat.zero_add,Nat.reduceAdd] at hck' hpa' hjo' ⊢
    have zS:=jj hck'<|jj hgm<|jj hpa'<|jj hlt<|jj hlI<|jj hgn<|jj hgnE<|jj hwl<|jj hcx<|jj htk0<|jj hjo'<|hje
    refine dF64 ?_
    repeat (intro K hK)
    clear zS
    refine ⟨by simp,?_⟩
    simp [leaves_iff,Tryz.f66,nrows,prows]
    try exact dt
  ·rw [if_pos hl0]
   have hlen:((ptL (r,ns,ds) p).length:Int)=3↔False:=by
    rcases (by have:=(lsT_lt hpv hp).2;omega:(lsT (r,ns,ds) p).2.1=1∨(lsT (r,ns,ds) p).2.1=2) with h1|h1
    ·obtain ⟨_,_,_,h2⟩:=path_1 hpv hp h1
     rw [h2];simp
    ·have h2:=path_2 hpv hp h1
     rw [h2];simp
   have hlenN:(ptL (r,ns,ds) p).length=3↔False:=⟨fun h=>hlen.1 (by omega),False.elim⟩
   obtain ⟨L,hL⟩:∃ L,L=ptL (r,ns,ds) p:=⟨_,rfl⟩
   rw [← hL] at hpa' hlen hlenN
   simp only [TbV,TbO,zT] at hck' hpa' ⊢
   have zS:=jj hck'<|jj hgm<|jj hpa'<|jj hlen<|hlenN
   refine dF64 ?_
   repeat (intro K hK)
   clear zS
   refine ⟨by simp,?_⟩
   simp [leaves_iff,Tryz.f66,nrows,prows]
   try exact dt
end Go.AM
namespace Go.AM
open Go Go.Proofs
set_option maxRecDepth 4000
noncomputable abbrev Tfp0:AX:=TeB
theorem tfp0:XOK Tryz.prog Tfp0:=teB
noncomputable def Tfp1:AX:=Tfp0.add 153 (callM false nine9 FDelN)
theorem tfp1:XOK Tryz.prog Tfp1:=xok_putM tfp0 (by kernel_rfl) (.inl ⟨((s153 Tfp0 tfp0 w0T).callM fun _ _ _ _ h=>FDelN_flat h),body_ok _ Tryz.func153 (by kernel_rfl)⟩) fun _ _ _ _ h=>callM_keys h
theorem peek_w {M:Nat→AO}:∀ {ws:List Nat},peekLeaves M (wcs ws)=some (wcs ws)
 | []=>rfl
 | w::ws=>by
  have ih:=peek_w (M:=M) (ws:=ws)
  show (match peekLeaf M (U w),peekLeaves M (wcs ws) with
   | some x,some xs=>some (x::xs)
   | _,_=>none)=_
  rw [ih];rfl
theorem peek_ws {M:Nat→AO} {ws:List Nat}:peekVals M [.agg (wcs ws)]=some [.agg (wcs ws)]:=by
 simp [peekVals,peekVal,peek_w]
noncomputable def JoF:List AV→Option AV:=specF (ι:={ws:List Nat // ws.length=8∧∀ w∈ws,w<2^64}) (fun x=>[.agg (wcs x.1)]) fun x=>retOf [U (joinR x.1).1,I (joinR x.1).2]
theorem cJo (ws:List Nat) (h8:ws.length=8) (h64:∀ w∈ws,w<2^64) (M:Nat→AO) (n:Nat):callP JoF [.agg (wcs ws)] M n=some (.tup [U (joinR ws).1,I (joinR ws).2],[]):=by
 refine callP_spec (ι:={ws:List Nat // ws.length=8∧∀ w∈ws,w<2^64}) (A:=fun x=>[.agg (wcs x.1)]) (R:=fun x=>retOf [U (joinR x.1).1,I (joinR x.1).2]) ⟨ws,h8,h64⟩ ?_ ?_ (by simp [U])
 ·exact peek_ws
 ·rintro ⟨ws',h'⟩ e
  simp only [List.cons.injEq,AV.agg.injEq,wcs_inj,and_true] at e
  subst e;rfl
noncomputable def Tfp2:AX:=Tfp1.add 152 (callP JoF)
theorem tfp2:XOK Tryz.prog Tfp2:=xok_spec tfp1 (s152 Tfp1 tfp1 w0T (fun n h M k=>cDe n h M k) (fun k f d a x h M n=>cEn k f d a x h M n)) (fun _=>by simp [retOf,AV.flat,AV.flatV,AV.flat1,U]) Tryz.func152 (by kernel_rfl)
noncomputable def AsF:List AV→Option AV:=specF (ι:={x:Tb×Int // tbOK x.1∧x.1.2.1.length≤999000}) (fun x=>[TbV x.1.1,I x.1.2]) fun x=>retOf [TbO (asmP x.1.1 x.1.2).1,I (asmP x.1.1 x.1.2).2]
noncomputable def Tfp3:AX:=Tfp2.add 66 (callP AsF)
theorem tfp3:XOK Tryz.prog Tfp3:=xok_spec tfp2 (s66 Tfp2 tfp2 w0T (fun t h n lim M k=>cCk t h n lim M k) (fun t p h M n=>cPa t p h M n) (fun p l h1 h2 M n=>cDgt p l h1 h2 M n) (fun t h M n=>cCl t h M n) (fun ws h8 h64 M n=>cJo ws h8 h64 M n) rfl rfl) (fun x=>tabO_fl) Tryz.func66 (by kernel_rfl)
noncomputable abbrev TeCp:AX:=Tfp3
theorem teCp:XOK Tryz.prog TeCp:=tfp3
theorem cSp (t:Tb) (g:Int) (ht:tbOK t) (hl:t.2.1.length≤999000) (M:Nat→AO) (n:Nat):callP SpF [TbV t,I g] M n=some (.tup [TbC (splP t g).1 n,I (splP t g).2],outT (splP t g).1 n) :=
 cT2 (D:=fun t _=>tbOK t∧t.2.1.length≤999000) (R:=fun t x=>retOf [TbO (splP t x).1,I (splP t x).2]) ⟨ht,hl⟩ M n open_tab (by omega)
theorem lawP2p:LawP TeCp:=⟨teCp,w0T,fun t M n=>cFew t M n,fun M n=>cAw M n,fun t h=>samO rfl h,fun l h=>eqiO rfl h,fun l h=>eqpO rfl h⟩
end Go.AM
namespace Go.AM
open Go Go.Proofs
section
variable {M M':Mm} {root:Int} {p p':Nat}
theorem frP1 (hp:p<512):frP WA M root 1 (p/64)=tabW (wM M root (p/64)):=by
 simp only [frP,Option.bind_some]
 rw [show p/64%8=p/64 by omega];rfl
theorem frP2:frP WA M root 2 (p/8)=(frP WA M root 1 (p/64)).bind fun f=>tabW (wM M f (p/8%8)):=by
 show (frP WA M root 1 (p/8/8)).bind _=_
 rw [show p/8/8=p/64 by omega]
 rfl
theorem posL (hp:p<512) {l:Nat} (hl:l≤2):(2 - l,p/8^(l+1))∈Pos:=by
 rcases (by omega:l=0∨l=1∨l=2) with rfl|rfl|rfl<;>rw [mem_Pos]<;>simp<;>omega
theorem wlk_same (hp:p<512) (h:∀ l,l≤2→∀ f,frP WA M root (2 - l) (p/8^(l+1))=some f→wM M' f (dgt p l)=wM M f (dgt p l)):wlk M' root p=wlk M root p:=by
 have h2:wM M' root (p/64)=wM M root (p/64):=by
  have:=h 2 (by omega) root rfl
  rwa [dgt2 hp] at this
 have h1:∀ f,frP WA M root 1 (p/64)=some f→wM M' f (p/8%8)=wM M f (p/8%8):=fun f hf=>by
  have:=h 1 (by omega) f (by rw [show p/8^(1+1)=p/64 by simp];exact hf)
  rwa [dgt1] at this
 have h0:∀ f,frP WA M root 2 (p/8)=some f→wM M' f (p%8)=wM M f (p%8):=fun f hf=>by
  have:=h 0 (by omega) f (by rw [show p/8^(0+1)=p/8 by simp];exact hf)
  rwa [dgt0] at this
 have e1:frP WA M' root 1 (p/64)=frP WA M root 1 (p/64):=by rw [frP1 hp,frP1 hp,h2]
 have e2:frP WA M' root 2 (p/8)=frP WA M root 2 (p/8):=by
  rw [frP2,frP2,e1]
  cases hx:frP WA M root 1 (p/64) with
  | none=>rfl
  | some f=>simp only [Option.bind_some];rw [h1 f hx]
 unfold wlk
 rw [e2,e1]
 cases hx:frP WA M root 2 (p/8) with
 | some f=>simp only;rw [h0 f hx]
 | none =>
  simp only
  cases hy:frP WA M root 1 (p/64) with
  | some f=>simp only;rw [h1 f hy]
  | none=>simp only;rw [h2]
theorem cell_ne {l:Nat} (h1:p'/8^(l+1)=p/8^(l+1)) (hd:dgt p' l=dgt p l):p'/8^l=p/8^l:=by
 unfold dgt at hd
 rw [Nat.pow_succ,← Nat.div_div_eq_div_mul,← Nat.div_div_eq_div_mul] at h1
 omega
theorem wlk_put_ne (hV:VM WA M root) (hp:p<512) {f:Int} {l w0 w:Nat} (hw:wlk M root p=(f,l,w0)) (hM:M'=updW M f (dgt p l) w) (hp':p'<512) (hne:p'/8^l≠p/8^l):wlk M' root p'=wlk M root p':=by
 obtain ⟨a1,a2,a3,a4,a5,a6⟩:=wlk_at hV hp hw
 obtain ⟨ws,c1,c2,_⟩:=hV.nd _ _ a2 f a3
 refine wlk_same hp' fun l' hl' f' hf'=>?_
 rw [hM,wM_updW c1 (by have:=dgt_lt p l;omega),if_neg]
 rintro ⟨rfl,hd⟩
 obtain ⟨i1,i2⟩:=hV.inj _ _ _ _ (posL hp' hl') a2 _ hf' a3
 obtain rfl:l'=l:=by omega
 exact hne (cell_ne i2 hd)
theorem wlk_grow_ne (hV:VM WA M root) (hp:p<512) {f:Int} {l w x:Nat} {g:Int} (hw:wlk M root p=(f,l,w)) (hg:M g=none) (hM:M'=updM1 (updW M f (dgt p l) x) g (some zs8)) (hp':p'<512) (hne:p'/8^l≠p/8^l):wlk M' root p'=wlk M root p':=by
 obtain ⟨a1,a2,a3,a4,a5,a6⟩:=wlk_at hV hp hw
 obtain ⟨ws,c1,c2,_⟩:=hV.nd _ _ a2 f a3
 refine wlk_same hp' fun l' hl' f' hf'=>?_
 obtain ⟨ws',c1',_⟩:=hV.nd _ _ (posL hp' hl') f' hf'
 rw [hM,wM_updM1,if_neg (by rintro rfl;rw [hg] at c1';cases c1'),wM_updW c1 (by have:=dgt_lt p l;omega),if_neg]
 rintro ⟨rfl,hd⟩
 obtain ⟨i1,i2⟩:=hV.inj _ _ _ _ (posL hp' hl') a2 _ hf' a3
 obtain rfl:l'=l:=by omega
 exact hne (cell_ne i2 hd)
theorem hugW_tab {x:Nat} {f:Int} (h:tabW x=some f):hugW x=false:=by
 obtain ⟨h1,h2,h3⟩:=tabW_inv h
 unfold hugW
 rw [h3,decR_tw (by omega)]
 rfl
theorem hugB_wlk (hV:VM WA M root) {g:Nat} (hg:g<64) {f:Int} {l w:Nat} (hw:wlk M root (g*8)=(f,l,w)):hugB M root g=(decide (l=1)&&hugW w):=by
 have hp:g*8<512:=by omega
 obtain ⟨a1,a2,a3,a4,a5,a6⟩:=wlk_at hV hp hw
 have e1:g*8/64=g/8:=by omega
 have e2:g*8/8=g:=by omega
 rcases (by omega:l=0∨l=1∨l=2) with rfl|rfl|rfl
 ·rw [show g*8/8^(0+1)=g*8/8 by simp] at a3
  have a3':frP WA M root 2 (g*8/8)=some f:=a3
  rw [frP2,e1,e2] at a3'
  unfold hugB
  cases hx:frP WA M root 1 (g/8) with
  | none=>rfl
  | some f1 =>
   rw [hx] at a3'
   simp only [Option.bind_some] at a3'
   simp only
   rw [hugW_tab a3'];rfl
 ·rw [show g*8/8^(1+1)=g*8/64 by simp,e1] at a3
  have a3':frP WA M root 1 (g/8)=some f:=a3
  rw [dgt1,e2] at a4
  unfold hugB
  rw [a3']
  simp only
  rw [← a4];simp
 ·have a3':frP WA M root 0 (g*8/8^(2+1))=some f:=a3
  simp only [frP,Option.some.injEq] at a3'
  subst a3'
  rw [dgt2 hp] at a4
  have:frP WA M root 1 (g/8)=none:=by rw [← e1,frP1 hp,← a4,a5]
  unfold hugB
  rw [this];rfl
end
theorem spl_map {r:Int} {ns:NdL} {ds:List Dp} (hv:Vt (r,ns,ds)) (ht:tbOK (r,ns,ds)) (hl9:ns.length≤999000) {g p:Nat} (hg:g<64) (hpg:p=g*8) {f0:Int} {w:Nat} (hw:wlk (Mof ns) r p=(f0,1,w)) (hh:(decR w).1.2.2.2.2.2=true) :
    ∃ F:Nat,(gp ds (lowD ds g)).2=F∧F≤4294967295∧(∀ n∈ns,n.1≠(F:Int))∧lowD ds g<ds.length ∧
      (let S:=spN r ds p w (spB (r,ns,ds) p (gp ds (lowD ds g)).2) 8
       Pv (r,S,ds)∧tbOK (r,S,ds)∧S.length=ns.length+1∧(∀ i,i<8→wlk (Mof S) r (p+i)=((F:Int),0,spW w i)) ∧
       (Mof S=updM1 (updW (Mof ns) f0 (dgt p 1) (F*256+4)) F (some ((List.range 8).map (spW w)))) ∧
       ∀ p',p'<512→p'/8≠g→wlk (Mof S) r p'=wlk (Mof ns) r p'):=by
  have hpv:=hv.pv
  have hp:p<512:=by omega
  obtain ⟨s0,s1,⟨F,sF,sF2,sC⟩,s4⟩:=split_steps hv ht hl9 hg hpg hw hh
  simp only at s4
  obtain ⟨s5,s6⟩:=s4
  have hfn:∀ n∈ns,n.1≠(F:Int):=fun n hn=>by rw [← sF];exact hv.num.apart _ (gp_mem s1) n hn
  obtain ⟨c1,c2,c3,c4,c5⟩:=hpv.put ht hp hw (w:=0) (by omega) tab0 (ok0 1)
  have c6:=wlk_put_self hpv.vm hp hw (w:=0) tab0 c3 c4
  have hspB:spB (r,ns,ds) p (gp ds (lowD ds g)).2=stD r ds p (putT (r,ns,ds) p 0).2.1 F:=by unfold spB;rw [sF]
  have hfr1:∀ n∈(putT (r,ns,ds) p 0).2.1,n.1≠(F:Int):=setN_fr (lsT_lt hpv hp).1 hfn
  rw [hspB] at s5 s6 ⊢
  obtain ⟨N1,hN1⟩:∃ N1,N1=(putT (r,ns,ds) p 0).2.1:=⟨_,rfl⟩
  rw [← hN1] at c1 c2 c3 c4 c5 c6 hfr1 s5 s6 ⊢
  obtain ⟨d1,d2,d3,d4,d5,d6⟩:=c1.grow c2 hp sF2 hfr1 (l:=0) c6 (by omega)
  obtain ⟨e1,e2,e3,e4,e5⟩:=s6 8 (by omega)
  obtain ⟨N,hN⟩:∃ N,N=stD r ds p N1 F:=⟨_,rfl⟩
  rw [← hN] at d1 d2 d3 d4 d5 d6 s5 e1 e2 e3 e4 e5 ⊢
  have hM1:Mof N1 F=none:=(Mof_none c1.asc).2 hfr1
  have hpl:frP WA (Mof N) r 2 g=some (F:Int):=by
    have:=(wlk_at d1.vm hp d4).2.2.1
    simp only at this
    have e:p/8^(0+1)=g:=by simp;omega
    rw [e] at this;exact this
  rw [sF] at e4 e5
  refine ⟨F,sF,sF2,hfn,s1,e1,e2,by rw [e3,s5],fun i hi=>by have:=e4 i hi;rwa [if_pos hi] at this,?_,fun p' hp' hne=>?_⟩
  · rw [e5]
    funext x
    unfold updM1
    by_cases hx:x=(F:Int)
    · rw [if_pos hx,if_pos hx]
      congr 1
    · rw [if_neg hx,if_neg hx,d3]
      unfold updM1
      rw [if_neg hx,c3]
      unfold updW
      by_cases h0:x=f0
      · rw [if_pos h0,if_pos h0]
        cases Mof ns f0<;>simp [h0]
      · rw [if_neg h0,if_neg h0,if_neg h0]
  · have k1:p'/8^1≠p/8^1:=by simp;omega
    have w1:wlk (Mof N1) r p'=wlk (Mof ns) r p':=wlk_put_ne hpv.vm hp hw c3 hp' k1
    have w2:wlk (Mof N) r p'=wlk (Mof N1) r p':=wlk_grow_ne c1.vm hp c6 hM1 d3 hp' k1
    rw [← w1,← w2]
    refine wlk_same hp' fun l' hl' f' hf'=>?_
    rw [e5]
    unfold wM
    simp only
    rw [if_neg]
    rintro rfl
    obtain ⟨i1,i2⟩:=d1.vm.inj _ _ _ _ (posL hp' hl') (Pos2 hg) _ hf' hpl
    obtain rfl:l'=0:=by omega
    simp at i2
    exact hne i2
theorem pw_ne {α β:Type} {f:α→β}:∀ {l:List α},l.Pairwise (fun a b=>f a≠f b)→∀ a∈l,∀ b∈l,a≠b→f a≠f b
 | [],_,a,ha,_,_,_=>by simp at ha
 | x::l,h,a,ha,b,hb,e=>by
  rw [List.pairwise_cons] at h
  rcases List.mem_cons.1 ha with ea|ha'
  ·rcases List.mem_cons.1 hb with eb|hb'
   ·exact absurd (ea.trans eb.symm) e
   ·rw [ea];exact h.1 b hb'
  ·rcases List.mem_cons.1 hb with eb|hb'
   ·rw [eb];exact fun k=>h.1 a ha' k.symm
   ·exact pw_ne h.2 a ha' b hb' e
theorem spl_vt {r:Int} {ns:NdL} {ds:List Dp} (hv:Vt (r,ns,ds)) (ht:tbOK (r,ns,ds)) (hl9:ns.length≤999000) {g:Nat} (hg:g<64) {f0:Int} {w:Nat} (hw:wlk (Mof ns) r (g*8)=(f0,1,w)) (hh:(decR w).1.2.2.2.2.2=true) :
  Vt (splN (r,ns,ds) g w)∧tbOK (splN (r,ns,ds) g w)∧(gp ds (lowD ds g)).1=g∧(splN (r,ns,ds) g w).2.2=delK ds (g:Int):=by
 obtain ⟨F,h1,h2,h3,h4,h5,h6,h7,h8,h9,h10⟩:=spl_map hv ht hl9 hg rfl hw hh
 obtain ⟨s0,_⟩:=split_steps hv ht hl9 hg rfl hw hh
 have hgB:hugB (Mof ns) r g=true:=by
  rw [hugB_wlk hv.vm hg hw]
  unfold hugW
  rw [kind_huge s0 hh,hh];rfl
 have hgm:(g:Int)∈ds.map (·.1):=by
  have:=hv.dep
  simp only at this
  rw [this]
  exact mem_hugM.2 ⟨g,hg,rfl,hgB⟩
 obtain ⟨_,k2⟩:=lowD_key (ds:=ds) hv.num.dasc hgm
 have hdl:=(delL_eq hv.num.dasc h4 k2).1
 have hS:splN (r,ns,ds) g w=(r,spN r ds (g*8) w (spB (r,ns,ds) (g*8) (gp ds (lowD ds g)).2) 8,delK ds (g:Int)):=by unfold splN;rw [hdl]
 rw [hS]
 obtain ⟨S,hSS⟩:∃ S,S=spN r ds (g*8) w (spB (r,ns,ds) (g*8) (gp ds (lowD ds g)).2) 8:=⟨_,rfl⟩
 rw [← hSS] at h5 h6 h7 h8 h9 h10 ⊢
 have hfr:∀ n∈S,n.1=(F:Int)∨∃ m∈ns,m.1=n.1:=fun n hn=>by
  have e:=(mem_Mof h5.asc (f:=n.1) (ws:=n.2)).1 hn
  by_cases hx:n.1=(F:Int)
  ·exact .inl hx
  ·right
   rw [h9] at e
   unfold updM1 updW at e
   rw [if_neg hx] at e
   cases hm:Mof ns n.1 with
   | none =>
    split at e
    ·rename_i h0;rw [← h0,hm] at e;simp at e
    ·rw [hm] at e;simp at e
   | some ws=>exact ⟨(n.1,ws),(mem_Mof hv.num.asc).2 hm,rfl⟩
 refine ⟨⟨⟨fun n hn=>?_,fun d hd=>hv.num.df d (mem_delK.1 hd).1,h5.asc,delK_asc hv.num.dasc,fun d hd n hn=>?_,List.Pairwise.filter _ hv.num.once,?_⟩,h5.vm,?_⟩,⟨h6.1,h6.2.1,?_⟩,k2,rfl⟩
 ·rcases hfr n hn with e|⟨m,hm,e⟩
  ·rw [e];exact ⟨by omega,by omega⟩
  ·rw [← e];exact hv.num.fr m hm
 ·obtain ⟨d1,d2⟩:=mem_delK.1 hd
  rcases hfr n hn with e|⟨m,hm,e⟩
  ·rw [e,← h1]
   exact pw_ne (f:=fun d:Dp=>d.2) hv.num.once _ (gp_mem h4) _ d1 (fun k=>d2 (by rw [← k];exact k2))
  ·rw [← e];exact hv.num.apart d d1 m hm
 ·obtain ⟨ws,m1,_⟩:=h5.vm.nd 0 0 Pos0 r rfl
  exact ⟨(r,ws),(mem_Mof h5.asc).2 m1,rfl⟩
 ·have hd:=hv.dep
  simp only at hd ⊢
  have e1:(delK ds (g:Int)).map (·.1)=(ds.map (·.1)).filter fun x=>decide (x≠(g:Int)):=by
   unfold delK;rw [List.filter_map];rfl
  rw [e1,hd]
  unfold hugM
  rw [List.filter_map,List.filter_filter]
  congr 1
  refine List.filter_congr fun k hk=>?_
  have hk:=List.mem_range.1 hk
  simp only [Function.comp]
  by_cases e:k=g
  ·subst e
   have:=h8 0 (by omega)
   rw [Nat.add_zero] at this
   rw [hugB_wlk h5.vm hk this]
   simp
  ·obtain ⟨f',l',w',hwk⟩:∃ f l w,wlk (Mof ns) r (k*8)=(f,l,w):=⟨_,_,_,rfl⟩
   have hwk2:=h10 (k*8) (by omega) (by omega)
   rw [hwk] at hwk2
   rw [hugB_wlk h5.vm hk hwk2,hugB_wlk hv.vm hk hwk]
   have:decide ((k:Int)≠(g:Int))=true:=decide_eq_true (by omega)
   rw [this,Bool.true_and]
 ·have h:=ht.2.2
  simp only at h ⊢
  exact Nat.le_trans (List.length_filter_le _ _) h
end Go.AM
