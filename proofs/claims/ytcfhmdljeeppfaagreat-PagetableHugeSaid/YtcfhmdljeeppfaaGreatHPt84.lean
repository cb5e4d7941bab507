/- A part of the proof; no condition. -/
import Derived.Test.YtcfhmdljeeppfaaGreatHPt45
import Derived.Test.YtcfhmdljeeppfaaGreatHPt72
set_option linter.all false
set_option maxHeartbeats 64000000
namespace Go.AM
open Go Go.Proofs
@[simp] theorem tyE8:Types Tryz.prog 237=some ⟨.array 8 103,48,192,[.int .i64 0,.int .i64 0,.bool false,.bool false,.bool false,.bool false,.int .i64 0,.int .i64 0,.bool false,.bool false,.bool false,.bool false,.int .i64 0,.int .i64 0,.bool false,.bool false,.bool false,.bool false,.int .i64 0,.int .i64 0,.bool false,.bool false,.bool false,.bool false,.int .i64 0,.int .i64 0,.bool false,.bool false,.bool false,.bool false,.int .i64 0,.int .i64 0,.bool false,.bool false,.bool false,.bool false,.int .i64 0,.int .i64 0,.bool false,.bool false,.bool false,.bool false,.int .i64 0,.int .i64 0,.bool false,.bool false,.bool false,.bool false]⟩:=by kernel_rfl
def chain:List (Bool×Int)→Int
 | []=>0
 | (b,c)::r=>if b=true then chain r else c
theorem chain_0:∀ {l:List (Bool×Int)},(∀ p∈l,p.1=false→p.2≠0)→chain l=0→∀ p∈l,p.1=true
 | [],_,_,p,hp=>by simp at hp
 | (b,c)::r,h,h0,p,hp=>by
  cases b with
  | false =>
   simp only [chain,Bool.false_eq_true,if_false] at h0
   exact absurd h0 (h (false,c) (by simp) rfl)
  | true =>
   simp only [chain,if_true] at h0
   rcases List.mem_cons.1 hp with rfl|hp
   ·rfl
   ·exact chain_0 (fun q hq=>h q (by simp [hq])) h0 p hp
def joinC (e0 e1 e2 e3 e4 e5 e6 e7:En×Int):List (Bool×Int):=[(decide (e0.2=0),e0.2),(decide (e1.2=0),e1.2),(decide (e2.2=0),e2.2),(decide (e3.2=0),e3.2),(decide (e4.2=0),e4.2),(decide (e5.2=0),e5.2),(decide (e6.2=0),e6.2),(decide (e7.2=0),e7.2),(decide (e0.1.1=1)&&!e0.1.2.2.2.2.2,11),(decide (e1.1.1=1)&&!e1.1.2.2.2.2.2,11),(decide (e2.1.1=1)&&!e2.1.2.2.2.2.2,11),(decide (e3.1.1=1)&&!e3.1.2.2.2.2.2,11),(decide (e4.1.1=1)&&!e4.1.2.2.2.2.2,11),(decide (e5.1.1=1)&&!e5.1.2.2.2.2.2,11),(decide (e6.1.1=1)&&!e6.1.2.2.2.2.2,11),(decide (e7.1.1=1)&&!e7.1.2.2.2.2.2,11),(decide (e0.1.2.1=e0.1.2.1+0),10),(decide (e1.1.2.1=e0.1.2.1+1),10),(decide (e2.1.2.1=e0.1.2.1+2),10),(decide (e3.1.2.1=e0.1.2.1+3),10),(decide (e4.1.2.1=e0.1.2.1+4),10),(decide (e5.1.2.1=e0.1.2.1+5),10),(decide (e6.1.2.1=e0.1.2.1+6),10),(decide (e7.1.2.1=e0.1.2.1+7),10),(e0.1.2.2.1 == e0.1.2.2.1,12),(e1.1.2.2.1 == e0.1.2.2.1,12),(e2.1.2.2.1 == e0.1.2.2.1,12),(e3.1.2.2.1 == e0.1.2.2.1,12),(e4.1.2.2.1 == e0.1.2.2.1,12),(e5.1.2.2.1 == e0.1.2.2.1,12),(e6.1.2.2.1 == e0.1.2.2.1,12),(e7.1.2.2.1 == e0.1.2.2.1,12)]
noncomputable def joinL (e0 e1 e2 e3 e4 e5 e6 e7:En×Int):Int×Int:=if chain (joinC e0 e1 e2 e3 e4 e5 e6 e7)=0 then encR (e0.1.1,e0.1.2.1,e0.1.2.2.1,((((((((e0.1.2.2.2.1||e0.1.2.2.2.1)||e1.1.2.2.2.1)||e2.1.2.2.2.1)||e3.1.2.2.2.1)||e4.1.2.2.2.1)||e5.1.2.2.2.1)||e6.1.2.2.2.1)||e7.1.2.2.2.1),((((((((e0.1.2.2.2.2.1||e0.1.2.2.2.2.1)||e1.1.2.2.2.2.1)||e2.1.2.2.2.2.1)||e3.1.2.2.2.2.1)||e4.1.2.2.2.2.1)||e5.1.2.2.2.2.1)||e6.1.2.2.2.2.1)||e7.1.2.2.2.2.1),true) else (0,chain (joinC e0 e1 e2 e3 e4 e5 e6 e7))
noncomputable def joinR (ws:List Nat):Int×Int:=joinL (decR (ws.getD 0 0)) (decR (ws.getD 1 0)) (decR (ws.getD 2 0)) (decR (ws.getD 3 0)) (decR (ws.getD 4 0)) (decR (ws.getD 5 0)) (decR (ws.getD 6 0)) (decR (ws.getD 7 0))
def accL (a:Bool) (l:List Bool):Nat→Bool
 | 0=>a
 | i+1=>accL a l i||l.getD i false
theorem list8 {l:List Nat} (h:l.length=8):∃ a b c d e f g i,l=[a,b,c,d,e,f,g,i]:=by
 match l,h with
 | [a,b,c,d,e,f,g,i],_=>exact ⟨a,b,c,d,e,f,g,i,rfl⟩
set_option maxRecDepth 20000 in
theorem s152 (X:AX) (hX:XOK Tryz.prog X) (hw:X.W wT) (hdc:∀ n:Nat,n<2^64→∀ M k,X.call 56 [U n] M k=some (.tup [EnV (decR n).1,I (decR n).2],[]))
  (hen:∀ k f d a x h M n,X.call 143 [.agg [I k,I f,B d,B a,B x,B h]] M n=some (.tup [U (encR (k,f,d,a,x,h)).1,I (encR (k,f,d,a,x,h)).2],[])) :
  PSound Tryz.prog 152 (specF (ι:={ws:List Nat // ws.length=8∧∀ w∈ws,w<2^64}) (fun x=>[.agg (wcs x.1)]) fun x=>retOf [U (joinR x.1).1,I (joinR x.1).2]):=by
 refine psound_spec hX mixed Tryz.func152 rfl fun ⟨ws,h8,hw64⟩ w0 G=>⟨by show 1≤89;decide,rfl,?_⟩
 show AW ⟨Tryz.prog,X,89,w0,.pure G⟩ _ _ _
 have hc:Cx.OK ⟨Tryz.prog,X,89,w0,.pure G⟩:=⟨hX,mixed⟩
 obtain ⟨w0,w1,w2,w3,w4,w5,w6,w7,rfl⟩:=list8 h8
 unfold joinR
 simp only [List.getD_cons_zero,List.getD_cons_succ,wcs,List.map_cons,List.map_nil]
 have hd0:=hdc w0 (hw64 _ (by simp))
 have hr0:=decR_rng w0
 obtain ⟨⟨⟨k0,f0,d0,a0,x0,h0⟩,c0⟩,hE0⟩:∃ r,r=decR w0:=⟨_,rfl⟩
 rw [← hE0] at hd0 hr0 ⊢
 simp only at hr0
 have hd1:=hdc w1 (hw64 _ (by simp))
 have hr1:=decR_rng w1
 obtain ⟨⟨⟨k1,f1,d1,a1,x1,h1⟩,c1⟩,hE1⟩:∃ r,r=decR w1:=⟨_,rfl⟩
 rw [← hE1] at hd1 hr1 ⊢
 simp only at hr1
 have hd2:=hdc w2 (hw64 _ (by simp))
 have hr2:=decR_rng w2
 obtain ⟨⟨⟨k2,f2,d2,a2,x2,h2⟩,c2⟩,hE2⟩:∃ r,r=decR w2:=⟨_,rfl⟩
 rw [← hE2] at hd2 hr2 ⊢
 simp only at hr2
 have hd3:=hdc w3 (hw64 _ (by simp))
 have hr3:=decR_rng w3
 obtain ⟨⟨⟨k3,f3,d3,a3,x3,h3⟩,c3⟩,hE3⟩:∃ r,r=decR w3:=⟨_,rfl⟩
 rw [← hE3] at hd3 hr3 ⊢
 simp only at hr3
 have hd4:=hdc w4 (hw64 _ (by simp))
 have hr4:=decR_rng w4
 obtain ⟨⟨⟨k4,f4,d4,a4,x4,h4⟩,c4⟩,hE4⟩:∃ r,r=decR w4:=⟨_,rfl⟩
 rw [← hE4] at hd4 hr4 ⊢
 simp only at hr4
 have hd5:=hdc w5 (hw64 _ (by simp))
 have hr5:=decR_rng w5
 obtain ⟨⟨⟨k5,f5,d5,a5,x5,h5⟩,c5⟩,hE5⟩:∃ r,r=decR w5:=⟨_,rfl⟩
 rw [← hE5] at hd5 hr5 ⊢
 simp only at hr5
 have hd6:=hdc w6 (hw64 _ (by simp))
 have hr6:=decR_rng w6
 obtain ⟨⟨⟨k6,f6,d6,a6,x6,h6⟩,c6⟩,hE6⟩:∃ r,r=decR w6:=⟨_,rfl⟩
 rw [← hE6] at hd6 hr6 ⊢
 simp only at hr6
 have hd7:=hdc w7 (hw64 _ (by simp))
 have hr7:=decR_rng w7
 obtain ⟨⟨⟨k7,f7,d7,a7,x7,h7⟩,c7⟩,hE7⟩:∃ r,r=decR w7:=⟨_,rfl⟩
 rw [← hE7] at hd7 hr7 ⊢
 simp only at hr7
 clear hw64 hdc h8 hE0 hE1 hE2 hE3 hE4 hE5 hE6 hE7
 simp only [EnV,U] at hen hd0 hd1 hd2 hd3 hd4 hd5 hd6 hd7 ⊢
 have zS:=jj hd0<|jj hd1<|jj hd2<|jj hd3<|jj hd4<|jj hd5<|jj hd6<|jj hd7<|hen
 repeat' (first|(apply aw_seq_k;intro K hK)|(refine eF64 ?_)|(refine aw_cond (b:=_) (by exact rfl) (fun h=>?_) (fun h=>?_)<;>(try simp at h))|(refine eB ?_)|(refine hK _ ?_;clear hK)|(clear hK;refine hK _ ?_;clear hK)|(clear hK;clear hK;refine hK _ ?_;clear hK)|(clear hK;clear hK;clear hK;refine hK _ ?_;clear hK))
 all_goals clear zS
 refine aw_rounds 9 (aw_round ?_)
 have zS:=jj hd0<|jj hd1<|jj hd2<|jj hd3<|jj hd4<|jj hd5<|jj hd6<|jj hd7<|hen
 repeat' (first|(apply aw_seq_k;intro K hK)|(refine eF64 ?_)|(refine aw_cond (b:=_) (by exact rfl) (fun h=>?_) (fun h=>?_)<;>(try simp at h))|(refine eB ?_)|(refine hK _ ?_;clear hK)|(clear hK;refine hK _ ?_;clear hK)|(clear hK;clear hK;refine hK _ ?_;clear hK)|(clear hK;clear hK;clear hK;refine hK _ ?_;clear hK))
 all_goals clear zS
 all_goals try (refine ⟨by simp,?_⟩;clear hen hd0 hd1 hd2 hd3 hd4 hd5 hd6 hd7 hX hw hc;simp [leaves_iff,Tryz.f152,joinL,joinC,chain, *];done)
 refine aw_rounds 9 (aw_round ?_)
 repeat' (first|(apply aw_seq_k;intro K hK)|(refine aw_run hc (by exact aw_nod) ?_;simp [List.zipIdx,hd0,hd1,hd2,hd3,hd4,hd5,hd6,hd7,hen,-getM,getM_hit,getM_miss,getM_none];(repeat (simp (disch:=first|omega|assumption|fail) only [if_pos,if_neg,wrap64];try simp [List.zipIdx,hd0,hd1,hd2,hd3,hd4,hd5,hd6,hd7,hen,-getM,getM_hit,getM_miss,getM_none]));try (repeat' (refine guardQ_split (fun h=>?_) (fun h=>?_)<;>simp at h<;>(simp [List.zipIdx,hd0,hd1,hd2,hd3,hd4,hd5,hd6,hd7,hen,-getM,getM_hit,getM_miss,getM_none];(repeat (simp (disch:=first|omega|assumption|fail) only [if_pos,if_neg,wrap64];try simp [List.zipIdx,hd0,hd1,hd2,hd3,hd4,hd5,hd6,hd7,hen,-getM,getM_hit,getM_miss,getM_none]))))))|(refine aw_runFt hc ?_;simp [List.zipIdx,hd0,hd1,hd2,hd3,hd4,hd5,hd6,hd7,hen,-getM,getM_hit,getM_miss,getM_none];(repeat (simp (disch:=first|omega|assumption|fail) only [if_pos,if_neg,wrap64];try simp [List.zipIdx,hd0,hd1,hd2,hd3,hd4,hd5,hd6,hd7,hen,-getM,getM_hit,getM_miss,getM_none]));refine ⟨by kernel_rfl,?_⟩)|(refine aw_run hc (by first|(intro _;rw [ordB_w hw];kernel_rfl)|(intro _;rw [ordB_w0 hw0];kernel_rfl)|(intro _;kernel_rfl)) ?_;simp [List.zipIdx,hd0,hd1,hd2,hd3,hd4,hd5,hd6,hd7,hen,-getM,getM_hit,getM_miss,getM_none];(repeat (simp (disch:=first|omega|assumption|fail) only [if_pos,if_neg,wrap64];try simp [List.zipIdx,hd0,hd1,hd2,hd3,hd4,hd5,hd6,hd7,hen,-getM,getM_hit,getM_miss,getM_none]));try (repeat' (refine guardQ_split (fun h=>?_) (fun h=>?_)<;>simp at h<;>(simp [List.zipIdx,hd0,hd1,hd2,hd3,hd4,hd5,hd6,hd7,hen,-getM,getM_hit,getM_miss,getM_none];(repeat (simp (disch:=first|omega|assumption|fail) only [if_pos,if_neg,wrap64];try simp [List.zipIdx,hd0,hd1,hd2,hd3,hd4,hd5,hd6,hd7,hen,-getM,getM_hit,getM_miss,getM_none]))))))|(refine aw_cond (b:=_) (by exact rfl) (fun h=>?_) (fun h=>?_)<;>(try simp at h))|(refine aw_block ?_)|(refine aw_skip ?_;simp only [thenQ,blockQ,if_true])|(refine aw_exit ?_;simp [thenQ,blockQ])|(refine aw_ret ?_;simp only [thenQ,blockQ])|(refine aw_round ?_)|(refine hK _ ?_;clear hK)|(clear hK;refine hK _ ?_;clear hK)|(clear hK;clear hK;refine hK _ ?_;clear hK)|(clear hK;clear hK;clear hK;refine hK _ ?_;clear hK))
 all_goals try (refine ⟨by simp,?_⟩;clear hen hd0 hd1 hd2 hd3 hd4 hd5 hd6 hd7 hX hw hc;simp [leaves_iff,Tryz.f152,joinL,joinC,chain, *];done)
 refine aw_rounds 9 (aw_round ?_)
 repeat' (first|(apply aw_seq_k;intro K hK)|(refine aw_run hc (by exact aw_nod) ?_;simp [List.zipIdx,hd0,hd1,hd2,hd3,hd4,hd5,hd6,hd7,hen,-getM,getM_hit,getM_miss,getM_none];(repeat (simp (disch:=first|omega|assumption|fail) only [if_pos,if_neg,wrap64];try simp [List.zipIdx,hd0,hd1,hd2,hd3,hd4,hd5,hd6,hd7,hen,-getM,getM_hit,getM_miss,getM_none]));try (repeat' (refine guardQ_split (fun h=>?_) (fun h=>?_)<;>simp at h<;>(simp [List.zipIdx,hd0,hd1,hd2,hd3,hd4,hd5,hd6,hd7,hen,-getM,getM_hit,getM_miss,getM_none];(repeat (simp (disch:=first|omega|assumption|fail) only [if_pos,if_neg,wrap64];try simp [List.zipIdx,hd0,hd1,hd2,hd3,hd4,hd5,hd6,hd7,hen,-getM,getM_hit,getM_miss,getM_none]))))))|(refine aw_runFt hc ?_;simp [List.zipIdx,hd0,hd1,hd2,hd3,hd4,hd5,hd6,hd7,hen,-getM,getM_hit,getM_miss,getM_none];(repeat (simp (disch:=first|omega|assumption|fail) only [if_pos,if_neg,wrap64];try simp [List.zipIdx,hd0,hd1,hd2,hd3,hd4,hd5,hd6,hd7,hen,-getM,getM_hit,getM_miss,getM_none]));refine ⟨by kernel_rfl,?_⟩)|(refine aw_run hc (by first|(intro _;rw [ordB_w hw];kernel_rfl)|(intro _;rw [ordB_w0 hw0];kernel_rfl)|(intro _;kernel_rfl)) ?_;simp [List.zipIdx,hd0,hd1,hd2,hd3,hd4,hd5,hd6,hd7,hen,-getM,getM_hit,getM_miss,getM_none];(repeat (simp (disch:=first|omega|assumption|fail) only [if_pos,if_neg,wrap64];try simp [List.zipIdx,hd0,hd1,hd2,hd3,hd4,hd5,hd6,hd7,hen,-getM,getM_hit,getM_miss,getM_none]));try (repeat' (refine guardQ_split (fun h=>?_) (fun h=>?_)<;>simp at h<;>(simp [List.zipIdx,hd0,hd1,hd2,hd3,hd4,hd5,hd6,hd7,hen,-getM,getM_hit,getM_miss,getM_none];(repeat (simp (disch:=first|omega|assumption|fail) only [if_pos,if_neg,wrap64];try simp [List.zipIdx,hd0,hd1,hd2,hd3,hd4,hd5,hd6,hd7,hen,-getM,getM_hit,getM_miss,getM_none]))))))|(refine aw_cond (b:=_) (by exact rfl) (fun h=>?_) (fun h=>?_)<;>(try simp at h))|(refine aw_block ?_)|(refine aw_skip ?_;simp only [thenQ,blockQ,if_true])|(refine aw_exit ?_;simp [thenQ,blockQ])|(refine aw_ret ?_;simp only [thenQ,blockQ])|(refine aw_round ?_)|(refine hK _ ?_;clear hK)|(clear hK;refine hK _ ?_;clear hK)|(clear hK;clear hK;refine hK _ ?_;clear hK)|(clear hK;clear hK;clear hK;refine hK _ ?_;clear hK))
 all_goals try (refine ⟨by simp,?_⟩;clear hen hd0 hd1 hd2 hd3 hd4 hd5 hd6 hd7 hX hw hc;simp [leaves_iff,Tryz.f152,joinL,joinC,chain, *];done)
 refine aw_loopK (s0:=?lps1) (m0:=?lpm1) (ι:={i:Nat // i≤8∧∀ j,j<i→[d0,d1,d2,d3,d4,d5,d6,d7].getD j false=d0}) [12,60] (fun s=>[(61,I s.1)]) (fun s=>[(6624,.box [I k0,I f0,B d0,B (accL a0 [a0,a1,a2,a3,a4,a5,a6,a7] s.1),B (accL x0 [x0,x1,x2,x3,x4,x5,x6,x7] s.1),B h0])]) (fun s=>8 - s.1) ⟨0,by simp,by simp⟩ ?lhs1 ?lhm1 ?_ ?_
 case lhs1=>first|(simp [keepS];done)|(simp [keepS];rfl)
 case lhm1=>first|rfl|(simp;done)|(simp;rfl)
 ·simp only [accL]
  exact dle
 ·rintro ⟨i,hi,hD⟩
  simp only at hi hD ⊢
  have q1:1<i→d1=d0:=fun h=>hD 1 h
  have q2:2<i→d2=d0:=fun h=>hD 2 h
  have q3:3<i→d3=d0:=fun h=>hD 3 h
  have q4:4<i→d4=d0:=fun h=>hD 4 h
  have q5:5<i→d5=d0:=fun h=>hD 5 h
  have q6:6<i→d6=d0:=fun h=>hD 6 h
  have q7:7<i→d7=d0:=fun h=>hD 7 h
  rcases Decidable.em (i<8) with hil|hil
  ·obtain ⟨j,hj⟩:∃ j,j=i+1:=⟨_,rfl⟩
   have hAn:accL a0 [a0,a1,a2,a3,a4,a5,a6,a7] j=(accL a0 [a0,a1,a2,a3,a4,a5,a6,a7] i||[a0,a1,a2,a3,a4,a5,a6,a7].getD i false):=by rw [hj];rfl
   have hXn:accL x0 [x0,x1,x2,x3,x4,x5,x6,x7] j=(accL x0 [x0,x1,x2,x3,x4,x5,x6,x7] i||[x0,x1,x2,x3,x4,x5,x6,x7].getD i false):=by rw [hj];rfl
   have hD2:[d0,d1,d2,d3,d4,d5,d6,d7].getD i false=d0→∀ k,k<j→[d0,d1,d2,d3,d4,d5,d6,d7].getD k false=d0:=fun h k hk=>by
    rcases (by omega:k<i∨k=i) with h1|rfl
    ·exact hD k h1
    ·exact h
   obtain ⟨A,hA⟩:∃ A,A=accL a0 [a0,a1,a2,a3,a4,a5,a6,a7] i:=⟨_,rfl⟩
   obtain ⟨Y,hY⟩:∃ Y,Y=accL x0 [x0,x1,x2,x3,x4,x5,x6,x7] i:=⟨_,rfl⟩
   rw [← hA] at hAn ⊢
   rw [← hY] at hXn ⊢
   obtain ⟨A2,hA2⟩:∃ A,A=accL a0 [a0,a1,a2,a3,a4,a5,a6,a7] j:=⟨_,rfl⟩
   obtain ⟨Y2,hY2⟩:∃ Y,Y=accL x0 [x0,x1,x2,x3,x4,x5,x6,x7] j:=⟨_,rfl⟩
   rw [← hA2] at hAn
   rw [← hY2] at hXn
   clear hA hY hD
   rcases (by omega:i=0∨i=1∨i=2∨i=3∨i=4∨i=5∨i=6∨i=7) with rfl|rfl|rfl|rfl|rfl|rfl|rfl|rfl
   all_goals
    simp only [List.getD_cons_zero,List.getD_cons_succ] at hAn hXn
    cases A<;>cases Y<;>simp only [Bool.true_or,Bool.false_or] at hAn hXn
   all_goals
    have zS:=jj hd0<|jj hd1<|jj hd2<|jj hd3<|jj hd4<|jj hd5<|jj hd6<|jj hd7<|hen
    repeat' (first|(apply aw_seq_k;intro K hK)|(refine eF64 ?_)|(refine aw_cond (b:=_) (by exact rfl) (fun h=>?_) (fun h=>?_)<;>(try simp at h))|(refine eB ?_)|(refine hK _ ?_;clear hK)|(clear hK;refine hK _ ?_;clear hK)|(clear hK;clear hK;refine hK _ ?_;clear hK)|(clear hK;clear hK;clear hK;refine hK _ ?_;clear hK))
    all_goals clear zS
   all_goals first
    | (refine ⟨by simp,?_⟩;clear hen hd0 hd1 hd2 hd3 hd4 hd5 hd6 hd7 hX hw hc;simp [leaves_iff,Tryz.f152,joinL,joinC,chain, *];done)
    | (refine ⟨j,?_,⟨by omega,hD2 (by first|rfl|assumption)⟩,by omega⟩;simp only [← hA2,← hY2,hAn,hXn];subst hj;exact dle)
  ·obtain rfl:i=8:=by omega
   have zS:=jj hd0<|jj hd1<|jj hd2<|jj hd3<|jj hd4<|jj hd5<|jj hd6<|jj hd7<|hen
   repeat' (first|(apply aw_seq_k;intro K hK)|(refine eF64 ?_)|(refine aw_cond (b:=_) (by exact rfl) (fun h=>?_) (fun h=>?_)<;>(try simp at h))|(refine eB ?_)|(refine hK _ ?_;clear hK)|(clear hK;refine hK _ ?_;clear hK)|(clear hK;clear hK;refine hK _ ?_;clear hK)|(clear hK;clear hK;clear hK;refine hK _ ?_;clear hK))
   all_goals clear zS
   all_goals (refine ⟨by simp,?_⟩;clear hen hd0 hd1 hd2 hd3 hd4 hd5 hd6 hd7 hX hw hc;simp [leaves_iff,Tryz.f152,joinL,joinC,chain,accL, *];done)
set_option maxRecDepth 20000 in
theorem s154 (X:AX) (hX:XOK Tryz.prog X) (hw:X.W wT) (hdc:∀ n:Nat,n<2^64→∀ M k,X.call 131 [U n] M k=some (.tup [EnV (decR n).1,I (decR n).2],[]))
  (hen:∀ k f d a x h M n,X.call 187 [.agg [I k,I f,B d,B a,B x,B h]] M n=some (.tup [U (encR (k,f,d,a,x,h)).1,I (encR (k,f,d,a,x,h)).2],[])) :
  PSound Tryz.prog 154 (specF (ι:={ws:List Nat // ws.length=8∧∀ w∈ws,w<2^64}) (fun x=>[.agg (wcs x.1)]) fun x=>retOf [U (joinR x.1).1,I (joinR x.1).2]):=by
 refine psound_spec hX mixed Tryz.func154 rfl fun ⟨ws,h8,hw64⟩ w0 G=>⟨by show 1≤94;decide,rfl,?_⟩
 show AW ⟨Tryz.prog,X,94,w0,.pure G⟩ _ _ _
 have hc:Cx.OK ⟨Tryz.prog,X,94,w0,.pure G⟩:=⟨hX,mixed⟩
 obtain ⟨w0,w1,w2,w3,w4,w5,w6,w7,rfl⟩:=list8 h8
 unfold joinR
 simp only [List.getD_cons_zero,List.getD_cons_succ,wcs,List.map_cons,List.map_nil]
 have hd0:=hdc w0 (hw64 _ (by simp))
 have hr0:=decR_rng w0
 obtain ⟨⟨⟨k0,f0,d0,a0,x0,h0⟩,c0⟩,hE0⟩:∃ r,r=decR w0:=⟨_,rfl⟩
 rw [← hE0] at hd0 hr0 ⊢
 simp only at hr0
 have hd1:=hdc w1 (hw64 _ (by simp))
 have hr1:=decR_rng w1
 obtain ⟨⟨⟨k1,f1,d1,a1,x1,h1⟩,c1⟩,hE1⟩:∃ r,r=decR w1:=⟨_,rfl⟩
 rw [← hE1] at hd1 hr1 ⊢
 simp only at hr1
 have hd2:=hdc w2 (hw64 _ (by simp))
 have hr2:=decR_rng w2
 obtain ⟨⟨⟨k2,f2,d2,a2,x2,h2⟩,c2⟩,hE2⟩:∃ r,r=decR w2:=⟨_,rfl⟩
 rw [← hE2] at hd2 hr2 ⊢
 simp only at hr2
 have hd3:=hdc w3 (hw64 _ (by simp))
 have hr3:=decR_rng w3
 obtain ⟨⟨⟨k3,f3,d3,a3,x3,h3⟩,c3⟩,hE3⟩:∃ r,r=decR w3:=⟨_,rfl⟩
 rw [← hE3] at hd3 hr3 ⊢
 simp only at hr3
 have hd4:=hdc w4 (hw64 _ (by simp))
 have hr4:=decR_rng w4
 obtain ⟨⟨⟨k4,f4,d4,a4,x4,h4⟩,c4⟩,hE4⟩:∃ r,r=decR w4:=⟨_,rfl⟩
 rw [← hE4] at hd4 hr4 ⊢
 simp only at hr4
 have hd5:=hdc w5 (hw64 _ (by simp))
 have hr5:=decR_rng w5
 obtain ⟨⟨⟨k5,f5,d5,a5,x5,h5⟩,c5⟩,hE5⟩:∃ r,r=decR w5:=⟨_,rfl⟩
 rw [← hE5] at hd5 hr5 ⊢
 simp only at hr5
 have hd6:=hdc w6 (hw64 _ (by simp))
 have hr6:=decR_rng w6
 obtain ⟨⟨⟨k6,f6,d6,a6,x6,h6⟩,c6⟩,hE6⟩:∃ r,r=decR w6:=⟨_,rfl⟩
 rw [← hE6] at hd6 hr6 ⊢
 simp only at hr6
 have hd7:=hdc w7 (hw64 _ (by simp))
 have hr7:=decR_rng w7
 obtain ⟨⟨⟨k7,f7,d7,a7,x7,h7⟩,c7⟩,hE7⟩:∃ r,r=decR w7:=⟨_,rfl⟩
 rw [← hE7] at hd7 hr7 ⊢
 simp only at hr7
 clear hw64 hdc h8 hE0 hE1 hE2 hE3 hE4 hE5 hE6 hE7
 simp only [EnV,U] at hen hd0 hd1 hd2 hd3 hd4 hd5 hd6 hd7 ⊢
 have zS:=jj hd0<|jj hd1<|jj hd2<|jj hd3<|jj hd4<|jj hd5<|jj hd6<|jj hd7<|hen
 repeat' (first|(apply aw_seq_k;intro K hK)|(refine eF64 ?_)|(refine aw_cond (b:=_) (by exact rfl) (fun h=>?_) (fun h=>?_)<;>(try simp at h))|(refine eB ?_)|(refine hK _ ?_;clear hK)|(clear hK;refine hK _ ?_;clear hK)|(clear hK;clear hK;refine hK _ ?_;clear hK)|(clear hK;clear hK;clear hK;refine hK _ ?_;clear hK))
 all_goals clear zS
 refine aw_rounds 9 (aw_round ?_)
 have zS:=jj hd0<|jj hd1<|jj hd2<|jj hd3<|jj hd4<|jj hd5<|jj hd6<|jj hd7<|hen
 repeat' (first|(apply aw_seq_k;intro K hK)|(refine eF64 ?_)|(refine aw_cond (b:=_) (by exact rfl) (fun h=>?_) (fun h=>?_)<;>(try simp at h))|(refine eB ?_)|(refine hK _ ?_;clear hK)|(clear hK;refine hK _ ?_;clear hK)|(clear hK;clear hK;refine hK _ ?_;clear hK)|(clear hK;clear hK;clear hK;refine hK _ ?_;clear hK))
 all_goals clear zS
 all_goals try (refine ⟨by simp,?_⟩;clear hen hd0 hd1 hd2 hd3 hd4 hd5 hd6 hd7 hX hw hc;simp [leaves_iff,Tryz.f154,joinL,joinC,chain, *];done)
 refine aw_rounds 9 (aw_round ?_)
 repeat' (first|(apply aw_seq_k;intro K hK)|(refine aw_run hc (by exact aw_nod) ?_;simp [List.zipIdx,hd0,hd1,hd2,hd3,hd4,hd5,hd6,hd7,hen,-getM,getM_hit,getM_miss,getM_none];(repeat (simp (disch:=first|omega|assumption|fail) only [if_pos,if_neg,wrap64];try simp [List.zipIdx,hd0,hd1,hd2,hd3,hd4,hd5,hd6,hd7,hen,-getM,getM_hit,getM_miss,getM_none]));try (repeat' (refine guardQ_split (fun h=>?_) (fun h=>?_)<;>simp at h<;>(simp [List.zipIdx,hd0,hd1,hd2,hd3,hd4,hd5,hd6,hd7,hen,-getM,getM_hit,getM_miss,getM_none];(repeat (simp (disch:=first|omega|assumption|fail) only [if_pos,if_neg,wrap64];try simp [List.zipIdx,hd0,hd1,hd2,hd3,hd4,hd5,hd6,hd7,hen,-getM,getM_hit,getM_miss,getM_none]))))))|(refine aw_runFt hc ?_;simp [List.zipIdx,hd0,hd1,hd2,hd3,hd4,hd5,hd6,hd7,hen,-getM,getM_hit,getM_miss,getM_none];(repeat (simp (disch:=first|omega|assumption|fail) only [if_pos,if_neg,wrap64];try simp [List.zipIdx,hd0,hd1,hd2,hd3,hd4,hd5,hd6,hd7,hen,-getM,getM_hit,getM_miss,getM_none]));refine ⟨by kernel_rfl,?_⟩)|(refine aw_run hc (by first|(intro _;rw [ordB_w hw];kernel_rfl)|(intro _;rw [ordB_w0 hw0];kernel_rfl)|(intro _;kernel_rfl)) ?_;simp [List.zipIdx,hd0,hd1,hd2,hd3,hd4,hd5,hd6,hd7,hen,-getM,getM_hit,getM_miss,getM_none];(repeat (simp (disch:=first|omega|assumption|fail) only [if_pos,if_neg,wrap64];try simp [List.zipIdx,hd0,hd1,hd2,hd3,hd4,hd5,hd6,hd7,hen,-getM,getM_hit,getM_miss,getM_none]));try (repeat' (refine guardQ_split (fun h=>?_) (fun h=>?_)<;>simp at h<;>(simp [List.zipIdx,hd0,hd1,hd2,hd3,hd4,hd5,hd6,hd7,hen,-getM,getM_hit,getM_miss,getM_none];(repeat (simp (disch:=first|omega|assumption|fail) only [if_pos,if_neg,wrap64];try simp [List.zipIdx,hd0,hd1,hd2,hd3,hd4,hd5,hd6,hd7,hen,-getM,getM_hit,getM_miss,getM_none]))))))|(refine aw_cond (b:=_) (by exact rfl) (fun h=>?_) (fun h=>?_)<;>(try simp at h))|(refine aw_block ?_)|(refine aw_skip ?_;simp only [thenQ,blockQ,if_true])|(refine aw_exit ?_;simp [thenQ,blockQ])|(refine aw_ret ?_;simp only [thenQ,blockQ])|(refine aw_round ?_)|(refine hK _ ?_;clear hK)|(clear hK;refine hK _ ?_;clear hK)|(clear hK;clear hK;refine hK _ ?_;clear hK)|(clear hK;clear hK;clear hK;refine hK _ ?_;clear hK))
 all_goals try (refine ⟨by simp,?_⟩;clear hen hd0 hd1 hd2 hd3 hd4 hd5 hd6 hd7 hX hw hc;simp [leaves_iff,Tryz.f154,joinL,joinC,chain, *];done)
 refine aw_rounds 9 (aw_round ?_)
 repeat' (first|(apply aw_seq_k;intro K hK)|(refine aw_run hc (by exact aw_nod) ?_;simp [List.zipIdx,hd0,hd1,hd2,hd3,hd4,hd5,hd6,hd7,hen,-getM,getM_hit,getM_miss,getM_none];(repeat (simp (disch:=first|omega|assumption|fail) only [if_pos,if_neg,wrap64];try simp [List.zipIdx,hd0,hd1,hd2,hd3,hd4,hd5,hd6,hd7,hen,-getM,getM_hit,getM_miss,getM_none]));try (repeat' (refine guardQ_split (fun h=>?_) (fun h=>?_)<;>simp at h<;>(simp [List.zipIdx,hd0,hd1,hd2,hd3,hd4,hd5,hd6,hd7,hen,-getM,getM_hit,getM_miss,getM_none];(repeat (simp (disch:=first|omega|assumption|fail) only [if_pos,if_neg,wrap64];try simp [List.zipIdx,hd0,hd1,hd2,hd3,hd4,hd5,hd6,hd7,hen,-getM,getM_hit,getM_miss,getM_none]))))))|(refine aw_runFt hc ?_;simp [List.zipIdx,hd0,hd1,hd2,hd3,hd4,hd5,hd6,hd7,hen,-getM,getM_hit,getM_miss,getM_none];(repeat (simp (disch:=first|omega|assumption|fail) only [if_pos,if_neg,wrap64];try simp [List.zipIdx,hd0,hd1,hd2,hd3,hd4,hd5,hd6,hd7,hen,-getM,getM_hit,getM_miss,getM_none]));refine ⟨by kernel_rfl,?_⟩)|(refine aw_run hc (by first|(intro _;rw [ordB_w hw];kernel_rfl)|(intro _;rw [ordB_w0 hw0];kernel_rfl)|(intro _;kernel_rfl)) ?_;simp [List.zipIdx,hd0,hd1,hd2,hd3,hd4,hd5,hd6,hd7,hen,-getM,getM_hit,getM_miss,getM_none];(repeat (simp (disch:=first|omega|assumption|fail) only [if_pos,if_neg,wrap64];try simp [List.zipIdx,hd0,hd1,hd2,hd3,hd4,hd5,hd6,hd7,hen,-getM,getM_hit,getM_miss,getM_none]));try (repeat' (refine guardQ_split (fun h=>?_) (fun h=>?_)<;>simp at h<;>(simp [List.zipIdx,hd0,hd1,hd2,hd3,hd4,hd5,hd6,hd7,hen,-getM,getM_hit,getM_miss,getM_none];(repeat (simp (disch:=first|omega|assumption|fail) only [if_pos,if_neg,wrap64];try simp [List.zipIdx,hd0,hd1,hd2,hd3,hd4,hd5,hd6,hd7,hen,-getM,getM_hit,getM_miss,getM_none]))))))|(refine aw_cond (b:=_) (by exact rfl) (fun h=>?_) (fun h=>?_)<;>(try simp at h))|(refine aw_block ?_)|(refine aw_skip ?_;simp only [thenQ,blockQ,if_true])|(refine aw_exit ?_;simp [thenQ,blockQ])|(refine aw_ret ?_;simp only [thenQ,blockQ])|(refine aw_round ?_)|(refine hK _ ?_;clear hK)|(clear hK;refine hK _ ?_;clear hK)|(clear hK;clear hK;refine hK _ ?_;clear hK)|(clear hK;clear hK;clear hK;refine hK _ ?_;clear hK))
 all_goals try (refine ⟨by simp,?_⟩;clear hen hd0 hd1 hd2 hd3 hd4 hd5 hd6 hd7 hX hw hc;simp [leaves_iff,Tryz.f154,joinL,joinC,chain, *];done)
 refine aw_loopK (s0:=?lps2) (m0:=?lpm2) (ι:={i:Nat // i≤8∧∀ j,j<i→[d0,d1,d2,d3,d4,d5,d6,d7].getD j false=d0}) [4,9] (fun s=>[(59,I s.1)]) (fun s=>[(4896,.box [I k0,I f0,B d0,B (accL a0 [a0,a1,a2,a3,a4,a5,a6,a7] s.1),B (accL x0 [x0,x1,x2,x3,x4,x5,x6,x7] s.1),B h0])]) (fun s=>8 - s.1) ⟨0,by simp,by simp⟩ ?lhs2 ?lhm2 ?_ ?_
 case lhs2=>first|(simp [keepS];done)|(simp [keepS];rfl)
 case lhm2=>first|rfl|(simp;done)|(simp;rfl)
 ·simp only [accL]
  exact dle
 ·rintro ⟨i,hi,hD⟩
  simp only at hi hD ⊢
  have q1:1<i→d1=d0:=fun h=>hD 1 h
  have q2:2<i→d2=d0:=fun h=>hD 2 h
  have q3:3<i→d3=d0:=fun h=>hD 3 h
  have q4:4<i→d4=d0:=fun h=>hD 4 h
  have q5:5<i→d5=d0:=fun h=>hD 5 h
  have q6:6<i→d6=d0:=fun h=>hD 6 h
  have q7:7<i→d7=d0:=fun h=>hD 7 h
  rcases Decidable.em (i<8) with hil|hil
  ·obtain ⟨j,hj⟩:∃ j,j=i+1:=⟨_,rfl⟩
   have hAn:accL a0 [a0,a1,a2,a3,a4,a5,a6,a7] j=(accL a0 [a0,a1,a2,a3,a4,a5,a6,a7] i||[a0,a1,a2,a3,a4,a5,a6,a7].getD i false):=by rw [hj];rfl
   have hXn:accL x0 [x0,x1,x2,x3,x4,x5,x6,x7] j=(accL x0 [x0,x1,x2,x3,x4,x5,x6,x7] i||[x0,x1,x2,x3,x4,x5,x6,x7].getD i false):=by rw [hj];rfl
   have hD2:[d0,d1,d2,d3,d4,d5,d6,d7].getD i false=d0→∀ k,k<j→[d0,d1,d2,d3,d4,d5,d6,d7].getD k false=d0:=fun h k hk=>by
    rcases (by omega:k<i∨k=i) with h1|rfl
    ·exact hD k h1
    ·exact h
   obtain ⟨A,hA⟩:∃ A,A=accL a0 [a0,a1,a2,a3,a4,a5,a6,a7] i:=⟨_,rfl⟩
   obtain ⟨Y,hY⟩:∃ Y,Y=accL x0 [x0,x1,x2,x3,x4,x5,x6,x7] i:=⟨_,rfl⟩
   rw [← hA] at hAn ⊢
   rw [← hY] at hXn ⊢
   obtain ⟨A2,hA2⟩:∃ A,A=accL a0 [a0,a1,a2,a3,a4,a5,a6,a7] j:=⟨_,rfl⟩
   obtain ⟨Y2,hY2⟩:∃ Y,Y=accL x0 [x0,x1,x2,x3,x4,x5,x6,x7] j:=⟨_,rfl⟩
   rw [← hA2] at hAn
   rw [← hY2] at hXn
   clear hA hY hD
   rcases (by omega:i=0∨i=1∨i=2∨i=3∨i=4∨i=5∨i=6∨i=7) with rfl|rfl|rfl|rfl|rfl|rfl|rfl|rfl
   all_goals
    simp only [List.getD_cons_zero,List.getD_cons_succ] at hAn hXn
    cases A<;>cases Y<;>simp only [Bool.true_or,Bool.false_or] at hAn hXn
   all_goals
    have zS:=jj hd0<|jj hd1<|jj hd2<|jj hd3<|jj hd4<|jj hd5<|jj hd6<|jj hd7<|hen
    repeat' (first|(apply aw_seq_k;intro K hK)|(refine eF64 ?_)|(refine aw_cond (b:=_) (by exact rfl) (fun h=>?_) (fun h=>?_)<;>(try simp at h))|(refine eB ?_)|(refine hK _ ?_;clear hK)|(clear hK;refine hK _ ?_;clear hK)|(clear hK;clear hK;refine hK _ ?_;clear hK)|(clear hK;clear hK;clear hK;refine hK _ ?_;clear hK))
    all_goals clear zS
   all_goals first
    | (refine ⟨by simp,?_⟩;clear hen hd0 hd1 hd2 hd3 hd4 hd5 hd6 hd7 hX hw hc;simp [leaves_iff,Tryz.f154,joinL,joinC,chain, *];done)
    | (refine ⟨j,?_,⟨by omega,hD2 (by first|rfl|assumption)⟩,by omega⟩;simp only [← hA2,← hY2,hAn,hXn];subst hj;exact dle)
  ·obtain rfl:i=8:=by omega
   have zS:=jj hd0<|jj hd1<|jj hd2<|jj hd3<|jj hd4<|jj hd5<|jj hd6<|jj hd7<|hen
   repeat' (first|(apply aw_seq_k;intro K hK)|(refine eF64 ?_)|(refine aw_cond (b:=_) (by exact rfl) (fun h=>?_) (fun h=>?_)<;>(try simp at h))|(refine eB ?_)|(refine hK _ ?_;clear hK)|(clear hK;refine hK _ ?_;clear hK)|(clear hK;clear hK;refine hK _ ?_;clear hK)|(clear hK;clear hK;clear hK;refine hK _ ?_;clear hK))
   all_goals clear zS
   all_goals (refine ⟨by simp,?_⟩;clear hen hd0 hd1 hd2 hd3 hd4 hd5 hd6 hd7 hX hw hc;simp [leaves_iff,Tryz.f154,joinL,joinC,chain,accL, *];done)
end Go.AM
set_option maxHeartbeats 2000000
namespace Go.AM
open Go Go.Proofs
set_option maxRecDepth 4000
theorem insK_put {ns:NdL} (ha:ascN ns) {f:Int} (hf:∀ n∈ns,n.1≠f) {a i w:Nat} (hn:a<ns.length) :
  ∃ m,m<(insK ns (f,zs8)).length∧(gn (insK ns (f,zs8)) m).1=(gn ns a).1∧setN (insK ns (f,zs8)) m i w=insK (setN ns a i w) (f,zs8):=by
 have hi:ascN (insK ns (f,zs8)):=insK_asc ha hf
 have h1:fnd ns (gn ns a).1=some a:=fnd_at ha hn
 have hM:Mof ns (gn ns a).1=some (gn ns a).2:=Mof_some.2 ⟨a,h1,rfl⟩
 have hne:(gn ns a).1≠f:=hf _ (gn_mem hn)
 have hM2:Mof (insK ns (f,zs8)) (gn ns a).1=some (gn ns a).2:=by
  rw [Mof_ins ha hf];unfold updM1;rw [if_neg hne];exact hM
 obtain ⟨m,h2,_⟩:=Mof_some.1 hM2
 refine ⟨m,fnd_lt h2,fnd_frame h2,?_⟩
 have hsf:=setN_fr (i:=i) (w:=w) hn hf
 refine ext_asc (setN_asc hi (fnd_lt h2)) (insK_asc (setN_asc ha hn) hsf) fun g=>?_
 rw [Mof_set hi h2,Mof_ins (setN_asc ha hn) hsf,show Mof (insK ns (f,zs8))=updM1 (Mof ns) f (some zs8) from Mof_ext (Mof_ins ha hf),show Mof (setN ns a i w)=updW (Mof ns) (gn ns a).1 i w from Mof_ext (Mof_set ha h1)]
 unfold updW updM1
 by_cases e2:g=(gn ns a).1
 ·subst e2;simp [hne]
 ·by_cases e1:g=f
  ·subst e1;simp [e2]
  ·simp [e1,e2]
theorem insS_at {t:Tb} {f:Int} (ht:tbOK t):insS [tAV t,I f] (tMs t)=some (.agg [I t.1,.sl 2 1 9 0 (t.2.1.length+1),.sl 1 1 2 0 t.2.2.length],tMs t++[.vec 1 9 false (nrows (insK t.2.1 (f,zs8)))]):=by
 refine specG_eq (ι:={x:Tb×Int // tbOK x.1}) (A:=fun x=>[tAV x.1.1,I x.1.2]) (M:=fun x=>tMs x.1.1) (R:=fun x=>retOf [.agg [I x.1.1.1,.sl 2 1 9 0 (x.1.1.2.1.length+1),.sl 1 1 2 0 x.1.1.2.2.length]]) (O:=fun x=>tMs x.1.1++[.vec 1 9 false (nrows (insK x.1.1.2.1 (x.1.2,zs8)))]) ⟨(t,f),ht⟩ fun j hA hM=>?_
 obtain ⟨⟨t',f'⟩,h'⟩:=j
 simp only [List.cons.injEq,and_true,I,AV.v.injEq,Value.int.injEq,true_and] at hA
 have e1:=tAV_inj hA.1 hM
 subst e1
 obtain ⟨_,rfl⟩:=hA
 exact ⟨rfl,rfl⟩
theorem callIn {a b:Nat} (hab:a≠b) {r:Int} {ns:NdL} {ds:List Dp} {f:Int} (ht:tbOK (r,ns,ds)) {v v2:Nat} (M:Nat→AO) (nid:Nat) (ha:a<nid) (hb:b<nid)
  (h0:M a=.vec (v+1) 9 false (nrows ns)) (h1:M b=.vec (v2+1) 2 false (prows ds)) :
  callG insS [.agg [I r,.sl a (v+1) 9 0 ns.length,.sl b (v2+1) 2 0 ds.length],I f] M nid=some (.agg [I r,.sl nid 1 9 0 (ns.length+1),.sl b (v2+1) 2 0 ds.length],[(a,.vec (v+1) 9 false (nrows ns)),(b,.vec (v2+1) 2 false (prows ds)),(nid,.vec 1 9 false (nrows (insK ns (f,zs8))))]):=by
 have hF:=insS_at (t:=(r,ns,ds)) (f:=f) ht
 simp only [tAV,tMs] at hF
 unfold callG
 have hba:b≠a:=fun e=>hab e.symm
 have n1:nid≠a:=by omega
 have n2:nid≠b:=by omega
 have hg:gat M 64 (nmsL [.agg [I r,.sl a (v+1) 9 0 ns.length,.sl b (v2+1) 2 0 ds.length],I f]) []=[a,b]:=by
  simp [gat,nmsL,AV.nms,AO.nms,h0,h1,hab,hba]
 simp only [hg]
 rw [if_pos ?cg]
 case cg=>simp [CallG,nmsL,AV.nms,AO.nms,Led,curBL,AV.curB,AO.curB,verOf,notDead,h0,h1,hab,hba]
 have e1:1+v=v+1:=by omega
 have e2:1+v2=v2+1:=by omega
 simp [renL,AV.ren,AO.ren,posN,canO,nmsL,h0,h1,hF,RetG,getL,AV.nms,AO.nms,updN,nmN,shN,verOf,rng,Led,hab,hba,e1,e2]
theorem rpS_at {t:Tb} {n i w:Nat} (h:rpOK (t,n,i,w)):rpS [tAV t,I (gn t.2.1 n).1,I i,U w] (tMs t)=some (.tup [],tMs (t.1,setN t.2.1 n i w,t.2.2)):=by
 refine specG_eq (ι:={x:RpD // rpOK x}) (A:=fun x=>[tAV x.1.1,I (gn x.1.1.2.1 x.1.2.1).1,I x.1.2.2.1,U x.1.2.2.2]) (M:=fun x=>tMs x.1.1) (R:=fun x=>.tup []) (O:=fun x=>tMs (x.1.1.1,setN x.1.1.2.1 x.1.2.1 x.1.2.2.1 x.1.2.2.2,x.1.1.2.2)) ⟨(t,n,i,w),h⟩ fun j hA hM=>?_
 obtain ⟨⟨t',n',i',w'⟩,h'⟩:=j
 simp only [List.cons.injEq,and_true,I,U,AV.v.injEq,Value.int.injEq,true_and,Int.ofNat_inj] at hA
 have e1:=tAV_inj hA.1 hM
 subst e1
 obtain ⟨_,e2,rfl,rfl⟩:=hA
 have e3:n'=n:=by
  have k1:=fnd_at h'.2.1 h'.2.2.1
  have k2:=fnd_at h.2.1 h.2.2.1
  simp only at k1 k2 e2
  rw [← gn_getD] at k1 k2
  rw [e2,k2] at k1
  simpa using k1.symm
 subst e3
 exact ⟨rfl,rfl⟩
theorem callRp {a b:Nat} (hab:a≠b) {r:Int} {ns:NdL} {ds:List Dp} {n i w:Nat} {f:Int} (h:rpOK ((r,ns,ds),n,i,w)) (hf:f=(gn ns n).1) {v v2:Nat} (M:Nat→AO) (nid:Nat)
  (h0:M a=.vec (v+1) 9 false (nrows ns)) (h1:M b=.vec (v2+1) 2 false (prows ds)) :
  callG rpS [.agg [I r,.sl a (v+1) 9 0 ns.length,.sl b (v2+1) 2 0 ds.length],I f,I i,U w] M nid=some (.tup [],[(a,.vec (v+1) 9 false (nrows (setN ns n i w))),(b,.vec (v2+1) 2 false (prows ds))]):=by
 subst hf
 have hF:=rpS_at h
 have hsl:(setN ns n i w).length=ns.length:=setN_len
 simp only [tAV,tMs] at hF
 unfold callG
 have hba:b≠a:=fun e=>hab e.symm
 have hg:gat M 64 (nmsL [.agg [I r,.sl a (v+1) 9 0 ns.length,.sl b (v2+1) 2 0 ds.length],I (gn ns n).1,I i,U w]) []=[a,b]:=by
  simp [gat,nmsL,AV.nms,AO.nms,h0,h1,hab,hba,U]
 simp only [hg]
 rw [if_pos ?cg]
 case cg=>simp [CallG,nmsL,AV.nms,AO.nms,Led,curBL,AV.curB,AO.curB,verOf,notDead,h0,h1,hab,hba,U]
 have e1:1+v=v+1:=by omega
 have e2:1+v2=v2+1:=by omega
 simp only [U] at hF ⊢
 simp [renL,AV.ren,AO.ren,posN,canO,nmsL,h0,h1,hF,RetG,getL,AV.nms,AO.nms,updN,nmN,shN,verOf,rng,Led,hab,hba,e1,e2]
theorem s150 (X:AX) (hX:XOK Tryz.prog X) (hw:X.W wT) (hen:∀ k f d a x h M n,X.call 187 [.agg [I k,I f,B d,B a,B x,B h]] M n=some (.tup [U (encR (k,f,d,a,x,h)).1,I (encR (k,f,d,a,x,h)).2],[])):PSound Tryz.prog 150 (specF (ι:=En) (fun x=>[EnV x]) fun x=>retOf [U (encR x).1]):=by
 refine psound_spec hX mixed Tryz.func150 rfl fun ⟨k,f,d,a,x,h⟩ w0 G=>⟨by show 1≤11;decide,rfl,?_⟩
 show AW ⟨Tryz.prog,X,11,w0,.pure G⟩ _ _ _
 have hc:Cx.OK ⟨Tryz.prog,X,11,w0,.pure G⟩:=⟨hX,mixed⟩
 have hen':=hen k f d a x h
 obtain ⟨e,he⟩:∃ e,e=encR (k,f,d,a,x,h):=⟨_,rfl⟩
 rw [← he] at hen' ⊢
 obtain ⟨e1,e2⟩:=e
 simp only [EnV,U] at hen' ⊢
 have zS:=hen'
 refine dM64 ?_
 repeat (intro K hK)
 clear zS
 refine ⟨by simp,?_⟩
 simp [leaves_iff,Tryz.f150]
 try exact dt
end Go.AM
namespace Go.AM
open Go Go.Proofs
theorem tabW_inv {x:Nat} {g:Int} (h:tabW x=some g):0≤g∧g≤4294967295∧x=g.toNat*256+4:=by
 have hr:=decR_rng x
 unfold tabW at h
 split at h
 case isFalse=>simp at h
 rename_i hk
 simp only [Option.some.injEq] at h
 rw [h] at hr
 refine ⟨hr.1,hr.2,?_⟩
 by_cases he:encR (prs x)=((x:Int),0)
 ·rw [decR_z he] at hk h
  simp only at hk h
  have hb:¬ badF (prs x):=fun hb=>by rw [encR_f (by rw [hk];decide) hb] at he;simp at he
  cases hf:frmE (prs x) with
  | false=>rw [encR_m (by rw [hk];decide) hb hf] at he;simp at he
  | true =>
   rw [encR_z (by rw [hk];decide) hb hf] at he
   simp only [Prod.mk.injEq,and_true] at he
   unfold frmE noFl at hf
   rw [if_neg (by rw [hk];decide),if_neg (by rw [hk];decide),if_neg (by rw [hk];decide),if_pos (.inr hk)] at hf
   simp only [Bool.and_eq_true,Bool.not_eq_true'] at hf
   unfold encW fb at he
   rw [hk,h,hf.1,hf.2.1,hf.2.2.1,hf.2.2.2] at he
   simp at he
   omega
 ·rw [decR_n he] at hk
  exact absurd hk (by decide)
def unlW (w:Nat) (ws:List Nat):List Nat:=ws.map fun x=>if x=w then 0 else x
def unl (w:Nat) (ns:NdL):NdL:=ns.map fun n=>(n.1,unlW w n.2)
@[simp] theorem unl_len {w:Nat} {ns:NdL}:(unl w ns).length=ns.length:=by simp [unl]
@[simp] theorem unlW_len {w:Nat} {ws:List Nat}:(unlW w ws).length=ws.length:=by simp [unlW]
theorem fnd_unl {w:Nat} {ns:NdL} {f:Int}:fnd (unl w ns) f=fnd ns f:=by
 unfold fnd unl
 rw [List.findIdx_map,List.length_map]
 rfl
theorem Mof_unl {w:Nat} {ns:NdL} {f:Int}:Mof (unl w ns) f=(Mof ns f).map (unlW w):=by
 unfold Mof
 rw [fnd_unl]
 cases fnd ns f with
 | none=>rfl
 | some i =>
  simp only [Option.map_some,unl,List.getD_eq_getElem?_getD,List.getElem?_map]
  cases ns[i]?<;>rfl
theorem unl_asc {w:Nat} {ns:NdL} (h:ascN ns):ascN (unl w ns):=by
 unfold ascN unl
 rw [List.pairwise_map]
 exact h
theorem unl_ok {w:Nat} {ns:NdL} (h:∀ x∈ns,ndOK x):∀ x∈unl w ns,ndOK x:=fun x hx=>by
 obtain ⟨y,hy,rfl⟩:=List.mem_map.1 hx
 refine ⟨by simp [(h y hy).1],fun z hz=>?_⟩
 obtain ⟨u,hu,rfl⟩:=List.mem_map.1 hz
 have:=(h y hy).2 u hu
 split
 ·decide
 ·exact this
theorem delK_ok {ns:NdL} {g:Int} (h:∀ x∈ns,ndOK x):∀ x∈delK ns g,ndOK x:=fun x hx=>h x (mem_delK.1 hx).1
theorem unl_one {M:Mm} {root:Int} (hV:VM WA M root) {d q:Nat} (hx:(d,q)∈Pos) (hd:d<2) {f:Int} (hf:frP WA M root d q=some f) {i:Nat} (hi:i<8) {g:Int} (h0:tabW (wM M f i)=some g) {h:Int} {us:List Nat} (hm:M h=some us) :
  unlW (g.toNat*256+4) us=if h=f then us.set i 0 else us:=by
 obtain ⟨g0,g1,gw⟩:=tabW_inv h0
 obtain ⟨d',q',hx',hf'⟩:=hV.all h us hm
 obtain ⟨us',hm',h8,hok⟩:=hV.nd d' q' hx' h hf'
 rw [hm] at hm'
 simp only [Option.some.injEq] at hm'
 subst hm'
 have hgP:frP WA M root (d+1) (q*8+i)=some g:=by
  simp only [frP]
  rw [show (q*8+i)/8=q by omega,show (q*8+i)%8=i by omega,hf]
  exact h0
 have key:∀ j,j<8→us.getD j 0=g.toNat*256+4→h=f∧j=i:=fun j hj e=>by
  have hj':=hok j hj
  have htw:tabW (us.getD j 0)=some g:=by
   rw [e,tabW_tw (g:=g.toNat) (by omega),Int.toNat_of_nonneg g0]
  have hd':d'≤2:=by have:=mem_Pos.1 hx';simp only at this;omega
  by_cases e2:d'=2
  ·subst e2
   have:=(WD_ok fun _=>true).flat _ hj'
   rw [show (WD fun _=>true).tab=tabW from rfl,htw] at this
   simp at this
  ·have hgP':frP WA M root (d'+1) (q'*8+j)=some g:=by
    simp only [frP]
    rw [show (q'*8+j)/8=q' by omega,show (q'*8+j)%8=j by omega,hf']
    show tabW (wM M h j)=some g
    unfold wM
    rw [hm];exact htw
   have hin:=hV.inj _ _ _ _ (Pos_dn hx' (by omega) hj) (Pos_dn hx hd hi) g hgP' hgP
   have e3:d'=d:=by omega
   have e4:q'=q:=by omega
   subst e3 e4
   rw [hf] at hf'
   simp only [Option.some.injEq] at hf'
   exact ⟨hf'.symm,by omega⟩
 refine List.ext_getElem (by split<;>simp) fun j h1 h2=>?_
 have hj:j<8:=by simp at h1;omega
 have hg:us.getD j 0=us[j]'(by simpa using h1):=by rw [List.getD_eq_getElem?_getD,List.getElem?_eq_getElem (by simpa using h1)];rfl
 have k:=key j hj
 rw [hg] at k
 simp only [unlW,List.getElem_map]
 by_cases e:us[j]'(by simpa using h1)=g.toNat*256+4
 ·obtain ⟨rfl,rfl⟩:=k e
  rw [if_pos e]
  simp
 ·rw [if_neg e]
  by_cases e2:h=f
  ·subst e2
   simp only [if_true]
   rw [List.getElem_set]
   split
   ·rename_i e3
    subst e3
    exfalso
    apply e
    unfold wM at gw
    rw [hm] at gw
    simp only at gw
    rw [← hg]
    exact gw
   ·rfl
  ·simp only [if_neg e2]
theorem Mof_kp {ns:NdL} (ha:ascN ns) {fr:List Int} (x:Int):Mof (kpF fr ns) x=if x∈fr then none else Mof ns x:=by
 have hk:ascN (kpF fr ns):=List.Pairwise.filter _ ha
 split
 ·rename_i h
  refine (Mof_none hk).2 fun n hn e=>?_
  have:=(List.mem_filter.1 hn).2
  unfold inF at this
  rw [e] at this
  simp [h] at this
 ·rename_i h
  cases hm:Mof ns x with
  | none=>exact (Mof_none hk).2 fun n hn=>(Mof_none ha).1 hm n (List.mem_filter.1 hn).1
  | some us =>
   refine (mem_Mof hk).1 (List.mem_filter.2 ⟨(mem_Mof ha).2 hm,?_⟩)
   unfold inF
   simp [h]
theorem kpF_asc {ns:NdL} (ha:ascN ns) {fr:List Int}:ascN (kpF fr ns):=List.Pairwise.filter _ ha
theorem round {r:Int} {ns:NdL} {ds:List Dp} (h:Pv (r,ns,ds)) (ht:tbOK (r,ns,ds)) {p:Nat} (hp:p<512) {g:Int} {l w:Nat} (hw:wlk (Mof ns) r p=(g,l,w)) (hl:l<2) (hlf:∀ j,j<8→tabW (wM (Mof ns) g j)=none) :
  ∃ f k,frP WA (Mof ns) r (1 - l) (p/8^(l+2))=some f∧tabW (wM (Mof ns) f (dgt p (l+1)))=some g∧fnd ns f=some k∧f≠g∧0≤g∧g≤4294967295 ∧
   Mof (unl (g.toNat*256+4) (delK ns g))=updM1 (updW (Mof ns) f (dgt p (l+1)) 0) g none∧Pv (r,unl (g.toNat*256+4) (delK ns g),ds)∧tbOK (r,unl (g.toNat*256+4) (delK ns g),ds) ∧
   wlk (Mof (unl (g.toNat*256+4) (delK ns g))) r p=(f,l+1,0)∧unl (g.toNat*256+4) (delK ns g)=kpF [g] (setN ns k (dgt p (l+1)) 0):=by
 obtain ⟨a1,a2,a3,a4,a5,a6⟩:=wlk_at h.vm hp hw
 simp only at a3
 have hq:p/8^(l+1)=p/8^(l+2)*8+dgt p (l+1):=by
  unfold dgt
  rw [Nat.pow_succ 8 (l+1),← Nat.div_div_eq_div_mul]
  omega
 have hd8:=dgt_lt p (l+1)
 obtain ⟨f,hf,htb⟩:∃ f,frP WA (Mof ns) r (1 - l) (p/8^(l+2))=some f∧tabW (wM (Mof ns) f (dgt p (l+1)))=some g:=by
  rw [show 2 - l=(1 - l)+1 by omega,hq] at a3
  simp only [frP] at a3
  rw [show (p/8^(l+2)*8+dgt p (l+1))/8=p/8^(l+2) by omega,show (p/8^(l+2)*8+dgt p (l+1))%8=dgt p (l+1) by omega] at a3
  cases hc:frP WA (Mof ns) r (1 - l) (p/8^(l+2)) with
  | none=>rw [hc] at a3;simp at a3
  | some f=>rw [hc] at a3;exact ⟨f,rfl,a3⟩
 have hx:(1 - l,p/8^(l+2))∈Pos:=by
  have:=Pos_up (d:=1 - l) (q:=p/8^(l+1)) (by rw [show 1 - l+1=2 - l by omega];exact a2)
  rwa [hq,show (p/8^(l+2)*8+dgt p (l+1))/8=p/8^(l+2) by omega] at this
 obtain ⟨g0,g1,gw⟩:=tabW_inv htb
 have hpr:=h.vm.prune hx (by omega) hf hd8 (w:=0) htb hlf tab0 (ok0 (2 - (1 - l)))
 obtain ⟨us,hus,hu8,_⟩:=h.vm.nd _ _ hx f hf
 obtain ⟨k,hk,_⟩:=Mof_some.1 hus
 have hfg:f≠g:=fun e=>by
  have:=h.vm.inj _ _ _ _ hx a2 f hf (by rw [e];exact a3)
  omega
 have hM:Mof (unl (g.toNat*256+4) (delK ns g))=updM1 (updW (Mof ns) f (dgt p (l+1)) 0) g none:=by
  refine Mof_ext fun x=>?_
  rw [Mof_unl,Mof_del h.asc]
  unfold updM1 updW
  by_cases e:x=g
  ·simp [e]
  ·simp only [if_neg e]
   cases hm:Mof ns x with
   | none =>
    split
    ·rename_i e2;rw [e2,hus] at hm;simp at hm
    ·rfl
   | some vs =>
    simp only [Option.map_some]
    rw [unl_one h.vm hx (by omega) hf hd8 htb hm]
    by_cases e2:x=f
    ·subst e2;rw [hm];simp
    ·simp [e2]
 have hasc:ascN (unl (g.toNat*256+4) (delK ns g)):=unl_asc (delK_asc h.asc)
 have hsa:=setN_asc h.asc (i:=dgt p (l+1)) (w:=0) (fnd_lt hk)
 refine ⟨f,k,hf,htb,hk,hfg,g0,g1,hM,⟨hasc,?_⟩,⟨unl_ok (delK_ok ht.1),?_,ht.2.2⟩,?_,?_⟩
 ·show VM WA (Mof (unl _ _)) r
  rw [hM];exact hpr.1
 ·have h1:(delK ns g).length≤ns.length:=List.length_filter_le _ _
  have h2:=ht.2.1
  show (unl _ _).length≤_
  simp only [unl_len]
  simp only at h2
  omega
 ·have hfr:frP WA (Mof (unl (g.toNat*256+4) (delK ns g))) r (2 - (l+1)) (p/8^(l+1+1))=some f:=by
   rw [hM,show 2 - (l+1)=1 - l by omega,hpr.2 _ _ hx,if_neg (by omega)]
   exact hf
  have hwf:wM (Mof (unl (g.toNat*256+4) (delK ns g))) f (dgt p (l+1))=0:=by
   rw [hM,wM_updM1,if_neg hfg,wM_updW hus (by omega),if_pos ⟨rfl,rfl⟩]
  rw [wlk_of hp (by omega) hfr (.inl (by rw [hwf];exact tab0)),hwf]
 ·refine ext_asc hasc (kpF_asc hsa) fun x=>?_
  rw [hM,Mof_kp hsa,Mof_set h.asc hk]
  unfold updM1
  simp
end Go.AM
namespace Go.AM
open Go Go.Proofs
theorem td_del {β:Type} {l:List (Int×β)} (ha:ascK l) {i:Nat} (hi:i<l.length):l.take i++l.drop (i+1)=delK l (l[i]).1:=by
 have hlt:∀ a∈l.take i,a.1≠(l[i]).1:=fun a ha'=>by
  obtain ⟨k,hk,rfl⟩:=List.getElem_of_mem ha'
  simp only [List.length_take] at hk
  rw [List.getElem_take]
  have:=List.pairwise_iff_getElem.1 ha k i (by omega) hi (by omega)
  omega
 have hgt:∀ a∈l.drop (i+1),a.1≠(l[i]).1:=fun a ha'=>by
  obtain ⟨k,hk,rfl⟩:=List.getElem_of_mem ha'
  simp only [List.length_drop] at hk
  rw [List.getElem_drop]
  have:=List.pairwise_iff_getElem.1 ha i (i+1+k) hi (by omega) (by omega)
  omega
 have e:delK l (l[i]).1=delK (l.take i++l[i]::l.drop (i+1)) (l[i]).1:=by rw [List.getElem_cons_drop,List.take_append_drop]
 rw [e]
 unfold delK
 rw [List.filter_append,List.filter_cons,if_neg (by simp),List.filter_eq_self.2 (fun a ha'=>by simpa using hlt a ha'),List.filter_eq_self.2 (fun a ha'=>by simpa using hgt a ha')]
theorem lowD_split {ds:List Dp} {g:Int} (h:lowD ds g<ds.length):ds=ds.take (lowD ds g)++gp ds (lowD ds g)::ds.drop (lowD ds g+1):=by
 rw [gp_eq h,List.getElem_cons_drop,List.take_append_drop]
theorem delL_eq {ds:List Dp} (ha:ascK ds) {g:Int} (h:lowD ds g<ds.length) (h2:(gp ds (lowD ds g)).1=g):delL ds g=delK ds g∧lastK (-1) g ds=(gp ds (lowD ds g)).2:=by
 have hm:gp ds (lowD ds g)∈ds:=by rw [gp_eq h];exact List.getElem_mem h
 constructor
 ·have:=td_del (l:=ds) ha h
  rw [← gp_eq h,h2] at this
  exact this
 ·refine lastK_at ha ?_
  obtain ⟨x,hx⟩:∃ x,x=gp ds (lowD ds g):=⟨_,rfl⟩
  rw [← hx] at h2 hm ⊢
  obtain ⟨x1,x2⟩:=x
  simp only at h2
  subst h2
  exact hm
theorem end_nd {r:Int} {ns:NdL} {ds:List Dp} (h:Pv (r,ns,ds)) {p:Nat} (hp:p<512) {g:Int} {l w:Nat} (hw:wlk (Mof ns) r p=(g,l,w)):fnd ns g=some (lsT (r,ns,ds) p).1∧(lsT (r,ns,ds) p).2=(l,w)∧(gn ns (lsT (r,ns,ds) p).1).1=g∧Mof ns g=some (gn ns (lsT (r,ns,ds) p).1).2∧(lsT (r,ns,ds) p).1<ns.length:=by
 have h1:=h.walk hp
 simp only at h1
 rw [hw] at h1
 exact ⟨h1.2.1,h1.2.2,fnd_frame h1.2.1,Mof_some.2 ⟨_,h1.2.1,rfl⟩,fnd_lt h1.2.1⟩
theorem path_f0 {r:Int} {ns:NdL} {ds:List Dp} (h:Pv (r,ns,ds)) {p:Nat} (hp:p<512) (hl:(lsT (r,ns,ds) p).2.1=0):∃ n2 w2 n1 w1 g1 g0,ptL (r,ns,ds) p=[(n2,2,w2),(n1,1,w1),lsT (r,ns,ds) p]∧fnd ns r=some n2∧fnd ns g1=some n1∧fnd ns g0=some (lsT (r,ns,ds) p).1 ∧
  frP WA (Mof ns) r 1 (p/64)=some g1∧frP WA (Mof ns) r 2 (p/8)=some g0:=by
 have hr:=h.root
 simp only at hr
 have d2:dgt p 2=p/64:=dgt2 hp
 have d1:dgt p 1=p/8%8:=dgt1
 have f1:frP WA (Mof ns) r 1 (p/64)=tabW (wd ns (rtN (r,ns,ds)) (p/64)):=by
  simp only [frP,Option.bind_some]
  rw [show p/64%8=p/64 by omega,wM_Mof hr]
  rfl
 have f2:frP WA (Mof ns) r 2 (p/8)=(frP WA (Mof ns) r 1 (p/64)).bind fun f=>tabW (wM (Mof ns) f (p/8%8)):=by
  show (frP WA (Mof ns) r 1 (p/8/8)).bind _=_
  rw [show p/8/8=p/64 by omega]
  rfl
 unfold lsT ptL at *
 simp only [lst,pth,d2,d1] at hl ⊢
 cases h2:kid WA ns (wd ns (rtN (r,ns,ds)) (p/64)) with
 | none=>rw [h2] at hl;simp at hl
 | some n1 =>
  rw [h2] at hl
  simp only at hl ⊢
  cases h1:kid WA ns (wd ns n1 (p/8%8)) with
  | none=>rw [h1] at hl;simp at hl
  | some n0 =>
   obtain ⟨g1,t1,hg1⟩:=kid_some.1 h2
   obtain ⟨g0,t0,hg0⟩:=kid_some.1 h1
   rw [show WA.tab=tabW from rfl] at t1 t0
   rw [t1] at f1
   rw [f1,Option.bind_some,wM_Mof hg1,t0] at f2
   exact ⟨_,_,n1,_,g1,g0,rfl,hr,hg1,hg0,f1,f2⟩
theorem clr_start {r:Int} {ns:NdL} {ds:List Dp} (h:Pv (r,ns,ds)) (ht:tbOK (r,ns,ds)) {p:Nat} (hp:p<512) {g:Int} {l w:Nat} (hw:wlk (Mof ns) r p=(g,l,w)) :
  let ns1:=setN ns (lsT (r,ns,ds) p).1 (dgt p l) 0
  Pv (r,ns1,ds)∧tbOK (r,ns1,ds)∧wlk (Mof ns1) r p=(g,l,0)∧(∀ d q,(d,q)∈Pos→frP WA (Mof ns1) r d q=frP WA (Mof ns) r d q):=by
 obtain ⟨a1,a2,a3,a4,a5,a6⟩:=wlk_at h.vm hp hw
 obtain ⟨e1,e2,_⟩:=end_nd h hp hw
 obtain ⟨b1,b2,b3,b4,b5⟩:=h.put ht hp hw (w:=0) (by omega) tab0 (ok0 _)
 have hst:(putT (r,ns,ds) p 0).2.1=setN ns (lsT (r,ns,ds) p).1 (dgt p l) 0:=by unfold putT;simp only [e2]
 rw [hst] at b1 b2 b3 b4
 exact ⟨b1,b2,wlk_put_self h.vm hp hw tab0 b3 b4,b4⟩
end Go.AM
namespace Go.AM
open Go Go.Proofs
def uStep (w:Nat) (S:NdL) (i j:Nat):NdL:=if wd S i j=w then setN S i j 0 else S
def uRow (w:Nat) (S:NdL) (i:Nat):Nat→NdL
 | 0=>S
 | j+1=>uStep w (uRow w S i j) i j
def uAll (w:Nat) (ns:NdL):Nat→NdL
 | 0=>ns
 | i+1=>uRow w (uAll w ns i) i 8
theorem uStep_len {w:Nat} {S:NdL} {i j:Nat}:(uStep w S i j).length=S.length:=by unfold uStep;split<;>simp
theorem uRow_len {w:Nat} {S:NdL} {i:Nat}:∀ {j:Nat},(uRow w S i j).length=S.length
 | 0=>rfl
 | j+1=>by rw [uRow,uStep_len,uRow_len]
theorem uAll_len {w:Nat} {ns:NdL}:∀ {i:Nat},(uAll w ns i).length=ns.length
 | 0=>rfl
 | i+1=>by rw [uAll,uRow_len,uAll_len]
theorem uStep_ok {w:Nat} {S:NdL} {i j:Nat} (h:∀ x∈S,ndOK x) (hi:i<S.length):∀ x∈uStep w S i j,ndOK x:=by
 unfold uStep
 split
 ·exact setN_ok h (by omega) hi
 ·exact h
theorem uRow_ok {w:Nat} {S:NdL} {i:Nat} (h:∀ x∈S,ndOK x) (hi:i<S.length):∀ {j:Nat},∀ x∈uRow w S i j,ndOK x
 | 0=>h
 | j+1=>uStep_ok (uRow_ok h hi) (by rw [uRow_len];exact hi)
theorem uAll_ok {w:Nat} {ns:NdL} (h:∀ x∈ns,ndOK x):∀ {i:Nat},i≤ns.length→∀ x∈uAll w ns i,ndOK x
 | 0,_=>h
 | i+1,hi=>uRow_ok (uAll_ok h (by omega)) (by rw [uAll_len];omega)
theorem gn_setN {S:NdL} {i j w k:Nat} (hi:i<S.length):gn (setN S i j w) k=if k=i then ((gn S i).1,(gn S i).2.set j w) else gn S k:=by
 by_cases e:k=i
 ·subst e
  rw [if_pos rfl,gn_eq (by rw [setN_len];exact hi)]
  unfold setN
  rw [List.getElem_set_self];rfl
 ·rw [if_neg e]
  unfold gn setN
  rw [List.getD_eq_getElem?_getD,List.getElem?_set_ne (by omega),List.getD_eq_getElem?_getD]
theorem uRow_gn {w:Nat} {S:NdL} {i:Nat} (hi:i<S.length) (h8:(gn S i).2.length=8):∀ {j:Nat},j≤8→∀ k,gn (uRow w S i j) k=if k=i then ((gn S i).1,(unlW w (gn S i).2).take j++(gn S i).2.drop j) else gn S k
 | 0,_,k=>by
  simp only [uRow]
  split
  ·rename_i e;subst e;simp
  ·rfl
 | j+1,hj,k=>by
  have ih:=uRow_gn (w:=w) hi h8 (j:=j) (by omega)
  have hii:=ih i
  rw [if_pos rfl] at hii
  have hl:(uRow w S i j).length=S.length:=uRow_len
  have hj8:j<(gn S i).2.length:=by omega
  have hdr:(gn S i).2.drop j=(gn S i).2[j]::(gn S i).2.drop (j+1):=(List.getElem_cons_drop hj8).symm
  have htl:((unlW w (gn S i).2).take j).length=j:=by simp;omega
  have htk:(unlW w (gn S i).2).take (j+1)=(unlW w (gn S i).2).take j++[if (gn S i).2[j]=w then 0 else (gn S i).2[j]]:=by
   rw [List.take_add_one,List.getElem?_eq_getElem (by simp;omega)]
   simp [unlW]
  have hwd:wd (uRow w S i j) i j=(gn S i).2[j]:=by
   unfold wd
   rw [← gn_getD,hii]
   simp only
   rw [List.getD_eq_getElem?_getD,List.getElem?_append_right (by omega),htl,hdr,Nat.sub_self,List.getElem?_cons_zero]
   rfl
  simp only [uRow,uStep,hwd]
  by_cases e:(gn S i).2[j]=w
  ·rw [if_pos e,gn_setN (by rw [hl];exact hi),hii]
   by_cases ek:k=i
   ·rw [if_pos ek,if_pos ek,htk,if_pos e]
    simp only
    rw [List.set_append_right _ _ (by omega),htl,hdr,Nat.sub_self,List.set_cons_zero,List.append_assoc]
    rfl
   ·rw [if_neg ek,if_neg ek,ih k,if_neg ek]
  ·rw [if_neg e,ih k]
   by_cases ek:k=i
   ·rw [if_pos ek,if_pos ek,htk,if_neg e]
    rw [hdr,List.append_assoc]
    rfl
   ·rw [if_neg ek,if_neg ek]
theorem uAll_gn {w:Nat} {ns:NdL} (h:∀ x∈ns,ndOK x):∀ {i:Nat},i≤ns.length→∀ k,gn (uAll w ns i) k=if k<i then ((gn ns k).1,unlW w (gn ns k).2) else gn ns k
 | 0,_,k=>by simp [uAll]
 | i+1,hi,k=>by
  have ih:=uAll_gn (w:=w) h (i:=i) (by omega)
  have hii:=ih i
  rw [if_neg (by omega)] at hii
  have h8:(gn ns i).2.length=8:=(h _ (gn_mem (by omega))).1
  simp only [uAll]
  rw [uRow_gn (by rw [uAll_len];omega) (by rw [hii];exact h8) (Nat.le_refl _),hii]
  by_cases ek:k=i
  ·subst ek
   rw [if_pos rfl,if_pos (by omega),List.take_of_length_le (by simp;omega),List.drop_of_length_le (by omega),List.append_nil]
  ·rw [if_neg ek,ih k]
   by_cases e2:k<i
   ·rw [if_pos e2,if_pos (by omega)]
   ·rw [if_neg e2,if_neg (by omega)]
theorem uAll_unl {w:Nat} {ns:NdL} (h:∀ x∈ns,ndOK x):uAll w ns ns.length=unl w ns:=by
 refine List.ext_getElem (by rw [uAll_len,unl_len]) fun k h1 h2=>?_
 rw [uAll_len] at h1
 have:=uAll_gn (w:=w) h (Nat.le_refl _) k
 rw [if_pos h1,gn_eq (by rw [uAll_len];exact h1),gn_eq h1] at this
 rw [this]
 simp [unl]
end Go.AM
namespace Go.AM
open Go Go.Proofs
theorem lowD_lt {ds:List Dp} {g:Int} {k:Nat} (h:k<lowD ds g):¬ g≤(gp ds k).1:=by
 have hk:k<ds.length:=Nat.lt_of_lt_of_le h lowD_le
 have:=List.not_of_lt_findIdx (p:=fun d:Dp=>decide (g≤d.1)) (xs:=ds) h
 rw [gp_eq hk]
 simpa using this
theorem lowD_ge {ds:List Dp} {g:Int} (h:lowD ds g<ds.length):g≤(gp ds (lowD ds g)).1:=by
 have:=List.findIdx_getElem (p:=fun d:Dp=>decide (g≤d.1)) (xs:=ds) (w:=h)
 rw [gp_eq h]
 exact of_decide_eq_true this
theorem insL_eq {ds:List Dp} (ha:ascK ds) {g f:Int} (hn:∀ d∈ds,d.1≠g):insL ds g f=insK ds (g,f):=by
 have h1:∀ a∈ds.take (lowD ds g),¬ (g,f).1<a.1:=fun a ha'=>by
  obtain ⟨k,hk,rfl⟩:=List.getElem_of_mem ha'
  simp only [List.length_take] at hk
  rw [List.getElem_take]
  have:=lowD_lt (ds:=ds) (g:=g) (k:=k) (by omega)
  rw [gp_eq (by omega)] at this
  simp only
  omega
 unfold insL
 by_cases h:lowD ds g<ds.length
 ·have h2:=lowD_ge (ds:=ds) (g:=g) h
  have hm:gp ds (lowD ds g)∈ds:=by rw [gp_eq h];exact List.getElem_mem h
  have h3:=hn _ hm
  have e:=insK_hit (n:=(g,f)) (x:=gp ds (lowD ds g)) (r:=ds.drop (lowD ds g+1)) (l:=ds.take (lowD ds g)) h1 (by simp only;omega)
  rw [← lowD_split h] at e
  rw [e,gp_eq h,List.getElem_cons_drop]
 ·have e:=insK_none (n:=(g,f)) (l:=ds.take (lowD ds g)) h1
  rw [List.take_of_length_le (by omega)] at e
  rw [List.take_of_length_le (by omega),List.drop_of_length_le (by omega),e]
theorem grp_abs {r:Int} {ns:NdL} {ds:List Dp} (hv:Vt (r,ns,ds)) {g:Nat} (hg:g<64) (h0:(decR (lsT (r,ns,ds) (g*8)).2.2).1.2.2.2.2.2=false):∀ d∈ds,d.1≠(g:Int):=fun d hd e=>by
 have hm:(g:Int)∈ds.map (·.1):=List.mem_map.2 ⟨d,hd,e⟩
 have hdp:=hv.dep
 simp only at hdp
 rw [hdp] at hm
 obtain ⟨k,hk,e2,hb⟩:=mem_hugM.1 hm
 have:k=g:=by omega
 subst this
 rw [hugB_last hv hk,h0] at hb
 simp at hb
def spR (m w:Nat) (N:NdL):Nat→NdL
 | 0=>N
 | k+1=>setN (spR m w N k) m k (spW w k)
theorem spR_len {m w:Nat} {N:NdL}:∀ {k:Nat},(spR m w N k).length=N.length
 | 0=>rfl
 | k+1=>by rw [spR,setN_len,spR_len]
theorem spR_st {m w:Nat} {N:NdL} (ha:ascN N) (hok:∀ x∈N,ndOK x) (hm:m<N.length) (hw:∀ k,k<8→spW w k<2^64):∀ {k:Nat},k≤8→ascN (spR m w N k)∧(∀ x∈spR m w N k,ndOK x)∧(∀ x,fnd (spR m w N k) x=fnd N x)∧(∀ j,j≠m→gn (spR m w N k) j=gn N j)∧(gn (spR m w N k) m).1=(gn N m).1
 | 0,_=>⟨ha,hok,fun _=>rfl,fun _ _=>rfl,rfl⟩
 | k+1,h=>by
  obtain ⟨a,b,c,d,e⟩:=spR_st ha hok hm hw (k:=k) (by omega)
  have hm':m<(spR m w N k).length:=by rw [spR_len];exact hm
  refine ⟨setN_asc a hm',setN_ok b (hw k (by omega)) hm',fun x=>by rw [spR,fnd_set hm',c],fun j hj=>by rw [spR,gn_setN hm',if_neg hj,d j hj],by rw [spR,gn_setN hm',if_pos rfl];exact e⟩
theorem spR_fin {m w:Nat} {N:NdL} (ha:ascN N) (hok:∀ x∈N,ndOK x) {f:Int} (hf:fnd N f=some m) (hz:(gn N m).2=zs8) (hw:∀ k,k<8→spW w k<2^64) (x:Int):Mof (spR m w N 8) x=if x=f then some ((List.range 8).map (spW w)) else Mof N x:=by
 have hm:=fnd_lt hf
 obtain ⟨a,b,c,d,e⟩:=spR_st ha hok hm hw (Nat.le_refl 8)
 have hl:∀ k,k≤8→m<(spR m w N k).length:=fun k _=>by rw [spR_len];exact hm
 have hg:(gn (spR m w N 8) m).2=(List.range 8).map (spW w):=by
  have key:∀ k,k≤7→gn (spR m w N (k+1)) m=((gn (spR m w N k) m).1,(gn (spR m w N k) m).2.set k (spW w k)):=fun k hk=>by
   rw [spR,gn_setN (hl k (by omega)),if_pos rfl]
  rw [key 7 (by omega),key 6 (by omega),key 5 (by omega),key 4 (by omega),key 3 (by omega),key 2 (by omega),key 1 (by omega),key 0 (by omega)]
  simp only [spR]
  rw [hz]
  rfl
 by_cases ex:x=f
 ·subst ex
  rw [if_pos rfl]
  exact Mof_some.2 ⟨m,by rw [c];exact hf,hg⟩
 ·rw [if_neg ex]
  cases h:fnd N x with
  | none =>
   have h':=c x
   rw [h] at h'
   unfold Mof
   rw [h,h'];rfl
  | some k =>
   have h':=c x
   rw [h] at h'
   have hk:k≠m:=fun e=>by
    subst e
    have k1:=fnd_frame h
    have k2:=fnd_frame hf
    exact ex (k1.symm.trans k2)
   unfold Mof
   rw [h,h']
   simp only [Option.map_some]
   rw [← gn_getD,← gn_getD,d k hk]
theorem updW_twice {M:Mm} {f:Int} {i v w:Nat}:updW (updW M f i v) f i w=updW M f i w:=by
 funext x
 unfold updW
 split
 ·simp only [if_true,Option.map_map]
  congr 1
  funext l
  simp
 ·rfl
theorem split_ref {r:Int} {ns:NdL} {ds:List Dp} (hv:Vt (r,ns,ds)) (ht:tbOK (r,ns,ds)) (hl9:ns.length≤999000) {g p:Nat} (hg:g<64) (hpg:p=g*8) {f0:Int} {w:Nat} (hw:wlk (Mof ns) r p=(f0,1,w)) (hh:(decR w).1.2.2.2.2.2=true) :
  ∃ f m k:Nat,(gp ds (lowD ds g)).2=(f:Int)∧f≤4294967295∧(∀ n∈ns,n.1≠(f:Int))∧m<(insK ns ((f:Int),zs8)).length∧(gn (insK ns ((f:Int),zs8)) m).1=(gn ns (lsT (r,ns,ds) p).1).1 ∧
   setN (insK ns ((f:Int),zs8)) m (dgt p 1) (f*256+4)=insK (setN ns (lsT (r,ns,ds) p).1 (dgt p 1) (f*256+4)) ((f:Int),zs8) ∧
   fnd (insK (setN ns (lsT (r,ns,ds) p).1 (dgt p 1) (f*256+4)) ((f:Int),zs8)) (f:Int)=some k∧ascN (insK (setN ns (lsT (r,ns,ds) p).1 (dgt p 1) (f*256+4)) ((f:Int),zs8)) ∧
   (∀ x∈insK (setN ns (lsT (r,ns,ds) p).1 (dgt p 1) (f*256+4)) ((f:Int),zs8),ndOK x) ∧
   spR k w (insK (setN ns (lsT (r,ns,ds) p).1 (dgt p 1) (f*256+4)) ((f:Int),zs8)) 8=spN r ds p w (spB (r,ns,ds) p (gp ds (lowD ds g)).2) 8:=by
 have hpv:=hv.pv
 have hp:p<512:=by omega
 obtain ⟨s1,s2,⟨f,s3,s4,s5⟩,s6⟩:=split_steps hv ht hl9 hg hpg hw hh
 simp only at s6
 obtain ⟨s7,s8⟩:=s6
 obtain ⟨t1,t2,t3,t4,t5⟩:=s8 8 (Nat.le_refl _)
 obtain ⟨e1,e2,e3,e4,e5⟩:=end_nd hpv hp hw
 have hnf:∀ n∈ns,n.1≠(f:Int):=by
  have hm:gp ds (lowD ds g)∈ds:=by rw [gp_eq s2];exact List.getElem_mem s2
  have:=hv.num.apart _ hm
  rw [s3] at this
  exact this
 obtain ⟨m,m1,m2,m3⟩:=insK_put hpv.asc hnf (i:=dgt p 1) (w:=f*256+4) e5
 have hsa:=setN_asc hpv.asc (i:=dgt p 1) (w:=f*256+4) e5
 have hsf:=setN_fr (i:=dgt p 1) (w:=f*256+4) e5 hnf
 obtain ⟨N,hN⟩:∃ N,N=insK (setN ns (lsT (r,ns,ds) p).1 (dgt p 1) (f*256+4)) ((f:Int),zs8):=⟨_,rfl⟩
 have hNa:ascN N:=by rw [hN];exact insK_asc hsa hsf
 have hNok:∀ x∈N,ndOK x:=fun x hx=>by
  rw [hN] at hx
  rcases mem_insK.1 hx with e|hx
  ·rw [e];exact ⟨rfl,fun w hw=>by simp [zs8] at hw;omega⟩
  ·exact setN_ok ht.1 (by omega) e5 x hx
 have hNM:∀ x,Mof N x=updM1 (updW (Mof ns) f0 (dgt p 1) (f*256+4)) f (some zs8) x:=fun x=>by
  rw [hN,Mof_ins hsa hsf,show Mof (setN ns (lsT (r,ns,ds) p).1 (dgt p 1) (f*256+4))=updW (Mof ns) f0 (dgt p 1) (f*256+4) from Mof_ext (Mof_set hpv.asc e1)]
 obtain ⟨k,k1,k2⟩:=Mof_some.1 (show Mof N (f:Int)=some zs8 by rw [hNM];simp [updM1])
 refine ⟨f,m,k,s3,s4,hnf,m1,m2,m3,by rw [← hN];exact k1,by rw [← hN];exact hNa,by rw [← hN];exact hNok,?_⟩
 rw [← hN]
 have hw64:∀ i,i<8→spW w i<2^64:=fun i hi=>(spW_ok s1 hh hi).2.1
 refine ext_asc (spR_st hNa hNok (fnd_lt k1) hw64 (Nat.le_refl 8)).1 t1.asc fun x=>?_
 rw [spR_fin hNa hNok k1 (by rw [gn_getD];exact k2) hw64,t5,s3]
 show _=if x=(f:Int) then _ else _
 by_cases ex:x=(f:Int)
 ·rw [if_pos ex,if_pos ex]
  rfl
 ·rw [if_neg ex,if_neg ex,hNM]
  obtain ⟨b1,b2,b3,b4⟩:=clr_start hpv ht hp hw
  have hput:(putT (r,ns,ds) p 0).2.1=setN ns (lsT (r,ns,ds) p).1 (dgt p 1) 0:=by unfold putT;simp only [e2]
  have hfn2:∀ n∈setN ns (lsT (r,ns,ds) p).1 (dgt p 1) 0,n.1≠(f:Int):=setN_fr e5 hnf
  obtain ⟨_,_,g3,_⟩:=b1.grow b2 hp s4 hfn2 b3 (by rw [setN_len];omega)
  unfold spB
  simp only [hput]
  rw [g3]
  unfold updM1
  rw [if_neg ex,if_neg ex,show Mof (setN ns (lsT (r,ns,ds) p).1 (dgt p 1) 0)=updW (Mof ns) f0 (dgt p 1) 0 from Mof_ext (Mof_set hpv.asc e1),updW_twice]
end Go.AM
