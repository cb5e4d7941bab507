/- A part of the proof: what functions of the program compute, by abstract execution of their code. Its theorems hold without further condition. -/
import Derived.Test.YtcfhmdljeeppfaaGreatUMPtRb
set_option linter.all false
namespace Go.AM
open Go Go.Proofs
@[simp] theorem tySa:Types Tryz.prog 95=some ⟨.struct [(0,3,1),(1,76,1),(2,89,1)],3,40,[.int .i64 0,.int .u64 0,.slice none 0 0]⟩:=by kernel_rfl
@[simp] theorem tySas:Types Tryz.prog 98=some ⟨.slice 95,1,24,[.slice none 0 0]⟩:=by kernel_rfl
theorem nxF_s {nx k:Nat}:nxF nx (k+1)=nxF nx k++[((nx+k:Nat):Int)]:=by
 unfold nxF
 rw [List.range_succ,List.map_append]
 rfl
theorem wcs_st {m:List Nat} {k:Nat} {w:Nat}:(wcs m).set k (AV.v (.int .u64 (w:Int)))=wcs (m.set k w):=by
 unfold wcs
 rw [List.map_set]
 rfl
abbrev MapS:=Nat×NdL×List Nat×Nat
set_option maxHeartbeats 32000000 in
theorem s9 (X:AX) (L:LawM X):PSound Tryz.prog 9 (specF (ι:={l:List Opp // ∀ o∈l,o.2.1<2^64}) (fun x=>[.rd 3 (oprows x.1)]) fun _=>retOf [B true]):=by
 have hX:=L.ok
 have hw:=L.w
 refine psound_spec hX mixed Tryz.func9 rfl fun ⟨l,hu⟩ w0 G=>⟨by show 1≤205;decide,rfl,?_⟩
 show AW ⟨Tryz.prog,X,205,w0,.pure G⟩ _ _ _
 have hc:Cx.OK ⟨Tryz.prog,X,205,w0,.pure G⟩:=⟨hX,mixed⟩
 have aw:=L.aw
 have ne:=L.ne 0
 rw [newT_0] at ne
 simp only [TbC,outT] at ne
 simp only at hu ⊢
 rcases Decidable.em (40<l.length) with h40|h40
 ·have h40I:(40:Int)<(l.length:Int):=by omega
  repeat' (first|(apply aw_seq_k;intro K hK)|(refine aw_run hc (by exact aw_nod) ?_;simp [List.zipIdx,aw,ne,h40,h40I,-getM,getM_hit,getM_miss,getM_none];(repeat (simp (disch:=first|omega|assumption|fail) only [if_pos,if_neg,wrap64];try simp [List.zipIdx,aw,ne,h40,h40I,-getM,getM_hit,getM_miss,getM_none]));try (repeat' (refine guardQ_split (fun h=>?_) (fun h=>?_)<;>simp at h<;>(simp [List.zipIdx,aw,ne,h40,h40I,-getM,getM_hit,getM_miss,getM_none];(repeat (simp (disch:=first|omega|assumption|fail) only [if_pos,if_neg,wrap64];try simp [List.zipIdx,aw,ne,h40,h40I,-getM,getM_hit,getM_miss,getM_none]))))))|(refine aw_runFt hc ?_;simp [List.zipIdx,aw,ne,h40,h40I,-getM,getM_hit,getM_miss,getM_none];(repeat (simp (disch:=first|omega|assumption|fail) only [if_pos,if_neg,wrap64];try simp [List.zipIdx,aw,ne,h40,h40I,-getM,getM_hit,getM_miss,getM_none]));refine ⟨by kernel_rfl,?_⟩)|(refine aw_run hc (by first|(intro _;rw [ordB_w hw];kernel_rfl)|(intro _;rw [ordB_w0 hw0];kernel_rfl)|(intro _;kernel_rfl)) ?_;simp [List.zipIdx,aw,ne,h40,h40I,-getM,getM_hit,getM_miss,getM_none];(repeat (simp (disch:=first|omega|assumption|fail) only [if_pos,if_neg,wrap64];try simp [List.zipIdx,aw,ne,h40,h40I,-getM,getM_hit,getM_miss,getM_none]));try (repeat' (refine guardQ_split (fun h=>?_) (fun h=>?_)<;>simp at h<;>(simp [List.zipIdx,aw,ne,h40,h40I,-getM,getM_hit,getM_miss,getM_none];(repeat (simp (disch:=first|omega|assumption|fail) only [if_pos,if_neg,wrap64];try simp [List.zipIdx,aw,ne,h40,h40I,-getM,getM_hit,getM_miss,getM_none]))))))|(refine aw_cond (b:=_) (by exact rfl) (fun h=>?_) (fun h=>?_)<;>(try simp at h))|(refine aw_block ?_)|(refine aw_skip ?_;simp only [thenQ,blockQ,if_true])|(refine aw_exit ?_;simp [thenQ,blockQ])|(refine aw_ret ?_;simp only [thenQ,blockQ])|(refine aw_round ?_)|(refine hK _ ?_;clear hK)|(clear hK;refine hK _ ?_;clear hK)|(clear hK;clear hK;refine hK _ ?_;clear hK)|(clear hK;clear hK;clear hK;refine hK _ ?_;clear hK))
  all_goals refine ⟨by simp,?_⟩
  all_goals simp [leaves_iff,Tryz.f9]
  all_goals try (first|omega|(refine decide_eq_decide.2 ?_;omega)|(refine decide_eq_false ?_;omega)|(refine decide_eq_true ?_;omega))
 ·have h40I:¬ (40:Int)<(l.length:Int):=by omega
  repeat' (first|(apply aw_seq_k;intro K hK)|(refine aw_run hc (by exact aw_nod) ?_;simp [List.zipIdx,ne,h40,h40I,z512_all,z512_map,-getM,getM_hit,getM_miss,getM_none];(repeat (simp (disch:=first|omega|assumption|fail) only [if_pos,if_neg,wrap64];try simp [List.zipIdx,ne,h40,h40I,z512_all,z512_map,-getM,getM_hit,getM_miss,getM_none]));try (repeat' (refine guardQ_split (fun h=>?_) (fun h=>?_)<;>simp at h<;>(simp [List.zipIdx,ne,h40,h40I,z512_all,z512_map,-getM,getM_hit,getM_miss,getM_none];(repeat (simp (disch:=first|omega|assumption|fail) only [if_pos,if_neg,wrap64];try simp [List.zipIdx,ne,h40,h40I,z512_all,z512_map,-getM,getM_hit,getM_miss,getM_none]))))))|(refine aw_runFt hc ?_;simp [List.zipIdx,ne,h40,h40I,z512_all,z512_map,-getM,getM_hit,getM_miss,getM_none];(repeat (simp (disch:=first|omega|assumption|fail) only [if_pos,if_neg,wrap64];try simp [List.zipIdx,ne,h40,h40I,z512_all,z512_map,-getM,getM_hit,getM_miss,getM_none]));refine ⟨by kernel_rfl,?_⟩)|(refine aw_run hc (by first|(intro _;rw [ordB_w hw];kernel_rfl)|(intro _;rw [ordB_w0 hw0];kernel_rfl)|(intro _;kernel_rfl)) ?_;simp [List.zipIdx,ne,h40,h40I,z512_all,z512_map,-getM,getM_hit,getM_miss,getM_none];(repeat (simp (disch:=first|omega|assumption|fail) only [if_pos,if_neg,wrap64];try simp [List.zipIdx,ne,h40,h40I,z512_all,z512_map,-getM,getM_hit,getM_miss,getM_none]));try (repeat' (refine guardQ_split (fun h=>?_) (fun h=>?_)<;>simp at h<;>(simp [List.zipIdx,ne,h40,h40I,z512_all,z512_map,-getM,getM_hit,getM_miss,getM_none];(repeat (simp (disch:=first|omega|assumption|fail) only [if_pos,if_neg,wrap64];try simp [List.zipIdx,ne,h40,h40I,z512_all,z512_map,-getM,getM_hit,getM_miss,getM_none]))))))|(refine aw_cond (b:=_) (by exact rfl) (fun h=>?_) (fun h=>?_)<;>(try simp at h))|(refine aw_block ?_)|(refine aw_skip ?_;simp only [thenQ,blockQ,if_true])|(refine aw_exit ?_;simp [thenQ,blockQ])|(refine aw_ret ?_;simp only [thenQ,blockQ])|(refine aw_round ?_)|(refine hK _ ?_;clear hK)|(clear hK;refine hK _ ?_;clear hK)|(clear hK;clear hK;refine hK _ ?_;clear hK)|(clear hK;clear hK;clear hK;refine hK _ ?_;clear hK))
  refine aw_loopK (s0:=?lps1) (m0:=?lpm1) (ι:={s:MapS // s.1≤l.length∧s.2.2.2≤1+2*s.1∧IsM s.2.1 s.2.2.1 s.2.2.2}) [3,5,39,40] (fun s=>[(6,I s.1.2.2.2),(41,I s.1.1)]) (fun s=>[(80,.box [I 0,.sl 16 1 9 0 s.1.2.1.length,.sl 17 1 2 0 0]),(16,.vec 1 9 false (nrows s.1.2.1)),(17,.vec 1 2 false (prows [])),(240,.box (wcs s.1.2.2.1))]) (fun s=>l.length - s.1.1) ⟨(0,ns0,m0,1),by simp only;omega,by simp only;omega,isM_0⟩ ?lhs1 ?lhm1 ?_ ?_
  case lhs1=>first|(simp [keepS];done)|(simp [keepS];rfl)
  case lhm1=>first|rfl|(simp;done)|(simp;rfl)
  ·exact le_of2 (by simp) (by simp [AVle,AV.under,AV.underL]<;>omega) (by simp [AOle,AO.under,AV.underL,AV.under]<;>omega)
  ·rintro ⟨⟨i,ns,m,nx⟩,hi,hnx,hM⟩
   simp only at hi hnx hM ⊢
   have hlen:=hM.len
   have hle:=hM.le
   rcases Decidable.em (i<l.length) with hil|hil
   ·have hilI:(i:Int)<(l.length:Int):=by omega
    have hg:=oprows_gi hil
    have hgE:=oprows_gE hil
    have hu64:=hu _ (gop_mem hil)
    obtain ⟨⟨p,w,fs⟩,ho⟩:∃ o,o=gop l i:=⟨_,rfl⟩
    rw [← ho] at hg hgE hu64
    simp only [oprow,U] at hg hgE hu64
    clear ho
    rcases Decidable.em (p<0) with hp0|hp0
    ·repeat' (first|(apply aw_seq_k;intro K hK)|(refine aw_run hc (by exact aw_nod) ?_;simp [List.zipIdx,hilI,hil,hg,hgE,hp0,-getM,getM_hit,getM_miss,getM_none];(repeat (simp (disch:=first|omega|assumption|fail) only [if_pos,if_neg,wrap64];try simp [List.zipIdx,hilI,hil,hg,hgE,hp0,-getM,getM_hit,getM_miss,getM_none]));try (repeat' (refine guardQ_split (fun h=>?_) (fun h=>?_)<;>simp at h<;>(simp [List.zipIdx,hilI,hil,hg,hgE,hp0,-getM,getM_hit,getM_miss,getM_none];(repeat (simp (disch:=first|omega|assumption|fail) only [if_pos,if_neg,wrap64];try simp [List.zipIdx,hilI,hil,hg,hgE,hp0,-getM,getM_hit,getM_miss,getM_none]))))))|(refine aw_runFt hc ?_;simp [List.zipIdx,hilI,hil,hg,hgE,hp0,-getM,getM_hit,getM_miss,getM_none];(repeat (simp (disch:=first|omega|assumption|fail) only [if_pos,if_neg,wrap64];try simp [List.zipIdx,hilI,hil,hg,hgE,hp0,-getM,getM_hit,getM_miss,getM_none]));refine ⟨by kernel_rfl,?_⟩)|(refine aw_run hc (by first|(intro _;rw [ordB_w hw];kernel_rfl)|(intro _;rw [ordB_w0 hw0];kernel_rfl)|(intro _;kernel_rfl)) ?_;simp [List.zipIdx,hilI,hil,hg,hgE,hp0,-getM,getM_hit,getM_miss,getM_none];(repeat (simp (disch:=first|omega|assumption|fail) only [if_pos,if_neg,wrap64];try simp [List.zipIdx,hilI,hil,hg,hgE,hp0,-getM,getM_hit,getM_miss,getM_none]));try (repeat' (refine guardQ_split (fun h=>?_) (fun h=>?_)<;>simp at h<;>(simp [List.zipIdx,hilI,hil,hg,hgE,hp0,-getM,getM_hit,getM_miss,getM_none];(repeat (simp (disch:=first|omega|assumption|fail) only [if_pos,if_neg,wrap64];try simp [List.zipIdx,hilI,hil,hg,hgE,hp0,-getM,getM_hit,getM_miss,getM_none]))))))|(refine aw_cond (b:=_) (by exact rfl) (fun h=>?_) (fun h=>?_)<;>(try simp at h))|(refine aw_block ?_)|(refine aw_skip ?_;simp only [thenQ,blockQ,if_true])|(refine aw_exit ?_;simp [thenQ,blockQ])|(refine aw_ret ?_;simp only [thenQ,blockQ])|(refine aw_round ?_)|(refine hK _ ?_;clear hK)|(clear hK;refine hK _ ?_;clear hK)|(clear hK;clear hK;refine hK _ ?_;clear hK)|(clear hK;clear hK;clear hK;refine hK _ ?_;clear hK))
     refine ⟨i+1,ns,m,nx,?_,⟨by omega,by omega,hM⟩,by omega⟩
     exact le_of2 (by simp) (by simp [AVle,AV.under,AV.underL]<;>omega) (by simp [AOle,AO.under,AV.underL,AV.under]<;>omega)
    ·rcases Decidable.em (512≤p) with hp1|hp1
     ·repeat' (first|(apply aw_seq_k;intro K hK)|(refine aw_run hc (by exact aw_nod) ?_;simp [List.zipIdx,hilI,hil,hg,hgE,hp0,hp1,-getM,getM_hit,getM_miss,getM_none];(repeat (simp (disch:=first|omega|assumption|fail) only [if_pos,if_neg,wrap64];try simp [List.zipIdx,hilI,hil,hg,hgE,hp0,hp1,-getM,getM_hit,getM_miss,getM_none]));try (repeat' (refine guardQ_split (fun h=>?_) (fun h=>?_)<;>simp at h<;>(simp [List.zipIdx,hilI,hil,hg,hgE,hp0,hp1,-getM,getM_hit,getM_miss,getM_none];(repeat (simp (disch:=first|omega|assumption|fail) only [if_pos,if_neg,wrap64];try simp [List.zipIdx,hilI,hil,hg,hgE,hp0,hp1,-getM,getM_hit,getM_miss,getM_none]))))))|(refine aw_runFt hc ?_;simp [List.zipIdx,hilI,hil,hg,hgE,hp0,hp1,-getM,getM_hit,getM_miss,getM_none];(repeat (simp (disch:=first|omega|assumption|fail) only [if_pos,if_neg,wrap64];try simp [List.zipIdx,hilI,hil,hg,hgE,hp0,hp1,-getM,getM_hit,getM_miss,getM_none]));refine ⟨by kernel_rfl,?_⟩)|(refine aw_run hc (by first|(intro _;rw [ordB_w hw];kernel_rfl)|(intro _;rw [ordB_w0 hw0];kernel_rfl)|(intro _;kernel_rfl)) ?_;simp [List.zipIdx,hilI,hil,hg,hgE,hp0,hp1,-getM,getM_hit,getM_miss,getM_none];(repeat (simp (disch:=first|omega|assumption|fail) only [if_pos,if_neg,wrap64];try simp [List.zipIdx,hilI,hil,hg,hgE,hp0,hp1,-getM,getM_hit,getM_miss,getM_none]));try (repeat' (refine guardQ_split (fun h=>?_) (fun h=>?_)<;>simp at h<;>(simp [List.zipIdx,hilI,hil,hg,hgE,hp0,hp1,-getM,getM_hit,getM_miss,getM_none];(repeat (simp (disch:=first|omega|assumption|fail) only [if_pos,if_neg,wrap64];try simp [List.zipIdx,hilI,hil,hg,hgE,hp0,hp1,-getM,getM_hit,getM_miss,getM_none]))))))|(refine aw_cond (b:=_) (by exact rfl) (fun h=>?_) (fun h=>?_)<;>(try simp at h))|(refine aw_block ?_)|(refine aw_skip ?_;simp only [thenQ,blockQ,if_true])|(refine aw_exit ?_;simp [thenQ,blockQ])|(refine aw_ret ?_;simp only [thenQ,blockQ])|(refine aw_round ?_)|(refine hK _ ?_;clear hK)|(clear hK;refine hK _ ?_;clear hK)|(clear hK;clear hK;refine hK _ ?_;clear hK)|(clear hK;clear hK;clear hK;refine hK _ ?_;clear hK))
      refine ⟨i+1,ns,m,nx,?_,⟨by omega,by omega,hM⟩,by omega⟩
      exact le_of2 (by simp) (by simp [AVle,AV.under,AV.underL]<;>omega) (by simp [AOle,AO.under,AV.underL,AV.under]<;>omega)
     ·obtain ⟨q,rfl⟩:=Int.eq_ofNat_of_zero_le (by omega:0≤p)
      have hq:q<512:=by omega
      have hqI:(q:Int)<512:=by omega
      have hwl:(wcs m).length=512:=by simp [hlen]
      have hr1:=wcs_rd hlen hq
      have hr2:=wcs_rE hlen hq
      obtain ⟨v,hv⟩:∃ v,v=m.getD q 0:=⟨_,rfl⟩
      rw [← hv] at hr1 hr2
      simp only [U] at hr1 hr2
      rcases Decidable.em (v=0) with hv0|hv0
      ·subst hv0
       have de:=L.de w hu64
       obtain ⟨⟨⟨k,num,b1,b2,b3,hgf⟩,er⟩,hx⟩:∃ x,x=decR w:=⟨_,rfl⟩
       rw [← hx] at de
       simp only [EnV,U] at de
       rcases Decidable.em (er=0) with he|he
       ·subst he
        cases hgf with
        | true =>
         repeat' (first|(apply aw_seq_k;intro K hK)|(refine aw_run hc (by exact aw_nod) ?_;simp [List.zipIdx,hilI,hil,hg,hgE,hp0,hp1,hqI,hq,hwl,hr1,hr2,de,-getM,getM_hit,getM_miss,getM_none];(repeat (simp (disch:=first|omega|assumption|fail) only [if_pos,if_neg,wrap64];try simp [List.zipIdx,hilI,hil,hg,hgE,hp0,hp1,hqI,hq,hwl,hr1,hr2,de,-getM,getM_hit,getM_miss,getM_none]));try (repeat' (refine guardQ_split (fun h=>?_) (fun h=>?_)<;>simp at h<;>(simp [List.zipIdx,hilI,hil,hg,hgE,hp0,hp1,hqI,hq,hwl,hr1,hr2,de,-getM,getM_hit,getM_miss,getM_none];(repeat (simp (disch:=first|omega|assumption|fail) only [if_pos,if_neg,wrap64];try simp [List.zipIdx,hilI,hil,hg,hgE,hp0,hp1,hqI,hq,hwl,hr1,hr2,de,-getM,getM_hit,getM_miss,getM_none]))))))|(refine aw_runFt hc ?_;simp [List.zipIdx,hilI,hil,hg,hgE,hp0,hp1,hqI,hq,hwl,hr1,hr2,de,-getM,getM_hit,getM_miss,getM_none];(repeat (simp (disch:=first|omega|assumption|fail) only [if_pos,if_neg,wrap64];try simp [List.zipIdx,hilI,hil,hg,hgE,hp0,hp1,hqI,hq,hwl,hr1,hr2,de,-getM,getM_hit,getM_miss,getM_none]));refine ⟨by kernel_rfl,?_⟩)|(refine aw_run hc (by first|(intro _;rw [ordB_w hw];kernel_rfl)|(intro _;rw [ordB_w0 hw0];kernel_rfl)|(intro _;kernel_rfl)) ?_;simp [List.zipIdx,hilI,hil,hg,hgE,hp0,hp1,hqI,hq,hwl,hr1,hr2,de,-getM,getM_hit,getM_miss,getM_none];(repeat (simp (disch:=first|omega|assumption|fail) only [if_pos,if_neg,wrap64];try simp [List.zipIdx,hilI,hil,hg,hgE,hp0,hp1,hqI,hq,hwl,hr1,hr2,de,-getM,getM_hit,getM_miss,getM_none]));try (repeat' (refine guardQ_split (fun h=>?_) (fun h=>?_)<;>simp at h<;>(simp [List.zipIdx,hilI,hil,hg,hgE,hp0,hp1,hqI,hq,hwl,hr1,hr2,de,-getM,getM_hit,getM_miss,getM_none];(repeat (simp (disch:=first|omega|assumption|fail) only [if_pos,if_neg,wrap64];try simp [List.zipIdx,hilI,hil,hg,hgE,hp0,hp1,hqI,hq,hwl,hr1,hr2,de,-getM,getM_hit,getM_miss,getM_none]))))))|(refine aw_cond (b:=_) (by exact rfl) (fun h=>?_) (fun h=>?_)<;>(try simp at h))|(refine aw_block ?_)|(refine aw_skip ?_;simp only [thenQ,blockQ,if_true])|(refine aw_exit ?_;simp [thenQ,blockQ])|(refine aw_ret ?_;simp only [thenQ,blockQ])|(refine aw_round ?_)|(refine hK _ ?_;clear hK)|(clear hK;refine hK _ ?_;clear hK)|(clear hK;clear hK;refine hK _ ?_;clear hK)|(clear hK;clear hK;clear hK;refine hK _ ?_;clear hK))
         refine ⟨i+1,ns,m,nx,?_,⟨by omega,by omega,hM⟩,by omega⟩
         exact le_of2 (by simp) (by simp [AVle,AV.under,AV.underL]<;>omega) (by simp [AOle,AO.under,AV.underL,AV.under]<;>omega)
        | false =>
         rcases Decidable.em (k=0) with hk0|hk0
         ·repeat' (first|(apply aw_seq_k;intro K hK)|(refine aw_run hc (by exact aw_nod) ?_;simp [List.zipIdx,hilI,hil,hg,hgE,hp0,hp1,hqI,hq,hwl,hr1,hr2,de,hk0,-getM,getM_hit,getM_miss,getM_none];(repeat (simp (disch:=first|omega|assumption|fail) only [if_pos,if_neg,wrap64];try simp [List.zipIdx,hilI,hil,hg,hgE,hp0,hp1,hqI,hq,hwl,hr1,hr2,de,hk0,-getM,getM_hit,getM_miss,getM_none]));try (repeat' (refine guardQ_split (fun h=>?_) (fun h=>?_)<;>simp at h<;>(simp [List.zipIdx,hilI,hil,hg,hgE,hp0,hp1,hqI,hq,hwl,hr1,hr2,de,hk0,-getM,getM_hit,getM_miss,getM_none];(repeat (simp (disch:=first|omega|assumption|fail) only [if_pos,if_neg,wrap64];try simp [List.zipIdx,hilI,hil,hg,hgE,hp0,hp1,hqI,hq,hwl,hr1,hr2,de,hk0,-getM,getM_hit,getM_miss,getM_none]))))))|(refine aw_runFt hc ?_;simp [List.zipIdx,hilI,hil,hg,hgE,hp0,hp1,hqI,hq,hwl,hr1,hr2,de,hk0,-getM,getM_hit,getM_miss,getM_none];(repeat (simp (disch:=first|omega|assumption|fail) only [if_pos,if_neg,wrap64];try simp [List.zipIdx,hilI,hil,hg,hgE,hp0,hp1,hqI,hq,hwl,hr1,hr2,de,hk0,-getM,getM_hit,getM_miss,getM_none]));refine ⟨by kernel_rfl,?_⟩)|(refine aw_run hc (by first|(intro _;rw [ordB_w hw];kernel_rfl)|(intro _;rw [ordB_w0 hw0];kernel_rfl)|(intro _;kernel_rfl)) ?_;simp [List.zipIdx,hilI,hil,hg,hgE,hp0,hp1,hqI,hq,hwl,hr1,hr2,de,hk0,-getM,getM_hit,getM_miss,getM_none];(repeat (simp (disch:=first|omega|assumption|fail) only [if_pos,if_neg,wrap64];try simp [List.zipIdx,hilI,hil,hg,hgE,hp0,hp1,hqI,hq,hwl,hr1,hr2,de,hk0,-getM,getM_hit,getM_miss,getM_none]));try (repeat' (refine guardQ_split (fun h=>?_) (fun h=>?_)<;>simp at h<;>(simp [List.zipIdx,hilI,hil,hg,hgE,hp0,hp1,hqI,hq,hwl,hr1,hr2,de,hk0,-getM,getM_hit,getM_miss,getM_none];(repeat (simp (disch:=first|omega|assumption|fail) only [if_pos,if_neg,wrap64];try simp [List.zipIdx,hilI,hil,hg,hgE,hp0,hp1,hqI,hq,hwl,hr1,hr2,de,hk0,-getM,getM_hit,getM_miss,getM_none]))))))|(refine aw_cond (b:=_) (by exact rfl) (fun h=>?_) (fun h=>?_)<;>(try simp at h))|(refine aw_block ?_)|(refine aw_skip ?_;simp only [thenQ,blockQ,if_true])|(refine aw_exit ?_;simp [thenQ,blockQ])|(refine aw_ret ?_;simp only [thenQ,blockQ])|(refine aw_round ?_)|(refine hK _ ?_;clear hK)|(clear hK;refine hK _ ?_;clear hK)|(clear hK;clear hK;refine hK _ ?_;clear hK)|(clear hK;clear hK;clear hK;refine hK _ ?_;clear hK))
          refine ⟨i+1,ns,m,nx,?_,⟨by omega,by omega,hM⟩,by omega⟩
          exact le_of2 (by simp) (by simp [AVle,AV.under,AV.underL]<;>omega) (by simp [AOle,AO.under,AV.underL,AV.under]<;>omega)
         ·rcases Decidable.em (k=4) with hk4|hk4
          ·repeat' (first|(apply aw_seq_k;intro K hK)|(refine aw_run hc (by exact aw_nod) ?_;simp [List.zipIdx,hilI,hil,hg,hgE,hp0,hp1,hqI,hq,hwl,hr1,hr2,de,hk0,hk4,-getM,getM_hit,getM_miss,getM_none];(repeat (simp (disch:=first|omega|assumption|fail) only [if_pos,if_neg,wrap64];try simp [List.zipIdx,hilI,hil,hg,hgE,hp0,hp1,hqI,hq,hwl,hr1,hr2,de,hk0,hk4,-getM,getM_hit,getM_miss,getM_none]));try (repeat' (refine guardQ_split (fun h=>?_) (fun h=>?_)<;>simp at h<;>(simp [List.zipIdx,hilI,hil,hg,hgE,hp0,hp1,hqI,hq,hwl,hr1,hr2,de,hk0,hk4,-getM,getM_hit,getM_miss,getM_none];(repeat (simp (disch:=first|omega|assumption|fail) only [if_pos,if_neg,wrap64];try simp [List.zipIdx,hilI,hil,hg,hgE,hp0,hp1,hqI,hq,hwl,hr1,hr2,de,hk0,hk4,-getM,getM_hit,getM_miss,getM_none]))))))|(refine aw_runFt hc ?_;simp [List.zipIdx,hilI,hil,hg,hgE,hp0,hp1,hqI,hq,hwl,hr1,hr2,de,hk0,hk4,-getM,getM_hit,getM_miss,getM_none];(repeat (simp (disch:=first|omega|assumption|fail) only [if_pos,if_neg,wrap64];try simp [List.zipIdx,hilI,hil,hg,hgE,hp0,hp1,hqI,hq,hwl,hr1,hr2,de,hk0,hk4,-getM,getM_hit,getM_miss,getM_none]));refine ⟨by kernel_rfl,?_⟩)|(refine aw_run hc (by first|(intro _;rw [ordB_w hw];kernel_rfl)|(intro _;rw [ordB_w0 hw0];kernel_rfl)|(intro _;kernel_rfl)) ?_;simp [List.zipIdx,hilI,hil,hg,hgE,hp0,hp1,hqI,hq,hwl,hr1,hr2,de,hk0,hk4,-getM,getM_hit,getM_miss,getM_none];(repeat (simp (disch:=first|omega|assumption|fail) only [if_pos,if_neg,wrap64];try simp [List.zipIdx,hilI,hil,hg,hgE,hp0,hp1,hqI,hq,hwl,hr1,hr2,de,hk0,hk4,-getM,getM_hit,getM_miss,getM_none]));try (repeat' (refine guardQ_split (fun h=>?_) (fun h=>?_)<;>simp at h<;>(simp [List.zipIdx,hilI,hil,hg,hgE,hp0,hp1,hqI,hq,hwl,hr1,hr2,de,hk0,hk4,-getM,getM_hit,getM_miss,getM_none];(repeat (simp (disch:=first|omega|assumption|fail) only [if_pos,if_neg,wrap64];try simp [List.zipIdx,hilI,hil,hg,hgE,hp0,hp1,hqI,hq,hwl,hr1,hr2,de,hk0,hk4,-getM,getM_hit,getM_miss,getM_none]))))))|(refine aw_cond (b:=_) (by exact rfl) (fun h=>?_) (fun h=>?_)<;>(try simp at h))|(refine aw_block ?_)|(refine aw_skip ?_;simp only [thenQ,blockQ,if_true])|(refine aw_exit ?_;simp [thenQ,blockQ])|(refine aw_ret ?_;simp only [thenQ,blockQ])|(refine aw_round ?_)|(refine hK _ ?_;clear hK)|(clear hK;refine hK _ ?_;clear hK)|(clear hK;clear hK;refine hK _ ?_;clear hK)|(clear hK;clear hK;clear hK;refine hK _ ?_;clear hK))
           refine ⟨i+1,ns,m,nx,?_,⟨by omega,by omega,hM⟩,by omega⟩
           exact le_of2 (by simp) (by simp [AVle,AV.under,AV.underL]<;>omega) (by simp [AOle,AO.under,AV.underL,AV.under]<;>omega)
          ·obtain ⟨kk,N,m1,m2,m3,m4⟩:=hM.set hq hv.symm hu64 (by rw [← hx]) (by rw [← hx];exact hk0) (by rw [← hx];exact hk4) (by rw [← hx]) (by omega)
           have mi:=L.mi _ (q:Int) hM.ok
           unfold Own3 at mi
           rw [m1] at mi
           simp only [TbS,List.length_nil] at mi
           have se:=L.se ((0,ns,[]),(q:Int),w,nxF nx kk) ⟨hM.ok,by show ns.length≤_;omega,hu64,by simp;omega⟩
           simp only at se
           rw [m3] at se
           simp only [TbS,TbC,outT,U,List.length_nil,nxF_len] at se
           have hst:=@wcs_st m q w
           have hkI:¬ (kk:Int)<0:=by omega
           have hkI2:¬ (2:Int)<(kk:Int):=by omega
           have hk2:¬ 2<kk:=by omega
           repeat' (first|(apply aw_seq_k;intro K hK)|(refine aw_run hc (by exact aw_nod) ?_;simp [List.zipIdx,hilI,hil,hg,hgE,hp0,hp1,hqI,hq,hwl,hr1,hr2,de,hk0,hk4,mi,hkI,hkI2,hk2,-getM,getM_hit,getM_miss,getM_none];(repeat (simp (disch:=first|omega|assumption|fail) only [if_pos,if_neg,wrap64];try simp [List.zipIdx,hilI,hil,hg,hgE,hp0,hp1,hqI,hq,hwl,hr1,hr2,de,hk0,hk4,mi,hkI,hkI2,hk2,-getM,getM_hit,getM_miss,getM_none]));try (repeat' (refine guardQ_split (fun h=>?_) (fun h=>?_)<;>simp at h<;>(simp [List.zipIdx,hilI,hil,hg,hgE,hp0,hp1,hqI,hq,hwl,hr1,hr2,de,hk0,hk4,mi,hkI,hkI2,hk2,-getM,getM_hit,getM_miss,getM_none];(repeat (simp (disch:=first|omega|assumption|fail) only [if_pos,if_neg,wrap64];try simp [List.zipIdx,hilI,hil,hg,hgE,hp0,hp1,hqI,hq,hwl,hr1,hr2,de,hk0,hk4,mi,hkI,hkI2,hk2,-getM,getM_hit,getM_miss,getM_none]))))))|(refine aw_runFt hc ?_;simp [List.zipIdx,hilI,hil,hg,hgE,hp0,hp1,hqI,hq,hwl,hr1,hr2,de,hk0,hk4,mi,hkI,hkI2,hk2,-getM,getM_hit,getM_miss,getM_none];(repeat (simp (disch:=first|omega|assumption|fail) only [if_pos,if_neg,wrap64];try simp [List.zipIdx,hilI,hil,hg,hgE,hp0,hp1,hqI,hq,hwl,hr1,hr2,de,hk0,hk4,mi,hkI,hkI2,hk2,-getM,getM_hit,getM_miss,getM_none]));refine ⟨by kernel_rfl,?_⟩)|(refine aw_run hc (by first|(intro _;rw [ordB_w hw];kernel_rfl)|(intro _;rw [ordB_w0 hw0];kernel_rfl)|(intro _;kernel_rfl)) ?_;simp [List.zipIdx,hilI,hil,hg,hgE,hp0,hp1,hqI,hq,hwl,hr1,hr2,de,hk0,hk4,mi,hkI,hkI2,hk2,-getM,getM_hit,getM_miss,getM_none];(repeat (simp (disch:=first|omega|assumption|fail) only [if_pos,if_neg,wrap64];try simp [List.zipIdx,hilI,hil,hg,hgE,hp0,hp1,hqI,hq,hwl,hr1,hr2,de,hk0,hk4,mi,hkI,hkI2,hk2,-getM,getM_hit,getM_miss,getM_none]));try (repeat' (refine guardQ_split (fun h=>?_) (fun h=>?_)<;>simp at h<;>(simp [List.zipIdx,hilI,hil,hg,hgE,hp0,hp1,hqI,hq,hwl,hr1,hr2,de,hk0,hk4,mi,hkI,hkI2,hk2,-getM,getM_hit,getM_miss,getM_none];(repeat (simp (disch:=first|omega|assumption|fail) only [if_pos,if_neg,wrap64];try simp [List.zipIdx,hilI,hil,hg,hgE,hp0,hp1,hqI,hq,hwl,hr1,hr2,de,hk0,hk4,mi,hkI,hkI2,hk2,-getM,getM_hit,getM_miss,getM_none]))))))|(refine aw_cond (b:=_) (by exact rfl) (fun h=>?_) (fun h=>?_)<;>(try simp at h))|(refine aw_block ?_)|(refine aw_skip ?_;simp only [thenQ,blockQ,if_true])|(refine aw_exit ?_;simp [thenQ,blockQ])|(refine aw_ret ?_;simp only [thenQ,blockQ])|(refine aw_round ?_)|(refine hK _ ?_;clear hK)|(clear hK;refine hK _ ?_;clear hK)|(clear hK;clear hK;refine hK _ ?_;clear hK)|(clear hK;clear hK;clear hK;refine hK _ ?_;clear hK))
           refine aw_weaken (le_nilslot (t:=16) (sz:=1) (by simp)) ?_
           refine aw_loopK (s0:=?lps2) (m0:=?lpm2) (ι:={j:Nat // j≤kk}) [3,5,8,39,40,41,120] (fun j=>[(6,I ((nx+j.1:Nat):Int)),(16,.sl 1360 1 1 0 j.1),(121,I j.1)]) (fun j=>[(1360,.vec 1 1 false (irows (nxF nx j.1)))]) (fun j=>kk - j.1) ⟨0,by omega⟩ ?lhs2 ?lhm2 ?_ ?_
           case lhs2=>first|(simp [keepS];done)|(simp [keepS];rfl)
           case lhm2=>first|rfl|(simp;done)|(simp;rfl)
           ·simp only [show nxF nx 0=[] from rfl]
            exact le_of2 (by simp) (by simp [AVle,AV.under,AV.underL,irows]<;>omega) (by simp [AOle,AO.under,AV.underL,AV.under,irows]<;>omega)
           ·rintro ⟨j,hj⟩
            simp only
            rcases Decidable.em (j<kk) with hjl|hjl
            ·have hjI:(j:Int)<(kk:Int):=by omega
             have hns:=@nxF_s nx j
             have hnl:=@nxF_len nx j
             obtain ⟨F,hF⟩:∃ F,F=nxF nx j:=⟨_,rfl⟩
             rw [← hF] at hns hnl
             obtain ⟨y,hy⟩:∃ y,y=nx+j:=⟨_,rfl⟩
             rw [← hy] at hns
             simp only [← hF,← hy]
             have htk:List.take j (irows F)=irows F:=List.take_of_length_le (by simp [hnl])
             repeat' (first|(apply aw_seq_k;intro K hK)|(refine aw_run hc (by first|exact aw_nod|(intro _;rw [ordB_w hw];kernel_rfl)|(intro _;rw [ordB_w0 hw0];kernel_rfl)|(intro _;kernel_rfl)) ?_;simp [List.zipIdx,hjI,hjl,hnl,htk,irows_ap,-getM,getM_hit,getM_miss,getM_none];(repeat (simp (disch:=first|omega|assumption|fail) only [if_pos,if_neg,wrap64];try simp [List.zipIdx,hjI,hjl,hnl,htk,irows_ap,-getM,getM_hit,getM_miss,getM_none]));try (repeat' (refine guardQ_split (fun h=>?_) (fun h=>?_)<;>simp at h<;>(simp [List.zipIdx,hjI,hjl,hnl,htk,irows_ap,-getM,getM_hit,getM_miss,getM_none];(repeat (simp (disch:=first|omega|assumption|fail) only [if_pos,if_neg,wrap64];try simp [List.zipIdx,hjI,hjl,hnl,htk,irows_ap,-getM,getM_hit,getM_miss,getM_none]))))))|(refine aw_cond (b:=_) (by exact rfl) (fun h=>?_) (fun h=>?_)<;>(try simp at h))|(refine aw_block ?_)|(refine aw_skip ?_;simp only [thenQ,blockQ,if_true])|(refine aw_exit ?_;simp [thenQ,blockQ])|(refine aw_ret ?_;simp only [thenQ,blockQ])|(refine aw_round ?_)|(refine hK _ ?_;clear hK)|(clear hK;refine hK _ ?_;clear hK)|(clear hK;clear hK;refine hK _ ?_;clear hK)|(clear hK;clear hK;clear hK;refine hK _ ?_;clear hK))
             refine ⟨j+1,?_,by omega,by omega⟩
             simp only [hns]
             refine le_turn (s1:=?tus3) (m1:=?tum3) [] [3,5,6,8,16,39,40,41,120,121] [1360,80,16,17,240,368,704] ?tua3 ?tub3 ?tuc3 ?tud3 ?tue3 ?tuf3 ?tug3
             case tua3=>first|(simp [keepS];done)|(simp [keepS];rfl)
             case tub3=>first|(simp;done)|(simp;rfl)
             case tuc3=>simp
             case tud3=>simp
             case tue3=>simp
             case tuf3=>simp
             case tug3 =>
              simp [swp,vr]
              exact le_of2 (by simp) (by simp [AVle,AV.under,AV.underL]<;>omega) (by simp [AOle,AO.under,AV.underL,AV.under]<;>omega)
            ·obtain rfl:j=kk:=by omega
             have hjI:¬ (j:Int)<(j:Int):=by omega
             repeat' (first|(apply aw_seq_k;intro K hK)|(refine aw_run hc (by exact aw_nod) ?_;simp [List.zipIdx,hqI,hq,hwl,hr1,hr2,se,hst,-getM,getM_hit,getM_miss,getM_none];(repeat (simp (disch:=first|omega|assumption|fail) only [if_pos,if_neg,wrap64];try simp [List.zipIdx,hqI,hq,hwl,hr1,hr2,se,hst,-getM,getM_hit,getM_miss,getM_none]));try (repeat' (refine guardQ_split (fun h=>?_) (fun h=>?_)<;>simp at h<;>(simp [List.zipIdx,hqI,hq,hwl,hr1,hr2,se,hst,-getM,getM_hit,getM_miss,getM_none];(repeat (simp (disch:=first|omega|assumption|fail) only [if_pos,if_neg,wrap64];try simp [List.zipIdx,hqI,hq,hwl,hr1,hr2,se,hst,-getM,getM_hit,getM_miss,getM_none]))))))|(refine aw_runFt hc ?_;simp [List.zipIdx,hqI,hq,hwl,hr1,hr2,se,hst,-getM,getM_hit,getM_miss,getM_none];(repeat (simp (disch:=first|omega|assumption|fail) only [if_pos,if_neg,wrap64];try simp [List.zipIdx,hqI,hq,hwl,hr1,hr2,se,hst,-getM,getM_hit,getM_miss,getM_none]));refine ⟨by kernel_rfl,?_⟩)|(refine aw_run hc (by first|(intro _;rw [ordB_w hw];kernel_rfl)|(intro _;rw [ordB_w0 hw0];kernel_rfl)|(intro _;kernel_rfl)) ?_;simp [List.zipIdx,hqI,hq,hwl,hr1,hr2,se,hst,-getM,getM_hit,getM_miss,getM_none];(repeat (simp (disch:=first|omega|assumption|fail) only [if_pos,if_neg,wrap64];try simp [List.zipIdx,hqI,hq,hwl,hr1,hr2,se,hst,-getM,getM_hit,getM_miss,getM_none]));try (repeat' (refine guardQ_split (fun h=>?_) (fun h=>?_)<;>simp at h<;>(simp [List.zipIdx,hqI,hq,hwl,hr1,hr2,se,hst,-getM,getM_hit,getM_miss,getM_none];(repeat (simp (disch:=first|omega|assumption|fail) only [if_pos,if_neg,wrap64];try simp [List.zipIdx,hqI,hq,hwl,hr1,hr2,se,hst,-getM,getM_hit,getM_miss,getM_none]))))))|(refine aw_cond (b:=_) (by exact rfl) (fun h=>?_) (fun h=>?_)<;>(try simp at h))|(refine aw_block ?_)|(refine aw_skip ?_;simp only [thenQ,blockQ,if_true])|(refine aw_exit ?_;simp [thenQ,blockQ])|(refine aw_ret ?_;simp only [thenQ,blockQ])|(refine aw_round ?_)|(refine hK _ ?_;clear hK)|(clear hK;refine hK _ ?_;clear hK)|(clear hK;clear hK;refine hK _ ?_;clear hK)|(clear hK;clear hK;clear hK;refine hK _ ?_;clear hK))
             refine ⟨i+1,N,m.set q w,nx+j,?_,⟨by omega,by omega,m4⟩,by omega⟩
             refine le_turn (s1:=?tus4) (m1:=?tum4) [(16,1473),(17,1474)] [3,5,6,39,40,41] [80,1473,1474,240] ?tua4 ?tub4 ?tuc4 ?tud4 ?tue4 ?tuf4 ?tug4
             case tua4=>first|(simp [keepS];done)|(simp [keepS];rfl)
             case tub4=>first|(simp;done)|(simp;rfl)
             case tuc4=>simp
             case tud4=>simp
             case tue4=>simp
             case tuf4=>simp
             case tug4 =>
              simp [swp,vr]
              exact le_of2 (by simp) (by simp [AVle,AV.under,AV.underL]<;>omega) (by simp [AOle,AO.under,AV.underL,AV.under]<;>omega)
       ·repeat' (first|(apply aw_seq_k;intro K hK)|(refine aw_run hc (by exact aw_nod) ?_;simp [List.zipIdx,hilI,hil,hg,hgE,hp0,hp1,hqI,hq,hwl,hr1,hr2,de,he,-getM,getM_hit,getM_miss,getM_none];(repeat (simp (disch:=first|omega|assumption|fail) only [if_pos,if_neg,wrap64];try simp [List.zipIdx,hilI,hil,hg,hgE,hp0,hp1,hqI,hq,hwl,hr1,hr2,de,he,-getM,getM_hit,getM_miss,getM_none]));try (repeat' (refine guardQ_split (fun h=>?_) (fun h=>?_)<;>simp at h<;>(simp [List.zipIdx,hilI,hil,hg,hgE,hp0,hp1,hqI,hq,hwl,hr1,hr2,de,he,-getM,getM_hit,getM_miss,getM_none];(repeat (simp (disch:=first|omega|assumption|fail) only [if_pos,if_neg,wrap64];try simp [List.zipIdx,hilI,hil,hg,hgE,hp0,hp1,hqI,hq,hwl,hr1,hr2,de,he,-getM,getM_hit,getM_miss,getM_none]))))))|(refine aw_runFt hc ?_;simp [List.zipIdx,hilI,hil,hg,hgE,hp0,hp1,hqI,hq,hwl,hr1,hr2,de,he,-getM,getM_hit,getM_miss,getM_none];(repeat (simp (disch:=first|omega|assumption|fail) only [if_pos,if_neg,wrap64];try simp [List.zipIdx,hilI,hil,hg,hgE,hp0,hp1,hqI,hq,hwl,hr1,hr2,de,he,-getM,getM_hit,getM_miss,getM_none]));refine ⟨by kernel_rfl,?_⟩)|(refine aw_run hc (by first|(intro _;rw [ordB_w hw];kernel_rfl)|(intro _;rw [ordB_w0 hw0];kernel_rfl)|(intro _;kernel_rfl)) ?_;simp [List.zipIdx,hilI,hil,hg,hgE,hp0,hp1,hqI,hq,hwl,hr1,hr2,de,he,-getM,getM_hit,getM_miss,getM_none];(repeat (simp (disch:=first|omega|assumption|fail) only [if_pos,if_neg,wrap64];try simp [List.zipIdx,hilI,hil,hg,hgE,hp0,hp1,hqI,hq,hwl,hr1,hr2,de,he,-getM,getM_hit,getM_miss,getM_none]));try (repeat' (refine guardQ_split (fun h=>?_) (fun h=>?_)<;>simp at h<;>(simp [List.zipIdx,hilI,hil,hg,hgE,hp0,hp1,hqI,hq,hwl,hr1,hr2,de,he,-getM,getM_hit,getM_miss,getM_none];(repeat (simp (disch:=first|omega|assumption|fail) only [if_pos,if_neg,wrap64];try simp [List.zipIdx,hilI,hil,hg,hgE,hp0,hp1,hqI,hq,hwl,hr1,hr2,de,he,-getM,getM_hit,getM_miss,getM_none]))))))|(refine aw_cond (b:=_) (by exact rfl) (fun h=>?_) (fun h=>?_)<;>(try simp at h))|(refine aw_block ?_)|(refine aw_skip ?_;simp only [thenQ,blockQ,if_true])|(refine aw_exit ?_;simp [thenQ,blockQ])|(refine aw_ret ?_;simp only [thenQ,blockQ])|(refine aw_round ?_)|(refine hK _ ?_;clear hK)|(clear hK;refine hK _ ?_;clear hK)|(clear hK;clear hK;refine hK _ ?_;clear hK)|(clear hK;clear hK;clear hK;refine hK _ ?_;clear hK))
        refine ⟨i+1,ns,m,nx,?_,⟨by omega,by omega,hM⟩,by omega⟩
        exact le_of2 (by simp) (by simp [AVle,AV.under,AV.underL]<;>omega) (by simp [AOle,AO.under,AV.underL,AV.under]<;>omega)
      ·have hvI:¬ (v:Int)=0:=by omega
       obtain ⟨N,A,c1,c2⟩:=hM.clr hq (by rw [← hv];exact hv0)
       rw [← hv] at c1
       have cl:=L.cl _ (q:Int) hM.ok (by show ns.length≤_;omega)
       unfold Own3 at cl
       rw [c1] at cl
       simp only [TbS,TbC,outT,U,List.cons_append,List.nil_append,List.length_nil] at cl
       have hst:=@wcs_st m q 0
       rw [show ((0:Nat):Int)=0 from rfl] at hst
       repeat' (first|(apply aw_seq_k;intro K hK)|(refine aw_run hc (by exact aw_nod) ?_;simp [List.zipIdx,hilI,hil,hg,hgE,hp0,hp1,hqI,hq,hwl,hr1,hr2,hv0,hvI,cl,hst,-getM,getM_hit,getM_miss,getM_none];(repeat (simp (disch:=first|omega|assumption|fail) only [if_pos,if_neg,wrap64];try simp [List.zipIdx,hilI,hil,hg,hgE,hp0,hp1,hqI,hq,hwl,hr1,hr2,hv0,hvI,cl,hst,-getM,getM_hit,getM_miss,getM_none]));try (repeat' (refine guardQ_split (fun h=>?_) (fun h=>?_)<;>simp at h<;>(simp [List.zipIdx,hilI,hil,hg,hgE,hp0,hp1,hqI,hq,hwl,hr1,hr2,hv0,hvI,cl,hst,-getM,getM_hit,getM_miss,getM_none];(repeat (simp (disch:=first|omega|assumption|fail) only [if_pos,if_neg,wrap64];try simp [List.zipIdx,hilI,hil,hg,hgE,hp0,hp1,hqI,hq,hwl,hr1,hr2,hv0,hvI,cl,hst,-getM,getM_hit,getM_miss,getM_none]))))))|(refine aw_runFt hc ?_;simp [List.zipIdx,hilI,hil,hg,hgE,hp0,hp1,hqI,hq,hwl,hr1,hr2,hv0,hvI,cl,hst,-getM,getM_hit,getM_miss,getM_none];(repeat (simp (disch:=first|omega|assumption|fail) only [if_pos,if_neg,wrap64];try simp [List.zipIdx,hilI,hil,hg,hgE,hp0,hp1,hqI,hq,hwl,hr1,hr2,hv0,hvI,cl,hst,-getM,getM_hit,getM_miss,getM_none]));refine ⟨by kernel_rfl,?_⟩)|(refine aw_run hc (by first|(intro _;rw [ordB_w hw];kernel_rfl)|(intro _;rw [ordB_w0 hw0];kernel_rfl)|(intro _;kernel_rfl)) ?_;simp [List.zipIdx,hilI,hil,hg,hgE,hp0,hp1,hqI,hq,hwl,hr1,hr2,hv0,hvI,cl,hst,-getM,getM_hit,getM_miss,getM_none];(repeat (simp (disch:=first|omega|assumption|fail) only [if_pos,if_neg,wrap64];try simp [List.zipIdx,hilI,hil,hg,hgE,hp0,hp1,hqI,hq,hwl,hr1,hr2,hv0,hvI,cl,hst,-getM,getM_hit,getM_miss,getM_none]));try (repeat' (refine guardQ_split (fun h=>?_) (fun h=>?_)<;>simp at h<;>(simp [List.zipIdx,hilI,hil,hg,hgE,hp0,hp1,hqI,hq,hwl,hr1,hr2,hv0,hvI,cl,hst,-getM,getM_hit,getM_miss,getM_none];(repeat (simp (disch:=first|omega|assumption|fail) only [if_pos,if_neg,wrap64];try simp [List.zipIdx,hilI,hil,hg,hgE,hp0,hp1,hqI,hq,hwl,hr1,hr2,hv0,hvI,cl,hst,-getM,getM_hit,getM_miss,getM_none]))))))|(refine aw_cond (b:=_) (by exact rfl) (fun h=>?_) (fun h=>?_)<;>(try simp at h))|(refine aw_block ?_)|(refine aw_skip ?_;simp only [thenQ,blockQ,if_true])|(refine aw_exit ?_;simp [thenQ,blockQ])|(refine aw_ret ?_;simp only [thenQ,blockQ])|(refine aw_round ?_)|(refine hK _ ?_;clear hK)|(clear hK;refine hK _ ?_;clear hK)|(clear hK;clear hK;refine hK _ ?_;clear hK)|(clear hK;clear hK;clear hK;refine hK _ ?_;clear hK))
       refine ⟨i+1,N,m.set q 0,nx,?_,⟨by omega,by omega,c2⟩,by omega⟩
       refine le_turn (s1:=?tus5) (m1:=?tum5) [(16,656),(17,657)] [3,5,6,39,40,41] [80,656,657,240] ?tua5 ?tub5 ?tuc5 ?tud5 ?tue5 ?tuf5 ?tug5
       case tua5=>first|(simp [keepS];done)|(simp [keepS];rfl)
       case tub5=>first|(simp;done)|(simp;rfl)
       case tuc5=>simp
       case tud5=>simp
       case tue5=>simp
       case tuf5=>simp
       case tug5 =>
        simp [swp,vr]
        exact le_of2 (by simp) (by simp [AVle,AV.under,AV.underL]<;>omega) (by simp [AOle,AO.under,AV.underL,AV.under]<;>omega)
   ·obtain rfl:i=l.length:=by omega
    repeat' (first|(apply aw_seq_k;intro K hK)|(refine aw_run hc (by exact aw_nod) ?_;simp [List.zipIdx,-getM,getM_hit,getM_miss,getM_none];(repeat (simp (disch:=first|omega|assumption|fail) only [if_pos,if_neg,wrap64];try simp [List.zipIdx,-getM,getM_hit,getM_miss,getM_none]));try (repeat' (refine guardQ_split (fun h=>?_) (fun h=>?_)<;>simp at h<;>(simp [List.zipIdx,-getM,getM_hit,getM_miss,getM_none];(repeat (simp (disch:=first|omega|assumption|fail) only [if_pos,if_neg,wrap64];try simp [List.zipIdx,-getM,getM_hit,getM_miss,getM_none]))))))|(refine aw_runFt hc ?_;simp [List.zipIdx,-getM,getM_hit,getM_miss,getM_none];(repeat (simp (disch:=first|omega|assumption|fail) only [if_pos,if_neg,wrap64];try simp [List.zipIdx,-getM,getM_hit,getM_miss,getM_none]));refine ⟨by kernel_rfl,?_⟩)|(refine aw_run hc (by first|(intro _;rw [ordB_w hw];kernel_rfl)|(intro _;rw [ordB_w0 hw0];kernel_rfl)|(intro _;kernel_rfl)) ?_;simp [List.zipIdx,-getM,getM_hit,getM_miss,getM_none];(repeat (simp (disch:=first|omega|assumption|fail) only [if_pos,if_neg,wrap64];try simp [List.zipIdx,-getM,getM_hit,getM_miss,getM_none]));try (repeat' (refine guardQ_split (fun h=>?_) (fun h=>?_)<;>simp at h<;>(simp [List.zipIdx,-getM,getM_hit,getM_miss,getM_none];(repeat (simp (disch:=first|omega|assumption|fail) only [if_pos,if_neg,wrap64];try simp [List.zipIdx,-getM,getM_hit,getM_miss,getM_none]))))))|(refine aw_cond (b:=_) (by exact rfl) (fun h=>?_) (fun h=>?_)<;>(try simp at h))|(refine aw_block ?_)|(refine aw_skip ?_;simp only [thenQ,blockQ,if_true])|(refine aw_exit ?_;simp [thenQ,blockQ])|(refine aw_ret ?_;simp only [thenQ,blockQ])|(refine aw_round ?_)|(refine hK _ ?_;clear hK)|(clear hK;refine hK _ ?_;clear hK)|(clear hK;clear hK;refine hK _ ?_;clear hK)|(clear hK;clear hK;clear hK;refine hK _ ?_;clear hK))
    refine aw_weaken (le_nilslot (t:=18) (sz:=2) (by simp)) ?_
    refine aw_loopK (s0:=?lps6) (m0:=?lpm6) (ι:={p:Nat // p≤512}) [3,5] (fun p=>[(18,.sl 368 1 2 0 (lstM m p.1).length),(149,I p.1)]) (fun p=>[(368,.vec 1 2 false (erows (lstM m p.1)))]) (fun p=>512 - p.1) ⟨0,by omega⟩ ?lhs6 ?lhm6 ?_ ?_
    case lhs6=>first|(simp [keepS];done)|(simp [keepS];rfl)
    case lhm6=>first|rfl|(simp;done)|(simp;rfl)
    ·simp only [show lstM m 0=[] from rfl]
     exact le_of2 (by simp) (by simp [AVle,AV.under,AV.underL,erows]<;>omega) (by simp [AOle,AO.under,AV.underL,AV.under,erows]<;>omega)
    ·rintro ⟨p,hp⟩
     simp only
     rcases Decidable.em (p<512) with hpl|hpl
     ·have hpI:(p:Int)<512:=by omega
      obtain ⟨lv,hwk⟩:=hM.walk hpl
      have wa:=L.wa _ (p:Int) hM.ok
      unfold Own3 at wa
      rw [hwk] at wa
      have hwl:(wcs m).length=512:=by simp [hlen]
      have hr1:=wcs_rd hlen hpl
      have hr2:=wcs_rE hlen hpl
      have hls:lstM m (p+1)=lstM m p++if m.getD p 0≠0 then [((p:Int),m.getD p 0)] else []:=rfl
      have hll:=@lstM_le m p
      obtain ⟨v,hv⟩:∃ v,v=m.getD p 0:=⟨_,rfl⟩
      rw [← hv] at hr1 hr2 hls wa
      obtain ⟨A,hA⟩:∃ A,A=lstM m p:=⟨_,rfl⟩
      rw [← hA] at hls hll
      simp only [← hA]
      simp only [TbS,U,List.length_nil] at hr1 hr2 wa
      have htk:=erows_tkl A
      rcases Decidable.em (v=0) with hv0|hv0
      ·subst hv0
       rw [if_neg (by simp),List.append_nil] at hls
       repeat' (first|(apply aw_seq_k;intro K hK)|(refine aw_run hc (by exact aw_nod) ?_;simp [List.zipIdx,hpI,hpl,hwl,hr1,hr2,wa,-getM,getM_hit,getM_miss,getM_none];(repeat (simp (disch:=first|omega|assumption|fail) only [if_pos,if_neg,wrap64];try simp [List.zipIdx,hpI,hpl,hwl,hr1,hr2,wa,-getM,getM_hit,getM_miss,getM_none]));try (repeat' (refine guardQ_split (fun h=>?_) (fun h=>?_)<;>simp at h<;>(simp [List.zipIdx,hpI,hpl,hwl,hr1,hr2,wa,-getM,getM_hit,getM_miss,getM_none];(repeat (simp (disch:=first|omega|assumption|fail) only [if_pos,if_neg,wrap64];try simp [List.zipIdx,hpI,hpl,hwl,hr1,hr2,wa,-getM,getM_hit,getM_miss,getM_none]))))))|(refine aw_runFt hc ?_;simp [List.zipIdx,hpI,hpl,hwl,hr1,hr2,wa,-getM,getM_hit,getM_miss,getM_none];(repeat (simp (disch:=first|omega|assumption|fail) only [if_pos,if_neg,wrap64];try simp [List.zipIdx,hpI,hpl,hwl,hr1,hr2,wa,-getM,getM_hit,getM_miss,getM_none]));refine ⟨by kernel_rfl,?_⟩)|(refine aw_run hc (by first|(intro _;rw [ordB_w hw];kernel_rfl)|(intro _;rw [ordB_w0 hw0];kernel_rfl)|(intro _;kernel_rfl)) ?_;simp [List.zipIdx,hpI,hpl,hwl,hr1,hr2,wa,-getM,getM_hit,getM_miss,getM_none];(repeat (simp (disch:=first|omega|assumption|fail) only [if_pos,if_neg,wrap64];try simp [List.zipIdx,hpI,hpl,hwl,hr1,hr2,wa,-getM,getM_hit,getM_miss,getM_none]));try (repeat' (refine guardQ_split (fun h=>?_) (fun h=>?_)<;>simp at h<;>(simp [List.zipIdx,hpI,hpl,hwl,hr1,hr2,wa,-getM,getM_hit,getM_miss,getM_none];(repeat (simp (disch:=first|omega|assumption|fail) only [if_pos,if_neg,wrap64];try simp [List.zipIdx,hpI,hpl,hwl,hr1,hr2,wa,-getM,getM_hit,getM_miss,getM_none]))))))|(refine aw_cond (b:=_) (by exact rfl) (fun h=>?_) (fun h=>?_)<;>(try simp at h))|(refine aw_block ?_)|(refine aw_skip ?_;simp only [thenQ,blockQ,if_true])|(refine aw_exit ?_;simp [thenQ,blockQ])|(refine aw_ret ?_;simp only [thenQ,blockQ])|(refine aw_round ?_)|(refine hK _ ?_;clear hK)|(clear hK;refine hK _ ?_;clear hK)|(clear hK;clear hK;refine hK _ ?_;clear hK)|(clear hK;clear hK;clear hK;refine hK _ ?_;clear hK))
       first|refine ⟨p+1,?_,by omega,by omega⟩|refine ⟨p+1,⟨by omega,?_⟩,by omega⟩
       simp only [hls]
       exact le_of2 (by simp) (by simp [AVle,AV.under,AV.underL]<;>omega) (by simp [AOle,AO.under,AV.underL,AV.under]<;>omega)
      ·have hvI:¬ (v:Int)=0:=by omega
       rw [if_pos hv0] at hls
       have hap:=@erows_ap A p v
       rw [← hls] at hap
       have hl1:(lstM m (p+1)).length=A.length+1:=by rw [hls];simp
       simp only [I] at hap
       repeat' (first|(apply aw_seq_k;intro K hK)|(refine aw_run hc (by exact aw_nod) ?_;simp [List.zipIdx,hpI,hpl,hwl,hr1,hr2,wa,hv0,hvI,htk,hap,-getM,getM_hit,getM_miss,getM_none];(repeat (simp (disch:=first|omega|assumption|fail) only [if_pos,if_neg,wrap64];try simp [List.zipIdx,hpI,hpl,hwl,hr1,hr2,wa,hv0,hvI,htk,hap,-getM,getM_hit,getM_miss,getM_none]));try (repeat' (refine guardQ_split (fun h=>?_) (fun h=>?_)<;>simp at h<;>(simp [List.zipIdx,hpI,hpl,hwl,hr1,hr2,wa,hv0,hvI,htk,hap,-getM,getM_hit,getM_miss,getM_none];(repeat (simp (disch:=first|omega|assumption|fail) only [if_pos,if_neg,wrap64];try simp [List.zipIdx,hpI,hpl,hwl,hr1,hr2,wa,hv0,hvI,htk,hap,-getM,getM_hit,getM_miss,getM_none]))))))|(refine aw_runFt hc ?_;simp [List.zipIdx,hpI,hpl,hwl,hr1,hr2,wa,hv0,hvI,htk,hap,-getM,getM_hit,getM_miss,getM_none];(repeat (simp (disch:=first|omega|assumption|fail) only [if_pos,if_neg,wrap64];try simp [List.zipIdx,hpI,hpl,hwl,hr1,hr2,wa,hv0,hvI,htk,hap,-getM,getM_hit,getM_miss,getM_none]));refine ⟨by kernel_rfl,?_⟩)|(refine aw_run hc (by first|(intro _;rw [ordB_w hw];kernel_rfl)|(intro _;rw [ordB_w0 hw0];kernel_rfl)|(intro _;kernel_rfl)) ?_;simp [List.zipIdx,hpI,hpl,hwl,hr1,hr2,wa,hv0,hvI,htk,hap,-getM,getM_hit,getM_miss,getM_none];(repeat (simp (disch:=first|omega|assumption|fail) only [if_pos,if_neg,wrap64];try simp [List.zipIdx,hpI,hpl,hwl,hr1,hr2,wa,hv0,hvI,htk,hap,-getM,getM_hit,getM_miss,getM_none]));try (repeat' (refine guardQ_split (fun h=>?_) (fun h=>?_)<;>simp at h<;>(simp [List.zipIdx,hpI,hpl,hwl,hr1,hr2,wa,hv0,hvI,htk,hap,-getM,getM_hit,getM_miss,getM_none];(repeat (simp (disch:=first|omega|assumption|fail) only [if_pos,if_neg,wrap64];try simp [List.zipIdx,hpI,hpl,hwl,hr1,hr2,wa,hv0,hvI,htk,hap,-getM,getM_hit,getM_miss,getM_none]))))))|(refine aw_cond (b:=_) (by exact rfl) (fun h=>?_) (fun h=>?_)<;>(try simp at h))|(refine aw_block ?_)|(refine aw_skip ?_;simp only [thenQ,blockQ,if_true])|(refine aw_exit ?_;simp [thenQ,blockQ])|(refine aw_ret ?_;simp only [thenQ,blockQ])|(refine aw_round ?_)|(refine hK _ ?_;clear hK)|(clear hK;refine hK _ ?_;clear hK)|(clear hK;clear hK;refine hK _ ?_;clear hK)|(clear hK;clear hK;clear hK;refine hK _ ?_;clear hK))
       first|refine ⟨p+1,?_,by omega,by omega⟩|refine ⟨p+1,⟨by omega,?_⟩,by omega⟩
       simp only [hl1]
       refine le_turn (s1:=?tus7) (m1:=?tum7) [] [3,5,18,149] [368,80,16,17,240] ?tua7 ?tub7 ?tuc7 ?tud7 ?tue7 ?tuf7 ?tug7
       case tua7=>first|(simp [keepS];done)|(simp [keepS];rfl)
       case tub7=>first|(simp;done)|(simp;rfl)
       case tuc7=>simp
       case tud7=>simp
       case tue7=>simp
       case tuf7=>simp
       case tug7 =>
        simp [swp,vr]
        exact le_of2 (by simp) (by simp [AVle,AV.under,AV.underL]<;>omega) (by simp [AOle,AO.under,AV.underL,AV.under]<;>omega)
     ·obtain rfl:p=512:=by omega
      have px:=L.px m hlen
      rw [← hM.count] at px
      have fr:=L.fr _ hM.ok
      unfold Own1 at fr
      rw [hM.frm] at fr
      have li:=L.li _ hM.ok
      unfold Own1 at li
      rw [hM.lst] at li
      have ch:=L.ch _ hM.ok
      unfold Own1 at ch
      rw [hM.chk] at ch
      have eqp:=L.eqp (lstM m 512) (by have:=@lstM_le m 512;omega)
      unfold EqpO at eqp
      have htk:=tk512 hlen
      have hwl:(wcs m).length=512:=by simp [hlen]
      obtain ⟨A,hA⟩:∃ A,A=lstM m 512:=⟨_,rfl⟩
      rw [← hA] at li eqp
      simp only [← hA]
      obtain ⟨Fr,hFr⟩:∃ F,F=frmT (0,ns,[]):=⟨_,rfl⟩
      rw [← hFr] at fr
      simp only [TbS,List.length_nil] at fr li ch
      repeat' (first|(apply aw_seq_k;intro K hK)|(refine aw_run hc (by exact aw_nod) ?_;simp [List.zipIdx,aw,px,fr,li,eqp,ch,htk,hwl,-getM,getM_hit,getM_miss,getM_none];(repeat (simp (disch:=first|omega|assumption|fail) only [if_pos,if_neg,wrap64];try simp [List.zipIdx,aw,px,fr,li,eqp,ch,htk,hwl,-getM,getM_hit,getM_miss,getM_none]));try (repeat' (refine guardQ_split (fun h=>?_) (fun h=>?_)<;>simp at h<;>(simp [List.zipIdx,aw,px,fr,li,eqp,ch,htk,hwl,-getM,getM_hit,getM_miss,getM_none];(repeat (simp (disch:=first|omega|assumption|fail) only [if_pos,if_neg,wrap64];try simp [List.zipIdx,aw,px,fr,li,eqp,ch,htk,hwl,-getM,getM_hit,getM_miss,getM_none]))))))|(refine aw_runFt hc ?_;simp [List.zipIdx,aw,px,fr,li,eqp,ch,htk,hwl,-getM,getM_hit,getM_miss,getM_none];(repeat (simp (disch:=first|omega|assumption|fail) only [if_pos,if_neg,wrap64];try simp [List.zipIdx,aw,px,fr,li,eqp,ch,htk,hwl,-getM,getM_hit,getM_miss,getM_none]));refine ⟨by kernel_rfl,?_⟩)|(refine aw_run hc (by first|(intro _;rw [ordB_w hw];kernel_rfl)|(intro _;rw [ordB_w0 hw0];kernel_rfl)|(intro _;kernel_rfl)) ?_;simp [List.zipIdx,aw,px,fr,li,eqp,ch,htk,hwl,-getM,getM_hit,getM_miss,getM_none];(repeat (simp (disch:=first|omega|assumption|fail) only [if_pos,if_neg,wrap64];try simp [List.zipIdx,aw,px,fr,li,eqp,ch,htk,hwl,-getM,getM_hit,getM_miss,getM_none]));try (repeat' (refine guardQ_split (fun h=>?_) (fun h=>?_)<;>simp at h<;>(simp [List.zipIdx,aw,px,fr,li,eqp,ch,htk,hwl,-getM,getM_hit,getM_miss,getM_none];(repeat (simp (disch:=first|omega|assumption|fail) only [if_pos,if_neg,wrap64];try simp [List.zipIdx,aw,px,fr,li,eqp,ch,htk,hwl,-getM,getM_hit,getM_miss,getM_none]))))))|(refine aw_cond (b:=_) (by exact rfl) (fun h=>?_) (fun h=>?_)<;>(try simp at h))|(refine aw_block ?_)|(refine aw_skip ?_;simp only [thenQ,blockQ,if_true])|(refine aw_exit ?_;simp [thenQ,blockQ])|(refine aw_ret ?_;simp only [thenQ,blockQ])|(refine aw_round ?_)|(refine hK _ ?_;clear hK)|(clear hK;refine hK _ ?_;clear hK)|(clear hK;clear hK;refine hK _ ?_;clear hK)|(clear hK;clear hK;clear hK;refine hK _ ?_;clear hK))
      all_goals refine ⟨by simp,?_⟩
      all_goals simp [leaves_iff,Tryz.f9]
      all_goals try (first|omega|(refine decide_eq_decide.2 ?_;omega)|(refine decide_eq_false ?_;omega)|(refine decide_eq_true ?_;omega))
theorem map':PSound Tryz.prog 9 (specF (ι:={l:List Opp // ∀ o∈l,o.2.1<2^64}) (fun x=>[.rd 3 (oprows x.1)]) fun _=>retOf [B true]):=s9 Tm1 lawM
end Go.AM
