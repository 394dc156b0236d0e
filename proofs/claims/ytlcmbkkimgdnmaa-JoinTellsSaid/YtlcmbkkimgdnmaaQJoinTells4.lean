/- What the law JoinTells needs, and no more: merged out of texts of this session by a program of it (wip/tools/prune.py). -/
import Derived.Test.YtlcmbkkimgdnmaaQJoinTells3
set_option linter.unusedVariables false
set_option linter.unusedSimpArgs false
set_option maxRecDepth 10000
set_option maxHeartbeats 1000000
namespace Go.Proofs.Ytlcmbkkimgdnmaa
open Go Go.Proofs.Ytlcmbkkimgdnmaa.Pv
theorem w_join_Reply_1 (r : TReply)  :
    T Try.prog 49 [PV.f (eReply r)] 0 [] (Ret (pB (nzJ r)) 0 []) := by
 refine t_fun tabOk (n := 6) (rs := [.tmp 2]) Try.func49 rfl rfl rfl rfl (nb rfl) ?_
 intro c hnt hk
 refine sr (qo hnt rfl (s_box rfl rfl ?_))
 refine qa hnt rfl rfl (r_set [(1,PV.ptr 0 0)] [(0,.obj (cReply r))] 1 ⟨rfl,trivial⟩ rfl rfl (re (sr (xp hnt 4 [.o 4] [] [(2,pB (!decide (r.code = 0)))] (re ?_)))))
 exact w_le (s := 2) (y := pB (nzJ r)) rfl (le_of_eq (congrArg pB (show (!decide (r.code = 0)) = (nzJ r) by rfl))) (w_ret fp)
theorem w_slices_IndexFunc_api_Reply_api_Reply (s : List TReply) (cl_s : Bool) (hs : s.length ≤ 140737488351232) :
    T Try.prog 48 [pS 10 cl_s eReply s,PV.clo (.func 49) []] 0 [] (Ret (pI (idxI (s.findIdx? nzJ))) 0 []) := by
 refine t_fun tabOk (n := 19) (rs := [.tmp 4]) Try.func48 rfl rfl rfl rfl (nb rfl) ?_
 intro c hnt hk
 refine sr (ae hnt rfl rfl (w_seq (sr (qm hnt rfl rfl (qo hnt rfl (s_lenM (l := s) tab_58 rfl (hM_sl (f := eReply) rfl) ?_))))))
 refine qm hnt rfl rfl (re (w_block (loop1 (fun (i : Nat) => i ≤ s.length ∧ ∀ j x,j < i → s[j]? = some x → nzJ x = false) (fun (i : Nat) => [(0,pS 10 cl_s eReply s),(1,PV.clo (.func 49) []),(7,pN s.length),(8,pN i)]) 0 (fun (i : Nat) => []) (fun (i : Nat) => s.length - i) (0) ?_ ⟨[],rfl,⟨⟨_,rfl,rfl,rfl⟩,⟨_,rfl,rfl,rfl⟩,⟨_,rfl,rfl,rfl⟩,⟨_,rfl,rfl,rfl⟩,trivial⟩,trivial,by rw [hk]; decide⟩ ?_)))
 · exact ⟨Nat.zero_le _,fun j x hj => by omega⟩
 ·intro i hI
  obtain ⟨hi,ht⟩ := hI
  refine sr (qo hnt rfl (s_lss rfl rfl ?_))
  refine re (w_seq (w_if rfl (fun c1 => ?_) (fun c1 => ?_)))
  ·try simp only [sB] at c1
   refine w_skip (q_then (w_seq (w_block (sr (xp hnt 2 [.o 2] [] [(5,pN i)] ?_)))))
   refine re (sr (qm hnt rfl rfl (qm hnt rfl rfl (qm hnt rfl rfl ?_))))
   obtain ⟨e1,he1⟩ := get_of_lt s (i := i) (by omega)
   refine qo hnt rfl (s_iaM (q := i) (b := e1) (f := eReply) tab_58 rfl tab_62 rfl rfl (by omega) rfl he1 ?_)
   refine qo hnt rfl (s_load_ro tab_62 rfl rfl rfl ?_)
   refine qo hnt rfl (s_callF rfl rfl rfl (w_join_Reply_1 e1) rfl ?_)
   refine re (w_if rfl (fun c2 => ?_) (fun c2 => ?_))
   ·have c2_ := c2
    try simp only [sB] at c2
    refine sr (xp hnt 2 [.o 2] [] [(4,pN i)] (re (w_le (s := 4) (y := pI (idxI (s.findIdx? nzJ))) rfl (le_of_eq (congrArg pI (show ((i : Nat) : Int) = (idxI (s.findIdx? nzJ)) by rw [find_step (p := nzJ) ht he1 c2_]))) (w_ret (q_block_ret ?_)))))
    exact q_then_ret (q_then_ret (q_block_ret (q_then_ret fp)))
   have c2_ := c2
   try simp only [sB] at c2
   refine w_skip (q_block (q_then (w_R (qo hnt rfl (s_addN (a := i) (b := 1) rfl rfl (by omega) (by omega) (by omega) ?_)))))
   refine qm hnt rfl rfl (re (⟨(i + 1), ?_, ?_,⟨[],rfl,⟨⟨_,rfl,rfl,rfl⟩,⟨_,rfl,rfl,rfl⟩,⟨_,rfl,rfl,rfl⟩,⟨_,rfl,rfl,rfl⟩,trivial⟩,trivial,by rw [hk]; decide⟩⟩))
   ·refine ⟨by omega,fun j x hj hx => ?_⟩
    by_cases hji : j < i
    · exact ht j x hji hx
    · obtain rfl : j = i := by omega
      rw [he1] at hx; cases hx; exact c2_
   · omega
  try simp only [sB] at c1
  exact w_exit (q_then_exit (q_then_exit (q_block_exit (q_then (sr (ae hnt rfl rfl (w_le (s := 4) (y := pI (idxI (s.findIdx? nzJ))) rfl (le_of_eq (congrArg pI (show (-1) = (idxI (s.findIdx? nzJ)) by rw [find_none (p := nzJ) (fun j x hj hx => ht j x (by omega) hx)]))) (w_ret fp))))))))
theorem w_join_whole (q : TRequest) (r : TReply) (hq : q.bits.length ≤ 140737488351232 ∧ q.vals.length ≤ 70368744175616) (hr : r.bits.length ≤ 1000000 ∧ r.vals.length ≤ 1000000) (hz : r = ⟨q.fn,0,0,0,0,r.bits,r.vals,0,0,[]⟩) :
    T Try.prog 51 [PV.f (eRequest q),PV.f (eReply r)] 0 [] (Ret (PV.f (eReply (wholeJ q r.bits r.vals))) 0 []) := by
 refine t_fun tabOk (n := 72) (rs := [.cell 4 62]) Try.func51 rfl rfl rfl rfl (nb rfl) ?_
 intro c hnt hk
 refine sr (qo hnt rfl (s_box rfl rfl ?_))
 refine qo hnt rfl (s_box rfl rfl ?_)
 refine qo hnt rfl (s_alloc tab_62 ?_)
 refine r_set [(2,PV.ptr 0 0),(3,PV.ptr 1 0),(4,PV.ptr 2 0)] [(2,.obj [pI 0,pI 0,pI 0,pI 0,pI 0,pNil,pNil,p16 0,p16 0,pNil]),(1,.obj (cReply r)),(0,.obj (cRequest q))] 3 ⟨rfl,rfl,rfl,trivial⟩ rfl rfl (re (w_seq (sr (xp hnt 2 [.o 2] [] [(6,pI q.fn)] (re ?_)))))
 refine w_block (sr (xp hnt 2 [.o 2] [] [(7,pB (decide (q.fn = 5)))] (re (w_if rfl (fun c1 => ?_) (fun c1 => ?_)))))
 ·try simp only [sB] at c1
  refine w_seq (wdr hnt (xq 6 [.o 6] [] (xk [(14,pS 1 false encBo q.bits)] [] [] [(3,oB true 1 encBo q.bits)] [(3,oB true 1 encBo q.bits),(2,.obj [pI 0,pI 0,pI 0,pI 0,pI 0,pNil,pNil,p16 0,p16 0,pNil]),(1,.obj (cReply r)),(0,.obj (cRequest q))] (s_callK 4 (PV.ref 3 0 none) _ [] (w_slices_Clone_bool_bool q.bits false (by omega)) ⟨rfl,rfl,rfl⟩) (xk [(15,PV.ref 3 0 none)] [] [(3,oB true 1 encBo q.bits)] [(3,oB false 1 encBo q.bits)] [(3,oB false 1 encBo q.bits),(2,.obj [pI 0,pI 0,pI 0,pI 0,pI 0,pNil,pNil,p16 0,p16 0,pNil]),(1,.obj (cReply r)),(0,.obj (cRequest q))] (s_callK 4 (pS 1 true encBo q.bits) _ [] (w_slices_Clip_bool_bool q.bits false) ⟨rfl,rfl,rfl⟩) (xd 2 [.o 2] [] 4 [(2,.obj [pI q.fn,pI 0,pI q.at_,pI 0,pI 0,pS 1 true encBo q.bits,pNil,p16 0,p16 0,pNil]),(3,oB false 1 encBo q.bits),(1,.obj (cReply r)),(0,.obj (cRequest q))] ?_)))))
  refine xe [(4,PV.ptr 2 0)] (re ?_)
  have hz1 : q.fn = ((wholeJ q r.bits r.vals).fn) ∧ 0 = ((wholeJ q r.bits r.vals).code) ∧ q.at_ = ((wholeJ q r.bits r.vals).at_) ∧ 0 = ((wholeJ q r.bits r.vals).count) ∧ 0 = ((wholeJ q r.bits r.vals).sub) ∧ q.bits = ((wholeJ q r.bits r.vals).bits) ∧ ([] : List UInt16) = ((wholeJ q r.bits r.vals).vals) ∧ 0 = ((wholeJ q r.bits r.vals).and_) ∧ 0 = ((wholeJ q r.bits r.vals).or_) ∧ ([] : List UInt8) = ((wholeJ q r.bits r.vals).data) := by and_intros <;> ((unfold wholeJ; rw [if_pos (by omega)]; done))
  exact w_leO (n := 2) (ds := cReply (wholeJ q r.bits r.vals)) rfl ⟨le_of_eq (congrArg pI hz1.1),le_of_eq (congrArg pI hz1.2.1),le_of_eq (congrArg pI hz1.2.2.1),le_of_eq (congrArg pI hz1.2.2.2.1),le_of_eq (congrArg pI hz1.2.2.2.2.1),le_tr (le_loose) (le_of_eq (congrArg (fun z => pS 1 false encBo z) hz1.2.2.2.2.2.1)),le_tr (le_nilS 1 false) (le_of_eq (congrArg (fun z => pS 1 false enc16 z) hz1.2.2.2.2.2.2.1)),le_of_eq (congrArg p16 hz1.2.2.2.2.2.2.2.1),le_of_eq (congrArg p16 hz1.2.2.2.2.2.2.2.2.1),le_tr (le_nilS 1 false) (le_of_eq (congrArg (fun z => pS 1 false enc8 z) hz1.2.2.2.2.2.2.2.2.2)),trivial⟩ (w_ret (q_block_ret (q_then_ret fp)))
 try simp only [sB] at c1
 refine sr (xp hnt 2 [.o 2] [] [(18,pB (decide (q.fn = 6)))] (re (w_if rfl (fun c2 => ?_) (fun c2 => ?_))))
 ·try simp only [sB] at c2
  refine w_seq (wdr hnt (xq 6 [.o 6] [] (xk [(25,pS 1 false enc16 q.vals)] [] [] [(3,oB true 1 enc16 q.vals)] [(3,oB true 1 enc16 q.vals),(2,.obj [pI 0,pI 0,pI 0,pI 0,pI 0,pNil,pNil,p16 0,p16 0,pNil]),(1,.obj (cReply r)),(0,.obj (cRequest q))] (s_callK 4 (PV.ref 3 0 none) _ [] (w_slices_Clone_uint16_uint16 q.vals false (by omega)) ⟨rfl,rfl,rfl⟩) (xk [(26,PV.ref 3 0 none)] [] [(3,oB true 1 enc16 q.vals)] [(3,oB false 1 enc16 q.vals)] [(3,oB false 1 enc16 q.vals),(2,.obj [pI 0,pI 0,pI 0,pI 0,pI 0,pNil,pNil,p16 0,p16 0,pNil]),(1,.obj (cReply r)),(0,.obj (cRequest q))] (s_callK 4 (pS 1 true enc16 q.vals) _ [] (w_slices_Clip_uint16_uint16 q.vals false) ⟨rfl,rfl,rfl⟩) (xd 2 [.o 2] [] 4 [(2,.obj [pI q.fn,pI 0,pI q.at_,pI 0,pI 0,pNil,pS 1 true enc16 q.vals,p16 0,p16 0,pNil]),(3,oB false 1 enc16 q.vals),(1,.obj (cReply r)),(0,.obj (cRequest q))] ?_)))))
  refine xe [(4,PV.ptr 2 0)] (re ?_)
  have hz2 : q.fn = ((wholeJ q r.bits r.vals).fn) ∧ 0 = ((wholeJ q r.bits r.vals).code) ∧ q.at_ = ((wholeJ q r.bits r.vals).at_) ∧ 0 = ((wholeJ q r.bits r.vals).count) ∧ 0 = ((wholeJ q r.bits r.vals).sub) ∧ ([] : List Bool) = ((wholeJ q r.bits r.vals).bits) ∧ q.vals = ((wholeJ q r.bits r.vals).vals) ∧ 0 = ((wholeJ q r.bits r.vals).and_) ∧ 0 = ((wholeJ q r.bits r.vals).or_) ∧ ([] : List UInt8) = ((wholeJ q r.bits r.vals).data) := by and_intros <;> ((unfold wholeJ; rw [if_neg (by omega),if_pos (by omega)]; done))
  exact w_leO (n := 2) (ds := cReply (wholeJ q r.bits r.vals)) rfl ⟨le_of_eq (congrArg pI hz2.1),le_of_eq (congrArg pI hz2.2.1),le_of_eq (congrArg pI hz2.2.2.1),le_of_eq (congrArg pI hz2.2.2.2.1),le_of_eq (congrArg pI hz2.2.2.2.2.1),le_tr (le_nilS 1 false) (le_of_eq (congrArg (fun z => pS 1 false encBo z) hz2.2.2.2.2.2.1)),le_tr (le_loose) (le_of_eq (congrArg (fun z => pS 1 false enc16 z) hz2.2.2.2.2.2.2.1)),le_of_eq (congrArg p16 hz2.2.2.2.2.2.2.2.1),le_of_eq (congrArg p16 hz2.2.2.2.2.2.2.2.2.1),le_tr (le_nilS 1 false) (le_of_eq (congrArg (fun z => pS 1 false enc8 z) hz2.2.2.2.2.2.2.2.2.2)),trivial⟩ (w_ret (q_block_ret (q_then_ret fp)))
 try simp only [sB] at c2
 refine xo hnt 29 [[.o 2],[.o 2]] [] ((decide (q.fn = 15)) || (decide (q.fn = 16))) (w_if rfl (fun c4 => ?_) (fun c4 => ?_))
 ·try simp only [sB,Bool.or_eq_true,Bool.or_eq_false_iff] at c4
  refine sr (xm hnt 8 [.o 8] [] [] 3 [(2,.obj [pI q.fn,pI 0,pI q.at_,pI q.count,pI 0,pNil,pNil,p16 0,p16 0,pNil]),(1,.obj (cReply r)),(0,.obj (cRequest q))] (re ?_))
  have hz3 : q.fn = ((wholeJ q r.bits r.vals).fn) ∧ 0 = ((wholeJ q r.bits r.vals).code) ∧ q.at_ = ((wholeJ q r.bits r.vals).at_) ∧ q.count = ((wholeJ q r.bits r.vals).count) ∧ 0 = ((wholeJ q r.bits r.vals).sub) ∧ ([] : List Bool) = ((wholeJ q r.bits r.vals).bits) ∧ ([] : List UInt16) = ((wholeJ q r.bits r.vals).vals) ∧ 0 = ((wholeJ q r.bits r.vals).and_) ∧ 0 = ((wholeJ q r.bits r.vals).or_) ∧ ([] : List UInt8) = ((wholeJ q r.bits r.vals).data) := by and_intros <;> ((unfold wholeJ; rw [if_neg (by omega),if_neg (by omega),if_pos (by omega)]; done))
  exact w_leO (n := 2) (ds := cReply (wholeJ q r.bits r.vals)) rfl ⟨le_of_eq (congrArg pI hz3.1),le_of_eq (congrArg pI hz3.2.1),le_of_eq (congrArg pI hz3.2.2.1),le_of_eq (congrArg pI hz3.2.2.2.1),le_of_eq (congrArg pI hz3.2.2.2.2.1),le_tr (le_nilS 1 false) (le_of_eq (congrArg (fun z => pS 1 false encBo z) hz3.2.2.2.2.2.1)),le_tr (le_nilS 1 false) (le_of_eq (congrArg (fun z => pS 1 false enc16 z) hz3.2.2.2.2.2.2.1)),le_of_eq (congrArg p16 hz3.2.2.2.2.2.2.2.1),le_of_eq (congrArg p16 hz3.2.2.2.2.2.2.2.2.1),le_tr (le_nilS 1 false) (le_of_eq (congrArg (fun z => pS 1 false enc8 z) hz3.2.2.2.2.2.2.2.2.2)),trivial⟩ (w_ret (q_block_ret (q_then_ret fp)))
 try simp only [sB,Bool.or_eq_true,Bool.or_eq_false_iff] at c4
 refine sr (qo hnt rfl (s_eql rfl rfl ?_))
 refine ae hnt rfl rfl (w_if rfl (fun c5 => ?_) (fun c5 => ?_))
 ·try simp only [sB] at c5
  refine sr (xm hnt 10 [.o 10] [] [] 3 [(2,.obj [pI q.fn,pI 0,pI q.at_,pI 0,pI 0,pNil,pNil,p16 q.and_,p16 q.or_,pNil]),(1,.obj (cReply r)),(0,.obj (cRequest q))] (re ?_))
  have hz4 : q.fn = ((wholeJ q r.bits r.vals).fn) ∧ 0 = ((wholeJ q r.bits r.vals).code) ∧ q.at_ = ((wholeJ q r.bits r.vals).at_) ∧ 0 = ((wholeJ q r.bits r.vals).count) ∧ 0 = ((wholeJ q r.bits r.vals).sub) ∧ ([] : List Bool) = ((wholeJ q r.bits r.vals).bits) ∧ ([] : List UInt16) = ((wholeJ q r.bits r.vals).vals) ∧ q.and_ = ((wholeJ q r.bits r.vals).and_) ∧ q.or_ = ((wholeJ q r.bits r.vals).or_) ∧ ([] : List UInt8) = ((wholeJ q r.bits r.vals).data) := by and_intros <;> ((unfold wholeJ; rw [if_neg (by omega),if_neg (by omega),if_neg (by omega),if_pos (by omega)]; done))
  exact w_leO (n := 2) (ds := cReply (wholeJ q r.bits r.vals)) rfl ⟨le_of_eq (congrArg pI hz4.1),le_of_eq (congrArg pI hz4.2.1),le_of_eq (congrArg pI hz4.2.2.1),le_of_eq (congrArg pI hz4.2.2.2.1),le_of_eq (congrArg pI hz4.2.2.2.2.1),le_tr (le_nilS 1 false) (le_of_eq (congrArg (fun z => pS 1 false encBo z) hz4.2.2.2.2.2.1)),le_tr (le_nilS 1 false) (le_of_eq (congrArg (fun z => pS 1 false enc16 z) hz4.2.2.2.2.2.2.1)),le_of_eq (congrArg p16 hz4.2.2.2.2.2.2.2.1),le_of_eq (congrArg p16 hz4.2.2.2.2.2.2.2.2.1),le_tr (le_nilS 1 false) (le_of_eq (congrArg (fun z => pS 1 false enc8 z) hz4.2.2.2.2.2.2.2.2.2)),trivial⟩ (w_ret (q_block_ret (q_then_ret fp)))
 try simp only [sB] at c5
 refine w_skip (q_block (q_then (w_seq (sr (xp hnt 10 [.o 2,.c (pN r.bits.length),.o 2,.c (pN r.vals.length),.o 4] [lenC encBo r.bits,lenC enc16 r.vals,okI (((r.bits.length : Nat) : Int) + ((r.vals.length : Nat) : Int))] [(59,pB (!decide (((r.bits.length + r.vals.length : Nat) : Int) = q.count)))] ?_ (hc := ⟨lenC_ok _ _,lenC_ok _ _,by unfold okI; (omega),trivial⟩))))))
 refine re (w_if rfl (fun c6 => ?_) (fun c6 => ?_))
 ·try simp only [sB] at c6
  refine sr (xp hnt 2 [.o 2] [] [(61,pI q.fn)] (qo hnt rfl (s_callF rfl rfl rfl (w_reply_Refuse q.fn 4) rfl ?_)))
  refine qo hnt rfl (s_store_ptr tab_62 rfl rfl rfl rfl rfl (nb rfl) ?_)
  refine r_set [(4,PV.ptr 2 0)] [(2,.obj (cReply (refuseR q.fn 4))),(1,.obj (cReply r)),(0,.obj (cRequest q))] 3 ⟨rfl,trivial⟩ rfl rfl (re ?_)
  have hz5 : ((refuseR q.fn 4).fn) = ((wholeJ q r.bits r.vals).fn) ∧ ((refuseR q.fn 4).code) = ((wholeJ q r.bits r.vals).code) ∧ ((refuseR q.fn 4).at_) = ((wholeJ q r.bits r.vals).at_) ∧ ((refuseR q.fn 4).count) = ((wholeJ q r.bits r.vals).count) ∧ ((refuseR q.fn 4).sub) = ((wholeJ q r.bits r.vals).sub) ∧ ((refuseR q.fn 4).bits) = ((wholeJ q r.bits r.vals).bits) ∧ ((refuseR q.fn 4).vals) = ((wholeJ q r.bits r.vals).vals) ∧ ((refuseR q.fn 4).and_) = ((wholeJ q r.bits r.vals).and_) ∧ ((refuseR q.fn 4).or_) = ((wholeJ q r.bits r.vals).or_) ∧ ((refuseR q.fn 4).data) = ((wholeJ q r.bits r.vals).data) := by and_intros <;> ((unfold wholeJ; rw [if_neg (by omega),if_neg (by omega),if_neg (by omega),if_neg (by omega),if_neg (by omega)]; done))
  exact w_leO (n := 2) (ds := cReply (wholeJ q r.bits r.vals)) rfl ⟨le_of_eq (congrArg pI hz5.1),le_of_eq (congrArg pI hz5.2.1),le_of_eq (congrArg pI hz5.2.2.1),le_of_eq (congrArg pI hz5.2.2.2.1),le_of_eq (congrArg pI hz5.2.2.2.2.1),le_of_eq (congrArg (fun z => pS 1 false encBo z) hz5.2.2.2.2.2.1),le_of_eq (congrArg (fun z => pS 1 false enc16 z) hz5.2.2.2.2.2.2.1),le_of_eq (congrArg p16 hz5.2.2.2.2.2.2.2.1),le_of_eq (congrArg p16 hz5.2.2.2.2.2.2.2.2.1),le_of_eq (congrArg (fun z => pS 1 false enc8 z) hz5.2.2.2.2.2.2.2.2.2),trivial⟩ (w_ret (q_then_ret fp))
 try simp only [sB] at c6
 refine w_skip (q_then (w_seq (wdr hnt (xd 10 [.o 2,.c (pS 1 true encBo r.bits),.o 2,.c (pS 1 true enc16 r.vals),.o 4] [T Try.prog 40 [pS 1 false encBo r.bits] 0 [] (Ret (pS 1 true encBo r.bits) 0 []),T Try.prog 41 [pS 1 false enc16 r.vals] 0 [] (Ret (pS 1 true enc16 r.vals) 0 [])] 3 [(1,.obj [pI r.fn,pI r.code,pI r.at_,pI r.count,pI r.sub,pS 1 true encBo r.bits,pS 1 true enc16 r.vals,p16 r.and_,p16 r.or_,pS 1 false enc8 r.data]),(2,.obj [pI 0,pI 0,pI 0,pI 0,pI 0,pNil,pNil,p16 0,p16 0,pNil]),(0,.obj (cRequest q))] ?_ (hc := ⟨(w_slices_Clip_bool_bool r.bits false),(w_slices_Clip_uint16_uint16 r.vals false),trivial⟩)))))
 refine xe [(3,PV.ptr 1 0),(4,PV.ptr 2 0)] (re (sr (qo hnt rfl (s_load_ptr tab_62 rfl rfl rfl (nb rfl) ?_))))
 refine qo hnt rfl (s_store_ptr tab_62 rfl rfl rfl rfl rfl (nb rfl) ?_)
 refine r_set [(4,PV.ptr 2 0)] [(2,.obj [pI r.fn,pI r.code,pI r.at_,pI r.count,pI r.sub,pS 1 true encBo r.bits,pS 1 true enc16 r.vals,p16 r.and_,p16 r.or_,pS 1 false enc8 r.data]),(1,.obj [pI r.fn,pI r.code,pI r.at_,pI r.count,pI r.sub,pS 1 true encBo r.bits,pS 1 true enc16 r.vals,p16 r.and_,p16 r.or_,pS 1 false enc8 r.data]),(0,.obj (cRequest q))] 3 ⟨rfl,trivial⟩ rfl rfl (re ?_)
 have hz6 : r.fn = ((wholeJ q r.bits r.vals).fn) ∧ r.code = ((wholeJ q r.bits r.vals).code) ∧ r.at_ = ((wholeJ q r.bits r.vals).at_) ∧ r.count = ((wholeJ q r.bits r.vals).count) ∧ r.sub = ((wholeJ q r.bits r.vals).sub) ∧ r.bits = ((wholeJ q r.bits r.vals).bits) ∧ r.vals = ((wholeJ q r.bits r.vals).vals) ∧ r.and_ = ((wholeJ q r.bits r.vals).and_) ∧ r.or_ = ((wholeJ q r.bits r.vals).or_) ∧ r.data = ((wholeJ q r.bits r.vals).data) := by and_intros <;> ((rw [whole_r (by omega) (by omega) hz]; done))
 exact w_leO (n := 2) (ds := cReply (wholeJ q r.bits r.vals)) rfl ⟨le_of_eq (congrArg pI hz6.1),le_of_eq (congrArg pI hz6.2.1),le_of_eq (congrArg pI hz6.2.2.1),le_of_eq (congrArg pI hz6.2.2.2.1),le_of_eq (congrArg pI hz6.2.2.2.2.1),le_tr (le_loose) (le_of_eq (congrArg (fun z => pS 1 false encBo z) hz6.2.2.2.2.2.1)),le_tr (le_loose) (le_of_eq (congrArg (fun z => pS 1 false enc16 z) hz6.2.2.2.2.2.2.1)),le_of_eq (congrArg p16 hz6.2.2.2.2.2.2.2.1),le_of_eq (congrArg p16 hz6.2.2.2.2.2.2.2.2.1),le_of_eq (congrArg (fun z => pS 1 false enc8 z) hz6.2.2.2.2.2.2.2.2.2),trivial⟩ (w_ret fp)
theorem w_join_Reply (t : TTenant) (q : TRequest) (l : List TReply) (cl_l : Bool) (J : TReply) (hJ : J = joinV t.functions t.windows q l) (ht : t.windows.length ≤ 1000) (hb : q.bits.length ≤ 140737488351232) (hv : q.vals.length ≤ 70368744175616) (hl : l.length ≤ 1000000) (hrl : ∀ r ∈ l,r.bits.length ≤ 5000 ∧ r.vals.length ≤ 5000 ∧ r.data.length ≤ 5000) :
    T Try.prog 27 [PV.f (eTenant t),PV.f (eRequest q),pS 10 cl_l eReply l] 0 [] (Ret (PV.f (eReply J)) 0 []) := by
 refine t_fun tabOk (n := 108) (rs := [.cell 6 62]) Try.func27 rfl rfl rfl rfl (nb rfl) ?_
 intro c hnt hk
 refine sr (qo hnt rfl (s_box rfl rfl ?_))
 refine qo hnt rfl (s_box rfl rfl ?_)
 refine qo hnt rfl (s_alloc tab_62 ?_)
 refine r_set [(2,pS 10 cl_l eReply l),(3,PV.ptr 0 0),(4,PV.ptr 1 0),(6,PV.ptr 2 0)] [(2,.obj [pI 0,pI 0,pI 0,pI 0,pI 0,pNil,pNil,p16 0,p16 0,pNil]),(1,.obj (cRequest q)),(0,.obj (cTenant t))] 3 ⟨rfl,rfl,rfl,rfl,trivial⟩ rfl rfl (re (sr (xp hnt 2 [.o 2] [] [(14,PV.f (eTenant t)),(15,PV.f (eRequest q))] ?_)))
 obtain ⟨S1,hS1⟩ : ∃ z : List TPart × Int,z = splitP t.functions t.windows q := ⟨_,rfl⟩
 refine qo hnt rfl (s_callF rfl rfl rfl (w_part_Split t q S1 hS1 (by omega) (by omega) (by omega)) rfl ?_)
 refine xp hnt 5 [.o 5] [] [(7,pS 10 false ePart S1.1),(8,pI S1.2)] (re (w_seq (w_block (w_seq ?_))))
 have hS2 : S1.2 = codeP t.functions t.windows q := by rw [hS1,split_code]
 have hs6 := (split_len t.functions t.windows q).1
 rw [← hS1] at hs6
 refine w_R (xp hnt 3 [.o 3] [] [(19,pB (!decide (S1.2 = 0)))] (re (w_if rfl (fun c1 => ?_) (fun c1 => ?_))))
 ·have c1_ := c1
  try simp only [sB] at c1
  have hcn : ¬ codeP t.functions t.windows q = 0 := by rw [← hS2]; simpa using c1_
  refine sr (xp hnt 3 [.o 3] [] [(23,pI q.fn),(24,pI S1.2)] (qo hnt rfl (s_callF rfl rfl rfl (w_reply_Refuse q.fn S1.2) rfl ?_)))
  refine qo hnt rfl (s_store_ptr tab_62 rfl rfl rfl rfl rfl (nb rfl) ?_)
  refine r_set [(6,PV.ptr 2 0)] [(2,.obj (cReply (refuseR q.fn S1.2))),(1,.obj (cRequest q)),(0,.obj (cTenant t))] 3 ⟨rfl,trivial⟩ rfl rfl (re ?_)
  have hz1 : ((refuseR q.fn S1.2).fn) = J.fn ∧ ((refuseR q.fn S1.2).code) = J.code ∧ ((refuseR q.fn S1.2).at_) = J.at_ ∧ ((refuseR q.fn S1.2).count) = J.count ∧ ((refuseR q.fn S1.2).sub) = J.sub ∧ ((refuseR q.fn S1.2).bits) = J.bits ∧ ((refuseR q.fn S1.2).vals) = J.vals ∧ ((refuseR q.fn S1.2).and_) = J.and_ ∧ ((refuseR q.fn S1.2).or_) = J.or_ ∧ ((refuseR q.fn S1.2).data) = J.data := by and_intros <;> ((rw [hJ,join_code hcn,hS2]; done))
  exact w_leO (n := 2) (ds := cReply J) rfl ⟨le_of_eq (congrArg pI hz1.1),le_of_eq (congrArg pI hz1.2.1),le_of_eq (congrArg pI hz1.2.2.1),le_of_eq (congrArg pI hz1.2.2.2.1),le_of_eq (congrArg pI hz1.2.2.2.2.1),le_of_eq (congrArg (fun z => pS 1 false encBo z) hz1.2.2.2.2.2.1),le_of_eq (congrArg (fun z => pS 1 false enc16 z) hz1.2.2.2.2.2.2.1),le_of_eq (congrArg p16 hz1.2.2.2.2.2.2.2.1),le_of_eq (congrArg p16 hz1.2.2.2.2.2.2.2.2.1),le_of_eq (congrArg (fun z => pS 1 false enc8 z) hz1.2.2.2.2.2.2.2.2.2),trivial⟩ (w_ret (q_block_ret (q_then_ret fp)))
 have c1_ := c1
 try simp only [sB] at c1
 refine w_seq ?_
 have hc0 : codeP t.functions t.windows q = 0 := by rw [← hS2]; simpa using c1_
 refine w_R (xp hnt 1 [.o 1] [] [(27,PV.f (eRequest q))] (qo hnt rfl (s_callF rfl rfl rfl (w_part_Local q) rfl ?_)))
 refine ae hnt rfl rfl (w_if rfl (fun c2 => ?_) (fun c2 => ?_))
 ·have c2_ := c2
  try simp only [sB] at c2
  refine sr (xp hnt 2 [.o 2] [] [(30,pI q.fn)] (qo hnt rfl (s_callF rfl rfl rfl (w_reply_Refuse q.fn 4) rfl ?_)))
  refine qo hnt rfl (s_store_ptr tab_62 rfl rfl rfl rfl rfl (nb rfl) ?_)
  refine r_set [(6,PV.ptr 2 0)] [(2,.obj (cReply (refuseR q.fn 4))),(1,.obj (cRequest q)),(0,.obj (cTenant t))] 3 ⟨rfl,trivial⟩ rfl rfl (re ?_)
  have hz2 : ((refuseR q.fn 4).fn) = J.fn ∧ ((refuseR q.fn 4).code) = J.code ∧ ((refuseR q.fn 4).at_) = J.at_ ∧ ((refuseR q.fn 4).count) = J.count ∧ ((refuseR q.fn 4).sub) = J.sub ∧ ((refuseR q.fn 4).bits) = J.bits ∧ ((refuseR q.fn 4).vals) = J.vals ∧ ((refuseR q.fn 4).and_) = J.and_ ∧ ((refuseR q.fn 4).or_) = J.or_ ∧ ((refuseR q.fn 4).data) = J.data := by and_intros <;> ((rw [hJ,join_loc hc0 (by simpa using c2_)]; done))
  exact w_leO (n := 2) (ds := cReply J) rfl ⟨le_of_eq (congrArg pI hz2.1),le_of_eq (congrArg pI hz2.2.1),le_of_eq (congrArg pI hz2.2.2.1),le_of_eq (congrArg pI hz2.2.2.2.1),le_of_eq (congrArg pI hz2.2.2.2.2.1),le_of_eq (congrArg (fun z => pS 1 false encBo z) hz2.2.2.2.2.2.1),le_of_eq (congrArg (fun z => pS 1 false enc16 z) hz2.2.2.2.2.2.2.1),le_of_eq (congrArg p16 hz2.2.2.2.2.2.2.2.1),le_of_eq (congrArg p16 hz2.2.2.2.2.2.2.2.2.1),le_of_eq (congrArg (fun z => pS 1 false enc8 z) hz2.2.2.2.2.2.2.2.2.2),trivial⟩ (w_ret (q_block_ret (q_then_ret fp)))
 have c2_ := c2
 try simp only [sB] at c2
 refine w_skip (q_block (q_then (w_seq ?_)))
 have hlc : locP q.fn = false := by simpa using c2_
 refine w_R (xp hnt 5 [.o 2,.c (pN l.length),.o 1,.c (pN S1.1.length)] [lenC eReply l,lenC ePart S1.1] [(32,pS 10 cl_l eReply l),(34,pN l.length),(36,pN S1.1.length)] ?_ (hc := ⟨lenC_ok _ _,lenC_ok _ _,trivial⟩))
 refine qo hnt rfl (s_minN (a := l.length) (b := S1.1.length) rfl (by omega) (by omega) ?_)
 refine qo hnt rfl (s_cutM_hi (b := min l.length S1.1.length) (f := eReply) (l := l) tab_58 rfl tab_62 ⟨rfl,by decide⟩ rfl (bound_some rfl (by omega)) (by omega) ?_)
 refine ae hnt rfl rfl (w_seq (w_seq ?_))
 obtain ⟨L,hL⟩ : ∃ z,z = l.take S1.1.length := ⟨_,rfl⟩
 refine w_eq (s := 2) (y := pS 10 false eReply L) rfl (congrArg (fun z => pS 10 false eReply z) (show (l.take (min l.length S1.1.length)) = L by rw [hL,List.take_eq_take_iff]; omega)) ?_
 have hLl : L.length ≤ S1.1.length ∧ (L.length < S1.1.length ↔ l.length < S1.1.length) := by rw [hL,List.length_take]; omega
 have hrL : ∀ r ∈ L,r.bits.length ≤ 5000 ∧ r.vals.length ≤ 5000 ∧ r.data.length ≤ 5000 := fun r hr => hrl r (List.mem_of_mem_take (by rw [← hL]; exact hr))
 refine w_R (qm hnt rfl rfl (qo hnt rfl (s_callK 3 (pI (idxI (L.findIdx? nzJ))) [(2,.obj [pI 0,pI 0,pI 0,pI 0,pI 0,pNil,pNil,p16 0,p16 0,pNil]),(1,.obj (cRequest q)),(0,.obj (cTenant t))] [] (w_slices_IndexFunc_api_Reply_api_Reply L false (by omega)) ?_)))
 refine ae hnt rfl rfl (sr (qm hnt rfl rfl (qo hnt rfl (s_geq rfl rfl ?_))))
 refine re (w_if rfl (fun c3 => ?_) (fun c3 => ?_))
 ·have c3_ := c3
  try simp only [sB] at c3
  refine w_seq ?_
  obtain ⟨ii,e0,hxi,he0,hcj⟩ := nz_some (rs := L) (by omega)
  have hil := (List.getElem?_eq_some_iff.1 he0).1
  refine w_eq (s := 9) (y := pN ii) rfl (congrArg pI (show (idxI (L.findIdx? nzJ)) = ((ii : Nat) : Int) by exact hxi)) (wdr hnt (xq 4 [.o 4] [] (xk [(45,pS 10 false eReply L),(46,pN ii)] [] [] [] [(2,.obj [pI 0,pI 0,pI 0,pI 0,pI 0,pNil,pNil,p16 0,p16 0,pNil]),(1,.obj (cRequest q)),(0,.obj (cTenant t))] (s_iaM (q := ii) (b := e0) (f := eReply) tab_58 rfl tab_62 rfl rfl (by omega) rfl he0 ⟨rfl,rfl,rfl⟩) (xd 4 [.o 2,.c (PV.f (eReply (refuseR q.fn e0.code))),.o 1] [T Try.prog 47 [pI q.fn,pI e0.code] 0 [] (Ret (PV.f (eReply (refuseR q.fn e0.code))) 0 [])] 3 [(2,.obj (cReply (refuseR q.fn e0.code))),(1,.obj (cRequest q)),(0,.obj (cTenant t))] ?_ (hc := ⟨(w_reply_Refuse q.fn e0.code),trivial⟩)))))
  refine xe [(6,PV.ptr 2 0)] (re ?_)
  have hz3 : ((refuseR q.fn e0.code).fn) = J.fn ∧ ((refuseR q.fn e0.code).code) = J.code ∧ ((refuseR q.fn e0.code).at_) = J.at_ ∧ ((refuseR q.fn e0.code).count) = J.count ∧ ((refuseR q.fn e0.code).sub) = J.sub ∧ ((refuseR q.fn e0.code).bits) = J.bits ∧ ((refuseR q.fn e0.code).vals) = J.vals ∧ ((refuseR q.fn e0.code).and_) = J.and_ ∧ ((refuseR q.fn e0.code).or_) = J.or_ ∧ ((refuseR q.fn e0.code).data) = J.data := by and_intros <;> ((rw [hJ,join_ref hc0 hlc (by rw [← hS1,← hL]; exact hcj)]; done))
  exact w_leO (n := 2) (ds := cReply J) rfl ⟨le_of_eq (congrArg pI hz3.1),le_of_eq (congrArg pI hz3.2.1),le_of_eq (congrArg pI hz3.2.2.1),le_of_eq (congrArg pI hz3.2.2.2.1),le_of_eq (congrArg pI hz3.2.2.2.2.1),le_of_eq (congrArg (fun z => pS 1 false encBo z) hz3.2.2.2.2.2.1),le_of_eq (congrArg (fun z => pS 1 false enc16 z) hz3.2.2.2.2.2.2.1),le_of_eq (congrArg p16 hz3.2.2.2.2.2.2.2.1),le_of_eq (congrArg p16 hz3.2.2.2.2.2.2.2.2.1),le_of_eq (congrArg (fun z => pS 1 false enc8 z) hz3.2.2.2.2.2.2.2.2.2),trivial⟩ (w_ret (q_then_ret fp))
 have c3_ := c3
 try simp only [sB] at c3
 refine w_skip (q_then (w_seq ?_))
 have hcj : codeJ L = none := nz_none (by omega)
 refine w_R (xm hnt 5 [.o 5] [] [(10,PV.ptr 3 0)] 4 [(3,.obj [pI q.fn,pI 0,pI 0,pI 0,pI 0,pNil,pNil,p16 0,p16 0,pNil]),(2,.obj [pI 0,pI 0,pI 0,pI 0,pI 0,pNil,pNil,p16 0,p16 0,pNil]),(1,.obj (cRequest q)),(0,.obj (cTenant t))] (re (w_seq (sr (qm hnt rfl rfl ?_)))))
 refine qo hnt rfl (s_lenM (l := L) tab_58 rfl (hM_sl (f := eReply) rfl) ?_)
 refine qm hnt rfl rfl (re (w_block (w_adoptC (n := 3) (j := 5) (sz := 1) rfl rfl rfl (w_adoptC (n := 3) (j := 6) (sz := 1) rfl rfl rfl (loop3 (fun (bo : List Bool) (vo : List UInt16) (i : Nat) => i ≤ L.length ∧ bo = bitsJ S1.1 (L.take i) ∧ vo = valsJ S1.1 (L.take i) ∧ anyJ S1.1 (L.take i) = false ∧ bo.length ≤ 5000 * i ∧ vo.length ≤ 5000 * i) (fun (bo : List Bool) (vo : List UInt16) (i : Nat) => [(2,pS 10 false eReply L),(4,PV.ptr 3 0),(6,PV.ptr 4 0),(7,pS 10 false ePart S1.1),(10,PV.ptr 0 0),(54,pS 10 false eReply L),(55,pN L.length),(56,pN i)]) 5 (fun (bo : List Bool) (vo : List UInt16) (i : Nat) => [(0,.obj [pI q.fn,pI 0,pI 0,pI 0,pI 0,PV.ref 1 0 none,PV.ref 2 0 none,p16 0,p16 0,pNil]),(1,oB true 1 encBo bo),(2,oB true 1 enc16 vo),(3,.obj (cRequest q)),(4,.obj [pI 0,pI 0,pI 0,pI 0,pI 0,pNil,pNil,p16 0,p16 0,pNil])]) (fun (bo : List Bool) (vo : List UInt16) (i : Nat) => L.length - i) (([] : List Bool)) (([] : List UInt16)) (0) ?_ ⟨[(0,3),(1,4),(2,5),(3,1),(4,2)],by rw [hk]; decide,⟨⟨_,rfl,rfl,rfl⟩,⟨_,rfl,rfl,rfl⟩,⟨_,rfl,rfl,rfl⟩,⟨_,rfl,rfl,rfl⟩,⟨_,rfl,rfl,rfl⟩,⟨_,rfl,rfl,rfl⟩,⟨_,rfl,rfl,rfl⟩,⟨_,rfl,rfl,rfl⟩,trivial⟩,⟨⟨_,_,rfl,rfl,rfl,rfl⟩,⟨_,_,rfl,rfl,rfl,rfl⟩,⟨_,_,rfl,rfl,rfl,rfl⟩,⟨_,_,rfl,rfl,rfl,rfl⟩,⟨_,_,rfl,rfl,rfl,rfl⟩,trivial⟩,by rw [hk]; decide⟩ ?_)))))
 · exact ⟨by omega,by simp [bitsJ_nil],by simp [valsJ_nil],by simp [anyJ_nil],by simp,by simp⟩
 ·intro bo vo i hI
  obtain ⟨hi,hbo,hvo,hany,hbl,hvl⟩ := hI
  refine sr (qo hnt rfl (s_lss rfl rfl ?_))
  refine re (w_seq (w_if rfl (fun c4 => ?_) (fun c4 => ?_)))
  ·have c4_ := c4
   try simp only [sB] at c4
   refine w_skip (q_then (w_seq (w_block (sr (qm hnt rfl rfl ?_)))))
   obtain ⟨e1,he1⟩ := get_of_lt L (i := i) (by omega)
   refine qo hnt rfl (s_iaM (q := i) (b := e1) (f := eReply) tab_58 rfl tab_62 rfl rfl (by omega) rfl he1 ?_)
   refine qo hnt rfl (s_load_ro tab_62 rfl rfl rfl ?_)
   refine qo hnt rfl (s_alloc tab_62 ?_)
   refine qa hnt rfl rfl (qo hnt rfl (s_store_ptr tab_62 rfl rfl rfl rfl rfl (nb rfl) ?_))
   refine r_set [(2,pS 10 false eReply L),(4,PV.ptr 3 0),(6,PV.ptr 4 0),(7,pS 10 false ePart S1.1),(10,PV.ptr 0 0),(11,pN i),(12,PV.ptr 5 0),(54,pS 10 false eReply L),(55,pN L.length),(56,pN i)] [(5,.obj (cReply e1)),(0,.obj [pI q.fn,pI 0,pI 0,pI 0,pI 0,PV.ref 1 0 none,PV.ref 2 0 none,p16 0,p16 0,pNil]),(1,oB true 1 encBo bo),(2,oB true 1 enc16 vo),(3,.obj (cRequest q)),(4,.obj [pI 0,pI 0,pI 0,pI 0,pI 0,pNil,pNil,p16 0,p16 0,pNil])] 6 ⟨rfl,rfl,rfl,rfl,rfl,rfl,rfl,rfl,rfl,rfl,trivial⟩ rfl rfl (re (w_seq (w_seq ?_)))
   have hre := hrL e1 (List.mem_of_getElem? he1)
   refine wdr hnt (xq 4 [.o 4] [] ?_)
   obtain ⟨e2,he2⟩ := get_of_lt S1.1 (i := i) (by omega)
   refine xk [(63,pS 10 false ePart S1.1),(64,pN i)] [] [] [] [(5,.obj (cReply e1)),(0,.obj [pI q.fn,pI 0,pI 0,pI 0,pI 0,PV.ref 1 0 none,PV.ref 2 0 none,p16 0,p16 0,pNil]),(1,oB true 1 encBo bo),(2,oB true 1 enc16 vo),(3,.obj (cRequest q)),(4,.obj [pI 0,pI 0,pI 0,pI 0,pI 0,pNil,pNil,p16 0,p16 0,pNil])] (s_iaM (q := i) (b := e2) (f := ePart) tab_45 rfl tab_50 rfl rfl (by omega) rfl he2 ⟨rfl,rfl,rfl⟩) (xq 5 [.o 5] [] (xi 70 [(70,pB (!decide (e1.fn = e2.request.fn))),(12,PV.ptr 5 0)] rfl (fun g1 => ?_) (fun g1 => ?_)))
   ·have g1' := g1
    try simp only [sB] at g1'
    refine xkg [(70,pB (!decide (e1.fn = e2.request.fn))),(12,PV.ptr 5 0)] [(5,.obj (cReply e1))] [] [(5,.obj (cReply e1))] [(5,.obj (cReply e1)),(0,.obj [pI q.fn,pI 0,pI 0,pI 0,pI 0,PV.ref 1 0 none,PV.ref 2 0 none,p16 0,p16 0,pNil]),(1,oB true 1 encBo bo),(2,oB true 1 enc16 vo),(3,.obj (cRequest q)),(4,.obj [pI 0,pI 0,pI 0,pI 0,pI 0,pNil,pNil,p16 0,p16 0,pNil])] (s_load_ptr tab_62 rfl rfl rfl (nb rfl) ⟨rfl,rfl,rfl⟩) ?_ (hs := ⟨rfl,trivial⟩)
    refine xey 70 [(70,pB (!decide (e1.fn = e2.request.fn))),(71,PV.f (eReply e1))] rfl g1 (xkg [(70,pB (!decide (e1.fn = e2.request.fn))),(71,PV.f (eReply e1))] [] [] [] [(5,.obj (cReply e1)),(0,.obj [pI q.fn,pI 0,pI 0,pI 0,pI 0,PV.ref 1 0 none,PV.ref 2 0 none,p16 0,p16 0,pNil]),(1,oB true 1 encBo bo),(2,oB true 1 enc16 vo),(3,.obj (cRequest q)),(4,.obj [pI 0,pI 0,pI 0,pI 0,pI 0,pNil,pNil,p16 0,p16 0,pNil])] (s_callF rfl rfl rfl (w_reply_Right e1 (by omega)) rfl ⟨rfl,rfl,rfl⟩) (xey 70 [(70,pB (!decide (e1.fn = e2.request.fn))),(72,pI (goodR e1))] rfl g1 (xkg [(70,pB (!decide (e1.fn = e2.request.fn))),(72,pI (goodR e1))] [] [] [] [(5,.obj (cReply e1)),(0,.obj [pI q.fn,pI 0,pI 0,pI 0,pI 0,PV.ref 1 0 none,PV.ref 2 0 none,p16 0,p16 0,pNil]),(1,oB true 1 encBo bo),(2,oB true 1 enc16 vo),(3,.obj (cRequest q)),(4,.obj [pI 0,pI 0,pI 0,pI 0,pI 0,pNil,pNil,p16 0,p16 0,pNil])] (s_neq rfl rfl ⟨rfl,rfl,rfl⟩) (xk [(70,pB (!decide (e1.fn = e2.request.fn))),(73,pB (!decide (goodR e1 = 0)))] [] [] [] [(5,.obj (cReply e1)),(0,.obj [pI q.fn,pI 0,pI 0,pI 0,pI 0,PV.ref 1 0 none,PV.ref 2 0 none,p16 0,p16 0,pNil]),(1,oB true 1 encBo bo),(2,oB true 1 enc16 vo),(3,.obj (cRequest q)),(4,.obj [pI 0,pI 0,pI 0,pI 0,pI 0,pNil,pNil,p16 0,p16 0,pNil])] (s_pick_f rfl g1 rfl ⟨rfl,rfl,rfl⟩) (xe [(2,pS 10 false eReply L),(4,PV.ptr 3 0),(6,PV.ptr 4 0),(7,pS 10 false ePart S1.1),(10,PV.ptr 0 0),(11,pN i),(12,PV.ptr 5 0),(54,pS 10 false eReply L),(55,pN L.length),(56,pN i),(71,PV.f (eReply e1)),(72,pI (goodR e1)),(73,pB (!decide (goodR e1 = 0))),(74,pB (!decide (goodR e1 = 0)))] ?_)))))
    refine re (w_if rfl (fun c5 => ?_) (fun c5 => ?_))
    ·have c5_ := c5
     try simp only [sB] at c5
     refine sr (xp hnt 2 [.o 2] [] [(76,pI q.fn)] (qo hnt rfl (s_callF rfl rfl rfl (w_reply_Refuse q.fn 4) rfl ?_)))
     refine qo hnt rfl (s_store_ptr tab_62 rfl rfl rfl rfl rfl (nb rfl) ?_)
     refine r_set [(6,PV.ptr 4 0)] [(4,.obj (cReply (refuseR q.fn 4))),(5,.obj (cReply e1)),(0,.obj [pI q.fn,pI 0,pI 0,pI 0,pI 0,PV.ref 1 0 none,PV.ref 2 0 none,p16 0,p16 0,pNil]),(1,oB true 1 encBo bo),(2,oB true 1 enc16 vo),(3,.obj (cRequest q))] 6 ⟨rfl,trivial⟩ rfl rfl (re ?_)
     have hz4 : ((refuseR q.fn 4).fn) = J.fn ∧ ((refuseR q.fn 4).code) = J.code ∧ ((refuseR q.fn 4).at_) = J.at_ ∧ ((refuseR q.fn 4).count) = J.count ∧ ((refuseR q.fn 4).sub) = J.sub ∧ ((refuseR q.fn 4).bits) = J.bits ∧ ((refuseR q.fn 4).vals) = J.vals ∧ ((refuseR q.fn 4).and_) = J.and_ ∧ ((refuseR q.fn 4).or_) = J.or_ ∧ ((refuseR q.fn 4).data) = J.data := by and_intros <;> ((rw [hJ,join_few hc0 hlc (by rw [← hS1,← hL]; exact hcj) (.inr (by rw [← hS1,← hL]; exact anyJ_bad he2 he1 (by unfold badJ; first|assumption|(rw [g1]; rfl)|(rw [g1,c5_]; rfl)|simp_all)))]; done))
     exact w_leO (n := 4) (ds := cReply J) rfl ⟨le_of_eq (congrArg pI hz4.1),le_of_eq (congrArg pI hz4.2.1),le_of_eq (congrArg pI hz4.2.2.1),le_of_eq (congrArg pI hz4.2.2.2.1),le_of_eq (congrArg pI hz4.2.2.2.2.1),le_of_eq (congrArg (fun z => pS 1 false encBo z) hz4.2.2.2.2.2.1),le_of_eq (congrArg (fun z => pS 1 false enc16 z) hz4.2.2.2.2.2.2.1),le_of_eq (congrArg p16 hz4.2.2.2.2.2.2.2.1),le_of_eq (congrArg p16 hz4.2.2.2.2.2.2.2.2.1),le_of_eq (congrArg (fun z => pS 1 false enc8 z) hz4.2.2.2.2.2.2.2.2.2),trivial⟩ (w_ret (q_then_ret (q_block_ret (q_then_ret (q_then_ret (q_block_ret (q_then_ret fp)))))))
    have c5_ := c5
    try simp only [sB] at c5
    refine w_skip (q_then (sr (qm hnt rfl rfl (qm hnt rfl rfl (qo hnt rfl (s_iaM (q := i) (b := e2) (f := ePart) tab_45 rfl tab_50 rfl rfl (by omega) rfl he2 ?_))))))
    refine xp hnt 3 [.o 3] [] [(83,pB (!e2.write))] (re (w_if rfl (fun c6 => ?_) (fun c6 => ?_)))
    ·have c6_ := c6
     try simp only [sB] at c6
     refine wdr hnt (xq 4 [.o 4] [] (xk [(85,PV.ref 1 0 none),(87,pS 1 false encBo e1.bits)] [] [(1,oB true 1 encBo bo)] [(6,oB true 1 encBo (bo ++ e1.bits))] [(6,oB true 1 encBo (bo ++ e1.bits)),(5,.obj (cReply e1)),(0,.obj [pI q.fn,pI 0,pI 0,pI 0,pI 0,PV.ref 1 0 none,PV.ref 2 0 none,p16 0,p16 0,pNil]),(2,oB true 1 enc16 vo),(3,.obj (cRequest q)),(4,.obj [pI 0,pI 0,pI 0,pI 0,pI 0,pNil,pNil,p16 0,p16 0,pNil])] (s_appR0 (f := encBo) (l := bo) (xs := e1.bits) tab_33 rfl tab_4 ⟨rfl,by decide,by decide⟩ (srcM tab_33 rfl (hM_sl (f := encBo) rfl)) rfl rfl (by (simp; omega)) ⟨rfl,rfl,rfl⟩) (xq 4 [.o 4] [] (xk [(90,PV.ref 2 0 none),(92,pS 1 false enc16 e1.vals)] [] [(2,oB true 1 enc16 vo)] [(7,oB true 1 enc16 (vo ++ e1.vals))] [(7,oB true 1 enc16 (vo ++ e1.vals)),(6,oB true 1 encBo (bo ++ e1.bits)),(5,.obj (cReply e1)),(0,.obj [pI q.fn,pI 0,pI 0,pI 0,pI 0,PV.ref 1 0 none,PV.ref 2 0 none,p16 0,p16 0,pNil]),(3,.obj (cRequest q)),(4,.obj [pI 0,pI 0,pI 0,pI 0,pI 0,pNil,pNil,p16 0,p16 0,pNil])] (s_appR0 (f := enc16) (l := vo) (xs := e1.vals) tab_34 rfl tab_35 ⟨rfl,by decide,by decide⟩ (srcM tab_34 rfl (hM_sl (f := enc16) rfl)) rfl rfl (by (simp; omega)) ⟨rfl,rfl,rfl⟩) (xd 4 [.o 4] [] 8 [(0,.obj [pI q.fn,pI 0,pI 0,pI 0,pI 0,PV.ref 6 0 none,PV.ref 7 0 none,p16 0,p16 0,pNil]),(7,oB true 1 enc16 (vo ++ e1.vals)),(6,oB true 1 encBo (bo ++ e1.bits)),(5,.obj (cReply e1)),(3,.obj (cRequest q)),(4,.obj [pI 0,pI 0,pI 0,pI 0,pI 0,pNil,pNil,p16 0,p16 0,pNil])] ?_)))))
     refine xe [(2,pS 10 false eReply L),(4,PV.ptr 3 0),(6,PV.ptr 4 0),(7,pS 10 false ePart S1.1),(10,PV.ptr 0 0),(54,pS 10 false eReply L),(55,pN L.length),(56,pN i),(71,PV.f (eReply e1)),(72,pI (goodR e1)),(73,pB (!decide (goodR e1 = 0)))] (r_end (q_block (q_then (w_R (qo hnt rfl (s_addN (a := i) (b := 1) rfl rfl (by omega) (by omega) (by omega) ?_))))))
     refine qm hnt rfl rfl (re (⟨(bo ++ e1.bits),(vo ++ e1.vals),(i + 1), ?_, ?_,⟨[(0,0),(1,6),(2,7),(3,3),(4,4)],by rw [hk]; decide,⟨⟨_,rfl,rfl,rfl⟩,⟨_,rfl,rfl,rfl⟩,⟨_,rfl,rfl,rfl⟩,⟨_,rfl,rfl,rfl⟩,⟨_,rfl,rfl,rfl⟩,⟨_,rfl,rfl,rfl⟩,⟨_,rfl,rfl,rfl⟩,⟨_,rfl,rfl,rfl⟩,trivial⟩,⟨⟨_,_,rfl,rfl,rfl,rfl⟩,⟨_,_,rfl,rfl,rfl,rfl⟩,⟨_,_,rfl,rfl,rfl,rfl⟩,⟨_,_,rfl,rfl,rfl,rfl⟩,⟨_,_,rfl,rfl,rfl,rfl⟩,trivial⟩,by rw [hk]; decide⟩⟩))
     ·have hbs := bitsJ_snoc he2 he1
      have hvs := valsJ_snoc he2 he1
      have has := anyJ_snoc he2 he1
      refine ⟨by omega, ?_, ?_, ?_, ?_, ?_⟩
      · rw [hbs,← hbo]; cases hwv : e2.write <;> simp_all
      · rw [hvs,← hvo]; cases hwv : e2.write <;> simp_all
      · rw [has,hany]; unfold badJ; simp_all
      · (simp; omega)
      · (simp; omega)
     · omega
    have c6_ := c6
    try simp only [sB] at c6
    refine w_skip (q_block (q_then (w_R (qo hnt rfl (s_addN (a := i) (b := 1) rfl rfl (by omega) (by omega) (by omega) ?_)))))
    refine qm hnt rfl rfl (re (⟨(bo),(vo),(i + 1), ?_, ?_,⟨[(0,0),(1,1),(2,2),(3,3),(4,4)],by rw [hk]; decide,⟨⟨_,rfl,rfl,rfl⟩,⟨_,rfl,rfl,rfl⟩,⟨_,rfl,rfl,rfl⟩,⟨_,rfl,rfl,rfl⟩,⟨_,rfl,rfl,rfl⟩,⟨_,rfl,rfl,rfl⟩,⟨_,rfl,rfl,rfl⟩,⟨_,rfl,rfl,rfl⟩,trivial⟩,⟨⟨_,_,rfl,rfl,rfl,rfl⟩,⟨_,_,rfl,rfl,rfl,rfl⟩,⟨_,_,rfl,rfl,rfl,rfl⟩,⟨_,_,rfl,rfl,rfl,rfl⟩,⟨_,_,rfl,rfl,rfl,rfl⟩,trivial⟩,by rw [hk]; decide⟩⟩))
    ·have hbs := bitsJ_snoc he2 he1
     have hvs := valsJ_snoc he2 he1
     have has := anyJ_snoc he2 he1
     refine ⟨by omega, ?_, ?_, ?_, ?_, ?_⟩
     · rw [hbs,← hbo]; cases hwv : e2.write <;> simp_all
     · rw [hvs,← hvo]; cases hwv : e2.write <;> simp_all
     · rw [has,hany]; unfold badJ; simp_all
     · omega
     · omega
    · omega
   have g1' := g1
   try simp only [sB] at g1'
   refine xen 70 [(70,pB (!decide (e1.fn = e2.request.fn))),(71,undefP)] rfl g1 (xen 70 [(70,pB (!decide (e1.fn = e2.request.fn))),(72,undefP)] rfl g1 (xk [(70,pB (!decide (e1.fn = e2.request.fn))),(73,undefP)] [] [] [] [(5,.obj (cReply e1)),(0,.obj [pI q.fn,pI 0,pI 0,pI 0,pI 0,PV.ref 1 0 none,PV.ref 2 0 none,p16 0,p16 0,pNil]),(1,oB true 1 encBo bo),(2,oB true 1 enc16 vo),(3,.obj (cRequest q)),(4,.obj [pI 0,pI 0,pI 0,pI 0,pI 0,pNil,pNil,p16 0,p16 0,pNil])] (s_pick_t rfl g1 rfl ⟨rfl,rfl,rfl⟩) (xe [(2,pS 10 false eReply L),(4,PV.ptr 3 0),(6,PV.ptr 4 0),(7,pS 10 false ePart S1.1),(10,PV.ptr 0 0),(11,pN i),(12,PV.ptr 5 0),(54,pS 10 false eReply L),(55,pN L.length),(56,pN i),(74,pB true)] (re (w_if rfl (fun _ => ?_) (fun e => absurd e (by decide)))))))
   refine sr (xp hnt 2 [.o 2] [] [(76,pI q.fn)] (qo hnt rfl (s_callF rfl rfl rfl (w_reply_Refuse q.fn 4) rfl ?_)))
   refine qo hnt rfl (s_store_ptr tab_62 rfl rfl rfl rfl rfl (nb rfl) ?_)
   refine r_set [(6,PV.ptr 4 0)] [(4,.obj (cReply (refuseR q.fn 4))),(5,.obj (cReply e1)),(0,.obj [pI q.fn,pI 0,pI 0,pI 0,pI 0,PV.ref 1 0 none,PV.ref 2 0 none,p16 0,p16 0,pNil]),(1,oB true 1 encBo bo),(2,oB true 1 enc16 vo),(3,.obj (cRequest q))] 6 ⟨rfl,trivial⟩ rfl rfl (re ?_)
   have hz5 : ((refuseR q.fn 4).fn) = J.fn ∧ ((refuseR q.fn 4).code) = J.code ∧ ((refuseR q.fn 4).at_) = J.at_ ∧ ((refuseR q.fn 4).count) = J.count ∧ ((refuseR q.fn 4).sub) = J.sub ∧ ((refuseR q.fn 4).bits) = J.bits ∧ ((refuseR q.fn 4).vals) = J.vals ∧ ((refuseR q.fn 4).and_) = J.and_ ∧ ((refuseR q.fn 4).or_) = J.or_ ∧ ((refuseR q.fn 4).data) = J.data := by and_intros <;> ((rw [hJ,join_few hc0 hlc (by rw [← hS1,← hL]; exact hcj) (.inr (by rw [← hS1,← hL]; exact anyJ_bad he2 he1 (by unfold badJ; first|assumption|(rw [g1]; rfl)|(rw [g1,c5_]; rfl)|simp_all)))]; done))
   exact w_leO (n := 4) (ds := cReply J) rfl ⟨le_of_eq (congrArg pI hz5.1),le_of_eq (congrArg pI hz5.2.1),le_of_eq (congrArg pI hz5.2.2.1),le_of_eq (congrArg pI hz5.2.2.2.1),le_of_eq (congrArg pI hz5.2.2.2.2.1),le_of_eq (congrArg (fun z => pS 1 false encBo z) hz5.2.2.2.2.2.1),le_of_eq (congrArg (fun z => pS 1 false enc16 z) hz5.2.2.2.2.2.2.1),le_of_eq (congrArg p16 hz5.2.2.2.2.2.2.2.1),le_of_eq (congrArg p16 hz5.2.2.2.2.2.2.2.2.1),le_of_eq (congrArg (fun z => pS 1 false enc8 z) hz5.2.2.2.2.2.2.2.2.2),trivial⟩ (w_ret (q_then_ret (q_block_ret (q_then_ret (q_then_ret (q_block_ret (q_then_ret fp)))))))
  have c4_ := c4
  try simp only [sB] at c4
  refine w_exit (q_then_exit (q_then_exit (q_block_exit (q_then (w_seq (w_seq ?_))))))
  have hiL : i = L.length := by omega
  rw [hiL,List.take_length] at hbo hvo hany
  refine w_R (xp hnt 5 [.o 1,.c (pN L.length),.o 1,.c (pN S1.1.length),.o 1] [lenC eReply L,lenC ePart S1.1] [(101,pB (decide (((L.length : Nat) : Int) < ((S1.1.length : Nat) : Int))))] ?_ (hc := ⟨lenC_ok _ _,lenC_ok _ _,trivial⟩))
  refine re (w_if rfl (fun c7 => ?_) (fun c7 => ?_))
  ·have c7_ := c7
   try simp only [sB] at c7
   refine sr (xp hnt 2 [.o 2] [] [(103,pI q.fn)] (qo hnt rfl (s_callF rfl rfl rfl (w_reply_Refuse q.fn 4) rfl ?_)))
   refine qo hnt rfl (s_store_ptr tab_62 rfl rfl rfl rfl rfl (nb rfl) ?_)
   refine r_set [(6,PV.ptr 4 0)] [(4,.obj (cReply (refuseR q.fn 4))),(0,.obj [pI q.fn,pI 0,pI 0,pI 0,pI 0,PV.ref 1 0 none,PV.ref 2 0 none,p16 0,p16 0,pNil]),(1,oB true 1 encBo bo),(2,oB true 1 enc16 vo),(3,.obj (cRequest q))] 5 ⟨rfl,trivial⟩ rfl rfl (re ?_)
   have hz6 : ((refuseR q.fn 4).fn) = J.fn ∧ ((refuseR q.fn 4).code) = J.code ∧ ((refuseR q.fn 4).at_) = J.at_ ∧ ((refuseR q.fn 4).count) = J.count ∧ ((refuseR q.fn 4).sub) = J.sub ∧ ((refuseR q.fn 4).bits) = J.bits ∧ ((refuseR q.fn 4).vals) = J.vals ∧ ((refuseR q.fn 4).and_) = J.and_ ∧ ((refuseR q.fn 4).or_) = J.or_ ∧ ((refuseR q.fn 4).data) = J.data := by and_intros <;> ((rw [hJ,join_few hc0 hlc (by rw [← hS1,← hL]; exact hcj) (.inl (by rw [← hS1]; omega))]; done))
   exact w_leO (n := 4) (ds := cReply J) rfl ⟨le_of_eq (congrArg pI hz6.1),le_of_eq (congrArg pI hz6.2.1),le_of_eq (congrArg pI hz6.2.2.1),le_of_eq (congrArg pI hz6.2.2.2.1),le_of_eq (congrArg pI hz6.2.2.2.2.1),le_of_eq (congrArg (fun z => pS 1 false encBo z) hz6.2.2.2.2.2.1),le_of_eq (congrArg (fun z => pS 1 false enc16 z) hz6.2.2.2.2.2.2.1),le_of_eq (congrArg p16 hz6.2.2.2.2.2.2.2.1),le_of_eq (congrArg p16 hz6.2.2.2.2.2.2.2.2.1),le_of_eq (congrArg (fun z => pS 1 false enc8 z) hz6.2.2.2.2.2.2.2.2.2),trivial⟩ (w_ret (q_then_ret fp))
  have c7_ := c7
  try simp only [sB] at c7
  refine w_skip (q_then (sr (xp hnt 2 [.o 2] [] [(105,PV.f (eRequest q)),(106,PV.agg [pI q.fn,pI 0,pI 0,pI 0,pI 0,PV.ref 1 0 none,PV.ref 2 0 none,p16 0,p16 0,pNil])] (qo hnt rfl (s_callK 5 (PV.f (eReply (wholeJ q (⟨q.fn,0,0,0,0,bo,vo,0,0,[]⟩ : TReply).bits (⟨q.fn,0,0,0,0,bo,vo,0,0,[]⟩ : TReply).vals))) [(2,oB false 1 enc16 vo),(1,oB false 1 encBo bo),(0,.obj [pI q.fn,pI 0,pI 0,pI 0,pI 0,PV.ref 1 0 none,PV.ref 2 0 none,p16 0,p16 0,pNil]),(3,.obj (cRequest q)),(4,.obj [pI 0,pI 0,pI 0,pI 0,pI 0,pNil,pNil,p16 0,p16 0,pNil])] [] (T.leL (args := [PV.f (eRequest q),PV.f (.agg [encI q.fn,encI 0,encI 0,encI 0,encI 0,FV.sl 1 false (List.map encBo bo),FV.sl 1 false (List.map enc16 vo),enc16 0,enc16 0,FV.v (.slice none 0 0)])]) (args' := [PV.f (eRequest q),PV.f (eReply (⟨q.fn,0,0,0,0,bo,vo,0,0,[]⟩ : TReply))]) ⟨le_refl _,⟨le_F (FLe.agg ⟨FLe.refl _,FLe.refl _,FLe.refl _,FLe.refl _,FLe.refl _,FLe.refl _,FLe.refl _,FLe.refl _,FLe.refl _,FLe.nil 1 false,trivial⟩),trivial⟩⟩ (w_join_whole q (⟨q.fn,0,0,0,0,bo,vo,0,0,[]⟩ : TReply) (by omega) (by (simp; omega)) (by rfl))) ?_)))))
  refine qo hnt rfl (s_store_ptr tab_62 rfl rfl rfl rfl rfl (nb rfl) ?_)
  refine r_set [(6,PV.ptr 4 0)] [(4,.obj [pI ((wholeJ q (⟨q.fn,0,0,0,0,bo,vo,0,0,[]⟩ : TReply).bits (⟨q.fn,0,0,0,0,bo,vo,0,0,[]⟩ : TReply).vals).fn),pI ((wholeJ q (⟨q.fn,0,0,0,0,bo,vo,0,0,[]⟩ : TReply).bits (⟨q.fn,0,0,0,0,bo,vo,0,0,[]⟩ : TReply).vals).code),pI ((wholeJ q (⟨q.fn,0,0,0,0,bo,vo,0,0,[]⟩ : TReply).bits (⟨q.fn,0,0,0,0,bo,vo,0,0,[]⟩ : TReply).vals).at_),pI ((wholeJ q (⟨q.fn,0,0,0,0,bo,vo,0,0,[]⟩ : TReply).bits (⟨q.fn,0,0,0,0,bo,vo,0,0,[]⟩ : TReply).vals).count),pI ((wholeJ q (⟨q.fn,0,0,0,0,bo,vo,0,0,[]⟩ : TReply).bits (⟨q.fn,0,0,0,0,bo,vo,0,0,[]⟩ : TReply).vals).sub),pS 1 false encBo ((wholeJ q (⟨q.fn,0,0,0,0,bo,vo,0,0,[]⟩ : TReply).bits (⟨q.fn,0,0,0,0,bo,vo,0,0,[]⟩ : TReply).vals).bits),pS 1 false enc16 ((wholeJ q (⟨q.fn,0,0,0,0,bo,vo,0,0,[]⟩ : TReply).bits (⟨q.fn,0,0,0,0,bo,vo,0,0,[]⟩ : TReply).vals).vals),p16 ((wholeJ q (⟨q.fn,0,0,0,0,bo,vo,0,0,[]⟩ : TReply).bits (⟨q.fn,0,0,0,0,bo,vo,0,0,[]⟩ : TReply).vals).and_),p16 ((wholeJ q (⟨q.fn,0,0,0,0,bo,vo,0,0,[]⟩ : TReply).bits (⟨q.fn,0,0,0,0,bo,vo,0,0,[]⟩ : TReply).vals).or_),pS 1 false enc8 ((wholeJ q (⟨q.fn,0,0,0,0,bo,vo,0,0,[]⟩ : TReply).bits (⟨q.fn,0,0,0,0,bo,vo,0,0,[]⟩ : TReply).vals).data)]),(2,oB false 1 enc16 vo),(1,oB false 1 encBo bo),(0,.obj [pI q.fn,pI 0,pI 0,pI 0,pI 0,PV.ref 1 0 none,PV.ref 2 0 none,p16 0,p16 0,pNil]),(3,.obj (cRequest q))] 5 ⟨rfl,trivial⟩ rfl rfl (re ?_)
  have hz7 : ((wholeJ q (⟨q.fn,0,0,0,0,bo,vo,0,0,[]⟩ : TReply).bits (⟨q.fn,0,0,0,0,bo,vo,0,0,[]⟩ : TReply).vals).fn) = J.fn ∧ ((wholeJ q (⟨q.fn,0,0,0,0,bo,vo,0,0,[]⟩ : TReply).bits (⟨q.fn,0,0,0,0,bo,vo,0,0,[]⟩ : TReply).vals).code) = J.code ∧ ((wholeJ q (⟨q.fn,0,0,0,0,bo,vo,0,0,[]⟩ : TReply).bits (⟨q.fn,0,0,0,0,bo,vo,0,0,[]⟩ : TReply).vals).at_) = J.at_ ∧ ((wholeJ q (⟨q.fn,0,0,0,0,bo,vo,0,0,[]⟩ : TReply).bits (⟨q.fn,0,0,0,0,bo,vo,0,0,[]⟩ : TReply).vals).count) = J.count ∧ ((wholeJ q (⟨q.fn,0,0,0,0,bo,vo,0,0,[]⟩ : TReply).bits (⟨q.fn,0,0,0,0,bo,vo,0,0,[]⟩ : TReply).vals).sub) = J.sub ∧ ((wholeJ q (⟨q.fn,0,0,0,0,bo,vo,0,0,[]⟩ : TReply).bits (⟨q.fn,0,0,0,0,bo,vo,0,0,[]⟩ : TReply).vals).bits) = J.bits ∧ ((wholeJ q (⟨q.fn,0,0,0,0,bo,vo,0,0,[]⟩ : TReply).bits (⟨q.fn,0,0,0,0,bo,vo,0,0,[]⟩ : TReply).vals).vals) = J.vals ∧ ((wholeJ q (⟨q.fn,0,0,0,0,bo,vo,0,0,[]⟩ : TReply).bits (⟨q.fn,0,0,0,0,bo,vo,0,0,[]⟩ : TReply).vals).and_) = J.and_ ∧ ((wholeJ q (⟨q.fn,0,0,0,0,bo,vo,0,0,[]⟩ : TReply).bits (⟨q.fn,0,0,0,0,bo,vo,0,0,[]⟩ : TReply).vals).or_) = J.or_ ∧ ((wholeJ q (⟨q.fn,0,0,0,0,bo,vo,0,0,[]⟩ : TReply).bits (⟨q.fn,0,0,0,0,bo,vo,0,0,[]⟩ : TReply).vals).data) = J.data := by and_intros <;> ((rw [hJ,join_all hc0 hlc (by rw [← hS1,← hL]; exact hcj) (by rw [← hS1]; omega) (by rw [← hS1,← hL]; exact hany),← hS1,← hL,hbo,hvo]; done))
  exact w_leO (n := 4) (ds := cReply J) rfl ⟨le_of_eq (congrArg pI hz7.1),le_of_eq (congrArg pI hz7.2.1),le_of_eq (congrArg pI hz7.2.2.1),le_of_eq (congrArg pI hz7.2.2.2.1),le_of_eq (congrArg pI hz7.2.2.2.2.1),le_of_eq (congrArg (fun z => pS 1 false encBo z) hz7.2.2.2.2.2.1),le_of_eq (congrArg (fun z => pS 1 false enc16 z) hz7.2.2.2.2.2.2.1),le_of_eq (congrArg p16 hz7.2.2.2.2.2.2.2.1),le_of_eq (congrArg p16 hz7.2.2.2.2.2.2.2.2.1),le_of_eq (congrArg (fun z => pS 1 false enc8 z) hz7.2.2.2.2.2.2.2.2.2),trivial⟩ (w_ret fp)
theorem w_burgageref14_Join (t : TTenant) (q : TRequest) (l : List TReply) (cl_l : Bool) (J : TReply) (hJ : J = joinV t.functions t.windows q l) (ht : t.windows.length ≤ 1000) (hb : q.bits.length ≤ 140737488351232) (hv : q.vals.length ≤ 70368744175616) (hl : l.length ≤ 1000000) (hrl : ∀ r ∈ l,r.bits.length ≤ 5000 ∧ r.vals.length ≤ 5000 ∧ r.data.length ≤ 5000) :
    T Try.prog 45 [PV.f (eTenant t),PV.f (eRequest q),pS 10 cl_l eReply l] 0 [] (Ret (PV.f (eReply J)) 0 []) := by
 refine t_fun tabOk (n := 175) (rs := [.cell 6 62]) Try.func45 rfl rfl rfl rfl (nb rfl) ?_
 intro c hnt hk
 refine sr (qo hnt rfl (s_box rfl rfl ?_))
 refine qo hnt rfl (s_box rfl rfl ?_)
 refine qo hnt rfl (s_alloc tab_62 ?_)
 refine r_set [(2,pS 10 cl_l eReply l),(3,PV.ptr 0 0),(4,PV.ptr 1 0),(6,PV.ptr 2 0)] [(2,.obj [pI 0,pI 0,pI 0,pI 0,pI 0,pNil,pNil,p16 0,p16 0,pNil]),(1,.obj (cRequest q)),(0,.obj (cTenant t))] 3 ⟨rfl,rfl,rfl,rfl,trivial⟩ rfl rfl (re (sr (xp hnt 2 [.o 2] [] [(15,PV.f (eTenant t)),(16,PV.f (eRequest q))] ?_)))
 obtain ⟨S1,hS1⟩ : ∃ z : List TPart × Int,z = splitP t.functions t.windows q := ⟨_,rfl⟩
 refine qo hnt rfl (s_callF rfl rfl rfl (w_burgageref14_Split t q S1 hS1 (by omega) (by omega) (by omega)) rfl ?_)
 refine xp hnt 5 [.o 5] [] [(7,pS 10 false ePart S1.1),(8,pI S1.2)] (re (w_seq (w_seq ?_)))
 have hS2 : S1.2 = codeP t.functions t.windows q := by rw [hS1,split_code]
 have hs6 := (split_len t.functions t.windows q).1
 rw [← hS1] at hs6
 refine w_R (qm hnt rfl rfl (qo hnt rfl (s_neq rfl rfl ?_)))
 refine re (w_if rfl (fun c1 => ?_) (fun c1 => ?_))
 ·have c1_ := c1
  try simp only [sB] at c1
  have hcn : ¬ codeP t.functions t.windows q = 0 := by rw [← hS2]; simpa using c1_
  refine sr (xp hnt 3 [.o 3] [] [(23,pI q.fn),(24,pI S1.2)] (qo hnt rfl (s_callF rfl rfl rfl (w_burgageref3_Refuse q.fn S1.2) rfl ?_)))
  refine qo hnt rfl (s_store_ptr tab_62 rfl rfl rfl rfl rfl (nb rfl) ?_)
  refine r_set [(6,PV.ptr 2 0)] [(2,.obj (cReply (refuseR q.fn S1.2))),(1,.obj (cRequest q)),(0,.obj (cTenant t))] 3 ⟨rfl,trivial⟩ rfl rfl (re ?_)
  have hz1 : ((refuseR q.fn S1.2).fn) = J.fn ∧ ((refuseR q.fn S1.2).code) = J.code ∧ ((refuseR q.fn S1.2).at_) = J.at_ ∧ ((refuseR q.fn S1.2).count) = J.count ∧ ((refuseR q.fn S1.2).sub) = J.sub ∧ ((refuseR q.fn S1.2).bits) = J.bits ∧ ((refuseR q.fn S1.2).vals) = J.vals ∧ ((refuseR q.fn S1.2).and_) = J.and_ ∧ ((refuseR q.fn S1.2).or_) = J.or_ ∧ ((refuseR q.fn S1.2).data) = J.data := by and_intros <;> ((rw [hJ,join_code hcn,hS2]; done))
  exact w_leO (n := 2) (ds := cReply J) rfl ⟨le_of_eq (congrArg pI hz1.1),le_of_eq (congrArg pI hz1.2.1),le_of_eq (congrArg pI hz1.2.2.1),le_of_eq (congrArg pI hz1.2.2.2.1),le_of_eq (congrArg pI hz1.2.2.2.2.1),le_of_eq (congrArg (fun z => pS 1 false encBo z) hz1.2.2.2.2.2.1),le_of_eq (congrArg (fun z => pS 1 false enc16 z) hz1.2.2.2.2.2.2.1),le_of_eq (congrArg p16 hz1.2.2.2.2.2.2.2.1),le_of_eq (congrArg p16 hz1.2.2.2.2.2.2.2.2.1),le_of_eq (congrArg (fun z => pS 1 false enc8 z) hz1.2.2.2.2.2.2.2.2.2),trivial⟩ (w_ret (q_then_ret fp))
 have c1_ := c1
 try simp only [sB] at c1
 refine w_skip (q_then (w_seq (w_seq ?_)))
 have hc0 : codeP t.functions t.windows q = 0 := by rw [← hS2]; simpa using c1_
 have hfo := hasF_of (counts_has (codeP_zero hc0).2.1)
 refine w_R (xp hnt 2 [.o 2] [] [(27,pI q.fn)] (qo hnt rfl (s_callF rfl rfl rfl (w_burgageref14_local q.fn) rfl ?_)))
 refine re (w_if rfl (fun c2 => ?_) (fun c2 => ?_))
 ·have c2_ := c2
  try simp only [sB] at c2
  refine sr (xp hnt 2 [.o 2] [] [(30,pI q.fn)] (qo hnt rfl (s_callF rfl rfl rfl (w_burgageref3_Refuse q.fn 4) rfl ?_)))
  refine qo hnt rfl (s_store_ptr tab_62 rfl rfl rfl rfl rfl (nb rfl) ?_)
  refine r_set [(6,PV.ptr 2 0)] [(2,.obj (cReply (refuseR q.fn 4))),(1,.obj (cRequest q)),(0,.obj (cTenant t))] 3 ⟨rfl,trivial⟩ rfl rfl (re ?_)
  have hz2 : ((refuseR q.fn 4).fn) = J.fn ∧ ((refuseR q.fn 4).code) = J.code ∧ ((refuseR q.fn 4).at_) = J.at_ ∧ ((refuseR q.fn 4).count) = J.count ∧ ((refuseR q.fn 4).sub) = J.sub ∧ ((refuseR q.fn 4).bits) = J.bits ∧ ((refuseR q.fn 4).vals) = J.vals ∧ ((refuseR q.fn 4).and_) = J.and_ ∧ ((refuseR q.fn 4).or_) = J.or_ ∧ ((refuseR q.fn 4).data) = J.data := by and_intros <;> ((rw [hJ,join_loc hc0 (by simpa using c2_)]; done))
  exact w_leO (n := 2) (ds := cReply J) rfl ⟨le_of_eq (congrArg pI hz2.1),le_of_eq (congrArg pI hz2.2.1),le_of_eq (congrArg pI hz2.2.2.1),le_of_eq (congrArg pI hz2.2.2.2.1),le_of_eq (congrArg pI hz2.2.2.2.2.1),le_of_eq (congrArg (fun z => pS 1 false encBo z) hz2.2.2.2.2.2.1),le_of_eq (congrArg (fun z => pS 1 false enc16 z) hz2.2.2.2.2.2.2.1),le_of_eq (congrArg p16 hz2.2.2.2.2.2.2.2.1),le_of_eq (congrArg p16 hz2.2.2.2.2.2.2.2.2.1),le_of_eq (congrArg (fun z => pS 1 false enc8 z) hz2.2.2.2.2.2.2.2.2.2),trivial⟩ (w_ret (q_then_ret fp))
 have c2_ := c2
 try simp only [sB] at c2
 refine w_skip (q_then (w_seq ?_))
 have hlc : locP q.fn = false := by simpa using c2_
 have hn8 : q.fn ≠ 8 ∧ q.fn ≠ 17 := by have h9 := hlc; unfold locP at h9; rw [Bool.or_eq_false_iff] at h9; exact ⟨of_decide_eq_false h9.1,of_decide_eq_false h9.2⟩
 refine w_R (xp hnt 5 [.o 2,.c (pN l.length),.o 1,.c (pN S1.1.length)] [lenC eReply l,lenC ePart S1.1] [(32,pS 10 cl_l eReply l),(34,pN l.length),(36,pN S1.1.length)] ?_ (hc := ⟨lenC_ok _ _,lenC_ok _ _,trivial⟩))
 refine qo hnt rfl (s_minN (a := l.length) (b := S1.1.length) rfl (by omega) (by omega) ?_)
 refine qo hnt rfl (s_cutM_hi (b := min l.length S1.1.length) (f := eReply) (l := l) tab_58 rfl tab_62 ⟨rfl,by decide⟩ rfl (bound_some rfl (by omega)) (by omega) ?_)
 refine ae hnt rfl rfl (w_seq (w_seq ?_))
 obtain ⟨L,hL⟩ : ∃ z,z = l.take S1.1.length := ⟨_,rfl⟩
 refine w_eq (s := 2) (y := pS 10 false eReply L) rfl (congrArg (fun z => pS 10 false eReply z) (show (l.take (min l.length S1.1.length)) = L by rw [hL,List.take_eq_take_iff]; omega)) ?_
 have hLl : L.length ≤ S1.1.length ∧ (L.length < S1.1.length ↔ l.length < S1.1.length) := by rw [hL,List.length_take]; omega
 have hrL : ∀ r ∈ L,r.bits.length ≤ 5000 ∧ r.vals.length ≤ 5000 ∧ r.data.length ≤ 5000 := fun r hr => hrl r (List.mem_of_mem_take (by rw [← hL]; exact hr))
 refine w_R (qm hnt rfl rfl (qo hnt rfl (s_lenM (l := L) tab_58 rfl (hM_sl (f := eReply) rfl) ?_)))
 refine qm hnt rfl rfl (re (w_block (loop1 (fun (i : Nat) => i ≤ L.length ∧ ∀ j x,j < i → L[j]? = some x → nzJ x = false) (fun (i : Nat) => [(2,pS 10 false eReply L),(4,PV.ptr 0 0),(6,PV.ptr 1 0),(7,pS 10 false ePart S1.1),(39,pS 10 false eReply L),(40,pN L.length),(41,pN i)]) 2 (fun (i : Nat) => [(0,.obj (cRequest q)),(1,.obj [pI 0,pI 0,pI 0,pI 0,pI 0,pNil,pNil,p16 0,p16 0,pNil])]) (fun (i : Nat) => L.length - i) (0) ?_ ⟨[(0,1),(1,2)],by rw [hk]; decide,⟨⟨_,rfl,rfl,rfl⟩,⟨_,rfl,rfl,rfl⟩,⟨_,rfl,rfl,rfl⟩,⟨_,rfl,rfl,rfl⟩,⟨_,rfl,rfl,rfl⟩,⟨_,rfl,rfl,rfl⟩,⟨_,rfl,rfl,rfl⟩,trivial⟩,⟨⟨_,_,rfl,rfl,rfl,rfl⟩,⟨_,_,rfl,rfl,rfl,rfl⟩,trivial⟩,by rw [hk]; decide⟩ ?_)))
 · exact ⟨Nat.zero_le _,fun j x hj => by omega⟩
 ·intro i hI
  obtain ⟨hi,ht⟩ := hI
  refine sr (qo hnt rfl (s_lss rfl rfl ?_))
  refine re (w_seq (w_if rfl (fun c3 => ?_) (fun c3 => ?_)))
  ·have c3_ := c3
   try simp only [sB] at c3
   refine w_skip (q_then (w_seq (w_block (sr ?_))))
   obtain ⟨e1,he1⟩ := get_of_lt L (i := i) (by omega)
   refine qo hnt rfl (s_iaM (q := i) (b := e1) (f := eReply) tab_58 rfl tab_62 rfl rfl (by omega) rfl he1 ?_)
   refine xm hnt 3 [.o 3] [] [(10,PV.ptr 2 0)] 3 [(2,.obj (cReply e1)),(0,.obj (cRequest q)),(1,.obj [pI 0,pI 0,pI 0,pI 0,pI 0,pNil,pNil,p16 0,p16 0,pNil])] (re (sr (xp hnt 3 [.o 3] [] [(47,pB (!decide (e1.code = 0)))] (re (w_if rfl (fun c4 => ?_) (fun c4 => ?_))))))
   ·have c4_ := c4
    try simp only [sB] at c4
    refine w_seq ?_
    have hcj := nz_first ht he1 (by unfold nzJ; assumption)
    refine w_R (xp hnt 4 [.o 4] [] [(49,pI q.fn),(51,pI e1.code)] (qo hnt rfl (s_callF rfl rfl rfl (w_burgageref3_Refuse q.fn e1.code) rfl ?_)))
    refine qo hnt rfl (s_store_ptr tab_62 rfl rfl rfl rfl rfl (nb rfl) ?_)
    refine r_set [(6,PV.ptr 1 0)] [(1,.obj (cReply (refuseR q.fn e1.code))),(2,.obj (cReply e1)),(0,.obj (cRequest q))] 3 ⟨rfl,trivial⟩ rfl rfl (re ?_)
    have hz3 : ((refuseR q.fn e1.code).fn) = J.fn ∧ ((refuseR q.fn e1.code).code) = J.code ∧ ((refuseR q.fn e1.code).at_) = J.at_ ∧ ((refuseR q.fn e1.code).count) = J.count ∧ ((refuseR q.fn e1.code).sub) = J.sub ∧ ((refuseR q.fn e1.code).bits) = J.bits ∧ ((refuseR q.fn e1.code).vals) = J.vals ∧ ((refuseR q.fn e1.code).and_) = J.and_ ∧ ((refuseR q.fn e1.code).or_) = J.or_ ∧ ((refuseR q.fn e1.code).data) = J.data := by and_intros <;> ((rw [hJ,join_ref hc0 hlc (by rw [← hS1,← hL]; exact hcj)]; done))
    exact w_leO (n := 1) (ds := cReply J) rfl ⟨le_of_eq (congrArg pI hz3.1),le_of_eq (congrArg pI hz3.2.1),le_of_eq (congrArg pI hz3.2.2.1),le_of_eq (congrArg pI hz3.2.2.2.1),le_of_eq (congrArg pI hz3.2.2.2.2.1),le_of_eq (congrArg (fun z => pS 1 false encBo z) hz3.2.2.2.2.2.1),le_of_eq (congrArg (fun z => pS 1 false enc16 z) hz3.2.2.2.2.2.2.1),le_of_eq (congrArg p16 hz3.2.2.2.2.2.2.2.1),le_of_eq (congrArg p16 hz3.2.2.2.2.2.2.2.2.1),le_of_eq (congrArg (fun z => pS 1 false enc8 z) hz3.2.2.2.2.2.2.2.2.2),trivial⟩ (w_ret (q_block_ret (q_then_ret (q_then_ret (q_block_ret (q_then_ret fp))))))
   have c4_ := c4
   try simp only [sB] at c4
   refine w_skip (q_block (q_then (w_R (qo hnt rfl (s_addN (a := i) (b := 1) rfl rfl (by omega) (by omega) (by omega) ?_)))))
   refine qm hnt rfl rfl (re (⟨(i + 1), ?_, ?_,⟨[(0,0),(1,1)],by rw [hk]; decide,⟨⟨_,rfl,rfl,rfl⟩,⟨_,rfl,rfl,rfl⟩,⟨_,rfl,rfl,rfl⟩,⟨_,rfl,rfl,rfl⟩,⟨_,rfl,rfl,rfl⟩,⟨_,rfl,rfl,rfl⟩,⟨_,rfl,rfl,rfl⟩,trivial⟩,⟨⟨_,_,rfl,rfl,rfl,rfl⟩,⟨_,_,rfl,rfl,rfl,rfl⟩,trivial⟩,by rw [hk]; decide⟩⟩))
   ·refine ⟨by omega,fun j x hj hx => ?_⟩
    by_cases hji : j < i
    · exact ht j x hji hx
    · obtain rfl : j = i := by omega
      rw [he1] at hx; cases hx; unfold nzJ; assumption
   · omega
  have c3_ := c3
  try simp only [sB] at c3
  refine w_exit (q_then_exit (q_then_exit (q_block_exit (q_then (w_seq (w_seq ?_))))))
  have hcj : codeJ L = none := nz_all fun j x hj => ht j x (by omega)
  refine w_R (xp hnt 5 [.o 1,.c (pN L.length),.o 1,.c (pN S1.1.length),.o 1] [lenC eReply L,lenC ePart S1.1] [(58,pB (decide (((L.length : Nat) : Int) < ((S1.1.length : Nat) : Int))))] ?_ (hc := ⟨lenC_ok _ _,lenC_ok _ _,trivial⟩))
  refine re (w_if rfl (fun c5 => ?_) (fun c5 => ?_))
  ·have c5_ := c5
   try simp only [sB] at c5
   refine sr (xp hnt 2 [.o 2] [] [(60,pI q.fn)] (qo hnt rfl (s_callF rfl rfl rfl (w_burgageref3_Refuse q.fn 4) rfl ?_)))
   refine qo hnt rfl (s_store_ptr tab_62 rfl rfl rfl rfl rfl (nb rfl) ?_)
   refine r_set [(6,PV.ptr 1 0)] [(1,.obj (cReply (refuseR q.fn 4))),(0,.obj (cRequest q))] 2 ⟨rfl,trivial⟩ rfl rfl (re ?_)
   have hz4 : ((refuseR q.fn 4).fn) = J.fn ∧ ((refuseR q.fn 4).code) = J.code ∧ ((refuseR q.fn 4).at_) = J.at_ ∧ ((refuseR q.fn 4).count) = J.count ∧ ((refuseR q.fn 4).sub) = J.sub ∧ ((refuseR q.fn 4).bits) = J.bits ∧ ((refuseR q.fn 4).vals) = J.vals ∧ ((refuseR q.fn 4).and_) = J.and_ ∧ ((refuseR q.fn 4).or_) = J.or_ ∧ ((refuseR q.fn 4).data) = J.data := by and_intros <;> ((rw [hJ,join_few hc0 hlc (by rw [← hS1,← hL]; exact hcj) (.inl (by rw [← hS1]; omega))]; done))
   exact w_leO (n := 1) (ds := cReply J) rfl ⟨le_of_eq (congrArg pI hz4.1),le_of_eq (congrArg pI hz4.2.1),le_of_eq (congrArg pI hz4.2.2.1),le_of_eq (congrArg pI hz4.2.2.2.1),le_of_eq (congrArg pI hz4.2.2.2.2.1),le_of_eq (congrArg (fun z => pS 1 false encBo z) hz4.2.2.2.2.2.1),le_of_eq (congrArg (fun z => pS 1 false enc16 z) hz4.2.2.2.2.2.2.1),le_of_eq (congrArg p16 hz4.2.2.2.2.2.2.2.1),le_of_eq (congrArg p16 hz4.2.2.2.2.2.2.2.2.1),le_of_eq (congrArg (fun z => pS 1 false enc8 z) hz4.2.2.2.2.2.2.2.2.2),trivial⟩ (w_ret (q_then_ret fp))
  have c5_ := c5
  try simp only [sB] at c5
  refine w_skip (q_then (sr (xm hnt 5 [.o 5] [] [(11,PV.ptr 2 0)] 3 [(2,.obj [pI q.fn,pI 0,pI 0,pI 0,pI 0,pNil,pNil,p16 0,p16 0,pNil]),(0,.obj (cRequest q)),(1,.obj [pI 0,pI 0,pI 0,pI 0,pI 0,pNil,pNil,p16 0,p16 0,pNil])] (re (w_seq ?_)))))
  refine sr (qm hnt rfl rfl (qo hnt rfl (s_lenM (l := L) tab_58 rfl (hM_sl (f := eReply) rfl) ?_)))
  refine qm hnt rfl rfl (re (w_block (w_adoptC (n := 2) (j := 5) (sz := 1) rfl rfl rfl (w_adoptC (n := 2) (j := 6) (sz := 1) rfl rfl rfl (loop3 (fun (bo : List Bool) (vo : List UInt16) (i : Nat) => i ≤ L.length ∧ ((q.fn ≠ 22 → bo = bitsJ S1.1 (L.take i) ∧ vo = valsJ S1.1 (L.take i)) ∧ (q.fn = 22 → bo = [] ∧ vo = [])) ∧ anyJ S1.1 (L.take i) = false ∧ bo.length ≤ 5000 * i ∧ vo.length ≤ 5000 * i) (fun (bo : List Bool) (vo : List UInt16) (i : Nat) => [(4,PV.ptr 3 0),(6,PV.ptr 4 0),(7,pS 10 false ePart S1.1),(11,PV.ptr 0 0),(65,pS 10 false eReply L),(66,pN L.length),(67,pN i)]) 5 (fun (bo : List Bool) (vo : List UInt16) (i : Nat) => [(0,.obj [pI q.fn,pI 0,pI 0,pI 0,pI 0,PV.ref 1 0 none,PV.ref 2 0 none,p16 0,p16 0,pNil]),(1,oB true 1 encBo bo),(2,oB true 1 enc16 vo),(3,.obj (cRequest q)),(4,.obj [pI 0,pI 0,pI 0,pI 0,pI 0,pNil,pNil,p16 0,p16 0,pNil])]) (fun (bo : List Bool) (vo : List UInt16) (i : Nat) => L.length - i) (([] : List Bool)) (([] : List UInt16)) (0) ?_ ⟨[(0,2),(1,3),(2,4),(3,0),(4,1)],by rw [hk]; decide,⟨⟨_,rfl,rfl,rfl⟩,⟨_,rfl,rfl,rfl⟩,⟨_,rfl,rfl,rfl⟩,⟨_,rfl,rfl,rfl⟩,⟨_,rfl,rfl,rfl⟩,⟨_,rfl,rfl,rfl⟩,⟨_,rfl,rfl,rfl⟩,trivial⟩,⟨⟨_,_,rfl,rfl,rfl,rfl⟩,⟨_,_,rfl,rfl,rfl,rfl⟩,⟨_,_,rfl,rfl,rfl,rfl⟩,⟨_,_,rfl,rfl,rfl,rfl⟩,⟨_,_,rfl,rfl,rfl,rfl⟩,trivial⟩,by rw [hk]; decide⟩ ?_)))))
  · exact ⟨by omega,⟨fun _ => ⟨by simp [bitsJ_nil],by simp [valsJ_nil]⟩,fun _ => ⟨rfl,rfl⟩⟩,by simp [anyJ_nil],by simp,by simp⟩
  ·intro bo vo i hJ2
   obtain ⟨hi,hbo,hany,hbl,hvl⟩ := hJ2
   refine sr (qo hnt rfl (s_lss rfl rfl ?_))
   refine re (w_seq (w_if rfl (fun c6 => ?_) (fun c6 => ?_)))
   ·have c6_ := c6
    try simp only [sB] at c6
    refine w_skip (q_then (w_seq (w_block (sr (qm hnt rfl rfl ?_)))))
    obtain ⟨e2,he2⟩ := get_of_lt L (i := i) (by omega)
    refine qo hnt rfl (s_iaM (q := i) (b := e2) (f := eReply) tab_58 rfl tab_62 rfl rfl (by omega) rfl he2 ?_)
    refine qo hnt rfl (s_load_ro tab_62 rfl rfl rfl ?_)
    refine qo hnt rfl (s_alloc tab_62 ?_)
    refine qa hnt rfl rfl (qo hnt rfl (s_store_ptr tab_62 rfl rfl rfl rfl rfl (nb rfl) ?_))
    refine r_set [(4,PV.ptr 3 0),(6,PV.ptr 4 0),(7,pS 10 false ePart S1.1),(11,PV.ptr 0 0),(12,pN i),(13,PV.ptr 5 0),(65,pS 10 false eReply L),(66,pN L.length),(67,pN i)] [(5,.obj (cReply e2)),(0,.obj [pI q.fn,pI 0,pI 0,pI 0,pI 0,PV.ref 1 0 none,PV.ref 2 0 none,p16 0,p16 0,pNil]),(1,oB true 1 encBo bo),(2,oB true 1 enc16 vo),(3,.obj (cRequest q)),(4,.obj [pI 0,pI 0,pI 0,pI 0,pI 0,pNil,pNil,p16 0,p16 0,pNil])] 6 ⟨rfl,rfl,rfl,rfl,rfl,rfl,rfl,rfl,rfl,trivial⟩ rfl rfl (re (w_seq (w_seq ?_)))
    have hre := hrL e2 (List.mem_of_getElem? he2)
    refine wdr hnt (xq 4 [.o 4] [] ?_)
    obtain ⟨e3,he3⟩ := get_of_lt S1.1 (i := i) (by omega)
    refine xk [(74,pS 10 false ePart S1.1),(75,pN i)] [] [] [] [(5,.obj (cReply e2)),(0,.obj [pI q.fn,pI 0,pI 0,pI 0,pI 0,PV.ref 1 0 none,PV.ref 2 0 none,p16 0,p16 0,pNil]),(1,oB true 1 encBo bo),(2,oB true 1 enc16 vo),(3,.obj (cRequest q)),(4,.obj [pI 0,pI 0,pI 0,pI 0,pI 0,pNil,pNil,p16 0,p16 0,pNil])] (s_iaM (q := i) (b := e3) (f := ePart) tab_74 rfl tab_77 rfl rfl (by omega) rfl he3 ⟨rfl,rfl,rfl⟩) (xq 5 [.o 5] [] (xi 81 [(81,pB (!decide (e2.fn = e3.request.fn))),(13,PV.ptr 5 0)] rfl (fun g1 => ?_) (fun g1 => ?_)))
    ·have g1' := g1
     try simp only [sB] at g1'
     refine xkg [(81,pB (!decide (e2.fn = e3.request.fn))),(13,PV.ptr 5 0)] [(5,.obj (cReply e2))] [] [(5,.obj (cReply e2))] [(5,.obj (cReply e2)),(0,.obj [pI q.fn,pI 0,pI 0,pI 0,pI 0,PV.ref 1 0 none,PV.ref 2 0 none,p16 0,p16 0,pNil]),(1,oB true 1 encBo bo),(2,oB true 1 enc16 vo),(3,.obj (cRequest q)),(4,.obj [pI 0,pI 0,pI 0,pI 0,pI 0,pNil,pNil,p16 0,p16 0,pNil])] (s_load_ptr tab_62 rfl rfl rfl (nb rfl) ⟨rfl,rfl,rfl⟩) ?_ (hs := ⟨rfl,trivial⟩)
     refine xey 81 [(81,pB (!decide (e2.fn = e3.request.fn))),(82,PV.f (eReply e2))] rfl g1 (xkg [(81,pB (!decide (e2.fn = e3.request.fn))),(82,PV.f (eReply e2))] [] [] [] [(5,.obj (cReply e2)),(0,.obj [pI q.fn,pI 0,pI 0,pI 0,pI 0,PV.ref 1 0 none,PV.ref 2 0 none,p16 0,p16 0,pNil]),(1,oB true 1 encBo bo),(2,oB true 1 enc16 vo),(3,.obj (cRequest q)),(4,.obj [pI 0,pI 0,pI 0,pI 0,pI 0,pNil,pNil,p16 0,p16 0,pNil])] (s_callF rfl rfl rfl (w_burgageref3_Good e2 (by omega)) rfl ⟨rfl,rfl,rfl⟩) (xey 81 [(81,pB (!decide (e2.fn = e3.request.fn))),(83,pI (goodR e2))] rfl g1 (xkg [(81,pB (!decide (e2.fn = e3.request.fn))),(83,pI (goodR e2))] [] [] [] [(5,.obj (cReply e2)),(0,.obj [pI q.fn,pI 0,pI 0,pI 0,pI 0,PV.ref 1 0 none,PV.ref 2 0 none,p16 0,p16 0,pNil]),(1,oB true 1 encBo bo),(2,oB true 1 enc16 vo),(3,.obj (cRequest q)),(4,.obj [pI 0,pI 0,pI 0,pI 0,pI 0,pNil,pNil,p16 0,p16 0,pNil])] (s_neq rfl rfl ⟨rfl,rfl,rfl⟩) (xk [(81,pB (!decide (e2.fn = e3.request.fn))),(84,pB (!decide (goodR e2 = 0)))] [] [] [] [(5,.obj (cReply e2)),(0,.obj [pI q.fn,pI 0,pI 0,pI 0,pI 0,PV.ref 1 0 none,PV.ref 2 0 none,p16 0,p16 0,pNil]),(1,oB true 1 encBo bo),(2,oB true 1 enc16 vo),(3,.obj (cRequest q)),(4,.obj [pI 0,pI 0,pI 0,pI 0,pI 0,pNil,pNil,p16 0,p16 0,pNil])] (s_pick_f rfl g1 rfl ⟨rfl,rfl,rfl⟩) (xe [(4,PV.ptr 3 0),(6,PV.ptr 4 0),(7,pS 10 false ePart S1.1),(11,PV.ptr 0 0),(12,pN i),(13,PV.ptr 5 0),(65,pS 10 false eReply L),(66,pN L.length),(67,pN i),(82,PV.f (eReply e2)),(83,pI (goodR e2)),(84,pB (!decide (goodR e2 = 0))),(85,pB (!decide (goodR e2 = 0)))] ?_)))))
     refine re (w_if rfl (fun c7 => ?_) (fun c7 => ?_))
     ·have c7_ := c7
      try simp only [sB] at c7
      refine sr (xp hnt 2 [.o 2] [] [(87,pI q.fn)] (qo hnt rfl (s_callF rfl rfl rfl (w_burgageref3_Refuse q.fn 4) rfl ?_)))
      refine qo hnt rfl (s_store_ptr tab_62 rfl rfl rfl rfl rfl (nb rfl) ?_)
      refine r_set [(6,PV.ptr 4 0)] [(4,.obj (cReply (refuseR q.fn 4))),(5,.obj (cReply e2)),(0,.obj [pI q.fn,pI 0,pI 0,pI 0,pI 0,PV.ref 1 0 none,PV.ref 2 0 none,p16 0,p16 0,pNil]),(1,oB true 1 encBo bo),(2,oB true 1 enc16 vo),(3,.obj (cRequest q))] 6 ⟨rfl,trivial⟩ rfl rfl (re ?_)
      have hz5 : ((refuseR q.fn 4).fn) = J.fn ∧ ((refuseR q.fn 4).code) = J.code ∧ ((refuseR q.fn 4).at_) = J.at_ ∧ ((refuseR q.fn 4).count) = J.count ∧ ((refuseR q.fn 4).sub) = J.sub ∧ ((refuseR q.fn 4).bits) = J.bits ∧ ((refuseR q.fn 4).vals) = J.vals ∧ ((refuseR q.fn 4).and_) = J.and_ ∧ ((refuseR q.fn 4).or_) = J.or_ ∧ ((refuseR q.fn 4).data) = J.data := by and_intros <;> ((rw [hJ,join_few hc0 hlc (by rw [← hS1,← hL]; exact hcj) (.inr (by rw [← hS1,← hL]; exact anyJ_bad he3 he2 (by unfold badJ; first|assumption|(rw [g1]; rfl)|(rw [g1,c5_]; rfl)|simp_all)))]; done))
      exact w_leO (n := 4) (ds := cReply J) rfl ⟨le_of_eq (congrArg pI hz5.1),le_of_eq (congrArg pI hz5.2.1),le_of_eq (congrArg pI hz5.2.2.1),le_of_eq (congrArg pI hz5.2.2.2.1),le_of_eq (congrArg pI hz5.2.2.2.2.1),le_of_eq (congrArg (fun z => pS 1 false encBo z) hz5.2.2.2.2.2.1),le_of_eq (congrArg (fun z => pS 1 false enc16 z) hz5.2.2.2.2.2.2.1),le_of_eq (congrArg p16 hz5.2.2.2.2.2.2.2.1),le_of_eq (congrArg p16 hz5.2.2.2.2.2.2.2.2.1),le_of_eq (congrArg (fun z => pS 1 false enc8 z) hz5.2.2.2.2.2.2.2.2.2),trivial⟩ (w_ret (q_then_ret (q_block_ret (q_then_ret (q_then_ret (q_block_ret (q_then_ret fp)))))))
     have c7_ := c7
     try simp only [sB] at c7
     refine w_skip (q_then (sr (qm hnt rfl rfl (qm hnt rfl rfl (qo hnt rfl (s_iaM (q := i) (b := e3) (f := ePart) tab_74 rfl tab_77 rfl rfl (by omega) rfl he3 ?_))))))
     refine xp hnt 8 [.o 4,.b 3 [.o 3]] [] [(99,pB ((!e3.write) && (!decide (q.fn = 22))))] (re (w_if rfl (fun c8 => ?_) (fun c8 => ?_)))
     ·have c8_ := c8
      try simp only [sB] at c8
      refine wdr hnt (xq 4 [.o 4] [] (xk [(101,PV.ref 1 0 none),(103,pS 1 false encBo e2.bits)] [] [(1,oB true 1 encBo bo)] [(6,oB true 1 encBo (bo ++ e2.bits))] [(6,oB true 1 encBo (bo ++ e2.bits)),(5,.obj (cReply e2)),(0,.obj [pI q.fn,pI 0,pI 0,pI 0,pI 0,PV.ref 1 0 none,PV.ref 2 0 none,p16 0,p16 0,pNil]),(2,oB true 1 enc16 vo),(3,.obj (cRequest q)),(4,.obj [pI 0,pI 0,pI 0,pI 0,pI 0,pNil,pNil,p16 0,p16 0,pNil])] (s_appR0 (f := encBo) (l := bo) (xs := e2.bits) tab_33 rfl tab_4 ⟨rfl,by decide,by decide⟩ (srcM tab_33 rfl (hM_sl (f := encBo) rfl)) rfl rfl (by (simp; omega)) ⟨rfl,rfl,rfl⟩) (xq 4 [.o 4] [] (xk [(106,PV.ref 2 0 none),(108,pS 1 false enc16 e2.vals)] [] [(2,oB true 1 enc16 vo)] [(7,oB true 1 enc16 (vo ++ e2.vals))] [(7,oB true 1 enc16 (vo ++ e2.vals)),(6,oB true 1 encBo (bo ++ e2.bits)),(5,.obj (cReply e2)),(0,.obj [pI q.fn,pI 0,pI 0,pI 0,pI 0,PV.ref 1 0 none,PV.ref 2 0 none,p16 0,p16 0,pNil]),(3,.obj (cRequest q)),(4,.obj [pI 0,pI 0,pI 0,pI 0,pI 0,pNil,pNil,p16 0,p16 0,pNil])] (s_appR0 (f := enc16) (l := vo) (xs := e2.vals) tab_34 rfl tab_35 ⟨rfl,by decide,by decide⟩ (srcM tab_34 rfl (hM_sl (f := enc16) rfl)) rfl rfl (by (simp; omega)) ⟨rfl,rfl,rfl⟩) (xd 4 [.o 4] [] 8 [(0,.obj [pI q.fn,pI 0,pI 0,pI 0,pI 0,PV.ref 6 0 none,PV.ref 7 0 none,p16 0,p16 0,pNil]),(7,oB true 1 enc16 (vo ++ e2.vals)),(6,oB true 1 encBo (bo ++ e2.bits)),(5,.obj (cReply e2)),(3,.obj (cRequest q)),(4,.obj [pI 0,pI 0,pI 0,pI 0,pI 0,pNil,pNil,p16 0,p16 0,pNil])] ?_)))))
      refine xe [(4,PV.ptr 3 0),(6,PV.ptr 4 0),(7,pS 10 false ePart S1.1),(11,PV.ptr 0 0),(65,pS 10 false eReply L),(66,pN L.length),(67,pN i),(82,PV.f (eReply e2)),(83,pI (goodR e2)),(84,pB (!decide (goodR e2 = 0)))] (r_end (q_block (q_then (w_R (qo hnt rfl (s_addN (a := i) (b := 1) rfl rfl (by omega) (by omega) (by omega) ?_))))))
      refine qm hnt rfl rfl (re (⟨(bo ++ e2.bits),(vo ++ e2.vals),(i + 1), ?_, ?_,⟨[(0,0),(1,6),(2,7),(3,3),(4,4)],by rw [hk]; decide,⟨⟨_,rfl,rfl,rfl⟩,⟨_,rfl,rfl,rfl⟩,⟨_,rfl,rfl,rfl⟩,⟨_,rfl,rfl,rfl⟩,⟨_,rfl,rfl,rfl⟩,⟨_,rfl,rfl,rfl⟩,⟨_,rfl,rfl,rfl⟩,trivial⟩,⟨⟨_,_,rfl,rfl,rfl,rfl⟩,⟨_,_,rfl,rfl,rfl,rfl⟩,⟨_,_,rfl,rfl,rfl,rfl⟩,⟨_,_,rfl,rfl,rfl,rfl⟩,⟨_,_,rfl,rfl,rfl,rfl⟩,trivial⟩,by rw [hk]; decide⟩⟩))
      ·have hbs := bitsJ_snoc he3 he2
       have hvs := valsJ_snoc he3 he2
       have has := anyJ_snoc he3 he2
       refine ⟨by omega,⟨fun h22 => ?_,fun h22 => ?_⟩, ?_, ?_, ?_⟩
       · obtain ⟨hb1,hv1⟩ := hbo.1 h22
         rw [hbs,hvs,← hb1,← hv1]; cases hwv : e3.write <;> simp_all
       · obtain ⟨hb1,hv1⟩ := hbo.2 h22
         simp_all
       · rw [has,hany]; unfold badJ; simp_all
       · (simp; omega)
       · (simp; omega)
      · omega
     have c8_ := c8
     try simp only [sB] at c8
     refine w_skip (q_block (q_then (w_R (qo hnt rfl (s_addN (a := i) (b := 1) rfl rfl (by omega) (by omega) (by omega) ?_)))))
     refine qm hnt rfl rfl (re (⟨(bo),(vo),(i + 1), ?_, ?_,⟨[(0,0),(1,1),(2,2),(3,3),(4,4)],by rw [hk]; decide,⟨⟨_,rfl,rfl,rfl⟩,⟨_,rfl,rfl,rfl⟩,⟨_,rfl,rfl,rfl⟩,⟨_,rfl,rfl,rfl⟩,⟨_,rfl,rfl,rfl⟩,⟨_,rfl,rfl,rfl⟩,⟨_,rfl,rfl,rfl⟩,trivial⟩,⟨⟨_,_,rfl,rfl,rfl,rfl⟩,⟨_,_,rfl,rfl,rfl,rfl⟩,⟨_,_,rfl,rfl,rfl,rfl⟩,⟨_,_,rfl,rfl,rfl,rfl⟩,⟨_,_,rfl,rfl,rfl,rfl⟩,trivial⟩,by rw [hk]; decide⟩⟩))
     ·have hbs := bitsJ_snoc he3 he2
      have hvs := valsJ_snoc he3 he2
      have has := anyJ_snoc he3 he2
      refine ⟨by omega,⟨fun h22 => ?_,fun h22 => ?_⟩, ?_, ?_, ?_⟩
      · obtain ⟨hb1,hv1⟩ := hbo.1 h22
        rw [hbs,hvs,← hb1,← hv1]; cases hwv : e3.write <;> simp_all
      · obtain ⟨hb1,hv1⟩ := hbo.2 h22
        exact ⟨hb1,hv1⟩
      · rw [has,hany]; unfold badJ; simp_all
      · omega
      · omega
     · omega
    have g1' := g1
    try simp only [sB] at g1'
    refine xen 81 [(81,pB (!decide (e2.fn = e3.request.fn))),(82,undefP)] rfl g1 (xen 81 [(81,pB (!decide (e2.fn = e3.request.fn))),(83,undefP)] rfl g1 (xk [(81,pB (!decide (e2.fn = e3.request.fn))),(84,undefP)] [] [] [] [(5,.obj (cReply e2)),(0,.obj [pI q.fn,pI 0,pI 0,pI 0,pI 0,PV.ref 1 0 none,PV.ref 2 0 none,p16 0,p16 0,pNil]),(1,oB true 1 encBo bo),(2,oB true 1 enc16 vo),(3,.obj (cRequest q)),(4,.obj [pI 0,pI 0,pI 0,pI 0,pI 0,pNil,pNil,p16 0,p16 0,pNil])] (s_pick_t rfl g1 rfl ⟨rfl,rfl,rfl⟩) (xe [(4,PV.ptr 3 0),(6,PV.ptr 4 0),(7,pS 10 false ePart S1.1),(11,PV.ptr 0 0),(12,pN i),(13,PV.ptr 5 0),(65,pS 10 false eReply L),(66,pN L.length),(67,pN i),(85,pB true)] (re (w_if rfl (fun _ => ?_) (fun e => absurd e (by decide)))))))
    refine sr (xp hnt 2 [.o 2] [] [(87,pI q.fn)] (qo hnt rfl (s_callF rfl rfl rfl (w_burgageref3_Refuse q.fn 4) rfl ?_)))
    refine qo hnt rfl (s_store_ptr tab_62 rfl rfl rfl rfl rfl (nb rfl) ?_)
    refine r_set [(6,PV.ptr 4 0)] [(4,.obj (cReply (refuseR q.fn 4))),(5,.obj (cReply e2)),(0,.obj [pI q.fn,pI 0,pI 0,pI 0,pI 0,PV.ref 1 0 none,PV.ref 2 0 none,p16 0,p16 0,pNil]),(1,oB true 1 encBo bo),(2,oB true 1 enc16 vo),(3,.obj (cRequest q))] 6 ⟨rfl,trivial⟩ rfl rfl (re ?_)
    have hz6 : ((refuseR q.fn 4).fn) = J.fn ∧ ((refuseR q.fn 4).code) = J.code ∧ ((refuseR q.fn 4).at_) = J.at_ ∧ ((refuseR q.fn 4).count) = J.count ∧ ((refuseR q.fn 4).sub) = J.sub ∧ ((refuseR q.fn 4).bits) = J.bits ∧ ((refuseR q.fn 4).vals) = J.vals ∧ ((refuseR q.fn 4).and_) = J.and_ ∧ ((refuseR q.fn 4).or_) = J.or_ ∧ ((refuseR q.fn 4).data) = J.data := by and_intros <;> ((rw [hJ,join_few hc0 hlc (by rw [← hS1,← hL]; exact hcj) (.inr (by rw [← hS1,← hL]; exact anyJ_bad he3 he2 (by unfold badJ; first|assumption|(rw [g1]; rfl)|(rw [g1,c5_]; rfl)|simp_all)))]; done))
    exact w_leO (n := 4) (ds := cReply J) rfl ⟨le_of_eq (congrArg pI hz6.1),le_of_eq (congrArg pI hz6.2.1),le_of_eq (congrArg pI hz6.2.2.1),le_of_eq (congrArg pI hz6.2.2.2.1),le_of_eq (congrArg pI hz6.2.2.2.2.1),le_of_eq (congrArg (fun z => pS 1 false encBo z) hz6.2.2.2.2.2.1),le_of_eq (congrArg (fun z => pS 1 false enc16 z) hz6.2.2.2.2.2.2.1),le_of_eq (congrArg p16 hz6.2.2.2.2.2.2.2.1),le_of_eq (congrArg p16 hz6.2.2.2.2.2.2.2.2.1),le_of_eq (congrArg (fun z => pS 1 false enc8 z) hz6.2.2.2.2.2.2.2.2.2),trivial⟩ (w_ret (q_then_ret (q_block_ret (q_then_ret (q_then_ret (q_block_ret (q_then_ret fp)))))))
   have c6_ := c6
   try simp only [sB] at c6
   refine w_exit (q_then_exit (q_then_exit (q_block_exit (q_then (w_seq (w_seq ?_))))))
   have hiL : i = L.length := by omega
   rw [hiL,List.take_length] at hbo hany
   have hww := fun h => split_w (F := t.functions) (l := t.windows) (q := q) h
   rw [← hS1] at hww
   refine w_R (xp hnt 2 [.o 2] [] [(114,pI q.fn)] (re (w_block (xo hnt 115 [[.o 2],[.o 2],[.o 2],[.o 2],[.o 2]] [] ((decide (q.fn = 1)) || ((decide (q.fn = 2)) || ((decide (q.fn = 3)) || ((decide (q.fn = 4)) || (decide (q.fn = 23)))))) (w_if rfl (fun c13 => ?_) (fun c13 => ?_))))))
   ·have c13_ := c13
    try simp only [sB,Bool.or_eq_true,Bool.or_eq_false_iff] at c13
    refine sr (xp hnt 10 [.o 2,.c (pN bo.length),.o 2,.c (pN vo.length),.o 4] [lenC encBo bo,lenC enc16 vo,okI (((bo.length : Nat) : Int) + ((vo.length : Nat) : Int))] [(130,pB (!decide (((bo.length + vo.length : Nat) : Int) = q.count)))] ?_ (hc := ⟨lenC_ok _ _,lenC_ok _ _,by unfold okI; (omega),trivial⟩))
    refine re (w_if rfl (fun c14 => ?_) (fun c14 => ?_))
    ·have c14_ := c14
     try simp only [sB] at c14
     refine w_seq ?_
     obtain ⟨hb1,hv1⟩ := hbo.1 (by omega)
     have hJe : J = refuseR q.fn 4 := by rw [hJ,join_all hc0 hlc (by rw [← hS1,← hL]; exact hcj) (by rw [← hS1]; omega) (by rw [← hS1,← hL]; exact hany),← hS1,← hL,← hb1,← hv1]; exact whole_no (by omega) (by omega)
     refine w_R (xp hnt 2 [.o 2] [] [(132,pI q.fn)] (qo hnt rfl (s_callF rfl rfl rfl (w_burgageref3_Refuse q.fn 4) rfl ?_)))
     refine qo hnt rfl (s_store_ptr tab_62 rfl rfl rfl rfl rfl (nb rfl) ?_)
     refine r_set [(6,PV.ptr 4 0)] [(4,.obj (cReply (refuseR q.fn 4))),(0,.obj [pI q.fn,pI 0,pI 0,pI 0,pI 0,PV.ref 1 0 none,PV.ref 2 0 none,p16 0,p16 0,pNil]),(1,oB true 1 encBo bo),(2,oB true 1 enc16 vo),(3,.obj (cRequest q))] 5 ⟨rfl,trivial⟩ rfl rfl (re ?_)
     have hz7 : ((refuseR q.fn 4).fn) = J.fn ∧ ((refuseR q.fn 4).code) = J.code ∧ ((refuseR q.fn 4).at_) = J.at_ ∧ ((refuseR q.fn 4).count) = J.count ∧ ((refuseR q.fn 4).sub) = J.sub ∧ ((refuseR q.fn 4).bits) = J.bits ∧ ((refuseR q.fn 4).vals) = J.vals ∧ ((refuseR q.fn 4).and_) = J.and_ ∧ ((refuseR q.fn 4).or_) = J.or_ ∧ ((refuseR q.fn 4).data) = J.data := by and_intros <;> ((rw [hJe]; done))
     exact w_leO (n := 4) (ds := cReply J) rfl ⟨le_of_eq (congrArg pI hz7.1),le_of_eq (congrArg pI hz7.2.1),le_of_eq (congrArg pI hz7.2.2.1),le_of_eq (congrArg pI hz7.2.2.2.1),le_of_eq (congrArg pI hz7.2.2.2.2.1),le_of_eq (congrArg (fun z => pS 1 false encBo z) hz7.2.2.2.2.2.1),le_of_eq (congrArg (fun z => pS 1 false enc16 z) hz7.2.2.2.2.2.2.1),le_of_eq (congrArg p16 hz7.2.2.2.2.2.2.2.1),le_of_eq (congrArg p16 hz7.2.2.2.2.2.2.2.2.1),le_of_eq (congrArg (fun z => pS 1 false enc8 z) hz7.2.2.2.2.2.2.2.2.2),trivial⟩ (w_ret (q_block_ret (q_then_ret fp)))
    have c14_ := c14
    try simp only [sB] at c14
    obtain ⟨hb1,hv1⟩ := hbo.1 (by omega)
    have hJe : J = ⟨q.fn,0,0,0,0,bo,vo,0,0,[]⟩ := by rw [hJ,join_all hc0 hlc (by rw [← hS1,← hL]; exact hcj) (by rw [← hS1]; omega) (by rw [← hS1,← hL]; exact hany),← hS1,← hL,← hb1,← hv1]; exact whole_is (by omega) (by omega)
    refine w_skip (q_block (q_then (sr (qo hnt rfl (s_load_ptr tab_62 rfl rfl rfl (nb rfl) ?_)))))
    refine qo hnt rfl (s_store_ptr tab_62 rfl rfl rfl rfl rfl (nb rfl) ?_)
    refine r_set [(6,PV.ptr 4 0)] [(4,.obj [pI q.fn,pI 0,pI 0,pI 0,pI 0,PV.ref 1 0 none,PV.ref 2 0 none,p16 0,p16 0,pNil]),(0,.obj [pI q.fn,pI 0,pI 0,pI 0,pI 0,PV.ref 1 0 none,PV.ref 2 0 none,p16 0,p16 0,pNil]),(1,oB true 1 encBo bo),(2,oB true 1 enc16 vo),(3,.obj (cRequest q))] 5 ⟨rfl,trivial⟩ rfl rfl (re (w_frzC (n := 4) (j := 5) rfl rfl rfl rfl ?_))
    have hz8 : bo = J.bits := by ((rw [hJe]; done))
    refine w_leO (n := 4) (ds := [pI q.fn,pI 0,pI 0,pI 0,pI 0,pS 1 false encBo J.bits,PV.ref 2 0 none,p16 0,p16 0,pNil]) rfl ⟨le_refl _,le_refl _,le_refl _,le_refl _,le_refl _,le_of_eq (congrArg (fun z => pS 1 false encBo z) hz8),le_refl _,le_refl _,le_refl _,le_refl _,trivial⟩ (w_frzC (n := 4) (j := 6) rfl rfl rfl rfl ?_)
    have hz9 : q.fn = J.fn ∧ 0 = J.code ∧ 0 = J.at_ ∧ 0 = J.count ∧ 0 = J.sub ∧ vo = J.vals ∧ 0 = J.and_ ∧ 0 = J.or_ ∧ ([] : List UInt8) = J.data := by and_intros <;> ((rw [hJe]; done))
    exact w_leO (n := 4) (ds := cReply J) rfl ⟨le_of_eq (congrArg pI hz9.1),le_of_eq (congrArg pI hz9.2.1),le_of_eq (congrArg pI hz9.2.2.1),le_of_eq (congrArg pI hz9.2.2.2.1),le_of_eq (congrArg pI hz9.2.2.2.2.1),le_refl _,le_of_eq (congrArg (fun z => pS 1 false enc16 z) hz9.2.2.2.2.2.1),le_of_eq (congrArg p16 hz9.2.2.2.2.2.2.1),le_of_eq (congrArg p16 hz9.2.2.2.2.2.2.2.1),le_tr (le_nilS 1 false) (le_of_eq (congrArg (fun z => pS 1 false enc8 z) hz9.2.2.2.2.2.2.2.2)),trivial⟩ (w_ret fp)
   have c13_ := c13
   try simp only [sB,Bool.or_eq_true,Bool.or_eq_false_iff] at c13
   refine sr (qo hnt rfl (s_eql rfl rfl ?_))
   refine ae hnt rfl rfl (w_if rfl (fun c15 => ?_) (fun c15 => ?_))
   ·have c15_ := c15
    try simp only [sB] at c15
    obtain ⟨hb1,hv1⟩ := hbo.1 (by omega)
    obtain ⟨hw1,hw2⟩ := bits_w (rs := L) (hww (by omega))
    have hbe : bo = [] := hb1.trans hw1
    have hve : vo = [] := hv1.trans hw2
    have hJe : J = ⟨q.fn,0,q.at_,0,0,q.bits,[],0,0,[]⟩ := by rw [hJ,join_all hc0 hlc (by rw [← hS1,← hL]; exact hcj) (by rw [← hS1]; omega) (by rw [← hS1,← hL]; exact hany),← hS1,← hL]; exact whole_5 (by omega)
    refine wdr hnt (xq 2 [.o 2] [] (xk [] [] [] [(5,oB true 1 encBo ([] : List Bool))] [(5,oB true 1 encBo ([] : List Bool)),(0,.obj [pI q.fn,pI 0,pI 0,pI 0,pI 0,PV.ref 1 0 none,PV.ref 2 0 none,p16 0,p16 0,pNil]),(1,oB true 1 encBo bo),(2,oB true 1 enc16 vo),(3,.obj (cRequest q)),(4,.obj [pI 0,pI 0,pI 0,pI 0,pI 0,pNil,pNil,p16 0,p16 0,pNil])] (s_mkM (f := encBo) ([] : List Bool) tab_33 rfl tab_4 ⟨rfl,by decide⟩ (by decide) rfl rfl rfl rfl ⟨rfl,rfl,rfl⟩) (xq 2 [.o 2] [] (xk [(138,PV.ref 5 0 none),(140,pS 1 false encBo q.bits)] [] [(5,oB true 1 encBo ([] : List Bool))] [(6,oB true 1 encBo q.bits)] [(6,oB true 1 encBo q.bits),(0,.obj [pI q.fn,pI 0,pI 0,pI 0,pI 0,PV.ref 1 0 none,PV.ref 2 0 none,p16 0,p16 0,pNil]),(1,oB true 1 encBo bo),(2,oB true 1 enc16 vo),(3,.obj (cRequest q)),(4,.obj [pI 0,pI 0,pI 0,pI 0,pI 0,pNil,pNil,p16 0,p16 0,pNil])] (s_appR0 (f := encBo) (l := ([] : List Bool)) (xs := q.bits) tab_33 rfl tab_4 ⟨rfl,by decide,by decide⟩ (srcM tab_33 rfl (hM_sl (f := encBo) rfl)) rfl rfl (by (simp; omega)) ⟨rfl,rfl,rfl⟩) (xd 4 [.o 4] [] 7 [(0,.obj [pI q.fn,pI 0,pI q.at_,pI 0,pI 0,PV.ref 6 0 none,PV.ref 2 0 none,p16 0,p16 0,pNil]),(6,oB true 1 encBo q.bits),(1,oB true 1 encBo bo),(2,oB true 1 enc16 vo),(3,.obj (cRequest q)),(4,.obj [pI 0,pI 0,pI 0,pI 0,pI 0,pNil,pNil,p16 0,p16 0,pNil])] ?_)))))
    refine xe [(6,PV.ptr 4 0),(11,PV.ptr 0 0)] (r_end (q_block (q_then (sr (qo hnt rfl (s_load_ptr tab_62 rfl rfl rfl (nb rfl) ?_))))))
    refine qo hnt rfl (s_store_ptr tab_62 rfl rfl rfl rfl rfl (nb rfl) ?_)
    refine r_set [(6,PV.ptr 4 0)] [(4,.obj [pI q.fn,pI 0,pI q.at_,pI 0,pI 0,PV.ref 6 0 none,PV.ref 2 0 none,p16 0,p16 0,pNil]),(0,.obj [pI q.fn,pI 0,pI q.at_,pI 0,pI 0,PV.ref 6 0 none,PV.ref 2 0 none,p16 0,p16 0,pNil]),(6,oB true 1 encBo q.bits),(1,oB true 1 encBo bo),(2,oB true 1 enc16 vo),(3,.obj (cRequest q))] 7 ⟨rfl,trivial⟩ rfl rfl (re (w_frzC (n := 4) (j := 5) rfl rfl rfl rfl ?_))
    have hz10 : q.bits = J.bits := by ((rw [hJe]; done))
    refine w_leO (n := 4) (ds := [pI q.fn,pI 0,pI q.at_,pI 0,pI 0,pS 1 false encBo J.bits,PV.ref 2 0 none,p16 0,p16 0,pNil]) rfl ⟨le_refl _,le_refl _,le_refl _,le_refl _,le_refl _,le_of_eq (congrArg (fun z => pS 1 false encBo z) hz10),le_refl _,le_refl _,le_refl _,le_refl _,trivial⟩ (w_frzC (n := 4) (j := 6) rfl rfl rfl rfl ?_)
    have hz11 : q.fn = J.fn ∧ 0 = J.code ∧ q.at_ = J.at_ ∧ 0 = J.count ∧ 0 = J.sub ∧ vo = J.vals ∧ 0 = J.and_ ∧ 0 = J.or_ ∧ ([] : List UInt8) = J.data := by and_intros <;> (first|(rw [hJe]; done)|(rw [hJe,hve]; done))
    exact w_leO (n := 4) (ds := cReply J) rfl ⟨le_of_eq (congrArg pI hz11.1),le_of_eq (congrArg pI hz11.2.1),le_of_eq (congrArg pI hz11.2.2.1),le_of_eq (congrArg pI hz11.2.2.2.1),le_of_eq (congrArg pI hz11.2.2.2.2.1),le_refl _,le_of_eq (congrArg (fun z => pS 1 false enc16 z) hz11.2.2.2.2.2.1),le_of_eq (congrArg p16 hz11.2.2.2.2.2.2.1),le_of_eq (congrArg p16 hz11.2.2.2.2.2.2.2.1),le_tr (le_nilS 1 false) (le_of_eq (congrArg (fun z => pS 1 false enc8 z) hz11.2.2.2.2.2.2.2.2)),trivial⟩ (w_ret fp)
   have c15_ := c15
   try simp only [sB] at c15
   refine sr (qo hnt rfl (s_eql rfl rfl ?_))
   refine ae hnt rfl rfl (w_if rfl (fun c16 => ?_) (fun c16 => ?_))
   ·have c16_ := c16
    try simp only [sB] at c16
    obtain ⟨hb1,hv1⟩ := hbo.1 (by omega)
    obtain ⟨hw1,hw2⟩ := bits_w (rs := L) (hww (by omega))
    have hbe : bo = [] := hb1.trans hw1
    have hve : vo = [] := hv1.trans hw2
    have hJe : J = ⟨q.fn,0,q.at_,0,0,[],q.vals,0,0,[]⟩ := by rw [hJ,join_all hc0 hlc (by rw [← hS1,← hL]; exact hcj) (by rw [← hS1]; omega) (by rw [← hS1,← hL]; exact hany),← hS1,← hL]; exact whole_6 (by omega)
    refine wdr hnt (xq 2 [.o 2] [] (xk [] [] [] [(5,oB true 1 enc16 ([] : List UInt16))] [(5,oB true 1 enc16 ([] : List UInt16)),(0,.obj [pI q.fn,pI 0,pI 0,pI 0,pI 0,PV.ref 1 0 none,PV.ref 2 0 none,p16 0,p16 0,pNil]),(1,oB true 1 encBo bo),(2,oB true 1 enc16 vo),(3,.obj (cRequest q)),(4,.obj [pI 0,pI 0,pI 0,pI 0,pI 0,pNil,pNil,p16 0,p16 0,pNil])] (s_mkM (f := enc16) ([] : List UInt16) tab_34 rfl tab_35 ⟨rfl,by decide⟩ (by decide) rfl rfl rfl rfl ⟨rfl,rfl,rfl⟩) (xq 2 [.o 2] [] (xk [(148,PV.ref 5 0 none),(150,pS 1 false enc16 q.vals)] [] [(5,oB true 1 enc16 ([] : List UInt16))] [(6,oB true 1 enc16 q.vals)] [(6,oB true 1 enc16 q.vals),(0,.obj [pI q.fn,pI 0,pI 0,pI 0,pI 0,PV.ref 1 0 none,PV.ref 2 0 none,p16 0,p16 0,pNil]),(1,oB true 1 encBo bo),(2,oB true 1 enc16 vo),(3,.obj (cRequest q)),(4,.obj [pI 0,pI 0,pI 0,pI 0,pI 0,pNil,pNil,p16 0,p16 0,pNil])] (s_appR0 (f := enc16) (l := ([] : List UInt16)) (xs := q.vals) tab_34 rfl tab_35 ⟨rfl,by decide,by decide⟩ (srcM tab_34 rfl (hM_sl (f := enc16) rfl)) rfl rfl (by (simp; omega)) ⟨rfl,rfl,rfl⟩) (xd 4 [.o 4] [] 7 [(0,.obj [pI q.fn,pI 0,pI q.at_,pI 0,pI 0,PV.ref 1 0 none,PV.ref 6 0 none,p16 0,p16 0,pNil]),(6,oB true 1 enc16 q.vals),(1,oB true 1 encBo bo),(2,oB true 1 enc16 vo),(3,.obj (cRequest q)),(4,.obj [pI 0,pI 0,pI 0,pI 0,pI 0,pNil,pNil,p16 0,p16 0,pNil])] ?_)))))
    refine xe [(6,PV.ptr 4 0),(11,PV.ptr 0 0)] (r_end (q_block (q_then (sr (qo hnt rfl (s_load_ptr tab_62 rfl rfl rfl (nb rfl) ?_))))))
    refine qo hnt rfl (s_store_ptr tab_62 rfl rfl rfl rfl rfl (nb rfl) ?_)
    refine r_set [(6,PV.ptr 4 0)] [(4,.obj [pI q.fn,pI 0,pI q.at_,pI 0,pI 0,PV.ref 1 0 none,PV.ref 6 0 none,p16 0,p16 0,pNil]),(0,.obj [pI q.fn,pI 0,pI q.at_,pI 0,pI 0,PV.ref 1 0 none,PV.ref 6 0 none,p16 0,p16 0,pNil]),(6,oB true 1 enc16 q.vals),(1,oB true 1 encBo bo),(2,oB true 1 enc16 vo),(3,.obj (cRequest q))] 7 ⟨rfl,trivial⟩ rfl rfl (re (w_frzC (n := 4) (j := 5) rfl rfl rfl rfl ?_))
    have hz12 : bo = J.bits := by ((rw [hJe,hbe]; done))
    refine w_leO (n := 4) (ds := [pI q.fn,pI 0,pI q.at_,pI 0,pI 0,pS 1 false encBo J.bits,PV.ref 6 0 none,p16 0,p16 0,pNil]) rfl ⟨le_refl _,le_refl _,le_refl _,le_refl _,le_refl _,le_of_eq (congrArg (fun z => pS 1 false encBo z) hz12),le_refl _,le_refl _,le_refl _,le_refl _,trivial⟩ (w_frzC (n := 4) (j := 6) rfl rfl rfl rfl ?_)
    have hz13 : q.fn = J.fn ∧ 0 = J.code ∧ q.at_ = J.at_ ∧ 0 = J.count ∧ 0 = J.sub ∧ q.vals = J.vals ∧ 0 = J.and_ ∧ 0 = J.or_ ∧ ([] : List UInt8) = J.data := by and_intros <;> ((rw [hJe]; done))
    exact w_leO (n := 4) (ds := cReply J) rfl ⟨le_of_eq (congrArg pI hz13.1),le_of_eq (congrArg pI hz13.2.1),le_of_eq (congrArg pI hz13.2.2.1),le_of_eq (congrArg pI hz13.2.2.2.1),le_of_eq (congrArg pI hz13.2.2.2.2.1),le_refl _,le_of_eq (congrArg (fun z => pS 1 false enc16 z) hz13.2.2.2.2.2.1),le_of_eq (congrArg p16 hz13.2.2.2.2.2.2.1),le_of_eq (congrArg p16 hz13.2.2.2.2.2.2.2.1),le_tr (le_nilS 1 false) (le_of_eq (congrArg (fun z => pS 1 false enc8 z) hz13.2.2.2.2.2.2.2.2)),trivial⟩ (w_ret fp)
   have c16_ := c16
   try simp only [sB] at c16
   refine xo hnt 154 [[.o 2],[.o 2]] [] ((decide (q.fn = 15)) || (decide (q.fn = 16))) (w_if rfl (fun c18 => ?_) (fun c18 => ?_))
   ·have c18_ := c18
    try simp only [sB,Bool.or_eq_true,Bool.or_eq_false_iff] at c18
    obtain ⟨hb1,hv1⟩ := hbo.1 (by omega)
    obtain ⟨hw1,hw2⟩ := bits_w (rs := L) (hww (by omega))
    have hbe : bo = [] := hb1.trans hw1
    have hve : vo = [] := hv1.trans hw2
    have hJe : J = ⟨q.fn,0,q.at_,q.count,0,[],[],0,0,[]⟩ := by rw [hJ,join_all hc0 hlc (by rw [← hS1,← hL]; exact hcj) (by rw [← hS1]; omega) (by rw [← hS1,← hL]; exact hany),← hS1,← hL]; exact whole_15 (by omega)
    refine wdr hnt (xd 8 [.o 8] [] 5 [(0,.obj [pI q.fn,pI 0,pI q.at_,pI q.count,pI 0,PV.ref 1 0 none,PV.ref 2 0 none,p16 0,p16 0,pNil]),(1,oB true 1 encBo bo),(2,oB true 1 enc16 vo),(3,.obj (cRequest q)),(4,.obj [pI 0,pI 0,pI 0,pI 0,pI 0,pNil,pNil,p16 0,p16 0,pNil])] (xe [(6,PV.ptr 4 0),(11,PV.ptr 0 0)] (r_end (q_block (q_then ?_)))))
    refine sr (qo hnt rfl (s_load_ptr tab_62 rfl rfl rfl (nb rfl) ?_))
    refine qo hnt rfl (s_store_ptr tab_62 rfl rfl rfl rfl rfl (nb rfl) ?_)
    refine r_set [(6,PV.ptr 4 0)] [(4,.obj [pI q.fn,pI 0,pI q.at_,pI q.count,pI 0,PV.ref 1 0 none,PV.ref 2 0 none,p16 0,p16 0,pNil]),(0,.obj [pI q.fn,pI 0,pI q.at_,pI q.count,pI 0,PV.ref 1 0 none,PV.ref 2 0 none,p16 0,p16 0,pNil]),(1,oB true 1 encBo bo),(2,oB true 1 enc16 vo),(3,.obj (cRequest q))] 5 ⟨rfl,trivial⟩ rfl rfl (re (w_frzC (n := 4) (j := 5) rfl rfl rfl rfl ?_))
    have hz14 : bo = J.bits := by ((rw [hJe,hbe]; done))
    refine w_leO (n := 4) (ds := [pI q.fn,pI 0,pI q.at_,pI q.count,pI 0,pS 1 false encBo J.bits,PV.ref 2 0 none,p16 0,p16 0,pNil]) rfl ⟨le_refl _,le_refl _,le_refl _,le_refl _,le_refl _,le_of_eq (congrArg (fun z => pS 1 false encBo z) hz14),le_refl _,le_refl _,le_refl _,le_refl _,trivial⟩ (w_frzC (n := 4) (j := 6) rfl rfl rfl rfl ?_)
    have hz15 : q.fn = J.fn ∧ 0 = J.code ∧ q.at_ = J.at_ ∧ q.count = J.count ∧ 0 = J.sub ∧ vo = J.vals ∧ 0 = J.and_ ∧ 0 = J.or_ ∧ ([] : List UInt8) = J.data := by and_intros <;> (first|(rw [hJe]; done)|(rw [hJe,hve]; done))
    exact w_leO (n := 4) (ds := cReply J) rfl ⟨le_of_eq (congrArg pI hz15.1),le_of_eq (congrArg pI hz15.2.1),le_of_eq (congrArg pI hz15.2.2.1),le_of_eq (congrArg pI hz15.2.2.2.1),le_of_eq (congrArg pI hz15.2.2.2.2.1),le_refl _,le_of_eq (congrArg (fun z => pS 1 false enc16 z) hz15.2.2.2.2.2.1),le_of_eq (congrArg p16 hz15.2.2.2.2.2.2.1),le_of_eq (congrArg p16 hz15.2.2.2.2.2.2.2.1),le_tr (le_nilS 1 false) (le_of_eq (congrArg (fun z => pS 1 false enc8 z) hz15.2.2.2.2.2.2.2.2)),trivial⟩ (w_ret fp)
   have c18_ := c18
   try simp only [sB,Bool.or_eq_true,Bool.or_eq_false_iff] at c18
   refine sr (qo hnt rfl (s_eql rfl rfl ?_))
   refine ae hnt rfl rfl (w_if rfl (fun c19 => ?_) (fun c19 => ?_))
   ·have c19_ := c19
    try simp only [sB] at c19
    obtain ⟨hbe,hve⟩ := hbo.2 (by omega)
    have hJe : J = ⟨q.fn,0,q.at_,0,0,[],[],q.and_,q.or_,[]⟩ := by rw [hJ,join_all hc0 hlc (by rw [← hS1,← hL]; exact hcj) (by rw [← hS1]; omega) (by rw [← hS1,← hL]; exact hany),← hS1,← hL]; exact whole_22 (by omega)
    refine wdr hnt (xd 12 [.o 12] [] 5 [(0,.obj [pI q.fn,pI 0,pI q.at_,pI 0,pI 0,PV.ref 1 0 none,PV.ref 2 0 none,p16 q.and_,p16 q.or_,pNil]),(1,oB true 1 encBo bo),(2,oB true 1 enc16 vo),(3,.obj (cRequest q)),(4,.obj [pI 0,pI 0,pI 0,pI 0,pI 0,pNil,pNil,p16 0,p16 0,pNil])] (xe [(6,PV.ptr 4 0),(11,PV.ptr 0 0)] (r_end (q_block (q_then ?_)))))
    refine sr (qo hnt rfl (s_load_ptr tab_62 rfl rfl rfl (nb rfl) ?_))
    refine qo hnt rfl (s_store_ptr tab_62 rfl rfl rfl rfl rfl (nb rfl) ?_)
    refine r_set [(6,PV.ptr 4 0)] [(4,.obj [pI q.fn,pI 0,pI q.at_,pI 0,pI 0,PV.ref 1 0 none,PV.ref 2 0 none,p16 q.and_,p16 q.or_,pNil]),(0,.obj [pI q.fn,pI 0,pI q.at_,pI 0,pI 0,PV.ref 1 0 none,PV.ref 2 0 none,p16 q.and_,p16 q.or_,pNil]),(1,oB true 1 encBo bo),(2,oB true 1 enc16 vo),(3,.obj (cRequest q))] 5 ⟨rfl,trivial⟩ rfl rfl (re (w_frzC (n := 4) (j := 5) rfl rfl rfl rfl ?_))
    have hz16 : bo = J.bits := by ((rw [hJe,hbe]; done))
    refine w_leO (n := 4) (ds := [pI q.fn,pI 0,pI q.at_,pI 0,pI 0,pS 1 false encBo J.bits,PV.ref 2 0 none,p16 q.and_,p16 q.or_,pNil]) rfl ⟨le_refl _,le_refl _,le_refl _,le_refl _,le_refl _,le_of_eq (congrArg (fun z => pS 1 false encBo z) hz16),le_refl _,le_refl _,le_refl _,le_refl _,trivial⟩ (w_frzC (n := 4) (j := 6) rfl rfl rfl rfl ?_)
    have hz17 : q.fn = J.fn ∧ 0 = J.code ∧ q.at_ = J.at_ ∧ 0 = J.count ∧ 0 = J.sub ∧ vo = J.vals ∧ q.and_ = J.and_ ∧ q.or_ = J.or_ ∧ ([] : List UInt8) = J.data := by and_intros <;> (first|(rw [hJe]; done)|(rw [hJe,hve]; done))
    exact w_leO (n := 4) (ds := cReply J) rfl ⟨le_of_eq (congrArg pI hz17.1),le_of_eq (congrArg pI hz17.2.1),le_of_eq (congrArg pI hz17.2.2.1),le_of_eq (congrArg pI hz17.2.2.2.1),le_of_eq (congrArg pI hz17.2.2.2.2.1),le_refl _,le_of_eq (congrArg (fun z => pS 1 false enc16 z) hz17.2.2.2.2.2.1),le_of_eq (congrArg p16 hz17.2.2.2.2.2.2.1),le_of_eq (congrArg p16 hz17.2.2.2.2.2.2.2.1),le_tr (le_nilS 1 false) (le_of_eq (congrArg (fun z => pS 1 false enc8 z) hz17.2.2.2.2.2.2.2.2)),trivial⟩ (w_ret fp)
   have c19_ := c19
   try simp only [sB] at c19
   refine w_skip (q_block (q_then (sr (qo hnt rfl (s_load_ptr tab_62 rfl rfl rfl (nb rfl) ?_)))))
   refine qo hnt rfl (s_store_ptr tab_62 rfl rfl rfl rfl rfl (nb rfl) ?_)
   refine r_set [(6,PV.ptr 4 0)] [(4,.obj [pI q.fn,pI 0,pI 0,pI 0,pI 0,PV.ref 1 0 none,PV.ref 2 0 none,p16 0,p16 0,pNil]),(0,.obj [pI q.fn,pI 0,pI 0,pI 0,pI 0,PV.ref 1 0 none,PV.ref 2 0 none,p16 0,p16 0,pNil]),(1,oB true 1 encBo bo),(2,oB true 1 enc16 vo),(3,.obj (cRequest q))] 5 ⟨rfl,trivial⟩ rfl rfl (re (w_frzC (n := 4) (j := 5) rfl rfl rfl rfl ?_))
   have hz18 : bo = J.bits := by ((exfalso; omega))
   refine w_leO (n := 4) (ds := [pI q.fn,pI 0,pI 0,pI 0,pI 0,pS 1 false encBo J.bits,PV.ref 2 0 none,p16 0,p16 0,pNil]) rfl ⟨le_refl _,le_refl _,le_refl _,le_refl _,le_refl _,le_of_eq (congrArg (fun z => pS 1 false encBo z) hz18),le_refl _,le_refl _,le_refl _,le_refl _,trivial⟩ (w_frzC (n := 4) (j := 6) rfl rfl rfl rfl ?_)
   have hz19 : q.fn = J.fn ∧ 0 = J.code ∧ 0 = J.at_ ∧ 0 = J.count ∧ 0 = J.sub ∧ vo = J.vals ∧ 0 = J.and_ ∧ 0 = J.or_ ∧ ([] : List UInt8) = J.data := by and_intros <;> ((exfalso; omega))
   exact w_leO (n := 4) (ds := cReply J) rfl ⟨le_of_eq (congrArg pI hz19.1),le_of_eq (congrArg pI hz19.2.1),le_of_eq (congrArg pI hz19.2.2.1),le_of_eq (congrArg pI hz19.2.2.2.1),le_of_eq (congrArg pI hz19.2.2.2.2.1),le_refl _,le_of_eq (congrArg (fun z => pS 1 false enc16 z) hz19.2.2.2.2.2.1),le_of_eq (congrArg p16 hz19.2.2.2.2.2.2.1),le_of_eq (congrArg p16 hz19.2.2.2.2.2.2.2.1),le_tr (le_nilS 1 false) (le_of_eq (congrArg (fun z => pS 1 false enc8 z) hz19.2.2.2.2.2.2.2.2)),trivial⟩ (w_ret fp)
theorem w_burgagekeep_Functions   :
    T Try.prog 30 [] 0 [] (Ret (PV.ref 0 0 none) 1 [(0,oB true 1 encI fnsL)]) := by
 refine t_fun tabOk (n := 2) (rs := [.tmp 0]) Try.func30 rfl rfl rfl rfl (nb rfl) ?_
 intro c hnt hk
 refine sr (ae hnt rfl rfl (sr (qo hnt rfl (s_mkM (f := encI) ([1,2,3,4,5,6,8,15,16,17,22,23] : List Int) tab_28 rfl tab_3 ⟨rfl,by decide⟩ (by decide) rfl rfl rfl rfl ?_))))
 refine qa hnt rfl rfl (r_set [(0,PV.ref 0 0 none)] [(0,oB true 1 encI ([1,2,3,4,5,6,8,15,16,17,22,23] : List Int))] 1 ⟨rfl,trivial⟩ rfl rfl (re (w_H (H' := [(0,oB true 1 encI fnsL)]) (congrArg (fun z => ([(0,oB true 1 encI z)] : Heap)) (show ([1,2,3,4,5,6,8,15,16,17,22,23] : List Int) = fnsL by rfl)) (w_ret ?_))))
 exact fin_names (nx1 := 1) (H1 := [(0,oB true 1 encI fnsL)]) [(0,0)] (ret_tmp rfl ret_nil) rfl (by decide) ⟨⟨_,_,rfl,rfl,rfl,rfl⟩,trivial⟩ (by decide) rfl ⟨rfl,rfl,rfl⟩
theorem w_burgagekeep_Tape_Next (L : List Int) (cl_L : Bool) (a : Nat) (n : Int) (hL : L.length ≤ 70000000000000) (hn : -9223372036854775808 ≤ n ∧ n ≤ 9223372036854775807) :
    T Try.prog 31 [PV.ptr 0 0,pI n] 1 [(0,.obj [pS 1 cl_L encI L,pN a])] (Ret (pI (tNext L a n)) 1 [(0,.obj [pS 1 false encI L,pN (tStep L a n)])]) := by
 refine t_fun tabOk (n := 40) (rs := [.tmp 4]) Try.func31 rfl rfl rfl rfl (nb rfl) ?_
 intro c hnt hk
 refine sr (ae hnt rfl rfl (w_seq (w_seq (wdr hnt (xq 11 [.o 8,.c (pN L.length),.o 2] [lenC encI L] ?_ (hc := ⟨lenC_ok _ _,trivial⟩))))))
 refine xi 15 [(15,pB (decide (((L.length : Nat) : Int) ≤ ((a : Nat) : Int)))),(1,pI n)] rfl (fun g1 => ?_) (fun g1 => ?_)
 ·have g1' := g1
  try simp only [sB] at g1'
  refine xkg [(15,pB (decide (((L.length : Nat) : Int) ≤ ((a : Nat) : Int)))),(1,pI n)] [] [] [] [(0,.obj [pS 1 cl_L encI L,pN a])] (s_move rfl ⟨rfl,rfl,rfl⟩) (xey 15 [(15,pB (decide (((L.length : Nat) : Int) ≤ ((a : Nat) : Int)))),(16,pI n)] rfl g1 (xkg [(15,pB (decide (((L.length : Nat) : Int) ≤ ((a : Nat) : Int)))),(16,pI n)] [] [] [] [(0,.obj [pS 1 cl_L encI L,pN a])] (s_lss rfl rfl ⟨rfl,rfl,rfl⟩) (xk [(15,pB (decide (((L.length : Nat) : Int) ≤ ((a : Nat) : Int)))),(17,pB (decide (n < 1)))] [] [] [] [(0,.obj [pS 1 cl_L encI L,pN a])] (s_pick_f rfl g1 rfl ⟨rfl,rfl,rfl⟩) (xe [(0,PV.ptr 0 0),(1,pI n),(18,pB (decide (n < 1)))] (re ?_)))))
  refine w_if rfl (fun c1 => ?_) (fun c1 => ?_)
  ·try simp only [sB] at c1
   refine sr (ae hnt rfl rfl (w_le (s := 4) (y := pI (tNext L a n)) rfl (le_of_eq (congrArg pI (show 0 = (tNext L a n) by (unfold tNext; rw [if_pos (by omega)]; done)))) ?_))
   have hz1 : a = (tStep L a n) := by ((unfold tStep; rw [if_pos (by omega)]; done))
   refine w_leO (n := 0) (ds := [pS 1 false encI L,pN (tStep L a n)]) rfl ⟨le_loose,le_of_eq (congrArg (fun z : Nat => pN z) hz1),trivial⟩ (w_ret (q_then_ret ?_))
   exact fin_names (nx1 := 1) (H1 := [(0,.obj [pS 1 false encI L,pN (tStep L a n)])]) [(0,0)] (ret_tmp rfl ret_nil) rfl (by decide) ⟨⟨_,_,rfl,rfl,rfl,rfl⟩,trivial⟩ (by decide) rfl ⟨rfl,rfl,rfl⟩
  try simp only [sB] at c1
  refine w_skip (q_then (sr (xm hnt 8 [.o 8] [okI (((a : Nat) : Int) + 1)] [] 1 [(0,.obj [pS 1 cl_L encI L,pN (a + 1)])] ?_ (hc := ⟨by unfold okI; (omega),trivial⟩))))
  refine re (w_seq (wdr hnt (xq 8 [.o 8] [] (xk [(33,pN (a + 1))] [] [] [] [(0,.obj [pS 1 cl_L encI L,pN (a + 1)])] (s_subN (a := a + 1) (b := 1) rfl rfl (by omega) (by omega) (by omega) ⟨rfl,rfl,rfl⟩) ?_))))
  obtain ⟨e1,he1⟩ := get_of_lt L (i := a + 1 - 1) (by omega)
  refine xk [(29,pS 1 cl_L encI L),(34,pN (a + 1 - 1))] [] [] [] [(0,.obj [pS 1 cl_L encI L,pN (a + 1)])] (s_iaM (q := a + 1 - 1) (b := e1) (f := encI) tab_28 rfl tab_3 rfl rfl (by omega) rfl he1 ⟨rfl,rfl,rfl⟩) (xq 3 [.o 1,.c (pI (within e1 0 1073741824)),.o 1] [T Try.prog 20 [pI e1,pI 0,pI 1073741824] 0 [] (Ret (pI (within e1 0 1073741824)) 0 [])] ?_ (hc := ⟨(w_burgagebook_Within e1 0 1073741824 (by omega)),trivial⟩))
  refine xk [(37,pI (within e1 0 1073741824)),(38,pI n)] [] [] [] [(0,.obj [pS 1 cl_L encI L,pN (a + 1)])] (s_rem rfl rfl (by omega) ⟨rfl,rfl,rfl⟩) (xq 1 [.o 1] [] (xe [(4,pI (Int.tmod (within e1 0 1073741824) n))] (re (w_le (s := 4) (y := pI (tNext L a n)) rfl (le_of_eq (congrArg pI (show (Int.tmod (within e1 0 1073741824) n) = (tNext L a n) by (unfold tNext; rw [if_neg (by omega),List.getD_eq_getElem?_getD,show L[a]? = some e1 from he1]; rfl)))) ?_))))
  have hz2 : (a + 1) = (tStep L a n) := by ((unfold tStep; rw [if_neg (by omega)]; done))
  refine w_leO (n := 0) (ds := [pS 1 false encI L,pN (tStep L a n)]) rfl ⟨le_loose,le_of_eq (congrArg (fun z : Nat => pN z) hz2),trivial⟩ (w_ret ?_)
  exact fin_names (nx1 := 1) (H1 := [(0,.obj [pS 1 false encI L,pN (tStep L a n)])]) [(0,0)] (ret_tmp rfl ret_nil) rfl (by decide) ⟨⟨_,_,rfl,rfl,rfl,rfl⟩,trivial⟩ (by decide) rfl ⟨rfl,rfl,rfl⟩
 have g1' := g1
 try simp only [sB] at g1'
 refine xen 15 [(15,pB (decide (((L.length : Nat) : Int) ≤ ((a : Nat) : Int)))),(16,undefP)] rfl g1 (xk [(15,pB (decide (((L.length : Nat) : Int) ≤ ((a : Nat) : Int)))),(17,undefP)] [] [] [] [(0,.obj [pS 1 cl_L encI L,pN a])] (s_pick_t rfl g1 rfl ⟨rfl,rfl,rfl⟩) (xe [(0,PV.ptr 0 0),(1,pI n),(18,pB true)] (re (w_if rfl (fun _ => ?_) (fun e => absurd e (by decide))))))
 refine sr (ae hnt rfl rfl (w_le (s := 4) (y := pI (tNext L a n)) rfl (le_of_eq (congrArg pI (show 0 = (tNext L a n) by (unfold tNext; rw [if_pos (by omega)]; done)))) ?_))
 have hz3 : a = (tStep L a n) := by ((unfold tStep; rw [if_pos (by omega)]; done))
 refine w_leO (n := 0) (ds := [pS 1 false encI L,pN (tStep L a n)]) rfl ⟨le_loose,le_of_eq (congrArg (fun z : Nat => pN z) hz3),trivial⟩ (w_ret (q_then_ret ?_))
 exact fin_names (nx1 := 1) (H1 := [(0,.obj [pS 1 false encI L,pN (tStep L a n)])]) [(0,0)] (ret_tmp rfl ret_nil) rfl (by decide) ⟨⟨_,_,rfl,rfl,rfl,rfl⟩,trivial⟩ (by decide) rfl ⟨rfl,rfl,rfl⟩
theorem w_burgagekeep_Tape_Request (L : List Int) (cl_L : Bool) (a : Nat) (hL : L.length ≤ 70000000000000) :
    T Try.prog 13 [PV.ptr 0 0] 1 [(0,.obj [pS 1 cl_L encI L,pN a])] (fun ra rb rc => ∃ q : TRequest,∃ b : Nat,(rightR q = 0 ∧ q.bits.length ≤ 25 ∧ q.vals.length ≤ 25 ∧ 0 ≤ q.count ∧ q.count ≤ 25) ∧ (Ret (PV.f (eRequest q)) 1 [(0,.obj [pS 1 false encI L,pN b])]) ra rb rc) := by
 refine t_fun tabOk (n := 140) (rs := [.cell 2 37]) Try.func13 rfl rfl rfl rfl (nb rfl) ?_
 intro c hnt hk
 refine sr (qo hnt rfl (s_alloc tab_37 ?_))
 refine r_set [(0,PV.ptr 0 0),(2,PV.ptr 1 0)] [(1,.obj [pI 0,pI 0,pI 0,pI 0,pI 0,pNil,pNil,p16 0,p16 0]),(0,.obj [pS 1 cl_L encI L,pN a])] 2 ⟨rfl,rfl,trivial⟩ rfl rfl (re (sr (qo hnt rfl (s_callK 3 (PV.ref 2 0 none) [(2,oB true 1 encI fnsL),(1,.obj [pI 0,pI 0,pI 0,pI 0,pI 0,pNil,pNil,p16 0,p16 0]),(0,.obj [pS 1 cl_L encI L,pN a])] [] (w_burgagekeep_Functions) ?_))))
 refine qm hnt rfl rfl (qo hnt rfl (s_callK 3 (pI (tNext L a 12)) [(0,.obj [pS 1 false encI L,pN (tStep L a 12)]),(2,oB true 1 encI fnsL),(1,.obj [pI 0,pI 0,pI 0,pI 0,pI 0,pNil,pNil,p16 0,p16 0])] [0] (w_burgagekeep_Tape_Next L cl_L a 12 (by omega) (by omega)) ?_))
 have h12 := tNext_lt L a (n := 12) (by decide)
 have hfl : fnsL.length = 12 := rfl
 refine qo hnt rfl (s_iaR0 (q := Int.toNat (tNext L a 12)) (f := encI) (l := fnsL) tab_28 rfl tab_3 rfl rfl (by omega) rfl rfl (by omega) ?_)
 obtain ⟨e1,he1⟩ := get_of_lt fnsL (i := Int.toNat (tNext L a 12)) (by omega)
 refine qo hnt rfl (s_ldM (b := e1) (f := encI) tab_3 rfl rfl rfl rfl he1 rfl ?_)
 refine qo hnt rfl (s_build tab_37 rfl rfl (b_cons rfl tab_3 rfl rfl rfl (nb rfl) (b_nil ?_)))
 refine qo hnt rfl (s_alloc tab_37 ?_)
 refine qo hnt rfl (s_store_ptr tab_37 rfl rfl rfl rfl rfl (nb rfl) ?_)
 refine r_set [(0,PV.ptr 0 0),(2,PV.ptr 1 0),(3,PV.ptr 3 0)] [(3,.obj [pI e1,pI 0,pI 0,pI 0,pI 0,pNil,pNil,p16 0,p16 0]),(0,.obj [pS 1 false encI L,pN (tStep L a 12)]),(2,oB true 1 encI fnsL),(1,.obj [pI 0,pI 0,pI 0,pI 0,pI 0,pNil,pNil,p16 0,p16 0])] 4 ⟨rfl,rfl,rfl,trivial⟩ rfl rfl (re (w_seq ?_))
 have hfn := fns_has he1
 have h70 := tNext_lt L (tStep L a 12) (n := 70) (by decide)
 refine w_R (qm hnt rfl rfl (qo hnt rfl (s_callK 4 (pI (tNext L (tStep L a 12) 70)) [(0,.obj [pS 1 false encI L,pN (tStep L (tStep L a 12) 70)]),(3,.obj [pI e1,pI 0,pI 0,pI 0,pI 0,pNil,pNil,p16 0,p16 0]),(2,oB true 1 encI fnsL),(1,.obj [pI 0,pI 0,pI 0,pI 0,pI 0,pNil,pNil,p16 0,p16 0])] [0] (w_burgagekeep_Tape_Next L false (tStep L a 12) 70 (by omega) (by omega)) ?_)))
 refine qa hnt rfl rfl (r_set [(0,PV.ptr 0 0),(2,PV.ptr 1 0),(3,PV.ptr 3 0),(4,pI (tNext L (tStep L a 12) 70))] [(0,.obj [pS 1 false encI L,pN (tStep L (tStep L a 12) 70)]),(3,.obj [pI e1,pI 0,pI 0,pI 0,pI 0,pNil,pNil,p16 0,p16 0]),(2,oB true 1 encI fnsL),(1,.obj [pI 0,pI 0,pI 0,pI 0,pI 0,pNil,pNil,p16 0,p16 0])] 4 ⟨rfl,rfl,rfl,rfl,trivial⟩ rfl rfl (re (w_seq (sr (xp hnt 2 [.o 2] [] [(17,pI e1)] ?_)))))
 refine re (w_block (xo hnt 18 [[.o 2],[.o 2],[.o 2],[.o 2]] [] ((decide (e1 = 1)) || ((decide (e1 = 2)) || ((decide (e1 = 3)) || (decide (e1 = 4))))) (w_if rfl (fun c4 => ?_) (fun c4 => ?_))))
 ·try simp only [sB,Bool.or_eq_true,Bool.or_eq_false_iff] at c4
  have h26 := tNext_lt L (tStep L (tStep L a 12) 70) (n := 26) (by decide)
  refine w_R (qm hnt rfl rfl (qm hnt rfl rfl (qo hnt rfl (s_callK 4 (pI (tNext L (tStep L (tStep L a 12) 70) 26)) [(0,.obj [pS 1 false encI L,pN (tStep L (tStep L (tStep L a 12) 70) 26)]),(3,.obj [pI e1,pI 0,pI 0,pI 0,pI 0,pNil,pNil,p16 0,p16 0]),(2,oB true 1 encI fnsL),(1,.obj [pI 0,pI 0,pI 0,pI 0,pI 0,pNil,pNil,p16 0,p16 0])] [0] (w_burgagekeep_Tape_Next L false (tStep L (tStep L a 12) 70) 26 (by omega) (by omega)) ?_))))
  refine qo hnt rfl (s_fa_ptr tab_37 rfl rfl tab_3 (by decide) rfl ?_)
  refine qo hnt rfl (s_store_ptr tab_3 rfl rfl rfl rfl rfl (nb rfl) ?_)
  refine qo hnt rfl (s_fa_ptr tab_37 rfl rfl tab_3 (by decide) rfl ?_)
  refine qo hnt rfl (s_store_ptr tab_3 rfl rfl rfl rfl rfl (nb rfl) ?_)
  refine r_set [(2,PV.ptr 1 0),(3,PV.ptr 3 0)] [(3,.obj [pI e1,pI (tNext L (tStep L a 12) 70),pI (tNext L (tStep L (tStep L a 12) 70) 26),pI 0,pI 0,pNil,pNil,p16 0,p16 0]),(0,.obj [pS 1 false encI L,pN (tStep L (tStep L (tStep L a 12) 70) 26)]),(2,oB true 1 encI fnsL),(1,.obj [pI 0,pI 0,pI 0,pI 0,pI 0,pNil,pNil,p16 0,p16 0])] 4 ⟨rfl,rfl,trivial⟩ rfl rfl (r_end (q_block (q_then (sr (qo hnt rfl (s_load_ptr tab_37 rfl rfl rfl (nb rfl) ?_))))))
  refine qo hnt rfl (s_store_ptr tab_37 rfl rfl rfl rfl rfl (nb rfl) ?_)
  refine r_set [(2,PV.ptr 1 0)] [(1,.obj [pI e1,pI (tNext L (tStep L a 12) 70),pI (tNext L (tStep L (tStep L a 12) 70) 26),pI 0,pI 0,pNil,pNil,p16 0,p16 0]),(3,.obj [pI e1,pI (tNext L (tStep L a 12) 70),pI (tNext L (tStep L (tStep L a 12) 70) 26),pI 0,pI 0,pNil,pNil,p16 0,p16 0]),(0,.obj [pS 1 false encI L,pN (tStep L (tStep L (tStep L a 12) 70) 26)]),(2,oB true 1 encI fnsL)] 4 ⟨rfl,trivial⟩ rfl rfl (re (w_leO (n := 1) (ds := [pI e1,pI (tNext L (tStep L a 12) 70),pI (tNext L (tStep L (tStep L a 12) 70) 26),pI 0,pI 0,pS 1 false encBo [],pS 1 false enc16 [],p16 0,p16 0]) rfl ⟨le_refl _,le_refl _,le_refl _,le_refl _,le_refl _,le_nilS 1 false,le_nilS 1 false,le_refl _,le_refl _,trivial⟩ (w_ret ?_)))
  have hex : rightR (⟨e1,tNext L (tStep L a 12) 70,tNext L (tStep L (tStep L a 12) 70) 26,0,0,[],[],0,0⟩ : TRequest) = 0 ∧ (⟨e1,tNext L (tStep L a 12) 70,tNext L (tStep L (tStep L a 12) 70) 26,0,0,[],[],0,0⟩ : TRequest).bits.length ≤ 25 ∧ (⟨e1,tNext L (tStep L a 12) 70,tNext L (tStep L (tStep L a 12) 70) 26,0,0,[],[],0,0⟩ : TRequest).vals.length ≤ 25 ∧ 0 ≤ (⟨e1,tNext L (tStep L a 12) 70,tNext L (tStep L (tStep L a 12) 70) 26,0,0,[],[],0,0⟩ : TRequest).count ∧ (⟨e1,tNext L (tStep L a 12) 70,tNext L (tStep L (tStep L a 12) 70) 26,0,0,[],[],0,0⟩ : TRequest).count ≤ 25 := by
    refine ⟨(shapeR_iff (q := _) hfn).2 ?_,by simp; try omega,by simp; try omega,by simp; try omega,by simp; try omega⟩
    constructor
    case bits => simp only; (rw [if_neg (by omega),if_neg (by omega)]; rfl)
    case vals => simp only; (rw [if_neg (by omega),if_neg (by omega),if_neg (by omega)]; rfl)
    all_goals first|(intro _; rfl)|(intro _; exact ⟨rfl,rfl⟩)|(simp only; omega)
  exact fin_names (nx1 := 1) (H1 := [(0,.obj [pS 1 false encI L,pN (tStep L (tStep L (tStep L a 12) 70) 26)])]) [(0,0)] (ret_cell tab_37 (by decide) rfl rfl (nb rfl) rfl ret_nil) rfl (by decide) ⟨⟨_,_,rfl,rfl,rfl,rfl⟩,trivial⟩ (by decide) rfl ⟨((⟨e1,tNext L (tStep L a 12) 70,tNext L (tStep L (tStep L a 12) 70) 26,0,0,[],[],0,0⟩ : TRequest)),(tStep L (tStep L (tStep L a 12) 70) 26),hex,rfl,rfl,rfl⟩
 try simp only [sB,Bool.or_eq_true,Bool.or_eq_false_iff] at c4
 refine sr (xp hnt 2 [.o 2] [] [(28,pB (decide (e1 = 5)))] (re (w_if rfl (fun c5 => ?_) (fun c5 => ?_))))
 ·try simp only [sB] at c5
  refine w_R (qm hnt rfl rfl (qm hnt rfl rfl (qo hnt rfl (s_callK 4 (pI (tNext L (tStep L (tStep L a 12) 70) 2)) [(0,.obj [pS 1 false encI L,pN (tStep L (tStep L (tStep L a 12) 70) 2)]),(3,.obj [pI e1,pI 0,pI 0,pI 0,pI 0,pNil,pNil,p16 0,p16 0]),(2,oB true 1 encI fnsL),(1,.obj [pI 0,pI 0,pI 0,pI 0,pI 0,pNil,pNil,p16 0,p16 0])] [0] (w_burgagekeep_Tape_Next L false (tStep L (tStep L a 12) 70) 2 (by omega) (by omega)) ?_))))
  refine qo hnt rfl (s_eql rfl rfl ?_)
  refine qo hnt rfl (s_mkM (f := encBo) [decide (tNext L (tStep L (tStep L a 12) 70) 2 = 1)] tab_33 rfl tab_4 ⟨rfl,by decide⟩ (by decide) rfl rfl rfl rfl ?_)
  refine qo hnt rfl (s_fa_ptr tab_37 rfl rfl tab_3 (by decide) rfl ?_)
  refine qo hnt rfl (s_store_ptr tab_3 rfl rfl rfl rfl rfl (nb rfl) ?_)
  refine qo hnt rfl (s_fa_ptr tab_37 rfl rfl tab_33 (by decide) rfl ?_)
  refine qo hnt rfl (s_store_ptr tab_33 rfl rfl rfl rfl rfl (nb rfl) ?_)
  refine r_set [(2,PV.ptr 1 0),(3,PV.ptr 3 0)] [(3,.obj [pI e1,pI (tNext L (tStep L a 12) 70),pI 0,pI 0,pI 0,PV.ref 4 0 none,pNil,p16 0,p16 0]),(4,oB true 1 encBo [decide (tNext L (tStep L (tStep L a 12) 70) 2 = 1)]),(0,.obj [pS 1 false encI L,pN (tStep L (tStep L (tStep L a 12) 70) 2)]),(2,oB true 1 encI fnsL),(1,.obj [pI 0,pI 0,pI 0,pI 0,pI 0,pNil,pNil,p16 0,p16 0])] 5 ⟨rfl,rfl,trivial⟩ rfl rfl (r_end (q_block (q_then (sr (qo hnt rfl (s_load_ptr tab_37 rfl rfl rfl (nb rfl) ?_))))))
  refine qo hnt rfl (s_store_ptr tab_37 rfl rfl rfl rfl rfl (nb rfl) ?_)
  refine r_set [(2,PV.ptr 1 0)] [(1,.obj [pI e1,pI (tNext L (tStep L a 12) 70),pI 0,pI 0,pI 0,PV.ref 4 0 none,pNil,p16 0,p16 0]),(3,.obj [pI e1,pI (tNext L (tStep L a 12) 70),pI 0,pI 0,pI 0,PV.ref 4 0 none,pNil,p16 0,p16 0]),(4,oB true 1 encBo [decide (tNext L (tStep L (tStep L a 12) 70) 2 = 1)]),(0,.obj [pS 1 false encI L,pN (tStep L (tStep L (tStep L a 12) 70) 2)]),(2,oB true 1 encI fnsL)] 5 ⟨rfl,trivial⟩ rfl rfl (re (w_frzC (n := 1) (j := 5) rfl rfl rfl rfl (w_leO (n := 1) (ds := [pI e1,pI (tNext L (tStep L a 12) 70),pI 0,pI 0,pI 0,pS 1 false encBo [decide (tNext L (tStep L (tStep L a 12) 70) 2 = 1)],pS 1 false enc16 [],p16 0,p16 0]) rfl ⟨le_refl _,le_refl _,le_refl _,le_refl _,le_refl _,le_refl _,le_nilS 1 false,le_refl _,le_refl _,trivial⟩ (w_ret ?_))))
  have hex : rightR (⟨e1,tNext L (tStep L a 12) 70,0,0,0,[decide (tNext L (tStep L (tStep L a 12) 70) 2 = 1)],[],0,0⟩ : TRequest) = 0 ∧ (⟨e1,tNext L (tStep L a 12) 70,0,0,0,[decide (tNext L (tStep L (tStep L a 12) 70) 2 = 1)],[],0,0⟩ : TRequest).bits.length ≤ 25 ∧ (⟨e1,tNext L (tStep L a 12) 70,0,0,0,[decide (tNext L (tStep L (tStep L a 12) 70) 2 = 1)],[],0,0⟩ : TRequest).vals.length ≤ 25 ∧ 0 ≤ (⟨e1,tNext L (tStep L a 12) 70,0,0,0,[decide (tNext L (tStep L (tStep L a 12) 70) 2 = 1)],[],0,0⟩ : TRequest).count ∧ (⟨e1,tNext L (tStep L a 12) 70,0,0,0,[decide (tNext L (tStep L (tStep L a 12) 70) 2 = 1)],[],0,0⟩ : TRequest).count ≤ 25 := by
    refine ⟨(shapeR_iff (q := _) hfn).2 ?_,by simp; try omega,by simp; try omega,by simp; try omega,by simp; try omega⟩
    constructor
    case bits => simp only; (rw [if_pos (by omega)]; rfl)
    case vals => simp only; (rw [if_neg (by omega),if_neg (by omega),if_neg (by omega)]; rfl)
    all_goals first|(intro _; rfl)|(intro _; exact ⟨rfl,rfl⟩)|(simp only; omega)
  exact fin_names (nx1 := 1) (H1 := [(0,.obj [pS 1 false encI L,pN (tStep L (tStep L (tStep L a 12) 70) 2)])]) [(0,0)] (ret_cell tab_37 (by decide) rfl rfl (nb rfl) rfl ret_nil) rfl (by decide) ⟨⟨_,_,rfl,rfl,rfl,rfl⟩,trivial⟩ (by decide) rfl ⟨((⟨e1,tNext L (tStep L a 12) 70,0,0,0,[decide (tNext L (tStep L (tStep L a 12) 70) 2 = 1)],[],0,0⟩ : TRequest)),(tStep L (tStep L (tStep L a 12) 70) 2),hex,rfl,rfl,rfl⟩
 try simp only [sB] at c5
 refine sr (xp hnt 2 [.o 2] [] [(37,pB (decide (e1 = 6)))] (re (w_if rfl (fun c6 => ?_) (fun c6 => ?_))))
 ·try simp only [sB] at c6
  refine w_R (qm hnt rfl rfl (qm hnt rfl rfl (qo hnt rfl (s_callK 4 (pI (tNext L (tStep L (tStep L a 12) 70) 65536)) [(0,.obj [pS 1 false encI L,pN (tStep L (tStep L (tStep L a 12) 70) 65536)]),(3,.obj [pI e1,pI 0,pI 0,pI 0,pI 0,pNil,pNil,p16 0,p16 0]),(2,oB true 1 encI fnsL),(1,.obj [pI 0,pI 0,pI 0,pI 0,pI 0,pNil,pNil,p16 0,p16 0])] [0] (w_burgagekeep_Tape_Next L false (tStep L (tStep L a 12) 70) 65536 (by omega) (by omega)) ?_))))
  refine qo hnt rfl (s_cv16 tab_3 tab_35 rfl rfl rfl ?_)
  refine qo hnt rfl (s_mkM (f := enc16) [u16I (tNext L (tStep L (tStep L a 12) 70) 65536)] tab_34 rfl tab_35 ⟨rfl,by decide⟩ (by decide) rfl rfl rfl rfl ?_)
  refine qo hnt rfl (s_fa_ptr tab_37 rfl rfl tab_3 (by decide) rfl ?_)
  refine qo hnt rfl (s_store_ptr tab_3 rfl rfl rfl rfl rfl (nb rfl) ?_)
  refine qo hnt rfl (s_fa_ptr tab_37 rfl rfl tab_34 (by decide) rfl ?_)
  refine qo hnt rfl (s_store_ptr tab_34 rfl rfl rfl rfl rfl (nb rfl) ?_)
  refine r_set [(2,PV.ptr 1 0),(3,PV.ptr 3 0)] [(3,.obj [pI e1,pI (tNext L (tStep L a 12) 70),pI 0,pI 0,pI 0,pNil,PV.ref 4 0 none,p16 0,p16 0]),(4,oB true 1 enc16 [u16I (tNext L (tStep L (tStep L a 12) 70) 65536)]),(0,.obj [pS 1 false encI L,pN (tStep L (tStep L (tStep L a 12) 70) 65536)]),(2,oB true 1 encI fnsL),(1,.obj [pI 0,pI 0,pI 0,pI 0,pI 0,pNil,pNil,p16 0,p16 0])] 5 ⟨rfl,rfl,trivial⟩ rfl rfl (r_end (q_block (q_then (sr (qo hnt rfl (s_load_ptr tab_37 rfl rfl rfl (nb rfl) ?_))))))
  refine qo hnt rfl (s_store_ptr tab_37 rfl rfl rfl rfl rfl (nb rfl) ?_)
  refine r_set [(2,PV.ptr 1 0)] [(1,.obj [pI e1,pI (tNext L (tStep L a 12) 70),pI 0,pI 0,pI 0,pNil,PV.ref 4 0 none,p16 0,p16 0]),(3,.obj [pI e1,pI (tNext L (tStep L a 12) 70),pI 0,pI 0,pI 0,pNil,PV.ref 4 0 none,p16 0,p16 0]),(4,oB true 1 enc16 [u16I (tNext L (tStep L (tStep L a 12) 70) 65536)]),(0,.obj [pS 1 false encI L,pN (tStep L (tStep L (tStep L a 12) 70) 65536)]),(2,oB true 1 encI fnsL)] 5 ⟨rfl,trivial⟩ rfl rfl (re (w_frzC (n := 1) (j := 6) rfl rfl rfl rfl (w_leO (n := 1) (ds := [pI e1,pI (tNext L (tStep L a 12) 70),pI 0,pI 0,pI 0,pS 1 false encBo [],pS 1 false enc16 [u16I (tNext L (tStep L (tStep L a 12) 70) 65536)],p16 0,p16 0]) rfl ⟨le_refl _,le_refl _,le_refl _,le_refl _,le_refl _,le_nilS 1 false,le_refl _,le_refl _,le_refl _,trivial⟩ (w_ret ?_))))
  have hex : rightR (⟨e1,tNext L (tStep L a 12) 70,0,0,0,[],[u16I (tNext L (tStep L (tStep L a 12) 70) 65536)],0,0⟩ : TRequest) = 0 ∧ (⟨e1,tNext L (tStep L a 12) 70,0,0,0,[],[u16I (tNext L (tStep L (tStep L a 12) 70) 65536)],0,0⟩ : TRequest).bits.length ≤ 25 ∧ (⟨e1,tNext L (tStep L a 12) 70,0,0,0,[],[u16I (tNext L (tStep L (tStep L a 12) 70) 65536)],0,0⟩ : TRequest).vals.length ≤ 25 ∧ 0 ≤ (⟨e1,tNext L (tStep L a 12) 70,0,0,0,[],[u16I (tNext L (tStep L (tStep L a 12) 70) 65536)],0,0⟩ : TRequest).count ∧ (⟨e1,tNext L (tStep L a 12) 70,0,0,0,[],[u16I (tNext L (tStep L (tStep L a 12) 70) 65536)],0,0⟩ : TRequest).count ≤ 25 := by
    refine ⟨(shapeR_iff (q := _) hfn).2 ?_,by simp; try omega,by simp; try omega,by simp; try omega,by simp; try omega⟩
    constructor
    case bits => simp only; (rw [if_neg (by omega),if_neg (by omega)]; rfl)
    case vals => simp only; (rw [if_pos (by omega)]; rfl)
    all_goals first|(intro _; rfl)|(intro _; exact ⟨rfl,rfl⟩)|(simp only; omega)
  exact fin_names (nx1 := 1) (H1 := [(0,.obj [pS 1 false encI L,pN (tStep L (tStep L (tStep L a 12) 70) 65536)])]) [(0,0)] (ret_cell tab_37 (by decide) rfl rfl (nb rfl) rfl ret_nil) rfl (by decide) ⟨⟨_,_,rfl,rfl,rfl,rfl⟩,trivial⟩ (by decide) rfl ⟨((⟨e1,tNext L (tStep L a 12) 70,0,0,0,[],[u16I (tNext L (tStep L (tStep L a 12) 70) 65536)],0,0⟩ : TRequest)),(tStep L (tStep L (tStep L a 12) 70) 65536),hex,rfl,rfl,rfl⟩
 try simp only [sB] at c6
 refine sr (xp hnt 2 [.o 2] [] [(46,pB (decide (e1 = 8)))] (re (w_if rfl (fun c7 => ?_) (fun c7 => ?_))))
 ·try simp only [sB] at c7
  have h8 := tNext_lt L (tStep L (tStep L a 12) 70) (n := 8) (by decide)
  have h4 := tNext_lt L (tStep L (tStep L (tStep L a 12) 70) 8) (n := 4) (by decide)
  refine wdr hnt (xk [] [] [] [(4,oB true 1 encI ([0,10,11,12,13,14,2,300] : List Int))] [(4,oB true 1 encI ([0,10,11,12,13,14,2,300] : List Int)),(0,.obj [pS 1 false encI L,pN (tStep L (tStep L a 12) 70)]),(3,.obj [pI e1,pI 0,pI 0,pI 0,pI 0,pNil,pNil,p16 0,p16 0]),(2,oB true 1 encI fnsL),(1,.obj [pI 0,pI 0,pI 0,pI 0,pI 0,pNil,pNil,p16 0,p16 0])] (s_mkM (f := encI) ([0,10,11,12,13,14,2,300] : List Int) tab_28 rfl tab_3 ⟨rfl,by decide⟩ (by decide) rfl rfl rfl rfl ⟨rfl,rfl,rfl⟩) (xq 1 [.o 1] [] (xk [(49,PV.ptr 0 0)] [] [(0,.obj [pS 1 false encI L,pN (tStep L (tStep L a 12) 70)])] [(0,.obj [pS 1 false encI L,pN (tStep L (tStep L (tStep L a 12) 70) 8)])] [(0,.obj [pS 1 false encI L,pN (tStep L (tStep L (tStep L a 12) 70) 8)]),(4,oB true 1 encI ([0,10,11,12,13,14,2,300] : List Int)),(3,.obj [pI e1,pI 0,pI 0,pI 0,pI 0,pNil,pNil,p16 0,p16 0]),(2,oB true 1 encI fnsL),(1,.obj [pI 0,pI 0,pI 0,pI 0,pI 0,pNil,pNil,p16 0,p16 0])] (s_callK 5 (pI (tNext L (tStep L (tStep L a 12) 70) 8)) _ [0] (w_burgagekeep_Tape_Next L false (tStep L (tStep L a 12) 70) 8 (by omega) (by omega)) ⟨rfl,rfl,rfl⟩) (xk [(48,PV.ref 4 0 none),(50,pI (tNext L (tStep L (tStep L a 12) 70) 8))] [(4,oB true 1 encI ([0,10,11,12,13,14,2,300] : List Int))] [] [(4,oB true 1 encI ([0,10,11,12,13,14,2,300] : List Int))] [(0,.obj [pS 1 false encI L,pN (tStep L (tStep L (tStep L a 12) 70) 8)]),(4,oB true 1 encI ([0,10,11,12,13,14,2,300] : List Int)),(3,.obj [pI e1,pI 0,pI 0,pI 0,pI 0,pNil,pNil,p16 0,p16 0]),(2,oB true 1 encI fnsL),(1,.obj [pI 0,pI 0,pI 0,pI 0,pI 0,pNil,pNil,p16 0,p16 0])] (s_iaR0 (q := Int.toNat (tNext L (tStep L (tStep L a 12) 70) 8)) (f := encI) (l := ([0,10,11,12,13,14,2,300] : List Int)) tab_28 rfl tab_3 rfl rfl (by omega) rfl rfl (by simp; omega) ⟨rfl,rfl,rfl⟩) ?_ (hs := ⟨rfl,trivial⟩)))))
  obtain ⟨e2,he2⟩ := get_of_lt ([0,10,11,12,13,14,2,300] : List Int) (i := Int.toNat (tNext L (tStep L (tStep L a 12) 70) 8)) (by simp; omega)
  refine xk [(51,PV.ep 4 (Int.toNat (tNext L (tStep L (tStep L a 12) 70) 8)) 0)] [(4,oB true 1 encI ([0,10,11,12,13,14,2,300] : List Int))] [] [(4,oB true 1 encI ([0,10,11,12,13,14,2,300] : List Int))] [(0,.obj [pS 1 false encI L,pN (tStep L (tStep L (tStep L a 12) 70) 8)]),(4,oB true 1 encI ([0,10,11,12,13,14,2,300] : List Int)),(3,.obj [pI e1,pI 0,pI 0,pI 0,pI 0,pNil,pNil,p16 0,p16 0]),(2,oB true 1 encI fnsL),(1,.obj [pI 0,pI 0,pI 0,pI 0,pI 0,pNil,pNil,p16 0,p16 0])] (s_ldM (b := e2) (f := encI) tab_3 rfl rfl rfl rfl he2 rfl ⟨rfl,rfl,rfl⟩) ?_ (hs := ⟨rfl,trivial⟩)
  have hm2 := List.mem_of_getElem? he2
  simp only [List.mem_cons,List.not_mem_nil,or_false] at hm2
  refine xk [] [] [] [(5,oB true 1 enc16 ([0,0,0,777] : List UInt16))] [(5,oB true 1 enc16 ([0,0,0,777] : List UInt16)),(0,.obj [pS 1 false encI L,pN (tStep L (tStep L (tStep L a 12) 70) 8)]),(4,oB true 1 encI ([0,10,11,12,13,14,2,300] : List Int)),(3,.obj [pI e1,pI 0,pI 0,pI 0,pI 0,pNil,pNil,p16 0,p16 0]),(2,oB true 1 encI fnsL),(1,.obj [pI 0,pI 0,pI 0,pI 0,pI 0,pNil,pNil,p16 0,p16 0])] (s_mkM (f := enc16) ([0,0,0,777] : List UInt16) tab_34 rfl tab_35 ⟨rfl,by decide⟩ (by decide) rfl rfl rfl rfl ⟨rfl,rfl,rfl⟩) (xq 1 [.o 1] [] (xk [(54,PV.ptr 0 0)] [] [(0,.obj [pS 1 false encI L,pN (tStep L (tStep L (tStep L a 12) 70) 8)])] [(0,.obj [pS 1 false encI L,pN (tStep L (tStep L (tStep L (tStep L a 12) 70) 8) 4)])] [(0,.obj [pS 1 false encI L,pN (tStep L (tStep L (tStep L (tStep L a 12) 70) 8) 4)]),(5,oB true 1 enc16 ([0,0,0,777] : List UInt16)),(4,oB true 1 encI ([0,10,11,12,13,14,2,300] : List Int)),(3,.obj [pI e1,pI 0,pI 0,pI 0,pI 0,pNil,pNil,p16 0,p16 0]),(2,oB true 1 encI fnsL),(1,.obj [pI 0,pI 0,pI 0,pI 0,pI 0,pNil,pNil,p16 0,p16 0])] (s_callK 6 (pI (tNext L (tStep L (tStep L (tStep L a 12) 70) 8) 4)) _ [0] (w_burgagekeep_Tape_Next L false (tStep L (tStep L (tStep L a 12) 70) 8) 4 (by omega) (by omega)) ⟨rfl,rfl,rfl⟩) (xk [(53,PV.ref 5 0 none),(55,pI (tNext L (tStep L (tStep L (tStep L a 12) 70) 8) 4))] [(5,oB true 1 enc16 ([0,0,0,777] : List UInt16))] [] [(5,oB true 1 enc16 ([0,0,0,777] : List UInt16))] [(0,.obj [pS 1 false encI L,pN (tStep L (tStep L (tStep L (tStep L a 12) 70) 8) 4)]),(5,oB true 1 enc16 ([0,0,0,777] : List UInt16)),(4,oB true 1 encI ([0,10,11,12,13,14,2,300] : List Int)),(3,.obj [pI e1,pI 0,pI 0,pI 0,pI 0,pNil,pNil,p16 0,p16 0]),(2,oB true 1 encI fnsL),(1,.obj [pI 0,pI 0,pI 0,pI 0,pI 0,pNil,pNil,p16 0,p16 0])] (s_iaR0 (q := Int.toNat (tNext L (tStep L (tStep L (tStep L a 12) 70) 8) 4)) (f := enc16) (l := ([0,0,0,777] : List UInt16)) tab_34 rfl tab_35 rfl rfl (by omega) rfl rfl (by simp; omega) ⟨rfl,rfl,rfl⟩) ?_ (hs := ⟨rfl,trivial⟩))))
  obtain ⟨e3,he3⟩ := get_of_lt ([0,0,0,777] : List UInt16) (i := Int.toNat (tNext L (tStep L (tStep L (tStep L a 12) 70) 8) 4)) (by simp; omega)
  refine xk [(56,PV.ep 5 (Int.toNat (tNext L (tStep L (tStep L (tStep L a 12) 70) 8) 4)) 0)] [(5,oB true 1 enc16 ([0,0,0,777] : List UInt16))] [] [(5,oB true 1 enc16 ([0,0,0,777] : List UInt16))] [(0,.obj [pS 1 false encI L,pN (tStep L (tStep L (tStep L (tStep L a 12) 70) 8) 4)]),(5,oB true 1 enc16 ([0,0,0,777] : List UInt16)),(4,oB true 1 encI ([0,10,11,12,13,14,2,300] : List Int)),(3,.obj [pI e1,pI 0,pI 0,pI 0,pI 0,pNil,pNil,p16 0,p16 0]),(2,oB true 1 encI fnsL),(1,.obj [pI 0,pI 0,pI 0,pI 0,pI 0,pNil,pNil,p16 0,p16 0])] (s_ldM (b := e3) (f := enc16) tab_35 rfl rfl rfl rfl he3 rfl ⟨rfl,rfl,rfl⟩) ?_ (hs := ⟨rfl,trivial⟩)
  refine xk [(57,p16 e3)] [] [] [(6,oB true 1 enc16 [e3])] [(6,oB true 1 enc16 [e3]),(0,.obj [pS 1 false encI L,pN (tStep L (tStep L (tStep L (tStep L a 12) 70) 8) 4)]),(5,oB true 1 enc16 ([0,0,0,777] : List UInt16)),(4,oB true 1 encI ([0,10,11,12,13,14,2,300] : List Int)),(3,.obj [pI e1,pI 0,pI 0,pI 0,pI 0,pNil,pNil,p16 0,p16 0]),(2,oB true 1 encI fnsL),(1,.obj [pI 0,pI 0,pI 0,pI 0,pI 0,pNil,pNil,p16 0,p16 0])] (s_mkM (f := enc16) [e3] tab_34 rfl tab_35 ⟨rfl,by decide⟩ (by decide) rfl rfl rfl rfl ⟨rfl,rfl,rfl⟩) (xd 4 [.o 4] [] 7 [(3,.obj [pI e1,pI 0,pI 0,pI 0,pI e2,pNil,PV.ref 6 0 none,p16 0,p16 0]),(6,oB true 1 enc16 [e3]),(0,.obj [pS 1 false encI L,pN (tStep L (tStep L (tStep L (tStep L a 12) 70) 8) 4)]),(5,oB true 1 enc16 ([0,0,0,777] : List UInt16)),(4,oB true 1 encI ([0,10,11,12,13,14,2,300] : List Int)),(2,oB true 1 encI fnsL),(1,.obj [pI 0,pI 0,pI 0,pI 0,pI 0,pNil,pNil,p16 0,p16 0])] (xe [(2,PV.ptr 1 0),(3,PV.ptr 3 0)] (r_end (q_block (q_then ?_)))))
  refine sr (qo hnt rfl (s_load_ptr tab_37 rfl rfl rfl (nb rfl) ?_))
  refine qo hnt rfl (s_store_ptr tab_37 rfl rfl rfl rfl rfl (nb rfl) ?_)
  refine r_set [(2,PV.ptr 1 0)] [(1,.obj [pI e1,pI 0,pI 0,pI 0,pI e2,pNil,PV.ref 6 0 none,p16 0,p16 0]),(3,.obj [pI e1,pI 0,pI 0,pI 0,pI e2,pNil,PV.ref 6 0 none,p16 0,p16 0]),(6,oB true 1 enc16 [e3]),(0,.obj [pS 1 false encI L,pN (tStep L (tStep L (tStep L (tStep L a 12) 70) 8) 4)]),(5,oB true 1 enc16 ([0,0,0,777] : List UInt16)),(4,oB true 1 encI ([0,10,11,12,13,14,2,300] : List Int)),(2,oB true 1 encI fnsL)] 7 ⟨rfl,trivial⟩ rfl rfl (re (w_frzC (n := 1) (j := 6) rfl rfl rfl rfl (w_leO (n := 1) (ds := [pI e1,pI 0,pI 0,pI 0,pI e2,pS 1 false encBo [],pS 1 false enc16 [e3],p16 0,p16 0]) rfl ⟨le_refl _,le_refl _,le_refl _,le_refl _,le_refl _,le_nilS 1 false,le_refl _,le_refl _,le_refl _,trivial⟩ (w_ret ?_))))
  have hex : rightR (⟨e1,0,0,0,e2,[],[e3],0,0⟩ : TRequest) = 0 ∧ (⟨e1,0,0,0,e2,[],[e3],0,0⟩ : TRequest).bits.length ≤ 25 ∧ (⟨e1,0,0,0,e2,[],[e3],0,0⟩ : TRequest).vals.length ≤ 25 ∧ 0 ≤ (⟨e1,0,0,0,e2,[],[e3],0,0⟩ : TRequest).count ∧ (⟨e1,0,0,0,e2,[],[e3],0,0⟩ : TRequest).count ≤ 25 := by
    refine ⟨(shapeR_iff (q := _) hfn).2 ?_,by simp; try omega,by simp; try omega,by simp; try omega,by simp; try omega⟩
    constructor
    case bits => simp only; (rw [if_neg (by omega),if_neg (by omega)]; rfl)
    case vals => simp only; (rw [if_pos (by omega)]; rfl)
    all_goals first|(intro _; rfl)|(intro _; exact ⟨rfl,rfl⟩)|(simp only; omega)
  exact fin_names (nx1 := 1) (H1 := [(0,.obj [pS 1 false encI L,pN (tStep L (tStep L (tStep L (tStep L a 12) 70) 8) 4)])]) [(0,0)] (ret_cell tab_37 (by decide) rfl rfl (nb rfl) rfl ret_nil) rfl (by decide) ⟨⟨_,_,rfl,rfl,rfl,rfl⟩,trivial⟩ (by decide) rfl ⟨((⟨e1,0,0,0,e2,[],[e3],0,0⟩ : TRequest)),(tStep L (tStep L (tStep L (tStep L a 12) 70) 8) 4),hex,rfl,rfl,rfl⟩
 try simp only [sB] at c7
 refine sr (xp hnt 2 [.o 2] [] [(61,pB (decide (e1 = 15)))] (re (w_if rfl (fun c8 => ?_) (fun c8 => ?_))))
 ·try simp only [sB] at c8
  refine w_seq ?_
  have h26 := tNext_lt L (tStep L (tStep L a 12) 70) (n := 26) (by decide)
  refine w_R (qm hnt rfl rfl (qm hnt rfl rfl (qo hnt rfl (s_callK 4 (pI (tNext L (tStep L (tStep L a 12) 70) 26)) [(0,.obj [pS 1 false encI L,pN (tStep L (tStep L (tStep L a 12) 70) 26)]),(3,.obj [pI e1,pI 0,pI 0,pI 0,pI 0,pNil,pNil,p16 0,p16 0]),(2,oB true 1 encI fnsL),(1,.obj [pI 0,pI 0,pI 0,pI 0,pI 0,pNil,pNil,p16 0,p16 0])] [0] (w_burgagekeep_Tape_Next L false (tStep L (tStep L a 12) 70) 26 (by omega) (by omega)) ?_))))
  refine qo hnt rfl (s_fa_ptr tab_37 rfl rfl tab_3 (by decide) rfl ?_)
  refine qo hnt rfl (s_store_ptr tab_3 rfl rfl rfl rfl rfl (nb rfl) ?_)
  refine qo hnt rfl (s_fa_ptr tab_37 rfl rfl tab_3 (by decide) rfl ?_)
  refine qo hnt rfl (s_store_ptr tab_3 rfl rfl rfl rfl rfl (nb rfl) ?_)
  refine r_set [(0,PV.ptr 0 0),(2,PV.ptr 1 0),(3,PV.ptr 3 0)] [(3,.obj [pI e1,pI (tNext L (tStep L a 12) 70),pI (tNext L (tStep L (tStep L a 12) 70) 26),pI 0,pI 0,pNil,pNil,p16 0,p16 0]),(0,.obj [pS 1 false encI L,pN (tStep L (tStep L (tStep L a 12) 70) 26)]),(2,oB true 1 encI fnsL),(1,.obj [pI 0,pI 0,pI 0,pI 0,pI 0,pNil,pNil,p16 0,p16 0])] 4 ⟨rfl,rfl,rfl,trivial⟩ rfl rfl (re (sr (ae hnt rfl rfl (w_block (w_adoptC (n := 3) (j := 5) (sz := 1) rfl rfl rfl (loop3 (fun (ap : Nat) (os : List Bool) (i : Nat) => (i : Int) ≤ tNext L (tStep L (tStep L a 12) 70) 26 ∧ os.length = i) (fun (ap : Nat) (os : List Bool) (i : Nat) => [(0,PV.ptr 0 0),(2,PV.ptr 3 0),(3,PV.ptr 1 0),(5,pN i)]) 4 (fun (ap : Nat) (os : List Bool) (i : Nat) => [(0,.obj [pS 1 false encI L,pN ap]),(1,.obj [pI e1,pI (tNext L (tStep L a 12) 70),pI (tNext L (tStep L (tStep L a 12) 70) 26),pI 0,pI 0,PV.ref 2 0 none,pNil,p16 0,p16 0]),(2,oB true 1 encBo os),(3,.obj [pI 0,pI 0,pI 0,pI 0,pI 0,pNil,pNil,p16 0,p16 0])]) (fun (ap : Nat) (os : List Bool) (i : Nat) => (tNext L (tStep L (tStep L a 12) 70) 26).toNat - i) (tStep L (tStep L (tStep L a 12) 70) 26) (([] : List Bool)) (0) ?_ ⟨[(0,0),(1,3),(2,4),(3,1)],by rw [hk]; decide,⟨⟨_,rfl,rfl,rfl⟩,⟨_,rfl,rfl,rfl⟩,⟨_,rfl,rfl,rfl⟩,⟨_,rfl,rfl,rfl⟩,trivial⟩,⟨⟨_,_,rfl,rfl,rfl,rfl⟩,⟨_,_,rfl,rfl,rfl,rfl⟩,⟨_,_,rfl,rfl,rfl,rfl⟩,⟨_,_,rfl,rfl,rfl,rfl⟩,trivial⟩,by rw [hk]; decide⟩ ?_))))))
  · exact ⟨by omega,rfl⟩
  ·intro ap os i hI
   obtain ⟨hi,hol⟩ := hI
   refine w_seq (sr (xp hnt 4 [.o 4] [] [(71,pB (decide (((i : Nat) : Int) < tNext L (tStep L (tStep L a 12) 70) 26)))] (re (w_if rfl (fun c9 => ?_) (fun c9 => ?_)))))
   ·try simp only [sB] at c9
    refine w_skip (q_then (w_seq (w_block (wdr hnt (xq 3 [.o 3] [] ?_)))))
    refine xk [(76,PV.ptr 0 0)] [] [(0,.obj [pS 1 false encI L,pN ap])] [(0,.obj [pS 1 false encI L,pN (tStep L ap 2)])] [(0,.obj [pS 1 false encI L,pN (tStep L ap 2)]),(1,.obj [pI e1,pI (tNext L (tStep L a 12) 70),pI (tNext L (tStep L (tStep L a 12) 70) 26),pI 0,pI 0,PV.ref 2 0 none,pNil,p16 0,p16 0]),(2,oB true 1 encBo os),(3,.obj [pI 0,pI 0,pI 0,pI 0,pI 0,pNil,pNil,p16 0,p16 0])] (s_callK 4 (pI (tNext L ap 2)) _ [0] (w_burgagekeep_Tape_Next L false ap 2 (by omega) (by omega)) ⟨rfl,rfl,rfl⟩) (xq 1 [.o 1] [] (xk [(78,pB (decide (tNext L ap 2 = 1)))] [] [] [(4,oB true 1 encBo [decide (tNext L ap 2 = 1)])] [(4,oB true 1 encBo [decide (tNext L ap 2 = 1)]),(0,.obj [pS 1 false encI L,pN (tStep L ap 2)]),(1,.obj [pI e1,pI (tNext L (tStep L a 12) 70),pI (tNext L (tStep L (tStep L a 12) 70) 26),pI 0,pI 0,PV.ref 2 0 none,pNil,p16 0,p16 0]),(2,oB true 1 encBo os),(3,.obj [pI 0,pI 0,pI 0,pI 0,pI 0,pNil,pNil,p16 0,p16 0])] (s_mkM (f := encBo) [decide (tNext L ap 2 = 1)] tab_33 rfl tab_4 ⟨rfl,by decide⟩ (by decide) rfl rfl rfl rfl ⟨rfl,rfl,rfl⟩) (xk [(75,PV.ref 2 0 none),(79,PV.ref 4 0 none)] [(4,oB true 1 encBo [decide (tNext L ap 2 = 1)])] [(2,oB true 1 encBo os)] [(5,oB true 1 encBo (os ++ [decide (tNext L ap 2 = 1)])),(4,oB true 1 encBo [decide (tNext L ap 2 = 1)])] [(5,oB true 1 encBo (os ++ [decide (tNext L ap 2 = 1)])),(4,oB true 1 encBo [decide (tNext L ap 2 = 1)]),(0,.obj [pS 1 false encI L,pN (tStep L ap 2)]),(1,.obj [pI e1,pI (tNext L (tStep L a 12) 70),pI (tNext L (tStep L (tStep L a 12) 70) 26),pI 0,pI 0,PV.ref 2 0 none,pNil,p16 0,p16 0]),(3,.obj [pI 0,pI 0,pI 0,pI 0,pI 0,pNil,pNil,p16 0,p16 0])] (s_appR0 (f := encBo) (l := os) (xs := [decide (tNext L ap 2 = 1)]) tab_33 rfl tab_4 ⟨rfl,by decide,by decide⟩ (srcM tab_33 rfl (hM_ref0 (f := encBo) rfl rfl)) rfl rfl (by (simp; omega)) ⟨rfl,rfl,rfl⟩) ?_ (hs := ⟨rfl,trivial⟩))))
    refine xd 2 [.o 2] [] 6 [(1,.obj [pI e1,pI (tNext L (tStep L a 12) 70),pI (tNext L (tStep L (tStep L a 12) 70) 26),pI 0,pI 0,PV.ref 5 0 none,pNil,p16 0,p16 0]),(5,oB true 1 encBo (os ++ [decide (tNext L ap 2 = 1)])),(4,oB true 1 encBo [decide (tNext L ap 2 = 1)]),(0,.obj [pS 1 false encI L,pN (tStep L ap 2)]),(3,.obj [pI 0,pI 0,pI 0,pI 0,pI 0,pNil,pNil,p16 0,p16 0])] (xe [(0,PV.ptr 0 0),(2,PV.ptr 3 0),(3,PV.ptr 1 0),(5,pN i)] (r_end (q_block (q_then (w_R ?_)))))
    refine qm hnt rfl rfl (qo hnt rfl (s_addN (a := i) (b := 1) rfl rfl (by omega) (by omega) (by omega) ?_))
    refine ae hnt rfl rfl (⟨(tStep L ap 2),(os ++ [decide (tNext L ap 2 = 1)]),(i + 1), ?_, ?_,⟨[(0,0),(1,1),(2,5),(3,3)],by rw [hk]; decide,⟨⟨_,rfl,rfl,rfl⟩,⟨_,rfl,rfl,rfl⟩,⟨_,rfl,rfl,rfl⟩,⟨_,rfl,rfl,rfl⟩,trivial⟩,⟨⟨_,_,rfl,rfl,rfl,rfl⟩,⟨_,_,rfl,rfl,rfl,rfl⟩,⟨_,_,rfl,rfl,rfl,rfl⟩,⟨_,_,rfl,rfl,rfl,rfl⟩,trivial⟩,by rw [hk]; decide⟩⟩)
    ·exact ⟨by omega,by simp [hol]⟩
    · omega
   try simp only [sB] at c9
   refine w_exit (q_then_exit (q_then_exit (q_block_exit (q_block (q_then (sr (qo hnt rfl (s_load_ptr tab_37 rfl rfl rfl (nb rfl) ?_))))))))
   refine qo hnt rfl (s_store_ptr tab_37 rfl rfl rfl rfl rfl (nb rfl) ?_)
   refine r_set [(2,PV.ptr 3 0)] [(3,.obj [pI e1,pI (tNext L (tStep L a 12) 70),pI (tNext L (tStep L (tStep L a 12) 70) 26),pI 0,pI 0,PV.ref 2 0 none,pNil,p16 0,p16 0]),(0,.obj [pS 1 false encI L,pN ap]),(1,.obj [pI e1,pI (tNext L (tStep L a 12) 70),pI (tNext L (tStep L (tStep L a 12) 70) 26),pI 0,pI 0,PV.ref 2 0 none,pNil,p16 0,p16 0]),(2,oB true 1 encBo os)] 4 ⟨rfl,trivial⟩ rfl rfl (re (w_frzC (n := 3) (j := 5) rfl rfl rfl rfl (w_leO (n := 3) (ds := [pI e1,pI (tNext L (tStep L a 12) 70),pI (tNext L (tStep L (tStep L a 12) 70) 26),pI 0,pI 0,pS 1 false encBo os,pS 1 false enc16 [],p16 0,p16 0]) rfl ⟨le_refl _,le_refl _,le_refl _,le_refl _,le_refl _,le_refl _,le_nilS 1 false,le_refl _,le_refl _,trivial⟩ (w_ret ?_))))
   have hex : rightR (⟨e1,tNext L (tStep L a 12) 70,tNext L (tStep L (tStep L a 12) 70) 26,0,0,os,[],0,0⟩ : TRequest) = 0 ∧ (⟨e1,tNext L (tStep L a 12) 70,tNext L (tStep L (tStep L a 12) 70) 26,0,0,os,[],0,0⟩ : TRequest).bits.length ≤ 25 ∧ (⟨e1,tNext L (tStep L a 12) 70,tNext L (tStep L (tStep L a 12) 70) 26,0,0,os,[],0,0⟩ : TRequest).vals.length ≤ 25 ∧ 0 ≤ (⟨e1,tNext L (tStep L a 12) 70,tNext L (tStep L (tStep L a 12) 70) 26,0,0,os,[],0,0⟩ : TRequest).count ∧ (⟨e1,tNext L (tStep L a 12) 70,tNext L (tStep L (tStep L a 12) 70) 26,0,0,os,[],0,0⟩ : TRequest).count ≤ 25 := by
     refine ⟨(shapeR_iff (q := _) hfn).2 ?_,by simp; try omega,by simp; try omega,by simp; try omega,by simp; try omega⟩
     constructor
     case bits => simp only; (rw [if_neg (by omega),if_pos (by omega)]; exact ⟨by omega,by omega⟩)
     case vals => simp only; (rw [if_neg (by omega),if_neg (by omega),if_neg (by omega)]; rfl)
     all_goals first|(intro _; rfl)|(intro _; exact ⟨rfl,rfl⟩)|(simp only; omega)
   exact fin_names (nx1 := 1) (H1 := [(0,.obj [pS 1 false encI L,pN ap])]) [(0,0)] (ret_cell tab_37 (by decide) rfl rfl (nb rfl) rfl ret_nil) rfl (by decide) ⟨⟨_,_,rfl,rfl,rfl,rfl⟩,trivial⟩ (by decide) rfl ⟨((⟨e1,tNext L (tStep L a 12) 70,tNext L (tStep L (tStep L a 12) 70) 26,0,0,os,[],0,0⟩ : TRequest)),(ap),hex,rfl,rfl,rfl⟩
 try simp only [sB] at c8
 refine sr (xp hnt 2 [.o 2] [] [(82,pB (decide (e1 = 16)))] (re (w_if rfl (fun c10 => ?_) (fun c10 => ?_))))
 ·try simp only [sB] at c10
  refine w_seq ?_
  have h26 := tNext_lt L (tStep L (tStep L a 12) 70) (n := 26) (by decide)
  refine w_R (qm hnt rfl rfl (qm hnt rfl rfl (qo hnt rfl (s_callK 4 (pI (tNext L (tStep L (tStep L a 12) 70) 26)) [(0,.obj [pS 1 false encI L,pN (tStep L (tStep L (tStep L a 12) 70) 26)]),(3,.obj [pI e1,pI 0,pI 0,pI 0,pI 0,pNil,pNil,p16 0,p16 0]),(2,oB true 1 encI fnsL),(1,.obj [pI 0,pI 0,pI 0,pI 0,pI 0,pNil,pNil,p16 0,p16 0])] [0] (w_burgagekeep_Tape_Next L false (tStep L (tStep L a 12) 70) 26 (by omega) (by omega)) ?_))))
  refine qo hnt rfl (s_fa_ptr tab_37 rfl rfl tab_3 (by decide) rfl ?_)
  refine qo hnt rfl (s_store_ptr tab_3 rfl rfl rfl rfl rfl (nb rfl) ?_)
  refine qo hnt rfl (s_fa_ptr tab_37 rfl rfl tab_3 (by decide) rfl ?_)
  refine qo hnt rfl (s_store_ptr tab_3 rfl rfl rfl rfl rfl (nb rfl) ?_)
  refine r_set [(0,PV.ptr 0 0),(2,PV.ptr 1 0),(3,PV.ptr 3 0)] [(3,.obj [pI e1,pI (tNext L (tStep L a 12) 70),pI (tNext L (tStep L (tStep L a 12) 70) 26),pI 0,pI 0,pNil,pNil,p16 0,p16 0]),(0,.obj [pS 1 false encI L,pN (tStep L (tStep L (tStep L a 12) 70) 26)]),(2,oB true 1 encI fnsL),(1,.obj [pI 0,pI 0,pI 0,pI 0,pI 0,pNil,pNil,p16 0,p16 0])] 4 ⟨rfl,rfl,rfl,trivial⟩ rfl rfl (re (sr (ae hnt rfl rfl (w_block (w_adoptC (n := 3) (j := 6) (sz := 1) rfl rfl rfl (loop3 (fun (ap : Nat) (os : List UInt16) (i : Nat) => (i : Int) ≤ tNext L (tStep L (tStep L a 12) 70) 26 ∧ os.length = i) (fun (ap : Nat) (os : List UInt16) (i : Nat) => [(0,PV.ptr 0 0),(2,PV.ptr 3 0),(3,PV.ptr 1 0),(6,pN i)]) 4 (fun (ap : Nat) (os : List UInt16) (i : Nat) => [(0,.obj [pS 1 false encI L,pN ap]),(1,.obj [pI e1,pI (tNext L (tStep L a 12) 70),pI (tNext L (tStep L (tStep L a 12) 70) 26),pI 0,pI 0,pNil,PV.ref 2 0 none,p16 0,p16 0]),(2,oB true 1 enc16 os),(3,.obj [pI 0,pI 0,pI 0,pI 0,pI 0,pNil,pNil,p16 0,p16 0])]) (fun (ap : Nat) (os : List UInt16) (i : Nat) => (tNext L (tStep L (tStep L a 12) 70) 26).toNat - i) (tStep L (tStep L (tStep L a 12) 70) 26) (([] : List UInt16)) (0) ?_ ⟨[(0,0),(1,3),(2,4),(3,1)],by rw [hk]; decide,⟨⟨_,rfl,rfl,rfl⟩,⟨_,rfl,rfl,rfl⟩,⟨_,rfl,rfl,rfl⟩,⟨_,rfl,rfl,rfl⟩,trivial⟩,⟨⟨_,_,rfl,rfl,rfl,rfl⟩,⟨_,_,rfl,rfl,rfl,rfl⟩,⟨_,_,rfl,rfl,rfl,rfl⟩,⟨_,_,rfl,rfl,rfl,rfl⟩,trivial⟩,by rw [hk]; decide⟩ ?_))))))
  · exact ⟨by omega,rfl⟩
  ·intro ap os i hI
   obtain ⟨hi,hol⟩ := hI
   refine w_seq (sr (xp hnt 4 [.o 4] [] [(92,pB (decide (((i : Nat) : Int) < tNext L (tStep L (tStep L a 12) 70) 26)))] (re (w_if rfl (fun c11 => ?_) (fun c11 => ?_)))))
   ·try simp only [sB] at c11
    refine w_skip (q_then (w_seq (w_block (wdr hnt (xq 3 [.o 3] [] ?_)))))
    refine xk [(97,PV.ptr 0 0)] [] [(0,.obj [pS 1 false encI L,pN ap])] [(0,.obj [pS 1 false encI L,pN (tStep L ap 65536)])] [(0,.obj [pS 1 false encI L,pN (tStep L ap 65536)]),(1,.obj [pI e1,pI (tNext L (tStep L a 12) 70),pI (tNext L (tStep L (tStep L a 12) 70) 26),pI 0,pI 0,pNil,PV.ref 2 0 none,p16 0,p16 0]),(2,oB true 1 enc16 os),(3,.obj [pI 0,pI 0,pI 0,pI 0,pI 0,pNil,pNil,p16 0,p16 0])] (s_callK 4 (pI (tNext L ap 65536)) _ [0] (w_burgagekeep_Tape_Next L false ap 65536 (by omega) (by omega)) ⟨rfl,rfl,rfl⟩) (xk [(98,pI (tNext L ap 65536))] [] [] [] [(0,.obj [pS 1 false encI L,pN (tStep L ap 65536)]),(1,.obj [pI e1,pI (tNext L (tStep L a 12) 70),pI (tNext L (tStep L (tStep L a 12) 70) 26),pI 0,pI 0,pNil,PV.ref 2 0 none,p16 0,p16 0]),(2,oB true 1 enc16 os),(3,.obj [pI 0,pI 0,pI 0,pI 0,pI 0,pNil,pNil,p16 0,p16 0])] (s_cv16 tab_3 tab_35 rfl rfl rfl ⟨rfl,rfl,rfl⟩) (xk [(99,p16 (u16I (tNext L ap 65536)))] [] [] [(4,oB true 1 enc16 [u16I (tNext L ap 65536)])] [(4,oB true 1 enc16 [u16I (tNext L ap 65536)]),(0,.obj [pS 1 false encI L,pN (tStep L ap 65536)]),(1,.obj [pI e1,pI (tNext L (tStep L a 12) 70),pI (tNext L (tStep L (tStep L a 12) 70) 26),pI 0,pI 0,pNil,PV.ref 2 0 none,p16 0,p16 0]),(2,oB true 1 enc16 os),(3,.obj [pI 0,pI 0,pI 0,pI 0,pI 0,pNil,pNil,p16 0,p16 0])] (s_mkM (f := enc16) [u16I (tNext L ap 65536)] tab_34 rfl tab_35 ⟨rfl,by decide⟩ (by decide) rfl rfl rfl rfl ⟨rfl,rfl,rfl⟩) (xk [(96,PV.ref 2 0 none),(100,PV.ref 4 0 none)] [(4,oB true 1 enc16 [u16I (tNext L ap 65536)])] [(2,oB true 1 enc16 os)] [(5,oB true 1 enc16 (os ++ [u16I (tNext L ap 65536)])),(4,oB true 1 enc16 [u16I (tNext L ap 65536)])] [(5,oB true 1 enc16 (os ++ [u16I (tNext L ap 65536)])),(4,oB true 1 enc16 [u16I (tNext L ap 65536)]),(0,.obj [pS 1 false encI L,pN (tStep L ap 65536)]),(1,.obj [pI e1,pI (tNext L (tStep L a 12) 70),pI (tNext L (tStep L (tStep L a 12) 70) 26),pI 0,pI 0,pNil,PV.ref 2 0 none,p16 0,p16 0]),(3,.obj [pI 0,pI 0,pI 0,pI 0,pI 0,pNil,pNil,p16 0,p16 0])] (s_appR0 (f := enc16) (l := os) (xs := [u16I (tNext L ap 65536)]) tab_34 rfl tab_35 ⟨rfl,by decide,by decide⟩ (srcM tab_34 rfl (hM_ref0 (f := enc16) rfl rfl)) rfl rfl (by (simp; omega)) ⟨rfl,rfl,rfl⟩) ?_ (hs := ⟨rfl,trivial⟩))))
    refine xd 2 [.o 2] [] 6 [(1,.obj [pI e1,pI (tNext L (tStep L a 12) 70),pI (tNext L (tStep L (tStep L a 12) 70) 26),pI 0,pI 0,pNil,PV.ref 5 0 none,p16 0,p16 0]),(5,oB true 1 enc16 (os ++ [u16I (tNext L ap 65536)])),(4,oB true 1 enc16 [u16I (tNext L ap 65536)]),(0,.obj [pS 1 false encI L,pN (tStep L ap 65536)]),(3,.obj [pI 0,pI 0,pI 0,pI 0,pI 0,pNil,pNil,p16 0,p16 0])] (xe [(0,PV.ptr 0 0),(2,PV.ptr 3 0),(3,PV.ptr 1 0),(6,pN i)] (r_end (q_block (q_then (w_R ?_)))))
    refine qm hnt rfl rfl (qo hnt rfl (s_addN (a := i) (b := 1) rfl rfl (by omega) (by omega) (by omega) ?_))
    refine ae hnt rfl rfl (⟨(tStep L ap 65536),(os ++ [u16I (tNext L ap 65536)]),(i + 1), ?_, ?_,⟨[(0,0),(1,1),(2,5),(3,3)],by rw [hk]; decide,⟨⟨_,rfl,rfl,rfl⟩,⟨_,rfl,rfl,rfl⟩,⟨_,rfl,rfl,rfl⟩,⟨_,rfl,rfl,rfl⟩,trivial⟩,⟨⟨_,_,rfl,rfl,rfl,rfl⟩,⟨_,_,rfl,rfl,rfl,rfl⟩,⟨_,_,rfl,rfl,rfl,rfl⟩,⟨_,_,rfl,rfl,rfl,rfl⟩,trivial⟩,by rw [hk]; decide⟩⟩)
    ·exact ⟨by omega,by simp [hol]⟩
    · omega
   try simp only [sB] at c11
   refine w_exit (q_then_exit (q_then_exit (q_block_exit (q_block (q_then (sr (qo hnt rfl (s_load_ptr tab_37 rfl rfl rfl (nb rfl) ?_))))))))
   refine qo hnt rfl (s_store_ptr tab_37 rfl rfl rfl rfl rfl (nb rfl) ?_)
   refine r_set [(2,PV.ptr 3 0)] [(3,.obj [pI e1,pI (tNext L (tStep L a 12) 70),pI (tNext L (tStep L (tStep L a 12) 70) 26),pI 0,pI 0,pNil,PV.ref 2 0 none,p16 0,p16 0]),(0,.obj [pS 1 false encI L,pN ap]),(1,.obj [pI e1,pI (tNext L (tStep L a 12) 70),pI (tNext L (tStep L (tStep L a 12) 70) 26),pI 0,pI 0,pNil,PV.ref 2 0 none,p16 0,p16 0]),(2,oB true 1 enc16 os)] 4 ⟨rfl,trivial⟩ rfl rfl (re (w_frzC (n := 3) (j := 6) rfl rfl rfl rfl (w_leO (n := 3) (ds := [pI e1,pI (tNext L (tStep L a 12) 70),pI (tNext L (tStep L (tStep L a 12) 70) 26),pI 0,pI 0,pS 1 false encBo [],pS 1 false enc16 os,p16 0,p16 0]) rfl ⟨le_refl _,le_refl _,le_refl _,le_refl _,le_refl _,le_nilS 1 false,le_refl _,le_refl _,le_refl _,trivial⟩ (w_ret ?_))))
   have hex : rightR (⟨e1,tNext L (tStep L a 12) 70,tNext L (tStep L (tStep L a 12) 70) 26,0,0,[],os,0,0⟩ : TRequest) = 0 ∧ (⟨e1,tNext L (tStep L a 12) 70,tNext L (tStep L (tStep L a 12) 70) 26,0,0,[],os,0,0⟩ : TRequest).bits.length ≤ 25 ∧ (⟨e1,tNext L (tStep L a 12) 70,tNext L (tStep L (tStep L a 12) 70) 26,0,0,[],os,0,0⟩ : TRequest).vals.length ≤ 25 ∧ 0 ≤ (⟨e1,tNext L (tStep L a 12) 70,tNext L (tStep L (tStep L a 12) 70) 26,0,0,[],os,0,0⟩ : TRequest).count ∧ (⟨e1,tNext L (tStep L a 12) 70,tNext L (tStep L (tStep L a 12) 70) 26,0,0,[],os,0,0⟩ : TRequest).count ≤ 25 := by
     refine ⟨(shapeR_iff (q := _) hfn).2 ?_,by simp; try omega,by simp; try omega,by simp; try omega,by simp; try omega⟩
     constructor
     case bits => simp only; (rw [if_neg (by omega),if_neg (by omega)]; rfl)
     case vals => simp only; (rw [if_neg (by omega),if_pos (by omega)]; exact ⟨by omega,by omega⟩)
     all_goals first|(intro _; rfl)|(intro _; exact ⟨rfl,rfl⟩)|(simp only; omega)
   exact fin_names (nx1 := 1) (H1 := [(0,.obj [pS 1 false encI L,pN ap])]) [(0,0)] (ret_cell tab_37 (by decide) rfl rfl (nb rfl) rfl ret_nil) rfl (by decide) ⟨⟨_,_,rfl,rfl,rfl,rfl⟩,trivial⟩ (by decide) rfl ⟨((⟨e1,tNext L (tStep L a 12) 70,tNext L (tStep L (tStep L a 12) 70) 26,0,0,[],os,0,0⟩ : TRequest)),(ap),hex,rfl,rfl,rfl⟩
 try simp only [sB] at c10
 refine sr (xp hnt 2 [.o 2] [] [(103,pB (decide (e1 = 22)))] (re (w_if rfl (fun c12 => ?_) (fun c12 => ?_))))
 ·try simp only [sB] at c12
  refine w_R (qm hnt rfl rfl (qm hnt rfl rfl (qo hnt rfl (s_callK 4 (pI (tNext L (tStep L (tStep L a 12) 70) 65536)) [(0,.obj [pS 1 false encI L,pN (tStep L (tStep L (tStep L a 12) 70) 65536)]),(3,.obj [pI e1,pI 0,pI 0,pI 0,pI 0,pNil,pNil,p16 0,p16 0]),(2,oB true 1 encI fnsL),(1,.obj [pI 0,pI 0,pI 0,pI 0,pI 0,pNil,pNil,p16 0,p16 0])] [0] (w_burgagekeep_Tape_Next L false (tStep L (tStep L a 12) 70) 65536 (by omega) (by omega)) ?_))))
  refine qo hnt rfl (s_cv16 tab_3 tab_35 rfl rfl rfl ?_)
  refine qm hnt rfl rfl (qo hnt rfl (s_callK 4 (pI (tNext L (tStep L (tStep L (tStep L a 12) 70) 65536) 65536)) [(0,.obj [pS 1 false encI L,pN (tStep L (tStep L (tStep L (tStep L a 12) 70) 65536) 65536)]),(3,.obj [pI e1,pI 0,pI 0,pI 0,pI 0,pNil,pNil,p16 0,p16 0]),(2,oB true 1 encI fnsL),(1,.obj [pI 0,pI 0,pI 0,pI 0,pI 0,pNil,pNil,p16 0,p16 0])] [0] (w_burgagekeep_Tape_Next L false (tStep L (tStep L (tStep L a 12) 70) 65536) 65536 (by omega) (by omega)) ?_))
  refine qo hnt rfl (s_cv16 tab_3 tab_35 rfl rfl rfl ?_)
  refine xm hnt 6 [.o 6] [] [] 4 [(3,.obj [pI e1,pI (tNext L (tStep L a 12) 70),pI 0,pI 0,pI 0,pNil,pNil,p16 (u16I (tNext L (tStep L (tStep L a 12) 70) 65536)),p16 (u16I (tNext L (tStep L (tStep L (tStep L a 12) 70) 65536) 65536))]),(0,.obj [pS 1 false encI L,pN (tStep L (tStep L (tStep L (tStep L a 12) 70) 65536) 65536)]),(2,oB true 1 encI fnsL),(1,.obj [pI 0,pI 0,pI 0,pI 0,pI 0,pNil,pNil,p16 0,p16 0])] (r_end (q_block (q_then (sr (qo hnt rfl (s_load_ptr tab_37 rfl rfl rfl (nb rfl) ?_))))))
  refine qo hnt rfl (s_store_ptr tab_37 rfl rfl rfl rfl rfl (nb rfl) ?_)
  refine r_set [(2,PV.ptr 1 0)] [(1,.obj [pI e1,pI (tNext L (tStep L a 12) 70),pI 0,pI 0,pI 0,pNil,pNil,p16 (u16I (tNext L (tStep L (tStep L a 12) 70) 65536)),p16 (u16I (tNext L (tStep L (tStep L (tStep L a 12) 70) 65536) 65536))]),(3,.obj [pI e1,pI (tNext L (tStep L a 12) 70),pI 0,pI 0,pI 0,pNil,pNil,p16 (u16I (tNext L (tStep L (tStep L a 12) 70) 65536)),p16 (u16I (tNext L (tStep L (tStep L (tStep L a 12) 70) 65536) 65536))]),(0,.obj [pS 1 false encI L,pN (tStep L (tStep L (tStep L (tStep L a 12) 70) 65536) 65536)]),(2,oB true 1 encI fnsL)] 4 ⟨rfl,trivial⟩ rfl rfl (re (w_leO (n := 1) (ds := [pI e1,pI (tNext L (tStep L a 12) 70),pI 0,pI 0,pI 0,pS 1 false encBo [],pS 1 false enc16 [],p16 (u16I (tNext L (tStep L (tStep L a 12) 70) 65536)),p16 (u16I (tNext L (tStep L (tStep L (tStep L a 12) 70) 65536) 65536))]) rfl ⟨le_refl _,le_refl _,le_refl _,le_refl _,le_refl _,le_nilS 1 false,le_nilS 1 false,le_refl _,le_refl _,trivial⟩ (w_ret ?_)))
  have hex : rightR (⟨e1,tNext L (tStep L a 12) 70,0,0,0,[],[],u16I (tNext L (tStep L (tStep L a 12) 70) 65536),u16I (tNext L (tStep L (tStep L (tStep L a 12) 70) 65536) 65536)⟩ : TRequest) = 0 ∧ (⟨e1,tNext L (tStep L a 12) 70,0,0,0,[],[],u16I (tNext L (tStep L (tStep L a 12) 70) 65536),u16I (tNext L (tStep L (tStep L (tStep L a 12) 70) 65536) 65536)⟩ : TRequest).bits.length ≤ 25 ∧ (⟨e1,tNext L (tStep L a 12) 70,0,0,0,[],[],u16I (tNext L (tStep L (tStep L a 12) 70) 65536),u16I (tNext L (tStep L (tStep L (tStep L a 12) 70) 65536) 65536)⟩ : TRequest).vals.length ≤ 25 ∧ 0 ≤ (⟨e1,tNext L (tStep L a 12) 70,0,0,0,[],[],u16I (tNext L (tStep L (tStep L a 12) 70) 65536),u16I (tNext L (tStep L (tStep L (tStep L a 12) 70) 65536) 65536)⟩ : TRequest).count ∧ (⟨e1,tNext L (tStep L a 12) 70,0,0,0,[],[],u16I (tNext L (tStep L (tStep L a 12) 70) 65536),u16I (tNext L (tStep L (tStep L (tStep L a 12) 70) 65536) 65536)⟩ : TRequest).count ≤ 25 := by
    refine ⟨(shapeR_iff (q := _) hfn).2 ?_,by simp; try omega,by simp; try omega,by simp; try omega,by simp; try omega⟩
    constructor
    case bits => simp only; (rw [if_neg (by omega),if_neg (by omega)]; rfl)
    case vals => simp only; (rw [if_neg (by omega),if_neg (by omega),if_neg (by omega)]; rfl)
    all_goals first|(intro _; rfl)|(simp only; omega)
  exact fin_names (nx1 := 1) (H1 := [(0,.obj [pS 1 false encI L,pN (tStep L (tStep L (tStep L (tStep L a 12) 70) 65536) 65536)])]) [(0,0)] (ret_cell tab_37 (by decide) rfl rfl (nb rfl) rfl ret_nil) rfl (by decide) ⟨⟨_,_,rfl,rfl,rfl,rfl⟩,trivial⟩ (by decide) rfl ⟨((⟨e1,tNext L (tStep L a 12) 70,0,0,0,[],[],u16I (tNext L (tStep L (tStep L a 12) 70) 65536),u16I (tNext L (tStep L (tStep L (tStep L a 12) 70) 65536) 65536)⟩ : TRequest)),(tStep L (tStep L (tStep L (tStep L a 12) 70) 65536) 65536),hex,rfl,rfl,rfl⟩
 try simp only [sB] at c12
 refine sr (xp hnt 2 [.o 2] [] [(115,pB (decide (e1 = 23)))] (re (w_if rfl (fun c13 => ?_) (fun c13 => ?_))))
 ·try simp only [sB] at c13
  refine w_seq ?_
  have h20 := tNext_lt L (tStep L (tStep L a 12) 70) (n := 20) (by decide)
  have h40 := tNext_lt L (tStep L (tStep L (tStep L a 12) 70) 20) (n := 40) (by decide)
  refine w_R (qm hnt rfl rfl (qm hnt rfl rfl (qo hnt rfl (s_callK 4 (pI (tNext L (tStep L (tStep L a 12) 70) 20)) [(0,.obj [pS 1 false encI L,pN (tStep L (tStep L (tStep L a 12) 70) 20)]),(3,.obj [pI e1,pI 0,pI 0,pI 0,pI 0,pNil,pNil,p16 0,p16 0]),(2,oB true 1 encI fnsL),(1,.obj [pI 0,pI 0,pI 0,pI 0,pI 0,pNil,pNil,p16 0,p16 0])] [0] (w_burgagekeep_Tape_Next L false (tStep L (tStep L a 12) 70) 20 (by omega) (by omega)) ?_))))
  refine qm hnt rfl rfl (qo hnt rfl (s_callK 4 (pI (tNext L (tStep L (tStep L (tStep L a 12) 70) 20) 40)) [(0,.obj [pS 1 false encI L,pN (tStep L (tStep L (tStep L (tStep L a 12) 70) 20) 40)]),(3,.obj [pI e1,pI 0,pI 0,pI 0,pI 0,pNil,pNil,p16 0,p16 0]),(2,oB true 1 encI fnsL),(1,.obj [pI 0,pI 0,pI 0,pI 0,pI 0,pNil,pNil,p16 0,p16 0])] [0] (w_burgagekeep_Tape_Next L false (tStep L (tStep L (tStep L a 12) 70) 20) 40 (by omega) (by omega)) ?_))
  refine xm hnt 6 [.o 6] [] [] 4 [(3,.obj [pI e1,pI (tNext L (tStep L a 12) 70),pI (tNext L (tStep L (tStep L a 12) 70) 20),pI (tNext L (tStep L (tStep L (tStep L a 12) 70) 20) 40),pI 0,pNil,pNil,p16 0,p16 0]),(0,.obj [pS 1 false encI L,pN (tStep L (tStep L (tStep L (tStep L a 12) 70) 20) 40)]),(2,oB true 1 encI fnsL),(1,.obj [pI 0,pI 0,pI 0,pI 0,pI 0,pNil,pNil,p16 0,p16 0])] (re (w_seq ?_))
  have h22 := tNext_lt L (tStep L (tStep L (tStep L (tStep L a 12) 70) 20) 40) (n := 20) (by decide)
  refine w_R (qm hnt rfl rfl (qo hnt rfl (s_callK 4 (pI (tNext L (tStep L (tStep L (tStep L (tStep L a 12) 70) 20) 40) 20)) [(0,.obj [pS 1 false encI L,pN (tStep L (tStep L (tStep L (tStep L (tStep L a 12) 70) 20) 40) 20)]),(3,.obj [pI e1,pI (tNext L (tStep L a 12) 70),pI (tNext L (tStep L (tStep L a 12) 70) 20),pI (tNext L (tStep L (tStep L (tStep L a 12) 70) 20) 40),pI 0,pNil,pNil,p16 0,p16 0]),(2,oB true 1 encI fnsL),(1,.obj [pI 0,pI 0,pI 0,pI 0,pI 0,pNil,pNil,p16 0,p16 0])] [0] (w_burgagekeep_Tape_Next L false (tStep L (tStep L (tStep L (tStep L a 12) 70) 20) 40) 20 (by omega) (by omega)) ?_)))
  refine qa hnt rfl rfl (r_set [(0,PV.ptr 0 0),(2,PV.ptr 1 0),(3,PV.ptr 3 0),(7,pI (tNext L (tStep L (tStep L (tStep L (tStep L a 12) 70) 20) 40) 20))] [(0,.obj [pS 1 false encI L,pN (tStep L (tStep L (tStep L (tStep L (tStep L a 12) 70) 20) 40) 20)]),(3,.obj [pI e1,pI (tNext L (tStep L a 12) 70),pI (tNext L (tStep L (tStep L a 12) 70) 20),pI (tNext L (tStep L (tStep L (tStep L a 12) 70) 20) 40),pI 0,pNil,pNil,p16 0,p16 0]),(2,oB true 1 encI fnsL),(1,.obj [pI 0,pI 0,pI 0,pI 0,pI 0,pNil,pNil,p16 0,p16 0])] 4 ⟨rfl,rfl,rfl,rfl,trivial⟩ rfl rfl (re (w_block (w_adoptC (n := 3) (j := 6) (sz := 1) rfl rfl rfl (loop3 (fun (ap : Nat) (os : List UInt16) (k : Int) => (os.length : Int) + k ≤ 19 ∧ 0 ≤ k) (fun (ap : Nat) (os : List UInt16) (k : Int) => [(0,PV.ptr 0 0),(2,PV.ptr 3 0),(3,PV.ptr 1 0),(7,pI k)]) 4 (fun (ap : Nat) (os : List UInt16) (k : Int) => [(0,.obj [pS 1 false encI L,pN ap]),(1,.obj [pI e1,pI (tNext L (tStep L a 12) 70),pI (tNext L (tStep L (tStep L a 12) 70) 20),pI (tNext L (tStep L (tStep L (tStep L a 12) 70) 20) 40),pI 0,pNil,PV.ref 2 0 none,p16 0,p16 0]),(2,oB true 1 enc16 os),(3,.obj [pI 0,pI 0,pI 0,pI 0,pI 0,pNil,pNil,p16 0,p16 0])]) (fun (ap : Nat) (os : List UInt16) (k : Int) => k.toNat) (tStep L (tStep L (tStep L (tStep L (tStep L a 12) 70) 20) 40) 20) (([] : List UInt16)) (tNext L (tStep L (tStep L (tStep L (tStep L a 12) 70) 20) 40) 20) ?_ ⟨[(0,0),(1,3),(2,4),(3,1)],by rw [hk]; decide,⟨⟨_,rfl,rfl,rfl⟩,⟨_,rfl,rfl,rfl⟩,⟨_,rfl,rfl,rfl⟩,⟨_,rfl,rfl,rfl⟩,trivial⟩,⟨⟨_,_,rfl,rfl,rfl,rfl⟩,⟨_,_,rfl,rfl,rfl,rfl⟩,⟨_,_,rfl,rfl,rfl,rfl⟩,⟨_,_,rfl,rfl,rfl,rfl⟩,trivial⟩,by rw [hk]; decide⟩ ?_)))))
  · exact ⟨by simp; omega,by omega⟩
  ·intro ap os k hI
   obtain ⟨hkm,hk0⟩ := hI
   refine w_seq (sr (xp hnt 2 [.o 2] [] [(128,pB (decide (0 < k)))] (re (w_if rfl (fun c14 => ?_) (fun c14 => ?_)))))
   ·try simp only [sB] at c14
    refine w_skip (q_then (w_seq (w_block (wdr hnt (xq 3 [.o 3] [] ?_)))))
    refine xk [(133,PV.ptr 0 0)] [] [(0,.obj [pS 1 false encI L,pN ap])] [(0,.obj [pS 1 false encI L,pN (tStep L ap 65536)])] [(0,.obj [pS 1 false encI L,pN (tStep L ap 65536)]),(1,.obj [pI e1,pI (tNext L (tStep L a 12) 70),pI (tNext L (tStep L (tStep L a 12) 70) 20),pI (tNext L (tStep L (tStep L (tStep L a 12) 70) 20) 40),pI 0,pNil,PV.ref 2 0 none,p16 0,p16 0]),(2,oB true 1 enc16 os),(3,.obj [pI 0,pI 0,pI 0,pI 0,pI 0,pNil,pNil,p16 0,p16 0])] (s_callK 4 (pI (tNext L ap 65536)) _ [0] (w_burgagekeep_Tape_Next L false ap 65536 (by omega) (by omega)) ⟨rfl,rfl,rfl⟩) (xk [(134,pI (tNext L ap 65536))] [] [] [] [(0,.obj [pS 1 false encI L,pN (tStep L ap 65536)]),(1,.obj [pI e1,pI (tNext L (tStep L a 12) 70),pI (tNext L (tStep L (tStep L a 12) 70) 20),pI (tNext L (tStep L (tStep L (tStep L a 12) 70) 20) 40),pI 0,pNil,PV.ref 2 0 none,p16 0,p16 0]),(2,oB true 1 enc16 os),(3,.obj [pI 0,pI 0,pI 0,pI 0,pI 0,pNil,pNil,p16 0,p16 0])] (s_cv16 tab_3 tab_35 rfl rfl rfl ⟨rfl,rfl,rfl⟩) (xk [(135,p16 (u16I (tNext L ap 65536)))] [] [] [(4,oB true 1 enc16 [u16I (tNext L ap 65536)])] [(4,oB true 1 enc16 [u16I (tNext L ap 65536)]),(0,.obj [pS 1 false encI L,pN (tStep L ap 65536)]),(1,.obj [pI e1,pI (tNext L (tStep L a 12) 70),pI (tNext L (tStep L (tStep L a 12) 70) 20),pI (tNext L (tStep L (tStep L (tStep L a 12) 70) 20) 40),pI 0,pNil,PV.ref 2 0 none,p16 0,p16 0]),(2,oB true 1 enc16 os),(3,.obj [pI 0,pI 0,pI 0,pI 0,pI 0,pNil,pNil,p16 0,p16 0])] (s_mkM (f := enc16) [u16I (tNext L ap 65536)] tab_34 rfl tab_35 ⟨rfl,by decide⟩ (by decide) rfl rfl rfl rfl ⟨rfl,rfl,rfl⟩) (xk [(132,PV.ref 2 0 none),(136,PV.ref 4 0 none)] [(4,oB true 1 enc16 [u16I (tNext L ap 65536)])] [(2,oB true 1 enc16 os)] [(5,oB true 1 enc16 (os ++ [u16I (tNext L ap 65536)])),(4,oB true 1 enc16 [u16I (tNext L ap 65536)])] [(5,oB true 1 enc16 (os ++ [u16I (tNext L ap 65536)])),(4,oB true 1 enc16 [u16I (tNext L ap 65536)]),(0,.obj [pS 1 false encI L,pN (tStep L ap 65536)]),(1,.obj [pI e1,pI (tNext L (tStep L a 12) 70),pI (tNext L (tStep L (tStep L a 12) 70) 20),pI (tNext L (tStep L (tStep L (tStep L a 12) 70) 20) 40),pI 0,pNil,PV.ref 2 0 none,p16 0,p16 0]),(3,.obj [pI 0,pI 0,pI 0,pI 0,pI 0,pNil,pNil,p16 0,p16 0])] (s_appR0 (f := enc16) (l := os) (xs := [u16I (tNext L ap 65536)]) tab_34 rfl tab_35 ⟨rfl,by decide,by decide⟩ (srcM tab_34 rfl (hM_ref0 (f := enc16) rfl rfl)) rfl rfl (by (simp; omega)) ⟨rfl,rfl,rfl⟩) ?_ (hs := ⟨rfl,trivial⟩))))
    refine xd 2 [.o 2] [] 6 [(1,.obj [pI e1,pI (tNext L (tStep L a 12) 70),pI (tNext L (tStep L (tStep L a 12) 70) 20),pI (tNext L (tStep L (tStep L (tStep L a 12) 70) 20) 40),pI 0,pNil,PV.ref 5 0 none,p16 0,p16 0]),(5,oB true 1 enc16 (os ++ [u16I (tNext L ap 65536)])),(4,oB true 1 enc16 [u16I (tNext L ap 65536)]),(0,.obj [pS 1 false encI L,pN (tStep L ap 65536)]),(3,.obj [pI 0,pI 0,pI 0,pI 0,pI 0,pNil,pNil,p16 0,p16 0])] (xe [(0,PV.ptr 0 0),(2,PV.ptr 3 0),(3,PV.ptr 1 0),(7,pI k)] (r_end (q_block (q_then (w_R ?_)))))
    refine qm hnt rfl rfl (qo hnt rfl (s_subi (r := k - 1) rfl rfl rfl (by omega) ?_))
    refine ae hnt rfl rfl (⟨(tStep L ap 65536),(os ++ [u16I (tNext L ap 65536)]),(k - 1), ?_, ?_,⟨[(0,0),(1,1),(2,5),(3,3)],by rw [hk]; decide,⟨⟨_,rfl,rfl,rfl⟩,⟨_,rfl,rfl,rfl⟩,⟨_,rfl,rfl,rfl⟩,⟨_,rfl,rfl,rfl⟩,trivial⟩,⟨⟨_,_,rfl,rfl,rfl,rfl⟩,⟨_,_,rfl,rfl,rfl,rfl⟩,⟨_,_,rfl,rfl,rfl,rfl⟩,⟨_,_,rfl,rfl,rfl,rfl⟩,trivial⟩,by rw [hk]; decide⟩⟩)
    ·exact ⟨by simp; omega,by omega⟩
    · omega
   try simp only [sB] at c14
   refine w_exit (q_then_exit (q_then_exit (q_block_exit (q_block (q_then (sr (qo hnt rfl (s_load_ptr tab_37 rfl rfl rfl (nb rfl) ?_))))))))
   refine qo hnt rfl (s_store_ptr tab_37 rfl rfl rfl rfl rfl (nb rfl) ?_)
   refine r_set [(2,PV.ptr 3 0)] [(3,.obj [pI e1,pI (tNext L (tStep L a 12) 70),pI (tNext L (tStep L (tStep L a 12) 70) 20),pI (tNext L (tStep L (tStep L (tStep L a 12) 70) 20) 40),pI 0,pNil,PV.ref 2 0 none,p16 0,p16 0]),(0,.obj [pS 1 false encI L,pN ap]),(1,.obj [pI e1,pI (tNext L (tStep L a 12) 70),pI (tNext L (tStep L (tStep L a 12) 70) 20),pI (tNext L (tStep L (tStep L (tStep L a 12) 70) 20) 40),pI 0,pNil,PV.ref 2 0 none,p16 0,p16 0]),(2,oB true 1 enc16 os)] 4 ⟨rfl,trivial⟩ rfl rfl (re (w_frzC (n := 3) (j := 6) rfl rfl rfl rfl (w_leO (n := 3) (ds := [pI e1,pI (tNext L (tStep L a 12) 70),pI (tNext L (tStep L (tStep L a 12) 70) 20),pI (tNext L (tStep L (tStep L (tStep L a 12) 70) 20) 40),pI 0,pS 1 false encBo [],pS 1 false enc16 os,p16 0,p16 0]) rfl ⟨le_refl _,le_refl _,le_refl _,le_refl _,le_refl _,le_nilS 1 false,le_refl _,le_refl _,le_refl _,trivial⟩ (w_ret ?_))))
   have hex : rightR (⟨e1,tNext L (tStep L a 12) 70,tNext L (tStep L (tStep L a 12) 70) 20,tNext L (tStep L (tStep L (tStep L a 12) 70) 20) 40,0,[],os,0,0⟩ : TRequest) = 0 ∧ (⟨e1,tNext L (tStep L a 12) 70,tNext L (tStep L (tStep L a 12) 70) 20,tNext L (tStep L (tStep L (tStep L a 12) 70) 20) 40,0,[],os,0,0⟩ : TRequest).bits.length ≤ 25 ∧ (⟨e1,tNext L (tStep L a 12) 70,tNext L (tStep L (tStep L a 12) 70) 20,tNext L (tStep L (tStep L (tStep L a 12) 70) 20) 40,0,[],os,0,0⟩ : TRequest).vals.length ≤ 25 ∧ 0 ≤ (⟨e1,tNext L (tStep L a 12) 70,tNext L (tStep L (tStep L a 12) 70) 20,tNext L (tStep L (tStep L (tStep L a 12) 70) 20) 40,0,[],os,0,0⟩ : TRequest).count ∧ (⟨e1,tNext L (tStep L a 12) 70,tNext L (tStep L (tStep L a 12) 70) 20,tNext L (tStep L (tStep L (tStep L a 12) 70) 20) 40,0,[],os,0,0⟩ : TRequest).count ≤ 25 := by
     refine ⟨(shapeR_iff (q := _) hfn).2 ?_,by simp; try omega,by simp; try omega,by simp; try omega,by simp; try omega⟩
     constructor
     case bits => simp only; (rw [if_neg (by omega),if_neg (by omega)]; rfl)
     case vals => simp only; (rw [if_neg (by omega),if_neg (by omega),if_pos (by omega)]; omega)
     all_goals first|(intro _; rfl)|(intro _; exact ⟨rfl,rfl⟩)|(simp only; omega)
   exact fin_names (nx1 := 1) (H1 := [(0,.obj [pS 1 false encI L,pN ap])]) [(0,0)] (ret_cell tab_37 (by decide) rfl rfl (nb rfl) rfl ret_nil) rfl (by decide) ⟨⟨_,_,rfl,rfl,rfl,rfl⟩,trivial⟩ (by decide) rfl ⟨((⟨e1,tNext L (tStep L a 12) 70,tNext L (tStep L (tStep L a 12) 70) 20,tNext L (tStep L (tStep L (tStep L a 12) 70) 20) 40,0,[],os,0,0⟩ : TRequest)),(ap),hex,rfl,rfl,rfl⟩
 try simp only [sB] at c13
 refine w_skip (q_block (q_then (sr (qo hnt rfl (s_load_ptr tab_37 rfl rfl rfl (nb rfl) ?_)))))
 refine qo hnt rfl (s_store_ptr tab_37 rfl rfl rfl rfl rfl (nb rfl) ?_)
 refine r_set [(2,PV.ptr 1 0)] [(1,.obj [pI e1,pI 0,pI 0,pI 0,pI 0,pNil,pNil,p16 0,p16 0]),(0,.obj [pS 1 false encI L,pN (tStep L (tStep L a 12) 70)]),(3,.obj [pI e1,pI 0,pI 0,pI 0,pI 0,pNil,pNil,p16 0,p16 0]),(2,oB true 1 encI fnsL)] 4 ⟨rfl,trivial⟩ rfl rfl (re (w_leO (n := 1) (ds := [pI e1,pI 0,pI 0,pI 0,pI 0,pS 1 false encBo [],pS 1 false enc16 [],p16 0,p16 0]) rfl ⟨le_refl _,le_refl _,le_refl _,le_refl _,le_refl _,le_nilS 1 false,le_nilS 1 false,le_refl _,le_refl _,trivial⟩ (w_ret ?_)))
 have hex : rightR (⟨e1,0,0,0,0,[],[],0,0⟩ : TRequest) = 0 ∧ (⟨e1,0,0,0,0,[],[],0,0⟩ : TRequest).bits.length ≤ 25 ∧ (⟨e1,0,0,0,0,[],[],0,0⟩ : TRequest).vals.length ≤ 25 ∧ 0 ≤ (⟨e1,0,0,0,0,[],[],0,0⟩ : TRequest).count ∧ (⟨e1,0,0,0,0,[],[],0,0⟩ : TRequest).count ≤ 25 := by
   refine ⟨(shapeR_iff (q := _) hfn).2 ?_,by simp; try omega,by simp; try omega,by simp; try omega,by simp; try omega⟩
   constructor
   case bits => simp only; (rw [if_neg (by omega),if_neg (by omega)]; rfl)
   case vals => simp only; (rw [if_neg (by omega),if_neg (by omega),if_neg (by omega)]; rfl)
   all_goals first|(intro _; rfl)|(intro _; exact ⟨rfl,rfl⟩)|(simp only; omega)
 exact fin_names (nx1 := 1) (H1 := [(0,.obj [pS 1 false encI L,pN (tStep L (tStep L a 12) 70)])]) [(0,0)] (ret_cell tab_37 (by decide) rfl rfl (nb rfl) rfl ret_nil) rfl (by decide) ⟨⟨_,_,rfl,rfl,rfl,rfl⟩,trivial⟩ (by decide) rfl ⟨((⟨e1,0,0,0,0,[],[],0,0⟩ : TRequest)),(tStep L (tStep L a 12) 70),hex,rfl,rfl,rfl⟩
theorem w_burgagekeep_Tape_windows (L : List Int) (cl_L : Bool) (a : Nat) (i : Nat) (hL : L.length ≤ 70000000000000) (hi3 : i ≤ 3) :
    T Try.prog 54 [PV.ptr 0 0,pN i] 1 [(0,.obj [pS 1 cl_L encI L,pN a])] (fun ra rb rc => ∃ q : List TWindow,∃ b : Nat,(WinsOk q) ∧ (Ret (pS 4 false eWindow q) 1 [(0,.obj [pS 1 false encI L,pN b])]) ra rb rc) := by
 refine t_fun tabOk (n := 71) (rs := [.tmp 4]) Try.func54 rfl rfl rfl rfl (nb rfl) ?_
 intro c hnt hk
 refine sr (ae hnt rfl rfl (sr (ae hnt rfl rfl (sr (xm hnt 11 [.o 11] [okI (128 * ((i : Nat) : Int)),okI (128 * ((i : Nat) : Int)),okI (128 * ((i : Nat) : Int)),okI (128 * ((i : Nat) : Int))] [(6,PV.ptr 1 0)] 2 [(1,.obj [pN (128 * i),pN (128 * i),pN (128 * i),pN (128 * i)]),(0,.obj [pS 1 cl_L encI L,pN a])] ?_ (hc := ⟨by unfold okI; (omega),by unfold okI; (omega),by unfold okI; (omega),by unfold okI; (omega),trivial⟩))))))
 refine re (sr (qo hnt rfl (s_buildA tab_110 rfl tab_3 (b_nil ?_))))
 refine qo hnt rfl (s_alloc tab_110 ?_)
 refine qo hnt rfl (s_store_ptr tab_110 rfl rfl rfl rfl rfl (nb rfl) ?_)
 refine r_set [(0,PV.ptr 0 0),(5,pNil),(6,PV.ptr 1 0),(7,PV.ptr 2 0)] [(2,.obj [pI 0,pI 0,pI 0,pI 0]),(1,.obj [pN (128 * i),pN (128 * i),pN (128 * i),pN (128 * i)]),(0,.obj [pS 1 cl_L encI L,pN a])] 3 ⟨rfl,rfl,rfl,rfl,trivial⟩ rfl rfl (re (w_seq (sr (qm hnt rfl rfl (qo hnt rfl (s_callK 3 (pI (tNext L a 6)) [(0,.obj [pS 1 false encI L,pN (tStep L a 6)]),(2,.obj [pI 0,pI 0,pI 0,pI 0]),(1,.obj [pN (128 * i),pN (128 * i),pN (128 * i),pN (128 * i)])] [0] (w_burgagekeep_Tape_Next L cl_L a 6 (by omega) (by omega)) ?_))))))
 refine qa hnt rfl rfl (r_set [(0,PV.ptr 0 0),(5,pNil),(6,PV.ptr 1 0),(7,PV.ptr 2 0),(8,pI (tNext L a 6))] [(0,.obj [pS 1 false encI L,pN (tStep L a 6)]),(2,.obj [pI 0,pI 0,pI 0,pI 0]),(1,.obj [pN (128 * i),pN (128 * i),pN (128 * i),pN (128 * i)])] 3 ⟨rfl,rfl,rfl,rfl,rfl,trivial⟩ rfl rfl (re (w_block (w_adopt (s := 5) (sz := 4) rfl (loop11 (fun (ap : Nat) (os : List TWindow) (f0 : Int) (f1 : Int) (f2 : Int) (f3 : Int) (v0 : Int) (v1 : Int) (v2 : Int) (v3 : Int) (kk : Int) => (os.length : Int) + kk ≤ 5 ∧ -1 ≤ kk ∧ WInv ((128 * i : Nat) : Int) os (four v0 v1 v2 v3) (four f0 f1 f2 f3)) (fun (ap : Nat) (os : List TWindow) (f0 : Int) (f1 : Int) (f2 : Int) (f3 : Int) (v0 : Int) (v1 : Int) (v2 : Int) (v3 : Int) (kk : Int) => [(0,PV.ptr 0 0),(5,PV.ref 1 0 none),(6,PV.ptr 2 0),(7,PV.ptr 3 0),(8,pI kk)]) 4 (fun (ap : Nat) (os : List TWindow) (f0 : Int) (f1 : Int) (f2 : Int) (f3 : Int) (v0 : Int) (v1 : Int) (v2 : Int) (v3 : Int) (kk : Int) => [(0,.obj [pS 1 false encI L,pN ap]),(1,oB true 4 eWindow os),(2,.obj [pI f0,pI f1,pI f2,pI f3]),(3,.obj [pI v0,pI v1,pI v2,pI v3])]) (fun (ap : Nat) (os : List TWindow) (f0 : Int) (f1 : Int) (f2 : Int) (f3 : Int) (v0 : Int) (v1 : Int) (v2 : Int) (v3 : Int) (kk : Int) => (kk + 1).toNat) (tStep L a 6) (([] : List TWindow)) (((128 * i : Nat) : Int)) (((128 * i : Nat) : Int)) (((128 * i : Nat) : Int)) (((128 * i : Nat) : Int)) (0) (0) (0) (0) (tNext L a 6) ?_ ⟨[(0,0),(1,3),(2,1),(3,2)],by rw [hk]; decide,⟨⟨_,rfl,rfl,rfl⟩,⟨_,rfl,rfl,rfl⟩,⟨_,rfl,rfl,rfl⟩,⟨_,rfl,rfl,rfl⟩,⟨_,rfl,rfl,rfl⟩,trivial⟩,⟨⟨_,_,rfl,rfl,rfl,rfl⟩,⟨_,_,rfl,rfl,rfl,rfl⟩,⟨_,_,rfl,rfl,rfl,rfl⟩,⟨_,_,rfl,rfl,rfl,rfl⟩,trivial⟩,by rw [hk]; decide⟩ ?_)))))
 · have h6 := tNext_lt L a (n := 6) (by decide); exact ⟨by simp; omega,by omega,WInv.nil _⟩
 ·intro ap os f0 f1 f2 f3 v0 v1 v2 v3 kk hI
  obtain ⟨hok,hkk,hW⟩ := hI
  have hv0 : 0 ≤ v0 ∧ v0 ≤ 23 * (os.length : Int) := hW.vb 0 (by decide)
  have hv1 : 0 ≤ v1 ∧ v1 ≤ 23 * (os.length : Int) := hW.vb 1 (by decide)
  have hv2 : 0 ≤ v2 ∧ v2 ≤ 23 * (os.length : Int) := hW.vb 2 (by decide)
  have hv3 : 0 ≤ v3 ∧ v3 ≤ 23 * (os.length : Int) := hW.vb 3 (by decide)
  have hf0 : ((128 * i : Nat) : Int) ≤ f0 ∧ f0 ≤ ((128 * i : Nat) : Int) + 20 * (os.length : Int) := hW.fb 0 (by decide)
  have hf1 : ((128 * i : Nat) : Int) ≤ f1 ∧ f1 ≤ ((128 * i : Nat) : Int) + 20 * (os.length : Int) := hW.fb 1 (by decide)
  have hf2 : ((128 * i : Nat) : Int) ≤ f2 ∧ f2 ≤ ((128 * i : Nat) : Int) + 20 * (os.length : Int) := hW.fb 2 (by decide)
  have hf3 : ((128 * i : Nat) : Int) ≤ f3 ∧ f3 ≤ ((128 * i : Nat) : Int) + 20 * (os.length : Int) := hW.fb 3 (by decide)
  refine w_seq (w_seq ?_)
  have hlo : (os.length : Int) ≤ 6 := by omega
  refine w_R (xp hnt 2 [.o 2] [] [(24,pB (decide (0 ≤ kk)))] (re (w_if rfl (fun c1 => ?_) (fun c1 => ?_))))
  ·try simp only [sB] at c1
   refine w_skip (q_then (w_seq (w_block (sr (qo hnt rfl (s_mkM (f := encI) ([3,0,3,1,2,3] : List Int) tab_28 rfl tab_3 ⟨rfl,by decide⟩ (by decide) rfl rfl rfl rfl ?_))))))
   refine qm hnt rfl rfl (qo hnt rfl (s_callK 5 (pI (tNext L ap 6)) [(0,.obj [pS 1 false encI L,pN (tStep L ap 6)]),(4,oB true 1 encI ([3,0,3,1,2,3] : List Int)),(1,oB true 4 eWindow os),(2,.obj [pI f0,pI f1,pI f2,pI f3]),(3,.obj [pI v0,pI v1,pI v2,pI v3])] [0] (w_burgagekeep_Tape_Next L false ap 6 (by omega) (by omega)) ?_))
   have hb29 := tNext_lt L ap (n := 6) (by decide)
   refine qo hnt rfl (s_iaR0 (q := Int.toNat (tNext L ap 6)) (f := encI) (l := ([3,0,3,1,2,3] : List Int)) tab_28 rfl tab_3 rfl rfl (by omega) rfl rfl (by simp; omega) ?_)
   obtain ⟨e1,he1⟩ := get_of_lt ([3,0,3,1,2,3] : List Int) (i := Int.toNat (tNext L ap 6)) (by simp; omega)
   refine qo hnt rfl (s_ldM (b := e1) (f := encI) tab_3 rfl rfl rfl rfl he1 rfl ?_)
   refine qa hnt rfl rfl (r_set [(0,PV.ptr 0 0),(5,PV.ref 1 0 none),(6,PV.ptr 2 0),(7,PV.ptr 3 0),(8,pI kk),(9,pI e1)] [(0,.obj [pS 1 false encI L,pN (tStep L ap 6)]),(4,oB true 1 encI ([3,0,3,1,2,3] : List Int)),(1,oB true 4 eWindow os),(2,.obj [pI f0,pI f1,pI f2,pI f3]),(3,.obj [pI v0,pI v1,pI v2,pI v3])] 5 ⟨rfl,rfl,rfl,rfl,rfl,rfl,trivial⟩ rfl rfl (re (w_seq ?_)))
   rcases (show e1 = 0 ∨ e1 = 1 ∨ e1 = 2 ∨ e1 = 3 from by have hm2 := List.mem_of_getElem? he1; simp only [List.mem_cons,List.not_mem_nil,or_false] at hm2; omega) with hs1|hs1|hs1|hs1
   ·refine w_eq (s := 9) (y := pI 0) rfl (congrArg pI hs1) (wdr hnt (xq 2 [.o 2] [] (xk [(7,PV.ptr 3 0),(33,pI 0)] [(3,.obj [pI v0,pI v1,pI v2,pI v3])] [] [(3,.obj [pI v0,pI v1,pI v2,pI v3])] [(0,.obj [pS 1 false encI L,pN (tStep L ap 6)]),(4,oB true 1 encI ([3,0,3,1,2,3] : List Int)),(1,oB true 4 eWindow os),(2,.obj [pI f0,pI f1,pI f2,pI f3]),(3,.obj [pI v0,pI v1,pI v2,pI v3])] (s_ia_arrN (q := 0) tab_110 rfl tab_3 rfl (by omega) rfl (by omega) ⟨rfl,rfl,rfl⟩) ?_ (hs := ⟨rfl,trivial⟩))))
    refine xq 1 [.o 1] [] (xk [] [] [] [(5,oB true 1 encI ([0,0,0,5] : List Int))] [(5,oB true 1 encI ([0,0,0,5] : List Int)),(0,.obj [pS 1 false encI L,pN (tStep L ap 6)]),(4,oB true 1 encI ([3,0,3,1,2,3] : List Int)),(1,oB true 4 eWindow os),(2,.obj [pI f0,pI f1,pI f2,pI f3]),(3,.obj [pI v0,pI v1,pI v2,pI v3])] (s_mkM (f := encI) ([0,0,0,5] : List Int) tab_28 rfl tab_3 ⟨rfl,by decide⟩ (by decide) rfl rfl rfl rfl ⟨rfl,rfl,rfl⟩) (xq 1 [.o 1] [] (xk [(37,PV.ptr 0 0)] [] [(0,.obj [pS 1 false encI L,pN (tStep L ap 6)])] [(0,.obj [pS 1 false encI L,pN (tStep L (tStep L ap 6) 4)])] [(0,.obj [pS 1 false encI L,pN (tStep L (tStep L ap 6) 4)]),(5,oB true 1 encI ([0,0,0,5] : List Int)),(4,oB true 1 encI ([3,0,3,1,2,3] : List Int)),(1,oB true 4 eWindow os),(2,.obj [pI f0,pI f1,pI f2,pI f3]),(3,.obj [pI v0,pI v1,pI v2,pI v3])] (s_callK 6 (pI (tNext L (tStep L ap 6) 4)) _ [0] (w_burgagekeep_Tape_Next L false (tStep L ap 6) 4 (by omega) (by omega)) ⟨rfl,rfl,rfl⟩) ?_)))
    have hb38 := tNext_lt L (tStep L ap 6) (n := 4) (by decide)
    refine xk [(36,PV.ref 5 0 none),(38,pI (tNext L (tStep L ap 6) 4))] [(5,oB true 1 encI ([0,0,0,5] : List Int))] [] [(5,oB true 1 encI ([0,0,0,5] : List Int))] [(0,.obj [pS 1 false encI L,pN (tStep L (tStep L ap 6) 4)]),(5,oB true 1 encI ([0,0,0,5] : List Int)),(4,oB true 1 encI ([3,0,3,1,2,3] : List Int)),(1,oB true 4 eWindow os),(2,.obj [pI f0,pI f1,pI f2,pI f3]),(3,.obj [pI v0,pI v1,pI v2,pI v3])] (s_iaR0 (q := Int.toNat (tNext L (tStep L ap 6) 4)) (f := encI) (l := ([0,0,0,5] : List Int)) tab_28 rfl tab_3 rfl rfl (by omega) rfl rfl (by simp; omega) ⟨rfl,rfl,rfl⟩) ?_ (hs := ⟨rfl,trivial⟩)
    obtain ⟨e2,he2⟩ := get_of_lt ([0,0,0,5] : List Int) (i := Int.toNat (tNext L (tStep L ap 6) 4)) (by simp; omega)
    refine xk [(39,PV.ep 5 (Int.toNat (tNext L (tStep L ap 6) 4)) 0)] [(5,oB true 1 encI ([0,0,0,5] : List Int))] [] [(5,oB true 1 encI ([0,0,0,5] : List Int))] [(0,.obj [pS 1 false encI L,pN (tStep L (tStep L ap 6) 4)]),(5,oB true 1 encI ([0,0,0,5] : List Int)),(4,oB true 1 encI ([3,0,3,1,2,3] : List Int)),(1,oB true 4 eWindow os),(2,.obj [pI f0,pI f1,pI f2,pI f3]),(3,.obj [pI v0,pI v1,pI v2,pI v3])] (s_ldM (b := e2) (f := encI) tab_3 rfl rfl rfl rfl he2 rfl ⟨rfl,rfl,rfl⟩) ?_ (hs := ⟨rfl,trivial⟩)
    have hd4 := List.mem_of_getElem? he2
    simp only [List.mem_cons,List.not_mem_nil,or_false] at hd4
    refine xq 2 [.o 2] [okI (v0 + e2)] ?_ (hc := ⟨by unfold okI; (omega),trivial⟩)
    refine xk [(6,PV.ptr 2 0),(42,pI 0)] [(2,.obj [pI f0,pI f1,pI f2,pI f3])] [] [(2,.obj [pI f0,pI f1,pI f2,pI f3])] [(0,.obj [pS 1 false encI L,pN (tStep L (tStep L ap 6) 4)]),(5,oB true 1 encI ([0,0,0,5] : List Int)),(4,oB true 1 encI ([3,0,3,1,2,3] : List Int)),(1,oB true 4 eWindow os),(2,.obj [pI f0,pI f1,pI f2,pI f3]),(3,.obj [pI v0,pI v1,pI v2,pI v3])] (s_ia_arrN (q := 0) tab_110 rfl tab_3 rfl (by omega) rfl (by omega) ⟨rfl,rfl,rfl⟩) ?_ (hs := ⟨rfl,trivial⟩)
    refine xq 2 [.o 2] [] (xk [(45,PV.ptr 0 0)] [] [(0,.obj [pS 1 false encI L,pN (tStep L (tStep L ap 6) 4)])] [(0,.obj [pS 1 false encI L,pN (tStep L (tStep L (tStep L ap 6) 4) 3)])] [(0,.obj [pS 1 false encI L,pN (tStep L (tStep L (tStep L ap 6) 4) 3)]),(5,oB true 1 encI ([0,0,0,5] : List Int)),(4,oB true 1 encI ([3,0,3,1,2,3] : List Int)),(1,oB true 4 eWindow os),(2,.obj [pI f0,pI f1,pI f2,pI f3]),(3,.obj [pI v0,pI v1,pI v2,pI v3])] (s_callK 6 (pI (tNext L (tStep L (tStep L ap 6) 4) 3)) _ [0] (w_burgagekeep_Tape_Next L false (tStep L (tStep L ap 6) 4) 3 (by omega) (by omega)) ⟨rfl,rfl,rfl⟩) ?_)
    have hb46 := tNext_lt L (tStep L (tStep L ap 6) 4) (n := 3) (by decide)
    refine xq 2 [.o 2] [okI (f0 + (tNext L (tStep L (tStep L ap 6) 4) 3))] ?_ (hc := ⟨by unfold okI; (omega),trivial⟩)
    refine xk [(48,PV.ptr 0 0)] [] [(0,.obj [pS 1 false encI L,pN (tStep L (tStep L (tStep L ap 6) 4) 3)])] [(0,.obj [pS 1 false encI L,pN (tStep L (tStep L (tStep L (tStep L ap 6) 4) 3) 18)])] [(0,.obj [pS 1 false encI L,pN (tStep L (tStep L (tStep L (tStep L ap 6) 4) 3) 18)]),(5,oB true 1 encI ([0,0,0,5] : List Int)),(4,oB true 1 encI ([3,0,3,1,2,3] : List Int)),(1,oB true 4 eWindow os),(2,.obj [pI f0,pI f1,pI f2,pI f3]),(3,.obj [pI v0,pI v1,pI v2,pI v3])] (s_callK 6 (pI (tNext L (tStep L (tStep L (tStep L ap 6) 4) 3) 18)) _ [0] (w_burgagekeep_Tape_Next L false (tStep L (tStep L (tStep L ap 6) 4) 3) 18 (by omega) (by omega)) ⟨rfl,rfl,rfl⟩) ?_
    have hb49 := tNext_lt L (tStep L (tStep L (tStep L ap 6) 4) 3) (n := 18) (by decide)
    refine xd 4 [.o 4] [okI (1 + (tNext L (tStep L (tStep L (tStep L ap 6) 4) 3) 18))] 7 [(6,.obj [pI 0,pI (v0 + e2),pI (f0 + (tNext L (tStep L (tStep L ap 6) 4) 3)),pI (1 + (tNext L (tStep L (tStep L (tStep L ap 6) 4) 3) 18))]),(0,.obj [pS 1 false encI L,pN (tStep L (tStep L (tStep L (tStep L ap 6) 4) 3) 18)]),(5,oB true 1 encI ([0,0,0,5] : List Int)),(4,oB true 1 encI ([3,0,3,1,2,3] : List Int)),(1,oB true 4 eWindow os),(2,.obj [pI f0,pI f1,pI f2,pI f3]),(3,.obj [pI v0,pI v1,pI v2,pI v3])] ?_ (hc := ⟨by unfold okI; (omega),trivial⟩)
    refine xe [(0,PV.ptr 0 0),(5,PV.ref 1 0 none),(6,PV.ptr 2 0),(7,PV.ptr 3 0),(8,pI kk),(9,pI 0),(10,PV.ptr 6 0)] (re (w_seq (wdr hnt (xq 12 [.o 12] [okI ((v0 + e2) + (1 + (tNext L (tStep L (tStep L (tStep L ap 6) 4) 3) 18))),okI ((f0 + (tNext L (tStep L (tStep L ap 6) 4) 3)) + (1 + (tNext L (tStep L (tStep L (tStep L ap 6) 4) 3) 18)))] ?_ (hc := ⟨by unfold okI; (omega),by unfold okI; (omega),trivial⟩)))))
    refine xk [(7,PV.ptr 3 0),(52,pI 0)] [(3,.obj [pI v0,pI v1,pI v2,pI v3])] [] [(3,.obj [pI v0,pI v1,pI v2,pI v3])] [(6,.obj [pI 0,pI (v0 + e2),pI (f0 + (tNext L (tStep L (tStep L ap 6) 4) 3)),pI (1 + (tNext L (tStep L (tStep L (tStep L ap 6) 4) 3) 18))]),(0,.obj [pS 1 false encI L,pN (tStep L (tStep L (tStep L (tStep L ap 6) 4) 3) 18)]),(5,oB true 1 encI ([0,0,0,5] : List Int)),(4,oB true 1 encI ([3,0,3,1,2,3] : List Int)),(1,oB true 4 eWindow os),(2,.obj [pI f0,pI f1,pI f2,pI f3]),(3,.obj [pI v0,pI v1,pI v2,pI v3])] (s_ia_arrN (q := 0) tab_110 rfl tab_3 rfl (by omega) rfl (by omega) ⟨rfl,rfl,rfl⟩) ?_ (hs := ⟨rfl,trivial⟩)
    refine xd 1 [.o 1] [] 7 [(3,.obj [pI ((v0 + e2) + (1 + (tNext L (tStep L (tStep L (tStep L ap 6) 4) 3) 18))),pI v1,pI v2,pI v3]),(6,.obj [pI 0,pI (v0 + e2),pI (f0 + (tNext L (tStep L (tStep L ap 6) 4) 3)),pI (1 + (tNext L (tStep L (tStep L (tStep L ap 6) 4) 3) 18))]),(0,.obj [pS 1 false encI L,pN (tStep L (tStep L (tStep L (tStep L ap 6) 4) 3) 18)]),(5,oB true 1 encI ([0,0,0,5] : List Int)),(4,oB true 1 encI ([3,0,3,1,2,3] : List Int)),(1,oB true 4 eWindow os),(2,.obj [pI f0,pI f1,pI f2,pI f3])] (xk [(6,PV.ptr 2 0),(53,pI 0)] [(2,.obj [pI f0,pI f1,pI f2,pI f3])] [] [(2,.obj [pI f0,pI f1,pI f2,pI f3])] [(3,.obj [pI ((v0 + e2) + (1 + (tNext L (tStep L (tStep L (tStep L ap 6) 4) 3) 18))),pI v1,pI v2,pI v3]),(6,.obj [pI 0,pI (v0 + e2),pI (f0 + (tNext L (tStep L (tStep L ap 6) 4) 3)),pI (1 + (tNext L (tStep L (tStep L (tStep L ap 6) 4) 3) 18))]),(0,.obj [pS 1 false encI L,pN (tStep L (tStep L (tStep L (tStep L ap 6) 4) 3) 18)]),(5,oB true 1 encI ([0,0,0,5] : List Int)),(4,oB true 1 encI ([3,0,3,1,2,3] : List Int)),(1,oB true 4 eWindow os),(2,.obj [pI f0,pI f1,pI f2,pI f3])] (s_ia_arrN (q := 0) tab_110 rfl tab_3 rfl (by omega) rfl (by omega) ⟨rfl,rfl,rfl⟩) ?_ (hs := ⟨rfl,trivial⟩))
    refine xd 1 [.o 1] [] 7 [(2,.obj [pI ((f0 + (tNext L (tStep L (tStep L ap 6) 4) 3)) + (1 + (tNext L (tStep L (tStep L (tStep L ap 6) 4) 3) 18))),pI f1,pI f2,pI f3]),(3,.obj [pI ((v0 + e2) + (1 + (tNext L (tStep L (tStep L (tStep L ap 6) 4) 3) 18))),pI v1,pI v2,pI v3]),(6,.obj [pI 0,pI (v0 + e2),pI (f0 + (tNext L (tStep L (tStep L ap 6) 4) 3)),pI (1 + (tNext L (tStep L (tStep L (tStep L ap 6) 4) 3) 18))]),(0,.obj [pS 1 false encI L,pN (tStep L (tStep L (tStep L (tStep L ap 6) 4) 3) 18)]),(5,oB true 1 encI ([0,0,0,5] : List Int)),(4,oB true 1 encI ([3,0,3,1,2,3] : List Int)),(1,oB true 4 eWindow os)] (xe [(0,PV.ptr 0 0),(5,PV.ref 1 0 none),(6,PV.ptr 2 0),(7,PV.ptr 3 0),(8,pI kk),(10,PV.ptr 6 0)] (re (w_R (qm hnt rfl rfl (qo hnt rfl (s_load_ptr tab_42 rfl rfl rfl (nb rfl) ?_))))))
    refine qo hnt rfl (s_mkM (f := eWindow) [(⟨0,v0 + e2,f0 + (tNext L (tStep L (tStep L ap 6) 4) 3),1 + (tNext L (tStep L (tStep L (tStep L ap 6) 4) 3) 18)⟩ : TWindow)] tab_23 rfl tab_42 ⟨rfl,by decide⟩ (by decide) rfl rfl rfl rfl ?_)
    refine qo hnt rfl (s_appR0 (f := eWindow) (l := os) (xs := [(⟨0,v0 + e2,f0 + (tNext L (tStep L (tStep L ap 6) 4) 3),1 + (tNext L (tStep L (tStep L (tStep L ap 6) 4) 3) 18)⟩ : TWindow)]) tab_23 rfl tab_42 ⟨rfl,by decide,by decide⟩ (srcM tab_23 rfl (hM_ref0 (f := eWindow) rfl rfl)) rfl rfl (by (simp; omega)) ?_)
    refine qa hnt rfl rfl (r_set [(0,PV.ptr 0 0),(5,PV.ref 8 0 none),(6,PV.ptr 2 0),(7,PV.ptr 3 0),(8,pI kk)] [(8,oB true 4 eWindow (os ++ [(⟨0,v0 + e2,f0 + (tNext L (tStep L (tStep L ap 6) 4) 3),1 + (tNext L (tStep L (tStep L (tStep L ap 6) 4) 3) 18)⟩ : TWindow)])),(7,oB true 4 eWindow [(⟨0,v0 + e2,f0 + (tNext L (tStep L (tStep L ap 6) 4) 3),1 + (tNext L (tStep L (tStep L (tStep L ap 6) 4) 3) 18)⟩ : TWindow)]),(2,.obj [pI ((f0 + (tNext L (tStep L (tStep L ap 6) 4) 3)) + (1 + (tNext L (tStep L (tStep L (tStep L ap 6) 4) 3) 18))),pI f1,pI f2,pI f3]),(3,.obj [pI ((v0 + e2) + (1 + (tNext L (tStep L (tStep L (tStep L ap 6) 4) 3) 18))),pI v1,pI v2,pI v3]),(6,.obj [pI 0,pI (v0 + e2),pI (f0 + (tNext L (tStep L (tStep L ap 6) 4) 3)),pI (1 + (tNext L (tStep L (tStep L (tStep L ap 6) 4) 3) 18))]),(0,.obj [pS 1 false encI L,pN (tStep L (tStep L (tStep L (tStep L ap 6) 4) 3) 18)]),(5,oB true 1 encI ([0,0,0,5] : List Int)),(4,oB true 1 encI ([3,0,3,1,2,3] : List Int))] 9 ⟨rfl,rfl,rfl,rfl,rfl,trivial⟩ rfl rfl (r_end (q_block (q_then (w_R (qm hnt rfl rfl (qo hnt rfl (s_subi (r := kk - 1) rfl rfl rfl (by omega) ?_))))))))
    refine ae hnt rfl rfl (⟨(tStep L (tStep L (tStep L (tStep L ap 6) 4) 3) 18),(os ++ [(⟨0,v0 + e2,f0 + (tNext L (tStep L (tStep L ap 6) 4) 3),1 + (tNext L (tStep L (tStep L (tStep L ap 6) 4) 3) 18)⟩ : TWindow)]),((f0 + (tNext L (tStep L (tStep L ap 6) 4) 3)) + (1 + (tNext L (tStep L (tStep L (tStep L ap 6) 4) 3) 18))),(f1),(f2),(f3),((v0 + e2) + (1 + (tNext L (tStep L (tStep L (tStep L ap 6) 4) 3) 18))),(v1),(v2),(v3),(kk - 1), ?_, ?_,⟨[(0,0),(1,8),(2,2),(3,3)],by rw [hk]; decide,⟨⟨_,rfl,rfl,rfl⟩,⟨_,rfl,rfl,rfl⟩,⟨_,rfl,rfl,rfl⟩,⟨_,rfl,rfl,rfl⟩,⟨_,rfl,rfl,rfl⟩,trivial⟩,⟨⟨_,_,rfl,rfl,rfl,rfl⟩,⟨_,_,rfl,rfl,rfl,rfl⟩,⟨_,_,rfl,rfl,rfl,rfl⟩,⟨_,_,rfl,rfl,rfl,rfl⟩,trivial⟩,by rw [hk]; decide⟩⟩)
    ·refine ⟨by simp; omega,by omega, ?_⟩
     exact hW.step0 (by omega) (by omega) (by omega)
    · omega
   ·refine w_eq (s := 9) (y := pI 1) rfl (congrArg pI hs1) (wdr hnt (xq 2 [.o 2] [] (xk [(7,PV.ptr 3 0),(33,pI 1)] [(3,.obj [pI v0,pI v1,pI v2,pI v3])] [] [(3,.obj [pI v0,pI v1,pI v2,pI v3])] [(0,.obj [pS 1 false encI L,pN (tStep L ap 6)]),(4,oB true 1 encI ([3,0,3,1,2,3] : List Int)),(1,oB true 4 eWindow os),(2,.obj [pI f0,pI f1,pI f2,pI f3]),(3,.obj [pI v0,pI v1,pI v2,pI v3])] (s_ia_arrN (q := 1) tab_110 rfl tab_3 rfl (by omega) rfl (by omega) ⟨rfl,rfl,rfl⟩) ?_ (hs := ⟨rfl,trivial⟩))))
    refine xq 1 [.o 1] [] (xk [] [] [] [(5,oB true 1 encI ([0,0,0,5] : List Int))] [(5,oB true 1 encI ([0,0,0,5] : List Int)),(0,.obj [pS 1 false encI L,pN (tStep L ap 6)]),(4,oB true 1 encI ([3,0,3,1,2,3] : List Int)),(1,oB true 4 eWindow os),(2,.obj [pI f0,pI f1,pI f2,pI f3]),(3,.obj [pI v0,pI v1,pI v2,pI v3])] (s_mkM (f := encI) ([0,0,0,5] : List Int) tab_28 rfl tab_3 ⟨rfl,by decide⟩ (by decide) rfl rfl rfl rfl ⟨rfl,rfl,rfl⟩) (xq 1 [.o 1] [] (xk [(37,PV.ptr 0 0)] [] [(0,.obj [pS 1 false encI L,pN (tStep L ap 6)])] [(0,.obj [pS 1 false encI L,pN (tStep L (tStep L ap 6) 4)])] [(0,.obj [pS 1 false encI L,pN (tStep L (tStep L ap 6) 4)]),(5,oB true 1 encI ([0,0,0,5] : List Int)),(4,oB true 1 encI ([3,0,3,1,2,3] : List Int)),(1,oB true 4 eWindow os),(2,.obj [pI f0,pI f1,pI f2,pI f3]),(3,.obj [pI v0,pI v1,pI v2,pI v3])] (s_callK 6 (pI (tNext L (tStep L ap 6) 4)) _ [0] (w_burgagekeep_Tape_Next L false (tStep L ap 6) 4 (by omega) (by omega)) ⟨rfl,rfl,rfl⟩) ?_)))
    have hb38 := tNext_lt L (tStep L ap 6) (n := 4) (by decide)
    refine xk [(36,PV.ref 5 0 none),(38,pI (tNext L (tStep L ap 6) 4))] [(5,oB true 1 encI ([0,0,0,5] : List Int))] [] [(5,oB true 1 encI ([0,0,0,5] : List Int))] [(0,.obj [pS 1 false encI L,pN (tStep L (tStep L ap 6) 4)]),(5,oB true 1 encI ([0,0,0,5] : List Int)),(4,oB true 1 encI ([3,0,3,1,2,3] : List Int)),(1,oB true 4 eWindow os),(2,.obj [pI f0,pI f1,pI f2,pI f3]),(3,.obj [pI v0,pI v1,pI v2,pI v3])] (s_iaR0 (q := Int.toNat (tNext L (tStep L ap 6) 4)) (f := encI) (l := ([0,0,0,5] : List Int)) tab_28 rfl tab_3 rfl rfl (by omega) rfl rfl (by simp; omega) ⟨rfl,rfl,rfl⟩) ?_ (hs := ⟨rfl,trivial⟩)
    obtain ⟨e3,he3⟩ := get_of_lt ([0,0,0,5] : List Int) (i := Int.toNat (tNext L (tStep L ap 6) 4)) (by simp; omega)
    refine xk [(39,PV.ep 5 (Int.toNat (tNext L (tStep L ap 6) 4)) 0)] [(5,oB true 1 encI ([0,0,0,5] : List Int))] [] [(5,oB true 1 encI ([0,0,0,5] : List Int))] [(0,.obj [pS 1 false encI L,pN (tStep L (tStep L ap 6) 4)]),(5,oB true 1 encI ([0,0,0,5] : List Int)),(4,oB true 1 encI ([3,0,3,1,2,3] : List Int)),(1,oB true 4 eWindow os),(2,.obj [pI f0,pI f1,pI f2,pI f3]),(3,.obj [pI v0,pI v1,pI v2,pI v3])] (s_ldM (b := e3) (f := encI) tab_3 rfl rfl rfl rfl he3 rfl ⟨rfl,rfl,rfl⟩) ?_ (hs := ⟨rfl,trivial⟩)
    have hd4 := List.mem_of_getElem? he3
    simp only [List.mem_cons,List.not_mem_nil,or_false] at hd4
    refine xq 2 [.o 2] [okI (v1 + e3)] ?_ (hc := ⟨by unfold okI; (omega),trivial⟩)
    refine xk [(6,PV.ptr 2 0),(42,pI 1)] [(2,.obj [pI f0,pI f1,pI f2,pI f3])] [] [(2,.obj [pI f0,pI f1,pI f2,pI f3])] [(0,.obj [pS 1 false encI L,pN (tStep L (tStep L ap 6) 4)]),(5,oB true 1 encI ([0,0,0,5] : List Int)),(4,oB true 1 encI ([3,0,3,1,2,3] : List Int)),(1,oB true 4 eWindow os),(2,.obj [pI f0,pI f1,pI f2,pI f3]),(3,.obj [pI v0,pI v1,pI v2,pI v3])] (s_ia_arrN (q := 1) tab_110 rfl tab_3 rfl (by omega) rfl (by omega) ⟨rfl,rfl,rfl⟩) ?_ (hs := ⟨rfl,trivial⟩)
    refine xq 2 [.o 2] [] (xk [(45,PV.ptr 0 0)] [] [(0,.obj [pS 1 false encI L,pN (tStep L (tStep L ap 6) 4)])] [(0,.obj [pS 1 false encI L,pN (tStep L (tStep L (tStep L ap 6) 4) 3)])] [(0,.obj [pS 1 false encI L,pN (tStep L (tStep L (tStep L ap 6) 4) 3)]),(5,oB true 1 encI ([0,0,0,5] : List Int)),(4,oB true 1 encI ([3,0,3,1,2,3] : List Int)),(1,oB true 4 eWindow os),(2,.obj [pI f0,pI f1,pI f2,pI f3]),(3,.obj [pI v0,pI v1,pI v2,pI v3])] (s_callK 6 (pI (tNext L (tStep L (tStep L ap 6) 4) 3)) _ [0] (w_burgagekeep_Tape_Next L false (tStep L (tStep L ap 6) 4) 3 (by omega) (by omega)) ⟨rfl,rfl,rfl⟩) ?_)
    have hb46 := tNext_lt L (tStep L (tStep L ap 6) 4) (n := 3) (by decide)
    refine xq 2 [.o 2] [okI (f1 + (tNext L (tStep L (tStep L ap 6) 4) 3))] ?_ (hc := ⟨by unfold okI; (omega),trivial⟩)
    refine xk [(48,PV.ptr 0 0)] [] [(0,.obj [pS 1 false encI L,pN (tStep L (tStep L (tStep L ap 6) 4) 3)])] [(0,.obj [pS 1 false encI L,pN (tStep L (tStep L (tStep L (tStep L ap 6) 4) 3) 18)])] [(0,.obj [pS 1 false encI L,pN (tStep L (tStep L (tStep L (tStep L ap 6) 4) 3) 18)]),(5,oB true 1 encI ([0,0,0,5] : List Int)),(4,oB true 1 encI ([3,0,3,1,2,3] : List Int)),(1,oB true 4 eWindow os),(2,.obj [pI f0,pI f1,pI f2,pI f3]),(3,.obj [pI v0,pI v1,pI v2,pI v3])] (s_callK 6 (pI (tNext L (tStep L (tStep L (tStep L ap 6) 4) 3) 18)) _ [0] (w_burgagekeep_Tape_Next L false (tStep L (tStep L (tStep L ap 6) 4) 3) 18 (by omega) (by omega)) ⟨rfl,rfl,rfl⟩) ?_
    have hb49 := tNext_lt L (tStep L (tStep L (tStep L ap 6) 4) 3) (n := 18) (by decide)
    refine xd 4 [.o 4] [okI (1 + (tNext L (tStep L (tStep L (tStep L ap 6) 4) 3) 18))] 7 [(6,.obj [pI 1,pI (v1 + e3),pI (f1 + (tNext L (tStep L (tStep L ap 6) 4) 3)),pI (1 + (tNext L (tStep L (tStep L (tStep L ap 6) 4) 3) 18))]),(0,.obj [pS 1 false encI L,pN (tStep L (tStep L (tStep L (tStep L ap 6) 4) 3) 18)]),(5,oB true 1 encI ([0,0,0,5] : List Int)),(4,oB true 1 encI ([3,0,3,1,2,3] : List Int)),(1,oB true 4 eWindow os),(2,.obj [pI f0,pI f1,pI f2,pI f3]),(3,.obj [pI v0,pI v1,pI v2,pI v3])] ?_ (hc := ⟨by unfold okI; (omega),trivial⟩)
    refine xe [(0,PV.ptr 0 0),(5,PV.ref 1 0 none),(6,PV.ptr 2 0),(7,PV.ptr 3 0),(8,pI kk),(9,pI 1),(10,PV.ptr 6 0)] (re (w_seq (wdr hnt (xq 12 [.o 12] [okI ((v1 + e3) + (1 + (tNext L (tStep L (tStep L (tStep L ap 6) 4) 3) 18))),okI ((f1 + (tNext L (tStep L (tStep L ap 6) 4) 3)) + (1 + (tNext L (tStep L (tStep L (tStep L ap 6) 4) 3) 18)))] ?_ (hc := ⟨by unfold okI; (omega),by unfold okI; (omega),trivial⟩)))))
    refine xk [(7,PV.ptr 3 0),(52,pI 1)] [(3,.obj [pI v0,pI v1,pI v2,pI v3])] [] [(3,.obj [pI v0,pI v1,pI v2,pI v3])] [(6,.obj [pI 1,pI (v1 + e3),pI (f1 + (tNext L (tStep L (tStep L ap 6) 4) 3)),pI (1 + (tNext L (tStep L (tStep L (tStep L ap 6) 4) 3) 18))]),(0,.obj [pS 1 false encI L,pN (tStep L (tStep L (tStep L (tStep L ap 6) 4) 3) 18)]),(5,oB true 1 encI ([0,0,0,5] : List Int)),(4,oB true 1 encI ([3,0,3,1,2,3] : List Int)),(1,oB true 4 eWindow os),(2,.obj [pI f0,pI f1,pI f2,pI f3]),(3,.obj [pI v0,pI v1,pI v2,pI v3])] (s_ia_arrN (q := 1) tab_110 rfl tab_3 rfl (by omega) rfl (by omega) ⟨rfl,rfl,rfl⟩) ?_ (hs := ⟨rfl,trivial⟩)
    refine xd 1 [.o 1] [] 7 [(3,.obj [pI v0,pI ((v1 + e3) + (1 + (tNext L (tStep L (tStep L (tStep L ap 6) 4) 3) 18))),pI v2,pI v3]),(6,.obj [pI 1,pI (v1 + e3),pI (f1 + (tNext L (tStep L (tStep L ap 6) 4) 3)),pI (1 + (tNext L (tStep L (tStep L (tStep L ap 6) 4) 3) 18))]),(0,.obj [pS 1 false encI L,pN (tStep L (tStep L (tStep L (tStep L ap 6) 4) 3) 18)]),(5,oB true 1 encI ([0,0,0,5] : List Int)),(4,oB true 1 encI ([3,0,3,1,2,3] : List Int)),(1,oB true 4 eWindow os),(2,.obj [pI f0,pI f1,pI f2,pI f3])] (xk [(6,PV.ptr 2 0),(53,pI 1)] [(2,.obj [pI f0,pI f1,pI f2,pI f3])] [] [(2,.obj [pI f0,pI f1,pI f2,pI f3])] [(3,.obj [pI v0,pI ((v1 + e3) + (1 + (tNext L (tStep L (tStep L (tStep L ap 6) 4) 3) 18))),pI v2,pI v3]),(6,.obj [pI 1,pI (v1 + e3),pI (f1 + (tNext L (tStep L (tStep L ap 6) 4) 3)),pI (1 + (tNext L (tStep L (tStep L (tStep L ap 6) 4) 3) 18))]),(0,.obj [pS 1 false encI L,pN (tStep L (tStep L (tStep L (tStep L ap 6) 4) 3) 18)]),(5,oB true 1 encI ([0,0,0,5] : List Int)),(4,oB true 1 encI ([3,0,3,1,2,3] : List Int)),(1,oB true 4 eWindow os),(2,.obj [pI f0,pI f1,pI f2,pI f3])] (s_ia_arrN (q := 1) tab_110 rfl tab_3 rfl (by omega) rfl (by omega) ⟨rfl,rfl,rfl⟩) ?_ (hs := ⟨rfl,trivial⟩))
    refine xd 1 [.o 1] [] 7 [(2,.obj [pI f0,pI ((f1 + (tNext L (tStep L (tStep L ap 6) 4) 3)) + (1 + (tNext L (tStep L (tStep L (tStep L ap 6) 4) 3) 18))),pI f2,pI f3]),(3,.obj [pI v0,pI ((v1 + e3) + (1 + (tNext L (tStep L (tStep L (tStep L ap 6) 4) 3) 18))),pI v2,pI v3]),(6,.obj [pI 1,pI (v1 + e3),pI (f1 + (tNext L (tStep L (tStep L ap 6) 4) 3)),pI (1 + (tNext L (tStep L (tStep L (tStep L ap 6) 4) 3) 18))]),(0,.obj [pS 1 false encI L,pN (tStep L (tStep L (tStep L (tStep L ap 6) 4) 3) 18)]),(5,oB true 1 encI ([0,0,0,5] : List Int)),(4,oB true 1 encI ([3,0,3,1,2,3] : List Int)),(1,oB true 4 eWindow os)] (xe [(0,PV.ptr 0 0),(5,PV.ref 1 0 none),(6,PV.ptr 2 0),(7,PV.ptr 3 0),(8,pI kk),(10,PV.ptr 6 0)] (re (w_R (qm hnt rfl rfl (qo hnt rfl (s_load_ptr tab_42 rfl rfl rfl (nb rfl) ?_))))))
    refine qo hnt rfl (s_mkM (f := eWindow) [(⟨1,v1 + e3,f1 + (tNext L (tStep L (tStep L ap 6) 4) 3),1 + (tNext L (tStep L (tStep L (tStep L ap 6) 4) 3) 18)⟩ : TWindow)] tab_23 rfl tab_42 ⟨rfl,by decide⟩ (by decide) rfl rfl rfl rfl ?_)
    refine qo hnt rfl (s_appR0 (f := eWindow) (l := os) (xs := [(⟨1,v1 + e3,f1 + (tNext L (tStep L (tStep L ap 6) 4) 3),1 + (tNext L (tStep L (tStep L (tStep L ap 6) 4) 3) 18)⟩ : TWindow)]) tab_23 rfl tab_42 ⟨rfl,by decide,by decide⟩ (srcM tab_23 rfl (hM_ref0 (f := eWindow) rfl rfl)) rfl rfl (by (simp; omega)) ?_)
    refine qa hnt rfl rfl (r_set [(0,PV.ptr 0 0),(5,PV.ref 8 0 none),(6,PV.ptr 2 0),(7,PV.ptr 3 0),(8,pI kk)] [(8,oB true 4 eWindow (os ++ [(⟨1,v1 + e3,f1 + (tNext L (tStep L (tStep L ap 6) 4) 3),1 + (tNext L (tStep L (tStep L (tStep L ap 6) 4) 3) 18)⟩ : TWindow)])),(7,oB true 4 eWindow [(⟨1,v1 + e3,f1 + (tNext L (tStep L (tStep L ap 6) 4) 3),1 + (tNext L (tStep L (tStep L (tStep L ap 6) 4) 3) 18)⟩ : TWindow)]),(2,.obj [pI f0,pI ((f1 + (tNext L (tStep L (tStep L ap 6) 4) 3)) + (1 + (tNext L (tStep L (tStep L (tStep L ap 6) 4) 3) 18))),pI f2,pI f3]),(3,.obj [pI v0,pI ((v1 + e3) + (1 + (tNext L (tStep L (tStep L (tStep L ap 6) 4) 3) 18))),pI v2,pI v3]),(6,.obj [pI 1,pI (v1 + e3),pI (f1 + (tNext L (tStep L (tStep L ap 6) 4) 3)),pI (1 + (tNext L (tStep L (tStep L (tStep L ap 6) 4) 3) 18))]),(0,.obj [pS 1 false encI L,pN (tStep L (tStep L (tStep L (tStep L ap 6) 4) 3) 18)]),(5,oB true 1 encI ([0,0,0,5] : List Int)),(4,oB true 1 encI ([3,0,3,1,2,3] : List Int))] 9 ⟨rfl,rfl,rfl,rfl,rfl,trivial⟩ rfl rfl (r_end (q_block (q_then (w_R (qm hnt rfl rfl (qo hnt rfl (s_subi (r := kk - 1) rfl rfl rfl (by omega) ?_))))))))
    refine ae hnt rfl rfl (⟨(tStep L (tStep L (tStep L (tStep L ap 6) 4) 3) 18),(os ++ [(⟨1,v1 + e3,f1 + (tNext L (tStep L (tStep L ap 6) 4) 3),1 + (tNext L (tStep L (tStep L (tStep L ap 6) 4) 3) 18)⟩ : TWindow)]),(f0),((f1 + (tNext L (tStep L (tStep L ap 6) 4) 3)) + (1 + (tNext L (tStep L (tStep L (tStep L ap 6) 4) 3) 18))),(f2),(f3),(v0),((v1 + e3) + (1 + (tNext L (tStep L (tStep L (tStep L ap 6) 4) 3) 18))),(v2),(v3),(kk - 1), ?_, ?_,⟨[(0,0),(1,8),(2,2),(3,3)],by rw [hk]; decide,⟨⟨_,rfl,rfl,rfl⟩,⟨_,rfl,rfl,rfl⟩,⟨_,rfl,rfl,rfl⟩,⟨_,rfl,rfl,rfl⟩,⟨_,rfl,rfl,rfl⟩,trivial⟩,⟨⟨_,_,rfl,rfl,rfl,rfl⟩,⟨_,_,rfl,rfl,rfl,rfl⟩,⟨_,_,rfl,rfl,rfl,rfl⟩,⟨_,_,rfl,rfl,rfl,rfl⟩,trivial⟩,by rw [hk]; decide⟩⟩)
    ·refine ⟨by simp; omega,by omega, ?_⟩
     exact hW.step1 (by omega) (by omega) (by omega)
    · omega
   ·refine w_eq (s := 9) (y := pI 2) rfl (congrArg pI hs1) (wdr hnt (xq 2 [.o 2] [] (xk [(7,PV.ptr 3 0),(33,pI 2)] [(3,.obj [pI v0,pI v1,pI v2,pI v3])] [] [(3,.obj [pI v0,pI v1,pI v2,pI v3])] [(0,.obj [pS 1 false encI L,pN (tStep L ap 6)]),(4,oB true 1 encI ([3,0,3,1,2,3] : List Int)),(1,oB true 4 eWindow os),(2,.obj [pI f0,pI f1,pI f2,pI f3]),(3,.obj [pI v0,pI v1,pI v2,pI v3])] (s_ia_arrN (q := 2) tab_110 rfl tab_3 rfl (by omega) rfl (by omega) ⟨rfl,rfl,rfl⟩) ?_ (hs := ⟨rfl,trivial⟩))))
    refine xq 1 [.o 1] [] (xk [] [] [] [(5,oB true 1 encI ([0,0,0,5] : List Int))] [(5,oB true 1 encI ([0,0,0,5] : List Int)),(0,.obj [pS 1 false encI L,pN (tStep L ap 6)]),(4,oB true 1 encI ([3,0,3,1,2,3] : List Int)),(1,oB true 4 eWindow os),(2,.obj [pI f0,pI f1,pI f2,pI f3]),(3,.obj [pI v0,pI v1,pI v2,pI v3])] (s_mkM (f := encI) ([0,0,0,5] : List Int) tab_28 rfl tab_3 ⟨rfl,by decide⟩ (by decide) rfl rfl rfl rfl ⟨rfl,rfl,rfl⟩) (xq 1 [.o 1] [] (xk [(37,PV.ptr 0 0)] [] [(0,.obj [pS 1 false encI L,pN (tStep L ap 6)])] [(0,.obj [pS 1 false encI L,pN (tStep L (tStep L ap 6) 4)])] [(0,.obj [pS 1 false encI L,pN (tStep L (tStep L ap 6) 4)]),(5,oB true 1 encI ([0,0,0,5] : List Int)),(4,oB true 1 encI ([3,0,3,1,2,3] : List Int)),(1,oB true 4 eWindow os),(2,.obj [pI f0,pI f1,pI f2,pI f3]),(3,.obj [pI v0,pI v1,pI v2,pI v3])] (s_callK 6 (pI (tNext L (tStep L ap 6) 4)) _ [0] (w_burgagekeep_Tape_Next L false (tStep L ap 6) 4 (by omega) (by omega)) ⟨rfl,rfl,rfl⟩) ?_)))
    have hb38 := tNext_lt L (tStep L ap 6) (n := 4) (by decide)
    refine xk [(36,PV.ref 5 0 none),(38,pI (tNext L (tStep L ap 6) 4))] [(5,oB true 1 encI ([0,0,0,5] : List Int))] [] [(5,oB true 1 encI ([0,0,0,5] : List Int))] [(0,.obj [pS 1 false encI L,pN (tStep L (tStep L ap 6) 4)]),(5,oB true 1 encI ([0,0,0,5] : List Int)),(4,oB true 1 encI ([3,0,3,1,2,3] : List Int)),(1,oB true 4 eWindow os),(2,.obj [pI f0,pI f1,pI f2,pI f3]),(3,.obj [pI v0,pI v1,pI v2,pI v3])] (s_iaR0 (q := Int.toNat (tNext L (tStep L ap 6) 4)) (f := encI) (l := ([0,0,0,5] : List Int)) tab_28 rfl tab_3 rfl rfl (by omega) rfl rfl (by simp; omega) ⟨rfl,rfl,rfl⟩) ?_ (hs := ⟨rfl,trivial⟩)
    obtain ⟨e4,he4⟩ := get_of_lt ([0,0,0,5] : List Int) (i := Int.toNat (tNext L (tStep L ap 6) 4)) (by simp; omega)
    refine xk [(39,PV.ep 5 (Int.toNat (tNext L (tStep L ap 6) 4)) 0)] [(5,oB true 1 encI ([0,0,0,5] : List Int))] [] [(5,oB true 1 encI ([0,0,0,5] : List Int))] [(0,.obj [pS 1 false encI L,pN (tStep L (tStep L ap 6) 4)]),(5,oB true 1 encI ([0,0,0,5] : List Int)),(4,oB true 1 encI ([3,0,3,1,2,3] : List Int)),(1,oB true 4 eWindow os),(2,.obj [pI f0,pI f1,pI f2,pI f3]),(3,.obj [pI v0,pI v1,pI v2,pI v3])] (s_ldM (b := e4) (f := encI) tab_3 rfl rfl rfl rfl he4 rfl ⟨rfl,rfl,rfl⟩) ?_ (hs := ⟨rfl,trivial⟩)
    have hd4 := List.mem_of_getElem? he4
    simp only [List.mem_cons,List.not_mem_nil,or_false] at hd4
    refine xq 2 [.o 2] [okI (v2 + e4)] ?_ (hc := ⟨by unfold okI; (omega),trivial⟩)
    refine xk [(6,PV.ptr 2 0),(42,pI 2)] [(2,.obj [pI f0,pI f1,pI f2,pI f3])] [] [(2,.obj [pI f0,pI f1,pI f2,pI f3])] [(0,.obj [pS 1 false encI L,pN (tStep L (tStep L ap 6) 4)]),(5,oB true 1 encI ([0,0,0,5] : List Int)),(4,oB true 1 encI ([3,0,3,1,2,3] : List Int)),(1,oB true 4 eWindow os),(2,.obj [pI f0,pI f1,pI f2,pI f3]),(3,.obj [pI v0,pI v1,pI v2,pI v3])] (s_ia_arrN (q := 2) tab_110 rfl tab_3 rfl (by omega) rfl (by omega) ⟨rfl,rfl,rfl⟩) ?_ (hs := ⟨rfl,trivial⟩)
    refine xq 2 [.o 2] [] (xk [(45,PV.ptr 0 0)] [] [(0,.obj [pS 1 false encI L,pN (tStep L (tStep L ap 6) 4)])] [(0,.obj [pS 1 false encI L,pN (tStep L (tStep L (tStep L ap 6) 4) 3)])] [(0,.obj [pS 1 false encI L,pN (tStep L (tStep L (tStep L ap 6) 4) 3)]),(5,oB true 1 encI ([0,0,0,5] : List Int)),(4,oB true 1 encI ([3,0,3,1,2,3] : List Int)),(1,oB true 4 eWindow os),(2,.obj [pI f0,pI f1,pI f2,pI f3]),(3,.obj [pI v0,pI v1,pI v2,pI v3])] (s_callK 6 (pI (tNext L (tStep L (tStep L ap 6) 4) 3)) _ [0] (w_burgagekeep_Tape_Next L false (tStep L (tStep L ap 6) 4) 3 (by omega) (by omega)) ⟨rfl,rfl,rfl⟩) ?_)
    have hb46 := tNext_lt L (tStep L (tStep L ap 6) 4) (n := 3) (by decide)
    refine xq 2 [.o 2] [okI (f2 + (tNext L (tStep L (tStep L ap 6) 4) 3))] ?_ (hc := ⟨by unfold okI; (omega),trivial⟩)
    refine xk [(48,PV.ptr 0 0)] [] [(0,.obj [pS 1 false encI L,pN (tStep L (tStep L (tStep L ap 6) 4) 3)])] [(0,.obj [pS 1 false encI L,pN (tStep L (tStep L (tStep L (tStep L ap 6) 4) 3) 18)])] [(0,.obj [pS 1 false encI L,pN (tStep L (tStep L (tStep L (tStep L ap 6) 4) 3) 18)]),(5,oB true 1 encI ([0,0,0,5] : List Int)),(4,oB true 1 encI ([3,0,3,1,2,3] : List Int)),(1,oB true 4 eWindow os),(2,.obj [pI f0,pI f1,pI f2,pI f3]),(3,.obj [pI v0,pI v1,pI v2,pI v3])] (s_callK 6 (pI (tNext L (tStep L (tStep L (tStep L ap 6) 4) 3) 18)) _ [0] (w_burgagekeep_Tape_Next L false (tStep L (tStep L (tStep L ap 6) 4) 3) 18 (by omega) (by omega)) ⟨rfl,rfl,rfl⟩) ?_
    have hb49 := tNext_lt L (tStep L (tStep L (tStep L ap 6) 4) 3) (n := 18) (by decide)
    refine xd 4 [.o 4] [okI (1 + (tNext L (tStep L (tStep L (tStep L ap 6) 4) 3) 18))] 7 [(6,.obj [pI 2,pI (v2 + e4),pI (f2 + (tNext L (tStep L (tStep L ap 6) 4) 3)),pI (1 + (tNext L (tStep L (tStep L (tStep L ap 6) 4) 3) 18))]),(0,.obj [pS 1 false encI L,pN (tStep L (tStep L (tStep L (tStep L ap 6) 4) 3) 18)]),(5,oB true 1 encI ([0,0,0,5] : List Int)),(4,oB true 1 encI ([3,0,3,1,2,3] : List Int)),(1,oB true 4 eWindow os),(2,.obj [pI f0,pI f1,pI f2,pI f3]),(3,.obj [pI v0,pI v1,pI v2,pI v3])] ?_ (hc := ⟨by unfold okI; (omega),trivial⟩)
    refine xe [(0,PV.ptr 0 0),(5,PV.ref 1 0 none),(6,PV.ptr 2 0),(7,PV.ptr 3 0),(8,pI kk),(9,pI 2),(10,PV.ptr 6 0)] (re (w_seq (wdr hnt (xq 12 [.o 12] [okI ((v2 + e4) + (1 + (tNext L (tStep L (tStep L (tStep L ap 6) 4) 3) 18))),okI ((f2 + (tNext L (tStep L (tStep L ap 6) 4) 3)) + (1 + (tNext L (tStep L (tStep L (tStep L ap 6) 4) 3) 18)))] ?_ (hc := ⟨by unfold okI; (omega),by unfold okI; (omega),trivial⟩)))))
    refine xk [(7,PV.ptr 3 0),(52,pI 2)] [(3,.obj [pI v0,pI v1,pI v2,pI v3])] [] [(3,.obj [pI v0,pI v1,pI v2,pI v3])] [(6,.obj [pI 2,pI (v2 + e4),pI (f2 + (tNext L (tStep L (tStep L ap 6) 4) 3)),pI (1 + (tNext L (tStep L (tStep L (tStep L ap 6) 4) 3) 18))]),(0,.obj [pS 1 false encI L,pN (tStep L (tStep L (tStep L (tStep L ap 6) 4) 3) 18)]),(5,oB true 1 encI ([0,0,0,5] : List Int)),(4,oB true 1 encI ([3,0,3,1,2,3] : List Int)),(1,oB true 4 eWindow os),(2,.obj [pI f0,pI f1,pI f2,pI f3]),(3,.obj [pI v0,pI v1,pI v2,pI v3])] (s_ia_arrN (q := 2) tab_110 rfl tab_3 rfl (by omega) rfl (by omega) ⟨rfl,rfl,rfl⟩) ?_ (hs := ⟨rfl,trivial⟩)
    refine xd 1 [.o 1] [] 7 [(3,.obj [pI v0,pI v1,pI ((v2 + e4) + (1 + (tNext L (tStep L (tStep L (tStep L ap 6) 4) 3) 18))),pI v3]),(6,.obj [pI 2,pI (v2 + e4),pI (f2 + (tNext L (tStep L (tStep L ap 6) 4) 3)),pI (1 + (tNext L (tStep L (tStep L (tStep L ap 6) 4) 3) 18))]),(0,.obj [pS 1 false encI L,pN (tStep L (tStep L (tStep L (tStep L ap 6) 4) 3) 18)]),(5,oB true 1 encI ([0,0,0,5] : List Int)),(4,oB true 1 encI ([3,0,3,1,2,3] : List Int)),(1,oB true 4 eWindow os),(2,.obj [pI f0,pI f1,pI f2,pI f3])] (xk [(6,PV.ptr 2 0),(53,pI 2)] [(2,.obj [pI f0,pI f1,pI f2,pI f3])] [] [(2,.obj [pI f0,pI f1,pI f2,pI f3])] [(3,.obj [pI v0,pI v1,pI ((v2 + e4) + (1 + (tNext L (tStep L (tStep L (tStep L ap 6) 4) 3) 18))),pI v3]),(6,.obj [pI 2,pI (v2 + e4),pI (f2 + (tNext L (tStep L (tStep L ap 6) 4) 3)),pI (1 + (tNext L (tStep L (tStep L (tStep L ap 6) 4) 3) 18))]),(0,.obj [pS 1 false encI L,pN (tStep L (tStep L (tStep L (tStep L ap 6) 4) 3) 18)]),(5,oB true 1 encI ([0,0,0,5] : List Int)),(4,oB true 1 encI ([3,0,3,1,2,3] : List Int)),(1,oB true 4 eWindow os),(2,.obj [pI f0,pI f1,pI f2,pI f3])] (s_ia_arrN (q := 2) tab_110 rfl tab_3 rfl (by omega) rfl (by omega) ⟨rfl,rfl,rfl⟩) ?_ (hs := ⟨rfl,trivial⟩))
    refine xd 1 [.o 1] [] 7 [(2,.obj [pI f0,pI f1,pI ((f2 + (tNext L (tStep L (tStep L ap 6) 4) 3)) + (1 + (tNext L (tStep L (tStep L (tStep L ap 6) 4) 3) 18))),pI f3]),(3,.obj [pI v0,pI v1,pI ((v2 + e4) + (1 + (tNext L (tStep L (tStep L (tStep L ap 6) 4) 3) 18))),pI v3]),(6,.obj [pI 2,pI (v2 + e4),pI (f2 + (tNext L (tStep L (tStep L ap 6) 4) 3)),pI (1 + (tNext L (tStep L (tStep L (tStep L ap 6) 4) 3) 18))]),(0,.obj [pS 1 false encI L,pN (tStep L (tStep L (tStep L (tStep L ap 6) 4) 3) 18)]),(5,oB true 1 encI ([0,0,0,5] : List Int)),(4,oB true 1 encI ([3,0,3,1,2,3] : List Int)),(1,oB true 4 eWindow os)] (xe [(0,PV.ptr 0 0),(5,PV.ref 1 0 none),(6,PV.ptr 2 0),(7,PV.ptr 3 0),(8,pI kk),(10,PV.ptr 6 0)] (re (w_R (qm hnt rfl rfl (qo hnt rfl (s_load_ptr tab_42 rfl rfl rfl (nb rfl) ?_))))))
    refine qo hnt rfl (s_mkM (f := eWindow) [(⟨2,v2 + e4,f2 + (tNext L (tStep L (tStep L ap 6) 4) 3),1 + (tNext L (tStep L (tStep L (tStep L ap 6) 4) 3) 18)⟩ : TWindow)] tab_23 rfl tab_42 ⟨rfl,by decide⟩ (by decide) rfl rfl rfl rfl ?_)
    refine qo hnt rfl (s_appR0 (f := eWindow) (l := os) (xs := [(⟨2,v2 + e4,f2 + (tNext L (tStep L (tStep L ap 6) 4) 3),1 + (tNext L (tStep L (tStep L (tStep L ap 6) 4) 3) 18)⟩ : TWindow)]) tab_23 rfl tab_42 ⟨rfl,by decide,by decide⟩ (srcM tab_23 rfl (hM_ref0 (f := eWindow) rfl rfl)) rfl rfl (by (simp; omega)) ?_)
    refine qa hnt rfl rfl (r_set [(0,PV.ptr 0 0),(5,PV.ref 8 0 none),(6,PV.ptr 2 0),(7,PV.ptr 3 0),(8,pI kk)] [(8,oB true 4 eWindow (os ++ [(⟨2,v2 + e4,f2 + (tNext L (tStep L (tStep L ap 6) 4) 3),1 + (tNext L (tStep L (tStep L (tStep L ap 6) 4) 3) 18)⟩ : TWindow)])),(7,oB true 4 eWindow [(⟨2,v2 + e4,f2 + (tNext L (tStep L (tStep L ap 6) 4) 3),1 + (tNext L (tStep L (tStep L (tStep L ap 6) 4) 3) 18)⟩ : TWindow)]),(2,.obj [pI f0,pI f1,pI ((f2 + (tNext L (tStep L (tStep L ap 6) 4) 3)) + (1 + (tNext L (tStep L (tStep L (tStep L ap 6) 4) 3) 18))),pI f3]),(3,.obj [pI v0,pI v1,pI ((v2 + e4) + (1 + (tNext L (tStep L (tStep L (tStep L ap 6) 4) 3) 18))),pI v3]),(6,.obj [pI 2,pI (v2 + e4),pI (f2 + (tNext L (tStep L (tStep L ap 6) 4) 3)),pI (1 + (tNext L (tStep L (tStep L (tStep L ap 6) 4) 3) 18))]),(0,.obj [pS 1 false encI L,pN (tStep L (tStep L (tStep L (tStep L ap 6) 4) 3) 18)]),(5,oB true 1 encI ([0,0,0,5] : List Int)),(4,oB true 1 encI ([3,0,3,1,2,3] : List Int))] 9 ⟨rfl,rfl,rfl,rfl,rfl,trivial⟩ rfl rfl (r_end (q_block (q_then (w_R (qm hnt rfl rfl (qo hnt rfl (s_subi (r := kk - 1) rfl rfl rfl (by omega) ?_))))))))
    refine ae hnt rfl rfl (⟨(tStep L (tStep L (tStep L (tStep L ap 6) 4) 3) 18),(os ++ [(⟨2,v2 + e4,f2 + (tNext L (tStep L (tStep L ap 6) 4) 3),1 + (tNext L (tStep L (tStep L (tStep L ap 6) 4) 3) 18)⟩ : TWindow)]),(f0),(f1),((f2 + (tNext L (tStep L (tStep L ap 6) 4) 3)) + (1 + (tNext L (tStep L (tStep L (tStep L ap 6) 4) 3) 18))),(f3),(v0),(v1),((v2 + e4) + (1 + (tNext L (tStep L (tStep L (tStep L ap 6) 4) 3) 18))),(v3),(kk - 1), ?_, ?_,⟨[(0,0),(1,8),(2,2),(3,3)],by rw [hk]; decide,⟨⟨_,rfl,rfl,rfl⟩,⟨_,rfl,rfl,rfl⟩,⟨_,rfl,rfl,rfl⟩,⟨_,rfl,rfl,rfl⟩,⟨_,rfl,rfl,rfl⟩,trivial⟩,⟨⟨_,_,rfl,rfl,rfl,rfl⟩,⟨_,_,rfl,rfl,rfl,rfl⟩,⟨_,_,rfl,rfl,rfl,rfl⟩,⟨_,_,rfl,rfl,rfl,rfl⟩,trivial⟩,by rw [hk]; decide⟩⟩)
    ·refine ⟨by simp; omega,by omega, ?_⟩
     exact hW.step2 (by omega) (by omega) (by omega)
    · omega
   ·refine w_eq (s := 9) (y := pI 3) rfl (congrArg pI hs1) (wdr hnt (xq 2 [.o 2] [] (xk [(7,PV.ptr 3 0),(33,pI 3)] [(3,.obj [pI v0,pI v1,pI v2,pI v3])] [] [(3,.obj [pI v0,pI v1,pI v2,pI v3])] [(0,.obj [pS 1 false encI L,pN (tStep L ap 6)]),(4,oB true 1 encI ([3,0,3,1,2,3] : List Int)),(1,oB true 4 eWindow os),(2,.obj [pI f0,pI f1,pI f2,pI f3]),(3,.obj [pI v0,pI v1,pI v2,pI v3])] (s_ia_arrN (q := 3) tab_110 rfl tab_3 rfl (by omega) rfl (by omega) ⟨rfl,rfl,rfl⟩) ?_ (hs := ⟨rfl,trivial⟩))))
    refine xq 1 [.o 1] [] (xk [] [] [] [(5,oB true 1 encI ([0,0,0,5] : List Int))] [(5,oB true 1 encI ([0,0,0,5] : List Int)),(0,.obj [pS 1 false encI L,pN (tStep L ap 6)]),(4,oB true 1 encI ([3,0,3,1,2,3] : List Int)),(1,oB true 4 eWindow os),(2,.obj [pI f0,pI f1,pI f2,pI f3]),(3,.obj [pI v0,pI v1,pI v2,pI v3])] (s_mkM (f := encI) ([0,0,0,5] : List Int) tab_28 rfl tab_3 ⟨rfl,by decide⟩ (by decide) rfl rfl rfl rfl ⟨rfl,rfl,rfl⟩) (xq 1 [.o 1] [] (xk [(37,PV.ptr 0 0)] [] [(0,.obj [pS 1 false encI L,pN (tStep L ap 6)])] [(0,.obj [pS 1 false encI L,pN (tStep L (tStep L ap 6) 4)])] [(0,.obj [pS 1 false encI L,pN (tStep L (tStep L ap 6) 4)]),(5,oB true 1 encI ([0,0,0,5] : List Int)),(4,oB true 1 encI ([3,0,3,1,2,3] : List Int)),(1,oB true 4 eWindow os),(2,.obj [pI f0,pI f1,pI f2,pI f3]),(3,.obj [pI v0,pI v1,pI v2,pI v3])] (s_callK 6 (pI (tNext L (tStep L ap 6) 4)) _ [0] (w_burgagekeep_Tape_Next L false (tStep L ap 6) 4 (by omega) (by omega)) ⟨rfl,rfl,rfl⟩) ?_)))
    have hb38 := tNext_lt L (tStep L ap 6) (n := 4) (by decide)
    refine xk [(36,PV.ref 5 0 none),(38,pI (tNext L (tStep L ap 6) 4))] [(5,oB true 1 encI ([0,0,0,5] : List Int))] [] [(5,oB true 1 encI ([0,0,0,5] : List Int))] [(0,.obj [pS 1 false encI L,pN (tStep L (tStep L ap 6) 4)]),(5,oB true 1 encI ([0,0,0,5] : List Int)),(4,oB true 1 encI ([3,0,3,1,2,3] : List Int)),(1,oB true 4 eWindow os),(2,.obj [pI f0,pI f1,pI f2,pI f3]),(3,.obj [pI v0,pI v1,pI v2,pI v3])] (s_iaR0 (q := Int.toNat (tNext L (tStep L ap 6) 4)) (f := encI) (l := ([0,0,0,5] : List Int)) tab_28 rfl tab_3 rfl rfl (by omega) rfl rfl (by simp; omega) ⟨rfl,rfl,rfl⟩) ?_ (hs := ⟨rfl,trivial⟩)
    obtain ⟨e5,he5⟩ := get_of_lt ([0,0,0,5] : List Int) (i := Int.toNat (tNext L (tStep L ap 6) 4)) (by simp; omega)
    refine xk [(39,PV.ep 5 (Int.toNat (tNext L (tStep L ap 6) 4)) 0)] [(5,oB true 1 encI ([0,0,0,5] : List Int))] [] [(5,oB true 1 encI ([0,0,0,5] : List Int))] [(0,.obj [pS 1 false encI L,pN (tStep L (tStep L ap 6) 4)]),(5,oB true 1 encI ([0,0,0,5] : List Int)),(4,oB true 1 encI ([3,0,3,1,2,3] : List Int)),(1,oB true 4 eWindow os),(2,.obj [pI f0,pI f1,pI f2,pI f3]),(3,.obj [pI v0,pI v1,pI v2,pI v3])] (s_ldM (b := e5) (f := encI) tab_3 rfl rfl rfl rfl he5 rfl ⟨rfl,rfl,rfl⟩) ?_ (hs := ⟨rfl,trivial⟩)
    have hd4 := List.mem_of_getElem? he5
    simp only [List.mem_cons,List.not_mem_nil,or_false] at hd4
    refine xq 2 [.o 2] [okI (v3 + e5)] ?_ (hc := ⟨by unfold okI; (omega),trivial⟩)
    refine xk [(6,PV.ptr 2 0),(42,pI 3)] [(2,.obj [pI f0,pI f1,pI f2,pI f3])] [] [(2,.obj [pI f0,pI f1,pI f2,pI f3])] [(0,.obj [pS 1 false encI L,pN (tStep L (tStep L ap 6) 4)]),(5,oB true 1 encI ([0,0,0,5] : List Int)),(4,oB true 1 encI ([3,0,3,1,2,3] : List Int)),(1,oB true 4 eWindow os),(2,.obj [pI f0,pI f1,pI f2,pI f3]),(3,.obj [pI v0,pI v1,pI v2,pI v3])] (s_ia_arrN (q := 3) tab_110 rfl tab_3 rfl (by omega) rfl (by omega) ⟨rfl,rfl,rfl⟩) ?_ (hs := ⟨rfl,trivial⟩)
    refine xq 2 [.o 2] [] (xk [(45,PV.ptr 0 0)] [] [(0,.obj [pS 1 false encI L,pN (tStep L (tStep L ap 6) 4)])] [(0,.obj [pS 1 false encI L,pN (tStep L (tStep L (tStep L ap 6) 4) 3)])] [(0,.obj [pS 1 false encI L,pN (tStep L (tStep L (tStep L ap 6) 4) 3)]),(5,oB true 1 encI ([0,0,0,5] : List Int)),(4,oB true 1 encI ([3,0,3,1,2,3] : List Int)),(1,oB true 4 eWindow os),(2,.obj [pI f0,pI f1,pI f2,pI f3]),(3,.obj [pI v0,pI v1,pI v2,pI v3])] (s_callK 6 (pI (tNext L (tStep L (tStep L ap 6) 4) 3)) _ [0] (w_burgagekeep_Tape_Next L false (tStep L (tStep L ap 6) 4) 3 (by omega) (by omega)) ⟨rfl,rfl,rfl⟩) ?_)
    have hb46 := tNext_lt L (tStep L (tStep L ap 6) 4) (n := 3) (by decide)
    refine xq 2 [.o 2] [okI (f3 + (tNext L (tStep L (tStep L ap 6) 4) 3))] ?_ (hc := ⟨by unfold okI; (omega),trivial⟩)
    refine xk [(48,PV.ptr 0 0)] [] [(0,.obj [pS 1 false encI L,pN (tStep L (tStep L (tStep L ap 6) 4) 3)])] [(0,.obj [pS 1 false encI L,pN (tStep L (tStep L (tStep L (tStep L ap 6) 4) 3) 18)])] [(0,.obj [pS 1 false encI L,pN (tStep L (tStep L (tStep L (tStep L ap 6) 4) 3) 18)]),(5,oB true 1 encI ([0,0,0,5] : List Int)),(4,oB true 1 encI ([3,0,3,1,2,3] : List Int)),(1,oB true 4 eWindow os),(2,.obj [pI f0,pI f1,pI f2,pI f3]),(3,.obj [pI v0,pI v1,pI v2,pI v3])] (s_callK 6 (pI (tNext L (tStep L (tStep L (tStep L ap 6) 4) 3) 18)) _ [0] (w_burgagekeep_Tape_Next L false (tStep L (tStep L (tStep L ap 6) 4) 3) 18 (by omega) (by omega)) ⟨rfl,rfl,rfl⟩) ?_
    have hb49 := tNext_lt L (tStep L (tStep L (tStep L ap 6) 4) 3) (n := 18) (by decide)
    refine xd 4 [.o 4] [okI (1 + (tNext L (tStep L (tStep L (tStep L ap 6) 4) 3) 18))] 7 [(6,.obj [pI 3,pI (v3 + e5),pI (f3 + (tNext L (tStep L (tStep L ap 6) 4) 3)),pI (1 + (tNext L (tStep L (tStep L (tStep L ap 6) 4) 3) 18))]),(0,.obj [pS 1 false encI L,pN (tStep L (tStep L (tStep L (tStep L ap 6) 4) 3) 18)]),(5,oB true 1 encI ([0,0,0,5] : List Int)),(4,oB true 1 encI ([3,0,3,1,2,3] : List Int)),(1,oB true 4 eWindow os),(2,.obj [pI f0,pI f1,pI f2,pI f3]),(3,.obj [pI v0,pI v1,pI v2,pI v3])] ?_ (hc := ⟨by unfold okI; (omega),trivial⟩)
    refine xe [(0,PV.ptr 0 0),(5,PV.ref 1 0 none),(6,PV.ptr 2 0),(7,PV.ptr 3 0),(8,pI kk),(9,pI 3),(10,PV.ptr 6 0)] (re (w_seq (wdr hnt (xq 12 [.o 12] [okI ((v3 + e5) + (1 + (tNext L (tStep L (tStep L (tStep L ap 6) 4) 3) 18))),okI ((f3 + (tNext L (tStep L (tStep L ap 6) 4) 3)) + (1 + (tNext L (tStep L (tStep L (tStep L ap 6) 4) 3) 18)))] ?_ (hc := ⟨by unfold okI; (omega),by unfold okI; (omega),trivial⟩)))))
    refine xk [(7,PV.ptr 3 0),(52,pI 3)] [(3,.obj [pI v0,pI v1,pI v2,pI v3])] [] [(3,.obj [pI v0,pI v1,pI v2,pI v3])] [(6,.obj [pI 3,pI (v3 + e5),pI (f3 + (tNext L (tStep L (tStep L ap 6) 4) 3)),pI (1 + (tNext L (tStep L (tStep L (tStep L ap 6) 4) 3) 18))]),(0,.obj [pS 1 false encI L,pN (tStep L (tStep L (tStep L (tStep L ap 6) 4) 3) 18)]),(5,oB true 1 encI ([0,0,0,5] : List Int)),(4,oB true 1 encI ([3,0,3,1,2,3] : List Int)),(1,oB true 4 eWindow os),(2,.obj [pI f0,pI f1,pI f2,pI f3]),(3,.obj [pI v0,pI v1,pI v2,pI v3])] (s_ia_arrN (q := 3) tab_110 rfl tab_3 rfl (by omega) rfl (by omega) ⟨rfl,rfl,rfl⟩) ?_ (hs := ⟨rfl,trivial⟩)
    refine xd 1 [.o 1] [] 7 [(3,.obj [pI v0,pI v1,pI v2,pI ((v3 + e5) + (1 + (tNext L (tStep L (tStep L (tStep L ap 6) 4) 3) 18)))]),(6,.obj [pI 3,pI (v3 + e5),pI (f3 + (tNext L (tStep L (tStep L ap 6) 4) 3)),pI (1 + (tNext L (tStep L (tStep L (tStep L ap 6) 4) 3) 18))]),(0,.obj [pS 1 false encI L,pN (tStep L (tStep L (tStep L (tStep L ap 6) 4) 3) 18)]),(5,oB true 1 encI ([0,0,0,5] : List Int)),(4,oB true 1 encI ([3,0,3,1,2,3] : List Int)),(1,oB true 4 eWindow os),(2,.obj [pI f0,pI f1,pI f2,pI f3])] (xk [(6,PV.ptr 2 0),(53,pI 3)] [(2,.obj [pI f0,pI f1,pI f2,pI f3])] [] [(2,.obj [pI f0,pI f1,pI f2,pI f3])] [(3,.obj [pI v0,pI v1,pI v2,pI ((v3 + e5) + (1 + (tNext L (tStep L (tStep L (tStep L ap 6) 4) 3) 18)))]),(6,.obj [pI 3,pI (v3 + e5),pI (f3 + (tNext L (tStep L (tStep L ap 6) 4) 3)),pI (1 + (tNext L (tStep L (tStep L (tStep L ap 6) 4) 3) 18))]),(0,.obj [pS 1 false encI L,pN (tStep L (tStep L (tStep L (tStep L ap 6) 4) 3) 18)]),(5,oB true 1 encI ([0,0,0,5] : List Int)),(4,oB true 1 encI ([3,0,3,1,2,3] : List Int)),(1,oB true 4 eWindow os),(2,.obj [pI f0,pI f1,pI f2,pI f3])] (s_ia_arrN (q := 3) tab_110 rfl tab_3 rfl (by omega) rfl (by omega) ⟨rfl,rfl,rfl⟩) ?_ (hs := ⟨rfl,trivial⟩))
    refine xd 1 [.o 1] [] 7 [(2,.obj [pI f0,pI f1,pI f2,pI ((f3 + (tNext L (tStep L (tStep L ap 6) 4) 3)) + (1 + (tNext L (tStep L (tStep L (tStep L ap 6) 4) 3) 18)))]),(3,.obj [pI v0,pI v1,pI v2,pI ((v3 + e5) + (1 + (tNext L (tStep L (tStep L (tStep L ap 6) 4) 3) 18)))]),(6,.obj [pI 3,pI (v3 + e5),pI (f3 + (tNext L (tStep L (tStep L ap 6) 4) 3)),pI (1 + (tNext L (tStep L (tStep L (tStep L ap 6) 4) 3) 18))]),(0,.obj [pS 1 false encI L,pN (tStep L (tStep L (tStep L (tStep L ap 6) 4) 3) 18)]),(5,oB true 1 encI ([0,0,0,5] : List Int)),(4,oB true 1 encI ([3,0,3,1,2,3] : List Int)),(1,oB true 4 eWindow os)] (xe [(0,PV.ptr 0 0),(5,PV.ref 1 0 none),(6,PV.ptr 2 0),(7,PV.ptr 3 0),(8,pI kk),(10,PV.ptr 6 0)] (re (w_R (qm hnt rfl rfl (qo hnt rfl (s_load_ptr tab_42 rfl rfl rfl (nb rfl) ?_))))))
    refine qo hnt rfl (s_mkM (f := eWindow) [(⟨3,v3 + e5,f3 + (tNext L (tStep L (tStep L ap 6) 4) 3),1 + (tNext L (tStep L (tStep L (tStep L ap 6) 4) 3) 18)⟩ : TWindow)] tab_23 rfl tab_42 ⟨rfl,by decide⟩ (by decide) rfl rfl rfl rfl ?_)
    refine qo hnt rfl (s_appR0 (f := eWindow) (l := os) (xs := [(⟨3,v3 + e5,f3 + (tNext L (tStep L (tStep L ap 6) 4) 3),1 + (tNext L (tStep L (tStep L (tStep L ap 6) 4) 3) 18)⟩ : TWindow)]) tab_23 rfl tab_42 ⟨rfl,by decide,by decide⟩ (srcM tab_23 rfl (hM_ref0 (f := eWindow) rfl rfl)) rfl rfl (by (simp; omega)) ?_)
    refine qa hnt rfl rfl (r_set [(0,PV.ptr 0 0),(5,PV.ref 8 0 none),(6,PV.ptr 2 0),(7,PV.ptr 3 0),(8,pI kk)] [(8,oB true 4 eWindow (os ++ [(⟨3,v3 + e5,f3 + (tNext L (tStep L (tStep L ap 6) 4) 3),1 + (tNext L (tStep L (tStep L (tStep L ap 6) 4) 3) 18)⟩ : TWindow)])),(7,oB true 4 eWindow [(⟨3,v3 + e5,f3 + (tNext L (tStep L (tStep L ap 6) 4) 3),1 + (tNext L (tStep L (tStep L (tStep L ap 6) 4) 3) 18)⟩ : TWindow)]),(2,.obj [pI f0,pI f1,pI f2,pI ((f3 + (tNext L (tStep L (tStep L ap 6) 4) 3)) + (1 + (tNext L (tStep L (tStep L (tStep L ap 6) 4) 3) 18)))]),(3,.obj [pI v0,pI v1,pI v2,pI ((v3 + e5) + (1 + (tNext L (tStep L (tStep L (tStep L ap 6) 4) 3) 18)))]),(6,.obj [pI 3,pI (v3 + e5),pI (f3 + (tNext L (tStep L (tStep L ap 6) 4) 3)),pI (1 + (tNext L (tStep L (tStep L (tStep L ap 6) 4) 3) 18))]),(0,.obj [pS 1 false encI L,pN (tStep L (tStep L (tStep L (tStep L ap 6) 4) 3) 18)]),(5,oB true 1 encI ([0,0,0,5] : List Int)),(4,oB true 1 encI ([3,0,3,1,2,3] : List Int))] 9 ⟨rfl,rfl,rfl,rfl,rfl,trivial⟩ rfl rfl (r_end (q_block (q_then (w_R (qm hnt rfl rfl (qo hnt rfl (s_subi (r := kk - 1) rfl rfl rfl (by omega) ?_))))))))
    refine ae hnt rfl rfl (⟨(tStep L (tStep L (tStep L (tStep L ap 6) 4) 3) 18),(os ++ [(⟨3,v3 + e5,f3 + (tNext L (tStep L (tStep L ap 6) 4) 3),1 + (tNext L (tStep L (tStep L (tStep L ap 6) 4) 3) 18)⟩ : TWindow)]),(f0),(f1),(f2),((f3 + (tNext L (tStep L (tStep L ap 6) 4) 3)) + (1 + (tNext L (tStep L (tStep L (tStep L ap 6) 4) 3) 18))),(v0),(v1),(v2),((v3 + e5) + (1 + (tNext L (tStep L (tStep L (tStep L ap 6) 4) 3) 18))),(kk - 1), ?_, ?_,⟨[(0,0),(1,8),(2,2),(3,3)],by rw [hk]; decide,⟨⟨_,rfl,rfl,rfl⟩,⟨_,rfl,rfl,rfl⟩,⟨_,rfl,rfl,rfl⟩,⟨_,rfl,rfl,rfl⟩,⟨_,rfl,rfl,rfl⟩,trivial⟩,⟨⟨_,_,rfl,rfl,rfl,rfl⟩,⟨_,_,rfl,rfl,rfl,rfl⟩,⟨_,_,rfl,rfl,rfl,rfl⟩,⟨_,_,rfl,rfl,rfl,rfl⟩,trivial⟩,by rw [hk]; decide⟩⟩)
    ·refine ⟨by simp; omega,by omega, ?_⟩
     exact hW.step3 (by omega) (by omega) (by omega)
    · omega
  try simp only [sB] at c1
  refine w_exit (q_then_exit (q_then_exit (q_block_exit (q_then (sr (qm hnt rfl rfl (ae hnt rfl rfl (w_frzM (s := 4) (f := eWindow) rfl rfl view_0 (w_ret ?_)))))))))
  have hex : WinsOk os := by
    exact hW.ok (by omega) (by omega)
  exact fin_names (nx1 := 1) (H1 := [(0,.obj [pS 1 false encI L,pN ap])]) [(0,0)] (ret_tmp rfl ret_nil) rfl (by decide) ⟨⟨_,_,rfl,rfl,rfl,rfl⟩,trivial⟩ (by decide) rfl ⟨(os),(ap),hex,rfl,rfl,rfl⟩
theorem w_burgagekeep_Tape_Table (L : List Int) (cl_L : Bool) (a : Nat) (hL : L.length ≤ 70000000000000) :
    T Try.prog 29 [PV.ptr 0 0] 1 [(0,.obj [pS 1 cl_L encI L,pN a])] (fun ra rb rc => ∃ X : TTable,∃ b : Nat,(TabG X) ∧ (Ret (PV.f (eTable X)) 1 [(0,.obj [pS 1 false encI L,pN b])]) ra rb rc) := by
 refine t_fun tabOk (n := 83) (rs := [.cell 2 70]) Try.func29 rfl rfl rfl rfl (nb rfl) ?_
 intro c hnt hk
 refine sr (qo hnt rfl (s_alloc tab_70 ?_))
 refine r_set [(0,PV.ptr 0 0),(2,PV.ptr 1 0)] [(1,.obj [pI 0,pNil]),(0,.obj [pS 1 cl_L encI L,pN a])] 2 ⟨rfl,rfl,trivial⟩ rfl rfl (re (sr (qm hnt rfl rfl (qo hnt rfl (s_callK 2 (pI (tNext L a 4)) [(0,.obj [pS 1 false encI L,pN (tStep L a 4)]),(1,.obj [pI 0,pNil])] [0] (w_burgagekeep_Tape_Next L cl_L a 4 (by omega) (by omega)) ?_)))))
 have hb11 := tNext_lt L a (n := 4) (by decide)
 refine qo hnt rfl (s_addi (r := 1 + (tNext L a 4)) rfl rfl rfl (by omega) ?_)
 refine qa hnt rfl rfl (r_set [(0,PV.ptr 0 0),(2,PV.ptr 1 0),(3,pI (1 + (tNext L a 4)))] [(0,.obj [pS 1 false encI L,pN (tStep L a 4)]),(1,.obj [pI 0,pNil])] 2 ⟨rfl,rfl,rfl,trivial⟩ rfl rfl (re (sr (qo hnt rfl (s_alloc tab_70 ?_)))))
 refine r_set [(0,PV.ptr 0 0),(2,PV.ptr 1 0),(3,pI (1 + (tNext L a 4))),(4,PV.ptr 2 0)] [(2,.obj [pI 0,pNil]),(0,.obj [pS 1 false encI L,pN (tStep L a 4)]),(1,.obj [pI 0,pNil])] 3 ⟨rfl,rfl,rfl,rfl,trivial⟩ rfl rfl (re (sr (qm hnt rfl rfl (qo hnt rfl (s_callK 3 (pI (tNext L (tStep L a 4) 5)) [(0,.obj [pS 1 false encI L,pN (tStep L (tStep L a 4) 5)]),(2,.obj [pI 0,pNil]),(1,.obj [pI 0,pNil])] [0] (w_burgagekeep_Tape_Next L false (tStep L a 4) 5 (by omega) (by omega)) ?_)))))
 have hb14 := tNext_lt L (tStep L a 4) (n := 5) (by decide)
 refine qa hnt rfl rfl (r_set [(0,PV.ptr 0 0),(2,PV.ptr 1 0),(3,pI (1 + (tNext L a 4))),(4,PV.ptr 2 0),(5,pI (tNext L (tStep L a 4) 5))] [(0,.obj [pS 1 false encI L,pN (tStep L (tStep L a 4) 5)]),(2,.obj [pI 0,pNil]),(1,.obj [pI 0,pNil])] 3 ⟨rfl,rfl,rfl,rfl,rfl,trivial⟩ rfl rfl (re (w_seq (w_seq ?_))))
 have hn4 := tNext_lt L a (n := 4) (by decide)
 refine w_R (ae hnt rfl rfl (w_block (w_adoptC (n := 2) (j := 1) (sz := 5) rfl rfl rfl (loop4 (fun (ap : Nat) (ts : List TTenant) (at1 : Int) (i : Nat) => (i : Int) ≤ 1 + tNext L a 4 ∧ ts.length = i ∧ (∀ p ∈ ts,WinsOk p.windows) ∧ 0 ≤ at1 ∧ at1 ≤ 5 + 172 * (i : Int)) (fun (ap : Nat) (ts : List TTenant) (at1 : Int) (i : Nat) => [(0,PV.ptr 0 0),(2,PV.ptr 3 0),(3,pI (1 + (tNext L a 4))),(4,PV.ptr 1 0),(5,pI at1),(6,pN i)]) 4 (fun (ap : Nat) (ts : List TTenant) (at1 : Int) (i : Nat) => [(0,.obj [pS 1 false encI L,pN ap]),(1,.obj [pI 0,PV.ref 2 0 none]),(2,oB true 5 eTenant ts),(3,.obj [pI 0,pNil])]) (fun (ap : Nat) (ts : List TTenant) (at1 : Int) (i : Nat) => (1 + tNext L a 4).toNat - i) (tStep L (tStep L a 4) 5) (([] : List TTenant)) (tNext L (tStep L a 4) 5) (0) ?_ ⟨[(0,0),(1,2),(2,3),(3,1)],by rw [hk]; decide,⟨⟨_,rfl,rfl,rfl⟩,⟨_,rfl,rfl,rfl⟩,⟨_,rfl,rfl,rfl⟩,⟨_,rfl,rfl,rfl⟩,⟨_,rfl,rfl,rfl⟩,⟨_,rfl,rfl,rfl⟩,trivial⟩,⟨⟨_,_,rfl,rfl,rfl,rfl⟩,⟨_,_,rfl,rfl,rfl,rfl⟩,⟨_,_,rfl,rfl,rfl,rfl⟩,⟨_,_,rfl,rfl,rfl,rfl⟩,trivial⟩,by rw [hk]; decide⟩ ?_))))
 · exact ⟨by omega,rfl,by simp,by omega,by omega⟩
 ·intro ap ts at1 i hI
  obtain ⟨hi,htl,hw,hat0,hat⟩ := hI
  refine w_seq (sr (qm hnt rfl rfl (qm hnt rfl rfl (qo hnt rfl (s_lss rfl rfl ?_)))))
  refine re (w_if rfl (fun c1 => ?_) (fun c1 => ?_))
  ·try simp only [sB] at c1
   refine w_skip (q_then (w_seq (w_block (sr (qm hnt rfl rfl (qo hnt rfl (s_callK 4 (pI (tNext L ap 3)) [(0,.obj [pS 1 false encI L,pN (tStep L ap 3)]),(1,.obj [pI 0,PV.ref 2 0 none]),(2,oB true 5 eTenant ts),(3,.obj [pI 0,pNil])] [0] (w_burgagekeep_Tape_Next L false ap 3 (by omega) (by omega)) ?_)))))))
   have hb21 := tNext_lt L ap (n := 3) (by decide)
   refine qo hnt rfl (s_addi (r := 1 + (tNext L ap 3)) rfl rfl rfl (by omega) ?_)
   refine qm hnt rfl rfl (qo hnt rfl (s_addi (r := (1 + (tNext L ap 3)) + ((i : Nat) : Int)) rfl rfl rfl (by omega) ?_))
   refine qm hnt rfl rfl (qo hnt rfl (s_callK 4 (pI (tNext L (tStep L ap 3) 2)) [(0,.obj [pS 1 false encI L,pN (tStep L (tStep L ap 3) 2)]),(1,.obj [pI 0,PV.ref 2 0 none]),(2,oB true 5 eTenant ts),(3,.obj [pI 0,pNil])] [0] (w_burgagekeep_Tape_Next L false (tStep L ap 3) 2 (by omega) (by omega)) ?_))
   have hb26 := tNext_lt L (tStep L ap 3) (n := 2) (by decide)
   refine qo hnt rfl (s_conv tab_3 tab_22 rfl rfl rfl ?_)
   refine qo hnt rfl (s_shl rfl rfl (by decide) ?_)
   refine qo hnt rfl (s_or rfl rfl ?_)
   refine qm hnt rfl rfl (qo hnt rfl (s_callK 4 (pI (tNext L (tStep L (tStep L ap 3) 2) 4)) [(0,.obj [pS 1 false encI L,pN (tStep L (tStep L (tStep L ap 3) 2) 4)]),(1,.obj [pI 0,PV.ref 2 0 none]),(2,oB true 5 eTenant ts),(3,.obj [pI 0,pNil])] [0] (w_burgagekeep_Tape_Next L false (tStep L (tStep L ap 3) 2) 4 (by omega) (by omega)) ?_))
   have hb31 := tNext_lt L (tStep L (tStep L ap 3) 2) (n := 4) (by decide)
   refine qo hnt rfl (s_addi (r := 1 + (tNext L (tStep L (tStep L ap 3) 2) 4)) rfl rfl rfl (by omega) ?_)
   refine qm hnt rfl rfl (qm hnt rfl rfl (qo hnt rfl (s_callX2 (p := fun (q1 : List TWindow) (b1 : Nat) => WinsOk q1) (r2 := fun q1 b1 => pS 4 false eWindow q1) (nx1 := 4) (H2 := [(0,.obj [pS 1 false encI L,pN (tStep L (tStep L (tStep L ap 3) 2) 4)]),(1,.obj [pI 0,PV.ref 2 0 none]),(2,oB true 5 eTenant ts),(3,.obj [pI 0,pNil])]) (H3 := fun q1 b1 => [(0,.obj [pS 1 false encI L,pN b1]),(1,.obj [pI 0,PV.ref 2 0 none]),(2,oB true 5 eTenant ts),(3,.obj [pI 0,pNil])]) [0] [.obj [pS 1 false encI L,pN (tStep L (tStep L (tStep L ap 3) 2) 4)]] rfl rfl rfl (handed_of (by decide) ⟨rfl,trivial⟩) rfl rfl rfl rfl rfl rfl (w_burgagekeep_Tape_windows L false (tStep L (tStep L (tStep L ap 3) 2) 4) i (by omega) (by omega)) (fun q1 b1 => rfl) (fun q1 b1 => dist_of rfl) (fun q1 b1 => rfl) (fun q1 b1 => rfl) rfl (fun q1 b1 => rfl) (fun q1 b1 hq1 => ?_))))
   refine qo hnt rfl (s_build tab_26 rfl rfl (b_cons rfl tab_3 rfl rfl rfl (nb rfl) (b_cons rfl tab_22 rfl rfl rfl (nb rfl) (b_cons rfl tab_3 rfl rfl rfl (nb rfl) (b_cons rfl tab_23 rfl rfl rfl (nb rfl) (b_nil ?_))))))
   refine qo hnt rfl (s_alloc tab_26 ?_)
   refine qo hnt rfl (s_store_ptr tab_26 rfl rfl rfl rfl rfl (nb rfl) ?_)
   refine r_set [(0,PV.ptr 0 0),(2,PV.ptr 3 0),(3,pI (1 + (tNext L a 4))),(4,PV.ptr 1 0),(5,pI at1),(6,pN i),(7,PV.ptr 4 0)] [(4,.obj [pI ((1 + (tNext L ap 3)) + ((i : Nat) : Int)),pK .u32 (bitI .or .u32 12812798 (IntKind.u32.wrap ((IntKind.u32.wrap (tNext L (tStep L ap 3) 2)) * 2 ^ min (Int.toNat 9) IntKind.u32.bits))),pI (1 + (tNext L (tStep L (tStep L ap 3) 2) 4)),pS 4 false eWindow q1,pNil]),(0,.obj [pS 1 false encI L,pN b1]),(1,.obj [pI 0,PV.ref 2 0 none]),(2,oB true 5 eTenant ts),(3,.obj [pI 0,pNil])] 5 ⟨rfl,rfl,rfl,rfl,rfl,rfl,rfl,trivial⟩ rfl rfl (re (join2 (fun (a2 : Nat) (fu : Int) => True) (fun (a2 : Nat) (fu : Int) => [(0,PV.ptr 0 0),(2,PV.ptr 2 0),(3,pI (1 + (tNext L a 4))),(4,PV.ptr 3 0),(5,pI at1),(6,pN i),(7,PV.ptr 1 0)]) 5 (fun (a2 : Nat) (fu : Int) => [(0,.obj [pS 1 false encI L,pN a2]),(1,.obj [pI ((1 + (tNext L ap 3)) + ((i : Nat) : Int)),pK .u32 fu,pI (1 + (tNext L (tStep L (tStep L ap 3) 2) 4)),pS 4 false eWindow q1,pNil]),(2,.obj [pI 0,pNil]),(3,.obj [pI 0,PV.ref 4 0 none]),(4,oB true 5 eTenant ts)]) ?_ ?_))
   ·refine sr (qm hnt rfl rfl (qo hnt rfl (s_callK 5 (pI (tNext L b1 5)) [(0,.obj [pS 1 false encI L,pN (tStep L b1 5)]),(4,.obj [pI ((1 + (tNext L ap 3)) + ((i : Nat) : Int)),pK .u32 (bitI .or .u32 12812798 (IntKind.u32.wrap ((IntKind.u32.wrap (tNext L (tStep L ap 3) 2)) * 2 ^ min (Int.toNat 9) IntKind.u32.bits))),pI (1 + (tNext L (tStep L (tStep L ap 3) 2) 4)),pS 4 false eWindow q1,pNil]),(1,.obj [pI 0,PV.ref 2 0 none]),(2,oB true 5 eTenant ts),(3,.obj [pI 0,pNil])] [0] (w_burgagekeep_Tape_Next L false b1 5 (by omega) (by omega)) ?_)))
    refine qo hnt rfl (s_eql rfl rfl ?_)
    refine r_set [(0,PV.ptr 0 0),(2,PV.ptr 3 0),(3,pI (1 + (tNext L a 4))),(4,PV.ptr 1 0),(5,pI at1),(6,pN i),(7,PV.ptr 4 0),(39,pB (decide (tNext L b1 5 = 0)))] [(0,.obj [pS 1 false encI L,pN (tStep L b1 5)]),(4,.obj [pI ((1 + (tNext L ap 3)) + ((i : Nat) : Int)),pK .u32 (bitI .or .u32 12812798 (IntKind.u32.wrap ((IntKind.u32.wrap (tNext L (tStep L ap 3) 2)) * 2 ^ min (Int.toNat 9) IntKind.u32.bits))),pI (1 + (tNext L (tStep L (tStep L ap 3) 2) 4)),pS 4 false eWindow q1,pNil]),(1,.obj [pI 0,PV.ref 2 0 none]),(2,oB true 5 eTenant ts),(3,.obj [pI 0,pNil])] 5 ⟨rfl,rfl,rfl,rfl,rfl,rfl,rfl,rfl,trivial⟩ rfl rfl (re (w_if rfl (fun c2 => ?_) (fun c2 => ?_)))
    ·try simp only [sB] at c2
     refine w_R (qm hnt rfl rfl (qo hnt rfl (s_callK 5 (pI (tNext L (tStep L b1 5) 24)) [(0,.obj [pS 1 false encI L,pN (tStep L (tStep L b1 5) 24)]),(4,.obj [pI ((1 + (tNext L ap 3)) + ((i : Nat) : Int)),pK .u32 (bitI .or .u32 12812798 (IntKind.u32.wrap ((IntKind.u32.wrap (tNext L (tStep L ap 3) 2)) * 2 ^ min (Int.toNat 9) IntKind.u32.bits))),pI (1 + (tNext L (tStep L (tStep L ap 3) 2) 4)),pS 4 false eWindow q1,pNil]),(1,.obj [pI 0,PV.ref 2 0 none]),(2,oB true 5 eTenant ts),(3,.obj [pI 0,pNil])] [0] (w_burgagekeep_Tape_Next L false (tStep L b1 5) 24 (by omega) (by omega)) ?_)))
     have hb41 := tNext_lt L (tStep L b1 5) (n := 24) (by decide)
     refine qo hnt rfl (s_conv tab_3 tab_53 rfl rfl rfl ?_)
     refine qo hnt rfl (s_shl rfl rfl (by exact wrapU_nn rfl _) ?_)
     refine qo hnt rfl (s_or rfl rfl ?_)
     refine qo hnt rfl (s_fa_ptr tab_26 rfl rfl tab_22 (by decide) rfl ?_)
     refine qo hnt rfl (s_store_ptr tab_22 rfl rfl rfl rfl rfl (nb rfl) ?_)
     refine re (⟨(tStep L (tStep L b1 5) 24),(bitI .or .u32 65608 (IntKind.u32.wrap (1 * 2 ^ min (Int.toNat (IntKind.u64.wrap (tNext L (tStep L b1 5) 24))) IntKind.u32.bits))), ?_,⟨[(0,0),(1,4),(2,3),(3,1),(4,2)],by rw [hk]; decide,⟨⟨_,rfl,rfl,rfl⟩,⟨_,rfl,rfl,rfl⟩,⟨_,rfl,rfl,rfl⟩,⟨_,rfl,rfl,rfl⟩,⟨_,rfl,rfl,rfl⟩,⟨_,rfl,rfl,rfl⟩,⟨_,rfl,rfl,rfl⟩,trivial⟩,⟨⟨_,_,rfl,rfl,rfl,rfl⟩,⟨_,_,rfl,rfl,rfl,rfl⟩,⟨_,_,rfl,rfl,rfl,rfl⟩,⟨_,_,rfl,rfl,rfl,rfl⟩,⟨_,_,rfl,rfl,rfl,rfl⟩,trivial⟩,by rw [hk]; decide⟩⟩)
     trivial
    try simp only [sB] at c2
    refine w_skip (q_then (⟨(tStep L b1 5),(bitI .or .u32 12812798 (IntKind.u32.wrap ((IntKind.u32.wrap (tNext L (tStep L ap 3) 2)) * 2 ^ min (Int.toNat 9) IntKind.u32.bits))), ?_,⟨[(0,0),(1,4),(2,3),(3,1),(4,2)],by rw [hk]; decide,⟨⟨_,rfl,rfl,rfl⟩,⟨_,rfl,rfl,rfl⟩,⟨_,rfl,rfl,rfl⟩,⟨_,rfl,rfl,rfl⟩,⟨_,rfl,rfl,rfl⟩,⟨_,rfl,rfl,rfl⟩,⟨_,rfl,rfl,rfl⟩,trivial⟩,⟨⟨_,_,rfl,rfl,rfl,rfl⟩,⟨_,_,rfl,rfl,rfl,rfl⟩,⟨_,_,rfl,rfl,rfl,rfl⟩,⟨_,_,rfl,rfl,rfl,rfl⟩,⟨_,_,rfl,rfl,rfl,rfl⟩,trivial⟩,by rw [hk]; decide⟩⟩))
    trivial
   intro a2 fu hJ
   refine w_seq (sr (qm hnt rfl rfl (qo hnt rfl (s_callK 5 (pI (tNext L a2 2)) [(0,.obj [pS 1 false encI L,pN (tStep L a2 2)]),(1,.obj [pI ((1 + (tNext L ap 3)) + ((i : Nat) : Int)),pK .u32 fu,pI (1 + (tNext L (tStep L (tStep L ap 3) 2) 4)),pS 4 false eWindow q1,pNil]),(2,.obj [pI 0,pNil]),(3,.obj [pI 0,PV.ref 4 0 none]),(4,oB true 5 eTenant ts)] [0] (w_burgagekeep_Tape_Next L false a2 2 (by omega) (by omega)) ?_))))
   have hb47 := tNext_lt L a2 (n := 2) (by decide)
   refine qa hnt rfl rfl (r_set [(0,PV.ptr 0 0),(2,PV.ptr 2 0),(3,pI (1 + (tNext L a 4))),(4,PV.ptr 3 0),(5,pI at1),(6,pN i),(7,PV.ptr 1 0),(8,pI (tNext L a2 2))] [(0,.obj [pS 1 false encI L,pN (tStep L a2 2)]),(1,.obj [pI ((1 + (tNext L ap 3)) + ((i : Nat) : Int)),pK .u32 fu,pI (1 + (tNext L (tStep L (tStep L ap 3) 2) 4)),pS 4 false eWindow q1,pNil]),(2,.obj [pI 0,pNil]),(3,.obj [pI 0,PV.ref 4 0 none]),(4,oB true 5 eTenant ts)] 5 ⟨rfl,rfl,rfl,rfl,rfl,rfl,rfl,rfl,trivial⟩ rfl rfl (re (w_block (w_adoptC (n := 1) (j := 4) (sz := 2) rfl rfl rfl (loop4 (fun (a3 : Nat) (at2 : Int) (sl : List TSlot) (kk : Int) => 0 ≤ at2 ∧ at2 + 86 * (kk + 1) ≤ at1 + 172 ∧ -1 ≤ kk ∧ (sl.length : Int) + kk ≤ 1) (fun (a3 : Nat) (at2 : Int) (sl : List TSlot) (kk : Int) => [(0,PV.ptr 0 0),(2,PV.ptr 3 0),(3,pI (1 + (tNext L a 4))),(4,PV.ptr 4 0),(5,pI at2),(6,pN i),(7,PV.ptr 1 0),(8,pI kk)]) 6 (fun (a3 : Nat) (at2 : Int) (sl : List TSlot) (kk : Int) => [(0,.obj [pS 1 false encI L,pN a3]),(1,.obj [pI ((1 + (tNext L ap 3)) + ((i : Nat) : Int)),pK .u32 fu,pI (1 + (tNext L (tStep L (tStep L ap 3) 2) 4)),pS 4 false eWindow q1,PV.ref 2 0 none]),(2,oB true 2 eSlot sl),(3,.obj [pI 0,pNil]),(4,.obj [pI 0,PV.ref 5 0 none]),(5,oB true 5 eTenant ts)]) (fun (a3 : Nat) (at2 : Int) (sl : List TSlot) (kk : Int) => (kk + 1).toNat) (tStep L a2 2) (at1) (([] : List TSlot)) (tNext L a2 2) ?_ ⟨[(0,0),(1,1),(2,5),(3,2),(4,3),(5,4)],by rw [hk]; decide,⟨⟨_,rfl,rfl,rfl⟩,⟨_,rfl,rfl,rfl⟩,⟨_,rfl,rfl,rfl⟩,⟨_,rfl,rfl,rfl⟩,⟨_,rfl,rfl,rfl⟩,⟨_,rfl,rfl,rfl⟩,⟨_,rfl,rfl,rfl⟩,⟨_,rfl,rfl,rfl⟩,trivial⟩,⟨⟨_,_,rfl,rfl,rfl,rfl⟩,⟨_,_,rfl,rfl,rfl,rfl⟩,⟨_,_,rfl,rfl,rfl,rfl⟩,⟨_,_,rfl,rfl,rfl,rfl⟩,⟨_,_,rfl,rfl,rfl,rfl⟩,⟨_,_,rfl,rfl,rfl,rfl⟩,trivial⟩,by rw [hk]; decide⟩ ?_)))))
   · exact ⟨by omega,by omega,by omega,by simp; omega⟩
   ·intro a3 at2 sl kk hK
    obtain ⟨ha20,ha2,hkk,hsl⟩ := hK
    refine w_seq (sr (xp hnt 2 [.o 2] [] [(49,pB (decide (0 ≤ kk)))] (re (w_if rfl (fun c3 => ?_) (fun c3 => ?_)))))
    ·try simp only [sB] at c3
     refine w_skip (q_then (w_seq (w_block (sr (qm hnt rfl rfl (qm hnt rfl rfl (qo hnt rfl (s_callK 6 (pI (tNext L a3 9)) [(0,.obj [pS 1 false encI L,pN (tStep L a3 9)]),(1,.obj [pI ((1 + (tNext L ap 3)) + ((i : Nat) : Int)),pK .u32 fu,pI (1 + (tNext L (tStep L (tStep L ap 3) 2) 4)),pS 4 false eWindow q1,PV.ref 2 0 none]),(2,oB true 2 eSlot sl),(3,.obj [pI 0,pNil]),(4,.obj [pI 0,PV.ref 5 0 none]),(5,oB true 5 eTenant ts)] [0] (w_burgagekeep_Tape_Next L false a3 9 (by omega) (by omega)) ?_))))))))
     have hb54 := tNext_lt L a3 (n := 9) (by decide)
     refine qo hnt rfl (s_addi (r := 72 + (tNext L a3 9)) rfl rfl rfl (by omega) ?_)
     refine qo hnt rfl (s_build tab_98 rfl rfl (b_cons rfl tab_3 rfl rfl rfl (nb rfl) (b_cons rfl tab_3 rfl rfl rfl (nb rfl) (b_nil ?_))))
     refine qo hnt rfl (s_alloc tab_98 ?_)
     refine qo hnt rfl (s_store_ptr tab_98 rfl rfl rfl rfl rfl (nb rfl) ?_)
     refine r_set [(0,PV.ptr 0 0),(2,PV.ptr 3 0),(3,pI (1 + (tNext L a 4))),(4,PV.ptr 4 0),(6,pN i),(7,PV.ptr 1 0),(8,pI kk),(9,PV.ptr 6 0)] [(6,.obj [pI at2,pI (72 + (tNext L a3 9))]),(0,.obj [pS 1 false encI L,pN (tStep L a3 9)]),(1,.obj [pI ((1 + (tNext L ap 3)) + ((i : Nat) : Int)),pK .u32 fu,pI (1 + (tNext L (tStep L (tStep L ap 3) 2) 4)),pS 4 false eWindow q1,PV.ref 2 0 none]),(2,oB true 2 eSlot sl),(3,.obj [pI 0,pNil]),(4,.obj [pI 0,PV.ref 5 0 none]),(5,oB true 5 eTenant ts)] 7 ⟨rfl,rfl,rfl,rfl,rfl,rfl,rfl,rfl,trivial⟩ rfl rfl (re (w_seq (wdr hnt (xq 6 [.o 6] [okI (at2 + (72 + (tNext L a3 9)))] ?_ (hc := ⟨by unfold okI; (omega),trivial⟩)))))
     refine xk [(62,PV.ptr 0 0)] [] [(0,.obj [pS 1 false encI L,pN (tStep L a3 9)])] [(0,.obj [pS 1 false encI L,pN (tStep L (tStep L a3 9) 7)])] [(0,.obj [pS 1 false encI L,pN (tStep L (tStep L a3 9) 7)]),(6,.obj [pI at2,pI (72 + (tNext L a3 9))]),(1,.obj [pI ((1 + (tNext L ap 3)) + ((i : Nat) : Int)),pK .u32 fu,pI (1 + (tNext L (tStep L (tStep L ap 3) 2) 4)),pS 4 false eWindow q1,PV.ref 2 0 none]),(2,oB true 2 eSlot sl),(3,.obj [pI 0,pNil]),(4,.obj [pI 0,PV.ref 5 0 none]),(5,oB true 5 eTenant ts)] (s_callK 7 (pI (tNext L (tStep L a3 9) 7)) _ [0] (w_burgagekeep_Tape_Next L false (tStep L a3 9) 7 (by omega) (by omega)) ⟨rfl,rfl,rfl⟩) ?_
     have hb63 := tNext_lt L (tStep L a3 9) (n := 7) (by decide)
     refine xq 2 [.o 2] [okI ((at2 + (72 + (tNext L a3 9))) + (tNext L (tStep L a3 9) 7))] ?_ (hc := ⟨by unfold okI; (omega),trivial⟩)
     refine xe [(0,PV.ptr 0 0),(2,PV.ptr 3 0),(3,pI (1 + (tNext L a 4))),(4,PV.ptr 4 0),(5,pI ((at2 + (72 + (tNext L a3 9))) + (tNext L (tStep L a3 9) 7))),(6,pN i),(7,PV.ptr 1 0),(8,pI kk),(9,PV.ptr 6 0)] (re (w_R (xp hnt 3 [.o 3] [] [(66,PV.ref 2 0 none),(67,PV.f (.agg [encI at2,encI (72 + (tNext L a3 9))]))] (qo hnt rfl (s_mkM (f := eSlot) [(⟨at2,72 + (tNext L a3 9)⟩ : TSlot)] tab_24 rfl tab_98 ⟨rfl,by decide⟩ (by decide) rfl rfl rfl rfl ?_)))))
     refine qo hnt rfl (s_appR0 (f := eSlot) (l := sl) (xs := [(⟨at2,72 + (tNext L a3 9)⟩ : TSlot)]) tab_24 rfl tab_98 ⟨rfl,by decide,by decide⟩ (srcM tab_24 rfl (hM_ref0 (f := eSlot) rfl rfl)) rfl rfl (by (simp; omega)) ?_)
     refine qo hnt rfl (s_fa_ptr tab_26 rfl rfl tab_24 (by decide) rfl ?_)
     refine qo hnt rfl (s_store_ptr tab_24 rfl rfl rfl rfl rfl (nb rfl) ?_)
     refine r_set [(0,PV.ptr 0 0),(2,PV.ptr 3 0),(3,pI (1 + (tNext L a 4))),(4,PV.ptr 4 0),(5,pI ((at2 + (72 + (tNext L a3 9))) + (tNext L (tStep L a3 9) 7))),(6,pN i),(7,PV.ptr 1 0),(8,pI kk)] [(1,.obj [pI ((1 + (tNext L ap 3)) + ((i : Nat) : Int)),pK .u32 fu,pI (1 + (tNext L (tStep L (tStep L ap 3) 2) 4)),pS 4 false eWindow q1,PV.ref 8 0 none]),(8,oB true 2 eSlot (sl ++ [(⟨at2,72 + (tNext L a3 9)⟩ : TSlot)])),(7,oB true 2 eSlot [(⟨at2,72 + (tNext L a3 9)⟩ : TSlot)]),(0,.obj [pS 1 false encI L,pN (tStep L (tStep L a3 9) 7)]),(6,.obj [pI at2,pI (72 + (tNext L a3 9))]),(3,.obj [pI 0,pNil]),(4,.obj [pI 0,PV.ref 5 0 none]),(5,oB true 5 eTenant ts)] 9 ⟨rfl,rfl,rfl,rfl,rfl,rfl,rfl,rfl,trivial⟩ rfl rfl (r_end (q_block (q_then (w_R (qm hnt rfl rfl (qo hnt rfl (s_subi (r := kk - 1) rfl rfl rfl (by omega) ?_)))))))
     refine ae hnt rfl rfl (⟨(tStep L (tStep L a3 9) 7),((at2 + (72 + (tNext L a3 9))) + (tNext L (tStep L a3 9) 7)),(sl ++ [(⟨at2,72 + (tNext L a3 9)⟩ : TSlot)]),(kk - 1), ?_, ?_,⟨[(0,0),(1,1),(2,8),(3,3),(4,4),(5,5)],by rw [hk]; decide,⟨⟨_,rfl,rfl,rfl⟩,⟨_,rfl,rfl,rfl⟩,⟨_,rfl,rfl,rfl⟩,⟨_,rfl,rfl,rfl⟩,⟨_,rfl,rfl,rfl⟩,⟨_,rfl,rfl,rfl⟩,⟨_,rfl,rfl,rfl⟩,⟨_,rfl,rfl,rfl⟩,trivial⟩,⟨⟨_,_,rfl,rfl,rfl,rfl⟩,⟨_,_,rfl,rfl,rfl,rfl⟩,⟨_,_,rfl,rfl,rfl,rfl⟩,⟨_,_,rfl,rfl,rfl,rfl⟩,⟨_,_,rfl,rfl,rfl,rfl⟩,⟨_,_,rfl,rfl,rfl,rfl⟩,trivial⟩,by rw [hk]; decide⟩⟩)
     ·exact ⟨by omega,by omega,by omega,by simp; omega⟩
     · omega
    try simp only [sB] at c3
    refine w_exit (q_then_exit (q_then_exit (q_block_exit (q_then (w_R (qo hnt rfl (s_fa_ptr tab_70 rfl rfl tab_68 (by decide) rfl ?_)))))))
    refine qo hnt rfl (s_load_ptr1 tab_68 rfl rfl rfl rfl rfl ?_)
    refine qo hnt rfl (s_load_ptr tab_26 rfl rfl rfl (nb rfl) ?_)
    refine qo hnt rfl (s_mkM (f := eTenant) [(⟨(1 + (tNext L ap 3)) + ((i : Nat) : Int),fu,1 + (tNext L (tStep L (tStep L ap 3) 2) 4),q1,sl⟩ : TTenant)] tab_68 rfl tab_26 ⟨rfl,by decide⟩ (by decide) rfl rfl rfl rfl ?_)
    refine qo hnt rfl (s_appR0 (f := eTenant) (l := ts) (xs := [(⟨(1 + (tNext L ap 3)) + ((i : Nat) : Int),fu,1 + (tNext L (tStep L (tStep L ap 3) 2) 4),q1,sl⟩ : TTenant)]) tab_68 rfl tab_26 ⟨rfl,by decide,by decide⟩ (srcM tab_68 rfl (hM_ref0 (f := eTenant) rfl rfl)) rfl rfl (by (simp; omega)) ?_)
    refine qo hnt rfl (s_fa_ptr tab_70 rfl rfl tab_68 (by decide) rfl ?_)
    refine qo hnt rfl (s_store_ptr tab_68 rfl rfl rfl rfl rfl (nb rfl) ?_)
    refine r_set [(0,PV.ptr 0 0),(2,PV.ptr 3 0),(3,pI (1 + (tNext L a 4))),(4,PV.ptr 4 0),(5,pI at2),(6,pN i)] [(4,.obj [pI 0,PV.ref 7 0 none]),(7,oB true 5 eTenant (ts ++ [(⟨(1 + (tNext L ap 3)) + ((i : Nat) : Int),fu,1 + (tNext L (tStep L (tStep L ap 3) 2) 4),q1,sl⟩ : TTenant)])),(6,oB true 5 eTenant [(⟨(1 + (tNext L ap 3)) + ((i : Nat) : Int),fu,1 + (tNext L (tStep L (tStep L ap 3) 2) 4),q1,sl⟩ : TTenant)]),(2,oB false 2 eSlot sl),(0,.obj [pS 1 false encI L,pN a3]),(1,.obj [pI ((1 + (tNext L ap 3)) + ((i : Nat) : Int)),pK .u32 fu,pI (1 + (tNext L (tStep L (tStep L ap 3) 2) 4)),pS 4 false eWindow q1,PV.ref 2 0 none]),(3,.obj [pI 0,pNil])] 8 ⟨rfl,rfl,rfl,rfl,rfl,rfl,trivial⟩ rfl rfl (r_end (q_block (q_then (w_R (qm hnt rfl rfl (qo hnt rfl (s_addN (a := i) (b := 1) rfl rfl (by omega) (by omega) (by omega) ?_)))))))
    refine ae hnt rfl rfl (⟨(a3),(ts ++ [(⟨(1 + (tNext L ap 3)) + ((i : Nat) : Int),fu,1 + (tNext L (tStep L (tStep L ap 3) 2) 4),q1,sl⟩ : TTenant)]),(at2),(i + 1), ?_, ?_,⟨[(0,0),(1,4),(2,7),(3,3)],by rw [hk]; decide,⟨⟨_,rfl,rfl,rfl⟩,⟨_,rfl,rfl,rfl⟩,⟨_,rfl,rfl,rfl⟩,⟨_,rfl,rfl,rfl⟩,⟨_,rfl,rfl,rfl⟩,⟨_,rfl,rfl,rfl⟩,trivial⟩,⟨⟨_,_,rfl,rfl,rfl,rfl⟩,⟨_,_,rfl,rfl,rfl,rfl⟩,⟨_,_,rfl,rfl,rfl,rfl⟩,⟨_,_,rfl,rfl,rfl,rfl⟩,trivial⟩,by rw [hk]; decide⟩⟩)
    ·refine ⟨by omega,by simp; omega,fun p hp => ?_,by omega,by omega⟩
     rcases List.mem_append.1 hp with h|h
     · exact hw p h
     · have h := List.mem_singleton.1 h; subst h; exact hq1
    · omega
  try simp only [sB] at c1
  refine w_exit (q_then_exit (q_then_exit (q_block_exit (q_then (sr (qm hnt rfl rfl (qm hnt rfl rfl (qo hnt rfl (s_callK 4 (pI (tNext L ap 20)) [(0,.obj [pS 1 false encI L,pN (tStep L ap 20)]),(1,.obj [pI 0,PV.ref 2 0 none]),(2,oB true 5 eTenant ts),(3,.obj [pI 0,pNil])] [0] (w_burgagekeep_Tape_Next L false ap 20 (by omega) (by omega)) ?_)))))))))
  have hb79 := tNext_lt L ap (n := 20) (by decide)
  refine qo hnt rfl (s_addi (r := at1 + (tNext L ap 20)) rfl rfl rfl (by omega) ?_)
  refine qo hnt rfl (s_fa_ptr tab_70 rfl rfl tab_3 (by decide) rfl ?_)
  refine qo hnt rfl (s_store_ptr tab_3 rfl rfl rfl rfl rfl (nb rfl) ?_)
  refine r_set [(2,PV.ptr 3 0),(4,PV.ptr 1 0)] [(1,.obj [pI (at1 + (tNext L ap 20)),PV.ref 2 0 none]),(0,.obj [pS 1 false encI L,pN (tStep L ap 20)]),(2,oB true 5 eTenant ts),(3,.obj [pI 0,pNil])] 4 ⟨rfl,rfl,trivial⟩ rfl rfl (re (sr (qo hnt rfl (s_load_ptr tab_70 rfl rfl rfl (nb rfl) ?_))))
  refine qo hnt rfl (s_store_ptr tab_70 rfl rfl rfl rfl rfl (nb rfl) ?_)
  refine r_set [(2,PV.ptr 3 0)] [(3,.obj [pI (at1 + (tNext L ap 20)),PV.ref 2 0 none]),(1,.obj [pI (at1 + (tNext L ap 20)),PV.ref 2 0 none]),(0,.obj [pS 1 false encI L,pN (tStep L ap 20)]),(2,oB true 5 eTenant ts)] 4 ⟨rfl,trivial⟩ rfl rfl (re (w_frzC (n := 3) (j := 1) rfl rfl rfl rfl (w_ret ?_)))
  have hex : TabG (⟨at1 + (tNext L ap 20),ts⟩ : TTable) := by
    exact ⟨⟨by simp only; omega,by simp only; omega⟩,hw⟩
  exact fin_names (nx1 := 1) (H1 := [(0,.obj [pS 1 false encI L,pN (tStep L ap 20)])]) [(0,0)] (ret_cell tab_70 (by decide) rfl rfl (nb rfl) rfl ret_nil) rfl (by decide) ⟨⟨_,_,rfl,rfl,rfl,rfl⟩,trivial⟩ (by decide) rfl ⟨((⟨at1 + (tNext L ap 20),ts⟩ : TTable)),(tStep L ap 20),hex,rfl,rfl,rfl⟩
def baseJ (L : List Int) (p : TPart) (a : Nat) : TReply × Nat :=
  if p.request.fn = 1 ∨ p.request.fn = 2 then (⟨p.request.fn,0,0,0,0,(tRow isOne 2 L a p.request.count.toNat).1,[],0,0,[]⟩,(tRow isOne 2 L a p.request.count.toNat).2)
  else if p.request.fn = 3 ∨ p.request.fn = 4 then (⟨p.request.fn,0,0,0,0,[],(tRow u16I 65536 L a p.request.count.toNat).1,0,0,[]⟩,(tRow u16I 65536 L a p.request.count.toNat).2)
  else if p.request.fn = 5 ∨ p.request.fn = 6 then (⟨p.request.fn,0,p.request.at_,0,0,p.request.bits,p.request.vals,0,0,[]⟩,a)
  else (⟨p.request.fn,0,p.request.at_,p.request.count,0,[],[],0,0,[]⟩,a)
def turnJ (L : List Int) (r : TReply) (a : Nat) : Option TReply × Nat :=
  if tNext L a 14 = 0 then (some (refuseR r.fn (1 + tNext L (tStep L a 14) 11)),tStep L (tStep L a 14) 11)
  else if tNext L a 14 = 1 then (some ⟨1 + tNext L (tStep L a 14) 6,r.code,r.at_,r.count,r.sub,r.bits,r.vals,r.and_,r.or_,r.data⟩,tStep L (tStep L a 14) 6)
  else if tNext L a 14 = 2 then (some ⟨r.fn,r.code,r.at_,r.count,r.sub,r.bits,r.vals ++ [7],r.and_,r.or_,r.data⟩,tStep L a 14)
  else if tNext L a 14 = 3 then (some ⟨r.fn,r.code,r.at_ + 70000,r.count,r.sub,r.bits,r.vals,r.and_,r.or_,r.data⟩,tStep L a 14)
  else if tNext L a 14 = 4 then (none,tStep L a 14) else (some r,tStep L a 14)
def ansGo (L : List Int) (all : Bool) : List TPart → Nat → List TReply
  | [],_ => []
  | p :: t,a => if all = true then (baseJ L p a).1 :: ansGo L all t (baseJ L p a).2
    else match (turnJ L (baseJ L p a).1 (baseJ L p a).2).1 with
      | none => []
      | some r => r :: ansGo L all t (turnJ L (baseJ L p a).1 (baseJ L p a).2).2
section
variable {L : List Int}{all : Bool}{ps : List TPart}{i a b : Nat}{p : TPart}{r r2 : TReply}
theorem drop_get {α : Type}{l : List α}{i : Nat}{x : α} (h : l[i]? = some x) : l.drop i = x :: l.drop (i + 1) := by
  obtain ⟨h1,rfl⟩ := List.getElem?_eq_some_iff.1 h
  exact List.drop_eq_getElem_cons h1
theorem ans_all (h : ps[i]? = some p) (hb : baseJ L p a = (r,b)) : ansGo L true (ps.drop i) a = r :: ansGo L true (ps.drop (i + 1)) b := by
  rw [drop_get h,ansGo,if_pos rfl,hb]
theorem ans_turn (h : ps[i]? = some p) {b2 : Nat} (hb : baseJ L p a = (r,b)) (ht : turnJ L r b = (some r2,b2)) : ansGo L false (ps.drop i) a = r2 :: ansGo L false (ps.drop (i + 1)) b2 := by
  rw [drop_get h,ansGo,if_neg (by decide),hb]
  simp only
  rw [ht]
theorem ans_stop (h : ps[i]? = some p) {b2 : Nat} (hb : baseJ L p a = (r,b)) (ht : turnJ L r b = (none,b2)) : ansGo L false (ps.drop i) a = [] := by
  rw [drop_get h,ansGo,if_neg (by decide),hb]
  simp only
  rw [ht]
theorem ans_end (h : ps.length ≤ i) : ansGo L all (ps.drop i) a = [] := by rw [List.drop_eq_nil_of_le h]; rfl
theorem turn_0 (h : tNext L a 14 = 0) : turnJ L r a = (some (refuseR r.fn (1 + tNext L (tStep L a 14) 11)),tStep L (tStep L a 14) 11) := by unfold turnJ; rw [if_pos h]
theorem turn_1 (h : tNext L a 14 = 1) : turnJ L r a = (some ⟨1 + tNext L (tStep L a 14) 6,r.code,r.at_,r.count,r.sub,r.bits,r.vals,r.and_,r.or_,r.data⟩,tStep L (tStep L a 14) 6) := by unfold turnJ; rw [if_neg (by omega),if_pos h]
theorem turn_2 (h : tNext L a 14 = 2) : turnJ L r a = (some ⟨r.fn,r.code,r.at_,r.count,r.sub,r.bits,r.vals ++ [7],r.and_,r.or_,r.data⟩,tStep L a 14) := by unfold turnJ; rw [if_neg (by omega),if_neg (by omega),if_pos h]
theorem turn_3 (h : tNext L a 14 = 3) : turnJ L r a = (some ⟨r.fn,r.code,r.at_ + 70000,r.count,r.sub,r.bits,r.vals,r.and_,r.or_,r.data⟩,tStep L a 14) := by unfold turnJ; rw [if_neg (by omega),if_neg (by omega),if_neg (by omega),if_pos h]
theorem turn_4 (h : tNext L a 14 = 4) : turnJ L r a = (none,tStep L a 14) := by unfold turnJ; rw [if_neg (by omega),if_neg (by omega),if_neg (by omega),if_neg (by omega),if_pos h]
theorem turn_5 (h : ¬ (tNext L a 14 = 0 ∨ tNext L a 14 = 1 ∨ tNext L a 14 = 2 ∨ tNext L a 14 = 3 ∨ tNext L a 14 = 4)) : turnJ L r a = (some r,tStep L a 14) := by unfold turnJ; rw [if_neg (by omega),if_neg (by omega),if_neg (by omega),if_neg (by omega),if_neg (by omega)]
theorem base_1 (h : p.request.fn = 1 ∨ p.request.fn = 2) : baseJ L p a = (⟨p.request.fn,0,0,0,0,(tRow isOne 2 L a p.request.count.toNat).1,[],0,0,[]⟩,(tRow isOne 2 L a p.request.count.toNat).2) := by unfold baseJ; rw [if_pos h]
theorem base_3 (h : p.request.fn = 3 ∨ p.request.fn = 4) : baseJ L p a = (⟨p.request.fn,0,0,0,0,[],(tRow u16I 65536 L a p.request.count.toNat).1,0,0,[]⟩,(tRow u16I 65536 L a p.request.count.toNat).2) := by unfold baseJ; rw [if_neg (by omega),if_pos h]
theorem base_5 (h : p.request.fn = 5 ∨ p.request.fn = 6) : baseJ L p a = (⟨p.request.fn,0,p.request.at_,0,0,p.request.bits,p.request.vals,0,0,[]⟩,a) := by unfold baseJ; rw [if_neg (by omega),if_neg (by omega),if_pos h]
theorem base_15 (h : ¬ (p.request.fn = 1 ∨ p.request.fn = 2 ∨ p.request.fn = 3 ∨ p.request.fn = 4 ∨ p.request.fn = 5 ∨ p.request.fn = 6)) : baseJ L p a = (⟨p.request.fn,0,p.request.at_,p.request.count,0,[],[],0,0,[]⟩,a) := by unfold baseJ; rw [if_neg (by omega),if_neg (by omega),if_neg (by omega)]
end
def SmallA (r : TReply) : Prop := r.bits.length ≤ 30 ∧ r.vals.length ≤ 30 ∧ r.data.length ≤ 30
def SmallP (p : TPart) : Prop := p.request.count ≤ 25 ∧ p.request.bits.length ≤ 25 ∧ p.request.vals.length ≤ 25
theorem base_small {L : List Int}{p : TPart} (h : SmallP p) (a : Nat) : (baseJ L p a).1.bits.length ≤ 25 ∧ (baseJ L p a).1.vals.length ≤ 25 ∧ (baseJ L p a).1.data.length ≤ 25 := by
  obtain ⟨h1,h2,h3⟩ := h
  have e1 := tRow_length isOne 2 L a p.request.count.toNat
  have e2 := tRow_length u16I 65536 L a p.request.count.toNat
  unfold baseJ
  repeat' split
  all_goals (simp only [List.length_nil]; omega)
theorem turn_small {L : List Int}{r : TReply}{a : Nat} (h : r.bits.length ≤ 25 ∧ r.vals.length ≤ 25 ∧ r.data.length ≤ 25) {r2 : TReply} (ht : (turnJ L r a).1 = some r2) : SmallA r2 := by
  obtain ⟨h1,h2,h3⟩ := h
  unfold turnJ at ht
  repeat' split at ht
  all_goals first|(cases ht; done)|(simp only [Option.some.injEq] at ht; subst ht; refine ⟨?_, ?_, ?_⟩ <;> (first|omega|(simp [refuseR]; done)|(simp only [refuseR]; omega)|(simp; omega)))
theorem ans_small {L : List Int}{all : Bool} : ∀ {ps : List TPart}{a : Nat},(∀ p ∈ ps,SmallP p) → (ansGo L all ps a).length ≤ ps.length ∧ ∀ r ∈ ansGo L all ps a,SmallA r
  | [],a,_ => ⟨Nat.le_refl _,fun r hr => by cases hr⟩
  | p :: t,a,h => by
    have hp := base_small (L := L) (h p List.mem_cons_self) a
    rw [ansGo]
    split
    · obtain ⟨h1,h2⟩ := ans_small (L := L) (all := all) (a := (baseJ L p a).2) fun x hx => h x (List.mem_cons_of_mem _ hx)
      refine ⟨by simp only [List.length_cons]; omega,fun r hr => ?_⟩
      rcases List.mem_cons.1 hr with rfl|hr
      · unfold SmallA; omega
      · exact h2 r hr
    · split
      · exact ⟨by simp,fun r hr => by cases hr⟩
      · rename_i r2 hr2
        obtain ⟨h1,h2⟩ := ans_small (L := L) (all := all) (a := (turnJ L (baseJ L p a).1 (baseJ L p a).2).2) fun x hx => h x (List.mem_cons_of_mem _ hx)
        refine ⟨by simp only [List.length_cons]; omega,fun r hr => ?_⟩
        rcases List.mem_cons.1 hr with rfl|hr
        · exact turn_small hp hr2
        · exact h2 r hr
theorem bitsJ_len : ∀ {ps : List TPart}{rs : List TReply},(∀ r ∈ rs,r.bits.length ≤ 5000 ∧ r.vals.length ≤ 5000 ∧ r.data.length ≤ 5000) → (bitsJ ps rs).length ≤ 5000 * ps.length ∧ (valsJ ps rs).length ≤ 5000 * ps.length
  | p :: ps,r :: rs,h => by
    have h1 := h r List.mem_cons_self
    obtain ⟨h2,h3⟩ := bitsJ_len (ps := ps) (rs := rs) fun x hx => h x (List.mem_cons_of_mem _ hx)
    simp only [bitsJ,valsJ,List.length_append,List.length_cons]
    constructor <;> split <;> (try simp only [List.length_nil]) <;> omega
  | [],_,_ => ⟨Nat.zero_le _,Nat.zero_le _⟩
  | _ :: _,[],_ => ⟨Nat.zero_le _,Nat.zero_le _⟩
theorem wholeJ_len {q : TRequest}{B : List Bool}{V : List UInt16} (hb : q.bits.length ≤ 140737488351232) (hv : q.vals.length ≤ 70368744175616) (hB : B.length ≤ 30000) (hV : V.length ≤ 30000) :
    (wholeJ q B V).bits.length ≤ 140737488351232 ∧ (wholeJ q B V).vals.length ≤ 70368744175616 ∧ (wholeJ q B V).data.length ≤ 5000 := by
  unfold wholeJ
  repeat' split
  all_goals (refine ⟨?_, ?_, ?_⟩ <;> (first|(simp only [refuseR,List.length_nil]; omega)|(simp only [List.length_nil]; omega)|(simp [refuseR]; done)|(simp only; omega)))
theorem joinV_len {F : Int}{l : List TWindow}{q : TRequest}{rs : List TReply} (hb : q.bits.length ≤ 140737488351232) (hv : q.vals.length ≤ 70368744175616) (hr : ∀ r ∈ rs,r.bits.length ≤ 5000 ∧ r.vals.length ≤ 5000 ∧ r.data.length ≤ 5000) :
    (joinV F l q rs).bits.length ≤ 140737488351232 ∧ (joinV F l q rs).vals.length ≤ 70368744175616 ∧ (joinV F l q rs).data.length ≤ 5000 := by
  have h6 := (split_len F l q).1
  obtain ⟨h1,h2⟩ := bitsJ_len (ps := (splitP F l q).1) (rs := rs.take (splitP F l q).1.length) fun r hm => hr r (List.mem_of_mem_take hm)
  have hw := wholeJ_len (B := bitsJ (splitP F l q).1 (rs.take (splitP F l q).1.length)) (V := valsJ (splitP F l q).1 (rs.take (splitP F l q).1.length)) hb hv (by omega) (by omega)
  have hno : ∀ n k : Int,(refuseR n k).bits.length ≤ 140737488351232 ∧ (refuseR n k).vals.length ≤ 70368744175616 ∧ (refuseR n k).data.length ≤ 5000 := fun n k => by simp [refuseR]
  unfold joinV
  split
  · exact hno _ _
  · split
    · exact hno _ _
    · split
      · exact hno _ _
      · split
        · exact hno _ _
        · exact hw
section
variable {L : List Int}{all : Bool}{ps : List TPart}{i a b b2 : Nat}{p : TPart}{r r2 : TReply}{os res : List TReply}
theorem go_all (ha : all = true) (hg : os ++ ansGo L all (ps.drop i) a = res) (h : ps[i]? = some p) (hb : baseJ L p a = (r,b)) : os ++ [r] ++ ansGo L all (ps.drop (i + 1)) b = res := by
  subst ha; rw [← hg,ans_all h hb,List.append_assoc]; rfl
theorem go_turn (ha : all = false) (hg : os ++ ansGo L all (ps.drop i) a = res) (h : ps[i]? = some p) (hb : baseJ L p a = (r,b)) (ht : turnJ L r b = (some r2,b2)) : os ++ [r2] ++ ansGo L all (ps.drop (i + 1)) b2 = res := by
  subst ha; rw [← hg,ans_turn h hb ht,List.append_assoc]; rfl
theorem go_stop (ha : all = false) (hg : os ++ ansGo L all (ps.drop i) a = res) (h : ps[i]? = some p) (hb : baseJ L p a = (r,b)) (ht : turnJ L r b = (none,b2)) : os = res := by
  subst ha; rw [← hg,ans_stop h hb ht,List.append_nil]
theorem base_at {L : List Int}{p : TPart}{a : Nat} : (baseJ L p a).1.at_ = 0 ∨ (baseJ L p a).1.at_ = p.request.at_ := by
  unfold baseJ
  repeat' split
  all_goals first|exact .inl rfl|exact .inr rfl
end
theorem s_maskZ {P : Program}{tab : Tab}{nx : Nat}{env : Env}{H : Heap}{K : PV → Nat → Heap → Prop}{t u : Nat}{x y : Operand}{ai : Int}{z : Nat} (n : Nat) {bi : Int} (hn : n < 63) (hz : z = (ai % 2 ^ n).toNat) (h1 : ev env x = some (.f (.v (.int .i64 ai)))) (h2 : ev env y = some (.f (.v (.int .i64 bi)))) (hb : bi = 2 ^ n - 1)
    (h : K (pN z) nx H) : stepOp P tab env nx H K (.binOp .and t x y u) := s_maskI n hn h1 h2 hb (by rw [← hz]; exact h)
theorem w_burgagelaw15_tenant (t : List Int) (cl_t : Bool) (i : Nat) (ht : t.length ≤ 70000000000000) (hi : i ≤ 1000) :
    T Try.prog 21 [pS 1 cl_t encI t,pN i] 0 [] (fun ra rb rc => ∃ p : TTenant,(WinsOk p.windows) ∧ (Ret (PV.f (eTenant p)) 0 []) ra rb rc) := by
 refine t_fun tabOk (n := 19) (rs := [.cell 4 26]) Try.func21 rfl rfl rfl rfl (nb rfl) ?_
 intro c hnt hk
 refine sr (qo hnt rfl (s_alloc tab_26 ?_))
 refine r_set [(0,pS 1 cl_t encI t),(1,pN i),(4,PV.ptr 0 0)] [(0,.obj [pI 0,pK .u32 0,pI 0,pNil,pNil])] 1 ⟨rfl,rfl,rfl,trivial⟩ rfl rfl (re (sr (xm hnt 3 [.o 3] [] [(8,PV.ptr 1 0)] 2 [(1,.obj [pS 1 cl_t encI t,pI 0]),(0,.obj [pI 0,pK .u32 0,pI 0,pNil,pNil])] (qo hnt rfl (s_callX2 (p := fun (X1 : TTable) (b1 : Nat) => TabG X1) (r2 := fun X1 b1 => PV.f (eTable X1)) (nx1 := 2) (H2 := [(1,.obj [pS 1 cl_t encI t,pI 0]),(0,.obj [pI 0,pK .u32 0,pI 0,pNil,pNil])]) (H3 := fun X1 b1 => [(1,.obj [pS 1 false encI t,pN b1]),(0,.obj [pI 0,pK .u32 0,pI 0,pNil,pNil])]) [1] [.obj [pS 1 cl_t encI t,pI 0]] rfl rfl rfl (handed_of (by decide) ⟨rfl,trivial⟩) rfl rfl rfl rfl rfl rfl (w_burgagekeep_Tape_Table t cl_t 0 (by omega)) (fun X1 b1 => rfl) (fun X1 b1 => dist_of rfl) (fun X1 b1 => rfl) (fun X1 b1 => rfl) rfl (fun X1 b1 => rfl) (fun X1 b1 hX1 => ?_))))))
 refine qo hnt rfl (s_alloc tab_70 ?_)
 refine qo hnt rfl (s_store_ptr tab_70 rfl rfl rfl rfl rfl (nb rfl) ?_)
 refine r_set [(1,pN i),(4,PV.ptr 0 0),(5,PV.ptr 2 0)] [(2,.obj (cTable X1)),(1,.obj [pS 1 false encI t,pN b1]),(0,.obj [pI 0,pK .u32 0,pI 0,pNil,pNil])] 3 ⟨rfl,rfl,rfl,trivial⟩ rfl rfl (re (w_seq ?_))
 have hxl := hX1.len
 refine wdr hnt (xq 6 [.o 5,.c (pN X1.tenants.length)] [lenC eTenant X1.tenants] ?_ (hc := ⟨lenC_ok _ _,trivial⟩))
 refine xk [(12,pN i),(15,pN X1.tenants.length)] [] [] [] [(2,.obj (cTable X1)),(1,.obj [pS 1 false encI t,pN b1]),(0,.obj [pI 0,pK .u32 0,pI 0,pNil,pNil])] (s_remN (a := i) (b := X1.tenants.length) rfl rfl (by omega) (by omega) (by omega) ⟨rfl,rfl,rfl⟩) ?_
 obtain ⟨e1,he1⟩ := get_of_lt X1.tenants (i := i % X1.tenants.length) (by have := Nat.mod_lt i (show 0 < X1.tenants.length by omega); omega)
 refine xk [(11,pS 5 false eTenant X1.tenants),(16,pN (i % X1.tenants.length))] [] [] [] [(2,.obj (cTable X1)),(1,.obj [pS 1 false encI t,pN b1]),(0,.obj [pI 0,pK .u32 0,pI 0,pNil,pNil])] (s_iaM (q := i % X1.tenants.length) (b := e1) (f := eTenant) tab_68 rfl tab_26 rfl rfl (by omega) rfl he1 ⟨rfl,rfl,rfl⟩) (xd 2 [.o 2] [] 3 [(0,.obj (cTenant e1)),(2,.obj (cTable X1)),(1,.obj [pS 1 false encI t,pN b1])] (xe [(4,PV.ptr 0 0)] (re (w_ret ?_))))
 have hex : WinsOk (⟨e1.unit,e1.functions,e1.queue,e1.windows,e1.slots⟩ : TTenant).windows := by
   exact hX1.wins _ (List.mem_of_getElem? he1)
 exact fin_plain (ret_cell tab_26 (by decide) rfl rfl (nb rfl) rfl ret_nil) rfl rfl ⟨((⟨e1.unit,e1.functions,e1.queue,e1.windows,e1.slots⟩ : TTenant)),hex,rfl,rfl,rfl⟩
theorem w_burgagelaw15_same (t : TTenant) (q : TRequest) (l : List TReply) (cl_l : Bool) (ht : t.windows.length ≤ 1000) (hb : q.bits.length ≤ 140737488351232) (hv : q.vals.length ≤ 70368744175616) (hl : l.length ≤ 1000000) (hrl : ∀ r ∈ l,r.bits.length ≤ 5000 ∧ r.vals.length ≤ 5000 ∧ r.data.length ≤ 5000) :
    T Try.prog 23 [PV.f (eTenant t),PV.f (eRequest q),pS 10 cl_l eReply l] 0 [] (Ret (pB true) 0 []) := by
 refine t_fun tabOk (n := 16) (rs := [.tmp 6]) Try.func23 rfl rfl rfl rfl (nb rfl) ?_
 intro c hnt hk
 refine sr (qo hnt rfl (s_box rfl rfl ?_))
 refine qo hnt rfl (s_box rfl rfl ?_)
 refine qa hnt rfl rfl (r_set [(2,pS 10 cl_l eReply l),(3,PV.ptr 0 0),(4,PV.ptr 1 0)] [(1,.obj (cRequest q)),(0,.obj (cTenant t))] 2 ⟨rfl,rfl,rfl,trivial⟩ rfl rfl (re (w_seq (wdr hnt (xq 3 [.o 3] [] ?_)))))
 obtain ⟨J1,hJ1⟩ : ∃ z : TReply,z = joinV t.functions t.windows q l := ⟨_,rfl⟩
 refine xk [(7,PV.f (eTenant t)),(8,PV.f (eRequest q)),(9,pS 10 cl_l eReply l)] [] [] [] [(1,.obj (cRequest q)),(0,.obj (cTenant t))] (s_callF rfl rfl rfl (w_join_Reply t q l cl_l J1 hJ1 (by omega) (by omega) (by omega) (by omega) (by omega)) rfl ⟨rfl,rfl,rfl⟩) (xq 3 [.o 3] [] ?_)
 obtain ⟨J2,hJ2⟩ : ∃ z : TReply,z = joinV t.functions t.windows q l := ⟨_,rfl⟩
 refine xk [(11,PV.f (eTenant t)),(12,PV.f (eRequest q)),(13,pS 10 cl_l eReply l)] [] [] [] [(1,.obj (cRequest q)),(0,.obj (cTenant t))] (s_callF rfl rfl rfl (w_burgageref14_Join t q l cl_l J2 hJ2 (by omega) (by omega) (by omega) (by omega) (by omega)) rfl ⟨rfl,rfl,rfl⟩) (xq 2 [.c (pB (decide (J1 = J2))),.o 1] [T Try.prog 28 [PV.f (eReply J1),PV.f (eReply J2)] 0 [] (Ret (pB (decide (J1 = J2))) 0 [])] ?_ (hc := ⟨(w_burgageref3_Alike J1 J2 (by rw [hJ1]; have h9 := joinV_len (F := t.functions) (l := t.windows) (q := q) (rs := l) hb hv hrl; omega)),trivial⟩))
 exact xe [(6,pB (decide (J1 = J2)))] (re (w_le (s := 6) (y := pB true) rfl (le_of_eq (congrArg pB (show (decide (J1 = J2)) = true by rw [hJ1,hJ2]; simp))) (w_ret fp)))
end Go.Proofs.Ytlcmbkkimgdnmaa
