/- What the law PartNumbers needs, and no more: merged out of texts of this session by a program of it (wip/tools/prune.py). -/
import Derived.Test.YtlcmbkkimgdnmaaQPartNumbers3
set_option linter.unusedVariables false
set_option linter.unusedSimpArgs false
set_option maxRecDepth 10000
set_option maxHeartbeats 1000000
namespace Go.Proofs.Ytlcmbkkimgdnmaa
open Go Go.Proofs.Ytlcmbkkimgdnmaa.Pv
theorem w_part_space (n : Int)  :
    T Try.prog 61 [pI n] 0 [] (Ret (pI (spP n)) 0 []) := by
 refine t_fun tabOk (n := 12) (rs := [.tmp 2]) Try.func61 rfl rfl rfl rfl (Nat.le_of_ble_eq_true rfl) ?_
 intro c hnt hk
 refine w_seq (w_R (qa hnt rfl rfl (r_end (q_then (w_seq ?_)))))
 refine w_seq (w_R (qm hnt rfl rfl (r_end (q_then (w_block ?_)))))
 refine join1 (fun (bb1 : Bool) => bb1 = ((decide (n = 1)) || ((decide (n = 5)) || (decide (n = 15))))) (fun (bb1 : Bool) => [(3,pI n),(4,pB bb1)]) 0 (fun (bb1 : Bool) => []) ?_ ?_
 ·refine w_seq (w_R (qo hnt rfl (s_eql rfl rfl ?_)))
  refine qa hnt rfl rfl (r_end (q_then (w_if rfl (fun c1 => ?_) (fun c1 => ?_))))
  ·have c1_ := c1
   try simp only [sB] at c1
   refine w_skip (q_then (⟨(decide (n = 1)), ?_,⟨[],rfl,⟨⟨_,rfl,rfl,rfl⟩,⟨_,rfl,rfl,rfl⟩,trivial⟩,trivial,by rw [hk]; decide⟩⟩))
   simp only [c1_,Bool.true_or,Bool.false_or]
  have c1_ := c1
  try simp only [sB] at c1
  refine w_seq (w_R (qo hnt rfl (s_eql rfl rfl ?_)))
  refine qa hnt rfl rfl (r_end (q_then (w_if rfl (fun c2 => ?_) (fun c2 => ?_))))
  ·have c2_ := c2
   try simp only [sB] at c2
   refine w_skip (q_then (⟨(decide (n = 5)), ?_,⟨[],rfl,⟨⟨_,rfl,rfl,rfl⟩,⟨_,rfl,rfl,rfl⟩,trivial⟩,trivial,by rw [hk]; decide⟩⟩))
   simp only [c1_,c2_,Bool.true_or,Bool.false_or]
  have c2_ := c2
  try simp only [sB] at c2
  refine w_R (qo hnt rfl (s_eql rfl rfl ?_))
  refine qa hnt rfl rfl (r_end (q_then (⟨(decide (n = 15)), ?_,⟨[],rfl,⟨⟨_,rfl,rfl,rfl⟩,⟨_,rfl,rfl,rfl⟩,trivial⟩,trivial,by rw [hk]; decide⟩⟩)))
  simp only [c1_,c2_,Bool.true_or,Bool.false_or]
 intro bb1 hbb1
 subst hbb1
 refine w_if rfl (fun c3 => ?_) (fun c3 => ?_)
 ·try simp only [sB,Bool.or_eq_true,Bool.or_eq_false_iff] at c3
  refine w_seq (w_R (qa hnt rfl rfl (r_end (q_then (w_le (s := 2) (y := pI (spP n)) rfl (le_of_eq (congrArg pI (show 0 = (spP n) by exact (spP_0 (by omega)).symm))) ?_)))))
  refine w_ret (q_block_ret (q_then_ret ?_))
  exact fin_plain (ret_tmp rfl ret_nil) rfl rfl ⟨rfl,rfl,rfl⟩
 try simp only [sB,Bool.or_eq_true,Bool.or_eq_false_iff] at c3
 refine w_seq (w_R (qo hnt rfl (s_eql rfl rfl ?_)))
 refine qa hnt rfl rfl (r_end (q_then (w_if rfl (fun c4 => ?_) (fun c4 => ?_))))
 ·try simp only [sB] at c4
  refine w_seq (w_R (qa hnt rfl rfl (r_end (q_then (w_le (s := 2) (y := pI (spP n)) rfl (le_of_eq (congrArg pI (show 1 = (spP n) by exact (spP_1 (by omega)).symm))) ?_)))))
  refine w_ret (q_block_ret (q_then_ret ?_))
  exact fin_plain (ret_tmp rfl ret_nil) rfl rfl ⟨rfl,rfl,rfl⟩
 try simp only [sB] at c4
 refine w_seq (w_R (qo hnt rfl (s_eql rfl rfl ?_)))
 refine qa hnt rfl rfl (r_end (q_then (w_if rfl (fun c5 => ?_) (fun c5 => ?_))))
 ·try simp only [sB] at c5
  refine w_seq (w_R (qa hnt rfl rfl (r_end (q_then (w_le (s := 2) (y := pI (spP n)) rfl (le_of_eq (congrArg pI (show 2 = (spP n) by exact (spP_2 (by omega)).symm))) ?_)))))
  refine w_ret (q_block_ret (q_then_ret ?_))
  exact fin_plain (ret_tmp rfl ret_nil) rfl rfl ⟨rfl,rfl,rfl⟩
 try simp only [sB] at c5
 refine w_skip (q_block (q_then (w_seq (w_R (qa hnt rfl rfl ?_)))))
 refine r_end (q_then (w_le (s := 2) (y := pI (spP n)) rfl (le_of_eq (congrArg pI (show 3 = (spP n) by exact (spP_3 (by omega)).symm))) (w_ret ?_)))
 exact fin_plain (ret_tmp rfl ret_nil) rfl rfl ⟨rfl,rfl,rfl⟩
theorem w_burgageref14_local (n : Int)  :
    T Try.prog 55 [pI n] 0 [] (Ret (pB (locP n)) 0 []) := by
 refine t_fun tabOk (n := 9) (rs := [.tmp 2]) Try.func55 rfl rfl rfl rfl (Nat.le_of_ble_eq_true rfl) ?_
 intro c hnt hk
 refine w_seq (w_R (qa hnt rfl rfl (r_end (q_then (w_seq ?_)))))
 refine w_R (qm hnt rfl rfl (qo hnt rfl (s_eql rfl rfl ?_)))
 refine qm hnt rfl rfl (r_cut0 3 [(2,pB false),(8,pB ((decide (n = 8)) || (decide (n = 17))))] ?_ ?_)
 ·refine r_if tabOk hnt rfl rfl rfl (fun g1 => ?_) (fun g1 => ?_)
  ·have g1' := g1
   try simp only [sB] at g1'
   refine qm hnt rfl rfl (ry hnt rfl rfl rfl g1 (qo hnt rfl (s_eql rfl rfl ?_)))
   refine qo hnt rfl (s_pick_f rfl g1 rfl ?_)
   refine r_eq (s := 8) (y := pB ((decide (n = 8)) || (decide (n = 17)))) rfl (mix_of g1) ?_
   exact r_mid ⟨⟨rfl,rfl,trivial⟩,rfl,rfl⟩
  ·have g1' := g1
   try simp only [sB] at g1'
   refine rn hnt rfl rfl rfl g1 (qo hnt rfl (s_pick_t rfl g1 rfl ?_))
   refine r_eq (s := 8) (y := pB ((decide (n = 8)) || (decide (n = 17)))) rfl (mix_ot _ g1) ?_
   exact r_mid ⟨⟨rfl,rfl,trivial⟩,rfl,rfl⟩
 ·refine qa hnt rfl rfl (r_end (q_then (w_le (s := 2) (y := pB (locP n)) rfl (le_of_eq (congrArg pB (show ((decide (n = 8)) || (decide (n = 17))) = (locP n) by rfl))) (w_ret ?_))))
  exact fin_plain (ret_tmp rfl ret_nil) rfl rfl ⟨rfl,rfl,rfl⟩
theorem w_part_Local (q : TRequest)  :
    T Try.prog 19 [PV.f (eRequest q)] 0 [] (Ret (pB (locP q.fn)) 0 []) := by
 refine t_fun tabOk (n := 11) (rs := [.tmp 2]) Try.func19 rfl rfl rfl rfl (Nat.le_of_ble_eq_true rfl) ?_
 intro c hnt hk
 refine w_seq (w_R (qo hnt rfl (s_box rfl rfl ?_)))
 refine qa hnt rfl rfl (r_set [(1,PV.ptr 0 0)] [(0,.obj (cRequest q))] 1 ⟨rfl,trivial⟩ rfl rfl (r_end (q_then (w_seq (w_R ?_)))))
 refine qo hnt rfl (s_fa_ptr tab_37 rfl rfl tab_3 (by decide) rfl ?_)
 refine qo hnt rfl (s_load_ptr1 tab_3 rfl rfl rfl rfl rfl ?_)
 refine qo hnt rfl (s_eql rfl rfl ?_)
 refine qm hnt rfl rfl (r_cut0 4 [(10,pB ((decide (q.fn = 8)) || (decide (q.fn = 17))))] ?_ ?_)
 ·refine r_if tabOk hnt rfl rfl rfl (fun g1 => ?_) (fun g1 => ?_)
  ·have g1' := g1
   try simp only [sB] at g1'
   refine qo hnt rfl (s_fa_ptr tab_37 rfl rfl tab_3 (by decide) rfl ?_)
   refine ry hnt rfl rfl rfl g1 (qo hnt rfl (s_load_ptr1 tab_3 rfl rfl rfl rfl rfl ?_))
   refine ry hnt rfl rfl rfl g1 (qo hnt rfl (s_eql rfl rfl ?_))
   refine qo hnt rfl (s_pick_f rfl g1 rfl ?_)
   refine r_eq (s := 10) (y := pB ((decide (q.fn = 8)) || (decide (q.fn = 17)))) rfl (mix_of g1) ?_
   exact r_mid ⟨⟨rfl,trivial⟩,rfl,rfl⟩
  ·have g1' := g1
   try simp only [sB] at g1'
   refine rn hnt rfl rfl rfl g1 (rn hnt rfl rfl rfl g1 (qo hnt rfl (s_pick_t rfl g1 rfl ?_)))
   refine r_eq (s := 10) (y := pB ((decide (q.fn = 8)) || (decide (q.fn = 17)))) rfl (mix_ot _ g1) ?_
   exact r_mid ⟨⟨rfl,trivial⟩,rfl,rfl⟩
 ·refine qa hnt rfl rfl (r_end (q_then (w_le (s := 2) (y := pB (locP q.fn)) rfl (le_of_eq (congrArg pB (show ((decide (q.fn = 8)) || (decide (q.fn = 17))) = (locP q.fn) by rfl))) (w_ret ?_))))
  exact fin_plain (ret_tmp rfl ret_nil) rfl rfl ⟨rfl,rfl,rfl⟩
theorem w_burgageref14_Local (q : TRequest)  :
    T Try.prog 34 [PV.f (eRequest q)] 0 [] (Ret (pB (locP q.fn)) 0 []) := by
 refine t_fun tabOk (n := 6) (rs := [.tmp 2]) Try.func34 rfl rfl rfl rfl (Nat.le_of_ble_eq_true rfl) ?_
 intro c hnt hk
 refine w_seq (w_R (qo hnt rfl (s_box rfl rfl ?_)))
 refine qa hnt rfl rfl (r_set [(1,PV.ptr 0 0)] [(0,.obj (cRequest q))] 1 ⟨rfl,trivial⟩ rfl rfl (r_end (q_then (w_seq (w_R ?_)))))
 refine qo hnt rfl (s_fa_ptr tab_37 rfl rfl tab_3 (by decide) rfl ?_)
 refine qo hnt rfl (s_load_ptr1 tab_3 rfl rfl rfl rfl rfl ?_)
 refine qo hnt rfl (s_callF rfl rfl rfl (w_burgageref14_local q.fn) rfl ?_)
 refine qa hnt rfl rfl (r_end (q_then (w_ret ?_)))
 exact fin_plain (ret_tmp rfl ret_nil) rfl rfl ⟨rfl,rfl,rfl⟩
theorem w_part_pieces (t : TTenant) (q : TRequest) (ht : t.windows.length ≤ 1000) (hb : q.bits.length ≤ 140737488351232) (hv : q.vals.length ≤ 70368744175616) (hc : hasF q.fn = true) :
    T Try.prog 36 [PV.f (eTenant t),PV.f (eRequest q)] 0 [] (Ret (PV.tup [pS 3 false ePiece (pW t.windows q),pS 3 false ePiece (pR t.windows q),pB (pOk t.windows q)]) 0 []) := by
 refine t_fun tabOk (n := 96) (rs := [.tmp 4,.tmp 5,.tmp 6]) Try.func36 rfl rfl rfl rfl (Nat.le_of_ble_eq_true rfl) ?_
 intro c hnt hk
 refine w_seq (w_R (qo hnt rfl (s_box rfl rfl ?_)))
 refine qo hnt rfl (s_box rfl rfl ?_)
 refine qa hnt rfl rfl (qa hnt rfl rfl (qa hnt rfl rfl (r_set [(2,PV.ptr 0 0),(3,PV.ptr 1 0),(4,pNil),(5,pNil)] [(1,.obj (cRequest q)),(0,.obj (cTenant t))] 2 ⟨rfl,rfl,rfl,rfl,trivial⟩ rfl rfl (r_end (q_then ?_)))))
 refine w_seq (w_R (qo hnt rfl (s_fa_ptr tab_26 rfl rfl tab_23 (by decide) rfl ?_)))
 refine qo hnt rfl (s_load_ptr1 tab_23 rfl rfl rfl rfl rfl ?_)
 refine qa hnt rfl rfl (r_end (q_then (w_seq (w_seq ?_))))
 have hfo := hasF_of hc
 refine w_R (qo hnt rfl (s_fa_ptr tab_37 rfl rfl tab_3 (by decide) rfl ?_))
 refine qo hnt rfl (s_load_ptr1 tab_3 rfl rfl rfl rfl rfl ?_)
 refine r_end (q_then (w_block (join1 (fun (bb1 : Bool) => bb1 = ((decide (q.fn = 1)) || ((decide (q.fn = 2)) || ((decide (q.fn = 3)) || (decide (q.fn = 4)))))) (fun (bb1 : Bool) => [(3,PV.ptr 0 0),(4,pNil),(5,pNil),(7,pS 4 false eWindow t.windows),(12,pI q.fn),(13,pB bb1)]) 1 (fun (bb1 : Bool) => [(0,.obj (cRequest q))]) ?_ ?_)))
 ·refine w_seq (w_R (qo hnt rfl (s_eql rfl rfl ?_)))
  refine qa hnt rfl rfl (r_end (q_then (w_if rfl (fun c1 => ?_) (fun c1 => ?_))))
  ·have c1_ := c1
   try simp only [sB] at c1
   refine w_skip (q_then (⟨(decide (q.fn = 1)), ?_,⟨[(0,1)],by rw [hk]; decide,⟨⟨_,rfl,rfl,rfl⟩,⟨_,rfl,rfl,rfl⟩,⟨_,rfl,rfl,rfl⟩,⟨_,rfl,rfl,rfl⟩,⟨_,rfl,rfl,rfl⟩,⟨_,rfl,rfl,rfl⟩,trivial⟩,⟨⟨_,_,rfl,rfl,rfl,rfl⟩,trivial⟩,by rw [hk]; decide⟩⟩))
   simp only [c1_,Bool.true_or,Bool.false_or]
  have c1_ := c1
  try simp only [sB] at c1
  refine w_seq (w_R (qo hnt rfl (s_eql rfl rfl ?_)))
  refine qa hnt rfl rfl (r_end (q_then (w_if rfl (fun c2 => ?_) (fun c2 => ?_))))
  ·have c2_ := c2
   try simp only [sB] at c2
   refine w_skip (q_then (⟨(decide (q.fn = 2)), ?_,⟨[(0,1)],by rw [hk]; decide,⟨⟨_,rfl,rfl,rfl⟩,⟨_,rfl,rfl,rfl⟩,⟨_,rfl,rfl,rfl⟩,⟨_,rfl,rfl,rfl⟩,⟨_,rfl,rfl,rfl⟩,⟨_,rfl,rfl,rfl⟩,trivial⟩,⟨⟨_,_,rfl,rfl,rfl,rfl⟩,trivial⟩,by rw [hk]; decide⟩⟩))
   simp only [c1_,c2_,Bool.true_or,Bool.false_or]
  have c2_ := c2
  try simp only [sB] at c2
  refine w_seq (w_R (qo hnt rfl (s_eql rfl rfl ?_)))
  refine qa hnt rfl rfl (r_end (q_then (w_if rfl (fun c3 => ?_) (fun c3 => ?_))))
  ·have c3_ := c3
   try simp only [sB] at c3
   refine w_skip (q_then (⟨(decide (q.fn = 3)), ?_,⟨[(0,1)],by rw [hk]; decide,⟨⟨_,rfl,rfl,rfl⟩,⟨_,rfl,rfl,rfl⟩,⟨_,rfl,rfl,rfl⟩,⟨_,rfl,rfl,rfl⟩,⟨_,rfl,rfl,rfl⟩,⟨_,rfl,rfl,rfl⟩,trivial⟩,⟨⟨_,_,rfl,rfl,rfl,rfl⟩,trivial⟩,by rw [hk]; decide⟩⟩))
   simp only [c1_,c2_,c3_,Bool.true_or,Bool.false_or]
  have c3_ := c3
  try simp only [sB] at c3
  refine w_R (qo hnt rfl (s_eql rfl rfl ?_))
  refine qa hnt rfl rfl (r_end (q_then (⟨(decide (q.fn = 4)), ?_,⟨[(0,1)],by rw [hk]; decide,⟨⟨_,rfl,rfl,rfl⟩,⟨_,rfl,rfl,rfl⟩,⟨_,rfl,rfl,rfl⟩,⟨_,rfl,rfl,rfl⟩,⟨_,rfl,rfl,rfl⟩,⟨_,rfl,rfl,rfl⟩,trivial⟩,⟨⟨_,_,rfl,rfl,rfl,rfl⟩,trivial⟩,by rw [hk]; decide⟩⟩)))
  simp only [c1_,c2_,c3_,Bool.true_or,Bool.false_or]
 intro bb1 hbb1
 subst hbb1
 refine w_if rfl (fun c4 => ?_) (fun c4 => ?_)
 ·try simp only [sB,Bool.or_eq_true,Bool.or_eq_false_iff] at c4
  refine W_drawn tabOk mixed hnt [[],[],[1],[1,2],[],[4],[],[6],(.range 8),(.range 9),(.range 10),(.range 10),(.range 11),(.range 13)] (by kernel_rfl) (d_op (x_run0 [(7,pS 4 false eWindow t.windows)] [] rfl rfl rfl rfl (s_move rfl ⟨rfl,rfl,rfl⟩) (d_op (x_run0 [(3,PV.ptr 0 0)] [] rfl rfl rfl rfl (s_fa_ptr tab_37 rfl rfl tab_3 (by decide) rfl ⟨rfl,rfl,rfl⟩) (d_op ?_)))))
  refine xL [(20,PV.ptr 0 0)] [1] [(0,.obj (cRequest q))] rfl rfl rfl rfl rfl (s_load_ptr1 tab_3 rfl rfl rfl rfl rfl ⟨rfl,rfl,rfl⟩) ⟨rfl,trivial⟩ rfl (d_op (x_run0 [(21,pI q.fn)] [1,2] rfl rfl rfl rfl (s_callF rfl rfl rfl (w_part_space q.fn) rfl ⟨rfl,rfl,rfl⟩) (d_op (x_run0 [(3,PV.ptr 0 0)] [] rfl rfl rfl rfl (s_fa_ptr tab_37 rfl rfl tab_3 (by decide) rfl ⟨rfl,rfl,rfl⟩) (d_op ?_)))))
  refine xL [(23,PV.ptr 0 1)] [4] [(0,.obj (cRequest q))] rfl rfl rfl rfl rfl (s_load_ptr1 tab_3 rfl rfl rfl rfl rfl ⟨rfl,rfl,rfl⟩) ⟨rfl,trivial⟩ rfl (d_op (x_run0 [(3,PV.ptr 0 0)] [] rfl rfl rfl rfl (s_fa_ptr tab_37 rfl rfl tab_3 (by decide) rfl ⟨rfl,rfl,rfl⟩) (d_op (xL [(25,PV.ptr 0 2)] [6] [(0,.obj (cRequest q))] rfl rfl rfl rfl rfl (s_load_ptr1 tab_3 rfl rfl rfl rfl rfl ⟨rfl,rfl,rfl⟩) ⟨rfl,trivial⟩ rfl (d_op ?_)))))
  refine x_run0 [(19,pS 4 false eWindow t.windows),(22,pI (spP q.fn)),(24,pI q.at_),(26,pI q.count)] (.range 8) rfl rfl rfl rfl (s_callF rfl rfl rfl (w_window_Map t.windows false (spP q.fn) q.at_ q.count (by omega)) rfl ⟨rfl,rfl,rfl⟩) (d_op (x_run0 [(27,PV.tup [pS 3 true ePiece (mapL t.windows (spP q.fn) q.at_ q.count),pB (mapOk t.windows (spP q.fn) q.at_ q.count)])] (.range 9) rfl rfl rfl rfl (s_move rfl ⟨rfl,rfl,rfl⟩) (d_op (x_run0 [(18,PV.tup [pS 3 true ePiece (mapL t.windows (spP q.fn) q.at_ q.count),pB (mapOk t.windows (spP q.fn) q.at_ q.count)])] (.range 10) rfl rfl rfl rfl (s_extract rfl rfl ⟨rfl,rfl,rfl⟩) (d_op ?_)))))
  refine x_run0 [(18,PV.tup [pS 3 true ePiece (mapL t.windows (spP q.fn) q.at_ q.count),pB (mapOk t.windows (spP q.fn) q.at_ q.count)])] (.range 10) rfl rfl rfl rfl (s_extract rfl rfl ⟨rfl,rfl,rfl⟩) (d_op (x_run0 [(28,pS 3 true ePiece (mapL t.windows (spP q.fn) q.at_ q.count))] (.range 11) rfl rfl rfl rfl (s_assign rfl ⟨rfl,rfl,rfl⟩) (d_op (x_run0 [(29,pB (mapOk t.windows (spP q.fn) q.at_ q.count))] (.range 13) rfl rfl rfl rfl (s_assign rfl ⟨rfl,rfl,rfl⟩) (d_end ⟨by kernel_rfl, ?_⟩)))))
  refine q_block (q_then (w_seq (w_R (qm hnt rfl rfl (qm hnt rfl rfl ?_)))))
  refine qm hnt rfl rfl (qa hnt rfl rfl (qa hnt rfl rfl (qa hnt rfl rfl (r_end (q_then ?_)))))
  refine w_le (s := 4) (y := pS 3 false ePiece []) rfl (le_nilS 3 false) (w_le (s := 4) (y := pS 3 false ePiece (pW t.windows q)) rfl (le_of_eq (congrArg (fun z => pS 3 false ePiece z) (show ([] : List TPiece) = (pW t.windows q) by (rw [(pAll_r (by omega)).1]; done)))) (w_le (s := 5) (y := pS 3 false ePiece (mapL t.windows (spP q.fn) q.at_ q.count)) rfl (le_loose) (w_le (s := 5) (y := pS 3 false ePiece (pR t.windows q)) rfl (le_of_eq (congrArg (fun z => pS 3 false ePiece z) (show (mapL t.windows (spP q.fn) q.at_ q.count) = (pR t.windows q) by (rw [(pAll_r (by omega)).2.1]; done)))) (w_le (s := 6) (y := pB (pOk t.windows q)) rfl (le_of_eq (congrArg pB (show (mapOk t.windows (spP q.fn) q.at_ q.count) = (pOk t.windows q) by (rw [(pAll_r (by omega)).2.2]; done)))) (w_ret ?_)))))
  exact fin_plain (ret_tmp rfl (ret_tmp rfl (ret_tmp rfl ret_nil))) rfl rfl ⟨rfl,rfl,rfl⟩
 try simp only [sB,Bool.or_eq_true,Bool.or_eq_false_iff] at c4
 refine join1 (fun (bb2 : Bool) => bb2 = ((decide (q.fn = 5)) || (decide (q.fn = 6)))) (fun (bb2 : Bool) => [(3,PV.ptr 0 0),(4,pNil),(5,pNil),(7,pS 4 false eWindow t.windows),(12,pI q.fn),(30,pB bb2)]) 1 (fun (bb2 : Bool) => [(0,.obj (cRequest q))]) ?_ ?_
 ·refine w_seq (w_R (qo hnt rfl (s_eql rfl rfl ?_)))
  refine qa hnt rfl rfl (r_end (q_then (w_if rfl (fun c5 => ?_) (fun c5 => ?_))))
  ·have c5_ := c5
   try simp only [sB] at c5
   refine w_skip (q_then (⟨(decide (q.fn = 5)), ?_,⟨[(0,0)],by rw [hk]; decide,⟨⟨_,rfl,rfl,rfl⟩,⟨_,rfl,rfl,rfl⟩,⟨_,rfl,rfl,rfl⟩,⟨_,rfl,rfl,rfl⟩,⟨_,rfl,rfl,rfl⟩,⟨_,rfl,rfl,rfl⟩,trivial⟩,⟨⟨_,_,rfl,rfl,rfl,rfl⟩,trivial⟩,by rw [hk]; decide⟩⟩))
   simp only [c5_,Bool.true_or,Bool.false_or]
  have c5_ := c5
  try simp only [sB] at c5
  refine w_R (qo hnt rfl (s_eql rfl rfl ?_))
  refine qa hnt rfl rfl (r_end (q_then (⟨(decide (q.fn = 6)), ?_,⟨[(0,0)],by rw [hk]; decide,⟨⟨_,rfl,rfl,rfl⟩,⟨_,rfl,rfl,rfl⟩,⟨_,rfl,rfl,rfl⟩,⟨_,rfl,rfl,rfl⟩,⟨_,rfl,rfl,rfl⟩,⟨_,rfl,rfl,rfl⟩,trivial⟩,⟨⟨_,_,rfl,rfl,rfl,rfl⟩,trivial⟩,by rw [hk]; decide⟩⟩)))
  simp only [c5_,Bool.true_or,Bool.false_or]
 intro bb2 hbb2
 subst hbb2
 refine w_if rfl (fun c6 => ?_) (fun c6 => ?_)
 ·try simp only [sB,Bool.or_eq_true,Bool.or_eq_false_iff] at c6
  refine W_drawn tabOk mixed hnt [[],[],[1],[1,2],[],[4],[0,1,2,3,4,5],[0,1,2,3,4,5,6],(.range 8),(.range 8),(.range 9),(.range 11)] (by kernel_rfl) (d_op (x_run0 [(7,pS 4 false eWindow t.windows)] [] rfl rfl rfl rfl (s_move rfl ⟨rfl,rfl,rfl⟩) (d_op (x_run0 [(3,PV.ptr 0 0)] [] rfl rfl rfl rfl (s_fa_ptr tab_37 rfl rfl tab_3 (by decide) rfl ⟨rfl,rfl,rfl⟩) (d_op ?_)))))
  refine xL [(35,PV.ptr 0 0)] [1] [(0,.obj (cRequest q))] rfl rfl rfl rfl rfl (s_load_ptr1 tab_3 rfl rfl rfl rfl rfl ⟨rfl,rfl,rfl⟩) ⟨rfl,trivial⟩ rfl (d_op (x_run0 [(36,pI q.fn)] [1,2] rfl rfl rfl rfl (s_callF rfl rfl rfl (w_part_space q.fn) rfl ⟨rfl,rfl,rfl⟩) (d_op (x_run0 [(3,PV.ptr 0 0)] [] rfl rfl rfl rfl (s_fa_ptr tab_37 rfl rfl tab_3 (by decide) rfl ⟨rfl,rfl,rfl⟩) (d_op ?_)))))
  refine xL [(38,PV.ptr 0 1)] [4] [(0,.obj (cRequest q))] rfl rfl rfl rfl rfl (s_load_ptr1 tab_3 rfl rfl rfl rfl rfl ⟨rfl,rfl,rfl⟩) ⟨rfl,trivial⟩ rfl (d_op (x_run0 [(34,pS 4 false eWindow t.windows),(37,pI (spP q.fn)),(39,pI q.at_)] [0,1,2,3,4,5] rfl rfl rfl rfl (s_callF rfl rfl rfl (w_window_Map t.windows false (spP q.fn) q.at_ 1 (by omega)) rfl ⟨rfl,rfl,rfl⟩) (d_op (x_run0 [(40,PV.tup [pS 3 true ePiece (mapL t.windows (spP q.fn) q.at_ 1),pB (mapOk t.windows (spP q.fn) q.at_ 1)])] [0,1,2,3,4,5,6] rfl rfl rfl rfl (s_move rfl ⟨rfl,rfl,rfl⟩) (d_op ?_)))))
  refine x_run0 [(33,PV.tup [pS 3 true ePiece (mapL t.windows (spP q.fn) q.at_ 1),pB (mapOk t.windows (spP q.fn) q.at_ 1)])] (.range 8) rfl rfl rfl rfl (s_extract rfl rfl ⟨rfl,rfl,rfl⟩) (d_op (x_run0 [(33,PV.tup [pS 3 true ePiece (mapL t.windows (spP q.fn) q.at_ 1),pB (mapOk t.windows (spP q.fn) q.at_ 1)])] (.range 8) rfl rfl rfl rfl (s_extract rfl rfl ⟨rfl,rfl,rfl⟩) (d_op (x_run0 [(41,pS 3 true ePiece (mapL t.windows (spP q.fn) q.at_ 1))] (.range 9) rfl rfl rfl rfl (s_assign rfl ⟨rfl,rfl,rfl⟩) (d_op ?_)))))
  refine x_run0 [(42,pB (mapOk t.windows (spP q.fn) q.at_ 1))] (.range 11) rfl rfl rfl rfl (s_assign rfl ⟨rfl,rfl,rfl⟩) (d_end ⟨by kernel_rfl, ?_⟩)
  refine q_block (q_then (w_seq (w_R (qm hnt rfl rfl (qm hnt rfl rfl ?_)))))
  refine qm hnt rfl rfl (qa hnt rfl rfl (qa hnt rfl rfl (qa hnt rfl rfl (r_end (q_then ?_)))))
  refine w_le (s := 4) (y := pS 3 false ePiece (mapL t.windows (spP q.fn) q.at_ 1)) rfl (le_loose) (w_le (s := 4) (y := pS 3 false ePiece (pW t.windows q)) rfl (le_of_eq (congrArg (fun z => pS 3 false ePiece z) (show (mapL t.windows (spP q.fn) q.at_ 1) = (pW t.windows q) by (rw [(pAll_5 (by omega)).1]; done)))) (w_le (s := 5) (y := pS 3 false ePiece []) rfl (le_nilS 3 false) (w_le (s := 5) (y := pS 3 false ePiece (pR t.windows q)) rfl (le_of_eq (congrArg (fun z => pS 3 false ePiece z) (show ([] : List TPiece) = (pR t.windows q) by (rw [(pAll_5 (by omega)).2.1]; done)))) (w_le (s := 6) (y := pB (pOk t.windows q)) rfl (le_of_eq (congrArg pB (show (mapOk t.windows (spP q.fn) q.at_ 1) = (pOk t.windows q) by (rw [(pAll_5 (by omega)).2.2]; done)))) (w_ret ?_)))))
  exact fin_plain (ret_tmp rfl (ret_tmp rfl (ret_tmp rfl ret_nil))) rfl rfl ⟨rfl,rfl,rfl⟩
 try simp only [sB,Bool.or_eq_true,Bool.or_eq_false_iff] at c6
 refine join1 (fun (bb3 : Bool) => bb3 = ((decide (q.fn = 15)) || (decide (q.fn = 16)))) (fun (bb3 : Bool) => [(3,PV.ptr 0 0),(4,pNil),(5,pNil),(7,pS 4 false eWindow t.windows),(12,pI q.fn),(43,pB bb3)]) 1 (fun (bb3 : Bool) => [(0,.obj (cRequest q))]) ?_ ?_
 ·refine w_seq (w_R (qo hnt rfl (s_eql rfl rfl ?_)))
  refine qa hnt rfl rfl (r_end (q_then (w_if rfl (fun c7 => ?_) (fun c7 => ?_))))
  ·have c7_ := c7
   try simp only [sB] at c7
   refine w_skip (q_then (⟨(decide (q.fn = 15)), ?_,⟨[(0,0)],by rw [hk]; decide,⟨⟨_,rfl,rfl,rfl⟩,⟨_,rfl,rfl,rfl⟩,⟨_,rfl,rfl,rfl⟩,⟨_,rfl,rfl,rfl⟩,⟨_,rfl,rfl,rfl⟩,⟨_,rfl,rfl,rfl⟩,trivial⟩,⟨⟨_,_,rfl,rfl,rfl,rfl⟩,trivial⟩,by rw [hk]; decide⟩⟩))
   simp only [c7_,Bool.true_or,Bool.false_or]
  have c7_ := c7
  try simp only [sB] at c7
  refine w_R (qo hnt rfl (s_eql rfl rfl ?_))
  refine qa hnt rfl rfl (r_end (q_then (⟨(decide (q.fn = 16)), ?_,⟨[(0,0)],by rw [hk]; decide,⟨⟨_,rfl,rfl,rfl⟩,⟨_,rfl,rfl,rfl⟩,⟨_,rfl,rfl,rfl⟩,⟨_,rfl,rfl,rfl⟩,⟨_,rfl,rfl,rfl⟩,⟨_,rfl,rfl,rfl⟩,trivial⟩,⟨⟨_,_,rfl,rfl,rfl,rfl⟩,trivial⟩,by rw [hk]; decide⟩⟩)))
  simp only [c7_,Bool.true_or,Bool.false_or]
 intro bb3 hbb3
 subst hbb3
 refine w_if rfl (fun c8 => ?_) (fun c8 => ?_)
 ·try simp only [sB,Bool.or_eq_true,Bool.or_eq_false_iff] at c8
  refine W_drawn tabOk mixed hnt [[],[],[1],[1,2],[],[4],[],[6],(.range 8),(.range 9),(.range 10),(.range 10),(.range 11),(.range 13)] (by kernel_rfl) (d_op (x_run0 [(7,pS 4 false eWindow t.windows)] [] rfl rfl rfl rfl (s_move rfl ⟨rfl,rfl,rfl⟩) (d_op (x_run0 [(3,PV.ptr 0 0)] [] rfl rfl rfl rfl (s_fa_ptr tab_37 rfl rfl tab_3 (by decide) rfl ⟨rfl,rfl,rfl⟩) (d_op ?_)))))
  refine xL [(48,PV.ptr 0 0)] [1] [(0,.obj (cRequest q))] rfl rfl rfl rfl rfl (s_load_ptr1 tab_3 rfl rfl rfl rfl rfl ⟨rfl,rfl,rfl⟩) ⟨rfl,trivial⟩ rfl (d_op (x_run0 [(49,pI q.fn)] [1,2] rfl rfl rfl rfl (s_callF rfl rfl rfl (w_part_space q.fn) rfl ⟨rfl,rfl,rfl⟩) (d_op (x_run0 [(3,PV.ptr 0 0)] [] rfl rfl rfl rfl (s_fa_ptr tab_37 rfl rfl tab_3 (by decide) rfl ⟨rfl,rfl,rfl⟩) (d_op ?_)))))
  refine xL [(51,PV.ptr 0 1)] [4] [(0,.obj (cRequest q))] rfl rfl rfl rfl rfl (s_load_ptr1 tab_3 rfl rfl rfl rfl rfl ⟨rfl,rfl,rfl⟩) ⟨rfl,trivial⟩ rfl (d_op (x_run0 [(3,PV.ptr 0 0)] [] rfl rfl rfl rfl (s_fa_ptr tab_37 rfl rfl tab_3 (by decide) rfl ⟨rfl,rfl,rfl⟩) (d_op (xL [(53,PV.ptr 0 2)] [6] [(0,.obj (cRequest q))] rfl rfl rfl rfl rfl (s_load_ptr1 tab_3 rfl rfl rfl rfl rfl ⟨rfl,rfl,rfl⟩) ⟨rfl,trivial⟩ rfl (d_op ?_)))))
  refine x_run0 [(47,pS 4 false eWindow t.windows),(50,pI (spP q.fn)),(52,pI q.at_),(54,pI q.count)] (.range 8) rfl rfl rfl rfl (s_callF rfl rfl rfl (w_window_Map t.windows false (spP q.fn) q.at_ q.count (by omega)) rfl ⟨rfl,rfl,rfl⟩) (d_op (x_run0 [(55,PV.tup [pS 3 true ePiece (mapL t.windows (spP q.fn) q.at_ q.count),pB (mapOk t.windows (spP q.fn) q.at_ q.count)])] (.range 9) rfl rfl rfl rfl (s_move rfl ⟨rfl,rfl,rfl⟩) (d_op (x_run0 [(46,PV.tup [pS 3 true ePiece (mapL t.windows (spP q.fn) q.at_ q.count),pB (mapOk t.windows (spP q.fn) q.at_ q.count)])] (.range 10) rfl rfl rfl rfl (s_extract rfl rfl ⟨rfl,rfl,rfl⟩) (d_op ?_)))))
  refine x_run0 [(46,PV.tup [pS 3 true ePiece (mapL t.windows (spP q.fn) q.at_ q.count),pB (mapOk t.windows (spP q.fn) q.at_ q.count)])] (.range 10) rfl rfl rfl rfl (s_extract rfl rfl ⟨rfl,rfl,rfl⟩) (d_op (x_run0 [(56,pS 3 true ePiece (mapL t.windows (spP q.fn) q.at_ q.count))] (.range 11) rfl rfl rfl rfl (s_assign rfl ⟨rfl,rfl,rfl⟩) (d_op (x_run0 [(57,pB (mapOk t.windows (spP q.fn) q.at_ q.count))] (.range 13) rfl rfl rfl rfl (s_assign rfl ⟨rfl,rfl,rfl⟩) (d_end ⟨by kernel_rfl, ?_⟩)))))
  refine q_block (q_then (w_seq (w_R (qm hnt rfl rfl (qm hnt rfl rfl ?_)))))
  refine qm hnt rfl rfl (qa hnt rfl rfl (qa hnt rfl rfl (qa hnt rfl rfl (r_end (q_then ?_)))))
  refine w_le (s := 4) (y := pS 3 false ePiece (mapL t.windows (spP q.fn) q.at_ q.count)) rfl (le_loose) (w_le (s := 4) (y := pS 3 false ePiece (pW t.windows q)) rfl (le_of_eq (congrArg (fun z => pS 3 false ePiece z) (show (mapL t.windows (spP q.fn) q.at_ q.count) = (pW t.windows q) by (rw [(pAll_15 (by omega)).1]; done)))) (w_le (s := 5) (y := pS 3 false ePiece []) rfl (le_nilS 3 false) (w_le (s := 5) (y := pS 3 false ePiece (pR t.windows q)) rfl (le_of_eq (congrArg (fun z => pS 3 false ePiece z) (show ([] : List TPiece) = (pR t.windows q) by (rw [(pAll_15 (by omega)).2.1]; done)))) (w_le (s := 6) (y := pB (pOk t.windows q)) rfl (le_of_eq (congrArg pB (show (mapOk t.windows (spP q.fn) q.at_ q.count) = (pOk t.windows q) by (rw [(pAll_15 (by omega)).2.2]; done)))) (w_ret ?_)))))
  exact fin_plain (ret_tmp rfl (ret_tmp rfl (ret_tmp rfl ret_nil))) rfl rfl ⟨rfl,rfl,rfl⟩
 try simp only [sB,Bool.or_eq_true,Bool.or_eq_false_iff] at c8
 refine w_seq (w_R (qo hnt rfl (s_eql rfl rfl ?_)))
 refine qa hnt rfl rfl (r_end (q_then (w_if rfl (fun c9 => ?_) (fun c9 => ?_))))
 ·try simp only [sB] at c9
  refine w_seq (w_R (qm hnt rfl rfl (qo hnt rfl (s_fa_ptr tab_37 rfl rfl tab_3 (by decide) rfl ?_))))
  refine qo hnt rfl (s_load_ptr1 tab_3 rfl rfl rfl rfl rfl ?_)
  refine qo hnt rfl (s_callF rfl rfl rfl (w_window_Map t.windows false 3 q.at_ 1 (by omega)) rfl ?_)
  refine qm hnt rfl rfl (qo hnt rfl (s_extract rfl rfl ?_))
  refine qo hnt rfl (s_extract rfl rfl ?_)
  refine qa hnt rfl rfl (qa hnt rfl rfl (r_end (q_then (w_R (qm hnt rfl rfl ?_)))))
  refine qa hnt rfl rfl (r_end (q_block (q_then (w_seq (w_R ?_)))))
  refine qm hnt rfl rfl (qm hnt rfl rfl (qm hnt rfl rfl (qa hnt rfl rfl (qa hnt rfl rfl (qa hnt rfl rfl ?_)))))
  refine r_end (q_then (w_le (s := 4) (y := pS 3 false ePiece (mapL t.windows 3 q.at_ 1)) rfl (le_loose) (w_le (s := 4) (y := pS 3 false ePiece (pW t.windows q)) rfl (le_of_eq (congrArg (fun z => pS 3 false ePiece z) (show (mapL t.windows 3 q.at_ 1) = (pW t.windows q) by (rw [(pAll_22 (by omega)).1]; done)))) (w_le (s := 5) (y := pS 3 false ePiece (mapL t.windows 3 q.at_ 1)) rfl (le_loose) (w_le (s := 5) (y := pS 3 false ePiece (pR t.windows q)) rfl (le_of_eq (congrArg (fun z => pS 3 false ePiece z) (show (mapL t.windows 3 q.at_ 1) = (pR t.windows q) by (rw [(pAll_22 (by omega)).2.1]; done)))) ?_)))))
  refine w_le (s := 6) (y := pB (pOk t.windows q)) rfl (le_of_eq (congrArg pB (show (mapOk t.windows 3 q.at_ 1) = (pOk t.windows q) by (rw [(pAll_22 (by omega)).2.2]; done)))) (w_ret ?_)
  exact fin_plain (ret_tmp rfl (ret_tmp rfl (ret_tmp rfl ret_nil))) rfl rfl ⟨rfl,rfl,rfl⟩
 try simp only [sB] at c9
 refine w_seq (w_R (qo hnt rfl (s_eql rfl rfl ?_)))
 refine qa hnt rfl rfl (r_end (q_then (w_if rfl (fun c10 => ?_) (fun c10 => ?_))))
 ·try simp only [sB] at c10
  refine w_seq (w_R (qa hnt rfl rfl (r_end (q_then (w_seq ?_)))))
  refine w_R (qm hnt rfl rfl (qo hnt rfl (s_fa_ptr tab_37 rfl rfl tab_3 (by decide) rfl ?_)))
  refine qo hnt rfl (s_load_ptr1 tab_3 rfl rfl rfl rfl rfl ?_)
  refine qo hnt rfl (s_fa_ptr tab_37 rfl rfl tab_34 (by decide) rfl ?_)
  refine qo hnt rfl (s_load_ptr1 tab_34 rfl rfl rfl rfl rfl ?_)
  refine qo hnt rfl (s_lenM (l := q.vals) tab_34 rfl (hM_sl (f := enc16) rfl) ?_)
  refine qo hnt rfl (s_callF rfl rfl rfl (w_window_Map t.windows false 3 q.wAt ((q.vals.length : Nat) : Int) (by omega)) rfl ?_)
  refine qm hnt rfl rfl (qo hnt rfl (s_extract rfl rfl ?_))
  refine qo hnt rfl (s_extract rfl rfl ?_)
  refine qa hnt rfl rfl (qa hnt rfl rfl (r_end (q_then (w_seq (w_R ?_)))))
  refine qm hnt rfl rfl (qo hnt rfl (s_fa_ptr tab_37 rfl rfl tab_3 (by decide) rfl ?_))
  refine qo hnt rfl (s_load_ptr1 tab_3 rfl rfl rfl rfl rfl ?_)
  refine qo hnt rfl (s_fa_ptr tab_37 rfl rfl tab_3 (by decide) rfl ?_)
  refine qo hnt rfl (s_load_ptr1 tab_3 rfl rfl rfl rfl rfl ?_)
  refine qo hnt rfl (s_callF rfl rfl rfl (w_window_Map t.windows false 3 q.at_ q.count (by omega)) rfl ?_)
  refine qm hnt rfl rfl (qo hnt rfl (s_extract rfl rfl ?_))
  refine qo hnt rfl (s_extract rfl rfl ?_)
  refine qa hnt rfl rfl (qa hnt rfl rfl (r_set [(4,pS 3 true ePiece (mapL t.windows 3 q.wAt ((q.vals.length : Nat) : Int))),(5,pS 3 true ePiece (mapL t.windows 3 q.at_ q.count)),(6,pB (mapOk t.windows 3 q.wAt ((q.vals.length : Nat) : Int))),(8,pB (mapOk t.windows 3 q.at_ q.count))] [(0,.obj (cRequest q))] 1 ⟨rfl,rfl,rfl,rfl,trivial⟩ rfl rfl (r_end (q_then (w_R ?_)))))
  refine qm hnt rfl rfl (qm hnt rfl rfl (r_cut0 2 [(4,pS 3 true ePiece (mapL t.windows 3 q.wAt ((q.vals.length : Nat) : Int))),(5,pS 3 true ePiece (mapL t.windows 3 q.at_ q.count)),(6,pB (mapOk t.windows 3 q.wAt ((q.vals.length : Nat) : Int))),(92,pB ((mapOk t.windows 3 q.wAt ((q.vals.length : Nat) : Int)) && (mapOk t.windows 3 q.at_ q.count)))] ?_ ?_))
  ·refine r_if tabOk hnt rfl rfl rfl (fun g1 => ?_) (fun g1 => ?_)
   ·have g1' := g1
    try simp only [sB] at g1'
    refine qm hnt rfl rfl (qo hnt rfl (s_pick_t rfl g1 rfl ?_))
    refine r_eq (s := 92) (y := pB ((mapOk t.windows 3 q.wAt ((q.vals.length : Nat) : Int)) && (mapOk t.windows 3 q.at_ q.count))) rfl (mix_at g1) ?_
    exact r_mid ⟨⟨rfl,rfl,rfl,rfl,trivial⟩,rfl,rfl⟩
   ·have g1' := g1
    try simp only [sB] at g1'
    refine qo hnt rfl (s_pick_f rfl g1 rfl ?_)
    refine r_eq (s := 92) (y := pB ((mapOk t.windows 3 q.wAt ((q.vals.length : Nat) : Int)) && (mapOk t.windows 3 q.at_ q.count))) rfl (mix_af _ g1) ?_
    exact r_mid ⟨⟨rfl,rfl,rfl,rfl,trivial⟩,rfl,rfl⟩
  ·refine qa hnt rfl rfl (r_end (q_block (q_then (w_seq (w_R ?_)))))
   refine qm hnt rfl rfl (qm hnt rfl rfl (qm hnt rfl rfl (qa hnt rfl rfl (qa hnt rfl rfl (qa hnt rfl rfl ?_)))))
   refine r_end (q_then (w_le (s := 4) (y := pS 3 false ePiece (mapL t.windows 3 q.wAt ((q.vals.length : Nat) : Int))) rfl (le_loose) (w_le (s := 4) (y := pS 3 false ePiece (pW t.windows q)) rfl (le_of_eq (congrArg (fun z => pS 3 false ePiece z) (show (mapL t.windows 3 q.wAt ((q.vals.length : Nat) : Int)) = (pW t.windows q) by (rw [(pAll_23 (by omega)).1]; done)))) (w_le (s := 5) (y := pS 3 false ePiece (mapL t.windows 3 q.at_ q.count)) rfl (le_loose) (w_le (s := 5) (y := pS 3 false ePiece (pR t.windows q)) rfl (le_of_eq (congrArg (fun z => pS 3 false ePiece z) (show (mapL t.windows 3 q.at_ q.count) = (pR t.windows q) by (rw [(pAll_23 (by omega)).2.1]; done)))) ?_)))))
   refine w_le (s := 6) (y := pB (pOk t.windows q)) rfl (le_of_eq (congrArg pB (show ((mapOk t.windows 3 q.wAt ((q.vals.length : Nat) : Int)) && (mapOk t.windows 3 q.at_ q.count)) = (pOk t.windows q) by (rw [(pAll_23 (by omega)).2.2]; done)))) (w_ret ?_)
   exact fin_plain (ret_tmp rfl (ret_tmp rfl (ret_tmp rfl ret_nil))) rfl rfl ⟨rfl,rfl,rfl⟩
 try simp only [sB] at c10
 refine w_R (qa hnt rfl rfl (r_end (q_block (q_then (w_seq ?_)))))
 refine w_R (qm hnt rfl rfl (qm hnt rfl rfl (qm hnt rfl rfl (qa hnt rfl rfl (qa hnt rfl rfl ?_)))))
 refine qa hnt rfl rfl (r_end (q_then (w_le (s := 4) (y := pS 3 false ePiece []) rfl (le_nilS 3 false) (w_le (s := 4) (y := pS 3 false ePiece (pW t.windows q)) rfl (le_of_eq (congrArg (fun z => pS 3 false ePiece z) (show ([] : List TPiece) = (pW t.windows q) by (rw [(pAll_0 (by omega)).1]; done)))) (w_le (s := 5) (y := pS 3 false ePiece []) rfl (le_nilS 3 false) ?_)))))
 refine w_le (s := 5) (y := pS 3 false ePiece (pR t.windows q)) rfl (le_of_eq (congrArg (fun z => pS 3 false ePiece z) (show ([] : List TPiece) = (pR t.windows q) by (rw [(pAll_0 (by omega)).2.1]; done)))) (w_le (s := 6) (y := pB (pOk t.windows q)) rfl (le_of_eq (congrArg pB (show true = (pOk t.windows q) by (rw [(pAll_0 (by omega)).2.2]; done)))) (w_ret ?_))
 exact fin_plain (ret_tmp rfl (ret_tmp rfl (ret_tmp rfl ret_nil))) rfl rfl ⟨rfl,rfl,rfl⟩
theorem w_part_Code (t : TTenant) (q : TRequest) (ht : t.windows.length ≤ 1000) (hb : q.bits.length ≤ 140737488351232) (hv : q.vals.length ≤ 70368744175616) :
    T Try.prog 18 [PV.f (eTenant t),PV.f (eRequest q)] 0 [] (Ret (pI (codeP t.functions t.windows q)) 0 []) := by
 refine t_fun tabOk (n := 48) (rs := [.tmp 4]) Try.func18 rfl rfl rfl rfl (Nat.le_of_ble_eq_true rfl) ?_
 intro c hnt hk
 refine w_seq (w_R (qo hnt rfl (s_box rfl rfl ?_)))
 refine qo hnt rfl (s_box rfl rfl ?_)
 refine qa hnt rfl rfl (r_set [(2,PV.ptr 0 0),(3,PV.ptr 1 0)] [(1,.obj (cRequest q)),(0,.obj (cTenant t))] 2 ⟨rfl,rfl,trivial⟩ rfl rfl (r_end (q_then (w_seq (w_R ?_)))))
 refine qo hnt rfl (s_load_ptr tab_37 rfl rfl rfl (Nat.le_of_ble_eq_true rfl) ?_)
 refine qo hnt rfl (s_callF rfl rfl rfl (w_pdu_Right q (by omega) (by omega)) rfl ?_)
 refine qa hnt rfl rfl (r_end (q_then (w_seq (w_block (w_seq ?_)))))
 refine w_R (qm hnt rfl rfl (qo hnt rfl (s_eql rfl rfl ?_)))
 refine qm hnt rfl rfl (r_if tabOk hnt rfl rfl rfl (fun g1 => ?_) (fun g1 => ?_))
 ·have g1' := g1
  try simp only [sB] at g1'
  refine qo hnt rfl (s_fa_ptr tab_26 rfl rfl tab_22 (by decide) rfl ?_)
  refine ry hnt rfl rfl rfl g1 (qo hnt rfl (s_load_ptr1 tab_22 rfl rfl rfl rfl rfl ?_))
  refine ry hnt rfl rfl rfl g1 (qo hnt rfl (s_fa_ptr tab_37 rfl rfl tab_3 (by decide) rfl ?_))
  refine ry hnt rfl rfl rfl g1 (qo hnt rfl (s_load_ptr1 tab_3 rfl rfl rfl rfl rfl ?_))
  have hfo := hasF_of (right_15 (by simpa using g1))
  obtain ⟨fnn,hfn⟩ : ∃ n : Nat,q.fn = (n : Int) := ⟨q.fn.toNat,by omega⟩
  have hfnl : fnn < 32 := by omega
  have hfb : fBit t.functions q.fn = decide (bitI .and .u32 (t.functions / 2 ^ fnn) 1 = 0) := by unfold fBit; rw [hfn,Int.toNat_natCast]
  refine r_eq (s := 18) (y := pN fnn) rfl (congrArg pI (show q.fn = ((fnn : Nat) : Int) by exact hfn)) (ry hnt rfl rfl rfl g1 (qo hnt rfl (s_shrK fnn rfl rfl (by show _ < (32 : Nat); omega) ?_)))
  refine ry hnt rfl rfl rfl g1 (qo hnt rfl (s_and rfl rfl ?_))
  refine ry hnt rfl rfl rfl g1 (qo hnt rfl (s_eql rfl rfl ?_))
  refine qo hnt rfl (s_pick_f rfl g1 rfl ?_)
  refine qa hnt rfl rfl (r_end (q_then (w_if rfl (fun c1 => ?_) (fun c1 => ?_))))
  ·have c1_ := c1
   try simp only [sB] at c1
   refine w_seq (w_R (qa hnt rfl rfl (r_end (q_then (w_le (s := 4) (y := pI (codeP t.functions t.windows q)) rfl (le_of_eq (congrArg pI (show 1 = (codeP t.functions t.windows q) by exact (codeP_1 (.inr (hfb.trans c1_))).symm))) ?_)))))
   refine w_ret (q_block_ret (q_then_ret ?_))
   exact fin_plain (ret_tmp rfl ret_nil) rfl rfl ⟨rfl,rfl,rfl⟩
  have c1_ := c1
  try simp only [sB] at c1
  have hno : ¬ (rightR q = 15 ∨ fBit t.functions q.fn = true) := by rintro (h|h); exact absurd h (by simpa using g1); rw [hfb,c1_] at h; cases h
  refine w_seq (w_R (qm hnt rfl rfl (qo hnt rfl (s_neq rfl rfl ?_))))
  refine qm hnt rfl rfl (r_if tabOk hnt rfl rfl rfl (fun g2 => ?_) (fun g2 => ?_))
  ·have g2' := g2
   try simp only [sB] at g2'
   refine qo hnt rfl (s_load_ptr tab_37 rfl rfl rfl (Nat.le_of_ble_eq_true rfl) ?_)
   refine ry hnt rfl rfl rfl g2 (qo hnt rfl (s_callF rfl rfl rfl (w_pdu_Counts q (by omega) (by omega)) rfl ?_))
   refine ry hnt rfl rfl rfl g2 (qo hnt rfl (s_not rfl ?_))
   refine qo hnt rfl (s_pick_f rfl g2 rfl ?_)
   refine qa hnt rfl rfl (r_end (q_then (w_if rfl (fun c2 => ?_) (fun c2 => ?_))))
   ·have c2_ := c2
    try simp only [sB] at c2
    refine w_seq (w_R (qa hnt rfl rfl (r_end (q_then (w_le (s := 4) (y := pI (codeP t.functions t.windows q)) rfl (le_of_eq (congrArg pI (show 3 = (codeP t.functions t.windows q) by exact (codeP_3 hno (by simpa using c2_)).symm))) ?_)))))
    refine w_ret (q_block_ret (q_then_ret ?_))
    exact fin_plain (ret_tmp rfl ret_nil) rfl rfl ⟨rfl,rfl,rfl⟩
   have c2_ := c2
   try simp only [sB] at c2
   refine w_skip (q_block (q_then (w_seq ?_)))
   have hcy : countsR q = true := by simpa using c2_
   have hpl := p_len t.windows q
   refine w_R (qo hnt rfl (s_load_ptr tab_26 rfl rfl rfl (Nat.le_of_ble_eq_true rfl) ?_))
   refine qo hnt rfl (s_load_ptr tab_37 rfl rfl rfl (Nat.le_of_ble_eq_true rfl) ?_)
   refine qo hnt rfl (s_callF rfl rfl rfl (w_part_pieces t q (by omega) (by omega) (by omega) (by exact counts_has hcy)) rfl ?_)
   refine qm hnt rfl rfl (qo hnt rfl (s_extract rfl rfl ?_))
   refine qo hnt rfl (s_extract rfl rfl ?_)
   refine qo hnt rfl (s_extract rfl rfl ?_)
   refine qa hnt rfl rfl (qa hnt rfl rfl (qa hnt rfl rfl (r_set [(6,pS 3 false ePiece (pW t.windows q)),(7,pS 3 false ePiece (pR t.windows q)),(8,pB (pOk t.windows q))] [(1,.obj (cRequest q)),(0,.obj (cTenant t))] 2 ⟨rfl,rfl,rfl,trivial⟩ rfl rfl (r_end (q_then ?_)))))
   refine w_seq (w_block (w_seq (w_R (qm hnt rfl rfl (qo hnt rfl (s_not rfl ?_))))))
   refine qa hnt rfl rfl (r_end (q_then (w_if rfl (fun c3 => ?_) (fun c3 => ?_))))
   ·have c3_ := c3
    try simp only [sB] at c3
    refine w_seq (w_R (qa hnt rfl rfl (r_end (q_then (w_le (s := 4) (y := pI (codeP t.functions t.windows q)) rfl (le_of_eq (congrArg pI (show 2 = (codeP t.functions t.windows q) by exact (codeP_2 hno hcy (by simpa using c3_)).symm))) ?_)))))
    refine w_ret (q_block_ret (q_then_ret ?_))
    exact fin_plain (ret_tmp rfl ret_nil) rfl rfl ⟨rfl,rfl,rfl⟩
   have c3_ := c3
   try simp only [sB] at c3
   have hpy : pOk t.windows q = true := by simpa using c3_
   refine w_seq (w_R (qm hnt rfl rfl (qo hnt rfl (s_lenM (l := pW t.windows q) tab_79 rfl (hM_sl (f := ePiece) rfl) ?_))))
   refine qm hnt rfl rfl (qo hnt rfl (s_lenM (l := pR t.windows q) tab_79 rfl (hM_sl (f := ePiece) rfl) ?_))
   refine qo hnt rfl (s_addN (a := (pW t.windows q).length) (b := (pR t.windows q).length) rfl rfl (by omega) (by omega) (by omega) ?_)
   refine qo hnt rfl (s_gtr rfl rfl ?_)
   refine qa hnt rfl rfl (r_end (q_then (w_if rfl (fun c4 => ?_) (fun c4 => ?_))))
   ·try simp only [sB] at c4
    refine w_seq (w_R (qa hnt rfl rfl (r_end (q_then (w_le (s := 4) (y := pI (codeP t.functions t.windows q)) rfl (le_of_eq (congrArg pI (show 4 = (codeP t.functions t.windows q) by exact (codeP_4 hno hcy hpy (by omega)).symm))) ?_)))))
    refine w_ret (q_block_ret (q_then_ret ?_))
    exact fin_plain (ret_tmp rfl ret_nil) rfl rfl ⟨rfl,rfl,rfl⟩
   try simp only [sB] at c4
   refine w_skip (q_block (q_then (w_seq (w_R (qa hnt rfl rfl ?_)))))
   refine r_end (q_then (w_le (s := 4) (y := pI (codeP t.functions t.windows q)) rfl (le_of_eq (congrArg pI (show 0 = (codeP t.functions t.windows q) by exact (codeP_0 hno hcy hpy (by omega)).symm))) (w_ret ?_)))
   exact fin_plain (ret_tmp rfl ret_nil) rfl rfl ⟨rfl,rfl,rfl⟩
  have g2' := g2
  try simp only [sB] at g2'
  refine rn hnt rfl rfl rfl g2 (rn hnt rfl rfl rfl g2 (qo hnt rfl (s_pick_t rfl g2 rfl ?_)))
  refine qa hnt rfl rfl (r_end (q_then (w_if rfl (fun _ => ?_) (fun e => absurd e (by decide)))))
  refine w_seq (w_R (qa hnt rfl rfl (r_end (q_then (w_le (s := 4) (y := pI (codeP t.functions t.windows q)) rfl (le_of_eq (congrArg pI (show 3 = (codeP t.functions t.windows q) by (exact (codeP_3 hno (cnt_bad (by rw [g2]; rfl))).symm)))) ?_)))))
  refine w_ret (q_block_ret (q_then_ret ?_))
  exact fin_plain (ret_tmp rfl ret_nil) rfl rfl ⟨rfl,rfl,rfl⟩
 have g1' := g1
 try simp only [sB] at g1'
 refine rn hnt rfl rfl rfl g1 (rn hnt rfl rfl rfl g1 (rn hnt rfl rfl rfl g1 (rn hnt rfl rfl rfl g1 (rn hnt rfl rfl rfl g1 (rn hnt rfl rfl rfl g1 ?_)))))
 refine qo hnt rfl (s_pick_t rfl g1 rfl ?_)
 refine qa hnt rfl rfl (r_end (q_then (w_if rfl (fun _ => ?_) (fun e => absurd e (by decide)))))
 refine w_seq (w_R (qa hnt rfl rfl (r_end (q_then (w_le (s := 4) (y := pI (codeP t.functions t.windows q)) rfl (le_of_eq (congrArg pI (show 1 = (codeP t.functions t.windows q) by exact (codeP_1 (.inl (of_decide_eq_true g1))).symm))) ?_)))))
 refine w_ret (q_block_ret (q_then_ret ?_))
 exact fin_plain (ret_tmp rfl ret_nil) rfl rfl ⟨rfl,rfl,rfl⟩
theorem w_burgageref14_count (q : TRequest) (a : Int) (b : Int) (h1 : 0 ≤ a ∧ a ≤ 2147483648) (h2 : 0 ≤ b ∧ b ≤ 2147483648) :
    T Try.prog 59 [PV.f (eRequest q),pI a,pI b] 0 [] (Ret (pI (cntP q.fn a b)) 0 []) := by
 refine t_fun tabOk (n := 17) (rs := [.tmp 6]) Try.func59 rfl rfl rfl rfl (Nat.le_of_ble_eq_true rfl) ?_
 intro c hnt hk
 refine w_seq (w_R (qo hnt rfl (s_box rfl rfl ?_)))
 refine qa hnt rfl rfl (r_set [(1,pI a),(2,pI b),(3,PV.ptr 0 0)] [(0,.obj (cRequest q))] 1 ⟨rfl,rfl,rfl,trivial⟩ rfl rfl (r_end (q_then (w_seq (w_seq ?_)))))
 refine w_R (qo hnt rfl (s_fa_ptr tab_37 rfl rfl tab_3 (by decide) rfl ?_))
 refine qo hnt rfl (s_load_ptr1 tab_3 rfl rfl rfl rfl rfl ?_)
 refine r_end (q_then (w_block (join1 (fun (bb1 : Bool) => bb1 = ((decide (q.fn = 5)) || (decide (q.fn = 6)))) (fun (bb1 : Bool) => [(1,pI a),(2,pI b),(8,pI q.fn),(9,pB bb1)]) 0 (fun (bb1 : Bool) => []) ?_ ?_)))
 ·refine w_seq (w_R (qo hnt rfl (s_eql rfl rfl ?_)))
  refine qa hnt rfl rfl (r_end (q_then (w_if rfl (fun c1 => ?_) (fun c1 => ?_))))
  ·have c1_ := c1
   try simp only [sB] at c1
   refine w_skip (q_then (⟨(decide (q.fn = 5)), ?_,⟨[],rfl,⟨⟨_,rfl,rfl,rfl⟩,⟨_,rfl,rfl,rfl⟩,⟨_,rfl,rfl,rfl⟩,⟨_,rfl,rfl,rfl⟩,trivial⟩,trivial,by rw [hk]; decide⟩⟩))
   simp only [c1_,Bool.true_or,Bool.false_or]
  have c1_ := c1
  try simp only [sB] at c1
  refine w_R (qo hnt rfl (s_eql rfl rfl ?_))
  refine qa hnt rfl rfl (r_end (q_then (⟨(decide (q.fn = 6)), ?_,⟨[],rfl,⟨⟨_,rfl,rfl,rfl⟩,⟨_,rfl,rfl,rfl⟩,⟨_,rfl,rfl,rfl⟩,⟨_,rfl,rfl,rfl⟩,trivial⟩,trivial,by rw [hk]; decide⟩⟩)))
  simp only [c1_,Bool.true_or,Bool.false_or]
 intro bb1 hbb1
 subst hbb1
 refine w_if rfl (fun c2 => ?_) (fun c2 => ?_)
 ·try simp only [sB,Bool.or_eq_true,Bool.or_eq_false_iff] at c2
  refine w_seq (w_R (qa hnt rfl rfl (r_end (q_then (w_le (s := 6) (y := pI (cntP q.fn a b)) rfl (le_of_eq (congrArg pI (show 1 = (cntP q.fn a b) by exact (cntP_5 (by omega)).symm))) ?_)))))
  refine w_ret (q_block_ret (q_then_ret ?_))
  exact fin_plain (ret_tmp rfl ret_nil) rfl rfl ⟨rfl,rfl,rfl⟩
 try simp only [sB,Bool.or_eq_true,Bool.or_eq_false_iff] at c2
 refine w_seq (w_R (qo hnt rfl (s_eql rfl rfl ?_)))
 refine qa hnt rfl rfl (r_end (q_then (w_if rfl (fun c3 => ?_) (fun c3 => ?_))))
 ·try simp only [sB] at c3
  refine w_seq (w_R (qa hnt rfl rfl (r_end (q_then (w_le (s := 6) (y := pI (cntP q.fn a b)) rfl (le_of_eq (congrArg pI (show 2 = (cntP q.fn a b) by exact (cntP_22 (by omega)).symm))) ?_)))))
  refine w_ret (q_block_ret (q_then_ret ?_))
  exact fin_plain (ret_tmp rfl ret_nil) rfl rfl ⟨rfl,rfl,rfl⟩
 try simp only [sB] at c3
 refine w_skip (q_block (q_then (w_seq (w_R (qm hnt rfl rfl ?_)))))
 refine qm hnt rfl rfl (qo hnt rfl (s_addi (r := a + b) rfl rfl rfl (by omega) ?_))
 refine qa hnt rfl rfl (r_end (q_then (w_le (s := 6) (y := pI (cntP q.fn a b)) rfl (le_of_eq (congrArg pI (show (a + b) = (cntP q.fn a b) by exact (cntP_0 (by omega)).symm))) (w_ret ?_))))
 exact fin_plain (ret_tmp rfl ret_nil) rfl rfl ⟨rfl,rfl,rfl⟩
theorem w_burgageref8_Spaces (n : Int)  :
    T Try.prog 71 [pI n] 0 [] (Ret (PV.tup [pI (spR n),pI (spW n)]) 0 []) := by
 refine t_fun tabOk (n := 22) (rs := [.tmp 2,.tmp 3]) Try.func71 rfl rfl rfl rfl (Nat.le_of_ble_eq_true rfl) ?_
 intro c hnt hk
 refine w_seq (w_R (qa hnt rfl rfl (qa hnt rfl rfl (r_end (q_then ?_)))))
 refine w_seq (w_seq (w_R (qm hnt rfl rfl (r_end (q_then ?_)))))
 refine w_block (w_seq (w_R (qo hnt rfl (s_eql rfl rfl ?_))))
 refine qa hnt rfl rfl (r_end (q_then (w_if rfl (fun c1 => ?_) (fun c1 => ?_))))
 ·try simp only [sB] at c1
  refine w_seq (w_R (qa hnt rfl rfl (qa hnt rfl rfl (r_end (q_then ?_)))))
  refine w_le (s := 2) (y := pI (spR n)) rfl (le_of_eq (congrArg pI (show 0 = (spR n) by (unfold spR; rw [if_pos (by omega)]; done)))) (w_le (s := 3) (y := pI (spW n)) rfl (le_of_eq (congrArg pI (show (-1) = (spW n) by (unfold spW; rw [if_neg (by omega),if_neg (by omega),if_neg (by omega)]; done)))) (w_ret (q_block_ret (q_then_ret ?_))))
  exact fin_plain (ret_tmp rfl (ret_tmp rfl ret_nil)) rfl rfl ⟨rfl,rfl,rfl⟩
 try simp only [sB] at c1
 refine w_seq (w_R (qo hnt rfl (s_eql rfl rfl ?_)))
 refine qa hnt rfl rfl (r_end (q_then (w_if rfl (fun c2 => ?_) (fun c2 => ?_))))
 ·try simp only [sB] at c2
  refine w_seq (w_R (qa hnt rfl rfl (qa hnt rfl rfl (r_end (q_then ?_)))))
  refine w_le (s := 2) (y := pI (spR n)) rfl (le_of_eq (congrArg pI (show 1 = (spR n) by (unfold spR; rw [if_neg (by omega),if_pos (by omega)]; done)))) (w_le (s := 3) (y := pI (spW n)) rfl (le_of_eq (congrArg pI (show (-1) = (spW n) by (unfold spW; rw [if_neg (by omega),if_neg (by omega),if_neg (by omega)]; done)))) (w_ret (q_block_ret (q_then_ret ?_))))
  exact fin_plain (ret_tmp rfl (ret_tmp rfl ret_nil)) rfl rfl ⟨rfl,rfl,rfl⟩
 try simp only [sB] at c2
 refine w_seq (w_R (qo hnt rfl (s_eql rfl rfl ?_)))
 refine qa hnt rfl rfl (r_end (q_then (w_if rfl (fun c3 => ?_) (fun c3 => ?_))))
 ·try simp only [sB] at c3
  refine w_seq (w_R (qa hnt rfl rfl (qa hnt rfl rfl (r_end (q_then ?_)))))
  refine w_le (s := 2) (y := pI (spR n)) rfl (le_of_eq (congrArg pI (show 3 = (spR n) by (unfold spR; rw [if_neg (by omega),if_neg (by omega),if_pos (by omega)]; done)))) (w_le (s := 3) (y := pI (spW n)) rfl (le_of_eq (congrArg pI (show (-1) = (spW n) by (unfold spW; rw [if_neg (by omega),if_neg (by omega),if_neg (by omega)]; done)))) (w_ret (q_block_ret (q_then_ret ?_))))
  exact fin_plain (ret_tmp rfl (ret_tmp rfl ret_nil)) rfl rfl ⟨rfl,rfl,rfl⟩
 try simp only [sB] at c3
 refine w_seq (w_R (qo hnt rfl (s_eql rfl rfl ?_)))
 refine qa hnt rfl rfl (r_end (q_then (w_if rfl (fun c4 => ?_) (fun c4 => ?_))))
 ·try simp only [sB] at c4
  refine w_seq (w_R (qa hnt rfl rfl (qa hnt rfl rfl (r_end (q_then ?_)))))
  refine w_le (s := 2) (y := pI (spR n)) rfl (le_of_eq (congrArg pI (show 2 = (spR n) by (unfold spR; rw [if_neg (by omega),if_neg (by omega),if_neg (by omega),if_pos (by omega)]; done)))) (w_le (s := 3) (y := pI (spW n)) rfl (le_of_eq (congrArg pI (show (-1) = (spW n) by (unfold spW; rw [if_neg (by omega),if_neg (by omega),if_neg (by omega)]; done)))) (w_ret (q_block_ret (q_then_ret ?_))))
  exact fin_plain (ret_tmp rfl (ret_tmp rfl ret_nil)) rfl rfl ⟨rfl,rfl,rfl⟩
 try simp only [sB] at c4
 refine join1 (fun (bb1 : Bool) => bb1 = ((decide (n = 5)) || (decide (n = 15)))) (fun (bb1 : Bool) => [(4,pI n),(13,pB bb1)]) 0 (fun (bb1 : Bool) => []) ?_ ?_
 ·refine w_seq (w_R (qo hnt rfl (s_eql rfl rfl ?_)))
  refine qa hnt rfl rfl (r_end (q_then (w_if rfl (fun c5 => ?_) (fun c5 => ?_))))
  ·have c5_ := c5
   try simp only [sB] at c5
   refine w_skip (q_then (⟨(decide (n = 5)), ?_,⟨[],rfl,⟨⟨_,rfl,rfl,rfl⟩,⟨_,rfl,rfl,rfl⟩,trivial⟩,trivial,by rw [hk]; decide⟩⟩))
   simp only [c5_,Bool.true_or,Bool.false_or]
  have c5_ := c5
  try simp only [sB] at c5
  refine w_R (qo hnt rfl (s_eql rfl rfl ?_))
  refine qa hnt rfl rfl (r_end (q_then (⟨(decide (n = 15)), ?_,⟨[],rfl,⟨⟨_,rfl,rfl,rfl⟩,⟨_,rfl,rfl,rfl⟩,trivial⟩,trivial,by rw [hk]; decide⟩⟩)))
  simp only [c5_,Bool.true_or,Bool.false_or]
 intro bb1 hbb1
 subst hbb1
 refine w_if rfl (fun c6 => ?_) (fun c6 => ?_)
 ·try simp only [sB,Bool.or_eq_true,Bool.or_eq_false_iff] at c6
  refine w_seq (w_R (qa hnt rfl rfl (qa hnt rfl rfl (r_end (q_then ?_)))))
  refine w_le (s := 2) (y := pI (spR n)) rfl (le_of_eq (congrArg pI (show (-1) = (spR n) by (unfold spR; rw [if_neg (by omega),if_neg (by omega),if_neg (by omega),if_neg (by omega),if_neg (by omega)]; done)))) (w_le (s := 3) (y := pI (spW n)) rfl (le_of_eq (congrArg pI (show 0 = (spW n) by (unfold spW; rw [if_pos (by omega)]; done)))) (w_ret (q_block_ret (q_then_ret ?_))))
  exact fin_plain (ret_tmp rfl (ret_tmp rfl ret_nil)) rfl rfl ⟨rfl,rfl,rfl⟩
 try simp only [sB,Bool.or_eq_true,Bool.or_eq_false_iff] at c6
 refine join1 (fun (bb2 : Bool) => bb2 = ((decide (n = 6)) || (decide (n = 16)))) (fun (bb2 : Bool) => [(4,pI n),(16,pB bb2)]) 0 (fun (bb2 : Bool) => []) ?_ ?_
 ·refine w_seq (w_R (qo hnt rfl (s_eql rfl rfl ?_)))
  refine qa hnt rfl rfl (r_end (q_then (w_if rfl (fun c7 => ?_) (fun c7 => ?_))))
  ·have c7_ := c7
   try simp only [sB] at c7
   refine w_skip (q_then (⟨(decide (n = 6)), ?_,⟨[],rfl,⟨⟨_,rfl,rfl,rfl⟩,⟨_,rfl,rfl,rfl⟩,trivial⟩,trivial,by rw [hk]; decide⟩⟩))
   simp only [c7_,Bool.true_or,Bool.false_or]
  have c7_ := c7
  try simp only [sB] at c7
  refine w_R (qo hnt rfl (s_eql rfl rfl ?_))
  refine qa hnt rfl rfl (r_end (q_then (⟨(decide (n = 16)), ?_,⟨[],rfl,⟨⟨_,rfl,rfl,rfl⟩,⟨_,rfl,rfl,rfl⟩,trivial⟩,trivial,by rw [hk]; decide⟩⟩)))
  simp only [c7_,Bool.true_or,Bool.false_or]
 intro bb2 hbb2
 subst hbb2
 refine w_if rfl (fun c8 => ?_) (fun c8 => ?_)
 ·try simp only [sB,Bool.or_eq_true,Bool.or_eq_false_iff] at c8
  refine w_seq (w_R (qa hnt rfl rfl (qa hnt rfl rfl (r_end (q_then ?_)))))
  refine w_le (s := 2) (y := pI (spR n)) rfl (le_of_eq (congrArg pI (show (-1) = (spR n) by (unfold spR; rw [if_neg (by omega),if_neg (by omega),if_neg (by omega),if_neg (by omega),if_neg (by omega)]; done)))) (w_le (s := 3) (y := pI (spW n)) rfl (le_of_eq (congrArg pI (show 3 = (spW n) by (unfold spW; rw [if_neg (by omega),if_pos (by omega)]; done)))) (w_ret (q_block_ret (q_then_ret ?_))))
  exact fin_plain (ret_tmp rfl (ret_tmp rfl ret_nil)) rfl rfl ⟨rfl,rfl,rfl⟩
 try simp only [sB,Bool.or_eq_true,Bool.or_eq_false_iff] at c8
 refine join1 (fun (bb3 : Bool) => bb3 = ((decide (n = 22)) || (decide (n = 23)))) (fun (bb3 : Bool) => [(19,pB bb3)]) 0 (fun (bb3 : Bool) => []) ?_ ?_
 ·refine w_seq (w_R (qo hnt rfl (s_eql rfl rfl ?_)))
  refine qa hnt rfl rfl (r_end (q_then (w_if rfl (fun c9 => ?_) (fun c9 => ?_))))
  ·have c9_ := c9
   try simp only [sB] at c9
   refine w_skip (q_then (⟨(decide (n = 22)), ?_,⟨[],rfl,⟨⟨_,rfl,rfl,rfl⟩,trivial⟩,trivial,by rw [hk]; decide⟩⟩))
   simp only [c9_,Bool.true_or,Bool.false_or]
  have c9_ := c9
  try simp only [sB] at c9
  refine w_R (qo hnt rfl (s_eql rfl rfl ?_))
  refine qa hnt rfl rfl (r_end (q_then (⟨(decide (n = 23)), ?_,⟨[],rfl,⟨⟨_,rfl,rfl,rfl⟩,trivial⟩,trivial,by rw [hk]; decide⟩⟩)))
  simp only [c9_,Bool.true_or,Bool.false_or]
 intro bb3 hbb3
 subst hbb3
 refine w_if rfl (fun c10 => ?_) (fun c10 => ?_)
 ·try simp only [sB,Bool.or_eq_true,Bool.or_eq_false_iff] at c10
  refine w_seq (w_R (qa hnt rfl rfl (qa hnt rfl rfl (r_end (q_then ?_)))))
  refine w_le (s := 2) (y := pI (spR n)) rfl (le_of_eq (congrArg pI (show 3 = (spR n) by (unfold spR; rw [if_neg (by omega),if_neg (by omega),if_neg (by omega),if_neg (by omega),if_pos (by omega)]; done)))) (w_le (s := 3) (y := pI (spW n)) rfl (le_of_eq (congrArg pI (show 3 = (spW n) by (unfold spW; rw [if_neg (by omega),if_neg (by omega),if_pos (by omega)]; done)))) (w_ret (q_block_ret (q_then_ret ?_))))
  exact fin_plain (ret_tmp rfl (ret_tmp rfl ret_nil)) rfl rfl ⟨rfl,rfl,rfl⟩
 try simp only [sB,Bool.or_eq_true,Bool.or_eq_false_iff] at c10
 refine w_skip (q_block (q_then (w_seq (w_R (qa hnt rfl rfl ?_)))))
 refine qa hnt rfl rfl (r_end (q_then (w_le (s := 2) (y := pI (spR n)) rfl (le_of_eq (congrArg pI (show (-1) = (spR n) by (unfold spR; rw [if_neg (by omega),if_neg (by omega),if_neg (by omega),if_neg (by omega),if_neg (by omega)]; done)))) (w_le (s := 3) (y := pI (spW n)) rfl (le_of_eq (congrArg pI (show (-1) = (spW n) by (unfold spW; rw [if_neg (by omega),if_neg (by omega),if_neg (by omega)]; done)))) (w_ret ?_)))))
 exact fin_plain (ret_tmp rfl (ret_tmp rfl ret_nil)) rfl rfl ⟨rfl,rfl,rfl⟩
theorem w_burgageref8_Asked (q : TRequest) (hv : q.vals.length ≤ 70368744175616) :
    T Try.prog 72 [PV.f (eRequest q)] 0 [] (Ret (PV.tup [pI (askA q),pI (askN q),pI (askW q),pI (askM q)]) 0 []) := by
 refine t_fun tabOk (n := 46) (rs := [.tmp 2,.tmp 3,.tmp 4,.tmp 5]) Try.func72 rfl rfl rfl rfl (Nat.le_of_ble_eq_true rfl) ?_
 intro c hnt hk
 refine w_seq (w_R (qo hnt rfl (s_box rfl rfl ?_)))
 refine qa hnt rfl rfl (qa hnt rfl rfl (qa hnt rfl rfl (qa hnt rfl rfl (r_set [(1,PV.ptr 0 0)] [(0,.obj (cRequest q))] 1 ⟨rfl,trivial⟩ rfl rfl (r_end ?_)))))
 refine q_then (w_seq (w_seq (w_R (qo hnt rfl (s_fa_ptr tab_37 rfl rfl tab_3 (by decide) rfl ?_)))))
 refine qo hnt rfl (s_load_ptr1 tab_3 rfl rfl rfl rfl rfl ?_)
 refine r_end (q_then (w_block (join1 (fun (bb1 : Bool) => bb1 = ((decide (q.fn = 1)) || ((decide (q.fn = 2)) || ((decide (q.fn = 3)) || (decide (q.fn = 4)))))) (fun (bb1 : Bool) => [(1,PV.ptr 0 0),(7,pI q.fn),(8,pB bb1)]) 1 (fun (bb1 : Bool) => [(0,.obj (cRequest q))]) ?_ ?_)))
 ·refine w_seq (w_R (qo hnt rfl (s_eql rfl rfl ?_)))
  refine qa hnt rfl rfl (r_end (q_then (w_if rfl (fun c1 => ?_) (fun c1 => ?_))))
  ·have c1_ := c1
   try simp only [sB] at c1
   refine w_skip (q_then (⟨(decide (q.fn = 1)), ?_,⟨[(0,0)],by rw [hk]; decide,⟨⟨_,rfl,rfl,rfl⟩,⟨_,rfl,rfl,rfl⟩,⟨_,rfl,rfl,rfl⟩,trivial⟩,⟨⟨_,_,rfl,rfl,rfl,rfl⟩,trivial⟩,by rw [hk]; decide⟩⟩))
   simp only [c1_,Bool.true_or,Bool.false_or]
  have c1_ := c1
  try simp only [sB] at c1
  refine w_seq (w_R (qo hnt rfl (s_eql rfl rfl ?_)))
  refine qa hnt rfl rfl (r_end (q_then (w_if rfl (fun c2 => ?_) (fun c2 => ?_))))
  ·have c2_ := c2
   try simp only [sB] at c2
   refine w_skip (q_then (⟨(decide (q.fn = 2)), ?_,⟨[(0,0)],by rw [hk]; decide,⟨⟨_,rfl,rfl,rfl⟩,⟨_,rfl,rfl,rfl⟩,⟨_,rfl,rfl,rfl⟩,trivial⟩,⟨⟨_,_,rfl,rfl,rfl,rfl⟩,trivial⟩,by rw [hk]; decide⟩⟩))
   simp only [c1_,c2_,Bool.true_or,Bool.false_or]
  have c2_ := c2
  try simp only [sB] at c2
  refine w_seq (w_R (qo hnt rfl (s_eql rfl rfl ?_)))
  refine qa hnt rfl rfl (r_end (q_then (w_if rfl (fun c3 => ?_) (fun c3 => ?_))))
  ·have c3_ := c3
   try simp only [sB] at c3
   refine w_skip (q_then (⟨(decide (q.fn = 3)), ?_,⟨[(0,0)],by rw [hk]; decide,⟨⟨_,rfl,rfl,rfl⟩,⟨_,rfl,rfl,rfl⟩,⟨_,rfl,rfl,rfl⟩,trivial⟩,⟨⟨_,_,rfl,rfl,rfl,rfl⟩,trivial⟩,by rw [hk]; decide⟩⟩))
   simp only [c1_,c2_,c3_,Bool.true_or,Bool.false_or]
  have c3_ := c3
  try simp only [sB] at c3
  refine w_R (qo hnt rfl (s_eql rfl rfl ?_))
  refine qa hnt rfl rfl (r_end (q_then (⟨(decide (q.fn = 4)), ?_,⟨[(0,0)],by rw [hk]; decide,⟨⟨_,rfl,rfl,rfl⟩,⟨_,rfl,rfl,rfl⟩,⟨_,rfl,rfl,rfl⟩,trivial⟩,⟨⟨_,_,rfl,rfl,rfl,rfl⟩,trivial⟩,by rw [hk]; decide⟩⟩)))
  simp only [c1_,c2_,c3_,Bool.true_or,Bool.false_or]
 intro bb1 hbb1
 subst hbb1
 refine w_if rfl (fun c4 => ?_) (fun c4 => ?_)
 ·try simp only [sB,Bool.or_eq_true,Bool.or_eq_false_iff] at c4
  refine w_seq (W_drawn tabOk mixed hnt [[],[0],[],[2],[0,1],[0,1,2,3,4],[0,1,2,3,4,5],[0,1,2,3,4,5,6]] (by kernel_rfl) (d_op (x_run0 [(1,PV.ptr 0 0)] [] rfl rfl rfl rfl (s_fa_ptr tab_37 rfl rfl tab_3 (by decide) rfl ⟨rfl,rfl,rfl⟩) (d_op (xL [(13,PV.ptr 0 1)] [0] [(0,.obj (cRequest q))] rfl rfl rfl rfl rfl (s_load_ptr1 tab_3 rfl rfl rfl rfl rfl ⟨rfl,rfl,rfl⟩) ⟨rfl,trivial⟩ rfl ?_)))))
  refine d_op (x_run0 [(1,PV.ptr 0 0)] [] rfl rfl rfl rfl (s_fa_ptr tab_37 rfl rfl tab_3 (by decide) rfl ⟨rfl,rfl,rfl⟩) (d_op (xL [(15,PV.ptr 0 2)] [2] [(0,.obj (cRequest q))] rfl rfl rfl rfl rfl (s_load_ptr1 tab_3 rfl rfl rfl rfl rfl ⟨rfl,rfl,rfl⟩) ⟨rfl,trivial⟩ rfl (d_op (x_run0 [(14,pI q.at_)] [0,1] rfl rfl rfl rfl (s_assign rfl ⟨rfl,rfl,rfl⟩) ?_)))))
  refine d_op (x_run0 [(16,pI q.count)] [0,1,2,3,4] rfl rfl rfl rfl (s_assign rfl ⟨rfl,rfl,rfl⟩) (d_op (x_run0 [] [0,1,2,3,4,5] rfl rfl rfl rfl (s_assign rfl ⟨rfl,rfl,rfl⟩) (d_op (x_run0 [] [0,1,2,3,4,5,6] rfl rfl rfl rfl (s_assign rfl ⟨rfl,rfl,rfl⟩) ?_)))))
  refine d_end ⟨by kernel_rfl, ?_⟩
  refine q_then (w_le (s := 2) (y := pI (askA q)) rfl (le_of_eq (congrArg pI (show q.at_ = (askA q) by (unfold askA; rw [if_pos (by omega)]; done)))) (w_le (s := 3) (y := pI (askN q)) rfl (le_of_eq (congrArg pI (show q.count = (askN q) by (unfold askN; rw [if_pos (by omega)]; done)))) (w_le (s := 4) (y := pI (askW q)) rfl (le_of_eq (congrArg pI (show 0 = (askW q) by (unfold askW; rw [if_neg (by omega),if_neg (by omega)]; done)))) (w_le (s := 5) (y := pI (askM q)) rfl (le_of_eq (congrArg pI (show 0 = (askM q) by (unfold askM; rw [if_neg (by omega),if_neg (by omega),if_neg (by omega)]; done)))) (w_ret ?_)))))
  refine q_block_ret (q_then_ret ?_)
  exact fin_plain (ret_tmp rfl (ret_tmp rfl (ret_tmp rfl (ret_tmp rfl ret_nil)))) rfl rfl ⟨rfl,rfl,rfl⟩
 try simp only [sB,Bool.or_eq_true,Bool.or_eq_false_iff] at c4
 refine join1 (fun (bb2 : Bool) => bb2 = ((decide (q.fn = 5)) || (decide (q.fn = 6)))) (fun (bb2 : Bool) => [(1,PV.ptr 0 0),(7,pI q.fn),(17,pB bb2)]) 1 (fun (bb2 : Bool) => [(0,.obj (cRequest q))]) ?_ ?_
 ·refine w_seq (w_R (qo hnt rfl (s_eql rfl rfl ?_)))
  refine qa hnt rfl rfl (r_end (q_then (w_if rfl (fun c5 => ?_) (fun c5 => ?_))))
  ·have c5_ := c5
   try simp only [sB] at c5
   refine w_skip (q_then (⟨(decide (q.fn = 5)), ?_,⟨[(0,0)],by rw [hk]; decide,⟨⟨_,rfl,rfl,rfl⟩,⟨_,rfl,rfl,rfl⟩,⟨_,rfl,rfl,rfl⟩,trivial⟩,⟨⟨_,_,rfl,rfl,rfl,rfl⟩,trivial⟩,by rw [hk]; decide⟩⟩))
   simp only [c5_,Bool.true_or,Bool.false_or]
  have c5_ := c5
  try simp only [sB] at c5
  refine w_R (qo hnt rfl (s_eql rfl rfl ?_))
  refine qa hnt rfl rfl (r_end (q_then (⟨(decide (q.fn = 6)), ?_,⟨[(0,0)],by rw [hk]; decide,⟨⟨_,rfl,rfl,rfl⟩,⟨_,rfl,rfl,rfl⟩,⟨_,rfl,rfl,rfl⟩,trivial⟩,⟨⟨_,_,rfl,rfl,rfl,rfl⟩,trivial⟩,by rw [hk]; decide⟩⟩)))
  simp only [c5_,Bool.true_or,Bool.false_or]
 intro bb2 hbb2
 subst hbb2
 refine w_if rfl (fun c6 => ?_) (fun c6 => ?_)
 ·try simp only [sB,Bool.or_eq_true,Bool.or_eq_false_iff] at c6
  refine w_seq (W_drawn tabOk mixed hnt [[],[0],[],[2],[0,1,2,3],[0,1,2,3,4]] (by kernel_rfl) (d_op (x_run0 [(1,PV.ptr 0 0)] [] rfl rfl rfl rfl (s_fa_ptr tab_37 rfl rfl tab_3 (by decide) rfl ⟨rfl,rfl,rfl⟩) (d_op (xL [(20,PV.ptr 0 1)] [0] [(0,.obj (cRequest q))] rfl rfl rfl rfl rfl (s_load_ptr1 tab_3 rfl rfl rfl rfl rfl ⟨rfl,rfl,rfl⟩) ⟨rfl,trivial⟩ rfl ?_)))))
  refine d_op (x_run0 [] [] rfl rfl rfl rfl (s_assign rfl ⟨rfl,rfl,rfl⟩) (d_op (x_run0 [] [2] rfl rfl rfl rfl (s_assign rfl ⟨rfl,rfl,rfl⟩) (d_op (x_run0 [(21,pI q.at_)] [0,1,2,3] rfl rfl rfl rfl (s_assign rfl ⟨rfl,rfl,rfl⟩) ?_)))))
  refine d_op (x_run0 [] [0,1,2,3,4] rfl rfl rfl rfl (s_assign rfl ⟨rfl,rfl,rfl⟩) (d_end ⟨by kernel_rfl, ?_⟩))
  refine q_then (w_le (s := 2) (y := pI (askA q)) rfl (le_of_eq (congrArg pI (show 0 = (askA q) by (unfold askA; rw [if_neg (by omega)]; done)))) (w_le (s := 3) (y := pI (askN q)) rfl (le_of_eq (congrArg pI (show 0 = (askN q) by (unfold askN; rw [if_neg (by omega),if_neg (by omega)]; done)))) (w_le (s := 4) (y := pI (askW q)) rfl (le_of_eq (congrArg pI (show q.at_ = (askW q) by (unfold askW; rw [if_pos (by omega)]; done)))) (w_le (s := 5) (y := pI (askM q)) rfl (le_of_eq (congrArg pI (show 1 = (askM q) by (unfold askM; rw [if_pos (by omega)]; done)))) (w_ret ?_)))))
  refine q_block_ret (q_then_ret ?_)
  exact fin_plain (ret_tmp rfl (ret_tmp rfl (ret_tmp rfl (ret_tmp rfl ret_nil)))) rfl rfl ⟨rfl,rfl,rfl⟩
 try simp only [sB,Bool.or_eq_true,Bool.or_eq_false_iff] at c6
 refine join1 (fun (bb3 : Bool) => bb3 = ((decide (q.fn = 15)) || (decide (q.fn = 16)))) (fun (bb3 : Bool) => [(1,PV.ptr 0 0),(7,pI q.fn),(22,pB bb3)]) 1 (fun (bb3 : Bool) => [(0,.obj (cRequest q))]) ?_ ?_
 ·refine w_seq (w_R (qo hnt rfl (s_eql rfl rfl ?_)))
  refine qa hnt rfl rfl (r_end (q_then (w_if rfl (fun c7 => ?_) (fun c7 => ?_))))
  ·have c7_ := c7
   try simp only [sB] at c7
   refine w_skip (q_then (⟨(decide (q.fn = 15)), ?_,⟨[(0,0)],by rw [hk]; decide,⟨⟨_,rfl,rfl,rfl⟩,⟨_,rfl,rfl,rfl⟩,⟨_,rfl,rfl,rfl⟩,trivial⟩,⟨⟨_,_,rfl,rfl,rfl,rfl⟩,trivial⟩,by rw [hk]; decide⟩⟩))
   simp only [c7_,Bool.true_or,Bool.false_or]
  have c7_ := c7
  try simp only [sB] at c7
  refine w_R (qo hnt rfl (s_eql rfl rfl ?_))
  refine qa hnt rfl rfl (r_end (q_then (⟨(decide (q.fn = 16)), ?_,⟨[(0,0)],by rw [hk]; decide,⟨⟨_,rfl,rfl,rfl⟩,⟨_,rfl,rfl,rfl⟩,⟨_,rfl,rfl,rfl⟩,trivial⟩,⟨⟨_,_,rfl,rfl,rfl,rfl⟩,trivial⟩,by rw [hk]; decide⟩⟩)))
  simp only [c7_,Bool.true_or,Bool.false_or]
 intro bb3 hbb3
 subst hbb3
 refine w_if rfl (fun c8 => ?_) (fun c8 => ?_)
 ·try simp only [sB,Bool.or_eq_true,Bool.or_eq_false_iff] at c8
  refine w_seq (W_drawn tabOk mixed hnt [[],[0],[],[2],[],[4],[0,1,4,5],[0,1,2,3,4,5,6]] (by kernel_rfl) (d_op (x_run0 [(1,PV.ptr 0 0)] [] rfl rfl rfl rfl (s_fa_ptr tab_37 rfl rfl tab_3 (by decide) rfl ⟨rfl,rfl,rfl⟩) (d_op (xL [(25,PV.ptr 0 1)] [0] [(0,.obj (cRequest q))] rfl rfl rfl rfl rfl (s_load_ptr1 tab_3 rfl rfl rfl rfl rfl ⟨rfl,rfl,rfl⟩) ⟨rfl,trivial⟩ rfl ?_)))))
  refine d_op (x_run0 [(1,PV.ptr 0 0)] [] rfl rfl rfl rfl (s_fa_ptr tab_37 rfl rfl tab_3 (by decide) rfl ⟨rfl,rfl,rfl⟩) (d_op (xL [(27,PV.ptr 0 2)] [2] [(0,.obj (cRequest q))] rfl rfl rfl rfl rfl (s_load_ptr1 tab_3 rfl rfl rfl rfl rfl ⟨rfl,rfl,rfl⟩) ⟨rfl,trivial⟩ rfl (d_op (x_run0 [] [] rfl rfl rfl rfl (s_assign rfl ⟨rfl,rfl,rfl⟩) ?_)))))
  refine d_op (x_run0 [] [4] rfl rfl rfl rfl (s_assign rfl ⟨rfl,rfl,rfl⟩) (d_op (x_run0 [(26,pI q.at_)] [0,1,4,5] rfl rfl rfl rfl (s_assign rfl ⟨rfl,rfl,rfl⟩) (d_op (x_run0 [(28,pI q.count)] [0,1,2,3,4,5,6] rfl rfl rfl rfl (s_assign rfl ⟨rfl,rfl,rfl⟩) ?_)))))
  refine d_end ⟨by kernel_rfl, ?_⟩
  refine q_then (w_le (s := 2) (y := pI (askA q)) rfl (le_of_eq (congrArg pI (show 0 = (askA q) by (unfold askA; rw [if_neg (by omega)]; done)))) (w_le (s := 3) (y := pI (askN q)) rfl (le_of_eq (congrArg pI (show 0 = (askN q) by (unfold askN; rw [if_neg (by omega),if_neg (by omega)]; done)))) (w_le (s := 4) (y := pI (askW q)) rfl (le_of_eq (congrArg pI (show q.at_ = (askW q) by (unfold askW; rw [if_pos (by omega)]; done)))) (w_le (s := 5) (y := pI (askM q)) rfl (le_of_eq (congrArg pI (show q.count = (askM q) by (unfold askM; rw [if_neg (by omega),if_pos (by omega)]; done)))) (w_ret ?_)))))
  refine q_block_ret (q_then_ret ?_)
  exact fin_plain (ret_tmp rfl (ret_tmp rfl (ret_tmp rfl (ret_tmp rfl ret_nil)))) rfl rfl ⟨rfl,rfl,rfl⟩
 try simp only [sB,Bool.or_eq_true,Bool.or_eq_false_iff] at c8
 refine w_seq (w_R (qo hnt rfl (s_eql rfl rfl ?_)))
 refine qa hnt rfl rfl (r_end (q_then (w_if rfl (fun c9 => ?_) (fun c9 => ?_))))
 ·try simp only [sB] at c9
  refine w_seq (W_drawn tabOk mixed hnt [[],[0],[],[2],[0,1],[0,1,4],[0,1,2,3,4,5],[0,1,2,3,4,5,6]] (by kernel_rfl) (d_op (x_run0 [(1,PV.ptr 0 0)] [] rfl rfl rfl rfl (s_fa_ptr tab_37 rfl rfl tab_3 (by decide) rfl ⟨rfl,rfl,rfl⟩) (d_op (xL [(31,PV.ptr 0 1)] [0] [(0,.obj (cRequest q))] rfl rfl rfl rfl rfl (s_load_ptr1 tab_3 rfl rfl rfl rfl rfl ⟨rfl,rfl,rfl⟩) ⟨rfl,trivial⟩ rfl ?_)))))
  refine d_op (x_run0 [(1,PV.ptr 0 0)] [] rfl rfl rfl rfl (s_fa_ptr tab_37 rfl rfl tab_3 (by decide) rfl ⟨rfl,rfl,rfl⟩) (d_op (xL [(33,PV.ptr 0 1)] [2] [(0,.obj (cRequest q))] rfl rfl rfl rfl rfl (s_load_ptr1 tab_3 rfl rfl rfl rfl rfl ⟨rfl,rfl,rfl⟩) ⟨rfl,trivial⟩ rfl (d_op (x_run0 [(32,pI q.at_)] [0,1] rfl rfl rfl rfl (s_assign rfl ⟨rfl,rfl,rfl⟩) ?_)))))
  refine d_op (x_run0 [] [0,1,4] rfl rfl rfl rfl (s_assign rfl ⟨rfl,rfl,rfl⟩) (d_op (x_run0 [(34,pI q.at_)] [0,1,2,3,4,5] rfl rfl rfl rfl (s_assign rfl ⟨rfl,rfl,rfl⟩) (d_op (x_run0 [] [0,1,2,3,4,5,6] rfl rfl rfl rfl (s_assign rfl ⟨rfl,rfl,rfl⟩) ?_)))))
  refine d_end ⟨by kernel_rfl, ?_⟩
  refine q_then (w_le (s := 2) (y := pI (askA q)) rfl (le_of_eq (congrArg pI (show q.at_ = (askA q) by (unfold askA; rw [if_pos (by omega)]; done)))) (w_le (s := 3) (y := pI (askN q)) rfl (le_of_eq (congrArg pI (show 1 = (askN q) by (unfold askN; rw [if_neg (by omega),if_pos (by omega)]; done)))) (w_le (s := 4) (y := pI (askW q)) rfl (le_of_eq (congrArg pI (show q.at_ = (askW q) by (unfold askW; rw [if_pos (by omega)]; done)))) (w_le (s := 5) (y := pI (askM q)) rfl (le_of_eq (congrArg pI (show 1 = (askM q) by (unfold askM; rw [if_pos (by omega)]; done)))) (w_ret ?_)))))
  refine q_block_ret (q_then_ret ?_)
  exact fin_plain (ret_tmp rfl (ret_tmp rfl (ret_tmp rfl (ret_tmp rfl ret_nil)))) rfl rfl ⟨rfl,rfl,rfl⟩
 try simp only [sB] at c9
 refine w_seq (w_R (qo hnt rfl (s_eql rfl rfl ?_)))
 refine qa hnt rfl rfl (r_end (q_then (w_if rfl (fun c10 => ?_) (fun c10 => ?_))))
 ·try simp only [sB] at c10
  refine w_seq (W_drawn tabOk mixed hnt [[],[0],[],[2],[],[4],[],[6],[6,7],[0,1],[0,1,2,3,9],[0,1,2,3,4,5,9,10],(.range 12)] (by kernel_rfl) (d_op (x_run0 [(1,PV.ptr 0 0)] [] rfl rfl rfl rfl (s_fa_ptr tab_37 rfl rfl tab_3 (by decide) rfl ⟨rfl,rfl,rfl⟩) (d_op (xL [(37,PV.ptr 0 1)] [0] [(0,.obj (cRequest q))] rfl rfl rfl rfl rfl (s_load_ptr1 tab_3 rfl rfl rfl rfl rfl ⟨rfl,rfl,rfl⟩) ⟨rfl,trivial⟩ rfl ?_)))))
  refine d_op (x_run0 [(1,PV.ptr 0 0)] [] rfl rfl rfl rfl (s_fa_ptr tab_37 rfl rfl tab_3 (by decide) rfl ⟨rfl,rfl,rfl⟩) (d_op (xL [(39,PV.ptr 0 2)] [2] [(0,.obj (cRequest q))] rfl rfl rfl rfl rfl (s_load_ptr1 tab_3 rfl rfl rfl rfl rfl ⟨rfl,rfl,rfl⟩) ⟨rfl,trivial⟩ rfl (d_op (x_run0 [(1,PV.ptr 0 0)] [] rfl rfl rfl rfl (s_fa_ptr tab_37 rfl rfl tab_3 (by decide) rfl ⟨rfl,rfl,rfl⟩) ?_)))))
  refine d_op (xL [(41,PV.ptr 0 3)] [4] [(0,.obj (cRequest q))] rfl rfl rfl rfl rfl (s_load_ptr1 tab_3 rfl rfl rfl rfl rfl ⟨rfl,rfl,rfl⟩) ⟨rfl,trivial⟩ rfl (d_op (x_run0 [(1,PV.ptr 0 0)] [] rfl rfl rfl rfl (s_fa_ptr tab_37 rfl rfl tab_34 (by decide) rfl ⟨rfl,rfl,rfl⟩) (d_op (xL [(43,PV.ptr 0 6)] [6] [(0,.obj (cRequest q))] rfl rfl rfl rfl rfl (s_load_ptr1 tab_34 rfl rfl rfl rfl rfl ⟨rfl,rfl,rfl⟩) ⟨rfl,trivial⟩ rfl ?_)))))
  refine d_op (x_run0 [(44,pS 1 false enc16 q.vals)] [6,7] rfl rfl rfl rfl (s_lenM (l := q.vals) tab_34 rfl (hM_sl (f := enc16) rfl) ⟨rfl,rfl,rfl⟩) (d_op (x_run0 [(38,pI q.at_)] [0,1] rfl rfl rfl rfl (s_assign rfl ⟨rfl,rfl,rfl⟩) (d_op (x_run0 [(40,pI q.count)] [0,1,2,3,9] rfl rfl rfl rfl (s_assign rfl ⟨rfl,rfl,rfl⟩) ?_)))))
  refine d_op (x_run0 [(42,pI q.wAt)] [0,1,2,3,4,5,9,10] rfl rfl rfl rfl (s_assign rfl ⟨rfl,rfl,rfl⟩) (d_op (x_run0 [(45,pN q.vals.length)] (.range 12) rfl rfl rfl rfl (s_assign rfl ⟨rfl,rfl,rfl⟩) (d_end ⟨by kernel_rfl, ?_⟩))))
  refine q_then (w_le (s := 2) (y := pI (askA q)) rfl (le_of_eq (congrArg pI (show q.at_ = (askA q) by (unfold askA; rw [if_pos (by omega)]; done)))) (w_le (s := 3) (y := pI (askN q)) rfl (le_of_eq (congrArg pI (show q.count = (askN q) by (unfold askN; rw [if_pos (by omega)]; done)))) (w_le (s := 4) (y := pI (askW q)) rfl (le_of_eq (congrArg pI (show q.wAt = (askW q) by (unfold askW; rw [if_neg (by omega),if_pos (by omega)]; done)))) (w_le (s := 5) (y := pI (askM q)) rfl (le_of_eq (congrArg pI (show ((q.vals.length : Nat) : Int) = (askM q) by (unfold askM; rw [if_neg (by omega),if_neg (by omega),if_pos (by omega)]; done)))) (w_ret ?_)))))
  refine q_block_ret (q_then_ret ?_)
  exact fin_plain (ret_tmp rfl (ret_tmp rfl (ret_tmp rfl (ret_tmp rfl ret_nil)))) rfl rfl ⟨rfl,rfl,rfl⟩
 try simp only [sB] at c10
 refine w_skip (q_block (q_then (w_seq (w_R (qa hnt rfl rfl ?_)))))
 refine qa hnt rfl rfl (qa hnt rfl rfl (qa hnt rfl rfl (r_end (q_then (w_le (s := 2) (y := pI (askA q)) rfl (le_of_eq (congrArg pI (show 0 = (askA q) by (unfold askA; rw [if_neg (by omega)]; done)))) ?_)))))
 refine w_le (s := 3) (y := pI (askN q)) rfl (le_of_eq (congrArg pI (show 0 = (askN q) by (unfold askN; rw [if_neg (by omega),if_neg (by omega)]; done)))) (w_le (s := 4) (y := pI (askW q)) rfl (le_of_eq (congrArg pI (show 0 = (askW q) by (unfold askW; rw [if_neg (by omega),if_neg (by omega)]; done)))) (w_le (s := 5) (y := pI (askM q)) rfl (le_of_eq (congrArg pI (show 0 = (askM q) by (unfold askM; rw [if_neg (by omega),if_neg (by omega),if_neg (by omega)]; done)))) (w_ret ?_)))
 exact fin_plain (ret_tmp rfl (ret_tmp rfl (ret_tmp rfl (ret_tmp rfl ret_nil)))) rfl rfl ⟨rfl,rfl,rfl⟩
theorem w_burgageref14_pieces (t : TTenant) (q : TRequest) (ht : t.windows.length ≤ 1000) (hb : q.bits.length ≤ 140737488351232) (hv : q.vals.length ≤ 70368744175616) (hc : hasF q.fn = true) :
    T Try.prog 56 [PV.f (eTenant t),PV.f (eRequest q)] 0 [] (Ret (PV.tup [pS 3 false ePiece (pR t.windows q),pS 3 false ePiece (pW t.windows q),pB (pOk t.windows q)]) 0 []) := by
 refine t_fun tabOk (n := 58) (rs := [.tmp 4,.tmp 5,.tmp 6]) Try.func56 rfl rfl rfl rfl (Nat.le_of_ble_eq_true rfl) ?_
 intro c hnt hk
 refine w_seq (w_R (qo hnt rfl (s_box rfl rfl ?_)))
 refine qo hnt rfl (s_box rfl rfl ?_)
 refine qa hnt rfl rfl (qa hnt rfl rfl (qa hnt rfl rfl (r_set [(2,PV.ptr 0 0),(3,PV.ptr 1 0)] [(1,.obj (cRequest q)),(0,.obj (cTenant t))] 2 ⟨rfl,rfl,trivial⟩ rfl rfl (r_end (q_then ?_)))))
 refine w_seq (w_R (qo hnt rfl (s_fa_ptr tab_37 rfl rfl tab_3 (by decide) rfl ?_)))
 refine qo hnt rfl (s_load_ptr1 tab_3 rfl rfl rfl rfl rfl ?_)
 refine qo hnt rfl (s_callF rfl rfl rfl (w_burgageref8_Spaces q.fn) rfl ?_)
 refine qm hnt rfl rfl (qo hnt rfl (s_extract rfl rfl ?_))
 refine qo hnt rfl (s_extract rfl rfl ?_)
 refine qa hnt rfl rfl (qa hnt rfl rfl (r_end (q_then (w_seq (w_R ?_)))))
 refine qo hnt rfl (s_load_ptr tab_37 rfl rfl rfl (Nat.le_of_ble_eq_true rfl) ?_)
 refine qo hnt rfl (s_callF rfl rfl rfl (w_burgageref8_Asked q (by omega)) rfl ?_)
 refine qm hnt rfl rfl (qo hnt rfl (s_extract rfl rfl ?_))
 refine qo hnt rfl (s_extract rfl rfl ?_)
 refine qo hnt rfl (s_extract rfl rfl ?_)
 refine qo hnt rfl (s_extract rfl rfl ?_)
 refine qa hnt rfl rfl (qa hnt rfl rfl (qa hnt rfl rfl (qa hnt rfl rfl (r_end (q_then ?_)))))
 refine w_seq (w_R (qa hnt rfl rfl (qa hnt rfl rfl (r_end (q_then ?_)))))
 refine w_seq (w_R (qa hnt rfl rfl (qa hnt rfl rfl (r_end (q_then ?_)))))
 refine w_seq (w_seq (w_R (qm hnt rfl rfl (qo hnt rfl (s_geq rfl rfl ?_)))))
 refine r_end (q_then (w_if rfl (fun c1 => ?_) (fun c1 => ?_)))
 ·try simp only [sB] at c1
  refine w_R (qo hnt rfl (s_fa_ptr tab_26 rfl rfl tab_23 (by decide) rfl ?_))
  refine qo hnt rfl (s_load_ptr1 tab_23 rfl rfl rfl rfl rfl ?_)
  refine qm hnt rfl rfl (qm hnt rfl rfl (qm hnt rfl rfl (qo hnt rfl (s_callF rfl rfl rfl (w_burgageref7_Map t.windows false (spR q.fn) (askA q) (askN q) (by omega)) rfl ?_))))
  refine qm hnt rfl rfl (qo hnt rfl (s_extract rfl rfl ?_))
  refine qo hnt rfl (s_extract rfl rfl ?_)
  refine qa hnt rfl rfl (qa hnt rfl rfl (r_set [(2,PV.ptr 0 0),(8,pI (spW q.fn)),(11,pI (askW q)),(12,pI (askM q)),(13,pS 3 false ePiece (mapL t.windows (spR q.fn) (askA q) (askN q))),(14,pNil),(15,pB (mapOk t.windows (spR q.fn) (askA q) (askN q))),(16,pB true)] [(1,.obj (cRequest q)),(0,.obj (cTenant t))] 2 ⟨rfl,rfl,rfl,rfl,rfl,rfl,rfl,rfl,trivial⟩ rfl rfl (r_end (q_then (w_seq ?_)))))
  refine w_seq (w_R (qm hnt rfl rfl (qo hnt rfl (s_geq rfl rfl ?_))))
  refine r_end (q_then (w_if rfl (fun c2 => ?_) (fun c2 => ?_)))
  ·try simp only [sB] at c2
   refine w_R (qo hnt rfl (s_fa_ptr tab_26 rfl rfl tab_23 (by decide) rfl ?_))
   refine qo hnt rfl (s_load_ptr1 tab_23 rfl rfl rfl rfl rfl ?_)
   refine qm hnt rfl rfl (qm hnt rfl rfl (qm hnt rfl rfl (qo hnt rfl (s_callF rfl rfl rfl (w_burgageref7_Map t.windows false (spW q.fn) (askW q) (askM q) (by omega)) rfl ?_))))
   refine qm hnt rfl rfl (qo hnt rfl (s_extract rfl rfl ?_))
   refine qo hnt rfl (s_extract rfl rfl ?_)
   refine qa hnt rfl rfl (qa hnt rfl rfl (r_end (q_then (w_seq (w_R ?_)))))
   refine qm hnt rfl rfl (qm hnt rfl rfl (qm hnt rfl rfl (qm hnt rfl rfl (r_cut0 2 [(52,pS 3 false ePiece (mapL t.windows (spR q.fn) (askA q) (askN q))),(53,pS 3 false ePiece (mapL t.windows (spW q.fn) (askW q) (askM q))),(57,pB ((mapOk t.windows (spR q.fn) (askA q) (askN q)) && (mapOk t.windows (spW q.fn) (askW q) (askM q))))] ?_ ?_))))
   ·refine r_if tabOk hnt rfl rfl rfl (fun g1 => ?_) (fun g1 => ?_)
    ·have g1' := g1
     try simp only [sB] at g1'
     refine qm hnt rfl rfl (qo hnt rfl (s_pick_t rfl g1 rfl ?_))
     refine r_eq (s := 57) (y := pB ((mapOk t.windows (spR q.fn) (askA q) (askN q)) && (mapOk t.windows (spW q.fn) (askW q) (askM q)))) rfl (mix_at g1) ?_
     exact r_mid ⟨⟨rfl,rfl,rfl,trivial⟩,rfl,rfl⟩
    ·have g1' := g1
     try simp only [sB] at g1'
     refine qo hnt rfl (s_pick_f rfl g1 rfl ?_)
     refine r_eq (s := 57) (y := pB ((mapOk t.windows (spR q.fn) (askA q) (askN q)) && (mapOk t.windows (spW q.fn) (askW q) (askM q)))) rfl (mix_af _ g1) ?_
     exact r_mid ⟨⟨rfl,rfl,rfl,trivial⟩,rfl,rfl⟩
   ·refine qa hnt rfl rfl (qa hnt rfl rfl (qa hnt rfl rfl (r_end (q_then (w_le (s := 4) (y := pS 3 false ePiece (pR t.windows q)) rfl (le_of_eq (congrArg (fun z => pS 3 false ePiece z) (show (mapL t.windows (spR q.fn) (askA q) (askN q)) = (pR t.windows q) by exact ref_A1 hc (by omega)))) ?_)))))
    refine w_le (s := 5) (y := pS 3 false ePiece (pW t.windows q)) rfl (le_of_eq (congrArg (fun z => pS 3 false ePiece z) (show (mapL t.windows (spW q.fn) (askW q) (askM q)) = (pW t.windows q) by exact ref_B1 hc (by omega)))) (w_le (s := 6) (y := pB (pOk t.windows q)) rfl (le_of_eq (congrArg pB (show ((mapOk t.windows (spR q.fn) (askA q) (askN q)) && (mapOk t.windows (spW q.fn) (askW q) (askM q))) = (pOk t.windows q) by exact ref_O11 hc (by omega) (by omega)))) (w_ret ?_))
    exact fin_plain (ret_tmp rfl (ret_tmp rfl (ret_tmp rfl ret_nil))) rfl rfl ⟨rfl,rfl,rfl⟩
  try simp only [sB] at c2
  refine w_skip (q_then (w_seq (w_R (qm hnt rfl rfl (qm hnt rfl rfl ?_)))))
  refine qm hnt rfl rfl (qm hnt rfl rfl (r_cut0 2 [(52,pS 3 false ePiece (mapL t.windows (spR q.fn) (askA q) (askN q))),(53,pNil),(57,pB ((mapOk t.windows (spR q.fn) (askA q) (askN q)) && true))] ?_ ?_))
  ·refine r_if tabOk hnt rfl rfl rfl (fun g2 => ?_) (fun g2 => ?_)
   ·have g2' := g2
    try simp only [sB] at g2'
    refine qm hnt rfl rfl (qo hnt rfl (s_pick_t rfl g2 rfl ?_))
    refine r_eq (s := 57) (y := pB ((mapOk t.windows (spR q.fn) (askA q) (askN q)) && true)) rfl (mix_at g2) ?_
    exact r_mid ⟨⟨rfl,rfl,rfl,trivial⟩,rfl,rfl⟩
   ·have g2' := g2
    try simp only [sB] at g2'
    refine qo hnt rfl (s_pick_f rfl g2 rfl ?_)
    refine r_eq (s := 57) (y := pB ((mapOk t.windows (spR q.fn) (askA q) (askN q)) && true)) rfl (mix_af _ g2) ?_
    exact r_mid ⟨⟨rfl,rfl,rfl,trivial⟩,rfl,rfl⟩
  ·refine qa hnt rfl rfl (qa hnt rfl rfl (qa hnt rfl rfl (r_end (q_then (w_le (s := 4) (y := pS 3 false ePiece (pR t.windows q)) rfl (le_of_eq (congrArg (fun z => pS 3 false ePiece z) (show (mapL t.windows (spR q.fn) (askA q) (askN q)) = (pR t.windows q) by exact ref_A1 hc (by omega)))) ?_)))))
   refine w_le (s := 5) (y := pS 3 false ePiece []) rfl (le_nilS 3 false) (w_le (s := 5) (y := pS 3 false ePiece (pW t.windows q)) rfl (le_of_eq (congrArg (fun z => pS 3 false ePiece z) (show ([] : List TPiece) = (pW t.windows q) by exact ref_B0 hc (by omega)))) (w_le (s := 6) (y := pB (pOk t.windows q)) rfl (le_of_eq (congrArg pB (show ((mapOk t.windows (spR q.fn) (askA q) (askN q)) && true) = (pOk t.windows q) by exact (Bool.and_true _).trans (ref_O10 hc (by omega) (by omega))))) (w_ret ?_)))
   exact fin_plain (ret_tmp rfl (ret_tmp rfl (ret_tmp rfl ret_nil))) rfl rfl ⟨rfl,rfl,rfl⟩
 try simp only [sB] at c1
 refine w_skip (q_then (w_seq (w_seq (w_R (qm hnt rfl rfl ?_)))))
 refine qo hnt rfl (s_geq rfl rfl ?_)
 refine r_end (q_then (w_if rfl (fun c3 => ?_) (fun c3 => ?_)))
 ·try simp only [sB] at c3
  refine w_R (qo hnt rfl (s_fa_ptr tab_26 rfl rfl tab_23 (by decide) rfl ?_))
  refine qo hnt rfl (s_load_ptr1 tab_23 rfl rfl rfl rfl rfl ?_)
  refine qm hnt rfl rfl (qm hnt rfl rfl (qm hnt rfl rfl (qo hnt rfl (s_callF rfl rfl rfl (w_burgageref7_Map t.windows false (spW q.fn) (askW q) (askM q) (by omega)) rfl ?_))))
  refine qm hnt rfl rfl (qo hnt rfl (s_extract rfl rfl ?_))
  refine qo hnt rfl (s_extract rfl rfl ?_)
  refine qa hnt rfl rfl (qa hnt rfl rfl (r_set [(13,pNil),(14,pS 3 false ePiece (mapL t.windows (spW q.fn) (askW q) (askM q))),(15,pB true),(16,pB (mapOk t.windows (spW q.fn) (askW q) (askM q)))] [(1,.obj (cRequest q)),(0,.obj (cTenant t))] 2 ⟨rfl,rfl,rfl,rfl,trivial⟩ rfl rfl (r_end (q_then (w_seq ?_)))))
  refine w_R (qm hnt rfl rfl (qm hnt rfl rfl (qm hnt rfl rfl (qm hnt rfl rfl (ry hnt rfl rfl rfl rfl ?_)))))
  refine qm hnt rfl rfl (qo hnt rfl (s_pick_t rfl rfl rfl ?_))
  refine qa hnt rfl rfl (qa hnt rfl rfl (qa hnt rfl rfl (r_end (q_then (w_le (s := 4) (y := pS 3 false ePiece []) rfl (le_nilS 3 false) ?_)))))
  refine w_le (s := 4) (y := pS 3 false ePiece (pR t.windows q)) rfl (le_of_eq (congrArg (fun z => pS 3 false ePiece z) (show ([] : List TPiece) = (pR t.windows q) by exact ref_A0 hc (by omega)))) (w_le (s := 5) (y := pS 3 false ePiece (pW t.windows q)) rfl (le_of_eq (congrArg (fun z => pS 3 false ePiece z) (show (mapL t.windows (spW q.fn) (askW q) (askM q)) = (pW t.windows q) by exact ref_B1 hc (by omega)))) (w_le (s := 6) (y := pB (pOk t.windows q)) rfl (le_of_eq (congrArg pB (show (mapOk t.windows (spW q.fn) (askW q) (askM q)) = (pOk t.windows q) by exact ref_O01 hc (by omega) (by omega)))) (w_ret ?_)))
  exact fin_plain (ret_tmp rfl (ret_tmp rfl (ret_tmp rfl ret_nil))) rfl rfl ⟨rfl,rfl,rfl⟩
 try simp only [sB] at c3
 refine w_skip (q_then (w_seq (w_R (qm hnt rfl rfl (qm hnt rfl rfl ?_)))))
 refine qm hnt rfl rfl (qm hnt rfl rfl (ry hnt rfl rfl rfl rfl (qm hnt rfl rfl (qo hnt rfl (s_pick_t rfl rfl rfl ?_)))))
 refine qa hnt rfl rfl (qa hnt rfl rfl (qa hnt rfl rfl (r_set [(4,pNil),(5,pNil),(6,pB true)] [(1,.obj (cRequest q)),(0,.obj (cTenant t))] 2 ⟨rfl,rfl,rfl,trivial⟩ rfl rfl (r_end (q_then ?_)))))
 refine w_le (s := 4) (y := pS 3 false ePiece []) rfl (le_nilS 3 false) (w_le (s := 4) (y := pS 3 false ePiece (pR t.windows q)) rfl (le_of_eq (congrArg (fun z => pS 3 false ePiece z) (show ([] : List TPiece) = (pR t.windows q) by exact ref_A0 hc (by omega)))) (w_le (s := 5) (y := pS 3 false ePiece []) rfl (le_nilS 3 false) (w_le (s := 5) (y := pS 3 false ePiece (pW t.windows q)) rfl (le_of_eq (congrArg (fun z => pS 3 false ePiece z) (show ([] : List TPiece) = (pW t.windows q) by exact ref_B0 hc (by omega)))) (w_le (s := 6) (y := pB (pOk t.windows q)) rfl (le_of_eq (congrArg pB (show true = (pOk t.windows q) by exact ref_O00 hc (by omega) (by omega)))) (w_ret ?_)))))
 exact fin_plain (ret_tmp rfl (ret_tmp rfl (ret_tmp rfl ret_nil))) rfl rfl ⟨rfl,rfl,rfl⟩
theorem w_burgageref14_Code (t : TTenant) (q : TRequest) (ht : t.windows.length ≤ 1000) (hb : q.bits.length ≤ 140737488351232) (hv : q.vals.length ≤ 70368744175616) :
    T Try.prog 33 [PV.f (eTenant t),PV.f (eRequest q)] 0 [] (Ret (pI (codeP t.functions t.windows q)) 0 []) := by
 refine t_fun tabOk (n := 47) (rs := [.tmp 4]) Try.func33 rfl rfl rfl rfl (Nat.le_of_ble_eq_true rfl) ?_
 intro c hnt hk
 refine w_seq (w_R (qo hnt rfl (s_box rfl rfl ?_)))
 refine qo hnt rfl (s_box rfl rfl ?_)
 refine qa hnt rfl rfl (r_set [(2,PV.ptr 0 0),(3,PV.ptr 1 0)] [(1,.obj (cRequest q)),(0,.obj (cTenant t))] 2 ⟨rfl,rfl,trivial⟩ rfl rfl (r_end (q_then (w_seq (w_seq ?_)))))
 refine w_R (qo hnt rfl (s_fa_ptr tab_37 rfl rfl tab_3 (by decide) rfl ?_))
 refine qo hnt rfl (s_load_ptr1 tab_3 rfl rfl rfl rfl rfl ?_)
 refine qo hnt rfl (s_callF rfl rfl rfl (w_burgageref3_Has q.fn) rfl ?_)
 refine qo hnt rfl (s_not rfl ?_)
 refine qm hnt rfl rfl (r_if tabOk hnt rfl rfl rfl (fun g1 => ?_) (fun g1 => ?_))
 ·have g1' := g1
  try simp only [sB] at g1'
  refine qo hnt rfl (s_fa_ptr tab_26 rfl rfl tab_22 (by decide) rfl ?_)
  refine ry hnt rfl rfl rfl g1 (qo hnt rfl (s_load_ptr1 tab_22 rfl rfl rfl rfl rfl ?_))
  refine ry hnt rfl rfl rfl g1 (qo hnt rfl (s_fa_ptr tab_37 rfl rfl tab_3 (by decide) rfl ?_))
  refine ry hnt rfl rfl rfl g1 (qo hnt rfl (s_load_ptr1 tab_3 rfl rfl rfl rfl rfl ?_))
  have hfo := hasF_of (by simpa using g1)
  obtain ⟨fnn,hfn⟩ : ∃ n : Nat,q.fn = (n : Int) := ⟨q.fn.toNat,by omega⟩
  have hfnl : fnn < 32 := by omega
  have hfb : fBit t.functions q.fn = decide (bitI .and .u32 (t.functions / 2 ^ fnn) 1 = 0) := by unfold fBit; rw [hfn,Int.toNat_natCast]
  refine r_eq (s := 16) (y := pN fnn) rfl (congrArg pI (show q.fn = ((fnn : Nat) : Int) by exact hfn)) (ry hnt rfl rfl rfl g1 (qo hnt rfl (s_cvK tab_3 tab_53 rfl rfl rfl rfl (by exact ⟨by omega,by show _ < (18446744073709551616 : Int); omega⟩) ?_)))
  refine ry hnt rfl rfl rfl g1 (qo hnt rfl (s_shrK fnn rfl rfl (by show _ < (32 : Nat); omega) ?_))
  refine ry hnt rfl rfl rfl g1 (qo hnt rfl (s_and rfl rfl ?_))
  refine ry hnt rfl rfl rfl g1 (qo hnt rfl (s_eql rfl rfl ?_))
  refine qo hnt rfl (s_pick_f rfl g1 rfl ?_)
  refine r_end (q_then (w_if rfl (fun c1 => ?_) (fun c1 => ?_)))
  ·have c1_ := c1
   try simp only [sB] at c1
   refine w_seq (w_R (qa hnt rfl rfl (r_end (q_then (w_le (s := 4) (y := pI (codeP t.functions t.windows q)) rfl (le_of_eq (congrArg pI (show 1 = (codeP t.functions t.windows q) by exact (codeP_1 (.inr (hfb.trans c1_))).symm))) ?_)))))
   refine w_ret (q_then_ret ?_)
   exact fin_plain (ret_tmp rfl ret_nil) rfl rfl ⟨rfl,rfl,rfl⟩
  have c1_ := c1
  try simp only [sB] at c1
  have hno : ¬ (rightR q = 15 ∨ fBit t.functions q.fn = true) := by rintro (h|h); exact absurd h (right_not15 (by simpa using g1)); rw [hfb,c1_] at h; cases h
  refine w_skip (q_then (w_seq (w_seq (w_R (qo hnt rfl (s_load_ptr tab_37 rfl rfl rfl (Nat.le_of_ble_eq_true rfl) ?_))))))
  refine qo hnt rfl (s_callF rfl rfl rfl (w_burgageref3_Counts q (by omega) (by omega)) rfl ?_)
  refine qo hnt rfl (s_not rfl ?_)
  refine r_end (q_then (w_if rfl (fun c2 => ?_) (fun c2 => ?_)))
  ·have c2_ := c2
   try simp only [sB] at c2
   refine w_seq (w_R (qa hnt rfl rfl (r_end (q_then (w_le (s := 4) (y := pI (codeP t.functions t.windows q)) rfl (le_of_eq (congrArg pI (show 3 = (codeP t.functions t.windows q) by exact (codeP_3 hno (by simpa using c2_)).symm))) ?_)))))
   refine w_ret (q_then_ret ?_)
   exact fin_plain (ret_tmp rfl ret_nil) rfl rfl ⟨rfl,rfl,rfl⟩
  have c2_ := c2
  try simp only [sB] at c2
  refine w_skip (q_then (w_seq ?_))
  have hcy : countsR q = true := by simpa using c2_
  have hpl := p_len t.windows q
  refine w_R (qo hnt rfl (s_load_ptr tab_26 rfl rfl rfl (Nat.le_of_ble_eq_true rfl) ?_))
  refine qo hnt rfl (s_load_ptr tab_37 rfl rfl rfl (Nat.le_of_ble_eq_true rfl) ?_)
  refine qo hnt rfl (s_callF rfl rfl rfl (w_burgageref14_pieces t q (by omega) (by omega) (by omega) (by exact counts_has hcy)) rfl ?_)
  refine qm hnt rfl rfl (qo hnt rfl (s_extract rfl rfl ?_))
  refine qo hnt rfl (s_extract rfl rfl ?_)
  refine qo hnt rfl (s_extract rfl rfl ?_)
  refine qa hnt rfl rfl (qa hnt rfl rfl (qa hnt rfl rfl (r_end (q_then (w_seq ?_)))))
  refine w_seq (w_R (qm hnt rfl rfl (qo hnt rfl (s_not rfl ?_))))
  refine r_set [(3,PV.ptr 1 0),(5,pS 3 false ePiece (pR t.windows q)),(6,pS 3 false ePiece (pW t.windows q)),(33,pB (!(pOk t.windows q)))] [(1,.obj (cRequest q)),(0,.obj (cTenant t))] 2 ⟨rfl,rfl,rfl,rfl,trivial⟩ rfl rfl (r_end (q_then (w_if rfl (fun c3 => ?_) (fun c3 => ?_))))
  ·have c3_ := c3
   try simp only [sB] at c3
   refine w_seq (w_R (qa hnt rfl rfl (r_end (q_then (w_le (s := 4) (y := pI (codeP t.functions t.windows q)) rfl (le_of_eq (congrArg pI (show 2 = (codeP t.functions t.windows q) by exact (codeP_2 hno hcy (by simpa using c3_)).symm))) ?_)))))
   refine w_ret (q_then_ret ?_)
   exact fin_plain (ret_tmp rfl ret_nil) rfl rfl ⟨rfl,rfl,rfl⟩
  have c3_ := c3
  try simp only [sB] at c3
  have hpy : pOk t.windows q = true := by simpa using c3_
  have hcs := cnt_same (counts_has hcy) hpy
  refine w_skip (q_then (w_seq (w_seq (w_R (qo hnt rfl (s_fa_ptr tab_37 rfl rfl tab_3 (by decide) rfl ?_))))))
  refine qo hnt rfl (s_load_ptr1 tab_3 rfl rfl rfl rfl rfl ?_)
  refine qo hnt rfl (s_callF rfl rfl rfl (w_burgageref14_local q.fn) rfl ?_)
  refine qo hnt rfl (s_not rfl ?_)
  refine qm hnt rfl rfl (r_if tabOk hnt rfl rfl rfl (fun g2 => ?_) (fun g2 => ?_))
  ·have g2' := g2
   try simp only [sB] at g2'
   refine qo hnt rfl (s_load_ptr tab_37 rfl rfl rfl (Nat.le_of_ble_eq_true rfl) ?_)
   refine ry hnt rfl rfl rfl g2 (qm hnt rfl rfl (ry hnt rfl rfl rfl g2 (qo hnt rfl (s_lenM (l := pR t.windows q) tab_100 rfl (hM_sl (f := ePiece) rfl) ?_))))
   refine ry hnt rfl rfl rfl g2 (qm hnt rfl rfl (ry hnt rfl rfl rfl g2 (qo hnt rfl (s_lenM (l := pW t.windows q) tab_100 rfl (hM_sl (f := ePiece) rfl) ?_))))
   refine ry hnt rfl rfl rfl g2 (qo hnt rfl (s_callF rfl rfl rfl (w_burgageref14_count q (((pR t.windows q).length : Nat) : Int) (((pW t.windows q).length : Nat) : Int) (by omega) (by omega)) rfl ?_))
   refine ry hnt rfl rfl rfl g2 (qo hnt rfl (s_gtr rfl rfl ?_))
   refine qo hnt rfl (s_pick_t rfl g2 rfl ?_)
   refine r_end (q_then (w_if rfl (fun c4 => ?_) (fun c4 => ?_)))
   ·have c4_ := c4
    try simp only [sB] at c4
    have h4y : decide (6 < (pW t.windows q).length + (pR t.windows q).length) = true := by rw [← hcs,g2,c4_]; rfl
    refine w_seq (w_R (qa hnt rfl rfl (r_end (q_then (w_le (s := 4) (y := pI (codeP t.functions t.windows q)) rfl (le_of_eq (congrArg pI (show 4 = (codeP t.functions t.windows q) by exact (codeP_4 hno hcy hpy (of_decide_eq_true h4y)).symm))) ?_)))))
    refine w_ret (q_then_ret ?_)
    exact fin_plain (ret_tmp rfl ret_nil) rfl rfl ⟨rfl,rfl,rfl⟩
   have c4_ := c4
   try simp only [sB] at c4
   have h4y : decide (6 < (pW t.windows q).length + (pR t.windows q).length) = false := by rw [← hcs,g2,c4_]; rfl
   refine w_skip (q_then (w_seq (w_R (qa hnt rfl rfl (r_end ?_)))))
   refine q_then (w_le (s := 4) (y := pI (codeP t.functions t.windows q)) rfl (le_of_eq (congrArg pI (show 0 = (codeP t.functions t.windows q) by exact (codeP_0 hno hcy hpy (of_decide_eq_false h4y)).symm))) (w_ret ?_))
   exact fin_plain (ret_tmp rfl ret_nil) rfl rfl ⟨rfl,rfl,rfl⟩
  have g2' := g2
  try simp only [sB] at g2'
  have h4y : decide (6 < (pW t.windows q).length + (pR t.windows q).length) = false := by rw [← hcs,g2]; rfl
  refine rn hnt rfl rfl rfl g2 (rn hnt rfl rfl rfl g2 (rn hnt rfl rfl rfl g2 (rn hnt rfl rfl rfl g2 (rn hnt rfl rfl rfl g2 (rn hnt rfl rfl rfl g2 ?_)))))
  refine qo hnt rfl (s_pick_f rfl g2 rfl ?_)
  refine r_end (q_then (w_if rfl (fun e => absurd e (by decide)) (fun _ => ?_)))
  refine w_skip (q_then (w_seq (w_R (qa hnt rfl rfl (r_end ?_)))))
  refine q_then (w_le (s := 4) (y := pI (codeP t.functions t.windows q)) rfl (le_of_eq (congrArg pI (show 0 = (codeP t.functions t.windows q) by exact (codeP_0 hno hcy hpy (of_decide_eq_false h4y)).symm))) (w_ret ?_))
  exact fin_plain (ret_tmp rfl ret_nil) rfl rfl ⟨rfl,rfl,rfl⟩
 have g1' := g1
 try simp only [sB] at g1'
 refine rn hnt rfl rfl rfl g1 (rn hnt rfl rfl rfl g1 (rn hnt rfl rfl rfl g1 (rn hnt rfl rfl rfl g1 (rn hnt rfl rfl rfl g1 (rn hnt rfl rfl rfl g1 ?_)))))
 refine rn hnt rfl rfl rfl g1 (qo hnt rfl (s_pick_t rfl g1 rfl ?_))
 refine r_end (q_then (w_if rfl (fun _ => ?_) (fun e => absurd e (by decide))))
 refine w_seq (w_R (qa hnt rfl rfl (r_end (q_then (w_le (s := 4) (y := pI (codeP t.functions t.windows q)) rfl (le_of_eq (congrArg pI (show 1 = (codeP t.functions t.windows q) by exact (codeP_1 (.inl (right_no (by simpa using g1)))).symm))) ?_)))))
 refine w_ret (q_then_ret ?_)
 exact fin_plain (ret_tmp rfl ret_nil) rfl rfl ⟨rfl,rfl,rfl⟩
theorem w_part_read (f : Int) (p : TPiece)  :
    T Try.prog 37 [pI f,PV.f (ePiece p)] 0 [] (Ret (PV.f (ePart (rPart f p))) 0 []) := by
 refine t_fun tabOk (n := 12) (rs := [.cell 4 50]) Try.func37 rfl rfl rfl rfl (Nat.le_of_ble_eq_true rfl) ?_
 intro c hnt hk
 refine w_seq (w_R (qo hnt rfl (s_box rfl rfl ?_)))
 refine qo hnt rfl (s_alloc tab_50 ?_)
 refine r_set [(0,pI f),(3,PV.ptr 0 0),(4,PV.ptr 1 0)] [(1,.obj [pI 0,pI 0,pI 0,pI 0,pI 0,pNil,pNil,p16 0,p16 0,pB false]),(0,.obj (cPiece p))] 2 ⟨rfl,rfl,rfl,trivial⟩ rfl rfl (r_end (q_then (w_seq (w_R (qm hnt rfl rfl ?_)))))
 refine qo hnt rfl (s_fa_ptr tab_83 rfl rfl tab_3 (by decide) rfl ?_)
 refine qo hnt rfl (s_load_ptr1 tab_3 rfl rfl rfl rfl rfl ?_)
 refine qo hnt rfl (s_fa_ptr tab_83 rfl rfl tab_3 (by decide) rfl ?_)
 refine qo hnt rfl (s_load_ptr1 tab_3 rfl rfl rfl rfl rfl ?_)
 refine qo hnt rfl (s_build tab_37 rfl rfl (b_cons rfl tab_3 rfl rfl rfl (Nat.le_of_ble_eq_true rfl) (b_cons rfl tab_3 rfl rfl rfl (Nat.le_of_ble_eq_true rfl) (b_cons rfl tab_3 rfl rfl rfl (Nat.le_of_ble_eq_true rfl) (b_nil ?_)))))
 refine qo hnt rfl (s_build tab_50 rfl rfl (b_cons rfl tab_37 rfl rfl rfl (Nat.le_of_ble_eq_true rfl) (b_nil ?_)))
 refine qo hnt rfl (s_store_ptr tab_50 rfl rfl rfl rfl rfl (Nat.le_of_ble_eq_true rfl) ?_)
 refine r_set [(4,PV.ptr 1 0)] [(1,.obj [pI f,pI p.physical,pI p.count,pI 0,pI 0,pNil,pNil,p16 0,p16 0,pB false]),(0,.obj (cPiece p))] 2 ⟨rfl,trivial⟩ rfl rfl (r_end (q_then (w_leO (n := 1) (ds := cPart (rPart f p)) rfl ⟨le_of_eq (congrArg pI (show f = ((rPart f p).request.fn) by rfl)),le_of_eq (congrArg pI (show p.physical = ((rPart f p).request.at_) by rfl)),le_of_eq (congrArg pI (show p.count = ((rPart f p).request.count) by rfl)),le_of_eq (congrArg pI (show 0 = ((rPart f p).request.wAt) by rfl)),le_of_eq (congrArg pI (show 0 = ((rPart f p).request.sub) by rfl)),le_tr (le_nilS 1 false) (le_of_eq (congrArg (fun z => pS 1 false encBo z) (show ([] : List Bool) = ((rPart f p).request.bits) by rfl))),le_tr (le_nilS 1 false) (le_of_eq (congrArg (fun z => pS 1 false enc16 z) (show ([] : List UInt16) = ((rPart f p).request.vals) by rfl))),le_of_eq (congrArg p16 (show 0 = ((rPart f p).request.and_) by rfl)),le_of_eq (congrArg p16 (show 0 = ((rPart f p).request.or_) by rfl)),le_of_eq (congrArg pB (show false = ((rPart f p).write) by rfl)),trivial⟩ (w_ret ?_))))
 exact fin_plain (ret_cell tab_50 (by decide) rfl rfl (Nat.le_of_ble_eq_true rfl) rfl ret_nil) rfl rfl ⟨rfl,rfl,rfl⟩
theorem w_part_Split (t : TTenant) (q : TRequest) (S : List TPart × Int) (hS : S = splitP t.functions t.windows q) (ht : t.windows.length ≤ 1000) (hb : q.bits.length ≤ 140737488351232) (hv : q.vals.length ≤ 70368744175616) :
    T Try.prog 17 [PV.f (eTenant t),PV.f (eRequest q)] 0 [] (Ret (PV.tup [pS 10 false ePart S.1,pI S.2]) 0 []) := by
 refine t_fun tabOk (n := 155) (rs := [.tmp 4,.tmp 5]) Try.func17 rfl rfl rfl rfl (Nat.le_of_ble_eq_true rfl) ?_
 intro c hnt hk
 refine w_seq (w_R (qo hnt rfl (s_box rfl rfl ?_)))
 refine qo hnt rfl (s_box rfl rfl ?_)
 refine qa hnt rfl rfl (qa hnt rfl rfl (r_set [(2,PV.ptr 0 0),(3,PV.ptr 1 0)] [(1,.obj (cRequest q)),(0,.obj (cTenant t))] 2 ⟨rfl,rfl,trivial⟩ rfl rfl (r_end (q_then (w_seq ?_)))))
 refine w_seq (w_R (qo hnt rfl (s_load_ptr tab_26 rfl rfl rfl (Nat.le_of_ble_eq_true rfl) ?_)))
 refine qo hnt rfl (s_load_ptr tab_37 rfl rfl rfl (Nat.le_of_ble_eq_true rfl) ?_)
 refine qo hnt rfl (s_callF rfl rfl rfl (w_part_Code t q (by omega) (by omega) (by omega)) rfl ?_)
 refine qa hnt rfl rfl (r_end (q_then (w_seq (w_R (qm hnt rfl rfl ?_)))))
 refine qo hnt rfl (s_neq rfl rfl ?_)
 refine r_end (q_then (w_if rfl (fun c1 => ?_) (fun c1 => ?_)))
 ·have c1_ := c1
  try simp only [sB] at c1
  have hcn : ¬ codeP t.functions t.windows q = 0 := by simpa using c1_
  rw [split_no hcn] at hS
  refine w_seq (w_R (qm hnt rfl rfl (qa hnt rfl rfl (qa hnt rfl rfl (r_end ?_)))))
  refine q_then (w_le (s := 4) (y := pS 10 false ePart []) rfl (le_nilS 10 false) (w_le (s := 4) (y := pS 10 false ePart S.1) rfl (le_of_eq (congrArg (fun z => pS 10 false ePart z) (show ([] : List TPart) = S.1 by (rw [hS]; done)))) (w_le (s := 5) (y := pI S.2) rfl (le_of_eq (congrArg pI (show (codeP t.functions t.windows q) = S.2 by (rw [hS]; done)))) (w_ret (q_then_ret ?_)))))
  exact fin_plain (ret_tmp rfl (ret_tmp rfl ret_nil)) rfl rfl ⟨rfl,rfl,rfl⟩
 have c1_ := c1
 try simp only [sB] at c1
 refine w_skip (q_then (w_seq ?_))
 have hc0 : codeP t.functions t.windows q = 0 := by simpa using c1_
 obtain ⟨hno,hcy,hpy,hle6⟩ := codeP_zero hc0
 rw [split_yes hc0] at hS
 have hpl := p_len t.windows q
 have hsm := shape_small (rightR_zero (counts_right hcy)).2
 refine w_R (qa hnt rfl rfl (r_end (q_then (w_seq (w_R ?_)))))
 refine qo hnt rfl (s_load_ptr tab_26 rfl rfl rfl (Nat.le_of_ble_eq_true rfl) ?_)
 refine qo hnt rfl (s_load_ptr tab_37 rfl rfl rfl (Nat.le_of_ble_eq_true rfl) ?_)
 refine qo hnt rfl (s_callF rfl rfl rfl (w_part_pieces t q (by omega) (by omega) (by omega) (by exact counts_has hcy)) rfl ?_)
 refine qm hnt rfl rfl (qo hnt rfl (s_extract rfl rfl ?_))
 refine qo hnt rfl (s_extract rfl rfl ?_)
 refine qo hnt rfl (s_extract rfl rfl ?_)
 refine qa hnt rfl rfl (qa hnt rfl rfl (qa hnt rfl rfl (r_end (q_then (w_seq ?_)))))
 refine w_seq (w_R (qo hnt rfl (s_fa_ptr tab_37 rfl rfl tab_3 (by decide) rfl ?_)))
 refine qo hnt rfl (s_load_ptr1 tab_3 rfl rfl rfl rfl rfl ?_)
 refine qo hnt rfl (s_eql rfl rfl ?_)
 refine r_end (q_then (w_if rfl (fun c2 => ?_) (fun c2 => ?_)))
 ·try simp only [sB] at c2
  refine w_seq ?_
  obtain ⟨h1l,h1c,hrw,_⟩ := p_one (l := t.windows) (q := q) (by omega) hpy
  have hrw2 := hrw (by omega)
  have hrl : (pR t.windows q).length = 1 := by rw [hrw2]; exact h1l
  have hrc : ∀ x,(pR t.windows q)[0]? = some x → x.count = 1 := by rw [hrw2]; exact h1c
  refine w_R (qm hnt rfl rfl ?_)
  obtain ⟨e1,he1⟩ := get_of_lt (pR t.windows q) (i := 0) (by omega)
  refine qo hnt rfl (s_iaM (q := 0) (b := e1) (f := ePiece) tab_79 rfl tab_83 rfl rfl (by omega) rfl he1 ?_)
  refine qo hnt rfl (s_fa_ro tab_83 rfl rfl tab_3 (by decide) rfl (Nat.le_of_ble_eq_true rfl) (by intro _; rfl) ?_)
  refine qo hnt rfl (s_load_ro1 tab_3 rfl rfl rfl rfl ?_)
  refine qa hnt rfl rfl (r_end (q_then (w_seq (w_R (qm hnt rfl rfl ?_)))))
  refine qo hnt rfl (s_iaM (q := 0) (b := e1) (f := ePiece) tab_79 rfl tab_83 rfl rfl (by omega) rfl he1 ?_)
  refine qo hnt rfl (s_load_ro tab_83 rfl rfl rfl ?_)
  refine qo hnt rfl (s_callF rfl rfl rfl (w_part_read 3 e1) rfl ?_)
  refine qm hnt rfl rfl (qo hnt rfl (s_mkM (f := enc16) ([0] : List UInt16) tab_34 rfl tab_35 ⟨rfl,by decide⟩ (by decide) rfl rfl rfl rfl ?_))
  refine qo hnt rfl (s_build tab_37 rfl rfl (b_cons rfl tab_3 rfl rfl rfl (Nat.le_of_ble_eq_true rfl) (b_cons rfl tab_3 rfl rfl rfl (Nat.le_of_ble_eq_true rfl) (b_cons rfl tab_34 rfl rfl rfl (Nat.le_of_ble_eq_true rfl) (b_nil ?_)))))
  refine qo hnt rfl (s_build tab_50 rfl rfl (b_cons rfl tab_37 rfl rfl rfl (Nat.le_of_ble_eq_true rfl) (b_cons rfl tab_4 rfl rfl rfl (Nat.le_of_ble_eq_true rfl) (b_nil ?_))))
  refine r_frz (s := 45) rfl rfl (r_le (s := 45) (y := PV.f (ePart (⟨(⟨6,e1.physical,0,0,0,[],([0] : List UInt16),0,0⟩ : TRequest),true⟩ : TPart))) rfl (le_F (FLe.agg ⟨FLe.refl _,FLe.refl _,FLe.refl _,FLe.refl _,FLe.refl _,FLe.nil 1 false,FLe.refl _,FLe.refl _,FLe.refl _,FLe.refl _,trivial⟩)) (qo hnt rfl (s_mkM (f := ePart) [rPart 3 e1,(⟨(⟨6,e1.physical,0,0,0,[],([0] : List UInt16),0,0⟩ : TRequest),true⟩ : TPart)] tab_45 rfl tab_50 ⟨rfl,by decide⟩ (by decide) rfl rfl rfl rfl ?_)))
  refine qa hnt rfl rfl (qa hnt rfl rfl (r_set [(4,PV.ref 3 0 none),(5,pI 0)] [(3,oB true 10 ePart ([rPart 3 e1,(⟨(⟨6,e1.physical,0,0,0,[],([0] : List UInt16),0,0⟩ : TRequest),true⟩ : TPart)])),(2,oB false 1 enc16 ([0] : List UInt16)),(1,.obj (cRequest q)),(0,.obj (cTenant t))] 4 ⟨rfl,rfl,trivial⟩ rfl rfl (r_end (q_then (w_frzM (s := 4) (f := ePart) rfl rfl view_0 ?_)))))
  refine w_le (s := 4) (y := pS 10 false ePart S.1) rfl (le_of_eq (congrArg (fun z => pS 10 false ePart z) (show ([rPart 3 e1,(⟨(⟨6,e1.physical,0,0,0,[],([0] : List UInt16),0,0⟩ : TRequest),true⟩ : TPart)] : List TPart) = S.1 by (rw [hS]; exact (parts_22 (by omega) he1 (hrc _ he1)).symm)))) (w_le (s := 5) (y := pI S.2) rfl (le_of_eq (congrArg pI (show 0 = S.2 by (rw [hS]; done)))) (w_ret (q_then_ret ?_)))
  exact fin_plain (ret_tmp rfl (ret_tmp rfl ret_nil)) rfl rfl ⟨rfl,rfl,rfl⟩
 try simp only [sB] at c2
 refine w_skip (q_then (w_seq (w_seq (w_R (qm hnt rfl rfl ?_)))))
 refine qo hnt rfl (s_lenM (l := pW t.windows q) tab_79 rfl (hM_sl (f := ePiece) rfl) ?_)
 refine qm hnt rfl rfl (r_end (q_then (w_block (w_adopt (s := 7) (sz := 10) rfl (loop2 (fun (os : List TPart) (i : Nat) => i ≤ (pW t.windows q).length ∧ os = ((pW t.windows q).take i).map (wPart q)) (fun (os : List TPart) (i : Nat) => [(3,PV.ptr 1 0),(7,PV.ref 0 0 none),(9,pS 3 false ePiece (pR t.windows q)),(47,pS 3 false ePiece (pW t.windows q)),(48,pN ((pW t.windows q).length)),(49,pN i)]) 2 (fun (os : List TPart) (i : Nat) => [(0,oB true 10 ePart os),(1,.obj (cRequest q))]) (fun (os : List TPart) (i : Nat) => (pW t.windows q).length - i) (([] : List TPart)) (0) ?_ ⟨[(0,2),(1,1)],by rw [hk]; decide,⟨⟨_,rfl,rfl,rfl⟩,⟨_,rfl,rfl,rfl⟩,⟨_,rfl,rfl,rfl⟩,⟨_,rfl,rfl,rfl⟩,⟨_,rfl,rfl,rfl⟩,⟨_,rfl,rfl,rfl⟩,trivial⟩,⟨⟨_,_,rfl,rfl,rfl,rfl⟩,⟨_,_,rfl,rfl,rfl,rfl⟩,trivial⟩,by rw [hk]; decide⟩ ?_)))))
 · exact ⟨by omega,rfl⟩
 ·intro os i hI
  obtain ⟨hi,hos⟩ := hI
  have hol : os.length ≤ 6 := by rw [hos]; simp; omega
  refine w_seq (w_R (qo hnt rfl (s_lss rfl rfl ?_)))
  refine r_end (q_then (w_seq (w_if rfl (fun c3 => ?_) (fun c3 => ?_))))
  ·try simp only [sB] at c3
   refine w_skip (q_then (w_seq (w_block (w_seq (w_R ?_)))))
   obtain ⟨e2,he2⟩ := get_of_lt (pW t.windows q) (i := i) (by omega)
   refine qo hnt rfl (s_iaM (q := i) (b := e2) (f := ePiece) tab_79 rfl tab_83 rfl rfl (by omega) rfl he2 ?_)
   refine qo hnt rfl (s_load_ro tab_83 rfl rfl rfl ?_)
   refine qo hnt rfl (s_alloc tab_83 ?_)
   refine qo hnt rfl (s_store_ptr tab_83 rfl rfl rfl rfl rfl (Nat.le_of_ble_eq_true rfl) ?_)
   refine r_set [(3,PV.ptr 1 0),(7,PV.ref 0 0 none),(9,pS 3 false ePiece (pR t.windows q)),(13,PV.ptr 2 0),(47,pS 3 false ePiece (pW t.windows q)),(48,pN ((pW t.windows q).length)),(49,pN i)] [(2,.obj (cPiece e2)),(0,oB true 10 ePart os),(1,.obj (cRequest q))] 3 ⟨rfl,rfl,rfl,rfl,rfl,rfl,rfl,trivial⟩ rfl rfl (r_end (q_then (w_seq ?_)))
   obtain ⟨wc1,wc2,wp0,wp1,wfn,w15,w16,w23⟩ := pW_get hcy he2
   obtain ⟨w1,hw1⟩ : ∃ z,z = wPart q e2 := ⟨_,rfl⟩
   refine w_R (qo hnt rfl (s_fa_ptr tab_37 rfl rfl tab_3 (by decide) rfl ?_))
   refine qo hnt rfl (s_load_ptr1 tab_3 rfl rfl rfl rfl rfl ?_)
   refine qo hnt rfl (s_fa_ptr tab_83 rfl rfl tab_3 (by decide) rfl ?_)
   refine qo hnt rfl (s_load_ptr1 tab_3 rfl rfl rfl rfl rfl ?_)
   refine qo hnt rfl (s_fa_ptr tab_83 rfl rfl tab_3 (by decide) rfl ?_)
   refine qo hnt rfl (s_load_ptr1 tab_3 rfl rfl rfl rfl rfl ?_)
   refine qo hnt rfl (s_build tab_37 rfl rfl (b_cons rfl tab_3 rfl rfl rfl (Nat.le_of_ble_eq_true rfl) (b_cons rfl tab_3 rfl rfl rfl (Nat.le_of_ble_eq_true rfl) (b_cons rfl tab_3 rfl rfl rfl (Nat.le_of_ble_eq_true rfl) (b_nil ?_)))))
   refine qo hnt rfl (s_alloc tab_37 ?_)
   refine qo hnt rfl (s_store_ptr tab_37 rfl rfl rfl rfl rfl (Nat.le_of_ble_eq_true rfl) ?_)
   refine r_set [(3,PV.ptr 1 0),(7,PV.ref 0 0 none),(9,pS 3 false ePiece (pR t.windows q)),(13,PV.ptr 2 0),(14,PV.ptr 3 0),(47,pS 3 false ePiece (pW t.windows q)),(48,pN ((pW t.windows q).length)),(49,pN i)] [(3,.obj [pI q.fn,pI e2.physical,pI e2.count,pI 0,pI 0,pNil,pNil,p16 0,p16 0]),(2,.obj (cPiece e2)),(0,oB true 10 ePart os),(1,.obj (cRequest q))] 4 ⟨rfl,rfl,rfl,rfl,rfl,rfl,rfl,rfl,trivial⟩ rfl rfl (r_end (q_then (join0 (True) ([(3,PV.ptr 1 0),(7,PV.ref 2 0 none),(9,pS 3 false ePiece (pR t.windows q)),(14,PV.ptr 0 0),(47,pS 3 false ePiece (pW t.windows q)),(48,pN ((pW t.windows q).length)),(49,pN i)]) 3 ([(0,.obj [pI w1.request.fn,pI w1.request.at_,pI w1.request.count,pI w1.request.wAt,pI w1.request.sub,pS 1 false encBo w1.request.bits,pS 1 false enc16 w1.request.vals,p16 w1.request.and_,p16 w1.request.or_]),(1,.obj (cRequest q)),(2,oB true 10 ePart os)]) ?_ ?_)))
   ·refine w_seq (w_R (qo hnt rfl (s_fa_ptr tab_37 rfl rfl tab_3 (by decide) rfl ?_)))
    refine qo hnt rfl (s_load_ptr1 tab_3 rfl rfl rfl rfl rfl ?_)
    refine r_end (q_then (w_block (w_seq (w_R (qo hnt rfl (s_eql rfl rfl ?_))))))
    refine qa hnt rfl rfl (r_end (q_then (w_if rfl (fun c4 => ?_) (fun c4 => ?_))))
    ·try simp only [sB] at c4
     refine w_R (qo hnt rfl (s_fa_ptr tab_37 rfl rfl tab_33 (by decide) rfl ?_))
     refine qo hnt rfl (s_load_ptr1 tab_33 rfl rfl rfl rfl rfl ?_)
     refine qo hnt rfl (s_callX (r2 := PV.ref 4 0 none) (nx1 := 5) (H2 := [(3,.obj [pI q.fn,pI e2.physical,pI e2.count,pI 0,pI 0,pNil,pNil,p16 0,p16 0]),(2,.obj (cPiece e2)),(0,oB true 10 ePart os),(1,.obj (cRequest q))]) (H3 := [(4,oB true 1 encBo q.bits),(3,.obj [pI q.fn,pI e2.physical,pI e2.count,pI 0,pI 0,pNil,pNil,p16 0,p16 0]),(2,.obj (cPiece e2)),(0,oB true 10 ePart os),(1,.obj (cRequest q))]) [] [] rfl rfl rfl (handed_of (by decide) trivial) rfl rfl rfl rfl rfl rfl (w_slices_Clone_bool_bool q.bits false (by omega)) rfl (dist_of rfl) rfl rfl rfl rfl ?_)
     refine qo hnt rfl (s_fa_ptr tab_37 rfl rfl tab_3 (by decide) rfl ?_)
     refine qo hnt rfl (s_store_ptr tab_3 rfl rfl rfl rfl rfl (Nat.le_of_ble_eq_true rfl) ?_)
     refine qo hnt rfl (s_fa_ptr tab_37 rfl rfl tab_33 (by decide) rfl ?_)
     refine qo hnt rfl (s_store_ptr tab_33 rfl rfl rfl rfl rfl (Nat.le_of_ble_eq_true rfl) ?_)
     refine r_frzC (n := 3) (j := 5) rfl rfl rfl rfl ?_
     have hz1 : q.bits = w1.request.bits := by ((rw [hw1,wPart_5 (by omega)] <;> (first|rfl|omega)))
     refine r_leO (n := 3) (ds := [pI q.fn,pI e2.physical,pI 0,pI 0,pI 0,pS 1 false encBo w1.request.bits,pNil,p16 0,p16 0]) rfl ⟨le_refl _,le_refl _,le_refl _,le_refl _,le_refl _,le_of_eq (congrArg (fun z => pS 1 false encBo z) hz1),le_refl _,le_refl _,le_refl _,trivial⟩ ?_
     have hz2 : q.fn = w1.request.fn ∧ e2.physical = w1.request.at_ ∧ 0 = w1.request.count ∧ 0 = w1.request.wAt ∧ 0 = w1.request.sub ∧ ([] : List UInt16) = w1.request.vals ∧ 0 = w1.request.and_ ∧ 0 = w1.request.or_ := by and_intros <;> ((rw [hw1,wPart_5 (by omega)] <;> (first|rfl|omega)))
     refine r_leO (n := 3) (ds := [pI w1.request.fn,pI w1.request.at_,pI w1.request.count,pI w1.request.wAt,pI w1.request.sub,pS 1 false encBo w1.request.bits,pS 1 false enc16 w1.request.vals,p16 w1.request.and_,p16 w1.request.or_]) rfl ⟨le_of_eq (congrArg pI hz2.1),le_of_eq (congrArg pI hz2.2.1),le_of_eq (congrArg pI hz2.2.2.1),le_of_eq (congrArg pI hz2.2.2.2.1),le_of_eq (congrArg pI hz2.2.2.2.2.1),le_refl _,le_tr (le_nilS 1 false) (le_of_eq (congrArg (fun z => pS 1 false enc16 z) hz2.2.2.2.2.2.1)),le_of_eq (congrArg p16 hz2.2.2.2.2.2.2.1),le_of_eq (congrArg p16 hz2.2.2.2.2.2.2.2),trivial⟩ (r_end (q_block (q_then (⟨?_,⟨[(0,3),(1,1),(2,0)],by rw [hk]; decide,⟨⟨_,rfl,rfl,rfl⟩,⟨_,rfl,rfl,rfl⟩,⟨_,rfl,rfl,rfl⟩,⟨_,rfl,rfl,rfl⟩,⟨_,rfl,rfl,rfl⟩,⟨_,rfl,rfl,rfl⟩,⟨_,rfl,rfl,rfl⟩,trivial⟩,⟨⟨_,_,rfl,rfl,rfl,rfl⟩,⟨_,_,rfl,rfl,rfl,rfl⟩,⟨_,_,rfl,rfl,rfl,rfl⟩,trivial⟩,by rw [hk]; decide⟩⟩))))
     trivial
    try simp only [sB] at c4
    refine w_seq (w_R (qo hnt rfl (s_eql rfl rfl ?_)))
    refine qa hnt rfl rfl (r_end (q_then (w_if rfl (fun c5 => ?_) (fun c5 => ?_))))
    ·try simp only [sB] at c5
     refine w_R (qo hnt rfl (s_fa_ptr tab_37 rfl rfl tab_34 (by decide) rfl ?_))
     refine qo hnt rfl (s_load_ptr1 tab_34 rfl rfl rfl rfl rfl ?_)
     refine qo hnt rfl (s_callX (r2 := PV.ref 4 0 none) (nx1 := 5) (H2 := [(3,.obj [pI q.fn,pI e2.physical,pI e2.count,pI 0,pI 0,pNil,pNil,p16 0,p16 0]),(2,.obj (cPiece e2)),(0,oB true 10 ePart os),(1,.obj (cRequest q))]) (H3 := [(4,oB true 1 enc16 q.vals),(3,.obj [pI q.fn,pI e2.physical,pI e2.count,pI 0,pI 0,pNil,pNil,p16 0,p16 0]),(2,.obj (cPiece e2)),(0,oB true 10 ePart os),(1,.obj (cRequest q))]) [] [] rfl rfl rfl (handed_of (by decide) trivial) rfl rfl rfl rfl rfl rfl (w_slices_Clone_uint16_uint16 q.vals false (by omega)) rfl (dist_of rfl) rfl rfl rfl rfl ?_)
     refine qo hnt rfl (s_fa_ptr tab_37 rfl rfl tab_3 (by decide) rfl ?_)
     refine qo hnt rfl (s_store_ptr tab_3 rfl rfl rfl rfl rfl (Nat.le_of_ble_eq_true rfl) ?_)
     refine qo hnt rfl (s_fa_ptr tab_37 rfl rfl tab_34 (by decide) rfl ?_)
     refine qo hnt rfl (s_store_ptr tab_34 rfl rfl rfl rfl rfl (Nat.le_of_ble_eq_true rfl) ?_)
     refine r_frzC (n := 3) (j := 6) rfl rfl rfl rfl ?_
     have hz3 : q.vals = w1.request.vals := by ((rw [hw1,wPart_6 (by omega)] <;> (first|rfl|omega)))
     refine r_leO (n := 3) (ds := [pI q.fn,pI e2.physical,pI 0,pI 0,pI 0,pNil,pS 1 false enc16 w1.request.vals,p16 0,p16 0]) rfl ⟨le_refl _,le_refl _,le_refl _,le_refl _,le_refl _,le_refl _,le_of_eq (congrArg (fun z => pS 1 false enc16 z) hz3),le_refl _,le_refl _,trivial⟩ ?_
     have hz4 : q.fn = w1.request.fn ∧ e2.physical = w1.request.at_ ∧ 0 = w1.request.count ∧ 0 = w1.request.wAt ∧ 0 = w1.request.sub ∧ ([] : List Bool) = w1.request.bits ∧ 0 = w1.request.and_ ∧ 0 = w1.request.or_ := by and_intros <;> ((rw [hw1,wPart_6 (by omega)] <;> (first|rfl|omega)))
     refine r_leO (n := 3) (ds := [pI w1.request.fn,pI w1.request.at_,pI w1.request.count,pI w1.request.wAt,pI w1.request.sub,pS 1 false encBo w1.request.bits,pS 1 false enc16 w1.request.vals,p16 w1.request.and_,p16 w1.request.or_]) rfl ⟨le_of_eq (congrArg pI hz4.1),le_of_eq (congrArg pI hz4.2.1),le_of_eq (congrArg pI hz4.2.2.1),le_of_eq (congrArg pI hz4.2.2.2.1),le_of_eq (congrArg pI hz4.2.2.2.2.1),le_tr (le_nilS 1 false) (le_of_eq (congrArg (fun z => pS 1 false encBo z) hz4.2.2.2.2.2.1)),le_refl _,le_of_eq (congrArg p16 hz4.2.2.2.2.2.2.1),le_of_eq (congrArg p16 hz4.2.2.2.2.2.2.2),trivial⟩ (r_end (q_block (q_then (⟨?_,⟨[(0,3),(1,1),(2,0)],by rw [hk]; decide,⟨⟨_,rfl,rfl,rfl⟩,⟨_,rfl,rfl,rfl⟩,⟨_,rfl,rfl,rfl⟩,⟨_,rfl,rfl,rfl⟩,⟨_,rfl,rfl,rfl⟩,⟨_,rfl,rfl,rfl⟩,⟨_,rfl,rfl,rfl⟩,trivial⟩,⟨⟨_,_,rfl,rfl,rfl,rfl⟩,⟨_,_,rfl,rfl,rfl,rfl⟩,⟨_,_,rfl,rfl,rfl,rfl⟩,trivial⟩,by rw [hk]; decide⟩⟩))))
     trivial
    try simp only [sB] at c5
    refine w_seq (w_R (qo hnt rfl (s_eql rfl rfl ?_)))
    refine qa hnt rfl rfl (r_end (q_then (w_if rfl (fun c6 => ?_) (fun c6 => ?_))))
    ·try simp only [sB] at c6
     refine W_drawnR tabOk mixed hnt [[],[0],[],[2],[],[4],[2,3,4,5],[0,1,2,3,4,5,6],[],[8],(.range 10),(.range 11),(.range 12),(.range 13)] (by kernel_rfl) (d_op (x_run0 [(3,PV.ptr 1 0)] [] rfl rfl rfl rfl (s_fa_ptr tab_37 rfl rfl tab_33 (by decide) rfl ⟨rfl,rfl,rfl⟩) (d_op (xL [(78,PV.ptr 1 5)] [0] [(1,.obj (cRequest q))] rfl rfl rfl rfl rfl (s_load_ptr1 tab_33 rfl rfl rfl rfl rfl ⟨rfl,rfl,rfl⟩) ⟨rfl,trivial⟩ rfl (d_op ?_)))))
     refine x_run0 [(13,PV.ptr 2 0)] [] rfl rfl rfl rfl (s_fa_ptr tab_83 rfl rfl tab_3 (by decide) rfl ⟨rfl,rfl,rfl⟩) (d_op (xL [(80,PV.ptr 2 0)] [2] [(2,.obj (cPiece e2))] rfl rfl rfl rfl rfl (s_load_ptr1 tab_3 rfl rfl rfl rfl rfl ⟨rfl,rfl,rfl⟩) ⟨rfl,trivial⟩ rfl (d_op (x_run0 [(3,PV.ptr 1 0)] [] rfl rfl rfl rfl (s_fa_ptr tab_37 rfl rfl tab_3 (by decide) rfl ⟨rfl,rfl,rfl⟩) (d_op ?_)))))
     refine xL [(82,PV.ptr 1 1)] [4] [(1,.obj (cRequest q))] rfl rfl rfl rfl rfl (s_load_ptr1 tab_3 rfl rfl rfl rfl rfl ⟨rfl,rfl,rfl⟩) ⟨rfl,trivial⟩ rfl (d_op (x_run0 [(81,pI e2.at_),(83,pI q.at_)] [2,3,4,5] rfl rfl rfl rfl (s_subi (r := e2.at_ - q.at_) rfl rfl rfl (by omega) ⟨rfl,rfl,rfl⟩) (d_op (x_run0 [(79,pS 1 false encBo q.bits),(84,pI (e2.at_ - q.at_))] [0,1,2,3,4,5,6] rfl rfl rfl rfl (s_cutM_lo (a := Int.toNat (e2.at_ - q.at_)) (f := encBo) (l := q.bits) tab_33 rfl tab_4 ⟨rfl,by decide⟩ rfl (bound_some rfl (by omega)) (by omega) ⟨rfl,rfl,rfl⟩) (d_op ?_)))))
     refine x_run0 [(13,PV.ptr 2 0)] [] rfl rfl rfl rfl (s_fa_ptr tab_83 rfl rfl tab_3 (by decide) rfl ⟨rfl,rfl,rfl⟩) (d_op (xL [(86,PV.ptr 2 2)] [8] [(2,.obj (cPiece e2))] rfl rfl rfl rfl rfl (s_load_ptr1 tab_3 rfl rfl rfl rfl rfl ⟨rfl,rfl,rfl⟩) ⟨rfl,trivial⟩ rfl (d_op (x_run0 [(85,pS 1 false encBo (q.bits.drop (Int.toNat (e2.at_ - q.at_)))),(87,pI e2.count)] (.range 10) rfl rfl rfl rfl (s_cutM_hi (b := Int.toNat e2.count) (f := encBo) (l := q.bits.drop (Int.toNat (e2.at_ - q.at_))) tab_33 rfl tab_4 ⟨rfl,by decide⟩ rfl (bound_some rfl (by omega)) (by rw [List.length_drop]; omega) ⟨rfl,rfl,rfl⟩) (d_op ?_)))))
     refine xT [(88,pS 1 false encBo ((q.bits.drop (Int.toNat (e2.at_ - q.at_))).take (Int.toNat e2.count)))] (.range 11) [] [(4,oB true 1 encBo ((q.bits.drop (Int.toNat (e2.at_ - q.at_))).take (Int.toNat e2.count)))] [(3,.obj [pI q.fn,pI e2.physical,pI e2.count,pI 0,pI 0,pNil,pNil,p16 0,p16 0]),(2,.obj (cPiece e2)),(0,oB true 10 ePart os),(1,.obj (cRequest q))] rfl rfl rfl rfl rfl (s_callX (r2 := PV.ref 4 0 none) (nx1 := 5) (H2 := []) (H3 := [(4,oB true 1 encBo ((q.bits.drop (Int.toNat (e2.at_ - q.at_))).take (Int.toNat e2.count)))]) [] [] rfl rfl rfl (handed_of (by decide) trivial) rfl rfl rfl rfl rfl rfl (w_slices_Clone_bool_bool ((q.bits.drop (Int.toNat (e2.at_ - q.at_))).take (Int.toNat e2.count)) false (by simp; omega)) rfl (dist_of rfl) rfl rfl rfl rfl ⟨rfl,rfl,rfl⟩) rfl rfl (d_op (x_run0 [(14,PV.ptr 3 0)] (.range 12) rfl rfl rfl rfl (s_fa_ptr tab_37 rfl rfl tab_33 (by decide) rfl ⟨rfl,rfl,rfl⟩) (d_op (xT [(90,PV.ptr 3 5),(89,PV.ref 4 0 none)] (.range 13) [(3,.obj [pI q.fn,pI e2.physical,pI e2.count,pI 0,pI 0,pNil,pNil,p16 0,p16 0])] [(3,.obj [pI q.fn,pI e2.physical,pI e2.count,pI 0,pI 0,PV.ref 4 0 none,pNil,p16 0,p16 0])] [(4,oB true 1 encBo ((q.bits.drop (Int.toNat (e2.at_ - q.at_))).take (Int.toNat e2.count))),(2,.obj (cPiece e2)),(0,oB true 10 ePart os),(1,.obj (cRequest q))] rfl rfl rfl rfl rfl (s_store_ptr tab_33 rfl rfl rfl rfl rfl (Nat.le_of_ble_eq_true rfl) ⟨rfl,rfl,rfl⟩) rfl rfl (d_end ⟨by kernel_rfl, ?_⟩)))))
     refine r_frzC (n := 3) (j := 5) rfl rfl rfl rfl ?_
     have hz5 : ((q.bits.drop (Int.toNat (e2.at_ - q.at_))).take (Int.toNat e2.count)) = w1.request.bits := by ((rw [hw1,wPart_15 (by omega)] <;> (first|rfl|omega)))
     refine r_leO (n := 3) (ds := [pI q.fn,pI e2.physical,pI e2.count,pI 0,pI 0,pS 1 false encBo w1.request.bits,pNil,p16 0,p16 0]) rfl ⟨le_refl _,le_refl _,le_refl _,le_refl _,le_refl _,le_of_eq (congrArg (fun z => pS 1 false encBo z) hz5),le_refl _,le_refl _,le_refl _,trivial⟩ ?_
     have hz6 : q.fn = w1.request.fn ∧ e2.physical = w1.request.at_ ∧ e2.count = w1.request.count ∧ 0 = w1.request.wAt ∧ 0 = w1.request.sub ∧ ([] : List UInt16) = w1.request.vals ∧ 0 = w1.request.and_ ∧ 0 = w1.request.or_ := by and_intros <;> ((rw [hw1,wPart_15 (by omega)] <;> (first|rfl|omega)))
     refine r_leO (n := 3) (ds := [pI w1.request.fn,pI w1.request.at_,pI w1.request.count,pI w1.request.wAt,pI w1.request.sub,pS 1 false encBo w1.request.bits,pS 1 false enc16 w1.request.vals,p16 w1.request.and_,p16 w1.request.or_]) rfl ⟨le_of_eq (congrArg pI hz6.1),le_of_eq (congrArg pI hz6.2.1),le_of_eq (congrArg pI hz6.2.2.1),le_of_eq (congrArg pI hz6.2.2.2.1),le_of_eq (congrArg pI hz6.2.2.2.2.1),le_refl _,le_tr (le_nilS 1 false) (le_of_eq (congrArg (fun z => pS 1 false enc16 z) hz6.2.2.2.2.2.1)),le_of_eq (congrArg p16 hz6.2.2.2.2.2.2.1),le_of_eq (congrArg p16 hz6.2.2.2.2.2.2.2),trivial⟩ (r_end (q_block (q_then (⟨?_,⟨[(0,3),(1,1),(2,0)],by rw [hk]; decide,⟨⟨_,rfl,rfl,rfl⟩,⟨_,rfl,rfl,rfl⟩,⟨_,rfl,rfl,rfl⟩,⟨_,rfl,rfl,rfl⟩,⟨_,rfl,rfl,rfl⟩,⟨_,rfl,rfl,rfl⟩,⟨_,rfl,rfl,rfl⟩,trivial⟩,⟨⟨_,_,rfl,rfl,rfl,rfl⟩,⟨_,_,rfl,rfl,rfl,rfl⟩,⟨_,_,rfl,rfl,rfl,rfl⟩,trivial⟩,by rw [hk]; decide⟩⟩))))
     trivial
    try simp only [sB] at c6
    refine w_seq (w_R (qo hnt rfl (s_eql rfl rfl ?_)))
    refine qa hnt rfl rfl (r_end (q_then (w_if rfl (fun c7 => ?_) (fun c7 => ?_))))
    ·try simp only [sB] at c7
     refine W_drawnR tabOk mixed hnt [[],[0],[],[2],[],[4],[2,3,4,5],[0,1,2,3,4,5,6],[],[8],(.range 10),(.range 11),(.range 12),(.range 13)] (by kernel_rfl) (d_op (x_run0 [(3,PV.ptr 1 0)] [] rfl rfl rfl rfl (s_fa_ptr tab_37 rfl rfl tab_34 (by decide) rfl ⟨rfl,rfl,rfl⟩) (d_op (xL [(93,PV.ptr 1 6)] [0] [(1,.obj (cRequest q))] rfl rfl rfl rfl rfl (s_load_ptr1 tab_34 rfl rfl rfl rfl rfl ⟨rfl,rfl,rfl⟩) ⟨rfl,trivial⟩ rfl (d_op ?_)))))
     refine x_run0 [(13,PV.ptr 2 0)] [] rfl rfl rfl rfl (s_fa_ptr tab_83 rfl rfl tab_3 (by decide) rfl ⟨rfl,rfl,rfl⟩) (d_op (xL [(95,PV.ptr 2 0)] [2] [(2,.obj (cPiece e2))] rfl rfl rfl rfl rfl (s_load_ptr1 tab_3 rfl rfl rfl rfl rfl ⟨rfl,rfl,rfl⟩) ⟨rfl,trivial⟩ rfl (d_op (x_run0 [(3,PV.ptr 1 0)] [] rfl rfl rfl rfl (s_fa_ptr tab_37 rfl rfl tab_3 (by decide) rfl ⟨rfl,rfl,rfl⟩) (d_op ?_)))))
     refine xL [(97,PV.ptr 1 1)] [4] [(1,.obj (cRequest q))] rfl rfl rfl rfl rfl (s_load_ptr1 tab_3 rfl rfl rfl rfl rfl ⟨rfl,rfl,rfl⟩) ⟨rfl,trivial⟩ rfl (d_op (x_run0 [(96,pI e2.at_),(98,pI q.at_)] [2,3,4,5] rfl rfl rfl rfl (s_subi (r := e2.at_ - q.at_) rfl rfl rfl (by omega) ⟨rfl,rfl,rfl⟩) (d_op (x_run0 [(94,pS 1 false enc16 q.vals),(99,pI (e2.at_ - q.at_))] [0,1,2,3,4,5,6] rfl rfl rfl rfl (s_cutM_lo (a := Int.toNat (e2.at_ - q.at_)) (f := enc16) (l := q.vals) tab_34 rfl tab_35 ⟨rfl,by decide⟩ rfl (bound_some rfl (by omega)) (by omega) ⟨rfl,rfl,rfl⟩) (d_op ?_)))))
     refine x_run0 [(13,PV.ptr 2 0)] [] rfl rfl rfl rfl (s_fa_ptr tab_83 rfl rfl tab_3 (by decide) rfl ⟨rfl,rfl,rfl⟩) (d_op (xL [(101,PV.ptr 2 2)] [8] [(2,.obj (cPiece e2))] rfl rfl rfl rfl rfl (s_load_ptr1 tab_3 rfl rfl rfl rfl rfl ⟨rfl,rfl,rfl⟩) ⟨rfl,trivial⟩ rfl (d_op (x_run0 [(100,pS 1 false enc16 (q.vals.drop (Int.toNat (e2.at_ - q.at_)))),(102,pI e2.count)] (.range 10) rfl rfl rfl rfl (s_cutM_hi (b := Int.toNat e2.count) (f := enc16) (l := q.vals.drop (Int.toNat (e2.at_ - q.at_))) tab_34 rfl tab_35 ⟨rfl,by decide⟩ rfl (bound_some rfl (by omega)) (by rw [List.length_drop]; omega) ⟨rfl,rfl,rfl⟩) (d_op ?_)))))
     refine xT [(103,pS 1 false enc16 ((q.vals.drop (Int.toNat (e2.at_ - q.at_))).take (Int.toNat e2.count)))] (.range 11) [] [(4,oB true 1 enc16 ((q.vals.drop (Int.toNat (e2.at_ - q.at_))).take (Int.toNat e2.count)))] [(3,.obj [pI q.fn,pI e2.physical,pI e2.count,pI 0,pI 0,pNil,pNil,p16 0,p16 0]),(2,.obj (cPiece e2)),(0,oB true 10 ePart os),(1,.obj (cRequest q))] rfl rfl rfl rfl rfl (s_callX (r2 := PV.ref 4 0 none) (nx1 := 5) (H2 := []) (H3 := [(4,oB true 1 enc16 ((q.vals.drop (Int.toNat (e2.at_ - q.at_))).take (Int.toNat e2.count)))]) [] [] rfl rfl rfl (handed_of (by decide) trivial) rfl rfl rfl rfl rfl rfl (w_slices_Clone_uint16_uint16 ((q.vals.drop (Int.toNat (e2.at_ - q.at_))).take (Int.toNat e2.count)) false (by simp; omega)) rfl (dist_of rfl) rfl rfl rfl rfl ⟨rfl,rfl,rfl⟩) rfl rfl (d_op (x_run0 [(14,PV.ptr 3 0)] (.range 12) rfl rfl rfl rfl (s_fa_ptr tab_37 rfl rfl tab_34 (by decide) rfl ⟨rfl,rfl,rfl⟩) (d_op (xT [(105,PV.ptr 3 6),(104,PV.ref 4 0 none)] (.range 13) [(3,.obj [pI q.fn,pI e2.physical,pI e2.count,pI 0,pI 0,pNil,pNil,p16 0,p16 0])] [(3,.obj [pI q.fn,pI e2.physical,pI e2.count,pI 0,pI 0,pNil,PV.ref 4 0 none,p16 0,p16 0])] [(4,oB true 1 enc16 ((q.vals.drop (Int.toNat (e2.at_ - q.at_))).take (Int.toNat e2.count))),(2,.obj (cPiece e2)),(0,oB true 10 ePart os),(1,.obj (cRequest q))] rfl rfl rfl rfl rfl (s_store_ptr tab_34 rfl rfl rfl rfl rfl (Nat.le_of_ble_eq_true rfl) ⟨rfl,rfl,rfl⟩) rfl rfl (d_end ⟨by kernel_rfl, ?_⟩)))))
     refine r_frzC (n := 3) (j := 6) rfl rfl rfl rfl ?_
     have hz7 : ((q.vals.drop (Int.toNat (e2.at_ - q.at_))).take (Int.toNat e2.count)) = w1.request.vals := by ((rw [hw1,wPart_16 (by omega)] <;> (first|rfl|omega)))
     refine r_leO (n := 3) (ds := [pI q.fn,pI e2.physical,pI e2.count,pI 0,pI 0,pNil,pS 1 false enc16 w1.request.vals,p16 0,p16 0]) rfl ⟨le_refl _,le_refl _,le_refl _,le_refl _,le_refl _,le_refl _,le_of_eq (congrArg (fun z => pS 1 false enc16 z) hz7),le_refl _,le_refl _,trivial⟩ ?_
     have hz8 : q.fn = w1.request.fn ∧ e2.physical = w1.request.at_ ∧ e2.count = w1.request.count ∧ 0 = w1.request.wAt ∧ 0 = w1.request.sub ∧ ([] : List Bool) = w1.request.bits ∧ 0 = w1.request.and_ ∧ 0 = w1.request.or_ := by and_intros <;> ((rw [hw1,wPart_16 (by omega)] <;> (first|rfl|omega)))
     refine r_leO (n := 3) (ds := [pI w1.request.fn,pI w1.request.at_,pI w1.request.count,pI w1.request.wAt,pI w1.request.sub,pS 1 false encBo w1.request.bits,pS 1 false enc16 w1.request.vals,p16 w1.request.and_,p16 w1.request.or_]) rfl ⟨le_of_eq (congrArg pI hz8.1),le_of_eq (congrArg pI hz8.2.1),le_of_eq (congrArg pI hz8.2.2.1),le_of_eq (congrArg pI hz8.2.2.2.1),le_of_eq (congrArg pI hz8.2.2.2.2.1),le_tr (le_nilS 1 false) (le_of_eq (congrArg (fun z => pS 1 false encBo z) hz8.2.2.2.2.2.1)),le_refl _,le_of_eq (congrArg p16 hz8.2.2.2.2.2.2.1),le_of_eq (congrArg p16 hz8.2.2.2.2.2.2.2),trivial⟩ (r_end (q_block (q_then (⟨?_,⟨[(0,3),(1,1),(2,0)],by rw [hk]; decide,⟨⟨_,rfl,rfl,rfl⟩,⟨_,rfl,rfl,rfl⟩,⟨_,rfl,rfl,rfl⟩,⟨_,rfl,rfl,rfl⟩,⟨_,rfl,rfl,rfl⟩,⟨_,rfl,rfl,rfl⟩,⟨_,rfl,rfl,rfl⟩,trivial⟩,⟨⟨_,_,rfl,rfl,rfl,rfl⟩,⟨_,_,rfl,rfl,rfl,rfl⟩,⟨_,_,rfl,rfl,rfl,rfl⟩,trivial⟩,by rw [hk]; decide⟩⟩))))
     trivial
    try simp only [sB] at c7
    refine w_seq (w_R (qo hnt rfl (s_eql rfl rfl ?_)))
    refine qa hnt rfl rfl (r_end (q_then (w_if rfl (fun c8 => ?_) (fun c8 => ?_))))
    ·try simp only [sB] at c8
     refine W_drawnR tabOk mixed hnt [[],[0],[],[2],[],[4],[2,3,4,5],[0,1,2,3,4,5,6],[],[8],(.range 10),(.range 11),[],(.range 13),(.range 14),(.range 15)] (by kernel_rfl) (d_op (x_run0 [(3,PV.ptr 1 0)] [] rfl rfl rfl rfl (s_fa_ptr tab_37 rfl rfl tab_34 (by decide) rfl ⟨rfl,rfl,rfl⟩) (d_op (xL [(108,PV.ptr 1 6)] [0] [(1,.obj (cRequest q))] rfl rfl rfl rfl rfl (s_load_ptr1 tab_34 rfl rfl rfl rfl rfl ⟨rfl,rfl,rfl⟩) ⟨rfl,trivial⟩ rfl (d_op ?_)))))
     refine x_run0 [(13,PV.ptr 2 0)] [] rfl rfl rfl rfl (s_fa_ptr tab_83 rfl rfl tab_3 (by decide) rfl ⟨rfl,rfl,rfl⟩) (d_op (xL [(110,PV.ptr 2 0)] [2] [(2,.obj (cPiece e2))] rfl rfl rfl rfl rfl (s_load_ptr1 tab_3 rfl rfl rfl rfl rfl ⟨rfl,rfl,rfl⟩) ⟨rfl,trivial⟩ rfl (d_op (x_run0 [(3,PV.ptr 1 0)] [] rfl rfl rfl rfl (s_fa_ptr tab_37 rfl rfl tab_3 (by decide) rfl ⟨rfl,rfl,rfl⟩) (d_op ?_)))))
     refine xL [(112,PV.ptr 1 3)] [4] [(1,.obj (cRequest q))] rfl rfl rfl rfl rfl (s_load_ptr1 tab_3 rfl rfl rfl rfl rfl ⟨rfl,rfl,rfl⟩) ⟨rfl,trivial⟩ rfl (d_op (x_run0 [(111,pI e2.at_),(113,pI q.wAt)] [2,3,4,5] rfl rfl rfl rfl (s_subi (r := e2.at_ - q.wAt) rfl rfl rfl (by omega) ⟨rfl,rfl,rfl⟩) (d_op (x_run0 [(109,pS 1 false enc16 q.vals),(114,pI (e2.at_ - q.wAt))] [0,1,2,3,4,5,6] rfl rfl rfl rfl (s_cutM_lo (a := Int.toNat (e2.at_ - q.wAt)) (f := enc16) (l := q.vals) tab_34 rfl tab_35 ⟨rfl,by decide⟩ rfl (bound_some rfl (by omega)) (by omega) ⟨rfl,rfl,rfl⟩) (d_op ?_)))))
     refine x_run0 [(13,PV.ptr 2 0)] [] rfl rfl rfl rfl (s_fa_ptr tab_83 rfl rfl tab_3 (by decide) rfl ⟨rfl,rfl,rfl⟩) (d_op (xL [(116,PV.ptr 2 2)] [8] [(2,.obj (cPiece e2))] rfl rfl rfl rfl rfl (s_load_ptr1 tab_3 rfl rfl rfl rfl rfl ⟨rfl,rfl,rfl⟩) ⟨rfl,trivial⟩ rfl (d_op (x_run0 [(115,pS 1 false enc16 (q.vals.drop (Int.toNat (e2.at_ - q.wAt)))),(117,pI e2.count)] (.range 10) rfl rfl rfl rfl (s_cutM_hi (b := Int.toNat e2.count) (f := enc16) (l := q.vals.drop (Int.toNat (e2.at_ - q.wAt))) tab_34 rfl tab_35 ⟨rfl,by decide⟩ rfl (bound_some rfl (by omega)) (by rw [List.length_drop]; omega) ⟨rfl,rfl,rfl⟩) (d_op ?_)))))
     refine xT [(118,pS 1 false enc16 ((q.vals.drop (Int.toNat (e2.at_ - q.wAt))).take (Int.toNat e2.count)))] (.range 11) [] [(4,oB true 1 enc16 ((q.vals.drop (Int.toNat (e2.at_ - q.wAt))).take (Int.toNat e2.count)))] [(3,.obj [pI q.fn,pI e2.physical,pI e2.count,pI 0,pI 0,pNil,pNil,p16 0,p16 0]),(2,.obj (cPiece e2)),(0,oB true 10 ePart os),(1,.obj (cRequest q))] rfl rfl rfl rfl rfl (s_callX (r2 := PV.ref 4 0 none) (nx1 := 5) (H2 := []) (H3 := [(4,oB true 1 enc16 ((q.vals.drop (Int.toNat (e2.at_ - q.wAt))).take (Int.toNat e2.count)))]) [] [] rfl rfl rfl (handed_of (by decide) trivial) rfl rfl rfl rfl rfl rfl (w_slices_Clone_uint16_uint16 ((q.vals.drop (Int.toNat (e2.at_ - q.wAt))).take (Int.toNat e2.count)) false (by simp; omega)) rfl (dist_of rfl) rfl rfl rfl rfl ⟨rfl,rfl,rfl⟩) rfl rfl (d_op (x_run0 [(14,PV.ptr 3 0)] [] rfl rfl rfl rfl (s_fa_ptr tab_37 rfl rfl tab_3 (by decide) rfl ⟨rfl,rfl,rfl⟩) (d_op (xT [(120,PV.ptr 3 0)] (.range 13) [(3,.obj [pI q.fn,pI e2.physical,pI e2.count,pI 0,pI 0,pNil,pNil,p16 0,p16 0])] [(3,.obj [pI 16,pI e2.physical,pI e2.count,pI 0,pI 0,pNil,pNil,p16 0,p16 0])] [(4,oB true 1 enc16 ((q.vals.drop (Int.toNat (e2.at_ - q.wAt))).take (Int.toNat e2.count))),(2,.obj (cPiece e2)),(0,oB true 10 ePart os),(1,.obj (cRequest q))] rfl rfl rfl rfl rfl (s_store_ptr tab_3 rfl rfl rfl rfl rfl (Nat.le_of_ble_eq_true rfl) ⟨rfl,rfl,rfl⟩) rfl rfl (d_op ?_)))))
     refine x_run0 [(14,PV.ptr 3 0)] (.range 14) rfl rfl rfl rfl (s_fa_ptr tab_37 rfl rfl tab_34 (by decide) rfl ⟨rfl,rfl,rfl⟩) (d_op (xT [(121,PV.ptr 3 6),(119,PV.ref 4 0 none)] (.range 15) [(3,.obj [pI 16,pI e2.physical,pI e2.count,pI 0,pI 0,pNil,pNil,p16 0,p16 0])] [(3,.obj [pI 16,pI e2.physical,pI e2.count,pI 0,pI 0,pNil,PV.ref 4 0 none,p16 0,p16 0])] [(4,oB true 1 enc16 ((q.vals.drop (Int.toNat (e2.at_ - q.wAt))).take (Int.toNat e2.count))),(2,.obj (cPiece e2)),(0,oB true 10 ePart os),(1,.obj (cRequest q))] rfl rfl rfl rfl rfl (s_store_ptr tab_34 rfl rfl rfl rfl rfl (Nat.le_of_ble_eq_true rfl) ⟨rfl,rfl,rfl⟩) rfl rfl (d_end ⟨by kernel_rfl, ?_⟩)))
     refine r_frzC (n := 3) (j := 6) rfl rfl rfl rfl ?_
     have hz9 : ((q.vals.drop (Int.toNat (e2.at_ - q.wAt))).take (Int.toNat e2.count)) = w1.request.vals := by ((rw [hw1,wPart_23 (by omega)] <;> (first|rfl|omega)))
     refine r_leO (n := 3) (ds := [pI 16,pI e2.physical,pI e2.count,pI 0,pI 0,pNil,pS 1 false enc16 w1.request.vals,p16 0,p16 0]) rfl ⟨le_refl _,le_refl _,le_refl _,le_refl _,le_refl _,le_refl _,le_of_eq (congrArg (fun z => pS 1 false enc16 z) hz9),le_refl _,le_refl _,trivial⟩ ?_
     have hz10 : 16 = w1.request.fn ∧ e2.physical = w1.request.at_ ∧ e2.count = w1.request.count ∧ 0 = w1.request.wAt ∧ 0 = w1.request.sub ∧ ([] : List Bool) = w1.request.bits ∧ 0 = w1.request.and_ ∧ 0 = w1.request.or_ := by and_intros <;> ((rw [hw1,wPart_23 (by omega)] <;> (first|rfl|omega)))
     refine r_leO (n := 3) (ds := [pI w1.request.fn,pI w1.request.at_,pI w1.request.count,pI w1.request.wAt,pI w1.request.sub,pS 1 false encBo w1.request.bits,pS 1 false enc16 w1.request.vals,p16 w1.request.and_,p16 w1.request.or_]) rfl ⟨le_of_eq (congrArg pI hz10.1),le_of_eq (congrArg pI hz10.2.1),le_of_eq (congrArg pI hz10.2.2.1),le_of_eq (congrArg pI hz10.2.2.2.1),le_of_eq (congrArg pI hz10.2.2.2.2.1),le_tr (le_nilS 1 false) (le_of_eq (congrArg (fun z => pS 1 false encBo z) hz10.2.2.2.2.2.1)),le_refl _,le_of_eq (congrArg p16 hz10.2.2.2.2.2.2.1),le_of_eq (congrArg p16 hz10.2.2.2.2.2.2.2),trivial⟩ (r_end (q_block (q_then (⟨?_,⟨[(0,3),(1,1),(2,0)],by rw [hk]; decide,⟨⟨_,rfl,rfl,rfl⟩,⟨_,rfl,rfl,rfl⟩,⟨_,rfl,rfl,rfl⟩,⟨_,rfl,rfl,rfl⟩,⟨_,rfl,rfl,rfl⟩,⟨_,rfl,rfl,rfl⟩,⟨_,rfl,rfl,rfl⟩,trivial⟩,⟨⟨_,_,rfl,rfl,rfl,rfl⟩,⟨_,_,rfl,rfl,rfl,rfl⟩,⟨_,_,rfl,rfl,rfl,rfl⟩,trivial⟩,by rw [hk]; decide⟩⟩))))
     trivial
    try simp only [sB] at c8
    have hz11 : q.fn = w1.request.fn ∧ e2.physical = w1.request.at_ ∧ e2.count = w1.request.count ∧ 0 = w1.request.wAt ∧ 0 = w1.request.sub ∧ ([] : List Bool) = w1.request.bits ∧ ([] : List UInt16) = w1.request.vals ∧ 0 = w1.request.and_ ∧ 0 = w1.request.or_ := by and_intros <;> ((exfalso; omega))
    refine w_leO (n := 3) (ds := [pI w1.request.fn,pI w1.request.at_,pI w1.request.count,pI w1.request.wAt,pI w1.request.sub,pS 1 false encBo w1.request.bits,pS 1 false enc16 w1.request.vals,p16 w1.request.and_,p16 w1.request.or_]) rfl ⟨le_of_eq (congrArg pI hz11.1),le_of_eq (congrArg pI hz11.2.1),le_of_eq (congrArg pI hz11.2.2.1),le_of_eq (congrArg pI hz11.2.2.2.1),le_of_eq (congrArg pI hz11.2.2.2.2.1),le_tr (le_nilS 1 false) (le_of_eq (congrArg (fun z => pS 1 false encBo z) hz11.2.2.2.2.2.1)),le_tr (le_nilS 1 false) (le_of_eq (congrArg (fun z => pS 1 false enc16 z) hz11.2.2.2.2.2.2.1)),le_of_eq (congrArg p16 hz11.2.2.2.2.2.2.2.1),le_of_eq (congrArg p16 hz11.2.2.2.2.2.2.2.2),trivial⟩ (w_skip (q_block (q_then (⟨?_,⟨[(0,3),(1,1),(2,0)],by rw [hk]; decide,⟨⟨_,rfl,rfl,rfl⟩,⟨_,rfl,rfl,rfl⟩,⟨_,rfl,rfl,rfl⟩,⟨_,rfl,rfl,rfl⟩,⟨_,rfl,rfl,rfl⟩,⟨_,rfl,rfl,rfl⟩,⟨_,rfl,rfl,rfl⟩,trivial⟩,⟨⟨_,_,rfl,rfl,rfl,rfl⟩,⟨_,_,rfl,rfl,rfl,rfl⟩,⟨_,_,rfl,rfl,rfl,rfl⟩,trivial⟩,by rw [hk]; decide⟩⟩))))
    trivial
   intro hJ
   refine w_seq (W_drawn tabOk mixed hnt [[],[0],[0,1],[],[3],[0,1,2,3,4],[0,1,2,3,4],[0,1,2,3,4,5,6],(.range 8),(.range 9)] (by kernel_rfl) (d_op (x_run0 [(14,PV.ptr 0 0)] [] rfl rfl rfl rfl (s_fa_ptr tab_37 rfl rfl tab_33 (by decide) rfl ⟨rfl,rfl,rfl⟩) (d_op (xL [(122,PV.ptr 0 5)] [0] [(0,.obj [pI w1.request.fn,pI w1.request.at_,pI w1.request.count,pI w1.request.wAt,pI w1.request.sub,pS 1 false encBo w1.request.bits,pS 1 false enc16 w1.request.vals,p16 w1.request.and_,p16 w1.request.or_])] rfl rfl rfl rfl rfl (s_load_ptr1 tab_33 rfl rfl rfl rfl rfl ⟨rfl,rfl,rfl⟩) ⟨rfl,trivial⟩ rfl ?_)))))
   refine d_op (x_run0 [(123,pS 1 false encBo w1.request.bits)] [0,1] rfl rfl rfl rfl (s_callF rfl rfl rfl (w_slices_Clip_bool_bool w1.request.bits false) rfl ⟨rfl,rfl,rfl⟩) (d_op (x_run0 [(14,PV.ptr 0 0)] [] rfl rfl rfl rfl (s_fa_ptr tab_37 rfl rfl tab_34 (by decide) rfl ⟨rfl,rfl,rfl⟩) (d_op (xL [(125,PV.ptr 0 6)] [3] [(0,.obj [pI w1.request.fn,pI w1.request.at_,pI w1.request.count,pI w1.request.wAt,pI w1.request.sub,pS 1 false encBo w1.request.bits,pS 1 false enc16 w1.request.vals,p16 w1.request.and_,p16 w1.request.or_])] rfl rfl rfl rfl rfl (s_load_ptr1 tab_34 rfl rfl rfl rfl rfl ⟨rfl,rfl,rfl⟩) ⟨rfl,trivial⟩ rfl ?_)))))
   refine d_op (x_run0 [(126,pS 1 false enc16 w1.request.vals)] [0,1,2,3,4] rfl rfl rfl rfl (s_callF rfl rfl rfl (w_slices_Clip_uint16_uint16 w1.request.vals false) rfl ⟨rfl,rfl,rfl⟩) (d_op (x_run0 [(14,PV.ptr 0 0)] [0,1,2,3,4] rfl rfl rfl rfl (s_fa_ptr tab_37 rfl rfl tab_33 (by decide) rfl ⟨rfl,rfl,rfl⟩) (d_op (xT [(128,PV.ptr 0 5),(124,pS 1 true encBo w1.request.bits)] [0,1,2,3,4,5,6] [(0,.obj [pI w1.request.fn,pI w1.request.at_,pI w1.request.count,pI w1.request.wAt,pI w1.request.sub,pS 1 false encBo w1.request.bits,pS 1 false enc16 w1.request.vals,p16 w1.request.and_,p16 w1.request.or_])] [(0,.obj [pI w1.request.fn,pI w1.request.at_,pI w1.request.count,pI w1.request.wAt,pI w1.request.sub,pS 1 true encBo w1.request.bits,pS 1 false enc16 w1.request.vals,p16 w1.request.and_,p16 w1.request.or_])] [(1,.obj (cRequest q)),(2,oB true 10 ePart os)] rfl rfl rfl rfl rfl (s_store_ptr tab_33 rfl rfl rfl rfl rfl (Nat.le_of_ble_eq_true rfl) ⟨rfl,rfl,rfl⟩) rfl rfl ?_)))))
   refine d_op (x_run0 [(14,PV.ptr 0 0)] (.range 8) rfl rfl rfl rfl (s_fa_ptr tab_37 rfl rfl tab_34 (by decide) rfl ⟨rfl,rfl,rfl⟩) (d_op (xT [(129,PV.ptr 0 6),(127,pS 1 true enc16 w1.request.vals)] (.range 9) [(0,.obj [pI w1.request.fn,pI w1.request.at_,pI w1.request.count,pI w1.request.wAt,pI w1.request.sub,pS 1 true encBo w1.request.bits,pS 1 false enc16 w1.request.vals,p16 w1.request.and_,p16 w1.request.or_])] [(0,.obj [pI w1.request.fn,pI w1.request.at_,pI w1.request.count,pI w1.request.wAt,pI w1.request.sub,pS 1 true encBo w1.request.bits,pS 1 true enc16 w1.request.vals,p16 w1.request.and_,p16 w1.request.or_])] [(1,.obj (cRequest q)),(2,oB true 10 ePart os)] rfl rfl rfl rfl rfl (s_store_ptr tab_34 rfl rfl rfl rfl rfl (Nat.le_of_ble_eq_true rfl) ⟨rfl,rfl,rfl⟩) rfl rfl (d_end ⟨by kernel_rfl, ?_⟩))))
   refine q_then (w_R (qm hnt rfl rfl (qo hnt rfl (s_load_ptr tab_37 rfl rfl rfl (Nat.le_of_ble_eq_true rfl) ?_))))
   refine qo hnt rfl (s_build tab_50 rfl rfl (b_cons rfl tab_37 rfl rfl rfl (Nat.le_of_ble_eq_true rfl) (b_cons rfl tab_4 rfl rfl rfl (Nat.le_of_ble_eq_true rfl) (b_nil ?_))))
   refine r_le (s := 132) (y := PV.f (ePart (⟨(⟨w1.request.fn,w1.request.at_,w1.request.count,w1.request.wAt,w1.request.sub,w1.request.bits,w1.request.vals,w1.request.and_,w1.request.or_⟩ : TRequest),true⟩ : TPart))) rfl (le_F (FLe.agg ⟨FLe.refl _,FLe.refl _,FLe.refl _,FLe.refl _,FLe.refl _,FLe.loose,FLe.loose,FLe.refl _,FLe.refl _,FLe.refl _,trivial⟩)) (qo hnt rfl (s_mkM (f := ePart) [(⟨(⟨w1.request.fn,w1.request.at_,w1.request.count,w1.request.wAt,w1.request.sub,w1.request.bits,w1.request.vals,w1.request.and_,w1.request.or_⟩ : TRequest),true⟩ : TPart)] tab_45 rfl tab_50 ⟨rfl,by decide⟩ (by decide) rfl rfl rfl rfl ?_))
   refine qo hnt rfl (s_appR0 (f := ePart) (l := os) (xs := [(⟨(⟨w1.request.fn,w1.request.at_,w1.request.count,w1.request.wAt,w1.request.sub,w1.request.bits,w1.request.vals,w1.request.and_,w1.request.or_⟩ : TRequest),true⟩ : TPart)]) tab_45 rfl tab_50 ⟨rfl,by decide,by decide⟩ (srcM tab_45 rfl (hM_ref0 (f := ePart) rfl rfl)) rfl rfl (by (simp; omega)) ?_)
   refine qa hnt rfl rfl (r_set [(3,PV.ptr 1 0),(7,PV.ref 4 0 none),(9,pS 3 false ePiece (pR t.windows q)),(47,pS 3 false ePiece (pW t.windows q)),(48,pN ((pW t.windows q).length)),(49,pN i)] [(4,oB true 10 ePart (os ++ [(⟨(⟨w1.request.fn,w1.request.at_,w1.request.count,w1.request.wAt,w1.request.sub,w1.request.bits,w1.request.vals,w1.request.and_,w1.request.or_⟩ : TRequest),true⟩ : TPart)])),(3,oB true 10 ePart [(⟨(⟨w1.request.fn,w1.request.at_,w1.request.count,w1.request.wAt,w1.request.sub,w1.request.bits,w1.request.vals,w1.request.and_,w1.request.or_⟩ : TRequest),true⟩ : TPart)]),(0,.obj [pI w1.request.fn,pI w1.request.at_,pI w1.request.count,pI w1.request.wAt,pI w1.request.sub,pS 1 true encBo w1.request.bits,pS 1 true enc16 w1.request.vals,p16 w1.request.and_,p16 w1.request.or_]),(1,.obj (cRequest q))] 5 ⟨rfl,rfl,rfl,rfl,rfl,rfl,trivial⟩ rfl rfl (r_end (q_block (q_then (w_R ?_)))))
   refine qo hnt rfl (s_addN (a := i) (b := 1) rfl rfl (by omega) (by omega) (by omega) ?_)
   refine qm hnt rfl rfl (r_end (q_then (⟨(os ++ [(⟨(⟨w1.request.fn,w1.request.at_,w1.request.count,w1.request.wAt,w1.request.sub,w1.request.bits,w1.request.vals,w1.request.and_,w1.request.or_⟩ : TRequest),true⟩ : TPart)]),(i + 1), ?_, ?_,⟨[(0,4),(1,1)],by rw [hk]; decide,⟨⟨_,rfl,rfl,rfl⟩,⟨_,rfl,rfl,rfl⟩,⟨_,rfl,rfl,rfl⟩,⟨_,rfl,rfl,rfl⟩,⟨_,rfl,rfl,rfl⟩,⟨_,rfl,rfl,rfl⟩,trivial⟩,⟨⟨_,_,rfl,rfl,rfl,rfl⟩,⟨_,_,rfl,rfl,rfl,rfl⟩,trivial⟩,by rw [hk]; decide⟩⟩)))
   ·refine ⟨by omega, ?_⟩
    rw [hos,List.take_add_one,he2,List.map_append]
    exact congrArg (fun z => ((pW t.windows q).take i).map (wPart q) ++ [z]) (by rw [hw1]; exact wPart_eta q e2)
   · omega
  try simp only [sB] at c3
  refine w_exit (q_then_exit (q_then_exit (q_block_exit (q_then (w_seq ?_)))))
  refine w_seq (w_R (qm hnt rfl rfl (qo hnt rfl (s_lenM (l := pR t.windows q) tab_79 rfl (hM_sl (f := ePiece) rfl) ?_))))
  refine qm hnt rfl rfl (r_end (q_then (w_block (loop2 (fun (os5 : List TPart) (j : Nat) => j ≤ (pR t.windows q).length ∧ os5 = (pW t.windows q).map (wPart q) ++ ((pR t.windows q).take j).map (rPart (if q.fn = 23 then 3 else q.fn))) (fun (os5 : List TPart) (j : Nat) => [(3,PV.ptr 1 0),(7,PV.ref 0 0 none),(136,pS 3 false ePiece (pR t.windows q)),(137,pN ((pR t.windows q).length)),(138,pN j)]) 2 (fun (os5 : List TPart) (j : Nat) => [(0,oB true 10 ePart os5),(1,.obj (cRequest q))]) (fun (os5 : List TPart) (j : Nat) => (pR t.windows q).length - j) (os) (0) ?_ ⟨[(0,0),(1,1)],by rw [hk]; decide,⟨⟨_,rfl,rfl,rfl⟩,⟨_,rfl,rfl,rfl⟩,⟨_,rfl,rfl,rfl⟩,⟨_,rfl,rfl,rfl⟩,⟨_,rfl,rfl,rfl⟩,trivial⟩,⟨⟨_,_,rfl,rfl,rfl,rfl⟩,⟨_,_,rfl,rfl,rfl,rfl⟩,trivial⟩,by rw [hk]; decide⟩ ?_))))
  · exact ⟨by omega,by rw [hos,show i = (pW t.windows q).length by omega,List.take_length]; simp⟩
  ·intro os5 j hJ
   obtain ⟨hj,ho5⟩ := hJ
   have hol5 : os5.length ≤ 6 := by rw [ho5]; simp; omega
   refine w_seq (w_R (qo hnt rfl (s_lss rfl rfl ?_)))
   refine r_end (q_then (w_seq (w_if rfl (fun c9 => ?_) (fun c9 => ?_))))
   ·try simp only [sB] at c9
    refine w_skip (q_then (w_seq (w_block (w_seq (w_R ?_)))))
    obtain ⟨e3,he3⟩ := get_of_lt (pR t.windows q) (i := j) (by omega)
    refine qo hnt rfl (s_iaM (q := j) (b := e3) (f := ePiece) tab_79 rfl tab_83 rfl rfl (by omega) rfl he3 ?_)
    refine qo hnt rfl (s_load_ro tab_83 rfl rfl rfl ?_)
    refine qo hnt rfl (s_alloc tab_83 ?_)
    refine qo hnt rfl (s_store_ptr tab_83 rfl rfl rfl rfl rfl (Nat.le_of_ble_eq_true rfl) ?_)
    refine r_set [(3,PV.ptr 1 0),(7,PV.ref 0 0 none),(16,PV.ptr 2 0),(136,pS 3 false ePiece (pR t.windows q)),(137,pN ((pR t.windows q).length)),(138,pN j)] [(2,.obj (cPiece e3)),(0,oB true 10 ePart os5),(1,.obj (cRequest q))] 3 ⟨rfl,rfl,rfl,rfl,rfl,rfl,trivial⟩ rfl rfl (r_end (q_then (w_seq (w_R (qo hnt rfl (s_fa_ptr tab_37 rfl rfl tab_3 (by decide) rfl ?_))))))
    refine qo hnt rfl (s_load_ptr1 tab_3 rfl rfl rfl rfl rfl ?_)
    refine qa hnt rfl rfl (r_end (q_then (w_seq (w_seq (w_R ?_)))))
    refine qm hnt rfl rfl (qo hnt rfl (s_eql rfl rfl ?_))
    refine r_end (q_then (w_if rfl (fun c10 => ?_) (fun c10 => ?_)))
    ·try simp only [sB] at c10
     refine w_R (qa hnt rfl rfl (r_end (q_then (w_R (qm hnt rfl rfl ?_)))))
     refine qm hnt rfl rfl (qo hnt rfl (s_load_ptr tab_83 rfl rfl rfl (Nat.le_of_ble_eq_true rfl) ?_))
     refine qo hnt rfl (s_callF rfl rfl rfl (w_part_read 3 e3) rfl ?_)
     refine qo hnt rfl (s_mkM (f := ePart) [rPart 3 e3] tab_45 rfl tab_50 ⟨rfl,by decide⟩ (by decide) rfl rfl rfl rfl ?_)
     refine qo hnt rfl (s_appR0 (f := ePart) (l := os5) (xs := [rPart 3 e3]) tab_45 rfl tab_50 ⟨rfl,by decide,by decide⟩ (srcM tab_45 rfl (hM_ref0 (f := ePart) rfl rfl)) rfl rfl (by (simp; omega)) ?_)
     refine qa hnt rfl rfl (r_set [(3,PV.ptr 1 0),(7,PV.ref 4 0 none),(136,pS 3 false ePiece (pR t.windows q)),(137,pN ((pR t.windows q).length)),(138,pN j)] [(4,oB true 10 ePart (os5 ++ [rPart 3 e3])),(3,oB true 10 ePart [rPart 3 e3]),(2,.obj (cPiece e3)),(1,.obj (cRequest q))] 5 ⟨rfl,rfl,rfl,rfl,rfl,trivial⟩ rfl rfl (r_end (q_block (q_then (w_R ?_)))))
     refine qo hnt rfl (s_addN (a := j) (b := 1) rfl rfl (by omega) (by omega) (by omega) ?_)
     refine qm hnt rfl rfl (r_end (q_then (⟨(os5 ++ [rPart 3 e3]),(j + 1), ?_, ?_,⟨[(0,4),(1,1)],by rw [hk]; decide,⟨⟨_,rfl,rfl,rfl⟩,⟨_,rfl,rfl,rfl⟩,⟨_,rfl,rfl,rfl⟩,⟨_,rfl,rfl,rfl⟩,⟨_,rfl,rfl,rfl⟩,trivial⟩,⟨⟨_,_,rfl,rfl,rfl,rfl⟩,⟨_,_,rfl,rfl,rfl,rfl⟩,trivial⟩,by rw [hk]; decide⟩⟩)))
     ·refine ⟨by omega, ?_⟩
      rw [ho5,List.take_add_one,he3,List.map_append,← List.append_assoc]
      (rw [if_pos (by omega)]; rfl)
     · omega
    try simp only [sB] at c10
    refine w_skip (q_then (w_R (qm hnt rfl rfl (qm hnt rfl rfl (qo hnt rfl (s_load_ptr tab_83 rfl rfl rfl (Nat.le_of_ble_eq_true rfl) ?_))))))
    refine qo hnt rfl (s_callF rfl rfl rfl (w_part_read q.fn e3) rfl ?_)
    refine qo hnt rfl (s_mkM (f := ePart) [rPart q.fn e3] tab_45 rfl tab_50 ⟨rfl,by decide⟩ (by decide) rfl rfl rfl rfl ?_)
    refine qo hnt rfl (s_appR0 (f := ePart) (l := os5) (xs := [rPart q.fn e3]) tab_45 rfl tab_50 ⟨rfl,by decide,by decide⟩ (srcM tab_45 rfl (hM_ref0 (f := ePart) rfl rfl)) rfl rfl (by (simp; omega)) ?_)
    refine qa hnt rfl rfl (r_set [(3,PV.ptr 1 0),(7,PV.ref 4 0 none),(136,pS 3 false ePiece (pR t.windows q)),(137,pN ((pR t.windows q).length)),(138,pN j)] [(4,oB true 10 ePart (os5 ++ [rPart q.fn e3])),(3,oB true 10 ePart [rPart q.fn e3]),(2,.obj (cPiece e3)),(1,.obj (cRequest q))] 5 ⟨rfl,rfl,rfl,rfl,rfl,trivial⟩ rfl rfl (r_end (q_block (q_then (w_R ?_)))))
    refine qo hnt rfl (s_addN (a := j) (b := 1) rfl rfl (by omega) (by omega) (by omega) ?_)
    refine qm hnt rfl rfl (r_end (q_then (⟨(os5 ++ [rPart q.fn e3]),(j + 1), ?_, ?_,⟨[(0,4),(1,1)],by rw [hk]; decide,⟨⟨_,rfl,rfl,rfl⟩,⟨_,rfl,rfl,rfl⟩,⟨_,rfl,rfl,rfl⟩,⟨_,rfl,rfl,rfl⟩,⟨_,rfl,rfl,rfl⟩,trivial⟩,⟨⟨_,_,rfl,rfl,rfl,rfl⟩,⟨_,_,rfl,rfl,rfl,rfl⟩,trivial⟩,by rw [hk]; decide⟩⟩)))
    ·refine ⟨by omega, ?_⟩
     rw [ho5,List.take_add_one,he3,List.map_append,← List.append_assoc]
     (rw [if_neg (by omega)]; rfl)
    · omega
   try simp only [sB] at c9
   refine w_exit (q_then_exit (q_then_exit (q_block_exit (q_then (w_seq ?_)))))
   have hpe : os5 = partsP t.windows q := by rw [ho5,show j = (pR t.windows q).length by omega,List.take_length,parts_no (by omega)]
   refine w_R (qm hnt rfl rfl (qo hnt rfl (s_callX (r2 := pS 10 true ePart os5) (nx1 := 2) (H2 := [(0,oB false 10 ePart os5),(1,.obj (cRequest q))]) (H3 := [(0,oB false 10 ePart os5),(1,.obj (cRequest q))]) [] [] rfl rfl rfl (handed_of (by decide) trivial) rfl rfl rfl rfl rfl rfl (w_slices_Clip_part_Part_part_Part os5 false) rfl (dist_of rfl) rfl rfl rfl rfl ?_)))
   refine qa hnt rfl rfl (qa hnt rfl rfl (r_set [(4,pS 10 true ePart os5),(5,pI 0)] [(0,oB false 10 ePart os5),(1,.obj (cRequest q))] 2 ⟨rfl,rfl,trivial⟩ rfl rfl (r_end (q_then (w_le (s := 4) (y := pS 10 false ePart os5) rfl (le_loose) ?_)))))
   refine w_le (s := 4) (y := pS 10 false ePart S.1) rfl (le_of_eq (congrArg (fun z => pS 10 false ePart z) (show os5 = S.1 by (rw [hS]; exact hpe)))) (w_le (s := 5) (y := pI S.2) rfl (le_of_eq (congrArg pI (show 0 = S.2 by (rw [hS]; done)))) (w_ret ?_))
   exact fin_plain (ret_tmp rfl (ret_tmp rfl ret_nil)) rfl rfl ⟨rfl,rfl,rfl⟩
theorem w_burgageref14_Split (t : TTenant) (q : TRequest) (S : List TPart × Int) (hS : S = splitP t.functions t.windows q) (ht : t.windows.length ≤ 1000) (hb : q.bits.length ≤ 140737488351232) (hv : q.vals.length ≤ 70368744175616) :
    T Try.prog 32 [PV.f (eTenant t),PV.f (eRequest q)] 0 [] (Ret (PV.tup [pS 10 false ePart S.1,pI S.2]) 0 []) := by
 refine t_fun tabOk (n := 139) (rs := [.tmp 4,.tmp 5]) Try.func32 rfl rfl rfl rfl (Nat.le_of_ble_eq_true rfl) ?_
 intro c hnt hk
 refine w_seq (w_R (qo hnt rfl (s_box rfl rfl ?_)))
 refine qo hnt rfl (s_box rfl rfl ?_)
 refine qa hnt rfl rfl (qa hnt rfl rfl (r_set [(2,PV.ptr 0 0),(3,PV.ptr 1 0)] [(1,.obj (cRequest q)),(0,.obj (cTenant t))] 2 ⟨rfl,rfl,trivial⟩ rfl rfl (r_end (q_then (w_seq ?_)))))
 refine w_seq (w_R (qo hnt rfl (s_load_ptr tab_26 rfl rfl rfl (Nat.le_of_ble_eq_true rfl) ?_)))
 refine qo hnt rfl (s_load_ptr tab_37 rfl rfl rfl (Nat.le_of_ble_eq_true rfl) ?_)
 refine qo hnt rfl (s_callF rfl rfl rfl (w_burgageref14_Code t q (by omega) (by omega) (by omega)) rfl ?_)
 refine qa hnt rfl rfl (r_end (q_then (w_seq (w_R (qm hnt rfl rfl ?_)))))
 refine qo hnt rfl (s_neq rfl rfl ?_)
 refine qm hnt rfl rfl (r_cut0 4 [(2,PV.ptr 0 0),(3,PV.ptr 1 0),(6,pI (codeP t.functions t.windows q)),(29,pB ((!decide (codeP t.functions t.windows q = 0)) || (locP q.fn)))] ?_ ?_)
 ·refine r_if tabOk hnt rfl rfl rfl (fun g1 => ?_) (fun g1 => ?_)
  ·have g1' := g1
   try simp only [sB] at g1'
   refine qo hnt rfl (s_fa_ptr tab_37 rfl rfl tab_3 (by decide) rfl ?_)
   refine ry hnt rfl rfl rfl g1 (qo hnt rfl (s_load_ptr1 tab_3 rfl rfl rfl rfl rfl ?_))
   refine ry hnt rfl rfl rfl g1 (qo hnt rfl (s_callF rfl rfl rfl (w_burgageref14_local q.fn) rfl ?_))
   refine qo hnt rfl (s_pick_f rfl g1 rfl ?_)
   refine r_eq (s := 29) (y := pB ((!decide (codeP t.functions t.windows q = 0)) || (locP q.fn))) rfl (mix_of g1) ?_
   exact r_mid ⟨⟨rfl,rfl,rfl,rfl,trivial⟩,rfl,rfl⟩
  ·have g1' := g1
   try simp only [sB] at g1'
   refine rn hnt rfl rfl rfl g1 (rn hnt rfl rfl rfl g1 (qo hnt rfl (s_pick_t rfl g1 rfl ?_)))
   refine r_eq (s := 29) (y := pB ((!decide (codeP t.functions t.windows q = 0)) || (locP q.fn))) rfl (mix_ot _ g1) ?_
   exact r_mid ⟨⟨rfl,rfl,rfl,rfl,trivial⟩,rfl,rfl⟩
 ·refine r_end (q_then (w_if rfl (fun c1 => ?_) (fun c1 => ?_)))
  ·have c1_ := c1
   try simp only [sB] at c1
   rw [split_ref c1_] at hS
   refine w_seq (w_R (qm hnt rfl rfl (qa hnt rfl rfl (qa hnt rfl rfl (r_end ?_)))))
   refine q_then (w_le (s := 4) (y := pS 10 false ePart []) rfl (le_nilS 10 false) (w_le (s := 4) (y := pS 10 false ePart S.1) rfl (le_of_eq (congrArg (fun z => pS 10 false ePart z) (show ([] : List TPart) = S.1 by (rw [hS]; done)))) (w_le (s := 5) (y := pI S.2) rfl (le_of_eq (congrArg pI (show (codeP t.functions t.windows q) = S.2 by (rw [hS]; done)))) (w_ret (q_then_ret ?_)))))
   exact fin_plain (ret_tmp rfl (ret_tmp rfl ret_nil)) rfl rfl ⟨rfl,rfl,rfl⟩
  have c1_ := c1
  try simp only [sB] at c1
  refine w_skip (q_then (w_seq ?_))
  obtain ⟨hc0,hn8,hn17⟩ := split_ref0 c1_
  obtain ⟨hno,hcy,hpy,hle6⟩ := codeP_zero hc0
  rw [split_yes hc0] at hS
  have hpl := p_len t.windows q
  have hsm := shape_small (rightR_zero (counts_right hcy)).2
  refine w_R (qo hnt rfl (s_load_ptr tab_26 rfl rfl rfl (Nat.le_of_ble_eq_true rfl) ?_))
  refine qo hnt rfl (s_load_ptr tab_37 rfl rfl rfl (Nat.le_of_ble_eq_true rfl) ?_)
  refine qo hnt rfl (s_callF rfl rfl rfl (w_burgageref14_pieces t q (by omega) (by omega) (by omega) (by exact counts_has hcy)) rfl ?_)
  refine qm hnt rfl rfl (qo hnt rfl (s_extract rfl rfl ?_))
  refine qo hnt rfl (s_extract rfl rfl ?_)
  refine qo hnt rfl (s_extract rfl rfl ?_)
  refine qa hnt rfl rfl (qa hnt rfl rfl (qa hnt rfl rfl (r_end (q_then (w_seq ?_)))))
  refine w_R (qa hnt rfl rfl (r_end (q_then (w_seq (w_seq ?_)))))
  refine w_R (qo hnt rfl (s_fa_ptr tab_37 rfl rfl tab_3 (by decide) rfl ?_))
  refine qo hnt rfl (s_load_ptr1 tab_3 rfl rfl rfl rfl rfl ?_)
  refine r_end (q_then (w_block (join1 (fun (bb1 : Bool) => bb1 = ((decide (q.fn = 5)) || (decide (q.fn = 6)))) (fun (bb1 : Bool) => [(3,PV.ptr 0 0),(7,pS 3 false ePiece (pR t.windows q)),(8,pS 3 false ePiece (pW t.windows q)),(10,pNil),(39,pI q.fn),(40,pB bb1)]) 1 (fun (bb1 : Bool) => [(0,.obj (cRequest q))]) ?_ ?_)))
  ·refine w_seq (w_R (qo hnt rfl (s_eql rfl rfl ?_)))
   refine qa hnt rfl rfl (r_end (q_then (w_if rfl (fun c2 => ?_) (fun c2 => ?_))))
   ·have c2_ := c2
    try simp only [sB] at c2
    refine w_skip (q_then (⟨(decide (q.fn = 5)), ?_,⟨[(0,1)],by rw [hk]; decide,⟨⟨_,rfl,rfl,rfl⟩,⟨_,rfl,rfl,rfl⟩,⟨_,rfl,rfl,rfl⟩,⟨_,rfl,rfl,rfl⟩,⟨_,rfl,rfl,rfl⟩,⟨_,rfl,rfl,rfl⟩,trivial⟩,⟨⟨_,_,rfl,rfl,rfl,rfl⟩,trivial⟩,by rw [hk]; decide⟩⟩))
    simp only [c2_,Bool.true_or,Bool.false_or]
   have c2_ := c2
   try simp only [sB] at c2
   refine w_R (qo hnt rfl (s_eql rfl rfl ?_))
   refine qa hnt rfl rfl (r_end (q_then (⟨(decide (q.fn = 6)), ?_,⟨[(0,1)],by rw [hk]; decide,⟨⟨_,rfl,rfl,rfl⟩,⟨_,rfl,rfl,rfl⟩,⟨_,rfl,rfl,rfl⟩,⟨_,rfl,rfl,rfl⟩,⟨_,rfl,rfl,rfl⟩,⟨_,rfl,rfl,rfl⟩,trivial⟩,⟨⟨_,_,rfl,rfl,rfl,rfl⟩,trivial⟩,by rw [hk]; decide⟩⟩)))
   simp only [c2_,Bool.true_or,Bool.false_or]
  intro bb1 hbb1
  subst hbb1
  refine w_if rfl (fun c3 => ?_) (fun c3 => ?_)
  ·try simp only [sB,Bool.or_eq_true,Bool.or_eq_false_iff] at c3
   refine w_seq ?_
   obtain ⟨h1l,h1c,hrw,_⟩ := p_one (l := t.windows) (q := q) (by omega) hpy
   refine W_drawn tabOk mixed hnt [[],[0],[],[2],[2,3],[2,3,4],[],[6],[],[8],(.range 10),[],(.range 12)] (by kernel_rfl) (d_op (x_run0 [(3,PV.ptr 0 0)] [] rfl rfl rfl rfl (s_fa_ptr tab_37 rfl rfl tab_3 (by decide) rfl ⟨rfl,rfl,rfl⟩) (d_op (xL [(43,PV.ptr 0 0)] [0] [(0,.obj (cRequest q))] rfl rfl rfl rfl rfl (s_load_ptr1 tab_3 rfl rfl rfl rfl rfl ⟨rfl,rfl,rfl⟩) ⟨rfl,trivial⟩ rfl (d_op ?_)))))
   refine x_run0 [(8,pS 3 false ePiece (pW t.windows q))] [] rfl rfl rfl rfl (s_move rfl ⟨rfl,rfl,rfl⟩) (d_op ?_)
   obtain ⟨e1,he1⟩ := get_of_lt (pW t.windows q) (i := 0) (by omega)
   refine x_run0 [(45,pS 3 false ePiece (pW t.windows q))] [2] rfl rfl rfl rfl (s_iaM (q := 0) (b := e1) (f := ePiece) tab_100 rfl tab_103 rfl rfl (by omega) rfl he1 ⟨rfl,rfl,rfl⟩) (d_op (x_run0 [(46,PV.f (.ro (ePiece e1)))] [2,3] rfl rfl rfl rfl (s_fa_ro tab_103 rfl rfl tab_3 (by decide) rfl (Nat.le_of_ble_eq_true rfl) (by intro _; rfl) ⟨rfl,rfl,rfl⟩) (d_op (x_run0 [(47,PV.f (.ro (encI e1.physical)))] [2,3,4] rfl rfl rfl rfl (s_load_ro1 tab_3 rfl rfl rfl rfl ⟨rfl,rfl,rfl⟩) (d_op ?_)))))
   refine x_run0 [(3,PV.ptr 0 0)] [] rfl rfl rfl rfl (s_fa_ptr tab_37 rfl rfl tab_33 (by decide) rfl ⟨rfl,rfl,rfl⟩) (d_op (xL [(49,PV.ptr 0 5)] [6] [(0,.obj (cRequest q))] rfl rfl rfl rfl rfl (s_load_ptr1 tab_33 rfl rfl rfl rfl rfl ⟨rfl,rfl,rfl⟩) ⟨rfl,trivial⟩ rfl (d_op (x_run0 [(3,PV.ptr 0 0)] [] rfl rfl rfl rfl (s_fa_ptr tab_37 rfl rfl tab_34 (by decide) rfl ⟨rfl,rfl,rfl⟩) (d_op ?_)))))
   refine xL [(51,PV.ptr 0 6)] [8] [(0,.obj (cRequest q))] rfl rfl rfl rfl rfl (s_load_ptr1 tab_34 rfl rfl rfl rfl rfl ⟨rfl,rfl,rfl⟩) ⟨rfl,trivial⟩ rfl (d_op (x_run0 [(44,pI q.fn),(48,pI e1.physical),(50,pS 1 false encBo q.bits),(52,pS 1 false enc16 q.vals)] (.range 10) rfl rfl rfl rfl (s_build tab_37 rfl rfl (b_cons rfl tab_3 rfl rfl rfl (Nat.le_of_ble_eq_true rfl) (b_cons rfl tab_3 rfl rfl rfl (Nat.le_of_ble_eq_true rfl) (b_cons rfl tab_33 rfl rfl rfl (Nat.le_of_ble_eq_true rfl) (b_cons rfl tab_34 rfl rfl rfl (Nat.le_of_ble_eq_true rfl) (b_nil ⟨rfl,rfl,rfl⟩)))))) (d_op (xT [] [] [] [(1,.obj [pI 0,pI 0,pI 0,pI 0,pI 0,pNil,pNil,p16 0,p16 0])] [(0,.obj (cRequest q))] rfl rfl rfl rfl rfl (s_alloc tab_37 ⟨rfl,rfl,rfl⟩) rfl rfl (d_op ?_)))))
   refine xT [(11,PV.ptr 1 0),(53,PV.f (.agg [encI q.fn,encI e1.physical,encI 0,encI 0,encI 0,FV.sl 1 false (List.map encBo q.bits),FV.sl 1 false (List.map enc16 q.vals),enc16 0,enc16 0]))] (.range 12) [(1,.obj [pI 0,pI 0,pI 0,pI 0,pI 0,pNil,pNil,p16 0,p16 0])] [(1,.obj [pI q.fn,pI e1.physical,pI 0,pI 0,pI 0,pS 1 false encBo q.bits,pS 1 false enc16 q.vals,p16 0,p16 0])] [(0,.obj (cRequest q))] rfl rfl rfl rfl rfl (s_store_ptr tab_37 rfl rfl rfl rfl rfl (Nat.le_of_ble_eq_true rfl) ⟨rfl,rfl,rfl⟩) rfl rfl (d_end ⟨by kernel_rfl, ?_⟩)
   refine q_then (w_seq (w_R (qo hnt rfl (s_load_ptr tab_37 rfl rfl rfl (Nat.le_of_ble_eq_true rfl) ?_))))
   refine qo hnt rfl (s_build tab_77 rfl rfl (b_cons rfl tab_37 rfl rfl rfl (Nat.le_of_ble_eq_true rfl) (b_cons rfl tab_4 rfl rfl rfl (Nat.le_of_ble_eq_true rfl) (b_nil ?_))))
   refine qo hnt rfl (s_mkM (f := ePart) [(⟨(⟨q.fn,e1.physical,0,0,0,q.bits,q.vals,0,0⟩ : TRequest),true⟩ : TPart)] tab_74 rfl tab_77 ⟨rfl,by decide⟩ (by decide) rfl rfl rfl rfl ?_)
   refine qa hnt rfl rfl (qa hnt rfl rfl (r_set [(4,PV.ref 2 0 none),(5,pI 0)] [(2,oB true 10 ePart [(⟨(⟨q.fn,e1.physical,0,0,0,q.bits,q.vals,0,0⟩ : TRequest),true⟩ : TPart)]),(1,.obj [pI q.fn,pI e1.physical,pI 0,pI 0,pI 0,pS 1 false encBo q.bits,pS 1 false enc16 q.vals,p16 0,p16 0]),(0,.obj (cRequest q))] 3 ⟨rfl,rfl,trivial⟩ rfl rfl (r_end (q_then (w_frzM (s := 4) (f := ePart) rfl rfl view_0 ?_)))))
   refine w_le (s := 4) (y := pS 10 false ePart S.1) rfl (le_of_eq (congrArg (fun z => pS 10 false ePart z) (show ([(⟨(⟨q.fn,e1.physical,0,0,0,q.bits,q.vals,0,0⟩ : TRequest),true⟩ : TPart)] : List TPart) = S.1 by (rw [hS]; exact (parts_5 hcy (by omega) hpy he1).symm)))) (w_le (s := 5) (y := pI S.2) rfl (le_of_eq (congrArg pI (show 0 = S.2 by (rw [hS]; done)))) (w_ret (q_block_ret (q_then_ret ?_))))
   exact fin_plain (ret_tmp rfl (ret_tmp rfl ret_nil)) rfl rfl ⟨rfl,rfl,rfl⟩
  try simp only [sB,Bool.or_eq_true,Bool.or_eq_false_iff] at c3
  refine w_seq (w_R (qo hnt rfl (s_eql rfl rfl ?_)))
  refine qa hnt rfl rfl (r_end (q_then (w_if rfl (fun c4 => ?_) (fun c4 => ?_))))
  ·try simp only [sB] at c4
   refine w_seq ?_
   obtain ⟨h1l,h1c,hrw,_⟩ := p_one (l := t.windows) (q := q) (by omega) hpy
   have hrw2 := hrw (by omega)
   have hrl : (pR t.windows q).length = 1 := by rw [hrw2]; exact h1l
   have hrc : ∀ x,(pR t.windows q)[0]? = some x → x.count = 1 := by rw [hrw2]; exact h1c
   refine w_R (qm hnt rfl rfl ?_)
   obtain ⟨e2,he2⟩ := get_of_lt (pW t.windows q) (i := 0) (by omega)
   refine qo hnt rfl (s_iaM (q := 0) (b := e2) (f := ePiece) tab_100 rfl tab_103 rfl rfl (by omega) rfl he2 ?_)
   refine qo hnt rfl (s_fa_ro tab_103 rfl rfl tab_3 (by decide) rfl (Nat.le_of_ble_eq_true rfl) (by intro _; rfl) ?_)
   refine qo hnt rfl (s_load_ro1 tab_3 rfl rfl rfl rfl ?_)
   refine qo hnt rfl (s_mkM (f := enc16) ([0] : List UInt16) tab_34 rfl tab_35 ⟨rfl,by decide⟩ (by decide) rfl rfl rfl rfl ?_)
   refine qo hnt rfl (s_build tab_37 rfl rfl (b_cons rfl tab_3 rfl rfl rfl (Nat.le_of_ble_eq_true rfl) (b_cons rfl tab_3 rfl rfl rfl (Nat.le_of_ble_eq_true rfl) (b_cons rfl tab_34 rfl rfl rfl (Nat.le_of_ble_eq_true rfl) (b_nil ?_)))))
   refine qo hnt rfl (s_alloc tab_37 ?_)
   refine qo hnt rfl (s_store_ptr tab_37 rfl rfl rfl rfl rfl (Nat.le_of_ble_eq_true rfl) ?_)
   refine r_set [(7,pS 3 false ePiece (pR t.windows q)),(12,PV.ptr 2 0)] [(2,.obj [pI 6,pI e2.physical,pI 0,pI 0,pI 0,pNil,PV.ref 1 0 none,p16 0,p16 0]),(1,oB true 1 enc16 ([0] : List UInt16)),(0,.obj (cRequest q))] 3 ⟨rfl,rfl,trivial⟩ rfl rfl (r_end (q_then (w_seq (W_drawn tabOk mixed hnt [[],[0],[0,1],[0,1,2],[0,1,2,3],[0,1,2,3,4],[],[6],(.range 8),(.range 9),(.range 10)] (by kernel_rfl) (d_op ?_)))))
   refine x_run0 [(7,pS 3 false ePiece (pR t.windows q))] [] rfl rfl rfl rfl (s_move rfl ⟨rfl,rfl,rfl⟩) (d_op ?_)
   obtain ⟨e3,he3⟩ := get_of_lt (pR t.windows q) (i := 0) (by omega)
   refine x_run0 [(65,pS 3 false ePiece (pR t.windows q))] [0] rfl rfl rfl rfl (s_iaM (q := 0) (b := e3) (f := ePiece) tab_100 rfl tab_103 rfl rfl (by omega) rfl he3 ⟨rfl,rfl,rfl⟩) (d_op (x_run0 [(66,PV.f (.ro (ePiece e3)))] [0,1] rfl rfl rfl rfl (s_fa_ro tab_103 rfl rfl tab_3 (by decide) rfl (Nat.le_of_ble_eq_true rfl) (by intro _; rfl) ⟨rfl,rfl,rfl⟩) (d_op (x_run0 [(67,PV.f (.ro (encI e3.physical)))] [0,1,2] rfl rfl rfl rfl (s_load_ro1 tab_3 rfl rfl rfl rfl ⟨rfl,rfl,rfl⟩) ?_))))
   have h23 : e2 = e3 := by have h9 := he3; rw [hrw2,he2] at h9; exact Option.some.inj h9
   refine d_op (x_run0 [(68,pI e3.physical)] [0,1,2,3] rfl rfl rfl rfl (s_build tab_37 rfl rfl (b_cons rfl tab_3 rfl rfl rfl (Nat.le_of_ble_eq_true rfl) (b_cons rfl tab_3 rfl rfl rfl (Nat.le_of_ble_eq_true rfl) (b_cons rfl tab_3 rfl rfl rfl (Nat.le_of_ble_eq_true rfl) (b_nil ⟨rfl,rfl,rfl⟩))))) (d_op (x_run0 [(69,PV.f (.agg [encI 3,encI e3.physical,encI 1,encI 0,encI 0,FV.v (.slice none 0 0),FV.v (.slice none 0 0),enc16 0,enc16 0]))] [0,1,2,3,4] rfl rfl rfl rfl (s_build tab_77 rfl rfl (b_cons rfl tab_37 rfl rfl rfl (Nat.le_of_ble_eq_true rfl) (b_cons rfl tab_4 rfl rfl rfl (Nat.le_of_ble_eq_true rfl) (b_nilL [pI 3,pI e3.physical,pI 1,pI 0,pI 0,pS 1 false encBo [],pS 1 false enc16 [],p16 0,p16 0,pB false] ⟨le_refl _,le_refl _,le_refl _,le_refl _,le_refl _,le_nilM 1 false,le_nilM 1 false,le_refl _,le_refl _,le_refl _,trivial⟩ ⟨rfl,rfl,rfl⟩)))) (d_op (xL [(12,PV.ptr 2 0)] [] [(2,.obj [pI 6,pI e2.physical,pI 0,pI 0,pI 0,pNil,PV.ref 1 0 none,p16 0,p16 0])] rfl rfl rfl rfl rfl (s_load_ptr tab_37 rfl rfl rfl (Nat.le_of_ble_eq_true rfl) ⟨rfl,rfl,rfl⟩) ⟨rfl,trivial⟩ rfl ?_)))))
   refine d_op (x_run0 [(71,PV.agg [pI 6,pI e2.physical,pI 0,pI 0,pI 0,pNil,PV.ref 1 0 none,p16 0,p16 0])] [6] rfl rfl rfl rfl (s_build tab_77 rfl rfl (b_cons rfl tab_37 rfl rfl rfl (Nat.le_of_ble_eq_true rfl) (b_cons rfl tab_4 rfl rfl rfl (Nat.le_of_ble_eq_true rfl) (b_nilL [pI 6,pI e2.physical,pI 0,pI 0,pI 0,pS 1 false encBo [],PV.ref 1 0 none,p16 0,p16 0,pB true] ⟨le_refl _,le_refl _,le_refl _,le_refl _,le_refl _,le_nilM 1 false,le_refl _,le_refl _,le_refl _,le_refl _,trivial⟩ ⟨rfl,rfl,rfl⟩)))) (d_op (xT [(70,PV.f (.agg [encI 3,encI e3.physical,encI 1,encI 0,encI 0,FV.sl 1 false (List.map encBo []),FV.sl 1 false (List.map enc16 []),enc16 0,enc16 0,encBo false])),(72,PV.agg [pI 6,pI e2.physical,pI 0,pI 0,pI 0,pS 1 false encBo [],PV.ref 1 0 none,p16 0,p16 0,pB true])] (.range 8) [(1,oB true 1 enc16 ([0] : List UInt16))] [(3,oB true 10 ePart ([(⟨(⟨3,e3.physical,1,0,0,[],[],0,0⟩ : TRequest),false⟩ : TPart),(⟨(⟨6,e2.physical,0,0,0,[],([0] : List UInt16),0,0⟩ : TRequest),true⟩ : TPart)])),(1,oB false 1 enc16 ([0] : List UInt16))] [(2,.obj [pI 6,pI e2.physical,pI 0,pI 0,pI 0,pNil,PV.ref 1 0 none,p16 0,p16 0]),(0,.obj (cRequest q))] rfl rfl rfl rfl rfl (s_mkM (f := ePart) [(⟨(⟨3,e3.physical,1,0,0,[],[],0,0⟩ : TRequest),false⟩ : TPart),(⟨(⟨6,e2.physical,0,0,0,[],([0] : List UInt16),0,0⟩ : TRequest),true⟩ : TPart)] tab_74 rfl tab_77 ⟨rfl,by decide⟩ (by decide) rfl rfl rfl rfl ⟨rfl,rfl,rfl⟩) rfl rfl (d_op (x_run0 [(73,PV.ref 3 0 none)] (.range 9) rfl rfl rfl rfl (s_assign rfl ⟨rfl,rfl,rfl⟩) ?_)))))
   refine d_op (x_run0 [] (.range 10) rfl rfl rfl rfl (s_assign rfl ⟨rfl,rfl,rfl⟩) (d_end ⟨by kernel_rfl, ?_⟩))
   refine q_then (w_frzM (s := 4) (f := ePart) rfl rfl view_0 (w_le (s := 4) (y := pS 10 false ePart S.1) rfl (le_of_eq (congrArg (fun z => pS 10 false ePart z) (show ([(⟨(⟨3,e3.physical,1,0,0,[],[],0,0⟩ : TRequest),false⟩ : TPart),(⟨(⟨6,e2.physical,0,0,0,[],([0] : List UInt16),0,0⟩ : TRequest),true⟩ : TPart)] : List TPart) = S.1 by (rw [hS,h23]; exact (parts_22r (by omega) he3).symm)))) (w_le (s := 5) (y := pI S.2) rfl (le_of_eq (congrArg pI (show 0 = S.2 by (rw [hS]; done)))) (w_ret (q_block_ret ?_)))))
   refine q_then_ret ?_
   exact fin_plain (ret_tmp rfl (ret_tmp rfl ret_nil)) rfl rfl ⟨rfl,rfl,rfl⟩
  try simp only [sB] at c4
  refine w_skip (q_block (q_then (w_seq (w_R (qa hnt rfl rfl ?_)))))
  refine r_end (q_then (w_seq (w_seq (w_R (qm hnt rfl rfl ?_)))))
  refine qo hnt rfl (s_lenM (l := pW t.windows q) tab_100 rfl (hM_sl (f := ePiece) rfl) ?_)
  refine qm hnt rfl rfl (r_end (q_then (w_block (w_adopt (s := 10) (sz := 10) rfl (loop3 (fun (os : List TPart) (dn : Int) (i : Nat) => i ≤ (pW t.windows q).length ∧ os = ((pW t.windows q).take i).map (wPart q) ∧ dn = sumC ((pW t.windows q).take i)) (fun (os : List TPart) (dn : Int) (i : Nat) => [(3,PV.ptr 1 0),(7,pS 3 false ePiece (pR t.windows q)),(10,PV.ref 0 0 none),(13,pI dn),(74,pS 3 false ePiece (pW t.windows q)),(75,pN ((pW t.windows q).length)),(76,pN i)]) 2 (fun (os : List TPart) (dn : Int) (i : Nat) => [(0,oB true 10 ePart os),(1,.obj (cRequest q))]) (fun (os : List TPart) (dn : Int) (i : Nat) => (pW t.windows q).length - i) (([] : List TPart)) (0) (0) ?_ ⟨[(0,1),(1,0)],by rw [hk]; decide,⟨⟨_,rfl,rfl,rfl⟩,⟨_,rfl,rfl,rfl⟩,⟨_,rfl,rfl,rfl⟩,⟨_,rfl,rfl,rfl⟩,⟨_,rfl,rfl,rfl⟩,⟨_,rfl,rfl,rfl⟩,⟨_,rfl,rfl,rfl⟩,trivial⟩,⟨⟨_,_,rfl,rfl,rfl,rfl⟩,⟨_,_,rfl,rfl,rfl,rfl⟩,trivial⟩,by rw [hk]; decide⟩ ?_)))))
  · exact ⟨by omega,rfl,rfl⟩
  ·intro os dn i hI
   obtain ⟨hi,hos,hdn⟩ := hI
   have hol : os.length ≤ 6 := by rw [hos]; simp; omega
   refine w_seq (w_R (qo hnt rfl (s_lss rfl rfl ?_)))
   refine r_end (q_then (w_seq (w_if rfl (fun c5 => ?_) (fun c5 => ?_))))
   ·try simp only [sB] at c5
    refine w_skip (q_then (w_seq (w_block (w_seq (w_R ?_)))))
    obtain ⟨e4,he4⟩ := get_of_lt (pW t.windows q) (i := i) (by omega)
    refine qo hnt rfl (s_iaM (q := i) (b := e4) (f := ePiece) tab_100 rfl tab_103 rfl rfl (by omega) rfl he4 ?_)
    refine qo hnt rfl (s_load_ro tab_103 rfl rfl rfl ?_)
    refine qo hnt rfl (s_alloc tab_103 ?_)
    refine qo hnt rfl (s_store_ptr tab_103 rfl rfl rfl rfl rfl (Nat.le_of_ble_eq_true rfl) ?_)
    refine r_set [(3,PV.ptr 1 0),(7,pS 3 false ePiece (pR t.windows q)),(10,PV.ref 0 0 none),(13,pI dn),(15,PV.ptr 2 0),(74,pS 3 false ePiece (pW t.windows q)),(75,pN ((pW t.windows q).length)),(76,pN i)] [(2,.obj (cPiece e4)),(0,oB true 10 ePart os),(1,.obj (cRequest q))] 3 ⟨rfl,rfl,rfl,rfl,rfl,rfl,rfl,rfl,trivial⟩ rfl rfl (r_end (q_then (w_seq ?_)))
    obtain ⟨wc1,wc2,wp0,wp1,wfn,w15,w16,w23⟩ := pW_get hcy he4
    obtain ⟨w1,hw1⟩ : ∃ z,z = wPart q e4 := ⟨_,rfl⟩
    refine w_R (qo hnt rfl (s_fa_ptr tab_103 rfl rfl tab_3 (by decide) rfl ?_))
    refine qo hnt rfl (s_load_ptr1 tab_3 rfl rfl rfl rfl rfl ?_)
    refine qo hnt rfl (s_fa_ptr tab_103 rfl rfl tab_3 (by decide) rfl ?_)
    refine qo hnt rfl (s_load_ptr1 tab_3 rfl rfl rfl rfl rfl ?_)
    refine qo hnt rfl (s_build tab_37 rfl rfl (b_cons rfl tab_3 rfl rfl rfl (Nat.le_of_ble_eq_true rfl) (b_cons rfl tab_3 rfl rfl rfl (Nat.le_of_ble_eq_true rfl) (b_cons rfl tab_3 rfl rfl rfl (Nat.le_of_ble_eq_true rfl) (b_nil ?_)))))
    refine qo hnt rfl (s_alloc tab_37 ?_)
    refine qo hnt rfl (s_store_ptr tab_37 rfl rfl rfl rfl rfl (Nat.le_of_ble_eq_true rfl) ?_)
    refine r_set [(3,PV.ptr 1 0),(7,pS 3 false ePiece (pR t.windows q)),(10,PV.ref 0 0 none),(13,pI dn),(15,PV.ptr 2 0),(16,PV.ptr 3 0),(74,pS 3 false ePiece (pW t.windows q)),(75,pN ((pW t.windows q).length)),(76,pN i)] [(3,.obj [pI 16,pI e4.physical,pI e4.count,pI 0,pI 0,pNil,pNil,p16 0,p16 0]),(2,.obj (cPiece e4)),(0,oB true 10 ePart os),(1,.obj (cRequest q))] 4 ⟨rfl,rfl,rfl,rfl,rfl,rfl,rfl,rfl,rfl,trivial⟩ rfl rfl (r_end (q_then (join0 (True) ([(3,PV.ptr 1 0),(7,pS 3 false ePiece (pR t.windows q)),(10,PV.ref 2 0 none),(13,pI dn),(15,PV.ptr 3 0),(16,PV.ptr 0 0),(74,pS 3 false ePiece (pW t.windows q)),(75,pN ((pW t.windows q).length)),(76,pN i)]) 4 ([(0,.obj [pI w1.request.fn,pI w1.request.at_,pI w1.request.count,pI w1.request.wAt,pI w1.request.sub,pS 1 false encBo w1.request.bits,pS 1 false enc16 w1.request.vals,p16 w1.request.and_,p16 w1.request.or_]),(1,.obj (cRequest q)),(2,oB true 10 ePart os),(3,.obj (cPiece e4))]) ?_ ?_)))
    ·refine w_seq (w_R (qo hnt rfl (s_fa_ptr tab_37 rfl rfl tab_3 (by decide) rfl ?_)))
     refine qo hnt rfl (s_load_ptr1 tab_3 rfl rfl rfl rfl rfl ?_)
     refine qo hnt rfl (s_eql rfl rfl ?_)
     refine r_end (q_then (w_if rfl (fun c6 => ?_) (fun c6 => ?_)))
     ·try simp only [sB] at c6
      refine W_drawnR tabOk mixed hnt [[],[0],[],[],[],[4],[3,4,5],[0,1,2,3,4,5,6],[],[8],(.range 10),(.range 11)] (by kernel_rfl) (d_op (x_run0 [(3,PV.ptr 1 0)] [] rfl rfl rfl rfl (s_fa_ptr tab_37 rfl rfl tab_33 (by decide) rfl ⟨rfl,rfl,rfl⟩) (d_op (xL [(88,PV.ptr 1 5)] [0] [(1,.obj (cRequest q))] rfl rfl rfl rfl rfl (s_load_ptr1 tab_33 rfl rfl rfl rfl rfl ⟨rfl,rfl,rfl⟩) ⟨rfl,trivial⟩ rfl (d_op ?_)))))
      refine x_run0 [(13,pI dn)] [] rfl rfl rfl rfl (s_move rfl ⟨rfl,rfl,rfl⟩) (d_op (x_run0 [(13,pI dn)] [] rfl rfl rfl rfl (s_move rfl ⟨rfl,rfl,rfl⟩) (d_op (x_run0 [(15,PV.ptr 2 0)] [] rfl rfl rfl rfl (s_fa_ptr tab_103 rfl rfl tab_3 (by decide) rfl ⟨rfl,rfl,rfl⟩) (d_op ?_)))))
      refine xL [(92,PV.ptr 2 2)] [4] [(2,.obj (cPiece e4))] rfl rfl rfl rfl rfl (s_load_ptr1 tab_3 rfl rfl rfl rfl rfl ⟨rfl,rfl,rfl⟩) ⟨rfl,trivial⟩ rfl (d_op (x_run0 [(91,pI dn),(93,pI e4.count)] [3,4,5] rfl rfl rfl rfl (s_addi (r := dn + e4.count) rfl rfl rfl (by omega) ⟨rfl,rfl,rfl⟩) (d_op (x_run0 [(89,pS 1 false encBo q.bits),(90,pI dn),(94,pI (dn + e4.count))] [0,1,2,3,4,5,6] rfl rfl rfl rfl (s_cutM (a := Int.toNat dn) (b := Int.toNat (dn + e4.count)) (f := encBo) (l := q.bits) tab_33 rfl tab_4 ⟨rfl,by decide⟩ rfl (bound_some rfl (by omega)) (bound_some rfl (by omega)) (by omega) ⟨rfl,rfl,rfl⟩) (d_op ?_)))))
      refine x_run0 [(16,PV.ptr 3 0)] [] rfl rfl rfl rfl (s_fa_ptr tab_37 rfl rfl tab_3 (by decide) rfl ⟨rfl,rfl,rfl⟩) (d_op (xT [(96,PV.ptr 3 0)] [8] [(3,.obj [pI 16,pI e4.physical,pI e4.count,pI 0,pI 0,pNil,pNil,p16 0,p16 0])] [(3,.obj [pI 15,pI e4.physical,pI e4.count,pI 0,pI 0,pNil,pNil,p16 0,p16 0])] [(2,.obj (cPiece e4)),(0,oB true 10 ePart os),(1,.obj (cRequest q))] rfl rfl rfl rfl rfl (s_store_ptr tab_3 rfl rfl rfl rfl rfl (Nat.le_of_ble_eq_true rfl) ⟨rfl,rfl,rfl⟩) rfl rfl (d_op (x_run0 [(16,PV.ptr 3 0)] (.range 10) rfl rfl rfl rfl (s_fa_ptr tab_37 rfl rfl tab_33 (by decide) rfl ⟨rfl,rfl,rfl⟩) (d_op ?_)))))
      refine xT [(97,PV.ptr 3 5),(95,pS 1 false encBo ((q.bits.take (Int.toNat (dn + e4.count))).drop (Int.toNat dn)))] (.range 11) [(3,.obj [pI 15,pI e4.physical,pI e4.count,pI 0,pI 0,pNil,pNil,p16 0,p16 0])] [(3,.obj [pI 15,pI e4.physical,pI e4.count,pI 0,pI 0,pS 1 false encBo ((q.bits.take (Int.toNat (dn + e4.count))).drop (Int.toNat dn)),pNil,p16 0,p16 0])] [(2,.obj (cPiece e4)),(0,oB true 10 ePart os),(1,.obj (cRequest q))] rfl rfl rfl rfl rfl (s_store_ptr tab_33 rfl rfl rfl rfl rfl (Nat.le_of_ble_eq_true rfl) ⟨rfl,rfl,rfl⟩) rfl rfl (d_end ⟨by kernel_rfl, ?_⟩)
      have hz1 : 15 = w1.request.fn ∧ e4.physical = w1.request.at_ ∧ e4.count = w1.request.count ∧ 0 = w1.request.wAt ∧ 0 = w1.request.sub ∧ ((q.bits.take (Int.toNat (dn + e4.count))).drop (Int.toNat dn)) = w1.request.bits ∧ ([] : List UInt16) = w1.request.vals ∧ 0 = w1.request.and_ ∧ 0 = w1.request.or_ := by and_intros <;> ((rw [hw1,wPart_15 (by omega)] <;> (first|rfl|omega|exact cut_dn _ (by omega) (by omega) (by omega))))
      refine r_leO (n := 3) (ds := [pI w1.request.fn,pI w1.request.at_,pI w1.request.count,pI w1.request.wAt,pI w1.request.sub,pS 1 false encBo w1.request.bits,pS 1 false enc16 w1.request.vals,p16 w1.request.and_,p16 w1.request.or_]) rfl ⟨le_of_eq (congrArg pI hz1.1),le_of_eq (congrArg pI hz1.2.1),le_of_eq (congrArg pI hz1.2.2.1),le_of_eq (congrArg pI hz1.2.2.2.1),le_of_eq (congrArg pI hz1.2.2.2.2.1),le_of_eq (congrArg (fun z => pS 1 false encBo z) hz1.2.2.2.2.2.1),le_tr (le_nilS 1 false) (le_of_eq (congrArg (fun z => pS 1 false enc16 z) hz1.2.2.2.2.2.2.1)),le_of_eq (congrArg p16 hz1.2.2.2.2.2.2.2.1),le_of_eq (congrArg p16 hz1.2.2.2.2.2.2.2.2),trivial⟩ (r_end (q_then (⟨?_,⟨[(0,3),(1,1),(2,0),(3,2)],by rw [hk]; decide,⟨⟨_,rfl,rfl,rfl⟩,⟨_,rfl,rfl,rfl⟩,⟨_,rfl,rfl,rfl⟩,⟨_,rfl,rfl,rfl⟩,⟨_,rfl,rfl,rfl⟩,⟨_,rfl,rfl,rfl⟩,⟨_,rfl,rfl,rfl⟩,⟨_,rfl,rfl,rfl⟩,⟨_,rfl,rfl,rfl⟩,trivial⟩,⟨⟨_,_,rfl,rfl,rfl,rfl⟩,⟨_,_,rfl,rfl,rfl,rfl⟩,⟨_,_,rfl,rfl,rfl,rfl⟩,⟨_,_,rfl,rfl,rfl,rfl⟩,trivial⟩,by rw [hk]; decide⟩⟩)))
      trivial
     try simp only [sB] at c6
     refine w_R (qo hnt rfl (s_fa_ptr tab_37 rfl rfl tab_34 (by decide) rfl ?_))
     refine qo hnt rfl (s_load_ptr1 tab_34 rfl rfl rfl rfl rfl ?_)
     refine qm hnt rfl rfl (qm hnt rfl rfl (qo hnt rfl (s_fa_ptr tab_103 rfl rfl tab_3 (by decide) rfl ?_)))
     refine qo hnt rfl (s_load_ptr1 tab_3 rfl rfl rfl rfl rfl ?_)
     refine qo hnt rfl (s_addi (r := dn + e4.count) rfl rfl rfl (by omega) ?_)
     refine qo hnt rfl (s_cutM (a := Int.toNat dn) (b := Int.toNat (dn + e4.count)) (f := enc16) (l := q.vals) tab_34 rfl tab_35 ⟨rfl,by decide⟩ rfl (bound_some rfl (by omega)) (bound_some rfl (by omega)) (by omega) ?_)
     refine qo hnt rfl (s_fa_ptr tab_37 rfl rfl tab_34 (by decide) rfl ?_)
     refine qo hnt rfl (s_store_ptr tab_34 rfl rfl rfl rfl rfl (Nat.le_of_ble_eq_true rfl) ?_)
     have hz2 : 16 = w1.request.fn ∧ e4.physical = w1.request.at_ ∧ e4.count = w1.request.count ∧ 0 = w1.request.wAt ∧ 0 = w1.request.sub ∧ ([] : List Bool) = w1.request.bits ∧ ((q.vals.take (Int.toNat (dn + e4.count))).drop (Int.toNat dn)) = w1.request.vals ∧ 0 = w1.request.and_ ∧ 0 = w1.request.or_ := by and_intros <;> ((have h1623 : q.fn = 16 ∨ q.fn = 23 := (by omega);  rcases h1623 with h16|h16; (rw [hw1,wPart_16 h16] <;> (first|rfl|omega|exact cut_dn _ (by omega) (by omega) (by omega))); (rw [hw1,wPart_23 h16] <;> (first|rfl|omega|exact cut_dn _ (by omega) (by omega) (by omega)))))
     refine r_leO (n := 3) (ds := [pI w1.request.fn,pI w1.request.at_,pI w1.request.count,pI w1.request.wAt,pI w1.request.sub,pS 1 false encBo w1.request.bits,pS 1 false enc16 w1.request.vals,p16 w1.request.and_,p16 w1.request.or_]) rfl ⟨le_of_eq (congrArg pI hz2.1),le_of_eq (congrArg pI hz2.2.1),le_of_eq (congrArg pI hz2.2.2.1),le_of_eq (congrArg pI hz2.2.2.2.1),le_of_eq (congrArg pI hz2.2.2.2.2.1),le_tr (le_nilS 1 false) (le_of_eq (congrArg (fun z => pS 1 false encBo z) hz2.2.2.2.2.2.1)),le_of_eq (congrArg (fun z => pS 1 false enc16 z) hz2.2.2.2.2.2.2.1),le_of_eq (congrArg p16 hz2.2.2.2.2.2.2.2.1),le_of_eq (congrArg p16 hz2.2.2.2.2.2.2.2.2),trivial⟩ (r_end (q_then (⟨?_,⟨[(0,3),(1,1),(2,0),(3,2)],by rw [hk]; decide,⟨⟨_,rfl,rfl,rfl⟩,⟨_,rfl,rfl,rfl⟩,⟨_,rfl,rfl,rfl⟩,⟨_,rfl,rfl,rfl⟩,⟨_,rfl,rfl,rfl⟩,⟨_,rfl,rfl,rfl⟩,⟨_,rfl,rfl,rfl⟩,⟨_,rfl,rfl,rfl⟩,⟨_,rfl,rfl,rfl⟩,trivial⟩,⟨⟨_,_,rfl,rfl,rfl,rfl⟩,⟨_,_,rfl,rfl,rfl,rfl⟩,⟨_,_,rfl,rfl,rfl,rfl⟩,⟨_,_,rfl,rfl,rfl,rfl⟩,trivial⟩,by rw [hk]; decide⟩⟩)))
     trivial
    intro hJ
    refine w_seq (w_R (qm hnt rfl rfl (qo hnt rfl (s_load_ptr tab_37 rfl rfl rfl (Nat.le_of_ble_eq_true rfl) ?_))))
    refine qo hnt rfl (s_build tab_77 rfl rfl (b_cons rfl tab_37 rfl rfl rfl (Nat.le_of_ble_eq_true rfl) (b_cons rfl tab_4 rfl rfl rfl (Nat.le_of_ble_eq_true rfl) (b_nil ?_))))
    refine qo hnt rfl (s_mkM (f := ePart) [(⟨(⟨w1.request.fn,w1.request.at_,w1.request.count,w1.request.wAt,w1.request.sub,w1.request.bits,w1.request.vals,w1.request.and_,w1.request.or_⟩ : TRequest),true⟩ : TPart)] tab_74 rfl tab_77 ⟨rfl,by decide⟩ (by decide) rfl rfl rfl rfl ?_)
    refine qo hnt rfl (s_appR0 (f := ePart) (l := os) (xs := [(⟨(⟨w1.request.fn,w1.request.at_,w1.request.count,w1.request.wAt,w1.request.sub,w1.request.bits,w1.request.vals,w1.request.and_,w1.request.or_⟩ : TRequest),true⟩ : TPart)]) tab_74 rfl tab_77 ⟨rfl,by decide,by decide⟩ (srcM tab_74 rfl (hM_ref0 (f := ePart) rfl rfl)) rfl rfl (by (simp; omega)) ?_)
    refine qa hnt rfl rfl (r_set [(3,PV.ptr 1 0),(7,pS 3 false ePiece (pR t.windows q)),(10,PV.ref 5 0 none),(13,pI dn),(15,PV.ptr 3 0),(74,pS 3 false ePiece (pW t.windows q)),(75,pN ((pW t.windows q).length)),(76,pN i)] [(5,oB true 10 ePart (os ++ [(⟨(⟨w1.request.fn,w1.request.at_,w1.request.count,w1.request.wAt,w1.request.sub,w1.request.bits,w1.request.vals,w1.request.and_,w1.request.or_⟩ : TRequest),true⟩ : TPart)])),(4,oB true 10 ePart [(⟨(⟨w1.request.fn,w1.request.at_,w1.request.count,w1.request.wAt,w1.request.sub,w1.request.bits,w1.request.vals,w1.request.and_,w1.request.or_⟩ : TRequest),true⟩ : TPart)]),(0,.obj [pI w1.request.fn,pI w1.request.at_,pI w1.request.count,pI w1.request.wAt,pI w1.request.sub,pS 1 false encBo w1.request.bits,pS 1 false enc16 w1.request.vals,p16 w1.request.and_,p16 w1.request.or_]),(1,.obj (cRequest q)),(3,.obj (cPiece e4))] 6 ⟨rfl,rfl,rfl,rfl,rfl,rfl,rfl,rfl,trivial⟩ rfl rfl (r_end (q_then (w_R (qm hnt rfl rfl ?_)))))
    refine qo hnt rfl (s_fa_ptr tab_103 rfl rfl tab_3 (by decide) rfl ?_)
    refine qo hnt rfl (s_load_ptr1 tab_3 rfl rfl rfl rfl rfl ?_)
    refine qo hnt rfl (s_addi (r := dn + e4.count) rfl rfl rfl (by omega) ?_)
    refine qa hnt rfl rfl (r_end (q_block (q_then (w_R (qo hnt rfl (s_addN (a := i) (b := 1) rfl rfl (by omega) (by omega) (by omega) ?_))))))
    refine qm hnt rfl rfl (r_end (q_then (⟨(os ++ [(⟨(⟨w1.request.fn,w1.request.at_,w1.request.count,w1.request.wAt,w1.request.sub,w1.request.bits,w1.request.vals,w1.request.and_,w1.request.or_⟩ : TRequest),true⟩ : TPart)]),(dn + e4.count),(i + 1), ?_, ?_,⟨[(0,5),(1,1)],by rw [hk]; decide,⟨⟨_,rfl,rfl,rfl⟩,⟨_,rfl,rfl,rfl⟩,⟨_,rfl,rfl,rfl⟩,⟨_,rfl,rfl,rfl⟩,⟨_,rfl,rfl,rfl⟩,⟨_,rfl,rfl,rfl⟩,⟨_,rfl,rfl,rfl⟩,trivial⟩,⟨⟨_,_,rfl,rfl,rfl,rfl⟩,⟨_,_,rfl,rfl,rfl,rfl⟩,trivial⟩,by rw [hk]; decide⟩⟩)))
    ·refine ⟨by omega, ?_,sum_snoc he4 hdn⟩
     rw [hos,List.take_add_one,he4,List.map_append]
     exact congrArg (fun z => ((pW t.windows q).take i).map (wPart q) ++ [z]) (by rw [hw1]; exact wPart_eta q e4)
    · omega
   try simp only [sB] at c5
   refine w_exit (q_then_exit (q_then_exit (q_block_exit (q_then (w_seq ?_)))))
   refine w_R (qo hnt rfl (s_fa_ptr tab_37 rfl rfl tab_3 (by decide) rfl ?_))
   refine qo hnt rfl (s_load_ptr1 tab_3 rfl rfl rfl rfl rfl ?_)
   refine qa hnt rfl rfl (r_end (q_then (join1 (fun (fv : Int) => fv = (if q.fn = 23 then 3 else q.fn)) (fun (fv : Int) => [(7,pS 3 false ePiece (pR t.windows q)),(10,PV.ref 0 0 none),(17,pI fv)]) 1 (fun (fv : Int) => [(0,oB true 10 ePart os)]) ?_ ?_)))
   ·refine w_seq (w_R (qm hnt rfl rfl (qo hnt rfl (s_eql rfl rfl ?_))))
    refine r_end (q_then (w_if rfl (fun c7 => ?_) (fun c7 => ?_)))
    ·try simp only [sB] at c7
     refine w_R (qa hnt rfl rfl (r_end (q_then (⟨(3), ?_,⟨[(0,0)],by rw [hk]; decide,⟨⟨_,rfl,rfl,rfl⟩,⟨_,rfl,rfl,rfl⟩,⟨_,rfl,rfl,rfl⟩,trivial⟩,⟨⟨_,_,rfl,rfl,rfl,rfl⟩,trivial⟩,by rw [hk]; decide⟩⟩))))
     exact (if_pos (by omega)).symm
    try simp only [sB] at c7
    refine w_skip (q_then (⟨(q.fn), ?_,⟨[(0,0)],by rw [hk]; decide,⟨⟨_,rfl,rfl,rfl⟩,⟨_,rfl,rfl,rfl⟩,⟨_,rfl,rfl,rfl⟩,trivial⟩,⟨⟨_,_,rfl,rfl,rfl,rfl⟩,trivial⟩,by rw [hk]; decide⟩⟩))
    exact (if_neg (by omega)).symm
   intro fv hfv
   refine w_seq (w_seq (w_R (qm hnt rfl rfl (qo hnt rfl (s_lenM (l := pR t.windows q) tab_100 rfl (hM_sl (f := ePiece) rfl) ?_)))))
   refine qm hnt rfl rfl (r_end (q_then (w_block (loop2 (fun (os5 : List TPart) (j : Nat) => j ≤ (pR t.windows q).length ∧ os5 = (pW t.windows q).map (wPart q) ++ ((pR t.windows q).take j).map (rPart (if q.fn = 23 then 3 else q.fn))) (fun (os5 : List TPart) (j : Nat) => [(10,PV.ref 0 0 none),(17,pI fv),(121,pS 3 false ePiece (pR t.windows q)),(122,pN ((pR t.windows q).length)),(123,pN j)]) 1 (fun (os5 : List TPart) (j : Nat) => [(0,oB true 10 ePart os5)]) (fun (os5 : List TPart) (j : Nat) => (pR t.windows q).length - j) (os) (0) ?_ ⟨[(0,0)],by rw [hk]; decide,⟨⟨_,rfl,rfl,rfl⟩,⟨_,rfl,rfl,rfl⟩,⟨_,rfl,rfl,rfl⟩,⟨_,rfl,rfl,rfl⟩,⟨_,rfl,rfl,rfl⟩,trivial⟩,⟨⟨_,_,rfl,rfl,rfl,rfl⟩,trivial⟩,by rw [hk]; decide⟩ ?_))))
   · exact ⟨by omega,by rw [hos,show i = (pW t.windows q).length by omega,List.take_length]; simp⟩
   ·intro os5 j hJ
    obtain ⟨hj,ho5⟩ := hJ
    have hol5 : os5.length ≤ 6 := by rw [ho5]; simp; omega
    refine w_seq (w_R (qo hnt rfl (s_lss rfl rfl ?_)))
    refine r_end (q_then (w_seq (w_if rfl (fun c8 => ?_) (fun c8 => ?_))))
    ·try simp only [sB] at c8
     refine w_skip (q_then (w_seq (w_block (w_seq (w_R ?_)))))
     obtain ⟨e5,he5⟩ := get_of_lt (pR t.windows q) (i := j) (by omega)
     refine qo hnt rfl (s_iaM (q := j) (b := e5) (f := ePiece) tab_100 rfl tab_103 rfl rfl (by omega) rfl he5 ?_)
     refine qo hnt rfl (s_load_ro tab_103 rfl rfl rfl ?_)
     refine qo hnt rfl (s_alloc tab_103 ?_)
     refine qo hnt rfl (s_store_ptr tab_103 rfl rfl rfl rfl rfl (Nat.le_of_ble_eq_true rfl) ?_)
     refine r_set [(10,PV.ref 0 0 none),(17,pI fv),(19,PV.ptr 1 0),(121,pS 3 false ePiece (pR t.windows q)),(122,pN ((pR t.windows q).length)),(123,pN j)] [(1,.obj (cPiece e5)),(0,oB true 10 ePart os5)] 2 ⟨rfl,rfl,rfl,rfl,rfl,rfl,trivial⟩ rfl rfl (r_end (q_then (w_R (qm hnt rfl rfl (qm hnt rfl rfl ?_)))))
     refine qo hnt rfl (s_fa_ptr tab_103 rfl rfl tab_3 (by decide) rfl ?_)
     refine qo hnt rfl (s_load_ptr1 tab_3 rfl rfl rfl rfl rfl ?_)
     refine qo hnt rfl (s_fa_ptr tab_103 rfl rfl tab_3 (by decide) rfl ?_)
     refine qo hnt rfl (s_load_ptr1 tab_3 rfl rfl rfl rfl rfl ?_)
     refine qo hnt rfl (s_build tab_37 rfl rfl (b_cons rfl tab_3 rfl rfl rfl (Nat.le_of_ble_eq_true rfl) (b_cons rfl tab_3 rfl rfl rfl (Nat.le_of_ble_eq_true rfl) (b_cons rfl tab_3 rfl rfl rfl (Nat.le_of_ble_eq_true rfl) (b_nil ?_)))))
     refine qo hnt rfl (s_build tab_77 rfl rfl (b_cons rfl tab_37 rfl rfl rfl (Nat.le_of_ble_eq_true rfl) (b_cons rfl tab_4 rfl rfl rfl (Nat.le_of_ble_eq_true rfl) (b_nil ?_))))
     refine r_le (s := 134) (y := PV.f (ePart (⟨(⟨fv,e5.physical,e5.count,0,0,[],[],0,0⟩ : TRequest),false⟩ : TPart))) rfl (le_F (FLe.agg ⟨FLe.refl _,FLe.refl _,FLe.refl _,FLe.refl _,FLe.refl _,FLe.nil 1 false,FLe.nil 1 false,FLe.refl _,FLe.refl _,FLe.refl _,trivial⟩)) (qo hnt rfl (s_mkM (f := ePart) [(⟨(⟨fv,e5.physical,e5.count,0,0,[],[],0,0⟩ : TRequest),false⟩ : TPart)] tab_74 rfl tab_77 ⟨rfl,by decide⟩ (by decide) rfl rfl rfl rfl ?_))
     refine qo hnt rfl (s_appR0 (f := ePart) (l := os5) (xs := [(⟨(⟨fv,e5.physical,e5.count,0,0,[],[],0,0⟩ : TRequest),false⟩ : TPart)]) tab_74 rfl tab_77 ⟨rfl,by decide,by decide⟩ (srcM tab_74 rfl (hM_ref0 (f := ePart) rfl rfl)) rfl rfl (by (simp; omega)) ?_)
     refine qa hnt rfl rfl (r_set [(10,PV.ref 3 0 none),(17,pI fv),(121,pS 3 false ePiece (pR t.windows q)),(122,pN ((pR t.windows q).length)),(123,pN j)] [(3,oB true 10 ePart (os5 ++ ([(⟨(⟨fv,e5.physical,e5.count,0,0,[],[],0,0⟩ : TRequest),false⟩ : TPart)]))),(2,oB true 10 ePart ([(⟨(⟨fv,e5.physical,e5.count,0,0,[],[],0,0⟩ : TRequest),false⟩ : TPart)])),(1,.obj (cPiece e5))] 4 ⟨rfl,rfl,rfl,rfl,rfl,trivial⟩ rfl rfl (r_end (q_block (q_then (w_R ?_)))))
     refine qo hnt rfl (s_addN (a := j) (b := 1) rfl rfl (by omega) (by omega) (by omega) ?_)
     refine qm hnt rfl rfl (r_end (q_then (⟨(os5 ++ ([(⟨(⟨fv,e5.physical,e5.count,0,0,[],[],0,0⟩ : TRequest),false⟩ : TPart)])),(j + 1), ?_, ?_,⟨[(0,3)],by rw [hk]; decide,⟨⟨_,rfl,rfl,rfl⟩,⟨_,rfl,rfl,rfl⟩,⟨_,rfl,rfl,rfl⟩,⟨_,rfl,rfl,rfl⟩,⟨_,rfl,rfl,rfl⟩,trivial⟩,⟨⟨_,_,rfl,rfl,rfl,rfl⟩,trivial⟩,by rw [hk]; decide⟩⟩)))
     ·refine ⟨by omega, ?_⟩
      rw [ho5,List.take_add_one,he5,List.map_append,← List.append_assoc]
      rw [hfv]; rfl
     · omega
    try simp only [sB] at c8
    refine w_exit (q_then_exit (q_then_exit (q_block_exit (q_then (w_seq ?_)))))
    refine w_R (qm hnt rfl rfl (qa hnt rfl rfl (qa hnt rfl rfl (r_end (q_then ?_)))))
    refine w_frzM (s := 4) (f := ePart) rfl rfl view_0 (w_le (s := 4) (y := pS 10 false ePart S.1) rfl (le_of_eq (congrArg (fun z => pS 10 false ePart z) (show os5 = S.1 by (rw [hS]; exact (show os5 = partsP t.windows q by rw [ho5,show j = (pR t.windows q).length by omega,List.take_length,parts_no (by omega)]))))) (w_le (s := 5) (y := pI S.2) rfl (le_of_eq (congrArg pI (show 0 = S.2 by (rw [hS]; done)))) (w_ret ?_)))
    exact fin_plain (ret_tmp rfl (ret_tmp rfl ret_nil)) rfl rfl ⟨rfl,rfl,rfl⟩
end Go.Proofs.Ytlcmbkkimgdnmaa
set_option linter.unusedVariables false
set_option linter.unusedSimpArgs false
set_option maxRecDepth 10000
set_option maxHeartbeats 1000000
namespace Go.Proofs.Ytlcmbkkimgdnmaa
open Go Go.Proofs.Ytlcmbkkimgdnmaa.Pv
theorem w_burgagekeep_Functions   :
    T Try.prog 30 [] 0 [] (Ret (PV.ref 0 0 none) 1 [(0,oB true 1 encI fnsL)]) := by
 refine t_fun tabOk (n := 2) (rs := [.tmp 0]) Try.func30 rfl rfl rfl rfl (Nat.le_of_ble_eq_true rfl) ?_
 intro c hnt hk
 refine w_seq (w_R (qa hnt rfl rfl (r_end (q_then (w_seq ?_)))))
 refine w_R (qo hnt rfl (s_mkM (f := encI) ([1,2,3,4,5,6,8,15,16,17,22,23] : List Int) tab_28 rfl tab_3 ⟨rfl,by decide⟩ (by decide) rfl rfl rfl rfl ?_))
 refine qa hnt rfl rfl (r_set [(0,PV.ref 0 0 none)] [(0,oB true 1 encI ([1,2,3,4,5,6,8,15,16,17,22,23] : List Int))] 1 ⟨rfl,trivial⟩ rfl rfl (r_end (q_then (w_H (H' := [(0,oB true 1 encI fnsL)]) (congrArg (fun z => ([(0,oB true 1 encI z)] : Heap)) (show ([1,2,3,4,5,6,8,15,16,17,22,23] : List Int) = fnsL by rfl)) (w_ret ?_)))))
 exact fin_names (nx1 := 1) (H1 := [(0,oB true 1 encI fnsL)]) [(0,0)] (ret_tmp rfl ret_nil) rfl (by decide) ⟨⟨_,_,rfl,rfl,rfl,rfl⟩,trivial⟩ (by decide) rfl ⟨rfl,rfl,rfl⟩
theorem w_burgagekeep_Tape_Next (L : List Int) (cl_L : Bool) (a : Nat) (n : Int) (hL : L.length ≤ 70000000000000) (hn : -9223372036854775808 ≤ n ∧ n ≤ 9223372036854775807) :
    T Try.prog 31 [PV.ptr 0 0,pI n] 1 [(0,.obj [pS 1 cl_L encI L,pN a])] (Ret (pI (tNext L a n)) 1 [(0,.obj [pS 1 false encI L,pN (tStep L a n)])]) := by
 refine t_fun tabOk (n := 40) (rs := [.tmp 4]) Try.func31 rfl rfl rfl rfl (Nat.le_of_ble_eq_true rfl) ?_
 intro c hnt hk
 refine w_seq (w_R (qa hnt rfl rfl (r_end (q_then (w_seq ?_)))))
 refine w_seq (W_drawn tabOk mixed hnt [[],[0],[0,1],[0,1,2],[],[4],[4,5],[4,5,6],[4,5,6,7],(.range 9),(.range 10),(.range 11),(.range 12),(.range 13)] (by kernel_rfl) (d_op (x_run0 [(0,PV.ptr 0 0)] [] rfl rfl rfl rfl (s_move rfl ⟨rfl,rfl,rfl⟩) (d_op (x_run0 [(5,PV.ptr 0 0)] [0] rfl rfl rfl rfl (s_nilCheck rfl trivial ⟨rfl,rfl,rfl⟩) ?_)))))
 refine d_op (x_run0 [(6,PV.ptr 0 0)] [0,1] rfl rfl rfl rfl (s_fa_ptr tab_32 rfl rfl tab_3 (by decide) rfl ⟨rfl,rfl,rfl⟩) (d_op (xL [(7,PV.ptr 0 1)] [0,1,2] [(0,.obj [pS 1 cl_L encI L,pN a])] rfl rfl rfl rfl rfl (s_load_ptr1 tab_3 rfl rfl rfl rfl rfl ⟨rfl,rfl,rfl⟩) ⟨rfl,trivial⟩ rfl (d_op (x_run0 [(0,PV.ptr 0 0)] [] rfl rfl rfl rfl (s_move rfl ⟨rfl,rfl,rfl⟩) ?_)))))
 refine d_op (x_run0 [(9,PV.ptr 0 0)] [4] rfl rfl rfl rfl (s_nilCheck rfl trivial ⟨rfl,rfl,rfl⟩) (d_op (x_run0 [(10,PV.ptr 0 0)] [4,5] rfl rfl rfl rfl (s_fa_ptr tab_32 rfl rfl tab_28 (by decide) rfl ⟨rfl,rfl,rfl⟩) (d_op (xL [(11,PV.ptr 0 0)] [4,5,6] [(0,.obj [pS 1 cl_L encI L,pN a])] rfl rfl rfl rfl rfl (s_load_ptr1 tab_28 rfl rfl rfl rfl rfl ⟨rfl,rfl,rfl⟩) ⟨rfl,trivial⟩ rfl ?_)))))
 refine d_op (x_run0 [(12,pS 1 cl_L encI L)] [4,5,6,7] rfl rfl rfl rfl (s_lenM (l := L) tab_28 rfl (hM_sl (f := encI) rfl) ⟨rfl,rfl,rfl⟩) (d_op (x_run0 [(8,pN a),(13,pN L.length)] (.range 9) rfl rfl rfl rfl (s_geq rfl rfl ⟨rfl,rfl,rfl⟩) (d_op (x_run0 [(14,pB (decide (((L.length : Nat) : Int) ≤ ((a : Nat) : Int))))] (.range 10) rfl rfl rfl rfl (s_move rfl ⟨rfl,rfl,rfl⟩) ?_)))))
 refine x_if [(15,pB (decide (((L.length : Nat) : Int) ≤ ((a : Nat) : Int)))),(1,pI n)] (.range 11) rfl rfl rfl rfl (fun g1 => ?_) (fun g1 => ?_)
 ·have g1' := g1
  try simp only [sB] at g1'
  refine x_run0 [(15,pB (decide (((L.length : Nat) : Int) ≤ ((a : Nat) : Int)))),(1,pI n)] (.range 11) rfl rfl rfl rfl (s_move rfl ⟨rfl,rfl,rfl⟩) (xy [(15,pB (decide (((L.length : Nat) : Int) ≤ ((a : Nat) : Int)))),(16,pI n)] (.range 12) rfl rfl rfl rfl g1 (x_run0 [(15,pB (decide (((L.length : Nat) : Int) ≤ ((a : Nat) : Int)))),(16,pI n)] (.range 12) rfl rfl rfl rfl (s_lss rfl rfl ⟨rfl,rfl,rfl⟩) (d_op (x_run0 [(15,pB (decide (((L.length : Nat) : Int) ≤ ((a : Nat) : Int)))),(17,pB (decide (n < 1)))] (.range 13) rfl rfl rfl rfl (s_pick_f rfl g1 rfl ⟨rfl,rfl,rfl⟩) (d_end ⟨by kernel_rfl, ?_⟩)))))
  refine q_then (w_if rfl (fun c1 => ?_) (fun c1 => ?_))
  ·try simp only [sB] at c1
   refine w_seq (w_R (qa hnt rfl rfl (r_end (q_then (w_le (s := 4) (y := pI (tNext L a n)) rfl (le_of_eq (congrArg pI (show 0 = (tNext L a n) by (unfold tNext; rw [if_pos (by omega)]; done)))) ?_)))))
   have hz1 : a = (tStep L a n) := by ((unfold tStep; rw [if_pos (by omega)]; done))
   refine w_leO (n := 0) (ds := [pS 1 false encI L,pN (tStep L a n)]) rfl ⟨le_loose,le_of_eq (congrArg (fun z : Nat => pN z) hz1),trivial⟩ (w_ret (q_then_ret ?_))
   exact fin_names (nx1 := 1) (H1 := [(0,.obj [pS 1 false encI L,pN (tStep L a n)])]) [(0,0)] (ret_tmp rfl ret_nil) rfl (by decide) ⟨⟨_,_,rfl,rfl,rfl,rfl⟩,trivial⟩ (by decide) rfl ⟨rfl,rfl,rfl⟩
  try simp only [sB] at c1
  refine w_skip (q_then (w_seq (w_R (qm hnt rfl rfl (qo hnt rfl (s_nilCheck rfl trivial ?_))))))
  refine qo hnt rfl (s_fa_ptr tab_32 rfl rfl tab_3 (by decide) rfl ?_)
  refine qo hnt rfl (s_load_ptr1 tab_3 rfl rfl rfl rfl rfl ?_)
  refine qo hnt rfl (s_addN (a := a) (b := 1) rfl rfl (by omega) (by omega) (by omega) ?_)
  refine qo hnt rfl (s_nilCheck rfl trivial ?_)
  refine qo hnt rfl (s_fa_ptr tab_32 rfl rfl tab_3 (by decide) rfl ?_)
  refine qo hnt rfl (s_store_ptr tab_3 rfl rfl rfl rfl rfl (Nat.le_of_ble_eq_true rfl) ?_)
  refine r_set [(0,PV.ptr 0 0),(1,pI n)] [(0,.obj [pS 1 cl_L encI L,pN (a + 1)])] 1 ⟨rfl,rfl,trivial⟩ rfl rfl (r_end (q_then (w_seq (W_drawn tabOk mixed hnt [[],[0],[0,1],[0,1,2],[],[4],[4,5],[4,5,6],[4,5,6,7],(.range 9),(.range 10),(.range 11),[],(.range 13),(.range 14)] (by kernel_rfl) (d_op ?_)))))
  refine x_run0 [(0,PV.ptr 0 0)] [] rfl rfl rfl rfl (s_move rfl ⟨rfl,rfl,rfl⟩) (d_op (x_run0 [(26,PV.ptr 0 0)] [0] rfl rfl rfl rfl (s_nilCheck rfl trivial ⟨rfl,rfl,rfl⟩) (d_op (x_run0 [(27,PV.ptr 0 0)] [0,1] rfl rfl rfl rfl (s_fa_ptr tab_32 rfl rfl tab_28 (by decide) rfl ⟨rfl,rfl,rfl⟩) (d_op ?_)))))
  refine xL [(28,PV.ptr 0 0)] [0,1,2] [(0,.obj [pS 1 cl_L encI L,pN (a + 1)])] rfl rfl rfl rfl rfl (s_load_ptr1 tab_28 rfl rfl rfl rfl rfl ⟨rfl,rfl,rfl⟩) ⟨rfl,trivial⟩ rfl (d_op (x_run0 [(0,PV.ptr 0 0)] [] rfl rfl rfl rfl (s_move rfl ⟨rfl,rfl,rfl⟩) (d_op (x_run0 [(30,PV.ptr 0 0)] [4] rfl rfl rfl rfl (s_nilCheck rfl trivial ⟨rfl,rfl,rfl⟩) (d_op ?_)))))
  refine x_run0 [(31,PV.ptr 0 0)] [4,5] rfl rfl rfl rfl (s_fa_ptr tab_32 rfl rfl tab_3 (by decide) rfl ⟨rfl,rfl,rfl⟩) (d_op (xL [(32,PV.ptr 0 1)] [4,5,6] [(0,.obj [pS 1 cl_L encI L,pN (a + 1)])] rfl rfl rfl rfl rfl (s_load_ptr1 tab_3 rfl rfl rfl rfl rfl ⟨rfl,rfl,rfl⟩) ⟨rfl,trivial⟩ rfl (d_op (x_run0 [(33,pN (a + 1))] [4,5,6,7] rfl rfl rfl rfl (s_subN (a := a + 1) (b := 1) rfl rfl (by omega) (by omega) (by omega) ⟨rfl,rfl,rfl⟩) (d_op ?_)))))
  obtain ⟨e1,he1⟩ := get_of_lt L (i := a + 1 - 1) (by omega)
  refine x_run0 [(29,pS 1 cl_L encI L),(34,pN (a + 1 - 1))] (.range 9) rfl rfl rfl rfl (s_iaM (q := a + 1 - 1) (b := e1) (f := encI) tab_28 rfl tab_3 rfl rfl (by omega) rfl he1 ⟨rfl,rfl,rfl⟩) (d_op (x_run0 [(35,PV.f (.ro (encI e1)))] (.range 10) rfl rfl rfl rfl (s_load_ro1 tab_3 rfl rfl rfl rfl ⟨rfl,rfl,rfl⟩) (d_op (x_run0 [(36,pI e1)] (.range 11) rfl rfl rfl rfl (s_callF rfl rfl rfl (w_burgagebook_Within e1 0 1073741824 (by omega)) rfl ⟨rfl,rfl,rfl⟩) (d_op ?_)))))
  refine x_run0 [(1,pI n)] [] rfl rfl rfl rfl (s_move rfl ⟨rfl,rfl,rfl⟩) (d_op (x_run0 [(37,pI (within e1 0 1073741824)),(38,pI n)] (.range 13) rfl rfl rfl rfl (s_rem rfl rfl (by omega) ⟨rfl,rfl,rfl⟩) (d_op (x_run0 [(39,pI (Int.tmod (within e1 0 1073741824) n))] (.range 14) rfl rfl rfl rfl (s_assign rfl ⟨rfl,rfl,rfl⟩) (d_end ⟨by kernel_rfl, ?_⟩)))))
  refine q_then (w_le (s := 4) (y := pI (tNext L a n)) rfl (le_of_eq (congrArg pI (show (Int.tmod (within e1 0 1073741824) n) = (tNext L a n) by (unfold tNext; rw [if_neg (by omega),List.getD_eq_getElem?_getD,show L[a]? = some e1 from he1]; rfl)))) ?_)
  have hz2 : (a + 1) = (tStep L a n) := by ((unfold tStep; rw [if_neg (by omega)]; done))
  refine w_leO (n := 0) (ds := [pS 1 false encI L,pN (tStep L a n)]) rfl ⟨le_loose,le_of_eq (congrArg (fun z : Nat => pN z) hz2),trivial⟩ (w_ret ?_)
  exact fin_names (nx1 := 1) (H1 := [(0,.obj [pS 1 false encI L,pN (tStep L a n)])]) [(0,0)] (ret_tmp rfl ret_nil) rfl (by decide) ⟨⟨_,_,rfl,rfl,rfl,rfl⟩,trivial⟩ (by decide) rfl ⟨rfl,rfl,rfl⟩
 have g1' := g1
 try simp only [sB] at g1'
 refine xn [(15,pB (decide (((L.length : Nat) : Int) ≤ ((a : Nat) : Int)))),(16,undefP)] (.range 12) rfl rfl rfl rfl g1 (d_op (x_run0 [(15,pB (decide (((L.length : Nat) : Int) ≤ ((a : Nat) : Int)))),(17,undefP)] (.range 13) rfl rfl rfl rfl (s_pick_t rfl g1 rfl ⟨rfl,rfl,rfl⟩) (d_end ⟨by kernel_rfl, ?_⟩)))
 refine q_then (w_if rfl (fun _ => ?_) (fun e => absurd e (by decide)))
 refine w_seq (w_R (qa hnt rfl rfl (r_end (q_then (w_le (s := 4) (y := pI (tNext L a n)) rfl (le_of_eq (congrArg pI (show 0 = (tNext L a n) by (unfold tNext; rw [if_pos (by omega)]; done)))) ?_)))))
 have hz3 : a = (tStep L a n) := by ((unfold tStep; rw [if_pos (by omega)]; done))
 refine w_leO (n := 0) (ds := [pS 1 false encI L,pN (tStep L a n)]) rfl ⟨le_loose,le_of_eq (congrArg (fun z : Nat => pN z) hz3),trivial⟩ (w_ret (q_then_ret ?_))
 exact fin_names (nx1 := 1) (H1 := [(0,.obj [pS 1 false encI L,pN (tStep L a n)])]) [(0,0)] (ret_tmp rfl ret_nil) rfl (by decide) ⟨⟨_,_,rfl,rfl,rfl,rfl⟩,trivial⟩ (by decide) rfl ⟨rfl,rfl,rfl⟩
theorem w_burgagekeep_Tape_Request (L : List Int) (cl_L : Bool) (a : Nat) (hL : L.length ≤ 70000000000000) :
    T Try.prog 13 [PV.ptr 0 0] 1 [(0,.obj [pS 1 cl_L encI L,pN a])] (fun ra rb rc => ∃ q : TRequest,∃ b : Nat,(rightR q = 0 ∧ q.bits.length ≤ 25 ∧ q.vals.length ≤ 25 ∧ 0 ≤ q.count ∧ q.count ≤ 25) ∧ (Ret (PV.f (eRequest q)) 1 [(0,.obj [pS 1 false encI L,pN b])]) ra rb rc) := by
 refine t_fun tabOk (n := 140) (rs := [.cell 2 37]) Try.func13 rfl rfl rfl rfl (Nat.le_of_ble_eq_true rfl) ?_
 intro c hnt hk
 refine w_seq (w_R (qo hnt rfl (s_alloc tab_37 ?_)))
 refine r_set [(0,PV.ptr 0 0),(2,PV.ptr 1 0)] [(1,.obj [pI 0,pI 0,pI 0,pI 0,pI 0,pNil,pNil,p16 0,p16 0]),(0,.obj [pS 1 cl_L encI L,pN a])] 2 ⟨rfl,rfl,trivial⟩ rfl rfl (r_end (q_then (w_seq (w_R (qo hnt rfl (s_callX (r2 := PV.ref 2 0 none) (nx1 := 3) (H2 := [(1,.obj [pI 0,pI 0,pI 0,pI 0,pI 0,pNil,pNil,p16 0,p16 0]),(0,.obj [pS 1 cl_L encI L,pN a])]) (H3 := [(2,oB true 1 encI fnsL),(1,.obj [pI 0,pI 0,pI 0,pI 0,pI 0,pNil,pNil,p16 0,p16 0]),(0,.obj [pS 1 cl_L encI L,pN a])]) [] [] rfl rfl rfl (handed_of (by decide) trivial) rfl rfl rfl rfl rfl rfl (w_burgagekeep_Functions) rfl (dist_of rfl) rfl rfl rfl rfl ?_))))))
 refine qm hnt rfl rfl (qo hnt rfl (s_callX (r2 := pI (tNext L a 12)) (nx1 := 3) (H2 := [(2,oB true 1 encI fnsL),(1,.obj [pI 0,pI 0,pI 0,pI 0,pI 0,pNil,pNil,p16 0,p16 0]),(0,.obj [pS 1 cl_L encI L,pN a])]) (H3 := [(0,.obj [pS 1 false encI L,pN (tStep L a 12)]),(2,oB true 1 encI fnsL),(1,.obj [pI 0,pI 0,pI 0,pI 0,pI 0,pNil,pNil,p16 0,p16 0])]) [0] [.obj [pS 1 cl_L encI L,pN a]] rfl rfl rfl (handed_of (by decide) ⟨rfl,trivial⟩) rfl rfl rfl rfl rfl rfl (w_burgagekeep_Tape_Next L cl_L a 12 (by omega) (by omega)) rfl (dist_of rfl) rfl rfl rfl rfl ?_))
 have h12 := tNext_lt L a (n := 12) (by decide)
 have hfl : fnsL.length = 12 := rfl
 refine qo hnt rfl (s_iaR0 (q := Int.toNat (tNext L a 12)) (f := encI) (l := fnsL) tab_28 rfl tab_3 rfl rfl (by omega) rfl rfl (by omega) ?_)
 obtain ⟨e1,he1⟩ := get_of_lt fnsL (i := Int.toNat (tNext L a 12)) (by omega)
 refine qo hnt rfl (s_ldM (b := e1) (f := encI) tab_3 rfl rfl rfl rfl he1 rfl ?_)
 refine qo hnt rfl (s_build tab_37 rfl rfl (b_cons rfl tab_3 rfl rfl rfl (Nat.le_of_ble_eq_true rfl) (b_nil ?_)))
 refine qo hnt rfl (s_alloc tab_37 ?_)
 refine qo hnt rfl (s_store_ptr tab_37 rfl rfl rfl rfl rfl (Nat.le_of_ble_eq_true rfl) ?_)
 refine r_set [(0,PV.ptr 0 0),(2,PV.ptr 1 0),(3,PV.ptr 3 0)] [(3,.obj [pI e1,pI 0,pI 0,pI 0,pI 0,pNil,pNil,p16 0,p16 0]),(0,.obj [pS 1 false encI L,pN (tStep L a 12)]),(2,oB true 1 encI fnsL),(1,.obj [pI 0,pI 0,pI 0,pI 0,pI 0,pNil,pNil,p16 0,p16 0])] 4 ⟨rfl,rfl,rfl,trivial⟩ rfl rfl (r_end (q_then (w_seq ?_)))
 have hfn := fns_has he1
 have h70 := tNext_lt L (tStep L a 12) (n := 70) (by decide)
 refine w_R (qm hnt rfl rfl (qo hnt rfl (s_callX (r2 := pI (tNext L (tStep L a 12) 70)) (nx1 := 4) (H2 := [(3,.obj [pI e1,pI 0,pI 0,pI 0,pI 0,pNil,pNil,p16 0,p16 0]),(0,.obj [pS 1 false encI L,pN (tStep L a 12)]),(2,oB true 1 encI fnsL),(1,.obj [pI 0,pI 0,pI 0,pI 0,pI 0,pNil,pNil,p16 0,p16 0])]) (H3 := [(0,.obj [pS 1 false encI L,pN (tStep L (tStep L a 12) 70)]),(3,.obj [pI e1,pI 0,pI 0,pI 0,pI 0,pNil,pNil,p16 0,p16 0]),(2,oB true 1 encI fnsL),(1,.obj [pI 0,pI 0,pI 0,pI 0,pI 0,pNil,pNil,p16 0,p16 0])]) [0] [.obj [pS 1 false encI L,pN (tStep L a 12)]] rfl rfl rfl (handed_of (by decide) ⟨rfl,trivial⟩) rfl rfl rfl rfl rfl rfl (w_burgagekeep_Tape_Next L false (tStep L a 12) 70 (by omega) (by omega)) rfl (dist_of rfl) rfl rfl rfl rfl ?_)))
 refine qa hnt rfl rfl (r_set [(0,PV.ptr 0 0),(2,PV.ptr 1 0),(3,PV.ptr 3 0),(4,pI (tNext L (tStep L a 12) 70))] [(0,.obj [pS 1 false encI L,pN (tStep L (tStep L a 12) 70)]),(3,.obj [pI e1,pI 0,pI 0,pI 0,pI 0,pNil,pNil,p16 0,p16 0]),(2,oB true 1 encI fnsL),(1,.obj [pI 0,pI 0,pI 0,pI 0,pI 0,pNil,pNil,p16 0,p16 0])] 4 ⟨rfl,rfl,rfl,rfl,trivial⟩ rfl rfl (r_end (q_then (w_seq (w_seq ?_)))))
 refine w_R (qo hnt rfl (s_fa_ptr tab_37 rfl rfl tab_3 (by decide) rfl ?_))
 refine qo hnt rfl (s_load_ptr1 tab_3 rfl rfl rfl rfl rfl ?_)
 refine r_end (q_then (w_block (join1 (fun (bb1 : Bool) => bb1 = ((decide (e1 = 1)) || ((decide (e1 = 2)) || ((decide (e1 = 3)) || (decide (e1 = 4)))))) (fun (bb1 : Bool) => [(0,PV.ptr 0 0),(2,PV.ptr 1 0),(3,PV.ptr 2 0),(4,pI (tNext L (tStep L a 12) 70)),(17,pI e1),(18,pB bb1)]) 3 (fun (bb1 : Bool) => [(0,.obj [pS 1 false encI L,pN (tStep L (tStep L a 12) 70)]),(1,.obj [pI 0,pI 0,pI 0,pI 0,pI 0,pNil,pNil,p16 0,p16 0]),(2,.obj [pI e1,pI 0,pI 0,pI 0,pI 0,pNil,pNil,p16 0,p16 0])]) ?_ ?_)))
 ·refine w_seq (w_R (qo hnt rfl (s_eql rfl rfl ?_)))
  refine qa hnt rfl rfl (r_end (q_then (w_if rfl (fun c1 => ?_) (fun c1 => ?_))))
  ·have c1_ := c1
   try simp only [sB] at c1
   refine w_skip (q_then (⟨(decide (e1 = 1)), ?_,⟨[(0,0),(1,1),(2,3)],by rw [hk]; decide,⟨⟨_,rfl,rfl,rfl⟩,⟨_,rfl,rfl,rfl⟩,⟨_,rfl,rfl,rfl⟩,⟨_,rfl,rfl,rfl⟩,⟨_,rfl,rfl,rfl⟩,⟨_,rfl,rfl,rfl⟩,trivial⟩,⟨⟨_,_,rfl,rfl,rfl,rfl⟩,⟨_,_,rfl,rfl,rfl,rfl⟩,⟨_,_,rfl,rfl,rfl,rfl⟩,trivial⟩,by rw [hk]; decide⟩⟩))
   simp only [c1_,Bool.true_or,Bool.false_or]
  have c1_ := c1
  try simp only [sB] at c1
  refine w_seq (w_R (qo hnt rfl (s_eql rfl rfl ?_)))
  refine qa hnt rfl rfl (r_end (q_then (w_if rfl (fun c2 => ?_) (fun c2 => ?_))))
  ·have c2_ := c2
   try simp only [sB] at c2
   refine w_skip (q_then (⟨(decide (e1 = 2)), ?_,⟨[(0,0),(1,1),(2,3)],by rw [hk]; decide,⟨⟨_,rfl,rfl,rfl⟩,⟨_,rfl,rfl,rfl⟩,⟨_,rfl,rfl,rfl⟩,⟨_,rfl,rfl,rfl⟩,⟨_,rfl,rfl,rfl⟩,⟨_,rfl,rfl,rfl⟩,trivial⟩,⟨⟨_,_,rfl,rfl,rfl,rfl⟩,⟨_,_,rfl,rfl,rfl,rfl⟩,⟨_,_,rfl,rfl,rfl,rfl⟩,trivial⟩,by rw [hk]; decide⟩⟩))
   simp only [c1_,c2_,Bool.true_or,Bool.false_or]
  have c2_ := c2
  try simp only [sB] at c2
  refine w_seq (w_R (qo hnt rfl (s_eql rfl rfl ?_)))
  refine qa hnt rfl rfl (r_end (q_then (w_if rfl (fun c3 => ?_) (fun c3 => ?_))))
  ·have c3_ := c3
   try simp only [sB] at c3
   refine w_skip (q_then (⟨(decide (e1 = 3)), ?_,⟨[(0,0),(1,1),(2,3)],by rw [hk]; decide,⟨⟨_,rfl,rfl,rfl⟩,⟨_,rfl,rfl,rfl⟩,⟨_,rfl,rfl,rfl⟩,⟨_,rfl,rfl,rfl⟩,⟨_,rfl,rfl,rfl⟩,⟨_,rfl,rfl,rfl⟩,trivial⟩,⟨⟨_,_,rfl,rfl,rfl,rfl⟩,⟨_,_,rfl,rfl,rfl,rfl⟩,⟨_,_,rfl,rfl,rfl,rfl⟩,trivial⟩,by rw [hk]; decide⟩⟩))
   simp only [c1_,c2_,c3_,Bool.true_or,Bool.false_or]
  have c3_ := c3
  try simp only [sB] at c3
  refine w_R (qo hnt rfl (s_eql rfl rfl ?_))
  refine qa hnt rfl rfl (r_end (q_then (⟨(decide (e1 = 4)), ?_,⟨[(0,0),(1,1),(2,3)],by rw [hk]; decide,⟨⟨_,rfl,rfl,rfl⟩,⟨_,rfl,rfl,rfl⟩,⟨_,rfl,rfl,rfl⟩,⟨_,rfl,rfl,rfl⟩,⟨_,rfl,rfl,rfl⟩,⟨_,rfl,rfl,rfl⟩,trivial⟩,⟨⟨_,_,rfl,rfl,rfl,rfl⟩,⟨_,_,rfl,rfl,rfl,rfl⟩,⟨_,_,rfl,rfl,rfl,rfl⟩,trivial⟩,by rw [hk]; decide⟩⟩)))
  simp only [c1_,c2_,c3_,Bool.true_or,Bool.false_or]
 intro bb1 hbb1
 subst hbb1
 refine w_if rfl (fun c4 => ?_) (fun c4 => ?_)
 ·try simp only [sB,Bool.or_eq_true,Bool.or_eq_false_iff] at c4
  have h26 := tNext_lt L (tStep L (tStep L a 12) 70) (n := 26) (by decide)
  refine w_R (qm hnt rfl rfl (qm hnt rfl rfl (qo hnt rfl (s_callX (r2 := pI (tNext L (tStep L (tStep L a 12) 70) 26)) (nx1 := 3) (H2 := [(0,.obj [pS 1 false encI L,pN (tStep L (tStep L a 12) 70)]),(1,.obj [pI 0,pI 0,pI 0,pI 0,pI 0,pNil,pNil,p16 0,p16 0]),(2,.obj [pI e1,pI 0,pI 0,pI 0,pI 0,pNil,pNil,p16 0,p16 0])]) (H3 := [(0,.obj [pS 1 false encI L,pN (tStep L (tStep L (tStep L a 12) 70) 26)]),(1,.obj [pI 0,pI 0,pI 0,pI 0,pI 0,pNil,pNil,p16 0,p16 0]),(2,.obj [pI e1,pI 0,pI 0,pI 0,pI 0,pNil,pNil,p16 0,p16 0])]) [0] [.obj [pS 1 false encI L,pN (tStep L (tStep L a 12) 70)]] rfl rfl rfl (handed_of (by decide) ⟨rfl,trivial⟩) rfl rfl rfl rfl rfl rfl (w_burgagekeep_Tape_Next L false (tStep L (tStep L a 12) 70) 26 (by omega) (by omega)) rfl (dist_of rfl) rfl rfl rfl rfl ?_))))
  refine qo hnt rfl (s_fa_ptr tab_37 rfl rfl tab_3 (by decide) rfl ?_)
  refine qo hnt rfl (s_store_ptr tab_3 rfl rfl rfl rfl rfl (Nat.le_of_ble_eq_true rfl) ?_)
  refine qo hnt rfl (s_fa_ptr tab_37 rfl rfl tab_3 (by decide) rfl ?_)
  refine qo hnt rfl (s_store_ptr tab_3 rfl rfl rfl rfl rfl (Nat.le_of_ble_eq_true rfl) ?_)
  refine r_set [(2,PV.ptr 1 0),(3,PV.ptr 2 0)] [(2,.obj [pI e1,pI (tNext L (tStep L a 12) 70),pI (tNext L (tStep L (tStep L a 12) 70) 26),pI 0,pI 0,pNil,pNil,p16 0,p16 0]),(0,.obj [pS 1 false encI L,pN (tStep L (tStep L (tStep L a 12) 70) 26)]),(1,.obj [pI 0,pI 0,pI 0,pI 0,pI 0,pNil,pNil,p16 0,p16 0])] 3 ⟨rfl,rfl,trivial⟩ rfl rfl (r_end (q_block (q_then (w_seq (w_R ?_)))))
  refine qo hnt rfl (s_load_ptr tab_37 rfl rfl rfl (Nat.le_of_ble_eq_true rfl) ?_)
  refine qo hnt rfl (s_store_ptr tab_37 rfl rfl rfl rfl rfl (Nat.le_of_ble_eq_true rfl) ?_)
  refine r_set [(2,PV.ptr 1 0)] [(1,.obj [pI e1,pI (tNext L (tStep L a 12) 70),pI (tNext L (tStep L (tStep L a 12) 70) 26),pI 0,pI 0,pNil,pNil,p16 0,p16 0]),(2,.obj [pI e1,pI (tNext L (tStep L a 12) 70),pI (tNext L (tStep L (tStep L a 12) 70) 26),pI 0,pI 0,pNil,pNil,p16 0,p16 0]),(0,.obj [pS 1 false encI L,pN (tStep L (tStep L (tStep L a 12) 70) 26)])] 3 ⟨rfl,trivial⟩ rfl rfl (r_end (q_then (w_leO (n := 1) (ds := [pI e1,pI (tNext L (tStep L a 12) 70),pI (tNext L (tStep L (tStep L a 12) 70) 26),pI 0,pI 0,pS 1 false encBo [],pS 1 false enc16 [],p16 0,p16 0]) rfl ⟨le_refl _,le_refl _,le_refl _,le_refl _,le_refl _,le_nilS 1 false,le_nilS 1 false,le_refl _,le_refl _,trivial⟩ (w_ret ?_))))
  have hex : rightR (⟨e1,tNext L (tStep L a 12) 70,tNext L (tStep L (tStep L a 12) 70) 26,0,0,[],[],0,0⟩ : TRequest) = 0 ∧ (⟨e1,tNext L (tStep L a 12) 70,tNext L (tStep L (tStep L a 12) 70) 26,0,0,[],[],0,0⟩ : TRequest).bits.length ≤ 25 ∧ (⟨e1,tNext L (tStep L a 12) 70,tNext L (tStep L (tStep L a 12) 70) 26,0,0,[],[],0,0⟩ : TRequest).vals.length ≤ 25 ∧ 0 ≤ (⟨e1,tNext L (tStep L a 12) 70,tNext L (tStep L (tStep L a 12) 70) 26,0,0,[],[],0,0⟩ : TRequest).count ∧ (⟨e1,tNext L (tStep L a 12) 70,tNext L (tStep L (tStep L a 12) 70) 26,0,0,[],[],0,0⟩ : TRequest).count ≤ 25 := by
    refine ⟨(shapeR_iff (q := _) hfn).2 ?_,by simp; try omega,by simp; try omega,by simp; try omega,by simp; try omega⟩
    constructor
    case bits => simp only; (rw [if_neg (by omega),if_neg (by omega)]; rfl)
    case vals => simp only; (rw [if_neg (by omega),if_neg (by omega),if_neg (by omega)]; rfl)
    all_goals first|(intro _; rfl)|(intro _; exact ⟨rfl,rfl⟩)|(simp only; omega)
  exact fin_names (nx1 := 1) (H1 := [(0,.obj [pS 1 false encI L,pN (tStep L (tStep L (tStep L a 12) 70) 26)])]) [(0,0)] (ret_cell tab_37 (by decide) rfl rfl (Nat.le_of_ble_eq_true rfl) rfl ret_nil) rfl (by decide) ⟨⟨_,_,rfl,rfl,rfl,rfl⟩,trivial⟩ (by decide) rfl ⟨((⟨e1,tNext L (tStep L a 12) 70,tNext L (tStep L (tStep L a 12) 70) 26,0,0,[],[],0,0⟩ : TRequest)),(tStep L (tStep L (tStep L a 12) 70) 26),hex,rfl,rfl,rfl⟩
 try simp only [sB,Bool.or_eq_true,Bool.or_eq_false_iff] at c4
 refine w_seq (w_R (qo hnt rfl (s_eql rfl rfl ?_)))
 refine qa hnt rfl rfl (r_end (q_then (w_if rfl (fun c5 => ?_) (fun c5 => ?_))))
 ·try simp only [sB] at c5
  refine w_R (qm hnt rfl rfl (qm hnt rfl rfl (qo hnt rfl (s_callX (r2 := pI (tNext L (tStep L (tStep L a 12) 70) 2)) (nx1 := 3) (H2 := [(0,.obj [pS 1 false encI L,pN (tStep L (tStep L a 12) 70)]),(1,.obj [pI 0,pI 0,pI 0,pI 0,pI 0,pNil,pNil,p16 0,p16 0]),(2,.obj [pI e1,pI 0,pI 0,pI 0,pI 0,pNil,pNil,p16 0,p16 0])]) (H3 := [(0,.obj [pS 1 false encI L,pN (tStep L (tStep L (tStep L a 12) 70) 2)]),(1,.obj [pI 0,pI 0,pI 0,pI 0,pI 0,pNil,pNil,p16 0,p16 0]),(2,.obj [pI e1,pI 0,pI 0,pI 0,pI 0,pNil,pNil,p16 0,p16 0])]) [0] [.obj [pS 1 false encI L,pN (tStep L (tStep L a 12) 70)]] rfl rfl rfl (handed_of (by decide) ⟨rfl,trivial⟩) rfl rfl rfl rfl rfl rfl (w_burgagekeep_Tape_Next L false (tStep L (tStep L a 12) 70) 2 (by omega) (by omega)) rfl (dist_of rfl) rfl rfl rfl rfl ?_))))
  refine qo hnt rfl (s_eql rfl rfl ?_)
  refine qo hnt rfl (s_mkM (f := encBo) [decide (tNext L (tStep L (tStep L a 12) 70) 2 = 1)] tab_33 rfl tab_4 ⟨rfl,by decide⟩ (by decide) rfl rfl rfl rfl ?_)
  refine qo hnt rfl (s_fa_ptr tab_37 rfl rfl tab_3 (by decide) rfl ?_)
  refine qo hnt rfl (s_store_ptr tab_3 rfl rfl rfl rfl rfl (Nat.le_of_ble_eq_true rfl) ?_)
  refine qo hnt rfl (s_fa_ptr tab_37 rfl rfl tab_33 (by decide) rfl ?_)
  refine qo hnt rfl (s_store_ptr tab_33 rfl rfl rfl rfl rfl (Nat.le_of_ble_eq_true rfl) ?_)
  refine r_set [(2,PV.ptr 1 0),(3,PV.ptr 2 0)] [(2,.obj [pI e1,pI (tNext L (tStep L a 12) 70),pI 0,pI 0,pI 0,PV.ref 3 0 none,pNil,p16 0,p16 0]),(3,oB true 1 encBo [decide (tNext L (tStep L (tStep L a 12) 70) 2 = 1)]),(0,.obj [pS 1 false encI L,pN (tStep L (tStep L (tStep L a 12) 70) 2)]),(1,.obj [pI 0,pI 0,pI 0,pI 0,pI 0,pNil,pNil,p16 0,p16 0])] 4 ⟨rfl,rfl,trivial⟩ rfl rfl (r_end (q_block (q_then (w_seq (w_R ?_)))))
  refine qo hnt rfl (s_load_ptr tab_37 rfl rfl rfl (Nat.le_of_ble_eq_true rfl) ?_)
  refine qo hnt rfl (s_store_ptr tab_37 rfl rfl rfl rfl rfl (Nat.le_of_ble_eq_true rfl) ?_)
  refine r_set [(2,PV.ptr 1 0)] [(1,.obj [pI e1,pI (tNext L (tStep L a 12) 70),pI 0,pI 0,pI 0,PV.ref 3 0 none,pNil,p16 0,p16 0]),(2,.obj [pI e1,pI (tNext L (tStep L a 12) 70),pI 0,pI 0,pI 0,PV.ref 3 0 none,pNil,p16 0,p16 0]),(3,oB true 1 encBo [decide (tNext L (tStep L (tStep L a 12) 70) 2 = 1)]),(0,.obj [pS 1 false encI L,pN (tStep L (tStep L (tStep L a 12) 70) 2)])] 4 ⟨rfl,trivial⟩ rfl rfl (r_end (q_then (w_frzC (n := 1) (j := 5) rfl rfl rfl rfl (w_leO (n := 1) (ds := [pI e1,pI (tNext L (tStep L a 12) 70),pI 0,pI 0,pI 0,pS 1 false encBo [decide (tNext L (tStep L (tStep L a 12) 70) 2 = 1)],pS 1 false enc16 [],p16 0,p16 0]) rfl ⟨le_refl _,le_refl _,le_refl _,le_refl _,le_refl _,le_refl _,le_nilS 1 false,le_refl _,le_refl _,trivial⟩ (w_ret ?_)))))
  have hex : rightR (⟨e1,tNext L (tStep L a 12) 70,0,0,0,[decide (tNext L (tStep L (tStep L a 12) 70) 2 = 1)],[],0,0⟩ : TRequest) = 0 ∧ (⟨e1,tNext L (tStep L a 12) 70,0,0,0,[decide (tNext L (tStep L (tStep L a 12) 70) 2 = 1)],[],0,0⟩ : TRequest).bits.length ≤ 25 ∧ (⟨e1,tNext L (tStep L a 12) 70,0,0,0,[decide (tNext L (tStep L (tStep L a 12) 70) 2 = 1)],[],0,0⟩ : TRequest).vals.length ≤ 25 ∧ 0 ≤ (⟨e1,tNext L (tStep L a 12) 70,0,0,0,[decide (tNext L (tStep L (tStep L a 12) 70) 2 = 1)],[],0,0⟩ : TRequest).count ∧ (⟨e1,tNext L (tStep L a 12) 70,0,0,0,[decide (tNext L (tStep L (tStep L a 12) 70) 2 = 1)],[],0,0⟩ : TRequest).count ≤ 25 := by
    refine ⟨(shapeR_iff (q := _) hfn).2 ?_,by simp; try omega,by simp; try omega,by simp; try omega,by simp; try omega⟩
    constructor
    case bits => simp only; (rw [if_pos (by omega)]; rfl)
    case vals => simp only; (rw [if_neg (by omega),if_neg (by omega),if_neg (by omega)]; rfl)
    all_goals first|(intro _; rfl)|(intro _; exact ⟨rfl,rfl⟩)|(simp only; omega)
  exact fin_names (nx1 := 1) (H1 := [(0,.obj [pS 1 false encI L,pN (tStep L (tStep L (tStep L a 12) 70) 2)])]) [(0,0)] (ret_cell tab_37 (by decide) rfl rfl (Nat.le_of_ble_eq_true rfl) rfl ret_nil) rfl (by decide) ⟨⟨_,_,rfl,rfl,rfl,rfl⟩,trivial⟩ (by decide) rfl ⟨((⟨e1,tNext L (tStep L a 12) 70,0,0,0,[decide (tNext L (tStep L (tStep L a 12) 70) 2 = 1)],[],0,0⟩ : TRequest)),(tStep L (tStep L (tStep L a 12) 70) 2),hex,rfl,rfl,rfl⟩
 try simp only [sB] at c5
 refine w_seq (w_R (qo hnt rfl (s_eql rfl rfl ?_)))
 refine qa hnt rfl rfl (r_end (q_then (w_if rfl (fun c6 => ?_) (fun c6 => ?_))))
 ·try simp only [sB] at c6
  refine w_R (qm hnt rfl rfl (qm hnt rfl rfl (qo hnt rfl (s_callX (r2 := pI (tNext L (tStep L (tStep L a 12) 70) 65536)) (nx1 := 3) (H2 := [(0,.obj [pS 1 false encI L,pN (tStep L (tStep L a 12) 70)]),(1,.obj [pI 0,pI 0,pI 0,pI 0,pI 0,pNil,pNil,p16 0,p16 0]),(2,.obj [pI e1,pI 0,pI 0,pI 0,pI 0,pNil,pNil,p16 0,p16 0])]) (H3 := [(0,.obj [pS 1 false encI L,pN (tStep L (tStep L (tStep L a 12) 70) 65536)]),(1,.obj [pI 0,pI 0,pI 0,pI 0,pI 0,pNil,pNil,p16 0,p16 0]),(2,.obj [pI e1,pI 0,pI 0,pI 0,pI 0,pNil,pNil,p16 0,p16 0])]) [0] [.obj [pS 1 false encI L,pN (tStep L (tStep L a 12) 70)]] rfl rfl rfl (handed_of (by decide) ⟨rfl,trivial⟩) rfl rfl rfl rfl rfl rfl (w_burgagekeep_Tape_Next L false (tStep L (tStep L a 12) 70) 65536 (by omega) (by omega)) rfl (dist_of rfl) rfl rfl rfl rfl ?_))))
  refine qo hnt rfl (s_cv16 tab_3 tab_35 rfl rfl rfl ?_)
  refine qo hnt rfl (s_mkM (f := enc16) [u16I (tNext L (tStep L (tStep L a 12) 70) 65536)] tab_34 rfl tab_35 ⟨rfl,by decide⟩ (by decide) rfl rfl rfl rfl ?_)
  refine qo hnt rfl (s_fa_ptr tab_37 rfl rfl tab_3 (by decide) rfl ?_)
  refine qo hnt rfl (s_store_ptr tab_3 rfl rfl rfl rfl rfl (Nat.le_of_ble_eq_true rfl) ?_)
  refine qo hnt rfl (s_fa_ptr tab_37 rfl rfl tab_34 (by decide) rfl ?_)
  refine qo hnt rfl (s_store_ptr tab_34 rfl rfl rfl rfl rfl (Nat.le_of_ble_eq_true rfl) ?_)
  refine r_set [(2,PV.ptr 1 0),(3,PV.ptr 2 0)] [(2,.obj [pI e1,pI (tNext L (tStep L a 12) 70),pI 0,pI 0,pI 0,pNil,PV.ref 3 0 none,p16 0,p16 0]),(3,oB true 1 enc16 [u16I (tNext L (tStep L (tStep L a 12) 70) 65536)]),(0,.obj [pS 1 false encI L,pN (tStep L (tStep L (tStep L a 12) 70) 65536)]),(1,.obj [pI 0,pI 0,pI 0,pI 0,pI 0,pNil,pNil,p16 0,p16 0])] 4 ⟨rfl,rfl,trivial⟩ rfl rfl (r_end (q_block (q_then (w_seq (w_R ?_)))))
  refine qo hnt rfl (s_load_ptr tab_37 rfl rfl rfl (Nat.le_of_ble_eq_true rfl) ?_)
  refine qo hnt rfl (s_store_ptr tab_37 rfl rfl rfl rfl rfl (Nat.le_of_ble_eq_true rfl) ?_)
  refine r_set [(2,PV.ptr 1 0)] [(1,.obj [pI e1,pI (tNext L (tStep L a 12) 70),pI 0,pI 0,pI 0,pNil,PV.ref 3 0 none,p16 0,p16 0]),(2,.obj [pI e1,pI (tNext L (tStep L a 12) 70),pI 0,pI 0,pI 0,pNil,PV.ref 3 0 none,p16 0,p16 0]),(3,oB true 1 enc16 [u16I (tNext L (tStep L (tStep L a 12) 70) 65536)]),(0,.obj [pS 1 false encI L,pN (tStep L (tStep L (tStep L a 12) 70) 65536)])] 4 ⟨rfl,trivial⟩ rfl rfl (r_end (q_then (w_frzC (n := 1) (j := 6) rfl rfl rfl rfl (w_leO (n := 1) (ds := [pI e1,pI (tNext L (tStep L a 12) 70),pI 0,pI 0,pI 0,pS 1 false encBo [],pS 1 false enc16 [u16I (tNext L (tStep L (tStep L a 12) 70) 65536)],p16 0,p16 0]) rfl ⟨le_refl _,le_refl _,le_refl _,le_refl _,le_refl _,le_nilS 1 false,le_refl _,le_refl _,le_refl _,trivial⟩ (w_ret ?_)))))
  have hex : rightR (⟨e1,tNext L (tStep L a 12) 70,0,0,0,[],[u16I (tNext L (tStep L (tStep L a 12) 70) 65536)],0,0⟩ : TRequest) = 0 ∧ (⟨e1,tNext L (tStep L a 12) 70,0,0,0,[],[u16I (tNext L (tStep L (tStep L a 12) 70) 65536)],0,0⟩ : TRequest).bits.length ≤ 25 ∧ (⟨e1,tNext L (tStep L a 12) 70,0,0,0,[],[u16I (tNext L (tStep L (tStep L a 12) 70) 65536)],0,0⟩ : TRequest).vals.length ≤ 25 ∧ 0 ≤ (⟨e1,tNext L (tStep L a 12) 70,0,0,0,[],[u16I (tNext L (tStep L (tStep L a 12) 70) 65536)],0,0⟩ : TRequest).count ∧ (⟨e1,tNext L (tStep L a 12) 70,0,0,0,[],[u16I (tNext L (tStep L (tStep L a 12) 70) 65536)],0,0⟩ : TRequest).count ≤ 25 := by
    refine ⟨(shapeR_iff (q := _) hfn).2 ?_,by simp; try omega,by simp; try omega,by simp; try omega,by simp; try omega⟩
    constructor
    case bits => simp only; (rw [if_neg (by omega),if_neg (by omega)]; rfl)
    case vals => simp only; (rw [if_pos (by omega)]; rfl)
    all_goals first|(intro _; rfl)|(intro _; exact ⟨rfl,rfl⟩)|(simp only; omega)
  exact fin_names (nx1 := 1) (H1 := [(0,.obj [pS 1 false encI L,pN (tStep L (tStep L (tStep L a 12) 70) 65536)])]) [(0,0)] (ret_cell tab_37 (by decide) rfl rfl (Nat.le_of_ble_eq_true rfl) rfl ret_nil) rfl (by decide) ⟨⟨_,_,rfl,rfl,rfl,rfl⟩,trivial⟩ (by decide) rfl ⟨((⟨e1,tNext L (tStep L a 12) 70,0,0,0,[],[u16I (tNext L (tStep L (tStep L a 12) 70) 65536)],0,0⟩ : TRequest)),(tStep L (tStep L (tStep L a 12) 70) 65536),hex,rfl,rfl,rfl⟩
 try simp only [sB] at c6
 refine w_seq (w_R (qo hnt rfl (s_eql rfl rfl ?_)))
 refine qa hnt rfl rfl (r_end (q_then (w_if rfl (fun c7 => ?_) (fun c7 => ?_))))
 ·try simp only [sB] at c7
  have h8 := tNext_lt L (tStep L (tStep L a 12) 70) (n := 8) (by decide)
  have h4 := tNext_lt L (tStep L (tStep L (tStep L a 12) 70) 8) (n := 4) (by decide)
  refine W_drawn tabOk mixed hnt [[],[],[1],[0,1,2],[0,1,2,3],[],[],[1,2,6],[1,2,5,6,7],[1,2,5,6,7,8],[1,2,5,6,7,8,9],[0,1,2,3,4],[0,1,2,3,4,6,7,11],(.range 13),(.range 14)] (by kernel_rfl) (d_op (xT [] [] [] [(3,oB true 1 encI ([0,10,11,12,13,14,2,300] : List Int))] [(0,.obj [pS 1 false encI L,pN (tStep L (tStep L a 12) 70)]),(1,.obj [pI 0,pI 0,pI 0,pI 0,pI 0,pNil,pNil,p16 0,p16 0]),(2,.obj [pI e1,pI 0,pI 0,pI 0,pI 0,pNil,pNil,p16 0,p16 0])] rfl rfl rfl rfl rfl (s_mkM (f := encI) ([0,10,11,12,13,14,2,300] : List Int) tab_28 rfl tab_3 ⟨rfl,by decide⟩ (by decide) rfl rfl rfl rfl ⟨rfl,rfl,rfl⟩) rfl rfl (d_op (x_run0 [(0,PV.ptr 0 0)] [] rfl rfl rfl rfl (s_move rfl ⟨rfl,rfl,rfl⟩) (d_op ?_)))))
  refine xT [(49,PV.ptr 0 0)] [1] [(0,.obj [pS 1 false encI L,pN (tStep L (tStep L a 12) 70)])] [(0,.obj [pS 1 false encI L,pN (tStep L (tStep L (tStep L a 12) 70) 8)])] [(3,oB true 1 encI ([0,10,11,12,13,14,2,300] : List Int)),(1,.obj [pI 0,pI 0,pI 0,pI 0,pI 0,pNil,pNil,p16 0,p16 0]),(2,.obj [pI e1,pI 0,pI 0,pI 0,pI 0,pNil,pNil,p16 0,p16 0])] rfl rfl rfl rfl rfl (s_callX (r2 := pI (tNext L (tStep L (tStep L a 12) 70) 8)) (nx1 := 4) (H2 := [(0,.obj [pS 1 false encI L,pN (tStep L (tStep L a 12) 70)])]) (H3 := [(0,.obj [pS 1 false encI L,pN (tStep L (tStep L (tStep L a 12) 70) 8)])]) [0] [.obj [pS 1 false encI L,pN (tStep L (tStep L a 12) 70)]] rfl rfl rfl (handed_of (by decide) ⟨rfl,trivial⟩) rfl rfl rfl rfl rfl rfl (w_burgagekeep_Tape_Next L false (tStep L (tStep L a 12) 70) 8 (by omega) (by omega)) rfl (dist_of rfl) rfl rfl rfl rfl ⟨rfl,rfl,rfl⟩) rfl rfl (d_op (xL [(48,PV.ref 3 0 none),(50,pI (tNext L (tStep L (tStep L a 12) 70) 8))] [0,1,2] [(3,oB true 1 encI ([0,10,11,12,13,14,2,300] : List Int))] rfl rfl rfl rfl rfl (s_iaR0 (q := Int.toNat (tNext L (tStep L (tStep L a 12) 70) 8)) (f := encI) (l := ([0,10,11,12,13,14,2,300] : List Int)) tab_28 rfl tab_3 rfl rfl (by omega) rfl rfl (by simp; omega) ⟨rfl,rfl,rfl⟩) ⟨rfl,trivial⟩ rfl (d_op ?_)))
  obtain ⟨e2,he2⟩ := get_of_lt ([0,10,11,12,13,14,2,300] : List Int) (i := Int.toNat (tNext L (tStep L (tStep L a 12) 70) 8)) (by simp; omega)
  refine xL [(51,PV.ep 3 (Int.toNat (tNext L (tStep L (tStep L a 12) 70) 8)) 0)] [0,1,2,3] [(3,oB true 1 encI ([0,10,11,12,13,14,2,300] : List Int))] rfl rfl rfl rfl rfl (s_ldM (b := e2) (f := encI) tab_3 rfl rfl rfl rfl he2 rfl ⟨rfl,rfl,rfl⟩) ⟨rfl,trivial⟩ rfl ?_
  have hm2 := List.mem_of_getElem? he2
  simp only [List.mem_cons,List.not_mem_nil,or_false] at hm2
  refine d_op (xT [] [] [] [(4,oB true 1 enc16 ([0,0,0,777] : List UInt16))] [(0,.obj [pS 1 false encI L,pN (tStep L (tStep L (tStep L a 12) 70) 8)]),(3,oB true 1 encI ([0,10,11,12,13,14,2,300] : List Int)),(1,.obj [pI 0,pI 0,pI 0,pI 0,pI 0,pNil,pNil,p16 0,p16 0]),(2,.obj [pI e1,pI 0,pI 0,pI 0,pI 0,pNil,pNil,p16 0,p16 0])] rfl rfl rfl rfl rfl (s_mkM (f := enc16) ([0,0,0,777] : List UInt16) tab_34 rfl tab_35 ⟨rfl,by decide⟩ (by decide) rfl rfl rfl rfl ⟨rfl,rfl,rfl⟩) rfl rfl (d_op (x_run0 [(0,PV.ptr 0 0)] [] rfl rfl rfl rfl (s_move rfl ⟨rfl,rfl,rfl⟩) (d_op (xT [(54,PV.ptr 0 0)] [1,2,6] [(0,.obj [pS 1 false encI L,pN (tStep L (tStep L (tStep L a 12) 70) 8)])] [(0,.obj [pS 1 false encI L,pN (tStep L (tStep L (tStep L (tStep L a 12) 70) 8) 4)])] [(4,oB true 1 enc16 ([0,0,0,777] : List UInt16)),(3,oB true 1 encI ([0,10,11,12,13,14,2,300] : List Int)),(1,.obj [pI 0,pI 0,pI 0,pI 0,pI 0,pNil,pNil,p16 0,p16 0]),(2,.obj [pI e1,pI 0,pI 0,pI 0,pI 0,pNil,pNil,p16 0,p16 0])] rfl rfl rfl rfl rfl (s_callX (r2 := pI (tNext L (tStep L (tStep L (tStep L a 12) 70) 8) 4)) (nx1 := 5) (H2 := [(0,.obj [pS 1 false encI L,pN (tStep L (tStep L (tStep L a 12) 70) 8)])]) (H3 := [(0,.obj [pS 1 false encI L,pN (tStep L (tStep L (tStep L (tStep L a 12) 70) 8) 4)])]) [0] [.obj [pS 1 false encI L,pN (tStep L (tStep L (tStep L a 12) 70) 8)]] rfl rfl rfl (handed_of (by decide) ⟨rfl,trivial⟩) rfl rfl rfl rfl rfl rfl (w_burgagekeep_Tape_Next L false (tStep L (tStep L (tStep L a 12) 70) 8) 4 (by omega) (by omega)) rfl (dist_of rfl) rfl rfl rfl rfl ⟨rfl,rfl,rfl⟩) rfl rfl ?_)))))
  refine d_op (xL [(53,PV.ref 4 0 none),(55,pI (tNext L (tStep L (tStep L (tStep L a 12) 70) 8) 4))] [1,2,5,6,7] [(4,oB true 1 enc16 ([0,0,0,777] : List UInt16))] rfl rfl rfl rfl rfl (s_iaR0 (q := Int.toNat (tNext L (tStep L (tStep L (tStep L a 12) 70) 8) 4)) (f := enc16) (l := ([0,0,0,777] : List UInt16)) tab_34 rfl tab_35 rfl rfl (by omega) rfl rfl (by simp; omega) ⟨rfl,rfl,rfl⟩) ⟨rfl,trivial⟩ rfl (d_op ?_))
  obtain ⟨e3,he3⟩ := get_of_lt ([0,0,0,777] : List UInt16) (i := Int.toNat (tNext L (tStep L (tStep L (tStep L a 12) 70) 8) 4)) (by simp; omega)
  refine xL [(56,PV.ep 4 (Int.toNat (tNext L (tStep L (tStep L (tStep L a 12) 70) 8) 4)) 0)] [1,2,5,6,7,8] [(4,oB true 1 enc16 ([0,0,0,777] : List UInt16))] rfl rfl rfl rfl rfl (s_ldM (b := e3) (f := enc16) tab_35 rfl rfl rfl rfl he3 rfl ⟨rfl,rfl,rfl⟩) ⟨rfl,trivial⟩ rfl (d_op (xT [(57,p16 e3)] [1,2,5,6,7,8,9] [] [(5,oB true 1 enc16 [e3])] [(0,.obj [pS 1 false encI L,pN (tStep L (tStep L (tStep L (tStep L a 12) 70) 8) 4)]),(4,oB true 1 enc16 ([0,0,0,777] : List UInt16)),(3,oB true 1 encI ([0,10,11,12,13,14,2,300] : List Int)),(1,.obj [pI 0,pI 0,pI 0,pI 0,pI 0,pNil,pNil,p16 0,p16 0]),(2,.obj [pI e1,pI 0,pI 0,pI 0,pI 0,pNil,pNil,p16 0,p16 0])] rfl rfl rfl rfl rfl (s_mkM (f := enc16) [e3] tab_34 rfl tab_35 ⟨rfl,by decide⟩ (by decide) rfl rfl rfl rfl ⟨rfl,rfl,rfl⟩) rfl rfl (d_op (x_run0 [(3,PV.ptr 2 0)] [0,1,2,3,4] rfl rfl rfl rfl (s_fa_ptr tab_37 rfl rfl tab_3 (by decide) rfl ⟨rfl,rfl,rfl⟩) (d_op ?_)))))
  refine xT [(59,PV.ptr 2 4),(52,pI e2)] [0,1,2,3,4,6,7,11] [(2,.obj [pI e1,pI 0,pI 0,pI 0,pI 0,pNil,pNil,p16 0,p16 0])] [(2,.obj [pI e1,pI 0,pI 0,pI 0,pI e2,pNil,pNil,p16 0,p16 0])] [(5,oB true 1 enc16 [e3]),(0,.obj [pS 1 false encI L,pN (tStep L (tStep L (tStep L (tStep L a 12) 70) 8) 4)]),(4,oB true 1 enc16 ([0,0,0,777] : List UInt16)),(3,oB true 1 encI ([0,10,11,12,13,14,2,300] : List Int)),(1,.obj [pI 0,pI 0,pI 0,pI 0,pI 0,pNil,pNil,p16 0,p16 0])] rfl rfl rfl rfl rfl (s_store_ptr tab_3 rfl rfl rfl rfl rfl (Nat.le_of_ble_eq_true rfl) ⟨rfl,rfl,rfl⟩) rfl rfl (d_op (x_run0 [(3,PV.ptr 2 0)] (.range 13) rfl rfl rfl rfl (s_fa_ptr tab_37 rfl rfl tab_34 (by decide) rfl ⟨rfl,rfl,rfl⟩) (d_op (xT [(60,PV.ptr 2 6),(58,PV.ref 5 0 none)] (.range 14) [(2,.obj [pI e1,pI 0,pI 0,pI 0,pI e2,pNil,pNil,p16 0,p16 0])] [(2,.obj [pI e1,pI 0,pI 0,pI 0,pI e2,pNil,PV.ref 5 0 none,p16 0,p16 0])] [(5,oB true 1 enc16 [e3]),(0,.obj [pS 1 false encI L,pN (tStep L (tStep L (tStep L (tStep L a 12) 70) 8) 4)]),(4,oB true 1 enc16 ([0,0,0,777] : List UInt16)),(3,oB true 1 encI ([0,10,11,12,13,14,2,300] : List Int)),(1,.obj [pI 0,pI 0,pI 0,pI 0,pI 0,pNil,pNil,p16 0,p16 0])] rfl rfl rfl rfl rfl (s_store_ptr tab_34 rfl rfl rfl rfl rfl (Nat.le_of_ble_eq_true rfl) ⟨rfl,rfl,rfl⟩) rfl rfl (d_end ⟨by kernel_rfl, ?_⟩)))))
  refine q_block (q_then (w_seq (w_R (qo hnt rfl (s_load_ptr tab_37 rfl rfl rfl (Nat.le_of_ble_eq_true rfl) ?_)))))
  refine qo hnt rfl (s_store_ptr tab_37 rfl rfl rfl rfl rfl (Nat.le_of_ble_eq_true rfl) ?_)
  refine r_set [(2,PV.ptr 1 0)] [(1,.obj [pI e1,pI 0,pI 0,pI 0,pI e2,pNil,PV.ref 5 0 none,p16 0,p16 0]),(2,.obj [pI e1,pI 0,pI 0,pI 0,pI e2,pNil,PV.ref 5 0 none,p16 0,p16 0]),(5,oB true 1 enc16 [e3]),(0,.obj [pS 1 false encI L,pN (tStep L (tStep L (tStep L (tStep L a 12) 70) 8) 4)]),(4,oB true 1 enc16 ([0,0,0,777] : List UInt16)),(3,oB true 1 encI ([0,10,11,12,13,14,2,300] : List Int))] 6 ⟨rfl,trivial⟩ rfl rfl (r_end (q_then (w_frzC (n := 1) (j := 6) rfl rfl rfl rfl (w_leO (n := 1) (ds := [pI e1,pI 0,pI 0,pI 0,pI e2,pS 1 false encBo [],pS 1 false enc16 [e3],p16 0,p16 0]) rfl ⟨le_refl _,le_refl _,le_refl _,le_refl _,le_refl _,le_nilS 1 false,le_refl _,le_refl _,le_refl _,trivial⟩ (w_ret ?_)))))
  have hex : rightR (⟨e1,0,0,0,e2,[],[e3],0,0⟩ : TRequest) = 0 ∧ (⟨e1,0,0,0,e2,[],[e3],0,0⟩ : TRequest).bits.length ≤ 25 ∧ (⟨e1,0,0,0,e2,[],[e3],0,0⟩ : TRequest).vals.length ≤ 25 ∧ 0 ≤ (⟨e1,0,0,0,e2,[],[e3],0,0⟩ : TRequest).count ∧ (⟨e1,0,0,0,e2,[],[e3],0,0⟩ : TRequest).count ≤ 25 := by
    refine ⟨(shapeR_iff (q := _) hfn).2 ?_,by simp; try omega,by simp; try omega,by simp; try omega,by simp; try omega⟩
    constructor
    case bits => simp only; (rw [if_neg (by omega),if_neg (by omega)]; rfl)
    case vals => simp only; (rw [if_pos (by omega)]; rfl)
    all_goals first|(intro _; rfl)|(intro _; exact ⟨rfl,rfl⟩)|(simp only; omega)
  exact fin_names (nx1 := 1) (H1 := [(0,.obj [pS 1 false encI L,pN (tStep L (tStep L (tStep L (tStep L a 12) 70) 8) 4)])]) [(0,0)] (ret_cell tab_37 (by decide) rfl rfl (Nat.le_of_ble_eq_true rfl) rfl ret_nil) rfl (by decide) ⟨⟨_,_,rfl,rfl,rfl,rfl⟩,trivial⟩ (by decide) rfl ⟨((⟨e1,0,0,0,e2,[],[e3],0,0⟩ : TRequest)),(tStep L (tStep L (tStep L (tStep L a 12) 70) 8) 4),hex,rfl,rfl,rfl⟩
 try simp only [sB] at c7
 refine w_seq (w_R (qo hnt rfl (s_eql rfl rfl ?_)))
 refine qa hnt rfl rfl (r_end (q_then (w_if rfl (fun c8 => ?_) (fun c8 => ?_))))
 ·try simp only [sB] at c8
  refine w_seq ?_
  have h26 := tNext_lt L (tStep L (tStep L a 12) 70) (n := 26) (by decide)
  refine w_R (qm hnt rfl rfl (qm hnt rfl rfl (qo hnt rfl (s_callX (r2 := pI (tNext L (tStep L (tStep L a 12) 70) 26)) (nx1 := 3) (H2 := [(0,.obj [pS 1 false encI L,pN (tStep L (tStep L a 12) 70)]),(1,.obj [pI 0,pI 0,pI 0,pI 0,pI 0,pNil,pNil,p16 0,p16 0]),(2,.obj [pI e1,pI 0,pI 0,pI 0,pI 0,pNil,pNil,p16 0,p16 0])]) (H3 := [(0,.obj [pS 1 false encI L,pN (tStep L (tStep L (tStep L a 12) 70) 26)]),(1,.obj [pI 0,pI 0,pI 0,pI 0,pI 0,pNil,pNil,p16 0,p16 0]),(2,.obj [pI e1,pI 0,pI 0,pI 0,pI 0,pNil,pNil,p16 0,p16 0])]) [0] [.obj [pS 1 false encI L,pN (tStep L (tStep L a 12) 70)]] rfl rfl rfl (handed_of (by decide) ⟨rfl,trivial⟩) rfl rfl rfl rfl rfl rfl (w_burgagekeep_Tape_Next L false (tStep L (tStep L a 12) 70) 26 (by omega) (by omega)) rfl (dist_of rfl) rfl rfl rfl rfl ?_))))
  refine qo hnt rfl (s_fa_ptr tab_37 rfl rfl tab_3 (by decide) rfl ?_)
  refine qo hnt rfl (s_store_ptr tab_3 rfl rfl rfl rfl rfl (Nat.le_of_ble_eq_true rfl) ?_)
  refine qo hnt rfl (s_fa_ptr tab_37 rfl rfl tab_3 (by decide) rfl ?_)
  refine qo hnt rfl (s_store_ptr tab_3 rfl rfl rfl rfl rfl (Nat.le_of_ble_eq_true rfl) ?_)
  refine r_set [(0,PV.ptr 0 0),(2,PV.ptr 1 0),(3,PV.ptr 2 0)] [(2,.obj [pI e1,pI (tNext L (tStep L a 12) 70),pI (tNext L (tStep L (tStep L a 12) 70) 26),pI 0,pI 0,pNil,pNil,p16 0,p16 0]),(0,.obj [pS 1 false encI L,pN (tStep L (tStep L (tStep L a 12) 70) 26)]),(1,.obj [pI 0,pI 0,pI 0,pI 0,pI 0,pNil,pNil,p16 0,p16 0])] 3 ⟨rfl,rfl,rfl,trivial⟩ rfl rfl (r_end (q_then (w_seq (w_R (qa hnt rfl rfl ?_)))))
  refine r_end (q_then (w_block (w_adoptC (n := 2) (j := 5) (sz := 1) rfl rfl rfl (loop3 (fun (ap : Nat) (os : List Bool) (i : Nat) => (i : Int) ≤ tNext L (tStep L (tStep L a 12) 70) 26 ∧ os.length = i) (fun (ap : Nat) (os : List Bool) (i : Nat) => [(0,PV.ptr 0 0),(2,PV.ptr 3 0),(3,PV.ptr 1 0),(5,pN i)]) 4 (fun (ap : Nat) (os : List Bool) (i : Nat) => [(0,.obj [pS 1 false encI L,pN ap]),(1,.obj [pI e1,pI (tNext L (tStep L a 12) 70),pI (tNext L (tStep L (tStep L a 12) 70) 26),pI 0,pI 0,PV.ref 2 0 none,pNil,p16 0,p16 0]),(2,oB true 1 encBo os),(3,.obj [pI 0,pI 0,pI 0,pI 0,pI 0,pNil,pNil,p16 0,p16 0])]) (fun (ap : Nat) (os : List Bool) (i : Nat) => (tNext L (tStep L (tStep L a 12) 70) 26).toNat - i) (tStep L (tStep L (tStep L a 12) 70) 26) (([] : List Bool)) (0) ?_ ⟨[(0,0),(1,2),(2,3),(3,1)],by rw [hk]; decide,⟨⟨_,rfl,rfl,rfl⟩,⟨_,rfl,rfl,rfl⟩,⟨_,rfl,rfl,rfl⟩,⟨_,rfl,rfl,rfl⟩,trivial⟩,⟨⟨_,_,rfl,rfl,rfl,rfl⟩,⟨_,_,rfl,rfl,rfl,rfl⟩,⟨_,_,rfl,rfl,rfl,rfl⟩,⟨_,_,rfl,rfl,rfl,rfl⟩,trivial⟩,by rw [hk]; decide⟩ ?_))))
  · exact ⟨by omega,rfl⟩
  ·intro ap os i hI
   obtain ⟨hi,hol⟩ := hI
   refine w_seq (w_seq (w_R (qm hnt rfl rfl (qo hnt rfl (s_fa_ptr tab_37 rfl rfl tab_3 (by decide) rfl ?_)))))
   refine qo hnt rfl (s_load_ptr1 tab_3 rfl rfl rfl rfl rfl ?_)
   refine qo hnt rfl (s_lss rfl rfl ?_)
   refine r_end (q_then (w_if rfl (fun c9 => ?_) (fun c9 => ?_)))
   ·try simp only [sB] at c9
    refine w_skip (q_then (w_seq (w_block (W_drawn tabOk mixed hnt [[],[0],[],[2],[2,3],[2,3,4],[0,1,2,3,4,5],[0,1,2,3,4,5,6],(.range 8)] (by kernel_rfl) (d_op ?_)))))
    refine x_run0 [(3,PV.ptr 1 0)] [] rfl rfl rfl rfl (s_fa_ptr tab_37 rfl rfl tab_33 (by decide) rfl ⟨rfl,rfl,rfl⟩) (d_op (xL [(74,PV.ptr 1 5)] [0] [(1,.obj [pI e1,pI (tNext L (tStep L a 12) 70),pI (tNext L (tStep L (tStep L a 12) 70) 26),pI 0,pI 0,PV.ref 2 0 none,pNil,p16 0,p16 0])] rfl rfl rfl rfl rfl (s_load_ptr1 tab_33 rfl rfl rfl rfl rfl ⟨rfl,rfl,rfl⟩) ⟨rfl,trivial⟩ rfl (d_op (x_run0 [(0,PV.ptr 0 0)] [] rfl rfl rfl rfl (s_move rfl ⟨rfl,rfl,rfl⟩) (d_op ?_)))))
    refine xT [(76,PV.ptr 0 0)] [2] [(0,.obj [pS 1 false encI L,pN ap])] [(0,.obj [pS 1 false encI L,pN (tStep L ap 2)])] [(1,.obj [pI e1,pI (tNext L (tStep L a 12) 70),pI (tNext L (tStep L (tStep L a 12) 70) 26),pI 0,pI 0,PV.ref 2 0 none,pNil,p16 0,p16 0]),(2,oB true 1 encBo os),(3,.obj [pI 0,pI 0,pI 0,pI 0,pI 0,pNil,pNil,p16 0,p16 0])] rfl rfl rfl rfl rfl (s_callX (r2 := pI (tNext L ap 2)) (nx1 := 4) (H2 := [(0,.obj [pS 1 false encI L,pN ap])]) (H3 := [(0,.obj [pS 1 false encI L,pN (tStep L ap 2)])]) [0] [.obj [pS 1 false encI L,pN ap]] rfl rfl rfl (handed_of (by decide) ⟨rfl,trivial⟩) rfl rfl rfl rfl rfl rfl (w_burgagekeep_Tape_Next L false ap 2 (by omega) (by omega)) rfl (dist_of rfl) rfl rfl rfl rfl ⟨rfl,rfl,rfl⟩) rfl rfl (d_op (x_run0 [(77,pI (tNext L ap 2))] [2,3] rfl rfl rfl rfl (s_eql rfl rfl ⟨rfl,rfl,rfl⟩) (d_op (xT [(78,pB (decide (tNext L ap 2 = 1)))] [2,3,4] [] [(4,oB true 1 encBo [decide (tNext L ap 2 = 1)])] [(0,.obj [pS 1 false encI L,pN (tStep L ap 2)]),(1,.obj [pI e1,pI (tNext L (tStep L a 12) 70),pI (tNext L (tStep L (tStep L a 12) 70) 26),pI 0,pI 0,PV.ref 2 0 none,pNil,p16 0,p16 0]),(2,oB true 1 encBo os),(3,.obj [pI 0,pI 0,pI 0,pI 0,pI 0,pNil,pNil,p16 0,p16 0])] rfl rfl rfl rfl rfl (s_mkM (f := encBo) [decide (tNext L ap 2 = 1)] tab_33 rfl tab_4 ⟨rfl,by decide⟩ (by decide) rfl rfl rfl rfl ⟨rfl,rfl,rfl⟩) rfl rfl (d_op ?_)))))
    refine x_run [(75,PV.ref 2 0 none),(79,PV.ref 4 0 none)] [0,1,2,3,4,5] [(4,oB true 1 encBo [decide (tNext L ap 2 = 1)])] [(2,oB true 1 encBo os)] [(5,oB true 1 encBo (os ++ [decide (tNext L ap 2 = 1)])),(4,oB true 1 encBo [decide (tNext L ap 2 = 1)])] [(5,oB true 1 encBo (os ++ [decide (tNext L ap 2 = 1)]))] [(5,oB true 1 encBo (os ++ [decide (tNext L ap 2 = 1)])),(4,oB true 1 encBo [decide (tNext L ap 2 = 1)]),(0,.obj [pS 1 false encI L,pN (tStep L ap 2)]),(1,.obj [pI e1,pI (tNext L (tStep L a 12) 70),pI (tNext L (tStep L (tStep L a 12) 70) 26),pI 0,pI 0,PV.ref 2 0 none,pNil,p16 0,p16 0]),(3,.obj [pI 0,pI 0,pI 0,pI 0,pI 0,pNil,pNil,p16 0,p16 0])] rfl rfl rfl rfl rfl rfl (s_appR0 (f := encBo) (l := os) (xs := [decide (tNext L ap 2 = 1)]) tab_33 rfl tab_4 ⟨rfl,by decide,by decide⟩ (srcM tab_33 rfl (hM_ref0 (f := encBo) rfl rfl)) rfl rfl (by (simp; omega)) ⟨rfl,rfl,rfl⟩) rfl ⟨rfl,trivial⟩ rfl rfl (d_op (x_run0 [(3,PV.ptr 1 0)] [0,1,2,3,4,5,6] rfl rfl rfl rfl (s_fa_ptr tab_37 rfl rfl tab_33 (by decide) rfl ⟨rfl,rfl,rfl⟩) (d_op (xT [(81,PV.ptr 1 5),(80,PV.ref 5 0 none)] (.range 8) [(1,.obj [pI e1,pI (tNext L (tStep L a 12) 70),pI (tNext L (tStep L (tStep L a 12) 70) 26),pI 0,pI 0,PV.ref 2 0 none,pNil,p16 0,p16 0])] [(1,.obj [pI e1,pI (tNext L (tStep L a 12) 70),pI (tNext L (tStep L (tStep L a 12) 70) 26),pI 0,pI 0,PV.ref 5 0 none,pNil,p16 0,p16 0])] [(5,oB true 1 encBo (os ++ [decide (tNext L ap 2 = 1)])),(4,oB true 1 encBo [decide (tNext L ap 2 = 1)]),(0,.obj [pS 1 false encI L,pN (tStep L ap 2)]),(3,.obj [pI 0,pI 0,pI 0,pI 0,pI 0,pNil,pNil,p16 0,p16 0])] rfl rfl rfl rfl rfl (s_store_ptr tab_33 rfl rfl rfl rfl rfl (Nat.le_of_ble_eq_true rfl) ⟨rfl,rfl,rfl⟩) rfl rfl (d_end ⟨by kernel_rfl, ?_⟩)))))
    refine q_block (q_then (w_R (qm hnt rfl rfl (qo hnt rfl (s_addN (a := i) (b := 1) rfl rfl (by omega) (by omega) (by omega) ?_)))))
    refine qa hnt rfl rfl (r_end (q_then (⟨(tStep L ap 2),(os ++ [decide (tNext L ap 2 = 1)]),(i + 1), ?_, ?_,⟨[(0,0),(1,1),(2,5),(3,3)],by rw [hk]; decide,⟨⟨_,rfl,rfl,rfl⟩,⟨_,rfl,rfl,rfl⟩,⟨_,rfl,rfl,rfl⟩,⟨_,rfl,rfl,rfl⟩,trivial⟩,⟨⟨_,_,rfl,rfl,rfl,rfl⟩,⟨_,_,rfl,rfl,rfl,rfl⟩,⟨_,_,rfl,rfl,rfl,rfl⟩,⟨_,_,rfl,rfl,rfl,rfl⟩,trivial⟩,by rw [hk]; decide⟩⟩)))
    ·exact ⟨by omega,by simp [hol]⟩
    · omega
   try simp only [sB] at c9
   refine w_exit (q_then_exit (q_then_exit (q_block_exit (q_block (q_then ?_)))))
   refine w_seq (w_R (qo hnt rfl (s_load_ptr tab_37 rfl rfl rfl (Nat.le_of_ble_eq_true rfl) ?_)))
   refine qo hnt rfl (s_store_ptr tab_37 rfl rfl rfl rfl rfl (Nat.le_of_ble_eq_true rfl) ?_)
   refine r_set [(2,PV.ptr 3 0)] [(3,.obj [pI e1,pI (tNext L (tStep L a 12) 70),pI (tNext L (tStep L (tStep L a 12) 70) 26),pI 0,pI 0,PV.ref 2 0 none,pNil,p16 0,p16 0]),(0,.obj [pS 1 false encI L,pN ap]),(1,.obj [pI e1,pI (tNext L (tStep L a 12) 70),pI (tNext L (tStep L (tStep L a 12) 70) 26),pI 0,pI 0,PV.ref 2 0 none,pNil,p16 0,p16 0]),(2,oB true 1 encBo os)] 4 ⟨rfl,trivial⟩ rfl rfl (r_end (q_then (w_frzC (n := 3) (j := 5) rfl rfl rfl rfl (w_leO (n := 3) (ds := [pI e1,pI (tNext L (tStep L a 12) 70),pI (tNext L (tStep L (tStep L a 12) 70) 26),pI 0,pI 0,pS 1 false encBo os,pS 1 false enc16 [],p16 0,p16 0]) rfl ⟨le_refl _,le_refl _,le_refl _,le_refl _,le_refl _,le_refl _,le_nilS 1 false,le_refl _,le_refl _,trivial⟩ (w_ret ?_)))))
   have hex : rightR (⟨e1,tNext L (tStep L a 12) 70,tNext L (tStep L (tStep L a 12) 70) 26,0,0,os,[],0,0⟩ : TRequest) = 0 ∧ (⟨e1,tNext L (tStep L a 12) 70,tNext L (tStep L (tStep L a 12) 70) 26,0,0,os,[],0,0⟩ : TRequest).bits.length ≤ 25 ∧ (⟨e1,tNext L (tStep L a 12) 70,tNext L (tStep L (tStep L a 12) 70) 26,0,0,os,[],0,0⟩ : TRequest).vals.length ≤ 25 ∧ 0 ≤ (⟨e1,tNext L (tStep L a 12) 70,tNext L (tStep L (tStep L a 12) 70) 26,0,0,os,[],0,0⟩ : TRequest).count ∧ (⟨e1,tNext L (tStep L a 12) 70,tNext L (tStep L (tStep L a 12) 70) 26,0,0,os,[],0,0⟩ : TRequest).count ≤ 25 := by
     refine ⟨(shapeR_iff (q := _) hfn).2 ?_,by simp; try omega,by simp; try omega,by simp; try omega,by simp; try omega⟩
     constructor
     case bits => simp only; (rw [if_neg (by omega),if_pos (by omega)]; exact ⟨by omega,by omega⟩)
     case vals => simp only; (rw [if_neg (by omega),if_neg (by omega),if_neg (by omega)]; rfl)
     all_goals first|(intro _; rfl)|(intro _; exact ⟨rfl,rfl⟩)|(simp only; omega)
   exact fin_names (nx1 := 1) (H1 := [(0,.obj [pS 1 false encI L,pN ap])]) [(0,0)] (ret_cell tab_37 (by decide) rfl rfl (Nat.le_of_ble_eq_true rfl) rfl ret_nil) rfl (by decide) ⟨⟨_,_,rfl,rfl,rfl,rfl⟩,trivial⟩ (by decide) rfl ⟨((⟨e1,tNext L (tStep L a 12) 70,tNext L (tStep L (tStep L a 12) 70) 26,0,0,os,[],0,0⟩ : TRequest)),(ap),hex,rfl,rfl,rfl⟩
 try simp only [sB] at c8
 refine w_seq (w_R (qo hnt rfl (s_eql rfl rfl ?_)))
 refine qa hnt rfl rfl (r_end (q_then (w_if rfl (fun c10 => ?_) (fun c10 => ?_))))
 ·try simp only [sB] at c10
  refine w_seq ?_
  have h26 := tNext_lt L (tStep L (tStep L a 12) 70) (n := 26) (by decide)
  refine w_R (qm hnt rfl rfl (qm hnt rfl rfl (qo hnt rfl (s_callX (r2 := pI (tNext L (tStep L (tStep L a 12) 70) 26)) (nx1 := 3) (H2 := [(0,.obj [pS 1 false encI L,pN (tStep L (tStep L a 12) 70)]),(1,.obj [pI 0,pI 0,pI 0,pI 0,pI 0,pNil,pNil,p16 0,p16 0]),(2,.obj [pI e1,pI 0,pI 0,pI 0,pI 0,pNil,pNil,p16 0,p16 0])]) (H3 := [(0,.obj [pS 1 false encI L,pN (tStep L (tStep L (tStep L a 12) 70) 26)]),(1,.obj [pI 0,pI 0,pI 0,pI 0,pI 0,pNil,pNil,p16 0,p16 0]),(2,.obj [pI e1,pI 0,pI 0,pI 0,pI 0,pNil,pNil,p16 0,p16 0])]) [0] [.obj [pS 1 false encI L,pN (tStep L (tStep L a 12) 70)]] rfl rfl rfl (handed_of (by decide) ⟨rfl,trivial⟩) rfl rfl rfl rfl rfl rfl (w_burgagekeep_Tape_Next L false (tStep L (tStep L a 12) 70) 26 (by omega) (by omega)) rfl (dist_of rfl) rfl rfl rfl rfl ?_))))
  refine qo hnt rfl (s_fa_ptr tab_37 rfl rfl tab_3 (by decide) rfl ?_)
  refine qo hnt rfl (s_store_ptr tab_3 rfl rfl rfl rfl rfl (Nat.le_of_ble_eq_true rfl) ?_)
  refine qo hnt rfl (s_fa_ptr tab_37 rfl rfl tab_3 (by decide) rfl ?_)
  refine qo hnt rfl (s_store_ptr tab_3 rfl rfl rfl rfl rfl (Nat.le_of_ble_eq_true rfl) ?_)
  refine r_set [(0,PV.ptr 0 0),(2,PV.ptr 1 0),(3,PV.ptr 2 0)] [(2,.obj [pI e1,pI (tNext L (tStep L a 12) 70),pI (tNext L (tStep L (tStep L a 12) 70) 26),pI 0,pI 0,pNil,pNil,p16 0,p16 0]),(0,.obj [pS 1 false encI L,pN (tStep L (tStep L (tStep L a 12) 70) 26)]),(1,.obj [pI 0,pI 0,pI 0,pI 0,pI 0,pNil,pNil,p16 0,p16 0])] 3 ⟨rfl,rfl,rfl,trivial⟩ rfl rfl (r_end (q_then (w_seq (w_R (qa hnt rfl rfl ?_)))))
  refine r_end (q_then (w_block (w_adoptC (n := 2) (j := 6) (sz := 1) rfl rfl rfl (loop3 (fun (ap : Nat) (os : List UInt16) (i : Nat) => (i : Int) ≤ tNext L (tStep L (tStep L a 12) 70) 26 ∧ os.length = i) (fun (ap : Nat) (os : List UInt16) (i : Nat) => [(0,PV.ptr 0 0),(2,PV.ptr 3 0),(3,PV.ptr 1 0),(6,pN i)]) 4 (fun (ap : Nat) (os : List UInt16) (i : Nat) => [(0,.obj [pS 1 false encI L,pN ap]),(1,.obj [pI e1,pI (tNext L (tStep L a 12) 70),pI (tNext L (tStep L (tStep L a 12) 70) 26),pI 0,pI 0,pNil,PV.ref 2 0 none,p16 0,p16 0]),(2,oB true 1 enc16 os),(3,.obj [pI 0,pI 0,pI 0,pI 0,pI 0,pNil,pNil,p16 0,p16 0])]) (fun (ap : Nat) (os : List UInt16) (i : Nat) => (tNext L (tStep L (tStep L a 12) 70) 26).toNat - i) (tStep L (tStep L (tStep L a 12) 70) 26) (([] : List UInt16)) (0) ?_ ⟨[(0,0),(1,2),(2,3),(3,1)],by rw [hk]; decide,⟨⟨_,rfl,rfl,rfl⟩,⟨_,rfl,rfl,rfl⟩,⟨_,rfl,rfl,rfl⟩,⟨_,rfl,rfl,rfl⟩,trivial⟩,⟨⟨_,_,rfl,rfl,rfl,rfl⟩,⟨_,_,rfl,rfl,rfl,rfl⟩,⟨_,_,rfl,rfl,rfl,rfl⟩,⟨_,_,rfl,rfl,rfl,rfl⟩,trivial⟩,by rw [hk]; decide⟩ ?_))))
  · exact ⟨by omega,rfl⟩
  ·intro ap os i hI
   obtain ⟨hi,hol⟩ := hI
   refine w_seq (w_seq (w_R (qm hnt rfl rfl (qo hnt rfl (s_fa_ptr tab_37 rfl rfl tab_3 (by decide) rfl ?_)))))
   refine qo hnt rfl (s_load_ptr1 tab_3 rfl rfl rfl rfl rfl ?_)
   refine qo hnt rfl (s_lss rfl rfl ?_)
   refine r_end (q_then (w_if rfl (fun c11 => ?_) (fun c11 => ?_)))
   ·try simp only [sB] at c11
    refine w_skip (q_then (w_seq (w_block (W_drawn tabOk mixed hnt [[],[0],[],[2],[2,3],[2,3,4],[0,1,2,3,4,5],[0,1,2,3,4,5,6],(.range 8)] (by kernel_rfl) (d_op ?_)))))
    refine x_run0 [(3,PV.ptr 1 0)] [] rfl rfl rfl rfl (s_fa_ptr tab_37 rfl rfl tab_34 (by decide) rfl ⟨rfl,rfl,rfl⟩) (d_op (xL [(95,PV.ptr 1 6)] [0] [(1,.obj [pI e1,pI (tNext L (tStep L a 12) 70),pI (tNext L (tStep L (tStep L a 12) 70) 26),pI 0,pI 0,pNil,PV.ref 2 0 none,p16 0,p16 0])] rfl rfl rfl rfl rfl (s_load_ptr1 tab_34 rfl rfl rfl rfl rfl ⟨rfl,rfl,rfl⟩) ⟨rfl,trivial⟩ rfl (d_op (x_run0 [(0,PV.ptr 0 0)] [] rfl rfl rfl rfl (s_move rfl ⟨rfl,rfl,rfl⟩) (d_op ?_)))))
    refine xT [(97,PV.ptr 0 0)] [2] [(0,.obj [pS 1 false encI L,pN ap])] [(0,.obj [pS 1 false encI L,pN (tStep L ap 65536)])] [(1,.obj [pI e1,pI (tNext L (tStep L a 12) 70),pI (tNext L (tStep L (tStep L a 12) 70) 26),pI 0,pI 0,pNil,PV.ref 2 0 none,p16 0,p16 0]),(2,oB true 1 enc16 os),(3,.obj [pI 0,pI 0,pI 0,pI 0,pI 0,pNil,pNil,p16 0,p16 0])] rfl rfl rfl rfl rfl (s_callX (r2 := pI (tNext L ap 65536)) (nx1 := 4) (H2 := [(0,.obj [pS 1 false encI L,pN ap])]) (H3 := [(0,.obj [pS 1 false encI L,pN (tStep L ap 65536)])]) [0] [.obj [pS 1 false encI L,pN ap]] rfl rfl rfl (handed_of (by decide) ⟨rfl,trivial⟩) rfl rfl rfl rfl rfl rfl (w_burgagekeep_Tape_Next L false ap 65536 (by omega) (by omega)) rfl (dist_of rfl) rfl rfl rfl rfl ⟨rfl,rfl,rfl⟩) rfl rfl (d_op (x_run0 [(98,pI (tNext L ap 65536))] [2,3] rfl rfl rfl rfl (s_cv16 tab_3 tab_35 rfl rfl rfl ⟨rfl,rfl,rfl⟩) (d_op (xT [(99,p16 (u16I (tNext L ap 65536)))] [2,3,4] [] [(4,oB true 1 enc16 [u16I (tNext L ap 65536)])] [(0,.obj [pS 1 false encI L,pN (tStep L ap 65536)]),(1,.obj [pI e1,pI (tNext L (tStep L a 12) 70),pI (tNext L (tStep L (tStep L a 12) 70) 26),pI 0,pI 0,pNil,PV.ref 2 0 none,p16 0,p16 0]),(2,oB true 1 enc16 os),(3,.obj [pI 0,pI 0,pI 0,pI 0,pI 0,pNil,pNil,p16 0,p16 0])] rfl rfl rfl rfl rfl (s_mkM (f := enc16) [u16I (tNext L ap 65536)] tab_34 rfl tab_35 ⟨rfl,by decide⟩ (by decide) rfl rfl rfl rfl ⟨rfl,rfl,rfl⟩) rfl rfl (d_op ?_)))))
    refine x_run [(96,PV.ref 2 0 none),(100,PV.ref 4 0 none)] [0,1,2,3,4,5] [(4,oB true 1 enc16 [u16I (tNext L ap 65536)])] [(2,oB true 1 enc16 os)] [(5,oB true 1 enc16 (os ++ [u16I (tNext L ap 65536)])),(4,oB true 1 enc16 [u16I (tNext L ap 65536)])] [(5,oB true 1 enc16 (os ++ [u16I (tNext L ap 65536)]))] [(5,oB true 1 enc16 (os ++ [u16I (tNext L ap 65536)])),(4,oB true 1 enc16 [u16I (tNext L ap 65536)]),(0,.obj [pS 1 false encI L,pN (tStep L ap 65536)]),(1,.obj [pI e1,pI (tNext L (tStep L a 12) 70),pI (tNext L (tStep L (tStep L a 12) 70) 26),pI 0,pI 0,pNil,PV.ref 2 0 none,p16 0,p16 0]),(3,.obj [pI 0,pI 0,pI 0,pI 0,pI 0,pNil,pNil,p16 0,p16 0])] rfl rfl rfl rfl rfl rfl (s_appR0 (f := enc16) (l := os) (xs := [u16I (tNext L ap 65536)]) tab_34 rfl tab_35 ⟨rfl,by decide,by decide⟩ (srcM tab_34 rfl (hM_ref0 (f := enc16) rfl rfl)) rfl rfl (by (simp; omega)) ⟨rfl,rfl,rfl⟩) rfl ⟨rfl,trivial⟩ rfl rfl (d_op (x_run0 [(3,PV.ptr 1 0)] [0,1,2,3,4,5,6] rfl rfl rfl rfl (s_fa_ptr tab_37 rfl rfl tab_34 (by decide) rfl ⟨rfl,rfl,rfl⟩) (d_op (xT [(102,PV.ptr 1 6),(101,PV.ref 5 0 none)] (.range 8) [(1,.obj [pI e1,pI (tNext L (tStep L a 12) 70),pI (tNext L (tStep L (tStep L a 12) 70) 26),pI 0,pI 0,pNil,PV.ref 2 0 none,p16 0,p16 0])] [(1,.obj [pI e1,pI (tNext L (tStep L a 12) 70),pI (tNext L (tStep L (tStep L a 12) 70) 26),pI 0,pI 0,pNil,PV.ref 5 0 none,p16 0,p16 0])] [(5,oB true 1 enc16 (os ++ [u16I (tNext L ap 65536)])),(4,oB true 1 enc16 [u16I (tNext L ap 65536)]),(0,.obj [pS 1 false encI L,pN (tStep L ap 65536)]),(3,.obj [pI 0,pI 0,pI 0,pI 0,pI 0,pNil,pNil,p16 0,p16 0])] rfl rfl rfl rfl rfl (s_store_ptr tab_34 rfl rfl rfl rfl rfl (Nat.le_of_ble_eq_true rfl) ⟨rfl,rfl,rfl⟩) rfl rfl (d_end ⟨by kernel_rfl, ?_⟩)))))
    refine q_block (q_then (w_R (qm hnt rfl rfl (qo hnt rfl (s_addN (a := i) (b := 1) rfl rfl (by omega) (by omega) (by omega) ?_)))))
    refine qa hnt rfl rfl (r_end (q_then (⟨(tStep L ap 65536),(os ++ [u16I (tNext L ap 65536)]),(i + 1), ?_, ?_,⟨[(0,0),(1,1),(2,5),(3,3)],by rw [hk]; decide,⟨⟨_,rfl,rfl,rfl⟩,⟨_,rfl,rfl,rfl⟩,⟨_,rfl,rfl,rfl⟩,⟨_,rfl,rfl,rfl⟩,trivial⟩,⟨⟨_,_,rfl,rfl,rfl,rfl⟩,⟨_,_,rfl,rfl,rfl,rfl⟩,⟨_,_,rfl,rfl,rfl,rfl⟩,⟨_,_,rfl,rfl,rfl,rfl⟩,trivial⟩,by rw [hk]; decide⟩⟩)))
    ·exact ⟨by omega,by simp [hol]⟩
    · omega
   try simp only [sB] at c11
   refine w_exit (q_then_exit (q_then_exit (q_block_exit (q_block (q_then ?_)))))
   refine w_seq (w_R (qo hnt rfl (s_load_ptr tab_37 rfl rfl rfl (Nat.le_of_ble_eq_true rfl) ?_)))
   refine qo hnt rfl (s_store_ptr tab_37 rfl rfl rfl rfl rfl (Nat.le_of_ble_eq_true rfl) ?_)
   refine r_set [(2,PV.ptr 3 0)] [(3,.obj [pI e1,pI (tNext L (tStep L a 12) 70),pI (tNext L (tStep L (tStep L a 12) 70) 26),pI 0,pI 0,pNil,PV.ref 2 0 none,p16 0,p16 0]),(0,.obj [pS 1 false encI L,pN ap]),(1,.obj [pI e1,pI (tNext L (tStep L a 12) 70),pI (tNext L (tStep L (tStep L a 12) 70) 26),pI 0,pI 0,pNil,PV.ref 2 0 none,p16 0,p16 0]),(2,oB true 1 enc16 os)] 4 ⟨rfl,trivial⟩ rfl rfl (r_end (q_then (w_frzC (n := 3) (j := 6) rfl rfl rfl rfl (w_leO (n := 3) (ds := [pI e1,pI (tNext L (tStep L a 12) 70),pI (tNext L (tStep L (tStep L a 12) 70) 26),pI 0,pI 0,pS 1 false encBo [],pS 1 false enc16 os,p16 0,p16 0]) rfl ⟨le_refl _,le_refl _,le_refl _,le_refl _,le_refl _,le_nilS 1 false,le_refl _,le_refl _,le_refl _,trivial⟩ (w_ret ?_)))))
   have hex : rightR (⟨e1,tNext L (tStep L a 12) 70,tNext L (tStep L (tStep L a 12) 70) 26,0,0,[],os,0,0⟩ : TRequest) = 0 ∧ (⟨e1,tNext L (tStep L a 12) 70,tNext L (tStep L (tStep L a 12) 70) 26,0,0,[],os,0,0⟩ : TRequest).bits.length ≤ 25 ∧ (⟨e1,tNext L (tStep L a 12) 70,tNext L (tStep L (tStep L a 12) 70) 26,0,0,[],os,0,0⟩ : TRequest).vals.length ≤ 25 ∧ 0 ≤ (⟨e1,tNext L (tStep L a 12) 70,tNext L (tStep L (tStep L a 12) 70) 26,0,0,[],os,0,0⟩ : TRequest).count ∧ (⟨e1,tNext L (tStep L a 12) 70,tNext L (tStep L (tStep L a 12) 70) 26,0,0,[],os,0,0⟩ : TRequest).count ≤ 25 := by
     refine ⟨(shapeR_iff (q := _) hfn).2 ?_,by simp; try omega,by simp; try omega,by simp; try omega,by simp; try omega⟩
     constructor
     case bits => simp only; (rw [if_neg (by omega),if_neg (by omega)]; rfl)
     case vals => simp only; (rw [if_neg (by omega),if_pos (by omega)]; exact ⟨by omega,by omega⟩)
     all_goals first|(intro _; rfl)|(intro _; exact ⟨rfl,rfl⟩)|(simp only; omega)
   exact fin_names (nx1 := 1) (H1 := [(0,.obj [pS 1 false encI L,pN ap])]) [(0,0)] (ret_cell tab_37 (by decide) rfl rfl (Nat.le_of_ble_eq_true rfl) rfl ret_nil) rfl (by decide) ⟨⟨_,_,rfl,rfl,rfl,rfl⟩,trivial⟩ (by decide) rfl ⟨((⟨e1,tNext L (tStep L a 12) 70,tNext L (tStep L (tStep L a 12) 70) 26,0,0,[],os,0,0⟩ : TRequest)),(ap),hex,rfl,rfl,rfl⟩
 try simp only [sB] at c10
 refine w_seq (w_R (qo hnt rfl (s_eql rfl rfl ?_)))
 refine qa hnt rfl rfl (r_end (q_then (w_if rfl (fun c12 => ?_) (fun c12 => ?_))))
 ·try simp only [sB] at c12
  refine w_R (qm hnt rfl rfl (qm hnt rfl rfl (qo hnt rfl (s_callX (r2 := pI (tNext L (tStep L (tStep L a 12) 70) 65536)) (nx1 := 3) (H2 := [(0,.obj [pS 1 false encI L,pN (tStep L (tStep L a 12) 70)]),(1,.obj [pI 0,pI 0,pI 0,pI 0,pI 0,pNil,pNil,p16 0,p16 0]),(2,.obj [pI e1,pI 0,pI 0,pI 0,pI 0,pNil,pNil,p16 0,p16 0])]) (H3 := [(0,.obj [pS 1 false encI L,pN (tStep L (tStep L (tStep L a 12) 70) 65536)]),(1,.obj [pI 0,pI 0,pI 0,pI 0,pI 0,pNil,pNil,p16 0,p16 0]),(2,.obj [pI e1,pI 0,pI 0,pI 0,pI 0,pNil,pNil,p16 0,p16 0])]) [0] [.obj [pS 1 false encI L,pN (tStep L (tStep L a 12) 70)]] rfl rfl rfl (handed_of (by decide) ⟨rfl,trivial⟩) rfl rfl rfl rfl rfl rfl (w_burgagekeep_Tape_Next L false (tStep L (tStep L a 12) 70) 65536 (by omega) (by omega)) rfl (dist_of rfl) rfl rfl rfl rfl ?_))))
  refine qo hnt rfl (s_cv16 tab_3 tab_35 rfl rfl rfl ?_)
  refine qm hnt rfl rfl (qo hnt rfl (s_callX (r2 := pI (tNext L (tStep L (tStep L (tStep L a 12) 70) 65536) 65536)) (nx1 := 3) (H2 := [(0,.obj [pS 1 false encI L,pN (tStep L (tStep L (tStep L a 12) 70) 65536)]),(1,.obj [pI 0,pI 0,pI 0,pI 0,pI 0,pNil,pNil,p16 0,p16 0]),(2,.obj [pI e1,pI 0,pI 0,pI 0,pI 0,pNil,pNil,p16 0,p16 0])]) (H3 := [(0,.obj [pS 1 false encI L,pN (tStep L (tStep L (tStep L (tStep L a 12) 70) 65536) 65536)]),(1,.obj [pI 0,pI 0,pI 0,pI 0,pI 0,pNil,pNil,p16 0,p16 0]),(2,.obj [pI e1,pI 0,pI 0,pI 0,pI 0,pNil,pNil,p16 0,p16 0])]) [0] [.obj [pS 1 false encI L,pN (tStep L (tStep L (tStep L a 12) 70) 65536)]] rfl rfl rfl (handed_of (by decide) ⟨rfl,trivial⟩) rfl rfl rfl rfl rfl rfl (w_burgagekeep_Tape_Next L false (tStep L (tStep L (tStep L a 12) 70) 65536) 65536 (by omega) (by omega)) rfl (dist_of rfl) rfl rfl rfl rfl ?_))
  refine qo hnt rfl (s_cv16 tab_3 tab_35 rfl rfl rfl ?_)
  refine qo hnt rfl (s_fa_ptr tab_37 rfl rfl tab_3 (by decide) rfl ?_)
  refine qo hnt rfl (s_store_ptr tab_3 rfl rfl rfl rfl rfl (Nat.le_of_ble_eq_true rfl) ?_)
  refine qo hnt rfl (s_fa_ptr tab_37 rfl rfl tab_35 (by decide) rfl ?_)
  refine qo hnt rfl (s_store_ptr tab_35 rfl rfl rfl rfl rfl (Nat.le_of_ble_eq_true rfl) ?_)
  refine qo hnt rfl (s_fa_ptr tab_37 rfl rfl tab_35 (by decide) rfl ?_)
  refine qo hnt rfl (s_store_ptr tab_35 rfl rfl rfl rfl rfl (Nat.le_of_ble_eq_true rfl) ?_)
  refine r_set [(2,PV.ptr 1 0),(3,PV.ptr 2 0)] [(2,.obj [pI e1,pI (tNext L (tStep L a 12) 70),pI 0,pI 0,pI 0,pNil,pNil,p16 (u16I (tNext L (tStep L (tStep L a 12) 70) 65536)),p16 (u16I (tNext L (tStep L (tStep L (tStep L a 12) 70) 65536) 65536))]),(0,.obj [pS 1 false encI L,pN (tStep L (tStep L (tStep L (tStep L a 12) 70) 65536) 65536)]),(1,.obj [pI 0,pI 0,pI 0,pI 0,pI 0,pNil,pNil,p16 0,p16 0])] 3 ⟨rfl,rfl,trivial⟩ rfl rfl (r_end (q_block (q_then (w_seq (w_R ?_)))))
  refine qo hnt rfl (s_load_ptr tab_37 rfl rfl rfl (Nat.le_of_ble_eq_true rfl) ?_)
  refine qo hnt rfl (s_store_ptr tab_37 rfl rfl rfl rfl rfl (Nat.le_of_ble_eq_true rfl) ?_)
  refine r_set [(2,PV.ptr 1 0)] [(1,.obj [pI e1,pI (tNext L (tStep L a 12) 70),pI 0,pI 0,pI 0,pNil,pNil,p16 (u16I (tNext L (tStep L (tStep L a 12) 70) 65536)),p16 (u16I (tNext L (tStep L (tStep L (tStep L a 12) 70) 65536) 65536))]),(2,.obj [pI e1,pI (tNext L (tStep L a 12) 70),pI 0,pI 0,pI 0,pNil,pNil,p16 (u16I (tNext L (tStep L (tStep L a 12) 70) 65536)),p16 (u16I (tNext L (tStep L (tStep L (tStep L a 12) 70) 65536) 65536))]),(0,.obj [pS 1 false encI L,pN (tStep L (tStep L (tStep L (tStep L a 12) 70) 65536) 65536)])] 3 ⟨rfl,trivial⟩ rfl rfl (r_end (q_then (w_leO (n := 1) (ds := [pI e1,pI (tNext L (tStep L a 12) 70),pI 0,pI 0,pI 0,pS 1 false encBo [],pS 1 false enc16 [],p16 (u16I (tNext L (tStep L (tStep L a 12) 70) 65536)),p16 (u16I (tNext L (tStep L (tStep L (tStep L a 12) 70) 65536) 65536))]) rfl ⟨le_refl _,le_refl _,le_refl _,le_refl _,le_refl _,le_nilS 1 false,le_nilS 1 false,le_refl _,le_refl _,trivial⟩ (w_ret ?_))))
  have hex : rightR (⟨e1,tNext L (tStep L a 12) 70,0,0,0,[],[],u16I (tNext L (tStep L (tStep L a 12) 70) 65536),u16I (tNext L (tStep L (tStep L (tStep L a 12) 70) 65536) 65536)⟩ : TRequest) = 0 ∧ (⟨e1,tNext L (tStep L a 12) 70,0,0,0,[],[],u16I (tNext L (tStep L (tStep L a 12) 70) 65536),u16I (tNext L (tStep L (tStep L (tStep L a 12) 70) 65536) 65536)⟩ : TRequest).bits.length ≤ 25 ∧ (⟨e1,tNext L (tStep L a 12) 70,0,0,0,[],[],u16I (tNext L (tStep L (tStep L a 12) 70) 65536),u16I (tNext L (tStep L (tStep L (tStep L a 12) 70) 65536) 65536)⟩ : TRequest).vals.length ≤ 25 ∧ 0 ≤ (⟨e1,tNext L (tStep L a 12) 70,0,0,0,[],[],u16I (tNext L (tStep L (tStep L a 12) 70) 65536),u16I (tNext L (tStep L (tStep L (tStep L a 12) 70) 65536) 65536)⟩ : TRequest).count ∧ (⟨e1,tNext L (tStep L a 12) 70,0,0,0,[],[],u16I (tNext L (tStep L (tStep L a 12) 70) 65536),u16I (tNext L (tStep L (tStep L (tStep L a 12) 70) 65536) 65536)⟩ : TRequest).count ≤ 25 := by
    refine ⟨(shapeR_iff (q := _) hfn).2 ?_,by simp; try omega,by simp; try omega,by simp; try omega,by simp; try omega⟩
    constructor
    case bits => simp only; (rw [if_neg (by omega),if_neg (by omega)]; rfl)
    case vals => simp only; (rw [if_neg (by omega),if_neg (by omega),if_neg (by omega)]; rfl)
    all_goals first|(intro _; rfl)|(simp only; omega)
  exact fin_names (nx1 := 1) (H1 := [(0,.obj [pS 1 false encI L,pN (tStep L (tStep L (tStep L (tStep L a 12) 70) 65536) 65536)])]) [(0,0)] (ret_cell tab_37 (by decide) rfl rfl (Nat.le_of_ble_eq_true rfl) rfl ret_nil) rfl (by decide) ⟨⟨_,_,rfl,rfl,rfl,rfl⟩,trivial⟩ (by decide) rfl ⟨((⟨e1,tNext L (tStep L a 12) 70,0,0,0,[],[],u16I (tNext L (tStep L (tStep L a 12) 70) 65536),u16I (tNext L (tStep L (tStep L (tStep L a 12) 70) 65536) 65536)⟩ : TRequest)),(tStep L (tStep L (tStep L (tStep L a 12) 70) 65536) 65536),hex,rfl,rfl,rfl⟩
 try simp only [sB] at c12
 refine w_seq (w_R (qo hnt rfl (s_eql rfl rfl ?_)))
 refine qa hnt rfl rfl (r_end (q_then (w_if rfl (fun c13 => ?_) (fun c13 => ?_))))
 ·try simp only [sB] at c13
  refine w_seq ?_
  have h20 := tNext_lt L (tStep L (tStep L a 12) 70) (n := 20) (by decide)
  have h40 := tNext_lt L (tStep L (tStep L (tStep L a 12) 70) 20) (n := 40) (by decide)
  refine w_R (qm hnt rfl rfl (qm hnt rfl rfl (qo hnt rfl (s_callX (r2 := pI (tNext L (tStep L (tStep L a 12) 70) 20)) (nx1 := 3) (H2 := [(0,.obj [pS 1 false encI L,pN (tStep L (tStep L a 12) 70)]),(1,.obj [pI 0,pI 0,pI 0,pI 0,pI 0,pNil,pNil,p16 0,p16 0]),(2,.obj [pI e1,pI 0,pI 0,pI 0,pI 0,pNil,pNil,p16 0,p16 0])]) (H3 := [(0,.obj [pS 1 false encI L,pN (tStep L (tStep L (tStep L a 12) 70) 20)]),(1,.obj [pI 0,pI 0,pI 0,pI 0,pI 0,pNil,pNil,p16 0,p16 0]),(2,.obj [pI e1,pI 0,pI 0,pI 0,pI 0,pNil,pNil,p16 0,p16 0])]) [0] [.obj [pS 1 false encI L,pN (tStep L (tStep L a 12) 70)]] rfl rfl rfl (handed_of (by decide) ⟨rfl,trivial⟩) rfl rfl rfl rfl rfl rfl (w_burgagekeep_Tape_Next L false (tStep L (tStep L a 12) 70) 20 (by omega) (by omega)) rfl (dist_of rfl) rfl rfl rfl rfl ?_))))
  refine qm hnt rfl rfl (qo hnt rfl (s_callX (r2 := pI (tNext L (tStep L (tStep L (tStep L a 12) 70) 20) 40)) (nx1 := 3) (H2 := [(0,.obj [pS 1 false encI L,pN (tStep L (tStep L (tStep L a 12) 70) 20)]),(1,.obj [pI 0,pI 0,pI 0,pI 0,pI 0,pNil,pNil,p16 0,p16 0]),(2,.obj [pI e1,pI 0,pI 0,pI 0,pI 0,pNil,pNil,p16 0,p16 0])]) (H3 := [(0,.obj [pS 1 false encI L,pN (tStep L (tStep L (tStep L (tStep L a 12) 70) 20) 40)]),(1,.obj [pI 0,pI 0,pI 0,pI 0,pI 0,pNil,pNil,p16 0,p16 0]),(2,.obj [pI e1,pI 0,pI 0,pI 0,pI 0,pNil,pNil,p16 0,p16 0])]) [0] [.obj [pS 1 false encI L,pN (tStep L (tStep L (tStep L a 12) 70) 20)]] rfl rfl rfl (handed_of (by decide) ⟨rfl,trivial⟩) rfl rfl rfl rfl rfl rfl (w_burgagekeep_Tape_Next L false (tStep L (tStep L (tStep L a 12) 70) 20) 40 (by omega) (by omega)) rfl (dist_of rfl) rfl rfl rfl rfl ?_))
  refine qo hnt rfl (s_fa_ptr tab_37 rfl rfl tab_3 (by decide) rfl ?_)
  refine qo hnt rfl (s_store_ptr tab_3 rfl rfl rfl rfl rfl (Nat.le_of_ble_eq_true rfl) ?_)
  refine qo hnt rfl (s_fa_ptr tab_37 rfl rfl tab_3 (by decide) rfl ?_)
  refine qo hnt rfl (s_store_ptr tab_3 rfl rfl rfl rfl rfl (Nat.le_of_ble_eq_true rfl) ?_)
  refine qo hnt rfl (s_fa_ptr tab_37 rfl rfl tab_3 (by decide) rfl ?_)
  refine qo hnt rfl (s_store_ptr tab_3 rfl rfl rfl rfl rfl (Nat.le_of_ble_eq_true rfl) ?_)
  refine r_set [(0,PV.ptr 0 0),(2,PV.ptr 1 0),(3,PV.ptr 2 0)] [(2,.obj [pI e1,pI (tNext L (tStep L a 12) 70),pI (tNext L (tStep L (tStep L a 12) 70) 20),pI (tNext L (tStep L (tStep L (tStep L a 12) 70) 20) 40),pI 0,pNil,pNil,p16 0,p16 0]),(0,.obj [pS 1 false encI L,pN (tStep L (tStep L (tStep L (tStep L a 12) 70) 20) 40)]),(1,.obj [pI 0,pI 0,pI 0,pI 0,pI 0,pNil,pNil,p16 0,p16 0])] 3 ⟨rfl,rfl,rfl,trivial⟩ rfl rfl (r_end (q_then (w_seq ?_)))
  have h22 := tNext_lt L (tStep L (tStep L (tStep L (tStep L a 12) 70) 20) 40) (n := 20) (by decide)
  refine w_R (qm hnt rfl rfl (qo hnt rfl (s_callX (r2 := pI (tNext L (tStep L (tStep L (tStep L (tStep L a 12) 70) 20) 40) 20)) (nx1 := 3) (H2 := [(2,.obj [pI e1,pI (tNext L (tStep L a 12) 70),pI (tNext L (tStep L (tStep L a 12) 70) 20),pI (tNext L (tStep L (tStep L (tStep L a 12) 70) 20) 40),pI 0,pNil,pNil,p16 0,p16 0]),(0,.obj [pS 1 false encI L,pN (tStep L (tStep L (tStep L (tStep L a 12) 70) 20) 40)]),(1,.obj [pI 0,pI 0,pI 0,pI 0,pI 0,pNil,pNil,p16 0,p16 0])]) (H3 := [(0,.obj [pS 1 false encI L,pN (tStep L (tStep L (tStep L (tStep L (tStep L a 12) 70) 20) 40) 20)]),(2,.obj [pI e1,pI (tNext L (tStep L a 12) 70),pI (tNext L (tStep L (tStep L a 12) 70) 20),pI (tNext L (tStep L (tStep L (tStep L a 12) 70) 20) 40),pI 0,pNil,pNil,p16 0,p16 0]),(1,.obj [pI 0,pI 0,pI 0,pI 0,pI 0,pNil,pNil,p16 0,p16 0])]) [0] [.obj [pS 1 false encI L,pN (tStep L (tStep L (tStep L (tStep L a 12) 70) 20) 40)]] rfl rfl rfl (handed_of (by decide) ⟨rfl,trivial⟩) rfl rfl rfl rfl rfl rfl (w_burgagekeep_Tape_Next L false (tStep L (tStep L (tStep L (tStep L a 12) 70) 20) 40) 20 (by omega) (by omega)) rfl (dist_of rfl) rfl rfl rfl rfl ?_)))
  refine qa hnt rfl rfl (r_set [(0,PV.ptr 0 0),(2,PV.ptr 1 0),(3,PV.ptr 2 0),(7,pI (tNext L (tStep L (tStep L (tStep L (tStep L a 12) 70) 20) 40) 20))] [(0,.obj [pS 1 false encI L,pN (tStep L (tStep L (tStep L (tStep L (tStep L a 12) 70) 20) 40) 20)]),(2,.obj [pI e1,pI (tNext L (tStep L a 12) 70),pI (tNext L (tStep L (tStep L a 12) 70) 20),pI (tNext L (tStep L (tStep L (tStep L a 12) 70) 20) 40),pI 0,pNil,pNil,p16 0,p16 0]),(1,.obj [pI 0,pI 0,pI 0,pI 0,pI 0,pNil,pNil,p16 0,p16 0])] 3 ⟨rfl,rfl,rfl,rfl,trivial⟩ rfl rfl (r_end (q_then (w_block (w_adoptC (n := 2) (j := 6) (sz := 1) rfl rfl rfl ?_)))))
  refine loop3 (fun (ap : Nat) (os : List UInt16) (k : Int) => (os.length : Int) + k ≤ 19 ∧ 0 ≤ k) (fun (ap : Nat) (os : List UInt16) (k : Int) => [(0,PV.ptr 0 0),(2,PV.ptr 3 0),(3,PV.ptr 1 0),(7,pI k)]) 4 (fun (ap : Nat) (os : List UInt16) (k : Int) => [(0,.obj [pS 1 false encI L,pN ap]),(1,.obj [pI e1,pI (tNext L (tStep L a 12) 70),pI (tNext L (tStep L (tStep L a 12) 70) 20),pI (tNext L (tStep L (tStep L (tStep L a 12) 70) 20) 40),pI 0,pNil,PV.ref 2 0 none,p16 0,p16 0]),(2,oB true 1 enc16 os),(3,.obj [pI 0,pI 0,pI 0,pI 0,pI 0,pNil,pNil,p16 0,p16 0])]) (fun (ap : Nat) (os : List UInt16) (k : Int) => k.toNat) (tStep L (tStep L (tStep L (tStep L (tStep L a 12) 70) 20) 40) 20) (([] : List UInt16)) (tNext L (tStep L (tStep L (tStep L (tStep L a 12) 70) 20) 40) 20) ?_ ⟨[(0,0),(1,2),(2,3),(3,1)],by rw [hk]; decide,⟨⟨_,rfl,rfl,rfl⟩,⟨_,rfl,rfl,rfl⟩,⟨_,rfl,rfl,rfl⟩,⟨_,rfl,rfl,rfl⟩,trivial⟩,⟨⟨_,_,rfl,rfl,rfl,rfl⟩,⟨_,_,rfl,rfl,rfl,rfl⟩,⟨_,_,rfl,rfl,rfl,rfl⟩,⟨_,_,rfl,rfl,rfl,rfl⟩,trivial⟩,by rw [hk]; decide⟩ ?_
  · exact ⟨by simp; omega,by omega⟩
  ·intro ap os k hI
   obtain ⟨hkm,hk0⟩ := hI
   refine w_seq (w_seq (w_R (qm hnt rfl rfl (qo hnt rfl (s_gtr rfl rfl ?_)))))
   refine r_end (q_then (w_if rfl (fun c14 => ?_) (fun c14 => ?_)))
   ·try simp only [sB] at c14
    refine w_skip (q_then (w_seq (w_block (W_drawn tabOk mixed hnt [[],[0],[],[2],[2,3],[2,3,4],[0,1,2,3,4,5],[0,1,2,3,4,5,6],(.range 8)] (by kernel_rfl) (d_op ?_)))))
    refine x_run0 [(3,PV.ptr 1 0)] [] rfl rfl rfl rfl (s_fa_ptr tab_37 rfl rfl tab_34 (by decide) rfl ⟨rfl,rfl,rfl⟩) (d_op (xL [(131,PV.ptr 1 6)] [0] [(1,.obj [pI e1,pI (tNext L (tStep L a 12) 70),pI (tNext L (tStep L (tStep L a 12) 70) 20),pI (tNext L (tStep L (tStep L (tStep L a 12) 70) 20) 40),pI 0,pNil,PV.ref 2 0 none,p16 0,p16 0])] rfl rfl rfl rfl rfl (s_load_ptr1 tab_34 rfl rfl rfl rfl rfl ⟨rfl,rfl,rfl⟩) ⟨rfl,trivial⟩ rfl (d_op (x_run0 [(0,PV.ptr 0 0)] [] rfl rfl rfl rfl (s_move rfl ⟨rfl,rfl,rfl⟩) (d_op ?_)))))
    refine xT [(133,PV.ptr 0 0)] [2] [(0,.obj [pS 1 false encI L,pN ap])] [(0,.obj [pS 1 false encI L,pN (tStep L ap 65536)])] [(1,.obj [pI e1,pI (tNext L (tStep L a 12) 70),pI (tNext L (tStep L (tStep L a 12) 70) 20),pI (tNext L (tStep L (tStep L (tStep L a 12) 70) 20) 40),pI 0,pNil,PV.ref 2 0 none,p16 0,p16 0]),(2,oB true 1 enc16 os),(3,.obj [pI 0,pI 0,pI 0,pI 0,pI 0,pNil,pNil,p16 0,p16 0])] rfl rfl rfl rfl rfl (s_callX (r2 := pI (tNext L ap 65536)) (nx1 := 4) (H2 := [(0,.obj [pS 1 false encI L,pN ap])]) (H3 := [(0,.obj [pS 1 false encI L,pN (tStep L ap 65536)])]) [0] [.obj [pS 1 false encI L,pN ap]] rfl rfl rfl (handed_of (by decide) ⟨rfl,trivial⟩) rfl rfl rfl rfl rfl rfl (w_burgagekeep_Tape_Next L false ap 65536 (by omega) (by omega)) rfl (dist_of rfl) rfl rfl rfl rfl ⟨rfl,rfl,rfl⟩) rfl rfl (d_op (x_run0 [(134,pI (tNext L ap 65536))] [2,3] rfl rfl rfl rfl (s_cv16 tab_3 tab_35 rfl rfl rfl ⟨rfl,rfl,rfl⟩) (d_op (xT [(135,p16 (u16I (tNext L ap 65536)))] [2,3,4] [] [(4,oB true 1 enc16 [u16I (tNext L ap 65536)])] [(0,.obj [pS 1 false encI L,pN (tStep L ap 65536)]),(1,.obj [pI e1,pI (tNext L (tStep L a 12) 70),pI (tNext L (tStep L (tStep L a 12) 70) 20),pI (tNext L (tStep L (tStep L (tStep L a 12) 70) 20) 40),pI 0,pNil,PV.ref 2 0 none,p16 0,p16 0]),(2,oB true 1 enc16 os),(3,.obj [pI 0,pI 0,pI 0,pI 0,pI 0,pNil,pNil,p16 0,p16 0])] rfl rfl rfl rfl rfl (s_mkM (f := enc16) [u16I (tNext L ap 65536)] tab_34 rfl tab_35 ⟨rfl,by decide⟩ (by decide) rfl rfl rfl rfl ⟨rfl,rfl,rfl⟩) rfl rfl (d_op ?_)))))
    refine x_run [(132,PV.ref 2 0 none),(136,PV.ref 4 0 none)] [0,1,2,3,4,5] [(4,oB true 1 enc16 [u16I (tNext L ap 65536)])] [(2,oB true 1 enc16 os)] [(5,oB true 1 enc16 (os ++ [u16I (tNext L ap 65536)])),(4,oB true 1 enc16 [u16I (tNext L ap 65536)])] [(5,oB true 1 enc16 (os ++ [u16I (tNext L ap 65536)]))] [(5,oB true 1 enc16 (os ++ [u16I (tNext L ap 65536)])),(4,oB true 1 enc16 [u16I (tNext L ap 65536)]),(0,.obj [pS 1 false encI L,pN (tStep L ap 65536)]),(1,.obj [pI e1,pI (tNext L (tStep L a 12) 70),pI (tNext L (tStep L (tStep L a 12) 70) 20),pI (tNext L (tStep L (tStep L (tStep L a 12) 70) 20) 40),pI 0,pNil,PV.ref 2 0 none,p16 0,p16 0]),(3,.obj [pI 0,pI 0,pI 0,pI 0,pI 0,pNil,pNil,p16 0,p16 0])] rfl rfl rfl rfl rfl rfl (s_appR0 (f := enc16) (l := os) (xs := [u16I (tNext L ap 65536)]) tab_34 rfl tab_35 ⟨rfl,by decide,by decide⟩ (srcM tab_34 rfl (hM_ref0 (f := enc16) rfl rfl)) rfl rfl (by (simp; omega)) ⟨rfl,rfl,rfl⟩) rfl ⟨rfl,trivial⟩ rfl rfl (d_op (x_run0 [(3,PV.ptr 1 0)] [0,1,2,3,4,5,6] rfl rfl rfl rfl (s_fa_ptr tab_37 rfl rfl tab_34 (by decide) rfl ⟨rfl,rfl,rfl⟩) (d_op (xT [(138,PV.ptr 1 6),(137,PV.ref 5 0 none)] (.range 8) [(1,.obj [pI e1,pI (tNext L (tStep L a 12) 70),pI (tNext L (tStep L (tStep L a 12) 70) 20),pI (tNext L (tStep L (tStep L (tStep L a 12) 70) 20) 40),pI 0,pNil,PV.ref 2 0 none,p16 0,p16 0])] [(1,.obj [pI e1,pI (tNext L (tStep L a 12) 70),pI (tNext L (tStep L (tStep L a 12) 70) 20),pI (tNext L (tStep L (tStep L (tStep L a 12) 70) 20) 40),pI 0,pNil,PV.ref 5 0 none,p16 0,p16 0])] [(5,oB true 1 enc16 (os ++ [u16I (tNext L ap 65536)])),(4,oB true 1 enc16 [u16I (tNext L ap 65536)]),(0,.obj [pS 1 false encI L,pN (tStep L ap 65536)]),(3,.obj [pI 0,pI 0,pI 0,pI 0,pI 0,pNil,pNil,p16 0,p16 0])] rfl rfl rfl rfl rfl (s_store_ptr tab_34 rfl rfl rfl rfl rfl (Nat.le_of_ble_eq_true rfl) ⟨rfl,rfl,rfl⟩) rfl rfl (d_end ⟨by kernel_rfl, ?_⟩)))))
    refine q_block (q_then (w_R (qm hnt rfl rfl (qo hnt rfl (s_subi (r := k - 1) rfl rfl rfl (by omega) ?_)))))
    refine qa hnt rfl rfl (r_end (q_then (⟨(tStep L ap 65536),(os ++ [u16I (tNext L ap 65536)]),(k - 1), ?_, ?_,⟨[(0,0),(1,1),(2,5),(3,3)],by rw [hk]; decide,⟨⟨_,rfl,rfl,rfl⟩,⟨_,rfl,rfl,rfl⟩,⟨_,rfl,rfl,rfl⟩,⟨_,rfl,rfl,rfl⟩,trivial⟩,⟨⟨_,_,rfl,rfl,rfl,rfl⟩,⟨_,_,rfl,rfl,rfl,rfl⟩,⟨_,_,rfl,rfl,rfl,rfl⟩,⟨_,_,rfl,rfl,rfl,rfl⟩,trivial⟩,by rw [hk]; decide⟩⟩)))
    ·exact ⟨by simp; omega,by omega⟩
    · omega
   try simp only [sB] at c14
   refine w_exit (q_then_exit (q_then_exit (q_block_exit (q_block (q_then ?_)))))
   refine w_seq (w_R (qo hnt rfl (s_load_ptr tab_37 rfl rfl rfl (Nat.le_of_ble_eq_true rfl) ?_)))
   refine qo hnt rfl (s_store_ptr tab_37 rfl rfl rfl rfl rfl (Nat.le_of_ble_eq_true rfl) ?_)
   refine r_set [(2,PV.ptr 3 0)] [(3,.obj [pI e1,pI (tNext L (tStep L a 12) 70),pI (tNext L (tStep L (tStep L a 12) 70) 20),pI (tNext L (tStep L (tStep L (tStep L a 12) 70) 20) 40),pI 0,pNil,PV.ref 2 0 none,p16 0,p16 0]),(0,.obj [pS 1 false encI L,pN ap]),(1,.obj [pI e1,pI (tNext L (tStep L a 12) 70),pI (tNext L (tStep L (tStep L a 12) 70) 20),pI (tNext L (tStep L (tStep L (tStep L a 12) 70) 20) 40),pI 0,pNil,PV.ref 2 0 none,p16 0,p16 0]),(2,oB true 1 enc16 os)] 4 ⟨rfl,trivial⟩ rfl rfl (r_end (q_then (w_frzC (n := 3) (j := 6) rfl rfl rfl rfl (w_leO (n := 3) (ds := [pI e1,pI (tNext L (tStep L a 12) 70),pI (tNext L (tStep L (tStep L a 12) 70) 20),pI (tNext L (tStep L (tStep L (tStep L a 12) 70) 20) 40),pI 0,pS 1 false encBo [],pS 1 false enc16 os,p16 0,p16 0]) rfl ⟨le_refl _,le_refl _,le_refl _,le_refl _,le_refl _,le_nilS 1 false,le_refl _,le_refl _,le_refl _,trivial⟩ (w_ret ?_)))))
   have hex : rightR (⟨e1,tNext L (tStep L a 12) 70,tNext L (tStep L (tStep L a 12) 70) 20,tNext L (tStep L (tStep L (tStep L a 12) 70) 20) 40,0,[],os,0,0⟩ : TRequest) = 0 ∧ (⟨e1,tNext L (tStep L a 12) 70,tNext L (tStep L (tStep L a 12) 70) 20,tNext L (tStep L (tStep L (tStep L a 12) 70) 20) 40,0,[],os,0,0⟩ : TRequest).bits.length ≤ 25 ∧ (⟨e1,tNext L (tStep L a 12) 70,tNext L (tStep L (tStep L a 12) 70) 20,tNext L (tStep L (tStep L (tStep L a 12) 70) 20) 40,0,[],os,0,0⟩ : TRequest).vals.length ≤ 25 ∧ 0 ≤ (⟨e1,tNext L (tStep L a 12) 70,tNext L (tStep L (tStep L a 12) 70) 20,tNext L (tStep L (tStep L (tStep L a 12) 70) 20) 40,0,[],os,0,0⟩ : TRequest).count ∧ (⟨e1,tNext L (tStep L a 12) 70,tNext L (tStep L (tStep L a 12) 70) 20,tNext L (tStep L (tStep L (tStep L a 12) 70) 20) 40,0,[],os,0,0⟩ : TRequest).count ≤ 25 := by
     refine ⟨(shapeR_iff (q := _) hfn).2 ?_,by simp; try omega,by simp; try omega,by simp; try omega,by simp; try omega⟩
     constructor
     case bits => simp only; (rw [if_neg (by omega),if_neg (by omega)]; rfl)
     case vals => simp only; (rw [if_neg (by omega),if_neg (by omega),if_pos (by omega)]; omega)
     all_goals first|(intro _; rfl)|(intro _; exact ⟨rfl,rfl⟩)|(simp only; omega)
   exact fin_names (nx1 := 1) (H1 := [(0,.obj [pS 1 false encI L,pN ap])]) [(0,0)] (ret_cell tab_37 (by decide) rfl rfl (Nat.le_of_ble_eq_true rfl) rfl ret_nil) rfl (by decide) ⟨⟨_,_,rfl,rfl,rfl,rfl⟩,trivial⟩ (by decide) rfl ⟨((⟨e1,tNext L (tStep L a 12) 70,tNext L (tStep L (tStep L a 12) 70) 20,tNext L (tStep L (tStep L (tStep L a 12) 70) 20) 40,0,[],os,0,0⟩ : TRequest)),(ap),hex,rfl,rfl,rfl⟩
 try simp only [sB] at c13
 refine w_skip (q_block (q_then (w_seq (w_R (qo hnt rfl (s_load_ptr tab_37 rfl rfl rfl (Nat.le_of_ble_eq_true rfl) ?_))))))
 refine qo hnt rfl (s_store_ptr tab_37 rfl rfl rfl rfl rfl (Nat.le_of_ble_eq_true rfl) ?_)
 refine r_set [(2,PV.ptr 1 0)] [(1,.obj [pI e1,pI 0,pI 0,pI 0,pI 0,pNil,pNil,p16 0,p16 0]),(0,.obj [pS 1 false encI L,pN (tStep L (tStep L a 12) 70)]),(2,.obj [pI e1,pI 0,pI 0,pI 0,pI 0,pNil,pNil,p16 0,p16 0])] 3 ⟨rfl,trivial⟩ rfl rfl (r_end (q_then (w_leO (n := 1) (ds := [pI e1,pI 0,pI 0,pI 0,pI 0,pS 1 false encBo [],pS 1 false enc16 [],p16 0,p16 0]) rfl ⟨le_refl _,le_refl _,le_refl _,le_refl _,le_refl _,le_nilS 1 false,le_nilS 1 false,le_refl _,le_refl _,trivial⟩ (w_ret ?_))))
 have hex : rightR (⟨e1,0,0,0,0,[],[],0,0⟩ : TRequest) = 0 ∧ (⟨e1,0,0,0,0,[],[],0,0⟩ : TRequest).bits.length ≤ 25 ∧ (⟨e1,0,0,0,0,[],[],0,0⟩ : TRequest).vals.length ≤ 25 ∧ 0 ≤ (⟨e1,0,0,0,0,[],[],0,0⟩ : TRequest).count ∧ (⟨e1,0,0,0,0,[],[],0,0⟩ : TRequest).count ≤ 25 := by
   refine ⟨(shapeR_iff (q := _) hfn).2 ?_,by simp; try omega,by simp; try omega,by simp; try omega,by simp; try omega⟩
   constructor
   case bits => simp only; (rw [if_neg (by omega),if_neg (by omega)]; rfl)
   case vals => simp only; (rw [if_neg (by omega),if_neg (by omega),if_neg (by omega)]; rfl)
   all_goals first|(intro _; rfl)|(intro _; exact ⟨rfl,rfl⟩)|(simp only; omega)
 exact fin_names (nx1 := 1) (H1 := [(0,.obj [pS 1 false encI L,pN (tStep L (tStep L a 12) 70)])]) [(0,0)] (ret_cell tab_37 (by decide) rfl rfl (Nat.le_of_ble_eq_true rfl) rfl ret_nil) rfl (by decide) ⟨⟨_,_,rfl,rfl,rfl,rfl⟩,trivial⟩ (by decide) rfl ⟨((⟨e1,0,0,0,0,[],[],0,0⟩ : TRequest)),(tStep L (tStep L a 12) 70),hex,rfl,rfl,rfl⟩
end Go.Proofs.Ytlcmbkkimgdnmaa
