/- Walks: printed by a program of this session (wip/tools/walk2.py) out of its notes. -/
import Derived.Test.YtfbmlnajnlekbaaWOctet
set_option linter.unusedVariables false
set_option linter.unusedSimpArgs false
set_option maxRecDepth 10000
set_option maxHeartbeats 1000000
namespace Go.Proofs.Ytfbmlnajnlekbaa
open Go Go.Proofs.Ytfbmlnajnlekbaa.Pv

theorem w_burgagelaw1_same (b : List UInt8) (cl_b : Bool) (n : Int) (k : Int) (l : List Bool) (cl_l : Bool) (w : List UInt16) (cl_w : Bool) (hb : b.length ≤ 17592186043904) (hn : n ≤ 9223372036854775807) (hk0 : k ≤ 9223372036854775807) (hl : l.length ≤ 140737488351232) (hw : w.length * 2 ≤ 140737488351232) :
    T Try.prog 27 [pS 1 cl_b enc8 b, pI n, pI k, pS 1 cl_l encBo l, pS 1 cl_w enc16 w] 0 [] (Ret (pB true) 0 []) := by
  refine t_fun tabOk (n := 114) (rs := [.tmp 10]) Try.func27 rfl rfl rfl rfl (Nat.le_of_ble_eq_true rfl) ?_
  intro c hnt hk
  refine w_seq ?_
  refine w_R ?_
  refine r_op tabOk hnt rfl (s_assign rfl ?_) 
  refine r_end ?_
  refine q_then ?_
  refine w_seq ?_
  refine w_R ?_
  refine r_op tabOk hnt rfl (s_move rfl ?_) 
  refine r_op tabOk hnt rfl (s_move rfl ?_) 
  refine r_op tabOk hnt rfl (s_callF rfl rfl rfl (w_octet_Get b cl_b k (by first | omega | assumption | (simp; omega) | decide | (simp; done)) (by first | omega | assumption | (simp; omega) | decide | (simp; done))) rfl ?_) 
  refine r_op tabOk hnt rfl (s_move rfl ?_) 
  refine r_op tabOk hnt rfl (s_extract rfl rfl ?_) 
  refine r_op tabOk hnt rfl (s_extract rfl rfl ?_) 
  refine r_op tabOk hnt rfl (s_assign rfl ?_) 
  refine r_op tabOk hnt rfl (s_assign rfl ?_) 
  refine r_end ?_
  refine q_then ?_
  refine w_seq ?_
  refine w_R ?_
  refine r_op tabOk hnt rfl (s_move rfl ?_) 
  refine r_op tabOk hnt rfl (s_move rfl ?_) 
  refine r_op tabOk hnt rfl (s_callF rfl rfl rfl (w_burgageref1_Get b cl_b k (by first | omega | assumption | (simp; omega) | decide | (simp; done)) (by first | omega | assumption | (simp; omega) | decide | (simp; done))) rfl ?_) 
  refine r_op tabOk hnt rfl (s_move rfl ?_) 
  refine r_op tabOk hnt rfl (s_extract rfl rfl ?_) 
  refine r_op tabOk hnt rfl (s_extract rfl rfl ?_) 
  refine r_op tabOk hnt rfl (s_assign rfl ?_) 
  refine r_op tabOk hnt rfl (s_assign rfl ?_) 
  refine r_end ?_
  refine q_then ?_
  refine w_seq ?_
  refine w_R ?_
  refine r_op tabOk hnt rfl (s_move rfl ?_) 
  refine r_op tabOk hnt rfl (s_move rfl ?_) 
  refine r_op tabOk hnt rfl (s_callF rfl rfl rfl (w_octet_Open b cl_b n (by first | omega | assumption | (simp; omega) | decide | (simp; done)) (by first | omega | assumption | (simp; omega) | decide | (simp; done))) rfl ?_) 
  refine r_op tabOk hnt rfl (s_move rfl ?_) 
  refine r_op tabOk hnt rfl (s_extract rfl rfl ?_) 
  refine r_op tabOk hnt rfl (s_extract rfl rfl ?_) 
  refine r_op tabOk hnt rfl (s_assign rfl ?_) 
  refine r_op tabOk hnt rfl (s_assign rfl ?_) 
  refine r_end ?_
  refine q_then ?_
  refine w_seq ?_
  refine w_R ?_
  refine r_op tabOk hnt rfl (s_move rfl ?_) 
  refine r_op tabOk hnt rfl (s_move rfl ?_) 
  refine r_op tabOk hnt rfl (s_callF rfl rfl rfl (w_burgageref1_Open b cl_b n (by first | omega | assumption | (simp; omega) | decide | (simp; done)) (by first | omega | assumption | (simp; omega) | decide | (simp; done))) rfl ?_) 
  refine r_op tabOk hnt rfl (s_move rfl ?_) 
  refine r_op tabOk hnt rfl (s_extract rfl rfl ?_) 
  refine r_op tabOk hnt rfl (s_extract rfl rfl ?_) 
  refine r_op tabOk hnt rfl (s_assign rfl ?_) 
  refine r_op tabOk hnt rfl (s_assign rfl ?_) 
  refine r_set [(0, pS 1 cl_b enc8 b), (1, pI n), (3, pS 1 cl_l encBo l), (4, pS 1 cl_w enc16 w), (11, pI (getV b k)), (12, pB (getOk b k)), (13, pI (getV b k)), (14, pB (getOk b k)), (15, pS 1 false encBo (bopV b n)), (16, pB (bopOk b n)), (17, pS 1 false encBo (bopV b n)), (18, pB (bopOk b n))] [] 0 ⟨rfl, rfl, rfl, rfl, rfl, rfl, rfl, rfl, rfl, rfl, rfl, rfl, trivial⟩ rfl rfl ?_
  refine r_end ?_
  refine q_then ?_
  refine w_seq ?_
  refine w_R ?_
  refine r_op tabOk hnt rfl (s_move rfl ?_) 
  refine r_op tabOk hnt rfl (s_callF rfl rfl rfl (w_octet_Words b cl_b (by first | omega | assumption | (simp; omega) | decide | (simp; done))) rfl ?_) 
  refine r_op tabOk hnt rfl (s_move rfl ?_) 
  refine r_op tabOk hnt rfl (s_extract rfl rfl ?_) 
  refine r_op tabOk hnt rfl (s_extract rfl rfl ?_) 
  refine r_op tabOk hnt rfl (s_assign rfl ?_) 
  refine r_op tabOk hnt rfl (s_assign rfl ?_) 
  refine r_end ?_
  refine q_then ?_
  refine w_seq ?_
  refine w_R ?_
  refine r_op tabOk hnt rfl (s_move rfl ?_) 
  refine r_op tabOk hnt rfl (s_callF rfl rfl rfl (w_burgageref1_Words b cl_b (by first | omega | assumption | (simp; omega) | decide | (simp; done))) rfl ?_) 
  refine r_op tabOk hnt rfl (s_move rfl ?_) 
  refine r_op tabOk hnt rfl (s_extract rfl rfl ?_) 
  refine r_op tabOk hnt rfl (s_extract rfl rfl ?_) 
  refine r_op tabOk hnt rfl (s_assign rfl ?_) 
  refine r_op tabOk hnt rfl (s_assign rfl ?_) 
  refine r_end ?_
  refine q_then ?_
  refine w_seq ?_
  have hbv : (bopV b n).length ≤ 140737488351232 := by unfold bopV; split <;> simp; rename_i h; have h2 := of_decide_eq_true h; omega
  have hwv : (wordsV b).length ≤ 140737488351232 := by unfold wordsV; split <;> simp; omega
  refine W_drawn tabOk mixed hnt [[], [], [0, 1], [0, 1, 2], [0, 1, 2, 3], [0, 1, 2, 3], [0, 1, 2, 3, 4, 5], [0, 1, 2, 3, 4, 5, 6], [0, 1, 2, 3, 4, 5, 6, 7], [0, 1, 2, 3, 4, 5, 6, 7, 8], [0, 1, 2, 3, 4, 5, 6, 7, 8], [0, 1, 2, 3, 4, 5, 6, 7, 8, 9, 10], [0, 1, 2, 3, 4, 5, 6, 7, 8, 9, 10, 11], [0, 1, 2, 3, 4, 5, 6, 7, 8, 9, 10, 11, 12], [0, 1, 2, 3, 4, 5, 6, 7, 8, 9, 10, 11, 12, 13], [0, 1, 2, 3, 4, 5, 6, 7, 8, 9, 10, 11, 12, 13], [0, 1, 2, 3, 4, 5, 6, 7, 8, 9, 10, 11, 12, 13, 14, 15], [0, 1, 2, 3, 4, 5, 6, 7, 8, 9, 10, 11, 12, 13, 14, 15, 16], [0, 1, 2, 3, 4, 5, 6, 7, 8, 9, 10, 11, 12, 13, 14, 15, 16, 17], [0, 1, 2, 3, 4, 5, 6, 7, 8, 9, 10, 11, 12, 13, 14, 15, 16, 17, 18], [0, 1, 2, 3, 4, 5, 6, 7, 8, 9, 10, 11, 12, 13, 14, 15, 16, 17, 18], [0, 1, 2, 3, 4, 5, 6, 7, 8, 9, 10, 11, 12, 13, 14, 15, 16, 17, 18, 19, 20], [0, 1, 2, 3, 4, 5, 6, 7, 8, 9, 10, 11, 12, 13, 14, 15, 16, 17, 18, 19, 20, 21], [0, 1, 2, 3, 4, 5, 6, 7, 8, 9, 10, 11, 12, 13, 14, 15, 16, 17, 18, 19, 20, 21, 22], [0, 1, 2, 3, 4, 5, 6, 7, 8, 9, 10, 11, 12, 13, 14, 15, 16, 17, 18, 19, 20, 21, 22, 23], [0, 1, 2, 3, 4, 5, 6, 7, 8, 9, 10, 11, 12, 13, 14, 15, 16, 17, 18, 19, 20, 21, 22, 23], [0, 1, 2, 3, 4, 5, 6, 7, 8, 9, 10, 11, 12, 13, 14, 15, 16, 17, 18, 19, 20, 21, 22, 23, 24, 25], [0, 1, 2, 3, 4, 5, 6, 7, 8, 9, 10, 11, 12, 13, 14, 15, 16, 17, 18, 19, 20, 21, 22, 23, 24, 25, 26], [0, 1, 2, 3, 4, 5, 6, 7, 8, 9, 10, 11, 12, 13, 14, 15, 16, 17, 18, 19, 20, 21, 22, 23, 24, 25, 26, 27], [0, 1, 2, 3, 4, 5, 6, 7, 8, 9, 10, 11, 12, 13, 14, 15, 16, 17, 18, 19, 20, 21, 22, 23, 24, 25, 26, 27, 28], [0, 1, 2, 3, 4, 5, 6, 7, 8, 9, 10, 11, 12, 13, 14, 15, 16, 17, 18, 19, 20, 21, 22, 23, 24, 25, 26, 27, 28], [0, 1, 2, 3, 4, 5, 6, 7, 8, 9, 10, 11, 12, 13, 14, 15, 16, 17, 18, 19, 20, 21, 22, 23, 24, 25, 26, 27, 28, 29, 30], [0, 1, 2, 3, 4, 5, 6, 7, 8, 9, 10, 11, 12, 13, 14, 15, 16, 17, 18, 19, 20, 21, 22, 23, 24, 25, 26, 27, 28, 29, 30, 31], [0, 1, 2, 3, 4, 5, 6, 7, 8, 9, 10, 11, 12, 13, 14, 15, 16, 17, 18, 19, 20, 21, 22, 23, 24, 25, 26, 27, 28], [0, 1, 2, 3, 4, 5, 6, 7, 8, 9, 10, 11, 12, 13, 14, 15, 16, 17, 18, 19, 20, 21, 22, 23, 24, 25, 26, 27, 28], [0, 1, 2, 3, 4, 5, 6, 7, 8, 9, 10, 11, 12, 13, 14, 15, 16, 17, 18, 19, 20, 21, 22, 23, 24, 25, 26, 27, 28, 29, 30, 31, 33, 34], [0, 1, 2, 3, 4, 5, 6, 7, 8, 9, 10, 11, 12, 13, 14, 15, 16, 17, 18, 19, 20, 21, 22, 23, 24, 25, 26, 27, 28, 29, 30, 31, 33, 34, 35], [0, 1, 2, 3, 4, 5, 6, 7, 8, 9, 10, 11, 12, 13, 14, 15, 16, 17, 18, 19, 20, 21, 22, 23, 24, 25, 26, 27, 28, 29, 30, 31, 32, 33, 34, 35, 36], [0, 1, 2, 3, 4, 5, 6, 7, 8, 9, 10, 11, 12, 13, 14, 15, 16, 17, 18, 19, 20, 21, 22, 23, 24, 25, 26, 27, 28, 29, 30, 31, 32, 33, 34, 35, 36, 37], [0, 1, 2, 3, 4, 5, 6, 7, 8, 9, 10, 11, 12, 13, 14, 15, 16, 17, 18, 19, 20, 21, 22, 23, 24, 25, 26, 27, 28, 29, 30, 31, 32, 33, 34, 35, 36, 37, 38], [0, 1, 2, 3, 4, 5, 6, 7, 8, 9, 10, 11, 12, 13, 14, 15, 16, 17, 18, 19, 20, 21, 22, 23, 24, 25, 26, 27, 28, 29, 30, 31, 32, 33, 34, 35, 36, 37, 38, 39], [0, 1, 2, 3, 4, 5, 6, 7, 8, 9, 10, 11, 12, 13, 14, 15, 16, 17, 18, 19, 20, 21, 22, 23, 24, 25, 26, 27, 28, 29, 30, 31, 32, 33, 34, 35, 36, 37, 38, 39, 40], [0, 1, 2, 3, 4, 5, 6, 7, 8, 9, 10, 11, 12, 13, 14, 15, 16, 17, 18, 19, 20, 21, 22, 23, 24, 25, 26, 27, 28, 29, 30, 31, 32, 33, 34, 35, 36, 37, 38, 39, 40, 41], [0, 1, 2, 3, 4, 5, 6, 7, 8, 9, 10, 11, 12, 13, 14, 15, 16, 17, 18, 19, 20, 21, 22, 23, 24, 25, 26, 27, 28, 29, 30, 31, 32, 33, 34, 35, 36, 37, 38, 39], [0, 1, 2, 3, 4, 5, 6, 7, 8, 9, 10, 11, 12, 13, 14, 15, 16, 17, 18, 19, 20, 21, 22, 23, 24, 25, 26, 27, 28, 29, 30, 31, 32, 33, 34, 35, 36, 37, 38, 39, 40, 41, 43], [0, 1, 2, 3, 4, 5, 6, 7, 8, 9, 10, 11, 12, 13, 14, 15, 16, 17, 18, 19, 20, 21, 22, 23, 24, 25, 26, 27, 28, 29, 30, 31, 32, 33, 34, 35, 36, 37, 38, 39, 40, 41, 43, 44], [0, 1, 2, 3, 4, 5, 6, 7, 8, 9, 10, 11, 12, 13, 14, 15, 16, 17, 18, 19, 20, 21, 22, 23, 24, 25, 26, 27, 28, 29, 30, 31, 32, 33, 34, 35, 36, 37, 38, 39, 40, 41, 42, 43, 44, 45], [0, 1, 2, 3, 4, 5, 6, 7, 8, 9, 10, 11, 12, 13, 14, 15, 16, 17, 18, 19, 20, 21, 22, 23, 24, 25, 26, 27, 28, 29, 30, 31, 32, 33, 34, 35, 36, 37, 38, 39, 40, 41, 42, 43, 44, 45, 46], [0, 1, 2, 3, 4, 5, 6, 7, 8, 9, 10, 11, 12, 13, 14, 15, 16, 17, 18, 19, 20, 21, 22, 23, 24, 25, 26, 27, 28, 29, 30, 31, 32, 33, 34, 35, 36, 37, 38, 39, 40, 41, 42, 43, 44, 45, 46, 47], [0, 1, 2, 3, 4, 5, 6, 7, 8, 9, 10, 11, 12, 13, 14, 15, 16, 17, 18, 19, 20, 21, 22, 23, 24, 25, 26, 27, 28, 29, 30, 31, 32, 33, 34, 35, 36, 37, 38, 39, 40, 41, 42, 43, 44, 45, 46, 47, 48], [0, 1, 2, 3, 4, 5, 6, 7, 8, 9, 10, 11, 12, 13, 14, 15, 16, 17, 18, 19, 20, 21, 22, 23, 24, 25, 26, 27, 28, 29, 30, 31, 32, 33, 34, 35, 36, 37, 38, 39, 40, 41, 42, 43, 44, 45, 46, 47, 48, 49], [0, 1, 2, 3, 4, 5, 6, 7, 8, 9, 10, 11, 12, 13, 14, 15, 16, 17, 18, 19, 20, 21, 22, 23, 24, 25, 26, 27, 28, 29, 30, 31, 32, 33, 34, 35, 36, 37, 38, 39, 40, 41, 42, 43, 44, 45, 46, 47, 48, 49, 50], [0, 1, 2, 3, 4, 5, 6, 7, 8, 9, 10, 11, 12, 13, 14, 15, 16, 17, 18, 19, 20, 21, 22, 23, 24, 25, 26, 27, 28, 29, 30, 31, 32, 33, 34, 35, 36, 37, 38, 39, 40, 41, 42, 43, 44, 45, 46, 47, 48], [0, 1, 2, 3, 4, 5, 6, 7, 8, 9, 10, 11, 12, 13, 14, 15, 16, 17, 18, 19, 20, 21, 22, 23, 24, 25, 26, 27, 28, 29, 30, 31, 32, 33, 34, 35, 36, 37, 38, 39, 40, 41, 42, 43, 44, 45, 46, 47, 48, 49, 50, 52], [0, 1, 2, 3, 4, 5, 6, 7, 8, 9, 10, 11, 12, 13, 14, 15, 16, 17, 18, 19, 20, 21, 22, 23, 24, 25, 26, 27, 28, 29, 30, 31, 32, 33, 34, 35, 36, 37, 38, 39, 40, 41, 42, 43, 44, 45, 46, 47, 48, 49, 50, 52, 53], [0, 1, 2, 3, 4, 5, 6, 7, 8, 9, 10, 11, 12, 13, 14, 15, 16, 17, 18, 19, 20, 21, 22, 23, 24, 25, 26, 27, 28, 29, 30, 31, 32, 33, 34, 35, 36, 37, 38, 39, 40, 41, 42, 43, 44, 45, 46, 47, 48, 49, 50, 51, 52, 53, 54], [0, 1, 2, 3, 4, 5, 6, 7, 8, 9, 10, 11, 12, 13, 14, 15, 16, 17, 18, 19, 20, 21, 22, 23, 24, 25, 26, 27, 28, 29, 30, 31, 32, 33, 34, 35, 36, 37, 38, 39, 40, 41, 42, 43, 44, 45, 46, 47, 48, 49, 50, 51, 52, 53, 54, 55], [0, 1, 2, 3, 4, 5, 6, 7, 8, 9, 10, 11, 12, 13, 14, 15, 16, 17, 18, 19, 20, 21, 22, 23, 24, 25, 26, 27, 28, 29, 30, 31, 32, 33, 34, 35, 36, 37, 38, 39, 40, 41, 42, 43, 44, 45, 46, 47, 48, 49, 50, 51, 52, 53, 54, 55, 56]] (by kernel_rfl) ?_
  refine d_op ?_
  refine x_run0 [(11, pI (getV b k))] [] rfl rfl rfl rfl (s_move rfl ⟨rfl, rfl, rfl⟩) ?_
  refine d_op ?_
  refine x_run0 [(13, pI (getV b k))] [] rfl rfl rfl rfl (s_move rfl ⟨rfl, rfl, rfl⟩) ?_
  refine d_op ?_
  refine x_run0 [(57, pI (getV b k)), (58, pI (getV b k))] [0, 1] rfl rfl rfl rfl (s_eql rfl rfl ⟨rfl, rfl, rfl⟩) ?_
  refine d_op ?_
  refine x_run0 [(59, pB (decide (getV b k = getV b k)))] [0, 1, 2] rfl rfl rfl rfl (s_move rfl ⟨rfl, rfl, rfl⟩) ?_
  refine x_if [(60, pB (decide (getV b k = getV b k))), (12, pB (getOk b k))] [0, 1, 2, 3] rfl rfl rfl rfl (fun g1 => ?_) (fun g1 => ?_)
  ·
    have g1' := g1
    try simp only [decide_eq_true_eq, decide_eq_false_iff_not, Bool.not_eq_true', Bool.not_eq_false', Bool.not_true, Bool.not_false, Bool.not_eq_eq_eq_not, Int.not_lt, Int.not_le] at g1'
    refine x_run0 [(60, pB (decide (getV b k = getV b k))), (12, pB (getOk b k))] [0, 1, 2, 3] rfl rfl rfl rfl (s_move rfl ⟨rfl, rfl, rfl⟩) ?_
    refine x_if [(60, pB (decide (getV b k = getV b k))), (14, pB (getOk b k))] [0, 1, 2, 3] rfl rfl rfl rfl (fun _ => ?_) (fun e => absurd (e.symm.trans g1) (by decide))
    refine x_run0 [(60, pB (decide (getV b k = getV b k))), (14, pB (getOk b k))] [0, 1, 2, 3] rfl rfl rfl rfl (s_move rfl ⟨rfl, rfl, rfl⟩) ?_
    refine x_if [(60, pB (decide (getV b k = getV b k))), (61, pB (getOk b k)), (62, pB (getOk b k))] [0, 1, 2, 3, 4, 5] rfl rfl rfl rfl (fun _ => ?_) (fun e => absurd (e.symm.trans g1) (by decide))
    refine x_run0 [(60, pB (decide (getV b k = getV b k))), (61, pB (getOk b k)), (62, pB (getOk b k))] [0, 1, 2, 3, 4, 5] rfl rfl rfl rfl (s_eqbool tab_4 rfl rfl rfl ⟨rfl, rfl, rfl⟩) ?_
    refine d_op ?_
    refine x_run0 [(60, pB (decide (getV b k = getV b k))), (63, pB ((getOk b k) == (getOk b k)))] [0, 1, 2, 3, 4, 5, 6] rfl rfl rfl rfl (s_pick_t rfl g1 rfl ⟨rfl, rfl, rfl⟩) ?_
    refine d_op ?_
    refine x_run0 [(64, pB ((getOk b k) == (getOk b k)))] [0, 1, 2, 3, 4, 5, 6, 7] rfl rfl rfl rfl (s_move rfl ⟨rfl, rfl, rfl⟩) ?_
    refine x_if [(65, pB ((getOk b k) == (getOk b k))), (15, pS 1 false encBo (bopV b n))] [0, 1, 2, 3, 4, 5, 6, 7, 8] rfl rfl rfl rfl (fun g2 => ?_) (fun g2 => ?_)
    ·
      have g2' := g2
      try simp only [decide_eq_true_eq, decide_eq_false_iff_not, Bool.not_eq_true', Bool.not_eq_false', Bool.not_true, Bool.not_false, Bool.not_eq_eq_eq_not, Int.not_lt, Int.not_le] at g2'
      refine x_run0 [(65, pB ((getOk b k) == (getOk b k))), (15, pS 1 false encBo (bopV b n))] [0, 1, 2, 3, 4, 5, 6, 7, 8] rfl rfl rfl rfl (s_move rfl ⟨rfl, rfl, rfl⟩) ?_
      refine x_if [(65, pB ((getOk b k) == (getOk b k))), (17, pS 1 false encBo (bopV b n))] [0, 1, 2, 3, 4, 5, 6, 7, 8] rfl rfl rfl rfl (fun _ => ?_) (fun e => absurd (e.symm.trans g2) (by decide))
      refine x_run0 [(65, pB ((getOk b k) == (getOk b k))), (17, pS 1 false encBo (bopV b n))] [0, 1, 2, 3, 4, 5, 6, 7, 8] rfl rfl rfl rfl (s_move rfl ⟨rfl, rfl, rfl⟩) ?_
      refine x_if [(65, pB ((getOk b k) == (getOk b k))), (66, pS 1 false encBo (bopV b n)), (67, pS 1 false encBo (bopV b n))] [0, 1, 2, 3, 4, 5, 6, 7, 8, 9, 10] rfl rfl rfl rfl (fun _ => ?_) (fun e => absurd (e.symm.trans g2) (by decide))
      refine x_run0 [(65, pB ((getOk b k) == (getOk b k))), (66, pS 1 false encBo (bopV b n)), (67, pS 1 false encBo (bopV b n))] [0, 1, 2, 3, 4, 5, 6, 7, 8, 9, 10] rfl rfl rfl rfl (s_callF rfl rfl rfl (w_burgagebook_Same_bool (bopV b n) false (bopV b n) false (by first | omega | assumption | (simp; omega) | decide | (simp; done))) rfl ⟨rfl, rfl, rfl⟩) ?_
      refine d_op ?_
      refine x_run0 [(65, pB ((getOk b k) == (getOk b k))), (68, pB (decide ((bopV b n) = (bopV b n))))] [0, 1, 2, 3, 4, 5, 6, 7, 8, 9, 10, 11] rfl rfl rfl rfl (s_pick_t rfl g2 rfl ⟨rfl, rfl, rfl⟩) ?_
      refine d_op ?_
      refine x_run0 [(69, pB (decide ((bopV b n) = (bopV b n))))] [0, 1, 2, 3, 4, 5, 6, 7, 8, 9, 10, 11, 12] rfl rfl rfl rfl (s_move rfl ⟨rfl, rfl, rfl⟩) ?_
      refine x_if [(70, pB (decide ((bopV b n) = (bopV b n)))), (16, pB (bopOk b n))] [0, 1, 2, 3, 4, 5, 6, 7, 8, 9, 10, 11, 12, 13] rfl rfl rfl rfl (fun g3 => ?_) (fun g3 => ?_)
      ·
        have g3' := g3
        try simp only [decide_eq_true_eq, decide_eq_false_iff_not, Bool.not_eq_true', Bool.not_eq_false', Bool.not_true, Bool.not_false, Bool.not_eq_eq_eq_not, Int.not_lt, Int.not_le] at g3'
        refine x_run0 [(70, pB (decide ((bopV b n) = (bopV b n)))), (16, pB (bopOk b n))] [0, 1, 2, 3, 4, 5, 6, 7, 8, 9, 10, 11, 12, 13] rfl rfl rfl rfl (s_move rfl ⟨rfl, rfl, rfl⟩) ?_
        refine x_if [(70, pB (decide ((bopV b n) = (bopV b n)))), (18, pB (bopOk b n))] [0, 1, 2, 3, 4, 5, 6, 7, 8, 9, 10, 11, 12, 13] rfl rfl rfl rfl (fun _ => ?_) (fun e => absurd (e.symm.trans g3) (by decide))
        refine x_run0 [(70, pB (decide ((bopV b n) = (bopV b n)))), (18, pB (bopOk b n))] [0, 1, 2, 3, 4, 5, 6, 7, 8, 9, 10, 11, 12, 13] rfl rfl rfl rfl (s_move rfl ⟨rfl, rfl, rfl⟩) ?_
        refine x_if [(70, pB (decide ((bopV b n) = (bopV b n)))), (71, pB (bopOk b n)), (72, pB (bopOk b n))] [0, 1, 2, 3, 4, 5, 6, 7, 8, 9, 10, 11, 12, 13, 14, 15] rfl rfl rfl rfl (fun _ => ?_) (fun e => absurd (e.symm.trans g3) (by decide))
        refine x_run0 [(70, pB (decide ((bopV b n) = (bopV b n)))), (71, pB (bopOk b n)), (72, pB (bopOk b n))] [0, 1, 2, 3, 4, 5, 6, 7, 8, 9, 10, 11, 12, 13, 14, 15] rfl rfl rfl rfl (s_eqbool tab_4 rfl rfl rfl ⟨rfl, rfl, rfl⟩) ?_
        refine d_op ?_
        refine x_run0 [(70, pB (decide ((bopV b n) = (bopV b n)))), (73, pB ((bopOk b n) == (bopOk b n)))] [0, 1, 2, 3, 4, 5, 6, 7, 8, 9, 10, 11, 12, 13, 14, 15, 16] rfl rfl rfl rfl (s_pick_t rfl g3 rfl ⟨rfl, rfl, rfl⟩) ?_
        refine d_op ?_
        refine x_run0 [(74, pB ((bopOk b n) == (bopOk b n)))] [0, 1, 2, 3, 4, 5, 6, 7, 8, 9, 10, 11, 12, 13, 14, 15, 16, 17] rfl rfl rfl rfl (s_move rfl ⟨rfl, rfl, rfl⟩) ?_
        refine x_if [(75, pB ((bopOk b n) == (bopOk b n))), (19, pS 1 false enc16 (wordsV b))] [0, 1, 2, 3, 4, 5, 6, 7, 8, 9, 10, 11, 12, 13, 14, 15, 16, 17, 18] rfl rfl rfl rfl (fun g4 => ?_) (fun g4 => ?_)
        ·
          have g4' := g4
          try simp only [decide_eq_true_eq, decide_eq_false_iff_not, Bool.not_eq_true', Bool.not_eq_false', Bool.not_true, Bool.not_false, Bool.not_eq_eq_eq_not, Int.not_lt, Int.not_le] at g4'
          refine x_run0 [(75, pB ((bopOk b n) == (bopOk b n))), (19, pS 1 false enc16 (wordsV b))] [0, 1, 2, 3, 4, 5, 6, 7, 8, 9, 10, 11, 12, 13, 14, 15, 16, 17, 18] rfl rfl rfl rfl (s_move rfl ⟨rfl, rfl, rfl⟩) ?_
          refine x_if [(75, pB ((bopOk b n) == (bopOk b n))), (21, pS 1 false enc16 (wordsV b))] [0, 1, 2, 3, 4, 5, 6, 7, 8, 9, 10, 11, 12, 13, 14, 15, 16, 17, 18] rfl rfl rfl rfl (fun _ => ?_) (fun e => absurd (e.symm.trans g4) (by decide))
          refine x_run0 [(75, pB ((bopOk b n) == (bopOk b n))), (21, pS 1 false enc16 (wordsV b))] [0, 1, 2, 3, 4, 5, 6, 7, 8, 9, 10, 11, 12, 13, 14, 15, 16, 17, 18] rfl rfl rfl rfl (s_move rfl ⟨rfl, rfl, rfl⟩) ?_
          refine x_if [(75, pB ((bopOk b n) == (bopOk b n))), (76, pS 1 false enc16 (wordsV b)), (77, pS 1 false enc16 (wordsV b))] [0, 1, 2, 3, 4, 5, 6, 7, 8, 9, 10, 11, 12, 13, 14, 15, 16, 17, 18, 19, 20] rfl rfl rfl rfl (fun _ => ?_) (fun e => absurd (e.symm.trans g4) (by decide))
          refine x_run0 [(75, pB ((bopOk b n) == (bopOk b n))), (76, pS 1 false enc16 (wordsV b)), (77, pS 1 false enc16 (wordsV b))] [0, 1, 2, 3, 4, 5, 6, 7, 8, 9, 10, 11, 12, 13, 14, 15, 16, 17, 18, 19, 20] rfl rfl rfl rfl (s_callF rfl rfl rfl (w_burgagebook_Same_uint16 (wordsV b) false (wordsV b) false (by first | omega | assumption | (simp; omega) | decide | (simp; done))) rfl ⟨rfl, rfl, rfl⟩) ?_
          refine d_op ?_
          refine x_run0 [(75, pB ((bopOk b n) == (bopOk b n))), (78, pB (decide ((wordsV b) = (wordsV b))))] [0, 1, 2, 3, 4, 5, 6, 7, 8, 9, 10, 11, 12, 13, 14, 15, 16, 17, 18, 19, 20, 21] rfl rfl rfl rfl (s_pick_t rfl g4 rfl ⟨rfl, rfl, rfl⟩) ?_
          refine d_op ?_
          refine x_run0 [(79, pB (decide ((wordsV b) = (wordsV b))))] [0, 1, 2, 3, 4, 5, 6, 7, 8, 9, 10, 11, 12, 13, 14, 15, 16, 17, 18, 19, 20, 21, 22] rfl rfl rfl rfl (s_move rfl ⟨rfl, rfl, rfl⟩) ?_
          refine x_if [(80, pB (decide ((wordsV b) = (wordsV b)))), (20, pB (wordsOk b))] [0, 1, 2, 3, 4, 5, 6, 7, 8, 9, 10, 11, 12, 13, 14, 15, 16, 17, 18, 19, 20, 21, 22, 23] rfl rfl rfl rfl (fun g5 => ?_) (fun g5 => ?_)
          ·
            have g5' := g5
            try simp only [decide_eq_true_eq, decide_eq_false_iff_not, Bool.not_eq_true', Bool.not_eq_false', Bool.not_true, Bool.not_false, Bool.not_eq_eq_eq_not, Int.not_lt, Int.not_le] at g5'
            refine x_run0 [(80, pB (decide ((wordsV b) = (wordsV b)))), (20, pB (wordsOk b))] [0, 1, 2, 3, 4, 5, 6, 7, 8, 9, 10, 11, 12, 13, 14, 15, 16, 17, 18, 19, 20, 21, 22, 23] rfl rfl rfl rfl (s_move rfl ⟨rfl, rfl, rfl⟩) ?_
            refine x_if [(80, pB (decide ((wordsV b) = (wordsV b)))), (22, pB (wordsOk b))] [0, 1, 2, 3, 4, 5, 6, 7, 8, 9, 10, 11, 12, 13, 14, 15, 16, 17, 18, 19, 20, 21, 22, 23] rfl rfl rfl rfl (fun _ => ?_) (fun e => absurd (e.symm.trans g5) (by decide))
            refine x_run0 [(80, pB (decide ((wordsV b) = (wordsV b)))), (22, pB (wordsOk b))] [0, 1, 2, 3, 4, 5, 6, 7, 8, 9, 10, 11, 12, 13, 14, 15, 16, 17, 18, 19, 20, 21, 22, 23] rfl rfl rfl rfl (s_move rfl ⟨rfl, rfl, rfl⟩) ?_
            refine x_if [(80, pB (decide ((wordsV b) = (wordsV b)))), (81, pB (wordsOk b)), (82, pB (wordsOk b))] [0, 1, 2, 3, 4, 5, 6, 7, 8, 9, 10, 11, 12, 13, 14, 15, 16, 17, 18, 19, 20, 21, 22, 23, 24, 25] rfl rfl rfl rfl (fun _ => ?_) (fun e => absurd (e.symm.trans g5) (by decide))
            refine x_run0 [(80, pB (decide ((wordsV b) = (wordsV b)))), (81, pB (wordsOk b)), (82, pB (wordsOk b))] [0, 1, 2, 3, 4, 5, 6, 7, 8, 9, 10, 11, 12, 13, 14, 15, 16, 17, 18, 19, 20, 21, 22, 23, 24, 25] rfl rfl rfl rfl (s_eqbool tab_4 rfl rfl rfl ⟨rfl, rfl, rfl⟩) ?_
            refine d_op ?_
            refine x_run0 [(80, pB (decide ((wordsV b) = (wordsV b)))), (83, pB ((wordsOk b) == (wordsOk b)))] [0, 1, 2, 3, 4, 5, 6, 7, 8, 9, 10, 11, 12, 13, 14, 15, 16, 17, 18, 19, 20, 21, 22, 23, 24, 25, 26] rfl rfl rfl rfl (s_pick_t rfl g5 rfl ⟨rfl, rfl, rfl⟩) ?_
            refine d_op ?_
            refine x_run0 [(84, pB ((wordsOk b) == (wordsOk b)))] [0, 1, 2, 3, 4, 5, 6, 7, 8, 9, 10, 11, 12, 13, 14, 15, 16, 17, 18, 19, 20, 21, 22, 23, 24, 25, 26, 27] rfl rfl rfl rfl (s_move rfl ⟨rfl, rfl, rfl⟩) ?_
            refine x_if [(85, pB ((wordsOk b) == (wordsOk b))), (0, pS 1 cl_b enc8 b)] [0, 1, 2, 3, 4, 5, 6, 7, 8, 9, 10, 11, 12, 13, 14, 15, 16, 17, 18, 19, 20, 21, 22, 23, 24, 25, 26, 27, 28] rfl rfl rfl rfl (fun g6 => ?_) (fun g6 => ?_)
            ·
              have g6' := g6
              try simp only [decide_eq_true_eq, decide_eq_false_iff_not, Bool.not_eq_true', Bool.not_eq_false', Bool.not_true, Bool.not_false, Bool.not_eq_eq_eq_not, Int.not_lt, Int.not_le] at g6'
              refine x_run0 [(85, pB ((wordsOk b) == (wordsOk b))), (0, pS 1 cl_b enc8 b)] [0, 1, 2, 3, 4, 5, 6, 7, 8, 9, 10, 11, 12, 13, 14, 15, 16, 17, 18, 19, 20, 21, 22, 23, 24, 25, 26, 27, 28] rfl rfl rfl rfl (s_move rfl ⟨rfl, rfl, rfl⟩) ?_
              refine x_if [(85, pB ((wordsOk b) == (wordsOk b))), (1, pI n)] [0, 1, 2, 3, 4, 5, 6, 7, 8, 9, 10, 11, 12, 13, 14, 15, 16, 17, 18, 19, 20, 21, 22, 23, 24, 25, 26, 27, 28] rfl rfl rfl rfl (fun _ => ?_) (fun e => absurd (e.symm.trans g6) (by decide))
              refine x_run0 [(85, pB ((wordsOk b) == (wordsOk b))), (1, pI n)] [0, 1, 2, 3, 4, 5, 6, 7, 8, 9, 10, 11, 12, 13, 14, 15, 16, 17, 18, 19, 20, 21, 22, 23, 24, 25, 26, 27, 28] rfl rfl rfl rfl (s_move rfl ⟨rfl, rfl, rfl⟩) ?_
              refine x_if [(85, pB ((wordsOk b) == (wordsOk b))), (86, pS 1 cl_b enc8 b), (87, pI n)] [0, 1, 2, 3, 4, 5, 6, 7, 8, 9, 10, 11, 12, 13, 14, 15, 16, 17, 18, 19, 20, 21, 22, 23, 24, 25, 26, 27, 28, 29, 30] rfl rfl rfl rfl (fun _ => ?_) (fun e => absurd (e.symm.trans g6) (by decide))
              refine x_run [(85, pB ((wordsOk b) == (wordsOk b))), (86, pS 1 cl_b enc8 b), (87, pI n)] [0, 1, 2, 3, 4, 5, 6, 7, 8, 9, 10, 11, 12, 13, 14, 15, 16, 17, 18, 19, 20, 21, 22, 23, 24, 25, 26, 27, 28, 29, 30] [] [] [(0, oB true 1 enc8 (b ++ put2 n))] [(0, oB true 1 enc8 (b ++ put2 n))] [(0, oB true 1 enc8 (b ++ put2 n))] rfl rfl rfl rfl rfl rfl (s_callX (r2 := PV.ref 0 0 none) (nx1 := 1) (H2 := []) (H3 := [(0, oB true 1 enc8 (b ++ put2 n))]) [] [] rfl rfl rfl (handed_of (by decide) trivial) rfl rfl rfl rfl rfl rfl (w_octet_Put b cl_b n (by first | omega | assumption | (simp; omega) | decide | (simp; done))) rfl (dist_of rfl) rfl rfl rfl rfl ⟨rfl, rfl, rfl⟩) rfl trivial rfl rfl ?_
              refine x_if [(85, pB ((wordsOk b) == (wordsOk b))), (88, PV.ref 0 0 none)] [0, 1, 2, 3, 4, 5, 6, 7, 8, 9, 10, 11, 12, 13, 14, 15, 16, 17, 18, 19, 20, 21, 22, 23, 24, 25, 26, 27, 28, 29, 30, 31] rfl rfl rfl rfl (fun _ => ?_) (fun e => absurd (e.symm.trans g6) (by decide))
              refine x_run [(85, pB ((wordsOk b) == (wordsOk b))), (88, PV.ref 0 0 none)] [0, 1, 2, 3, 4, 5, 6, 7, 8, 9, 10, 11, 12, 13, 14, 15, 16, 17, 18, 19, 20, 21, 22, 23, 24, 25, 26, 27, 28, 29, 30, 31] [(0, oB true 1 enc8 (b ++ put2 n))] [] [(0, oB true 1 enc8 (b ++ put2 n))] [] [(0, oB true 1 enc8 (b ++ put2 n))] rfl rfl rfl rfl rfl rfl (s_cvT tab_27 tab_9 rfl tab_5 rfl rfl (hM_ref0 (f := enc8) rfl rfl) ⟨rfl, rfl, rfl⟩) rfl ⟨rfl, trivial⟩ rfl rfl ?_
              refine x_if [(85, pB ((wordsOk b) == (wordsOk b))), (0, pS 1 cl_b enc8 b)] [0, 1, 2, 3, 4, 5, 6, 7, 8, 9, 10, 11, 12, 13, 14, 15, 16, 17, 18, 19, 20, 21, 22, 23, 24, 25, 26, 27, 28] rfl rfl rfl rfl (fun _ => ?_) (fun e => absurd (e.symm.trans g6) (by decide))
              refine x_run0 [(85, pB ((wordsOk b) == (wordsOk b))), (0, pS 1 cl_b enc8 b)] [0, 1, 2, 3, 4, 5, 6, 7, 8, 9, 10, 11, 12, 13, 14, 15, 16, 17, 18, 19, 20, 21, 22, 23, 24, 25, 26, 27, 28] rfl rfl rfl rfl (s_move rfl ⟨rfl, rfl, rfl⟩) ?_
              refine x_if [(85, pB ((wordsOk b) == (wordsOk b))), (1, pI n)] [0, 1, 2, 3, 4, 5, 6, 7, 8, 9, 10, 11, 12, 13, 14, 15, 16, 17, 18, 19, 20, 21, 22, 23, 24, 25, 26, 27, 28] rfl rfl rfl rfl (fun _ => ?_) (fun e => absurd (e.symm.trans g6) (by decide))
              refine x_run0 [(85, pB ((wordsOk b) == (wordsOk b))), (1, pI n)] [0, 1, 2, 3, 4, 5, 6, 7, 8, 9, 10, 11, 12, 13, 14, 15, 16, 17, 18, 19, 20, 21, 22, 23, 24, 25, 26, 27, 28] rfl rfl rfl rfl (s_move rfl ⟨rfl, rfl, rfl⟩) ?_
              refine x_if [(85, pB ((wordsOk b) == (wordsOk b))), (90, pS 1 cl_b enc8 b), (91, pI n)] [0, 1, 2, 3, 4, 5, 6, 7, 8, 9, 10, 11, 12, 13, 14, 15, 16, 17, 18, 19, 20, 21, 22, 23, 24, 25, 26, 27, 28, 29, 30, 31, 33, 34] rfl rfl rfl rfl (fun _ => ?_) (fun e => absurd (e.symm.trans g6) (by decide))
              refine x_run [(85, pB ((wordsOk b) == (wordsOk b))), (90, pS 1 cl_b enc8 b), (91, pI n)] [0, 1, 2, 3, 4, 5, 6, 7, 8, 9, 10, 11, 12, 13, 14, 15, 16, 17, 18, 19, 20, 21, 22, 23, 24, 25, 26, 27, 28, 29, 30, 31, 33, 34] [] [] [(1, oB true 1 enc8 (b ++ put2 n))] [(1, oB true 1 enc8 (b ++ put2 n))] [(1, oB true 1 enc8 (b ++ put2 n)), (0, oB true 1 enc8 (b ++ put2 n))] rfl rfl rfl rfl rfl rfl (s_callX (r2 := PV.ref 1 0 none) (nx1 := 2) (H2 := []) (H3 := [(1, oB true 1 enc8 (b ++ put2 n))]) [] [] rfl rfl rfl (handed_of (by decide) trivial) rfl rfl rfl rfl rfl rfl (w_burgageref1_Put b cl_b n (by first | omega | assumption | (simp; omega) | decide | (simp; done))) rfl (dist_of rfl) rfl rfl rfl rfl ⟨rfl, rfl, rfl⟩) rfl trivial rfl rfl ?_
              refine x_if [(85, pB ((wordsOk b) == (wordsOk b))), (92, PV.ref 1 0 none)] [0, 1, 2, 3, 4, 5, 6, 7, 8, 9, 10, 11, 12, 13, 14, 15, 16, 17, 18, 19, 20, 21, 22, 23, 24, 25, 26, 27, 28, 29, 30, 31, 33, 34, 35] rfl rfl rfl rfl (fun _ => ?_) (fun e => absurd (e.symm.trans g6) (by decide))
              refine x_run [(85, pB ((wordsOk b) == (wordsOk b))), (92, PV.ref 1 0 none)] [0, 1, 2, 3, 4, 5, 6, 7, 8, 9, 10, 11, 12, 13, 14, 15, 16, 17, 18, 19, 20, 21, 22, 23, 24, 25, 26, 27, 28, 29, 30, 31, 33, 34, 35] [(1, oB true 1 enc8 (b ++ put2 n))] [] [(1, oB true 1 enc8 (b ++ put2 n))] [] [(1, oB true 1 enc8 (b ++ put2 n)), (0, oB true 1 enc8 (b ++ put2 n))] rfl rfl rfl rfl rfl rfl (s_cvT tab_27 tab_9 rfl tab_5 rfl rfl (hM_ref0 (f := enc8) rfl rfl) ⟨rfl, rfl, rfl⟩) rfl ⟨rfl, trivial⟩ rfl rfl ?_
              refine x_if [(85, pB ((wordsOk b) == (wordsOk b))), (89, pT (b ++ put2 n)), (93, pT (b ++ put2 n))] [0, 1, 2, 3, 4, 5, 6, 7, 8, 9, 10, 11, 12, 13, 14, 15, 16, 17, 18, 19, 20, 21, 22, 23, 24, 25, 26, 27, 28, 29, 30, 31, 32, 33, 34, 35, 36] rfl rfl rfl rfl (fun _ => ?_) (fun e => absurd (e.symm.trans g6) (by decide))
              refine x_run0 [(85, pB ((wordsOk b) == (wordsOk b))), (89, pT (b ++ put2 n)), (93, pT (b ++ put2 n))] [0, 1, 2, 3, 4, 5, 6, 7, 8, 9, 10, 11, 12, 13, 14, 15, 16, 17, 18, 19, 20, 21, 22, 23, 24, 25, 26, 27, 28, 29, 30, 31, 32, 33, 34, 35, 36] rfl rfl rfl rfl (s_eqtext (l := b ++ put2 n) (m := b ++ put2 n) rfl rfl ⟨rfl, rfl, rfl⟩) ?_
              refine d_op ?_
              refine x_run0 [(85, pB ((wordsOk b) == (wordsOk b))), (94, pB (decide (b ++ put2 n = b ++ put2 n)))] [0, 1, 2, 3, 4, 5, 6, 7, 8, 9, 10, 11, 12, 13, 14, 15, 16, 17, 18, 19, 20, 21, 22, 23, 24, 25, 26, 27, 28, 29, 30, 31, 32, 33, 34, 35, 36, 37] rfl rfl rfl rfl (s_pick_t rfl g6 rfl ⟨rfl, rfl, rfl⟩) ?_
              refine d_op ?_
              refine x_run0 [(95, pB (decide (b ++ put2 n = b ++ put2 n)))] [0, 1, 2, 3, 4, 5, 6, 7, 8, 9, 10, 11, 12, 13, 14, 15, 16, 17, 18, 19, 20, 21, 22, 23, 24, 25, 26, 27, 28, 29, 30, 31, 32, 33, 34, 35, 36, 37, 38] rfl rfl rfl rfl (s_move rfl ⟨rfl, rfl, rfl⟩) ?_
              refine x_if [(96, pB (decide (b ++ put2 n = b ++ put2 n))), (3, pS 1 cl_l encBo l)] [0, 1, 2, 3, 4, 5, 6, 7, 8, 9, 10, 11, 12, 13, 14, 15, 16, 17, 18, 19, 20, 21, 22, 23, 24, 25, 26, 27, 28, 29, 30, 31, 32, 33, 34, 35, 36, 37, 38, 39] rfl rfl rfl rfl (fun g7 => ?_) (fun g7 => ?_)
              ·
                have g7' := g7
                try simp only [decide_eq_true_eq, decide_eq_false_iff_not, Bool.not_eq_true', Bool.not_eq_false', Bool.not_true, Bool.not_false, Bool.not_eq_eq_eq_not, Int.not_lt, Int.not_le] at g7'
                refine x_run0 [(96, pB (decide (b ++ put2 n = b ++ put2 n))), (3, pS 1 cl_l encBo l)] [0, 1, 2, 3, 4, 5, 6, 7, 8, 9, 10, 11, 12, 13, 14, 15, 16, 17, 18, 19, 20, 21, 22, 23, 24, 25, 26, 27, 28, 29, 30, 31, 32, 33, 34, 35, 36, 37, 38, 39] rfl rfl rfl rfl (s_move rfl ⟨rfl, rfl, rfl⟩) ?_
                refine x_if [(96, pB (decide (b ++ put2 n = b ++ put2 n))), (97, pS 1 cl_l encBo l)] [0, 1, 2, 3, 4, 5, 6, 7, 8, 9, 10, 11, 12, 13, 14, 15, 16, 17, 18, 19, 20, 21, 22, 23, 24, 25, 26, 27, 28, 29, 30, 31, 32, 33, 34, 35, 36, 37, 38, 39, 40] rfl rfl rfl rfl (fun _ => ?_) (fun e => absurd (e.symm.trans g7) (by decide))
                refine x_run [(96, pB (decide (b ++ put2 n = b ++ put2 n))), (97, pS 1 cl_l encBo l)] [0, 1, 2, 3, 4, 5, 6, 7, 8, 9, 10, 11, 12, 13, 14, 15, 16, 17, 18, 19, 20, 21, 22, 23, 24, 25, 26, 27, 28, 29, 30, 31, 32, 33, 34, 35, 36, 37, 38, 39, 40] [] [] [(2, oB true 1 enc8 (packL l))] [(2, oB true 1 enc8 (packL l))] [(2, oB true 1 enc8 (packL l)), (1, oB true 1 enc8 (b ++ put2 n)), (0, oB true 1 enc8 (b ++ put2 n))] rfl rfl rfl rfl rfl rfl (s_callX (r2 := PV.ref 2 0 none) (nx1 := 3) (H2 := []) (H3 := [(2, oB true 1 enc8 (packL l))]) [] [] rfl rfl rfl (handed_of (by decide) trivial) rfl rfl rfl rfl rfl rfl (w_octet_Pack l cl_l (by first | omega | assumption | (simp; omega) | decide | (simp; done))) rfl (dist_of rfl) rfl rfl rfl rfl ⟨rfl, rfl, rfl⟩) rfl trivial rfl rfl ?_
                refine x_if [(96, pB (decide (b ++ put2 n = b ++ put2 n))), (98, PV.ref 2 0 none)] [0, 1, 2, 3, 4, 5, 6, 7, 8, 9, 10, 11, 12, 13, 14, 15, 16, 17, 18, 19, 20, 21, 22, 23, 24, 25, 26, 27, 28, 29, 30, 31, 32, 33, 34, 35, 36, 37, 38, 39, 40, 41] rfl rfl rfl rfl (fun _ => ?_) (fun e => absurd (e.symm.trans g7) (by decide))
                refine x_run [(96, pB (decide (b ++ put2 n = b ++ put2 n))), (98, PV.ref 2 0 none)] [0, 1, 2, 3, 4, 5, 6, 7, 8, 9, 10, 11, 12, 13, 14, 15, 16, 17, 18, 19, 20, 21, 22, 23, 24, 25, 26, 27, 28, 29, 30, 31, 32, 33, 34, 35, 36, 37, 38, 39, 40, 41] [(2, oB true 1 enc8 (packL l))] [] [(2, oB true 1 enc8 (packL l))] [] [(2, oB true 1 enc8 (packL l)), (1, oB true 1 enc8 (b ++ put2 n)), (0, oB true 1 enc8 (b ++ put2 n))] rfl rfl rfl rfl rfl rfl (s_cvT tab_27 tab_9 rfl tab_5 rfl rfl (hM_ref0 (f := enc8) rfl rfl) ⟨rfl, rfl, rfl⟩) rfl ⟨rfl, trivial⟩ rfl rfl ?_
                refine x_if [(96, pB (decide (b ++ put2 n = b ++ put2 n))), (3, pS 1 cl_l encBo l)] [0, 1, 2, 3, 4, 5, 6, 7, 8, 9, 10, 11, 12, 13, 14, 15, 16, 17, 18, 19, 20, 21, 22, 23, 24, 25, 26, 27, 28, 29, 30, 31, 32, 33, 34, 35, 36, 37, 38, 39] rfl rfl rfl rfl (fun _ => ?_) (fun e => absurd (e.symm.trans g7) (by decide))
                refine x_run0 [(96, pB (decide (b ++ put2 n = b ++ put2 n))), (3, pS 1 cl_l encBo l)] [0, 1, 2, 3, 4, 5, 6, 7, 8, 9, 10, 11, 12, 13, 14, 15, 16, 17, 18, 19, 20, 21, 22, 23, 24, 25, 26, 27, 28, 29, 30, 31, 32, 33, 34, 35, 36, 37, 38, 39] rfl rfl rfl rfl (s_move rfl ⟨rfl, rfl, rfl⟩) ?_
                refine x_if [(96, pB (decide (b ++ put2 n = b ++ put2 n))), (100, pS 1 cl_l encBo l)] [0, 1, 2, 3, 4, 5, 6, 7, 8, 9, 10, 11, 12, 13, 14, 15, 16, 17, 18, 19, 20, 21, 22, 23, 24, 25, 26, 27, 28, 29, 30, 31, 32, 33, 34, 35, 36, 37, 38, 39, 40, 41, 43] rfl rfl rfl rfl (fun _ => ?_) (fun e => absurd (e.symm.trans g7) (by decide))
                refine x_run [(96, pB (decide (b ++ put2 n = b ++ put2 n))), (100, pS 1 cl_l encBo l)] [0, 1, 2, 3, 4, 5, 6, 7, 8, 9, 10, 11, 12, 13, 14, 15, 16, 17, 18, 19, 20, 21, 22, 23, 24, 25, 26, 27, 28, 29, 30, 31, 32, 33, 34, 35, 36, 37, 38, 39, 40, 41, 43] [] [] [(3, oB true 1 enc8 (packL l))] [(3, oB true 1 enc8 (packL l))] [(3, oB true 1 enc8 (packL l)), (2, oB true 1 enc8 (packL l)), (1, oB true 1 enc8 (b ++ put2 n)), (0, oB true 1 enc8 (b ++ put2 n))] rfl rfl rfl rfl rfl rfl (s_callX (r2 := PV.ref 3 0 none) (nx1 := 4) (H2 := []) (H3 := [(3, oB true 1 enc8 (packL l))]) [] [] rfl rfl rfl (handed_of (by decide) trivial) rfl rfl rfl rfl rfl rfl (w_burgageref1_Pack l cl_l (by first | omega | assumption | (simp; omega) | decide | (simp; done))) rfl (dist_of rfl) rfl rfl rfl rfl ⟨rfl, rfl, rfl⟩) rfl trivial rfl rfl ?_
                refine x_if [(96, pB (decide (b ++ put2 n = b ++ put2 n))), (101, PV.ref 3 0 none)] [0, 1, 2, 3, 4, 5, 6, 7, 8, 9, 10, 11, 12, 13, 14, 15, 16, 17, 18, 19, 20, 21, 22, 23, 24, 25, 26, 27, 28, 29, 30, 31, 32, 33, 34, 35, 36, 37, 38, 39, 40, 41, 43, 44] rfl rfl rfl rfl (fun _ => ?_) (fun e => absurd (e.symm.trans g7) (by decide))
                refine x_run [(96, pB (decide (b ++ put2 n = b ++ put2 n))), (101, PV.ref 3 0 none)] [0, 1, 2, 3, 4, 5, 6, 7, 8, 9, 10, 11, 12, 13, 14, 15, 16, 17, 18, 19, 20, 21, 22, 23, 24, 25, 26, 27, 28, 29, 30, 31, 32, 33, 34, 35, 36, 37, 38, 39, 40, 41, 43, 44] [(3, oB true 1 enc8 (packL l))] [] [(3, oB true 1 enc8 (packL l))] [] [(3, oB true 1 enc8 (packL l)), (2, oB true 1 enc8 (packL l)), (1, oB true 1 enc8 (b ++ put2 n)), (0, oB true 1 enc8 (b ++ put2 n))] rfl rfl rfl rfl rfl rfl (s_cvT tab_27 tab_9 rfl tab_5 rfl rfl (hM_ref0 (f := enc8) rfl rfl) ⟨rfl, rfl, rfl⟩) rfl ⟨rfl, trivial⟩ rfl rfl ?_
                refine x_if [(96, pB (decide (b ++ put2 n = b ++ put2 n))), (99, pT (packL l)), (102, pT (packL l))] [0, 1, 2, 3, 4, 5, 6, 7, 8, 9, 10, 11, 12, 13, 14, 15, 16, 17, 18, 19, 20, 21, 22, 23, 24, 25, 26, 27, 28, 29, 30, 31, 32, 33, 34, 35, 36, 37, 38, 39, 40, 41, 42, 43, 44, 45] rfl rfl rfl rfl (fun _ => ?_) (fun e => absurd (e.symm.trans g7) (by decide))
                refine x_run0 [(96, pB (decide (b ++ put2 n = b ++ put2 n))), (99, pT (packL l)), (102, pT (packL l))] [0, 1, 2, 3, 4, 5, 6, 7, 8, 9, 10, 11, 12, 13, 14, 15, 16, 17, 18, 19, 20, 21, 22, 23, 24, 25, 26, 27, 28, 29, 30, 31, 32, 33, 34, 35, 36, 37, 38, 39, 40, 41, 42, 43, 44, 45] rfl rfl rfl rfl (s_eqtext (l := packL l) (m := packL l) rfl rfl ⟨rfl, rfl, rfl⟩) ?_
                refine d_op ?_
                refine x_run0 [(96, pB (decide (b ++ put2 n = b ++ put2 n))), (103, pB (decide (packL l = packL l)))] [0, 1, 2, 3, 4, 5, 6, 7, 8, 9, 10, 11, 12, 13, 14, 15, 16, 17, 18, 19, 20, 21, 22, 23, 24, 25, 26, 27, 28, 29, 30, 31, 32, 33, 34, 35, 36, 37, 38, 39, 40, 41, 42, 43, 44, 45, 46] rfl rfl rfl rfl (s_pick_t rfl g7 rfl ⟨rfl, rfl, rfl⟩) ?_
                refine d_op ?_
                refine x_run0 [(104, pB (decide (packL l = packL l)))] [0, 1, 2, 3, 4, 5, 6, 7, 8, 9, 10, 11, 12, 13, 14, 15, 16, 17, 18, 19, 20, 21, 22, 23, 24, 25, 26, 27, 28, 29, 30, 31, 32, 33, 34, 35, 36, 37, 38, 39, 40, 41, 42, 43, 44, 45, 46, 47] rfl rfl rfl rfl (s_move rfl ⟨rfl, rfl, rfl⟩) ?_
                refine x_if [(105, pB (decide (packL l = packL l))), (4, pS 1 cl_w enc16 w)] [0, 1, 2, 3, 4, 5, 6, 7, 8, 9, 10, 11, 12, 13, 14, 15, 16, 17, 18, 19, 20, 21, 22, 23, 24, 25, 26, 27, 28, 29, 30, 31, 32, 33, 34, 35, 36, 37, 38, 39, 40, 41, 42, 43, 44, 45, 46, 47, 48] rfl rfl rfl rfl (fun g8 => ?_) (fun g8 => ?_)
                ·
                  have g8' := g8
                  try simp only [decide_eq_true_eq, decide_eq_false_iff_not, Bool.not_eq_true', Bool.not_eq_false', Bool.not_true, Bool.not_false, Bool.not_eq_eq_eq_not, Int.not_lt, Int.not_le] at g8'
                  refine x_run0 [(105, pB (decide (packL l = packL l))), (4, pS 1 cl_w enc16 w)] [0, 1, 2, 3, 4, 5, 6, 7, 8, 9, 10, 11, 12, 13, 14, 15, 16, 17, 18, 19, 20, 21, 22, 23, 24, 25, 26, 27, 28, 29, 30, 31, 32, 33, 34, 35, 36, 37, 38, 39, 40, 41, 42, 43, 44, 45, 46, 47, 48] rfl rfl rfl rfl (s_move rfl ⟨rfl, rfl, rfl⟩) ?_
                  refine x_if [(105, pB (decide (packL l = packL l))), (106, pS 1 cl_w enc16 w)] [0, 1, 2, 3, 4, 5, 6, 7, 8, 9, 10, 11, 12, 13, 14, 15, 16, 17, 18, 19, 20, 21, 22, 23, 24, 25, 26, 27, 28, 29, 30, 31, 32, 33, 34, 35, 36, 37, 38, 39, 40, 41, 42, 43, 44, 45, 46, 47, 48, 49] rfl rfl rfl rfl (fun _ => ?_) (fun e => absurd (e.symm.trans g8) (by decide))
                  refine x_run [(105, pB (decide (packL l = packL l))), (106, pS 1 cl_w enc16 w)] [0, 1, 2, 3, 4, 5, 6, 7, 8, 9, 10, 11, 12, 13, 14, 15, 16, 17, 18, 19, 20, 21, 22, 23, 24, 25, 26, 27, 28, 29, 30, 31, 32, 33, 34, 35, 36, 37, 38, 39, 40, 41, 42, 43, 44, 45, 46, 47, 48, 49] [] [] [(4, oB true 1 enc8 (bytesL w))] [(4, oB true 1 enc8 (bytesL w))] [(4, oB true 1 enc8 (bytesL w)), (3, oB true 1 enc8 (packL l)), (2, oB true 1 enc8 (packL l)), (1, oB true 1 enc8 (b ++ put2 n)), (0, oB true 1 enc8 (b ++ put2 n))] rfl rfl rfl rfl rfl rfl (s_callX (r2 := PV.ref 4 0 none) (nx1 := 5) (H2 := []) (H3 := [(4, oB true 1 enc8 (bytesL w))]) [] [] rfl rfl rfl (handed_of (by decide) trivial) rfl rfl rfl rfl rfl rfl (w_octet_Bytes w cl_w (by first | omega | assumption | (simp; omega) | decide | (simp; done))) rfl (dist_of rfl) rfl rfl rfl rfl ⟨rfl, rfl, rfl⟩) rfl trivial rfl rfl ?_
                  refine x_if [(105, pB (decide (packL l = packL l))), (107, PV.ref 4 0 none)] [0, 1, 2, 3, 4, 5, 6, 7, 8, 9, 10, 11, 12, 13, 14, 15, 16, 17, 18, 19, 20, 21, 22, 23, 24, 25, 26, 27, 28, 29, 30, 31, 32, 33, 34, 35, 36, 37, 38, 39, 40, 41, 42, 43, 44, 45, 46, 47, 48, 49, 50] rfl rfl rfl rfl (fun _ => ?_) (fun e => absurd (e.symm.trans g8) (by decide))
                  refine x_run [(105, pB (decide (packL l = packL l))), (107, PV.ref 4 0 none)] [0, 1, 2, 3, 4, 5, 6, 7, 8, 9, 10, 11, 12, 13, 14, 15, 16, 17, 18, 19, 20, 21, 22, 23, 24, 25, 26, 27, 28, 29, 30, 31, 32, 33, 34, 35, 36, 37, 38, 39, 40, 41, 42, 43, 44, 45, 46, 47, 48, 49, 50] [(4, oB true 1 enc8 (bytesL w))] [] [(4, oB true 1 enc8 (bytesL w))] [] [(4, oB true 1 enc8 (bytesL w)), (3, oB true 1 enc8 (packL l)), (2, oB true 1 enc8 (packL l)), (1, oB true 1 enc8 (b ++ put2 n)), (0, oB true 1 enc8 (b ++ put2 n))] rfl rfl rfl rfl rfl rfl (s_cvT tab_27 tab_9 rfl tab_5 rfl rfl (hM_ref0 (f := enc8) rfl rfl) ⟨rfl, rfl, rfl⟩) rfl ⟨rfl, trivial⟩ rfl rfl ?_
                  refine x_if [(105, pB (decide (packL l = packL l))), (4, pS 1 cl_w enc16 w)] [0, 1, 2, 3, 4, 5, 6, 7, 8, 9, 10, 11, 12, 13, 14, 15, 16, 17, 18, 19, 20, 21, 22, 23, 24, 25, 26, 27, 28, 29, 30, 31, 32, 33, 34, 35, 36, 37, 38, 39, 40, 41, 42, 43, 44, 45, 46, 47, 48] rfl rfl rfl rfl (fun _ => ?_) (fun e => absurd (e.symm.trans g8) (by decide))
                  refine x_run0 [(105, pB (decide (packL l = packL l))), (4, pS 1 cl_w enc16 w)] [0, 1, 2, 3, 4, 5, 6, 7, 8, 9, 10, 11, 12, 13, 14, 15, 16, 17, 18, 19, 20, 21, 22, 23, 24, 25, 26, 27, 28, 29, 30, 31, 32, 33, 34, 35, 36, 37, 38, 39, 40, 41, 42, 43, 44, 45, 46, 47, 48] rfl rfl rfl rfl (s_move rfl ⟨rfl, rfl, rfl⟩) ?_
                  refine x_if [(105, pB (decide (packL l = packL l))), (109, pS 1 cl_w enc16 w)] [0, 1, 2, 3, 4, 5, 6, 7, 8, 9, 10, 11, 12, 13, 14, 15, 16, 17, 18, 19, 20, 21, 22, 23, 24, 25, 26, 27, 28, 29, 30, 31, 32, 33, 34, 35, 36, 37, 38, 39, 40, 41, 42, 43, 44, 45, 46, 47, 48, 49, 50, 52] rfl rfl rfl rfl (fun _ => ?_) (fun e => absurd (e.symm.trans g8) (by decide))
                  refine x_run [(105, pB (decide (packL l = packL l))), (109, pS 1 cl_w enc16 w)] [0, 1, 2, 3, 4, 5, 6, 7, 8, 9, 10, 11, 12, 13, 14, 15, 16, 17, 18, 19, 20, 21, 22, 23, 24, 25, 26, 27, 28, 29, 30, 31, 32, 33, 34, 35, 36, 37, 38, 39, 40, 41, 42, 43, 44, 45, 46, 47, 48, 49, 50, 52] [] [] [(5, oB true 1 enc8 (bytesL w))] [(5, oB true 1 enc8 (bytesL w))] [(5, oB true 1 enc8 (bytesL w)), (4, oB true 1 enc8 (bytesL w)), (3, oB true 1 enc8 (packL l)), (2, oB true 1 enc8 (packL l)), (1, oB true 1 enc8 (b ++ put2 n)), (0, oB true 1 enc8 (b ++ put2 n))] rfl rfl rfl rfl rfl rfl (s_callX (r2 := PV.ref 5 0 none) (nx1 := 6) (H2 := []) (H3 := [(5, oB true 1 enc8 (bytesL w))]) [] [] rfl rfl rfl (handed_of (by decide) trivial) rfl rfl rfl rfl rfl rfl (w_burgageref1_Bytes w cl_w (by first | omega | assumption | (simp; omega) | decide | (simp; done))) rfl (dist_of rfl) rfl rfl rfl rfl ⟨rfl, rfl, rfl⟩) rfl trivial rfl rfl ?_
                  refine x_if [(105, pB (decide (packL l = packL l))), (110, PV.ref 5 0 none)] [0, 1, 2, 3, 4, 5, 6, 7, 8, 9, 10, 11, 12, 13, 14, 15, 16, 17, 18, 19, 20, 21, 22, 23, 24, 25, 26, 27, 28, 29, 30, 31, 32, 33, 34, 35, 36, 37, 38, 39, 40, 41, 42, 43, 44, 45, 46, 47, 48, 49, 50, 52, 53] rfl rfl rfl rfl (fun _ => ?_) (fun e => absurd (e.symm.trans g8) (by decide))
                  refine x_run [(105, pB (decide (packL l = packL l))), (110, PV.ref 5 0 none)] [0, 1, 2, 3, 4, 5, 6, 7, 8, 9, 10, 11, 12, 13, 14, 15, 16, 17, 18, 19, 20, 21, 22, 23, 24, 25, 26, 27, 28, 29, 30, 31, 32, 33, 34, 35, 36, 37, 38, 39, 40, 41, 42, 43, 44, 45, 46, 47, 48, 49, 50, 52, 53] [(5, oB true 1 enc8 (bytesL w))] [] [(5, oB true 1 enc8 (bytesL w))] [] [(5, oB true 1 enc8 (bytesL w)), (4, oB true 1 enc8 (bytesL w)), (3, oB true 1 enc8 (packL l)), (2, oB true 1 enc8 (packL l)), (1, oB true 1 enc8 (b ++ put2 n)), (0, oB true 1 enc8 (b ++ put2 n))] rfl rfl rfl rfl rfl rfl (s_cvT tab_27 tab_9 rfl tab_5 rfl rfl (hM_ref0 (f := enc8) rfl rfl) ⟨rfl, rfl, rfl⟩) rfl ⟨rfl, trivial⟩ rfl rfl ?_
                  refine x_if [(105, pB (decide (packL l = packL l))), (108, pT (bytesL w)), (111, pT (bytesL w))] [0, 1, 2, 3, 4, 5, 6, 7, 8, 9, 10, 11, 12, 13, 14, 15, 16, 17, 18, 19, 20, 21, 22, 23, 24, 25, 26, 27, 28, 29, 30, 31, 32, 33, 34, 35, 36, 37, 38, 39, 40, 41, 42, 43, 44, 45, 46, 47, 48, 49, 50, 51, 52, 53, 54] rfl rfl rfl rfl (fun _ => ?_) (fun e => absurd (e.symm.trans g8) (by decide))
                  refine x_run0 [(105, pB (decide (packL l = packL l))), (108, pT (bytesL w)), (111, pT (bytesL w))] [0, 1, 2, 3, 4, 5, 6, 7, 8, 9, 10, 11, 12, 13, 14, 15, 16, 17, 18, 19, 20, 21, 22, 23, 24, 25, 26, 27, 28, 29, 30, 31, 32, 33, 34, 35, 36, 37, 38, 39, 40, 41, 42, 43, 44, 45, 46, 47, 48, 49, 50, 51, 52, 53, 54] rfl rfl rfl rfl (s_eqtext (l := bytesL w) (m := bytesL w) rfl rfl ⟨rfl, rfl, rfl⟩) ?_
                  refine d_op ?_
                  refine x_run0 [(105, pB (decide (packL l = packL l))), (112, pB (decide (bytesL w = bytesL w)))] [0, 1, 2, 3, 4, 5, 6, 7, 8, 9, 10, 11, 12, 13, 14, 15, 16, 17, 18, 19, 20, 21, 22, 23, 24, 25, 26, 27, 28, 29, 30, 31, 32, 33, 34, 35, 36, 37, 38, 39, 40, 41, 42, 43, 44, 45, 46, 47, 48, 49, 50, 51, 52, 53, 54, 55] rfl rfl rfl rfl (s_pick_t rfl g8 rfl ⟨rfl, rfl, rfl⟩) ?_
                  refine d_op ?_
                  refine x_run0 [(113, pB (decide (bytesL w = bytesL w)))] [0, 1, 2, 3, 4, 5, 6, 7, 8, 9, 10, 11, 12, 13, 14, 15, 16, 17, 18, 19, 20, 21, 22, 23, 24, 25, 26, 27, 28, 29, 30, 31, 32, 33, 34, 35, 36, 37, 38, 39, 40, 41, 42, 43, 44, 45, 46, 47, 48, 49, 50, 51, 52, 53, 54, 55, 56] rfl rfl rfl rfl (s_assign rfl ⟨rfl, rfl, rfl⟩) ?_
                  refine d_end ⟨by kernel_rfl, ?_⟩
                  refine q_then ?_
                  refine w_le (s := 10) (y := pB true) rfl (le_of_eq (congrArg (fun z : Bool => pB z) (show (decide (bytesL w = bytesL w)) = true by simp))) ?_
                  refine w_ret ?_
                  exact fin_plain (ret_tmp rfl ret_nil) rfl rfl ⟨rfl, rfl, rfl⟩
                ·
                  exact absurd g8 (by simp)
              ·
                exact absurd g7 (by simp)
            ·
              exact absurd g6 (by simp)
          ·
            exact absurd g5 (by simp)
        ·
          exact absurd g4 (by simp)
      ·
        exact absurd g3 (by simp)
    ·
      exact absurd g2 (by simp)
  ·
    exact absurd g1 (by simp)

theorem w_burgagelaw1_known   :
    T Try.prog 28 [] 0 [] (Ret (pB true) 0 []) := by
  refine t_fun tabOk (n := 100) (rs := [.tmp 0]) Try.func28 rfl rfl rfl rfl (Nat.le_of_ble_eq_true rfl) ?_
  intro c hnt hk
  refine w_seq ?_
  refine w_R ?_
  refine r_op tabOk hnt rfl (s_assign rfl ?_) 
  refine r_end ?_
  refine q_then ?_
  refine w_seq ?_
  refine w_R ?_
  refine r_op tabOk hnt rfl (s_mkM (f := enc8) ([9, 1, 2] : List UInt8) tab_27 rfl tab_5 ⟨rfl, by decide⟩ (by decide) rfl rfl rfl rfl ?_) 
  refine r_op tabOk hnt rfl (s_callX (r2 := PV.tup [pI (getV ([9, 1, 2] : List UInt8) 1), pB (getOk ([9, 1, 2] : List UInt8) 1)]) (nx1 := 1) (H2 := [(0, oB false 1 enc8 ([9, 1, 2] : List UInt8))]) (H3 := [(0, oB false 1 enc8 ([9, 1, 2] : List UInt8))]) [] [] rfl rfl rfl (handed_of (by decide) trivial) rfl rfl rfl rfl rfl rfl (w_octet_Get ([9, 1, 2] : List UInt8) false 1 (by first | omega | assumption | (simp; omega) | decide | (simp; done)) (by first | omega | assumption | (simp; omega) | decide | (simp; done))) rfl (dist_of rfl) rfl rfl rfl rfl ?_) 
  refine r_op tabOk hnt rfl (s_move rfl ?_) 
  refine r_op tabOk hnt rfl (s_extract rfl rfl ?_) 
  refine r_op tabOk hnt rfl (s_extract rfl rfl ?_) 
  refine r_op tabOk hnt rfl (s_assign rfl ?_) 
  refine r_op tabOk hnt rfl (s_assign rfl ?_) 
  refine r_set [(1, pI (getV ([9, 1, 2] : List UInt8) 1)), (2, pB (getOk ([9, 1, 2] : List UInt8) 1))] [(0, oB false 1 enc8 ([9, 1, 2] : List UInt8))] 1 ⟨rfl, rfl, trivial⟩ rfl rfl ?_
  refine r_end ?_
  refine q_then ?_
  refine w_seq ?_
  refine w_R ?_
  refine r_op tabOk hnt rfl (s_mkM (f := enc8) ([9] : List UInt8) tab_27 rfl tab_5 ⟨rfl, by decide⟩ (by decide) rfl rfl rfl rfl ?_) 
  refine r_op tabOk hnt rfl (s_callX (r2 := PV.tup [pI (getV ([9] : List UInt8) 0), pB (getOk ([9] : List UInt8) 0)]) (nx1 := 2) (H2 := [(1, oB false 1 enc8 ([9] : List UInt8)), (0, oB false 1 enc8 ([9, 1, 2] : List UInt8))]) (H3 := [(1, oB false 1 enc8 ([9] : List UInt8)), (0, oB false 1 enc8 ([9, 1, 2] : List UInt8))]) [] [] rfl rfl rfl (handed_of (by decide) trivial) rfl rfl rfl rfl rfl rfl (w_octet_Get ([9] : List UInt8) false 0 (by first | omega | assumption | (simp; omega) | decide | (simp; done)) (by first | omega | assumption | (simp; omega) | decide | (simp; done))) rfl (dist_of rfl) rfl rfl rfl rfl ?_) 
  refine r_op tabOk hnt rfl (s_move rfl ?_) 
  refine r_op tabOk hnt rfl (s_extract rfl rfl ?_) 
  refine r_op tabOk hnt rfl (s_extract rfl rfl ?_) 
  refine r_op tabOk hnt rfl (s_assign rfl ?_) 
  refine r_op tabOk hnt rfl (s_assign rfl ?_) 
  refine r_set [(1, pI (getV ([9, 1, 2] : List UInt8) 1)), (2, pB (getOk ([9, 1, 2] : List UInt8) 1)), (4, pB (getOk ([9] : List UInt8) 0))] [(1, oB false 1 enc8 ([9] : List UInt8)), (0, oB false 1 enc8 ([9, 1, 2] : List UInt8))] 2 ⟨rfl, rfl, rfl, trivial⟩ rfl rfl ?_
  refine r_end ?_
  refine q_then ?_
  refine w_seq ?_
  refine w_R ?_
  refine r_op tabOk hnt rfl (s_mkM (f := enc8) ([5] : List UInt8) tab_27 rfl tab_5 ⟨rfl, by decide⟩ (by decide) rfl rfl rfl rfl ?_) 
  refine r_op tabOk hnt rfl (s_callX (r2 := PV.tup [pS 1 false encBo (bopV ([5] : List UInt8) 3), pB (bopOk ([5] : List UInt8) 3)]) (nx1 := 3) (H2 := [(2, oB false 1 enc8 ([5] : List UInt8)), (1, oB false 1 enc8 ([9] : List UInt8)), (0, oB false 1 enc8 ([9, 1, 2] : List UInt8))]) (H3 := [(2, oB false 1 enc8 ([5] : List UInt8)), (1, oB false 1 enc8 ([9] : List UInt8)), (0, oB false 1 enc8 ([9, 1, 2] : List UInt8))]) [] [] rfl rfl rfl (handed_of (by decide) trivial) rfl rfl rfl rfl rfl rfl (w_octet_Open ([5] : List UInt8) false 3 (by first | omega | assumption | (simp; omega) | decide | (simp; done)) (by first | omega | assumption | (simp; omega) | decide | (simp; done))) rfl (dist_of rfl) rfl rfl rfl rfl ?_) 
  refine r_op tabOk hnt rfl (s_move rfl ?_) 
  refine r_op tabOk hnt rfl (s_extract rfl rfl ?_) 
  refine r_op tabOk hnt rfl (s_extract rfl rfl ?_) 
  refine r_op tabOk hnt rfl (s_assign rfl ?_) 
  refine r_op tabOk hnt rfl (s_assign rfl ?_) 
  refine r_set [(1, pI (getV ([9, 1, 2] : List UInt8) 1)), (2, pB (getOk ([9, 1, 2] : List UInt8) 1)), (4, pB (getOk ([9] : List UInt8) 0)), (5, pS 1 false encBo (bopV ([5] : List UInt8) 3)), (6, pB (bopOk ([5] : List UInt8) 3))] [(2, oB false 1 enc8 ([5] : List UInt8)), (1, oB false 1 enc8 ([9] : List UInt8)), (0, oB false 1 enc8 ([9, 1, 2] : List UInt8))] 3 ⟨rfl, rfl, rfl, rfl, rfl, trivial⟩ rfl rfl ?_
  refine r_end ?_
  refine q_then ?_
  refine w_seq ?_
  refine w_R ?_
  refine r_op tabOk hnt rfl (s_mkM (f := enc8) ([15] : List UInt8) tab_27 rfl tab_5 ⟨rfl, by decide⟩ (by decide) rfl rfl rfl rfl ?_) 
  refine r_op tabOk hnt rfl (s_callX (r2 := PV.tup [pS 1 false encBo (bopV ([15] : List UInt8) 3), pB (bopOk ([15] : List UInt8) 3)]) (nx1 := 4) (H2 := [(3, oB false 1 enc8 ([15] : List UInt8)), (2, oB false 1 enc8 ([5] : List UInt8)), (1, oB false 1 enc8 ([9] : List UInt8)), (0, oB false 1 enc8 ([9, 1, 2] : List UInt8))]) (H3 := [(3, oB false 1 enc8 ([15] : List UInt8)), (2, oB false 1 enc8 ([5] : List UInt8)), (1, oB false 1 enc8 ([9] : List UInt8)), (0, oB false 1 enc8 ([9, 1, 2] : List UInt8))]) [] [] rfl rfl rfl (handed_of (by decide) trivial) rfl rfl rfl rfl rfl rfl (w_octet_Open ([15] : List UInt8) false 3 (by first | omega | assumption | (simp; omega) | decide | (simp; done)) (by first | omega | assumption | (simp; omega) | decide | (simp; done))) rfl (dist_of rfl) rfl rfl rfl rfl ?_) 
  refine r_op tabOk hnt rfl (s_move rfl ?_) 
  refine r_op tabOk hnt rfl (s_extract rfl rfl ?_) 
  refine r_op tabOk hnt rfl (s_extract rfl rfl ?_) 
  refine r_op tabOk hnt rfl (s_assign rfl ?_) 
  refine r_op tabOk hnt rfl (s_assign rfl ?_) 
  refine r_set [(1, pI (getV ([9, 1, 2] : List UInt8) 1)), (2, pB (getOk ([9, 1, 2] : List UInt8) 1)), (4, pB (getOk ([9] : List UInt8) 0)), (5, pS 1 false encBo (bopV ([5] : List UInt8) 3)), (6, pB (bopOk ([5] : List UInt8) 3)), (8, pB (bopOk ([15] : List UInt8) 3))] [(3, oB false 1 enc8 ([15] : List UInt8)), (2, oB false 1 enc8 ([5] : List UInt8)), (1, oB false 1 enc8 ([9] : List UInt8)), (0, oB false 1 enc8 ([9, 1, 2] : List UInt8))] 4 ⟨rfl, rfl, rfl, rfl, rfl, rfl, trivial⟩ rfl rfl ?_
  refine r_end ?_
  refine q_then ?_
  refine w_seq ?_
  refine w_R ?_
  refine r_op tabOk hnt rfl (s_mkM (f := enc8) ([1, 2] : List UInt8) tab_27 rfl tab_5 ⟨rfl, by decide⟩ (by decide) rfl rfl rfl rfl ?_) 
  refine r_op tabOk hnt rfl (s_callX (r2 := PV.tup [pS 1 false enc16 (wordsV ([1, 2] : List UInt8)), pB (wordsOk ([1, 2] : List UInt8))]) (nx1 := 5) (H2 := [(4, oB false 1 enc8 ([1, 2] : List UInt8)), (3, oB false 1 enc8 ([15] : List UInt8)), (2, oB false 1 enc8 ([5] : List UInt8)), (1, oB false 1 enc8 ([9] : List UInt8)), (0, oB false 1 enc8 ([9, 1, 2] : List UInt8))]) (H3 := [(4, oB false 1 enc8 ([1, 2] : List UInt8)), (3, oB false 1 enc8 ([15] : List UInt8)), (2, oB false 1 enc8 ([5] : List UInt8)), (1, oB false 1 enc8 ([9] : List UInt8)), (0, oB false 1 enc8 ([9, 1, 2] : List UInt8))]) [] [] rfl rfl rfl (handed_of (by decide) trivial) rfl rfl rfl rfl rfl rfl (w_octet_Words ([1, 2] : List UInt8) false (by first | omega | assumption | (simp; omega) | decide | (simp; done))) rfl (dist_of rfl) rfl rfl rfl rfl ?_) 
  refine r_op tabOk hnt rfl (s_move rfl ?_) 
  refine r_op tabOk hnt rfl (s_extract rfl rfl ?_) 
  refine r_op tabOk hnt rfl (s_extract rfl rfl ?_) 
  refine r_op tabOk hnt rfl (s_assign rfl ?_) 
  refine r_op tabOk hnt rfl (s_assign rfl ?_) 
  refine r_set [(1, pI (getV ([9, 1, 2] : List UInt8) 1)), (2, pB (getOk ([9, 1, 2] : List UInt8) 1)), (4, pB (getOk ([9] : List UInt8) 0)), (5, pS 1 false encBo (bopV ([5] : List UInt8) 3)), (6, pB (bopOk ([5] : List UInt8) 3)), (8, pB (bopOk ([15] : List UInt8) 3)), (9, pS 1 false enc16 (wordsV ([1, 2] : List UInt8))), (10, pB (wordsOk ([1, 2] : List UInt8)))] [(4, oB false 1 enc8 ([1, 2] : List UInt8)), (3, oB false 1 enc8 ([15] : List UInt8)), (2, oB false 1 enc8 ([5] : List UInt8)), (1, oB false 1 enc8 ([9] : List UInt8)), (0, oB false 1 enc8 ([9, 1, 2] : List UInt8))] 5 ⟨rfl, rfl, rfl, rfl, rfl, rfl, rfl, rfl, trivial⟩ rfl rfl ?_
  refine r_end ?_
  refine q_then ?_
  refine w_seq ?_
  refine w_R ?_
  refine r_op tabOk hnt rfl (s_mkM (f := enc8) ([1] : List UInt8) tab_27 rfl tab_5 ⟨rfl, by decide⟩ (by decide) rfl rfl rfl rfl ?_) 
  refine r_op tabOk hnt rfl (s_callX (r2 := PV.tup [pS 1 false enc16 (wordsV ([1] : List UInt8)), pB (wordsOk ([1] : List UInt8))]) (nx1 := 6) (H2 := [(5, oB false 1 enc8 ([1] : List UInt8)), (4, oB false 1 enc8 ([1, 2] : List UInt8)), (3, oB false 1 enc8 ([15] : List UInt8)), (2, oB false 1 enc8 ([5] : List UInt8)), (1, oB false 1 enc8 ([9] : List UInt8)), (0, oB false 1 enc8 ([9, 1, 2] : List UInt8))]) (H3 := [(5, oB false 1 enc8 ([1] : List UInt8)), (4, oB false 1 enc8 ([1, 2] : List UInt8)), (3, oB false 1 enc8 ([15] : List UInt8)), (2, oB false 1 enc8 ([5] : List UInt8)), (1, oB false 1 enc8 ([9] : List UInt8)), (0, oB false 1 enc8 ([9, 1, 2] : List UInt8))]) [] [] rfl rfl rfl (handed_of (by decide) trivial) rfl rfl rfl rfl rfl rfl (w_octet_Words ([1] : List UInt8) false (by first | omega | assumption | (simp; omega) | decide | (simp; done))) rfl (dist_of rfl) rfl rfl rfl rfl ?_) 
  refine r_op tabOk hnt rfl (s_move rfl ?_) 
  refine r_op tabOk hnt rfl (s_extract rfl rfl ?_) 
  refine r_op tabOk hnt rfl (s_extract rfl rfl ?_) 
  refine r_op tabOk hnt rfl (s_assign rfl ?_) 
  refine r_op tabOk hnt rfl (s_assign rfl ?_) 
  refine r_set [(1, pI (getV ([9, 1, 2] : List UInt8) 1)), (2, pB (getOk ([9, 1, 2] : List UInt8) 1)), (4, pB (getOk ([9] : List UInt8) 0)), (5, pS 1 false encBo (bopV ([5] : List UInt8) 3)), (6, pB (bopOk ([5] : List UInt8) 3)), (8, pB (bopOk ([15] : List UInt8) 3)), (9, pS 1 false enc16 (wordsV ([1, 2] : List UInt8))), (10, pB (wordsOk ([1, 2] : List UInt8))), (12, pB (wordsOk ([1] : List UInt8)))] [(5, oB false 1 enc8 ([1] : List UInt8)), (4, oB false 1 enc8 ([1, 2] : List UInt8)), (3, oB false 1 enc8 ([15] : List UInt8)), (2, oB false 1 enc8 ([5] : List UInt8)), (1, oB false 1 enc8 ([9] : List UInt8)), (0, oB false 1 enc8 ([9, 1, 2] : List UInt8))] 6 ⟨rfl, rfl, rfl, rfl, rfl, rfl, rfl, rfl, rfl, trivial⟩ rfl rfl ?_
  refine r_end ?_
  refine q_then ?_
  refine w_seq ?_
  refine w_R ?_
  refine r_op tabOk hnt rfl (s_mkM (f := enc8) ([7] : List UInt8) tab_27 rfl tab_5 ⟨rfl, by decide⟩ (by decide) rfl rfl rfl rfl ?_) 
  refine r_op tabOk hnt rfl (s_callX (r2 := PV.ref 7 0 none) (nx1 := 8) (H2 := [(6, oB false 1 enc8 ([7] : List UInt8)), (5, oB false 1 enc8 ([1] : List UInt8)), (4, oB false 1 enc8 ([1, 2] : List UInt8)), (3, oB false 1 enc8 ([15] : List UInt8)), (2, oB false 1 enc8 ([5] : List UInt8)), (1, oB false 1 enc8 ([9] : List UInt8)), (0, oB false 1 enc8 ([9, 1, 2] : List UInt8))]) (H3 := [(7, oB true 1 enc8 (([7] : List UInt8) ++ put2 66051)), (6, oB false 1 enc8 ([7] : List UInt8)), (5, oB false 1 enc8 ([1] : List UInt8)), (4, oB false 1 enc8 ([1, 2] : List UInt8)), (3, oB false 1 enc8 ([15] : List UInt8)), (2, oB false 1 enc8 ([5] : List UInt8)), (1, oB false 1 enc8 ([9] : List UInt8)), (0, oB false 1 enc8 ([9, 1, 2] : List UInt8))]) [] [] rfl rfl rfl (handed_of (by decide) trivial) rfl rfl rfl rfl rfl rfl (w_octet_Put ([7] : List UInt8) false 66051 (by first | omega | assumption | (simp; omega) | decide | (simp; done))) rfl (dist_of rfl) rfl rfl rfl rfl ?_) 
  refine r_op tabOk hnt rfl (s_cvT tab_27 tab_9 rfl tab_5 rfl rfl (hM_ref0 (f := enc8) rfl rfl) ?_) 
  refine r_op tabOk hnt rfl (s_eqtext (l := ([7] : List UInt8) ++ put2 66051) (m := ([7, 2, 3] : List UInt8)) rfl rfl ?_) 
  refine r_op tabOk hnt rfl (s_move rfl ?_) 
  refine r_if tabOk hnt rfl rfl rfl (fun g1 => ?_) (fun g1 => ?_)
  ·
    have g1' := g1
    try simp only [decide_eq_true_eq, decide_eq_false_iff_not, Bool.not_eq_true', Bool.not_eq_false', Bool.not_true, Bool.not_false, Bool.not_eq_eq_eq_not, Int.not_lt, Int.not_le] at g1'
    refine r_op tabOk hnt rfl (s_move rfl ?_) 
    refine r_op tabOk hnt rfl (s_pick_t rfl g1 rfl ?_) 
    refine r_op tabOk hnt rfl (s_move rfl ?_) 
    refine r_if tabOk hnt rfl rfl rfl (fun g2 => ?_) (fun g2 => ?_)
    ·
      have g2' := g2
      try simp only [decide_eq_true_eq, decide_eq_false_iff_not, Bool.not_eq_true', Bool.not_eq_false', Bool.not_true, Bool.not_false, Bool.not_eq_eq_eq_not, Int.not_lt, Int.not_le] at g2'
      refine r_op tabOk hnt rfl (s_move rfl ?_) 
      refine r_if tabOk hnt rfl rfl rfl (fun _ => ?_) (fun e => absurd (e.symm.trans g2) (by decide))
      refine r_op tabOk hnt rfl (s_eql rfl rfl ?_) 
      refine r_op tabOk hnt rfl (s_pick_t rfl g2 rfl ?_) 
      refine r_op tabOk hnt rfl (s_move rfl ?_) 
      refine r_if tabOk hnt rfl rfl rfl (fun g3 => ?_) (fun g3 => ?_)
      ·
        have g3' := g3
        try simp only [decide_eq_true_eq, decide_eq_false_iff_not, Bool.not_eq_true', Bool.not_eq_false', Bool.not_true, Bool.not_false, Bool.not_eq_eq_eq_not, Int.not_lt, Int.not_le] at g3'
        refine r_op tabOk hnt rfl (s_move rfl ?_) 
        refine r_if tabOk hnt rfl rfl rfl (fun _ => ?_) (fun e => absurd (e.symm.trans g3) (by decide))
        refine r_op tabOk hnt rfl (s_not rfl ?_) 
        refine r_op tabOk hnt rfl (s_pick_t rfl g3 rfl ?_) 
        refine r_op tabOk hnt rfl (s_move rfl ?_) 
        refine r_if tabOk hnt rfl rfl rfl (fun g4 => ?_) (fun g4 => ?_)
        ·
          have g4' := g4
          try simp only [decide_eq_true_eq, decide_eq_false_iff_not, Bool.not_eq_true', Bool.not_eq_false', Bool.not_true, Bool.not_false, Bool.not_eq_eq_eq_not, Int.not_lt, Int.not_le] at g4'
          refine r_op tabOk hnt rfl (s_mkM (f := encBo) [true, false, true] tab_44 rfl tab_4 ⟨rfl, by decide⟩ (by decide) rfl rfl rfl rfl ?_) 
          refine r_if tabOk hnt rfl rfl rfl (fun _ => ?_) (fun e => absurd (e.symm.trans g4) (by decide))
          refine r_op tabOk hnt rfl (s_callX (r2 := PV.ref 9 0 none) (nx1 := 10) (H2 := [(8, oB false 1 encBo [true, false, true]), (7, oB true 1 enc8 (([7] : List UInt8) ++ put2 66051)), (6, oB false 1 enc8 ([7] : List UInt8)), (5, oB false 1 enc8 ([1] : List UInt8)), (4, oB false 1 enc8 ([1, 2] : List UInt8)), (3, oB false 1 enc8 ([15] : List UInt8)), (2, oB false 1 enc8 ([5] : List UInt8)), (1, oB false 1 enc8 ([9] : List UInt8)), (0, oB false 1 enc8 ([9, 1, 2] : List UInt8))]) (H3 := [(9, oB true 1 enc8 (packL [true, false, true])), (8, oB false 1 encBo [true, false, true]), (7, oB true 1 enc8 (([7] : List UInt8) ++ put2 66051)), (6, oB false 1 enc8 ([7] : List UInt8)), (5, oB false 1 enc8 ([1] : List UInt8)), (4, oB false 1 enc8 ([1, 2] : List UInt8)), (3, oB false 1 enc8 ([15] : List UInt8)), (2, oB false 1 enc8 ([5] : List UInt8)), (1, oB false 1 enc8 ([9] : List UInt8)), (0, oB false 1 enc8 ([9, 1, 2] : List UInt8))]) [] [] rfl rfl rfl (handed_of (by decide) trivial) rfl rfl rfl rfl rfl rfl (w_octet_Pack [true, false, true] false (by first | omega | assumption | (simp; omega) | decide | (simp; done))) rfl (dist_of rfl) rfl rfl rfl rfl ?_) 
          refine r_if tabOk hnt rfl rfl rfl (fun _ => ?_) (fun e => absurd (e.symm.trans g4) (by decide))
          refine r_op tabOk hnt rfl (s_cvT tab_27 tab_9 rfl tab_5 rfl rfl (hM_ref0 (f := enc8) rfl rfl) ?_) 
          refine r_if tabOk hnt rfl rfl rfl (fun _ => ?_) (fun e => absurd (e.symm.trans g4) (by decide))
          refine r_op tabOk hnt rfl (s_eqtext (l := packL [true, false, true]) (m := ([5] : List UInt8)) rfl rfl ?_) 
          refine r_op tabOk hnt rfl (s_pick_t rfl g4 rfl ?_) 
          refine r_op tabOk hnt rfl (s_move rfl ?_) 
          refine r_if tabOk hnt rfl rfl rfl (fun g5 => ?_) (fun g5 => ?_)
          ·
            have g5' := g5
            try simp only [decide_eq_true_eq, decide_eq_false_iff_not, Bool.not_eq_true', Bool.not_eq_false', Bool.not_true, Bool.not_false, Bool.not_eq_eq_eq_not, Int.not_lt, Int.not_le] at g5'
            refine r_op tabOk hnt rfl (s_move rfl ?_) 
            refine r_op tabOk hnt rfl (s_pick_t rfl g5 rfl ?_) 
            refine r_op tabOk hnt rfl (s_move rfl ?_) 
            refine r_if tabOk hnt rfl rfl rfl (fun g6 => ?_) (fun g6 => ?_)
            ·
              have g6' := g6
              try simp only [decide_eq_true_eq, decide_eq_false_iff_not, Bool.not_eq_true', Bool.not_eq_false', Bool.not_true, Bool.not_false, Bool.not_eq_eq_eq_not, Int.not_lt, Int.not_le] at g6'
              refine r_op tabOk hnt rfl (s_move rfl ?_) 
              refine r_if tabOk hnt rfl rfl rfl (fun _ => ?_) (fun e => absurd (e.symm.trans g6) (by decide))
              refine r_op tabOk hnt rfl (s_mkM (f := encBo) [true, false, true] tab_44 rfl tab_4 ⟨rfl, by decide⟩ (by decide) rfl rfl rfl rfl ?_) 
              refine r_if tabOk hnt rfl rfl rfl (fun _ => ?_) (fun e => absurd (e.symm.trans g6) (by decide))
              refine r_op tabOk hnt rfl (s_callX (r2 := pB (decide ((bopV ([5] : List UInt8) 3) = [true, false, true]))) (nx1 := 11) (H2 := [(10, oB false 1 encBo [true, false, true]), (9, oB true 1 enc8 (packL [true, false, true])), (8, oB false 1 encBo [true, false, true]), (7, oB true 1 enc8 (([7] : List UInt8) ++ put2 66051)), (6, oB false 1 enc8 ([7] : List UInt8)), (5, oB false 1 enc8 ([1] : List UInt8)), (4, oB false 1 enc8 ([1, 2] : List UInt8)), (3, oB false 1 enc8 ([15] : List UInt8)), (2, oB false 1 enc8 ([5] : List UInt8)), (1, oB false 1 enc8 ([9] : List UInt8)), (0, oB false 1 enc8 ([9, 1, 2] : List UInt8))]) (H3 := [(10, oB false 1 encBo [true, false, true]), (9, oB true 1 enc8 (packL [true, false, true])), (8, oB false 1 encBo [true, false, true]), (7, oB true 1 enc8 (([7] : List UInt8) ++ put2 66051)), (6, oB false 1 enc8 ([7] : List UInt8)), (5, oB false 1 enc8 ([1] : List UInt8)), (4, oB false 1 enc8 ([1, 2] : List UInt8)), (3, oB false 1 enc8 ([15] : List UInt8)), (2, oB false 1 enc8 ([5] : List UInt8)), (1, oB false 1 enc8 ([9] : List UInt8)), (0, oB false 1 enc8 ([9, 1, 2] : List UInt8))]) [] [] rfl rfl rfl (handed_of (by decide) trivial) rfl rfl rfl rfl rfl rfl (w_burgagebook_Same_bool (bopV ([5] : List UInt8) 3) false [true, false, true] false (by first | omega | assumption | (simp; omega) | decide | (simp; done))) rfl (dist_of rfl) rfl rfl rfl rfl ?_) 
              refine r_op tabOk hnt rfl (s_pick_t rfl g6 rfl ?_) 
              refine r_op tabOk hnt rfl (s_move rfl ?_) 
              refine r_if tabOk hnt rfl rfl rfl (fun g7 => ?_) (fun g7 => ?_)
              ·
                have g7' := g7
                try simp only [decide_eq_true_eq, decide_eq_false_iff_not, Bool.not_eq_true', Bool.not_eq_false', Bool.not_true, Bool.not_false, Bool.not_eq_eq_eq_not, Int.not_lt, Int.not_le] at g7'
                refine r_op tabOk hnt rfl (s_move rfl ?_) 
                refine r_if tabOk hnt rfl rfl rfl (fun _ => ?_) (fun e => absurd (e.symm.trans g7) (by decide))
                refine r_op tabOk hnt rfl (s_not rfl ?_) 
                refine r_op tabOk hnt rfl (s_pick_t rfl g7 rfl ?_) 
                refine r_op tabOk hnt rfl (s_move rfl ?_) 
                refine r_if tabOk hnt rfl rfl rfl (fun g8 => ?_) (fun g8 => ?_)
                ·
                  have g8' := g8
                  try simp only [decide_eq_true_eq, decide_eq_false_iff_not, Bool.not_eq_true', Bool.not_eq_false', Bool.not_true, Bool.not_false, Bool.not_eq_eq_eq_not, Int.not_lt, Int.not_le] at g8'
                  refine r_op tabOk hnt rfl (s_move rfl ?_) 
                  refine r_op tabOk hnt rfl (s_pick_t rfl g8 rfl ?_) 
                  refine r_op tabOk hnt rfl (s_move rfl ?_) 
                  refine r_if tabOk hnt rfl rfl rfl (fun g9 => ?_) (fun g9 => ?_)
                  ·
                    have g9' := g9
                    try simp only [decide_eq_true_eq, decide_eq_false_iff_not, Bool.not_eq_true', Bool.not_eq_false', Bool.not_true, Bool.not_false, Bool.not_eq_eq_eq_not, Int.not_lt, Int.not_le] at g9'
                    refine r_op tabOk hnt rfl (s_move rfl ?_) 
                    refine r_if tabOk hnt rfl rfl rfl (fun _ => ?_) (fun e => absurd (e.symm.trans g9) (by decide))
                    refine r_op tabOk hnt rfl (s_lenM (l := wordsV ([1, 2] : List UInt8)) tab_45 rfl (hM_sl (f := enc16) rfl) ?_) 
                    refine r_if tabOk hnt rfl rfl rfl (fun _ => ?_) (fun e => absurd (e.symm.trans g9) (by decide))
                    refine r_op tabOk hnt rfl (s_eql rfl rfl ?_) 
                    refine r_op tabOk hnt rfl (s_pick_t rfl g9 rfl ?_) 
                    refine r_op tabOk hnt rfl (s_move rfl ?_) 
                    refine r_if tabOk hnt rfl rfl rfl (fun g10 => ?_) (fun g10 => ?_)
                    ·
                      have g10' := g10
                      try simp only [decide_eq_true_eq, decide_eq_false_iff_not, Bool.not_eq_true', Bool.not_eq_false', Bool.not_true, Bool.not_false, Bool.not_eq_eq_eq_not, Int.not_lt, Int.not_le] at g10'
                      refine r_op tabOk hnt rfl (s_move rfl ?_) 
                      refine r_if tabOk hnt rfl rfl rfl (fun _ => ?_) (fun e => absurd (e.symm.trans g10) (by decide))
                      obtain ⟨e1, he1⟩ := get_of_lt (wordsV ([1, 2] : List UInt8)) (i := 0) (by omega)
                      refine r_op tabOk hnt rfl (s_iaM (q := 0) (b := e1) (f := enc16) tab_45 rfl tab_47 rfl rfl (by omega) rfl he1 ?_) 
                      refine r_if tabOk hnt rfl rfl rfl (fun _ => ?_) (fun e => absurd (e.symm.trans g10) (by decide))
                      refine r_op tabOk hnt rfl (s_load_ro1 tab_47 rfl rfl rfl rfl ?_) 
                      refine r_if tabOk hnt rfl rfl rfl (fun _ => ?_) (fun e => absurd (e.symm.trans g10) (by decide))
                      refine r_op tabOk hnt rfl (s_eql16 (a := e1) (b := 258) rfl rfl ?_) 
                      refine r_op tabOk hnt rfl (s_pick_t rfl g10 rfl ?_) 
                      refine r_op tabOk hnt rfl (s_move rfl ?_) 
                      refine r_if tabOk hnt rfl rfl rfl (fun g11 => ?_) (fun g11 => ?_)
                      ·
                        have g11' := g11
                        try simp only [decide_eq_true_eq, decide_eq_false_iff_not, Bool.not_eq_true', Bool.not_eq_false', Bool.not_true, Bool.not_false, Bool.not_eq_eq_eq_not, Int.not_lt, Int.not_le] at g11'
                        refine r_op tabOk hnt rfl (s_move rfl ?_) 
                        refine r_if tabOk hnt rfl rfl rfl (fun _ => ?_) (fun e => absurd (e.symm.trans g11) (by decide))
                        refine r_op tabOk hnt rfl (s_not rfl ?_) 
                        refine r_op tabOk hnt rfl (s_pick_t rfl g11 rfl ?_) 
                        refine r_op tabOk hnt rfl (s_move rfl ?_) 
                        refine r_if tabOk hnt rfl rfl rfl (fun g12 => ?_) (fun g12 => ?_)
                        ·
                          have g12' := g12
                          try simp only [decide_eq_true_eq, decide_eq_false_iff_not, Bool.not_eq_true', Bool.not_eq_false', Bool.not_true, Bool.not_false, Bool.not_eq_eq_eq_not, Int.not_lt, Int.not_le] at g12'
                          refine r_op tabOk hnt rfl (s_move rfl ?_) 
                          refine r_if tabOk hnt rfl rfl rfl (fun _ => ?_) (fun e => absurd (e.symm.trans g12) (by decide))
                          refine r_op tabOk hnt rfl (s_callX (r2 := PV.ref 11 0 none) (nx1 := 12) (H2 := [(10, oB false 1 encBo [true, false, true]), (9, oB true 1 enc8 (packL [true, false, true])), (8, oB false 1 encBo [true, false, true]), (7, oB true 1 enc8 (([7] : List UInt8) ++ put2 66051)), (6, oB false 1 enc8 ([7] : List UInt8)), (5, oB false 1 enc8 ([1] : List UInt8)), (4, oB false 1 enc8 ([1, 2] : List UInt8)), (3, oB false 1 enc8 ([15] : List UInt8)), (2, oB false 1 enc8 ([5] : List UInt8)), (1, oB false 1 enc8 ([9] : List UInt8)), (0, oB false 1 enc8 ([9, 1, 2] : List UInt8))]) (H3 := [(11, oB true 1 enc8 (bytesL (wordsV ([1, 2] : List UInt8)))), (10, oB false 1 encBo [true, false, true]), (9, oB true 1 enc8 (packL [true, false, true])), (8, oB false 1 encBo [true, false, true]), (7, oB true 1 enc8 (([7] : List UInt8) ++ put2 66051)), (6, oB false 1 enc8 ([7] : List UInt8)), (5, oB false 1 enc8 ([1] : List UInt8)), (4, oB false 1 enc8 ([1, 2] : List UInt8)), (3, oB false 1 enc8 ([15] : List UInt8)), (2, oB false 1 enc8 ([5] : List UInt8)), (1, oB false 1 enc8 ([9] : List UInt8)), (0, oB false 1 enc8 ([9, 1, 2] : List UInt8))]) [] [] rfl rfl rfl (handed_of (by decide) trivial) rfl rfl rfl rfl rfl rfl (w_octet_Bytes (wordsV ([1, 2] : List UInt8)) false (by first | omega | assumption | (simp; omega) | decide | (simp; done))) rfl (dist_of rfl) rfl rfl rfl rfl ?_) 
                          refine r_if tabOk hnt rfl rfl rfl (fun _ => ?_) (fun e => absurd (e.symm.trans g12) (by decide))
                          refine r_op tabOk hnt rfl (s_cvT tab_27 tab_9 rfl tab_5 rfl rfl (hM_ref0 (f := enc8) rfl rfl) ?_) 
                          refine r_if tabOk hnt rfl rfl rfl (fun _ => ?_) (fun e => absurd (e.symm.trans g12) (by decide))
                          refine r_op tabOk hnt rfl (s_eqtext (l := bytesL (wordsV ([1, 2] : List UInt8))) (m := ([1, 2] : List UInt8)) rfl rfl ?_) 
                          refine r_op tabOk hnt rfl (s_pick_t rfl g12 rfl ?_) 
                          refine r_op tabOk hnt rfl (s_assign rfl ?_) 
                          refine r_set [(0, pB (decide (bytesL (wordsV ([1, 2] : List UInt8)) = ([1, 2] : List UInt8))))] [(11, oB true 1 enc8 (bytesL (wordsV ([1, 2] : List UInt8)))), (10, oB false 1 encBo [true, false, true]), (9, oB true 1 enc8 (packL [true, false, true])), (8, oB false 1 encBo [true, false, true]), (7, oB true 1 enc8 (([7] : List UInt8) ++ put2 66051)), (6, oB false 1 enc8 ([7] : List UInt8)), (5, oB false 1 enc8 ([1] : List UInt8)), (4, oB false 1 enc8 ([1, 2] : List UInt8)), (3, oB false 1 enc8 ([15] : List UInt8)), (2, oB false 1 enc8 ([5] : List UInt8)), (1, oB false 1 enc8 ([9] : List UInt8)), (0, oB false 1 enc8 ([9, 1, 2] : List UInt8))] 12 ⟨rfl, trivial⟩ rfl rfl ?_
                          refine r_end ?_
                          refine q_then ?_
                          refine w_le (s := 0) (y := pB true) rfl (le_of_eq (congrArg (fun z : Bool => pB z) (show (decide (bytesL (wordsV ([1, 2] : List UInt8)) = ([1, 2] : List UInt8))) = true by first | decide | decide +kernel))) ?_
                          refine w_ret ?_
                          exact fin_plain (ret_tmp rfl ret_nil) rfl rfl ⟨rfl, rfl, rfl⟩
                        ·
                          exact absurd g12 (by first | (simp; done) | decide | decide +kernel | (have h9 : (wordsV ([1, 2] : List UInt8))[0]? = some 258 := (by decide +kernel); rw [h9] at he1; cases he1; decide))
                      ·
                        exact absurd g11 (by first | (simp; done) | decide | decide +kernel | (have h9 : (wordsV ([1, 2] : List UInt8))[0]? = some 258 := (by decide +kernel); rw [h9] at he1; cases he1; decide))
                    ·
                      exact absurd g10 (by first | (simp; done) | decide | decide +kernel | (have h9 : (wordsV ([1, 2] : List UInt8))[0]? = some 258 := (by decide +kernel); rw [h9] at he1; cases he1; decide))
                  ·
                    exact absurd g9 (by first | (simp; done) | decide | decide +kernel | (have h9 : (wordsV ([1, 2] : List UInt8))[0]? = some 258 := (by decide +kernel); rw [h9] at he1; cases he1; decide))
                ·
                  exact absurd g8 (by first | (simp; done) | decide | decide +kernel | (have h9 : (wordsV ([1, 2] : List UInt8))[0]? = some 258 := (by decide +kernel); rw [h9] at he1; cases he1; decide))
              ·
                exact absurd g7 (by first | (simp; done) | decide | decide +kernel | (have h9 : (wordsV ([1, 2] : List UInt8))[0]? = some 258 := (by decide +kernel); rw [h9] at he1; cases he1; decide))
            ·
              exact absurd g6 (by first | (simp; done) | decide | decide +kernel | (have h9 : (wordsV ([1, 2] : List UInt8))[0]? = some 258 := (by decide +kernel); rw [h9] at he1; cases he1; decide))
          ·
            exact absurd g5 (by first | (simp; done) | decide | decide +kernel | (have h9 : (wordsV ([1, 2] : List UInt8))[0]? = some 258 := (by decide +kernel); rw [h9] at he1; cases he1; decide))
        ·
          exact absurd g4 (by first | (simp; done) | decide | decide +kernel | (have h9 : (wordsV ([1, 2] : List UInt8))[0]? = some 258 := (by decide +kernel); rw [h9] at he1; cases he1; decide))
      ·
        exact absurd g3 (by first | (simp; done) | decide | decide +kernel | (have h9 : (wordsV ([1, 2] : List UInt8))[0]? = some 258 := (by decide +kernel); rw [h9] at he1; cases he1; decide))
    ·
      exact absurd g2 (by first | (simp; done) | decide | decide +kernel | (have h9 : (wordsV ([1, 2] : List UInt8))[0]? = some 258 := (by decide +kernel); rw [h9] at he1; cases he1; decide))
  ·
    exact absurd g1 (by first | (simp; done) | decide | decide +kernel | (have h9 : (wordsV ([1, 2] : List UInt8))[0]? = some 258 := (by decide +kernel); rw [h9] at he1; cases he1; decide))

theorem w_burgagelaw1_OctetBack (b : List UInt8) (cl_b : Bool) (n : Int) (l : List Bool) (cl_l : Bool) (w : List UInt16) (cl_w : Bool) (hb : b.length ≤ 140737488351232) (hn : -9223372036854775808 ≤ n ∧ n ≤ 9223372036854775807) (hl : l.length ≤ 140737488351232) (hw : w.length * 2 ≤ 140737488351232) :
    T Try.prog 9 [pS 1 cl_b enc8 b, pI n, pS 1 cl_l encBo l, pS 1 cl_w enc16 w] 0 [] (Ret (pB true) 0 []) := by
  refine t_fun tabOk (n := 83) (rs := [.tmp 8]) Try.func9 rfl rfl rfl rfl (Nat.le_of_ble_eq_true rfl) ?_
  intro c hnt hk
  refine w_seq ?_
  refine w_R ?_
  refine r_op tabOk hnt rfl (s_assign rfl ?_) 
  refine r_end ?_
  refine q_then ?_
  refine w_seq ?_
  have hpg := put_get b n
  have hop := open_pack l
  have hwb := wordsV_back w
  refine w_R ?_
  refine r_op tabOk hnt rfl (s_move rfl ?_) 
  refine r_op tabOk hnt rfl (s_move rfl ?_) 
  refine r_op tabOk hnt rfl (s_callX (r2 := PV.ref 0 0 none) (nx1 := 1) (H2 := []) (H3 := [(0, oB true 1 enc8 (b ++ put2 n))]) [] [] rfl rfl rfl (handed_of (by decide) trivial) rfl rfl rfl rfl rfl rfl (w_octet_Put b cl_b n (by first | omega | assumption | (simp; omega) | decide | (simp; done))) rfl (dist_of rfl) rfl rfl rfl rfl ?_) 
  refine r_op tabOk hnt rfl (s_move rfl ?_) 
  refine r_op tabOk hnt rfl (s_lenM (l := b) tab_27 rfl (hM_sl (f := enc8) rfl) ?_) 
  refine r_op tabOk hnt rfl (s_callX (r2 := PV.tup [pI (getV (b ++ put2 n) ((b.length : Nat) : Int)), pB (getOk (b ++ put2 n) ((b.length : Nat) : Int))]) (nx1 := 1) (H2 := [(0, oB false 1 enc8 (b ++ put2 n))]) (H3 := [(0, oB false 1 enc8 (b ++ put2 n))]) [] [] rfl rfl rfl (handed_of (by decide) trivial) rfl rfl rfl rfl rfl rfl (w_octet_Get (b ++ put2 n) false ((b.length : Nat) : Int) (by first | omega | assumption | (simp; omega) | decide | (simp; done)) (by first | omega | assumption | (simp; omega) | decide | (simp; done))) rfl (dist_of rfl) rfl rfl rfl rfl ?_) 
  refine r_op tabOk hnt rfl (s_move rfl ?_) 
  refine r_op tabOk hnt rfl (s_extract rfl rfl ?_) 
  refine r_op tabOk hnt rfl (s_extract rfl rfl ?_) 
  refine r_op tabOk hnt rfl (s_assign rfl ?_) 
  refine r_op tabOk hnt rfl (s_assign rfl ?_) 
  refine r_set [(1, pI n), (2, pS 1 cl_l encBo l), (3, pS 1 cl_w enc16 w), (9, pI (getV (b ++ put2 n) ((b.length : Nat) : Int))), (10, pB (getOk (b ++ put2 n) ((b.length : Nat) : Int)))] [(0, oB false 1 enc8 (b ++ put2 n))] 1 ⟨rfl, rfl, rfl, rfl, rfl, trivial⟩ rfl rfl ?_
  refine r_end ?_
  refine q_then ?_
  refine w_seq ?_
  refine w_R ?_
  refine r_op tabOk hnt rfl (s_move rfl ?_) 
  refine r_op tabOk hnt rfl (s_callX (r2 := PV.ref 1 0 none) (nx1 := 2) (H2 := [(0, oB false 1 enc8 (b ++ put2 n))]) (H3 := [(1, oB true 1 enc8 (packL l)), (0, oB false 1 enc8 (b ++ put2 n))]) [] [] rfl rfl rfl (handed_of (by decide) trivial) rfl rfl rfl rfl rfl rfl (w_octet_Pack l cl_l (by first | omega | assumption | (simp; omega) | decide | (simp; done))) rfl (dist_of rfl) rfl rfl rfl rfl ?_) 
  refine r_op tabOk hnt rfl (s_move rfl ?_) 
  refine r_op tabOk hnt rfl (s_lenM (l := l) tab_44 rfl (hM_sl (f := encBo) rfl) ?_) 
  refine r_op tabOk hnt rfl (s_callX (r2 := PV.tup [pS 1 false encBo (bopV (packL l) ((l.length : Nat) : Int)), pB (bopOk (packL l) ((l.length : Nat) : Int))]) (nx1 := 2) (H2 := [(1, oB false 1 enc8 (packL l)), (0, oB false 1 enc8 (b ++ put2 n))]) (H3 := [(1, oB false 1 enc8 (packL l)), (0, oB false 1 enc8 (b ++ put2 n))]) [] [] rfl rfl rfl (handed_of (by decide) trivial) rfl rfl rfl rfl rfl rfl (w_octet_Open (packL l) false ((l.length : Nat) : Int) (by first | omega | assumption | (simp; omega) | decide | (simp; done)) (by first | omega | assumption | (simp; omega) | decide | (simp; done))) rfl (dist_of rfl) rfl rfl rfl rfl ?_) 
  refine r_op tabOk hnt rfl (s_move rfl ?_) 
  refine r_op tabOk hnt rfl (s_extract rfl rfl ?_) 
  refine r_op tabOk hnt rfl (s_extract rfl rfl ?_) 
  refine r_op tabOk hnt rfl (s_assign rfl ?_) 
  refine r_op tabOk hnt rfl (s_assign rfl ?_) 
  refine r_set [(1, pI n), (2, pS 1 cl_l encBo l), (3, pS 1 cl_w enc16 w), (9, pI (getV (b ++ put2 n) ((b.length : Nat) : Int))), (10, pB (getOk (b ++ put2 n) ((b.length : Nat) : Int))), (11, pS 1 false encBo (bopV (packL l) ((l.length : Nat) : Int))), (12, pB (bopOk (packL l) ((l.length : Nat) : Int)))] [(1, oB false 1 enc8 (packL l)), (0, oB false 1 enc8 (b ++ put2 n))] 2 ⟨rfl, rfl, rfl, rfl, rfl, rfl, rfl, trivial⟩ rfl rfl ?_
  refine r_end ?_
  refine q_then ?_
  refine w_seq ?_
  refine w_R ?_
  refine r_op tabOk hnt rfl (s_move rfl ?_) 
  refine r_op tabOk hnt rfl (s_callX (r2 := PV.ref 2 0 none) (nx1 := 3) (H2 := [(1, oB false 1 enc8 (packL l)), (0, oB false 1 enc8 (b ++ put2 n))]) (H3 := [(2, oB true 1 enc8 (bytesL w)), (1, oB false 1 enc8 (packL l)), (0, oB false 1 enc8 (b ++ put2 n))]) [] [] rfl rfl rfl (handed_of (by decide) trivial) rfl rfl rfl rfl rfl rfl (w_octet_Bytes w cl_w (by first | omega | assumption | (simp; omega) | decide | (simp; done))) rfl (dist_of rfl) rfl rfl rfl rfl ?_) 
  refine r_op tabOk hnt rfl (s_callX (r2 := PV.tup [pS 1 false enc16 (wordsV (bytesL w)), pB (wordsOk (bytesL w))]) (nx1 := 3) (H2 := [(2, oB false 1 enc8 (bytesL w)), (1, oB false 1 enc8 (packL l)), (0, oB false 1 enc8 (b ++ put2 n))]) (H3 := [(2, oB false 1 enc8 (bytesL w)), (1, oB false 1 enc8 (packL l)), (0, oB false 1 enc8 (b ++ put2 n))]) [] [] rfl rfl rfl (handed_of (by decide) trivial) rfl rfl rfl rfl rfl rfl (w_octet_Words (bytesL w) false (by first | omega | assumption | (simp; omega) | decide | (simp; done))) rfl (dist_of rfl) rfl rfl rfl rfl ?_) 
  refine r_op tabOk hnt rfl (s_move rfl ?_) 
  refine r_op tabOk hnt rfl (s_extract rfl rfl ?_) 
  refine r_op tabOk hnt rfl (s_extract rfl rfl ?_) 
  refine r_op tabOk hnt rfl (s_assign rfl ?_) 
  refine r_op tabOk hnt rfl (s_assign rfl ?_) 
  refine r_set [(1, pI n), (2, pS 1 cl_l encBo l), (3, pS 1 cl_w enc16 w), (9, pI (getV (b ++ put2 n) ((b.length : Nat) : Int))), (10, pB (getOk (b ++ put2 n) ((b.length : Nat) : Int))), (11, pS 1 false encBo (bopV (packL l) ((l.length : Nat) : Int))), (12, pB (bopOk (packL l) ((l.length : Nat) : Int))), (13, pS 1 false enc16 (wordsV (bytesL w))), (14, pB (wordsOk (bytesL w)))] [(2, oB false 1 enc8 (bytesL w)), (1, oB false 1 enc8 (packL l)), (0, oB false 1 enc8 (b ++ put2 n))] 3 ⟨rfl, rfl, rfl, rfl, rfl, rfl, rfl, rfl, rfl, trivial⟩ rfl rfl ?_
  refine r_end ?_
  refine q_then ?_
  refine w_seq ?_
  refine w_R ?_
  refine r_op tabOk hnt rfl (s_move rfl ?_) 
  refine r_op tabOk hnt rfl (s_move rfl ?_) 
  refine r_if tabOk hnt rfl rfl rfl (fun g1 => ?_) (fun g1 => ?_)
  ·
    have g1' := g1
    try simp only [decide_eq_true_eq, decide_eq_false_iff_not, Bool.not_eq_true', Bool.not_eq_false', Bool.not_true, Bool.not_false, Bool.not_eq_eq_eq_not, Int.not_lt, Int.not_le] at g1'
    refine r_op tabOk hnt rfl (s_move rfl ?_) 
    refine r_if tabOk hnt rfl rfl rfl (fun _ => ?_) (fun e => absurd (e.symm.trans g1) (by decide))
    refine r_op tabOk hnt rfl (s_move rfl ?_) 
    refine r_if tabOk hnt rfl rfl rfl (fun _ => ?_) (fun e => absurd (e.symm.trans g1) (by decide))
    refine r_op tabOk hnt rfl (s_maskI 16 (by decide) rfl rfl (by decide) ?_) 
    refine r_if tabOk hnt rfl rfl rfl (fun _ => ?_) (fun e => absurd (e.symm.trans g1) (by decide))
    refine r_op tabOk hnt rfl (s_eql rfl rfl ?_) 
    refine r_op tabOk hnt rfl (s_pick_t rfl g1 rfl ?_) 
    refine r_op tabOk hnt rfl (s_move rfl ?_) 
    refine r_if tabOk hnt rfl rfl rfl (fun g2 => ?_) (fun g2 => ?_)
    ·
      have g2' := g2
      try simp only [decide_eq_true_eq, decide_eq_false_iff_not, Bool.not_eq_true', Bool.not_eq_false', Bool.not_true, Bool.not_false, Bool.not_eq_eq_eq_not, Int.not_lt, Int.not_le] at g2'
      refine r_op tabOk hnt rfl (s_move rfl ?_) 
      refine r_op tabOk hnt rfl (s_pick_t rfl g2 rfl ?_) 
      refine r_op tabOk hnt rfl (s_move rfl ?_) 
      refine r_if tabOk hnt rfl rfl rfl (fun g3 => ?_) (fun g3 => ?_)
      ·
        have g3' := g3
        try simp only [decide_eq_true_eq, decide_eq_false_iff_not, Bool.not_eq_true', Bool.not_eq_false', Bool.not_true, Bool.not_false, Bool.not_eq_eq_eq_not, Int.not_lt, Int.not_le] at g3'
        refine r_op tabOk hnt rfl (s_move rfl ?_) 
        refine r_if tabOk hnt rfl rfl rfl (fun _ => ?_) (fun e => absurd (e.symm.trans g3) (by decide))
        refine r_op tabOk hnt rfl (s_move rfl ?_) 
        refine r_if tabOk hnt rfl rfl rfl (fun _ => ?_) (fun e => absurd (e.symm.trans g3) (by decide))
        refine r_op tabOk hnt rfl (s_callF rfl rfl rfl (w_burgagebook_Same_bool (bopV (packL l) ((l.length : Nat) : Int)) false l cl_l (by rw [hop.2]; omega)) rfl ?_) 
        refine r_op tabOk hnt rfl (s_pick_t rfl g3 rfl ?_) 
        refine r_op tabOk hnt rfl (s_move rfl ?_) 
        refine r_if tabOk hnt rfl rfl rfl (fun g4 => ?_) (fun g4 => ?_)
        ·
          have g4' := g4
          try simp only [decide_eq_true_eq, decide_eq_false_iff_not, Bool.not_eq_true', Bool.not_eq_false', Bool.not_true, Bool.not_false, Bool.not_eq_eq_eq_not, Int.not_lt, Int.not_le] at g4'
          refine r_op tabOk hnt rfl (s_move rfl ?_) 
          refine r_op tabOk hnt rfl (s_pick_t rfl g4 rfl ?_) 
          refine r_op tabOk hnt rfl (s_move rfl ?_) 
          refine r_if tabOk hnt rfl rfl rfl (fun g5 => ?_) (fun g5 => ?_)
          ·
            have g5' := g5
            try simp only [decide_eq_true_eq, decide_eq_false_iff_not, Bool.not_eq_true', Bool.not_eq_false', Bool.not_true, Bool.not_false, Bool.not_eq_eq_eq_not, Int.not_lt, Int.not_le] at g5'
            refine r_op tabOk hnt rfl (s_move rfl ?_) 
            refine r_if tabOk hnt rfl rfl rfl (fun _ => ?_) (fun e => absurd (e.symm.trans g5) (by decide))
            refine r_op tabOk hnt rfl (s_move rfl ?_) 
            refine r_if tabOk hnt rfl rfl rfl (fun _ => ?_) (fun e => absurd (e.symm.trans g5) (by decide))
            refine r_op tabOk hnt rfl (s_callF rfl rfl rfl (w_burgagebook_Same_uint16 (wordsV (bytesL w)) false w cl_w (by rw [hwb.2]; omega)) rfl ?_) 
            refine r_op tabOk hnt rfl (s_pick_t rfl g5 rfl ?_) 
            refine r_op tabOk hnt rfl (s_move rfl ?_) 
            refine r_if tabOk hnt rfl rfl rfl (fun g6 => ?_) (fun g6 => ?_)
            ·
              have g6' := g6
              try simp only [decide_eq_true_eq, decide_eq_false_iff_not, Bool.not_eq_true', Bool.not_eq_false', Bool.not_true, Bool.not_false, Bool.not_eq_eq_eq_not, Int.not_lt, Int.not_le] at g6'
              refine r_op tabOk hnt rfl (s_move rfl ?_) 
              refine r_if tabOk hnt rfl rfl rfl (fun _ => ?_) (fun e => absurd (e.symm.trans g6) (by decide))
              refine r_op tabOk hnt rfl (s_callX (r2 := PV.ref 3 0 none) (nx1 := 4) (H2 := [(2, oB false 1 enc8 (bytesL w)), (1, oB false 1 enc8 (packL l)), (0, oB false 1 enc8 (b ++ put2 n))]) (H3 := [(3, oB true 1 enc8 (packL l)), (2, oB false 1 enc8 (bytesL w)), (1, oB false 1 enc8 (packL l)), (0, oB false 1 enc8 (b ++ put2 n))]) [] [] rfl rfl rfl (handed_of (by decide) trivial) rfl rfl rfl rfl rfl rfl (w_octet_Pack l cl_l (by first | omega | assumption | (simp; omega) | decide | (simp; done))) rfl (dist_of rfl) rfl rfl rfl rfl ?_) 
              refine r_if tabOk hnt rfl rfl rfl (fun _ => ?_) (fun e => absurd (e.symm.trans g6) (by decide))
              refine r_op tabOk hnt rfl (s_lenM (l := packL l) tab_27 rfl (hM_ref0 (f := enc8) rfl rfl) ?_) 
              refine r_if tabOk hnt rfl rfl rfl (fun _ => ?_) (fun e => absurd (e.symm.trans g6) (by decide))
              refine r_op tabOk hnt rfl (s_move rfl ?_) 
              refine r_if tabOk hnt rfl rfl rfl (fun _ => ?_) (fun e => absurd (e.symm.trans g6) (by decide))
              refine r_op tabOk hnt rfl (s_lenM (l := l) tab_44 rfl (hM_sl (f := encBo) rfl) ?_) 
              refine r_if tabOk hnt rfl rfl rfl (fun _ => ?_) (fun e => absurd (e.symm.trans g6) (by decide))
              refine r_op tabOk hnt rfl (s_addN (a := l.length) (b := 7) rfl rfl (by omega) (by omega) (by omega) ?_) 
              refine r_if tabOk hnt rfl rfl rfl (fun _ => ?_) (fun e => absurd (e.symm.trans g6) (by decide))
              refine r_op tabOk hnt rfl (s_quoN (a := l.length + 7) (b := 8) rfl rfl (by omega) (by omega) (by omega) ?_) 
              refine r_if tabOk hnt rfl rfl rfl (fun _ => ?_) (fun e => absurd (e.symm.trans g6) (by decide))
              refine r_op tabOk hnt rfl (s_eql rfl rfl ?_) 
              refine r_op tabOk hnt rfl (s_pick_t rfl g6 rfl ?_) 
              refine r_op tabOk hnt rfl (s_move rfl ?_) 
              refine r_if tabOk hnt rfl rfl rfl (fun g7 => ?_) (fun g7 => ?_)
              ·
                have g7' := g7
                try simp only [decide_eq_true_eq, decide_eq_false_iff_not, Bool.not_eq_true', Bool.not_eq_false', Bool.not_true, Bool.not_false, Bool.not_eq_eq_eq_not, Int.not_lt, Int.not_le] at g7'
                refine r_op tabOk hnt rfl (s_move rfl ?_) 
                refine r_if tabOk hnt rfl rfl rfl (fun _ => ?_) (fun e => absurd (e.symm.trans g7) (by decide))
                refine r_op tabOk hnt rfl (s_callX (r2 := PV.ref 4 0 none) (nx1 := 5) (H2 := [(3, oB true 1 enc8 (packL l)), (2, oB false 1 enc8 (bytesL w)), (1, oB false 1 enc8 (packL l)), (0, oB false 1 enc8 (b ++ put2 n))]) (H3 := [(4, oB true 1 enc8 (bytesL w)), (3, oB true 1 enc8 (packL l)), (2, oB false 1 enc8 (bytesL w)), (1, oB false 1 enc8 (packL l)), (0, oB false 1 enc8 (b ++ put2 n))]) [] [] rfl rfl rfl (handed_of (by decide) trivial) rfl rfl rfl rfl rfl rfl (w_octet_Bytes w cl_w (by first | omega | assumption | (simp; omega) | decide | (simp; done))) rfl (dist_of rfl) rfl rfl rfl rfl ?_) 
                refine r_if tabOk hnt rfl rfl rfl (fun _ => ?_) (fun e => absurd (e.symm.trans g7) (by decide))
                refine r_op tabOk hnt rfl (s_lenM (l := bytesL w) tab_27 rfl (hM_ref0 (f := enc8) rfl rfl) ?_) 
                refine r_if tabOk hnt rfl rfl rfl (fun _ => ?_) (fun e => absurd (e.symm.trans g7) (by decide))
                refine r_op tabOk hnt rfl (s_move rfl ?_) 
                refine r_if tabOk hnt rfl rfl rfl (fun _ => ?_) (fun e => absurd (e.symm.trans g7) (by decide))
                refine r_op tabOk hnt rfl (s_lenM (l := w) tab_45 rfl (hM_sl (f := enc16) rfl) ?_) 
                refine r_if tabOk hnt rfl rfl rfl (fun _ => ?_) (fun e => absurd (e.symm.trans g7) (by decide))
                refine r_op tabOk hnt rfl (s_mulN (a := 2) (b := w.length) rfl rfl (by omega) (by omega) (by omega) ?_) 
                refine r_if tabOk hnt rfl rfl rfl (fun _ => ?_) (fun e => absurd (e.symm.trans g7) (by decide))
                refine r_op tabOk hnt rfl (s_eql rfl rfl ?_) 
                refine r_op tabOk hnt rfl (s_pick_t rfl g7 rfl ?_) 
                refine r_op tabOk hnt rfl (s_move rfl ?_) 
                refine r_if tabOk hnt rfl rfl rfl (fun g8 => ?_) (fun g8 => ?_)
                ·
                  have g8' := g8
                  try simp only [decide_eq_true_eq, decide_eq_false_iff_not, Bool.not_eq_true', Bool.not_eq_false', Bool.not_true, Bool.not_false, Bool.not_eq_eq_eq_not, Int.not_lt, Int.not_le] at g8'
                  refine r_op tabOk hnt rfl (s_callF rfl rfl rfl (w_burgagelaw1_known) rfl ?_) 
                  refine r_op tabOk hnt rfl (s_pick_t rfl g8 rfl ?_) 
                  refine r_op tabOk hnt rfl (s_assign rfl ?_) 
                  refine r_set [(8, pB true)] [(4, oB true 1 enc8 (bytesL w)), (3, oB true 1 enc8 (packL l)), (2, oB false 1 enc8 (bytesL w)), (1, oB false 1 enc8 (packL l)), (0, oB false 1 enc8 (b ++ put2 n))] 5 ⟨rfl, trivial⟩ rfl rfl ?_
                  refine r_end ?_
                  refine q_then ?_
                  refine w_ret ?_
                  exact fin_plain (ret_tmp rfl ret_nil) rfl rfl ⟨rfl, rfl, rfl⟩
                ·
                  exact absurd g8 (by first | (simp [hpg, hop, hwb]; done) | (simp [hpg, hop, hwb]; omega))
              ·
                exact absurd g7 (by first | (simp [hpg, hop, hwb]; done) | (simp [hpg, hop, hwb]; omega))
            ·
              exact absurd g6 (by first | (simp [hpg, hop, hwb]; done) | (simp [hpg, hop, hwb]; omega))
          ·
            exact absurd g5 (by first | (simp [hpg, hop, hwb]; done) | (simp [hpg, hop, hwb]; omega))
        ·
          exact absurd g4 (by first | (simp [hpg, hop, hwb]; done) | (simp [hpg, hop, hwb]; omega))
      ·
        exact absurd g3 (by first | (simp [hpg, hop, hwb]; done) | (simp [hpg, hop, hwb]; omega))
    ·
      exact absurd g2 (by first | (simp [hpg, hop, hwb]; done) | (simp [hpg, hop, hwb]; omega))
  ·
    exact absurd g1 (by first | (simp [hpg, hop, hwb]; done) | (simp [hpg, hop, hwb]; omega))

theorem w_burgagelaw1_OctetBits (l : List Bool) (cl_l : Bool) (k0 : Int) (hl : l.length ≤ 140737488351232) (hk0 : -9223372036854775808 ≤ k0 ∧ k0 ≤ 9223372036854775807) :
    T Try.prog 11 [pS 1 cl_l encBo l, pI k0] 0 [] (Ret (pB true) 0 []) := by
  refine t_fun tabOk (n := 72) (rs := [.tmp 4]) Try.func11 rfl rfl rfl rfl (Nat.le_of_ble_eq_true rfl) ?_
  intro c hnt hk
  refine w_seq ?_
  refine w_R ?_
  refine r_op tabOk hnt rfl (s_assign rfl ?_) 
  refine r_end ?_
  refine q_then ?_
  refine w_seq ?_
  refine w_seq ?_
  refine w_R ?_
  refine r_op tabOk hnt rfl (s_move rfl ?_) 
  refine r_op tabOk hnt rfl (s_lenM (l := l) tab_44 rfl (hM_sl (f := encBo) rfl) ?_) 
  refine r_op tabOk hnt rfl (s_eql rfl rfl ?_) 
  refine r_end ?_
  refine q_then ?_
  refine w_if rfl (fun c1 => ?_) (fun c1 => ?_)
  ·
    have c1_ := c1
    try simp only [decide_eq_true_eq, decide_eq_false_iff_not, Bool.not_eq_true', Bool.not_eq_false', Bool.not_true, Bool.not_false, Bool.not_eq_eq_eq_not, Int.not_lt, Int.not_le] at c1
    have e0 : (packL l).length = 0 := by rw [packL_length]; omega
    refine w_seq ?_
    refine w_R ?_
    refine r_op tabOk hnt rfl (s_move rfl ?_) 
    refine r_op tabOk hnt rfl (s_callX (r2 := PV.ref 0 0 none) (nx1 := 1) (H2 := []) (H3 := [(0, oB true 1 enc8 (packL l))]) [] [] rfl rfl rfl (handed_of (by decide) trivial) rfl rfl rfl rfl rfl rfl (w_octet_Pack l cl_l (by first | omega | assumption | (simp; omega) | decide | (simp; done))) rfl (dist_of rfl) rfl rfl rfl rfl ?_) 
    refine r_op tabOk hnt rfl (s_lenM (l := packL l) tab_27 rfl (hM_ref0 (f := enc8) rfl rfl) ?_) 
    refine r_op tabOk hnt rfl (s_eql rfl rfl ?_) 
    refine r_op tabOk hnt rfl (s_move rfl ?_) 
    refine r_if tabOk hnt rfl rfl rfl (fun g1 => ?_) (fun g1 => ?_)
    ·
      have g1' := g1
      try simp only [decide_eq_true_eq, decide_eq_false_iff_not, Bool.not_eq_true', Bool.not_eq_false', Bool.not_true, Bool.not_false, Bool.not_eq_eq_eq_not, Int.not_lt, Int.not_le] at g1'
      refine r_op tabOk hnt rfl (s_callF rfl rfl rfl (w_burgagelaw1_known) rfl ?_) 
      refine r_op tabOk hnt rfl (s_pick_t rfl g1 rfl ?_) 
      refine r_op tabOk hnt rfl (s_assign rfl ?_) 
      refine r_set [(4, pB true)] [(0, oB true 1 enc8 (packL l))] 1 ⟨rfl, trivial⟩ rfl rfl ?_
      refine r_end ?_
      refine q_then ?_
      refine w_ret ?_
      refine q_then_ret ?_
      exact fin_plain (ret_tmp rfl ret_nil) rfl rfl ⟨rfl, rfl, rfl⟩
    ·
      exact absurd g1 (by exact not_dec3 (by omega))
  ·
    have c1_ := c1
    try simp only [decide_eq_true_eq, decide_eq_false_iff_not, Bool.not_eq_true', Bool.not_eq_false', Bool.not_true, Bool.not_false, Bool.not_eq_eq_eq_not, Int.not_lt, Int.not_le] at c1
    refine w_skip ?_
    refine q_then ?_
    refine w_seq ?_
    refine w_R ?_
    refine r_op tabOk hnt rfl (s_move rfl ?_) 
    refine r_op tabOk hnt rfl (s_move rfl ?_) 
    refine r_op tabOk hnt rfl (s_lenM (l := l) tab_44 rfl (hM_sl (f := encBo) rfl) ?_) 
    refine r_op tabOk hnt rfl (s_subN (a := l.length) (b := 1) rfl rfl (by omega) (by omega) (by omega) ?_) 
    refine r_op tabOk hnt rfl (s_callF rfl rfl rfl (w_burgagebook_Within k0 0 ((l.length - 1 : Nat) : Int) (by first | omega | assumption | (simp; omega) | decide | (simp; done))) rfl ?_) 
    refine r_op tabOk hnt rfl (s_assign rfl ?_) 
    refine r_end ?_
    refine q_then ?_
    refine w_seq ?_
    have hw := within_between k0 (lo := 0) (hi := ((l.length - 1 : Nat) : Int)) (by omega)
    obtain ⟨kk, hkk⟩ : ∃ kk : Nat, within k0 0 ((l.length - 1 : Nat) : Int) = (kk : Int) := ⟨_, (within_nat k0 (hi := ((l.length - 1 : Nat) : Int)) (by omega)).symm⟩
    refine w_eq (s := 5) (y := pN kk) rfl (congrArg (fun z : Int => pI z) (show (within k0 0 ((l.length - 1 : Nat) : Int)) = ((kk : Nat) : Int) by exact hkk)) ?_
    refine w_R ?_
    refine r_op tabOk hnt rfl (s_mkM (f := encBo) ([] : List Bool) tab_44 rfl tab_4 ⟨rfl, by decide⟩ (by decide) rfl rfl rfl rfl ?_) 
    refine r_op tabOk hnt rfl (s_move rfl ?_) 
    refine r_op tabOk hnt rfl (s_appR0 (f := encBo) (l := ([] : List Bool)) (xs := l) tab_44 rfl tab_4 ⟨rfl, by decide, by decide⟩ (srcM tab_44 rfl (hM_sl (f := encBo) rfl)) rfl rfl (by first | omega | (simp; omega)) ?_) 
    refine r_op tabOk hnt rfl (s_assign rfl ?_) 
    refine r_set [(0, pS 1 cl_l encBo l), (5, pN kk), (6, PV.ref 1 0 none)] [(1, oB true 1 encBo l)] 2 ⟨rfl, rfl, rfl, trivial⟩ rfl rfl ?_
    refine r_end ?_
    refine q_then ?_
    refine w_seq ?_
    refine w_R ?_
    refine r_op tabOk hnt rfl (s_move rfl ?_) 
    refine r_op tabOk hnt rfl (s_move rfl ?_) 
    refine r_op tabOk hnt rfl (s_move rfl ?_) 
    refine r_op tabOk hnt rfl (s_move rfl ?_) 
    refine r_op tabOk hnt rfl (s_iaR0 (q := kk) (f := encBo) (l := l) tab_44 rfl tab_4 rfl rfl (by omega) rfl rfl (by omega) ?_) 
    obtain ⟨e1, he1⟩ := get_of_lt l (i := kk) (by omega)
    refine r_op tabOk hnt rfl (s_ldM (b := e1) (f := encBo) tab_4 rfl rfl rfl rfl he1 rfl ?_) 
    refine r_op tabOk hnt rfl (s_not rfl ?_) 
    refine r_op tabOk hnt rfl (s_iaR0 (q := kk) (f := encBo) (l := l) tab_44 rfl tab_4 rfl rfl (by omega) rfl rfl (by omega) ?_) 
    refine r_op tabOk hnt rfl (s_stM (y0 := e1) (z := !e1) (f := encBo) tab_4 rfl rfl rfl rfl rfl he1 (Nat.le_of_ble_eq_true rfl) rfl rfl (by simp) rfl ?_) 
    refine r_set [(0, pS 1 cl_l encBo l), (5, pN kk), (6, PV.ref 1 0 none)] [(1, oB true 1 encBo (l.set kk (!e1)))] 2 ⟨rfl, rfl, rfl, trivial⟩ rfl rfl ?_
    refine r_end ?_
    refine q_then ?_
    refine w_seq ?_
    refine w_R ?_
    refine r_op tabOk hnt rfl (s_move rfl ?_) 
    refine r_op tabOk hnt rfl (s_callX (r2 := PV.ref 2 0 none) (nx1 := 3) (H2 := [(1, oB true 1 encBo (l.set kk (!e1)))]) (H3 := [(2, oB true 1 enc8 (packL l)), (1, oB true 1 encBo (l.set kk (!e1)))]) [] [] rfl rfl rfl (handed_of (by decide) trivial) rfl rfl rfl rfl rfl rfl (w_octet_Pack l cl_l (by first | omega | assumption | (simp; omega) | decide | (simp; done))) rfl (dist_of rfl) rfl rfl rfl rfl ?_) 
    refine r_op tabOk hnt rfl (s_move rfl ?_) 
    refine r_op tabOk hnt rfl (s_callX (r2 := PV.ref 3 0 none) (nx1 := 4) (H2 := [(1, oB false 1 encBo (l.set kk (!e1))), (2, oB true 1 enc8 (packL l))]) (H3 := [(3, oB true 1 enc8 (packL (l.set kk (!e1)))), (1, oB false 1 encBo (l.set kk (!e1))), (2, oB true 1 enc8 (packL l))]) [] [] rfl rfl rfl (handed_of (by decide) trivial) rfl rfl rfl rfl rfl rfl (w_octet_Pack (l.set kk (!e1)) false (by first | omega | assumption | (simp; omega) | decide | (simp; done))) rfl (dist_of rfl) rfl rfl rfl rfl ?_) 
    refine r_op tabOk hnt rfl (s_assign rfl ?_) 
    refine r_op tabOk hnt rfl (s_assign rfl ?_) 
    refine r_set [(5, pN kk), (7, PV.ref 2 0 none), (8, PV.ref 3 0 none)] [(3, oB true 1 enc8 (packL (l.set kk (!e1)))), (1, oB false 1 encBo (l.set kk (!e1))), (2, oB true 1 enc8 (packL l))] 4 ⟨rfl, rfl, rfl, trivial⟩ rfl rfl ?_
    refine r_end ?_
    refine q_then ?_
    refine w_seq ?_
    refine w_seq ?_
    refine w_R ?_
    refine r_op tabOk hnt rfl (s_move rfl ?_) 
    refine r_op tabOk hnt rfl (s_lenM (l := packL l) tab_27 rfl (hM_ref0 (f := enc8) rfl rfl) ?_) 
    refine r_op tabOk hnt rfl (s_move rfl ?_) 
    refine r_op tabOk hnt rfl (s_lenM (l := packL (l.set kk (!e1))) tab_27 rfl (hM_ref0 (f := enc8) rfl rfl) ?_) 
    refine r_op tabOk hnt rfl (s_neq rfl rfl ?_) 
    refine r_end ?_
    refine q_then ?_
    refine w_if rfl (fun c2 => ?_) (fun c2 => ?_)
    ·
      have c2_ := c2
      exact absurd c2 (by exact not_dec1 (by simp))
    ·
      have c2_ := c2
      try simp only [decide_eq_true_eq, decide_eq_false_iff_not, Bool.not_eq_true', Bool.not_eq_false', Bool.not_true, Bool.not_false, Bool.not_eq_eq_eq_not, Int.not_lt, Int.not_le] at c2
      refine w_skip ?_
      refine q_then ?_
      refine w_seq ?_
      refine w_seq ?_
      refine w_R ?_
      refine r_op tabOk hnt rfl (s_move rfl ?_) 
      refine r_op tabOk hnt rfl (s_lenM (l := packL l) tab_27 rfl (hM_ref0 (f := enc8) rfl rfl) ?_) 
      refine r_op tabOk hnt rfl (s_move rfl ?_) 
      refine r_end ?_
      refine q_then ?_
      refine w_block ?_
      refine loop1 (fun (i : Nat) => i ≤ (packL l).length) (fun (i : Nat) => [(5, pN kk), (7, PV.ref 0 0 none), (8, PV.ref 1 0 none), (47, pN ((packL l).length)), (48, pN i)]) 2 (fun (i : Nat) => [(0, oB true 1 enc8 (packL l)), (1, oB true 1 enc8 (packL (l.set kk (!e1))))]) (fun (i : Nat) => (packL l).length - i) (0) ?_ ⟨[(0, 2), (1, 3)], by rw [hk]; decide, ⟨⟨_, rfl, rfl, rfl⟩, ⟨_, rfl, rfl, rfl⟩, ⟨_, rfl, rfl, rfl⟩, ⟨_, rfl, rfl, rfl⟩, ⟨_, rfl, rfl, rfl⟩, trivial⟩, ⟨⟨_, _, rfl, rfl, rfl, rfl⟩, ⟨_, _, rfl, rfl, rfl, rfl⟩, trivial⟩, by rw [hk]; decide⟩ ?_
      · omega
      ·
        intro i hI
        have hpl := packL_length l
        have hpl2 := packL_length (l.set kk (!e1))
        rw [List.length_set] at hpl2
        refine w_seq ?_
        refine w_R ?_
        refine r_op tabOk hnt rfl (s_lss rfl rfl ?_) 
        refine r_end ?_
        refine q_then ?_
        refine w_seq ?_
        refine w_if rfl (fun c3 => ?_) (fun c3 => ?_)
        ·
          have c3_ := c3
          try simp only [decide_eq_true_eq, decide_eq_false_iff_not, Bool.not_eq_true', Bool.not_eq_false', Bool.not_true, Bool.not_false, Bool.not_eq_eq_eq_not, Int.not_lt, Int.not_le] at c3
          refine w_skip ?_
          refine q_then ?_
          refine w_seq ?_
          refine w_block ?_
          refine w_seq ?_
          refine w_R ?_
          refine r_op tabOk hnt rfl (s_move rfl ?_) 
          refine r_op tabOk hnt rfl (s_assign rfl ?_) 
          refine r_end ?_
          refine q_then ?_
          refine w_seq ?_
          refine w_R ?_
          refine r_op tabOk hnt rfl (s_assign rfl ?_) 
          refine r_end ?_
          refine q_then ?_
          refine w_seq ?_
          refine w_seq ?_
          refine w_R ?_
          refine r_op tabOk hnt rfl (s_move rfl ?_) 
          refine r_op tabOk hnt rfl (s_move rfl ?_) 
          refine r_op tabOk hnt rfl (s_quoN (a := kk) (b := 8) rfl rfl (by omega) (by omega) (by omega) ?_) 
          refine r_op tabOk hnt rfl (s_eql rfl rfl ?_) 
          refine r_end ?_
          refine q_then ?_
          refine w_if rfl (fun c4 => ?_) (fun c4 => ?_)
          ·
            have c4_ := c4
            try simp only [decide_eq_true_eq, decide_eq_false_iff_not, Bool.not_eq_true', Bool.not_eq_false', Bool.not_true, Bool.not_false, Bool.not_eq_eq_eq_not, Int.not_lt, Int.not_le] at c4
            refine w_R ?_
            refine r_op tabOk hnt rfl (s_move rfl ?_) 
            refine r_op tabOk hnt rfl (s_remN (a := kk) (b := 8) rfl rfl (by omega) (by omega) (by omega) ?_) 
            refine r_op tabOk hnt rfl (s_cvK tab_3 tab_28 rfl rfl rfl rfl (by exact ⟨by omega, by show _ < (18446744073709551616 : Int); omega⟩) ?_) 
            refine r_op tabOk hnt rfl (s_shl8 (a := 1) (kk % 8) rfl rfl (by first | rfl | omega) (by first | decide | omega) ?_) 
            refine r_op tabOk hnt rfl (s_assign rfl ?_) 
            refine r_end ?_
            refine q_then ?_
            refine w_seq ?_
            refine W_drawn tabOk mixed hnt [[], [], [0, 1], [0, 1, 2], [], [], [4, 5], [4, 5, 6], [0, 1, 2, 3, 4, 5, 6, 7], [], [0, 1, 2, 3, 4, 5, 6, 7, 8, 9]] (by kernel_rfl) ?_
            refine d_op ?_
            refine x_run0 [(7, PV.ref 0 0 none)] [] rfl rfl rfl rfl (s_move rfl ⟨rfl, rfl, rfl⟩) ?_
            refine d_op ?_
            refine x_run0 [(9, pN i)] [] rfl rfl rfl rfl (s_move rfl ⟨rfl, rfl, rfl⟩) ?_
            refine d_op ?_
            refine x_run [(59, PV.ref 0 0 none), (60, pN i)] [0, 1] [(0, oB true 1 enc8 (packL l))] [] [(0, oB true 1 enc8 (packL l))] [] [(0, oB true 1 enc8 (packL l)), (1, oB true 1 enc8 (packL (l.set kk (!e1))))] rfl rfl rfl rfl rfl rfl (s_iaR0 (q := i) (f := enc8) (l := packL l) tab_27 rfl tab_5 rfl rfl (by omega) rfl rfl (by omega) ⟨rfl, rfl, rfl⟩) rfl ⟨rfl, trivial⟩ rfl rfl ?_
            refine d_op ?_
            obtain ⟨e2, he2⟩ := get_of_lt (packL l) (i := i) (by omega)
            refine x_run [(61, PV.ep 0 i 0)] [0, 1, 2] [(0, oB true 1 enc8 (packL l))] [] [(0, oB true 1 enc8 (packL l))] [] [(0, oB true 1 enc8 (packL l)), (1, oB true 1 enc8 (packL (l.set kk (!e1))))] rfl rfl rfl rfl rfl rfl (s_ldM (b := e2) (f := enc8) tab_5 rfl rfl rfl rfl he2 rfl ⟨rfl, rfl, rfl⟩) rfl ⟨rfl, trivial⟩ rfl rfl ?_
            refine d_op ?_
            refine x_run0 [(8, PV.ref 1 0 none)] [] rfl rfl rfl rfl (s_move rfl ⟨rfl, rfl, rfl⟩) ?_
            refine d_op ?_
            refine x_run0 [(9, pN i)] [] rfl rfl rfl rfl (s_move rfl ⟨rfl, rfl, rfl⟩) ?_
            refine d_op ?_
            refine x_run [(63, PV.ref 1 0 none), (64, pN i)] [4, 5] [(1, oB true 1 enc8 (packL (l.set kk (!e1))))] [] [(1, oB true 1 enc8 (packL (l.set kk (!e1))))] [] [(0, oB true 1 enc8 (packL l)), (1, oB true 1 enc8 (packL (l.set kk (!e1))))] rfl rfl rfl rfl rfl rfl (s_iaR0 (q := i) (f := enc8) (l := packL (l.set kk (!e1))) tab_27 rfl tab_5 rfl rfl (by omega) rfl rfl (by omega) ⟨rfl, rfl, rfl⟩) rfl ⟨rfl, trivial⟩ rfl rfl ?_
            refine d_op ?_
            obtain ⟨e3, he3⟩ := get_of_lt (packL (l.set kk (!e1))) (i := i) (by omega)
            refine x_run [(65, PV.ep 1 i 0)] [4, 5, 6] [(1, oB true 1 enc8 (packL (l.set kk (!e1))))] [] [(1, oB true 1 enc8 (packL (l.set kk (!e1))))] [] [(0, oB true 1 enc8 (packL l)), (1, oB true 1 enc8 (packL (l.set kk (!e1))))] rfl rfl rfl rfl rfl rfl (s_ldM (b := e3) (f := enc8) tab_5 rfl rfl rfl rfl he3 rfl ⟨rfl, rfl, rfl⟩) rfl ⟨rfl, trivial⟩ rfl rfl ?_
            refine d_op ?_
            refine x_run0 [(62, p8 e2), (66, p8 e3)] [0, 1, 2, 3, 4, 5, 6, 7] rfl rfl rfl rfl (s_xor8 (a := e2) (b := e3) rfl rfl ⟨rfl, rfl, rfl⟩) ?_
            refine d_op ?_
            refine x_run0 [(10, p8 (1 <<< UInt8.ofNat (kk % 8)))] [] rfl rfl rfl rfl (s_move rfl ⟨rfl, rfl, rfl⟩) ?_
            refine d_op ?_
            refine x_run0 [(67, p8 (e2 ^^^ e3)), (68, p8 (1 <<< UInt8.ofNat (kk % 8)))] [0, 1, 2, 3, 4, 5, 6, 7, 8, 9] rfl rfl rfl rfl (s_neq8 (a := e2 ^^^ e3) (b := 1 <<< UInt8.ofNat (kk % 8)) rfl rfl ⟨rfl, rfl, rfl⟩) ?_
            refine d_end ⟨by kernel_rfl, ?_⟩
            refine q_then ?_
            refine w_if rfl (fun c5 => ?_) (fun c5 => ?_)
            ·
              have c5_ := c5
              exact absurd c5 (by first | (simp only [pack_turn he1 he2 he3]; first | (rw [if_pos (by omega)]; simp; done) | (rw [if_neg (by omega)]; simp; done)) | (simp only [pack_turn he1 he4 he5]; first | (rw [if_pos (by omega)]; simp; done) | (rw [if_neg (by omega)]; simp; done)))
            ·
              have c5_ := c5
              try simp only [decide_eq_true_eq, decide_eq_false_iff_not, Bool.not_eq_true', Bool.not_eq_false', Bool.not_true, Bool.not_false, Bool.not_eq_eq_eq_not, Int.not_lt, Int.not_le] at c5
              refine w_skip ?_
              refine q_block ?_
              refine q_then ?_
              refine w_R ?_
              refine r_op tabOk hnt rfl (s_addN (a := i) (b := 1) rfl rfl (by omega) (by omega) (by omega) ?_) 
              refine r_op tabOk hnt rfl (s_move rfl ?_) 
              refine r_end ?_
              refine q_then ?_
              refine ⟨(i + 1), ?_, ?_, ⟨[(0, 0), (1, 1)], by rw [hk]; decide, ⟨⟨_, rfl, rfl, rfl⟩, ⟨_, rfl, rfl, rfl⟩, ⟨_, rfl, rfl, rfl⟩, ⟨_, rfl, rfl, rfl⟩, ⟨_, rfl, rfl, rfl⟩, trivial⟩, ⟨⟨_, _, rfl, rfl, rfl, rfl⟩, ⟨_, _, rfl, rfl, rfl, rfl⟩, trivial⟩, by rw [hk]; decide⟩⟩
              ·
                omega
              · omega
          ·
            have c4_ := c4
            try simp only [decide_eq_true_eq, decide_eq_false_iff_not, Bool.not_eq_true', Bool.not_eq_false', Bool.not_true, Bool.not_false, Bool.not_eq_eq_eq_not, Int.not_lt, Int.not_le] at c4
            refine w_skip ?_
            refine q_then ?_
            refine w_seq ?_
            refine W_drawn tabOk mixed hnt [[], [], [0, 1], [0, 1, 2], [], [], [4, 5], [4, 5, 6], [0, 1, 2, 3, 4, 5, 6, 7], [], [0, 1, 2, 3, 4, 5, 6, 7, 8, 9]] (by kernel_rfl) ?_
            refine d_op ?_
            refine x_run0 [(7, PV.ref 0 0 none)] [] rfl rfl rfl rfl (s_move rfl ⟨rfl, rfl, rfl⟩) ?_
            refine d_op ?_
            refine x_run0 [(9, pN i)] [] rfl rfl rfl rfl (s_move rfl ⟨rfl, rfl, rfl⟩) ?_
            refine d_op ?_
            refine x_run [(59, PV.ref 0 0 none), (60, pN i)] [0, 1] [(0, oB true 1 enc8 (packL l))] [] [(0, oB true 1 enc8 (packL l))] [] [(0, oB true 1 enc8 (packL l)), (1, oB true 1 enc8 (packL (l.set kk (!e1))))] rfl rfl rfl rfl rfl rfl (s_iaR0 (q := i) (f := enc8) (l := packL l) tab_27 rfl tab_5 rfl rfl (by omega) rfl rfl (by omega) ⟨rfl, rfl, rfl⟩) rfl ⟨rfl, trivial⟩ rfl rfl ?_
            refine d_op ?_
            obtain ⟨e4, he4⟩ := get_of_lt (packL l) (i := i) (by omega)
            refine x_run [(61, PV.ep 0 i 0)] [0, 1, 2] [(0, oB true 1 enc8 (packL l))] [] [(0, oB true 1 enc8 (packL l))] [] [(0, oB true 1 enc8 (packL l)), (1, oB true 1 enc8 (packL (l.set kk (!e1))))] rfl rfl rfl rfl rfl rfl (s_ldM (b := e4) (f := enc8) tab_5 rfl rfl rfl rfl he4 rfl ⟨rfl, rfl, rfl⟩) rfl ⟨rfl, trivial⟩ rfl rfl ?_
            refine d_op ?_
            refine x_run0 [(8, PV.ref 1 0 none)] [] rfl rfl rfl rfl (s_move rfl ⟨rfl, rfl, rfl⟩) ?_
            refine d_op ?_
            refine x_run0 [(9, pN i)] [] rfl rfl rfl rfl (s_move rfl ⟨rfl, rfl, rfl⟩) ?_
            refine d_op ?_
            refine x_run [(63, PV.ref 1 0 none), (64, pN i)] [4, 5] [(1, oB true 1 enc8 (packL (l.set kk (!e1))))] [] [(1, oB true 1 enc8 (packL (l.set kk (!e1))))] [] [(0, oB true 1 enc8 (packL l)), (1, oB true 1 enc8 (packL (l.set kk (!e1))))] rfl rfl rfl rfl rfl rfl (s_iaR0 (q := i) (f := enc8) (l := packL (l.set kk (!e1))) tab_27 rfl tab_5 rfl rfl (by omega) rfl rfl (by omega) ⟨rfl, rfl, rfl⟩) rfl ⟨rfl, trivial⟩ rfl rfl ?_
            refine d_op ?_
            obtain ⟨e5, he5⟩ := get_of_lt (packL (l.set kk (!e1))) (i := i) (by omega)
            refine x_run [(65, PV.ep 1 i 0)] [4, 5, 6] [(1, oB true 1 enc8 (packL (l.set kk (!e1))))] [] [(1, oB true 1 enc8 (packL (l.set kk (!e1))))] [] [(0, oB true 1 enc8 (packL l)), (1, oB true 1 enc8 (packL (l.set kk (!e1))))] rfl rfl rfl rfl rfl rfl (s_ldM (b := e5) (f := enc8) tab_5 rfl rfl rfl rfl he5 rfl ⟨rfl, rfl, rfl⟩) rfl ⟨rfl, trivial⟩ rfl rfl ?_
            refine d_op ?_
            refine x_run0 [(62, p8 e4), (66, p8 e5)] [0, 1, 2, 3, 4, 5, 6, 7] rfl rfl rfl rfl (s_xor8 (a := e4) (b := e5) rfl rfl ⟨rfl, rfl, rfl⟩) ?_
            refine d_op ?_
            refine x_run0 [(10, p8 0)] [] rfl rfl rfl rfl (s_move rfl ⟨rfl, rfl, rfl⟩) ?_
            refine d_op ?_
            refine x_run0 [(67, p8 (e4 ^^^ e5)), (68, p8 0)] [0, 1, 2, 3, 4, 5, 6, 7, 8, 9] rfl rfl rfl rfl (s_neq8 (a := e4 ^^^ e5) (b := 0) rfl rfl ⟨rfl, rfl, rfl⟩) ?_
            refine d_end ⟨by kernel_rfl, ?_⟩
            refine q_then ?_
            refine w_if rfl (fun c6 => ?_) (fun c6 => ?_)
            ·
              have c6_ := c6
              exact absurd c6 (by first | (simp only [pack_turn he1 he2 he3]; first | (rw [if_pos (by omega)]; simp; done) | (rw [if_neg (by omega)]; simp; done)) | (simp only [pack_turn he1 he4 he5]; first | (rw [if_pos (by omega)]; simp; done) | (rw [if_neg (by omega)]; simp; done)))
            ·
              have c6_ := c6
              try simp only [decide_eq_true_eq, decide_eq_false_iff_not, Bool.not_eq_true', Bool.not_eq_false', Bool.not_true, Bool.not_false, Bool.not_eq_eq_eq_not, Int.not_lt, Int.not_le] at c6
              refine w_skip ?_
              refine q_block ?_
              refine q_then ?_
              refine w_R ?_
              refine r_op tabOk hnt rfl (s_addN (a := i) (b := 1) rfl rfl (by omega) (by omega) (by omega) ?_) 
              refine r_op tabOk hnt rfl (s_move rfl ?_) 
              refine r_end ?_
              refine q_then ?_
              refine ⟨(i + 1), ?_, ?_, ⟨[(0, 0), (1, 1)], by rw [hk]; decide, ⟨⟨_, rfl, rfl, rfl⟩, ⟨_, rfl, rfl, rfl⟩, ⟨_, rfl, rfl, rfl⟩, ⟨_, rfl, rfl, rfl⟩, ⟨_, rfl, rfl, rfl⟩, trivial⟩, ⟨⟨_, _, rfl, rfl, rfl, rfl⟩, ⟨_, _, rfl, rfl, rfl, rfl⟩, trivial⟩, by rw [hk]; decide⟩⟩
              ·
                omega
              · omega
        ·
          have c3_ := c3
          try simp only [decide_eq_true_eq, decide_eq_false_iff_not, Bool.not_eq_true', Bool.not_eq_false', Bool.not_true, Bool.not_false, Bool.not_eq_eq_eq_not, Int.not_lt, Int.not_le] at c3
          refine w_exit ?_
          refine q_then_exit ?_
          refine q_then_exit ?_
          refine q_block_exit ?_
          refine q_then ?_
          refine w_seq ?_
          refine w_R ?_
          refine r_op tabOk hnt rfl (s_callF rfl rfl rfl (w_burgagelaw1_known) rfl ?_) 
          refine r_op tabOk hnt rfl (s_assign rfl ?_) 
          refine r_end ?_
          refine q_then ?_
          refine w_ret ?_
          exact fin_plain (ret_tmp rfl ret_nil) rfl rfl ⟨rfl, rfl, rfl⟩

theorem w_burgagelaw1_OctetNumbers   :
    T Try.prog 7 [] 0 [] (Ret (pB true) 0 []) := by
  refine t_fun tabOk (n := 88) (rs := [.tmp 0]) Try.func7 rfl rfl rfl rfl (Nat.le_of_ble_eq_true rfl) ?_
  intro c hnt hk
  refine w_seq ?_
  refine w_R ?_
  refine r_op tabOk hnt rfl (s_assign rfl ?_) 
  refine r_end ?_
  refine q_then ?_
  refine w_seq ?_
  refine w_R ?_
  refine r_op tabOk hnt rfl (s_assign rfl ?_) 
  refine r_end ?_
  refine q_then ?_
  refine w_seq ?_
  refine w_R ?_
  refine r_op tabOk hnt rfl (s_assign rfl ?_) 
  refine r_end ?_
  refine q_then ?_
  refine w_seq ?_
  refine w_seq ?_
  refine w_R ?_
  refine r_op tabOk hnt rfl (s_assign rfl ?_) 
  refine r_end ?_
  refine q_then ?_
  refine w_block ?_
  refine w_adopt (s := 1) (sz := 1) rfl ?_
  refine w_adopt (s := 2) (sz := 1) rfl ?_
  refine w_low (n := 0) rfl ?_
  refine w_low (n := 1) rfl ?_
  refine loop3 (fun (lb : List Bool) (ww : List UInt16) (i : Nat) => i ≤ 40 ∧ lb.length = i ∧ ww.length = i) (fun (lb : List Bool) (ww : List UInt16) (i : Nat) => [(1, PV.ref 0 0 none), (2, PV.ref 1 0 none), (3, pN i)]) 2 (fun (lb : List Bool) (ww : List UInt16) (i : Nat) => [(0, oB false 1 encBo lb), (1, oB false 1 enc16 ww)]) (fun (lb : List Bool) (ww : List UInt16) (i : Nat) => 40 - i) (([] : List Bool)) (([] : List UInt16)) (0) ?_ ⟨[(0, 0), (1, 1)], by rw [hk]; decide, ⟨⟨_, rfl, rfl, rfl⟩, ⟨_, rfl, rfl, rfl⟩, ⟨_, rfl, rfl, rfl⟩, trivial⟩, ⟨⟨_, _, rfl, rfl, rfl, rfl⟩, ⟨_, _, rfl, rfl, rfl, rfl⟩, trivial⟩, by rw [hk]; decide⟩ ?_
  · simp
  ·
    intro lb ww i hI
    obtain ⟨hi, hlb, hww⟩ := hI
    have hii : i * i ≤ 40 * 40 := Nat.mul_le_mul hi hi
    refine w_seq ?_
    refine w_seq ?_
    refine w_R ?_
    refine r_op tabOk hnt rfl (s_move rfl ?_) 
    refine r_op tabOk hnt rfl (s_lss rfl rfl ?_) 
    refine r_end ?_
    refine q_then ?_
    refine w_if rfl (fun c1 => ?_) (fun c1 => ?_)
    ·
      have c1_ := c1
      try simp only [decide_eq_true_eq, decide_eq_false_iff_not, Bool.not_eq_true', Bool.not_eq_false', Bool.not_true, Bool.not_false, Bool.not_eq_eq_eq_not, Int.not_lt, Int.not_le] at c1
      refine w_skip ?_
      refine q_then ?_
      refine w_seq ?_
      refine w_block ?_
      refine w_seq ?_
      refine w_R ?_
      refine r_op tabOk hnt rfl (s_move rfl ?_) 
      refine r_op tabOk hnt rfl (s_remN (a := i) (b := 5) rfl rfl (by omega) (by omega) (by omega) ?_) 
      refine r_op tabOk hnt rfl (s_makeM (f := enc8) (bt := 1) tab_one (0 : UInt8) (i % 5) (fun j hj => by cases hj; rfl) tab_27 rfl tab_5 ⟨rfl, by decide⟩ rfl rfl rfl (by omega) (by refine ⟨?_, ?_, ?_⟩ <;> omega) ?_) 
      refine r_op tabOk hnt rfl (s_assign rfl ?_) 
      refine r_set [(1, PV.ref 0 0 none), (2, PV.ref 1 0 none), (3, pN i), (4, PV.ref 2 0 none)] [(2, oB true 1 enc8 (List.replicate (i % 5) (0 : UInt8))), (0, oB false 1 encBo lb), (1, oB false 1 enc16 ww)] 3 ⟨rfl, rfl, rfl, rfl, trivial⟩ rfl rfl ?_
      refine r_end ?_
      refine q_then ?_
      refine w_seq ?_
      refine w_seq ?_
      refine w_R ?_
      refine r_op tabOk hnt rfl (s_move rfl ?_) 
      refine r_op tabOk hnt rfl (s_lenM (l := List.replicate (i % 5) (0 : UInt8)) tab_27 rfl (hM_ref0 (f := enc8) rfl rfl) ?_) 
      refine r_op tabOk hnt rfl (s_move rfl ?_) 
      refine r_end ?_
      refine q_then ?_
      refine w_block ?_
      refine loop2 (fun (bs : List UInt8) (k2 : Nat) => k2 ≤ i % 5 ∧ bs.length = i % 5) (fun (bs : List UInt8) (k2 : Nat) => [(1, PV.ref 1 0 none), (2, PV.ref 2 0 none), (3, pN i), (4, PV.ref 0 0 none), (18, pN ((List.replicate (i % 5) (0 : UInt8)).length)), (19, pN k2)]) 3 (fun (bs : List UInt8) (k2 : Nat) => [(0, oB true 1 enc8 bs), (1, oB false 1 encBo lb), (2, oB false 1 enc16 ww)]) (fun (bs : List UInt8) (k2 : Nat) => i % 5 - k2) (List.replicate (i % 5) (0 : UInt8)) (0) ?_ ⟨[(0, 2), (1, 0), (2, 1)], by rw [hk]; decide, ⟨⟨_, rfl, rfl, rfl⟩, ⟨_, rfl, rfl, rfl⟩, ⟨_, rfl, rfl, rfl⟩, ⟨_, rfl, rfl, rfl⟩, ⟨_, rfl, rfl, rfl⟩, ⟨_, rfl, rfl, rfl⟩, trivial⟩, ⟨⟨_, _, rfl, rfl, rfl, rfl⟩, ⟨_, _, rfl, rfl, rfl, rfl⟩, ⟨_, _, rfl, rfl, rfl, rfl⟩, trivial⟩, by rw [hk]; decide⟩ ?_
      · simp
      ·
        intro bs k2 hJ
        obtain ⟨hk2, hbs⟩ := hJ
        refine w_seq ?_
        refine w_R ?_
        refine r_op tabOk hnt rfl (s_lss rfl rfl ?_) 
        refine r_end ?_
        refine q_then ?_
        refine w_seq ?_
        refine w_if rfl (fun c2 => ?_) (fun c2 => ?_)
        ·
          have c2_ := c2
          try simp only [decide_eq_true_eq, decide_eq_false_iff_not, Bool.not_eq_true', Bool.not_eq_false', Bool.not_true, Bool.not_false, Bool.not_eq_eq_eq_not, Int.not_lt, Int.not_le] at c2
          rw [List.length_replicate] at c2
          refine w_skip ?_
          refine q_then ?_
          refine w_seq ?_
          refine w_block ?_
          refine w_seq ?_
          refine w_R ?_
          refine r_op tabOk hnt rfl (s_move rfl ?_) 
          refine r_op tabOk hnt rfl (s_assign rfl ?_) 
          refine r_end ?_
          refine q_then ?_
          refine w_R ?_
          refine r_op tabOk hnt rfl (s_move rfl ?_) 
          refine r_op tabOk hnt rfl (s_move rfl ?_) 
          refine r_op tabOk hnt rfl (s_move rfl ?_) 
          refine r_op tabOk hnt rfl (s_mulN (a := i) (b := 37) rfl rfl (by omega) (by omega) (by omega) ?_) 
          refine r_op tabOk hnt rfl (s_move rfl ?_) 
          refine r_op tabOk hnt rfl (s_mulN (a := k2) (b := 11) rfl rfl (by omega) (by omega) (by omega) ?_) 
          refine r_op tabOk hnt rfl (s_addN (a := i * 37) (b := k2 * 11) rfl rfl (by omega) (by omega) (by omega) ?_) 
          refine r_op tabOk hnt rfl (s_cv8N (a := i * 37 + (k2 * 11)) tab_3 tab_5 rfl rfl rfl (by omega) ?_) 
          refine r_op tabOk hnt rfl (s_iaR0 (q := k2) (f := enc8) (l := bs) tab_27 rfl tab_5 rfl rfl (by omega) rfl rfl (by omega) ?_) 
          obtain ⟨e1, he1⟩ := get_of_lt bs (i := k2) (by omega)
          refine r_op tabOk hnt rfl (s_stM (y0 := e1) (z := UInt8.ofNat (i * 37 + (k2 * 11))) (f := enc8) tab_5 rfl rfl rfl rfl rfl he1 (Nat.le_of_ble_eq_true rfl) rfl rfl (by simp) rfl ?_) 
          refine r_set [(1, PV.ref 1 0 none), (2, PV.ref 2 0 none), (3, pN i), (4, PV.ref 0 0 none), (18, pN ((List.replicate (i % 5) (0 : UInt8)).length)), (19, pN k2)] [(0, oB true 1 enc8 (bs.set k2 (UInt8.ofNat (i * 37 + (k2 * 11))))), (1, oB false 1 encBo lb), (2, oB false 1 enc16 ww)] 3 ⟨rfl, rfl, rfl, rfl, rfl, rfl, trivial⟩ rfl rfl ?_
          refine r_end ?_
          refine q_block ?_
          refine q_then ?_
          refine w_R ?_
          refine r_op tabOk hnt rfl (s_addN (a := k2) (b := 1) rfl rfl (by omega) (by omega) (by omega) ?_) 
          refine r_op tabOk hnt rfl (s_move rfl ?_) 
          refine r_end ?_
          refine q_then ?_
          refine ⟨(bs.set k2 (UInt8.ofNat (i * 37 + (k2 * 11)))), (k2 + 1), ?_, ?_, ⟨[(0, 0), (1, 1), (2, 2)], by rw [hk]; decide, ⟨⟨_, rfl, rfl, rfl⟩, ⟨_, rfl, rfl, rfl⟩, ⟨_, rfl, rfl, rfl⟩, ⟨_, rfl, rfl, rfl⟩, ⟨_, rfl, rfl, rfl⟩, ⟨_, rfl, rfl, rfl⟩, trivial⟩, ⟨⟨_, _, rfl, rfl, rfl, rfl⟩, ⟨_, _, rfl, rfl, rfl, rfl⟩, ⟨_, _, rfl, rfl, rfl, rfl⟩, trivial⟩, by rw [hk]; decide⟩⟩
          ·
            exact ⟨by omega, by simp [hbs]⟩
          · omega
        ·
          have c2_ := c2
          try simp only [decide_eq_true_eq, decide_eq_false_iff_not, Bool.not_eq_true', Bool.not_eq_false', Bool.not_true, Bool.not_false, Bool.not_eq_eq_eq_not, Int.not_lt, Int.not_le] at c2
          rw [List.length_replicate] at c2
          refine w_exit ?_
          refine q_then_exit ?_
          refine q_then_exit ?_
          refine q_block_exit ?_
          refine q_then ?_
          refine w_seq ?_
          refine w_seq ?_
          refine w_R ?_
          refine r_op tabOk hnt rfl (s_assign rfl ?_) 
          refine r_end ?_
          refine q_then ?_
          refine w_block ?_
          refine w_low (n := 0) rfl ?_
          refine loop2 (fun (bq : List UInt8) (n6 : Int) => -2 ≤ n6 ∧ n6 ≤ 42 ∧ bq.length ≤ 5) (fun (bq : List UInt8) (n6 : Int) => [(1, PV.ref 1 0 none), (2, PV.ref 2 0 none), (3, pN i), (4, PV.ref 0 0 none), (6, pI n6)]) 3 (fun (bq : List UInt8) (n6 : Int) => [(0, oB false 1 enc8 bq), (1, oB false 1 encBo lb), (2, oB false 1 enc16 ww)]) (fun (bq : List UInt8) (n6 : Int) => (42 - n6).toNat) (bs) ((-2)) ?_ ⟨[(0, 0), (1, 1), (2, 2)], by rw [hk]; decide, ⟨⟨_, rfl, rfl, rfl⟩, ⟨_, rfl, rfl, rfl⟩, ⟨_, rfl, rfl, rfl⟩, ⟨_, rfl, rfl, rfl⟩, ⟨_, rfl, rfl, rfl⟩, trivial⟩, ⟨⟨_, _, rfl, rfl, rfl, rfl⟩, ⟨_, _, rfl, rfl, rfl, rfl⟩, ⟨_, _, rfl, rfl, rfl, rfl⟩, trivial⟩, by rw [hk]; decide⟩ ?_
          · exact ⟨by omega, by omega, by omega⟩
          ·
            intro bq n6 hN
            obtain ⟨hn1, hn2, hbq⟩ := hN
            refine w_seq ?_
            refine w_seq ?_
            refine w_R ?_
            refine r_op tabOk hnt rfl (s_move rfl ?_) 
            refine r_op tabOk hnt rfl (s_lss rfl rfl ?_) 
            refine r_end ?_
            refine q_then ?_
            refine w_if rfl (fun c3 => ?_) (fun c3 => ?_)
            ·
              have c3_ := c3
              try simp only [decide_eq_true_eq, decide_eq_false_iff_not, Bool.not_eq_true', Bool.not_eq_false', Bool.not_true, Bool.not_false, Bool.not_eq_eq_eq_not, Int.not_lt, Int.not_le] at c3
              refine w_skip ?_
              refine q_then ?_
              refine w_seq ?_
              refine w_block ?_
              refine w_seq ?_
              refine w_R ?_
              refine r_op tabOk hnt rfl (s_move rfl ?_) 
              refine r_op tabOk hnt rfl (s_move rfl ?_) 
              refine r_op tabOk hnt rfl (s_move rfl ?_) 
              refine r_op tabOk hnt rfl (s_move rfl ?_) 
              refine r_op tabOk hnt rfl (s_move rfl ?_) 
              refine r_op tabOk hnt rfl (s_callX (r2 := pB true) (nx1 := 3) (H2 := [(2, oB false 1 enc16 ww), (1, oB false 1 encBo lb), (0, oB false 1 enc8 bq)]) (H3 := [(2, oB false 1 enc16 ww), (1, oB false 1 encBo lb), (0, oB false 1 enc8 bq)]) [] [] rfl rfl rfl (handed_of (by decide) trivial) rfl rfl rfl rfl rfl rfl (w_burgagelaw1_same bq false n6 n6 lb false ww false (by first | omega | assumption | (simp; omega) | decide | (simp; done)) (by first | omega | assumption | (simp; omega) | decide | (simp; done)) (by first | omega | assumption | (simp; omega) | decide | (simp; done)) (by first | omega | assumption | (simp; omega) | decide | (simp; done)) (by first | omega | assumption | (simp; omega) | decide | (simp; done))) rfl (dist_of rfl) rfl rfl rfl rfl ?_) 
              refine r_op tabOk hnt rfl (s_not rfl ?_) 
              refine r_set [(1, PV.ref 1 0 none), (2, PV.ref 2 0 none), (3, pN i), (4, PV.ref 0 0 none), (6, pI n6), (42, pB (!true))] [(2, oB false 1 enc16 ww), (1, oB false 1 encBo lb), (0, oB false 1 enc8 bq)] 3 ⟨rfl, rfl, rfl, rfl, rfl, rfl, trivial⟩ rfl rfl ?_
              refine r_end ?_
              refine q_then ?_
              refine w_if rfl (fun e => absurd e (by decide)) (fun _ => ?_)
              refine w_skip ?_
              refine q_block ?_
              refine q_then ?_
              refine w_R ?_
              refine r_op tabOk hnt rfl (s_move rfl ?_) 
              refine r_op tabOk hnt rfl (s_addi (r := n6 + 1) rfl rfl rfl (by omega) ?_) 
              refine r_op tabOk hnt rfl (s_assign rfl ?_) 
              refine r_end ?_
              refine q_then ?_
              refine ⟨(bq), (n6 + 1), ?_, ?_, ⟨[(0, 0), (1, 1), (2, 2)], by rw [hk]; decide, ⟨⟨_, rfl, rfl, rfl⟩, ⟨_, rfl, rfl, rfl⟩, ⟨_, rfl, rfl, rfl⟩, ⟨_, rfl, rfl, rfl⟩, ⟨_, rfl, rfl, rfl⟩, trivial⟩, ⟨⟨_, _, rfl, rfl, rfl, rfl⟩, ⟨_, _, rfl, rfl, rfl, rfl⟩, ⟨_, _, rfl, rfl, rfl, rfl⟩, trivial⟩, by rw [hk]; decide⟩⟩
              ·
                exact ⟨by omega, by omega, hbq⟩
              · omega
            ·
              have c3_ := c3
              try simp only [decide_eq_true_eq, decide_eq_false_iff_not, Bool.not_eq_true', Bool.not_eq_false', Bool.not_true, Bool.not_false, Bool.not_eq_eq_eq_not, Int.not_lt, Int.not_le] at c3
              refine w_exit ?_
              refine q_then_exit ?_
              refine q_then_exit ?_
              refine q_block_exit ?_
              refine q_then ?_
              refine w_seq ?_
              refine w_seq ?_
              refine w_R ?_
              refine r_op tabOk hnt rfl (s_assign rfl ?_) 
              refine r_end ?_
              refine q_then ?_
              refine w_block ?_
              refine loop1 (fun (ku : Int) => 0 ≤ ku ∧ ku ≤ 8) (fun (ku : Int) => [(1, PV.ref 0 0 none), (2, PV.ref 1 0 none), (3, pN i), (7, pK .u64 ku)]) 2 (fun (ku : Int) => [(0, oB false 1 encBo lb), (1, oB false 1 enc16 ww)]) (fun (ku : Int) => (8 - ku).toNat) (0) ?_ ⟨[(0, 1), (1, 2)], by rw [hk]; decide, ⟨⟨_, rfl, rfl, rfl⟩, ⟨_, rfl, rfl, rfl⟩, ⟨_, rfl, rfl, rfl⟩, ⟨_, rfl, rfl, rfl⟩, trivial⟩, ⟨⟨_, _, rfl, rfl, rfl, rfl⟩, ⟨_, _, rfl, rfl, rfl, rfl⟩, trivial⟩, by rw [hk]; decide⟩ ?_
              · omega
              ·
                intro ku hU
                refine w_seq ?_
                refine w_seq ?_
                refine w_R ?_
                refine r_op tabOk hnt rfl (s_move rfl ?_) 
                refine r_op tabOk hnt rfl (s_lss rfl rfl ?_) 
                refine r_end ?_
                refine q_then ?_
                refine w_if rfl (fun c4 => ?_) (fun c4 => ?_)
                ·
                  have c4_ := c4
                  try simp only [decide_eq_true_eq, decide_eq_false_iff_not, Bool.not_eq_true', Bool.not_eq_false', Bool.not_true, Bool.not_false, Bool.not_eq_eq_eq_not, Int.not_lt, Int.not_le] at c4
                  refine w_skip ?_
                  refine q_then ?_
                  refine w_seq ?_
                  refine w_block ?_
                  refine w_seq ?_
                  refine w_R ?_
                  refine r_op tabOk hnt rfl (s_move rfl ?_) 
                  refine r_op tabOk hnt rfl (s_shl8 (a := 1) (Int.toNat ku) rfl rfl (by first | rfl | omega) (by first | decide | omega) ?_) 
                  refine r_op tabOk hnt rfl (s_move rfl ?_) 
                  refine r_op tabOk hnt rfl (s_shl8 (a := 1) (Int.toNat ku) rfl rfl (by first | rfl | omega) (by first | decide | omega) ?_) 
                  refine r_op tabOk hnt rfl (s_mkM (f := enc8) [1 <<< UInt8.ofNat (Int.toNat ku), 1 <<< UInt8.ofNat (Int.toNat ku)] tab_27 rfl tab_5 ⟨rfl, by decide⟩ (by decide) rfl rfl rfl rfl ?_) 
                  refine r_op tabOk hnt rfl (s_move rfl ?_) 
                  refine r_op tabOk hnt rfl (s_conv_i tab_28 tab_3 rfl rfl rfl (by omega) ?_) 
                  refine r_op tabOk hnt rfl (s_addi (r := 8 + ku) rfl rfl rfl (by omega) ?_) 
                  refine r_op tabOk hnt rfl (s_move rfl ?_) 
                  refine r_op tabOk hnt rfl (s_conv_i tab_28 tab_3 rfl rfl rfl (by omega) ?_) 
                  refine r_op tabOk hnt rfl (s_move rfl ?_) 
                  refine r_op tabOk hnt rfl (s_move rfl ?_) 
                  refine r_op tabOk hnt rfl (s_callX (r2 := pB true) (nx1 := 3) (H2 := [(1, oB false 1 enc16 ww), (0, oB false 1 encBo lb), (2, oB false 1 enc8 [1 <<< UInt8.ofNat (Int.toNat ku), 1 <<< UInt8.ofNat (Int.toNat ku)])]) (H3 := [(1, oB false 1 enc16 ww), (0, oB false 1 encBo lb), (2, oB false 1 enc8 [1 <<< UInt8.ofNat (Int.toNat ku), 1 <<< UInt8.ofNat (Int.toNat ku)])]) [] [] rfl rfl rfl (handed_of (by decide) trivial) rfl rfl rfl rfl rfl rfl (w_burgagelaw1_same [1 <<< UInt8.ofNat (Int.toNat ku), 1 <<< UInt8.ofNat (Int.toNat ku)] false (8 + ku) ku lb false ww false (by first | omega | assumption | (simp; omega) | decide | (simp; done)) (by first | omega | assumption | (simp; omega) | decide | (simp; done)) (by first | omega | assumption | (simp; omega) | decide | (simp; done)) (by first | omega | assumption | (simp; omega) | decide | (simp; done)) (by first | omega | assumption | (simp; omega) | decide | (simp; done))) rfl (dist_of rfl) rfl rfl rfl rfl ?_) 
                  refine r_op tabOk hnt rfl (s_not rfl ?_) 
                  refine r_set [(1, PV.ref 0 0 none), (2, PV.ref 1 0 none), (3, pN i), (7, pK .u64 ku), (60, pB (!true))] [(1, oB false 1 enc16 ww), (0, oB false 1 encBo lb), (2, oB false 1 enc8 [1 <<< UInt8.ofNat (Int.toNat ku), 1 <<< UInt8.ofNat (Int.toNat ku)])] 3 ⟨rfl, rfl, rfl, rfl, rfl, trivial⟩ rfl rfl ?_
                  refine r_end ?_
                  refine q_then ?_
                  refine w_if rfl (fun e => absurd e (by decide)) (fun _ => ?_)
                  refine w_skip ?_
                  refine q_block ?_
                  refine q_then ?_
                  refine w_R ?_
                  refine r_op tabOk hnt rfl (s_move rfl ?_) 
                  refine r_op tabOk hnt rfl (s_add rfl rfl ?_) 
                  refine r_op tabOk hnt rfl (s_assign rfl ?_) 
                  refine r_end ?_
                  refine q_then ?_
                  refine ⟨(IntKind.u64.wrap (ku + 1)), ?_, ?_, ⟨[(0, 0), (1, 1)], by rw [hk]; decide, ⟨⟨_, rfl, rfl, rfl⟩, ⟨_, rfl, rfl, rfl⟩, ⟨_, rfl, rfl, rfl⟩, ⟨_, rfl, rfl, rfl⟩, trivial⟩, ⟨⟨_, _, rfl, rfl, rfl, rfl⟩, ⟨_, _, rfl, rfl, rfl, rfl⟩, trivial⟩, by rw [hk]; decide⟩⟩
                  ·
                    rw [wrap_u64]; omega
                  · rw [wrap_u64]; omega
                ·
                  have c4_ := c4
                  try simp only [decide_eq_true_eq, decide_eq_false_iff_not, Bool.not_eq_true', Bool.not_eq_false', Bool.not_true, Bool.not_false, Bool.not_eq_eq_eq_not, Int.not_lt, Int.not_le] at c4
                  refine w_exit ?_
                  refine q_then_exit ?_
                  refine q_then_exit ?_
                  refine q_block_exit ?_
                  refine q_then ?_
                  refine w_R ?_
                  refine r_op tabOk hnt rfl (s_move rfl ?_) 
                  refine r_op tabOk hnt rfl (s_move rfl ?_) 
                  refine r_op tabOk hnt rfl (s_remN (a := i) (b := 3) rfl rfl (by omega) (by omega) (by omega) ?_) 
                  refine r_op tabOk hnt rfl (s_eql rfl rfl ?_) 
                  refine r_op tabOk hnt rfl (s_mkM (f := encBo) [decide (((i % 3 : Nat) : Int) = 0)] tab_44 rfl tab_4 ⟨rfl, by decide⟩ (by decide) rfl rfl rfl rfl ?_) 
                  refine r_op tabOk hnt rfl (s_appR0 (f := encBo) (l := lb) (xs := [decide (((i % 3 : Nat) : Int) = 0)]) tab_44 rfl tab_4 ⟨rfl, by decide, by decide⟩ (srcM tab_44 rfl (hM_ref0 (f := encBo) rfl rfl)) rfl rfl (by first | omega | (simp; omega)) ?_) 
                  refine r_op tabOk hnt rfl (s_move rfl ?_) 
                  refine r_op tabOk hnt rfl (s_move rfl ?_) 
                  refine r_op tabOk hnt rfl (s_move rfl ?_) 
                  refine r_op tabOk hnt rfl (s_mulN (a := i) (b := i) rfl rfl (by omega) (by omega) (by omega) ?_) 
                  refine r_op tabOk hnt rfl (s_mulN (a := i * i) (b := 77) rfl rfl (by omega) (by omega) (by omega) ?_) 
                  refine r_op tabOk hnt rfl (s_cv16N (a := (i * i) * 77) tab_3 tab_47 rfl rfl rfl (by omega) ?_) 
                  refine r_op tabOk hnt rfl (s_mkM (f := enc16) [UInt16.ofNat ((i * i) * 77)] tab_45 rfl tab_47 ⟨rfl, by decide⟩ (by decide) rfl rfl rfl rfl ?_) 
                  refine r_op tabOk hnt rfl (s_appR0 (f := enc16) (l := ww) (xs := [UInt16.ofNat ((i * i) * 77)]) tab_45 rfl tab_47 ⟨rfl, by decide, by decide⟩ (srcM tab_45 rfl (hM_ref0 (f := enc16) rfl rfl)) rfl rfl (by first | omega | (simp; omega)) ?_) 
                  refine r_op tabOk hnt rfl (s_assign rfl ?_) 
                  refine r_op tabOk hnt rfl (s_assign rfl ?_) 
                  refine r_set [(1, PV.ref 3 0 none), (2, PV.ref 5 0 none), (3, pN i)] [(5, oB false 1 enc16 (ww ++ [UInt16.ofNat ((i * i) * 77)])), (4, oB true 1 enc16 [UInt16.ofNat ((i * i) * 77)]), (3, oB false 1 encBo (lb ++ [decide (((i % 3 : Nat) : Int) = 0)])), (2, oB true 1 encBo [decide (((i % 3 : Nat) : Int) = 0)])] 6 ⟨rfl, rfl, rfl, trivial⟩ rfl rfl ?_
                  refine r_end ?_
                  refine q_block ?_
                  refine q_then ?_
                  refine w_R ?_
                  refine r_op tabOk hnt rfl (s_move rfl ?_) 
                  refine r_op tabOk hnt rfl (s_addN (a := i) (b := 1) rfl rfl (by omega) (by omega) (by omega) ?_) 
                  refine r_op tabOk hnt rfl (s_assign rfl ?_) 
                  refine r_end ?_
                  refine q_then ?_
                  refine ⟨(lb ++ [decide (((i % 3 : Nat) : Int) = 0)]), (ww ++ [UInt16.ofNat ((i * i) * 77)]), (i + 1), ?_, ?_, ⟨[(0, 3), (1, 5)], by rw [hk]; decide, ⟨⟨_, rfl, rfl, rfl⟩, ⟨_, rfl, rfl, rfl⟩, ⟨_, rfl, rfl, rfl⟩, trivial⟩, ⟨⟨_, _, rfl, rfl, rfl, rfl⟩, ⟨_, _, rfl, rfl, rfl, rfl⟩, trivial⟩, by rw [hk]; decide⟩⟩
                  ·
                    exact ⟨by omega, by simp [hlb], by simp [hww]⟩
                  · omega
    ·
      have c1_ := c1
      try simp only [decide_eq_true_eq, decide_eq_false_iff_not, Bool.not_eq_true', Bool.not_eq_false', Bool.not_true, Bool.not_false, Bool.not_eq_eq_eq_not, Int.not_lt, Int.not_le] at c1
      refine w_exit ?_
      refine q_then_exit ?_
      refine q_then_exit ?_
      refine q_block_exit ?_
      refine q_then ?_
      refine w_seq ?_
      refine w_seq ?_
      refine w_R ?_
      refine r_op tabOk hnt rfl (s_mkM (f := encI) ([(-9223372036854775808), 9223372036854775807, 4294967296, 65535, 65536] : List Int) tab_22 rfl tab_3 ⟨rfl, by decide⟩ (by decide) rfl rfl rfl rfl ?_) 
      refine r_op tabOk hnt rfl (s_lenM (l := ([(-9223372036854775808), 9223372036854775807, 4294967296, 65535, 65536] : List Int)) tab_22 rfl (hM_ref0 (f := encI) rfl rfl) ?_) 
      refine r_op tabOk hnt rfl (s_move rfl ?_) 
      refine r_set [(75, PV.ref 2 0 none), (76, pN (([(-9223372036854775808), 9223372036854775807, 4294967296, 65535, 65536] : List Int).length)), (77, pI 0)] [(2, oB true 1 encI ([(-9223372036854775808), 9223372036854775807, 4294967296, 65535, 65536] : List Int)), (0, oB false 1 encBo lb), (1, oB false 1 enc16 ww)] 3 ⟨rfl, rfl, rfl, trivial⟩ rfl rfl ?_
      refine r_end ?_
      refine q_then ?_
      refine w_block ?_
      refine loop1 (fun (p : Nat) => p ≤ 5) (fun (p : Nat) => [(75, PV.ref 0 0 none), (76, pN (([(-9223372036854775808), 9223372036854775807, 4294967296, 65535, 65536] : List Int).length)), (77, pN p)]) 1 (fun (p : Nat) => [(0, oB true 1 encI ([(-9223372036854775808), 9223372036854775807, 4294967296, 65535, 65536] : List Int))]) (fun (p : Nat) => 5 - p) (0) ?_ ⟨[(0, 2)], by rw [hk]; decide, ⟨⟨_, rfl, rfl, rfl⟩, ⟨_, rfl, rfl, rfl⟩, ⟨_, rfl, rfl, rfl⟩, trivial⟩, ⟨⟨_, _, rfl, rfl, rfl, rfl⟩, trivial⟩, by rw [hk]; decide⟩ ?_
      · omega
      ·
        intro p hP
        refine w_seq ?_
        refine w_R ?_
        refine r_op tabOk hnt rfl (s_lss rfl rfl ?_) 
        refine r_end ?_
        refine q_then ?_
        refine w_seq ?_
        refine w_if rfl (fun c5 => ?_) (fun c5 => ?_)
        ·
          have c5_ := c5
          try simp only [decide_eq_true_eq, decide_eq_false_iff_not, Bool.not_eq_true', Bool.not_eq_false', Bool.not_true, Bool.not_false, Bool.not_eq_eq_eq_not, Int.not_lt, Int.not_le] at c5
          simp at c5
          refine w_skip ?_
          refine q_then ?_
          refine w_seq ?_
          refine w_block ?_
          refine w_seq ?_
          refine w_R ?_
          refine r_op tabOk hnt rfl (s_iaR0 (q := p) (f := encI) (l := ([(-9223372036854775808), 9223372036854775807, 4294967296, 65535, 65536] : List Int)) tab_22 rfl tab_3 rfl rfl (by omega) rfl rfl (by simp; omega) ?_) 
          obtain ⟨e2, he2⟩ := get_of_lt ([(-9223372036854775808), 9223372036854775807, 4294967296, 65535, 65536] : List Int) (i := p) (by simp; omega)
          refine r_op tabOk hnt rfl (s_ldM (b := e2) (f := encI) tab_3 rfl rfl rfl rfl he2 rfl ?_) 
          refine r_op tabOk hnt rfl (s_assign rfl ?_) 
          refine r_end ?_
          refine q_then ?_
          refine w_seq ?_
          have hb1 : e2 ≤ 9223372036854775807 := by have := List.mem_of_getElem? he2; simp at this; omega
          refine w_R ?_
          refine r_op tabOk hnt rfl (s_mkM (f := enc8) ([1, 2, 3] : List UInt8) tab_27 rfl tab_5 ⟨rfl, by decide⟩ (by decide) rfl rfl rfl rfl ?_) 
          refine r_op tabOk hnt rfl (s_move rfl ?_) 
          refine r_op tabOk hnt rfl (s_move rfl ?_) 
          refine r_op tabOk hnt rfl (s_callX (r2 := pB true) (nx1 := 2) (H2 := [(1, oB false 1 enc8 ([1, 2, 3] : List UInt8)), (0, oB true 1 encI ([(-9223372036854775808), 9223372036854775807, 4294967296, 65535, 65536] : List Int))]) (H3 := [(1, oB false 1 enc8 ([1, 2, 3] : List UInt8)), (0, oB true 1 encI ([(-9223372036854775808), 9223372036854775807, 4294967296, 65535, 65536] : List Int))]) [] [] rfl rfl rfl (handed_of (by decide) trivial) rfl rfl rfl rfl rfl rfl (T.leL (args := [pS 1 false enc8 ([1, 2, 3] : List UInt8), pI e2, pI e2, pNil, pNil]) (args' := [pS 1 false enc8 ([1, 2, 3] : List UInt8), pI e2, pI e2, pS 1 false encBo [], pS 1 false enc16 []]) ⟨le_refl _, ⟨le_refl _, ⟨le_refl _, ⟨le_F (FLe.nil 1 false), ⟨le_F (FLe.nil 1 false), trivial⟩⟩⟩⟩⟩ (w_burgagelaw1_same ([1, 2, 3] : List UInt8) false e2 e2 [] false [] false (by first | omega | assumption | (simp; omega) | decide | (simp; done)) (by first | omega | assumption | (simp; omega) | decide | (simp; done)) (by first | omega | assumption | (simp; omega) | decide | (simp; done)) (by first | omega | assumption | (simp; omega) | decide | (simp; done)) (by first | omega | assumption | (simp; omega) | decide | (simp; done)))) rfl (dist_of rfl) rfl rfl rfl rfl ?_) 
          refine r_op tabOk hnt rfl (s_not rfl ?_) 
          refine r_set [(75, PV.ref 0 0 none), (76, pN (([(-9223372036854775808), 9223372036854775807, 4294967296, 65535, 65536] : List Int).length)), (77, pN p), (85, pB (!true))] [(1, oB false 1 enc8 ([1, 2, 3] : List UInt8)), (0, oB true 1 encI ([(-9223372036854775808), 9223372036854775807, 4294967296, 65535, 65536] : List Int))] 2 ⟨rfl, rfl, rfl, rfl, trivial⟩ rfl rfl ?_
          refine r_end ?_
          refine q_then ?_
          refine w_if rfl (fun e => absurd e (by decide)) (fun _ => ?_)
          refine w_skip ?_
          refine q_block ?_
          refine q_then ?_
          refine w_R ?_
          refine r_op tabOk hnt rfl (s_addN (a := p) (b := 1) rfl rfl (by omega) (by omega) (by omega) ?_) 
          refine r_op tabOk hnt rfl (s_move rfl ?_) 
          refine r_end ?_
          refine q_then ?_
          refine ⟨(p + 1), ?_, ?_, ⟨[(0, 0)], by rw [hk]; decide, ⟨⟨_, rfl, rfl, rfl⟩, ⟨_, rfl, rfl, rfl⟩, ⟨_, rfl, rfl, rfl⟩, trivial⟩, ⟨⟨_, _, rfl, rfl, rfl, rfl⟩, trivial⟩, by rw [hk]; decide⟩⟩
          ·
            omega
          · omega
        ·
          have c5_ := c5
          try simp only [decide_eq_true_eq, decide_eq_false_iff_not, Bool.not_eq_true', Bool.not_eq_false', Bool.not_true, Bool.not_false, Bool.not_eq_eq_eq_not, Int.not_lt, Int.not_le] at c5
          refine w_exit ?_
          refine q_then_exit ?_
          refine q_then_exit ?_
          refine q_block_exit ?_
          refine q_then ?_
          refine w_seq ?_
          refine w_R ?_
          refine r_op tabOk hnt rfl (s_callF rfl rfl rfl (w_burgagelaw1_known) rfl ?_) 
          refine r_op tabOk hnt rfl (s_assign rfl ?_) 
          refine r_end ?_
          refine q_then ?_
          refine w_ret ?_
          exact fin_plain (ret_tmp rfl ret_nil) rfl rfl ⟨rfl, rfl, rfl⟩

theorem w_burgagelaw1_OctetTells (b : List UInt8) (cl_b : Bool) (n : Int) (k : Int) (l : List Bool) (cl_l : Bool) (w : List UInt16) (cl_w : Bool) (hb : b.length ≤ 1048576) (hn : -9223372036854775808 ≤ n ∧ n ≤ 9223372036854775807) (hk0 : -9223372036854775808 ≤ k ∧ k ≤ 9223372036854775807) (hl : l.length ≤ 1048576) (hw : w.length ≤ 1048576) :
    T Try.prog 8 [pS 1 cl_b enc8 b, pI n, pI k, pS 1 cl_l encBo l, pS 1 cl_w enc16 w] 0 [] (Ret (pB true) 0 []) := by
  refine t_fun tabOk (n := 44) (rs := [.tmp 10]) Try.func8 rfl rfl rfl rfl (Nat.le_of_ble_eq_true rfl) ?_
  intro c hnt hk
  refine w_seq ?_
  refine w_R ?_
  refine r_op tabOk hnt rfl (s_assign rfl ?_) 
  refine r_end ?_
  refine q_then ?_
  refine w_seq ?_
  have hpl := packL_length l
  refine w_R ?_
  refine r_op tabOk hnt rfl (s_move rfl ?_) 
  refine r_op tabOk hnt rfl (s_move rfl ?_) 
  refine r_op tabOk hnt rfl (s_move rfl ?_) 
  refine r_op tabOk hnt rfl (s_move rfl ?_) 
  refine r_op tabOk hnt rfl (s_move rfl ?_) 
  refine r_op tabOk hnt rfl (s_callF rfl rfl rfl (w_burgagelaw1_same b cl_b n k l cl_l w cl_w (by first | omega | assumption | (simp; omega) | decide | (simp; done)) (by first | omega | assumption | (simp; omega) | decide | (simp; done)) (by first | omega | assumption | (simp; omega) | decide | (simp; done)) (by first | omega | assumption | (simp; omega) | decide | (simp; done)) (by first | omega | assumption | (simp; omega) | decide | (simp; done))) rfl ?_) 
  refine r_op tabOk hnt rfl (s_move rfl ?_) 
  refine r_if tabOk hnt rfl rfl rfl (fun _ => ?_) (fun e => absurd e (by decide))
  refine r_op tabOk hnt rfl (s_move rfl ?_) 
  refine r_if tabOk hnt rfl rfl rfl (fun _ => ?_) (fun e => absurd e (by decide))
  refine r_op tabOk hnt rfl (s_move rfl ?_) 
  refine r_if tabOk hnt rfl rfl rfl (fun _ => ?_) (fun e => absurd e (by decide))
  refine r_op tabOk hnt rfl (s_lenM (l := b) tab_27 rfl (hM_sl (f := enc8) rfl) ?_) 
  refine r_if tabOk hnt rfl rfl rfl (fun _ => ?_) (fun e => absurd e (by decide))
  refine r_op tabOk hnt rfl (s_minN (a := b.length) (b := 1048576) rfl (by omega) (by omega) ?_) 
  refine r_if tabOk hnt rfl rfl rfl (fun _ => ?_) (fun e => absurd e (by decide))
  refine r_op tabOk hnt rfl (s_mulN (a := 8) (b := min b.length 1048576) rfl rfl (by omega) (by omega) (by omega) ?_) 
  refine r_if tabOk hnt rfl rfl rfl (fun _ => ?_) (fun e => absurd e (by decide))
  refine r_op tabOk hnt rfl (s_move rfl ?_) 
  refine r_if tabOk hnt rfl rfl rfl (fun _ => ?_) (fun e => absurd e (by decide))
  refine r_op tabOk hnt rfl (s_maskI 3 (by decide) rfl rfl (by decide) ?_) 
  refine r_if tabOk hnt rfl rfl rfl (fun _ => ?_) (fun e => absurd e (by decide))
  refine r_op tabOk hnt rfl (s_subi (r := ((8 * (min b.length 1048576) : Nat) : Int) - (((n % 2 ^ 3).toNat : Nat) : Int)) rfl rfl rfl (by omega) ?_) 
  refine r_if tabOk hnt rfl rfl rfl (fun _ => ?_) (fun e => absurd e (by decide))
  refine r_op tabOk hnt rfl (s_move rfl ?_) 
  refine r_if tabOk hnt rfl rfl rfl (fun _ => ?_) (fun e => absurd e (by decide))
  refine r_op tabOk hnt rfl (s_maskI 4 (by decide) rfl rfl (by decide) ?_) 
  refine r_if tabOk hnt rfl rfl rfl (fun _ => ?_) (fun e => absurd e (by decide))
  refine r_op tabOk hnt rfl (s_move rfl ?_) 
  refine r_if tabOk hnt rfl rfl rfl (fun _ => ?_) (fun e => absurd e (by decide))
  refine r_op tabOk hnt rfl (s_move rfl ?_) 
  refine r_if tabOk hnt rfl rfl rfl (fun _ => ?_) (fun e => absurd e (by decide))
  refine r_op tabOk hnt rfl (s_callF rfl rfl rfl (w_burgagelaw1_same b cl_b (((8 * (min b.length 1048576) : Nat) : Int) - (((n % 2 ^ 3).toNat : Nat) : Int)) (((k % 2 ^ 4).toNat : Nat) : Int) l cl_l w cl_w (by first | omega | assumption | (simp; omega) | decide | (simp; done)) (by first | omega | assumption | (simp; omega) | decide | (simp; done)) (by first | omega | assumption | (simp; omega) | decide | (simp; done)) (by first | omega | assumption | (simp; omega) | decide | (simp; done)) (by first | omega | assumption | (simp; omega) | decide | (simp; done))) rfl ?_) 
  refine r_op tabOk hnt rfl (s_pick_t rfl rfl rfl ?_) 
  refine r_op tabOk hnt rfl (s_move rfl ?_) 
  refine r_if tabOk hnt rfl rfl rfl (fun _ => ?_) (fun e => absurd e (by decide))
  refine r_op tabOk hnt rfl (s_move rfl ?_) 
  refine r_if tabOk hnt rfl rfl rfl (fun _ => ?_) (fun e => absurd e (by decide))
  refine r_op tabOk hnt rfl (s_callX (r2 := PV.ref 0 0 none) (nx1 := 1) (H2 := []) (H3 := [(0, oB true 1 enc8 (packL l))]) [] [] rfl rfl rfl (handed_of (by decide) trivial) rfl rfl rfl rfl rfl rfl (w_burgageref1_Pack l cl_l (by first | omega | assumption | (simp; omega) | decide | (simp; done))) rfl (dist_of rfl) rfl rfl rfl rfl ?_) 
  refine r_if tabOk hnt rfl rfl rfl (fun _ => ?_) (fun e => absurd e (by decide))
  refine r_op tabOk hnt rfl (s_move rfl ?_) 
  refine r_if tabOk hnt rfl rfl rfl (fun _ => ?_) (fun e => absurd e (by decide))
  refine r_op tabOk hnt rfl (s_lenM (l := l) tab_44 rfl (hM_sl (f := encBo) rfl) ?_) 
  refine r_if tabOk hnt rfl rfl rfl (fun _ => ?_) (fun e => absurd e (by decide))
  refine r_op tabOk hnt rfl (s_move rfl ?_) 
  refine r_if tabOk hnt rfl rfl rfl (fun _ => ?_) (fun e => absurd e (by decide))
  refine r_op tabOk hnt rfl (s_move rfl ?_) 
  refine r_if tabOk hnt rfl rfl rfl (fun _ => ?_) (fun e => absurd e (by decide))
  refine r_op tabOk hnt rfl (s_callX (r2 := pB true) (nx1 := 1) (H2 := [(0, oB false 1 enc8 (packL l))]) (H3 := [(0, oB false 1 enc8 (packL l))]) [] [] rfl rfl rfl (handed_of (by decide) trivial) rfl rfl rfl rfl rfl rfl (w_burgagelaw1_same (packL l) false ((l.length : Nat) : Int) 0 l cl_l w cl_w (by first | omega | assumption | (simp; omega) | decide | (simp; done)) (by first | omega | assumption | (simp; omega) | decide | (simp; done)) (by first | omega | assumption | (simp; omega) | decide | (simp; done)) (by first | omega | assumption | (simp; omega) | decide | (simp; done)) (by first | omega | assumption | (simp; omega) | decide | (simp; done))) rfl (dist_of rfl) rfl rfl rfl rfl ?_) 
  refine r_op tabOk hnt rfl (s_pick_t rfl rfl rfl ?_) 
  refine r_op tabOk hnt rfl (s_move rfl ?_) 
  refine r_if tabOk hnt rfl rfl rfl (fun _ => ?_) (fun e => absurd e (by decide))
  refine r_op tabOk hnt rfl (s_callF rfl rfl rfl (w_burgagelaw1_known) rfl ?_) 
  refine r_op tabOk hnt rfl (s_pick_t rfl rfl rfl ?_) 
  refine r_op tabOk hnt rfl (s_assign rfl ?_) 
  refine r_set [(10, pB true)] [(0, oB false 1 enc8 (packL l))] 1 ⟨rfl, trivial⟩ rfl rfl ?_
  refine r_end ?_
  refine q_then ?_
  refine w_ret ?_
  exact fin_plain (ret_tmp rfl ret_nil) rfl rfl ⟨rfl, rfl, rfl⟩

end Go.Proofs.Ytfbmlnajnlekbaa
