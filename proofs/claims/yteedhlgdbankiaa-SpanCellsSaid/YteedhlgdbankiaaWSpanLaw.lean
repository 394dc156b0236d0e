/- Walks: printed by a program of this session (wip/tools/walk2.py) out of its notes. -/
import Derived.Test.YteedhlgdbankiaaWSpan
set_option linter.unusedVariables false
set_option linter.unusedSimpArgs false
set_option maxRecDepth 10000
set_option maxHeartbeats 1000000
namespace Go.Proofs.Yteedhlgdbankiaa
open Go Go.Proofs.Yteedhlgdbankiaa.Pv

theorem w_burgagelaw7_same (a : TSpan) (b : TSpan) (m : Int) (hm : m ≤ 9223372036854775807) :
    T Try.prog 30 [PV.f (eSpan a), PV.f (eSpan b), pI m] 0 [] (Ret (pB true) 0 []) := by
  refine t_fun tabOk (n := 70) (rs := [.tmp 6]) Try.func30 rfl rfl rfl rfl (Nat.le_of_ble_eq_true rfl) ?_
  intro c hnt hk
  refine w_seq ?_
  refine w_R ?_
  refine r_op tabOk hnt rfl (s_box rfl rfl ?_) 
  refine r_op tabOk hnt rfl (s_box rfl rfl ?_) 
  refine r_op tabOk hnt rfl (s_assign rfl ?_) 
  refine r_set [(2, pI m), (3, PV.ptr 0 0), (4, PV.ptr 1 0)] [(1, .obj [pI b.at_, pI b.count]), (0, .obj [pI a.at_, pI a.count])] 2 ⟨rfl, rfl, rfl, trivial⟩ rfl rfl ?_
  refine r_end ?_
  refine q_then ?_
  refine w_seq ?_
  refine W_drawn tabOk mixed hnt [[], [0], [], [2], [0, 1, 2, 3], [], [5], [], [7], [5, 6, 7, 8], [], [], [0, 1, 2, 3, 4, 10, 11], [0, 1, 2, 3, 4, 5, 6, 7, 8, 9, 10, 11, 12]] (by kernel_rfl) ?_
  refine d_op ?_
  refine x_run0 [(3, PV.ptr 0 0)] [] rfl rfl rfl rfl (s_fa_ptr tab_53 rfl rfl tab_3 (by decide) rfl ⟨rfl, rfl, rfl⟩) ?_
  refine d_op ?_
  refine x_run [(13, PV.ptr 0 0)] [0] [(0, .obj [pI a.at_, pI a.count])] [] [(0, .obj [pI a.at_, pI a.count])] [] [(1, .obj [pI b.at_, pI b.count]), (0, .obj [pI a.at_, pI a.count])] rfl rfl rfl rfl rfl rfl (s_load_ptr1 tab_3 rfl rfl rfl rfl rfl ⟨rfl, rfl, rfl⟩) rfl ⟨rfl, trivial⟩ rfl rfl ?_
  refine d_op ?_
  refine x_run0 [(3, PV.ptr 0 0)] [] rfl rfl rfl rfl (s_fa_ptr tab_53 rfl rfl tab_3 (by decide) rfl ⟨rfl, rfl, rfl⟩) ?_
  refine d_op ?_
  refine x_run [(15, PV.ptr 0 1)] [2] [(0, .obj [pI a.at_, pI a.count])] [] [(0, .obj [pI a.at_, pI a.count])] [] [(1, .obj [pI b.at_, pI b.count]), (0, .obj [pI a.at_, pI a.count])] rfl rfl rfl rfl rfl rfl (s_load_ptr1 tab_3 rfl rfl rfl rfl rfl ⟨rfl, rfl, rfl⟩) rfl ⟨rfl, trivial⟩ rfl rfl ?_
  refine d_op ?_
  refine x_run0 [(14, pI a.at_), (16, pI a.count)] [0, 1, 2, 3] rfl rfl rfl rfl (s_build tab_71 rfl rfl (b_cons rfl tab_3 rfl rfl rfl (Nat.le_of_ble_eq_true rfl) (b_cons rfl tab_3 rfl rfl rfl (Nat.le_of_ble_eq_true rfl) (b_nil ⟨rfl, rfl, rfl⟩)))) ?_
  refine d_op ?_
  refine x_run0 [(4, PV.ptr 1 0)] [] rfl rfl rfl rfl (s_fa_ptr tab_53 rfl rfl tab_3 (by decide) rfl ⟨rfl, rfl, rfl⟩) ?_
  refine d_op ?_
  refine x_run [(18, PV.ptr 1 0)] [5] [(1, .obj [pI b.at_, pI b.count])] [] [(1, .obj [pI b.at_, pI b.count])] [] [(1, .obj [pI b.at_, pI b.count]), (0, .obj [pI a.at_, pI a.count])] rfl rfl rfl rfl rfl rfl (s_load_ptr1 tab_3 rfl rfl rfl rfl rfl ⟨rfl, rfl, rfl⟩) rfl ⟨rfl, trivial⟩ rfl rfl ?_
  refine d_op ?_
  refine x_run0 [(4, PV.ptr 1 0)] [] rfl rfl rfl rfl (s_fa_ptr tab_53 rfl rfl tab_3 (by decide) rfl ⟨rfl, rfl, rfl⟩) ?_
  refine d_op ?_
  refine x_run [(20, PV.ptr 1 1)] [7] [(1, .obj [pI b.at_, pI b.count])] [] [(1, .obj [pI b.at_, pI b.count])] [] [(1, .obj [pI b.at_, pI b.count]), (0, .obj [pI a.at_, pI a.count])] rfl rfl rfl rfl rfl rfl (s_load_ptr1 tab_3 rfl rfl rfl rfl rfl ⟨rfl, rfl, rfl⟩) rfl ⟨rfl, trivial⟩ rfl rfl ?_
  refine d_op ?_
  refine x_run0 [(19, pI b.at_), (21, pI b.count)] [5, 6, 7, 8] rfl rfl rfl rfl (s_build tab_71 rfl rfl (b_cons rfl tab_3 rfl rfl rfl (Nat.le_of_ble_eq_true rfl) (b_cons rfl tab_3 rfl rfl rfl (Nat.le_of_ble_eq_true rfl) (b_nil ⟨rfl, rfl, rfl⟩)))) ?_
  refine d_op ?_
  refine x_run [] [] [] [] [(2, .obj [pI 0, pI 0])] [(2, .obj [pI 0, pI 0])] [(2, .obj [pI 0, pI 0]), (1, .obj [pI b.at_, pI b.count]), (0, .obj [pI a.at_, pI a.count])] rfl rfl rfl rfl rfl rfl (s_alloc tab_71 ⟨rfl, rfl, rfl⟩) rfl trivial rfl rfl ?_
  refine d_op ?_
  refine x_run [] [] [] [] [(3, .obj [pI 0, pI 0])] [(3, .obj [pI 0, pI 0])] [(3, .obj [pI 0, pI 0]), (2, .obj [pI 0, pI 0]), (1, .obj [pI b.at_, pI b.count]), (0, .obj [pI a.at_, pI a.count])] rfl rfl rfl rfl rfl rfl (s_alloc tab_71 ⟨rfl, rfl, rfl⟩) rfl trivial rfl rfl ?_
  refine d_op ?_
  refine x_run [(7, PV.ptr 2 0), (17, PV.f (.agg [encI a.at_, encI a.count]))] [0, 1, 2, 3, 4, 10, 11] [] [(2, .obj [pI 0, pI 0])] [(2, .obj [pI a.at_, pI a.count])] [(2, .obj [pI a.at_, pI a.count])] [(2, .obj [pI a.at_, pI a.count]), (3, .obj [pI 0, pI 0]), (1, .obj [pI b.at_, pI b.count]), (0, .obj [pI a.at_, pI a.count])] rfl rfl rfl rfl rfl rfl (s_store_ptr tab_71 rfl rfl rfl rfl rfl (Nat.le_of_ble_eq_true rfl) ⟨rfl, rfl, rfl⟩) rfl trivial rfl rfl ?_
  refine d_op ?_
  refine x_run [(8, PV.ptr 3 0), (22, PV.f (.agg [encI b.at_, encI b.count]))] [0, 1, 2, 3, 4, 5, 6, 7, 8, 9, 10, 11, 12] [] [(3, .obj [pI 0, pI 0])] [(3, .obj [pI b.at_, pI b.count])] [(3, .obj [pI b.at_, pI b.count])] [(3, .obj [pI b.at_, pI b.count]), (2, .obj [pI a.at_, pI a.count]), (1, .obj [pI b.at_, pI b.count]), (0, .obj [pI a.at_, pI a.count])] rfl rfl rfl rfl rfl rfl (s_store_ptr tab_71 rfl rfl rfl rfl rfl (Nat.le_of_ble_eq_true rfl) ⟨rfl, rfl, rfl⟩) rfl trivial rfl rfl ?_
  refine d_end ⟨by kernel_rfl, ?_⟩
  refine q_then ?_
  refine w_seq ?_
  refine w_R ?_
  refine r_op tabOk hnt rfl (s_load_ptr tab_53 rfl rfl rfl (Nat.le_of_ble_eq_true rfl) ?_) 
  refine r_op tabOk hnt rfl (s_load_ptr tab_53 rfl rfl rfl (Nat.le_of_ble_eq_true rfl) ?_) 
  refine r_op tabOk hnt rfl (s_callF rfl rfl rfl (w_span_Meet a b) rfl ?_) 
  refine r_op tabOk hnt rfl (s_move rfl ?_) 
  refine r_op tabOk hnt rfl (s_extract rfl rfl ?_) 
  refine r_op tabOk hnt rfl (s_extract rfl rfl ?_) 
  refine r_op tabOk hnt rfl (s_alloc tab_53 ?_) 
  refine r_op tabOk hnt rfl (s_store_ptr tab_53 rfl rfl rfl rfl rfl (Nat.le_of_ble_eq_true rfl) ?_) 
  refine r_op tabOk hnt rfl (s_assign rfl ?_) 
  refine r_set [(2, pI m), (3, PV.ptr 0 0), (4, PV.ptr 1 0), (7, PV.ptr 2 0), (8, PV.ptr 3 0), (9, PV.ptr 4 0), (10, pB (meetOk a b))] [(4, .obj [pI ((meetV a b).at_), pI ((meetV a b).count)]), (3, .obj [pI b.at_, pI b.count]), (2, .obj [pI a.at_, pI a.count]), (1, .obj [pI b.at_, pI b.count]), (0, .obj [pI a.at_, pI a.count])] 5 ⟨rfl, rfl, rfl, rfl, rfl, rfl, rfl, trivial⟩ rfl rfl ?_
  refine r_end ?_
  refine q_then ?_
  refine w_seq ?_
  refine w_R ?_
  refine r_op tabOk hnt rfl (s_load_ptr tab_71 rfl rfl rfl (Nat.le_of_ble_eq_true rfl) ?_) 
  refine r_op tabOk hnt rfl (s_load_ptr tab_71 rfl rfl rfl (Nat.le_of_ble_eq_true rfl) ?_) 
  refine r_op tabOk hnt rfl (s_callF rfl rfl rfl (w_burgageref7_Meet a b) rfl ?_) 
  refine r_op tabOk hnt rfl (s_move rfl ?_) 
  refine r_op tabOk hnt rfl (s_extract rfl rfl ?_) 
  refine r_op tabOk hnt rfl (s_extract rfl rfl ?_) 
  refine r_op tabOk hnt rfl (s_alloc tab_71 ?_) 
  refine r_op tabOk hnt rfl (s_store_ptr tab_71 rfl rfl rfl rfl rfl (Nat.le_of_ble_eq_true rfl) ?_) 
  refine r_op tabOk hnt rfl (s_assign rfl ?_) 
  refine r_set [(2, pI m), (3, PV.ptr 0 0), (4, PV.ptr 1 0), (7, PV.ptr 2 0), (8, PV.ptr 3 0), (9, PV.ptr 4 0), (10, pB (meetOk a b)), (11, PV.ptr 5 0), (12, pB (meetOk a b))] [(5, .obj [pI ((meetV a b).at_), pI ((meetV a b).count)]), (4, .obj [pI ((meetV a b).at_), pI ((meetV a b).count)]), (3, .obj [pI b.at_, pI b.count]), (2, .obj [pI a.at_, pI a.count]), (1, .obj [pI b.at_, pI b.count]), (0, .obj [pI a.at_, pI a.count])] 6 ⟨rfl, rfl, rfl, rfl, rfl, rfl, rfl, rfl, rfl, trivial⟩ rfl rfl ?_
  refine r_end ?_
  refine q_then ?_
  refine w_seq ?_
  refine W_drawn tabOk mixed hnt [[], [0], [], [2], [0, 1, 2, 3], [0, 1, 2, 3, 4], [0, 1, 2, 3, 4, 5], [0, 1, 2, 3, 4, 5, 6], [0, 1, 2, 3, 4, 5], [0, 1, 2, 3, 4, 5, 8], [0, 1, 2, 3, 4, 5, 6, 7, 8, 9], [0, 1, 2, 3, 4, 5, 6, 7, 8, 9, 10], [0, 1, 2, 3, 4, 5, 6, 7, 8, 9, 10, 11], [0, 1, 2, 3, 4, 5, 6, 7, 8, 9, 10, 11, 12], [0, 1, 2, 3, 4, 5, 6, 7, 8, 9, 10, 11, 12], [0, 1, 2, 3, 4, 5, 6, 7, 8, 9, 10, 11, 12, 13, 14], [0, 1, 2, 3, 4, 5, 6, 7, 8, 9, 10, 11, 12, 13, 14, 15], [0, 1, 2, 3, 4, 5, 6, 7, 8, 9, 10, 11, 12, 13, 14, 15, 16], [0, 1, 2, 3, 4, 5, 6, 7, 8, 9, 10, 11, 12, 13, 14, 15, 16, 17], [0, 1, 2, 3, 4, 5, 6, 7, 8, 9, 10, 11, 12, 13, 14, 15, 16, 17], [0, 1, 2, 3, 4, 5, 6, 7, 8, 9, 10, 11, 12, 13, 14, 15, 16, 17, 18, 19], [0, 1, 2, 3, 4, 5, 6, 7, 8, 9, 10, 11, 12, 13, 14, 15, 16, 17], [0, 1, 2, 3, 4, 5, 6, 7, 8, 9, 10, 11, 12, 13, 14, 15, 16, 17], [0, 1, 2, 3, 4, 5, 6, 7, 8, 9, 10, 11, 12, 13, 14, 15, 16, 17, 18, 19, 20, 21, 22], [0, 1, 2, 3, 4, 5, 6, 7, 8, 9, 10, 11, 12, 13, 14, 15, 16, 17, 18, 19, 20, 21, 22, 23], [0, 1, 2, 3, 4, 5, 6, 7, 8, 9, 10, 11, 12, 13, 14, 15, 16, 17, 18, 19, 20, 21, 22, 23, 24], [0, 1, 2, 3, 4, 5, 6, 7, 8, 9, 10, 11, 12, 13, 14, 15, 16, 17, 18, 19, 20, 21, 22, 23, 24, 25], [0, 1, 2, 3, 4, 5, 6, 7, 8, 9, 10, 11, 12, 13, 14, 15, 16, 17, 18, 19, 20, 21, 22, 23, 24, 25, 26], [0, 1, 2, 3, 4, 5, 6, 7, 8, 9, 10, 11, 12, 13, 14, 15, 16, 17, 18, 19, 20, 21, 22, 23, 24, 25, 26], [0, 1, 2, 3, 4, 5, 6, 7, 8, 9, 10, 11, 12, 13, 14, 15, 16, 17, 18, 19, 20, 21, 22, 23, 24, 25, 26, 27, 28], [0, 1, 2, 3, 4, 5, 6, 7, 8, 9, 10, 11, 12, 13, 14, 15, 16, 17, 18, 19, 20, 21, 22, 23, 24, 25, 26], [0, 1, 2, 3, 4, 5, 6, 7, 8, 9, 10, 11, 12, 13, 14, 15, 16, 17, 18, 19, 20, 21, 22, 23, 24, 25, 26], [0, 1, 2, 3, 4, 5, 6, 7, 8, 9, 10, 11, 12, 13, 14, 15, 16, 17, 18, 19, 20, 21, 22, 23, 24, 25, 26, 27, 28, 29, 30, 31], [0, 1, 2, 3, 4, 5, 6, 7, 8, 9, 10, 11, 12, 13, 14, 15, 16, 17, 18, 19, 20, 21, 22, 23, 24, 25, 26, 27, 28, 29, 30, 31, 32], [0, 1, 2, 3, 4, 5, 6, 7, 8, 9, 10, 11, 12, 13, 14, 15, 16, 17, 18, 19, 20, 21, 22, 23, 24, 25, 26, 27, 28, 29, 30, 31, 32, 33], [0, 1, 2, 3, 4, 5, 6, 7, 8, 9, 10, 11, 12, 13, 14, 15, 16, 17, 18, 19, 20, 21, 22, 23, 24, 25, 26, 27, 28, 29, 30, 31, 32, 33, 34]] (by kernel_rfl) ?_
  refine d_op ?_
  refine x_run0 [(9, PV.ptr 4 0)] [] rfl rfl rfl rfl (s_fa_ptr tab_53 rfl rfl tab_3 (by decide) rfl ⟨rfl, rfl, rfl⟩) ?_
  refine d_op ?_
  refine x_run [(35, PV.ptr 4 0)] [0] [(4, .obj [pI ((meetV a b).at_), pI ((meetV a b).count)])] [] [(4, .obj [pI ((meetV a b).at_), pI ((meetV a b).count)])] [] [(5, .obj [pI ((meetV a b).at_), pI ((meetV a b).count)]), (4, .obj [pI ((meetV a b).at_), pI ((meetV a b).count)]), (3, .obj [pI b.at_, pI b.count]), (2, .obj [pI a.at_, pI a.count]), (1, .obj [pI b.at_, pI b.count]), (0, .obj [pI a.at_, pI a.count])] rfl rfl rfl rfl rfl rfl (s_load_ptr1 tab_3 rfl rfl rfl rfl rfl ⟨rfl, rfl, rfl⟩) rfl ⟨rfl, trivial⟩ rfl rfl ?_
  refine d_op ?_
  refine x_run0 [(11, PV.ptr 5 0)] [] rfl rfl rfl rfl (s_fa_ptr tab_71 rfl rfl tab_3 (by decide) rfl ⟨rfl, rfl, rfl⟩) ?_
  refine d_op ?_
  refine x_run [(37, PV.ptr 5 0)] [2] [(5, .obj [pI ((meetV a b).at_), pI ((meetV a b).count)])] [] [(5, .obj [pI ((meetV a b).at_), pI ((meetV a b).count)])] [] [(5, .obj [pI ((meetV a b).at_), pI ((meetV a b).count)]), (4, .obj [pI ((meetV a b).at_), pI ((meetV a b).count)]), (3, .obj [pI b.at_, pI b.count]), (2, .obj [pI a.at_, pI a.count]), (1, .obj [pI b.at_, pI b.count]), (0, .obj [pI a.at_, pI a.count])] rfl rfl rfl rfl rfl rfl (s_load_ptr1 tab_3 rfl rfl rfl rfl rfl ⟨rfl, rfl, rfl⟩) rfl ⟨rfl, trivial⟩ rfl rfl ?_
  refine d_op ?_
  refine x_run0 [(36, pI ((meetV a b).at_)), (38, pI ((meetV a b).at_))] [0, 1, 2, 3] rfl rfl rfl rfl (s_eql rfl rfl ⟨rfl, rfl, rfl⟩) ?_
  refine d_op ?_
  refine x_run0 [(39, pB (decide ((meetV a b).at_ = (meetV a b).at_)))] [0, 1, 2, 3, 4] rfl rfl rfl rfl (s_move rfl ⟨rfl, rfl, rfl⟩) ?_
  refine x_if [(40, pB (decide ((meetV a b).at_ = (meetV a b).at_))), (9, PV.ptr 4 0)] [0, 1, 2, 3, 4, 5] rfl rfl rfl rfl (fun g1 => ?_) (fun g1 => ?_)
  ·
    have g1' := g1
    try simp only [decide_eq_true_eq, decide_eq_false_iff_not, Bool.not_eq_true', Bool.not_eq_false', Bool.not_true, Bool.not_false, Bool.not_eq_eq_eq_not, Int.not_lt, Int.not_le] at g1'
    refine x_run0 [(40, pB (decide ((meetV a b).at_ = (meetV a b).at_))), (9, PV.ptr 4 0)] [0, 1, 2, 3, 4, 5] rfl rfl rfl rfl (s_fa_ptr tab_53 rfl rfl tab_3 (by decide) rfl ⟨rfl, rfl, rfl⟩) ?_
    refine x_if [(40, pB (decide ((meetV a b).at_ = (meetV a b).at_))), (41, PV.ptr 4 1)] [0, 1, 2, 3, 4, 5, 6] rfl rfl rfl rfl (fun _ => ?_) (fun e => absurd (e.symm.trans g1) (by decide))
    refine x_run [(40, pB (decide ((meetV a b).at_ = (meetV a b).at_))), (41, PV.ptr 4 1)] [0, 1, 2, 3, 4, 5, 6] [(4, .obj [pI ((meetV a b).at_), pI ((meetV a b).count)])] [] [(4, .obj [pI ((meetV a b).at_), pI ((meetV a b).count)])] [] [(5, .obj [pI ((meetV a b).at_), pI ((meetV a b).count)]), (4, .obj [pI ((meetV a b).at_), pI ((meetV a b).count)]), (3, .obj [pI b.at_, pI b.count]), (2, .obj [pI a.at_, pI a.count]), (1, .obj [pI b.at_, pI b.count]), (0, .obj [pI a.at_, pI a.count])] rfl rfl rfl rfl rfl rfl (s_load_ptr1 tab_3 rfl rfl rfl rfl rfl ⟨rfl, rfl, rfl⟩) rfl ⟨rfl, trivial⟩ rfl rfl ?_
    refine x_if [(40, pB (decide ((meetV a b).at_ = (meetV a b).at_))), (11, PV.ptr 5 0)] [0, 1, 2, 3, 4, 5] rfl rfl rfl rfl (fun _ => ?_) (fun e => absurd (e.symm.trans g1) (by decide))
    refine x_run0 [(40, pB (decide ((meetV a b).at_ = (meetV a b).at_))), (11, PV.ptr 5 0)] [0, 1, 2, 3, 4, 5] rfl rfl rfl rfl (s_fa_ptr tab_71 rfl rfl tab_3 (by decide) rfl ⟨rfl, rfl, rfl⟩) ?_
    refine x_if [(40, pB (decide ((meetV a b).at_ = (meetV a b).at_))), (43, PV.ptr 5 1)] [0, 1, 2, 3, 4, 5, 8] rfl rfl rfl rfl (fun _ => ?_) (fun e => absurd (e.symm.trans g1) (by decide))
    refine x_run [(40, pB (decide ((meetV a b).at_ = (meetV a b).at_))), (43, PV.ptr 5 1)] [0, 1, 2, 3, 4, 5, 8] [(5, .obj [pI ((meetV a b).at_), pI ((meetV a b).count)])] [] [(5, .obj [pI ((meetV a b).at_), pI ((meetV a b).count)])] [] [(5, .obj [pI ((meetV a b).at_), pI ((meetV a b).count)]), (4, .obj [pI ((meetV a b).at_), pI ((meetV a b).count)]), (3, .obj [pI b.at_, pI b.count]), (2, .obj [pI a.at_, pI a.count]), (1, .obj [pI b.at_, pI b.count]), (0, .obj [pI a.at_, pI a.count])] rfl rfl rfl rfl rfl rfl (s_load_ptr1 tab_3 rfl rfl rfl rfl rfl ⟨rfl, rfl, rfl⟩) rfl ⟨rfl, trivial⟩ rfl rfl ?_
    refine x_if [(40, pB (decide ((meetV a b).at_ = (meetV a b).at_))), (42, pI ((meetV a b).count)), (44, pI ((meetV a b).count))] [0, 1, 2, 3, 4, 5, 6, 7, 8, 9] rfl rfl rfl rfl (fun _ => ?_) (fun e => absurd (e.symm.trans g1) (by decide))
    refine x_run0 [(40, pB (decide ((meetV a b).at_ = (meetV a b).at_))), (42, pI ((meetV a b).count)), (44, pI ((meetV a b).count))] [0, 1, 2, 3, 4, 5, 6, 7, 8, 9] rfl rfl rfl rfl (s_eql rfl rfl ⟨rfl, rfl, rfl⟩) ?_
    refine d_op ?_
    refine x_run0 [(40, pB (decide ((meetV a b).at_ = (meetV a b).at_))), (45, pB (decide ((meetV a b).count = (meetV a b).count)))] [0, 1, 2, 3, 4, 5, 6, 7, 8, 9, 10] rfl rfl rfl rfl (s_pick_t rfl g1 rfl ⟨rfl, rfl, rfl⟩) ?_
    refine d_op ?_
    refine x_run0 [(46, pB (decide ((meetV a b).count = (meetV a b).count)))] [0, 1, 2, 3, 4, 5, 6, 7, 8, 9, 10, 11] rfl rfl rfl rfl (s_move rfl ⟨rfl, rfl, rfl⟩) ?_
    refine x_if [(47, pB (decide ((meetV a b).count = (meetV a b).count))), (10, pB (meetOk a b))] [0, 1, 2, 3, 4, 5, 6, 7, 8, 9, 10, 11, 12] rfl rfl rfl rfl (fun g2 => ?_) (fun g2 => ?_)
    ·
      have g2' := g2
      try simp only [decide_eq_true_eq, decide_eq_false_iff_not, Bool.not_eq_true', Bool.not_eq_false', Bool.not_true, Bool.not_false, Bool.not_eq_eq_eq_not, Int.not_lt, Int.not_le] at g2'
      refine x_run0 [(47, pB (decide ((meetV a b).count = (meetV a b).count))), (10, pB (meetOk a b))] [0, 1, 2, 3, 4, 5, 6, 7, 8, 9, 10, 11, 12] rfl rfl rfl rfl (s_move rfl ⟨rfl, rfl, rfl⟩) ?_
      refine x_if [(47, pB (decide ((meetV a b).count = (meetV a b).count))), (12, pB (meetOk a b))] [0, 1, 2, 3, 4, 5, 6, 7, 8, 9, 10, 11, 12] rfl rfl rfl rfl (fun _ => ?_) (fun e => absurd (e.symm.trans g2) (by decide))
      refine x_run0 [(47, pB (decide ((meetV a b).count = (meetV a b).count))), (12, pB (meetOk a b))] [0, 1, 2, 3, 4, 5, 6, 7, 8, 9, 10, 11, 12] rfl rfl rfl rfl (s_move rfl ⟨rfl, rfl, rfl⟩) ?_
      refine x_if [(47, pB (decide ((meetV a b).count = (meetV a b).count))), (48, pB (meetOk a b)), (49, pB (meetOk a b))] [0, 1, 2, 3, 4, 5, 6, 7, 8, 9, 10, 11, 12, 13, 14] rfl rfl rfl rfl (fun _ => ?_) (fun e => absurd (e.symm.trans g2) (by decide))
      refine x_run0 [(47, pB (decide ((meetV a b).count = (meetV a b).count))), (48, pB (meetOk a b)), (49, pB (meetOk a b))] [0, 1, 2, 3, 4, 5, 6, 7, 8, 9, 10, 11, 12, 13, 14] rfl rfl rfl rfl (s_eqbool tab_4 rfl rfl rfl ⟨rfl, rfl, rfl⟩) ?_
      refine d_op ?_
      refine x_run0 [(47, pB (decide ((meetV a b).count = (meetV a b).count))), (50, pB ((meetOk a b) == (meetOk a b)))] [0, 1, 2, 3, 4, 5, 6, 7, 8, 9, 10, 11, 12, 13, 14, 15] rfl rfl rfl rfl (s_pick_t rfl g2 rfl ⟨rfl, rfl, rfl⟩) ?_
      refine d_op ?_
      refine x_run0 [(51, pB ((meetOk a b) == (meetOk a b)))] [0, 1, 2, 3, 4, 5, 6, 7, 8, 9, 10, 11, 12, 13, 14, 15, 16] rfl rfl rfl rfl (s_move rfl ⟨rfl, rfl, rfl⟩) ?_
      refine x_if [(52, pB ((meetOk a b) == (meetOk a b))), (3, PV.ptr 0 0)] [0, 1, 2, 3, 4, 5, 6, 7, 8, 9, 10, 11, 12, 13, 14, 15, 16, 17] rfl rfl rfl rfl (fun g3 => ?_) (fun g3 => ?_)
      ·
        have g3' := g3
        try simp only [decide_eq_true_eq, decide_eq_false_iff_not, Bool.not_eq_true', Bool.not_eq_false', Bool.not_true, Bool.not_false, Bool.not_eq_eq_eq_not, Int.not_lt, Int.not_le] at g3'
        refine x_run [(52, pB ((meetOk a b) == (meetOk a b))), (3, PV.ptr 0 0)] [0, 1, 2, 3, 4, 5, 6, 7, 8, 9, 10, 11, 12, 13, 14, 15, 16, 17] [(0, .obj [pI a.at_, pI a.count])] [] [(0, .obj [pI a.at_, pI a.count])] [] [(5, .obj [pI ((meetV a b).at_), pI ((meetV a b).count)]), (4, .obj [pI ((meetV a b).at_), pI ((meetV a b).count)]), (3, .obj [pI b.at_, pI b.count]), (2, .obj [pI a.at_, pI a.count]), (1, .obj [pI b.at_, pI b.count]), (0, .obj [pI a.at_, pI a.count])] rfl rfl rfl rfl rfl rfl (s_load_ptr tab_53 rfl rfl rfl (Nat.le_of_ble_eq_true rfl) ⟨rfl, rfl, rfl⟩) rfl ⟨rfl, trivial⟩ rfl rfl ?_
        refine x_if [(52, pB ((meetOk a b) == (meetOk a b))), (4, PV.ptr 1 0)] [0, 1, 2, 3, 4, 5, 6, 7, 8, 9, 10, 11, 12, 13, 14, 15, 16, 17] rfl rfl rfl rfl (fun _ => ?_) (fun e => absurd (e.symm.trans g3) (by decide))
        refine x_run [(52, pB ((meetOk a b) == (meetOk a b))), (4, PV.ptr 1 0)] [0, 1, 2, 3, 4, 5, 6, 7, 8, 9, 10, 11, 12, 13, 14, 15, 16, 17] [(1, .obj [pI b.at_, pI b.count])] [] [(1, .obj [pI b.at_, pI b.count])] [] [(5, .obj [pI ((meetV a b).at_), pI ((meetV a b).count)]), (4, .obj [pI ((meetV a b).at_), pI ((meetV a b).count)]), (3, .obj [pI b.at_, pI b.count]), (2, .obj [pI a.at_, pI a.count]), (1, .obj [pI b.at_, pI b.count]), (0, .obj [pI a.at_, pI a.count])] rfl rfl rfl rfl rfl rfl (s_load_ptr tab_53 rfl rfl rfl (Nat.le_of_ble_eq_true rfl) ⟨rfl, rfl, rfl⟩) rfl ⟨rfl, trivial⟩ rfl rfl ?_
        refine x_if [(52, pB ((meetOk a b) == (meetOk a b))), (53, PV.f (.agg [encI a.at_, encI a.count])), (54, PV.f (.agg [encI b.at_, encI b.count]))] [0, 1, 2, 3, 4, 5, 6, 7, 8, 9, 10, 11, 12, 13, 14, 15, 16, 17, 18, 19] rfl rfl rfl rfl (fun _ => ?_) (fun e => absurd (e.symm.trans g3) (by decide))
        refine x_run0 [(52, pB ((meetOk a b) == (meetOk a b))), (53, PV.f (.agg [encI a.at_, encI a.count])), (54, PV.f (.agg [encI b.at_, encI b.count]))] [0, 1, 2, 3, 4, 5, 6, 7, 8, 9, 10, 11, 12, 13, 14, 15, 16, 17, 18, 19] rfl rfl rfl rfl (s_callF rfl rfl rfl (w_span_In a b) rfl ⟨rfl, rfl, rfl⟩) ?_
        refine x_if [(52, pB ((meetOk a b) == (meetOk a b))), (7, PV.ptr 2 0)] [0, 1, 2, 3, 4, 5, 6, 7, 8, 9, 10, 11, 12, 13, 14, 15, 16, 17] rfl rfl rfl rfl (fun _ => ?_) (fun e => absurd (e.symm.trans g3) (by decide))
        refine x_run [(52, pB ((meetOk a b) == (meetOk a b))), (7, PV.ptr 2 0)] [0, 1, 2, 3, 4, 5, 6, 7, 8, 9, 10, 11, 12, 13, 14, 15, 16, 17] [(2, .obj [pI a.at_, pI a.count])] [] [(2, .obj [pI a.at_, pI a.count])] [] [(5, .obj [pI ((meetV a b).at_), pI ((meetV a b).count)]), (4, .obj [pI ((meetV a b).at_), pI ((meetV a b).count)]), (3, .obj [pI b.at_, pI b.count]), (2, .obj [pI a.at_, pI a.count]), (1, .obj [pI b.at_, pI b.count]), (0, .obj [pI a.at_, pI a.count])] rfl rfl rfl rfl rfl rfl (s_load_ptr tab_71 rfl rfl rfl (Nat.le_of_ble_eq_true rfl) ⟨rfl, rfl, rfl⟩) rfl ⟨rfl, trivial⟩ rfl rfl ?_
        refine x_if [(52, pB ((meetOk a b) == (meetOk a b))), (8, PV.ptr 3 0)] [0, 1, 2, 3, 4, 5, 6, 7, 8, 9, 10, 11, 12, 13, 14, 15, 16, 17] rfl rfl rfl rfl (fun _ => ?_) (fun e => absurd (e.symm.trans g3) (by decide))
        refine x_run [(52, pB ((meetOk a b) == (meetOk a b))), (8, PV.ptr 3 0)] [0, 1, 2, 3, 4, 5, 6, 7, 8, 9, 10, 11, 12, 13, 14, 15, 16, 17] [(3, .obj [pI b.at_, pI b.count])] [] [(3, .obj [pI b.at_, pI b.count])] [] [(5, .obj [pI ((meetV a b).at_), pI ((meetV a b).count)]), (4, .obj [pI ((meetV a b).at_), pI ((meetV a b).count)]), (3, .obj [pI b.at_, pI b.count]), (2, .obj [pI a.at_, pI a.count]), (1, .obj [pI b.at_, pI b.count]), (0, .obj [pI a.at_, pI a.count])] rfl rfl rfl rfl rfl rfl (s_load_ptr tab_71 rfl rfl rfl (Nat.le_of_ble_eq_true rfl) ⟨rfl, rfl, rfl⟩) rfl ⟨rfl, trivial⟩ rfl rfl ?_
        refine x_if [(52, pB ((meetOk a b) == (meetOk a b))), (56, PV.f (.agg [encI a.at_, encI a.count])), (57, PV.f (.agg [encI b.at_, encI b.count]))] [0, 1, 2, 3, 4, 5, 6, 7, 8, 9, 10, 11, 12, 13, 14, 15, 16, 17, 18, 19, 20, 21, 22] rfl rfl rfl rfl (fun _ => ?_) (fun e => absurd (e.symm.trans g3) (by decide))
        refine x_run0 [(52, pB ((meetOk a b) == (meetOk a b))), (56, PV.f (.agg [encI a.at_, encI a.count])), (57, PV.f (.agg [encI b.at_, encI b.count]))] [0, 1, 2, 3, 4, 5, 6, 7, 8, 9, 10, 11, 12, 13, 14, 15, 16, 17, 18, 19, 20, 21, 22] rfl rfl rfl rfl (s_callF rfl rfl rfl (w_burgageref7_In a b) rfl ⟨rfl, rfl, rfl⟩) ?_
        refine x_if [(52, pB ((meetOk a b) == (meetOk a b))), (55, pB (spIn a b)), (58, pB (spIn a b))] [0, 1, 2, 3, 4, 5, 6, 7, 8, 9, 10, 11, 12, 13, 14, 15, 16, 17, 18, 19, 20, 21, 22, 23] rfl rfl rfl rfl (fun _ => ?_) (fun e => absurd (e.symm.trans g3) (by decide))
        refine x_run0 [(52, pB ((meetOk a b) == (meetOk a b))), (55, pB (spIn a b)), (58, pB (spIn a b))] [0, 1, 2, 3, 4, 5, 6, 7, 8, 9, 10, 11, 12, 13, 14, 15, 16, 17, 18, 19, 20, 21, 22, 23] rfl rfl rfl rfl (s_eqbool tab_4 rfl rfl rfl ⟨rfl, rfl, rfl⟩) ?_
        refine d_op ?_
        refine x_run0 [(52, pB ((meetOk a b) == (meetOk a b))), (59, pB ((spIn a b) == (spIn a b)))] [0, 1, 2, 3, 4, 5, 6, 7, 8, 9, 10, 11, 12, 13, 14, 15, 16, 17, 18, 19, 20, 21, 22, 23, 24] rfl rfl rfl rfl (s_pick_t rfl g3 rfl ⟨rfl, rfl, rfl⟩) ?_
        refine d_op ?_
        refine x_run0 [(60, pB ((spIn a b) == (spIn a b)))] [0, 1, 2, 3, 4, 5, 6, 7, 8, 9, 10, 11, 12, 13, 14, 15, 16, 17, 18, 19, 20, 21, 22, 23, 24, 25] rfl rfl rfl rfl (s_move rfl ⟨rfl, rfl, rfl⟩) ?_
        refine x_if [(61, pB ((spIn a b) == (spIn a b))), (3, PV.ptr 0 0)] [0, 1, 2, 3, 4, 5, 6, 7, 8, 9, 10, 11, 12, 13, 14, 15, 16, 17, 18, 19, 20, 21, 22, 23, 24, 25, 26] rfl rfl rfl rfl (fun g4 => ?_) (fun g4 => ?_)
        ·
          have g4' := g4
          try simp only [decide_eq_true_eq, decide_eq_false_iff_not, Bool.not_eq_true', Bool.not_eq_false', Bool.not_true, Bool.not_false, Bool.not_eq_eq_eq_not, Int.not_lt, Int.not_le] at g4'
          refine x_run [(61, pB ((spIn a b) == (spIn a b))), (3, PV.ptr 0 0)] [0, 1, 2, 3, 4, 5, 6, 7, 8, 9, 10, 11, 12, 13, 14, 15, 16, 17, 18, 19, 20, 21, 22, 23, 24, 25, 26] [(0, .obj [pI a.at_, pI a.count])] [] [(0, .obj [pI a.at_, pI a.count])] [] [(5, .obj [pI ((meetV a b).at_), pI ((meetV a b).count)]), (4, .obj [pI ((meetV a b).at_), pI ((meetV a b).count)]), (3, .obj [pI b.at_, pI b.count]), (2, .obj [pI a.at_, pI a.count]), (1, .obj [pI b.at_, pI b.count]), (0, .obj [pI a.at_, pI a.count])] rfl rfl rfl rfl rfl rfl (s_load_ptr tab_53 rfl rfl rfl (Nat.le_of_ble_eq_true rfl) ⟨rfl, rfl, rfl⟩) rfl ⟨rfl, trivial⟩ rfl rfl ?_
          refine x_if [(61, pB ((spIn a b) == (spIn a b))), (2, pI m)] [0, 1, 2, 3, 4, 5, 6, 7, 8, 9, 10, 11, 12, 13, 14, 15, 16, 17, 18, 19, 20, 21, 22, 23, 24, 25, 26] rfl rfl rfl rfl (fun _ => ?_) (fun e => absurd (e.symm.trans g4) (by decide))
          refine x_run0 [(61, pB ((spIn a b) == (spIn a b))), (2, pI m)] [0, 1, 2, 3, 4, 5, 6, 7, 8, 9, 10, 11, 12, 13, 14, 15, 16, 17, 18, 19, 20, 21, 22, 23, 24, 25, 26] rfl rfl rfl rfl (s_move rfl ⟨rfl, rfl, rfl⟩) ?_
          refine x_if [(61, pB ((spIn a b) == (spIn a b))), (62, PV.f (.agg [encI a.at_, encI a.count])), (63, pI m)] [0, 1, 2, 3, 4, 5, 6, 7, 8, 9, 10, 11, 12, 13, 14, 15, 16, 17, 18, 19, 20, 21, 22, 23, 24, 25, 26, 27, 28] rfl rfl rfl rfl (fun _ => ?_) (fun e => absurd (e.symm.trans g4) (by decide))
          refine x_run0 [(61, pB ((spIn a b) == (spIn a b))), (62, PV.f (.agg [encI a.at_, encI a.count])), (63, pI m)] [0, 1, 2, 3, 4, 5, 6, 7, 8, 9, 10, 11, 12, 13, 14, 15, 16, 17, 18, 19, 20, 21, 22, 23, 24, 25, 26, 27, 28] rfl rfl rfl rfl (s_callF rfl rfl rfl (w_span_Right a m (by first | omega | assumption | (simp; omega) | decide | (simp; done))) rfl ⟨rfl, rfl, rfl⟩) ?_
          refine x_if [(61, pB ((spIn a b) == (spIn a b))), (7, PV.ptr 2 0)] [0, 1, 2, 3, 4, 5, 6, 7, 8, 9, 10, 11, 12, 13, 14, 15, 16, 17, 18, 19, 20, 21, 22, 23, 24, 25, 26] rfl rfl rfl rfl (fun _ => ?_) (fun e => absurd (e.symm.trans g4) (by decide))
          refine x_run [(61, pB ((spIn a b) == (spIn a b))), (7, PV.ptr 2 0)] [0, 1, 2, 3, 4, 5, 6, 7, 8, 9, 10, 11, 12, 13, 14, 15, 16, 17, 18, 19, 20, 21, 22, 23, 24, 25, 26] [(2, .obj [pI a.at_, pI a.count])] [] [(2, .obj [pI a.at_, pI a.count])] [] [(5, .obj [pI ((meetV a b).at_), pI ((meetV a b).count)]), (4, .obj [pI ((meetV a b).at_), pI ((meetV a b).count)]), (3, .obj [pI b.at_, pI b.count]), (2, .obj [pI a.at_, pI a.count]), (1, .obj [pI b.at_, pI b.count]), (0, .obj [pI a.at_, pI a.count])] rfl rfl rfl rfl rfl rfl (s_load_ptr tab_71 rfl rfl rfl (Nat.le_of_ble_eq_true rfl) ⟨rfl, rfl, rfl⟩) rfl ⟨rfl, trivial⟩ rfl rfl ?_
          refine x_if [(61, pB ((spIn a b) == (spIn a b))), (2, pI m)] [0, 1, 2, 3, 4, 5, 6, 7, 8, 9, 10, 11, 12, 13, 14, 15, 16, 17, 18, 19, 20, 21, 22, 23, 24, 25, 26] rfl rfl rfl rfl (fun _ => ?_) (fun e => absurd (e.symm.trans g4) (by decide))
          refine x_run0 [(61, pB ((spIn a b) == (spIn a b))), (2, pI m)] [0, 1, 2, 3, 4, 5, 6, 7, 8, 9, 10, 11, 12, 13, 14, 15, 16, 17, 18, 19, 20, 21, 22, 23, 24, 25, 26] rfl rfl rfl rfl (s_move rfl ⟨rfl, rfl, rfl⟩) ?_
          refine x_if [(61, pB ((spIn a b) == (spIn a b))), (65, PV.f (.agg [encI a.at_, encI a.count])), (66, pI m)] [0, 1, 2, 3, 4, 5, 6, 7, 8, 9, 10, 11, 12, 13, 14, 15, 16, 17, 18, 19, 20, 21, 22, 23, 24, 25, 26, 27, 28, 29, 30, 31] rfl rfl rfl rfl (fun _ => ?_) (fun e => absurd (e.symm.trans g4) (by decide))
          refine x_run0 [(61, pB ((spIn a b) == (spIn a b))), (65, PV.f (.agg [encI a.at_, encI a.count])), (66, pI m)] [0, 1, 2, 3, 4, 5, 6, 7, 8, 9, 10, 11, 12, 13, 14, 15, 16, 17, 18, 19, 20, 21, 22, 23, 24, 25, 26, 27, 28, 29, 30, 31] rfl rfl rfl rfl (s_callF rfl rfl rfl (w_burgageref7_Right a m (by first | omega | assumption | (simp; omega) | decide | (simp; done))) rfl ⟨rfl, rfl, rfl⟩) ?_
          refine x_if [(61, pB ((spIn a b) == (spIn a b))), (64, pB (spRight a m)), (67, pB (spRight a m))] [0, 1, 2, 3, 4, 5, 6, 7, 8, 9, 10, 11, 12, 13, 14, 15, 16, 17, 18, 19, 20, 21, 22, 23, 24, 25, 26, 27, 28, 29, 30, 31, 32] rfl rfl rfl rfl (fun _ => ?_) (fun e => absurd (e.symm.trans g4) (by decide))
          refine x_run0 [(61, pB ((spIn a b) == (spIn a b))), (64, pB (spRight a m)), (67, pB (spRight a m))] [0, 1, 2, 3, 4, 5, 6, 7, 8, 9, 10, 11, 12, 13, 14, 15, 16, 17, 18, 19, 20, 21, 22, 23, 24, 25, 26, 27, 28, 29, 30, 31, 32] rfl rfl rfl rfl (s_eqbool tab_4 rfl rfl rfl ⟨rfl, rfl, rfl⟩) ?_
          refine d_op ?_
          refine x_run0 [(61, pB ((spIn a b) == (spIn a b))), (68, pB ((spRight a m) == (spRight a m)))] [0, 1, 2, 3, 4, 5, 6, 7, 8, 9, 10, 11, 12, 13, 14, 15, 16, 17, 18, 19, 20, 21, 22, 23, 24, 25, 26, 27, 28, 29, 30, 31, 32, 33] rfl rfl rfl rfl (s_pick_t rfl g4 rfl ⟨rfl, rfl, rfl⟩) ?_
          refine d_op ?_
          refine x_run0 [(69, pB ((spRight a m) == (spRight a m)))] [0, 1, 2, 3, 4, 5, 6, 7, 8, 9, 10, 11, 12, 13, 14, 15, 16, 17, 18, 19, 20, 21, 22, 23, 24, 25, 26, 27, 28, 29, 30, 31, 32, 33, 34] rfl rfl rfl rfl (s_assign rfl ⟨rfl, rfl, rfl⟩) ?_
          refine d_end ⟨by kernel_rfl, ?_⟩
          refine q_then ?_
          refine w_le (s := 6) (y := pB true) rfl (le_of_eq (congrArg (fun z : Bool => pB z) (show ((spRight a m) == (spRight a m)) = true by simp))) ?_
          refine w_ret ?_
          exact fin_plain (ret_tmp rfl ret_nil) rfl rfl ⟨rfl, rfl, rfl⟩
        ·
          exact absurd g4 (by simp)
      ·
        exact absurd g3 (by simp)
    ·
      exact absurd g2 (by simp)
  ·
    exact absurd g1 (by simp)

theorem w_burgagelaw7_covers (l : List TSpan) (cl_l : Bool) (s : TSpan) (hl : l.length * 16 ≤ 140737488351232) :
    T Try.prog 31 [pS 2 cl_l eSpan l, PV.f (eSpan s)] 0 [] (Ret (pB true) 0 []) := by
  refine t_fun tabOk (n := 84) (rs := [.tmp 4]) Try.func31 rfl rfl rfl rfl (Nat.le_of_ble_eq_true rfl) ?_
  intro c hnt hk
  refine w_seq ?_
  refine w_R ?_
  refine r_op tabOk hnt rfl (s_box rfl rfl ?_) 
  refine r_op tabOk hnt rfl (s_assign rfl ?_) 
  refine r_set [(0, pS 2 cl_l eSpan l), (3, PV.ptr 0 0)] [(0, .obj [pI s.at_, pI s.count])] 1 ⟨rfl, rfl, trivial⟩ rfl rfl ?_
  refine r_end ?_
  refine q_then ?_
  refine w_seq ?_
  refine w_R ?_
  refine r_op tabOk hnt rfl (s_assign rfl ?_) 
  refine r_end ?_
  refine q_then ?_
  refine w_seq ?_
  refine w_seq ?_
  refine w_R ?_
  refine r_op tabOk hnt rfl (s_move rfl ?_) 
  refine r_op tabOk hnt rfl (s_lenM (l := l) tab_56 rfl (hM_sl (f := eSpan) rfl) ?_) 
  refine r_op tabOk hnt rfl (s_move rfl ?_) 
  refine r_end ?_
  refine q_then ?_
  refine w_block ?_
  refine w_adopt (s := 5) (sz := 2) rfl ?_
  refine loop2 (fun (ws : List TSpan) (i : Nat) => i ≤ l.length ∧ ws = l.take i) (fun (ws : List TSpan) (i : Nat) => [(0, pS 2 cl_l eSpan l), (3, PV.ptr 1 0), (5, PV.ref 0 0 none), (13, pS 2 cl_l eSpan l), (14, pN l.length), (15, pN i)]) 2 (fun (ws : List TSpan) (i : Nat) => [(0, oB true 2 eSpan ws), (1, .obj [pI s.at_, pI s.count])]) (fun (ws : List TSpan) (i : Nat) => l.length - i) (([] : List TSpan)) (0) ?_ ⟨[(0, 1), (1, 0)], by rw [hk]; decide, ⟨⟨_, rfl, rfl, rfl⟩, ⟨_, rfl, rfl, rfl⟩, ⟨_, rfl, rfl, rfl⟩, ⟨_, rfl, rfl, rfl⟩, ⟨_, rfl, rfl, rfl⟩, ⟨_, rfl, rfl, rfl⟩, trivial⟩, ⟨⟨_, _, rfl, rfl, rfl, rfl⟩, ⟨_, _, rfl, rfl, rfl, rfl⟩, trivial⟩, by rw [hk]; decide⟩ ?_
  · exact ⟨Nat.zero_le _, rfl⟩
  ·
    intro ws i hI
    obtain ⟨hi, hw⟩ := hI
    have hwl : ws.length = i := by rw [hw]; simp; omega
    refine w_seq ?_
    refine w_R ?_
    refine r_op tabOk hnt rfl (s_lss rfl rfl ?_) 
    refine r_end ?_
    refine q_then ?_
    refine w_seq ?_
    refine w_if rfl (fun c1 => ?_) (fun c1 => ?_)
    ·
      have c1_ := c1
      try simp only [decide_eq_true_eq, decide_eq_false_iff_not, Bool.not_eq_true', Bool.not_eq_false', Bool.not_true, Bool.not_false, Bool.not_eq_eq_eq_not, Int.not_lt, Int.not_le] at c1
      refine w_skip ?_
      refine q_then ?_
      refine w_seq ?_
      refine w_block ?_
      refine w_seq ?_
      refine w_R ?_
      obtain ⟨e1, he1⟩ := get_of_lt l (i := i) (by omega)
      refine r_op tabOk hnt rfl (s_iaM (q := i) (b := e1) (f := eSpan) tab_56 rfl tab_53 rfl rfl (by omega) rfl he1 ?_) 
      refine r_op tabOk hnt rfl (s_load_ro tab_53 rfl rfl rfl ?_) 
      refine r_op tabOk hnt rfl (s_alloc tab_53 ?_) 
      refine r_op tabOk hnt rfl (s_store_ptr tab_53 rfl rfl rfl rfl rfl (Nat.le_of_ble_eq_true rfl) ?_) 
      refine r_set [(0, pS 2 cl_l eSpan l), (3, PV.ptr 1 0), (5, PV.ref 0 0 none), (7, PV.ptr 2 0), (13, pS 2 cl_l eSpan l), (14, pN l.length), (15, pN i)] [(2, .obj [pI e1.at_, pI e1.count]), (0, oB true 2 eSpan ws), (1, .obj [pI s.at_, pI s.count])] 3 ⟨rfl, rfl, rfl, rfl, rfl, rfl, rfl, trivial⟩ rfl rfl ?_
      refine r_end ?_
      refine q_then ?_
      refine w_R ?_
      refine r_op tabOk hnt rfl (s_move rfl ?_) 
      refine r_op tabOk hnt rfl (s_fa_ptr tab_53 rfl rfl tab_3 (by decide) rfl ?_) 
      refine r_op tabOk hnt rfl (s_load_ptr1 tab_3 rfl rfl rfl rfl rfl ?_) 
      refine r_op tabOk hnt rfl (s_fa_ptr tab_53 rfl rfl tab_3 (by decide) rfl ?_) 
      refine r_op tabOk hnt rfl (s_load_ptr1 tab_3 rfl rfl rfl rfl rfl ?_) 
      refine r_op tabOk hnt rfl (s_build tab_71 rfl rfl (b_cons rfl tab_3 rfl rfl rfl (Nat.le_of_ble_eq_true rfl) (b_cons rfl tab_3 rfl rfl rfl (Nat.le_of_ble_eq_true rfl) (b_nil ?_)))) 
      refine r_op tabOk hnt rfl (s_mkM (f := eSpan) [e1] tab_77 rfl tab_71 ⟨rfl, by decide⟩ (by decide) rfl rfl rfl rfl ?_) 
      refine r_op tabOk hnt rfl (s_appR0 (f := eSpan) (l := ws) (xs := [e1]) tab_77 rfl tab_71 ⟨rfl, by decide, by decide⟩ (srcM tab_77 rfl (hM_ref0 (f := eSpan) rfl rfl)) rfl rfl (by first | omega | (simp; omega)) ?_) 
      refine r_op tabOk hnt rfl (s_assign rfl ?_) 
      refine r_set [(0, pS 2 cl_l eSpan l), (3, PV.ptr 1 0), (5, PV.ref 4 0 none), (13, pS 2 cl_l eSpan l), (14, pN l.length), (15, pN i)] [(4, oB true 2 eSpan (ws ++ [e1])), (3, oB true 2 eSpan [e1]), (2, .obj [pI e1.at_, pI e1.count]), (1, .obj [pI s.at_, pI s.count])] 5 ⟨rfl, rfl, rfl, rfl, rfl, rfl, trivial⟩ rfl rfl ?_
      refine r_end ?_
      refine q_block ?_
      refine q_then ?_
      refine w_R ?_
      refine r_op tabOk hnt rfl (s_addN (a := i) (b := 1) rfl rfl (by omega) (by omega) (by omega) ?_) 
      refine r_op tabOk hnt rfl (s_move rfl ?_) 
      refine r_end ?_
      refine q_then ?_
      refine ⟨(ws ++ [e1]), (i + 1), ?_, ?_, ⟨[(0, 4), (1, 1)], by rw [hk]; decide, ⟨⟨_, rfl, rfl, rfl⟩, ⟨_, rfl, rfl, rfl⟩, ⟨_, rfl, rfl, rfl⟩, ⟨_, rfl, rfl, rfl⟩, ⟨_, rfl, rfl, rfl⟩, ⟨_, rfl, rfl, rfl⟩, trivial⟩, ⟨⟨_, _, rfl, rfl, rfl, rfl⟩, ⟨_, _, rfl, rfl, rfl, rfl⟩, trivial⟩, by rw [hk]; decide⟩⟩
      ·
        exact ⟨by omega, by rw [List.take_add_one, he1, hw]; rfl⟩
      · omega
    ·
      have c1_ := c1
      try simp only [decide_eq_true_eq, decide_eq_false_iff_not, Bool.not_eq_true', Bool.not_eq_false', Bool.not_true, Bool.not_false, Bool.not_eq_eq_eq_not, Int.not_lt, Int.not_le] at c1
      refine w_exit ?_
      refine q_then_exit ?_
      refine q_then_exit ?_
      refine q_block_exit ?_
      refine q_then ?_
      refine w_seq ?_
      have hwe : ws = l := by rw [hw, List.take_of_length_le (by omega)]
      refine w_H (H' := [(0, oB true 2 eSpan l), (1, .obj [pI s.at_, pI s.count])]) (congrArg (fun z => ([(0, oB true 2 eSpan z), (1, .obj [pI s.at_, pI s.count])] : Heap)) (show ws = l by exact hwe)) ?_
      refine w_R ?_
      refine r_op tabOk hnt rfl (s_move rfl ?_) 
      refine r_op tabOk hnt rfl (s_load_ptr tab_53 rfl rfl rfl (Nat.le_of_ble_eq_true rfl) ?_) 
      refine r_op tabOk hnt rfl (s_callF rfl rfl rfl (w_span_Cover l cl_l s (by first | omega | assumption | (simp; omega) | decide | (simp; done))) rfl ?_) 
      refine r_op tabOk hnt rfl (s_move rfl ?_) 
      refine r_op tabOk hnt rfl (s_extract rfl rfl ?_) 
      refine r_op tabOk hnt rfl (s_extract rfl rfl ?_) 
      refine r_op tabOk hnt rfl (s_assign rfl ?_) 
      refine r_op tabOk hnt rfl (s_assign rfl ?_) 
      refine r_end ?_
      refine q_then ?_
      refine w_seq ?_
      refine w_R ?_
      refine r_op tabOk hnt rfl (s_move rfl ?_) 
      refine r_op tabOk hnt rfl (s_fa_ptr tab_53 rfl rfl tab_3 (by decide) rfl ?_) 
      refine r_op tabOk hnt rfl (s_load_ptr1 tab_3 rfl rfl rfl rfl rfl ?_) 
      refine r_op tabOk hnt rfl (s_fa_ptr tab_53 rfl rfl tab_3 (by decide) rfl ?_) 
      refine r_op tabOk hnt rfl (s_load_ptr1 tab_3 rfl rfl rfl rfl rfl ?_) 
      refine r_op tabOk hnt rfl (s_build tab_71 rfl rfl (b_cons rfl tab_3 rfl rfl rfl (Nat.le_of_ble_eq_true rfl) (b_cons rfl tab_3 rfl rfl rfl (Nat.le_of_ble_eq_true rfl) (b_nil ?_)))) 
      refine r_op tabOk hnt rfl (s_callX (r2 := PV.tup [pS 2 false eSpan (coverV l s), pB (coverOk l s)]) (nx1 := 2) (H2 := [(0, oB false 2 eSpan l), (1, .obj [pI s.at_, pI s.count])]) (H3 := [(0, oB false 2 eSpan l), (1, .obj [pI s.at_, pI s.count])]) [] [] rfl rfl rfl (handed_of (by decide) trivial) rfl rfl rfl rfl rfl rfl (w_burgageref7_Cover l false s (by first | omega | assumption | (simp; omega) | decide | (simp; done))) rfl (dist_of rfl) rfl rfl rfl rfl ?_) 
      refine r_op tabOk hnt rfl (s_move rfl ?_) 
      refine r_op tabOk hnt rfl (s_extract rfl rfl ?_) 
      refine r_op tabOk hnt rfl (s_extract rfl rfl ?_) 
      refine r_op tabOk hnt rfl (s_assign rfl ?_) 
      refine r_op tabOk hnt rfl (s_assign rfl ?_) 
      refine r_set [(8, pS 2 false eSpan (coverV l s)), (9, pB (coverOk l s)), (10, pS 2 false eSpan (coverV l s)), (11, pB (coverOk l s))] [(0, oB false 2 eSpan l), (1, .obj [pI s.at_, pI s.count])] 2 ⟨rfl, rfl, rfl, rfl, trivial⟩ rfl rfl ?_
      refine r_end ?_
      refine q_then ?_
      refine w_seq ?_
      refine w_seq ?_
      refine w_R ?_
      refine r_op tabOk hnt rfl (s_move rfl ?_) 
      refine r_op tabOk hnt rfl (s_move rfl ?_) 
      refine r_op tabOk hnt rfl (s_nebool tab_4 rfl rfl rfl ?_) 
      refine r_op tabOk hnt rfl (s_move rfl ?_) 
      refine r_if tabOk hnt rfl rfl rfl (fun g1 => ?_) (fun g1 => ?_)
      ·
        have g1' := g1
        try simp only [decide_eq_true_eq, decide_eq_false_iff_not, Bool.not_eq_true', Bool.not_eq_false', Bool.not_true, Bool.not_false, Bool.not_eq_eq_eq_not, Int.not_lt, Int.not_le] at g1'
        refine r_op tabOk hnt rfl (s_move rfl ?_) 
        refine r_if tabOk hnt rfl rfl rfl (fun _ => ?_) (fun e => absurd (e.symm.trans g1) (by decide))
        refine r_op tabOk hnt rfl (s_lenM (l := coverV l s) tab_56 rfl (hM_sl (f := eSpan) rfl) ?_) 
        refine r_if tabOk hnt rfl rfl rfl (fun _ => ?_) (fun e => absurd (e.symm.trans g1) (by decide))
        refine r_op tabOk hnt rfl (s_move rfl ?_) 
        refine r_if tabOk hnt rfl rfl rfl (fun _ => ?_) (fun e => absurd (e.symm.trans g1) (by decide))
        refine r_op tabOk hnt rfl (s_lenM (l := coverV l s) tab_77 rfl (hM_sl (f := eSpan) rfl) ?_) 
        refine r_if tabOk hnt rfl rfl rfl (fun _ => ?_) (fun e => absurd (e.symm.trans g1) (by decide))
        refine r_op tabOk hnt rfl (s_neq rfl rfl ?_) 
        refine r_op tabOk hnt rfl (s_pick_f rfl g1 rfl ?_) 
        refine r_end ?_
        refine q_then ?_
        refine w_if rfl (fun c2 => ?_) (fun c2 => ?_)
        ·
          have c2_ := c2
          exact absurd c2 (by simp)
        ·
          have c2_ := c2
          try simp only [decide_eq_true_eq, decide_eq_false_iff_not, Bool.not_eq_true', Bool.not_eq_false', Bool.not_true, Bool.not_false, Bool.not_eq_eq_eq_not, Int.not_lt, Int.not_le] at c2
          refine w_skip ?_
          refine q_then ?_
          refine w_seq ?_
          refine w_seq ?_
          have hcl := coverV_length l s
          refine w_R ?_
          refine r_op tabOk hnt rfl (s_move rfl ?_) 
          refine r_op tabOk hnt rfl (s_lenM (l := coverV l s) tab_56 rfl (hM_sl (f := eSpan) rfl) ?_) 
          refine r_op tabOk hnt rfl (s_move rfl ?_) 
          refine r_end ?_
          refine q_then ?_
          refine w_block ?_
          refine loop1 (fun (j : Nat) => j ≤ (coverV l s).length) (fun (j : Nat) => [(8, pS 2 false eSpan (coverV l s)), (10, pS 2 false eSpan (coverV l s)), (55, pN ((coverV l s).length)), (56, pN j)]) 0 (fun (j : Nat) => []) (fun (j : Nat) => (coverV l s).length - j) (0) ?_ ⟨[], rfl, ⟨⟨_, rfl, rfl, rfl⟩, ⟨_, rfl, rfl, rfl⟩, ⟨_, rfl, rfl, rfl⟩, ⟨_, rfl, rfl, rfl⟩, trivial⟩, trivial, by rw [hk]; decide⟩ ?_
          · omega
          ·
            intro j hI
            refine w_seq ?_
            refine w_R ?_
            refine r_op tabOk hnt rfl (s_lss rfl rfl ?_) 
            refine r_end ?_
            refine q_then ?_
            refine w_seq ?_
            refine w_if rfl (fun c3 => ?_) (fun c3 => ?_)
            ·
              have c3_ := c3
              try simp only [decide_eq_true_eq, decide_eq_false_iff_not, Bool.not_eq_true', Bool.not_eq_false', Bool.not_true, Bool.not_false, Bool.not_eq_eq_eq_not, Int.not_lt, Int.not_le] at c3
              refine w_skip ?_
              refine q_then ?_
              refine w_seq ?_
              refine w_block ?_
              refine w_seq ?_
              refine w_R ?_
              refine r_op tabOk hnt rfl (s_move rfl ?_) 
              refine r_op tabOk hnt rfl (s_assign rfl ?_) 
              refine r_end ?_
              refine q_then ?_
              refine w_seq ?_
              refine W_drawn tabOk mixed hnt [[], [], [0, 1], [0, 1, 2], [0, 1, 2, 3], [], [], [5, 6], [5, 6, 7], [5, 6, 7, 8], [0, 1, 2, 3, 4, 5, 6, 7, 8, 9], [0, 1, 2, 3, 4, 5, 6, 7, 8, 9, 10], [0, 1, 2, 3, 4, 5, 6, 7, 8, 9, 10, 11], [0, 1, 2, 3, 4, 5, 6, 7, 8, 9, 10, 11], [0, 1, 2, 3, 4, 5, 6, 7, 8, 9, 10, 11, 12, 13], [0, 1, 2, 3, 4, 5, 6, 7, 8, 9, 10, 11, 12, 13, 14], [0, 1, 2, 3, 4, 5, 6, 7, 8, 9, 10, 11, 12, 13, 14, 15], [0, 1, 2, 3, 4, 5, 6, 7, 8, 9, 10, 11], [0, 1, 2, 3, 4, 5, 6, 7, 8, 9, 10, 11], [0, 1, 2, 3, 4, 5, 6, 7, 8, 9, 10, 11, 17, 18], [0, 1, 2, 3, 4, 5, 6, 7, 8, 9, 10, 11, 17, 18, 19], [0, 1, 2, 3, 4, 5, 6, 7, 8, 9, 10, 11, 17, 18, 19, 20], [0, 1, 2, 3, 4, 5, 6, 7, 8, 9, 10, 11, 12, 13, 14, 15, 16, 17, 18, 19, 20, 21], [0, 1, 2, 3, 4, 5, 6, 7, 8, 9, 10, 11, 12, 13, 14, 15, 16, 17, 18, 19, 20, 21, 22]] (by kernel_rfl) ?_
              refine d_op ?_
              refine x_run0 [(8, pS 2 false eSpan (coverV l s))] [] rfl rfl rfl rfl (s_move rfl ⟨rfl, rfl, rfl⟩) ?_
              refine d_op ?_
              refine x_run0 [(12, pN j)] [] rfl rfl rfl rfl (s_move rfl ⟨rfl, rfl, rfl⟩) ?_
              refine d_op ?_
              obtain ⟨e2, he2⟩ := get_of_lt (coverV l s) (i := j) (by omega)
              refine x_run0 [(59, pS 2 false eSpan (coverV l s)), (60, pN j)] [0, 1] rfl rfl rfl rfl (s_iaM (q := j) (b := e2) (f := eSpan) tab_56 rfl tab_53 rfl rfl (by omega) rfl he2 ⟨rfl, rfl, rfl⟩) ?_
              refine d_op ?_
              refine x_run0 [(61, PV.f (.ro (eSpan e2)))] [0, 1, 2] rfl rfl rfl rfl (s_fa_ro tab_53 rfl rfl tab_3 (by decide) rfl (Nat.le_of_ble_eq_true rfl) (by intro _; rfl) ⟨rfl, rfl, rfl⟩) ?_
              refine d_op ?_
              refine x_run0 [(62, PV.f (.ro (encI e2.at_)))] [0, 1, 2, 3] rfl rfl rfl rfl (s_load_ro1 tab_3 rfl rfl rfl rfl ⟨rfl, rfl, rfl⟩) ?_
              refine d_op ?_
              refine x_run0 [(10, pS 2 false eSpan (coverV l s))] [] rfl rfl rfl rfl (s_move rfl ⟨rfl, rfl, rfl⟩) ?_
              refine d_op ?_
              refine x_run0 [(12, pN j)] [] rfl rfl rfl rfl (s_move rfl ⟨rfl, rfl, rfl⟩) ?_
              refine d_op ?_
              refine x_run0 [(64, pS 2 false eSpan (coverV l s)), (65, pN j)] [5, 6] rfl rfl rfl rfl (s_iaM (q := j) (b := e2) (f := eSpan) tab_77 rfl tab_71 rfl rfl (by omega) rfl he2 ⟨rfl, rfl, rfl⟩) ?_
              refine d_op ?_
              refine x_run0 [(66, PV.f (.ro (eSpan e2)))] [5, 6, 7] rfl rfl rfl rfl (s_fa_ro tab_71 rfl rfl tab_3 (by decide) rfl (Nat.le_of_ble_eq_true rfl) (by intro _; rfl) ⟨rfl, rfl, rfl⟩) ?_
              refine d_op ?_
              refine x_run0 [(67, PV.f (.ro (encI e2.at_)))] [5, 6, 7, 8] rfl rfl rfl rfl (s_load_ro1 tab_3 rfl rfl rfl rfl ⟨rfl, rfl, rfl⟩) ?_
              refine d_op ?_
              refine x_run0 [(63, pI e2.at_), (68, pI e2.at_)] [0, 1, 2, 3, 4, 5, 6, 7, 8, 9] rfl rfl rfl rfl (s_neq rfl rfl ⟨rfl, rfl, rfl⟩) ?_
              refine d_op ?_
              refine x_run0 [(69, pB (!decide (e2.at_ = e2.at_)))] [0, 1, 2, 3, 4, 5, 6, 7, 8, 9, 10] rfl rfl rfl rfl (s_move rfl ⟨rfl, rfl, rfl⟩) ?_
              refine x_if [(70, pB (!decide (e2.at_ = e2.at_))), (8, pS 2 false eSpan (coverV l s))] [0, 1, 2, 3, 4, 5, 6, 7, 8, 9, 10, 11] rfl rfl rfl rfl (fun g2 => ?_) (fun g2 => ?_)
              ·
                have g2' := g2
                try simp only [decide_eq_true_eq, decide_eq_false_iff_not, Bool.not_eq_true', Bool.not_eq_false', Bool.not_true, Bool.not_false, Bool.not_eq_eq_eq_not, Int.not_lt, Int.not_le] at g2'
                refine x_run0 [(70, pB (!decide (e2.at_ = e2.at_))), (8, pS 2 false eSpan (coverV l s))] [0, 1, 2, 3, 4, 5, 6, 7, 8, 9, 10, 11] rfl rfl rfl rfl (s_move rfl ⟨rfl, rfl, rfl⟩) ?_
                refine x_if [(70, pB (!decide (e2.at_ = e2.at_))), (12, pN j)] [0, 1, 2, 3, 4, 5, 6, 7, 8, 9, 10, 11] rfl rfl rfl rfl (fun _ => ?_) (fun e => absurd (e.symm.trans g2) (by decide))
                refine x_run0 [(70, pB (!decide (e2.at_ = e2.at_))), (12, pN j)] [0, 1, 2, 3, 4, 5, 6, 7, 8, 9, 10, 11] rfl rfl rfl rfl (s_move rfl ⟨rfl, rfl, rfl⟩) ?_
                refine x_if [(70, pB (!decide (e2.at_ = e2.at_))), (71, pS 2 false eSpan (coverV l s)), (72, pN j)] [0, 1, 2, 3, 4, 5, 6, 7, 8, 9, 10, 11, 12, 13] rfl rfl rfl rfl (fun _ => ?_) (fun e => absurd (e.symm.trans g2) (by decide))
                refine x_run0 [(70, pB (!decide (e2.at_ = e2.at_))), (71, pS 2 false eSpan (coverV l s)), (72, pN j)] [0, 1, 2, 3, 4, 5, 6, 7, 8, 9, 10, 11, 12, 13] rfl rfl rfl rfl (s_iaM (q := j) (b := e2) (f := eSpan) tab_56 rfl tab_53 rfl rfl (by omega) rfl he2 ⟨rfl, rfl, rfl⟩) ?_
                refine x_if [(70, pB (!decide (e2.at_ = e2.at_))), (73, PV.f (.ro (eSpan e2)))] [0, 1, 2, 3, 4, 5, 6, 7, 8, 9, 10, 11, 12, 13, 14] rfl rfl rfl rfl (fun _ => ?_) (fun e => absurd (e.symm.trans g2) (by decide))
                refine x_run0 [(70, pB (!decide (e2.at_ = e2.at_))), (73, PV.f (.ro (eSpan e2)))] [0, 1, 2, 3, 4, 5, 6, 7, 8, 9, 10, 11, 12, 13, 14] rfl rfl rfl rfl (s_fa_ro tab_53 rfl rfl tab_3 (by decide) rfl (Nat.le_of_ble_eq_true rfl) (by intro _; rfl) ⟨rfl, rfl, rfl⟩) ?_
                refine x_if [(70, pB (!decide (e2.at_ = e2.at_))), (74, PV.f (.ro (encI e2.count)))] [0, 1, 2, 3, 4, 5, 6, 7, 8, 9, 10, 11, 12, 13, 14, 15] rfl rfl rfl rfl (fun _ => ?_) (fun e => absurd (e.symm.trans g2) (by decide))
                refine x_run0 [(70, pB (!decide (e2.at_ = e2.at_))), (74, PV.f (.ro (encI e2.count)))] [0, 1, 2, 3, 4, 5, 6, 7, 8, 9, 10, 11, 12, 13, 14, 15] rfl rfl rfl rfl (s_load_ro1 tab_3 rfl rfl rfl rfl ⟨rfl, rfl, rfl⟩) ?_
                refine x_if [(70, pB (!decide (e2.at_ = e2.at_))), (10, pS 2 false eSpan (coverV l s))] [0, 1, 2, 3, 4, 5, 6, 7, 8, 9, 10, 11] rfl rfl rfl rfl (fun _ => ?_) (fun e => absurd (e.symm.trans g2) (by decide))
                refine x_run0 [(70, pB (!decide (e2.at_ = e2.at_))), (10, pS 2 false eSpan (coverV l s))] [0, 1, 2, 3, 4, 5, 6, 7, 8, 9, 10, 11] rfl rfl rfl rfl (s_move rfl ⟨rfl, rfl, rfl⟩) ?_
                refine x_if [(70, pB (!decide (e2.at_ = e2.at_))), (12, pN j)] [0, 1, 2, 3, 4, 5, 6, 7, 8, 9, 10, 11] rfl rfl rfl rfl (fun _ => ?_) (fun e => absurd (e.symm.trans g2) (by decide))
                refine x_run0 [(70, pB (!decide (e2.at_ = e2.at_))), (12, pN j)] [0, 1, 2, 3, 4, 5, 6, 7, 8, 9, 10, 11] rfl rfl rfl rfl (s_move rfl ⟨rfl, rfl, rfl⟩) ?_
                refine x_if [(70, pB (!decide (e2.at_ = e2.at_))), (76, pS 2 false eSpan (coverV l s)), (77, pN j)] [0, 1, 2, 3, 4, 5, 6, 7, 8, 9, 10, 11, 17, 18] rfl rfl rfl rfl (fun _ => ?_) (fun e => absurd (e.symm.trans g2) (by decide))
                refine x_run0 [(70, pB (!decide (e2.at_ = e2.at_))), (76, pS 2 false eSpan (coverV l s)), (77, pN j)] [0, 1, 2, 3, 4, 5, 6, 7, 8, 9, 10, 11, 17, 18] rfl rfl rfl rfl (s_iaM (q := j) (b := e2) (f := eSpan) tab_77 rfl tab_71 rfl rfl (by omega) rfl he2 ⟨rfl, rfl, rfl⟩) ?_
                refine x_if [(70, pB (!decide (e2.at_ = e2.at_))), (78, PV.f (.ro (eSpan e2)))] [0, 1, 2, 3, 4, 5, 6, 7, 8, 9, 10, 11, 17, 18, 19] rfl rfl rfl rfl (fun _ => ?_) (fun e => absurd (e.symm.trans g2) (by decide))
                refine x_run0 [(70, pB (!decide (e2.at_ = e2.at_))), (78, PV.f (.ro (eSpan e2)))] [0, 1, 2, 3, 4, 5, 6, 7, 8, 9, 10, 11, 17, 18, 19] rfl rfl rfl rfl (s_fa_ro tab_71 rfl rfl tab_3 (by decide) rfl (Nat.le_of_ble_eq_true rfl) (by intro _; rfl) ⟨rfl, rfl, rfl⟩) ?_
                refine x_if [(70, pB (!decide (e2.at_ = e2.at_))), (79, PV.f (.ro (encI e2.count)))] [0, 1, 2, 3, 4, 5, 6, 7, 8, 9, 10, 11, 17, 18, 19, 20] rfl rfl rfl rfl (fun _ => ?_) (fun e => absurd (e.symm.trans g2) (by decide))
                refine x_run0 [(70, pB (!decide (e2.at_ = e2.at_))), (79, PV.f (.ro (encI e2.count)))] [0, 1, 2, 3, 4, 5, 6, 7, 8, 9, 10, 11, 17, 18, 19, 20] rfl rfl rfl rfl (s_load_ro1 tab_3 rfl rfl rfl rfl ⟨rfl, rfl, rfl⟩) ?_
                refine x_if [(70, pB (!decide (e2.at_ = e2.at_))), (75, pI e2.count), (80, pI e2.count)] [0, 1, 2, 3, 4, 5, 6, 7, 8, 9, 10, 11, 12, 13, 14, 15, 16, 17, 18, 19, 20, 21] rfl rfl rfl rfl (fun _ => ?_) (fun e => absurd (e.symm.trans g2) (by decide))
                refine x_run0 [(70, pB (!decide (e2.at_ = e2.at_))), (75, pI e2.count), (80, pI e2.count)] [0, 1, 2, 3, 4, 5, 6, 7, 8, 9, 10, 11, 12, 13, 14, 15, 16, 17, 18, 19, 20, 21] rfl rfl rfl rfl (s_neq rfl rfl ⟨rfl, rfl, rfl⟩) ?_
                refine d_op ?_
                refine x_run0 [(70, pB (!decide (e2.at_ = e2.at_))), (81, pB (!decide (e2.count = e2.count)))] [0, 1, 2, 3, 4, 5, 6, 7, 8, 9, 10, 11, 12, 13, 14, 15, 16, 17, 18, 19, 20, 21, 22] rfl rfl rfl rfl (s_pick_f rfl g2 rfl ⟨rfl, rfl, rfl⟩) ?_
                refine d_end ⟨by kernel_rfl, ?_⟩
                refine q_then ?_
                refine w_if rfl (fun c4 => ?_) (fun c4 => ?_)
                ·
                  have c4_ := c4
                  exact absurd c4 (by simp)
                ·
                  have c4_ := c4
                  try simp only [decide_eq_true_eq, decide_eq_false_iff_not, Bool.not_eq_true', Bool.not_eq_false', Bool.not_true, Bool.not_false, Bool.not_eq_eq_eq_not, Int.not_lt, Int.not_le] at c4
                  refine w_skip ?_
                  refine q_block ?_
                  refine q_then ?_
                  refine w_R ?_
                  refine r_op tabOk hnt rfl (s_addN (a := j) (b := 1) rfl rfl (by omega) (by omega) (by omega) ?_) 
                  refine r_op tabOk hnt rfl (s_move rfl ?_) 
                  refine r_end ?_
                  refine q_then ?_
                  refine ⟨(j + 1), ?_, ?_, ⟨[], rfl, ⟨⟨_, rfl, rfl, rfl⟩, ⟨_, rfl, rfl, rfl⟩, ⟨_, rfl, rfl, rfl⟩, ⟨_, rfl, rfl, rfl⟩, trivial⟩, trivial, by rw [hk]; decide⟩⟩
                  ·
                    omega
                  · omega
              ·
                exact absurd g2 (by simp)
            ·
              have c3_ := c3
              try simp only [decide_eq_true_eq, decide_eq_false_iff_not, Bool.not_eq_true', Bool.not_eq_false', Bool.not_true, Bool.not_false, Bool.not_eq_eq_eq_not, Int.not_lt, Int.not_le] at c3
              refine w_exit ?_
              refine q_then_exit ?_
              refine q_then_exit ?_
              refine q_block_exit ?_
              refine q_then ?_
              refine w_seq ?_
              refine w_R ?_
              refine r_op tabOk hnt rfl (s_assign rfl ?_) 
              refine r_end ?_
              refine q_then ?_
              refine w_ret ?_
              exact fin_plain (ret_tmp rfl ret_nil) rfl rfl ⟨rfl, rfl, rfl⟩
      ·
        exact absurd g1 (by simp)

theorem w_burgagelaw7_known   :
    T Try.prog 32 [] 0 [] (Ret (pB true) 0 []) := by
  refine t_fun tabOk (n := 77) (rs := [.tmp 0]) Try.func32 rfl rfl rfl rfl (Nat.le_of_ble_eq_true rfl) ?_
  intro c hnt hk
  refine w_seq ?_
  refine w_R ?_
  refine r_op tabOk hnt rfl (s_assign rfl ?_) 
  refine r_end ?_
  refine q_then ?_
  refine w_seq ?_
  refine w_R ?_
  refine r_op tabOk hnt rfl (s_build tab_53 rfl rfl (b_cons rfl tab_3 rfl rfl rfl (Nat.le_of_ble_eq_true rfl) (b_cons rfl tab_3 rfl rfl rfl (Nat.le_of_ble_eq_true rfl) (b_nil ?_)))) 
  refine r_op tabOk hnt rfl (s_build tab_53 rfl rfl (b_cons rfl tab_3 rfl rfl rfl (Nat.le_of_ble_eq_true rfl) (b_cons rfl tab_3 rfl rfl rfl (Nat.le_of_ble_eq_true rfl) (b_nil ?_)))) 
  refine r_op tabOk hnt rfl (s_callF rfl rfl rfl (w_span_Meet (⟨0, 4⟩ : TSpan) (⟨2, 4⟩ : TSpan)) rfl ?_) 
  refine r_op tabOk hnt rfl (s_move rfl ?_) 
  refine r_op tabOk hnt rfl (s_extract rfl rfl ?_) 
  refine r_op tabOk hnt rfl (s_extract rfl rfl ?_) 
  refine r_op tabOk hnt rfl (s_alloc tab_53 ?_) 
  refine r_op tabOk hnt rfl (s_store_ptr tab_53 rfl rfl rfl rfl rfl (Nat.le_of_ble_eq_true rfl) ?_) 
  refine r_op tabOk hnt rfl (s_assign rfl ?_) 
  refine r_set [(1, PV.ptr 0 0), (2, pB (meetOk (⟨0, 4⟩ : TSpan) (⟨2, 4⟩ : TSpan)))] [(0, .obj [pI ((meetV (⟨0, 4⟩ : TSpan) (⟨2, 4⟩ : TSpan)).at_), pI ((meetV (⟨0, 4⟩ : TSpan) (⟨2, 4⟩ : TSpan)).count)])] 1 ⟨rfl, rfl, trivial⟩ rfl rfl ?_
  refine r_end ?_
  refine q_then ?_
  refine w_seq ?_
  refine w_R ?_
  refine r_op tabOk hnt rfl (s_build tab_53 rfl rfl (b_cons rfl tab_3 rfl rfl rfl (Nat.le_of_ble_eq_true rfl) (b_cons rfl tab_3 rfl rfl rfl (Nat.le_of_ble_eq_true rfl) (b_nil ?_)))) 
  refine r_op tabOk hnt rfl (s_build tab_53 rfl rfl (b_cons rfl tab_3 rfl rfl rfl (Nat.le_of_ble_eq_true rfl) (b_cons rfl tab_3 rfl rfl rfl (Nat.le_of_ble_eq_true rfl) (b_nil ?_)))) 
  refine r_op tabOk hnt rfl (s_callF rfl rfl rfl (w_span_Meet (⟨0, 2⟩ : TSpan) (⟨2, 4⟩ : TSpan)) rfl ?_) 
  refine r_op tabOk hnt rfl (s_move rfl ?_) 
  refine r_op tabOk hnt rfl (s_extract rfl rfl ?_) 
  refine r_op tabOk hnt rfl (s_extract rfl rfl ?_) 
  refine r_op tabOk hnt rfl (s_alloc tab_53 ?_) 
  refine r_op tabOk hnt rfl (s_store_ptr tab_53 rfl rfl rfl rfl rfl (Nat.le_of_ble_eq_true rfl) ?_) 
  refine r_op tabOk hnt rfl (s_assign rfl ?_) 
  refine r_set [(1, PV.ptr 0 0), (2, pB (meetOk (⟨0, 4⟩ : TSpan) (⟨2, 4⟩ : TSpan))), (4, pB (meetOk (⟨0, 2⟩ : TSpan) (⟨2, 4⟩ : TSpan)))] [(1, .obj [pI ((meetV (⟨0, 2⟩ : TSpan) (⟨2, 4⟩ : TSpan)).at_), pI ((meetV (⟨0, 2⟩ : TSpan) (⟨2, 4⟩ : TSpan)).count)]), (0, .obj [pI ((meetV (⟨0, 4⟩ : TSpan) (⟨2, 4⟩ : TSpan)).at_), pI ((meetV (⟨0, 4⟩ : TSpan) (⟨2, 4⟩ : TSpan)).count)])] 2 ⟨rfl, rfl, rfl, trivial⟩ rfl rfl ?_
  refine r_end ?_
  refine q_then ?_
  refine w_seq ?_
  refine w_R ?_
  refine r_op tabOk hnt rfl (s_build tab_53 rfl rfl (b_cons rfl tab_3 rfl rfl rfl (Nat.le_of_ble_eq_true rfl) (b_cons rfl tab_3 rfl rfl rfl (Nat.le_of_ble_eq_true rfl) (b_nil ?_)))) 
  refine r_op tabOk hnt rfl (s_build tab_53 rfl rfl (b_cons rfl tab_3 rfl rfl rfl (Nat.le_of_ble_eq_true rfl) (b_cons rfl tab_3 rfl rfl rfl (Nat.le_of_ble_eq_true rfl) (b_nil ?_)))) 
  refine r_op tabOk hnt rfl (s_mkM (f := eSpan) [(⟨4, 4⟩ : TSpan), (⟨0, 5⟩ : TSpan)] tab_56 rfl tab_53 ⟨rfl, by decide⟩ (by decide) rfl rfl rfl rfl ?_) 
  refine r_op tabOk hnt rfl (s_build tab_53 rfl rfl (b_cons rfl tab_3 rfl rfl rfl (Nat.le_of_ble_eq_true rfl) (b_cons rfl tab_3 rfl rfl rfl (Nat.le_of_ble_eq_true rfl) (b_nil ?_)))) 
  refine r_op tabOk hnt rfl (s_callX (r2 := PV.tup [pS 2 false eSpan (coverV [(⟨4, 4⟩ : TSpan), (⟨0, 5⟩ : TSpan)] (⟨2, 5⟩ : TSpan)), pB (coverOk [(⟨4, 4⟩ : TSpan), (⟨0, 5⟩ : TSpan)] (⟨2, 5⟩ : TSpan))]) (nx1 := 3) (H2 := [(2, oB false 2 eSpan [(⟨4, 4⟩ : TSpan), (⟨0, 5⟩ : TSpan)]), (1, .obj [pI ((meetV (⟨0, 2⟩ : TSpan) (⟨2, 4⟩ : TSpan)).at_), pI ((meetV (⟨0, 2⟩ : TSpan) (⟨2, 4⟩ : TSpan)).count)]), (0, .obj [pI ((meetV (⟨0, 4⟩ : TSpan) (⟨2, 4⟩ : TSpan)).at_), pI ((meetV (⟨0, 4⟩ : TSpan) (⟨2, 4⟩ : TSpan)).count)])]) (H3 := [(2, oB false 2 eSpan [(⟨4, 4⟩ : TSpan), (⟨0, 5⟩ : TSpan)]), (1, .obj [pI ((meetV (⟨0, 2⟩ : TSpan) (⟨2, 4⟩ : TSpan)).at_), pI ((meetV (⟨0, 2⟩ : TSpan) (⟨2, 4⟩ : TSpan)).count)]), (0, .obj [pI ((meetV (⟨0, 4⟩ : TSpan) (⟨2, 4⟩ : TSpan)).at_), pI ((meetV (⟨0, 4⟩ : TSpan) (⟨2, 4⟩ : TSpan)).count)])]) [] [] rfl rfl rfl (handed_of (by decide) trivial) rfl rfl rfl rfl rfl rfl (w_span_Cover [(⟨4, 4⟩ : TSpan), (⟨0, 5⟩ : TSpan)] false (⟨2, 5⟩ : TSpan) (by first | omega | assumption | (simp; omega) | decide | (simp; done))) rfl (dist_of rfl) rfl rfl rfl rfl ?_) 
  refine r_op tabOk hnt rfl (s_move rfl ?_) 
  refine r_op tabOk hnt rfl (s_extract rfl rfl ?_) 
  refine r_op tabOk hnt rfl (s_extract rfl rfl ?_) 
  refine r_op tabOk hnt rfl (s_assign rfl ?_) 
  refine r_op tabOk hnt rfl (s_assign rfl ?_) 
  refine r_set [(1, PV.ptr 0 0), (2, pB (meetOk (⟨0, 4⟩ : TSpan) (⟨2, 4⟩ : TSpan))), (4, pB (meetOk (⟨0, 2⟩ : TSpan) (⟨2, 4⟩ : TSpan))), (5, pS 2 false eSpan (coverV [(⟨4, 4⟩ : TSpan), (⟨0, 5⟩ : TSpan)] (⟨2, 5⟩ : TSpan))), (6, pB (coverOk [(⟨4, 4⟩ : TSpan), (⟨0, 5⟩ : TSpan)] (⟨2, 5⟩ : TSpan)))] [(2, oB false 2 eSpan [(⟨4, 4⟩ : TSpan), (⟨0, 5⟩ : TSpan)]), (1, .obj [pI ((meetV (⟨0, 2⟩ : TSpan) (⟨2, 4⟩ : TSpan)).at_), pI ((meetV (⟨0, 2⟩ : TSpan) (⟨2, 4⟩ : TSpan)).count)]), (0, .obj [pI ((meetV (⟨0, 4⟩ : TSpan) (⟨2, 4⟩ : TSpan)).at_), pI ((meetV (⟨0, 4⟩ : TSpan) (⟨2, 4⟩ : TSpan)).count)])] 3 ⟨rfl, rfl, rfl, rfl, rfl, trivial⟩ rfl rfl ?_
  refine r_end ?_
  refine q_then ?_
  refine w_seq ?_
  refine w_R ?_
  refine r_op tabOk hnt rfl (s_build tab_53 rfl rfl (b_cons rfl tab_3 rfl rfl rfl (Nat.le_of_ble_eq_true rfl) (b_cons rfl tab_3 rfl rfl rfl (Nat.le_of_ble_eq_true rfl) (b_nil ?_)))) 
  refine r_op tabOk hnt rfl (s_callF rfl rfl rfl (T.leL (args := [pNil, PV.f (.agg [encI 0, encI 1])]) (args' := [pS 2 false eSpan [], PV.f (eSpan (⟨0, 1⟩ : TSpan))]) ⟨le_F (FLe.nil 2 false), ⟨le_refl _, trivial⟩⟩ (w_span_Cover [] false (⟨0, 1⟩ : TSpan) (by first | omega | assumption | (simp; omega) | decide | (simp; done)))) rfl ?_) 
  refine r_op tabOk hnt rfl (s_move rfl ?_) 
  refine r_op tabOk hnt rfl (s_extract rfl rfl ?_) 
  refine r_op tabOk hnt rfl (s_extract rfl rfl ?_) 
  refine r_op tabOk hnt rfl (s_assign rfl ?_) 
  refine r_op tabOk hnt rfl (s_assign rfl ?_) 
  refine r_end ?_
  refine q_then ?_
  refine w_seq ?_
  refine w_R ?_
  refine r_op tabOk hnt rfl (s_move rfl ?_) 
  refine r_op tabOk hnt rfl (s_move rfl ?_) 
  refine r_if tabOk hnt rfl rfl rfl (fun g1 => ?_) (fun g1 => ?_)
  ·
    have g1' := g1
    try simp only [decide_eq_true_eq, decide_eq_false_iff_not, Bool.not_eq_true', Bool.not_eq_false', Bool.not_true, Bool.not_false, Bool.not_eq_eq_eq_not, Int.not_lt, Int.not_le] at g1'
    refine r_op tabOk hnt rfl (s_load_ptr tab_53 rfl rfl rfl (Nat.le_of_ble_eq_true rfl) ?_) 
    refine r_if tabOk hnt rfl rfl rfl (fun _ => ?_) (fun e => absurd (e.symm.trans g1) (by decide))
    refine r_op tabOk hnt rfl (s_build tab_53 rfl rfl (b_cons rfl tab_3 rfl rfl rfl (Nat.le_of_ble_eq_true rfl) (b_cons rfl tab_3 rfl rfl rfl (Nat.le_of_ble_eq_true rfl) (b_nil ?_)))) 
    refine r_if tabOk hnt rfl rfl rfl (fun _ => ?_) (fun e => absurd (e.symm.trans g1) (by decide))
    refine r_op tabOk hnt rfl (s_eqstruct (r := decide ((meetV (⟨0, 4⟩ : TSpan) (⟨2, 4⟩ : TSpan)).at_ = 2) && (decide ((meetV (⟨0, 4⟩ : TSpan) (⟨2, 4⟩ : TSpan)).count = 2) && true)) seq_53 rfl rfl rfl rfl (by rfl) ?_) 
    refine r_op tabOk hnt rfl (s_pick_t rfl g1 rfl ?_) 
    refine r_op tabOk hnt rfl (s_move rfl ?_) 
    refine r_if tabOk hnt rfl rfl rfl (fun g2 => ?_) (fun g2 => ?_)
    ·
      have g2' := g2
      try simp only [decide_eq_true_eq, decide_eq_false_iff_not, Bool.not_eq_true', Bool.not_eq_false', Bool.not_true, Bool.not_false, Bool.not_eq_eq_eq_not, Int.not_lt, Int.not_le] at g2'
      refine r_op tabOk hnt rfl (s_move rfl ?_) 
      refine r_if tabOk hnt rfl rfl rfl (fun _ => ?_) (fun e => absurd (e.symm.trans g2) (by decide))
      refine r_op tabOk hnt rfl (s_not rfl ?_) 
      refine r_op tabOk hnt rfl (s_pick_t rfl g2 rfl ?_) 
      refine r_op tabOk hnt rfl (s_move rfl ?_) 
      refine r_if tabOk hnt rfl rfl rfl (fun g3 => ?_) (fun g3 => ?_)
      ·
        have g3' := g3
        try simp only [decide_eq_true_eq, decide_eq_false_iff_not, Bool.not_eq_true', Bool.not_eq_false', Bool.not_true, Bool.not_false, Bool.not_eq_eq_eq_not, Int.not_lt, Int.not_le] at g3'
        refine r_op tabOk hnt rfl (s_move rfl ?_) 
        refine r_op tabOk hnt rfl (s_pick_t rfl g3 rfl ?_) 
        refine r_op tabOk hnt rfl (s_move rfl ?_) 
        refine r_if tabOk hnt rfl rfl rfl (fun g4 => ?_) (fun g4 => ?_)
        ·
          have g4' := g4
          try simp only [decide_eq_true_eq, decide_eq_false_iff_not, Bool.not_eq_true', Bool.not_eq_false', Bool.not_true, Bool.not_false, Bool.not_eq_eq_eq_not, Int.not_lt, Int.not_le] at g4'
          refine r_op tabOk hnt rfl (s_move rfl ?_) 
          refine r_if tabOk hnt rfl rfl rfl (fun _ => ?_) (fun e => absurd (e.symm.trans g4) (by decide))
          refine r_op tabOk hnt rfl (s_build tab_53 rfl rfl (b_cons rfl tab_3 rfl rfl rfl (Nat.le_of_ble_eq_true rfl) (b_cons rfl tab_3 rfl rfl rfl (Nat.le_of_ble_eq_true rfl) (b_nil ?_)))) 
          refine r_if tabOk hnt rfl rfl rfl (fun _ => ?_) (fun e => absurd (e.symm.trans g4) (by decide))
          refine r_op tabOk hnt rfl (s_build tab_53 rfl rfl (b_cons rfl tab_3 rfl rfl rfl (Nat.le_of_ble_eq_true rfl) (b_cons rfl tab_3 rfl rfl rfl (Nat.le_of_ble_eq_true rfl) (b_nil ?_)))) 
          refine r_if tabOk hnt rfl rfl rfl (fun _ => ?_) (fun e => absurd (e.symm.trans g4) (by decide))
          refine r_op tabOk hnt rfl (s_mkM (f := eSpan) [(⟨2, 3⟩ : TSpan), (⟨5, 2⟩ : TSpan)] tab_56 rfl tab_53 ⟨rfl, by decide⟩ (by decide) rfl rfl rfl rfl ?_) 
          refine r_if tabOk hnt rfl rfl rfl (fun _ => ?_) (fun e => absurd (e.symm.trans g4) (by decide))
          refine r_op tabOk hnt rfl (s_callX (r2 := pB (decide ((coverV [(⟨4, 4⟩ : TSpan), (⟨0, 5⟩ : TSpan)] (⟨2, 5⟩ : TSpan)) = [(⟨2, 3⟩ : TSpan), (⟨5, 2⟩ : TSpan)]))) (nx1 := 4) (H2 := [(3, oB false 2 eSpan [(⟨2, 3⟩ : TSpan), (⟨5, 2⟩ : TSpan)]), (2, oB false 2 eSpan [(⟨4, 4⟩ : TSpan), (⟨0, 5⟩ : TSpan)]), (1, .obj [pI ((meetV (⟨0, 2⟩ : TSpan) (⟨2, 4⟩ : TSpan)).at_), pI ((meetV (⟨0, 2⟩ : TSpan) (⟨2, 4⟩ : TSpan)).count)]), (0, .obj [pI ((meetV (⟨0, 4⟩ : TSpan) (⟨2, 4⟩ : TSpan)).at_), pI ((meetV (⟨0, 4⟩ : TSpan) (⟨2, 4⟩ : TSpan)).count)])]) (H3 := [(3, oB false 2 eSpan [(⟨2, 3⟩ : TSpan), (⟨5, 2⟩ : TSpan)]), (2, oB false 2 eSpan [(⟨4, 4⟩ : TSpan), (⟨0, 5⟩ : TSpan)]), (1, .obj [pI ((meetV (⟨0, 2⟩ : TSpan) (⟨2, 4⟩ : TSpan)).at_), pI ((meetV (⟨0, 2⟩ : TSpan) (⟨2, 4⟩ : TSpan)).count)]), (0, .obj [pI ((meetV (⟨0, 4⟩ : TSpan) (⟨2, 4⟩ : TSpan)).at_), pI ((meetV (⟨0, 4⟩ : TSpan) (⟨2, 4⟩ : TSpan)).count)])]) [] [] rfl rfl rfl (handed_of (by decide) trivial) rfl rfl rfl rfl rfl rfl (w_burgagebook_Same_span_Span (coverV [(⟨4, 4⟩ : TSpan), (⟨0, 5⟩ : TSpan)] (⟨2, 5⟩ : TSpan)) false [(⟨2, 3⟩ : TSpan), (⟨5, 2⟩ : TSpan)] false (by exact Nat.le_trans (coverV_length _ _) (by decide))) rfl (dist_of rfl) rfl rfl rfl rfl ?_) 
          refine r_op tabOk hnt rfl (s_pick_t rfl g4 rfl ?_) 
          refine r_op tabOk hnt rfl (s_move rfl ?_) 
          refine r_if tabOk hnt rfl rfl rfl (fun g5 => ?_) (fun g5 => ?_)
          ·
            have g5' := g5
            try simp only [decide_eq_true_eq, decide_eq_false_iff_not, Bool.not_eq_true', Bool.not_eq_false', Bool.not_true, Bool.not_false, Bool.not_eq_eq_eq_not, Int.not_lt, Int.not_le] at g5'
            refine r_op tabOk hnt rfl (s_move rfl ?_) 
            refine r_if tabOk hnt rfl rfl rfl (fun _ => ?_) (fun e => absurd (e.symm.trans g5) (by decide))
            refine r_op tabOk hnt rfl (s_not rfl ?_) 
            refine r_op tabOk hnt rfl (s_pick_t rfl g5 rfl ?_) 
            refine r_op tabOk hnt rfl (s_move rfl ?_) 
            refine r_if tabOk hnt rfl rfl rfl (fun g6 => ?_) (fun g6 => ?_)
            ·
              have g6' := g6
              try simp only [decide_eq_true_eq, decide_eq_false_iff_not, Bool.not_eq_true', Bool.not_eq_false', Bool.not_true, Bool.not_false, Bool.not_eq_eq_eq_not, Int.not_lt, Int.not_le] at g6'
              refine r_op tabOk hnt rfl (s_load_ptr tab_53 rfl rfl rfl (Nat.le_of_ble_eq_true rfl) ?_) 
              refine r_if tabOk hnt rfl rfl rfl (fun _ => ?_) (fun e => absurd (e.symm.trans g6) (by decide))
              refine r_op tabOk hnt rfl (s_load_ptr tab_53 rfl rfl rfl (Nat.le_of_ble_eq_true rfl) ?_) 
              refine r_if tabOk hnt rfl rfl rfl (fun _ => ?_) (fun e => absurd (e.symm.trans g6) (by decide))
              refine r_op tabOk hnt rfl (s_callF rfl rfl rfl (w_span_In (meetV (⟨0, 4⟩ : TSpan) (⟨2, 4⟩ : TSpan)) (meetV (⟨0, 4⟩ : TSpan) (⟨2, 4⟩ : TSpan))) rfl ?_) 
              refine r_op tabOk hnt rfl (s_pick_t rfl g6 rfl ?_) 
              refine r_op tabOk hnt rfl (s_move rfl ?_) 
              refine r_if tabOk hnt rfl rfl rfl (fun g7 => ?_) (fun g7 => ?_)
              ·
                have g7' := g7
                try simp only [decide_eq_true_eq, decide_eq_false_iff_not, Bool.not_eq_true', Bool.not_eq_false', Bool.not_true, Bool.not_false, Bool.not_eq_eq_eq_not, Int.not_lt, Int.not_le] at g7'
                refine r_op tabOk hnt rfl (s_load_ptr tab_53 rfl rfl rfl (Nat.le_of_ble_eq_true rfl) ?_) 
                refine r_if tabOk hnt rfl rfl rfl (fun _ => ?_) (fun e => absurd (e.symm.trans g7) (by decide))
                refine r_op tabOk hnt rfl (s_callF rfl rfl rfl (w_span_Right (meetV (⟨0, 4⟩ : TSpan) (⟨2, 4⟩ : TSpan)) 4 (by first | omega | assumption | (simp; omega) | decide | (simp; done))) rfl ?_) 
                refine r_op tabOk hnt rfl (s_pick_t rfl g7 rfl ?_) 
                refine r_op tabOk hnt rfl (s_move rfl ?_) 
                refine r_if tabOk hnt rfl rfl rfl (fun g8 => ?_) (fun g8 => ?_)
                ·
                  have g8' := g8
                  try simp only [decide_eq_true_eq, decide_eq_false_iff_not, Bool.not_eq_true', Bool.not_eq_false', Bool.not_true, Bool.not_false, Bool.not_eq_eq_eq_not, Int.not_lt, Int.not_le] at g8'
                  refine r_op tabOk hnt rfl (s_load_ptr tab_53 rfl rfl rfl (Nat.le_of_ble_eq_true rfl) ?_) 
                  refine r_if tabOk hnt rfl rfl rfl (fun _ => ?_) (fun e => absurd (e.symm.trans g8) (by decide))
                  refine r_op tabOk hnt rfl (s_callF rfl rfl rfl (w_span_Right (meetV (⟨0, 4⟩ : TSpan) (⟨2, 4⟩ : TSpan)) 3 (by first | omega | assumption | (simp; omega) | decide | (simp; done))) rfl ?_) 
                  refine r_if tabOk hnt rfl rfl rfl (fun _ => ?_) (fun e => absurd (e.symm.trans g8) (by decide))
                  refine r_op tabOk hnt rfl (s_not rfl ?_) 
                  refine r_op tabOk hnt rfl (s_pick_t rfl g8 rfl ?_) 
                  refine r_op tabOk hnt rfl (s_move rfl ?_) 
                  refine r_if tabOk hnt rfl rfl rfl (fun g9 => ?_) (fun g9 => ?_)
                  ·
                    have g9' := g9
                    try simp only [decide_eq_true_eq, decide_eq_false_iff_not, Bool.not_eq_true', Bool.not_eq_false', Bool.not_true, Bool.not_false, Bool.not_eq_eq_eq_not, Int.not_lt, Int.not_le] at g9'
                    refine r_op tabOk hnt rfl (s_build tab_53 rfl rfl (b_cons rfl tab_3 rfl rfl rfl (Nat.le_of_ble_eq_true rfl) (b_cons rfl tab_3 rfl rfl rfl (Nat.le_of_ble_eq_true rfl) (b_nil ?_)))) 
                    refine r_if tabOk hnt rfl rfl rfl (fun _ => ?_) (fun e => absurd (e.symm.trans g9) (by decide))
                    refine r_op tabOk hnt rfl (s_callF rfl rfl rfl (w_span_Right (⟨9223372036854775807, 9223372036854775807⟩ : TSpan) 9223372036854775807 (by first | omega | assumption | (simp; omega) | decide | (simp; done))) rfl ?_) 
                    refine r_if tabOk hnt rfl rfl rfl (fun _ => ?_) (fun e => absurd (e.symm.trans g9) (by decide))
                    refine r_op tabOk hnt rfl (s_not rfl ?_) 
                    refine r_op tabOk hnt rfl (s_pick_t rfl g9 rfl ?_) 
                    refine r_op tabOk hnt rfl (s_assign rfl ?_) 
                    refine r_set [(0, pB (!(spRight (⟨9223372036854775807, 9223372036854775807⟩ : TSpan) 9223372036854775807)))] [(3, oB false 2 eSpan [(⟨2, 3⟩ : TSpan), (⟨5, 2⟩ : TSpan)]), (2, oB false 2 eSpan [(⟨4, 4⟩ : TSpan), (⟨0, 5⟩ : TSpan)]), (1, .obj [pI ((meetV (⟨0, 2⟩ : TSpan) (⟨2, 4⟩ : TSpan)).at_), pI ((meetV (⟨0, 2⟩ : TSpan) (⟨2, 4⟩ : TSpan)).count)]), (0, .obj [pI ((meetV (⟨0, 4⟩ : TSpan) (⟨2, 4⟩ : TSpan)).at_), pI ((meetV (⟨0, 4⟩ : TSpan) (⟨2, 4⟩ : TSpan)).count)])] 4 ⟨rfl, trivial⟩ rfl rfl ?_
                    refine r_end ?_
                    refine q_then ?_
                    refine w_le (s := 0) (y := pB true) rfl (le_of_eq (congrArg (fun z : Bool => pB z) (show (!(spRight (⟨9223372036854775807, 9223372036854775807⟩ : TSpan) 9223372036854775807)) = true by first | decide | simp [coverV, coverOk, known_cover, known_bad]))) ?_
                    refine w_ret ?_
                    exact fin_plain (ret_tmp rfl ret_nil) rfl rfl ⟨rfl, rfl, rfl⟩
                  ·
                    exact absurd g9 (by first | decide | simp [coverV, coverOk, known_cover, known_bad])
                ·
                  exact absurd g8 (by first | decide | simp [coverV, coverOk, known_cover, known_bad])
              ·
                exact absurd g7 (by first | decide | simp [coverV, coverOk, known_cover, known_bad])
            ·
              exact absurd g6 (by first | decide | simp [coverV, coverOk, known_cover, known_bad])
          ·
            exact absurd g5 (by first | decide | simp [coverV, coverOk, known_cover, known_bad])
        ·
          exact absurd g4 (by first | decide | simp [coverV, coverOk, known_cover, known_bad])
      ·
        exact absurd g3 (by first | decide | simp [coverV, coverOk, known_cover, known_bad])
    ·
      exact absurd g2 (by first | decide | simp [coverV, coverOk, known_cover, known_bad])
  ·
    exact absurd g1 (by first | decide | simp [coverV, coverOk, known_cover, known_bad])

theorem w_burgagelaw7_SpanMeets (a : TSpan) (b : TSpan) (cc : TSpan)  :
    T Try.prog 14 [PV.f (eSpan a), PV.f (eSpan b), PV.f (eSpan cc)] 0 [] (Ret (pB true) 0 []) := by
  refine t_fun tabOk (n := 99) (rs := [.tmp 6]) Try.func14 rfl rfl rfl rfl (Nat.le_of_ble_eq_true rfl) ?_
  intro c hnt hk
  refine w_seq ?_
  refine w_R ?_
  refine r_op tabOk hnt rfl (s_box rfl rfl ?_) 
  refine r_op tabOk hnt rfl (s_box rfl rfl ?_) 
  refine r_op tabOk hnt rfl (s_box rfl rfl ?_) 
  refine r_op tabOk hnt rfl (s_assign rfl ?_) 
  refine r_set [(3, PV.ptr 0 0), (4, PV.ptr 1 0), (5, PV.ptr 2 0)] [(2, .obj [pI cc.at_, pI cc.count]), (1, .obj [pI b.at_, pI b.count]), (0, .obj [pI a.at_, pI a.count])] 3 ⟨rfl, rfl, rfl, trivial⟩ rfl rfl ?_
  refine r_end ?_
  refine q_then ?_
  refine w_seq ?_
  refine W_drawn tabOk mixed hnt [[], [0], [0, 1], [], [3], [3, 4], [3, 4, 5], [0, 1, 2, 3, 4, 5, 6], [], [8], [8, 9], [], [11], [11, 12], [11, 12, 13], [8, 9, 10, 11, 12, 13, 14], [], [16], [16, 17], [], [19], [19, 20], [19, 20, 21], [16, 17, 18, 19, 20, 21, 22], [], [], [], [0, 1, 2, 3, 4, 5, 6, 7, 24, 25, 26], [0, 1, 2, 3, 4, 5, 6, 7, 8, 9, 10, 11, 12, 13, 14, 15, 24, 25, 26, 27], [0, 1, 2, 3, 4, 5, 6, 7, 8, 9, 10, 11, 12, 13, 14, 15, 16, 17, 18, 19, 20, 21, 22, 23, 24, 25, 26, 27, 28]] (by kernel_rfl) ?_
  refine d_op ?_
  refine x_run0 [(3, PV.ptr 0 0)] [] rfl rfl rfl rfl (s_fa_ptr tab_53 rfl rfl tab_3 (by decide) rfl ⟨rfl, rfl, rfl⟩) ?_
  refine d_op ?_
  refine x_run [(15, PV.ptr 0 0)] [0] [(0, .obj [pI a.at_, pI a.count])] [] [(0, .obj [pI a.at_, pI a.count])] [] [(2, .obj [pI cc.at_, pI cc.count]), (1, .obj [pI b.at_, pI b.count]), (0, .obj [pI a.at_, pI a.count])] rfl rfl rfl rfl rfl rfl (s_load_ptr1 tab_3 rfl rfl rfl rfl rfl ⟨rfl, rfl, rfl⟩) rfl ⟨rfl, trivial⟩ rfl rfl ?_
  refine d_op ?_
  refine x_run0 [(16, pI a.at_)] [0, 1] rfl rfl rfl rfl (s_maskI 6 (by decide) rfl rfl (by decide) ⟨rfl, rfl, rfl⟩) ?_
  refine d_op ?_
  refine x_run0 [(3, PV.ptr 0 0)] [] rfl rfl rfl rfl (s_fa_ptr tab_53 rfl rfl tab_3 (by decide) rfl ⟨rfl, rfl, rfl⟩) ?_
  refine d_op ?_
  refine x_run [(18, PV.ptr 0 1)] [3] [(0, .obj [pI a.at_, pI a.count])] [] [(0, .obj [pI a.at_, pI a.count])] [] [(2, .obj [pI cc.at_, pI cc.count]), (1, .obj [pI b.at_, pI b.count]), (0, .obj [pI a.at_, pI a.count])] rfl rfl rfl rfl rfl rfl (s_load_ptr1 tab_3 rfl rfl rfl rfl rfl ⟨rfl, rfl, rfl⟩) rfl ⟨rfl, trivial⟩ rfl rfl ?_
  refine d_op ?_
  refine x_run0 [(19, pI a.count)] [3, 4] rfl rfl rfl rfl (s_maskI 4 (by decide) rfl rfl (by decide) ⟨rfl, rfl, rfl⟩) ?_
  refine d_op ?_
  refine x_run0 [(20, pN ((a.count % 2 ^ 4).toNat))] [3, 4, 5] rfl rfl rfl rfl (s_addN (a := 1) (b := (a.count % 2 ^ 4).toNat) rfl rfl (by omega) (by omega) (by omega) ⟨rfl, rfl, rfl⟩) ?_
  refine d_op ?_
  refine x_run0 [(17, pN ((a.at_ % 2 ^ 6).toNat)), (21, pN (1 + ((a.count % 2 ^ 4).toNat)))] [0, 1, 2, 3, 4, 5, 6] rfl rfl rfl rfl (s_build tab_53 rfl rfl (b_cons rfl tab_3 rfl rfl rfl (Nat.le_of_ble_eq_true rfl) (b_cons rfl tab_3 rfl rfl rfl (Nat.le_of_ble_eq_true rfl) (b_nil ⟨rfl, rfl, rfl⟩)))) ?_
  refine d_op ?_
  refine x_run0 [(4, PV.ptr 1 0)] [] rfl rfl rfl rfl (s_fa_ptr tab_53 rfl rfl tab_3 (by decide) rfl ⟨rfl, rfl, rfl⟩) ?_
  refine d_op ?_
  refine x_run [(23, PV.ptr 1 0)] [8] [(1, .obj [pI b.at_, pI b.count])] [] [(1, .obj [pI b.at_, pI b.count])] [] [(2, .obj [pI cc.at_, pI cc.count]), (1, .obj [pI b.at_, pI b.count]), (0, .obj [pI a.at_, pI a.count])] rfl rfl rfl rfl rfl rfl (s_load_ptr1 tab_3 rfl rfl rfl rfl rfl ⟨rfl, rfl, rfl⟩) rfl ⟨rfl, trivial⟩ rfl rfl ?_
  refine d_op ?_
  refine x_run0 [(24, pI b.at_)] [8, 9] rfl rfl rfl rfl (s_maskI 6 (by decide) rfl rfl (by decide) ⟨rfl, rfl, rfl⟩) ?_
  refine d_op ?_
  refine x_run0 [(4, PV.ptr 1 0)] [] rfl rfl rfl rfl (s_fa_ptr tab_53 rfl rfl tab_3 (by decide) rfl ⟨rfl, rfl, rfl⟩) ?_
  refine d_op ?_
  refine x_run [(26, PV.ptr 1 1)] [11] [(1, .obj [pI b.at_, pI b.count])] [] [(1, .obj [pI b.at_, pI b.count])] [] [(2, .obj [pI cc.at_, pI cc.count]), (1, .obj [pI b.at_, pI b.count]), (0, .obj [pI a.at_, pI a.count])] rfl rfl rfl rfl rfl rfl (s_load_ptr1 tab_3 rfl rfl rfl rfl rfl ⟨rfl, rfl, rfl⟩) rfl ⟨rfl, trivial⟩ rfl rfl ?_
  refine d_op ?_
  refine x_run0 [(27, pI b.count)] [11, 12] rfl rfl rfl rfl (s_maskI 4 (by decide) rfl rfl (by decide) ⟨rfl, rfl, rfl⟩) ?_
  refine d_op ?_
  refine x_run0 [(28, pN ((b.count % 2 ^ 4).toNat))] [11, 12, 13] rfl rfl rfl rfl (s_addN (a := 1) (b := (b.count % 2 ^ 4).toNat) rfl rfl (by omega) (by omega) (by omega) ⟨rfl, rfl, rfl⟩) ?_
  refine d_op ?_
  refine x_run0 [(25, pN ((b.at_ % 2 ^ 6).toNat)), (29, pN (1 + ((b.count % 2 ^ 4).toNat)))] [8, 9, 10, 11, 12, 13, 14] rfl rfl rfl rfl (s_build tab_53 rfl rfl (b_cons rfl tab_3 rfl rfl rfl (Nat.le_of_ble_eq_true rfl) (b_cons rfl tab_3 rfl rfl rfl (Nat.le_of_ble_eq_true rfl) (b_nil ⟨rfl, rfl, rfl⟩)))) ?_
  refine d_op ?_
  refine x_run0 [(5, PV.ptr 2 0)] [] rfl rfl rfl rfl (s_fa_ptr tab_53 rfl rfl tab_3 (by decide) rfl ⟨rfl, rfl, rfl⟩) ?_
  refine d_op ?_
  refine x_run [(31, PV.ptr 2 0)] [16] [(2, .obj [pI cc.at_, pI cc.count])] [] [(2, .obj [pI cc.at_, pI cc.count])] [] [(2, .obj [pI cc.at_, pI cc.count]), (1, .obj [pI b.at_, pI b.count]), (0, .obj [pI a.at_, pI a.count])] rfl rfl rfl rfl rfl rfl (s_load_ptr1 tab_3 rfl rfl rfl rfl rfl ⟨rfl, rfl, rfl⟩) rfl ⟨rfl, trivial⟩ rfl rfl ?_
  refine d_op ?_
  refine x_run0 [(32, pI cc.at_)] [16, 17] rfl rfl rfl rfl (s_maskI 6 (by decide) rfl rfl (by decide) ⟨rfl, rfl, rfl⟩) ?_
  refine d_op ?_
  refine x_run0 [(5, PV.ptr 2 0)] [] rfl rfl rfl rfl (s_fa_ptr tab_53 rfl rfl tab_3 (by decide) rfl ⟨rfl, rfl, rfl⟩) ?_
  refine d_op ?_
  refine x_run [(34, PV.ptr 2 1)] [19] [(2, .obj [pI cc.at_, pI cc.count])] [] [(2, .obj [pI cc.at_, pI cc.count])] [] [(2, .obj [pI cc.at_, pI cc.count]), (1, .obj [pI b.at_, pI b.count]), (0, .obj [pI a.at_, pI a.count])] rfl rfl rfl rfl rfl rfl (s_load_ptr1 tab_3 rfl rfl rfl rfl rfl ⟨rfl, rfl, rfl⟩) rfl ⟨rfl, trivial⟩ rfl rfl ?_
  refine d_op ?_
  refine x_run0 [(35, pI cc.count)] [19, 20] rfl rfl rfl rfl (s_maskI 2 (by decide) rfl rfl (by decide) ⟨rfl, rfl, rfl⟩) ?_
  refine d_op ?_
  refine x_run0 [(36, pN ((cc.count % 2 ^ 2).toNat))] [19, 20, 21] rfl rfl rfl rfl (s_addN (a := 1) (b := (cc.count % 2 ^ 2).toNat) rfl rfl (by omega) (by omega) (by omega) ⟨rfl, rfl, rfl⟩) ?_
  refine d_op ?_
  refine x_run0 [(33, pN ((cc.at_ % 2 ^ 6).toNat)), (37, pN (1 + ((cc.count % 2 ^ 2).toNat)))] [16, 17, 18, 19, 20, 21, 22] rfl rfl rfl rfl (s_build tab_53 rfl rfl (b_cons rfl tab_3 rfl rfl rfl (Nat.le_of_ble_eq_true rfl) (b_cons rfl tab_3 rfl rfl rfl (Nat.le_of_ble_eq_true rfl) (b_nil ⟨rfl, rfl, rfl⟩)))) ?_
  refine d_op ?_
  refine x_run [] [] [] [] [(3, .obj [pI 0, pI 0])] [(3, .obj [pI 0, pI 0])] [(3, .obj [pI 0, pI 0]), (2, .obj [pI cc.at_, pI cc.count]), (1, .obj [pI b.at_, pI b.count]), (0, .obj [pI a.at_, pI a.count])] rfl rfl rfl rfl rfl rfl (s_alloc tab_53 ⟨rfl, rfl, rfl⟩) rfl trivial rfl rfl ?_
  refine d_op ?_
  refine x_run [] [] [] [] [(4, .obj [pI 0, pI 0])] [(4, .obj [pI 0, pI 0])] [(4, .obj [pI 0, pI 0]), (3, .obj [pI 0, pI 0]), (2, .obj [pI cc.at_, pI cc.count]), (1, .obj [pI b.at_, pI b.count]), (0, .obj [pI a.at_, pI a.count])] rfl rfl rfl rfl rfl rfl (s_alloc tab_53 ⟨rfl, rfl, rfl⟩) rfl trivial rfl rfl ?_
  refine d_op ?_
  refine x_run [] [] [] [] [(5, .obj [pI 0, pI 0])] [(5, .obj [pI 0, pI 0])] [(5, .obj [pI 0, pI 0]), (4, .obj [pI 0, pI 0]), (3, .obj [pI 0, pI 0]), (2, .obj [pI cc.at_, pI cc.count]), (1, .obj [pI b.at_, pI b.count]), (0, .obj [pI a.at_, pI a.count])] rfl rfl rfl rfl rfl rfl (s_alloc tab_53 ⟨rfl, rfl, rfl⟩) rfl trivial rfl rfl ?_
  refine d_op ?_
  refine x_run [(7, PV.ptr 3 0), (22, PV.f (.agg [encI (((a.at_ % 2 ^ 6).toNat : Nat) : Int), encI ((1 + ((a.count % 2 ^ 4).toNat) : Nat) : Int)]))] [0, 1, 2, 3, 4, 5, 6, 7, 24, 25, 26] [] [(3, .obj [pI 0, pI 0])] [(3, .obj [pN ((a.at_ % 2 ^ 6).toNat), pN (1 + ((a.count % 2 ^ 4).toNat))])] [(3, .obj [pN ((a.at_ % 2 ^ 6).toNat), pN (1 + ((a.count % 2 ^ 4).toNat))])] [(3, .obj [pN ((a.at_ % 2 ^ 6).toNat), pN (1 + ((a.count % 2 ^ 4).toNat))]), (5, .obj [pI 0, pI 0]), (4, .obj [pI 0, pI 0]), (2, .obj [pI cc.at_, pI cc.count]), (1, .obj [pI b.at_, pI b.count]), (0, .obj [pI a.at_, pI a.count])] rfl rfl rfl rfl rfl rfl (s_store_ptr tab_53 rfl rfl rfl rfl rfl (Nat.le_of_ble_eq_true rfl) ⟨rfl, rfl, rfl⟩) rfl trivial rfl rfl ?_
  refine d_op ?_
  refine x_run [(8, PV.ptr 4 0), (30, PV.f (.agg [encI (((b.at_ % 2 ^ 6).toNat : Nat) : Int), encI ((1 + ((b.count % 2 ^ 4).toNat) : Nat) : Int)]))] [0, 1, 2, 3, 4, 5, 6, 7, 8, 9, 10, 11, 12, 13, 14, 15, 24, 25, 26, 27] [] [(4, .obj [pI 0, pI 0])] [(4, .obj [pN ((b.at_ % 2 ^ 6).toNat), pN (1 + ((b.count % 2 ^ 4).toNat))])] [(4, .obj [pN ((b.at_ % 2 ^ 6).toNat), pN (1 + ((b.count % 2 ^ 4).toNat))])] [(4, .obj [pN ((b.at_ % 2 ^ 6).toNat), pN (1 + ((b.count % 2 ^ 4).toNat))]), (3, .obj [pN ((a.at_ % 2 ^ 6).toNat), pN (1 + ((a.count % 2 ^ 4).toNat))]), (5, .obj [pI 0, pI 0]), (2, .obj [pI cc.at_, pI cc.count]), (1, .obj [pI b.at_, pI b.count]), (0, .obj [pI a.at_, pI a.count])] rfl rfl rfl rfl rfl rfl (s_store_ptr tab_53 rfl rfl rfl rfl rfl (Nat.le_of_ble_eq_true rfl) ⟨rfl, rfl, rfl⟩) rfl trivial rfl rfl ?_
  refine d_op ?_
  refine x_run [(9, PV.ptr 5 0), (38, PV.f (.agg [encI (((cc.at_ % 2 ^ 6).toNat : Nat) : Int), encI ((1 + ((cc.count % 2 ^ 2).toNat) : Nat) : Int)]))] [0, 1, 2, 3, 4, 5, 6, 7, 8, 9, 10, 11, 12, 13, 14, 15, 16, 17, 18, 19, 20, 21, 22, 23, 24, 25, 26, 27, 28] [] [(5, .obj [pI 0, pI 0])] [(5, .obj [pN ((cc.at_ % 2 ^ 6).toNat), pN (1 + ((cc.count % 2 ^ 2).toNat))])] [(5, .obj [pN ((cc.at_ % 2 ^ 6).toNat), pN (1 + ((cc.count % 2 ^ 2).toNat))])] [(5, .obj [pN ((cc.at_ % 2 ^ 6).toNat), pN (1 + ((cc.count % 2 ^ 2).toNat))]), (4, .obj [pN ((b.at_ % 2 ^ 6).toNat), pN (1 + ((b.count % 2 ^ 4).toNat))]), (3, .obj [pN ((a.at_ % 2 ^ 6).toNat), pN (1 + ((a.count % 2 ^ 4).toNat))]), (2, .obj [pI cc.at_, pI cc.count]), (1, .obj [pI b.at_, pI b.count]), (0, .obj [pI a.at_, pI a.count])] rfl rfl rfl rfl rfl rfl (s_store_ptr tab_53 rfl rfl rfl rfl rfl (Nat.le_of_ble_eq_true rfl) ⟨rfl, rfl, rfl⟩) rfl trivial rfl rfl ?_
  refine d_end ⟨by kernel_rfl, ?_⟩
  refine q_then ?_
  refine w_seq ?_
  obtain ⟨x, hx⟩ : ∃ z : TSpan, z = (⟨(((a.at_ % 2 ^ 6).toNat : Nat) : Int), ((1 + ((a.count % 2 ^ 4).toNat) : Nat) : Int)⟩ : TSpan) := ⟨_, rfl⟩
  refine w_leC (n := 3) (j := 0) (y := pI x.at_) rfl rfl (le_of_eq (congrArg (fun z : Int => pI z) (show (((a.at_ % 2 ^ 6).toNat : Nat) : Int) = x.at_ by rw [hx]))) ?_
  refine w_leC (n := 3) (j := 1) (y := pI x.count) rfl rfl (le_of_eq (congrArg (fun z : Int => pI z) (show ((1 + ((a.count % 2 ^ 4).toNat) : Nat) : Int) = x.count by rw [hx]))) ?_
  obtain ⟨y, hy⟩ : ∃ z : TSpan, z = (⟨(((b.at_ % 2 ^ 6).toNat : Nat) : Int), ((1 + ((b.count % 2 ^ 4).toNat) : Nat) : Int)⟩ : TSpan) := ⟨_, rfl⟩
  refine w_leC (n := 4) (j := 0) (y := pI y.at_) rfl rfl (le_of_eq (congrArg (fun z : Int => pI z) (show (((b.at_ % 2 ^ 6).toNat : Nat) : Int) = y.at_ by rw [hy]))) ?_
  refine w_leC (n := 4) (j := 1) (y := pI y.count) rfl rfl (le_of_eq (congrArg (fun z : Int => pI z) (show ((1 + ((b.count % 2 ^ 4).toNat) : Nat) : Int) = y.count by rw [hy]))) ?_
  obtain ⟨z, hz⟩ : ∃ z : TSpan, z = (⟨(((cc.at_ % 2 ^ 6).toNat : Nat) : Int), ((1 + ((cc.count % 2 ^ 2).toNat) : Nat) : Int)⟩ : TSpan) := ⟨_, rfl⟩
  refine w_leC (n := 5) (j := 0) (y := pI z.at_) rfl rfl (le_of_eq (congrArg (fun z : Int => pI z) (show (((cc.at_ % 2 ^ 6).toNat : Nat) : Int) = z.at_ by rw [hz]))) ?_
  refine w_leC (n := 5) (j := 1) (y := pI z.count) rfl rfl (le_of_eq (congrArg (fun z : Int => pI z) (show ((1 + ((cc.count % 2 ^ 2).toNat) : Nat) : Int) = z.count by rw [hz]))) ?_
  have xok : spOk x = true := (spOk_iff _).2 (by rw [hx]; simp only; omega)
  have yok : spOk y = true := (spOk_iff _).2 (by rw [hy]; simp only; omega)
  have hco := meet_comm x y
  have hbo := in_both x y z
  refine w_R ?_
  refine r_op tabOk hnt rfl (s_load_ptr tab_53 rfl rfl rfl (Nat.le_of_ble_eq_true rfl) ?_) 
  refine r_op tabOk hnt rfl (s_load_ptr tab_53 rfl rfl rfl (Nat.le_of_ble_eq_true rfl) ?_) 
  refine r_op tabOk hnt rfl (s_callF rfl rfl rfl (w_span_Meet x y) rfl ?_) 
  refine r_op tabOk hnt rfl (s_move rfl ?_) 
  refine r_op tabOk hnt rfl (s_extract rfl rfl ?_) 
  refine r_op tabOk hnt rfl (s_extract rfl rfl ?_) 
  refine r_op tabOk hnt rfl (s_alloc tab_53 ?_) 
  refine r_op tabOk hnt rfl (s_store_ptr tab_53 rfl rfl rfl rfl rfl (Nat.le_of_ble_eq_true rfl) ?_) 
  refine r_op tabOk hnt rfl (s_assign rfl ?_) 
  refine r_set [(7, PV.ptr 3 0), (8, PV.ptr 4 0), (9, PV.ptr 5 0), (10, PV.ptr 6 0), (11, pB (meetOk x y))] [(6, .obj [pI ((meetV x y).at_), pI ((meetV x y).count)]), (5, .obj [pI z.at_, pI z.count]), (4, .obj [pI y.at_, pI y.count]), (3, .obj [pI x.at_, pI x.count]), (2, .obj [pI cc.at_, pI cc.count]), (1, .obj [pI b.at_, pI b.count]), (0, .obj [pI a.at_, pI a.count])] 7 ⟨rfl, rfl, rfl, rfl, rfl, trivial⟩ rfl rfl ?_
  refine r_end ?_
  refine q_then ?_
  refine w_seq ?_
  refine w_R ?_
  refine r_op tabOk hnt rfl (s_load_ptr tab_53 rfl rfl rfl (Nat.le_of_ble_eq_true rfl) ?_) 
  refine r_op tabOk hnt rfl (s_load_ptr tab_53 rfl rfl rfl (Nat.le_of_ble_eq_true rfl) ?_) 
  refine r_op tabOk hnt rfl (s_callF rfl rfl rfl (w_span_Meet y x) rfl ?_) 
  refine r_op tabOk hnt rfl (s_move rfl ?_) 
  refine r_op tabOk hnt rfl (s_extract rfl rfl ?_) 
  refine r_op tabOk hnt rfl (s_extract rfl rfl ?_) 
  refine r_op tabOk hnt rfl (s_alloc tab_53 ?_) 
  refine r_op tabOk hnt rfl (s_store_ptr tab_53 rfl rfl rfl rfl rfl (Nat.le_of_ble_eq_true rfl) ?_) 
  refine r_op tabOk hnt rfl (s_assign rfl ?_) 
  refine r_set [(7, PV.ptr 3 0), (8, PV.ptr 4 0), (9, PV.ptr 5 0), (10, PV.ptr 6 0), (11, pB (meetOk x y)), (12, PV.ptr 7 0), (13, pB (meetOk y x))] [(7, .obj [pI ((meetV y x).at_), pI ((meetV y x).count)]), (6, .obj [pI ((meetV x y).at_), pI ((meetV x y).count)]), (5, .obj [pI z.at_, pI z.count]), (4, .obj [pI y.at_, pI y.count]), (3, .obj [pI x.at_, pI x.count]), (2, .obj [pI cc.at_, pI cc.count]), (1, .obj [pI b.at_, pI b.count]), (0, .obj [pI a.at_, pI a.count])] 8 ⟨rfl, rfl, rfl, rfl, rfl, rfl, rfl, trivial⟩ rfl rfl ?_
  refine r_end ?_
  refine q_then ?_
  refine w_seq ?_
  refine w_R ?_
  refine r_op tabOk hnt rfl (s_load_ptr tab_53 rfl rfl rfl (Nat.le_of_ble_eq_true rfl) ?_) 
  refine r_op tabOk hnt rfl (s_load_ptr tab_53 rfl rfl rfl (Nat.le_of_ble_eq_true rfl) ?_) 
  refine r_op tabOk hnt rfl (s_callF rfl rfl rfl (w_span_In z x) rfl ?_) 
  refine r_op tabOk hnt rfl (s_move rfl ?_) 
  refine r_if tabOk hnt rfl rfl rfl (fun g1 => ?_) (fun g1 => ?_)
  ·
    have g1' := g1
    try simp only [decide_eq_true_eq, decide_eq_false_iff_not, Bool.not_eq_true', Bool.not_eq_false', Bool.not_true, Bool.not_false, Bool.not_eq_eq_eq_not, Int.not_lt, Int.not_le] at g1'
    refine r_op tabOk hnt rfl (s_load_ptr tab_53 rfl rfl rfl (Nat.le_of_ble_eq_true rfl) ?_) 
    refine r_if tabOk hnt rfl rfl rfl (fun _ => ?_) (fun e => absurd (e.symm.trans g1) (by decide))
    refine r_op tabOk hnt rfl (s_load_ptr tab_53 rfl rfl rfl (Nat.le_of_ble_eq_true rfl) ?_) 
    refine r_if tabOk hnt rfl rfl rfl (fun _ => ?_) (fun e => absurd (e.symm.trans g1) (by decide))
    refine r_op tabOk hnt rfl (s_callF rfl rfl rfl (w_span_In z y) rfl ?_) 
    refine r_op tabOk hnt rfl (s_pick_t rfl g1 rfl ?_) 
    refine r_op tabOk hnt rfl (s_assign rfl ?_) 
    refine r_end ?_
    refine q_then ?_
    refine w_seq ?_
    refine w_R ?_
    refine r_op tabOk hnt rfl (s_load_ptr tab_53 rfl rfl rfl (Nat.le_of_ble_eq_true rfl) ?_) 
    refine r_op tabOk hnt rfl (s_load_ptr tab_53 rfl rfl rfl (Nat.le_of_ble_eq_true rfl) ?_) 
    refine r_op tabOk hnt rfl (s_eqstruct (r := decide ((meetV x y).at_ = (meetV y x).at_) && (decide ((meetV x y).count = (meetV y x).count) && true)) seq_53 rfl rfl rfl rfl (by rfl) ?_) 
    refine r_op tabOk hnt rfl (s_move rfl ?_) 
    refine r_if tabOk hnt rfl rfl rfl (fun g2 => ?_) (fun g2 => ?_)
    ·
      have g2' := g2
      try simp only [decide_eq_true_eq, decide_eq_false_iff_not, Bool.not_eq_true', Bool.not_eq_false', Bool.not_true, Bool.not_false, Bool.not_eq_eq_eq_not, Int.not_lt, Int.not_le] at g2'
      refine r_op tabOk hnt rfl (s_move rfl ?_) 
      refine r_if tabOk hnt rfl rfl rfl (fun _ => ?_) (fun e => absurd (e.symm.trans g2) (by decide))
      refine r_op tabOk hnt rfl (s_move rfl ?_) 
      refine r_if tabOk hnt rfl rfl rfl (fun _ => ?_) (fun e => absurd (e.symm.trans g2) (by decide))
      refine r_op tabOk hnt rfl (s_eqbool tab_4 rfl rfl rfl ?_) 
      refine r_op tabOk hnt rfl (s_pick_t rfl g2 rfl ?_) 
      refine r_op tabOk hnt rfl (s_move rfl ?_) 
      refine r_if tabOk hnt rfl rfl rfl (fun g3 => ?_) (fun g3 => ?_)
      ·
        have g3' := g3
        try simp only [decide_eq_true_eq, decide_eq_false_iff_not, Bool.not_eq_true', Bool.not_eq_false', Bool.not_true, Bool.not_false, Bool.not_eq_eq_eq_not, Int.not_lt, Int.not_le] at g3'
        refine r_op tabOk hnt rfl (s_load_ptr tab_53 rfl rfl rfl (Nat.le_of_ble_eq_true rfl) ?_) 
        refine r_if tabOk hnt rfl rfl rfl (fun _ => ?_) (fun e => absurd (e.symm.trans g3) (by decide))
        refine r_op tabOk hnt rfl (s_load_ptr tab_53 rfl rfl rfl (Nat.le_of_ble_eq_true rfl) ?_) 
        refine r_if tabOk hnt rfl rfl rfl (fun _ => ?_) (fun e => absurd (e.symm.trans g3) (by decide))
        refine r_op tabOk hnt rfl (s_callF rfl rfl rfl (w_span_In x x) rfl ?_) 
        refine r_op tabOk hnt rfl (s_pick_t rfl g3 rfl ?_) 
        refine r_op tabOk hnt rfl (s_move rfl ?_) 
        refine r_if tabOk hnt rfl rfl rfl (fun g4 => ?_) (fun g4 => ?_)
        ·
          have g4' := g4
          try simp only [decide_eq_true_eq, decide_eq_false_iff_not, Bool.not_eq_true', Bool.not_eq_false', Bool.not_true, Bool.not_false, Bool.not_eq_eq_eq_not, Int.not_lt, Int.not_le] at g4'
          refine r_op tabOk hnt rfl (s_move rfl ?_) 
          refine r_if tabOk hnt rfl rfl rfl (fun _ => ?_) (fun e => absurd (e.symm.trans g4) (by decide))
          refine r_op tabOk hnt rfl (s_not rfl ?_) 
          refine r_if tabOk hnt rfl rfl rfl (fun _ => ?_) (fun e => absurd (e.symm.trans g4) (by decide))
          refine r_op tabOk hnt rfl (s_move rfl ?_) 
          refine r_if tabOk hnt rfl rfl rfl (fun g5 => ?_) (fun g5 => ?_)
          ·
            have g5' := g5
            try simp only [decide_eq_true_eq, decide_eq_false_iff_not, Bool.not_eq_true', Bool.not_eq_false', Bool.not_true, Bool.not_false, Bool.not_eq_eq_eq_not, Int.not_lt, Int.not_le] at g5'
            refine r_op tabOk hnt rfl (s_load_ptr tab_53 rfl rfl rfl (Nat.le_of_ble_eq_true rfl) ?_) 
            refine r_if tabOk hnt rfl rfl rfl (fun _ => ?_) (fun e => absurd (e.symm.trans g5) (by decide))
            refine r_op tabOk hnt rfl (s_load_ptr tab_53 rfl rfl rfl (Nat.le_of_ble_eq_true rfl) ?_) 
            refine r_if tabOk hnt rfl rfl rfl (fun _ => ?_) (fun e => absurd (e.symm.trans g5) (by decide))
            refine r_op tabOk hnt rfl (s_callF rfl rfl rfl (w_span_In (meetV x y) x) rfl ?_) 
            refine r_if tabOk hnt rfl rfl rfl (fun _ => ?_) (fun e => absurd (e.symm.trans g5) (by decide))
            refine r_op tabOk hnt rfl (s_move rfl ?_) 
            refine r_if tabOk hnt rfl rfl rfl (fun g6 => ?_) (fun g6 => ?_)
            ·
              have g6' := g6
              try simp only [decide_eq_true_eq, decide_eq_false_iff_not, Bool.not_eq_true', Bool.not_eq_false', Bool.not_true, Bool.not_false, Bool.not_eq_eq_eq_not, Int.not_lt, Int.not_le] at g6'
              refine r_op tabOk hnt rfl (s_load_ptr tab_53 rfl rfl rfl (Nat.le_of_ble_eq_true rfl) ?_) 
              refine r_if tabOk hnt rfl rfl rfl (fun _ => ?_) (fun e => absurd (e.symm.trans g6) (by decide))
              refine r_op tabOk hnt rfl (s_load_ptr tab_53 rfl rfl rfl (Nat.le_of_ble_eq_true rfl) ?_) 
              refine r_if tabOk hnt rfl rfl rfl (fun _ => ?_) (fun e => absurd (e.symm.trans g6) (by decide))
              refine r_op tabOk hnt rfl (s_callF rfl rfl rfl (w_span_In (meetV x y) y) rfl ?_) 
              refine r_if tabOk hnt rfl rfl rfl (fun _ => ?_) (fun e => absurd (e.symm.trans g5) (by decide))
              refine r_op tabOk hnt rfl (s_pick_t rfl g6 rfl ?_) 
              refine r_if tabOk hnt rfl rfl rfl (fun _ => ?_) (fun e => absurd (e.symm.trans g4) (by decide))
              refine r_op tabOk hnt rfl (s_pick_f rfl g5 rfl ?_) 
              refine r_op tabOk hnt rfl (s_pick_t rfl g4 rfl ?_) 
              refine r_op tabOk hnt rfl (s_move rfl ?_) 
              refine r_if tabOk hnt rfl rfl rfl (fun g7 => ?_) (fun g7 => ?_)
              ·
                have g7' := g7
                try simp only [decide_eq_true_eq, decide_eq_false_iff_not, Bool.not_eq_true', Bool.not_eq_false', Bool.not_true, Bool.not_false, Bool.not_eq_eq_eq_not, Int.not_lt, Int.not_le] at g7'
                refine r_op tabOk hnt rfl (s_move rfl ?_) 
                refine r_if tabOk hnt rfl rfl rfl (fun _ => ?_) (fun e => absurd (e.symm.trans g7) (by decide))
                refine r_op tabOk hnt rfl (s_move rfl ?_) 
                refine r_if tabOk hnt rfl rfl rfl (fun _ => ?_) (fun e => absurd (e.symm.trans g7) (by decide))
                refine r_op tabOk hnt rfl (s_move rfl ?_) 
                refine r_if tabOk hnt rfl rfl rfl (fun g8 => ?_) (fun g8 => ?_)
                ·
                  have g8' := g8
                  try simp only [decide_eq_true_eq, decide_eq_false_iff_not, Bool.not_eq_true', Bool.not_eq_false', Bool.not_true, Bool.not_false, Bool.not_eq_eq_eq_not, Int.not_lt, Int.not_le] at g8'
                  refine r_op tabOk hnt rfl (s_load_ptr tab_53 rfl rfl rfl (Nat.le_of_ble_eq_true rfl) ?_) 
                  refine r_if tabOk hnt rfl rfl rfl (fun _ => ?_) (fun e => absurd (e.symm.trans g8) (by decide))
                  refine r_op tabOk hnt rfl (s_load_ptr tab_53 rfl rfl rfl (Nat.le_of_ble_eq_true rfl) ?_) 
                  refine r_if tabOk hnt rfl rfl rfl (fun _ => ?_) (fun e => absurd (e.symm.trans g8) (by decide))
                  refine r_op tabOk hnt rfl (s_callF rfl rfl rfl (w_span_In z (meetV x y)) rfl ?_) 
                  refine r_if tabOk hnt rfl rfl rfl (fun _ => ?_) (fun e => absurd (e.symm.trans g7) (by decide))
                  refine r_op tabOk hnt rfl (s_pick_t rfl g8 rfl ?_) 
                  refine r_if tabOk hnt rfl rfl rfl (fun _ => ?_) (fun e => absurd (e.symm.trans g7) (by decide))
                  refine r_op tabOk hnt rfl (s_eqbool tab_4 rfl rfl rfl ?_) 
                  refine r_op tabOk hnt rfl (s_pick_t rfl g7 rfl ?_) 
                  refine r_op tabOk hnt rfl (s_move rfl ?_) 
                  refine r_if tabOk hnt rfl rfl rfl (fun g9 => ?_) (fun g9 => ?_)
                  ·
                    have g9' := g9
                    try simp only [decide_eq_true_eq, decide_eq_false_iff_not, Bool.not_eq_true', Bool.not_eq_false', Bool.not_true, Bool.not_false, Bool.not_eq_eq_eq_not, Int.not_lt, Int.not_le] at g9'
                    refine r_op tabOk hnt rfl (s_callF rfl rfl rfl (w_burgagelaw7_known) rfl ?_) 
                    refine r_op tabOk hnt rfl (s_pick_t rfl g9 rfl ?_) 
                    refine r_op tabOk hnt rfl (s_assign rfl ?_) 
                    refine r_set [(6, pB true)] [(7, .obj [pI ((meetV y x).at_), pI ((meetV y x).count)]), (6, .obj [pI ((meetV x y).at_), pI ((meetV x y).count)]), (5, .obj [pI z.at_, pI z.count]), (4, .obj [pI y.at_, pI y.count]), (3, .obj [pI x.at_, pI x.count]), (2, .obj [pI cc.at_, pI cc.count]), (1, .obj [pI b.at_, pI b.count]), (0, .obj [pI a.at_, pI a.count])] 8 ⟨rfl, trivial⟩ rfl rfl ?_
                    refine r_end ?_
                    refine q_then ?_
                    refine w_ret ?_
                    exact fin_plain (ret_tmp rfl ret_nil) rfl rfl ⟨rfl, rfl, rfl⟩
                  ·
                    exact absurd g9 (by simp_all)
                ·
                  have g8' := g8
                  try simp only [decide_eq_true_eq, decide_eq_false_iff_not, Bool.not_eq_true', Bool.not_eq_false', Bool.not_true, Bool.not_false, Bool.not_eq_eq_eq_not, Int.not_lt, Int.not_le] at g8'
                  refine r_if tabOk hnt rfl rfl rfl (fun e => absurd (e.symm.trans g8) (by decide)) (fun _ => ?_)
                  refine r_if tabOk hnt rfl rfl rfl (fun e => absurd (e.symm.trans g8) (by decide)) (fun _ => ?_)
                  refine r_if tabOk hnt rfl rfl rfl (fun _ => ?_) (fun e => absurd (e.symm.trans g7) (by decide))
                  refine r_op tabOk hnt rfl (s_pick_f rfl g8 rfl ?_) 
                  refine r_if tabOk hnt rfl rfl rfl (fun _ => ?_) (fun e => absurd (e.symm.trans g7) (by decide))
                  refine r_op tabOk hnt rfl (s_eqbool tab_4 rfl rfl rfl ?_) 
                  refine r_op tabOk hnt rfl (s_pick_t rfl g7 rfl ?_) 
                  refine r_op tabOk hnt rfl (s_move rfl ?_) 
                  refine r_if tabOk hnt rfl rfl rfl (fun g10 => ?_) (fun g10 => ?_)
                  ·
                    have g10' := g10
                    try simp only [decide_eq_true_eq, decide_eq_false_iff_not, Bool.not_eq_true', Bool.not_eq_false', Bool.not_true, Bool.not_false, Bool.not_eq_eq_eq_not, Int.not_lt, Int.not_le] at g10'
                    refine r_op tabOk hnt rfl (s_callF rfl rfl rfl (w_burgagelaw7_known) rfl ?_) 
                    refine r_op tabOk hnt rfl (s_pick_t rfl g10 rfl ?_) 
                    refine r_op tabOk hnt rfl (s_assign rfl ?_) 
                    refine r_set [(6, pB true)] [(7, .obj [pI ((meetV y x).at_), pI ((meetV y x).count)]), (6, .obj [pI ((meetV x y).at_), pI ((meetV x y).count)]), (5, .obj [pI z.at_, pI z.count]), (4, .obj [pI y.at_, pI y.count]), (3, .obj [pI x.at_, pI x.count]), (2, .obj [pI cc.at_, pI cc.count]), (1, .obj [pI b.at_, pI b.count]), (0, .obj [pI a.at_, pI a.count])] 8 ⟨rfl, trivial⟩ rfl rfl ?_
                    refine r_end ?_
                    refine q_then ?_
                    refine w_ret ?_
                    exact fin_plain (ret_tmp rfl ret_nil) rfl rfl ⟨rfl, rfl, rfl⟩
                  ·
                    exact absurd g10 (by simp_all)
              ·
                exact absurd g7 (by simp_all [in_meet])
            ·
              exact absurd g6 (by simp_all [in_meet])
          ·
            have g5' := g5
            try simp only [decide_eq_true_eq, decide_eq_false_iff_not, Bool.not_eq_true', Bool.not_eq_false', Bool.not_true, Bool.not_false, Bool.not_eq_eq_eq_not, Int.not_lt, Int.not_le] at g5'
            refine r_if tabOk hnt rfl rfl rfl (fun e => absurd (e.symm.trans g5) (by decide)) (fun _ => ?_)
            refine r_if tabOk hnt rfl rfl rfl (fun e => absurd (e.symm.trans g5) (by decide)) (fun _ => ?_)
            refine r_if tabOk hnt rfl rfl rfl (fun e => absurd (e.symm.trans g5) (by decide)) (fun _ => ?_)
            refine r_undef tabOk hnt rfl rfl rfl ?_
            refine r_undef tabOk hnt rfl rfl rfl ?_
            refine r_undef tabOk hnt rfl rfl rfl ?_
            refine r_if tabOk hnt rfl rfl rfl (fun e => absurd (e.symm.trans g5) (by decide)) (fun _ => ?_)
            refine r_if tabOk hnt rfl rfl rfl (fun _ => ?_) (fun e => absurd (e.symm.trans g4) (by decide))
            refine r_op tabOk hnt rfl (s_pick_t rfl g5 rfl ?_) 
            refine r_op tabOk hnt rfl (s_pick_t rfl g4 rfl ?_) 
            refine r_op tabOk hnt rfl (s_move rfl ?_) 
            refine r_if tabOk hnt rfl rfl rfl (fun _ => ?_) (fun e => absurd e (by decide))
            refine r_op tabOk hnt rfl (s_move rfl ?_) 
            refine r_if tabOk hnt rfl rfl rfl (fun _ => ?_) (fun e => absurd e (by decide))
            refine r_op tabOk hnt rfl (s_move rfl ?_) 
            refine r_if tabOk hnt rfl rfl rfl (fun _ => ?_) (fun e => absurd e (by decide))
            refine r_op tabOk hnt rfl (s_move rfl ?_) 
            refine r_if tabOk hnt rfl rfl rfl (fun g11 => ?_) (fun g11 => ?_)
            ·
              have g11' := g11
              try simp only [decide_eq_true_eq, decide_eq_false_iff_not, Bool.not_eq_true', Bool.not_eq_false', Bool.not_true, Bool.not_false, Bool.not_eq_eq_eq_not, Int.not_lt, Int.not_le] at g11'
              refine r_op tabOk hnt rfl (s_load_ptr tab_53 rfl rfl rfl (Nat.le_of_ble_eq_true rfl) ?_) 
              refine r_if tabOk hnt rfl rfl rfl (fun _ => ?_) (fun e => absurd (e.symm.trans g11) (by decide))
              refine r_op tabOk hnt rfl (s_load_ptr tab_53 rfl rfl rfl (Nat.le_of_ble_eq_true rfl) ?_) 
              refine r_if tabOk hnt rfl rfl rfl (fun _ => ?_) (fun e => absurd (e.symm.trans g11) (by decide))
              refine r_op tabOk hnt rfl (s_callF rfl rfl rfl (w_span_In z (meetV x y)) rfl ?_) 
              refine r_if tabOk hnt rfl rfl rfl (fun _ => ?_) (fun e => absurd e (by decide))
              refine r_op tabOk hnt rfl (s_pick_t rfl g11 rfl ?_) 
              refine r_if tabOk hnt rfl rfl rfl (fun _ => ?_) (fun e => absurd e (by decide))
              refine r_op tabOk hnt rfl (s_eqbool tab_4 rfl rfl rfl ?_) 
              refine r_op tabOk hnt rfl (s_pick_t rfl rfl rfl ?_) 
              refine r_op tabOk hnt rfl (s_move rfl ?_) 
              refine r_if tabOk hnt rfl rfl rfl (fun g12 => ?_) (fun g12 => ?_)
              ·
                have g12' := g12
                try simp only [decide_eq_true_eq, decide_eq_false_iff_not, Bool.not_eq_true', Bool.not_eq_false', Bool.not_true, Bool.not_false, Bool.not_eq_eq_eq_not, Int.not_lt, Int.not_le] at g12'
                refine r_op tabOk hnt rfl (s_callF rfl rfl rfl (w_burgagelaw7_known) rfl ?_) 
                refine r_op tabOk hnt rfl (s_pick_t rfl g12 rfl ?_) 
                refine r_op tabOk hnt rfl (s_assign rfl ?_) 
                refine r_set [(6, pB true)] [(7, .obj [pI ((meetV y x).at_), pI ((meetV y x).count)]), (6, .obj [pI ((meetV x y).at_), pI ((meetV x y).count)]), (5, .obj [pI z.at_, pI z.count]), (4, .obj [pI y.at_, pI y.count]), (3, .obj [pI x.at_, pI x.count]), (2, .obj [pI cc.at_, pI cc.count]), (1, .obj [pI b.at_, pI b.count]), (0, .obj [pI a.at_, pI a.count])] 8 ⟨rfl, trivial⟩ rfl rfl ?_
                refine r_end ?_
                refine q_then ?_
                refine w_ret ?_
                exact fin_plain (ret_tmp rfl ret_nil) rfl rfl ⟨rfl, rfl, rfl⟩
              ·
                exact absurd g12 (by simp_all)
            ·
              have g11' := g11
              try simp only [decide_eq_true_eq, decide_eq_false_iff_not, Bool.not_eq_true', Bool.not_eq_false', Bool.not_true, Bool.not_false, Bool.not_eq_eq_eq_not, Int.not_lt, Int.not_le] at g11'
              refine r_if tabOk hnt rfl rfl rfl (fun e => absurd (e.symm.trans g11) (by decide)) (fun _ => ?_)
              refine r_if tabOk hnt rfl rfl rfl (fun e => absurd (e.symm.trans g11) (by decide)) (fun _ => ?_)
              refine r_if tabOk hnt rfl rfl rfl (fun _ => ?_) (fun e => absurd e (by decide))
              refine r_op tabOk hnt rfl (s_pick_f rfl g11 rfl ?_) 
              refine r_if tabOk hnt rfl rfl rfl (fun _ => ?_) (fun e => absurd e (by decide))
              refine r_op tabOk hnt rfl (s_eqbool tab_4 rfl rfl rfl ?_) 
              refine r_op tabOk hnt rfl (s_pick_t rfl rfl rfl ?_) 
              refine r_op tabOk hnt rfl (s_move rfl ?_) 
              refine r_if tabOk hnt rfl rfl rfl (fun g13 => ?_) (fun g13 => ?_)
              ·
                have g13' := g13
                try simp only [decide_eq_true_eq, decide_eq_false_iff_not, Bool.not_eq_true', Bool.not_eq_false', Bool.not_true, Bool.not_false, Bool.not_eq_eq_eq_not, Int.not_lt, Int.not_le] at g13'
                refine r_op tabOk hnt rfl (s_callF rfl rfl rfl (w_burgagelaw7_known) rfl ?_) 
                refine r_op tabOk hnt rfl (s_pick_t rfl g13 rfl ?_) 
                refine r_op tabOk hnt rfl (s_assign rfl ?_) 
                refine r_set [(6, pB true)] [(7, .obj [pI ((meetV y x).at_), pI ((meetV y x).count)]), (6, .obj [pI ((meetV x y).at_), pI ((meetV x y).count)]), (5, .obj [pI z.at_, pI z.count]), (4, .obj [pI y.at_, pI y.count]), (3, .obj [pI x.at_, pI x.count]), (2, .obj [pI cc.at_, pI cc.count]), (1, .obj [pI b.at_, pI b.count]), (0, .obj [pI a.at_, pI a.count])] 8 ⟨rfl, trivial⟩ rfl rfl ?_
                refine r_end ?_
                refine q_then ?_
                refine w_ret ?_
                exact fin_plain (ret_tmp rfl ret_nil) rfl rfl ⟨rfl, rfl, rfl⟩
              ·
                exact absurd g13 (by simp_all)
        ·
          exact absurd g4 (by simp [in_self xok])
      ·
        exact absurd g3 (by simp [hco.1])
    ·
      exact absurd g2 (by simp [hco.2])
  ·
    have g1' := g1
    try simp only [decide_eq_true_eq, decide_eq_false_iff_not, Bool.not_eq_true', Bool.not_eq_false', Bool.not_true, Bool.not_false, Bool.not_eq_eq_eq_not, Int.not_lt, Int.not_le] at g1'
    refine r_if tabOk hnt rfl rfl rfl (fun e => absurd (e.symm.trans g1) (by decide)) (fun _ => ?_)
    refine r_if tabOk hnt rfl rfl rfl (fun e => absurd (e.symm.trans g1) (by decide)) (fun _ => ?_)
    refine r_op tabOk hnt rfl (s_pick_f rfl g1 rfl ?_) 
    refine r_op tabOk hnt rfl (s_assign rfl ?_) 
    refine r_end ?_
    refine q_then ?_
    refine w_seq ?_
    refine w_R ?_
    refine r_op tabOk hnt rfl (s_load_ptr tab_53 rfl rfl rfl (Nat.le_of_ble_eq_true rfl) ?_) 
    refine r_op tabOk hnt rfl (s_load_ptr tab_53 rfl rfl rfl (Nat.le_of_ble_eq_true rfl) ?_) 
    refine r_op tabOk hnt rfl (s_eqstruct (r := decide ((meetV x y).at_ = (meetV y x).at_) && (decide ((meetV x y).count = (meetV y x).count) && true)) seq_53 rfl rfl rfl rfl (by rfl) ?_) 
    refine r_op tabOk hnt rfl (s_move rfl ?_) 
    refine r_if tabOk hnt rfl rfl rfl (fun g14 => ?_) (fun g14 => ?_)
    ·
      have g14' := g14
      try simp only [decide_eq_true_eq, decide_eq_false_iff_not, Bool.not_eq_true', Bool.not_eq_false', Bool.not_true, Bool.not_false, Bool.not_eq_eq_eq_not, Int.not_lt, Int.not_le] at g14'
      refine r_op tabOk hnt rfl (s_move rfl ?_) 
      refine r_if tabOk hnt rfl rfl rfl (fun _ => ?_) (fun e => absurd (e.symm.trans g14) (by decide))
      refine r_op tabOk hnt rfl (s_move rfl ?_) 
      refine r_if tabOk hnt rfl rfl rfl (fun _ => ?_) (fun e => absurd (e.symm.trans g14) (by decide))
      refine r_op tabOk hnt rfl (s_eqbool tab_4 rfl rfl rfl ?_) 
      refine r_op tabOk hnt rfl (s_pick_t rfl g14 rfl ?_) 
      refine r_op tabOk hnt rfl (s_move rfl ?_) 
      refine r_if tabOk hnt rfl rfl rfl (fun g15 => ?_) (fun g15 => ?_)
      ·
        have g15' := g15
        try simp only [decide_eq_true_eq, decide_eq_false_iff_not, Bool.not_eq_true', Bool.not_eq_false', Bool.not_true, Bool.not_false, Bool.not_eq_eq_eq_not, Int.not_lt, Int.not_le] at g15'
        refine r_op tabOk hnt rfl (s_load_ptr tab_53 rfl rfl rfl (Nat.le_of_ble_eq_true rfl) ?_) 
        refine r_if tabOk hnt rfl rfl rfl (fun _ => ?_) (fun e => absurd (e.symm.trans g15) (by decide))
        refine r_op tabOk hnt rfl (s_load_ptr tab_53 rfl rfl rfl (Nat.le_of_ble_eq_true rfl) ?_) 
        refine r_if tabOk hnt rfl rfl rfl (fun _ => ?_) (fun e => absurd (e.symm.trans g15) (by decide))
        refine r_op tabOk hnt rfl (s_callF rfl rfl rfl (w_span_In x x) rfl ?_) 
        refine r_op tabOk hnt rfl (s_pick_t rfl g15 rfl ?_) 
        refine r_op tabOk hnt rfl (s_move rfl ?_) 
        refine r_if tabOk hnt rfl rfl rfl (fun g16 => ?_) (fun g16 => ?_)
        ·
          have g16' := g16
          try simp only [decide_eq_true_eq, decide_eq_false_iff_not, Bool.not_eq_true', Bool.not_eq_false', Bool.not_true, Bool.not_false, Bool.not_eq_eq_eq_not, Int.not_lt, Int.not_le] at g16'
          refine r_op tabOk hnt rfl (s_move rfl ?_) 
          refine r_if tabOk hnt rfl rfl rfl (fun _ => ?_) (fun e => absurd (e.symm.trans g16) (by decide))
          refine r_op tabOk hnt rfl (s_not rfl ?_) 
          refine r_if tabOk hnt rfl rfl rfl (fun _ => ?_) (fun e => absurd (e.symm.trans g16) (by decide))
          refine r_op tabOk hnt rfl (s_move rfl ?_) 
          refine r_if tabOk hnt rfl rfl rfl (fun g17 => ?_) (fun g17 => ?_)
          ·
            have g17' := g17
            try simp only [decide_eq_true_eq, decide_eq_false_iff_not, Bool.not_eq_true', Bool.not_eq_false', Bool.not_true, Bool.not_false, Bool.not_eq_eq_eq_not, Int.not_lt, Int.not_le] at g17'
            refine r_op tabOk hnt rfl (s_load_ptr tab_53 rfl rfl rfl (Nat.le_of_ble_eq_true rfl) ?_) 
            refine r_if tabOk hnt rfl rfl rfl (fun _ => ?_) (fun e => absurd (e.symm.trans g17) (by decide))
            refine r_op tabOk hnt rfl (s_load_ptr tab_53 rfl rfl rfl (Nat.le_of_ble_eq_true rfl) ?_) 
            refine r_if tabOk hnt rfl rfl rfl (fun _ => ?_) (fun e => absurd (e.symm.trans g17) (by decide))
            refine r_op tabOk hnt rfl (s_callF rfl rfl rfl (w_span_In (meetV x y) x) rfl ?_) 
            refine r_if tabOk hnt rfl rfl rfl (fun _ => ?_) (fun e => absurd (e.symm.trans g17) (by decide))
            refine r_op tabOk hnt rfl (s_move rfl ?_) 
            refine r_if tabOk hnt rfl rfl rfl (fun g18 => ?_) (fun g18 => ?_)
            ·
              have g18' := g18
              try simp only [decide_eq_true_eq, decide_eq_false_iff_not, Bool.not_eq_true', Bool.not_eq_false', Bool.not_true, Bool.not_false, Bool.not_eq_eq_eq_not, Int.not_lt, Int.not_le] at g18'
              refine r_op tabOk hnt rfl (s_load_ptr tab_53 rfl rfl rfl (Nat.le_of_ble_eq_true rfl) ?_) 
              refine r_if tabOk hnt rfl rfl rfl (fun _ => ?_) (fun e => absurd (e.symm.trans g18) (by decide))
              refine r_op tabOk hnt rfl (s_load_ptr tab_53 rfl rfl rfl (Nat.le_of_ble_eq_true rfl) ?_) 
              refine r_if tabOk hnt rfl rfl rfl (fun _ => ?_) (fun e => absurd (e.symm.trans g18) (by decide))
              refine r_op tabOk hnt rfl (s_callF rfl rfl rfl (w_span_In (meetV x y) y) rfl ?_) 
              refine r_if tabOk hnt rfl rfl rfl (fun _ => ?_) (fun e => absurd (e.symm.trans g17) (by decide))
              refine r_op tabOk hnt rfl (s_pick_t rfl g18 rfl ?_) 
              refine r_if tabOk hnt rfl rfl rfl (fun _ => ?_) (fun e => absurd (e.symm.trans g16) (by decide))
              refine r_op tabOk hnt rfl (s_pick_f rfl g17 rfl ?_) 
              refine r_op tabOk hnt rfl (s_pick_t rfl g16 rfl ?_) 
              refine r_op tabOk hnt rfl (s_move rfl ?_) 
              refine r_if tabOk hnt rfl rfl rfl (fun g19 => ?_) (fun g19 => ?_)
              ·
                have g19' := g19
                try simp only [decide_eq_true_eq, decide_eq_false_iff_not, Bool.not_eq_true', Bool.not_eq_false', Bool.not_true, Bool.not_false, Bool.not_eq_eq_eq_not, Int.not_lt, Int.not_le] at g19'
                refine r_op tabOk hnt rfl (s_move rfl ?_) 
                refine r_if tabOk hnt rfl rfl rfl (fun _ => ?_) (fun e => absurd (e.symm.trans g19) (by decide))
                refine r_op tabOk hnt rfl (s_move rfl ?_) 
                refine r_if tabOk hnt rfl rfl rfl (fun _ => ?_) (fun e => absurd (e.symm.trans g19) (by decide))
                refine r_op tabOk hnt rfl (s_move rfl ?_) 
                refine r_if tabOk hnt rfl rfl rfl (fun g20 => ?_) (fun g20 => ?_)
                ·
                  have g20' := g20
                  try simp only [decide_eq_true_eq, decide_eq_false_iff_not, Bool.not_eq_true', Bool.not_eq_false', Bool.not_true, Bool.not_false, Bool.not_eq_eq_eq_not, Int.not_lt, Int.not_le] at g20'
                  refine r_op tabOk hnt rfl (s_load_ptr tab_53 rfl rfl rfl (Nat.le_of_ble_eq_true rfl) ?_) 
                  refine r_if tabOk hnt rfl rfl rfl (fun _ => ?_) (fun e => absurd (e.symm.trans g20) (by decide))
                  refine r_op tabOk hnt rfl (s_load_ptr tab_53 rfl rfl rfl (Nat.le_of_ble_eq_true rfl) ?_) 
                  refine r_if tabOk hnt rfl rfl rfl (fun _ => ?_) (fun e => absurd (e.symm.trans g20) (by decide))
                  refine r_op tabOk hnt rfl (s_callF rfl rfl rfl (w_span_In z (meetV x y)) rfl ?_) 
                  refine r_if tabOk hnt rfl rfl rfl (fun _ => ?_) (fun e => absurd (e.symm.trans g19) (by decide))
                  refine r_op tabOk hnt rfl (s_pick_t rfl g20 rfl ?_) 
                  refine r_if tabOk hnt rfl rfl rfl (fun _ => ?_) (fun e => absurd (e.symm.trans g19) (by decide))
                  refine r_op tabOk hnt rfl (s_eqbool tab_4 rfl rfl rfl ?_) 
                  refine r_op tabOk hnt rfl (s_pick_t rfl g19 rfl ?_) 
                  refine r_op tabOk hnt rfl (s_move rfl ?_) 
                  refine r_if tabOk hnt rfl rfl rfl (fun g21 => ?_) (fun g21 => ?_)
                  ·
                    have g21' := g21
                    try simp only [decide_eq_true_eq, decide_eq_false_iff_not, Bool.not_eq_true', Bool.not_eq_false', Bool.not_true, Bool.not_false, Bool.not_eq_eq_eq_not, Int.not_lt, Int.not_le] at g21'
                    refine r_op tabOk hnt rfl (s_callF rfl rfl rfl (w_burgagelaw7_known) rfl ?_) 
                    refine r_op tabOk hnt rfl (s_pick_t rfl g21 rfl ?_) 
                    refine r_op tabOk hnt rfl (s_assign rfl ?_) 
                    refine r_set [(6, pB true)] [(7, .obj [pI ((meetV y x).at_), pI ((meetV y x).count)]), (6, .obj [pI ((meetV x y).at_), pI ((meetV x y).count)]), (5, .obj [pI z.at_, pI z.count]), (4, .obj [pI y.at_, pI y.count]), (3, .obj [pI x.at_, pI x.count]), (2, .obj [pI cc.at_, pI cc.count]), (1, .obj [pI b.at_, pI b.count]), (0, .obj [pI a.at_, pI a.count])] 8 ⟨rfl, trivial⟩ rfl rfl ?_
                    refine r_end ?_
                    refine q_then ?_
                    refine w_ret ?_
                    exact fin_plain (ret_tmp rfl ret_nil) rfl rfl ⟨rfl, rfl, rfl⟩
                  ·
                    exact absurd g21 (by simp_all)
                ·
                  have g20' := g20
                  try simp only [decide_eq_true_eq, decide_eq_false_iff_not, Bool.not_eq_true', Bool.not_eq_false', Bool.not_true, Bool.not_false, Bool.not_eq_eq_eq_not, Int.not_lt, Int.not_le] at g20'
                  refine r_if tabOk hnt rfl rfl rfl (fun e => absurd (e.symm.trans g20) (by decide)) (fun _ => ?_)
                  refine r_if tabOk hnt rfl rfl rfl (fun e => absurd (e.symm.trans g20) (by decide)) (fun _ => ?_)
                  refine r_if tabOk hnt rfl rfl rfl (fun _ => ?_) (fun e => absurd (e.symm.trans g19) (by decide))
                  refine r_op tabOk hnt rfl (s_pick_f rfl g20 rfl ?_) 
                  refine r_if tabOk hnt rfl rfl rfl (fun _ => ?_) (fun e => absurd (e.symm.trans g19) (by decide))
                  refine r_op tabOk hnt rfl (s_eqbool tab_4 rfl rfl rfl ?_) 
                  refine r_op tabOk hnt rfl (s_pick_t rfl g19 rfl ?_) 
                  refine r_op tabOk hnt rfl (s_move rfl ?_) 
                  refine r_if tabOk hnt rfl rfl rfl (fun g22 => ?_) (fun g22 => ?_)
                  ·
                    have g22' := g22
                    try simp only [decide_eq_true_eq, decide_eq_false_iff_not, Bool.not_eq_true', Bool.not_eq_false', Bool.not_true, Bool.not_false, Bool.not_eq_eq_eq_not, Int.not_lt, Int.not_le] at g22'
                    refine r_op tabOk hnt rfl (s_callF rfl rfl rfl (w_burgagelaw7_known) rfl ?_) 
                    refine r_op tabOk hnt rfl (s_pick_t rfl g22 rfl ?_) 
                    refine r_op tabOk hnt rfl (s_assign rfl ?_) 
                    refine r_set [(6, pB true)] [(7, .obj [pI ((meetV y x).at_), pI ((meetV y x).count)]), (6, .obj [pI ((meetV x y).at_), pI ((meetV x y).count)]), (5, .obj [pI z.at_, pI z.count]), (4, .obj [pI y.at_, pI y.count]), (3, .obj [pI x.at_, pI x.count]), (2, .obj [pI cc.at_, pI cc.count]), (1, .obj [pI b.at_, pI b.count]), (0, .obj [pI a.at_, pI a.count])] 8 ⟨rfl, trivial⟩ rfl rfl ?_
                    refine r_end ?_
                    refine q_then ?_
                    refine w_ret ?_
                    exact fin_plain (ret_tmp rfl ret_nil) rfl rfl ⟨rfl, rfl, rfl⟩
                  ·
                    exact absurd g22 (by simp_all)
              ·
                exact absurd g19 (by simp_all [in_meet])
            ·
              exact absurd g18 (by simp_all [in_meet])
          ·
            have g17' := g17
            try simp only [decide_eq_true_eq, decide_eq_false_iff_not, Bool.not_eq_true', Bool.not_eq_false', Bool.not_true, Bool.not_false, Bool.not_eq_eq_eq_not, Int.not_lt, Int.not_le] at g17'
            refine r_if tabOk hnt rfl rfl rfl (fun e => absurd (e.symm.trans g17) (by decide)) (fun _ => ?_)
            refine r_if tabOk hnt rfl rfl rfl (fun e => absurd (e.symm.trans g17) (by decide)) (fun _ => ?_)
            refine r_if tabOk hnt rfl rfl rfl (fun e => absurd (e.symm.trans g17) (by decide)) (fun _ => ?_)
            refine r_undef tabOk hnt rfl rfl rfl ?_
            refine r_undef tabOk hnt rfl rfl rfl ?_
            refine r_undef tabOk hnt rfl rfl rfl ?_
            refine r_if tabOk hnt rfl rfl rfl (fun e => absurd (e.symm.trans g17) (by decide)) (fun _ => ?_)
            refine r_if tabOk hnt rfl rfl rfl (fun _ => ?_) (fun e => absurd (e.symm.trans g16) (by decide))
            refine r_op tabOk hnt rfl (s_pick_t rfl g17 rfl ?_) 
            refine r_op tabOk hnt rfl (s_pick_t rfl g16 rfl ?_) 
            refine r_op tabOk hnt rfl (s_move rfl ?_) 
            refine r_if tabOk hnt rfl rfl rfl (fun _ => ?_) (fun e => absurd e (by decide))
            refine r_op tabOk hnt rfl (s_move rfl ?_) 
            refine r_if tabOk hnt rfl rfl rfl (fun _ => ?_) (fun e => absurd e (by decide))
            refine r_op tabOk hnt rfl (s_move rfl ?_) 
            refine r_if tabOk hnt rfl rfl rfl (fun _ => ?_) (fun e => absurd e (by decide))
            refine r_op tabOk hnt rfl (s_move rfl ?_) 
            refine r_if tabOk hnt rfl rfl rfl (fun g23 => ?_) (fun g23 => ?_)
            ·
              have g23' := g23
              try simp only [decide_eq_true_eq, decide_eq_false_iff_not, Bool.not_eq_true', Bool.not_eq_false', Bool.not_true, Bool.not_false, Bool.not_eq_eq_eq_not, Int.not_lt, Int.not_le] at g23'
              refine r_op tabOk hnt rfl (s_load_ptr tab_53 rfl rfl rfl (Nat.le_of_ble_eq_true rfl) ?_) 
              refine r_if tabOk hnt rfl rfl rfl (fun _ => ?_) (fun e => absurd (e.symm.trans g23) (by decide))
              refine r_op tabOk hnt rfl (s_load_ptr tab_53 rfl rfl rfl (Nat.le_of_ble_eq_true rfl) ?_) 
              refine r_if tabOk hnt rfl rfl rfl (fun _ => ?_) (fun e => absurd (e.symm.trans g23) (by decide))
              refine r_op tabOk hnt rfl (s_callF rfl rfl rfl (w_span_In z (meetV x y)) rfl ?_) 
              refine r_if tabOk hnt rfl rfl rfl (fun _ => ?_) (fun e => absurd e (by decide))
              refine r_op tabOk hnt rfl (s_pick_t rfl g23 rfl ?_) 
              refine r_if tabOk hnt rfl rfl rfl (fun _ => ?_) (fun e => absurd e (by decide))
              refine r_op tabOk hnt rfl (s_eqbool tab_4 rfl rfl rfl ?_) 
              refine r_op tabOk hnt rfl (s_pick_t rfl rfl rfl ?_) 
              refine r_op tabOk hnt rfl (s_move rfl ?_) 
              refine r_if tabOk hnt rfl rfl rfl (fun g24 => ?_) (fun g24 => ?_)
              ·
                have g24' := g24
                try simp only [decide_eq_true_eq, decide_eq_false_iff_not, Bool.not_eq_true', Bool.not_eq_false', Bool.not_true, Bool.not_false, Bool.not_eq_eq_eq_not, Int.not_lt, Int.not_le] at g24'
                refine r_op tabOk hnt rfl (s_callF rfl rfl rfl (w_burgagelaw7_known) rfl ?_) 
                refine r_op tabOk hnt rfl (s_pick_t rfl g24 rfl ?_) 
                refine r_op tabOk hnt rfl (s_assign rfl ?_) 
                refine r_set [(6, pB true)] [(7, .obj [pI ((meetV y x).at_), pI ((meetV y x).count)]), (6, .obj [pI ((meetV x y).at_), pI ((meetV x y).count)]), (5, .obj [pI z.at_, pI z.count]), (4, .obj [pI y.at_, pI y.count]), (3, .obj [pI x.at_, pI x.count]), (2, .obj [pI cc.at_, pI cc.count]), (1, .obj [pI b.at_, pI b.count]), (0, .obj [pI a.at_, pI a.count])] 8 ⟨rfl, trivial⟩ rfl rfl ?_
                refine r_end ?_
                refine q_then ?_
                refine w_ret ?_
                exact fin_plain (ret_tmp rfl ret_nil) rfl rfl ⟨rfl, rfl, rfl⟩
              ·
                exact absurd g24 (by simp_all)
            ·
              have g23' := g23
              try simp only [decide_eq_true_eq, decide_eq_false_iff_not, Bool.not_eq_true', Bool.not_eq_false', Bool.not_true, Bool.not_false, Bool.not_eq_eq_eq_not, Int.not_lt, Int.not_le] at g23'
              refine r_if tabOk hnt rfl rfl rfl (fun e => absurd (e.symm.trans g23) (by decide)) (fun _ => ?_)
              refine r_if tabOk hnt rfl rfl rfl (fun e => absurd (e.symm.trans g23) (by decide)) (fun _ => ?_)
              refine r_if tabOk hnt rfl rfl rfl (fun _ => ?_) (fun e => absurd e (by decide))
              refine r_op tabOk hnt rfl (s_pick_f rfl g23 rfl ?_) 
              refine r_if tabOk hnt rfl rfl rfl (fun _ => ?_) (fun e => absurd e (by decide))
              refine r_op tabOk hnt rfl (s_eqbool tab_4 rfl rfl rfl ?_) 
              refine r_op tabOk hnt rfl (s_pick_t rfl rfl rfl ?_) 
              refine r_op tabOk hnt rfl (s_move rfl ?_) 
              refine r_if tabOk hnt rfl rfl rfl (fun g25 => ?_) (fun g25 => ?_)
              ·
                have g25' := g25
                try simp only [decide_eq_true_eq, decide_eq_false_iff_not, Bool.not_eq_true', Bool.not_eq_false', Bool.not_true, Bool.not_false, Bool.not_eq_eq_eq_not, Int.not_lt, Int.not_le] at g25'
                refine r_op tabOk hnt rfl (s_callF rfl rfl rfl (w_burgagelaw7_known) rfl ?_) 
                refine r_op tabOk hnt rfl (s_pick_t rfl g25 rfl ?_) 
                refine r_op tabOk hnt rfl (s_assign rfl ?_) 
                refine r_set [(6, pB true)] [(7, .obj [pI ((meetV y x).at_), pI ((meetV y x).count)]), (6, .obj [pI ((meetV x y).at_), pI ((meetV x y).count)]), (5, .obj [pI z.at_, pI z.count]), (4, .obj [pI y.at_, pI y.count]), (3, .obj [pI x.at_, pI x.count]), (2, .obj [pI cc.at_, pI cc.count]), (1, .obj [pI b.at_, pI b.count]), (0, .obj [pI a.at_, pI a.count])] 8 ⟨rfl, trivial⟩ rfl rfl ?_
                refine r_end ?_
                refine q_then ?_
                refine w_ret ?_
                exact fin_plain (ret_tmp rfl ret_nil) rfl rfl ⟨rfl, rfl, rfl⟩
              ·
                exact absurd g25 (by simp_all)
        ·
          exact absurd g16 (by simp [in_self xok])
      ·
        exact absurd g15 (by simp [hco.1])
    ·
      exact absurd g14 (by simp [hco.2])

theorem w_burgagelaw7_SpanTells (a : TSpan) (b : TSpan) (s : TSpan) (m : Int) (l : List TSpan) (cl_l : Bool) (hm : m ≤ 9223372036854775807) (hl : l.length * 16 ≤ 140737488351232) :
    T Try.prog 12 [PV.f (eSpan a), PV.f (eSpan b), PV.f (eSpan s), pI m, pS 2 cl_l eSpan l] 0 [] (Ret (pB true) 0 []) := by
  refine t_fun tabOk (n := 96) (rs := [.tmp 10]) Try.func12 rfl rfl rfl rfl (Nat.le_of_ble_eq_true rfl) ?_
  intro c hnt hk
  refine w_seq ?_
  refine w_R ?_
  refine r_op tabOk hnt rfl (s_box rfl rfl ?_) 
  refine r_op tabOk hnt rfl (s_box rfl rfl ?_) 
  refine r_op tabOk hnt rfl (s_box rfl rfl ?_) 
  refine r_op tabOk hnt rfl (s_assign rfl ?_) 
  refine r_set [(3, pI m), (4, pS 2 cl_l eSpan l), (5, PV.ptr 0 0), (6, PV.ptr 1 0), (7, PV.ptr 2 0)] [(2, .obj [pI s.at_, pI s.count]), (1, .obj [pI b.at_, pI b.count]), (0, .obj [pI a.at_, pI a.count])] 3 ⟨rfl, rfl, rfl, rfl, rfl, trivial⟩ rfl rfl ?_
  refine r_end ?_
  refine q_then ?_
  refine w_seq ?_
  refine w_R ?_
  refine r_op tabOk hnt rfl (s_assign rfl ?_) 
  refine r_end ?_
  refine q_then ?_
  refine w_seq ?_
  refine w_seq ?_
  refine w_R ?_
  refine r_op tabOk hnt rfl (s_assign rfl ?_) 
  refine r_end ?_
  refine q_then ?_
  refine w_block ?_
  refine w_adopt (s := 11) (sz := 2) rfl ?_
  refine loop2 (fun (fs : List TSpan) (i : Nat) => i ≤ 12 ∧ fs.length = i) (fun (fs : List TSpan) (i : Nat) => [(3, pI m), (4, pS 2 cl_l eSpan l), (5, PV.ptr 1 0), (6, PV.ptr 2 0), (7, PV.ptr 3 0), (11, PV.ref 0 0 none), (12, pN i)]) 4 (fun (fs : List TSpan) (i : Nat) => [(0, oB true 2 eSpan fs), (1, .obj [pI a.at_, pI a.count]), (2, .obj [pI b.at_, pI b.count]), (3, .obj [pI s.at_, pI s.count])]) (fun (fs : List TSpan) (i : Nat) => 12 - i) (([] : List TSpan)) (0) ?_ ⟨[(0, 3), (1, 0), (2, 1), (3, 2)], by rw [hk]; decide, ⟨⟨_, rfl, rfl, rfl⟩, ⟨_, rfl, rfl, rfl⟩, ⟨_, rfl, rfl, rfl⟩, ⟨_, rfl, rfl, rfl⟩, ⟨_, rfl, rfl, rfl⟩, ⟨_, rfl, rfl, rfl⟩, ⟨_, rfl, rfl, rfl⟩, trivial⟩, ⟨⟨_, _, rfl, rfl, rfl, rfl⟩, ⟨_, _, rfl, rfl, rfl, rfl⟩, ⟨_, _, rfl, rfl, rfl, rfl⟩, ⟨_, _, rfl, rfl, rfl, rfl⟩, trivial⟩, by rw [hk]; decide⟩ ?_
  · simp
  ·
    intro fs i hI
    obtain ⟨hi, hf⟩ := hI
    refine w_seq ?_
    refine w_seq ?_
    refine w_R ?_
    refine r_op tabOk hnt rfl (s_move rfl ?_) 
    refine r_op tabOk hnt rfl (s_move rfl ?_) 
    refine r_op tabOk hnt rfl (s_lenM (l := l) tab_56 rfl (hM_sl (f := eSpan) rfl) ?_) 
    refine r_op tabOk hnt rfl (s_lss rfl rfl ?_) 
    refine r_op tabOk hnt rfl (s_move rfl ?_) 
    refine r_if tabOk hnt rfl rfl rfl (fun g1 => ?_) (fun g1 => ?_)
    ·
      have g1' := g1
      try simp only [decide_eq_true_eq, decide_eq_false_iff_not, Bool.not_eq_true', Bool.not_eq_false', Bool.not_true, Bool.not_false, Bool.not_eq_eq_eq_not, Int.not_lt, Int.not_le] at g1'
      refine r_op tabOk hnt rfl (s_move rfl ?_) 
      refine r_if tabOk hnt rfl rfl rfl (fun _ => ?_) (fun e => absurd (e.symm.trans g1) (by decide))
      refine r_op tabOk hnt rfl (s_lss rfl rfl ?_) 
      refine r_op tabOk hnt rfl (s_pick_t rfl g1 rfl ?_) 
      refine r_end ?_
      refine q_then ?_
      refine w_if rfl (fun c1 => ?_) (fun c1 => ?_)
      ·
        have c1_ := c1
        try simp only [decide_eq_true_eq, decide_eq_false_iff_not, Bool.not_eq_true', Bool.not_eq_false', Bool.not_true, Bool.not_false, Bool.not_eq_eq_eq_not, Int.not_lt, Int.not_le] at c1
        refine w_skip ?_
        refine q_then ?_
        refine w_seq ?_
        refine w_block ?_
        refine W_drawn tabOk mixed hnt [[], [], [], [1, 2], [1, 2, 3], [1, 2, 3, 4], [1, 2, 3, 4, 5], [], [], [7, 8], [7, 8, 9], [7, 8, 9, 10], [7, 8, 9, 10, 11], [7, 8, 9, 10, 11, 12], [1, 2, 3, 4, 5, 6, 7, 8, 9, 10, 11, 12, 13], [1, 2, 3, 4, 5, 6, 7, 8, 9, 10, 11, 12, 13, 14], [0, 1, 2, 3, 4, 5, 6, 7, 8, 9, 10, 11, 12, 13, 14, 15], [0, 1, 2, 3, 4, 5, 6, 7, 8, 9, 10, 11, 12, 13, 14, 15, 16]] (by kernel_rfl) ?_
        refine d_op ?_
        refine x_run0 [(11, PV.ref 0 0 none)] [] rfl rfl rfl rfl (s_move rfl ⟨rfl, rfl, rfl⟩) ?_
        refine d_op ?_
        refine x_run0 [(4, pS 2 cl_l eSpan l)] [] rfl rfl rfl rfl (s_move rfl ⟨rfl, rfl, rfl⟩) ?_
        refine d_op ?_
        refine x_run0 [(12, pN i)] [] rfl rfl rfl rfl (s_move rfl ⟨rfl, rfl, rfl⟩) ?_
        refine d_op ?_
        obtain ⟨e1, he1⟩ := get_of_lt l (i := i) (by omega)
        refine x_run0 [(26, pS 2 cl_l eSpan l), (27, pN i)] [1, 2] rfl rfl rfl rfl (s_iaM (q := i) (b := e1) (f := eSpan) tab_56 rfl tab_53 rfl rfl (by omega) rfl he1 ⟨rfl, rfl, rfl⟩) ?_
        refine d_op ?_
        refine x_run0 [(28, PV.f (.ro (eSpan e1)))] [1, 2, 3] rfl rfl rfl rfl (s_fa_ro tab_53 rfl rfl tab_3 (by decide) rfl (Nat.le_of_ble_eq_true rfl) (by intro _; rfl) ⟨rfl, rfl, rfl⟩) ?_
        refine d_op ?_
        refine x_run0 [(29, PV.f (.ro (encI e1.at_)))] [1, 2, 3, 4] rfl rfl rfl rfl (s_load_ro1 tab_3 rfl rfl rfl rfl ⟨rfl, rfl, rfl⟩) ?_
        refine d_op ?_
        refine x_run0 [(30, pI e1.at_)] [1, 2, 3, 4, 5] rfl rfl rfl rfl (s_maskI 5 (by decide) rfl rfl (by decide) ⟨rfl, rfl, rfl⟩) ?_
        refine d_op ?_
        refine x_run0 [(4, pS 2 cl_l eSpan l)] [] rfl rfl rfl rfl (s_move rfl ⟨rfl, rfl, rfl⟩) ?_
        refine d_op ?_
        refine x_run0 [(12, pN i)] [] rfl rfl rfl rfl (s_move rfl ⟨rfl, rfl, rfl⟩) ?_
        refine d_op ?_
        refine x_run0 [(32, pS 2 cl_l eSpan l), (33, pN i)] [7, 8] rfl rfl rfl rfl (s_iaM (q := i) (b := e1) (f := eSpan) tab_56 rfl tab_53 rfl rfl (by omega) rfl he1 ⟨rfl, rfl, rfl⟩) ?_
        refine d_op ?_
        refine x_run0 [(34, PV.f (.ro (eSpan e1)))] [7, 8, 9] rfl rfl rfl rfl (s_fa_ro tab_53 rfl rfl tab_3 (by decide) rfl (Nat.le_of_ble_eq_true rfl) (by intro _; rfl) ⟨rfl, rfl, rfl⟩) ?_
        refine d_op ?_
        refine x_run0 [(35, PV.f (.ro (encI e1.count)))] [7, 8, 9, 10] rfl rfl rfl rfl (s_load_ro1 tab_3 rfl rfl rfl rfl ⟨rfl, rfl, rfl⟩) ?_
        refine d_op ?_
        refine x_run0 [(36, pI e1.count)] [7, 8, 9, 10, 11] rfl rfl rfl rfl (s_maskI 4 (by decide) rfl rfl (by decide) ⟨rfl, rfl, rfl⟩) ?_
        refine d_op ?_
        refine x_run0 [(37, pN ((e1.count % 2 ^ 4).toNat))] [7, 8, 9, 10, 11, 12] rfl rfl rfl rfl (s_addN (a := 1) (b := (e1.count % 2 ^ 4).toNat) rfl rfl (by omega) (by omega) (by omega) ⟨rfl, rfl, rfl⟩) ?_
        refine d_op ?_
        refine x_run0 [(31, pN ((e1.at_ % 2 ^ 5).toNat)), (38, pN (1 + ((e1.count % 2 ^ 4).toNat)))] [1, 2, 3, 4, 5, 6, 7, 8, 9, 10, 11, 12, 13] rfl rfl rfl rfl (s_build tab_53 rfl rfl (b_cons rfl tab_3 rfl rfl rfl (Nat.le_of_ble_eq_true rfl) (b_cons rfl tab_3 rfl rfl rfl (Nat.le_of_ble_eq_true rfl) (b_nil ⟨rfl, rfl, rfl⟩)))) ?_
        refine d_op ?_
        refine x_run [(39, PV.f (.agg [encI (((e1.at_ % 2 ^ 5).toNat : Nat) : Int), encI ((1 + ((e1.count % 2 ^ 4).toNat) : Nat) : Int)]))] [1, 2, 3, 4, 5, 6, 7, 8, 9, 10, 11, 12, 13, 14] [] [] [(4, oB true 2 eSpan [(⟨(((e1.at_ % 2 ^ 5).toNat : Nat) : Int), ((1 + ((e1.count % 2 ^ 4).toNat) : Nat) : Int)⟩ : TSpan)])] [(4, oB true 2 eSpan [(⟨(((e1.at_ % 2 ^ 5).toNat : Nat) : Int), ((1 + ((e1.count % 2 ^ 4).toNat) : Nat) : Int)⟩ : TSpan)])] [(4, oB true 2 eSpan [(⟨(((e1.at_ % 2 ^ 5).toNat : Nat) : Int), ((1 + ((e1.count % 2 ^ 4).toNat) : Nat) : Int)⟩ : TSpan)]), (0, oB true 2 eSpan fs), (1, .obj [pI a.at_, pI a.count]), (2, .obj [pI b.at_, pI b.count]), (3, .obj [pI s.at_, pI s.count])] rfl rfl rfl rfl rfl rfl (s_mkM (f := eSpan) [(⟨(((e1.at_ % 2 ^ 5).toNat : Nat) : Int), ((1 + ((e1.count % 2 ^ 4).toNat) : Nat) : Int)⟩ : TSpan)] tab_56 rfl tab_53 ⟨rfl, by decide⟩ (by decide) rfl rfl rfl rfl ⟨rfl, rfl, rfl⟩) rfl trivial rfl rfl ?_
        refine d_op ?_
        refine x_run [(25, PV.ref 0 0 none), (40, PV.ref 4 0 none)] [0, 1, 2, 3, 4, 5, 6, 7, 8, 9, 10, 11, 12, 13, 14, 15] [(4, oB true 2 eSpan [(⟨(((e1.at_ % 2 ^ 5).toNat : Nat) : Int), ((1 + ((e1.count % 2 ^ 4).toNat) : Nat) : Int)⟩ : TSpan)])] [(0, oB true 2 eSpan fs)] [(5, oB true 2 eSpan (fs ++ [(⟨(((e1.at_ % 2 ^ 5).toNat : Nat) : Int), ((1 + ((e1.count % 2 ^ 4).toNat) : Nat) : Int)⟩ : TSpan)])), (4, oB true 2 eSpan [(⟨(((e1.at_ % 2 ^ 5).toNat : Nat) : Int), ((1 + ((e1.count % 2 ^ 4).toNat) : Nat) : Int)⟩ : TSpan)])] [(5, oB true 2 eSpan (fs ++ [(⟨(((e1.at_ % 2 ^ 5).toNat : Nat) : Int), ((1 + ((e1.count % 2 ^ 4).toNat) : Nat) : Int)⟩ : TSpan)]))] [(5, oB true 2 eSpan (fs ++ [(⟨(((e1.at_ % 2 ^ 5).toNat : Nat) : Int), ((1 + ((e1.count % 2 ^ 4).toNat) : Nat) : Int)⟩ : TSpan)])), (4, oB true 2 eSpan [(⟨(((e1.at_ % 2 ^ 5).toNat : Nat) : Int), ((1 + ((e1.count % 2 ^ 4).toNat) : Nat) : Int)⟩ : TSpan)]), (1, .obj [pI a.at_, pI a.count]), (2, .obj [pI b.at_, pI b.count]), (3, .obj [pI s.at_, pI s.count])] rfl rfl rfl rfl rfl rfl (s_appR0 (f := eSpan) (l := fs) (xs := [(⟨(((e1.at_ % 2 ^ 5).toNat : Nat) : Int), ((1 + ((e1.count % 2 ^ 4).toNat) : Nat) : Int)⟩ : TSpan)]) tab_56 rfl tab_53 ⟨rfl, by decide, by decide⟩ (srcM tab_56 rfl (hM_ref0 (f := eSpan) rfl rfl)) rfl rfl (by first | omega | (simp; omega)) ⟨rfl, rfl, rfl⟩) rfl ⟨rfl, trivial⟩ rfl rfl ?_
        refine d_op ?_
        refine x_run0 [(41, PV.ref 5 0 none)] [0, 1, 2, 3, 4, 5, 6, 7, 8, 9, 10, 11, 12, 13, 14, 15, 16] rfl rfl rfl rfl (s_assign rfl ⟨rfl, rfl, rfl⟩) ?_
        refine d_end ⟨by kernel_rfl, ?_⟩
        refine q_block ?_
        refine q_then ?_
        refine w_R ?_
        refine r_op tabOk hnt rfl (s_move rfl ?_) 
        refine r_op tabOk hnt rfl (s_addN (a := i) (b := 1) rfl rfl (by omega) (by omega) (by omega) ?_) 
        refine r_op tabOk hnt rfl (s_assign rfl ?_) 
        refine r_end ?_
        refine q_then ?_
        refine ⟨(fs ++ [(⟨(((e1.at_ % 2 ^ 5).toNat : Nat) : Int), ((1 + ((e1.count % 2 ^ 4).toNat) : Nat) : Int)⟩ : TSpan)]), (i + 1), ?_, ?_, ⟨[(0, 5), (1, 1), (2, 2), (3, 3)], by rw [hk]; decide, ⟨⟨_, rfl, rfl, rfl⟩, ⟨_, rfl, rfl, rfl⟩, ⟨_, rfl, rfl, rfl⟩, ⟨_, rfl, rfl, rfl⟩, ⟨_, rfl, rfl, rfl⟩, ⟨_, rfl, rfl, rfl⟩, ⟨_, rfl, rfl, rfl⟩, trivial⟩, ⟨⟨_, _, rfl, rfl, rfl, rfl⟩, ⟨_, _, rfl, rfl, rfl, rfl⟩, ⟨_, _, rfl, rfl, rfl, rfl⟩, ⟨_, _, rfl, rfl, rfl, rfl⟩, trivial⟩, by rw [hk]; decide⟩⟩
        ·
          exact ⟨by omega, by simp [hf]⟩
        · omega
      ·
        have c1_ := c1
        try simp only [decide_eq_true_eq, decide_eq_false_iff_not, Bool.not_eq_true', Bool.not_eq_false', Bool.not_true, Bool.not_false, Bool.not_eq_eq_eq_not, Int.not_lt, Int.not_le] at c1
        refine w_exit ?_
        refine q_then_exit ?_
        refine q_then_exit ?_
        refine q_block_exit ?_
        refine q_then ?_
        refine w_seq ?_
        refine W_drawn tabOk mixed hnt [[], [0], [0, 1], [], [3], [3, 4], [0, 1, 2, 3, 4, 5], [], [7], [7, 8], [], [10], [10, 11], [7, 8, 9, 10, 11, 12], [], [], [0, 1, 2, 3, 4, 5, 6, 14, 15], [0, 1, 2, 3, 4, 5, 6, 7, 8, 9, 10, 11, 12, 13, 14, 15, 16]] (by kernel_rfl) ?_
        refine d_op ?_
        refine x_run0 [(5, PV.ptr 1 0)] [] rfl rfl rfl rfl (s_fa_ptr tab_53 rfl rfl tab_3 (by decide) rfl ⟨rfl, rfl, rfl⟩) ?_
        refine d_op ?_
        refine x_run [(42, PV.ptr 1 0)] [0] [(1, .obj [pI a.at_, pI a.count])] [] [(1, .obj [pI a.at_, pI a.count])] [] [(0, oB true 2 eSpan fs), (1, .obj [pI a.at_, pI a.count]), (2, .obj [pI b.at_, pI b.count]), (3, .obj [pI s.at_, pI s.count])] rfl rfl rfl rfl rfl rfl (s_load_ptr1 tab_3 rfl rfl rfl rfl rfl ⟨rfl, rfl, rfl⟩) rfl ⟨rfl, trivial⟩ rfl rfl ?_
        refine d_op ?_
        refine x_run0 [(43, pI a.at_)] [0, 1] rfl rfl rfl rfl (s_maskI 5 (by decide) rfl rfl (by decide) ⟨rfl, rfl, rfl⟩) ?_
        refine d_op ?_
        refine x_run0 [(5, PV.ptr 1 0)] [] rfl rfl rfl rfl (s_fa_ptr tab_53 rfl rfl tab_3 (by decide) rfl ⟨rfl, rfl, rfl⟩) ?_
        refine d_op ?_
        refine x_run [(45, PV.ptr 1 1)] [3] [(1, .obj [pI a.at_, pI a.count])] [] [(1, .obj [pI a.at_, pI a.count])] [] [(0, oB true 2 eSpan fs), (1, .obj [pI a.at_, pI a.count]), (2, .obj [pI b.at_, pI b.count]), (3, .obj [pI s.at_, pI s.count])] rfl rfl rfl rfl rfl rfl (s_load_ptr1 tab_3 rfl rfl rfl rfl rfl ⟨rfl, rfl, rfl⟩) rfl ⟨rfl, trivial⟩ rfl rfl ?_
        refine d_op ?_
        refine x_run0 [(46, pI a.count)] [3, 4] rfl rfl rfl rfl (s_maskI 5 (by decide) rfl rfl (by decide) ⟨rfl, rfl, rfl⟩) ?_
        refine d_op ?_
        refine x_run0 [(44, pN ((a.at_ % 2 ^ 5).toNat)), (47, pN ((a.count % 2 ^ 5).toNat))] [0, 1, 2, 3, 4, 5] rfl rfl rfl rfl (s_build tab_53 rfl rfl (b_cons rfl tab_3 rfl rfl rfl (Nat.le_of_ble_eq_true rfl) (b_cons rfl tab_3 rfl rfl rfl (Nat.le_of_ble_eq_true rfl) (b_nil ⟨rfl, rfl, rfl⟩)))) ?_
        refine d_op ?_
        refine x_run0 [(6, PV.ptr 2 0)] [] rfl rfl rfl rfl (s_fa_ptr tab_53 rfl rfl tab_3 (by decide) rfl ⟨rfl, rfl, rfl⟩) ?_
        refine d_op ?_
        refine x_run [(49, PV.ptr 2 0)] [7] [(2, .obj [pI b.at_, pI b.count])] [] [(2, .obj [pI b.at_, pI b.count])] [] [(0, oB true 2 eSpan fs), (1, .obj [pI a.at_, pI a.count]), (2, .obj [pI b.at_, pI b.count]), (3, .obj [pI s.at_, pI s.count])] rfl rfl rfl rfl rfl rfl (s_load_ptr1 tab_3 rfl rfl rfl rfl rfl ⟨rfl, rfl, rfl⟩) rfl ⟨rfl, trivial⟩ rfl rfl ?_
        refine d_op ?_
        refine x_run0 [(50, pI b.at_)] [7, 8] rfl rfl rfl rfl (s_maskI 5 (by decide) rfl rfl (by decide) ⟨rfl, rfl, rfl⟩) ?_
        refine d_op ?_
        refine x_run0 [(6, PV.ptr 2 0)] [] rfl rfl rfl rfl (s_fa_ptr tab_53 rfl rfl tab_3 (by decide) rfl ⟨rfl, rfl, rfl⟩) ?_
        refine d_op ?_
        refine x_run [(52, PV.ptr 2 1)] [10] [(2, .obj [pI b.at_, pI b.count])] [] [(2, .obj [pI b.at_, pI b.count])] [] [(0, oB true 2 eSpan fs), (1, .obj [pI a.at_, pI a.count]), (2, .obj [pI b.at_, pI b.count]), (3, .obj [pI s.at_, pI s.count])] rfl rfl rfl rfl rfl rfl (s_load_ptr1 tab_3 rfl rfl rfl rfl rfl ⟨rfl, rfl, rfl⟩) rfl ⟨rfl, trivial⟩ rfl rfl ?_
        refine d_op ?_
        refine x_run0 [(53, pI b.count)] [10, 11] rfl rfl rfl rfl (s_maskI 5 (by decide) rfl rfl (by decide) ⟨rfl, rfl, rfl⟩) ?_
        refine d_op ?_
        refine x_run0 [(51, pN ((b.at_ % 2 ^ 5).toNat)), (54, pN ((b.count % 2 ^ 5).toNat))] [7, 8, 9, 10, 11, 12] rfl rfl rfl rfl (s_build tab_53 rfl rfl (b_cons rfl tab_3 rfl rfl rfl (Nat.le_of_ble_eq_true rfl) (b_cons rfl tab_3 rfl rfl rfl (Nat.le_of_ble_eq_true rfl) (b_nil ⟨rfl, rfl, rfl⟩)))) ?_
        refine d_op ?_
        refine x_run [] [] [] [] [(4, .obj [pI 0, pI 0])] [(4, .obj [pI 0, pI 0])] [(4, .obj [pI 0, pI 0]), (0, oB true 2 eSpan fs), (1, .obj [pI a.at_, pI a.count]), (2, .obj [pI b.at_, pI b.count]), (3, .obj [pI s.at_, pI s.count])] rfl rfl rfl rfl rfl rfl (s_alloc tab_53 ⟨rfl, rfl, rfl⟩) rfl trivial rfl rfl ?_
        refine d_op ?_
        refine x_run [] [] [] [] [(5, .obj [pI 0, pI 0])] [(5, .obj [pI 0, pI 0])] [(5, .obj [pI 0, pI 0]), (4, .obj [pI 0, pI 0]), (0, oB true 2 eSpan fs), (1, .obj [pI a.at_, pI a.count]), (2, .obj [pI b.at_, pI b.count]), (3, .obj [pI s.at_, pI s.count])] rfl rfl rfl rfl rfl rfl (s_alloc tab_53 ⟨rfl, rfl, rfl⟩) rfl trivial rfl rfl ?_
        refine d_op ?_
        refine x_run [(13, PV.ptr 4 0), (48, PV.f (.agg [encI (((a.at_ % 2 ^ 5).toNat : Nat) : Int), encI (((a.count % 2 ^ 5).toNat : Nat) : Int)]))] [0, 1, 2, 3, 4, 5, 6, 14, 15] [] [(4, .obj [pI 0, pI 0])] [(4, .obj [pN ((a.at_ % 2 ^ 5).toNat), pN ((a.count % 2 ^ 5).toNat)])] [(4, .obj [pN ((a.at_ % 2 ^ 5).toNat), pN ((a.count % 2 ^ 5).toNat)])] [(4, .obj [pN ((a.at_ % 2 ^ 5).toNat), pN ((a.count % 2 ^ 5).toNat)]), (5, .obj [pI 0, pI 0]), (0, oB true 2 eSpan fs), (1, .obj [pI a.at_, pI a.count]), (2, .obj [pI b.at_, pI b.count]), (3, .obj [pI s.at_, pI s.count])] rfl rfl rfl rfl rfl rfl (s_store_ptr tab_53 rfl rfl rfl rfl rfl (Nat.le_of_ble_eq_true rfl) ⟨rfl, rfl, rfl⟩) rfl trivial rfl rfl ?_
        refine d_op ?_
        refine x_run [(14, PV.ptr 5 0), (55, PV.f (.agg [encI (((b.at_ % 2 ^ 5).toNat : Nat) : Int), encI (((b.count % 2 ^ 5).toNat : Nat) : Int)]))] [0, 1, 2, 3, 4, 5, 6, 7, 8, 9, 10, 11, 12, 13, 14, 15, 16] [] [(5, .obj [pI 0, pI 0])] [(5, .obj [pN ((b.at_ % 2 ^ 5).toNat), pN ((b.count % 2 ^ 5).toNat)])] [(5, .obj [pN ((b.at_ % 2 ^ 5).toNat), pN ((b.count % 2 ^ 5).toNat)])] [(5, .obj [pN ((b.at_ % 2 ^ 5).toNat), pN ((b.count % 2 ^ 5).toNat)]), (4, .obj [pN ((a.at_ % 2 ^ 5).toNat), pN ((a.count % 2 ^ 5).toNat)]), (0, oB true 2 eSpan fs), (1, .obj [pI a.at_, pI a.count]), (2, .obj [pI b.at_, pI b.count]), (3, .obj [pI s.at_, pI s.count])] rfl rfl rfl rfl rfl rfl (s_store_ptr tab_53 rfl rfl rfl rfl rfl (Nat.le_of_ble_eq_true rfl) ⟨rfl, rfl, rfl⟩) rfl trivial rfl rfl ?_
        refine d_end ⟨by kernel_rfl, ?_⟩
        refine q_then ?_
        refine w_seq ?_
        refine W_drawn tabOk mixed hnt [[], [], [], [0, 1, 2], [0, 1, 2, 3], [0, 1, 2, 3, 4], [0, 1, 2, 3, 4], [0, 1, 2, 3, 4], [0, 1, 2, 3, 4, 7], [0, 1, 2, 3, 4, 5, 6, 7, 8], [0, 1, 2, 3, 4, 5, 6, 7, 8, 9], [0, 1, 2, 3, 4, 5, 6, 7, 8, 9, 10], [0, 1, 2, 3, 4, 5, 6, 7, 8, 9, 10, 11], [0, 1, 2, 3, 4, 5, 6, 7, 8, 9, 10, 11], [0, 1, 2, 3, 4, 5, 6, 7, 8, 9, 10, 11, 13], [0, 1, 2, 3, 4, 5, 6, 7, 8, 9, 10, 11, 13, 14], [0, 1, 2, 3, 4, 5, 6, 7, 8, 9, 10, 11], [0, 1, 2, 3, 4, 5, 6, 7, 8, 9, 10, 11, 16], [0, 1, 2, 3, 4, 5, 6, 7, 8, 9, 10, 11, 16, 17], [0, 1, 2, 3, 4, 5, 6, 7, 8, 9, 10, 11, 16, 17, 18], [0, 1, 2, 3, 4, 5, 6, 7, 8, 9, 10, 11, 13, 14, 15, 16, 17, 18, 19], [0, 1, 2, 3, 4, 5, 6, 7, 8, 9, 10, 11, 12, 13, 14, 15, 16, 17, 18, 19, 20], [0, 1, 2, 3, 4, 5, 6, 7, 8, 9, 10, 11, 12, 13, 14, 15, 16, 17, 18, 19, 20, 21], [0, 1, 2, 3, 4, 5, 6, 7, 8, 9, 10, 11, 12, 13, 14, 15, 16, 17, 18, 19, 20, 21, 22], [0, 1, 2, 3, 4, 5, 6, 7, 8, 9, 10, 11, 12, 13, 14, 15, 16, 17, 18, 19, 20, 21, 22, 23], [0, 1, 2, 3, 4, 5, 6, 7, 8, 9, 10, 11, 12, 13, 14, 15, 16, 17, 18, 19, 20, 21, 22, 23], [0, 1, 2, 3, 4, 5, 6, 7, 8, 9, 10, 11, 12, 13, 14, 15, 16, 17, 18, 19, 20, 21, 22, 23, 25], [0, 1, 2, 3, 4, 5, 6, 7, 8, 9, 10, 11, 12, 13, 14, 15, 16, 17, 18, 19, 20, 21, 22, 23, 25, 26], [0, 1, 2, 3, 4, 5, 6, 7, 8, 9, 10, 11, 12, 13, 14, 15, 16, 17, 18, 19, 20, 21, 22, 23, 24, 25, 26, 27], [0, 1, 2, 3, 4, 5, 6, 7, 8, 9, 10, 11, 12, 13, 14, 15, 16, 17, 18, 19, 20, 21, 22, 23], [0, 1, 2, 3, 4, 5, 6, 7, 8, 9, 10, 11, 12, 13, 14, 15, 16, 17, 18, 19, 20, 21, 22, 23, 24, 25, 26, 27, 28, 29], [0, 1, 2, 3, 4, 5, 6, 7, 8, 9, 10, 11, 12, 13, 14, 15, 16, 17, 18, 19, 20, 21, 22, 23, 24, 25, 26, 27, 28, 29, 30], [0, 1, 2, 3, 4, 5, 6, 7, 8, 9, 10, 11, 12, 13, 14, 15, 16, 17, 18, 19, 20, 21, 22, 23, 24, 25, 26, 27, 28, 29, 30, 31], [0, 1, 2, 3, 4, 5, 6, 7, 8, 9, 10, 11, 12, 13, 14, 15, 16, 17, 18, 19, 20, 21, 22, 23, 24, 25, 26, 27, 28, 29, 30, 31, 32], [0, 1, 2, 3, 4, 5, 6, 7, 8, 9, 10, 11, 12, 13, 14, 15, 16, 17, 18, 19, 20, 21, 22, 23, 24, 25, 26, 27, 28, 29, 30, 31, 32], [0, 1, 2, 3, 4, 5, 6, 7, 8, 9, 10, 11, 12, 13, 14, 15, 16, 17, 18, 19, 20, 21, 22, 23, 24, 25, 26, 27, 28, 29, 30, 31, 32, 33, 34], [0, 1, 2, 3, 4, 5, 6, 7, 8, 9, 10, 11, 12, 13, 14, 15, 16, 17, 18, 19, 20, 21, 22, 23, 24, 25, 26, 27, 28, 29, 30, 31, 32, 33, 34, 35], [0, 1, 2, 3, 4, 5, 6, 7, 8, 9, 10, 11, 12, 13, 14, 15, 16, 17, 18, 19, 20, 21, 22, 23, 24, 25, 26, 27, 28, 29, 30, 31, 32, 33, 34, 35, 36], [0, 1, 2, 3, 4, 5, 6, 7, 8, 9, 10, 11, 12, 13, 14, 15, 16, 17, 18, 19, 20, 21, 22, 23, 24, 25, 26, 27, 28, 29, 30, 31, 32, 33, 34, 35, 36, 37], [0, 1, 2, 3, 4, 5, 6, 7, 8, 9, 10, 11, 12, 13, 14, 15, 16, 17, 18, 19, 20, 21, 22, 23, 24, 25, 26, 27, 28, 29, 30, 31, 32, 33, 34, 35, 36, 37, 38], [0, 1, 2, 3, 4, 5, 6, 7, 8, 9, 10, 11, 12, 13, 14, 15, 16, 17, 18, 19, 20, 21, 22, 23, 24, 25, 26, 27, 28, 29, 30, 31, 32, 33, 34, 35, 36, 37, 38, 39]] (by kernel_rfl) ?_
        refine d_op ?_
        refine x_run [(5, PV.ptr 1 0)] [] [(1, .obj [pI a.at_, pI a.count])] [] [(1, .obj [pI a.at_, pI a.count])] [] [(5, .obj [pN ((b.at_ % 2 ^ 5).toNat), pN ((b.count % 2 ^ 5).toNat)]), (4, .obj [pN ((a.at_ % 2 ^ 5).toNat), pN ((a.count % 2 ^ 5).toNat)]), (0, oB true 2 eSpan fs), (1, .obj [pI a.at_, pI a.count]), (2, .obj [pI b.at_, pI b.count]), (3, .obj [pI s.at_, pI s.count])] rfl rfl rfl rfl rfl rfl (s_load_ptr tab_53 rfl rfl rfl (Nat.le_of_ble_eq_true rfl) ⟨rfl, rfl, rfl⟩) rfl ⟨rfl, trivial⟩ rfl rfl ?_
        refine d_op ?_
        refine x_run [(6, PV.ptr 2 0)] [] [(2, .obj [pI b.at_, pI b.count])] [] [(2, .obj [pI b.at_, pI b.count])] [] [(5, .obj [pN ((b.at_ % 2 ^ 5).toNat), pN ((b.count % 2 ^ 5).toNat)]), (4, .obj [pN ((a.at_ % 2 ^ 5).toNat), pN ((a.count % 2 ^ 5).toNat)]), (0, oB true 2 eSpan fs), (1, .obj [pI a.at_, pI a.count]), (2, .obj [pI b.at_, pI b.count]), (3, .obj [pI s.at_, pI s.count])] rfl rfl rfl rfl rfl rfl (s_load_ptr tab_53 rfl rfl rfl (Nat.le_of_ble_eq_true rfl) ⟨rfl, rfl, rfl⟩) rfl ⟨rfl, trivial⟩ rfl rfl ?_
        refine d_op ?_
        refine x_run0 [(3, pI m)] [] rfl rfl rfl rfl (s_move rfl ⟨rfl, rfl, rfl⟩) ?_
        refine d_op ?_
        refine x_run0 [(56, PV.f (.agg [encI a.at_, encI a.count])), (57, PV.f (.agg [encI b.at_, encI b.count])), (58, pI m)] [0, 1, 2] rfl rfl rfl rfl (s_callF rfl rfl rfl (w_burgagelaw7_same a b m (by first | omega | assumption | (simp; omega) | decide | (simp; done))) rfl ⟨rfl, rfl, rfl⟩) ?_
        refine d_op ?_
        refine x_run0 [(59, pB true)] [0, 1, 2, 3] rfl rfl rfl rfl (s_move rfl ⟨rfl, rfl, rfl⟩) ?_
        refine x_if [(60, pB true), (13, PV.ptr 4 0)] [0, 1, 2, 3, 4] rfl rfl rfl rfl (fun _ => ?_) (fun e => absurd e (by decide))
        refine x_run [(60, pB true), (13, PV.ptr 4 0)] [0, 1, 2, 3, 4] [(4, .obj [pN ((a.at_ % 2 ^ 5).toNat), pN ((a.count % 2 ^ 5).toNat)])] [] [(4, .obj [pN ((a.at_ % 2 ^ 5).toNat), pN ((a.count % 2 ^ 5).toNat)])] [] [(5, .obj [pN ((b.at_ % 2 ^ 5).toNat), pN ((b.count % 2 ^ 5).toNat)]), (4, .obj [pN ((a.at_ % 2 ^ 5).toNat), pN ((a.count % 2 ^ 5).toNat)]), (0, oB true 2 eSpan fs), (1, .obj [pI a.at_, pI a.count]), (2, .obj [pI b.at_, pI b.count]), (3, .obj [pI s.at_, pI s.count])] rfl rfl rfl rfl rfl rfl (s_load_ptr tab_53 rfl rfl rfl (Nat.le_of_ble_eq_true rfl) ⟨rfl, rfl, rfl⟩) rfl ⟨rfl, trivial⟩ rfl rfl ?_
        refine x_if [(60, pB true), (14, PV.ptr 5 0)] [0, 1, 2, 3, 4] rfl rfl rfl rfl (fun _ => ?_) (fun e => absurd e (by decide))
        refine x_run [(60, pB true), (14, PV.ptr 5 0)] [0, 1, 2, 3, 4] [(5, .obj [pN ((b.at_ % 2 ^ 5).toNat), pN ((b.count % 2 ^ 5).toNat)])] [] [(5, .obj [pN ((b.at_ % 2 ^ 5).toNat), pN ((b.count % 2 ^ 5).toNat)])] [] [(5, .obj [pN ((b.at_ % 2 ^ 5).toNat), pN ((b.count % 2 ^ 5).toNat)]), (4, .obj [pN ((a.at_ % 2 ^ 5).toNat), pN ((a.count % 2 ^ 5).toNat)]), (0, oB true 2 eSpan fs), (1, .obj [pI a.at_, pI a.count]), (2, .obj [pI b.at_, pI b.count]), (3, .obj [pI s.at_, pI s.count])] rfl rfl rfl rfl rfl rfl (s_load_ptr tab_53 rfl rfl rfl (Nat.le_of_ble_eq_true rfl) ⟨rfl, rfl, rfl⟩) rfl ⟨rfl, trivial⟩ rfl rfl ?_
        refine x_if [(60, pB true), (3, pI m)] [0, 1, 2, 3, 4] rfl rfl rfl rfl (fun _ => ?_) (fun e => absurd e (by decide))
        refine x_run0 [(60, pB true), (3, pI m)] [0, 1, 2, 3, 4] rfl rfl rfl rfl (s_move rfl ⟨rfl, rfl, rfl⟩) ?_
        refine x_if [(60, pB true), (63, pI m)] [0, 1, 2, 3, 4, 7] rfl rfl rfl rfl (fun _ => ?_) (fun e => absurd e (by decide))
        refine x_run0 [(60, pB true), (63, pI m)] [0, 1, 2, 3, 4, 7] rfl rfl rfl rfl (s_maskI 6 (by decide) rfl rfl (by decide) ⟨rfl, rfl, rfl⟩) ?_
        refine x_if [(60, pB true), (61, PV.f (.agg [encI (((a.at_ % 2 ^ 5).toNat : Nat) : Int), encI (((a.count % 2 ^ 5).toNat : Nat) : Int)])), (62, PV.f (.agg [encI (((b.at_ % 2 ^ 5).toNat : Nat) : Int), encI (((b.count % 2 ^ 5).toNat : Nat) : Int)])), (64, pN ((m % 2 ^ 6).toNat))] [0, 1, 2, 3, 4, 5, 6, 7, 8] rfl rfl rfl rfl (fun _ => ?_) (fun e => absurd e (by decide))
        refine x_run0 [(60, pB true), (61, PV.f (.agg [encI (((a.at_ % 2 ^ 5).toNat : Nat) : Int), encI (((a.count % 2 ^ 5).toNat : Nat) : Int)])), (62, PV.f (.agg [encI (((b.at_ % 2 ^ 5).toNat : Nat) : Int), encI (((b.count % 2 ^ 5).toNat : Nat) : Int)])), (64, pN ((m % 2 ^ 6).toNat))] [0, 1, 2, 3, 4, 5, 6, 7, 8] rfl rfl rfl rfl (s_callF rfl rfl rfl (w_burgagelaw7_same (⟨(((a.at_ % 2 ^ 5).toNat : Nat) : Int), (((a.count % 2 ^ 5).toNat : Nat) : Int)⟩ : TSpan) (⟨(((b.at_ % 2 ^ 5).toNat : Nat) : Int), (((b.count % 2 ^ 5).toNat : Nat) : Int)⟩ : TSpan) (((m % 2 ^ 6).toNat : Nat) : Int) (by first | omega | assumption | (simp; omega) | decide | (simp; done))) rfl ⟨rfl, rfl, rfl⟩) ?_
        refine d_op ?_
        refine x_run0 [(60, pB true), (65, pB true)] [0, 1, 2, 3, 4, 5, 6, 7, 8, 9] rfl rfl rfl rfl (s_pick_t rfl rfl rfl ⟨rfl, rfl, rfl⟩) ?_
        refine d_op ?_
        refine x_run0 [(66, pB true)] [0, 1, 2, 3, 4, 5, 6, 7, 8, 9, 10] rfl rfl rfl rfl (s_move rfl ⟨rfl, rfl, rfl⟩) ?_
        refine x_if [(67, pB true), (11, PV.ref 0 0 none)] [0, 1, 2, 3, 4, 5, 6, 7, 8, 9, 10, 11] rfl rfl rfl rfl (fun _ => ?_) (fun e => absurd e (by decide))
        refine x_run0 [(67, pB true), (11, PV.ref 0 0 none)] [0, 1, 2, 3, 4, 5, 6, 7, 8, 9, 10, 11] rfl rfl rfl rfl (s_move rfl ⟨rfl, rfl, rfl⟩) ?_
        refine x_if [(67, pB true), (7, PV.ptr 3 0)] [0, 1, 2, 3, 4, 5, 6, 7, 8, 9, 10, 11] rfl rfl rfl rfl (fun _ => ?_) (fun e => absurd e (by decide))
        refine x_run0 [(67, pB true), (7, PV.ptr 3 0)] [0, 1, 2, 3, 4, 5, 6, 7, 8, 9, 10, 11] rfl rfl rfl rfl (s_fa_ptr tab_53 rfl rfl tab_3 (by decide) rfl ⟨rfl, rfl, rfl⟩) ?_
        refine x_if [(67, pB true), (69, PV.ptr 3 0)] [0, 1, 2, 3, 4, 5, 6, 7, 8, 9, 10, 11, 13] rfl rfl rfl rfl (fun _ => ?_) (fun e => absurd e (by decide))
        refine x_run [(67, pB true), (69, PV.ptr 3 0)] [0, 1, 2, 3, 4, 5, 6, 7, 8, 9, 10, 11, 13] [(3, .obj [pI s.at_, pI s.count])] [] [(3, .obj [pI s.at_, pI s.count])] [] [(5, .obj [pN ((b.at_ % 2 ^ 5).toNat), pN ((b.count % 2 ^ 5).toNat)]), (4, .obj [pN ((a.at_ % 2 ^ 5).toNat), pN ((a.count % 2 ^ 5).toNat)]), (0, oB true 2 eSpan fs), (1, .obj [pI a.at_, pI a.count]), (2, .obj [pI b.at_, pI b.count]), (3, .obj [pI s.at_, pI s.count])] rfl rfl rfl rfl rfl rfl (s_load_ptr1 tab_3 rfl rfl rfl rfl rfl ⟨rfl, rfl, rfl⟩) rfl ⟨rfl, trivial⟩ rfl rfl ?_
        refine x_if [(67, pB true), (70, pI s.at_)] [0, 1, 2, 3, 4, 5, 6, 7, 8, 9, 10, 11, 13, 14] rfl rfl rfl rfl (fun _ => ?_) (fun e => absurd e (by decide))
        refine x_run0 [(67, pB true), (70, pI s.at_)] [0, 1, 2, 3, 4, 5, 6, 7, 8, 9, 10, 11, 13, 14] rfl rfl rfl rfl (s_maskI 5 (by decide) rfl rfl (by decide) ⟨rfl, rfl, rfl⟩) ?_
        refine x_if [(67, pB true), (7, PV.ptr 3 0)] [0, 1, 2, 3, 4, 5, 6, 7, 8, 9, 10, 11] rfl rfl rfl rfl (fun _ => ?_) (fun e => absurd e (by decide))
        refine x_run0 [(67, pB true), (7, PV.ptr 3 0)] [0, 1, 2, 3, 4, 5, 6, 7, 8, 9, 10, 11] rfl rfl rfl rfl (s_fa_ptr tab_53 rfl rfl tab_3 (by decide) rfl ⟨rfl, rfl, rfl⟩) ?_
        refine x_if [(67, pB true), (72, PV.ptr 3 1)] [0, 1, 2, 3, 4, 5, 6, 7, 8, 9, 10, 11, 16] rfl rfl rfl rfl (fun _ => ?_) (fun e => absurd e (by decide))
        refine x_run [(67, pB true), (72, PV.ptr 3 1)] [0, 1, 2, 3, 4, 5, 6, 7, 8, 9, 10, 11, 16] [(3, .obj [pI s.at_, pI s.count])] [] [(3, .obj [pI s.at_, pI s.count])] [] [(5, .obj [pN ((b.at_ % 2 ^ 5).toNat), pN ((b.count % 2 ^ 5).toNat)]), (4, .obj [pN ((a.at_ % 2 ^ 5).toNat), pN ((a.count % 2 ^ 5).toNat)]), (0, oB true 2 eSpan fs), (1, .obj [pI a.at_, pI a.count]), (2, .obj [pI b.at_, pI b.count]), (3, .obj [pI s.at_, pI s.count])] rfl rfl rfl rfl rfl rfl (s_load_ptr1 tab_3 rfl rfl rfl rfl rfl ⟨rfl, rfl, rfl⟩) rfl ⟨rfl, trivial⟩ rfl rfl ?_
        refine x_if [(67, pB true), (73, pI s.count)] [0, 1, 2, 3, 4, 5, 6, 7, 8, 9, 10, 11, 16, 17] rfl rfl rfl rfl (fun _ => ?_) (fun e => absurd e (by decide))
        refine x_run0 [(67, pB true), (73, pI s.count)] [0, 1, 2, 3, 4, 5, 6, 7, 8, 9, 10, 11, 16, 17] rfl rfl rfl rfl (s_maskI 5 (by decide) rfl rfl (by decide) ⟨rfl, rfl, rfl⟩) ?_
        refine x_if [(67, pB true), (74, pN ((s.count % 2 ^ 5).toNat))] [0, 1, 2, 3, 4, 5, 6, 7, 8, 9, 10, 11, 16, 17, 18] rfl rfl rfl rfl (fun _ => ?_) (fun e => absurd e (by decide))
        refine x_run0 [(67, pB true), (74, pN ((s.count % 2 ^ 5).toNat))] [0, 1, 2, 3, 4, 5, 6, 7, 8, 9, 10, 11, 16, 17, 18] rfl rfl rfl rfl (s_addN (a := 1) (b := (s.count % 2 ^ 5).toNat) rfl rfl (by omega) (by omega) (by omega) ⟨rfl, rfl, rfl⟩) ?_
        refine x_if [(67, pB true), (71, pN ((s.at_ % 2 ^ 5).toNat)), (75, pN (1 + ((s.count % 2 ^ 5).toNat)))] [0, 1, 2, 3, 4, 5, 6, 7, 8, 9, 10, 11, 13, 14, 15, 16, 17, 18, 19] rfl rfl rfl rfl (fun _ => ?_) (fun e => absurd e (by decide))
        refine x_run0 [(67, pB true), (71, pN ((s.at_ % 2 ^ 5).toNat)), (75, pN (1 + ((s.count % 2 ^ 5).toNat)))] [0, 1, 2, 3, 4, 5, 6, 7, 8, 9, 10, 11, 13, 14, 15, 16, 17, 18, 19] rfl rfl rfl rfl (s_build tab_53 rfl rfl (b_cons rfl tab_3 rfl rfl rfl (Nat.le_of_ble_eq_true rfl) (b_cons rfl tab_3 rfl rfl rfl (Nat.le_of_ble_eq_true rfl) (b_nil ⟨rfl, rfl, rfl⟩)))) ?_
        refine x_if [(67, pB true), (68, PV.ref 0 0 none), (76, PV.f (.agg [encI (((s.at_ % 2 ^ 5).toNat : Nat) : Int), encI ((1 + ((s.count % 2 ^ 5).toNat) : Nat) : Int)]))] [0, 1, 2, 3, 4, 5, 6, 7, 8, 9, 10, 11, 12, 13, 14, 15, 16, 17, 18, 19, 20] rfl rfl rfl rfl (fun _ => ?_) (fun e => absurd e (by decide))
        refine x_run [(67, pB true), (68, PV.ref 0 0 none), (76, PV.f (.agg [encI (((s.at_ % 2 ^ 5).toNat : Nat) : Int), encI ((1 + ((s.count % 2 ^ 5).toNat) : Nat) : Int)]))] [0, 1, 2, 3, 4, 5, 6, 7, 8, 9, 10, 11, 12, 13, 14, 15, 16, 17, 18, 19, 20] [] [(0, oB true 2 eSpan fs)] [(0, oB false 2 eSpan fs)] [(0, oB false 2 eSpan fs)] [(0, oB false 2 eSpan fs), (5, .obj [pN ((b.at_ % 2 ^ 5).toNat), pN ((b.count % 2 ^ 5).toNat)]), (4, .obj [pN ((a.at_ % 2 ^ 5).toNat), pN ((a.count % 2 ^ 5).toNat)]), (1, .obj [pI a.at_, pI a.count]), (2, .obj [pI b.at_, pI b.count]), (3, .obj [pI s.at_, pI s.count])] rfl rfl rfl rfl rfl rfl (s_callX (r2 := pB true) (nx1 := 6) (H2 := [(0, oB false 2 eSpan fs)]) (H3 := [(0, oB false 2 eSpan fs)]) [] [] rfl rfl rfl (handed_of (by decide) trivial) rfl rfl rfl rfl rfl rfl (w_burgagelaw7_covers fs false (⟨(((s.at_ % 2 ^ 5).toNat : Nat) : Int), ((1 + ((s.count % 2 ^ 5).toNat) : Nat) : Int)⟩ : TSpan) (by first | omega | assumption | (simp; omega) | decide | (simp; done))) rfl (dist_of rfl) rfl rfl rfl rfl ⟨rfl, rfl, rfl⟩) rfl trivial rfl rfl ?_
        refine d_op ?_
        refine x_run0 [(67, pB true), (77, pB true)] [0, 1, 2, 3, 4, 5, 6, 7, 8, 9, 10, 11, 12, 13, 14, 15, 16, 17, 18, 19, 20, 21] rfl rfl rfl rfl (s_pick_t rfl rfl rfl ⟨rfl, rfl, rfl⟩) ?_
        refine d_op ?_
        refine x_run0 [(78, pB true)] [0, 1, 2, 3, 4, 5, 6, 7, 8, 9, 10, 11, 12, 13, 14, 15, 16, 17, 18, 19, 20, 21, 22] rfl rfl rfl rfl (s_move rfl ⟨rfl, rfl, rfl⟩) ?_
        refine x_if [(79, pB true), (4, pS 2 cl_l eSpan l)] [0, 1, 2, 3, 4, 5, 6, 7, 8, 9, 10, 11, 12, 13, 14, 15, 16, 17, 18, 19, 20, 21, 22, 23] rfl rfl rfl rfl (fun _ => ?_) (fun e => absurd e (by decide))
        refine x_run0 [(79, pB true), (4, pS 2 cl_l eSpan l)] [0, 1, 2, 3, 4, 5, 6, 7, 8, 9, 10, 11, 12, 13, 14, 15, 16, 17, 18, 19, 20, 21, 22, 23] rfl rfl rfl rfl (s_move rfl ⟨rfl, rfl, rfl⟩) ?_
        refine x_if [(79, pB true), (4, pS 2 cl_l eSpan l)] [0, 1, 2, 3, 4, 5, 6, 7, 8, 9, 10, 11, 12, 13, 14, 15, 16, 17, 18, 19, 20, 21, 22, 23] rfl rfl rfl rfl (fun _ => ?_) (fun e => absurd e (by decide))
        refine x_run0 [(79, pB true), (4, pS 2 cl_l eSpan l)] [0, 1, 2, 3, 4, 5, 6, 7, 8, 9, 10, 11, 12, 13, 14, 15, 16, 17, 18, 19, 20, 21, 22, 23] rfl rfl rfl rfl (s_move rfl ⟨rfl, rfl, rfl⟩) ?_
        refine x_if [(79, pB true), (81, pS 2 cl_l eSpan l)] [0, 1, 2, 3, 4, 5, 6, 7, 8, 9, 10, 11, 12, 13, 14, 15, 16, 17, 18, 19, 20, 21, 22, 23, 25] rfl rfl rfl rfl (fun _ => ?_) (fun e => absurd e (by decide))
        refine x_run0 [(79, pB true), (81, pS 2 cl_l eSpan l)] [0, 1, 2, 3, 4, 5, 6, 7, 8, 9, 10, 11, 12, 13, 14, 15, 16, 17, 18, 19, 20, 21, 22, 23, 25] rfl rfl rfl rfl (s_lenM (l := l) tab_56 rfl (hM_sl (f := eSpan) rfl) ⟨rfl, rfl, rfl⟩) ?_
        refine x_if [(79, pB true), (82, pN l.length)] [0, 1, 2, 3, 4, 5, 6, 7, 8, 9, 10, 11, 12, 13, 14, 15, 16, 17, 18, 19, 20, 21, 22, 23, 25, 26] rfl rfl rfl rfl (fun _ => ?_) (fun e => absurd e (by decide))
        refine x_run0 [(79, pB true), (82, pN l.length)] [0, 1, 2, 3, 4, 5, 6, 7, 8, 9, 10, 11, 12, 13, 14, 15, 16, 17, 18, 19, 20, 21, 22, 23, 25, 26] rfl rfl rfl rfl (s_minN (a := l.length) (b := 20) rfl (by omega) (by omega) ⟨rfl, rfl, rfl⟩) ?_
        refine x_if [(79, pB true), (80, pS 2 cl_l eSpan l), (83, pN (min l.length 20))] [0, 1, 2, 3, 4, 5, 6, 7, 8, 9, 10, 11, 12, 13, 14, 15, 16, 17, 18, 19, 20, 21, 22, 23, 24, 25, 26, 27] rfl rfl rfl rfl (fun _ => ?_) (fun e => absurd e (by decide))
        refine x_run0 [(79, pB true), (80, pS 2 cl_l eSpan l), (83, pN (min l.length 20))] [0, 1, 2, 3, 4, 5, 6, 7, 8, 9, 10, 11, 12, 13, 14, 15, 16, 17, 18, 19, 20, 21, 22, 23, 24, 25, 26, 27] rfl rfl rfl rfl (s_cutM_hi (b := min l.length 20) (f := eSpan) (l := l) tab_56 rfl tab_53 ⟨rfl, by decide⟩ rfl (bound_some rfl (by omega)) (by omega) ⟨rfl, rfl, rfl⟩) ?_
        refine x_if [(79, pB true), (7, PV.ptr 3 0)] [0, 1, 2, 3, 4, 5, 6, 7, 8, 9, 10, 11, 12, 13, 14, 15, 16, 17, 18, 19, 20, 21, 22, 23] rfl rfl rfl rfl (fun _ => ?_) (fun e => absurd e (by decide))
        refine x_run [(79, pB true), (7, PV.ptr 3 0)] [0, 1, 2, 3, 4, 5, 6, 7, 8, 9, 10, 11, 12, 13, 14, 15, 16, 17, 18, 19, 20, 21, 22, 23] [(3, .obj [pI s.at_, pI s.count])] [] [(3, .obj [pI s.at_, pI s.count])] [] [(0, oB false 2 eSpan fs), (5, .obj [pN ((b.at_ % 2 ^ 5).toNat), pN ((b.count % 2 ^ 5).toNat)]), (4, .obj [pN ((a.at_ % 2 ^ 5).toNat), pN ((a.count % 2 ^ 5).toNat)]), (1, .obj [pI a.at_, pI a.count]), (2, .obj [pI b.at_, pI b.count]), (3, .obj [pI s.at_, pI s.count])] rfl rfl rfl rfl rfl rfl (s_load_ptr tab_53 rfl rfl rfl (Nat.le_of_ble_eq_true rfl) ⟨rfl, rfl, rfl⟩) rfl ⟨rfl, trivial⟩ rfl rfl ?_
        refine x_if [(79, pB true), (84, pS 2 false eSpan (l.take (min l.length 20))), (85, PV.f (.agg [encI s.at_, encI s.count]))] [0, 1, 2, 3, 4, 5, 6, 7, 8, 9, 10, 11, 12, 13, 14, 15, 16, 17, 18, 19, 20, 21, 22, 23, 24, 25, 26, 27, 28, 29] rfl rfl rfl rfl (fun _ => ?_) (fun e => absurd e (by decide))
        refine x_run0 [(79, pB true), (84, pS 2 false eSpan (l.take (min l.length 20))), (85, PV.f (.agg [encI s.at_, encI s.count]))] [0, 1, 2, 3, 4, 5, 6, 7, 8, 9, 10, 11, 12, 13, 14, 15, 16, 17, 18, 19, 20, 21, 22, 23, 24, 25, 26, 27, 28, 29] rfl rfl rfl rfl (s_callF rfl rfl rfl (w_burgagelaw7_covers (l.take (min l.length 20)) false s (by first | omega | assumption | (simp; omega) | decide | (simp; done))) rfl ⟨rfl, rfl, rfl⟩) ?_
        refine d_op ?_
        refine x_run0 [(79, pB true), (86, pB true)] [0, 1, 2, 3, 4, 5, 6, 7, 8, 9, 10, 11, 12, 13, 14, 15, 16, 17, 18, 19, 20, 21, 22, 23, 24, 25, 26, 27, 28, 29, 30] rfl rfl rfl rfl (s_pick_t rfl rfl rfl ⟨rfl, rfl, rfl⟩) ?_
        refine d_op ?_
        refine x_run0 [(87, pB true)] [0, 1, 2, 3, 4, 5, 6, 7, 8, 9, 10, 11, 12, 13, 14, 15, 16, 17, 18, 19, 20, 21, 22, 23, 24, 25, 26, 27, 28, 29, 30, 31] rfl rfl rfl rfl (s_move rfl ⟨rfl, rfl, rfl⟩) ?_
        refine x_if [(88, pB true), (11, PV.ref 0 0 none)] [0, 1, 2, 3, 4, 5, 6, 7, 8, 9, 10, 11, 12, 13, 14, 15, 16, 17, 18, 19, 20, 21, 22, 23, 24, 25, 26, 27, 28, 29, 30, 31, 32] rfl rfl rfl rfl (fun _ => ?_) (fun e => absurd e (by decide))
        refine x_run0 [(88, pB true), (11, PV.ref 0 0 none)] [0, 1, 2, 3, 4, 5, 6, 7, 8, 9, 10, 11, 12, 13, 14, 15, 16, 17, 18, 19, 20, 21, 22, 23, 24, 25, 26, 27, 28, 29, 30, 31, 32] rfl rfl rfl rfl (s_move rfl ⟨rfl, rfl, rfl⟩) ?_
        refine x_if [(88, pB true), (7, PV.ptr 3 0)] [0, 1, 2, 3, 4, 5, 6, 7, 8, 9, 10, 11, 12, 13, 14, 15, 16, 17, 18, 19, 20, 21, 22, 23, 24, 25, 26, 27, 28, 29, 30, 31, 32] rfl rfl rfl rfl (fun _ => ?_) (fun e => absurd e (by decide))
        refine x_run [(88, pB true), (7, PV.ptr 3 0)] [0, 1, 2, 3, 4, 5, 6, 7, 8, 9, 10, 11, 12, 13, 14, 15, 16, 17, 18, 19, 20, 21, 22, 23, 24, 25, 26, 27, 28, 29, 30, 31, 32] [(3, .obj [pI s.at_, pI s.count])] [] [(3, .obj [pI s.at_, pI s.count])] [] [(0, oB false 2 eSpan fs), (5, .obj [pN ((b.at_ % 2 ^ 5).toNat), pN ((b.count % 2 ^ 5).toNat)]), (4, .obj [pN ((a.at_ % 2 ^ 5).toNat), pN ((a.count % 2 ^ 5).toNat)]), (1, .obj [pI a.at_, pI a.count]), (2, .obj [pI b.at_, pI b.count]), (3, .obj [pI s.at_, pI s.count])] rfl rfl rfl rfl rfl rfl (s_load_ptr tab_53 rfl rfl rfl (Nat.le_of_ble_eq_true rfl) ⟨rfl, rfl, rfl⟩) rfl ⟨rfl, trivial⟩ rfl rfl ?_
        refine x_if [(88, pB true), (89, PV.ref 0 0 none), (90, PV.f (.agg [encI s.at_, encI s.count]))] [0, 1, 2, 3, 4, 5, 6, 7, 8, 9, 10, 11, 12, 13, 14, 15, 16, 17, 18, 19, 20, 21, 22, 23, 24, 25, 26, 27, 28, 29, 30, 31, 32, 33, 34] rfl rfl rfl rfl (fun _ => ?_) (fun e => absurd e (by decide))
        refine x_run [(88, pB true), (89, PV.ref 0 0 none), (90, PV.f (.agg [encI s.at_, encI s.count]))] [0, 1, 2, 3, 4, 5, 6, 7, 8, 9, 10, 11, 12, 13, 14, 15, 16, 17, 18, 19, 20, 21, 22, 23, 24, 25, 26, 27, 28, 29, 30, 31, 32, 33, 34] [] [(0, oB false 2 eSpan fs)] [(0, oB false 2 eSpan fs)] [(0, oB false 2 eSpan fs)] [(0, oB false 2 eSpan fs), (5, .obj [pN ((b.at_ % 2 ^ 5).toNat), pN ((b.count % 2 ^ 5).toNat)]), (4, .obj [pN ((a.at_ % 2 ^ 5).toNat), pN ((a.count % 2 ^ 5).toNat)]), (1, .obj [pI a.at_, pI a.count]), (2, .obj [pI b.at_, pI b.count]), (3, .obj [pI s.at_, pI s.count])] rfl rfl rfl rfl rfl rfl (s_callX (r2 := pB true) (nx1 := 6) (H2 := [(0, oB false 2 eSpan fs)]) (H3 := [(0, oB false 2 eSpan fs)]) [] [] rfl rfl rfl (handed_of (by decide) trivial) rfl rfl rfl rfl rfl rfl (w_burgagelaw7_covers fs false s (by first | omega | assumption | (simp; omega) | decide | (simp; done))) rfl (dist_of rfl) rfl rfl rfl rfl ⟨rfl, rfl, rfl⟩) rfl trivial rfl rfl ?_
        refine d_op ?_
        refine x_run0 [(88, pB true), (91, pB true)] [0, 1, 2, 3, 4, 5, 6, 7, 8, 9, 10, 11, 12, 13, 14, 15, 16, 17, 18, 19, 20, 21, 22, 23, 24, 25, 26, 27, 28, 29, 30, 31, 32, 33, 34, 35] rfl rfl rfl rfl (s_pick_t rfl rfl rfl ⟨rfl, rfl, rfl⟩) ?_
        refine d_op ?_
        refine x_run0 [(92, pB true)] [0, 1, 2, 3, 4, 5, 6, 7, 8, 9, 10, 11, 12, 13, 14, 15, 16, 17, 18, 19, 20, 21, 22, 23, 24, 25, 26, 27, 28, 29, 30, 31, 32, 33, 34, 35, 36] rfl rfl rfl rfl (s_move rfl ⟨rfl, rfl, rfl⟩) ?_
        refine x_if [(93, pB true)] [0, 1, 2, 3, 4, 5, 6, 7, 8, 9, 10, 11, 12, 13, 14, 15, 16, 17, 18, 19, 20, 21, 22, 23, 24, 25, 26, 27, 28, 29, 30, 31, 32, 33, 34, 35, 36, 37] rfl rfl rfl rfl (fun _ => ?_) (fun e => absurd e (by decide))
        refine x_run0 [(93, pB true)] [0, 1, 2, 3, 4, 5, 6, 7, 8, 9, 10, 11, 12, 13, 14, 15, 16, 17, 18, 19, 20, 21, 22, 23, 24, 25, 26, 27, 28, 29, 30, 31, 32, 33, 34, 35, 36, 37] rfl rfl rfl rfl (s_callF rfl rfl rfl (w_burgagelaw7_known) rfl ⟨rfl, rfl, rfl⟩) ?_
        refine d_op ?_
        refine x_run0 [(93, pB true), (94, pB true)] [0, 1, 2, 3, 4, 5, 6, 7, 8, 9, 10, 11, 12, 13, 14, 15, 16, 17, 18, 19, 20, 21, 22, 23, 24, 25, 26, 27, 28, 29, 30, 31, 32, 33, 34, 35, 36, 37, 38] rfl rfl rfl rfl (s_pick_t rfl rfl rfl ⟨rfl, rfl, rfl⟩) ?_
        refine d_op ?_
        refine x_run0 [(95, pB true)] [0, 1, 2, 3, 4, 5, 6, 7, 8, 9, 10, 11, 12, 13, 14, 15, 16, 17, 18, 19, 20, 21, 22, 23, 24, 25, 26, 27, 28, 29, 30, 31, 32, 33, 34, 35, 36, 37, 38, 39] rfl rfl rfl rfl (s_assign rfl ⟨rfl, rfl, rfl⟩) ?_
        refine d_end ⟨by kernel_rfl, ?_⟩
        refine q_then ?_
        refine w_ret ?_
        exact fin_plain (ret_tmp rfl ret_nil) rfl rfl ⟨rfl, rfl, rfl⟩
    ·
      have g1' := g1
      try simp only [decide_eq_true_eq, decide_eq_false_iff_not, Bool.not_eq_true', Bool.not_eq_false', Bool.not_true, Bool.not_false, Bool.not_eq_eq_eq_not, Int.not_lt, Int.not_le] at g1'
      refine r_if tabOk hnt rfl rfl rfl (fun e => absurd (e.symm.trans g1) (by decide)) (fun _ => ?_)
      refine r_op tabOk hnt rfl (s_pick_f rfl g1 rfl ?_) 
      refine r_end ?_
      refine q_then ?_
      refine w_if rfl (fun e => absurd e (by decide)) (fun _ => ?_)
      refine w_exit ?_
      refine q_then_exit ?_
      refine q_then_exit ?_
      refine q_block_exit ?_
      refine q_then ?_
      refine w_seq ?_
      refine W_drawn tabOk mixed hnt [[], [0], [0, 1], [], [3], [3, 4], [0, 1, 2, 3, 4, 5], [], [7], [7, 8], [], [10], [10, 11], [7, 8, 9, 10, 11, 12], [], [], [0, 1, 2, 3, 4, 5, 6, 14, 15], [0, 1, 2, 3, 4, 5, 6, 7, 8, 9, 10, 11, 12, 13, 14, 15, 16]] (by kernel_rfl) ?_
      refine d_op ?_
      refine x_run0 [(5, PV.ptr 1 0)] [] rfl rfl rfl rfl (s_fa_ptr tab_53 rfl rfl tab_3 (by decide) rfl ⟨rfl, rfl, rfl⟩) ?_
      refine d_op ?_
      refine x_run [(42, PV.ptr 1 0)] [0] [(1, .obj [pI a.at_, pI a.count])] [] [(1, .obj [pI a.at_, pI a.count])] [] [(0, oB true 2 eSpan fs), (1, .obj [pI a.at_, pI a.count]), (2, .obj [pI b.at_, pI b.count]), (3, .obj [pI s.at_, pI s.count])] rfl rfl rfl rfl rfl rfl (s_load_ptr1 tab_3 rfl rfl rfl rfl rfl ⟨rfl, rfl, rfl⟩) rfl ⟨rfl, trivial⟩ rfl rfl ?_
      refine d_op ?_
      refine x_run0 [(43, pI a.at_)] [0, 1] rfl rfl rfl rfl (s_maskI 5 (by decide) rfl rfl (by decide) ⟨rfl, rfl, rfl⟩) ?_
      refine d_op ?_
      refine x_run0 [(5, PV.ptr 1 0)] [] rfl rfl rfl rfl (s_fa_ptr tab_53 rfl rfl tab_3 (by decide) rfl ⟨rfl, rfl, rfl⟩) ?_
      refine d_op ?_
      refine x_run [(45, PV.ptr 1 1)] [3] [(1, .obj [pI a.at_, pI a.count])] [] [(1, .obj [pI a.at_, pI a.count])] [] [(0, oB true 2 eSpan fs), (1, .obj [pI a.at_, pI a.count]), (2, .obj [pI b.at_, pI b.count]), (3, .obj [pI s.at_, pI s.count])] rfl rfl rfl rfl rfl rfl (s_load_ptr1 tab_3 rfl rfl rfl rfl rfl ⟨rfl, rfl, rfl⟩) rfl ⟨rfl, trivial⟩ rfl rfl ?_
      refine d_op ?_
      refine x_run0 [(46, pI a.count)] [3, 4] rfl rfl rfl rfl (s_maskI 5 (by decide) rfl rfl (by decide) ⟨rfl, rfl, rfl⟩) ?_
      refine d_op ?_
      refine x_run0 [(44, pN ((a.at_ % 2 ^ 5).toNat)), (47, pN ((a.count % 2 ^ 5).toNat))] [0, 1, 2, 3, 4, 5] rfl rfl rfl rfl (s_build tab_53 rfl rfl (b_cons rfl tab_3 rfl rfl rfl (Nat.le_of_ble_eq_true rfl) (b_cons rfl tab_3 rfl rfl rfl (Nat.le_of_ble_eq_true rfl) (b_nil ⟨rfl, rfl, rfl⟩)))) ?_
      refine d_op ?_
      refine x_run0 [(6, PV.ptr 2 0)] [] rfl rfl rfl rfl (s_fa_ptr tab_53 rfl rfl tab_3 (by decide) rfl ⟨rfl, rfl, rfl⟩) ?_
      refine d_op ?_
      refine x_run [(49, PV.ptr 2 0)] [7] [(2, .obj [pI b.at_, pI b.count])] [] [(2, .obj [pI b.at_, pI b.count])] [] [(0, oB true 2 eSpan fs), (1, .obj [pI a.at_, pI a.count]), (2, .obj [pI b.at_, pI b.count]), (3, .obj [pI s.at_, pI s.count])] rfl rfl rfl rfl rfl rfl (s_load_ptr1 tab_3 rfl rfl rfl rfl rfl ⟨rfl, rfl, rfl⟩) rfl ⟨rfl, trivial⟩ rfl rfl ?_
      refine d_op ?_
      refine x_run0 [(50, pI b.at_)] [7, 8] rfl rfl rfl rfl (s_maskI 5 (by decide) rfl rfl (by decide) ⟨rfl, rfl, rfl⟩) ?_
      refine d_op ?_
      refine x_run0 [(6, PV.ptr 2 0)] [] rfl rfl rfl rfl (s_fa_ptr tab_53 rfl rfl tab_3 (by decide) rfl ⟨rfl, rfl, rfl⟩) ?_
      refine d_op ?_
      refine x_run [(52, PV.ptr 2 1)] [10] [(2, .obj [pI b.at_, pI b.count])] [] [(2, .obj [pI b.at_, pI b.count])] [] [(0, oB true 2 eSpan fs), (1, .obj [pI a.at_, pI a.count]), (2, .obj [pI b.at_, pI b.count]), (3, .obj [pI s.at_, pI s.count])] rfl rfl rfl rfl rfl rfl (s_load_ptr1 tab_3 rfl rfl rfl rfl rfl ⟨rfl, rfl, rfl⟩) rfl ⟨rfl, trivial⟩ rfl rfl ?_
      refine d_op ?_
      refine x_run0 [(53, pI b.count)] [10, 11] rfl rfl rfl rfl (s_maskI 5 (by decide) rfl rfl (by decide) ⟨rfl, rfl, rfl⟩) ?_
      refine d_op ?_
      refine x_run0 [(51, pN ((b.at_ % 2 ^ 5).toNat)), (54, pN ((b.count % 2 ^ 5).toNat))] [7, 8, 9, 10, 11, 12] rfl rfl rfl rfl (s_build tab_53 rfl rfl (b_cons rfl tab_3 rfl rfl rfl (Nat.le_of_ble_eq_true rfl) (b_cons rfl tab_3 rfl rfl rfl (Nat.le_of_ble_eq_true rfl) (b_nil ⟨rfl, rfl, rfl⟩)))) ?_
      refine d_op ?_
      refine x_run [] [] [] [] [(4, .obj [pI 0, pI 0])] [(4, .obj [pI 0, pI 0])] [(4, .obj [pI 0, pI 0]), (0, oB true 2 eSpan fs), (1, .obj [pI a.at_, pI a.count]), (2, .obj [pI b.at_, pI b.count]), (3, .obj [pI s.at_, pI s.count])] rfl rfl rfl rfl rfl rfl (s_alloc tab_53 ⟨rfl, rfl, rfl⟩) rfl trivial rfl rfl ?_
      refine d_op ?_
      refine x_run [] [] [] [] [(5, .obj [pI 0, pI 0])] [(5, .obj [pI 0, pI 0])] [(5, .obj [pI 0, pI 0]), (4, .obj [pI 0, pI 0]), (0, oB true 2 eSpan fs), (1, .obj [pI a.at_, pI a.count]), (2, .obj [pI b.at_, pI b.count]), (3, .obj [pI s.at_, pI s.count])] rfl rfl rfl rfl rfl rfl (s_alloc tab_53 ⟨rfl, rfl, rfl⟩) rfl trivial rfl rfl ?_
      refine d_op ?_
      refine x_run [(13, PV.ptr 4 0), (48, PV.f (.agg [encI (((a.at_ % 2 ^ 5).toNat : Nat) : Int), encI (((a.count % 2 ^ 5).toNat : Nat) : Int)]))] [0, 1, 2, 3, 4, 5, 6, 14, 15] [] [(4, .obj [pI 0, pI 0])] [(4, .obj [pN ((a.at_ % 2 ^ 5).toNat), pN ((a.count % 2 ^ 5).toNat)])] [(4, .obj [pN ((a.at_ % 2 ^ 5).toNat), pN ((a.count % 2 ^ 5).toNat)])] [(4, .obj [pN ((a.at_ % 2 ^ 5).toNat), pN ((a.count % 2 ^ 5).toNat)]), (5, .obj [pI 0, pI 0]), (0, oB true 2 eSpan fs), (1, .obj [pI a.at_, pI a.count]), (2, .obj [pI b.at_, pI b.count]), (3, .obj [pI s.at_, pI s.count])] rfl rfl rfl rfl rfl rfl (s_store_ptr tab_53 rfl rfl rfl rfl rfl (Nat.le_of_ble_eq_true rfl) ⟨rfl, rfl, rfl⟩) rfl trivial rfl rfl ?_
      refine d_op ?_
      refine x_run [(14, PV.ptr 5 0), (55, PV.f (.agg [encI (((b.at_ % 2 ^ 5).toNat : Nat) : Int), encI (((b.count % 2 ^ 5).toNat : Nat) : Int)]))] [0, 1, 2, 3, 4, 5, 6, 7, 8, 9, 10, 11, 12, 13, 14, 15, 16] [] [(5, .obj [pI 0, pI 0])] [(5, .obj [pN ((b.at_ % 2 ^ 5).toNat), pN ((b.count % 2 ^ 5).toNat)])] [(5, .obj [pN ((b.at_ % 2 ^ 5).toNat), pN ((b.count % 2 ^ 5).toNat)])] [(5, .obj [pN ((b.at_ % 2 ^ 5).toNat), pN ((b.count % 2 ^ 5).toNat)]), (4, .obj [pN ((a.at_ % 2 ^ 5).toNat), pN ((a.count % 2 ^ 5).toNat)]), (0, oB true 2 eSpan fs), (1, .obj [pI a.at_, pI a.count]), (2, .obj [pI b.at_, pI b.count]), (3, .obj [pI s.at_, pI s.count])] rfl rfl rfl rfl rfl rfl (s_store_ptr tab_53 rfl rfl rfl rfl rfl (Nat.le_of_ble_eq_true rfl) ⟨rfl, rfl, rfl⟩) rfl trivial rfl rfl ?_
      refine d_end ⟨by kernel_rfl, ?_⟩
      refine q_then ?_
      refine w_seq ?_
      refine W_drawn tabOk mixed hnt [[], [], [], [0, 1, 2], [0, 1, 2, 3], [0, 1, 2, 3, 4], [0, 1, 2, 3, 4], [0, 1, 2, 3, 4], [0, 1, 2, 3, 4, 7], [0, 1, 2, 3, 4, 5, 6, 7, 8], [0, 1, 2, 3, 4, 5, 6, 7, 8, 9], [0, 1, 2, 3, 4, 5, 6, 7, 8, 9, 10], [0, 1, 2, 3, 4, 5, 6, 7, 8, 9, 10, 11], [0, 1, 2, 3, 4, 5, 6, 7, 8, 9, 10, 11], [0, 1, 2, 3, 4, 5, 6, 7, 8, 9, 10, 11, 13], [0, 1, 2, 3, 4, 5, 6, 7, 8, 9, 10, 11, 13, 14], [0, 1, 2, 3, 4, 5, 6, 7, 8, 9, 10, 11], [0, 1, 2, 3, 4, 5, 6, 7, 8, 9, 10, 11, 16], [0, 1, 2, 3, 4, 5, 6, 7, 8, 9, 10, 11, 16, 17], [0, 1, 2, 3, 4, 5, 6, 7, 8, 9, 10, 11, 16, 17, 18], [0, 1, 2, 3, 4, 5, 6, 7, 8, 9, 10, 11, 13, 14, 15, 16, 17, 18, 19], [0, 1, 2, 3, 4, 5, 6, 7, 8, 9, 10, 11, 12, 13, 14, 15, 16, 17, 18, 19, 20], [0, 1, 2, 3, 4, 5, 6, 7, 8, 9, 10, 11, 12, 13, 14, 15, 16, 17, 18, 19, 20, 21], [0, 1, 2, 3, 4, 5, 6, 7, 8, 9, 10, 11, 12, 13, 14, 15, 16, 17, 18, 19, 20, 21, 22], [0, 1, 2, 3, 4, 5, 6, 7, 8, 9, 10, 11, 12, 13, 14, 15, 16, 17, 18, 19, 20, 21, 22, 23], [0, 1, 2, 3, 4, 5, 6, 7, 8, 9, 10, 11, 12, 13, 14, 15, 16, 17, 18, 19, 20, 21, 22, 23], [0, 1, 2, 3, 4, 5, 6, 7, 8, 9, 10, 11, 12, 13, 14, 15, 16, 17, 18, 19, 20, 21, 22, 23, 25], [0, 1, 2, 3, 4, 5, 6, 7, 8, 9, 10, 11, 12, 13, 14, 15, 16, 17, 18, 19, 20, 21, 22, 23, 25, 26], [0, 1, 2, 3, 4, 5, 6, 7, 8, 9, 10, 11, 12, 13, 14, 15, 16, 17, 18, 19, 20, 21, 22, 23, 24, 25, 26, 27], [0, 1, 2, 3, 4, 5, 6, 7, 8, 9, 10, 11, 12, 13, 14, 15, 16, 17, 18, 19, 20, 21, 22, 23], [0, 1, 2, 3, 4, 5, 6, 7, 8, 9, 10, 11, 12, 13, 14, 15, 16, 17, 18, 19, 20, 21, 22, 23, 24, 25, 26, 27, 28, 29], [0, 1, 2, 3, 4, 5, 6, 7, 8, 9, 10, 11, 12, 13, 14, 15, 16, 17, 18, 19, 20, 21, 22, 23, 24, 25, 26, 27, 28, 29, 30], [0, 1, 2, 3, 4, 5, 6, 7, 8, 9, 10, 11, 12, 13, 14, 15, 16, 17, 18, 19, 20, 21, 22, 23, 24, 25, 26, 27, 28, 29, 30, 31], [0, 1, 2, 3, 4, 5, 6, 7, 8, 9, 10, 11, 12, 13, 14, 15, 16, 17, 18, 19, 20, 21, 22, 23, 24, 25, 26, 27, 28, 29, 30, 31, 32], [0, 1, 2, 3, 4, 5, 6, 7, 8, 9, 10, 11, 12, 13, 14, 15, 16, 17, 18, 19, 20, 21, 22, 23, 24, 25, 26, 27, 28, 29, 30, 31, 32], [0, 1, 2, 3, 4, 5, 6, 7, 8, 9, 10, 11, 12, 13, 14, 15, 16, 17, 18, 19, 20, 21, 22, 23, 24, 25, 26, 27, 28, 29, 30, 31, 32, 33, 34], [0, 1, 2, 3, 4, 5, 6, 7, 8, 9, 10, 11, 12, 13, 14, 15, 16, 17, 18, 19, 20, 21, 22, 23, 24, 25, 26, 27, 28, 29, 30, 31, 32, 33, 34, 35], [0, 1, 2, 3, 4, 5, 6, 7, 8, 9, 10, 11, 12, 13, 14, 15, 16, 17, 18, 19, 20, 21, 22, 23, 24, 25, 26, 27, 28, 29, 30, 31, 32, 33, 34, 35, 36], [0, 1, 2, 3, 4, 5, 6, 7, 8, 9, 10, 11, 12, 13, 14, 15, 16, 17, 18, 19, 20, 21, 22, 23, 24, 25, 26, 27, 28, 29, 30, 31, 32, 33, 34, 35, 36, 37], [0, 1, 2, 3, 4, 5, 6, 7, 8, 9, 10, 11, 12, 13, 14, 15, 16, 17, 18, 19, 20, 21, 22, 23, 24, 25, 26, 27, 28, 29, 30, 31, 32, 33, 34, 35, 36, 37, 38], [0, 1, 2, 3, 4, 5, 6, 7, 8, 9, 10, 11, 12, 13, 14, 15, 16, 17, 18, 19, 20, 21, 22, 23, 24, 25, 26, 27, 28, 29, 30, 31, 32, 33, 34, 35, 36, 37, 38, 39]] (by kernel_rfl) ?_
      refine d_op ?_
      refine x_run [(5, PV.ptr 1 0)] [] [(1, .obj [pI a.at_, pI a.count])] [] [(1, .obj [pI a.at_, pI a.count])] [] [(5, .obj [pN ((b.at_ % 2 ^ 5).toNat), pN ((b.count % 2 ^ 5).toNat)]), (4, .obj [pN ((a.at_ % 2 ^ 5).toNat), pN ((a.count % 2 ^ 5).toNat)]), (0, oB true 2 eSpan fs), (1, .obj [pI a.at_, pI a.count]), (2, .obj [pI b.at_, pI b.count]), (3, .obj [pI s.at_, pI s.count])] rfl rfl rfl rfl rfl rfl (s_load_ptr tab_53 rfl rfl rfl (Nat.le_of_ble_eq_true rfl) ⟨rfl, rfl, rfl⟩) rfl ⟨rfl, trivial⟩ rfl rfl ?_
      refine d_op ?_
      refine x_run [(6, PV.ptr 2 0)] [] [(2, .obj [pI b.at_, pI b.count])] [] [(2, .obj [pI b.at_, pI b.count])] [] [(5, .obj [pN ((b.at_ % 2 ^ 5).toNat), pN ((b.count % 2 ^ 5).toNat)]), (4, .obj [pN ((a.at_ % 2 ^ 5).toNat), pN ((a.count % 2 ^ 5).toNat)]), (0, oB true 2 eSpan fs), (1, .obj [pI a.at_, pI a.count]), (2, .obj [pI b.at_, pI b.count]), (3, .obj [pI s.at_, pI s.count])] rfl rfl rfl rfl rfl rfl (s_load_ptr tab_53 rfl rfl rfl (Nat.le_of_ble_eq_true rfl) ⟨rfl, rfl, rfl⟩) rfl ⟨rfl, trivial⟩ rfl rfl ?_
      refine d_op ?_
      refine x_run0 [(3, pI m)] [] rfl rfl rfl rfl (s_move rfl ⟨rfl, rfl, rfl⟩) ?_
      refine d_op ?_
      refine x_run0 [(56, PV.f (.agg [encI a.at_, encI a.count])), (57, PV.f (.agg [encI b.at_, encI b.count])), (58, pI m)] [0, 1, 2] rfl rfl rfl rfl (s_callF rfl rfl rfl (w_burgagelaw7_same a b m (by first | omega | assumption | (simp; omega) | decide | (simp; done))) rfl ⟨rfl, rfl, rfl⟩) ?_
      refine d_op ?_
      refine x_run0 [(59, pB true)] [0, 1, 2, 3] rfl rfl rfl rfl (s_move rfl ⟨rfl, rfl, rfl⟩) ?_
      refine x_if [(60, pB true), (13, PV.ptr 4 0)] [0, 1, 2, 3, 4] rfl rfl rfl rfl (fun _ => ?_) (fun e => absurd e (by decide))
      refine x_run [(60, pB true), (13, PV.ptr 4 0)] [0, 1, 2, 3, 4] [(4, .obj [pN ((a.at_ % 2 ^ 5).toNat), pN ((a.count % 2 ^ 5).toNat)])] [] [(4, .obj [pN ((a.at_ % 2 ^ 5).toNat), pN ((a.count % 2 ^ 5).toNat)])] [] [(5, .obj [pN ((b.at_ % 2 ^ 5).toNat), pN ((b.count % 2 ^ 5).toNat)]), (4, .obj [pN ((a.at_ % 2 ^ 5).toNat), pN ((a.count % 2 ^ 5).toNat)]), (0, oB true 2 eSpan fs), (1, .obj [pI a.at_, pI a.count]), (2, .obj [pI b.at_, pI b.count]), (3, .obj [pI s.at_, pI s.count])] rfl rfl rfl rfl rfl rfl (s_load_ptr tab_53 rfl rfl rfl (Nat.le_of_ble_eq_true rfl) ⟨rfl, rfl, rfl⟩) rfl ⟨rfl, trivial⟩ rfl rfl ?_
      refine x_if [(60, pB true), (14, PV.ptr 5 0)] [0, 1, 2, 3, 4] rfl rfl rfl rfl (fun _ => ?_) (fun e => absurd e (by decide))
      refine x_run [(60, pB true), (14, PV.ptr 5 0)] [0, 1, 2, 3, 4] [(5, .obj [pN ((b.at_ % 2 ^ 5).toNat), pN ((b.count % 2 ^ 5).toNat)])] [] [(5, .obj [pN ((b.at_ % 2 ^ 5).toNat), pN ((b.count % 2 ^ 5).toNat)])] [] [(5, .obj [pN ((b.at_ % 2 ^ 5).toNat), pN ((b.count % 2 ^ 5).toNat)]), (4, .obj [pN ((a.at_ % 2 ^ 5).toNat), pN ((a.count % 2 ^ 5).toNat)]), (0, oB true 2 eSpan fs), (1, .obj [pI a.at_, pI a.count]), (2, .obj [pI b.at_, pI b.count]), (3, .obj [pI s.at_, pI s.count])] rfl rfl rfl rfl rfl rfl (s_load_ptr tab_53 rfl rfl rfl (Nat.le_of_ble_eq_true rfl) ⟨rfl, rfl, rfl⟩) rfl ⟨rfl, trivial⟩ rfl rfl ?_
      refine x_if [(60, pB true), (3, pI m)] [0, 1, 2, 3, 4] rfl rfl rfl rfl (fun _ => ?_) (fun e => absurd e (by decide))
      refine x_run0 [(60, pB true), (3, pI m)] [0, 1, 2, 3, 4] rfl rfl rfl rfl (s_move rfl ⟨rfl, rfl, rfl⟩) ?_
      refine x_if [(60, pB true), (63, pI m)] [0, 1, 2, 3, 4, 7] rfl rfl rfl rfl (fun _ => ?_) (fun e => absurd e (by decide))
      refine x_run0 [(60, pB true), (63, pI m)] [0, 1, 2, 3, 4, 7] rfl rfl rfl rfl (s_maskI 6 (by decide) rfl rfl (by decide) ⟨rfl, rfl, rfl⟩) ?_
      refine x_if [(60, pB true), (61, PV.f (.agg [encI (((a.at_ % 2 ^ 5).toNat : Nat) : Int), encI (((a.count % 2 ^ 5).toNat : Nat) : Int)])), (62, PV.f (.agg [encI (((b.at_ % 2 ^ 5).toNat : Nat) : Int), encI (((b.count % 2 ^ 5).toNat : Nat) : Int)])), (64, pN ((m % 2 ^ 6).toNat))] [0, 1, 2, 3, 4, 5, 6, 7, 8] rfl rfl rfl rfl (fun _ => ?_) (fun e => absurd e (by decide))
      refine x_run0 [(60, pB true), (61, PV.f (.agg [encI (((a.at_ % 2 ^ 5).toNat : Nat) : Int), encI (((a.count % 2 ^ 5).toNat : Nat) : Int)])), (62, PV.f (.agg [encI (((b.at_ % 2 ^ 5).toNat : Nat) : Int), encI (((b.count % 2 ^ 5).toNat : Nat) : Int)])), (64, pN ((m % 2 ^ 6).toNat))] [0, 1, 2, 3, 4, 5, 6, 7, 8] rfl rfl rfl rfl (s_callF rfl rfl rfl (w_burgagelaw7_same (⟨(((a.at_ % 2 ^ 5).toNat : Nat) : Int), (((a.count % 2 ^ 5).toNat : Nat) : Int)⟩ : TSpan) (⟨(((b.at_ % 2 ^ 5).toNat : Nat) : Int), (((b.count % 2 ^ 5).toNat : Nat) : Int)⟩ : TSpan) (((m % 2 ^ 6).toNat : Nat) : Int) (by first | omega | assumption | (simp; omega) | decide | (simp; done))) rfl ⟨rfl, rfl, rfl⟩) ?_
      refine d_op ?_
      refine x_run0 [(60, pB true), (65, pB true)] [0, 1, 2, 3, 4, 5, 6, 7, 8, 9] rfl rfl rfl rfl (s_pick_t rfl rfl rfl ⟨rfl, rfl, rfl⟩) ?_
      refine d_op ?_
      refine x_run0 [(66, pB true)] [0, 1, 2, 3, 4, 5, 6, 7, 8, 9, 10] rfl rfl rfl rfl (s_move rfl ⟨rfl, rfl, rfl⟩) ?_
      refine x_if [(67, pB true), (11, PV.ref 0 0 none)] [0, 1, 2, 3, 4, 5, 6, 7, 8, 9, 10, 11] rfl rfl rfl rfl (fun _ => ?_) (fun e => absurd e (by decide))
      refine x_run0 [(67, pB true), (11, PV.ref 0 0 none)] [0, 1, 2, 3, 4, 5, 6, 7, 8, 9, 10, 11] rfl rfl rfl rfl (s_move rfl ⟨rfl, rfl, rfl⟩) ?_
      refine x_if [(67, pB true), (7, PV.ptr 3 0)] [0, 1, 2, 3, 4, 5, 6, 7, 8, 9, 10, 11] rfl rfl rfl rfl (fun _ => ?_) (fun e => absurd e (by decide))
      refine x_run0 [(67, pB true), (7, PV.ptr 3 0)] [0, 1, 2, 3, 4, 5, 6, 7, 8, 9, 10, 11] rfl rfl rfl rfl (s_fa_ptr tab_53 rfl rfl tab_3 (by decide) rfl ⟨rfl, rfl, rfl⟩) ?_
      refine x_if [(67, pB true), (69, PV.ptr 3 0)] [0, 1, 2, 3, 4, 5, 6, 7, 8, 9, 10, 11, 13] rfl rfl rfl rfl (fun _ => ?_) (fun e => absurd e (by decide))
      refine x_run [(67, pB true), (69, PV.ptr 3 0)] [0, 1, 2, 3, 4, 5, 6, 7, 8, 9, 10, 11, 13] [(3, .obj [pI s.at_, pI s.count])] [] [(3, .obj [pI s.at_, pI s.count])] [] [(5, .obj [pN ((b.at_ % 2 ^ 5).toNat), pN ((b.count % 2 ^ 5).toNat)]), (4, .obj [pN ((a.at_ % 2 ^ 5).toNat), pN ((a.count % 2 ^ 5).toNat)]), (0, oB true 2 eSpan fs), (1, .obj [pI a.at_, pI a.count]), (2, .obj [pI b.at_, pI b.count]), (3, .obj [pI s.at_, pI s.count])] rfl rfl rfl rfl rfl rfl (s_load_ptr1 tab_3 rfl rfl rfl rfl rfl ⟨rfl, rfl, rfl⟩) rfl ⟨rfl, trivial⟩ rfl rfl ?_
      refine x_if [(67, pB true), (70, pI s.at_)] [0, 1, 2, 3, 4, 5, 6, 7, 8, 9, 10, 11, 13, 14] rfl rfl rfl rfl (fun _ => ?_) (fun e => absurd e (by decide))
      refine x_run0 [(67, pB true), (70, pI s.at_)] [0, 1, 2, 3, 4, 5, 6, 7, 8, 9, 10, 11, 13, 14] rfl rfl rfl rfl (s_maskI 5 (by decide) rfl rfl (by decide) ⟨rfl, rfl, rfl⟩) ?_
      refine x_if [(67, pB true), (7, PV.ptr 3 0)] [0, 1, 2, 3, 4, 5, 6, 7, 8, 9, 10, 11] rfl rfl rfl rfl (fun _ => ?_) (fun e => absurd e (by decide))
      refine x_run0 [(67, pB true), (7, PV.ptr 3 0)] [0, 1, 2, 3, 4, 5, 6, 7, 8, 9, 10, 11] rfl rfl rfl rfl (s_fa_ptr tab_53 rfl rfl tab_3 (by decide) rfl ⟨rfl, rfl, rfl⟩) ?_
      refine x_if [(67, pB true), (72, PV.ptr 3 1)] [0, 1, 2, 3, 4, 5, 6, 7, 8, 9, 10, 11, 16] rfl rfl rfl rfl (fun _ => ?_) (fun e => absurd e (by decide))
      refine x_run [(67, pB true), (72, PV.ptr 3 1)] [0, 1, 2, 3, 4, 5, 6, 7, 8, 9, 10, 11, 16] [(3, .obj [pI s.at_, pI s.count])] [] [(3, .obj [pI s.at_, pI s.count])] [] [(5, .obj [pN ((b.at_ % 2 ^ 5).toNat), pN ((b.count % 2 ^ 5).toNat)]), (4, .obj [pN ((a.at_ % 2 ^ 5).toNat), pN ((a.count % 2 ^ 5).toNat)]), (0, oB true 2 eSpan fs), (1, .obj [pI a.at_, pI a.count]), (2, .obj [pI b.at_, pI b.count]), (3, .obj [pI s.at_, pI s.count])] rfl rfl rfl rfl rfl rfl (s_load_ptr1 tab_3 rfl rfl rfl rfl rfl ⟨rfl, rfl, rfl⟩) rfl ⟨rfl, trivial⟩ rfl rfl ?_
      refine x_if [(67, pB true), (73, pI s.count)] [0, 1, 2, 3, 4, 5, 6, 7, 8, 9, 10, 11, 16, 17] rfl rfl rfl rfl (fun _ => ?_) (fun e => absurd e (by decide))
      refine x_run0 [(67, pB true), (73, pI s.count)] [0, 1, 2, 3, 4, 5, 6, 7, 8, 9, 10, 11, 16, 17] rfl rfl rfl rfl (s_maskI 5 (by decide) rfl rfl (by decide) ⟨rfl, rfl, rfl⟩) ?_
      refine x_if [(67, pB true), (74, pN ((s.count % 2 ^ 5).toNat))] [0, 1, 2, 3, 4, 5, 6, 7, 8, 9, 10, 11, 16, 17, 18] rfl rfl rfl rfl (fun _ => ?_) (fun e => absurd e (by decide))
      refine x_run0 [(67, pB true), (74, pN ((s.count % 2 ^ 5).toNat))] [0, 1, 2, 3, 4, 5, 6, 7, 8, 9, 10, 11, 16, 17, 18] rfl rfl rfl rfl (s_addN (a := 1) (b := (s.count % 2 ^ 5).toNat) rfl rfl (by omega) (by omega) (by omega) ⟨rfl, rfl, rfl⟩) ?_
      refine x_if [(67, pB true), (71, pN ((s.at_ % 2 ^ 5).toNat)), (75, pN (1 + ((s.count % 2 ^ 5).toNat)))] [0, 1, 2, 3, 4, 5, 6, 7, 8, 9, 10, 11, 13, 14, 15, 16, 17, 18, 19] rfl rfl rfl rfl (fun _ => ?_) (fun e => absurd e (by decide))
      refine x_run0 [(67, pB true), (71, pN ((s.at_ % 2 ^ 5).toNat)), (75, pN (1 + ((s.count % 2 ^ 5).toNat)))] [0, 1, 2, 3, 4, 5, 6, 7, 8, 9, 10, 11, 13, 14, 15, 16, 17, 18, 19] rfl rfl rfl rfl (s_build tab_53 rfl rfl (b_cons rfl tab_3 rfl rfl rfl (Nat.le_of_ble_eq_true rfl) (b_cons rfl tab_3 rfl rfl rfl (Nat.le_of_ble_eq_true rfl) (b_nil ⟨rfl, rfl, rfl⟩)))) ?_
      refine x_if [(67, pB true), (68, PV.ref 0 0 none), (76, PV.f (.agg [encI (((s.at_ % 2 ^ 5).toNat : Nat) : Int), encI ((1 + ((s.count % 2 ^ 5).toNat) : Nat) : Int)]))] [0, 1, 2, 3, 4, 5, 6, 7, 8, 9, 10, 11, 12, 13, 14, 15, 16, 17, 18, 19, 20] rfl rfl rfl rfl (fun _ => ?_) (fun e => absurd e (by decide))
      refine x_run [(67, pB true), (68, PV.ref 0 0 none), (76, PV.f (.agg [encI (((s.at_ % 2 ^ 5).toNat : Nat) : Int), encI ((1 + ((s.count % 2 ^ 5).toNat) : Nat) : Int)]))] [0, 1, 2, 3, 4, 5, 6, 7, 8, 9, 10, 11, 12, 13, 14, 15, 16, 17, 18, 19, 20] [] [(0, oB true 2 eSpan fs)] [(0, oB false 2 eSpan fs)] [(0, oB false 2 eSpan fs)] [(0, oB false 2 eSpan fs), (5, .obj [pN ((b.at_ % 2 ^ 5).toNat), pN ((b.count % 2 ^ 5).toNat)]), (4, .obj [pN ((a.at_ % 2 ^ 5).toNat), pN ((a.count % 2 ^ 5).toNat)]), (1, .obj [pI a.at_, pI a.count]), (2, .obj [pI b.at_, pI b.count]), (3, .obj [pI s.at_, pI s.count])] rfl rfl rfl rfl rfl rfl (s_callX (r2 := pB true) (nx1 := 6) (H2 := [(0, oB false 2 eSpan fs)]) (H3 := [(0, oB false 2 eSpan fs)]) [] [] rfl rfl rfl (handed_of (by decide) trivial) rfl rfl rfl rfl rfl rfl (w_burgagelaw7_covers fs false (⟨(((s.at_ % 2 ^ 5).toNat : Nat) : Int), ((1 + ((s.count % 2 ^ 5).toNat) : Nat) : Int)⟩ : TSpan) (by first | omega | assumption | (simp; omega) | decide | (simp; done))) rfl (dist_of rfl) rfl rfl rfl rfl ⟨rfl, rfl, rfl⟩) rfl trivial rfl rfl ?_
      refine d_op ?_
      refine x_run0 [(67, pB true), (77, pB true)] [0, 1, 2, 3, 4, 5, 6, 7, 8, 9, 10, 11, 12, 13, 14, 15, 16, 17, 18, 19, 20, 21] rfl rfl rfl rfl (s_pick_t rfl rfl rfl ⟨rfl, rfl, rfl⟩) ?_
      refine d_op ?_
      refine x_run0 [(78, pB true)] [0, 1, 2, 3, 4, 5, 6, 7, 8, 9, 10, 11, 12, 13, 14, 15, 16, 17, 18, 19, 20, 21, 22] rfl rfl rfl rfl (s_move rfl ⟨rfl, rfl, rfl⟩) ?_
      refine x_if [(79, pB true), (4, pS 2 cl_l eSpan l)] [0, 1, 2, 3, 4, 5, 6, 7, 8, 9, 10, 11, 12, 13, 14, 15, 16, 17, 18, 19, 20, 21, 22, 23] rfl rfl rfl rfl (fun _ => ?_) (fun e => absurd e (by decide))
      refine x_run0 [(79, pB true), (4, pS 2 cl_l eSpan l)] [0, 1, 2, 3, 4, 5, 6, 7, 8, 9, 10, 11, 12, 13, 14, 15, 16, 17, 18, 19, 20, 21, 22, 23] rfl rfl rfl rfl (s_move rfl ⟨rfl, rfl, rfl⟩) ?_
      refine x_if [(79, pB true), (4, pS 2 cl_l eSpan l)] [0, 1, 2, 3, 4, 5, 6, 7, 8, 9, 10, 11, 12, 13, 14, 15, 16, 17, 18, 19, 20, 21, 22, 23] rfl rfl rfl rfl (fun _ => ?_) (fun e => absurd e (by decide))
      refine x_run0 [(79, pB true), (4, pS 2 cl_l eSpan l)] [0, 1, 2, 3, 4, 5, 6, 7, 8, 9, 10, 11, 12, 13, 14, 15, 16, 17, 18, 19, 20, 21, 22, 23] rfl rfl rfl rfl (s_move rfl ⟨rfl, rfl, rfl⟩) ?_
      refine x_if [(79, pB true), (81, pS 2 cl_l eSpan l)] [0, 1, 2, 3, 4, 5, 6, 7, 8, 9, 10, 11, 12, 13, 14, 15, 16, 17, 18, 19, 20, 21, 22, 23, 25] rfl rfl rfl rfl (fun _ => ?_) (fun e => absurd e (by decide))
      refine x_run0 [(79, pB true), (81, pS 2 cl_l eSpan l)] [0, 1, 2, 3, 4, 5, 6, 7, 8, 9, 10, 11, 12, 13, 14, 15, 16, 17, 18, 19, 20, 21, 22, 23, 25] rfl rfl rfl rfl (s_lenM (l := l) tab_56 rfl (hM_sl (f := eSpan) rfl) ⟨rfl, rfl, rfl⟩) ?_
      refine x_if [(79, pB true), (82, pN l.length)] [0, 1, 2, 3, 4, 5, 6, 7, 8, 9, 10, 11, 12, 13, 14, 15, 16, 17, 18, 19, 20, 21, 22, 23, 25, 26] rfl rfl rfl rfl (fun _ => ?_) (fun e => absurd e (by decide))
      refine x_run0 [(79, pB true), (82, pN l.length)] [0, 1, 2, 3, 4, 5, 6, 7, 8, 9, 10, 11, 12, 13, 14, 15, 16, 17, 18, 19, 20, 21, 22, 23, 25, 26] rfl rfl rfl rfl (s_minN (a := l.length) (b := 20) rfl (by omega) (by omega) ⟨rfl, rfl, rfl⟩) ?_
      refine x_if [(79, pB true), (80, pS 2 cl_l eSpan l), (83, pN (min l.length 20))] [0, 1, 2, 3, 4, 5, 6, 7, 8, 9, 10, 11, 12, 13, 14, 15, 16, 17, 18, 19, 20, 21, 22, 23, 24, 25, 26, 27] rfl rfl rfl rfl (fun _ => ?_) (fun e => absurd e (by decide))
      refine x_run0 [(79, pB true), (80, pS 2 cl_l eSpan l), (83, pN (min l.length 20))] [0, 1, 2, 3, 4, 5, 6, 7, 8, 9, 10, 11, 12, 13, 14, 15, 16, 17, 18, 19, 20, 21, 22, 23, 24, 25, 26, 27] rfl rfl rfl rfl (s_cutM_hi (b := min l.length 20) (f := eSpan) (l := l) tab_56 rfl tab_53 ⟨rfl, by decide⟩ rfl (bound_some rfl (by omega)) (by omega) ⟨rfl, rfl, rfl⟩) ?_
      refine x_if [(79, pB true), (7, PV.ptr 3 0)] [0, 1, 2, 3, 4, 5, 6, 7, 8, 9, 10, 11, 12, 13, 14, 15, 16, 17, 18, 19, 20, 21, 22, 23] rfl rfl rfl rfl (fun _ => ?_) (fun e => absurd e (by decide))
      refine x_run [(79, pB true), (7, PV.ptr 3 0)] [0, 1, 2, 3, 4, 5, 6, 7, 8, 9, 10, 11, 12, 13, 14, 15, 16, 17, 18, 19, 20, 21, 22, 23] [(3, .obj [pI s.at_, pI s.count])] [] [(3, .obj [pI s.at_, pI s.count])] [] [(0, oB false 2 eSpan fs), (5, .obj [pN ((b.at_ % 2 ^ 5).toNat), pN ((b.count % 2 ^ 5).toNat)]), (4, .obj [pN ((a.at_ % 2 ^ 5).toNat), pN ((a.count % 2 ^ 5).toNat)]), (1, .obj [pI a.at_, pI a.count]), (2, .obj [pI b.at_, pI b.count]), (3, .obj [pI s.at_, pI s.count])] rfl rfl rfl rfl rfl rfl (s_load_ptr tab_53 rfl rfl rfl (Nat.le_of_ble_eq_true rfl) ⟨rfl, rfl, rfl⟩) rfl ⟨rfl, trivial⟩ rfl rfl ?_
      refine x_if [(79, pB true), (84, pS 2 false eSpan (l.take (min l.length 20))), (85, PV.f (.agg [encI s.at_, encI s.count]))] [0, 1, 2, 3, 4, 5, 6, 7, 8, 9, 10, 11, 12, 13, 14, 15, 16, 17, 18, 19, 20, 21, 22, 23, 24, 25, 26, 27, 28, 29] rfl rfl rfl rfl (fun _ => ?_) (fun e => absurd e (by decide))
      refine x_run0 [(79, pB true), (84, pS 2 false eSpan (l.take (min l.length 20))), (85, PV.f (.agg [encI s.at_, encI s.count]))] [0, 1, 2, 3, 4, 5, 6, 7, 8, 9, 10, 11, 12, 13, 14, 15, 16, 17, 18, 19, 20, 21, 22, 23, 24, 25, 26, 27, 28, 29] rfl rfl rfl rfl (s_callF rfl rfl rfl (w_burgagelaw7_covers (l.take (min l.length 20)) false s (by first | omega | assumption | (simp; omega) | decide | (simp; done))) rfl ⟨rfl, rfl, rfl⟩) ?_
      refine d_op ?_
      refine x_run0 [(79, pB true), (86, pB true)] [0, 1, 2, 3, 4, 5, 6, 7, 8, 9, 10, 11, 12, 13, 14, 15, 16, 17, 18, 19, 20, 21, 22, 23, 24, 25, 26, 27, 28, 29, 30] rfl rfl rfl rfl (s_pick_t rfl rfl rfl ⟨rfl, rfl, rfl⟩) ?_
      refine d_op ?_
      refine x_run0 [(87, pB true)] [0, 1, 2, 3, 4, 5, 6, 7, 8, 9, 10, 11, 12, 13, 14, 15, 16, 17, 18, 19, 20, 21, 22, 23, 24, 25, 26, 27, 28, 29, 30, 31] rfl rfl rfl rfl (s_move rfl ⟨rfl, rfl, rfl⟩) ?_
      refine x_if [(88, pB true), (11, PV.ref 0 0 none)] [0, 1, 2, 3, 4, 5, 6, 7, 8, 9, 10, 11, 12, 13, 14, 15, 16, 17, 18, 19, 20, 21, 22, 23, 24, 25, 26, 27, 28, 29, 30, 31, 32] rfl rfl rfl rfl (fun _ => ?_) (fun e => absurd e (by decide))
      refine x_run0 [(88, pB true), (11, PV.ref 0 0 none)] [0, 1, 2, 3, 4, 5, 6, 7, 8, 9, 10, 11, 12, 13, 14, 15, 16, 17, 18, 19, 20, 21, 22, 23, 24, 25, 26, 27, 28, 29, 30, 31, 32] rfl rfl rfl rfl (s_move rfl ⟨rfl, rfl, rfl⟩) ?_
      refine x_if [(88, pB true), (7, PV.ptr 3 0)] [0, 1, 2, 3, 4, 5, 6, 7, 8, 9, 10, 11, 12, 13, 14, 15, 16, 17, 18, 19, 20, 21, 22, 23, 24, 25, 26, 27, 28, 29, 30, 31, 32] rfl rfl rfl rfl (fun _ => ?_) (fun e => absurd e (by decide))
      refine x_run [(88, pB true), (7, PV.ptr 3 0)] [0, 1, 2, 3, 4, 5, 6, 7, 8, 9, 10, 11, 12, 13, 14, 15, 16, 17, 18, 19, 20, 21, 22, 23, 24, 25, 26, 27, 28, 29, 30, 31, 32] [(3, .obj [pI s.at_, pI s.count])] [] [(3, .obj [pI s.at_, pI s.count])] [] [(0, oB false 2 eSpan fs), (5, .obj [pN ((b.at_ % 2 ^ 5).toNat), pN ((b.count % 2 ^ 5).toNat)]), (4, .obj [pN ((a.at_ % 2 ^ 5).toNat), pN ((a.count % 2 ^ 5).toNat)]), (1, .obj [pI a.at_, pI a.count]), (2, .obj [pI b.at_, pI b.count]), (3, .obj [pI s.at_, pI s.count])] rfl rfl rfl rfl rfl rfl (s_load_ptr tab_53 rfl rfl rfl (Nat.le_of_ble_eq_true rfl) ⟨rfl, rfl, rfl⟩) rfl ⟨rfl, trivial⟩ rfl rfl ?_
      refine x_if [(88, pB true), (89, PV.ref 0 0 none), (90, PV.f (.agg [encI s.at_, encI s.count]))] [0, 1, 2, 3, 4, 5, 6, 7, 8, 9, 10, 11, 12, 13, 14, 15, 16, 17, 18, 19, 20, 21, 22, 23, 24, 25, 26, 27, 28, 29, 30, 31, 32, 33, 34] rfl rfl rfl rfl (fun _ => ?_) (fun e => absurd e (by decide))
      refine x_run [(88, pB true), (89, PV.ref 0 0 none), (90, PV.f (.agg [encI s.at_, encI s.count]))] [0, 1, 2, 3, 4, 5, 6, 7, 8, 9, 10, 11, 12, 13, 14, 15, 16, 17, 18, 19, 20, 21, 22, 23, 24, 25, 26, 27, 28, 29, 30, 31, 32, 33, 34] [] [(0, oB false 2 eSpan fs)] [(0, oB false 2 eSpan fs)] [(0, oB false 2 eSpan fs)] [(0, oB false 2 eSpan fs), (5, .obj [pN ((b.at_ % 2 ^ 5).toNat), pN ((b.count % 2 ^ 5).toNat)]), (4, .obj [pN ((a.at_ % 2 ^ 5).toNat), pN ((a.count % 2 ^ 5).toNat)]), (1, .obj [pI a.at_, pI a.count]), (2, .obj [pI b.at_, pI b.count]), (3, .obj [pI s.at_, pI s.count])] rfl rfl rfl rfl rfl rfl (s_callX (r2 := pB true) (nx1 := 6) (H2 := [(0, oB false 2 eSpan fs)]) (H3 := [(0, oB false 2 eSpan fs)]) [] [] rfl rfl rfl (handed_of (by decide) trivial) rfl rfl rfl rfl rfl rfl (w_burgagelaw7_covers fs false s (by first | omega | assumption | (simp; omega) | decide | (simp; done))) rfl (dist_of rfl) rfl rfl rfl rfl ⟨rfl, rfl, rfl⟩) rfl trivial rfl rfl ?_
      refine d_op ?_
      refine x_run0 [(88, pB true), (91, pB true)] [0, 1, 2, 3, 4, 5, 6, 7, 8, 9, 10, 11, 12, 13, 14, 15, 16, 17, 18, 19, 20, 21, 22, 23, 24, 25, 26, 27, 28, 29, 30, 31, 32, 33, 34, 35] rfl rfl rfl rfl (s_pick_t rfl rfl rfl ⟨rfl, rfl, rfl⟩) ?_
      refine d_op ?_
      refine x_run0 [(92, pB true)] [0, 1, 2, 3, 4, 5, 6, 7, 8, 9, 10, 11, 12, 13, 14, 15, 16, 17, 18, 19, 20, 21, 22, 23, 24, 25, 26, 27, 28, 29, 30, 31, 32, 33, 34, 35, 36] rfl rfl rfl rfl (s_move rfl ⟨rfl, rfl, rfl⟩) ?_
      refine x_if [(93, pB true)] [0, 1, 2, 3, 4, 5, 6, 7, 8, 9, 10, 11, 12, 13, 14, 15, 16, 17, 18, 19, 20, 21, 22, 23, 24, 25, 26, 27, 28, 29, 30, 31, 32, 33, 34, 35, 36, 37] rfl rfl rfl rfl (fun _ => ?_) (fun e => absurd e (by decide))
      refine x_run0 [(93, pB true)] [0, 1, 2, 3, 4, 5, 6, 7, 8, 9, 10, 11, 12, 13, 14, 15, 16, 17, 18, 19, 20, 21, 22, 23, 24, 25, 26, 27, 28, 29, 30, 31, 32, 33, 34, 35, 36, 37] rfl rfl rfl rfl (s_callF rfl rfl rfl (w_burgagelaw7_known) rfl ⟨rfl, rfl, rfl⟩) ?_
      refine d_op ?_
      refine x_run0 [(93, pB true), (94, pB true)] [0, 1, 2, 3, 4, 5, 6, 7, 8, 9, 10, 11, 12, 13, 14, 15, 16, 17, 18, 19, 20, 21, 22, 23, 24, 25, 26, 27, 28, 29, 30, 31, 32, 33, 34, 35, 36, 37, 38] rfl rfl rfl rfl (s_pick_t rfl rfl rfl ⟨rfl, rfl, rfl⟩) ?_
      refine d_op ?_
      refine x_run0 [(95, pB true)] [0, 1, 2, 3, 4, 5, 6, 7, 8, 9, 10, 11, 12, 13, 14, 15, 16, 17, 18, 19, 20, 21, 22, 23, 24, 25, 26, 27, 28, 29, 30, 31, 32, 33, 34, 35, 36, 37, 38, 39] rfl rfl rfl rfl (s_assign rfl ⟨rfl, rfl, rfl⟩) ?_
      refine d_end ⟨by kernel_rfl, ?_⟩
      refine q_then ?_
      refine w_ret ?_
      exact fin_plain (ret_tmp rfl ret_nil) rfl rfl ⟨rfl, rfl, rfl⟩

theorem w_burgagelaw7_SpanNumbers   :
    T Try.prog 11 [] 0 [] (Ret (pB true) 0 []) := by
  refine t_fun tabOk (n := 115) (rs := [.tmp 0]) Try.func11 rfl rfl rfl rfl (Nat.le_of_ble_eq_true rfl) ?_
  intro c hnt hk
  refine w_seq ?_
  refine w_R ?_
  refine r_op tabOk hnt rfl (s_assign rfl ?_) 
  refine r_end ?_
  refine q_then ?_
  refine w_seq ?_
  refine w_seq ?_
  refine w_R ?_
  refine r_op tabOk hnt rfl (s_assign rfl ?_) 
  refine r_end ?_
  refine q_then ?_
  refine w_block ?_
  refine loop1 (fun (a : Int) => -1 ≤ a ∧ a ≤ 6) (fun (a : Int) => [(1, pI a)]) 0 (fun (a : Int) => []) (fun (a : Int) => (6 - a).toNat) ((-1)) ?_ ⟨[], rfl, ⟨⟨_, rfl, rfl, rfl⟩, trivial⟩, trivial, by rw [hk]; decide⟩ ?_
  · omega
  ·
    intro a ha
    refine w_seq ?_
    refine w_seq ?_
    refine w_R ?_
    refine r_op tabOk hnt rfl (s_move rfl ?_) 
    refine r_op tabOk hnt rfl (s_lss rfl rfl ?_) 
    refine r_end ?_
    refine q_then ?_
    refine w_if rfl (fun c1 => ?_) (fun c1 => ?_)
    ·
      have c1_ := c1
      try simp only [decide_eq_true_eq, decide_eq_false_iff_not, Bool.not_eq_true', Bool.not_eq_false', Bool.not_true, Bool.not_false, Bool.not_eq_eq_eq_not, Int.not_lt, Int.not_le] at c1
      refine w_skip ?_
      refine q_then ?_
      refine w_seq ?_
      refine w_block ?_
      refine w_seq ?_
      refine w_R ?_
      refine r_op tabOk hnt rfl (s_assign rfl ?_) 
      refine r_end ?_
      refine q_then ?_
      refine w_block ?_
      refine loop1 (fun (n2 : Int) => -1 ≤ n2 ∧ n2 ≤ 5) (fun (n2 : Int) => [(1, pI a), (2, pI n2)]) 0 (fun (n2 : Int) => []) (fun (n2 : Int) => (5 - n2).toNat) ((-1)) ?_ ⟨[], rfl, ⟨⟨_, rfl, rfl, rfl⟩, ⟨_, rfl, rfl, rfl⟩, trivial⟩, trivial, by rw [hk]; decide⟩ ?_
      · omega
      ·
        intro n2 hn
        refine w_seq ?_
        refine w_seq ?_
        refine w_R ?_
        refine r_op tabOk hnt rfl (s_move rfl ?_) 
        refine r_op tabOk hnt rfl (s_lss rfl rfl ?_) 
        refine r_end ?_
        refine q_then ?_
        refine w_if rfl (fun c2 => ?_) (fun c2 => ?_)
        ·
          have c2_ := c2
          try simp only [decide_eq_true_eq, decide_eq_false_iff_not, Bool.not_eq_true', Bool.not_eq_false', Bool.not_true, Bool.not_false, Bool.not_eq_eq_eq_not, Int.not_lt, Int.not_le] at c2
          refine w_skip ?_
          refine q_then ?_
          refine w_seq ?_
          refine w_block ?_
          refine w_seq ?_
          refine w_R ?_
          refine r_op tabOk hnt rfl (s_assign rfl ?_) 
          refine r_end ?_
          refine q_then ?_
          refine w_block ?_
          refine loop1 (fun (b : Int) => -1 ≤ b ∧ b ≤ 6) (fun (b : Int) => [(1, pI a), (2, pI n2), (3, pI b)]) 0 (fun (b : Int) => []) (fun (b : Int) => (6 - b).toNat) ((-1)) ?_ ⟨[], rfl, ⟨⟨_, rfl, rfl, rfl⟩, ⟨_, rfl, rfl, rfl⟩, ⟨_, rfl, rfl, rfl⟩, trivial⟩, trivial, by rw [hk]; decide⟩ ?_
          · omega
          ·
            intro b hb
            refine w_seq ?_
            refine w_seq ?_
            refine w_R ?_
            refine r_op tabOk hnt rfl (s_move rfl ?_) 
            refine r_op tabOk hnt rfl (s_lss rfl rfl ?_) 
            refine r_end ?_
            refine q_then ?_
            refine w_if rfl (fun c3 => ?_) (fun c3 => ?_)
            ·
              have c3_ := c3
              try simp only [decide_eq_true_eq, decide_eq_false_iff_not, Bool.not_eq_true', Bool.not_eq_false', Bool.not_true, Bool.not_false, Bool.not_eq_eq_eq_not, Int.not_lt, Int.not_le] at c3
              refine w_skip ?_
              refine q_then ?_
              refine w_seq ?_
              refine w_block ?_
              refine w_seq ?_
              refine w_R ?_
              refine r_op tabOk hnt rfl (s_assign rfl ?_) 
              refine r_end ?_
              refine q_then ?_
              refine w_block ?_
              refine loop1 (fun (m4 : Int) => 0 ≤ m4 ∧ m4 ≤ 4) (fun (m4 : Int) => [(1, pI a), (2, pI n2), (3, pI b), (4, pI m4)]) 0 (fun (m4 : Int) => []) (fun (m4 : Int) => (4 - m4).toNat) (0) ?_ ⟨[], rfl, ⟨⟨_, rfl, rfl, rfl⟩, ⟨_, rfl, rfl, rfl⟩, ⟨_, rfl, rfl, rfl⟩, ⟨_, rfl, rfl, rfl⟩, trivial⟩, trivial, by rw [hk]; decide⟩ ?_
              · omega
              ·
                intro m4 hm4
                refine w_seq ?_
                refine w_seq ?_
                refine w_R ?_
                refine r_op tabOk hnt rfl (s_move rfl ?_) 
                refine r_op tabOk hnt rfl (s_lss rfl rfl ?_) 
                refine r_end ?_
                refine q_then ?_
                refine w_if rfl (fun c4 => ?_) (fun c4 => ?_)
                ·
                  have c4_ := c4
                  try simp only [decide_eq_true_eq, decide_eq_false_iff_not, Bool.not_eq_true', Bool.not_eq_false', Bool.not_true, Bool.not_false, Bool.not_eq_eq_eq_not, Int.not_lt, Int.not_le] at c4
                  refine w_skip ?_
                  refine q_then ?_
                  refine w_seq ?_
                  refine w_block ?_
                  refine w_seq ?_
                  refine w_R ?_
                  refine r_op tabOk hnt rfl (s_move rfl ?_) 
                  refine r_op tabOk hnt rfl (s_move rfl ?_) 
                  refine r_op tabOk hnt rfl (s_build tab_53 rfl rfl (b_cons rfl tab_3 rfl rfl rfl (Nat.le_of_ble_eq_true rfl) (b_cons rfl tab_3 rfl rfl rfl (Nat.le_of_ble_eq_true rfl) (b_nil ?_)))) 
                  refine r_op tabOk hnt rfl (s_move rfl ?_) 
                  refine r_op tabOk hnt rfl (s_move rfl ?_) 
                  refine r_op tabOk hnt rfl (s_build tab_53 rfl rfl (b_cons rfl tab_3 rfl rfl rfl (Nat.le_of_ble_eq_true rfl) (b_cons rfl tab_3 rfl rfl rfl (Nat.le_of_ble_eq_true rfl) (b_nil ?_)))) 
                  refine r_op tabOk hnt rfl (s_move rfl ?_) 
                  refine r_op tabOk hnt rfl (s_move rfl ?_) 
                  refine r_op tabOk hnt rfl (s_addi (r := a + m4) rfl rfl rfl (by omega) ?_) 
                  refine r_op tabOk hnt rfl (s_callF rfl rfl rfl (w_burgagelaw7_same (⟨a, n2⟩ : TSpan) (⟨b, m4⟩ : TSpan) (a + m4) (by first | omega | assumption | (simp; omega) | decide | (simp; done))) rfl ?_) 
                  refine r_op tabOk hnt rfl (s_not rfl ?_) 
                  refine r_end ?_
                  refine q_then ?_
                  refine w_if rfl (fun e => absurd e (by decide)) (fun _ => ?_)
                  refine w_skip ?_
                  refine q_block ?_
                  refine q_then ?_
                  refine w_R ?_
                  refine r_op tabOk hnt rfl (s_move rfl ?_) 
                  refine r_op tabOk hnt rfl (s_addi (r := m4 + 1) rfl rfl rfl (by omega) ?_) 
                  refine r_op tabOk hnt rfl (s_assign rfl ?_) 
                  refine r_end ?_
                  refine q_then ?_
                  refine ⟨(m4 + 1), ?_, ?_, ⟨[], rfl, ⟨⟨_, rfl, rfl, rfl⟩, ⟨_, rfl, rfl, rfl⟩, ⟨_, rfl, rfl, rfl⟩, ⟨_, rfl, rfl, rfl⟩, trivial⟩, trivial, by rw [hk]; decide⟩⟩
                  ·
                    omega
                  · omega
                ·
                  have c4_ := c4
                  try simp only [decide_eq_true_eq, decide_eq_false_iff_not, Bool.not_eq_true', Bool.not_eq_false', Bool.not_true, Bool.not_false, Bool.not_eq_eq_eq_not, Int.not_lt, Int.not_le] at c4
                  refine w_exit ?_
                  refine q_then_exit ?_
                  refine q_then_exit ?_
                  refine q_block_exit ?_
                  refine q_block ?_
                  refine q_then ?_
                  refine w_R ?_
                  refine r_op tabOk hnt rfl (s_move rfl ?_) 
                  refine r_op tabOk hnt rfl (s_addi (r := b + 1) rfl rfl rfl (by omega) ?_) 
                  refine r_op tabOk hnt rfl (s_assign rfl ?_) 
                  refine r_end ?_
                  refine q_then ?_
                  refine ⟨(b + 1), ?_, ?_, ⟨[], rfl, ⟨⟨_, rfl, rfl, rfl⟩, ⟨_, rfl, rfl, rfl⟩, ⟨_, rfl, rfl, rfl⟩, trivial⟩, trivial, by rw [hk]; decide⟩⟩
                  ·
                    omega
                  · omega
            ·
              have c3_ := c3
              try simp only [decide_eq_true_eq, decide_eq_false_iff_not, Bool.not_eq_true', Bool.not_eq_false', Bool.not_true, Bool.not_false, Bool.not_eq_eq_eq_not, Int.not_lt, Int.not_le] at c3
              refine w_exit ?_
              refine q_then_exit ?_
              refine q_then_exit ?_
              refine q_block_exit ?_
              refine q_block ?_
              refine q_then ?_
              refine w_R ?_
              refine r_op tabOk hnt rfl (s_move rfl ?_) 
              refine r_op tabOk hnt rfl (s_addi (r := n2 + 1) rfl rfl rfl (by omega) ?_) 
              refine r_op tabOk hnt rfl (s_assign rfl ?_) 
              refine r_end ?_
              refine q_then ?_
              refine ⟨(n2 + 1), ?_, ?_, ⟨[], rfl, ⟨⟨_, rfl, rfl, rfl⟩, ⟨_, rfl, rfl, rfl⟩, trivial⟩, trivial, by rw [hk]; decide⟩⟩
              ·
                omega
              · omega
        ·
          have c2_ := c2
          try simp only [decide_eq_true_eq, decide_eq_false_iff_not, Bool.not_eq_true', Bool.not_eq_false', Bool.not_true, Bool.not_false, Bool.not_eq_eq_eq_not, Int.not_lt, Int.not_le] at c2
          refine w_exit ?_
          refine q_then_exit ?_
          refine q_then_exit ?_
          refine q_block_exit ?_
          refine q_block ?_
          refine q_then ?_
          refine w_R ?_
          refine r_op tabOk hnt rfl (s_move rfl ?_) 
          refine r_op tabOk hnt rfl (s_addi (r := a + 1) rfl rfl rfl (by omega) ?_) 
          refine r_op tabOk hnt rfl (s_assign rfl ?_) 
          refine r_end ?_
          refine q_then ?_
          refine ⟨(a + 1), ?_, ?_, ⟨[], rfl, ⟨⟨_, rfl, rfl, rfl⟩, trivial⟩, trivial, by rw [hk]; decide⟩⟩
          ·
            omega
          · omega
    ·
      have c1_ := c1
      try simp only [decide_eq_true_eq, decide_eq_false_iff_not, Bool.not_eq_true', Bool.not_eq_false', Bool.not_true, Bool.not_false, Bool.not_eq_eq_eq_not, Int.not_lt, Int.not_le] at c1
      refine w_exit ?_
      refine q_then_exit ?_
      refine q_then_exit ?_
      refine q_block_exit ?_
      refine q_then ?_
      refine w_seq ?_
      refine w_seq ?_
      refine w_R ?_
      refine r_op tabOk hnt rfl (s_mkM (f := encI) ([2147483647, 2147483648, 2147483649, 9223372036854775807, (-9223372036854775808)] : List Int) tab_54 rfl tab_3 ⟨rfl, by decide⟩ (by decide) rfl rfl rfl rfl ?_) 
      refine r_op tabOk hnt rfl (s_lenM (l := ([2147483647, 2147483648, 2147483649, 9223372036854775807, (-9223372036854775808)] : List Int)) tab_54 rfl (hM_ref0 (f := encI) rfl rfl) ?_) 
      refine r_op tabOk hnt rfl (s_move rfl ?_) 
      refine r_set [(39, PV.ref 0 0 none), (40, pN (([2147483647, 2147483648, 2147483649, 9223372036854775807, (-9223372036854775808)] : List Int).length)), (41, pI 0)] [(0, oB true 1 encI ([2147483647, 2147483648, 2147483649, 9223372036854775807, (-9223372036854775808)] : List Int))] 1 ⟨rfl, rfl, rfl, trivial⟩ rfl rfl ?_
      refine r_end ?_
      refine q_then ?_
      refine w_block ?_
      refine loop1 (fun (p : Nat) => p ≤ 5) (fun (p : Nat) => [(39, PV.ref 0 0 none), (40, pN (([2147483647, 2147483648, 2147483649, 9223372036854775807, (-9223372036854775808)] : List Int).length)), (41, pN p)]) 1 (fun (p : Nat) => [(0, oB true 1 encI ([2147483647, 2147483648, 2147483649, 9223372036854775807, (-9223372036854775808)] : List Int))]) (fun (p : Nat) => 5 - p) (0) ?_ ⟨[(0, 0)], by rw [hk]; decide, ⟨⟨_, rfl, rfl, rfl⟩, ⟨_, rfl, rfl, rfl⟩, ⟨_, rfl, rfl, rfl⟩, trivial⟩, ⟨⟨_, _, rfl, rfl, rfl, rfl⟩, trivial⟩, by rw [hk]; decide⟩ ?_
      · omega
      ·
        intro p hI
        refine w_seq ?_
        refine w_R ?_
        refine r_op tabOk hnt rfl (s_lss rfl rfl ?_) 
        refine r_end ?_
        refine q_then ?_
        refine w_seq ?_
        refine w_if rfl (fun c5 => ?_) (fun c5 => ?_)
        ·
          have c5_ := c5
          try simp only [decide_eq_true_eq, decide_eq_false_iff_not, Bool.not_eq_true', Bool.not_eq_false', Bool.not_true, Bool.not_false, Bool.not_eq_eq_eq_not, Int.not_lt, Int.not_le] at c5
          simp at c5
          refine w_skip ?_
          refine q_then ?_
          refine w_seq ?_
          refine w_block ?_
          refine w_seq ?_
          refine w_R ?_
          refine r_op tabOk hnt rfl (s_iaR0 (q := p) (f := encI) (l := ([2147483647, 2147483648, 2147483649, 9223372036854775807, (-9223372036854775808)] : List Int)) tab_54 rfl tab_3 rfl rfl (by omega) rfl rfl (by simp; omega) ?_) 
          obtain ⟨e1, he1⟩ := get_of_lt ([2147483647, 2147483648, 2147483649, 9223372036854775807, (-9223372036854775808)] : List Int) (i := p) (by simp; omega)
          refine r_op tabOk hnt rfl (s_ldM (b := e1) (f := encI) tab_3 rfl rfl rfl rfl he1 rfl ?_) 
          refine r_op tabOk hnt rfl (s_assign rfl ?_) 
          refine r_end ?_
          refine q_then ?_
          refine w_seq ?_
          have hb1 : e1 ≤ 9223372036854775807 := by have := List.mem_of_getElem? he1; simp at this; omega
          refine w_R ?_
          refine r_op tabOk hnt rfl (s_mkM (f := encI) ([0, 1, 2, 2147483648, 9223372036854775807] : List Int) tab_54 rfl tab_3 ⟨rfl, by decide⟩ (by decide) rfl rfl rfl rfl ?_) 
          refine r_op tabOk hnt rfl (s_lenM (l := ([0, 1, 2, 2147483648, 9223372036854775807] : List Int)) tab_54 rfl (hM_ref0 (f := encI) rfl rfl) ?_) 
          refine r_op tabOk hnt rfl (s_move rfl ?_) 
          refine r_set [(6, pI e1), (39, PV.ref 0 0 none), (40, pN (([2147483647, 2147483648, 2147483649, 9223372036854775807, (-9223372036854775808)] : List Int).length)), (41, pN p), (45, PV.ref 1 0 none), (46, pN (([0, 1, 2, 2147483648, 9223372036854775807] : List Int).length)), (47, pI 0)] [(1, oB true 1 encI ([0, 1, 2, 2147483648, 9223372036854775807] : List Int)), (0, oB true 1 encI ([2147483647, 2147483648, 2147483649, 9223372036854775807, (-9223372036854775808)] : List Int))] 2 ⟨rfl, rfl, rfl, rfl, rfl, rfl, rfl, trivial⟩ rfl rfl ?_
          refine r_end ?_
          refine q_then ?_
          refine w_block ?_
          refine loop1 (fun (q : Nat) => q ≤ 5) (fun (q : Nat) => [(6, pI e1), (39, PV.ref 0 0 none), (40, pN (([2147483647, 2147483648, 2147483649, 9223372036854775807, (-9223372036854775808)] : List Int).length)), (41, pN p), (45, PV.ref 1 0 none), (46, pN (([0, 1, 2, 2147483648, 9223372036854775807] : List Int).length)), (47, pN q)]) 2 (fun (q : Nat) => [(0, oB true 1 encI ([2147483647, 2147483648, 2147483649, 9223372036854775807, (-9223372036854775808)] : List Int)), (1, oB true 1 encI ([0, 1, 2, 2147483648, 9223372036854775807] : List Int))]) (fun (q : Nat) => 5 - q) (0) ?_ ⟨[(0, 0), (1, 1)], by rw [hk]; decide, ⟨⟨_, rfl, rfl, rfl⟩, ⟨_, rfl, rfl, rfl⟩, ⟨_, rfl, rfl, rfl⟩, ⟨_, rfl, rfl, rfl⟩, ⟨_, rfl, rfl, rfl⟩, ⟨_, rfl, rfl, rfl⟩, ⟨_, rfl, rfl, rfl⟩, trivial⟩, ⟨⟨_, _, rfl, rfl, rfl, rfl⟩, ⟨_, _, rfl, rfl, rfl, rfl⟩, trivial⟩, by rw [hk]; decide⟩ ?_
          · omega
          ·
            intro q hQ
            refine w_seq ?_
            refine w_R ?_
            refine r_op tabOk hnt rfl (s_lss rfl rfl ?_) 
            refine r_end ?_
            refine q_then ?_
            refine w_seq ?_
            refine w_if rfl (fun c6 => ?_) (fun c6 => ?_)
            ·
              have c6_ := c6
              try simp only [decide_eq_true_eq, decide_eq_false_iff_not, Bool.not_eq_true', Bool.not_eq_false', Bool.not_true, Bool.not_false, Bool.not_eq_eq_eq_not, Int.not_lt, Int.not_le] at c6
              simp at c6
              refine w_skip ?_
              refine q_then ?_
              refine w_seq ?_
              refine w_block ?_
              refine w_seq ?_
              refine w_R ?_
              refine r_op tabOk hnt rfl (s_iaR0 (q := q) (f := encI) (l := ([0, 1, 2, 2147483648, 9223372036854775807] : List Int)) tab_54 rfl tab_3 rfl rfl (by omega) rfl rfl (by simp; omega) ?_) 
              obtain ⟨e2, he2⟩ := get_of_lt ([0, 1, 2, 2147483648, 9223372036854775807] : List Int) (i := q) (by simp; omega)
              refine r_op tabOk hnt rfl (s_ldM (b := e2) (f := encI) tab_3 rfl rfl rfl rfl he2 rfl ?_) 
              refine r_op tabOk hnt rfl (s_assign rfl ?_) 
              refine r_end ?_
              refine q_then ?_
              refine w_seq ?_
              refine w_R ?_
              refine r_op tabOk hnt rfl (s_move rfl ?_) 
              refine r_op tabOk hnt rfl (s_move rfl ?_) 
              refine r_op tabOk hnt rfl (s_build tab_53 rfl rfl (b_cons rfl tab_3 rfl rfl rfl (Nat.le_of_ble_eq_true rfl) (b_cons rfl tab_3 rfl rfl rfl (Nat.le_of_ble_eq_true rfl) (b_nil ?_)))) 
              refine r_op tabOk hnt rfl (s_build tab_53 rfl rfl (b_cons rfl tab_3 rfl rfl rfl (Nat.le_of_ble_eq_true rfl) (b_cons rfl tab_3 rfl rfl rfl (Nat.le_of_ble_eq_true rfl) (b_nil ?_)))) 
              refine r_op tabOk hnt rfl (s_move rfl ?_) 
              refine r_op tabOk hnt rfl (s_callF rfl rfl rfl (w_burgagelaw7_same (⟨e1, e2⟩ : TSpan) (⟨2147483647, 1⟩ : TSpan) e1 (by first | omega | assumption | (simp; omega) | decide | (simp; done))) rfl ?_) 
              refine r_op tabOk hnt rfl (s_not rfl ?_) 
              refine r_op tabOk hnt rfl (s_move rfl ?_) 
              refine r_if tabOk hnt rfl rfl rfl (fun _ => ?_) (fun e => absurd e (by decide))
              refine r_op tabOk hnt rfl (s_move rfl ?_) 
              refine r_if tabOk hnt rfl rfl rfl (fun _ => ?_) (fun e => absurd e (by decide))
              refine r_op tabOk hnt rfl (s_move rfl ?_) 
              refine r_if tabOk hnt rfl rfl rfl (fun _ => ?_) (fun e => absurd e (by decide))
              refine r_op tabOk hnt rfl (s_build tab_53 rfl rfl (b_cons rfl tab_3 rfl rfl rfl (Nat.le_of_ble_eq_true rfl) (b_cons rfl tab_3 rfl rfl rfl (Nat.le_of_ble_eq_true rfl) (b_nil ?_)))) 
              refine r_if tabOk hnt rfl rfl rfl (fun _ => ?_) (fun e => absurd e (by decide))
              refine r_op tabOk hnt rfl (s_build tab_53 rfl rfl (b_cons rfl tab_3 rfl rfl rfl (Nat.le_of_ble_eq_true rfl) (b_cons rfl tab_3 rfl rfl rfl (Nat.le_of_ble_eq_true rfl) (b_nil ?_)))) 
              refine r_if tabOk hnt rfl rfl rfl (fun _ => ?_) (fun e => absurd e (by decide))
              refine r_op tabOk hnt rfl (s_move rfl ?_) 
              refine r_if tabOk hnt rfl rfl rfl (fun _ => ?_) (fun e => absurd e (by decide))
              refine r_op tabOk hnt rfl (s_callF rfl rfl rfl (w_burgagelaw7_same (⟨e2, e1⟩ : TSpan) (⟨0, 2147483648⟩ : TSpan) e1 (by first | omega | assumption | (simp; omega) | decide | (simp; done))) rfl ?_) 
              refine r_if tabOk hnt rfl rfl rfl (fun _ => ?_) (fun e => absurd e (by decide))
              refine r_op tabOk hnt rfl (s_not rfl ?_) 
              refine r_op tabOk hnt rfl (s_pick_f rfl rfl rfl ?_) 
              refine r_op tabOk hnt rfl (s_move rfl ?_) 
              refine r_if tabOk hnt rfl rfl rfl (fun _ => ?_) (fun e => absurd e (by decide))
              refine r_op tabOk hnt rfl (s_move rfl ?_) 
              refine r_if tabOk hnt rfl rfl rfl (fun _ => ?_) (fun e => absurd e (by decide))
              refine r_op tabOk hnt rfl (s_move rfl ?_) 
              refine r_if tabOk hnt rfl rfl rfl (fun _ => ?_) (fun e => absurd e (by decide))
              refine r_op tabOk hnt rfl (s_build tab_53 rfl rfl (b_cons rfl tab_3 rfl rfl rfl (Nat.le_of_ble_eq_true rfl) (b_cons rfl tab_3 rfl rfl rfl (Nat.le_of_ble_eq_true rfl) (b_nil ?_)))) 
              refine r_if tabOk hnt rfl rfl rfl (fun _ => ?_) (fun e => absurd e (by decide))
              refine r_op tabOk hnt rfl (s_mkM (f := eSpan) [(⟨e2, e1⟩ : TSpan)] tab_56 rfl tab_53 ⟨rfl, by decide⟩ (by decide) rfl rfl rfl rfl ?_) 
              refine r_if tabOk hnt rfl rfl rfl (fun _ => ?_) (fun e => absurd e (by decide))
              refine r_op tabOk hnt rfl (s_build tab_53 rfl rfl (b_cons rfl tab_3 rfl rfl rfl (Nat.le_of_ble_eq_true rfl) (b_cons rfl tab_3 rfl rfl rfl (Nat.le_of_ble_eq_true rfl) (b_nil ?_)))) 
              refine r_if tabOk hnt rfl rfl rfl (fun _ => ?_) (fun e => absurd e (by decide))
              refine r_op tabOk hnt rfl (s_callX (r2 := pB true) (nx1 := 3) (H2 := [(2, oB false 2 eSpan [(⟨e2, e1⟩ : TSpan)]), (0, oB true 1 encI ([2147483647, 2147483648, 2147483649, 9223372036854775807, (-9223372036854775808)] : List Int)), (1, oB true 1 encI ([0, 1, 2, 2147483648, 9223372036854775807] : List Int))]) (H3 := [(2, oB false 2 eSpan [(⟨e2, e1⟩ : TSpan)]), (0, oB true 1 encI ([2147483647, 2147483648, 2147483649, 9223372036854775807, (-9223372036854775808)] : List Int)), (1, oB true 1 encI ([0, 1, 2, 2147483648, 9223372036854775807] : List Int))]) [] [] rfl rfl rfl (handed_of (by decide) trivial) rfl rfl rfl rfl rfl rfl (w_burgagelaw7_covers [(⟨e2, e1⟩ : TSpan)] false (⟨1, 1⟩ : TSpan) (by first | omega | assumption | (simp; omega) | decide | (simp; done))) rfl (dist_of rfl) rfl rfl rfl rfl ?_) 
              refine r_if tabOk hnt rfl rfl rfl (fun _ => ?_) (fun e => absurd e (by decide))
              refine r_op tabOk hnt rfl (s_not rfl ?_) 
              refine r_op tabOk hnt rfl (s_pick_f rfl rfl rfl ?_) 
              refine r_set [(6, pI e1), (39, PV.ref 0 0 none), (40, pN (([2147483647, 2147483648, 2147483649, 9223372036854775807, (-9223372036854775808)] : List Int).length)), (41, pN p), (45, PV.ref 1 0 none), (46, pN (([0, 1, 2, 2147483648, 9223372036854775807] : List Int).length)), (47, pN q), (59, pI e2), (60, pI e1), (61, PV.f (.agg [encI e2, encI e1])), (62, PV.f (.agg [encI 0, encI 2147483648])), (63, pI e1), (64, pB true), (65, pB (!true)), (68, pI e2), (69, pI e1), (70, PV.f (.agg [encI e2, encI e1])), (71, PV.ref 2 0 none), (72, PV.f (.agg [encI 1, encI 1])), (73, pB true), (74, pB (!true)), (75, pB (!true))] [(2, oB false 2 eSpan [(⟨e2, e1⟩ : TSpan)]), (0, oB true 1 encI ([2147483647, 2147483648, 2147483649, 9223372036854775807, (-9223372036854775808)] : List Int)), (1, oB true 1 encI ([0, 1, 2, 2147483648, 9223372036854775807] : List Int))] 3 ⟨rfl, rfl, rfl, rfl, rfl, rfl, rfl, rfl, rfl, rfl, rfl, rfl, rfl, rfl, rfl, rfl, rfl, rfl, rfl, rfl, rfl, rfl, trivial⟩ rfl rfl ?_
              refine r_end ?_
              refine q_then ?_
              refine w_if rfl (fun e => absurd e (by decide)) (fun _ => ?_)
              refine w_skip ?_
              refine q_block ?_
              refine q_then ?_
              refine w_R ?_
              refine r_op tabOk hnt rfl (s_addN (a := q) (b := 1) rfl rfl (by omega) (by omega) (by omega) ?_) 
              refine r_op tabOk hnt rfl (s_move rfl ?_) 
              refine r_end ?_
              refine q_then ?_
              refine ⟨(q + 1), ?_, ?_, ⟨[(0, 0), (1, 1)], by rw [hk]; decide, ⟨⟨_, rfl, rfl, rfl⟩, ⟨_, rfl, rfl, rfl⟩, ⟨_, rfl, rfl, rfl⟩, ⟨_, rfl, rfl, rfl⟩, ⟨_, rfl, rfl, rfl⟩, ⟨_, rfl, rfl, rfl⟩, ⟨_, rfl, rfl, rfl⟩, trivial⟩, ⟨⟨_, _, rfl, rfl, rfl, rfl⟩, ⟨_, _, rfl, rfl, rfl, rfl⟩, trivial⟩, by rw [hk]; decide⟩⟩
              ·
                omega
              · omega
            ·
              have c6_ := c6
              try simp only [decide_eq_true_eq, decide_eq_false_iff_not, Bool.not_eq_true', Bool.not_eq_false', Bool.not_true, Bool.not_false, Bool.not_eq_eq_eq_not, Int.not_lt, Int.not_le] at c6
              refine w_exit ?_
              refine q_then_exit ?_
              refine q_then_exit ?_
              refine q_block_exit ?_
              refine q_block ?_
              refine q_then ?_
              refine w_R ?_
              refine r_op tabOk hnt rfl (s_addN (a := p) (b := 1) rfl rfl (by omega) (by omega) (by omega) ?_) 
              refine r_op tabOk hnt rfl (s_move rfl ?_) 
              refine r_end ?_
              refine q_then ?_
              refine ⟨(p + 1), ?_, ?_, ⟨[(0, 0)], by rw [hk]; decide, ⟨⟨_, rfl, rfl, rfl⟩, ⟨_, rfl, rfl, rfl⟩, ⟨_, rfl, rfl, rfl⟩, trivial⟩, ⟨⟨_, _, rfl, rfl, rfl, rfl⟩, trivial⟩, by rw [hk]; decide⟩⟩
              ·
                omega
              · omega
        ·
          have c5_ := c5
          try simp only [decide_eq_true_eq, decide_eq_false_iff_not, Bool.not_eq_true', Bool.not_eq_false', Bool.not_true, Bool.not_false, Bool.not_eq_eq_eq_not, Int.not_lt, Int.not_le] at c5
          refine w_exit ?_
          refine q_then_exit ?_
          refine q_then_exit ?_
          refine q_block_exit ?_
          refine q_then ?_
          refine w_seq ?_
          refine w_seq ?_
          refine w_R ?_
          refine r_op tabOk hnt rfl (s_assign rfl ?_) 
          refine r_end ?_
          refine q_then ?_
          refine w_block ?_
          refine loop1 (fun (k : Nat) => k ≤ 200) (fun (k : Nat) => [(9, pN k)]) 0 (fun (k : Nat) => []) (fun (k : Nat) => 200 - k) (0) ?_ ⟨[], rfl, ⟨⟨_, rfl, rfl, rfl⟩, trivial⟩, trivial, by rw [hk]; decide⟩ ?_
          · omega
          ·
            intro k hK
            refine w_seq ?_
            refine w_seq ?_
            refine w_R ?_
            refine r_op tabOk hnt rfl (s_move rfl ?_) 
            refine r_op tabOk hnt rfl (s_lss rfl rfl ?_) 
            refine r_end ?_
            refine q_then ?_
            refine w_if rfl (fun c7 => ?_) (fun c7 => ?_)
            ·
              have c7_ := c7
              try simp only [decide_eq_true_eq, decide_eq_false_iff_not, Bool.not_eq_true', Bool.not_eq_false', Bool.not_true, Bool.not_false, Bool.not_eq_eq_eq_not, Int.not_lt, Int.not_le] at c7
              refine w_skip ?_
              refine q_then ?_
              refine w_seq ?_
              refine w_block ?_
              refine w_seq ?_
              refine w_R ?_
              refine r_op tabOk hnt rfl (s_assign rfl ?_) 
              refine r_end ?_
              refine q_then ?_
              refine w_seq ?_
              refine w_seq ?_
              refine w_R ?_
              refine r_op tabOk hnt rfl (s_assign rfl ?_) 
              refine r_end ?_
              refine q_then ?_
              refine w_block ?_
              refine w_adopt (s := 10) (sz := 2) rfl ?_
              refine loop2 (fun (ls : List TSpan) (z : Nat) => z ≤ 5 ∧ ls.length = z) (fun (ls : List TSpan) (z : Nat) => [(9, pN k), (10, PV.ref 0 0 none), (11, pN z)]) 1 (fun (ls : List TSpan) (z : Nat) => [(0, oB true 2 eSpan ls)]) (fun (ls : List TSpan) (z : Nat) => 5 - z) (([] : List TSpan)) (0) ?_ ⟨[(0, 0)], by rw [hk]; decide, ⟨⟨_, rfl, rfl, rfl⟩, ⟨_, rfl, rfl, rfl⟩, ⟨_, rfl, rfl, rfl⟩, trivial⟩, ⟨⟨_, _, rfl, rfl, rfl, rfl⟩, trivial⟩, by rw [hk]; decide⟩ ?_
              · simp
              ·
                intro ls z hI
                obtain ⟨hz, hzl⟩ := hI
                have hzz : z * z ≤ 5 * 5 := Nat.mul_le_mul hz hz
                refine w_seq ?_
                refine w_seq ?_
                refine w_R ?_
                refine r_op tabOk hnt rfl (s_move rfl ?_) 
                refine r_op tabOk hnt rfl (s_move rfl ?_) 
                refine r_op tabOk hnt rfl (s_remN (a := k) (b := 5) rfl rfl (by omega) (by omega) (by omega) ?_) 
                refine r_op tabOk hnt rfl (s_lss rfl rfl ?_) 
                refine r_end ?_
                refine q_then ?_
                refine w_if rfl (fun c8 => ?_) (fun c8 => ?_)
                ·
                  have c8_ := c8
                  try simp only [decide_eq_true_eq, decide_eq_false_iff_not, Bool.not_eq_true', Bool.not_eq_false', Bool.not_true, Bool.not_false, Bool.not_eq_eq_eq_not, Int.not_lt, Int.not_le] at c8
                  refine w_skip ?_
                  refine q_then ?_
                  refine w_seq ?_
                  refine w_block ?_
                  refine w_R ?_
                  refine r_op tabOk hnt rfl (s_move rfl ?_) 
                  refine r_op tabOk hnt rfl (s_move rfl ?_) 
                  refine r_op tabOk hnt rfl (s_move rfl ?_) 
                  refine r_op tabOk hnt rfl (s_mulN (a := z) (b := z) rfl rfl (by omega) (by omega) (by omega) ?_) 
                  refine r_op tabOk hnt rfl (s_mulN (a := z * z) (b := 3) rfl rfl (by omega) (by omega) (by omega) ?_) 
                  refine r_op tabOk hnt rfl (s_move rfl ?_) 
                  refine r_op tabOk hnt rfl (s_addN (a := (z * z) * 3) (b := k) rfl rfl (by omega) (by omega) (by omega) ?_) 
                  refine r_op tabOk hnt rfl (s_remN (a := (z * z) * 3 + k) (b := 11) rfl rfl (by omega) (by omega) (by omega) ?_) 
                  refine r_op tabOk hnt rfl (s_move rfl ?_) 
                  refine r_op tabOk hnt rfl (s_mulN (a := z) (b := 7) rfl rfl (by omega) (by omega) (by omega) ?_) 
                  refine r_op tabOk hnt rfl (s_move rfl ?_) 
                  refine r_op tabOk hnt rfl (s_addN (a := z * 7) (b := k) rfl rfl (by omega) (by omega) (by omega) ?_) 
                  refine r_op tabOk hnt rfl (s_remN (a := z * 7 + k) (b := 6) rfl rfl (by omega) (by omega) (by omega) ?_) 
                  refine r_op tabOk hnt rfl (s_addN (a := 1) (b := (z * 7 + k) % 6) rfl rfl (by omega) (by omega) (by omega) ?_) 
                  refine r_op tabOk hnt rfl (s_build tab_53 rfl rfl (b_cons rfl tab_3 rfl rfl rfl (Nat.le_of_ble_eq_true rfl) (b_cons rfl tab_3 rfl rfl rfl (Nat.le_of_ble_eq_true rfl) (b_nil ?_)))) 
                  refine r_op tabOk hnt rfl (s_mkM (f := eSpan) [(⟨((((z * z) * 3 + k) % 11 : Nat) : Int), ((1 + ((z * 7 + k) % 6) : Nat) : Int)⟩ : TSpan)] tab_56 rfl tab_53 ⟨rfl, by decide⟩ (by decide) rfl rfl rfl rfl ?_) 
                  refine r_op tabOk hnt rfl (s_appR0 (f := eSpan) (l := ls) (xs := [(⟨((((z * z) * 3 + k) % 11 : Nat) : Int), ((1 + ((z * 7 + k) % 6) : Nat) : Int)⟩ : TSpan)]) tab_56 rfl tab_53 ⟨rfl, by decide, by decide⟩ (srcM tab_56 rfl (hM_ref0 (f := eSpan) rfl rfl)) rfl rfl (by first | omega | (simp; omega)) ?_) 
                  refine r_op tabOk hnt rfl (s_assign rfl ?_) 
                  refine r_set [(9, pN k), (10, PV.ref 2 0 none), (11, pN z)] [(2, oB true 2 eSpan (ls ++ [(⟨((((z * z) * 3 + k) % 11 : Nat) : Int), ((1 + ((z * 7 + k) % 6) : Nat) : Int)⟩ : TSpan)])), (1, oB true 2 eSpan [(⟨((((z * z) * 3 + k) % 11 : Nat) : Int), ((1 + ((z * 7 + k) % 6) : Nat) : Int)⟩ : TSpan)])] 3 ⟨rfl, rfl, rfl, trivial⟩ rfl rfl ?_
                  refine r_end ?_
                  refine q_block ?_
                  refine q_then ?_
                  refine w_R ?_
                  refine r_op tabOk hnt rfl (s_move rfl ?_) 
                  refine r_op tabOk hnt rfl (s_addN (a := z) (b := 1) rfl rfl (by omega) (by omega) (by omega) ?_) 
                  refine r_op tabOk hnt rfl (s_assign rfl ?_) 
                  refine r_end ?_
                  refine q_then ?_
                  refine ⟨(ls ++ [(⟨((((z * z) * 3 + k) % 11 : Nat) : Int), ((1 + ((z * 7 + k) % 6) : Nat) : Int)⟩ : TSpan)]), (z + 1), ?_, ?_, ⟨[(0, 2)], by rw [hk]; decide, ⟨⟨_, rfl, rfl, rfl⟩, ⟨_, rfl, rfl, rfl⟩, ⟨_, rfl, rfl, rfl⟩, trivial⟩, ⟨⟨_, _, rfl, rfl, rfl, rfl⟩, trivial⟩, by rw [hk]; decide⟩⟩
                  ·
                    exact ⟨by omega, by simp [hzl]⟩
                  · omega
                ·
                  have c8_ := c8
                  try simp only [decide_eq_true_eq, decide_eq_false_iff_not, Bool.not_eq_true', Bool.not_eq_false', Bool.not_true, Bool.not_false, Bool.not_eq_eq_eq_not, Int.not_lt, Int.not_le] at c8
                  refine w_exit ?_
                  refine q_then_exit ?_
                  refine q_then_exit ?_
                  refine q_block_exit ?_
                  refine q_then ?_
                  refine w_seq ?_
                  refine w_R ?_
                  refine r_op tabOk hnt rfl (s_move rfl ?_) 
                  refine r_op tabOk hnt rfl (s_move rfl ?_) 
                  refine r_op tabOk hnt rfl (s_remN (a := k) (b := 7) rfl rfl (by omega) (by omega) (by omega) ?_) 
                  refine r_op tabOk hnt rfl (s_move rfl ?_) 
                  refine r_op tabOk hnt rfl (s_remN (a := k) (b := 9) rfl rfl (by omega) (by omega) (by omega) ?_) 
                  refine r_op tabOk hnt rfl (s_addN (a := 1) (b := k % 9) rfl rfl (by omega) (by omega) (by omega) ?_) 
                  refine r_op tabOk hnt rfl (s_build tab_53 rfl rfl (b_cons rfl tab_3 rfl rfl rfl (Nat.le_of_ble_eq_true rfl) (b_cons rfl tab_3 rfl rfl rfl (Nat.le_of_ble_eq_true rfl) (b_nil ?_)))) 
                  refine r_op tabOk hnt rfl (s_callX (r2 := pB true) (nx1 := 1) (H2 := [(0, oB false 2 eSpan ls)]) (H3 := [(0, oB false 2 eSpan ls)]) [] [] rfl rfl rfl (handed_of (by decide) trivial) rfl rfl rfl rfl rfl rfl (w_burgagelaw7_covers ls false (⟨((k % 7 : Nat) : Int), ((1 + (k % 9) : Nat) : Int)⟩ : TSpan) (by first | omega | assumption | (simp; omega) | decide | (simp; done))) rfl (dist_of rfl) rfl rfl rfl rfl ?_) 
                  refine r_op tabOk hnt rfl (s_not rfl ?_) 
                  refine r_set [(9, pN k), (113, pB (!true))] [(0, oB false 2 eSpan ls)] 1 ⟨rfl, rfl, trivial⟩ rfl rfl ?_
                  refine r_end ?_
                  refine q_then ?_
                  refine w_if rfl (fun e => absurd e (by decide)) (fun _ => ?_)
                  refine w_skip ?_
                  refine q_block ?_
                  refine q_then ?_
                  refine w_R ?_
                  refine r_op tabOk hnt rfl (s_move rfl ?_) 
                  refine r_op tabOk hnt rfl (s_addN (a := k) (b := 1) rfl rfl (by omega) (by omega) (by omega) ?_) 
                  refine r_op tabOk hnt rfl (s_assign rfl ?_) 
                  refine r_end ?_
                  refine q_then ?_
                  refine ⟨(k + 1), ?_, ?_, ⟨[], rfl, ⟨⟨_, rfl, rfl, rfl⟩, trivial⟩, trivial, by rw [hk]; decide⟩⟩
                  ·
                    omega
                  · omega
            ·
              have c7_ := c7
              try simp only [decide_eq_true_eq, decide_eq_false_iff_not, Bool.not_eq_true', Bool.not_eq_false', Bool.not_true, Bool.not_false, Bool.not_eq_eq_eq_not, Int.not_lt, Int.not_le] at c7
              refine w_exit ?_
              refine q_then_exit ?_
              refine q_then_exit ?_
              refine q_block_exit ?_
              refine q_then ?_
              refine w_seq ?_
              refine w_R ?_
              refine r_op tabOk hnt rfl (s_callF rfl rfl rfl (w_burgagelaw7_known) rfl ?_) 
              refine r_op tabOk hnt rfl (s_assign rfl ?_) 
              refine r_end ?_
              refine q_then ?_
              refine w_ret ?_
              exact fin_plain (ret_tmp rfl ret_nil) rfl rfl ⟨rfl, rfl, rfl⟩

end Go.Proofs.Yteedhlgdbankiaa
