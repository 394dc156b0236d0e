/- Walks: printed by a program of this session (wip/tools/walk2.py) out of its notes. -/
import Derived.Test.YtmcgjmpcfiefgaaWPduR
import Derived.Test.YtmcgjmpcfiefgaaWTape
set_option linter.unusedVariables false
set_option linter.unusedSimpArgs false
set_option maxRecDepth 10000
set_option maxHeartbeats 1000000
namespace Go.Proofs.Ytmcgjmpcfiefgaa
open Go Go.Proofs.Ytmcgjmpcfiefgaa.Pv

theorem w_count_New   :
    T Try.prog 16 [] 0 [] (Ret (PV.ptr 0 0) 1 [(0, .obj [pI 0, pI 0, pI 0])]) := by
 refine t_fun tabOk (n := 3) (rs := [.tmp 0]) Try.func16 rfl rfl rfl rfl (Nat.le_of_ble_eq_true rfl) ?_
 intro c hnt hk
 refine w_seq ?_
 refine w_R ?_
 refine qa hnt rfl rfl ?_
 refine r_end ?_
 refine q_then ?_
 refine w_seq ?_
 refine w_R ?_
 refine qo hnt rfl (s_build tab_74 rfl rfl (b_nil ?_))
 refine qo hnt rfl (s_box rfl rfl ?_)
 refine qa hnt rfl rfl ?_
 refine r_set [(0, PV.ptr 0 0)] [(0, .obj [pI 0, pI 0, pI 0])] 1 ⟨rfl, trivial⟩ rfl rfl ?_
 refine r_end ?_
 refine q_then ?_
 refine w_ret ?_
 exact fin_names (nx1 := 1) (H1 := [(0, .obj [pI 0, pI 0, pI 0])]) [(0, 0)] (ret_tmp rfl ret_nil) rfl (by decide) ⟨⟨_, _, rfl, rfl, rfl, rfl⟩, trivial⟩ (by decide) rfl ⟨rfl, rfl, rfl⟩

theorem w_burgageref17_held (n : Int)  :
    T Try.prog 52 [pI n] 0 [] (Ret (pI (heldN n)) 0 []) := by
 refine t_fun tabOk (n := 6) (rs := [.tmp 2]) Try.func52 rfl rfl rfl rfl (Nat.le_of_ble_eq_true rfl) ?_
 intro c hnt hk
 refine w_seq ?_
 refine w_R ?_
 refine qa hnt rfl rfl ?_
 refine r_end ?_
 refine q_then ?_
 refine w_seq ?_
 refine w_R ?_
 refine qm hnt rfl rfl ?_
 refine qo hnt rfl (s_minI rfl ?_)
 refine qo hnt rfl (s_maxI rfl ?_)
 refine qa hnt rfl rfl ?_
 refine r_end ?_
 refine q_then ?_
 refine w_le (s := 2) (y := pI (heldN n)) rfl (le_of_eq (congrArg (fun z : Int => pI z) (show (max (min n 1073741824) 0) = (heldN n) by rfl))) ?_
 refine w_ret ?_
 exact fin_plain (ret_tmp rfl ret_nil) rfl rfl ⟨rfl, rfl, rfl⟩

theorem w_count_Count_Message (m : Int) (e : Int) (b : Int) (hc : 0 ≤ m ∧ m ≤ 1073741824 ∧ 0 ≤ e ∧ e ≤ 1073741824 ∧ 0 ≤ b ∧ b ≤ 1073741824) :
    T Try.prog 17 [PV.ptr 0 0] 1 [(0, .obj [pI m, pI e, pI b])] (Ret (PV.tup []) 1 [(0, .obj [pI (min (m + 1) 1073741824), pI e, pI b])]) := by
 refine t_fun tabOk (n := 11) (rs := []) Try.func17 rfl rfl rfl rfl (Nat.le_of_ble_eq_true rfl) ?_
 intro c hnt hk
 refine w_R ?_
 refine qm hnt rfl rfl ?_
 refine qm hnt rfl rfl ?_
 refine qo hnt rfl (s_nilCheck rfl trivial ?_)
 refine qo hnt rfl (s_fa_ptr tab_74 rfl rfl tab_3 (by decide) rfl ?_)
 refine qo hnt rfl (s_load_ptr1 tab_3 rfl rfl rfl rfl rfl ?_)
 refine qo hnt rfl (s_addi (r := m + 1) rfl rfl rfl (by omega) ?_)
 refine qo hnt rfl (s_minI rfl ?_)
 refine qo hnt rfl (s_nilCheck rfl trivial ?_)
 refine qo hnt rfl (s_fa_ptr tab_74 rfl rfl tab_3 (by decide) rfl ?_)
 refine qo hnt rfl (s_store_ptr tab_3 rfl rfl rfl rfl rfl (Nat.le_of_ble_eq_true rfl) ?_)
 refine r_set [] [(0, .obj [pI (min (m + 1) 1073741824), pI e, pI b])] 1 trivial rfl rfl ?_
 refine r_end ?_
 refine fin_normal ?_
 exact fin_names (nx1 := 1) (H1 := [(0, .obj [pI (min (m + 1) 1073741824), pI e, pI b])]) [(0, 0)] ret_nil rfl (by decide) ⟨⟨_, _, rfl, rfl, rfl, rfl⟩, trivial⟩ (by decide) rfl ⟨rfl, rfl, rfl⟩

theorem w_count_Count_Exception (m : Int) (e : Int) (b : Int) (hc : 0 ≤ m ∧ m ≤ 1073741824 ∧ 0 ≤ e ∧ e ≤ 1073741824 ∧ 0 ≤ b ∧ b ≤ 1073741824) :
    T Try.prog 18 [PV.ptr 0 0] 1 [(0, .obj [pI m, pI e, pI b])] (Ret (PV.tup []) 1 [(0, .obj [pI m, pI (min (e + 1) 1073741824), pI b])]) := by
 refine t_fun tabOk (n := 11) (rs := []) Try.func18 rfl rfl rfl rfl (Nat.le_of_ble_eq_true rfl) ?_
 intro c hnt hk
 refine w_R ?_
 refine qm hnt rfl rfl ?_
 refine qm hnt rfl rfl ?_
 refine qo hnt rfl (s_nilCheck rfl trivial ?_)
 refine qo hnt rfl (s_fa_ptr tab_74 rfl rfl tab_3 (by decide) rfl ?_)
 refine qo hnt rfl (s_load_ptr1 tab_3 rfl rfl rfl rfl rfl ?_)
 refine qo hnt rfl (s_addi (r := e + 1) rfl rfl rfl (by omega) ?_)
 refine qo hnt rfl (s_minI rfl ?_)
 refine qo hnt rfl (s_nilCheck rfl trivial ?_)
 refine qo hnt rfl (s_fa_ptr tab_74 rfl rfl tab_3 (by decide) rfl ?_)
 refine qo hnt rfl (s_store_ptr tab_3 rfl rfl rfl rfl rfl (Nat.le_of_ble_eq_true rfl) ?_)
 refine r_set [] [(0, .obj [pI m, pI (min (e + 1) 1073741824), pI b])] 1 trivial rfl rfl ?_
 refine r_end ?_
 refine fin_normal ?_
 exact fin_names (nx1 := 1) (H1 := [(0, .obj [pI m, pI (min (e + 1) 1073741824), pI b])]) [(0, 0)] ret_nil rfl (by decide) ⟨⟨_, _, rfl, rfl, rfl, rfl⟩, trivial⟩ (by decide) rfl ⟨rfl, rfl, rfl⟩

theorem w_count_Count_Bad (m : Int) (e : Int) (b : Int) (n : Int) (hc : 0 ≤ m ∧ m ≤ 1073741824 ∧ 0 ≤ e ∧ e ≤ 1073741824 ∧ 0 ≤ b ∧ b ≤ 1073741824) (hn : -9223372036854775808 ≤ n ∧ n ≤ 9223372036854775807) :
    T Try.prog 19 [PV.ptr 0 0, pI n] 1 [(0, .obj [pI m, pI e, pI b])] (Ret (PV.tup []) 1 [(0, .obj [pI m, pI e, pI (b + (max 0 (min n (1073741824 - b))))])]) := by
 refine t_fun tabOk (n := 19) (rs := []) Try.func19 rfl rfl rfl rfl (Nat.le_of_ble_eq_true rfl) ?_
 intro c hnt hk
 refine W_drawn tabOk mixed hnt [[], [0], [0, 1], [0, 1, 2], [], [], [5], [5, 6], [5, 6, 7], [5, 6, 7, 8], [4, 5, 6, 7, 8, 9], [4, 5, 6, 7, 8, 9, 10], [0, 1, 2, 3, 4, 5, 6, 7, 8, 9, 10, 11], [0, 1, 2, 3, 4, 5, 6, 7, 8, 9, 10, 11, 12], [0, 1, 2, 3, 4, 5, 6, 7, 8, 9, 10, 11, 12, 13], [0, 1, 2, 3, 4, 5, 6, 7, 8, 9, 10, 11, 12, 13, 14]] (by kernel_rfl) ?_
 refine d_op ?_
 refine x_run0 [(0, PV.ptr 0 0)] [] rfl rfl rfl rfl (s_move rfl ⟨rfl, rfl, rfl⟩) ?_
 refine d_op ?_
 refine x_run0 [(4, PV.ptr 0 0)] [0] rfl rfl rfl rfl (s_nilCheck rfl trivial ⟨rfl, rfl, rfl⟩) ?_
 refine d_op ?_
 refine x_run0 [(5, PV.ptr 0 0)] [0, 1] rfl rfl rfl rfl (s_fa_ptr tab_74 rfl rfl tab_3 (by decide) rfl ⟨rfl, rfl, rfl⟩) ?_
 refine d_op ?_
 refine x_run [(6, PV.ptr 0 2)] [0, 1, 2] [(0, .obj [pI m, pI e, pI b])] [] [(0, .obj [pI m, pI e, pI b])] [] [(0, .obj [pI m, pI e, pI b])] rfl rfl rfl rfl rfl rfl (s_load_ptr1 tab_3 rfl rfl rfl rfl rfl ⟨rfl, rfl, rfl⟩) rfl ⟨rfl, trivial⟩ rfl rfl ?_
 refine d_op ?_
 refine x_run0 [(1, pI n)] [] rfl rfl rfl rfl (s_move rfl ⟨rfl, rfl, rfl⟩) ?_
 refine d_op ?_
 refine x_run0 [(0, PV.ptr 0 0)] [] rfl rfl rfl rfl (s_move rfl ⟨rfl, rfl, rfl⟩) ?_
 refine d_op ?_
 refine x_run0 [(9, PV.ptr 0 0)] [5] rfl rfl rfl rfl (s_nilCheck rfl trivial ⟨rfl, rfl, rfl⟩) ?_
 refine d_op ?_
 refine x_run0 [(10, PV.ptr 0 0)] [5, 6] rfl rfl rfl rfl (s_fa_ptr tab_74 rfl rfl tab_3 (by decide) rfl ⟨rfl, rfl, rfl⟩) ?_
 refine d_op ?_
 refine x_run [(11, PV.ptr 0 2)] [5, 6, 7] [(0, .obj [pI m, pI e, pI b])] [] [(0, .obj [pI m, pI e, pI b])] [] [(0, .obj [pI m, pI e, pI b])] rfl rfl rfl rfl rfl rfl (s_load_ptr1 tab_3 rfl rfl rfl rfl rfl ⟨rfl, rfl, rfl⟩) rfl ⟨rfl, trivial⟩ rfl rfl ?_
 refine d_op ?_
 refine x_run0 [(12, pI b)] [5, 6, 7, 8] rfl rfl rfl rfl (s_subi (r := 1073741824 - b) rfl rfl rfl (by omega) ⟨rfl, rfl, rfl⟩) ?_
 refine d_op ?_
 refine x_run0 [(8, pI n), (13, pI (1073741824 - b))] [4, 5, 6, 7, 8, 9] rfl rfl rfl rfl (s_minI rfl ⟨rfl, rfl, rfl⟩) ?_
 refine d_op ?_
 refine x_run0 [(14, pI (min n (1073741824 - b)))] [4, 5, 6, 7, 8, 9, 10] rfl rfl rfl rfl (s_maxI rfl ⟨rfl, rfl, rfl⟩) ?_
 refine d_op ?_
 refine x_run0 [(7, pI b), (15, pI (max 0 (min n (1073741824 - b))))] [0, 1, 2, 3, 4, 5, 6, 7, 8, 9, 10, 11] rfl rfl rfl rfl (s_addi (r := b + (max 0 (min n (1073741824 - b)))) rfl rfl rfl (by omega) ⟨rfl, rfl, rfl⟩) ?_
 refine d_op ?_
 refine x_run0 [(4, PV.ptr 0 0)] [0, 1, 2, 3, 4, 5, 6, 7, 8, 9, 10, 11, 12] rfl rfl rfl rfl (s_nilCheck rfl trivial ⟨rfl, rfl, rfl⟩) ?_
 refine d_op ?_
 refine x_run0 [(17, PV.ptr 0 0)] [0, 1, 2, 3, 4, 5, 6, 7, 8, 9, 10, 11, 12, 13] rfl rfl rfl rfl (s_fa_ptr tab_74 rfl rfl tab_3 (by decide) rfl ⟨rfl, rfl, rfl⟩) ?_
 refine d_op ?_
 refine x_run [(18, PV.ptr 0 2), (16, pI (b + (max 0 (min n (1073741824 - b)))))] [0, 1, 2, 3, 4, 5, 6, 7, 8, 9, 10, 11, 12, 13, 14] [] [(0, .obj [pI m, pI e, pI b])] [(0, .obj [pI m, pI e, pI (b + (max 0 (min n (1073741824 - b))))])] [(0, .obj [pI m, pI e, pI (b + (max 0 (min n (1073741824 - b))))])] [(0, .obj [pI m, pI e, pI (b + (max 0 (min n (1073741824 - b))))])] rfl rfl rfl rfl rfl rfl (s_store_ptr tab_3 rfl rfl rfl rfl rfl (Nat.le_of_ble_eq_true rfl) ⟨rfl, rfl, rfl⟩) rfl trivial rfl rfl ?_
 refine d_end ⟨by kernel_rfl, ?_⟩
 refine fin_normal ?_
 exact fin_names (nx1 := 1) (H1 := [(0, .obj [pI m, pI e, pI (b + (max 0 (min n (1073741824 - b))))])]) [(0, 0)] ret_nil rfl (by decide) ⟨⟨_, _, rfl, rfl, rfl, rfl⟩, trivial⟩ (by decide) rfl ⟨rfl, rfl, rfl⟩

theorem w_count_Count_Get (m : Int) (e : Int) (b : Int) (s : Int)  :
    T Try.prog 21 [PV.ptr 0 0, pI s] 1 [(0, .obj [pI m, pI e, pI b])] (Ret (PV.tup [p16 (cntGet m e b s), pB (cntOk s)]) 1 [(0, .obj [pI m, pI e, pI b])]) := by
 refine t_fun tabOk (n := 29) (rs := [.tmp 4, .tmp 5]) Try.func21 rfl rfl rfl rfl (Nat.le_of_ble_eq_true rfl) ?_
 intro c hnt hk
 refine w_seq ?_
 refine w_R ?_
 refine qa hnt rfl rfl ?_
 refine qa hnt rfl rfl ?_
 refine r_end ?_
 refine q_then ?_
 refine w_seq ?_
 refine w_seq ?_
 refine w_R ?_
 refine qm hnt rfl rfl ?_
 refine r_end ?_
 refine q_then ?_
 refine w_block ?_
 refine w_seq ?_
 refine w_seq ?_
 refine w_R ?_
 refine qo hnt rfl (s_eql rfl rfl ?_)
 refine qa hnt rfl rfl ?_
 refine r_end ?_
 refine q_then ?_
 refine w_if rfl (fun c1 => ?_) (fun c1 => ?_)
 ·
  have c1_ := c1
  try simp only [sB] at c1
  refine w_skip ?_
  refine q_then ?_
  refine w_if rfl (fun _ => ?_) (fun e => absurd (e.symm.trans c1_) (by decide))
  refine w_seq ?_
  refine w_R ?_
  refine qm hnt rfl rfl ?_
  refine qo hnt rfl (s_nilCheck rfl trivial ?_)
  refine qo hnt rfl (s_fa_ptr tab_74 rfl rfl tab_3 (by decide) rfl ?_)
  refine qo hnt rfl (s_load_ptr1 tab_3 rfl rfl rfl rfl rfl ?_)
  refine qo hnt rfl (s_cv16 tab_3 tab_30 rfl rfl rfl ?_)
  refine qa hnt rfl rfl ?_
  refine qa hnt rfl rfl ?_
  refine r_end ?_
  refine q_then ?_
  refine w_le (s := 4) (y := p16 (cntGet m e b s)) rfl (le_of_eq (congrArg (fun z : UInt16 => p16 z) (show (u16I m) = (cntGet m e b s) by first | exact (cntGet_1 (by omega)).symm | exact (cntGet_2 (by omega)).symm | exact (cntGet_3 (by omega)).symm | exact (cntGet_no (by omega)).symm | exact (decide_eq_true (by omega)).symm | exact (decide_eq_false (by omega)).symm))) ?_
  refine w_le (s := 5) (y := pB (cntOk s)) rfl (le_of_eq (congrArg (fun z : Bool => pB z) (show true = (cntOk s) by first | exact (cntGet_1 (by omega)).symm | exact (cntGet_2 (by omega)).symm | exact (cntGet_3 (by omega)).symm | exact (cntGet_no (by omega)).symm | exact (decide_eq_true (by omega)).symm | exact (decide_eq_false (by omega)).symm))) ?_
  refine w_ret ?_
  refine q_block_ret ?_
  refine q_then_ret ?_
  exact fin_names (nx1 := 1) (H1 := [(0, .obj [pI m, pI e, pI b])]) [(0, 0)] (ret_tmp rfl (ret_tmp rfl ret_nil)) rfl (by decide) ⟨⟨_, _, rfl, rfl, rfl, rfl⟩, trivial⟩ (by decide) rfl ⟨rfl, rfl, rfl⟩
 ·
  have c1_ := c1
  try simp only [sB] at c1
  refine w_R ?_
  refine qo hnt rfl (s_eql rfl rfl ?_)
  refine qa hnt rfl rfl ?_
  refine r_end ?_
  refine q_then ?_
  refine w_if rfl (fun c2 => ?_) (fun c2 => ?_)
  ·
   have c2_ := c2
   try simp only [sB] at c2
   refine w_seq ?_
   refine w_R ?_
   refine qm hnt rfl rfl ?_
   refine qo hnt rfl (s_nilCheck rfl trivial ?_)
   refine qo hnt rfl (s_fa_ptr tab_74 rfl rfl tab_3 (by decide) rfl ?_)
   refine qo hnt rfl (s_load_ptr1 tab_3 rfl rfl rfl rfl rfl ?_)
   refine qo hnt rfl (s_cv16 tab_3 tab_30 rfl rfl rfl ?_)
   refine qa hnt rfl rfl ?_
   refine qa hnt rfl rfl ?_
   refine r_end ?_
   refine q_then ?_
   refine w_le (s := 4) (y := p16 (cntGet m e b s)) rfl (le_of_eq (congrArg (fun z : UInt16 => p16 z) (show (u16I m) = (cntGet m e b s) by first | exact (cntGet_1 (by omega)).symm | exact (cntGet_2 (by omega)).symm | exact (cntGet_3 (by omega)).symm | exact (cntGet_no (by omega)).symm | exact (decide_eq_true (by omega)).symm | exact (decide_eq_false (by omega)).symm))) ?_
   refine w_le (s := 5) (y := pB (cntOk s)) rfl (le_of_eq (congrArg (fun z : Bool => pB z) (show true = (cntOk s) by first | exact (cntGet_1 (by omega)).symm | exact (cntGet_2 (by omega)).symm | exact (cntGet_3 (by omega)).symm | exact (cntGet_no (by omega)).symm | exact (decide_eq_true (by omega)).symm | exact (decide_eq_false (by omega)).symm))) ?_
   refine w_ret ?_
   refine q_block_ret ?_
   refine q_then_ret ?_
   exact fin_names (nx1 := 1) (H1 := [(0, .obj [pI m, pI e, pI b])]) [(0, 0)] (ret_tmp rfl (ret_tmp rfl ret_nil)) rfl (by decide) ⟨⟨_, _, rfl, rfl, rfl, rfl⟩, trivial⟩ (by decide) rfl ⟨rfl, rfl, rfl⟩
  ·
   have c2_ := c2
   try simp only [sB] at c2
   refine w_seq ?_
   refine w_R ?_
   refine qo hnt rfl (s_eql rfl rfl ?_)
   refine qa hnt rfl rfl ?_
   refine r_end ?_
   refine q_then ?_
   refine w_if rfl (fun c3 => ?_) (fun c3 => ?_)
   ·
    have c3_ := c3
    try simp only [sB] at c3
    refine w_seq ?_
    refine w_R ?_
    refine qm hnt rfl rfl ?_
    refine qo hnt rfl (s_nilCheck rfl trivial ?_)
    refine qo hnt rfl (s_fa_ptr tab_74 rfl rfl tab_3 (by decide) rfl ?_)
    refine qo hnt rfl (s_load_ptr1 tab_3 rfl rfl rfl rfl rfl ?_)
    refine qo hnt rfl (s_cv16 tab_3 tab_30 rfl rfl rfl ?_)
    refine qa hnt rfl rfl ?_
    refine qa hnt rfl rfl ?_
    refine r_end ?_
    refine q_then ?_
    refine w_le (s := 4) (y := p16 (cntGet m e b s)) rfl (le_of_eq (congrArg (fun z : UInt16 => p16 z) (show (u16I b) = (cntGet m e b s) by first | exact (cntGet_1 (by omega)).symm | exact (cntGet_2 (by omega)).symm | exact (cntGet_3 (by omega)).symm | exact (cntGet_no (by omega)).symm | exact (decide_eq_true (by omega)).symm | exact (decide_eq_false (by omega)).symm))) ?_
    refine w_le (s := 5) (y := pB (cntOk s)) rfl (le_of_eq (congrArg (fun z : Bool => pB z) (show true = (cntOk s) by first | exact (cntGet_1 (by omega)).symm | exact (cntGet_2 (by omega)).symm | exact (cntGet_3 (by omega)).symm | exact (cntGet_no (by omega)).symm | exact (decide_eq_true (by omega)).symm | exact (decide_eq_false (by omega)).symm))) ?_
    refine w_ret ?_
    refine q_block_ret ?_
    refine q_then_ret ?_
    exact fin_names (nx1 := 1) (H1 := [(0, .obj [pI m, pI e, pI b])]) [(0, 0)] (ret_tmp rfl (ret_tmp rfl ret_nil)) rfl (by decide) ⟨⟨_, _, rfl, rfl, rfl, rfl⟩, trivial⟩ (by decide) rfl ⟨rfl, rfl, rfl⟩
   ·
    have c3_ := c3
    try simp only [sB] at c3
    refine w_seq ?_
    refine w_R ?_
    refine qo hnt rfl (s_eql rfl rfl ?_)
    refine qa hnt rfl rfl ?_
    refine r_end ?_
    refine q_then ?_
    refine w_if rfl (fun c4 => ?_) (fun c4 => ?_)
    ·
     have c4_ := c4
     try simp only [sB] at c4
     refine w_seq ?_
     refine w_R ?_
     refine qm hnt rfl rfl ?_
     refine qo hnt rfl (s_nilCheck rfl trivial ?_)
     refine qo hnt rfl (s_fa_ptr tab_74 rfl rfl tab_3 (by decide) rfl ?_)
     refine qo hnt rfl (s_load_ptr1 tab_3 rfl rfl rfl rfl rfl ?_)
     refine qo hnt rfl (s_cv16 tab_3 tab_30 rfl rfl rfl ?_)
     refine qa hnt rfl rfl ?_
     refine qa hnt rfl rfl ?_
     refine r_end ?_
     refine q_then ?_
     refine w_le (s := 4) (y := p16 (cntGet m e b s)) rfl (le_of_eq (congrArg (fun z : UInt16 => p16 z) (show (u16I e) = (cntGet m e b s) by first | exact (cntGet_1 (by omega)).symm | exact (cntGet_2 (by omega)).symm | exact (cntGet_3 (by omega)).symm | exact (cntGet_no (by omega)).symm | exact (decide_eq_true (by omega)).symm | exact (decide_eq_false (by omega)).symm))) ?_
     refine w_le (s := 5) (y := pB (cntOk s)) rfl (le_of_eq (congrArg (fun z : Bool => pB z) (show true = (cntOk s) by first | exact (cntGet_1 (by omega)).symm | exact (cntGet_2 (by omega)).symm | exact (cntGet_3 (by omega)).symm | exact (cntGet_no (by omega)).symm | exact (decide_eq_true (by omega)).symm | exact (decide_eq_false (by omega)).symm))) ?_
     refine w_ret ?_
     refine q_block_ret ?_
     refine q_then_ret ?_
     exact fin_names (nx1 := 1) (H1 := [(0, .obj [pI m, pI e, pI b])]) [(0, 0)] (ret_tmp rfl (ret_tmp rfl ret_nil)) rfl (by decide) ⟨⟨_, _, rfl, rfl, rfl, rfl⟩, trivial⟩ (by decide) rfl ⟨rfl, rfl, rfl⟩
    ·
     have c4_ := c4
     try simp only [sB] at c4
     refine w_skip ?_
     refine q_block ?_
     refine q_then ?_
     refine w_seq ?_
     refine w_R ?_
     refine qa hnt rfl rfl ?_
     refine qa hnt rfl rfl ?_
     refine r_end ?_
     refine q_then ?_
     refine w_le (s := 4) (y := p16 (cntGet m e b s)) rfl (le_of_eq (congrArg (fun z : UInt16 => p16 z) (show 0 = (cntGet m e b s) by first | exact (cntGet_1 (by omega)).symm | exact (cntGet_2 (by omega)).symm | exact (cntGet_3 (by omega)).symm | exact (cntGet_no (by omega)).symm | exact (decide_eq_true (by omega)).symm | exact (decide_eq_false (by omega)).symm))) ?_
     refine w_le (s := 5) (y := pB (cntOk s)) rfl (le_of_eq (congrArg (fun z : Bool => pB z) (show false = (cntOk s) by first | exact (cntGet_1 (by omega)).symm | exact (cntGet_2 (by omega)).symm | exact (cntGet_3 (by omega)).symm | exact (cntGet_no (by omega)).symm | exact (decide_eq_true (by omega)).symm | exact (decide_eq_false (by omega)).symm))) ?_
     refine w_ret ?_
     exact fin_names (nx1 := 1) (H1 := [(0, .obj [pI m, pI e, pI b])]) [(0, 0)] (ret_tmp rfl (ret_tmp rfl ret_nil)) rfl (by decide) ⟨⟨_, _, rfl, rfl, rfl, rfl⟩, trivial⟩ (by decide) rfl ⟨rfl, rfl, rfl⟩

theorem w_burgageref17_Count_Message (m : Int) (e : Int) (b : Int) (hc : 0 ≤ m ∧ m ≤ 1073741824 ∧ 0 ≤ e ∧ e ≤ 1073741824 ∧ 0 ≤ b ∧ b ≤ 1073741824) :
    T Try.prog 34 [PV.ptr 0 0] 1 [(0, .obj [pI m, pI e, pI b])] (Ret (PV.tup []) 1 [(0, .obj [pI (min (m + 1) 1073741824), pI e, pI b])]) := by
 refine t_fun tabOk (n := 11) (rs := []) Try.func34 rfl rfl rfl rfl (Nat.le_of_ble_eq_true rfl) ?_
 intro c hnt hk
 refine w_R ?_
 refine qm hnt rfl rfl ?_
 refine qm hnt rfl rfl ?_
 refine qo hnt rfl (s_nilCheck rfl trivial ?_)
 refine qo hnt rfl (s_fa_ptr tab_71 rfl rfl tab_3 (by decide) rfl ?_)
 refine qo hnt rfl (s_load_ptr1 tab_3 rfl rfl rfl rfl rfl ?_)
 refine qo hnt rfl (s_addi (r := m + 1) rfl rfl rfl (by omega) ?_)
 refine qo hnt rfl (s_callF rfl rfl rfl (w_burgageref17_held (m + 1)) rfl ?_)
 refine qo hnt rfl (s_nilCheck rfl trivial ?_)
 refine qo hnt rfl (s_fa_ptr tab_71 rfl rfl tab_3 (by decide) rfl ?_)
 refine qo hnt rfl (s_store_ptr tab_3 rfl rfl rfl rfl rfl (Nat.le_of_ble_eq_true rfl) ?_)
 refine r_set [] [(0, .obj [pI (heldN (m + 1)), pI e, pI b])] 1 trivial rfl rfl ?_
 refine r_leO (n := 0) (ds := [pI (min (m + 1) 1073741824), pI e, pI b]) rfl ⟨le_of_eq (congrArg (fun z : Int => pI z) (show (heldN (m + 1)) = (min (m + 1) 1073741824) by first | rfl | (simp only [heldN]; omega))), le_refl _, le_refl _, trivial⟩ ?_
 refine r_end ?_
 refine fin_normal ?_
 exact fin_names (nx1 := 1) (H1 := [(0, .obj [pI (min (m + 1) 1073741824), pI e, pI b])]) [(0, 0)] ret_nil rfl (by decide) ⟨⟨_, _, rfl, rfl, rfl, rfl⟩, trivial⟩ (by decide) rfl ⟨rfl, rfl, rfl⟩

theorem w_burgageref17_Count_Exception (m : Int) (e : Int) (b : Int) (hc : 0 ≤ m ∧ m ≤ 1073741824 ∧ 0 ≤ e ∧ e ≤ 1073741824 ∧ 0 ≤ b ∧ b ≤ 1073741824) :
    T Try.prog 35 [PV.ptr 0 0] 1 [(0, .obj [pI m, pI e, pI b])] (Ret (PV.tup []) 1 [(0, .obj [pI m, pI (min (e + 1) 1073741824), pI b])]) := by
 refine t_fun tabOk (n := 11) (rs := []) Try.func35 rfl rfl rfl rfl (Nat.le_of_ble_eq_true rfl) ?_
 intro c hnt hk
 refine w_R ?_
 refine qm hnt rfl rfl ?_
 refine qm hnt rfl rfl ?_
 refine qo hnt rfl (s_nilCheck rfl trivial ?_)
 refine qo hnt rfl (s_fa_ptr tab_71 rfl rfl tab_3 (by decide) rfl ?_)
 refine qo hnt rfl (s_load_ptr1 tab_3 rfl rfl rfl rfl rfl ?_)
 refine qo hnt rfl (s_addi (r := e + 1) rfl rfl rfl (by omega) ?_)
 refine qo hnt rfl (s_callF rfl rfl rfl (w_burgageref17_held (e + 1)) rfl ?_)
 refine qo hnt rfl (s_nilCheck rfl trivial ?_)
 refine qo hnt rfl (s_fa_ptr tab_71 rfl rfl tab_3 (by decide) rfl ?_)
 refine qo hnt rfl (s_store_ptr tab_3 rfl rfl rfl rfl rfl (Nat.le_of_ble_eq_true rfl) ?_)
 refine r_set [] [(0, .obj [pI m, pI (heldN (e + 1)), pI b])] 1 trivial rfl rfl ?_
 refine r_leO (n := 0) (ds := [pI m, pI (min (e + 1) 1073741824), pI b]) rfl ⟨le_refl _, le_of_eq (congrArg (fun z : Int => pI z) (show (heldN (e + 1)) = (min (e + 1) 1073741824) by first | rfl | (simp only [heldN]; omega))), le_refl _, trivial⟩ ?_
 refine r_end ?_
 refine fin_normal ?_
 exact fin_names (nx1 := 1) (H1 := [(0, .obj [pI m, pI (min (e + 1) 1073741824), pI b])]) [(0, 0)] ret_nil rfl (by decide) ⟨⟨_, _, rfl, rfl, rfl, rfl⟩, trivial⟩ (by decide) rfl ⟨rfl, rfl, rfl⟩

theorem w_burgageref17_Count_Bad (m : Int) (e : Int) (b : Int) (n : Int) (hc : 0 ≤ m ∧ m ≤ 1073741824 ∧ 0 ≤ e ∧ e ≤ 1073741824 ∧ 0 ≤ b ∧ b ≤ 1073741824) (hn : -9223372036854775808 ≤ n ∧ n ≤ 9223372036854775807) :
    T Try.prog 36 [PV.ptr 0 0, pI n] 1 [(0, .obj [pI m, pI e, pI b])] (Ret (PV.tup []) 1 [(0, .obj [pI m, pI e, pI (heldN (b + (heldN n)))])]) := by
 refine t_fun tabOk (n := 15) (rs := []) Try.func36 rfl rfl rfl rfl (Nat.le_of_ble_eq_true rfl) ?_
 intro c hnt hk
 refine W_drawn tabOk mixed hnt [[], [], [1], [1, 2], [1, 2, 3], [], [5], [1, 2, 3, 4, 5, 6], [1, 2, 3, 4, 5, 6, 7], [0, 1, 2, 3, 4, 5, 6, 7, 8], [0, 1, 2, 3, 4, 5, 6, 7, 8, 9], [0, 1, 2, 3, 4, 5, 6, 7, 8, 9, 10]] (by kernel_rfl) ?_
 refine d_op ?_
 refine x_run0 [(0, PV.ptr 0 0)] [] rfl rfl rfl rfl (s_move rfl ⟨rfl, rfl, rfl⟩) ?_
 refine d_op ?_
 refine x_run0 [(0, PV.ptr 0 0)] [] rfl rfl rfl rfl (s_move rfl ⟨rfl, rfl, rfl⟩) ?_
 refine d_op ?_
 refine x_run0 [(5, PV.ptr 0 0)] [1] rfl rfl rfl rfl (s_nilCheck rfl trivial ⟨rfl, rfl, rfl⟩) ?_
 refine d_op ?_
 refine x_run0 [(6, PV.ptr 0 0)] [1, 2] rfl rfl rfl rfl (s_fa_ptr tab_71 rfl rfl tab_3 (by decide) rfl ⟨rfl, rfl, rfl⟩) ?_
 refine d_op ?_
 refine x_run [(7, PV.ptr 0 2)] [1, 2, 3] [(0, .obj [pI m, pI e, pI b])] [] [(0, .obj [pI m, pI e, pI b])] [] [(0, .obj [pI m, pI e, pI b])] rfl rfl rfl rfl rfl rfl (s_load_ptr1 tab_3 rfl rfl rfl rfl rfl ⟨rfl, rfl, rfl⟩) rfl ⟨rfl, trivial⟩ rfl rfl ?_
 refine d_op ?_
 refine x_run0 [(1, pI n)] [] rfl rfl rfl rfl (s_move rfl ⟨rfl, rfl, rfl⟩) ?_
 refine d_op ?_
 refine x_run0 [(9, pI n)] [5] rfl rfl rfl rfl (s_callF rfl rfl rfl (w_burgageref17_held n) rfl ⟨rfl, rfl, rfl⟩) ?_
 refine d_op ?_
 refine x_run0 [(8, pI b), (10, pI (heldN n))] [1, 2, 3, 4, 5, 6] rfl rfl rfl rfl (s_addi (r := b + (heldN n)) rfl rfl rfl (by unfold heldN; omega) ⟨rfl, rfl, rfl⟩) ?_
 refine d_op ?_
 refine x_run0 [(11, pI (b + (heldN n)))] [1, 2, 3, 4, 5, 6, 7] rfl rfl rfl rfl (s_callF rfl rfl rfl (w_burgageref17_held (b + (heldN n))) rfl ⟨rfl, rfl, rfl⟩) ?_
 refine d_op ?_
 refine x_run0 [(4, PV.ptr 0 0)] [0, 1, 2, 3, 4, 5, 6, 7, 8] rfl rfl rfl rfl (s_nilCheck rfl trivial ⟨rfl, rfl, rfl⟩) ?_
 refine d_op ?_
 refine x_run0 [(13, PV.ptr 0 0)] [0, 1, 2, 3, 4, 5, 6, 7, 8, 9] rfl rfl rfl rfl (s_fa_ptr tab_71 rfl rfl tab_3 (by decide) rfl ⟨rfl, rfl, rfl⟩) ?_
 refine d_op ?_
 refine x_run [(14, PV.ptr 0 2), (12, pI (heldN (b + (heldN n))))] [0, 1, 2, 3, 4, 5, 6, 7, 8, 9, 10] [] [(0, .obj [pI m, pI e, pI b])] [(0, .obj [pI m, pI e, pI (heldN (b + (heldN n)))])] [(0, .obj [pI m, pI e, pI (heldN (b + (heldN n)))])] [(0, .obj [pI m, pI e, pI (heldN (b + (heldN n)))])] rfl rfl rfl rfl rfl rfl (s_store_ptr tab_3 rfl rfl rfl rfl rfl (Nat.le_of_ble_eq_true rfl) ⟨rfl, rfl, rfl⟩) rfl trivial rfl rfl ?_
 refine d_end ⟨by kernel_rfl, ?_⟩
 refine fin_normal ?_
 exact fin_names (nx1 := 1) (H1 := [(0, .obj [pI m, pI e, pI (heldN (b + (heldN n)))])]) [(0, 0)] ret_nil rfl (by decide) ⟨⟨_, _, rfl, rfl, rfl, rfl⟩, trivial⟩ (by decide) rfl ⟨rfl, rfl, rfl⟩

theorem w_burgageref17_Count_Get (m : Int) (e : Int) (b : Int) (s : Int)  :
    T Try.prog 39 [PV.ptr 0 0, pI s] 1 [(0, .obj [pI m, pI e, pI b])] (Ret (PV.tup [p16 (cntGet m e b s), pB (cntOk s)]) 1 [(0, .obj [pI m, pI e, pI b])]) := by
 refine t_fun tabOk (n := 29) (rs := [.tmp 4, .tmp 5]) Try.func39 rfl rfl rfl rfl (Nat.le_of_ble_eq_true rfl) ?_
 intro c hnt hk
 refine w_seq ?_
 refine w_R ?_
 refine qa hnt rfl rfl ?_
 refine qa hnt rfl rfl ?_
 refine r_end ?_
 refine q_then ?_
 refine w_seq ?_
 refine w_seq ?_
 refine w_R ?_
 refine qm hnt rfl rfl ?_
 refine r_end ?_
 refine q_then ?_
 refine w_block ?_
 refine w_seq ?_
 refine w_seq ?_
 refine w_R ?_
 refine qo hnt rfl (s_eql rfl rfl ?_)
 refine qa hnt rfl rfl ?_
 refine r_end ?_
 refine q_then ?_
 refine w_if rfl (fun c1 => ?_) (fun c1 => ?_)
 ·
  have c1_ := c1
  try simp only [sB] at c1
  refine w_skip ?_
  refine q_then ?_
  refine w_if rfl (fun _ => ?_) (fun e => absurd (e.symm.trans c1_) (by decide))
  refine w_seq ?_
  refine w_R ?_
  refine qm hnt rfl rfl ?_
  refine qo hnt rfl (s_nilCheck rfl trivial ?_)
  refine qo hnt rfl (s_fa_ptr tab_71 rfl rfl tab_3 (by decide) rfl ?_)
  refine qo hnt rfl (s_load_ptr1 tab_3 rfl rfl rfl rfl rfl ?_)
  refine qo hnt rfl (s_cv16 tab_3 tab_30 rfl rfl rfl ?_)
  refine qa hnt rfl rfl ?_
  refine qa hnt rfl rfl ?_
  refine r_end ?_
  refine q_then ?_
  refine w_le (s := 4) (y := p16 (cntGet m e b s)) rfl (le_of_eq (congrArg (fun z : UInt16 => p16 z) (show (u16I m) = (cntGet m e b s) by first | exact (cntGet_1 (by omega)).symm | exact (cntGet_2 (by omega)).symm | exact (cntGet_3 (by omega)).symm | exact (cntGet_no (by omega)).symm | exact (decide_eq_true (by omega)).symm | exact (decide_eq_false (by omega)).symm))) ?_
  refine w_le (s := 5) (y := pB (cntOk s)) rfl (le_of_eq (congrArg (fun z : Bool => pB z) (show true = (cntOk s) by first | exact (cntGet_1 (by omega)).symm | exact (cntGet_2 (by omega)).symm | exact (cntGet_3 (by omega)).symm | exact (cntGet_no (by omega)).symm | exact (decide_eq_true (by omega)).symm | exact (decide_eq_false (by omega)).symm))) ?_
  refine w_ret ?_
  refine q_block_ret ?_
  refine q_then_ret ?_
  exact fin_names (nx1 := 1) (H1 := [(0, .obj [pI m, pI e, pI b])]) [(0, 0)] (ret_tmp rfl (ret_tmp rfl ret_nil)) rfl (by decide) ⟨⟨_, _, rfl, rfl, rfl, rfl⟩, trivial⟩ (by decide) rfl ⟨rfl, rfl, rfl⟩
 ·
  have c1_ := c1
  try simp only [sB] at c1
  refine w_R ?_
  refine qo hnt rfl (s_eql rfl rfl ?_)
  refine qa hnt rfl rfl ?_
  refine r_end ?_
  refine q_then ?_
  refine w_if rfl (fun c2 => ?_) (fun c2 => ?_)
  ·
   have c2_ := c2
   try simp only [sB] at c2
   refine w_seq ?_
   refine w_R ?_
   refine qm hnt rfl rfl ?_
   refine qo hnt rfl (s_nilCheck rfl trivial ?_)
   refine qo hnt rfl (s_fa_ptr tab_71 rfl rfl tab_3 (by decide) rfl ?_)
   refine qo hnt rfl (s_load_ptr1 tab_3 rfl rfl rfl rfl rfl ?_)
   refine qo hnt rfl (s_cv16 tab_3 tab_30 rfl rfl rfl ?_)
   refine qa hnt rfl rfl ?_
   refine qa hnt rfl rfl ?_
   refine r_end ?_
   refine q_then ?_
   refine w_le (s := 4) (y := p16 (cntGet m e b s)) rfl (le_of_eq (congrArg (fun z : UInt16 => p16 z) (show (u16I m) = (cntGet m e b s) by first | exact (cntGet_1 (by omega)).symm | exact (cntGet_2 (by omega)).symm | exact (cntGet_3 (by omega)).symm | exact (cntGet_no (by omega)).symm | exact (decide_eq_true (by omega)).symm | exact (decide_eq_false (by omega)).symm))) ?_
   refine w_le (s := 5) (y := pB (cntOk s)) rfl (le_of_eq (congrArg (fun z : Bool => pB z) (show true = (cntOk s) by first | exact (cntGet_1 (by omega)).symm | exact (cntGet_2 (by omega)).symm | exact (cntGet_3 (by omega)).symm | exact (cntGet_no (by omega)).symm | exact (decide_eq_true (by omega)).symm | exact (decide_eq_false (by omega)).symm))) ?_
   refine w_ret ?_
   refine q_block_ret ?_
   refine q_then_ret ?_
   exact fin_names (nx1 := 1) (H1 := [(0, .obj [pI m, pI e, pI b])]) [(0, 0)] (ret_tmp rfl (ret_tmp rfl ret_nil)) rfl (by decide) ⟨⟨_, _, rfl, rfl, rfl, rfl⟩, trivial⟩ (by decide) rfl ⟨rfl, rfl, rfl⟩
  ·
   have c2_ := c2
   try simp only [sB] at c2
   refine w_seq ?_
   refine w_R ?_
   refine qo hnt rfl (s_eql rfl rfl ?_)
   refine qa hnt rfl rfl ?_
   refine r_end ?_
   refine q_then ?_
   refine w_if rfl (fun c3 => ?_) (fun c3 => ?_)
   ·
    have c3_ := c3
    try simp only [sB] at c3
    refine w_seq ?_
    refine w_R ?_
    refine qm hnt rfl rfl ?_
    refine qo hnt rfl (s_nilCheck rfl trivial ?_)
    refine qo hnt rfl (s_fa_ptr tab_71 rfl rfl tab_3 (by decide) rfl ?_)
    refine qo hnt rfl (s_load_ptr1 tab_3 rfl rfl rfl rfl rfl ?_)
    refine qo hnt rfl (s_cv16 tab_3 tab_30 rfl rfl rfl ?_)
    refine qa hnt rfl rfl ?_
    refine qa hnt rfl rfl ?_
    refine r_end ?_
    refine q_then ?_
    refine w_le (s := 4) (y := p16 (cntGet m e b s)) rfl (le_of_eq (congrArg (fun z : UInt16 => p16 z) (show (u16I b) = (cntGet m e b s) by first | exact (cntGet_1 (by omega)).symm | exact (cntGet_2 (by omega)).symm | exact (cntGet_3 (by omega)).symm | exact (cntGet_no (by omega)).symm | exact (decide_eq_true (by omega)).symm | exact (decide_eq_false (by omega)).symm))) ?_
    refine w_le (s := 5) (y := pB (cntOk s)) rfl (le_of_eq (congrArg (fun z : Bool => pB z) (show true = (cntOk s) by first | exact (cntGet_1 (by omega)).symm | exact (cntGet_2 (by omega)).symm | exact (cntGet_3 (by omega)).symm | exact (cntGet_no (by omega)).symm | exact (decide_eq_true (by omega)).symm | exact (decide_eq_false (by omega)).symm))) ?_
    refine w_ret ?_
    refine q_block_ret ?_
    refine q_then_ret ?_
    exact fin_names (nx1 := 1) (H1 := [(0, .obj [pI m, pI e, pI b])]) [(0, 0)] (ret_tmp rfl (ret_tmp rfl ret_nil)) rfl (by decide) ⟨⟨_, _, rfl, rfl, rfl, rfl⟩, trivial⟩ (by decide) rfl ⟨rfl, rfl, rfl⟩
   ·
    have c3_ := c3
    try simp only [sB] at c3
    refine w_seq ?_
    refine w_R ?_
    refine qo hnt rfl (s_eql rfl rfl ?_)
    refine qa hnt rfl rfl ?_
    refine r_end ?_
    refine q_then ?_
    refine w_if rfl (fun c4 => ?_) (fun c4 => ?_)
    ·
     have c4_ := c4
     try simp only [sB] at c4
     refine w_seq ?_
     refine w_R ?_
     refine qm hnt rfl rfl ?_
     refine qo hnt rfl (s_nilCheck rfl trivial ?_)
     refine qo hnt rfl (s_fa_ptr tab_71 rfl rfl tab_3 (by decide) rfl ?_)
     refine qo hnt rfl (s_load_ptr1 tab_3 rfl rfl rfl rfl rfl ?_)
     refine qo hnt rfl (s_cv16 tab_3 tab_30 rfl rfl rfl ?_)
     refine qa hnt rfl rfl ?_
     refine qa hnt rfl rfl ?_
     refine r_end ?_
     refine q_then ?_
     refine w_le (s := 4) (y := p16 (cntGet m e b s)) rfl (le_of_eq (congrArg (fun z : UInt16 => p16 z) (show (u16I e) = (cntGet m e b s) by first | exact (cntGet_1 (by omega)).symm | exact (cntGet_2 (by omega)).symm | exact (cntGet_3 (by omega)).symm | exact (cntGet_no (by omega)).symm | exact (decide_eq_true (by omega)).symm | exact (decide_eq_false (by omega)).symm))) ?_
     refine w_le (s := 5) (y := pB (cntOk s)) rfl (le_of_eq (congrArg (fun z : Bool => pB z) (show true = (cntOk s) by first | exact (cntGet_1 (by omega)).symm | exact (cntGet_2 (by omega)).symm | exact (cntGet_3 (by omega)).symm | exact (cntGet_no (by omega)).symm | exact (decide_eq_true (by omega)).symm | exact (decide_eq_false (by omega)).symm))) ?_
     refine w_ret ?_
     refine q_block_ret ?_
     refine q_then_ret ?_
     exact fin_names (nx1 := 1) (H1 := [(0, .obj [pI m, pI e, pI b])]) [(0, 0)] (ret_tmp rfl (ret_tmp rfl ret_nil)) rfl (by decide) ⟨⟨_, _, rfl, rfl, rfl, rfl⟩, trivial⟩ (by decide) rfl ⟨rfl, rfl, rfl⟩
    ·
     have c4_ := c4
     try simp only [sB] at c4
     refine w_skip ?_
     refine q_block ?_
     refine q_then ?_
     refine w_seq ?_
     refine w_R ?_
     refine qa hnt rfl rfl ?_
     refine qa hnt rfl rfl ?_
     refine r_end ?_
     refine q_then ?_
     refine w_le (s := 4) (y := p16 (cntGet m e b s)) rfl (le_of_eq (congrArg (fun z : UInt16 => p16 z) (show 0 = (cntGet m e b s) by first | exact (cntGet_1 (by omega)).symm | exact (cntGet_2 (by omega)).symm | exact (cntGet_3 (by omega)).symm | exact (cntGet_no (by omega)).symm | exact (decide_eq_true (by omega)).symm | exact (decide_eq_false (by omega)).symm))) ?_
     refine w_le (s := 5) (y := pB (cntOk s)) rfl (le_of_eq (congrArg (fun z : Bool => pB z) (show false = (cntOk s) by first | exact (cntGet_1 (by omega)).symm | exact (cntGet_2 (by omega)).symm | exact (cntGet_3 (by omega)).symm | exact (cntGet_no (by omega)).symm | exact (decide_eq_true (by omega)).symm | exact (decide_eq_false (by omega)).symm))) ?_
     refine w_ret ?_
     exact fin_names (nx1 := 1) (H1 := [(0, .obj [pI m, pI e, pI b])]) [(0, 0)] (ret_tmp rfl (ret_tmp rfl ret_nil)) rfl (by decide) ⟨⟨_, _, rfl, rfl, rfl, rfl⟩, trivial⟩ (by decide) rfl ⟨rfl, rfl, rfl⟩

theorem w_count_Count_Clear (m : Int) (e : Int) (b : Int)  :
    T Try.prog 22 [PV.ptr 0 0] 1 [(0, .obj [pI m, pI e, pI b])] (Ret (PV.tup []) 1 [(0, .obj [pI 0, pI 0, pI 0])]) := by
 refine t_fun tabOk (n := 5) (rs := []) Try.func22 rfl rfl rfl rfl (Nat.le_of_ble_eq_true rfl) ?_
 intro c hnt hk
 refine w_R ?_
 refine qm hnt rfl rfl ?_
 refine qo hnt rfl (s_build tab_74 rfl rfl (b_nil ?_))
 refine qo hnt rfl (s_nilCheck rfl trivial ?_)
 refine qo hnt rfl (s_store_ptr tab_74 rfl rfl rfl rfl rfl (Nat.le_of_ble_eq_true rfl) ?_)
 refine r_set [] [(0, .obj [pI 0, pI 0, pI 0])] 1 trivial rfl rfl ?_
 refine r_end ?_
 refine fin_normal ?_
 exact fin_names (nx1 := 1) (H1 := [(0, .obj [pI 0, pI 0, pI 0])]) [(0, 0)] ret_nil rfl (by decide) ⟨⟨_, _, rfl, rfl, rfl, rfl⟩, trivial⟩ (by decide) rfl ⟨rfl, rfl, rfl⟩

theorem w_count_Count_Do (m : Int) (e : Int) (b : Int) (r : TRequest) (u : Int) (D : TReply × Bool) (hD : D = cntDo m e b r u) (hb : r.bits.length ≤ 140737488351232) (hv : r.vals.length ≤ 1000000) :
    T Try.prog 20 [PV.ptr 0 0, PV.f (eRequest r), pI u] 1 [(0, .obj [pI m, pI e, pI b])] (Ret (PV.f (eReply D.1)) 1 [(0, .obj [pI (cC m D.2), pI (cC e D.2), pI (cC b D.2)])]) := by
 refine t_fun tabOk (n := 83) (rs := [.cell 6 43]) Try.func20 rfl rfl rfl rfl (Nat.le_of_ble_eq_true rfl) ?_
 intro c hnt hk
 refine w_seq ?_
 refine w_R ?_
 refine qo hnt rfl (s_box rfl rfl ?_)
 refine qo hnt rfl (s_alloc tab_43 ?_)
 refine r_set [(0, PV.ptr 0 0), (2, pI u), (4, PV.ptr 1 0), (6, PV.ptr 2 0)] [(2, .obj [pI 0, pI 0, pI 0, pI 0, pI 0, pNil, pNil, p16 0, p16 0, pNil]), (1, .obj [pI r.fn, pI r.at_, pI r.count, pI r.wAt, pI r.sub, pS 1 false encBo r.bits, pS 1 false enc16 r.vals, p16 r.and_, p16 r.or_]), (0, .obj [pI m, pI e, pI b])] 3 ⟨rfl, rfl, rfl, rfl, trivial⟩ rfl rfl ?_
 refine r_end ?_
 refine q_then ?_
 refine w_seq ?_
 refine w_block ?_
 refine w_seq ?_
 refine w_R ?_
 refine qo hnt rfl (s_fa_ptr tab_32 rfl rfl tab_3 (by decide) rfl ?_)
 refine qo hnt rfl (s_load_ptr1 tab_3 rfl rfl rfl rfl rfl ?_)
 refine qo hnt rfl (s_neq rfl rfl ?_)
 refine qm hnt rfl rfl ?_
 refine r_if tabOk hnt rfl rfl rfl (fun g1 => ?_) (fun g1 => ?_)
 ·
  have g1' := g1
  try simp only [sB] at g1'
  refine qo hnt rfl (s_fa_ptr tab_32 rfl rfl tab_3 (by decide) rfl ?_)
  refine ry hnt rfl rfl rfl g1 ?_
  refine qo hnt rfl (s_load_ptr1 tab_3 rfl rfl rfl rfl rfl ?_)
  refine ry hnt rfl rfl rfl g1 ?_
  refine qo hnt rfl (s_neq rfl rfl ?_)
  refine qo hnt rfl (s_pick_t rfl g1 rfl ?_)
  refine qa hnt rfl rfl ?_
  refine r_end ?_
  refine q_then ?_
  refine w_if rfl (fun c1 => ?_) (fun c1 => ?_)
  ·
   have c1_ := c1
   try simp only [sB] at c1
   rw [cntDo_1 (m := m) (e := e) (b := b) (u := u) (q := r) (by omega)] at hD
   refine w_seq ?_
   refine w_R ?_
   refine qo hnt rfl (s_fa_ptr tab_32 rfl rfl tab_3 (by decide) rfl ?_)
   refine qo hnt rfl (s_load_ptr1 tab_3 rfl rfl rfl rfl rfl ?_)
   refine qo hnt rfl (s_callF rfl rfl rfl (w_reply_Refuse r.fn 1) rfl ?_)
   refine qo hnt rfl (s_store_ptr tab_43 rfl rfl rfl rfl rfl (Nat.le_of_ble_eq_true rfl) ?_)
   refine r_set [(6, PV.ptr 2 0)] [(2, .obj [pI ((refuseR r.fn 1).fn), pI ((refuseR r.fn 1).code), pI ((refuseR r.fn 1).at_), pI ((refuseR r.fn 1).count), pI ((refuseR r.fn 1).sub), pS 1 false encBo ((refuseR r.fn 1).bits), pS 1 false enc16 ((refuseR r.fn 1).vals), p16 ((refuseR r.fn 1).and_), p16 ((refuseR r.fn 1).or_), pS 1 false enc8 ((refuseR r.fn 1).data)]), (1, .obj [pI r.fn, pI r.at_, pI r.count, pI r.wAt, pI r.sub, pS 1 false encBo r.bits, pS 1 false enc16 r.vals, p16 r.and_, p16 r.or_]), (0, .obj [pI m, pI e, pI b])] 3 ⟨rfl, trivial⟩ rfl rfl ?_
   refine r_end ?_
   refine q_then ?_
   refine w_leO (n := 2) (ds := [pI D.1.fn, pI D.1.code, pI D.1.at_, pI D.1.count, pI D.1.sub, pS 1 false encBo D.1.bits, pS 1 false enc16 D.1.vals, p16 D.1.and_, p16 D.1.or_, pS 1 false enc8 D.1.data]) rfl ⟨le_of_eq (congrArg (fun z : Int => pI z) (show ((refuseR r.fn 1).fn) = D.1.fn by first | (rw [hD]; done) | (rw [hD]; rfl))), le_of_eq (congrArg (fun z : Int => pI z) (show ((refuseR r.fn 1).code) = D.1.code by first | (rw [hD]; done) | (rw [hD]; rfl))), le_of_eq (congrArg (fun z : Int => pI z) (show ((refuseR r.fn 1).at_) = D.1.at_ by first | (rw [hD]; done) | (rw [hD]; rfl))), le_of_eq (congrArg (fun z : Int => pI z) (show ((refuseR r.fn 1).count) = D.1.count by first | (rw [hD]; done) | (rw [hD]; rfl))), le_of_eq (congrArg (fun z : Int => pI z) (show ((refuseR r.fn 1).sub) = D.1.sub by first | (rw [hD]; done) | (rw [hD]; rfl))), le_of_eq (congrArg (fun z => pS 1 false encBo z) (show ((refuseR r.fn 1).bits) = D.1.bits by first | (rw [hD]; done) | (rw [hD]; rfl))), le_of_eq (congrArg (fun z => pS 1 false enc16 z) (show ((refuseR r.fn 1).vals) = D.1.vals by first | (rw [hD]; done) | (rw [hD]; rfl))), le_of_eq (congrArg (fun z : UInt16 => p16 z) (show ((refuseR r.fn 1).and_) = D.1.and_ by first | (rw [hD]; done) | (rw [hD]; rfl))), le_of_eq (congrArg (fun z : UInt16 => p16 z) (show ((refuseR r.fn 1).or_) = D.1.or_ by first | (rw [hD]; done) | (rw [hD]; rfl))), le_of_eq (congrArg (fun z => pS 1 false enc8 z) (show ((refuseR r.fn 1).data) = D.1.data by first | (rw [hD]; done) | (rw [hD]; rfl))), trivial⟩ ?_
   refine w_leO (n := 0) (ds := [pI (cC m D.2), pI (cC e D.2), pI (cC b D.2)]) rfl ⟨le_of_eq (congrArg (fun z : Int => pI z) (show m = (cC m D.2) by first | (rw [hD]; done) | (rw [hD]; rfl))), le_of_eq (congrArg (fun z : Int => pI z) (show e = (cC e D.2) by first | (rw [hD]; done) | (rw [hD]; rfl))), le_of_eq (congrArg (fun z : Int => pI z) (show b = (cC b D.2) by first | (rw [hD]; done) | (rw [hD]; rfl))), trivial⟩ ?_
   refine w_ret ?_
   refine q_block_ret ?_
   refine q_then_ret ?_
   exact fin_names (nx1 := 1) (H1 := [(0, .obj [pI (cC m D.2), pI (cC e D.2), pI (cC b D.2)])]) [(0, 0)] (ret_cell tab_43 (by decide) rfl rfl (Nat.le_of_ble_eq_true rfl) rfl ret_nil) rfl (by decide) ⟨⟨_, _, rfl, rfl, rfl, rfl⟩, trivial⟩ (by decide) rfl ⟨rfl, rfl, rfl⟩
  ·
   have c1_ := c1
   try simp only [sB] at c1
   refine w_seq ?_
   refine w_R ?_
   refine qo hnt rfl (s_load_ptr tab_32 rfl rfl rfl (Nat.le_of_ble_eq_true rfl) ?_)
   refine qo hnt rfl (s_callF rfl rfl rfl (w_pdu_Right r (by first | omega | assumption | (simp; omega) | decide | (simp; done)) (by first | omega | assumption | (simp; omega) | decide | (simp; done))) rfl ?_)
   refine qo hnt rfl (s_neq rfl rfl ?_)
   refine qa hnt rfl rfl ?_
   refine r_end ?_
   refine q_then ?_
   refine w_if rfl (fun c2 => ?_) (fun c2 => ?_)
   ·
    have c2_ := c2
    try simp only [sB] at c2
    rw [cntDo_2 (m := m) (e := e) (b := b) (u := u) (q := r) (by omega) (by omega)] at hD
    refine w_seq ?_
    refine w_R ?_
    refine qo hnt rfl (s_fa_ptr tab_32 rfl rfl tab_3 (by decide) rfl ?_)
    refine qo hnt rfl (s_load_ptr1 tab_3 rfl rfl rfl rfl rfl ?_)
    refine qo hnt rfl (s_callF rfl rfl rfl (w_reply_Refuse r.fn 3) rfl ?_)
    refine qo hnt rfl (s_store_ptr tab_43 rfl rfl rfl rfl rfl (Nat.le_of_ble_eq_true rfl) ?_)
    refine r_set [(6, PV.ptr 2 0)] [(2, .obj [pI ((refuseR r.fn 3).fn), pI ((refuseR r.fn 3).code), pI ((refuseR r.fn 3).at_), pI ((refuseR r.fn 3).count), pI ((refuseR r.fn 3).sub), pS 1 false encBo ((refuseR r.fn 3).bits), pS 1 false enc16 ((refuseR r.fn 3).vals), p16 ((refuseR r.fn 3).and_), p16 ((refuseR r.fn 3).or_), pS 1 false enc8 ((refuseR r.fn 3).data)]), (1, .obj [pI r.fn, pI r.at_, pI r.count, pI r.wAt, pI r.sub, pS 1 false encBo r.bits, pS 1 false enc16 r.vals, p16 r.and_, p16 r.or_]), (0, .obj [pI m, pI e, pI b])] 3 ⟨rfl, trivial⟩ rfl rfl ?_
    refine r_end ?_
    refine q_then ?_
    refine w_leO (n := 2) (ds := [pI D.1.fn, pI D.1.code, pI D.1.at_, pI D.1.count, pI D.1.sub, pS 1 false encBo D.1.bits, pS 1 false enc16 D.1.vals, p16 D.1.and_, p16 D.1.or_, pS 1 false enc8 D.1.data]) rfl ⟨le_of_eq (congrArg (fun z : Int => pI z) (show ((refuseR r.fn 3).fn) = D.1.fn by first | (rw [hD]; done) | (rw [hD]; rfl))), le_of_eq (congrArg (fun z : Int => pI z) (show ((refuseR r.fn 3).code) = D.1.code by first | (rw [hD]; done) | (rw [hD]; rfl))), le_of_eq (congrArg (fun z : Int => pI z) (show ((refuseR r.fn 3).at_) = D.1.at_ by first | (rw [hD]; done) | (rw [hD]; rfl))), le_of_eq (congrArg (fun z : Int => pI z) (show ((refuseR r.fn 3).count) = D.1.count by first | (rw [hD]; done) | (rw [hD]; rfl))), le_of_eq (congrArg (fun z : Int => pI z) (show ((refuseR r.fn 3).sub) = D.1.sub by first | (rw [hD]; done) | (rw [hD]; rfl))), le_of_eq (congrArg (fun z => pS 1 false encBo z) (show ((refuseR r.fn 3).bits) = D.1.bits by first | (rw [hD]; done) | (rw [hD]; rfl))), le_of_eq (congrArg (fun z => pS 1 false enc16 z) (show ((refuseR r.fn 3).vals) = D.1.vals by first | (rw [hD]; done) | (rw [hD]; rfl))), le_of_eq (congrArg (fun z : UInt16 => p16 z) (show ((refuseR r.fn 3).and_) = D.1.and_ by first | (rw [hD]; done) | (rw [hD]; rfl))), le_of_eq (congrArg (fun z : UInt16 => p16 z) (show ((refuseR r.fn 3).or_) = D.1.or_ by first | (rw [hD]; done) | (rw [hD]; rfl))), le_of_eq (congrArg (fun z => pS 1 false enc8 z) (show ((refuseR r.fn 3).data) = D.1.data by first | (rw [hD]; done) | (rw [hD]; rfl))), trivial⟩ ?_
    refine w_leO (n := 0) (ds := [pI (cC m D.2), pI (cC e D.2), pI (cC b D.2)]) rfl ⟨le_of_eq (congrArg (fun z : Int => pI z) (show m = (cC m D.2) by first | (rw [hD]; done) | (rw [hD]; rfl))), le_of_eq (congrArg (fun z : Int => pI z) (show e = (cC e D.2) by first | (rw [hD]; done) | (rw [hD]; rfl))), le_of_eq (congrArg (fun z : Int => pI z) (show b = (cC b D.2) by first | (rw [hD]; done) | (rw [hD]; rfl))), trivial⟩ ?_
    refine w_ret ?_
    refine q_block_ret ?_
    refine q_then_ret ?_
    exact fin_names (nx1 := 1) (H1 := [(0, .obj [pI (cC m D.2), pI (cC e D.2), pI (cC b D.2)])]) [(0, 0)] (ret_cell tab_43 (by decide) rfl rfl (Nat.le_of_ble_eq_true rfl) rfl ret_nil) rfl (by decide) ⟨⟨_, _, rfl, rfl, rfl, rfl⟩, trivial⟩ (by decide) rfl ⟨rfl, rfl, rfl⟩
   ·
    have c2_ := c2
    try simp only [sB] at c2
    refine w_seq ?_
    refine w_R ?_
    refine qo hnt rfl (s_fa_ptr tab_32 rfl rfl tab_3 (by decide) rfl ?_)
    refine qo hnt rfl (s_load_ptr1 tab_3 rfl rfl rfl rfl rfl ?_)
    refine qo hnt rfl (s_eql rfl rfl ?_)
    refine qa hnt rfl rfl ?_
    refine r_end ?_
    refine q_then ?_
    refine w_if rfl (fun c3 => ?_) (fun c3 => ?_)
    ·
     have c3_ := c3
     try simp only [sB] at c3
     rw [cntDo_3 (m := m) (e := e) (b := b) (u := u) (q := r) (by omega) (by omega)] at hD
     refine w_seq ?_
     refine w_R ?_
     refine qo hnt rfl (s_fa_ptr tab_32 rfl rfl tab_3 (by decide) rfl ?_)
     refine qo hnt rfl (s_load_ptr1 tab_3 rfl rfl rfl rfl rfl ?_)
     refine qm hnt rfl rfl ?_
     refine qo hnt rfl (s_maskI 8 (by decide) rfl rfl (by decide) ?_)
     refine qo hnt rfl (s_cv8N (a := (u % 2 ^ 8).toNat) tab_3 tab_5 rfl rfl rfl (by omega) ?_)
     refine qo hnt rfl (s_mkM (f := enc8) [UInt8.ofNat ((u % 2 ^ 8).toNat), 255] tab_41 rfl tab_5 ⟨rfl, by decide⟩ (by decide) rfl rfl rfl rfl ?_)
     refine qo hnt rfl (s_build tab_43 rfl rfl (b_cons rfl tab_3 rfl rfl rfl (Nat.le_of_ble_eq_true rfl) (b_cons rfl tab_41 rfl rfl rfl (Nat.le_of_ble_eq_true rfl) (b_nil ?_))))
     refine qo hnt rfl (s_store_ptr tab_43 rfl rfl rfl rfl rfl (Nat.le_of_ble_eq_true rfl) ?_)
     refine r_set [(6, PV.ptr 2 0)] [(2, .obj [pI r.fn, pI 0, pI 0, pI 0, pI 0, pNil, pNil, p16 0, p16 0, PV.ref 3 0 none]), (3, oB true 1 enc8 [UInt8.ofNat ((u % 2 ^ 8).toNat), 255]), (1, .obj [pI r.fn, pI r.at_, pI r.count, pI r.wAt, pI r.sub, pS 1 false encBo r.bits, pS 1 false enc16 r.vals, p16 r.and_, p16 r.or_]), (0, .obj [pI m, pI e, pI b])] 4 ⟨rfl, trivial⟩ rfl rfl ?_
     refine r_end ?_
     refine q_then ?_
     refine w_frzC (n := 2) (j := 9) rfl rfl rfl rfl ?_
     refine w_leO (n := 2) (ds := [pI r.fn, pI 0, pI 0, pI 0, pI 0, pNil, pNil, p16 0, p16 0, pS 1 false enc8 D.1.data]) rfl ⟨le_refl _, le_refl _, le_refl _, le_refl _, le_refl _, le_refl _, le_refl _, le_refl _, le_refl _, le_of_eq (congrArg (fun z => pS 1 false enc8 z) (show [UInt8.ofNat ((u % 2 ^ 8).toNat), 255] = D.1.data by first | (rw [hD]; done) | (rw [hD]; rfl))), trivial⟩ ?_
     refine w_leO (n := 2) (ds := [pI D.1.fn, pI D.1.code, pI D.1.at_, pI D.1.count, pI D.1.sub, pS 1 false encBo D.1.bits, pS 1 false enc16 D.1.vals, p16 D.1.and_, p16 D.1.or_, pS 1 false enc8 D.1.data]) rfl ⟨le_of_eq (congrArg (fun z : Int => pI z) (show r.fn = D.1.fn by first | (rw [hD]; done) | (rw [hD]; rfl))), le_of_eq (congrArg (fun z : Int => pI z) (show 0 = D.1.code by first | (rw [hD]; done) | (rw [hD]; rfl))), le_of_eq (congrArg (fun z : Int => pI z) (show 0 = D.1.at_ by first | (rw [hD]; done) | (rw [hD]; rfl))), le_of_eq (congrArg (fun z : Int => pI z) (show 0 = D.1.count by first | (rw [hD]; done) | (rw [hD]; rfl))), le_of_eq (congrArg (fun z : Int => pI z) (show 0 = D.1.sub by first | (rw [hD]; done) | (rw [hD]; rfl))), le_tr (le_nilS 1 false) (le_of_eq (congrArg (fun z => pS 1 false encBo z) (show [] = D.1.bits by first | (rw [hD]; done) | (rw [hD]; rfl)))), le_tr (le_nilS 1 false) (le_of_eq (congrArg (fun z => pS 1 false enc16 z) (show [] = D.1.vals by first | (rw [hD]; done) | (rw [hD]; rfl)))), le_of_eq (congrArg (fun z : UInt16 => p16 z) (show 0 = D.1.and_ by first | (rw [hD]; done) | (rw [hD]; rfl))), le_of_eq (congrArg (fun z : UInt16 => p16 z) (show 0 = D.1.or_ by first | (rw [hD]; done) | (rw [hD]; rfl))), le_refl _, trivial⟩ ?_
     refine w_leO (n := 0) (ds := [pI (cC m D.2), pI (cC e D.2), pI (cC b D.2)]) rfl ⟨le_of_eq (congrArg (fun z : Int => pI z) (show m = (cC m D.2) by first | (rw [hD]; done) | (rw [hD]; rfl))), le_of_eq (congrArg (fun z : Int => pI z) (show e = (cC e D.2) by first | (rw [hD]; done) | (rw [hD]; rfl))), le_of_eq (congrArg (fun z : Int => pI z) (show b = (cC b D.2) by first | (rw [hD]; done) | (rw [hD]; rfl))), trivial⟩ ?_
     refine w_ret ?_
     refine q_block_ret ?_
     refine q_then_ret ?_
     exact fin_names (nx1 := 1) (H1 := [(0, .obj [pI (cC m D.2), pI (cC e D.2), pI (cC b D.2)])]) [(0, 0)] (ret_cell tab_43 (by decide) rfl rfl (Nat.le_of_ble_eq_true rfl) rfl ret_nil) rfl (by decide) ⟨⟨_, _, rfl, rfl, rfl, rfl⟩, trivial⟩ (by decide) rfl ⟨rfl, rfl, rfl⟩
    ·
     have c3_ := c3
     try simp only [sB] at c3
     refine w_skip ?_
     refine q_block ?_
     refine q_then ?_
     refine w_seq ?_
     refine W_drawn tabOk mixed hnt [[], [0], [], [2], [], [4], [4, 5], [4, 5, 6], [0, 1, 2, 3, 4, 5, 6, 7], [], [0, 1, 2, 3, 4, 5, 6, 7, 8, 9]] (by kernel_rfl) ?_
     refine d_op ?_
     refine x_run0 [(4, PV.ptr 1 0)] [] rfl rfl rfl rfl (s_fa_ptr tab_32 rfl rfl tab_3 (by decide) rfl ⟨rfl, rfl, rfl⟩) ?_
     refine d_op ?_
     refine x_run [(40, PV.ptr 1 0)] [0] [(1, .obj [pI r.fn, pI r.at_, pI r.count, pI r.wAt, pI r.sub, pS 1 false encBo r.bits, pS 1 false enc16 r.vals, p16 r.and_, p16 r.or_])] [] [(1, .obj [pI r.fn, pI r.at_, pI r.count, pI r.wAt, pI r.sub, pS 1 false encBo r.bits, pS 1 false enc16 r.vals, p16 r.and_, p16 r.or_])] [] [(2, .obj [pI 0, pI 0, pI 0, pI 0, pI 0, pNil, pNil, p16 0, p16 0, pNil]), (1, .obj [pI r.fn, pI r.at_, pI r.count, pI r.wAt, pI r.sub, pS 1 false encBo r.bits, pS 1 false enc16 r.vals, p16 r.and_, p16 r.or_]), (0, .obj [pI m, pI e, pI b])] rfl rfl rfl rfl rfl rfl (s_load_ptr1 tab_3 rfl rfl rfl rfl rfl ⟨rfl, rfl, rfl⟩) rfl ⟨rfl, trivial⟩ rfl rfl ?_
     refine d_op ?_
     refine x_run0 [(4, PV.ptr 1 0)] [] rfl rfl rfl rfl (s_fa_ptr tab_32 rfl rfl tab_3 (by decide) rfl ⟨rfl, rfl, rfl⟩) ?_
     refine d_op ?_
     refine x_run [(42, PV.ptr 1 4)] [2] [(1, .obj [pI r.fn, pI r.at_, pI r.count, pI r.wAt, pI r.sub, pS 1 false encBo r.bits, pS 1 false enc16 r.vals, p16 r.and_, p16 r.or_])] [] [(1, .obj [pI r.fn, pI r.at_, pI r.count, pI r.wAt, pI r.sub, pS 1 false encBo r.bits, pS 1 false enc16 r.vals, p16 r.and_, p16 r.or_])] [] [(2, .obj [pI 0, pI 0, pI 0, pI 0, pI 0, pNil, pNil, p16 0, p16 0, pNil]), (1, .obj [pI r.fn, pI r.at_, pI r.count, pI r.wAt, pI r.sub, pS 1 false encBo r.bits, pS 1 false enc16 r.vals, p16 r.and_, p16 r.or_]), (0, .obj [pI m, pI e, pI b])] rfl rfl rfl rfl rfl rfl (s_load_ptr1 tab_3 rfl rfl rfl rfl rfl ⟨rfl, rfl, rfl⟩) rfl ⟨rfl, trivial⟩ rfl rfl ?_
     refine d_op ?_
     refine x_run0 [(4, PV.ptr 1 0)] [] rfl rfl rfl rfl (s_fa_ptr tab_32 rfl rfl tab_29 (by decide) rfl ⟨rfl, rfl, rfl⟩) ?_
     refine d_op ?_
     refine x_run [(44, PV.ptr 1 6)] [4] [(1, .obj [pI r.fn, pI r.at_, pI r.count, pI r.wAt, pI r.sub, pS 1 false encBo r.bits, pS 1 false enc16 r.vals, p16 r.and_, p16 r.or_])] [] [(1, .obj [pI r.fn, pI r.at_, pI r.count, pI r.wAt, pI r.sub, pS 1 false encBo r.bits, pS 1 false enc16 r.vals, p16 r.and_, p16 r.or_])] [] [(2, .obj [pI 0, pI 0, pI 0, pI 0, pI 0, pNil, pNil, p16 0, p16 0, pNil]), (1, .obj [pI r.fn, pI r.at_, pI r.count, pI r.wAt, pI r.sub, pS 1 false encBo r.bits, pS 1 false enc16 r.vals, p16 r.and_, p16 r.or_]), (0, .obj [pI m, pI e, pI b])] rfl rfl rfl rfl rfl rfl (s_load_ptr1 tab_29 rfl rfl rfl rfl rfl ⟨rfl, rfl, rfl⟩) rfl ⟨rfl, trivial⟩ rfl rfl ?_
     refine d_op ?_
     refine x_run [(45, pS 1 false enc16 r.vals)] [4, 5] [] [] [(3, oB true 1 enc16 r.vals)] [(3, oB true 1 enc16 r.vals)] [(3, oB true 1 enc16 r.vals), (2, .obj [pI 0, pI 0, pI 0, pI 0, pI 0, pNil, pNil, p16 0, p16 0, pNil]), (1, .obj [pI r.fn, pI r.at_, pI r.count, pI r.wAt, pI r.sub, pS 1 false encBo r.bits, pS 1 false enc16 r.vals, p16 r.and_, p16 r.or_]), (0, .obj [pI m, pI e, pI b])] rfl rfl rfl rfl rfl rfl (s_callX (r2 := PV.ref 3 0 none) (nx1 := 4) (H2 := []) (H3 := [(3, oB true 1 enc16 r.vals)]) [] [] rfl rfl rfl (handed_of (by decide) trivial) rfl rfl rfl rfl rfl rfl (w_slices_Clone_uint16_uint16 r.vals false (by first | omega | assumption | (simp; omega) | decide | (simp; done))) rfl (dist_of rfl) rfl rfl rfl rfl ⟨rfl, rfl, rfl⟩) rfl trivial rfl rfl ?_
     refine d_op ?_
     refine x_run [(46, PV.ref 3 0 none)] [4, 5, 6] [] [(3, oB true 1 enc16 r.vals)] [(4, oB true 1 enc16 r.vals)] [(4, oB true 1 enc16 r.vals)] [(4, oB true 1 enc16 r.vals), (2, .obj [pI 0, pI 0, pI 0, pI 0, pI 0, pNil, pNil, p16 0, p16 0, pNil]), (1, .obj [pI r.fn, pI r.at_, pI r.count, pI r.wAt, pI r.sub, pS 1 false encBo r.bits, pS 1 false enc16 r.vals, p16 r.and_, p16 r.or_]), (0, .obj [pI m, pI e, pI b])] rfl rfl rfl rfl rfl rfl (s_callX (r2 := PV.ref 4 0 none) (nx1 := 5) (H2 := [(3, oB true 1 enc16 r.vals)]) (H3 := [(4, oB true 1 enc16 r.vals)]) [3] [oB true 1 enc16 r.vals] rfl rfl rfl (handed_of (by decide) ⟨rfl, trivial⟩) rfl rfl rfl rfl rfl rfl (w_slices_Clip_uint16_uint16_o r.vals true) rfl (dist_of rfl) rfl rfl rfl rfl ⟨rfl, rfl, rfl⟩) rfl trivial rfl rfl ?_
     refine d_op ?_
     refine x_run0 [(41, pI r.fn), (43, pI r.sub), (47, PV.ref 4 0 none)] [0, 1, 2, 3, 4, 5, 6, 7] rfl rfl rfl rfl (s_build tab_43 rfl rfl (b_cons rfl tab_3 rfl rfl rfl (Nat.le_of_ble_eq_true rfl) (b_cons rfl tab_3 rfl rfl rfl (Nat.le_of_ble_eq_true rfl) (b_cons rfl tab_29 rfl rfl rfl (Nat.le_of_ble_eq_true rfl) (b_nil ⟨rfl, rfl, rfl⟩))))) ?_
     refine d_op ?_
     refine x_run [] [] [] [] [(5, .obj [pI 0, pI 0, pI 0, pI 0, pI 0, pNil, pNil, p16 0, p16 0, pNil])] [(5, .obj [pI 0, pI 0, pI 0, pI 0, pI 0, pNil, pNil, p16 0, p16 0, pNil])] [(5, .obj [pI 0, pI 0, pI 0, pI 0, pI 0, pNil, pNil, p16 0, p16 0, pNil]), (4, oB true 1 enc16 r.vals), (2, .obj [pI 0, pI 0, pI 0, pI 0, pI 0, pNil, pNil, p16 0, p16 0, pNil]), (1, .obj [pI r.fn, pI r.at_, pI r.count, pI r.wAt, pI r.sub, pS 1 false encBo r.bits, pS 1 false enc16 r.vals, p16 r.and_, p16 r.or_]), (0, .obj [pI m, pI e, pI b])] rfl rfl rfl rfl rfl rfl (s_alloc tab_43 ⟨rfl, rfl, rfl⟩) rfl trivial rfl rfl ?_
     refine d_op ?_
     refine x_run [(7, PV.ptr 5 0), (48, PV.agg [pI r.fn, pI 0, pI 0, pI 0, pI r.sub, pNil, PV.ref 4 0 none, p16 0, p16 0, pNil])] [0, 1, 2, 3, 4, 5, 6, 7, 8, 9] [] [(5, .obj [pI 0, pI 0, pI 0, pI 0, pI 0, pNil, pNil, p16 0, p16 0, pNil])] [(5, .obj [pI r.fn, pI 0, pI 0, pI 0, pI r.sub, pNil, PV.ref 4 0 none, p16 0, p16 0, pNil])] [(5, .obj [pI r.fn, pI 0, pI 0, pI 0, pI r.sub, pNil, PV.ref 4 0 none, p16 0, p16 0, pNil])] [(5, .obj [pI r.fn, pI 0, pI 0, pI 0, pI r.sub, pNil, PV.ref 4 0 none, p16 0, p16 0, pNil]), (4, oB true 1 enc16 r.vals), (2, .obj [pI 0, pI 0, pI 0, pI 0, pI 0, pNil, pNil, p16 0, p16 0, pNil]), (1, .obj [pI r.fn, pI r.at_, pI r.count, pI r.wAt, pI r.sub, pS 1 false encBo r.bits, pS 1 false enc16 r.vals, p16 r.and_, p16 r.or_]), (0, .obj [pI m, pI e, pI b])] rfl rfl rfl rfl rfl rfl (s_store_ptr tab_43 rfl rfl rfl rfl rfl (Nat.le_of_ble_eq_true rfl) ⟨rfl, rfl, rfl⟩) rfl trivial rfl rfl ?_
     refine d_end ⟨by kernel_rfl, ?_⟩
     refine q_then ?_
     refine w_seq ?_
     refine w_seq ?_
     refine w_R ?_
     refine qo hnt rfl (s_fa_ptr tab_32 rfl rfl tab_3 (by decide) rfl ?_)
     refine qo hnt rfl (s_load_ptr1 tab_3 rfl rfl rfl rfl rfl ?_)
     refine r_set [(0, PV.ptr 0 0), (4, PV.ptr 1 0), (6, PV.ptr 2 0), (7, PV.ptr 5 0), (50, pI r.sub)] [(5, .obj [pI r.fn, pI 0, pI 0, pI 0, pI r.sub, pNil, PV.ref 4 0 none, p16 0, p16 0, pNil]), (4, oB true 1 enc16 r.vals), (2, .obj [pI 0, pI 0, pI 0, pI 0, pI 0, pNil, pNil, p16 0, p16 0, pNil]), (1, .obj [pI r.fn, pI r.at_, pI r.count, pI r.wAt, pI r.sub, pS 1 false encBo r.bits, pS 1 false enc16 r.vals, p16 r.and_, p16 r.or_]), (0, .obj [pI m, pI e, pI b])] 6 ⟨rfl, rfl, rfl, rfl, rfl, trivial⟩ rfl rfl ?_
     refine r_end ?_
     refine q_then ?_
     refine w_block ?_
     refine w_seq ?_
     refine w_R ?_
     refine qo hnt rfl (s_eql rfl rfl ?_)
     refine qa hnt rfl rfl ?_
     refine r_end ?_
     refine q_then ?_
     refine w_if rfl (fun c4 => ?_) (fun c4 => ?_)
     ·
      have c4_ := c4
      try simp only [sB] at c4
      rw [cntDo_4 (m := m) (e := e) (b := b) (u := u) (q := r) (by omega) (by omega) (by omega)] at hD
      refine w_seq ?_
      refine w_R ?_
      refine qo hnt rfl (s_load_ptr tab_43 rfl rfl rfl (Nat.le_of_ble_eq_true rfl) ?_)
      refine qo hnt rfl (s_store_ptr tab_43 rfl rfl rfl rfl rfl (Nat.le_of_ble_eq_true rfl) ?_)
      refine r_set [(6, PV.ptr 2 0)] [(2, .obj [pI r.fn, pI 0, pI 0, pI 0, pI r.sub, pNil, PV.ref 4 0 none, p16 0, p16 0, pNil]), (5, .obj [pI r.fn, pI 0, pI 0, pI 0, pI r.sub, pNil, PV.ref 4 0 none, p16 0, p16 0, pNil]), (4, oB true 1 enc16 r.vals), (1, .obj [pI r.fn, pI r.at_, pI r.count, pI r.wAt, pI r.sub, pS 1 false encBo r.bits, pS 1 false enc16 r.vals, p16 r.and_, p16 r.or_]), (0, .obj [pI m, pI e, pI b])] 6 ⟨rfl, trivial⟩ rfl rfl ?_
      refine r_end ?_
      refine q_then ?_
      refine w_frzC (n := 2) (j := 6) rfl rfl rfl rfl ?_
      refine w_leO (n := 2) (ds := [pI r.fn, pI 0, pI 0, pI 0, pI r.sub, pNil, pS 1 false enc16 D.1.vals, p16 0, p16 0, pNil]) rfl ⟨le_refl _, le_refl _, le_refl _, le_refl _, le_refl _, le_refl _, le_of_eq (congrArg (fun z => pS 1 false enc16 z) (show r.vals = D.1.vals by first | (rw [hD]; done) | (rw [hD]; rfl))), le_refl _, le_refl _, le_refl _, trivial⟩ ?_
      refine w_leO (n := 2) (ds := [pI D.1.fn, pI D.1.code, pI D.1.at_, pI D.1.count, pI D.1.sub, pS 1 false encBo D.1.bits, pS 1 false enc16 D.1.vals, p16 D.1.and_, p16 D.1.or_, pS 1 false enc8 D.1.data]) rfl ⟨le_of_eq (congrArg (fun z : Int => pI z) (show r.fn = D.1.fn by first | (rw [hD]; done) | (rw [hD]; rfl))), le_of_eq (congrArg (fun z : Int => pI z) (show 0 = D.1.code by first | (rw [hD]; done) | (rw [hD]; rfl))), le_of_eq (congrArg (fun z : Int => pI z) (show 0 = D.1.at_ by first | (rw [hD]; done) | (rw [hD]; rfl))), le_of_eq (congrArg (fun z : Int => pI z) (show 0 = D.1.count by first | (rw [hD]; done) | (rw [hD]; rfl))), le_of_eq (congrArg (fun z : Int => pI z) (show r.sub = D.1.sub by first | (rw [hD]; done) | (rw [hD]; rfl))), le_tr (le_nilS 1 false) (le_of_eq (congrArg (fun z => pS 1 false encBo z) (show [] = D.1.bits by first | (rw [hD]; done) | (rw [hD]; rfl)))), le_refl _, le_of_eq (congrArg (fun z : UInt16 => p16 z) (show 0 = D.1.and_ by first | (rw [hD]; done) | (rw [hD]; rfl))), le_of_eq (congrArg (fun z : UInt16 => p16 z) (show 0 = D.1.or_ by first | (rw [hD]; done) | (rw [hD]; rfl))), le_tr (le_nilS 1 false) (le_of_eq (congrArg (fun z => pS 1 false enc8 z) (show [] = D.1.data by first | (rw [hD]; done) | (rw [hD]; rfl)))), trivial⟩ ?_
      refine w_leO (n := 0) (ds := [pI (cC m D.2), pI (cC e D.2), pI (cC b D.2)]) rfl ⟨le_of_eq (congrArg (fun z : Int => pI z) (show m = (cC m D.2) by first | (rw [hD]; done) | (rw [hD]; rfl))), le_of_eq (congrArg (fun z : Int => pI z) (show e = (cC e D.2) by first | (rw [hD]; done) | (rw [hD]; rfl))), le_of_eq (congrArg (fun z : Int => pI z) (show b = (cC b D.2) by first | (rw [hD]; done) | (rw [hD]; rfl))), trivial⟩ ?_
      refine w_ret ?_
      refine q_block_ret ?_
      refine q_then_ret ?_
      exact fin_names (nx1 := 1) (H1 := [(0, .obj [pI (cC m D.2), pI (cC e D.2), pI (cC b D.2)])]) [(0, 0)] (ret_cell tab_43 (by decide) rfl rfl (Nat.le_of_ble_eq_true rfl) rfl ret_nil) rfl (by decide) ⟨⟨_, _, rfl, rfl, rfl, rfl⟩, trivial⟩ (by decide) rfl ⟨rfl, rfl, rfl⟩
     ·
      have c4_ := c4
      try simp only [sB] at c4
      refine w_seq ?_
      refine w_R ?_
      refine qo hnt rfl (s_eql rfl rfl ?_)
      refine qa hnt rfl rfl ?_
      refine r_end ?_
      refine q_then ?_
      refine w_if rfl (fun c5 => ?_) (fun c5 => ?_)
      ·
       have c5_ := c5
       try simp only [sB] at c5
       rw [cntDo_5 (m := m) (e := e) (b := b) (u := u) (q := r) (by omega) (by omega) (by omega)] at hD
       refine w_seq ?_
       refine w_R ?_
       refine qm hnt rfl rfl ?_
       refine qo hnt rfl (s_callX (r2 := PV.tup []) (nx1 := 6) (H2 := [(5, .obj [pI r.fn, pI 0, pI 0, pI 0, pI r.sub, pNil, PV.ref 4 0 none, p16 0, p16 0, pNil]), (4, oB true 1 enc16 r.vals), (2, .obj [pI 0, pI 0, pI 0, pI 0, pI 0, pNil, pNil, p16 0, p16 0, pNil]), (1, .obj [pI r.fn, pI r.at_, pI r.count, pI r.wAt, pI r.sub, pS 1 false encBo r.bits, pS 1 false enc16 r.vals, p16 r.and_, p16 r.or_]), (0, .obj [pI m, pI e, pI b])]) (H3 := [(0, .obj [pI 0, pI 0, pI 0]), (5, .obj [pI r.fn, pI 0, pI 0, pI 0, pI r.sub, pNil, PV.ref 4 0 none, p16 0, p16 0, pNil]), (4, oB true 1 enc16 r.vals), (2, .obj [pI 0, pI 0, pI 0, pI 0, pI 0, pNil, pNil, p16 0, p16 0, pNil]), (1, .obj [pI r.fn, pI r.at_, pI r.count, pI r.wAt, pI r.sub, pS 1 false encBo r.bits, pS 1 false enc16 r.vals, p16 r.and_, p16 r.or_])]) [0] [.obj [pI m, pI e, pI b]] rfl rfl rfl (handed_of (by decide) ⟨rfl, trivial⟩) rfl rfl rfl rfl rfl rfl (w_count_Count_Clear m e b) rfl (dist_of rfl) rfl rfl rfl rfl ?_)
       refine r_set [(6, PV.ptr 2 0), (7, PV.ptr 5 0)] [(0, .obj [pI 0, pI 0, pI 0]), (5, .obj [pI r.fn, pI 0, pI 0, pI 0, pI r.sub, pNil, PV.ref 4 0 none, p16 0, p16 0, pNil]), (4, oB true 1 enc16 r.vals), (2, .obj [pI 0, pI 0, pI 0, pI 0, pI 0, pNil, pNil, p16 0, p16 0, pNil]), (1, .obj [pI r.fn, pI r.at_, pI r.count, pI r.wAt, pI r.sub, pS 1 false encBo r.bits, pS 1 false enc16 r.vals, p16 r.and_, p16 r.or_])] 6 ⟨rfl, rfl, trivial⟩ rfl rfl ?_
       refine r_end ?_
       refine q_then ?_
       refine w_seq ?_
       refine w_R ?_
       refine qo hnt rfl (s_load_ptr tab_43 rfl rfl rfl (Nat.le_of_ble_eq_true rfl) ?_)
       refine qo hnt rfl (s_store_ptr tab_43 rfl rfl rfl rfl rfl (Nat.le_of_ble_eq_true rfl) ?_)
       refine r_set [(6, PV.ptr 2 0)] [(2, .obj [pI r.fn, pI 0, pI 0, pI 0, pI r.sub, pNil, PV.ref 4 0 none, p16 0, p16 0, pNil]), (0, .obj [pI 0, pI 0, pI 0]), (5, .obj [pI r.fn, pI 0, pI 0, pI 0, pI r.sub, pNil, PV.ref 4 0 none, p16 0, p16 0, pNil]), (4, oB true 1 enc16 r.vals), (1, .obj [pI r.fn, pI r.at_, pI r.count, pI r.wAt, pI r.sub, pS 1 false encBo r.bits, pS 1 false enc16 r.vals, p16 r.and_, p16 r.or_])] 6 ⟨rfl, trivial⟩ rfl rfl ?_
       refine r_end ?_
       refine q_then ?_
       refine w_frzC (n := 2) (j := 6) rfl rfl rfl rfl ?_
       refine w_leO (n := 2) (ds := [pI r.fn, pI 0, pI 0, pI 0, pI r.sub, pNil, pS 1 false enc16 D.1.vals, p16 0, p16 0, pNil]) rfl ⟨le_refl _, le_refl _, le_refl _, le_refl _, le_refl _, le_refl _, le_of_eq (congrArg (fun z => pS 1 false enc16 z) (show r.vals = D.1.vals by first | (rw [hD]; done) | (rw [hD]; rfl))), le_refl _, le_refl _, le_refl _, trivial⟩ ?_
       refine w_leO (n := 2) (ds := [pI D.1.fn, pI D.1.code, pI D.1.at_, pI D.1.count, pI D.1.sub, pS 1 false encBo D.1.bits, pS 1 false enc16 D.1.vals, p16 D.1.and_, p16 D.1.or_, pS 1 false enc8 D.1.data]) rfl ⟨le_of_eq (congrArg (fun z : Int => pI z) (show r.fn = D.1.fn by first | (rw [hD]; done) | (rw [hD]; rfl))), le_of_eq (congrArg (fun z : Int => pI z) (show 0 = D.1.code by first | (rw [hD]; done) | (rw [hD]; rfl))), le_of_eq (congrArg (fun z : Int => pI z) (show 0 = D.1.at_ by first | (rw [hD]; done) | (rw [hD]; rfl))), le_of_eq (congrArg (fun z : Int => pI z) (show 0 = D.1.count by first | (rw [hD]; done) | (rw [hD]; rfl))), le_of_eq (congrArg (fun z : Int => pI z) (show r.sub = D.1.sub by first | (rw [hD]; done) | (rw [hD]; rfl))), le_tr (le_nilS 1 false) (le_of_eq (congrArg (fun z => pS 1 false encBo z) (show [] = D.1.bits by first | (rw [hD]; done) | (rw [hD]; rfl)))), le_refl _, le_of_eq (congrArg (fun z : UInt16 => p16 z) (show 0 = D.1.and_ by first | (rw [hD]; done) | (rw [hD]; rfl))), le_of_eq (congrArg (fun z : UInt16 => p16 z) (show 0 = D.1.or_ by first | (rw [hD]; done) | (rw [hD]; rfl))), le_tr (le_nilS 1 false) (le_of_eq (congrArg (fun z => pS 1 false enc8 z) (show [] = D.1.data by first | (rw [hD]; done) | (rw [hD]; rfl)))), trivial⟩ ?_
       refine w_leO (n := 0) (ds := [pI (cC m D.2), pI (cC e D.2), pI (cC b D.2)]) rfl ⟨le_of_eq (congrArg (fun z : Int => pI z) (show 0 = (cC m D.2) by first | (rw [hD]; done) | (rw [hD]; rfl))), le_of_eq (congrArg (fun z : Int => pI z) (show 0 = (cC e D.2) by first | (rw [hD]; done) | (rw [hD]; rfl))), le_of_eq (congrArg (fun z : Int => pI z) (show 0 = (cC b D.2) by first | (rw [hD]; done) | (rw [hD]; rfl))), trivial⟩ ?_
       refine w_ret ?_
       refine q_block_ret ?_
       refine q_then_ret ?_
       exact fin_names (nx1 := 1) (H1 := [(0, .obj [pI (cC m D.2), pI (cC e D.2), pI (cC b D.2)])]) [(0, 0)] (ret_cell tab_43 (by decide) rfl rfl (Nat.le_of_ble_eq_true rfl) rfl ret_nil) rfl (by decide) ⟨⟨_, _, rfl, rfl, rfl, rfl⟩, trivial⟩ (by decide) rfl ⟨rfl, rfl, rfl⟩
      ·
       have c5_ := c5
       try simp only [sB] at c5
       have hv8 := vals_8 (q := r) (by omega) (by omega)
       refine w_skip ?_
       refine q_block ?_
       refine q_then ?_
       refine w_seq ?_
       refine w_R ?_
       refine qm hnt rfl rfl ?_
       refine qo hnt rfl (s_fa_ptr tab_32 rfl rfl tab_3 (by decide) rfl ?_)
       refine qo hnt rfl (s_load_ptr1 tab_3 rfl rfl rfl rfl rfl ?_)
       refine qo hnt rfl (s_callX (r2 := PV.tup [p16 (cntGet m e b r.sub), pB (cntOk r.sub)]) (nx1 := 6) (H2 := [(5, .obj [pI r.fn, pI 0, pI 0, pI 0, pI r.sub, pNil, PV.ref 4 0 none, p16 0, p16 0, pNil]), (4, oB true 1 enc16 r.vals), (2, .obj [pI 0, pI 0, pI 0, pI 0, pI 0, pNil, pNil, p16 0, p16 0, pNil]), (1, .obj [pI r.fn, pI r.at_, pI r.count, pI r.wAt, pI r.sub, pS 1 false encBo r.bits, pS 1 false enc16 r.vals, p16 r.and_, p16 r.or_]), (0, .obj [pI m, pI e, pI b])]) (H3 := [(0, .obj [pI m, pI e, pI b]), (5, .obj [pI r.fn, pI 0, pI 0, pI 0, pI r.sub, pNil, PV.ref 4 0 none, p16 0, p16 0, pNil]), (4, oB true 1 enc16 r.vals), (2, .obj [pI 0, pI 0, pI 0, pI 0, pI 0, pNil, pNil, p16 0, p16 0, pNil]), (1, .obj [pI r.fn, pI r.at_, pI r.count, pI r.wAt, pI r.sub, pS 1 false encBo r.bits, pS 1 false enc16 r.vals, p16 r.and_, p16 r.or_])]) [0] [.obj [pI m, pI e, pI b]] rfl rfl rfl (handed_of (by decide) ⟨rfl, trivial⟩) rfl rfl rfl rfl rfl rfl (w_count_Count_Get m e b r.sub) rfl (dist_of rfl) rfl rfl rfl rfl ?_)
       refine qm hnt rfl rfl ?_
       refine qo hnt rfl (s_extract rfl rfl ?_)
       refine qo hnt rfl (s_extract rfl rfl ?_)
       refine qa hnt rfl rfl ?_
       refine qa hnt rfl rfl ?_
       refine r_set [(4, PV.ptr 1 0), (6, PV.ptr 2 0), (7, PV.ptr 5 0), (8, p16 (cntGet m e b r.sub)), (9, pB (cntOk r.sub))] [(0, .obj [pI m, pI e, pI b]), (5, .obj [pI r.fn, pI 0, pI 0, pI 0, pI r.sub, pNil, PV.ref 4 0 none, p16 0, p16 0, pNil]), (4, oB true 1 enc16 r.vals), (2, .obj [pI 0, pI 0, pI 0, pI 0, pI 0, pNil, pNil, p16 0, p16 0, pNil]), (1, .obj [pI r.fn, pI r.at_, pI r.count, pI r.wAt, pI r.sub, pS 1 false encBo r.bits, pS 1 false enc16 r.vals, p16 r.and_, p16 r.or_])] 6 ⟨rfl, rfl, rfl, rfl, rfl, trivial⟩ rfl rfl ?_
       refine r_end ?_
       refine q_then ?_
       refine w_seq ?_
       refine w_seq ?_
       refine w_R ?_
       refine qm hnt rfl rfl ?_
       refine qo hnt rfl (s_not rfl ?_)
       refine qm hnt rfl rfl ?_
       refine r_if tabOk hnt rfl rfl rfl (fun g2 => ?_) (fun g2 => ?_)
       ·
        have g2' := g2
        try simp only [sB] at g2'
        refine qo hnt rfl (s_fa_ptr tab_32 rfl rfl tab_29 (by decide) rfl ?_)
        refine ry hnt rfl rfl rfl g2 ?_
        refine qo hnt rfl (s_load_ptr1 tab_29 rfl rfl rfl rfl rfl ?_)
        refine ry hnt rfl rfl rfl g2 ?_
        obtain ⟨e1, he1⟩ := get_of_lt r.vals (i := 0) (by omega)
        refine qo hnt rfl (s_iaM (q := 0) (b := e1) (f := enc16) tab_29 rfl tab_30 rfl rfl (by omega) rfl he1 ?_)
        refine ry hnt rfl rfl rfl g2 ?_
        refine qo hnt rfl (s_load_ro1 tab_30 rfl rfl rfl rfl ?_)
        refine ry hnt rfl rfl rfl g2 ?_
        refine qo hnt rfl (s_neq16 (a := e1) (b := 0) rfl rfl ?_)
        refine qo hnt rfl (s_pick_f rfl g2 rfl ?_)
        refine r_end ?_
        refine q_then ?_
        refine w_if rfl (fun c6 => ?_) (fun c6 => ?_)
        ·
         have c6_ := c6
         try simp only [sB] at c6
         rw [cntDo_6 (m := m) (e := e) (b := b) (u := u) (q := r) (by omega) (by omega) (by omega) (.inr (by rw [List.getD_eq_getElem?_getD, he1]; exact c6))] at hD
         refine w_seq ?_
         refine w_R ?_
         refine qo hnt rfl (s_fa_ptr tab_32 rfl rfl tab_3 (by decide) rfl ?_)
         refine qo hnt rfl (s_load_ptr1 tab_3 rfl rfl rfl rfl rfl ?_)
         refine qo hnt rfl (s_callF rfl rfl rfl (w_reply_Refuse r.fn 3) rfl ?_)
         refine qo hnt rfl (s_store_ptr tab_43 rfl rfl rfl rfl rfl (Nat.le_of_ble_eq_true rfl) ?_)
         refine r_set [(6, PV.ptr 2 0)] [(2, .obj [pI ((refuseR r.fn 3).fn), pI ((refuseR r.fn 3).code), pI ((refuseR r.fn 3).at_), pI ((refuseR r.fn 3).count), pI ((refuseR r.fn 3).sub), pS 1 false encBo ((refuseR r.fn 3).bits), pS 1 false enc16 ((refuseR r.fn 3).vals), p16 ((refuseR r.fn 3).and_), p16 ((refuseR r.fn 3).or_), pS 1 false enc8 ((refuseR r.fn 3).data)]), (0, .obj [pI m, pI e, pI b]), (5, .obj [pI r.fn, pI 0, pI 0, pI 0, pI r.sub, pNil, PV.ref 4 0 none, p16 0, p16 0, pNil]), (4, oB true 1 enc16 r.vals), (1, .obj [pI r.fn, pI r.at_, pI r.count, pI r.wAt, pI r.sub, pS 1 false encBo r.bits, pS 1 false enc16 r.vals, p16 r.and_, p16 r.or_])] 6 ⟨rfl, trivial⟩ rfl rfl ?_
         refine r_end ?_
         refine q_then ?_
         refine w_leO (n := 2) (ds := [pI D.1.fn, pI D.1.code, pI D.1.at_, pI D.1.count, pI D.1.sub, pS 1 false encBo D.1.bits, pS 1 false enc16 D.1.vals, p16 D.1.and_, p16 D.1.or_, pS 1 false enc8 D.1.data]) rfl ⟨le_of_eq (congrArg (fun z : Int => pI z) (show ((refuseR r.fn 3).fn) = D.1.fn by first | (rw [hD]; done) | (rw [hD]; rfl))), le_of_eq (congrArg (fun z : Int => pI z) (show ((refuseR r.fn 3).code) = D.1.code by first | (rw [hD]; done) | (rw [hD]; rfl))), le_of_eq (congrArg (fun z : Int => pI z) (show ((refuseR r.fn 3).at_) = D.1.at_ by first | (rw [hD]; done) | (rw [hD]; rfl))), le_of_eq (congrArg (fun z : Int => pI z) (show ((refuseR r.fn 3).count) = D.1.count by first | (rw [hD]; done) | (rw [hD]; rfl))), le_of_eq (congrArg (fun z : Int => pI z) (show ((refuseR r.fn 3).sub) = D.1.sub by first | (rw [hD]; done) | (rw [hD]; rfl))), le_of_eq (congrArg (fun z => pS 1 false encBo z) (show ((refuseR r.fn 3).bits) = D.1.bits by first | (rw [hD]; done) | (rw [hD]; rfl))), le_of_eq (congrArg (fun z => pS 1 false enc16 z) (show ((refuseR r.fn 3).vals) = D.1.vals by first | (rw [hD]; done) | (rw [hD]; rfl))), le_of_eq (congrArg (fun z : UInt16 => p16 z) (show ((refuseR r.fn 3).and_) = D.1.and_ by first | (rw [hD]; done) | (rw [hD]; rfl))), le_of_eq (congrArg (fun z : UInt16 => p16 z) (show ((refuseR r.fn 3).or_) = D.1.or_ by first | (rw [hD]; done) | (rw [hD]; rfl))), le_of_eq (congrArg (fun z => pS 1 false enc8 z) (show ((refuseR r.fn 3).data) = D.1.data by first | (rw [hD]; done) | (rw [hD]; rfl))), trivial⟩ ?_
         refine w_leO (n := 0) (ds := [pI (cC m D.2), pI (cC e D.2), pI (cC b D.2)]) rfl ⟨le_of_eq (congrArg (fun z : Int => pI z) (show m = (cC m D.2) by first | (rw [hD]; done) | (rw [hD]; rfl))), le_of_eq (congrArg (fun z : Int => pI z) (show e = (cC e D.2) by first | (rw [hD]; done) | (rw [hD]; rfl))), le_of_eq (congrArg (fun z : Int => pI z) (show b = (cC b D.2) by first | (rw [hD]; done) | (rw [hD]; rfl))), trivial⟩ ?_
         refine w_ret ?_
         refine q_then_ret ?_
         exact fin_names (nx1 := 1) (H1 := [(0, .obj [pI (cC m D.2), pI (cC e D.2), pI (cC b D.2)])]) [(0, 0)] (ret_cell tab_43 (by decide) rfl rfl (Nat.le_of_ble_eq_true rfl) rfl ret_nil) rfl (by decide) ⟨⟨_, _, rfl, rfl, rfl, rfl⟩, trivial⟩ (by decide) rfl ⟨rfl, rfl, rfl⟩
        ·
         have c6_ := c6
         try simp only [sB] at c6
         rw [cntDo_7 (m := m) (e := e) (b := b) (u := u) (q := r) (by omega) (by omega) (by omega) g2' he1 c6] at hD
         refine w_skip ?_
         refine q_then ?_
         refine w_seq ?_
         refine w_R ?_
         refine qo hnt rfl (s_fa_ptr tab_43 rfl rfl tab_29 (by decide) rfl ?_)
         refine qo hnt rfl (s_load_ptr1 tab_29 rfl rfl rfl rfl rfl ?_)
         refine qm hnt rfl rfl ?_
         refine qo hnt rfl (s_iaR0 (q := 0) (f := enc16) (l := r.vals) tab_29 rfl tab_30 rfl rfl (by omega) rfl rfl (by omega) ?_)
         refine qo hnt rfl (s_stM (y0 := e1) (z := cntGet m e b r.sub) (f := enc16) tab_30 rfl rfl rfl rfl rfl he1 (Nat.le_of_ble_eq_true rfl) rfl rfl (by simp) rfl ?_)
         refine r_set [(6, PV.ptr 2 0), (7, PV.ptr 5 0)] [(4, oB true 1 enc16 (r.vals.set 0 (cntGet m e b r.sub))), (0, .obj [pI m, pI e, pI b]), (5, .obj [pI r.fn, pI 0, pI 0, pI 0, pI r.sub, pNil, PV.ref 4 0 none, p16 0, p16 0, pNil]), (2, .obj [pI 0, pI 0, pI 0, pI 0, pI 0, pNil, pNil, p16 0, p16 0, pNil]), (1, .obj [pI r.fn, pI r.at_, pI r.count, pI r.wAt, pI r.sub, pS 1 false encBo r.bits, pS 1 false enc16 r.vals, p16 r.and_, p16 r.or_])] 6 ⟨rfl, rfl, trivial⟩ rfl rfl ?_
         refine r_end ?_
         refine q_then ?_
         refine w_seq ?_
         refine w_R ?_
         refine qo hnt rfl (s_load_ptr tab_43 rfl rfl rfl (Nat.le_of_ble_eq_true rfl) ?_)
         refine qo hnt rfl (s_store_ptr tab_43 rfl rfl rfl rfl rfl (Nat.le_of_ble_eq_true rfl) ?_)
         refine r_set [(6, PV.ptr 2 0)] [(2, .obj [pI r.fn, pI 0, pI 0, pI 0, pI r.sub, pNil, PV.ref 4 0 none, p16 0, p16 0, pNil]), (4, oB true 1 enc16 (r.vals.set 0 (cntGet m e b r.sub))), (0, .obj [pI m, pI e, pI b]), (5, .obj [pI r.fn, pI 0, pI 0, pI 0, pI r.sub, pNil, PV.ref 4 0 none, p16 0, p16 0, pNil]), (1, .obj [pI r.fn, pI r.at_, pI r.count, pI r.wAt, pI r.sub, pS 1 false encBo r.bits, pS 1 false enc16 r.vals, p16 r.and_, p16 r.or_])] 6 ⟨rfl, trivial⟩ rfl rfl ?_
         refine r_end ?_
         refine q_then ?_
         refine w_frzC (n := 2) (j := 6) rfl rfl rfl rfl ?_
         refine w_leO (n := 2) (ds := [pI r.fn, pI 0, pI 0, pI 0, pI r.sub, pNil, pS 1 false enc16 D.1.vals, p16 0, p16 0, pNil]) rfl ⟨le_refl _, le_refl _, le_refl _, le_refl _, le_refl _, le_refl _, le_of_eq (congrArg (fun z => pS 1 false enc16 z) (show (r.vals.set 0 (cntGet m e b r.sub)) = D.1.vals by first | (rw [hD]; done) | (rw [hD]; rfl))), le_refl _, le_refl _, le_refl _, trivial⟩ ?_
         refine w_leO (n := 2) (ds := [pI D.1.fn, pI D.1.code, pI D.1.at_, pI D.1.count, pI D.1.sub, pS 1 false encBo D.1.bits, pS 1 false enc16 D.1.vals, p16 D.1.and_, p16 D.1.or_, pS 1 false enc8 D.1.data]) rfl ⟨le_of_eq (congrArg (fun z : Int => pI z) (show r.fn = D.1.fn by first | (rw [hD]; done) | (rw [hD]; rfl))), le_of_eq (congrArg (fun z : Int => pI z) (show 0 = D.1.code by first | (rw [hD]; done) | (rw [hD]; rfl))), le_of_eq (congrArg (fun z : Int => pI z) (show 0 = D.1.at_ by first | (rw [hD]; done) | (rw [hD]; rfl))), le_of_eq (congrArg (fun z : Int => pI z) (show 0 = D.1.count by first | (rw [hD]; done) | (rw [hD]; rfl))), le_of_eq (congrArg (fun z : Int => pI z) (show r.sub = D.1.sub by first | (rw [hD]; done) | (rw [hD]; rfl))), le_tr (le_nilS 1 false) (le_of_eq (congrArg (fun z => pS 1 false encBo z) (show [] = D.1.bits by first | (rw [hD]; done) | (rw [hD]; rfl)))), le_refl _, le_of_eq (congrArg (fun z : UInt16 => p16 z) (show 0 = D.1.and_ by first | (rw [hD]; done) | (rw [hD]; rfl))), le_of_eq (congrArg (fun z : UInt16 => p16 z) (show 0 = D.1.or_ by first | (rw [hD]; done) | (rw [hD]; rfl))), le_tr (le_nilS 1 false) (le_of_eq (congrArg (fun z => pS 1 false enc8 z) (show [] = D.1.data by first | (rw [hD]; done) | (rw [hD]; rfl)))), trivial⟩ ?_
         refine w_leO (n := 0) (ds := [pI (cC m D.2), pI (cC e D.2), pI (cC b D.2)]) rfl ⟨le_of_eq (congrArg (fun z : Int => pI z) (show m = (cC m D.2) by first | (rw [hD]; done) | (rw [hD]; rfl))), le_of_eq (congrArg (fun z : Int => pI z) (show e = (cC e D.2) by first | (rw [hD]; done) | (rw [hD]; rfl))), le_of_eq (congrArg (fun z : Int => pI z) (show b = (cC b D.2) by first | (rw [hD]; done) | (rw [hD]; rfl))), trivial⟩ ?_
         refine w_ret ?_
         exact fin_names (nx1 := 1) (H1 := [(0, .obj [pI (cC m D.2), pI (cC e D.2), pI (cC b D.2)])]) [(0, 0)] (ret_cell tab_43 (by decide) rfl rfl (Nat.le_of_ble_eq_true rfl) rfl ret_nil) rfl (by decide) ⟨⟨_, _, rfl, rfl, rfl, rfl⟩, trivial⟩ (by decide) rfl ⟨rfl, rfl, rfl⟩
       ·
        have g2' := g2
        try simp only [sB] at g2'
        rw [cntDo_6 (m := m) (e := e) (b := b) (u := u) (q := r) (by omega) (by omega) (by omega) (.inl g2')] at hD
        refine rn hnt rfl rfl rfl g2 ?_
        refine rn hnt rfl rfl rfl g2 ?_
        refine rn hnt rfl rfl rfl g2 ?_
        refine rn hnt rfl rfl rfl g2 ?_
        refine qo hnt rfl (s_pick_t rfl g2 rfl ?_)
        refine r_end ?_
        refine q_then ?_
        refine w_if rfl (fun _ => ?_) (fun e => absurd e (by decide))
        refine w_seq ?_
        refine w_R ?_
        refine qo hnt rfl (s_fa_ptr tab_32 rfl rfl tab_3 (by decide) rfl ?_)
        refine qo hnt rfl (s_load_ptr1 tab_3 rfl rfl rfl rfl rfl ?_)
        refine qo hnt rfl (s_callF rfl rfl rfl (w_reply_Refuse r.fn 3) rfl ?_)
        refine qo hnt rfl (s_store_ptr tab_43 rfl rfl rfl rfl rfl (Nat.le_of_ble_eq_true rfl) ?_)
        refine r_set [(6, PV.ptr 2 0)] [(2, .obj [pI ((refuseR r.fn 3).fn), pI ((refuseR r.fn 3).code), pI ((refuseR r.fn 3).at_), pI ((refuseR r.fn 3).count), pI ((refuseR r.fn 3).sub), pS 1 false encBo ((refuseR r.fn 3).bits), pS 1 false enc16 ((refuseR r.fn 3).vals), p16 ((refuseR r.fn 3).and_), p16 ((refuseR r.fn 3).or_), pS 1 false enc8 ((refuseR r.fn 3).data)]), (0, .obj [pI m, pI e, pI b]), (5, .obj [pI r.fn, pI 0, pI 0, pI 0, pI r.sub, pNil, PV.ref 4 0 none, p16 0, p16 0, pNil]), (4, oB true 1 enc16 r.vals), (1, .obj [pI r.fn, pI r.at_, pI r.count, pI r.wAt, pI r.sub, pS 1 false encBo r.bits, pS 1 false enc16 r.vals, p16 r.and_, p16 r.or_])] 6 ⟨rfl, trivial⟩ rfl rfl ?_
        refine r_end ?_
        refine q_then ?_
        refine w_leO (n := 2) (ds := [pI D.1.fn, pI D.1.code, pI D.1.at_, pI D.1.count, pI D.1.sub, pS 1 false encBo D.1.bits, pS 1 false enc16 D.1.vals, p16 D.1.and_, p16 D.1.or_, pS 1 false enc8 D.1.data]) rfl ⟨le_of_eq (congrArg (fun z : Int => pI z) (show ((refuseR r.fn 3).fn) = D.1.fn by first | (rw [hD]; done) | (rw [hD]; rfl))), le_of_eq (congrArg (fun z : Int => pI z) (show ((refuseR r.fn 3).code) = D.1.code by first | (rw [hD]; done) | (rw [hD]; rfl))), le_of_eq (congrArg (fun z : Int => pI z) (show ((refuseR r.fn 3).at_) = D.1.at_ by first | (rw [hD]; done) | (rw [hD]; rfl))), le_of_eq (congrArg (fun z : Int => pI z) (show ((refuseR r.fn 3).count) = D.1.count by first | (rw [hD]; done) | (rw [hD]; rfl))), le_of_eq (congrArg (fun z : Int => pI z) (show ((refuseR r.fn 3).sub) = D.1.sub by first | (rw [hD]; done) | (rw [hD]; rfl))), le_of_eq (congrArg (fun z => pS 1 false encBo z) (show ((refuseR r.fn 3).bits) = D.1.bits by first | (rw [hD]; done) | (rw [hD]; rfl))), le_of_eq (congrArg (fun z => pS 1 false enc16 z) (show ((refuseR r.fn 3).vals) = D.1.vals by first | (rw [hD]; done) | (rw [hD]; rfl))), le_of_eq (congrArg (fun z : UInt16 => p16 z) (show ((refuseR r.fn 3).and_) = D.1.and_ by first | (rw [hD]; done) | (rw [hD]; rfl))), le_of_eq (congrArg (fun z : UInt16 => p16 z) (show ((refuseR r.fn 3).or_) = D.1.or_ by first | (rw [hD]; done) | (rw [hD]; rfl))), le_of_eq (congrArg (fun z => pS 1 false enc8 z) (show ((refuseR r.fn 3).data) = D.1.data by first | (rw [hD]; done) | (rw [hD]; rfl))), trivial⟩ ?_
        refine w_leO (n := 0) (ds := [pI (cC m D.2), pI (cC e D.2), pI (cC b D.2)]) rfl ⟨le_of_eq (congrArg (fun z : Int => pI z) (show m = (cC m D.2) by first | (rw [hD]; done) | (rw [hD]; rfl))), le_of_eq (congrArg (fun z : Int => pI z) (show e = (cC e D.2) by first | (rw [hD]; done) | (rw [hD]; rfl))), le_of_eq (congrArg (fun z : Int => pI z) (show b = (cC b D.2) by first | (rw [hD]; done) | (rw [hD]; rfl))), trivial⟩ ?_
        refine w_ret ?_
        refine q_then_ret ?_
        exact fin_names (nx1 := 1) (H1 := [(0, .obj [pI (cC m D.2), pI (cC e D.2), pI (cC b D.2)])]) [(0, 0)] (ret_cell tab_43 (by decide) rfl rfl (Nat.le_of_ble_eq_true rfl) rfl ret_nil) rfl (by decide) ⟨⟨_, _, rfl, rfl, rfl, rfl⟩, trivial⟩ (by decide) rfl ⟨rfl, rfl, rfl⟩
 ·
  have g1' := g1
  try simp only [sB] at g1'
  refine rn hnt rfl rfl rfl g1 ?_
  refine rn hnt rfl rfl rfl g1 ?_
  refine qo hnt rfl (s_pick_f rfl g1 rfl ?_)
  refine qa hnt rfl rfl ?_
  refine r_end ?_
  refine q_then ?_
  refine w_if rfl (fun e => absurd e (by decide)) (fun _ => ?_)
  refine w_seq ?_
  refine w_R ?_
  refine qo hnt rfl (s_load_ptr tab_32 rfl rfl rfl (Nat.le_of_ble_eq_true rfl) ?_)
  refine qo hnt rfl (s_callF rfl rfl rfl (w_pdu_Right r (by first | omega | assumption | (simp; omega) | decide | (simp; done)) (by first | omega | assumption | (simp; omega) | decide | (simp; done))) rfl ?_)
  refine qo hnt rfl (s_neq rfl rfl ?_)
  refine qa hnt rfl rfl ?_
  refine r_end ?_
  refine q_then ?_
  refine w_if rfl (fun c7 => ?_) (fun c7 => ?_)
  ·
   have c7_ := c7
   try simp only [sB] at c7
   rw [cntDo_2 (m := m) (e := e) (b := b) (u := u) (q := r) (by omega) (by omega)] at hD
   refine w_seq ?_
   refine w_R ?_
   refine qo hnt rfl (s_fa_ptr tab_32 rfl rfl tab_3 (by decide) rfl ?_)
   refine qo hnt rfl (s_load_ptr1 tab_3 rfl rfl rfl rfl rfl ?_)
   refine qo hnt rfl (s_callF rfl rfl rfl (w_reply_Refuse r.fn 3) rfl ?_)
   refine qo hnt rfl (s_store_ptr tab_43 rfl rfl rfl rfl rfl (Nat.le_of_ble_eq_true rfl) ?_)
   refine r_set [(6, PV.ptr 2 0)] [(2, .obj [pI ((refuseR r.fn 3).fn), pI ((refuseR r.fn 3).code), pI ((refuseR r.fn 3).at_), pI ((refuseR r.fn 3).count), pI ((refuseR r.fn 3).sub), pS 1 false encBo ((refuseR r.fn 3).bits), pS 1 false enc16 ((refuseR r.fn 3).vals), p16 ((refuseR r.fn 3).and_), p16 ((refuseR r.fn 3).or_), pS 1 false enc8 ((refuseR r.fn 3).data)]), (1, .obj [pI r.fn, pI r.at_, pI r.count, pI r.wAt, pI r.sub, pS 1 false encBo r.bits, pS 1 false enc16 r.vals, p16 r.and_, p16 r.or_]), (0, .obj [pI m, pI e, pI b])] 3 ⟨rfl, trivial⟩ rfl rfl ?_
   refine r_end ?_
   refine q_then ?_
   refine w_leO (n := 2) (ds := [pI D.1.fn, pI D.1.code, pI D.1.at_, pI D.1.count, pI D.1.sub, pS 1 false encBo D.1.bits, pS 1 false enc16 D.1.vals, p16 D.1.and_, p16 D.1.or_, pS 1 false enc8 D.1.data]) rfl ⟨le_of_eq (congrArg (fun z : Int => pI z) (show ((refuseR r.fn 3).fn) = D.1.fn by first | (rw [hD]; done) | (rw [hD]; rfl))), le_of_eq (congrArg (fun z : Int => pI z) (show ((refuseR r.fn 3).code) = D.1.code by first | (rw [hD]; done) | (rw [hD]; rfl))), le_of_eq (congrArg (fun z : Int => pI z) (show ((refuseR r.fn 3).at_) = D.1.at_ by first | (rw [hD]; done) | (rw [hD]; rfl))), le_of_eq (congrArg (fun z : Int => pI z) (show ((refuseR r.fn 3).count) = D.1.count by first | (rw [hD]; done) | (rw [hD]; rfl))), le_of_eq (congrArg (fun z : Int => pI z) (show ((refuseR r.fn 3).sub) = D.1.sub by first | (rw [hD]; done) | (rw [hD]; rfl))), le_of_eq (congrArg (fun z => pS 1 false encBo z) (show ((refuseR r.fn 3).bits) = D.1.bits by first | (rw [hD]; done) | (rw [hD]; rfl))), le_of_eq (congrArg (fun z => pS 1 false enc16 z) (show ((refuseR r.fn 3).vals) = D.1.vals by first | (rw [hD]; done) | (rw [hD]; rfl))), le_of_eq (congrArg (fun z : UInt16 => p16 z) (show ((refuseR r.fn 3).and_) = D.1.and_ by first | (rw [hD]; done) | (rw [hD]; rfl))), le_of_eq (congrArg (fun z : UInt16 => p16 z) (show ((refuseR r.fn 3).or_) = D.1.or_ by first | (rw [hD]; done) | (rw [hD]; rfl))), le_of_eq (congrArg (fun z => pS 1 false enc8 z) (show ((refuseR r.fn 3).data) = D.1.data by first | (rw [hD]; done) | (rw [hD]; rfl))), trivial⟩ ?_
   refine w_leO (n := 0) (ds := [pI (cC m D.2), pI (cC e D.2), pI (cC b D.2)]) rfl ⟨le_of_eq (congrArg (fun z : Int => pI z) (show m = (cC m D.2) by first | (rw [hD]; done) | (rw [hD]; rfl))), le_of_eq (congrArg (fun z : Int => pI z) (show e = (cC e D.2) by first | (rw [hD]; done) | (rw [hD]; rfl))), le_of_eq (congrArg (fun z : Int => pI z) (show b = (cC b D.2) by first | (rw [hD]; done) | (rw [hD]; rfl))), trivial⟩ ?_
   refine w_ret ?_
   refine q_block_ret ?_
   refine q_then_ret ?_
   exact fin_names (nx1 := 1) (H1 := [(0, .obj [pI (cC m D.2), pI (cC e D.2), pI (cC b D.2)])]) [(0, 0)] (ret_cell tab_43 (by decide) rfl rfl (Nat.le_of_ble_eq_true rfl) rfl ret_nil) rfl (by decide) ⟨⟨_, _, rfl, rfl, rfl, rfl⟩, trivial⟩ (by decide) rfl ⟨rfl, rfl, rfl⟩
  ·
   have c7_ := c7
   try simp only [sB] at c7
   refine w_seq ?_
   refine w_R ?_
   refine qo hnt rfl (s_fa_ptr tab_32 rfl rfl tab_3 (by decide) rfl ?_)
   refine qo hnt rfl (s_load_ptr1 tab_3 rfl rfl rfl rfl rfl ?_)
   refine qo hnt rfl (s_eql rfl rfl ?_)
   refine qa hnt rfl rfl ?_
   refine r_end ?_
   refine q_then ?_
   refine w_if rfl (fun c8 => ?_) (fun c8 => ?_)
   ·
    have c8_ := c8
    try simp only [sB] at c8
    rw [cntDo_3 (m := m) (e := e) (b := b) (u := u) (q := r) (by omega) (by omega)] at hD
    refine w_seq ?_
    refine w_R ?_
    refine qo hnt rfl (s_fa_ptr tab_32 rfl rfl tab_3 (by decide) rfl ?_)
    refine qo hnt rfl (s_load_ptr1 tab_3 rfl rfl rfl rfl rfl ?_)
    refine qm hnt rfl rfl ?_
    refine qo hnt rfl (s_maskI 8 (by decide) rfl rfl (by decide) ?_)
    refine qo hnt rfl (s_cv8N (a := (u % 2 ^ 8).toNat) tab_3 tab_5 rfl rfl rfl (by omega) ?_)
    refine qo hnt rfl (s_mkM (f := enc8) [UInt8.ofNat ((u % 2 ^ 8).toNat), 255] tab_41 rfl tab_5 ⟨rfl, by decide⟩ (by decide) rfl rfl rfl rfl ?_)
    refine qo hnt rfl (s_build tab_43 rfl rfl (b_cons rfl tab_3 rfl rfl rfl (Nat.le_of_ble_eq_true rfl) (b_cons rfl tab_41 rfl rfl rfl (Nat.le_of_ble_eq_true rfl) (b_nil ?_))))
    refine qo hnt rfl (s_store_ptr tab_43 rfl rfl rfl rfl rfl (Nat.le_of_ble_eq_true rfl) ?_)
    refine r_set [(6, PV.ptr 2 0)] [(2, .obj [pI r.fn, pI 0, pI 0, pI 0, pI 0, pNil, pNil, p16 0, p16 0, PV.ref 3 0 none]), (3, oB true 1 enc8 [UInt8.ofNat ((u % 2 ^ 8).toNat), 255]), (1, .obj [pI r.fn, pI r.at_, pI r.count, pI r.wAt, pI r.sub, pS 1 false encBo r.bits, pS 1 false enc16 r.vals, p16 r.and_, p16 r.or_]), (0, .obj [pI m, pI e, pI b])] 4 ⟨rfl, trivial⟩ rfl rfl ?_
    refine r_end ?_
    refine q_then ?_
    refine w_frzC (n := 2) (j := 9) rfl rfl rfl rfl ?_
    refine w_leO (n := 2) (ds := [pI r.fn, pI 0, pI 0, pI 0, pI 0, pNil, pNil, p16 0, p16 0, pS 1 false enc8 D.1.data]) rfl ⟨le_refl _, le_refl _, le_refl _, le_refl _, le_refl _, le_refl _, le_refl _, le_refl _, le_refl _, le_of_eq (congrArg (fun z => pS 1 false enc8 z) (show [UInt8.ofNat ((u % 2 ^ 8).toNat), 255] = D.1.data by first | (rw [hD]; done) | (rw [hD]; rfl))), trivial⟩ ?_
    refine w_leO (n := 2) (ds := [pI D.1.fn, pI D.1.code, pI D.1.at_, pI D.1.count, pI D.1.sub, pS 1 false encBo D.1.bits, pS 1 false enc16 D.1.vals, p16 D.1.and_, p16 D.1.or_, pS 1 false enc8 D.1.data]) rfl ⟨le_of_eq (congrArg (fun z : Int => pI z) (show r.fn = D.1.fn by first | (rw [hD]; done) | (rw [hD]; rfl))), le_of_eq (congrArg (fun z : Int => pI z) (show 0 = D.1.code by first | (rw [hD]; done) | (rw [hD]; rfl))), le_of_eq (congrArg (fun z : Int => pI z) (show 0 = D.1.at_ by first | (rw [hD]; done) | (rw [hD]; rfl))), le_of_eq (congrArg (fun z : Int => pI z) (show 0 = D.1.count by first | (rw [hD]; done) | (rw [hD]; rfl))), le_of_eq (congrArg (fun z : Int => pI z) (show 0 = D.1.sub by first | (rw [hD]; done) | (rw [hD]; rfl))), le_tr (le_nilS 1 false) (le_of_eq (congrArg (fun z => pS 1 false encBo z) (show [] = D.1.bits by first | (rw [hD]; done) | (rw [hD]; rfl)))), le_tr (le_nilS 1 false) (le_of_eq (congrArg (fun z => pS 1 false enc16 z) (show [] = D.1.vals by first | (rw [hD]; done) | (rw [hD]; rfl)))), le_of_eq (congrArg (fun z : UInt16 => p16 z) (show 0 = D.1.and_ by first | (rw [hD]; done) | (rw [hD]; rfl))), le_of_eq (congrArg (fun z : UInt16 => p16 z) (show 0 = D.1.or_ by first | (rw [hD]; done) | (rw [hD]; rfl))), le_refl _, trivial⟩ ?_
    refine w_leO (n := 0) (ds := [pI (cC m D.2), pI (cC e D.2), pI (cC b D.2)]) rfl ⟨le_of_eq (congrArg (fun z : Int => pI z) (show m = (cC m D.2) by first | (rw [hD]; done) | (rw [hD]; rfl))), le_of_eq (congrArg (fun z : Int => pI z) (show e = (cC e D.2) by first | (rw [hD]; done) | (rw [hD]; rfl))), le_of_eq (congrArg (fun z : Int => pI z) (show b = (cC b D.2) by first | (rw [hD]; done) | (rw [hD]; rfl))), trivial⟩ ?_
    refine w_ret ?_
    refine q_block_ret ?_
    refine q_then_ret ?_
    exact fin_names (nx1 := 1) (H1 := [(0, .obj [pI (cC m D.2), pI (cC e D.2), pI (cC b D.2)])]) [(0, 0)] (ret_cell tab_43 (by decide) rfl rfl (Nat.le_of_ble_eq_true rfl) rfl ret_nil) rfl (by decide) ⟨⟨_, _, rfl, rfl, rfl, rfl⟩, trivial⟩ (by decide) rfl ⟨rfl, rfl, rfl⟩
   ·
    have c8_ := c8
    try simp only [sB] at c8
    refine w_skip ?_
    refine q_block ?_
    refine q_then ?_
    refine w_seq ?_
    refine W_drawn tabOk mixed hnt [[], [0], [], [2], [], [4], [4, 5], [4, 5, 6], [0, 1, 2, 3, 4, 5, 6, 7], [], [0, 1, 2, 3, 4, 5, 6, 7, 8, 9]] (by kernel_rfl) ?_
    refine d_op ?_
    refine x_run0 [(4, PV.ptr 1 0)] [] rfl rfl rfl rfl (s_fa_ptr tab_32 rfl rfl tab_3 (by decide) rfl ⟨rfl, rfl, rfl⟩) ?_
    refine d_op ?_
    refine x_run [(40, PV.ptr 1 0)] [0] [(1, .obj [pI r.fn, pI r.at_, pI r.count, pI r.wAt, pI r.sub, pS 1 false encBo r.bits, pS 1 false enc16 r.vals, p16 r.and_, p16 r.or_])] [] [(1, .obj [pI r.fn, pI r.at_, pI r.count, pI r.wAt, pI r.sub, pS 1 false encBo r.bits, pS 1 false enc16 r.vals, p16 r.and_, p16 r.or_])] [] [(2, .obj [pI 0, pI 0, pI 0, pI 0, pI 0, pNil, pNil, p16 0, p16 0, pNil]), (1, .obj [pI r.fn, pI r.at_, pI r.count, pI r.wAt, pI r.sub, pS 1 false encBo r.bits, pS 1 false enc16 r.vals, p16 r.and_, p16 r.or_]), (0, .obj [pI m, pI e, pI b])] rfl rfl rfl rfl rfl rfl (s_load_ptr1 tab_3 rfl rfl rfl rfl rfl ⟨rfl, rfl, rfl⟩) rfl ⟨rfl, trivial⟩ rfl rfl ?_
    refine d_op ?_
    refine x_run0 [(4, PV.ptr 1 0)] [] rfl rfl rfl rfl (s_fa_ptr tab_32 rfl rfl tab_3 (by decide) rfl ⟨rfl, rfl, rfl⟩) ?_
    refine d_op ?_
    refine x_run [(42, PV.ptr 1 4)] [2] [(1, .obj [pI r.fn, pI r.at_, pI r.count, pI r.wAt, pI r.sub, pS 1 false encBo r.bits, pS 1 false enc16 r.vals, p16 r.and_, p16 r.or_])] [] [(1, .obj [pI r.fn, pI r.at_, pI r.count, pI r.wAt, pI r.sub, pS 1 false encBo r.bits, pS 1 false enc16 r.vals, p16 r.and_, p16 r.or_])] [] [(2, .obj [pI 0, pI 0, pI 0, pI 0, pI 0, pNil, pNil, p16 0, p16 0, pNil]), (1, .obj [pI r.fn, pI r.at_, pI r.count, pI r.wAt, pI r.sub, pS 1 false encBo r.bits, pS 1 false enc16 r.vals, p16 r.and_, p16 r.or_]), (0, .obj [pI m, pI e, pI b])] rfl rfl rfl rfl rfl rfl (s_load_ptr1 tab_3 rfl rfl rfl rfl rfl ⟨rfl, rfl, rfl⟩) rfl ⟨rfl, trivial⟩ rfl rfl ?_
    refine d_op ?_
    refine x_run0 [(4, PV.ptr 1 0)] [] rfl rfl rfl rfl (s_fa_ptr tab_32 rfl rfl tab_29 (by decide) rfl ⟨rfl, rfl, rfl⟩) ?_
    refine d_op ?_
    refine x_run [(44, PV.ptr 1 6)] [4] [(1, .obj [pI r.fn, pI r.at_, pI r.count, pI r.wAt, pI r.sub, pS 1 false encBo r.bits, pS 1 false enc16 r.vals, p16 r.and_, p16 r.or_])] [] [(1, .obj [pI r.fn, pI r.at_, pI r.count, pI r.wAt, pI r.sub, pS 1 false encBo r.bits, pS 1 false enc16 r.vals, p16 r.and_, p16 r.or_])] [] [(2, .obj [pI 0, pI 0, pI 0, pI 0, pI 0, pNil, pNil, p16 0, p16 0, pNil]), (1, .obj [pI r.fn, pI r.at_, pI r.count, pI r.wAt, pI r.sub, pS 1 false encBo r.bits, pS 1 false enc16 r.vals, p16 r.and_, p16 r.or_]), (0, .obj [pI m, pI e, pI b])] rfl rfl rfl rfl rfl rfl (s_load_ptr1 tab_29 rfl rfl rfl rfl rfl ⟨rfl, rfl, rfl⟩) rfl ⟨rfl, trivial⟩ rfl rfl ?_
    refine d_op ?_
    refine x_run [(45, pS 1 false enc16 r.vals)] [4, 5] [] [] [(3, oB true 1 enc16 r.vals)] [(3, oB true 1 enc16 r.vals)] [(3, oB true 1 enc16 r.vals), (2, .obj [pI 0, pI 0, pI 0, pI 0, pI 0, pNil, pNil, p16 0, p16 0, pNil]), (1, .obj [pI r.fn, pI r.at_, pI r.count, pI r.wAt, pI r.sub, pS 1 false encBo r.bits, pS 1 false enc16 r.vals, p16 r.and_, p16 r.or_]), (0, .obj [pI m, pI e, pI b])] rfl rfl rfl rfl rfl rfl (s_callX (r2 := PV.ref 3 0 none) (nx1 := 4) (H2 := []) (H3 := [(3, oB true 1 enc16 r.vals)]) [] [] rfl rfl rfl (handed_of (by decide) trivial) rfl rfl rfl rfl rfl rfl (w_slices_Clone_uint16_uint16 r.vals false (by first | omega | assumption | (simp; omega) | decide | (simp; done))) rfl (dist_of rfl) rfl rfl rfl rfl ⟨rfl, rfl, rfl⟩) rfl trivial rfl rfl ?_
    refine d_op ?_
    refine x_run [(46, PV.ref 3 0 none)] [4, 5, 6] [] [(3, oB true 1 enc16 r.vals)] [(4, oB true 1 enc16 r.vals)] [(4, oB true 1 enc16 r.vals)] [(4, oB true 1 enc16 r.vals), (2, .obj [pI 0, pI 0, pI 0, pI 0, pI 0, pNil, pNil, p16 0, p16 0, pNil]), (1, .obj [pI r.fn, pI r.at_, pI r.count, pI r.wAt, pI r.sub, pS 1 false encBo r.bits, pS 1 false enc16 r.vals, p16 r.and_, p16 r.or_]), (0, .obj [pI m, pI e, pI b])] rfl rfl rfl rfl rfl rfl (s_callX (r2 := PV.ref 4 0 none) (nx1 := 5) (H2 := [(3, oB true 1 enc16 r.vals)]) (H3 := [(4, oB true 1 enc16 r.vals)]) [3] [oB true 1 enc16 r.vals] rfl rfl rfl (handed_of (by decide) ⟨rfl, trivial⟩) rfl rfl rfl rfl rfl rfl (w_slices_Clip_uint16_uint16_o r.vals true) rfl (dist_of rfl) rfl rfl rfl rfl ⟨rfl, rfl, rfl⟩) rfl trivial rfl rfl ?_
    refine d_op ?_
    refine x_run0 [(41, pI r.fn), (43, pI r.sub), (47, PV.ref 4 0 none)] [0, 1, 2, 3, 4, 5, 6, 7] rfl rfl rfl rfl (s_build tab_43 rfl rfl (b_cons rfl tab_3 rfl rfl rfl (Nat.le_of_ble_eq_true rfl) (b_cons rfl tab_3 rfl rfl rfl (Nat.le_of_ble_eq_true rfl) (b_cons rfl tab_29 rfl rfl rfl (Nat.le_of_ble_eq_true rfl) (b_nil ⟨rfl, rfl, rfl⟩))))) ?_
    refine d_op ?_
    refine x_run [] [] [] [] [(5, .obj [pI 0, pI 0, pI 0, pI 0, pI 0, pNil, pNil, p16 0, p16 0, pNil])] [(5, .obj [pI 0, pI 0, pI 0, pI 0, pI 0, pNil, pNil, p16 0, p16 0, pNil])] [(5, .obj [pI 0, pI 0, pI 0, pI 0, pI 0, pNil, pNil, p16 0, p16 0, pNil]), (4, oB true 1 enc16 r.vals), (2, .obj [pI 0, pI 0, pI 0, pI 0, pI 0, pNil, pNil, p16 0, p16 0, pNil]), (1, .obj [pI r.fn, pI r.at_, pI r.count, pI r.wAt, pI r.sub, pS 1 false encBo r.bits, pS 1 false enc16 r.vals, p16 r.and_, p16 r.or_]), (0, .obj [pI m, pI e, pI b])] rfl rfl rfl rfl rfl rfl (s_alloc tab_43 ⟨rfl, rfl, rfl⟩) rfl trivial rfl rfl ?_
    refine d_op ?_
    refine x_run [(7, PV.ptr 5 0), (48, PV.agg [pI r.fn, pI 0, pI 0, pI 0, pI r.sub, pNil, PV.ref 4 0 none, p16 0, p16 0, pNil])] [0, 1, 2, 3, 4, 5, 6, 7, 8, 9] [] [(5, .obj [pI 0, pI 0, pI 0, pI 0, pI 0, pNil, pNil, p16 0, p16 0, pNil])] [(5, .obj [pI r.fn, pI 0, pI 0, pI 0, pI r.sub, pNil, PV.ref 4 0 none, p16 0, p16 0, pNil])] [(5, .obj [pI r.fn, pI 0, pI 0, pI 0, pI r.sub, pNil, PV.ref 4 0 none, p16 0, p16 0, pNil])] [(5, .obj [pI r.fn, pI 0, pI 0, pI 0, pI r.sub, pNil, PV.ref 4 0 none, p16 0, p16 0, pNil]), (4, oB true 1 enc16 r.vals), (2, .obj [pI 0, pI 0, pI 0, pI 0, pI 0, pNil, pNil, p16 0, p16 0, pNil]), (1, .obj [pI r.fn, pI r.at_, pI r.count, pI r.wAt, pI r.sub, pS 1 false encBo r.bits, pS 1 false enc16 r.vals, p16 r.and_, p16 r.or_]), (0, .obj [pI m, pI e, pI b])] rfl rfl rfl rfl rfl rfl (s_store_ptr tab_43 rfl rfl rfl rfl rfl (Nat.le_of_ble_eq_true rfl) ⟨rfl, rfl, rfl⟩) rfl trivial rfl rfl ?_
    refine d_end ⟨by kernel_rfl, ?_⟩
    refine q_then ?_
    refine w_seq ?_
    refine w_seq ?_
    refine w_R ?_
    refine qo hnt rfl (s_fa_ptr tab_32 rfl rfl tab_3 (by decide) rfl ?_)
    refine qo hnt rfl (s_load_ptr1 tab_3 rfl rfl rfl rfl rfl ?_)
    refine r_set [(0, PV.ptr 0 0), (4, PV.ptr 1 0), (6, PV.ptr 2 0), (7, PV.ptr 5 0), (50, pI r.sub)] [(5, .obj [pI r.fn, pI 0, pI 0, pI 0, pI r.sub, pNil, PV.ref 4 0 none, p16 0, p16 0, pNil]), (4, oB true 1 enc16 r.vals), (2, .obj [pI 0, pI 0, pI 0, pI 0, pI 0, pNil, pNil, p16 0, p16 0, pNil]), (1, .obj [pI r.fn, pI r.at_, pI r.count, pI r.wAt, pI r.sub, pS 1 false encBo r.bits, pS 1 false enc16 r.vals, p16 r.and_, p16 r.or_]), (0, .obj [pI m, pI e, pI b])] 6 ⟨rfl, rfl, rfl, rfl, rfl, trivial⟩ rfl rfl ?_
    refine r_end ?_
    refine q_then ?_
    refine w_block ?_
    refine w_seq ?_
    refine w_R ?_
    refine qo hnt rfl (s_eql rfl rfl ?_)
    refine qa hnt rfl rfl ?_
    refine r_end ?_
    refine q_then ?_
    refine w_if rfl (fun c9 => ?_) (fun c9 => ?_)
    ·
     have c9_ := c9
     try simp only [sB] at c9
     rw [cntDo_4 (m := m) (e := e) (b := b) (u := u) (q := r) (by omega) (by omega) (by omega)] at hD
     refine w_seq ?_
     refine w_R ?_
     refine qo hnt rfl (s_load_ptr tab_43 rfl rfl rfl (Nat.le_of_ble_eq_true rfl) ?_)
     refine qo hnt rfl (s_store_ptr tab_43 rfl rfl rfl rfl rfl (Nat.le_of_ble_eq_true rfl) ?_)
     refine r_set [(6, PV.ptr 2 0)] [(2, .obj [pI r.fn, pI 0, pI 0, pI 0, pI r.sub, pNil, PV.ref 4 0 none, p16 0, p16 0, pNil]), (5, .obj [pI r.fn, pI 0, pI 0, pI 0, pI r.sub, pNil, PV.ref 4 0 none, p16 0, p16 0, pNil]), (4, oB true 1 enc16 r.vals), (1, .obj [pI r.fn, pI r.at_, pI r.count, pI r.wAt, pI r.sub, pS 1 false encBo r.bits, pS 1 false enc16 r.vals, p16 r.and_, p16 r.or_]), (0, .obj [pI m, pI e, pI b])] 6 ⟨rfl, trivial⟩ rfl rfl ?_
     refine r_end ?_
     refine q_then ?_
     refine w_frzC (n := 2) (j := 6) rfl rfl rfl rfl ?_
     refine w_leO (n := 2) (ds := [pI r.fn, pI 0, pI 0, pI 0, pI r.sub, pNil, pS 1 false enc16 D.1.vals, p16 0, p16 0, pNil]) rfl ⟨le_refl _, le_refl _, le_refl _, le_refl _, le_refl _, le_refl _, le_of_eq (congrArg (fun z => pS 1 false enc16 z) (show r.vals = D.1.vals by first | (rw [hD]; done) | (rw [hD]; rfl))), le_refl _, le_refl _, le_refl _, trivial⟩ ?_
     refine w_leO (n := 2) (ds := [pI D.1.fn, pI D.1.code, pI D.1.at_, pI D.1.count, pI D.1.sub, pS 1 false encBo D.1.bits, pS 1 false enc16 D.1.vals, p16 D.1.and_, p16 D.1.or_, pS 1 false enc8 D.1.data]) rfl ⟨le_of_eq (congrArg (fun z : Int => pI z) (show r.fn = D.1.fn by first | (rw [hD]; done) | (rw [hD]; rfl))), le_of_eq (congrArg (fun z : Int => pI z) (show 0 = D.1.code by first | (rw [hD]; done) | (rw [hD]; rfl))), le_of_eq (congrArg (fun z : Int => pI z) (show 0 = D.1.at_ by first | (rw [hD]; done) | (rw [hD]; rfl))), le_of_eq (congrArg (fun z : Int => pI z) (show 0 = D.1.count by first | (rw [hD]; done) | (rw [hD]; rfl))), le_of_eq (congrArg (fun z : Int => pI z) (show r.sub = D.1.sub by first | (rw [hD]; done) | (rw [hD]; rfl))), le_tr (le_nilS 1 false) (le_of_eq (congrArg (fun z => pS 1 false encBo z) (show [] = D.1.bits by first | (rw [hD]; done) | (rw [hD]; rfl)))), le_refl _, le_of_eq (congrArg (fun z : UInt16 => p16 z) (show 0 = D.1.and_ by first | (rw [hD]; done) | (rw [hD]; rfl))), le_of_eq (congrArg (fun z : UInt16 => p16 z) (show 0 = D.1.or_ by first | (rw [hD]; done) | (rw [hD]; rfl))), le_tr (le_nilS 1 false) (le_of_eq (congrArg (fun z => pS 1 false enc8 z) (show [] = D.1.data by first | (rw [hD]; done) | (rw [hD]; rfl)))), trivial⟩ ?_
     refine w_leO (n := 0) (ds := [pI (cC m D.2), pI (cC e D.2), pI (cC b D.2)]) rfl ⟨le_of_eq (congrArg (fun z : Int => pI z) (show m = (cC m D.2) by first | (rw [hD]; done) | (rw [hD]; rfl))), le_of_eq (congrArg (fun z : Int => pI z) (show e = (cC e D.2) by first | (rw [hD]; done) | (rw [hD]; rfl))), le_of_eq (congrArg (fun z : Int => pI z) (show b = (cC b D.2) by first | (rw [hD]; done) | (rw [hD]; rfl))), trivial⟩ ?_
     refine w_ret ?_
     refine q_block_ret ?_
     refine q_then_ret ?_
     exact fin_names (nx1 := 1) (H1 := [(0, .obj [pI (cC m D.2), pI (cC e D.2), pI (cC b D.2)])]) [(0, 0)] (ret_cell tab_43 (by decide) rfl rfl (Nat.le_of_ble_eq_true rfl) rfl ret_nil) rfl (by decide) ⟨⟨_, _, rfl, rfl, rfl, rfl⟩, trivial⟩ (by decide) rfl ⟨rfl, rfl, rfl⟩
    ·
     have c9_ := c9
     try simp only [sB] at c9
     refine w_seq ?_
     refine w_R ?_
     refine qo hnt rfl (s_eql rfl rfl ?_)
     refine qa hnt rfl rfl ?_
     refine r_end ?_
     refine q_then ?_
     refine w_if rfl (fun c10 => ?_) (fun c10 => ?_)
     ·
      have c10_ := c10
      try simp only [sB] at c10
      rw [cntDo_5 (m := m) (e := e) (b := b) (u := u) (q := r) (by omega) (by omega) (by omega)] at hD
      refine w_seq ?_
      refine w_R ?_
      refine qm hnt rfl rfl ?_
      refine qo hnt rfl (s_callX (r2 := PV.tup []) (nx1 := 6) (H2 := [(5, .obj [pI r.fn, pI 0, pI 0, pI 0, pI r.sub, pNil, PV.ref 4 0 none, p16 0, p16 0, pNil]), (4, oB true 1 enc16 r.vals), (2, .obj [pI 0, pI 0, pI 0, pI 0, pI 0, pNil, pNil, p16 0, p16 0, pNil]), (1, .obj [pI r.fn, pI r.at_, pI r.count, pI r.wAt, pI r.sub, pS 1 false encBo r.bits, pS 1 false enc16 r.vals, p16 r.and_, p16 r.or_]), (0, .obj [pI m, pI e, pI b])]) (H3 := [(0, .obj [pI 0, pI 0, pI 0]), (5, .obj [pI r.fn, pI 0, pI 0, pI 0, pI r.sub, pNil, PV.ref 4 0 none, p16 0, p16 0, pNil]), (4, oB true 1 enc16 r.vals), (2, .obj [pI 0, pI 0, pI 0, pI 0, pI 0, pNil, pNil, p16 0, p16 0, pNil]), (1, .obj [pI r.fn, pI r.at_, pI r.count, pI r.wAt, pI r.sub, pS 1 false encBo r.bits, pS 1 false enc16 r.vals, p16 r.and_, p16 r.or_])]) [0] [.obj [pI m, pI e, pI b]] rfl rfl rfl (handed_of (by decide) ⟨rfl, trivial⟩) rfl rfl rfl rfl rfl rfl (w_count_Count_Clear m e b) rfl (dist_of rfl) rfl rfl rfl rfl ?_)
      refine r_set [(6, PV.ptr 2 0), (7, PV.ptr 5 0)] [(0, .obj [pI 0, pI 0, pI 0]), (5, .obj [pI r.fn, pI 0, pI 0, pI 0, pI r.sub, pNil, PV.ref 4 0 none, p16 0, p16 0, pNil]), (4, oB true 1 enc16 r.vals), (2, .obj [pI 0, pI 0, pI 0, pI 0, pI 0, pNil, pNil, p16 0, p16 0, pNil]), (1, .obj [pI r.fn, pI r.at_, pI r.count, pI r.wAt, pI r.sub, pS 1 false encBo r.bits, pS 1 false enc16 r.vals, p16 r.and_, p16 r.or_])] 6 ⟨rfl, rfl, trivial⟩ rfl rfl ?_
      refine r_end ?_
      refine q_then ?_
      refine w_seq ?_
      refine w_R ?_
      refine qo hnt rfl (s_load_ptr tab_43 rfl rfl rfl (Nat.le_of_ble_eq_true rfl) ?_)
      refine qo hnt rfl (s_store_ptr tab_43 rfl rfl rfl rfl rfl (Nat.le_of_ble_eq_true rfl) ?_)
      refine r_set [(6, PV.ptr 2 0)] [(2, .obj [pI r.fn, pI 0, pI 0, pI 0, pI r.sub, pNil, PV.ref 4 0 none, p16 0, p16 0, pNil]), (0, .obj [pI 0, pI 0, pI 0]), (5, .obj [pI r.fn, pI 0, pI 0, pI 0, pI r.sub, pNil, PV.ref 4 0 none, p16 0, p16 0, pNil]), (4, oB true 1 enc16 r.vals), (1, .obj [pI r.fn, pI r.at_, pI r.count, pI r.wAt, pI r.sub, pS 1 false encBo r.bits, pS 1 false enc16 r.vals, p16 r.and_, p16 r.or_])] 6 ⟨rfl, trivial⟩ rfl rfl ?_
      refine r_end ?_
      refine q_then ?_
      refine w_frzC (n := 2) (j := 6) rfl rfl rfl rfl ?_
      refine w_leO (n := 2) (ds := [pI r.fn, pI 0, pI 0, pI 0, pI r.sub, pNil, pS 1 false enc16 D.1.vals, p16 0, p16 0, pNil]) rfl ⟨le_refl _, le_refl _, le_refl _, le_refl _, le_refl _, le_refl _, le_of_eq (congrArg (fun z => pS 1 false enc16 z) (show r.vals = D.1.vals by first | (rw [hD]; done) | (rw [hD]; rfl))), le_refl _, le_refl _, le_refl _, trivial⟩ ?_
      refine w_leO (n := 2) (ds := [pI D.1.fn, pI D.1.code, pI D.1.at_, pI D.1.count, pI D.1.sub, pS 1 false encBo D.1.bits, pS 1 false enc16 D.1.vals, p16 D.1.and_, p16 D.1.or_, pS 1 false enc8 D.1.data]) rfl ⟨le_of_eq (congrArg (fun z : Int => pI z) (show r.fn = D.1.fn by first | (rw [hD]; done) | (rw [hD]; rfl))), le_of_eq (congrArg (fun z : Int => pI z) (show 0 = D.1.code by first | (rw [hD]; done) | (rw [hD]; rfl))), le_of_eq (congrArg (fun z : Int => pI z) (show 0 = D.1.at_ by first | (rw [hD]; done) | (rw [hD]; rfl))), le_of_eq (congrArg (fun z : Int => pI z) (show 0 = D.1.count by first | (rw [hD]; done) | (rw [hD]; rfl))), le_of_eq (congrArg (fun z : Int => pI z) (show r.sub = D.1.sub by first | (rw [hD]; done) | (rw [hD]; rfl))), le_tr (le_nilS 1 false) (le_of_eq (congrArg (fun z => pS 1 false encBo z) (show [] = D.1.bits by first | (rw [hD]; done) | (rw [hD]; rfl)))), le_refl _, le_of_eq (congrArg (fun z : UInt16 => p16 z) (show 0 = D.1.and_ by first | (rw [hD]; done) | (rw [hD]; rfl))), le_of_eq (congrArg (fun z : UInt16 => p16 z) (show 0 = D.1.or_ by first | (rw [hD]; done) | (rw [hD]; rfl))), le_tr (le_nilS 1 false) (le_of_eq (congrArg (fun z => pS 1 false enc8 z) (show [] = D.1.data by first | (rw [hD]; done) | (rw [hD]; rfl)))), trivial⟩ ?_
      refine w_leO (n := 0) (ds := [pI (cC m D.2), pI (cC e D.2), pI (cC b D.2)]) rfl ⟨le_of_eq (congrArg (fun z : Int => pI z) (show 0 = (cC m D.2) by first | (rw [hD]; done) | (rw [hD]; rfl))), le_of_eq (congrArg (fun z : Int => pI z) (show 0 = (cC e D.2) by first | (rw [hD]; done) | (rw [hD]; rfl))), le_of_eq (congrArg (fun z : Int => pI z) (show 0 = (cC b D.2) by first | (rw [hD]; done) | (rw [hD]; rfl))), trivial⟩ ?_
      refine w_ret ?_
      refine q_block_ret ?_
      refine q_then_ret ?_
      exact fin_names (nx1 := 1) (H1 := [(0, .obj [pI (cC m D.2), pI (cC e D.2), pI (cC b D.2)])]) [(0, 0)] (ret_cell tab_43 (by decide) rfl rfl (Nat.le_of_ble_eq_true rfl) rfl ret_nil) rfl (by decide) ⟨⟨_, _, rfl, rfl, rfl, rfl⟩, trivial⟩ (by decide) rfl ⟨rfl, rfl, rfl⟩
     ·
      have c10_ := c10
      try simp only [sB] at c10
      have hv8 := vals_8 (q := r) (by omega) (by omega)
      refine w_skip ?_
      refine q_block ?_
      refine q_then ?_
      refine w_seq ?_
      refine w_R ?_
      refine qm hnt rfl rfl ?_
      refine qo hnt rfl (s_fa_ptr tab_32 rfl rfl tab_3 (by decide) rfl ?_)
      refine qo hnt rfl (s_load_ptr1 tab_3 rfl rfl rfl rfl rfl ?_)
      refine qo hnt rfl (s_callX (r2 := PV.tup [p16 (cntGet m e b r.sub), pB (cntOk r.sub)]) (nx1 := 6) (H2 := [(5, .obj [pI r.fn, pI 0, pI 0, pI 0, pI r.sub, pNil, PV.ref 4 0 none, p16 0, p16 0, pNil]), (4, oB true 1 enc16 r.vals), (2, .obj [pI 0, pI 0, pI 0, pI 0, pI 0, pNil, pNil, p16 0, p16 0, pNil]), (1, .obj [pI r.fn, pI r.at_, pI r.count, pI r.wAt, pI r.sub, pS 1 false encBo r.bits, pS 1 false enc16 r.vals, p16 r.and_, p16 r.or_]), (0, .obj [pI m, pI e, pI b])]) (H3 := [(0, .obj [pI m, pI e, pI b]), (5, .obj [pI r.fn, pI 0, pI 0, pI 0, pI r.sub, pNil, PV.ref 4 0 none, p16 0, p16 0, pNil]), (4, oB true 1 enc16 r.vals), (2, .obj [pI 0, pI 0, pI 0, pI 0, pI 0, pNil, pNil, p16 0, p16 0, pNil]), (1, .obj [pI r.fn, pI r.at_, pI r.count, pI r.wAt, pI r.sub, pS 1 false encBo r.bits, pS 1 false enc16 r.vals, p16 r.and_, p16 r.or_])]) [0] [.obj [pI m, pI e, pI b]] rfl rfl rfl (handed_of (by decide) ⟨rfl, trivial⟩) rfl rfl rfl rfl rfl rfl (w_count_Count_Get m e b r.sub) rfl (dist_of rfl) rfl rfl rfl rfl ?_)
      refine qm hnt rfl rfl ?_
      refine qo hnt rfl (s_extract rfl rfl ?_)
      refine qo hnt rfl (s_extract rfl rfl ?_)
      refine qa hnt rfl rfl ?_
      refine qa hnt rfl rfl ?_
      refine r_set [(4, PV.ptr 1 0), (6, PV.ptr 2 0), (7, PV.ptr 5 0), (8, p16 (cntGet m e b r.sub)), (9, pB (cntOk r.sub))] [(0, .obj [pI m, pI e, pI b]), (5, .obj [pI r.fn, pI 0, pI 0, pI 0, pI r.sub, pNil, PV.ref 4 0 none, p16 0, p16 0, pNil]), (4, oB true 1 enc16 r.vals), (2, .obj [pI 0, pI 0, pI 0, pI 0, pI 0, pNil, pNil, p16 0, p16 0, pNil]), (1, .obj [pI r.fn, pI r.at_, pI r.count, pI r.wAt, pI r.sub, pS 1 false encBo r.bits, pS 1 false enc16 r.vals, p16 r.and_, p16 r.or_])] 6 ⟨rfl, rfl, rfl, rfl, rfl, trivial⟩ rfl rfl ?_
      refine r_end ?_
      refine q_then ?_
      refine w_seq ?_
      refine w_seq ?_
      refine w_R ?_
      refine qm hnt rfl rfl ?_
      refine qo hnt rfl (s_not rfl ?_)
      refine qm hnt rfl rfl ?_
      refine r_if tabOk hnt rfl rfl rfl (fun g3 => ?_) (fun g3 => ?_)
      ·
       have g3' := g3
       try simp only [sB] at g3'
       refine qo hnt rfl (s_fa_ptr tab_32 rfl rfl tab_29 (by decide) rfl ?_)
       refine ry hnt rfl rfl rfl g3 ?_
       refine qo hnt rfl (s_load_ptr1 tab_29 rfl rfl rfl rfl rfl ?_)
       refine ry hnt rfl rfl rfl g3 ?_
       obtain ⟨e2, he2⟩ := get_of_lt r.vals (i := 0) (by omega)
       refine qo hnt rfl (s_iaM (q := 0) (b := e2) (f := enc16) tab_29 rfl tab_30 rfl rfl (by omega) rfl he2 ?_)
       refine ry hnt rfl rfl rfl g3 ?_
       refine qo hnt rfl (s_load_ro1 tab_30 rfl rfl rfl rfl ?_)
       refine ry hnt rfl rfl rfl g3 ?_
       refine qo hnt rfl (s_neq16 (a := e2) (b := 0) rfl rfl ?_)
       refine qo hnt rfl (s_pick_f rfl g3 rfl ?_)
       refine r_end ?_
       refine q_then ?_
       refine w_if rfl (fun c11 => ?_) (fun c11 => ?_)
       ·
        have c11_ := c11
        try simp only [sB] at c11
        rw [cntDo_6 (m := m) (e := e) (b := b) (u := u) (q := r) (by omega) (by omega) (by omega) (.inr (by rw [List.getD_eq_getElem?_getD, he2]; exact c11))] at hD
        refine w_seq ?_
        refine w_R ?_
        refine qo hnt rfl (s_fa_ptr tab_32 rfl rfl tab_3 (by decide) rfl ?_)
        refine qo hnt rfl (s_load_ptr1 tab_3 rfl rfl rfl rfl rfl ?_)
        refine qo hnt rfl (s_callF rfl rfl rfl (w_reply_Refuse r.fn 3) rfl ?_)
        refine qo hnt rfl (s_store_ptr tab_43 rfl rfl rfl rfl rfl (Nat.le_of_ble_eq_true rfl) ?_)
        refine r_set [(6, PV.ptr 2 0)] [(2, .obj [pI ((refuseR r.fn 3).fn), pI ((refuseR r.fn 3).code), pI ((refuseR r.fn 3).at_), pI ((refuseR r.fn 3).count), pI ((refuseR r.fn 3).sub), pS 1 false encBo ((refuseR r.fn 3).bits), pS 1 false enc16 ((refuseR r.fn 3).vals), p16 ((refuseR r.fn 3).and_), p16 ((refuseR r.fn 3).or_), pS 1 false enc8 ((refuseR r.fn 3).data)]), (0, .obj [pI m, pI e, pI b]), (5, .obj [pI r.fn, pI 0, pI 0, pI 0, pI r.sub, pNil, PV.ref 4 0 none, p16 0, p16 0, pNil]), (4, oB true 1 enc16 r.vals), (1, .obj [pI r.fn, pI r.at_, pI r.count, pI r.wAt, pI r.sub, pS 1 false encBo r.bits, pS 1 false enc16 r.vals, p16 r.and_, p16 r.or_])] 6 ⟨rfl, trivial⟩ rfl rfl ?_
        refine r_end ?_
        refine q_then ?_
        refine w_leO (n := 2) (ds := [pI D.1.fn, pI D.1.code, pI D.1.at_, pI D.1.count, pI D.1.sub, pS 1 false encBo D.1.bits, pS 1 false enc16 D.1.vals, p16 D.1.and_, p16 D.1.or_, pS 1 false enc8 D.1.data]) rfl ⟨le_of_eq (congrArg (fun z : Int => pI z) (show ((refuseR r.fn 3).fn) = D.1.fn by first | (rw [hD]; done) | (rw [hD]; rfl))), le_of_eq (congrArg (fun z : Int => pI z) (show ((refuseR r.fn 3).code) = D.1.code by first | (rw [hD]; done) | (rw [hD]; rfl))), le_of_eq (congrArg (fun z : Int => pI z) (show ((refuseR r.fn 3).at_) = D.1.at_ by first | (rw [hD]; done) | (rw [hD]; rfl))), le_of_eq (congrArg (fun z : Int => pI z) (show ((refuseR r.fn 3).count) = D.1.count by first | (rw [hD]; done) | (rw [hD]; rfl))), le_of_eq (congrArg (fun z : Int => pI z) (show ((refuseR r.fn 3).sub) = D.1.sub by first | (rw [hD]; done) | (rw [hD]; rfl))), le_of_eq (congrArg (fun z => pS 1 false encBo z) (show ((refuseR r.fn 3).bits) = D.1.bits by first | (rw [hD]; done) | (rw [hD]; rfl))), le_of_eq (congrArg (fun z => pS 1 false enc16 z) (show ((refuseR r.fn 3).vals) = D.1.vals by first | (rw [hD]; done) | (rw [hD]; rfl))), le_of_eq (congrArg (fun z : UInt16 => p16 z) (show ((refuseR r.fn 3).and_) = D.1.and_ by first | (rw [hD]; done) | (rw [hD]; rfl))), le_of_eq (congrArg (fun z : UInt16 => p16 z) (show ((refuseR r.fn 3).or_) = D.1.or_ by first | (rw [hD]; done) | (rw [hD]; rfl))), le_of_eq (congrArg (fun z => pS 1 false enc8 z) (show ((refuseR r.fn 3).data) = D.1.data by first | (rw [hD]; done) | (rw [hD]; rfl))), trivial⟩ ?_
        refine w_leO (n := 0) (ds := [pI (cC m D.2), pI (cC e D.2), pI (cC b D.2)]) rfl ⟨le_of_eq (congrArg (fun z : Int => pI z) (show m = (cC m D.2) by first | (rw [hD]; done) | (rw [hD]; rfl))), le_of_eq (congrArg (fun z : Int => pI z) (show e = (cC e D.2) by first | (rw [hD]; done) | (rw [hD]; rfl))), le_of_eq (congrArg (fun z : Int => pI z) (show b = (cC b D.2) by first | (rw [hD]; done) | (rw [hD]; rfl))), trivial⟩ ?_
        refine w_ret ?_
        refine q_then_ret ?_
        exact fin_names (nx1 := 1) (H1 := [(0, .obj [pI (cC m D.2), pI (cC e D.2), pI (cC b D.2)])]) [(0, 0)] (ret_cell tab_43 (by decide) rfl rfl (Nat.le_of_ble_eq_true rfl) rfl ret_nil) rfl (by decide) ⟨⟨_, _, rfl, rfl, rfl, rfl⟩, trivial⟩ (by decide) rfl ⟨rfl, rfl, rfl⟩
       ·
        have c11_ := c11
        try simp only [sB] at c11
        rw [cntDo_7 (m := m) (e := e) (b := b) (u := u) (q := r) (by omega) (by omega) (by omega) g3' he2 c11] at hD
        refine w_skip ?_
        refine q_then ?_
        refine w_seq ?_
        refine w_R ?_
        refine qo hnt rfl (s_fa_ptr tab_43 rfl rfl tab_29 (by decide) rfl ?_)
        refine qo hnt rfl (s_load_ptr1 tab_29 rfl rfl rfl rfl rfl ?_)
        refine qm hnt rfl rfl ?_
        refine qo hnt rfl (s_iaR0 (q := 0) (f := enc16) (l := r.vals) tab_29 rfl tab_30 rfl rfl (by omega) rfl rfl (by omega) ?_)
        refine qo hnt rfl (s_stM (y0 := e2) (z := cntGet m e b r.sub) (f := enc16) tab_30 rfl rfl rfl rfl rfl he2 (Nat.le_of_ble_eq_true rfl) rfl rfl (by simp) rfl ?_)
        refine r_set [(6, PV.ptr 2 0), (7, PV.ptr 5 0)] [(4, oB true 1 enc16 (r.vals.set 0 (cntGet m e b r.sub))), (0, .obj [pI m, pI e, pI b]), (5, .obj [pI r.fn, pI 0, pI 0, pI 0, pI r.sub, pNil, PV.ref 4 0 none, p16 0, p16 0, pNil]), (2, .obj [pI 0, pI 0, pI 0, pI 0, pI 0, pNil, pNil, p16 0, p16 0, pNil]), (1, .obj [pI r.fn, pI r.at_, pI r.count, pI r.wAt, pI r.sub, pS 1 false encBo r.bits, pS 1 false enc16 r.vals, p16 r.and_, p16 r.or_])] 6 ⟨rfl, rfl, trivial⟩ rfl rfl ?_
        refine r_end ?_
        refine q_then ?_
        refine w_seq ?_
        refine w_R ?_
        refine qo hnt rfl (s_load_ptr tab_43 rfl rfl rfl (Nat.le_of_ble_eq_true rfl) ?_)
        refine qo hnt rfl (s_store_ptr tab_43 rfl rfl rfl rfl rfl (Nat.le_of_ble_eq_true rfl) ?_)
        refine r_set [(6, PV.ptr 2 0)] [(2, .obj [pI r.fn, pI 0, pI 0, pI 0, pI r.sub, pNil, PV.ref 4 0 none, p16 0, p16 0, pNil]), (4, oB true 1 enc16 (r.vals.set 0 (cntGet m e b r.sub))), (0, .obj [pI m, pI e, pI b]), (5, .obj [pI r.fn, pI 0, pI 0, pI 0, pI r.sub, pNil, PV.ref 4 0 none, p16 0, p16 0, pNil]), (1, .obj [pI r.fn, pI r.at_, pI r.count, pI r.wAt, pI r.sub, pS 1 false encBo r.bits, pS 1 false enc16 r.vals, p16 r.and_, p16 r.or_])] 6 ⟨rfl, trivial⟩ rfl rfl ?_
        refine r_end ?_
        refine q_then ?_
        refine w_frzC (n := 2) (j := 6) rfl rfl rfl rfl ?_
        refine w_leO (n := 2) (ds := [pI r.fn, pI 0, pI 0, pI 0, pI r.sub, pNil, pS 1 false enc16 D.1.vals, p16 0, p16 0, pNil]) rfl ⟨le_refl _, le_refl _, le_refl _, le_refl _, le_refl _, le_refl _, le_of_eq (congrArg (fun z => pS 1 false enc16 z) (show (r.vals.set 0 (cntGet m e b r.sub)) = D.1.vals by first | (rw [hD]; done) | (rw [hD]; rfl))), le_refl _, le_refl _, le_refl _, trivial⟩ ?_
        refine w_leO (n := 2) (ds := [pI D.1.fn, pI D.1.code, pI D.1.at_, pI D.1.count, pI D.1.sub, pS 1 false encBo D.1.bits, pS 1 false enc16 D.1.vals, p16 D.1.and_, p16 D.1.or_, pS 1 false enc8 D.1.data]) rfl ⟨le_of_eq (congrArg (fun z : Int => pI z) (show r.fn = D.1.fn by first | (rw [hD]; done) | (rw [hD]; rfl))), le_of_eq (congrArg (fun z : Int => pI z) (show 0 = D.1.code by first | (rw [hD]; done) | (rw [hD]; rfl))), le_of_eq (congrArg (fun z : Int => pI z) (show 0 = D.1.at_ by first | (rw [hD]; done) | (rw [hD]; rfl))), le_of_eq (congrArg (fun z : Int => pI z) (show 0 = D.1.count by first | (rw [hD]; done) | (rw [hD]; rfl))), le_of_eq (congrArg (fun z : Int => pI z) (show r.sub = D.1.sub by first | (rw [hD]; done) | (rw [hD]; rfl))), le_tr (le_nilS 1 false) (le_of_eq (congrArg (fun z => pS 1 false encBo z) (show [] = D.1.bits by first | (rw [hD]; done) | (rw [hD]; rfl)))), le_refl _, le_of_eq (congrArg (fun z : UInt16 => p16 z) (show 0 = D.1.and_ by first | (rw [hD]; done) | (rw [hD]; rfl))), le_of_eq (congrArg (fun z : UInt16 => p16 z) (show 0 = D.1.or_ by first | (rw [hD]; done) | (rw [hD]; rfl))), le_tr (le_nilS 1 false) (le_of_eq (congrArg (fun z => pS 1 false enc8 z) (show [] = D.1.data by first | (rw [hD]; done) | (rw [hD]; rfl)))), trivial⟩ ?_
        refine w_leO (n := 0) (ds := [pI (cC m D.2), pI (cC e D.2), pI (cC b D.2)]) rfl ⟨le_of_eq (congrArg (fun z : Int => pI z) (show m = (cC m D.2) by first | (rw [hD]; done) | (rw [hD]; rfl))), le_of_eq (congrArg (fun z : Int => pI z) (show e = (cC e D.2) by first | (rw [hD]; done) | (rw [hD]; rfl))), le_of_eq (congrArg (fun z : Int => pI z) (show b = (cC b D.2) by first | (rw [hD]; done) | (rw [hD]; rfl))), trivial⟩ ?_
        refine w_ret ?_
        exact fin_names (nx1 := 1) (H1 := [(0, .obj [pI (cC m D.2), pI (cC e D.2), pI (cC b D.2)])]) [(0, 0)] (ret_cell tab_43 (by decide) rfl rfl (Nat.le_of_ble_eq_true rfl) rfl ret_nil) rfl (by decide) ⟨⟨_, _, rfl, rfl, rfl, rfl⟩, trivial⟩ (by decide) rfl ⟨rfl, rfl, rfl⟩
      ·
       have g3' := g3
       try simp only [sB] at g3'
       rw [cntDo_6 (m := m) (e := e) (b := b) (u := u) (q := r) (by omega) (by omega) (by omega) (.inl g3')] at hD
       refine rn hnt rfl rfl rfl g3 ?_
       refine rn hnt rfl rfl rfl g3 ?_
       refine rn hnt rfl rfl rfl g3 ?_
       refine rn hnt rfl rfl rfl g3 ?_
       refine qo hnt rfl (s_pick_t rfl g3 rfl ?_)
       refine r_end ?_
       refine q_then ?_
       refine w_if rfl (fun _ => ?_) (fun e => absurd e (by decide))
       refine w_seq ?_
       refine w_R ?_
       refine qo hnt rfl (s_fa_ptr tab_32 rfl rfl tab_3 (by decide) rfl ?_)
       refine qo hnt rfl (s_load_ptr1 tab_3 rfl rfl rfl rfl rfl ?_)
       refine qo hnt rfl (s_callF rfl rfl rfl (w_reply_Refuse r.fn 3) rfl ?_)
       refine qo hnt rfl (s_store_ptr tab_43 rfl rfl rfl rfl rfl (Nat.le_of_ble_eq_true rfl) ?_)
       refine r_set [(6, PV.ptr 2 0)] [(2, .obj [pI ((refuseR r.fn 3).fn), pI ((refuseR r.fn 3).code), pI ((refuseR r.fn 3).at_), pI ((refuseR r.fn 3).count), pI ((refuseR r.fn 3).sub), pS 1 false encBo ((refuseR r.fn 3).bits), pS 1 false enc16 ((refuseR r.fn 3).vals), p16 ((refuseR r.fn 3).and_), p16 ((refuseR r.fn 3).or_), pS 1 false enc8 ((refuseR r.fn 3).data)]), (0, .obj [pI m, pI e, pI b]), (5, .obj [pI r.fn, pI 0, pI 0, pI 0, pI r.sub, pNil, PV.ref 4 0 none, p16 0, p16 0, pNil]), (4, oB true 1 enc16 r.vals), (1, .obj [pI r.fn, pI r.at_, pI r.count, pI r.wAt, pI r.sub, pS 1 false encBo r.bits, pS 1 false enc16 r.vals, p16 r.and_, p16 r.or_])] 6 ⟨rfl, trivial⟩ rfl rfl ?_
       refine r_end ?_
       refine q_then ?_
       refine w_leO (n := 2) (ds := [pI D.1.fn, pI D.1.code, pI D.1.at_, pI D.1.count, pI D.1.sub, pS 1 false encBo D.1.bits, pS 1 false enc16 D.1.vals, p16 D.1.and_, p16 D.1.or_, pS 1 false enc8 D.1.data]) rfl ⟨le_of_eq (congrArg (fun z : Int => pI z) (show ((refuseR r.fn 3).fn) = D.1.fn by first | (rw [hD]; done) | (rw [hD]; rfl))), le_of_eq (congrArg (fun z : Int => pI z) (show ((refuseR r.fn 3).code) = D.1.code by first | (rw [hD]; done) | (rw [hD]; rfl))), le_of_eq (congrArg (fun z : Int => pI z) (show ((refuseR r.fn 3).at_) = D.1.at_ by first | (rw [hD]; done) | (rw [hD]; rfl))), le_of_eq (congrArg (fun z : Int => pI z) (show ((refuseR r.fn 3).count) = D.1.count by first | (rw [hD]; done) | (rw [hD]; rfl))), le_of_eq (congrArg (fun z : Int => pI z) (show ((refuseR r.fn 3).sub) = D.1.sub by first | (rw [hD]; done) | (rw [hD]; rfl))), le_of_eq (congrArg (fun z => pS 1 false encBo z) (show ((refuseR r.fn 3).bits) = D.1.bits by first | (rw [hD]; done) | (rw [hD]; rfl))), le_of_eq (congrArg (fun z => pS 1 false enc16 z) (show ((refuseR r.fn 3).vals) = D.1.vals by first | (rw [hD]; done) | (rw [hD]; rfl))), le_of_eq (congrArg (fun z : UInt16 => p16 z) (show ((refuseR r.fn 3).and_) = D.1.and_ by first | (rw [hD]; done) | (rw [hD]; rfl))), le_of_eq (congrArg (fun z : UInt16 => p16 z) (show ((refuseR r.fn 3).or_) = D.1.or_ by first | (rw [hD]; done) | (rw [hD]; rfl))), le_of_eq (congrArg (fun z => pS 1 false enc8 z) (show ((refuseR r.fn 3).data) = D.1.data by first | (rw [hD]; done) | (rw [hD]; rfl))), trivial⟩ ?_
       refine w_leO (n := 0) (ds := [pI (cC m D.2), pI (cC e D.2), pI (cC b D.2)]) rfl ⟨le_of_eq (congrArg (fun z : Int => pI z) (show m = (cC m D.2) by first | (rw [hD]; done) | (rw [hD]; rfl))), le_of_eq (congrArg (fun z : Int => pI z) (show e = (cC e D.2) by first | (rw [hD]; done) | (rw [hD]; rfl))), le_of_eq (congrArg (fun z : Int => pI z) (show b = (cC b D.2) by first | (rw [hD]; done) | (rw [hD]; rfl))), trivial⟩ ?_
       refine w_ret ?_
       refine q_then_ret ?_
       exact fin_names (nx1 := 1) (H1 := [(0, .obj [pI (cC m D.2), pI (cC e D.2), pI (cC b D.2)])]) [(0, 0)] (ret_cell tab_43 (by decide) rfl rfl (Nat.le_of_ble_eq_true rfl) rfl ret_nil) rfl (by decide) ⟨⟨_, _, rfl, rfl, rfl, rfl⟩, trivial⟩ (by decide) rfl ⟨rfl, rfl, rfl⟩

theorem w_burgageref17_Count_Do (m : Int) (e : Int) (b : Int) (r : TRequest) (u : Int) (D : TReply × Bool) (hD : D = cntDo m e b r u) (hb : r.bits.length ≤ 140737488351232) (hv : r.vals.length ≤ 1000000) :
    T Try.prog 38 [PV.ptr 0 0, PV.f (eRequest r), pI u] 1 [(0, .obj [pI m, pI e, pI b])] (Ret (PV.f (eReply D.1)) 1 [(0, .obj [pI (cC m D.2), pI (cC e D.2), pI (cC b D.2)])]) := by
 refine t_fun tabOk (n := 86) (rs := [.cell 6 43]) Try.func38 rfl rfl rfl rfl (Nat.le_of_ble_eq_true rfl) ?_
 intro c hnt hk
 refine w_seq ?_
 refine w_R ?_
 refine qo hnt rfl (s_box rfl rfl ?_)
 refine qo hnt rfl (s_alloc tab_43 ?_)
 refine r_set [(0, PV.ptr 0 0), (2, pI u), (4, PV.ptr 1 0), (6, PV.ptr 2 0)] [(2, .obj [pI 0, pI 0, pI 0, pI 0, pI 0, pNil, pNil, p16 0, p16 0, pNil]), (1, .obj [pI r.fn, pI r.at_, pI r.count, pI r.wAt, pI r.sub, pS 1 false encBo r.bits, pS 1 false enc16 r.vals, p16 r.and_, p16 r.or_]), (0, .obj [pI m, pI e, pI b])] 3 ⟨rfl, rfl, rfl, rfl, trivial⟩ rfl rfl ?_
 refine r_end ?_
 refine q_then ?_
 refine w_seq ?_
 refine w_seq ?_
 refine w_R ?_
 refine qo hnt rfl (s_fa_ptr tab_32 rfl rfl tab_3 (by decide) rfl ?_)
 refine qo hnt rfl (s_load_ptr1 tab_3 rfl rfl rfl rfl rfl ?_)
 refine qo hnt rfl (s_neq rfl rfl ?_)
 refine qm hnt rfl rfl ?_
 refine r_if tabOk hnt rfl rfl rfl (fun g1 => ?_) (fun g1 => ?_)
 ·
  have g1' := g1
  try simp only [sB] at g1'
  refine qo hnt rfl (s_fa_ptr tab_32 rfl rfl tab_3 (by decide) rfl ?_)
  refine ry hnt rfl rfl rfl g1 ?_
  refine qo hnt rfl (s_load_ptr1 tab_3 rfl rfl rfl rfl rfl ?_)
  refine ry hnt rfl rfl rfl g1 ?_
  refine qo hnt rfl (s_neq rfl rfl ?_)
  refine qo hnt rfl (s_pick_t rfl g1 rfl ?_)
  refine r_end ?_
  refine q_then ?_
  refine w_if rfl (fun c1 => ?_) (fun c1 => ?_)
  ·
   have c1_ := c1
   try simp only [sB] at c1
   rw [cntDo_1 (m := m) (e := e) (b := b) (u := u) (q := r) (by omega)] at hD
   refine w_seq ?_
   refine w_R ?_
   refine qo hnt rfl (s_fa_ptr tab_32 rfl rfl tab_3 (by decide) rfl ?_)
   refine qo hnt rfl (s_load_ptr1 tab_3 rfl rfl rfl rfl rfl ?_)
   refine qo hnt rfl (s_callF rfl rfl rfl (w_burgageref3_Refuse r.fn 1) rfl ?_)
   refine qo hnt rfl (s_store_ptr tab_43 rfl rfl rfl rfl rfl (Nat.le_of_ble_eq_true rfl) ?_)
   refine r_set [(6, PV.ptr 2 0)] [(2, .obj [pI ((refuseR r.fn 1).fn), pI ((refuseR r.fn 1).code), pI ((refuseR r.fn 1).at_), pI ((refuseR r.fn 1).count), pI ((refuseR r.fn 1).sub), pS 1 false encBo ((refuseR r.fn 1).bits), pS 1 false enc16 ((refuseR r.fn 1).vals), p16 ((refuseR r.fn 1).and_), p16 ((refuseR r.fn 1).or_), pS 1 false enc8 ((refuseR r.fn 1).data)]), (1, .obj [pI r.fn, pI r.at_, pI r.count, pI r.wAt, pI r.sub, pS 1 false encBo r.bits, pS 1 false enc16 r.vals, p16 r.and_, p16 r.or_]), (0, .obj [pI m, pI e, pI b])] 3 ⟨rfl, trivial⟩ rfl rfl ?_
   refine r_end ?_
   refine q_then ?_
   refine w_leO (n := 2) (ds := [pI D.1.fn, pI D.1.code, pI D.1.at_, pI D.1.count, pI D.1.sub, pS 1 false encBo D.1.bits, pS 1 false enc16 D.1.vals, p16 D.1.and_, p16 D.1.or_, pS 1 false enc8 D.1.data]) rfl ⟨le_of_eq (congrArg (fun z : Int => pI z) (show ((refuseR r.fn 1).fn) = D.1.fn by first | (rw [hD]; done) | (rw [hD]; rfl))), le_of_eq (congrArg (fun z : Int => pI z) (show ((refuseR r.fn 1).code) = D.1.code by first | (rw [hD]; done) | (rw [hD]; rfl))), le_of_eq (congrArg (fun z : Int => pI z) (show ((refuseR r.fn 1).at_) = D.1.at_ by first | (rw [hD]; done) | (rw [hD]; rfl))), le_of_eq (congrArg (fun z : Int => pI z) (show ((refuseR r.fn 1).count) = D.1.count by first | (rw [hD]; done) | (rw [hD]; rfl))), le_of_eq (congrArg (fun z : Int => pI z) (show ((refuseR r.fn 1).sub) = D.1.sub by first | (rw [hD]; done) | (rw [hD]; rfl))), le_of_eq (congrArg (fun z => pS 1 false encBo z) (show ((refuseR r.fn 1).bits) = D.1.bits by first | (rw [hD]; done) | (rw [hD]; rfl))), le_of_eq (congrArg (fun z => pS 1 false enc16 z) (show ((refuseR r.fn 1).vals) = D.1.vals by first | (rw [hD]; done) | (rw [hD]; rfl))), le_of_eq (congrArg (fun z : UInt16 => p16 z) (show ((refuseR r.fn 1).and_) = D.1.and_ by first | (rw [hD]; done) | (rw [hD]; rfl))), le_of_eq (congrArg (fun z : UInt16 => p16 z) (show ((refuseR r.fn 1).or_) = D.1.or_ by first | (rw [hD]; done) | (rw [hD]; rfl))), le_of_eq (congrArg (fun z => pS 1 false enc8 z) (show ((refuseR r.fn 1).data) = D.1.data by first | (rw [hD]; done) | (rw [hD]; rfl))), trivial⟩ ?_
   refine w_leO (n := 0) (ds := [pI (cC m D.2), pI (cC e D.2), pI (cC b D.2)]) rfl ⟨le_of_eq (congrArg (fun z : Int => pI z) (show m = (cC m D.2) by first | (rw [hD]; done) | (rw [hD]; rfl))), le_of_eq (congrArg (fun z : Int => pI z) (show e = (cC e D.2) by first | (rw [hD]; done) | (rw [hD]; rfl))), le_of_eq (congrArg (fun z : Int => pI z) (show b = (cC b D.2) by first | (rw [hD]; done) | (rw [hD]; rfl))), trivial⟩ ?_
   refine w_ret ?_
   refine q_then_ret ?_
   exact fin_names (nx1 := 1) (H1 := [(0, .obj [pI (cC m D.2), pI (cC e D.2), pI (cC b D.2)])]) [(0, 0)] (ret_cell tab_43 (by decide) rfl rfl (Nat.le_of_ble_eq_true rfl) rfl ret_nil) rfl (by decide) ⟨⟨_, _, rfl, rfl, rfl, rfl⟩, trivial⟩ (by decide) rfl ⟨rfl, rfl, rfl⟩
  ·
   have c1_ := c1
   try simp only [sB] at c1
   refine w_skip ?_
   refine q_then ?_
   refine w_seq ?_
   refine w_seq ?_
   refine w_R ?_
   refine qo hnt rfl (s_load_ptr tab_32 rfl rfl rfl (Nat.le_of_ble_eq_true rfl) ?_)
   refine qo hnt rfl (s_callF rfl rfl rfl (w_burgageref3_Right r (by first | omega | assumption | (simp; omega) | decide | (simp; done)) (by first | omega | assumption | (simp; omega) | decide | (simp; done))) rfl ?_)
   refine qo hnt rfl (s_neq rfl rfl ?_)
   refine r_end ?_
   refine q_then ?_
   refine w_if rfl (fun c2 => ?_) (fun c2 => ?_)
   ·
    have c2_ := c2
    try simp only [sB] at c2
    rw [cntDo_2 (m := m) (e := e) (b := b) (u := u) (q := r) (by omega) (by omega)] at hD
    refine w_seq ?_
    refine w_R ?_
    refine qo hnt rfl (s_fa_ptr tab_32 rfl rfl tab_3 (by decide) rfl ?_)
    refine qo hnt rfl (s_load_ptr1 tab_3 rfl rfl rfl rfl rfl ?_)
    refine qo hnt rfl (s_callF rfl rfl rfl (w_burgageref3_Refuse r.fn 3) rfl ?_)
    refine qo hnt rfl (s_store_ptr tab_43 rfl rfl rfl rfl rfl (Nat.le_of_ble_eq_true rfl) ?_)
    refine r_set [(6, PV.ptr 2 0)] [(2, .obj [pI ((refuseR r.fn 3).fn), pI ((refuseR r.fn 3).code), pI ((refuseR r.fn 3).at_), pI ((refuseR r.fn 3).count), pI ((refuseR r.fn 3).sub), pS 1 false encBo ((refuseR r.fn 3).bits), pS 1 false enc16 ((refuseR r.fn 3).vals), p16 ((refuseR r.fn 3).and_), p16 ((refuseR r.fn 3).or_), pS 1 false enc8 ((refuseR r.fn 3).data)]), (1, .obj [pI r.fn, pI r.at_, pI r.count, pI r.wAt, pI r.sub, pS 1 false encBo r.bits, pS 1 false enc16 r.vals, p16 r.and_, p16 r.or_]), (0, .obj [pI m, pI e, pI b])] 3 ⟨rfl, trivial⟩ rfl rfl ?_
    refine r_end ?_
    refine q_then ?_
    refine w_leO (n := 2) (ds := [pI D.1.fn, pI D.1.code, pI D.1.at_, pI D.1.count, pI D.1.sub, pS 1 false encBo D.1.bits, pS 1 false enc16 D.1.vals, p16 D.1.and_, p16 D.1.or_, pS 1 false enc8 D.1.data]) rfl ⟨le_of_eq (congrArg (fun z : Int => pI z) (show ((refuseR r.fn 3).fn) = D.1.fn by first | (rw [hD]; done) | (rw [hD]; rfl))), le_of_eq (congrArg (fun z : Int => pI z) (show ((refuseR r.fn 3).code) = D.1.code by first | (rw [hD]; done) | (rw [hD]; rfl))), le_of_eq (congrArg (fun z : Int => pI z) (show ((refuseR r.fn 3).at_) = D.1.at_ by first | (rw [hD]; done) | (rw [hD]; rfl))), le_of_eq (congrArg (fun z : Int => pI z) (show ((refuseR r.fn 3).count) = D.1.count by first | (rw [hD]; done) | (rw [hD]; rfl))), le_of_eq (congrArg (fun z : Int => pI z) (show ((refuseR r.fn 3).sub) = D.1.sub by first | (rw [hD]; done) | (rw [hD]; rfl))), le_of_eq (congrArg (fun z => pS 1 false encBo z) (show ((refuseR r.fn 3).bits) = D.1.bits by first | (rw [hD]; done) | (rw [hD]; rfl))), le_of_eq (congrArg (fun z => pS 1 false enc16 z) (show ((refuseR r.fn 3).vals) = D.1.vals by first | (rw [hD]; done) | (rw [hD]; rfl))), le_of_eq (congrArg (fun z : UInt16 => p16 z) (show ((refuseR r.fn 3).and_) = D.1.and_ by first | (rw [hD]; done) | (rw [hD]; rfl))), le_of_eq (congrArg (fun z : UInt16 => p16 z) (show ((refuseR r.fn 3).or_) = D.1.or_ by first | (rw [hD]; done) | (rw [hD]; rfl))), le_of_eq (congrArg (fun z => pS 1 false enc8 z) (show ((refuseR r.fn 3).data) = D.1.data by first | (rw [hD]; done) | (rw [hD]; rfl))), trivial⟩ ?_
    refine w_leO (n := 0) (ds := [pI (cC m D.2), pI (cC e D.2), pI (cC b D.2)]) rfl ⟨le_of_eq (congrArg (fun z : Int => pI z) (show m = (cC m D.2) by first | (rw [hD]; done) | (rw [hD]; rfl))), le_of_eq (congrArg (fun z : Int => pI z) (show e = (cC e D.2) by first | (rw [hD]; done) | (rw [hD]; rfl))), le_of_eq (congrArg (fun z : Int => pI z) (show b = (cC b D.2) by first | (rw [hD]; done) | (rw [hD]; rfl))), trivial⟩ ?_
    refine w_ret ?_
    refine q_then_ret ?_
    exact fin_names (nx1 := 1) (H1 := [(0, .obj [pI (cC m D.2), pI (cC e D.2), pI (cC b D.2)])]) [(0, 0)] (ret_cell tab_43 (by decide) rfl rfl (Nat.le_of_ble_eq_true rfl) rfl ret_nil) rfl (by decide) ⟨⟨_, _, rfl, rfl, rfl, rfl⟩, trivial⟩ (by decide) rfl ⟨rfl, rfl, rfl⟩
   ·
    have c2_ := c2
    try simp only [sB] at c2
    refine w_skip ?_
    refine q_then ?_
    refine w_seq ?_
    refine w_seq ?_
    refine w_R ?_
    refine qo hnt rfl (s_fa_ptr tab_32 rfl rfl tab_3 (by decide) rfl ?_)
    refine qo hnt rfl (s_load_ptr1 tab_3 rfl rfl rfl rfl rfl ?_)
    refine qo hnt rfl (s_eql rfl rfl ?_)
    refine r_end ?_
    refine q_then ?_
    refine w_if rfl (fun c3 => ?_) (fun c3 => ?_)
    ·
     have c3_ := c3
     try simp only [sB] at c3
     rw [cntDo_3 (m := m) (e := e) (b := b) (u := u) (q := r) (by omega) (by omega)] at hD
     refine w_seq ?_
     refine w_R ?_
     refine qo hnt rfl (s_fa_ptr tab_32 rfl rfl tab_3 (by decide) rfl ?_)
     refine qo hnt rfl (s_load_ptr1 tab_3 rfl rfl rfl rfl rfl ?_)
     refine qm hnt rfl rfl ?_
     refine qo hnt rfl (s_cv8 tab_3 tab_5 rfl rfl rfl ?_)
     refine qo hnt rfl (s_mkM (f := enc8) [u8I u, 255] tab_41 rfl tab_5 ⟨rfl, by decide⟩ (by decide) rfl rfl rfl rfl ?_)
     refine qo hnt rfl (s_build tab_43 rfl rfl (b_cons rfl tab_3 rfl rfl rfl (Nat.le_of_ble_eq_true rfl) (b_cons rfl tab_41 rfl rfl rfl (Nat.le_of_ble_eq_true rfl) (b_nil ?_))))
     refine qo hnt rfl (s_store_ptr tab_43 rfl rfl rfl rfl rfl (Nat.le_of_ble_eq_true rfl) ?_)
     refine r_set [(6, PV.ptr 2 0)] [(2, .obj [pI r.fn, pI 0, pI 0, pI 0, pI 0, pNil, pNil, p16 0, p16 0, PV.ref 3 0 none]), (3, oB true 1 enc8 [u8I u, 255]), (1, .obj [pI r.fn, pI r.at_, pI r.count, pI r.wAt, pI r.sub, pS 1 false encBo r.bits, pS 1 false enc16 r.vals, p16 r.and_, p16 r.or_]), (0, .obj [pI m, pI e, pI b])] 4 ⟨rfl, trivial⟩ rfl rfl ?_
     refine r_end ?_
     refine q_then ?_
     refine w_frzC (n := 2) (j := 9) rfl rfl rfl rfl ?_
     refine w_leO (n := 2) (ds := [pI r.fn, pI 0, pI 0, pI 0, pI 0, pNil, pNil, p16 0, p16 0, pS 1 false enc8 D.1.data]) rfl ⟨le_refl _, le_refl _, le_refl _, le_refl _, le_refl _, le_refl _, le_refl _, le_refl _, le_refl _, le_of_eq (congrArg (fun z => pS 1 false enc8 z) (show [u8I u, 255] = D.1.data by first | (rw [hD]; done) | (rw [hD]; rfl))), trivial⟩ ?_
     refine w_leO (n := 2) (ds := [pI D.1.fn, pI D.1.code, pI D.1.at_, pI D.1.count, pI D.1.sub, pS 1 false encBo D.1.bits, pS 1 false enc16 D.1.vals, p16 D.1.and_, p16 D.1.or_, pS 1 false enc8 D.1.data]) rfl ⟨le_of_eq (congrArg (fun z : Int => pI z) (show r.fn = D.1.fn by first | (rw [hD]; done) | (rw [hD]; rfl))), le_of_eq (congrArg (fun z : Int => pI z) (show 0 = D.1.code by first | (rw [hD]; done) | (rw [hD]; rfl))), le_of_eq (congrArg (fun z : Int => pI z) (show 0 = D.1.at_ by first | (rw [hD]; done) | (rw [hD]; rfl))), le_of_eq (congrArg (fun z : Int => pI z) (show 0 = D.1.count by first | (rw [hD]; done) | (rw [hD]; rfl))), le_of_eq (congrArg (fun z : Int => pI z) (show 0 = D.1.sub by first | (rw [hD]; done) | (rw [hD]; rfl))), le_tr (le_nilS 1 false) (le_of_eq (congrArg (fun z => pS 1 false encBo z) (show [] = D.1.bits by first | (rw [hD]; done) | (rw [hD]; rfl)))), le_tr (le_nilS 1 false) (le_of_eq (congrArg (fun z => pS 1 false enc16 z) (show [] = D.1.vals by first | (rw [hD]; done) | (rw [hD]; rfl)))), le_of_eq (congrArg (fun z : UInt16 => p16 z) (show 0 = D.1.and_ by first | (rw [hD]; done) | (rw [hD]; rfl))), le_of_eq (congrArg (fun z : UInt16 => p16 z) (show 0 = D.1.or_ by first | (rw [hD]; done) | (rw [hD]; rfl))), le_refl _, trivial⟩ ?_
     refine w_leO (n := 0) (ds := [pI (cC m D.2), pI (cC e D.2), pI (cC b D.2)]) rfl ⟨le_of_eq (congrArg (fun z : Int => pI z) (show m = (cC m D.2) by first | (rw [hD]; done) | (rw [hD]; rfl))), le_of_eq (congrArg (fun z : Int => pI z) (show e = (cC e D.2) by first | (rw [hD]; done) | (rw [hD]; rfl))), le_of_eq (congrArg (fun z : Int => pI z) (show b = (cC b D.2) by first | (rw [hD]; done) | (rw [hD]; rfl))), trivial⟩ ?_
     refine w_ret ?_
     refine q_then_ret ?_
     exact fin_names (nx1 := 1) (H1 := [(0, .obj [pI (cC m D.2), pI (cC e D.2), pI (cC b D.2)])]) [(0, 0)] (ret_cell tab_43 (by decide) rfl rfl (Nat.le_of_ble_eq_true rfl) rfl ret_nil) rfl (by decide) ⟨⟨_, _, rfl, rfl, rfl, rfl⟩, trivial⟩ (by decide) rfl ⟨rfl, rfl, rfl⟩
    ·
     have c3_ := c3
     try simp only [sB] at c3
     refine w_skip ?_
     refine q_then ?_
     refine w_seq ?_
     refine W_drawn tabOk mixed hnt [[], [0], [], [2], [], [], [5], [4, 5, 6], [0, 1, 2, 3, 4, 5, 6, 7], [], [0, 1, 2, 3, 4, 5, 6, 7, 8, 9]] (by kernel_rfl) ?_
     refine d_op ?_
     refine x_run0 [(4, PV.ptr 1 0)] [] rfl rfl rfl rfl (s_fa_ptr tab_32 rfl rfl tab_3 (by decide) rfl ⟨rfl, rfl, rfl⟩) ?_
     refine d_op ?_
     refine x_run [(36, PV.ptr 1 0)] [0] [(1, .obj [pI r.fn, pI r.at_, pI r.count, pI r.wAt, pI r.sub, pS 1 false encBo r.bits, pS 1 false enc16 r.vals, p16 r.and_, p16 r.or_])] [] [(1, .obj [pI r.fn, pI r.at_, pI r.count, pI r.wAt, pI r.sub, pS 1 false encBo r.bits, pS 1 false enc16 r.vals, p16 r.and_, p16 r.or_])] [] [(2, .obj [pI 0, pI 0, pI 0, pI 0, pI 0, pNil, pNil, p16 0, p16 0, pNil]), (1, .obj [pI r.fn, pI r.at_, pI r.count, pI r.wAt, pI r.sub, pS 1 false encBo r.bits, pS 1 false enc16 r.vals, p16 r.and_, p16 r.or_]), (0, .obj [pI m, pI e, pI b])] rfl rfl rfl rfl rfl rfl (s_load_ptr1 tab_3 rfl rfl rfl rfl rfl ⟨rfl, rfl, rfl⟩) rfl ⟨rfl, trivial⟩ rfl rfl ?_
     refine d_op ?_
     refine x_run0 [(4, PV.ptr 1 0)] [] rfl rfl rfl rfl (s_fa_ptr tab_32 rfl rfl tab_3 (by decide) rfl ⟨rfl, rfl, rfl⟩) ?_
     refine d_op ?_
     refine x_run [(38, PV.ptr 1 4)] [2] [(1, .obj [pI r.fn, pI r.at_, pI r.count, pI r.wAt, pI r.sub, pS 1 false encBo r.bits, pS 1 false enc16 r.vals, p16 r.and_, p16 r.or_])] [] [(1, .obj [pI r.fn, pI r.at_, pI r.count, pI r.wAt, pI r.sub, pS 1 false encBo r.bits, pS 1 false enc16 r.vals, p16 r.and_, p16 r.or_])] [] [(2, .obj [pI 0, pI 0, pI 0, pI 0, pI 0, pNil, pNil, p16 0, p16 0, pNil]), (1, .obj [pI r.fn, pI r.at_, pI r.count, pI r.wAt, pI r.sub, pS 1 false encBo r.bits, pS 1 false enc16 r.vals, p16 r.and_, p16 r.or_]), (0, .obj [pI m, pI e, pI b])] rfl rfl rfl rfl rfl rfl (s_load_ptr1 tab_3 rfl rfl rfl rfl rfl ⟨rfl, rfl, rfl⟩) rfl ⟨rfl, trivial⟩ rfl rfl ?_
     refine d_op ?_
     refine x_run [] [] [] [] [(3, oB true 1 enc16 ([] : List UInt16))] [(3, oB true 1 enc16 ([] : List UInt16))] [(3, oB true 1 enc16 ([] : List UInt16)), (2, .obj [pI 0, pI 0, pI 0, pI 0, pI 0, pNil, pNil, p16 0, p16 0, pNil]), (1, .obj [pI r.fn, pI r.at_, pI r.count, pI r.wAt, pI r.sub, pS 1 false encBo r.bits, pS 1 false enc16 r.vals, p16 r.and_, p16 r.or_]), (0, .obj [pI m, pI e, pI b])] rfl rfl rfl rfl rfl rfl (s_mkM (f := enc16) ([] : List UInt16) tab_29 rfl tab_30 ⟨rfl, by decide⟩ (by decide) rfl rfl rfl rfl ⟨rfl, rfl, rfl⟩) rfl trivial rfl rfl ?_
     refine d_op ?_
     refine x_run0 [(4, PV.ptr 1 0)] [] rfl rfl rfl rfl (s_fa_ptr tab_32 rfl rfl tab_29 (by decide) rfl ⟨rfl, rfl, rfl⟩) ?_
     refine d_op ?_
     refine x_run [(41, PV.ptr 1 6)] [5] [(1, .obj [pI r.fn, pI r.at_, pI r.count, pI r.wAt, pI r.sub, pS 1 false encBo r.bits, pS 1 false enc16 r.vals, p16 r.and_, p16 r.or_])] [] [(1, .obj [pI r.fn, pI r.at_, pI r.count, pI r.wAt, pI r.sub, pS 1 false encBo r.bits, pS 1 false enc16 r.vals, p16 r.and_, p16 r.or_])] [] [(3, oB true 1 enc16 ([] : List UInt16)), (2, .obj [pI 0, pI 0, pI 0, pI 0, pI 0, pNil, pNil, p16 0, p16 0, pNil]), (1, .obj [pI r.fn, pI r.at_, pI r.count, pI r.wAt, pI r.sub, pS 1 false encBo r.bits, pS 1 false enc16 r.vals, p16 r.and_, p16 r.or_]), (0, .obj [pI m, pI e, pI b])] rfl rfl rfl rfl rfl rfl (s_load_ptr1 tab_29 rfl rfl rfl rfl rfl ⟨rfl, rfl, rfl⟩) rfl ⟨rfl, trivial⟩ rfl rfl ?_
     refine d_op ?_
     refine x_run [(40, PV.ref 3 0 none), (42, pS 1 false enc16 r.vals)] [4, 5, 6] [] [(3, oB true 1 enc16 ([] : List UInt16))] [(4, oB true 1 enc16 r.vals)] [(4, oB true 1 enc16 r.vals)] [(4, oB true 1 enc16 r.vals), (2, .obj [pI 0, pI 0, pI 0, pI 0, pI 0, pNil, pNil, p16 0, p16 0, pNil]), (1, .obj [pI r.fn, pI r.at_, pI r.count, pI r.wAt, pI r.sub, pS 1 false encBo r.bits, pS 1 false enc16 r.vals, p16 r.and_, p16 r.or_]), (0, .obj [pI m, pI e, pI b])] rfl rfl rfl rfl rfl rfl (s_appR0 (f := enc16) (l := ([] : List UInt16)) (xs := r.vals) tab_29 rfl tab_30 ⟨rfl, by decide, by decide⟩ (srcM tab_29 rfl (hM_sl (f := enc16) rfl)) rfl rfl (by first | omega | (simp; omega)) ⟨rfl, rfl, rfl⟩) rfl trivial rfl rfl ?_
     refine d_op ?_
     refine x_run0 [(37, pI r.fn), (39, pI r.sub), (43, PV.ref 4 0 none)] [0, 1, 2, 3, 4, 5, 6, 7] rfl rfl rfl rfl (s_build tab_43 rfl rfl (b_cons rfl tab_3 rfl rfl rfl (Nat.le_of_ble_eq_true rfl) (b_cons rfl tab_3 rfl rfl rfl (Nat.le_of_ble_eq_true rfl) (b_cons rfl tab_29 rfl rfl rfl (Nat.le_of_ble_eq_true rfl) (b_nil ⟨rfl, rfl, rfl⟩))))) ?_
     refine d_op ?_
     refine x_run [] [] [] [] [(5, .obj [pI 0, pI 0, pI 0, pI 0, pI 0, pNil, pNil, p16 0, p16 0, pNil])] [(5, .obj [pI 0, pI 0, pI 0, pI 0, pI 0, pNil, pNil, p16 0, p16 0, pNil])] [(5, .obj [pI 0, pI 0, pI 0, pI 0, pI 0, pNil, pNil, p16 0, p16 0, pNil]), (4, oB true 1 enc16 r.vals), (2, .obj [pI 0, pI 0, pI 0, pI 0, pI 0, pNil, pNil, p16 0, p16 0, pNil]), (1, .obj [pI r.fn, pI r.at_, pI r.count, pI r.wAt, pI r.sub, pS 1 false encBo r.bits, pS 1 false enc16 r.vals, p16 r.and_, p16 r.or_]), (0, .obj [pI m, pI e, pI b])] rfl rfl rfl rfl rfl rfl (s_alloc tab_43 ⟨rfl, rfl, rfl⟩) rfl trivial rfl rfl ?_
     refine d_op ?_
     refine x_run [(7, PV.ptr 5 0), (44, PV.agg [pI r.fn, pI 0, pI 0, pI 0, pI r.sub, pNil, PV.ref 4 0 none, p16 0, p16 0, pNil])] [0, 1, 2, 3, 4, 5, 6, 7, 8, 9] [] [(5, .obj [pI 0, pI 0, pI 0, pI 0, pI 0, pNil, pNil, p16 0, p16 0, pNil])] [(5, .obj [pI r.fn, pI 0, pI 0, pI 0, pI r.sub, pNil, PV.ref 4 0 none, p16 0, p16 0, pNil])] [(5, .obj [pI r.fn, pI 0, pI 0, pI 0, pI r.sub, pNil, PV.ref 4 0 none, p16 0, p16 0, pNil])] [(5, .obj [pI r.fn, pI 0, pI 0, pI 0, pI r.sub, pNil, PV.ref 4 0 none, p16 0, p16 0, pNil]), (4, oB true 1 enc16 r.vals), (2, .obj [pI 0, pI 0, pI 0, pI 0, pI 0, pNil, pNil, p16 0, p16 0, pNil]), (1, .obj [pI r.fn, pI r.at_, pI r.count, pI r.wAt, pI r.sub, pS 1 false encBo r.bits, pS 1 false enc16 r.vals, p16 r.and_, p16 r.or_]), (0, .obj [pI m, pI e, pI b])] rfl rfl rfl rfl rfl rfl (s_store_ptr tab_43 rfl rfl rfl rfl rfl (Nat.le_of_ble_eq_true rfl) ⟨rfl, rfl, rfl⟩) rfl trivial rfl rfl ?_
     refine d_end ⟨by kernel_rfl, ?_⟩
     refine q_then ?_
     refine w_seq ?_
     refine w_seq ?_
     refine w_R ?_
     refine qo hnt rfl (s_fa_ptr tab_32 rfl rfl tab_3 (by decide) rfl ?_)
     refine qo hnt rfl (s_load_ptr1 tab_3 rfl rfl rfl rfl rfl ?_)
     refine qo hnt rfl (s_eql rfl rfl ?_)
     refine r_set [(0, PV.ptr 0 0), (4, PV.ptr 1 0), (6, PV.ptr 2 0), (7, PV.ptr 5 0), (47, pB (decide (r.sub = 0)))] [(5, .obj [pI r.fn, pI 0, pI 0, pI 0, pI r.sub, pNil, PV.ref 4 0 none, p16 0, p16 0, pNil]), (4, oB true 1 enc16 r.vals), (2, .obj [pI 0, pI 0, pI 0, pI 0, pI 0, pNil, pNil, p16 0, p16 0, pNil]), (1, .obj [pI r.fn, pI r.at_, pI r.count, pI r.wAt, pI r.sub, pS 1 false encBo r.bits, pS 1 false enc16 r.vals, p16 r.and_, p16 r.or_]), (0, .obj [pI m, pI e, pI b])] 6 ⟨rfl, rfl, rfl, rfl, rfl, trivial⟩ rfl rfl ?_
     refine r_end ?_
     refine q_then ?_
     refine w_if rfl (fun c4 => ?_) (fun c4 => ?_)
     ·
      have c4_ := c4
      try simp only [sB] at c4
      rw [cntDo_4 (m := m) (e := e) (b := b) (u := u) (q := r) (by omega) (by omega) (by omega)] at hD
      refine w_seq ?_
      refine w_R ?_
      refine qo hnt rfl (s_load_ptr tab_43 rfl rfl rfl (Nat.le_of_ble_eq_true rfl) ?_)
      refine qo hnt rfl (s_store_ptr tab_43 rfl rfl rfl rfl rfl (Nat.le_of_ble_eq_true rfl) ?_)
      refine r_set [(6, PV.ptr 2 0)] [(2, .obj [pI r.fn, pI 0, pI 0, pI 0, pI r.sub, pNil, PV.ref 4 0 none, p16 0, p16 0, pNil]), (5, .obj [pI r.fn, pI 0, pI 0, pI 0, pI r.sub, pNil, PV.ref 4 0 none, p16 0, p16 0, pNil]), (4, oB true 1 enc16 r.vals), (1, .obj [pI r.fn, pI r.at_, pI r.count, pI r.wAt, pI r.sub, pS 1 false encBo r.bits, pS 1 false enc16 r.vals, p16 r.and_, p16 r.or_]), (0, .obj [pI m, pI e, pI b])] 6 ⟨rfl, trivial⟩ rfl rfl ?_
      refine r_end ?_
      refine q_then ?_
      refine w_frzC (n := 2) (j := 6) rfl rfl rfl rfl ?_
      refine w_leO (n := 2) (ds := [pI r.fn, pI 0, pI 0, pI 0, pI r.sub, pNil, pS 1 false enc16 D.1.vals, p16 0, p16 0, pNil]) rfl ⟨le_refl _, le_refl _, le_refl _, le_refl _, le_refl _, le_refl _, le_of_eq (congrArg (fun z => pS 1 false enc16 z) (show r.vals = D.1.vals by first | (rw [hD]; done) | (rw [hD]; rfl))), le_refl _, le_refl _, le_refl _, trivial⟩ ?_
      refine w_leO (n := 2) (ds := [pI D.1.fn, pI D.1.code, pI D.1.at_, pI D.1.count, pI D.1.sub, pS 1 false encBo D.1.bits, pS 1 false enc16 D.1.vals, p16 D.1.and_, p16 D.1.or_, pS 1 false enc8 D.1.data]) rfl ⟨le_of_eq (congrArg (fun z : Int => pI z) (show r.fn = D.1.fn by first | (rw [hD]; done) | (rw [hD]; rfl))), le_of_eq (congrArg (fun z : Int => pI z) (show 0 = D.1.code by first | (rw [hD]; done) | (rw [hD]; rfl))), le_of_eq (congrArg (fun z : Int => pI z) (show 0 = D.1.at_ by first | (rw [hD]; done) | (rw [hD]; rfl))), le_of_eq (congrArg (fun z : Int => pI z) (show 0 = D.1.count by first | (rw [hD]; done) | (rw [hD]; rfl))), le_of_eq (congrArg (fun z : Int => pI z) (show r.sub = D.1.sub by first | (rw [hD]; done) | (rw [hD]; rfl))), le_tr (le_nilS 1 false) (le_of_eq (congrArg (fun z => pS 1 false encBo z) (show [] = D.1.bits by first | (rw [hD]; done) | (rw [hD]; rfl)))), le_refl _, le_of_eq (congrArg (fun z : UInt16 => p16 z) (show 0 = D.1.and_ by first | (rw [hD]; done) | (rw [hD]; rfl))), le_of_eq (congrArg (fun z : UInt16 => p16 z) (show 0 = D.1.or_ by first | (rw [hD]; done) | (rw [hD]; rfl))), le_tr (le_nilS 1 false) (le_of_eq (congrArg (fun z => pS 1 false enc8 z) (show [] = D.1.data by first | (rw [hD]; done) | (rw [hD]; rfl)))), trivial⟩ ?_
      refine w_leO (n := 0) (ds := [pI (cC m D.2), pI (cC e D.2), pI (cC b D.2)]) rfl ⟨le_of_eq (congrArg (fun z : Int => pI z) (show m = (cC m D.2) by first | (rw [hD]; done) | (rw [hD]; rfl))), le_of_eq (congrArg (fun z : Int => pI z) (show e = (cC e D.2) by first | (rw [hD]; done) | (rw [hD]; rfl))), le_of_eq (congrArg (fun z : Int => pI z) (show b = (cC b D.2) by first | (rw [hD]; done) | (rw [hD]; rfl))), trivial⟩ ?_
      refine w_ret ?_
      refine q_then_ret ?_
      exact fin_names (nx1 := 1) (H1 := [(0, .obj [pI (cC m D.2), pI (cC e D.2), pI (cC b D.2)])]) [(0, 0)] (ret_cell tab_43 (by decide) rfl rfl (Nat.le_of_ble_eq_true rfl) rfl ret_nil) rfl (by decide) ⟨⟨_, _, rfl, rfl, rfl, rfl⟩, trivial⟩ (by decide) rfl ⟨rfl, rfl, rfl⟩
     ·
      have c4_ := c4
      try simp only [sB] at c4
      refine w_skip ?_
      refine q_then ?_
      refine w_seq ?_
      refine w_seq ?_
      refine w_R ?_
      refine qo hnt rfl (s_fa_ptr tab_32 rfl rfl tab_3 (by decide) rfl ?_)
      refine qo hnt rfl (s_load_ptr1 tab_3 rfl rfl rfl rfl rfl ?_)
      refine qo hnt rfl (s_eql rfl rfl ?_)
      refine r_end ?_
      refine q_then ?_
      refine w_if rfl (fun c5 => ?_) (fun c5 => ?_)
      ·
       have c5_ := c5
       try simp only [sB] at c5
       rw [cntDo_5 (m := m) (e := e) (b := b) (u := u) (q := r) (by omega) (by omega) (by omega)] at hD
       refine w_seq ?_
       refine w_R ?_
       refine qm hnt rfl rfl ?_
       refine qm hnt rfl rfl ?_
       refine qm hnt rfl rfl ?_
       refine qo hnt rfl (s_nilCheck rfl trivial ?_)
       refine qo hnt rfl (s_fa_ptr tab_71 rfl rfl tab_3 (by decide) rfl ?_)
       refine qo hnt rfl (s_store_ptr tab_3 rfl rfl rfl rfl rfl (Nat.le_of_ble_eq_true rfl) ?_)
       refine qo hnt rfl (s_nilCheck rfl trivial ?_)
       refine qo hnt rfl (s_fa_ptr tab_71 rfl rfl tab_3 (by decide) rfl ?_)
       refine qo hnt rfl (s_store_ptr tab_3 rfl rfl rfl rfl rfl (Nat.le_of_ble_eq_true rfl) ?_)
       refine qo hnt rfl (s_nilCheck rfl trivial ?_)
       refine qo hnt rfl (s_fa_ptr tab_71 rfl rfl tab_3 (by decide) rfl ?_)
       refine qo hnt rfl (s_store_ptr tab_3 rfl rfl rfl rfl rfl (Nat.le_of_ble_eq_true rfl) ?_)
       refine r_set [(6, PV.ptr 2 0), (7, PV.ptr 5 0)] [(0, .obj [pI 0, pI 0, pI 0]), (5, .obj [pI r.fn, pI 0, pI 0, pI 0, pI r.sub, pNil, PV.ref 4 0 none, p16 0, p16 0, pNil]), (4, oB true 1 enc16 r.vals), (2, .obj [pI 0, pI 0, pI 0, pI 0, pI 0, pNil, pNil, p16 0, p16 0, pNil]), (1, .obj [pI r.fn, pI r.at_, pI r.count, pI r.wAt, pI r.sub, pS 1 false encBo r.bits, pS 1 false enc16 r.vals, p16 r.and_, p16 r.or_])] 6 ⟨rfl, rfl, trivial⟩ rfl rfl ?_
       refine r_end ?_
       refine q_then ?_
       refine w_seq ?_
       refine w_R ?_
       refine qo hnt rfl (s_load_ptr tab_43 rfl rfl rfl (Nat.le_of_ble_eq_true rfl) ?_)
       refine qo hnt rfl (s_store_ptr tab_43 rfl rfl rfl rfl rfl (Nat.le_of_ble_eq_true rfl) ?_)
       refine r_set [(6, PV.ptr 2 0)] [(2, .obj [pI r.fn, pI 0, pI 0, pI 0, pI r.sub, pNil, PV.ref 4 0 none, p16 0, p16 0, pNil]), (0, .obj [pI 0, pI 0, pI 0]), (5, .obj [pI r.fn, pI 0, pI 0, pI 0, pI r.sub, pNil, PV.ref 4 0 none, p16 0, p16 0, pNil]), (4, oB true 1 enc16 r.vals), (1, .obj [pI r.fn, pI r.at_, pI r.count, pI r.wAt, pI r.sub, pS 1 false encBo r.bits, pS 1 false enc16 r.vals, p16 r.and_, p16 r.or_])] 6 ⟨rfl, trivial⟩ rfl rfl ?_
       refine r_end ?_
       refine q_then ?_
       refine w_frzC (n := 2) (j := 6) rfl rfl rfl rfl ?_
       refine w_leO (n := 2) (ds := [pI r.fn, pI 0, pI 0, pI 0, pI r.sub, pNil, pS 1 false enc16 D.1.vals, p16 0, p16 0, pNil]) rfl ⟨le_refl _, le_refl _, le_refl _, le_refl _, le_refl _, le_refl _, le_of_eq (congrArg (fun z => pS 1 false enc16 z) (show r.vals = D.1.vals by first | (rw [hD]; done) | (rw [hD]; rfl))), le_refl _, le_refl _, le_refl _, trivial⟩ ?_
       refine w_leO (n := 2) (ds := [pI D.1.fn, pI D.1.code, pI D.1.at_, pI D.1.count, pI D.1.sub, pS 1 false encBo D.1.bits, pS 1 false enc16 D.1.vals, p16 D.1.and_, p16 D.1.or_, pS 1 false enc8 D.1.data]) rfl ⟨le_of_eq (congrArg (fun z : Int => pI z) (show r.fn = D.1.fn by first | (rw [hD]; done) | (rw [hD]; rfl))), le_of_eq (congrArg (fun z : Int => pI z) (show 0 = D.1.code by first | (rw [hD]; done) | (rw [hD]; rfl))), le_of_eq (congrArg (fun z : Int => pI z) (show 0 = D.1.at_ by first | (rw [hD]; done) | (rw [hD]; rfl))), le_of_eq (congrArg (fun z : Int => pI z) (show 0 = D.1.count by first | (rw [hD]; done) | (rw [hD]; rfl))), le_of_eq (congrArg (fun z : Int => pI z) (show r.sub = D.1.sub by first | (rw [hD]; done) | (rw [hD]; rfl))), le_tr (le_nilS 1 false) (le_of_eq (congrArg (fun z => pS 1 false encBo z) (show [] = D.1.bits by first | (rw [hD]; done) | (rw [hD]; rfl)))), le_refl _, le_of_eq (congrArg (fun z : UInt16 => p16 z) (show 0 = D.1.and_ by first | (rw [hD]; done) | (rw [hD]; rfl))), le_of_eq (congrArg (fun z : UInt16 => p16 z) (show 0 = D.1.or_ by first | (rw [hD]; done) | (rw [hD]; rfl))), le_tr (le_nilS 1 false) (le_of_eq (congrArg (fun z => pS 1 false enc8 z) (show [] = D.1.data by first | (rw [hD]; done) | (rw [hD]; rfl)))), trivial⟩ ?_
       refine w_leO (n := 0) (ds := [pI (cC m D.2), pI (cC e D.2), pI (cC b D.2)]) rfl ⟨le_of_eq (congrArg (fun z : Int => pI z) (show 0 = (cC m D.2) by first | (rw [hD]; done) | (rw [hD]; rfl))), le_of_eq (congrArg (fun z : Int => pI z) (show 0 = (cC e D.2) by first | (rw [hD]; done) | (rw [hD]; rfl))), le_of_eq (congrArg (fun z : Int => pI z) (show 0 = (cC b D.2) by first | (rw [hD]; done) | (rw [hD]; rfl))), trivial⟩ ?_
       refine w_ret ?_
       refine q_then_ret ?_
       exact fin_names (nx1 := 1) (H1 := [(0, .obj [pI (cC m D.2), pI (cC e D.2), pI (cC b D.2)])]) [(0, 0)] (ret_cell tab_43 (by decide) rfl rfl (Nat.le_of_ble_eq_true rfl) rfl ret_nil) rfl (by decide) ⟨⟨_, _, rfl, rfl, rfl, rfl⟩, trivial⟩ (by decide) rfl ⟨rfl, rfl, rfl⟩
      ·
       have c5_ := c5
       try simp only [sB] at c5
       have hv8 := vals_8 (q := r) (by omega) (by omega)
       refine w_skip ?_
       refine q_then ?_
       refine w_seq ?_
       refine w_R ?_
       refine qm hnt rfl rfl ?_
       refine qo hnt rfl (s_fa_ptr tab_32 rfl rfl tab_3 (by decide) rfl ?_)
       refine qo hnt rfl (s_load_ptr1 tab_3 rfl rfl rfl rfl rfl ?_)
       refine qo hnt rfl (s_callX (r2 := PV.tup [p16 (cntGet m e b r.sub), pB (cntOk r.sub)]) (nx1 := 6) (H2 := [(5, .obj [pI r.fn, pI 0, pI 0, pI 0, pI r.sub, pNil, PV.ref 4 0 none, p16 0, p16 0, pNil]), (4, oB true 1 enc16 r.vals), (2, .obj [pI 0, pI 0, pI 0, pI 0, pI 0, pNil, pNil, p16 0, p16 0, pNil]), (1, .obj [pI r.fn, pI r.at_, pI r.count, pI r.wAt, pI r.sub, pS 1 false encBo r.bits, pS 1 false enc16 r.vals, p16 r.and_, p16 r.or_]), (0, .obj [pI m, pI e, pI b])]) (H3 := [(0, .obj [pI m, pI e, pI b]), (5, .obj [pI r.fn, pI 0, pI 0, pI 0, pI r.sub, pNil, PV.ref 4 0 none, p16 0, p16 0, pNil]), (4, oB true 1 enc16 r.vals), (2, .obj [pI 0, pI 0, pI 0, pI 0, pI 0, pNil, pNil, p16 0, p16 0, pNil]), (1, .obj [pI r.fn, pI r.at_, pI r.count, pI r.wAt, pI r.sub, pS 1 false encBo r.bits, pS 1 false enc16 r.vals, p16 r.and_, p16 r.or_])]) [0] [.obj [pI m, pI e, pI b]] rfl rfl rfl (handed_of (by decide) ⟨rfl, trivial⟩) rfl rfl rfl rfl rfl rfl (w_burgageref17_Count_Get m e b r.sub) rfl (dist_of rfl) rfl rfl rfl rfl ?_)
       refine qm hnt rfl rfl ?_
       refine qo hnt rfl (s_extract rfl rfl ?_)
       refine qo hnt rfl (s_extract rfl rfl ?_)
       refine qa hnt rfl rfl ?_
       refine qa hnt rfl rfl ?_
       refine r_set [(4, PV.ptr 1 0), (6, PV.ptr 2 0), (7, PV.ptr 5 0), (8, p16 (cntGet m e b r.sub)), (9, pB (cntOk r.sub))] [(0, .obj [pI m, pI e, pI b]), (5, .obj [pI r.fn, pI 0, pI 0, pI 0, pI r.sub, pNil, PV.ref 4 0 none, p16 0, p16 0, pNil]), (4, oB true 1 enc16 r.vals), (2, .obj [pI 0, pI 0, pI 0, pI 0, pI 0, pNil, pNil, p16 0, p16 0, pNil]), (1, .obj [pI r.fn, pI r.at_, pI r.count, pI r.wAt, pI r.sub, pS 1 false encBo r.bits, pS 1 false enc16 r.vals, p16 r.and_, p16 r.or_])] 6 ⟨rfl, rfl, rfl, rfl, rfl, trivial⟩ rfl rfl ?_
       refine r_end ?_
       refine q_then ?_
       refine w_seq ?_
       refine w_seq ?_
       refine w_R ?_
       refine qm hnt rfl rfl ?_
       refine qo hnt rfl (s_not rfl ?_)
       refine qm hnt rfl rfl ?_
       refine r_if tabOk hnt rfl rfl rfl (fun g2 => ?_) (fun g2 => ?_)
       ·
        have g2' := g2
        try simp only [sB] at g2'
        refine qo hnt rfl (s_fa_ptr tab_32 rfl rfl tab_29 (by decide) rfl ?_)
        refine ry hnt rfl rfl rfl g2 ?_
        refine qo hnt rfl (s_load_ptr1 tab_29 rfl rfl rfl rfl rfl ?_)
        refine ry hnt rfl rfl rfl g2 ?_
        obtain ⟨e1, he1⟩ := get_of_lt r.vals (i := 0) (by omega)
        refine qo hnt rfl (s_iaM (q := 0) (b := e1) (f := enc16) tab_29 rfl tab_30 rfl rfl (by omega) rfl he1 ?_)
        refine ry hnt rfl rfl rfl g2 ?_
        refine qo hnt rfl (s_load_ro1 tab_30 rfl rfl rfl rfl ?_)
        refine ry hnt rfl rfl rfl g2 ?_
        refine qo hnt rfl (s_neq16 (a := e1) (b := 0) rfl rfl ?_)
        refine qo hnt rfl (s_pick_f rfl g2 rfl ?_)
        refine r_end ?_
        refine q_then ?_
        refine w_if rfl (fun c6 => ?_) (fun c6 => ?_)
        ·
         have c6_ := c6
         try simp only [sB] at c6
         rw [cntDo_6 (m := m) (e := e) (b := b) (u := u) (q := r) (by omega) (by omega) (by omega) (.inr (by rw [List.getD_eq_getElem?_getD, he1]; exact c6))] at hD
         refine w_seq ?_
         refine w_R ?_
         refine qo hnt rfl (s_fa_ptr tab_32 rfl rfl tab_3 (by decide) rfl ?_)
         refine qo hnt rfl (s_load_ptr1 tab_3 rfl rfl rfl rfl rfl ?_)
         refine qo hnt rfl (s_callF rfl rfl rfl (w_burgageref3_Refuse r.fn 3) rfl ?_)
         refine qo hnt rfl (s_store_ptr tab_43 rfl rfl rfl rfl rfl (Nat.le_of_ble_eq_true rfl) ?_)
         refine r_set [(6, PV.ptr 2 0)] [(2, .obj [pI ((refuseR r.fn 3).fn), pI ((refuseR r.fn 3).code), pI ((refuseR r.fn 3).at_), pI ((refuseR r.fn 3).count), pI ((refuseR r.fn 3).sub), pS 1 false encBo ((refuseR r.fn 3).bits), pS 1 false enc16 ((refuseR r.fn 3).vals), p16 ((refuseR r.fn 3).and_), p16 ((refuseR r.fn 3).or_), pS 1 false enc8 ((refuseR r.fn 3).data)]), (0, .obj [pI m, pI e, pI b]), (5, .obj [pI r.fn, pI 0, pI 0, pI 0, pI r.sub, pNil, PV.ref 4 0 none, p16 0, p16 0, pNil]), (4, oB true 1 enc16 r.vals), (1, .obj [pI r.fn, pI r.at_, pI r.count, pI r.wAt, pI r.sub, pS 1 false encBo r.bits, pS 1 false enc16 r.vals, p16 r.and_, p16 r.or_])] 6 ⟨rfl, trivial⟩ rfl rfl ?_
         refine r_end ?_
         refine q_then ?_
         refine w_leO (n := 2) (ds := [pI D.1.fn, pI D.1.code, pI D.1.at_, pI D.1.count, pI D.1.sub, pS 1 false encBo D.1.bits, pS 1 false enc16 D.1.vals, p16 D.1.and_, p16 D.1.or_, pS 1 false enc8 D.1.data]) rfl ⟨le_of_eq (congrArg (fun z : Int => pI z) (show ((refuseR r.fn 3).fn) = D.1.fn by first | (rw [hD]; done) | (rw [hD]; rfl))), le_of_eq (congrArg (fun z : Int => pI z) (show ((refuseR r.fn 3).code) = D.1.code by first | (rw [hD]; done) | (rw [hD]; rfl))), le_of_eq (congrArg (fun z : Int => pI z) (show ((refuseR r.fn 3).at_) = D.1.at_ by first | (rw [hD]; done) | (rw [hD]; rfl))), le_of_eq (congrArg (fun z : Int => pI z) (show ((refuseR r.fn 3).count) = D.1.count by first | (rw [hD]; done) | (rw [hD]; rfl))), le_of_eq (congrArg (fun z : Int => pI z) (show ((refuseR r.fn 3).sub) = D.1.sub by first | (rw [hD]; done) | (rw [hD]; rfl))), le_of_eq (congrArg (fun z => pS 1 false encBo z) (show ((refuseR r.fn 3).bits) = D.1.bits by first | (rw [hD]; done) | (rw [hD]; rfl))), le_of_eq (congrArg (fun z => pS 1 false enc16 z) (show ((refuseR r.fn 3).vals) = D.1.vals by first | (rw [hD]; done) | (rw [hD]; rfl))), le_of_eq (congrArg (fun z : UInt16 => p16 z) (show ((refuseR r.fn 3).and_) = D.1.and_ by first | (rw [hD]; done) | (rw [hD]; rfl))), le_of_eq (congrArg (fun z : UInt16 => p16 z) (show ((refuseR r.fn 3).or_) = D.1.or_ by first | (rw [hD]; done) | (rw [hD]; rfl))), le_of_eq (congrArg (fun z => pS 1 false enc8 z) (show ((refuseR r.fn 3).data) = D.1.data by first | (rw [hD]; done) | (rw [hD]; rfl))), trivial⟩ ?_
         refine w_leO (n := 0) (ds := [pI (cC m D.2), pI (cC e D.2), pI (cC b D.2)]) rfl ⟨le_of_eq (congrArg (fun z : Int => pI z) (show m = (cC m D.2) by first | (rw [hD]; done) | (rw [hD]; rfl))), le_of_eq (congrArg (fun z : Int => pI z) (show e = (cC e D.2) by first | (rw [hD]; done) | (rw [hD]; rfl))), le_of_eq (congrArg (fun z : Int => pI z) (show b = (cC b D.2) by first | (rw [hD]; done) | (rw [hD]; rfl))), trivial⟩ ?_
         refine w_ret ?_
         refine q_then_ret ?_
         exact fin_names (nx1 := 1) (H1 := [(0, .obj [pI (cC m D.2), pI (cC e D.2), pI (cC b D.2)])]) [(0, 0)] (ret_cell tab_43 (by decide) rfl rfl (Nat.le_of_ble_eq_true rfl) rfl ret_nil) rfl (by decide) ⟨⟨_, _, rfl, rfl, rfl, rfl⟩, trivial⟩ (by decide) rfl ⟨rfl, rfl, rfl⟩
        ·
         have c6_ := c6
         try simp only [sB] at c6
         rw [cntDo_7 (m := m) (e := e) (b := b) (u := u) (q := r) (by omega) (by omega) (by omega) g2' he1 c6] at hD
         refine w_skip ?_
         refine q_then ?_
         refine w_seq ?_
         refine w_R ?_
         refine qo hnt rfl (s_fa_ptr tab_43 rfl rfl tab_29 (by decide) rfl ?_)
         refine qo hnt rfl (s_load_ptr1 tab_29 rfl rfl rfl rfl rfl ?_)
         refine qm hnt rfl rfl ?_
         refine qo hnt rfl (s_iaR0 (q := 0) (f := enc16) (l := r.vals) tab_29 rfl tab_30 rfl rfl (by omega) rfl rfl (by omega) ?_)
         refine qo hnt rfl (s_stM (y0 := e1) (z := cntGet m e b r.sub) (f := enc16) tab_30 rfl rfl rfl rfl rfl he1 (Nat.le_of_ble_eq_true rfl) rfl rfl (by simp) rfl ?_)
         refine r_set [(6, PV.ptr 2 0), (7, PV.ptr 5 0)] [(4, oB true 1 enc16 (r.vals.set 0 (cntGet m e b r.sub))), (0, .obj [pI m, pI e, pI b]), (5, .obj [pI r.fn, pI 0, pI 0, pI 0, pI r.sub, pNil, PV.ref 4 0 none, p16 0, p16 0, pNil]), (2, .obj [pI 0, pI 0, pI 0, pI 0, pI 0, pNil, pNil, p16 0, p16 0, pNil]), (1, .obj [pI r.fn, pI r.at_, pI r.count, pI r.wAt, pI r.sub, pS 1 false encBo r.bits, pS 1 false enc16 r.vals, p16 r.and_, p16 r.or_])] 6 ⟨rfl, rfl, trivial⟩ rfl rfl ?_
         refine r_end ?_
         refine q_then ?_
         refine w_seq ?_
         refine w_R ?_
         refine qo hnt rfl (s_load_ptr tab_43 rfl rfl rfl (Nat.le_of_ble_eq_true rfl) ?_)
         refine qo hnt rfl (s_store_ptr tab_43 rfl rfl rfl rfl rfl (Nat.le_of_ble_eq_true rfl) ?_)
         refine r_set [(6, PV.ptr 2 0)] [(2, .obj [pI r.fn, pI 0, pI 0, pI 0, pI r.sub, pNil, PV.ref 4 0 none, p16 0, p16 0, pNil]), (4, oB true 1 enc16 (r.vals.set 0 (cntGet m e b r.sub))), (0, .obj [pI m, pI e, pI b]), (5, .obj [pI r.fn, pI 0, pI 0, pI 0, pI r.sub, pNil, PV.ref 4 0 none, p16 0, p16 0, pNil]), (1, .obj [pI r.fn, pI r.at_, pI r.count, pI r.wAt, pI r.sub, pS 1 false encBo r.bits, pS 1 false enc16 r.vals, p16 r.and_, p16 r.or_])] 6 ⟨rfl, trivial⟩ rfl rfl ?_
         refine r_end ?_
         refine q_then ?_
         refine w_frzC (n := 2) (j := 6) rfl rfl rfl rfl ?_
         refine w_leO (n := 2) (ds := [pI r.fn, pI 0, pI 0, pI 0, pI r.sub, pNil, pS 1 false enc16 D.1.vals, p16 0, p16 0, pNil]) rfl ⟨le_refl _, le_refl _, le_refl _, le_refl _, le_refl _, le_refl _, le_of_eq (congrArg (fun z => pS 1 false enc16 z) (show (r.vals.set 0 (cntGet m e b r.sub)) = D.1.vals by first | (rw [hD]; done) | (rw [hD]; rfl))), le_refl _, le_refl _, le_refl _, trivial⟩ ?_
         refine w_leO (n := 2) (ds := [pI D.1.fn, pI D.1.code, pI D.1.at_, pI D.1.count, pI D.1.sub, pS 1 false encBo D.1.bits, pS 1 false enc16 D.1.vals, p16 D.1.and_, p16 D.1.or_, pS 1 false enc8 D.1.data]) rfl ⟨le_of_eq (congrArg (fun z : Int => pI z) (show r.fn = D.1.fn by first | (rw [hD]; done) | (rw [hD]; rfl))), le_of_eq (congrArg (fun z : Int => pI z) (show 0 = D.1.code by first | (rw [hD]; done) | (rw [hD]; rfl))), le_of_eq (congrArg (fun z : Int => pI z) (show 0 = D.1.at_ by first | (rw [hD]; done) | (rw [hD]; rfl))), le_of_eq (congrArg (fun z : Int => pI z) (show 0 = D.1.count by first | (rw [hD]; done) | (rw [hD]; rfl))), le_of_eq (congrArg (fun z : Int => pI z) (show r.sub = D.1.sub by first | (rw [hD]; done) | (rw [hD]; rfl))), le_tr (le_nilS 1 false) (le_of_eq (congrArg (fun z => pS 1 false encBo z) (show [] = D.1.bits by first | (rw [hD]; done) | (rw [hD]; rfl)))), le_refl _, le_of_eq (congrArg (fun z : UInt16 => p16 z) (show 0 = D.1.and_ by first | (rw [hD]; done) | (rw [hD]; rfl))), le_of_eq (congrArg (fun z : UInt16 => p16 z) (show 0 = D.1.or_ by first | (rw [hD]; done) | (rw [hD]; rfl))), le_tr (le_nilS 1 false) (le_of_eq (congrArg (fun z => pS 1 false enc8 z) (show [] = D.1.data by first | (rw [hD]; done) | (rw [hD]; rfl)))), trivial⟩ ?_
         refine w_leO (n := 0) (ds := [pI (cC m D.2), pI (cC e D.2), pI (cC b D.2)]) rfl ⟨le_of_eq (congrArg (fun z : Int => pI z) (show m = (cC m D.2) by first | (rw [hD]; done) | (rw [hD]; rfl))), le_of_eq (congrArg (fun z : Int => pI z) (show e = (cC e D.2) by first | (rw [hD]; done) | (rw [hD]; rfl))), le_of_eq (congrArg (fun z : Int => pI z) (show b = (cC b D.2) by first | (rw [hD]; done) | (rw [hD]; rfl))), trivial⟩ ?_
         refine w_ret ?_
         exact fin_names (nx1 := 1) (H1 := [(0, .obj [pI (cC m D.2), pI (cC e D.2), pI (cC b D.2)])]) [(0, 0)] (ret_cell tab_43 (by decide) rfl rfl (Nat.le_of_ble_eq_true rfl) rfl ret_nil) rfl (by decide) ⟨⟨_, _, rfl, rfl, rfl, rfl⟩, trivial⟩ (by decide) rfl ⟨rfl, rfl, rfl⟩
       ·
        have g2' := g2
        try simp only [sB] at g2'
        rw [cntDo_6 (m := m) (e := e) (b := b) (u := u) (q := r) (by omega) (by omega) (by omega) (.inl g2')] at hD
        refine rn hnt rfl rfl rfl g2 ?_
        refine rn hnt rfl rfl rfl g2 ?_
        refine rn hnt rfl rfl rfl g2 ?_
        refine rn hnt rfl rfl rfl g2 ?_
        refine qo hnt rfl (s_pick_t rfl g2 rfl ?_)
        refine r_end ?_
        refine q_then ?_
        refine w_if rfl (fun _ => ?_) (fun e => absurd e (by decide))
        refine w_seq ?_
        refine w_R ?_
        refine qo hnt rfl (s_fa_ptr tab_32 rfl rfl tab_3 (by decide) rfl ?_)
        refine qo hnt rfl (s_load_ptr1 tab_3 rfl rfl rfl rfl rfl ?_)
        refine qo hnt rfl (s_callF rfl rfl rfl (w_burgageref3_Refuse r.fn 3) rfl ?_)
        refine qo hnt rfl (s_store_ptr tab_43 rfl rfl rfl rfl rfl (Nat.le_of_ble_eq_true rfl) ?_)
        refine r_set [(6, PV.ptr 2 0)] [(2, .obj [pI ((refuseR r.fn 3).fn), pI ((refuseR r.fn 3).code), pI ((refuseR r.fn 3).at_), pI ((refuseR r.fn 3).count), pI ((refuseR r.fn 3).sub), pS 1 false encBo ((refuseR r.fn 3).bits), pS 1 false enc16 ((refuseR r.fn 3).vals), p16 ((refuseR r.fn 3).and_), p16 ((refuseR r.fn 3).or_), pS 1 false enc8 ((refuseR r.fn 3).data)]), (0, .obj [pI m, pI e, pI b]), (5, .obj [pI r.fn, pI 0, pI 0, pI 0, pI r.sub, pNil, PV.ref 4 0 none, p16 0, p16 0, pNil]), (4, oB true 1 enc16 r.vals), (1, .obj [pI r.fn, pI r.at_, pI r.count, pI r.wAt, pI r.sub, pS 1 false encBo r.bits, pS 1 false enc16 r.vals, p16 r.and_, p16 r.or_])] 6 ⟨rfl, trivial⟩ rfl rfl ?_
        refine r_end ?_
        refine q_then ?_
        refine w_leO (n := 2) (ds := [pI D.1.fn, pI D.1.code, pI D.1.at_, pI D.1.count, pI D.1.sub, pS 1 false encBo D.1.bits, pS 1 false enc16 D.1.vals, p16 D.1.and_, p16 D.1.or_, pS 1 false enc8 D.1.data]) rfl ⟨le_of_eq (congrArg (fun z : Int => pI z) (show ((refuseR r.fn 3).fn) = D.1.fn by first | (rw [hD]; done) | (rw [hD]; rfl))), le_of_eq (congrArg (fun z : Int => pI z) (show ((refuseR r.fn 3).code) = D.1.code by first | (rw [hD]; done) | (rw [hD]; rfl))), le_of_eq (congrArg (fun z : Int => pI z) (show ((refuseR r.fn 3).at_) = D.1.at_ by first | (rw [hD]; done) | (rw [hD]; rfl))), le_of_eq (congrArg (fun z : Int => pI z) (show ((refuseR r.fn 3).count) = D.1.count by first | (rw [hD]; done) | (rw [hD]; rfl))), le_of_eq (congrArg (fun z : Int => pI z) (show ((refuseR r.fn 3).sub) = D.1.sub by first | (rw [hD]; done) | (rw [hD]; rfl))), le_of_eq (congrArg (fun z => pS 1 false encBo z) (show ((refuseR r.fn 3).bits) = D.1.bits by first | (rw [hD]; done) | (rw [hD]; rfl))), le_of_eq (congrArg (fun z => pS 1 false enc16 z) (show ((refuseR r.fn 3).vals) = D.1.vals by first | (rw [hD]; done) | (rw [hD]; rfl))), le_of_eq (congrArg (fun z : UInt16 => p16 z) (show ((refuseR r.fn 3).and_) = D.1.and_ by first | (rw [hD]; done) | (rw [hD]; rfl))), le_of_eq (congrArg (fun z : UInt16 => p16 z) (show ((refuseR r.fn 3).or_) = D.1.or_ by first | (rw [hD]; done) | (rw [hD]; rfl))), le_of_eq (congrArg (fun z => pS 1 false enc8 z) (show ((refuseR r.fn 3).data) = D.1.data by first | (rw [hD]; done) | (rw [hD]; rfl))), trivial⟩ ?_
        refine w_leO (n := 0) (ds := [pI (cC m D.2), pI (cC e D.2), pI (cC b D.2)]) rfl ⟨le_of_eq (congrArg (fun z : Int => pI z) (show m = (cC m D.2) by first | (rw [hD]; done) | (rw [hD]; rfl))), le_of_eq (congrArg (fun z : Int => pI z) (show e = (cC e D.2) by first | (rw [hD]; done) | (rw [hD]; rfl))), le_of_eq (congrArg (fun z : Int => pI z) (show b = (cC b D.2) by first | (rw [hD]; done) | (rw [hD]; rfl))), trivial⟩ ?_
        refine w_ret ?_
        refine q_then_ret ?_
        exact fin_names (nx1 := 1) (H1 := [(0, .obj [pI (cC m D.2), pI (cC e D.2), pI (cC b D.2)])]) [(0, 0)] (ret_cell tab_43 (by decide) rfl rfl (Nat.le_of_ble_eq_true rfl) rfl ret_nil) rfl (by decide) ⟨⟨_, _, rfl, rfl, rfl, rfl⟩, trivial⟩ (by decide) rfl ⟨rfl, rfl, rfl⟩
 ·
  have g1' := g1
  try simp only [sB] at g1'
  refine rn hnt rfl rfl rfl g1 ?_
  refine rn hnt rfl rfl rfl g1 ?_
  refine qo hnt rfl (s_pick_f rfl g1 rfl ?_)
  refine r_end ?_
  refine q_then ?_
  refine w_if rfl (fun e => absurd e (by decide)) (fun _ => ?_)
  refine w_skip ?_
  refine q_then ?_
  refine w_seq ?_
  refine w_seq ?_
  refine w_R ?_
  refine qo hnt rfl (s_load_ptr tab_32 rfl rfl rfl (Nat.le_of_ble_eq_true rfl) ?_)
  refine qo hnt rfl (s_callF rfl rfl rfl (w_burgageref3_Right r (by first | omega | assumption | (simp; omega) | decide | (simp; done)) (by first | omega | assumption | (simp; omega) | decide | (simp; done))) rfl ?_)
  refine qo hnt rfl (s_neq rfl rfl ?_)
  refine r_end ?_
  refine q_then ?_
  refine w_if rfl (fun c7 => ?_) (fun c7 => ?_)
  ·
   have c7_ := c7
   try simp only [sB] at c7
   rw [cntDo_2 (m := m) (e := e) (b := b) (u := u) (q := r) (by omega) (by omega)] at hD
   refine w_seq ?_
   refine w_R ?_
   refine qo hnt rfl (s_fa_ptr tab_32 rfl rfl tab_3 (by decide) rfl ?_)
   refine qo hnt rfl (s_load_ptr1 tab_3 rfl rfl rfl rfl rfl ?_)
   refine qo hnt rfl (s_callF rfl rfl rfl (w_burgageref3_Refuse r.fn 3) rfl ?_)
   refine qo hnt rfl (s_store_ptr tab_43 rfl rfl rfl rfl rfl (Nat.le_of_ble_eq_true rfl) ?_)
   refine r_set [(6, PV.ptr 2 0)] [(2, .obj [pI ((refuseR r.fn 3).fn), pI ((refuseR r.fn 3).code), pI ((refuseR r.fn 3).at_), pI ((refuseR r.fn 3).count), pI ((refuseR r.fn 3).sub), pS 1 false encBo ((refuseR r.fn 3).bits), pS 1 false enc16 ((refuseR r.fn 3).vals), p16 ((refuseR r.fn 3).and_), p16 ((refuseR r.fn 3).or_), pS 1 false enc8 ((refuseR r.fn 3).data)]), (1, .obj [pI r.fn, pI r.at_, pI r.count, pI r.wAt, pI r.sub, pS 1 false encBo r.bits, pS 1 false enc16 r.vals, p16 r.and_, p16 r.or_]), (0, .obj [pI m, pI e, pI b])] 3 ⟨rfl, trivial⟩ rfl rfl ?_
   refine r_end ?_
   refine q_then ?_
   refine w_leO (n := 2) (ds := [pI D.1.fn, pI D.1.code, pI D.1.at_, pI D.1.count, pI D.1.sub, pS 1 false encBo D.1.bits, pS 1 false enc16 D.1.vals, p16 D.1.and_, p16 D.1.or_, pS 1 false enc8 D.1.data]) rfl ⟨le_of_eq (congrArg (fun z : Int => pI z) (show ((refuseR r.fn 3).fn) = D.1.fn by first | (rw [hD]; done) | (rw [hD]; rfl))), le_of_eq (congrArg (fun z : Int => pI z) (show ((refuseR r.fn 3).code) = D.1.code by first | (rw [hD]; done) | (rw [hD]; rfl))), le_of_eq (congrArg (fun z : Int => pI z) (show ((refuseR r.fn 3).at_) = D.1.at_ by first | (rw [hD]; done) | (rw [hD]; rfl))), le_of_eq (congrArg (fun z : Int => pI z) (show ((refuseR r.fn 3).count) = D.1.count by first | (rw [hD]; done) | (rw [hD]; rfl))), le_of_eq (congrArg (fun z : Int => pI z) (show ((refuseR r.fn 3).sub) = D.1.sub by first | (rw [hD]; done) | (rw [hD]; rfl))), le_of_eq (congrArg (fun z => pS 1 false encBo z) (show ((refuseR r.fn 3).bits) = D.1.bits by first | (rw [hD]; done) | (rw [hD]; rfl))), le_of_eq (congrArg (fun z => pS 1 false enc16 z) (show ((refuseR r.fn 3).vals) = D.1.vals by first | (rw [hD]; done) | (rw [hD]; rfl))), le_of_eq (congrArg (fun z : UInt16 => p16 z) (show ((refuseR r.fn 3).and_) = D.1.and_ by first | (rw [hD]; done) | (rw [hD]; rfl))), le_of_eq (congrArg (fun z : UInt16 => p16 z) (show ((refuseR r.fn 3).or_) = D.1.or_ by first | (rw [hD]; done) | (rw [hD]; rfl))), le_of_eq (congrArg (fun z => pS 1 false enc8 z) (show ((refuseR r.fn 3).data) = D.1.data by first | (rw [hD]; done) | (rw [hD]; rfl))), trivial⟩ ?_
   refine w_leO (n := 0) (ds := [pI (cC m D.2), pI (cC e D.2), pI (cC b D.2)]) rfl ⟨le_of_eq (congrArg (fun z : Int => pI z) (show m = (cC m D.2) by first | (rw [hD]; done) | (rw [hD]; rfl))), le_of_eq (congrArg (fun z : Int => pI z) (show e = (cC e D.2) by first | (rw [hD]; done) | (rw [hD]; rfl))), le_of_eq (congrArg (fun z : Int => pI z) (show b = (cC b D.2) by first | (rw [hD]; done) | (rw [hD]; rfl))), trivial⟩ ?_
   refine w_ret ?_
   refine q_then_ret ?_
   exact fin_names (nx1 := 1) (H1 := [(0, .obj [pI (cC m D.2), pI (cC e D.2), pI (cC b D.2)])]) [(0, 0)] (ret_cell tab_43 (by decide) rfl rfl (Nat.le_of_ble_eq_true rfl) rfl ret_nil) rfl (by decide) ⟨⟨_, _, rfl, rfl, rfl, rfl⟩, trivial⟩ (by decide) rfl ⟨rfl, rfl, rfl⟩
  ·
   have c7_ := c7
   try simp only [sB] at c7
   refine w_skip ?_
   refine q_then ?_
   refine w_seq ?_
   refine w_seq ?_
   refine w_R ?_
   refine qo hnt rfl (s_fa_ptr tab_32 rfl rfl tab_3 (by decide) rfl ?_)
   refine qo hnt rfl (s_load_ptr1 tab_3 rfl rfl rfl rfl rfl ?_)
   refine qo hnt rfl (s_eql rfl rfl ?_)
   refine r_end ?_
   refine q_then ?_
   refine w_if rfl (fun c8 => ?_) (fun c8 => ?_)
   ·
    have c8_ := c8
    try simp only [sB] at c8
    rw [cntDo_3 (m := m) (e := e) (b := b) (u := u) (q := r) (by omega) (by omega)] at hD
    refine w_seq ?_
    refine w_R ?_
    refine qo hnt rfl (s_fa_ptr tab_32 rfl rfl tab_3 (by decide) rfl ?_)
    refine qo hnt rfl (s_load_ptr1 tab_3 rfl rfl rfl rfl rfl ?_)
    refine qm hnt rfl rfl ?_
    refine qo hnt rfl (s_cv8 tab_3 tab_5 rfl rfl rfl ?_)
    refine qo hnt rfl (s_mkM (f := enc8) [u8I u, 255] tab_41 rfl tab_5 ⟨rfl, by decide⟩ (by decide) rfl rfl rfl rfl ?_)
    refine qo hnt rfl (s_build tab_43 rfl rfl (b_cons rfl tab_3 rfl rfl rfl (Nat.le_of_ble_eq_true rfl) (b_cons rfl tab_41 rfl rfl rfl (Nat.le_of_ble_eq_true rfl) (b_nil ?_))))
    refine qo hnt rfl (s_store_ptr tab_43 rfl rfl rfl rfl rfl (Nat.le_of_ble_eq_true rfl) ?_)
    refine r_set [(6, PV.ptr 2 0)] [(2, .obj [pI r.fn, pI 0, pI 0, pI 0, pI 0, pNil, pNil, p16 0, p16 0, PV.ref 3 0 none]), (3, oB true 1 enc8 [u8I u, 255]), (1, .obj [pI r.fn, pI r.at_, pI r.count, pI r.wAt, pI r.sub, pS 1 false encBo r.bits, pS 1 false enc16 r.vals, p16 r.and_, p16 r.or_]), (0, .obj [pI m, pI e, pI b])] 4 ⟨rfl, trivial⟩ rfl rfl ?_
    refine r_end ?_
    refine q_then ?_
    refine w_frzC (n := 2) (j := 9) rfl rfl rfl rfl ?_
    refine w_leO (n := 2) (ds := [pI r.fn, pI 0, pI 0, pI 0, pI 0, pNil, pNil, p16 0, p16 0, pS 1 false enc8 D.1.data]) rfl ⟨le_refl _, le_refl _, le_refl _, le_refl _, le_refl _, le_refl _, le_refl _, le_refl _, le_refl _, le_of_eq (congrArg (fun z => pS 1 false enc8 z) (show [u8I u, 255] = D.1.data by first | (rw [hD]; done) | (rw [hD]; rfl))), trivial⟩ ?_
    refine w_leO (n := 2) (ds := [pI D.1.fn, pI D.1.code, pI D.1.at_, pI D.1.count, pI D.1.sub, pS 1 false encBo D.1.bits, pS 1 false enc16 D.1.vals, p16 D.1.and_, p16 D.1.or_, pS 1 false enc8 D.1.data]) rfl ⟨le_of_eq (congrArg (fun z : Int => pI z) (show r.fn = D.1.fn by first | (rw [hD]; done) | (rw [hD]; rfl))), le_of_eq (congrArg (fun z : Int => pI z) (show 0 = D.1.code by first | (rw [hD]; done) | (rw [hD]; rfl))), le_of_eq (congrArg (fun z : Int => pI z) (show 0 = D.1.at_ by first | (rw [hD]; done) | (rw [hD]; rfl))), le_of_eq (congrArg (fun z : Int => pI z) (show 0 = D.1.count by first | (rw [hD]; done) | (rw [hD]; rfl))), le_of_eq (congrArg (fun z : Int => pI z) (show 0 = D.1.sub by first | (rw [hD]; done) | (rw [hD]; rfl))), le_tr (le_nilS 1 false) (le_of_eq (congrArg (fun z => pS 1 false encBo z) (show [] = D.1.bits by first | (rw [hD]; done) | (rw [hD]; rfl)))), le_tr (le_nilS 1 false) (le_of_eq (congrArg (fun z => pS 1 false enc16 z) (show [] = D.1.vals by first | (rw [hD]; done) | (rw [hD]; rfl)))), le_of_eq (congrArg (fun z : UInt16 => p16 z) (show 0 = D.1.and_ by first | (rw [hD]; done) | (rw [hD]; rfl))), le_of_eq (congrArg (fun z : UInt16 => p16 z) (show 0 = D.1.or_ by first | (rw [hD]; done) | (rw [hD]; rfl))), le_refl _, trivial⟩ ?_
    refine w_leO (n := 0) (ds := [pI (cC m D.2), pI (cC e D.2), pI (cC b D.2)]) rfl ⟨le_of_eq (congrArg (fun z : Int => pI z) (show m = (cC m D.2) by first | (rw [hD]; done) | (rw [hD]; rfl))), le_of_eq (congrArg (fun z : Int => pI z) (show e = (cC e D.2) by first | (rw [hD]; done) | (rw [hD]; rfl))), le_of_eq (congrArg (fun z : Int => pI z) (show b = (cC b D.2) by first | (rw [hD]; done) | (rw [hD]; rfl))), trivial⟩ ?_
    refine w_ret ?_
    refine q_then_ret ?_
    exact fin_names (nx1 := 1) (H1 := [(0, .obj [pI (cC m D.2), pI (cC e D.2), pI (cC b D.2)])]) [(0, 0)] (ret_cell tab_43 (by decide) rfl rfl (Nat.le_of_ble_eq_true rfl) rfl ret_nil) rfl (by decide) ⟨⟨_, _, rfl, rfl, rfl, rfl⟩, trivial⟩ (by decide) rfl ⟨rfl, rfl, rfl⟩
   ·
    have c8_ := c8
    try simp only [sB] at c8
    refine w_skip ?_
    refine q_then ?_
    refine w_seq ?_
    refine W_drawn tabOk mixed hnt [[], [0], [], [2], [], [], [5], [4, 5, 6], [0, 1, 2, 3, 4, 5, 6, 7], [], [0, 1, 2, 3, 4, 5, 6, 7, 8, 9]] (by kernel_rfl) ?_
    refine d_op ?_
    refine x_run0 [(4, PV.ptr 1 0)] [] rfl rfl rfl rfl (s_fa_ptr tab_32 rfl rfl tab_3 (by decide) rfl ⟨rfl, rfl, rfl⟩) ?_
    refine d_op ?_
    refine x_run [(36, PV.ptr 1 0)] [0] [(1, .obj [pI r.fn, pI r.at_, pI r.count, pI r.wAt, pI r.sub, pS 1 false encBo r.bits, pS 1 false enc16 r.vals, p16 r.and_, p16 r.or_])] [] [(1, .obj [pI r.fn, pI r.at_, pI r.count, pI r.wAt, pI r.sub, pS 1 false encBo r.bits, pS 1 false enc16 r.vals, p16 r.and_, p16 r.or_])] [] [(2, .obj [pI 0, pI 0, pI 0, pI 0, pI 0, pNil, pNil, p16 0, p16 0, pNil]), (1, .obj [pI r.fn, pI r.at_, pI r.count, pI r.wAt, pI r.sub, pS 1 false encBo r.bits, pS 1 false enc16 r.vals, p16 r.and_, p16 r.or_]), (0, .obj [pI m, pI e, pI b])] rfl rfl rfl rfl rfl rfl (s_load_ptr1 tab_3 rfl rfl rfl rfl rfl ⟨rfl, rfl, rfl⟩) rfl ⟨rfl, trivial⟩ rfl rfl ?_
    refine d_op ?_
    refine x_run0 [(4, PV.ptr 1 0)] [] rfl rfl rfl rfl (s_fa_ptr tab_32 rfl rfl tab_3 (by decide) rfl ⟨rfl, rfl, rfl⟩) ?_
    refine d_op ?_
    refine x_run [(38, PV.ptr 1 4)] [2] [(1, .obj [pI r.fn, pI r.at_, pI r.count, pI r.wAt, pI r.sub, pS 1 false encBo r.bits, pS 1 false enc16 r.vals, p16 r.and_, p16 r.or_])] [] [(1, .obj [pI r.fn, pI r.at_, pI r.count, pI r.wAt, pI r.sub, pS 1 false encBo r.bits, pS 1 false enc16 r.vals, p16 r.and_, p16 r.or_])] [] [(2, .obj [pI 0, pI 0, pI 0, pI 0, pI 0, pNil, pNil, p16 0, p16 0, pNil]), (1, .obj [pI r.fn, pI r.at_, pI r.count, pI r.wAt, pI r.sub, pS 1 false encBo r.bits, pS 1 false enc16 r.vals, p16 r.and_, p16 r.or_]), (0, .obj [pI m, pI e, pI b])] rfl rfl rfl rfl rfl rfl (s_load_ptr1 tab_3 rfl rfl rfl rfl rfl ⟨rfl, rfl, rfl⟩) rfl ⟨rfl, trivial⟩ rfl rfl ?_
    refine d_op ?_
    refine x_run [] [] [] [] [(3, oB true 1 enc16 ([] : List UInt16))] [(3, oB true 1 enc16 ([] : List UInt16))] [(3, oB true 1 enc16 ([] : List UInt16)), (2, .obj [pI 0, pI 0, pI 0, pI 0, pI 0, pNil, pNil, p16 0, p16 0, pNil]), (1, .obj [pI r.fn, pI r.at_, pI r.count, pI r.wAt, pI r.sub, pS 1 false encBo r.bits, pS 1 false enc16 r.vals, p16 r.and_, p16 r.or_]), (0, .obj [pI m, pI e, pI b])] rfl rfl rfl rfl rfl rfl (s_mkM (f := enc16) ([] : List UInt16) tab_29 rfl tab_30 ⟨rfl, by decide⟩ (by decide) rfl rfl rfl rfl ⟨rfl, rfl, rfl⟩) rfl trivial rfl rfl ?_
    refine d_op ?_
    refine x_run0 [(4, PV.ptr 1 0)] [] rfl rfl rfl rfl (s_fa_ptr tab_32 rfl rfl tab_29 (by decide) rfl ⟨rfl, rfl, rfl⟩) ?_
    refine d_op ?_
    refine x_run [(41, PV.ptr 1 6)] [5] [(1, .obj [pI r.fn, pI r.at_, pI r.count, pI r.wAt, pI r.sub, pS 1 false encBo r.bits, pS 1 false enc16 r.vals, p16 r.and_, p16 r.or_])] [] [(1, .obj [pI r.fn, pI r.at_, pI r.count, pI r.wAt, pI r.sub, pS 1 false encBo r.bits, pS 1 false enc16 r.vals, p16 r.and_, p16 r.or_])] [] [(3, oB true 1 enc16 ([] : List UInt16)), (2, .obj [pI 0, pI 0, pI 0, pI 0, pI 0, pNil, pNil, p16 0, p16 0, pNil]), (1, .obj [pI r.fn, pI r.at_, pI r.count, pI r.wAt, pI r.sub, pS 1 false encBo r.bits, pS 1 false enc16 r.vals, p16 r.and_, p16 r.or_]), (0, .obj [pI m, pI e, pI b])] rfl rfl rfl rfl rfl rfl (s_load_ptr1 tab_29 rfl rfl rfl rfl rfl ⟨rfl, rfl, rfl⟩) rfl ⟨rfl, trivial⟩ rfl rfl ?_
    refine d_op ?_
    refine x_run [(40, PV.ref 3 0 none), (42, pS 1 false enc16 r.vals)] [4, 5, 6] [] [(3, oB true 1 enc16 ([] : List UInt16))] [(4, oB true 1 enc16 r.vals)] [(4, oB true 1 enc16 r.vals)] [(4, oB true 1 enc16 r.vals), (2, .obj [pI 0, pI 0, pI 0, pI 0, pI 0, pNil, pNil, p16 0, p16 0, pNil]), (1, .obj [pI r.fn, pI r.at_, pI r.count, pI r.wAt, pI r.sub, pS 1 false encBo r.bits, pS 1 false enc16 r.vals, p16 r.and_, p16 r.or_]), (0, .obj [pI m, pI e, pI b])] rfl rfl rfl rfl rfl rfl (s_appR0 (f := enc16) (l := ([] : List UInt16)) (xs := r.vals) tab_29 rfl tab_30 ⟨rfl, by decide, by decide⟩ (srcM tab_29 rfl (hM_sl (f := enc16) rfl)) rfl rfl (by first | omega | (simp; omega)) ⟨rfl, rfl, rfl⟩) rfl trivial rfl rfl ?_
    refine d_op ?_
    refine x_run0 [(37, pI r.fn), (39, pI r.sub), (43, PV.ref 4 0 none)] [0, 1, 2, 3, 4, 5, 6, 7] rfl rfl rfl rfl (s_build tab_43 rfl rfl (b_cons rfl tab_3 rfl rfl rfl (Nat.le_of_ble_eq_true rfl) (b_cons rfl tab_3 rfl rfl rfl (Nat.le_of_ble_eq_true rfl) (b_cons rfl tab_29 rfl rfl rfl (Nat.le_of_ble_eq_true rfl) (b_nil ⟨rfl, rfl, rfl⟩))))) ?_
    refine d_op ?_
    refine x_run [] [] [] [] [(5, .obj [pI 0, pI 0, pI 0, pI 0, pI 0, pNil, pNil, p16 0, p16 0, pNil])] [(5, .obj [pI 0, pI 0, pI 0, pI 0, pI 0, pNil, pNil, p16 0, p16 0, pNil])] [(5, .obj [pI 0, pI 0, pI 0, pI 0, pI 0, pNil, pNil, p16 0, p16 0, pNil]), (4, oB true 1 enc16 r.vals), (2, .obj [pI 0, pI 0, pI 0, pI 0, pI 0, pNil, pNil, p16 0, p16 0, pNil]), (1, .obj [pI r.fn, pI r.at_, pI r.count, pI r.wAt, pI r.sub, pS 1 false encBo r.bits, pS 1 false enc16 r.vals, p16 r.and_, p16 r.or_]), (0, .obj [pI m, pI e, pI b])] rfl rfl rfl rfl rfl rfl (s_alloc tab_43 ⟨rfl, rfl, rfl⟩) rfl trivial rfl rfl ?_
    refine d_op ?_
    refine x_run [(7, PV.ptr 5 0), (44, PV.agg [pI r.fn, pI 0, pI 0, pI 0, pI r.sub, pNil, PV.ref 4 0 none, p16 0, p16 0, pNil])] [0, 1, 2, 3, 4, 5, 6, 7, 8, 9] [] [(5, .obj [pI 0, pI 0, pI 0, pI 0, pI 0, pNil, pNil, p16 0, p16 0, pNil])] [(5, .obj [pI r.fn, pI 0, pI 0, pI 0, pI r.sub, pNil, PV.ref 4 0 none, p16 0, p16 0, pNil])] [(5, .obj [pI r.fn, pI 0, pI 0, pI 0, pI r.sub, pNil, PV.ref 4 0 none, p16 0, p16 0, pNil])] [(5, .obj [pI r.fn, pI 0, pI 0, pI 0, pI r.sub, pNil, PV.ref 4 0 none, p16 0, p16 0, pNil]), (4, oB true 1 enc16 r.vals), (2, .obj [pI 0, pI 0, pI 0, pI 0, pI 0, pNil, pNil, p16 0, p16 0, pNil]), (1, .obj [pI r.fn, pI r.at_, pI r.count, pI r.wAt, pI r.sub, pS 1 false encBo r.bits, pS 1 false enc16 r.vals, p16 r.and_, p16 r.or_]), (0, .obj [pI m, pI e, pI b])] rfl rfl rfl rfl rfl rfl (s_store_ptr tab_43 rfl rfl rfl rfl rfl (Nat.le_of_ble_eq_true rfl) ⟨rfl, rfl, rfl⟩) rfl trivial rfl rfl ?_
    refine d_end ⟨by kernel_rfl, ?_⟩
    refine q_then ?_
    refine w_seq ?_
    refine w_seq ?_
    refine w_R ?_
    refine qo hnt rfl (s_fa_ptr tab_32 rfl rfl tab_3 (by decide) rfl ?_)
    refine qo hnt rfl (s_load_ptr1 tab_3 rfl rfl rfl rfl rfl ?_)
    refine qo hnt rfl (s_eql rfl rfl ?_)
    refine r_set [(0, PV.ptr 0 0), (4, PV.ptr 1 0), (6, PV.ptr 2 0), (7, PV.ptr 5 0), (47, pB (decide (r.sub = 0)))] [(5, .obj [pI r.fn, pI 0, pI 0, pI 0, pI r.sub, pNil, PV.ref 4 0 none, p16 0, p16 0, pNil]), (4, oB true 1 enc16 r.vals), (2, .obj [pI 0, pI 0, pI 0, pI 0, pI 0, pNil, pNil, p16 0, p16 0, pNil]), (1, .obj [pI r.fn, pI r.at_, pI r.count, pI r.wAt, pI r.sub, pS 1 false encBo r.bits, pS 1 false enc16 r.vals, p16 r.and_, p16 r.or_]), (0, .obj [pI m, pI e, pI b])] 6 ⟨rfl, rfl, rfl, rfl, rfl, trivial⟩ rfl rfl ?_
    refine r_end ?_
    refine q_then ?_
    refine w_if rfl (fun c9 => ?_) (fun c9 => ?_)
    ·
     have c9_ := c9
     try simp only [sB] at c9
     rw [cntDo_4 (m := m) (e := e) (b := b) (u := u) (q := r) (by omega) (by omega) (by omega)] at hD
     refine w_seq ?_
     refine w_R ?_
     refine qo hnt rfl (s_load_ptr tab_43 rfl rfl rfl (Nat.le_of_ble_eq_true rfl) ?_)
     refine qo hnt rfl (s_store_ptr tab_43 rfl rfl rfl rfl rfl (Nat.le_of_ble_eq_true rfl) ?_)
     refine r_set [(6, PV.ptr 2 0)] [(2, .obj [pI r.fn, pI 0, pI 0, pI 0, pI r.sub, pNil, PV.ref 4 0 none, p16 0, p16 0, pNil]), (5, .obj [pI r.fn, pI 0, pI 0, pI 0, pI r.sub, pNil, PV.ref 4 0 none, p16 0, p16 0, pNil]), (4, oB true 1 enc16 r.vals), (1, .obj [pI r.fn, pI r.at_, pI r.count, pI r.wAt, pI r.sub, pS 1 false encBo r.bits, pS 1 false enc16 r.vals, p16 r.and_, p16 r.or_]), (0, .obj [pI m, pI e, pI b])] 6 ⟨rfl, trivial⟩ rfl rfl ?_
     refine r_end ?_
     refine q_then ?_
     refine w_frzC (n := 2) (j := 6) rfl rfl rfl rfl ?_
     refine w_leO (n := 2) (ds := [pI r.fn, pI 0, pI 0, pI 0, pI r.sub, pNil, pS 1 false enc16 D.1.vals, p16 0, p16 0, pNil]) rfl ⟨le_refl _, le_refl _, le_refl _, le_refl _, le_refl _, le_refl _, le_of_eq (congrArg (fun z => pS 1 false enc16 z) (show r.vals = D.1.vals by first | (rw [hD]; done) | (rw [hD]; rfl))), le_refl _, le_refl _, le_refl _, trivial⟩ ?_
     refine w_leO (n := 2) (ds := [pI D.1.fn, pI D.1.code, pI D.1.at_, pI D.1.count, pI D.1.sub, pS 1 false encBo D.1.bits, pS 1 false enc16 D.1.vals, p16 D.1.and_, p16 D.1.or_, pS 1 false enc8 D.1.data]) rfl ⟨le_of_eq (congrArg (fun z : Int => pI z) (show r.fn = D.1.fn by first | (rw [hD]; done) | (rw [hD]; rfl))), le_of_eq (congrArg (fun z : Int => pI z) (show 0 = D.1.code by first | (rw [hD]; done) | (rw [hD]; rfl))), le_of_eq (congrArg (fun z : Int => pI z) (show 0 = D.1.at_ by first | (rw [hD]; done) | (rw [hD]; rfl))), le_of_eq (congrArg (fun z : Int => pI z) (show 0 = D.1.count by first | (rw [hD]; done) | (rw [hD]; rfl))), le_of_eq (congrArg (fun z : Int => pI z) (show r.sub = D.1.sub by first | (rw [hD]; done) | (rw [hD]; rfl))), le_tr (le_nilS 1 false) (le_of_eq (congrArg (fun z => pS 1 false encBo z) (show [] = D.1.bits by first | (rw [hD]; done) | (rw [hD]; rfl)))), le_refl _, le_of_eq (congrArg (fun z : UInt16 => p16 z) (show 0 = D.1.and_ by first | (rw [hD]; done) | (rw [hD]; rfl))), le_of_eq (congrArg (fun z : UInt16 => p16 z) (show 0 = D.1.or_ by first | (rw [hD]; done) | (rw [hD]; rfl))), le_tr (le_nilS 1 false) (le_of_eq (congrArg (fun z => pS 1 false enc8 z) (show [] = D.1.data by first | (rw [hD]; done) | (rw [hD]; rfl)))), trivial⟩ ?_
     refine w_leO (n := 0) (ds := [pI (cC m D.2), pI (cC e D.2), pI (cC b D.2)]) rfl ⟨le_of_eq (congrArg (fun z : Int => pI z) (show m = (cC m D.2) by first | (rw [hD]; done) | (rw [hD]; rfl))), le_of_eq (congrArg (fun z : Int => pI z) (show e = (cC e D.2) by first | (rw [hD]; done) | (rw [hD]; rfl))), le_of_eq (congrArg (fun z : Int => pI z) (show b = (cC b D.2) by first | (rw [hD]; done) | (rw [hD]; rfl))), trivial⟩ ?_
     refine w_ret ?_
     refine q_then_ret ?_
     exact fin_names (nx1 := 1) (H1 := [(0, .obj [pI (cC m D.2), pI (cC e D.2), pI (cC b D.2)])]) [(0, 0)] (ret_cell tab_43 (by decide) rfl rfl (Nat.le_of_ble_eq_true rfl) rfl ret_nil) rfl (by decide) ⟨⟨_, _, rfl, rfl, rfl, rfl⟩, trivial⟩ (by decide) rfl ⟨rfl, rfl, rfl⟩
    ·
     have c9_ := c9
     try simp only [sB] at c9
     refine w_skip ?_
     refine q_then ?_
     refine w_seq ?_
     refine w_seq ?_
     refine w_R ?_
     refine qo hnt rfl (s_fa_ptr tab_32 rfl rfl tab_3 (by decide) rfl ?_)
     refine qo hnt rfl (s_load_ptr1 tab_3 rfl rfl rfl rfl rfl ?_)
     refine qo hnt rfl (s_eql rfl rfl ?_)
     refine r_end ?_
     refine q_then ?_
     refine w_if rfl (fun c10 => ?_) (fun c10 => ?_)
     ·
      have c10_ := c10
      try simp only [sB] at c10
      rw [cntDo_5 (m := m) (e := e) (b := b) (u := u) (q := r) (by omega) (by omega) (by omega)] at hD
      refine w_seq ?_
      refine w_R ?_
      refine qm hnt rfl rfl ?_
      refine qm hnt rfl rfl ?_
      refine qm hnt rfl rfl ?_
      refine qo hnt rfl (s_nilCheck rfl trivial ?_)
      refine qo hnt rfl (s_fa_ptr tab_71 rfl rfl tab_3 (by decide) rfl ?_)
      refine qo hnt rfl (s_store_ptr tab_3 rfl rfl rfl rfl rfl (Nat.le_of_ble_eq_true rfl) ?_)
      refine qo hnt rfl (s_nilCheck rfl trivial ?_)
      refine qo hnt rfl (s_fa_ptr tab_71 rfl rfl tab_3 (by decide) rfl ?_)
      refine qo hnt rfl (s_store_ptr tab_3 rfl rfl rfl rfl rfl (Nat.le_of_ble_eq_true rfl) ?_)
      refine qo hnt rfl (s_nilCheck rfl trivial ?_)
      refine qo hnt rfl (s_fa_ptr tab_71 rfl rfl tab_3 (by decide) rfl ?_)
      refine qo hnt rfl (s_store_ptr tab_3 rfl rfl rfl rfl rfl (Nat.le_of_ble_eq_true rfl) ?_)
      refine r_set [(6, PV.ptr 2 0), (7, PV.ptr 5 0)] [(0, .obj [pI 0, pI 0, pI 0]), (5, .obj [pI r.fn, pI 0, pI 0, pI 0, pI r.sub, pNil, PV.ref 4 0 none, p16 0, p16 0, pNil]), (4, oB true 1 enc16 r.vals), (2, .obj [pI 0, pI 0, pI 0, pI 0, pI 0, pNil, pNil, p16 0, p16 0, pNil]), (1, .obj [pI r.fn, pI r.at_, pI r.count, pI r.wAt, pI r.sub, pS 1 false encBo r.bits, pS 1 false enc16 r.vals, p16 r.and_, p16 r.or_])] 6 ⟨rfl, rfl, trivial⟩ rfl rfl ?_
      refine r_end ?_
      refine q_then ?_
      refine w_seq ?_
      refine w_R ?_
      refine qo hnt rfl (s_load_ptr tab_43 rfl rfl rfl (Nat.le_of_ble_eq_true rfl) ?_)
      refine qo hnt rfl (s_store_ptr tab_43 rfl rfl rfl rfl rfl (Nat.le_of_ble_eq_true rfl) ?_)
      refine r_set [(6, PV.ptr 2 0)] [(2, .obj [pI r.fn, pI 0, pI 0, pI 0, pI r.sub, pNil, PV.ref 4 0 none, p16 0, p16 0, pNil]), (0, .obj [pI 0, pI 0, pI 0]), (5, .obj [pI r.fn, pI 0, pI 0, pI 0, pI r.sub, pNil, PV.ref 4 0 none, p16 0, p16 0, pNil]), (4, oB true 1 enc16 r.vals), (1, .obj [pI r.fn, pI r.at_, pI r.count, pI r.wAt, pI r.sub, pS 1 false encBo r.bits, pS 1 false enc16 r.vals, p16 r.and_, p16 r.or_])] 6 ⟨rfl, trivial⟩ rfl rfl ?_
      refine r_end ?_
      refine q_then ?_
      refine w_frzC (n := 2) (j := 6) rfl rfl rfl rfl ?_
      refine w_leO (n := 2) (ds := [pI r.fn, pI 0, pI 0, pI 0, pI r.sub, pNil, pS 1 false enc16 D.1.vals, p16 0, p16 0, pNil]) rfl ⟨le_refl _, le_refl _, le_refl _, le_refl _, le_refl _, le_refl _, le_of_eq (congrArg (fun z => pS 1 false enc16 z) (show r.vals = D.1.vals by first | (rw [hD]; done) | (rw [hD]; rfl))), le_refl _, le_refl _, le_refl _, trivial⟩ ?_
      refine w_leO (n := 2) (ds := [pI D.1.fn, pI D.1.code, pI D.1.at_, pI D.1.count, pI D.1.sub, pS 1 false encBo D.1.bits, pS 1 false enc16 D.1.vals, p16 D.1.and_, p16 D.1.or_, pS 1 false enc8 D.1.data]) rfl ⟨le_of_eq (congrArg (fun z : Int => pI z) (show r.fn = D.1.fn by first | (rw [hD]; done) | (rw [hD]; rfl))), le_of_eq (congrArg (fun z : Int => pI z) (show 0 = D.1.code by first | (rw [hD]; done) | (rw [hD]; rfl))), le_of_eq (congrArg (fun z : Int => pI z) (show 0 = D.1.at_ by first | (rw [hD]; done) | (rw [hD]; rfl))), le_of_eq (congrArg (fun z : Int => pI z) (show 0 = D.1.count by first | (rw [hD]; done) | (rw [hD]; rfl))), le_of_eq (congrArg (fun z : Int => pI z) (show r.sub = D.1.sub by first | (rw [hD]; done) | (rw [hD]; rfl))), le_tr (le_nilS 1 false) (le_of_eq (congrArg (fun z => pS 1 false encBo z) (show [] = D.1.bits by first | (rw [hD]; done) | (rw [hD]; rfl)))), le_refl _, le_of_eq (congrArg (fun z : UInt16 => p16 z) (show 0 = D.1.and_ by first | (rw [hD]; done) | (rw [hD]; rfl))), le_of_eq (congrArg (fun z : UInt16 => p16 z) (show 0 = D.1.or_ by first | (rw [hD]; done) | (rw [hD]; rfl))), le_tr (le_nilS 1 false) (le_of_eq (congrArg (fun z => pS 1 false enc8 z) (show [] = D.1.data by first | (rw [hD]; done) | (rw [hD]; rfl)))), trivial⟩ ?_
      refine w_leO (n := 0) (ds := [pI (cC m D.2), pI (cC e D.2), pI (cC b D.2)]) rfl ⟨le_of_eq (congrArg (fun z : Int => pI z) (show 0 = (cC m D.2) by first | (rw [hD]; done) | (rw [hD]; rfl))), le_of_eq (congrArg (fun z : Int => pI z) (show 0 = (cC e D.2) by first | (rw [hD]; done) | (rw [hD]; rfl))), le_of_eq (congrArg (fun z : Int => pI z) (show 0 = (cC b D.2) by first | (rw [hD]; done) | (rw [hD]; rfl))), trivial⟩ ?_
      refine w_ret ?_
      refine q_then_ret ?_
      exact fin_names (nx1 := 1) (H1 := [(0, .obj [pI (cC m D.2), pI (cC e D.2), pI (cC b D.2)])]) [(0, 0)] (ret_cell tab_43 (by decide) rfl rfl (Nat.le_of_ble_eq_true rfl) rfl ret_nil) rfl (by decide) ⟨⟨_, _, rfl, rfl, rfl, rfl⟩, trivial⟩ (by decide) rfl ⟨rfl, rfl, rfl⟩
     ·
      have c10_ := c10
      try simp only [sB] at c10
      have hv8 := vals_8 (q := r) (by omega) (by omega)
      refine w_skip ?_
      refine q_then ?_
      refine w_seq ?_
      refine w_R ?_
      refine qm hnt rfl rfl ?_
      refine qo hnt rfl (s_fa_ptr tab_32 rfl rfl tab_3 (by decide) rfl ?_)
      refine qo hnt rfl (s_load_ptr1 tab_3 rfl rfl rfl rfl rfl ?_)
      refine qo hnt rfl (s_callX (r2 := PV.tup [p16 (cntGet m e b r.sub), pB (cntOk r.sub)]) (nx1 := 6) (H2 := [(5, .obj [pI r.fn, pI 0, pI 0, pI 0, pI r.sub, pNil, PV.ref 4 0 none, p16 0, p16 0, pNil]), (4, oB true 1 enc16 r.vals), (2, .obj [pI 0, pI 0, pI 0, pI 0, pI 0, pNil, pNil, p16 0, p16 0, pNil]), (1, .obj [pI r.fn, pI r.at_, pI r.count, pI r.wAt, pI r.sub, pS 1 false encBo r.bits, pS 1 false enc16 r.vals, p16 r.and_, p16 r.or_]), (0, .obj [pI m, pI e, pI b])]) (H3 := [(0, .obj [pI m, pI e, pI b]), (5, .obj [pI r.fn, pI 0, pI 0, pI 0, pI r.sub, pNil, PV.ref 4 0 none, p16 0, p16 0, pNil]), (4, oB true 1 enc16 r.vals), (2, .obj [pI 0, pI 0, pI 0, pI 0, pI 0, pNil, pNil, p16 0, p16 0, pNil]), (1, .obj [pI r.fn, pI r.at_, pI r.count, pI r.wAt, pI r.sub, pS 1 false encBo r.bits, pS 1 false enc16 r.vals, p16 r.and_, p16 r.or_])]) [0] [.obj [pI m, pI e, pI b]] rfl rfl rfl (handed_of (by decide) ⟨rfl, trivial⟩) rfl rfl rfl rfl rfl rfl (w_burgageref17_Count_Get m e b r.sub) rfl (dist_of rfl) rfl rfl rfl rfl ?_)
      refine qm hnt rfl rfl ?_
      refine qo hnt rfl (s_extract rfl rfl ?_)
      refine qo hnt rfl (s_extract rfl rfl ?_)
      refine qa hnt rfl rfl ?_
      refine qa hnt rfl rfl ?_
      refine r_set [(4, PV.ptr 1 0), (6, PV.ptr 2 0), (7, PV.ptr 5 0), (8, p16 (cntGet m e b r.sub)), (9, pB (cntOk r.sub))] [(0, .obj [pI m, pI e, pI b]), (5, .obj [pI r.fn, pI 0, pI 0, pI 0, pI r.sub, pNil, PV.ref 4 0 none, p16 0, p16 0, pNil]), (4, oB true 1 enc16 r.vals), (2, .obj [pI 0, pI 0, pI 0, pI 0, pI 0, pNil, pNil, p16 0, p16 0, pNil]), (1, .obj [pI r.fn, pI r.at_, pI r.count, pI r.wAt, pI r.sub, pS 1 false encBo r.bits, pS 1 false enc16 r.vals, p16 r.and_, p16 r.or_])] 6 ⟨rfl, rfl, rfl, rfl, rfl, trivial⟩ rfl rfl ?_
      refine r_end ?_
      refine q_then ?_
      refine w_seq ?_
      refine w_seq ?_
      refine w_R ?_
      refine qm hnt rfl rfl ?_
      refine qo hnt rfl (s_not rfl ?_)
      refine qm hnt rfl rfl ?_
      refine r_if tabOk hnt rfl rfl rfl (fun g3 => ?_) (fun g3 => ?_)
      ·
       have g3' := g3
       try simp only [sB] at g3'
       refine qo hnt rfl (s_fa_ptr tab_32 rfl rfl tab_29 (by decide) rfl ?_)
       refine ry hnt rfl rfl rfl g3 ?_
       refine qo hnt rfl (s_load_ptr1 tab_29 rfl rfl rfl rfl rfl ?_)
       refine ry hnt rfl rfl rfl g3 ?_
       obtain ⟨e2, he2⟩ := get_of_lt r.vals (i := 0) (by omega)
       refine qo hnt rfl (s_iaM (q := 0) (b := e2) (f := enc16) tab_29 rfl tab_30 rfl rfl (by omega) rfl he2 ?_)
       refine ry hnt rfl rfl rfl g3 ?_
       refine qo hnt rfl (s_load_ro1 tab_30 rfl rfl rfl rfl ?_)
       refine ry hnt rfl rfl rfl g3 ?_
       refine qo hnt rfl (s_neq16 (a := e2) (b := 0) rfl rfl ?_)
       refine qo hnt rfl (s_pick_f rfl g3 rfl ?_)
       refine r_end ?_
       refine q_then ?_
       refine w_if rfl (fun c11 => ?_) (fun c11 => ?_)
       ·
        have c11_ := c11
        try simp only [sB] at c11
        rw [cntDo_6 (m := m) (e := e) (b := b) (u := u) (q := r) (by omega) (by omega) (by omega) (.inr (by rw [List.getD_eq_getElem?_getD, he2]; exact c11))] at hD
        refine w_seq ?_
        refine w_R ?_
        refine qo hnt rfl (s_fa_ptr tab_32 rfl rfl tab_3 (by decide) rfl ?_)
        refine qo hnt rfl (s_load_ptr1 tab_3 rfl rfl rfl rfl rfl ?_)
        refine qo hnt rfl (s_callF rfl rfl rfl (w_burgageref3_Refuse r.fn 3) rfl ?_)
        refine qo hnt rfl (s_store_ptr tab_43 rfl rfl rfl rfl rfl (Nat.le_of_ble_eq_true rfl) ?_)
        refine r_set [(6, PV.ptr 2 0)] [(2, .obj [pI ((refuseR r.fn 3).fn), pI ((refuseR r.fn 3).code), pI ((refuseR r.fn 3).at_), pI ((refuseR r.fn 3).count), pI ((refuseR r.fn 3).sub), pS 1 false encBo ((refuseR r.fn 3).bits), pS 1 false enc16 ((refuseR r.fn 3).vals), p16 ((refuseR r.fn 3).and_), p16 ((refuseR r.fn 3).or_), pS 1 false enc8 ((refuseR r.fn 3).data)]), (0, .obj [pI m, pI e, pI b]), (5, .obj [pI r.fn, pI 0, pI 0, pI 0, pI r.sub, pNil, PV.ref 4 0 none, p16 0, p16 0, pNil]), (4, oB true 1 enc16 r.vals), (1, .obj [pI r.fn, pI r.at_, pI r.count, pI r.wAt, pI r.sub, pS 1 false encBo r.bits, pS 1 false enc16 r.vals, p16 r.and_, p16 r.or_])] 6 ⟨rfl, trivial⟩ rfl rfl ?_
        refine r_end ?_
        refine q_then ?_
        refine w_leO (n := 2) (ds := [pI D.1.fn, pI D.1.code, pI D.1.at_, pI D.1.count, pI D.1.sub, pS 1 false encBo D.1.bits, pS 1 false enc16 D.1.vals, p16 D.1.and_, p16 D.1.or_, pS 1 false enc8 D.1.data]) rfl ⟨le_of_eq (congrArg (fun z : Int => pI z) (show ((refuseR r.fn 3).fn) = D.1.fn by first | (rw [hD]; done) | (rw [hD]; rfl))), le_of_eq (congrArg (fun z : Int => pI z) (show ((refuseR r.fn 3).code) = D.1.code by first | (rw [hD]; done) | (rw [hD]; rfl))), le_of_eq (congrArg (fun z : Int => pI z) (show ((refuseR r.fn 3).at_) = D.1.at_ by first | (rw [hD]; done) | (rw [hD]; rfl))), le_of_eq (congrArg (fun z : Int => pI z) (show ((refuseR r.fn 3).count) = D.1.count by first | (rw [hD]; done) | (rw [hD]; rfl))), le_of_eq (congrArg (fun z : Int => pI z) (show ((refuseR r.fn 3).sub) = D.1.sub by first | (rw [hD]; done) | (rw [hD]; rfl))), le_of_eq (congrArg (fun z => pS 1 false encBo z) (show ((refuseR r.fn 3).bits) = D.1.bits by first | (rw [hD]; done) | (rw [hD]; rfl))), le_of_eq (congrArg (fun z => pS 1 false enc16 z) (show ((refuseR r.fn 3).vals) = D.1.vals by first | (rw [hD]; done) | (rw [hD]; rfl))), le_of_eq (congrArg (fun z : UInt16 => p16 z) (show ((refuseR r.fn 3).and_) = D.1.and_ by first | (rw [hD]; done) | (rw [hD]; rfl))), le_of_eq (congrArg (fun z : UInt16 => p16 z) (show ((refuseR r.fn 3).or_) = D.1.or_ by first | (rw [hD]; done) | (rw [hD]; rfl))), le_of_eq (congrArg (fun z => pS 1 false enc8 z) (show ((refuseR r.fn 3).data) = D.1.data by first | (rw [hD]; done) | (rw [hD]; rfl))), trivial⟩ ?_
        refine w_leO (n := 0) (ds := [pI (cC m D.2), pI (cC e D.2), pI (cC b D.2)]) rfl ⟨le_of_eq (congrArg (fun z : Int => pI z) (show m = (cC m D.2) by first | (rw [hD]; done) | (rw [hD]; rfl))), le_of_eq (congrArg (fun z : Int => pI z) (show e = (cC e D.2) by first | (rw [hD]; done) | (rw [hD]; rfl))), le_of_eq (congrArg (fun z : Int => pI z) (show b = (cC b D.2) by first | (rw [hD]; done) | (rw [hD]; rfl))), trivial⟩ ?_
        refine w_ret ?_
        refine q_then_ret ?_
        exact fin_names (nx1 := 1) (H1 := [(0, .obj [pI (cC m D.2), pI (cC e D.2), pI (cC b D.2)])]) [(0, 0)] (ret_cell tab_43 (by decide) rfl rfl (Nat.le_of_ble_eq_true rfl) rfl ret_nil) rfl (by decide) ⟨⟨_, _, rfl, rfl, rfl, rfl⟩, trivial⟩ (by decide) rfl ⟨rfl, rfl, rfl⟩
       ·
        have c11_ := c11
        try simp only [sB] at c11
        rw [cntDo_7 (m := m) (e := e) (b := b) (u := u) (q := r) (by omega) (by omega) (by omega) g3' he2 c11] at hD
        refine w_skip ?_
        refine q_then ?_
        refine w_seq ?_
        refine w_R ?_
        refine qo hnt rfl (s_fa_ptr tab_43 rfl rfl tab_29 (by decide) rfl ?_)
        refine qo hnt rfl (s_load_ptr1 tab_29 rfl rfl rfl rfl rfl ?_)
        refine qm hnt rfl rfl ?_
        refine qo hnt rfl (s_iaR0 (q := 0) (f := enc16) (l := r.vals) tab_29 rfl tab_30 rfl rfl (by omega) rfl rfl (by omega) ?_)
        refine qo hnt rfl (s_stM (y0 := e2) (z := cntGet m e b r.sub) (f := enc16) tab_30 rfl rfl rfl rfl rfl he2 (Nat.le_of_ble_eq_true rfl) rfl rfl (by simp) rfl ?_)
        refine r_set [(6, PV.ptr 2 0), (7, PV.ptr 5 0)] [(4, oB true 1 enc16 (r.vals.set 0 (cntGet m e b r.sub))), (0, .obj [pI m, pI e, pI b]), (5, .obj [pI r.fn, pI 0, pI 0, pI 0, pI r.sub, pNil, PV.ref 4 0 none, p16 0, p16 0, pNil]), (2, .obj [pI 0, pI 0, pI 0, pI 0, pI 0, pNil, pNil, p16 0, p16 0, pNil]), (1, .obj [pI r.fn, pI r.at_, pI r.count, pI r.wAt, pI r.sub, pS 1 false encBo r.bits, pS 1 false enc16 r.vals, p16 r.and_, p16 r.or_])] 6 ⟨rfl, rfl, trivial⟩ rfl rfl ?_
        refine r_end ?_
        refine q_then ?_
        refine w_seq ?_
        refine w_R ?_
        refine qo hnt rfl (s_load_ptr tab_43 rfl rfl rfl (Nat.le_of_ble_eq_true rfl) ?_)
        refine qo hnt rfl (s_store_ptr tab_43 rfl rfl rfl rfl rfl (Nat.le_of_ble_eq_true rfl) ?_)
        refine r_set [(6, PV.ptr 2 0)] [(2, .obj [pI r.fn, pI 0, pI 0, pI 0, pI r.sub, pNil, PV.ref 4 0 none, p16 0, p16 0, pNil]), (4, oB true 1 enc16 (r.vals.set 0 (cntGet m e b r.sub))), (0, .obj [pI m, pI e, pI b]), (5, .obj [pI r.fn, pI 0, pI 0, pI 0, pI r.sub, pNil, PV.ref 4 0 none, p16 0, p16 0, pNil]), (1, .obj [pI r.fn, pI r.at_, pI r.count, pI r.wAt, pI r.sub, pS 1 false encBo r.bits, pS 1 false enc16 r.vals, p16 r.and_, p16 r.or_])] 6 ⟨rfl, trivial⟩ rfl rfl ?_
        refine r_end ?_
        refine q_then ?_
        refine w_frzC (n := 2) (j := 6) rfl rfl rfl rfl ?_
        refine w_leO (n := 2) (ds := [pI r.fn, pI 0, pI 0, pI 0, pI r.sub, pNil, pS 1 false enc16 D.1.vals, p16 0, p16 0, pNil]) rfl ⟨le_refl _, le_refl _, le_refl _, le_refl _, le_refl _, le_refl _, le_of_eq (congrArg (fun z => pS 1 false enc16 z) (show (r.vals.set 0 (cntGet m e b r.sub)) = D.1.vals by first | (rw [hD]; done) | (rw [hD]; rfl))), le_refl _, le_refl _, le_refl _, trivial⟩ ?_
        refine w_leO (n := 2) (ds := [pI D.1.fn, pI D.1.code, pI D.1.at_, pI D.1.count, pI D.1.sub, pS 1 false encBo D.1.bits, pS 1 false enc16 D.1.vals, p16 D.1.and_, p16 D.1.or_, pS 1 false enc8 D.1.data]) rfl ⟨le_of_eq (congrArg (fun z : Int => pI z) (show r.fn = D.1.fn by first | (rw [hD]; done) | (rw [hD]; rfl))), le_of_eq (congrArg (fun z : Int => pI z) (show 0 = D.1.code by first | (rw [hD]; done) | (rw [hD]; rfl))), le_of_eq (congrArg (fun z : Int => pI z) (show 0 = D.1.at_ by first | (rw [hD]; done) | (rw [hD]; rfl))), le_of_eq (congrArg (fun z : Int => pI z) (show 0 = D.1.count by first | (rw [hD]; done) | (rw [hD]; rfl))), le_of_eq (congrArg (fun z : Int => pI z) (show r.sub = D.1.sub by first | (rw [hD]; done) | (rw [hD]; rfl))), le_tr (le_nilS 1 false) (le_of_eq (congrArg (fun z => pS 1 false encBo z) (show [] = D.1.bits by first | (rw [hD]; done) | (rw [hD]; rfl)))), le_refl _, le_of_eq (congrArg (fun z : UInt16 => p16 z) (show 0 = D.1.and_ by first | (rw [hD]; done) | (rw [hD]; rfl))), le_of_eq (congrArg (fun z : UInt16 => p16 z) (show 0 = D.1.or_ by first | (rw [hD]; done) | (rw [hD]; rfl))), le_tr (le_nilS 1 false) (le_of_eq (congrArg (fun z => pS 1 false enc8 z) (show [] = D.1.data by first | (rw [hD]; done) | (rw [hD]; rfl)))), trivial⟩ ?_
        refine w_leO (n := 0) (ds := [pI (cC m D.2), pI (cC e D.2), pI (cC b D.2)]) rfl ⟨le_of_eq (congrArg (fun z : Int => pI z) (show m = (cC m D.2) by first | (rw [hD]; done) | (rw [hD]; rfl))), le_of_eq (congrArg (fun z : Int => pI z) (show e = (cC e D.2) by first | (rw [hD]; done) | (rw [hD]; rfl))), le_of_eq (congrArg (fun z : Int => pI z) (show b = (cC b D.2) by first | (rw [hD]; done) | (rw [hD]; rfl))), trivial⟩ ?_
        refine w_ret ?_
        exact fin_names (nx1 := 1) (H1 := [(0, .obj [pI (cC m D.2), pI (cC e D.2), pI (cC b D.2)])]) [(0, 0)] (ret_cell tab_43 (by decide) rfl rfl (Nat.le_of_ble_eq_true rfl) rfl ret_nil) rfl (by decide) ⟨⟨_, _, rfl, rfl, rfl, rfl⟩, trivial⟩ (by decide) rfl ⟨rfl, rfl, rfl⟩
      ·
       have g3' := g3
       try simp only [sB] at g3'
       rw [cntDo_6 (m := m) (e := e) (b := b) (u := u) (q := r) (by omega) (by omega) (by omega) (.inl g3')] at hD
       refine rn hnt rfl rfl rfl g3 ?_
       refine rn hnt rfl rfl rfl g3 ?_
       refine rn hnt rfl rfl rfl g3 ?_
       refine rn hnt rfl rfl rfl g3 ?_
       refine qo hnt rfl (s_pick_t rfl g3 rfl ?_)
       refine r_end ?_
       refine q_then ?_
       refine w_if rfl (fun _ => ?_) (fun e => absurd e (by decide))
       refine w_seq ?_
       refine w_R ?_
       refine qo hnt rfl (s_fa_ptr tab_32 rfl rfl tab_3 (by decide) rfl ?_)
       refine qo hnt rfl (s_load_ptr1 tab_3 rfl rfl rfl rfl rfl ?_)
       refine qo hnt rfl (s_callF rfl rfl rfl (w_burgageref3_Refuse r.fn 3) rfl ?_)
       refine qo hnt rfl (s_store_ptr tab_43 rfl rfl rfl rfl rfl (Nat.le_of_ble_eq_true rfl) ?_)
       refine r_set [(6, PV.ptr 2 0)] [(2, .obj [pI ((refuseR r.fn 3).fn), pI ((refuseR r.fn 3).code), pI ((refuseR r.fn 3).at_), pI ((refuseR r.fn 3).count), pI ((refuseR r.fn 3).sub), pS 1 false encBo ((refuseR r.fn 3).bits), pS 1 false enc16 ((refuseR r.fn 3).vals), p16 ((refuseR r.fn 3).and_), p16 ((refuseR r.fn 3).or_), pS 1 false enc8 ((refuseR r.fn 3).data)]), (0, .obj [pI m, pI e, pI b]), (5, .obj [pI r.fn, pI 0, pI 0, pI 0, pI r.sub, pNil, PV.ref 4 0 none, p16 0, p16 0, pNil]), (4, oB true 1 enc16 r.vals), (1, .obj [pI r.fn, pI r.at_, pI r.count, pI r.wAt, pI r.sub, pS 1 false encBo r.bits, pS 1 false enc16 r.vals, p16 r.and_, p16 r.or_])] 6 ⟨rfl, trivial⟩ rfl rfl ?_
       refine r_end ?_
       refine q_then ?_
       refine w_leO (n := 2) (ds := [pI D.1.fn, pI D.1.code, pI D.1.at_, pI D.1.count, pI D.1.sub, pS 1 false encBo D.1.bits, pS 1 false enc16 D.1.vals, p16 D.1.and_, p16 D.1.or_, pS 1 false enc8 D.1.data]) rfl ⟨le_of_eq (congrArg (fun z : Int => pI z) (show ((refuseR r.fn 3).fn) = D.1.fn by first | (rw [hD]; done) | (rw [hD]; rfl))), le_of_eq (congrArg (fun z : Int => pI z) (show ((refuseR r.fn 3).code) = D.1.code by first | (rw [hD]; done) | (rw [hD]; rfl))), le_of_eq (congrArg (fun z : Int => pI z) (show ((refuseR r.fn 3).at_) = D.1.at_ by first | (rw [hD]; done) | (rw [hD]; rfl))), le_of_eq (congrArg (fun z : Int => pI z) (show ((refuseR r.fn 3).count) = D.1.count by first | (rw [hD]; done) | (rw [hD]; rfl))), le_of_eq (congrArg (fun z : Int => pI z) (show ((refuseR r.fn 3).sub) = D.1.sub by first | (rw [hD]; done) | (rw [hD]; rfl))), le_of_eq (congrArg (fun z => pS 1 false encBo z) (show ((refuseR r.fn 3).bits) = D.1.bits by first | (rw [hD]; done) | (rw [hD]; rfl))), le_of_eq (congrArg (fun z => pS 1 false enc16 z) (show ((refuseR r.fn 3).vals) = D.1.vals by first | (rw [hD]; done) | (rw [hD]; rfl))), le_of_eq (congrArg (fun z : UInt16 => p16 z) (show ((refuseR r.fn 3).and_) = D.1.and_ by first | (rw [hD]; done) | (rw [hD]; rfl))), le_of_eq (congrArg (fun z : UInt16 => p16 z) (show ((refuseR r.fn 3).or_) = D.1.or_ by first | (rw [hD]; done) | (rw [hD]; rfl))), le_of_eq (congrArg (fun z => pS 1 false enc8 z) (show ((refuseR r.fn 3).data) = D.1.data by first | (rw [hD]; done) | (rw [hD]; rfl))), trivial⟩ ?_
       refine w_leO (n := 0) (ds := [pI (cC m D.2), pI (cC e D.2), pI (cC b D.2)]) rfl ⟨le_of_eq (congrArg (fun z : Int => pI z) (show m = (cC m D.2) by first | (rw [hD]; done) | (rw [hD]; rfl))), le_of_eq (congrArg (fun z : Int => pI z) (show e = (cC e D.2) by first | (rw [hD]; done) | (rw [hD]; rfl))), le_of_eq (congrArg (fun z : Int => pI z) (show b = (cC b D.2) by first | (rw [hD]; done) | (rw [hD]; rfl))), trivial⟩ ?_
       refine w_ret ?_
       refine q_then_ret ?_
       exact fin_names (nx1 := 1) (H1 := [(0, .obj [pI (cC m D.2), pI (cC e D.2), pI (cC b D.2)])]) [(0, 0)] (ret_cell tab_43 (by decide) rfl rfl (Nat.le_of_ble_eq_true rfl) rfl ret_nil) rfl (by decide) ⟨⟨_, _, rfl, rfl, rfl, rfl⟩, trivial⟩ (by decide) rfl ⟨rfl, rfl, rfl⟩

end Go.Proofs.Ytmcgjmpcfiefgaa
