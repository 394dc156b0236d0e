/- What the law PartNumbers needs, and no more: merged out of texts of this session by a program of it (wip/tools/prune.py). -/
import Derived.Test.YtlcmbkkimgdnmaaQPartNumbers2
set_option linter.unusedVariables false
set_option linter.unusedSimpArgs false
set_option maxRecDepth 10000
set_option maxHeartbeats 1000000
namespace Go.Proofs.Ytlcmbkkimgdnmaa
open Go Go.Proofs.Ytlcmbkkimgdnmaa.Pv
theorem w_pdu_within (n : Int)  :
    T Try.prog 64 [pI n] 0 [] (Ret (pB (wordOk n)) 0 []) := by
 refine t_fun tabOk (n := 9) (rs := [.tmp 2]) Try.func64 rfl rfl rfl rfl (Nat.le_of_ble_eq_true rfl) ?_
 intro c hnt hk
 refine w_seq (w_R (qa hnt rfl rfl (r_end (q_then (w_seq ?_)))))
 refine w_R (qm hnt rfl rfl (qo hnt rfl (s_geq rfl rfl ?_)))
 refine qm hnt rfl rfl (r_cut0 3 [(2,pB false),(8,pB ((decide (0 ≤ n)) && (decide (n ≤ 65535))))] ?_ ?_)
 ·refine r_if tabOk hnt rfl rfl rfl (fun g1 => ?_) (fun g1 => ?_)
  ·have g1' := g1
   try simp only [sB] at g1'
   refine qm hnt rfl rfl (ry hnt rfl rfl rfl g1 (qo hnt rfl (s_leq rfl rfl ?_)))
   refine qo hnt rfl (s_pick_t rfl g1 rfl ?_)
   refine r_eq (s := 8) (y := pB ((decide (0 ≤ n)) && (decide (n ≤ 65535)))) rfl (mix_at g1) ?_
   exact r_mid ⟨⟨rfl,rfl,trivial⟩,rfl,rfl⟩
  ·have g1' := g1
   try simp only [sB] at g1'
   refine rn hnt rfl rfl rfl g1 (qo hnt rfl (s_pick_f rfl g1 rfl ?_))
   refine r_eq (s := 8) (y := pB ((decide (0 ≤ n)) && (decide (n ≤ 65535)))) rfl (mix_af _ g1) ?_
   exact r_mid ⟨⟨rfl,rfl,trivial⟩,rfl,rfl⟩
 ·refine qa hnt rfl rfl (r_end (q_then (w_le (s := 2) (y := pB (wordOk n)) rfl (le_of_eq (congrArg pB (show ((decide (0 ≤ n)) && (decide (n ≤ 65535))) = (wordOk n) by unfold wordOk; apply Bool.eq_iff_iff.2; simp only [Bool.and_eq_true,Bool.or_eq_true,Bool.not_eq_true',decide_eq_true_eq,decide_eq_false_iff_not,u16z]; try omega))) (w_ret ?_))))
  exact fin_plain (ret_tmp rfl ret_nil) rfl rfl ⟨rfl,rfl,rfl⟩
theorem w_pdu_function (n : Int)  :
    T Try.prog 62 [pI n] 0 [] (Ret (pB (hasF n)) 0 []) := by
 refine t_fun tabOk (n := 17) (rs := [.tmp 2]) Try.func62 rfl rfl rfl rfl (Nat.le_of_ble_eq_true rfl) ?_
 intro c hnt hk
 refine w_seq (w_R (qa hnt rfl rfl (r_end (q_then (w_seq ?_)))))
 refine w_seq (w_R (qm hnt rfl rfl (r_end (q_then (w_block ?_)))))
 refine w_seq (w_seq (w_R (qo hnt rfl (s_eql rfl rfl ?_))))
 refine qa hnt rfl rfl (r_end (q_then (w_if rfl (fun c1 => ?_) (fun c1 => ?_))))
 ·have c1_ := c1
  try simp only [sB] at c1
  refine w_skip (q_then (w_if rfl (fun _ => ?_) (fun e => absurd (e.symm.trans c1_) (by decide))))
  refine w_seq (w_R (qa hnt rfl rfl (r_end (q_then (w_le (s := 2) (y := pB (hasF n)) rfl (le_of_eq (congrArg pB (show true = (hasF n) by exact (decide_eq_true (by omega)).symm))) ?_)))))
  refine w_ret (q_block_ret (q_then_ret ?_))
  exact fin_plain (ret_tmp rfl ret_nil) rfl rfl ⟨rfl,rfl,rfl⟩
 have c1_ := c1
 try simp only [sB] at c1
 refine w_seq (w_R (qo hnt rfl (s_eql rfl rfl ?_)))
 refine qa hnt rfl rfl (r_end (q_then (w_if rfl (fun c2 => ?_) (fun c2 => ?_))))
 ·have c2_ := c2
  try simp only [sB] at c2
  refine w_skip (q_then (w_if rfl (fun _ => ?_) (fun e => absurd (e.symm.trans c2_) (by decide))))
  refine w_seq (w_R (qa hnt rfl rfl (r_end (q_then (w_le (s := 2) (y := pB (hasF n)) rfl (le_of_eq (congrArg pB (show true = (hasF n) by exact (decide_eq_true (by omega)).symm))) ?_)))))
  refine w_ret (q_block_ret (q_then_ret ?_))
  exact fin_plain (ret_tmp rfl ret_nil) rfl rfl ⟨rfl,rfl,rfl⟩
 have c2_ := c2
 try simp only [sB] at c2
 refine w_seq (w_R (qo hnt rfl (s_eql rfl rfl ?_)))
 refine qa hnt rfl rfl (r_end (q_then (w_if rfl (fun c3 => ?_) (fun c3 => ?_))))
 ·have c3_ := c3
  try simp only [sB] at c3
  refine w_skip (q_then (w_if rfl (fun _ => ?_) (fun e => absurd (e.symm.trans c3_) (by decide))))
  refine w_seq (w_R (qa hnt rfl rfl (r_end (q_then (w_le (s := 2) (y := pB (hasF n)) rfl (le_of_eq (congrArg pB (show true = (hasF n) by exact (decide_eq_true (by omega)).symm))) ?_)))))
  refine w_ret (q_block_ret (q_then_ret ?_))
  exact fin_plain (ret_tmp rfl ret_nil) rfl rfl ⟨rfl,rfl,rfl⟩
 have c3_ := c3
 try simp only [sB] at c3
 refine w_seq (w_R (qo hnt rfl (s_eql rfl rfl ?_)))
 refine qa hnt rfl rfl (r_end (q_then (w_if rfl (fun c4 => ?_) (fun c4 => ?_))))
 ·have c4_ := c4
  try simp only [sB] at c4
  refine w_skip (q_then (w_if rfl (fun _ => ?_) (fun e => absurd (e.symm.trans c4_) (by decide))))
  refine w_seq (w_R (qa hnt rfl rfl (r_end (q_then (w_le (s := 2) (y := pB (hasF n)) rfl (le_of_eq (congrArg pB (show true = (hasF n) by exact (decide_eq_true (by omega)).symm))) ?_)))))
  refine w_ret (q_block_ret (q_then_ret ?_))
  exact fin_plain (ret_tmp rfl ret_nil) rfl rfl ⟨rfl,rfl,rfl⟩
 have c4_ := c4
 try simp only [sB] at c4
 refine w_seq (w_R (qo hnt rfl (s_eql rfl rfl ?_)))
 refine qa hnt rfl rfl (r_end (q_then (w_if rfl (fun c5 => ?_) (fun c5 => ?_))))
 ·have c5_ := c5
  try simp only [sB] at c5
  refine w_skip (q_then (w_if rfl (fun _ => ?_) (fun e => absurd (e.symm.trans c5_) (by decide))))
  refine w_seq (w_R (qa hnt rfl rfl (r_end (q_then (w_le (s := 2) (y := pB (hasF n)) rfl (le_of_eq (congrArg pB (show true = (hasF n) by exact (decide_eq_true (by omega)).symm))) ?_)))))
  refine w_ret (q_block_ret (q_then_ret ?_))
  exact fin_plain (ret_tmp rfl ret_nil) rfl rfl ⟨rfl,rfl,rfl⟩
 have c5_ := c5
 try simp only [sB] at c5
 refine w_seq (w_R (qo hnt rfl (s_eql rfl rfl ?_)))
 refine qa hnt rfl rfl (r_end (q_then (w_if rfl (fun c6 => ?_) (fun c6 => ?_))))
 ·have c6_ := c6
  try simp only [sB] at c6
  refine w_skip (q_then (w_if rfl (fun _ => ?_) (fun e => absurd (e.symm.trans c6_) (by decide))))
  refine w_seq (w_R (qa hnt rfl rfl (r_end (q_then (w_le (s := 2) (y := pB (hasF n)) rfl (le_of_eq (congrArg pB (show true = (hasF n) by exact (decide_eq_true (by omega)).symm))) ?_)))))
  refine w_ret (q_block_ret (q_then_ret ?_))
  exact fin_plain (ret_tmp rfl ret_nil) rfl rfl ⟨rfl,rfl,rfl⟩
 have c6_ := c6
 try simp only [sB] at c6
 refine w_seq (w_R (qo hnt rfl (s_eql rfl rfl ?_)))
 refine qa hnt rfl rfl (r_end (q_then (w_if rfl (fun c7 => ?_) (fun c7 => ?_))))
 ·have c7_ := c7
  try simp only [sB] at c7
  refine w_skip (q_then (w_if rfl (fun _ => ?_) (fun e => absurd (e.symm.trans c7_) (by decide))))
  refine w_seq (w_R (qa hnt rfl rfl (r_end (q_then (w_le (s := 2) (y := pB (hasF n)) rfl (le_of_eq (congrArg pB (show true = (hasF n) by exact (decide_eq_true (by omega)).symm))) ?_)))))
  refine w_ret (q_block_ret (q_then_ret ?_))
  exact fin_plain (ret_tmp rfl ret_nil) rfl rfl ⟨rfl,rfl,rfl⟩
 have c7_ := c7
 try simp only [sB] at c7
 refine w_seq (w_R (qo hnt rfl (s_eql rfl rfl ?_)))
 refine qa hnt rfl rfl (r_end (q_then (w_if rfl (fun c8 => ?_) (fun c8 => ?_))))
 ·have c8_ := c8
  try simp only [sB] at c8
  refine w_skip (q_then (w_if rfl (fun _ => ?_) (fun e => absurd (e.symm.trans c8_) (by decide))))
  refine w_seq (w_R (qa hnt rfl rfl (r_end (q_then (w_le (s := 2) (y := pB (hasF n)) rfl (le_of_eq (congrArg pB (show true = (hasF n) by exact (decide_eq_true (by omega)).symm))) ?_)))))
  refine w_ret (q_block_ret (q_then_ret ?_))
  exact fin_plain (ret_tmp rfl ret_nil) rfl rfl ⟨rfl,rfl,rfl⟩
 have c8_ := c8
 try simp only [sB] at c8
 refine w_seq (w_R (qo hnt rfl (s_eql rfl rfl ?_)))
 refine qa hnt rfl rfl (r_end (q_then (w_if rfl (fun c9 => ?_) (fun c9 => ?_))))
 ·have c9_ := c9
  try simp only [sB] at c9
  refine w_skip (q_then (w_if rfl (fun _ => ?_) (fun e => absurd (e.symm.trans c9_) (by decide))))
  refine w_seq (w_R (qa hnt rfl rfl (r_end (q_then (w_le (s := 2) (y := pB (hasF n)) rfl (le_of_eq (congrArg pB (show true = (hasF n) by exact (decide_eq_true (by omega)).symm))) ?_)))))
  refine w_ret (q_block_ret (q_then_ret ?_))
  exact fin_plain (ret_tmp rfl ret_nil) rfl rfl ⟨rfl,rfl,rfl⟩
 have c9_ := c9
 try simp only [sB] at c9
 refine w_seq (w_R (qo hnt rfl (s_eql rfl rfl ?_)))
 refine qa hnt rfl rfl (r_end (q_then (w_if rfl (fun c10 => ?_) (fun c10 => ?_))))
 ·have c10_ := c10
  try simp only [sB] at c10
  refine w_skip (q_then (w_if rfl (fun _ => ?_) (fun e => absurd (e.symm.trans c10_) (by decide))))
  refine w_seq (w_R (qa hnt rfl rfl (r_end (q_then (w_le (s := 2) (y := pB (hasF n)) rfl (le_of_eq (congrArg pB (show true = (hasF n) by exact (decide_eq_true (by omega)).symm))) ?_)))))
  refine w_ret (q_block_ret (q_then_ret ?_))
  exact fin_plain (ret_tmp rfl ret_nil) rfl rfl ⟨rfl,rfl,rfl⟩
 have c10_ := c10
 try simp only [sB] at c10
 refine w_seq (w_R (qo hnt rfl (s_eql rfl rfl ?_)))
 refine qa hnt rfl rfl (r_end (q_then (w_if rfl (fun c11 => ?_) (fun c11 => ?_))))
 ·have c11_ := c11
  try simp only [sB] at c11
  refine w_skip (q_then (w_if rfl (fun _ => ?_) (fun e => absurd (e.symm.trans c11_) (by decide))))
  refine w_seq (w_R (qa hnt rfl rfl (r_end (q_then (w_le (s := 2) (y := pB (hasF n)) rfl (le_of_eq (congrArg pB (show true = (hasF n) by exact (decide_eq_true (by omega)).symm))) ?_)))))
  refine w_ret (q_block_ret (q_then_ret ?_))
  exact fin_plain (ret_tmp rfl ret_nil) rfl rfl ⟨rfl,rfl,rfl⟩
 have c11_ := c11
 try simp only [sB] at c11
 refine w_R (qo hnt rfl (s_eql rfl rfl ?_))
 refine qa hnt rfl rfl (r_end (q_then (w_if rfl (fun c12 => ?_) (fun c12 => ?_))))
 ·try simp only [sB] at c12
  refine w_seq (w_R (qa hnt rfl rfl (r_end (q_then (w_le (s := 2) (y := pB (hasF n)) rfl (le_of_eq (congrArg pB (show true = (hasF n) by exact (decide_eq_true (by omega)).symm))) ?_)))))
  refine w_ret (q_block_ret (q_then_ret ?_))
  exact fin_plain (ret_tmp rfl ret_nil) rfl rfl ⟨rfl,rfl,rfl⟩
 try simp only [sB] at c12
 refine w_skip (q_block (q_then (w_seq (w_R (qa hnt rfl rfl ?_)))))
 refine r_end (q_then (w_le (s := 2) (y := pB (hasF n)) rfl (le_of_eq (congrArg pB (show false = (hasF n) by exact (decide_eq_false (by omega)).symm))) (w_ret ?_)))
 exact fin_plain (ret_tmp rfl ret_nil) rfl rfl ⟨rfl,rfl,rfl⟩
theorem w_pdu_reads (n : Int)  :
    T Try.prog 82 [pI n] 0 [] (Ret (pB (decide (1 ≤ n ∧ n ≤ 4))) 0 []) := by
 refine t_fun tabOk (n := 9) (rs := [.tmp 2]) Try.func82 rfl rfl rfl rfl (Nat.le_of_ble_eq_true rfl) ?_
 intro c hnt hk
 refine w_seq (w_R (qa hnt rfl rfl (r_end (q_then (w_seq ?_)))))
 refine w_R (qm hnt rfl rfl (qo hnt rfl (s_geq rfl rfl ?_)))
 refine qm hnt rfl rfl (r_cut0 3 [(2,pB false),(8,pB ((decide (1 ≤ n)) && (decide (n ≤ 4))))] ?_ ?_)
 ·refine r_if tabOk hnt rfl rfl rfl (fun g1 => ?_) (fun g1 => ?_)
  ·have g1' := g1
   try simp only [sB] at g1'
   refine qm hnt rfl rfl (ry hnt rfl rfl rfl g1 (qo hnt rfl (s_leq rfl rfl ?_)))
   refine qo hnt rfl (s_pick_t rfl g1 rfl ?_)
   refine r_eq (s := 8) (y := pB ((decide (1 ≤ n)) && (decide (n ≤ 4)))) rfl (mix_at g1) ?_
   exact r_mid ⟨⟨rfl,rfl,trivial⟩,rfl,rfl⟩
  ·have g1' := g1
   try simp only [sB] at g1'
   refine rn hnt rfl rfl rfl g1 (qo hnt rfl (s_pick_f rfl g1 rfl ?_))
   refine r_eq (s := 8) (y := pB ((decide (1 ≤ n)) && (decide (n ≤ 4)))) rfl (mix_af _ g1) ?_
   exact r_mid ⟨⟨rfl,rfl,trivial⟩,rfl,rfl⟩
 ·refine qa hnt rfl rfl (r_end (q_then (w_le (s := 2) (y := pB (decide (1 ≤ n ∧ n ≤ 4))) rfl (le_of_eq (congrArg pB (show ((decide (1 ≤ n)) && (decide (n ≤ 4))) = (decide (1 ≤ n ∧ n ≤ 4)) by apply Bool.eq_iff_iff.2; simp only [Bool.and_eq_true,Bool.or_eq_true,Bool.not_eq_true',decide_eq_true_eq,decide_eq_false_iff_not,u16z]; try omega))) (w_ret ?_))))
  exact fin_plain (ret_tmp rfl ret_nil) rfl rfl ⟨rfl,rfl,rfl⟩
theorem w_pdu_bits (r : TRequest) (hb : r.bits.length ≤ 140737488351232) (hv : r.vals.length ≤ 140737488351232) :
    T Try.prog 65 [PV.f (eRequest r)] 0 [] (Ret (pI (bitsN r)) 0 []) := by
 refine t_fun tabOk (n := 11) (rs := [.tmp 2]) Try.func65 rfl rfl rfl rfl (Nat.le_of_ble_eq_true rfl) ?_
 intro c hnt hk
 refine w_seq (w_R (qo hnt rfl (s_box rfl rfl ?_)))
 refine qa hnt rfl rfl (r_set [(1,PV.ptr 0 0)] [(0,.obj (cRequest r))] 1 ⟨rfl,trivial⟩ rfl rfl (r_end (q_then (w_seq (w_seq ?_)))))
 refine w_R (qo hnt rfl (s_fa_ptr tab_37 rfl rfl tab_3 (by decide) rfl ?_))
 refine qo hnt rfl (s_load_ptr1 tab_3 rfl rfl rfl rfl rfl ?_)
 refine r_end (q_then (w_block (w_seq (w_R (qo hnt rfl (s_eql rfl rfl ?_))))))
 refine qa hnt rfl rfl (r_end (q_then (w_if rfl (fun c1 => ?_) (fun c1 => ?_))))
 ·try simp only [sB] at c1
  refine w_seq (w_R (qa hnt rfl rfl (r_end (q_then (w_le (s := 2) (y := pI (bitsN r)) rfl (le_of_eq (congrArg pI (show 1 = (bitsN r) by unfold bitsN; (repeat' split) <;> rfl))) ?_)))))
  refine w_ret (q_block_ret (q_then_ret ?_))
  exact fin_plain (ret_tmp rfl ret_nil) rfl rfl ⟨rfl,rfl,rfl⟩
 try simp only [sB] at c1
 refine w_seq (w_R (qo hnt rfl (s_eql rfl rfl ?_)))
 refine qa hnt rfl rfl (r_end (q_then (w_if rfl (fun c2 => ?_) (fun c2 => ?_))))
 ·try simp only [sB] at c2
  refine w_seq (w_R (qo hnt rfl (s_fa_ptr tab_37 rfl rfl tab_3 (by decide) rfl ?_)))
  refine qo hnt rfl (s_load_ptr1 tab_3 rfl rfl rfl rfl rfl ?_)
  refine qa hnt rfl rfl (r_end (q_then (w_le (s := 2) (y := pI (bitsN r)) rfl (le_of_eq (congrArg pI (show r.count = (bitsN r) by unfold bitsN; (repeat' split) <;> first|rfl|omega))) (w_ret (q_block_ret ?_)))))
  refine q_then_ret ?_
  exact fin_plain (ret_tmp rfl ret_nil) rfl rfl ⟨rfl,rfl,rfl⟩
 try simp only [sB] at c2
 refine w_skip (q_block (q_then (w_seq (w_R (qa hnt rfl rfl ?_)))))
 refine r_end (q_then (w_le (s := 2) (y := pI (bitsN r)) rfl (le_of_eq (congrArg pI (show 0 = (bitsN r) by unfold bitsN; (repeat' split) <;> first|rfl|omega))) (w_ret ?_)))
 exact fin_plain (ret_tmp rfl ret_nil) rfl rfl ⟨rfl,rfl,rfl⟩
theorem w_pdu_vals (r : TRequest) (hb : r.bits.length ≤ 140737488351232) (hv : r.vals.length ≤ 140737488351232) :
    T Try.prog 66 [PV.f (eRequest r)] 0 [] (Ret (pI (valsN r)) 0 []) := by
 refine t_fun tabOk (n := 17) (rs := [.tmp 2]) Try.func66 rfl rfl rfl rfl (Nat.le_of_ble_eq_true rfl) ?_
 intro c hnt hk
 refine w_seq (w_R (qo hnt rfl (s_box rfl rfl ?_)))
 refine qa hnt rfl rfl (r_set [(1,PV.ptr 0 0)] [(0,.obj (cRequest r))] 1 ⟨rfl,trivial⟩ rfl rfl (r_end (q_then (w_seq (w_seq ?_)))))
 refine w_R (qo hnt rfl (s_fa_ptr tab_37 rfl rfl tab_3 (by decide) rfl ?_))
 refine qo hnt rfl (s_load_ptr1 tab_3 rfl rfl rfl rfl rfl ?_)
 refine r_end (q_then (w_block (w_seq (w_seq (w_R ?_)))))
 refine qo hnt rfl (s_eql rfl rfl ?_)
 refine qa hnt rfl rfl (r_end (q_then (w_if rfl (fun c1 => ?_) (fun c1 => ?_))))
 ·have c1_ := c1
  try simp only [sB] at c1
  refine w_skip (q_then (w_if rfl (fun _ => ?_) (fun e => absurd (e.symm.trans c1_) (by decide))))
  refine w_seq (w_R (qa hnt rfl rfl (r_end (q_then (w_le (s := 2) (y := pI (valsN r)) rfl (le_of_eq (congrArg pI (show 1 = (valsN r) by unfold valsN; (repeat' split) <;> first|rfl|omega))) ?_)))))
  refine w_ret (q_block_ret (q_then_ret ?_))
  exact fin_plain (ret_tmp rfl ret_nil) rfl rfl ⟨rfl,rfl,rfl⟩
 have c1_ := c1
 try simp only [sB] at c1
 refine w_R (qo hnt rfl (s_eql rfl rfl ?_))
 refine qa hnt rfl rfl (r_end (q_then (w_if rfl (fun c2 => ?_) (fun c2 => ?_))))
 ·try simp only [sB] at c2
  refine w_seq (w_R (qa hnt rfl rfl (r_end (q_then (w_le (s := 2) (y := pI (valsN r)) rfl (le_of_eq (congrArg pI (show 1 = (valsN r) by unfold valsN; (repeat' split) <;> first|rfl|omega))) ?_)))))
  refine w_ret (q_block_ret (q_then_ret ?_))
  exact fin_plain (ret_tmp rfl ret_nil) rfl rfl ⟨rfl,rfl,rfl⟩
 try simp only [sB] at c2
 refine w_seq (w_R (qo hnt rfl (s_eql rfl rfl ?_)))
 refine qa hnt rfl rfl (r_end (q_then (w_if rfl (fun c3 => ?_) (fun c3 => ?_))))
 ·try simp only [sB] at c3
  refine w_seq (w_R (qo hnt rfl (s_fa_ptr tab_37 rfl rfl tab_3 (by decide) rfl ?_)))
  refine qo hnt rfl (s_load_ptr1 tab_3 rfl rfl rfl rfl rfl ?_)
  refine qa hnt rfl rfl (r_end (q_then (w_le (s := 2) (y := pI (valsN r)) rfl (le_of_eq (congrArg pI (show r.count = (valsN r) by unfold valsN; (repeat' split) <;> first|rfl|omega))) (w_ret (q_block_ret ?_)))))
  refine q_then_ret ?_
  exact fin_plain (ret_tmp rfl ret_nil) rfl rfl ⟨rfl,rfl,rfl⟩
 try simp only [sB] at c3
 refine w_seq (w_R (qo hnt rfl (s_eql rfl rfl ?_)))
 refine qa hnt rfl rfl (r_end (q_then (w_if rfl (fun c4 => ?_) (fun c4 => ?_))))
 ·try simp only [sB] at c4
  refine w_seq (w_R (qo hnt rfl (s_fa_ptr tab_37 rfl rfl tab_34 (by decide) rfl ?_)))
  refine qo hnt rfl (s_load_ptr1 tab_34 rfl rfl rfl rfl rfl ?_)
  refine qo hnt rfl (s_lenM (l := r.vals) tab_34 rfl (hM_sl (f := enc16) rfl) ?_)
  refine qa hnt rfl rfl (r_end (q_then (w_le (s := 2) (y := pI (valsN r)) rfl (le_of_eq (congrArg pI (show ((r.vals.length : Nat) : Int) = (valsN r) by unfold valsN; (repeat' split) <;> first|rfl|omega))) (w_ret (q_block_ret ?_)))))
  refine q_then_ret ?_
  exact fin_plain (ret_tmp rfl ret_nil) rfl rfl ⟨rfl,rfl,rfl⟩
 try simp only [sB] at c4
 refine w_skip (q_block (q_then (w_seq (w_R (qa hnt rfl rfl ?_)))))
 refine r_end (q_then (w_le (s := 2) (y := pI (valsN r)) rfl (le_of_eq (congrArg pI (show 0 = (valsN r) by unfold valsN; (repeat' split) <;> first|rfl|omega))) (w_ret ?_)))
 exact fin_plain (ret_tmp rfl ret_nil) rfl rfl ⟨rfl,rfl,rfl⟩
theorem w_pdu_fields (r : TRequest) (hb : r.bits.length ≤ 140737488351232) (hv : r.vals.length ≤ 140737488351232) :
    T Try.prog 63 [PV.f (eRequest r)] 0 [] (Ret (pB (fieldsP r)) 0 []) := by
 refine t_fun tabOk (n := 82) (rs := [.tmp 2]) Try.func63 rfl rfl rfl rfl (Nat.le_of_ble_eq_true rfl) ?_
 intro c hnt hk
 refine w_seq (w_R (qo hnt rfl (s_box rfl rfl ?_)))
 refine qa hnt rfl rfl (r_set [(1,PV.ptr 0 0)] [(0,.obj (cRequest r))] 1 ⟨rfl,trivial⟩ rfl rfl (r_end (q_then (w_seq (w_R ?_)))))
 refine qo hnt rfl (s_fa_ptr tab_37 rfl rfl tab_3 (by decide) rfl ?_)
 refine qo hnt rfl (s_load_ptr1 tab_3 rfl rfl rfl rfl rfl ?_)
 refine qo hnt rfl (s_neq rfl rfl ?_)
 refine qm hnt rfl rfl (r_cut0 4 [(1,PV.ptr 0 0),(13,pB ((!decide (r.fn = 8)) && (!decide (r.fn = 17))))] ?_ ?_)
 ·refine r_if tabOk hnt rfl rfl rfl (fun g1 => ?_) (fun g1 => ?_)
  ·have g1' := g1
   try simp only [sB] at g1'
   refine qo hnt rfl (s_fa_ptr tab_37 rfl rfl tab_3 (by decide) rfl ?_)
   refine ry hnt rfl rfl rfl g1 (qo hnt rfl (s_load_ptr1 tab_3 rfl rfl rfl rfl rfl ?_))
   refine ry hnt rfl rfl rfl g1 (qo hnt rfl (s_neq rfl rfl ?_))
   refine qo hnt rfl (s_pick_t rfl g1 rfl ?_)
   refine r_eq (s := 13) (y := pB ((!decide (r.fn = 8)) && (!decide (r.fn = 17)))) rfl (mix_at g1) ?_
   exact r_mid ⟨⟨rfl,rfl,trivial⟩,rfl,rfl⟩
  ·have g1' := g1
   try simp only [sB] at g1'
   refine rn hnt rfl rfl rfl g1 (rn hnt rfl rfl rfl g1 (qo hnt rfl (s_pick_f rfl g1 rfl ?_)))
   refine r_eq (s := 13) (y := pB ((!decide (r.fn = 8)) && (!decide (r.fn = 17)))) rfl (mix_af _ g1) ?_
   exact r_mid ⟨⟨rfl,rfl,trivial⟩,rfl,rfl⟩
 ·refine qa hnt rfl rfl (r_end (q_then (w_seq (w_R (qo hnt rfl (s_fa_ptr tab_37 rfl rfl tab_3 (by decide) rfl ?_))))))
  refine qo hnt rfl (s_load_ptr1 tab_3 rfl rfl rfl rfl rfl ?_)
  refine qo hnt rfl (s_callF rfl rfl rfl (w_pdu_reads r.fn) rfl ?_)
  refine qm hnt rfl rfl (r_cut0 4 [(1,PV.ptr 0 0),(3,pB ((!decide (r.fn = 8)) && (!decide (r.fn = 17)))),(21,pB ((decide (1 ≤ r.fn ∧ r.fn ≤ 4)) || (decide (r.fn = 15))))] ?_ ?_)
  ·refine r_if tabOk hnt rfl rfl rfl (fun g2 => ?_) (fun g2 => ?_)
   ·have g2' := g2
    try simp only [sB] at g2'
    refine qo hnt rfl (s_fa_ptr tab_37 rfl rfl tab_3 (by decide) rfl ?_)
    refine ry hnt rfl rfl rfl g2 (qo hnt rfl (s_load_ptr1 tab_3 rfl rfl rfl rfl rfl ?_))
    refine ry hnt rfl rfl rfl g2 (qo hnt rfl (s_eql rfl rfl ?_))
    refine qo hnt rfl (s_pick_f rfl g2 rfl ?_)
    refine r_eq (s := 21) (y := pB ((decide (1 ≤ r.fn ∧ r.fn ≤ 4)) || (decide (r.fn = 15)))) rfl (mix_of g2) ?_
    exact r_mid ⟨⟨rfl,rfl,rfl,trivial⟩,rfl,rfl⟩
   ·have g2' := g2
    try simp only [sB] at g2'
    refine rn hnt rfl rfl rfl g2 (rn hnt rfl rfl rfl g2 (qo hnt rfl (s_pick_t rfl g2 rfl ?_)))
    refine r_eq (s := 21) (y := pB ((decide (1 ≤ r.fn ∧ r.fn ≤ 4)) || (decide (r.fn = 15)))) rfl (mix_ot _ g2) ?_
    exact r_mid ⟨⟨rfl,rfl,rfl,trivial⟩,rfl,rfl⟩
  ·refine qm hnt rfl rfl (r_cut0 4 [(1,PV.ptr 0 0),(3,pB ((!decide (r.fn = 8)) && (!decide (r.fn = 17)))),(26,pB (((decide (1 ≤ r.fn ∧ r.fn ≤ 4)) || (decide (r.fn = 15))) || (decide (r.fn = 16))))] ?_ ?_)
   ·refine r_if tabOk hnt rfl rfl rfl (fun g3 => ?_) (fun g3 => ?_)
    ·have g3' := g3
     try simp only [sB] at g3'
     refine qo hnt rfl (s_fa_ptr tab_37 rfl rfl tab_3 (by decide) rfl ?_)
     refine ry hnt rfl rfl rfl g3 (qo hnt rfl (s_load_ptr1 tab_3 rfl rfl rfl rfl rfl ?_))
     refine ry hnt rfl rfl rfl g3 (qo hnt rfl (s_eql rfl rfl ?_))
     refine qo hnt rfl (s_pick_f rfl g3 rfl ?_)
     refine r_eq (s := 26) (y := pB (((decide (1 ≤ r.fn ∧ r.fn ≤ 4)) || (decide (r.fn = 15))) || (decide (r.fn = 16)))) rfl (mix_of g3) ?_
     exact r_mid ⟨⟨rfl,rfl,rfl,trivial⟩,rfl,rfl⟩
    ·have g3' := g3
     try simp only [sB] at g3'
     refine rn hnt rfl rfl rfl g3 (rn hnt rfl rfl rfl g3 (qo hnt rfl (s_pick_t rfl g3 rfl ?_)))
     refine r_eq (s := 26) (y := pB (((decide (1 ≤ r.fn ∧ r.fn ≤ 4)) || (decide (r.fn = 15))) || (decide (r.fn = 16)))) rfl (mix_ot _ g3) ?_
     exact r_mid ⟨⟨rfl,rfl,rfl,trivial⟩,rfl,rfl⟩
   ·refine qm hnt rfl rfl (r_cut0 4 [(1,PV.ptr 0 0),(3,pB ((!decide (r.fn = 8)) && (!decide (r.fn = 17)))),(31,pB ((((decide (1 ≤ r.fn ∧ r.fn ≤ 4)) || (decide (r.fn = 15))) || (decide (r.fn = 16))) || (decide (r.fn = 23))))] ?_ ?_)
    ·refine r_if tabOk hnt rfl rfl rfl (fun g4 => ?_) (fun g4 => ?_)
     ·have g4' := g4
      try simp only [sB] at g4'
      refine qo hnt rfl (s_fa_ptr tab_37 rfl rfl tab_3 (by decide) rfl ?_)
      refine ry hnt rfl rfl rfl g4 (qo hnt rfl (s_load_ptr1 tab_3 rfl rfl rfl rfl rfl ?_))
      refine ry hnt rfl rfl rfl g4 (qo hnt rfl (s_eql rfl rfl ?_))
      refine qo hnt rfl (s_pick_f rfl g4 rfl ?_)
      refine r_eq (s := 31) (y := pB ((((decide (1 ≤ r.fn ∧ r.fn ≤ 4)) || (decide (r.fn = 15))) || (decide (r.fn = 16))) || (decide (r.fn = 23)))) rfl (mix_of g4) ?_
      exact r_mid ⟨⟨rfl,rfl,rfl,trivial⟩,rfl,rfl⟩
     ·have g4' := g4
      try simp only [sB] at g4'
      refine rn hnt rfl rfl rfl g4 (rn hnt rfl rfl rfl g4 (qo hnt rfl (s_pick_t rfl g4 rfl ?_)))
      refine r_eq (s := 31) (y := pB ((((decide (1 ≤ r.fn ∧ r.fn ≤ 4)) || (decide (r.fn = 15))) || (decide (r.fn = 16))) || (decide (r.fn = 23)))) rfl (mix_ot _ g4) ?_
      exact r_mid ⟨⟨rfl,rfl,rfl,trivial⟩,rfl,rfl⟩
    ·refine qa hnt rfl rfl (r_end (q_then (w_seq (w_R (qo hnt rfl (s_fa_ptr tab_37 rfl rfl tab_3 (by decide) rfl ?_))))))
     refine qo hnt rfl (s_load_ptr1 tab_3 rfl rfl rfl rfl rfl ?_)
     refine qo hnt rfl (s_eql rfl rfl ?_)
     refine qa hnt rfl rfl (r_end (q_then (w_seq (w_R (qm hnt rfl rfl ?_)))))
     refine qm hnt rfl rfl (r_cut0 4 [(1,PV.ptr 0 0),(4,pB ((((decide (1 ≤ r.fn ∧ r.fn ≤ 4)) || (decide (r.fn = 15))) || (decide (r.fn = 16))) || (decide (r.fn = 23)))),(5,pB (decide (r.fn = 22))),(40,pB (((!decide (r.fn = 8)) && (!decide (r.fn = 17))) || (decide (r.at_ = 0))))] ?_ ?_)
     ·refine r_if tabOk hnt rfl rfl rfl (fun g5 => ?_) (fun g5 => ?_)
      ·have g5' := g5
       try simp only [sB] at g5'
       refine qo hnt rfl (s_fa_ptr tab_37 rfl rfl tab_3 (by decide) rfl ?_)
       refine ry hnt rfl rfl rfl g5 (qo hnt rfl (s_load_ptr1 tab_3 rfl rfl rfl rfl rfl ?_))
       refine ry hnt rfl rfl rfl g5 (qo hnt rfl (s_eql rfl rfl ?_))
       refine qo hnt rfl (s_pick_f rfl g5 rfl ?_)
       refine r_eq (s := 40) (y := pB (((!decide (r.fn = 8)) && (!decide (r.fn = 17))) || (decide (r.at_ = 0)))) rfl (mix_of g5) ?_
       exact r_mid ⟨⟨rfl,rfl,rfl,rfl,trivial⟩,rfl,rfl⟩
      ·have g5' := g5
       try simp only [sB] at g5'
       refine rn hnt rfl rfl rfl g5 (rn hnt rfl rfl rfl g5 (qo hnt rfl (s_pick_t rfl g5 rfl ?_)))
       refine r_eq (s := 40) (y := pB (((!decide (r.fn = 8)) && (!decide (r.fn = 17))) || (decide (r.at_ = 0)))) rfl (mix_ot _ g5) ?_
       exact r_mid ⟨⟨rfl,rfl,rfl,rfl,trivial⟩,rfl,rfl⟩
     ·refine qm hnt rfl rfl (r_cut0 7 [(1,PV.ptr 0 0),(5,pB (decide (r.fn = 22))),(48,pB ((((!decide (r.fn = 8)) && (!decide (r.fn = 17))) || (decide (r.at_ = 0))) && (((((decide (1 ≤ r.fn ∧ r.fn ≤ 4)) || (decide (r.fn = 15))) || (decide (r.fn = 16))) || (decide (r.fn = 23))) || (decide (r.count = 0)))))] ?_ ?_)
      ·refine r_if tabOk hnt rfl rfl rfl (fun g6 => ?_) (fun g6 => ?_)
       ·have g6' := g6
        try simp only [sB] at g6'
        refine qm hnt rfl rfl (ry hnt rfl rfl rfl g6 (qm hnt rfl rfl (r_cut0 4 [(1,PV.ptr 0 0),(5,pB (decide (r.fn = 22))),(41,pB (((!decide (r.fn = 8)) && (!decide (r.fn = 17))) || (decide (r.at_ = 0)))),(47,pB (((((decide (1 ≤ r.fn ∧ r.fn ≤ 4)) || (decide (r.fn = 15))) || (decide (r.fn = 16))) || (decide (r.fn = 23))) || (decide (r.count = 0))))] ?_ ?_)))
        ·refine r_if tabOk hnt rfl rfl rfl (fun g7 => ?_) (fun g7 => ?_)
         ·have g7' := g7
          try simp only [sB] at g7'
          refine qo hnt rfl (s_fa_ptr tab_37 rfl rfl tab_3 (by decide) rfl ?_)
          refine ry hnt rfl rfl rfl g7 (qo hnt rfl (s_load_ptr1 tab_3 rfl rfl rfl rfl rfl ?_))
          refine ry hnt rfl rfl rfl g7 (qo hnt rfl (s_eql rfl rfl ?_))
          refine ry hnt rfl rfl rfl g6 (qo hnt rfl (s_pick_f rfl g7 rfl ?_))
          refine r_eq (s := 47) (y := pB (((((decide (1 ≤ r.fn ∧ r.fn ≤ 4)) || (decide (r.fn = 15))) || (decide (r.fn = 16))) || (decide (r.fn = 23))) || (decide (r.count = 0)))) rfl (mix_of g7) ?_
          exact r_mid ⟨⟨rfl,rfl,rfl,rfl,trivial⟩,rfl,rfl⟩
         ·have g7' := g7
          try simp only [sB] at g7'
          refine rn hnt rfl rfl rfl g7 (rn hnt rfl rfl rfl g7 (ry hnt rfl rfl rfl g6 (qo hnt rfl (s_pick_t rfl g7 rfl ?_))))
          refine r_eq (s := 47) (y := pB (((((decide (1 ≤ r.fn ∧ r.fn ≤ 4)) || (decide (r.fn = 15))) || (decide (r.fn = 16))) || (decide (r.fn = 23))) || (decide (r.count = 0)))) rfl (mix_ot _ g7) ?_
          exact r_mid ⟨⟨rfl,rfl,rfl,rfl,trivial⟩,rfl,rfl⟩
        ·refine qo hnt rfl (s_pick_t rfl g6 rfl ?_)
         refine r_eq (s := 48) (y := pB ((((!decide (r.fn = 8)) && (!decide (r.fn = 17))) || (decide (r.at_ = 0))) && (((((decide (1 ≤ r.fn ∧ r.fn ≤ 4)) || (decide (r.fn = 15))) || (decide (r.fn = 16))) || (decide (r.fn = 23))) || (decide (r.count = 0))))) rfl (mix_at g6) ?_
         exact r_mid ⟨⟨rfl,rfl,rfl,trivial⟩,rfl,rfl⟩
       ·have g6' := g6
        try simp only [sB] at g6'
        refine rn hnt rfl rfl rfl g6 (ru hnt rfl rfl rfl (ru hnt rfl rfl rfl (ru hnt rfl rfl rfl (rn hnt rfl rfl rfl g6 (qo hnt rfl (s_pick_f rfl g6 rfl ?_))))))
        refine r_eq (s := 48) (y := pB ((((!decide (r.fn = 8)) && (!decide (r.fn = 17))) || (decide (r.at_ = 0))) && (((((decide (1 ≤ r.fn ∧ r.fn ≤ 4)) || (decide (r.fn = 15))) || (decide (r.fn = 16))) || (decide (r.fn = 23))) || (decide (r.count = 0))))) rfl (mix_af _ g6) ?_
        exact r_mid ⟨⟨rfl,rfl,rfl,trivial⟩,rfl,rfl⟩
      ·refine qm hnt rfl rfl (r_cut0 9 [(1,PV.ptr 0 0),(5,pB (decide (r.fn = 22))),(58,pB (((((!decide (r.fn = 8)) && (!decide (r.fn = 17))) || (decide (r.at_ = 0))) && (((((decide (1 ≤ r.fn ∧ r.fn ≤ 4)) || (decide (r.fn = 15))) || (decide (r.fn = 16))) || (decide (r.fn = 23))) || (decide (r.count = 0)))) && ((decide (r.fn = 23)) || (decide (r.wAt = 0)))))] ?_ ?_)
       ·refine r_if tabOk hnt rfl rfl rfl (fun g8 => ?_) (fun g8 => ?_)
        ·have g8' := g8
         try simp only [sB] at g8'
         refine qo hnt rfl (s_fa_ptr tab_37 rfl rfl tab_3 (by decide) rfl ?_)
         refine ry hnt rfl rfl rfl g8 (qo hnt rfl (s_load_ptr1 tab_3 rfl rfl rfl rfl rfl ?_))
         refine ry hnt rfl rfl rfl g8 (qo hnt rfl (s_eql rfl rfl ?_))
         refine ry hnt rfl rfl rfl g8 (qm hnt rfl rfl (r_cut0 4 [(1,PV.ptr 0 0),(5,pB (decide (r.fn = 22))),(49,pB ((((!decide (r.fn = 8)) && (!decide (r.fn = 17))) || (decide (r.at_ = 0))) && (((((decide (1 ≤ r.fn ∧ r.fn ≤ 4)) || (decide (r.fn = 15))) || (decide (r.fn = 16))) || (decide (r.fn = 23))) || (decide (r.count = 0))))),(57,pB ((decide (r.fn = 23)) || (decide (r.wAt = 0))))] ?_ ?_))
         ·refine r_if tabOk hnt rfl rfl rfl (fun g9 => ?_) (fun g9 => ?_)
          ·have g9' := g9
           try simp only [sB] at g9'
           refine qo hnt rfl (s_fa_ptr tab_37 rfl rfl tab_3 (by decide) rfl ?_)
           refine ry hnt rfl rfl rfl g9 (qo hnt rfl (s_load_ptr1 tab_3 rfl rfl rfl rfl rfl ?_))
           refine ry hnt rfl rfl rfl g9 (qo hnt rfl (s_eql rfl rfl ?_))
           refine ry hnt rfl rfl rfl g8 (qo hnt rfl (s_pick_f rfl g9 rfl ?_))
           refine r_eq (s := 57) (y := pB ((decide (r.fn = 23)) || (decide (r.wAt = 0)))) rfl (mix_of g9) ?_
           exact r_mid ⟨⟨rfl,rfl,rfl,rfl,trivial⟩,rfl,rfl⟩
          ·have g9' := g9
           try simp only [sB] at g9'
           refine rn hnt rfl rfl rfl g9 (rn hnt rfl rfl rfl g9 (ry hnt rfl rfl rfl g8 (qo hnt rfl (s_pick_t rfl g9 rfl ?_))))
           refine r_eq (s := 57) (y := pB ((decide (r.fn = 23)) || (decide (r.wAt = 0)))) rfl (mix_ot _ g9) ?_
           exact r_mid ⟨⟨rfl,rfl,rfl,rfl,trivial⟩,rfl,rfl⟩
         ·refine qo hnt rfl (s_pick_t rfl g8 rfl ?_)
          refine r_eq (s := 58) (y := pB (((((!decide (r.fn = 8)) && (!decide (r.fn = 17))) || (decide (r.at_ = 0))) && (((((decide (1 ≤ r.fn ∧ r.fn ≤ 4)) || (decide (r.fn = 15))) || (decide (r.fn = 16))) || (decide (r.fn = 23))) || (decide (r.count = 0)))) && ((decide (r.fn = 23)) || (decide (r.wAt = 0))))) rfl (mix_at g8) ?_
          exact r_mid ⟨⟨rfl,rfl,rfl,trivial⟩,rfl,rfl⟩
        ·have g8' := g8
         try simp only [sB] at g8'
         refine rn hnt rfl rfl rfl g8 (rn hnt rfl rfl rfl g8 (rn hnt rfl rfl rfl g8 (ru hnt rfl rfl rfl (ru hnt rfl rfl rfl (ru hnt rfl rfl rfl ?_)))))
         refine rn hnt rfl rfl rfl g8 (qo hnt rfl (s_pick_f rfl g8 rfl ?_))
         refine r_eq (s := 58) (y := pB (((((!decide (r.fn = 8)) && (!decide (r.fn = 17))) || (decide (r.at_ = 0))) && (((((decide (1 ≤ r.fn ∧ r.fn ≤ 4)) || (decide (r.fn = 15))) || (decide (r.fn = 16))) || (decide (r.fn = 23))) || (decide (r.count = 0)))) && ((decide (r.fn = 23)) || (decide (r.wAt = 0))))) rfl (mix_af _ g8) ?_
         exact r_mid ⟨⟨rfl,rfl,rfl,trivial⟩,rfl,rfl⟩
       ·refine qm hnt rfl rfl (r_cut0 9 [(1,PV.ptr 0 0),(5,pB (decide (r.fn = 22))),(68,pB ((((((!decide (r.fn = 8)) && (!decide (r.fn = 17))) || (decide (r.at_ = 0))) && (((((decide (1 ≤ r.fn ∧ r.fn ≤ 4)) || (decide (r.fn = 15))) || (decide (r.fn = 16))) || (decide (r.fn = 23))) || (decide (r.count = 0)))) && ((decide (r.fn = 23)) || (decide (r.wAt = 0)))) && ((decide (r.fn = 8)) || (decide (r.sub = 0)))))] ?_ ?_)
        ·refine r_if tabOk hnt rfl rfl rfl (fun g10 => ?_) (fun g10 => ?_)
         ·have g10' := g10
          try simp only [sB] at g10'
          refine qo hnt rfl (s_fa_ptr tab_37 rfl rfl tab_3 (by decide) rfl ?_)
          refine ry hnt rfl rfl rfl g10 (qo hnt rfl (s_load_ptr1 tab_3 rfl rfl rfl rfl rfl ?_))
          refine ry hnt rfl rfl rfl g10 (qo hnt rfl (s_eql rfl rfl ?_))
          refine ry hnt rfl rfl rfl g10 (qm hnt rfl rfl (r_cut0 4 [(1,PV.ptr 0 0),(5,pB (decide (r.fn = 22))),(59,pB (((((!decide (r.fn = 8)) && (!decide (r.fn = 17))) || (decide (r.at_ = 0))) && (((((decide (1 ≤ r.fn ∧ r.fn ≤ 4)) || (decide (r.fn = 15))) || (decide (r.fn = 16))) || (decide (r.fn = 23))) || (decide (r.count = 0)))) && ((decide (r.fn = 23)) || (decide (r.wAt = 0))))),(67,pB ((decide (r.fn = 8)) || (decide (r.sub = 0))))] ?_ ?_))
          ·refine r_if tabOk hnt rfl rfl rfl (fun g11 => ?_) (fun g11 => ?_)
           ·have g11' := g11
            try simp only [sB] at g11'
            refine qo hnt rfl (s_fa_ptr tab_37 rfl rfl tab_3 (by decide) rfl ?_)
            refine ry hnt rfl rfl rfl g11 (qo hnt rfl (s_load_ptr1 tab_3 rfl rfl rfl rfl rfl ?_))
            refine ry hnt rfl rfl rfl g11 (qo hnt rfl (s_eql rfl rfl ?_))
            refine ry hnt rfl rfl rfl g10 (qo hnt rfl (s_pick_f rfl g11 rfl ?_))
            refine r_eq (s := 67) (y := pB ((decide (r.fn = 8)) || (decide (r.sub = 0)))) rfl (mix_of g11) ?_
            exact r_mid ⟨⟨rfl,rfl,rfl,rfl,trivial⟩,rfl,rfl⟩
           ·have g11' := g11
            try simp only [sB] at g11'
            refine rn hnt rfl rfl rfl g11 (rn hnt rfl rfl rfl g11 (ry hnt rfl rfl rfl g10 (qo hnt rfl (s_pick_t rfl g11 rfl ?_))))
            refine r_eq (s := 67) (y := pB ((decide (r.fn = 8)) || (decide (r.sub = 0)))) rfl (mix_ot _ g11) ?_
            exact r_mid ⟨⟨rfl,rfl,rfl,rfl,trivial⟩,rfl,rfl⟩
          ·refine qo hnt rfl (s_pick_t rfl g10 rfl ?_)
           refine r_eq (s := 68) (y := pB ((((((!decide (r.fn = 8)) && (!decide (r.fn = 17))) || (decide (r.at_ = 0))) && (((((decide (1 ≤ r.fn ∧ r.fn ≤ 4)) || (decide (r.fn = 15))) || (decide (r.fn = 16))) || (decide (r.fn = 23))) || (decide (r.count = 0)))) && ((decide (r.fn = 23)) || (decide (r.wAt = 0)))) && ((decide (r.fn = 8)) || (decide (r.sub = 0))))) rfl (mix_at g10) ?_
           exact r_mid ⟨⟨rfl,rfl,rfl,trivial⟩,rfl,rfl⟩
         ·have g10' := g10
          try simp only [sB] at g10'
          refine rn hnt rfl rfl rfl g10 (rn hnt rfl rfl rfl g10 (rn hnt rfl rfl rfl g10 (ru hnt rfl rfl rfl (ru hnt rfl rfl rfl (ru hnt rfl rfl rfl ?_)))))
          refine rn hnt rfl rfl rfl g10 (qo hnt rfl (s_pick_f rfl g10 rfl ?_))
          refine r_eq (s := 68) (y := pB ((((((!decide (r.fn = 8)) && (!decide (r.fn = 17))) || (decide (r.at_ = 0))) && (((((decide (1 ≤ r.fn ∧ r.fn ≤ 4)) || (decide (r.fn = 15))) || (decide (r.fn = 16))) || (decide (r.fn = 23))) || (decide (r.count = 0)))) && ((decide (r.fn = 23)) || (decide (r.wAt = 0)))) && ((decide (r.fn = 8)) || (decide (r.sub = 0))))) rfl (mix_af _ g10) ?_
          exact r_mid ⟨⟨rfl,rfl,rfl,trivial⟩,rfl,rfl⟩
        ·refine qm hnt rfl rfl (r_cut0 12 [(81,pB (((((((!decide (r.fn = 8)) && (!decide (r.fn = 17))) || (decide (r.at_ = 0))) && (((((decide (1 ≤ r.fn ∧ r.fn ≤ 4)) || (decide (r.fn = 15))) || (decide (r.fn = 16))) || (decide (r.fn = 23))) || (decide (r.count = 0)))) && ((decide (r.fn = 23)) || (decide (r.wAt = 0)))) && ((decide (r.fn = 8)) || (decide (r.sub = 0)))) && ((decide (r.fn = 22)) || ((decide (r.and_ = 0)) && (decide (r.or_ = 0))))))] ?_ ?_)
         ·refine r_if tabOk hnt rfl rfl rfl (fun g12 => ?_) (fun g12 => ?_)
          ·have g12' := g12
           try simp only [sB] at g12'
           refine qm hnt rfl rfl (ry hnt rfl rfl rfl g12 (qm hnt rfl rfl (r_cut0 9 [(69,pB ((((((!decide (r.fn = 8)) && (!decide (r.fn = 17))) || (decide (r.at_ = 0))) && (((((decide (1 ≤ r.fn ∧ r.fn ≤ 4)) || (decide (r.fn = 15))) || (decide (r.fn = 16))) || (decide (r.fn = 23))) || (decide (r.count = 0)))) && ((decide (r.fn = 23)) || (decide (r.wAt = 0)))) && ((decide (r.fn = 8)) || (decide (r.sub = 0))))),(80,pB ((decide (r.fn = 22)) || ((decide (r.and_ = 0)) && (decide (r.or_ = 0)))))] ?_ ?_)))
           ·refine r_if tabOk hnt rfl rfl rfl (fun g13 => ?_) (fun g13 => ?_)
            ·have g13' := g13
             try simp only [sB] at g13'
             refine qo hnt rfl (s_fa_ptr tab_37 rfl rfl tab_35 (by decide) rfl ?_)
             refine ry hnt rfl rfl rfl g13 (qo hnt rfl (s_load_ptr1 tab_35 rfl rfl rfl rfl rfl ?_))
             refine ry hnt rfl rfl rfl g13 (qo hnt rfl (s_eql16 (a := r.and_) (b := 0) rfl rfl ?_))
             refine ry hnt rfl rfl rfl g13 (qm hnt rfl rfl (r_cut0 4 [(69,pB ((((((!decide (r.fn = 8)) && (!decide (r.fn = 17))) || (decide (r.at_ = 0))) && (((((decide (1 ≤ r.fn ∧ r.fn ≤ 4)) || (decide (r.fn = 15))) || (decide (r.fn = 16))) || (decide (r.fn = 23))) || (decide (r.count = 0)))) && ((decide (r.fn = 23)) || (decide (r.wAt = 0)))) && ((decide (r.fn = 8)) || (decide (r.sub = 0))))),(71,pB (decide (r.fn = 22))),(79,pB ((decide (r.and_ = 0)) && (decide (r.or_ = 0))))] ?_ ?_))
             ·refine r_if tabOk hnt rfl rfl rfl (fun g14 => ?_) (fun g14 => ?_)
              ·have g14' := g14
               try simp only [sB] at g14'
               refine qo hnt rfl (s_fa_ptr tab_37 rfl rfl tab_35 (by decide) rfl ?_)
               refine ry hnt rfl rfl rfl g14 (qo hnt rfl (s_load_ptr1 tab_35 rfl rfl rfl rfl rfl ?_))
               refine ry hnt rfl rfl rfl g14 (qo hnt rfl (s_eql16 (a := r.or_) (b := 0) rfl rfl ?_))
               refine ry hnt rfl rfl rfl g13 (qo hnt rfl (s_pick_t rfl g14 rfl ?_))
               refine r_eq (s := 79) (y := pB ((decide (r.and_ = 0)) && (decide (r.or_ = 0)))) rfl (mix_at g14) ?_
               exact r_mid ⟨⟨rfl,rfl,rfl,trivial⟩,rfl,rfl⟩
              ·have g14' := g14
               try simp only [sB] at g14'
               refine rn hnt rfl rfl rfl g14 (rn hnt rfl rfl rfl g14 (ry hnt rfl rfl rfl g13 (qo hnt rfl (s_pick_f rfl g14 rfl ?_))))
               refine r_eq (s := 79) (y := pB ((decide (r.and_ = 0)) && (decide (r.or_ = 0)))) rfl (mix_af _ g14) ?_
               exact r_mid ⟨⟨rfl,rfl,rfl,trivial⟩,rfl,rfl⟩
             ·refine ry hnt rfl rfl rfl g12 (qo hnt rfl (s_pick_f rfl g13 rfl ?_))
              refine r_eq (s := 80) (y := pB ((decide (r.fn = 22)) || ((decide (r.and_ = 0)) && (decide (r.or_ = 0))))) rfl (mix_of g13) ?_
              exact r_mid ⟨⟨rfl,rfl,trivial⟩,rfl,rfl⟩
            ·have g13' := g13
             try simp only [sB] at g13'
             refine rn hnt rfl rfl rfl g13 (rn hnt rfl rfl rfl g13 (rn hnt rfl rfl rfl g13 (ru hnt rfl rfl rfl (ru hnt rfl rfl rfl (ru hnt rfl rfl rfl ?_)))))
             refine rn hnt rfl rfl rfl g13 (ry hnt rfl rfl rfl g12 (qo hnt rfl (s_pick_t rfl g13 rfl ?_)))
             refine r_eq (s := 80) (y := pB ((decide (r.fn = 22)) || ((decide (r.and_ = 0)) && (decide (r.or_ = 0))))) rfl (mix_ot _ g13) ?_
             exact r_mid ⟨⟨rfl,rfl,trivial⟩,rfl,rfl⟩
           ·refine qo hnt rfl (s_pick_t rfl g12 rfl ?_)
            refine r_eq (s := 81) (y := pB (((((((!decide (r.fn = 8)) && (!decide (r.fn = 17))) || (decide (r.at_ = 0))) && (((((decide (1 ≤ r.fn ∧ r.fn ≤ 4)) || (decide (r.fn = 15))) || (decide (r.fn = 16))) || (decide (r.fn = 23))) || (decide (r.count = 0)))) && ((decide (r.fn = 23)) || (decide (r.wAt = 0)))) && ((decide (r.fn = 8)) || (decide (r.sub = 0)))) && ((decide (r.fn = 22)) || ((decide (r.and_ = 0)) && (decide (r.or_ = 0)))))) rfl (mix_at g12) ?_
            exact r_mid ⟨⟨rfl,trivial⟩,rfl,rfl⟩
          ·have g12' := g12
           try simp only [sB] at g12'
           refine rn hnt rfl rfl rfl g12 (ru hnt rfl rfl rfl (ru hnt rfl rfl rfl (ru hnt rfl rfl rfl (ru hnt rfl rfl rfl (ru hnt rfl rfl rfl ?_)))))
           refine ru hnt rfl rfl rfl (ru hnt rfl rfl rfl (ru hnt rfl rfl rfl (rn hnt rfl rfl rfl g12 (qo hnt rfl (s_pick_f rfl g12 rfl ?_)))))
           refine r_eq (s := 81) (y := pB (((((((!decide (r.fn = 8)) && (!decide (r.fn = 17))) || (decide (r.at_ = 0))) && (((((decide (1 ≤ r.fn ∧ r.fn ≤ 4)) || (decide (r.fn = 15))) || (decide (r.fn = 16))) || (decide (r.fn = 23))) || (decide (r.count = 0)))) && ((decide (r.fn = 23)) || (decide (r.wAt = 0)))) && ((decide (r.fn = 8)) || (decide (r.sub = 0)))) && ((decide (r.fn = 22)) || ((decide (r.and_ = 0)) && (decide (r.or_ = 0)))))) rfl (mix_af _ g12) ?_
           exact r_mid ⟨⟨rfl,trivial⟩,rfl,rfl⟩
         ·refine qa hnt rfl rfl (r_end (q_then (w_le (s := 2) (y := pB (fieldsP r)) rfl (le_of_eq (congrArg pB (show (((((((!decide (r.fn = 8)) && (!decide (r.fn = 17))) || (decide (r.at_ = 0))) && (((((decide (1 ≤ r.fn ∧ r.fn ≤ 4)) || (decide (r.fn = 15))) || (decide (r.fn = 16))) || (decide (r.fn = 23))) || (decide (r.count = 0)))) && ((decide (r.fn = 23)) || (decide (r.wAt = 0)))) && ((decide (r.fn = 8)) || (decide (r.sub = 0)))) && ((decide (r.fn = 22)) || ((decide (r.and_ = 0)) && (decide (r.or_ = 0))))) = (fieldsP r) by unfold fieldsP; apply Bool.eq_iff_iff.2; simp only [Bool.and_eq_true,Bool.or_eq_true,Bool.not_eq_true',decide_eq_true_eq,decide_eq_false_iff_not,u16z]; try omega))) (w_ret ?_))))
          exact fin_plain (ret_tmp rfl ret_nil) rfl rfl ⟨rfl,rfl,rfl⟩
theorem w_pdu_Right (r : TRequest) (hb : r.bits.length ≤ 140737488351232) (hv : r.vals.length ≤ 140737488351232) :
    T Try.prog 43 [PV.f (eRequest r)] 0 [] (Ret (pI (rightR r)) 0 []) := by
 refine t_fun tabOk (n := 63) (rs := [.tmp 2]) Try.func43 rfl rfl rfl rfl (Nat.le_of_ble_eq_true rfl) ?_
 intro c hnt hk
 refine w_seq (w_R (qo hnt rfl (s_box rfl rfl ?_)))
 refine qa hnt rfl rfl (r_set [(1,PV.ptr 0 0)] [(0,.obj (cRequest r))] 1 ⟨rfl,trivial⟩ rfl rfl (r_end (q_then (w_seq (w_block ?_)))))
 refine w_seq (w_R (qo hnt rfl (s_fa_ptr tab_37 rfl rfl tab_3 (by decide) rfl ?_)))
 refine qo hnt rfl (s_load_ptr1 tab_3 rfl rfl rfl rfl rfl ?_)
 refine qo hnt rfl (s_callF rfl rfl rfl (w_pdu_function r.fn) rfl ?_)
 refine qo hnt rfl (s_not rfl ?_)
 refine qa hnt rfl rfl (r_end (q_then (w_if rfl (fun c1 => ?_) (fun c1 => ?_))))
 ·have c1_ := c1
  try simp only [sB] at c1
  refine w_seq (w_R (qa hnt rfl rfl (r_end (q_then (w_le (s := 2) (y := pI (rightR r)) rfl (le_of_eq (congrArg pI (show 15 = (rightR r) by exact (rightR_1 c1_).symm))) ?_)))))
  refine w_ret (q_block_ret (q_then_ret ?_))
  exact fin_plain (ret_tmp rfl ret_nil) rfl rfl ⟨rfl,rfl,rfl⟩
 have c1_ := c1
 try simp only [sB] at c1
 refine w_seq (w_R (qo hnt rfl (s_load_ptr tab_37 rfl rfl rfl (Nat.le_of_ble_eq_true rfl) ?_)))
 refine qo hnt rfl (s_callF rfl rfl rfl (w_pdu_fields r (by omega) (by omega)) rfl ?_)
 refine qo hnt rfl (s_not rfl ?_)
 refine qm hnt rfl rfl (r_cut0 5 [(1,PV.ptr 0 0),(17,pB ((!(fieldsP r)) || (!(wordOk r.at_))))] ?_ ?_)
 ·refine r_if tabOk hnt rfl rfl rfl (fun g1 => ?_) (fun g1 => ?_)
  ·have g1' := g1
   try simp only [sB] at g1'
   refine qo hnt rfl (s_fa_ptr tab_37 rfl rfl tab_3 (by decide) rfl ?_)
   refine ry hnt rfl rfl rfl g1 (qo hnt rfl (s_load_ptr1 tab_3 rfl rfl rfl rfl rfl ?_))
   refine ry hnt rfl rfl rfl g1 (qo hnt rfl (s_callF rfl rfl rfl (w_pdu_within r.at_) rfl ?_))
   refine ry hnt rfl rfl rfl g1 (qo hnt rfl (s_not rfl ?_))
   refine qo hnt rfl (s_pick_f rfl g1 rfl ?_)
   refine r_eq (s := 17) (y := pB ((!(fieldsP r)) || (!(wordOk r.at_)))) rfl (mix_of g1) ?_
   exact r_mid ⟨⟨rfl,rfl,trivial⟩,rfl,rfl⟩
  ·have g1' := g1
   try simp only [sB] at g1'
   refine rn hnt rfl rfl rfl g1 (rn hnt rfl rfl rfl g1 (rn hnt rfl rfl rfl g1 (qo hnt rfl (s_pick_t rfl g1 rfl ?_))))
   refine r_eq (s := 17) (y := pB ((!(fieldsP r)) || (!(wordOk r.at_)))) rfl (mix_ot _ g1) ?_
   exact r_mid ⟨⟨rfl,rfl,trivial⟩,rfl,rfl⟩
 ·refine qm hnt rfl rfl (r_cut0 5 [(1,PV.ptr 0 0),(23,pB (((!(fieldsP r)) || (!(wordOk r.at_))) || (!(wordOk r.wAt))))] ?_ ?_)
  ·refine r_if tabOk hnt rfl rfl rfl (fun g2 => ?_) (fun g2 => ?_)
   ·have g2' := g2
    try simp only [sB] at g2'
    refine qo hnt rfl (s_fa_ptr tab_37 rfl rfl tab_3 (by decide) rfl ?_)
    refine ry hnt rfl rfl rfl g2 (qo hnt rfl (s_load_ptr1 tab_3 rfl rfl rfl rfl rfl ?_))
    refine ry hnt rfl rfl rfl g2 (qo hnt rfl (s_callF rfl rfl rfl (w_pdu_within r.wAt) rfl ?_))
    refine ry hnt rfl rfl rfl g2 (qo hnt rfl (s_not rfl ?_))
    refine qo hnt rfl (s_pick_f rfl g2 rfl ?_)
    refine r_eq (s := 23) (y := pB (((!(fieldsP r)) || (!(wordOk r.at_))) || (!(wordOk r.wAt)))) rfl (mix_of g2) ?_
    exact r_mid ⟨⟨rfl,rfl,trivial⟩,rfl,rfl⟩
   ·have g2' := g2
    try simp only [sB] at g2'
    refine rn hnt rfl rfl rfl g2 (rn hnt rfl rfl rfl g2 (rn hnt rfl rfl rfl g2 (qo hnt rfl (s_pick_t rfl g2 rfl ?_))))
    refine r_eq (s := 23) (y := pB (((!(fieldsP r)) || (!(wordOk r.at_))) || (!(wordOk r.wAt)))) rfl (mix_ot _ g2) ?_
    exact r_mid ⟨⟨rfl,rfl,trivial⟩,rfl,rfl⟩
  ·refine qm hnt rfl rfl (r_cut0 5 [(1,PV.ptr 0 0),(29,pB ((((!(fieldsP r)) || (!(wordOk r.at_))) || (!(wordOk r.wAt))) || (!(wordOk r.sub))))] ?_ ?_)
   ·refine r_if tabOk hnt rfl rfl rfl (fun g3 => ?_) (fun g3 => ?_)
    ·have g3' := g3
     try simp only [sB] at g3'
     refine qo hnt rfl (s_fa_ptr tab_37 rfl rfl tab_3 (by decide) rfl ?_)
     refine ry hnt rfl rfl rfl g3 (qo hnt rfl (s_load_ptr1 tab_3 rfl rfl rfl rfl rfl ?_))
     refine ry hnt rfl rfl rfl g3 (qo hnt rfl (s_callF rfl rfl rfl (w_pdu_within r.sub) rfl ?_))
     refine ry hnt rfl rfl rfl g3 (qo hnt rfl (s_not rfl ?_))
     refine qo hnt rfl (s_pick_f rfl g3 rfl ?_)
     refine r_eq (s := 29) (y := pB ((((!(fieldsP r)) || (!(wordOk r.at_))) || (!(wordOk r.wAt))) || (!(wordOk r.sub)))) rfl (mix_of g3) ?_
     exact r_mid ⟨⟨rfl,rfl,trivial⟩,rfl,rfl⟩
    ·have g3' := g3
     try simp only [sB] at g3'
     refine rn hnt rfl rfl rfl g3 (rn hnt rfl rfl rfl g3 (rn hnt rfl rfl rfl g3 (qo hnt rfl (s_pick_t rfl g3 rfl ?_))))
     refine r_eq (s := 29) (y := pB ((((!(fieldsP r)) || (!(wordOk r.at_))) || (!(wordOk r.wAt))) || (!(wordOk r.sub)))) rfl (mix_ot _ g3) ?_
     exact r_mid ⟨⟨rfl,rfl,trivial⟩,rfl,rfl⟩
   ·refine qm hnt rfl rfl (r_cut0 5 [(1,PV.ptr 0 0),(35,pB (((((!(fieldsP r)) || (!(wordOk r.at_))) || (!(wordOk r.wAt))) || (!(wordOk r.sub))) || (!(wordOk r.count))))] ?_ ?_)
    ·refine r_if tabOk hnt rfl rfl rfl (fun g4 => ?_) (fun g4 => ?_)
     ·have g4' := g4
      try simp only [sB] at g4'
      refine qo hnt rfl (s_fa_ptr tab_37 rfl rfl tab_3 (by decide) rfl ?_)
      refine ry hnt rfl rfl rfl g4 (qo hnt rfl (s_load_ptr1 tab_3 rfl rfl rfl rfl rfl ?_))
      refine ry hnt rfl rfl rfl g4 (qo hnt rfl (s_callF rfl rfl rfl (w_pdu_within r.count) rfl ?_))
      refine ry hnt rfl rfl rfl g4 (qo hnt rfl (s_not rfl ?_))
      refine qo hnt rfl (s_pick_f rfl g4 rfl ?_)
      refine r_eq (s := 35) (y := pB (((((!(fieldsP r)) || (!(wordOk r.at_))) || (!(wordOk r.wAt))) || (!(wordOk r.sub))) || (!(wordOk r.count)))) rfl (mix_of g4) ?_
      exact r_mid ⟨⟨rfl,rfl,trivial⟩,rfl,rfl⟩
     ·have g4' := g4
      try simp only [sB] at g4'
      refine rn hnt rfl rfl rfl g4 (rn hnt rfl rfl rfl g4 (rn hnt rfl rfl rfl g4 (qo hnt rfl (s_pick_t rfl g4 rfl ?_))))
      refine r_eq (s := 35) (y := pB (((((!(fieldsP r)) || (!(wordOk r.at_))) || (!(wordOk r.wAt))) || (!(wordOk r.sub))) || (!(wordOk r.count)))) rfl (mix_ot _ g4) ?_
      exact r_mid ⟨⟨rfl,rfl,trivial⟩,rfl,rfl⟩
    ·refine qa hnt rfl rfl (r_end (q_then (w_if rfl (fun c2 => ?_) (fun c2 => ?_))))
     ·have c2_ := c2
      try simp only [sB] at c2
      refine w_seq (w_R (qa hnt rfl rfl (r_end (q_then (w_le (s := 2) (y := pI (rightR r)) rfl (le_of_eq (congrArg pI (show 12 = (rightR r) by exact (wrong_P c1 (fun h => Bool.noConfusion (c2_.symm.trans h.1))).symm))) ?_)))))
      refine w_ret (q_block_ret (q_then_ret ?_))
      exact fin_plain (ret_tmp rfl ret_nil) rfl rfl ⟨rfl,rfl,rfl⟩
     have c2_ := c2
     try simp only [sB] at c2
     refine w_seq (W_drawn tabOk mixed hnt [[],[0],[0,1],[],[3],[0,1,2,3,4],[0,1,2,3,4,5],[0,1,2,3,4,5,6],(.range 8),(.range 9),[0,1,2,3,4,5,6],[0,1,2,3,4,5,6,10],(.range 12),(.range 13),(.range 14),(.range 15),(.range 16),(.range 17),(.range 18),(.range 19),(.range 20),(.range 21),(.range 22),(.range 23),(.range 24),(.range 25),(.range 26)] (by kernel_rfl) (d_op (x_run0 [(1,PV.ptr 0 0)] [] rfl rfl rfl rfl (s_fa_ptr tab_37 rfl rfl tab_33 (by decide) rfl ⟨rfl,rfl,rfl⟩) (d_op (xL [(37,PV.ptr 0 5)] [0] [(0,.obj (cRequest r))] rfl rfl rfl rfl rfl (s_load_ptr1 tab_33 rfl rfl rfl rfl rfl ⟨rfl,rfl,rfl⟩) ⟨rfl,trivial⟩ rfl ?_)))))
     refine d_op (x_run0 [(38,pS 1 false encBo r.bits)] [0,1] rfl rfl rfl rfl (s_lenM (l := r.bits) tab_33 rfl (hM_sl (f := encBo) rfl) ⟨rfl,rfl,rfl⟩) (d_op (xL [(1,PV.ptr 0 0)] [] [(0,.obj (cRequest r))] rfl rfl rfl rfl rfl (s_load_ptr tab_37 rfl rfl rfl (Nat.le_of_ble_eq_true rfl) ⟨rfl,rfl,rfl⟩) ⟨rfl,trivial⟩ rfl (d_op (x_run0 [(40,PV.f (eRequest r))] [3] rfl rfl rfl rfl (s_callF rfl rfl rfl (w_pdu_bits r (by omega) (by omega)) rfl ⟨rfl,rfl,rfl⟩) ?_)))))
     refine d_op (x_run0 [(39,pN r.bits.length),(41,pI (bitsN r))] [0,1,2,3,4] rfl rfl rfl rfl (s_neq rfl rfl ⟨rfl,rfl,rfl⟩) (d_op (x_run0 [(42,pB (!decide (((r.bits.length : Nat) : Int) = bitsN r)))] [0,1,2,3,4,5] rfl rfl rfl rfl (s_move rfl ⟨rfl,rfl,rfl⟩) (x_if [(43,pB (!decide (((r.bits.length : Nat) : Int) = bitsN r))),(1,PV.ptr 0 0)] [0,1,2,3,4,5,6] rfl rfl rfl rfl (fun g5 => ?_) (fun g5 => ?_)))))
     ·have g5' := g5
      try simp only [sB] at g5'
      refine x_run0 [(43,pB (!decide (((r.bits.length : Nat) : Int) = bitsN r))),(1,PV.ptr 0 0)] [0,1,2,3,4,5,6] rfl rfl rfl rfl (s_fa_ptr tab_37 rfl rfl tab_34 (by decide) rfl ⟨rfl,rfl,rfl⟩) (xy [(43,pB (!decide (((r.bits.length : Nat) : Int) = bitsN r))),(44,PV.ptr 0 6)] (.range 8) rfl rfl rfl rfl g5 (xL [(43,pB (!decide (((r.bits.length : Nat) : Int) = bitsN r))),(44,PV.ptr 0 6)] (.range 8) [(0,.obj (cRequest r))] rfl rfl rfl rfl rfl (s_load_ptr1 tab_34 rfl rfl rfl rfl rfl ⟨rfl,rfl,rfl⟩) ⟨rfl,trivial⟩ rfl (xy [(43,pB (!decide (((r.bits.length : Nat) : Int) = bitsN r))),(45,pS 1 false enc16 r.vals)] (.range 9) rfl rfl rfl rfl g5 (x_run0 [(43,pB (!decide (((r.bits.length : Nat) : Int) = bitsN r))),(45,pS 1 false enc16 r.vals)] (.range 9) rfl rfl rfl rfl (s_lenM (l := r.vals) tab_34 rfl (hM_sl (f := enc16) rfl) ⟨rfl,rfl,rfl⟩) (xy [(43,pB (!decide (((r.bits.length : Nat) : Int) = bitsN r))),(1,PV.ptr 0 0)] [0,1,2,3,4,5,6] rfl rfl rfl rfl g5 ?_)))))
      refine xL [(43,pB (!decide (((r.bits.length : Nat) : Int) = bitsN r))),(1,PV.ptr 0 0)] [0,1,2,3,4,5,6] [(0,.obj (cRequest r))] rfl rfl rfl rfl rfl (s_load_ptr tab_37 rfl rfl rfl (Nat.le_of_ble_eq_true rfl) ⟨rfl,rfl,rfl⟩) ⟨rfl,trivial⟩ rfl (xy [(43,pB (!decide (((r.bits.length : Nat) : Int) = bitsN r))),(47,PV.f (eRequest r))] [0,1,2,3,4,5,6,10] rfl rfl rfl rfl g5 (x_run0 [(43,pB (!decide (((r.bits.length : Nat) : Int) = bitsN r))),(47,PV.f (eRequest r))] [0,1,2,3,4,5,6,10] rfl rfl rfl rfl (s_callF rfl rfl rfl (w_pdu_vals r (by omega) (by omega)) rfl ⟨rfl,rfl,rfl⟩) (xy [(43,pB (!decide (((r.bits.length : Nat) : Int) = bitsN r))),(46,pN r.vals.length),(48,pI (valsN r))] (.range 12) rfl rfl rfl rfl g5 (x_run0 [(43,pB (!decide (((r.bits.length : Nat) : Int) = bitsN r))),(46,pN r.vals.length),(48,pI (valsN r))] (.range 12) rfl rfl rfl rfl (s_neq rfl rfl ⟨rfl,rfl,rfl⟩) (d_op ?_)))))
      refine x_run0 [(43,pB (!decide (((r.bits.length : Nat) : Int) = bitsN r))),(49,pB (!decide (((r.vals.length : Nat) : Int) = valsN r)))] (.range 13) rfl rfl rfl rfl (s_pick_f rfl g5 rfl ⟨rfl,rfl,rfl⟩) (d_op (x_run0 [(50,pB (!decide (((r.vals.length : Nat) : Int) = valsN r)))] (.range 14) rfl rfl rfl rfl (s_move rfl ⟨rfl,rfl,rfl⟩) (x_if [(51,pB (!decide (((r.vals.length : Nat) : Int) = valsN r))),(1,PV.ptr 0 0)] (.range 15) rfl rfl rfl rfl (fun g6 => ?_) (fun g6 => ?_))))
      ·have g6' := g6
       try simp only [sB] at g6'
       refine x_run0 [(51,pB (!decide (((r.vals.length : Nat) : Int) = valsN r))),(1,PV.ptr 0 0)] (.range 15) rfl rfl rfl rfl (s_fa_ptr tab_37 rfl rfl tab_33 (by decide) rfl ⟨rfl,rfl,rfl⟩) (xy [(51,pB (!decide (((r.vals.length : Nat) : Int) = valsN r))),(52,PV.ptr 0 5)] (.range 16) rfl rfl rfl rfl g6 (xL [(51,pB (!decide (((r.vals.length : Nat) : Int) = valsN r))),(52,PV.ptr 0 5)] (.range 16) [(0,.obj (cRequest r))] rfl rfl rfl rfl rfl (s_load_ptr1 tab_33 rfl rfl rfl rfl rfl ⟨rfl,rfl,rfl⟩) ⟨rfl,trivial⟩ rfl (xy [(51,pB (!decide (((r.vals.length : Nat) : Int) = valsN r))),(53,pS 1 false encBo r.bits)] (.range 17) rfl rfl rfl rfl g6 (x_run0 [(51,pB (!decide (((r.vals.length : Nat) : Int) = valsN r))),(53,pS 1 false encBo r.bits)] (.range 17) rfl rfl rfl rfl (s_lenM (l := r.bits) tab_33 rfl (hM_sl (f := encBo) rfl) ⟨rfl,rfl,rfl⟩) (xy [(51,pB (!decide (((r.vals.length : Nat) : Int) = valsN r))),(54,pN r.bits.length)] (.range 18) rfl rfl rfl rfl g6 ?_)))))
       refine x_run0 [(51,pB (!decide (((r.vals.length : Nat) : Int) = valsN r))),(54,pN r.bits.length)] (.range 18) rfl rfl rfl rfl (s_gtr rfl rfl ⟨rfl,rfl,rfl⟩) (d_op (x_run0 [(51,pB (!decide (((r.vals.length : Nat) : Int) = valsN r))),(55,pB (decide (2040 < ((r.bits.length : Nat) : Int))))] (.range 19) rfl rfl rfl rfl (s_pick_f rfl g6 rfl ⟨rfl,rfl,rfl⟩) (d_op (x_run0 [(56,pB (decide (2040 < ((r.bits.length : Nat) : Int))))] (.range 20) rfl rfl rfl rfl (s_move rfl ⟨rfl,rfl,rfl⟩) (x_if [(57,pB (decide (2040 < ((r.bits.length : Nat) : Int)))),(1,PV.ptr 0 0)] (.range 21) rfl rfl rfl rfl (fun g7 => ?_) (fun g7 => ?_))))))
       ·have g7' := g7
        try simp only [sB] at g7'
        refine x_run0 [(57,pB (decide (2040 < ((r.bits.length : Nat) : Int)))),(1,PV.ptr 0 0)] (.range 21) rfl rfl rfl rfl (s_fa_ptr tab_37 rfl rfl tab_34 (by decide) rfl ⟨rfl,rfl,rfl⟩) (xy [(57,pB (decide (2040 < ((r.bits.length : Nat) : Int)))),(58,PV.ptr 0 6)] (.range 22) rfl rfl rfl rfl g7 (xL [(57,pB (decide (2040 < ((r.bits.length : Nat) : Int)))),(58,PV.ptr 0 6)] (.range 22) [(0,.obj (cRequest r))] rfl rfl rfl rfl rfl (s_load_ptr1 tab_34 rfl rfl rfl rfl rfl ⟨rfl,rfl,rfl⟩) ⟨rfl,trivial⟩ rfl (xy [(57,pB (decide (2040 < ((r.bits.length : Nat) : Int)))),(59,pS 1 false enc16 r.vals)] (.range 23) rfl rfl rfl rfl g7 (x_run0 [(57,pB (decide (2040 < ((r.bits.length : Nat) : Int)))),(59,pS 1 false enc16 r.vals)] (.range 23) rfl rfl rfl rfl (s_lenM (l := r.vals) tab_34 rfl (hM_sl (f := enc16) rfl) ⟨rfl,rfl,rfl⟩) (xy [(57,pB (decide (2040 < ((r.bits.length : Nat) : Int)))),(60,pN r.vals.length)] (.range 24) rfl rfl rfl rfl g7 ?_)))))
        refine x_run0 [(57,pB (decide (2040 < ((r.bits.length : Nat) : Int)))),(60,pN r.vals.length)] (.range 24) rfl rfl rfl rfl (s_gtr rfl rfl ⟨rfl,rfl,rfl⟩) (d_op (x_run0 [(57,pB (decide (2040 < ((r.bits.length : Nat) : Int)))),(61,pB (decide (127 < ((r.vals.length : Nat) : Int))))] (.range 25) rfl rfl rfl rfl (s_pick_f rfl g7 rfl ⟨rfl,rfl,rfl⟩) (d_op (x_run0 [(62,pB (decide (127 < ((r.vals.length : Nat) : Int))))] (.range 26) rfl rfl rfl rfl (s_assign rfl ⟨rfl,rfl,rfl⟩) (d_end ⟨by kernel_rfl, ?_⟩)))))
        refine q_then (w_if rfl (fun c3 => ?_) (fun c3 => ?_))
        ·try simp only [sB] at c3
         refine w_seq (w_R (qa hnt rfl rfl (r_set [(2,pI 12)] [(0,.obj (cRequest r))] 1 ⟨rfl,trivial⟩ rfl rfl (r_end (q_then ?_)))))
         refine w_le (s := 2) (y := pI (rightR r)) rfl (le_of_eq (congrArg pI (show 12 = (rightR r) by exact (wrong_P c1 (fun h => by omega)).symm))) (w_ret (q_block_ret (q_then_ret ?_)))
         exact fin_plain (ret_tmp rfl ret_nil) rfl rfl ⟨rfl,rfl,rfl⟩
        try simp only [sB] at c3
        refine w_skip (q_block (q_then (w_seq (w_R (qa hnt rfl rfl ?_)))))
        refine r_set [(2,pI 0)] [(0,.obj (cRequest r))] 1 ⟨rfl,trivial⟩ rfl rfl (r_end (q_then (w_le (s := 2) (y := pI (rightR r)) rfl (le_of_eq (congrArg pI (show 0 = (rightR r) by exact (right_P c1 c2_ (by omega) (by omega) (by omega) (by omega)).symm))) (w_ret ?_))))
        exact fin_plain (ret_tmp rfl ret_nil) rfl rfl ⟨rfl,rfl,rfl⟩
       have g7' := g7
       try simp only [sB] at g7'
       refine xn [(57,pB (decide (2040 < ((r.bits.length : Nat) : Int)))),(58,undefP)] (.range 22) rfl rfl rfl rfl g7 (xn [(57,pB (decide (2040 < ((r.bits.length : Nat) : Int)))),(59,undefP)] (.range 23) rfl rfl rfl rfl g7 (xn [(57,pB (decide (2040 < ((r.bits.length : Nat) : Int)))),(60,undefP)] (.range 24) rfl rfl rfl rfl g7 (d_op (x_run0 [(57,pB (decide (2040 < ((r.bits.length : Nat) : Int)))),(61,undefP)] (.range 25) rfl rfl rfl rfl (s_pick_t rfl g7 rfl ⟨rfl,rfl,rfl⟩) (d_op ?_)))))
       refine x_run0 [(62,pB true)] (.range 26) rfl rfl rfl rfl (s_assign rfl ⟨rfl,rfl,rfl⟩) (d_end ⟨by kernel_rfl, ?_⟩)
       refine q_then (w_if rfl (fun _ => ?_) (fun e => absurd e (by decide)))
       refine w_seq (w_R (qa hnt rfl rfl (r_set [(2,pI 12)] [(0,.obj (cRequest r))] 1 ⟨rfl,trivial⟩ rfl rfl (r_end (q_then ?_)))))
       refine w_le (s := 2) (y := pI (rightR r)) rfl (le_of_eq (congrArg pI (show 12 = (rightR r) by exact (wrong_P c1 (fun h => by omega)).symm))) (w_ret (q_block_ret (q_then_ret ?_)))
       exact fin_plain (ret_tmp rfl ret_nil) rfl rfl ⟨rfl,rfl,rfl⟩
      have g6' := g6
      try simp only [sB] at g6'
      refine xn [(51,pB (!decide (((r.vals.length : Nat) : Int) = valsN r))),(52,undefP)] (.range 16) rfl rfl rfl rfl g6 (xn [(51,pB (!decide (((r.vals.length : Nat) : Int) = valsN r))),(53,undefP)] (.range 17) rfl rfl rfl rfl g6 (xn [(51,pB (!decide (((r.vals.length : Nat) : Int) = valsN r))),(54,undefP)] (.range 18) rfl rfl rfl rfl g6 (d_op (x_run0 [(51,pB (!decide (((r.vals.length : Nat) : Int) = valsN r))),(55,undefP)] (.range 19) rfl rfl rfl rfl (s_pick_t rfl g6 rfl ⟨rfl,rfl,rfl⟩) (d_op ?_)))))
      refine x_run0 [(56,pB true)] (.range 20) rfl rfl rfl rfl (s_move rfl ⟨rfl,rfl,rfl⟩) (xn [(57,pB true),(1,PV.ptr 0 0)] (.range 21) rfl rfl rfl rfl rfl (xn [(57,pB true),(58,undefP)] (.range 22) rfl rfl rfl rfl rfl (xn [(57,pB true),(59,undefP)] (.range 23) rfl rfl rfl rfl rfl (xn [(57,pB true),(60,undefP)] (.range 24) rfl rfl rfl rfl rfl (d_op ?_)))))
      refine x_run0 [(57,pB true),(61,undefP)] (.range 25) rfl rfl rfl rfl (s_pick_t rfl rfl rfl ⟨rfl,rfl,rfl⟩) (d_op (x_run0 [(62,pB true)] (.range 26) rfl rfl rfl rfl (s_assign rfl ⟨rfl,rfl,rfl⟩) (d_end ⟨by kernel_rfl, ?_⟩)))
      refine q_then (w_if rfl (fun _ => ?_) (fun e => absurd e (by decide)))
      refine w_seq (w_R (qa hnt rfl rfl (r_set [(2,pI 12)] [(0,.obj (cRequest r))] 1 ⟨rfl,trivial⟩ rfl rfl (r_end (q_then ?_)))))
      refine w_le (s := 2) (y := pI (rightR r)) rfl (le_of_eq (congrArg pI (show 12 = (rightR r) by exact (wrong_P c1 (fun h => by omega)).symm))) (w_ret (q_block_ret (q_then_ret ?_)))
      exact fin_plain (ret_tmp rfl ret_nil) rfl rfl ⟨rfl,rfl,rfl⟩
     have g5' := g5
     try simp only [sB] at g5'
     refine xn [(43,pB (!decide (((r.bits.length : Nat) : Int) = bitsN r))),(44,undefP)] (.range 8) rfl rfl rfl rfl g5 (xn [(43,pB (!decide (((r.bits.length : Nat) : Int) = bitsN r))),(45,undefP)] (.range 9) rfl rfl rfl rfl g5 (xn [(43,pB (!decide (((r.bits.length : Nat) : Int) = bitsN r))),(1,PV.ptr 0 0)] [0,1,2,3,4,5,6] rfl rfl rfl rfl g5 (xn [(43,pB (!decide (((r.bits.length : Nat) : Int) = bitsN r))),(47,undefP)] [0,1,2,3,4,5,6,10] rfl rfl rfl rfl g5 (xn [(43,pB (!decide (((r.bits.length : Nat) : Int) = bitsN r))),(46,undefP),(48,undefP)] (.range 12) rfl rfl rfl rfl g5 (d_op ?_)))))
     refine x_run0 [(43,pB (!decide (((r.bits.length : Nat) : Int) = bitsN r))),(49,undefP)] (.range 13) rfl rfl rfl rfl (s_pick_t rfl g5 rfl ⟨rfl,rfl,rfl⟩) (d_op (x_run0 [(50,pB true)] (.range 14) rfl rfl rfl rfl (s_move rfl ⟨rfl,rfl,rfl⟩) (xn [(51,pB true),(1,PV.ptr 0 0)] (.range 15) rfl rfl rfl rfl rfl (xn [(51,pB true),(52,undefP)] (.range 16) rfl rfl rfl rfl rfl (xn [(51,pB true),(53,undefP)] (.range 17) rfl rfl rfl rfl rfl ?_)))))
     refine xn [(51,pB true),(54,undefP)] (.range 18) rfl rfl rfl rfl rfl (d_op (x_run0 [(51,pB true),(55,undefP)] (.range 19) rfl rfl rfl rfl (s_pick_t rfl rfl rfl ⟨rfl,rfl,rfl⟩) (d_op (x_run0 [(56,pB true)] (.range 20) rfl rfl rfl rfl (s_move rfl ⟨rfl,rfl,rfl⟩) (xn [(57,pB true),(1,PV.ptr 0 0)] (.range 21) rfl rfl rfl rfl rfl ?_)))))
     refine xn [(57,pB true),(58,undefP)] (.range 22) rfl rfl rfl rfl rfl (xn [(57,pB true),(59,undefP)] (.range 23) rfl rfl rfl rfl rfl (xn [(57,pB true),(60,undefP)] (.range 24) rfl rfl rfl rfl rfl (d_op (x_run0 [(57,pB true),(61,undefP)] (.range 25) rfl rfl rfl rfl (s_pick_t rfl rfl rfl ⟨rfl,rfl,rfl⟩) (d_op ?_)))))
     refine x_run0 [(62,pB true)] (.range 26) rfl rfl rfl rfl (s_assign rfl ⟨rfl,rfl,rfl⟩) (d_end ⟨by kernel_rfl, ?_⟩)
     refine q_then (w_if rfl (fun _ => ?_) (fun e => absurd e (by decide)))
     refine w_seq (w_R (qa hnt rfl rfl (r_set [(2,pI 12)] [(0,.obj (cRequest r))] 1 ⟨rfl,trivial⟩ rfl rfl (r_end (q_then ?_)))))
     refine w_le (s := 2) (y := pI (rightR r)) rfl (le_of_eq (congrArg pI (show 12 = (rightR r) by exact (wrong_P c1 (fun h => by omega)).symm))) (w_ret (q_block_ret (q_then_ret ?_)))
     exact fin_plain (ret_tmp rfl ret_nil) rfl rfl ⟨rfl,rfl,rfl⟩
theorem w_burgageref3_bits (s : List Bool) (cl_s : Bool) (m : List Bool) (cl_m : Bool) (hs : s.length ≤ 140737488355328) :
    T Try.prog 52 [pS 1 cl_s encBo s,pS 1 cl_m encBo m] 0 [] (Ret (pB (decide (s = m))) 0 []) := by
 refine t_fun tabOk (n := 26) (rs := [.tmp 4]) Try.func52 rfl rfl rfl rfl (Nat.le_of_ble_eq_true rfl) ?_
 intro c hnt hk
 refine w_seq (w_R (qa hnt rfl rfl (r_end (q_then (w_seq ?_)))))
 refine w_seq (w_R (qm hnt rfl rfl (qo hnt rfl (s_lenM (l := s) tab_33 rfl (hM_sl (f := encBo) rfl) ?_))))
 refine qm hnt rfl rfl (qo hnt rfl (s_lenM (l := m) tab_33 rfl (hM_sl (f := encBo) rfl) ?_))
 refine qo hnt rfl (s_neq rfl rfl ?_)
 refine r_end (q_then (w_if rfl (fun c1 => ?_) (fun c1 => ?_)))
 ·try simp only [sB] at c1
  have hne : s ≠ m := fun e => by subst e; simp at c1
  refine w_seq (w_R (qa hnt rfl rfl (r_end (q_then (w_le (s := 4) (y := pB (decide (s = m))) rfl (le_of_eq (congrArg pB (show false = (decide (s = m)) by simp [hne]))) ?_)))))
  refine w_ret (q_then_ret ?_)
  exact fin_plain (ret_tmp rfl ret_nil) rfl rfl ⟨rfl,rfl,rfl⟩
 try simp only [sB] at c1
 have hlm : s.length = m.length := by omega
 refine w_skip (q_then (w_seq (w_seq (w_R (qm hnt rfl rfl ?_)))))
 refine qo hnt rfl (s_lenM (l := s) tab_33 rfl (hM_sl (f := encBo) rfl) ?_)
 refine qm hnt rfl rfl (r_end (q_then (w_block (loop1 (fun (i : Nat) => i ≤ s.length ∧ s.take i = m.take i) (fun (i : Nat) => [(0,pS 1 cl_s encBo s),(1,pS 1 cl_m encBo m),(12,pN s.length),(13,pN i)]) 0 (fun (i : Nat) => []) (fun (i : Nat) => s.length - i) (0) ?_ ⟨[],rfl,⟨⟨_,rfl,rfl,rfl⟩,⟨_,rfl,rfl,rfl⟩,⟨_,rfl,rfl,rfl⟩,⟨_,rfl,rfl,rfl⟩,trivial⟩,trivial,by rw [hk]; decide⟩ ?_))))
 · exact ⟨Nat.zero_le _,by simp⟩
 ·intro i hI
  obtain ⟨hi,ht⟩ := hI
  refine w_seq (w_R (qo hnt rfl (s_lss rfl rfl ?_)))
  refine r_end (q_then (w_seq (w_if rfl (fun c2 => ?_) (fun c2 => ?_))))
  ·try simp only [sB] at c2
   refine w_skip (q_then (w_seq (w_block (w_seq (w_R ?_)))))
   refine qm hnt rfl rfl (qa hnt rfl rfl (r_end (q_then (w_seq (W_drawn tabOk mixed hnt [[],[],[0,1],[0,1,2],[],[],[4,5],[4,5,6],(.range 8)] (by kernel_rfl) ?_)))))
   refine d_op (x_run0 [(0,pS 1 cl_s encBo s)] [] rfl rfl rfl rfl (s_move rfl ⟨rfl,rfl,rfl⟩) (d_op (x_run0 [(5,pN i)] [] rfl rfl rfl rfl (s_move rfl ⟨rfl,rfl,rfl⟩) (d_op ?_))))
   obtain ⟨e1,he1⟩ := get_of_lt s (i := i) (by omega)
   refine x_run0 [(16,pS 1 cl_s encBo s),(17,pN i)] [0,1] rfl rfl rfl rfl (s_iaM (q := i) (b := e1) (f := encBo) tab_33 rfl tab_4 rfl rfl (by omega) rfl he1 ⟨rfl,rfl,rfl⟩) (d_op (x_run0 [(18,PV.f (.ro (encBo e1)))] [0,1,2] rfl rfl rfl rfl (s_load_ro1 tab_4 rfl rfl rfl rfl ⟨rfl,rfl,rfl⟩) (d_op (x_run0 [(1,pS 1 cl_m encBo m)] [] rfl rfl rfl rfl (s_move rfl ⟨rfl,rfl,rfl⟩) (d_op ?_)))))
   refine x_run0 [(5,pN i)] [] rfl rfl rfl rfl (s_move rfl ⟨rfl,rfl,rfl⟩) (d_op ?_)
   obtain ⟨e2,he2⟩ := get_of_lt m (i := i) (by omega)
   refine x_run0 [(20,pS 1 cl_m encBo m),(21,pN i)] [4,5] rfl rfl rfl rfl (s_iaM (q := i) (b := e2) (f := encBo) tab_33 rfl tab_4 rfl rfl (by omega) rfl he2 ⟨rfl,rfl,rfl⟩) (d_op (x_run0 [(22,PV.f (.ro (encBo e2)))] [4,5,6] rfl rfl rfl rfl (s_load_ro1 tab_4 rfl rfl rfl rfl ⟨rfl,rfl,rfl⟩) (d_op (x_run0 [(19,pB e1),(23,pB e2)] (.range 8) rfl rfl rfl rfl (s_nebool tab_4 rfl rfl rfl ⟨rfl,rfl,rfl⟩) (d_end ⟨by kernel_rfl, ?_⟩)))))
   refine q_then (w_if rfl (fun c3 => ?_) (fun c3 => ?_))
   ·try simp only [sB] at c3
    have hne : s ≠ m := fun e => by subst e; rw [he1] at he2; cases he2; simp at c3
    refine w_seq (w_R (qa hnt rfl rfl (r_end (q_then (w_le (s := 4) (y := pB (decide (s = m))) rfl (le_of_eq (congrArg pB (show false = (decide (s = m)) by simp [hne]))) ?_)))))
    refine w_ret (q_block_ret (q_then_ret (q_then_ret (q_block_ret (q_then_ret ?_)))))
    exact fin_plain (ret_tmp rfl ret_nil) rfl rfl ⟨rfl,rfl,rfl⟩
   try simp only [sB] at c3
   have c3e : e1 = e2 := by simpa using c3
   refine w_skip (q_block (q_then (w_R (qo hnt rfl (s_addN (a := i) (b := 1) rfl rfl (by omega) (by omega) (by omega) ?_)))))
   refine qm hnt rfl rfl (r_end (q_then (⟨(i + 1), ?_, ?_,⟨[],rfl,⟨⟨_,rfl,rfl,rfl⟩,⟨_,rfl,rfl,rfl⟩,⟨_,rfl,rfl,rfl⟩,⟨_,rfl,rfl,rfl⟩,trivial⟩,trivial,by rw [hk]; decide⟩⟩)))
   ·refine ⟨by omega, ?_⟩
    rw [List.take_add_one,List.take_add_one,he1,he2,ht,c3e]
   · omega
  try simp only [sB] at c2
  have h1 : s.take i = s := List.take_of_length_le (by omega)
  have h2 : m.take i = m := List.take_of_length_le (by omega)
  have he : s = m := by rw [← h1,← h2,ht]
  refine w_exit (q_then_exit (q_then_exit (q_block_exit (q_then (w_seq ?_)))))
  refine w_R (qa hnt rfl rfl (r_end (q_then (w_le (s := 4) (y := pB (decide (s = m))) rfl (le_of_eq (congrArg pB (show true = (decide (s = m)) by simp [he]))) (w_ret ?_)))))
  exact fin_plain (ret_tmp rfl ret_nil) rfl rfl ⟨rfl,rfl,rfl⟩
theorem w_burgageref3_vals (s : List UInt16) (cl_s : Bool) (m : List UInt16) (cl_m : Bool) (hs : s.length ≤ 140737488355328) :
    T Try.prog 53 [pS 1 cl_s enc16 s,pS 1 cl_m enc16 m] 0 [] (Ret (pB (decide (s = m))) 0 []) := by
 refine t_fun tabOk (n := 26) (rs := [.tmp 4]) Try.func53 rfl rfl rfl rfl (Nat.le_of_ble_eq_true rfl) ?_
 intro c hnt hk
 refine w_seq (w_R (qa hnt rfl rfl (r_end (q_then (w_seq ?_)))))
 refine w_seq (w_R (qm hnt rfl rfl (qo hnt rfl (s_lenM (l := s) tab_34 rfl (hM_sl (f := enc16) rfl) ?_))))
 refine qm hnt rfl rfl (qo hnt rfl (s_lenM (l := m) tab_34 rfl (hM_sl (f := enc16) rfl) ?_))
 refine qo hnt rfl (s_neq rfl rfl ?_)
 refine r_end (q_then (w_if rfl (fun c1 => ?_) (fun c1 => ?_)))
 ·try simp only [sB] at c1
  have hne : s ≠ m := fun e => by subst e; simp at c1
  refine w_seq (w_R (qa hnt rfl rfl (r_end (q_then (w_le (s := 4) (y := pB (decide (s = m))) rfl (le_of_eq (congrArg pB (show false = (decide (s = m)) by simp [hne]))) ?_)))))
  refine w_ret (q_then_ret ?_)
  exact fin_plain (ret_tmp rfl ret_nil) rfl rfl ⟨rfl,rfl,rfl⟩
 try simp only [sB] at c1
 have hlm : s.length = m.length := by omega
 refine w_skip (q_then (w_seq (w_seq (w_R (qm hnt rfl rfl ?_)))))
 refine qo hnt rfl (s_lenM (l := s) tab_34 rfl (hM_sl (f := enc16) rfl) ?_)
 refine qm hnt rfl rfl (r_end (q_then (w_block (loop1 (fun (i : Nat) => i ≤ s.length ∧ s.take i = m.take i) (fun (i : Nat) => [(0,pS 1 cl_s enc16 s),(1,pS 1 cl_m enc16 m),(12,pN s.length),(13,pN i)]) 0 (fun (i : Nat) => []) (fun (i : Nat) => s.length - i) (0) ?_ ⟨[],rfl,⟨⟨_,rfl,rfl,rfl⟩,⟨_,rfl,rfl,rfl⟩,⟨_,rfl,rfl,rfl⟩,⟨_,rfl,rfl,rfl⟩,trivial⟩,trivial,by rw [hk]; decide⟩ ?_))))
 · exact ⟨Nat.zero_le _,by simp⟩
 ·intro i hI
  obtain ⟨hi,ht⟩ := hI
  refine w_seq (w_R (qo hnt rfl (s_lss rfl rfl ?_)))
  refine r_end (q_then (w_seq (w_if rfl (fun c2 => ?_) (fun c2 => ?_))))
  ·try simp only [sB] at c2
   refine w_skip (q_then (w_seq (w_block (w_seq (w_R ?_)))))
   refine qm hnt rfl rfl (qa hnt rfl rfl (r_end (q_then (w_seq (W_drawn tabOk mixed hnt [[],[],[0,1],[0,1,2],[],[],[4,5],[4,5,6],(.range 8)] (by kernel_rfl) ?_)))))
   refine d_op (x_run0 [(0,pS 1 cl_s enc16 s)] [] rfl rfl rfl rfl (s_move rfl ⟨rfl,rfl,rfl⟩) (d_op (x_run0 [(5,pN i)] [] rfl rfl rfl rfl (s_move rfl ⟨rfl,rfl,rfl⟩) (d_op ?_))))
   obtain ⟨e1,he1⟩ := get_of_lt s (i := i) (by omega)
   refine x_run0 [(16,pS 1 cl_s enc16 s),(17,pN i)] [0,1] rfl rfl rfl rfl (s_iaM (q := i) (b := e1) (f := enc16) tab_34 rfl tab_35 rfl rfl (by omega) rfl he1 ⟨rfl,rfl,rfl⟩) (d_op (x_run0 [(18,PV.f (.ro (enc16 e1)))] [0,1,2] rfl rfl rfl rfl (s_load_ro1 tab_35 rfl rfl rfl rfl ⟨rfl,rfl,rfl⟩) (d_op (x_run0 [(1,pS 1 cl_m enc16 m)] [] rfl rfl rfl rfl (s_move rfl ⟨rfl,rfl,rfl⟩) (d_op ?_)))))
   refine x_run0 [(5,pN i)] [] rfl rfl rfl rfl (s_move rfl ⟨rfl,rfl,rfl⟩) (d_op ?_)
   obtain ⟨e2,he2⟩ := get_of_lt m (i := i) (by omega)
   refine x_run0 [(20,pS 1 cl_m enc16 m),(21,pN i)] [4,5] rfl rfl rfl rfl (s_iaM (q := i) (b := e2) (f := enc16) tab_34 rfl tab_35 rfl rfl (by omega) rfl he2 ⟨rfl,rfl,rfl⟩) (d_op (x_run0 [(22,PV.f (.ro (enc16 e2)))] [4,5,6] rfl rfl rfl rfl (s_load_ro1 tab_35 rfl rfl rfl rfl ⟨rfl,rfl,rfl⟩) (d_op (x_run0 [(19,p16 e1),(23,p16 e2)] (.range 8) rfl rfl rfl rfl (s_neq16 (a := e1) (b := e2) rfl rfl ⟨rfl,rfl,rfl⟩) (d_end ⟨by kernel_rfl, ?_⟩)))))
   refine q_then (w_if rfl (fun c3 => ?_) (fun c3 => ?_))
   ·try simp only [sB] at c3
    have hne : s ≠ m := fun e => by subst e; rw [he1] at he2; cases he2; simp at c3
    refine w_seq (w_R (qa hnt rfl rfl (r_end (q_then (w_le (s := 4) (y := pB (decide (s = m))) rfl (le_of_eq (congrArg pB (show false = (decide (s = m)) by simp [hne]))) ?_)))))
    refine w_ret (q_block_ret (q_then_ret (q_then_ret (q_block_ret (q_then_ret ?_)))))
    exact fin_plain (ret_tmp rfl ret_nil) rfl rfl ⟨rfl,rfl,rfl⟩
   try simp only [sB] at c3
   have c3e : e1 = e2 := by simpa using c3
   refine w_skip (q_block (q_then (w_R (qo hnt rfl (s_addN (a := i) (b := 1) rfl rfl (by omega) (by omega) (by omega) ?_)))))
   refine qm hnt rfl rfl (r_end (q_then (⟨(i + 1), ?_, ?_,⟨[],rfl,⟨⟨_,rfl,rfl,rfl⟩,⟨_,rfl,rfl,rfl⟩,⟨_,rfl,rfl,rfl⟩,⟨_,rfl,rfl,rfl⟩,trivial⟩,trivial,by rw [hk]; decide⟩⟩)))
   ·refine ⟨by omega, ?_⟩
    rw [List.take_add_one,List.take_add_one,he1,he2,ht,c3e]
   · omega
  try simp only [sB] at c2
  have h1 : s.take i = s := List.take_of_length_le (by omega)
  have h2 : m.take i = m := List.take_of_length_le (by omega)
  have he : s = m := by rw [← h1,← h2,ht]
  refine w_exit (q_then_exit (q_then_exit (q_block_exit (q_then (w_seq ?_)))))
  refine w_R (qa hnt rfl rfl (r_end (q_then (w_le (s := 4) (y := pB (decide (s = m))) rfl (le_of_eq (congrArg pB (show true = (decide (s = m)) by simp [he]))) (w_ret ?_)))))
  exact fin_plain (ret_tmp rfl ret_nil) rfl rfl ⟨rfl,rfl,rfl⟩
theorem w_burgageref3_Same (a : TRequest) (b : TRequest) (ha : a.bits.length ≤ 140737488351232 ∧ a.vals.length ≤ 140737488351232) :
    T Try.prog 35 [PV.f (eRequest a),PV.f (eRequest b)] 0 [] (Ret (pB (decide (a = b))) 0 []) := by
 refine t_fun tabOk (n := 66) (rs := [.tmp 4]) Try.func35 rfl rfl rfl rfl (Nat.le_of_ble_eq_true rfl) ?_
 intro c hnt hk
 refine w_seq (w_R (qo hnt rfl (s_box rfl rfl ?_)))
 refine qo hnt rfl (s_box rfl rfl ?_)
 refine qa hnt rfl rfl (r_set [(2,PV.ptr 0 0),(3,PV.ptr 1 0)] [(1,.obj (cRequest b)),(0,.obj (cRequest a))] 2 ⟨rfl,rfl,trivial⟩ rfl rfl (r_end (q_then (w_seq (w_R ?_)))))
 refine qo hnt rfl (s_fa_ptr tab_37 rfl rfl tab_3 (by decide) rfl ?_)
 refine qo hnt rfl (s_load_ptr1 tab_3 rfl rfl rfl rfl rfl ?_)
 refine qo hnt rfl (s_fa_ptr tab_37 rfl rfl tab_3 (by decide) rfl ?_)
 refine qo hnt rfl (s_load_ptr1 tab_3 rfl rfl rfl rfl rfl ?_)
 refine qo hnt rfl (s_eql rfl rfl ?_)
 refine qm hnt rfl rfl (r_cut0 6 [(2,PV.ptr 0 0),(3,PV.ptr 1 0),(16,pB ((decide (a.fn = b.fn)) && (decide (a.at_ = b.at_))))] ?_ ?_)
 ·refine r_if tabOk hnt rfl rfl rfl (fun g1 => ?_) (fun g1 => ?_)
  ·have g1' := g1
   try simp only [sB] at g1'
   refine qo hnt rfl (s_fa_ptr tab_37 rfl rfl tab_3 (by decide) rfl ?_)
   refine ry hnt rfl rfl rfl g1 (qo hnt rfl (s_load_ptr1 tab_3 rfl rfl rfl rfl rfl ?_))
   refine ry hnt rfl rfl rfl g1 (qo hnt rfl (s_fa_ptr tab_37 rfl rfl tab_3 (by decide) rfl ?_))
   refine ry hnt rfl rfl rfl g1 (qo hnt rfl (s_load_ptr1 tab_3 rfl rfl rfl rfl rfl ?_))
   refine ry hnt rfl rfl rfl g1 (qo hnt rfl (s_eql rfl rfl ?_))
   refine qo hnt rfl (s_pick_t rfl g1 rfl ?_)
   refine r_eq (s := 16) (y := pB ((decide (a.fn = b.fn)) && (decide (a.at_ = b.at_)))) rfl (mix_at g1) ?_
   exact r_mid ⟨⟨rfl,rfl,rfl,trivial⟩,rfl,rfl⟩
  ·have g1' := g1
   try simp only [sB] at g1'
   refine rn hnt rfl rfl rfl g1 (rn hnt rfl rfl rfl g1 (rn hnt rfl rfl rfl g1 (rn hnt rfl rfl rfl g1 (qo hnt rfl (s_pick_f rfl g1 rfl ?_)))))
   refine r_eq (s := 16) (y := pB ((decide (a.fn = b.fn)) && (decide (a.at_ = b.at_)))) rfl (mix_af _ g1) ?_
   exact r_mid ⟨⟨rfl,rfl,rfl,trivial⟩,rfl,rfl⟩
 ·refine qm hnt rfl rfl (r_cut0 6 [(2,PV.ptr 0 0),(3,PV.ptr 1 0),(23,pB (((decide (a.fn = b.fn)) && (decide (a.at_ = b.at_))) && (decide (a.count = b.count))))] ?_ ?_)
  ·refine r_if tabOk hnt rfl rfl rfl (fun g2 => ?_) (fun g2 => ?_)
   ·have g2' := g2
    try simp only [sB] at g2'
    refine qo hnt rfl (s_fa_ptr tab_37 rfl rfl tab_3 (by decide) rfl ?_)
    refine ry hnt rfl rfl rfl g2 (qo hnt rfl (s_load_ptr1 tab_3 rfl rfl rfl rfl rfl ?_))
    refine ry hnt rfl rfl rfl g2 (qo hnt rfl (s_fa_ptr tab_37 rfl rfl tab_3 (by decide) rfl ?_))
    refine ry hnt rfl rfl rfl g2 (qo hnt rfl (s_load_ptr1 tab_3 rfl rfl rfl rfl rfl ?_))
    refine ry hnt rfl rfl rfl g2 (qo hnt rfl (s_eql rfl rfl ?_))
    refine qo hnt rfl (s_pick_t rfl g2 rfl ?_)
    refine r_eq (s := 23) (y := pB (((decide (a.fn = b.fn)) && (decide (a.at_ = b.at_))) && (decide (a.count = b.count)))) rfl (mix_at g2) ?_
    exact r_mid ⟨⟨rfl,rfl,rfl,trivial⟩,rfl,rfl⟩
   ·have g2' := g2
    try simp only [sB] at g2'
    refine rn hnt rfl rfl rfl g2 (rn hnt rfl rfl rfl g2 (rn hnt rfl rfl rfl g2 (rn hnt rfl rfl rfl g2 (qo hnt rfl (s_pick_f rfl g2 rfl ?_)))))
    refine r_eq (s := 23) (y := pB (((decide (a.fn = b.fn)) && (decide (a.at_ = b.at_))) && (decide (a.count = b.count)))) rfl (mix_af _ g2) ?_
    exact r_mid ⟨⟨rfl,rfl,rfl,trivial⟩,rfl,rfl⟩
  ·refine qm hnt rfl rfl (r_cut0 6 [(2,PV.ptr 0 0),(3,PV.ptr 1 0),(30,pB ((((decide (a.fn = b.fn)) && (decide (a.at_ = b.at_))) && (decide (a.count = b.count))) && (decide (a.wAt = b.wAt))))] ?_ ?_)
   ·refine r_if tabOk hnt rfl rfl rfl (fun g3 => ?_) (fun g3 => ?_)
    ·have g3' := g3
     try simp only [sB] at g3'
     refine qo hnt rfl (s_fa_ptr tab_37 rfl rfl tab_3 (by decide) rfl ?_)
     refine ry hnt rfl rfl rfl g3 (qo hnt rfl (s_load_ptr1 tab_3 rfl rfl rfl rfl rfl ?_))
     refine ry hnt rfl rfl rfl g3 (qo hnt rfl (s_fa_ptr tab_37 rfl rfl tab_3 (by decide) rfl ?_))
     refine ry hnt rfl rfl rfl g3 (qo hnt rfl (s_load_ptr1 tab_3 rfl rfl rfl rfl rfl ?_))
     refine ry hnt rfl rfl rfl g3 (qo hnt rfl (s_eql rfl rfl ?_))
     refine qo hnt rfl (s_pick_t rfl g3 rfl ?_)
     refine r_eq (s := 30) (y := pB ((((decide (a.fn = b.fn)) && (decide (a.at_ = b.at_))) && (decide (a.count = b.count))) && (decide (a.wAt = b.wAt)))) rfl (mix_at g3) ?_
     exact r_mid ⟨⟨rfl,rfl,rfl,trivial⟩,rfl,rfl⟩
    ·have g3' := g3
     try simp only [sB] at g3'
     refine rn hnt rfl rfl rfl g3 (rn hnt rfl rfl rfl g3 (rn hnt rfl rfl rfl g3 (rn hnt rfl rfl rfl g3 (qo hnt rfl (s_pick_f rfl g3 rfl ?_)))))
     refine r_eq (s := 30) (y := pB ((((decide (a.fn = b.fn)) && (decide (a.at_ = b.at_))) && (decide (a.count = b.count))) && (decide (a.wAt = b.wAt)))) rfl (mix_af _ g3) ?_
     exact r_mid ⟨⟨rfl,rfl,rfl,trivial⟩,rfl,rfl⟩
   ·refine qm hnt rfl rfl (r_cut0 6 [(2,PV.ptr 0 0),(3,PV.ptr 1 0),(37,pB (((((decide (a.fn = b.fn)) && (decide (a.at_ = b.at_))) && (decide (a.count = b.count))) && (decide (a.wAt = b.wAt))) && (decide (a.sub = b.sub))))] ?_ ?_)
    ·refine r_if tabOk hnt rfl rfl rfl (fun g4 => ?_) (fun g4 => ?_)
     ·have g4' := g4
      try simp only [sB] at g4'
      refine qo hnt rfl (s_fa_ptr tab_37 rfl rfl tab_3 (by decide) rfl ?_)
      refine ry hnt rfl rfl rfl g4 (qo hnt rfl (s_load_ptr1 tab_3 rfl rfl rfl rfl rfl ?_))
      refine ry hnt rfl rfl rfl g4 (qo hnt rfl (s_fa_ptr tab_37 rfl rfl tab_3 (by decide) rfl ?_))
      refine ry hnt rfl rfl rfl g4 (qo hnt rfl (s_load_ptr1 tab_3 rfl rfl rfl rfl rfl ?_))
      refine ry hnt rfl rfl rfl g4 (qo hnt rfl (s_eql rfl rfl ?_))
      refine qo hnt rfl (s_pick_t rfl g4 rfl ?_)
      refine r_eq (s := 37) (y := pB (((((decide (a.fn = b.fn)) && (decide (a.at_ = b.at_))) && (decide (a.count = b.count))) && (decide (a.wAt = b.wAt))) && (decide (a.sub = b.sub)))) rfl (mix_at g4) ?_
      exact r_mid ⟨⟨rfl,rfl,rfl,trivial⟩,rfl,rfl⟩
     ·have g4' := g4
      try simp only [sB] at g4'
      refine rn hnt rfl rfl rfl g4 (rn hnt rfl rfl rfl g4 (rn hnt rfl rfl rfl g4 (rn hnt rfl rfl rfl g4 (qo hnt rfl (s_pick_f rfl g4 rfl ?_)))))
      refine r_eq (s := 37) (y := pB (((((decide (a.fn = b.fn)) && (decide (a.at_ = b.at_))) && (decide (a.count = b.count))) && (decide (a.wAt = b.wAt))) && (decide (a.sub = b.sub)))) rfl (mix_af _ g4) ?_
      exact r_mid ⟨⟨rfl,rfl,rfl,trivial⟩,rfl,rfl⟩
    ·refine qm hnt rfl rfl (r_cut0 6 [(2,PV.ptr 0 0),(3,PV.ptr 1 0),(44,pB ((((((decide (a.fn = b.fn)) && (decide (a.at_ = b.at_))) && (decide (a.count = b.count))) && (decide (a.wAt = b.wAt))) && (decide (a.sub = b.sub))) && (decide (a.and_ = b.and_))))] ?_ ?_)
     ·refine r_if tabOk hnt rfl rfl rfl (fun g5 => ?_) (fun g5 => ?_)
      ·have g5' := g5
       try simp only [sB] at g5'
       refine qo hnt rfl (s_fa_ptr tab_37 rfl rfl tab_35 (by decide) rfl ?_)
       refine ry hnt rfl rfl rfl g5 (qo hnt rfl (s_load_ptr1 tab_35 rfl rfl rfl rfl rfl ?_))
       refine ry hnt rfl rfl rfl g5 (qo hnt rfl (s_fa_ptr tab_37 rfl rfl tab_35 (by decide) rfl ?_))
       refine ry hnt rfl rfl rfl g5 (qo hnt rfl (s_load_ptr1 tab_35 rfl rfl rfl rfl rfl ?_))
       refine ry hnt rfl rfl rfl g5 (qo hnt rfl (s_eql16 (a := a.and_) (b := b.and_) rfl rfl ?_))
       refine qo hnt rfl (s_pick_t rfl g5 rfl ?_)
       refine r_eq (s := 44) (y := pB ((((((decide (a.fn = b.fn)) && (decide (a.at_ = b.at_))) && (decide (a.count = b.count))) && (decide (a.wAt = b.wAt))) && (decide (a.sub = b.sub))) && (decide (a.and_ = b.and_)))) rfl (mix_at g5) ?_
       exact r_mid ⟨⟨rfl,rfl,rfl,trivial⟩,rfl,rfl⟩
      ·have g5' := g5
       try simp only [sB] at g5'
       refine rn hnt rfl rfl rfl g5 (rn hnt rfl rfl rfl g5 (rn hnt rfl rfl rfl g5 (rn hnt rfl rfl rfl g5 (qo hnt rfl (s_pick_f rfl g5 rfl ?_)))))
       refine r_eq (s := 44) (y := pB ((((((decide (a.fn = b.fn)) && (decide (a.at_ = b.at_))) && (decide (a.count = b.count))) && (decide (a.wAt = b.wAt))) && (decide (a.sub = b.sub))) && (decide (a.and_ = b.and_)))) rfl (mix_af _ g5) ?_
       exact r_mid ⟨⟨rfl,rfl,rfl,trivial⟩,rfl,rfl⟩
     ·refine qm hnt rfl rfl (r_cut0 6 [(2,PV.ptr 0 0),(3,PV.ptr 1 0),(51,pB (((((((decide (a.fn = b.fn)) && (decide (a.at_ = b.at_))) && (decide (a.count = b.count))) && (decide (a.wAt = b.wAt))) && (decide (a.sub = b.sub))) && (decide (a.and_ = b.and_))) && (decide (a.or_ = b.or_))))] ?_ ?_)
      ·refine r_if tabOk hnt rfl rfl rfl (fun g6 => ?_) (fun g6 => ?_)
       ·have g6' := g6
        try simp only [sB] at g6'
        refine qo hnt rfl (s_fa_ptr tab_37 rfl rfl tab_35 (by decide) rfl ?_)
        refine ry hnt rfl rfl rfl g6 (qo hnt rfl (s_load_ptr1 tab_35 rfl rfl rfl rfl rfl ?_))
        refine ry hnt rfl rfl rfl g6 (qo hnt rfl (s_fa_ptr tab_37 rfl rfl tab_35 (by decide) rfl ?_))
        refine ry hnt rfl rfl rfl g6 (qo hnt rfl (s_load_ptr1 tab_35 rfl rfl rfl rfl rfl ?_))
        refine ry hnt rfl rfl rfl g6 (qo hnt rfl (s_eql16 (a := a.or_) (b := b.or_) rfl rfl ?_))
        refine qo hnt rfl (s_pick_t rfl g6 rfl ?_)
        refine r_eq (s := 51) (y := pB (((((((decide (a.fn = b.fn)) && (decide (a.at_ = b.at_))) && (decide (a.count = b.count))) && (decide (a.wAt = b.wAt))) && (decide (a.sub = b.sub))) && (decide (a.and_ = b.and_))) && (decide (a.or_ = b.or_)))) rfl (mix_at g6) ?_
        exact r_mid ⟨⟨rfl,rfl,rfl,trivial⟩,rfl,rfl⟩
       ·have g6' := g6
        try simp only [sB] at g6'
        refine rn hnt rfl rfl rfl g6 (rn hnt rfl rfl rfl g6 (rn hnt rfl rfl rfl g6 (rn hnt rfl rfl rfl g6 (qo hnt rfl (s_pick_f rfl g6 rfl ?_)))))
        refine r_eq (s := 51) (y := pB (((((((decide (a.fn = b.fn)) && (decide (a.at_ = b.at_))) && (decide (a.count = b.count))) && (decide (a.wAt = b.wAt))) && (decide (a.sub = b.sub))) && (decide (a.and_ = b.and_))) && (decide (a.or_ = b.or_)))) rfl (mix_af _ g6) ?_
        exact r_mid ⟨⟨rfl,rfl,rfl,trivial⟩,rfl,rfl⟩
      ·refine qm hnt rfl rfl (r_cut0 6 [(2,PV.ptr 0 0),(3,PV.ptr 1 0),(58,pB ((((((((decide (a.fn = b.fn)) && (decide (a.at_ = b.at_))) && (decide (a.count = b.count))) && (decide (a.wAt = b.wAt))) && (decide (a.sub = b.sub))) && (decide (a.and_ = b.and_))) && (decide (a.or_ = b.or_))) && (decide (a.bits = b.bits))))] ?_ ?_)
       ·refine r_if tabOk hnt rfl rfl rfl (fun g7 => ?_) (fun g7 => ?_)
        ·have g7' := g7
         try simp only [sB] at g7'
         refine qo hnt rfl (s_fa_ptr tab_37 rfl rfl tab_33 (by decide) rfl ?_)
         refine ry hnt rfl rfl rfl g7 (qo hnt rfl (s_load_ptr1 tab_33 rfl rfl rfl rfl rfl ?_))
         refine ry hnt rfl rfl rfl g7 (qo hnt rfl (s_fa_ptr tab_37 rfl rfl tab_33 (by decide) rfl ?_))
         refine ry hnt rfl rfl rfl g7 (qo hnt rfl (s_load_ptr1 tab_33 rfl rfl rfl rfl rfl ?_))
         refine ry hnt rfl rfl rfl g7 (qo hnt rfl (s_callF rfl rfl rfl (w_burgageref3_bits a.bits false b.bits false (by omega)) rfl ?_))
         refine qo hnt rfl (s_pick_t rfl g7 rfl ?_)
         refine r_eq (s := 58) (y := pB ((((((((decide (a.fn = b.fn)) && (decide (a.at_ = b.at_))) && (decide (a.count = b.count))) && (decide (a.wAt = b.wAt))) && (decide (a.sub = b.sub))) && (decide (a.and_ = b.and_))) && (decide (a.or_ = b.or_))) && (decide (a.bits = b.bits)))) rfl (mix_at g7) ?_
         exact r_mid ⟨⟨rfl,rfl,rfl,trivial⟩,rfl,rfl⟩
        ·have g7' := g7
         try simp only [sB] at g7'
         refine rn hnt rfl rfl rfl g7 (rn hnt rfl rfl rfl g7 (rn hnt rfl rfl rfl g7 (rn hnt rfl rfl rfl g7 (qo hnt rfl (s_pick_f rfl g7 rfl ?_)))))
         refine r_eq (s := 58) (y := pB ((((((((decide (a.fn = b.fn)) && (decide (a.at_ = b.at_))) && (decide (a.count = b.count))) && (decide (a.wAt = b.wAt))) && (decide (a.sub = b.sub))) && (decide (a.and_ = b.and_))) && (decide (a.or_ = b.or_))) && (decide (a.bits = b.bits)))) rfl (mix_af _ g7) ?_
         exact r_mid ⟨⟨rfl,rfl,rfl,trivial⟩,rfl,rfl⟩
       ·refine qm hnt rfl rfl (r_cut0 6 [(65,pB (((((((((decide (a.fn = b.fn)) && (decide (a.at_ = b.at_))) && (decide (a.count = b.count))) && (decide (a.wAt = b.wAt))) && (decide (a.sub = b.sub))) && (decide (a.and_ = b.and_))) && (decide (a.or_ = b.or_))) && (decide (a.bits = b.bits))) && (decide (a.vals = b.vals))))] ?_ ?_)
        ·refine r_if tabOk hnt rfl rfl rfl (fun g8 => ?_) (fun g8 => ?_)
         ·have g8' := g8
          try simp only [sB] at g8'
          refine qo hnt rfl (s_fa_ptr tab_37 rfl rfl tab_34 (by decide) rfl ?_)
          refine ry hnt rfl rfl rfl g8 (qo hnt rfl (s_load_ptr1 tab_34 rfl rfl rfl rfl rfl ?_))
          refine ry hnt rfl rfl rfl g8 (qo hnt rfl (s_fa_ptr tab_37 rfl rfl tab_34 (by decide) rfl ?_))
          refine ry hnt rfl rfl rfl g8 (qo hnt rfl (s_load_ptr1 tab_34 rfl rfl rfl rfl rfl ?_))
          refine ry hnt rfl rfl rfl g8 (qo hnt rfl (s_callF rfl rfl rfl (w_burgageref3_vals a.vals false b.vals false (by omega)) rfl ?_))
          refine qo hnt rfl (s_pick_t rfl g8 rfl ?_)
          refine r_eq (s := 65) (y := pB (((((((((decide (a.fn = b.fn)) && (decide (a.at_ = b.at_))) && (decide (a.count = b.count))) && (decide (a.wAt = b.wAt))) && (decide (a.sub = b.sub))) && (decide (a.and_ = b.and_))) && (decide (a.or_ = b.or_))) && (decide (a.bits = b.bits))) && (decide (a.vals = b.vals)))) rfl (mix_at g8) ?_
          exact r_mid ⟨⟨rfl,trivial⟩,rfl,rfl⟩
         ·have g8' := g8
          try simp only [sB] at g8'
          refine rn hnt rfl rfl rfl g8 (rn hnt rfl rfl rfl g8 (rn hnt rfl rfl rfl g8 (rn hnt rfl rfl rfl g8 (qo hnt rfl (s_pick_f rfl g8 rfl ?_)))))
          refine r_eq (s := 65) (y := pB (((((((((decide (a.fn = b.fn)) && (decide (a.at_ = b.at_))) && (decide (a.count = b.count))) && (decide (a.wAt = b.wAt))) && (decide (a.sub = b.sub))) && (decide (a.and_ = b.and_))) && (decide (a.or_ = b.or_))) && (decide (a.bits = b.bits))) && (decide (a.vals = b.vals)))) rfl (mix_af _ g8) ?_
          exact r_mid ⟨⟨rfl,trivial⟩,rfl,rfl⟩
        ·refine qa hnt rfl rfl (r_end (q_then (w_le (s := 4) (y := pB (decide (a = b))) rfl (le_of_eq (congrArg pB (show (((((((((decide (a.fn = b.fn)) && (decide (a.at_ = b.at_))) && (decide (a.count = b.count))) && (decide (a.wAt = b.wAt))) && (decide (a.sub = b.sub))) && (decide (a.and_ = b.and_))) && (decide (a.or_ = b.or_))) && (decide (a.bits = b.bits))) && (decide (a.vals = b.vals))) = (decide (a = b)) by apply Bool.eq_iff_iff.2; simp only [Bool.and_eq_true,decide_eq_true_eq]; cases a; cases b; simp only [TRequest.mk.injEq]; constructor <;> (intro h; simp_all)))) (w_ret ?_))))
         exact fin_plain (ret_tmp rfl ret_nil) rfl rfl ⟨rfl,rfl,rfl⟩
end Go.Proofs.Ytlcmbkkimgdnmaa
set_option linter.unusedVariables false
set_option linter.unusedSimpArgs false
namespace Go.Proofs.Ytlcmbkkimgdnmaa
open Go Go.Proofs.Ytlcmbkkimgdnmaa.Pv
def manyOk (q : TRequest) : Bool := decide ((q.fn = 1 ∨ q.fn = 2 → 1 ≤ q.count ∧ q.count ≤ 2000) ∧ (q.fn = 3 ∨ q.fn = 4 → 1 ≤ q.count ∧ q.count ≤ 125) ∧ (q.fn = 15 → 1 ≤ q.count ∧ q.count ≤ 1968) ∧ (q.fn = 16 → 1 ≤ q.count ∧ q.count ≤ 123) ∧
  (q.fn = 23 → (1 ≤ q.count ∧ q.count ≤ 125) ∧ 1 ≤ q.vals.length ∧ q.vals.length ≤ 121))
def countsR (q : TRequest) : Bool := decide (rightR q = 0) && manyOk q
section
variable {g : List UInt8 → TRequest} {b : List UInt8}
end
theorem counts_no {q : TRequest} (h : ¬ rightR q = 0) : countsR q = false := by unfold countsR; rw [decide_eq_false h]; rfl
theorem counts_yes {q : TRequest} (h : rightR q = 0) : countsR q = manyOk q := by unfold countsR; rw [decide_eq_true h]; rfl
end Go.Proofs.Ytlcmbkkimgdnmaa
set_option linter.unusedVariables false
set_option linter.unusedSimpArgs false
set_option maxRecDepth 10000
set_option maxHeartbeats 1000000
namespace Go.Proofs.Ytlcmbkkimgdnmaa
open Go Go.Proofs.Ytlcmbkkimgdnmaa.Pv
theorem w_burgageref3_Counts (r : TRequest) (hb : r.bits.length ≤ 140737488351232) (hv : r.vals.length ≤ 140737488351232) :
    T Try.prog 58 [PV.f (eRequest r)] 0 [] (Ret (pB (countsR r)) 0 []) := by
 refine t_fun tabOk (n := 65) (rs := [.tmp 2]) Try.func58 rfl rfl rfl rfl (Nat.le_of_ble_eq_true rfl) ?_
 intro c hnt hk
 refine w_seq (w_R (qo hnt rfl (s_box rfl rfl ?_)))
 refine qa hnt rfl rfl (r_set [(1,PV.ptr 0 0)] [(0,.obj (cRequest r))] 1 ⟨rfl,trivial⟩ rfl rfl (r_end (q_then (w_seq (w_seq ?_)))))
 refine w_R (qo hnt rfl (s_load_ptr tab_37 rfl rfl rfl (Nat.le_of_ble_eq_true rfl) ?_))
 refine qo hnt rfl (s_callF rfl rfl rfl (w_burgageref3_Right r (by omega) (by omega)) rfl ?_)
 refine qo hnt rfl (s_neq rfl rfl ?_)
 refine r_end (q_then (w_if rfl (fun c1 => ?_) (fun c1 => ?_)))
 ·have c1_ := c1
  try simp only [sB] at c1
  refine w_seq (w_R (qa hnt rfl rfl (r_end (q_then (w_le (s := 2) (y := pB (countsR r)) rfl (le_of_eq (congrArg pB (show false = (countsR r) by exact (counts_no (by assumption)).symm))) ?_)))))
  refine w_ret (q_then_ret ?_)
  exact fin_plain (ret_tmp rfl ret_nil) rfl rfl ⟨rfl,rfl,rfl⟩
 have c1_ := c1
 try simp only [sB] at c1
 refine w_skip (q_then (w_seq (w_R (qo hnt rfl (s_fa_ptr tab_37 rfl rfl tab_3 (by decide) rfl ?_)))))
 refine qo hnt rfl (s_load_ptr1 tab_3 rfl rfl rfl rfl rfl ?_)
 refine qa hnt rfl rfl (r_end (q_then (w_seq (w_seq (w_R ?_)))))
 refine qo hnt rfl (s_fa_ptr tab_37 rfl rfl tab_3 (by decide) rfl ?_)
 refine qo hnt rfl (s_load_ptr1 tab_3 rfl rfl rfl rfl rfl ?_)
 refine r_end (q_then (w_block (w_seq (w_seq (w_R ?_)))))
 refine qo hnt rfl (s_eql rfl rfl ?_)
 refine qa hnt rfl rfl (r_end (q_then (w_if rfl (fun c2 => ?_) (fun c2 => ?_))))
 ·have c2_ := c2
  try simp only [sB] at c2
  refine w_skip (q_then (w_if rfl (fun _ => ?_) (fun e => absurd (e.symm.trans c2_) (by decide))))
  refine w_seq (w_R (qm hnt rfl rfl (qo hnt rfl (s_geq rfl rfl ?_))))
  refine qm hnt rfl rfl (r_cut0 3 [(19,pB ((decide (1 ≤ r.count)) && (decide (r.count ≤ 2000))))] ?_ ?_)
  ·refine r_if tabOk hnt rfl rfl rfl (fun g1 => ?_) (fun g1 => ?_)
   ·have g1' := g1
    try simp only [sB] at g1'
    refine qm hnt rfl rfl (ry hnt rfl rfl rfl g1 (qo hnt rfl (s_leq rfl rfl ?_)))
    refine qo hnt rfl (s_pick_t rfl g1 rfl ?_)
    refine r_eq (s := 19) (y := pB ((decide (1 ≤ r.count)) && (decide (r.count ≤ 2000)))) rfl (mix_at g1) ?_
    exact r_mid ⟨⟨rfl,trivial⟩,rfl,rfl⟩
   ·have g1' := g1
    try simp only [sB] at g1'
    refine rn hnt rfl rfl rfl g1 (qo hnt rfl (s_pick_f rfl g1 rfl ?_))
    refine r_eq (s := 19) (y := pB ((decide (1 ≤ r.count)) && (decide (r.count ≤ 2000)))) rfl (mix_af _ g1) ?_
    exact r_mid ⟨⟨rfl,trivial⟩,rfl,rfl⟩
  ·refine qa hnt rfl rfl (r_end (q_then (w_le (s := 2) (y := pB (countsR r)) rfl (le_of_eq (congrArg pB (show ((decide (1 ≤ r.count)) && (decide (r.count ≤ 2000))) = (countsR r) by (rw [counts_yes (by first|assumption|simpa using c1_)]; unfold manyOk; first|exact (decide_eq_true (by omega)).symm|exact (decide_eq_false (by omega)).symm|(apply Bool.eq_iff_iff.2; simp only [Bool.and_eq_true,Bool.or_eq_true,decide_eq_true_eq,Bool.not_eq_true',decide_eq_false_iff_not]; try omega))))) (w_ret (q_block_ret ?_)))))
   refine q_then_ret ?_
   exact fin_plain (ret_tmp rfl ret_nil) rfl rfl ⟨rfl,rfl,rfl⟩
 have c2_ := c2
 try simp only [sB] at c2
 refine w_R (qo hnt rfl (s_eql rfl rfl ?_))
 refine qa hnt rfl rfl (r_end (q_then (w_if rfl (fun c3 => ?_) (fun c3 => ?_))))
 ·have c3_ := c3
  try simp only [sB] at c3
  refine w_seq (w_R (qm hnt rfl rfl (qo hnt rfl (s_geq rfl rfl ?_))))
  refine qm hnt rfl rfl (r_cut0 3 [(19,pB ((decide (1 ≤ r.count)) && (decide (r.count ≤ 2000))))] ?_ ?_)
  ·refine r_if tabOk hnt rfl rfl rfl (fun g2 => ?_) (fun g2 => ?_)
   ·have g2' := g2
    try simp only [sB] at g2'
    refine qm hnt rfl rfl (ry hnt rfl rfl rfl g2 (qo hnt rfl (s_leq rfl rfl ?_)))
    refine qo hnt rfl (s_pick_t rfl g2 rfl ?_)
    refine r_eq (s := 19) (y := pB ((decide (1 ≤ r.count)) && (decide (r.count ≤ 2000)))) rfl (mix_at g2) ?_
    exact r_mid ⟨⟨rfl,trivial⟩,rfl,rfl⟩
   ·have g2' := g2
    try simp only [sB] at g2'
    refine rn hnt rfl rfl rfl g2 (qo hnt rfl (s_pick_f rfl g2 rfl ?_))
    refine r_eq (s := 19) (y := pB ((decide (1 ≤ r.count)) && (decide (r.count ≤ 2000)))) rfl (mix_af _ g2) ?_
    exact r_mid ⟨⟨rfl,trivial⟩,rfl,rfl⟩
  ·refine qa hnt rfl rfl (r_end (q_then (w_le (s := 2) (y := pB (countsR r)) rfl (le_of_eq (congrArg pB (show ((decide (1 ≤ r.count)) && (decide (r.count ≤ 2000))) = (countsR r) by (rw [counts_yes (by first|assumption|simpa using c1_)]; unfold manyOk; first|exact (decide_eq_true (by omega)).symm|exact (decide_eq_false (by omega)).symm|(apply Bool.eq_iff_iff.2; simp only [Bool.and_eq_true,Bool.or_eq_true,decide_eq_true_eq,Bool.not_eq_true',decide_eq_false_iff_not]; try omega))))) (w_ret (q_block_ret ?_)))))
   refine q_then_ret ?_
   exact fin_plain (ret_tmp rfl ret_nil) rfl rfl ⟨rfl,rfl,rfl⟩
 have c3_ := c3
 try simp only [sB] at c3
 refine w_seq (w_seq (w_R (qo hnt rfl (s_eql rfl rfl ?_))))
 refine qa hnt rfl rfl (r_end (q_then (w_if rfl (fun c4 => ?_) (fun c4 => ?_))))
 ·have c4_ := c4
  try simp only [sB] at c4
  refine w_skip (q_then (w_if rfl (fun _ => ?_) (fun e => absurd (e.symm.trans c4_) (by decide))))
  refine w_seq (w_R (qm hnt rfl rfl (qo hnt rfl (s_geq rfl rfl ?_))))
  refine qm hnt rfl rfl (r_cut0 3 [(28,pB ((decide (1 ≤ r.count)) && (decide (r.count ≤ 125))))] ?_ ?_)
  ·refine r_if tabOk hnt rfl rfl rfl (fun g3 => ?_) (fun g3 => ?_)
   ·have g3' := g3
    try simp only [sB] at g3'
    refine qm hnt rfl rfl (ry hnt rfl rfl rfl g3 (qo hnt rfl (s_leq rfl rfl ?_)))
    refine qo hnt rfl (s_pick_t rfl g3 rfl ?_)
    refine r_eq (s := 28) (y := pB ((decide (1 ≤ r.count)) && (decide (r.count ≤ 125)))) rfl (mix_at g3) ?_
    exact r_mid ⟨⟨rfl,trivial⟩,rfl,rfl⟩
   ·have g3' := g3
    try simp only [sB] at g3'
    refine rn hnt rfl rfl rfl g3 (qo hnt rfl (s_pick_f rfl g3 rfl ?_))
    refine r_eq (s := 28) (y := pB ((decide (1 ≤ r.count)) && (decide (r.count ≤ 125)))) rfl (mix_af _ g3) ?_
    exact r_mid ⟨⟨rfl,trivial⟩,rfl,rfl⟩
  ·refine qa hnt rfl rfl (r_end (q_then (w_le (s := 2) (y := pB (countsR r)) rfl (le_of_eq (congrArg pB (show ((decide (1 ≤ r.count)) && (decide (r.count ≤ 125))) = (countsR r) by (rw [counts_yes (by first|assumption|simpa using c1_)]; unfold manyOk; first|exact (decide_eq_true (by omega)).symm|exact (decide_eq_false (by omega)).symm|(apply Bool.eq_iff_iff.2; simp only [Bool.and_eq_true,Bool.or_eq_true,decide_eq_true_eq,Bool.not_eq_true',decide_eq_false_iff_not]; try omega))))) (w_ret (q_block_ret ?_)))))
   refine q_then_ret ?_
   exact fin_plain (ret_tmp rfl ret_nil) rfl rfl ⟨rfl,rfl,rfl⟩
 have c4_ := c4
 try simp only [sB] at c4
 refine w_R (qo hnt rfl (s_eql rfl rfl ?_))
 refine qa hnt rfl rfl (r_end (q_then (w_if rfl (fun c5 => ?_) (fun c5 => ?_))))
 ·have c5_ := c5
  try simp only [sB] at c5
  refine w_seq (w_R (qm hnt rfl rfl (qo hnt rfl (s_geq rfl rfl ?_))))
  refine qm hnt rfl rfl (r_cut0 3 [(28,pB ((decide (1 ≤ r.count)) && (decide (r.count ≤ 125))))] ?_ ?_)
  ·refine r_if tabOk hnt rfl rfl rfl (fun g4 => ?_) (fun g4 => ?_)
   ·have g4' := g4
    try simp only [sB] at g4'
    refine qm hnt rfl rfl (ry hnt rfl rfl rfl g4 (qo hnt rfl (s_leq rfl rfl ?_)))
    refine qo hnt rfl (s_pick_t rfl g4 rfl ?_)
    refine r_eq (s := 28) (y := pB ((decide (1 ≤ r.count)) && (decide (r.count ≤ 125)))) rfl (mix_at g4) ?_
    exact r_mid ⟨⟨rfl,trivial⟩,rfl,rfl⟩
   ·have g4' := g4
    try simp only [sB] at g4'
    refine rn hnt rfl rfl rfl g4 (qo hnt rfl (s_pick_f rfl g4 rfl ?_))
    refine r_eq (s := 28) (y := pB ((decide (1 ≤ r.count)) && (decide (r.count ≤ 125)))) rfl (mix_af _ g4) ?_
    exact r_mid ⟨⟨rfl,trivial⟩,rfl,rfl⟩
  ·refine qa hnt rfl rfl (r_end (q_then (w_le (s := 2) (y := pB (countsR r)) rfl (le_of_eq (congrArg pB (show ((decide (1 ≤ r.count)) && (decide (r.count ≤ 125))) = (countsR r) by (rw [counts_yes (by first|assumption|simpa using c1_)]; unfold manyOk; first|exact (decide_eq_true (by omega)).symm|exact (decide_eq_false (by omega)).symm|(apply Bool.eq_iff_iff.2; simp only [Bool.and_eq_true,Bool.or_eq_true,decide_eq_true_eq,Bool.not_eq_true',decide_eq_false_iff_not]; try omega))))) (w_ret (q_block_ret ?_)))))
   refine q_then_ret ?_
   exact fin_plain (ret_tmp rfl ret_nil) rfl rfl ⟨rfl,rfl,rfl⟩
 have c5_ := c5
 try simp only [sB] at c5
 refine w_seq (w_R (qo hnt rfl (s_eql rfl rfl ?_)))
 refine qa hnt rfl rfl (r_end (q_then (w_if rfl (fun c6 => ?_) (fun c6 => ?_))))
 ·have c6_ := c6
  try simp only [sB] at c6
  refine w_seq (w_R (qm hnt rfl rfl (qo hnt rfl (s_geq rfl rfl ?_))))
  refine qm hnt rfl rfl (r_cut0 3 [(36,pB ((decide (1 ≤ r.count)) && (decide (r.count ≤ 1968))))] ?_ ?_)
  ·refine r_if tabOk hnt rfl rfl rfl (fun g5 => ?_) (fun g5 => ?_)
   ·have g5' := g5
    try simp only [sB] at g5'
    refine qm hnt rfl rfl (ry hnt rfl rfl rfl g5 (qo hnt rfl (s_leq rfl rfl ?_)))
    refine qo hnt rfl (s_pick_t rfl g5 rfl ?_)
    refine r_eq (s := 36) (y := pB ((decide (1 ≤ r.count)) && (decide (r.count ≤ 1968)))) rfl (mix_at g5) ?_
    exact r_mid ⟨⟨rfl,trivial⟩,rfl,rfl⟩
   ·have g5' := g5
    try simp only [sB] at g5'
    refine rn hnt rfl rfl rfl g5 (qo hnt rfl (s_pick_f rfl g5 rfl ?_))
    refine r_eq (s := 36) (y := pB ((decide (1 ≤ r.count)) && (decide (r.count ≤ 1968)))) rfl (mix_af _ g5) ?_
    exact r_mid ⟨⟨rfl,trivial⟩,rfl,rfl⟩
  ·refine qa hnt rfl rfl (r_end (q_then (w_le (s := 2) (y := pB (countsR r)) rfl (le_of_eq (congrArg pB (show ((decide (1 ≤ r.count)) && (decide (r.count ≤ 1968))) = (countsR r) by (rw [counts_yes (by first|assumption|simpa using c1_)]; unfold manyOk; first|exact (decide_eq_true (by omega)).symm|exact (decide_eq_false (by omega)).symm|(apply Bool.eq_iff_iff.2; simp only [Bool.and_eq_true,Bool.or_eq_true,decide_eq_true_eq,Bool.not_eq_true',decide_eq_false_iff_not]; try omega))))) (w_ret (q_block_ret ?_)))))
   refine q_then_ret ?_
   exact fin_plain (ret_tmp rfl ret_nil) rfl rfl ⟨rfl,rfl,rfl⟩
 have c6_ := c6
 try simp only [sB] at c6
 refine w_seq (w_R (qo hnt rfl (s_eql rfl rfl ?_)))
 refine qa hnt rfl rfl (r_end (q_then (w_if rfl (fun c7 => ?_) (fun c7 => ?_))))
 ·have c7_ := c7
  try simp only [sB] at c7
  refine w_seq (w_R (qm hnt rfl rfl (qo hnt rfl (s_geq rfl rfl ?_))))
  refine qm hnt rfl rfl (r_cut0 3 [(44,pB ((decide (1 ≤ r.count)) && (decide (r.count ≤ 123))))] ?_ ?_)
  ·refine r_if tabOk hnt rfl rfl rfl (fun g6 => ?_) (fun g6 => ?_)
   ·have g6' := g6
    try simp only [sB] at g6'
    refine qm hnt rfl rfl (ry hnt rfl rfl rfl g6 (qo hnt rfl (s_leq rfl rfl ?_)))
    refine qo hnt rfl (s_pick_t rfl g6 rfl ?_)
    refine r_eq (s := 44) (y := pB ((decide (1 ≤ r.count)) && (decide (r.count ≤ 123)))) rfl (mix_at g6) ?_
    exact r_mid ⟨⟨rfl,trivial⟩,rfl,rfl⟩
   ·have g6' := g6
    try simp only [sB] at g6'
    refine rn hnt rfl rfl rfl g6 (qo hnt rfl (s_pick_f rfl g6 rfl ?_))
    refine r_eq (s := 44) (y := pB ((decide (1 ≤ r.count)) && (decide (r.count ≤ 123)))) rfl (mix_af _ g6) ?_
    exact r_mid ⟨⟨rfl,trivial⟩,rfl,rfl⟩
  ·refine qa hnt rfl rfl (r_end (q_then (w_le (s := 2) (y := pB (countsR r)) rfl (le_of_eq (congrArg pB (show ((decide (1 ≤ r.count)) && (decide (r.count ≤ 123))) = (countsR r) by (rw [counts_yes (by first|assumption|simpa using c1_)]; unfold manyOk; first|exact (decide_eq_true (by omega)).symm|exact (decide_eq_false (by omega)).symm|(apply Bool.eq_iff_iff.2; simp only [Bool.and_eq_true,Bool.or_eq_true,decide_eq_true_eq,Bool.not_eq_true',decide_eq_false_iff_not]; try omega))))) (w_ret (q_block_ret ?_)))))
   refine q_then_ret ?_
   exact fin_plain (ret_tmp rfl ret_nil) rfl rfl ⟨rfl,rfl,rfl⟩
 have c7_ := c7
 try simp only [sB] at c7
 refine w_seq (w_R (qo hnt rfl (s_eql rfl rfl ?_)))
 refine qa hnt rfl rfl (r_end (q_then (w_if rfl (fun c8 => ?_) (fun c8 => ?_))))
 ·have c8_ := c8
  try simp only [sB] at c8
  refine w_seq (w_R (qm hnt rfl rfl (qo hnt rfl (s_geq rfl rfl ?_))))
  refine qm hnt rfl rfl (r_cut0 3 [(1,PV.ptr 0 0),(52,pB ((decide (1 ≤ r.count)) && (decide (r.count ≤ 125))))] ?_ ?_)
  ·refine r_if tabOk hnt rfl rfl rfl (fun g7 => ?_) (fun g7 => ?_)
   ·have g7' := g7
    try simp only [sB] at g7'
    refine qm hnt rfl rfl (ry hnt rfl rfl rfl g7 (qo hnt rfl (s_leq rfl rfl ?_)))
    refine qo hnt rfl (s_pick_t rfl g7 rfl ?_)
    refine r_eq (s := 52) (y := pB ((decide (1 ≤ r.count)) && (decide (r.count ≤ 125)))) rfl (mix_at g7) ?_
    exact r_mid ⟨⟨rfl,rfl,trivial⟩,rfl,rfl⟩
   ·have g7' := g7
    try simp only [sB] at g7'
    refine rn hnt rfl rfl rfl g7 (qo hnt rfl (s_pick_f rfl g7 rfl ?_))
    refine r_eq (s := 52) (y := pB ((decide (1 ≤ r.count)) && (decide (r.count ≤ 125)))) rfl (mix_af _ g7) ?_
    exact r_mid ⟨⟨rfl,rfl,trivial⟩,rfl,rfl⟩
  ·refine qm hnt rfl rfl (r_cut0 5 [(1,PV.ptr 0 0),(58,pB (((decide (1 ≤ r.count)) && (decide (r.count ≤ 125))) && (decide (1 ≤ ((r.vals.length : Nat) : Int)))))] ?_ ?_)
   ·refine r_if tabOk hnt rfl rfl rfl (fun g8 => ?_) (fun g8 => ?_)
    ·have g8' := g8
     try simp only [sB] at g8'
     refine qo hnt rfl (s_fa_ptr tab_37 rfl rfl tab_34 (by decide) rfl ?_)
     refine ry hnt rfl rfl rfl g8 (qo hnt rfl (s_load_ptr1 tab_34 rfl rfl rfl rfl rfl ?_))
     refine ry hnt rfl rfl rfl g8 (qo hnt rfl (s_lenM (l := r.vals) tab_34 rfl (hM_sl (f := enc16) rfl) ?_))
     refine ry hnt rfl rfl rfl g8 (qo hnt rfl (s_geq rfl rfl ?_))
     refine qo hnt rfl (s_pick_t rfl g8 rfl ?_)
     refine r_eq (s := 58) (y := pB (((decide (1 ≤ r.count)) && (decide (r.count ≤ 125))) && (decide (1 ≤ ((r.vals.length : Nat) : Int))))) rfl (mix_at g8) ?_
     exact r_mid ⟨⟨rfl,rfl,trivial⟩,rfl,rfl⟩
    ·have g8' := g8
     try simp only [sB] at g8'
     refine rn hnt rfl rfl rfl g8 (rn hnt rfl rfl rfl g8 (rn hnt rfl rfl rfl g8 (qo hnt rfl (s_pick_f rfl g8 rfl ?_))))
     refine r_eq (s := 58) (y := pB (((decide (1 ≤ r.count)) && (decide (r.count ≤ 125))) && (decide (1 ≤ ((r.vals.length : Nat) : Int))))) rfl (mix_af _ g8) ?_
     exact r_mid ⟨⟨rfl,rfl,trivial⟩,rfl,rfl⟩
   ·refine qm hnt rfl rfl (r_cut0 5 [(64,pB ((((decide (1 ≤ r.count)) && (decide (r.count ≤ 125))) && (decide (1 ≤ ((r.vals.length : Nat) : Int)))) && (decide (((r.vals.length : Nat) : Int) ≤ 121))))] ?_ ?_)
    ·refine r_if tabOk hnt rfl rfl rfl (fun g9 => ?_) (fun g9 => ?_)
     ·have g9' := g9
      try simp only [sB] at g9'
      refine qo hnt rfl (s_fa_ptr tab_37 rfl rfl tab_34 (by decide) rfl ?_)
      refine ry hnt rfl rfl rfl g9 (qo hnt rfl (s_load_ptr1 tab_34 rfl rfl rfl rfl rfl ?_))
      refine ry hnt rfl rfl rfl g9 (qo hnt rfl (s_lenM (l := r.vals) tab_34 rfl (hM_sl (f := enc16) rfl) ?_))
      refine ry hnt rfl rfl rfl g9 (qo hnt rfl (s_leq rfl rfl ?_))
      refine qo hnt rfl (s_pick_t rfl g9 rfl ?_)
      refine r_eq (s := 64) (y := pB ((((decide (1 ≤ r.count)) && (decide (r.count ≤ 125))) && (decide (1 ≤ ((r.vals.length : Nat) : Int)))) && (decide (((r.vals.length : Nat) : Int) ≤ 121)))) rfl (mix_at g9) ?_
      exact r_mid ⟨⟨rfl,trivial⟩,rfl,rfl⟩
     ·have g9' := g9
      try simp only [sB] at g9'
      refine rn hnt rfl rfl rfl g9 (rn hnt rfl rfl rfl g9 (rn hnt rfl rfl rfl g9 (qo hnt rfl (s_pick_f rfl g9 rfl ?_))))
      refine r_eq (s := 64) (y := pB ((((decide (1 ≤ r.count)) && (decide (r.count ≤ 125))) && (decide (1 ≤ ((r.vals.length : Nat) : Int)))) && (decide (((r.vals.length : Nat) : Int) ≤ 121)))) rfl (mix_af _ g9) ?_
      exact r_mid ⟨⟨rfl,trivial⟩,rfl,rfl⟩
    ·refine qa hnt rfl rfl (r_end (q_then (w_le (s := 2) (y := pB (countsR r)) rfl (le_of_eq (congrArg pB (show ((((decide (1 ≤ r.count)) && (decide (r.count ≤ 125))) && (decide (1 ≤ ((r.vals.length : Nat) : Int)))) && (decide (((r.vals.length : Nat) : Int) ≤ 121))) = (countsR r) by (rw [counts_yes (by first|assumption|simpa using c1_)]; unfold manyOk; first|exact (decide_eq_true (by omega)).symm|exact (decide_eq_false (by omega)).symm|(apply Bool.eq_iff_iff.2; simp only [Bool.and_eq_true,Bool.or_eq_true,decide_eq_true_eq,Bool.not_eq_true',decide_eq_false_iff_not]; try omega))))) (w_ret (q_block_ret ?_)))))
     refine q_then_ret ?_
     exact fin_plain (ret_tmp rfl ret_nil) rfl rfl ⟨rfl,rfl,rfl⟩
 have c8_ := c8
 try simp only [sB] at c8
 refine w_skip (q_block (q_then (w_seq (w_R (qa hnt rfl rfl ?_)))))
 refine r_end (q_then (w_le (s := 2) (y := pB (countsR r)) rfl (le_of_eq (congrArg pB (show true = (countsR r) by (rw [counts_yes (by first|assumption|simpa using c1_)]; unfold manyOk; first|exact (decide_eq_true (by omega)).symm|exact (decide_eq_false (by omega)).symm|(apply Bool.eq_iff_iff.2; simp only [Bool.and_eq_true,Bool.or_eq_true,decide_eq_true_eq,Bool.not_eq_true',decide_eq_false_iff_not]; try omega))))) (w_ret ?_)))
 exact fin_plain (ret_tmp rfl ret_nil) rfl rfl ⟨rfl,rfl,rfl⟩
theorem w_pdu_Counts (r : TRequest) (hb : r.bits.length ≤ 140737488351232) (hv : r.vals.length ≤ 140737488351232) :
    T Try.prog 44 [PV.f (eRequest r)] 0 [] (Ret (pB (countsR r)) 0 []) := by
 refine t_fun tabOk (n := 40) (rs := [.tmp 2]) Try.func44 rfl rfl rfl rfl (Nat.le_of_ble_eq_true rfl) ?_
 intro c hnt hk
 refine w_seq (w_R (qo hnt rfl (s_box rfl rfl ?_)))
 refine qa hnt rfl rfl (r_set [(1,PV.ptr 0 0)] [(0,.obj (cRequest r))] 1 ⟨rfl,trivial⟩ rfl rfl (r_end (q_then (w_seq (w_seq ?_)))))
 refine w_R (qo hnt rfl (s_load_ptr tab_37 rfl rfl rfl (Nat.le_of_ble_eq_true rfl) ?_))
 refine qo hnt rfl (s_callF rfl rfl rfl (w_pdu_Right r (by omega) (by omega)) rfl ?_)
 refine qo hnt rfl (s_neq rfl rfl ?_)
 refine r_end (q_then (w_if rfl (fun c1 => ?_) (fun c1 => ?_)))
 ·have c1_ := c1
  try simp only [sB] at c1
  refine w_seq (w_R (qa hnt rfl rfl (r_end (q_then (w_le (s := 2) (y := pB (countsR r)) rfl (le_of_eq (congrArg pB (show false = (countsR r) by exact (counts_no (by assumption)).symm))) ?_)))))
  refine w_ret (q_then_ret ?_)
  exact fin_plain (ret_tmp rfl ret_nil) rfl rfl ⟨rfl,rfl,rfl⟩
 have c1_ := c1
 try simp only [sB] at c1
 refine w_skip (q_then (w_seq (w_R (qa hnt rfl rfl (r_end ?_)))))
 refine q_then (w_seq (w_seq (w_R (qo hnt rfl (s_fa_ptr tab_37 rfl rfl tab_3 (by decide) rfl ?_)))))
 refine qo hnt rfl (s_load_ptr1 tab_3 rfl rfl rfl rfl rfl ?_)
 refine r_end (q_then (w_block (w_seq (w_seq (w_R ?_)))))
 refine qo hnt rfl (s_eql rfl rfl ?_)
 refine qa hnt rfl rfl (r_end (q_then (w_if rfl (fun c2 => ?_) (fun c2 => ?_))))
 ·have c2_ := c2
  try simp only [sB] at c2
  refine w_skip (q_then (w_if rfl (fun _ => ?_) (fun e => absurd (e.symm.trans c2_) (by decide))))
  refine w_R (qa hnt rfl rfl (r_end (q_block (q_then (w_seq ?_)))))
  refine w_R (qo hnt rfl (s_fa_ptr tab_37 rfl rfl tab_3 (by decide) rfl ?_))
  refine qo hnt rfl (s_load_ptr1 tab_3 rfl rfl rfl rfl rfl ?_)
  refine qo hnt rfl (s_geq rfl rfl ?_)
  refine qm hnt rfl rfl (r_cut0 5 [(39,pB ((decide (1 ≤ r.count)) && (decide (r.count ≤ 2000))))] ?_ ?_)
  ·refine r_if tabOk hnt rfl rfl rfl (fun g1 => ?_) (fun g1 => ?_)
   ·have g1' := g1
    try simp only [sB] at g1'
    refine qo hnt rfl (s_fa_ptr tab_37 rfl rfl tab_3 (by decide) rfl ?_)
    refine ry hnt rfl rfl rfl g1 (qo hnt rfl (s_load_ptr1 tab_3 rfl rfl rfl rfl rfl ?_))
    refine ry hnt rfl rfl rfl g1 (qm hnt rfl rfl (ry hnt rfl rfl rfl g1 (qo hnt rfl (s_leq rfl rfl ?_))))
    refine qo hnt rfl (s_pick_t rfl g1 rfl ?_)
    refine r_eq (s := 39) (y := pB ((decide (1 ≤ r.count)) && (decide (r.count ≤ 2000)))) rfl (mix_at g1) ?_
    exact r_mid ⟨⟨rfl,trivial⟩,rfl,rfl⟩
   ·have g1' := g1
    try simp only [sB] at g1'
    refine rn hnt rfl rfl rfl g1 (rn hnt rfl rfl rfl g1 (rn hnt rfl rfl rfl g1 (qo hnt rfl (s_pick_f rfl g1 rfl ?_))))
    refine r_eq (s := 39) (y := pB ((decide (1 ≤ r.count)) && (decide (r.count ≤ 2000)))) rfl (mix_af _ g1) ?_
    exact r_mid ⟨⟨rfl,trivial⟩,rfl,rfl⟩
  ·refine qa hnt rfl rfl (r_end (q_then (w_le (s := 2) (y := pB (countsR r)) rfl (le_of_eq (congrArg pB (show ((decide (1 ≤ r.count)) && (decide (r.count ≤ 2000))) = (countsR r) by (rw [counts_yes (by first|assumption|simpa using c1_)]; unfold manyOk; first|exact (decide_eq_true (by omega)).symm|exact (decide_eq_false (by omega)).symm|(apply Bool.eq_iff_iff.2; simp only [Bool.and_eq_true,Bool.or_eq_true,decide_eq_true_eq,Bool.not_eq_true',decide_eq_false_iff_not]; try omega))))) (w_ret ?_))))
   exact fin_plain (ret_tmp rfl ret_nil) rfl rfl ⟨rfl,rfl,rfl⟩
 have c2_ := c2
 try simp only [sB] at c2
 refine w_R (qo hnt rfl (s_eql rfl rfl ?_))
 refine qa hnt rfl rfl (r_end (q_then (w_if rfl (fun c3 => ?_) (fun c3 => ?_))))
 ·have c3_ := c3
  try simp only [sB] at c3
  refine w_R (qa hnt rfl rfl (r_end (q_block (q_then (w_seq ?_)))))
  refine w_R (qo hnt rfl (s_fa_ptr tab_37 rfl rfl tab_3 (by decide) rfl ?_))
  refine qo hnt rfl (s_load_ptr1 tab_3 rfl rfl rfl rfl rfl ?_)
  refine qo hnt rfl (s_geq rfl rfl ?_)
  refine qm hnt rfl rfl (r_cut0 5 [(39,pB ((decide (1 ≤ r.count)) && (decide (r.count ≤ 2000))))] ?_ ?_)
  ·refine r_if tabOk hnt rfl rfl rfl (fun g2 => ?_) (fun g2 => ?_)
   ·have g2' := g2
    try simp only [sB] at g2'
    refine qo hnt rfl (s_fa_ptr tab_37 rfl rfl tab_3 (by decide) rfl ?_)
    refine ry hnt rfl rfl rfl g2 (qo hnt rfl (s_load_ptr1 tab_3 rfl rfl rfl rfl rfl ?_))
    refine ry hnt rfl rfl rfl g2 (qm hnt rfl rfl (ry hnt rfl rfl rfl g2 (qo hnt rfl (s_leq rfl rfl ?_))))
    refine qo hnt rfl (s_pick_t rfl g2 rfl ?_)
    refine r_eq (s := 39) (y := pB ((decide (1 ≤ r.count)) && (decide (r.count ≤ 2000)))) rfl (mix_at g2) ?_
    exact r_mid ⟨⟨rfl,trivial⟩,rfl,rfl⟩
   ·have g2' := g2
    try simp only [sB] at g2'
    refine rn hnt rfl rfl rfl g2 (rn hnt rfl rfl rfl g2 (rn hnt rfl rfl rfl g2 (qo hnt rfl (s_pick_f rfl g2 rfl ?_))))
    refine r_eq (s := 39) (y := pB ((decide (1 ≤ r.count)) && (decide (r.count ≤ 2000)))) rfl (mix_af _ g2) ?_
    exact r_mid ⟨⟨rfl,trivial⟩,rfl,rfl⟩
  ·refine qa hnt rfl rfl (r_end (q_then (w_le (s := 2) (y := pB (countsR r)) rfl (le_of_eq (congrArg pB (show ((decide (1 ≤ r.count)) && (decide (r.count ≤ 2000))) = (countsR r) by (rw [counts_yes (by first|assumption|simpa using c1_)]; unfold manyOk; first|exact (decide_eq_true (by omega)).symm|exact (decide_eq_false (by omega)).symm|(apply Bool.eq_iff_iff.2; simp only [Bool.and_eq_true,Bool.or_eq_true,decide_eq_true_eq,Bool.not_eq_true',decide_eq_false_iff_not]; try omega))))) (w_ret ?_))))
   exact fin_plain (ret_tmp rfl ret_nil) rfl rfl ⟨rfl,rfl,rfl⟩
 have c3_ := c3
 try simp only [sB] at c3
 refine w_seq (w_seq (w_R (qo hnt rfl (s_eql rfl rfl ?_))))
 refine qa hnt rfl rfl (r_end (q_then (w_if rfl (fun c4 => ?_) (fun c4 => ?_))))
 ·have c4_ := c4
  try simp only [sB] at c4
  refine w_skip (q_then (w_if rfl (fun _ => ?_) (fun e => absurd (e.symm.trans c4_) (by decide))))
  refine w_R (qa hnt rfl rfl (r_end (q_block (q_then (w_seq ?_)))))
  refine w_R (qo hnt rfl (s_fa_ptr tab_37 rfl rfl tab_3 (by decide) rfl ?_))
  refine qo hnt rfl (s_load_ptr1 tab_3 rfl rfl rfl rfl rfl ?_)
  refine qo hnt rfl (s_geq rfl rfl ?_)
  refine qm hnt rfl rfl (r_cut0 5 [(39,pB ((decide (1 ≤ r.count)) && (decide (r.count ≤ 125))))] ?_ ?_)
  ·refine r_if tabOk hnt rfl rfl rfl (fun g3 => ?_) (fun g3 => ?_)
   ·have g3' := g3
    try simp only [sB] at g3'
    refine qo hnt rfl (s_fa_ptr tab_37 rfl rfl tab_3 (by decide) rfl ?_)
    refine ry hnt rfl rfl rfl g3 (qo hnt rfl (s_load_ptr1 tab_3 rfl rfl rfl rfl rfl ?_))
    refine ry hnt rfl rfl rfl g3 (qm hnt rfl rfl (ry hnt rfl rfl rfl g3 (qo hnt rfl (s_leq rfl rfl ?_))))
    refine qo hnt rfl (s_pick_t rfl g3 rfl ?_)
    refine r_eq (s := 39) (y := pB ((decide (1 ≤ r.count)) && (decide (r.count ≤ 125)))) rfl (mix_at g3) ?_
    exact r_mid ⟨⟨rfl,trivial⟩,rfl,rfl⟩
   ·have g3' := g3
    try simp only [sB] at g3'
    refine rn hnt rfl rfl rfl g3 (rn hnt rfl rfl rfl g3 (rn hnt rfl rfl rfl g3 (qo hnt rfl (s_pick_f rfl g3 rfl ?_))))
    refine r_eq (s := 39) (y := pB ((decide (1 ≤ r.count)) && (decide (r.count ≤ 125)))) rfl (mix_af _ g3) ?_
    exact r_mid ⟨⟨rfl,trivial⟩,rfl,rfl⟩
  ·refine qa hnt rfl rfl (r_end (q_then (w_le (s := 2) (y := pB (countsR r)) rfl (le_of_eq (congrArg pB (show ((decide (1 ≤ r.count)) && (decide (r.count ≤ 125))) = (countsR r) by (rw [counts_yes (by first|assumption|simpa using c1_)]; unfold manyOk; first|exact (decide_eq_true (by omega)).symm|exact (decide_eq_false (by omega)).symm|(apply Bool.eq_iff_iff.2; simp only [Bool.and_eq_true,Bool.or_eq_true,decide_eq_true_eq,Bool.not_eq_true',decide_eq_false_iff_not]; try omega))))) (w_ret ?_))))
   exact fin_plain (ret_tmp rfl ret_nil) rfl rfl ⟨rfl,rfl,rfl⟩
 have c4_ := c4
 try simp only [sB] at c4
 refine w_R (qo hnt rfl (s_eql rfl rfl ?_))
 refine qa hnt rfl rfl (r_end (q_then (w_if rfl (fun c5 => ?_) (fun c5 => ?_))))
 ·have c5_ := c5
  try simp only [sB] at c5
  refine w_R (qa hnt rfl rfl (r_end (q_block (q_then (w_seq ?_)))))
  refine w_R (qo hnt rfl (s_fa_ptr tab_37 rfl rfl tab_3 (by decide) rfl ?_))
  refine qo hnt rfl (s_load_ptr1 tab_3 rfl rfl rfl rfl rfl ?_)
  refine qo hnt rfl (s_geq rfl rfl ?_)
  refine qm hnt rfl rfl (r_cut0 5 [(39,pB ((decide (1 ≤ r.count)) && (decide (r.count ≤ 125))))] ?_ ?_)
  ·refine r_if tabOk hnt rfl rfl rfl (fun g4 => ?_) (fun g4 => ?_)
   ·have g4' := g4
    try simp only [sB] at g4'
    refine qo hnt rfl (s_fa_ptr tab_37 rfl rfl tab_3 (by decide) rfl ?_)
    refine ry hnt rfl rfl rfl g4 (qo hnt rfl (s_load_ptr1 tab_3 rfl rfl rfl rfl rfl ?_))
    refine ry hnt rfl rfl rfl g4 (qm hnt rfl rfl (ry hnt rfl rfl rfl g4 (qo hnt rfl (s_leq rfl rfl ?_))))
    refine qo hnt rfl (s_pick_t rfl g4 rfl ?_)
    refine r_eq (s := 39) (y := pB ((decide (1 ≤ r.count)) && (decide (r.count ≤ 125)))) rfl (mix_at g4) ?_
    exact r_mid ⟨⟨rfl,trivial⟩,rfl,rfl⟩
   ·have g4' := g4
    try simp only [sB] at g4'
    refine rn hnt rfl rfl rfl g4 (rn hnt rfl rfl rfl g4 (rn hnt rfl rfl rfl g4 (qo hnt rfl (s_pick_f rfl g4 rfl ?_))))
    refine r_eq (s := 39) (y := pB ((decide (1 ≤ r.count)) && (decide (r.count ≤ 125)))) rfl (mix_af _ g4) ?_
    exact r_mid ⟨⟨rfl,trivial⟩,rfl,rfl⟩
  ·refine qa hnt rfl rfl (r_end (q_then (w_le (s := 2) (y := pB (countsR r)) rfl (le_of_eq (congrArg pB (show ((decide (1 ≤ r.count)) && (decide (r.count ≤ 125))) = (countsR r) by (rw [counts_yes (by first|assumption|simpa using c1_)]; unfold manyOk; first|exact (decide_eq_true (by omega)).symm|exact (decide_eq_false (by omega)).symm|(apply Bool.eq_iff_iff.2; simp only [Bool.and_eq_true,Bool.or_eq_true,decide_eq_true_eq,Bool.not_eq_true',decide_eq_false_iff_not]; try omega))))) (w_ret ?_))))
   exact fin_plain (ret_tmp rfl ret_nil) rfl rfl ⟨rfl,rfl,rfl⟩
 have c5_ := c5
 try simp only [sB] at c5
 refine w_seq (w_R (qo hnt rfl (s_eql rfl rfl ?_)))
 refine qa hnt rfl rfl (r_end (q_then (w_if rfl (fun c6 => ?_) (fun c6 => ?_))))
 ·have c6_ := c6
  try simp only [sB] at c6
  refine w_R (qa hnt rfl rfl (r_end (q_block (q_then (w_seq ?_)))))
  refine w_R (qo hnt rfl (s_fa_ptr tab_37 rfl rfl tab_3 (by decide) rfl ?_))
  refine qo hnt rfl (s_load_ptr1 tab_3 rfl rfl rfl rfl rfl ?_)
  refine qo hnt rfl (s_geq rfl rfl ?_)
  refine qm hnt rfl rfl (r_cut0 5 [(39,pB ((decide (1 ≤ r.count)) && (decide (r.count ≤ 1968))))] ?_ ?_)
  ·refine r_if tabOk hnt rfl rfl rfl (fun g5 => ?_) (fun g5 => ?_)
   ·have g5' := g5
    try simp only [sB] at g5'
    refine qo hnt rfl (s_fa_ptr tab_37 rfl rfl tab_3 (by decide) rfl ?_)
    refine ry hnt rfl rfl rfl g5 (qo hnt rfl (s_load_ptr1 tab_3 rfl rfl rfl rfl rfl ?_))
    refine ry hnt rfl rfl rfl g5 (qm hnt rfl rfl (ry hnt rfl rfl rfl g5 (qo hnt rfl (s_leq rfl rfl ?_))))
    refine qo hnt rfl (s_pick_t rfl g5 rfl ?_)
    refine r_eq (s := 39) (y := pB ((decide (1 ≤ r.count)) && (decide (r.count ≤ 1968)))) rfl (mix_at g5) ?_
    exact r_mid ⟨⟨rfl,trivial⟩,rfl,rfl⟩
   ·have g5' := g5
    try simp only [sB] at g5'
    refine rn hnt rfl rfl rfl g5 (rn hnt rfl rfl rfl g5 (rn hnt rfl rfl rfl g5 (qo hnt rfl (s_pick_f rfl g5 rfl ?_))))
    refine r_eq (s := 39) (y := pB ((decide (1 ≤ r.count)) && (decide (r.count ≤ 1968)))) rfl (mix_af _ g5) ?_
    exact r_mid ⟨⟨rfl,trivial⟩,rfl,rfl⟩
  ·refine qa hnt rfl rfl (r_end (q_then (w_le (s := 2) (y := pB (countsR r)) rfl (le_of_eq (congrArg pB (show ((decide (1 ≤ r.count)) && (decide (r.count ≤ 1968))) = (countsR r) by (rw [counts_yes (by first|assumption|simpa using c1_)]; unfold manyOk; first|exact (decide_eq_true (by omega)).symm|exact (decide_eq_false (by omega)).symm|(apply Bool.eq_iff_iff.2; simp only [Bool.and_eq_true,Bool.or_eq_true,decide_eq_true_eq,Bool.not_eq_true',decide_eq_false_iff_not]; try omega))))) (w_ret ?_))))
   exact fin_plain (ret_tmp rfl ret_nil) rfl rfl ⟨rfl,rfl,rfl⟩
 have c6_ := c6
 try simp only [sB] at c6
 refine w_seq (w_R (qo hnt rfl (s_eql rfl rfl ?_)))
 refine qa hnt rfl rfl (r_end (q_then (w_if rfl (fun c7 => ?_) (fun c7 => ?_))))
 ·have c7_ := c7
  try simp only [sB] at c7
  refine w_R (qa hnt rfl rfl (r_end (q_block (q_then (w_seq ?_)))))
  refine w_R (qo hnt rfl (s_fa_ptr tab_37 rfl rfl tab_3 (by decide) rfl ?_))
  refine qo hnt rfl (s_load_ptr1 tab_3 rfl rfl rfl rfl rfl ?_)
  refine qo hnt rfl (s_geq rfl rfl ?_)
  refine qm hnt rfl rfl (r_cut0 5 [(39,pB ((decide (1 ≤ r.count)) && (decide (r.count ≤ 123))))] ?_ ?_)
  ·refine r_if tabOk hnt rfl rfl rfl (fun g6 => ?_) (fun g6 => ?_)
   ·have g6' := g6
    try simp only [sB] at g6'
    refine qo hnt rfl (s_fa_ptr tab_37 rfl rfl tab_3 (by decide) rfl ?_)
    refine ry hnt rfl rfl rfl g6 (qo hnt rfl (s_load_ptr1 tab_3 rfl rfl rfl rfl rfl ?_))
    refine ry hnt rfl rfl rfl g6 (qm hnt rfl rfl (ry hnt rfl rfl rfl g6 (qo hnt rfl (s_leq rfl rfl ?_))))
    refine qo hnt rfl (s_pick_t rfl g6 rfl ?_)
    refine r_eq (s := 39) (y := pB ((decide (1 ≤ r.count)) && (decide (r.count ≤ 123)))) rfl (mix_at g6) ?_
    exact r_mid ⟨⟨rfl,trivial⟩,rfl,rfl⟩
   ·have g6' := g6
    try simp only [sB] at g6'
    refine rn hnt rfl rfl rfl g6 (rn hnt rfl rfl rfl g6 (rn hnt rfl rfl rfl g6 (qo hnt rfl (s_pick_f rfl g6 rfl ?_))))
    refine r_eq (s := 39) (y := pB ((decide (1 ≤ r.count)) && (decide (r.count ≤ 123)))) rfl (mix_af _ g6) ?_
    exact r_mid ⟨⟨rfl,trivial⟩,rfl,rfl⟩
  ·refine qa hnt rfl rfl (r_end (q_then (w_le (s := 2) (y := pB (countsR r)) rfl (le_of_eq (congrArg pB (show ((decide (1 ≤ r.count)) && (decide (r.count ≤ 123))) = (countsR r) by (rw [counts_yes (by first|assumption|simpa using c1_)]; unfold manyOk; first|exact (decide_eq_true (by omega)).symm|exact (decide_eq_false (by omega)).symm|(apply Bool.eq_iff_iff.2; simp only [Bool.and_eq_true,Bool.or_eq_true,decide_eq_true_eq,Bool.not_eq_true',decide_eq_false_iff_not]; try omega))))) (w_ret ?_))))
   exact fin_plain (ret_tmp rfl ret_nil) rfl rfl ⟨rfl,rfl,rfl⟩
 have c7_ := c7
 try simp only [sB] at c7
 refine w_seq (w_R (qo hnt rfl (s_eql rfl rfl ?_)))
 refine qa hnt rfl rfl (r_end (q_then (w_if rfl (fun c8 => ?_) (fun c8 => ?_))))
 ·have c8_ := c8
  try simp only [sB] at c8
  refine w_seq (w_seq (w_R (qo hnt rfl (s_fa_ptr tab_37 rfl rfl tab_34 (by decide) rfl ?_))))
  refine qo hnt rfl (s_load_ptr1 tab_34 rfl rfl rfl rfl rfl ?_)
  refine qo hnt rfl (s_lenM (l := r.vals) tab_34 rfl (hM_sl (f := enc16) rfl) ?_)
  refine qo hnt rfl (s_lss rfl rfl ?_)
  refine qm hnt rfl rfl (r_cut0 5 [(1,PV.ptr 0 0),(30,pB ((decide (((r.vals.length : Nat) : Int) < 1)) || (decide (121 < ((r.vals.length : Nat) : Int)))))] ?_ ?_)
  ·refine r_if tabOk hnt rfl rfl rfl (fun g7 => ?_) (fun g7 => ?_)
   ·have g7' := g7
    try simp only [sB] at g7'
    refine qo hnt rfl (s_fa_ptr tab_37 rfl rfl tab_34 (by decide) rfl ?_)
    refine ry hnt rfl rfl rfl g7 (qo hnt rfl (s_load_ptr1 tab_34 rfl rfl rfl rfl rfl ?_))
    refine ry hnt rfl rfl rfl g7 (qo hnt rfl (s_lenM (l := r.vals) tab_34 rfl (hM_sl (f := enc16) rfl) ?_))
    refine ry hnt rfl rfl rfl g7 (qo hnt rfl (s_gtr rfl rfl ?_))
    refine qo hnt rfl (s_pick_f rfl g7 rfl ?_)
    refine r_eq (s := 30) (y := pB ((decide (((r.vals.length : Nat) : Int) < 1)) || (decide (121 < ((r.vals.length : Nat) : Int))))) rfl (mix_of g7) ?_
    exact r_mid ⟨⟨rfl,rfl,trivial⟩,rfl,rfl⟩
   ·have g7' := g7
    try simp only [sB] at g7'
    refine rn hnt rfl rfl rfl g7 (rn hnt rfl rfl rfl g7 (rn hnt rfl rfl rfl g7 (qo hnt rfl (s_pick_t rfl g7 rfl ?_))))
    refine r_eq (s := 30) (y := pB ((decide (((r.vals.length : Nat) : Int) < 1)) || (decide (121 < ((r.vals.length : Nat) : Int))))) rfl (mix_ot _ g7) ?_
    exact r_mid ⟨⟨rfl,rfl,trivial⟩,rfl,rfl⟩
  ·refine r_end (q_then (w_if rfl (fun c9 => ?_) (fun c9 => ?_)))
   ·have c9_ := c9
    try simp only [sB] at c9
    try simp only [Bool.or_eq_true,decide_eq_true_eq] at c9
    refine w_seq (w_R (qa hnt rfl rfl (r_end (q_then (w_le (s := 2) (y := pB (countsR r)) rfl (le_of_eq (congrArg pB (show false = (countsR r) by (rw [counts_yes (by first|assumption|simpa using c1_)]; unfold manyOk; first|exact (decide_eq_true (by omega)).symm|exact (decide_eq_false (by omega)).symm|(apply Bool.eq_iff_iff.2; simp only [Bool.and_eq_true,Bool.or_eq_true,decide_eq_true_eq,Bool.not_eq_true',decide_eq_false_iff_not]; try omega))))) ?_)))))
    refine w_ret (q_then_ret (q_block_ret (q_then_ret ?_)))
    exact fin_plain (ret_tmp rfl ret_nil) rfl rfl ⟨rfl,rfl,rfl⟩
   have c9_ := c9
   try simp only [sB] at c9
   try simp only [Bool.or_eq_false_iff,decide_eq_false_iff_not] at c9
   refine w_skip (q_then (w_R (qa hnt rfl rfl (r_end (q_block ?_)))))
   refine q_then (w_seq (w_R (qo hnt rfl (s_fa_ptr tab_37 rfl rfl tab_3 (by decide) rfl ?_))))
   refine qo hnt rfl (s_load_ptr1 tab_3 rfl rfl rfl rfl rfl ?_)
   refine qo hnt rfl (s_geq rfl rfl ?_)
   refine qm hnt rfl rfl (r_cut0 5 [(39,pB ((decide (1 ≤ r.count)) && (decide (r.count ≤ 125))))] ?_ ?_)
   ·refine r_if tabOk hnt rfl rfl rfl (fun g8 => ?_) (fun g8 => ?_)
    ·have g8' := g8
     try simp only [sB] at g8'
     refine qo hnt rfl (s_fa_ptr tab_37 rfl rfl tab_3 (by decide) rfl ?_)
     refine ry hnt rfl rfl rfl g8 (qo hnt rfl (s_load_ptr1 tab_3 rfl rfl rfl rfl rfl ?_))
     refine ry hnt rfl rfl rfl g8 (qm hnt rfl rfl (ry hnt rfl rfl rfl g8 (qo hnt rfl (s_leq rfl rfl ?_))))
     refine qo hnt rfl (s_pick_t rfl g8 rfl ?_)
     refine r_eq (s := 39) (y := pB ((decide (1 ≤ r.count)) && (decide (r.count ≤ 125)))) rfl (mix_at g8) ?_
     exact r_mid ⟨⟨rfl,trivial⟩,rfl,rfl⟩
    ·have g8' := g8
     try simp only [sB] at g8'
     refine rn hnt rfl rfl rfl g8 (rn hnt rfl rfl rfl g8 (rn hnt rfl rfl rfl g8 (qo hnt rfl (s_pick_f rfl g8 rfl ?_))))
     refine r_eq (s := 39) (y := pB ((decide (1 ≤ r.count)) && (decide (r.count ≤ 125)))) rfl (mix_af _ g8) ?_
     exact r_mid ⟨⟨rfl,trivial⟩,rfl,rfl⟩
   ·refine qa hnt rfl rfl (r_end (q_then (w_le (s := 2) (y := pB (countsR r)) rfl (le_of_eq (congrArg pB (show ((decide (1 ≤ r.count)) && (decide (r.count ≤ 125))) = (countsR r) by (rw [counts_yes (by first|assumption|simpa using c1_)]; unfold manyOk; first|exact (decide_eq_true (by omega)).symm|exact (decide_eq_false (by omega)).symm|(apply Bool.eq_iff_iff.2; simp only [Bool.and_eq_true,Bool.or_eq_true,decide_eq_true_eq,Bool.not_eq_true',decide_eq_false_iff_not]; try omega))))) (w_ret ?_))))
    exact fin_plain (ret_tmp rfl ret_nil) rfl rfl ⟨rfl,rfl,rfl⟩
 have c8_ := c8
 try simp only [sB] at c8
 refine w_seq (w_R (qa hnt rfl rfl (r_end (q_then (w_le (s := 2) (y := pB (countsR r)) rfl (le_of_eq (congrArg pB (show true = (countsR r) by (rw [counts_yes (by first|assumption|simpa using c1_)]; unfold manyOk; first|exact (decide_eq_true (by omega)).symm|exact (decide_eq_false (by omega)).symm|(apply Bool.eq_iff_iff.2; simp only [Bool.and_eq_true,Bool.or_eq_true,decide_eq_true_eq,Bool.not_eq_true',decide_eq_false_iff_not]; try omega))))) ?_)))))
 refine w_ret (q_block_ret (q_then_ret ?_))
 exact fin_plain (ret_tmp rfl ret_nil) rfl rfl ⟨rfl,rfl,rfl⟩
end Go.Proofs.Ytlcmbkkimgdnmaa
set_option linter.unusedVariables false
set_option linter.unusedSimpArgs false
namespace Go.Proofs.Ytlcmbkkimgdnmaa
open Go Go.Proofs.Ytlcmbkkimgdnmaa.Pv
def four (a b c d : Int) (s : Int) : Int := if s = 0 then a else if s = 1 then b else if s = 2 then c else d
structure WInv (lo : Int) (l : List TWindow) (v f : Int → Int) : Prop where
  vb : ∀ s,0 ≤ s ∧ s ≤ 3 → 0 ≤ v s ∧ v s ≤ 23 * l.length
  fb : ∀ s,0 ≤ s ∧ s ≤ 3 → lo ≤ f s ∧ f s ≤ lo + 20 * l.length
  mem : ∀ w ∈ l,(0 ≤ w.space ∧ w.space ≤ 3) ∧ 1 ≤ w.count ∧ 0 ≤ w.virtual ∧ lo ≤ w.physical ∧ w.virtual + w.count ≤ v w.space ∧ w.physical + w.count ≤ f w.space
  row : l.Pairwise fun x y => x.space = y.space → x.virtual + x.count ≤ y.virtual ∧ x.physical + x.count ≤ y.physical
theorem WInv.nil (lo : Int) : WInv lo [] (four 0 0 0 0) (four lo lo lo lo) := by
  refine ⟨fun s _ => ?_,fun s _ => ?_,fun w hw => by simp at hw,List.Pairwise.nil⟩
  · unfold four; simp
  · unfold four; simp
theorem WInv.step {lo : Int} {l : List TWindow} {v f v' f' : Int → Int} (h : WInv lo l v f) {s d e n : Int} (hs : 0 ≤ s ∧ s ≤ 3) (hd : 0 ≤ d ∧ d ≤ 5) (he : 0 ≤ e ∧ e ≤ 2) (hn : 1 ≤ n ∧ n ≤ 18)
    (hv : ∀ x,0 ≤ x ∧ x ≤ 3 → v' x = if x = s then v s + d + n else v x) (hf : ∀ x,0 ≤ x ∧ x ≤ 3 → f' x = if x = s then f s + e + n else f x) : WInv lo (l ++ [⟨s,v s + d,f s + e,n⟩]) v' f' := by
  obtain ⟨vb,fb,mem,row⟩ := h
  have hl : ((l ++ [(⟨s,v s + d,f s + e,n⟩ : TWindow)]).length : Int) = l.length + 1 := by simp
  refine ⟨fun x hx => ?_,fun x hx => ?_,fun w hw => ?_, ?_⟩
  · rw [hv x hx,hl]; have h1 := vb x hx; have h2 := vb s hs; split <;> omega
  · rw [hf x hx,hl]; have h1 := fb x hx; have h2 := fb s hs; split <;> omega
  · have hvb := vb s hs
    have hfb := fb s hs
    rcases List.mem_append.1 hw with h|h
    · obtain ⟨a,b,c,c2,g,k⟩ := mem w h
      rw [hv _ a,hf _ a]
      refine ⟨a,b,c,c2, ?_, ?_⟩
      · split
        · rename_i hx; rw [hx] at g; omega
        · exact g
      · split
        · rename_i hx; rw [hx] at k; omega
        · exact k
    · have h := List.mem_singleton.1 h
      subst h
      simp only
      rw [hv _ hs,hf _ hs,if_pos rfl,if_pos rfl]
      exact ⟨hs,by omega,by omega,by omega,by omega,by omega⟩
  · rw [List.pairwise_append]
    refine ⟨row,List.pairwise_singleton _ _,fun x hx y hy hxy => ?_⟩
    have hy := List.mem_singleton.1 hy
    subst hy
    obtain ⟨a,b,c,c2,g,k⟩ := mem x hx
    simp only at hxy ⊢
    rw [hxy] at g k
    omega
theorem WInv.step0 {lo v0 v1 v2 v3 f0 f1 f2 f3 d e n : Int} {l : List TWindow} (h : WInv lo l (four v0 v1 v2 v3) (four f0 f1 f2 f3)) (hd : 0 ≤ d ∧ d ≤ 5) (he : 0 ≤ e ∧ e ≤ 2) (hn : 1 ≤ n ∧ n ≤ 18) :
    WInv lo (l ++ [⟨0,v0 + d,f0 + e,n⟩]) (four (v0 + d + n) v1 v2 v3) (four (f0 + e + n) f1 f2 f3) :=
  h.step (s := 0) (by decide) hd he hn (fun x hx => by unfold four; (repeat' split) <;> omega) (fun x hx => by unfold four; (repeat' split) <;> omega)
theorem WInv.step1 {lo v0 v1 v2 v3 f0 f1 f2 f3 d e n : Int} {l : List TWindow} (h : WInv lo l (four v0 v1 v2 v3) (four f0 f1 f2 f3)) (hd : 0 ≤ d ∧ d ≤ 5) (he : 0 ≤ e ∧ e ≤ 2) (hn : 1 ≤ n ∧ n ≤ 18) :
    WInv lo (l ++ [⟨1,v1 + d,f1 + e,n⟩]) (four v0 (v1 + d + n) v2 v3) (four f0 (f1 + e + n) f2 f3) :=
  h.step (s := 1) (by decide) hd he hn (fun x hx => by unfold four; (repeat' split) <;> omega) (fun x hx => by unfold four; (repeat' split) <;> omega)
theorem WInv.step2 {lo v0 v1 v2 v3 f0 f1 f2 f3 d e n : Int} {l : List TWindow} (h : WInv lo l (four v0 v1 v2 v3) (four f0 f1 f2 f3)) (hd : 0 ≤ d ∧ d ≤ 5) (he : 0 ≤ e ∧ e ≤ 2) (hn : 1 ≤ n ∧ n ≤ 18) :
    WInv lo (l ++ [⟨2,v2 + d,f2 + e,n⟩]) (four v0 v1 (v2 + d + n) v3) (four f0 f1 (f2 + e + n) f3) :=
  h.step (s := 2) (by decide) hd he hn (fun x hx => by unfold four; (repeat' split) <;> omega) (fun x hx => by unfold four; (repeat' split) <;> omega)
theorem WInv.step3 {lo v0 v1 v2 v3 f0 f1 f2 f3 d e n : Int} {l : List TWindow} (h : WInv lo l (four v0 v1 v2 v3) (four f0 f1 f2 f3)) (hd : 0 ≤ d ∧ d ≤ 5) (he : 0 ≤ e ∧ e ≤ 2) (hn : 1 ≤ n ∧ n ≤ 18) :
    WInv lo (l ++ [⟨3,v3 + d,f3 + e,n⟩]) (four v0 v1 v2 (v3 + d + n)) (four f0 f1 f2 (f3 + e + n)) :=
  h.step (s := 3) (by decide) hd he hn (fun x hx => by unfold four; (repeat' split) <;> omega) (fun x hx => by unfold four; (repeat' split) <;> omega)
structure WinsOk (l : List TWindow) : Prop where
  len : l.length ≤ 6
  right : ∀ w ∈ l,winR w = true ∧ w.virtual + w.count ≤ 138
  row : l.Pairwise fun x y => x.space = y.space → x.virtual + x.count ≤ y.virtual ∧ x.physical + x.count ≤ y.physical
theorem WInv.ok {lo : Int} {l : List TWindow} {v f : Int → Int} (h : WInv lo l v f) (hl : l.length ≤ 6) (hlo : 0 ≤ lo ∧ lo ≤ 384) : WinsOk l := by
  refine ⟨hl,fun w hw => ?_,h.row⟩
  obtain ⟨a,b,c,c2,g,k⟩ := h.mem w hw
  have h1 := h.vb w.space a
  have h2 := h.fb w.space a
  exact ⟨(winR_iff w).2 ⟨a,by omega,by omega⟩,by omega⟩
theorem WinsOk.two {l : List TWindow} (h : WinsOk l) {i j : Nat} {a b : TWindow} (hj : j < i) (ha : l[i]? = some a) (hb : l[j]? = some b) (hs : a.space = b.space) : b.virtual + b.count ≤ a.virtual ∧ b.physical + b.count ≤ a.physical := by
  obtain ⟨h1,rfl⟩ := List.getElem?_eq_some_iff.1 ha
  obtain ⟨h2,rfl⟩ := List.getElem?_eq_some_iff.1 hb
  exact List.pairwise_iff_getElem.1 h.row j i h2 h1 hj hs.symm
theorem meet_no {a b : TSpan} (h : b.at_ + b.count ≤ a.at_) : meetOk a b = false := by
  rw [Bool.eq_false_iff]
  intro hm
  have := (meetOk_iff a b).1 hm
  omega
theorem WinsOk.own {l : List TWindow} (h : WinsOk l) : ownW l = true := by
  refine own_yes fun i j a b hj ha hb => ?_
  by_cases hs : a.space = b.space
  · obtain ⟨h1,h2⟩ := h.two hj ha hb hs
    unfold clashW meetW
    rw [meet_no (a := pSp a) (b := pSp b) h2,meet_no (a := vSp a) (b := vSp b) h1]
    rfl
  · unfold clashW meetW
    rw [decide_eq_false hs]
    simp
structure TabG (X : TTable) : Prop where
  len : 1 ≤ X.tenants.length ∧ X.tenants.length ≤ 4
  wins : ∀ p ∈ X.tenants,WinsOk p.windows
end Go.Proofs.Ytlcmbkkimgdnmaa
set_option linter.unusedVariables false
set_option linter.unusedSimpArgs false
namespace Go.Proofs.Ytlcmbkkimgdnmaa
open Go Go.Proofs.Ytlcmbkkimgdnmaa.Pv
def LK : List TWindow := [⟨3,0,100,4⟩,⟨3,4,50,4⟩]
theorem kn_of : (ofL LK 3).map vSp = [⟨0,4⟩,⟨4,4⟩] := by decide
theorem kn_c1 : coverL [⟨0,4⟩,⟨4,4⟩] ⟨2,4⟩ = some [⟨2,2⟩,⟨4,2⟩] := by
  unfold coverL
  rw [if_pos (by decide),covGo_step (i := 0) (x := ⟨0,4⟩) (by decide) (by decide) rfl (by decide),covGo_step (i := 1) (x := ⟨4,4⟩) (by decide) (by decide) rfl (by decide),covGo_end (by decide)]
  rfl
theorem kn_1 : mapOk LK 3 2 4 = true := by unfold mapOk coverOk; rw [kn_of,kn_c1]; rfl
theorem kn_2 : mapL LK 3 2 4 = [⟨2,102,2⟩,⟨4,50,2⟩] := by unfold mapL covW coverV; rw [kn_of,kn_c1]; decide
section
variable {l : List TWindow} {s : Int}
end
section
variable {Q : Int → Prop} {a n k z : Nat}
end
end Go.Proofs.Ytlcmbkkimgdnmaa
set_option linter.unusedVariables false
set_option linter.unusedSimpArgs false
namespace Go.Proofs.Ytlcmbkkimgdnmaa
open Go Go.Proofs.Ytlcmbkkimgdnmaa.Pv
def fBit (F n : Int) : Bool := decide (bitI .and .u32 (F / 2 ^ n.toNat) 1 = 0)
def pR (l : List TWindow) (q : TRequest) : List TPiece :=
  if q.fn = 1 then mapL l 0 q.at_ q.count else if q.fn = 2 then mapL l 1 q.at_ q.count else if q.fn = 3 then mapL l 3 q.at_ q.count else if q.fn = 4 then mapL l 2 q.at_ q.count
  else if q.fn = 22 then mapL l 3 q.at_ 1 else if q.fn = 23 then mapL l 3 q.at_ q.count else []
def pW (l : List TWindow) (q : TRequest) : List TPiece :=
  if q.fn = 5 then mapL l 0 q.at_ 1 else if q.fn = 6 then mapL l 3 q.at_ 1 else if q.fn = 15 then mapL l 0 q.at_ q.count else if q.fn = 16 then mapL l 3 q.at_ q.count
  else if q.fn = 22 then mapL l 3 q.at_ 1 else if q.fn = 23 then mapL l 3 q.wAt ((q.vals.length : Nat) : Int) else []
def pOk (l : List TWindow) (q : TRequest) : Bool :=
  if q.fn = 1 then mapOk l 0 q.at_ q.count else if q.fn = 2 then mapOk l 1 q.at_ q.count else if q.fn = 3 then mapOk l 3 q.at_ q.count else if q.fn = 4 then mapOk l 2 q.at_ q.count
  else if q.fn = 5 then mapOk l 0 q.at_ 1 else if q.fn = 6 then mapOk l 3 q.at_ 1 else if q.fn = 15 then mapOk l 0 q.at_ q.count else if q.fn = 16 then mapOk l 3 q.at_ q.count
  else if q.fn = 22 then mapOk l 3 q.at_ 1 else if q.fn = 23 then mapOk l 3 q.wAt ((q.vals.length : Nat) : Int) && mapOk l 3 q.at_ q.count else true
def codeP (F : Int) (l : List TWindow) (q : TRequest) : Int :=
  if rightR q = 15 ∨ fBit F q.fn = true then 1 else if countsR q = false then 3 else if pOk l q = false then 2 else if 6 < (pW l q).length + (pR l q).length then 4 else 0
def rPart (f : Int) (p : TPiece) : TPart := ⟨⟨f,p.physical,p.count,0,0,[],[],0,0⟩,false⟩
def wPart (q : TRequest) (p : TPiece) : TPart :=
  if q.fn = 5 then ⟨⟨5,p.physical,0,0,0,q.bits,[],0,0⟩,true⟩
  else if q.fn = 6 then ⟨⟨6,p.physical,0,0,0,[],q.vals,0,0⟩,true⟩
  else if q.fn = 15 then ⟨⟨15,p.physical,p.count,0,0,(q.bits.drop (p.at_ - q.at_).toNat).take p.count.toNat,[],0,0⟩,true⟩
  else if q.fn = 16 then ⟨⟨16,p.physical,p.count,0,0,[],(q.vals.drop (p.at_ - q.at_).toNat).take p.count.toNat,0,0⟩,true⟩
  else ⟨⟨16,p.physical,p.count,0,0,[],(q.vals.drop (p.at_ - q.wAt).toNat).take p.count.toNat,0,0⟩,true⟩
def pc0 : TPiece := ⟨0,0,0⟩
def partsP (l : List TWindow) (q : TRequest) : List TPart :=
  if q.fn = 22 then [⟨⟨3,((pR l q).getD 0 pc0).physical,1,0,0,[],[],0,0⟩,false⟩,⟨⟨6,((pR l q).getD 0 pc0).physical,0,0,0,[],[0],0,0⟩,true⟩]
  else (pW l q).map (wPart q) ++ (pR l q).map (rPart (if q.fn = 23 then 3 else q.fn))
def splitP (F : Int) (l : List TWindow) (q : TRequest) : List TPart × Int := if codeP F l q = 0 then (partsP l q,0) else ([],codeP F l q)
def spP (n : Int) : Int := if n = 1 ∨ n = 5 ∨ n = 15 then 0 else if n = 2 then 1 else if n = 4 then 2 else 3
theorem spP_0 {n : Int} (h : n = 1 ∨ n = 5 ∨ n = 15) : spP n = 0 := by unfold spP; rw [if_pos h]
theorem spP_1 {n : Int} (h : n = 2) : spP n = 1 := by unfold spP; rw [if_neg (by omega),if_pos h]
theorem spP_2 {n : Int} (h : n = 4) : spP n = 2 := by unfold spP; rw [if_neg (by omega),if_neg (by omega),if_pos h]
theorem spP_3 {n : Int} (h : ¬ (n = 1 ∨ n = 5 ∨ n = 15) ∧ n ≠ 2 ∧ n ≠ 4) : spP n = 3 := by unfold spP; rw [if_neg (by omega),if_neg (by omega),if_neg (by omega)]
def locP (n : Int) : Bool := decide (n = 8) || decide (n = 17)
section
variable {l : List TWindow} {q : TRequest}
theorem pAll_r (h : q.fn = 1 ∨ q.fn = 2 ∨ q.fn = 3 ∨ q.fn = 4) : pW l q = [] ∧ pR l q = mapL l (spP q.fn) q.at_ q.count ∧ pOk l q = mapOk l (spP q.fn) q.at_ q.count := by
  unfold pW pR pOk spP; rcases h with h|h|h|h <;> rw [h] <;> exact ⟨rfl,rfl,rfl⟩
theorem pAll_5 (h : q.fn = 5 ∨ q.fn = 6) : pW l q = mapL l (spP q.fn) q.at_ 1 ∧ pR l q = [] ∧ pOk l q = mapOk l (spP q.fn) q.at_ 1 := by
  unfold pW pR pOk spP; rcases h with h|h <;> rw [h] <;> exact ⟨rfl,rfl,rfl⟩
theorem pAll_15 (h : q.fn = 15 ∨ q.fn = 16) : pW l q = mapL l (spP q.fn) q.at_ q.count ∧ pR l q = [] ∧ pOk l q = mapOk l (spP q.fn) q.at_ q.count := by
  unfold pW pR pOk spP; rcases h with h|h <;> rw [h] <;> exact ⟨rfl,rfl,rfl⟩
theorem pAll_22 (h : q.fn = 22) : pW l q = mapL l 3 q.at_ 1 ∧ pR l q = mapL l 3 q.at_ 1 ∧ pOk l q = mapOk l 3 q.at_ 1 := by
  unfold pW pR pOk; rw [h]; exact ⟨rfl,rfl,rfl⟩
theorem pAll_23 (h : q.fn = 23) : pW l q = mapL l 3 q.wAt ((q.vals.length : Nat) : Int) ∧ pR l q = mapL l 3 q.at_ q.count ∧ pOk l q = (mapOk l 3 q.wAt ((q.vals.length : Nat) : Int) && mapOk l 3 q.at_ q.count) := by
  unfold pW pR pOk; rw [h]; exact ⟨rfl,rfl,rfl⟩
theorem pAll_0 (h : ¬ (q.fn = 1 ∨ q.fn = 2 ∨ q.fn = 3 ∨ q.fn = 4 ∨ q.fn = 5 ∨ q.fn = 6 ∨ q.fn = 15 ∨ q.fn = 16 ∨ q.fn = 22 ∨ q.fn = 23)) : pW l q = [] ∧ pR l q = [] ∧ pOk l q = true := by
  unfold pW pR pOk
  rw [if_neg (by omega),if_neg (by omega),if_neg (by omega),if_neg (by omega),if_neg (by omega),if_neg (by omega),if_neg (by omega),if_neg (by omega),if_neg (by omega),if_neg (by omega),if_neg (by omega),if_neg (by omega),if_neg (by omega),if_neg (by omega),if_neg (by omega),if_neg (by omega),if_neg (by omega),if_neg (by omega),if_neg (by omega),if_neg (by omega),if_neg (by omega),if_neg (by omega)]
  exact ⟨rfl,rfl,rfl⟩
end
section
variable {F : Int} {l : List TWindow} {q : TRequest}
theorem codeP_1 (h : rightR q = 15 ∨ fBit F q.fn = true) : codeP F l q = 1 := by unfold codeP; rw [if_pos h]
theorem codeP_3 (h : ¬ (rightR q = 15 ∨ fBit F q.fn = true)) (h2 : countsR q = false) : codeP F l q = 3 := by unfold codeP; rw [if_neg h,if_pos h2]
theorem codeP_2 (h : ¬ (rightR q = 15 ∨ fBit F q.fn = true)) (h2 : countsR q = true) (h3 : pOk l q = false) : codeP F l q = 2 := by unfold codeP; rw [if_neg h,if_neg (by simp [h2]),if_pos h3]
theorem codeP_4 (h : ¬ (rightR q = 15 ∨ fBit F q.fn = true)) (h2 : countsR q = true) (h3 : pOk l q = true) (h4 : 6 < (pW l q).length + (pR l q).length) : codeP F l q = 4 := by unfold codeP; rw [if_neg h,if_neg (by simp [h2]),if_neg (by simp [h3]),if_pos h4]
theorem codeP_0 (h : ¬ (rightR q = 15 ∨ fBit F q.fn = true)) (h2 : countsR q = true) (h3 : pOk l q = true) (h4 : ¬ 6 < (pW l q).length + (pR l q).length) : codeP F l q = 0 := by unfold codeP; rw [if_neg h,if_neg (by simp [h2]),if_neg (by simp [h3]),if_neg h4]
theorem codeP_zero (h : codeP F l q = 0) : ¬ (rightR q = 15 ∨ fBit F q.fn = true) ∧ countsR q = true ∧ pOk l q = true ∧ (pW l q).length + (pR l q).length ≤ 6 := by
  unfold codeP at h
  split at h
  · cases h
  · rename_i h1
    split at h
    · cases h
    · rename_i h2
      split at h
      · cases h
      · rename_i h3
        split at h
        · cases h
        · rename_i h4
          exact ⟨h1,by simpa using h2,by simpa using h3,by omega⟩
theorem counts_right (h : countsR q = true) : rightR q = 0 := by
  unfold countsR at h
  rw [Bool.and_eq_true] at h
  exact of_decide_eq_true h.1
theorem split_no (h : ¬ codeP F l q = 0) : splitP F l q = ([],codeP F l q) := by unfold splitP; rw [if_neg h]
theorem split_yes (h : codeP F l q = 0) : splitP F l q = (partsP l q,0) := by unfold splitP; rw [if_pos h]
theorem mapL_no {s a n : Int} (h : mapOk l s a n = false) : mapL l s a n = [] := by
  unfold mapL covW coverV
  unfold mapOk coverOk at h
  rw [Option.isSome_eq_false_iff,Option.isNone_iff_eq_none] at h
  rw [h]; rfl
def chainP : Int → List TSpan → Int → Prop
  | v,[],e => v = e
  | v,p :: t,e => p.at_ = v ∧ 1 ≤ p.count ∧ chainP (v + p.count) t e
theorem covGo_chain (L : List TSpan) (e : Int) : ∀ (n : Nat) (v : Int) (os : List TSpan),(e - v).toNat ≤ n → v ≤ e → covGo L e v = some os → chainP v os e
  | n,v,os,hn,hve,h => by
    rw [covGo] at h
    split at h
    · rename_i hv
      split at h
      · cases h
      · rename_i i hi
        split at h
        · rename_i hlt
          simp only [Option.map_eq_some_iff] at h
          obtain ⟨t,h1,rfl⟩ := h
          match n,hn with
          | 0,hn => omega
          | n + 1,hn =>
            refine ⟨rfl,by simp only; omega, ?_⟩
            simp only
            rw [show v + (min ((L.getD i sp0).at_ + (L.getD i sp0).count) e - v) = min ((L.getD i sp0).at_ + (L.getD i sp0).count) e by omega]
            exact covGo_chain L e n _ t (by omega) (by omega) h1
        · cases h
    · cases h; exact (by omega : v = e)
def sumC : List TPiece → Int
  | [] => 0
  | p :: t => p.count + sumC t
theorem sumC_append (a b : List TPiece) : sumC (a ++ b) = sumC a + sumC b := by
  induction a with
  | nil => simp [sumC]
  | cons p t ih => simp only [List.cons_append,sumC,ih]; omega
def chainQ : Int → List TPiece → Int → Prop
  | v,[],e => v = e
  | v,p :: t,e => p.at_ = v ∧ 1 ≤ p.count ∧ chainQ (v + p.count) t e
theorem chain_map {g : TSpan → TPiece} : ∀ {os : List TSpan} {v e : Int},(∀ p ∈ os,(g p).at_ = p.at_ ∧ (g p).count = p.count) → chainP v os e → chainQ v (os.map g) e
  | [],v,e,_,h => h
  | p :: t,v,e,hg,⟨h1,h2,h3⟩ => by
    obtain ⟨g1,g2⟩ := hg p List.mem_cons_self
    refine ⟨by rw [g1,h1],by rw [g2]; exact h2, ?_⟩
    rw [g2]
    exact chain_map (fun q hq => hg q (List.mem_cons_of_mem _ hq)) h3
theorem chain_at : ∀ {os : List TPiece} {v e : Int},chainQ v os e → ∀ {j : Nat} {p : TPiece},os[j]? = some p → p.at_ = v + sumC (os.take j) ∧ 1 ≤ p.count ∧ p.at_ + p.count ≤ e
  | [],v,e,_,j,p,h => by simp at h
  | x :: t,v,e,⟨h1,h2,h3⟩,0,p,h => by
    simp only [List.getElem?_cons_zero,Option.some.injEq] at h
    subst h
    refine ⟨by simp [sumC,h1],h2, ?_⟩
    have := chain_end h3
    omega
  | x :: t,v,e,⟨h1,h2,h3⟩,j + 1,p,h => by
    rw [List.getElem?_cons_succ] at h
    obtain ⟨a,b,c⟩ := chain_at h3 h
    refine ⟨?_,b,c⟩
    rw [a,List.take_succ_cons]
    simp only [sumC]; omega
where
  chain_end : ∀ {os : List TPiece} {v e : Int},chainQ v os e → v ≤ e
    | [],v,e,h => by have h : v = e := h; omega
    | p :: t,v,e,⟨_,h2,h3⟩ => by have := chain_end h3; omega
theorem pieceW_at {s a n : Int} {p : TSpan} (hp : p ∈ covW l s a n) : (pieceW (ofL l s) p).at_ = p.at_ ∧ (pieceW (ofL l s) p).count = p.count := by
  obtain ⟨i,w,_,_,_,_,hpc,_⟩ := piece_of hp
  rw [hpc]; exact ⟨rfl,rfl⟩
theorem map_chain {s a n : Int} (h : mapOk l s a n = true) : chainQ a (mapL l s a n) (a + n) := by
  unfold mapOk coverOk coverL at h
  split at h
  case isFalse => cases h
  rename_i hsp
  have h1 := (spOk_iff _).1 hsp.1
  cases hg : covGo ((ofL l s).map vSp) (a + n) a with
  | none => simp only at h; rw [hg] at h; cases h
  | some os =>
    have hcv : covW l s a n = os := by unfold covW coverV coverL; rw [if_pos hsp]; simp only; rw [hg]; rfl
    have hc := covGo_chain _ _ _ a os (Nat.le_refl _) (by simp only at h1; omega) hg
    unfold mapL
    rw [hcv]
    exact chain_map (fun p hp => pieceW_at (by rw [hcv]; exact hp)) hc
theorem mapL_get {s a n : Int} {j : Nat} {x : TPiece} (h : (mapL l s a n)[j]? = some x) : mapOk l s a n = true ∧ x.at_ = a + sumC ((mapL l s a n).take j) ∧ 1 ≤ x.count ∧ a ≤ x.at_ ∧ x.at_ + x.count ≤ a + n ∧
    ∃ w ∈ ofL l s,winR w = true ∧ w.space = s ∧ w ∈ l ∧ w.physical ≤ x.physical ∧ x.physical + x.count ≤ w.physical + w.count := by
  cases hok : mapOk l s a n with
  | false => rw [mapL_no hok] at h; simp at h
  | true =>
    obtain ⟨h1,h2,h3⟩ := chain_at (map_chain hok) h
    unfold mapL at h
    rw [List.getElem?_map] at h
    obtain ⟨p,hp,rfl⟩ := Option.map_eq_some_iff.1 h
    have hm := List.mem_of_getElem? hp
    obtain ⟨i,w,hw,_,_,_,hpc,m1,m2,m3,v1,v2,v3,v4,v5⟩ := piece_of hm
    refine ⟨rfl,h1,h2,by rw [hpc]; exact v4,h3,w,List.mem_of_getElem? hw,m1,m2,m3, ?_⟩
    rw [hpc]; simp only; omega
theorem mapL_one {s a : Int} (h : mapOk l s a 1 = true) : (mapL l s a 1).length = 1 ∧ ∀ x,(mapL l s a 1)[0]? = some x → x.count = 1 := by
  have hc := map_chain h
  match hm : mapL l s a 1,hc with
  | [],hc => have hc : a = a + 1 := hc; omega
  | [p],⟨h1,h2,h3⟩ =>
    have h3 : a + p.count = a + 1 := h3
    exact ⟨rfl,fun x hx => by simp at hx; subst hx; omega⟩
  | p :: q :: t,⟨h1,h2,h3,h4,h5⟩ =>
    have := chain_at.chain_end h5
    omega
theorem mapL_len (l : List TWindow) (s a n : Int) : (mapL l s a n).length ≤ 2147483648 := by unfold mapL; rw [List.length_map]; exact covW_len _ _ _ _
end
end Go.Proofs.Ytlcmbkkimgdnmaa
set_option linter.unusedVariables false
set_option linter.unusedSimpArgs false
namespace Go.Proofs.Ytlcmbkkimgdnmaa
open Go Go.Proofs.Ytlcmbkkimgdnmaa.Pv
theorem cnt_bad {q : TRequest} (h : ((!decide (rightR q = 0)) || (!(countsR q))) = true) : countsR q = false := by
  cases hc : countsR q with
  | false => rfl
  | true => rw [counts_right hc,hc] at h; cases h
theorem right_15 {q : TRequest} (h : ¬ rightR q = 15) : hasF q.fn = true := by
  cases hf : hasF q.fn with
  | true => rfl
  | false => exact absurd (rightR_1 (by rw [hf]; rfl)) h
theorem right_no {q : TRequest} (h : hasF q.fn = false) : rightR q = 15 := rightR_1 (by rw [h]; rfl)
theorem right_not15 {q : TRequest} (h : hasF q.fn = true) : ¬ rightR q = 15 := by
  intro h2
  unfold rightR at h2
  rw [if_neg (by simp [h])] at h2
  split at h2
  · cases h2
  · split at h2 <;> cases h2
theorem counts_has {q : TRequest} (h : countsR q = true) : hasF q.fn = true := (rightR_zero (counts_right h)).1
def cntP (n a b : Int) : Int := if n = 5 ∨ n = 6 then 1 else if n = 22 then 2 else a + b
theorem cntP_5 {n a b : Int} (h : n = 5 ∨ n = 6) : cntP n a b = 1 := by unfold cntP; rw [if_pos h]
theorem cntP_22 {n a b : Int} (h : n = 22) : cntP n a b = 2 := by unfold cntP; rw [if_neg (by omega),if_pos h]
theorem cntP_0 {n a b : Int} (h : ¬ (n = 5 ∨ n = 6 ∨ n = 22)) : cntP n a b = a + b := by unfold cntP; rw [if_neg (by omega),if_neg (by omega)]
def spR (n : Int) : Int := if n = 1 then 0 else if n = 2 then 1 else if n = 3 then 3 else if n = 4 then 2 else if n = 22 ∨ n = 23 then 3 else -1
def spW (n : Int) : Int := if n = 5 ∨ n = 15 then 0 else if n = 6 ∨ n = 16 then 3 else if n = 22 ∨ n = 23 then 3 else -1
def askA (q : TRequest) : Int := if q.fn = 1 ∨ q.fn = 2 ∨ q.fn = 3 ∨ q.fn = 4 ∨ q.fn = 22 ∨ q.fn = 23 then q.at_ else 0
def askN (q : TRequest) : Int := if q.fn = 1 ∨ q.fn = 2 ∨ q.fn = 3 ∨ q.fn = 4 ∨ q.fn = 23 then q.count else if q.fn = 22 then 1 else 0
def askW (q : TRequest) : Int := if q.fn = 5 ∨ q.fn = 6 ∨ q.fn = 15 ∨ q.fn = 16 ∨ q.fn = 22 then q.at_ else if q.fn = 23 then q.wAt else 0
def askM (q : TRequest) : Int := if q.fn = 5 ∨ q.fn = 6 ∨ q.fn = 22 then 1 else if q.fn = 15 ∨ q.fn = 16 then q.count else if q.fn = 23 then ((q.vals.length : Nat) : Int) else 0
section
variable {l : List TWindow} {q : TRequest}
theorem ref_all (h : hasF q.fn = true) : pR l q = (if 0 ≤ spR q.fn then mapL l (spR q.fn) (askA q) (askN q) else []) ∧ pW l q = (if 0 ≤ spW q.fn then mapL l (spW q.fn) (askW q) (askM q) else []) ∧
    pOk l q = ((if 0 ≤ spR q.fn then mapOk l (spR q.fn) (askA q) (askN q) else true) && (if 0 ≤ spW q.fn then mapOk l (spW q.fn) (askW q) (askM q) else true)) := by
  unfold pR pW pOk spR spW askA askN askW askM
  rcases hasF_of h with h|h|h|h|h|h|h|h|h|h|h|h <;> rw [h] <;> refine ⟨rfl,rfl, ?_⟩
  case inr.inr.inr.inr.inr.inr.inr.inr.inr.inr.inl => exact (Bool.and_self _).symm
  case inr.inr.inr.inr.inr.inr.inr.inr.inr.inr.inr => exact Bool.and_comm _ _
  all_goals first|rfl|exact (Bool.and_true _).symm|exact (Bool.true_and _).symm
theorem ref_A1 (h : hasF q.fn = true) (h2 : 0 ≤ spR q.fn) : mapL l (spR q.fn) (askA q) (askN q) = pR l q := by rw [(ref_all h).1,if_pos h2]
theorem ref_A0 (h : hasF q.fn = true) (h2 : ¬ 0 ≤ spR q.fn) : [] = pR l q := by rw [(ref_all h).1,if_neg h2]
theorem ref_B1 (h : hasF q.fn = true) (h2 : 0 ≤ spW q.fn) : mapL l (spW q.fn) (askW q) (askM q) = pW l q := by rw [(ref_all h).2.1,if_pos h2]
theorem ref_B0 (h : hasF q.fn = true) (h2 : ¬ 0 ≤ spW q.fn) : [] = pW l q := by rw [(ref_all h).2.1,if_neg h2]
theorem ref_O11 (h : hasF q.fn = true) (h2 : 0 ≤ spR q.fn) (h3 : 0 ≤ spW q.fn) : (mapOk l (spR q.fn) (askA q) (askN q) && mapOk l (spW q.fn) (askW q) (askM q)) = pOk l q := by rw [(ref_all h).2.2,if_pos h2,if_pos h3]
theorem ref_O10 (h : hasF q.fn = true) (h2 : 0 ≤ spR q.fn) (h3 : ¬ 0 ≤ spW q.fn) : mapOk l (spR q.fn) (askA q) (askN q) = pOk l q := by rw [(ref_all h).2.2,if_pos h2,if_neg h3,Bool.and_true]
theorem ref_O01 (h : hasF q.fn = true) (h2 : ¬ 0 ≤ spR q.fn) (h3 : 0 ≤ spW q.fn) : mapOk l (spW q.fn) (askW q) (askM q) = pOk l q := by rw [(ref_all h).2.2,if_neg h2,if_pos h3,Bool.true_and]
theorem ref_O00 (h : hasF q.fn = true) (h2 : ¬ 0 ≤ spR q.fn) (h3 : ¬ 0 ≤ spW q.fn) : true = pOk l q := by rw [(ref_all h).2.2,if_neg h2,if_neg h3]; rfl
theorem p_one (h : q.fn = 5 ∨ q.fn = 6 ∨ q.fn = 22) (h2 : pOk l q = true) : (pW l q).length = 1 ∧ (∀ x,(pW l q)[0]? = some x → x.count = 1) ∧ (q.fn = 22 → pR l q = pW l q) ∧ (q.fn ≠ 22 → pR l q = []) := by
  by_cases h22 : q.fn = 22
  · obtain ⟨a,b,c⟩ := pAll_22 (l := l) h22
    rw [c] at h2
    have := mapL_one h2
    rw [a,b]
    exact ⟨this.1,this.2,fun _ => rfl,fun hn => absurd h22 hn⟩
  · obtain ⟨a,b,c⟩ := pAll_5 (l := l) (q := q) (by omega)
    rw [c] at h2
    have := mapL_one h2
    rw [a,b]
    exact ⟨this.1,this.2,fun hn => absurd hn h22,fun _ => rfl⟩
theorem cnt_same (hf : hasF q.fn = true) (h2 : pOk l q = true) : ((!(locP q.fn)) && decide (6 < cntP q.fn (((pR l q).length : Nat) : Int) (((pW l q).length : Nat) : Int))) = decide (6 < (pW l q).length + (pR l q).length) := by
  have hc := hasF_of hf
  by_cases h5 : q.fn = 5 ∨ q.fn = 6 ∨ q.fn = 22
  · obtain ⟨a,_,b,c⟩ := p_one h5 h2
    by_cases h22 : q.fn = 22
    · rw [cntP_22 h22,b h22,a]; simp
    · rw [cntP_5 (by omega),c h22,a]; simp
  · rw [cntP_0 (by omega)]
    unfold locP
    by_cases h8 : q.fn = 8 ∨ q.fn = 17
    · obtain ⟨a,b,_⟩ := pAll_0 (l := l) (q := q) (by omega)
      rw [a,b]; simp
    · have e8 : decide (q.fn = 8) = false := decide_eq_false (by omega)
      have e17 : decide (q.fn = 17) = false := decide_eq_false (by omega)
      rw [e8,e17]
      simp only [Bool.or_false,Bool.not_false,Bool.true_and]
      apply decide_eq_decide.2; omega
theorem pW_get (hc : countsR q = true) {i : Nat} {x : TPiece} (h : (pW l q)[i]? = some x) : 1 ≤ x.count ∧ x.count ≤ 65536 ∧ 0 ≤ x.physical ∧ x.physical + x.count ≤ 512 ∧ (q.fn = 5 ∨ q.fn = 6 ∨ q.fn = 15 ∨ q.fn = 16 ∨ q.fn = 22 ∨ q.fn = 23) ∧
    (q.fn = 15 → q.at_ ≤ x.at_ ∧ x.at_ + x.count ≤ q.at_ + q.count ∧ (q.bits.length : Int) = q.count ∧ x.at_ - q.at_ = sumC ((pW l q).take i)) ∧ (q.fn = 16 → q.at_ ≤ x.at_ ∧ x.at_ + x.count ≤ q.at_ + q.count ∧ (q.vals.length : Int) = q.count ∧ x.at_ - q.at_ = sumC ((pW l q).take i)) ∧
    (q.fn = 23 → q.wAt ≤ x.at_ ∧ x.at_ + x.count ≤ q.wAt + ((q.vals.length : Nat) : Int) ∧ x.at_ - q.wAt = sumC ((pW l q).take i)) := by
  have hr := counts_right hc
  have hh := hasF_of (rightR_zero hr).1
  have hs := (rightR_zero hr).2
  have hsb := hs.bits
  have hsv := hs.vals
  have key : ∀ {s a n : Int},pW l q = mapL l s a n → mapOk l s a n = true ∧ x.at_ = a + sumC ((pW l q).take i) ∧ 1 ≤ x.count ∧ a ≤ x.at_ ∧ x.at_ + x.count ≤ a + n ∧ 0 ≤ x.physical ∧ x.physical + x.count ≤ 512 := by
    intro s a n e
    rw [e] at h ⊢
    obtain ⟨k1,k2,k3,k4,k5,w,hw,m1,m2,m3,m4,m5⟩ := mapL_get h
    have := (winR_iff w).1 m1
    exact ⟨k1,k2,k3,k4,k5,by omega,by omega⟩
  by_cases h5 : q.fn = 5 ∨ q.fn = 6
  · obtain ⟨_,k2,k3,k4,k5,k6,k7⟩ := key (pAll_5 (l := l) h5).1
    exact ⟨k3,by omega,k6,k7,by omega,by omega,by omega,by omega⟩
  by_cases h15 : q.fn = 15 ∨ q.fn = 16
  · obtain ⟨_,k2,k3,k4,k5,k6,k7⟩ := key (pAll_15 (l := l) h15).1
    refine ⟨k3,by omega,k6,k7,by omega,fun h => ⟨k4,k5, ?_,by omega⟩,fun h => ⟨k4,k5, ?_,by omega⟩,by omega⟩
    · rw [if_neg (by omega),if_pos h] at hsb; exact hsb.1
    · rw [if_neg (by omega),if_pos h] at hsv; exact hsv.1
  by_cases h22 : q.fn = 22
  · obtain ⟨_,k2,k3,k4,k5,k6,k7⟩ := key (pAll_22 (l := l) h22).1
    exact ⟨k3,by omega,k6,k7,by omega,by omega,by omega,by omega⟩
  by_cases h23 : q.fn = 23
  · obtain ⟨_,k2,k3,k4,k5,k6,k7⟩ := key (pAll_23 (l := l) h23).1
    exact ⟨k3,by omega,k6,k7,by omega,by omega,by omega,fun _ => ⟨k4,k5,by omega⟩⟩
  · by_cases h1 : q.fn = 1 ∨ q.fn = 2 ∨ q.fn = 3 ∨ q.fn = 4
    · rw [(pAll_r (l := l) h1).1] at h; simp at h
    · rw [(pAll_0 (l := l) (q := q) (by omega)).1] at h; simp at h
theorem p_len (l : List TWindow) (q : TRequest) : (pW l q).length ≤ 2147483648 ∧ (pR l q).length ≤ 2147483648 := by
  have h := mapL_len
  unfold pW pR
  constructor
  · repeat' split
    all_goals first|exact h _ _ _ _|exact Nat.zero_le _
  · repeat' split
    all_goals first|exact h _ _ _ _|exact Nat.zero_le _
variable {p : TPiece}
theorem wPart_5 (h : q.fn = 5) : wPart q p = ⟨⟨5,p.physical,0,0,0,q.bits,[],0,0⟩,true⟩ := by unfold wPart; rw [if_pos h]
theorem wPart_6 (h : q.fn = 6) : wPart q p = ⟨⟨6,p.physical,0,0,0,[],q.vals,0,0⟩,true⟩ := by unfold wPart; rw [if_neg (by omega),if_pos h]
theorem wPart_15 (h : q.fn = 15) : wPart q p = ⟨⟨15,p.physical,p.count,0,0,(q.bits.drop (p.at_ - q.at_).toNat).take p.count.toNat,[],0,0⟩,true⟩ := by unfold wPart; rw [if_neg (by omega),if_neg (by omega),if_pos h]
theorem wPart_16 (h : q.fn = 16) : wPart q p = ⟨⟨16,p.physical,p.count,0,0,[],(q.vals.drop (p.at_ - q.at_).toNat).take p.count.toNat,0,0⟩,true⟩ := by unfold wPart; rw [if_neg (by omega),if_neg (by omega),if_neg (by omega),if_pos h]
theorem wPart_23 (h : q.fn = 23) : wPart q p = ⟨⟨16,p.physical,p.count,0,0,[],(q.vals.drop (p.at_ - q.wAt).toNat).take p.count.toNat,0,0⟩,true⟩ := by unfold wPart; rw [if_neg (by omega),if_neg (by omega),if_neg (by omega),if_neg (by omega)]
theorem wPart_eta (q : TRequest) (p : TPiece) : (⟨(wPart q p).request,true⟩ : TPart) = wPart q p := by
  unfold wPart
  repeat' split
  all_goals rfl
theorem parts_22 (h : q.fn = 22) {x : TPiece} (hx : (pR l q)[0]? = some x) (hc : x.count = 1) : partsP l q = [rPart 3 x,⟨⟨6,x.physical,0,0,0,[],[0],0,0⟩,true⟩] := by
  unfold partsP rPart
  rw [if_pos h,List.getD_eq_getElem?_getD,hx,hc]; rfl
theorem parts_22r (h : q.fn = 22) {x : TPiece} (hx : (pR l q)[0]? = some x) : partsP l q = [⟨⟨3,x.physical,1,0,0,[],[],0,0⟩,false⟩,⟨⟨6,x.physical,0,0,0,[],[0],0,0⟩,true⟩] := by
  unfold partsP
  rw [if_pos h,List.getD_eq_getElem?_getD,hx]; rfl
theorem parts_no (h : ¬ q.fn = 22) : partsP l q = (pW l q).map (wPart q) ++ (pR l q).map (rPart (if q.fn = 23 then 3 else q.fn)) := by unfold partsP; rw [if_neg h]
theorem cut_two {α : Type} (l : List α) {d n e : Nat} (h : e = d + n) : (l.take e).drop d = (l.drop d).take n := by
  subst h
  rw [List.drop_take,Nat.add_sub_cancel_left]
theorem cut_dn {α : Type} (l : List α) {d a b n : Int} (h : d = a - b) (hd : 0 ≤ d) (hn : 0 ≤ n) : (l.take (d + n).toNat).drop d.toNat = (l.drop (a - b).toNat).take n.toNat := by
  subst h
  exact cut_two l (by omega)
theorem sum_snoc {m : List TPiece} {i : Nat} {x : TPiece} (h : m[i]? = some x) {d : Int} (hd : d = sumC (m.take i)) : d + x.count = sumC (m.take (i + 1)) := by
  rw [List.take_add_one,h,sumC_append,hd]
  simp [sumC]
variable {F : Int}
theorem split_ref (h : ((!decide (codeP F l q = 0)) || locP q.fn) = true) : splitP F l q = ([],codeP F l q) := by
  by_cases h0 : codeP F l q = 0
  · rw [h0] at h
    have hl : locP q.fn = true := by simpa using h
    unfold locP at hl
    simp only [Bool.or_eq_true,decide_eq_true_eq] at hl
    obtain ⟨a,b,_⟩ := pAll_0 (l := l) (q := q) (by omega)
    rw [split_yes h0,parts_no (by omega),a,b,h0]; rfl
  · exact split_no h0
theorem split_ref0 (h : ((!decide (codeP F l q = 0)) || locP q.fn) = false) : codeP F l q = 0 ∧ q.fn ≠ 8 ∧ q.fn ≠ 17 := by
  rw [Bool.or_eq_false_iff] at h
  obtain ⟨h1,h2⟩ := h
  unfold locP at h2
  rw [Bool.or_eq_false_iff] at h2
  exact ⟨by simpa using h1,of_decide_eq_false h2.1,of_decide_eq_false h2.2⟩
theorem parts_5 (hc : countsR q = true) (h : q.fn = 5 ∨ q.fn = 6) (h2 : pOk l q = true) {x : TPiece} (hx : (pW l q)[0]? = some x) : partsP l q = [⟨⟨q.fn,x.physical,0,0,0,q.bits,q.vals,0,0⟩,true⟩] := by
  obtain ⟨a,_,_,c⟩ := p_one (l := l) (q := q) (by omega) h2
  have hs := (rightR_zero (counts_right hc)).2
  have hsb := hs.bits
  have hsv := hs.vals
  have hw : pW l q = [x] := by
    match hm : pW l q,a with
    | [y],_ => rw [hm] at hx; simp at hx; rw [hx]
  rw [parts_no (by omega),hw,c (by omega)]
  rcases h with h|h
  · rw [if_neg (by omega),if_neg (by omega),if_neg (by omega)] at hsv
    rw [List.map_singleton,wPart_5 h,h,List.eq_nil_of_length_eq_zero hsv]; rfl
  · rw [if_neg (by omega),if_neg (by omega)] at hsb
    rw [List.map_singleton,wPart_6 h,h,List.eq_nil_of_length_eq_zero hsb]; rfl
theorem wPart_len (q : TRequest) (p : TPiece) : (wPart q p).request.bits.length ≤ q.bits.length ∧ (wPart q p).request.vals.length ≤ q.vals.length := by
  unfold wPart
  repeat' split
  all_goals first|exact ⟨Nat.le_refl _,Nat.zero_le _⟩|exact ⟨Nat.zero_le _,Nat.le_refl _⟩|exact ⟨by simp only [List.length_take,List.length_drop]; omega,Nat.zero_le _⟩|exact ⟨Nat.zero_le _,by simp only [List.length_take,List.length_drop]; omega⟩
theorem split_len (F : Int) (l : List TWindow) (q : TRequest) : (splitP F l q).1.length ≤ 6 ∧ ∀ p ∈ (splitP F l q).1,p.request.bits.length ≤ 2040 ∧ p.request.vals.length ≤ 127 := by
  by_cases h0 : codeP F l q = 0
  · obtain ⟨hno,hcy,hpy,hle⟩ := codeP_zero h0
    have hsm := shape_small (rightR_zero (counts_right hcy)).2
    rw [split_yes h0]
    by_cases h22 : q.fn = 22
    · unfold partsP
      rw [if_pos h22]
      refine ⟨by simp,fun p hp => ?_⟩
      simp only [List.mem_cons,List.not_mem_nil,or_false] at hp
      rcases hp with rfl|rfl
      · exact ⟨Nat.zero_le _,Nat.zero_le _⟩
      · exact ⟨Nat.zero_le _,by simp⟩
    · rw [parts_no h22]
      refine ⟨by simp; omega,fun p hp => ?_⟩
      simp only at hp
      rcases List.mem_append.1 hp with h|h
      · obtain ⟨x,_,rfl⟩ := List.mem_map.1 h
        have := wPart_len q x
        omega
      · obtain ⟨x,_,rfl⟩ := List.mem_map.1 h
        exact ⟨Nat.zero_le _,Nat.zero_le _⟩
  · rw [split_no h0]
    exact ⟨Nat.zero_le _,fun p hp => by cases hp⟩
end
end Go.Proofs.Ytlcmbkkimgdnmaa
