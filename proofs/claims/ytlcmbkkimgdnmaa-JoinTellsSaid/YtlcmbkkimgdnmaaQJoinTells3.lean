/- What the law JoinTells needs, and no more: merged out of texts of this session by a program of it (wip/tools/prune.py). -/
import Derived.Test.YtlcmbkkimgdnmaaQJoinTells2
set_option linter.unusedVariables false
set_option linter.unusedSimpArgs false
set_option maxRecDepth 10000
set_option maxHeartbeats 1000000
namespace Go.Proofs.Ytlcmbkkimgdnmaa
open Go Go.Proofs.Ytlcmbkkimgdnmaa.Pv
theorem w_burgageref3_Counts (r : TRequest) (hb : r.bits.length ≤ 140737488351232) (hv : r.vals.length ≤ 140737488351232) :
    T Try.prog 58 [PV.f (eRequest r)] 0 [] (Ret (pB (countsR r)) 0 []) := by
 refine t_fun tabOk (n := 65) (rs := [.tmp 2]) Try.func58 rfl rfl rfl rfl (nb rfl) ?_
 intro c hnt hk
 refine sr (qo hnt rfl (s_box rfl rfl ?_))
 refine qa hnt rfl rfl (r_set [(1,PV.ptr 0 0)] [(0,.obj (cRequest r))] 1 ⟨rfl,trivial⟩ rfl rfl (re (w_seq (sr (xp hnt 1 [.o 1] [] [(4,PV.f (eRequest r))] ?_)))))
 refine qo hnt rfl (s_callF rfl rfl rfl (w_burgageref3_Right r (by omega) (by omega)) rfl ?_)
 refine qo hnt rfl (s_neq rfl rfl ?_)
 refine re (w_if rfl (fun c1 => ?_) (fun c1 => ?_))
 ·have c1_ := c1
  try simp only [sB] at c1
  exact sr (ae hnt rfl rfl (w_le (s := 2) (y := pB (countsR r)) rfl (le_of_eq (congrArg pB (show false = (countsR r) by exact (counts_no (by assumption)).symm))) (w_ret (q_then_ret fp))))
 have c1_ := c1
 try simp only [sB] at c1
 refine w_skip (q_then (sr (xp hnt 3 [.o 3] [] [(3,pI r.count)] (re (w_seq ?_)))))
 refine sr (xp hnt 2 [.o 2] [] [(10,pI r.fn)] (re (w_block (w_seq (sr ?_)))))
 refine xp hnt 2 [.o 2] [] [(11,pB (decide (r.fn = 1)))] (re (w_if rfl (fun c2 => ?_) (fun c2 => ?_)))
 ·have c2_ := c2
  try simp only [sB] at c2
  refine w_skip (q_then (w_if rfl (fun _ => ?_) (fun e => absurd (e.symm.trans c2_) (by decide))))
  refine sr (xp hnt 7 [.o 3,.b 2 [.o 2],.o 1] [] [(2,pB ((decide (1 ≤ r.count)) && (decide (r.count ≤ 2000))))] (re (w_le (s := 2) (y := pB (countsR r)) rfl (le_of_eq (congrArg pB (show ((decide (1 ≤ r.count)) && (decide (r.count ≤ 2000))) = (countsR r) by (rw [counts_yes (by first|assumption|simpa using c1_)]; unfold manyOk; first|exact (decide_eq_true (by omega)).symm|exact (decide_eq_false (by omega)).symm|(apply Bool.eq_iff_iff.2; simp only [Bool.and_eq_true,Bool.or_eq_true,decide_eq_true_eq,Bool.not_eq_true',decide_eq_false_iff_not]; try omega))))) (w_ret (q_block_ret ?_)))))
  exact q_then_ret fp
 have c2_ := c2
 try simp only [sB] at c2
 refine w_R (qo hnt rfl (s_eql rfl rfl ?_))
 refine ae hnt rfl rfl (w_if rfl (fun c3 => ?_) (fun c3 => ?_))
 ·have c3_ := c3
  try simp only [sB] at c3
  refine sr (xp hnt 7 [.o 3,.b 2 [.o 2],.o 1] [] [(2,pB ((decide (1 ≤ r.count)) && (decide (r.count ≤ 2000))))] (re (w_le (s := 2) (y := pB (countsR r)) rfl (le_of_eq (congrArg pB (show ((decide (1 ≤ r.count)) && (decide (r.count ≤ 2000))) = (countsR r) by (rw [counts_yes (by first|assumption|simpa using c1_)]; unfold manyOk; first|exact (decide_eq_true (by omega)).symm|exact (decide_eq_false (by omega)).symm|(apply Bool.eq_iff_iff.2; simp only [Bool.and_eq_true,Bool.or_eq_true,decide_eq_true_eq,Bool.not_eq_true',decide_eq_false_iff_not]; try omega))))) (w_ret (q_block_ret ?_)))))
  exact q_then_ret fp
 have c3_ := c3
 try simp only [sB] at c3
 refine w_seq (sr (xp hnt 2 [.o 2] [] [(20,pB (decide (r.fn = 3)))] (re (w_if rfl (fun c4 => ?_) (fun c4 => ?_)))))
 ·have c4_ := c4
  try simp only [sB] at c4
  refine w_skip (q_then (w_if rfl (fun _ => ?_) (fun e => absurd (e.symm.trans c4_) (by decide))))
  refine sr (xp hnt 7 [.o 3,.b 2 [.o 2],.o 1] [] [(2,pB ((decide (1 ≤ r.count)) && (decide (r.count ≤ 125))))] (re (w_le (s := 2) (y := pB (countsR r)) rfl (le_of_eq (congrArg pB (show ((decide (1 ≤ r.count)) && (decide (r.count ≤ 125))) = (countsR r) by (rw [counts_yes (by first|assumption|simpa using c1_)]; unfold manyOk; first|exact (decide_eq_true (by omega)).symm|exact (decide_eq_false (by omega)).symm|(apply Bool.eq_iff_iff.2; simp only [Bool.and_eq_true,Bool.or_eq_true,decide_eq_true_eq,Bool.not_eq_true',decide_eq_false_iff_not]; try omega))))) (w_ret (q_block_ret ?_)))))
  exact q_then_ret fp
 have c4_ := c4
 try simp only [sB] at c4
 refine w_R (qo hnt rfl (s_eql rfl rfl ?_))
 refine ae hnt rfl rfl (w_if rfl (fun c5 => ?_) (fun c5 => ?_))
 ·have c5_ := c5
  try simp only [sB] at c5
  refine sr (xp hnt 7 [.o 3,.b 2 [.o 2],.o 1] [] [(2,pB ((decide (1 ≤ r.count)) && (decide (r.count ≤ 125))))] (re (w_le (s := 2) (y := pB (countsR r)) rfl (le_of_eq (congrArg pB (show ((decide (1 ≤ r.count)) && (decide (r.count ≤ 125))) = (countsR r) by (rw [counts_yes (by first|assumption|simpa using c1_)]; unfold manyOk; first|exact (decide_eq_true (by omega)).symm|exact (decide_eq_false (by omega)).symm|(apply Bool.eq_iff_iff.2; simp only [Bool.and_eq_true,Bool.or_eq_true,decide_eq_true_eq,Bool.not_eq_true',decide_eq_false_iff_not]; try omega))))) (w_ret (q_block_ret ?_)))))
  exact q_then_ret fp
 have c5_ := c5
 try simp only [sB] at c5
 refine sr (qo hnt rfl (s_eql rfl rfl ?_))
 refine ae hnt rfl rfl (w_if rfl (fun c6 => ?_) (fun c6 => ?_))
 ·have c6_ := c6
  try simp only [sB] at c6
  refine sr (xp hnt 7 [.o 3,.b 2 [.o 2],.o 1] [] [(2,pB ((decide (1 ≤ r.count)) && (decide (r.count ≤ 1968))))] (re (w_le (s := 2) (y := pB (countsR r)) rfl (le_of_eq (congrArg pB (show ((decide (1 ≤ r.count)) && (decide (r.count ≤ 1968))) = (countsR r) by (rw [counts_yes (by first|assumption|simpa using c1_)]; unfold manyOk; first|exact (decide_eq_true (by omega)).symm|exact (decide_eq_false (by omega)).symm|(apply Bool.eq_iff_iff.2; simp only [Bool.and_eq_true,Bool.or_eq_true,decide_eq_true_eq,Bool.not_eq_true',decide_eq_false_iff_not]; try omega))))) (w_ret (q_block_ret ?_)))))
  exact q_then_ret fp
 have c6_ := c6
 try simp only [sB] at c6
 refine sr (qo hnt rfl (s_eql rfl rfl ?_))
 refine ae hnt rfl rfl (w_if rfl (fun c7 => ?_) (fun c7 => ?_))
 ·have c7_ := c7
  try simp only [sB] at c7
  refine sr (xp hnt 7 [.o 3,.b 2 [.o 2],.o 1] [] [(2,pB ((decide (1 ≤ r.count)) && (decide (r.count ≤ 123))))] (re (w_le (s := 2) (y := pB (countsR r)) rfl (le_of_eq (congrArg pB (show ((decide (1 ≤ r.count)) && (decide (r.count ≤ 123))) = (countsR r) by (rw [counts_yes (by first|assumption|simpa using c1_)]; unfold manyOk; first|exact (decide_eq_true (by omega)).symm|exact (decide_eq_false (by omega)).symm|(apply Bool.eq_iff_iff.2; simp only [Bool.and_eq_true,Bool.or_eq_true,decide_eq_true_eq,Bool.not_eq_true',decide_eq_false_iff_not]; try omega))))) (w_ret (q_block_ret ?_)))))
  exact q_then_ret fp
 have c7_ := c7
 try simp only [sB] at c7
 refine sr (qo hnt rfl (s_eql rfl rfl ?_))
 refine ae hnt rfl rfl (w_if rfl (fun c8 => ?_) (fun c8 => ?_))
 ·have c8_ := c8
  try simp only [sB] at c8
  refine sr (xp hnt 19 [.o 3,.b 2 [.o 2],.o 1,.b 4 [.o 2,.c (pN r.vals.length),.o 1],.o 1,.b 4 [.o 2,.c (pN r.vals.length),.o 1],.o 1] [((decide (1 ≤ r.count)) && (decide (r.count ≤ 125))) = true → AllP [lenC enc16 r.vals],(((decide (1 ≤ r.count)) && (decide (r.count ≤ 125))) && (decide (1 ≤ ((r.vals.length : Nat) : Int)))) = true → AllP [lenC enc16 r.vals]] [(2,pB ((((decide (1 ≤ r.count)) && (decide (r.count ≤ 125))) && (decide (1 ≤ ((r.vals.length : Nat) : Int)))) && (decide (((r.vals.length : Nat) : Int) ≤ 121))))] ?_ (hc := ⟨by intro hq; (try simp only [sB] at hq); exact ⟨lenC_ok _ _,trivial⟩,by intro hq; (try simp only [sB] at hq); exact ⟨lenC_ok _ _,trivial⟩,trivial⟩))
  exact re (w_le (s := 2) (y := pB (countsR r)) rfl (le_of_eq (congrArg pB (show ((((decide (1 ≤ r.count)) && (decide (r.count ≤ 125))) && (decide (1 ≤ ((r.vals.length : Nat) : Int)))) && (decide (((r.vals.length : Nat) : Int) ≤ 121))) = (countsR r) by (rw [counts_yes (by first|assumption|simpa using c1_)]; unfold manyOk; first|exact (decide_eq_true (by omega)).symm|exact (decide_eq_false (by omega)).symm|(apply Bool.eq_iff_iff.2; simp only [Bool.and_eq_true,Bool.or_eq_true,decide_eq_true_eq,Bool.not_eq_true',decide_eq_false_iff_not]; try omega))))) (w_ret (q_block_ret (q_then_ret fp))))
 have c8_ := c8
 try simp only [sB] at c8
 exact w_skip (q_block (q_then (sr (ae hnt rfl rfl (w_le (s := 2) (y := pB (countsR r)) rfl (le_of_eq (congrArg pB (show true = (countsR r) by (rw [counts_yes (by first|assumption|simpa using c1_)]; unfold manyOk; first|exact (decide_eq_true (by omega)).symm|exact (decide_eq_false (by omega)).symm|(apply Bool.eq_iff_iff.2; simp only [Bool.and_eq_true,Bool.or_eq_true,decide_eq_true_eq,Bool.not_eq_true',decide_eq_false_iff_not]; try omega))))) (w_ret fp))))))
theorem w_pdu_Counts (r : TRequest) (hb : r.bits.length ≤ 140737488351232) (hv : r.vals.length ≤ 140737488351232) :
    T Try.prog 44 [PV.f (eRequest r)] 0 [] (Ret (pB (countsR r)) 0 []) := by
 refine t_fun tabOk (n := 40) (rs := [.tmp 2]) Try.func44 rfl rfl rfl rfl (nb rfl) ?_
 intro c hnt hk
 refine sr (qo hnt rfl (s_box rfl rfl ?_))
 refine qa hnt rfl rfl (r_set [(1,PV.ptr 0 0)] [(0,.obj (cRequest r))] 1 ⟨rfl,trivial⟩ rfl rfl (re (w_seq (sr (xp hnt 1 [.o 1] [] [(4,PV.f (eRequest r))] ?_)))))
 refine qo hnt rfl (s_callF rfl rfl rfl (w_pdu_Right r (by omega) (by omega)) rfl ?_)
 refine qo hnt rfl (s_neq rfl rfl ?_)
 refine re (w_if rfl (fun c1 => ?_) (fun c1 => ?_))
 ·have c1_ := c1
  try simp only [sB] at c1
  exact sr (ae hnt rfl rfl (w_le (s := 2) (y := pB (countsR r)) rfl (le_of_eq (congrArg pB (show false = (countsR r) by exact (counts_no (by assumption)).symm))) (w_ret (q_then_ret fp))))
 have c1_ := c1
 try simp only [sB] at c1
 refine w_skip (q_then (sr (ae hnt rfl rfl (w_seq (sr ?_)))))
 refine xp hnt 2 [.o 2] [] [(8,pI r.fn)] (re (w_block (w_seq (sr (xp hnt 2 [.o 2] [] [(9,pB (decide (r.fn = 1)))] ?_)))))
 refine re (w_if rfl (fun c2 => ?_) (fun c2 => ?_))
 ·have c2_ := c2
  try simp only [sB] at c2
  refine w_skip (q_then (w_if rfl (fun _ => ?_) (fun e => absurd (e.symm.trans c2_) (by decide))))
  refine w_R (qa hnt rfl rfl (r_end (q_block (q_then (sr ?_)))))
  exact xp hnt 10 [.o 4,.b 4 [.o 4],.o 1] [] [(2,pB ((decide (1 ≤ r.count)) && (decide (r.count ≤ 2000))))] (re (w_le (s := 2) (y := pB (countsR r)) rfl (le_of_eq (congrArg pB (show ((decide (1 ≤ r.count)) && (decide (r.count ≤ 2000))) = (countsR r) by (rw [counts_yes (by first|assumption|simpa using c1_)]; unfold manyOk; first|exact (decide_eq_true (by omega)).symm|exact (decide_eq_false (by omega)).symm|(apply Bool.eq_iff_iff.2; simp only [Bool.and_eq_true,Bool.or_eq_true,decide_eq_true_eq,Bool.not_eq_true',decide_eq_false_iff_not]; try omega))))) (w_ret fp)))
 have c2_ := c2
 try simp only [sB] at c2
 refine w_R (qo hnt rfl (s_eql rfl rfl ?_))
 refine ae hnt rfl rfl (w_if rfl (fun c3 => ?_) (fun c3 => ?_))
 ·have c3_ := c3
  try simp only [sB] at c3
  refine w_R (qa hnt rfl rfl (r_end (q_block (q_then (sr ?_)))))
  exact xp hnt 10 [.o 4,.b 4 [.o 4],.o 1] [] [(2,pB ((decide (1 ≤ r.count)) && (decide (r.count ≤ 2000))))] (re (w_le (s := 2) (y := pB (countsR r)) rfl (le_of_eq (congrArg pB (show ((decide (1 ≤ r.count)) && (decide (r.count ≤ 2000))) = (countsR r) by (rw [counts_yes (by first|assumption|simpa using c1_)]; unfold manyOk; first|exact (decide_eq_true (by omega)).symm|exact (decide_eq_false (by omega)).symm|(apply Bool.eq_iff_iff.2; simp only [Bool.and_eq_true,Bool.or_eq_true,decide_eq_true_eq,Bool.not_eq_true',decide_eq_false_iff_not]; try omega))))) (w_ret fp)))
 have c3_ := c3
 try simp only [sB] at c3
 refine w_seq (sr (xp hnt 2 [.o 2] [] [(12,pB (decide (r.fn = 3)))] (re (w_if rfl (fun c4 => ?_) (fun c4 => ?_)))))
 ·have c4_ := c4
  try simp only [sB] at c4
  refine w_skip (q_then (w_if rfl (fun _ => ?_) (fun e => absurd (e.symm.trans c4_) (by decide))))
  refine w_R (qa hnt rfl rfl (r_end (q_block (q_then (sr ?_)))))
  exact xp hnt 10 [.o 4,.b 4 [.o 4],.o 1] [] [(2,pB ((decide (1 ≤ r.count)) && (decide (r.count ≤ 125))))] (re (w_le (s := 2) (y := pB (countsR r)) rfl (le_of_eq (congrArg pB (show ((decide (1 ≤ r.count)) && (decide (r.count ≤ 125))) = (countsR r) by (rw [counts_yes (by first|assumption|simpa using c1_)]; unfold manyOk; first|exact (decide_eq_true (by omega)).symm|exact (decide_eq_false (by omega)).symm|(apply Bool.eq_iff_iff.2; simp only [Bool.and_eq_true,Bool.or_eq_true,decide_eq_true_eq,Bool.not_eq_true',decide_eq_false_iff_not]; try omega))))) (w_ret fp)))
 have c4_ := c4
 try simp only [sB] at c4
 refine w_R (qo hnt rfl (s_eql rfl rfl ?_))
 refine ae hnt rfl rfl (w_if rfl (fun c5 => ?_) (fun c5 => ?_))
 ·have c5_ := c5
  try simp only [sB] at c5
  refine w_R (qa hnt rfl rfl (r_end (q_block (q_then (sr ?_)))))
  exact xp hnt 10 [.o 4,.b 4 [.o 4],.o 1] [] [(2,pB ((decide (1 ≤ r.count)) && (decide (r.count ≤ 125))))] (re (w_le (s := 2) (y := pB (countsR r)) rfl (le_of_eq (congrArg pB (show ((decide (1 ≤ r.count)) && (decide (r.count ≤ 125))) = (countsR r) by (rw [counts_yes (by first|assumption|simpa using c1_)]; unfold manyOk; first|exact (decide_eq_true (by omega)).symm|exact (decide_eq_false (by omega)).symm|(apply Bool.eq_iff_iff.2; simp only [Bool.and_eq_true,Bool.or_eq_true,decide_eq_true_eq,Bool.not_eq_true',decide_eq_false_iff_not]; try omega))))) (w_ret fp)))
 have c5_ := c5
 try simp only [sB] at c5
 refine sr (qo hnt rfl (s_eql rfl rfl ?_))
 refine ae hnt rfl rfl (w_if rfl (fun c6 => ?_) (fun c6 => ?_))
 ·have c6_ := c6
  try simp only [sB] at c6
  refine w_R (qa hnt rfl rfl (r_end (q_block (q_then (sr ?_)))))
  exact xp hnt 10 [.o 4,.b 4 [.o 4],.o 1] [] [(2,pB ((decide (1 ≤ r.count)) && (decide (r.count ≤ 1968))))] (re (w_le (s := 2) (y := pB (countsR r)) rfl (le_of_eq (congrArg pB (show ((decide (1 ≤ r.count)) && (decide (r.count ≤ 1968))) = (countsR r) by (rw [counts_yes (by first|assumption|simpa using c1_)]; unfold manyOk; first|exact (decide_eq_true (by omega)).symm|exact (decide_eq_false (by omega)).symm|(apply Bool.eq_iff_iff.2; simp only [Bool.and_eq_true,Bool.or_eq_true,decide_eq_true_eq,Bool.not_eq_true',decide_eq_false_iff_not]; try omega))))) (w_ret fp)))
 have c6_ := c6
 try simp only [sB] at c6
 refine sr (qo hnt rfl (s_eql rfl rfl ?_))
 refine ae hnt rfl rfl (w_if rfl (fun c7 => ?_) (fun c7 => ?_))
 ·have c7_ := c7
  try simp only [sB] at c7
  refine w_R (qa hnt rfl rfl (r_end (q_block (q_then (sr ?_)))))
  exact xp hnt 10 [.o 4,.b 4 [.o 4],.o 1] [] [(2,pB ((decide (1 ≤ r.count)) && (decide (r.count ≤ 123))))] (re (w_le (s := 2) (y := pB (countsR r)) rfl (le_of_eq (congrArg pB (show ((decide (1 ≤ r.count)) && (decide (r.count ≤ 123))) = (countsR r) by (rw [counts_yes (by first|assumption|simpa using c1_)]; unfold manyOk; first|exact (decide_eq_true (by omega)).symm|exact (decide_eq_false (by omega)).symm|(apply Bool.eq_iff_iff.2; simp only [Bool.and_eq_true,Bool.or_eq_true,decide_eq_true_eq,Bool.not_eq_true',decide_eq_false_iff_not]; try omega))))) (w_ret fp)))
 have c7_ := c7
 try simp only [sB] at c7
 refine sr (qo hnt rfl (s_eql rfl rfl ?_))
 refine ae hnt rfl rfl (w_if rfl (fun c8 => ?_) (fun c8 => ?_))
 ·have c8_ := c8
  try simp only [sB] at c8
  refine w_seq (sr (xp hnt 10 [.o 2,.c (pN r.vals.length),.o 2,.b 4 [.o 2,.c (pN r.vals.length),.o 1]] [lenC enc16 r.vals,(decide (((r.vals.length : Nat) : Int) < 1)) = false → AllP [lenC enc16 r.vals]] [(30,pB ((decide (((r.vals.length : Nat) : Int) < 1)) || (decide (121 < ((r.vals.length : Nat) : Int)))))] ?_ (hc := ⟨lenC_ok _ _,by intro hq; (try simp only [sB] at hq); exact ⟨lenC_ok _ _,trivial⟩,trivial⟩)))
  refine re (w_if rfl (fun c9 => ?_) (fun c9 => ?_))
  ·have c9_ := c9
   try simp only [sB] at c9
   try simp only [Bool.or_eq_true,decide_eq_true_eq] at c9
   exact sr (ae hnt rfl rfl (w_le (s := 2) (y := pB (countsR r)) rfl (le_of_eq (congrArg pB (show false = (countsR r) by (rw [counts_yes (by first|assumption|simpa using c1_)]; unfold manyOk; first|exact (decide_eq_true (by omega)).symm|exact (decide_eq_false (by omega)).symm|(apply Bool.eq_iff_iff.2; simp only [Bool.and_eq_true,Bool.or_eq_true,decide_eq_true_eq,Bool.not_eq_true',decide_eq_false_iff_not]; try omega))))) (w_ret (q_then_ret (q_block_ret (q_then_ret fp))))))
  have c9_ := c9
  try simp only [sB] at c9
  try simp only [Bool.or_eq_false_iff,decide_eq_false_iff_not] at c9
  refine w_skip (q_then (w_R (qa hnt rfl rfl (r_end (q_block (q_then (sr ?_)))))))
  exact xp hnt 10 [.o 4,.b 4 [.o 4],.o 1] [] [(2,pB ((decide (1 ≤ r.count)) && (decide (r.count ≤ 125))))] (re (w_le (s := 2) (y := pB (countsR r)) rfl (le_of_eq (congrArg pB (show ((decide (1 ≤ r.count)) && (decide (r.count ≤ 125))) = (countsR r) by (rw [counts_yes (by first|assumption|simpa using c1_)]; unfold manyOk; first|exact (decide_eq_true (by omega)).symm|exact (decide_eq_false (by omega)).symm|(apply Bool.eq_iff_iff.2; simp only [Bool.and_eq_true,Bool.or_eq_true,decide_eq_true_eq,Bool.not_eq_true',decide_eq_false_iff_not]; try omega))))) (w_ret fp)))
 have c8_ := c8
 try simp only [sB] at c8
 exact sr (ae hnt rfl rfl (w_le (s := 2) (y := pB (countsR r)) rfl (le_of_eq (congrArg pB (show true = (countsR r) by (rw [counts_yes (by first|assumption|simpa using c1_)]; unfold manyOk; first|exact (decide_eq_true (by omega)).symm|exact (decide_eq_false (by omega)).symm|(apply Bool.eq_iff_iff.2; simp only [Bool.and_eq_true,Bool.or_eq_true,decide_eq_true_eq,Bool.not_eq_true',decide_eq_false_iff_not]; try omega))))) (w_ret (q_block_ret (q_then_ret fp)))))
def four (a b c d : Int) (s : Int) : Int := if s = 0 then a else if s = 1 then b else if s = 2 then c else d
structure WInv (lo : Int) (l : List TWindow) (v f : Int → Int) : Prop where
  vb : ∀ s,0 ≤ s ∧ s ≤ 3 → 0 ≤ v s ∧ v s ≤ 23 * l.length
  fb : ∀ s,0 ≤ s ∧ s ≤ 3 → lo ≤ f s ∧ f s ≤ lo + 20 * l.length
  mem : ∀ w ∈ l,(0 ≤ w.space ∧ w.space ≤ 3) ∧ 1 ≤ w.count ∧ 0 ≤ w.virtual ∧ lo ≤ w.physical ∧ w.virtual + w.count ≤ v w.space ∧ w.physical + w.count ≤ f w.space
  row : l.Pairwise fun x y => x.space = y.space → x.virtual + x.count ≤ y.virtual ∧ x.physical + x.count ≤ y.physical
theorem WInv.nil (lo : Int) : WInv lo [] (four 0 0 0 0) (four lo lo lo lo) := by
  refine ⟨fun s _ => ?_,fun s _ => ?_,fun w hw => by simp at hw,List.Pairwise.nil⟩
  · unfold four; simp
  · unfold four; simp
theorem WInv.step {lo : Int}{l : List TWindow}{v f v' f' : Int → Int} (h : WInv lo l v f) {s d e n : Int} (hs : 0 ≤ s ∧ s ≤ 3) (hd : 0 ≤ d ∧ d ≤ 5) (he : 0 ≤ e ∧ e ≤ 2) (hn : 1 ≤ n ∧ n ≤ 18)
    (hv : ∀ x,0 ≤ x ∧ x ≤ 3 → v' x = if x = s then v s + d + n else v x) (hf : ∀ x,0 ≤ x ∧ x ≤ 3 → f' x = if x = s then f s + e + n else f x) : WInv lo (l ++ [⟨s,v s + d,f s + e,n⟩]) v' f' := by
  obtain ⟨vb,fb,mem,row⟩ := h
  have hl : ((l ++ [(⟨s,v s + d,f s + e,n⟩ : TWindow)]).length : Int) = l.length + 1 := by simp
  refine ⟨fun x hx => ?_,fun x hx => ?_,fun w hw => ?_, ?_⟩
  · rw [hv x hx,hl]; have h1 := vb x hx; have h2 := vb s hs; split <;> omega
  · rw [hf x hx,hl]; have h1 := fb x hx; have h2 := fb s hs; split <;> omega
  · have hvb := vb s hs
    have hfb := fb s hs
    rcases List.mem_append.1 hw with h|h
    · obtain ⟨a,b,c,c2,g,k⟩ := mem w h
      rw [hv _ a,hf _ a]
      refine ⟨a,b,c,c2, ?_, ?_⟩
      · split
        · rename_i hx; rw [hx] at g; omega
        · exact g
      · split
        · rename_i hx; rw [hx] at k; omega
        · exact k
    · have h := List.mem_singleton.1 h
      subst h
      simp only
      rw [hv _ hs,hf _ hs,if_pos rfl,if_pos rfl]
      exact ⟨hs,by omega,by omega,by omega,by omega,by omega⟩
  · rw [List.pairwise_append]
    refine ⟨row,List.pairwise_singleton _ _,fun x hx y hy hxy => ?_⟩
    have hy := List.mem_singleton.1 hy
    subst hy
    obtain ⟨a,b,c,c2,g,k⟩ := mem x hx
    simp only at hxy ⊢
    rw [hxy] at g k
    omega
theorem WInv.step0 {lo v0 v1 v2 v3 f0 f1 f2 f3 d e n : Int}{l : List TWindow} (h : WInv lo l (four v0 v1 v2 v3) (four f0 f1 f2 f3)) (hd : 0 ≤ d ∧ d ≤ 5) (he : 0 ≤ e ∧ e ≤ 2) (hn : 1 ≤ n ∧ n ≤ 18) :
    WInv lo (l ++ [⟨0,v0 + d,f0 + e,n⟩]) (four (v0 + d + n) v1 v2 v3) (four (f0 + e + n) f1 f2 f3) :=
  h.step (s := 0) (by decide) hd he hn (fun x hx => by unfold four; (repeat' split) <;> omega) (fun x hx => by unfold four; (repeat' split) <;> omega)
theorem WInv.step1 {lo v0 v1 v2 v3 f0 f1 f2 f3 d e n : Int}{l : List TWindow} (h : WInv lo l (four v0 v1 v2 v3) (four f0 f1 f2 f3)) (hd : 0 ≤ d ∧ d ≤ 5) (he : 0 ≤ e ∧ e ≤ 2) (hn : 1 ≤ n ∧ n ≤ 18) :
    WInv lo (l ++ [⟨1,v1 + d,f1 + e,n⟩]) (four v0 (v1 + d + n) v2 v3) (four f0 (f1 + e + n) f2 f3) :=
  h.step (s := 1) (by decide) hd he hn (fun x hx => by unfold four; (repeat' split) <;> omega) (fun x hx => by unfold four; (repeat' split) <;> omega)
theorem WInv.step2 {lo v0 v1 v2 v3 f0 f1 f2 f3 d e n : Int}{l : List TWindow} (h : WInv lo l (four v0 v1 v2 v3) (four f0 f1 f2 f3)) (hd : 0 ≤ d ∧ d ≤ 5) (he : 0 ≤ e ∧ e ≤ 2) (hn : 1 ≤ n ∧ n ≤ 18) :
    WInv lo (l ++ [⟨2,v2 + d,f2 + e,n⟩]) (four v0 v1 (v2 + d + n) v3) (four f0 f1 (f2 + e + n) f3) :=
  h.step (s := 2) (by decide) hd he hn (fun x hx => by unfold four; (repeat' split) <;> omega) (fun x hx => by unfold four; (repeat' split) <;> omega)
theorem WInv.step3 {lo v0 v1 v2 v3 f0 f1 f2 f3 d e n : Int}{l : List TWindow} (h : WInv lo l (four v0 v1 v2 v3) (four f0 f1 f2 f3)) (hd : 0 ≤ d ∧ d ≤ 5) (he : 0 ≤ e ∧ e ≤ 2) (hn : 1 ≤ n ∧ n ≤ 18) :
    WInv lo (l ++ [⟨3,v3 + d,f3 + e,n⟩]) (four v0 v1 v2 (v3 + d + n)) (four f0 f1 f2 (f3 + e + n)) :=
  h.step (s := 3) (by decide) hd he hn (fun x hx => by unfold four; (repeat' split) <;> omega) (fun x hx => by unfold four; (repeat' split) <;> omega)
structure WinsOk (l : List TWindow) : Prop where
  len : l.length ≤ 6
  right : ∀ w ∈ l,winR w = true ∧ w.virtual + w.count ≤ 138
  row : l.Pairwise fun x y => x.space = y.space → x.virtual + x.count ≤ y.virtual ∧ x.physical + x.count ≤ y.physical
theorem WInv.ok {lo : Int}{l : List TWindow}{v f : Int → Int} (h : WInv lo l v f) (hl : l.length ≤ 6) (hlo : 0 ≤ lo ∧ lo ≤ 384) : WinsOk l := by
  refine ⟨hl,fun w hw => ?_,h.row⟩
  obtain ⟨a,b,c,c2,g,k⟩ := h.mem w hw
  have h1 := h.vb w.space a
  have h2 := h.fb w.space a
  exact ⟨(winR_iff w).2 ⟨a,by omega,by omega⟩,by omega⟩
theorem WinsOk.two {l : List TWindow} (h : WinsOk l) {i j : Nat}{a b : TWindow} (hj : j < i) (ha : l[i]? = some a) (hb : l[j]? = some b) (hs : a.space = b.space) : b.virtual + b.count ≤ a.virtual ∧ b.physical + b.count ≤ a.physical := by
  obtain ⟨h1,rfl⟩ := List.getElem?_eq_some_iff.1 ha
  obtain ⟨h2,rfl⟩ := List.getElem?_eq_some_iff.1 hb
  exact List.pairwise_iff_getElem.1 h.row j i h2 h1 hj hs.symm
theorem meet_no {a b : TSpan} (h : b.at_ + b.count ≤ a.at_) : meetOk a b = false := by
  rw [Bool.eq_false_iff]
  intro hm
  have := (meetOk_iff a b).1 hm
  omega
theorem WinsOk.own {l : List TWindow} (h : WinsOk l) : ownW l = true := by
  refine own_yes fun i j a b hj ha hb => ?_
  by_cases hs : a.space = b.space
  · obtain ⟨h1,h2⟩ := h.two hj ha hb hs
    unfold clashW meetW
    rw [meet_no (a := pSp a) (b := pSp b) h2,meet_no (a := vSp a) (b := vSp b) h1]
    rfl
  · unfold clashW meetW
    rw [decide_eq_false hs]
    simp
structure TabG (X : TTable) : Prop where
  len : 1 ≤ X.tenants.length ∧ X.tenants.length ≤ 4
  wins : ∀ p ∈ X.tenants,WinsOk p.windows
def LK : List TWindow := [⟨3,0,100,4⟩,⟨3,4,50,4⟩]
theorem kn_of : (ofL LK 3).map vSp = [⟨0,4⟩,⟨4,4⟩] := by decide
theorem kn_c1 : coverL [⟨0,4⟩,⟨4,4⟩] ⟨2,4⟩ = some [⟨2,2⟩,⟨4,2⟩] := by
  unfold coverL
  rw [if_pos (by decide),covGo_step (i := 0) (x := ⟨0,4⟩) (by decide) (by decide) rfl (by decide),covGo_step (i := 1) (x := ⟨4,4⟩) (by decide) (by decide) rfl (by decide),covGo_end (by decide)]
  rfl
theorem kn_1 : mapOk LK 3 2 4 = true := by unfold mapOk coverOk; rw [kn_of,kn_c1]; rfl
theorem kn_2 : mapL LK 3 2 4 = [⟨2,102,2⟩,⟨4,50,2⟩] := by unfold mapL covW coverV; rw [kn_of,kn_c1]; decide
section
variable {l : List TWindow}{s : Int}
end
theorem mapL_bd {l : List TWindow}{s a n : Int}{x : TPiece} (h : x ∈ mapL l s a n) : 0 ≤ x.at_ ∧ x.at_ ≤ 65536 ∧ 1 ≤ x.count ∧ x.count ≤ 65536 ∧ 0 ≤ x.physical ∧ x.physical ≤ 512 := by
  unfold mapL at h
  obtain ⟨p,hp,rfl⟩ := List.mem_map.1 h
  obtain ⟨i,w,_,_,_,_,hpc,m1,m2,m3,v1,v2,v3,v4,v5⟩ := piece_of hp
  have hb := (winR_iff w).1 m1
  rw [hpc]
  simp only
  omega
section
variable {Q : Int → Prop}{a n k z : Nat}
end
def fBit (F n : Int) : Bool := decide (bitI .and .u32 (F / 2 ^ n.toNat) 1 = 0)
def pR (l : List TWindow) (q : TRequest) : List TPiece :=
  if q.fn = 1 then mapL l 0 q.at_ q.count else if q.fn = 2 then mapL l 1 q.at_ q.count else if q.fn = 3 then mapL l 3 q.at_ q.count else if q.fn = 4 then mapL l 2 q.at_ q.count
  else if q.fn = 22 then mapL l 3 q.at_ 1 else if q.fn = 23 then mapL l 3 q.at_ q.count else []
def pW (l : List TWindow) (q : TRequest) : List TPiece :=
  if q.fn = 5 then mapL l 0 q.at_ 1 else if q.fn = 6 then mapL l 3 q.at_ 1 else if q.fn = 15 then mapL l 0 q.at_ q.count else if q.fn = 16 then mapL l 3 q.at_ q.count
  else if q.fn = 22 then mapL l 3 q.at_ 1 else if q.fn = 23 then mapL l 3 q.wAt ((q.vals.length : Nat) : Int) else []
def pOk (l : List TWindow) (q : TRequest) : Bool :=
  if q.fn = 1 then mapOk l 0 q.at_ q.count else if q.fn = 2 then mapOk l 1 q.at_ q.count else if q.fn = 3 then mapOk l 3 q.at_ q.count else if q.fn = 4 then mapOk l 2 q.at_ q.count
  else if q.fn = 5 then mapOk l 0 q.at_ 1 else if q.fn = 6 then mapOk l 3 q.at_ 1 else if q.fn = 15 then mapOk l 0 q.at_ q.count else if q.fn = 16 then mapOk l 3 q.at_ q.count
  else if q.fn = 22 then mapOk l 3 q.at_ 1 else if q.fn = 23 then mapOk l 3 q.wAt ((q.vals.length : Nat) : Int) && mapOk l 3 q.at_ q.count else true
def codeP (F : Int) (l : List TWindow) (q : TRequest) : Int :=
  if rightR q = 15 ∨ fBit F q.fn = true then 1 else if countsR q = false then 3 else if pOk l q = false then 2 else if 6 < (pW l q).length + (pR l q).length then 4 else 0
def rPart (f : Int) (p : TPiece) : TPart := ⟨⟨f,p.physical,p.count,0,0,[],[],0,0⟩,false⟩
def wPart (q : TRequest) (p : TPiece) : TPart :=
  if q.fn = 5 then ⟨⟨5,p.physical,0,0,0,q.bits,[],0,0⟩,true⟩
  else if q.fn = 6 then ⟨⟨6,p.physical,0,0,0,[],q.vals,0,0⟩,true⟩
  else if q.fn = 15 then ⟨⟨15,p.physical,p.count,0,0,(q.bits.drop (p.at_ - q.at_).toNat).take p.count.toNat,[],0,0⟩,true⟩
  else if q.fn = 16 then ⟨⟨16,p.physical,p.count,0,0,[],(q.vals.drop (p.at_ - q.at_).toNat).take p.count.toNat,0,0⟩,true⟩
  else ⟨⟨16,p.physical,p.count,0,0,[],(q.vals.drop (p.at_ - q.wAt).toNat).take p.count.toNat,0,0⟩,true⟩
def pc0 : TPiece := ⟨0,0,0⟩
def partsP (l : List TWindow) (q : TRequest) : List TPart :=
  if q.fn = 22 then [⟨⟨3,((pR l q).getD 0 pc0).physical,1,0,0,[],[],0,0⟩,false⟩,⟨⟨6,((pR l q).getD 0 pc0).physical,0,0,0,[],[0],0,0⟩,true⟩]
  else (pW l q).map (wPart q) ++ (pR l q).map (rPart (if q.fn = 23 then 3 else q.fn))
def splitP (F : Int) (l : List TWindow) (q : TRequest) : List TPart × Int := if codeP F l q = 0 then (partsP l q,0) else ([],codeP F l q)
def spP (n : Int) : Int := if n = 1 ∨ n = 5 ∨ n = 15 then 0 else if n = 2 then 1 else if n = 4 then 2 else 3
theorem spP_0 {n : Int} (h : n = 1 ∨ n = 5 ∨ n = 15) : spP n = 0 := by unfold spP; rw [if_pos h]
theorem spP_1 {n : Int} (h : n = 2) : spP n = 1 := by unfold spP; rw [if_neg (by omega),if_pos h]
theorem spP_2 {n : Int} (h : n = 4) : spP n = 2 := by unfold spP; rw [if_neg (by omega),if_neg (by omega),if_pos h]
theorem spP_3 {n : Int} (h : ¬ (n = 1 ∨ n = 5 ∨ n = 15) ∧ n ≠ 2 ∧ n ≠ 4) : spP n = 3 := by unfold spP; rw [if_neg (by omega),if_neg (by omega),if_neg (by omega)]
def locP (n : Int) : Bool := decide (n = 8) || decide (n = 17)
section
variable {l : List TWindow}{q : TRequest}
theorem pAll_r (h : q.fn = 1 ∨ q.fn = 2 ∨ q.fn = 3 ∨ q.fn = 4) : pW l q = [] ∧ pR l q = mapL l (spP q.fn) q.at_ q.count ∧ pOk l q = mapOk l (spP q.fn) q.at_ q.count := by
  unfold pW pR pOk spP; rcases h with h|h|h|h <;> rw [h] <;> exact ⟨rfl,rfl,rfl⟩
theorem pAll_5 (h : q.fn = 5 ∨ q.fn = 6) : pW l q = mapL l (spP q.fn) q.at_ 1 ∧ pR l q = [] ∧ pOk l q = mapOk l (spP q.fn) q.at_ 1 := by
  unfold pW pR pOk spP; rcases h with h|h <;> rw [h] <;> exact ⟨rfl,rfl,rfl⟩
theorem pAll_15 (h : q.fn = 15 ∨ q.fn = 16) : pW l q = mapL l (spP q.fn) q.at_ q.count ∧ pR l q = [] ∧ pOk l q = mapOk l (spP q.fn) q.at_ q.count := by
  unfold pW pR pOk spP; rcases h with h|h <;> rw [h] <;> exact ⟨rfl,rfl,rfl⟩
theorem pAll_22 (h : q.fn = 22) : pW l q = mapL l 3 q.at_ 1 ∧ pR l q = mapL l 3 q.at_ 1 ∧ pOk l q = mapOk l 3 q.at_ 1 := by
  unfold pW pR pOk; rw [h]; exact ⟨rfl,rfl,rfl⟩
theorem pAll_23 (h : q.fn = 23) : pW l q = mapL l 3 q.wAt ((q.vals.length : Nat) : Int) ∧ pR l q = mapL l 3 q.at_ q.count ∧ pOk l q = (mapOk l 3 q.wAt ((q.vals.length : Nat) : Int) && mapOk l 3 q.at_ q.count) := by
  unfold pW pR pOk; rw [h]; exact ⟨rfl,rfl,rfl⟩
theorem pAll_0 (h : ¬ (q.fn = 1 ∨ q.fn = 2 ∨ q.fn = 3 ∨ q.fn = 4 ∨ q.fn = 5 ∨ q.fn = 6 ∨ q.fn = 15 ∨ q.fn = 16 ∨ q.fn = 22 ∨ q.fn = 23)) : pW l q = [] ∧ pR l q = [] ∧ pOk l q = true := by
  unfold pW pR pOk
  rw [if_neg (by omega),if_neg (by omega),if_neg (by omega),if_neg (by omega),if_neg (by omega),if_neg (by omega),if_neg (by omega),if_neg (by omega),if_neg (by omega),if_neg (by omega),if_neg (by omega),if_neg (by omega),if_neg (by omega),if_neg (by omega),if_neg (by omega),if_neg (by omega),if_neg (by omega),if_neg (by omega),if_neg (by omega),if_neg (by omega),if_neg (by omega),if_neg (by omega)]
  exact ⟨rfl,rfl,rfl⟩
end
section
variable {F : Int}{l : List TWindow}{q : TRequest}
theorem codeP_1 (h : rightR q = 15 ∨ fBit F q.fn = true) : codeP F l q = 1 := by unfold codeP; rw [if_pos h]
theorem codeP_3 (h : ¬ (rightR q = 15 ∨ fBit F q.fn = true)) (h2 : countsR q = false) : codeP F l q = 3 := by unfold codeP; rw [if_neg h,if_pos h2]
theorem codeP_2 (h : ¬ (rightR q = 15 ∨ fBit F q.fn = true)) (h2 : countsR q = true) (h3 : pOk l q = false) : codeP F l q = 2 := by unfold codeP; rw [if_neg h,if_neg (by simp [h2]),if_pos h3]
theorem codeP_4 (h : ¬ (rightR q = 15 ∨ fBit F q.fn = true)) (h2 : countsR q = true) (h3 : pOk l q = true) (h4 : 6 < (pW l q).length + (pR l q).length) : codeP F l q = 4 := by unfold codeP; rw [if_neg h,if_neg (by simp [h2]),if_neg (by simp [h3]),if_pos h4]
theorem codeP_0 (h : ¬ (rightR q = 15 ∨ fBit F q.fn = true)) (h2 : countsR q = true) (h3 : pOk l q = true) (h4 : ¬ 6 < (pW l q).length + (pR l q).length) : codeP F l q = 0 := by unfold codeP; rw [if_neg h,if_neg (by simp [h2]),if_neg (by simp [h3]),if_neg h4]
theorem codeP_zero (h : codeP F l q = 0) : ¬ (rightR q = 15 ∨ fBit F q.fn = true) ∧ countsR q = true ∧ pOk l q = true ∧ (pW l q).length + (pR l q).length ≤ 6 := by
  unfold codeP at h
  split at h
  · cases h
  · rename_i h1
    split at h
    · cases h
    · rename_i h2
      split at h
      · cases h
      · rename_i h3
        split at h
        · cases h
        · rename_i h4
          exact ⟨h1,by simpa using h2,by simpa using h3,by omega⟩
theorem counts_right (h : countsR q = true) : rightR q = 0 := by
  unfold countsR at h
  rw [Bool.and_eq_true] at h
  exact of_decide_eq_true h.1
theorem split_no (h : ¬ codeP F l q = 0) : splitP F l q = ([],codeP F l q) := by unfold splitP; rw [if_neg h]
theorem split_yes (h : codeP F l q = 0) : splitP F l q = (partsP l q,0) := by unfold splitP; rw [if_pos h]
theorem mapL_no {s a n : Int} (h : mapOk l s a n = false) : mapL l s a n = [] := by
  unfold mapL covW coverV
  unfold mapOk coverOk at h
  rw [Option.isSome_eq_false_iff,Option.isNone_iff_eq_none] at h
  rw [h]; rfl
def chainP : Int → List TSpan → Int → Prop
  | v,[],e => v = e
  | v,p :: t,e => p.at_ = v ∧ 1 ≤ p.count ∧ chainP (v + p.count) t e
theorem covGo_chain (L : List TSpan) (e : Int) : ∀ (n : Nat) (v : Int) (os : List TSpan),(e - v).toNat ≤ n → v ≤ e → covGo L e v = some os → chainP v os e
  | n,v,os,hn,hve,h => by
    rw [covGo] at h
    split at h
    · rename_i hv
      split at h
      · cases h
      · rename_i i hi
        split at h
        · rename_i hlt
          simp only [Option.map_eq_some_iff] at h
          obtain ⟨t,h1,rfl⟩ := h
          match n,hn with
          | 0,hn => omega
          | n + 1,hn =>
            refine ⟨rfl,by simp only; omega, ?_⟩
            simp only
            rw [show v + (min ((L.getD i sp0).at_ + (L.getD i sp0).count) e - v) = min ((L.getD i sp0).at_ + (L.getD i sp0).count) e by omega]
            exact covGo_chain L e n _ t (by omega) (by omega) h1
        · cases h
    · cases h; exact (by omega : v = e)
def sumC : List TPiece → Int
  | [] => 0
  | p :: t => p.count + sumC t
theorem sumC_append (a b : List TPiece) : sumC (a ++ b) = sumC a + sumC b := by
  induction a with
  | nil => simp [sumC]
  | cons p t ih => simp only [List.cons_append,sumC,ih]; omega
def chainQ : Int → List TPiece → Int → Prop
  | v,[],e => v = e
  | v,p :: t,e => p.at_ = v ∧ 1 ≤ p.count ∧ chainQ (v + p.count) t e
theorem chain_map {g : TSpan → TPiece} : ∀ {os : List TSpan}{v e : Int},(∀ p ∈ os,(g p).at_ = p.at_ ∧ (g p).count = p.count) → chainP v os e → chainQ v (os.map g) e
  | [],v,e,_,h => h
  | p :: t,v,e,hg,⟨h1,h2,h3⟩ => by
    obtain ⟨g1,g2⟩ := hg p List.mem_cons_self
    refine ⟨by rw [g1,h1],by rw [g2]; exact h2, ?_⟩
    rw [g2]
    exact chain_map (fun q hq => hg q (List.mem_cons_of_mem _ hq)) h3
theorem chain_at : ∀ {os : List TPiece}{v e : Int},chainQ v os e → ∀ {j : Nat}{p : TPiece},os[j]? = some p → p.at_ = v + sumC (os.take j) ∧ 1 ≤ p.count ∧ p.at_ + p.count ≤ e
  | [],v,e,_,j,p,h => by simp at h
  | x :: t,v,e,⟨h1,h2,h3⟩,0,p,h => by
    simp only [List.getElem?_cons_zero,Option.some.injEq] at h
    subst h
    refine ⟨by simp [sumC,h1],h2, ?_⟩
    have := chain_end h3
    omega
  | x :: t,v,e,⟨h1,h2,h3⟩,j + 1,p,h => by
    rw [List.getElem?_cons_succ] at h
    obtain ⟨a,b,c⟩ := chain_at h3 h
    refine ⟨?_,b,c⟩
    rw [a,List.take_succ_cons]
    simp only [sumC]; omega
where
  chain_end : ∀ {os : List TPiece}{v e : Int},chainQ v os e → v ≤ e
    | [],v,e,h => by have h : v = e := h; omega
    | p :: t,v,e,⟨_,h2,h3⟩ => by have := chain_end h3; omega
theorem pieceW_at {s a n : Int}{p : TSpan} (hp : p ∈ covW l s a n) : (pieceW (ofL l s) p).at_ = p.at_ ∧ (pieceW (ofL l s) p).count = p.count := by
  obtain ⟨i,w,_,_,_,_,hpc,_⟩ := piece_of hp
  rw [hpc]; exact ⟨rfl,rfl⟩
theorem map_chain {s a n : Int} (h : mapOk l s a n = true) : chainQ a (mapL l s a n) (a + n) := by
  unfold mapOk coverOk coverL at h
  split at h
  case isFalse => cases h
  rename_i hsp
  have h1 := (spOk_iff _).1 hsp.1
  cases hg : covGo ((ofL l s).map vSp) (a + n) a with
  | none => simp only at h; rw [hg] at h; cases h
  | some os =>
    have hcv : covW l s a n = os := by unfold covW coverV coverL; rw [if_pos hsp]; simp only; rw [hg]; rfl
    have hc := covGo_chain _ _ _ a os (Nat.le_refl _) (by simp only at h1; omega) hg
    unfold mapL
    rw [hcv]
    exact chain_map (fun p hp => pieceW_at (by rw [hcv]; exact hp)) hc
theorem mapL_get {s a n : Int}{j : Nat}{x : TPiece} (h : (mapL l s a n)[j]? = some x) : mapOk l s a n = true ∧ x.at_ = a + sumC ((mapL l s a n).take j) ∧ 1 ≤ x.count ∧ a ≤ x.at_ ∧ x.at_ + x.count ≤ a + n ∧
    ∃ w ∈ ofL l s,winR w = true ∧ w.space = s ∧ w ∈ l ∧ w.physical ≤ x.physical ∧ x.physical + x.count ≤ w.physical + w.count := by
  cases hok : mapOk l s a n with
  | false => rw [mapL_no hok] at h; simp at h
  | true =>
    obtain ⟨h1,h2,h3⟩ := chain_at (map_chain hok) h
    unfold mapL at h
    rw [List.getElem?_map] at h
    obtain ⟨p,hp,rfl⟩ := Option.map_eq_some_iff.1 h
    have hm := List.mem_of_getElem? hp
    obtain ⟨i,w,hw,_,_,_,hpc,m1,m2,m3,v1,v2,v3,v4,v5⟩ := piece_of hm
    refine ⟨rfl,h1,h2,by rw [hpc]; exact v4,h3,w,List.mem_of_getElem? hw,m1,m2,m3, ?_⟩
    rw [hpc]; simp only; omega
theorem mapL_one {s a : Int} (h : mapOk l s a 1 = true) : (mapL l s a 1).length = 1 ∧ ∀ x,(mapL l s a 1)[0]? = some x → x.count = 1 := by
  have hc := map_chain h
  match hm : mapL l s a 1,hc with
  | [],hc => have hc : a = a + 1 := hc; omega
  | [p],⟨h1,h2,h3⟩ =>
    have h3 : a + p.count = a + 1 := h3
    exact ⟨rfl,fun x hx => by simp at hx; subst hx; omega⟩
  | p :: q :: t,⟨h1,h2,h3,h4,h5⟩ =>
    have := chain_at.chain_end h5
    omega
theorem mapL_len (l : List TWindow) (s a n : Int) : (mapL l s a n).length ≤ 2147483648 := by unfold mapL; rw [List.length_map]; exact covW_len _ _ _ _
end
theorem cnt_bad {q : TRequest} (h : ((!decide (rightR q = 0)) || (!(countsR q))) = true) : countsR q = false := by
  cases hc : countsR q with
  | false => rfl
  | true => rw [counts_right hc,hc] at h; cases h
theorem right_15 {q : TRequest} (h : ¬ rightR q = 15) : hasF q.fn = true := by
  cases hf : hasF q.fn with
  | true => rfl
  | false => exact absurd (rightR_1 (by rw [hf]; rfl)) h
theorem right_no {q : TRequest} (h : hasF q.fn = false) : rightR q = 15 := rightR_1 (by rw [h]; rfl)
theorem right_not15 {q : TRequest} (h : hasF q.fn = true) : ¬ rightR q = 15 := by
  intro h2
  unfold rightR at h2
  rw [if_neg (by simp [h])] at h2
  split at h2
  · cases h2
  · split at h2 <;> cases h2
theorem counts_has {q : TRequest} (h : countsR q = true) : hasF q.fn = true := (rightR_zero (counts_right h)).1
def cntP (n a b : Int) : Int := if n = 5 ∨ n = 6 then 1 else if n = 22 then 2 else a + b
theorem cntP_5 {n a b : Int} (h : n = 5 ∨ n = 6) : cntP n a b = 1 := by unfold cntP; rw [if_pos h]
theorem cntP_22 {n a b : Int} (h : n = 22) : cntP n a b = 2 := by unfold cntP; rw [if_neg (by omega),if_pos h]
theorem cntP_0 {n a b : Int} (h : ¬ (n = 5 ∨ n = 6 ∨ n = 22)) : cntP n a b = a + b := by unfold cntP; rw [if_neg (by omega),if_neg (by omega)]
def spR (n : Int) : Int := if n = 1 then 0 else if n = 2 then 1 else if n = 3 then 3 else if n = 4 then 2 else if n = 22 ∨ n = 23 then 3 else -1
def spW (n : Int) : Int := if n = 5 ∨ n = 15 then 0 else if n = 6 ∨ n = 16 then 3 else if n = 22 ∨ n = 23 then 3 else -1
def askA (q : TRequest) : Int := if q.fn = 1 ∨ q.fn = 2 ∨ q.fn = 3 ∨ q.fn = 4 ∨ q.fn = 22 ∨ q.fn = 23 then q.at_ else 0
def askN (q : TRequest) : Int := if q.fn = 1 ∨ q.fn = 2 ∨ q.fn = 3 ∨ q.fn = 4 ∨ q.fn = 23 then q.count else if q.fn = 22 then 1 else 0
def askW (q : TRequest) : Int := if q.fn = 5 ∨ q.fn = 6 ∨ q.fn = 15 ∨ q.fn = 16 ∨ q.fn = 22 then q.at_ else if q.fn = 23 then q.wAt else 0
def askM (q : TRequest) : Int := if q.fn = 5 ∨ q.fn = 6 ∨ q.fn = 22 then 1 else if q.fn = 15 ∨ q.fn = 16 then q.count else if q.fn = 23 then ((q.vals.length : Nat) : Int) else 0
section
variable {l : List TWindow}{q : TRequest}
theorem ref_all (h : hasF q.fn = true) : pR l q = (if 0 ≤ spR q.fn then mapL l (spR q.fn) (askA q) (askN q) else []) ∧ pW l q = (if 0 ≤ spW q.fn then mapL l (spW q.fn) (askW q) (askM q) else []) ∧
    pOk l q = ((if 0 ≤ spR q.fn then mapOk l (spR q.fn) (askA q) (askN q) else true) && (if 0 ≤ spW q.fn then mapOk l (spW q.fn) (askW q) (askM q) else true)) := by
  unfold pR pW pOk spR spW askA askN askW askM
  rcases hasF_of h with h|h|h|h|h|h|h|h|h|h|h|h <;> rw [h] <;> refine ⟨rfl,rfl, ?_⟩
  case inr.inr.inr.inr.inr.inr.inr.inr.inr.inr.inl => exact (Bool.and_self _).symm
  case inr.inr.inr.inr.inr.inr.inr.inr.inr.inr.inr => exact Bool.and_comm _ _
  all_goals first|rfl|exact (Bool.and_true _).symm|exact (Bool.true_and _).symm
theorem ref_A1 (h : hasF q.fn = true) (h2 : 0 ≤ spR q.fn) : mapL l (spR q.fn) (askA q) (askN q) = pR l q := by rw [(ref_all h).1,if_pos h2]
theorem ref_A0 (h : hasF q.fn = true) (h2 : ¬ 0 ≤ spR q.fn) : [] = pR l q := by rw [(ref_all h).1,if_neg h2]
theorem ref_B1 (h : hasF q.fn = true) (h2 : 0 ≤ spW q.fn) : mapL l (spW q.fn) (askW q) (askM q) = pW l q := by rw [(ref_all h).2.1,if_pos h2]
theorem ref_B0 (h : hasF q.fn = true) (h2 : ¬ 0 ≤ spW q.fn) : [] = pW l q := by rw [(ref_all h).2.1,if_neg h2]
theorem ref_O11 (h : hasF q.fn = true) (h2 : 0 ≤ spR q.fn) (h3 : 0 ≤ spW q.fn) : (mapOk l (spR q.fn) (askA q) (askN q) && mapOk l (spW q.fn) (askW q) (askM q)) = pOk l q := by rw [(ref_all h).2.2,if_pos h2,if_pos h3]
theorem ref_O10 (h : hasF q.fn = true) (h2 : 0 ≤ spR q.fn) (h3 : ¬ 0 ≤ spW q.fn) : mapOk l (spR q.fn) (askA q) (askN q) = pOk l q := by rw [(ref_all h).2.2,if_pos h2,if_neg h3,Bool.and_true]
theorem ref_O01 (h : hasF q.fn = true) (h2 : ¬ 0 ≤ spR q.fn) (h3 : 0 ≤ spW q.fn) : mapOk l (spW q.fn) (askW q) (askM q) = pOk l q := by rw [(ref_all h).2.2,if_neg h2,if_pos h3,Bool.true_and]
theorem ref_O00 (h : hasF q.fn = true) (h2 : ¬ 0 ≤ spR q.fn) (h3 : ¬ 0 ≤ spW q.fn) : true = pOk l q := by rw [(ref_all h).2.2,if_neg h2,if_neg h3]; rfl
theorem p_one (h : q.fn = 5 ∨ q.fn = 6 ∨ q.fn = 22) (h2 : pOk l q = true) : (pW l q).length = 1 ∧ (∀ x,(pW l q)[0]? = some x → x.count = 1) ∧ (q.fn = 22 → pR l q = pW l q) ∧ (q.fn ≠ 22 → pR l q = []) := by
  by_cases h22 : q.fn = 22
  · obtain ⟨a,b,c⟩ := pAll_22 (l := l) h22
    rw [c] at h2
    have := mapL_one h2
    rw [a,b]
    exact ⟨this.1,this.2,fun _ => rfl,fun hn => absurd h22 hn⟩
  · obtain ⟨a,b,c⟩ := pAll_5 (l := l) (q := q) (by omega)
    rw [c] at h2
    have := mapL_one h2
    rw [a,b]
    exact ⟨this.1,this.2,fun hn => absurd hn h22,fun _ => rfl⟩
theorem cnt_same (hf : hasF q.fn = true) (h2 : pOk l q = true) : ((!(locP q.fn)) && decide (6 < cntP q.fn (((pR l q).length : Nat) : Int) (((pW l q).length : Nat) : Int))) = decide (6 < (pW l q).length + (pR l q).length) := by
  have hc := hasF_of hf
  by_cases h5 : q.fn = 5 ∨ q.fn = 6 ∨ q.fn = 22
  · obtain ⟨a,_,b,c⟩ := p_one h5 h2
    by_cases h22 : q.fn = 22
    · rw [cntP_22 h22,b h22,a]; simp
    · rw [cntP_5 (by omega),c h22,a]; simp
  · rw [cntP_0 (by omega)]
    unfold locP
    by_cases h8 : q.fn = 8 ∨ q.fn = 17
    · obtain ⟨a,b,_⟩ := pAll_0 (l := l) (q := q) (by omega)
      rw [a,b]; simp
    · have e8 : decide (q.fn = 8) = false := decide_eq_false (by omega)
      have e17 : decide (q.fn = 17) = false := decide_eq_false (by omega)
      rw [e8,e17]
      simp only [Bool.or_false,Bool.not_false,Bool.true_and]
      apply decide_eq_decide.2; omega
theorem pW_get (hc : countsR q = true) {i : Nat}{x : TPiece} (h : (pW l q)[i]? = some x) : 1 ≤ x.count ∧ x.count ≤ 65536 ∧ 0 ≤ x.physical ∧ x.physical + x.count ≤ 512 ∧ (q.fn = 5 ∨ q.fn = 6 ∨ q.fn = 15 ∨ q.fn = 16 ∨ q.fn = 22 ∨ q.fn = 23) ∧
    (q.fn = 15 → q.at_ ≤ x.at_ ∧ x.at_ + x.count ≤ q.at_ + q.count ∧ (q.bits.length : Int) = q.count ∧ x.at_ - q.at_ = sumC ((pW l q).take i)) ∧ (q.fn = 16 → q.at_ ≤ x.at_ ∧ x.at_ + x.count ≤ q.at_ + q.count ∧ (q.vals.length : Int) = q.count ∧ x.at_ - q.at_ = sumC ((pW l q).take i)) ∧
    (q.fn = 23 → q.wAt ≤ x.at_ ∧ x.at_ + x.count ≤ q.wAt + ((q.vals.length : Nat) : Int) ∧ x.at_ - q.wAt = sumC ((pW l q).take i)) := by
  have hr := counts_right hc
  have hh := hasF_of (rightR_zero hr).1
  have hs := (rightR_zero hr).2
  have hsb := hs.bits
  have hsv := hs.vals
  have key : ∀ {s a n : Int},pW l q = mapL l s a n → mapOk l s a n = true ∧ x.at_ = a + sumC ((pW l q).take i) ∧ 1 ≤ x.count ∧ a ≤ x.at_ ∧ x.at_ + x.count ≤ a + n ∧ 0 ≤ x.physical ∧ x.physical + x.count ≤ 512 := by
    intro s a n e
    rw [e] at h ⊢
    obtain ⟨k1,k2,k3,k4,k5,w,hw,m1,m2,m3,m4,m5⟩ := mapL_get h
    have := (winR_iff w).1 m1
    exact ⟨k1,k2,k3,k4,k5,by omega,by omega⟩
  by_cases h5 : q.fn = 5 ∨ q.fn = 6
  · obtain ⟨_,k2,k3,k4,k5,k6,k7⟩ := key (pAll_5 (l := l) h5).1
    exact ⟨k3,by omega,k6,k7,by omega,by omega,by omega,by omega⟩
  by_cases h15 : q.fn = 15 ∨ q.fn = 16
  · obtain ⟨_,k2,k3,k4,k5,k6,k7⟩ := key (pAll_15 (l := l) h15).1
    refine ⟨k3,by omega,k6,k7,by omega,fun h => ⟨k4,k5, ?_,by omega⟩,fun h => ⟨k4,k5, ?_,by omega⟩,by omega⟩
    · rw [if_neg (by omega),if_pos h] at hsb; exact hsb.1
    · rw [if_neg (by omega),if_pos h] at hsv; exact hsv.1
  by_cases h22 : q.fn = 22
  · obtain ⟨_,k2,k3,k4,k5,k6,k7⟩ := key (pAll_22 (l := l) h22).1
    exact ⟨k3,by omega,k6,k7,by omega,by omega,by omega,by omega⟩
  by_cases h23 : q.fn = 23
  · obtain ⟨_,k2,k3,k4,k5,k6,k7⟩ := key (pAll_23 (l := l) h23).1
    exact ⟨k3,by omega,k6,k7,by omega,by omega,by omega,fun _ => ⟨k4,k5,by omega⟩⟩
  · by_cases h1 : q.fn = 1 ∨ q.fn = 2 ∨ q.fn = 3 ∨ q.fn = 4
    · rw [(pAll_r (l := l) h1).1] at h; simp at h
    · rw [(pAll_0 (l := l) (q := q) (by omega)).1] at h; simp at h
theorem p_len (l : List TWindow) (q : TRequest) : (pW l q).length ≤ 2147483648 ∧ (pR l q).length ≤ 2147483648 := by
  have h := mapL_len
  unfold pW pR
  constructor
  · repeat' split
    all_goals first|exact h _ _ _ _|exact Nat.zero_le _
  · repeat' split
    all_goals first|exact h _ _ _ _|exact Nat.zero_le _
variable {p : TPiece}
theorem wPart_5 (h : q.fn = 5) : wPart q p = ⟨⟨5,p.physical,0,0,0,q.bits,[],0,0⟩,true⟩ := by unfold wPart; rw [if_pos h]
theorem wPart_6 (h : q.fn = 6) : wPart q p = ⟨⟨6,p.physical,0,0,0,[],q.vals,0,0⟩,true⟩ := by unfold wPart; rw [if_neg (by omega),if_pos h]
theorem wPart_15 (h : q.fn = 15) : wPart q p = ⟨⟨15,p.physical,p.count,0,0,(q.bits.drop (p.at_ - q.at_).toNat).take p.count.toNat,[],0,0⟩,true⟩ := by unfold wPart; rw [if_neg (by omega),if_neg (by omega),if_pos h]
theorem wPart_16 (h : q.fn = 16) : wPart q p = ⟨⟨16,p.physical,p.count,0,0,[],(q.vals.drop (p.at_ - q.at_).toNat).take p.count.toNat,0,0⟩,true⟩ := by unfold wPart; rw [if_neg (by omega),if_neg (by omega),if_neg (by omega),if_pos h]
theorem wPart_23 (h : q.fn = 23) : wPart q p = ⟨⟨16,p.physical,p.count,0,0,[],(q.vals.drop (p.at_ - q.wAt).toNat).take p.count.toNat,0,0⟩,true⟩ := by unfold wPart; rw [if_neg (by omega),if_neg (by omega),if_neg (by omega),if_neg (by omega)]
theorem wPart_eta (q : TRequest) (p : TPiece) : (⟨(wPart q p).request,true⟩ : TPart) = wPart q p := by
  unfold wPart
  repeat' split
  all_goals rfl
theorem parts_22 (h : q.fn = 22) {x : TPiece} (hx : (pR l q)[0]? = some x) (hc : x.count = 1) : partsP l q = [rPart 3 x,⟨⟨6,x.physical,0,0,0,[],[0],0,0⟩,true⟩] := by
  unfold partsP rPart
  rw [if_pos h,List.getD_eq_getElem?_getD,hx,hc]; rfl
theorem parts_22r (h : q.fn = 22) {x : TPiece} (hx : (pR l q)[0]? = some x) : partsP l q = [⟨⟨3,x.physical,1,0,0,[],[],0,0⟩,false⟩,⟨⟨6,x.physical,0,0,0,[],[0],0,0⟩,true⟩] := by
  unfold partsP
  rw [if_pos h,List.getD_eq_getElem?_getD,hx]; rfl
theorem parts_no (h : ¬ q.fn = 22) : partsP l q = (pW l q).map (wPart q) ++ (pR l q).map (rPart (if q.fn = 23 then 3 else q.fn)) := by unfold partsP; rw [if_neg h]
theorem cut_two {α : Type} (l : List α) {d n e : Nat} (h : e = d + n) : (l.take e).drop d = (l.drop d).take n := by
  subst h
  rw [List.drop_take,Nat.add_sub_cancel_left]
theorem cut_dn {α : Type} (l : List α) {d a b n : Int} (h : d = a - b) (hd : 0 ≤ d) (hn : 0 ≤ n) : (l.take (d + n).toNat).drop d.toNat = (l.drop (a - b).toNat).take n.toNat := by
  subst h
  exact cut_two l (by omega)
theorem sum_snoc {m : List TPiece}{i : Nat}{x : TPiece} (h : m[i]? = some x) {d : Int} (hd : d = sumC (m.take i)) : d + x.count = sumC (m.take (i + 1)) := by
  rw [List.take_add_one,h,sumC_append,hd]
  simp [sumC]
variable {F : Int}
theorem split_ref (h : ((!decide (codeP F l q = 0)) || locP q.fn) = true) : splitP F l q = ([],codeP F l q) := by
  by_cases h0 : codeP F l q = 0
  · rw [h0] at h
    have hl : locP q.fn = true := by simpa using h
    unfold locP at hl
    simp only [Bool.or_eq_true,decide_eq_true_eq] at hl
    obtain ⟨a,b,_⟩ := pAll_0 (l := l) (q := q) (by omega)
    rw [split_yes h0,parts_no (by omega),a,b,h0]; rfl
  · exact split_no h0
theorem split_ref0 (h : ((!decide (codeP F l q = 0)) || locP q.fn) = false) : codeP F l q = 0 ∧ q.fn ≠ 8 ∧ q.fn ≠ 17 := by
  rw [Bool.or_eq_false_iff] at h
  obtain ⟨h1,h2⟩ := h
  unfold locP at h2
  rw [Bool.or_eq_false_iff] at h2
  exact ⟨by simpa using h1,of_decide_eq_false h2.1,of_decide_eq_false h2.2⟩
theorem parts_5 (hc : countsR q = true) (h : q.fn = 5 ∨ q.fn = 6) (h2 : pOk l q = true) {x : TPiece} (hx : (pW l q)[0]? = some x) : partsP l q = [⟨⟨q.fn,x.physical,0,0,0,q.bits,q.vals,0,0⟩,true⟩] := by
  obtain ⟨a,_,_,c⟩ := p_one (l := l) (q := q) (by omega) h2
  have hs := (rightR_zero (counts_right hc)).2
  have hsb := hs.bits
  have hsv := hs.vals
  have hw : pW l q = [x] := by
    match hm : pW l q,a with
    | [y],_ => rw [hm] at hx; simp at hx; rw [hx]
  rw [parts_no (by omega),hw,c (by omega)]
  rcases h with h|h
  · rw [if_neg (by omega),if_neg (by omega),if_neg (by omega)] at hsv
    rw [List.map_singleton,wPart_5 h,h,List.eq_nil_of_length_eq_zero hsv]; rfl
  · rw [if_neg (by omega),if_neg (by omega)] at hsb
    rw [List.map_singleton,wPart_6 h,h,List.eq_nil_of_length_eq_zero hsb]; rfl
theorem wPart_len (q : TRequest) (p : TPiece) : (wPart q p).request.bits.length ≤ q.bits.length ∧ (wPart q p).request.vals.length ≤ q.vals.length := by
  unfold wPart
  repeat' split
  all_goals first|exact ⟨Nat.le_refl _,Nat.zero_le _⟩|exact ⟨Nat.zero_le _,Nat.le_refl _⟩|exact ⟨by simp only [List.length_take,List.length_drop]; omega,Nat.zero_le _⟩|exact ⟨Nat.zero_le _,by simp only [List.length_take,List.length_drop]; omega⟩
theorem split_len (F : Int) (l : List TWindow) (q : TRequest) : (splitP F l q).1.length ≤ 6 ∧ ∀ p ∈ (splitP F l q).1,p.request.bits.length ≤ 2040 ∧ p.request.vals.length ≤ 127 := by
  by_cases h0 : codeP F l q = 0
  · obtain ⟨hno,hcy,hpy,hle⟩ := codeP_zero h0
    have hsm := shape_small (rightR_zero (counts_right hcy)).2
    rw [split_yes h0]
    by_cases h22 : q.fn = 22
    · unfold partsP
      rw [if_pos h22]
      refine ⟨by simp,fun p hp => ?_⟩
      simp only [List.mem_cons,List.not_mem_nil,or_false] at hp
      rcases hp with rfl|rfl
      · exact ⟨Nat.zero_le _,Nat.zero_le _⟩
      · exact ⟨Nat.zero_le _,by simp⟩
    · rw [parts_no h22]
      refine ⟨by simp; omega,fun p hp => ?_⟩
      simp only at hp
      rcases List.mem_append.1 hp with h|h
      · obtain ⟨x,_,rfl⟩ := List.mem_map.1 h
        have := wPart_len q x
        omega
      · obtain ⟨x,_,rfl⟩ := List.mem_map.1 h
        exact ⟨Nat.zero_le _,Nat.zero_le _⟩
  · rw [split_no h0]
    exact ⟨Nat.zero_le _,fun p hp => by cases hp⟩
end
theorem w_part_space (n : Int)  :
    T Try.prog 61 [pI n] 0 [] (Ret (pI (spP n)) 0 []) := by
 refine t_fun tabOk (n := 12) (rs := [.tmp 2]) Try.func61 rfl rfl rfl rfl (nb rfl) ?_
 intro c hnt hk
 refine sr (ae hnt rfl rfl (w_seq (sr (qm hnt rfl rfl (re (w_block ?_))))))
 refine xo hnt 4 [[.o 2],[.o 2],[.o 2]] [] ((decide (n = 1)) || ((decide (n = 5)) || (decide (n = 15)))) (w_if rfl (fun c3 => ?_) (fun c3 => ?_))
 ·try simp only [sB,Bool.or_eq_true,Bool.or_eq_false_iff] at c3
  exact sr (ae hnt rfl rfl (w_le (s := 2) (y := pI (spP n)) rfl (le_of_eq (congrArg pI (show 0 = (spP n) by exact (spP_0 (by omega)).symm))) (w_ret (q_block_ret (q_then_ret fp)))))
 try simp only [sB,Bool.or_eq_true,Bool.or_eq_false_iff] at c3
 refine sr (xp hnt 2 [.o 2] [] [(8,pB (decide (n = 2)))] (re (w_if rfl (fun c4 => ?_) (fun c4 => ?_))))
 ·try simp only [sB] at c4
  exact sr (ae hnt rfl rfl (w_le (s := 2) (y := pI (spP n)) rfl (le_of_eq (congrArg pI (show 1 = (spP n) by exact (spP_1 (by omega)).symm))) (w_ret (q_block_ret (q_then_ret fp)))))
 try simp only [sB] at c4
 refine sr (xp hnt 2 [.o 2] [] [(10,pB (decide (n = 4)))] (re (w_if rfl (fun c5 => ?_) (fun c5 => ?_))))
 ·try simp only [sB] at c5
  exact sr (ae hnt rfl rfl (w_le (s := 2) (y := pI (spP n)) rfl (le_of_eq (congrArg pI (show 2 = (spP n) by exact (spP_2 (by omega)).symm))) (w_ret (q_block_ret (q_then_ret fp)))))
 try simp only [sB] at c5
 exact w_skip (q_block (q_then (sr (ae hnt rfl rfl (w_le (s := 2) (y := pI (spP n)) rfl (le_of_eq (congrArg pI (show 3 = (spP n) by exact (spP_3 (by omega)).symm))) (w_ret fp))))))
theorem w_burgageref14_local (n : Int)  :
    T Try.prog 55 [pI n] 0 [] (Ret (pB (locP n)) 0 []) := by
 refine t_fun tabOk (n := 9) (rs := [.tmp 2]) Try.func55 rfl rfl rfl rfl (nb rfl) ?_
 intro c hnt hk
 refine sr (ae hnt rfl rfl (sr (xa hnt 7 [.o 3,.b 2 [.o 2],.o 1] [] [(2,pB ((decide (n = 8)) || (decide (n = 17))))] 0 [] (re (w_le (s := 2) (y := pB (locP n)) rfl (le_of_eq (congrArg pB (show ((decide (n = 8)) || (decide (n = 17))) = (locP n) by rfl))) ?_)))))
 exact w_ret fp
theorem w_part_Local (q : TRequest)  :
    T Try.prog 19 [PV.f (eRequest q)] 0 [] (Ret (pB (locP q.fn)) 0 []) := by
 refine t_fun tabOk (n := 11) (rs := [.tmp 2]) Try.func19 rfl rfl rfl rfl (nb rfl) ?_
 intro c hnt hk
 refine sr (qo hnt rfl (s_box rfl rfl ?_))
 refine qa hnt rfl rfl (r_set [(1,PV.ptr 0 0)] [(0,.obj (cRequest q))] 1 ⟨rfl,trivial⟩ rfl rfl (re (sr (xp hnt 9 [.o 4,.b 3 [.o 3],.o 1] [] [(2,pB ((decide (q.fn = 8)) || (decide (q.fn = 17))))] (re ?_)))))
 exact w_le (s := 2) (y := pB (locP q.fn)) rfl (le_of_eq (congrArg pB (show ((decide (q.fn = 8)) || (decide (q.fn = 17))) = (locP q.fn) by rfl))) (w_ret fp)
theorem w_part_pieces (t : TTenant) (q : TRequest) (ht : t.windows.length ≤ 1000) (hb : q.bits.length ≤ 140737488351232) (hv : q.vals.length ≤ 70368744175616) (hc : hasF q.fn = true) :
    T Try.prog 36 [PV.f (eTenant t),PV.f (eRequest q)] 0 [] (Ret (PV.tup [pS 3 false ePiece (pW t.windows q),pS 3 false ePiece (pR t.windows q),pB (pOk t.windows q)]) 0 []) := by
 refine t_fun tabOk (n := 96) (rs := [.tmp 4,.tmp 5,.tmp 6]) Try.func36 rfl rfl rfl rfl (nb rfl) ?_
 intro c hnt hk
 refine sr (xm hnt 5 [.o 5] [] [(2,PV.ptr 0 0),(3,PV.ptr 1 0),(4,pNil),(5,pNil)] 2 [(1,.obj (cRequest q)),(0,.obj (cTenant t))] (re (sr (xp hnt 3 [.o 3] [] [(7,pS 4 false eWindow t.windows)] (re ?_)))))
 refine w_seq (w_seq ?_)
 have hfo := hasF_of hc
 refine w_R (xp hnt 2 [.o 2] [] [(12,pI q.fn)] (re (w_block (xo hnt 13 [[.o 2],[.o 2],[.o 2],[.o 2]] [] ((decide (q.fn = 1)) || ((decide (q.fn = 2)) || ((decide (q.fn = 3)) || (decide (q.fn = 4))))) (w_if rfl (fun c4 => ?_) (fun c4 => ?_))))))
 ·try simp only [sB,Bool.or_eq_true,Bool.or_eq_false_iff] at c4
  refine wdr hnt (xq 14 [.o 3,.c (pI (spP q.fn)),.o 4,.c (PV.tup [pS 3 true ePiece (mapL t.windows (spP q.fn) q.at_ q.count),pB (mapOk t.windows (spP q.fn) q.at_ q.count)]),.o 5] [T Try.prog 61 [pI q.fn] 0 [] (Ret (pI (spP q.fn)) 0 []),T Try.prog 60 [pS 4 false eWindow t.windows,pI (spP q.fn),pI q.at_,pI q.count] 0 [] (Ret (PV.tup [pS 3 true ePiece (mapL t.windows (spP q.fn) q.at_ q.count),pB (mapOk t.windows (spP q.fn) q.at_ q.count)]) 0 [])] ?_ (hc := ⟨(w_part_space q.fn),(w_window_Map t.windows false (spP q.fn) q.at_ q.count (by omega)),trivial⟩))
  refine xe [(4,pNil),(5,pS 3 true ePiece (mapL t.windows (spP q.fn) q.at_ q.count)),(6,pB (mapOk t.windows (spP q.fn) q.at_ q.count))] (r_end (q_block (q_then (sr (qm hnt rfl rfl ?_)))))
  refine qm hnt rfl rfl (qm hnt rfl rfl (qa hnt rfl rfl (qa hnt rfl rfl (ae hnt rfl rfl (w_le (s := 4) (y := pS 3 false ePiece []) rfl (le_nilS 3 false) (w_le (s := 4) (y := pS 3 false ePiece (pW t.windows q)) rfl (le_of_eq (congrArg (fun z => pS 3 false ePiece z) (show ([] : List TPiece) = (pW t.windows q) by (rw [(pAll_r (by omega)).1]; done)))) (w_le (s := 5) (y := pS 3 false ePiece (mapL t.windows (spP q.fn) q.at_ q.count)) rfl (le_loose) (w_le (s := 5) (y := pS 3 false ePiece (pR t.windows q)) rfl (le_of_eq (congrArg (fun z => pS 3 false ePiece z) (show (mapL t.windows (spP q.fn) q.at_ q.count) = (pR t.windows q) by (rw [(pAll_r (by omega)).2.1]; done)))) (w_le (s := 6) (y := pB (pOk t.windows q)) rfl (le_of_eq (congrArg pB (show (mapOk t.windows (spP q.fn) q.at_ q.count) = (pOk t.windows q) by (rw [(pAll_r (by omega)).2.2]; done)))) ?_)))))))))
  exact w_ret fp
 try simp only [sB,Bool.or_eq_true,Bool.or_eq_false_iff] at c4
 refine xo hnt 30 [[.o 2],[.o 2]] [] ((decide (q.fn = 5)) || (decide (q.fn = 6))) (w_if rfl (fun c6 => ?_) (fun c6 => ?_))
 ·try simp only [sB,Bool.or_eq_true,Bool.or_eq_false_iff] at c6
  refine wdr hnt (xq 12 [.o 3,.c (pI (spP q.fn)),.o 2,.c (PV.tup [pS 3 true ePiece (mapL t.windows (spP q.fn) q.at_ 1),pB (mapOk t.windows (spP q.fn) q.at_ 1)]),.o 5] [T Try.prog 61 [pI q.fn] 0 [] (Ret (pI (spP q.fn)) 0 []),T Try.prog 60 [pS 4 false eWindow t.windows,pI (spP q.fn),pI q.at_,pI 1] 0 [] (Ret (PV.tup [pS 3 true ePiece (mapL t.windows (spP q.fn) q.at_ 1),pB (mapOk t.windows (spP q.fn) q.at_ 1)]) 0 [])] ?_ (hc := ⟨(w_part_space q.fn),(w_window_Map t.windows false (spP q.fn) q.at_ 1 (by omega)),trivial⟩))
  refine xe [(4,pS 3 true ePiece (mapL t.windows (spP q.fn) q.at_ 1)),(5,pNil),(6,pB (mapOk t.windows (spP q.fn) q.at_ 1))] (r_end (q_block (q_then (sr (qm hnt rfl rfl ?_)))))
  refine qm hnt rfl rfl (qm hnt rfl rfl (qa hnt rfl rfl (qa hnt rfl rfl (ae hnt rfl rfl (w_le (s := 4) (y := pS 3 false ePiece (mapL t.windows (spP q.fn) q.at_ 1)) rfl (le_loose) (w_le (s := 4) (y := pS 3 false ePiece (pW t.windows q)) rfl (le_of_eq (congrArg (fun z => pS 3 false ePiece z) (show (mapL t.windows (spP q.fn) q.at_ 1) = (pW t.windows q) by (rw [(pAll_5 (by omega)).1]; done)))) (w_le (s := 5) (y := pS 3 false ePiece []) rfl (le_nilS 3 false) (w_le (s := 5) (y := pS 3 false ePiece (pR t.windows q)) rfl (le_of_eq (congrArg (fun z => pS 3 false ePiece z) (show ([] : List TPiece) = (pR t.windows q) by (rw [(pAll_5 (by omega)).2.1]; done)))) (w_le (s := 6) (y := pB (pOk t.windows q)) rfl (le_of_eq (congrArg pB (show (mapOk t.windows (spP q.fn) q.at_ 1) = (pOk t.windows q) by (rw [(pAll_5 (by omega)).2.2]; done)))) ?_)))))))))
  exact w_ret fp
 try simp only [sB,Bool.or_eq_true,Bool.or_eq_false_iff] at c6
 refine xo hnt 43 [[.o 2],[.o 2]] [] ((decide (q.fn = 15)) || (decide (q.fn = 16))) (w_if rfl (fun c8 => ?_) (fun c8 => ?_))
 ·try simp only [sB,Bool.or_eq_true,Bool.or_eq_false_iff] at c8
  refine wdr hnt (xq 14 [.o 3,.c (pI (spP q.fn)),.o 4,.c (PV.tup [pS 3 true ePiece (mapL t.windows (spP q.fn) q.at_ q.count),pB (mapOk t.windows (spP q.fn) q.at_ q.count)]),.o 5] [T Try.prog 61 [pI q.fn] 0 [] (Ret (pI (spP q.fn)) 0 []),T Try.prog 60 [pS 4 false eWindow t.windows,pI (spP q.fn),pI q.at_,pI q.count] 0 [] (Ret (PV.tup [pS 3 true ePiece (mapL t.windows (spP q.fn) q.at_ q.count),pB (mapOk t.windows (spP q.fn) q.at_ q.count)]) 0 [])] ?_ (hc := ⟨(w_part_space q.fn),(w_window_Map t.windows false (spP q.fn) q.at_ q.count (by omega)),trivial⟩))
  refine xe [(4,pS 3 true ePiece (mapL t.windows (spP q.fn) q.at_ q.count)),(5,pNil),(6,pB (mapOk t.windows (spP q.fn) q.at_ q.count))] (r_end (q_block (q_then (sr (qm hnt rfl rfl ?_)))))
  refine qm hnt rfl rfl (qm hnt rfl rfl (qa hnt rfl rfl (qa hnt rfl rfl (ae hnt rfl rfl (w_le (s := 4) (y := pS 3 false ePiece (mapL t.windows (spP q.fn) q.at_ q.count)) rfl (le_loose) (w_le (s := 4) (y := pS 3 false ePiece (pW t.windows q)) rfl (le_of_eq (congrArg (fun z => pS 3 false ePiece z) (show (mapL t.windows (spP q.fn) q.at_ q.count) = (pW t.windows q) by (rw [(pAll_15 (by omega)).1]; done)))) (w_le (s := 5) (y := pS 3 false ePiece []) rfl (le_nilS 3 false) (w_le (s := 5) (y := pS 3 false ePiece (pR t.windows q)) rfl (le_of_eq (congrArg (fun z => pS 3 false ePiece z) (show ([] : List TPiece) = (pR t.windows q) by (rw [(pAll_15 (by omega)).2.1]; done)))) (w_le (s := 6) (y := pB (pOk t.windows q)) rfl (le_of_eq (congrArg pB (show (mapOk t.windows (spP q.fn) q.at_ q.count) = (pOk t.windows q) by (rw [(pAll_15 (by omega)).2.2]; done)))) ?_)))))))))
  exact w_ret fp
 try simp only [sB,Bool.or_eq_true,Bool.or_eq_false_iff] at c8
 refine sr (qo hnt rfl (s_eql rfl rfl ?_))
 refine ae hnt rfl rfl (w_if rfl (fun c9 => ?_) (fun c9 => ?_))
 ·try simp only [sB] at c9
  refine sr (xp hnt 3 [.o 3] [] [(61,pS 4 false eWindow t.windows),(63,pI q.at_)] (qo hnt rfl (s_callF rfl rfl rfl (w_window_Map t.windows false 3 q.at_ 1 (by omega)) rfl ?_)))
  refine qm hnt rfl rfl (qo hnt rfl (s_extract rfl rfl ?_))
  refine qo hnt rfl (s_extract rfl rfl ?_)
  refine qa hnt rfl rfl (ae hnt rfl rfl (w_R (qm hnt rfl rfl (qa hnt rfl rfl (r_end (q_block (q_then (sr (qm hnt rfl rfl ?_)))))))))
  refine qm hnt rfl rfl (qm hnt rfl rfl (qa hnt rfl rfl (qa hnt rfl rfl (ae hnt rfl rfl (w_le (s := 4) (y := pS 3 false ePiece (mapL t.windows 3 q.at_ 1)) rfl (le_loose) (w_le (s := 4) (y := pS 3 false ePiece (pW t.windows q)) rfl (le_of_eq (congrArg (fun z => pS 3 false ePiece z) (show (mapL t.windows 3 q.at_ 1) = (pW t.windows q) by (rw [(pAll_22 (by omega)).1]; done)))) (w_le (s := 5) (y := pS 3 false ePiece (mapL t.windows 3 q.at_ 1)) rfl (le_loose) (w_le (s := 5) (y := pS 3 false ePiece (pR t.windows q)) rfl (le_of_eq (congrArg (fun z => pS 3 false ePiece z) (show (mapL t.windows 3 q.at_ 1) = (pR t.windows q) by (rw [(pAll_22 (by omega)).2.1]; done)))) (w_le (s := 6) (y := pB (pOk t.windows q)) rfl (le_of_eq (congrArg pB (show (mapOk t.windows 3 q.at_ 1) = (pOk t.windows q) by (rw [(pAll_22 (by omega)).2.2]; done)))) ?_)))))))))
  exact w_ret fp
 try simp only [sB] at c9
 refine sr (qo hnt rfl (s_eql rfl rfl ?_))
 refine ae hnt rfl rfl (w_if rfl (fun c10 => ?_) (fun c10 => ?_))
 ·try simp only [sB] at c10
  refine sr (ae hnt rfl rfl (sr (xp hnt 6 [.o 5,.c (pN q.vals.length)] [lenC enc16 q.vals] [(71,pS 4 false eWindow t.windows),(73,pI q.wAt),(76,pN q.vals.length)] ?_ (hc := ⟨lenC_ok _ _,trivial⟩))))
  refine qo hnt rfl (s_callF rfl rfl rfl (w_window_Map t.windows false 3 q.wAt ((q.vals.length : Nat) : Int) (by omega)) rfl ?_)
  refine qm hnt rfl rfl (qo hnt rfl (s_extract rfl rfl ?_))
  refine qo hnt rfl (s_extract rfl rfl ?_)
  refine qa hnt rfl rfl (ae hnt rfl rfl (sr (xp hnt 5 [.o 5] [] [(81,pS 4 false eWindow t.windows),(83,pI q.at_),(85,pI q.count)] (qo hnt rfl (s_callF rfl rfl rfl (w_window_Map t.windows false 3 q.at_ q.count (by omega)) rfl ?_)))))
  refine qm hnt rfl rfl (qo hnt rfl (s_extract rfl rfl ?_))
  refine qo hnt rfl (s_extract rfl rfl ?_)
  refine qa hnt rfl rfl (qa hnt rfl rfl (r_set [(4,pS 3 true ePiece (mapL t.windows 3 q.wAt ((q.vals.length : Nat) : Int))),(5,pS 3 true ePiece (mapL t.windows 3 q.at_ q.count)),(6,pB (mapOk t.windows 3 q.wAt ((q.vals.length : Nat) : Int))),(8,pB (mapOk t.windows 3 q.at_ q.count))] [(1,.obj (cRequest q)),(0,.obj (cTenant t))] 2 ⟨rfl,rfl,rfl,rfl,trivial⟩ rfl rfl (re (w_R (xa hnt 5 [.o 2,.b 1 [.o 1],.o 1] [] [(4,pS 3 true ePiece (mapL t.windows 3 q.wAt ((q.vals.length : Nat) : Int))),(5,pS 3 true ePiece (mapL t.windows 3 q.at_ q.count)),(6,pB ((mapOk t.windows 3 q.wAt ((q.vals.length : Nat) : Int)) && (mapOk t.windows 3 q.at_ q.count)))] 2 [(1,.obj (cRequest q)),(0,.obj (cTenant t))] ?_)))))
  refine r_end (q_block (q_then (sr (qm hnt rfl rfl (qm hnt rfl rfl (qm hnt rfl rfl (qa hnt rfl rfl (qa hnt rfl rfl (ae hnt rfl rfl ?_)))))))))
  exact w_le (s := 4) (y := pS 3 false ePiece (mapL t.windows 3 q.wAt ((q.vals.length : Nat) : Int))) rfl (le_loose) (w_le (s := 4) (y := pS 3 false ePiece (pW t.windows q)) rfl (le_of_eq (congrArg (fun z => pS 3 false ePiece z) (show (mapL t.windows 3 q.wAt ((q.vals.length : Nat) : Int)) = (pW t.windows q) by (rw [(pAll_23 (by omega)).1]; done)))) (w_le (s := 5) (y := pS 3 false ePiece (mapL t.windows 3 q.at_ q.count)) rfl (le_loose) (w_le (s := 5) (y := pS 3 false ePiece (pR t.windows q)) rfl (le_of_eq (congrArg (fun z => pS 3 false ePiece z) (show (mapL t.windows 3 q.at_ q.count) = (pR t.windows q) by (rw [(pAll_23 (by omega)).2.1]; done)))) (w_le (s := 6) (y := pB (pOk t.windows q)) rfl (le_of_eq (congrArg pB (show ((mapOk t.windows 3 q.wAt ((q.vals.length : Nat) : Int)) && (mapOk t.windows 3 q.at_ q.count)) = (pOk t.windows q) by (rw [(pAll_23 (by omega)).2.2]; done)))) (w_ret fp)))))
 try simp only [sB] at c10
 refine w_R (qa hnt rfl rfl (r_end (q_block (q_then (sr ?_)))))
 refine xa hnt 6 [.o 6] [] [(4,pNil),(5,pNil),(6,pB true)] 2 [(1,.obj (cRequest q)),(0,.obj (cTenant t))] (re (w_le (s := 4) (y := pS 3 false ePiece []) rfl (le_nilS 3 false) (w_le (s := 4) (y := pS 3 false ePiece (pW t.windows q)) rfl (le_of_eq (congrArg (fun z => pS 3 false ePiece z) (show ([] : List TPiece) = (pW t.windows q) by (rw [(pAll_0 (by omega)).1]; done)))) (w_le (s := 5) (y := pS 3 false ePiece []) rfl (le_nilS 3 false) (w_le (s := 5) (y := pS 3 false ePiece (pR t.windows q)) rfl (le_of_eq (congrArg (fun z => pS 3 false ePiece z) (show ([] : List TPiece) = (pR t.windows q) by (rw [(pAll_0 (by omega)).2.1]; done)))) ?_)))))
 exact w_le (s := 6) (y := pB (pOk t.windows q)) rfl (le_of_eq (congrArg pB (show true = (pOk t.windows q) by (rw [(pAll_0 (by omega)).2.2]; done)))) (w_ret fp)
theorem w_part_Code (t : TTenant) (q : TRequest) (ht : t.windows.length ≤ 1000) (hb : q.bits.length ≤ 140737488351232) (hv : q.vals.length ≤ 70368744175616) :
    T Try.prog 18 [PV.f (eTenant t),PV.f (eRequest q)] 0 [] (Ret (pI (codeP t.functions t.windows q)) 0 []) := by
 refine t_fun tabOk (n := 48) (rs := [.tmp 4]) Try.func18 rfl rfl rfl rfl (nb rfl) ?_
 intro c hnt hk
 refine sr (qo hnt rfl (s_box rfl rfl ?_))
 refine qo hnt rfl (s_box rfl rfl ?_)
 refine qa hnt rfl rfl (r_set [(2,PV.ptr 0 0),(3,PV.ptr 1 0)] [(1,.obj (cRequest q)),(0,.obj (cTenant t))] 2 ⟨rfl,rfl,trivial⟩ rfl rfl (re (sr (xp hnt 1 [.o 1] [] [(9,PV.f (eRequest q))] (qo hnt rfl (s_callF rfl rfl rfl (w_pdu_Right q (by omega) (by omega)) rfl ?_))))))
 refine ae hnt rfl rfl (w_seq (w_block (sr (xp hnt 3 [.o 3] [] [(14,pB (decide (rightR q = 15)))] (r_if tabOk hnt rfl rfl rfl (fun g1 => ?_) (fun g1 => ?_))))))
 ·have g1' := g1
  try simp only [sB] at g1'
  refine qo hnt rfl (s_fa_ptr tab_26 rfl rfl tab_22 (by decide) rfl ?_)
  refine r_eq (s := 14) (y := pB false) rfl (congrArg pB g1) (xp hnt 3 [.o 3] [] [(16,pK .u32 t.functions),(18,pI q.fn)] ?_)
  have hfo := hasF_of (right_15 (by simpa using g1))
  obtain ⟨fnn,hfn⟩ : ∃ n : Nat,q.fn = (n : Int) := ⟨q.fn.toNat,by omega⟩
  have hfnl : fnn < 32 := by omega
  have hfb : fBit t.functions q.fn = decide (bitI .and .u32 (t.functions / 2 ^ fnn) 1 = 0) := by unfold fBit; rw [hfn,Int.toNat_natCast]
  refine r_eq (s := 18) (y := pN fnn) rfl (congrArg pI (show q.fn = ((fnn : Nat) : Int) by exact hfn)) (ry hnt rfl rfl rfl rfl (qo hnt rfl (s_shrK fnn rfl rfl (by show _ < (32 : Nat); omega) ?_)))
  refine ry hnt rfl rfl rfl rfl (qo hnt rfl (s_and rfl rfl ?_))
  refine xp hnt 3 [.o 3] [] [(11,pB (decide (bitI .and .u32 (t.functions / 2 ^ fnn) 1 = 0)))] (re (w_if rfl (fun c1 => ?_) (fun c1 => ?_)))
  ·have c1_ := c1
   try simp only [sB] at c1
   exact sr (ae hnt rfl rfl (w_le (s := 4) (y := pI (codeP t.functions t.windows q)) rfl (le_of_eq (congrArg pI (show 1 = (codeP t.functions t.windows q) by exact (codeP_1 (.inr (hfb.trans c1_))).symm))) (w_ret (q_block_ret (q_then_ret fp)))))
  have c1_ := c1
  try simp only [sB] at c1
  have hno : ¬ (rightR q = 15 ∨ fBit t.functions q.fn = true) := by rintro (h|h); exact absurd h (by simpa using g1); rw [hfb,c1_] at h; cases h
  refine sr (xp hnt 3 [.o 3] [] [(26,pB (!decide (rightR q = 0)))] (r_if tabOk hnt rfl rfl rfl (fun g2 => ?_) (fun g2 => ?_)))
  ·have g2' := g2
   try simp only [sB] at g2'
   refine qo hnt rfl (s_load_ptr tab_37 rfl rfl rfl (nb rfl) ?_)
   refine r_eq (s := 26) (y := pB false) rfl (congrArg pB g2) (ry hnt rfl rfl rfl rfl (qo hnt rfl (s_callF rfl rfl rfl (w_pdu_Counts q (by omega) (by omega)) rfl ?_)))
   refine xp hnt 3 [.o 3] [] [(23,pB (!(countsR q)))] (re (w_if rfl (fun c2 => ?_) (fun c2 => ?_)))
   ·have c2_ := c2
    try simp only [sB] at c2
    exact sr (ae hnt rfl rfl (w_le (s := 4) (y := pI (codeP t.functions t.windows q)) rfl (le_of_eq (congrArg pI (show 3 = (codeP t.functions t.windows q) by exact (codeP_3 hno (by simpa using c2_)).symm))) (w_ret (q_block_ret (q_then_ret fp)))))
   have c2_ := c2
   try simp only [sB] at c2
   refine w_skip (q_block (q_then (w_seq ?_)))
   have hcy : countsR q = true := by simpa using c2_
   have hpl := p_len t.windows q
   refine w_R (xp hnt 2 [.o 2] [] [(32,PV.f (eTenant t)),(33,PV.f (eRequest q))] (qo hnt rfl (s_callF rfl rfl rfl (w_part_pieces t q (by omega) (by omega) (by omega) (by exact counts_has hcy)) rfl ?_)))
   refine xp hnt 7 [.o 7] [] [(6,pS 3 false ePiece (pW t.windows q)),(7,pS 3 false ePiece (pR t.windows q)),(8,pB (pOk t.windows q))] (re (w_seq (w_block (sr (xp hnt 3 [.o 3] [] [(38,pB (!(pOk t.windows q)))] ?_)))))
   refine re (w_if rfl (fun c3 => ?_) (fun c3 => ?_))
   ·have c3_ := c3
    try simp only [sB] at c3
    exact sr (ae hnt rfl rfl (w_le (s := 4) (y := pI (codeP t.functions t.windows q)) rfl (le_of_eq (congrArg pI (show 2 = (codeP t.functions t.windows q) by exact (codeP_2 hno hcy (by simpa using c3_)).symm))) (w_ret (q_block_ret (q_then_ret fp)))))
   have c3_ := c3
   try simp only [sB] at c3
   have hpy : pOk t.windows q = true := by simpa using c3_
   refine sr (qm hnt rfl rfl (qo hnt rfl (s_lenM (l := pW t.windows q) tab_79 rfl (hM_sl (f := ePiece) rfl) ?_)))
   refine qm hnt rfl rfl (qo hnt rfl (s_lenM (l := pR t.windows q) tab_79 rfl (hM_sl (f := ePiece) rfl) ?_))
   refine qo hnt rfl (s_addN (a := (pW t.windows q).length) (b := (pR t.windows q).length) rfl rfl (by omega) (by omega) (by omega) ?_)
   refine qo hnt rfl (s_gtr rfl rfl ?_)
   refine ae hnt rfl rfl (w_if rfl (fun c4 => ?_) (fun c4 => ?_))
   ·try simp only [sB] at c4
    exact sr (qa hnt rfl rfl (r_set [(4,pI 4)] [(1,.obj (cRequest q)),(0,.obj (cTenant t))] 2 ⟨rfl,trivial⟩ rfl rfl (re (w_le (s := 4) (y := pI (codeP t.functions t.windows q)) rfl (le_of_eq (congrArg pI (show 4 = (codeP t.functions t.windows q) by exact (codeP_4 hno hcy hpy (by omega)).symm))) (w_ret (q_block_ret (q_then_ret fp)))))))
   try simp only [sB] at c4
   exact w_skip (q_block (q_then (sr (qa hnt rfl rfl (r_set [(4,pI 0)] [(1,.obj (cRequest q)),(0,.obj (cTenant t))] 2 ⟨rfl,trivial⟩ rfl rfl (re (w_le (s := 4) (y := pI (codeP t.functions t.windows q)) rfl (le_of_eq (congrArg pI (show 0 = (codeP t.functions t.windows q) by exact (codeP_0 hno hcy hpy (by omega)).symm))) (w_ret fp))))))))
  have g2' := g2
  try simp only [sB] at g2'
  refine r_eq (s := 26) (y := pB true) rfl (congrArg pB g2) (xp hnt 4 [.o 4] [] [(23,pB true)] (re (w_if rfl (fun _ => ?_) (fun e => absurd e (by decide)))))
  exact sr (ae hnt rfl rfl (w_le (s := 4) (y := pI (codeP t.functions t.windows q)) rfl (le_of_eq (congrArg pI (show 3 = (codeP t.functions t.windows q) by (exact (codeP_3 hno (cnt_bad (by rw [g2]; rfl))).symm)))) (w_ret (q_block_ret (q_then_ret fp)))))
 have g1' := g1
 try simp only [sB] at g1'
 refine r_eq (s := 14) (y := pB true) rfl (congrArg pB g1) (xp hnt 3 [.o 3] [] [(16,undefP),(18,undefP)] (xp hnt 5 [.o 5] [] [(11,pB true)] (re (w_if rfl (fun _ => ?_) (fun e => absurd e (by decide))))))
 exact sr (ae hnt rfl rfl (w_le (s := 4) (y := pI (codeP t.functions t.windows q)) rfl (le_of_eq (congrArg pI (show 1 = (codeP t.functions t.windows q) by exact (codeP_1 (.inl (of_decide_eq_true g1))).symm))) (w_ret (q_block_ret (q_then_ret fp)))))
theorem w_burgageref14_count (q : TRequest) (a : Int) (b : Int) (h1 : 0 ≤ a ∧ a ≤ 2147483648) (h2 : 0 ≤ b ∧ b ≤ 2147483648) :
    T Try.prog 59 [PV.f (eRequest q),pI a,pI b] 0 [] (Ret (pI (cntP q.fn a b)) 0 []) := by
 refine t_fun tabOk (n := 17) (rs := [.tmp 6]) Try.func59 rfl rfl rfl rfl (nb rfl) ?_
 intro c hnt hk
 refine sr (qo hnt rfl (s_box rfl rfl ?_))
 refine qa hnt rfl rfl (r_set [(1,pI a),(2,pI b),(3,PV.ptr 0 0)] [(0,.obj (cRequest q))] 1 ⟨rfl,rfl,rfl,trivial⟩ rfl rfl (re (w_seq (sr (xp hnt 2 [.o 2] [] [(8,pI q.fn)] ?_)))))
 refine re (w_block (xo hnt 9 [[.o 2],[.o 2]] [] ((decide (q.fn = 5)) || (decide (q.fn = 6))) (w_if rfl (fun c2 => ?_) (fun c2 => ?_))))
 ·try simp only [sB,Bool.or_eq_true,Bool.or_eq_false_iff] at c2
  exact sr (ae hnt rfl rfl (w_le (s := 6) (y := pI (cntP q.fn a b)) rfl (le_of_eq (congrArg pI (show 1 = (cntP q.fn a b) by exact (cntP_5 (by omega)).symm))) (w_ret (q_block_ret (q_then_ret fp)))))
 try simp only [sB,Bool.or_eq_true,Bool.or_eq_false_iff] at c2
 refine sr (qo hnt rfl (s_eql rfl rfl ?_))
 refine ae hnt rfl rfl (w_if rfl (fun c3 => ?_) (fun c3 => ?_))
 ·try simp only [sB] at c3
  exact sr (ae hnt rfl rfl (w_le (s := 6) (y := pI (cntP q.fn a b)) rfl (le_of_eq (congrArg pI (show 2 = (cntP q.fn a b) by exact (cntP_22 (by omega)).symm))) (w_ret (q_block_ret (q_then_ret fp)))))
 try simp only [sB] at c3
 refine w_skip (q_block (q_then (sr (xp hnt 4 [.o 4] [okI (a + b)] [(6,pI (a + b))] ?_ (hc := ⟨by unfold okI; (omega),trivial⟩)))))
 exact re (w_le (s := 6) (y := pI (cntP q.fn a b)) rfl (le_of_eq (congrArg pI (show (a + b) = (cntP q.fn a b) by exact (cntP_0 (by omega)).symm))) (w_ret fp))
theorem w_burgageref8_Spaces (n : Int)  :
    T Try.prog 71 [pI n] 0 [] (Ret (PV.tup [pI (spR n),pI (spW n)]) 0 []) := by
 refine t_fun tabOk (n := 22) (rs := [.tmp 2,.tmp 3]) Try.func71 rfl rfl rfl rfl (nb rfl) ?_
 intro c hnt hk
 refine sr (xp hnt 2 [.o 2] [] [] (re (w_seq (sr (qm hnt rfl rfl ?_)))))
 refine re (w_block (sr (xp hnt 2 [.o 2] [] [(5,pB (decide (n = 1)))] (re (w_if rfl (fun c1 => ?_) (fun c1 => ?_))))))
 ·try simp only [sB] at c1
  exact sr (qa hnt rfl rfl (ae hnt rfl rfl (w_le (s := 2) (y := pI (spR n)) rfl (le_of_eq (congrArg pI (show 0 = (spR n) by (unfold spR; rw [if_pos (by omega)]; done)))) (w_le (s := 3) (y := pI (spW n)) rfl (le_of_eq (congrArg pI (show (-1) = (spW n) by (unfold spW; rw [if_neg (by omega),if_neg (by omega),if_neg (by omega)]; done)))) (w_ret (q_block_ret (q_then_ret fp)))))))
 try simp only [sB] at c1
 refine sr (xp hnt 2 [.o 2] [] [(7,pB (decide (n = 2)))] (re (w_if rfl (fun c2 => ?_) (fun c2 => ?_))))
 ·try simp only [sB] at c2
  exact sr (qa hnt rfl rfl (ae hnt rfl rfl (w_le (s := 2) (y := pI (spR n)) rfl (le_of_eq (congrArg pI (show 1 = (spR n) by (unfold spR; rw [if_neg (by omega),if_pos (by omega)]; done)))) (w_le (s := 3) (y := pI (spW n)) rfl (le_of_eq (congrArg pI (show (-1) = (spW n) by (unfold spW; rw [if_neg (by omega),if_neg (by omega),if_neg (by omega)]; done)))) (w_ret (q_block_ret (q_then_ret fp)))))))
 try simp only [sB] at c2
 refine sr (xp hnt 2 [.o 2] [] [(9,pB (decide (n = 3)))] (re (w_if rfl (fun c3 => ?_) (fun c3 => ?_))))
 ·try simp only [sB] at c3
  exact sr (qa hnt rfl rfl (ae hnt rfl rfl (w_le (s := 2) (y := pI (spR n)) rfl (le_of_eq (congrArg pI (show 3 = (spR n) by (unfold spR; rw [if_neg (by omega),if_neg (by omega),if_pos (by omega)]; done)))) (w_le (s := 3) (y := pI (spW n)) rfl (le_of_eq (congrArg pI (show (-1) = (spW n) by (unfold spW; rw [if_neg (by omega),if_neg (by omega),if_neg (by omega)]; done)))) (w_ret (q_block_ret (q_then_ret fp)))))))
 try simp only [sB] at c3
 refine sr (xp hnt 2 [.o 2] [] [(11,pB (decide (n = 4)))] (re (w_if rfl (fun c4 => ?_) (fun c4 => ?_))))
 ·try simp only [sB] at c4
  exact sr (qa hnt rfl rfl (ae hnt rfl rfl (w_le (s := 2) (y := pI (spR n)) rfl (le_of_eq (congrArg pI (show 2 = (spR n) by (unfold spR; rw [if_neg (by omega),if_neg (by omega),if_neg (by omega),if_pos (by omega)]; done)))) (w_le (s := 3) (y := pI (spW n)) rfl (le_of_eq (congrArg pI (show (-1) = (spW n) by (unfold spW; rw [if_neg (by omega),if_neg (by omega),if_neg (by omega)]; done)))) (w_ret (q_block_ret (q_then_ret fp)))))))
 try simp only [sB] at c4
 refine xo hnt 13 [[.o 2],[.o 2]] [] ((decide (n = 5)) || (decide (n = 15))) (w_if rfl (fun c6 => ?_) (fun c6 => ?_))
 ·try simp only [sB,Bool.or_eq_true,Bool.or_eq_false_iff] at c6
  exact sr (qa hnt rfl rfl (ae hnt rfl rfl (w_le (s := 2) (y := pI (spR n)) rfl (le_of_eq (congrArg pI (show (-1) = (spR n) by (unfold spR; rw [if_neg (by omega),if_neg (by omega),if_neg (by omega),if_neg (by omega),if_neg (by omega)]; done)))) (w_le (s := 3) (y := pI (spW n)) rfl (le_of_eq (congrArg pI (show 0 = (spW n) by (unfold spW; rw [if_pos (by omega)]; done)))) (w_ret (q_block_ret (q_then_ret fp)))))))
 try simp only [sB,Bool.or_eq_true,Bool.or_eq_false_iff] at c6
 refine xo hnt 16 [[.o 2],[.o 2]] [] ((decide (n = 6)) || (decide (n = 16))) (w_if rfl (fun c8 => ?_) (fun c8 => ?_))
 ·try simp only [sB,Bool.or_eq_true,Bool.or_eq_false_iff] at c8
  exact sr (qa hnt rfl rfl (ae hnt rfl rfl (w_le (s := 2) (y := pI (spR n)) rfl (le_of_eq (congrArg pI (show (-1) = (spR n) by (unfold spR; rw [if_neg (by omega),if_neg (by omega),if_neg (by omega),if_neg (by omega),if_neg (by omega)]; done)))) (w_le (s := 3) (y := pI (spW n)) rfl (le_of_eq (congrArg pI (show 3 = (spW n) by (unfold spW; rw [if_neg (by omega),if_pos (by omega)]; done)))) (w_ret (q_block_ret (q_then_ret fp)))))))
 try simp only [sB,Bool.or_eq_true,Bool.or_eq_false_iff] at c8
 refine xo hnt 19 [[.o 2],[.o 2]] [] ((decide (n = 22)) || (decide (n = 23))) (w_if rfl (fun c10 => ?_) (fun c10 => ?_))
 ·try simp only [sB,Bool.or_eq_true,Bool.or_eq_false_iff] at c10
  exact sr (qa hnt rfl rfl (ae hnt rfl rfl (w_le (s := 2) (y := pI (spR n)) rfl (le_of_eq (congrArg pI (show 3 = (spR n) by (unfold spR; rw [if_neg (by omega),if_neg (by omega),if_neg (by omega),if_neg (by omega),if_pos (by omega)]; done)))) (w_le (s := 3) (y := pI (spW n)) rfl (le_of_eq (congrArg pI (show 3 = (spW n) by (unfold spW; rw [if_neg (by omega),if_neg (by omega),if_pos (by omega)]; done)))) (w_ret (q_block_ret (q_then_ret fp)))))))
 try simp only [sB,Bool.or_eq_true,Bool.or_eq_false_iff] at c10
 exact w_skip (q_block (q_then (sr (qa hnt rfl rfl (ae hnt rfl rfl (w_le (s := 2) (y := pI (spR n)) rfl (le_of_eq (congrArg pI (show (-1) = (spR n) by (unfold spR; rw [if_neg (by omega),if_neg (by omega),if_neg (by omega),if_neg (by omega),if_neg (by omega)]; done)))) (w_le (s := 3) (y := pI (spW n)) rfl (le_of_eq (congrArg pI (show (-1) = (spW n) by (unfold spW; rw [if_neg (by omega),if_neg (by omega),if_neg (by omega)]; done)))) (w_ret fp))))))))
theorem w_burgageref8_Asked (q : TRequest) (hv : q.vals.length ≤ 70368744175616) :
    T Try.prog 72 [PV.f (eRequest q)] 0 [] (Ret (PV.tup [pI (askA q),pI (askN q),pI (askW q),pI (askM q)]) 0 []) := by
 refine t_fun tabOk (n := 46) (rs := [.tmp 2,.tmp 3,.tmp 4,.tmp 5]) Try.func72 rfl rfl rfl rfl (nb rfl) ?_
 intro c hnt hk
 refine sr (xm hnt 5 [.o 5] [] [(1,PV.ptr 0 0)] 1 [(0,.obj (cRequest q))] (re (w_seq (sr (xp hnt 2 [.o 2] [] [(7,pI q.fn)] ?_)))))
 refine re (w_block (xo hnt 8 [[.o 2],[.o 2],[.o 2],[.o 2]] [] ((decide (q.fn = 1)) || ((decide (q.fn = 2)) || ((decide (q.fn = 3)) || (decide (q.fn = 4))))) (w_if rfl (fun c4 => ?_) (fun c4 => ?_))))
 ·try simp only [sB,Bool.or_eq_true,Bool.or_eq_false_iff] at c4
  refine w_seq (wdr hnt (xq 8 [.o 8] [] (xe [(2,pI q.at_),(3,pI q.count),(4,pI 0),(5,pI 0)] (re (w_le (s := 2) (y := pI (askA q)) rfl (le_of_eq (congrArg pI (show q.at_ = (askA q) by (unfold askA; rw [if_pos (by omega)]; done)))) ?_)))))
  exact w_le (s := 3) (y := pI (askN q)) rfl (le_of_eq (congrArg pI (show q.count = (askN q) by (unfold askN; rw [if_pos (by omega)]; done)))) (w_le (s := 4) (y := pI (askW q)) rfl (le_of_eq (congrArg pI (show 0 = (askW q) by (unfold askW; rw [if_neg (by omega),if_neg (by omega)]; done)))) (w_le (s := 5) (y := pI (askM q)) rfl (le_of_eq (congrArg pI (show 0 = (askM q) by (unfold askM; rw [if_neg (by omega),if_neg (by omega),if_neg (by omega)]; done)))) (w_ret (q_block_ret (q_then_ret fp)))))
 try simp only [sB,Bool.or_eq_true,Bool.or_eq_false_iff] at c4
 refine xo hnt 17 [[.o 2],[.o 2]] [] ((decide (q.fn = 5)) || (decide (q.fn = 6))) (w_if rfl (fun c6 => ?_) (fun c6 => ?_))
 ·try simp only [sB,Bool.or_eq_true,Bool.or_eq_false_iff] at c6
  refine w_seq (wdr hnt (xq 6 [.o 6] [] (xe [(2,pI 0),(3,pI 0),(4,pI q.at_),(5,pI 1)] (re (w_le (s := 2) (y := pI (askA q)) rfl (le_of_eq (congrArg pI (show 0 = (askA q) by (unfold askA; rw [if_neg (by omega)]; done)))) ?_)))))
  exact w_le (s := 3) (y := pI (askN q)) rfl (le_of_eq (congrArg pI (show 0 = (askN q) by (unfold askN; rw [if_neg (by omega),if_neg (by omega)]; done)))) (w_le (s := 4) (y := pI (askW q)) rfl (le_of_eq (congrArg pI (show q.at_ = (askW q) by (unfold askW; rw [if_pos (by omega)]; done)))) (w_le (s := 5) (y := pI (askM q)) rfl (le_of_eq (congrArg pI (show 1 = (askM q) by (unfold askM; rw [if_pos (by omega)]; done)))) (w_ret (q_block_ret (q_then_ret fp)))))
 try simp only [sB,Bool.or_eq_true,Bool.or_eq_false_iff] at c6
 refine xo hnt 22 [[.o 2],[.o 2]] [] ((decide (q.fn = 15)) || (decide (q.fn = 16))) (w_if rfl (fun c8 => ?_) (fun c8 => ?_))
 ·try simp only [sB,Bool.or_eq_true,Bool.or_eq_false_iff] at c8
  refine w_seq (wdr hnt (xq 8 [.o 8] [] (xe [(2,pI 0),(3,pI 0),(4,pI q.at_),(5,pI q.count)] (re (w_le (s := 2) (y := pI (askA q)) rfl (le_of_eq (congrArg pI (show 0 = (askA q) by (unfold askA; rw [if_neg (by omega)]; done)))) ?_)))))
  exact w_le (s := 3) (y := pI (askN q)) rfl (le_of_eq (congrArg pI (show 0 = (askN q) by (unfold askN; rw [if_neg (by omega),if_neg (by omega)]; done)))) (w_le (s := 4) (y := pI (askW q)) rfl (le_of_eq (congrArg pI (show q.at_ = (askW q) by (unfold askW; rw [if_pos (by omega)]; done)))) (w_le (s := 5) (y := pI (askM q)) rfl (le_of_eq (congrArg pI (show q.count = (askM q) by (unfold askM; rw [if_neg (by omega),if_pos (by omega)]; done)))) (w_ret (q_block_ret (q_then_ret fp)))))
 try simp only [sB,Bool.or_eq_true,Bool.or_eq_false_iff] at c8
 refine sr (qo hnt rfl (s_eql rfl rfl ?_))
 refine ae hnt rfl rfl (w_if rfl (fun c9 => ?_) (fun c9 => ?_))
 ·try simp only [sB] at c9
  refine w_seq (wdr hnt (xq 8 [.o 8] [] (xe [(2,pI q.at_),(3,pI 1),(4,pI q.at_),(5,pI 1)] (re (w_le (s := 2) (y := pI (askA q)) rfl (le_of_eq (congrArg pI (show q.at_ = (askA q) by (unfold askA; rw [if_pos (by omega)]; done)))) ?_)))))
  exact w_le (s := 3) (y := pI (askN q)) rfl (le_of_eq (congrArg pI (show 1 = (askN q) by (unfold askN; rw [if_neg (by omega),if_pos (by omega)]; done)))) (w_le (s := 4) (y := pI (askW q)) rfl (le_of_eq (congrArg pI (show q.at_ = (askW q) by (unfold askW; rw [if_pos (by omega)]; done)))) (w_le (s := 5) (y := pI (askM q)) rfl (le_of_eq (congrArg pI (show 1 = (askM q) by (unfold askM; rw [if_pos (by omega)]; done)))) (w_ret (q_block_ret (q_then_ret fp)))))
 try simp only [sB] at c9
 refine sr (qo hnt rfl (s_eql rfl rfl ?_))
 refine ae hnt rfl rfl (w_if rfl (fun c10 => ?_) (fun c10 => ?_))
 ·try simp only [sB] at c10
  refine w_seq (wdr hnt (xq 13 [.o 8,.c (pN q.vals.length),.o 4] [lenC enc16 q.vals] ?_ (hc := ⟨lenC_ok _ _,trivial⟩)))
  refine xe [(2,pI q.at_),(3,pI q.count),(4,pI q.wAt),(5,pN q.vals.length)] (re (w_le (s := 2) (y := pI (askA q)) rfl (le_of_eq (congrArg pI (show q.at_ = (askA q) by (unfold askA; rw [if_pos (by omega)]; done)))) (w_le (s := 3) (y := pI (askN q)) rfl (le_of_eq (congrArg pI (show q.count = (askN q) by (unfold askN; rw [if_pos (by omega)]; done)))) (w_le (s := 4) (y := pI (askW q)) rfl (le_of_eq (congrArg pI (show q.wAt = (askW q) by (unfold askW; rw [if_neg (by omega),if_pos (by omega)]; done)))) (w_le (s := 5) (y := pI (askM q)) rfl (le_of_eq (congrArg pI (show ((q.vals.length : Nat) : Int) = (askM q) by (unfold askM; rw [if_neg (by omega),if_neg (by omega),if_pos (by omega)]; done)))) ?_)))))
  exact w_ret (q_block_ret (q_then_ret fp))
 try simp only [sB] at c10
 refine w_skip (q_block (q_then (sr (xp hnt 4 [.o 4] [] [(2,pI 0),(3,pI 0),(4,pI 0),(5,pI 0)] (re ?_)))))
 exact w_le (s := 2) (y := pI (askA q)) rfl (le_of_eq (congrArg pI (show 0 = (askA q) by (unfold askA; rw [if_neg (by omega)]; done)))) (w_le (s := 3) (y := pI (askN q)) rfl (le_of_eq (congrArg pI (show 0 = (askN q) by (unfold askN; rw [if_neg (by omega),if_neg (by omega)]; done)))) (w_le (s := 4) (y := pI (askW q)) rfl (le_of_eq (congrArg pI (show 0 = (askW q) by (unfold askW; rw [if_neg (by omega),if_neg (by omega)]; done)))) (w_le (s := 5) (y := pI (askM q)) rfl (le_of_eq (congrArg pI (show 0 = (askM q) by (unfold askM; rw [if_neg (by omega),if_neg (by omega),if_neg (by omega)]; done)))) (w_ret fp))))
theorem w_burgageref14_pieces (t : TTenant) (q : TRequest) (ht : t.windows.length ≤ 1000) (hb : q.bits.length ≤ 140737488351232) (hv : q.vals.length ≤ 70368744175616) (hc : hasF q.fn = true) :
    T Try.prog 56 [PV.f (eTenant t),PV.f (eRequest q)] 0 [] (Ret (PV.tup [pS 3 false ePiece (pR t.windows q),pS 3 false ePiece (pW t.windows q),pB (pOk t.windows q)]) 0 []) := by
 refine t_fun tabOk (n := 58) (rs := [.tmp 4,.tmp 5,.tmp 6]) Try.func56 rfl rfl rfl rfl (nb rfl) ?_
 intro c hnt hk
 refine sr (xm hnt 5 [.o 5] [] [(2,PV.ptr 0 0),(3,PV.ptr 1 0)] 2 [(1,.obj (cRequest q)),(0,.obj (cTenant t))] (re (sr (xp hnt 2 [.o 2] [] [(19,pI q.fn)] (qo hnt rfl (s_callF rfl rfl rfl (w_burgageref8_Spaces q.fn) rfl ?_))))))
 refine xp hnt 5 [.o 5] [] [(7,pI (spR q.fn)),(8,pI (spW q.fn))] (re (sr (xp hnt 1 [.o 1] [] [(24,PV.f (eRequest q))] (qo hnt rfl (s_callF rfl rfl rfl (w_burgageref8_Asked q (by omega)) rfl ?_)))))
 refine xp hnt 9 [.o 9] [] [(9,pI (askA q)),(10,pI (askN q)),(11,pI (askW q)),(12,pI (askM q))] (re (sr (qa hnt rfl rfl (ae hnt rfl rfl (sr ?_)))))
 refine qa hnt rfl rfl (ae hnt rfl rfl (w_seq (sr (qm hnt rfl rfl (qo hnt rfl (s_geq rfl rfl ?_))))))
 refine re (w_if rfl (fun c1 => ?_) (fun c1 => ?_))
 ·try simp only [sB] at c1
  refine w_R (xp hnt 5 [.o 5] [] [(34,pS 4 false eWindow t.windows),(35,pI (spR q.fn)),(36,pI (askA q)),(37,pI (askN q))] (qo hnt rfl (s_callF rfl rfl rfl (w_burgageref7_Map t.windows false (spR q.fn) (askA q) (askN q) (by omega)) rfl ?_)))
  refine qm hnt rfl rfl (qo hnt rfl (s_extract rfl rfl ?_))
  refine qo hnt rfl (s_extract rfl rfl ?_)
  refine qa hnt rfl rfl (ae hnt rfl rfl (w_seq (sr (qm hnt rfl rfl (qo hnt rfl (s_geq rfl rfl ?_))))))
  refine re (w_if rfl (fun c2 => ?_) (fun c2 => ?_))
  ·try simp only [sB] at c2
   refine w_R (xp hnt 5 [.o 5] [] [(45,pS 4 false eWindow t.windows),(46,pI (spW q.fn)),(47,pI (askW q)),(48,pI (askM q))] (qo hnt rfl (s_callF rfl rfl rfl (w_burgageref7_Map t.windows false (spW q.fn) (askW q) (askM q) (by omega)) rfl ?_)))
   refine qm hnt rfl rfl (qo hnt rfl (s_extract rfl rfl ?_))
   refine qo hnt rfl (s_extract rfl rfl ?_)
   refine qa hnt rfl rfl (qa hnt rfl rfl (r_set [(13,pS 3 false ePiece (mapL t.windows (spR q.fn) (askA q) (askN q))),(14,pS 3 false ePiece (mapL t.windows (spW q.fn) (askW q) (askM q))),(15,pB (mapOk t.windows (spR q.fn) (askA q) (askN q))),(16,pB (mapOk t.windows (spW q.fn) (askW q) (askM q)))] [(1,.obj (cRequest q)),(0,.obj (cTenant t))] 2 ⟨rfl,rfl,rfl,rfl,trivial⟩ rfl rfl (re (sr (xp hnt 9 [.o 4,.b 1 [.o 1],.o 3] [] [(4,pS 3 false ePiece (mapL t.windows (spR q.fn) (askA q) (askN q))),(5,pS 3 false ePiece (mapL t.windows (spW q.fn) (askW q) (askM q))),(6,pB ((mapOk t.windows (spR q.fn) (askA q) (askN q)) && (mapOk t.windows (spW q.fn) (askW q) (askM q))))] ?_)))))
   exact re (w_le (s := 4) (y := pS 3 false ePiece (pR t.windows q)) rfl (le_of_eq (congrArg (fun z => pS 3 false ePiece z) (show (mapL t.windows (spR q.fn) (askA q) (askN q)) = (pR t.windows q) by exact ref_A1 hc (by omega)))) (w_le (s := 5) (y := pS 3 false ePiece (pW t.windows q)) rfl (le_of_eq (congrArg (fun z => pS 3 false ePiece z) (show (mapL t.windows (spW q.fn) (askW q) (askM q)) = (pW t.windows q) by exact ref_B1 hc (by omega)))) (w_le (s := 6) (y := pB (pOk t.windows q)) rfl (le_of_eq (congrArg pB (show ((mapOk t.windows (spR q.fn) (askA q) (askN q)) && (mapOk t.windows (spW q.fn) (askW q) (askM q))) = (pOk t.windows q) by exact ref_O11 hc (by omega) (by omega)))) (w_ret fp))))
  try simp only [sB] at c2
  refine w_skip (q_then (sr (xp hnt 9 [.o 4,.b 1 [.o 1],.o 3] [] [(4,pS 3 false ePiece (mapL t.windows (spR q.fn) (askA q) (askN q))),(5,pNil),(6,pB ((mapOk t.windows (spR q.fn) (askA q) (askN q)) && true))] (r_set [(4,pS 3 false ePiece (mapL t.windows (spR q.fn) (askA q) (askN q))),(5,pNil),(6,pB ((mapOk t.windows (spR q.fn) (askA q) (askN q)) && true))] [(1,.obj (cRequest q)),(0,.obj (cTenant t))] 2 ⟨rfl,rfl,rfl,trivial⟩ rfl rfl (re ?_)))))
  exact w_le (s := 4) (y := pS 3 false ePiece (pR t.windows q)) rfl (le_of_eq (congrArg (fun z => pS 3 false ePiece z) (show (mapL t.windows (spR q.fn) (askA q) (askN q)) = (pR t.windows q) by exact ref_A1 hc (by omega)))) (w_le (s := 5) (y := pS 3 false ePiece []) rfl (le_nilS 3 false) (w_le (s := 5) (y := pS 3 false ePiece (pW t.windows q)) rfl (le_of_eq (congrArg (fun z => pS 3 false ePiece z) (show ([] : List TPiece) = (pW t.windows q) by exact ref_B0 hc (by omega)))) (w_le (s := 6) (y := pB (pOk t.windows q)) rfl (le_of_eq (congrArg pB (show ((mapOk t.windows (spR q.fn) (askA q) (askN q)) && true) = (pOk t.windows q) by exact (Bool.and_true _).trans (ref_O10 hc (by omega) (by omega))))) (w_ret fp))))
 try simp only [sB] at c1
 refine w_skip (q_then (w_seq (sr (qm hnt rfl rfl (qo hnt rfl (s_geq rfl rfl ?_))))))
 refine re (w_if rfl (fun c3 => ?_) (fun c3 => ?_))
 ·try simp only [sB] at c3
  refine w_R (xp hnt 5 [.o 5] [] [(45,pS 4 false eWindow t.windows),(46,pI (spW q.fn)),(47,pI (askW q)),(48,pI (askM q))] (qo hnt rfl (s_callF rfl rfl rfl (w_burgageref7_Map t.windows false (spW q.fn) (askW q) (askM q) (by omega)) rfl ?_)))
  refine qm hnt rfl rfl (qo hnt rfl (s_extract rfl rfl ?_))
  refine qo hnt rfl (s_extract rfl rfl ?_)
  refine qa hnt rfl rfl (ae hnt rfl rfl (sr (xp hnt 9 [.o 9] [] [(4,pNil),(5,pS 3 false ePiece (mapL t.windows (spW q.fn) (askW q) (askM q))),(6,pB (mapOk t.windows (spW q.fn) (askW q) (askM q)))] (r_set [(4,pNil),(5,pS 3 false ePiece (mapL t.windows (spW q.fn) (askW q) (askM q))),(6,pB (mapOk t.windows (spW q.fn) (askW q) (askM q)))] [(1,.obj (cRequest q)),(0,.obj (cTenant t))] 2 ⟨rfl,rfl,rfl,trivial⟩ rfl rfl (re ?_)))))
  exact w_le (s := 4) (y := pS 3 false ePiece []) rfl (le_nilS 3 false) (w_le (s := 4) (y := pS 3 false ePiece (pR t.windows q)) rfl (le_of_eq (congrArg (fun z => pS 3 false ePiece z) (show ([] : List TPiece) = (pR t.windows q) by exact ref_A0 hc (by omega)))) (w_le (s := 5) (y := pS 3 false ePiece (pW t.windows q)) rfl (le_of_eq (congrArg (fun z => pS 3 false ePiece z) (show (mapL t.windows (spW q.fn) (askW q) (askM q)) = (pW t.windows q) by exact ref_B1 hc (by omega)))) (w_le (s := 6) (y := pB (pOk t.windows q)) rfl (le_of_eq (congrArg pB (show (mapOk t.windows (spW q.fn) (askW q) (askM q)) = (pOk t.windows q) by exact ref_O01 hc (by omega) (by omega)))) (w_ret fp))))
 try simp only [sB] at c3
 refine w_skip (q_then (sr (xp hnt 9 [.o 9] [] [(4,pNil),(5,pNil),(6,pB true)] (re (w_le (s := 4) (y := pS 3 false ePiece []) rfl (le_nilS 3 false) ?_)))))
 exact w_le (s := 4) (y := pS 3 false ePiece (pR t.windows q)) rfl (le_of_eq (congrArg (fun z => pS 3 false ePiece z) (show ([] : List TPiece) = (pR t.windows q) by exact ref_A0 hc (by omega)))) (w_le (s := 5) (y := pS 3 false ePiece []) rfl (le_nilS 3 false) (w_le (s := 5) (y := pS 3 false ePiece (pW t.windows q)) rfl (le_of_eq (congrArg (fun z => pS 3 false ePiece z) (show ([] : List TPiece) = (pW t.windows q) by exact ref_B0 hc (by omega)))) (w_le (s := 6) (y := pB (pOk t.windows q)) rfl (le_of_eq (congrArg pB (show true = (pOk t.windows q) by exact ref_O00 hc (by omega) (by omega)))) (w_ret fp))))
theorem w_burgageref14_Code (t : TTenant) (q : TRequest) (ht : t.windows.length ≤ 1000) (hb : q.bits.length ≤ 140737488351232) (hv : q.vals.length ≤ 70368744175616) :
    T Try.prog 33 [PV.f (eTenant t),PV.f (eRequest q)] 0 [] (Ret (pI (codeP t.functions t.windows q)) 0 []) := by
 refine t_fun tabOk (n := 47) (rs := [.tmp 4]) Try.func33 rfl rfl rfl rfl (nb rfl) ?_
 intro c hnt hk
 refine sr (qo hnt rfl (s_box rfl rfl ?_))
 refine qo hnt rfl (s_box rfl rfl ?_)
 refine qa hnt rfl rfl (r_set [(2,PV.ptr 0 0),(3,PV.ptr 1 0)] [(1,.obj (cRequest q)),(0,.obj (cTenant t))] 2 ⟨rfl,rfl,trivial⟩ rfl rfl (re (w_seq (sr (xp hnt 2 [.o 2] [] [(9,pI q.fn)] ?_)))))
 refine qo hnt rfl (s_callF rfl rfl rfl (w_burgageref3_Has q.fn) rfl ?_)
 refine xp hnt 2 [.o 2] [] [(12,pB (!(hasF q.fn)))] (r_if tabOk hnt rfl rfl rfl (fun g1 => ?_) (fun g1 => ?_))
 ·have g1' := g1
  try simp only [sB] at g1'
  refine qo hnt rfl (s_fa_ptr tab_26 rfl rfl tab_22 (by decide) rfl ?_)
  refine r_eq (s := 12) (y := pB false) rfl (congrArg pB g1) (xp hnt 3 [.o 3] [] [(14,pK .u32 t.functions),(16,pI q.fn)] ?_)
  have hfo := hasF_of (by simpa using g1)
  obtain ⟨fnn,hfn⟩ : ∃ n : Nat,q.fn = (n : Int) := ⟨q.fn.toNat,by omega⟩
  have hfnl : fnn < 32 := by omega
  have hfb : fBit t.functions q.fn = decide (bitI .and .u32 (t.functions / 2 ^ fnn) 1 = 0) := by unfold fBit; rw [hfn,Int.toNat_natCast]
  refine r_eq (s := 16) (y := pN fnn) rfl (congrArg pI (show q.fn = ((fnn : Nat) : Int) by exact hfn)) (ry hnt rfl rfl rfl rfl (qo hnt rfl (s_cvK tab_3 tab_53 rfl rfl rfl rfl (by exact ⟨by omega,by show _ < (18446744073709551616 : Int); omega⟩) ?_)))
  refine ry hnt rfl rfl rfl rfl (qo hnt rfl (s_shrK fnn rfl rfl (by show _ < (32 : Nat); omega) ?_))
  refine ry hnt rfl rfl rfl rfl (qo hnt rfl (s_and rfl rfl ?_))
  refine xp hnt 2 [.o 2] [] [(21,pB (decide (bitI .and .u32 (t.functions / 2 ^ fnn) 1 = 0)))] (re (w_if rfl (fun c1 => ?_) (fun c1 => ?_)))
  ·have c1_ := c1
   try simp only [sB] at c1
   exact sr (ae hnt rfl rfl (w_le (s := 4) (y := pI (codeP t.functions t.windows q)) rfl (le_of_eq (congrArg pI (show 1 = (codeP t.functions t.windows q) by exact (codeP_1 (.inr (hfb.trans c1_))).symm))) (w_ret (q_then_ret fp))))
  have c1_ := c1
  try simp only [sB] at c1
  have hno : ¬ (rightR q = 15 ∨ fBit t.functions q.fn = true) := by rintro (h|h); exact absurd h (right_not15 (by simpa using g1)); rw [hfb,c1_] at h; cases h
  refine w_skip (q_then (w_seq (sr (xp hnt 1 [.o 1] [] [(22,PV.f (eRequest q))] (qo hnt rfl (s_callF rfl rfl rfl (w_burgageref3_Counts q (by omega) (by omega)) rfl ?_))))))
  refine qo hnt rfl (s_not rfl ?_)
  refine re (w_if rfl (fun c2 => ?_) (fun c2 => ?_))
  ·have c2_ := c2
   try simp only [sB] at c2
   exact sr (ae hnt rfl rfl (w_le (s := 4) (y := pI (codeP t.functions t.windows q)) rfl (le_of_eq (congrArg pI (show 3 = (codeP t.functions t.windows q) by exact (codeP_3 hno (by simpa using c2_)).symm))) (w_ret (q_then_ret fp))))
  have c2_ := c2
  try simp only [sB] at c2
  refine w_skip (q_then (w_seq ?_))
  have hcy : countsR q = true := by simpa using c2_
  have hpl := p_len t.windows q
  refine w_R (xp hnt 2 [.o 2] [] [(26,PV.f (eTenant t)),(27,PV.f (eRequest q))] (qo hnt rfl (s_callF rfl rfl rfl (w_burgageref14_pieces t q (by omega) (by omega) (by omega) (by exact counts_has hcy)) rfl ?_)))
  refine xp hnt 7 [.o 7] [] [(5,pS 3 false ePiece (pR t.windows q)),(6,pS 3 false ePiece (pW t.windows q)),(7,pB (pOk t.windows q))] (re (w_seq (sr (qm hnt rfl rfl (qo hnt rfl (s_not rfl ?_))))))
  refine re (w_if rfl (fun c3 => ?_) (fun c3 => ?_))
  ·have c3_ := c3
   try simp only [sB] at c3
   exact sr (ae hnt rfl rfl (w_le (s := 4) (y := pI (codeP t.functions t.windows q)) rfl (le_of_eq (congrArg pI (show 2 = (codeP t.functions t.windows q) by exact (codeP_2 hno hcy (by simpa using c3_)).symm))) (w_ret (q_then_ret fp))))
  have c3_ := c3
  try simp only [sB] at c3
  have hpy : pOk t.windows q = true := by simpa using c3_
  have hcs := cnt_same (counts_has hcy) hpy
  refine w_skip (q_then (w_seq (sr (xp hnt 2 [.o 2] [] [(35,pI q.fn)] (qo hnt rfl (s_callF rfl rfl rfl (w_burgageref14_local q.fn) rfl ?_))))))
  refine xp hnt 2 [.o 2] [] [(38,pB (!(locP q.fn)))] (r_if tabOk hnt rfl rfl rfl (fun g2 => ?_) (fun g2 => ?_))
  ·have g2' := g2
   try simp only [sB] at g2'
   refine qo hnt rfl (s_load_ptr tab_37 rfl rfl rfl (nb rfl) ?_)
   refine r_eq (s := 38) (y := pB true) rfl (congrArg pB g2) (xp hnt 4 [.o 1,.c (pN ((pR t.windows q).length)),.o 1,.c (pN ((pW t.windows q).length))] [lenC ePiece (pR t.windows q),lenC ePiece (pW t.windows q)] [(41,pN ((pR t.windows q).length)),(43,pN ((pW t.windows q).length))] ?_ (hc := ⟨lenC_ok _ _,lenC_ok _ _,trivial⟩))
   refine ry hnt rfl rfl rfl rfl (qo hnt rfl (s_callF rfl rfl rfl (w_burgageref14_count q (((pR t.windows q).length : Nat) : Int) (((pW t.windows q).length : Nat) : Int) (by omega) (by omega)) rfl ?_))
   refine xp hnt 2 [.o 2] [] [(46,pB (decide (6 < cntP q.fn (((pR t.windows q).length : Nat) : Int) (((pW t.windows q).length : Nat) : Int))))] (r_set [(46,pB (decide (6 < cntP q.fn (((pR t.windows q).length : Nat) : Int) (((pW t.windows q).length : Nat) : Int))))] [(1,.obj (cRequest q)),(0,.obj (cTenant t))] 2 ⟨rfl,trivial⟩ rfl rfl (re (w_if rfl (fun c4 => ?_) (fun c4 => ?_))))
   ·have c4_ := c4
    try simp only [sB] at c4
    have h4y : decide (6 < (pW t.windows q).length + (pR t.windows q).length) = true := by rw [← hcs,g2,c4_]; rfl
    exact sr (ae hnt rfl rfl (w_le (s := 4) (y := pI (codeP t.functions t.windows q)) rfl (le_of_eq (congrArg pI (show 4 = (codeP t.functions t.windows q) by exact (codeP_4 hno hcy hpy (of_decide_eq_true h4y)).symm))) (w_ret (q_then_ret fp))))
   have c4_ := c4
   try simp only [sB] at c4
   have h4y : decide (6 < (pW t.windows q).length + (pR t.windows q).length) = false := by rw [← hcs,g2,c4_]; rfl
   exact w_skip (q_then (sr (ae hnt rfl rfl (w_le (s := 4) (y := pI (codeP t.functions t.windows q)) rfl (le_of_eq (congrArg pI (show 0 = (codeP t.functions t.windows q) by exact (codeP_0 hno hcy hpy (of_decide_eq_false h4y)).symm))) (w_ret fp)))))
  have g2' := g2
  try simp only [sB] at g2'
  have h4y : decide (6 < (pW t.windows q).length + (pR t.windows q).length) = false := by rw [← hcs,g2]; rfl
  refine r_eq (s := 38) (y := pB false) rfl (congrArg pB g2) (xp hnt 7 [.o 7] [] [(46,pB false)] (re (w_if rfl (fun e => absurd e (by decide)) (fun _ => ?_))))
  exact w_skip (q_then (sr (ae hnt rfl rfl (w_le (s := 4) (y := pI (codeP t.functions t.windows q)) rfl (le_of_eq (congrArg pI (show 0 = (codeP t.functions t.windows q) by exact (codeP_0 hno hcy hpy (of_decide_eq_false h4y)).symm))) (w_ret fp)))))
 have g1' := g1
 try simp only [sB] at g1'
 refine r_eq (s := 12) (y := pB true) rfl (congrArg pB g1) (xp hnt 3 [.o 3] [] [(14,undefP),(16,undefP)] (xp hnt 5 [.o 5] [] [(21,pB true)] (re (w_if rfl (fun _ => ?_) (fun e => absurd e (by decide))))))
 exact sr (ae hnt rfl rfl (w_le (s := 4) (y := pI (codeP t.functions t.windows q)) rfl (le_of_eq (congrArg pI (show 1 = (codeP t.functions t.windows q) by exact (codeP_1 (.inl (right_no (by simpa using g1)))).symm))) (w_ret (q_then_ret fp))))
theorem w_part_read (f : Int) (p : TPiece)  :
    T Try.prog 37 [pI f,PV.f (ePiece p)] 0 [] (Ret (PV.f (ePart (rPart f p))) 0 []) := by
 refine t_fun tabOk (n := 12) (rs := [.cell 4 50]) Try.func37 rfl rfl rfl rfl (nb rfl) ?_
 intro c hnt hk
 refine sr (qo hnt rfl (s_box rfl rfl ?_))
 refine qo hnt rfl (s_alloc tab_50 ?_)
 refine r_set [(0,pI f),(3,PV.ptr 0 0),(4,PV.ptr 1 0)] [(1,.obj [pI 0,pI 0,pI 0,pI 0,pI 0,pNil,pNil,p16 0,p16 0,pB false]),(0,.obj (cPiece p))] 2 ⟨rfl,rfl,rfl,trivial⟩ rfl rfl (re (sr (xm hnt 8 [.o 8] [] [] 2 [(1,.obj [pI f,pI p.physical,pI p.count,pI 0,pI 0,pNil,pNil,p16 0,p16 0,pB false]),(0,.obj (cPiece p))] (re (w_leO (n := 1) (ds := cPart (rPart f p)) rfl ⟨le_of_eq (congrArg pI (show f = ((rPart f p).request.fn) by rfl)),le_of_eq (congrArg pI (show p.physical = ((rPart f p).request.at_) by rfl)),le_of_eq (congrArg pI (show p.count = ((rPart f p).request.count) by rfl)),le_of_eq (congrArg pI (show 0 = ((rPart f p).request.wAt) by rfl)),le_of_eq (congrArg pI (show 0 = ((rPart f p).request.sub) by rfl)),le_tr (le_nilS 1 false) (le_of_eq (congrArg (fun z => pS 1 false encBo z) (show ([] : List Bool) = ((rPart f p).request.bits) by rfl))),le_tr (le_nilS 1 false) (le_of_eq (congrArg (fun z => pS 1 false enc16 z) (show ([] : List UInt16) = ((rPart f p).request.vals) by rfl))),le_of_eq (congrArg p16 (show 0 = ((rPart f p).request.and_) by rfl)),le_of_eq (congrArg p16 (show 0 = ((rPart f p).request.or_) by rfl)),le_of_eq (congrArg pB (show false = ((rPart f p).write) by rfl)),trivial⟩ ?_)))))
 exact w_ret fp
theorem w_part_Split (t : TTenant) (q : TRequest) (S : List TPart × Int) (hS : S = splitP t.functions t.windows q) (ht : t.windows.length ≤ 1000) (hb : q.bits.length ≤ 140737488351232) (hv : q.vals.length ≤ 70368744175616) :
    T Try.prog 17 [PV.f (eTenant t),PV.f (eRequest q)] 0 [] (Ret (PV.tup [pS 10 false ePart S.1,pI S.2]) 0 []) := by
 refine t_fun tabOk (n := 155) (rs := [.tmp 4,.tmp 5]) Try.func17 rfl rfl rfl rfl (nb rfl) ?_
 intro c hnt hk
 refine sr (xm hnt 4 [.o 4] [] [(2,PV.ptr 0 0),(3,PV.ptr 1 0)] 2 [(1,.obj (cRequest q)),(0,.obj (cTenant t))] (re (w_seq (sr (xp hnt 2 [.o 2] [] [(18,PV.f (eTenant t)),(19,PV.f (eRequest q))] ?_)))))
 refine qo hnt rfl (s_callF rfl rfl rfl (w_part_Code t q (by omega) (by omega) (by omega)) rfl ?_)
 refine ae hnt rfl rfl (sr (qm hnt rfl rfl (qo hnt rfl (s_neq rfl rfl ?_))))
 refine re (w_if rfl (fun c1 => ?_) (fun c1 => ?_))
 ·have c1_ := c1
  try simp only [sB] at c1
  have hcn : ¬ codeP t.functions t.windows q = 0 := by simpa using c1_
  rw [split_no hcn] at hS
  exact sr (qm hnt rfl rfl (qa hnt rfl rfl (ae hnt rfl rfl (w_le (s := 4) (y := pS 10 false ePart []) rfl (le_nilS 10 false) (w_le (s := 4) (y := pS 10 false ePart S.1) rfl (le_of_eq (congrArg (fun z => pS 10 false ePart z) (show ([] : List TPart) = S.1 by (rw [hS]; done)))) (w_le (s := 5) (y := pI S.2) rfl (le_of_eq (congrArg pI (show (codeP t.functions t.windows q) = S.2 by (rw [hS]; done)))) (w_ret (q_then_ret fp))))))))
 have c1_ := c1
 try simp only [sB] at c1
 refine w_skip (q_then (w_seq ?_))
 have hc0 : codeP t.functions t.windows q = 0 := by simpa using c1_
 obtain ⟨hno,hcy,hpy,hle6⟩ := codeP_zero hc0
 rw [split_yes hc0] at hS
 have hpl := p_len t.windows q
 have hsm := shape_small (rightR_zero (counts_right hcy)).2
 refine w_R (ae hnt rfl rfl (sr (xp hnt 2 [.o 2] [] [(25,PV.f (eTenant t)),(26,PV.f (eRequest q))] (qo hnt rfl (s_callF rfl rfl rfl (w_part_pieces t q (by omega) (by omega) (by omega) (by exact counts_has hcy)) rfl ?_)))))
 refine xp hnt 7 [.o 7] [] [(8,pS 3 false ePiece (pW t.windows q)),(9,pS 3 false ePiece (pR t.windows q))] (re (w_seq (sr (xp hnt 3 [.o 3] [] [(33,pB (decide (q.fn = 22)))] (re ?_)))))
 refine w_if rfl (fun c2 => ?_) (fun c2 => ?_)
 ·try simp only [sB] at c2
  refine w_seq ?_
  obtain ⟨h1l,h1c,hrw,_⟩ := p_one (l := t.windows) (q := q) (by omega) hpy
  have hrw2 := hrw (by omega)
  have hrl : (pR t.windows q).length = 1 := by rw [hrw2]; exact h1l
  have hrc : ∀ x,(pR t.windows q)[0]? = some x → x.count = 1 := by rw [hrw2]; exact h1c
  refine w_R (qm hnt rfl rfl ?_)
  obtain ⟨e1,he1⟩ := get_of_lt (pR t.windows q) (i := 0) (by omega)
  refine qo hnt rfl (s_iaM (q := 0) (b := e1) (f := ePiece) tab_79 rfl tab_83 rfl rfl (by omega) rfl he1 ?_)
  refine xp hnt 3 [.o 3] [] [(11,pI e1.physical)] (re (sr (qm hnt rfl rfl (qo hnt rfl (s_iaM (q := 0) (b := e1) (f := ePiece) tab_79 rfl tab_83 rfl rfl (by omega) rfl he1 ?_)))))
  refine qo hnt rfl (s_load_ro tab_83 rfl rfl rfl ?_)
  refine qo hnt rfl (s_callF rfl rfl rfl (w_part_read 3 e1) rfl ?_)
  refine qm hnt rfl rfl (qo hnt rfl (s_mkM (f := enc16) ([0] : List UInt16) tab_34 rfl tab_35 ⟨rfl,by decide⟩ (by decide) rfl rfl rfl rfl ?_))
  refine xp hnt 2 [.o 2] [] [(45,PV.agg [pI 6,pI e1.physical,pI 0,pI 0,pI 0,pNil,PV.ref 2 0 none,p16 0,p16 0,pB true])] (r_frz (s := 45) rfl rfl (r_le (s := 45) (y := PV.f (ePart (⟨(⟨6,e1.physical,0,0,0,[],([0] : List UInt16),0,0⟩ : TRequest),true⟩ : TPart))) rfl (le_F (FLe.agg ⟨FLe.refl _,FLe.refl _,FLe.refl _,FLe.refl _,FLe.refl _,FLe.nil 1 false,FLe.refl _,FLe.refl _,FLe.refl _,FLe.refl _,trivial⟩)) (qo hnt rfl (s_mkM (f := ePart) [rPart 3 e1,(⟨(⟨6,e1.physical,0,0,0,[],([0] : List UInt16),0,0⟩ : TRequest),true⟩ : TPart)] tab_45 rfl tab_50 ⟨rfl,by decide⟩ (by decide) rfl rfl rfl rfl ?_))))
  exact qa hnt rfl rfl (qa hnt rfl rfl (r_set [(4,PV.ref 3 0 none),(5,pI 0)] [(3,oB true 10 ePart ([rPart 3 e1,(⟨(⟨6,e1.physical,0,0,0,[],([0] : List UInt16),0,0⟩ : TRequest),true⟩ : TPart)])),(2,oB false 1 enc16 ([0] : List UInt16)),(1,.obj (cRequest q)),(0,.obj (cTenant t))] 4 ⟨rfl,rfl,trivial⟩ rfl rfl (re (w_frzM (s := 4) (f := ePart) rfl rfl view_0 (w_le (s := 4) (y := pS 10 false ePart S.1) rfl (le_of_eq (congrArg (fun z => pS 10 false ePart z) (show ([rPart 3 e1,(⟨(⟨6,e1.physical,0,0,0,[],([0] : List UInt16),0,0⟩ : TRequest),true⟩ : TPart)] : List TPart) = S.1 by (rw [hS]; exact (parts_22 (by omega) he1 (hrc _ he1)).symm)))) (w_le (s := 5) (y := pI S.2) rfl (le_of_eq (congrArg pI (show 0 = S.2 by (rw [hS]; done)))) (w_ret (q_then_ret fp))))))))
 try simp only [sB] at c2
 refine w_skip (q_then (w_seq (sr (qm hnt rfl rfl (qo hnt rfl (s_lenM (l := pW t.windows q) tab_79 rfl (hM_sl (f := ePiece) rfl) ?_))))))
 refine qm hnt rfl rfl (re (w_block (w_adopt (s := 7) (sz := 10) rfl (loop2 (fun (os : List TPart) (i : Nat) => i ≤ (pW t.windows q).length ∧ os = ((pW t.windows q).take i).map (wPart q)) (fun (os : List TPart) (i : Nat) => [(3,PV.ptr 1 0),(7,PV.ref 0 0 none),(9,pS 3 false ePiece (pR t.windows q)),(47,pS 3 false ePiece (pW t.windows q)),(48,pN ((pW t.windows q).length)),(49,pN i)]) 2 (fun (os : List TPart) (i : Nat) => [(0,oB true 10 ePart os),(1,.obj (cRequest q))]) (fun (os : List TPart) (i : Nat) => (pW t.windows q).length - i) (([] : List TPart)) (0) ?_ ⟨[(0,2),(1,1)],by rw [hk]; decide,⟨⟨_,rfl,rfl,rfl⟩,⟨_,rfl,rfl,rfl⟩,⟨_,rfl,rfl,rfl⟩,⟨_,rfl,rfl,rfl⟩,⟨_,rfl,rfl,rfl⟩,⟨_,rfl,rfl,rfl⟩,trivial⟩,⟨⟨_,_,rfl,rfl,rfl,rfl⟩,⟨_,_,rfl,rfl,rfl,rfl⟩,trivial⟩,by rw [hk]; decide⟩ ?_))))
 · exact ⟨by omega,rfl⟩
 ·intro os i hI
  obtain ⟨hi,hos⟩ := hI
  have hol : os.length ≤ 6 := by rw [hos]; simp; omega
  refine sr (qo hnt rfl (s_lss rfl rfl ?_))
  refine re (w_seq (w_if rfl (fun c3 => ?_) (fun c3 => ?_)))
  ·try simp only [sB] at c3
   refine w_skip (q_then (w_seq (w_block (sr ?_))))
   obtain ⟨e2,he2⟩ := get_of_lt (pW t.windows q) (i := i) (by omega)
   refine qo hnt rfl (s_iaM (q := i) (b := e2) (f := ePiece) tab_79 rfl tab_83 rfl rfl (by omega) rfl he2 ?_)
   refine xm hnt 3 [.o 3] [] [(13,PV.ptr 2 0)] 3 [(2,.obj (cPiece e2)),(0,oB true 10 ePart os),(1,.obj (cRequest q))] (re (w_seq ?_))
   obtain ⟨wc1,wc2,wp0,wp1,wfn,w15,w16,w23⟩ := pW_get hcy he2
   obtain ⟨w1,hw1⟩ : ∃ z,z = wPart q e2 := ⟨_,rfl⟩
   refine w_R (xm hnt 9 [.o 9] [] [(14,PV.ptr 3 0)] 4 [(3,.obj [pI q.fn,pI e2.physical,pI e2.count,pI 0,pI 0,pNil,pNil,p16 0,p16 0]),(2,.obj (cPiece e2)),(0,oB true 10 ePart os),(1,.obj (cRequest q))] (re (join0 (True) ([(3,PV.ptr 1 0),(7,PV.ref 2 0 none),(9,pS 3 false ePiece (pR t.windows q)),(14,PV.ptr 0 0),(47,pS 3 false ePiece (pW t.windows q)),(48,pN ((pW t.windows q).length)),(49,pN i)]) 3 ([(0,.obj [pI w1.request.fn,pI w1.request.at_,pI w1.request.count,pI w1.request.wAt,pI w1.request.sub,pS 1 false encBo w1.request.bits,pS 1 false enc16 w1.request.vals,p16 w1.request.and_,p16 w1.request.or_]),(1,.obj (cRequest q)),(2,oB true 10 ePart os)]) ?_ ?_)))
   ·refine sr (xp hnt 2 [.o 2] [] [(61,pI q.fn)] (re (w_block (sr (xp hnt 2 [.o 2] [] [(62,pB (decide (q.fn = 5)))] ?_)))))
    refine re (w_if rfl (fun c4 => ?_) (fun c4 => ?_))
    ·try simp only [sB] at c4
     refine w_R (xp hnt 2 [.o 2] [] [(65,pS 1 false encBo q.bits)] (qo hnt rfl (s_callK 5 (PV.ref 4 0 none) [(4,oB true 1 encBo q.bits),(3,.obj [pI q.fn,pI e2.physical,pI e2.count,pI 0,pI 0,pNil,pNil,p16 0,p16 0]),(2,.obj (cPiece e2)),(0,oB true 10 ePart os),(1,.obj (cRequest q))] [] (w_slices_Clone_bool_bool q.bits false (by omega)) ?_)))
     refine xm hnt 4 [.o 4] [] [] 5 [(3,.obj [pI q.fn,pI e2.physical,pI 0,pI 0,pI 0,PV.ref 4 0 none,pNil,p16 0,p16 0]),(4,oB true 1 encBo q.bits),(2,.obj (cPiece e2)),(0,oB true 10 ePart os),(1,.obj (cRequest q))] (r_frzC (n := 3) (j := 5) rfl rfl rfl rfl ?_)
     have hz1 : q.bits = w1.request.bits := by ((rw [hw1,wPart_5 (by omega)] <;> (first|rfl|omega)))
     refine r_leO (n := 3) (ds := [pI q.fn,pI e2.physical,pI 0,pI 0,pI 0,pS 1 false encBo w1.request.bits,pNil,p16 0,p16 0]) rfl ⟨le_refl _,le_refl _,le_refl _,le_refl _,le_refl _,le_of_eq (congrArg (fun z => pS 1 false encBo z) hz1),le_refl _,le_refl _,le_refl _,trivial⟩ ?_
     have hz2 : q.fn = w1.request.fn ∧ e2.physical = w1.request.at_ ∧ 0 = w1.request.count ∧ 0 = w1.request.wAt ∧ 0 = w1.request.sub ∧ ([] : List UInt16) = w1.request.vals ∧ 0 = w1.request.and_ ∧ 0 = w1.request.or_ := by and_intros <;> ((rw [hw1,wPart_5 (by omega)] <;> (first|rfl|omega)))
     refine r_leO (n := 3) (ds := [pI w1.request.fn,pI w1.request.at_,pI w1.request.count,pI w1.request.wAt,pI w1.request.sub,pS 1 false encBo w1.request.bits,pS 1 false enc16 w1.request.vals,p16 w1.request.and_,p16 w1.request.or_]) rfl ⟨le_of_eq (congrArg pI hz2.1),le_of_eq (congrArg pI hz2.2.1),le_of_eq (congrArg pI hz2.2.2.1),le_of_eq (congrArg pI hz2.2.2.2.1),le_of_eq (congrArg pI hz2.2.2.2.2.1),le_refl _,le_tr (le_nilS 1 false) (le_of_eq (congrArg (fun z => pS 1 false enc16 z) hz2.2.2.2.2.2.1)),le_of_eq (congrArg p16 hz2.2.2.2.2.2.2.1),le_of_eq (congrArg p16 hz2.2.2.2.2.2.2.2),trivial⟩ (r_end (q_block (q_then (⟨?_,⟨[(0,3),(1,1),(2,0)],by rw [hk]; decide,⟨⟨_,rfl,rfl,rfl⟩,⟨_,rfl,rfl,rfl⟩,⟨_,rfl,rfl,rfl⟩,⟨_,rfl,rfl,rfl⟩,⟨_,rfl,rfl,rfl⟩,⟨_,rfl,rfl,rfl⟩,⟨_,rfl,rfl,rfl⟩,trivial⟩,⟨⟨_,_,rfl,rfl,rfl,rfl⟩,⟨_,_,rfl,rfl,rfl,rfl⟩,⟨_,_,rfl,rfl,rfl,rfl⟩,trivial⟩,by rw [hk]; decide⟩⟩))))
     trivial
    try simp only [sB] at c4
    refine sr (xp hnt 2 [.o 2] [] [(69,pB (decide (q.fn = 6)))] (re (w_if rfl (fun c5 => ?_) (fun c5 => ?_))))
    ·try simp only [sB] at c5
     refine w_R (xp hnt 2 [.o 2] [] [(72,pS 1 false enc16 q.vals)] (qo hnt rfl (s_callK 5 (PV.ref 4 0 none) [(4,oB true 1 enc16 q.vals),(3,.obj [pI q.fn,pI e2.physical,pI e2.count,pI 0,pI 0,pNil,pNil,p16 0,p16 0]),(2,.obj (cPiece e2)),(0,oB true 10 ePart os),(1,.obj (cRequest q))] [] (w_slices_Clone_uint16_uint16 q.vals false (by omega)) ?_)))
     refine xm hnt 4 [.o 4] [] [] 5 [(3,.obj [pI q.fn,pI e2.physical,pI 0,pI 0,pI 0,pNil,PV.ref 4 0 none,p16 0,p16 0]),(4,oB true 1 enc16 q.vals),(2,.obj (cPiece e2)),(0,oB true 10 ePart os),(1,.obj (cRequest q))] (r_frzC (n := 3) (j := 6) rfl rfl rfl rfl ?_)
     have hz3 : q.vals = w1.request.vals := by ((rw [hw1,wPart_6 (by omega)] <;> (first|rfl|omega)))
     refine r_leO (n := 3) (ds := [pI q.fn,pI e2.physical,pI 0,pI 0,pI 0,pNil,pS 1 false enc16 w1.request.vals,p16 0,p16 0]) rfl ⟨le_refl _,le_refl _,le_refl _,le_refl _,le_refl _,le_refl _,le_of_eq (congrArg (fun z => pS 1 false enc16 z) hz3),le_refl _,le_refl _,trivial⟩ ?_
     have hz4 : q.fn = w1.request.fn ∧ e2.physical = w1.request.at_ ∧ 0 = w1.request.count ∧ 0 = w1.request.wAt ∧ 0 = w1.request.sub ∧ ([] : List Bool) = w1.request.bits ∧ 0 = w1.request.and_ ∧ 0 = w1.request.or_ := by and_intros <;> ((rw [hw1,wPart_6 (by omega)] <;> (first|rfl|omega)))
     refine r_leO (n := 3) (ds := [pI w1.request.fn,pI w1.request.at_,pI w1.request.count,pI w1.request.wAt,pI w1.request.sub,pS 1 false encBo w1.request.bits,pS 1 false enc16 w1.request.vals,p16 w1.request.and_,p16 w1.request.or_]) rfl ⟨le_of_eq (congrArg pI hz4.1),le_of_eq (congrArg pI hz4.2.1),le_of_eq (congrArg pI hz4.2.2.1),le_of_eq (congrArg pI hz4.2.2.2.1),le_of_eq (congrArg pI hz4.2.2.2.2.1),le_tr (le_nilS 1 false) (le_of_eq (congrArg (fun z => pS 1 false encBo z) hz4.2.2.2.2.2.1)),le_refl _,le_of_eq (congrArg p16 hz4.2.2.2.2.2.2.1),le_of_eq (congrArg p16 hz4.2.2.2.2.2.2.2),trivial⟩ (r_end (q_block (q_then (⟨?_,⟨[(0,3),(1,1),(2,0)],by rw [hk]; decide,⟨⟨_,rfl,rfl,rfl⟩,⟨_,rfl,rfl,rfl⟩,⟨_,rfl,rfl,rfl⟩,⟨_,rfl,rfl,rfl⟩,⟨_,rfl,rfl,rfl⟩,⟨_,rfl,rfl,rfl⟩,⟨_,rfl,rfl,rfl⟩,trivial⟩,⟨⟨_,_,rfl,rfl,rfl,rfl⟩,⟨_,_,rfl,rfl,rfl,rfl⟩,⟨_,_,rfl,rfl,rfl,rfl⟩,trivial⟩,by rw [hk]; decide⟩⟩))))
     trivial
    try simp only [sB] at c5
    refine sr (qo hnt rfl (s_eql rfl rfl ?_))
    refine ae hnt rfl rfl (w_if rfl (fun c6 => ?_) (fun c6 => ?_))
    ·try simp only [sB] at c6
     refine wdr hnt (xq 7 [.o 7] [okI (e2.at_ - q.at_)] ?_ (hc := ⟨by unfold okI; (omega),trivial⟩))
     refine xk [(79,pS 1 false encBo q.bits),(84,pI (e2.at_ - q.at_))] [] [] [] [(3,.obj [pI q.fn,pI e2.physical,pI e2.count,pI 0,pI 0,pNil,pNil,p16 0,p16 0]),(2,.obj (cPiece e2)),(0,oB true 10 ePart os),(1,.obj (cRequest q))] (s_cutM_lo (a := Int.toNat (e2.at_ - q.at_)) (f := encBo) (l := q.bits) tab_33 rfl tab_4 ⟨rfl,by decide⟩ rfl (bound_some rfl (by omega)) (by omega) ⟨rfl,rfl,rfl⟩) (xq 2 [.o 2] [] (xk [(85,pS 1 false encBo (q.bits.drop (Int.toNat (e2.at_ - q.at_)))),(87,pI e2.count)] [] [] [] [(3,.obj [pI q.fn,pI e2.physical,pI e2.count,pI 0,pI 0,pNil,pNil,p16 0,p16 0]),(2,.obj (cPiece e2)),(0,oB true 10 ePart os),(1,.obj (cRequest q))] (s_cutM_hi (b := Int.toNat e2.count) (f := encBo) (l := q.bits.drop (Int.toNat (e2.at_ - q.at_))) tab_33 rfl tab_4 ⟨rfl,by decide⟩ rfl (bound_some rfl (by omega)) (by rw [List.length_drop]; omega) ⟨rfl,rfl,rfl⟩) (xk [(88,pS 1 false encBo ((q.bits.drop (Int.toNat (e2.at_ - q.at_))).take (Int.toNat e2.count)))] [] [] [(4,oB true 1 encBo ((q.bits.drop (Int.toNat (e2.at_ - q.at_))).take (Int.toNat e2.count)))] [(4,oB true 1 encBo ((q.bits.drop (Int.toNat (e2.at_ - q.at_))).take (Int.toNat e2.count))),(3,.obj [pI q.fn,pI e2.physical,pI e2.count,pI 0,pI 0,pNil,pNil,p16 0,p16 0]),(2,.obj (cPiece e2)),(0,oB true 10 ePart os),(1,.obj (cRequest q))] (s_callK 5 (PV.ref 4 0 none) _ [] (w_slices_Clone_bool_bool ((q.bits.drop (Int.toNat (e2.at_ - q.at_))).take (Int.toNat e2.count)) false (by simp; omega)) ⟨rfl,rfl,rfl⟩) (xd 2 [.o 2] [] 5 [(3,.obj [pI q.fn,pI e2.physical,pI e2.count,pI 0,pI 0,PV.ref 4 0 none,pNil,p16 0,p16 0]),(4,oB true 1 encBo ((q.bits.drop (Int.toNat (e2.at_ - q.at_))).take (Int.toNat e2.count))),(2,.obj (cPiece e2)),(0,oB true 10 ePart os),(1,.obj (cRequest q))] (xe [(3,PV.ptr 1 0),(7,PV.ref 0 0 none),(9,pS 3 false ePiece (pR t.windows q)),(14,PV.ptr 3 0),(47,pS 3 false ePiece (pW t.windows q)),(48,pN ((pW t.windows q).length)),(49,pN i)] ?_)))))
     refine r_frzC (n := 3) (j := 5) rfl rfl rfl rfl ?_
     have hz5 : ((q.bits.drop (Int.toNat (e2.at_ - q.at_))).take (Int.toNat e2.count)) = w1.request.bits := by ((rw [hw1,wPart_15 (by omega)] <;> (first|rfl|omega)))
     refine r_leO (n := 3) (ds := [pI q.fn,pI e2.physical,pI e2.count,pI 0,pI 0,pS 1 false encBo w1.request.bits,pNil,p16 0,p16 0]) rfl ⟨le_refl _,le_refl _,le_refl _,le_refl _,le_refl _,le_of_eq (congrArg (fun z => pS 1 false encBo z) hz5),le_refl _,le_refl _,le_refl _,trivial⟩ ?_
     have hz6 : q.fn = w1.request.fn ∧ e2.physical = w1.request.at_ ∧ e2.count = w1.request.count ∧ 0 = w1.request.wAt ∧ 0 = w1.request.sub ∧ ([] : List UInt16) = w1.request.vals ∧ 0 = w1.request.and_ ∧ 0 = w1.request.or_ := by and_intros <;> ((rw [hw1,wPart_15 (by omega)] <;> (first|rfl|omega)))
     refine r_leO (n := 3) (ds := [pI w1.request.fn,pI w1.request.at_,pI w1.request.count,pI w1.request.wAt,pI w1.request.sub,pS 1 false encBo w1.request.bits,pS 1 false enc16 w1.request.vals,p16 w1.request.and_,p16 w1.request.or_]) rfl ⟨le_of_eq (congrArg pI hz6.1),le_of_eq (congrArg pI hz6.2.1),le_of_eq (congrArg pI hz6.2.2.1),le_of_eq (congrArg pI hz6.2.2.2.1),le_of_eq (congrArg pI hz6.2.2.2.2.1),le_refl _,le_tr (le_nilS 1 false) (le_of_eq (congrArg (fun z => pS 1 false enc16 z) hz6.2.2.2.2.2.1)),le_of_eq (congrArg p16 hz6.2.2.2.2.2.2.1),le_of_eq (congrArg p16 hz6.2.2.2.2.2.2.2),trivial⟩ (r_end (q_block (q_then (⟨?_,⟨[(0,3),(1,1),(2,0)],by rw [hk]; decide,⟨⟨_,rfl,rfl,rfl⟩,⟨_,rfl,rfl,rfl⟩,⟨_,rfl,rfl,rfl⟩,⟨_,rfl,rfl,rfl⟩,⟨_,rfl,rfl,rfl⟩,⟨_,rfl,rfl,rfl⟩,⟨_,rfl,rfl,rfl⟩,trivial⟩,⟨⟨_,_,rfl,rfl,rfl,rfl⟩,⟨_,_,rfl,rfl,rfl,rfl⟩,⟨_,_,rfl,rfl,rfl,rfl⟩,trivial⟩,by rw [hk]; decide⟩⟩))))
     trivial
    try simp only [sB] at c6
    refine sr (qo hnt rfl (s_eql rfl rfl ?_))
    refine ae hnt rfl rfl (w_if rfl (fun c7 => ?_) (fun c7 => ?_))
    ·try simp only [sB] at c7
     refine wdr hnt (xq 7 [.o 7] [okI (e2.at_ - q.at_)] ?_ (hc := ⟨by unfold okI; (omega),trivial⟩))
     refine xk [(94,pS 1 false enc16 q.vals),(99,pI (e2.at_ - q.at_))] [] [] [] [(3,.obj [pI q.fn,pI e2.physical,pI e2.count,pI 0,pI 0,pNil,pNil,p16 0,p16 0]),(2,.obj (cPiece e2)),(0,oB true 10 ePart os),(1,.obj (cRequest q))] (s_cutM_lo (a := Int.toNat (e2.at_ - q.at_)) (f := enc16) (l := q.vals) tab_34 rfl tab_35 ⟨rfl,by decide⟩ rfl (bound_some rfl (by omega)) (by omega) ⟨rfl,rfl,rfl⟩) (xq 2 [.o 2] [] (xk [(100,pS 1 false enc16 (q.vals.drop (Int.toNat (e2.at_ - q.at_)))),(102,pI e2.count)] [] [] [] [(3,.obj [pI q.fn,pI e2.physical,pI e2.count,pI 0,pI 0,pNil,pNil,p16 0,p16 0]),(2,.obj (cPiece e2)),(0,oB true 10 ePart os),(1,.obj (cRequest q))] (s_cutM_hi (b := Int.toNat e2.count) (f := enc16) (l := q.vals.drop (Int.toNat (e2.at_ - q.at_))) tab_34 rfl tab_35 ⟨rfl,by decide⟩ rfl (bound_some rfl (by omega)) (by rw [List.length_drop]; omega) ⟨rfl,rfl,rfl⟩) (xk [(103,pS 1 false enc16 ((q.vals.drop (Int.toNat (e2.at_ - q.at_))).take (Int.toNat e2.count)))] [] [] [(4,oB true 1 enc16 ((q.vals.drop (Int.toNat (e2.at_ - q.at_))).take (Int.toNat e2.count)))] [(4,oB true 1 enc16 ((q.vals.drop (Int.toNat (e2.at_ - q.at_))).take (Int.toNat e2.count))),(3,.obj [pI q.fn,pI e2.physical,pI e2.count,pI 0,pI 0,pNil,pNil,p16 0,p16 0]),(2,.obj (cPiece e2)),(0,oB true 10 ePart os),(1,.obj (cRequest q))] (s_callK 5 (PV.ref 4 0 none) _ [] (w_slices_Clone_uint16_uint16 ((q.vals.drop (Int.toNat (e2.at_ - q.at_))).take (Int.toNat e2.count)) false (by simp; omega)) ⟨rfl,rfl,rfl⟩) (xd 2 [.o 2] [] 5 [(3,.obj [pI q.fn,pI e2.physical,pI e2.count,pI 0,pI 0,pNil,PV.ref 4 0 none,p16 0,p16 0]),(4,oB true 1 enc16 ((q.vals.drop (Int.toNat (e2.at_ - q.at_))).take (Int.toNat e2.count))),(2,.obj (cPiece e2)),(0,oB true 10 ePart os),(1,.obj (cRequest q))] (xe [(3,PV.ptr 1 0),(7,PV.ref 0 0 none),(9,pS 3 false ePiece (pR t.windows q)),(14,PV.ptr 3 0),(47,pS 3 false ePiece (pW t.windows q)),(48,pN ((pW t.windows q).length)),(49,pN i)] ?_)))))
     refine r_frzC (n := 3) (j := 6) rfl rfl rfl rfl ?_
     have hz7 : ((q.vals.drop (Int.toNat (e2.at_ - q.at_))).take (Int.toNat e2.count)) = w1.request.vals := by ((rw [hw1,wPart_16 (by omega)] <;> (first|rfl|omega)))
     refine r_leO (n := 3) (ds := [pI q.fn,pI e2.physical,pI e2.count,pI 0,pI 0,pNil,pS 1 false enc16 w1.request.vals,p16 0,p16 0]) rfl ⟨le_refl _,le_refl _,le_refl _,le_refl _,le_refl _,le_refl _,le_of_eq (congrArg (fun z => pS 1 false enc16 z) hz7),le_refl _,le_refl _,trivial⟩ ?_
     have hz8 : q.fn = w1.request.fn ∧ e2.physical = w1.request.at_ ∧ e2.count = w1.request.count ∧ 0 = w1.request.wAt ∧ 0 = w1.request.sub ∧ ([] : List Bool) = w1.request.bits ∧ 0 = w1.request.and_ ∧ 0 = w1.request.or_ := by and_intros <;> ((rw [hw1,wPart_16 (by omega)] <;> (first|rfl|omega)))
     refine r_leO (n := 3) (ds := [pI w1.request.fn,pI w1.request.at_,pI w1.request.count,pI w1.request.wAt,pI w1.request.sub,pS 1 false encBo w1.request.bits,pS 1 false enc16 w1.request.vals,p16 w1.request.and_,p16 w1.request.or_]) rfl ⟨le_of_eq (congrArg pI hz8.1),le_of_eq (congrArg pI hz8.2.1),le_of_eq (congrArg pI hz8.2.2.1),le_of_eq (congrArg pI hz8.2.2.2.1),le_of_eq (congrArg pI hz8.2.2.2.2.1),le_tr (le_nilS 1 false) (le_of_eq (congrArg (fun z => pS 1 false encBo z) hz8.2.2.2.2.2.1)),le_refl _,le_of_eq (congrArg p16 hz8.2.2.2.2.2.2.1),le_of_eq (congrArg p16 hz8.2.2.2.2.2.2.2),trivial⟩ (r_end (q_block (q_then (⟨?_,⟨[(0,3),(1,1),(2,0)],by rw [hk]; decide,⟨⟨_,rfl,rfl,rfl⟩,⟨_,rfl,rfl,rfl⟩,⟨_,rfl,rfl,rfl⟩,⟨_,rfl,rfl,rfl⟩,⟨_,rfl,rfl,rfl⟩,⟨_,rfl,rfl,rfl⟩,⟨_,rfl,rfl,rfl⟩,trivial⟩,⟨⟨_,_,rfl,rfl,rfl,rfl⟩,⟨_,_,rfl,rfl,rfl,rfl⟩,⟨_,_,rfl,rfl,rfl,rfl⟩,trivial⟩,by rw [hk]; decide⟩⟩))))
     trivial
    try simp only [sB] at c7
    refine sr (qo hnt rfl (s_eql rfl rfl ?_))
    refine ae hnt rfl rfl (w_if rfl (fun c8 => ?_) (fun c8 => ?_))
    ·try simp only [sB] at c8
     refine wdr hnt (xq 7 [.o 7] [okI (e2.at_ - q.wAt)] ?_ (hc := ⟨by unfold okI; (omega),trivial⟩))
     refine xk [(109,pS 1 false enc16 q.vals),(114,pI (e2.at_ - q.wAt))] [] [] [] [(3,.obj [pI q.fn,pI e2.physical,pI e2.count,pI 0,pI 0,pNil,pNil,p16 0,p16 0]),(2,.obj (cPiece e2)),(0,oB true 10 ePart os),(1,.obj (cRequest q))] (s_cutM_lo (a := Int.toNat (e2.at_ - q.wAt)) (f := enc16) (l := q.vals) tab_34 rfl tab_35 ⟨rfl,by decide⟩ rfl (bound_some rfl (by omega)) (by omega) ⟨rfl,rfl,rfl⟩) (xq 2 [.o 2] [] (xk [(115,pS 1 false enc16 (q.vals.drop (Int.toNat (e2.at_ - q.wAt)))),(117,pI e2.count)] [] [] [] [(3,.obj [pI q.fn,pI e2.physical,pI e2.count,pI 0,pI 0,pNil,pNil,p16 0,p16 0]),(2,.obj (cPiece e2)),(0,oB true 10 ePart os),(1,.obj (cRequest q))] (s_cutM_hi (b := Int.toNat e2.count) (f := enc16) (l := q.vals.drop (Int.toNat (e2.at_ - q.wAt))) tab_34 rfl tab_35 ⟨rfl,by decide⟩ rfl (bound_some rfl (by omega)) (by rw [List.length_drop]; omega) ⟨rfl,rfl,rfl⟩) (xk [(118,pS 1 false enc16 ((q.vals.drop (Int.toNat (e2.at_ - q.wAt))).take (Int.toNat e2.count)))] [] [] [(4,oB true 1 enc16 ((q.vals.drop (Int.toNat (e2.at_ - q.wAt))).take (Int.toNat e2.count)))] [(4,oB true 1 enc16 ((q.vals.drop (Int.toNat (e2.at_ - q.wAt))).take (Int.toNat e2.count))),(3,.obj [pI q.fn,pI e2.physical,pI e2.count,pI 0,pI 0,pNil,pNil,p16 0,p16 0]),(2,.obj (cPiece e2)),(0,oB true 10 ePart os),(1,.obj (cRequest q))] (s_callK 5 (PV.ref 4 0 none) _ [] (w_slices_Clone_uint16_uint16 ((q.vals.drop (Int.toNat (e2.at_ - q.wAt))).take (Int.toNat e2.count)) false (by simp; omega)) ⟨rfl,rfl,rfl⟩) (xd 4 [.o 4] [] 5 [(3,.obj [pI 16,pI e2.physical,pI e2.count,pI 0,pI 0,pNil,PV.ref 4 0 none,p16 0,p16 0]),(4,oB true 1 enc16 ((q.vals.drop (Int.toNat (e2.at_ - q.wAt))).take (Int.toNat e2.count))),(2,.obj (cPiece e2)),(0,oB true 10 ePart os),(1,.obj (cRequest q))] (xe [(3,PV.ptr 1 0),(7,PV.ref 0 0 none),(9,pS 3 false ePiece (pR t.windows q)),(14,PV.ptr 3 0),(47,pS 3 false ePiece (pW t.windows q)),(48,pN ((pW t.windows q).length)),(49,pN i)] ?_)))))
     refine r_frzC (n := 3) (j := 6) rfl rfl rfl rfl ?_
     have hz9 : ((q.vals.drop (Int.toNat (e2.at_ - q.wAt))).take (Int.toNat e2.count)) = w1.request.vals := by ((rw [hw1,wPart_23 (by omega)] <;> (first|rfl|omega)))
     refine r_leO (n := 3) (ds := [pI 16,pI e2.physical,pI e2.count,pI 0,pI 0,pNil,pS 1 false enc16 w1.request.vals,p16 0,p16 0]) rfl ⟨le_refl _,le_refl _,le_refl _,le_refl _,le_refl _,le_refl _,le_of_eq (congrArg (fun z => pS 1 false enc16 z) hz9),le_refl _,le_refl _,trivial⟩ ?_
     have hz10 : 16 = w1.request.fn ∧ e2.physical = w1.request.at_ ∧ e2.count = w1.request.count ∧ 0 = w1.request.wAt ∧ 0 = w1.request.sub ∧ ([] : List Bool) = w1.request.bits ∧ 0 = w1.request.and_ ∧ 0 = w1.request.or_ := by and_intros <;> ((rw [hw1,wPart_23 (by omega)] <;> (first|rfl|omega)))
     refine r_leO (n := 3) (ds := [pI w1.request.fn,pI w1.request.at_,pI w1.request.count,pI w1.request.wAt,pI w1.request.sub,pS 1 false encBo w1.request.bits,pS 1 false enc16 w1.request.vals,p16 w1.request.and_,p16 w1.request.or_]) rfl ⟨le_of_eq (congrArg pI hz10.1),le_of_eq (congrArg pI hz10.2.1),le_of_eq (congrArg pI hz10.2.2.1),le_of_eq (congrArg pI hz10.2.2.2.1),le_of_eq (congrArg pI hz10.2.2.2.2.1),le_tr (le_nilS 1 false) (le_of_eq (congrArg (fun z => pS 1 false encBo z) hz10.2.2.2.2.2.1)),le_refl _,le_of_eq (congrArg p16 hz10.2.2.2.2.2.2.1),le_of_eq (congrArg p16 hz10.2.2.2.2.2.2.2),trivial⟩ (r_end (q_block (q_then (⟨?_,⟨[(0,3),(1,1),(2,0)],by rw [hk]; decide,⟨⟨_,rfl,rfl,rfl⟩,⟨_,rfl,rfl,rfl⟩,⟨_,rfl,rfl,rfl⟩,⟨_,rfl,rfl,rfl⟩,⟨_,rfl,rfl,rfl⟩,⟨_,rfl,rfl,rfl⟩,⟨_,rfl,rfl,rfl⟩,trivial⟩,⟨⟨_,_,rfl,rfl,rfl,rfl⟩,⟨_,_,rfl,rfl,rfl,rfl⟩,⟨_,_,rfl,rfl,rfl,rfl⟩,trivial⟩,by rw [hk]; decide⟩⟩))))
     trivial
    try simp only [sB] at c8
    have hz11 : q.fn = w1.request.fn ∧ e2.physical = w1.request.at_ ∧ e2.count = w1.request.count ∧ 0 = w1.request.wAt ∧ 0 = w1.request.sub ∧ ([] : List Bool) = w1.request.bits ∧ ([] : List UInt16) = w1.request.vals ∧ 0 = w1.request.and_ ∧ 0 = w1.request.or_ := by and_intros <;> ((exfalso; omega))
    refine w_leO (n := 3) (ds := [pI w1.request.fn,pI w1.request.at_,pI w1.request.count,pI w1.request.wAt,pI w1.request.sub,pS 1 false encBo w1.request.bits,pS 1 false enc16 w1.request.vals,p16 w1.request.and_,p16 w1.request.or_]) rfl ⟨le_of_eq (congrArg pI hz11.1),le_of_eq (congrArg pI hz11.2.1),le_of_eq (congrArg pI hz11.2.2.1),le_of_eq (congrArg pI hz11.2.2.2.1),le_of_eq (congrArg pI hz11.2.2.2.2.1),le_tr (le_nilS 1 false) (le_of_eq (congrArg (fun z => pS 1 false encBo z) hz11.2.2.2.2.2.1)),le_tr (le_nilS 1 false) (le_of_eq (congrArg (fun z => pS 1 false enc16 z) hz11.2.2.2.2.2.2.1)),le_of_eq (congrArg p16 hz11.2.2.2.2.2.2.2.1),le_of_eq (congrArg p16 hz11.2.2.2.2.2.2.2.2),trivial⟩ (w_skip (q_block (q_then (⟨?_,⟨[(0,3),(1,1),(2,0)],by rw [hk]; decide,⟨⟨_,rfl,rfl,rfl⟩,⟨_,rfl,rfl,rfl⟩,⟨_,rfl,rfl,rfl⟩,⟨_,rfl,rfl,rfl⟩,⟨_,rfl,rfl,rfl⟩,⟨_,rfl,rfl,rfl⟩,⟨_,rfl,rfl,rfl⟩,trivial⟩,⟨⟨_,_,rfl,rfl,rfl,rfl⟩,⟨_,_,rfl,rfl,rfl,rfl⟩,⟨_,_,rfl,rfl,rfl,rfl⟩,trivial⟩,by rw [hk]; decide⟩⟩))))
    trivial
   intro hJ
   refine w_seq (wdr hnt (xd 10 [.o 2,.c (pS 1 true encBo w1.request.bits),.o 2,.c (pS 1 true enc16 w1.request.vals),.o 4] [T Try.prog 40 [pS 1 false encBo w1.request.bits] 0 [] (Ret (pS 1 true encBo w1.request.bits) 0 []),T Try.prog 41 [pS 1 false enc16 w1.request.vals] 0 [] (Ret (pS 1 true enc16 w1.request.vals) 0 [])] 3 [(0,.obj [pI w1.request.fn,pI w1.request.at_,pI w1.request.count,pI w1.request.wAt,pI w1.request.sub,pS 1 true encBo w1.request.bits,pS 1 true enc16 w1.request.vals,p16 w1.request.and_,p16 w1.request.or_]),(1,.obj (cRequest q)),(2,oB true 10 ePart os)] ?_ (hc := ⟨(w_slices_Clip_bool_bool w1.request.bits false),(w_slices_Clip_uint16_uint16 w1.request.vals false),trivial⟩)))
   refine xe [(3,PV.ptr 1 0),(7,PV.ref 2 0 none),(9,pS 3 false ePiece (pR t.windows q)),(14,PV.ptr 0 0),(47,pS 3 false ePiece (pW t.windows q)),(48,pN ((pW t.windows q).length)),(49,pN i)] (re (w_R (qm hnt rfl rfl (qo hnt rfl (s_load_ptr tab_37 rfl rfl rfl (nb rfl) ?_)))))
   refine qo hnt rfl (s_build tab_50 rfl rfl (b_cons rfl tab_37 rfl rfl rfl (nb rfl) (b_cons rfl tab_4 rfl rfl rfl (nb rfl) (b_nil ?_))))
   refine r_le (s := 132) (y := PV.f (ePart (⟨(⟨w1.request.fn,w1.request.at_,w1.request.count,w1.request.wAt,w1.request.sub,w1.request.bits,w1.request.vals,w1.request.and_,w1.request.or_⟩ : TRequest),true⟩ : TPart))) rfl (le_F (FLe.agg ⟨FLe.refl _,FLe.refl _,FLe.refl _,FLe.refl _,FLe.refl _,FLe.loose,FLe.loose,FLe.refl _,FLe.refl _,FLe.refl _,trivial⟩)) (qo hnt rfl (s_mkM (f := ePart) [(⟨(⟨w1.request.fn,w1.request.at_,w1.request.count,w1.request.wAt,w1.request.sub,w1.request.bits,w1.request.vals,w1.request.and_,w1.request.or_⟩ : TRequest),true⟩ : TPart)] tab_45 rfl tab_50 ⟨rfl,by decide⟩ (by decide) rfl rfl rfl rfl ?_))
   refine qo hnt rfl (s_appR0 (f := ePart) (l := os) (xs := [(⟨(⟨w1.request.fn,w1.request.at_,w1.request.count,w1.request.wAt,w1.request.sub,w1.request.bits,w1.request.vals,w1.request.and_,w1.request.or_⟩ : TRequest),true⟩ : TPart)]) tab_45 rfl tab_50 ⟨rfl,by decide,by decide⟩ (srcM tab_45 rfl (hM_ref0 (f := ePart) rfl rfl)) rfl rfl (by (simp; omega)) ?_)
   refine qa hnt rfl rfl (r_set [(3,PV.ptr 1 0),(7,PV.ref 4 0 none),(9,pS 3 false ePiece (pR t.windows q)),(47,pS 3 false ePiece (pW t.windows q)),(48,pN ((pW t.windows q).length)),(49,pN i)] [(4,oB true 10 ePart (os ++ [(⟨(⟨w1.request.fn,w1.request.at_,w1.request.count,w1.request.wAt,w1.request.sub,w1.request.bits,w1.request.vals,w1.request.and_,w1.request.or_⟩ : TRequest),true⟩ : TPart)])),(3,oB true 10 ePart [(⟨(⟨w1.request.fn,w1.request.at_,w1.request.count,w1.request.wAt,w1.request.sub,w1.request.bits,w1.request.vals,w1.request.and_,w1.request.or_⟩ : TRequest),true⟩ : TPart)]),(0,.obj [pI w1.request.fn,pI w1.request.at_,pI w1.request.count,pI w1.request.wAt,pI w1.request.sub,pS 1 true encBo w1.request.bits,pS 1 true enc16 w1.request.vals,p16 w1.request.and_,p16 w1.request.or_]),(1,.obj (cRequest q))] 5 ⟨rfl,rfl,rfl,rfl,rfl,rfl,trivial⟩ rfl rfl (r_end (q_block (q_then (w_R (qo hnt rfl (s_addN (a := i) (b := 1) rfl rfl (by omega) (by omega) (by omega) ?_)))))))
   refine qm hnt rfl rfl (re (⟨(os ++ [(⟨(⟨w1.request.fn,w1.request.at_,w1.request.count,w1.request.wAt,w1.request.sub,w1.request.bits,w1.request.vals,w1.request.and_,w1.request.or_⟩ : TRequest),true⟩ : TPart)]),(i + 1), ?_, ?_,⟨[(0,4),(1,1)],by rw [hk]; decide,⟨⟨_,rfl,rfl,rfl⟩,⟨_,rfl,rfl,rfl⟩,⟨_,rfl,rfl,rfl⟩,⟨_,rfl,rfl,rfl⟩,⟨_,rfl,rfl,rfl⟩,⟨_,rfl,rfl,rfl⟩,trivial⟩,⟨⟨_,_,rfl,rfl,rfl,rfl⟩,⟨_,_,rfl,rfl,rfl,rfl⟩,trivial⟩,by rw [hk]; decide⟩⟩))
   ·refine ⟨by omega, ?_⟩
    rw [hos,List.take_add_one,he2,List.map_append]
    exact congrArg (fun z => ((pW t.windows q).take i).map (wPart q) ++ [z]) (by rw [hw1]; exact wPart_eta q e2)
   · omega
  try simp only [sB] at c3
  refine w_exit (q_then_exit (q_then_exit (q_block_exit (q_then (w_seq (sr (qm hnt rfl rfl (qo hnt rfl (s_lenM (l := pR t.windows q) tab_79 rfl (hM_sl (f := ePiece) rfl) ?_)))))))))
  refine qm hnt rfl rfl (re (w_block (loop2 (fun (os5 : List TPart) (j : Nat) => j ≤ (pR t.windows q).length ∧ os5 = (pW t.windows q).map (wPart q) ++ ((pR t.windows q).take j).map (rPart (if q.fn = 23 then 3 else q.fn))) (fun (os5 : List TPart) (j : Nat) => [(3,PV.ptr 1 0),(7,PV.ref 0 0 none),(136,pS 3 false ePiece (pR t.windows q)),(137,pN ((pR t.windows q).length)),(138,pN j)]) 2 (fun (os5 : List TPart) (j : Nat) => [(0,oB true 10 ePart os5),(1,.obj (cRequest q))]) (fun (os5 : List TPart) (j : Nat) => (pR t.windows q).length - j) (os) (0) ?_ ⟨[(0,0),(1,1)],by rw [hk]; decide,⟨⟨_,rfl,rfl,rfl⟩,⟨_,rfl,rfl,rfl⟩,⟨_,rfl,rfl,rfl⟩,⟨_,rfl,rfl,rfl⟩,⟨_,rfl,rfl,rfl⟩,trivial⟩,⟨⟨_,_,rfl,rfl,rfl,rfl⟩,⟨_,_,rfl,rfl,rfl,rfl⟩,trivial⟩,by rw [hk]; decide⟩ ?_)))
  · exact ⟨by omega,by rw [hos,show i = (pW t.windows q).length by omega,List.take_length]; simp⟩
  ·intro os5 j hJ
   obtain ⟨hj,ho5⟩ := hJ
   have hol5 : os5.length ≤ 6 := by rw [ho5]; simp; omega
   refine sr (qo hnt rfl (s_lss rfl rfl ?_))
   refine re (w_seq (w_if rfl (fun c9 => ?_) (fun c9 => ?_)))
   ·try simp only [sB] at c9
    refine w_skip (q_then (w_seq (w_block (sr ?_))))
    obtain ⟨e3,he3⟩ := get_of_lt (pR t.windows q) (i := j) (by omega)
    refine qo hnt rfl (s_iaM (q := j) (b := e3) (f := ePiece) tab_79 rfl tab_83 rfl rfl (by omega) rfl he3 ?_)
    refine xm hnt 3 [.o 3] [] [(16,PV.ptr 2 0)] 3 [(2,.obj (cPiece e3)),(0,oB true 10 ePart os5),(1,.obj (cRequest q))] (re (sr (xp hnt 3 [.o 3] [] [(17,pI q.fn)] (re (w_seq ?_)))))
    refine sr (qm hnt rfl rfl (qo hnt rfl (s_eql rfl rfl ?_)))
    refine re (w_if rfl (fun c10 => ?_) (fun c10 => ?_))
    ·try simp only [sB] at c10
     refine w_R (ae hnt rfl rfl (w_R (xp hnt 3 [.o 3] [] [(146,PV.ref 0 0 none),(147,pI 3),(148,PV.f (ePiece e3))] (qo hnt rfl (s_callF rfl rfl rfl (w_part_read 3 e3) rfl ?_)))))
     refine qo hnt rfl (s_mkM (f := ePart) [rPart 3 e3] tab_45 rfl tab_50 ⟨rfl,by decide⟩ (by decide) rfl rfl rfl rfl ?_)
     refine qo hnt rfl (s_appR0 (f := ePart) (l := os5) (xs := [rPart 3 e3]) tab_45 rfl tab_50 ⟨rfl,by decide,by decide⟩ (srcM tab_45 rfl (hM_ref0 (f := ePart) rfl rfl)) rfl rfl (by (simp; omega)) ?_)
     refine qa hnt rfl rfl (r_set [(3,PV.ptr 1 0),(7,PV.ref 4 0 none),(136,pS 3 false ePiece (pR t.windows q)),(137,pN ((pR t.windows q).length)),(138,pN j)] [(4,oB true 10 ePart (os5 ++ [rPart 3 e3])),(3,oB true 10 ePart [rPart 3 e3]),(2,.obj (cPiece e3)),(1,.obj (cRequest q))] 5 ⟨rfl,rfl,rfl,rfl,rfl,trivial⟩ rfl rfl (r_end (q_block (q_then (w_R (qo hnt rfl (s_addN (a := j) (b := 1) rfl rfl (by omega) (by omega) (by omega) ?_)))))))
     refine qm hnt rfl rfl (re (⟨(os5 ++ [rPart 3 e3]),(j + 1), ?_, ?_,⟨[(0,4),(1,1)],by rw [hk]; decide,⟨⟨_,rfl,rfl,rfl⟩,⟨_,rfl,rfl,rfl⟩,⟨_,rfl,rfl,rfl⟩,⟨_,rfl,rfl,rfl⟩,⟨_,rfl,rfl,rfl⟩,trivial⟩,⟨⟨_,_,rfl,rfl,rfl,rfl⟩,⟨_,_,rfl,rfl,rfl,rfl⟩,trivial⟩,by rw [hk]; decide⟩⟩))
     ·refine ⟨by omega, ?_⟩
      rw [ho5,List.take_add_one,he3,List.map_append,← List.append_assoc]
      (rw [if_pos (by omega)]; rfl)
     · omega
    try simp only [sB] at c10
    refine w_skip (q_then (w_R (xp hnt 3 [.o 3] [] [(146,PV.ref 0 0 none),(147,pI q.fn),(148,PV.f (ePiece e3))] (qo hnt rfl (s_callF rfl rfl rfl (w_part_read q.fn e3) rfl ?_)))))
    refine qo hnt rfl (s_mkM (f := ePart) [rPart q.fn e3] tab_45 rfl tab_50 ⟨rfl,by decide⟩ (by decide) rfl rfl rfl rfl ?_)
    refine qo hnt rfl (s_appR0 (f := ePart) (l := os5) (xs := [rPart q.fn e3]) tab_45 rfl tab_50 ⟨rfl,by decide,by decide⟩ (srcM tab_45 rfl (hM_ref0 (f := ePart) rfl rfl)) rfl rfl (by (simp; omega)) ?_)
    refine qa hnt rfl rfl (r_set [(3,PV.ptr 1 0),(7,PV.ref 4 0 none),(136,pS 3 false ePiece (pR t.windows q)),(137,pN ((pR t.windows q).length)),(138,pN j)] [(4,oB true 10 ePart (os5 ++ [rPart q.fn e3])),(3,oB true 10 ePart [rPart q.fn e3]),(2,.obj (cPiece e3)),(1,.obj (cRequest q))] 5 ⟨rfl,rfl,rfl,rfl,rfl,trivial⟩ rfl rfl (r_end (q_block (q_then (w_R (qo hnt rfl (s_addN (a := j) (b := 1) rfl rfl (by omega) (by omega) (by omega) ?_)))))))
    refine qm hnt rfl rfl (re (⟨(os5 ++ [rPart q.fn e3]),(j + 1), ?_, ?_,⟨[(0,4),(1,1)],by rw [hk]; decide,⟨⟨_,rfl,rfl,rfl⟩,⟨_,rfl,rfl,rfl⟩,⟨_,rfl,rfl,rfl⟩,⟨_,rfl,rfl,rfl⟩,⟨_,rfl,rfl,rfl⟩,trivial⟩,⟨⟨_,_,rfl,rfl,rfl,rfl⟩,⟨_,_,rfl,rfl,rfl,rfl⟩,trivial⟩,by rw [hk]; decide⟩⟩))
    ·refine ⟨by omega, ?_⟩
     rw [ho5,List.take_add_one,he3,List.map_append,← List.append_assoc]
     (rw [if_neg (by omega)]; rfl)
    · omega
   try simp only [sB] at c9
   refine w_exit (q_then_exit (q_then_exit (q_block_exit (q_then (w_seq ?_)))))
   have hpe : os5 = partsP t.windows q := by rw [ho5,show j = (pR t.windows q).length by omega,List.take_length,parts_no (by omega)]
   refine w_R (qm hnt rfl rfl (qo hnt rfl (s_callK 2 (pS 10 true ePart os5) [(0,oB false 10 ePart os5),(1,.obj (cRequest q))] [] (w_slices_Clip_part_Part_part_Part os5 false) ?_)))
   exact qa hnt rfl rfl (qa hnt rfl rfl (r_set [(4,pS 10 true ePart os5),(5,pI 0)] [(0,oB false 10 ePart os5),(1,.obj (cRequest q))] 2 ⟨rfl,rfl,trivial⟩ rfl rfl (re (w_le (s := 4) (y := pS 10 false ePart os5) rfl (le_loose) (w_le (s := 4) (y := pS 10 false ePart S.1) rfl (le_of_eq (congrArg (fun z => pS 10 false ePart z) (show os5 = S.1 by (rw [hS]; exact hpe)))) (w_le (s := 5) (y := pI S.2) rfl (le_of_eq (congrArg pI (show 0 = S.2 by (rw [hS]; done)))) (w_ret fp)))))))
theorem w_burgageref14_Split (t : TTenant) (q : TRequest) (S : List TPart × Int) (hS : S = splitP t.functions t.windows q) (ht : t.windows.length ≤ 1000) (hb : q.bits.length ≤ 140737488351232) (hv : q.vals.length ≤ 70368744175616) :
    T Try.prog 32 [PV.f (eTenant t),PV.f (eRequest q)] 0 [] (Ret (PV.tup [pS 10 false ePart S.1,pI S.2]) 0 []) := by
 refine t_fun tabOk (n := 139) (rs := [.tmp 4,.tmp 5]) Try.func32 rfl rfl rfl rfl (nb rfl) ?_
 intro c hnt hk
 refine sr (xm hnt 4 [.o 4] [] [(2,PV.ptr 0 0),(3,PV.ptr 1 0)] 2 [(1,.obj (cRequest q)),(0,.obj (cTenant t))] (re (w_seq (sr (xp hnt 2 [.o 2] [] [(20,PV.f (eTenant t)),(21,PV.f (eRequest q))] ?_)))))
 refine qo hnt rfl (s_callF rfl rfl rfl (w_burgageref14_Code t q (by omega) (by omega) (by omega)) rfl ?_)
 refine ae hnt rfl rfl (sr (xp hnt 7 [.o 3,.b 3 [.o 2,.c (pB (locP q.fn))]] [(!decide (codeP t.functions t.windows q = 0)) = false → AllP [T Try.prog 55 [pI q.fn] 0 [] (Ret (pB (locP q.fn)) 0 [])]] [(29,pB ((!decide (codeP t.functions t.windows q = 0)) || (locP q.fn)))] ?_ (hc := ⟨by intro hq; (try simp only [sB] at hq); exact ⟨(w_burgageref14_local q.fn),trivial⟩,trivial⟩)))
 refine re (w_if rfl (fun c1 => ?_) (fun c1 => ?_))
 ·have c1_ := c1
  try simp only [sB] at c1
  rw [split_ref c1_] at hS
  exact sr (qm hnt rfl rfl (qa hnt rfl rfl (ae hnt rfl rfl (w_le (s := 4) (y := pS 10 false ePart []) rfl (le_nilS 10 false) (w_le (s := 4) (y := pS 10 false ePart S.1) rfl (le_of_eq (congrArg (fun z => pS 10 false ePart z) (show ([] : List TPart) = S.1 by (rw [hS]; done)))) (w_le (s := 5) (y := pI S.2) rfl (le_of_eq (congrArg pI (show (codeP t.functions t.windows q) = S.2 by (rw [hS]; done)))) (w_ret (q_then_ret fp))))))))
 have c1_ := c1
 try simp only [sB] at c1
 refine w_skip (q_then (w_seq ?_))
 obtain ⟨hc0,hn8,hn17⟩ := split_ref0 c1_
 obtain ⟨hno,hcy,hpy,hle6⟩ := codeP_zero hc0
 rw [split_yes hc0] at hS
 have hpl := p_len t.windows q
 have hsm := shape_small (rightR_zero (counts_right hcy)).2
 refine w_R (xp hnt 2 [.o 2] [] [(32,PV.f (eTenant t)),(33,PV.f (eRequest q))] (qo hnt rfl (s_callF rfl rfl rfl (w_burgageref14_pieces t q (by omega) (by omega) (by omega) (by exact counts_has hcy)) rfl ?_)))
 refine xp hnt 7 [.o 7] [] [(7,pS 3 false ePiece (pR t.windows q)),(8,pS 3 false ePiece (pW t.windows q))] (re (sr (ae hnt rfl rfl (w_seq (sr ?_)))))
 refine xp hnt 2 [.o 2] [] [(39,pI q.fn)] (re (w_block (xo hnt 40 [[.o 2],[.o 2]] [] ((decide (q.fn = 5)) || (decide (q.fn = 6))) (w_if rfl (fun c3 => ?_) (fun c3 => ?_)))))
 ·try simp only [sB,Bool.or_eq_true,Bool.or_eq_false_iff] at c3
  refine w_seq ?_
  obtain ⟨h1l,h1c,hrw,_⟩ := p_one (l := t.windows) (q := q) (by omega) hpy
  refine wdr hnt (xq 3 [.o 3] [] ?_)
  obtain ⟨e1,he1⟩ := get_of_lt (pW t.windows q) (i := 0) (by omega)
  refine xk [(45,pS 3 false ePiece (pW t.windows q))] [] [] [] [(1,.obj (cRequest q)),(0,.obj (cTenant t))] (s_iaM (q := 0) (b := e1) (f := ePiece) tab_100 rfl tab_103 rfl rfl (by omega) rfl he1 ⟨rfl,rfl,rfl⟩) (xd 9 [.o 9] [] 3 [(2,.obj [pI q.fn,pI e1.physical,pI 0,pI 0,pI 0,pS 1 false encBo q.bits,pS 1 false enc16 q.vals,p16 0,p16 0]),(1,.obj (cRequest q)),(0,.obj (cTenant t))] (xe [(11,PV.ptr 2 0)] (re (sr (xp hnt 2 [.o 2] [] [(55,PV.f (.agg [encI q.fn,encI e1.physical,encI 0,encI 0,encI 0,FV.sl 1 false (List.map encBo q.bits),FV.sl 1 false (List.map enc16 q.vals),enc16 0,enc16 0,encBo true]))] ?_)))))
  refine qo hnt rfl (s_mkM (f := ePart) [(⟨(⟨q.fn,e1.physical,0,0,0,q.bits,q.vals,0,0⟩ : TRequest),true⟩ : TPart)] tab_74 rfl tab_77 ⟨rfl,by decide⟩ (by decide) rfl rfl rfl rfl ?_)
  exact qa hnt rfl rfl (qa hnt rfl rfl (r_set [(4,PV.ref 3 0 none),(5,pI 0)] [(3,oB true 10 ePart [(⟨(⟨q.fn,e1.physical,0,0,0,q.bits,q.vals,0,0⟩ : TRequest),true⟩ : TPart)]),(2,.obj [pI q.fn,pI e1.physical,pI 0,pI 0,pI 0,pS 1 false encBo q.bits,pS 1 false enc16 q.vals,p16 0,p16 0]),(1,.obj (cRequest q)),(0,.obj (cTenant t))] 4 ⟨rfl,rfl,trivial⟩ rfl rfl (re (w_frzM (s := 4) (f := ePart) rfl rfl view_0 (w_le (s := 4) (y := pS 10 false ePart S.1) rfl (le_of_eq (congrArg (fun z => pS 10 false ePart z) (show ([(⟨(⟨q.fn,e1.physical,0,0,0,q.bits,q.vals,0,0⟩ : TRequest),true⟩ : TPart)] : List TPart) = S.1 by (rw [hS]; exact (parts_5 hcy (by omega) hpy he1).symm)))) (w_le (s := 5) (y := pI S.2) rfl (le_of_eq (congrArg pI (show 0 = S.2 by (rw [hS]; done)))) (w_ret (q_block_ret (q_then_ret fp)))))))))
 try simp only [sB,Bool.or_eq_true,Bool.or_eq_false_iff] at c3
 refine sr (qo hnt rfl (s_eql rfl rfl ?_))
 refine ae hnt rfl rfl (w_if rfl (fun c4 => ?_) (fun c4 => ?_))
 ·try simp only [sB] at c4
  refine w_seq ?_
  obtain ⟨h1l,h1c,hrw,_⟩ := p_one (l := t.windows) (q := q) (by omega) hpy
  have hrw2 := hrw (by omega)
  have hrl : (pR t.windows q).length = 1 := by rw [hrw2]; exact h1l
  have hrc : ∀ x,(pR t.windows q)[0]? = some x → x.count = 1 := by rw [hrw2]; exact h1c
  refine w_R (qm hnt rfl rfl ?_)
  obtain ⟨e2,he2⟩ := get_of_lt (pW t.windows q) (i := 0) (by omega)
  refine qo hnt rfl (s_iaM (q := 0) (b := e2) (f := ePiece) tab_100 rfl tab_103 rfl rfl (by omega) rfl he2 ?_)
  refine xp hnt 2 [.o 2] [] [(62,pI e2.physical)] (qo hnt rfl (s_mkM (f := enc16) ([0] : List UInt16) tab_34 rfl tab_35 ⟨rfl,by decide⟩ (by decide) rfl rfl rfl rfl ?_))
  refine xm hnt 3 [.o 3] [] [(12,PV.ptr 3 0)] 4 [(3,.obj [pI 6,pI e2.physical,pI 0,pI 0,pI 0,pNil,PV.ref 2 0 none,p16 0,p16 0]),(2,oB true 1 enc16 ([0] : List UInt16)),(1,.obj (cRequest q)),(0,.obj (cTenant t))] (re (w_seq (wdr hnt (xq 1 [.o 1] [] ?_))))
  obtain ⟨e3,he3⟩ := get_of_lt (pR t.windows q) (i := 0) (by omega)
  refine xk [(65,pS 3 false ePiece (pR t.windows q))] [] [] [] [(3,.obj [pI 6,pI e2.physical,pI 0,pI 0,pI 0,pNil,PV.ref 2 0 none,p16 0,p16 0]),(2,oB true 1 enc16 ([0] : List UInt16)),(1,.obj (cRequest q)),(0,.obj (cTenant t))] (s_iaM (q := 0) (b := e3) (f := ePiece) tab_100 rfl tab_103 rfl rfl (by omega) rfl he3 ⟨rfl,rfl,rfl⟩) (xq 2 [.o 2] [] ?_)
  have h23 : e2 = e3 := by have h9 := he3; rw [hrw2,he2] at h9; exact Option.some.inj h9
  refine xq 1 [.o 1] [] (xk [(69,PV.f (.agg [encI 3,encI e3.physical,encI 1,encI 0,encI 0,FV.v (.slice none 0 0),FV.v (.slice none 0 0),enc16 0,enc16 0]))] [] [] [] [(3,.obj [pI 6,pI e2.physical,pI 0,pI 0,pI 0,pNil,PV.ref 2 0 none,p16 0,p16 0]),(2,oB true 1 enc16 ([0] : List UInt16)),(1,.obj (cRequest q)),(0,.obj (cTenant t))] (s_build tab_77 rfl rfl (b_cons rfl tab_37 rfl rfl rfl (nb rfl) (b_cons rfl tab_4 rfl rfl rfl (nb rfl) (b_nilL [pI 3,pI e3.physical,pI 1,pI 0,pI 0,pS 1 false encBo [],pS 1 false enc16 [],p16 0,p16 0,pB false] ⟨le_refl _,le_refl _,le_refl _,le_refl _,le_refl _,le_nilM 1 false,le_nilM 1 false,le_refl _,le_refl _,le_refl _,trivial⟩ ⟨rfl,rfl,rfl⟩)))) (xq 1 [.o 1] [] (xk [(71,PV.agg [pI 6,pI e2.physical,pI 0,pI 0,pI 0,pNil,PV.ref 2 0 none,p16 0,p16 0])] [] [] [] [(3,.obj [pI 6,pI e2.physical,pI 0,pI 0,pI 0,pNil,PV.ref 2 0 none,p16 0,p16 0]),(2,oB true 1 enc16 ([0] : List UInt16)),(1,.obj (cRequest q)),(0,.obj (cTenant t))] (s_build tab_77 rfl rfl (b_cons rfl tab_37 rfl rfl rfl (nb rfl) (b_cons rfl tab_4 rfl rfl rfl (nb rfl) (b_nilL [pI 6,pI e2.physical,pI 0,pI 0,pI 0,pS 1 false encBo [],PV.ref 2 0 none,p16 0,p16 0,pB true] ⟨le_refl _,le_refl _,le_refl _,le_refl _,le_refl _,le_nilM 1 false,le_refl _,le_refl _,le_refl _,le_refl _,trivial⟩ ⟨rfl,rfl,rfl⟩)))) (xk [(70,PV.f (.agg [encI 3,encI e3.physical,encI 1,encI 0,encI 0,FV.sl 1 false (List.map encBo []),FV.sl 1 false (List.map enc16 []),enc16 0,enc16 0,encBo false])),(72,PV.agg [pI 6,pI e2.physical,pI 0,pI 0,pI 0,pS 1 false encBo [],PV.ref 2 0 none,p16 0,p16 0,pB true])] [] [(2,oB true 1 enc16 ([0] : List UInt16))] [(4,oB true 10 ePart ([(⟨(⟨3,e3.physical,1,0,0,[],[],0,0⟩ : TRequest),false⟩ : TPart),(⟨(⟨6,e2.physical,0,0,0,[],([0] : List UInt16),0,0⟩ : TRequest),true⟩ : TPart)])),(2,oB false 1 enc16 ([0] : List UInt16))] [(4,oB true 10 ePart ([(⟨(⟨3,e3.physical,1,0,0,[],[],0,0⟩ : TRequest),false⟩ : TPart),(⟨(⟨6,e2.physical,0,0,0,[],([0] : List UInt16),0,0⟩ : TRequest),true⟩ : TPart)])),(2,oB false 1 enc16 ([0] : List UInt16)),(3,.obj [pI 6,pI e2.physical,pI 0,pI 0,pI 0,pNil,PV.ref 2 0 none,p16 0,p16 0]),(1,.obj (cRequest q)),(0,.obj (cTenant t))] (s_mkM (f := ePart) [(⟨(⟨3,e3.physical,1,0,0,[],[],0,0⟩ : TRequest),false⟩ : TPart),(⟨(⟨6,e2.physical,0,0,0,[],([0] : List UInt16),0,0⟩ : TRequest),true⟩ : TPart)] tab_74 rfl tab_77 ⟨rfl,by decide⟩ (by decide) rfl rfl rfl rfl ⟨rfl,rfl,rfl⟩) (xq 2 [.o 2] [] ?_)))))
  refine xe [(4,PV.ref 4 0 none),(5,pI 0)] (re (w_frzM (s := 4) (f := ePart) rfl rfl view_0 (w_le (s := 4) (y := pS 10 false ePart S.1) rfl (le_of_eq (congrArg (fun z => pS 10 false ePart z) (show ([(⟨(⟨3,e3.physical,1,0,0,[],[],0,0⟩ : TRequest),false⟩ : TPart),(⟨(⟨6,e2.physical,0,0,0,[],([0] : List UInt16),0,0⟩ : TRequest),true⟩ : TPart)] : List TPart) = S.1 by (rw [hS,h23]; exact (parts_22r (by omega) he3).symm)))) (w_le (s := 5) (y := pI S.2) rfl (le_of_eq (congrArg pI (show 0 = S.2 by (rw [hS]; done)))) (w_ret ?_)))))
  exact q_block_ret (q_then_ret fp)
 try simp only [sB] at c4
 refine w_skip (q_block (q_then (sr (ae hnt rfl rfl (w_seq (sr (qm hnt rfl rfl (qo hnt rfl (s_lenM (l := pW t.windows q) tab_100 rfl (hM_sl (f := ePiece) rfl) ?_)))))))))
 refine qm hnt rfl rfl (re (w_block (w_adopt (s := 10) (sz := 10) rfl (loop3 (fun (os : List TPart) (dn : Int) (i : Nat) => i ≤ (pW t.windows q).length ∧ os = ((pW t.windows q).take i).map (wPart q) ∧ dn = sumC ((pW t.windows q).take i)) (fun (os : List TPart) (dn : Int) (i : Nat) => [(3,PV.ptr 1 0),(7,pS 3 false ePiece (pR t.windows q)),(10,PV.ref 0 0 none),(13,pI dn),(74,pS 3 false ePiece (pW t.windows q)),(75,pN ((pW t.windows q).length)),(76,pN i)]) 2 (fun (os : List TPart) (dn : Int) (i : Nat) => [(0,oB true 10 ePart os),(1,.obj (cRequest q))]) (fun (os : List TPart) (dn : Int) (i : Nat) => (pW t.windows q).length - i) (([] : List TPart)) (0) (0) ?_ ⟨[(0,2),(1,1)],by rw [hk]; decide,⟨⟨_,rfl,rfl,rfl⟩,⟨_,rfl,rfl,rfl⟩,⟨_,rfl,rfl,rfl⟩,⟨_,rfl,rfl,rfl⟩,⟨_,rfl,rfl,rfl⟩,⟨_,rfl,rfl,rfl⟩,⟨_,rfl,rfl,rfl⟩,trivial⟩,⟨⟨_,_,rfl,rfl,rfl,rfl⟩,⟨_,_,rfl,rfl,rfl,rfl⟩,trivial⟩,by rw [hk]; decide⟩ ?_))))
 · exact ⟨by omega,rfl,rfl⟩
 ·intro os dn i hI
  obtain ⟨hi,hos,hdn⟩ := hI
  have hol : os.length ≤ 6 := by rw [hos]; simp; omega
  refine sr (qo hnt rfl (s_lss rfl rfl ?_))
  refine re (w_seq (w_if rfl (fun c5 => ?_) (fun c5 => ?_)))
  ·try simp only [sB] at c5
   refine w_skip (q_then (w_seq (w_block (sr ?_))))
   obtain ⟨e4,he4⟩ := get_of_lt (pW t.windows q) (i := i) (by omega)
   refine qo hnt rfl (s_iaM (q := i) (b := e4) (f := ePiece) tab_100 rfl tab_103 rfl rfl (by omega) rfl he4 ?_)
   refine xm hnt 3 [.o 3] [] [(15,PV.ptr 2 0)] 3 [(2,.obj (cPiece e4)),(0,oB true 10 ePart os),(1,.obj (cRequest q))] (re (w_seq ?_))
   obtain ⟨wc1,wc2,wp0,wp1,wfn,w15,w16,w23⟩ := pW_get hcy he4
   obtain ⟨w1,hw1⟩ : ∃ z,z = wPart q e4 := ⟨_,rfl⟩
   refine w_R (xm hnt 7 [.o 7] [] [(16,PV.ptr 3 0)] 4 [(3,.obj [pI 16,pI e4.physical,pI e4.count,pI 0,pI 0,pNil,pNil,p16 0,p16 0]),(2,.obj (cPiece e4)),(0,oB true 10 ePart os),(1,.obj (cRequest q))] (re (join0 (True) ([(3,PV.ptr 1 0),(7,pS 3 false ePiece (pR t.windows q)),(10,PV.ref 2 0 none),(13,pI dn),(15,PV.ptr 3 0),(16,PV.ptr 0 0),(74,pS 3 false ePiece (pW t.windows q)),(75,pN ((pW t.windows q).length)),(76,pN i)]) 4 ([(0,.obj [pI w1.request.fn,pI w1.request.at_,pI w1.request.count,pI w1.request.wAt,pI w1.request.sub,pS 1 false encBo w1.request.bits,pS 1 false enc16 w1.request.vals,p16 w1.request.and_,p16 w1.request.or_]),(1,.obj (cRequest q)),(2,oB true 10 ePart os),(3,.obj (cPiece e4))]) ?_ ?_)))
   ·refine sr (xp hnt 3 [.o 3] [] [(87,pB (decide (q.fn = 15)))] (re (w_if rfl (fun c6 => ?_) (fun c6 => ?_))))
    ·try simp only [sB] at c6
     refine wdr hnt (xq 7 [.o 7] [okI (dn + e4.count)] ?_ (hc := ⟨by unfold okI; (omega),trivial⟩))
     refine xk [(89,pS 1 false encBo q.bits),(90,pI dn),(94,pI (dn + e4.count))] [] [] [] [(3,.obj [pI 16,pI e4.physical,pI e4.count,pI 0,pI 0,pNil,pNil,p16 0,p16 0]),(2,.obj (cPiece e4)),(0,oB true 10 ePart os),(1,.obj (cRequest q))] (s_cutM (a := Int.toNat dn) (b := Int.toNat (dn + e4.count)) (f := encBo) (l := q.bits) tab_33 rfl tab_4 ⟨rfl,by decide⟩ rfl (bound_some rfl (by omega)) (bound_some rfl (by omega)) (by omega) ⟨rfl,rfl,rfl⟩) (xd 4 [.o 4] [] 4 [(3,.obj [pI 15,pI e4.physical,pI e4.count,pI 0,pI 0,pS 1 false encBo ((q.bits.take (Int.toNat (dn + e4.count))).drop (Int.toNat dn)),pNil,p16 0,p16 0]),(2,.obj (cPiece e4)),(0,oB true 10 ePart os),(1,.obj (cRequest q))] (xe [(3,PV.ptr 1 0),(7,pS 3 false ePiece (pR t.windows q)),(10,PV.ref 0 0 none),(13,pI dn),(15,PV.ptr 2 0),(16,PV.ptr 3 0),(74,pS 3 false ePiece (pW t.windows q)),(75,pN ((pW t.windows q).length)),(76,pN i)] ?_))
     have hz1 : 15 = w1.request.fn ∧ e4.physical = w1.request.at_ ∧ e4.count = w1.request.count ∧ 0 = w1.request.wAt ∧ 0 = w1.request.sub ∧ ((q.bits.take (Int.toNat (dn + e4.count))).drop (Int.toNat dn)) = w1.request.bits ∧ ([] : List UInt16) = w1.request.vals ∧ 0 = w1.request.and_ ∧ 0 = w1.request.or_ := by and_intros <;> ((rw [hw1,wPart_15 (by omega)] <;> (first|rfl|omega|exact cut_dn _ (by omega) (by omega) (by omega))))
     refine r_leO (n := 3) (ds := [pI w1.request.fn,pI w1.request.at_,pI w1.request.count,pI w1.request.wAt,pI w1.request.sub,pS 1 false encBo w1.request.bits,pS 1 false enc16 w1.request.vals,p16 w1.request.and_,p16 w1.request.or_]) rfl ⟨le_of_eq (congrArg pI hz1.1),le_of_eq (congrArg pI hz1.2.1),le_of_eq (congrArg pI hz1.2.2.1),le_of_eq (congrArg pI hz1.2.2.2.1),le_of_eq (congrArg pI hz1.2.2.2.2.1),le_of_eq (congrArg (fun z => pS 1 false encBo z) hz1.2.2.2.2.2.1),le_tr (le_nilS 1 false) (le_of_eq (congrArg (fun z => pS 1 false enc16 z) hz1.2.2.2.2.2.2.1)),le_of_eq (congrArg p16 hz1.2.2.2.2.2.2.2.1),le_of_eq (congrArg p16 hz1.2.2.2.2.2.2.2.2),trivial⟩ (re (⟨?_,⟨[(0,3),(1,1),(2,0),(3,2)],by rw [hk]; decide,⟨⟨_,rfl,rfl,rfl⟩,⟨_,rfl,rfl,rfl⟩,⟨_,rfl,rfl,rfl⟩,⟨_,rfl,rfl,rfl⟩,⟨_,rfl,rfl,rfl⟩,⟨_,rfl,rfl,rfl⟩,⟨_,rfl,rfl,rfl⟩,⟨_,rfl,rfl,rfl⟩,⟨_,rfl,rfl,rfl⟩,trivial⟩,⟨⟨_,_,rfl,rfl,rfl,rfl⟩,⟨_,_,rfl,rfl,rfl,rfl⟩,⟨_,_,rfl,rfl,rfl,rfl⟩,⟨_,_,rfl,rfl,rfl,rfl⟩,trivial⟩,by rw [hk]; decide⟩⟩))
     trivial
    try simp only [sB] at c6
    refine w_R (xp hnt 7 [.o 7] [okI (dn + e4.count)] [(99,pS 1 false enc16 q.vals),(100,pI dn),(104,pI (dn + e4.count))] ?_ (hc := ⟨by unfold okI; (omega),trivial⟩))
    refine qo hnt rfl (s_cutM (a := Int.toNat dn) (b := Int.toNat (dn + e4.count)) (f := enc16) (l := q.vals) tab_34 rfl tab_35 ⟨rfl,by decide⟩ rfl (bound_some rfl (by omega)) (bound_some rfl (by omega)) (by omega) ?_)
    refine qo hnt rfl (s_fa_ptr tab_37 rfl rfl tab_34 (by decide) rfl ?_)
    refine qo hnt rfl (s_store_ptr tab_34 rfl rfl rfl rfl rfl (nb rfl) ?_)
    have hz2 : 16 = w1.request.fn ∧ e4.physical = w1.request.at_ ∧ e4.count = w1.request.count ∧ 0 = w1.request.wAt ∧ 0 = w1.request.sub ∧ ([] : List Bool) = w1.request.bits ∧ ((q.vals.take (Int.toNat (dn + e4.count))).drop (Int.toNat dn)) = w1.request.vals ∧ 0 = w1.request.and_ ∧ 0 = w1.request.or_ := by and_intros <;> ((have h1623 : q.fn = 16 ∨ q.fn = 23 := (by omega);  rcases h1623 with h16|h16; (rw [hw1,wPart_16 h16] <;> (first|rfl|omega|exact cut_dn _ (by omega) (by omega) (by omega))); (rw [hw1,wPart_23 h16] <;> (first|rfl|omega|exact cut_dn _ (by omega) (by omega) (by omega)))))
    refine r_leO (n := 3) (ds := [pI w1.request.fn,pI w1.request.at_,pI w1.request.count,pI w1.request.wAt,pI w1.request.sub,pS 1 false encBo w1.request.bits,pS 1 false enc16 w1.request.vals,p16 w1.request.and_,p16 w1.request.or_]) rfl ⟨le_of_eq (congrArg pI hz2.1),le_of_eq (congrArg pI hz2.2.1),le_of_eq (congrArg pI hz2.2.2.1),le_of_eq (congrArg pI hz2.2.2.2.1),le_of_eq (congrArg pI hz2.2.2.2.2.1),le_tr (le_nilS 1 false) (le_of_eq (congrArg (fun z => pS 1 false encBo z) hz2.2.2.2.2.2.1)),le_of_eq (congrArg (fun z => pS 1 false enc16 z) hz2.2.2.2.2.2.2.1),le_of_eq (congrArg p16 hz2.2.2.2.2.2.2.2.1),le_of_eq (congrArg p16 hz2.2.2.2.2.2.2.2.2),trivial⟩ (re (⟨?_,⟨[(0,3),(1,1),(2,0),(3,2)],by rw [hk]; decide,⟨⟨_,rfl,rfl,rfl⟩,⟨_,rfl,rfl,rfl⟩,⟨_,rfl,rfl,rfl⟩,⟨_,rfl,rfl,rfl⟩,⟨_,rfl,rfl,rfl⟩,⟨_,rfl,rfl,rfl⟩,⟨_,rfl,rfl,rfl⟩,⟨_,rfl,rfl,rfl⟩,⟨_,rfl,rfl,rfl⟩,trivial⟩,⟨⟨_,_,rfl,rfl,rfl,rfl⟩,⟨_,_,rfl,rfl,rfl,rfl⟩,⟨_,_,rfl,rfl,rfl,rfl⟩,⟨_,_,rfl,rfl,rfl,rfl⟩,trivial⟩,by rw [hk]; decide⟩⟩))
    trivial
   intro hJ
   refine sr (qm hnt rfl rfl (qo hnt rfl (s_load_ptr tab_37 rfl rfl rfl (nb rfl) ?_)))
   refine qo hnt rfl (s_build tab_77 rfl rfl (b_cons rfl tab_37 rfl rfl rfl (nb rfl) (b_cons rfl tab_4 rfl rfl rfl (nb rfl) (b_nil ?_))))
   refine qo hnt rfl (s_mkM (f := ePart) [(⟨(⟨w1.request.fn,w1.request.at_,w1.request.count,w1.request.wAt,w1.request.sub,w1.request.bits,w1.request.vals,w1.request.and_,w1.request.or_⟩ : TRequest),true⟩ : TPart)] tab_74 rfl tab_77 ⟨rfl,by decide⟩ (by decide) rfl rfl rfl rfl ?_)
   refine qo hnt rfl (s_appR0 (f := ePart) (l := os) (xs := [(⟨(⟨w1.request.fn,w1.request.at_,w1.request.count,w1.request.wAt,w1.request.sub,w1.request.bits,w1.request.vals,w1.request.and_,w1.request.or_⟩ : TRequest),true⟩ : TPart)]) tab_74 rfl tab_77 ⟨rfl,by decide,by decide⟩ (srcM tab_74 rfl (hM_ref0 (f := ePart) rfl rfl)) rfl rfl (by (simp; omega)) ?_)
   refine qa hnt rfl rfl (r_set [(3,PV.ptr 1 0),(7,pS 3 false ePiece (pR t.windows q)),(10,PV.ref 5 0 none),(13,pI dn),(15,PV.ptr 3 0),(74,pS 3 false ePiece (pW t.windows q)),(75,pN ((pW t.windows q).length)),(76,pN i)] [(5,oB true 10 ePart (os ++ [(⟨(⟨w1.request.fn,w1.request.at_,w1.request.count,w1.request.wAt,w1.request.sub,w1.request.bits,w1.request.vals,w1.request.and_,w1.request.or_⟩ : TRequest),true⟩ : TPart)])),(4,oB true 10 ePart [(⟨(⟨w1.request.fn,w1.request.at_,w1.request.count,w1.request.wAt,w1.request.sub,w1.request.bits,w1.request.vals,w1.request.and_,w1.request.or_⟩ : TRequest),true⟩ : TPart)]),(0,.obj [pI w1.request.fn,pI w1.request.at_,pI w1.request.count,pI w1.request.wAt,pI w1.request.sub,pS 1 false encBo w1.request.bits,pS 1 false enc16 w1.request.vals,p16 w1.request.and_,p16 w1.request.or_]),(1,.obj (cRequest q)),(3,.obj (cPiece e4))] 6 ⟨rfl,rfl,rfl,rfl,rfl,rfl,rfl,rfl,trivial⟩ rfl rfl (re (w_R (qm hnt rfl rfl (qo hnt rfl (s_fa_ptr tab_103 rfl rfl tab_3 (by decide) rfl ?_))))))
   refine qo hnt rfl (s_load_ptr1 tab_3 rfl rfl rfl rfl rfl ?_)
   refine qo hnt rfl (s_addi (r := dn + e4.count) rfl rfl rfl (by omega) ?_)
   refine qa hnt rfl rfl (r_end (q_block (q_then (w_R (qo hnt rfl (s_addN (a := i) (b := 1) rfl rfl (by omega) (by omega) (by omega) ?_))))))
   refine qm hnt rfl rfl (re (⟨(os ++ [(⟨(⟨w1.request.fn,w1.request.at_,w1.request.count,w1.request.wAt,w1.request.sub,w1.request.bits,w1.request.vals,w1.request.and_,w1.request.or_⟩ : TRequest),true⟩ : TPart)]),(dn + e4.count),(i + 1), ?_, ?_,⟨[(0,5),(1,1)],by rw [hk]; decide,⟨⟨_,rfl,rfl,rfl⟩,⟨_,rfl,rfl,rfl⟩,⟨_,rfl,rfl,rfl⟩,⟨_,rfl,rfl,rfl⟩,⟨_,rfl,rfl,rfl⟩,⟨_,rfl,rfl,rfl⟩,⟨_,rfl,rfl,rfl⟩,trivial⟩,⟨⟨_,_,rfl,rfl,rfl,rfl⟩,⟨_,_,rfl,rfl,rfl,rfl⟩,trivial⟩,by rw [hk]; decide⟩⟩))
   ·refine ⟨by omega, ?_,sum_snoc he4 hdn⟩
    rw [hos,List.take_add_one,he4,List.map_append]
    exact congrArg (fun z => ((pW t.windows q).take i).map (wPart q) ++ [z]) (by rw [hw1]; exact wPart_eta q e4)
   · omega
  try simp only [sB] at c5
  refine w_exit (q_then_exit (q_then_exit (q_block_exit (q_then (sr ?_)))))
  refine xp hnt 3 [.o 3] [] [(17,pI q.fn)] (re (join1 (fun (fv : Int) => fv = (if q.fn = 23 then 3 else q.fn)) (fun (fv : Int) => [(7,pS 3 false ePiece (pR t.windows q)),(10,PV.ref 0 0 none),(17,pI fv)]) 1 (fun (fv : Int) => [(0,oB true 10 ePart os)]) ?_ ?_))
  ·refine sr (qm hnt rfl rfl (qo hnt rfl (s_eql rfl rfl ?_)))
   refine re (w_if rfl (fun c7 => ?_) (fun c7 => ?_))
   ·try simp only [sB] at c7
    refine w_R (ae hnt rfl rfl (⟨(3), ?_,⟨[(0,0)],by rw [hk]; decide,⟨⟨_,rfl,rfl,rfl⟩,⟨_,rfl,rfl,rfl⟩,⟨_,rfl,rfl,rfl⟩,trivial⟩,⟨⟨_,_,rfl,rfl,rfl,rfl⟩,trivial⟩,by rw [hk]; decide⟩⟩))
    exact (if_pos (by omega)).symm
   try simp only [sB] at c7
   refine w_skip (q_then (⟨(q.fn), ?_,⟨[(0,0)],by rw [hk]; decide,⟨⟨_,rfl,rfl,rfl⟩,⟨_,rfl,rfl,rfl⟩,⟨_,rfl,rfl,rfl⟩,trivial⟩,⟨⟨_,_,rfl,rfl,rfl,rfl⟩,trivial⟩,by rw [hk]; decide⟩⟩))
   exact (if_neg (by omega)).symm
  intro fv hfv
  refine w_seq (sr (qm hnt rfl rfl (qo hnt rfl (s_lenM (l := pR t.windows q) tab_100 rfl (hM_sl (f := ePiece) rfl) ?_))))
  refine qm hnt rfl rfl (re (w_block (loop2 (fun (os5 : List TPart) (j : Nat) => j ≤ (pR t.windows q).length ∧ os5 = (pW t.windows q).map (wPart q) ++ ((pR t.windows q).take j).map (rPart (if q.fn = 23 then 3 else q.fn))) (fun (os5 : List TPart) (j : Nat) => [(10,PV.ref 0 0 none),(17,pI fv),(121,pS 3 false ePiece (pR t.windows q)),(122,pN ((pR t.windows q).length)),(123,pN j)]) 1 (fun (os5 : List TPart) (j : Nat) => [(0,oB true 10 ePart os5)]) (fun (os5 : List TPart) (j : Nat) => (pR t.windows q).length - j) (os) (0) ?_ ⟨[(0,0)],by rw [hk]; decide,⟨⟨_,rfl,rfl,rfl⟩,⟨_,rfl,rfl,rfl⟩,⟨_,rfl,rfl,rfl⟩,⟨_,rfl,rfl,rfl⟩,⟨_,rfl,rfl,rfl⟩,trivial⟩,⟨⟨_,_,rfl,rfl,rfl,rfl⟩,trivial⟩,by rw [hk]; decide⟩ ?_)))
  · exact ⟨by omega,by rw [hos,show i = (pW t.windows q).length by omega,List.take_length]; simp⟩
  ·intro os5 j hJ
   obtain ⟨hj,ho5⟩ := hJ
   have hol5 : os5.length ≤ 6 := by rw [ho5]; simp; omega
   refine sr (qo hnt rfl (s_lss rfl rfl ?_))
   refine re (w_seq (w_if rfl (fun c8 => ?_) (fun c8 => ?_)))
   ·try simp only [sB] at c8
    refine w_skip (q_then (w_seq (w_block (sr ?_))))
    obtain ⟨e5,he5⟩ := get_of_lt (pR t.windows q) (i := j) (by omega)
    refine qo hnt rfl (s_iaM (q := j) (b := e5) (f := ePiece) tab_100 rfl tab_103 rfl rfl (by omega) rfl he5 ?_)
    refine xm hnt 3 [.o 3] [] [(19,PV.ptr 1 0)] 2 [(1,.obj (cPiece e5)),(0,oB true 10 ePart os5)] (re (w_R (xp hnt 8 [.o 8] [] [(127,PV.ref 0 0 none),(134,PV.f (.agg [encI fv,encI e5.physical,encI e5.count,encI 0,encI 0,FV.v (.slice none 0 0),FV.v (.slice none 0 0),enc16 0,enc16 0,encBo false]))] (r_le (s := 134) (y := PV.f (ePart (⟨(⟨fv,e5.physical,e5.count,0,0,[],[],0,0⟩ : TRequest),false⟩ : TPart))) rfl (le_F (FLe.agg ⟨FLe.refl _,FLe.refl _,FLe.refl _,FLe.refl _,FLe.refl _,FLe.nil 1 false,FLe.nil 1 false,FLe.refl _,FLe.refl _,FLe.refl _,trivial⟩)) (qo hnt rfl (s_mkM (f := ePart) [(⟨(⟨fv,e5.physical,e5.count,0,0,[],[],0,0⟩ : TRequest),false⟩ : TPart)] tab_74 rfl tab_77 ⟨rfl,by decide⟩ (by decide) rfl rfl rfl rfl ?_))))))
    refine qo hnt rfl (s_appR0 (f := ePart) (l := os5) (xs := [(⟨(⟨fv,e5.physical,e5.count,0,0,[],[],0,0⟩ : TRequest),false⟩ : TPart)]) tab_74 rfl tab_77 ⟨rfl,by decide,by decide⟩ (srcM tab_74 rfl (hM_ref0 (f := ePart) rfl rfl)) rfl rfl (by (simp; omega)) ?_)
    refine qa hnt rfl rfl (r_set [(10,PV.ref 3 0 none),(17,pI fv),(121,pS 3 false ePiece (pR t.windows q)),(122,pN ((pR t.windows q).length)),(123,pN j)] [(3,oB true 10 ePart (os5 ++ ([(⟨(⟨fv,e5.physical,e5.count,0,0,[],[],0,0⟩ : TRequest),false⟩ : TPart)]))),(2,oB true 10 ePart ([(⟨(⟨fv,e5.physical,e5.count,0,0,[],[],0,0⟩ : TRequest),false⟩ : TPart)])),(1,.obj (cPiece e5))] 4 ⟨rfl,rfl,rfl,rfl,rfl,trivial⟩ rfl rfl (r_end (q_block (q_then (w_R (qo hnt rfl (s_addN (a := j) (b := 1) rfl rfl (by omega) (by omega) (by omega) ?_)))))))
    refine qm hnt rfl rfl (re (⟨(os5 ++ ([(⟨(⟨fv,e5.physical,e5.count,0,0,[],[],0,0⟩ : TRequest),false⟩ : TPart)])),(j + 1), ?_, ?_,⟨[(0,3)],by rw [hk]; decide,⟨⟨_,rfl,rfl,rfl⟩,⟨_,rfl,rfl,rfl⟩,⟨_,rfl,rfl,rfl⟩,⟨_,rfl,rfl,rfl⟩,⟨_,rfl,rfl,rfl⟩,trivial⟩,⟨⟨_,_,rfl,rfl,rfl,rfl⟩,trivial⟩,by rw [hk]; decide⟩⟩))
    ·refine ⟨by omega, ?_⟩
     rw [ho5,List.take_add_one,he5,List.map_append,← List.append_assoc]
     rw [hfv]; rfl
    · omega
   try simp only [sB] at c8
   refine w_exit (q_then_exit (q_then_exit (q_block_exit (q_then (sr ?_)))))
   exact xp hnt 3 [.o 3] [] [(4,PV.ref 0 0 none),(5,pI 0)] (re (w_frzM (s := 4) (f := ePart) rfl rfl view_0 (w_le (s := 4) (y := pS 10 false ePart S.1) rfl (le_of_eq (congrArg (fun z => pS 10 false ePart z) (show os5 = S.1 by (rw [hS]; exact (show os5 = partsP t.windows q by rw [ho5,show j = (pR t.windows q).length by omega,List.take_length,parts_no (by omega)]))))) (w_le (s := 5) (y := pI S.2) rfl (le_of_eq (congrArg pI (show 0 = S.2 by (rw [hS]; done)))) (w_ret fp)))))
def refuseR (fn code : Int) : TReply := ⟨((fn % 2 ^ 7).toNat : Int),((code % 2 ^ 8).toNat : Int),0,0,0,[],[],0,0,[]⟩
section
variable {m e b u : Int}{q : TRequest}
end
theorem w_reply_Refuse (n : Int) (k : Int)  :
    T Try.prog 47 [pI n,pI k] 0 [] (Ret (PV.f (eReply (refuseR n k))) 0 []) := by
 refine t_fun tabOk (n := 10) (rs := [.cell 4 62]) Try.func47 rfl rfl rfl rfl (nb rfl) ?_
 intro c hnt hk
 refine sr (qo hnt rfl (s_alloc tab_62 ?_))
 refine r_set [(0,pI n),(1,pI k),(4,PV.ptr 0 0)] [(0,.obj [pI 0,pI 0,pI 0,pI 0,pI 0,pNil,pNil,p16 0,p16 0,pNil])] 1 ⟨rfl,rfl,rfl,trivial⟩ rfl rfl (re (sr (qm hnt rfl rfl (qo hnt rfl (s_maskI 7 (by decide) rfl rfl (by decide) ?_)))))
 refine qm hnt rfl rfl (qo hnt rfl (s_maskI 8 (by decide) rfl rfl (by decide) ?_))
 exact xm hnt 2 [.o 2] [] [] 1 [(0,.obj [pN ((n % 2 ^ 7).toNat),pN ((k % 2 ^ 8).toNat),pI 0,pI 0,pI 0,pNil,pNil,p16 0,p16 0,pNil])] (re (w_leO (n := 0) (ds := cReply (refuseR n k)) rfl ⟨le_of_eq (congrArg pI (show (((n % 2 ^ 7).toNat : Nat) : Int) = ((refuseR n k).fn) by rfl)),le_of_eq (congrArg pI (show (((k % 2 ^ 8).toNat : Nat) : Int) = ((refuseR n k).code) by rfl)),le_of_eq (congrArg pI (show 0 = ((refuseR n k).at_) by rfl)),le_of_eq (congrArg pI (show 0 = ((refuseR n k).count) by rfl)),le_of_eq (congrArg pI (show 0 = ((refuseR n k).sub) by rfl)),le_tr (le_nilS 1 false) (le_of_eq (congrArg (fun z => pS 1 false encBo z) (show ([] : List Bool) = ((refuseR n k).bits) by rfl))),le_tr (le_nilS 1 false) (le_of_eq (congrArg (fun z => pS 1 false enc16 z) (show ([] : List UInt16) = ((refuseR n k).vals) by rfl))),le_of_eq (congrArg p16 (show 0 = ((refuseR n k).and_) by rfl)),le_of_eq (congrArg p16 (show 0 = ((refuseR n k).or_) by rfl)),le_tr (le_nilS 1 false) (le_of_eq (congrArg (fun z => pS 1 false enc8 z) (show ([] : List UInt8) = ((refuseR n k).data) by rfl))),trivial⟩ (w_ret fp)))
theorem w_burgageref3_Refuse (n : Int) (k : Int)  :
    T Try.prog 26 [pI n,pI k] 0 [] (Ret (PV.f (eReply (refuseR n k))) 0 []) := by
 refine t_fun tabOk (n := 10) (rs := [.cell 4 62]) Try.func26 rfl rfl rfl rfl (nb rfl) ?_
 intro c hnt hk
 refine sr (qo hnt rfl (s_alloc tab_62 ?_))
 refine r_set [(0,pI n),(1,pI k),(4,PV.ptr 0 0)] [(0,.obj [pI 0,pI 0,pI 0,pI 0,pI 0,pNil,pNil,p16 0,p16 0,pNil])] 1 ⟨rfl,rfl,rfl,trivial⟩ rfl rfl (re (sr (qm hnt rfl rfl (qo hnt rfl (s_maskI 7 (by decide) rfl rfl (by decide) ?_)))))
 refine qm hnt rfl rfl (qo hnt rfl (s_maskI 8 (by decide) rfl rfl (by decide) ?_))
 exact xm hnt 2 [.o 2] [] [] 1 [(0,.obj [pN ((n % 2 ^ 7).toNat),pN ((k % 2 ^ 8).toNat),pI 0,pI 0,pI 0,pNil,pNil,p16 0,p16 0,pNil])] (re (w_leO (n := 0) (ds := cReply (refuseR n k)) rfl ⟨le_of_eq (congrArg pI (show (((n % 2 ^ 7).toNat : Nat) : Int) = ((refuseR n k).fn) by rfl)),le_of_eq (congrArg pI (show (((k % 2 ^ 8).toNat : Nat) : Int) = ((refuseR n k).code) by rfl)),le_of_eq (congrArg pI (show 0 = ((refuseR n k).at_) by rfl)),le_of_eq (congrArg pI (show 0 = ((refuseR n k).count) by rfl)),le_of_eq (congrArg pI (show 0 = ((refuseR n k).sub) by rfl)),le_tr (le_nilS 1 false) (le_of_eq (congrArg (fun z => pS 1 false encBo z) (show ([] : List Bool) = ((refuseR n k).bits) by rfl))),le_tr (le_nilS 1 false) (le_of_eq (congrArg (fun z => pS 1 false enc16 z) (show ([] : List UInt16) = ((refuseR n k).vals) by rfl))),le_of_eq (congrArg p16 (show 0 = ((refuseR n k).and_) by rfl)),le_of_eq (congrArg p16 (show 0 = ((refuseR n k).or_) by rfl)),le_tr (le_nilS 1 false) (le_of_eq (congrArg (fun z => pS 1 false enc8 z) (show ([] : List UInt8) = ((refuseR n k).data) by rfl))),trivial⟩ (w_ret fp)))
theorem w_burgageref3_Alike (a : TReply) (b : TReply) (ha : a.bits.length ≤ 140737488351232 ∧ a.vals.length ≤ 140737488351232 ∧ a.data.length ≤ 140737488351232) :
    T Try.prog 28 [PV.f (eReply a),PV.f (eReply b)] 0 [] (Ret (pB (decide (a = b))) 0 []) := by
 refine t_fun tabOk (n := 75) (rs := [.tmp 4]) Try.func28 rfl rfl rfl rfl (nb rfl) ?_
 intro c hnt hk
 refine sr (qo hnt rfl (s_box rfl rfl ?_))
 refine qo hnt rfl (s_box rfl rfl ?_)
 refine qa hnt rfl rfl (r_set [(2,PV.ptr 0 0),(3,PV.ptr 1 0)] [(1,.obj (cReply b)),(0,.obj (cReply a))] 2 ⟨rfl,rfl,trivial⟩ rfl rfl (re (sr (xp hnt 62 [.o 6,.b 5 [.o 5],.o 1,.b 5 [.o 5],.o 1,.b 5 [.o 5],.o 1,.b 5 [.o 5],.o 1,.b 5 [.o 4,.c (pB (decide (a.and_ = b.and_)))],.o 1,.b 5 [.o 4,.c (pB (decide (a.or_ = b.or_)))],.o 1,.b 5 [.o 4,.c (pB (decide (a.bits = b.bits)))],.o 1,.b 5 [.o 4,.c (pB (decide (a.vals = b.vals)))],.o 1] [(((((decide (a.fn = b.fn)) && (decide (a.code = b.code))) && (decide (a.at_ = b.at_))) && (decide (a.count = b.count))) && (decide (a.sub = b.sub))) = true → AllP [eqC16 a.and_ b.and_],((((((decide (a.fn = b.fn)) && (decide (a.code = b.code))) && (decide (a.at_ = b.at_))) && (decide (a.count = b.count))) && (decide (a.sub = b.sub))) && (decide (a.and_ = b.and_))) = true → AllP [eqC16 a.or_ b.or_],(((((((decide (a.fn = b.fn)) && (decide (a.code = b.code))) && (decide (a.at_ = b.at_))) && (decide (a.count = b.count))) && (decide (a.sub = b.sub))) && (decide (a.and_ = b.and_))) && (decide (a.or_ = b.or_))) = true → AllP [T Try.prog 52 [pS 1 false encBo a.bits,pS 1 false encBo b.bits] 0 [] (Ret (pB (decide (a.bits = b.bits))) 0 [])],((((((((decide (a.fn = b.fn)) && (decide (a.code = b.code))) && (decide (a.at_ = b.at_))) && (decide (a.count = b.count))) && (decide (a.sub = b.sub))) && (decide (a.and_ = b.and_))) && (decide (a.or_ = b.or_))) && (decide (a.bits = b.bits))) = true → AllP [T Try.prog 53 [pS 1 false enc16 a.vals,pS 1 false enc16 b.vals] 0 [] (Ret (pB (decide (a.vals = b.vals))) 0 [])]] [(66,pB (((((((((decide (a.fn = b.fn)) && (decide (a.code = b.code))) && (decide (a.at_ = b.at_))) && (decide (a.count = b.count))) && (decide (a.sub = b.sub))) && (decide (a.and_ = b.and_))) && (decide (a.or_ = b.or_))) && (decide (a.bits = b.bits))) && (decide (a.vals = b.vals))))] ?_ (hc := ⟨by intro hq; (try simp only [sB] at hq); exact ⟨eqC16_ok _ _,trivial⟩,by intro hq; (try simp only [sB] at hq); exact ⟨eqC16_ok _ _,trivial⟩,by intro hq; (try simp only [sB] at hq); exact ⟨(w_burgageref3_bits a.bits false b.bits false (by omega)),trivial⟩,by intro hq; (try simp only [sB] at hq); exact ⟨(w_burgageref3_vals a.vals false b.vals false (by omega)),trivial⟩,trivial⟩)))))
 refine r_cut0 8 [(74,pB ((((((((((decide (a.fn = b.fn)) && (decide (a.code = b.code))) && (decide (a.at_ = b.at_))) && (decide (a.count = b.count))) && (decide (a.sub = b.sub))) && (decide (a.and_ = b.and_))) && (decide (a.or_ = b.or_))) && (decide (a.bits = b.bits))) && (decide (a.vals = b.vals))) && (decide (a.data = b.data))))] ?_ ?_
 ·refine r_if tabOk hnt rfl rfl rfl (fun g9 => ?_) (fun g9 => ?_)
  ·have g9' := g9
   try simp only [sB] at g9'
   refine qo hnt rfl (s_fa_ptr tab_62 rfl rfl tab_60 (by decide) rfl ?_)
   refine ry hnt rfl rfl rfl g9 (qo hnt rfl (s_load_ptr1 tab_60 rfl rfl rfl rfl rfl ?_))
   refine ry hnt rfl rfl rfl g9 (qo hnt rfl (s_cvT tab_60 tab_9 rfl tab_5 rfl rfl (hM_sl (f := enc8) rfl) ?_))
   refine ry hnt rfl rfl rfl g9 (qo hnt rfl (s_fa_ptr tab_62 rfl rfl tab_60 (by decide) rfl ?_))
   refine ry hnt rfl rfl rfl g9 (qo hnt rfl (s_load_ptr1 tab_60 rfl rfl rfl rfl rfl ?_))
   refine ry hnt rfl rfl rfl g9 (qo hnt rfl (s_cvT tab_60 tab_9 rfl tab_5 rfl rfl (hM_sl (f := enc8) rfl) ?_))
   refine ry hnt rfl rfl rfl g9 (qo hnt rfl (s_eqtext (l := a.data) (m := b.data) rfl rfl ?_))
   refine qo hnt rfl (s_pick_t rfl g9 rfl ?_)
   refine r_eq (s := 74) (y := pB ((((((((((decide (a.fn = b.fn)) && (decide (a.code = b.code))) && (decide (a.at_ = b.at_))) && (decide (a.count = b.count))) && (decide (a.sub = b.sub))) && (decide (a.and_ = b.and_))) && (decide (a.or_ = b.or_))) && (decide (a.bits = b.bits))) && (decide (a.vals = b.vals))) && (decide (a.data = b.data)))) rfl (mix_at g9) ?_
   exact r_mid ⟨⟨rfl,trivial⟩,rfl,rfl⟩
  ·have g9' := g9
   try simp only [sB] at g9'
   refine rn hnt rfl rfl rfl g9 (rn hnt rfl rfl rfl g9 (rn hnt rfl rfl rfl g9 (rn hnt rfl rfl rfl g9 (rn hnt rfl rfl rfl g9 (rn hnt rfl rfl rfl g9 (qo hnt rfl (s_pick_f rfl g9 rfl ?_)))))))
   refine r_eq (s := 74) (y := pB ((((((((((decide (a.fn = b.fn)) && (decide (a.code = b.code))) && (decide (a.at_ = b.at_))) && (decide (a.count = b.count))) && (decide (a.sub = b.sub))) && (decide (a.and_ = b.and_))) && (decide (a.or_ = b.or_))) && (decide (a.bits = b.bits))) && (decide (a.vals = b.vals))) && (decide (a.data = b.data)))) rfl (mix_af _ g9) ?_
   exact r_mid ⟨⟨rfl,trivial⟩,rfl,rfl⟩
 ·exact ae hnt rfl rfl (w_le (s := 4) (y := pB (decide (a = b))) rfl (le_of_eq (congrArg pB (show ((((((((((decide (a.fn = b.fn)) && (decide (a.code = b.code))) && (decide (a.at_ = b.at_))) && (decide (a.count = b.count))) && (decide (a.sub = b.sub))) && (decide (a.and_ = b.and_))) && (decide (a.or_ = b.or_))) && (decide (a.bits = b.bits))) && (decide (a.vals = b.vals))) && (decide (a.data = b.data))) = (decide (a = b)) by apply Bool.eq_iff_iff.2; simp only [Bool.and_eq_true,decide_eq_true_eq]; cases a; cases b; simp only [TReply.mk.injEq]; constructor <;> (intro h; simp_all)))) (w_ret fp))
structure CodeA (r : TReply) : Prop where
  code : 1 ≤ r.code ∧ r.code ≤ 255
  fn : 0 ≤ r.fn ∧ r.fn ≤ 127
  rest : r = ⟨r.fn,r.code,0,0,0,[],[],0,0,[]⟩
structure ShapeA (r : TReply) : Prop where
  wa : 0 ≤ r.at_ ∧ r.at_ ≤ 65535
  wc : 0 ≤ r.count ∧ r.count ≤ 65535
  ws : 0 ≤ r.sub ∧ r.sub ≤ 65535
  za : ¬ (r.fn = 5 ∨ r.fn = 6 ∨ r.fn = 15 ∨ r.fn = 16 ∨ r.fn = 22) → r.at_ = 0
  zc : ¬ (r.fn = 15 ∨ r.fn = 16) → r.count = 0
  zs : r.fn ≠ 8 → r.sub = 0
  zm : r.fn ≠ 22 → r.and_.toNat = 0 ∧ r.or_.toNat = 0
  zb : ¬ (r.fn = 1 ∨ r.fn = 2 ∨ r.fn = 5) → r.bits.length = 0
  zv : ¬ (r.fn = 3 ∨ r.fn = 4 ∨ r.fn = 23 ∨ r.fn = 6 ∨ r.fn = 8) → r.vals.length = 0
  zd : r.fn ≠ 17 → r.data.length = 0
  ob : r.fn = 5 → r.bits.length = 1
  ov : r.fn = 6 ∨ r.fn = 8 → r.vals.length = 1
  lb : r.bits.length ≤ 2040
  lv : r.vals.length ≤ 127
  ld : r.data.length ≤ 250
instance (r : TReply) : Decidable (CodeA r) := decidable_of_iff ((1 ≤ r.code ∧ r.code ≤ 255) ∧ (0 ≤ r.fn ∧ r.fn ≤ 127) ∧ r = ⟨r.fn,r.code,0,0,0,[],[],0,0,[]⟩) ⟨fun h => ⟨h.1,h.2.1,h.2.2⟩,fun h => ⟨h.1,h.2,h.3⟩⟩
instance (r : TReply) : Decidable (ShapeA r) := decidable_of_iff ((0 ≤ r.at_ ∧ r.at_ ≤ 65535) ∧ (0 ≤ r.count ∧ r.count ≤ 65535) ∧ (0 ≤ r.sub ∧ r.sub ≤ 65535) ∧ (¬ (r.fn = 5 ∨ r.fn = 6 ∨ r.fn = 15 ∨ r.fn = 16 ∨ r.fn = 22) → r.at_ = 0) ∧ (¬ (r.fn = 15 ∨ r.fn = 16) → r.count = 0) ∧ (r.fn ≠ 8 → r.sub = 0) ∧
    (r.fn ≠ 22 → r.and_.toNat = 0 ∧ r.or_.toNat = 0) ∧ (¬ (r.fn = 1 ∨ r.fn = 2 ∨ r.fn = 5) → r.bits.length = 0) ∧ (¬ (r.fn = 3 ∨ r.fn = 4 ∨ r.fn = 23 ∨ r.fn = 6 ∨ r.fn = 8) → r.vals.length = 0) ∧ (r.fn ≠ 17 → r.data.length = 0) ∧ (r.fn = 5 → r.bits.length = 1) ∧ (r.fn = 6 ∨ r.fn = 8 → r.vals.length = 1) ∧
    r.bits.length ≤ 2040 ∧ r.vals.length ≤ 127 ∧ r.data.length ≤ 250)
  ⟨fun ⟨a,b,c,d,e,f,g,h,i,j,k,l,m,n,o⟩ => ⟨a,b,c,d,e,f,g,h,i,j,k,l,m,n,o⟩,fun ⟨a,b,c,d,e,f,g,h,i,j,k,l,m,n,o⟩ => ⟨a,b,c,d,e,f,g,h,i,j,k,l,m,n,o⟩⟩
def goodR (r : TReply) : Int := if r.code ≠ 0 then (if CodeA r then 0 else 12) else if hasF r.fn = false then 15 else if ShapeA r then 0 else 12
theorem goodR_1 {r : TReply} (h : r.code ≠ 0) (h2 : CodeA r) : goodR r = 0 := by unfold goodR; rw [if_pos h,if_pos h2]
theorem goodR_2 {r : TReply} (h : r.code ≠ 0) (h2 : ¬ CodeA r) : goodR r = 12 := by unfold goodR; rw [if_pos h,if_neg h2]
theorem goodR_3 {r : TReply} (h : r.code = 0) (h2 : hasF r.fn = false) : goodR r = 15 := by unfold goodR; rw [if_neg (by omega),if_pos h2]
theorem goodR_4 {r : TReply} (h : r.code = 0) (h2 : hasF r.fn = true) (h3 : ShapeA r) : goodR r = 0 := by unfold goodR; rw [if_neg (by omega),if_neg (by simp [h2]),if_pos h3]
theorem goodR_5 {r : TReply} (h : r.code = 0) (h2 : hasF r.fn = true) (h3 : ¬ ShapeA r) : goodR r = 12 := by unfold goodR; rw [if_neg (by omega),if_neg (by simp [h2]),if_neg h3]
def countOk (r : TReply) (q : TRequest) : Prop := r.code = 0 → ((r.fn = 1 ∨ r.fn = 2) → (r.bits.length : Int) = q.count) ∧ ((r.fn = 3 ∨ r.fn = 4 ∨ r.fn = 23) → (r.vals.length : Int) = q.count)
instance (r : TReply) (q : TRequest) : Decidable (countOk r q) := by unfold countOk; infer_instance
def zeroA : TReply := ⟨0,0,0,0,0,[],[],0,0,[]⟩
def askedOk (b : List UInt8) (f : Int) : Prop := 0 ≤ f ∧ ((((b.getD 0 0).toNat : Nat) : Int) = f ∨ f < 128 ∧ (((b.getD 0 0).toNat : Nat) : Int) = f + 128)
instance (b : List UInt8) (f : Int) : Decidable (askedOk b f) := by unfold askedOk; infer_instance
def hasA (r : TReply) : TReply :=
  if r.fn = 1 ∨ r.fn = 2 then ⟨r.fn,0,0,0,0,r.bits,[],0,0,[]⟩
  else if r.fn = 3 ∨ r.fn = 4 ∨ r.fn = 23 then ⟨r.fn,0,0,0,0,[],r.vals,0,0,[]⟩
  else if r.fn = 5 then ⟨r.fn,0,r.at_,0,0,r.bits,[],0,0,[]⟩
  else if r.fn = 6 then ⟨r.fn,0,r.at_,0,0,[],r.vals,0,0,[]⟩
  else if r.fn = 8 then ⟨r.fn,0,0,0,r.sub,[],r.vals,0,0,[]⟩
  else if r.fn = 15 ∨ r.fn = 16 then ⟨r.fn,0,r.at_,r.count,0,[],[],0,0,[]⟩
  else if r.fn = 22 then ⟨r.fn,0,r.at_,0,0,[],[],r.and_,r.or_,[]⟩
  else if r.fn = 17 then ⟨r.fn,0,0,0,0,[],[],0,0,r.data⟩
  else zeroA
theorem shapeA_has {r : TReply} (hf : hasF r.fn = true) (h0 : r.code = 0) : ShapeA r ↔ r = hasA r ∧ (0 ≤ r.at_ ∧ r.at_ ≤ 65535) ∧ (0 ≤ r.sub ∧ r.sub ≤ 65535) ∧ (0 ≤ r.count ∧ r.count ≤ 65535) ∧ (r.fn = 5 → r.bits.length = 1) ∧ (r.fn = 6 ∨ r.fn = 8 → r.vals.length = 1) ∧ r.bits.length ≤ 2040 ∧ r.vals.length ≤ 127 ∧ r.data.length ≤ 250 := by
  have hc := hasF_of hf
  obtain ⟨f,c,at_,count,sub,bits,vals,and_,or_,data⟩ := r
  simp only at *
  subst h0
  have z0 : ∀ x : UInt16,x.toNat = 0 → x = 0 := fun x hx => UInt16.toNat_inj.1 hx
  constructor
  · rintro ⟨wa,wc,ws,za,zc,zs,zm,zb,zv,zd,ob,ov,lb,lv,ld⟩
    refine ⟨?_,wa,ws,wc,ob,ov,lb,lv,ld⟩
    simp only at za zc zs zm zb zv zd
    have zm1 : f ≠ 22 → and_ = 0 := fun h => z0 _ (zm h).1
    have zm2 : f ≠ 22 → or_ = 0 := fun h => z0 _ (zm h).2
    have zb1 : ¬ (f = 1 ∨ f = 2 ∨ f = 5) → bits = [] := fun h => List.eq_nil_of_length_eq_zero (zb h)
    have zv1 : ¬ (f = 3 ∨ f = 4 ∨ f = 23 ∨ f = 6 ∨ f = 8) → vals = [] := fun h => List.eq_nil_of_length_eq_zero (zv h)
    have zd1 : f ≠ 17 → data = [] := fun h => List.eq_nil_of_length_eq_zero (zd h)
    clear zm zb zv zd
    rcases hc with h|h|h|h|h|h|h|h|h|h|h|h <;> subst h <;> simp_all [hasA]
  · rintro ⟨he,wa,ws,wc,ob,ov,lb,lv,ld⟩
    rcases hc with h|h|h|h|h|h|h|h|h|h|h|h <;> subst h <;> simp [hasA] at he <;> (obtain ⟨rfl,he⟩ := he <;> skip) <;> exact ⟨wa,wc,ws,by simp_all,by simp_all,by simp_all,by simp_all,by simp_all,by simp_all,by simp_all,ob,ov,lb,lv,ld⟩
def usesA (n : Int) : List UInt8 := if n = 1 ∨ n = 2 then [98] else if n = 3 ∨ n = 4 ∨ n = 23 then [118] else if n = 5 then [97,98] else if n = 6 then [97,118] else if n = 8 then [115,118] else if n = 15 ∨ n = 16 then [97,99] else if n = 17 then [100] else [97,109]
theorem usesA_len (n : Int) : (usesA n).length ≤ 4 := by
  unfold usesA
  repeat' split
  all_goals simp
theorem in_A {n : Int} (h : hasF n = true) : inS (usesA n) 97 = decide (n = 5 ∨ n = 6 ∨ n = 15 ∨ n = 16 ∨ n = 22) ∧ inS (usesA n) 99 = decide (n = 15 ∨ n = 16) ∧ inS (usesA n) 115 = decide (n = 8) ∧ inS (usesA n) 98 = decide (n = 1 ∨ n = 2 ∨ n = 5) ∧
    inS (usesA n) 118 = decide (n = 3 ∨ n = 4 ∨ n = 23 ∨ n = 6 ∨ n = 8) ∧ inS (usesA n) 109 = decide (n = 22) ∧ inS (usesA n) 100 = decide (n = 17) := by
  rcases hasF_of h with h|h|h|h|h|h|h|h|h|h|h|h <;> subst h <;> decide
def badG (r : TReply) : Bool := (((((((!(inS (usesA r.fn) 97)) && (!decide (r.at_ = 0))) || ((!(inS (usesA r.fn) 99)) && (!decide (r.count = 0)))) || ((!(inS (usesA r.fn) 115)) && (!decide (r.sub = 0)))) || ((!(inS (usesA r.fn) 98)) && decide (0 < ((r.bits.length : Nat) : Int)))) || ((!(inS (usesA r.fn) 118)) && decide (0 < ((r.vals.length : Nat) : Int)))) ||
  ((!(inS (usesA r.fn) 109)) && ((!decide (r.and_ = 0)) || (!decide (r.or_ = 0))))) || ((!(inS (usesA r.fn) 100)) && decide (0 < ((r.data.length : Nat) : Int)))
def badH (r : TReply) : Bool := (((((((!(wordOk r.at_)) || (!(wordOk r.count))) || (!(wordOk r.sub))) || (decide (r.fn = 5) && (!decide (((r.bits.length : Nat) : Int) = 1)))) || ((decide (r.fn = 6) || decide (r.fn = 8)) && (!decide (((r.vals.length : Nat) : Int) = 1)))) || decide (2040 < ((r.bits.length : Nat) : Int))) || decide (127 < ((r.vals.length : Nat) : Int))) || decide (250 < ((r.data.length : Nat) : Int))
theorem shapeA_bad {r : TReply} (hf : hasF r.fn = true) : ShapeA r ↔ badG r = false ∧ badH r = false := by
  have hc := hasF_of hf
  obtain ⟨ia,ic,is,ib,iv,im,id⟩ := in_A hf
  have hz := @u16z r.and_
  have hz2 := @u16z r.or_
  unfold badG badH
  rw [ia,ic,is,ib,iv,im,id]
  simp only [Bool.or_eq_false_iff,Bool.and_eq_false_iff,Bool.not_eq_false',decide_eq_true_eq,decide_eq_false_iff_not,wordOk,hz,hz2]
  constructor
  · rintro ⟨wa,wc,ws,za,zc,zs,zm,zb,zv,zd,ob,ov,lb,lv,ld⟩
    refine ⟨⟨⟨⟨⟨⟨⟨by omega,by omega⟩,by omega⟩,by omega⟩,by omega⟩,by omega⟩,by omega⟩,⟨⟨⟨⟨⟨⟨⟨wa,wc⟩,ws⟩,by omega⟩,by omega⟩,by omega⟩,by omega⟩,by omega⟩⟩
  · rintro ⟨⟨⟨⟨⟨⟨⟨a1,a2⟩,a3⟩,a4⟩,a5⟩,a6⟩,a7⟩,⟨⟨⟨⟨⟨⟨⟨wa,wc⟩,ws⟩,b4⟩,b5⟩,b6⟩,b7⟩,b8⟩⟩
    exact ⟨wa,wc,ws,by omega,by omega,by omega,by omega,by omega,by omega,by omega,by omega,by omega,by omega,by omega,by omega⟩
theorem goodG_2 {r : TReply} (h0 : r.code = 0) (hf : hasF r.fn = true) (h : badG r = true) : goodR r = 12 := goodR_5 h0 hf fun hs => by rw [((shapeA_bad hf).1 hs).1] at h; cases h
theorem goodG_3 {r : TReply} (h0 : r.code = 0) (hf : hasF r.fn = true) (h : badH r = true) : goodR r = 12 := goodR_5 h0 hf fun hs => by rw [((shapeA_bad hf).1 hs).2] at h; cases h
theorem goodG_4 {r : TReply} (h0 : r.code = 0) (hf : hasF r.fn = true) (h : badG r = false) (h2 : badH r = false) : goodR r = 0 := goodR_4 h0 hf ((shapeA_bad hf).2 ⟨h,h2⟩)
section
variable {g : List UInt8 → TRequest → TReply}{b : List UInt8}{q : TRequest}
end
def badC (r : TReply) (lo : Int) : Bool := ((((decide (r.code < lo)) || (decide (255 < r.code))) || (decide (r.fn < 0))) || (decide (127 < r.fn))) || (!(decide (r = (⟨r.fn,r.code,0,0,0,[],[],0,0,[]⟩ : TReply))))
def badP4 (r : TReply) : Bool := (((!(decide (r = (hasA r)))) || (!(wordOk r.at_))) || (!(wordOk r.sub))) || (!(wordOk r.count))
def badP5 (r : TReply) : Bool := ((decide (r.fn = 5)) && (!decide (((r.bits.length : Nat) : Int) = 1))) || (((decide (r.fn = 6)) || (decide (r.fn = 8))) && (!decide (((r.vals.length : Nat) : Int) = 1)))
def badP6 (r : TReply) : Bool := ((decide (2040 < ((r.bits.length : Nat) : Int))) || (decide (127 < ((r.vals.length : Nat) : Int)))) || (decide (250 < ((r.data.length : Nat) : Int)))
section
variable {r : TReply}{lo : Int}
theorem badC_iff (hlo : lo = 0 ∨ lo = 1) (h0 : r.code ≠ 0) : badC r lo = false ↔ CodeA r := by
  unfold badC
  simp only [Bool.or_eq_false_iff,Bool.not_eq_false',decide_eq_true_eq,decide_eq_false_iff_not]
  constructor
  · rintro ⟨⟨⟨⟨a,b⟩,c⟩,d⟩,e⟩
    exact ⟨⟨by omega,by omega⟩,⟨by omega,by omega⟩,e⟩
  · rintro ⟨a,b,c⟩
    exact ⟨⟨⟨⟨by omega,by omega⟩,by omega⟩,by omega⟩,c⟩
theorem goodC_1 (hlo : lo = 0 ∨ lo = 1) (h1 : (!decide (r.code = 0)) = true) (h2 : badC r lo = true) : goodR r = 12 := by
  have h0 : r.code ≠ 0 := by simpa using h1
  exact goodR_2 h0 fun h => by rw [(badC_iff hlo h0).2 h] at h2; cases h2
theorem goodC_2 (hlo : lo = 0 ∨ lo = 1) (h1 : (!decide (r.code = 0)) = true) (h2 : badC r lo = false) : goodR r = 0 := by
  have h0 : r.code ≠ 0 := by simpa using h1
  exact goodR_1 h0 ((badC_iff hlo h0).1 h2)
theorem goodP_3 (h1 : (!decide (r.code = 0)) = false) (h3 : (!(hasF r.fn)) = true) : goodR r = 15 := goodR_3 (by simpa using h1) (by simpa using h3)
theorem badP_iff (h0 : r.code = 0) (hf : hasF r.fn = true) : ShapeA r ↔ badP4 r = false ∧ badP5 r = false ∧ badP6 r = false := by
  rw [shapeA_has hf h0]
  unfold badP4 badP5 badP6
  simp only [Bool.or_eq_false_iff,Bool.and_eq_false_iff,Bool.not_eq_false',decide_eq_true_eq,decide_eq_false_iff_not,wordOk]
  constructor
  · rintro ⟨a,b,c,d,e,f,g,h,i⟩
    exact ⟨⟨⟨⟨a,b⟩,c⟩,d⟩,⟨by omega,by omega⟩,⟨⟨by omega,by omega⟩,by omega⟩⟩
  · rintro ⟨⟨⟨⟨a,b⟩,c⟩,d⟩,⟨e,f⟩,⟨⟨g,h⟩,i⟩⟩
    exact ⟨a,b,c,d,by omega,by omega,by omega,by omega,by omega⟩
theorem goodP_4 (h1 : (!decide (r.code = 0)) = false) (h3 : (!(hasF r.fn)) = false) (h4 : badP4 r = true) : goodR r = 12 := by
  have h0 : r.code = 0 := by simpa using h1
  have hf : hasF r.fn = true := by simpa using h3
  exact goodR_5 h0 hf fun hs => by rw [((badP_iff h0 hf).1 hs).1] at h4; cases h4
theorem goodP_5 (h1 : (!decide (r.code = 0)) = false) (h3 : (!(hasF r.fn)) = false) (h4 : badP5 r = true) : goodR r = 12 := by
  have h0 : r.code = 0 := by simpa using h1
  have hf : hasF r.fn = true := by simpa using h3
  exact goodR_5 h0 hf fun hs => by rw [((badP_iff h0 hf).1 hs).2.1] at h4; cases h4
theorem goodP_6 (h1 : (!decide (r.code = 0)) = false) (h3 : (!(hasF r.fn)) = false) (h4 : badP6 r = true) : goodR r = 12 := by
  have h0 : r.code = 0 := by simpa using h1
  have hf : hasF r.fn = true := by simpa using h3
  exact goodR_5 h0 hf fun hs => by rw [((badP_iff h0 hf).1 hs).2.2] at h4; cases h4
theorem goodP_7 (h1 : (!decide (r.code = 0)) = false) (h3 : (!(hasF r.fn)) = false) (h4 : badP4 r = false) (h5 : badP5 r = false) (h6 : badP6 r = false) : goodR r = 0 := by
  have h0 : r.code = 0 := by simpa using h1
  have hf : hasF r.fn = true := by simpa using h3
  exact goodR_4 h0 hf ((badP_iff h0 hf).2 ⟨h4,h5,h6⟩)
theorem goodQ_2 (h1 : (!decide (r.code = 0)) = false) (h3 : (!(hasF r.fn)) = false) (h4 : badG r = true) : goodR r = 12 := goodG_2 (by simpa using h1) (by simpa using h3) h4
theorem goodQ_3 (h1 : (!decide (r.code = 0)) = false) (h3 : (!(hasF r.fn)) = false) (h4 : badH r = true) : goodR r = 12 := goodG_3 (by simpa using h1) (by simpa using h3) h4
theorem goodQ_4 (h1 : (!decide (r.code = 0)) = false) (h3 : (!(hasF r.fn)) = false) (h4 : badG r = false) (h5 : badH r = false) : goodR r = 0 := goodG_4 (by simpa using h1) (by simpa using h3) h4 h5
end
theorem w_reply_Same (a : TReply) (b : TReply) (ha : a.bits.length ≤ 140737488351232 ∧ a.vals.length ≤ 140737488351232 ∧ a.data.length ≤ 140737488351232) :
    T Try.prog 68 [PV.f (eReply a),PV.f (eReply b)] 0 [] (Ret (pB (decide (a = b))) 0 []) := by
 refine t_fun tabOk (n := 73) (rs := [.tmp 4]) Try.func68 rfl rfl rfl rfl (nb rfl) ?_
 intro c hnt hk
 refine sr (qo hnt rfl (s_box rfl rfl ?_))
 refine qo hnt rfl (s_box rfl rfl ?_)
 refine qa hnt rfl rfl (r_set [(2,PV.ptr 0 0),(3,PV.ptr 1 0)] [(1,.obj (cReply b)),(0,.obj (cReply a))] 2 ⟨rfl,rfl,trivial⟩ rfl rfl (re (sr (xp hnt 69 [.o 6,.b 5 [.o 5],.o 1,.b 5 [.o 5],.o 1,.b 5 [.o 5],.o 1,.b 5 [.o 5],.o 1,.b 5 [.o 4,.c (pB (decide (a.and_ = b.and_)))],.o 1,.b 5 [.o 4,.c (pB (decide (a.or_ = b.or_)))],.o 1,.b 5 [.o 4,.c (pB (decide (a.bits = b.bits)))],.o 1,.b 5 [.o 4,.c (pB (decide (a.vals = b.vals)))],.o 1,.b 5 [.o 4,.c (pB (decide (a.data = b.data)))],.o 1] [(((((decide (a.fn = b.fn)) && (decide (a.code = b.code))) && (decide (a.at_ = b.at_))) && (decide (a.count = b.count))) && (decide (a.sub = b.sub))) = true → AllP [eqC16 a.and_ b.and_],((((((decide (a.fn = b.fn)) && (decide (a.code = b.code))) && (decide (a.at_ = b.at_))) && (decide (a.count = b.count))) && (decide (a.sub = b.sub))) && (decide (a.and_ = b.and_))) = true → AllP [eqC16 a.or_ b.or_],(((((((decide (a.fn = b.fn)) && (decide (a.code = b.code))) && (decide (a.at_ = b.at_))) && (decide (a.count = b.count))) && (decide (a.sub = b.sub))) && (decide (a.and_ = b.and_))) && (decide (a.or_ = b.or_))) = true → AllP [T Try.prog 86 [pS 1 false encBo a.bits,pS 1 false encBo b.bits] 0 [] (Ret (pB (decide (a.bits = b.bits))) 0 [])],((((((((decide (a.fn = b.fn)) && (decide (a.code = b.code))) && (decide (a.at_ = b.at_))) && (decide (a.count = b.count))) && (decide (a.sub = b.sub))) && (decide (a.and_ = b.and_))) && (decide (a.or_ = b.or_))) && (decide (a.bits = b.bits))) = true → AllP [T Try.prog 87 [pS 1 false enc16 a.vals,pS 1 false enc16 b.vals] 0 [] (Ret (pB (decide (a.vals = b.vals))) 0 [])],(((((((((decide (a.fn = b.fn)) && (decide (a.code = b.code))) && (decide (a.at_ = b.at_))) && (decide (a.count = b.count))) && (decide (a.sub = b.sub))) && (decide (a.and_ = b.and_))) && (decide (a.or_ = b.or_))) && (decide (a.bits = b.bits))) && (decide (a.vals = b.vals))) = true → AllP [T Try.prog 88 [pS 1 false enc8 a.data,pS 1 false enc8 b.data] 0 [] (Ret (pB (decide (a.data = b.data))) 0 [])]] [(4,pB ((((((((((decide (a.fn = b.fn)) && (decide (a.code = b.code))) && (decide (a.at_ = b.at_))) && (decide (a.count = b.count))) && (decide (a.sub = b.sub))) && (decide (a.and_ = b.and_))) && (decide (a.or_ = b.or_))) && (decide (a.bits = b.bits))) && (decide (a.vals = b.vals))) && (decide (a.data = b.data))))] ?_ (hc := ⟨by intro hq; (try simp only [sB] at hq); exact ⟨eqC16_ok _ _,trivial⟩,by intro hq; (try simp only [sB] at hq); exact ⟨eqC16_ok _ _,trivial⟩,by intro hq; (try simp only [sB] at hq); exact ⟨(w_slices_Equal_bool_bool a.bits false b.bits false (by omega)),trivial⟩,by intro hq; (try simp only [sB] at hq); exact ⟨(w_slices_Equal_uint16_uint16 a.vals false b.vals false (by omega)),trivial⟩,by intro hq; (try simp only [sB] at hq); exact ⟨(w_slices_Equal_byte_byte a.data false b.data false (by omega)),trivial⟩,trivial⟩)))))
 exact re (w_le (s := 4) (y := pB (decide (a = b))) rfl (le_of_eq (congrArg pB (show ((((((((((decide (a.fn = b.fn)) && (decide (a.code = b.code))) && (decide (a.at_ = b.at_))) && (decide (a.count = b.count))) && (decide (a.sub = b.sub))) && (decide (a.and_ = b.and_))) && (decide (a.or_ = b.or_))) && (decide (a.bits = b.bits))) && (decide (a.vals = b.vals))) && (decide (a.data = b.data))) = (decide (a = b)) by apply Bool.eq_iff_iff.2; simp only [Bool.and_eq_true,decide_eq_true_eq]; cases a; cases b; simp only [TReply.mk.injEq]; constructor <;> (intro h; simp_all)))) (w_ret fp))
theorem w_reply_has (r : TReply) (hr : r.bits.length ≤ 140737488351232 ∧ r.vals.length ≤ 140737488351232 ∧ r.data.length ≤ 140737488351232) :
    T Try.prog 69 [PV.f (eReply r)] 0 [] (Ret (PV.tup [PV.f (eReply (hasA r)),pB (hasF r.fn)]) 0 []) := by
 refine t_fun tabOk (n := 73) (rs := [.cell 2 62,.tmp 3]) Try.func69 rfl rfl rfl rfl (nb rfl) ?_
 intro c hnt hk
 refine sr (qo hnt rfl (s_box rfl rfl ?_))
 refine qo hnt rfl (s_alloc tab_62 ?_)
 refine qa hnt rfl rfl (r_set [(1,PV.ptr 0 0),(2,PV.ptr 1 0)] [(1,.obj [pI 0,pI 0,pI 0,pI 0,pI 0,pNil,pNil,p16 0,p16 0,pNil]),(0,.obj (cReply r))] 2 ⟨rfl,rfl,trivial⟩ rfl rfl (re (sr (xm hnt 4 [.o 4] [] [] 2 [(1,.obj [pI r.fn,pI 0,pI 0,pI 0,pI 0,pNil,pNil,p16 0,p16 0,pNil]),(0,.obj (cReply r))] (re ?_)))))
 refine w_seq (sr (xp hnt 2 [.o 2] [] [(8,pI r.fn)] (re (w_block (xo hnt 10 [[.o 2],[.o 2]] [] ((decide (r.fn = 1)) || (decide (r.fn = 2))) ?_)))))
 refine w_if rfl (fun c2 => ?_) (fun c2 => ?_)
 ·try simp only [sB,Bool.or_eq_true,Bool.or_eq_false_iff] at c2
  refine w_R (xm hnt 4 [.o 4] [] [] 2 [(1,.obj [pI r.fn,pI 0,pI 0,pI 0,pI 0,pS 1 false encBo r.bits,pNil,p16 0,p16 0,pNil]),(0,.obj (cReply r))] (r_end (q_block (q_then (sr ?_)))))
  refine xm hnt 3 [.o 3] [] [(3,pB true)] 2 [(1,.obj [pI r.fn,pI 0,pI 0,pI 0,pI 0,pS 1 false encBo r.bits,pNil,p16 0,p16 0,pNil]),(0,.obj (cReply r))] (re ?_)
  have hz1 : r.fn = ((hasA r).fn) ∧ 0 = ((hasA r).code) ∧ 0 = ((hasA r).at_) ∧ 0 = ((hasA r).count) ∧ 0 = ((hasA r).sub) ∧ r.bits = ((hasA r).bits) ∧ ([] : List UInt16) = ((hasA r).vals) ∧ 0 = ((hasA r).and_) ∧ 0 = ((hasA r).or_) ∧ ([] : List UInt8) = ((hasA r).data) := by and_intros <;> ((unfold hasA; rw [if_pos (by omega)]; done))
  exact w_leO (n := 1) (ds := cReply (hasA r)) rfl ⟨le_of_eq (congrArg pI hz1.1),le_of_eq (congrArg pI hz1.2.1),le_of_eq (congrArg pI hz1.2.2.1),le_of_eq (congrArg pI hz1.2.2.2.1),le_of_eq (congrArg pI hz1.2.2.2.2.1),le_of_eq (congrArg (fun z => pS 1 false encBo z) hz1.2.2.2.2.2.1),le_tr (le_nilS 1 false) (le_of_eq (congrArg (fun z => pS 1 false enc16 z) hz1.2.2.2.2.2.2.1)),le_of_eq (congrArg p16 hz1.2.2.2.2.2.2.2.1),le_of_eq (congrArg p16 hz1.2.2.2.2.2.2.2.2.1),le_tr (le_nilS 1 false) (le_of_eq (congrArg (fun z => pS 1 false enc8 z) hz1.2.2.2.2.2.2.2.2.2)),trivial⟩ (w_le (s := 3) (y := pB (hasF r.fn)) rfl (le_of_eq (congrArg pB (show true = (hasF r.fn) by exact (decide_eq_true (by omega)).symm))) (w_ret fp))
 try simp only [sB,Bool.or_eq_true,Bool.or_eq_false_iff] at c2
 refine xo hnt 16 [[.o 2],[.o 2],[.o 2]] [] ((decide (r.fn = 3)) || ((decide (r.fn = 4)) || (decide (r.fn = 23)))) (w_if rfl (fun c5 => ?_) (fun c5 => ?_))
 ·try simp only [sB,Bool.or_eq_true,Bool.or_eq_false_iff] at c5
  refine w_R (xm hnt 4 [.o 4] [] [] 2 [(1,.obj [pI r.fn,pI 0,pI 0,pI 0,pI 0,pNil,pS 1 false enc16 r.vals,p16 0,p16 0,pNil]),(0,.obj (cReply r))] (r_end (q_block (q_then (sr ?_)))))
  refine xm hnt 3 [.o 3] [] [(3,pB true)] 2 [(1,.obj [pI r.fn,pI 0,pI 0,pI 0,pI 0,pNil,pS 1 false enc16 r.vals,p16 0,p16 0,pNil]),(0,.obj (cReply r))] (re ?_)
  have hz2 : r.fn = ((hasA r).fn) ∧ 0 = ((hasA r).code) ∧ 0 = ((hasA r).at_) ∧ 0 = ((hasA r).count) ∧ 0 = ((hasA r).sub) ∧ ([] : List Bool) = ((hasA r).bits) ∧ r.vals = ((hasA r).vals) ∧ 0 = ((hasA r).and_) ∧ 0 = ((hasA r).or_) ∧ ([] : List UInt8) = ((hasA r).data) := by and_intros <;> ((unfold hasA; rw [if_neg (by omega),if_pos (by omega)]; done))
  exact w_leO (n := 1) (ds := cReply (hasA r)) rfl ⟨le_of_eq (congrArg pI hz2.1),le_of_eq (congrArg pI hz2.2.1),le_of_eq (congrArg pI hz2.2.2.1),le_of_eq (congrArg pI hz2.2.2.2.1),le_of_eq (congrArg pI hz2.2.2.2.2.1),le_tr (le_nilS 1 false) (le_of_eq (congrArg (fun z => pS 1 false encBo z) hz2.2.2.2.2.2.1)),le_of_eq (congrArg (fun z => pS 1 false enc16 z) hz2.2.2.2.2.2.2.1),le_of_eq (congrArg p16 hz2.2.2.2.2.2.2.2.1),le_of_eq (congrArg p16 hz2.2.2.2.2.2.2.2.2.1),le_tr (le_nilS 1 false) (le_of_eq (congrArg (fun z => pS 1 false enc8 z) hz2.2.2.2.2.2.2.2.2.2)),trivial⟩ (w_le (s := 3) (y := pB (hasF r.fn)) rfl (le_of_eq (congrArg pB (show true = (hasF r.fn) by exact (decide_eq_true (by omega)).symm))) (w_ret fp))
 try simp only [sB,Bool.or_eq_true,Bool.or_eq_false_iff] at c5
 refine sr (xp hnt 2 [.o 2] [] [(23,pB (decide (r.fn = 5)))] (re (w_if rfl (fun c6 => ?_) (fun c6 => ?_))))
 ·try simp only [sB] at c6
  refine wdr hnt (xd 8 [.o 8] [] 2 [(1,.obj [pI r.fn,pI 0,pI r.at_,pI 0,pI 0,pS 1 false encBo r.bits,pNil,p16 0,p16 0,pNil]),(0,.obj (cReply r))] (xe [(2,PV.ptr 1 0)] (r_end (q_block (q_then ?_)))))
  refine sr (xm hnt 3 [.o 3] [] [(3,pB true)] 2 [(1,.obj [pI r.fn,pI 0,pI r.at_,pI 0,pI 0,pS 1 false encBo r.bits,pNil,p16 0,p16 0,pNil]),(0,.obj (cReply r))] (re ?_))
  have hz3 : r.fn = ((hasA r).fn) ∧ 0 = ((hasA r).code) ∧ r.at_ = ((hasA r).at_) ∧ 0 = ((hasA r).count) ∧ 0 = ((hasA r).sub) ∧ r.bits = ((hasA r).bits) ∧ ([] : List UInt16) = ((hasA r).vals) ∧ 0 = ((hasA r).and_) ∧ 0 = ((hasA r).or_) ∧ ([] : List UInt8) = ((hasA r).data) := by and_intros <;> ((unfold hasA; rw [if_neg (by omega),if_neg (by omega),if_pos (by omega)]; done))
  exact w_leO (n := 1) (ds := cReply (hasA r)) rfl ⟨le_of_eq (congrArg pI hz3.1),le_of_eq (congrArg pI hz3.2.1),le_of_eq (congrArg pI hz3.2.2.1),le_of_eq (congrArg pI hz3.2.2.2.1),le_of_eq (congrArg pI hz3.2.2.2.2.1),le_of_eq (congrArg (fun z => pS 1 false encBo z) hz3.2.2.2.2.2.1),le_tr (le_nilS 1 false) (le_of_eq (congrArg (fun z => pS 1 false enc16 z) hz3.2.2.2.2.2.2.1)),le_of_eq (congrArg p16 hz3.2.2.2.2.2.2.2.1),le_of_eq (congrArg p16 hz3.2.2.2.2.2.2.2.2.1),le_tr (le_nilS 1 false) (le_of_eq (congrArg (fun z => pS 1 false enc8 z) hz3.2.2.2.2.2.2.2.2.2)),trivial⟩ (w_le (s := 3) (y := pB (hasF r.fn)) rfl (le_of_eq (congrArg pB (show true = (hasF r.fn) by exact (decide_eq_true (by omega)).symm))) (w_ret fp))
 try simp only [sB] at c6
 refine sr (xp hnt 2 [.o 2] [] [(31,pB (decide (r.fn = 6)))] (re (w_if rfl (fun c7 => ?_) (fun c7 => ?_))))
 ·try simp only [sB] at c7
  refine wdr hnt (xd 8 [.o 8] [] 2 [(1,.obj [pI r.fn,pI 0,pI r.at_,pI 0,pI 0,pNil,pS 1 false enc16 r.vals,p16 0,p16 0,pNil]),(0,.obj (cReply r))] (xe [(2,PV.ptr 1 0)] (r_end (q_block (q_then ?_)))))
  refine sr (xm hnt 3 [.o 3] [] [(3,pB true)] 2 [(1,.obj [pI r.fn,pI 0,pI r.at_,pI 0,pI 0,pNil,pS 1 false enc16 r.vals,p16 0,p16 0,pNil]),(0,.obj (cReply r))] (re ?_))
  have hz4 : r.fn = ((hasA r).fn) ∧ 0 = ((hasA r).code) ∧ r.at_ = ((hasA r).at_) ∧ 0 = ((hasA r).count) ∧ 0 = ((hasA r).sub) ∧ ([] : List Bool) = ((hasA r).bits) ∧ r.vals = ((hasA r).vals) ∧ 0 = ((hasA r).and_) ∧ 0 = ((hasA r).or_) ∧ ([] : List UInt8) = ((hasA r).data) := by and_intros <;> ((unfold hasA; rw [if_neg (by omega),if_neg (by omega),if_neg (by omega),if_pos (by omega)]; done))
  exact w_leO (n := 1) (ds := cReply (hasA r)) rfl ⟨le_of_eq (congrArg pI hz4.1),le_of_eq (congrArg pI hz4.2.1),le_of_eq (congrArg pI hz4.2.2.1),le_of_eq (congrArg pI hz4.2.2.2.1),le_of_eq (congrArg pI hz4.2.2.2.2.1),le_tr (le_nilS 1 false) (le_of_eq (congrArg (fun z => pS 1 false encBo z) hz4.2.2.2.2.2.1)),le_of_eq (congrArg (fun z => pS 1 false enc16 z) hz4.2.2.2.2.2.2.1),le_of_eq (congrArg p16 hz4.2.2.2.2.2.2.2.1),le_of_eq (congrArg p16 hz4.2.2.2.2.2.2.2.2.1),le_tr (le_nilS 1 false) (le_of_eq (congrArg (fun z => pS 1 false enc8 z) hz4.2.2.2.2.2.2.2.2.2)),trivial⟩ (w_le (s := 3) (y := pB (hasF r.fn)) rfl (le_of_eq (congrArg pB (show true = (hasF r.fn) by exact (decide_eq_true (by omega)).symm))) (w_ret fp))
 try simp only [sB] at c7
 refine sr (xp hnt 2 [.o 2] [] [(39,pB (decide (r.fn = 8)))] (re (w_if rfl (fun c8 => ?_) (fun c8 => ?_))))
 ·try simp only [sB] at c8
  refine wdr hnt (xd 8 [.o 8] [] 2 [(1,.obj [pI r.fn,pI 0,pI 0,pI 0,pI r.sub,pNil,pS 1 false enc16 r.vals,p16 0,p16 0,pNil]),(0,.obj (cReply r))] (xe [(2,PV.ptr 1 0)] (r_end (q_block (q_then ?_)))))
  refine sr (xm hnt 3 [.o 3] [] [(3,pB true)] 2 [(1,.obj [pI r.fn,pI 0,pI 0,pI 0,pI r.sub,pNil,pS 1 false enc16 r.vals,p16 0,p16 0,pNil]),(0,.obj (cReply r))] (re ?_))
  have hz5 : r.fn = ((hasA r).fn) ∧ 0 = ((hasA r).code) ∧ 0 = ((hasA r).at_) ∧ 0 = ((hasA r).count) ∧ r.sub = ((hasA r).sub) ∧ ([] : List Bool) = ((hasA r).bits) ∧ r.vals = ((hasA r).vals) ∧ 0 = ((hasA r).and_) ∧ 0 = ((hasA r).or_) ∧ ([] : List UInt8) = ((hasA r).data) := by and_intros <;> ((unfold hasA; rw [if_neg (by omega),if_neg (by omega),if_neg (by omega),if_neg (by omega),if_pos (by omega)]; done))
  exact w_leO (n := 1) (ds := cReply (hasA r)) rfl ⟨le_of_eq (congrArg pI hz5.1),le_of_eq (congrArg pI hz5.2.1),le_of_eq (congrArg pI hz5.2.2.1),le_of_eq (congrArg pI hz5.2.2.2.1),le_of_eq (congrArg pI hz5.2.2.2.2.1),le_tr (le_nilS 1 false) (le_of_eq (congrArg (fun z => pS 1 false encBo z) hz5.2.2.2.2.2.1)),le_of_eq (congrArg (fun z => pS 1 false enc16 z) hz5.2.2.2.2.2.2.1),le_of_eq (congrArg p16 hz5.2.2.2.2.2.2.2.1),le_of_eq (congrArg p16 hz5.2.2.2.2.2.2.2.2.1),le_tr (le_nilS 1 false) (le_of_eq (congrArg (fun z => pS 1 false enc8 z) hz5.2.2.2.2.2.2.2.2.2)),trivial⟩ (w_le (s := 3) (y := pB (hasF r.fn)) rfl (le_of_eq (congrArg pB (show true = (hasF r.fn) by exact (decide_eq_true (by omega)).symm))) (w_ret fp))
 try simp only [sB] at c8
 refine xo hnt 47 [[.o 2],[.o 2]] [] ((decide (r.fn = 15)) || (decide (r.fn = 16))) (w_if rfl (fun c10 => ?_) (fun c10 => ?_))
 ·try simp only [sB,Bool.or_eq_true,Bool.or_eq_false_iff] at c10
  refine wdr hnt (xd 8 [.o 8] [] 2 [(1,.obj [pI r.fn,pI 0,pI r.at_,pI r.count,pI 0,pNil,pNil,p16 0,p16 0,pNil]),(0,.obj (cReply r))] (xe [(2,PV.ptr 1 0)] (r_end (q_block (q_then ?_)))))
  refine sr (xm hnt 3 [.o 3] [] [(3,pB true)] 2 [(1,.obj [pI r.fn,pI 0,pI r.at_,pI r.count,pI 0,pNil,pNil,p16 0,p16 0,pNil]),(0,.obj (cReply r))] (re ?_))
  have hz6 : r.fn = ((hasA r).fn) ∧ 0 = ((hasA r).code) ∧ r.at_ = ((hasA r).at_) ∧ r.count = ((hasA r).count) ∧ 0 = ((hasA r).sub) ∧ ([] : List Bool) = ((hasA r).bits) ∧ ([] : List UInt16) = ((hasA r).vals) ∧ 0 = ((hasA r).and_) ∧ 0 = ((hasA r).or_) ∧ ([] : List UInt8) = ((hasA r).data) := by and_intros <;> ((unfold hasA; rw [if_neg (by omega),if_neg (by omega),if_neg (by omega),if_neg (by omega),if_neg (by omega),if_pos (by omega)]; done))
  exact w_leO (n := 1) (ds := cReply (hasA r)) rfl ⟨le_of_eq (congrArg pI hz6.1),le_of_eq (congrArg pI hz6.2.1),le_of_eq (congrArg pI hz6.2.2.1),le_of_eq (congrArg pI hz6.2.2.2.1),le_of_eq (congrArg pI hz6.2.2.2.2.1),le_tr (le_nilS 1 false) (le_of_eq (congrArg (fun z => pS 1 false encBo z) hz6.2.2.2.2.2.1)),le_tr (le_nilS 1 false) (le_of_eq (congrArg (fun z => pS 1 false enc16 z) hz6.2.2.2.2.2.2.1)),le_of_eq (congrArg p16 hz6.2.2.2.2.2.2.2.1),le_of_eq (congrArg p16 hz6.2.2.2.2.2.2.2.2.1),le_tr (le_nilS 1 false) (le_of_eq (congrArg (fun z => pS 1 false enc8 z) hz6.2.2.2.2.2.2.2.2.2)),trivial⟩ (w_le (s := 3) (y := pB (hasF r.fn)) rfl (le_of_eq (congrArg pB (show true = (hasF r.fn) by exact (decide_eq_true (by omega)).symm))) (w_ret fp))
 try simp only [sB,Bool.or_eq_true,Bool.or_eq_false_iff] at c10
 refine sr (qo hnt rfl (s_eql rfl rfl ?_))
 refine ae hnt rfl rfl (w_if rfl (fun c11 => ?_) (fun c11 => ?_))
 ·try simp only [sB] at c11
  refine wdr hnt (xd 12 [.o 12] [] 2 [(1,.obj [pI r.fn,pI 0,pI r.at_,pI 0,pI 0,pNil,pNil,p16 r.and_,p16 r.or_,pNil]),(0,.obj (cReply r))] (xe [(2,PV.ptr 1 0)] (r_end (q_block (q_then ?_)))))
  refine sr (xm hnt 3 [.o 3] [] [(3,pB true)] 2 [(1,.obj [pI r.fn,pI 0,pI r.at_,pI 0,pI 0,pNil,pNil,p16 r.and_,p16 r.or_,pNil]),(0,.obj (cReply r))] (re ?_))
  have hz7 : r.fn = ((hasA r).fn) ∧ 0 = ((hasA r).code) ∧ r.at_ = ((hasA r).at_) ∧ 0 = ((hasA r).count) ∧ 0 = ((hasA r).sub) ∧ ([] : List Bool) = ((hasA r).bits) ∧ ([] : List UInt16) = ((hasA r).vals) ∧ r.and_ = ((hasA r).and_) ∧ r.or_ = ((hasA r).or_) ∧ ([] : List UInt8) = ((hasA r).data) := by and_intros <;> ((unfold hasA; rw [if_neg (by omega),if_neg (by omega),if_neg (by omega),if_neg (by omega),if_neg (by omega),if_neg (by omega),if_pos (by omega)]; done))
  exact w_leO (n := 1) (ds := cReply (hasA r)) rfl ⟨le_of_eq (congrArg pI hz7.1),le_of_eq (congrArg pI hz7.2.1),le_of_eq (congrArg pI hz7.2.2.1),le_of_eq (congrArg pI hz7.2.2.2.1),le_of_eq (congrArg pI hz7.2.2.2.2.1),le_tr (le_nilS 1 false) (le_of_eq (congrArg (fun z => pS 1 false encBo z) hz7.2.2.2.2.2.1)),le_tr (le_nilS 1 false) (le_of_eq (congrArg (fun z => pS 1 false enc16 z) hz7.2.2.2.2.2.2.1)),le_of_eq (congrArg p16 hz7.2.2.2.2.2.2.2.1),le_of_eq (congrArg p16 hz7.2.2.2.2.2.2.2.2.1),le_tr (le_nilS 1 false) (le_of_eq (congrArg (fun z => pS 1 false enc8 z) hz7.2.2.2.2.2.2.2.2.2)),trivial⟩ (w_le (s := 3) (y := pB (hasF r.fn)) rfl (le_of_eq (congrArg pB (show true = (hasF r.fn) by exact (decide_eq_true (by omega)).symm))) (w_ret fp))
 try simp only [sB] at c11
 refine sr (qo hnt rfl (s_eql rfl rfl ?_))
 refine ae hnt rfl rfl (w_if rfl (fun c12 => ?_) (fun c12 => ?_))
 ·try simp only [sB] at c12
  refine w_R (xm hnt 4 [.o 4] [] [] 2 [(1,.obj [pI r.fn,pI 0,pI 0,pI 0,pI 0,pNil,pNil,p16 0,p16 0,pS 1 false enc8 r.data]),(0,.obj (cReply r))] (r_end (q_block (q_then (sr ?_)))))
  refine xm hnt 3 [.o 3] [] [(3,pB true)] 2 [(1,.obj [pI r.fn,pI 0,pI 0,pI 0,pI 0,pNil,pNil,p16 0,p16 0,pS 1 false enc8 r.data]),(0,.obj (cReply r))] (re ?_)
  have hz8 : r.fn = ((hasA r).fn) ∧ 0 = ((hasA r).code) ∧ 0 = ((hasA r).at_) ∧ 0 = ((hasA r).count) ∧ 0 = ((hasA r).sub) ∧ ([] : List Bool) = ((hasA r).bits) ∧ ([] : List UInt16) = ((hasA r).vals) ∧ 0 = ((hasA r).and_) ∧ 0 = ((hasA r).or_) ∧ r.data = ((hasA r).data) := by and_intros <;> ((unfold hasA; rw [if_neg (by omega),if_neg (by omega),if_neg (by omega),if_neg (by omega),if_neg (by omega),if_neg (by omega),if_neg (by omega),if_pos (by omega)]; done))
  exact w_leO (n := 1) (ds := cReply (hasA r)) rfl ⟨le_of_eq (congrArg pI hz8.1),le_of_eq (congrArg pI hz8.2.1),le_of_eq (congrArg pI hz8.2.2.1),le_of_eq (congrArg pI hz8.2.2.2.1),le_of_eq (congrArg pI hz8.2.2.2.2.1),le_tr (le_nilS 1 false) (le_of_eq (congrArg (fun z => pS 1 false encBo z) hz8.2.2.2.2.2.1)),le_tr (le_nilS 1 false) (le_of_eq (congrArg (fun z => pS 1 false enc16 z) hz8.2.2.2.2.2.2.1)),le_of_eq (congrArg p16 hz8.2.2.2.2.2.2.2.1),le_of_eq (congrArg p16 hz8.2.2.2.2.2.2.2.2.1),le_of_eq (congrArg (fun z => pS 1 false enc8 z) hz8.2.2.2.2.2.2.2.2.2),trivial⟩ (w_le (s := 3) (y := pB (hasF r.fn)) rfl (le_of_eq (congrArg pB (show true = (hasF r.fn) by exact (decide_eq_true (by omega)).symm))) (w_ret fp))
 try simp only [sB] at c12
 refine sr (xm hnt 3 [.o 3] [] [(3,pB false)] 2 [(1,.obj [pI 0,pI 0,pI 0,pI 0,pI 0,pNil,pNil,p16 0,p16 0,pNil]),(0,.obj (cReply r))] (re ?_))
 have hz9 : 0 = ((hasA r).fn) ∧ 0 = ((hasA r).code) ∧ 0 = ((hasA r).at_) ∧ 0 = ((hasA r).count) ∧ 0 = ((hasA r).sub) ∧ ([] : List Bool) = ((hasA r).bits) ∧ ([] : List UInt16) = ((hasA r).vals) ∧ 0 = ((hasA r).and_) ∧ 0 = ((hasA r).or_) ∧ ([] : List UInt8) = ((hasA r).data) := by and_intros <;> ((unfold hasA; rw [if_neg (by omega),if_neg (by omega),if_neg (by omega),if_neg (by omega),if_neg (by omega),if_neg (by omega),if_neg (by omega),if_neg (by omega)]; rfl))
 exact w_leO (n := 1) (ds := cReply (hasA r)) rfl ⟨le_of_eq (congrArg pI hz9.1),le_of_eq (congrArg pI hz9.2.1),le_of_eq (congrArg pI hz9.2.2.1),le_of_eq (congrArg pI hz9.2.2.2.1),le_of_eq (congrArg pI hz9.2.2.2.2.1),le_tr (le_nilS 1 false) (le_of_eq (congrArg (fun z => pS 1 false encBo z) hz9.2.2.2.2.2.1)),le_tr (le_nilS 1 false) (le_of_eq (congrArg (fun z => pS 1 false enc16 z) hz9.2.2.2.2.2.2.1)),le_of_eq (congrArg p16 hz9.2.2.2.2.2.2.2.1),le_of_eq (congrArg p16 hz9.2.2.2.2.2.2.2.2.1),le_tr (le_nilS 1 false) (le_of_eq (congrArg (fun z => pS 1 false enc8 z) hz9.2.2.2.2.2.2.2.2.2)),trivial⟩ (w_le (s := 3) (y := pB (hasF r.fn)) rfl (le_of_eq (congrArg pB (show false = (hasF r.fn) by exact (decide_eq_false (by omega)).symm))) (w_ret (q_block_ret (q_then_ret fp))))
theorem w_burgageref3_has (n : Int)  :
    T Try.prog 83 [pI n] 0 [] (Ret (pT (usesA n)) 0 []) := by
 refine t_fun tabOk (n := 22) (rs := [.tmp 2]) Try.func83 rfl rfl rfl rfl (nb rfl) ?_
 intro c hnt hk
 refine sr (ae hnt rfl rfl (w_seq (sr (qm hnt rfl rfl (re (w_block (w_seq (sr ?_))))))))
 refine xp hnt 2 [.o 2] [] [(4,pB (decide (n = 1)))] (re (w_if rfl (fun c1 => ?_) (fun c1 => ?_)))
 ·have c1_ := c1
  try simp only [sB] at c1
  refine w_skip (q_then (w_if rfl (fun _ => ?_) (fun e => absurd (e.symm.trans c1_) (by decide))))
  exact sr (ae hnt rfl rfl (w_le (s := 2) (y := pT (usesA n)) rfl (le_of_eq (congrArg (fun z : List UInt8 => pT z) (show ([98] : List UInt8) = (usesA n) by (simp [usesA, *]; done)))) (w_ret (q_block_ret (q_then_ret fp)))))
 have c1_ := c1
 try simp only [sB] at c1
 refine w_R (qo hnt rfl (s_eql rfl rfl ?_))
 refine ae hnt rfl rfl (w_if rfl (fun c2 => ?_) (fun c2 => ?_))
 ·try simp only [sB] at c2
  exact sr (ae hnt rfl rfl (w_le (s := 2) (y := pT (usesA n)) rfl (le_of_eq (congrArg (fun z : List UInt8 => pT z) (show ([98] : List UInt8) = (usesA n) by (simp [usesA, *]; done)))) (w_ret (q_block_ret (q_then_ret fp)))))
 try simp only [sB] at c2
 refine w_seq (sr (xp hnt 2 [.o 2] [] [(7,pB (decide (n = 3)))] (re (w_if rfl (fun c3 => ?_) (fun c3 => ?_)))))
 ·have c3_ := c3
  try simp only [sB] at c3
  refine w_skip (q_then (w_if rfl (fun _ => ?_) (fun e => absurd (e.symm.trans c3_) (by decide))))
  exact sr (ae hnt rfl rfl (w_le (s := 2) (y := pT (usesA n)) rfl (le_of_eq (congrArg (fun z : List UInt8 => pT z) (show ([118] : List UInt8) = (usesA n) by (simp [usesA, *]; done)))) (w_ret (q_block_ret (q_then_ret fp)))))
 have c3_ := c3
 try simp only [sB] at c3
 refine sr (qo hnt rfl (s_eql rfl rfl ?_))
 refine ae hnt rfl rfl (w_if rfl (fun c4 => ?_) (fun c4 => ?_))
 ·have c4_ := c4
  try simp only [sB] at c4
  refine w_skip (q_then (w_if rfl (fun _ => ?_) (fun e => absurd (e.symm.trans c4_) (by decide))))
  exact sr (ae hnt rfl rfl (w_le (s := 2) (y := pT (usesA n)) rfl (le_of_eq (congrArg (fun z : List UInt8 => pT z) (show ([118] : List UInt8) = (usesA n) by (simp [usesA, *]; done)))) (w_ret (q_block_ret (q_then_ret fp)))))
 have c4_ := c4
 try simp only [sB] at c4
 refine w_R (qo hnt rfl (s_eql rfl rfl ?_))
 refine ae hnt rfl rfl (w_if rfl (fun c5 => ?_) (fun c5 => ?_))
 ·try simp only [sB] at c5
  exact sr (ae hnt rfl rfl (w_le (s := 2) (y := pT (usesA n)) rfl (le_of_eq (congrArg (fun z : List UInt8 => pT z) (show ([118] : List UInt8) = (usesA n) by (simp [usesA, *]; done)))) (w_ret (q_block_ret (q_then_ret fp)))))
 try simp only [sB] at c5
 refine sr (xp hnt 2 [.o 2] [] [(11,pB (decide (n = 5)))] (re (w_if rfl (fun c6 => ?_) (fun c6 => ?_))))
 ·try simp only [sB] at c6
  exact sr (ae hnt rfl rfl (w_le (s := 2) (y := pT (usesA n)) rfl (le_of_eq (congrArg (fun z : List UInt8 => pT z) (show ([97,98] : List UInt8) = (usesA n) by (simp [usesA, *]; done)))) (w_ret (q_block_ret (q_then_ret fp)))))
 try simp only [sB] at c6
 refine sr (xp hnt 2 [.o 2] [] [(13,pB (decide (n = 6)))] (re (w_if rfl (fun c7 => ?_) (fun c7 => ?_))))
 ·try simp only [sB] at c7
  exact sr (ae hnt rfl rfl (w_le (s := 2) (y := pT (usesA n)) rfl (le_of_eq (congrArg (fun z : List UInt8 => pT z) (show ([97,118] : List UInt8) = (usesA n) by (simp [usesA, *]; done)))) (w_ret (q_block_ret (q_then_ret fp)))))
 try simp only [sB] at c7
 refine sr (xp hnt 2 [.o 2] [] [(15,pB (decide (n = 8)))] (re (w_if rfl (fun c8 => ?_) (fun c8 => ?_))))
 ·try simp only [sB] at c8
  exact sr (ae hnt rfl rfl (w_le (s := 2) (y := pT (usesA n)) rfl (le_of_eq (congrArg (fun z : List UInt8 => pT z) (show ([115,118] : List UInt8) = (usesA n) by (simp [usesA, *]; done)))) (w_ret (q_block_ret (q_then_ret fp)))))
 try simp only [sB] at c8
 refine w_seq (sr (xp hnt 2 [.o 2] [] [(17,pB (decide (n = 15)))] (re (w_if rfl (fun c9 => ?_) (fun c9 => ?_)))))
 ·have c9_ := c9
  try simp only [sB] at c9
  refine w_skip (q_then (w_if rfl (fun _ => ?_) (fun e => absurd (e.symm.trans c9_) (by decide))))
  exact sr (ae hnt rfl rfl (w_le (s := 2) (y := pT (usesA n)) rfl (le_of_eq (congrArg (fun z : List UInt8 => pT z) (show ([97,99] : List UInt8) = (usesA n) by (simp [usesA, *]; done)))) (w_ret (q_block_ret (q_then_ret fp)))))
 have c9_ := c9
 try simp only [sB] at c9
 refine w_R (qo hnt rfl (s_eql rfl rfl ?_))
 refine ae hnt rfl rfl (w_if rfl (fun c10 => ?_) (fun c10 => ?_))
 ·try simp only [sB] at c10
  exact sr (ae hnt rfl rfl (w_le (s := 2) (y := pT (usesA n)) rfl (le_of_eq (congrArg (fun z : List UInt8 => pT z) (show ([97,99] : List UInt8) = (usesA n) by (simp [usesA, *]; done)))) (w_ret (q_block_ret (q_then_ret fp)))))
 try simp only [sB] at c10
 refine sr (xp hnt 2 [.o 2] [] [(20,pB (decide (n = 17)))] (re (w_if rfl (fun c11 => ?_) (fun c11 => ?_))))
 ·try simp only [sB] at c11
  exact sr (ae hnt rfl rfl (w_le (s := 2) (y := pT (usesA n)) rfl (le_of_eq (congrArg (fun z : List UInt8 => pT z) (show ([100] : List UInt8) = (usesA n) by (simp [usesA, *]; done)))) (w_ret (q_block_ret (q_then_ret fp)))))
 try simp only [sB] at c11
 exact w_skip (q_block (q_then (sr (ae hnt rfl rfl (w_le (s := 2) (y := pT (usesA n)) rfl (le_of_eq (congrArg (fun z : List UInt8 => pT z) (show ([97,109] : List UInt8) = (usesA n) by (simp [usesA, *]; done)))) (w_ret fp))))))
theorem w_reply_Right (r : TReply) (hr : r.bits.length ≤ 140737488351232 ∧ r.vals.length ≤ 140737488351232 ∧ r.data.length ≤ 140737488351232) :
    T Try.prog 50 [PV.f (eReply r)] 0 [] (Ret (pI (goodR r)) 0 []) := by
 refine t_fun tabOk (n := 110) (rs := [.tmp 2]) Try.func50 rfl rfl rfl rfl (nb rfl) ?_
 intro c hnt hk
 refine sr (qo hnt rfl (s_box rfl rfl ?_))
 refine qa hnt rfl rfl (r_set [(1,PV.ptr 0 0)] [(0,.obj (cReply r))] 1 ⟨rfl,trivial⟩ rfl rfl (re (w_seq (sr (xp hnt 3 [.o 3] [] [(7,pB (!decide (r.code = 0)))] ?_)))))
 refine re (w_if rfl (fun c1 => ?_) (fun c1 => ?_))
 ·have c1_ := c1
  try simp only [sB] at c1
  refine w_seq (sr (xp hnt 28 [.o 4,.b 3 [.o 3],.o 1,.b 3 [.o 3],.o 1,.b 3 [.o 3],.o 1,.b 8 [.o 6,.c (pB (decide (r = (⟨r.fn,r.code,0,0,0,[],[],0,0,[]⟩ : TReply)))),.o 1]] [((((decide (r.code < 0)) || (decide (255 < r.code))) || (decide (r.fn < 0))) || (decide (127 < r.fn))) = false → AllP [T Try.prog 68 [PV.f (eReply r),PV.f (.agg [encI r.fn,encI r.code,encI 0,encI 0,encI 0,FV.v (.slice none 0 0),FV.v (.slice none 0 0),enc16 0,enc16 0,FV.v (.slice none 0 0)])] 0 [] (Ret (pB (decide (r = (⟨r.fn,r.code,0,0,0,[],[],0,0,[]⟩ : TReply)))) 0 [])]] [(35,pB (((((decide (r.code < 0)) || (decide (255 < r.code))) || (decide (r.fn < 0))) || (decide (127 < r.fn))) || (!(decide (r = (⟨r.fn,r.code,0,0,0,[],[],0,0,[]⟩ : TReply))))))] ?_ (hc := ⟨by intro hq; (try simp only [sB] at hq); exact ⟨(T.leL (args := [PV.f (eReply r),PV.f (.agg [encI r.fn,encI r.code,encI 0,encI 0,encI 0,FV.v (.slice none 0 0),FV.v (.slice none 0 0),enc16 0,enc16 0,FV.v (.slice none 0 0)])]) (args' := [PV.f (eReply r),PV.f (eReply (⟨r.fn,r.code,0,0,0,[],[],0,0,[]⟩ : TReply))]) ⟨le_refl _,⟨le_F (FLe.agg ⟨FLe.refl _,FLe.refl _,FLe.refl _,FLe.refl _,FLe.refl _,FLe.nil 1 false,FLe.nil 1 false,FLe.refl _,FLe.refl _,FLe.nil 1 false,trivial⟩),trivial⟩⟩ (w_reply_Same r (⟨r.fn,r.code,0,0,0,[],[],0,0,[]⟩ : TReply) (by omega))),trivial⟩,trivial⟩)))
  refine re (w_if rfl (fun c2 => ?_) (fun c2 => ?_))
  ·have c2_ := c2
   try simp only [sB] at c2
   exact sr (ae hnt rfl rfl (w_le (s := 2) (y := pI (goodR r)) rfl (le_of_eq (congrArg pI (show 12 = (goodR r) by exact (goodC_1 (lo := 0) (.inl rfl) c1_ c2_).symm))) (w_ret (q_then_ret (q_then_ret fp)))))
  have c2_ := c2
  try simp only [sB] at c2
  exact w_skip (q_then (sr (ae hnt rfl rfl (w_le (s := 2) (y := pI (goodR r)) rfl (le_of_eq (congrArg pI (show 0 = (goodR r) by exact (goodC_2 (lo := 0) (.inl rfl) c1_ c2_).symm))) (w_ret (q_then_ret fp))))))
 have c1_ := c1
 try simp only [sB] at c1
 refine w_skip (q_then (sr (xp hnt 1 [.o 1] [] [(37,PV.f (eReply r))] (qo hnt rfl (s_callF rfl rfl rfl (w_reply_has r (by omega)) rfl ?_)))))
 refine xm hnt 6 [.o 6] [] [(3,PV.ptr 1 0),(4,pB (hasF r.fn))] 2 [(1,.obj (cReply (hasA r))),(0,.obj (cReply r))] (re (w_seq (w_block (sr (xp hnt 3 [.o 3] [] [(41,pB (!(hasF r.fn)))] ?_)))))
 refine re (w_if rfl (fun c3 => ?_) (fun c3 => ?_))
 ·have c3_ := c3
  try simp only [sB] at c3
  exact sr (ae hnt rfl rfl (w_le (s := 2) (y := pI (goodR r)) rfl (le_of_eq (congrArg pI (show 15 = (goodR r) by exact (goodP_3 c1_ c3_).symm))) (w_ret (q_block_ret (q_then_ret fp)))))
 have c3_ := c3
 try simp only [sB] at c3
 refine sr (xp hnt 2 [.o 2] [] [(45,PV.f (eReply r)),(46,PV.f (eReply (hasA r)))] (qo hnt rfl (s_callF rfl rfl rfl (w_reply_Same r (hasA r) (by omega)) rfl ?_)))
 refine xp hnt 20 [.o 2,.b 4 [.o 2,.c (pB (wordOk r.at_)),.o 1],.o 1,.b 4 [.o 2,.c (pB (wordOk r.sub)),.o 1],.o 1,.b 4 [.o 2,.c (pB (wordOk r.count)),.o 1],.o 1] [(!(decide (r = (hasA r)))) = false → AllP [T Try.prog 70 [pI r.at_] 0 [] (Ret (pB (wordOk r.at_)) 0 [])],((!(decide (r = (hasA r)))) || (!(wordOk r.at_))) = false → AllP [T Try.prog 70 [pI r.sub] 0 [] (Ret (pB (wordOk r.sub)) 0 [])],(((!(decide (r = (hasA r)))) || (!(wordOk r.at_))) || (!(wordOk r.sub))) = false → AllP [T Try.prog 70 [pI r.count] 0 [] (Ret (pB (wordOk r.count)) 0 [])]] [(44,pB ((((!(decide (r = (hasA r)))) || (!(wordOk r.at_))) || (!(wordOk r.sub))) || (!(wordOk r.count))))] ?_ (hc := ⟨by intro hq; (try simp only [sB] at hq); exact ⟨(w_reply_within r.at_),trivial⟩,by intro hq; (try simp only [sB] at hq); exact ⟨(w_reply_within r.sub),trivial⟩,by intro hq; (try simp only [sB] at hq); exact ⟨(w_reply_within r.count),trivial⟩,trivial⟩)
 refine re (w_if rfl (fun c4 => ?_) (fun c4 => ?_))
 ·have c4_ := c4
  try simp only [sB] at c4
  exact sr (ae hnt rfl rfl (w_le (s := 2) (y := pI (goodR r)) rfl (le_of_eq (congrArg pI (show 12 = (goodR r) by exact (goodP_4 c1_ c3_ c4_).symm))) (w_ret (q_block_ret (q_then_ret fp)))))
 have c4_ := c4
 try simp only [sB] at c4
 refine sr (xp hnt 10 [.o 4,.b 4 [.o 2,.c (pN r.bits.length),.o 1],.o 1] [(decide (r.fn = 5)) = true → AllP [lenC encBo r.bits]] [(77,pB ((decide (r.fn = 5)) && (!decide (((r.bits.length : Nat) : Int) = 1))))] ?_ (hc := ⟨by intro hq; (try simp only [sB] at hq); exact ⟨lenC_ok _ _,trivial⟩,trivial⟩))
 refine r_cut0 15 [(1,PV.ptr 0 0),(92,pB (((decide (r.fn = 5)) && (!decide (((r.bits.length : Nat) : Int) = 1))) || (((decide (r.fn = 6)) || (decide (r.fn = 8))) && (!decide (((r.vals.length : Nat) : Int) = 1)))))] ?_ ?_
 ·refine r_if tabOk hnt rfl rfl rfl (fun g9 => ?_) (fun g9 => ?_)
  ·have g9' := g9
   try simp only [sB] at g9'
   refine qo hnt rfl (s_fa_ptr tab_62 rfl rfl tab_3 (by decide) rfl ?_)
   refine ry hnt rfl rfl rfl g9 (qo hnt rfl (s_load_ptr1 tab_3 rfl rfl rfl rfl rfl ?_))
   refine ry hnt rfl rfl rfl g9 (qo hnt rfl (s_eql rfl rfl ?_))
   refine ry hnt rfl rfl rfl g9 (qm hnt rfl rfl (r_cut0 4 [(1,PV.ptr 0 0),(77,pB ((decide (r.fn = 5)) && (!decide (((r.bits.length : Nat) : Int) = 1)))),(85,pB ((decide (r.fn = 6)) || (decide (r.fn = 8))))] ?_ ?_))
   ·refine r_if tabOk hnt rfl rfl rfl (fun g10 => ?_) (fun g10 => ?_)
    ·have g10' := g10
     try simp only [sB] at g10'
     refine qo hnt rfl (s_fa_ptr tab_62 rfl rfl tab_3 (by decide) rfl ?_)
     refine ry hnt rfl rfl rfl g10 (qo hnt rfl (s_load_ptr1 tab_3 rfl rfl rfl rfl rfl ?_))
     refine ry hnt rfl rfl rfl g10 (qo hnt rfl (s_eql rfl rfl ?_))
     refine ry hnt rfl rfl rfl g9 (qo hnt rfl (s_pick_f rfl g10 rfl ?_))
     refine r_eq (s := 85) (y := pB ((decide (r.fn = 6)) || (decide (r.fn = 8)))) rfl (mix_of g10) ?_
     exact r_mid ⟨⟨rfl,rfl,rfl,trivial⟩,rfl,rfl⟩
    ·have g10' := g10
     try simp only [sB] at g10'
     refine rn hnt rfl rfl rfl g10 (rn hnt rfl rfl rfl g10 (ry hnt rfl rfl rfl g9 (qo hnt rfl (s_pick_t rfl g10 rfl ?_))))
     refine r_eq (s := 85) (y := pB ((decide (r.fn = 6)) || (decide (r.fn = 8)))) rfl (mix_ot _ g10) ?_
     exact r_mid ⟨⟨rfl,rfl,rfl,trivial⟩,rfl,rfl⟩
   ·refine ry hnt rfl rfl rfl g9 (qm hnt rfl rfl (r_cut0 5 [(1,PV.ptr 0 0),(77,pB ((decide (r.fn = 5)) && (!decide (((r.bits.length : Nat) : Int) = 1)))),(91,pB (((decide (r.fn = 6)) || (decide (r.fn = 8))) && (!decide (((r.vals.length : Nat) : Int) = 1))))] ?_ ?_))
    ·refine r_if tabOk hnt rfl rfl rfl (fun g11 => ?_) (fun g11 => ?_)
     ·have g11' := g11
      try simp only [sB] at g11'
      refine qo hnt rfl (s_fa_ptr tab_62 rfl rfl tab_34 (by decide) rfl ?_)
      refine ry hnt rfl rfl rfl g11 (qo hnt rfl (s_load_ptr1 tab_34 rfl rfl rfl rfl rfl ?_))
      refine ry hnt rfl rfl rfl g11 (qo hnt rfl (s_lenM (l := r.vals) tab_34 rfl (hM_sl (f := enc16) rfl) ?_))
      refine ry hnt rfl rfl rfl g11 (qo hnt rfl (s_neq rfl rfl ?_))
      refine ry hnt rfl rfl rfl g9 (qo hnt rfl (s_pick_t rfl g11 rfl ?_))
      refine r_eq (s := 91) (y := pB (((decide (r.fn = 6)) || (decide (r.fn = 8))) && (!decide (((r.vals.length : Nat) : Int) = 1)))) rfl (mix_at g11) ?_
      exact r_mid ⟨⟨rfl,rfl,rfl,trivial⟩,rfl,rfl⟩
     ·have g11' := g11
      try simp only [sB] at g11'
      refine rn hnt rfl rfl rfl g11 (rn hnt rfl rfl rfl g11 (rn hnt rfl rfl rfl g11 (ry hnt rfl rfl rfl g9 (qo hnt rfl (s_pick_f rfl g11 rfl ?_)))))
      refine r_eq (s := 91) (y := pB (((decide (r.fn = 6)) || (decide (r.fn = 8))) && (!decide (((r.vals.length : Nat) : Int) = 1)))) rfl (mix_af _ g11) ?_
      exact r_mid ⟨⟨rfl,rfl,rfl,trivial⟩,rfl,rfl⟩
    ·refine qo hnt rfl (s_pick_f rfl g9 rfl ?_)
     refine r_eq (s := 92) (y := pB (((decide (r.fn = 5)) && (!decide (((r.bits.length : Nat) : Int) = 1))) || (((decide (r.fn = 6)) || (decide (r.fn = 8))) && (!decide (((r.vals.length : Nat) : Int) = 1))))) rfl (mix_of g9) ?_
     exact r_mid ⟨⟨rfl,rfl,trivial⟩,rfl,rfl⟩
  ·have g9' := g9
   try simp only [sB] at g9'
   refine rn hnt rfl rfl rfl g9 (rn hnt rfl rfl rfl g9 (rn hnt rfl rfl rfl g9 (ru hnt rfl rfl rfl (ru hnt rfl rfl rfl (ru hnt rfl rfl rfl (rn hnt rfl rfl rfl g9 (rn hnt rfl rfl rfl g9 (ru hnt rfl rfl rfl (ru hnt rfl rfl rfl ?_)))))))))
   refine ru hnt rfl rfl rfl (ru hnt rfl rfl rfl (rn hnt rfl rfl rfl g9 (qo hnt rfl (s_pick_t rfl g9 rfl ?_))))
   refine r_eq (s := 92) (y := pB (((decide (r.fn = 5)) && (!decide (((r.bits.length : Nat) : Int) = 1))) || (((decide (r.fn = 6)) || (decide (r.fn = 8))) && (!decide (((r.vals.length : Nat) : Int) = 1))))) rfl (mix_ot _ g9) ?_
   exact r_mid ⟨⟨rfl,rfl,trivial⟩,rfl,rfl⟩
 ·refine ae hnt rfl rfl (w_if rfl (fun c5 => ?_) (fun c5 => ?_))
  ·have c5_ := c5
   try simp only [sB] at c5
   exact sr (ae hnt rfl rfl (w_le (s := 2) (y := pI (goodR r)) rfl (le_of_eq (congrArg pI (show 12 = (goodR r) by exact (goodP_5 c1_ c3_ c5_).symm))) (w_ret (q_block_ret (q_then_ret fp)))))
  have c5_ := c5
  try simp only [sB] at c5
  refine sr (xp hnt 17 [.o 2,.c (pN r.bits.length),.o 2,.b 4 [.o 2,.c (pN r.vals.length),.o 1],.o 1,.b 4 [.o 2,.c (pN r.data.length),.o 1],.o 1] [lenC encBo r.bits,(decide (2040 < ((r.bits.length : Nat) : Int))) = false → AllP [lenC enc16 r.vals],((decide (2040 < ((r.bits.length : Nat) : Int))) || (decide (127 < ((r.vals.length : Nat) : Int)))) = false → AllP [lenC enc8 r.data]] [(93,pB (((decide (2040 < ((r.bits.length : Nat) : Int))) || (decide (127 < ((r.vals.length : Nat) : Int)))) || (decide (250 < ((r.data.length : Nat) : Int)))))] ?_ (hc := ⟨lenC_ok _ _,by intro hq; (try simp only [sB] at hq); exact ⟨lenC_ok _ _,trivial⟩,by intro hq; (try simp only [sB] at hq); exact ⟨lenC_ok _ _,trivial⟩,trivial⟩))
  refine re (w_if rfl (fun c6 => ?_) (fun c6 => ?_))
  ·have c6_ := c6
   try simp only [sB] at c6
   exact sr (ae hnt rfl rfl (w_le (s := 2) (y := pI (goodR r)) rfl (le_of_eq (congrArg pI (show 12 = (goodR r) by exact (goodP_6 c1_ c3_ c6_).symm))) (w_ret (q_block_ret (q_then_ret fp)))))
  have c6_ := c6
  try simp only [sB] at c6
  exact w_skip (q_block (q_then (sr (ae hnt rfl rfl (w_le (s := 2) (y := pI (goodR r)) rfl (le_of_eq (congrArg pI (show 0 = (goodR r) by exact (goodP_7 c1_ c3_ c4_ c5_ c6_).symm))) (w_ret fp))))))
theorem w_burgageref3_Good (r : TReply) (hr : r.bits.length ≤ 140737488351232 ∧ r.vals.length ≤ 140737488351232 ∧ r.data.length ≤ 140737488351232) :
    T Try.prog 67 [PV.f (eReply r)] 0 [] (Ret (pI (goodR r)) 0 []) := by
 refine t_fun tabOk (n := 179) (rs := [.tmp 2]) Try.func67 rfl rfl rfl rfl (nb rfl) ?_
 intro c hnt hk
 refine sr (qo hnt rfl (s_box rfl rfl ?_))
 refine qa hnt rfl rfl (r_set [(1,PV.ptr 0 0)] [(0,.obj (cReply r))] 1 ⟨rfl,trivial⟩ rfl rfl (re (w_seq (sr (xp hnt 3 [.o 3] [] [(6,pB (!decide (r.code = 0)))] ?_)))))
 refine re (w_if rfl (fun c1 => ?_) (fun c1 => ?_))
 ·have c1_ := c1
  try simp only [sB] at c1
  refine w_seq (sr (xp hnt 28 [.o 4,.b 3 [.o 3],.o 1,.b 3 [.o 3],.o 1,.b 3 [.o 3],.o 1,.b 8 [.o 6,.c (pB (decide (r = (⟨r.fn,r.code,0,0,0,[],[],0,0,[]⟩ : TReply)))),.o 1]] [((((decide (r.code < 1)) || (decide (255 < r.code))) || (decide (r.fn < 0))) || (decide (127 < r.fn))) = false → AllP [T Try.prog 28 [PV.f (eReply r),PV.f (.agg [encI r.fn,encI r.code,encI 0,encI 0,encI 0,FV.v (.slice none 0 0),FV.v (.slice none 0 0),enc16 0,enc16 0,FV.v (.slice none 0 0)])] 0 [] (Ret (pB (decide (r = (⟨r.fn,r.code,0,0,0,[],[],0,0,[]⟩ : TReply)))) 0 [])]] [(34,pB (((((decide (r.code < 1)) || (decide (255 < r.code))) || (decide (r.fn < 0))) || (decide (127 < r.fn))) || (!(decide (r = (⟨r.fn,r.code,0,0,0,[],[],0,0,[]⟩ : TReply))))))] ?_ (hc := ⟨by intro hq; (try simp only [sB] at hq); exact ⟨(T.leL (args := [PV.f (eReply r),PV.f (.agg [encI r.fn,encI r.code,encI 0,encI 0,encI 0,FV.v (.slice none 0 0),FV.v (.slice none 0 0),enc16 0,enc16 0,FV.v (.slice none 0 0)])]) (args' := [PV.f (eReply r),PV.f (eReply (⟨r.fn,r.code,0,0,0,[],[],0,0,[]⟩ : TReply))]) ⟨le_refl _,⟨le_F (FLe.agg ⟨FLe.refl _,FLe.refl _,FLe.refl _,FLe.refl _,FLe.refl _,FLe.nil 1 false,FLe.nil 1 false,FLe.refl _,FLe.refl _,FLe.nil 1 false,trivial⟩),trivial⟩⟩ (w_burgageref3_Alike r (⟨r.fn,r.code,0,0,0,[],[],0,0,[]⟩ : TReply) (by omega))),trivial⟩,trivial⟩)))
  refine re (w_if rfl (fun c2 => ?_) (fun c2 => ?_))
  ·have c2_ := c2
   try simp only [sB] at c2
   exact sr (ae hnt rfl rfl (w_le (s := 2) (y := pI (goodR r)) rfl (le_of_eq (congrArg pI (show 12 = (goodR r) by exact (goodC_1 (lo := 1) (.inr rfl) c1_ c2_).symm))) (w_ret (q_then_ret (q_then_ret fp)))))
  have c2_ := c2
  try simp only [sB] at c2
  exact w_skip (q_then (sr (ae hnt rfl rfl (w_le (s := 2) (y := pI (goodR r)) rfl (le_of_eq (congrArg pI (show 0 = (goodR r) by exact (goodC_2 (lo := 1) (.inr rfl) c1_ c2_).symm))) (w_ret (q_then_ret fp))))))
 have c1_ := c1
 try simp only [sB] at c1
 refine w_skip (q_then (w_seq (sr (xp hnt 2 [.o 2] [] [(36,pI r.fn)] (qo hnt rfl (s_callF rfl rfl rfl (w_burgageref3_Has r.fn) rfl ?_))))))
 refine qo hnt rfl (s_not rfl ?_)
 refine re (w_if rfl (fun c3 => ?_) (fun c3 => ?_))
 ·have c3_ := c3
  try simp only [sB] at c3
  exact sr (ae hnt rfl rfl (w_le (s := 2) (y := pI (goodR r)) rfl (le_of_eq (congrArg pI (show 15 = (goodR r) by exact (goodP_3 c1_ c3_).symm))) (w_ret (q_then_ret fp))))
 have c3_ := c3
 try simp only [sB] at c3
 refine w_skip (q_then (sr (xp hnt 2 [.o 2] [] [(40,pI r.fn)] (qo hnt rfl (s_callF rfl rfl rfl (w_burgageref3_has r.fn) rfl ?_)))))
 refine ae hnt rfl rfl (w_seq (sr (qm hnt rfl rfl (qo hnt rfl (s_callF rfl rfl rfl (w_burgageref3_in (usesA r.fn) 97 (by have := usesA_len r.fn; omega)) rfl ?_)))))
 refine xp hnt 7 [.o 2,.b 3 [.o 3],.o 1] [] [(50,pB ((!(inS (usesA r.fn) 97)) && (!decide (r.at_ = 0))))] (r_cut0 9 [(1,PV.ptr 0 0),(3,pT (usesA r.fn)),(59,pB (((!(inS (usesA r.fn) 97)) && (!decide (r.at_ = 0))) || ((!(inS (usesA r.fn) 99)) && (!decide (r.count = 0)))))] ?_ ?_)
 ·refine r_if tabOk hnt rfl rfl rfl (fun g6 => ?_) (fun g6 => ?_)
  ·have g6' := g6
   try simp only [sB] at g6'
   refine qm hnt rfl rfl (ry hnt rfl rfl rfl g6 (qo hnt rfl (s_callF rfl rfl rfl (w_burgageref3_in (usesA r.fn) 99 (by have := usesA_len r.fn; omega)) rfl ?_)))
   refine ry hnt rfl rfl rfl g6 (qo hnt rfl (s_not rfl ?_))
   refine ry hnt rfl rfl rfl g6 (qm hnt rfl rfl (r_cut0 4 [(1,PV.ptr 0 0),(3,pT (usesA r.fn)),(50,pB ((!(inS (usesA r.fn) 97)) && (!decide (r.at_ = 0)))),(58,pB ((!(inS (usesA r.fn) 99)) && (!decide (r.count = 0))))] ?_ ?_))
   ·refine r_if tabOk hnt rfl rfl rfl (fun g7 => ?_) (fun g7 => ?_)
    ·have g7' := g7
     try simp only [sB] at g7'
     refine qo hnt rfl (s_fa_ptr tab_62 rfl rfl tab_3 (by decide) rfl ?_)
     refine ry hnt rfl rfl rfl g7 (qo hnt rfl (s_load_ptr1 tab_3 rfl rfl rfl rfl rfl ?_))
     refine ry hnt rfl rfl rfl g7 (qo hnt rfl (s_neq rfl rfl ?_))
     refine ry hnt rfl rfl rfl g6 (qo hnt rfl (s_pick_t rfl g7 rfl ?_))
     refine r_eq (s := 58) (y := pB ((!(inS (usesA r.fn) 99)) && (!decide (r.count = 0)))) rfl (mix_at g7) ?_
     exact r_mid ⟨⟨rfl,rfl,rfl,rfl,trivial⟩,rfl,rfl⟩
    ·have g7' := g7
     try simp only [sB] at g7'
     refine rn hnt rfl rfl rfl g7 (rn hnt rfl rfl rfl g7 (ry hnt rfl rfl rfl g6 (qo hnt rfl (s_pick_f rfl g7 rfl ?_))))
     refine r_eq (s := 58) (y := pB ((!(inS (usesA r.fn) 99)) && (!decide (r.count = 0)))) rfl (mix_af _ g7) ?_
     exact r_mid ⟨⟨rfl,rfl,rfl,rfl,trivial⟩,rfl,rfl⟩
   ·refine qo hnt rfl (s_pick_f rfl g6 rfl ?_)
    refine r_eq (s := 59) (y := pB (((!(inS (usesA r.fn) 97)) && (!decide (r.at_ = 0))) || ((!(inS (usesA r.fn) 99)) && (!decide (r.count = 0))))) rfl (mix_of g6) ?_
    exact r_mid ⟨⟨rfl,rfl,rfl,trivial⟩,rfl,rfl⟩
  ·have g6' := g6
   try simp only [sB] at g6'
   refine rn hnt rfl rfl rfl g6 (rn hnt rfl rfl rfl g6 (rn hnt rfl rfl rfl g6 (ru hnt rfl rfl rfl (ru hnt rfl rfl rfl (ru hnt rfl rfl rfl (rn hnt rfl rfl rfl g6 (qo hnt rfl (s_pick_t rfl g6 rfl ?_))))))))
   refine r_eq (s := 59) (y := pB (((!(inS (usesA r.fn) 97)) && (!decide (r.at_ = 0))) || ((!(inS (usesA r.fn) 99)) && (!decide (r.count = 0))))) rfl (mix_ot _ g6) ?_
   exact r_mid ⟨⟨rfl,rfl,rfl,trivial⟩,rfl,rfl⟩
 ·refine qm hnt rfl rfl (r_cut0 9 [(1,PV.ptr 0 0),(3,pT (usesA r.fn)),(69,pB ((((!(inS (usesA r.fn) 97)) && (!decide (r.at_ = 0))) || ((!(inS (usesA r.fn) 99)) && (!decide (r.count = 0)))) || ((!(inS (usesA r.fn) 115)) && (!decide (r.sub = 0)))))] ?_ ?_)
  ·refine r_if tabOk hnt rfl rfl rfl (fun g8 => ?_) (fun g8 => ?_)
   ·have g8' := g8
    try simp only [sB] at g8'
    refine qm hnt rfl rfl (ry hnt rfl rfl rfl g8 (qo hnt rfl (s_callF rfl rfl rfl (w_burgageref3_in (usesA r.fn) 115 (by have := usesA_len r.fn; omega)) rfl ?_)))
    refine ry hnt rfl rfl rfl g8 (qo hnt rfl (s_not rfl ?_))
    refine ry hnt rfl rfl rfl g8 (qm hnt rfl rfl (r_cut0 4 [(1,PV.ptr 0 0),(3,pT (usesA r.fn)),(60,pB (((!(inS (usesA r.fn) 97)) && (!decide (r.at_ = 0))) || ((!(inS (usesA r.fn) 99)) && (!decide (r.count = 0))))),(68,pB ((!(inS (usesA r.fn) 115)) && (!decide (r.sub = 0))))] ?_ ?_))
    ·refine r_if tabOk hnt rfl rfl rfl (fun g9 => ?_) (fun g9 => ?_)
     ·have g9' := g9
      try simp only [sB] at g9'
      refine qo hnt rfl (s_fa_ptr tab_62 rfl rfl tab_3 (by decide) rfl ?_)
      refine ry hnt rfl rfl rfl g9 (qo hnt rfl (s_load_ptr1 tab_3 rfl rfl rfl rfl rfl ?_))
      refine ry hnt rfl rfl rfl g9 (qo hnt rfl (s_neq rfl rfl ?_))
      refine ry hnt rfl rfl rfl g8 (qo hnt rfl (s_pick_t rfl g9 rfl ?_))
      refine r_eq (s := 68) (y := pB ((!(inS (usesA r.fn) 115)) && (!decide (r.sub = 0)))) rfl (mix_at g9) ?_
      exact r_mid ⟨⟨rfl,rfl,rfl,rfl,trivial⟩,rfl,rfl⟩
     ·have g9' := g9
      try simp only [sB] at g9'
      refine rn hnt rfl rfl rfl g9 (rn hnt rfl rfl rfl g9 (ry hnt rfl rfl rfl g8 (qo hnt rfl (s_pick_f rfl g9 rfl ?_))))
      refine r_eq (s := 68) (y := pB ((!(inS (usesA r.fn) 115)) && (!decide (r.sub = 0)))) rfl (mix_af _ g9) ?_
      exact r_mid ⟨⟨rfl,rfl,rfl,rfl,trivial⟩,rfl,rfl⟩
    ·refine qo hnt rfl (s_pick_f rfl g8 rfl ?_)
     refine r_eq (s := 69) (y := pB ((((!(inS (usesA r.fn) 97)) && (!decide (r.at_ = 0))) || ((!(inS (usesA r.fn) 99)) && (!decide (r.count = 0)))) || ((!(inS (usesA r.fn) 115)) && (!decide (r.sub = 0))))) rfl (mix_of g8) ?_
     exact r_mid ⟨⟨rfl,rfl,rfl,trivial⟩,rfl,rfl⟩
   ·have g8' := g8
    try simp only [sB] at g8'
    refine rn hnt rfl rfl rfl g8 (rn hnt rfl rfl rfl g8 (rn hnt rfl rfl rfl g8 (ru hnt rfl rfl rfl (ru hnt rfl rfl rfl (ru hnt rfl rfl rfl (rn hnt rfl rfl rfl g8 (qo hnt rfl (s_pick_t rfl g8 rfl ?_))))))))
    refine r_eq (s := 69) (y := pB ((((!(inS (usesA r.fn) 97)) && (!decide (r.at_ = 0))) || ((!(inS (usesA r.fn) 99)) && (!decide (r.count = 0)))) || ((!(inS (usesA r.fn) 115)) && (!decide (r.sub = 0))))) rfl (mix_ot _ g8) ?_
    exact r_mid ⟨⟨rfl,rfl,rfl,trivial⟩,rfl,rfl⟩
  ·refine qm hnt rfl rfl (r_cut0 10 [(1,PV.ptr 0 0),(3,pT (usesA r.fn)),(80,pB (((((!(inS (usesA r.fn) 97)) && (!decide (r.at_ = 0))) || ((!(inS (usesA r.fn) 99)) && (!decide (r.count = 0)))) || ((!(inS (usesA r.fn) 115)) && (!decide (r.sub = 0)))) || ((!(inS (usesA r.fn) 98)) && (decide (0 < ((r.bits.length : Nat) : Int))))))] ?_ ?_)
   ·refine r_if tabOk hnt rfl rfl rfl (fun g10 => ?_) (fun g10 => ?_)
    ·have g10' := g10
     try simp only [sB] at g10'
     refine qm hnt rfl rfl (ry hnt rfl rfl rfl g10 (qo hnt rfl (s_callF rfl rfl rfl (w_burgageref3_in (usesA r.fn) 98 (by have := usesA_len r.fn; omega)) rfl ?_)))
     refine ry hnt rfl rfl rfl g10 (qo hnt rfl (s_not rfl ?_))
     refine ry hnt rfl rfl rfl g10 (qm hnt rfl rfl (r_cut0 5 [(1,PV.ptr 0 0),(3,pT (usesA r.fn)),(70,pB ((((!(inS (usesA r.fn) 97)) && (!decide (r.at_ = 0))) || ((!(inS (usesA r.fn) 99)) && (!decide (r.count = 0)))) || ((!(inS (usesA r.fn) 115)) && (!decide (r.sub = 0))))),(79,pB ((!(inS (usesA r.fn) 98)) && (decide (0 < ((r.bits.length : Nat) : Int)))))] ?_ ?_))
     ·refine r_if tabOk hnt rfl rfl rfl (fun g11 => ?_) (fun g11 => ?_)
      ·have g11' := g11
       try simp only [sB] at g11'
       refine qo hnt rfl (s_fa_ptr tab_62 rfl rfl tab_33 (by decide) rfl ?_)
       refine ry hnt rfl rfl rfl g11 (qo hnt rfl (s_load_ptr1 tab_33 rfl rfl rfl rfl rfl ?_))
       refine ry hnt rfl rfl rfl g11 (qo hnt rfl (s_lenM (l := r.bits) tab_33 rfl (hM_sl (f := encBo) rfl) ?_))
       refine ry hnt rfl rfl rfl g11 (qo hnt rfl (s_gtr rfl rfl ?_))
       refine ry hnt rfl rfl rfl g10 (qo hnt rfl (s_pick_t rfl g11 rfl ?_))
       refine r_eq (s := 79) (y := pB ((!(inS (usesA r.fn) 98)) && (decide (0 < ((r.bits.length : Nat) : Int))))) rfl (mix_at g11) ?_
       exact r_mid ⟨⟨rfl,rfl,rfl,rfl,trivial⟩,rfl,rfl⟩
      ·have g11' := g11
       try simp only [sB] at g11'
       refine rn hnt rfl rfl rfl g11 (rn hnt rfl rfl rfl g11 (rn hnt rfl rfl rfl g11 (ry hnt rfl rfl rfl g10 (qo hnt rfl (s_pick_f rfl g11 rfl ?_)))))
       refine r_eq (s := 79) (y := pB ((!(inS (usesA r.fn) 98)) && (decide (0 < ((r.bits.length : Nat) : Int))))) rfl (mix_af _ g11) ?_
       exact r_mid ⟨⟨rfl,rfl,rfl,rfl,trivial⟩,rfl,rfl⟩
     ·refine qo hnt rfl (s_pick_f rfl g10 rfl ?_)
      refine r_eq (s := 80) (y := pB (((((!(inS (usesA r.fn) 97)) && (!decide (r.at_ = 0))) || ((!(inS (usesA r.fn) 99)) && (!decide (r.count = 0)))) || ((!(inS (usesA r.fn) 115)) && (!decide (r.sub = 0)))) || ((!(inS (usesA r.fn) 98)) && (decide (0 < ((r.bits.length : Nat) : Int)))))) rfl (mix_of g10) ?_
      exact r_mid ⟨⟨rfl,rfl,rfl,trivial⟩,rfl,rfl⟩
    ·have g10' := g10
     try simp only [sB] at g10'
     refine rn hnt rfl rfl rfl g10 (rn hnt rfl rfl rfl g10 (rn hnt rfl rfl rfl g10 (ru hnt rfl rfl rfl (ru hnt rfl rfl rfl (ru hnt rfl rfl rfl (ru hnt rfl rfl rfl (rn hnt rfl rfl rfl g10 (qo hnt rfl (s_pick_t rfl g10 rfl ?_)))))))))
     refine r_eq (s := 80) (y := pB (((((!(inS (usesA r.fn) 97)) && (!decide (r.at_ = 0))) || ((!(inS (usesA r.fn) 99)) && (!decide (r.count = 0)))) || ((!(inS (usesA r.fn) 115)) && (!decide (r.sub = 0)))) || ((!(inS (usesA r.fn) 98)) && (decide (0 < ((r.bits.length : Nat) : Int)))))) rfl (mix_ot _ g10) ?_
     exact r_mid ⟨⟨rfl,rfl,rfl,trivial⟩,rfl,rfl⟩
   ·refine qm hnt rfl rfl (r_cut0 10 [(1,PV.ptr 0 0),(3,pT (usesA r.fn)),(91,pB ((((((!(inS (usesA r.fn) 97)) && (!decide (r.at_ = 0))) || ((!(inS (usesA r.fn) 99)) && (!decide (r.count = 0)))) || ((!(inS (usesA r.fn) 115)) && (!decide (r.sub = 0)))) || ((!(inS (usesA r.fn) 98)) && (decide (0 < ((r.bits.length : Nat) : Int))))) || ((!(inS (usesA r.fn) 118)) && (decide (0 < ((r.vals.length : Nat) : Int))))))] ?_ ?_)
    ·refine r_if tabOk hnt rfl rfl rfl (fun g12 => ?_) (fun g12 => ?_)
     ·have g12' := g12
      try simp only [sB] at g12'
      refine qm hnt rfl rfl (ry hnt rfl rfl rfl g12 (qo hnt rfl (s_callF rfl rfl rfl (w_burgageref3_in (usesA r.fn) 118 (by have := usesA_len r.fn; omega)) rfl ?_)))
      refine ry hnt rfl rfl rfl g12 (qo hnt rfl (s_not rfl ?_))
      refine ry hnt rfl rfl rfl g12 (qm hnt rfl rfl (r_cut0 5 [(1,PV.ptr 0 0),(3,pT (usesA r.fn)),(81,pB (((((!(inS (usesA r.fn) 97)) && (!decide (r.at_ = 0))) || ((!(inS (usesA r.fn) 99)) && (!decide (r.count = 0)))) || ((!(inS (usesA r.fn) 115)) && (!decide (r.sub = 0)))) || ((!(inS (usesA r.fn) 98)) && (decide (0 < ((r.bits.length : Nat) : Int)))))),(90,pB ((!(inS (usesA r.fn) 118)) && (decide (0 < ((r.vals.length : Nat) : Int)))))] ?_ ?_))
      ·refine r_if tabOk hnt rfl rfl rfl (fun g13 => ?_) (fun g13 => ?_)
       ·have g13' := g13
        try simp only [sB] at g13'
        refine qo hnt rfl (s_fa_ptr tab_62 rfl rfl tab_34 (by decide) rfl ?_)
        refine ry hnt rfl rfl rfl g13 (qo hnt rfl (s_load_ptr1 tab_34 rfl rfl rfl rfl rfl ?_))
        refine ry hnt rfl rfl rfl g13 (qo hnt rfl (s_lenM (l := r.vals) tab_34 rfl (hM_sl (f := enc16) rfl) ?_))
        refine ry hnt rfl rfl rfl g13 (qo hnt rfl (s_gtr rfl rfl ?_))
        refine ry hnt rfl rfl rfl g12 (qo hnt rfl (s_pick_t rfl g13 rfl ?_))
        refine r_eq (s := 90) (y := pB ((!(inS (usesA r.fn) 118)) && (decide (0 < ((r.vals.length : Nat) : Int))))) rfl (mix_at g13) ?_
        exact r_mid ⟨⟨rfl,rfl,rfl,rfl,trivial⟩,rfl,rfl⟩
       ·have g13' := g13
        try simp only [sB] at g13'
        refine rn hnt rfl rfl rfl g13 (rn hnt rfl rfl rfl g13 (rn hnt rfl rfl rfl g13 (ry hnt rfl rfl rfl g12 (qo hnt rfl (s_pick_f rfl g13 rfl ?_)))))
        refine r_eq (s := 90) (y := pB ((!(inS (usesA r.fn) 118)) && (decide (0 < ((r.vals.length : Nat) : Int))))) rfl (mix_af _ g13) ?_
        exact r_mid ⟨⟨rfl,rfl,rfl,rfl,trivial⟩,rfl,rfl⟩
      ·refine qo hnt rfl (s_pick_f rfl g12 rfl ?_)
       refine r_eq (s := 91) (y := pB ((((((!(inS (usesA r.fn) 97)) && (!decide (r.at_ = 0))) || ((!(inS (usesA r.fn) 99)) && (!decide (r.count = 0)))) || ((!(inS (usesA r.fn) 115)) && (!decide (r.sub = 0)))) || ((!(inS (usesA r.fn) 98)) && (decide (0 < ((r.bits.length : Nat) : Int))))) || ((!(inS (usesA r.fn) 118)) && (decide (0 < ((r.vals.length : Nat) : Int)))))) rfl (mix_of g12) ?_
       exact r_mid ⟨⟨rfl,rfl,rfl,trivial⟩,rfl,rfl⟩
     ·have g12' := g12
      try simp only [sB] at g12'
      refine rn hnt rfl rfl rfl g12 (rn hnt rfl rfl rfl g12 (rn hnt rfl rfl rfl g12 (ru hnt rfl rfl rfl (ru hnt rfl rfl rfl (ru hnt rfl rfl rfl (ru hnt rfl rfl rfl (rn hnt rfl rfl rfl g12 (qo hnt rfl (s_pick_t rfl g12 rfl ?_)))))))))
      refine r_eq (s := 91) (y := pB ((((((!(inS (usesA r.fn) 97)) && (!decide (r.at_ = 0))) || ((!(inS (usesA r.fn) 99)) && (!decide (r.count = 0)))) || ((!(inS (usesA r.fn) 115)) && (!decide (r.sub = 0)))) || ((!(inS (usesA r.fn) 98)) && (decide (0 < ((r.bits.length : Nat) : Int))))) || ((!(inS (usesA r.fn) 118)) && (decide (0 < ((r.vals.length : Nat) : Int)))))) rfl (mix_ot _ g12) ?_
      exact r_mid ⟨⟨rfl,rfl,rfl,trivial⟩,rfl,rfl⟩
    ·refine qm hnt rfl rfl (r_cut0 14 [(1,PV.ptr 0 0),(3,pT (usesA r.fn)),(106,pB (((((((!(inS (usesA r.fn) 97)) && (!decide (r.at_ = 0))) || ((!(inS (usesA r.fn) 99)) && (!decide (r.count = 0)))) || ((!(inS (usesA r.fn) 115)) && (!decide (r.sub = 0)))) || ((!(inS (usesA r.fn) 98)) && (decide (0 < ((r.bits.length : Nat) : Int))))) || ((!(inS (usesA r.fn) 118)) && (decide (0 < ((r.vals.length : Nat) : Int))))) || ((!(inS (usesA r.fn) 109)) && ((!decide (r.and_ = 0)) || (!decide (r.or_ = 0))))))] ?_ ?_)
     ·refine r_if tabOk hnt rfl rfl rfl (fun g14 => ?_) (fun g14 => ?_)
      ·have g14' := g14
       try simp only [sB] at g14'
       refine qm hnt rfl rfl (ry hnt rfl rfl rfl g14 (qo hnt rfl (s_callF rfl rfl rfl (w_burgageref3_in (usesA r.fn) 109 (by have := usesA_len r.fn; omega)) rfl ?_)))
       refine ry hnt rfl rfl rfl g14 (qo hnt rfl (s_not rfl ?_))
       refine ry hnt rfl rfl rfl g14 (qm hnt rfl rfl (r_cut0 9 [(1,PV.ptr 0 0),(3,pT (usesA r.fn)),(92,pB ((((((!(inS (usesA r.fn) 97)) && (!decide (r.at_ = 0))) || ((!(inS (usesA r.fn) 99)) && (!decide (r.count = 0)))) || ((!(inS (usesA r.fn) 115)) && (!decide (r.sub = 0)))) || ((!(inS (usesA r.fn) 98)) && (decide (0 < ((r.bits.length : Nat) : Int))))) || ((!(inS (usesA r.fn) 118)) && (decide (0 < ((r.vals.length : Nat) : Int)))))),(105,pB ((!(inS (usesA r.fn) 109)) && ((!decide (r.and_ = 0)) || (!decide (r.or_ = 0)))))] ?_ ?_))
       ·refine r_if tabOk hnt rfl rfl rfl (fun g15 => ?_) (fun g15 => ?_)
        ·have g15' := g15
         try simp only [sB] at g15'
         refine qo hnt rfl (s_fa_ptr tab_62 rfl rfl tab_35 (by decide) rfl ?_)
         refine ry hnt rfl rfl rfl g15 (qo hnt rfl (s_load_ptr1 tab_35 rfl rfl rfl rfl rfl ?_))
         refine ry hnt rfl rfl rfl g15 (qo hnt rfl (s_neq16 (a := r.and_) (b := 0) rfl rfl ?_))
         refine ry hnt rfl rfl rfl g15 (qm hnt rfl rfl (r_cut0 4 [(1,PV.ptr 0 0),(3,pT (usesA r.fn)),(92,pB ((((((!(inS (usesA r.fn) 97)) && (!decide (r.at_ = 0))) || ((!(inS (usesA r.fn) 99)) && (!decide (r.count = 0)))) || ((!(inS (usesA r.fn) 115)) && (!decide (r.sub = 0)))) || ((!(inS (usesA r.fn) 98)) && (decide (0 < ((r.bits.length : Nat) : Int))))) || ((!(inS (usesA r.fn) 118)) && (decide (0 < ((r.vals.length : Nat) : Int)))))),(96,pB (!(inS (usesA r.fn) 109))),(104,pB ((!decide (r.and_ = 0)) || (!decide (r.or_ = 0))))] ?_ ?_))
         ·refine r_if tabOk hnt rfl rfl rfl (fun g16 => ?_) (fun g16 => ?_)
          ·have g16' := g16
           try simp only [sB] at g16'
           refine qo hnt rfl (s_fa_ptr tab_62 rfl rfl tab_35 (by decide) rfl ?_)
           refine ry hnt rfl rfl rfl g16 (qo hnt rfl (s_load_ptr1 tab_35 rfl rfl rfl rfl rfl ?_))
           refine ry hnt rfl rfl rfl g16 (qo hnt rfl (s_neq16 (a := r.or_) (b := 0) rfl rfl ?_))
           refine ry hnt rfl rfl rfl g15 (qo hnt rfl (s_pick_f rfl g16 rfl ?_))
           refine r_eq (s := 104) (y := pB ((!decide (r.and_ = 0)) || (!decide (r.or_ = 0)))) rfl (mix_of g16) ?_
           exact r_mid ⟨⟨rfl,rfl,rfl,rfl,rfl,trivial⟩,rfl,rfl⟩
          ·have g16' := g16
           try simp only [sB] at g16'
           refine rn hnt rfl rfl rfl g16 (rn hnt rfl rfl rfl g16 (ry hnt rfl rfl rfl g15 (qo hnt rfl (s_pick_t rfl g16 rfl ?_))))
           refine r_eq (s := 104) (y := pB ((!decide (r.and_ = 0)) || (!decide (r.or_ = 0)))) rfl (mix_ot _ g16) ?_
           exact r_mid ⟨⟨rfl,rfl,rfl,rfl,rfl,trivial⟩,rfl,rfl⟩
         ·refine ry hnt rfl rfl rfl g14 (qo hnt rfl (s_pick_t rfl g15 rfl ?_))
          refine r_eq (s := 105) (y := pB ((!(inS (usesA r.fn) 109)) && ((!decide (r.and_ = 0)) || (!decide (r.or_ = 0))))) rfl (mix_at g15) ?_
          exact r_mid ⟨⟨rfl,rfl,rfl,rfl,trivial⟩,rfl,rfl⟩
        ·have g15' := g15
         try simp only [sB] at g15'
         refine rn hnt rfl rfl rfl g15 (rn hnt rfl rfl rfl g15 (rn hnt rfl rfl rfl g15 (ru hnt rfl rfl rfl (ru hnt rfl rfl rfl (ru hnt rfl rfl rfl (rn hnt rfl rfl rfl g15 (ry hnt rfl rfl rfl g14 (qo hnt rfl (s_pick_f rfl g15 rfl ?_)))))))))
         refine r_eq (s := 105) (y := pB ((!(inS (usesA r.fn) 109)) && ((!decide (r.and_ = 0)) || (!decide (r.or_ = 0))))) rfl (mix_af _ g15) ?_
         exact r_mid ⟨⟨rfl,rfl,rfl,rfl,trivial⟩,rfl,rfl⟩
       ·refine qo hnt rfl (s_pick_f rfl g14 rfl ?_)
        refine r_eq (s := 106) (y := pB (((((((!(inS (usesA r.fn) 97)) && (!decide (r.at_ = 0))) || ((!(inS (usesA r.fn) 99)) && (!decide (r.count = 0)))) || ((!(inS (usesA r.fn) 115)) && (!decide (r.sub = 0)))) || ((!(inS (usesA r.fn) 98)) && (decide (0 < ((r.bits.length : Nat) : Int))))) || ((!(inS (usesA r.fn) 118)) && (decide (0 < ((r.vals.length : Nat) : Int))))) || ((!(inS (usesA r.fn) 109)) && ((!decide (r.and_ = 0)) || (!decide (r.or_ = 0)))))) rfl (mix_of g14) ?_
        exact r_mid ⟨⟨rfl,rfl,rfl,trivial⟩,rfl,rfl⟩
      ·have g14' := g14
       try simp only [sB] at g14'
       refine rn hnt rfl rfl rfl g14 (rn hnt rfl rfl rfl g14 (rn hnt rfl rfl rfl g14 (ru hnt rfl rfl rfl (ru hnt rfl rfl rfl (ru hnt rfl rfl rfl (ru hnt rfl rfl rfl (ru hnt rfl rfl rfl (ru hnt rfl rfl rfl (ru hnt rfl rfl rfl ?_)))))))))
       refine ru hnt rfl rfl rfl (rn hnt rfl rfl rfl g14 (qo hnt rfl (s_pick_t rfl g14 rfl ?_)))
       refine r_eq (s := 106) (y := pB (((((((!(inS (usesA r.fn) 97)) && (!decide (r.at_ = 0))) || ((!(inS (usesA r.fn) 99)) && (!decide (r.count = 0)))) || ((!(inS (usesA r.fn) 115)) && (!decide (r.sub = 0)))) || ((!(inS (usesA r.fn) 98)) && (decide (0 < ((r.bits.length : Nat) : Int))))) || ((!(inS (usesA r.fn) 118)) && (decide (0 < ((r.vals.length : Nat) : Int))))) || ((!(inS (usesA r.fn) 109)) && ((!decide (r.and_ = 0)) || (!decide (r.or_ = 0)))))) rfl (mix_ot _ g14) ?_
       exact r_mid ⟨⟨rfl,rfl,rfl,trivial⟩,rfl,rfl⟩
     ·refine qm hnt rfl rfl (r_cut0 10 [(1,PV.ptr 0 0),(117,pB ((((((((!(inS (usesA r.fn) 97)) && (!decide (r.at_ = 0))) || ((!(inS (usesA r.fn) 99)) && (!decide (r.count = 0)))) || ((!(inS (usesA r.fn) 115)) && (!decide (r.sub = 0)))) || ((!(inS (usesA r.fn) 98)) && (decide (0 < ((r.bits.length : Nat) : Int))))) || ((!(inS (usesA r.fn) 118)) && (decide (0 < ((r.vals.length : Nat) : Int))))) || ((!(inS (usesA r.fn) 109)) && ((!decide (r.and_ = 0)) || (!decide (r.or_ = 0))))) || ((!(inS (usesA r.fn) 100)) && (decide (0 < ((r.data.length : Nat) : Int))))))] ?_ ?_)
      ·refine r_if tabOk hnt rfl rfl rfl (fun g17 => ?_) (fun g17 => ?_)
       ·have g17' := g17
        try simp only [sB] at g17'
        refine qm hnt rfl rfl (ry hnt rfl rfl rfl g17 (qo hnt rfl (s_callF rfl rfl rfl (w_burgageref3_in (usesA r.fn) 100 (by have := usesA_len r.fn; omega)) rfl ?_)))
        refine ry hnt rfl rfl rfl g17 (qo hnt rfl (s_not rfl ?_))
        refine ry hnt rfl rfl rfl g17 (qm hnt rfl rfl (r_cut0 5 [(1,PV.ptr 0 0),(107,pB (((((((!(inS (usesA r.fn) 97)) && (!decide (r.at_ = 0))) || ((!(inS (usesA r.fn) 99)) && (!decide (r.count = 0)))) || ((!(inS (usesA r.fn) 115)) && (!decide (r.sub = 0)))) || ((!(inS (usesA r.fn) 98)) && (decide (0 < ((r.bits.length : Nat) : Int))))) || ((!(inS (usesA r.fn) 118)) && (decide (0 < ((r.vals.length : Nat) : Int))))) || ((!(inS (usesA r.fn) 109)) && ((!decide (r.and_ = 0)) || (!decide (r.or_ = 0)))))),(116,pB ((!(inS (usesA r.fn) 100)) && (decide (0 < ((r.data.length : Nat) : Int)))))] ?_ ?_))
        ·refine r_if tabOk hnt rfl rfl rfl (fun g18 => ?_) (fun g18 => ?_)
         ·have g18' := g18
          try simp only [sB] at g18'
          refine qo hnt rfl (s_fa_ptr tab_62 rfl rfl tab_60 (by decide) rfl ?_)
          refine ry hnt rfl rfl rfl g18 (qo hnt rfl (s_load_ptr1 tab_60 rfl rfl rfl rfl rfl ?_))
          refine ry hnt rfl rfl rfl g18 (qo hnt rfl (s_lenM (l := r.data) tab_60 rfl (hM_sl (f := enc8) rfl) ?_))
          refine ry hnt rfl rfl rfl g18 (qo hnt rfl (s_gtr rfl rfl ?_))
          refine ry hnt rfl rfl rfl g17 (qo hnt rfl (s_pick_t rfl g18 rfl ?_))
          refine r_eq (s := 116) (y := pB ((!(inS (usesA r.fn) 100)) && (decide (0 < ((r.data.length : Nat) : Int))))) rfl (mix_at g18) ?_
          exact r_mid ⟨⟨rfl,rfl,rfl,trivial⟩,rfl,rfl⟩
         ·have g18' := g18
          try simp only [sB] at g18'
          refine rn hnt rfl rfl rfl g18 (rn hnt rfl rfl rfl g18 (rn hnt rfl rfl rfl g18 (ry hnt rfl rfl rfl g17 (qo hnt rfl (s_pick_f rfl g18 rfl ?_)))))
          refine r_eq (s := 116) (y := pB ((!(inS (usesA r.fn) 100)) && (decide (0 < ((r.data.length : Nat) : Int))))) rfl (mix_af _ g18) ?_
          exact r_mid ⟨⟨rfl,rfl,rfl,trivial⟩,rfl,rfl⟩
        ·refine qo hnt rfl (s_pick_f rfl g17 rfl ?_)
         refine r_eq (s := 117) (y := pB ((((((((!(inS (usesA r.fn) 97)) && (!decide (r.at_ = 0))) || ((!(inS (usesA r.fn) 99)) && (!decide (r.count = 0)))) || ((!(inS (usesA r.fn) 115)) && (!decide (r.sub = 0)))) || ((!(inS (usesA r.fn) 98)) && (decide (0 < ((r.bits.length : Nat) : Int))))) || ((!(inS (usesA r.fn) 118)) && (decide (0 < ((r.vals.length : Nat) : Int))))) || ((!(inS (usesA r.fn) 109)) && ((!decide (r.and_ = 0)) || (!decide (r.or_ = 0))))) || ((!(inS (usesA r.fn) 100)) && (decide (0 < ((r.data.length : Nat) : Int)))))) rfl (mix_of g17) ?_
         exact r_mid ⟨⟨rfl,rfl,trivial⟩,rfl,rfl⟩
       ·have g17' := g17
        try simp only [sB] at g17'
        refine rn hnt rfl rfl rfl g17 (rn hnt rfl rfl rfl g17 (rn hnt rfl rfl rfl g17 (ru hnt rfl rfl rfl (ru hnt rfl rfl rfl (ru hnt rfl rfl rfl (ru hnt rfl rfl rfl (rn hnt rfl rfl rfl g17 (qo hnt rfl (s_pick_t rfl g17 rfl ?_)))))))))
        refine r_eq (s := 117) (y := pB ((((((((!(inS (usesA r.fn) 97)) && (!decide (r.at_ = 0))) || ((!(inS (usesA r.fn) 99)) && (!decide (r.count = 0)))) || ((!(inS (usesA r.fn) 115)) && (!decide (r.sub = 0)))) || ((!(inS (usesA r.fn) 98)) && (decide (0 < ((r.bits.length : Nat) : Int))))) || ((!(inS (usesA r.fn) 118)) && (decide (0 < ((r.vals.length : Nat) : Int))))) || ((!(inS (usesA r.fn) 109)) && ((!decide (r.and_ = 0)) || (!decide (r.or_ = 0))))) || ((!(inS (usesA r.fn) 100)) && (decide (0 < ((r.data.length : Nat) : Int)))))) rfl (mix_ot _ g17) ?_
        exact r_mid ⟨⟨rfl,rfl,trivial⟩,rfl,rfl⟩
      ·refine re (w_if rfl (fun c4 => ?_) (fun c4 => ?_))
       ·have c4_ := c4
        try simp only [sB] at c4
        exact sr (ae hnt rfl rfl (w_le (s := 2) (y := pI (goodR r)) rfl (le_of_eq (congrArg pI (show 12 = (goodR r) by exact (goodQ_2 c1_ c3_ c4_).symm))) (w_ret (q_then_ret fp))))
       have c4_ := c4
       try simp only [sB] at c4
       refine w_skip (q_then (w_seq (sr (xp hnt 2 [.o 2] [] [(119,pI r.at_)] (qo hnt rfl (s_callF rfl rfl rfl (w_burgageref3_word r.at_) rfl ?_))))))
       refine xp hnt 14 [.o 2,.b 4 [.o 2,.c (pB (wordOk r.count)),.o 1],.o 1,.b 4 [.o 2,.c (pB (wordOk r.sub)),.o 1],.o 1] [(!(wordOk r.at_)) = false → AllP [T Try.prog 85 [pI r.count] 0 [] (Ret (pB (wordOk r.count)) 0 [])],((!(wordOk r.at_)) || (!(wordOk r.count))) = false → AllP [T Try.prog 85 [pI r.sub] 0 [] (Ret (pB (wordOk r.sub)) 0 [])]] [(134,pB (((!(wordOk r.at_)) || (!(wordOk r.count))) || (!(wordOk r.sub))))] ?_ (hc := ⟨by intro hq; (try simp only [sB] at hq); exact ⟨(w_burgageref3_word r.count),trivial⟩,by intro hq; (try simp only [sB] at hq); exact ⟨(w_burgageref3_word r.sub),trivial⟩,trivial⟩)
       refine r_cut0 10 [(1,PV.ptr 0 0),(144,pB ((((!(wordOk r.at_)) || (!(wordOk r.count))) || (!(wordOk r.sub))) || ((decide (r.fn = 5)) && (!decide (((r.bits.length : Nat) : Int) = 1)))))] ?_ ?_
       ·refine r_if tabOk hnt rfl rfl rfl (fun g21 => ?_) (fun g21 => ?_)
        ·have g21' := g21
         try simp only [sB] at g21'
         refine qo hnt rfl (s_fa_ptr tab_62 rfl rfl tab_3 (by decide) rfl ?_)
         refine ry hnt rfl rfl rfl g21 (qo hnt rfl (s_load_ptr1 tab_3 rfl rfl rfl rfl rfl ?_))
         refine ry hnt rfl rfl rfl g21 (qo hnt rfl (s_eql rfl rfl ?_))
         refine ry hnt rfl rfl rfl g21 (qm hnt rfl rfl (r_cut0 5 [(1,PV.ptr 0 0),(134,pB (((!(wordOk r.at_)) || (!(wordOk r.count))) || (!(wordOk r.sub)))),(143,pB ((decide (r.fn = 5)) && (!decide (((r.bits.length : Nat) : Int) = 1))))] ?_ ?_))
         ·refine r_if tabOk hnt rfl rfl rfl (fun g22 => ?_) (fun g22 => ?_)
          ·have g22' := g22
           try simp only [sB] at g22'
           refine qo hnt rfl (s_fa_ptr tab_62 rfl rfl tab_33 (by decide) rfl ?_)
           refine ry hnt rfl rfl rfl g22 (qo hnt rfl (s_load_ptr1 tab_33 rfl rfl rfl rfl rfl ?_))
           refine ry hnt rfl rfl rfl g22 (qo hnt rfl (s_lenM (l := r.bits) tab_33 rfl (hM_sl (f := encBo) rfl) ?_))
           refine ry hnt rfl rfl rfl g22 (qo hnt rfl (s_neq rfl rfl ?_))
           refine ry hnt rfl rfl rfl g21 (qo hnt rfl (s_pick_t rfl g22 rfl ?_))
           refine r_eq (s := 143) (y := pB ((decide (r.fn = 5)) && (!decide (((r.bits.length : Nat) : Int) = 1)))) rfl (mix_at g22) ?_
           exact r_mid ⟨⟨rfl,rfl,rfl,trivial⟩,rfl,rfl⟩
          ·have g22' := g22
           try simp only [sB] at g22'
           refine rn hnt rfl rfl rfl g22 (rn hnt rfl rfl rfl g22 (rn hnt rfl rfl rfl g22 (ry hnt rfl rfl rfl g21 (qo hnt rfl (s_pick_f rfl g22 rfl ?_)))))
           refine r_eq (s := 143) (y := pB ((decide (r.fn = 5)) && (!decide (((r.bits.length : Nat) : Int) = 1)))) rfl (mix_af _ g22) ?_
           exact r_mid ⟨⟨rfl,rfl,rfl,trivial⟩,rfl,rfl⟩
         ·refine qo hnt rfl (s_pick_f rfl g21 rfl ?_)
          refine r_eq (s := 144) (y := pB ((((!(wordOk r.at_)) || (!(wordOk r.count))) || (!(wordOk r.sub))) || ((decide (r.fn = 5)) && (!decide (((r.bits.length : Nat) : Int) = 1))))) rfl (mix_of g21) ?_
          exact r_mid ⟨⟨rfl,rfl,trivial⟩,rfl,rfl⟩
        ·have g21' := g21
         try simp only [sB] at g21'
         refine rn hnt rfl rfl rfl g21 (rn hnt rfl rfl rfl g21 (rn hnt rfl rfl rfl g21 (ru hnt rfl rfl rfl (ru hnt rfl rfl rfl (ru hnt rfl rfl rfl (ru hnt rfl rfl rfl (rn hnt rfl rfl rfl g21 (qo hnt rfl (s_pick_t rfl g21 rfl ?_)))))))))
         refine r_eq (s := 144) (y := pB ((((!(wordOk r.at_)) || (!(wordOk r.count))) || (!(wordOk r.sub))) || ((decide (r.fn = 5)) && (!decide (((r.bits.length : Nat) : Int) = 1))))) rfl (mix_ot _ g21) ?_
         exact r_mid ⟨⟨rfl,rfl,trivial⟩,rfl,rfl⟩
       ·refine qm hnt rfl rfl (r_cut0 15 [(1,PV.ptr 0 0),(160,pB (((((!(wordOk r.at_)) || (!(wordOk r.count))) || (!(wordOk r.sub))) || ((decide (r.fn = 5)) && (!decide (((r.bits.length : Nat) : Int) = 1)))) || (((decide (r.fn = 6)) || (decide (r.fn = 8))) && (!decide (((r.vals.length : Nat) : Int) = 1)))))] ?_ ?_)
        ·refine r_if tabOk hnt rfl rfl rfl (fun g23 => ?_) (fun g23 => ?_)
         ·have g23' := g23
          try simp only [sB] at g23'
          refine qo hnt rfl (s_fa_ptr tab_62 rfl rfl tab_3 (by decide) rfl ?_)
          refine ry hnt rfl rfl rfl g23 (qo hnt rfl (s_load_ptr1 tab_3 rfl rfl rfl rfl rfl ?_))
          refine ry hnt rfl rfl rfl g23 (qo hnt rfl (s_eql rfl rfl ?_))
          refine ry hnt rfl rfl rfl g23 (qm hnt rfl rfl (r_cut0 4 [(1,PV.ptr 0 0),(145,pB ((((!(wordOk r.at_)) || (!(wordOk r.count))) || (!(wordOk r.sub))) || ((decide (r.fn = 5)) && (!decide (((r.bits.length : Nat) : Int) = 1))))),(153,pB ((decide (r.fn = 6)) || (decide (r.fn = 8))))] ?_ ?_))
          ·refine r_if tabOk hnt rfl rfl rfl (fun g24 => ?_) (fun g24 => ?_)
           ·have g24' := g24
            try simp only [sB] at g24'
            refine qo hnt rfl (s_fa_ptr tab_62 rfl rfl tab_3 (by decide) rfl ?_)
            refine ry hnt rfl rfl rfl g24 (qo hnt rfl (s_load_ptr1 tab_3 rfl rfl rfl rfl rfl ?_))
            refine ry hnt rfl rfl rfl g24 (qo hnt rfl (s_eql rfl rfl ?_))
            refine ry hnt rfl rfl rfl g23 (qo hnt rfl (s_pick_f rfl g24 rfl ?_))
            refine r_eq (s := 153) (y := pB ((decide (r.fn = 6)) || (decide (r.fn = 8)))) rfl (mix_of g24) ?_
            exact r_mid ⟨⟨rfl,rfl,rfl,trivial⟩,rfl,rfl⟩
           ·have g24' := g24
            try simp only [sB] at g24'
            refine rn hnt rfl rfl rfl g24 (rn hnt rfl rfl rfl g24 (ry hnt rfl rfl rfl g23 (qo hnt rfl (s_pick_t rfl g24 rfl ?_))))
            refine r_eq (s := 153) (y := pB ((decide (r.fn = 6)) || (decide (r.fn = 8)))) rfl (mix_ot _ g24) ?_
            exact r_mid ⟨⟨rfl,rfl,rfl,trivial⟩,rfl,rfl⟩
          ·refine ry hnt rfl rfl rfl g23 (qm hnt rfl rfl (r_cut0 5 [(1,PV.ptr 0 0),(145,pB ((((!(wordOk r.at_)) || (!(wordOk r.count))) || (!(wordOk r.sub))) || ((decide (r.fn = 5)) && (!decide (((r.bits.length : Nat) : Int) = 1))))),(159,pB (((decide (r.fn = 6)) || (decide (r.fn = 8))) && (!decide (((r.vals.length : Nat) : Int) = 1))))] ?_ ?_))
           ·refine r_if tabOk hnt rfl rfl rfl (fun g25 => ?_) (fun g25 => ?_)
            ·have g25' := g25
             try simp only [sB] at g25'
             refine qo hnt rfl (s_fa_ptr tab_62 rfl rfl tab_34 (by decide) rfl ?_)
             refine ry hnt rfl rfl rfl g25 (qo hnt rfl (s_load_ptr1 tab_34 rfl rfl rfl rfl rfl ?_))
             refine ry hnt rfl rfl rfl g25 (qo hnt rfl (s_lenM (l := r.vals) tab_34 rfl (hM_sl (f := enc16) rfl) ?_))
             refine ry hnt rfl rfl rfl g25 (qo hnt rfl (s_neq rfl rfl ?_))
             refine ry hnt rfl rfl rfl g23 (qo hnt rfl (s_pick_t rfl g25 rfl ?_))
             refine r_eq (s := 159) (y := pB (((decide (r.fn = 6)) || (decide (r.fn = 8))) && (!decide (((r.vals.length : Nat) : Int) = 1)))) rfl (mix_at g25) ?_
             exact r_mid ⟨⟨rfl,rfl,rfl,trivial⟩,rfl,rfl⟩
            ·have g25' := g25
             try simp only [sB] at g25'
             refine rn hnt rfl rfl rfl g25 (rn hnt rfl rfl rfl g25 (rn hnt rfl rfl rfl g25 (ry hnt rfl rfl rfl g23 (qo hnt rfl (s_pick_f rfl g25 rfl ?_)))))
             refine r_eq (s := 159) (y := pB (((decide (r.fn = 6)) || (decide (r.fn = 8))) && (!decide (((r.vals.length : Nat) : Int) = 1)))) rfl (mix_af _ g25) ?_
             exact r_mid ⟨⟨rfl,rfl,rfl,trivial⟩,rfl,rfl⟩
           ·refine qo hnt rfl (s_pick_f rfl g23 rfl ?_)
            refine r_eq (s := 160) (y := pB (((((!(wordOk r.at_)) || (!(wordOk r.count))) || (!(wordOk r.sub))) || ((decide (r.fn = 5)) && (!decide (((r.bits.length : Nat) : Int) = 1)))) || (((decide (r.fn = 6)) || (decide (r.fn = 8))) && (!decide (((r.vals.length : Nat) : Int) = 1))))) rfl (mix_of g23) ?_
            exact r_mid ⟨⟨rfl,rfl,trivial⟩,rfl,rfl⟩
         ·have g23' := g23
          try simp only [sB] at g23'
          refine rn hnt rfl rfl rfl g23 (rn hnt rfl rfl rfl g23 (rn hnt rfl rfl rfl g23 (ru hnt rfl rfl rfl (ru hnt rfl rfl rfl (ru hnt rfl rfl rfl (rn hnt rfl rfl rfl g23 (rn hnt rfl rfl rfl g23 (ru hnt rfl rfl rfl (ru hnt rfl rfl rfl ?_)))))))))
          refine ru hnt rfl rfl rfl (ru hnt rfl rfl rfl (rn hnt rfl rfl rfl g23 (qo hnt rfl (s_pick_t rfl g23 rfl ?_))))
          refine r_eq (s := 160) (y := pB (((((!(wordOk r.at_)) || (!(wordOk r.count))) || (!(wordOk r.sub))) || ((decide (r.fn = 5)) && (!decide (((r.bits.length : Nat) : Int) = 1)))) || (((decide (r.fn = 6)) || (decide (r.fn = 8))) && (!decide (((r.vals.length : Nat) : Int) = 1))))) rfl (mix_ot _ g23) ?_
          exact r_mid ⟨⟨rfl,rfl,trivial⟩,rfl,rfl⟩
        ·refine xp hnt 18 [.o 1,.b 4 [.o 2,.c (pN r.bits.length),.o 1],.o 1,.b 4 [.o 2,.c (pN r.vals.length),.o 1],.o 1,.b 4 [.o 2,.c (pN r.data.length),.o 1]] [(((((!(wordOk r.at_)) || (!(wordOk r.count))) || (!(wordOk r.sub))) || ((decide (r.fn = 5)) && (!decide (((r.bits.length : Nat) : Int) = 1)))) || (((decide (r.fn = 6)) || (decide (r.fn = 8))) && (!decide (((r.vals.length : Nat) : Int) = 1)))) = false → AllP [lenC encBo r.bits],((((((!(wordOk r.at_)) || (!(wordOk r.count))) || (!(wordOk r.sub))) || ((decide (r.fn = 5)) && (!decide (((r.bits.length : Nat) : Int) = 1)))) || (((decide (r.fn = 6)) || (decide (r.fn = 8))) && (!decide (((r.vals.length : Nat) : Int) = 1)))) || (decide (2040 < ((r.bits.length : Nat) : Int)))) = false → AllP [lenC enc16 r.vals],(((((((!(wordOk r.at_)) || (!(wordOk r.count))) || (!(wordOk r.sub))) || ((decide (r.fn = 5)) && (!decide (((r.bits.length : Nat) : Int) = 1)))) || (((decide (r.fn = 6)) || (decide (r.fn = 8))) && (!decide (((r.vals.length : Nat) : Int) = 1)))) || (decide (2040 < ((r.bits.length : Nat) : Int)))) || (decide (127 < ((r.vals.length : Nat) : Int)))) = false → AllP [lenC enc8 r.data]] [(178,pB ((((((((!(wordOk r.at_)) || (!(wordOk r.count))) || (!(wordOk r.sub))) || ((decide (r.fn = 5)) && (!decide (((r.bits.length : Nat) : Int) = 1)))) || (((decide (r.fn = 6)) || (decide (r.fn = 8))) && (!decide (((r.vals.length : Nat) : Int) = 1)))) || (decide (2040 < ((r.bits.length : Nat) : Int)))) || (decide (127 < ((r.vals.length : Nat) : Int)))) || (decide (250 < ((r.data.length : Nat) : Int)))))] ?_ (hc := ⟨by intro hq; (try simp only [sB] at hq); exact ⟨lenC_ok _ _,trivial⟩,by intro hq; (try simp only [sB] at hq); exact ⟨lenC_ok _ _,trivial⟩,by intro hq; (try simp only [sB] at hq); exact ⟨lenC_ok _ _,trivial⟩,trivial⟩)
         refine re (w_if rfl (fun c5 => ?_) (fun c5 => ?_))
         ·have c5_ := c5
          try simp only [sB] at c5
          exact sr (ae hnt rfl rfl (w_le (s := 2) (y := pI (goodR r)) rfl (le_of_eq (congrArg pI (show 12 = (goodR r) by exact (goodQ_3 c1_ c3_ c5_).symm))) (w_ret (q_then_ret fp))))
         have c5_ := c5
         try simp only [sB] at c5
         exact w_skip (q_then (sr (ae hnt rfl rfl (w_le (s := 2) (y := pI (goodR r)) rfl (le_of_eq (congrArg pI (show 0 = (goodR r) by exact (goodQ_4 c1_ c3_ c4_ c5_).symm))) (w_ret fp)))))
theorem tRow_1 {α : Type} (f : Int → α) (n : Int) (L : List Int) (a k : Nat) {os : List α}{ap : Nat} (h : os = (tRow f n L a k).1) (h2 : ap = (tRow f n L a k).2) : os ++ [f (tNext L ap n)] = (tRow f n L a (k + 1)).1 := by subst h; subst h2; rfl
theorem tRow_2 {α : Type} (f : Int → α) (n : Int) (L : List Int) (a k : Nat) {ap : Nat} (h2 : ap = (tRow f n L a k).2) : tStep L ap n = (tRow f n L a (k + 1)).2 := by subst h2; rfl
section
variable {q : TRequest}{what n : Int}
end
section
variable {F : Int}{l : List TWindow}{q : TRequest}
theorem split_code : (splitP F l q).2 = codeP F l q := by
  by_cases h : codeP F l q = 0
  · rw [split_yes h,h]
  · rw [split_no h]
end
section
variable {L : List TPart}{i : Nat}{x : TPart}{d n : Int}
end
section
variable {F : Int}{l : List TWindow}{q : TRequest}
theorem wPart_write (q : TRequest) (p : TPiece) : (wPart q p).write = true := by
  unfold wPart
  repeat' split
  all_goals rfl
theorem mapL_in {s a n : Int}{p : TPiece} (h : p ∈ mapL l s a n) : 1 ≤ p.count ∧ p.count ≤ 65536 ∧ 0 ≤ p.physical ∧ p.physical ≤ 512 ∧ ∃ (j : Nat) (w : TWindow),l[j]? = some w ∧ w.space = s ∧ w.physical ≤ p.physical ∧ p.physical + p.count ≤ w.physical + w.count := by
  have hb := mapL_bd h
  obtain ⟨i,hi⟩ := List.getElem?_of_mem h
  obtain ⟨_,_,_,_,_,w,_,_,m2,m3,m4,m5⟩ := mapL_get hi
  obtain ⟨j,hj⟩ := List.getElem?_of_mem m3
  exact ⟨by omega,by omega,by omega,by omega,j,w,hj,m2,m4,m5⟩
def PIn (l : List TWindow) (x : TPart) : Prop := (x.request.fn = 1 ∨ x.request.fn = 2 ∨ x.request.fn = 3 ∨ x.request.fn = 4 ∨ x.request.fn = 5 ∨ x.request.fn = 6 ∨ x.request.fn = 15 ∨ x.request.fn = 16) ∧ 0 ≤ x.request.count ∧ x.request.count ≤ 65536 ∧ 0 ≤ x.request.at_ ∧ x.request.at_ ≤ 512 ∧
  ∃ (j : Nat) (w : TWindow),l[j]? = some w ∧ w.space = spP x.request.fn ∧ w.physical ≤ x.request.at_ ∧ x.request.at_ + max x.request.count 1 ≤ w.physical + w.count
theorem pin {f at_ n wAt sub : Int} {b v a o wr s}{p : TPiece}{aa nn : Int} (h : p ∈ mapL l s aa nn) (hs : s = spP f) (hf : f = 1 ∨ f = 2 ∨ f = 3 ∨ f = 4 ∨ f = 5 ∨ f = 6 ∨ f = 15 ∨ f = 16) (ha : at_ = p.physical) (hn : n = p.count ∨ n = 0) : PIn l ⟨⟨f,at_,n,wAt,sub,b,v,a,o⟩,wr⟩ := by
  obtain ⟨h1,h2,h3,h4,j,w,hj,m2,m4,m5⟩ := mapL_in h
  refine ⟨hf,by simp only; omega,by simp only; omega,by simp only; omega,by simp only; omega,j,w,hj,by rw [m2,hs],by simp only; omega, ?_⟩
  simp only
  omega
theorem part_in {x : TPart} (h : x ∈ (splitP F l q).1) : PIn l x := by
  by_cases h0 : codeP F l q = 0
  · obtain ⟨hno,hcy,hpy,hle⟩ := codeP_zero h0
    have hfo := hasF_of (counts_has hcy)
    rw [split_yes h0] at h
    simp only at h
    by_cases h22 : q.fn = 22
    · obtain ⟨a,b,c⟩ := pAll_22 (l := l) h22
      obtain ⟨o1,o2,o3,_⟩ := p_one (l := l) (q := q) (by omega) hpy
      rw [a] at o1 o2
      match hm : mapL l 3 q.at_ 1,o1 with
      | [y],_ =>
        have hy : y ∈ mapL l 3 q.at_ 1 := by rw [hm]; exact List.mem_cons_self
        have hyc : y.count = 1 := o2 y (by rw [hm]; rfl)
        rw [parts_22r h22 (x := y) (by rw [b,hm]; rfl)] at h
        simp only [List.mem_cons,List.not_mem_nil,or_false] at h
        rcases h with rfl|rfl
        · exact pin hy (spP_3 (by omega)).symm (by omega) rfl (by omega)
        · exact pin hy (spP_3 (by omega)).symm (by omega) rfl (by omega)
    · rw [parts_no h22] at h
      rcases List.mem_append.1 h with h|h
      · obtain ⟨p,hp,rfl⟩ := List.mem_map.1 h
        by_cases h5 : q.fn = 5
        · rw [(pAll_5 (l := l) (.inl h5)).1] at hp
          rw [wPart_5 h5]
          exact pin hp (by rw [h5]) (by omega) rfl (by omega)
        by_cases h6 : q.fn = 6
        · rw [(pAll_5 (l := l) (.inr h6)).1] at hp
          rw [wPart_6 h6]
          exact pin hp (by rw [h6]) (by omega) rfl (by omega)
        by_cases h15 : q.fn = 15
        · rw [(pAll_15 (l := l) (.inl h15)).1] at hp
          rw [wPart_15 h15]
          exact pin hp (by rw [h15]) (by omega) rfl (by omega)
        by_cases h16 : q.fn = 16
        · rw [(pAll_15 (l := l) (.inr h16)).1] at hp
          rw [wPart_16 h16]
          exact pin hp (by rw [h16]) (by omega) rfl (by omega)
        by_cases h23 : q.fn = 23
        · rw [(pAll_23 (l := l) h23).1] at hp
          rw [wPart_23 h23]
          exact pin hp (spP_3 (by omega)).symm (by omega) rfl (by omega)
        by_cases h1 : q.fn = 1 ∨ q.fn = 2 ∨ q.fn = 3 ∨ q.fn = 4
        · rw [(pAll_r (l := l) h1).1] at hp; cases hp
        · rw [(pAll_0 (l := l) (q := q) (by omega)).1] at hp; cases hp
      · obtain ⟨p,hp,rfl⟩ := List.mem_map.1 h
        by_cases h1 : q.fn = 1 ∨ q.fn = 2 ∨ q.fn = 3 ∨ q.fn = 4
        · rw [(pAll_r (l := l) h1).2.1] at hp
          unfold rPart
          rw [if_neg (by omega)]
          exact pin hp rfl (by omega) rfl (by omega)
        by_cases h23 : q.fn = 23
        · rw [(pAll_23 (l := l) h23).2.1] at hp
          unfold rPart
          rw [if_pos h23]
          exact pin hp (spP_3 (by omega)).symm (by omega) rfl (by omega)
        by_cases h5 : q.fn = 5 ∨ q.fn = 6
        · rw [(pAll_5 (l := l) h5).2.1] at hp; cases hp
        by_cases h15 : q.fn = 15 ∨ q.fn = 16
        · rw [(pAll_15 (l := l) h15).2.1] at hp; cases hp
        · rw [(pAll_0 (l := l) (q := q) (by omega)).2.1] at hp; cases hp
  · rw [split_no h0] at h; cases h
end
def badJ (p : TPart) (r : TReply) : Bool := (!(decide (r.fn = p.request.fn))) || (!(decide (goodR r = 0)))
def bitsJ : List TPart → List TReply → List Bool
  | p :: ps,r :: rs => (if p.write = true then [] else r.bits) ++ bitsJ ps rs
  | _,_ => []
def valsJ : List TPart → List TReply → List UInt16
  | p :: ps,r :: rs => (if p.write = true then [] else r.vals) ++ valsJ ps rs
  | _,_ => []
def anyJ : List TPart → List TReply → Bool
  | p :: ps,r :: rs => badJ p r || anyJ ps rs
  | _,_ => false
def wholeJ (q : TRequest) (B : List Bool) (V : List UInt16) : TReply :=
  if q.fn = 5 then ⟨q.fn,0,q.at_,0,0,q.bits,[],0,0,[]⟩ else if q.fn = 6 then ⟨q.fn,0,q.at_,0,0,[],q.vals,0,0,[]⟩
  else if q.fn = 15 ∨ q.fn = 16 then ⟨q.fn,0,q.at_,q.count,0,[],[],0,0,[]⟩ else if q.fn = 22 then ⟨q.fn,0,q.at_,0,0,[],[],q.and_,q.or_,[]⟩
  else if ((B.length : Nat) : Int) + ((V.length : Nat) : Int) = q.count then ⟨q.fn,0,0,0,0,B,V,0,0,[]⟩ else refuseR q.fn 4
def codeJ (rs : List TReply) : Option TReply := rs.find? fun r => decide (r.code ≠ 0)
def joinV (F : Int) (l : List TWindow) (q : TRequest) (rs : List TReply) : TReply :=
  if codeP F l q ≠ 0 then refuseR q.fn (codeP F l q) else if locP q.fn = true then refuseR q.fn 4
  else match codeJ (rs.take (splitP F l q).1.length) with
    | some r => refuseR q.fn r.code
    | none => if rs.length < (splitP F l q).1.length ∨ anyJ (splitP F l q).1 (rs.take (splitP F l q).1.length) = true then refuseR q.fn 4
      else wholeJ q (bitsJ (splitP F l q).1 (rs.take (splitP F l q).1.length)) (valsJ (splitP F l q).1 (rs.take (splitP F l q).1.length))
section
theorem bitsJ_nil (ps : List TPart) : bitsJ ps [] = [] := by cases ps <;> rfl
theorem valsJ_nil (ps : List TPart) : valsJ ps [] = [] := by cases ps <;> rfl
theorem anyJ_nil (ps : List TPart) : anyJ ps [] = false := by cases ps <;> rfl
theorem bitsJ_snoc : ∀ {ps : List TPart}{rs : List TReply}{i : Nat}{p : TPart}{r : TReply},ps[i]? = some p → rs[i]? = some r → bitsJ ps (rs.take (i + 1)) = bitsJ ps (rs.take i) ++ (if p.write = true then [] else r.bits)
  | a :: ps,b :: rs,0,p,r,h1,h2 => by
    simp only [List.getElem?_cons_zero,Option.some.injEq] at h1 h2
    subst h1; subst h2
    simp [bitsJ]
  | a :: ps,b :: rs,i + 1,p,r,h1,h2 => by
    simp only [List.getElem?_cons_succ] at h1 h2
    simp only [List.take_succ_cons,bitsJ,bitsJ_snoc h1 h2,List.append_assoc]
  | [],_,_,_,_,h1,_ => by simp at h1
  | _,[],_,_,_,_,h2 => by simp at h2
theorem valsJ_snoc : ∀ {ps : List TPart}{rs : List TReply}{i : Nat}{p : TPart}{r : TReply},ps[i]? = some p → rs[i]? = some r → valsJ ps (rs.take (i + 1)) = valsJ ps (rs.take i) ++ (if p.write = true then [] else r.vals)
  | a :: ps,b :: rs,0,p,r,h1,h2 => by
    simp only [List.getElem?_cons_zero,Option.some.injEq] at h1 h2
    subst h1; subst h2
    simp [valsJ]
  | a :: ps,b :: rs,i + 1,p,r,h1,h2 => by
    simp only [List.getElem?_cons_succ] at h1 h2
    simp only [List.take_succ_cons,valsJ,valsJ_snoc h1 h2,List.append_assoc]
  | [],_,_,_,_,h1,_ => by simp at h1
  | _,[],_,_,_,_,h2 => by simp at h2
theorem anyJ_snoc : ∀ {ps : List TPart}{rs : List TReply}{i : Nat}{p : TPart}{r : TReply},ps[i]? = some p → rs[i]? = some r → anyJ ps (rs.take (i + 1)) = (anyJ ps (rs.take i) || badJ p r)
  | a :: ps,b :: rs,0,p,r,h1,h2 => by
    simp only [List.getElem?_cons_zero,Option.some.injEq] at h1 h2
    subst h1; subst h2
    simp [anyJ]
  | a :: ps,b :: rs,i + 1,p,r,h1,h2 => by
    simp only [List.getElem?_cons_succ] at h1 h2
    simp only [List.take_succ_cons,anyJ,anyJ_snoc h1 h2,Bool.or_assoc]
  | [],_,_,_,_,h1,_ => by simp at h1
  | _,[],_,_,_,_,h2 => by simp at h2
theorem anyJ_bad : ∀ {ps : List TPart}{rs : List TReply}{i : Nat}{p : TPart}{r : TReply},ps[i]? = some p → rs[i]? = some r → badJ p r = true → anyJ ps rs = true
  | a :: ps,b :: rs,0,p,r,h1,h2,h => by
    simp only [List.getElem?_cons_zero,Option.some.injEq] at h1 h2
    subst h1; subst h2
    simp [anyJ,h]
  | a :: ps,b :: rs,i + 1,p,r,h1,h2,h => by
    simp only [List.getElem?_cons_succ] at h1 h2
    simp [anyJ,anyJ_bad h1 h2 h]
  | [],_,_,_,_,h1,_,_ => by simp at h1
  | _,[],_,_,_,_,h2,_ => by simp at h2
theorem bits_w : ∀ {ps : List TPart}{rs : List TReply},(∀ p ∈ ps,p.write = true) → bitsJ ps rs = [] ∧ valsJ ps rs = []
  | p :: ps,r :: rs,h => by
    have h1 := h p List.mem_cons_self
    obtain ⟨h2,h3⟩ := bits_w (rs := rs) fun x hx => h x (List.mem_cons_of_mem _ hx)
    simp [bitsJ,valsJ,h1,h2,h3]
  | [],_,_ => ⟨rfl,rfl⟩
  | _ :: _,[],_ => ⟨rfl,rfl⟩
end
section
variable {F : Int}{l : List TWindow}{q : TRequest}{rs : List TReply}
theorem join_code (h : ¬ codeP F l q = 0) : joinV F l q rs = refuseR q.fn (codeP F l q) := by unfold joinV; rw [if_pos h]
theorem join_loc (h : codeP F l q = 0) (h2 : locP q.fn = true) : joinV F l q rs = refuseR q.fn 4 := by unfold joinV; rw [if_neg (by rw [h]; decide),if_pos h2]
theorem join_ref (h : codeP F l q = 0) (h2 : locP q.fn = false) {r : TReply} (h3 : codeJ (rs.take (splitP F l q).1.length) = some r) : joinV F l q rs = refuseR q.fn r.code := by
  unfold joinV; rw [if_neg (by rw [h]; decide),if_neg (by rw [h2]; decide),h3]
theorem join_few (h : codeP F l q = 0) (h2 : locP q.fn = false) (h3 : codeJ (rs.take (splitP F l q).1.length) = none) (h4 : rs.length < (splitP F l q).1.length ∨ anyJ (splitP F l q).1 (rs.take (splitP F l q).1.length) = true) : joinV F l q rs = refuseR q.fn 4 := by
  unfold joinV; rw [if_neg (by rw [h]; decide),if_neg (by rw [h2]; decide),h3]; simp only; rw [if_pos h4]
theorem join_all (h : codeP F l q = 0) (h2 : locP q.fn = false) (h3 : codeJ (rs.take (splitP F l q).1.length) = none) (h4 : ¬ rs.length < (splitP F l q).1.length) (h5 : anyJ (splitP F l q).1 (rs.take (splitP F l q).1.length) = false) :
    joinV F l q rs = wholeJ q (bitsJ (splitP F l q).1 (rs.take (splitP F l q).1.length)) (valsJ (splitP F l q).1 (rs.take (splitP F l q).1.length)) := by
  unfold joinV; rw [if_neg (by rw [h]; decide),if_neg (by rw [h2]; decide),h3]; simp only; rw [if_neg (by rw [h5]; simp; omega)]
end
def nzJ (x : TReply) : Bool := !(decide (x.code = 0))
theorem codeJ_eq (rs : List TReply) : codeJ rs = rs.find? nzJ := by
  unfold codeJ nzJ
  congr 1
  funext x
  simp
theorem nz_some {rs : List TReply} (h : 0 ≤ idxI (rs.findIdx? nzJ)) : ∃ i e,idxI (rs.findIdx? nzJ) = ((i : Nat) : Int) ∧ rs[i]? = some e ∧ codeJ rs = some e := by
  cases hx : rs.findIdx? nzJ with
  | none => rw [hx] at h; simp [idxI] at h
  | some i =>
    obtain ⟨h1,h2,h3⟩ := List.findIdx?_eq_some_iff_getElem.1 hx
    refine ⟨i,rs[i],rfl,by simp [h1], ?_⟩
    rw [codeJ_eq,List.find?_eq_some_iff_getElem]
    exact ⟨h2,i,h1,rfl,fun j hj => by simpa using h3 j hj⟩
theorem nz_none {rs : List TReply} (h : ¬ 0 ≤ idxI (rs.findIdx? nzJ)) : codeJ rs = none := by
  cases hx : rs.findIdx? nzJ with
  | none =>
    rw [codeJ_eq,List.find?_eq_none]
    rw [List.findIdx?_eq_none_iff] at hx
    intro x hm
    simp [hx x hm]
  | some i => rw [hx] at h; simp [idxI] at h
theorem whole_r {q : TRequest}{r : TReply} (hn : ¬ (q.fn = 5 ∨ q.fn = 6 ∨ q.fn = 15 ∨ q.fn = 16 ∨ q.fn = 22)) (hc : ((r.bits.length : Nat) : Int) + ((r.vals.length : Nat) : Int) = q.count) (hz : r = ⟨q.fn,0,0,0,0,r.bits,r.vals,0,0,[]⟩) : wholeJ q r.bits r.vals = r := by
  unfold wholeJ
  rw [if_neg (by omega),if_neg (by omega),if_neg (by omega),if_neg (by omega),if_pos hc]
  exact hz.symm
theorem nz_first {rs : List TReply}{i : Nat}{e : TReply} (ht : ∀ j x,j < i → rs[j]? = some x → nzJ x = false) (he : rs[i]? = some e) (h : nzJ e = true) : codeJ rs = some e := by
  obtain ⟨hi,rfl⟩ := List.getElem?_eq_some_iff.1 he
  rw [codeJ_eq,List.find?_eq_some_iff_getElem]
  exact ⟨h,i,hi,rfl,fun j hj => by rw [ht j _ hj (List.getElem?_eq_getElem (by omega))]; rfl⟩
theorem nz_all {rs : List TReply} (ht : ∀ j x,j < rs.length → rs[j]? = some x → nzJ x = false) : codeJ rs = none := by
  rw [codeJ_eq,List.find?_eq_none]
  intro x hm
  obtain ⟨j,hj⟩ := List.getElem?_of_mem hm
  rw [ht j x (List.getElem?_eq_some_iff.1 hj).1 hj]
  decide
section
variable {F : Int}{l : List TWindow}{q : TRequest}{B : List Bool}{V : List UInt16}
theorem split_w (h : q.fn = 5 ∨ q.fn = 6 ∨ q.fn = 15 ∨ q.fn = 16) : ∀ p ∈ (splitP F l q).1,p.write = true := by
  intro p hp
  by_cases h0 : codeP F l q = 0
  · rw [split_yes h0] at hp
    simp only at hp
    have hr : pR l q = [] := by
      by_cases h5 : q.fn = 5 ∨ q.fn = 6
      · exact (pAll_5 h5).2.1
      · exact (pAll_15 (by omega)).2.1
    rw [parts_no (by omega),hr,List.map_nil,List.append_nil] at hp
    obtain ⟨x,_,rfl⟩ := List.mem_map.1 hp
    exact wPart_write q x
  · rw [split_no h0] at hp; cases hp
theorem whole_5 (h : q.fn = 5) : wholeJ q B V = ⟨q.fn,0,q.at_,0,0,q.bits,[],0,0,[]⟩ := by unfold wholeJ; rw [if_pos h]
theorem whole_6 (h : q.fn = 6) : wholeJ q B V = ⟨q.fn,0,q.at_,0,0,[],q.vals,0,0,[]⟩ := by unfold wholeJ; rw [if_neg (by omega),if_pos h]
theorem whole_15 (h : q.fn = 15 ∨ q.fn = 16) : wholeJ q B V = ⟨q.fn,0,q.at_,q.count,0,[],[],0,0,[]⟩ := by unfold wholeJ; rw [if_neg (by omega),if_neg (by omega),if_pos h]
theorem whole_22 (h : q.fn = 22) : wholeJ q B V = ⟨q.fn,0,q.at_,0,0,[],[],q.and_,q.or_,[]⟩ := by unfold wholeJ; rw [if_neg (by omega),if_neg (by omega),if_neg (by omega),if_pos h]
theorem whole_is (h : ¬ (q.fn = 5 ∨ q.fn = 6 ∨ q.fn = 15 ∨ q.fn = 16 ∨ q.fn = 22)) (hc : ((B.length : Nat) : Int) + ((V.length : Nat) : Int) = q.count) : wholeJ q B V = ⟨q.fn,0,0,0,0,B,V,0,0,[]⟩ := by
  unfold wholeJ; rw [if_neg (by omega),if_neg (by omega),if_neg (by omega),if_neg (by omega),if_pos hc]
theorem whole_no (h : ¬ (q.fn = 5 ∨ q.fn = 6 ∨ q.fn = 15 ∨ q.fn = 16 ∨ q.fn = 22)) (hc : ¬ ((B.length : Nat) : Int) + ((V.length : Nat) : Int) = q.count) : wholeJ q B V = refuseR q.fn 4 := by
  unfold wholeJ; rw [if_neg (by omega),if_neg (by omega),if_neg (by omega),if_neg (by omega),if_neg hc]
end
end Go.Proofs.Ytlcmbkkimgdnmaa
