/- What the law PduTells needs, and no more: merged out of texts of this session by a program of it (wip/tools/prune.py). -/
import Derived.Test.YtigpfkcjpjhflaaQPduTells2
set_option linter.unusedVariables false
set_option linter.unusedSimpArgs false
set_option maxRecDepth 10000
set_option maxHeartbeats 1000000
namespace Go.Proofs.Ytigpfkcjpjhflaa
open Go Go.Proofs.Ytigpfkcjpjhflaa.Pv
theorem w_pdu_within (n : Int)  :
    T Try.prog 44 [pI n] 0 [] (Ret (pB (wordOk n)) 0 []) := by
 refine t_fun tabOk (n := 9) (rs := [.tmp 2]) Try.func44 rfl rfl rfl rfl (Nat.le_of_ble_eq_true rfl) ?_
 intro c hnt hk
 refine w_seq ?_
 refine w_R ?_
 refine qa hnt rfl rfl ?_
 refine r_end ?_
 refine q_then ?_
 refine w_seq ?_
 refine w_R ?_
 refine qm hnt rfl rfl ?_
 refine qo hnt rfl (s_geq rfl rfl ?_)
 refine qm hnt rfl rfl ?_
 refine r_cut0 3 [(2,pB false),(8,pB ((decide (0 ≤ n)) && (decide (n ≤ 65535))))] ?_ ?_
 ·
  refine r_if tabOk hnt rfl rfl rfl (fun g1 => ?_) (fun g1 => ?_)
  ·
   have g1' := g1
   try simp only [sB] at g1'
   refine qm hnt rfl rfl ?_
   refine ry hnt rfl rfl rfl g1 ?_
   refine qo hnt rfl (s_leq rfl rfl ?_)
   refine qo hnt rfl (s_pick_t rfl g1 rfl ?_)
   refine r_eq (s := 8) (y := pB ((decide (0 ≤ n)) && (decide (n ≤ 65535)))) rfl (mix_at g1) ?_
   exact r_mid ⟨⟨rfl,rfl,trivial⟩,rfl,rfl⟩
  ·
   have g1' := g1
   try simp only [sB] at g1'
   refine rn hnt rfl rfl rfl g1 ?_
   refine qo hnt rfl (s_pick_f rfl g1 rfl ?_)
   refine r_eq (s := 8) (y := pB ((decide (0 ≤ n)) && (decide (n ≤ 65535)))) rfl (mix_af _ g1) ?_
   exact r_mid ⟨⟨rfl,rfl,trivial⟩,rfl,rfl⟩
 ·
  refine qa hnt rfl rfl ?_
  refine r_end ?_
  refine q_then ?_
  refine w_le (s := 2) (y := pB (wordOk n)) rfl (le_of_eq (congrArg (fun z : Bool => pB z) (show ((decide (0 ≤ n)) && (decide (n ≤ 65535))) = (wordOk n) by unfold wordOk; apply Bool.eq_iff_iff.2; simp only [Bool.and_eq_true,Bool.or_eq_true,Bool.not_eq_true',decide_eq_true_eq,decide_eq_false_iff_not,u16z]; try omega))) ?_
  refine w_ret ?_
  exact fin_plain (ret_tmp rfl ret_nil) rfl rfl ⟨rfl,rfl,rfl⟩
theorem w_pdu_function (n : Int)  :
    T Try.prog 42 [pI n] 0 [] (Ret (pB (hasF n)) 0 []) := by
 refine t_fun tabOk (n := 17) (rs := [.tmp 2]) Try.func42 rfl rfl rfl rfl (Nat.le_of_ble_eq_true rfl) ?_
 intro c hnt hk
 refine w_seq ?_
 refine w_R ?_
 refine qa hnt rfl rfl ?_
 refine r_end ?_
 refine q_then ?_
 refine w_seq ?_
 refine w_seq ?_
 refine w_R ?_
 refine qm hnt rfl rfl ?_
 refine r_end ?_
 refine q_then ?_
 refine w_block ?_
 refine w_seq ?_
 refine w_seq ?_
 refine w_R ?_
 refine qo hnt rfl (s_eql rfl rfl ?_)
 refine qa hnt rfl rfl ?_
 refine r_end ?_
 refine q_then ?_
 refine w_if rfl (fun c1 => ?_) (fun c1 => ?_)
 ·
  have c1_ := c1
  try simp only [sB] at c1
  refine w_skip ?_
  refine q_then ?_
  refine w_if rfl (fun _ => ?_) (fun e => absurd (e.symm.trans c1_) (by decide))
  refine w_seq ?_
  refine w_R ?_
  refine qa hnt rfl rfl ?_
  refine r_end ?_
  refine q_then ?_
  refine w_le (s := 2) (y := pB (hasF n)) rfl (le_of_eq (congrArg (fun z : Bool => pB z) (show true = (hasF n) by first|exact (decide_eq_true (by omega)).symm|exact (decide_eq_false (by omega)).symm))) ?_
  refine w_ret ?_
  refine q_block_ret ?_
  refine q_then_ret ?_
  exact fin_plain (ret_tmp rfl ret_nil) rfl rfl ⟨rfl,rfl,rfl⟩
 ·
  have c1_ := c1
  try simp only [sB] at c1
  refine w_seq ?_
  refine w_R ?_
  refine qo hnt rfl (s_eql rfl rfl ?_)
  refine qa hnt rfl rfl ?_
  refine r_end ?_
  refine q_then ?_
  refine w_if rfl (fun c2 => ?_) (fun c2 => ?_)
  ·
   have c2_ := c2
   try simp only [sB] at c2
   refine w_skip ?_
   refine q_then ?_
   refine w_if rfl (fun _ => ?_) (fun e => absurd (e.symm.trans c2_) (by decide))
   refine w_seq ?_
   refine w_R ?_
   refine qa hnt rfl rfl ?_
   refine r_end ?_
   refine q_then ?_
   refine w_le (s := 2) (y := pB (hasF n)) rfl (le_of_eq (congrArg (fun z : Bool => pB z) (show true = (hasF n) by first|exact (decide_eq_true (by omega)).symm|exact (decide_eq_false (by omega)).symm))) ?_
   refine w_ret ?_
   refine q_block_ret ?_
   refine q_then_ret ?_
   exact fin_plain (ret_tmp rfl ret_nil) rfl rfl ⟨rfl,rfl,rfl⟩
  ·
   have c2_ := c2
   try simp only [sB] at c2
   refine w_seq ?_
   refine w_R ?_
   refine qo hnt rfl (s_eql rfl rfl ?_)
   refine qa hnt rfl rfl ?_
   refine r_end ?_
   refine q_then ?_
   refine w_if rfl (fun c3 => ?_) (fun c3 => ?_)
   ·
    have c3_ := c3
    try simp only [sB] at c3
    refine w_skip ?_
    refine q_then ?_
    refine w_if rfl (fun _ => ?_) (fun e => absurd (e.symm.trans c3_) (by decide))
    refine w_seq ?_
    refine w_R ?_
    refine qa hnt rfl rfl ?_
    refine r_end ?_
    refine q_then ?_
    refine w_le (s := 2) (y := pB (hasF n)) rfl (le_of_eq (congrArg (fun z : Bool => pB z) (show true = (hasF n) by first|exact (decide_eq_true (by omega)).symm|exact (decide_eq_false (by omega)).symm))) ?_
    refine w_ret ?_
    refine q_block_ret ?_
    refine q_then_ret ?_
    exact fin_plain (ret_tmp rfl ret_nil) rfl rfl ⟨rfl,rfl,rfl⟩
   ·
    have c3_ := c3
    try simp only [sB] at c3
    refine w_seq ?_
    refine w_R ?_
    refine qo hnt rfl (s_eql rfl rfl ?_)
    refine qa hnt rfl rfl ?_
    refine r_end ?_
    refine q_then ?_
    refine w_if rfl (fun c4 => ?_) (fun c4 => ?_)
    ·
     have c4_ := c4
     try simp only [sB] at c4
     refine w_skip ?_
     refine q_then ?_
     refine w_if rfl (fun _ => ?_) (fun e => absurd (e.symm.trans c4_) (by decide))
     refine w_seq ?_
     refine w_R ?_
     refine qa hnt rfl rfl ?_
     refine r_end ?_
     refine q_then ?_
     refine w_le (s := 2) (y := pB (hasF n)) rfl (le_of_eq (congrArg (fun z : Bool => pB z) (show true = (hasF n) by first|exact (decide_eq_true (by omega)).symm|exact (decide_eq_false (by omega)).symm))) ?_
     refine w_ret ?_
     refine q_block_ret ?_
     refine q_then_ret ?_
     exact fin_plain (ret_tmp rfl ret_nil) rfl rfl ⟨rfl,rfl,rfl⟩
    ·
     have c4_ := c4
     try simp only [sB] at c4
     refine w_seq ?_
     refine w_R ?_
     refine qo hnt rfl (s_eql rfl rfl ?_)
     refine qa hnt rfl rfl ?_
     refine r_end ?_
     refine q_then ?_
     refine w_if rfl (fun c5 => ?_) (fun c5 => ?_)
     ·
      have c5_ := c5
      try simp only [sB] at c5
      refine w_skip ?_
      refine q_then ?_
      refine w_if rfl (fun _ => ?_) (fun e => absurd (e.symm.trans c5_) (by decide))
      refine w_seq ?_
      refine w_R ?_
      refine qa hnt rfl rfl ?_
      refine r_end ?_
      refine q_then ?_
      refine w_le (s := 2) (y := pB (hasF n)) rfl (le_of_eq (congrArg (fun z : Bool => pB z) (show true = (hasF n) by first|exact (decide_eq_true (by omega)).symm|exact (decide_eq_false (by omega)).symm))) ?_
      refine w_ret ?_
      refine q_block_ret ?_
      refine q_then_ret ?_
      exact fin_plain (ret_tmp rfl ret_nil) rfl rfl ⟨rfl,rfl,rfl⟩
     ·
      have c5_ := c5
      try simp only [sB] at c5
      refine w_seq ?_
      refine w_R ?_
      refine qo hnt rfl (s_eql rfl rfl ?_)
      refine qa hnt rfl rfl ?_
      refine r_end ?_
      refine q_then ?_
      refine w_if rfl (fun c6 => ?_) (fun c6 => ?_)
      ·
       have c6_ := c6
       try simp only [sB] at c6
       refine w_skip ?_
       refine q_then ?_
       refine w_if rfl (fun _ => ?_) (fun e => absurd (e.symm.trans c6_) (by decide))
       refine w_seq ?_
       refine w_R ?_
       refine qa hnt rfl rfl ?_
       refine r_end ?_
       refine q_then ?_
       refine w_le (s := 2) (y := pB (hasF n)) rfl (le_of_eq (congrArg (fun z : Bool => pB z) (show true = (hasF n) by first|exact (decide_eq_true (by omega)).symm|exact (decide_eq_false (by omega)).symm))) ?_
       refine w_ret ?_
       refine q_block_ret ?_
       refine q_then_ret ?_
       exact fin_plain (ret_tmp rfl ret_nil) rfl rfl ⟨rfl,rfl,rfl⟩
      ·
       have c6_ := c6
       try simp only [sB] at c6
       refine w_seq ?_
       refine w_R ?_
       refine qo hnt rfl (s_eql rfl rfl ?_)
       refine qa hnt rfl rfl ?_
       refine r_end ?_
       refine q_then ?_
       refine w_if rfl (fun c7 => ?_) (fun c7 => ?_)
       ·
        have c7_ := c7
        try simp only [sB] at c7
        refine w_skip ?_
        refine q_then ?_
        refine w_if rfl (fun _ => ?_) (fun e => absurd (e.symm.trans c7_) (by decide))
        refine w_seq ?_
        refine w_R ?_
        refine qa hnt rfl rfl ?_
        refine r_end ?_
        refine q_then ?_
        refine w_le (s := 2) (y := pB (hasF n)) rfl (le_of_eq (congrArg (fun z : Bool => pB z) (show true = (hasF n) by first|exact (decide_eq_true (by omega)).symm|exact (decide_eq_false (by omega)).symm))) ?_
        refine w_ret ?_
        refine q_block_ret ?_
        refine q_then_ret ?_
        exact fin_plain (ret_tmp rfl ret_nil) rfl rfl ⟨rfl,rfl,rfl⟩
       ·
        have c7_ := c7
        try simp only [sB] at c7
        refine w_seq ?_
        refine w_R ?_
        refine qo hnt rfl (s_eql rfl rfl ?_)
        refine qa hnt rfl rfl ?_
        refine r_end ?_
        refine q_then ?_
        refine w_if rfl (fun c8 => ?_) (fun c8 => ?_)
        ·
         have c8_ := c8
         try simp only [sB] at c8
         refine w_skip ?_
         refine q_then ?_
         refine w_if rfl (fun _ => ?_) (fun e => absurd (e.symm.trans c8_) (by decide))
         refine w_seq ?_
         refine w_R ?_
         refine qa hnt rfl rfl ?_
         refine r_end ?_
         refine q_then ?_
         refine w_le (s := 2) (y := pB (hasF n)) rfl (le_of_eq (congrArg (fun z : Bool => pB z) (show true = (hasF n) by first|exact (decide_eq_true (by omega)).symm|exact (decide_eq_false (by omega)).symm))) ?_
         refine w_ret ?_
         refine q_block_ret ?_
         refine q_then_ret ?_
         exact fin_plain (ret_tmp rfl ret_nil) rfl rfl ⟨rfl,rfl,rfl⟩
        ·
         have c8_ := c8
         try simp only [sB] at c8
         refine w_seq ?_
         refine w_R ?_
         refine qo hnt rfl (s_eql rfl rfl ?_)
         refine qa hnt rfl rfl ?_
         refine r_end ?_
         refine q_then ?_
         refine w_if rfl (fun c9 => ?_) (fun c9 => ?_)
         ·
          have c9_ := c9
          try simp only [sB] at c9
          refine w_skip ?_
          refine q_then ?_
          refine w_if rfl (fun _ => ?_) (fun e => absurd (e.symm.trans c9_) (by decide))
          refine w_seq ?_
          refine w_R ?_
          refine qa hnt rfl rfl ?_
          refine r_end ?_
          refine q_then ?_
          refine w_le (s := 2) (y := pB (hasF n)) rfl (le_of_eq (congrArg (fun z : Bool => pB z) (show true = (hasF n) by first|exact (decide_eq_true (by omega)).symm|exact (decide_eq_false (by omega)).symm))) ?_
          refine w_ret ?_
          refine q_block_ret ?_
          refine q_then_ret ?_
          exact fin_plain (ret_tmp rfl ret_nil) rfl rfl ⟨rfl,rfl,rfl⟩
         ·
          have c9_ := c9
          try simp only [sB] at c9
          refine w_seq ?_
          refine w_R ?_
          refine qo hnt rfl (s_eql rfl rfl ?_)
          refine qa hnt rfl rfl ?_
          refine r_end ?_
          refine q_then ?_
          refine w_if rfl (fun c10 => ?_) (fun c10 => ?_)
          ·
           have c10_ := c10
           try simp only [sB] at c10
           refine w_skip ?_
           refine q_then ?_
           refine w_if rfl (fun _ => ?_) (fun e => absurd (e.symm.trans c10_) (by decide))
           refine w_seq ?_
           refine w_R ?_
           refine qa hnt rfl rfl ?_
           refine r_end ?_
           refine q_then ?_
           refine w_le (s := 2) (y := pB (hasF n)) rfl (le_of_eq (congrArg (fun z : Bool => pB z) (show true = (hasF n) by first|exact (decide_eq_true (by omega)).symm|exact (decide_eq_false (by omega)).symm))) ?_
           refine w_ret ?_
           refine q_block_ret ?_
           refine q_then_ret ?_
           exact fin_plain (ret_tmp rfl ret_nil) rfl rfl ⟨rfl,rfl,rfl⟩
          ·
           have c10_ := c10
           try simp only [sB] at c10
           refine w_seq ?_
           refine w_R ?_
           refine qo hnt rfl (s_eql rfl rfl ?_)
           refine qa hnt rfl rfl ?_
           refine r_end ?_
           refine q_then ?_
           refine w_if rfl (fun c11 => ?_) (fun c11 => ?_)
           ·
            have c11_ := c11
            try simp only [sB] at c11
            refine w_skip ?_
            refine q_then ?_
            refine w_if rfl (fun _ => ?_) (fun e => absurd (e.symm.trans c11_) (by decide))
            refine w_seq ?_
            refine w_R ?_
            refine qa hnt rfl rfl ?_
            refine r_end ?_
            refine q_then ?_
            refine w_le (s := 2) (y := pB (hasF n)) rfl (le_of_eq (congrArg (fun z : Bool => pB z) (show true = (hasF n) by first|exact (decide_eq_true (by omega)).symm|exact (decide_eq_false (by omega)).symm))) ?_
            refine w_ret ?_
            refine q_block_ret ?_
            refine q_then_ret ?_
            exact fin_plain (ret_tmp rfl ret_nil) rfl rfl ⟨rfl,rfl,rfl⟩
           ·
            have c11_ := c11
            try simp only [sB] at c11
            refine w_R ?_
            refine qo hnt rfl (s_eql rfl rfl ?_)
            refine qa hnt rfl rfl ?_
            refine r_end ?_
            refine q_then ?_
            refine w_if rfl (fun c12 => ?_) (fun c12 => ?_)
            ·
             have c12_ := c12
             try simp only [sB] at c12
             refine w_seq ?_
             refine w_R ?_
             refine qa hnt rfl rfl ?_
             refine r_end ?_
             refine q_then ?_
             refine w_le (s := 2) (y := pB (hasF n)) rfl (le_of_eq (congrArg (fun z : Bool => pB z) (show true = (hasF n) by first|exact (decide_eq_true (by omega)).symm|exact (decide_eq_false (by omega)).symm))) ?_
             refine w_ret ?_
             refine q_block_ret ?_
             refine q_then_ret ?_
             exact fin_plain (ret_tmp rfl ret_nil) rfl rfl ⟨rfl,rfl,rfl⟩
            ·
             have c12_ := c12
             try simp only [sB] at c12
             refine w_skip ?_
             refine q_block ?_
             refine q_then ?_
             refine w_seq ?_
             refine w_R ?_
             refine qa hnt rfl rfl ?_
             refine r_end ?_
             refine q_then ?_
             refine w_le (s := 2) (y := pB (hasF n)) rfl (le_of_eq (congrArg (fun z : Bool => pB z) (show false = (hasF n) by first|exact (decide_eq_true (by omega)).symm|exact (decide_eq_false (by omega)).symm))) ?_
             refine w_ret ?_
             exact fin_plain (ret_tmp rfl ret_nil) rfl rfl ⟨rfl,rfl,rfl⟩
theorem w_pdu_reads (n : Int)  :
    T Try.prog 69 [pI n] 0 [] (Ret (pB (decide (1 ≤ n ∧ n ≤ 4))) 0 []) := by
 refine t_fun tabOk (n := 9) (rs := [.tmp 2]) Try.func69 rfl rfl rfl rfl (Nat.le_of_ble_eq_true rfl) ?_
 intro c hnt hk
 refine w_seq ?_
 refine w_R ?_
 refine qa hnt rfl rfl ?_
 refine r_end ?_
 refine q_then ?_
 refine w_seq ?_
 refine w_R ?_
 refine qm hnt rfl rfl ?_
 refine qo hnt rfl (s_geq rfl rfl ?_)
 refine qm hnt rfl rfl ?_
 refine r_cut0 3 [(2,pB false),(8,pB ((decide (1 ≤ n)) && (decide (n ≤ 4))))] ?_ ?_
 ·
  refine r_if tabOk hnt rfl rfl rfl (fun g1 => ?_) (fun g1 => ?_)
  ·
   have g1' := g1
   try simp only [sB] at g1'
   refine qm hnt rfl rfl ?_
   refine ry hnt rfl rfl rfl g1 ?_
   refine qo hnt rfl (s_leq rfl rfl ?_)
   refine qo hnt rfl (s_pick_t rfl g1 rfl ?_)
   refine r_eq (s := 8) (y := pB ((decide (1 ≤ n)) && (decide (n ≤ 4)))) rfl (mix_at g1) ?_
   exact r_mid ⟨⟨rfl,rfl,trivial⟩,rfl,rfl⟩
  ·
   have g1' := g1
   try simp only [sB] at g1'
   refine rn hnt rfl rfl rfl g1 ?_
   refine qo hnt rfl (s_pick_f rfl g1 rfl ?_)
   refine r_eq (s := 8) (y := pB ((decide (1 ≤ n)) && (decide (n ≤ 4)))) rfl (mix_af _ g1) ?_
   exact r_mid ⟨⟨rfl,rfl,trivial⟩,rfl,rfl⟩
 ·
  refine qa hnt rfl rfl ?_
  refine r_end ?_
  refine q_then ?_
  refine w_le (s := 2) (y := pB (decide (1 ≤ n ∧ n ≤ 4))) rfl (le_of_eq (congrArg (fun z : Bool => pB z) (show ((decide (1 ≤ n)) && (decide (n ≤ 4))) = (decide (1 ≤ n ∧ n ≤ 4)) by apply Bool.eq_iff_iff.2; simp only [Bool.and_eq_true,Bool.or_eq_true,Bool.not_eq_true',decide_eq_true_eq,decide_eq_false_iff_not,u16z]; try omega))) ?_
  refine w_ret ?_
  exact fin_plain (ret_tmp rfl ret_nil) rfl rfl ⟨rfl,rfl,rfl⟩
theorem w_pdu_bits (r : TRequest) (hb : r.bits.length ≤ 140737488351232) (hv : r.vals.length ≤ 140737488351232) :
    T Try.prog 45 [PV.f (eRequest r)] 0 [] (Ret (pI (bitsN r)) 0 []) := by
 refine t_fun tabOk (n := 11) (rs := [.tmp 2]) Try.func45 rfl rfl rfl rfl (Nat.le_of_ble_eq_true rfl) ?_
 intro c hnt hk
 refine w_seq ?_
 refine w_R ?_
 refine qo hnt rfl (s_box rfl rfl ?_)
 refine qa hnt rfl rfl ?_
 refine r_set [(1,PV.ptr 0 0)] [(0,.obj [pI r.fn,pI r.at_,pI r.count,pI r.wAt,pI r.sub,pS 1 false encBo r.bits,pS 1 false enc16 r.vals,p16 r.and_,p16 r.or_])] 1 ⟨rfl,trivial⟩ rfl rfl ?_
 refine r_end ?_
 refine q_then ?_
 refine w_seq ?_
 refine w_seq ?_
 refine w_R ?_
 refine qo hnt rfl (s_fa_ptr tab_27 rfl rfl tab_3 (by decide) rfl ?_)
 refine qo hnt rfl (s_load_ptr1 tab_3 rfl rfl rfl rfl rfl ?_)
 refine r_end ?_
 refine q_then ?_
 refine w_block ?_
 refine w_seq ?_
 refine w_R ?_
 refine qo hnt rfl (s_eql rfl rfl ?_)
 refine qa hnt rfl rfl ?_
 refine r_end ?_
 refine q_then ?_
 refine w_if rfl (fun c1 => ?_) (fun c1 => ?_)
 ·
  have c1_ := c1
  try simp only [sB] at c1
  refine w_seq ?_
  refine w_R ?_
  refine qa hnt rfl rfl ?_
  refine r_end ?_
  refine q_then ?_
  refine w_le (s := 2) (y := pI (bitsN r)) rfl (le_of_eq (congrArg (fun z : Int => pI z) (show 1 = (bitsN r) by unfold bitsN; (repeat' split) <;> first|rfl|omega))) ?_
  refine w_ret ?_
  refine q_block_ret ?_
  refine q_then_ret ?_
  exact fin_plain (ret_tmp rfl ret_nil) rfl rfl ⟨rfl,rfl,rfl⟩
 ·
  have c1_ := c1
  try simp only [sB] at c1
  refine w_seq ?_
  refine w_R ?_
  refine qo hnt rfl (s_eql rfl rfl ?_)
  refine qa hnt rfl rfl ?_
  refine r_end ?_
  refine q_then ?_
  refine w_if rfl (fun c2 => ?_) (fun c2 => ?_)
  ·
   have c2_ := c2
   try simp only [sB] at c2
   refine w_seq ?_
   refine w_R ?_
   refine qo hnt rfl (s_fa_ptr tab_27 rfl rfl tab_3 (by decide) rfl ?_)
   refine qo hnt rfl (s_load_ptr1 tab_3 rfl rfl rfl rfl rfl ?_)
   refine qa hnt rfl rfl ?_
   refine r_end ?_
   refine q_then ?_
   refine w_le (s := 2) (y := pI (bitsN r)) rfl (le_of_eq (congrArg (fun z : Int => pI z) (show r.count = (bitsN r) by unfold bitsN; (repeat' split) <;> first|rfl|omega))) ?_
   refine w_ret ?_
   refine q_block_ret ?_
   refine q_then_ret ?_
   exact fin_plain (ret_tmp rfl ret_nil) rfl rfl ⟨rfl,rfl,rfl⟩
  ·
   have c2_ := c2
   try simp only [sB] at c2
   refine w_skip ?_
   refine q_block ?_
   refine q_then ?_
   refine w_seq ?_
   refine w_R ?_
   refine qa hnt rfl rfl ?_
   refine r_end ?_
   refine q_then ?_
   refine w_le (s := 2) (y := pI (bitsN r)) rfl (le_of_eq (congrArg (fun z : Int => pI z) (show 0 = (bitsN r) by unfold bitsN; (repeat' split) <;> first|rfl|omega))) ?_
   refine w_ret ?_
   exact fin_plain (ret_tmp rfl ret_nil) rfl rfl ⟨rfl,rfl,rfl⟩
theorem w_pdu_vals (r : TRequest) (hb : r.bits.length ≤ 140737488351232) (hv : r.vals.length ≤ 140737488351232) :
    T Try.prog 46 [PV.f (eRequest r)] 0 [] (Ret (pI (valsN r)) 0 []) := by
 refine t_fun tabOk (n := 17) (rs := [.tmp 2]) Try.func46 rfl rfl rfl rfl (Nat.le_of_ble_eq_true rfl) ?_
 intro c hnt hk
 refine w_seq ?_
 refine w_R ?_
 refine qo hnt rfl (s_box rfl rfl ?_)
 refine qa hnt rfl rfl ?_
 refine r_set [(1,PV.ptr 0 0)] [(0,.obj [pI r.fn,pI r.at_,pI r.count,pI r.wAt,pI r.sub,pS 1 false encBo r.bits,pS 1 false enc16 r.vals,p16 r.and_,p16 r.or_])] 1 ⟨rfl,trivial⟩ rfl rfl ?_
 refine r_end ?_
 refine q_then ?_
 refine w_seq ?_
 refine w_seq ?_
 refine w_R ?_
 refine qo hnt rfl (s_fa_ptr tab_27 rfl rfl tab_3 (by decide) rfl ?_)
 refine qo hnt rfl (s_load_ptr1 tab_3 rfl rfl rfl rfl rfl ?_)
 refine r_end ?_
 refine q_then ?_
 refine w_block ?_
 refine w_seq ?_
 refine w_seq ?_
 refine w_R ?_
 refine qo hnt rfl (s_eql rfl rfl ?_)
 refine qa hnt rfl rfl ?_
 refine r_end ?_
 refine q_then ?_
 refine w_if rfl (fun c1 => ?_) (fun c1 => ?_)
 ·
  have c1_ := c1
  try simp only [sB] at c1
  refine w_skip ?_
  refine q_then ?_
  refine w_if rfl (fun _ => ?_) (fun e => absurd (e.symm.trans c1_) (by decide))
  refine w_seq ?_
  refine w_R ?_
  refine qa hnt rfl rfl ?_
  refine r_end ?_
  refine q_then ?_
  refine w_le (s := 2) (y := pI (valsN r)) rfl (le_of_eq (congrArg (fun z : Int => pI z) (show 1 = (valsN r) by unfold valsN; (repeat' split) <;> first|rfl|omega))) ?_
  refine w_ret ?_
  refine q_block_ret ?_
  refine q_then_ret ?_
  exact fin_plain (ret_tmp rfl ret_nil) rfl rfl ⟨rfl,rfl,rfl⟩
 ·
  have c1_ := c1
  try simp only [sB] at c1
  refine w_R ?_
  refine qo hnt rfl (s_eql rfl rfl ?_)
  refine qa hnt rfl rfl ?_
  refine r_end ?_
  refine q_then ?_
  refine w_if rfl (fun c2 => ?_) (fun c2 => ?_)
  ·
   have c2_ := c2
   try simp only [sB] at c2
   refine w_seq ?_
   refine w_R ?_
   refine qa hnt rfl rfl ?_
   refine r_end ?_
   refine q_then ?_
   refine w_le (s := 2) (y := pI (valsN r)) rfl (le_of_eq (congrArg (fun z : Int => pI z) (show 1 = (valsN r) by unfold valsN; (repeat' split) <;> first|rfl|omega))) ?_
   refine w_ret ?_
   refine q_block_ret ?_
   refine q_then_ret ?_
   exact fin_plain (ret_tmp rfl ret_nil) rfl rfl ⟨rfl,rfl,rfl⟩
  ·
   have c2_ := c2
   try simp only [sB] at c2
   refine w_seq ?_
   refine w_R ?_
   refine qo hnt rfl (s_eql rfl rfl ?_)
   refine qa hnt rfl rfl ?_
   refine r_end ?_
   refine q_then ?_
   refine w_if rfl (fun c3 => ?_) (fun c3 => ?_)
   ·
    have c3_ := c3
    try simp only [sB] at c3
    refine w_seq ?_
    refine w_R ?_
    refine qo hnt rfl (s_fa_ptr tab_27 rfl rfl tab_3 (by decide) rfl ?_)
    refine qo hnt rfl (s_load_ptr1 tab_3 rfl rfl rfl rfl rfl ?_)
    refine qa hnt rfl rfl ?_
    refine r_end ?_
    refine q_then ?_
    refine w_le (s := 2) (y := pI (valsN r)) rfl (le_of_eq (congrArg (fun z : Int => pI z) (show r.count = (valsN r) by unfold valsN; (repeat' split) <;> first|rfl|omega))) ?_
    refine w_ret ?_
    refine q_block_ret ?_
    refine q_then_ret ?_
    exact fin_plain (ret_tmp rfl ret_nil) rfl rfl ⟨rfl,rfl,rfl⟩
   ·
    have c3_ := c3
    try simp only [sB] at c3
    refine w_seq ?_
    refine w_R ?_
    refine qo hnt rfl (s_eql rfl rfl ?_)
    refine qa hnt rfl rfl ?_
    refine r_end ?_
    refine q_then ?_
    refine w_if rfl (fun c4 => ?_) (fun c4 => ?_)
    ·
     have c4_ := c4
     try simp only [sB] at c4
     refine w_seq ?_
     refine w_R ?_
     refine qo hnt rfl (s_fa_ptr tab_27 rfl rfl tab_24 (by decide) rfl ?_)
     refine qo hnt rfl (s_load_ptr1 tab_24 rfl rfl rfl rfl rfl ?_)
     refine qo hnt rfl (s_lenM (l := r.vals) tab_24 rfl (hM_sl (f := enc16) rfl) ?_)
     refine qa hnt rfl rfl ?_
     refine r_end ?_
     refine q_then ?_
     refine w_le (s := 2) (y := pI (valsN r)) rfl (le_of_eq (congrArg (fun z : Int => pI z) (show ((r.vals.length : Nat) : Int) = (valsN r) by unfold valsN; (repeat' split) <;> first|rfl|omega))) ?_
     refine w_ret ?_
     refine q_block_ret ?_
     refine q_then_ret ?_
     exact fin_plain (ret_tmp rfl ret_nil) rfl rfl ⟨rfl,rfl,rfl⟩
    ·
     have c4_ := c4
     try simp only [sB] at c4
     refine w_skip ?_
     refine q_block ?_
     refine q_then ?_
     refine w_seq ?_
     refine w_R ?_
     refine qa hnt rfl rfl ?_
     refine r_end ?_
     refine q_then ?_
     refine w_le (s := 2) (y := pI (valsN r)) rfl (le_of_eq (congrArg (fun z : Int => pI z) (show 0 = (valsN r) by unfold valsN; (repeat' split) <;> first|rfl|omega))) ?_
     refine w_ret ?_
     exact fin_plain (ret_tmp rfl ret_nil) rfl rfl ⟨rfl,rfl,rfl⟩
theorem w_pdu_fields (r : TRequest) (hb : r.bits.length ≤ 140737488351232) (hv : r.vals.length ≤ 140737488351232) :
    T Try.prog 43 [PV.f (eRequest r)] 0 [] (Ret (pB (fieldsP r)) 0 []) := by
 refine t_fun tabOk (n := 82) (rs := [.tmp 2]) Try.func43 rfl rfl rfl rfl (Nat.le_of_ble_eq_true rfl) ?_
 intro c hnt hk
 refine w_seq ?_
 refine w_R ?_
 refine qo hnt rfl (s_box rfl rfl ?_)
 refine qa hnt rfl rfl ?_
 refine r_set [(1,PV.ptr 0 0)] [(0,.obj [pI r.fn,pI r.at_,pI r.count,pI r.wAt,pI r.sub,pS 1 false encBo r.bits,pS 1 false enc16 r.vals,p16 r.and_,p16 r.or_])] 1 ⟨rfl,trivial⟩ rfl rfl ?_
 refine r_end ?_
 refine q_then ?_
 refine w_seq ?_
 refine w_R ?_
 refine qo hnt rfl (s_fa_ptr tab_27 rfl rfl tab_3 (by decide) rfl ?_)
 refine qo hnt rfl (s_load_ptr1 tab_3 rfl rfl rfl rfl rfl ?_)
 refine qo hnt rfl (s_neq rfl rfl ?_)
 refine qm hnt rfl rfl ?_
 refine r_cut0 4 [(1,PV.ptr 0 0),(13,pB ((!decide (r.fn = 8)) && (!decide (r.fn = 17))))] ?_ ?_
 ·
  refine r_if tabOk hnt rfl rfl rfl (fun g1 => ?_) (fun g1 => ?_)
  ·
   have g1' := g1
   try simp only [sB] at g1'
   refine qo hnt rfl (s_fa_ptr tab_27 rfl rfl tab_3 (by decide) rfl ?_)
   refine ry hnt rfl rfl rfl g1 ?_
   refine qo hnt rfl (s_load_ptr1 tab_3 rfl rfl rfl rfl rfl ?_)
   refine ry hnt rfl rfl rfl g1 ?_
   refine qo hnt rfl (s_neq rfl rfl ?_)
   refine qo hnt rfl (s_pick_t rfl g1 rfl ?_)
   refine r_eq (s := 13) (y := pB ((!decide (r.fn = 8)) && (!decide (r.fn = 17)))) rfl (mix_at g1) ?_
   exact r_mid ⟨⟨rfl,rfl,trivial⟩,rfl,rfl⟩
  ·
   have g1' := g1
   try simp only [sB] at g1'
   refine rn hnt rfl rfl rfl g1 ?_
   refine rn hnt rfl rfl rfl g1 ?_
   refine qo hnt rfl (s_pick_f rfl g1 rfl ?_)
   refine r_eq (s := 13) (y := pB ((!decide (r.fn = 8)) && (!decide (r.fn = 17)))) rfl (mix_af _ g1) ?_
   exact r_mid ⟨⟨rfl,rfl,trivial⟩,rfl,rfl⟩
 ·
  refine qa hnt rfl rfl ?_
  refine r_end ?_
  refine q_then ?_
  refine w_seq ?_
  refine w_R ?_
  refine qo hnt rfl (s_fa_ptr tab_27 rfl rfl tab_3 (by decide) rfl ?_)
  refine qo hnt rfl (s_load_ptr1 tab_3 rfl rfl rfl rfl rfl ?_)
  refine qo hnt rfl (s_callF rfl rfl rfl (w_pdu_reads r.fn) rfl ?_)
  refine qm hnt rfl rfl ?_
  refine r_cut0 4 [(1,PV.ptr 0 0),(3,pB ((!decide (r.fn = 8)) && (!decide (r.fn = 17)))),(21,pB ((decide (1 ≤ r.fn ∧ r.fn ≤ 4)) || (decide (r.fn = 15))))] ?_ ?_
  ·
   refine r_if tabOk hnt rfl rfl rfl (fun g2 => ?_) (fun g2 => ?_)
   ·
    have g2' := g2
    try simp only [sB] at g2'
    refine qo hnt rfl (s_fa_ptr tab_27 rfl rfl tab_3 (by decide) rfl ?_)
    refine ry hnt rfl rfl rfl g2 ?_
    refine qo hnt rfl (s_load_ptr1 tab_3 rfl rfl rfl rfl rfl ?_)
    refine ry hnt rfl rfl rfl g2 ?_
    refine qo hnt rfl (s_eql rfl rfl ?_)
    refine qo hnt rfl (s_pick_f rfl g2 rfl ?_)
    refine r_eq (s := 21) (y := pB ((decide (1 ≤ r.fn ∧ r.fn ≤ 4)) || (decide (r.fn = 15)))) rfl (mix_of g2) ?_
    exact r_mid ⟨⟨rfl,rfl,rfl,trivial⟩,rfl,rfl⟩
   ·
    have g2' := g2
    try simp only [sB] at g2'
    refine rn hnt rfl rfl rfl g2 ?_
    refine rn hnt rfl rfl rfl g2 ?_
    refine qo hnt rfl (s_pick_t rfl g2 rfl ?_)
    refine r_eq (s := 21) (y := pB ((decide (1 ≤ r.fn ∧ r.fn ≤ 4)) || (decide (r.fn = 15)))) rfl (mix_ot _ g2) ?_
    exact r_mid ⟨⟨rfl,rfl,rfl,trivial⟩,rfl,rfl⟩
  ·
   refine qm hnt rfl rfl ?_
   refine r_cut0 4 [(1,PV.ptr 0 0),(3,pB ((!decide (r.fn = 8)) && (!decide (r.fn = 17)))),(26,pB (((decide (1 ≤ r.fn ∧ r.fn ≤ 4)) || (decide (r.fn = 15))) || (decide (r.fn = 16))))] ?_ ?_
   ·
    refine r_if tabOk hnt rfl rfl rfl (fun g3 => ?_) (fun g3 => ?_)
    ·
     have g3' := g3
     try simp only [sB] at g3'
     refine qo hnt rfl (s_fa_ptr tab_27 rfl rfl tab_3 (by decide) rfl ?_)
     refine ry hnt rfl rfl rfl g3 ?_
     refine qo hnt rfl (s_load_ptr1 tab_3 rfl rfl rfl rfl rfl ?_)
     refine ry hnt rfl rfl rfl g3 ?_
     refine qo hnt rfl (s_eql rfl rfl ?_)
     refine qo hnt rfl (s_pick_f rfl g3 rfl ?_)
     refine r_eq (s := 26) (y := pB (((decide (1 ≤ r.fn ∧ r.fn ≤ 4)) || (decide (r.fn = 15))) || (decide (r.fn = 16)))) rfl (mix_of g3) ?_
     exact r_mid ⟨⟨rfl,rfl,rfl,trivial⟩,rfl,rfl⟩
    ·
     have g3' := g3
     try simp only [sB] at g3'
     refine rn hnt rfl rfl rfl g3 ?_
     refine rn hnt rfl rfl rfl g3 ?_
     refine qo hnt rfl (s_pick_t rfl g3 rfl ?_)
     refine r_eq (s := 26) (y := pB (((decide (1 ≤ r.fn ∧ r.fn ≤ 4)) || (decide (r.fn = 15))) || (decide (r.fn = 16)))) rfl (mix_ot _ g3) ?_
     exact r_mid ⟨⟨rfl,rfl,rfl,trivial⟩,rfl,rfl⟩
   ·
    refine qm hnt rfl rfl ?_
    refine r_cut0 4 [(1,PV.ptr 0 0),(3,pB ((!decide (r.fn = 8)) && (!decide (r.fn = 17)))),(31,pB ((((decide (1 ≤ r.fn ∧ r.fn ≤ 4)) || (decide (r.fn = 15))) || (decide (r.fn = 16))) || (decide (r.fn = 23))))] ?_ ?_
    ·
     refine r_if tabOk hnt rfl rfl rfl (fun g4 => ?_) (fun g4 => ?_)
     ·
      have g4' := g4
      try simp only [sB] at g4'
      refine qo hnt rfl (s_fa_ptr tab_27 rfl rfl tab_3 (by decide) rfl ?_)
      refine ry hnt rfl rfl rfl g4 ?_
      refine qo hnt rfl (s_load_ptr1 tab_3 rfl rfl rfl rfl rfl ?_)
      refine ry hnt rfl rfl rfl g4 ?_
      refine qo hnt rfl (s_eql rfl rfl ?_)
      refine qo hnt rfl (s_pick_f rfl g4 rfl ?_)
      refine r_eq (s := 31) (y := pB ((((decide (1 ≤ r.fn ∧ r.fn ≤ 4)) || (decide (r.fn = 15))) || (decide (r.fn = 16))) || (decide (r.fn = 23)))) rfl (mix_of g4) ?_
      exact r_mid ⟨⟨rfl,rfl,rfl,trivial⟩,rfl,rfl⟩
     ·
      have g4' := g4
      try simp only [sB] at g4'
      refine rn hnt rfl rfl rfl g4 ?_
      refine rn hnt rfl rfl rfl g4 ?_
      refine qo hnt rfl (s_pick_t rfl g4 rfl ?_)
      refine r_eq (s := 31) (y := pB ((((decide (1 ≤ r.fn ∧ r.fn ≤ 4)) || (decide (r.fn = 15))) || (decide (r.fn = 16))) || (decide (r.fn = 23)))) rfl (mix_ot _ g4) ?_
      exact r_mid ⟨⟨rfl,rfl,rfl,trivial⟩,rfl,rfl⟩
    ·
     refine qa hnt rfl rfl ?_
     refine r_end ?_
     refine q_then ?_
     refine w_seq ?_
     refine w_R ?_
     refine qo hnt rfl (s_fa_ptr tab_27 rfl rfl tab_3 (by decide) rfl ?_)
     refine qo hnt rfl (s_load_ptr1 tab_3 rfl rfl rfl rfl rfl ?_)
     refine qo hnt rfl (s_eql rfl rfl ?_)
     refine qa hnt rfl rfl ?_
     refine r_end ?_
     refine q_then ?_
     refine w_seq ?_
     refine w_R ?_
     refine qm hnt rfl rfl ?_
     refine qm hnt rfl rfl ?_
     refine r_cut0 4 [(1,PV.ptr 0 0),(4,pB ((((decide (1 ≤ r.fn ∧ r.fn ≤ 4)) || (decide (r.fn = 15))) || (decide (r.fn = 16))) || (decide (r.fn = 23)))),(5,pB (decide (r.fn = 22))),(40,pB (((!decide (r.fn = 8)) && (!decide (r.fn = 17))) || (decide (r.at_ = 0))))] ?_ ?_
     ·
      refine r_if tabOk hnt rfl rfl rfl (fun g5 => ?_) (fun g5 => ?_)
      ·
       have g5' := g5
       try simp only [sB] at g5'
       refine qo hnt rfl (s_fa_ptr tab_27 rfl rfl tab_3 (by decide) rfl ?_)
       refine ry hnt rfl rfl rfl g5 ?_
       refine qo hnt rfl (s_load_ptr1 tab_3 rfl rfl rfl rfl rfl ?_)
       refine ry hnt rfl rfl rfl g5 ?_
       refine qo hnt rfl (s_eql rfl rfl ?_)
       refine qo hnt rfl (s_pick_f rfl g5 rfl ?_)
       refine r_eq (s := 40) (y := pB (((!decide (r.fn = 8)) && (!decide (r.fn = 17))) || (decide (r.at_ = 0)))) rfl (mix_of g5) ?_
       exact r_mid ⟨⟨rfl,rfl,rfl,rfl,trivial⟩,rfl,rfl⟩
      ·
       have g5' := g5
       try simp only [sB] at g5'
       refine rn hnt rfl rfl rfl g5 ?_
       refine rn hnt rfl rfl rfl g5 ?_
       refine qo hnt rfl (s_pick_t rfl g5 rfl ?_)
       refine r_eq (s := 40) (y := pB (((!decide (r.fn = 8)) && (!decide (r.fn = 17))) || (decide (r.at_ = 0)))) rfl (mix_ot _ g5) ?_
       exact r_mid ⟨⟨rfl,rfl,rfl,rfl,trivial⟩,rfl,rfl⟩
     ·
      refine qm hnt rfl rfl ?_
      refine r_cut0 7 [(1,PV.ptr 0 0),(5,pB (decide (r.fn = 22))),(48,pB ((((!decide (r.fn = 8)) && (!decide (r.fn = 17))) || (decide (r.at_ = 0))) && (((((decide (1 ≤ r.fn ∧ r.fn ≤ 4)) || (decide (r.fn = 15))) || (decide (r.fn = 16))) || (decide (r.fn = 23))) || (decide (r.count = 0)))))] ?_ ?_
      ·
       refine r_if tabOk hnt rfl rfl rfl (fun g6 => ?_) (fun g6 => ?_)
       ·
        have g6' := g6
        try simp only [sB] at g6'
        refine qm hnt rfl rfl ?_
        refine ry hnt rfl rfl rfl g6 ?_
        refine qm hnt rfl rfl ?_
        refine r_cut0 4 [(1,PV.ptr 0 0),(5,pB (decide (r.fn = 22))),(41,pB (((!decide (r.fn = 8)) && (!decide (r.fn = 17))) || (decide (r.at_ = 0)))),(47,pB (((((decide (1 ≤ r.fn ∧ r.fn ≤ 4)) || (decide (r.fn = 15))) || (decide (r.fn = 16))) || (decide (r.fn = 23))) || (decide (r.count = 0))))] ?_ ?_
        ·
         refine r_if tabOk hnt rfl rfl rfl (fun g7 => ?_) (fun g7 => ?_)
         ·
          have g7' := g7
          try simp only [sB] at g7'
          refine qo hnt rfl (s_fa_ptr tab_27 rfl rfl tab_3 (by decide) rfl ?_)
          refine ry hnt rfl rfl rfl g7 ?_
          refine qo hnt rfl (s_load_ptr1 tab_3 rfl rfl rfl rfl rfl ?_)
          refine ry hnt rfl rfl rfl g7 ?_
          refine qo hnt rfl (s_eql rfl rfl ?_)
          refine ry hnt rfl rfl rfl g6 ?_
          refine qo hnt rfl (s_pick_f rfl g7 rfl ?_)
          refine r_eq (s := 47) (y := pB (((((decide (1 ≤ r.fn ∧ r.fn ≤ 4)) || (decide (r.fn = 15))) || (decide (r.fn = 16))) || (decide (r.fn = 23))) || (decide (r.count = 0)))) rfl (mix_of g7) ?_
          exact r_mid ⟨⟨rfl,rfl,rfl,rfl,trivial⟩,rfl,rfl⟩
         ·
          have g7' := g7
          try simp only [sB] at g7'
          refine rn hnt rfl rfl rfl g7 ?_
          refine rn hnt rfl rfl rfl g7 ?_
          refine ry hnt rfl rfl rfl g6 ?_
          refine qo hnt rfl (s_pick_t rfl g7 rfl ?_)
          refine r_eq (s := 47) (y := pB (((((decide (1 ≤ r.fn ∧ r.fn ≤ 4)) || (decide (r.fn = 15))) || (decide (r.fn = 16))) || (decide (r.fn = 23))) || (decide (r.count = 0)))) rfl (mix_ot _ g7) ?_
          exact r_mid ⟨⟨rfl,rfl,rfl,rfl,trivial⟩,rfl,rfl⟩
        ·
         refine qo hnt rfl (s_pick_t rfl g6 rfl ?_)
         refine r_eq (s := 48) (y := pB ((((!decide (r.fn = 8)) && (!decide (r.fn = 17))) || (decide (r.at_ = 0))) && (((((decide (1 ≤ r.fn ∧ r.fn ≤ 4)) || (decide (r.fn = 15))) || (decide (r.fn = 16))) || (decide (r.fn = 23))) || (decide (r.count = 0))))) rfl (mix_at g6) ?_
         exact r_mid ⟨⟨rfl,rfl,rfl,trivial⟩,rfl,rfl⟩
       ·
        have g6' := g6
        try simp only [sB] at g6'
        refine rn hnt rfl rfl rfl g6 ?_
        refine ru hnt rfl rfl rfl ?_
        refine ru hnt rfl rfl rfl ?_
        refine ru hnt rfl rfl rfl ?_
        refine rn hnt rfl rfl rfl g6 ?_
        refine qo hnt rfl (s_pick_f rfl g6 rfl ?_)
        refine r_eq (s := 48) (y := pB ((((!decide (r.fn = 8)) && (!decide (r.fn = 17))) || (decide (r.at_ = 0))) && (((((decide (1 ≤ r.fn ∧ r.fn ≤ 4)) || (decide (r.fn = 15))) || (decide (r.fn = 16))) || (decide (r.fn = 23))) || (decide (r.count = 0))))) rfl (mix_af _ g6) ?_
        exact r_mid ⟨⟨rfl,rfl,rfl,trivial⟩,rfl,rfl⟩
      ·
       refine qm hnt rfl rfl ?_
       refine r_cut0 9 [(1,PV.ptr 0 0),(5,pB (decide (r.fn = 22))),(58,pB (((((!decide (r.fn = 8)) && (!decide (r.fn = 17))) || (decide (r.at_ = 0))) && (((((decide (1 ≤ r.fn ∧ r.fn ≤ 4)) || (decide (r.fn = 15))) || (decide (r.fn = 16))) || (decide (r.fn = 23))) || (decide (r.count = 0)))) && ((decide (r.fn = 23)) || (decide (r.wAt = 0)))))] ?_ ?_
       ·
        refine r_if tabOk hnt rfl rfl rfl (fun g8 => ?_) (fun g8 => ?_)
        ·
         have g8' := g8
         try simp only [sB] at g8'
         refine qo hnt rfl (s_fa_ptr tab_27 rfl rfl tab_3 (by decide) rfl ?_)
         refine ry hnt rfl rfl rfl g8 ?_
         refine qo hnt rfl (s_load_ptr1 tab_3 rfl rfl rfl rfl rfl ?_)
         refine ry hnt rfl rfl rfl g8 ?_
         refine qo hnt rfl (s_eql rfl rfl ?_)
         refine ry hnt rfl rfl rfl g8 ?_
         refine qm hnt rfl rfl ?_
         refine r_cut0 4 [(1,PV.ptr 0 0),(5,pB (decide (r.fn = 22))),(49,pB ((((!decide (r.fn = 8)) && (!decide (r.fn = 17))) || (decide (r.at_ = 0))) && (((((decide (1 ≤ r.fn ∧ r.fn ≤ 4)) || (decide (r.fn = 15))) || (decide (r.fn = 16))) || (decide (r.fn = 23))) || (decide (r.count = 0))))),(57,pB ((decide (r.fn = 23)) || (decide (r.wAt = 0))))] ?_ ?_
         ·
          refine r_if tabOk hnt rfl rfl rfl (fun g9 => ?_) (fun g9 => ?_)
          ·
           have g9' := g9
           try simp only [sB] at g9'
           refine qo hnt rfl (s_fa_ptr tab_27 rfl rfl tab_3 (by decide) rfl ?_)
           refine ry hnt rfl rfl rfl g9 ?_
           refine qo hnt rfl (s_load_ptr1 tab_3 rfl rfl rfl rfl rfl ?_)
           refine ry hnt rfl rfl rfl g9 ?_
           refine qo hnt rfl (s_eql rfl rfl ?_)
           refine ry hnt rfl rfl rfl g8 ?_
           refine qo hnt rfl (s_pick_f rfl g9 rfl ?_)
           refine r_eq (s := 57) (y := pB ((decide (r.fn = 23)) || (decide (r.wAt = 0)))) rfl (mix_of g9) ?_
           exact r_mid ⟨⟨rfl,rfl,rfl,rfl,trivial⟩,rfl,rfl⟩
          ·
           have g9' := g9
           try simp only [sB] at g9'
           refine rn hnt rfl rfl rfl g9 ?_
           refine rn hnt rfl rfl rfl g9 ?_
           refine ry hnt rfl rfl rfl g8 ?_
           refine qo hnt rfl (s_pick_t rfl g9 rfl ?_)
           refine r_eq (s := 57) (y := pB ((decide (r.fn = 23)) || (decide (r.wAt = 0)))) rfl (mix_ot _ g9) ?_
           exact r_mid ⟨⟨rfl,rfl,rfl,rfl,trivial⟩,rfl,rfl⟩
         ·
          refine qo hnt rfl (s_pick_t rfl g8 rfl ?_)
          refine r_eq (s := 58) (y := pB (((((!decide (r.fn = 8)) && (!decide (r.fn = 17))) || (decide (r.at_ = 0))) && (((((decide (1 ≤ r.fn ∧ r.fn ≤ 4)) || (decide (r.fn = 15))) || (decide (r.fn = 16))) || (decide (r.fn = 23))) || (decide (r.count = 0)))) && ((decide (r.fn = 23)) || (decide (r.wAt = 0))))) rfl (mix_at g8) ?_
          exact r_mid ⟨⟨rfl,rfl,rfl,trivial⟩,rfl,rfl⟩
        ·
         have g8' := g8
         try simp only [sB] at g8'
         refine rn hnt rfl rfl rfl g8 ?_
         refine rn hnt rfl rfl rfl g8 ?_
         refine rn hnt rfl rfl rfl g8 ?_
         refine ru hnt rfl rfl rfl ?_
         refine ru hnt rfl rfl rfl ?_
         refine ru hnt rfl rfl rfl ?_
         refine rn hnt rfl rfl rfl g8 ?_
         refine qo hnt rfl (s_pick_f rfl g8 rfl ?_)
         refine r_eq (s := 58) (y := pB (((((!decide (r.fn = 8)) && (!decide (r.fn = 17))) || (decide (r.at_ = 0))) && (((((decide (1 ≤ r.fn ∧ r.fn ≤ 4)) || (decide (r.fn = 15))) || (decide (r.fn = 16))) || (decide (r.fn = 23))) || (decide (r.count = 0)))) && ((decide (r.fn = 23)) || (decide (r.wAt = 0))))) rfl (mix_af _ g8) ?_
         exact r_mid ⟨⟨rfl,rfl,rfl,trivial⟩,rfl,rfl⟩
       ·
        refine qm hnt rfl rfl ?_
        refine r_cut0 9 [(1,PV.ptr 0 0),(5,pB (decide (r.fn = 22))),(68,pB ((((((!decide (r.fn = 8)) && (!decide (r.fn = 17))) || (decide (r.at_ = 0))) && (((((decide (1 ≤ r.fn ∧ r.fn ≤ 4)) || (decide (r.fn = 15))) || (decide (r.fn = 16))) || (decide (r.fn = 23))) || (decide (r.count = 0)))) && ((decide (r.fn = 23)) || (decide (r.wAt = 0)))) && ((decide (r.fn = 8)) || (decide (r.sub = 0)))))] ?_ ?_
        ·
         refine r_if tabOk hnt rfl rfl rfl (fun g10 => ?_) (fun g10 => ?_)
         ·
          have g10' := g10
          try simp only [sB] at g10'
          refine qo hnt rfl (s_fa_ptr tab_27 rfl rfl tab_3 (by decide) rfl ?_)
          refine ry hnt rfl rfl rfl g10 ?_
          refine qo hnt rfl (s_load_ptr1 tab_3 rfl rfl rfl rfl rfl ?_)
          refine ry hnt rfl rfl rfl g10 ?_
          refine qo hnt rfl (s_eql rfl rfl ?_)
          refine ry hnt rfl rfl rfl g10 ?_
          refine qm hnt rfl rfl ?_
          refine r_cut0 4 [(1,PV.ptr 0 0),(5,pB (decide (r.fn = 22))),(59,pB (((((!decide (r.fn = 8)) && (!decide (r.fn = 17))) || (decide (r.at_ = 0))) && (((((decide (1 ≤ r.fn ∧ r.fn ≤ 4)) || (decide (r.fn = 15))) || (decide (r.fn = 16))) || (decide (r.fn = 23))) || (decide (r.count = 0)))) && ((decide (r.fn = 23)) || (decide (r.wAt = 0))))),(67,pB ((decide (r.fn = 8)) || (decide (r.sub = 0))))] ?_ ?_
          ·
           refine r_if tabOk hnt rfl rfl rfl (fun g11 => ?_) (fun g11 => ?_)
           ·
            have g11' := g11
            try simp only [sB] at g11'
            refine qo hnt rfl (s_fa_ptr tab_27 rfl rfl tab_3 (by decide) rfl ?_)
            refine ry hnt rfl rfl rfl g11 ?_
            refine qo hnt rfl (s_load_ptr1 tab_3 rfl rfl rfl rfl rfl ?_)
            refine ry hnt rfl rfl rfl g11 ?_
            refine qo hnt rfl (s_eql rfl rfl ?_)
            refine ry hnt rfl rfl rfl g10 ?_
            refine qo hnt rfl (s_pick_f rfl g11 rfl ?_)
            refine r_eq (s := 67) (y := pB ((decide (r.fn = 8)) || (decide (r.sub = 0)))) rfl (mix_of g11) ?_
            exact r_mid ⟨⟨rfl,rfl,rfl,rfl,trivial⟩,rfl,rfl⟩
           ·
            have g11' := g11
            try simp only [sB] at g11'
            refine rn hnt rfl rfl rfl g11 ?_
            refine rn hnt rfl rfl rfl g11 ?_
            refine ry hnt rfl rfl rfl g10 ?_
            refine qo hnt rfl (s_pick_t rfl g11 rfl ?_)
            refine r_eq (s := 67) (y := pB ((decide (r.fn = 8)) || (decide (r.sub = 0)))) rfl (mix_ot _ g11) ?_
            exact r_mid ⟨⟨rfl,rfl,rfl,rfl,trivial⟩,rfl,rfl⟩
          ·
           refine qo hnt rfl (s_pick_t rfl g10 rfl ?_)
           refine r_eq (s := 68) (y := pB ((((((!decide (r.fn = 8)) && (!decide (r.fn = 17))) || (decide (r.at_ = 0))) && (((((decide (1 ≤ r.fn ∧ r.fn ≤ 4)) || (decide (r.fn = 15))) || (decide (r.fn = 16))) || (decide (r.fn = 23))) || (decide (r.count = 0)))) && ((decide (r.fn = 23)) || (decide (r.wAt = 0)))) && ((decide (r.fn = 8)) || (decide (r.sub = 0))))) rfl (mix_at g10) ?_
           exact r_mid ⟨⟨rfl,rfl,rfl,trivial⟩,rfl,rfl⟩
         ·
          have g10' := g10
          try simp only [sB] at g10'
          refine rn hnt rfl rfl rfl g10 ?_
          refine rn hnt rfl rfl rfl g10 ?_
          refine rn hnt rfl rfl rfl g10 ?_
          refine ru hnt rfl rfl rfl ?_
          refine ru hnt rfl rfl rfl ?_
          refine ru hnt rfl rfl rfl ?_
          refine rn hnt rfl rfl rfl g10 ?_
          refine qo hnt rfl (s_pick_f rfl g10 rfl ?_)
          refine r_eq (s := 68) (y := pB ((((((!decide (r.fn = 8)) && (!decide (r.fn = 17))) || (decide (r.at_ = 0))) && (((((decide (1 ≤ r.fn ∧ r.fn ≤ 4)) || (decide (r.fn = 15))) || (decide (r.fn = 16))) || (decide (r.fn = 23))) || (decide (r.count = 0)))) && ((decide (r.fn = 23)) || (decide (r.wAt = 0)))) && ((decide (r.fn = 8)) || (decide (r.sub = 0))))) rfl (mix_af _ g10) ?_
          exact r_mid ⟨⟨rfl,rfl,rfl,trivial⟩,rfl,rfl⟩
        ·
         refine qm hnt rfl rfl ?_
         refine r_cut0 12 [(81,pB (((((((!decide (r.fn = 8)) && (!decide (r.fn = 17))) || (decide (r.at_ = 0))) && (((((decide (1 ≤ r.fn ∧ r.fn ≤ 4)) || (decide (r.fn = 15))) || (decide (r.fn = 16))) || (decide (r.fn = 23))) || (decide (r.count = 0)))) && ((decide (r.fn = 23)) || (decide (r.wAt = 0)))) && ((decide (r.fn = 8)) || (decide (r.sub = 0)))) && ((decide (r.fn = 22)) || ((decide (r.and_ = 0)) && (decide (r.or_ = 0))))))] ?_ ?_
         ·
          refine r_if tabOk hnt rfl rfl rfl (fun g12 => ?_) (fun g12 => ?_)
          ·
           have g12' := g12
           try simp only [sB] at g12'
           refine qm hnt rfl rfl ?_
           refine ry hnt rfl rfl rfl g12 ?_
           refine qm hnt rfl rfl ?_
           refine r_cut0 9 [(69,pB ((((((!decide (r.fn = 8)) && (!decide (r.fn = 17))) || (decide (r.at_ = 0))) && (((((decide (1 ≤ r.fn ∧ r.fn ≤ 4)) || (decide (r.fn = 15))) || (decide (r.fn = 16))) || (decide (r.fn = 23))) || (decide (r.count = 0)))) && ((decide (r.fn = 23)) || (decide (r.wAt = 0)))) && ((decide (r.fn = 8)) || (decide (r.sub = 0))))),(80,pB ((decide (r.fn = 22)) || ((decide (r.and_ = 0)) && (decide (r.or_ = 0)))))] ?_ ?_
           ·
            refine r_if tabOk hnt rfl rfl rfl (fun g13 => ?_) (fun g13 => ?_)
            ·
             have g13' := g13
             try simp only [sB] at g13'
             refine qo hnt rfl (s_fa_ptr tab_27 rfl rfl tab_25 (by decide) rfl ?_)
             refine ry hnt rfl rfl rfl g13 ?_
             refine qo hnt rfl (s_load_ptr1 tab_25 rfl rfl rfl rfl rfl ?_)
             refine ry hnt rfl rfl rfl g13 ?_
             refine qo hnt rfl (s_eql16 (a := r.and_) (b := 0) rfl rfl ?_)
             refine ry hnt rfl rfl rfl g13 ?_
             refine qm hnt rfl rfl ?_
             refine r_cut0 4 [(69,pB ((((((!decide (r.fn = 8)) && (!decide (r.fn = 17))) || (decide (r.at_ = 0))) && (((((decide (1 ≤ r.fn ∧ r.fn ≤ 4)) || (decide (r.fn = 15))) || (decide (r.fn = 16))) || (decide (r.fn = 23))) || (decide (r.count = 0)))) && ((decide (r.fn = 23)) || (decide (r.wAt = 0)))) && ((decide (r.fn = 8)) || (decide (r.sub = 0))))),(71,pB (decide (r.fn = 22))),(79,pB ((decide (r.and_ = 0)) && (decide (r.or_ = 0))))] ?_ ?_
             ·
              refine r_if tabOk hnt rfl rfl rfl (fun g14 => ?_) (fun g14 => ?_)
              ·
               have g14' := g14
               try simp only [sB] at g14'
               refine qo hnt rfl (s_fa_ptr tab_27 rfl rfl tab_25 (by decide) rfl ?_)
               refine ry hnt rfl rfl rfl g14 ?_
               refine qo hnt rfl (s_load_ptr1 tab_25 rfl rfl rfl rfl rfl ?_)
               refine ry hnt rfl rfl rfl g14 ?_
               refine qo hnt rfl (s_eql16 (a := r.or_) (b := 0) rfl rfl ?_)
               refine ry hnt rfl rfl rfl g13 ?_
               refine qo hnt rfl (s_pick_t rfl g14 rfl ?_)
               refine r_eq (s := 79) (y := pB ((decide (r.and_ = 0)) && (decide (r.or_ = 0)))) rfl (mix_at g14) ?_
               exact r_mid ⟨⟨rfl,rfl,rfl,trivial⟩,rfl,rfl⟩
              ·
               have g14' := g14
               try simp only [sB] at g14'
               refine rn hnt rfl rfl rfl g14 ?_
               refine rn hnt rfl rfl rfl g14 ?_
               refine ry hnt rfl rfl rfl g13 ?_
               refine qo hnt rfl (s_pick_f rfl g14 rfl ?_)
               refine r_eq (s := 79) (y := pB ((decide (r.and_ = 0)) && (decide (r.or_ = 0)))) rfl (mix_af _ g14) ?_
               exact r_mid ⟨⟨rfl,rfl,rfl,trivial⟩,rfl,rfl⟩
             ·
              refine ry hnt rfl rfl rfl g12 ?_
              refine qo hnt rfl (s_pick_f rfl g13 rfl ?_)
              refine r_eq (s := 80) (y := pB ((decide (r.fn = 22)) || ((decide (r.and_ = 0)) && (decide (r.or_ = 0))))) rfl (mix_of g13) ?_
              exact r_mid ⟨⟨rfl,rfl,trivial⟩,rfl,rfl⟩
            ·
             have g13' := g13
             try simp only [sB] at g13'
             refine rn hnt rfl rfl rfl g13 ?_
             refine rn hnt rfl rfl rfl g13 ?_
             refine rn hnt rfl rfl rfl g13 ?_
             refine ru hnt rfl rfl rfl ?_
             refine ru hnt rfl rfl rfl ?_
             refine ru hnt rfl rfl rfl ?_
             refine rn hnt rfl rfl rfl g13 ?_
             refine ry hnt rfl rfl rfl g12 ?_
             refine qo hnt rfl (s_pick_t rfl g13 rfl ?_)
             refine r_eq (s := 80) (y := pB ((decide (r.fn = 22)) || ((decide (r.and_ = 0)) && (decide (r.or_ = 0))))) rfl (mix_ot _ g13) ?_
             exact r_mid ⟨⟨rfl,rfl,trivial⟩,rfl,rfl⟩
           ·
            refine qo hnt rfl (s_pick_t rfl g12 rfl ?_)
            refine r_eq (s := 81) (y := pB (((((((!decide (r.fn = 8)) && (!decide (r.fn = 17))) || (decide (r.at_ = 0))) && (((((decide (1 ≤ r.fn ∧ r.fn ≤ 4)) || (decide (r.fn = 15))) || (decide (r.fn = 16))) || (decide (r.fn = 23))) || (decide (r.count = 0)))) && ((decide (r.fn = 23)) || (decide (r.wAt = 0)))) && ((decide (r.fn = 8)) || (decide (r.sub = 0)))) && ((decide (r.fn = 22)) || ((decide (r.and_ = 0)) && (decide (r.or_ = 0)))))) rfl (mix_at g12) ?_
            exact r_mid ⟨⟨rfl,trivial⟩,rfl,rfl⟩
          ·
           have g12' := g12
           try simp only [sB] at g12'
           refine rn hnt rfl rfl rfl g12 ?_
           refine ru hnt rfl rfl rfl ?_
           refine ru hnt rfl rfl rfl ?_
           refine ru hnt rfl rfl rfl ?_
           refine ru hnt rfl rfl rfl ?_
           refine ru hnt rfl rfl rfl ?_
           refine ru hnt rfl rfl rfl ?_
           refine ru hnt rfl rfl rfl ?_
           refine ru hnt rfl rfl rfl ?_
           refine rn hnt rfl rfl rfl g12 ?_
           refine qo hnt rfl (s_pick_f rfl g12 rfl ?_)
           refine r_eq (s := 81) (y := pB (((((((!decide (r.fn = 8)) && (!decide (r.fn = 17))) || (decide (r.at_ = 0))) && (((((decide (1 ≤ r.fn ∧ r.fn ≤ 4)) || (decide (r.fn = 15))) || (decide (r.fn = 16))) || (decide (r.fn = 23))) || (decide (r.count = 0)))) && ((decide (r.fn = 23)) || (decide (r.wAt = 0)))) && ((decide (r.fn = 8)) || (decide (r.sub = 0)))) && ((decide (r.fn = 22)) || ((decide (r.and_ = 0)) && (decide (r.or_ = 0)))))) rfl (mix_af _ g12) ?_
           exact r_mid ⟨⟨rfl,trivial⟩,rfl,rfl⟩
         ·
          refine qa hnt rfl rfl ?_
          refine r_end ?_
          refine q_then ?_
          refine w_le (s := 2) (y := pB (fieldsP r)) rfl (le_of_eq (congrArg (fun z : Bool => pB z) (show (((((((!decide (r.fn = 8)) && (!decide (r.fn = 17))) || (decide (r.at_ = 0))) && (((((decide (1 ≤ r.fn ∧ r.fn ≤ 4)) || (decide (r.fn = 15))) || (decide (r.fn = 16))) || (decide (r.fn = 23))) || (decide (r.count = 0)))) && ((decide (r.fn = 23)) || (decide (r.wAt = 0)))) && ((decide (r.fn = 8)) || (decide (r.sub = 0)))) && ((decide (r.fn = 22)) || ((decide (r.and_ = 0)) && (decide (r.or_ = 0))))) = (fieldsP r) by unfold fieldsP; apply Bool.eq_iff_iff.2; simp only [Bool.and_eq_true,Bool.or_eq_true,Bool.not_eq_true',decide_eq_true_eq,decide_eq_false_iff_not,u16z]; try omega))) ?_
          refine w_ret ?_
          exact fin_plain (ret_tmp rfl ret_nil) rfl rfl ⟨rfl,rfl,rfl⟩
theorem w_pdu_Right (r : TRequest) (hb : r.bits.length ≤ 140737488351232) (hv : r.vals.length ≤ 140737488351232) :
    T Try.prog 17 [PV.f (eRequest r)] 0 [] (Ret (pI (rightR r)) 0 []) := by
 refine t_fun tabOk (n := 63) (rs := [.tmp 2]) Try.func17 rfl rfl rfl rfl (Nat.le_of_ble_eq_true rfl) ?_
 intro c hnt hk
 refine w_seq ?_
 refine w_R ?_
 refine qo hnt rfl (s_box rfl rfl ?_)
 refine qa hnt rfl rfl ?_
 refine r_set [(1,PV.ptr 0 0)] [(0,.obj [pI r.fn,pI r.at_,pI r.count,pI r.wAt,pI r.sub,pS 1 false encBo r.bits,pS 1 false enc16 r.vals,p16 r.and_,p16 r.or_])] 1 ⟨rfl,trivial⟩ rfl rfl ?_
 refine r_end ?_
 refine q_then ?_
 refine w_seq ?_
 refine w_block ?_
 refine w_seq ?_
 refine w_R ?_
 refine qo hnt rfl (s_fa_ptr tab_27 rfl rfl tab_3 (by decide) rfl ?_)
 refine qo hnt rfl (s_load_ptr1 tab_3 rfl rfl rfl rfl rfl ?_)
 refine qo hnt rfl (s_callF rfl rfl rfl (w_pdu_function r.fn) rfl ?_)
 refine qo hnt rfl (s_not rfl ?_)
 refine qa hnt rfl rfl ?_
 refine r_end ?_
 refine q_then ?_
 refine w_if rfl (fun c1 => ?_) (fun c1 => ?_)
 ·
  have c1_ := c1
  try simp only [sB] at c1
  refine w_seq ?_
  refine w_R ?_
  refine qa hnt rfl rfl ?_
  refine r_end ?_
  refine q_then ?_
  refine w_le (s := 2) (y := pI (rightR r)) rfl (le_of_eq (congrArg (fun z : Int => pI z) (show 15 = (rightR r) by first|exact (rightR_1 c1_).symm|exact (right_P c1 c2_ (by omega) (by omega) (by omega) (by omega)).symm|exact (wrong_P c1 (fun h => Bool.noConfusion (c2_.symm.trans h.1))).symm|exact (wrong_P c1 (fun h => by omega)).symm))) ?_
  refine w_ret ?_
  refine q_block_ret ?_
  refine q_then_ret ?_
  exact fin_plain (ret_tmp rfl ret_nil) rfl rfl ⟨rfl,rfl,rfl⟩
 ·
  have c1_ := c1
  try simp only [sB] at c1
  refine w_seq ?_
  refine w_R ?_
  refine qo hnt rfl (s_load_ptr tab_27 rfl rfl rfl (Nat.le_of_ble_eq_true rfl) ?_)
  refine qo hnt rfl (s_callF rfl rfl rfl (w_pdu_fields r (by first|omega|assumption|(simp; omega)|decide|(simp; done)) (by first|omega|assumption|(simp; omega)|decide|(simp; done))) rfl ?_)
  refine qo hnt rfl (s_not rfl ?_)
  refine qm hnt rfl rfl ?_
  refine r_cut0 5 [(1,PV.ptr 0 0),(17,pB ((!(fieldsP r)) || (!(wordOk r.at_))))] ?_ ?_
  ·
   refine r_if tabOk hnt rfl rfl rfl (fun g1 => ?_) (fun g1 => ?_)
   ·
    have g1' := g1
    try simp only [sB] at g1'
    refine qo hnt rfl (s_fa_ptr tab_27 rfl rfl tab_3 (by decide) rfl ?_)
    refine ry hnt rfl rfl rfl g1 ?_
    refine qo hnt rfl (s_load_ptr1 tab_3 rfl rfl rfl rfl rfl ?_)
    refine ry hnt rfl rfl rfl g1 ?_
    refine qo hnt rfl (s_callF rfl rfl rfl (w_pdu_within r.at_) rfl ?_)
    refine ry hnt rfl rfl rfl g1 ?_
    refine qo hnt rfl (s_not rfl ?_)
    refine qo hnt rfl (s_pick_f rfl g1 rfl ?_)
    refine r_eq (s := 17) (y := pB ((!(fieldsP r)) || (!(wordOk r.at_)))) rfl (mix_of g1) ?_
    exact r_mid ⟨⟨rfl,rfl,trivial⟩,rfl,rfl⟩
   ·
    have g1' := g1
    try simp only [sB] at g1'
    refine rn hnt rfl rfl rfl g1 ?_
    refine rn hnt rfl rfl rfl g1 ?_
    refine rn hnt rfl rfl rfl g1 ?_
    refine qo hnt rfl (s_pick_t rfl g1 rfl ?_)
    refine r_eq (s := 17) (y := pB ((!(fieldsP r)) || (!(wordOk r.at_)))) rfl (mix_ot _ g1) ?_
    exact r_mid ⟨⟨rfl,rfl,trivial⟩,rfl,rfl⟩
  ·
   refine qm hnt rfl rfl ?_
   refine r_cut0 5 [(1,PV.ptr 0 0),(23,pB (((!(fieldsP r)) || (!(wordOk r.at_))) || (!(wordOk r.wAt))))] ?_ ?_
   ·
    refine r_if tabOk hnt rfl rfl rfl (fun g2 => ?_) (fun g2 => ?_)
    ·
     have g2' := g2
     try simp only [sB] at g2'
     refine qo hnt rfl (s_fa_ptr tab_27 rfl rfl tab_3 (by decide) rfl ?_)
     refine ry hnt rfl rfl rfl g2 ?_
     refine qo hnt rfl (s_load_ptr1 tab_3 rfl rfl rfl rfl rfl ?_)
     refine ry hnt rfl rfl rfl g2 ?_
     refine qo hnt rfl (s_callF rfl rfl rfl (w_pdu_within r.wAt) rfl ?_)
     refine ry hnt rfl rfl rfl g2 ?_
     refine qo hnt rfl (s_not rfl ?_)
     refine qo hnt rfl (s_pick_f rfl g2 rfl ?_)
     refine r_eq (s := 23) (y := pB (((!(fieldsP r)) || (!(wordOk r.at_))) || (!(wordOk r.wAt)))) rfl (mix_of g2) ?_
     exact r_mid ⟨⟨rfl,rfl,trivial⟩,rfl,rfl⟩
    ·
     have g2' := g2
     try simp only [sB] at g2'
     refine rn hnt rfl rfl rfl g2 ?_
     refine rn hnt rfl rfl rfl g2 ?_
     refine rn hnt rfl rfl rfl g2 ?_
     refine qo hnt rfl (s_pick_t rfl g2 rfl ?_)
     refine r_eq (s := 23) (y := pB (((!(fieldsP r)) || (!(wordOk r.at_))) || (!(wordOk r.wAt)))) rfl (mix_ot _ g2) ?_
     exact r_mid ⟨⟨rfl,rfl,trivial⟩,rfl,rfl⟩
   ·
    refine qm hnt rfl rfl ?_
    refine r_cut0 5 [(1,PV.ptr 0 0),(29,pB ((((!(fieldsP r)) || (!(wordOk r.at_))) || (!(wordOk r.wAt))) || (!(wordOk r.sub))))] ?_ ?_
    ·
     refine r_if tabOk hnt rfl rfl rfl (fun g3 => ?_) (fun g3 => ?_)
     ·
      have g3' := g3
      try simp only [sB] at g3'
      refine qo hnt rfl (s_fa_ptr tab_27 rfl rfl tab_3 (by decide) rfl ?_)
      refine ry hnt rfl rfl rfl g3 ?_
      refine qo hnt rfl (s_load_ptr1 tab_3 rfl rfl rfl rfl rfl ?_)
      refine ry hnt rfl rfl rfl g3 ?_
      refine qo hnt rfl (s_callF rfl rfl rfl (w_pdu_within r.sub) rfl ?_)
      refine ry hnt rfl rfl rfl g3 ?_
      refine qo hnt rfl (s_not rfl ?_)
      refine qo hnt rfl (s_pick_f rfl g3 rfl ?_)
      refine r_eq (s := 29) (y := pB ((((!(fieldsP r)) || (!(wordOk r.at_))) || (!(wordOk r.wAt))) || (!(wordOk r.sub)))) rfl (mix_of g3) ?_
      exact r_mid ⟨⟨rfl,rfl,trivial⟩,rfl,rfl⟩
     ·
      have g3' := g3
      try simp only [sB] at g3'
      refine rn hnt rfl rfl rfl g3 ?_
      refine rn hnt rfl rfl rfl g3 ?_
      refine rn hnt rfl rfl rfl g3 ?_
      refine qo hnt rfl (s_pick_t rfl g3 rfl ?_)
      refine r_eq (s := 29) (y := pB ((((!(fieldsP r)) || (!(wordOk r.at_))) || (!(wordOk r.wAt))) || (!(wordOk r.sub)))) rfl (mix_ot _ g3) ?_
      exact r_mid ⟨⟨rfl,rfl,trivial⟩,rfl,rfl⟩
    ·
     refine qm hnt rfl rfl ?_
     refine r_cut0 5 [(1,PV.ptr 0 0),(35,pB (((((!(fieldsP r)) || (!(wordOk r.at_))) || (!(wordOk r.wAt))) || (!(wordOk r.sub))) || (!(wordOk r.count))))] ?_ ?_
     ·
      refine r_if tabOk hnt rfl rfl rfl (fun g4 => ?_) (fun g4 => ?_)
      ·
       have g4' := g4
       try simp only [sB] at g4'
       refine qo hnt rfl (s_fa_ptr tab_27 rfl rfl tab_3 (by decide) rfl ?_)
       refine ry hnt rfl rfl rfl g4 ?_
       refine qo hnt rfl (s_load_ptr1 tab_3 rfl rfl rfl rfl rfl ?_)
       refine ry hnt rfl rfl rfl g4 ?_
       refine qo hnt rfl (s_callF rfl rfl rfl (w_pdu_within r.count) rfl ?_)
       refine ry hnt rfl rfl rfl g4 ?_
       refine qo hnt rfl (s_not rfl ?_)
       refine qo hnt rfl (s_pick_f rfl g4 rfl ?_)
       refine r_eq (s := 35) (y := pB (((((!(fieldsP r)) || (!(wordOk r.at_))) || (!(wordOk r.wAt))) || (!(wordOk r.sub))) || (!(wordOk r.count)))) rfl (mix_of g4) ?_
       exact r_mid ⟨⟨rfl,rfl,trivial⟩,rfl,rfl⟩
      ·
       have g4' := g4
       try simp only [sB] at g4'
       refine rn hnt rfl rfl rfl g4 ?_
       refine rn hnt rfl rfl rfl g4 ?_
       refine rn hnt rfl rfl rfl g4 ?_
       refine qo hnt rfl (s_pick_t rfl g4 rfl ?_)
       refine r_eq (s := 35) (y := pB (((((!(fieldsP r)) || (!(wordOk r.at_))) || (!(wordOk r.wAt))) || (!(wordOk r.sub))) || (!(wordOk r.count)))) rfl (mix_ot _ g4) ?_
       exact r_mid ⟨⟨rfl,rfl,trivial⟩,rfl,rfl⟩
     ·
      refine qa hnt rfl rfl ?_
      refine r_end ?_
      refine q_then ?_
      refine w_if rfl (fun c2 => ?_) (fun c2 => ?_)
      ·
       have c2_ := c2
       try simp only [sB] at c2
       refine w_seq ?_
       refine w_R ?_
       refine qa hnt rfl rfl ?_
       refine r_end ?_
       refine q_then ?_
       refine w_le (s := 2) (y := pI (rightR r)) rfl (le_of_eq (congrArg (fun z : Int => pI z) (show 12 = (rightR r) by first|exact (rightR_1 c1_).symm|exact (right_P c1 c2_ (by omega) (by omega) (by omega) (by omega)).symm|exact (wrong_P c1 (fun h => Bool.noConfusion (c2_.symm.trans h.1))).symm|exact (wrong_P c1 (fun h => by omega)).symm))) ?_
       refine w_ret ?_
       refine q_block_ret ?_
       refine q_then_ret ?_
       exact fin_plain (ret_tmp rfl ret_nil) rfl rfl ⟨rfl,rfl,rfl⟩
      ·
       have c2_ := c2
       try simp only [sB] at c2
       refine w_seq ?_
       refine W_drawn tabOk mixed hnt [[],[0],[0,1],[],[3],[0,1,2,3,4],[0,1,2,3,4,5],[0,1,2,3,4,5,6],[0,1,2,3,4,5,6,7],[0,1,2,3,4,5,6,7,8],[0,1,2,3,4,5,6],[0,1,2,3,4,5,6,10],[0,1,2,3,4,5,6,7,8,9,10,11],[0,1,2,3,4,5,6,7,8,9,10,11,12],[0,1,2,3,4,5,6,7,8,9,10,11,12,13],[0,1,2,3,4,5,6,7,8,9,10,11,12,13,14],[0,1,2,3,4,5,6,7,8,9,10,11,12,13,14,15],[0,1,2,3,4,5,6,7,8,9,10,11,12,13,14,15,16],[0,1,2,3,4,5,6,7,8,9,10,11,12,13,14,15,16,17],[0,1,2,3,4,5,6,7,8,9,10,11,12,13,14,15,16,17,18],[0,1,2,3,4,5,6,7,8,9,10,11,12,13,14,15,16,17,18,19],[0,1,2,3,4,5,6,7,8,9,10,11,12,13,14,15,16,17,18,19,20],[0,1,2,3,4,5,6,7,8,9,10,11,12,13,14,15,16,17,18,19,20,21],[0,1,2,3,4,5,6,7,8,9,10,11,12,13,14,15,16,17,18,19,20,21,22],[0,1,2,3,4,5,6,7,8,9,10,11,12,13,14,15,16,17,18,19,20,21,22,23],[0,1,2,3,4,5,6,7,8,9,10,11,12,13,14,15,16,17,18,19,20,21,22,23,24],[0,1,2,3,4,5,6,7,8,9,10,11,12,13,14,15,16,17,18,19,20,21,22,23,24,25]] (by kernel_rfl) ?_
       refine d_op ?_
       refine x_run0 [(1,PV.ptr 0 0)] [] rfl rfl rfl rfl (s_fa_ptr tab_27 rfl rfl tab_23 (by decide) rfl ⟨rfl,rfl,rfl⟩) ?_
       refine d_op ?_
       refine x_run [(37,PV.ptr 0 5)] [0] [(0,.obj [pI r.fn,pI r.at_,pI r.count,pI r.wAt,pI r.sub,pS 1 false encBo r.bits,pS 1 false enc16 r.vals,p16 r.and_,p16 r.or_])] [] [(0,.obj [pI r.fn,pI r.at_,pI r.count,pI r.wAt,pI r.sub,pS 1 false encBo r.bits,pS 1 false enc16 r.vals,p16 r.and_,p16 r.or_])] [] [(0,.obj [pI r.fn,pI r.at_,pI r.count,pI r.wAt,pI r.sub,pS 1 false encBo r.bits,pS 1 false enc16 r.vals,p16 r.and_,p16 r.or_])] rfl rfl rfl rfl rfl rfl (s_load_ptr1 tab_23 rfl rfl rfl rfl rfl ⟨rfl,rfl,rfl⟩) rfl ⟨rfl,trivial⟩ rfl rfl ?_
       refine d_op ?_
       refine x_run0 [(38,pS 1 false encBo r.bits)] [0,1] rfl rfl rfl rfl (s_lenM (l := r.bits) tab_23 rfl (hM_sl (f := encBo) rfl) ⟨rfl,rfl,rfl⟩) ?_
       refine d_op ?_
       refine x_run [(1,PV.ptr 0 0)] [] [(0,.obj [pI r.fn,pI r.at_,pI r.count,pI r.wAt,pI r.sub,pS 1 false encBo r.bits,pS 1 false enc16 r.vals,p16 r.and_,p16 r.or_])] [] [(0,.obj [pI r.fn,pI r.at_,pI r.count,pI r.wAt,pI r.sub,pS 1 false encBo r.bits,pS 1 false enc16 r.vals,p16 r.and_,p16 r.or_])] [] [(0,.obj [pI r.fn,pI r.at_,pI r.count,pI r.wAt,pI r.sub,pS 1 false encBo r.bits,pS 1 false enc16 r.vals,p16 r.and_,p16 r.or_])] rfl rfl rfl rfl rfl rfl (s_load_ptr tab_27 rfl rfl rfl (Nat.le_of_ble_eq_true rfl) ⟨rfl,rfl,rfl⟩) rfl ⟨rfl,trivial⟩ rfl rfl ?_
       refine d_op ?_
       refine x_run0 [(40,PV.f (.agg [encI r.fn,encI r.at_,encI r.count,encI r.wAt,encI r.sub,FV.sl 1 false (List.map encBo r.bits),FV.sl 1 false (List.map enc16 r.vals),enc16 r.and_,enc16 r.or_]))] [3] rfl rfl rfl rfl (s_callF rfl rfl rfl (w_pdu_bits r (by first|omega|assumption|(simp; omega)|decide|(simp; done)) (by first|omega|assumption|(simp; omega)|decide|(simp; done))) rfl ⟨rfl,rfl,rfl⟩) ?_
       refine d_op ?_
       refine x_run0 [(39,pN r.bits.length),(41,pI (bitsN r))] [0,1,2,3,4] rfl rfl rfl rfl (s_neq rfl rfl ⟨rfl,rfl,rfl⟩) ?_
       refine d_op ?_
       refine x_run0 [(42,pB (!decide (((r.bits.length : Nat) : Int) = bitsN r)))] [0,1,2,3,4,5] rfl rfl rfl rfl (s_move rfl ⟨rfl,rfl,rfl⟩) ?_
       refine x_if [(43,pB (!decide (((r.bits.length : Nat) : Int) = bitsN r))),(1,PV.ptr 0 0)] [0,1,2,3,4,5,6] rfl rfl rfl rfl (fun g5 => ?_) (fun g5 => ?_)
       ·
        have g5' := g5
        try simp only [sB] at g5'
        refine x_run0 [(43,pB (!decide (((r.bits.length : Nat) : Int) = bitsN r))),(1,PV.ptr 0 0)] [0,1,2,3,4,5,6] rfl rfl rfl rfl (s_fa_ptr tab_27 rfl rfl tab_24 (by decide) rfl ⟨rfl,rfl,rfl⟩) ?_
        refine xy [(43,pB (!decide (((r.bits.length : Nat) : Int) = bitsN r))),(44,PV.ptr 0 6)] [0,1,2,3,4,5,6,7] rfl rfl rfl rfl g5 ?_
        refine x_run [(43,pB (!decide (((r.bits.length : Nat) : Int) = bitsN r))),(44,PV.ptr 0 6)] [0,1,2,3,4,5,6,7] [(0,.obj [pI r.fn,pI r.at_,pI r.count,pI r.wAt,pI r.sub,pS 1 false encBo r.bits,pS 1 false enc16 r.vals,p16 r.and_,p16 r.or_])] [] [(0,.obj [pI r.fn,pI r.at_,pI r.count,pI r.wAt,pI r.sub,pS 1 false encBo r.bits,pS 1 false enc16 r.vals,p16 r.and_,p16 r.or_])] [] [(0,.obj [pI r.fn,pI r.at_,pI r.count,pI r.wAt,pI r.sub,pS 1 false encBo r.bits,pS 1 false enc16 r.vals,p16 r.and_,p16 r.or_])] rfl rfl rfl rfl rfl rfl (s_load_ptr1 tab_24 rfl rfl rfl rfl rfl ⟨rfl,rfl,rfl⟩) rfl ⟨rfl,trivial⟩ rfl rfl ?_
        refine xy [(43,pB (!decide (((r.bits.length : Nat) : Int) = bitsN r))),(45,pS 1 false enc16 r.vals)] [0,1,2,3,4,5,6,7,8] rfl rfl rfl rfl g5 ?_
        refine x_run0 [(43,pB (!decide (((r.bits.length : Nat) : Int) = bitsN r))),(45,pS 1 false enc16 r.vals)] [0,1,2,3,4,5,6,7,8] rfl rfl rfl rfl (s_lenM (l := r.vals) tab_24 rfl (hM_sl (f := enc16) rfl) ⟨rfl,rfl,rfl⟩) ?_
        refine xy [(43,pB (!decide (((r.bits.length : Nat) : Int) = bitsN r))),(1,PV.ptr 0 0)] [0,1,2,3,4,5,6] rfl rfl rfl rfl g5 ?_
        refine x_run [(43,pB (!decide (((r.bits.length : Nat) : Int) = bitsN r))),(1,PV.ptr 0 0)] [0,1,2,3,4,5,6] [(0,.obj [pI r.fn,pI r.at_,pI r.count,pI r.wAt,pI r.sub,pS 1 false encBo r.bits,pS 1 false enc16 r.vals,p16 r.and_,p16 r.or_])] [] [(0,.obj [pI r.fn,pI r.at_,pI r.count,pI r.wAt,pI r.sub,pS 1 false encBo r.bits,pS 1 false enc16 r.vals,p16 r.and_,p16 r.or_])] [] [(0,.obj [pI r.fn,pI r.at_,pI r.count,pI r.wAt,pI r.sub,pS 1 false encBo r.bits,pS 1 false enc16 r.vals,p16 r.and_,p16 r.or_])] rfl rfl rfl rfl rfl rfl (s_load_ptr tab_27 rfl rfl rfl (Nat.le_of_ble_eq_true rfl) ⟨rfl,rfl,rfl⟩) rfl ⟨rfl,trivial⟩ rfl rfl ?_
        refine xy [(43,pB (!decide (((r.bits.length : Nat) : Int) = bitsN r))),(47,PV.f (.agg [encI r.fn,encI r.at_,encI r.count,encI r.wAt,encI r.sub,FV.sl 1 false (List.map encBo r.bits),FV.sl 1 false (List.map enc16 r.vals),enc16 r.and_,enc16 r.or_]))] [0,1,2,3,4,5,6,10] rfl rfl rfl rfl g5 ?_
        refine x_run0 [(43,pB (!decide (((r.bits.length : Nat) : Int) = bitsN r))),(47,PV.f (.agg [encI r.fn,encI r.at_,encI r.count,encI r.wAt,encI r.sub,FV.sl 1 false (List.map encBo r.bits),FV.sl 1 false (List.map enc16 r.vals),enc16 r.and_,enc16 r.or_]))] [0,1,2,3,4,5,6,10] rfl rfl rfl rfl (s_callF rfl rfl rfl (w_pdu_vals r (by first|omega|assumption|(simp; omega)|decide|(simp; done)) (by first|omega|assumption|(simp; omega)|decide|(simp; done))) rfl ⟨rfl,rfl,rfl⟩) ?_
        refine xy [(43,pB (!decide (((r.bits.length : Nat) : Int) = bitsN r))),(46,pN r.vals.length),(48,pI (valsN r))] [0,1,2,3,4,5,6,7,8,9,10,11] rfl rfl rfl rfl g5 ?_
        refine x_run0 [(43,pB (!decide (((r.bits.length : Nat) : Int) = bitsN r))),(46,pN r.vals.length),(48,pI (valsN r))] [0,1,2,3,4,5,6,7,8,9,10,11] rfl rfl rfl rfl (s_neq rfl rfl ⟨rfl,rfl,rfl⟩) ?_
        refine d_op ?_
        refine x_run0 [(43,pB (!decide (((r.bits.length : Nat) : Int) = bitsN r))),(49,pB (!decide (((r.vals.length : Nat) : Int) = valsN r)))] [0,1,2,3,4,5,6,7,8,9,10,11,12] rfl rfl rfl rfl (s_pick_f rfl g5 rfl ⟨rfl,rfl,rfl⟩) ?_
        refine d_op ?_
        refine x_run0 [(50,pB (!decide (((r.vals.length : Nat) : Int) = valsN r)))] [0,1,2,3,4,5,6,7,8,9,10,11,12,13] rfl rfl rfl rfl (s_move rfl ⟨rfl,rfl,rfl⟩) ?_
        refine x_if [(51,pB (!decide (((r.vals.length : Nat) : Int) = valsN r))),(1,PV.ptr 0 0)] [0,1,2,3,4,5,6,7,8,9,10,11,12,13,14] rfl rfl rfl rfl (fun g6 => ?_) (fun g6 => ?_)
        ·
         have g6' := g6
         try simp only [sB] at g6'
         refine x_run0 [(51,pB (!decide (((r.vals.length : Nat) : Int) = valsN r))),(1,PV.ptr 0 0)] [0,1,2,3,4,5,6,7,8,9,10,11,12,13,14] rfl rfl rfl rfl (s_fa_ptr tab_27 rfl rfl tab_23 (by decide) rfl ⟨rfl,rfl,rfl⟩) ?_
         refine xy [(51,pB (!decide (((r.vals.length : Nat) : Int) = valsN r))),(52,PV.ptr 0 5)] [0,1,2,3,4,5,6,7,8,9,10,11,12,13,14,15] rfl rfl rfl rfl g6 ?_
         refine x_run [(51,pB (!decide (((r.vals.length : Nat) : Int) = valsN r))),(52,PV.ptr 0 5)] [0,1,2,3,4,5,6,7,8,9,10,11,12,13,14,15] [(0,.obj [pI r.fn,pI r.at_,pI r.count,pI r.wAt,pI r.sub,pS 1 false encBo r.bits,pS 1 false enc16 r.vals,p16 r.and_,p16 r.or_])] [] [(0,.obj [pI r.fn,pI r.at_,pI r.count,pI r.wAt,pI r.sub,pS 1 false encBo r.bits,pS 1 false enc16 r.vals,p16 r.and_,p16 r.or_])] [] [(0,.obj [pI r.fn,pI r.at_,pI r.count,pI r.wAt,pI r.sub,pS 1 false encBo r.bits,pS 1 false enc16 r.vals,p16 r.and_,p16 r.or_])] rfl rfl rfl rfl rfl rfl (s_load_ptr1 tab_23 rfl rfl rfl rfl rfl ⟨rfl,rfl,rfl⟩) rfl ⟨rfl,trivial⟩ rfl rfl ?_
         refine xy [(51,pB (!decide (((r.vals.length : Nat) : Int) = valsN r))),(53,pS 1 false encBo r.bits)] [0,1,2,3,4,5,6,7,8,9,10,11,12,13,14,15,16] rfl rfl rfl rfl g6 ?_
         refine x_run0 [(51,pB (!decide (((r.vals.length : Nat) : Int) = valsN r))),(53,pS 1 false encBo r.bits)] [0,1,2,3,4,5,6,7,8,9,10,11,12,13,14,15,16] rfl rfl rfl rfl (s_lenM (l := r.bits) tab_23 rfl (hM_sl (f := encBo) rfl) ⟨rfl,rfl,rfl⟩) ?_
         refine xy [(51,pB (!decide (((r.vals.length : Nat) : Int) = valsN r))),(54,pN r.bits.length)] [0,1,2,3,4,5,6,7,8,9,10,11,12,13,14,15,16,17] rfl rfl rfl rfl g6 ?_
         refine x_run0 [(51,pB (!decide (((r.vals.length : Nat) : Int) = valsN r))),(54,pN r.bits.length)] [0,1,2,3,4,5,6,7,8,9,10,11,12,13,14,15,16,17] rfl rfl rfl rfl (s_gtr rfl rfl ⟨rfl,rfl,rfl⟩) ?_
         refine d_op ?_
         refine x_run0 [(51,pB (!decide (((r.vals.length : Nat) : Int) = valsN r))),(55,pB (decide (2040 < ((r.bits.length : Nat) : Int))))] [0,1,2,3,4,5,6,7,8,9,10,11,12,13,14,15,16,17,18] rfl rfl rfl rfl (s_pick_f rfl g6 rfl ⟨rfl,rfl,rfl⟩) ?_
         refine d_op ?_
         refine x_run0 [(56,pB (decide (2040 < ((r.bits.length : Nat) : Int))))] [0,1,2,3,4,5,6,7,8,9,10,11,12,13,14,15,16,17,18,19] rfl rfl rfl rfl (s_move rfl ⟨rfl,rfl,rfl⟩) ?_
         refine x_if [(57,pB (decide (2040 < ((r.bits.length : Nat) : Int)))),(1,PV.ptr 0 0)] [0,1,2,3,4,5,6,7,8,9,10,11,12,13,14,15,16,17,18,19,20] rfl rfl rfl rfl (fun g7 => ?_) (fun g7 => ?_)
         ·
          have g7' := g7
          try simp only [sB] at g7'
          refine x_run0 [(57,pB (decide (2040 < ((r.bits.length : Nat) : Int)))),(1,PV.ptr 0 0)] [0,1,2,3,4,5,6,7,8,9,10,11,12,13,14,15,16,17,18,19,20] rfl rfl rfl rfl (s_fa_ptr tab_27 rfl rfl tab_24 (by decide) rfl ⟨rfl,rfl,rfl⟩) ?_
          refine xy [(57,pB (decide (2040 < ((r.bits.length : Nat) : Int)))),(58,PV.ptr 0 6)] [0,1,2,3,4,5,6,7,8,9,10,11,12,13,14,15,16,17,18,19,20,21] rfl rfl rfl rfl g7 ?_
          refine x_run [(57,pB (decide (2040 < ((r.bits.length : Nat) : Int)))),(58,PV.ptr 0 6)] [0,1,2,3,4,5,6,7,8,9,10,11,12,13,14,15,16,17,18,19,20,21] [(0,.obj [pI r.fn,pI r.at_,pI r.count,pI r.wAt,pI r.sub,pS 1 false encBo r.bits,pS 1 false enc16 r.vals,p16 r.and_,p16 r.or_])] [] [(0,.obj [pI r.fn,pI r.at_,pI r.count,pI r.wAt,pI r.sub,pS 1 false encBo r.bits,pS 1 false enc16 r.vals,p16 r.and_,p16 r.or_])] [] [(0,.obj [pI r.fn,pI r.at_,pI r.count,pI r.wAt,pI r.sub,pS 1 false encBo r.bits,pS 1 false enc16 r.vals,p16 r.and_,p16 r.or_])] rfl rfl rfl rfl rfl rfl (s_load_ptr1 tab_24 rfl rfl rfl rfl rfl ⟨rfl,rfl,rfl⟩) rfl ⟨rfl,trivial⟩ rfl rfl ?_
          refine xy [(57,pB (decide (2040 < ((r.bits.length : Nat) : Int)))),(59,pS 1 false enc16 r.vals)] [0,1,2,3,4,5,6,7,8,9,10,11,12,13,14,15,16,17,18,19,20,21,22] rfl rfl rfl rfl g7 ?_
          refine x_run0 [(57,pB (decide (2040 < ((r.bits.length : Nat) : Int)))),(59,pS 1 false enc16 r.vals)] [0,1,2,3,4,5,6,7,8,9,10,11,12,13,14,15,16,17,18,19,20,21,22] rfl rfl rfl rfl (s_lenM (l := r.vals) tab_24 rfl (hM_sl (f := enc16) rfl) ⟨rfl,rfl,rfl⟩) ?_
          refine xy [(57,pB (decide (2040 < ((r.bits.length : Nat) : Int)))),(60,pN r.vals.length)] [0,1,2,3,4,5,6,7,8,9,10,11,12,13,14,15,16,17,18,19,20,21,22,23] rfl rfl rfl rfl g7 ?_
          refine x_run0 [(57,pB (decide (2040 < ((r.bits.length : Nat) : Int)))),(60,pN r.vals.length)] [0,1,2,3,4,5,6,7,8,9,10,11,12,13,14,15,16,17,18,19,20,21,22,23] rfl rfl rfl rfl (s_gtr rfl rfl ⟨rfl,rfl,rfl⟩) ?_
          refine d_op ?_
          refine x_run0 [(57,pB (decide (2040 < ((r.bits.length : Nat) : Int)))),(61,pB (decide (127 < ((r.vals.length : Nat) : Int))))] [0,1,2,3,4,5,6,7,8,9,10,11,12,13,14,15,16,17,18,19,20,21,22,23,24] rfl rfl rfl rfl (s_pick_f rfl g7 rfl ⟨rfl,rfl,rfl⟩) ?_
          refine d_op ?_
          refine x_run0 [(62,pB (decide (127 < ((r.vals.length : Nat) : Int))))] [0,1,2,3,4,5,6,7,8,9,10,11,12,13,14,15,16,17,18,19,20,21,22,23,24,25] rfl rfl rfl rfl (s_assign rfl ⟨rfl,rfl,rfl⟩) ?_
          refine d_end ⟨by kernel_rfl, ?_⟩
          refine q_then ?_
          refine w_if rfl (fun c3 => ?_) (fun c3 => ?_)
          ·
           have c3_ := c3
           try simp only [sB] at c3
           refine w_seq ?_
           refine w_R ?_
           refine qa hnt rfl rfl ?_
           refine r_set [(2,pI 12)] [(0,.obj [pI r.fn,pI r.at_,pI r.count,pI r.wAt,pI r.sub,pS 1 false encBo r.bits,pS 1 false enc16 r.vals,p16 r.and_,p16 r.or_])] 1 ⟨rfl,trivial⟩ rfl rfl ?_
           refine r_end ?_
           refine q_then ?_
           refine w_le (s := 2) (y := pI (rightR r)) rfl (le_of_eq (congrArg (fun z : Int => pI z) (show 12 = (rightR r) by first|exact (rightR_1 c1_).symm|exact (right_P c1 c2_ (by omega) (by omega) (by omega) (by omega)).symm|exact (wrong_P c1 (fun h => Bool.noConfusion (c2_.symm.trans h.1))).symm|exact (wrong_P c1 (fun h => by omega)).symm))) ?_
           refine w_ret ?_
           refine q_block_ret ?_
           refine q_then_ret ?_
           exact fin_plain (ret_tmp rfl ret_nil) rfl rfl ⟨rfl,rfl,rfl⟩
          ·
           have c3_ := c3
           try simp only [sB] at c3
           refine w_skip ?_
           refine q_block ?_
           refine q_then ?_
           refine w_seq ?_
           refine w_R ?_
           refine qa hnt rfl rfl ?_
           refine r_set [(2,pI 0)] [(0,.obj [pI r.fn,pI r.at_,pI r.count,pI r.wAt,pI r.sub,pS 1 false encBo r.bits,pS 1 false enc16 r.vals,p16 r.and_,p16 r.or_])] 1 ⟨rfl,trivial⟩ rfl rfl ?_
           refine r_end ?_
           refine q_then ?_
           refine w_le (s := 2) (y := pI (rightR r)) rfl (le_of_eq (congrArg (fun z : Int => pI z) (show 0 = (rightR r) by first|exact (rightR_1 c1_).symm|exact (right_P c1 c2_ (by omega) (by omega) (by omega) (by omega)).symm|exact (wrong_P c1 (fun h => Bool.noConfusion (c2_.symm.trans h.1))).symm|exact (wrong_P c1 (fun h => by omega)).symm))) ?_
           refine w_ret ?_
           exact fin_plain (ret_tmp rfl ret_nil) rfl rfl ⟨rfl,rfl,rfl⟩
         ·
          have g7' := g7
          try simp only [sB] at g7'
          refine xn [(57,pB (decide (2040 < ((r.bits.length : Nat) : Int)))),(58,undefP)] [0,1,2,3,4,5,6,7,8,9,10,11,12,13,14,15,16,17,18,19,20,21] rfl rfl rfl rfl g7 ?_
          refine xn [(57,pB (decide (2040 < ((r.bits.length : Nat) : Int)))),(59,undefP)] [0,1,2,3,4,5,6,7,8,9,10,11,12,13,14,15,16,17,18,19,20,21,22] rfl rfl rfl rfl g7 ?_
          refine xn [(57,pB (decide (2040 < ((r.bits.length : Nat) : Int)))),(60,undefP)] [0,1,2,3,4,5,6,7,8,9,10,11,12,13,14,15,16,17,18,19,20,21,22,23] rfl rfl rfl rfl g7 ?_
          refine d_op ?_
          refine x_run0 [(57,pB (decide (2040 < ((r.bits.length : Nat) : Int)))),(61,undefP)] [0,1,2,3,4,5,6,7,8,9,10,11,12,13,14,15,16,17,18,19,20,21,22,23,24] rfl rfl rfl rfl (s_pick_t rfl g7 rfl ⟨rfl,rfl,rfl⟩) ?_
          refine d_op ?_
          refine x_run0 [(62,pB true)] [0,1,2,3,4,5,6,7,8,9,10,11,12,13,14,15,16,17,18,19,20,21,22,23,24,25] rfl rfl rfl rfl (s_assign rfl ⟨rfl,rfl,rfl⟩) ?_
          refine d_end ⟨by kernel_rfl, ?_⟩
          refine q_then ?_
          refine w_if rfl (fun _ => ?_) (fun e => absurd e (by decide))
          refine w_seq ?_
          refine w_R ?_
          refine qa hnt rfl rfl ?_
          refine r_set [(2,pI 12)] [(0,.obj [pI r.fn,pI r.at_,pI r.count,pI r.wAt,pI r.sub,pS 1 false encBo r.bits,pS 1 false enc16 r.vals,p16 r.and_,p16 r.or_])] 1 ⟨rfl,trivial⟩ rfl rfl ?_
          refine r_end ?_
          refine q_then ?_
          refine w_le (s := 2) (y := pI (rightR r)) rfl (le_of_eq (congrArg (fun z : Int => pI z) (show 12 = (rightR r) by first|exact (rightR_1 c1_).symm|exact (right_P c1 c2_ (by omega) (by omega) (by omega) (by omega)).symm|exact (wrong_P c1 (fun h => Bool.noConfusion (c2_.symm.trans h.1))).symm|exact (wrong_P c1 (fun h => by omega)).symm))) ?_
          refine w_ret ?_
          refine q_block_ret ?_
          refine q_then_ret ?_
          exact fin_plain (ret_tmp rfl ret_nil) rfl rfl ⟨rfl,rfl,rfl⟩
        ·
         have g6' := g6
         try simp only [sB] at g6'
         refine xn [(51,pB (!decide (((r.vals.length : Nat) : Int) = valsN r))),(52,undefP)] [0,1,2,3,4,5,6,7,8,9,10,11,12,13,14,15] rfl rfl rfl rfl g6 ?_
         refine xn [(51,pB (!decide (((r.vals.length : Nat) : Int) = valsN r))),(53,undefP)] [0,1,2,3,4,5,6,7,8,9,10,11,12,13,14,15,16] rfl rfl rfl rfl g6 ?_
         refine xn [(51,pB (!decide (((r.vals.length : Nat) : Int) = valsN r))),(54,undefP)] [0,1,2,3,4,5,6,7,8,9,10,11,12,13,14,15,16,17] rfl rfl rfl rfl g6 ?_
         refine d_op ?_
         refine x_run0 [(51,pB (!decide (((r.vals.length : Nat) : Int) = valsN r))),(55,undefP)] [0,1,2,3,4,5,6,7,8,9,10,11,12,13,14,15,16,17,18] rfl rfl rfl rfl (s_pick_t rfl g6 rfl ⟨rfl,rfl,rfl⟩) ?_
         refine d_op ?_
         refine x_run0 [(56,pB true)] [0,1,2,3,4,5,6,7,8,9,10,11,12,13,14,15,16,17,18,19] rfl rfl rfl rfl (s_move rfl ⟨rfl,rfl,rfl⟩) ?_
         refine xn [(57,pB true),(1,PV.ptr 0 0)] [0,1,2,3,4,5,6,7,8,9,10,11,12,13,14,15,16,17,18,19,20] rfl rfl rfl rfl rfl ?_
         refine xn [(57,pB true),(58,undefP)] [0,1,2,3,4,5,6,7,8,9,10,11,12,13,14,15,16,17,18,19,20,21] rfl rfl rfl rfl rfl ?_
         refine xn [(57,pB true),(59,undefP)] [0,1,2,3,4,5,6,7,8,9,10,11,12,13,14,15,16,17,18,19,20,21,22] rfl rfl rfl rfl rfl ?_
         refine xn [(57,pB true),(60,undefP)] [0,1,2,3,4,5,6,7,8,9,10,11,12,13,14,15,16,17,18,19,20,21,22,23] rfl rfl rfl rfl rfl ?_
         refine d_op ?_
         refine x_run0 [(57,pB true),(61,undefP)] [0,1,2,3,4,5,6,7,8,9,10,11,12,13,14,15,16,17,18,19,20,21,22,23,24] rfl rfl rfl rfl (s_pick_t rfl rfl rfl ⟨rfl,rfl,rfl⟩) ?_
         refine d_op ?_
         refine x_run0 [(62,pB true)] [0,1,2,3,4,5,6,7,8,9,10,11,12,13,14,15,16,17,18,19,20,21,22,23,24,25] rfl rfl rfl rfl (s_assign rfl ⟨rfl,rfl,rfl⟩) ?_
         refine d_end ⟨by kernel_rfl, ?_⟩
         refine q_then ?_
         refine w_if rfl (fun _ => ?_) (fun e => absurd e (by decide))
         refine w_seq ?_
         refine w_R ?_
         refine qa hnt rfl rfl ?_
         refine r_set [(2,pI 12)] [(0,.obj [pI r.fn,pI r.at_,pI r.count,pI r.wAt,pI r.sub,pS 1 false encBo r.bits,pS 1 false enc16 r.vals,p16 r.and_,p16 r.or_])] 1 ⟨rfl,trivial⟩ rfl rfl ?_
         refine r_end ?_
         refine q_then ?_
         refine w_le (s := 2) (y := pI (rightR r)) rfl (le_of_eq (congrArg (fun z : Int => pI z) (show 12 = (rightR r) by first|exact (rightR_1 c1_).symm|exact (right_P c1 c2_ (by omega) (by omega) (by omega) (by omega)).symm|exact (wrong_P c1 (fun h => Bool.noConfusion (c2_.symm.trans h.1))).symm|exact (wrong_P c1 (fun h => by omega)).symm))) ?_
         refine w_ret ?_
         refine q_block_ret ?_
         refine q_then_ret ?_
         exact fin_plain (ret_tmp rfl ret_nil) rfl rfl ⟨rfl,rfl,rfl⟩
       ·
        have g5' := g5
        try simp only [sB] at g5'
        refine xn [(43,pB (!decide (((r.bits.length : Nat) : Int) = bitsN r))),(44,undefP)] [0,1,2,3,4,5,6,7] rfl rfl rfl rfl g5 ?_
        refine xn [(43,pB (!decide (((r.bits.length : Nat) : Int) = bitsN r))),(45,undefP)] [0,1,2,3,4,5,6,7,8] rfl rfl rfl rfl g5 ?_
        refine xn [(43,pB (!decide (((r.bits.length : Nat) : Int) = bitsN r))),(1,PV.ptr 0 0)] [0,1,2,3,4,5,6] rfl rfl rfl rfl g5 ?_
        refine xn [(43,pB (!decide (((r.bits.length : Nat) : Int) = bitsN r))),(47,undefP)] [0,1,2,3,4,5,6,10] rfl rfl rfl rfl g5 ?_
        refine xn [(43,pB (!decide (((r.bits.length : Nat) : Int) = bitsN r))),(46,undefP),(48,undefP)] [0,1,2,3,4,5,6,7,8,9,10,11] rfl rfl rfl rfl g5 ?_
        refine d_op ?_
        refine x_run0 [(43,pB (!decide (((r.bits.length : Nat) : Int) = bitsN r))),(49,undefP)] [0,1,2,3,4,5,6,7,8,9,10,11,12] rfl rfl rfl rfl (s_pick_t rfl g5 rfl ⟨rfl,rfl,rfl⟩) ?_
        refine d_op ?_
        refine x_run0 [(50,pB true)] [0,1,2,3,4,5,6,7,8,9,10,11,12,13] rfl rfl rfl rfl (s_move rfl ⟨rfl,rfl,rfl⟩) ?_
        refine xn [(51,pB true),(1,PV.ptr 0 0)] [0,1,2,3,4,5,6,7,8,9,10,11,12,13,14] rfl rfl rfl rfl rfl ?_
        refine xn [(51,pB true),(52,undefP)] [0,1,2,3,4,5,6,7,8,9,10,11,12,13,14,15] rfl rfl rfl rfl rfl ?_
        refine xn [(51,pB true),(53,undefP)] [0,1,2,3,4,5,6,7,8,9,10,11,12,13,14,15,16] rfl rfl rfl rfl rfl ?_
        refine xn [(51,pB true),(54,undefP)] [0,1,2,3,4,5,6,7,8,9,10,11,12,13,14,15,16,17] rfl rfl rfl rfl rfl ?_
        refine d_op ?_
        refine x_run0 [(51,pB true),(55,undefP)] [0,1,2,3,4,5,6,7,8,9,10,11,12,13,14,15,16,17,18] rfl rfl rfl rfl (s_pick_t rfl rfl rfl ⟨rfl,rfl,rfl⟩) ?_
        refine d_op ?_
        refine x_run0 [(56,pB true)] [0,1,2,3,4,5,6,7,8,9,10,11,12,13,14,15,16,17,18,19] rfl rfl rfl rfl (s_move rfl ⟨rfl,rfl,rfl⟩) ?_
        refine xn [(57,pB true),(1,PV.ptr 0 0)] [0,1,2,3,4,5,6,7,8,9,10,11,12,13,14,15,16,17,18,19,20] rfl rfl rfl rfl rfl ?_
        refine xn [(57,pB true),(58,undefP)] [0,1,2,3,4,5,6,7,8,9,10,11,12,13,14,15,16,17,18,19,20,21] rfl rfl rfl rfl rfl ?_
        refine xn [(57,pB true),(59,undefP)] [0,1,2,3,4,5,6,7,8,9,10,11,12,13,14,15,16,17,18,19,20,21,22] rfl rfl rfl rfl rfl ?_
        refine xn [(57,pB true),(60,undefP)] [0,1,2,3,4,5,6,7,8,9,10,11,12,13,14,15,16,17,18,19,20,21,22,23] rfl rfl rfl rfl rfl ?_
        refine d_op ?_
        refine x_run0 [(57,pB true),(61,undefP)] [0,1,2,3,4,5,6,7,8,9,10,11,12,13,14,15,16,17,18,19,20,21,22,23,24] rfl rfl rfl rfl (s_pick_t rfl rfl rfl ⟨rfl,rfl,rfl⟩) ?_
        refine d_op ?_
        refine x_run0 [(62,pB true)] [0,1,2,3,4,5,6,7,8,9,10,11,12,13,14,15,16,17,18,19,20,21,22,23,24,25] rfl rfl rfl rfl (s_assign rfl ⟨rfl,rfl,rfl⟩) ?_
        refine d_end ⟨by kernel_rfl, ?_⟩
        refine q_then ?_
        refine w_if rfl (fun _ => ?_) (fun e => absurd e (by decide))
        refine w_seq ?_
        refine w_R ?_
        refine qa hnt rfl rfl ?_
        refine r_set [(2,pI 12)] [(0,.obj [pI r.fn,pI r.at_,pI r.count,pI r.wAt,pI r.sub,pS 1 false encBo r.bits,pS 1 false enc16 r.vals,p16 r.and_,p16 r.or_])] 1 ⟨rfl,trivial⟩ rfl rfl ?_
        refine r_end ?_
        refine q_then ?_
        refine w_le (s := 2) (y := pI (rightR r)) rfl (le_of_eq (congrArg (fun z : Int => pI z) (show 12 = (rightR r) by first|exact (rightR_1 c1_).symm|exact (right_P c1 c2_ (by omega) (by omega) (by omega) (by omega)).symm|exact (wrong_P c1 (fun h => Bool.noConfusion (c2_.symm.trans h.1))).symm|exact (wrong_P c1 (fun h => by omega)).symm))) ?_
        refine w_ret ?_
        refine q_block_ret ?_
        refine q_then_ret ?_
        exact fin_plain (ret_tmp rfl ret_nil) rfl rfl ⟨rfl,rfl,rfl⟩
theorem w_burgageref3_bits (s : List Bool) (cl_s : Bool) (m : List Bool) (cl_m : Bool) (hs : s.length ≤ 140737488355328) :
    T Try.prog 53 [pS 1 cl_s encBo s,pS 1 cl_m encBo m] 0 [] (Ret (pB (decide (s = m))) 0 []) := by
 refine t_fun tabOk (n := 26) (rs := [.tmp 4]) Try.func53 rfl rfl rfl rfl (Nat.le_of_ble_eq_true rfl) ?_
 intro c hnt hk
 refine w_seq ?_
 refine w_R ?_
 refine qa hnt rfl rfl ?_
 refine r_end ?_
 refine q_then ?_
 refine w_seq ?_
 refine w_seq ?_
 refine w_R ?_
 refine qm hnt rfl rfl ?_
 refine qo hnt rfl (s_lenM (l := s) tab_23 rfl (hM_sl (f := encBo) rfl) ?_)
 refine qm hnt rfl rfl ?_
 refine qo hnt rfl (s_lenM (l := m) tab_23 rfl (hM_sl (f := encBo) rfl) ?_)
 refine qo hnt rfl (s_neq rfl rfl ?_)
 refine r_end ?_
 refine q_then ?_
 refine w_if rfl (fun c1 => ?_) (fun c1 => ?_)
 ·
  have c1_ := c1
  try simp only [sB] at c1
  have hne : s ≠ m := fun e => by subst e; simp at c1
  refine w_seq ?_
  refine w_R ?_
  refine qa hnt rfl rfl ?_
  refine r_end ?_
  refine q_then ?_
  refine w_le (s := 4) (y := pB (decide (s = m))) rfl (le_of_eq (congrArg (fun z : Bool => pB z) (show false = (decide (s = m)) by simp [hne]))) ?_
  refine w_ret ?_
  refine q_then_ret ?_
  exact fin_plain (ret_tmp rfl ret_nil) rfl rfl ⟨rfl,rfl,rfl⟩
 ·
  have c1_ := c1
  try simp only [sB] at c1
  have hlm : s.length = m.length := by omega
  refine w_skip ?_
  refine q_then ?_
  refine w_seq ?_
  refine w_seq ?_
  refine w_R ?_
  refine qm hnt rfl rfl ?_
  refine qo hnt rfl (s_lenM (l := s) tab_23 rfl (hM_sl (f := encBo) rfl) ?_)
  refine qm hnt rfl rfl ?_
  refine r_end ?_
  refine q_then ?_
  refine w_block ?_
  refine loop1 (fun (i : Nat) => i ≤ s.length ∧ s.take i = m.take i) (fun (i : Nat) => [(0,pS 1 cl_s encBo s),(1,pS 1 cl_m encBo m),(12,pN s.length),(13,pN i)]) 0 (fun (i : Nat) => []) (fun (i : Nat) => s.length - i) (0) ?_ ⟨[],rfl,⟨⟨_,rfl,rfl,rfl⟩,⟨_,rfl,rfl,rfl⟩,⟨_,rfl,rfl,rfl⟩,⟨_,rfl,rfl,rfl⟩,trivial⟩,trivial,by rw [hk]; decide⟩ ?_
  · exact ⟨Nat.zero_le _,by simp⟩
  ·
   intro i hI
   obtain ⟨hi,ht⟩ := hI
   refine w_seq ?_
   refine w_R ?_
   refine qo hnt rfl (s_lss rfl rfl ?_)
   refine r_end ?_
   refine q_then ?_
   refine w_seq ?_
   refine w_if rfl (fun c2 => ?_) (fun c2 => ?_)
   ·
    have c2_ := c2
    try simp only [sB] at c2
    refine w_skip ?_
    refine q_then ?_
    refine w_seq ?_
    refine w_block ?_
    refine w_seq ?_
    refine w_R ?_
    refine qm hnt rfl rfl ?_
    refine qa hnt rfl rfl ?_
    refine r_end ?_
    refine q_then ?_
    refine w_seq ?_
    refine W_drawn tabOk mixed hnt [[],[],[0,1],[0,1,2],[],[],[4,5],[4,5,6],[0,1,2,3,4,5,6,7]] (by kernel_rfl) ?_
    refine d_op ?_
    refine x_run0 [(0,pS 1 cl_s encBo s)] [] rfl rfl rfl rfl (s_move rfl ⟨rfl,rfl,rfl⟩) ?_
    refine d_op ?_
    refine x_run0 [(5,pN i)] [] rfl rfl rfl rfl (s_move rfl ⟨rfl,rfl,rfl⟩) ?_
    refine d_op ?_
    obtain ⟨e1,he1⟩ := get_of_lt s (i := i) (by omega)
    refine x_run0 [(16,pS 1 cl_s encBo s),(17,pN i)] [0,1] rfl rfl rfl rfl (s_iaM (q := i) (b := e1) (f := encBo) tab_23 rfl tab_4 rfl rfl (by omega) rfl he1 ⟨rfl,rfl,rfl⟩) ?_
    refine d_op ?_
    refine x_run0 [(18,PV.f (.ro (encBo e1)))] [0,1,2] rfl rfl rfl rfl (s_load_ro1 tab_4 rfl rfl rfl rfl ⟨rfl,rfl,rfl⟩) ?_
    refine d_op ?_
    refine x_run0 [(1,pS 1 cl_m encBo m)] [] rfl rfl rfl rfl (s_move rfl ⟨rfl,rfl,rfl⟩) ?_
    refine d_op ?_
    refine x_run0 [(5,pN i)] [] rfl rfl rfl rfl (s_move rfl ⟨rfl,rfl,rfl⟩) ?_
    refine d_op ?_
    obtain ⟨e2,he2⟩ := get_of_lt m (i := i) (by omega)
    refine x_run0 [(20,pS 1 cl_m encBo m),(21,pN i)] [4,5] rfl rfl rfl rfl (s_iaM (q := i) (b := e2) (f := encBo) tab_23 rfl tab_4 rfl rfl (by omega) rfl he2 ⟨rfl,rfl,rfl⟩) ?_
    refine d_op ?_
    refine x_run0 [(22,PV.f (.ro (encBo e2)))] [4,5,6] rfl rfl rfl rfl (s_load_ro1 tab_4 rfl rfl rfl rfl ⟨rfl,rfl,rfl⟩) ?_
    refine d_op ?_
    refine x_run0 [(19,pB e1),(23,pB e2)] [0,1,2,3,4,5,6,7] rfl rfl rfl rfl (s_nebool tab_4 rfl rfl rfl ⟨rfl,rfl,rfl⟩) ?_
    refine d_end ⟨by kernel_rfl, ?_⟩
    refine q_then ?_
    refine w_if rfl (fun c3 => ?_) (fun c3 => ?_)
    ·
     have c3_ := c3
     try simp only [sB] at c3
     have hne : s ≠ m := fun e => by subst e; rw [he1] at he2; cases he2; simp at c3
     refine w_seq ?_
     refine w_R ?_
     refine qa hnt rfl rfl ?_
     refine r_end ?_
     refine q_then ?_
     refine w_le (s := 4) (y := pB (decide (s = m))) rfl (le_of_eq (congrArg (fun z : Bool => pB z) (show false = (decide (s = m)) by simp [hne]))) ?_
     refine w_ret ?_
     refine q_block_ret ?_
     refine q_then_ret ?_
     refine q_then_ret ?_
     refine q_block_ret ?_
     refine q_then_ret ?_
     exact fin_plain (ret_tmp rfl ret_nil) rfl rfl ⟨rfl,rfl,rfl⟩
    ·
     have c3_ := c3
     try simp only [sB] at c3
     have c3e : e1 = e2 := by simpa using c3
     refine w_skip ?_
     refine q_block ?_
     refine q_then ?_
     refine w_R ?_
     refine qo hnt rfl (s_addN (a := i) (b := 1) rfl rfl (by omega) (by omega) (by omega) ?_)
     refine qm hnt rfl rfl ?_
     refine r_end ?_
     refine q_then ?_
     refine ⟨(i + 1), ?_, ?_,⟨[],rfl,⟨⟨_,rfl,rfl,rfl⟩,⟨_,rfl,rfl,rfl⟩,⟨_,rfl,rfl,rfl⟩,⟨_,rfl,rfl,rfl⟩,trivial⟩,trivial,by rw [hk]; decide⟩⟩
     ·
      refine ⟨by omega, ?_⟩
      rw [List.take_add_one,List.take_add_one,he1,he2,ht,c3e]
     · omega
   ·
    have c2_ := c2
    try simp only [sB] at c2
    have h1 : s.take i = s := List.take_of_length_le (by omega)
    have h2 : m.take i = m := List.take_of_length_le (by omega)
    have he : s = m := by rw [← h1,← h2,ht]
    refine w_exit ?_
    refine q_then_exit ?_
    refine q_then_exit ?_
    refine q_block_exit ?_
    refine q_then ?_
    refine w_seq ?_
    refine w_R ?_
    refine qa hnt rfl rfl ?_
    refine r_end ?_
    refine q_then ?_
    refine w_le (s := 4) (y := pB (decide (s = m))) rfl (le_of_eq (congrArg (fun z : Bool => pB z) (show true = (decide (s = m)) by simp [he]))) ?_
    refine w_ret ?_
    exact fin_plain (ret_tmp rfl ret_nil) rfl rfl ⟨rfl,rfl,rfl⟩
theorem w_burgageref3_vals (s : List UInt16) (cl_s : Bool) (m : List UInt16) (cl_m : Bool) (hs : s.length ≤ 140737488355328) :
    T Try.prog 54 [pS 1 cl_s enc16 s,pS 1 cl_m enc16 m] 0 [] (Ret (pB (decide (s = m))) 0 []) := by
 refine t_fun tabOk (n := 26) (rs := [.tmp 4]) Try.func54 rfl rfl rfl rfl (Nat.le_of_ble_eq_true rfl) ?_
 intro c hnt hk
 refine w_seq ?_
 refine w_R ?_
 refine qa hnt rfl rfl ?_
 refine r_end ?_
 refine q_then ?_
 refine w_seq ?_
 refine w_seq ?_
 refine w_R ?_
 refine qm hnt rfl rfl ?_
 refine qo hnt rfl (s_lenM (l := s) tab_24 rfl (hM_sl (f := enc16) rfl) ?_)
 refine qm hnt rfl rfl ?_
 refine qo hnt rfl (s_lenM (l := m) tab_24 rfl (hM_sl (f := enc16) rfl) ?_)
 refine qo hnt rfl (s_neq rfl rfl ?_)
 refine r_end ?_
 refine q_then ?_
 refine w_if rfl (fun c1 => ?_) (fun c1 => ?_)
 ·
  have c1_ := c1
  try simp only [sB] at c1
  have hne : s ≠ m := fun e => by subst e; simp at c1
  refine w_seq ?_
  refine w_R ?_
  refine qa hnt rfl rfl ?_
  refine r_end ?_
  refine q_then ?_
  refine w_le (s := 4) (y := pB (decide (s = m))) rfl (le_of_eq (congrArg (fun z : Bool => pB z) (show false = (decide (s = m)) by simp [hne]))) ?_
  refine w_ret ?_
  refine q_then_ret ?_
  exact fin_plain (ret_tmp rfl ret_nil) rfl rfl ⟨rfl,rfl,rfl⟩
 ·
  have c1_ := c1
  try simp only [sB] at c1
  have hlm : s.length = m.length := by omega
  refine w_skip ?_
  refine q_then ?_
  refine w_seq ?_
  refine w_seq ?_
  refine w_R ?_
  refine qm hnt rfl rfl ?_
  refine qo hnt rfl (s_lenM (l := s) tab_24 rfl (hM_sl (f := enc16) rfl) ?_)
  refine qm hnt rfl rfl ?_
  refine r_end ?_
  refine q_then ?_
  refine w_block ?_
  refine loop1 (fun (i : Nat) => i ≤ s.length ∧ s.take i = m.take i) (fun (i : Nat) => [(0,pS 1 cl_s enc16 s),(1,pS 1 cl_m enc16 m),(12,pN s.length),(13,pN i)]) 0 (fun (i : Nat) => []) (fun (i : Nat) => s.length - i) (0) ?_ ⟨[],rfl,⟨⟨_,rfl,rfl,rfl⟩,⟨_,rfl,rfl,rfl⟩,⟨_,rfl,rfl,rfl⟩,⟨_,rfl,rfl,rfl⟩,trivial⟩,trivial,by rw [hk]; decide⟩ ?_
  · exact ⟨Nat.zero_le _,by simp⟩
  ·
   intro i hI
   obtain ⟨hi,ht⟩ := hI
   refine w_seq ?_
   refine w_R ?_
   refine qo hnt rfl (s_lss rfl rfl ?_)
   refine r_end ?_
   refine q_then ?_
   refine w_seq ?_
   refine w_if rfl (fun c2 => ?_) (fun c2 => ?_)
   ·
    have c2_ := c2
    try simp only [sB] at c2
    refine w_skip ?_
    refine q_then ?_
    refine w_seq ?_
    refine w_block ?_
    refine w_seq ?_
    refine w_R ?_
    refine qm hnt rfl rfl ?_
    refine qa hnt rfl rfl ?_
    refine r_end ?_
    refine q_then ?_
    refine w_seq ?_
    refine W_drawn tabOk mixed hnt [[],[],[0,1],[0,1,2],[],[],[4,5],[4,5,6],[0,1,2,3,4,5,6,7]] (by kernel_rfl) ?_
    refine d_op ?_
    refine x_run0 [(0,pS 1 cl_s enc16 s)] [] rfl rfl rfl rfl (s_move rfl ⟨rfl,rfl,rfl⟩) ?_
    refine d_op ?_
    refine x_run0 [(5,pN i)] [] rfl rfl rfl rfl (s_move rfl ⟨rfl,rfl,rfl⟩) ?_
    refine d_op ?_
    obtain ⟨e1,he1⟩ := get_of_lt s (i := i) (by omega)
    refine x_run0 [(16,pS 1 cl_s enc16 s),(17,pN i)] [0,1] rfl rfl rfl rfl (s_iaM (q := i) (b := e1) (f := enc16) tab_24 rfl tab_25 rfl rfl (by omega) rfl he1 ⟨rfl,rfl,rfl⟩) ?_
    refine d_op ?_
    refine x_run0 [(18,PV.f (.ro (enc16 e1)))] [0,1,2] rfl rfl rfl rfl (s_load_ro1 tab_25 rfl rfl rfl rfl ⟨rfl,rfl,rfl⟩) ?_
    refine d_op ?_
    refine x_run0 [(1,pS 1 cl_m enc16 m)] [] rfl rfl rfl rfl (s_move rfl ⟨rfl,rfl,rfl⟩) ?_
    refine d_op ?_
    refine x_run0 [(5,pN i)] [] rfl rfl rfl rfl (s_move rfl ⟨rfl,rfl,rfl⟩) ?_
    refine d_op ?_
    obtain ⟨e2,he2⟩ := get_of_lt m (i := i) (by omega)
    refine x_run0 [(20,pS 1 cl_m enc16 m),(21,pN i)] [4,5] rfl rfl rfl rfl (s_iaM (q := i) (b := e2) (f := enc16) tab_24 rfl tab_25 rfl rfl (by omega) rfl he2 ⟨rfl,rfl,rfl⟩) ?_
    refine d_op ?_
    refine x_run0 [(22,PV.f (.ro (enc16 e2)))] [4,5,6] rfl rfl rfl rfl (s_load_ro1 tab_25 rfl rfl rfl rfl ⟨rfl,rfl,rfl⟩) ?_
    refine d_op ?_
    refine x_run0 [(19,p16 e1),(23,p16 e2)] [0,1,2,3,4,5,6,7] rfl rfl rfl rfl (s_neq16 (a := e1) (b := e2) rfl rfl ⟨rfl,rfl,rfl⟩) ?_
    refine d_end ⟨by kernel_rfl, ?_⟩
    refine q_then ?_
    refine w_if rfl (fun c3 => ?_) (fun c3 => ?_)
    ·
     have c3_ := c3
     try simp only [sB] at c3
     have hne : s ≠ m := fun e => by subst e; rw [he1] at he2; cases he2; simp at c3
     refine w_seq ?_
     refine w_R ?_
     refine qa hnt rfl rfl ?_
     refine r_end ?_
     refine q_then ?_
     refine w_le (s := 4) (y := pB (decide (s = m))) rfl (le_of_eq (congrArg (fun z : Bool => pB z) (show false = (decide (s = m)) by simp [hne]))) ?_
     refine w_ret ?_
     refine q_block_ret ?_
     refine q_then_ret ?_
     refine q_then_ret ?_
     refine q_block_ret ?_
     refine q_then_ret ?_
     exact fin_plain (ret_tmp rfl ret_nil) rfl rfl ⟨rfl,rfl,rfl⟩
    ·
     have c3_ := c3
     try simp only [sB] at c3
     have c3e : e1 = e2 := by simpa using c3
     refine w_skip ?_
     refine q_block ?_
     refine q_then ?_
     refine w_R ?_
     refine qo hnt rfl (s_addN (a := i) (b := 1) rfl rfl (by omega) (by omega) (by omega) ?_)
     refine qm hnt rfl rfl ?_
     refine r_end ?_
     refine q_then ?_
     refine ⟨(i + 1), ?_, ?_,⟨[],rfl,⟨⟨_,rfl,rfl,rfl⟩,⟨_,rfl,rfl,rfl⟩,⟨_,rfl,rfl,rfl⟩,⟨_,rfl,rfl,rfl⟩,trivial⟩,trivial,by rw [hk]; decide⟩⟩
     ·
      refine ⟨by omega, ?_⟩
      rw [List.take_add_one,List.take_add_one,he1,he2,ht,c3e]
     · omega
   ·
    have c2_ := c2
    try simp only [sB] at c2
    have h1 : s.take i = s := List.take_of_length_le (by omega)
    have h2 : m.take i = m := List.take_of_length_le (by omega)
    have he : s = m := by rw [← h1,← h2,ht]
    refine w_exit ?_
    refine q_then_exit ?_
    refine q_then_exit ?_
    refine q_block_exit ?_
    refine q_then ?_
    refine w_seq ?_
    refine w_R ?_
    refine qa hnt rfl rfl ?_
    refine r_end ?_
    refine q_then ?_
    refine w_le (s := 4) (y := pB (decide (s = m))) rfl (le_of_eq (congrArg (fun z : Bool => pB z) (show true = (decide (s = m)) by simp [he]))) ?_
    refine w_ret ?_
    exact fin_plain (ret_tmp rfl ret_nil) rfl rfl ⟨rfl,rfl,rfl⟩
theorem w_burgageref3_Same (a : TRequest) (b : TRequest) (ha : a.bits.length ≤ 140737488351232 ∧ a.vals.length ≤ 140737488351232) :
    T Try.prog 26 [PV.f (eRequest a),PV.f (eRequest b)] 0 [] (Ret (pB (decide (a = b))) 0 []) := by
 refine t_fun tabOk (n := 66) (rs := [.tmp 4]) Try.func26 rfl rfl rfl rfl (Nat.le_of_ble_eq_true rfl) ?_
 intro c hnt hk
 refine w_seq ?_
 refine w_R ?_
 refine qo hnt rfl (s_box rfl rfl ?_)
 refine qo hnt rfl (s_box rfl rfl ?_)
 refine qa hnt rfl rfl ?_
 refine r_set [(2,PV.ptr 0 0),(3,PV.ptr 1 0)] [(1,.obj [pI b.fn,pI b.at_,pI b.count,pI b.wAt,pI b.sub,pS 1 false encBo b.bits,pS 1 false enc16 b.vals,p16 b.and_,p16 b.or_]),(0,.obj [pI a.fn,pI a.at_,pI a.count,pI a.wAt,pI a.sub,pS 1 false encBo a.bits,pS 1 false enc16 a.vals,p16 a.and_,p16 a.or_])] 2 ⟨rfl,rfl,trivial⟩ rfl rfl ?_
 refine r_end ?_
 refine q_then ?_
 refine w_seq ?_
 refine w_R ?_
 refine qo hnt rfl (s_fa_ptr tab_27 rfl rfl tab_3 (by decide) rfl ?_)
 refine qo hnt rfl (s_load_ptr1 tab_3 rfl rfl rfl rfl rfl ?_)
 refine qo hnt rfl (s_fa_ptr tab_27 rfl rfl tab_3 (by decide) rfl ?_)
 refine qo hnt rfl (s_load_ptr1 tab_3 rfl rfl rfl rfl rfl ?_)
 refine qo hnt rfl (s_eql rfl rfl ?_)
 refine qm hnt rfl rfl ?_
 refine r_cut0 6 [(2,PV.ptr 0 0),(3,PV.ptr 1 0),(16,pB ((decide (a.fn = b.fn)) && (decide (a.at_ = b.at_))))] ?_ ?_
 ·
  refine r_if tabOk hnt rfl rfl rfl (fun g1 => ?_) (fun g1 => ?_)
  ·
   have g1' := g1
   try simp only [sB] at g1'
   refine qo hnt rfl (s_fa_ptr tab_27 rfl rfl tab_3 (by decide) rfl ?_)
   refine ry hnt rfl rfl rfl g1 ?_
   refine qo hnt rfl (s_load_ptr1 tab_3 rfl rfl rfl rfl rfl ?_)
   refine ry hnt rfl rfl rfl g1 ?_
   refine qo hnt rfl (s_fa_ptr tab_27 rfl rfl tab_3 (by decide) rfl ?_)
   refine ry hnt rfl rfl rfl g1 ?_
   refine qo hnt rfl (s_load_ptr1 tab_3 rfl rfl rfl rfl rfl ?_)
   refine ry hnt rfl rfl rfl g1 ?_
   refine qo hnt rfl (s_eql rfl rfl ?_)
   refine qo hnt rfl (s_pick_t rfl g1 rfl ?_)
   refine r_eq (s := 16) (y := pB ((decide (a.fn = b.fn)) && (decide (a.at_ = b.at_)))) rfl (mix_at g1) ?_
   exact r_mid ⟨⟨rfl,rfl,rfl,trivial⟩,rfl,rfl⟩
  ·
   have g1' := g1
   try simp only [sB] at g1'
   refine rn hnt rfl rfl rfl g1 ?_
   refine rn hnt rfl rfl rfl g1 ?_
   refine rn hnt rfl rfl rfl g1 ?_
   refine rn hnt rfl rfl rfl g1 ?_
   refine qo hnt rfl (s_pick_f rfl g1 rfl ?_)
   refine r_eq (s := 16) (y := pB ((decide (a.fn = b.fn)) && (decide (a.at_ = b.at_)))) rfl (mix_af _ g1) ?_
   exact r_mid ⟨⟨rfl,rfl,rfl,trivial⟩,rfl,rfl⟩
 ·
  refine qm hnt rfl rfl ?_
  refine r_cut0 6 [(2,PV.ptr 0 0),(3,PV.ptr 1 0),(23,pB (((decide (a.fn = b.fn)) && (decide (a.at_ = b.at_))) && (decide (a.count = b.count))))] ?_ ?_
  ·
   refine r_if tabOk hnt rfl rfl rfl (fun g2 => ?_) (fun g2 => ?_)
   ·
    have g2' := g2
    try simp only [sB] at g2'
    refine qo hnt rfl (s_fa_ptr tab_27 rfl rfl tab_3 (by decide) rfl ?_)
    refine ry hnt rfl rfl rfl g2 ?_
    refine qo hnt rfl (s_load_ptr1 tab_3 rfl rfl rfl rfl rfl ?_)
    refine ry hnt rfl rfl rfl g2 ?_
    refine qo hnt rfl (s_fa_ptr tab_27 rfl rfl tab_3 (by decide) rfl ?_)
    refine ry hnt rfl rfl rfl g2 ?_
    refine qo hnt rfl (s_load_ptr1 tab_3 rfl rfl rfl rfl rfl ?_)
    refine ry hnt rfl rfl rfl g2 ?_
    refine qo hnt rfl (s_eql rfl rfl ?_)
    refine qo hnt rfl (s_pick_t rfl g2 rfl ?_)
    refine r_eq (s := 23) (y := pB (((decide (a.fn = b.fn)) && (decide (a.at_ = b.at_))) && (decide (a.count = b.count)))) rfl (mix_at g2) ?_
    exact r_mid ⟨⟨rfl,rfl,rfl,trivial⟩,rfl,rfl⟩
   ·
    have g2' := g2
    try simp only [sB] at g2'
    refine rn hnt rfl rfl rfl g2 ?_
    refine rn hnt rfl rfl rfl g2 ?_
    refine rn hnt rfl rfl rfl g2 ?_
    refine rn hnt rfl rfl rfl g2 ?_
    refine qo hnt rfl (s_pick_f rfl g2 rfl ?_)
    refine r_eq (s := 23) (y := pB (((decide (a.fn = b.fn)) && (decide (a.at_ = b.at_))) && (decide (a.count = b.count)))) rfl (mix_af _ g2) ?_
    exact r_mid ⟨⟨rfl,rfl,rfl,trivial⟩,rfl,rfl⟩
  ·
   refine qm hnt rfl rfl ?_
   refine r_cut0 6 [(2,PV.ptr 0 0),(3,PV.ptr 1 0),(30,pB ((((decide (a.fn = b.fn)) && (decide (a.at_ = b.at_))) && (decide (a.count = b.count))) && (decide (a.wAt = b.wAt))))] ?_ ?_
   ·
    refine r_if tabOk hnt rfl rfl rfl (fun g3 => ?_) (fun g3 => ?_)
    ·
     have g3' := g3
     try simp only [sB] at g3'
     refine qo hnt rfl (s_fa_ptr tab_27 rfl rfl tab_3 (by decide) rfl ?_)
     refine ry hnt rfl rfl rfl g3 ?_
     refine qo hnt rfl (s_load_ptr1 tab_3 rfl rfl rfl rfl rfl ?_)
     refine ry hnt rfl rfl rfl g3 ?_
     refine qo hnt rfl (s_fa_ptr tab_27 rfl rfl tab_3 (by decide) rfl ?_)
     refine ry hnt rfl rfl rfl g3 ?_
     refine qo hnt rfl (s_load_ptr1 tab_3 rfl rfl rfl rfl rfl ?_)
     refine ry hnt rfl rfl rfl g3 ?_
     refine qo hnt rfl (s_eql rfl rfl ?_)
     refine qo hnt rfl (s_pick_t rfl g3 rfl ?_)
     refine r_eq (s := 30) (y := pB ((((decide (a.fn = b.fn)) && (decide (a.at_ = b.at_))) && (decide (a.count = b.count))) && (decide (a.wAt = b.wAt)))) rfl (mix_at g3) ?_
     exact r_mid ⟨⟨rfl,rfl,rfl,trivial⟩,rfl,rfl⟩
    ·
     have g3' := g3
     try simp only [sB] at g3'
     refine rn hnt rfl rfl rfl g3 ?_
     refine rn hnt rfl rfl rfl g3 ?_
     refine rn hnt rfl rfl rfl g3 ?_
     refine rn hnt rfl rfl rfl g3 ?_
     refine qo hnt rfl (s_pick_f rfl g3 rfl ?_)
     refine r_eq (s := 30) (y := pB ((((decide (a.fn = b.fn)) && (decide (a.at_ = b.at_))) && (decide (a.count = b.count))) && (decide (a.wAt = b.wAt)))) rfl (mix_af _ g3) ?_
     exact r_mid ⟨⟨rfl,rfl,rfl,trivial⟩,rfl,rfl⟩
   ·
    refine qm hnt rfl rfl ?_
    refine r_cut0 6 [(2,PV.ptr 0 0),(3,PV.ptr 1 0),(37,pB (((((decide (a.fn = b.fn)) && (decide (a.at_ = b.at_))) && (decide (a.count = b.count))) && (decide (a.wAt = b.wAt))) && (decide (a.sub = b.sub))))] ?_ ?_
    ·
     refine r_if tabOk hnt rfl rfl rfl (fun g4 => ?_) (fun g4 => ?_)
     ·
      have g4' := g4
      try simp only [sB] at g4'
      refine qo hnt rfl (s_fa_ptr tab_27 rfl rfl tab_3 (by decide) rfl ?_)
      refine ry hnt rfl rfl rfl g4 ?_
      refine qo hnt rfl (s_load_ptr1 tab_3 rfl rfl rfl rfl rfl ?_)
      refine ry hnt rfl rfl rfl g4 ?_
      refine qo hnt rfl (s_fa_ptr tab_27 rfl rfl tab_3 (by decide) rfl ?_)
      refine ry hnt rfl rfl rfl g4 ?_
      refine qo hnt rfl (s_load_ptr1 tab_3 rfl rfl rfl rfl rfl ?_)
      refine ry hnt rfl rfl rfl g4 ?_
      refine qo hnt rfl (s_eql rfl rfl ?_)
      refine qo hnt rfl (s_pick_t rfl g4 rfl ?_)
      refine r_eq (s := 37) (y := pB (((((decide (a.fn = b.fn)) && (decide (a.at_ = b.at_))) && (decide (a.count = b.count))) && (decide (a.wAt = b.wAt))) && (decide (a.sub = b.sub)))) rfl (mix_at g4) ?_
      exact r_mid ⟨⟨rfl,rfl,rfl,trivial⟩,rfl,rfl⟩
     ·
      have g4' := g4
      try simp only [sB] at g4'
      refine rn hnt rfl rfl rfl g4 ?_
      refine rn hnt rfl rfl rfl g4 ?_
      refine rn hnt rfl rfl rfl g4 ?_
      refine rn hnt rfl rfl rfl g4 ?_
      refine qo hnt rfl (s_pick_f rfl g4 rfl ?_)
      refine r_eq (s := 37) (y := pB (((((decide (a.fn = b.fn)) && (decide (a.at_ = b.at_))) && (decide (a.count = b.count))) && (decide (a.wAt = b.wAt))) && (decide (a.sub = b.sub)))) rfl (mix_af _ g4) ?_
      exact r_mid ⟨⟨rfl,rfl,rfl,trivial⟩,rfl,rfl⟩
    ·
     refine qm hnt rfl rfl ?_
     refine r_cut0 6 [(2,PV.ptr 0 0),(3,PV.ptr 1 0),(44,pB ((((((decide (a.fn = b.fn)) && (decide (a.at_ = b.at_))) && (decide (a.count = b.count))) && (decide (a.wAt = b.wAt))) && (decide (a.sub = b.sub))) && (decide (a.and_ = b.and_))))] ?_ ?_
     ·
      refine r_if tabOk hnt rfl rfl rfl (fun g5 => ?_) (fun g5 => ?_)
      ·
       have g5' := g5
       try simp only [sB] at g5'
       refine qo hnt rfl (s_fa_ptr tab_27 rfl rfl tab_25 (by decide) rfl ?_)
       refine ry hnt rfl rfl rfl g5 ?_
       refine qo hnt rfl (s_load_ptr1 tab_25 rfl rfl rfl rfl rfl ?_)
       refine ry hnt rfl rfl rfl g5 ?_
       refine qo hnt rfl (s_fa_ptr tab_27 rfl rfl tab_25 (by decide) rfl ?_)
       refine ry hnt rfl rfl rfl g5 ?_
       refine qo hnt rfl (s_load_ptr1 tab_25 rfl rfl rfl rfl rfl ?_)
       refine ry hnt rfl rfl rfl g5 ?_
       refine qo hnt rfl (s_eql16 (a := a.and_) (b := b.and_) rfl rfl ?_)
       refine qo hnt rfl (s_pick_t rfl g5 rfl ?_)
       refine r_eq (s := 44) (y := pB ((((((decide (a.fn = b.fn)) && (decide (a.at_ = b.at_))) && (decide (a.count = b.count))) && (decide (a.wAt = b.wAt))) && (decide (a.sub = b.sub))) && (decide (a.and_ = b.and_)))) rfl (mix_at g5) ?_
       exact r_mid ⟨⟨rfl,rfl,rfl,trivial⟩,rfl,rfl⟩
      ·
       have g5' := g5
       try simp only [sB] at g5'
       refine rn hnt rfl rfl rfl g5 ?_
       refine rn hnt rfl rfl rfl g5 ?_
       refine rn hnt rfl rfl rfl g5 ?_
       refine rn hnt rfl rfl rfl g5 ?_
       refine qo hnt rfl (s_pick_f rfl g5 rfl ?_)
       refine r_eq (s := 44) (y := pB ((((((decide (a.fn = b.fn)) && (decide (a.at_ = b.at_))) && (decide (a.count = b.count))) && (decide (a.wAt = b.wAt))) && (decide (a.sub = b.sub))) && (decide (a.and_ = b.and_)))) rfl (mix_af _ g5) ?_
       exact r_mid ⟨⟨rfl,rfl,rfl,trivial⟩,rfl,rfl⟩
     ·
      refine qm hnt rfl rfl ?_
      refine r_cut0 6 [(2,PV.ptr 0 0),(3,PV.ptr 1 0),(51,pB (((((((decide (a.fn = b.fn)) && (decide (a.at_ = b.at_))) && (decide (a.count = b.count))) && (decide (a.wAt = b.wAt))) && (decide (a.sub = b.sub))) && (decide (a.and_ = b.and_))) && (decide (a.or_ = b.or_))))] ?_ ?_
      ·
       refine r_if tabOk hnt rfl rfl rfl (fun g6 => ?_) (fun g6 => ?_)
       ·
        have g6' := g6
        try simp only [sB] at g6'
        refine qo hnt rfl (s_fa_ptr tab_27 rfl rfl tab_25 (by decide) rfl ?_)
        refine ry hnt rfl rfl rfl g6 ?_
        refine qo hnt rfl (s_load_ptr1 tab_25 rfl rfl rfl rfl rfl ?_)
        refine ry hnt rfl rfl rfl g6 ?_
        refine qo hnt rfl (s_fa_ptr tab_27 rfl rfl tab_25 (by decide) rfl ?_)
        refine ry hnt rfl rfl rfl g6 ?_
        refine qo hnt rfl (s_load_ptr1 tab_25 rfl rfl rfl rfl rfl ?_)
        refine ry hnt rfl rfl rfl g6 ?_
        refine qo hnt rfl (s_eql16 (a := a.or_) (b := b.or_) rfl rfl ?_)
        refine qo hnt rfl (s_pick_t rfl g6 rfl ?_)
        refine r_eq (s := 51) (y := pB (((((((decide (a.fn = b.fn)) && (decide (a.at_ = b.at_))) && (decide (a.count = b.count))) && (decide (a.wAt = b.wAt))) && (decide (a.sub = b.sub))) && (decide (a.and_ = b.and_))) && (decide (a.or_ = b.or_)))) rfl (mix_at g6) ?_
        exact r_mid ⟨⟨rfl,rfl,rfl,trivial⟩,rfl,rfl⟩
       ·
        have g6' := g6
        try simp only [sB] at g6'
        refine rn hnt rfl rfl rfl g6 ?_
        refine rn hnt rfl rfl rfl g6 ?_
        refine rn hnt rfl rfl rfl g6 ?_
        refine rn hnt rfl rfl rfl g6 ?_
        refine qo hnt rfl (s_pick_f rfl g6 rfl ?_)
        refine r_eq (s := 51) (y := pB (((((((decide (a.fn = b.fn)) && (decide (a.at_ = b.at_))) && (decide (a.count = b.count))) && (decide (a.wAt = b.wAt))) && (decide (a.sub = b.sub))) && (decide (a.and_ = b.and_))) && (decide (a.or_ = b.or_)))) rfl (mix_af _ g6) ?_
        exact r_mid ⟨⟨rfl,rfl,rfl,trivial⟩,rfl,rfl⟩
      ·
       refine qm hnt rfl rfl ?_
       refine r_cut0 6 [(2,PV.ptr 0 0),(3,PV.ptr 1 0),(58,pB ((((((((decide (a.fn = b.fn)) && (decide (a.at_ = b.at_))) && (decide (a.count = b.count))) && (decide (a.wAt = b.wAt))) && (decide (a.sub = b.sub))) && (decide (a.and_ = b.and_))) && (decide (a.or_ = b.or_))) && (decide (a.bits = b.bits))))] ?_ ?_
       ·
        refine r_if tabOk hnt rfl rfl rfl (fun g7 => ?_) (fun g7 => ?_)
        ·
         have g7' := g7
         try simp only [sB] at g7'
         refine qo hnt rfl (s_fa_ptr tab_27 rfl rfl tab_23 (by decide) rfl ?_)
         refine ry hnt rfl rfl rfl g7 ?_
         refine qo hnt rfl (s_load_ptr1 tab_23 rfl rfl rfl rfl rfl ?_)
         refine ry hnt rfl rfl rfl g7 ?_
         refine qo hnt rfl (s_fa_ptr tab_27 rfl rfl tab_23 (by decide) rfl ?_)
         refine ry hnt rfl rfl rfl g7 ?_
         refine qo hnt rfl (s_load_ptr1 tab_23 rfl rfl rfl rfl rfl ?_)
         refine ry hnt rfl rfl rfl g7 ?_
         refine qo hnt rfl (s_callF rfl rfl rfl (w_burgageref3_bits a.bits false b.bits false (by first|omega|assumption|(simp; omega)|decide|(simp; done))) rfl ?_)
         refine qo hnt rfl (s_pick_t rfl g7 rfl ?_)
         refine r_eq (s := 58) (y := pB ((((((((decide (a.fn = b.fn)) && (decide (a.at_ = b.at_))) && (decide (a.count = b.count))) && (decide (a.wAt = b.wAt))) && (decide (a.sub = b.sub))) && (decide (a.and_ = b.and_))) && (decide (a.or_ = b.or_))) && (decide (a.bits = b.bits)))) rfl (mix_at g7) ?_
         exact r_mid ⟨⟨rfl,rfl,rfl,trivial⟩,rfl,rfl⟩
        ·
         have g7' := g7
         try simp only [sB] at g7'
         refine rn hnt rfl rfl rfl g7 ?_
         refine rn hnt rfl rfl rfl g7 ?_
         refine rn hnt rfl rfl rfl g7 ?_
         refine rn hnt rfl rfl rfl g7 ?_
         refine qo hnt rfl (s_pick_f rfl g7 rfl ?_)
         refine r_eq (s := 58) (y := pB ((((((((decide (a.fn = b.fn)) && (decide (a.at_ = b.at_))) && (decide (a.count = b.count))) && (decide (a.wAt = b.wAt))) && (decide (a.sub = b.sub))) && (decide (a.and_ = b.and_))) && (decide (a.or_ = b.or_))) && (decide (a.bits = b.bits)))) rfl (mix_af _ g7) ?_
         exact r_mid ⟨⟨rfl,rfl,rfl,trivial⟩,rfl,rfl⟩
       ·
        refine qm hnt rfl rfl ?_
        refine r_cut0 6 [(65,pB (((((((((decide (a.fn = b.fn)) && (decide (a.at_ = b.at_))) && (decide (a.count = b.count))) && (decide (a.wAt = b.wAt))) && (decide (a.sub = b.sub))) && (decide (a.and_ = b.and_))) && (decide (a.or_ = b.or_))) && (decide (a.bits = b.bits))) && (decide (a.vals = b.vals))))] ?_ ?_
        ·
         refine r_if tabOk hnt rfl rfl rfl (fun g8 => ?_) (fun g8 => ?_)
         ·
          have g8' := g8
          try simp only [sB] at g8'
          refine qo hnt rfl (s_fa_ptr tab_27 rfl rfl tab_24 (by decide) rfl ?_)
          refine ry hnt rfl rfl rfl g8 ?_
          refine qo hnt rfl (s_load_ptr1 tab_24 rfl rfl rfl rfl rfl ?_)
          refine ry hnt rfl rfl rfl g8 ?_
          refine qo hnt rfl (s_fa_ptr tab_27 rfl rfl tab_24 (by decide) rfl ?_)
          refine ry hnt rfl rfl rfl g8 ?_
          refine qo hnt rfl (s_load_ptr1 tab_24 rfl rfl rfl rfl rfl ?_)
          refine ry hnt rfl rfl rfl g8 ?_
          refine qo hnt rfl (s_callF rfl rfl rfl (w_burgageref3_vals a.vals false b.vals false (by first|omega|assumption|(simp; omega)|decide|(simp; done))) rfl ?_)
          refine qo hnt rfl (s_pick_t rfl g8 rfl ?_)
          refine r_eq (s := 65) (y := pB (((((((((decide (a.fn = b.fn)) && (decide (a.at_ = b.at_))) && (decide (a.count = b.count))) && (decide (a.wAt = b.wAt))) && (decide (a.sub = b.sub))) && (decide (a.and_ = b.and_))) && (decide (a.or_ = b.or_))) && (decide (a.bits = b.bits))) && (decide (a.vals = b.vals)))) rfl (mix_at g8) ?_
          exact r_mid ⟨⟨rfl,trivial⟩,rfl,rfl⟩
         ·
          have g8' := g8
          try simp only [sB] at g8'
          refine rn hnt rfl rfl rfl g8 ?_
          refine rn hnt rfl rfl rfl g8 ?_
          refine rn hnt rfl rfl rfl g8 ?_
          refine rn hnt rfl rfl rfl g8 ?_
          refine qo hnt rfl (s_pick_f rfl g8 rfl ?_)
          refine r_eq (s := 65) (y := pB (((((((((decide (a.fn = b.fn)) && (decide (a.at_ = b.at_))) && (decide (a.count = b.count))) && (decide (a.wAt = b.wAt))) && (decide (a.sub = b.sub))) && (decide (a.and_ = b.and_))) && (decide (a.or_ = b.or_))) && (decide (a.bits = b.bits))) && (decide (a.vals = b.vals)))) rfl (mix_af _ g8) ?_
          exact r_mid ⟨⟨rfl,trivial⟩,rfl,rfl⟩
        ·
         refine qa hnt rfl rfl ?_
         refine r_end ?_
         refine q_then ?_
         refine w_le (s := 4) (y := pB (decide (a = b))) rfl (le_of_eq (congrArg (fun z : Bool => pB z) (show (((((((((decide (a.fn = b.fn)) && (decide (a.at_ = b.at_))) && (decide (a.count = b.count))) && (decide (a.wAt = b.wAt))) && (decide (a.sub = b.sub))) && (decide (a.and_ = b.and_))) && (decide (a.or_ = b.or_))) && (decide (a.bits = b.bits))) && (decide (a.vals = b.vals))) = (decide (a = b)) by apply Bool.eq_iff_iff.2; simp only [Bool.and_eq_true,decide_eq_true_eq]; cases a; cases b; simp only [TRequest.mk.injEq]; constructor <;> (intro h; simp_all)))) ?_
         refine w_ret ?_
         exact fin_plain (ret_tmp rfl ret_nil) rfl rfl ⟨rfl,rfl,rfl⟩
end Go.Proofs.Ytigpfkcjpjhflaa
set_option linter.unusedVariables false
set_option linter.unusedSimpArgs false
namespace Go.Proofs.Ytigpfkcjpjhflaa
open Go Go.Proofs.Ytigpfkcjpjhflaa.Pv
theorem in_any (n : Int) : inS (usesS n) 97 = decide (n = 1 ∨ n = 2 ∨ n = 3 ∨ n = 4 ∨ n = 5 ∨ n = 6 ∨ n = 15 ∨ n = 16 ∨ n = 22 ∨ n = 23) ∧ inS (usesS n) 99 = decide (n = 1 ∨ n = 2 ∨ n = 3 ∨ n = 4 ∨ n = 15 ∨ n = 16 ∨ n = 23) := by
  by_cases h : n = 1 ∨ n = 2 ∨ n = 3 ∨ n = 4 ∨ n = 5 ∨ n = 6 ∨ n = 8 ∨ n = 15 ∨ n = 16 ∨ n = 22 ∨ n = 23
  · rcases h with h|h|h|h|h|h|h|h|h|h|h <;> subst h <;> decide
  · have e : usesS n = [] := by
      unfold usesS
      rw [if_neg (by omega),if_neg (by omega),if_neg (by omega),if_neg (by omega),if_neg (by omega),if_neg (by omega),if_neg (by omega),if_neg (by omega)]
    have i0 : ∀ c,inS [] c = false := fun c => rfl
    rw [e,i0,i0]
    exact ⟨(decide_eq_false (by omega)).symm,(decide_eq_false (by omega)).symm⟩
def wordsAt (b : List UInt8) (k : Nat) : List UInt16 := if b.length ≤ k then [] else wordsV (b.drop k)
def wordsAtP (b : List UInt8) (k : Nat) : List UInt16 := if b.length ≤ k then [] else wordsV ((b.take (b.length - (b.length - k) % 2)).drop k)
def gAt (f : Int) (b : List UInt8) : Int := if f = 1 ∨ f = 2 ∨ f = 3 ∨ f = 4 ∨ f = 5 ∨ f = 6 ∨ f = 15 ∨ f = 16 ∨ f = 22 ∨ f = 23 then getV b 1 else 0
def gCount (f : Int) (b : List UInt8) : Int := if f = 1 ∨ f = 2 ∨ f = 3 ∨ f = 4 ∨ f = 15 ∨ f = 16 ∨ f = 23 then getV b 3 else 0
def guessR (b : List UInt8) : TRequest :=
  let f : Int := (((b.getD 0 0).toNat : Nat) : Int)
  if f = 5 then ⟨f,gAt f b,gCount f b,0,0,[!decide (getV b 3 = 0)],[],0,0⟩
  else if f = 6 then ⟨f,gAt f b,gCount f b,0,0,[],wordsAt b 3,0,0⟩
  else if f = 8 then ⟨f,gAt f b,gCount f b,0,getV b 1,[],wordsAt b 3,0,0⟩
  else if f = 15 then ⟨f,gAt f b,gCount f b,0,0,(if 6 < b.length then bopV (b.drop 6) (gCount f b) else []),[],0,0⟩
  else if f = 16 then ⟨f,gAt f b,gCount f b,0,0,[],wordsAt b 6,0,0⟩
  else if f = 22 then ⟨f,gAt f b,gCount f b,0,0,[],[],u16I (getV b 3),u16I (getV b 5)⟩
  else if f = 23 then ⟨f,gAt f b,gCount f b,getV b 5,0,[],wordsAt b 10,0,0⟩
  else ⟨f,gAt f b,gCount f b,0,0,[],[],0,0⟩
def guessP (b : List UInt8) : TRequest :=
  let f : Int := (((b.getD 0 0).toNat : Nat) : Int)
  if f = 17 then ⟨f,0,0,0,0,[],[],0,0⟩
  else if f = 8 then ⟨f,0,0,0,getV b 1,[],wordsAtP b 3,0,0⟩
  else if f = 5 then ⟨f,getV b 1,0,0,0,[decide (getV b 3 = 65280)],[],0,0⟩
  else if f = 6 then ⟨f,getV b 1,0,0,0,[],wordsAtP b 3,0,0⟩
  else if f = 22 then ⟨f,getV b 1,0,0,0,[],[],u16I (getV b 3),u16I (getV b 5)⟩
  else if f = 15 then ⟨f,getV b 1,getV b 3,0,0,(if 6 ≤ b.length then bopV (b.drop 6) (getV b 3) else []),[],0,0⟩
  else if f = 16 then ⟨f,getV b 1,getV b 3,0,0,[],wordsAtP b 6,0,0⟩
  else if f = 23 then ⟨f,getV b 1,getV b 3,getV b 5,0,[],wordsAtP b 10,0,0⟩
  else ⟨f,getV b 1,getV b 3,0,0,[],[],0,0⟩
theorem put2_nat {a : Int} (h : 0 ≤ a ∧ a ≤ 65535) : (u8I (a / 2 ^ 8)).toNat * 256 + (u8I a).toNat = a.toNat := by
  rw [u8I_lt,u8I_lt]; omega
theorem getV_1 {x : UInt8} {a : Int} {r : List UInt8} (h : 0 ≤ a ∧ a ≤ 65535) : getV (x :: (put2 a ++ r)) 1 = a := by
  unfold getV
  rw [if_pos (by unfold getOk; simp; omega)]
  have e : getN (x :: (put2 a ++ r)) (Int.toNat 1) = (u8I (a / 2 ^ 8)).toNat * 256 + (u8I a).toNat := rfl
  rw [e,put2_nat h]; omega
theorem getV_3 {x : UInt8} {a c : Int} {r : List UInt8} (h : 0 ≤ c ∧ c ≤ 65535) : getV (x :: (put2 a ++ (put2 c ++ r))) 3 = c := by
  unfold getV
  rw [if_pos (by unfold getOk; simp; omega)]
  have e : getN (x :: (put2 a ++ (put2 c ++ r))) (Int.toNat 3) = (u8I (c / 2 ^ 8)).toNat * 256 + (u8I c).toNat := rfl
  rw [e,put2_nat h]; omega
theorem getV_5 {x : UInt8} {a c d : Int} {r : List UInt8} (h : 0 ≤ d ∧ d ≤ 65535) : getV (x :: (put2 a ++ (put2 c ++ (put2 d ++ r)))) 5 = d := by
  unfold getV
  rw [if_pos (by unfold getOk; simp; omega)]
  have e : getN (x :: (put2 a ++ (put2 c ++ (put2 d ++ r)))) (Int.toNat 5) = (u8I (d / 2 ^ 8)).toNat * 256 + (u8I d).toNat := rfl
  rw [e,put2_nat h]; omega
theorem bytes_one (v : UInt16) : bytesL [v] = put2 ((v.toNat : Nat) : Int) := by
  have hv := v.toNat_lt
  have e1 : (v >>> UInt16.ofNat 8).toUInt8 = u8I (((v.toNat : Nat) : Int) / 2 ^ 8) := by
    apply UInt8.toNat_inj.1
    rw [UInt16.toNat_toUInt8,UInt16.toNat_shiftRight,u8I_lt]
    have : (UInt16.ofNat 8).toNat % 16 = 8 := rfl
    rw [this,Nat.shiftRight_eq_div_pow]; omega
  have e2 : v.toUInt8 = u8I ((v.toNat : Nat) : Int) := by
    apply UInt8.toNat_inj.1
    rw [UInt16.toNat_toUInt8,u8I_lt]; omega
  have e0 : bytesL [v] = [(v >>> UInt16.ofNat 8).toUInt8,v.toUInt8] := rfl
  rw [e0,e1,e2]; rfl
theorem words_of {b : List UInt8} {k : Nat} {l : List UInt16} (h : b.drop k = bytesL l) (hb : b.length = k + 2 * l.length) (hl : 0 < l.length ∨ b.length ≤ k) : wordsAt b k = l ∧ wordsAtP b k = l := by
  have w := wordsV_back l
  unfold wordsAt wordsAtP
  by_cases h0 : b.length ≤ k
  · rw [if_pos h0,if_pos h0]
    have : l = [] := List.eq_nil_of_length_eq_zero (by omega)
    rw [this]; exact ⟨rfl,rfl⟩
  · rw [if_neg h0,if_neg h0]
    have e : b.length - (b.length - k) % 2 = b.length := by omega
    rw [e,List.take_length,h]
    exact ⟨w.2,w.2⟩
theorem fn_byte {f : Int} (h : hasF f = true) : (((u8I f).toNat : Nat) : Int) = f := by
  have := hasF_of h
  rw [u8I_lt]; omega
theorem vals_one {l : List UInt16} (h : l.length = 1) : ∃ v,l = [v] := by
  match l,h with
  | [v],_ => exact ⟨v,rfl⟩
theorem bits_one {l : List Bool} (h : l.length = 1) : ∃ v,l = [v] := by
  match l,h with
  | [v],_ => exact ⟨v,rfl⟩
theorem u16I_back (v : UInt16) : u16I ((v.toNat : Nat) : Int) = v := by
  apply UInt16.toNat_inj.1
  have := v.toNat_lt
  rw [u16I_ofNat]; omega
theorem gs_get (x : UInt8) (r : List UInt8) : (x :: r).getD 0 0 = x := rfl
theorem guess_write {q : TRequest} (h : rightR q = 0) : guessR (writeR q) = q ∧ guessP (writeR q) = q := by
  obtain ⟨hf,hs⟩ := rightR_zero h
  obtain ⟨wa,wc,ww,ws,za,zc,zw,zs,zm,hb,hv⟩ := hs
  have hfb := fn_byte hf
  have hc := hasF_of hf
  obtain ⟨f,at_,count,wAt,sub,bits,vals,and_,or_⟩ := q
  simp only at *
  have z0 : ∀ x : UInt16,x.toNat = 0 → x = 0 := fun x hx => UInt16.toNat_inj.1 hx
  have nb : bits.length = 0 → bits = [] := List.eq_nil_of_length_eq_zero
  have nv : vals.length = 0 → vals = [] := List.eq_nil_of_length_eq_zero
  by_cases k1 : f = 1 ∨ f = 2 ∨ f = 3 ∨ f = 4
  · rw [writeR_1 (by exact k1)]
    rw [if_neg (by omega),if_neg (by omega)] at hb
    rw [if_neg (by omega),if_neg (by omega),if_neg (by omega)] at hv
    have e1 : getV (u8I f :: (put2 at_ ++ put2 count)) 1 = at_ := getV_1 wa
    have e3 : getV (u8I f :: (put2 at_ ++ put2 count)) 3 = count := by have := getV_3 (x := u8I f) (a := at_) (r := []) wc; rwa [List.append_nil] at this
    have m := zm (by omega)
    unfold guessR guessP gAt gCount
    simp only [gs_get,hfb,e1,e3]
    constructor
    · repeat rw [if_neg (by omega)]
      rw [if_pos (by omega),if_pos (by omega),zw (by omega),zs (by omega),nb hb,nv hv,z0 _ m.1,z0 _ m.2]
    · repeat rw [if_neg (by omega)]
      rw [zw (by omega),zs (by omega),nb hb,nv hv,z0 _ m.1,z0 _ m.2]
  have hc2 : f = 5 ∨ f = 6 ∨ f = 8 ∨ f = 15 ∨ f = 16 ∨ f = 17 ∨ f = 22 ∨ f = 23 := by omega
  clear hc
  rcases hc2 with k|k|k|k|k|k|k|k <;> subst k
  · obtain ⟨e,he⟩ := bits_one (by simpa using hb)
    have hv0 := nv (by simpa using hv)
    have m := zm (by decide)
    rw [writeR_5 rfl (e := e) (by simp [he])]
    have c0 := zc (by decide)
    subst he; subst hv0
    have e1 : getV (u8I 5 :: (put2 at_ ++ put2 (if e = true then 65280 else 0))) 1 = at_ := getV_1 wa
    have e3 : getV (u8I 5 :: (put2 at_ ++ put2 (if e = true then 65280 else 0))) 3 = (if e = true then 65280 else 0) := by have := getV_3 (x := u8I 5) (a := at_) (c := if e = true then 65280 else 0) (r := []) (by split <;> decide); rwa [List.append_nil] at this
    unfold guessR guessP gAt gCount
    simp only [gs_get,hfb,e1,e3]
    rw [c0,zw (by decide),zs (by decide),z0 _ m.1,z0 _ m.2]
    cases e <;> exact ⟨rfl,rfl⟩
  · obtain ⟨e,he⟩ := vals_one (by simpa using hv)
    have hb0 := nb (by simpa using hb)
    have m := zm (by decide)
    rw [writeR_6 rfl (e := e) (by simp [he])]
    have c0 := zc (by decide)
    subst he; subst hb0
    have e1 : getV (u8I 6 :: (put2 at_ ++ put2 ((e.toNat : Nat) : Int))) 1 = at_ := getV_1 wa
    obtain ⟨w1,w2⟩ := words_of (b := u8I 6 :: (put2 at_ ++ put2 ((e.toNat : Nat) : Int))) (k := 3) (l := [e]) (by rw [bytes_one]; rfl) rfl (.inl (by simp))
    unfold guessR guessP gAt gCount
    simp only [gs_get,hfb,e1,w1,w2]
    rw [c0,zw (by decide),zs (by decide),z0 _ m.1,z0 _ m.2]
    exact ⟨rfl,rfl⟩
  · obtain ⟨e,he⟩ := vals_one (by simpa using hv)
    have hb0 := nb (by simpa using hb)
    have m := zm (by decide)
    rw [writeR_8 rfl (e := e) (by simp [he])]
    have c0 := zc (by decide)
    subst he; subst hb0
    have e1 : getV (u8I 8 :: (put2 sub ++ put2 ((e.toNat : Nat) : Int))) 1 = sub := getV_1 ws
    obtain ⟨w1,w2⟩ := words_of (b := u8I 8 :: (put2 sub ++ put2 ((e.toNat : Nat) : Int))) (k := 3) (l := [e]) (by rw [bytes_one]; rfl) rfl (.inl (by simp))
    unfold guessR guessP gAt gCount
    simp only [gs_get,hfb,e1,w1,w2]
    rw [c0,zw (by decide),za (by decide),z0 _ m.1,z0 _ m.2]
    exact ⟨rfl,rfl⟩
  · have hb1 : (bits.length : Int) = count ∧ bits.length ≤ 2040 := by simpa using hb
    have hv0 := nv (by simpa using hv)
    have m := zm (by decide)
    rw [writeR_15 rfl]
    subst hv0
    have e1 : getV (u8I 15 :: (put2 at_ ++ (put2 count ++ rowX (packL bits)))) 1 = at_ := getV_1 wa
    have e3 : getV (u8I 15 :: (put2 at_ ++ (put2 count ++ rowX (packL bits)))) 3 = count := getV_3 wc
    have d6 : (u8I 15 :: (put2 at_ ++ (put2 count ++ rowX (packL bits)))).drop 6 = packL bits := rfl
    have hl : (u8I 15 :: (put2 at_ ++ (put2 count ++ rowX (packL bits)))).length = 6 + (bits.length + 7) / 8 := by simp; omega
    have ob := (open_pack bits).2
    rw [hb1.1] at ob
    have ea : gAt 15 (u8I 15 :: (put2 at_ ++ (put2 count ++ rowX (packL bits)))) = at_ := by unfold gAt; rw [if_pos (by simp),e1]
    have ec : gCount 15 (u8I 15 :: (put2 at_ ++ (put2 count ++ rowX (packL bits)))) = count := by unfold gCount; rw [if_pos (by simp),e3]
    unfold guessR guessP
    simp only [gs_get,hfb,e1,e3,d6,ea,ec,ob]
    rw [hl,zw (by decide),zs (by decide),z0 _ m.1,z0 _ m.2]
    constructor
    · by_cases h6 : 6 < 6 + (bits.length + 7) / 8
      · rw [if_pos h6]; rfl
      · rw [if_neg h6,nb (by omega)]; rfl
    · rw [if_pos (show 6 ≤ 6 + (bits.length + 7) / 8 by omega)]; rfl
  · have hv1 : (vals.length : Int) = count ∧ vals.length ≤ 127 := by simpa using hv
    have hb0 := nb (by simpa using hb)
    have m := zm (by decide)
    rw [writeR_16 rfl]
    subst hb0
    have e1 : getV (u8I 16 :: (put2 at_ ++ (put2 count ++ rowX (bytesL vals)))) 1 = at_ := getV_1 wa
    have e3 : getV (u8I 16 :: (put2 at_ ++ (put2 count ++ rowX (bytesL vals)))) 3 = count := getV_3 wc
    have hl : (u8I 16 :: (put2 at_ ++ (put2 count ++ rowX (bytesL vals)))).length = 6 + 2 * vals.length := by simp; omega
    obtain ⟨w1,w2⟩ := words_of (b := u8I 16 :: (put2 at_ ++ (put2 count ++ rowX (bytesL vals)))) (k := 6) (l := vals) rfl hl (by omega)
    unfold guessR guessP gAt gCount
    simp only [gs_get,hfb,e1,e3,w1,w2]
    rw [zw (by decide),zs (by decide),z0 _ m.1,z0 _ m.2]
    exact ⟨rfl,rfl⟩
  · have hv0 := nv (by simpa using hv)
    have hb0 := nb (by simpa using hb)
    have m := zm (by decide)
    rw [writeR_no (by simp)]
    subst hb0; subst hv0
    unfold guessR guessP gAt gCount
    simp only [gs_get,hfb]
    rw [za (by decide),zc (by decide),zw (by decide),zs (by decide),z0 _ m.1,z0 _ m.2]
    exact ⟨rfl,rfl⟩
  · have hv0 := nv (by simpa using hv)
    have hb0 := nb (by simpa using hb)
    rw [writeR_22 rfl]
    subst hb0; subst hv0
    have ha := and_.toNat_lt
    have ho := or_.toNat_lt
    have e1 : getV (u8I 22 :: (put2 at_ ++ (put2 ((and_.toNat : Nat) : Int) ++ put2 ((or_.toNat : Nat) : Int)))) 1 = at_ := getV_1 wa
    have e3 : getV (u8I 22 :: (put2 at_ ++ (put2 ((and_.toNat : Nat) : Int) ++ put2 ((or_.toNat : Nat) : Int)))) 3 = ((and_.toNat : Nat) : Int) := getV_3 (by omega)
    have e5 : getV (u8I 22 :: (put2 at_ ++ (put2 ((and_.toNat : Nat) : Int) ++ put2 ((or_.toNat : Nat) : Int)))) 5 = ((or_.toNat : Nat) : Int) := by have := getV_5 (x := u8I 22) (a := at_) (c := ((and_.toNat : Nat) : Int)) (d := ((or_.toNat : Nat) : Int)) (r := []) (by omega); rwa [List.append_nil] at this
    unfold guessR guessP gAt gCount
    simp only [gs_get,hfb,e1,e3,e5,u16I_back]
    rw [zc (by decide),zw (by decide),zs (by decide)]
    exact ⟨rfl,rfl⟩
  · have hv1 : vals.length ≤ 127 := by simpa using hv
    have hb0 := nb (by simpa using hb)
    have m := zm (by decide)
    rw [writeR_23 rfl]
    subst hb0
    have e1 : getV (u8I 23 :: (put2 at_ ++ (put2 count ++ (put2 wAt ++ (put2 ((vals.length : Nat) : Int) ++ rowX (bytesL vals)))))) 1 = at_ := getV_1 wa
    have e3 : getV (u8I 23 :: (put2 at_ ++ (put2 count ++ (put2 wAt ++ (put2 ((vals.length : Nat) : Int) ++ rowX (bytesL vals)))))) 3 = count := getV_3 wc
    have e5 : getV (u8I 23 :: (put2 at_ ++ (put2 count ++ (put2 wAt ++ (put2 ((vals.length : Nat) : Int) ++ rowX (bytesL vals)))))) 5 = wAt := getV_5 ww
    have hl : (u8I 23 :: (put2 at_ ++ (put2 count ++ (put2 wAt ++ (put2 ((vals.length : Nat) : Int) ++ rowX (bytesL vals)))))).length = 10 + 2 * vals.length := by simp; omega
    obtain ⟨w1,w2⟩ := words_of (b := u8I 23 :: (put2 at_ ++ (put2 count ++ (put2 wAt ++ (put2 ((vals.length : Nat) : Int) ++ rowX (bytesL vals)))))) (k := 10) (l := vals) rfl hl (by omega)
    unfold guessR guessP gAt gCount
    simp only [gs_get,hfb,e1,e3,e5,w1,w2]
    rw [zs (by decide),z0 _ m.1,z0 _ m.2]
    exact ⟨rfl,rfl⟩
def zeroQ : TRequest := ⟨0,0,0,0,0,[],[],0,0⟩
def readWith (g : List UInt8 → TRequest) (b : List UInt8) : TRequest × Int :=
  if b.length = 0 then (zeroQ,13) else if hasF (((b.getD 0 0).toNat : Nat) : Int) = false then (zeroQ,15)
  else if rightR (g b) = 0 ∧ writeR (g b) = b then (g b,0) else (zeroQ,12)
theorem read_same (b : List UInt8) : readWith guessP b = readWith guessR b := by
  unfold readWith
  split
  · rfl
  · split
    · rfl
    · by_cases h : rightR (guessR b) = 0 ∧ writeR (guessR b) = b
      · have e := (guess_write h.1).2
        rw [h.2] at e
        rw [if_pos h,e,if_pos h]
      · by_cases h2 : rightR (guessP b) = 0 ∧ writeR (guessP b) = b
        · have e := (guess_write h2.1).1
          rw [h2.2] at e
          rw [e] at h
          exact absurd h2 h
        · rw [if_neg h,if_neg h2]
def manyOk (q : TRequest) : Bool := decide ((q.fn = 1 ∨ q.fn = 2 → 1 ≤ q.count ∧ q.count ≤ 2000) ∧ (q.fn = 3 ∨ q.fn = 4 → 1 ≤ q.count ∧ q.count ≤ 125) ∧ (q.fn = 15 → 1 ≤ q.count ∧ q.count ≤ 1968) ∧ (q.fn = 16 → 1 ≤ q.count ∧ q.count ≤ 123) ∧
  (q.fn = 23 → (1 ≤ q.count ∧ q.count ≤ 125) ∧ 1 ≤ q.vals.length ∧ q.vals.length ≤ 121))
def countsR (q : TRequest) : Bool := decide (rightR q = 0) && manyOk q
theorem guessR_5 {b : List UInt8} {e : UInt8} (h0 : b.getD 0 0 = e) (h : ((e.toNat : Nat) : Int) = 5) : guessR b = ⟨((e.toNat : Nat) : Int),gAt ((e.toNat : Nat) : Int) b,gCount ((e.toNat : Nat) : Int) b,0,0,[!decide (getV b 3 = 0)],[],0,0⟩ := by
  unfold guessR; simp only [h0]; rw [if_pos h]
theorem guessR_6 {b : List UInt8} {e : UInt8} (h0 : b.getD 0 0 = e) (h : ((e.toNat : Nat) : Int) = 6) : guessR b = ⟨((e.toNat : Nat) : Int),gAt ((e.toNat : Nat) : Int) b,gCount ((e.toNat : Nat) : Int) b,0,0,[],wordsAt b 3,0,0⟩ := by
  unfold guessR; simp only [h0]; rw [if_neg (by omega),if_pos h]
theorem guessR_8 {b : List UInt8} {e : UInt8} (h0 : b.getD 0 0 = e) (h : ((e.toNat : Nat) : Int) = 8) : guessR b = ⟨((e.toNat : Nat) : Int),gAt ((e.toNat : Nat) : Int) b,gCount ((e.toNat : Nat) : Int) b,0,getV b 1,[],wordsAt b 3,0,0⟩ := by
  unfold guessR; simp only [h0]; rw [if_neg (by omega),if_neg (by omega),if_pos h]
theorem guessR_15 {b : List UInt8} {e : UInt8} (h0 : b.getD 0 0 = e) (h : ((e.toNat : Nat) : Int) = 15) : guessR b = ⟨((e.toNat : Nat) : Int),gAt ((e.toNat : Nat) : Int) b,gCount ((e.toNat : Nat) : Int) b,0,0,(if 6 < b.length then bopV (b.drop 6) (gCount ((e.toNat : Nat) : Int) b) else []),[],0,0⟩ := by
  unfold guessR; simp only [h0]; rw [if_neg (by omega),if_neg (by omega),if_neg (by omega),if_pos h]
theorem guessR_16 {b : List UInt8} {e : UInt8} (h0 : b.getD 0 0 = e) (h : ((e.toNat : Nat) : Int) = 16) : guessR b = ⟨((e.toNat : Nat) : Int),gAt ((e.toNat : Nat) : Int) b,gCount ((e.toNat : Nat) : Int) b,0,0,[],wordsAt b 6,0,0⟩ := by
  unfold guessR; simp only [h0]; rw [if_neg (by omega),if_neg (by omega),if_neg (by omega),if_neg (by omega),if_pos h]
theorem guessR_22 {b : List UInt8} {e : UInt8} (h0 : b.getD 0 0 = e) (h : ((e.toNat : Nat) : Int) = 22) : guessR b = ⟨((e.toNat : Nat) : Int),gAt ((e.toNat : Nat) : Int) b,gCount ((e.toNat : Nat) : Int) b,0,0,[],[],u16I (getV b 3),u16I (getV b 5)⟩ := by
  unfold guessR; simp only [h0]; rw [if_neg (by omega),if_neg (by omega),if_neg (by omega),if_neg (by omega),if_neg (by omega),if_pos h]
theorem guessR_23 {b : List UInt8} {e : UInt8} (h0 : b.getD 0 0 = e) (h : ((e.toNat : Nat) : Int) = 23) : guessR b = ⟨((e.toNat : Nat) : Int),gAt ((e.toNat : Nat) : Int) b,gCount ((e.toNat : Nat) : Int) b,getV b 5,0,[],wordsAt b 10,0,0⟩ := by
  unfold guessR; simp only [h0]; rw [if_neg (by omega),if_neg (by omega),if_neg (by omega),if_neg (by omega),if_neg (by omega),if_neg (by omega),if_pos h]
theorem guessR_no {b : List UInt8} {e : UInt8} (h0 : b.getD 0 0 = e) (h : ((e.toNat : Nat) : Int) ≠ 5 ∧ ((e.toNat : Nat) : Int) ≠ 6 ∧ ((e.toNat : Nat) : Int) ≠ 8 ∧ ((e.toNat : Nat) : Int) ≠ 15 ∧ ((e.toNat : Nat) : Int) ≠ 16 ∧ ((e.toNat : Nat) : Int) ≠ 22 ∧ ((e.toNat : Nat) : Int) ≠ 23) : guessR b = ⟨((e.toNat : Nat) : Int),gAt ((e.toNat : Nat) : Int) b,gCount ((e.toNat : Nat) : Int) b,0,0,[],[],0,0⟩ := by
  unfold guessR; simp only [h0]; rw [if_neg (by omega),if_neg (by omega),if_neg (by omega),if_neg (by omega),if_neg (by omega),if_neg (by omega),if_neg (by omega)]
theorem guessP_17 {b : List UInt8} {e : UInt8} (h0 : b.getD 0 0 = e) (h : ((e.toNat : Nat) : Int) = 17) : guessP b = ⟨((e.toNat : Nat) : Int),0,0,0,0,[],[],0,0⟩ := by
  unfold guessP; simp only [h0]; rw [if_pos h]
theorem guessP_8 {b : List UInt8} {e : UInt8} (h0 : b.getD 0 0 = e) (h : ((e.toNat : Nat) : Int) = 8) : guessP b = ⟨((e.toNat : Nat) : Int),0,0,0,getV b 1,[],wordsAtP b 3,0,0⟩ := by
  unfold guessP; simp only [h0]; rw [if_neg (by omega),if_pos h]
theorem guessP_5 {b : List UInt8} {e : UInt8} (h0 : b.getD 0 0 = e) (h : ((e.toNat : Nat) : Int) = 5) : guessP b = ⟨((e.toNat : Nat) : Int),getV b 1,0,0,0,[decide (getV b 3 = 65280)],[],0,0⟩ := by
  unfold guessP; simp only [h0]; rw [if_neg (by omega),if_neg (by omega),if_pos h]
theorem guessP_6 {b : List UInt8} {e : UInt8} (h0 : b.getD 0 0 = e) (h : ((e.toNat : Nat) : Int) = 6) : guessP b = ⟨((e.toNat : Nat) : Int),getV b 1,0,0,0,[],wordsAtP b 3,0,0⟩ := by
  unfold guessP; simp only [h0]; rw [if_neg (by omega),if_neg (by omega),if_neg (by omega),if_pos h]
theorem guessP_22 {b : List UInt8} {e : UInt8} (h0 : b.getD 0 0 = e) (h : ((e.toNat : Nat) : Int) = 22) : guessP b = ⟨((e.toNat : Nat) : Int),getV b 1,0,0,0,[],[],u16I (getV b 3),u16I (getV b 5)⟩ := by
  unfold guessP; simp only [h0]; rw [if_neg (by omega),if_neg (by omega),if_neg (by omega),if_neg (by omega),if_pos h]
theorem guessP_15 {b : List UInt8} {e : UInt8} (h0 : b.getD 0 0 = e) (h : ((e.toNat : Nat) : Int) = 15) : guessP b = ⟨((e.toNat : Nat) : Int),getV b 1,getV b 3,0,0,(if 6 ≤ b.length then bopV (b.drop 6) (getV b 3) else []),[],0,0⟩ := by
  unfold guessP; simp only [h0]; rw [if_neg (by omega),if_neg (by omega),if_neg (by omega),if_neg (by omega),if_neg (by omega),if_pos h]
theorem guessP_16 {b : List UInt8} {e : UInt8} (h0 : b.getD 0 0 = e) (h : ((e.toNat : Nat) : Int) = 16) : guessP b = ⟨((e.toNat : Nat) : Int),getV b 1,getV b 3,0,0,[],wordsAtP b 6,0,0⟩ := by
  unfold guessP; simp only [h0]; rw [if_neg (by omega),if_neg (by omega),if_neg (by omega),if_neg (by omega),if_neg (by omega),if_neg (by omega),if_pos h]
theorem guessP_23 {b : List UInt8} {e : UInt8} (h0 : b.getD 0 0 = e) (h : ((e.toNat : Nat) : Int) = 23) : guessP b = ⟨((e.toNat : Nat) : Int),getV b 1,getV b 3,getV b 5,0,[],wordsAtP b 10,0,0⟩ := by
  unfold guessP; simp only [h0]; rw [if_neg (by omega),if_neg (by omega),if_neg (by omega),if_neg (by omega),if_neg (by omega),if_neg (by omega),if_neg (by omega),if_pos h]
theorem guessP_no {b : List UInt8} {e : UInt8} (h0 : b.getD 0 0 = e) (h : ((e.toNat : Nat) : Int) ≠ 17 ∧ ((e.toNat : Nat) : Int) ≠ 8 ∧ ((e.toNat : Nat) : Int) ≠ 5 ∧ ((e.toNat : Nat) : Int) ≠ 6 ∧ ((e.toNat : Nat) : Int) ≠ 22 ∧ ((e.toNat : Nat) : Int) ≠ 15 ∧ ((e.toNat : Nat) : Int) ≠ 16 ∧ ((e.toNat : Nat) : Int) ≠ 23) : guessP b = ⟨((e.toNat : Nat) : Int),getV b 1,getV b 3,0,0,[],[],0,0⟩ := by
  unfold guessP; simp only [h0]; rw [if_neg (by omega),if_neg (by omega),if_neg (by omega),if_neg (by omega),if_neg (by omega),if_neg (by omega),if_neg (by omega),if_neg (by omega)]
theorem getV_le (b : List UInt8) (k : Int) : 0 ≤ getV b k ∧ getV b k ≤ 65535 := by
  unfold getV; split
  · have := getN_lt b k.toNat; omega
  · omega
theorem bopV_len (b : List UInt8) (n : Int) : (bopV b n).length ≤ n.toNat := by unfold bopV; split <;> simp
theorem wordsV_len (b : List UInt8) : (wordsV b).length ≤ b.length := by
  unfold wordsV; split
  · rw [wordsL_length]; omega
  · simp
theorem wordsAt_len (b : List UInt8) (k : Nat) : (wordsAt b k).length ≤ b.length ∧ (wordsAtP b k).length ≤ b.length := by
  unfold wordsAt wordsAtP
  split
  · simp
  · have h1 := wordsV_len (b.drop k)
    have h2 := wordsV_len ((b.take (b.length - (b.length - k) % 2)).drop k)
    rw [List.length_drop] at h1 h2
    rw [List.length_take] at h2
    exact ⟨by omega,by omega⟩
theorem gCount_le (f : Int) (b : List UInt8) : 0 ≤ gCount f b ∧ gCount f b ≤ 65535 := by
  unfold gCount; split
  · exact getV_le b 3
  · omega
theorem guessR_len (b : List UInt8) : (guessR b).bits.length ≤ 65536 ∧ (guessR b).vals.length ≤ b.length := by
  have w := fun k => (wordsAt_len b k).1
  have g := gCount_le (((b.getD 0 0).toNat : Nat) : Int) b
  have v := bopV_len (b.drop 6) (gCount (((b.getD 0 0).toNat : Nat) : Int) b)
  unfold guessR
  simp only
  repeat' split
  all_goals first|exact ⟨Nat.zero_le _,w _⟩|exact ⟨by simp only; omega,Nat.zero_le _⟩|exact ⟨Nat.zero_le _,Nat.zero_le _⟩|exact ⟨by simp,Nat.zero_le _⟩
theorem guessP_len (b : List UInt8) : (guessP b).bits.length ≤ 65536 ∧ (guessP b).vals.length ≤ b.length := by
  have w := fun k => (wordsAt_len b k).2
  have g := getV_le b 3
  have v := bopV_len (b.drop 6) (getV b 3)
  unfold guessP
  simp only
  repeat' split
  all_goals first|exact ⟨Nat.zero_le _,w _⟩|exact ⟨by simp only; omega,Nat.zero_le _⟩|exact ⟨Nat.zero_le _,Nat.zero_le _⟩|exact ⟨by simp,Nat.zero_le _⟩
section
variable {g : List UInt8 → TRequest} {b : List UInt8}
theorem readW_1 (h : b.length = 0) : readWith g b = (zeroQ,13) := by unfold readWith; rw [if_pos h]
theorem readW_2 (h : ¬ b.length = 0) {e : UInt8} (h0 : b.getD 0 0 = e) (h2 : hasF ((e.toNat : Nat) : Int) = false) : readWith g b = (zeroQ,15) := by unfold readWith; rw [if_neg h,h0,if_pos h2]
theorem readW_3 (h : ¬ b.length = 0) {e : UInt8} (h0 : b.getD 0 0 = e) (h2 : hasF ((e.toNat : Nat) : Int) = true) {G : TRequest} (hG : G = g b) (h3 : rightR G = 0 → ¬ writeR G = b) : readWith g b = (zeroQ,12) := by
  subst hG; unfold readWith; rw [if_neg h,h0,if_neg (by simp [h2]),if_neg (fun h => h3 h.1 h.2)]
theorem readW_4 (h : ¬ b.length = 0) {e : UInt8} (h0 : b.getD 0 0 = e) (h2 : hasF ((e.toNat : Nat) : Int) = true) {G : TRequest} (hG : G = g b) (h3 : rightR G = 0) (h4 : writeR G = b) : readWith g b = (G,0) := by
  subst hG; unfold readWith; rw [if_neg h,h0,if_neg (by simp [h2]),if_pos ⟨h3,h4⟩]
end
theorem counts_no {q : TRequest} (h : ¬ rightR q = 0) : countsR q = false := by unfold countsR; rw [decide_eq_false h]; rfl
theorem counts_yes {q : TRequest} (h : rightR q = 0) : countsR q = manyOk q := by unfold countsR; rw [decide_eq_true h]; rfl
theorem bytesR_yes {q : TRequest} (h : rightR q = 0) : bytesR q = writeR q := by unfold bytesR; rw [if_pos h]
theorem bytesR_no {q : TRequest} (h : ¬ rightR q = 0) : bytesR q = [] := by unfold bytesR; rw [if_neg h]
end Go.Proofs.Ytigpfkcjpjhflaa
