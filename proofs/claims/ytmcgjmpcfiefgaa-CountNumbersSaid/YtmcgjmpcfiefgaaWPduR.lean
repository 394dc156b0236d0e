/- Walks: printed by a program of this session (wip/tools/walk2.py) out of its notes. -/
import Derived.Test.YtmcgjmpcfiefgaaWReq
import Derived.Test.YtmcgjmpcfiefgaaSpecN
set_option linter.unusedVariables false
set_option linter.unusedSimpArgs false
set_option maxRecDepth 10000
set_option maxHeartbeats 1000000
namespace Go.Proofs.Ytmcgjmpcfiefgaa
open Go Go.Proofs.Ytmcgjmpcfiefgaa.Pv

theorem w_pdu_within (n : Int)  :
    T Try.prog 59 [pI n] 0 [] (Ret (pB (wordOk n)) 0 []) := by
 refine t_fun tabOk (n := 9) (rs := [.tmp 2]) Try.func59 rfl rfl rfl rfl (Nat.le_of_ble_eq_true rfl) ?_
 intro c hnt hk
 refine w_seq ?_
 refine w_R ?_
 refine qa hnt rfl rfl ?_
 refine r_end ?_
 refine q_then ?_
 refine w_seq ?_
 refine w_R ?_
 refine qm hnt rfl rfl ?_
 refine qo hnt rfl (s_geq rfl rfl ?_)
 refine qm hnt rfl rfl ?_
 refine r_cut0 3 [(2, pB false), (8, pB ((decide (0 ≤ n)) && (decide (n ≤ 65535))))] ?_ ?_
 ·
  refine r_if tabOk hnt rfl rfl rfl (fun g1 => ?_) (fun g1 => ?_)
  ·
   have g1' := g1
   try simp only [sB] at g1'
   refine qm hnt rfl rfl ?_
   refine ry hnt rfl rfl rfl g1 ?_
   refine qo hnt rfl (s_leq rfl rfl ?_)
   refine qo hnt rfl (s_pick_t rfl g1 rfl ?_)
   refine r_eq (s := 8) (y := pB ((decide (0 ≤ n)) && (decide (n ≤ 65535)))) rfl (mix_at g1) ?_
   exact r_mid ⟨⟨rfl, rfl, trivial⟩, rfl, rfl⟩
  ·
   have g1' := g1
   try simp only [sB] at g1'
   refine rn hnt rfl rfl rfl g1 ?_
   refine qo hnt rfl (s_pick_f rfl g1 rfl ?_)
   refine r_eq (s := 8) (y := pB ((decide (0 ≤ n)) && (decide (n ≤ 65535)))) rfl (mix_af _ g1) ?_
   exact r_mid ⟨⟨rfl, rfl, trivial⟩, rfl, rfl⟩
 ·
  refine qa hnt rfl rfl ?_
  refine r_end ?_
  refine q_then ?_
  refine w_le (s := 2) (y := pB (wordOk n)) rfl (le_of_eq (congrArg (fun z : Bool => pB z) (show ((decide (0 ≤ n)) && (decide (n ≤ 65535))) = (wordOk n) by unfold wordOk; apply Bool.eq_iff_iff.2; simp only [Bool.and_eq_true, Bool.or_eq_true, Bool.not_eq_true', decide_eq_true_eq, decide_eq_false_iff_not, u16z]; try omega))) ?_
  refine w_ret ?_
  exact fin_plain (ret_tmp rfl ret_nil) rfl rfl ⟨rfl, rfl, rfl⟩

theorem w_pdu_function (n : Int)  :
    T Try.prog 57 [pI n] 0 [] (Ret (pB (hasF n)) 0 []) := by
 refine t_fun tabOk (n := 17) (rs := [.tmp 2]) Try.func57 rfl rfl rfl rfl (Nat.le_of_ble_eq_true rfl) ?_
 intro c hnt hk
 refine w_seq ?_
 refine w_R ?_
 refine qa hnt rfl rfl ?_
 refine r_end ?_
 refine q_then ?_
 refine w_seq ?_
 refine w_seq ?_
 refine w_R ?_
 refine qm hnt rfl rfl ?_
 refine r_end ?_
 refine q_then ?_
 refine w_block ?_
 refine w_seq ?_
 refine w_seq ?_
 refine w_R ?_
 refine qo hnt rfl (s_eql rfl rfl ?_)
 refine qa hnt rfl rfl ?_
 refine r_end ?_
 refine q_then ?_
 refine w_if rfl (fun c1 => ?_) (fun c1 => ?_)
 ·
  have c1_ := c1
  try simp only [sB] at c1
  refine w_skip ?_
  refine q_then ?_
  refine w_if rfl (fun _ => ?_) (fun e => absurd (e.symm.trans c1_) (by decide))
  refine w_seq ?_
  refine w_R ?_
  refine qa hnt rfl rfl ?_
  refine r_end ?_
  refine q_then ?_
  refine w_le (s := 2) (y := pB (hasF n)) rfl (le_of_eq (congrArg (fun z : Bool => pB z) (show true = (hasF n) by first | exact (decide_eq_true (by omega)).symm | exact (decide_eq_false (by omega)).symm))) ?_
  refine w_ret ?_
  refine q_block_ret ?_
  refine q_then_ret ?_
  exact fin_plain (ret_tmp rfl ret_nil) rfl rfl ⟨rfl, rfl, rfl⟩
 ·
  have c1_ := c1
  try simp only [sB] at c1
  refine w_seq ?_
  refine w_R ?_
  refine qo hnt rfl (s_eql rfl rfl ?_)
  refine qa hnt rfl rfl ?_
  refine r_end ?_
  refine q_then ?_
  refine w_if rfl (fun c2 => ?_) (fun c2 => ?_)
  ·
   have c2_ := c2
   try simp only [sB] at c2
   refine w_skip ?_
   refine q_then ?_
   refine w_if rfl (fun _ => ?_) (fun e => absurd (e.symm.trans c2_) (by decide))
   refine w_seq ?_
   refine w_R ?_
   refine qa hnt rfl rfl ?_
   refine r_end ?_
   refine q_then ?_
   refine w_le (s := 2) (y := pB (hasF n)) rfl (le_of_eq (congrArg (fun z : Bool => pB z) (show true = (hasF n) by first | exact (decide_eq_true (by omega)).symm | exact (decide_eq_false (by omega)).symm))) ?_
   refine w_ret ?_
   refine q_block_ret ?_
   refine q_then_ret ?_
   exact fin_plain (ret_tmp rfl ret_nil) rfl rfl ⟨rfl, rfl, rfl⟩
  ·
   have c2_ := c2
   try simp only [sB] at c2
   refine w_seq ?_
   refine w_R ?_
   refine qo hnt rfl (s_eql rfl rfl ?_)
   refine qa hnt rfl rfl ?_
   refine r_end ?_
   refine q_then ?_
   refine w_if rfl (fun c3 => ?_) (fun c3 => ?_)
   ·
    have c3_ := c3
    try simp only [sB] at c3
    refine w_skip ?_
    refine q_then ?_
    refine w_if rfl (fun _ => ?_) (fun e => absurd (e.symm.trans c3_) (by decide))
    refine w_seq ?_
    refine w_R ?_
    refine qa hnt rfl rfl ?_
    refine r_end ?_
    refine q_then ?_
    refine w_le (s := 2) (y := pB (hasF n)) rfl (le_of_eq (congrArg (fun z : Bool => pB z) (show true = (hasF n) by first | exact (decide_eq_true (by omega)).symm | exact (decide_eq_false (by omega)).symm))) ?_
    refine w_ret ?_
    refine q_block_ret ?_
    refine q_then_ret ?_
    exact fin_plain (ret_tmp rfl ret_nil) rfl rfl ⟨rfl, rfl, rfl⟩
   ·
    have c3_ := c3
    try simp only [sB] at c3
    refine w_seq ?_
    refine w_R ?_
    refine qo hnt rfl (s_eql rfl rfl ?_)
    refine qa hnt rfl rfl ?_
    refine r_end ?_
    refine q_then ?_
    refine w_if rfl (fun c4 => ?_) (fun c4 => ?_)
    ·
     have c4_ := c4
     try simp only [sB] at c4
     refine w_skip ?_
     refine q_then ?_
     refine w_if rfl (fun _ => ?_) (fun e => absurd (e.symm.trans c4_) (by decide))
     refine w_seq ?_
     refine w_R ?_
     refine qa hnt rfl rfl ?_
     refine r_end ?_
     refine q_then ?_
     refine w_le (s := 2) (y := pB (hasF n)) rfl (le_of_eq (congrArg (fun z : Bool => pB z) (show true = (hasF n) by first | exact (decide_eq_true (by omega)).symm | exact (decide_eq_false (by omega)).symm))) ?_
     refine w_ret ?_
     refine q_block_ret ?_
     refine q_then_ret ?_
     exact fin_plain (ret_tmp rfl ret_nil) rfl rfl ⟨rfl, rfl, rfl⟩
    ·
     have c4_ := c4
     try simp only [sB] at c4
     refine w_seq ?_
     refine w_R ?_
     refine qo hnt rfl (s_eql rfl rfl ?_)
     refine qa hnt rfl rfl ?_
     refine r_end ?_
     refine q_then ?_
     refine w_if rfl (fun c5 => ?_) (fun c5 => ?_)
     ·
      have c5_ := c5
      try simp only [sB] at c5
      refine w_skip ?_
      refine q_then ?_
      refine w_if rfl (fun _ => ?_) (fun e => absurd (e.symm.trans c5_) (by decide))
      refine w_seq ?_
      refine w_R ?_
      refine qa hnt rfl rfl ?_
      refine r_end ?_
      refine q_then ?_
      refine w_le (s := 2) (y := pB (hasF n)) rfl (le_of_eq (congrArg (fun z : Bool => pB z) (show true = (hasF n) by first | exact (decide_eq_true (by omega)).symm | exact (decide_eq_false (by omega)).symm))) ?_
      refine w_ret ?_
      refine q_block_ret ?_
      refine q_then_ret ?_
      exact fin_plain (ret_tmp rfl ret_nil) rfl rfl ⟨rfl, rfl, rfl⟩
     ·
      have c5_ := c5
      try simp only [sB] at c5
      refine w_seq ?_
      refine w_R ?_
      refine qo hnt rfl (s_eql rfl rfl ?_)
      refine qa hnt rfl rfl ?_
      refine r_end ?_
      refine q_then ?_
      refine w_if rfl (fun c6 => ?_) (fun c6 => ?_)
      ·
       have c6_ := c6
       try simp only [sB] at c6
       refine w_skip ?_
       refine q_then ?_
       refine w_if rfl (fun _ => ?_) (fun e => absurd (e.symm.trans c6_) (by decide))
       refine w_seq ?_
       refine w_R ?_
       refine qa hnt rfl rfl ?_
       refine r_end ?_
       refine q_then ?_
       refine w_le (s := 2) (y := pB (hasF n)) rfl (le_of_eq (congrArg (fun z : Bool => pB z) (show true = (hasF n) by first | exact (decide_eq_true (by omega)).symm | exact (decide_eq_false (by omega)).symm))) ?_
       refine w_ret ?_
       refine q_block_ret ?_
       refine q_then_ret ?_
       exact fin_plain (ret_tmp rfl ret_nil) rfl rfl ⟨rfl, rfl, rfl⟩
      ·
       have c6_ := c6
       try simp only [sB] at c6
       refine w_seq ?_
       refine w_R ?_
       refine qo hnt rfl (s_eql rfl rfl ?_)
       refine qa hnt rfl rfl ?_
       refine r_end ?_
       refine q_then ?_
       refine w_if rfl (fun c7 => ?_) (fun c7 => ?_)
       ·
        have c7_ := c7
        try simp only [sB] at c7
        refine w_skip ?_
        refine q_then ?_
        refine w_if rfl (fun _ => ?_) (fun e => absurd (e.symm.trans c7_) (by decide))
        refine w_seq ?_
        refine w_R ?_
        refine qa hnt rfl rfl ?_
        refine r_end ?_
        refine q_then ?_
        refine w_le (s := 2) (y := pB (hasF n)) rfl (le_of_eq (congrArg (fun z : Bool => pB z) (show true = (hasF n) by first | exact (decide_eq_true (by omega)).symm | exact (decide_eq_false (by omega)).symm))) ?_
        refine w_ret ?_
        refine q_block_ret ?_
        refine q_then_ret ?_
        exact fin_plain (ret_tmp rfl ret_nil) rfl rfl ⟨rfl, rfl, rfl⟩
       ·
        have c7_ := c7
        try simp only [sB] at c7
        refine w_seq ?_
        refine w_R ?_
        refine qo hnt rfl (s_eql rfl rfl ?_)
        refine qa hnt rfl rfl ?_
        refine r_end ?_
        refine q_then ?_
        refine w_if rfl (fun c8 => ?_) (fun c8 => ?_)
        ·
         have c8_ := c8
         try simp only [sB] at c8
         refine w_skip ?_
         refine q_then ?_
         refine w_if rfl (fun _ => ?_) (fun e => absurd (e.symm.trans c8_) (by decide))
         refine w_seq ?_
         refine w_R ?_
         refine qa hnt rfl rfl ?_
         refine r_end ?_
         refine q_then ?_
         refine w_le (s := 2) (y := pB (hasF n)) rfl (le_of_eq (congrArg (fun z : Bool => pB z) (show true = (hasF n) by first | exact (decide_eq_true (by omega)).symm | exact (decide_eq_false (by omega)).symm))) ?_
         refine w_ret ?_
         refine q_block_ret ?_
         refine q_then_ret ?_
         exact fin_plain (ret_tmp rfl ret_nil) rfl rfl ⟨rfl, rfl, rfl⟩
        ·
         have c8_ := c8
         try simp only [sB] at c8
         refine w_seq ?_
         refine w_R ?_
         refine qo hnt rfl (s_eql rfl rfl ?_)
         refine qa hnt rfl rfl ?_
         refine r_end ?_
         refine q_then ?_
         refine w_if rfl (fun c9 => ?_) (fun c9 => ?_)
         ·
          have c9_ := c9
          try simp only [sB] at c9
          refine w_skip ?_
          refine q_then ?_
          refine w_if rfl (fun _ => ?_) (fun e => absurd (e.symm.trans c9_) (by decide))
          refine w_seq ?_
          refine w_R ?_
          refine qa hnt rfl rfl ?_
          refine r_end ?_
          refine q_then ?_
          refine w_le (s := 2) (y := pB (hasF n)) rfl (le_of_eq (congrArg (fun z : Bool => pB z) (show true = (hasF n) by first | exact (decide_eq_true (by omega)).symm | exact (decide_eq_false (by omega)).symm))) ?_
          refine w_ret ?_
          refine q_block_ret ?_
          refine q_then_ret ?_
          exact fin_plain (ret_tmp rfl ret_nil) rfl rfl ⟨rfl, rfl, rfl⟩
         ·
          have c9_ := c9
          try simp only [sB] at c9
          refine w_seq ?_
          refine w_R ?_
          refine qo hnt rfl (s_eql rfl rfl ?_)
          refine qa hnt rfl rfl ?_
          refine r_end ?_
          refine q_then ?_
          refine w_if rfl (fun c10 => ?_) (fun c10 => ?_)
          ·
           have c10_ := c10
           try simp only [sB] at c10
           refine w_skip ?_
           refine q_then ?_
           refine w_if rfl (fun _ => ?_) (fun e => absurd (e.symm.trans c10_) (by decide))
           refine w_seq ?_
           refine w_R ?_
           refine qa hnt rfl rfl ?_
           refine r_end ?_
           refine q_then ?_
           refine w_le (s := 2) (y := pB (hasF n)) rfl (le_of_eq (congrArg (fun z : Bool => pB z) (show true = (hasF n) by first | exact (decide_eq_true (by omega)).symm | exact (decide_eq_false (by omega)).symm))) ?_
           refine w_ret ?_
           refine q_block_ret ?_
           refine q_then_ret ?_
           exact fin_plain (ret_tmp rfl ret_nil) rfl rfl ⟨rfl, rfl, rfl⟩
          ·
           have c10_ := c10
           try simp only [sB] at c10
           refine w_seq ?_
           refine w_R ?_
           refine qo hnt rfl (s_eql rfl rfl ?_)
           refine qa hnt rfl rfl ?_
           refine r_end ?_
           refine q_then ?_
           refine w_if rfl (fun c11 => ?_) (fun c11 => ?_)
           ·
            have c11_ := c11
            try simp only [sB] at c11
            refine w_skip ?_
            refine q_then ?_
            refine w_if rfl (fun _ => ?_) (fun e => absurd (e.symm.trans c11_) (by decide))
            refine w_seq ?_
            refine w_R ?_
            refine qa hnt rfl rfl ?_
            refine r_end ?_
            refine q_then ?_
            refine w_le (s := 2) (y := pB (hasF n)) rfl (le_of_eq (congrArg (fun z : Bool => pB z) (show true = (hasF n) by first | exact (decide_eq_true (by omega)).symm | exact (decide_eq_false (by omega)).symm))) ?_
            refine w_ret ?_
            refine q_block_ret ?_
            refine q_then_ret ?_
            exact fin_plain (ret_tmp rfl ret_nil) rfl rfl ⟨rfl, rfl, rfl⟩
           ·
            have c11_ := c11
            try simp only [sB] at c11
            refine w_R ?_
            refine qo hnt rfl (s_eql rfl rfl ?_)
            refine qa hnt rfl rfl ?_
            refine r_end ?_
            refine q_then ?_
            refine w_if rfl (fun c12 => ?_) (fun c12 => ?_)
            ·
             have c12_ := c12
             try simp only [sB] at c12
             refine w_seq ?_
             refine w_R ?_
             refine qa hnt rfl rfl ?_
             refine r_end ?_
             refine q_then ?_
             refine w_le (s := 2) (y := pB (hasF n)) rfl (le_of_eq (congrArg (fun z : Bool => pB z) (show true = (hasF n) by first | exact (decide_eq_true (by omega)).symm | exact (decide_eq_false (by omega)).symm))) ?_
             refine w_ret ?_
             refine q_block_ret ?_
             refine q_then_ret ?_
             exact fin_plain (ret_tmp rfl ret_nil) rfl rfl ⟨rfl, rfl, rfl⟩
            ·
             have c12_ := c12
             try simp only [sB] at c12
             refine w_skip ?_
             refine q_block ?_
             refine q_then ?_
             refine w_seq ?_
             refine w_R ?_
             refine qa hnt rfl rfl ?_
             refine r_end ?_
             refine q_then ?_
             refine w_le (s := 2) (y := pB (hasF n)) rfl (le_of_eq (congrArg (fun z : Bool => pB z) (show false = (hasF n) by first | exact (decide_eq_true (by omega)).symm | exact (decide_eq_false (by omega)).symm))) ?_
             refine w_ret ?_
             exact fin_plain (ret_tmp rfl ret_nil) rfl rfl ⟨rfl, rfl, rfl⟩

theorem w_pdu_reads (n : Int)  :
    T Try.prog 71 [pI n] 0 [] (Ret (pB (decide (1 ≤ n ∧ n ≤ 4))) 0 []) := by
 refine t_fun tabOk (n := 9) (rs := [.tmp 2]) Try.func71 rfl rfl rfl rfl (Nat.le_of_ble_eq_true rfl) ?_
 intro c hnt hk
 refine w_seq ?_
 refine w_R ?_
 refine qa hnt rfl rfl ?_
 refine r_end ?_
 refine q_then ?_
 refine w_seq ?_
 refine w_R ?_
 refine qm hnt rfl rfl ?_
 refine qo hnt rfl (s_geq rfl rfl ?_)
 refine qm hnt rfl rfl ?_
 refine r_cut0 3 [(2, pB false), (8, pB ((decide (1 ≤ n)) && (decide (n ≤ 4))))] ?_ ?_
 ·
  refine r_if tabOk hnt rfl rfl rfl (fun g1 => ?_) (fun g1 => ?_)
  ·
   have g1' := g1
   try simp only [sB] at g1'
   refine qm hnt rfl rfl ?_
   refine ry hnt rfl rfl rfl g1 ?_
   refine qo hnt rfl (s_leq rfl rfl ?_)
   refine qo hnt rfl (s_pick_t rfl g1 rfl ?_)
   refine r_eq (s := 8) (y := pB ((decide (1 ≤ n)) && (decide (n ≤ 4)))) rfl (mix_at g1) ?_
   exact r_mid ⟨⟨rfl, rfl, trivial⟩, rfl, rfl⟩
  ·
   have g1' := g1
   try simp only [sB] at g1'
   refine rn hnt rfl rfl rfl g1 ?_
   refine qo hnt rfl (s_pick_f rfl g1 rfl ?_)
   refine r_eq (s := 8) (y := pB ((decide (1 ≤ n)) && (decide (n ≤ 4)))) rfl (mix_af _ g1) ?_
   exact r_mid ⟨⟨rfl, rfl, trivial⟩, rfl, rfl⟩
 ·
  refine qa hnt rfl rfl ?_
  refine r_end ?_
  refine q_then ?_
  refine w_le (s := 2) (y := pB (decide (1 ≤ n ∧ n ≤ 4))) rfl (le_of_eq (congrArg (fun z : Bool => pB z) (show ((decide (1 ≤ n)) && (decide (n ≤ 4))) = (decide (1 ≤ n ∧ n ≤ 4)) by apply Bool.eq_iff_iff.2; simp only [Bool.and_eq_true, Bool.or_eq_true, Bool.not_eq_true', decide_eq_true_eq, decide_eq_false_iff_not, u16z]; try omega))) ?_
  refine w_ret ?_
  exact fin_plain (ret_tmp rfl ret_nil) rfl rfl ⟨rfl, rfl, rfl⟩

theorem w_pdu_bits (r : TRequest) (hb : r.bits.length ≤ 140737488351232) (hv : r.vals.length ≤ 140737488351232) :
    T Try.prog 60 [PV.f (eRequest r)] 0 [] (Ret (pI (bitsN r)) 0 []) := by
 refine t_fun tabOk (n := 11) (rs := [.tmp 2]) Try.func60 rfl rfl rfl rfl (Nat.le_of_ble_eq_true rfl) ?_
 intro c hnt hk
 refine w_seq ?_
 refine w_R ?_
 refine qo hnt rfl (s_box rfl rfl ?_)
 refine qa hnt rfl rfl ?_
 refine r_set [(1, PV.ptr 0 0)] [(0, .obj [pI r.fn, pI r.at_, pI r.count, pI r.wAt, pI r.sub, pS 1 false encBo r.bits, pS 1 false enc16 r.vals, p16 r.and_, p16 r.or_])] 1 ⟨rfl, trivial⟩ rfl rfl ?_
 refine r_end ?_
 refine q_then ?_
 refine w_seq ?_
 refine w_seq ?_
 refine w_R ?_
 refine qo hnt rfl (s_fa_ptr tab_32 rfl rfl tab_3 (by decide) rfl ?_)
 refine qo hnt rfl (s_load_ptr1 tab_3 rfl rfl rfl rfl rfl ?_)
 refine r_end ?_
 refine q_then ?_
 refine w_block ?_
 refine w_seq ?_
 refine w_R ?_
 refine qo hnt rfl (s_eql rfl rfl ?_)
 refine qa hnt rfl rfl ?_
 refine r_end ?_
 refine q_then ?_
 refine w_if rfl (fun c1 => ?_) (fun c1 => ?_)
 ·
  have c1_ := c1
  try simp only [sB] at c1
  refine w_seq ?_
  refine w_R ?_
  refine qa hnt rfl rfl ?_
  refine r_end ?_
  refine q_then ?_
  refine w_le (s := 2) (y := pI (bitsN r)) rfl (le_of_eq (congrArg (fun z : Int => pI z) (show 1 = (bitsN r) by unfold bitsN; (repeat' split) <;> first | rfl | omega))) ?_
  refine w_ret ?_
  refine q_block_ret ?_
  refine q_then_ret ?_
  exact fin_plain (ret_tmp rfl ret_nil) rfl rfl ⟨rfl, rfl, rfl⟩
 ·
  have c1_ := c1
  try simp only [sB] at c1
  refine w_seq ?_
  refine w_R ?_
  refine qo hnt rfl (s_eql rfl rfl ?_)
  refine qa hnt rfl rfl ?_
  refine r_end ?_
  refine q_then ?_
  refine w_if rfl (fun c2 => ?_) (fun c2 => ?_)
  ·
   have c2_ := c2
   try simp only [sB] at c2
   refine w_seq ?_
   refine w_R ?_
   refine qo hnt rfl (s_fa_ptr tab_32 rfl rfl tab_3 (by decide) rfl ?_)
   refine qo hnt rfl (s_load_ptr1 tab_3 rfl rfl rfl rfl rfl ?_)
   refine qa hnt rfl rfl ?_
   refine r_end ?_
   refine q_then ?_
   refine w_le (s := 2) (y := pI (bitsN r)) rfl (le_of_eq (congrArg (fun z : Int => pI z) (show r.count = (bitsN r) by unfold bitsN; (repeat' split) <;> first | rfl | omega))) ?_
   refine w_ret ?_
   refine q_block_ret ?_
   refine q_then_ret ?_
   exact fin_plain (ret_tmp rfl ret_nil) rfl rfl ⟨rfl, rfl, rfl⟩
  ·
   have c2_ := c2
   try simp only [sB] at c2
   refine w_skip ?_
   refine q_block ?_
   refine q_then ?_
   refine w_seq ?_
   refine w_R ?_
   refine qa hnt rfl rfl ?_
   refine r_end ?_
   refine q_then ?_
   refine w_le (s := 2) (y := pI (bitsN r)) rfl (le_of_eq (congrArg (fun z : Int => pI z) (show 0 = (bitsN r) by unfold bitsN; (repeat' split) <;> first | rfl | omega))) ?_
   refine w_ret ?_
   exact fin_plain (ret_tmp rfl ret_nil) rfl rfl ⟨rfl, rfl, rfl⟩

theorem w_pdu_vals (r : TRequest) (hb : r.bits.length ≤ 140737488351232) (hv : r.vals.length ≤ 140737488351232) :
    T Try.prog 61 [PV.f (eRequest r)] 0 [] (Ret (pI (valsN r)) 0 []) := by
 refine t_fun tabOk (n := 17) (rs := [.tmp 2]) Try.func61 rfl rfl rfl rfl (Nat.le_of_ble_eq_true rfl) ?_
 intro c hnt hk
 refine w_seq ?_
 refine w_R ?_
 refine qo hnt rfl (s_box rfl rfl ?_)
 refine qa hnt rfl rfl ?_
 refine r_set [(1, PV.ptr 0 0)] [(0, .obj [pI r.fn, pI r.at_, pI r.count, pI r.wAt, pI r.sub, pS 1 false encBo r.bits, pS 1 false enc16 r.vals, p16 r.and_, p16 r.or_])] 1 ⟨rfl, trivial⟩ rfl rfl ?_
 refine r_end ?_
 refine q_then ?_
 refine w_seq ?_
 refine w_seq ?_
 refine w_R ?_
 refine qo hnt rfl (s_fa_ptr tab_32 rfl rfl tab_3 (by decide) rfl ?_)
 refine qo hnt rfl (s_load_ptr1 tab_3 rfl rfl rfl rfl rfl ?_)
 refine r_end ?_
 refine q_then ?_
 refine w_block ?_
 refine w_seq ?_
 refine w_seq ?_
 refine w_R ?_
 refine qo hnt rfl (s_eql rfl rfl ?_)
 refine qa hnt rfl rfl ?_
 refine r_end ?_
 refine q_then ?_
 refine w_if rfl (fun c1 => ?_) (fun c1 => ?_)
 ·
  have c1_ := c1
  try simp only [sB] at c1
  refine w_skip ?_
  refine q_then ?_
  refine w_if rfl (fun _ => ?_) (fun e => absurd (e.symm.trans c1_) (by decide))
  refine w_seq ?_
  refine w_R ?_
  refine qa hnt rfl rfl ?_
  refine r_end ?_
  refine q_then ?_
  refine w_le (s := 2) (y := pI (valsN r)) rfl (le_of_eq (congrArg (fun z : Int => pI z) (show 1 = (valsN r) by unfold valsN; (repeat' split) <;> first | rfl | omega))) ?_
  refine w_ret ?_
  refine q_block_ret ?_
  refine q_then_ret ?_
  exact fin_plain (ret_tmp rfl ret_nil) rfl rfl ⟨rfl, rfl, rfl⟩
 ·
  have c1_ := c1
  try simp only [sB] at c1
  refine w_R ?_
  refine qo hnt rfl (s_eql rfl rfl ?_)
  refine qa hnt rfl rfl ?_
  refine r_end ?_
  refine q_then ?_
  refine w_if rfl (fun c2 => ?_) (fun c2 => ?_)
  ·
   have c2_ := c2
   try simp only [sB] at c2
   refine w_seq ?_
   refine w_R ?_
   refine qa hnt rfl rfl ?_
   refine r_end ?_
   refine q_then ?_
   refine w_le (s := 2) (y := pI (valsN r)) rfl (le_of_eq (congrArg (fun z : Int => pI z) (show 1 = (valsN r) by unfold valsN; (repeat' split) <;> first | rfl | omega))) ?_
   refine w_ret ?_
   refine q_block_ret ?_
   refine q_then_ret ?_
   exact fin_plain (ret_tmp rfl ret_nil) rfl rfl ⟨rfl, rfl, rfl⟩
  ·
   have c2_ := c2
   try simp only [sB] at c2
   refine w_seq ?_
   refine w_R ?_
   refine qo hnt rfl (s_eql rfl rfl ?_)
   refine qa hnt rfl rfl ?_
   refine r_end ?_
   refine q_then ?_
   refine w_if rfl (fun c3 => ?_) (fun c3 => ?_)
   ·
    have c3_ := c3
    try simp only [sB] at c3
    refine w_seq ?_
    refine w_R ?_
    refine qo hnt rfl (s_fa_ptr tab_32 rfl rfl tab_3 (by decide) rfl ?_)
    refine qo hnt rfl (s_load_ptr1 tab_3 rfl rfl rfl rfl rfl ?_)
    refine qa hnt rfl rfl ?_
    refine r_end ?_
    refine q_then ?_
    refine w_le (s := 2) (y := pI (valsN r)) rfl (le_of_eq (congrArg (fun z : Int => pI z) (show r.count = (valsN r) by unfold valsN; (repeat' split) <;> first | rfl | omega))) ?_
    refine w_ret ?_
    refine q_block_ret ?_
    refine q_then_ret ?_
    exact fin_plain (ret_tmp rfl ret_nil) rfl rfl ⟨rfl, rfl, rfl⟩
   ·
    have c3_ := c3
    try simp only [sB] at c3
    refine w_seq ?_
    refine w_R ?_
    refine qo hnt rfl (s_eql rfl rfl ?_)
    refine qa hnt rfl rfl ?_
    refine r_end ?_
    refine q_then ?_
    refine w_if rfl (fun c4 => ?_) (fun c4 => ?_)
    ·
     have c4_ := c4
     try simp only [sB] at c4
     refine w_seq ?_
     refine w_R ?_
     refine qo hnt rfl (s_fa_ptr tab_32 rfl rfl tab_29 (by decide) rfl ?_)
     refine qo hnt rfl (s_load_ptr1 tab_29 rfl rfl rfl rfl rfl ?_)
     refine qo hnt rfl (s_lenM (l := r.vals) tab_29 rfl (hM_sl (f := enc16) rfl) ?_)
     refine qa hnt rfl rfl ?_
     refine r_end ?_
     refine q_then ?_
     refine w_le (s := 2) (y := pI (valsN r)) rfl (le_of_eq (congrArg (fun z : Int => pI z) (show ((r.vals.length : Nat) : Int) = (valsN r) by unfold valsN; (repeat' split) <;> first | rfl | omega))) ?_
     refine w_ret ?_
     refine q_block_ret ?_
     refine q_then_ret ?_
     exact fin_plain (ret_tmp rfl ret_nil) rfl rfl ⟨rfl, rfl, rfl⟩
    ·
     have c4_ := c4
     try simp only [sB] at c4
     refine w_skip ?_
     refine q_block ?_
     refine q_then ?_
     refine w_seq ?_
     refine w_R ?_
     refine qa hnt rfl rfl ?_
     refine r_end ?_
     refine q_then ?_
     refine w_le (s := 2) (y := pI (valsN r)) rfl (le_of_eq (congrArg (fun z : Int => pI z) (show 0 = (valsN r) by unfold valsN; (repeat' split) <;> first | rfl | omega))) ?_
     refine w_ret ?_
     exact fin_plain (ret_tmp rfl ret_nil) rfl rfl ⟨rfl, rfl, rfl⟩

theorem w_pdu_fields (r : TRequest) (hb : r.bits.length ≤ 140737488351232) (hv : r.vals.length ≤ 140737488351232) :
    T Try.prog 58 [PV.f (eRequest r)] 0 [] (Ret (pB (fieldsP r)) 0 []) := by
 refine t_fun tabOk (n := 82) (rs := [.tmp 2]) Try.func58 rfl rfl rfl rfl (Nat.le_of_ble_eq_true rfl) ?_
 intro c hnt hk
 refine w_seq ?_
 refine w_R ?_
 refine qo hnt rfl (s_box rfl rfl ?_)
 refine qa hnt rfl rfl ?_
 refine r_set [(1, PV.ptr 0 0)] [(0, .obj [pI r.fn, pI r.at_, pI r.count, pI r.wAt, pI r.sub, pS 1 false encBo r.bits, pS 1 false enc16 r.vals, p16 r.and_, p16 r.or_])] 1 ⟨rfl, trivial⟩ rfl rfl ?_
 refine r_end ?_
 refine q_then ?_
 refine w_seq ?_
 refine w_R ?_
 refine qo hnt rfl (s_fa_ptr tab_32 rfl rfl tab_3 (by decide) rfl ?_)
 refine qo hnt rfl (s_load_ptr1 tab_3 rfl rfl rfl rfl rfl ?_)
 refine qo hnt rfl (s_neq rfl rfl ?_)
 refine qm hnt rfl rfl ?_
 refine r_cut0 4 [(1, PV.ptr 0 0), (13, pB ((!decide (r.fn = 8)) && (!decide (r.fn = 17))))] ?_ ?_
 ·
  refine r_if tabOk hnt rfl rfl rfl (fun g1 => ?_) (fun g1 => ?_)
  ·
   have g1' := g1
   try simp only [sB] at g1'
   refine qo hnt rfl (s_fa_ptr tab_32 rfl rfl tab_3 (by decide) rfl ?_)
   refine ry hnt rfl rfl rfl g1 ?_
   refine qo hnt rfl (s_load_ptr1 tab_3 rfl rfl rfl rfl rfl ?_)
   refine ry hnt rfl rfl rfl g1 ?_
   refine qo hnt rfl (s_neq rfl rfl ?_)
   refine qo hnt rfl (s_pick_t rfl g1 rfl ?_)
   refine r_eq (s := 13) (y := pB ((!decide (r.fn = 8)) && (!decide (r.fn = 17)))) rfl (mix_at g1) ?_
   exact r_mid ⟨⟨rfl, rfl, trivial⟩, rfl, rfl⟩
  ·
   have g1' := g1
   try simp only [sB] at g1'
   refine rn hnt rfl rfl rfl g1 ?_
   refine rn hnt rfl rfl rfl g1 ?_
   refine qo hnt rfl (s_pick_f rfl g1 rfl ?_)
   refine r_eq (s := 13) (y := pB ((!decide (r.fn = 8)) && (!decide (r.fn = 17)))) rfl (mix_af _ g1) ?_
   exact r_mid ⟨⟨rfl, rfl, trivial⟩, rfl, rfl⟩
 ·
  refine qa hnt rfl rfl ?_
  refine r_end ?_
  refine q_then ?_
  refine w_seq ?_
  refine w_R ?_
  refine qo hnt rfl (s_fa_ptr tab_32 rfl rfl tab_3 (by decide) rfl ?_)
  refine qo hnt rfl (s_load_ptr1 tab_3 rfl rfl rfl rfl rfl ?_)
  refine qo hnt rfl (s_callF rfl rfl rfl (w_pdu_reads r.fn) rfl ?_)
  refine qm hnt rfl rfl ?_
  refine r_cut0 4 [(1, PV.ptr 0 0), (3, pB ((!decide (r.fn = 8)) && (!decide (r.fn = 17)))), (21, pB ((decide (1 ≤ r.fn ∧ r.fn ≤ 4)) || (decide (r.fn = 15))))] ?_ ?_
  ·
   refine r_if tabOk hnt rfl rfl rfl (fun g2 => ?_) (fun g2 => ?_)
   ·
    have g2' := g2
    try simp only [sB] at g2'
    refine qo hnt rfl (s_fa_ptr tab_32 rfl rfl tab_3 (by decide) rfl ?_)
    refine ry hnt rfl rfl rfl g2 ?_
    refine qo hnt rfl (s_load_ptr1 tab_3 rfl rfl rfl rfl rfl ?_)
    refine ry hnt rfl rfl rfl g2 ?_
    refine qo hnt rfl (s_eql rfl rfl ?_)
    refine qo hnt rfl (s_pick_f rfl g2 rfl ?_)
    refine r_eq (s := 21) (y := pB ((decide (1 ≤ r.fn ∧ r.fn ≤ 4)) || (decide (r.fn = 15)))) rfl (mix_of g2) ?_
    exact r_mid ⟨⟨rfl, rfl, rfl, trivial⟩, rfl, rfl⟩
   ·
    have g2' := g2
    try simp only [sB] at g2'
    refine rn hnt rfl rfl rfl g2 ?_
    refine rn hnt rfl rfl rfl g2 ?_
    refine qo hnt rfl (s_pick_t rfl g2 rfl ?_)
    refine r_eq (s := 21) (y := pB ((decide (1 ≤ r.fn ∧ r.fn ≤ 4)) || (decide (r.fn = 15)))) rfl (mix_ot _ g2) ?_
    exact r_mid ⟨⟨rfl, rfl, rfl, trivial⟩, rfl, rfl⟩
  ·
   refine qm hnt rfl rfl ?_
   refine r_cut0 4 [(1, PV.ptr 0 0), (3, pB ((!decide (r.fn = 8)) && (!decide (r.fn = 17)))), (26, pB (((decide (1 ≤ r.fn ∧ r.fn ≤ 4)) || (decide (r.fn = 15))) || (decide (r.fn = 16))))] ?_ ?_
   ·
    refine r_if tabOk hnt rfl rfl rfl (fun g3 => ?_) (fun g3 => ?_)
    ·
     have g3' := g3
     try simp only [sB] at g3'
     refine qo hnt rfl (s_fa_ptr tab_32 rfl rfl tab_3 (by decide) rfl ?_)
     refine ry hnt rfl rfl rfl g3 ?_
     refine qo hnt rfl (s_load_ptr1 tab_3 rfl rfl rfl rfl rfl ?_)
     refine ry hnt rfl rfl rfl g3 ?_
     refine qo hnt rfl (s_eql rfl rfl ?_)
     refine qo hnt rfl (s_pick_f rfl g3 rfl ?_)
     refine r_eq (s := 26) (y := pB (((decide (1 ≤ r.fn ∧ r.fn ≤ 4)) || (decide (r.fn = 15))) || (decide (r.fn = 16)))) rfl (mix_of g3) ?_
     exact r_mid ⟨⟨rfl, rfl, rfl, trivial⟩, rfl, rfl⟩
    ·
     have g3' := g3
     try simp only [sB] at g3'
     refine rn hnt rfl rfl rfl g3 ?_
     refine rn hnt rfl rfl rfl g3 ?_
     refine qo hnt rfl (s_pick_t rfl g3 rfl ?_)
     refine r_eq (s := 26) (y := pB (((decide (1 ≤ r.fn ∧ r.fn ≤ 4)) || (decide (r.fn = 15))) || (decide (r.fn = 16)))) rfl (mix_ot _ g3) ?_
     exact r_mid ⟨⟨rfl, rfl, rfl, trivial⟩, rfl, rfl⟩
   ·
    refine qm hnt rfl rfl ?_
    refine r_cut0 4 [(1, PV.ptr 0 0), (3, pB ((!decide (r.fn = 8)) && (!decide (r.fn = 17)))), (31, pB ((((decide (1 ≤ r.fn ∧ r.fn ≤ 4)) || (decide (r.fn = 15))) || (decide (r.fn = 16))) || (decide (r.fn = 23))))] ?_ ?_
    ·
     refine r_if tabOk hnt rfl rfl rfl (fun g4 => ?_) (fun g4 => ?_)
     ·
      have g4' := g4
      try simp only [sB] at g4'
      refine qo hnt rfl (s_fa_ptr tab_32 rfl rfl tab_3 (by decide) rfl ?_)
      refine ry hnt rfl rfl rfl g4 ?_
      refine qo hnt rfl (s_load_ptr1 tab_3 rfl rfl rfl rfl rfl ?_)
      refine ry hnt rfl rfl rfl g4 ?_
      refine qo hnt rfl (s_eql rfl rfl ?_)
      refine qo hnt rfl (s_pick_f rfl g4 rfl ?_)
      refine r_eq (s := 31) (y := pB ((((decide (1 ≤ r.fn ∧ r.fn ≤ 4)) || (decide (r.fn = 15))) || (decide (r.fn = 16))) || (decide (r.fn = 23)))) rfl (mix_of g4) ?_
      exact r_mid ⟨⟨rfl, rfl, rfl, trivial⟩, rfl, rfl⟩
     ·
      have g4' := g4
      try simp only [sB] at g4'
      refine rn hnt rfl rfl rfl g4 ?_
      refine rn hnt rfl rfl rfl g4 ?_
      refine qo hnt rfl (s_pick_t rfl g4 rfl ?_)
      refine r_eq (s := 31) (y := pB ((((decide (1 ≤ r.fn ∧ r.fn ≤ 4)) || (decide (r.fn = 15))) || (decide (r.fn = 16))) || (decide (r.fn = 23)))) rfl (mix_ot _ g4) ?_
      exact r_mid ⟨⟨rfl, rfl, rfl, trivial⟩, rfl, rfl⟩
    ·
     refine qa hnt rfl rfl ?_
     refine r_end ?_
     refine q_then ?_
     refine w_seq ?_
     refine w_R ?_
     refine qo hnt rfl (s_fa_ptr tab_32 rfl rfl tab_3 (by decide) rfl ?_)
     refine qo hnt rfl (s_load_ptr1 tab_3 rfl rfl rfl rfl rfl ?_)
     refine qo hnt rfl (s_eql rfl rfl ?_)
     refine qa hnt rfl rfl ?_
     refine r_end ?_
     refine q_then ?_
     refine w_seq ?_
     refine w_R ?_
     refine qm hnt rfl rfl ?_
     refine qm hnt rfl rfl ?_
     refine r_cut0 4 [(1, PV.ptr 0 0), (4, pB ((((decide (1 ≤ r.fn ∧ r.fn ≤ 4)) || (decide (r.fn = 15))) || (decide (r.fn = 16))) || (decide (r.fn = 23)))), (5, pB (decide (r.fn = 22))), (40, pB (((!decide (r.fn = 8)) && (!decide (r.fn = 17))) || (decide (r.at_ = 0))))] ?_ ?_
     ·
      refine r_if tabOk hnt rfl rfl rfl (fun g5 => ?_) (fun g5 => ?_)
      ·
       have g5' := g5
       try simp only [sB] at g5'
       refine qo hnt rfl (s_fa_ptr tab_32 rfl rfl tab_3 (by decide) rfl ?_)
       refine ry hnt rfl rfl rfl g5 ?_
       refine qo hnt rfl (s_load_ptr1 tab_3 rfl rfl rfl rfl rfl ?_)
       refine ry hnt rfl rfl rfl g5 ?_
       refine qo hnt rfl (s_eql rfl rfl ?_)
       refine qo hnt rfl (s_pick_f rfl g5 rfl ?_)
       refine r_eq (s := 40) (y := pB (((!decide (r.fn = 8)) && (!decide (r.fn = 17))) || (decide (r.at_ = 0)))) rfl (mix_of g5) ?_
       exact r_mid ⟨⟨rfl, rfl, rfl, rfl, trivial⟩, rfl, rfl⟩
      ·
       have g5' := g5
       try simp only [sB] at g5'
       refine rn hnt rfl rfl rfl g5 ?_
       refine rn hnt rfl rfl rfl g5 ?_
       refine qo hnt rfl (s_pick_t rfl g5 rfl ?_)
       refine r_eq (s := 40) (y := pB (((!decide (r.fn = 8)) && (!decide (r.fn = 17))) || (decide (r.at_ = 0)))) rfl (mix_ot _ g5) ?_
       exact r_mid ⟨⟨rfl, rfl, rfl, rfl, trivial⟩, rfl, rfl⟩
     ·
      refine qm hnt rfl rfl ?_
      refine r_cut0 7 [(1, PV.ptr 0 0), (5, pB (decide (r.fn = 22))), (48, pB ((((!decide (r.fn = 8)) && (!decide (r.fn = 17))) || (decide (r.at_ = 0))) && (((((decide (1 ≤ r.fn ∧ r.fn ≤ 4)) || (decide (r.fn = 15))) || (decide (r.fn = 16))) || (decide (r.fn = 23))) || (decide (r.count = 0)))))] ?_ ?_
      ·
       refine r_if tabOk hnt rfl rfl rfl (fun g6 => ?_) (fun g6 => ?_)
       ·
        have g6' := g6
        try simp only [sB] at g6'
        refine qm hnt rfl rfl ?_
        refine ry hnt rfl rfl rfl g6 ?_
        refine qm hnt rfl rfl ?_
        refine r_cut0 4 [(1, PV.ptr 0 0), (5, pB (decide (r.fn = 22))), (41, pB (((!decide (r.fn = 8)) && (!decide (r.fn = 17))) || (decide (r.at_ = 0)))), (47, pB (((((decide (1 ≤ r.fn ∧ r.fn ≤ 4)) || (decide (r.fn = 15))) || (decide (r.fn = 16))) || (decide (r.fn = 23))) || (decide (r.count = 0))))] ?_ ?_
        ·
         refine r_if tabOk hnt rfl rfl rfl (fun g7 => ?_) (fun g7 => ?_)
         ·
          have g7' := g7
          try simp only [sB] at g7'
          refine qo hnt rfl (s_fa_ptr tab_32 rfl rfl tab_3 (by decide) rfl ?_)
          refine ry hnt rfl rfl rfl g7 ?_
          refine qo hnt rfl (s_load_ptr1 tab_3 rfl rfl rfl rfl rfl ?_)
          refine ry hnt rfl rfl rfl g7 ?_
          refine qo hnt rfl (s_eql rfl rfl ?_)
          refine ry hnt rfl rfl rfl g6 ?_
          refine qo hnt rfl (s_pick_f rfl g7 rfl ?_)
          refine r_eq (s := 47) (y := pB (((((decide (1 ≤ r.fn ∧ r.fn ≤ 4)) || (decide (r.fn = 15))) || (decide (r.fn = 16))) || (decide (r.fn = 23))) || (decide (r.count = 0)))) rfl (mix_of g7) ?_
          exact r_mid ⟨⟨rfl, rfl, rfl, rfl, trivial⟩, rfl, rfl⟩
         ·
          have g7' := g7
          try simp only [sB] at g7'
          refine rn hnt rfl rfl rfl g7 ?_
          refine rn hnt rfl rfl rfl g7 ?_
          refine ry hnt rfl rfl rfl g6 ?_
          refine qo hnt rfl (s_pick_t rfl g7 rfl ?_)
          refine r_eq (s := 47) (y := pB (((((decide (1 ≤ r.fn ∧ r.fn ≤ 4)) || (decide (r.fn = 15))) || (decide (r.fn = 16))) || (decide (r.fn = 23))) || (decide (r.count = 0)))) rfl (mix_ot _ g7) ?_
          exact r_mid ⟨⟨rfl, rfl, rfl, rfl, trivial⟩, rfl, rfl⟩
        ·
         refine qo hnt rfl (s_pick_t rfl g6 rfl ?_)
         refine r_eq (s := 48) (y := pB ((((!decide (r.fn = 8)) && (!decide (r.fn = 17))) || (decide (r.at_ = 0))) && (((((decide (1 ≤ r.fn ∧ r.fn ≤ 4)) || (decide (r.fn = 15))) || (decide (r.fn = 16))) || (decide (r.fn = 23))) || (decide (r.count = 0))))) rfl (mix_at g6) ?_
         exact r_mid ⟨⟨rfl, rfl, rfl, trivial⟩, rfl, rfl⟩
       ·
        have g6' := g6
        try simp only [sB] at g6'
        refine rn hnt rfl rfl rfl g6 ?_
        refine ru hnt rfl rfl rfl ?_
        refine ru hnt rfl rfl rfl ?_
        refine ru hnt rfl rfl rfl ?_
        refine rn hnt rfl rfl rfl g6 ?_
        refine qo hnt rfl (s_pick_f rfl g6 rfl ?_)
        refine r_eq (s := 48) (y := pB ((((!decide (r.fn = 8)) && (!decide (r.fn = 17))) || (decide (r.at_ = 0))) && (((((decide (1 ≤ r.fn ∧ r.fn ≤ 4)) || (decide (r.fn = 15))) || (decide (r.fn = 16))) || (decide (r.fn = 23))) || (decide (r.count = 0))))) rfl (mix_af _ g6) ?_
        exact r_mid ⟨⟨rfl, rfl, rfl, trivial⟩, rfl, rfl⟩
      ·
       refine qm hnt rfl rfl ?_
       refine r_cut0 9 [(1, PV.ptr 0 0), (5, pB (decide (r.fn = 22))), (58, pB (((((!decide (r.fn = 8)) && (!decide (r.fn = 17))) || (decide (r.at_ = 0))) && (((((decide (1 ≤ r.fn ∧ r.fn ≤ 4)) || (decide (r.fn = 15))) || (decide (r.fn = 16))) || (decide (r.fn = 23))) || (decide (r.count = 0)))) && ((decide (r.fn = 23)) || (decide (r.wAt = 0)))))] ?_ ?_
       ·
        refine r_if tabOk hnt rfl rfl rfl (fun g8 => ?_) (fun g8 => ?_)
        ·
         have g8' := g8
         try simp only [sB] at g8'
         refine qo hnt rfl (s_fa_ptr tab_32 rfl rfl tab_3 (by decide) rfl ?_)
         refine ry hnt rfl rfl rfl g8 ?_
         refine qo hnt rfl (s_load_ptr1 tab_3 rfl rfl rfl rfl rfl ?_)
         refine ry hnt rfl rfl rfl g8 ?_
         refine qo hnt rfl (s_eql rfl rfl ?_)
         refine ry hnt rfl rfl rfl g8 ?_
         refine qm hnt rfl rfl ?_
         refine r_cut0 4 [(1, PV.ptr 0 0), (5, pB (decide (r.fn = 22))), (49, pB ((((!decide (r.fn = 8)) && (!decide (r.fn = 17))) || (decide (r.at_ = 0))) && (((((decide (1 ≤ r.fn ∧ r.fn ≤ 4)) || (decide (r.fn = 15))) || (decide (r.fn = 16))) || (decide (r.fn = 23))) || (decide (r.count = 0))))), (57, pB ((decide (r.fn = 23)) || (decide (r.wAt = 0))))] ?_ ?_
         ·
          refine r_if tabOk hnt rfl rfl rfl (fun g9 => ?_) (fun g9 => ?_)
          ·
           have g9' := g9
           try simp only [sB] at g9'
           refine qo hnt rfl (s_fa_ptr tab_32 rfl rfl tab_3 (by decide) rfl ?_)
           refine ry hnt rfl rfl rfl g9 ?_
           refine qo hnt rfl (s_load_ptr1 tab_3 rfl rfl rfl rfl rfl ?_)
           refine ry hnt rfl rfl rfl g9 ?_
           refine qo hnt rfl (s_eql rfl rfl ?_)
           refine ry hnt rfl rfl rfl g8 ?_
           refine qo hnt rfl (s_pick_f rfl g9 rfl ?_)
           refine r_eq (s := 57) (y := pB ((decide (r.fn = 23)) || (decide (r.wAt = 0)))) rfl (mix_of g9) ?_
           exact r_mid ⟨⟨rfl, rfl, rfl, rfl, trivial⟩, rfl, rfl⟩
          ·
           have g9' := g9
           try simp only [sB] at g9'
           refine rn hnt rfl rfl rfl g9 ?_
           refine rn hnt rfl rfl rfl g9 ?_
           refine ry hnt rfl rfl rfl g8 ?_
           refine qo hnt rfl (s_pick_t rfl g9 rfl ?_)
           refine r_eq (s := 57) (y := pB ((decide (r.fn = 23)) || (decide (r.wAt = 0)))) rfl (mix_ot _ g9) ?_
           exact r_mid ⟨⟨rfl, rfl, rfl, rfl, trivial⟩, rfl, rfl⟩
         ·
          refine qo hnt rfl (s_pick_t rfl g8 rfl ?_)
          refine r_eq (s := 58) (y := pB (((((!decide (r.fn = 8)) && (!decide (r.fn = 17))) || (decide (r.at_ = 0))) && (((((decide (1 ≤ r.fn ∧ r.fn ≤ 4)) || (decide (r.fn = 15))) || (decide (r.fn = 16))) || (decide (r.fn = 23))) || (decide (r.count = 0)))) && ((decide (r.fn = 23)) || (decide (r.wAt = 0))))) rfl (mix_at g8) ?_
          exact r_mid ⟨⟨rfl, rfl, rfl, trivial⟩, rfl, rfl⟩
        ·
         have g8' := g8
         try simp only [sB] at g8'
         refine rn hnt rfl rfl rfl g8 ?_
         refine rn hnt rfl rfl rfl g8 ?_
         refine rn hnt rfl rfl rfl g8 ?_
         refine ru hnt rfl rfl rfl ?_
         refine ru hnt rfl rfl rfl ?_
         refine ru hnt rfl rfl rfl ?_
         refine rn hnt rfl rfl rfl g8 ?_
         refine qo hnt rfl (s_pick_f rfl g8 rfl ?_)
         refine r_eq (s := 58) (y := pB (((((!decide (r.fn = 8)) && (!decide (r.fn = 17))) || (decide (r.at_ = 0))) && (((((decide (1 ≤ r.fn ∧ r.fn ≤ 4)) || (decide (r.fn = 15))) || (decide (r.fn = 16))) || (decide (r.fn = 23))) || (decide (r.count = 0)))) && ((decide (r.fn = 23)) || (decide (r.wAt = 0))))) rfl (mix_af _ g8) ?_
         exact r_mid ⟨⟨rfl, rfl, rfl, trivial⟩, rfl, rfl⟩
       ·
        refine qm hnt rfl rfl ?_
        refine r_cut0 9 [(1, PV.ptr 0 0), (5, pB (decide (r.fn = 22))), (68, pB ((((((!decide (r.fn = 8)) && (!decide (r.fn = 17))) || (decide (r.at_ = 0))) && (((((decide (1 ≤ r.fn ∧ r.fn ≤ 4)) || (decide (r.fn = 15))) || (decide (r.fn = 16))) || (decide (r.fn = 23))) || (decide (r.count = 0)))) && ((decide (r.fn = 23)) || (decide (r.wAt = 0)))) && ((decide (r.fn = 8)) || (decide (r.sub = 0)))))] ?_ ?_
        ·
         refine r_if tabOk hnt rfl rfl rfl (fun g10 => ?_) (fun g10 => ?_)
         ·
          have g10' := g10
          try simp only [sB] at g10'
          refine qo hnt rfl (s_fa_ptr tab_32 rfl rfl tab_3 (by decide) rfl ?_)
          refine ry hnt rfl rfl rfl g10 ?_
          refine qo hnt rfl (s_load_ptr1 tab_3 rfl rfl rfl rfl rfl ?_)
          refine ry hnt rfl rfl rfl g10 ?_
          refine qo hnt rfl (s_eql rfl rfl ?_)
          refine ry hnt rfl rfl rfl g10 ?_
          refine qm hnt rfl rfl ?_
          refine r_cut0 4 [(1, PV.ptr 0 0), (5, pB (decide (r.fn = 22))), (59, pB (((((!decide (r.fn = 8)) && (!decide (r.fn = 17))) || (decide (r.at_ = 0))) && (((((decide (1 ≤ r.fn ∧ r.fn ≤ 4)) || (decide (r.fn = 15))) || (decide (r.fn = 16))) || (decide (r.fn = 23))) || (decide (r.count = 0)))) && ((decide (r.fn = 23)) || (decide (r.wAt = 0))))), (67, pB ((decide (r.fn = 8)) || (decide (r.sub = 0))))] ?_ ?_
          ·
           refine r_if tabOk hnt rfl rfl rfl (fun g11 => ?_) (fun g11 => ?_)
           ·
            have g11' := g11
            try simp only [sB] at g11'
            refine qo hnt rfl (s_fa_ptr tab_32 rfl rfl tab_3 (by decide) rfl ?_)
            refine ry hnt rfl rfl rfl g11 ?_
            refine qo hnt rfl (s_load_ptr1 tab_3 rfl rfl rfl rfl rfl ?_)
            refine ry hnt rfl rfl rfl g11 ?_
            refine qo hnt rfl (s_eql rfl rfl ?_)
            refine ry hnt rfl rfl rfl g10 ?_
            refine qo hnt rfl (s_pick_f rfl g11 rfl ?_)
            refine r_eq (s := 67) (y := pB ((decide (r.fn = 8)) || (decide (r.sub = 0)))) rfl (mix_of g11) ?_
            exact r_mid ⟨⟨rfl, rfl, rfl, rfl, trivial⟩, rfl, rfl⟩
           ·
            have g11' := g11
            try simp only [sB] at g11'
            refine rn hnt rfl rfl rfl g11 ?_
            refine rn hnt rfl rfl rfl g11 ?_
            refine ry hnt rfl rfl rfl g10 ?_
            refine qo hnt rfl (s_pick_t rfl g11 rfl ?_)
            refine r_eq (s := 67) (y := pB ((decide (r.fn = 8)) || (decide (r.sub = 0)))) rfl (mix_ot _ g11) ?_
            exact r_mid ⟨⟨rfl, rfl, rfl, rfl, trivial⟩, rfl, rfl⟩
          ·
           refine qo hnt rfl (s_pick_t rfl g10 rfl ?_)
           refine r_eq (s := 68) (y := pB ((((((!decide (r.fn = 8)) && (!decide (r.fn = 17))) || (decide (r.at_ = 0))) && (((((decide (1 ≤ r.fn ∧ r.fn ≤ 4)) || (decide (r.fn = 15))) || (decide (r.fn = 16))) || (decide (r.fn = 23))) || (decide (r.count = 0)))) && ((decide (r.fn = 23)) || (decide (r.wAt = 0)))) && ((decide (r.fn = 8)) || (decide (r.sub = 0))))) rfl (mix_at g10) ?_
           exact r_mid ⟨⟨rfl, rfl, rfl, trivial⟩, rfl, rfl⟩
         ·
          have g10' := g10
          try simp only [sB] at g10'
          refine rn hnt rfl rfl rfl g10 ?_
          refine rn hnt rfl rfl rfl g10 ?_
          refine rn hnt rfl rfl rfl g10 ?_
          refine ru hnt rfl rfl rfl ?_
          refine ru hnt rfl rfl rfl ?_
          refine ru hnt rfl rfl rfl ?_
          refine rn hnt rfl rfl rfl g10 ?_
          refine qo hnt rfl (s_pick_f rfl g10 rfl ?_)
          refine r_eq (s := 68) (y := pB ((((((!decide (r.fn = 8)) && (!decide (r.fn = 17))) || (decide (r.at_ = 0))) && (((((decide (1 ≤ r.fn ∧ r.fn ≤ 4)) || (decide (r.fn = 15))) || (decide (r.fn = 16))) || (decide (r.fn = 23))) || (decide (r.count = 0)))) && ((decide (r.fn = 23)) || (decide (r.wAt = 0)))) && ((decide (r.fn = 8)) || (decide (r.sub = 0))))) rfl (mix_af _ g10) ?_
          exact r_mid ⟨⟨rfl, rfl, rfl, trivial⟩, rfl, rfl⟩
        ·
         refine qm hnt rfl rfl ?_
         refine r_cut0 12 [(81, pB (((((((!decide (r.fn = 8)) && (!decide (r.fn = 17))) || (decide (r.at_ = 0))) && (((((decide (1 ≤ r.fn ∧ r.fn ≤ 4)) || (decide (r.fn = 15))) || (decide (r.fn = 16))) || (decide (r.fn = 23))) || (decide (r.count = 0)))) && ((decide (r.fn = 23)) || (decide (r.wAt = 0)))) && ((decide (r.fn = 8)) || (decide (r.sub = 0)))) && ((decide (r.fn = 22)) || ((decide (r.and_ = 0)) && (decide (r.or_ = 0))))))] ?_ ?_
         ·
          refine r_if tabOk hnt rfl rfl rfl (fun g12 => ?_) (fun g12 => ?_)
          ·
           have g12' := g12
           try simp only [sB] at g12'
           refine qm hnt rfl rfl ?_
           refine ry hnt rfl rfl rfl g12 ?_
           refine qm hnt rfl rfl ?_
           refine r_cut0 9 [(69, pB ((((((!decide (r.fn = 8)) && (!decide (r.fn = 17))) || (decide (r.at_ = 0))) && (((((decide (1 ≤ r.fn ∧ r.fn ≤ 4)) || (decide (r.fn = 15))) || (decide (r.fn = 16))) || (decide (r.fn = 23))) || (decide (r.count = 0)))) && ((decide (r.fn = 23)) || (decide (r.wAt = 0)))) && ((decide (r.fn = 8)) || (decide (r.sub = 0))))), (80, pB ((decide (r.fn = 22)) || ((decide (r.and_ = 0)) && (decide (r.or_ = 0)))))] ?_ ?_
           ·
            refine r_if tabOk hnt rfl rfl rfl (fun g13 => ?_) (fun g13 => ?_)
            ·
             have g13' := g13
             try simp only [sB] at g13'
             refine qo hnt rfl (s_fa_ptr tab_32 rfl rfl tab_30 (by decide) rfl ?_)
             refine ry hnt rfl rfl rfl g13 ?_
             refine qo hnt rfl (s_load_ptr1 tab_30 rfl rfl rfl rfl rfl ?_)
             refine ry hnt rfl rfl rfl g13 ?_
             refine qo hnt rfl (s_eql16 (a := r.and_) (b := 0) rfl rfl ?_)
             refine ry hnt rfl rfl rfl g13 ?_
             refine qm hnt rfl rfl ?_
             refine r_cut0 4 [(69, pB ((((((!decide (r.fn = 8)) && (!decide (r.fn = 17))) || (decide (r.at_ = 0))) && (((((decide (1 ≤ r.fn ∧ r.fn ≤ 4)) || (decide (r.fn = 15))) || (decide (r.fn = 16))) || (decide (r.fn = 23))) || (decide (r.count = 0)))) && ((decide (r.fn = 23)) || (decide (r.wAt = 0)))) && ((decide (r.fn = 8)) || (decide (r.sub = 0))))), (71, pB (decide (r.fn = 22))), (79, pB ((decide (r.and_ = 0)) && (decide (r.or_ = 0))))] ?_ ?_
             ·
              refine r_if tabOk hnt rfl rfl rfl (fun g14 => ?_) (fun g14 => ?_)
              ·
               have g14' := g14
               try simp only [sB] at g14'
               refine qo hnt rfl (s_fa_ptr tab_32 rfl rfl tab_30 (by decide) rfl ?_)
               refine ry hnt rfl rfl rfl g14 ?_
               refine qo hnt rfl (s_load_ptr1 tab_30 rfl rfl rfl rfl rfl ?_)
               refine ry hnt rfl rfl rfl g14 ?_
               refine qo hnt rfl (s_eql16 (a := r.or_) (b := 0) rfl rfl ?_)
               refine ry hnt rfl rfl rfl g13 ?_
               refine qo hnt rfl (s_pick_t rfl g14 rfl ?_)
               refine r_eq (s := 79) (y := pB ((decide (r.and_ = 0)) && (decide (r.or_ = 0)))) rfl (mix_at g14) ?_
               exact r_mid ⟨⟨rfl, rfl, rfl, trivial⟩, rfl, rfl⟩
              ·
               have g14' := g14
               try simp only [sB] at g14'
               refine rn hnt rfl rfl rfl g14 ?_
               refine rn hnt rfl rfl rfl g14 ?_
               refine ry hnt rfl rfl rfl g13 ?_
               refine qo hnt rfl (s_pick_f rfl g14 rfl ?_)
               refine r_eq (s := 79) (y := pB ((decide (r.and_ = 0)) && (decide (r.or_ = 0)))) rfl (mix_af _ g14) ?_
               exact r_mid ⟨⟨rfl, rfl, rfl, trivial⟩, rfl, rfl⟩
             ·
              refine ry hnt rfl rfl rfl g12 ?_
              refine qo hnt rfl (s_pick_f rfl g13 rfl ?_)
              refine r_eq (s := 80) (y := pB ((decide (r.fn = 22)) || ((decide (r.and_ = 0)) && (decide (r.or_ = 0))))) rfl (mix_of g13) ?_
              exact r_mid ⟨⟨rfl, rfl, trivial⟩, rfl, rfl⟩
            ·
             have g13' := g13
             try simp only [sB] at g13'
             refine rn hnt rfl rfl rfl g13 ?_
             refine rn hnt rfl rfl rfl g13 ?_
             refine rn hnt rfl rfl rfl g13 ?_
             refine ru hnt rfl rfl rfl ?_
             refine ru hnt rfl rfl rfl ?_
             refine ru hnt rfl rfl rfl ?_
             refine rn hnt rfl rfl rfl g13 ?_
             refine ry hnt rfl rfl rfl g12 ?_
             refine qo hnt rfl (s_pick_t rfl g13 rfl ?_)
             refine r_eq (s := 80) (y := pB ((decide (r.fn = 22)) || ((decide (r.and_ = 0)) && (decide (r.or_ = 0))))) rfl (mix_ot _ g13) ?_
             exact r_mid ⟨⟨rfl, rfl, trivial⟩, rfl, rfl⟩
           ·
            refine qo hnt rfl (s_pick_t rfl g12 rfl ?_)
            refine r_eq (s := 81) (y := pB (((((((!decide (r.fn = 8)) && (!decide (r.fn = 17))) || (decide (r.at_ = 0))) && (((((decide (1 ≤ r.fn ∧ r.fn ≤ 4)) || (decide (r.fn = 15))) || (decide (r.fn = 16))) || (decide (r.fn = 23))) || (decide (r.count = 0)))) && ((decide (r.fn = 23)) || (decide (r.wAt = 0)))) && ((decide (r.fn = 8)) || (decide (r.sub = 0)))) && ((decide (r.fn = 22)) || ((decide (r.and_ = 0)) && (decide (r.or_ = 0)))))) rfl (mix_at g12) ?_
            exact r_mid ⟨⟨rfl, trivial⟩, rfl, rfl⟩
          ·
           have g12' := g12
           try simp only [sB] at g12'
           refine rn hnt rfl rfl rfl g12 ?_
           refine ru hnt rfl rfl rfl ?_
           refine ru hnt rfl rfl rfl ?_
           refine ru hnt rfl rfl rfl ?_
           refine ru hnt rfl rfl rfl ?_
           refine ru hnt rfl rfl rfl ?_
           refine ru hnt rfl rfl rfl ?_
           refine ru hnt rfl rfl rfl ?_
           refine ru hnt rfl rfl rfl ?_
           refine rn hnt rfl rfl rfl g12 ?_
           refine qo hnt rfl (s_pick_f rfl g12 rfl ?_)
           refine r_eq (s := 81) (y := pB (((((((!decide (r.fn = 8)) && (!decide (r.fn = 17))) || (decide (r.at_ = 0))) && (((((decide (1 ≤ r.fn ∧ r.fn ≤ 4)) || (decide (r.fn = 15))) || (decide (r.fn = 16))) || (decide (r.fn = 23))) || (decide (r.count = 0)))) && ((decide (r.fn = 23)) || (decide (r.wAt = 0)))) && ((decide (r.fn = 8)) || (decide (r.sub = 0)))) && ((decide (r.fn = 22)) || ((decide (r.and_ = 0)) && (decide (r.or_ = 0)))))) rfl (mix_af _ g12) ?_
           exact r_mid ⟨⟨rfl, trivial⟩, rfl, rfl⟩
         ·
          refine qa hnt rfl rfl ?_
          refine r_end ?_
          refine q_then ?_
          refine w_le (s := 2) (y := pB (fieldsP r)) rfl (le_of_eq (congrArg (fun z : Bool => pB z) (show (((((((!decide (r.fn = 8)) && (!decide (r.fn = 17))) || (decide (r.at_ = 0))) && (((((decide (1 ≤ r.fn ∧ r.fn ≤ 4)) || (decide (r.fn = 15))) || (decide (r.fn = 16))) || (decide (r.fn = 23))) || (decide (r.count = 0)))) && ((decide (r.fn = 23)) || (decide (r.wAt = 0)))) && ((decide (r.fn = 8)) || (decide (r.sub = 0)))) && ((decide (r.fn = 22)) || ((decide (r.and_ = 0)) && (decide (r.or_ = 0))))) = (fieldsP r) by unfold fieldsP; apply Bool.eq_iff_iff.2; simp only [Bool.and_eq_true, Bool.or_eq_true, Bool.not_eq_true', decide_eq_true_eq, decide_eq_false_iff_not, u16z]; try omega))) ?_
          refine w_ret ?_
          exact fin_plain (ret_tmp rfl ret_nil) rfl rfl ⟨rfl, rfl, rfl⟩

theorem w_pdu_Right (r : TRequest) (hb : r.bits.length ≤ 140737488351232) (hv : r.vals.length ≤ 140737488351232) :
    T Try.prog 41 [PV.f (eRequest r)] 0 [] (Ret (pI (rightR r)) 0 []) := by
 refine t_fun tabOk (n := 63) (rs := [.tmp 2]) Try.func41 rfl rfl rfl rfl (Nat.le_of_ble_eq_true rfl) ?_
 intro c hnt hk
 refine w_seq ?_
 refine w_R ?_
 refine qo hnt rfl (s_box rfl rfl ?_)
 refine qa hnt rfl rfl ?_
 refine r_set [(1, PV.ptr 0 0)] [(0, .obj [pI r.fn, pI r.at_, pI r.count, pI r.wAt, pI r.sub, pS 1 false encBo r.bits, pS 1 false enc16 r.vals, p16 r.and_, p16 r.or_])] 1 ⟨rfl, trivial⟩ rfl rfl ?_
 refine r_end ?_
 refine q_then ?_
 refine w_seq ?_
 refine w_block ?_
 refine w_seq ?_
 refine w_R ?_
 refine qo hnt rfl (s_fa_ptr tab_32 rfl rfl tab_3 (by decide) rfl ?_)
 refine qo hnt rfl (s_load_ptr1 tab_3 rfl rfl rfl rfl rfl ?_)
 refine qo hnt rfl (s_callF rfl rfl rfl (w_pdu_function r.fn) rfl ?_)
 refine qo hnt rfl (s_not rfl ?_)
 refine qa hnt rfl rfl ?_
 refine r_end ?_
 refine q_then ?_
 refine w_if rfl (fun c1 => ?_) (fun c1 => ?_)
 ·
  have c1_ := c1
  try simp only [sB] at c1
  refine w_seq ?_
  refine w_R ?_
  refine qa hnt rfl rfl ?_
  refine r_end ?_
  refine q_then ?_
  refine w_le (s := 2) (y := pI (rightR r)) rfl (le_of_eq (congrArg (fun z : Int => pI z) (show 15 = (rightR r) by first | exact (rightR_1 c1_).symm | exact (right_P c1 c2_ (by omega) (by omega) (by omega) (by omega)).symm | exact (wrong_P c1 (fun h => Bool.noConfusion (c2_.symm.trans h.1))).symm | exact (wrong_P c1 (fun h => by omega)).symm))) ?_
  refine w_ret ?_
  refine q_block_ret ?_
  refine q_then_ret ?_
  exact fin_plain (ret_tmp rfl ret_nil) rfl rfl ⟨rfl, rfl, rfl⟩
 ·
  have c1_ := c1
  try simp only [sB] at c1
  refine w_seq ?_
  refine w_R ?_
  refine qo hnt rfl (s_load_ptr tab_32 rfl rfl rfl (Nat.le_of_ble_eq_true rfl) ?_)
  refine qo hnt rfl (s_callF rfl rfl rfl (w_pdu_fields r (by first | omega | assumption | (simp; omega) | decide | (simp; done)) (by first | omega | assumption | (simp; omega) | decide | (simp; done))) rfl ?_)
  refine qo hnt rfl (s_not rfl ?_)
  refine qm hnt rfl rfl ?_
  refine r_cut0 5 [(1, PV.ptr 0 0), (17, pB ((!(fieldsP r)) || (!(wordOk r.at_))))] ?_ ?_
  ·
   refine r_if tabOk hnt rfl rfl rfl (fun g1 => ?_) (fun g1 => ?_)
   ·
    have g1' := g1
    try simp only [sB] at g1'
    refine qo hnt rfl (s_fa_ptr tab_32 rfl rfl tab_3 (by decide) rfl ?_)
    refine ry hnt rfl rfl rfl g1 ?_
    refine qo hnt rfl (s_load_ptr1 tab_3 rfl rfl rfl rfl rfl ?_)
    refine ry hnt rfl rfl rfl g1 ?_
    refine qo hnt rfl (s_callF rfl rfl rfl (w_pdu_within r.at_) rfl ?_)
    refine ry hnt rfl rfl rfl g1 ?_
    refine qo hnt rfl (s_not rfl ?_)
    refine qo hnt rfl (s_pick_f rfl g1 rfl ?_)
    refine r_eq (s := 17) (y := pB ((!(fieldsP r)) || (!(wordOk r.at_)))) rfl (mix_of g1) ?_
    exact r_mid ⟨⟨rfl, rfl, trivial⟩, rfl, rfl⟩
   ·
    have g1' := g1
    try simp only [sB] at g1'
    refine rn hnt rfl rfl rfl g1 ?_
    refine rn hnt rfl rfl rfl g1 ?_
    refine rn hnt rfl rfl rfl g1 ?_
    refine qo hnt rfl (s_pick_t rfl g1 rfl ?_)
    refine r_eq (s := 17) (y := pB ((!(fieldsP r)) || (!(wordOk r.at_)))) rfl (mix_ot _ g1) ?_
    exact r_mid ⟨⟨rfl, rfl, trivial⟩, rfl, rfl⟩
  ·
   refine qm hnt rfl rfl ?_
   refine r_cut0 5 [(1, PV.ptr 0 0), (23, pB (((!(fieldsP r)) || (!(wordOk r.at_))) || (!(wordOk r.wAt))))] ?_ ?_
   ·
    refine r_if tabOk hnt rfl rfl rfl (fun g2 => ?_) (fun g2 => ?_)
    ·
     have g2' := g2
     try simp only [sB] at g2'
     refine qo hnt rfl (s_fa_ptr tab_32 rfl rfl tab_3 (by decide) rfl ?_)
     refine ry hnt rfl rfl rfl g2 ?_
     refine qo hnt rfl (s_load_ptr1 tab_3 rfl rfl rfl rfl rfl ?_)
     refine ry hnt rfl rfl rfl g2 ?_
     refine qo hnt rfl (s_callF rfl rfl rfl (w_pdu_within r.wAt) rfl ?_)
     refine ry hnt rfl rfl rfl g2 ?_
     refine qo hnt rfl (s_not rfl ?_)
     refine qo hnt rfl (s_pick_f rfl g2 rfl ?_)
     refine r_eq (s := 23) (y := pB (((!(fieldsP r)) || (!(wordOk r.at_))) || (!(wordOk r.wAt)))) rfl (mix_of g2) ?_
     exact r_mid ⟨⟨rfl, rfl, trivial⟩, rfl, rfl⟩
    ·
     have g2' := g2
     try simp only [sB] at g2'
     refine rn hnt rfl rfl rfl g2 ?_
     refine rn hnt rfl rfl rfl g2 ?_
     refine rn hnt rfl rfl rfl g2 ?_
     refine qo hnt rfl (s_pick_t rfl g2 rfl ?_)
     refine r_eq (s := 23) (y := pB (((!(fieldsP r)) || (!(wordOk r.at_))) || (!(wordOk r.wAt)))) rfl (mix_ot _ g2) ?_
     exact r_mid ⟨⟨rfl, rfl, trivial⟩, rfl, rfl⟩
   ·
    refine qm hnt rfl rfl ?_
    refine r_cut0 5 [(1, PV.ptr 0 0), (29, pB ((((!(fieldsP r)) || (!(wordOk r.at_))) || (!(wordOk r.wAt))) || (!(wordOk r.sub))))] ?_ ?_
    ·
     refine r_if tabOk hnt rfl rfl rfl (fun g3 => ?_) (fun g3 => ?_)
     ·
      have g3' := g3
      try simp only [sB] at g3'
      refine qo hnt rfl (s_fa_ptr tab_32 rfl rfl tab_3 (by decide) rfl ?_)
      refine ry hnt rfl rfl rfl g3 ?_
      refine qo hnt rfl (s_load_ptr1 tab_3 rfl rfl rfl rfl rfl ?_)
      refine ry hnt rfl rfl rfl g3 ?_
      refine qo hnt rfl (s_callF rfl rfl rfl (w_pdu_within r.sub) rfl ?_)
      refine ry hnt rfl rfl rfl g3 ?_
      refine qo hnt rfl (s_not rfl ?_)
      refine qo hnt rfl (s_pick_f rfl g3 rfl ?_)
      refine r_eq (s := 29) (y := pB ((((!(fieldsP r)) || (!(wordOk r.at_))) || (!(wordOk r.wAt))) || (!(wordOk r.sub)))) rfl (mix_of g3) ?_
      exact r_mid ⟨⟨rfl, rfl, trivial⟩, rfl, rfl⟩
     ·
      have g3' := g3
      try simp only [sB] at g3'
      refine rn hnt rfl rfl rfl g3 ?_
      refine rn hnt rfl rfl rfl g3 ?_
      refine rn hnt rfl rfl rfl g3 ?_
      refine qo hnt rfl (s_pick_t rfl g3 rfl ?_)
      refine r_eq (s := 29) (y := pB ((((!(fieldsP r)) || (!(wordOk r.at_))) || (!(wordOk r.wAt))) || (!(wordOk r.sub)))) rfl (mix_ot _ g3) ?_
      exact r_mid ⟨⟨rfl, rfl, trivial⟩, rfl, rfl⟩
    ·
     refine qm hnt rfl rfl ?_
     refine r_cut0 5 [(1, PV.ptr 0 0), (35, pB (((((!(fieldsP r)) || (!(wordOk r.at_))) || (!(wordOk r.wAt))) || (!(wordOk r.sub))) || (!(wordOk r.count))))] ?_ ?_
     ·
      refine r_if tabOk hnt rfl rfl rfl (fun g4 => ?_) (fun g4 => ?_)
      ·
       have g4' := g4
       try simp only [sB] at g4'
       refine qo hnt rfl (s_fa_ptr tab_32 rfl rfl tab_3 (by decide) rfl ?_)
       refine ry hnt rfl rfl rfl g4 ?_
       refine qo hnt rfl (s_load_ptr1 tab_3 rfl rfl rfl rfl rfl ?_)
       refine ry hnt rfl rfl rfl g4 ?_
       refine qo hnt rfl (s_callF rfl rfl rfl (w_pdu_within r.count) rfl ?_)
       refine ry hnt rfl rfl rfl g4 ?_
       refine qo hnt rfl (s_not rfl ?_)
       refine qo hnt rfl (s_pick_f rfl g4 rfl ?_)
       refine r_eq (s := 35) (y := pB (((((!(fieldsP r)) || (!(wordOk r.at_))) || (!(wordOk r.wAt))) || (!(wordOk r.sub))) || (!(wordOk r.count)))) rfl (mix_of g4) ?_
       exact r_mid ⟨⟨rfl, rfl, trivial⟩, rfl, rfl⟩
      ·
       have g4' := g4
       try simp only [sB] at g4'
       refine rn hnt rfl rfl rfl g4 ?_
       refine rn hnt rfl rfl rfl g4 ?_
       refine rn hnt rfl rfl rfl g4 ?_
       refine qo hnt rfl (s_pick_t rfl g4 rfl ?_)
       refine r_eq (s := 35) (y := pB (((((!(fieldsP r)) || (!(wordOk r.at_))) || (!(wordOk r.wAt))) || (!(wordOk r.sub))) || (!(wordOk r.count)))) rfl (mix_ot _ g4) ?_
       exact r_mid ⟨⟨rfl, rfl, trivial⟩, rfl, rfl⟩
     ·
      refine qa hnt rfl rfl ?_
      refine r_end ?_
      refine q_then ?_
      refine w_if rfl (fun c2 => ?_) (fun c2 => ?_)
      ·
       have c2_ := c2
       try simp only [sB] at c2
       refine w_seq ?_
       refine w_R ?_
       refine qa hnt rfl rfl ?_
       refine r_end ?_
       refine q_then ?_
       refine w_le (s := 2) (y := pI (rightR r)) rfl (le_of_eq (congrArg (fun z : Int => pI z) (show 12 = (rightR r) by first | exact (rightR_1 c1_).symm | exact (right_P c1 c2_ (by omega) (by omega) (by omega) (by omega)).symm | exact (wrong_P c1 (fun h => Bool.noConfusion (c2_.symm.trans h.1))).symm | exact (wrong_P c1 (fun h => by omega)).symm))) ?_
       refine w_ret ?_
       refine q_block_ret ?_
       refine q_then_ret ?_
       exact fin_plain (ret_tmp rfl ret_nil) rfl rfl ⟨rfl, rfl, rfl⟩
      ·
       have c2_ := c2
       try simp only [sB] at c2
       refine w_seq ?_
       refine W_drawn tabOk mixed hnt [[], [0], [0, 1], [], [3], [0, 1, 2, 3, 4], [0, 1, 2, 3, 4, 5], [0, 1, 2, 3, 4, 5, 6], [0, 1, 2, 3, 4, 5, 6, 7], [0, 1, 2, 3, 4, 5, 6, 7, 8], [0, 1, 2, 3, 4, 5, 6], [0, 1, 2, 3, 4, 5, 6, 10], [0, 1, 2, 3, 4, 5, 6, 7, 8, 9, 10, 11], [0, 1, 2, 3, 4, 5, 6, 7, 8, 9, 10, 11, 12], [0, 1, 2, 3, 4, 5, 6, 7, 8, 9, 10, 11, 12, 13], [0, 1, 2, 3, 4, 5, 6, 7, 8, 9, 10, 11, 12, 13, 14], [0, 1, 2, 3, 4, 5, 6, 7, 8, 9, 10, 11, 12, 13, 14, 15], [0, 1, 2, 3, 4, 5, 6, 7, 8, 9, 10, 11, 12, 13, 14, 15, 16], [0, 1, 2, 3, 4, 5, 6, 7, 8, 9, 10, 11, 12, 13, 14, 15, 16, 17], [0, 1, 2, 3, 4, 5, 6, 7, 8, 9, 10, 11, 12, 13, 14, 15, 16, 17, 18], [0, 1, 2, 3, 4, 5, 6, 7, 8, 9, 10, 11, 12, 13, 14, 15, 16, 17, 18, 19], [0, 1, 2, 3, 4, 5, 6, 7, 8, 9, 10, 11, 12, 13, 14, 15, 16, 17, 18, 19, 20], [0, 1, 2, 3, 4, 5, 6, 7, 8, 9, 10, 11, 12, 13, 14, 15, 16, 17, 18, 19, 20, 21], [0, 1, 2, 3, 4, 5, 6, 7, 8, 9, 10, 11, 12, 13, 14, 15, 16, 17, 18, 19, 20, 21, 22], [0, 1, 2, 3, 4, 5, 6, 7, 8, 9, 10, 11, 12, 13, 14, 15, 16, 17, 18, 19, 20, 21, 22, 23], [0, 1, 2, 3, 4, 5, 6, 7, 8, 9, 10, 11, 12, 13, 14, 15, 16, 17, 18, 19, 20, 21, 22, 23, 24], [0, 1, 2, 3, 4, 5, 6, 7, 8, 9, 10, 11, 12, 13, 14, 15, 16, 17, 18, 19, 20, 21, 22, 23, 24, 25]] (by kernel_rfl) ?_
       refine d_op ?_
       refine x_run0 [(1, PV.ptr 0 0)] [] rfl rfl rfl rfl (s_fa_ptr tab_32 rfl rfl tab_28 (by decide) rfl ⟨rfl, rfl, rfl⟩) ?_
       refine d_op ?_
       refine x_run [(37, PV.ptr 0 5)] [0] [(0, .obj [pI r.fn, pI r.at_, pI r.count, pI r.wAt, pI r.sub, pS 1 false encBo r.bits, pS 1 false enc16 r.vals, p16 r.and_, p16 r.or_])] [] [(0, .obj [pI r.fn, pI r.at_, pI r.count, pI r.wAt, pI r.sub, pS 1 false encBo r.bits, pS 1 false enc16 r.vals, p16 r.and_, p16 r.or_])] [] [(0, .obj [pI r.fn, pI r.at_, pI r.count, pI r.wAt, pI r.sub, pS 1 false encBo r.bits, pS 1 false enc16 r.vals, p16 r.and_, p16 r.or_])] rfl rfl rfl rfl rfl rfl (s_load_ptr1 tab_28 rfl rfl rfl rfl rfl ⟨rfl, rfl, rfl⟩) rfl ⟨rfl, trivial⟩ rfl rfl ?_
       refine d_op ?_
       refine x_run0 [(38, pS 1 false encBo r.bits)] [0, 1] rfl rfl rfl rfl (s_lenM (l := r.bits) tab_28 rfl (hM_sl (f := encBo) rfl) ⟨rfl, rfl, rfl⟩) ?_
       refine d_op ?_
       refine x_run [(1, PV.ptr 0 0)] [] [(0, .obj [pI r.fn, pI r.at_, pI r.count, pI r.wAt, pI r.sub, pS 1 false encBo r.bits, pS 1 false enc16 r.vals, p16 r.and_, p16 r.or_])] [] [(0, .obj [pI r.fn, pI r.at_, pI r.count, pI r.wAt, pI r.sub, pS 1 false encBo r.bits, pS 1 false enc16 r.vals, p16 r.and_, p16 r.or_])] [] [(0, .obj [pI r.fn, pI r.at_, pI r.count, pI r.wAt, pI r.sub, pS 1 false encBo r.bits, pS 1 false enc16 r.vals, p16 r.and_, p16 r.or_])] rfl rfl rfl rfl rfl rfl (s_load_ptr tab_32 rfl rfl rfl (Nat.le_of_ble_eq_true rfl) ⟨rfl, rfl, rfl⟩) rfl ⟨rfl, trivial⟩ rfl rfl ?_
       refine d_op ?_
       refine x_run0 [(40, PV.f (.agg [encI r.fn, encI r.at_, encI r.count, encI r.wAt, encI r.sub, FV.sl 1 false (List.map encBo r.bits), FV.sl 1 false (List.map enc16 r.vals), enc16 r.and_, enc16 r.or_]))] [3] rfl rfl rfl rfl (s_callF rfl rfl rfl (w_pdu_bits r (by first | omega | assumption | (simp; omega) | decide | (simp; done)) (by first | omega | assumption | (simp; omega) | decide | (simp; done))) rfl ⟨rfl, rfl, rfl⟩) ?_
       refine d_op ?_
       refine x_run0 [(39, pN r.bits.length), (41, pI (bitsN r))] [0, 1, 2, 3, 4] rfl rfl rfl rfl (s_neq rfl rfl ⟨rfl, rfl, rfl⟩) ?_
       refine d_op ?_
       refine x_run0 [(42, pB (!decide (((r.bits.length : Nat) : Int) = bitsN r)))] [0, 1, 2, 3, 4, 5] rfl rfl rfl rfl (s_move rfl ⟨rfl, rfl, rfl⟩) ?_
       refine x_if [(43, pB (!decide (((r.bits.length : Nat) : Int) = bitsN r))), (1, PV.ptr 0 0)] [0, 1, 2, 3, 4, 5, 6] rfl rfl rfl rfl (fun g5 => ?_) (fun g5 => ?_)
       ·
        have g5' := g5
        try simp only [sB] at g5'
        refine x_run0 [(43, pB (!decide (((r.bits.length : Nat) : Int) = bitsN r))), (1, PV.ptr 0 0)] [0, 1, 2, 3, 4, 5, 6] rfl rfl rfl rfl (s_fa_ptr tab_32 rfl rfl tab_29 (by decide) rfl ⟨rfl, rfl, rfl⟩) ?_
        refine xy [(43, pB (!decide (((r.bits.length : Nat) : Int) = bitsN r))), (44, PV.ptr 0 6)] [0, 1, 2, 3, 4, 5, 6, 7] rfl rfl rfl rfl g5 ?_
        refine x_run [(43, pB (!decide (((r.bits.length : Nat) : Int) = bitsN r))), (44, PV.ptr 0 6)] [0, 1, 2, 3, 4, 5, 6, 7] [(0, .obj [pI r.fn, pI r.at_, pI r.count, pI r.wAt, pI r.sub, pS 1 false encBo r.bits, pS 1 false enc16 r.vals, p16 r.and_, p16 r.or_])] [] [(0, .obj [pI r.fn, pI r.at_, pI r.count, pI r.wAt, pI r.sub, pS 1 false encBo r.bits, pS 1 false enc16 r.vals, p16 r.and_, p16 r.or_])] [] [(0, .obj [pI r.fn, pI r.at_, pI r.count, pI r.wAt, pI r.sub, pS 1 false encBo r.bits, pS 1 false enc16 r.vals, p16 r.and_, p16 r.or_])] rfl rfl rfl rfl rfl rfl (s_load_ptr1 tab_29 rfl rfl rfl rfl rfl ⟨rfl, rfl, rfl⟩) rfl ⟨rfl, trivial⟩ rfl rfl ?_
        refine xy [(43, pB (!decide (((r.bits.length : Nat) : Int) = bitsN r))), (45, pS 1 false enc16 r.vals)] [0, 1, 2, 3, 4, 5, 6, 7, 8] rfl rfl rfl rfl g5 ?_
        refine x_run0 [(43, pB (!decide (((r.bits.length : Nat) : Int) = bitsN r))), (45, pS 1 false enc16 r.vals)] [0, 1, 2, 3, 4, 5, 6, 7, 8] rfl rfl rfl rfl (s_lenM (l := r.vals) tab_29 rfl (hM_sl (f := enc16) rfl) ⟨rfl, rfl, rfl⟩) ?_
        refine xy [(43, pB (!decide (((r.bits.length : Nat) : Int) = bitsN r))), (1, PV.ptr 0 0)] [0, 1, 2, 3, 4, 5, 6] rfl rfl rfl rfl g5 ?_
        refine x_run [(43, pB (!decide (((r.bits.length : Nat) : Int) = bitsN r))), (1, PV.ptr 0 0)] [0, 1, 2, 3, 4, 5, 6] [(0, .obj [pI r.fn, pI r.at_, pI r.count, pI r.wAt, pI r.sub, pS 1 false encBo r.bits, pS 1 false enc16 r.vals, p16 r.and_, p16 r.or_])] [] [(0, .obj [pI r.fn, pI r.at_, pI r.count, pI r.wAt, pI r.sub, pS 1 false encBo r.bits, pS 1 false enc16 r.vals, p16 r.and_, p16 r.or_])] [] [(0, .obj [pI r.fn, pI r.at_, pI r.count, pI r.wAt, pI r.sub, pS 1 false encBo r.bits, pS 1 false enc16 r.vals, p16 r.and_, p16 r.or_])] rfl rfl rfl rfl rfl rfl (s_load_ptr tab_32 rfl rfl rfl (Nat.le_of_ble_eq_true rfl) ⟨rfl, rfl, rfl⟩) rfl ⟨rfl, trivial⟩ rfl rfl ?_
        refine xy [(43, pB (!decide (((r.bits.length : Nat) : Int) = bitsN r))), (47, PV.f (.agg [encI r.fn, encI r.at_, encI r.count, encI r.wAt, encI r.sub, FV.sl 1 false (List.map encBo r.bits), FV.sl 1 false (List.map enc16 r.vals), enc16 r.and_, enc16 r.or_]))] [0, 1, 2, 3, 4, 5, 6, 10] rfl rfl rfl rfl g5 ?_
        refine x_run0 [(43, pB (!decide (((r.bits.length : Nat) : Int) = bitsN r))), (47, PV.f (.agg [encI r.fn, encI r.at_, encI r.count, encI r.wAt, encI r.sub, FV.sl 1 false (List.map encBo r.bits), FV.sl 1 false (List.map enc16 r.vals), enc16 r.and_, enc16 r.or_]))] [0, 1, 2, 3, 4, 5, 6, 10] rfl rfl rfl rfl (s_callF rfl rfl rfl (w_pdu_vals r (by first | omega | assumption | (simp; omega) | decide | (simp; done)) (by first | omega | assumption | (simp; omega) | decide | (simp; done))) rfl ⟨rfl, rfl, rfl⟩) ?_
        refine xy [(43, pB (!decide (((r.bits.length : Nat) : Int) = bitsN r))), (46, pN r.vals.length), (48, pI (valsN r))] [0, 1, 2, 3, 4, 5, 6, 7, 8, 9, 10, 11] rfl rfl rfl rfl g5 ?_
        refine x_run0 [(43, pB (!decide (((r.bits.length : Nat) : Int) = bitsN r))), (46, pN r.vals.length), (48, pI (valsN r))] [0, 1, 2, 3, 4, 5, 6, 7, 8, 9, 10, 11] rfl rfl rfl rfl (s_neq rfl rfl ⟨rfl, rfl, rfl⟩) ?_
        refine d_op ?_
        refine x_run0 [(43, pB (!decide (((r.bits.length : Nat) : Int) = bitsN r))), (49, pB (!decide (((r.vals.length : Nat) : Int) = valsN r)))] [0, 1, 2, 3, 4, 5, 6, 7, 8, 9, 10, 11, 12] rfl rfl rfl rfl (s_pick_f rfl g5 rfl ⟨rfl, rfl, rfl⟩) ?_
        refine d_op ?_
        refine x_run0 [(50, pB (!decide (((r.vals.length : Nat) : Int) = valsN r)))] [0, 1, 2, 3, 4, 5, 6, 7, 8, 9, 10, 11, 12, 13] rfl rfl rfl rfl (s_move rfl ⟨rfl, rfl, rfl⟩) ?_
        refine x_if [(51, pB (!decide (((r.vals.length : Nat) : Int) = valsN r))), (1, PV.ptr 0 0)] [0, 1, 2, 3, 4, 5, 6, 7, 8, 9, 10, 11, 12, 13, 14] rfl rfl rfl rfl (fun g6 => ?_) (fun g6 => ?_)
        ·
         have g6' := g6
         try simp only [sB] at g6'
         refine x_run0 [(51, pB (!decide (((r.vals.length : Nat) : Int) = valsN r))), (1, PV.ptr 0 0)] [0, 1, 2, 3, 4, 5, 6, 7, 8, 9, 10, 11, 12, 13, 14] rfl rfl rfl rfl (s_fa_ptr tab_32 rfl rfl tab_28 (by decide) rfl ⟨rfl, rfl, rfl⟩) ?_
         refine xy [(51, pB (!decide (((r.vals.length : Nat) : Int) = valsN r))), (52, PV.ptr 0 5)] [0, 1, 2, 3, 4, 5, 6, 7, 8, 9, 10, 11, 12, 13, 14, 15] rfl rfl rfl rfl g6 ?_
         refine x_run [(51, pB (!decide (((r.vals.length : Nat) : Int) = valsN r))), (52, PV.ptr 0 5)] [0, 1, 2, 3, 4, 5, 6, 7, 8, 9, 10, 11, 12, 13, 14, 15] [(0, .obj [pI r.fn, pI r.at_, pI r.count, pI r.wAt, pI r.sub, pS 1 false encBo r.bits, pS 1 false enc16 r.vals, p16 r.and_, p16 r.or_])] [] [(0, .obj [pI r.fn, pI r.at_, pI r.count, pI r.wAt, pI r.sub, pS 1 false encBo r.bits, pS 1 false enc16 r.vals, p16 r.and_, p16 r.or_])] [] [(0, .obj [pI r.fn, pI r.at_, pI r.count, pI r.wAt, pI r.sub, pS 1 false encBo r.bits, pS 1 false enc16 r.vals, p16 r.and_, p16 r.or_])] rfl rfl rfl rfl rfl rfl (s_load_ptr1 tab_28 rfl rfl rfl rfl rfl ⟨rfl, rfl, rfl⟩) rfl ⟨rfl, trivial⟩ rfl rfl ?_
         refine xy [(51, pB (!decide (((r.vals.length : Nat) : Int) = valsN r))), (53, pS 1 false encBo r.bits)] [0, 1, 2, 3, 4, 5, 6, 7, 8, 9, 10, 11, 12, 13, 14, 15, 16] rfl rfl rfl rfl g6 ?_
         refine x_run0 [(51, pB (!decide (((r.vals.length : Nat) : Int) = valsN r))), (53, pS 1 false encBo r.bits)] [0, 1, 2, 3, 4, 5, 6, 7, 8, 9, 10, 11, 12, 13, 14, 15, 16] rfl rfl rfl rfl (s_lenM (l := r.bits) tab_28 rfl (hM_sl (f := encBo) rfl) ⟨rfl, rfl, rfl⟩) ?_
         refine xy [(51, pB (!decide (((r.vals.length : Nat) : Int) = valsN r))), (54, pN r.bits.length)] [0, 1, 2, 3, 4, 5, 6, 7, 8, 9, 10, 11, 12, 13, 14, 15, 16, 17] rfl rfl rfl rfl g6 ?_
         refine x_run0 [(51, pB (!decide (((r.vals.length : Nat) : Int) = valsN r))), (54, pN r.bits.length)] [0, 1, 2, 3, 4, 5, 6, 7, 8, 9, 10, 11, 12, 13, 14, 15, 16, 17] rfl rfl rfl rfl (s_gtr rfl rfl ⟨rfl, rfl, rfl⟩) ?_
         refine d_op ?_
         refine x_run0 [(51, pB (!decide (((r.vals.length : Nat) : Int) = valsN r))), (55, pB (decide (2040 < ((r.bits.length : Nat) : Int))))] [0, 1, 2, 3, 4, 5, 6, 7, 8, 9, 10, 11, 12, 13, 14, 15, 16, 17, 18] rfl rfl rfl rfl (s_pick_f rfl g6 rfl ⟨rfl, rfl, rfl⟩) ?_
         refine d_op ?_
         refine x_run0 [(56, pB (decide (2040 < ((r.bits.length : Nat) : Int))))] [0, 1, 2, 3, 4, 5, 6, 7, 8, 9, 10, 11, 12, 13, 14, 15, 16, 17, 18, 19] rfl rfl rfl rfl (s_move rfl ⟨rfl, rfl, rfl⟩) ?_
         refine x_if [(57, pB (decide (2040 < ((r.bits.length : Nat) : Int)))), (1, PV.ptr 0 0)] [0, 1, 2, 3, 4, 5, 6, 7, 8, 9, 10, 11, 12, 13, 14, 15, 16, 17, 18, 19, 20] rfl rfl rfl rfl (fun g7 => ?_) (fun g7 => ?_)
         ·
          have g7' := g7
          try simp only [sB] at g7'
          refine x_run0 [(57, pB (decide (2040 < ((r.bits.length : Nat) : Int)))), (1, PV.ptr 0 0)] [0, 1, 2, 3, 4, 5, 6, 7, 8, 9, 10, 11, 12, 13, 14, 15, 16, 17, 18, 19, 20] rfl rfl rfl rfl (s_fa_ptr tab_32 rfl rfl tab_29 (by decide) rfl ⟨rfl, rfl, rfl⟩) ?_
          refine xy [(57, pB (decide (2040 < ((r.bits.length : Nat) : Int)))), (58, PV.ptr 0 6)] [0, 1, 2, 3, 4, 5, 6, 7, 8, 9, 10, 11, 12, 13, 14, 15, 16, 17, 18, 19, 20, 21] rfl rfl rfl rfl g7 ?_
          refine x_run [(57, pB (decide (2040 < ((r.bits.length : Nat) : Int)))), (58, PV.ptr 0 6)] [0, 1, 2, 3, 4, 5, 6, 7, 8, 9, 10, 11, 12, 13, 14, 15, 16, 17, 18, 19, 20, 21] [(0, .obj [pI r.fn, pI r.at_, pI r.count, pI r.wAt, pI r.sub, pS 1 false encBo r.bits, pS 1 false enc16 r.vals, p16 r.and_, p16 r.or_])] [] [(0, .obj [pI r.fn, pI r.at_, pI r.count, pI r.wAt, pI r.sub, pS 1 false encBo r.bits, pS 1 false enc16 r.vals, p16 r.and_, p16 r.or_])] [] [(0, .obj [pI r.fn, pI r.at_, pI r.count, pI r.wAt, pI r.sub, pS 1 false encBo r.bits, pS 1 false enc16 r.vals, p16 r.and_, p16 r.or_])] rfl rfl rfl rfl rfl rfl (s_load_ptr1 tab_29 rfl rfl rfl rfl rfl ⟨rfl, rfl, rfl⟩) rfl ⟨rfl, trivial⟩ rfl rfl ?_
          refine xy [(57, pB (decide (2040 < ((r.bits.length : Nat) : Int)))), (59, pS 1 false enc16 r.vals)] [0, 1, 2, 3, 4, 5, 6, 7, 8, 9, 10, 11, 12, 13, 14, 15, 16, 17, 18, 19, 20, 21, 22] rfl rfl rfl rfl g7 ?_
          refine x_run0 [(57, pB (decide (2040 < ((r.bits.length : Nat) : Int)))), (59, pS 1 false enc16 r.vals)] [0, 1, 2, 3, 4, 5, 6, 7, 8, 9, 10, 11, 12, 13, 14, 15, 16, 17, 18, 19, 20, 21, 22] rfl rfl rfl rfl (s_lenM (l := r.vals) tab_29 rfl (hM_sl (f := enc16) rfl) ⟨rfl, rfl, rfl⟩) ?_
          refine xy [(57, pB (decide (2040 < ((r.bits.length : Nat) : Int)))), (60, pN r.vals.length)] [0, 1, 2, 3, 4, 5, 6, 7, 8, 9, 10, 11, 12, 13, 14, 15, 16, 17, 18, 19, 20, 21, 22, 23] rfl rfl rfl rfl g7 ?_
          refine x_run0 [(57, pB (decide (2040 < ((r.bits.length : Nat) : Int)))), (60, pN r.vals.length)] [0, 1, 2, 3, 4, 5, 6, 7, 8, 9, 10, 11, 12, 13, 14, 15, 16, 17, 18, 19, 20, 21, 22, 23] rfl rfl rfl rfl (s_gtr rfl rfl ⟨rfl, rfl, rfl⟩) ?_
          refine d_op ?_
          refine x_run0 [(57, pB (decide (2040 < ((r.bits.length : Nat) : Int)))), (61, pB (decide (127 < ((r.vals.length : Nat) : Int))))] [0, 1, 2, 3, 4, 5, 6, 7, 8, 9, 10, 11, 12, 13, 14, 15, 16, 17, 18, 19, 20, 21, 22, 23, 24] rfl rfl rfl rfl (s_pick_f rfl g7 rfl ⟨rfl, rfl, rfl⟩) ?_
          refine d_op ?_
          refine x_run0 [(62, pB (decide (127 < ((r.vals.length : Nat) : Int))))] [0, 1, 2, 3, 4, 5, 6, 7, 8, 9, 10, 11, 12, 13, 14, 15, 16, 17, 18, 19, 20, 21, 22, 23, 24, 25] rfl rfl rfl rfl (s_assign rfl ⟨rfl, rfl, rfl⟩) ?_
          refine d_end ⟨by kernel_rfl, ?_⟩
          refine q_then ?_
          refine w_if rfl (fun c3 => ?_) (fun c3 => ?_)
          ·
           have c3_ := c3
           try simp only [sB] at c3
           refine w_seq ?_
           refine w_R ?_
           refine qa hnt rfl rfl ?_
           refine r_set [(2, pI 12)] [(0, .obj [pI r.fn, pI r.at_, pI r.count, pI r.wAt, pI r.sub, pS 1 false encBo r.bits, pS 1 false enc16 r.vals, p16 r.and_, p16 r.or_])] 1 ⟨rfl, trivial⟩ rfl rfl ?_
           refine r_end ?_
           refine q_then ?_
           refine w_le (s := 2) (y := pI (rightR r)) rfl (le_of_eq (congrArg (fun z : Int => pI z) (show 12 = (rightR r) by first | exact (rightR_1 c1_).symm | exact (right_P c1 c2_ (by omega) (by omega) (by omega) (by omega)).symm | exact (wrong_P c1 (fun h => Bool.noConfusion (c2_.symm.trans h.1))).symm | exact (wrong_P c1 (fun h => by omega)).symm))) ?_
           refine w_ret ?_
           refine q_block_ret ?_
           refine q_then_ret ?_
           exact fin_plain (ret_tmp rfl ret_nil) rfl rfl ⟨rfl, rfl, rfl⟩
          ·
           have c3_ := c3
           try simp only [sB] at c3
           refine w_skip ?_
           refine q_block ?_
           refine q_then ?_
           refine w_seq ?_
           refine w_R ?_
           refine qa hnt rfl rfl ?_
           refine r_set [(2, pI 0)] [(0, .obj [pI r.fn, pI r.at_, pI r.count, pI r.wAt, pI r.sub, pS 1 false encBo r.bits, pS 1 false enc16 r.vals, p16 r.and_, p16 r.or_])] 1 ⟨rfl, trivial⟩ rfl rfl ?_
           refine r_end ?_
           refine q_then ?_
           refine w_le (s := 2) (y := pI (rightR r)) rfl (le_of_eq (congrArg (fun z : Int => pI z) (show 0 = (rightR r) by first | exact (rightR_1 c1_).symm | exact (right_P c1 c2_ (by omega) (by omega) (by omega) (by omega)).symm | exact (wrong_P c1 (fun h => Bool.noConfusion (c2_.symm.trans h.1))).symm | exact (wrong_P c1 (fun h => by omega)).symm))) ?_
           refine w_ret ?_
           exact fin_plain (ret_tmp rfl ret_nil) rfl rfl ⟨rfl, rfl, rfl⟩
         ·
          have g7' := g7
          try simp only [sB] at g7'
          refine xn [(57, pB (decide (2040 < ((r.bits.length : Nat) : Int)))), (58, undefP)] [0, 1, 2, 3, 4, 5, 6, 7, 8, 9, 10, 11, 12, 13, 14, 15, 16, 17, 18, 19, 20, 21] rfl rfl rfl rfl g7 ?_
          refine xn [(57, pB (decide (2040 < ((r.bits.length : Nat) : Int)))), (59, undefP)] [0, 1, 2, 3, 4, 5, 6, 7, 8, 9, 10, 11, 12, 13, 14, 15, 16, 17, 18, 19, 20, 21, 22] rfl rfl rfl rfl g7 ?_
          refine xn [(57, pB (decide (2040 < ((r.bits.length : Nat) : Int)))), (60, undefP)] [0, 1, 2, 3, 4, 5, 6, 7, 8, 9, 10, 11, 12, 13, 14, 15, 16, 17, 18, 19, 20, 21, 22, 23] rfl rfl rfl rfl g7 ?_
          refine d_op ?_
          refine x_run0 [(57, pB (decide (2040 < ((r.bits.length : Nat) : Int)))), (61, undefP)] [0, 1, 2, 3, 4, 5, 6, 7, 8, 9, 10, 11, 12, 13, 14, 15, 16, 17, 18, 19, 20, 21, 22, 23, 24] rfl rfl rfl rfl (s_pick_t rfl g7 rfl ⟨rfl, rfl, rfl⟩) ?_
          refine d_op ?_
          refine x_run0 [(62, pB true)] [0, 1, 2, 3, 4, 5, 6, 7, 8, 9, 10, 11, 12, 13, 14, 15, 16, 17, 18, 19, 20, 21, 22, 23, 24, 25] rfl rfl rfl rfl (s_assign rfl ⟨rfl, rfl, rfl⟩) ?_
          refine d_end ⟨by kernel_rfl, ?_⟩
          refine q_then ?_
          refine w_if rfl (fun _ => ?_) (fun e => absurd e (by decide))
          refine w_seq ?_
          refine w_R ?_
          refine qa hnt rfl rfl ?_
          refine r_set [(2, pI 12)] [(0, .obj [pI r.fn, pI r.at_, pI r.count, pI r.wAt, pI r.sub, pS 1 false encBo r.bits, pS 1 false enc16 r.vals, p16 r.and_, p16 r.or_])] 1 ⟨rfl, trivial⟩ rfl rfl ?_
          refine r_end ?_
          refine q_then ?_
          refine w_le (s := 2) (y := pI (rightR r)) rfl (le_of_eq (congrArg (fun z : Int => pI z) (show 12 = (rightR r) by first | exact (rightR_1 c1_).symm | exact (right_P c1 c2_ (by omega) (by omega) (by omega) (by omega)).symm | exact (wrong_P c1 (fun h => Bool.noConfusion (c2_.symm.trans h.1))).symm | exact (wrong_P c1 (fun h => by omega)).symm))) ?_
          refine w_ret ?_
          refine q_block_ret ?_
          refine q_then_ret ?_
          exact fin_plain (ret_tmp rfl ret_nil) rfl rfl ⟨rfl, rfl, rfl⟩
        ·
         have g6' := g6
         try simp only [sB] at g6'
         refine xn [(51, pB (!decide (((r.vals.length : Nat) : Int) = valsN r))), (52, undefP)] [0, 1, 2, 3, 4, 5, 6, 7, 8, 9, 10, 11, 12, 13, 14, 15] rfl rfl rfl rfl g6 ?_
         refine xn [(51, pB (!decide (((r.vals.length : Nat) : Int) = valsN r))), (53, undefP)] [0, 1, 2, 3, 4, 5, 6, 7, 8, 9, 10, 11, 12, 13, 14, 15, 16] rfl rfl rfl rfl g6 ?_
         refine xn [(51, pB (!decide (((r.vals.length : Nat) : Int) = valsN r))), (54, undefP)] [0, 1, 2, 3, 4, 5, 6, 7, 8, 9, 10, 11, 12, 13, 14, 15, 16, 17] rfl rfl rfl rfl g6 ?_
         refine d_op ?_
         refine x_run0 [(51, pB (!decide (((r.vals.length : Nat) : Int) = valsN r))), (55, undefP)] [0, 1, 2, 3, 4, 5, 6, 7, 8, 9, 10, 11, 12, 13, 14, 15, 16, 17, 18] rfl rfl rfl rfl (s_pick_t rfl g6 rfl ⟨rfl, rfl, rfl⟩) ?_
         refine d_op ?_
         refine x_run0 [(56, pB true)] [0, 1, 2, 3, 4, 5, 6, 7, 8, 9, 10, 11, 12, 13, 14, 15, 16, 17, 18, 19] rfl rfl rfl rfl (s_move rfl ⟨rfl, rfl, rfl⟩) ?_
         refine xn [(57, pB true), (1, PV.ptr 0 0)] [0, 1, 2, 3, 4, 5, 6, 7, 8, 9, 10, 11, 12, 13, 14, 15, 16, 17, 18, 19, 20] rfl rfl rfl rfl rfl ?_
         refine xn [(57, pB true), (58, undefP)] [0, 1, 2, 3, 4, 5, 6, 7, 8, 9, 10, 11, 12, 13, 14, 15, 16, 17, 18, 19, 20, 21] rfl rfl rfl rfl rfl ?_
         refine xn [(57, pB true), (59, undefP)] [0, 1, 2, 3, 4, 5, 6, 7, 8, 9, 10, 11, 12, 13, 14, 15, 16, 17, 18, 19, 20, 21, 22] rfl rfl rfl rfl rfl ?_
         refine xn [(57, pB true), (60, undefP)] [0, 1, 2, 3, 4, 5, 6, 7, 8, 9, 10, 11, 12, 13, 14, 15, 16, 17, 18, 19, 20, 21, 22, 23] rfl rfl rfl rfl rfl ?_
         refine d_op ?_
         refine x_run0 [(57, pB true), (61, undefP)] [0, 1, 2, 3, 4, 5, 6, 7, 8, 9, 10, 11, 12, 13, 14, 15, 16, 17, 18, 19, 20, 21, 22, 23, 24] rfl rfl rfl rfl (s_pick_t rfl rfl rfl ⟨rfl, rfl, rfl⟩) ?_
         refine d_op ?_
         refine x_run0 [(62, pB true)] [0, 1, 2, 3, 4, 5, 6, 7, 8, 9, 10, 11, 12, 13, 14, 15, 16, 17, 18, 19, 20, 21, 22, 23, 24, 25] rfl rfl rfl rfl (s_assign rfl ⟨rfl, rfl, rfl⟩) ?_
         refine d_end ⟨by kernel_rfl, ?_⟩
         refine q_then ?_
         refine w_if rfl (fun _ => ?_) (fun e => absurd e (by decide))
         refine w_seq ?_
         refine w_R ?_
         refine qa hnt rfl rfl ?_
         refine r_set [(2, pI 12)] [(0, .obj [pI r.fn, pI r.at_, pI r.count, pI r.wAt, pI r.sub, pS 1 false encBo r.bits, pS 1 false enc16 r.vals, p16 r.and_, p16 r.or_])] 1 ⟨rfl, trivial⟩ rfl rfl ?_
         refine r_end ?_
         refine q_then ?_
         refine w_le (s := 2) (y := pI (rightR r)) rfl (le_of_eq (congrArg (fun z : Int => pI z) (show 12 = (rightR r) by first | exact (rightR_1 c1_).symm | exact (right_P c1 c2_ (by omega) (by omega) (by omega) (by omega)).symm | exact (wrong_P c1 (fun h => Bool.noConfusion (c2_.symm.trans h.1))).symm | exact (wrong_P c1 (fun h => by omega)).symm))) ?_
         refine w_ret ?_
         refine q_block_ret ?_
         refine q_then_ret ?_
         exact fin_plain (ret_tmp rfl ret_nil) rfl rfl ⟨rfl, rfl, rfl⟩
       ·
        have g5' := g5
        try simp only [sB] at g5'
        refine xn [(43, pB (!decide (((r.bits.length : Nat) : Int) = bitsN r))), (44, undefP)] [0, 1, 2, 3, 4, 5, 6, 7] rfl rfl rfl rfl g5 ?_
        refine xn [(43, pB (!decide (((r.bits.length : Nat) : Int) = bitsN r))), (45, undefP)] [0, 1, 2, 3, 4, 5, 6, 7, 8] rfl rfl rfl rfl g5 ?_
        refine xn [(43, pB (!decide (((r.bits.length : Nat) : Int) = bitsN r))), (1, PV.ptr 0 0)] [0, 1, 2, 3, 4, 5, 6] rfl rfl rfl rfl g5 ?_
        refine xn [(43, pB (!decide (((r.bits.length : Nat) : Int) = bitsN r))), (47, undefP)] [0, 1, 2, 3, 4, 5, 6, 10] rfl rfl rfl rfl g5 ?_
        refine xn [(43, pB (!decide (((r.bits.length : Nat) : Int) = bitsN r))), (46, undefP), (48, undefP)] [0, 1, 2, 3, 4, 5, 6, 7, 8, 9, 10, 11] rfl rfl rfl rfl g5 ?_
        refine d_op ?_
        refine x_run0 [(43, pB (!decide (((r.bits.length : Nat) : Int) = bitsN r))), (49, undefP)] [0, 1, 2, 3, 4, 5, 6, 7, 8, 9, 10, 11, 12] rfl rfl rfl rfl (s_pick_t rfl g5 rfl ⟨rfl, rfl, rfl⟩) ?_
        refine d_op ?_
        refine x_run0 [(50, pB true)] [0, 1, 2, 3, 4, 5, 6, 7, 8, 9, 10, 11, 12, 13] rfl rfl rfl rfl (s_move rfl ⟨rfl, rfl, rfl⟩) ?_
        refine xn [(51, pB true), (1, PV.ptr 0 0)] [0, 1, 2, 3, 4, 5, 6, 7, 8, 9, 10, 11, 12, 13, 14] rfl rfl rfl rfl rfl ?_
        refine xn [(51, pB true), (52, undefP)] [0, 1, 2, 3, 4, 5, 6, 7, 8, 9, 10, 11, 12, 13, 14, 15] rfl rfl rfl rfl rfl ?_
        refine xn [(51, pB true), (53, undefP)] [0, 1, 2, 3, 4, 5, 6, 7, 8, 9, 10, 11, 12, 13, 14, 15, 16] rfl rfl rfl rfl rfl ?_
        refine xn [(51, pB true), (54, undefP)] [0, 1, 2, 3, 4, 5, 6, 7, 8, 9, 10, 11, 12, 13, 14, 15, 16, 17] rfl rfl rfl rfl rfl ?_
        refine d_op ?_
        refine x_run0 [(51, pB true), (55, undefP)] [0, 1, 2, 3, 4, 5, 6, 7, 8, 9, 10, 11, 12, 13, 14, 15, 16, 17, 18] rfl rfl rfl rfl (s_pick_t rfl rfl rfl ⟨rfl, rfl, rfl⟩) ?_
        refine d_op ?_
        refine x_run0 [(56, pB true)] [0, 1, 2, 3, 4, 5, 6, 7, 8, 9, 10, 11, 12, 13, 14, 15, 16, 17, 18, 19] rfl rfl rfl rfl (s_move rfl ⟨rfl, rfl, rfl⟩) ?_
        refine xn [(57, pB true), (1, PV.ptr 0 0)] [0, 1, 2, 3, 4, 5, 6, 7, 8, 9, 10, 11, 12, 13, 14, 15, 16, 17, 18, 19, 20] rfl rfl rfl rfl rfl ?_
        refine xn [(57, pB true), (58, undefP)] [0, 1, 2, 3, 4, 5, 6, 7, 8, 9, 10, 11, 12, 13, 14, 15, 16, 17, 18, 19, 20, 21] rfl rfl rfl rfl rfl ?_
        refine xn [(57, pB true), (59, undefP)] [0, 1, 2, 3, 4, 5, 6, 7, 8, 9, 10, 11, 12, 13, 14, 15, 16, 17, 18, 19, 20, 21, 22] rfl rfl rfl rfl rfl ?_
        refine xn [(57, pB true), (60, undefP)] [0, 1, 2, 3, 4, 5, 6, 7, 8, 9, 10, 11, 12, 13, 14, 15, 16, 17, 18, 19, 20, 21, 22, 23] rfl rfl rfl rfl rfl ?_
        refine d_op ?_
        refine x_run0 [(57, pB true), (61, undefP)] [0, 1, 2, 3, 4, 5, 6, 7, 8, 9, 10, 11, 12, 13, 14, 15, 16, 17, 18, 19, 20, 21, 22, 23, 24] rfl rfl rfl rfl (s_pick_t rfl rfl rfl ⟨rfl, rfl, rfl⟩) ?_
        refine d_op ?_
        refine x_run0 [(62, pB true)] [0, 1, 2, 3, 4, 5, 6, 7, 8, 9, 10, 11, 12, 13, 14, 15, 16, 17, 18, 19, 20, 21, 22, 23, 24, 25] rfl rfl rfl rfl (s_assign rfl ⟨rfl, rfl, rfl⟩) ?_
        refine d_end ⟨by kernel_rfl, ?_⟩
        refine q_then ?_
        refine w_if rfl (fun _ => ?_) (fun e => absurd e (by decide))
        refine w_seq ?_
        refine w_R ?_
        refine qa hnt rfl rfl ?_
        refine r_set [(2, pI 12)] [(0, .obj [pI r.fn, pI r.at_, pI r.count, pI r.wAt, pI r.sub, pS 1 false encBo r.bits, pS 1 false enc16 r.vals, p16 r.and_, p16 r.or_])] 1 ⟨rfl, trivial⟩ rfl rfl ?_
        refine r_end ?_
        refine q_then ?_
        refine w_le (s := 2) (y := pI (rightR r)) rfl (le_of_eq (congrArg (fun z : Int => pI z) (show 12 = (rightR r) by first | exact (rightR_1 c1_).symm | exact (right_P c1 c2_ (by omega) (by omega) (by omega) (by omega)).symm | exact (wrong_P c1 (fun h => Bool.noConfusion (c2_.symm.trans h.1))).symm | exact (wrong_P c1 (fun h => by omega)).symm))) ?_
        refine w_ret ?_
        refine q_block_ret ?_
        refine q_then_ret ?_
        exact fin_plain (ret_tmp rfl ret_nil) rfl rfl ⟨rfl, rfl, rfl⟩

theorem w_reply_Refuse (n : Int) (k : Int)  :
    T Try.prog 40 [pI n, pI k] 0 [] (Ret (PV.f (eReply (refuseR n k))) 0 []) := by
 refine t_fun tabOk (n := 10) (rs := [.cell 4 43]) Try.func40 rfl rfl rfl rfl (Nat.le_of_ble_eq_true rfl) ?_
 intro c hnt hk
 refine w_seq ?_
 refine w_R ?_
 refine qo hnt rfl (s_alloc tab_43 ?_)
 refine r_set [(0, pI n), (1, pI k), (4, PV.ptr 0 0)] [(0, .obj [pI 0, pI 0, pI 0, pI 0, pI 0, pNil, pNil, p16 0, p16 0, pNil])] 1 ⟨rfl, rfl, rfl, trivial⟩ rfl rfl ?_
 refine r_end ?_
 refine q_then ?_
 refine w_seq ?_
 refine w_R ?_
 refine qm hnt rfl rfl ?_
 refine qo hnt rfl (s_maskI 7 (by decide) rfl rfl (by decide) ?_)
 refine qm hnt rfl rfl ?_
 refine qo hnt rfl (s_maskI 8 (by decide) rfl rfl (by decide) ?_)
 refine qo hnt rfl (s_build tab_43 rfl rfl (b_cons rfl tab_3 rfl rfl rfl (Nat.le_of_ble_eq_true rfl) (b_cons rfl tab_3 rfl rfl rfl (Nat.le_of_ble_eq_true rfl) (b_nil ?_))))
 refine qo hnt rfl (s_store_ptr tab_43 rfl rfl rfl rfl rfl (Nat.le_of_ble_eq_true rfl) ?_)
 refine r_set [(4, PV.ptr 0 0)] [(0, .obj [pN ((n % 2 ^ 7).toNat), pN ((k % 2 ^ 8).toNat), pI 0, pI 0, pI 0, pNil, pNil, p16 0, p16 0, pNil])] 1 ⟨rfl, trivial⟩ rfl rfl ?_
 refine r_end ?_
 refine q_then ?_
 refine w_leO (n := 0) (ds := [pI ((refuseR n k).fn), pI ((refuseR n k).code), pI ((refuseR n k).at_), pI ((refuseR n k).count), pI ((refuseR n k).sub), pS 1 false encBo ((refuseR n k).bits), pS 1 false enc16 ((refuseR n k).vals), p16 ((refuseR n k).and_), p16 ((refuseR n k).or_), pS 1 false enc8 ((refuseR n k).data)]) rfl ⟨le_of_eq (congrArg (fun z : Int => pI z) (show (((n % 2 ^ 7).toNat : Nat) : Int) = ((refuseR n k).fn) by rfl)), le_of_eq (congrArg (fun z : Int => pI z) (show (((k % 2 ^ 8).toNat : Nat) : Int) = ((refuseR n k).code) by rfl)), le_of_eq (congrArg (fun z : Int => pI z) (show 0 = ((refuseR n k).at_) by rfl)), le_of_eq (congrArg (fun z : Int => pI z) (show 0 = ((refuseR n k).count) by rfl)), le_of_eq (congrArg (fun z : Int => pI z) (show 0 = ((refuseR n k).sub) by rfl)), le_tr (le_nilS 1 false) (le_of_eq (congrArg (fun z => pS 1 false encBo z) (show [] = ((refuseR n k).bits) by rfl))), le_tr (le_nilS 1 false) (le_of_eq (congrArg (fun z => pS 1 false enc16 z) (show [] = ((refuseR n k).vals) by rfl))), le_of_eq (congrArg (fun z : UInt16 => p16 z) (show 0 = ((refuseR n k).and_) by rfl)), le_of_eq (congrArg (fun z : UInt16 => p16 z) (show 0 = ((refuseR n k).or_) by rfl)), le_tr (le_nilS 1 false) (le_of_eq (congrArg (fun z => pS 1 false enc8 z) (show [] = ((refuseR n k).data) by rfl))), trivial⟩ ?_
 refine w_ret ?_
 exact fin_plain (ret_cell tab_43 (by decide) rfl rfl (Nat.le_of_ble_eq_true rfl) rfl ret_nil) rfl rfl ⟨rfl, rfl, rfl⟩

theorem w_burgageref3_Refuse (n : Int) (k : Int)  :
    T Try.prog 55 [pI n, pI k] 0 [] (Ret (PV.f (eReply (refuseR n k))) 0 []) := by
 refine t_fun tabOk (n := 10) (rs := [.cell 4 43]) Try.func55 rfl rfl rfl rfl (Nat.le_of_ble_eq_true rfl) ?_
 intro c hnt hk
 refine w_seq ?_
 refine w_R ?_
 refine qo hnt rfl (s_alloc tab_43 ?_)
 refine r_set [(0, pI n), (1, pI k), (4, PV.ptr 0 0)] [(0, .obj [pI 0, pI 0, pI 0, pI 0, pI 0, pNil, pNil, p16 0, p16 0, pNil])] 1 ⟨rfl, rfl, rfl, trivial⟩ rfl rfl ?_
 refine r_end ?_
 refine q_then ?_
 refine w_seq ?_
 refine w_R ?_
 refine qm hnt rfl rfl ?_
 refine qo hnt rfl (s_maskI 7 (by decide) rfl rfl (by decide) ?_)
 refine qm hnt rfl rfl ?_
 refine qo hnt rfl (s_maskI 8 (by decide) rfl rfl (by decide) ?_)
 refine qo hnt rfl (s_build tab_43 rfl rfl (b_cons rfl tab_3 rfl rfl rfl (Nat.le_of_ble_eq_true rfl) (b_cons rfl tab_3 rfl rfl rfl (Nat.le_of_ble_eq_true rfl) (b_nil ?_))))
 refine qo hnt rfl (s_store_ptr tab_43 rfl rfl rfl rfl rfl (Nat.le_of_ble_eq_true rfl) ?_)
 refine r_set [(4, PV.ptr 0 0)] [(0, .obj [pN ((n % 2 ^ 7).toNat), pN ((k % 2 ^ 8).toNat), pI 0, pI 0, pI 0, pNil, pNil, p16 0, p16 0, pNil])] 1 ⟨rfl, trivial⟩ rfl rfl ?_
 refine r_end ?_
 refine q_then ?_
 refine w_leO (n := 0) (ds := [pI ((refuseR n k).fn), pI ((refuseR n k).code), pI ((refuseR n k).at_), pI ((refuseR n k).count), pI ((refuseR n k).sub), pS 1 false encBo ((refuseR n k).bits), pS 1 false enc16 ((refuseR n k).vals), p16 ((refuseR n k).and_), p16 ((refuseR n k).or_), pS 1 false enc8 ((refuseR n k).data)]) rfl ⟨le_of_eq (congrArg (fun z : Int => pI z) (show (((n % 2 ^ 7).toNat : Nat) : Int) = ((refuseR n k).fn) by rfl)), le_of_eq (congrArg (fun z : Int => pI z) (show (((k % 2 ^ 8).toNat : Nat) : Int) = ((refuseR n k).code) by rfl)), le_of_eq (congrArg (fun z : Int => pI z) (show 0 = ((refuseR n k).at_) by rfl)), le_of_eq (congrArg (fun z : Int => pI z) (show 0 = ((refuseR n k).count) by rfl)), le_of_eq (congrArg (fun z : Int => pI z) (show 0 = ((refuseR n k).sub) by rfl)), le_tr (le_nilS 1 false) (le_of_eq (congrArg (fun z => pS 1 false encBo z) (show [] = ((refuseR n k).bits) by rfl))), le_tr (le_nilS 1 false) (le_of_eq (congrArg (fun z => pS 1 false enc16 z) (show [] = ((refuseR n k).vals) by rfl))), le_of_eq (congrArg (fun z : UInt16 => p16 z) (show 0 = ((refuseR n k).and_) by rfl)), le_of_eq (congrArg (fun z : UInt16 => p16 z) (show 0 = ((refuseR n k).or_) by rfl)), le_tr (le_nilS 1 false) (le_of_eq (congrArg (fun z => pS 1 false enc8 z) (show [] = ((refuseR n k).data) by rfl))), trivial⟩ ?_
 refine w_ret ?_
 exact fin_plain (ret_cell tab_43 (by decide) rfl rfl (Nat.le_of_ble_eq_true rfl) rfl ret_nil) rfl rfl ⟨rfl, rfl, rfl⟩

theorem w_burgageref3_bits (s : List Bool) (cl_s : Bool) (m : List Bool) (cl_m : Bool) (hs : s.length ≤ 140737488355328) :
    T Try.prog 53 [pS 1 cl_s encBo s, pS 1 cl_m encBo m] 0 [] (Ret (pB (decide (s = m))) 0 []) := by
 refine t_fun tabOk (n := 26) (rs := [.tmp 4]) Try.func53 rfl rfl rfl rfl (Nat.le_of_ble_eq_true rfl) ?_
 intro c hnt hk
 refine w_seq ?_
 refine w_R ?_
 refine qa hnt rfl rfl ?_
 refine r_end ?_
 refine q_then ?_
 refine w_seq ?_
 refine w_seq ?_
 refine w_R ?_
 refine qm hnt rfl rfl ?_
 refine qo hnt rfl (s_lenM (l := s) tab_28 rfl (hM_sl (f := encBo) rfl) ?_)
 refine qm hnt rfl rfl ?_
 refine qo hnt rfl (s_lenM (l := m) tab_28 rfl (hM_sl (f := encBo) rfl) ?_)
 refine qo hnt rfl (s_neq rfl rfl ?_)
 refine r_end ?_
 refine q_then ?_
 refine w_if rfl (fun c1 => ?_) (fun c1 => ?_)
 ·
  have c1_ := c1
  try simp only [sB] at c1
  have hne : s ≠ m := fun e => by subst e; simp at c1
  refine w_seq ?_
  refine w_R ?_
  refine qa hnt rfl rfl ?_
  refine r_end ?_
  refine q_then ?_
  refine w_le (s := 4) (y := pB (decide (s = m))) rfl (le_of_eq (congrArg (fun z : Bool => pB z) (show false = (decide (s = m)) by simp [hne]))) ?_
  refine w_ret ?_
  refine q_then_ret ?_
  exact fin_plain (ret_tmp rfl ret_nil) rfl rfl ⟨rfl, rfl, rfl⟩
 ·
  have c1_ := c1
  try simp only [sB] at c1
  have hlm : s.length = m.length := by omega
  refine w_skip ?_
  refine q_then ?_
  refine w_seq ?_
  refine w_seq ?_
  refine w_R ?_
  refine qm hnt rfl rfl ?_
  refine qo hnt rfl (s_lenM (l := s) tab_28 rfl (hM_sl (f := encBo) rfl) ?_)
  refine qm hnt rfl rfl ?_
  refine r_end ?_
  refine q_then ?_
  refine w_block ?_
  refine loop1 (fun (i : Nat) => i ≤ s.length ∧ s.take i = m.take i) (fun (i : Nat) => [(0, pS 1 cl_s encBo s), (1, pS 1 cl_m encBo m), (12, pN s.length), (13, pN i)]) 0 (fun (i : Nat) => []) (fun (i : Nat) => s.length - i) (0) ?_ ⟨[], rfl, ⟨⟨_, rfl, rfl, rfl⟩, ⟨_, rfl, rfl, rfl⟩, ⟨_, rfl, rfl, rfl⟩, ⟨_, rfl, rfl, rfl⟩, trivial⟩, trivial, by rw [hk]; decide⟩ ?_
  · exact ⟨Nat.zero_le _, by simp⟩
  ·
   intro i hI
   obtain ⟨hi, ht⟩ := hI
   refine w_seq ?_
   refine w_R ?_
   refine qo hnt rfl (s_lss rfl rfl ?_)
   refine r_end ?_
   refine q_then ?_
   refine w_seq ?_
   refine w_if rfl (fun c2 => ?_) (fun c2 => ?_)
   ·
    have c2_ := c2
    try simp only [sB] at c2
    refine w_skip ?_
    refine q_then ?_
    refine w_seq ?_
    refine w_block ?_
    refine w_seq ?_
    refine w_R ?_
    refine qm hnt rfl rfl ?_
    refine qa hnt rfl rfl ?_
    refine r_end ?_
    refine q_then ?_
    refine w_seq ?_
    refine W_drawn tabOk mixed hnt [[], [], [0, 1], [0, 1, 2], [], [], [4, 5], [4, 5, 6], [0, 1, 2, 3, 4, 5, 6, 7]] (by kernel_rfl) ?_
    refine d_op ?_
    refine x_run0 [(0, pS 1 cl_s encBo s)] [] rfl rfl rfl rfl (s_move rfl ⟨rfl, rfl, rfl⟩) ?_
    refine d_op ?_
    refine x_run0 [(5, pN i)] [] rfl rfl rfl rfl (s_move rfl ⟨rfl, rfl, rfl⟩) ?_
    refine d_op ?_
    obtain ⟨e1, he1⟩ := get_of_lt s (i := i) (by omega)
    refine x_run0 [(16, pS 1 cl_s encBo s), (17, pN i)] [0, 1] rfl rfl rfl rfl (s_iaM (q := i) (b := e1) (f := encBo) tab_28 rfl tab_4 rfl rfl (by omega) rfl he1 ⟨rfl, rfl, rfl⟩) ?_
    refine d_op ?_
    refine x_run0 [(18, PV.f (.ro (encBo e1)))] [0, 1, 2] rfl rfl rfl rfl (s_load_ro1 tab_4 rfl rfl rfl rfl ⟨rfl, rfl, rfl⟩) ?_
    refine d_op ?_
    refine x_run0 [(1, pS 1 cl_m encBo m)] [] rfl rfl rfl rfl (s_move rfl ⟨rfl, rfl, rfl⟩) ?_
    refine d_op ?_
    refine x_run0 [(5, pN i)] [] rfl rfl rfl rfl (s_move rfl ⟨rfl, rfl, rfl⟩) ?_
    refine d_op ?_
    obtain ⟨e2, he2⟩ := get_of_lt m (i := i) (by omega)
    refine x_run0 [(20, pS 1 cl_m encBo m), (21, pN i)] [4, 5] rfl rfl rfl rfl (s_iaM (q := i) (b := e2) (f := encBo) tab_28 rfl tab_4 rfl rfl (by omega) rfl he2 ⟨rfl, rfl, rfl⟩) ?_
    refine d_op ?_
    refine x_run0 [(22, PV.f (.ro (encBo e2)))] [4, 5, 6] rfl rfl rfl rfl (s_load_ro1 tab_4 rfl rfl rfl rfl ⟨rfl, rfl, rfl⟩) ?_
    refine d_op ?_
    refine x_run0 [(19, pB e1), (23, pB e2)] [0, 1, 2, 3, 4, 5, 6, 7] rfl rfl rfl rfl (s_nebool tab_4 rfl rfl rfl ⟨rfl, rfl, rfl⟩) ?_
    refine d_end ⟨by kernel_rfl, ?_⟩
    refine q_then ?_
    refine w_if rfl (fun c3 => ?_) (fun c3 => ?_)
    ·
     have c3_ := c3
     try simp only [sB] at c3
     have hne : s ≠ m := fun e => by subst e; rw [he1] at he2; cases he2; simp at c3
     refine w_seq ?_
     refine w_R ?_
     refine qa hnt rfl rfl ?_
     refine r_end ?_
     refine q_then ?_
     refine w_le (s := 4) (y := pB (decide (s = m))) rfl (le_of_eq (congrArg (fun z : Bool => pB z) (show false = (decide (s = m)) by simp [hne]))) ?_
     refine w_ret ?_
     refine q_block_ret ?_
     refine q_then_ret ?_
     refine q_then_ret ?_
     refine q_block_ret ?_
     refine q_then_ret ?_
     exact fin_plain (ret_tmp rfl ret_nil) rfl rfl ⟨rfl, rfl, rfl⟩
    ·
     have c3_ := c3
     try simp only [sB] at c3
     have c3e : e1 = e2 := by simpa using c3
     refine w_skip ?_
     refine q_block ?_
     refine q_then ?_
     refine w_R ?_
     refine qo hnt rfl (s_addN (a := i) (b := 1) rfl rfl (by omega) (by omega) (by omega) ?_)
     refine qm hnt rfl rfl ?_
     refine r_end ?_
     refine q_then ?_
     refine ⟨(i + 1), ?_, ?_, ⟨[], rfl, ⟨⟨_, rfl, rfl, rfl⟩, ⟨_, rfl, rfl, rfl⟩, ⟨_, rfl, rfl, rfl⟩, ⟨_, rfl, rfl, rfl⟩, trivial⟩, trivial, by rw [hk]; decide⟩⟩
     ·
      refine ⟨by omega, ?_⟩
      rw [List.take_add_one, List.take_add_one, he1, he2, ht, c3e]
     · omega
   ·
    have c2_ := c2
    try simp only [sB] at c2
    have h1 : s.take i = s := List.take_of_length_le (by omega)
    have h2 : m.take i = m := List.take_of_length_le (by omega)
    have he : s = m := by rw [← h1, ← h2, ht]
    refine w_exit ?_
    refine q_then_exit ?_
    refine q_then_exit ?_
    refine q_block_exit ?_
    refine q_then ?_
    refine w_seq ?_
    refine w_R ?_
    refine qa hnt rfl rfl ?_
    refine r_end ?_
    refine q_then ?_
    refine w_le (s := 4) (y := pB (decide (s = m))) rfl (le_of_eq (congrArg (fun z : Bool => pB z) (show true = (decide (s = m)) by simp [he]))) ?_
    refine w_ret ?_
    exact fin_plain (ret_tmp rfl ret_nil) rfl rfl ⟨rfl, rfl, rfl⟩

theorem w_burgageref3_vals (s : List UInt16) (cl_s : Bool) (m : List UInt16) (cl_m : Bool) (hs : s.length ≤ 140737488355328) :
    T Try.prog 54 [pS 1 cl_s enc16 s, pS 1 cl_m enc16 m] 0 [] (Ret (pB (decide (s = m))) 0 []) := by
 refine t_fun tabOk (n := 26) (rs := [.tmp 4]) Try.func54 rfl rfl rfl rfl (Nat.le_of_ble_eq_true rfl) ?_
 intro c hnt hk
 refine w_seq ?_
 refine w_R ?_
 refine qa hnt rfl rfl ?_
 refine r_end ?_
 refine q_then ?_
 refine w_seq ?_
 refine w_seq ?_
 refine w_R ?_
 refine qm hnt rfl rfl ?_
 refine qo hnt rfl (s_lenM (l := s) tab_29 rfl (hM_sl (f := enc16) rfl) ?_)
 refine qm hnt rfl rfl ?_
 refine qo hnt rfl (s_lenM (l := m) tab_29 rfl (hM_sl (f := enc16) rfl) ?_)
 refine qo hnt rfl (s_neq rfl rfl ?_)
 refine r_end ?_
 refine q_then ?_
 refine w_if rfl (fun c1 => ?_) (fun c1 => ?_)
 ·
  have c1_ := c1
  try simp only [sB] at c1
  have hne : s ≠ m := fun e => by subst e; simp at c1
  refine w_seq ?_
  refine w_R ?_
  refine qa hnt rfl rfl ?_
  refine r_end ?_
  refine q_then ?_
  refine w_le (s := 4) (y := pB (decide (s = m))) rfl (le_of_eq (congrArg (fun z : Bool => pB z) (show false = (decide (s = m)) by simp [hne]))) ?_
  refine w_ret ?_
  refine q_then_ret ?_
  exact fin_plain (ret_tmp rfl ret_nil) rfl rfl ⟨rfl, rfl, rfl⟩
 ·
  have c1_ := c1
  try simp only [sB] at c1
  have hlm : s.length = m.length := by omega
  refine w_skip ?_
  refine q_then ?_
  refine w_seq ?_
  refine w_seq ?_
  refine w_R ?_
  refine qm hnt rfl rfl ?_
  refine qo hnt rfl (s_lenM (l := s) tab_29 rfl (hM_sl (f := enc16) rfl) ?_)
  refine qm hnt rfl rfl ?_
  refine r_end ?_
  refine q_then ?_
  refine w_block ?_
  refine loop1 (fun (i : Nat) => i ≤ s.length ∧ s.take i = m.take i) (fun (i : Nat) => [(0, pS 1 cl_s enc16 s), (1, pS 1 cl_m enc16 m), (12, pN s.length), (13, pN i)]) 0 (fun (i : Nat) => []) (fun (i : Nat) => s.length - i) (0) ?_ ⟨[], rfl, ⟨⟨_, rfl, rfl, rfl⟩, ⟨_, rfl, rfl, rfl⟩, ⟨_, rfl, rfl, rfl⟩, ⟨_, rfl, rfl, rfl⟩, trivial⟩, trivial, by rw [hk]; decide⟩ ?_
  · exact ⟨Nat.zero_le _, by simp⟩
  ·
   intro i hI
   obtain ⟨hi, ht⟩ := hI
   refine w_seq ?_
   refine w_R ?_
   refine qo hnt rfl (s_lss rfl rfl ?_)
   refine r_end ?_
   refine q_then ?_
   refine w_seq ?_
   refine w_if rfl (fun c2 => ?_) (fun c2 => ?_)
   ·
    have c2_ := c2
    try simp only [sB] at c2
    refine w_skip ?_
    refine q_then ?_
    refine w_seq ?_
    refine w_block ?_
    refine w_seq ?_
    refine w_R ?_
    refine qm hnt rfl rfl ?_
    refine qa hnt rfl rfl ?_
    refine r_end ?_
    refine q_then ?_
    refine w_seq ?_
    refine W_drawn tabOk mixed hnt [[], [], [0, 1], [0, 1, 2], [], [], [4, 5], [4, 5, 6], [0, 1, 2, 3, 4, 5, 6, 7]] (by kernel_rfl) ?_
    refine d_op ?_
    refine x_run0 [(0, pS 1 cl_s enc16 s)] [] rfl rfl rfl rfl (s_move rfl ⟨rfl, rfl, rfl⟩) ?_
    refine d_op ?_
    refine x_run0 [(5, pN i)] [] rfl rfl rfl rfl (s_move rfl ⟨rfl, rfl, rfl⟩) ?_
    refine d_op ?_
    obtain ⟨e1, he1⟩ := get_of_lt s (i := i) (by omega)
    refine x_run0 [(16, pS 1 cl_s enc16 s), (17, pN i)] [0, 1] rfl rfl rfl rfl (s_iaM (q := i) (b := e1) (f := enc16) tab_29 rfl tab_30 rfl rfl (by omega) rfl he1 ⟨rfl, rfl, rfl⟩) ?_
    refine d_op ?_
    refine x_run0 [(18, PV.f (.ro (enc16 e1)))] [0, 1, 2] rfl rfl rfl rfl (s_load_ro1 tab_30 rfl rfl rfl rfl ⟨rfl, rfl, rfl⟩) ?_
    refine d_op ?_
    refine x_run0 [(1, pS 1 cl_m enc16 m)] [] rfl rfl rfl rfl (s_move rfl ⟨rfl, rfl, rfl⟩) ?_
    refine d_op ?_
    refine x_run0 [(5, pN i)] [] rfl rfl rfl rfl (s_move rfl ⟨rfl, rfl, rfl⟩) ?_
    refine d_op ?_
    obtain ⟨e2, he2⟩ := get_of_lt m (i := i) (by omega)
    refine x_run0 [(20, pS 1 cl_m enc16 m), (21, pN i)] [4, 5] rfl rfl rfl rfl (s_iaM (q := i) (b := e2) (f := enc16) tab_29 rfl tab_30 rfl rfl (by omega) rfl he2 ⟨rfl, rfl, rfl⟩) ?_
    refine d_op ?_
    refine x_run0 [(22, PV.f (.ro (enc16 e2)))] [4, 5, 6] rfl rfl rfl rfl (s_load_ro1 tab_30 rfl rfl rfl rfl ⟨rfl, rfl, rfl⟩) ?_
    refine d_op ?_
    refine x_run0 [(19, p16 e1), (23, p16 e2)] [0, 1, 2, 3, 4, 5, 6, 7] rfl rfl rfl rfl (s_neq16 (a := e1) (b := e2) rfl rfl ⟨rfl, rfl, rfl⟩) ?_
    refine d_end ⟨by kernel_rfl, ?_⟩
    refine q_then ?_
    refine w_if rfl (fun c3 => ?_) (fun c3 => ?_)
    ·
     have c3_ := c3
     try simp only [sB] at c3
     have hne : s ≠ m := fun e => by subst e; rw [he1] at he2; cases he2; simp at c3
     refine w_seq ?_
     refine w_R ?_
     refine qa hnt rfl rfl ?_
     refine r_end ?_
     refine q_then ?_
     refine w_le (s := 4) (y := pB (decide (s = m))) rfl (le_of_eq (congrArg (fun z : Bool => pB z) (show false = (decide (s = m)) by simp [hne]))) ?_
     refine w_ret ?_
     refine q_block_ret ?_
     refine q_then_ret ?_
     refine q_then_ret ?_
     refine q_block_ret ?_
     refine q_then_ret ?_
     exact fin_plain (ret_tmp rfl ret_nil) rfl rfl ⟨rfl, rfl, rfl⟩
    ·
     have c3_ := c3
     try simp only [sB] at c3
     have c3e : e1 = e2 := by simpa using c3
     refine w_skip ?_
     refine q_block ?_
     refine q_then ?_
     refine w_R ?_
     refine qo hnt rfl (s_addN (a := i) (b := 1) rfl rfl (by omega) (by omega) (by omega) ?_)
     refine qm hnt rfl rfl ?_
     refine r_end ?_
     refine q_then ?_
     refine ⟨(i + 1), ?_, ?_, ⟨[], rfl, ⟨⟨_, rfl, rfl, rfl⟩, ⟨_, rfl, rfl, rfl⟩, ⟨_, rfl, rfl, rfl⟩, ⟨_, rfl, rfl, rfl⟩, trivial⟩, trivial, by rw [hk]; decide⟩⟩
     ·
      refine ⟨by omega, ?_⟩
      rw [List.take_add_one, List.take_add_one, he1, he2, ht, c3e]
     · omega
   ·
    have c2_ := c2
    try simp only [sB] at c2
    have h1 : s.take i = s := List.take_of_length_le (by omega)
    have h2 : m.take i = m := List.take_of_length_le (by omega)
    have he : s = m := by rw [← h1, ← h2, ht]
    refine w_exit ?_
    refine q_then_exit ?_
    refine q_then_exit ?_
    refine q_block_exit ?_
    refine q_then ?_
    refine w_seq ?_
    refine w_R ?_
    refine qa hnt rfl rfl ?_
    refine r_end ?_
    refine q_then ?_
    refine w_le (s := 4) (y := pB (decide (s = m))) rfl (le_of_eq (congrArg (fun z : Bool => pB z) (show true = (decide (s = m)) by simp [he]))) ?_
    refine w_ret ?_
    exact fin_plain (ret_tmp rfl ret_nil) rfl rfl ⟨rfl, rfl, rfl⟩

theorem w_burgageref3_Alike (a : TReply) (b : TReply) (ha : a.bits.length ≤ 140737488351232 ∧ a.vals.length ≤ 140737488351232 ∧ a.data.length ≤ 140737488351232) :
    T Try.prog 37 [PV.f (eReply a), PV.f (eReply b)] 0 [] (Ret (pB (decide (a = b))) 0 []) := by
 refine t_fun tabOk (n := 75) (rs := [.tmp 4]) Try.func37 rfl rfl rfl rfl (Nat.le_of_ble_eq_true rfl) ?_
 intro c hnt hk
 refine w_seq ?_
 refine w_R ?_
 refine qo hnt rfl (s_box rfl rfl ?_)
 refine qo hnt rfl (s_box rfl rfl ?_)
 refine qa hnt rfl rfl ?_
 refine r_set [(2, PV.ptr 0 0), (3, PV.ptr 1 0)] [(1, .obj [pI b.fn, pI b.code, pI b.at_, pI b.count, pI b.sub, pS 1 false encBo b.bits, pS 1 false enc16 b.vals, p16 b.and_, p16 b.or_, pS 1 false enc8 b.data]), (0, .obj [pI a.fn, pI a.code, pI a.at_, pI a.count, pI a.sub, pS 1 false encBo a.bits, pS 1 false enc16 a.vals, p16 a.and_, p16 a.or_, pS 1 false enc8 a.data])] 2 ⟨rfl, rfl, trivial⟩ rfl rfl ?_
 refine r_end ?_
 refine q_then ?_
 refine w_seq ?_
 refine w_R ?_
 refine qo hnt rfl (s_fa_ptr tab_43 rfl rfl tab_3 (by decide) rfl ?_)
 refine qo hnt rfl (s_load_ptr1 tab_3 rfl rfl rfl rfl rfl ?_)
 refine qo hnt rfl (s_fa_ptr tab_43 rfl rfl tab_3 (by decide) rfl ?_)
 refine qo hnt rfl (s_load_ptr1 tab_3 rfl rfl rfl rfl rfl ?_)
 refine qo hnt rfl (s_eql rfl rfl ?_)
 refine qm hnt rfl rfl ?_
 refine r_cut0 6 [(2, PV.ptr 0 0), (3, PV.ptr 1 0), (16, pB ((decide (a.fn = b.fn)) && (decide (a.code = b.code))))] ?_ ?_
 ·
  refine r_if tabOk hnt rfl rfl rfl (fun g1 => ?_) (fun g1 => ?_)
  ·
   have g1' := g1
   try simp only [sB] at g1'
   refine qo hnt rfl (s_fa_ptr tab_43 rfl rfl tab_3 (by decide) rfl ?_)
   refine ry hnt rfl rfl rfl g1 ?_
   refine qo hnt rfl (s_load_ptr1 tab_3 rfl rfl rfl rfl rfl ?_)
   refine ry hnt rfl rfl rfl g1 ?_
   refine qo hnt rfl (s_fa_ptr tab_43 rfl rfl tab_3 (by decide) rfl ?_)
   refine ry hnt rfl rfl rfl g1 ?_
   refine qo hnt rfl (s_load_ptr1 tab_3 rfl rfl rfl rfl rfl ?_)
   refine ry hnt rfl rfl rfl g1 ?_
   refine qo hnt rfl (s_eql rfl rfl ?_)
   refine qo hnt rfl (s_pick_t rfl g1 rfl ?_)
   refine r_eq (s := 16) (y := pB ((decide (a.fn = b.fn)) && (decide (a.code = b.code)))) rfl (mix_at g1) ?_
   exact r_mid ⟨⟨rfl, rfl, rfl, trivial⟩, rfl, rfl⟩
  ·
   have g1' := g1
   try simp only [sB] at g1'
   refine rn hnt rfl rfl rfl g1 ?_
   refine rn hnt rfl rfl rfl g1 ?_
   refine rn hnt rfl rfl rfl g1 ?_
   refine rn hnt rfl rfl rfl g1 ?_
   refine qo hnt rfl (s_pick_f rfl g1 rfl ?_)
   refine r_eq (s := 16) (y := pB ((decide (a.fn = b.fn)) && (decide (a.code = b.code)))) rfl (mix_af _ g1) ?_
   exact r_mid ⟨⟨rfl, rfl, rfl, trivial⟩, rfl, rfl⟩
 ·
  refine qm hnt rfl rfl ?_
  refine r_cut0 6 [(2, PV.ptr 0 0), (3, PV.ptr 1 0), (23, pB (((decide (a.fn = b.fn)) && (decide (a.code = b.code))) && (decide (a.at_ = b.at_))))] ?_ ?_
  ·
   refine r_if tabOk hnt rfl rfl rfl (fun g2 => ?_) (fun g2 => ?_)
   ·
    have g2' := g2
    try simp only [sB] at g2'
    refine qo hnt rfl (s_fa_ptr tab_43 rfl rfl tab_3 (by decide) rfl ?_)
    refine ry hnt rfl rfl rfl g2 ?_
    refine qo hnt rfl (s_load_ptr1 tab_3 rfl rfl rfl rfl rfl ?_)
    refine ry hnt rfl rfl rfl g2 ?_
    refine qo hnt rfl (s_fa_ptr tab_43 rfl rfl tab_3 (by decide) rfl ?_)
    refine ry hnt rfl rfl rfl g2 ?_
    refine qo hnt rfl (s_load_ptr1 tab_3 rfl rfl rfl rfl rfl ?_)
    refine ry hnt rfl rfl rfl g2 ?_
    refine qo hnt rfl (s_eql rfl rfl ?_)
    refine qo hnt rfl (s_pick_t rfl g2 rfl ?_)
    refine r_eq (s := 23) (y := pB (((decide (a.fn = b.fn)) && (decide (a.code = b.code))) && (decide (a.at_ = b.at_)))) rfl (mix_at g2) ?_
    exact r_mid ⟨⟨rfl, rfl, rfl, trivial⟩, rfl, rfl⟩
   ·
    have g2' := g2
    try simp only [sB] at g2'
    refine rn hnt rfl rfl rfl g2 ?_
    refine rn hnt rfl rfl rfl g2 ?_
    refine rn hnt rfl rfl rfl g2 ?_
    refine rn hnt rfl rfl rfl g2 ?_
    refine qo hnt rfl (s_pick_f rfl g2 rfl ?_)
    refine r_eq (s := 23) (y := pB (((decide (a.fn = b.fn)) && (decide (a.code = b.code))) && (decide (a.at_ = b.at_)))) rfl (mix_af _ g2) ?_
    exact r_mid ⟨⟨rfl, rfl, rfl, trivial⟩, rfl, rfl⟩
  ·
   refine qm hnt rfl rfl ?_
   refine r_cut0 6 [(2, PV.ptr 0 0), (3, PV.ptr 1 0), (30, pB ((((decide (a.fn = b.fn)) && (decide (a.code = b.code))) && (decide (a.at_ = b.at_))) && (decide (a.count = b.count))))] ?_ ?_
   ·
    refine r_if tabOk hnt rfl rfl rfl (fun g3 => ?_) (fun g3 => ?_)
    ·
     have g3' := g3
     try simp only [sB] at g3'
     refine qo hnt rfl (s_fa_ptr tab_43 rfl rfl tab_3 (by decide) rfl ?_)
     refine ry hnt rfl rfl rfl g3 ?_
     refine qo hnt rfl (s_load_ptr1 tab_3 rfl rfl rfl rfl rfl ?_)
     refine ry hnt rfl rfl rfl g3 ?_
     refine qo hnt rfl (s_fa_ptr tab_43 rfl rfl tab_3 (by decide) rfl ?_)
     refine ry hnt rfl rfl rfl g3 ?_
     refine qo hnt rfl (s_load_ptr1 tab_3 rfl rfl rfl rfl rfl ?_)
     refine ry hnt rfl rfl rfl g3 ?_
     refine qo hnt rfl (s_eql rfl rfl ?_)
     refine qo hnt rfl (s_pick_t rfl g3 rfl ?_)
     refine r_eq (s := 30) (y := pB ((((decide (a.fn = b.fn)) && (decide (a.code = b.code))) && (decide (a.at_ = b.at_))) && (decide (a.count = b.count)))) rfl (mix_at g3) ?_
     exact r_mid ⟨⟨rfl, rfl, rfl, trivial⟩, rfl, rfl⟩
    ·
     have g3' := g3
     try simp only [sB] at g3'
     refine rn hnt rfl rfl rfl g3 ?_
     refine rn hnt rfl rfl rfl g3 ?_
     refine rn hnt rfl rfl rfl g3 ?_
     refine rn hnt rfl rfl rfl g3 ?_
     refine qo hnt rfl (s_pick_f rfl g3 rfl ?_)
     refine r_eq (s := 30) (y := pB ((((decide (a.fn = b.fn)) && (decide (a.code = b.code))) && (decide (a.at_ = b.at_))) && (decide (a.count = b.count)))) rfl (mix_af _ g3) ?_
     exact r_mid ⟨⟨rfl, rfl, rfl, trivial⟩, rfl, rfl⟩
   ·
    refine qm hnt rfl rfl ?_
    refine r_cut0 6 [(2, PV.ptr 0 0), (3, PV.ptr 1 0), (37, pB (((((decide (a.fn = b.fn)) && (decide (a.code = b.code))) && (decide (a.at_ = b.at_))) && (decide (a.count = b.count))) && (decide (a.sub = b.sub))))] ?_ ?_
    ·
     refine r_if tabOk hnt rfl rfl rfl (fun g4 => ?_) (fun g4 => ?_)
     ·
      have g4' := g4
      try simp only [sB] at g4'
      refine qo hnt rfl (s_fa_ptr tab_43 rfl rfl tab_3 (by decide) rfl ?_)
      refine ry hnt rfl rfl rfl g4 ?_
      refine qo hnt rfl (s_load_ptr1 tab_3 rfl rfl rfl rfl rfl ?_)
      refine ry hnt rfl rfl rfl g4 ?_
      refine qo hnt rfl (s_fa_ptr tab_43 rfl rfl tab_3 (by decide) rfl ?_)
      refine ry hnt rfl rfl rfl g4 ?_
      refine qo hnt rfl (s_load_ptr1 tab_3 rfl rfl rfl rfl rfl ?_)
      refine ry hnt rfl rfl rfl g4 ?_
      refine qo hnt rfl (s_eql rfl rfl ?_)
      refine qo hnt rfl (s_pick_t rfl g4 rfl ?_)
      refine r_eq (s := 37) (y := pB (((((decide (a.fn = b.fn)) && (decide (a.code = b.code))) && (decide (a.at_ = b.at_))) && (decide (a.count = b.count))) && (decide (a.sub = b.sub)))) rfl (mix_at g4) ?_
      exact r_mid ⟨⟨rfl, rfl, rfl, trivial⟩, rfl, rfl⟩
     ·
      have g4' := g4
      try simp only [sB] at g4'
      refine rn hnt rfl rfl rfl g4 ?_
      refine rn hnt rfl rfl rfl g4 ?_
      refine rn hnt rfl rfl rfl g4 ?_
      refine rn hnt rfl rfl rfl g4 ?_
      refine qo hnt rfl (s_pick_f rfl g4 rfl ?_)
      refine r_eq (s := 37) (y := pB (((((decide (a.fn = b.fn)) && (decide (a.code = b.code))) && (decide (a.at_ = b.at_))) && (decide (a.count = b.count))) && (decide (a.sub = b.sub)))) rfl (mix_af _ g4) ?_
      exact r_mid ⟨⟨rfl, rfl, rfl, trivial⟩, rfl, rfl⟩
    ·
     refine qm hnt rfl rfl ?_
     refine r_cut0 6 [(2, PV.ptr 0 0), (3, PV.ptr 1 0), (44, pB ((((((decide (a.fn = b.fn)) && (decide (a.code = b.code))) && (decide (a.at_ = b.at_))) && (decide (a.count = b.count))) && (decide (a.sub = b.sub))) && (decide (a.and_ = b.and_))))] ?_ ?_
     ·
      refine r_if tabOk hnt rfl rfl rfl (fun g5 => ?_) (fun g5 => ?_)
      ·
       have g5' := g5
       try simp only [sB] at g5'
       refine qo hnt rfl (s_fa_ptr tab_43 rfl rfl tab_30 (by decide) rfl ?_)
       refine ry hnt rfl rfl rfl g5 ?_
       refine qo hnt rfl (s_load_ptr1 tab_30 rfl rfl rfl rfl rfl ?_)
       refine ry hnt rfl rfl rfl g5 ?_
       refine qo hnt rfl (s_fa_ptr tab_43 rfl rfl tab_30 (by decide) rfl ?_)
       refine ry hnt rfl rfl rfl g5 ?_
       refine qo hnt rfl (s_load_ptr1 tab_30 rfl rfl rfl rfl rfl ?_)
       refine ry hnt rfl rfl rfl g5 ?_
       refine qo hnt rfl (s_eql16 (a := a.and_) (b := b.and_) rfl rfl ?_)
       refine qo hnt rfl (s_pick_t rfl g5 rfl ?_)
       refine r_eq (s := 44) (y := pB ((((((decide (a.fn = b.fn)) && (decide (a.code = b.code))) && (decide (a.at_ = b.at_))) && (decide (a.count = b.count))) && (decide (a.sub = b.sub))) && (decide (a.and_ = b.and_)))) rfl (mix_at g5) ?_
       exact r_mid ⟨⟨rfl, rfl, rfl, trivial⟩, rfl, rfl⟩
      ·
       have g5' := g5
       try simp only [sB] at g5'
       refine rn hnt rfl rfl rfl g5 ?_
       refine rn hnt rfl rfl rfl g5 ?_
       refine rn hnt rfl rfl rfl g5 ?_
       refine rn hnt rfl rfl rfl g5 ?_
       refine qo hnt rfl (s_pick_f rfl g5 rfl ?_)
       refine r_eq (s := 44) (y := pB ((((((decide (a.fn = b.fn)) && (decide (a.code = b.code))) && (decide (a.at_ = b.at_))) && (decide (a.count = b.count))) && (decide (a.sub = b.sub))) && (decide (a.and_ = b.and_)))) rfl (mix_af _ g5) ?_
       exact r_mid ⟨⟨rfl, rfl, rfl, trivial⟩, rfl, rfl⟩
     ·
      refine qm hnt rfl rfl ?_
      refine r_cut0 6 [(2, PV.ptr 0 0), (3, PV.ptr 1 0), (51, pB (((((((decide (a.fn = b.fn)) && (decide (a.code = b.code))) && (decide (a.at_ = b.at_))) && (decide (a.count = b.count))) && (decide (a.sub = b.sub))) && (decide (a.and_ = b.and_))) && (decide (a.or_ = b.or_))))] ?_ ?_
      ·
       refine r_if tabOk hnt rfl rfl rfl (fun g6 => ?_) (fun g6 => ?_)
       ·
        have g6' := g6
        try simp only [sB] at g6'
        refine qo hnt rfl (s_fa_ptr tab_43 rfl rfl tab_30 (by decide) rfl ?_)
        refine ry hnt rfl rfl rfl g6 ?_
        refine qo hnt rfl (s_load_ptr1 tab_30 rfl rfl rfl rfl rfl ?_)
        refine ry hnt rfl rfl rfl g6 ?_
        refine qo hnt rfl (s_fa_ptr tab_43 rfl rfl tab_30 (by decide) rfl ?_)
        refine ry hnt rfl rfl rfl g6 ?_
        refine qo hnt rfl (s_load_ptr1 tab_30 rfl rfl rfl rfl rfl ?_)
        refine ry hnt rfl rfl rfl g6 ?_
        refine qo hnt rfl (s_eql16 (a := a.or_) (b := b.or_) rfl rfl ?_)
        refine qo hnt rfl (s_pick_t rfl g6 rfl ?_)
        refine r_eq (s := 51) (y := pB (((((((decide (a.fn = b.fn)) && (decide (a.code = b.code))) && (decide (a.at_ = b.at_))) && (decide (a.count = b.count))) && (decide (a.sub = b.sub))) && (decide (a.and_ = b.and_))) && (decide (a.or_ = b.or_)))) rfl (mix_at g6) ?_
        exact r_mid ⟨⟨rfl, rfl, rfl, trivial⟩, rfl, rfl⟩
       ·
        have g6' := g6
        try simp only [sB] at g6'
        refine rn hnt rfl rfl rfl g6 ?_
        refine rn hnt rfl rfl rfl g6 ?_
        refine rn hnt rfl rfl rfl g6 ?_
        refine rn hnt rfl rfl rfl g6 ?_
        refine qo hnt rfl (s_pick_f rfl g6 rfl ?_)
        refine r_eq (s := 51) (y := pB (((((((decide (a.fn = b.fn)) && (decide (a.code = b.code))) && (decide (a.at_ = b.at_))) && (decide (a.count = b.count))) && (decide (a.sub = b.sub))) && (decide (a.and_ = b.and_))) && (decide (a.or_ = b.or_)))) rfl (mix_af _ g6) ?_
        exact r_mid ⟨⟨rfl, rfl, rfl, trivial⟩, rfl, rfl⟩
      ·
       refine qm hnt rfl rfl ?_
       refine r_cut0 6 [(2, PV.ptr 0 0), (3, PV.ptr 1 0), (58, pB ((((((((decide (a.fn = b.fn)) && (decide (a.code = b.code))) && (decide (a.at_ = b.at_))) && (decide (a.count = b.count))) && (decide (a.sub = b.sub))) && (decide (a.and_ = b.and_))) && (decide (a.or_ = b.or_))) && (decide (a.bits = b.bits))))] ?_ ?_
       ·
        refine r_if tabOk hnt rfl rfl rfl (fun g7 => ?_) (fun g7 => ?_)
        ·
         have g7' := g7
         try simp only [sB] at g7'
         refine qo hnt rfl (s_fa_ptr tab_43 rfl rfl tab_28 (by decide) rfl ?_)
         refine ry hnt rfl rfl rfl g7 ?_
         refine qo hnt rfl (s_load_ptr1 tab_28 rfl rfl rfl rfl rfl ?_)
         refine ry hnt rfl rfl rfl g7 ?_
         refine qo hnt rfl (s_fa_ptr tab_43 rfl rfl tab_28 (by decide) rfl ?_)
         refine ry hnt rfl rfl rfl g7 ?_
         refine qo hnt rfl (s_load_ptr1 tab_28 rfl rfl rfl rfl rfl ?_)
         refine ry hnt rfl rfl rfl g7 ?_
         refine qo hnt rfl (s_callF rfl rfl rfl (w_burgageref3_bits a.bits false b.bits false (by first | omega | assumption | (simp; omega) | decide | (simp; done))) rfl ?_)
         refine qo hnt rfl (s_pick_t rfl g7 rfl ?_)
         refine r_eq (s := 58) (y := pB ((((((((decide (a.fn = b.fn)) && (decide (a.code = b.code))) && (decide (a.at_ = b.at_))) && (decide (a.count = b.count))) && (decide (a.sub = b.sub))) && (decide (a.and_ = b.and_))) && (decide (a.or_ = b.or_))) && (decide (a.bits = b.bits)))) rfl (mix_at g7) ?_
         exact r_mid ⟨⟨rfl, rfl, rfl, trivial⟩, rfl, rfl⟩
        ·
         have g7' := g7
         try simp only [sB] at g7'
         refine rn hnt rfl rfl rfl g7 ?_
         refine rn hnt rfl rfl rfl g7 ?_
         refine rn hnt rfl rfl rfl g7 ?_
         refine rn hnt rfl rfl rfl g7 ?_
         refine qo hnt rfl (s_pick_f rfl g7 rfl ?_)
         refine r_eq (s := 58) (y := pB ((((((((decide (a.fn = b.fn)) && (decide (a.code = b.code))) && (decide (a.at_ = b.at_))) && (decide (a.count = b.count))) && (decide (a.sub = b.sub))) && (decide (a.and_ = b.and_))) && (decide (a.or_ = b.or_))) && (decide (a.bits = b.bits)))) rfl (mix_af _ g7) ?_
         exact r_mid ⟨⟨rfl, rfl, rfl, trivial⟩, rfl, rfl⟩
       ·
        refine qm hnt rfl rfl ?_
        refine r_cut0 6 [(2, PV.ptr 0 0), (3, PV.ptr 1 0), (65, pB (((((((((decide (a.fn = b.fn)) && (decide (a.code = b.code))) && (decide (a.at_ = b.at_))) && (decide (a.count = b.count))) && (decide (a.sub = b.sub))) && (decide (a.and_ = b.and_))) && (decide (a.or_ = b.or_))) && (decide (a.bits = b.bits))) && (decide (a.vals = b.vals))))] ?_ ?_
        ·
         refine r_if tabOk hnt rfl rfl rfl (fun g8 => ?_) (fun g8 => ?_)
         ·
          have g8' := g8
          try simp only [sB] at g8'
          refine qo hnt rfl (s_fa_ptr tab_43 rfl rfl tab_29 (by decide) rfl ?_)
          refine ry hnt rfl rfl rfl g8 ?_
          refine qo hnt rfl (s_load_ptr1 tab_29 rfl rfl rfl rfl rfl ?_)
          refine ry hnt rfl rfl rfl g8 ?_
          refine qo hnt rfl (s_fa_ptr tab_43 rfl rfl tab_29 (by decide) rfl ?_)
          refine ry hnt rfl rfl rfl g8 ?_
          refine qo hnt rfl (s_load_ptr1 tab_29 rfl rfl rfl rfl rfl ?_)
          refine ry hnt rfl rfl rfl g8 ?_
          refine qo hnt rfl (s_callF rfl rfl rfl (w_burgageref3_vals a.vals false b.vals false (by first | omega | assumption | (simp; omega) | decide | (simp; done))) rfl ?_)
          refine qo hnt rfl (s_pick_t rfl g8 rfl ?_)
          refine r_eq (s := 65) (y := pB (((((((((decide (a.fn = b.fn)) && (decide (a.code = b.code))) && (decide (a.at_ = b.at_))) && (decide (a.count = b.count))) && (decide (a.sub = b.sub))) && (decide (a.and_ = b.and_))) && (decide (a.or_ = b.or_))) && (decide (a.bits = b.bits))) && (decide (a.vals = b.vals)))) rfl (mix_at g8) ?_
          exact r_mid ⟨⟨rfl, rfl, rfl, trivial⟩, rfl, rfl⟩
         ·
          have g8' := g8
          try simp only [sB] at g8'
          refine rn hnt rfl rfl rfl g8 ?_
          refine rn hnt rfl rfl rfl g8 ?_
          refine rn hnt rfl rfl rfl g8 ?_
          refine rn hnt rfl rfl rfl g8 ?_
          refine qo hnt rfl (s_pick_f rfl g8 rfl ?_)
          refine r_eq (s := 65) (y := pB (((((((((decide (a.fn = b.fn)) && (decide (a.code = b.code))) && (decide (a.at_ = b.at_))) && (decide (a.count = b.count))) && (decide (a.sub = b.sub))) && (decide (a.and_ = b.and_))) && (decide (a.or_ = b.or_))) && (decide (a.bits = b.bits))) && (decide (a.vals = b.vals)))) rfl (mix_af _ g8) ?_
          exact r_mid ⟨⟨rfl, rfl, rfl, trivial⟩, rfl, rfl⟩
        ·
         refine qm hnt rfl rfl ?_
         refine r_cut0 8 [(74, pB ((((((((((decide (a.fn = b.fn)) && (decide (a.code = b.code))) && (decide (a.at_ = b.at_))) && (decide (a.count = b.count))) && (decide (a.sub = b.sub))) && (decide (a.and_ = b.and_))) && (decide (a.or_ = b.or_))) && (decide (a.bits = b.bits))) && (decide (a.vals = b.vals))) && (decide (a.data = b.data))))] ?_ ?_
         ·
          refine r_if tabOk hnt rfl rfl rfl (fun g9 => ?_) (fun g9 => ?_)
          ·
           have g9' := g9
           try simp only [sB] at g9'
           refine qo hnt rfl (s_fa_ptr tab_43 rfl rfl tab_41 (by decide) rfl ?_)
           refine ry hnt rfl rfl rfl g9 ?_
           refine qo hnt rfl (s_load_ptr1 tab_41 rfl rfl rfl rfl rfl ?_)
           refine ry hnt rfl rfl rfl g9 ?_
           refine qo hnt rfl (s_cvT tab_41 tab_9 rfl tab_5 rfl rfl (hM_sl (f := enc8) rfl) ?_)
           refine ry hnt rfl rfl rfl g9 ?_
           refine qo hnt rfl (s_fa_ptr tab_43 rfl rfl tab_41 (by decide) rfl ?_)
           refine ry hnt rfl rfl rfl g9 ?_
           refine qo hnt rfl (s_load_ptr1 tab_41 rfl rfl rfl rfl rfl ?_)
           refine ry hnt rfl rfl rfl g9 ?_
           refine qo hnt rfl (s_cvT tab_41 tab_9 rfl tab_5 rfl rfl (hM_sl (f := enc8) rfl) ?_)
           refine ry hnt rfl rfl rfl g9 ?_
           refine qo hnt rfl (s_eqtext (l := a.data) (m := b.data) rfl rfl ?_)
           refine qo hnt rfl (s_pick_t rfl g9 rfl ?_)
           refine r_eq (s := 74) (y := pB ((((((((((decide (a.fn = b.fn)) && (decide (a.code = b.code))) && (decide (a.at_ = b.at_))) && (decide (a.count = b.count))) && (decide (a.sub = b.sub))) && (decide (a.and_ = b.and_))) && (decide (a.or_ = b.or_))) && (decide (a.bits = b.bits))) && (decide (a.vals = b.vals))) && (decide (a.data = b.data)))) rfl (mix_at g9) ?_
           exact r_mid ⟨⟨rfl, trivial⟩, rfl, rfl⟩
          ·
           have g9' := g9
           try simp only [sB] at g9'
           refine rn hnt rfl rfl rfl g9 ?_
           refine rn hnt rfl rfl rfl g9 ?_
           refine rn hnt rfl rfl rfl g9 ?_
           refine rn hnt rfl rfl rfl g9 ?_
           refine rn hnt rfl rfl rfl g9 ?_
           refine rn hnt rfl rfl rfl g9 ?_
           refine qo hnt rfl (s_pick_f rfl g9 rfl ?_)
           refine r_eq (s := 74) (y := pB ((((((((((decide (a.fn = b.fn)) && (decide (a.code = b.code))) && (decide (a.at_ = b.at_))) && (decide (a.count = b.count))) && (decide (a.sub = b.sub))) && (decide (a.and_ = b.and_))) && (decide (a.or_ = b.or_))) && (decide (a.bits = b.bits))) && (decide (a.vals = b.vals))) && (decide (a.data = b.data)))) rfl (mix_af _ g9) ?_
           exact r_mid ⟨⟨rfl, trivial⟩, rfl, rfl⟩
         ·
          refine qa hnt rfl rfl ?_
          refine r_end ?_
          refine q_then ?_
          refine w_le (s := 4) (y := pB (decide (a = b))) rfl (le_of_eq (congrArg (fun z : Bool => pB z) (show ((((((((((decide (a.fn = b.fn)) && (decide (a.code = b.code))) && (decide (a.at_ = b.at_))) && (decide (a.count = b.count))) && (decide (a.sub = b.sub))) && (decide (a.and_ = b.and_))) && (decide (a.or_ = b.or_))) && (decide (a.bits = b.bits))) && (decide (a.vals = b.vals))) && (decide (a.data = b.data))) = (decide (a = b)) by apply Bool.eq_iff_iff.2; simp only [Bool.and_eq_true, decide_eq_true_eq]; cases a; cases b; simp only [TReply.mk.injEq]; constructor <;> (intro h; simp_all)))) ?_
          refine w_ret ?_
          exact fin_plain (ret_tmp rfl ret_nil) rfl rfl ⟨rfl, rfl, rfl⟩

end Go.Proofs.Ytmcgjmpcfiefgaa
