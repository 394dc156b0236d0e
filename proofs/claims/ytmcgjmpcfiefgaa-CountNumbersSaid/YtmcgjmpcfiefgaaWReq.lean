/- Walks: printed by a program of this session (wip/tools/walk2.py) out of its notes. -/
import Derived.Test.YtmcgjmpcfiefgaaWOctet
import Derived.Test.YtmcgjmpcfiefgaaSpecR
set_option linter.unusedVariables false
set_option linter.unusedSimpArgs false
set_option maxRecDepth 10000
set_option maxHeartbeats 1000000
namespace Go.Proofs.Ytmcgjmpcfiefgaa
open Go Go.Proofs.Ytmcgjmpcfiefgaa.Pv

theorem w_burgageref3_Has (n : Int)  :
    T Try.prog 66 [pI n] 0 [] (Ret (pB (hasF n)) 0 []) := by
 refine t_fun tabOk (n := 33) (rs := [.tmp 2]) Try.func66 rfl rfl rfl rfl (Nat.le_of_ble_eq_true rfl) ?_
 intro c hnt hk
 refine w_seq ?_
 refine w_R ?_
 refine qa hnt rfl rfl ?_
 refine r_end ?_
 refine q_then ?_
 refine w_seq ?_
 refine w_R ?_
 refine qm hnt rfl rfl ?_
 refine qo hnt rfl (s_geq rfl rfl ?_)
 refine qm hnt rfl rfl ?_
 refine r_cut0 3 [(0, pI n), (2, pB false), (8, pB ((decide (1 ≤ n)) && (decide (n ≤ 6))))] ?_ ?_
 ·
  refine r_if tabOk hnt rfl rfl rfl (fun g1 => ?_) (fun g1 => ?_)
  ·
   have g1' := g1
   try simp only [sB] at g1'
   refine qm hnt rfl rfl ?_
   refine ry hnt rfl rfl rfl g1 ?_
   refine qo hnt rfl (s_leq rfl rfl ?_)
   refine qo hnt rfl (s_pick_t rfl g1 rfl ?_)
   refine r_eq (s := 8) (y := pB ((decide (1 ≤ n)) && (decide (n ≤ 6)))) rfl (mix_at g1) ?_
   exact r_mid ⟨⟨rfl, rfl, rfl, trivial⟩, rfl, rfl⟩
  ·
   have g1' := g1
   try simp only [sB] at g1'
   refine rn hnt rfl rfl rfl g1 ?_
   refine qo hnt rfl (s_pick_f rfl g1 rfl ?_)
   refine r_eq (s := 8) (y := pB ((decide (1 ≤ n)) && (decide (n ≤ 6)))) rfl (mix_af _ g1) ?_
   exact r_mid ⟨⟨rfl, rfl, rfl, trivial⟩, rfl, rfl⟩
 ·
  refine qm hnt rfl rfl ?_
  refine r_cut0 3 [(0, pI n), (2, pB false), (12, pB (((decide (1 ≤ n)) && (decide (n ≤ 6))) || (decide (n = 8))))] ?_ ?_
  ·
   refine r_if tabOk hnt rfl rfl rfl (fun g2 => ?_) (fun g2 => ?_)
   ·
    have g2' := g2
    try simp only [sB] at g2'
    refine qm hnt rfl rfl ?_
    refine ry hnt rfl rfl rfl g2 ?_
    refine qo hnt rfl (s_eql rfl rfl ?_)
    refine qo hnt rfl (s_pick_f rfl g2 rfl ?_)
    refine r_eq (s := 12) (y := pB (((decide (1 ≤ n)) && (decide (n ≤ 6))) || (decide (n = 8)))) rfl (mix_of g2) ?_
    exact r_mid ⟨⟨rfl, rfl, rfl, trivial⟩, rfl, rfl⟩
   ·
    have g2' := g2
    try simp only [sB] at g2'
    refine rn hnt rfl rfl rfl g2 ?_
    refine qo hnt rfl (s_pick_t rfl g2 rfl ?_)
    refine r_eq (s := 12) (y := pB (((decide (1 ≤ n)) && (decide (n ≤ 6))) || (decide (n = 8)))) rfl (mix_ot _ g2) ?_
    exact r_mid ⟨⟨rfl, rfl, rfl, trivial⟩, rfl, rfl⟩
  ·
   refine qm hnt rfl rfl ?_
   refine r_cut0 3 [(0, pI n), (2, pB false), (16, pB ((((decide (1 ≤ n)) && (decide (n ≤ 6))) || (decide (n = 8))) || (decide (n = 15))))] ?_ ?_
   ·
    refine r_if tabOk hnt rfl rfl rfl (fun g3 => ?_) (fun g3 => ?_)
    ·
     have g3' := g3
     try simp only [sB] at g3'
     refine qm hnt rfl rfl ?_
     refine ry hnt rfl rfl rfl g3 ?_
     refine qo hnt rfl (s_eql rfl rfl ?_)
     refine qo hnt rfl (s_pick_f rfl g3 rfl ?_)
     refine r_eq (s := 16) (y := pB ((((decide (1 ≤ n)) && (decide (n ≤ 6))) || (decide (n = 8))) || (decide (n = 15)))) rfl (mix_of g3) ?_
     exact r_mid ⟨⟨rfl, rfl, rfl, trivial⟩, rfl, rfl⟩
    ·
     have g3' := g3
     try simp only [sB] at g3'
     refine rn hnt rfl rfl rfl g3 ?_
     refine qo hnt rfl (s_pick_t rfl g3 rfl ?_)
     refine r_eq (s := 16) (y := pB ((((decide (1 ≤ n)) && (decide (n ≤ 6))) || (decide (n = 8))) || (decide (n = 15)))) rfl (mix_ot _ g3) ?_
     exact r_mid ⟨⟨rfl, rfl, rfl, trivial⟩, rfl, rfl⟩
   ·
    refine qm hnt rfl rfl ?_
    refine r_cut0 3 [(0, pI n), (2, pB false), (20, pB (((((decide (1 ≤ n)) && (decide (n ≤ 6))) || (decide (n = 8))) || (decide (n = 15))) || (decide (n = 16))))] ?_ ?_
    ·
     refine r_if tabOk hnt rfl rfl rfl (fun g4 => ?_) (fun g4 => ?_)
     ·
      have g4' := g4
      try simp only [sB] at g4'
      refine qm hnt rfl rfl ?_
      refine ry hnt rfl rfl rfl g4 ?_
      refine qo hnt rfl (s_eql rfl rfl ?_)
      refine qo hnt rfl (s_pick_f rfl g4 rfl ?_)
      refine r_eq (s := 20) (y := pB (((((decide (1 ≤ n)) && (decide (n ≤ 6))) || (decide (n = 8))) || (decide (n = 15))) || (decide (n = 16)))) rfl (mix_of g4) ?_
      exact r_mid ⟨⟨rfl, rfl, rfl, trivial⟩, rfl, rfl⟩
     ·
      have g4' := g4
      try simp only [sB] at g4'
      refine rn hnt rfl rfl rfl g4 ?_
      refine qo hnt rfl (s_pick_t rfl g4 rfl ?_)
      refine r_eq (s := 20) (y := pB (((((decide (1 ≤ n)) && (decide (n ≤ 6))) || (decide (n = 8))) || (decide (n = 15))) || (decide (n = 16)))) rfl (mix_ot _ g4) ?_
      exact r_mid ⟨⟨rfl, rfl, rfl, trivial⟩, rfl, rfl⟩
    ·
     refine qm hnt rfl rfl ?_
     refine r_cut0 3 [(0, pI n), (2, pB false), (24, pB ((((((decide (1 ≤ n)) && (decide (n ≤ 6))) || (decide (n = 8))) || (decide (n = 15))) || (decide (n = 16))) || (decide (n = 17))))] ?_ ?_
     ·
      refine r_if tabOk hnt rfl rfl rfl (fun g5 => ?_) (fun g5 => ?_)
      ·
       have g5' := g5
       try simp only [sB] at g5'
       refine qm hnt rfl rfl ?_
       refine ry hnt rfl rfl rfl g5 ?_
       refine qo hnt rfl (s_eql rfl rfl ?_)
       refine qo hnt rfl (s_pick_f rfl g5 rfl ?_)
       refine r_eq (s := 24) (y := pB ((((((decide (1 ≤ n)) && (decide (n ≤ 6))) || (decide (n = 8))) || (decide (n = 15))) || (decide (n = 16))) || (decide (n = 17)))) rfl (mix_of g5) ?_
       exact r_mid ⟨⟨rfl, rfl, rfl, trivial⟩, rfl, rfl⟩
      ·
       have g5' := g5
       try simp only [sB] at g5'
       refine rn hnt rfl rfl rfl g5 ?_
       refine qo hnt rfl (s_pick_t rfl g5 rfl ?_)
       refine r_eq (s := 24) (y := pB ((((((decide (1 ≤ n)) && (decide (n ≤ 6))) || (decide (n = 8))) || (decide (n = 15))) || (decide (n = 16))) || (decide (n = 17)))) rfl (mix_ot _ g5) ?_
       exact r_mid ⟨⟨rfl, rfl, rfl, trivial⟩, rfl, rfl⟩
     ·
      refine qm hnt rfl rfl ?_
      refine r_cut0 3 [(0, pI n), (2, pB false), (28, pB (((((((decide (1 ≤ n)) && (decide (n ≤ 6))) || (decide (n = 8))) || (decide (n = 15))) || (decide (n = 16))) || (decide (n = 17))) || (decide (n = 22))))] ?_ ?_
      ·
       refine r_if tabOk hnt rfl rfl rfl (fun g6 => ?_) (fun g6 => ?_)
       ·
        have g6' := g6
        try simp only [sB] at g6'
        refine qm hnt rfl rfl ?_
        refine ry hnt rfl rfl rfl g6 ?_
        refine qo hnt rfl (s_eql rfl rfl ?_)
        refine qo hnt rfl (s_pick_f rfl g6 rfl ?_)
        refine r_eq (s := 28) (y := pB (((((((decide (1 ≤ n)) && (decide (n ≤ 6))) || (decide (n = 8))) || (decide (n = 15))) || (decide (n = 16))) || (decide (n = 17))) || (decide (n = 22)))) rfl (mix_of g6) ?_
        exact r_mid ⟨⟨rfl, rfl, rfl, trivial⟩, rfl, rfl⟩
       ·
        have g6' := g6
        try simp only [sB] at g6'
        refine rn hnt rfl rfl rfl g6 ?_
        refine qo hnt rfl (s_pick_t rfl g6 rfl ?_)
        refine r_eq (s := 28) (y := pB (((((((decide (1 ≤ n)) && (decide (n ≤ 6))) || (decide (n = 8))) || (decide (n = 15))) || (decide (n = 16))) || (decide (n = 17))) || (decide (n = 22)))) rfl (mix_ot _ g6) ?_
        exact r_mid ⟨⟨rfl, rfl, rfl, trivial⟩, rfl, rfl⟩
      ·
       refine qm hnt rfl rfl ?_
       refine r_cut0 3 [(2, pB false), (32, pB ((((((((decide (1 ≤ n)) && (decide (n ≤ 6))) || (decide (n = 8))) || (decide (n = 15))) || (decide (n = 16))) || (decide (n = 17))) || (decide (n = 22))) || (decide (n = 23))))] ?_ ?_
       ·
        refine r_if tabOk hnt rfl rfl rfl (fun g7 => ?_) (fun g7 => ?_)
        ·
         have g7' := g7
         try simp only [sB] at g7'
         refine qm hnt rfl rfl ?_
         refine ry hnt rfl rfl rfl g7 ?_
         refine qo hnt rfl (s_eql rfl rfl ?_)
         refine qo hnt rfl (s_pick_f rfl g7 rfl ?_)
         refine r_eq (s := 32) (y := pB ((((((((decide (1 ≤ n)) && (decide (n ≤ 6))) || (decide (n = 8))) || (decide (n = 15))) || (decide (n = 16))) || (decide (n = 17))) || (decide (n = 22))) || (decide (n = 23)))) rfl (mix_of g7) ?_
         exact r_mid ⟨⟨rfl, rfl, trivial⟩, rfl, rfl⟩
        ·
         have g7' := g7
         try simp only [sB] at g7'
         refine rn hnt rfl rfl rfl g7 ?_
         refine qo hnt rfl (s_pick_t rfl g7 rfl ?_)
         refine r_eq (s := 32) (y := pB ((((((((decide (1 ≤ n)) && (decide (n ≤ 6))) || (decide (n = 8))) || (decide (n = 15))) || (decide (n = 16))) || (decide (n = 17))) || (decide (n = 22))) || (decide (n = 23)))) rfl (mix_ot _ g7) ?_
         exact r_mid ⟨⟨rfl, rfl, trivial⟩, rfl, rfl⟩
       ·
        refine qa hnt rfl rfl ?_
        refine r_end ?_
        refine q_then ?_
        refine w_le (s := 2) (y := pB (hasF n)) rfl (le_of_eq (congrArg (fun z : Bool => pB z) (show ((((((((decide (1 ≤ n)) && (decide (n ≤ 6))) || (decide (n = 8))) || (decide (n = 15))) || (decide (n = 16))) || (decide (n = 17))) || (decide (n = 22))) || (decide (n = 23))) = (hasF n) by unfold hasF; apply Bool.eq_iff_iff.2; simp only [Bool.and_eq_true, Bool.or_eq_true, decide_eq_true_eq]; try omega))) ?_
        refine w_ret ?_
        exact fin_plain (ret_tmp rfl ret_nil) rfl rfl ⟨rfl, rfl, rfl⟩

theorem w_burgageref3_word (n : Int)  :
    T Try.prog 69 [pI n] 0 [] (Ret (pB (wordOk n)) 0 []) := by
 refine t_fun tabOk (n := 9) (rs := [.tmp 2]) Try.func69 rfl rfl rfl rfl (Nat.le_of_ble_eq_true rfl) ?_
 intro c hnt hk
 refine w_seq ?_
 refine w_R ?_
 refine qa hnt rfl rfl ?_
 refine r_end ?_
 refine q_then ?_
 refine w_seq ?_
 refine w_R ?_
 refine qm hnt rfl rfl ?_
 refine qo hnt rfl (s_geq rfl rfl ?_)
 refine qm hnt rfl rfl ?_
 refine r_cut0 3 [(2, pB false), (8, pB ((decide (0 ≤ n)) && (decide (n ≤ 65535))))] ?_ ?_
 ·
  refine r_if tabOk hnt rfl rfl rfl (fun g1 => ?_) (fun g1 => ?_)
  ·
   have g1' := g1
   try simp only [sB] at g1'
   refine qm hnt rfl rfl ?_
   refine ry hnt rfl rfl rfl g1 ?_
   refine qo hnt rfl (s_leq rfl rfl ?_)
   refine qo hnt rfl (s_pick_t rfl g1 rfl ?_)
   refine r_eq (s := 8) (y := pB ((decide (0 ≤ n)) && (decide (n ≤ 65535)))) rfl (mix_at g1) ?_
   exact r_mid ⟨⟨rfl, rfl, trivial⟩, rfl, rfl⟩
  ·
   have g1' := g1
   try simp only [sB] at g1'
   refine rn hnt rfl rfl rfl g1 ?_
   refine qo hnt rfl (s_pick_f rfl g1 rfl ?_)
   refine r_eq (s := 8) (y := pB ((decide (0 ≤ n)) && (decide (n ≤ 65535)))) rfl (mix_af _ g1) ?_
   exact r_mid ⟨⟨rfl, rfl, trivial⟩, rfl, rfl⟩
 ·
  refine qa hnt rfl rfl ?_
  refine r_end ?_
  refine q_then ?_
  refine w_le (s := 2) (y := pB (wordOk n)) rfl (le_of_eq (congrArg (fun z : Bool => pB z) (show ((decide (0 ≤ n)) && (decide (n ≤ 65535))) = (wordOk n) by unfold wordOk; apply Bool.eq_iff_iff.2; simp only [Bool.and_eq_true, Bool.or_eq_true, decide_eq_true_eq]; try omega))) ?_
  refine w_ret ?_
  exact fin_plain (ret_tmp rfl ret_nil) rfl rfl ⟨rfl, rfl, rfl⟩

theorem w_burgageref3_uses (n : Int)  :
    T Try.prog 67 [pI n] 0 [] (Ret (pT (usesS n)) 0 []) := by
 refine t_fun tabOk (n := 23) (rs := [.tmp 2]) Try.func67 rfl rfl rfl rfl (Nat.le_of_ble_eq_true rfl) ?_
 intro c hnt hk
 refine w_seq ?_
 refine w_R ?_
 refine qa hnt rfl rfl ?_
 refine r_end ?_
 refine q_then ?_
 refine w_seq ?_
 refine w_seq ?_
 refine w_R ?_
 refine qm hnt rfl rfl ?_
 refine r_end ?_
 refine q_then ?_
 refine w_block ?_
 refine w_seq ?_
 refine w_seq ?_
 refine w_R ?_
 refine qo hnt rfl (s_eql rfl rfl ?_)
 refine qa hnt rfl rfl ?_
 refine r_end ?_
 refine q_then ?_
 refine w_if rfl (fun c1 => ?_) (fun c1 => ?_)
 ·
  have c1_ := c1
  try simp only [sB] at c1
  refine w_skip ?_
  refine q_then ?_
  refine w_if rfl (fun _ => ?_) (fun e => absurd (e.symm.trans c1_) (by decide))
  refine w_seq ?_
  refine w_R ?_
  refine qa hnt rfl rfl ?_
  refine r_end ?_
  refine q_then ?_
  refine w_le (s := 2) (y := pT (usesS n)) rfl (le_of_eq (congrArg (fun z : List UInt8 => pT z) (show ([97, 99] : List UInt8) = (usesS n) by first | (simp [usesS, *]; done) | simp [usesS, *]))) ?_
  refine w_ret ?_
  refine q_block_ret ?_
  refine q_then_ret ?_
  exact fin_plain (ret_tmp rfl ret_nil) rfl rfl ⟨rfl, rfl, rfl⟩
 ·
  have c1_ := c1
  try simp only [sB] at c1
  refine w_seq ?_
  refine w_R ?_
  refine qo hnt rfl (s_eql rfl rfl ?_)
  refine qa hnt rfl rfl ?_
  refine r_end ?_
  refine q_then ?_
  refine w_if rfl (fun c2 => ?_) (fun c2 => ?_)
  ·
   have c2_ := c2
   try simp only [sB] at c2
   refine w_skip ?_
   refine q_then ?_
   refine w_if rfl (fun _ => ?_) (fun e => absurd (e.symm.trans c2_) (by decide))
   refine w_seq ?_
   refine w_R ?_
   refine qa hnt rfl rfl ?_
   refine r_end ?_
   refine q_then ?_
   refine w_le (s := 2) (y := pT (usesS n)) rfl (le_of_eq (congrArg (fun z : List UInt8 => pT z) (show ([97, 99] : List UInt8) = (usesS n) by first | (simp [usesS, *]; done) | simp [usesS, *]))) ?_
   refine w_ret ?_
   refine q_block_ret ?_
   refine q_then_ret ?_
   exact fin_plain (ret_tmp rfl ret_nil) rfl rfl ⟨rfl, rfl, rfl⟩
  ·
   have c2_ := c2
   try simp only [sB] at c2
   refine w_seq ?_
   refine w_R ?_
   refine qo hnt rfl (s_eql rfl rfl ?_)
   refine qa hnt rfl rfl ?_
   refine r_end ?_
   refine q_then ?_
   refine w_if rfl (fun c3 => ?_) (fun c3 => ?_)
   ·
    have c3_ := c3
    try simp only [sB] at c3
    refine w_skip ?_
    refine q_then ?_
    refine w_if rfl (fun _ => ?_) (fun e => absurd (e.symm.trans c3_) (by decide))
    refine w_seq ?_
    refine w_R ?_
    refine qa hnt rfl rfl ?_
    refine r_end ?_
    refine q_then ?_
    refine w_le (s := 2) (y := pT (usesS n)) rfl (le_of_eq (congrArg (fun z : List UInt8 => pT z) (show ([97, 99] : List UInt8) = (usesS n) by first | (simp [usesS, *]; done) | simp [usesS, *]))) ?_
    refine w_ret ?_
    refine q_block_ret ?_
    refine q_then_ret ?_
    exact fin_plain (ret_tmp rfl ret_nil) rfl rfl ⟨rfl, rfl, rfl⟩
   ·
    have c3_ := c3
    try simp only [sB] at c3
    refine w_R ?_
    refine qo hnt rfl (s_eql rfl rfl ?_)
    refine qa hnt rfl rfl ?_
    refine r_end ?_
    refine q_then ?_
    refine w_if rfl (fun c4 => ?_) (fun c4 => ?_)
    ·
     have c4_ := c4
     try simp only [sB] at c4
     refine w_seq ?_
     refine w_R ?_
     refine qa hnt rfl rfl ?_
     refine r_end ?_
     refine q_then ?_
     refine w_le (s := 2) (y := pT (usesS n)) rfl (le_of_eq (congrArg (fun z : List UInt8 => pT z) (show ([97, 99] : List UInt8) = (usesS n) by first | (simp [usesS, *]; done) | simp [usesS, *]))) ?_
     refine w_ret ?_
     refine q_block_ret ?_
     refine q_then_ret ?_
     exact fin_plain (ret_tmp rfl ret_nil) rfl rfl ⟨rfl, rfl, rfl⟩
    ·
     have c4_ := c4
     try simp only [sB] at c4
     refine w_seq ?_
     refine w_R ?_
     refine qo hnt rfl (s_eql rfl rfl ?_)
     refine qa hnt rfl rfl ?_
     refine r_end ?_
     refine q_then ?_
     refine w_if rfl (fun c5 => ?_) (fun c5 => ?_)
     ·
      have c5_ := c5
      try simp only [sB] at c5
      refine w_seq ?_
      refine w_R ?_
      refine qa hnt rfl rfl ?_
      refine r_end ?_
      refine q_then ?_
      refine w_le (s := 2) (y := pT (usesS n)) rfl (le_of_eq (congrArg (fun z : List UInt8 => pT z) (show ([97, 98] : List UInt8) = (usesS n) by first | (simp [usesS, *]; done) | simp [usesS, *]))) ?_
      refine w_ret ?_
      refine q_block_ret ?_
      refine q_then_ret ?_
      exact fin_plain (ret_tmp rfl ret_nil) rfl rfl ⟨rfl, rfl, rfl⟩
     ·
      have c5_ := c5
      try simp only [sB] at c5
      refine w_seq ?_
      refine w_R ?_
      refine qo hnt rfl (s_eql rfl rfl ?_)
      refine qa hnt rfl rfl ?_
      refine r_end ?_
      refine q_then ?_
      refine w_if rfl (fun c6 => ?_) (fun c6 => ?_)
      ·
       have c6_ := c6
       try simp only [sB] at c6
       refine w_seq ?_
       refine w_R ?_
       refine qa hnt rfl rfl ?_
       refine r_end ?_
       refine q_then ?_
       refine w_le (s := 2) (y := pT (usesS n)) rfl (le_of_eq (congrArg (fun z : List UInt8 => pT z) (show ([97, 118] : List UInt8) = (usesS n) by first | (simp [usesS, *]; done) | simp [usesS, *]))) ?_
       refine w_ret ?_
       refine q_block_ret ?_
       refine q_then_ret ?_
       exact fin_plain (ret_tmp rfl ret_nil) rfl rfl ⟨rfl, rfl, rfl⟩
      ·
       have c6_ := c6
       try simp only [sB] at c6
       refine w_seq ?_
       refine w_R ?_
       refine qo hnt rfl (s_eql rfl rfl ?_)
       refine qa hnt rfl rfl ?_
       refine r_end ?_
       refine q_then ?_
       refine w_if rfl (fun c7 => ?_) (fun c7 => ?_)
       ·
        have c7_ := c7
        try simp only [sB] at c7
        refine w_seq ?_
        refine w_R ?_
        refine qa hnt rfl rfl ?_
        refine r_end ?_
        refine q_then ?_
        refine w_le (s := 2) (y := pT (usesS n)) rfl (le_of_eq (congrArg (fun z : List UInt8 => pT z) (show ([115, 118] : List UInt8) = (usesS n) by first | (simp [usesS, *]; done) | simp [usesS, *]))) ?_
        refine w_ret ?_
        refine q_block_ret ?_
        refine q_then_ret ?_
        exact fin_plain (ret_tmp rfl ret_nil) rfl rfl ⟨rfl, rfl, rfl⟩
       ·
        have c7_ := c7
        try simp only [sB] at c7
        refine w_seq ?_
        refine w_R ?_
        refine qo hnt rfl (s_eql rfl rfl ?_)
        refine qa hnt rfl rfl ?_
        refine r_end ?_
        refine q_then ?_
        refine w_if rfl (fun c8 => ?_) (fun c8 => ?_)
        ·
         have c8_ := c8
         try simp only [sB] at c8
         refine w_seq ?_
         refine w_R ?_
         refine qa hnt rfl rfl ?_
         refine r_end ?_
         refine q_then ?_
         refine w_le (s := 2) (y := pT (usesS n)) rfl (le_of_eq (congrArg (fun z : List UInt8 => pT z) (show ([97, 99, 98] : List UInt8) = (usesS n) by first | (simp [usesS, *]; done) | simp [usesS, *]))) ?_
         refine w_ret ?_
         refine q_block_ret ?_
         refine q_then_ret ?_
         exact fin_plain (ret_tmp rfl ret_nil) rfl rfl ⟨rfl, rfl, rfl⟩
        ·
         have c8_ := c8
         try simp only [sB] at c8
         refine w_seq ?_
         refine w_R ?_
         refine qo hnt rfl (s_eql rfl rfl ?_)
         refine qa hnt rfl rfl ?_
         refine r_end ?_
         refine q_then ?_
         refine w_if rfl (fun c9 => ?_) (fun c9 => ?_)
         ·
          have c9_ := c9
          try simp only [sB] at c9
          refine w_seq ?_
          refine w_R ?_
          refine qa hnt rfl rfl ?_
          refine r_end ?_
          refine q_then ?_
          refine w_le (s := 2) (y := pT (usesS n)) rfl (le_of_eq (congrArg (fun z : List UInt8 => pT z) (show ([97, 99, 118] : List UInt8) = (usesS n) by first | (simp [usesS, *]; done) | simp [usesS, *]))) ?_
          refine w_ret ?_
          refine q_block_ret ?_
          refine q_then_ret ?_
          exact fin_plain (ret_tmp rfl ret_nil) rfl rfl ⟨rfl, rfl, rfl⟩
         ·
          have c9_ := c9
          try simp only [sB] at c9
          refine w_seq ?_
          refine w_R ?_
          refine qo hnt rfl (s_eql rfl rfl ?_)
          refine qa hnt rfl rfl ?_
          refine r_end ?_
          refine q_then ?_
          refine w_if rfl (fun c10 => ?_) (fun c10 => ?_)
          ·
           have c10_ := c10
           try simp only [sB] at c10
           refine w_seq ?_
           refine w_R ?_
           refine qa hnt rfl rfl ?_
           refine r_end ?_
           refine q_then ?_
           refine w_le (s := 2) (y := pT (usesS n)) rfl (le_of_eq (congrArg (fun z : List UInt8 => pT z) (show ([97, 109] : List UInt8) = (usesS n) by first | (simp [usesS, *]; done) | simp [usesS, *]))) ?_
           refine w_ret ?_
           refine q_block_ret ?_
           refine q_then_ret ?_
           exact fin_plain (ret_tmp rfl ret_nil) rfl rfl ⟨rfl, rfl, rfl⟩
          ·
           have c10_ := c10
           try simp only [sB] at c10
           refine w_seq ?_
           refine w_R ?_
           refine qo hnt rfl (s_eql rfl rfl ?_)
           refine qa hnt rfl rfl ?_
           refine r_end ?_
           refine q_then ?_
           refine w_if rfl (fun c11 => ?_) (fun c11 => ?_)
           ·
            have c11_ := c11
            try simp only [sB] at c11
            refine w_seq ?_
            refine w_R ?_
            refine qa hnt rfl rfl ?_
            refine r_end ?_
            refine q_then ?_
            refine w_le (s := 2) (y := pT (usesS n)) rfl (le_of_eq (congrArg (fun z : List UInt8 => pT z) (show ([97, 99, 119, 118] : List UInt8) = (usesS n) by first | (simp [usesS, *]; done) | simp [usesS, *]))) ?_
            refine w_ret ?_
            refine q_block_ret ?_
            refine q_then_ret ?_
            exact fin_plain (ret_tmp rfl ret_nil) rfl rfl ⟨rfl, rfl, rfl⟩
           ·
            have c11_ := c11
            try simp only [sB] at c11
            refine w_skip ?_
            refine q_block ?_
            refine q_then ?_
            refine w_seq ?_
            refine w_R ?_
            refine qa hnt rfl rfl ?_
            refine r_end ?_
            refine q_then ?_
            refine w_le (s := 2) (y := pT (usesS n)) rfl (le_of_eq (congrArg (fun z : List UInt8 => pT z) (show ([] : List UInt8) = (usesS n) by first | (simp [usesS, *]; done) | simp [usesS, *]))) ?_
            refine w_ret ?_
            exact fin_plain (ret_tmp rfl ret_nil) rfl rfl ⟨rfl, rfl, rfl⟩

theorem w_burgageref3_in (s : List UInt8) (ch : UInt8) (hs : s.length ≤ 140737488351232) :
    T Try.prog 68 [pT s, p8 ch] 0 [] (Ret (pB (inS s ch)) 0 []) := by
 refine t_fun tabOk (n := 17) (rs := [.tmp 4]) Try.func68 rfl rfl rfl rfl (Nat.le_of_ble_eq_true rfl) ?_
 intro c hnt hk
 refine w_seq ?_
 refine w_R ?_
 refine qa hnt rfl rfl ?_
 refine r_end ?_
 refine q_then ?_
 refine w_seq ?_
 refine w_seq ?_
 refine w_R ?_
 refine qa hnt rfl rfl ?_
 refine r_end ?_
 refine q_then ?_
 refine w_block ?_
 refine loop1 (fun (i : Nat) => i ≤ s.length ∧ ∀ x ∈ s.take i, x ≠ ch) (fun (i : Nat) => [(0, pT s), (1, p8 ch), (5, pN i)]) 0 (fun (i : Nat) => []) (fun (i : Nat) => s.length - i) (0) ?_ ⟨[], rfl, ⟨⟨_, rfl, rfl, rfl⟩, ⟨_, rfl, rfl, rfl⟩, ⟨_, rfl, rfl, rfl⟩, trivial⟩, trivial, by rw [hk]; decide⟩ ?_
 · exact ⟨Nat.zero_le _, by simp⟩
 ·
  intro i hI
  obtain ⟨hi, hn⟩ := hI
  refine w_seq ?_
  refine w_seq ?_
  refine w_R ?_
  refine qm hnt rfl rfl ?_
  refine qm hnt rfl rfl ?_
  refine qo hnt rfl (s_lenT (l := s) tab_9 rfl rfl ?_)
  refine qo hnt rfl (s_lss rfl rfl ?_)
  refine r_end ?_
  refine q_then ?_
  refine w_if rfl (fun c1 => ?_) (fun c1 => ?_)
  ·
   have c1_ := c1
   try simp only [sB] at c1
   refine w_skip ?_
   refine q_then ?_
   refine w_seq ?_
   refine w_block ?_
   refine w_seq ?_
   refine w_R ?_
   refine qm hnt rfl rfl ?_
   refine qm hnt rfl rfl ?_
   obtain ⟨e1, he1⟩ := get_of_lt s (i := i) (by omega)
   refine qo hnt rfl (s_idxM (q := i) (b := e1) (s := s) tab_9 rfl rfl (by omega) rfl he1 ?_)
   refine qm hnt rfl rfl ?_
   refine qo hnt rfl (s_eql8 (a := e1) (b := ch) rfl rfl ?_)
   refine r_end ?_
   refine q_then ?_
   refine w_if rfl (fun c2 => ?_) (fun c2 => ?_)
   ·
    have c2_ := c2
    try simp only [sB] at c2
    refine w_seq ?_
    refine w_R ?_
    refine qa hnt rfl rfl ?_
    refine r_end ?_
    refine q_then ?_
    refine w_le (s := 4) (y := pB (inS s ch)) rfl (le_of_eq (congrArg (fun z : Bool => pB z) (show true = (inS s ch) by unfold inS; exact (decide_eq_true (by rw [← (by simpa using c2 : e1 = ch)]; exact List.mem_of_getElem? he1)).symm))) ?_
    refine w_ret ?_
    refine q_block_ret ?_
    refine q_then_ret ?_
    refine q_then_ret ?_
    refine q_block_ret ?_
    refine q_then_ret ?_
    exact fin_plain (ret_tmp rfl ret_nil) rfl rfl ⟨rfl, rfl, rfl⟩
   ·
    have c2_ := c2
    try simp only [sB] at c2
    refine w_skip ?_
    refine q_block ?_
    refine q_then ?_
    refine w_R ?_
    refine qm hnt rfl rfl ?_
    refine qo hnt rfl (s_addN (a := i) (b := 1) rfl rfl (by omega) (by omega) (by omega) ?_)
    refine qa hnt rfl rfl ?_
    refine r_end ?_
    refine q_then ?_
    refine ⟨(i + 1), ?_, ?_, ⟨[], rfl, ⟨⟨_, rfl, rfl, rfl⟩, ⟨_, rfl, rfl, rfl⟩, ⟨_, rfl, rfl, rfl⟩, trivial⟩, trivial, by rw [hk]; decide⟩⟩
    ·
     refine ⟨by omega, fun x hx => ?_⟩
     rw [List.take_add_one, he1] at hx
     rcases List.mem_append.1 hx with h | h
     · exact hn x h
     · simp at h; subst h; simpa using c2
    · omega
  ·
   have c1_ := c1
   try simp only [sB] at c1
   have hn2 : ∀ x ∈ s, x ≠ ch := by rw [List.take_of_length_le (by omega)] at hn; exact hn
   refine w_exit ?_
   refine q_then_exit ?_
   refine q_then_exit ?_
   refine q_block_exit ?_
   refine q_then ?_
   refine w_seq ?_
   refine w_R ?_
   refine qa hnt rfl rfl ?_
   refine r_end ?_
   refine q_then ?_
   refine w_le (s := 4) (y := pB (inS s ch)) rfl (le_of_eq (congrArg (fun z : Bool => pB z) (show false = (inS s ch) by unfold inS; exact (decide_eq_false (fun h => hn2 _ h rfl)).symm))) ?_
   refine w_ret ?_
   exact fin_plain (ret_tmp rfl ret_nil) rfl rfl ⟨rfl, rfl, rfl⟩

theorem w_burgageref3_lists (r : TRequest) (hb : r.bits.length ≤ 140737488351232) (hv : r.vals.length ≤ 140737488351232) :
    T Try.prog 70 [PV.f (eRequest r)] 0 [] (Ret (pB (listsR r)) 0 []) := by
 refine t_fun tabOk (n := 46) (rs := [.tmp 2]) Try.func70 rfl rfl rfl rfl (Nat.le_of_ble_eq_true rfl) ?_
 intro c hnt hk
 refine w_seq ?_
 refine w_R ?_
 refine qo hnt rfl (s_box rfl rfl ?_)
 refine qa hnt rfl rfl ?_
 refine r_set [(1, PV.ptr 0 0)] [(0, .obj [pI r.fn, pI r.at_, pI r.count, pI r.wAt, pI r.sub, pS 1 false encBo r.bits, pS 1 false enc16 r.vals, p16 r.and_, p16 r.or_])] 1 ⟨rfl, trivial⟩ rfl rfl ?_
 refine r_end ?_
 refine q_then ?_
 refine w_seq ?_
 refine W_drawn tabOk mixed hnt [[], [0], [0, 1], [], [3], [3, 4], [0, 1, 2], [0, 1, 2, 3, 4, 5, 6]] (by kernel_rfl) ?_
 refine d_op ?_
 refine x_run0 [(1, PV.ptr 0 0)] [] rfl rfl rfl rfl (s_fa_ptr tab_32 rfl rfl tab_28 (by decide) rfl ⟨rfl, rfl, rfl⟩) ?_
 refine d_op ?_
 refine x_run [(5, PV.ptr 0 5)] [0] [(0, .obj [pI r.fn, pI r.at_, pI r.count, pI r.wAt, pI r.sub, pS 1 false encBo r.bits, pS 1 false enc16 r.vals, p16 r.and_, p16 r.or_])] [] [(0, .obj [pI r.fn, pI r.at_, pI r.count, pI r.wAt, pI r.sub, pS 1 false encBo r.bits, pS 1 false enc16 r.vals, p16 r.and_, p16 r.or_])] [] [(0, .obj [pI r.fn, pI r.at_, pI r.count, pI r.wAt, pI r.sub, pS 1 false encBo r.bits, pS 1 false enc16 r.vals, p16 r.and_, p16 r.or_])] rfl rfl rfl rfl rfl rfl (s_load_ptr1 tab_28 rfl rfl rfl rfl rfl ⟨rfl, rfl, rfl⟩) rfl ⟨rfl, trivial⟩ rfl rfl ?_
 refine d_op ?_
 refine x_run0 [(6, pS 1 false encBo r.bits)] [0, 1] rfl rfl rfl rfl (s_lenM (l := r.bits) tab_28 rfl (hM_sl (f := encBo) rfl) ⟨rfl, rfl, rfl⟩) ?_
 refine d_op ?_
 refine x_run0 [(1, PV.ptr 0 0)] [] rfl rfl rfl rfl (s_fa_ptr tab_32 rfl rfl tab_29 (by decide) rfl ⟨rfl, rfl, rfl⟩) ?_
 refine d_op ?_
 refine x_run [(8, PV.ptr 0 6)] [3] [(0, .obj [pI r.fn, pI r.at_, pI r.count, pI r.wAt, pI r.sub, pS 1 false encBo r.bits, pS 1 false enc16 r.vals, p16 r.and_, p16 r.or_])] [] [(0, .obj [pI r.fn, pI r.at_, pI r.count, pI r.wAt, pI r.sub, pS 1 false encBo r.bits, pS 1 false enc16 r.vals, p16 r.and_, p16 r.or_])] [] [(0, .obj [pI r.fn, pI r.at_, pI r.count, pI r.wAt, pI r.sub, pS 1 false encBo r.bits, pS 1 false enc16 r.vals, p16 r.and_, p16 r.or_])] rfl rfl rfl rfl rfl rfl (s_load_ptr1 tab_29 rfl rfl rfl rfl rfl ⟨rfl, rfl, rfl⟩) rfl ⟨rfl, trivial⟩ rfl rfl ?_
 refine d_op ?_
 refine x_run0 [(9, pS 1 false enc16 r.vals)] [3, 4] rfl rfl rfl rfl (s_lenM (l := r.vals) tab_29 rfl (hM_sl (f := enc16) rfl) ⟨rfl, rfl, rfl⟩) ?_
 refine d_op ?_
 refine x_run0 [(7, pN r.bits.length)] [0, 1, 2] rfl rfl rfl rfl (s_assign rfl ⟨rfl, rfl, rfl⟩) ?_
 refine d_op ?_
 refine x_run0 [(10, pN r.vals.length)] [0, 1, 2, 3, 4, 5, 6] rfl rfl rfl rfl (s_assign rfl ⟨rfl, rfl, rfl⟩) ?_
 refine d_end ⟨by kernel_rfl, ?_⟩
 refine q_then ?_
 refine w_seq ?_
 refine w_seq ?_
 refine w_R ?_
 refine qo hnt rfl (s_fa_ptr tab_32 rfl rfl tab_3 (by decide) rfl ?_)
 refine qo hnt rfl (s_load_ptr1 tab_3 rfl rfl rfl rfl rfl ?_)
 refine r_end ?_
 refine q_then ?_
 refine w_block ?_
 refine w_seq ?_
 refine w_R ?_
 refine qo hnt rfl (s_eql rfl rfl ?_)
 refine qa hnt rfl rfl ?_
 refine r_end ?_
 refine q_then ?_
 refine w_if rfl (fun c1 => ?_) (fun c1 => ?_)
 ·
  have c1_ := c1
  try simp only [sB] at c1
  refine w_seq ?_
  refine w_R ?_
  refine qm hnt rfl rfl ?_
  refine qo hnt rfl (s_eql rfl rfl ?_)
  refine qa hnt rfl rfl ?_
  refine r_end ?_
  refine q_then ?_
  refine w_le (s := 2) (y := pB (listsR r)) rfl (le_of_eq (congrArg (fun z : Bool => pB z) (show (decide (((r.bits.length : Nat) : Int) = 1)) = (listsR r) by first | exact (listsR_5 (by assumption)).symm | exact (listsR_6 (by assumption)).symm | exact (listsR_8 (by assumption)).symm | exact (listsR_15 (by assumption)).symm | exact (listsR_16 (by assumption)).symm | exact (listsR_23 (by assumption)).symm | exact (listsR_no (by omega)).symm))) ?_
  refine w_ret ?_
  refine q_block_ret ?_
  refine q_then_ret ?_
  exact fin_plain (ret_tmp rfl ret_nil) rfl rfl ⟨rfl, rfl, rfl⟩
 ·
  have c1_ := c1
  try simp only [sB] at c1
  refine w_seq ?_
  refine w_seq ?_
  refine w_R ?_
  refine qo hnt rfl (s_eql rfl rfl ?_)
  refine qa hnt rfl rfl ?_
  refine r_end ?_
  refine q_then ?_
  refine w_if rfl (fun c2 => ?_) (fun c2 => ?_)
  ·
   have c2_ := c2
   try simp only [sB] at c2
   refine w_skip ?_
   refine q_then ?_
   refine w_if rfl (fun _ => ?_) (fun e => absurd (e.symm.trans c2_) (by decide))
   refine w_seq ?_
   refine w_R ?_
   refine qm hnt rfl rfl ?_
   refine qo hnt rfl (s_eql rfl rfl ?_)
   refine qa hnt rfl rfl ?_
   refine r_end ?_
   refine q_then ?_
   refine w_le (s := 2) (y := pB (listsR r)) rfl (le_of_eq (congrArg (fun z : Bool => pB z) (show (decide (((r.vals.length : Nat) : Int) = 1)) = (listsR r) by first | exact (listsR_5 (by assumption)).symm | exact (listsR_6 (by assumption)).symm | exact (listsR_8 (by assumption)).symm | exact (listsR_15 (by assumption)).symm | exact (listsR_16 (by assumption)).symm | exact (listsR_23 (by assumption)).symm | exact (listsR_no (by omega)).symm))) ?_
   refine w_ret ?_
   refine q_block_ret ?_
   refine q_then_ret ?_
   exact fin_plain (ret_tmp rfl ret_nil) rfl rfl ⟨rfl, rfl, rfl⟩
  ·
   have c2_ := c2
   try simp only [sB] at c2
   refine w_R ?_
   refine qo hnt rfl (s_eql rfl rfl ?_)
   refine qa hnt rfl rfl ?_
   refine r_end ?_
   refine q_then ?_
   refine w_if rfl (fun c3 => ?_) (fun c3 => ?_)
   ·
    have c3_ := c3
    try simp only [sB] at c3
    refine w_seq ?_
    refine w_R ?_
    refine qm hnt rfl rfl ?_
    refine qo hnt rfl (s_eql rfl rfl ?_)
    refine qa hnt rfl rfl ?_
    refine r_end ?_
    refine q_then ?_
    refine w_le (s := 2) (y := pB (listsR r)) rfl (le_of_eq (congrArg (fun z : Bool => pB z) (show (decide (((r.vals.length : Nat) : Int) = 1)) = (listsR r) by first | exact (listsR_5 (by assumption)).symm | exact (listsR_6 (by assumption)).symm | exact (listsR_8 (by assumption)).symm | exact (listsR_15 (by assumption)).symm | exact (listsR_16 (by assumption)).symm | exact (listsR_23 (by assumption)).symm | exact (listsR_no (by omega)).symm))) ?_
    refine w_ret ?_
    refine q_block_ret ?_
    refine q_then_ret ?_
    exact fin_plain (ret_tmp rfl ret_nil) rfl rfl ⟨rfl, rfl, rfl⟩
   ·
    have c3_ := c3
    try simp only [sB] at c3
    refine w_seq ?_
    refine w_R ?_
    refine qo hnt rfl (s_eql rfl rfl ?_)
    refine qa hnt rfl rfl ?_
    refine r_end ?_
    refine q_then ?_
    refine w_if rfl (fun c4 => ?_) (fun c4 => ?_)
    ·
     have c4_ := c4
     try simp only [sB] at c4
     refine w_seq ?_
     refine w_R ?_
     refine qm hnt rfl rfl ?_
     refine qo hnt rfl (s_fa_ptr tab_32 rfl rfl tab_3 (by decide) rfl ?_)
     refine qo hnt rfl (s_load_ptr1 tab_3 rfl rfl rfl rfl rfl ?_)
     refine qo hnt rfl (s_eql rfl rfl ?_)
     refine qm hnt rfl rfl ?_
     refine r_cut0 3 [(31, pB ((decide (((r.bits.length : Nat) : Int) = r.count)) && (decide (((r.bits.length : Nat) : Int) ≤ 2040))))] ?_ ?_
     ·
      refine r_if tabOk hnt rfl rfl rfl (fun g1 => ?_) (fun g1 => ?_)
      ·
       have g1' := g1
       try simp only [sB] at g1'
       refine qm hnt rfl rfl ?_
       refine ry hnt rfl rfl rfl g1 ?_
       refine qo hnt rfl (s_leq rfl rfl ?_)
       refine qo hnt rfl (s_pick_t rfl g1 rfl ?_)
       refine r_eq (s := 31) (y := pB ((decide (((r.bits.length : Nat) : Int) = r.count)) && (decide (((r.bits.length : Nat) : Int) ≤ 2040)))) rfl (mix_at g1) ?_
       exact r_mid ⟨⟨rfl, trivial⟩, rfl, rfl⟩
      ·
       have g1' := g1
       try simp only [sB] at g1'
       refine rn hnt rfl rfl rfl g1 ?_
       refine qo hnt rfl (s_pick_f rfl g1 rfl ?_)
       refine r_eq (s := 31) (y := pB ((decide (((r.bits.length : Nat) : Int) = r.count)) && (decide (((r.bits.length : Nat) : Int) ≤ 2040)))) rfl (mix_af _ g1) ?_
       exact r_mid ⟨⟨rfl, trivial⟩, rfl, rfl⟩
     ·
      refine qa hnt rfl rfl ?_
      refine r_end ?_
      refine q_then ?_
      refine w_le (s := 2) (y := pB (listsR r)) rfl (le_of_eq (congrArg (fun z : Bool => pB z) (show ((decide (((r.bits.length : Nat) : Int) = r.count)) && (decide (((r.bits.length : Nat) : Int) ≤ 2040))) = (listsR r) by first | exact (listsR_5 (by assumption)).symm | exact (listsR_6 (by assumption)).symm | exact (listsR_8 (by assumption)).symm | exact (listsR_15 (by assumption)).symm | exact (listsR_16 (by assumption)).symm | exact (listsR_23 (by assumption)).symm | exact (listsR_no (by omega)).symm))) ?_
      refine w_ret ?_
      refine q_block_ret ?_
      refine q_then_ret ?_
      exact fin_plain (ret_tmp rfl ret_nil) rfl rfl ⟨rfl, rfl, rfl⟩
    ·
     have c4_ := c4
     try simp only [sB] at c4
     refine w_seq ?_
     refine w_R ?_
     refine qo hnt rfl (s_eql rfl rfl ?_)
     refine qa hnt rfl rfl ?_
     refine r_end ?_
     refine q_then ?_
     refine w_if rfl (fun c5 => ?_) (fun c5 => ?_)
     ·
      have c5_ := c5
      try simp only [sB] at c5
      refine w_seq ?_
      refine w_R ?_
      refine qm hnt rfl rfl ?_
      refine qo hnt rfl (s_fa_ptr tab_32 rfl rfl tab_3 (by decide) rfl ?_)
      refine qo hnt rfl (s_load_ptr1 tab_3 rfl rfl rfl rfl rfl ?_)
      refine qo hnt rfl (s_eql rfl rfl ?_)
      refine qm hnt rfl rfl ?_
      refine r_cut0 3 [(41, pB ((decide (((r.vals.length : Nat) : Int) = r.count)) && (decide (((r.vals.length : Nat) : Int) ≤ 127))))] ?_ ?_
      ·
       refine r_if tabOk hnt rfl rfl rfl (fun g2 => ?_) (fun g2 => ?_)
       ·
        have g2' := g2
        try simp only [sB] at g2'
        refine qm hnt rfl rfl ?_
        refine ry hnt rfl rfl rfl g2 ?_
        refine qo hnt rfl (s_leq rfl rfl ?_)
        refine qo hnt rfl (s_pick_t rfl g2 rfl ?_)
        refine r_eq (s := 41) (y := pB ((decide (((r.vals.length : Nat) : Int) = r.count)) && (decide (((r.vals.length : Nat) : Int) ≤ 127)))) rfl (mix_at g2) ?_
        exact r_mid ⟨⟨rfl, trivial⟩, rfl, rfl⟩
       ·
        have g2' := g2
        try simp only [sB] at g2'
        refine rn hnt rfl rfl rfl g2 ?_
        refine qo hnt rfl (s_pick_f rfl g2 rfl ?_)
        refine r_eq (s := 41) (y := pB ((decide (((r.vals.length : Nat) : Int) = r.count)) && (decide (((r.vals.length : Nat) : Int) ≤ 127)))) rfl (mix_af _ g2) ?_
        exact r_mid ⟨⟨rfl, trivial⟩, rfl, rfl⟩
      ·
       refine qa hnt rfl rfl ?_
       refine r_end ?_
       refine q_then ?_
       refine w_le (s := 2) (y := pB (listsR r)) rfl (le_of_eq (congrArg (fun z : Bool => pB z) (show ((decide (((r.vals.length : Nat) : Int) = r.count)) && (decide (((r.vals.length : Nat) : Int) ≤ 127))) = (listsR r) by first | exact (listsR_5 (by assumption)).symm | exact (listsR_6 (by assumption)).symm | exact (listsR_8 (by assumption)).symm | exact (listsR_15 (by assumption)).symm | exact (listsR_16 (by assumption)).symm | exact (listsR_23 (by assumption)).symm | exact (listsR_no (by omega)).symm))) ?_
       refine w_ret ?_
       refine q_block_ret ?_
       refine q_then_ret ?_
       exact fin_plain (ret_tmp rfl ret_nil) rfl rfl ⟨rfl, rfl, rfl⟩
     ·
      have c5_ := c5
      try simp only [sB] at c5
      refine w_seq ?_
      refine w_R ?_
      refine qo hnt rfl (s_eql rfl rfl ?_)
      refine qa hnt rfl rfl ?_
      refine r_end ?_
      refine q_then ?_
      refine w_if rfl (fun c6 => ?_) (fun c6 => ?_)
      ·
       have c6_ := c6
       try simp only [sB] at c6
       refine w_seq ?_
       refine w_R ?_
       refine qm hnt rfl rfl ?_
       refine qo hnt rfl (s_leq rfl rfl ?_)
       refine qa hnt rfl rfl ?_
       refine r_end ?_
       refine q_then ?_
       refine w_le (s := 2) (y := pB (listsR r)) rfl (le_of_eq (congrArg (fun z : Bool => pB z) (show (decide (((r.vals.length : Nat) : Int) ≤ 127)) = (listsR r) by first | exact (listsR_5 (by assumption)).symm | exact (listsR_6 (by assumption)).symm | exact (listsR_8 (by assumption)).symm | exact (listsR_15 (by assumption)).symm | exact (listsR_16 (by assumption)).symm | exact (listsR_23 (by assumption)).symm | exact (listsR_no (by omega)).symm))) ?_
       refine w_ret ?_
       refine q_block_ret ?_
       refine q_then_ret ?_
       exact fin_plain (ret_tmp rfl ret_nil) rfl rfl ⟨rfl, rfl, rfl⟩
      ·
       have c6_ := c6
       try simp only [sB] at c6
       refine w_skip ?_
       refine q_block ?_
       refine q_then ?_
       refine w_seq ?_
       refine w_R ?_
       refine qa hnt rfl rfl ?_
       refine r_end ?_
       refine q_then ?_
       refine w_le (s := 2) (y := pB (listsR r)) rfl (le_of_eq (congrArg (fun z : Bool => pB z) (show true = (listsR r) by first | exact (listsR_5 (by assumption)).symm | exact (listsR_6 (by assumption)).symm | exact (listsR_8 (by assumption)).symm | exact (listsR_15 (by assumption)).symm | exact (listsR_16 (by assumption)).symm | exact (listsR_23 (by assumption)).symm | exact (listsR_no (by omega)).symm))) ?_
       refine w_ret ?_
       exact fin_plain (ret_tmp rfl ret_nil) rfl rfl ⟨rfl, rfl, rfl⟩

theorem w_burgageref3_Right (r : TRequest) (hb : r.bits.length ≤ 140737488351232) (hv : r.vals.length ≤ 140737488351232) :
    T Try.prog 56 [PV.f (eRequest r)] 0 [] (Ret (pI (rightR r)) 0 []) := by
 refine t_fun tabOk (n := 113) (rs := [.tmp 2]) Try.func56 rfl rfl rfl rfl (Nat.le_of_ble_eq_true rfl) ?_
 intro c hnt hk
 refine w_seq ?_
 refine w_R ?_
 refine qo hnt rfl (s_box rfl rfl ?_)
 refine qa hnt rfl rfl ?_
 refine r_set [(1, PV.ptr 0 0)] [(0, .obj [pI r.fn, pI r.at_, pI r.count, pI r.wAt, pI r.sub, pS 1 false encBo r.bits, pS 1 false enc16 r.vals, p16 r.and_, p16 r.or_])] 1 ⟨rfl, trivial⟩ rfl rfl ?_
 refine r_end ?_
 refine q_then ?_
 refine w_seq ?_
 refine w_seq ?_
 refine w_R ?_
 refine qo hnt rfl (s_fa_ptr tab_32 rfl rfl tab_3 (by decide) rfl ?_)
 refine qo hnt rfl (s_load_ptr1 tab_3 rfl rfl rfl rfl rfl ?_)
 refine qo hnt rfl (s_callF rfl rfl rfl (w_burgageref3_Has r.fn) rfl ?_)
 refine qo hnt rfl (s_not rfl ?_)
 refine r_end ?_
 refine q_then ?_
 refine w_if rfl (fun c1 => ?_) (fun c1 => ?_)
 ·
  have c1_ := c1
  try simp only [sB] at c1
  refine w_seq ?_
  refine w_R ?_
  refine qa hnt rfl rfl ?_
  refine r_end ?_
  refine q_then ?_
  refine w_le (s := 2) (y := pI (rightR r)) rfl (le_of_eq (congrArg (fun z : Int => pI z) (show 15 = (rightR r) by exact (rightR_1 c1_).symm))) ?_
  refine w_ret ?_
  refine q_then_ret ?_
  exact fin_plain (ret_tmp rfl ret_nil) rfl rfl ⟨rfl, rfl, rfl⟩
 ·
  have c1_ := c1
  try simp only [sB] at c1
  refine w_skip ?_
  refine q_then ?_
  refine w_seq ?_
  refine w_R ?_
  refine qo hnt rfl (s_fa_ptr tab_32 rfl rfl tab_3 (by decide) rfl ?_)
  refine qo hnt rfl (s_load_ptr1 tab_3 rfl rfl rfl rfl rfl ?_)
  refine qo hnt rfl (s_callF rfl rfl rfl (w_burgageref3_uses r.fn) rfl ?_)
  refine qa hnt rfl rfl ?_
  refine r_end ?_
  refine q_then ?_
  refine w_seq ?_
  refine w_seq ?_
  refine w_R ?_
  refine qm hnt rfl rfl ?_
  refine qo hnt rfl (s_callF rfl rfl rfl (w_burgageref3_in (usesS r.fn) 97 (by have := usesS_len r.fn; omega)) rfl ?_)
  refine qo hnt rfl (s_not rfl ?_)
  refine qm hnt rfl rfl ?_
  refine r_cut0 4 [(1, PV.ptr 0 0), (3, pT (usesS r.fn)), (18, pB ((!(inS (usesS r.fn) 97)) && (!decide (r.at_ = 0))))] ?_ ?_
  ·
   refine r_if tabOk hnt rfl rfl rfl (fun g1 => ?_) (fun g1 => ?_)
   ·
    have g1' := g1
    try simp only [sB] at g1'
    refine qo hnt rfl (s_fa_ptr tab_32 rfl rfl tab_3 (by decide) rfl ?_)
    refine ry hnt rfl rfl rfl g1 ?_
    refine qo hnt rfl (s_load_ptr1 tab_3 rfl rfl rfl rfl rfl ?_)
    refine ry hnt rfl rfl rfl g1 ?_
    refine qo hnt rfl (s_neq rfl rfl ?_)
    refine qo hnt rfl (s_pick_t rfl g1 rfl ?_)
    refine r_eq (s := 18) (y := pB ((!(inS (usesS r.fn) 97)) && (!decide (r.at_ = 0)))) rfl (mix_at g1) ?_
    exact r_mid ⟨⟨rfl, rfl, rfl, trivial⟩, rfl, rfl⟩
   ·
    have g1' := g1
    try simp only [sB] at g1'
    refine rn hnt rfl rfl rfl g1 ?_
    refine rn hnt rfl rfl rfl g1 ?_
    refine qo hnt rfl (s_pick_f rfl g1 rfl ?_)
    refine r_eq (s := 18) (y := pB ((!(inS (usesS r.fn) 97)) && (!decide (r.at_ = 0)))) rfl (mix_af _ g1) ?_
    exact r_mid ⟨⟨rfl, rfl, rfl, trivial⟩, rfl, rfl⟩
  ·
   refine qm hnt rfl rfl ?_
   refine r_cut0 9 [(1, PV.ptr 0 0), (3, pT (usesS r.fn)), (28, pB (((!(inS (usesS r.fn) 97)) && (!decide (r.at_ = 0))) || ((!(inS (usesS r.fn) 99)) && (!decide (r.count = 0)))))] ?_ ?_
   ·
    refine r_if tabOk hnt rfl rfl rfl (fun g2 => ?_) (fun g2 => ?_)
    ·
     have g2' := g2
     try simp only [sB] at g2'
     refine qm hnt rfl rfl ?_
     refine ry hnt rfl rfl rfl g2 ?_
     refine qo hnt rfl (s_callF rfl rfl rfl (w_burgageref3_in (usesS r.fn) 99 (by have := usesS_len r.fn; omega)) rfl ?_)
     refine ry hnt rfl rfl rfl g2 ?_
     refine qo hnt rfl (s_not rfl ?_)
     refine ry hnt rfl rfl rfl g2 ?_
     refine qm hnt rfl rfl ?_
     refine r_cut0 4 [(1, PV.ptr 0 0), (3, pT (usesS r.fn)), (19, pB ((!(inS (usesS r.fn) 97)) && (!decide (r.at_ = 0)))), (27, pB ((!(inS (usesS r.fn) 99)) && (!decide (r.count = 0))))] ?_ ?_
     ·
      refine r_if tabOk hnt rfl rfl rfl (fun g3 => ?_) (fun g3 => ?_)
      ·
       have g3' := g3
       try simp only [sB] at g3'
       refine qo hnt rfl (s_fa_ptr tab_32 rfl rfl tab_3 (by decide) rfl ?_)
       refine ry hnt rfl rfl rfl g3 ?_
       refine qo hnt rfl (s_load_ptr1 tab_3 rfl rfl rfl rfl rfl ?_)
       refine ry hnt rfl rfl rfl g3 ?_
       refine qo hnt rfl (s_neq rfl rfl ?_)
       refine ry hnt rfl rfl rfl g2 ?_
       refine qo hnt rfl (s_pick_t rfl g3 rfl ?_)
       refine r_eq (s := 27) (y := pB ((!(inS (usesS r.fn) 99)) && (!decide (r.count = 0)))) rfl (mix_at g3) ?_
       exact r_mid ⟨⟨rfl, rfl, rfl, rfl, trivial⟩, rfl, rfl⟩
      ·
       have g3' := g3
       try simp only [sB] at g3'
       refine rn hnt rfl rfl rfl g3 ?_
       refine rn hnt rfl rfl rfl g3 ?_
       refine ry hnt rfl rfl rfl g2 ?_
       refine qo hnt rfl (s_pick_f rfl g3 rfl ?_)
       refine r_eq (s := 27) (y := pB ((!(inS (usesS r.fn) 99)) && (!decide (r.count = 0)))) rfl (mix_af _ g3) ?_
       exact r_mid ⟨⟨rfl, rfl, rfl, rfl, trivial⟩, rfl, rfl⟩
     ·
      refine qo hnt rfl (s_pick_f rfl g2 rfl ?_)
      refine r_eq (s := 28) (y := pB (((!(inS (usesS r.fn) 97)) && (!decide (r.at_ = 0))) || ((!(inS (usesS r.fn) 99)) && (!decide (r.count = 0))))) rfl (mix_of g2) ?_
      exact r_mid ⟨⟨rfl, rfl, rfl, trivial⟩, rfl, rfl⟩
    ·
     have g2' := g2
     try simp only [sB] at g2'
     refine rn hnt rfl rfl rfl g2 ?_
     refine rn hnt rfl rfl rfl g2 ?_
     refine rn hnt rfl rfl rfl g2 ?_
     refine ru hnt rfl rfl rfl ?_
     refine ru hnt rfl rfl rfl ?_
     refine ru hnt rfl rfl rfl ?_
     refine rn hnt rfl rfl rfl g2 ?_
     refine qo hnt rfl (s_pick_t rfl g2 rfl ?_)
     refine r_eq (s := 28) (y := pB (((!(inS (usesS r.fn) 97)) && (!decide (r.at_ = 0))) || ((!(inS (usesS r.fn) 99)) && (!decide (r.count = 0))))) rfl (mix_ot _ g2) ?_
     exact r_mid ⟨⟨rfl, rfl, rfl, trivial⟩, rfl, rfl⟩
   ·
    refine qm hnt rfl rfl ?_
    refine r_cut0 9 [(1, PV.ptr 0 0), (3, pT (usesS r.fn)), (38, pB ((((!(inS (usesS r.fn) 97)) && (!decide (r.at_ = 0))) || ((!(inS (usesS r.fn) 99)) && (!decide (r.count = 0)))) || ((!(inS (usesS r.fn) 119)) && (!decide (r.wAt = 0)))))] ?_ ?_
    ·
     refine r_if tabOk hnt rfl rfl rfl (fun g4 => ?_) (fun g4 => ?_)
     ·
      have g4' := g4
      try simp only [sB] at g4'
      refine qm hnt rfl rfl ?_
      refine ry hnt rfl rfl rfl g4 ?_
      refine qo hnt rfl (s_callF rfl rfl rfl (w_burgageref3_in (usesS r.fn) 119 (by have := usesS_len r.fn; omega)) rfl ?_)
      refine ry hnt rfl rfl rfl g4 ?_
      refine qo hnt rfl (s_not rfl ?_)
      refine ry hnt rfl rfl rfl g4 ?_
      refine qm hnt rfl rfl ?_
      refine r_cut0 4 [(1, PV.ptr 0 0), (3, pT (usesS r.fn)), (29, pB (((!(inS (usesS r.fn) 97)) && (!decide (r.at_ = 0))) || ((!(inS (usesS r.fn) 99)) && (!decide (r.count = 0))))), (37, pB ((!(inS (usesS r.fn) 119)) && (!decide (r.wAt = 0))))] ?_ ?_
      ·
       refine r_if tabOk hnt rfl rfl rfl (fun g5 => ?_) (fun g5 => ?_)
       ·
        have g5' := g5
        try simp only [sB] at g5'
        refine qo hnt rfl (s_fa_ptr tab_32 rfl rfl tab_3 (by decide) rfl ?_)
        refine ry hnt rfl rfl rfl g5 ?_
        refine qo hnt rfl (s_load_ptr1 tab_3 rfl rfl rfl rfl rfl ?_)
        refine ry hnt rfl rfl rfl g5 ?_
        refine qo hnt rfl (s_neq rfl rfl ?_)
        refine ry hnt rfl rfl rfl g4 ?_
        refine qo hnt rfl (s_pick_t rfl g5 rfl ?_)
        refine r_eq (s := 37) (y := pB ((!(inS (usesS r.fn) 119)) && (!decide (r.wAt = 0)))) rfl (mix_at g5) ?_
        exact r_mid ⟨⟨rfl, rfl, rfl, rfl, trivial⟩, rfl, rfl⟩
       ·
        have g5' := g5
        try simp only [sB] at g5'
        refine rn hnt rfl rfl rfl g5 ?_
        refine rn hnt rfl rfl rfl g5 ?_
        refine ry hnt rfl rfl rfl g4 ?_
        refine qo hnt rfl (s_pick_f rfl g5 rfl ?_)
        refine r_eq (s := 37) (y := pB ((!(inS (usesS r.fn) 119)) && (!decide (r.wAt = 0)))) rfl (mix_af _ g5) ?_
        exact r_mid ⟨⟨rfl, rfl, rfl, rfl, trivial⟩, rfl, rfl⟩
      ·
       refine qo hnt rfl (s_pick_f rfl g4 rfl ?_)
       refine r_eq (s := 38) (y := pB ((((!(inS (usesS r.fn) 97)) && (!decide (r.at_ = 0))) || ((!(inS (usesS r.fn) 99)) && (!decide (r.count = 0)))) || ((!(inS (usesS r.fn) 119)) && (!decide (r.wAt = 0))))) rfl (mix_of g4) ?_
       exact r_mid ⟨⟨rfl, rfl, rfl, trivial⟩, rfl, rfl⟩
     ·
      have g4' := g4
      try simp only [sB] at g4'
      refine rn hnt rfl rfl rfl g4 ?_
      refine rn hnt rfl rfl rfl g4 ?_
      refine rn hnt rfl rfl rfl g4 ?_
      refine ru hnt rfl rfl rfl ?_
      refine ru hnt rfl rfl rfl ?_
      refine ru hnt rfl rfl rfl ?_
      refine rn hnt rfl rfl rfl g4 ?_
      refine qo hnt rfl (s_pick_t rfl g4 rfl ?_)
      refine r_eq (s := 38) (y := pB ((((!(inS (usesS r.fn) 97)) && (!decide (r.at_ = 0))) || ((!(inS (usesS r.fn) 99)) && (!decide (r.count = 0)))) || ((!(inS (usesS r.fn) 119)) && (!decide (r.wAt = 0))))) rfl (mix_ot _ g4) ?_
      exact r_mid ⟨⟨rfl, rfl, rfl, trivial⟩, rfl, rfl⟩
    ·
     refine qm hnt rfl rfl ?_
     refine r_cut0 9 [(1, PV.ptr 0 0), (3, pT (usesS r.fn)), (48, pB (((((!(inS (usesS r.fn) 97)) && (!decide (r.at_ = 0))) || ((!(inS (usesS r.fn) 99)) && (!decide (r.count = 0)))) || ((!(inS (usesS r.fn) 119)) && (!decide (r.wAt = 0)))) || ((!(inS (usesS r.fn) 115)) && (!decide (r.sub = 0)))))] ?_ ?_
     ·
      refine r_if tabOk hnt rfl rfl rfl (fun g6 => ?_) (fun g6 => ?_)
      ·
       have g6' := g6
       try simp only [sB] at g6'
       refine qm hnt rfl rfl ?_
       refine ry hnt rfl rfl rfl g6 ?_
       refine qo hnt rfl (s_callF rfl rfl rfl (w_burgageref3_in (usesS r.fn) 115 (by have := usesS_len r.fn; omega)) rfl ?_)
       refine ry hnt rfl rfl rfl g6 ?_
       refine qo hnt rfl (s_not rfl ?_)
       refine ry hnt rfl rfl rfl g6 ?_
       refine qm hnt rfl rfl ?_
       refine r_cut0 4 [(1, PV.ptr 0 0), (3, pT (usesS r.fn)), (39, pB ((((!(inS (usesS r.fn) 97)) && (!decide (r.at_ = 0))) || ((!(inS (usesS r.fn) 99)) && (!decide (r.count = 0)))) || ((!(inS (usesS r.fn) 119)) && (!decide (r.wAt = 0))))), (47, pB ((!(inS (usesS r.fn) 115)) && (!decide (r.sub = 0))))] ?_ ?_
       ·
        refine r_if tabOk hnt rfl rfl rfl (fun g7 => ?_) (fun g7 => ?_)
        ·
         have g7' := g7
         try simp only [sB] at g7'
         refine qo hnt rfl (s_fa_ptr tab_32 rfl rfl tab_3 (by decide) rfl ?_)
         refine ry hnt rfl rfl rfl g7 ?_
         refine qo hnt rfl (s_load_ptr1 tab_3 rfl rfl rfl rfl rfl ?_)
         refine ry hnt rfl rfl rfl g7 ?_
         refine qo hnt rfl (s_neq rfl rfl ?_)
         refine ry hnt rfl rfl rfl g6 ?_
         refine qo hnt rfl (s_pick_t rfl g7 rfl ?_)
         refine r_eq (s := 47) (y := pB ((!(inS (usesS r.fn) 115)) && (!decide (r.sub = 0)))) rfl (mix_at g7) ?_
         exact r_mid ⟨⟨rfl, rfl, rfl, rfl, trivial⟩, rfl, rfl⟩
        ·
         have g7' := g7
         try simp only [sB] at g7'
         refine rn hnt rfl rfl rfl g7 ?_
         refine rn hnt rfl rfl rfl g7 ?_
         refine ry hnt rfl rfl rfl g6 ?_
         refine qo hnt rfl (s_pick_f rfl g7 rfl ?_)
         refine r_eq (s := 47) (y := pB ((!(inS (usesS r.fn) 115)) && (!decide (r.sub = 0)))) rfl (mix_af _ g7) ?_
         exact r_mid ⟨⟨rfl, rfl, rfl, rfl, trivial⟩, rfl, rfl⟩
       ·
        refine qo hnt rfl (s_pick_f rfl g6 rfl ?_)
        refine r_eq (s := 48) (y := pB (((((!(inS (usesS r.fn) 97)) && (!decide (r.at_ = 0))) || ((!(inS (usesS r.fn) 99)) && (!decide (r.count = 0)))) || ((!(inS (usesS r.fn) 119)) && (!decide (r.wAt = 0)))) || ((!(inS (usesS r.fn) 115)) && (!decide (r.sub = 0))))) rfl (mix_of g6) ?_
        exact r_mid ⟨⟨rfl, rfl, rfl, trivial⟩, rfl, rfl⟩
      ·
       have g6' := g6
       try simp only [sB] at g6'
       refine rn hnt rfl rfl rfl g6 ?_
       refine rn hnt rfl rfl rfl g6 ?_
       refine rn hnt rfl rfl rfl g6 ?_
       refine ru hnt rfl rfl rfl ?_
       refine ru hnt rfl rfl rfl ?_
       refine ru hnt rfl rfl rfl ?_
       refine rn hnt rfl rfl rfl g6 ?_
       refine qo hnt rfl (s_pick_t rfl g6 rfl ?_)
       refine r_eq (s := 48) (y := pB (((((!(inS (usesS r.fn) 97)) && (!decide (r.at_ = 0))) || ((!(inS (usesS r.fn) 99)) && (!decide (r.count = 0)))) || ((!(inS (usesS r.fn) 119)) && (!decide (r.wAt = 0)))) || ((!(inS (usesS r.fn) 115)) && (!decide (r.sub = 0))))) rfl (mix_ot _ g6) ?_
       exact r_mid ⟨⟨rfl, rfl, rfl, trivial⟩, rfl, rfl⟩
     ·
      refine qm hnt rfl rfl ?_
      refine r_cut0 10 [(1, PV.ptr 0 0), (3, pT (usesS r.fn)), (59, pB ((((((!(inS (usesS r.fn) 97)) && (!decide (r.at_ = 0))) || ((!(inS (usesS r.fn) 99)) && (!decide (r.count = 0)))) || ((!(inS (usesS r.fn) 119)) && (!decide (r.wAt = 0)))) || ((!(inS (usesS r.fn) 115)) && (!decide (r.sub = 0)))) || ((!(inS (usesS r.fn) 98)) && (decide (0 < ((r.bits.length : Nat) : Int))))))] ?_ ?_
      ·
       refine r_if tabOk hnt rfl rfl rfl (fun g8 => ?_) (fun g8 => ?_)
       ·
        have g8' := g8
        try simp only [sB] at g8'
        refine qm hnt rfl rfl ?_
        refine ry hnt rfl rfl rfl g8 ?_
        refine qo hnt rfl (s_callF rfl rfl rfl (w_burgageref3_in (usesS r.fn) 98 (by have := usesS_len r.fn; omega)) rfl ?_)
        refine ry hnt rfl rfl rfl g8 ?_
        refine qo hnt rfl (s_not rfl ?_)
        refine ry hnt rfl rfl rfl g8 ?_
        refine qm hnt rfl rfl ?_
        refine r_cut0 5 [(1, PV.ptr 0 0), (3, pT (usesS r.fn)), (49, pB (((((!(inS (usesS r.fn) 97)) && (!decide (r.at_ = 0))) || ((!(inS (usesS r.fn) 99)) && (!decide (r.count = 0)))) || ((!(inS (usesS r.fn) 119)) && (!decide (r.wAt = 0)))) || ((!(inS (usesS r.fn) 115)) && (!decide (r.sub = 0))))), (58, pB ((!(inS (usesS r.fn) 98)) && (decide (0 < ((r.bits.length : Nat) : Int)))))] ?_ ?_
        ·
         refine r_if tabOk hnt rfl rfl rfl (fun g9 => ?_) (fun g9 => ?_)
         ·
          have g9' := g9
          try simp only [sB] at g9'
          refine qo hnt rfl (s_fa_ptr tab_32 rfl rfl tab_28 (by decide) rfl ?_)
          refine ry hnt rfl rfl rfl g9 ?_
          refine qo hnt rfl (s_load_ptr1 tab_28 rfl rfl rfl rfl rfl ?_)
          refine ry hnt rfl rfl rfl g9 ?_
          refine qo hnt rfl (s_lenM (l := r.bits) tab_28 rfl (hM_sl (f := encBo) rfl) ?_)
          refine ry hnt rfl rfl rfl g9 ?_
          refine qo hnt rfl (s_gtr rfl rfl ?_)
          refine ry hnt rfl rfl rfl g8 ?_
          refine qo hnt rfl (s_pick_t rfl g9 rfl ?_)
          refine r_eq (s := 58) (y := pB ((!(inS (usesS r.fn) 98)) && (decide (0 < ((r.bits.length : Nat) : Int))))) rfl (mix_at g9) ?_
          exact r_mid ⟨⟨rfl, rfl, rfl, rfl, trivial⟩, rfl, rfl⟩
         ·
          have g9' := g9
          try simp only [sB] at g9'
          refine rn hnt rfl rfl rfl g9 ?_
          refine rn hnt rfl rfl rfl g9 ?_
          refine rn hnt rfl rfl rfl g9 ?_
          refine ry hnt rfl rfl rfl g8 ?_
          refine qo hnt rfl (s_pick_f rfl g9 rfl ?_)
          refine r_eq (s := 58) (y := pB ((!(inS (usesS r.fn) 98)) && (decide (0 < ((r.bits.length : Nat) : Int))))) rfl (mix_af _ g9) ?_
          exact r_mid ⟨⟨rfl, rfl, rfl, rfl, trivial⟩, rfl, rfl⟩
        ·
         refine qo hnt rfl (s_pick_f rfl g8 rfl ?_)
         refine r_eq (s := 59) (y := pB ((((((!(inS (usesS r.fn) 97)) && (!decide (r.at_ = 0))) || ((!(inS (usesS r.fn) 99)) && (!decide (r.count = 0)))) || ((!(inS (usesS r.fn) 119)) && (!decide (r.wAt = 0)))) || ((!(inS (usesS r.fn) 115)) && (!decide (r.sub = 0)))) || ((!(inS (usesS r.fn) 98)) && (decide (0 < ((r.bits.length : Nat) : Int)))))) rfl (mix_of g8) ?_
         exact r_mid ⟨⟨rfl, rfl, rfl, trivial⟩, rfl, rfl⟩
       ·
        have g8' := g8
        try simp only [sB] at g8'
        refine rn hnt rfl rfl rfl g8 ?_
        refine rn hnt rfl rfl rfl g8 ?_
        refine rn hnt rfl rfl rfl g8 ?_
        refine ru hnt rfl rfl rfl ?_
        refine ru hnt rfl rfl rfl ?_
        refine ru hnt rfl rfl rfl ?_
        refine ru hnt rfl rfl rfl ?_
        refine rn hnt rfl rfl rfl g8 ?_
        refine qo hnt rfl (s_pick_t rfl g8 rfl ?_)
        refine r_eq (s := 59) (y := pB ((((((!(inS (usesS r.fn) 97)) && (!decide (r.at_ = 0))) || ((!(inS (usesS r.fn) 99)) && (!decide (r.count = 0)))) || ((!(inS (usesS r.fn) 119)) && (!decide (r.wAt = 0)))) || ((!(inS (usesS r.fn) 115)) && (!decide (r.sub = 0)))) || ((!(inS (usesS r.fn) 98)) && (decide (0 < ((r.bits.length : Nat) : Int)))))) rfl (mix_ot _ g8) ?_
        exact r_mid ⟨⟨rfl, rfl, rfl, trivial⟩, rfl, rfl⟩
      ·
       refine qm hnt rfl rfl ?_
       refine r_cut0 10 [(1, PV.ptr 0 0), (3, pT (usesS r.fn)), (70, pB (((((((!(inS (usesS r.fn) 97)) && (!decide (r.at_ = 0))) || ((!(inS (usesS r.fn) 99)) && (!decide (r.count = 0)))) || ((!(inS (usesS r.fn) 119)) && (!decide (r.wAt = 0)))) || ((!(inS (usesS r.fn) 115)) && (!decide (r.sub = 0)))) || ((!(inS (usesS r.fn) 98)) && (decide (0 < ((r.bits.length : Nat) : Int))))) || ((!(inS (usesS r.fn) 118)) && (decide (0 < ((r.vals.length : Nat) : Int))))))] ?_ ?_
       ·
        refine r_if tabOk hnt rfl rfl rfl (fun g10 => ?_) (fun g10 => ?_)
        ·
         have g10' := g10
         try simp only [sB] at g10'
         refine qm hnt rfl rfl ?_
         refine ry hnt rfl rfl rfl g10 ?_
         refine qo hnt rfl (s_callF rfl rfl rfl (w_burgageref3_in (usesS r.fn) 118 (by have := usesS_len r.fn; omega)) rfl ?_)
         refine ry hnt rfl rfl rfl g10 ?_
         refine qo hnt rfl (s_not rfl ?_)
         refine ry hnt rfl rfl rfl g10 ?_
         refine qm hnt rfl rfl ?_
         refine r_cut0 5 [(1, PV.ptr 0 0), (3, pT (usesS r.fn)), (60, pB ((((((!(inS (usesS r.fn) 97)) && (!decide (r.at_ = 0))) || ((!(inS (usesS r.fn) 99)) && (!decide (r.count = 0)))) || ((!(inS (usesS r.fn) 119)) && (!decide (r.wAt = 0)))) || ((!(inS (usesS r.fn) 115)) && (!decide (r.sub = 0)))) || ((!(inS (usesS r.fn) 98)) && (decide (0 < ((r.bits.length : Nat) : Int)))))), (69, pB ((!(inS (usesS r.fn) 118)) && (decide (0 < ((r.vals.length : Nat) : Int)))))] ?_ ?_
         ·
          refine r_if tabOk hnt rfl rfl rfl (fun g11 => ?_) (fun g11 => ?_)
          ·
           have g11' := g11
           try simp only [sB] at g11'
           refine qo hnt rfl (s_fa_ptr tab_32 rfl rfl tab_29 (by decide) rfl ?_)
           refine ry hnt rfl rfl rfl g11 ?_
           refine qo hnt rfl (s_load_ptr1 tab_29 rfl rfl rfl rfl rfl ?_)
           refine ry hnt rfl rfl rfl g11 ?_
           refine qo hnt rfl (s_lenM (l := r.vals) tab_29 rfl (hM_sl (f := enc16) rfl) ?_)
           refine ry hnt rfl rfl rfl g11 ?_
           refine qo hnt rfl (s_gtr rfl rfl ?_)
           refine ry hnt rfl rfl rfl g10 ?_
           refine qo hnt rfl (s_pick_t rfl g11 rfl ?_)
           refine r_eq (s := 69) (y := pB ((!(inS (usesS r.fn) 118)) && (decide (0 < ((r.vals.length : Nat) : Int))))) rfl (mix_at g11) ?_
           exact r_mid ⟨⟨rfl, rfl, rfl, rfl, trivial⟩, rfl, rfl⟩
          ·
           have g11' := g11
           try simp only [sB] at g11'
           refine rn hnt rfl rfl rfl g11 ?_
           refine rn hnt rfl rfl rfl g11 ?_
           refine rn hnt rfl rfl rfl g11 ?_
           refine ry hnt rfl rfl rfl g10 ?_
           refine qo hnt rfl (s_pick_f rfl g11 rfl ?_)
           refine r_eq (s := 69) (y := pB ((!(inS (usesS r.fn) 118)) && (decide (0 < ((r.vals.length : Nat) : Int))))) rfl (mix_af _ g11) ?_
           exact r_mid ⟨⟨rfl, rfl, rfl, rfl, trivial⟩, rfl, rfl⟩
         ·
          refine qo hnt rfl (s_pick_f rfl g10 rfl ?_)
          refine r_eq (s := 70) (y := pB (((((((!(inS (usesS r.fn) 97)) && (!decide (r.at_ = 0))) || ((!(inS (usesS r.fn) 99)) && (!decide (r.count = 0)))) || ((!(inS (usesS r.fn) 119)) && (!decide (r.wAt = 0)))) || ((!(inS (usesS r.fn) 115)) && (!decide (r.sub = 0)))) || ((!(inS (usesS r.fn) 98)) && (decide (0 < ((r.bits.length : Nat) : Int))))) || ((!(inS (usesS r.fn) 118)) && (decide (0 < ((r.vals.length : Nat) : Int)))))) rfl (mix_of g10) ?_
          exact r_mid ⟨⟨rfl, rfl, rfl, trivial⟩, rfl, rfl⟩
        ·
         have g10' := g10
         try simp only [sB] at g10'
         refine rn hnt rfl rfl rfl g10 ?_
         refine rn hnt rfl rfl rfl g10 ?_
         refine rn hnt rfl rfl rfl g10 ?_
         refine ru hnt rfl rfl rfl ?_
         refine ru hnt rfl rfl rfl ?_
         refine ru hnt rfl rfl rfl ?_
         refine ru hnt rfl rfl rfl ?_
         refine rn hnt rfl rfl rfl g10 ?_
         refine qo hnt rfl (s_pick_t rfl g10 rfl ?_)
         refine r_eq (s := 70) (y := pB (((((((!(inS (usesS r.fn) 97)) && (!decide (r.at_ = 0))) || ((!(inS (usesS r.fn) 99)) && (!decide (r.count = 0)))) || ((!(inS (usesS r.fn) 119)) && (!decide (r.wAt = 0)))) || ((!(inS (usesS r.fn) 115)) && (!decide (r.sub = 0)))) || ((!(inS (usesS r.fn) 98)) && (decide (0 < ((r.bits.length : Nat) : Int))))) || ((!(inS (usesS r.fn) 118)) && (decide (0 < ((r.vals.length : Nat) : Int)))))) rfl (mix_ot _ g10) ?_
         exact r_mid ⟨⟨rfl, rfl, rfl, trivial⟩, rfl, rfl⟩
       ·
        refine qm hnt rfl rfl ?_
        refine r_cut0 14 [(1, PV.ptr 0 0), (85, pB ((((((((!(inS (usesS r.fn) 97)) && (!decide (r.at_ = 0))) || ((!(inS (usesS r.fn) 99)) && (!decide (r.count = 0)))) || ((!(inS (usesS r.fn) 119)) && (!decide (r.wAt = 0)))) || ((!(inS (usesS r.fn) 115)) && (!decide (r.sub = 0)))) || ((!(inS (usesS r.fn) 98)) && (decide (0 < ((r.bits.length : Nat) : Int))))) || ((!(inS (usesS r.fn) 118)) && (decide (0 < ((r.vals.length : Nat) : Int))))) || ((!(inS (usesS r.fn) 109)) && ((!decide (r.and_ = 0)) || (!decide (r.or_ = 0))))))] ?_ ?_
        ·
         refine r_if tabOk hnt rfl rfl rfl (fun g12 => ?_) (fun g12 => ?_)
         ·
          have g12' := g12
          try simp only [sB] at g12'
          refine qm hnt rfl rfl ?_
          refine ry hnt rfl rfl rfl g12 ?_
          refine qo hnt rfl (s_callF rfl rfl rfl (w_burgageref3_in (usesS r.fn) 109 (by have := usesS_len r.fn; omega)) rfl ?_)
          refine ry hnt rfl rfl rfl g12 ?_
          refine qo hnt rfl (s_not rfl ?_)
          refine ry hnt rfl rfl rfl g12 ?_
          refine qm hnt rfl rfl ?_
          refine r_cut0 9 [(1, PV.ptr 0 0), (71, pB (((((((!(inS (usesS r.fn) 97)) && (!decide (r.at_ = 0))) || ((!(inS (usesS r.fn) 99)) && (!decide (r.count = 0)))) || ((!(inS (usesS r.fn) 119)) && (!decide (r.wAt = 0)))) || ((!(inS (usesS r.fn) 115)) && (!decide (r.sub = 0)))) || ((!(inS (usesS r.fn) 98)) && (decide (0 < ((r.bits.length : Nat) : Int))))) || ((!(inS (usesS r.fn) 118)) && (decide (0 < ((r.vals.length : Nat) : Int)))))), (84, pB ((!(inS (usesS r.fn) 109)) && ((!decide (r.and_ = 0)) || (!decide (r.or_ = 0)))))] ?_ ?_
          ·
           refine r_if tabOk hnt rfl rfl rfl (fun g13 => ?_) (fun g13 => ?_)
           ·
            have g13' := g13
            try simp only [sB] at g13'
            refine qo hnt rfl (s_fa_ptr tab_32 rfl rfl tab_30 (by decide) rfl ?_)
            refine ry hnt rfl rfl rfl g13 ?_
            refine qo hnt rfl (s_load_ptr1 tab_30 rfl rfl rfl rfl rfl ?_)
            refine ry hnt rfl rfl rfl g13 ?_
            refine qo hnt rfl (s_neq16 (a := r.and_) (b := 0) rfl rfl ?_)
            refine ry hnt rfl rfl rfl g13 ?_
            refine qm hnt rfl rfl ?_
            refine r_cut0 4 [(1, PV.ptr 0 0), (71, pB (((((((!(inS (usesS r.fn) 97)) && (!decide (r.at_ = 0))) || ((!(inS (usesS r.fn) 99)) && (!decide (r.count = 0)))) || ((!(inS (usesS r.fn) 119)) && (!decide (r.wAt = 0)))) || ((!(inS (usesS r.fn) 115)) && (!decide (r.sub = 0)))) || ((!(inS (usesS r.fn) 98)) && (decide (0 < ((r.bits.length : Nat) : Int))))) || ((!(inS (usesS r.fn) 118)) && (decide (0 < ((r.vals.length : Nat) : Int)))))), (75, pB (!(inS (usesS r.fn) 109))), (83, pB ((!decide (r.and_ = 0)) || (!decide (r.or_ = 0))))] ?_ ?_
            ·
             refine r_if tabOk hnt rfl rfl rfl (fun g14 => ?_) (fun g14 => ?_)
             ·
              have g14' := g14
              try simp only [sB] at g14'
              refine qo hnt rfl (s_fa_ptr tab_32 rfl rfl tab_30 (by decide) rfl ?_)
              refine ry hnt rfl rfl rfl g14 ?_
              refine qo hnt rfl (s_load_ptr1 tab_30 rfl rfl rfl rfl rfl ?_)
              refine ry hnt rfl rfl rfl g14 ?_
              refine qo hnt rfl (s_neq16 (a := r.or_) (b := 0) rfl rfl ?_)
              refine ry hnt rfl rfl rfl g13 ?_
              refine qo hnt rfl (s_pick_f rfl g14 rfl ?_)
              refine r_eq (s := 83) (y := pB ((!decide (r.and_ = 0)) || (!decide (r.or_ = 0)))) rfl (mix_of g14) ?_
              exact r_mid ⟨⟨rfl, rfl, rfl, rfl, trivial⟩, rfl, rfl⟩
             ·
              have g14' := g14
              try simp only [sB] at g14'
              refine rn hnt rfl rfl rfl g14 ?_
              refine rn hnt rfl rfl rfl g14 ?_
              refine ry hnt rfl rfl rfl g13 ?_
              refine qo hnt rfl (s_pick_t rfl g14 rfl ?_)
              refine r_eq (s := 83) (y := pB ((!decide (r.and_ = 0)) || (!decide (r.or_ = 0)))) rfl (mix_ot _ g14) ?_
              exact r_mid ⟨⟨rfl, rfl, rfl, rfl, trivial⟩, rfl, rfl⟩
            ·
             refine ry hnt rfl rfl rfl g12 ?_
             refine qo hnt rfl (s_pick_t rfl g13 rfl ?_)
             refine r_eq (s := 84) (y := pB ((!(inS (usesS r.fn) 109)) && ((!decide (r.and_ = 0)) || (!decide (r.or_ = 0))))) rfl (mix_at g13) ?_
             exact r_mid ⟨⟨rfl, rfl, rfl, trivial⟩, rfl, rfl⟩
           ·
            have g13' := g13
            try simp only [sB] at g13'
            refine rn hnt rfl rfl rfl g13 ?_
            refine rn hnt rfl rfl rfl g13 ?_
            refine rn hnt rfl rfl rfl g13 ?_
            refine ru hnt rfl rfl rfl ?_
            refine ru hnt rfl rfl rfl ?_
            refine ru hnt rfl rfl rfl ?_
            refine rn hnt rfl rfl rfl g13 ?_
            refine ry hnt rfl rfl rfl g12 ?_
            refine qo hnt rfl (s_pick_f rfl g13 rfl ?_)
            refine r_eq (s := 84) (y := pB ((!(inS (usesS r.fn) 109)) && ((!decide (r.and_ = 0)) || (!decide (r.or_ = 0))))) rfl (mix_af _ g13) ?_
            exact r_mid ⟨⟨rfl, rfl, rfl, trivial⟩, rfl, rfl⟩
          ·
           refine qo hnt rfl (s_pick_f rfl g12 rfl ?_)
           refine r_eq (s := 85) (y := pB ((((((((!(inS (usesS r.fn) 97)) && (!decide (r.at_ = 0))) || ((!(inS (usesS r.fn) 99)) && (!decide (r.count = 0)))) || ((!(inS (usesS r.fn) 119)) && (!decide (r.wAt = 0)))) || ((!(inS (usesS r.fn) 115)) && (!decide (r.sub = 0)))) || ((!(inS (usesS r.fn) 98)) && (decide (0 < ((r.bits.length : Nat) : Int))))) || ((!(inS (usesS r.fn) 118)) && (decide (0 < ((r.vals.length : Nat) : Int))))) || ((!(inS (usesS r.fn) 109)) && ((!decide (r.and_ = 0)) || (!decide (r.or_ = 0)))))) rfl (mix_of g12) ?_
           exact r_mid ⟨⟨rfl, rfl, trivial⟩, rfl, rfl⟩
         ·
          have g12' := g12
          try simp only [sB] at g12'
          refine rn hnt rfl rfl rfl g12 ?_
          refine rn hnt rfl rfl rfl g12 ?_
          refine rn hnt rfl rfl rfl g12 ?_
          refine ru hnt rfl rfl rfl ?_
          refine ru hnt rfl rfl rfl ?_
          refine ru hnt rfl rfl rfl ?_
          refine ru hnt rfl rfl rfl ?_
          refine ru hnt rfl rfl rfl ?_
          refine ru hnt rfl rfl rfl ?_
          refine ru hnt rfl rfl rfl ?_
          refine ru hnt rfl rfl rfl ?_
          refine rn hnt rfl rfl rfl g12 ?_
          refine qo hnt rfl (s_pick_t rfl g12 rfl ?_)
          refine r_eq (s := 85) (y := pB ((((((((!(inS (usesS r.fn) 97)) && (!decide (r.at_ = 0))) || ((!(inS (usesS r.fn) 99)) && (!decide (r.count = 0)))) || ((!(inS (usesS r.fn) 119)) && (!decide (r.wAt = 0)))) || ((!(inS (usesS r.fn) 115)) && (!decide (r.sub = 0)))) || ((!(inS (usesS r.fn) 98)) && (decide (0 < ((r.bits.length : Nat) : Int))))) || ((!(inS (usesS r.fn) 118)) && (decide (0 < ((r.vals.length : Nat) : Int))))) || ((!(inS (usesS r.fn) 109)) && ((!decide (r.and_ = 0)) || (!decide (r.or_ = 0)))))) rfl (mix_ot _ g12) ?_
          exact r_mid ⟨⟨rfl, rfl, trivial⟩, rfl, rfl⟩
        ·
         refine r_end ?_
         refine q_then ?_
         refine w_if rfl (fun c2 => ?_) (fun c2 => ?_)
         ·
          have c2_ := c2
          try simp only [sB] at c2
          refine w_seq ?_
          refine w_R ?_
          refine qa hnt rfl rfl ?_
          refine r_end ?_
          refine q_then ?_
          refine w_le (s := 2) (y := pI (rightR r)) rfl (le_of_eq (congrArg (fun z : Int => pI z) (show 12 = (rightR r) by exact (rightR_2 c1_ c2_).symm))) ?_
          refine w_ret ?_
          refine q_then_ret ?_
          exact fin_plain (ret_tmp rfl ret_nil) rfl rfl ⟨rfl, rfl, rfl⟩
         ·
          have c2_ := c2
          try simp only [sB] at c2
          refine w_skip ?_
          refine q_then ?_
          refine w_seq ?_
          refine w_seq ?_
          refine w_R ?_
          refine qo hnt rfl (s_fa_ptr tab_32 rfl rfl tab_3 (by decide) rfl ?_)
          refine qo hnt rfl (s_load_ptr1 tab_3 rfl rfl rfl rfl rfl ?_)
          refine qo hnt rfl (s_callF rfl rfl rfl (w_burgageref3_word r.at_) rfl ?_)
          refine qo hnt rfl (s_not rfl ?_)
          refine qm hnt rfl rfl ?_
          refine r_cut0 5 [(1, PV.ptr 0 0), (95, pB ((!(wordOk r.at_)) || (!(wordOk r.count))))] ?_ ?_
          ·
           refine r_if tabOk hnt rfl rfl rfl (fun g15 => ?_) (fun g15 => ?_)
           ·
            have g15' := g15
            try simp only [sB] at g15'
            refine qo hnt rfl (s_fa_ptr tab_32 rfl rfl tab_3 (by decide) rfl ?_)
            refine ry hnt rfl rfl rfl g15 ?_
            refine qo hnt rfl (s_load_ptr1 tab_3 rfl rfl rfl rfl rfl ?_)
            refine ry hnt rfl rfl rfl g15 ?_
            refine qo hnt rfl (s_callF rfl rfl rfl (w_burgageref3_word r.count) rfl ?_)
            refine ry hnt rfl rfl rfl g15 ?_
            refine qo hnt rfl (s_not rfl ?_)
            refine qo hnt rfl (s_pick_f rfl g15 rfl ?_)
            refine r_eq (s := 95) (y := pB ((!(wordOk r.at_)) || (!(wordOk r.count)))) rfl (mix_of g15) ?_
            exact r_mid ⟨⟨rfl, rfl, trivial⟩, rfl, rfl⟩
           ·
            have g15' := g15
            try simp only [sB] at g15'
            refine rn hnt rfl rfl rfl g15 ?_
            refine rn hnt rfl rfl rfl g15 ?_
            refine rn hnt rfl rfl rfl g15 ?_
            refine qo hnt rfl (s_pick_t rfl g15 rfl ?_)
            refine r_eq (s := 95) (y := pB ((!(wordOk r.at_)) || (!(wordOk r.count)))) rfl (mix_ot _ g15) ?_
            exact r_mid ⟨⟨rfl, rfl, trivial⟩, rfl, rfl⟩
          ·
           refine qm hnt rfl rfl ?_
           refine r_cut0 5 [(1, PV.ptr 0 0), (101, pB (((!(wordOk r.at_)) || (!(wordOk r.count))) || (!(wordOk r.wAt))))] ?_ ?_
           ·
            refine r_if tabOk hnt rfl rfl rfl (fun g16 => ?_) (fun g16 => ?_)
            ·
             have g16' := g16
             try simp only [sB] at g16'
             refine qo hnt rfl (s_fa_ptr tab_32 rfl rfl tab_3 (by decide) rfl ?_)
             refine ry hnt rfl rfl rfl g16 ?_
             refine qo hnt rfl (s_load_ptr1 tab_3 rfl rfl rfl rfl rfl ?_)
             refine ry hnt rfl rfl rfl g16 ?_
             refine qo hnt rfl (s_callF rfl rfl rfl (w_burgageref3_word r.wAt) rfl ?_)
             refine ry hnt rfl rfl rfl g16 ?_
             refine qo hnt rfl (s_not rfl ?_)
             refine qo hnt rfl (s_pick_f rfl g16 rfl ?_)
             refine r_eq (s := 101) (y := pB (((!(wordOk r.at_)) || (!(wordOk r.count))) || (!(wordOk r.wAt)))) rfl (mix_of g16) ?_
             exact r_mid ⟨⟨rfl, rfl, trivial⟩, rfl, rfl⟩
            ·
             have g16' := g16
             try simp only [sB] at g16'
             refine rn hnt rfl rfl rfl g16 ?_
             refine rn hnt rfl rfl rfl g16 ?_
             refine rn hnt rfl rfl rfl g16 ?_
             refine qo hnt rfl (s_pick_t rfl g16 rfl ?_)
             refine r_eq (s := 101) (y := pB (((!(wordOk r.at_)) || (!(wordOk r.count))) || (!(wordOk r.wAt)))) rfl (mix_ot _ g16) ?_
             exact r_mid ⟨⟨rfl, rfl, trivial⟩, rfl, rfl⟩
           ·
            refine qm hnt rfl rfl ?_
            refine r_cut0 5 [(1, PV.ptr 0 0), (107, pB ((((!(wordOk r.at_)) || (!(wordOk r.count))) || (!(wordOk r.wAt))) || (!(wordOk r.sub))))] ?_ ?_
            ·
             refine r_if tabOk hnt rfl rfl rfl (fun g17 => ?_) (fun g17 => ?_)
             ·
              have g17' := g17
              try simp only [sB] at g17'
              refine qo hnt rfl (s_fa_ptr tab_32 rfl rfl tab_3 (by decide) rfl ?_)
              refine ry hnt rfl rfl rfl g17 ?_
              refine qo hnt rfl (s_load_ptr1 tab_3 rfl rfl rfl rfl rfl ?_)
              refine ry hnt rfl rfl rfl g17 ?_
              refine qo hnt rfl (s_callF rfl rfl rfl (w_burgageref3_word r.sub) rfl ?_)
              refine ry hnt rfl rfl rfl g17 ?_
              refine qo hnt rfl (s_not rfl ?_)
              refine qo hnt rfl (s_pick_f rfl g17 rfl ?_)
              refine r_eq (s := 107) (y := pB ((((!(wordOk r.at_)) || (!(wordOk r.count))) || (!(wordOk r.wAt))) || (!(wordOk r.sub)))) rfl (mix_of g17) ?_
              exact r_mid ⟨⟨rfl, rfl, trivial⟩, rfl, rfl⟩
             ·
              have g17' := g17
              try simp only [sB] at g17'
              refine rn hnt rfl rfl rfl g17 ?_
              refine rn hnt rfl rfl rfl g17 ?_
              refine rn hnt rfl rfl rfl g17 ?_
              refine qo hnt rfl (s_pick_t rfl g17 rfl ?_)
              refine r_eq (s := 107) (y := pB ((((!(wordOk r.at_)) || (!(wordOk r.count))) || (!(wordOk r.wAt))) || (!(wordOk r.sub)))) rfl (mix_ot _ g17) ?_
              exact r_mid ⟨⟨rfl, rfl, trivial⟩, rfl, rfl⟩
            ·
             refine qm hnt rfl rfl ?_
             refine r_cut0 4 [(112, pB (((((!(wordOk r.at_)) || (!(wordOk r.count))) || (!(wordOk r.wAt))) || (!(wordOk r.sub))) || (!(listsR r))))] ?_ ?_
             ·
              refine r_if tabOk hnt rfl rfl rfl (fun g18 => ?_) (fun g18 => ?_)
              ·
               have g18' := g18
               try simp only [sB] at g18'
               refine qo hnt rfl (s_load_ptr tab_32 rfl rfl rfl (Nat.le_of_ble_eq_true rfl) ?_)
               refine ry hnt rfl rfl rfl g18 ?_
               refine qo hnt rfl (s_callF rfl rfl rfl (w_burgageref3_lists r (by first | omega | assumption | (simp; omega) | decide | (simp; done)) (by first | omega | assumption | (simp; omega) | decide | (simp; done))) rfl ?_)
               refine ry hnt rfl rfl rfl g18 ?_
               refine qo hnt rfl (s_not rfl ?_)
               refine qo hnt rfl (s_pick_f rfl g18 rfl ?_)
               refine r_eq (s := 112) (y := pB (((((!(wordOk r.at_)) || (!(wordOk r.count))) || (!(wordOk r.wAt))) || (!(wordOk r.sub))) || (!(listsR r)))) rfl (mix_of g18) ?_
               exact r_mid ⟨⟨rfl, trivial⟩, rfl, rfl⟩
              ·
               have g18' := g18
               try simp only [sB] at g18'
               refine rn hnt rfl rfl rfl g18 ?_
               refine rn hnt rfl rfl rfl g18 ?_
               refine qo hnt rfl (s_pick_t rfl g18 rfl ?_)
               refine r_eq (s := 112) (y := pB (((((!(wordOk r.at_)) || (!(wordOk r.count))) || (!(wordOk r.wAt))) || (!(wordOk r.sub))) || (!(listsR r)))) rfl (mix_ot _ g18) ?_
               exact r_mid ⟨⟨rfl, trivial⟩, rfl, rfl⟩
             ·
              refine r_end ?_
              refine q_then ?_
              refine w_if rfl (fun c3 => ?_) (fun c3 => ?_)
              ·
               have c3_ := c3
               try simp only [sB] at c3
               refine w_seq ?_
               refine w_R ?_
               refine qa hnt rfl rfl ?_
               refine r_end ?_
               refine q_then ?_
               refine w_le (s := 2) (y := pI (rightR r)) rfl (le_of_eq (congrArg (fun z : Int => pI z) (show 12 = (rightR r) by exact (rightR_3 c1_ c2_ c3_).symm))) ?_
               refine w_ret ?_
               refine q_then_ret ?_
               exact fin_plain (ret_tmp rfl ret_nil) rfl rfl ⟨rfl, rfl, rfl⟩
              ·
               have c3_ := c3
               try simp only [sB] at c3
               refine w_skip ?_
               refine q_then ?_
               refine w_seq ?_
               refine w_R ?_
               refine qa hnt rfl rfl ?_
               refine r_end ?_
               refine q_then ?_
               refine w_le (s := 2) (y := pI (rightR r)) rfl (le_of_eq (congrArg (fun z : Int => pI z) (show 0 = (rightR r) by exact (rightR_4 c1_ c2_ c3_).symm))) ?_
               refine w_ret ?_
               exact fin_plain (ret_tmp rfl ret_nil) rfl rfl ⟨rfl, rfl, rfl⟩

end Go.Proofs.Ytmcgjmpcfiefgaa
