/- What the law MbapPlaysUpto needs, and no more: merged out of texts of this session by a program of it (wip/tools/prune.py). -/
import Derived.Test.YtfbmlnajnlekbaaQMbapPlaysUpto2
set_option linter.unusedVariables false
set_option linter.unusedSimpArgs false
set_option maxRecDepth 10000
set_option maxHeartbeats 1000000
namespace Go.Proofs.Ytfbmlnajnlekbaa
open Go Go.Proofs.Ytfbmlnajnlekbaa.Pv
theorem w_burgageref3_Has (n : Int)  :
    T Try.prog 82 [pI n] 0 [] (Ret (pB (hasF n)) 0 []) := by
 refine t_fun tabOk (n := 33) (rs := [.tmp 2]) Try.func82 rfl rfl rfl rfl (Nat.le_of_ble_eq_true rfl) ?_
 intro c hnt hk
 refine w_seq ?_
 refine w_R ?_
 refine qa hnt rfl rfl ?_
 refine r_end ?_
 refine q_then ?_
 refine w_seq ?_
 refine w_R ?_
 refine qm hnt rfl rfl ?_
 refine qo hnt rfl (s_geq rfl rfl ?_)
 refine qm hnt rfl rfl ?_
 refine r_cut0 3 [(0, pI n), (2, pB false), (8, pB ((decide (1 ≤ n)) && (decide (n ≤ 6))))] ?_ ?_
 ·
  refine r_if tabOk hnt rfl rfl rfl (fun g1 => ?_) (fun g1 => ?_)
  ·
   have g1' := g1
   try simp only [sB] at g1'
   refine qm hnt rfl rfl ?_
   refine ry hnt rfl rfl rfl g1 ?_
   refine qo hnt rfl (s_leq rfl rfl ?_)
   refine qo hnt rfl (s_pick_t rfl g1 rfl ?_)
   refine r_eq (s := 8) (y := pB ((decide (1 ≤ n)) && (decide (n ≤ 6)))) rfl (mix_at g1) ?_
   exact r_mid ⟨⟨rfl, rfl, rfl, trivial⟩, rfl, rfl⟩
  ·
   have g1' := g1
   try simp only [sB] at g1'
   refine rn hnt rfl rfl rfl g1 ?_
   refine qo hnt rfl (s_pick_f rfl g1 rfl ?_)
   refine r_eq (s := 8) (y := pB ((decide (1 ≤ n)) && (decide (n ≤ 6)))) rfl (mix_af _ g1) ?_
   exact r_mid ⟨⟨rfl, rfl, rfl, trivial⟩, rfl, rfl⟩
 ·
  refine qm hnt rfl rfl ?_
  refine r_cut0 3 [(0, pI n), (2, pB false), (12, pB (((decide (1 ≤ n)) && (decide (n ≤ 6))) || (decide (n = 8))))] ?_ ?_
  ·
   refine r_if tabOk hnt rfl rfl rfl (fun g2 => ?_) (fun g2 => ?_)
   ·
    have g2' := g2
    try simp only [sB] at g2'
    refine qm hnt rfl rfl ?_
    refine ry hnt rfl rfl rfl g2 ?_
    refine qo hnt rfl (s_eql rfl rfl ?_)
    refine qo hnt rfl (s_pick_f rfl g2 rfl ?_)
    refine r_eq (s := 12) (y := pB (((decide (1 ≤ n)) && (decide (n ≤ 6))) || (decide (n = 8)))) rfl (mix_of g2) ?_
    exact r_mid ⟨⟨rfl, rfl, rfl, trivial⟩, rfl, rfl⟩
   ·
    have g2' := g2
    try simp only [sB] at g2'
    refine rn hnt rfl rfl rfl g2 ?_
    refine qo hnt rfl (s_pick_t rfl g2 rfl ?_)
    refine r_eq (s := 12) (y := pB (((decide (1 ≤ n)) && (decide (n ≤ 6))) || (decide (n = 8)))) rfl (mix_ot _ g2) ?_
    exact r_mid ⟨⟨rfl, rfl, rfl, trivial⟩, rfl, rfl⟩
  ·
   refine qm hnt rfl rfl ?_
   refine r_cut0 3 [(0, pI n), (2, pB false), (16, pB ((((decide (1 ≤ n)) && (decide (n ≤ 6))) || (decide (n = 8))) || (decide (n = 15))))] ?_ ?_
   ·
    refine r_if tabOk hnt rfl rfl rfl (fun g3 => ?_) (fun g3 => ?_)
    ·
     have g3' := g3
     try simp only [sB] at g3'
     refine qm hnt rfl rfl ?_
     refine ry hnt rfl rfl rfl g3 ?_
     refine qo hnt rfl (s_eql rfl rfl ?_)
     refine qo hnt rfl (s_pick_f rfl g3 rfl ?_)
     refine r_eq (s := 16) (y := pB ((((decide (1 ≤ n)) && (decide (n ≤ 6))) || (decide (n = 8))) || (decide (n = 15)))) rfl (mix_of g3) ?_
     exact r_mid ⟨⟨rfl, rfl, rfl, trivial⟩, rfl, rfl⟩
    ·
     have g3' := g3
     try simp only [sB] at g3'
     refine rn hnt rfl rfl rfl g3 ?_
     refine qo hnt rfl (s_pick_t rfl g3 rfl ?_)
     refine r_eq (s := 16) (y := pB ((((decide (1 ≤ n)) && (decide (n ≤ 6))) || (decide (n = 8))) || (decide (n = 15)))) rfl (mix_ot _ g3) ?_
     exact r_mid ⟨⟨rfl, rfl, rfl, trivial⟩, rfl, rfl⟩
   ·
    refine qm hnt rfl rfl ?_
    refine r_cut0 3 [(0, pI n), (2, pB false), (20, pB (((((decide (1 ≤ n)) && (decide (n ≤ 6))) || (decide (n = 8))) || (decide (n = 15))) || (decide (n = 16))))] ?_ ?_
    ·
     refine r_if tabOk hnt rfl rfl rfl (fun g4 => ?_) (fun g4 => ?_)
     ·
      have g4' := g4
      try simp only [sB] at g4'
      refine qm hnt rfl rfl ?_
      refine ry hnt rfl rfl rfl g4 ?_
      refine qo hnt rfl (s_eql rfl rfl ?_)
      refine qo hnt rfl (s_pick_f rfl g4 rfl ?_)
      refine r_eq (s := 20) (y := pB (((((decide (1 ≤ n)) && (decide (n ≤ 6))) || (decide (n = 8))) || (decide (n = 15))) || (decide (n = 16)))) rfl (mix_of g4) ?_
      exact r_mid ⟨⟨rfl, rfl, rfl, trivial⟩, rfl, rfl⟩
     ·
      have g4' := g4
      try simp only [sB] at g4'
      refine rn hnt rfl rfl rfl g4 ?_
      refine qo hnt rfl (s_pick_t rfl g4 rfl ?_)
      refine r_eq (s := 20) (y := pB (((((decide (1 ≤ n)) && (decide (n ≤ 6))) || (decide (n = 8))) || (decide (n = 15))) || (decide (n = 16)))) rfl (mix_ot _ g4) ?_
      exact r_mid ⟨⟨rfl, rfl, rfl, trivial⟩, rfl, rfl⟩
    ·
     refine qm hnt rfl rfl ?_
     refine r_cut0 3 [(0, pI n), (2, pB false), (24, pB ((((((decide (1 ≤ n)) && (decide (n ≤ 6))) || (decide (n = 8))) || (decide (n = 15))) || (decide (n = 16))) || (decide (n = 17))))] ?_ ?_
     ·
      refine r_if tabOk hnt rfl rfl rfl (fun g5 => ?_) (fun g5 => ?_)
      ·
       have g5' := g5
       try simp only [sB] at g5'
       refine qm hnt rfl rfl ?_
       refine ry hnt rfl rfl rfl g5 ?_
       refine qo hnt rfl (s_eql rfl rfl ?_)
       refine qo hnt rfl (s_pick_f rfl g5 rfl ?_)
       refine r_eq (s := 24) (y := pB ((((((decide (1 ≤ n)) && (decide (n ≤ 6))) || (decide (n = 8))) || (decide (n = 15))) || (decide (n = 16))) || (decide (n = 17)))) rfl (mix_of g5) ?_
       exact r_mid ⟨⟨rfl, rfl, rfl, trivial⟩, rfl, rfl⟩
      ·
       have g5' := g5
       try simp only [sB] at g5'
       refine rn hnt rfl rfl rfl g5 ?_
       refine qo hnt rfl (s_pick_t rfl g5 rfl ?_)
       refine r_eq (s := 24) (y := pB ((((((decide (1 ≤ n)) && (decide (n ≤ 6))) || (decide (n = 8))) || (decide (n = 15))) || (decide (n = 16))) || (decide (n = 17)))) rfl (mix_ot _ g5) ?_
       exact r_mid ⟨⟨rfl, rfl, rfl, trivial⟩, rfl, rfl⟩
     ·
      refine qm hnt rfl rfl ?_
      refine r_cut0 3 [(0, pI n), (2, pB false), (28, pB (((((((decide (1 ≤ n)) && (decide (n ≤ 6))) || (decide (n = 8))) || (decide (n = 15))) || (decide (n = 16))) || (decide (n = 17))) || (decide (n = 22))))] ?_ ?_
      ·
       refine r_if tabOk hnt rfl rfl rfl (fun g6 => ?_) (fun g6 => ?_)
       ·
        have g6' := g6
        try simp only [sB] at g6'
        refine qm hnt rfl rfl ?_
        refine ry hnt rfl rfl rfl g6 ?_
        refine qo hnt rfl (s_eql rfl rfl ?_)
        refine qo hnt rfl (s_pick_f rfl g6 rfl ?_)
        refine r_eq (s := 28) (y := pB (((((((decide (1 ≤ n)) && (decide (n ≤ 6))) || (decide (n = 8))) || (decide (n = 15))) || (decide (n = 16))) || (decide (n = 17))) || (decide (n = 22)))) rfl (mix_of g6) ?_
        exact r_mid ⟨⟨rfl, rfl, rfl, trivial⟩, rfl, rfl⟩
       ·
        have g6' := g6
        try simp only [sB] at g6'
        refine rn hnt rfl rfl rfl g6 ?_
        refine qo hnt rfl (s_pick_t rfl g6 rfl ?_)
        refine r_eq (s := 28) (y := pB (((((((decide (1 ≤ n)) && (decide (n ≤ 6))) || (decide (n = 8))) || (decide (n = 15))) || (decide (n = 16))) || (decide (n = 17))) || (decide (n = 22)))) rfl (mix_ot _ g6) ?_
        exact r_mid ⟨⟨rfl, rfl, rfl, trivial⟩, rfl, rfl⟩
      ·
       refine qm hnt rfl rfl ?_
       refine r_cut0 3 [(2, pB false), (32, pB ((((((((decide (1 ≤ n)) && (decide (n ≤ 6))) || (decide (n = 8))) || (decide (n = 15))) || (decide (n = 16))) || (decide (n = 17))) || (decide (n = 22))) || (decide (n = 23))))] ?_ ?_
       ·
        refine r_if tabOk hnt rfl rfl rfl (fun g7 => ?_) (fun g7 => ?_)
        ·
         have g7' := g7
         try simp only [sB] at g7'
         refine qm hnt rfl rfl ?_
         refine ry hnt rfl rfl rfl g7 ?_
         refine qo hnt rfl (s_eql rfl rfl ?_)
         refine qo hnt rfl (s_pick_f rfl g7 rfl ?_)
         refine r_eq (s := 32) (y := pB ((((((((decide (1 ≤ n)) && (decide (n ≤ 6))) || (decide (n = 8))) || (decide (n = 15))) || (decide (n = 16))) || (decide (n = 17))) || (decide (n = 22))) || (decide (n = 23)))) rfl (mix_of g7) ?_
         exact r_mid ⟨⟨rfl, rfl, trivial⟩, rfl, rfl⟩
        ·
         have g7' := g7
         try simp only [sB] at g7'
         refine rn hnt rfl rfl rfl g7 ?_
         refine qo hnt rfl (s_pick_t rfl g7 rfl ?_)
         refine r_eq (s := 32) (y := pB ((((((((decide (1 ≤ n)) && (decide (n ≤ 6))) || (decide (n = 8))) || (decide (n = 15))) || (decide (n = 16))) || (decide (n = 17))) || (decide (n = 22))) || (decide (n = 23)))) rfl (mix_ot _ g7) ?_
         exact r_mid ⟨⟨rfl, rfl, trivial⟩, rfl, rfl⟩
       ·
        refine qa hnt rfl rfl ?_
        refine r_end ?_
        refine q_then ?_
        refine w_le (s := 2) (y := pB (hasF n)) rfl (le_of_eq (congrArg (fun z : Bool => pB z) (show ((((((((decide (1 ≤ n)) && (decide (n ≤ 6))) || (decide (n = 8))) || (decide (n = 15))) || (decide (n = 16))) || (decide (n = 17))) || (decide (n = 22))) || (decide (n = 23))) = (hasF n) by unfold hasF; apply Bool.eq_iff_iff.2; simp only [Bool.and_eq_true, Bool.or_eq_true, decide_eq_true_eq]; try omega))) ?_
        refine w_ret ?_
        exact fin_plain (ret_tmp rfl ret_nil) rfl rfl ⟨rfl, rfl, rfl⟩
theorem w_burgageref3_word (n : Int)  :
    T Try.prog 85 [pI n] 0 [] (Ret (pB (wordOk n)) 0 []) := by
 refine t_fun tabOk (n := 9) (rs := [.tmp 2]) Try.func85 rfl rfl rfl rfl (Nat.le_of_ble_eq_true rfl) ?_
 intro c hnt hk
 refine w_seq ?_
 refine w_R ?_
 refine qa hnt rfl rfl ?_
 refine r_end ?_
 refine q_then ?_
 refine w_seq ?_
 refine w_R ?_
 refine qm hnt rfl rfl ?_
 refine qo hnt rfl (s_geq rfl rfl ?_)
 refine qm hnt rfl rfl ?_
 refine r_cut0 3 [(2, pB false), (8, pB ((decide (0 ≤ n)) && (decide (n ≤ 65535))))] ?_ ?_
 ·
  refine r_if tabOk hnt rfl rfl rfl (fun g1 => ?_) (fun g1 => ?_)
  ·
   have g1' := g1
   try simp only [sB] at g1'
   refine qm hnt rfl rfl ?_
   refine ry hnt rfl rfl rfl g1 ?_
   refine qo hnt rfl (s_leq rfl rfl ?_)
   refine qo hnt rfl (s_pick_t rfl g1 rfl ?_)
   refine r_eq (s := 8) (y := pB ((decide (0 ≤ n)) && (decide (n ≤ 65535)))) rfl (mix_at g1) ?_
   exact r_mid ⟨⟨rfl, rfl, trivial⟩, rfl, rfl⟩
  ·
   have g1' := g1
   try simp only [sB] at g1'
   refine rn hnt rfl rfl rfl g1 ?_
   refine qo hnt rfl (s_pick_f rfl g1 rfl ?_)
   refine r_eq (s := 8) (y := pB ((decide (0 ≤ n)) && (decide (n ≤ 65535)))) rfl (mix_af _ g1) ?_
   exact r_mid ⟨⟨rfl, rfl, trivial⟩, rfl, rfl⟩
 ·
  refine qa hnt rfl rfl ?_
  refine r_end ?_
  refine q_then ?_
  refine w_le (s := 2) (y := pB (wordOk n)) rfl (le_of_eq (congrArg (fun z : Bool => pB z) (show ((decide (0 ≤ n)) && (decide (n ≤ 65535))) = (wordOk n) by unfold wordOk; apply Bool.eq_iff_iff.2; simp only [Bool.and_eq_true, Bool.or_eq_true, decide_eq_true_eq]; try omega))) ?_
  refine w_ret ?_
  exact fin_plain (ret_tmp rfl ret_nil) rfl rfl ⟨rfl, rfl, rfl⟩
theorem w_burgageref3_uses (n : Int)  :
    T Try.prog 83 [pI n] 0 [] (Ret (pT (usesS n)) 0 []) := by
 refine t_fun tabOk (n := 23) (rs := [.tmp 2]) Try.func83 rfl rfl rfl rfl (Nat.le_of_ble_eq_true rfl) ?_
 intro c hnt hk
 refine w_seq ?_
 refine w_R ?_
 refine qa hnt rfl rfl ?_
 refine r_end ?_
 refine q_then ?_
 refine w_seq ?_
 refine w_seq ?_
 refine w_R ?_
 refine qm hnt rfl rfl ?_
 refine r_end ?_
 refine q_then ?_
 refine w_block ?_
 refine w_seq ?_
 refine w_seq ?_
 refine w_R ?_
 refine qo hnt rfl (s_eql rfl rfl ?_)
 refine qa hnt rfl rfl ?_
 refine r_end ?_
 refine q_then ?_
 refine w_if rfl (fun c1 => ?_) (fun c1 => ?_)
 ·
  have c1_ := c1
  try simp only [sB] at c1
  refine w_skip ?_
  refine q_then ?_
  refine w_if rfl (fun _ => ?_) (fun e => absurd (e.symm.trans c1_) (by decide))
  refine w_seq ?_
  refine w_R ?_
  refine qa hnt rfl rfl ?_
  refine r_end ?_
  refine q_then ?_
  refine w_le (s := 2) (y := pT (usesS n)) rfl (le_of_eq (congrArg (fun z : List UInt8 => pT z) (show ([97, 99] : List UInt8) = (usesS n) by first | (simp [usesS, *]; done) | simp [usesS, *]))) ?_
  refine w_ret ?_
  refine q_block_ret ?_
  refine q_then_ret ?_
  exact fin_plain (ret_tmp rfl ret_nil) rfl rfl ⟨rfl, rfl, rfl⟩
 ·
  have c1_ := c1
  try simp only [sB] at c1
  refine w_seq ?_
  refine w_R ?_
  refine qo hnt rfl (s_eql rfl rfl ?_)
  refine qa hnt rfl rfl ?_
  refine r_end ?_
  refine q_then ?_
  refine w_if rfl (fun c2 => ?_) (fun c2 => ?_)
  ·
   have c2_ := c2
   try simp only [sB] at c2
   refine w_skip ?_
   refine q_then ?_
   refine w_if rfl (fun _ => ?_) (fun e => absurd (e.symm.trans c2_) (by decide))
   refine w_seq ?_
   refine w_R ?_
   refine qa hnt rfl rfl ?_
   refine r_end ?_
   refine q_then ?_
   refine w_le (s := 2) (y := pT (usesS n)) rfl (le_of_eq (congrArg (fun z : List UInt8 => pT z) (show ([97, 99] : List UInt8) = (usesS n) by first | (simp [usesS, *]; done) | simp [usesS, *]))) ?_
   refine w_ret ?_
   refine q_block_ret ?_
   refine q_then_ret ?_
   exact fin_plain (ret_tmp rfl ret_nil) rfl rfl ⟨rfl, rfl, rfl⟩
  ·
   have c2_ := c2
   try simp only [sB] at c2
   refine w_seq ?_
   refine w_R ?_
   refine qo hnt rfl (s_eql rfl rfl ?_)
   refine qa hnt rfl rfl ?_
   refine r_end ?_
   refine q_then ?_
   refine w_if rfl (fun c3 => ?_) (fun c3 => ?_)
   ·
    have c3_ := c3
    try simp only [sB] at c3
    refine w_skip ?_
    refine q_then ?_
    refine w_if rfl (fun _ => ?_) (fun e => absurd (e.symm.trans c3_) (by decide))
    refine w_seq ?_
    refine w_R ?_
    refine qa hnt rfl rfl ?_
    refine r_end ?_
    refine q_then ?_
    refine w_le (s := 2) (y := pT (usesS n)) rfl (le_of_eq (congrArg (fun z : List UInt8 => pT z) (show ([97, 99] : List UInt8) = (usesS n) by first | (simp [usesS, *]; done) | simp [usesS, *]))) ?_
    refine w_ret ?_
    refine q_block_ret ?_
    refine q_then_ret ?_
    exact fin_plain (ret_tmp rfl ret_nil) rfl rfl ⟨rfl, rfl, rfl⟩
   ·
    have c3_ := c3
    try simp only [sB] at c3
    refine w_R ?_
    refine qo hnt rfl (s_eql rfl rfl ?_)
    refine qa hnt rfl rfl ?_
    refine r_end ?_
    refine q_then ?_
    refine w_if rfl (fun c4 => ?_) (fun c4 => ?_)
    ·
     have c4_ := c4
     try simp only [sB] at c4
     refine w_seq ?_
     refine w_R ?_
     refine qa hnt rfl rfl ?_
     refine r_end ?_
     refine q_then ?_
     refine w_le (s := 2) (y := pT (usesS n)) rfl (le_of_eq (congrArg (fun z : List UInt8 => pT z) (show ([97, 99] : List UInt8) = (usesS n) by first | (simp [usesS, *]; done) | simp [usesS, *]))) ?_
     refine w_ret ?_
     refine q_block_ret ?_
     refine q_then_ret ?_
     exact fin_plain (ret_tmp rfl ret_nil) rfl rfl ⟨rfl, rfl, rfl⟩
    ·
     have c4_ := c4
     try simp only [sB] at c4
     refine w_seq ?_
     refine w_R ?_
     refine qo hnt rfl (s_eql rfl rfl ?_)
     refine qa hnt rfl rfl ?_
     refine r_end ?_
     refine q_then ?_
     refine w_if rfl (fun c5 => ?_) (fun c5 => ?_)
     ·
      have c5_ := c5
      try simp only [sB] at c5
      refine w_seq ?_
      refine w_R ?_
      refine qa hnt rfl rfl ?_
      refine r_end ?_
      refine q_then ?_
      refine w_le (s := 2) (y := pT (usesS n)) rfl (le_of_eq (congrArg (fun z : List UInt8 => pT z) (show ([97, 98] : List UInt8) = (usesS n) by first | (simp [usesS, *]; done) | simp [usesS, *]))) ?_
      refine w_ret ?_
      refine q_block_ret ?_
      refine q_then_ret ?_
      exact fin_plain (ret_tmp rfl ret_nil) rfl rfl ⟨rfl, rfl, rfl⟩
     ·
      have c5_ := c5
      try simp only [sB] at c5
      refine w_seq ?_
      refine w_R ?_
      refine qo hnt rfl (s_eql rfl rfl ?_)
      refine qa hnt rfl rfl ?_
      refine r_end ?_
      refine q_then ?_
      refine w_if rfl (fun c6 => ?_) (fun c6 => ?_)
      ·
       have c6_ := c6
       try simp only [sB] at c6
       refine w_seq ?_
       refine w_R ?_
       refine qa hnt rfl rfl ?_
       refine r_end ?_
       refine q_then ?_
       refine w_le (s := 2) (y := pT (usesS n)) rfl (le_of_eq (congrArg (fun z : List UInt8 => pT z) (show ([97, 118] : List UInt8) = (usesS n) by first | (simp [usesS, *]; done) | simp [usesS, *]))) ?_
       refine w_ret ?_
       refine q_block_ret ?_
       refine q_then_ret ?_
       exact fin_plain (ret_tmp rfl ret_nil) rfl rfl ⟨rfl, rfl, rfl⟩
      ·
       have c6_ := c6
       try simp only [sB] at c6
       refine w_seq ?_
       refine w_R ?_
       refine qo hnt rfl (s_eql rfl rfl ?_)
       refine qa hnt rfl rfl ?_
       refine r_end ?_
       refine q_then ?_
       refine w_if rfl (fun c7 => ?_) (fun c7 => ?_)
       ·
        have c7_ := c7
        try simp only [sB] at c7
        refine w_seq ?_
        refine w_R ?_
        refine qa hnt rfl rfl ?_
        refine r_end ?_
        refine q_then ?_
        refine w_le (s := 2) (y := pT (usesS n)) rfl (le_of_eq (congrArg (fun z : List UInt8 => pT z) (show ([115, 118] : List UInt8) = (usesS n) by first | (simp [usesS, *]; done) | simp [usesS, *]))) ?_
        refine w_ret ?_
        refine q_block_ret ?_
        refine q_then_ret ?_
        exact fin_plain (ret_tmp rfl ret_nil) rfl rfl ⟨rfl, rfl, rfl⟩
       ·
        have c7_ := c7
        try simp only [sB] at c7
        refine w_seq ?_
        refine w_R ?_
        refine qo hnt rfl (s_eql rfl rfl ?_)
        refine qa hnt rfl rfl ?_
        refine r_end ?_
        refine q_then ?_
        refine w_if rfl (fun c8 => ?_) (fun c8 => ?_)
        ·
         have c8_ := c8
         try simp only [sB] at c8
         refine w_seq ?_
         refine w_R ?_
         refine qa hnt rfl rfl ?_
         refine r_end ?_
         refine q_then ?_
         refine w_le (s := 2) (y := pT (usesS n)) rfl (le_of_eq (congrArg (fun z : List UInt8 => pT z) (show ([97, 99, 98] : List UInt8) = (usesS n) by first | (simp [usesS, *]; done) | simp [usesS, *]))) ?_
         refine w_ret ?_
         refine q_block_ret ?_
         refine q_then_ret ?_
         exact fin_plain (ret_tmp rfl ret_nil) rfl rfl ⟨rfl, rfl, rfl⟩
        ·
         have c8_ := c8
         try simp only [sB] at c8
         refine w_seq ?_
         refine w_R ?_
         refine qo hnt rfl (s_eql rfl rfl ?_)
         refine qa hnt rfl rfl ?_
         refine r_end ?_
         refine q_then ?_
         refine w_if rfl (fun c9 => ?_) (fun c9 => ?_)
         ·
          have c9_ := c9
          try simp only [sB] at c9
          refine w_seq ?_
          refine w_R ?_
          refine qa hnt rfl rfl ?_
          refine r_end ?_
          refine q_then ?_
          refine w_le (s := 2) (y := pT (usesS n)) rfl (le_of_eq (congrArg (fun z : List UInt8 => pT z) (show ([97, 99, 118] : List UInt8) = (usesS n) by first | (simp [usesS, *]; done) | simp [usesS, *]))) ?_
          refine w_ret ?_
          refine q_block_ret ?_
          refine q_then_ret ?_
          exact fin_plain (ret_tmp rfl ret_nil) rfl rfl ⟨rfl, rfl, rfl⟩
         ·
          have c9_ := c9
          try simp only [sB] at c9
          refine w_seq ?_
          refine w_R ?_
          refine qo hnt rfl (s_eql rfl rfl ?_)
          refine qa hnt rfl rfl ?_
          refine r_end ?_
          refine q_then ?_
          refine w_if rfl (fun c10 => ?_) (fun c10 => ?_)
          ·
           have c10_ := c10
           try simp only [sB] at c10
           refine w_seq ?_
           refine w_R ?_
           refine qa hnt rfl rfl ?_
           refine r_end ?_
           refine q_then ?_
           refine w_le (s := 2) (y := pT (usesS n)) rfl (le_of_eq (congrArg (fun z : List UInt8 => pT z) (show ([97, 109] : List UInt8) = (usesS n) by first | (simp [usesS, *]; done) | simp [usesS, *]))) ?_
           refine w_ret ?_
           refine q_block_ret ?_
           refine q_then_ret ?_
           exact fin_plain (ret_tmp rfl ret_nil) rfl rfl ⟨rfl, rfl, rfl⟩
          ·
           have c10_ := c10
           try simp only [sB] at c10
           refine w_seq ?_
           refine w_R ?_
           refine qo hnt rfl (s_eql rfl rfl ?_)
           refine qa hnt rfl rfl ?_
           refine r_end ?_
           refine q_then ?_
           refine w_if rfl (fun c11 => ?_) (fun c11 => ?_)
           ·
            have c11_ := c11
            try simp only [sB] at c11
            refine w_seq ?_
            refine w_R ?_
            refine qa hnt rfl rfl ?_
            refine r_end ?_
            refine q_then ?_
            refine w_le (s := 2) (y := pT (usesS n)) rfl (le_of_eq (congrArg (fun z : List UInt8 => pT z) (show ([97, 99, 119, 118] : List UInt8) = (usesS n) by first | (simp [usesS, *]; done) | simp [usesS, *]))) ?_
            refine w_ret ?_
            refine q_block_ret ?_
            refine q_then_ret ?_
            exact fin_plain (ret_tmp rfl ret_nil) rfl rfl ⟨rfl, rfl, rfl⟩
           ·
            have c11_ := c11
            try simp only [sB] at c11
            refine w_skip ?_
            refine q_block ?_
            refine q_then ?_
            refine w_seq ?_
            refine w_R ?_
            refine qa hnt rfl rfl ?_
            refine r_end ?_
            refine q_then ?_
            refine w_le (s := 2) (y := pT (usesS n)) rfl (le_of_eq (congrArg (fun z : List UInt8 => pT z) (show ([] : List UInt8) = (usesS n) by first | (simp [usesS, *]; done) | simp [usesS, *]))) ?_
            refine w_ret ?_
            exact fin_plain (ret_tmp rfl ret_nil) rfl rfl ⟨rfl, rfl, rfl⟩
theorem w_burgageref3_in (s : List UInt8) (ch : UInt8) (hs : s.length ≤ 140737488351232) :
    T Try.prog 84 [pT s, p8 ch] 0 [] (Ret (pB (inS s ch)) 0 []) := by
 refine t_fun tabOk (n := 17) (rs := [.tmp 4]) Try.func84 rfl rfl rfl rfl (Nat.le_of_ble_eq_true rfl) ?_
 intro c hnt hk
 refine w_seq ?_
 refine w_R ?_
 refine qa hnt rfl rfl ?_
 refine r_end ?_
 refine q_then ?_
 refine w_seq ?_
 refine w_seq ?_
 refine w_R ?_
 refine qa hnt rfl rfl ?_
 refine r_end ?_
 refine q_then ?_
 refine w_block ?_
 refine loop1 (fun (i : Nat) => i ≤ s.length ∧ ∀ x ∈ s.take i, x ≠ ch) (fun (i : Nat) => [(0, pT s), (1, p8 ch), (5, pN i)]) 0 (fun (i : Nat) => []) (fun (i : Nat) => s.length - i) (0) ?_ ⟨[], rfl, ⟨⟨_, rfl, rfl, rfl⟩, ⟨_, rfl, rfl, rfl⟩, ⟨_, rfl, rfl, rfl⟩, trivial⟩, trivial, by rw [hk]; decide⟩ ?_
 · exact ⟨Nat.zero_le _, by simp⟩
 ·
  intro i hI
  obtain ⟨hi, hn⟩ := hI
  refine w_seq ?_
  refine w_seq ?_
  refine w_R ?_
  refine qm hnt rfl rfl ?_
  refine qm hnt rfl rfl ?_
  refine qo hnt rfl (s_lenT (l := s) tab_9 rfl rfl ?_)
  refine qo hnt rfl (s_lss rfl rfl ?_)
  refine r_end ?_
  refine q_then ?_
  refine w_if rfl (fun c1 => ?_) (fun c1 => ?_)
  ·
   have c1_ := c1
   try simp only [sB] at c1
   refine w_skip ?_
   refine q_then ?_
   refine w_seq ?_
   refine w_block ?_
   refine w_seq ?_
   refine w_R ?_
   refine qm hnt rfl rfl ?_
   refine qm hnt rfl rfl ?_
   obtain ⟨e1, he1⟩ := get_of_lt s (i := i) (by omega)
   refine qo hnt rfl (s_idxM (q := i) (b := e1) (s := s) tab_9 rfl rfl (by omega) rfl he1 ?_)
   refine qm hnt rfl rfl ?_
   refine qo hnt rfl (s_eql8 (a := e1) (b := ch) rfl rfl ?_)
   refine r_end ?_
   refine q_then ?_
   refine w_if rfl (fun c2 => ?_) (fun c2 => ?_)
   ·
    have c2_ := c2
    try simp only [sB] at c2
    refine w_seq ?_
    refine w_R ?_
    refine qa hnt rfl rfl ?_
    refine r_end ?_
    refine q_then ?_
    refine w_le (s := 4) (y := pB (inS s ch)) rfl (le_of_eq (congrArg (fun z : Bool => pB z) (show true = (inS s ch) by unfold inS; exact (decide_eq_true (by rw [← (by simpa using c2 : e1 = ch)]; exact List.mem_of_getElem? he1)).symm))) ?_
    refine w_ret ?_
    refine q_block_ret ?_
    refine q_then_ret ?_
    refine q_then_ret ?_
    refine q_block_ret ?_
    refine q_then_ret ?_
    exact fin_plain (ret_tmp rfl ret_nil) rfl rfl ⟨rfl, rfl, rfl⟩
   ·
    have c2_ := c2
    try simp only [sB] at c2
    refine w_skip ?_
    refine q_block ?_
    refine q_then ?_
    refine w_R ?_
    refine qm hnt rfl rfl ?_
    refine qo hnt rfl (s_addN (a := i) (b := 1) rfl rfl (by omega) (by omega) (by omega) ?_)
    refine qa hnt rfl rfl ?_
    refine r_end ?_
    refine q_then ?_
    refine ⟨(i + 1), ?_, ?_, ⟨[], rfl, ⟨⟨_, rfl, rfl, rfl⟩, ⟨_, rfl, rfl, rfl⟩, ⟨_, rfl, rfl, rfl⟩, trivial⟩, trivial, by rw [hk]; decide⟩⟩
    ·
     refine ⟨by omega, fun x hx => ?_⟩
     rw [List.take_add_one, he1] at hx
     rcases List.mem_append.1 hx with h | h
     · exact hn x h
     · simp at h; subst h; simpa using c2
    · omega
  ·
   have c1_ := c1
   try simp only [sB] at c1
   have hn2 : ∀ x ∈ s, x ≠ ch := by rw [List.take_of_length_le (by omega)] at hn; exact hn
   refine w_exit ?_
   refine q_then_exit ?_
   refine q_then_exit ?_
   refine q_block_exit ?_
   refine q_then ?_
   refine w_seq ?_
   refine w_R ?_
   refine qa hnt rfl rfl ?_
   refine r_end ?_
   refine q_then ?_
   refine w_le (s := 4) (y := pB (inS s ch)) rfl (le_of_eq (congrArg (fun z : Bool => pB z) (show false = (inS s ch) by unfold inS; exact (decide_eq_false (fun h => hn2 _ h rfl)).symm))) ?_
   refine w_ret ?_
   exact fin_plain (ret_tmp rfl ret_nil) rfl rfl ⟨rfl, rfl, rfl⟩
theorem w_burgageref3_lists (r : TRequest) (hb : r.bits.length ≤ 140737488351232) (hv : r.vals.length ≤ 140737488351232) :
    T Try.prog 86 [PV.f (eRequest r)] 0 [] (Ret (pB (listsR r)) 0 []) := by
 refine t_fun tabOk (n := 46) (rs := [.tmp 2]) Try.func86 rfl rfl rfl rfl (Nat.le_of_ble_eq_true rfl) ?_
 intro c hnt hk
 refine w_seq ?_
 refine w_R ?_
 refine qo hnt rfl (s_box rfl rfl ?_)
 refine qa hnt rfl rfl ?_
 refine r_set [(1, PV.ptr 0 0)] [(0, .obj [pI r.fn, pI r.at_, pI r.count, pI r.wAt, pI r.sub, pS 1 false encBo r.bits, pS 1 false enc16 r.vals, p16 r.and_, p16 r.or_])] 1 ⟨rfl, trivial⟩ rfl rfl ?_
 refine r_end ?_
 refine q_then ?_
 refine w_seq ?_
 refine W_drawn tabOk mixed hnt [[], [0], [0, 1], [], [3], [3, 4], [0, 1, 2], [0, 1, 2, 3, 4, 5, 6]] (by kernel_rfl) ?_
 refine d_op ?_
 refine x_run0 [(1, PV.ptr 0 0)] [] rfl rfl rfl rfl (s_fa_ptr tab_107 rfl rfl tab_44 (by decide) rfl ⟨rfl, rfl, rfl⟩) ?_
 refine d_op ?_
 refine x_run [(5, PV.ptr 0 5)] [0] [(0, .obj [pI r.fn, pI r.at_, pI r.count, pI r.wAt, pI r.sub, pS 1 false encBo r.bits, pS 1 false enc16 r.vals, p16 r.and_, p16 r.or_])] [] [(0, .obj [pI r.fn, pI r.at_, pI r.count, pI r.wAt, pI r.sub, pS 1 false encBo r.bits, pS 1 false enc16 r.vals, p16 r.and_, p16 r.or_])] [] [(0, .obj [pI r.fn, pI r.at_, pI r.count, pI r.wAt, pI r.sub, pS 1 false encBo r.bits, pS 1 false enc16 r.vals, p16 r.and_, p16 r.or_])] rfl rfl rfl rfl rfl rfl (s_load_ptr1 tab_44 rfl rfl rfl rfl rfl ⟨rfl, rfl, rfl⟩) rfl ⟨rfl, trivial⟩ rfl rfl ?_
 refine d_op ?_
 refine x_run0 [(6, pS 1 false encBo r.bits)] [0, 1] rfl rfl rfl rfl (s_lenM (l := r.bits) tab_44 rfl (hM_sl (f := encBo) rfl) ⟨rfl, rfl, rfl⟩) ?_
 refine d_op ?_
 refine x_run0 [(1, PV.ptr 0 0)] [] rfl rfl rfl rfl (s_fa_ptr tab_107 rfl rfl tab_45 (by decide) rfl ⟨rfl, rfl, rfl⟩) ?_
 refine d_op ?_
 refine x_run [(8, PV.ptr 0 6)] [3] [(0, .obj [pI r.fn, pI r.at_, pI r.count, pI r.wAt, pI r.sub, pS 1 false encBo r.bits, pS 1 false enc16 r.vals, p16 r.and_, p16 r.or_])] [] [(0, .obj [pI r.fn, pI r.at_, pI r.count, pI r.wAt, pI r.sub, pS 1 false encBo r.bits, pS 1 false enc16 r.vals, p16 r.and_, p16 r.or_])] [] [(0, .obj [pI r.fn, pI r.at_, pI r.count, pI r.wAt, pI r.sub, pS 1 false encBo r.bits, pS 1 false enc16 r.vals, p16 r.and_, p16 r.or_])] rfl rfl rfl rfl rfl rfl (s_load_ptr1 tab_45 rfl rfl rfl rfl rfl ⟨rfl, rfl, rfl⟩) rfl ⟨rfl, trivial⟩ rfl rfl ?_
 refine d_op ?_
 refine x_run0 [(9, pS 1 false enc16 r.vals)] [3, 4] rfl rfl rfl rfl (s_lenM (l := r.vals) tab_45 rfl (hM_sl (f := enc16) rfl) ⟨rfl, rfl, rfl⟩) ?_
 refine d_op ?_
 refine x_run0 [(7, pN r.bits.length)] [0, 1, 2] rfl rfl rfl rfl (s_assign rfl ⟨rfl, rfl, rfl⟩) ?_
 refine d_op ?_
 refine x_run0 [(10, pN r.vals.length)] [0, 1, 2, 3, 4, 5, 6] rfl rfl rfl rfl (s_assign rfl ⟨rfl, rfl, rfl⟩) ?_
 refine d_end ⟨by kernel_rfl, ?_⟩
 refine q_then ?_
 refine w_seq ?_
 refine w_seq ?_
 refine w_R ?_
 refine qo hnt rfl (s_fa_ptr tab_107 rfl rfl tab_3 (by decide) rfl ?_)
 refine qo hnt rfl (s_load_ptr1 tab_3 rfl rfl rfl rfl rfl ?_)
 refine r_end ?_
 refine q_then ?_
 refine w_block ?_
 refine w_seq ?_
 refine w_R ?_
 refine qo hnt rfl (s_eql rfl rfl ?_)
 refine qa hnt rfl rfl ?_
 refine r_end ?_
 refine q_then ?_
 refine w_if rfl (fun c1 => ?_) (fun c1 => ?_)
 ·
  have c1_ := c1
  try simp only [sB] at c1
  refine w_seq ?_
  refine w_R ?_
  refine qm hnt rfl rfl ?_
  refine qo hnt rfl (s_eql rfl rfl ?_)
  refine qa hnt rfl rfl ?_
  refine r_end ?_
  refine q_then ?_
  refine w_le (s := 2) (y := pB (listsR r)) rfl (le_of_eq (congrArg (fun z : Bool => pB z) (show (decide (((r.bits.length : Nat) : Int) = 1)) = (listsR r) by first | exact (listsR_5 (by assumption)).symm | exact (listsR_6 (by assumption)).symm | exact (listsR_8 (by assumption)).symm | exact (listsR_15 (by assumption)).symm | exact (listsR_16 (by assumption)).symm | exact (listsR_23 (by assumption)).symm | exact (listsR_no (by omega)).symm))) ?_
  refine w_ret ?_
  refine q_block_ret ?_
  refine q_then_ret ?_
  exact fin_plain (ret_tmp rfl ret_nil) rfl rfl ⟨rfl, rfl, rfl⟩
 ·
  have c1_ := c1
  try simp only [sB] at c1
  refine w_seq ?_
  refine w_seq ?_
  refine w_R ?_
  refine qo hnt rfl (s_eql rfl rfl ?_)
  refine qa hnt rfl rfl ?_
  refine r_end ?_
  refine q_then ?_
  refine w_if rfl (fun c2 => ?_) (fun c2 => ?_)
  ·
   have c2_ := c2
   try simp only [sB] at c2
   refine w_skip ?_
   refine q_then ?_
   refine w_if rfl (fun _ => ?_) (fun e => absurd (e.symm.trans c2_) (by decide))
   refine w_seq ?_
   refine w_R ?_
   refine qm hnt rfl rfl ?_
   refine qo hnt rfl (s_eql rfl rfl ?_)
   refine qa hnt rfl rfl ?_
   refine r_end ?_
   refine q_then ?_
   refine w_le (s := 2) (y := pB (listsR r)) rfl (le_of_eq (congrArg (fun z : Bool => pB z) (show (decide (((r.vals.length : Nat) : Int) = 1)) = (listsR r) by first | exact (listsR_5 (by assumption)).symm | exact (listsR_6 (by assumption)).symm | exact (listsR_8 (by assumption)).symm | exact (listsR_15 (by assumption)).symm | exact (listsR_16 (by assumption)).symm | exact (listsR_23 (by assumption)).symm | exact (listsR_no (by omega)).symm))) ?_
   refine w_ret ?_
   refine q_block_ret ?_
   refine q_then_ret ?_
   exact fin_plain (ret_tmp rfl ret_nil) rfl rfl ⟨rfl, rfl, rfl⟩
  ·
   have c2_ := c2
   try simp only [sB] at c2
   refine w_R ?_
   refine qo hnt rfl (s_eql rfl rfl ?_)
   refine qa hnt rfl rfl ?_
   refine r_end ?_
   refine q_then ?_
   refine w_if rfl (fun c3 => ?_) (fun c3 => ?_)
   ·
    have c3_ := c3
    try simp only [sB] at c3
    refine w_seq ?_
    refine w_R ?_
    refine qm hnt rfl rfl ?_
    refine qo hnt rfl (s_eql rfl rfl ?_)
    refine qa hnt rfl rfl ?_
    refine r_end ?_
    refine q_then ?_
    refine w_le (s := 2) (y := pB (listsR r)) rfl (le_of_eq (congrArg (fun z : Bool => pB z) (show (decide (((r.vals.length : Nat) : Int) = 1)) = (listsR r) by first | exact (listsR_5 (by assumption)).symm | exact (listsR_6 (by assumption)).symm | exact (listsR_8 (by assumption)).symm | exact (listsR_15 (by assumption)).symm | exact (listsR_16 (by assumption)).symm | exact (listsR_23 (by assumption)).symm | exact (listsR_no (by omega)).symm))) ?_
    refine w_ret ?_
    refine q_block_ret ?_
    refine q_then_ret ?_
    exact fin_plain (ret_tmp rfl ret_nil) rfl rfl ⟨rfl, rfl, rfl⟩
   ·
    have c3_ := c3
    try simp only [sB] at c3
    refine w_seq ?_
    refine w_R ?_
    refine qo hnt rfl (s_eql rfl rfl ?_)
    refine qa hnt rfl rfl ?_
    refine r_end ?_
    refine q_then ?_
    refine w_if rfl (fun c4 => ?_) (fun c4 => ?_)
    ·
     have c4_ := c4
     try simp only [sB] at c4
     refine w_seq ?_
     refine w_R ?_
     refine qm hnt rfl rfl ?_
     refine qo hnt rfl (s_fa_ptr tab_107 rfl rfl tab_3 (by decide) rfl ?_)
     refine qo hnt rfl (s_load_ptr1 tab_3 rfl rfl rfl rfl rfl ?_)
     refine qo hnt rfl (s_eql rfl rfl ?_)
     refine qm hnt rfl rfl ?_
     refine r_cut0 3 [(31, pB ((decide (((r.bits.length : Nat) : Int) = r.count)) && (decide (((r.bits.length : Nat) : Int) ≤ 2040))))] ?_ ?_
     ·
      refine r_if tabOk hnt rfl rfl rfl (fun g1 => ?_) (fun g1 => ?_)
      ·
       have g1' := g1
       try simp only [sB] at g1'
       refine qm hnt rfl rfl ?_
       refine ry hnt rfl rfl rfl g1 ?_
       refine qo hnt rfl (s_leq rfl rfl ?_)
       refine qo hnt rfl (s_pick_t rfl g1 rfl ?_)
       refine r_eq (s := 31) (y := pB ((decide (((r.bits.length : Nat) : Int) = r.count)) && (decide (((r.bits.length : Nat) : Int) ≤ 2040)))) rfl (mix_at g1) ?_
       exact r_mid ⟨⟨rfl, trivial⟩, rfl, rfl⟩
      ·
       have g1' := g1
       try simp only [sB] at g1'
       refine rn hnt rfl rfl rfl g1 ?_
       refine qo hnt rfl (s_pick_f rfl g1 rfl ?_)
       refine r_eq (s := 31) (y := pB ((decide (((r.bits.length : Nat) : Int) = r.count)) && (decide (((r.bits.length : Nat) : Int) ≤ 2040)))) rfl (mix_af _ g1) ?_
       exact r_mid ⟨⟨rfl, trivial⟩, rfl, rfl⟩
     ·
      refine qa hnt rfl rfl ?_
      refine r_end ?_
      refine q_then ?_
      refine w_le (s := 2) (y := pB (listsR r)) rfl (le_of_eq (congrArg (fun z : Bool => pB z) (show ((decide (((r.bits.length : Nat) : Int) = r.count)) && (decide (((r.bits.length : Nat) : Int) ≤ 2040))) = (listsR r) by first | exact (listsR_5 (by assumption)).symm | exact (listsR_6 (by assumption)).symm | exact (listsR_8 (by assumption)).symm | exact (listsR_15 (by assumption)).symm | exact (listsR_16 (by assumption)).symm | exact (listsR_23 (by assumption)).symm | exact (listsR_no (by omega)).symm))) ?_
      refine w_ret ?_
      refine q_block_ret ?_
      refine q_then_ret ?_
      exact fin_plain (ret_tmp rfl ret_nil) rfl rfl ⟨rfl, rfl, rfl⟩
    ·
     have c4_ := c4
     try simp only [sB] at c4
     refine w_seq ?_
     refine w_R ?_
     refine qo hnt rfl (s_eql rfl rfl ?_)
     refine qa hnt rfl rfl ?_
     refine r_end ?_
     refine q_then ?_
     refine w_if rfl (fun c5 => ?_) (fun c5 => ?_)
     ·
      have c5_ := c5
      try simp only [sB] at c5
      refine w_seq ?_
      refine w_R ?_
      refine qm hnt rfl rfl ?_
      refine qo hnt rfl (s_fa_ptr tab_107 rfl rfl tab_3 (by decide) rfl ?_)
      refine qo hnt rfl (s_load_ptr1 tab_3 rfl rfl rfl rfl rfl ?_)
      refine qo hnt rfl (s_eql rfl rfl ?_)
      refine qm hnt rfl rfl ?_
      refine r_cut0 3 [(41, pB ((decide (((r.vals.length : Nat) : Int) = r.count)) && (decide (((r.vals.length : Nat) : Int) ≤ 127))))] ?_ ?_
      ·
       refine r_if tabOk hnt rfl rfl rfl (fun g2 => ?_) (fun g2 => ?_)
       ·
        have g2' := g2
        try simp only [sB] at g2'
        refine qm hnt rfl rfl ?_
        refine ry hnt rfl rfl rfl g2 ?_
        refine qo hnt rfl (s_leq rfl rfl ?_)
        refine qo hnt rfl (s_pick_t rfl g2 rfl ?_)
        refine r_eq (s := 41) (y := pB ((decide (((r.vals.length : Nat) : Int) = r.count)) && (decide (((r.vals.length : Nat) : Int) ≤ 127)))) rfl (mix_at g2) ?_
        exact r_mid ⟨⟨rfl, trivial⟩, rfl, rfl⟩
       ·
        have g2' := g2
        try simp only [sB] at g2'
        refine rn hnt rfl rfl rfl g2 ?_
        refine qo hnt rfl (s_pick_f rfl g2 rfl ?_)
        refine r_eq (s := 41) (y := pB ((decide (((r.vals.length : Nat) : Int) = r.count)) && (decide (((r.vals.length : Nat) : Int) ≤ 127)))) rfl (mix_af _ g2) ?_
        exact r_mid ⟨⟨rfl, trivial⟩, rfl, rfl⟩
      ·
       refine qa hnt rfl rfl ?_
       refine r_end ?_
       refine q_then ?_
       refine w_le (s := 2) (y := pB (listsR r)) rfl (le_of_eq (congrArg (fun z : Bool => pB z) (show ((decide (((r.vals.length : Nat) : Int) = r.count)) && (decide (((r.vals.length : Nat) : Int) ≤ 127))) = (listsR r) by first | exact (listsR_5 (by assumption)).symm | exact (listsR_6 (by assumption)).symm | exact (listsR_8 (by assumption)).symm | exact (listsR_15 (by assumption)).symm | exact (listsR_16 (by assumption)).symm | exact (listsR_23 (by assumption)).symm | exact (listsR_no (by omega)).symm))) ?_
       refine w_ret ?_
       refine q_block_ret ?_
       refine q_then_ret ?_
       exact fin_plain (ret_tmp rfl ret_nil) rfl rfl ⟨rfl, rfl, rfl⟩
     ·
      have c5_ := c5
      try simp only [sB] at c5
      refine w_seq ?_
      refine w_R ?_
      refine qo hnt rfl (s_eql rfl rfl ?_)
      refine qa hnt rfl rfl ?_
      refine r_end ?_
      refine q_then ?_
      refine w_if rfl (fun c6 => ?_) (fun c6 => ?_)
      ·
       have c6_ := c6
       try simp only [sB] at c6
       refine w_seq ?_
       refine w_R ?_
       refine qm hnt rfl rfl ?_
       refine qo hnt rfl (s_leq rfl rfl ?_)
       refine qa hnt rfl rfl ?_
       refine r_end ?_
       refine q_then ?_
       refine w_le (s := 2) (y := pB (listsR r)) rfl (le_of_eq (congrArg (fun z : Bool => pB z) (show (decide (((r.vals.length : Nat) : Int) ≤ 127)) = (listsR r) by first | exact (listsR_5 (by assumption)).symm | exact (listsR_6 (by assumption)).symm | exact (listsR_8 (by assumption)).symm | exact (listsR_15 (by assumption)).symm | exact (listsR_16 (by assumption)).symm | exact (listsR_23 (by assumption)).symm | exact (listsR_no (by omega)).symm))) ?_
       refine w_ret ?_
       refine q_block_ret ?_
       refine q_then_ret ?_
       exact fin_plain (ret_tmp rfl ret_nil) rfl rfl ⟨rfl, rfl, rfl⟩
      ·
       have c6_ := c6
       try simp only [sB] at c6
       refine w_skip ?_
       refine q_block ?_
       refine q_then ?_
       refine w_seq ?_
       refine w_R ?_
       refine qa hnt rfl rfl ?_
       refine r_end ?_
       refine q_then ?_
       refine w_le (s := 2) (y := pB (listsR r)) rfl (le_of_eq (congrArg (fun z : Bool => pB z) (show true = (listsR r) by first | exact (listsR_5 (by assumption)).symm | exact (listsR_6 (by assumption)).symm | exact (listsR_8 (by assumption)).symm | exact (listsR_15 (by assumption)).symm | exact (listsR_16 (by assumption)).symm | exact (listsR_23 (by assumption)).symm | exact (listsR_no (by omega)).symm))) ?_
       refine w_ret ?_
       exact fin_plain (ret_tmp rfl ret_nil) rfl rfl ⟨rfl, rfl, rfl⟩
theorem w_burgageref3_Right (r : TRequest) (hb : r.bits.length ≤ 140737488351232) (hv : r.vals.length ≤ 140737488351232) :
    T Try.prog 79 [PV.f (eRequest r)] 0 [] (Ret (pI (rightR r)) 0 []) := by
 refine t_fun tabOk (n := 113) (rs := [.tmp 2]) Try.func79 rfl rfl rfl rfl (Nat.le_of_ble_eq_true rfl) ?_
 intro c hnt hk
 refine w_seq ?_
 refine w_R ?_
 refine qo hnt rfl (s_box rfl rfl ?_)
 refine qa hnt rfl rfl ?_
 refine r_set [(1, PV.ptr 0 0)] [(0, .obj [pI r.fn, pI r.at_, pI r.count, pI r.wAt, pI r.sub, pS 1 false encBo r.bits, pS 1 false enc16 r.vals, p16 r.and_, p16 r.or_])] 1 ⟨rfl, trivial⟩ rfl rfl ?_
 refine r_end ?_
 refine q_then ?_
 refine w_seq ?_
 refine w_seq ?_
 refine w_R ?_
 refine qo hnt rfl (s_fa_ptr tab_107 rfl rfl tab_3 (by decide) rfl ?_)
 refine qo hnt rfl (s_load_ptr1 tab_3 rfl rfl rfl rfl rfl ?_)
 refine qo hnt rfl (s_callF rfl rfl rfl (w_burgageref3_Has r.fn) rfl ?_)
 refine qo hnt rfl (s_not rfl ?_)
 refine r_end ?_
 refine q_then ?_
 refine w_if rfl (fun c1 => ?_) (fun c1 => ?_)
 ·
  have c1_ := c1
  try simp only [sB] at c1
  refine w_seq ?_
  refine w_R ?_
  refine qa hnt rfl rfl ?_
  refine r_end ?_
  refine q_then ?_
  refine w_le (s := 2) (y := pI (rightR r)) rfl (le_of_eq (congrArg (fun z : Int => pI z) (show 15 = (rightR r) by exact (rightR_1 c1_).symm))) ?_
  refine w_ret ?_
  refine q_then_ret ?_
  exact fin_plain (ret_tmp rfl ret_nil) rfl rfl ⟨rfl, rfl, rfl⟩
 ·
  have c1_ := c1
  try simp only [sB] at c1
  refine w_skip ?_
  refine q_then ?_
  refine w_seq ?_
  refine w_R ?_
  refine qo hnt rfl (s_fa_ptr tab_107 rfl rfl tab_3 (by decide) rfl ?_)
  refine qo hnt rfl (s_load_ptr1 tab_3 rfl rfl rfl rfl rfl ?_)
  refine qo hnt rfl (s_callF rfl rfl rfl (w_burgageref3_uses r.fn) rfl ?_)
  refine qa hnt rfl rfl ?_
  refine r_end ?_
  refine q_then ?_
  refine w_seq ?_
  refine w_seq ?_
  refine w_R ?_
  refine qm hnt rfl rfl ?_
  refine qo hnt rfl (s_callF rfl rfl rfl (w_burgageref3_in (usesS r.fn) 97 (by have := usesS_len r.fn; omega)) rfl ?_)
  refine qo hnt rfl (s_not rfl ?_)
  refine qm hnt rfl rfl ?_
  refine r_cut0 4 [(1, PV.ptr 0 0), (3, pT (usesS r.fn)), (18, pB ((!(inS (usesS r.fn) 97)) && (!decide (r.at_ = 0))))] ?_ ?_
  ·
   refine r_if tabOk hnt rfl rfl rfl (fun g1 => ?_) (fun g1 => ?_)
   ·
    have g1' := g1
    try simp only [sB] at g1'
    refine qo hnt rfl (s_fa_ptr tab_107 rfl rfl tab_3 (by decide) rfl ?_)
    refine ry hnt rfl rfl rfl g1 ?_
    refine qo hnt rfl (s_load_ptr1 tab_3 rfl rfl rfl rfl rfl ?_)
    refine ry hnt rfl rfl rfl g1 ?_
    refine qo hnt rfl (s_neq rfl rfl ?_)
    refine qo hnt rfl (s_pick_t rfl g1 rfl ?_)
    refine r_eq (s := 18) (y := pB ((!(inS (usesS r.fn) 97)) && (!decide (r.at_ = 0)))) rfl (mix_at g1) ?_
    exact r_mid ⟨⟨rfl, rfl, rfl, trivial⟩, rfl, rfl⟩
   ·
    have g1' := g1
    try simp only [sB] at g1'
    refine rn hnt rfl rfl rfl g1 ?_
    refine rn hnt rfl rfl rfl g1 ?_
    refine qo hnt rfl (s_pick_f rfl g1 rfl ?_)
    refine r_eq (s := 18) (y := pB ((!(inS (usesS r.fn) 97)) && (!decide (r.at_ = 0)))) rfl (mix_af _ g1) ?_
    exact r_mid ⟨⟨rfl, rfl, rfl, trivial⟩, rfl, rfl⟩
  ·
   refine qm hnt rfl rfl ?_
   refine r_cut0 9 [(1, PV.ptr 0 0), (3, pT (usesS r.fn)), (28, pB (((!(inS (usesS r.fn) 97)) && (!decide (r.at_ = 0))) || ((!(inS (usesS r.fn) 99)) && (!decide (r.count = 0)))))] ?_ ?_
   ·
    refine r_if tabOk hnt rfl rfl rfl (fun g2 => ?_) (fun g2 => ?_)
    ·
     have g2' := g2
     try simp only [sB] at g2'
     refine qm hnt rfl rfl ?_
     refine ry hnt rfl rfl rfl g2 ?_
     refine qo hnt rfl (s_callF rfl rfl rfl (w_burgageref3_in (usesS r.fn) 99 (by have := usesS_len r.fn; omega)) rfl ?_)
     refine ry hnt rfl rfl rfl g2 ?_
     refine qo hnt rfl (s_not rfl ?_)
     refine ry hnt rfl rfl rfl g2 ?_
     refine qm hnt rfl rfl ?_
     refine r_cut0 4 [(1, PV.ptr 0 0), (3, pT (usesS r.fn)), (19, pB ((!(inS (usesS r.fn) 97)) && (!decide (r.at_ = 0)))), (27, pB ((!(inS (usesS r.fn) 99)) && (!decide (r.count = 0))))] ?_ ?_
     ·
      refine r_if tabOk hnt rfl rfl rfl (fun g3 => ?_) (fun g3 => ?_)
      ·
       have g3' := g3
       try simp only [sB] at g3'
       refine qo hnt rfl (s_fa_ptr tab_107 rfl rfl tab_3 (by decide) rfl ?_)
       refine ry hnt rfl rfl rfl g3 ?_
       refine qo hnt rfl (s_load_ptr1 tab_3 rfl rfl rfl rfl rfl ?_)
       refine ry hnt rfl rfl rfl g3 ?_
       refine qo hnt rfl (s_neq rfl rfl ?_)
       refine ry hnt rfl rfl rfl g2 ?_
       refine qo hnt rfl (s_pick_t rfl g3 rfl ?_)
       refine r_eq (s := 27) (y := pB ((!(inS (usesS r.fn) 99)) && (!decide (r.count = 0)))) rfl (mix_at g3) ?_
       exact r_mid ⟨⟨rfl, rfl, rfl, rfl, trivial⟩, rfl, rfl⟩
      ·
       have g3' := g3
       try simp only [sB] at g3'
       refine rn hnt rfl rfl rfl g3 ?_
       refine rn hnt rfl rfl rfl g3 ?_
       refine ry hnt rfl rfl rfl g2 ?_
       refine qo hnt rfl (s_pick_f rfl g3 rfl ?_)
       refine r_eq (s := 27) (y := pB ((!(inS (usesS r.fn) 99)) && (!decide (r.count = 0)))) rfl (mix_af _ g3) ?_
       exact r_mid ⟨⟨rfl, rfl, rfl, rfl, trivial⟩, rfl, rfl⟩
     ·
      refine qo hnt rfl (s_pick_f rfl g2 rfl ?_)
      refine r_eq (s := 28) (y := pB (((!(inS (usesS r.fn) 97)) && (!decide (r.at_ = 0))) || ((!(inS (usesS r.fn) 99)) && (!decide (r.count = 0))))) rfl (mix_of g2) ?_
      exact r_mid ⟨⟨rfl, rfl, rfl, trivial⟩, rfl, rfl⟩
    ·
     have g2' := g2
     try simp only [sB] at g2'
     refine rn hnt rfl rfl rfl g2 ?_
     refine rn hnt rfl rfl rfl g2 ?_
     refine rn hnt rfl rfl rfl g2 ?_
     refine ru hnt rfl rfl rfl ?_
     refine ru hnt rfl rfl rfl ?_
     refine ru hnt rfl rfl rfl ?_
     refine rn hnt rfl rfl rfl g2 ?_
     refine qo hnt rfl (s_pick_t rfl g2 rfl ?_)
     refine r_eq (s := 28) (y := pB (((!(inS (usesS r.fn) 97)) && (!decide (r.at_ = 0))) || ((!(inS (usesS r.fn) 99)) && (!decide (r.count = 0))))) rfl (mix_ot _ g2) ?_
     exact r_mid ⟨⟨rfl, rfl, rfl, trivial⟩, rfl, rfl⟩
   ·
    refine qm hnt rfl rfl ?_
    refine r_cut0 9 [(1, PV.ptr 0 0), (3, pT (usesS r.fn)), (38, pB ((((!(inS (usesS r.fn) 97)) && (!decide (r.at_ = 0))) || ((!(inS (usesS r.fn) 99)) && (!decide (r.count = 0)))) || ((!(inS (usesS r.fn) 119)) && (!decide (r.wAt = 0)))))] ?_ ?_
    ·
     refine r_if tabOk hnt rfl rfl rfl (fun g4 => ?_) (fun g4 => ?_)
     ·
      have g4' := g4
      try simp only [sB] at g4'
      refine qm hnt rfl rfl ?_
      refine ry hnt rfl rfl rfl g4 ?_
      refine qo hnt rfl (s_callF rfl rfl rfl (w_burgageref3_in (usesS r.fn) 119 (by have := usesS_len r.fn; omega)) rfl ?_)
      refine ry hnt rfl rfl rfl g4 ?_
      refine qo hnt rfl (s_not rfl ?_)
      refine ry hnt rfl rfl rfl g4 ?_
      refine qm hnt rfl rfl ?_
      refine r_cut0 4 [(1, PV.ptr 0 0), (3, pT (usesS r.fn)), (29, pB (((!(inS (usesS r.fn) 97)) && (!decide (r.at_ = 0))) || ((!(inS (usesS r.fn) 99)) && (!decide (r.count = 0))))), (37, pB ((!(inS (usesS r.fn) 119)) && (!decide (r.wAt = 0))))] ?_ ?_
      ·
       refine r_if tabOk hnt rfl rfl rfl (fun g5 => ?_) (fun g5 => ?_)
       ·
        have g5' := g5
        try simp only [sB] at g5'
        refine qo hnt rfl (s_fa_ptr tab_107 rfl rfl tab_3 (by decide) rfl ?_)
        refine ry hnt rfl rfl rfl g5 ?_
        refine qo hnt rfl (s_load_ptr1 tab_3 rfl rfl rfl rfl rfl ?_)
        refine ry hnt rfl rfl rfl g5 ?_
        refine qo hnt rfl (s_neq rfl rfl ?_)
        refine ry hnt rfl rfl rfl g4 ?_
        refine qo hnt rfl (s_pick_t rfl g5 rfl ?_)
        refine r_eq (s := 37) (y := pB ((!(inS (usesS r.fn) 119)) && (!decide (r.wAt = 0)))) rfl (mix_at g5) ?_
        exact r_mid ⟨⟨rfl, rfl, rfl, rfl, trivial⟩, rfl, rfl⟩
       ·
        have g5' := g5
        try simp only [sB] at g5'
        refine rn hnt rfl rfl rfl g5 ?_
        refine rn hnt rfl rfl rfl g5 ?_
        refine ry hnt rfl rfl rfl g4 ?_
        refine qo hnt rfl (s_pick_f rfl g5 rfl ?_)
        refine r_eq (s := 37) (y := pB ((!(inS (usesS r.fn) 119)) && (!decide (r.wAt = 0)))) rfl (mix_af _ g5) ?_
        exact r_mid ⟨⟨rfl, rfl, rfl, rfl, trivial⟩, rfl, rfl⟩
      ·
       refine qo hnt rfl (s_pick_f rfl g4 rfl ?_)
       refine r_eq (s := 38) (y := pB ((((!(inS (usesS r.fn) 97)) && (!decide (r.at_ = 0))) || ((!(inS (usesS r.fn) 99)) && (!decide (r.count = 0)))) || ((!(inS (usesS r.fn) 119)) && (!decide (r.wAt = 0))))) rfl (mix_of g4) ?_
       exact r_mid ⟨⟨rfl, rfl, rfl, trivial⟩, rfl, rfl⟩
     ·
      have g4' := g4
      try simp only [sB] at g4'
      refine rn hnt rfl rfl rfl g4 ?_
      refine rn hnt rfl rfl rfl g4 ?_
      refine rn hnt rfl rfl rfl g4 ?_
      refine ru hnt rfl rfl rfl ?_
      refine ru hnt rfl rfl rfl ?_
      refine ru hnt rfl rfl rfl ?_
      refine rn hnt rfl rfl rfl g4 ?_
      refine qo hnt rfl (s_pick_t rfl g4 rfl ?_)
      refine r_eq (s := 38) (y := pB ((((!(inS (usesS r.fn) 97)) && (!decide (r.at_ = 0))) || ((!(inS (usesS r.fn) 99)) && (!decide (r.count = 0)))) || ((!(inS (usesS r.fn) 119)) && (!decide (r.wAt = 0))))) rfl (mix_ot _ g4) ?_
      exact r_mid ⟨⟨rfl, rfl, rfl, trivial⟩, rfl, rfl⟩
    ·
     refine qm hnt rfl rfl ?_
     refine r_cut0 9 [(1, PV.ptr 0 0), (3, pT (usesS r.fn)), (48, pB (((((!(inS (usesS r.fn) 97)) && (!decide (r.at_ = 0))) || ((!(inS (usesS r.fn) 99)) && (!decide (r.count = 0)))) || ((!(inS (usesS r.fn) 119)) && (!decide (r.wAt = 0)))) || ((!(inS (usesS r.fn) 115)) && (!decide (r.sub = 0)))))] ?_ ?_
     ·
      refine r_if tabOk hnt rfl rfl rfl (fun g6 => ?_) (fun g6 => ?_)
      ·
       have g6' := g6
       try simp only [sB] at g6'
       refine qm hnt rfl rfl ?_
       refine ry hnt rfl rfl rfl g6 ?_
       refine qo hnt rfl (s_callF rfl rfl rfl (w_burgageref3_in (usesS r.fn) 115 (by have := usesS_len r.fn; omega)) rfl ?_)
       refine ry hnt rfl rfl rfl g6 ?_
       refine qo hnt rfl (s_not rfl ?_)
       refine ry hnt rfl rfl rfl g6 ?_
       refine qm hnt rfl rfl ?_
       refine r_cut0 4 [(1, PV.ptr 0 0), (3, pT (usesS r.fn)), (39, pB ((((!(inS (usesS r.fn) 97)) && (!decide (r.at_ = 0))) || ((!(inS (usesS r.fn) 99)) && (!decide (r.count = 0)))) || ((!(inS (usesS r.fn) 119)) && (!decide (r.wAt = 0))))), (47, pB ((!(inS (usesS r.fn) 115)) && (!decide (r.sub = 0))))] ?_ ?_
       ·
        refine r_if tabOk hnt rfl rfl rfl (fun g7 => ?_) (fun g7 => ?_)
        ·
         have g7' := g7
         try simp only [sB] at g7'
         refine qo hnt rfl (s_fa_ptr tab_107 rfl rfl tab_3 (by decide) rfl ?_)
         refine ry hnt rfl rfl rfl g7 ?_
         refine qo hnt rfl (s_load_ptr1 tab_3 rfl rfl rfl rfl rfl ?_)
         refine ry hnt rfl rfl rfl g7 ?_
         refine qo hnt rfl (s_neq rfl rfl ?_)
         refine ry hnt rfl rfl rfl g6 ?_
         refine qo hnt rfl (s_pick_t rfl g7 rfl ?_)
         refine r_eq (s := 47) (y := pB ((!(inS (usesS r.fn) 115)) && (!decide (r.sub = 0)))) rfl (mix_at g7) ?_
         exact r_mid ⟨⟨rfl, rfl, rfl, rfl, trivial⟩, rfl, rfl⟩
        ·
         have g7' := g7
         try simp only [sB] at g7'
         refine rn hnt rfl rfl rfl g7 ?_
         refine rn hnt rfl rfl rfl g7 ?_
         refine ry hnt rfl rfl rfl g6 ?_
         refine qo hnt rfl (s_pick_f rfl g7 rfl ?_)
         refine r_eq (s := 47) (y := pB ((!(inS (usesS r.fn) 115)) && (!decide (r.sub = 0)))) rfl (mix_af _ g7) ?_
         exact r_mid ⟨⟨rfl, rfl, rfl, rfl, trivial⟩, rfl, rfl⟩
       ·
        refine qo hnt rfl (s_pick_f rfl g6 rfl ?_)
        refine r_eq (s := 48) (y := pB (((((!(inS (usesS r.fn) 97)) && (!decide (r.at_ = 0))) || ((!(inS (usesS r.fn) 99)) && (!decide (r.count = 0)))) || ((!(inS (usesS r.fn) 119)) && (!decide (r.wAt = 0)))) || ((!(inS (usesS r.fn) 115)) && (!decide (r.sub = 0))))) rfl (mix_of g6) ?_
        exact r_mid ⟨⟨rfl, rfl, rfl, trivial⟩, rfl, rfl⟩
      ·
       have g6' := g6
       try simp only [sB] at g6'
       refine rn hnt rfl rfl rfl g6 ?_
       refine rn hnt rfl rfl rfl g6 ?_
       refine rn hnt rfl rfl rfl g6 ?_
       refine ru hnt rfl rfl rfl ?_
       refine ru hnt rfl rfl rfl ?_
       refine ru hnt rfl rfl rfl ?_
       refine rn hnt rfl rfl rfl g6 ?_
       refine qo hnt rfl (s_pick_t rfl g6 rfl ?_)
       refine r_eq (s := 48) (y := pB (((((!(inS (usesS r.fn) 97)) && (!decide (r.at_ = 0))) || ((!(inS (usesS r.fn) 99)) && (!decide (r.count = 0)))) || ((!(inS (usesS r.fn) 119)) && (!decide (r.wAt = 0)))) || ((!(inS (usesS r.fn) 115)) && (!decide (r.sub = 0))))) rfl (mix_ot _ g6) ?_
       exact r_mid ⟨⟨rfl, rfl, rfl, trivial⟩, rfl, rfl⟩
     ·
      refine qm hnt rfl rfl ?_
      refine r_cut0 10 [(1, PV.ptr 0 0), (3, pT (usesS r.fn)), (59, pB ((((((!(inS (usesS r.fn) 97)) && (!decide (r.at_ = 0))) || ((!(inS (usesS r.fn) 99)) && (!decide (r.count = 0)))) || ((!(inS (usesS r.fn) 119)) && (!decide (r.wAt = 0)))) || ((!(inS (usesS r.fn) 115)) && (!decide (r.sub = 0)))) || ((!(inS (usesS r.fn) 98)) && (decide (0 < ((r.bits.length : Nat) : Int))))))] ?_ ?_
      ·
       refine r_if tabOk hnt rfl rfl rfl (fun g8 => ?_) (fun g8 => ?_)
       ·
        have g8' := g8
        try simp only [sB] at g8'
        refine qm hnt rfl rfl ?_
        refine ry hnt rfl rfl rfl g8 ?_
        refine qo hnt rfl (s_callF rfl rfl rfl (w_burgageref3_in (usesS r.fn) 98 (by have := usesS_len r.fn; omega)) rfl ?_)
        refine ry hnt rfl rfl rfl g8 ?_
        refine qo hnt rfl (s_not rfl ?_)
        refine ry hnt rfl rfl rfl g8 ?_
        refine qm hnt rfl rfl ?_
        refine r_cut0 5 [(1, PV.ptr 0 0), (3, pT (usesS r.fn)), (49, pB (((((!(inS (usesS r.fn) 97)) && (!decide (r.at_ = 0))) || ((!(inS (usesS r.fn) 99)) && (!decide (r.count = 0)))) || ((!(inS (usesS r.fn) 119)) && (!decide (r.wAt = 0)))) || ((!(inS (usesS r.fn) 115)) && (!decide (r.sub = 0))))), (58, pB ((!(inS (usesS r.fn) 98)) && (decide (0 < ((r.bits.length : Nat) : Int)))))] ?_ ?_
        ·
         refine r_if tabOk hnt rfl rfl rfl (fun g9 => ?_) (fun g9 => ?_)
         ·
          have g9' := g9
          try simp only [sB] at g9'
          refine qo hnt rfl (s_fa_ptr tab_107 rfl rfl tab_44 (by decide) rfl ?_)
          refine ry hnt rfl rfl rfl g9 ?_
          refine qo hnt rfl (s_load_ptr1 tab_44 rfl rfl rfl rfl rfl ?_)
          refine ry hnt rfl rfl rfl g9 ?_
          refine qo hnt rfl (s_lenM (l := r.bits) tab_44 rfl (hM_sl (f := encBo) rfl) ?_)
          refine ry hnt rfl rfl rfl g9 ?_
          refine qo hnt rfl (s_gtr rfl rfl ?_)
          refine ry hnt rfl rfl rfl g8 ?_
          refine qo hnt rfl (s_pick_t rfl g9 rfl ?_)
          refine r_eq (s := 58) (y := pB ((!(inS (usesS r.fn) 98)) && (decide (0 < ((r.bits.length : Nat) : Int))))) rfl (mix_at g9) ?_
          exact r_mid ⟨⟨rfl, rfl, rfl, rfl, trivial⟩, rfl, rfl⟩
         ·
          have g9' := g9
          try simp only [sB] at g9'
          refine rn hnt rfl rfl rfl g9 ?_
          refine rn hnt rfl rfl rfl g9 ?_
          refine rn hnt rfl rfl rfl g9 ?_
          refine ry hnt rfl rfl rfl g8 ?_
          refine qo hnt rfl (s_pick_f rfl g9 rfl ?_)
          refine r_eq (s := 58) (y := pB ((!(inS (usesS r.fn) 98)) && (decide (0 < ((r.bits.length : Nat) : Int))))) rfl (mix_af _ g9) ?_
          exact r_mid ⟨⟨rfl, rfl, rfl, rfl, trivial⟩, rfl, rfl⟩
        ·
         refine qo hnt rfl (s_pick_f rfl g8 rfl ?_)
         refine r_eq (s := 59) (y := pB ((((((!(inS (usesS r.fn) 97)) && (!decide (r.at_ = 0))) || ((!(inS (usesS r.fn) 99)) && (!decide (r.count = 0)))) || ((!(inS (usesS r.fn) 119)) && (!decide (r.wAt = 0)))) || ((!(inS (usesS r.fn) 115)) && (!decide (r.sub = 0)))) || ((!(inS (usesS r.fn) 98)) && (decide (0 < ((r.bits.length : Nat) : Int)))))) rfl (mix_of g8) ?_
         exact r_mid ⟨⟨rfl, rfl, rfl, trivial⟩, rfl, rfl⟩
       ·
        have g8' := g8
        try simp only [sB] at g8'
        refine rn hnt rfl rfl rfl g8 ?_
        refine rn hnt rfl rfl rfl g8 ?_
        refine rn hnt rfl rfl rfl g8 ?_
        refine ru hnt rfl rfl rfl ?_
        refine ru hnt rfl rfl rfl ?_
        refine ru hnt rfl rfl rfl ?_
        refine ru hnt rfl rfl rfl ?_
        refine rn hnt rfl rfl rfl g8 ?_
        refine qo hnt rfl (s_pick_t rfl g8 rfl ?_)
        refine r_eq (s := 59) (y := pB ((((((!(inS (usesS r.fn) 97)) && (!decide (r.at_ = 0))) || ((!(inS (usesS r.fn) 99)) && (!decide (r.count = 0)))) || ((!(inS (usesS r.fn) 119)) && (!decide (r.wAt = 0)))) || ((!(inS (usesS r.fn) 115)) && (!decide (r.sub = 0)))) || ((!(inS (usesS r.fn) 98)) && (decide (0 < ((r.bits.length : Nat) : Int)))))) rfl (mix_ot _ g8) ?_
        exact r_mid ⟨⟨rfl, rfl, rfl, trivial⟩, rfl, rfl⟩
      ·
       refine qm hnt rfl rfl ?_
       refine r_cut0 10 [(1, PV.ptr 0 0), (3, pT (usesS r.fn)), (70, pB (((((((!(inS (usesS r.fn) 97)) && (!decide (r.at_ = 0))) || ((!(inS (usesS r.fn) 99)) && (!decide (r.count = 0)))) || ((!(inS (usesS r.fn) 119)) && (!decide (r.wAt = 0)))) || ((!(inS (usesS r.fn) 115)) && (!decide (r.sub = 0)))) || ((!(inS (usesS r.fn) 98)) && (decide (0 < ((r.bits.length : Nat) : Int))))) || ((!(inS (usesS r.fn) 118)) && (decide (0 < ((r.vals.length : Nat) : Int))))))] ?_ ?_
       ·
        refine r_if tabOk hnt rfl rfl rfl (fun g10 => ?_) (fun g10 => ?_)
        ·
         have g10' := g10
         try simp only [sB] at g10'
         refine qm hnt rfl rfl ?_
         refine ry hnt rfl rfl rfl g10 ?_
         refine qo hnt rfl (s_callF rfl rfl rfl (w_burgageref3_in (usesS r.fn) 118 (by have := usesS_len r.fn; omega)) rfl ?_)
         refine ry hnt rfl rfl rfl g10 ?_
         refine qo hnt rfl (s_not rfl ?_)
         refine ry hnt rfl rfl rfl g10 ?_
         refine qm hnt rfl rfl ?_
         refine r_cut0 5 [(1, PV.ptr 0 0), (3, pT (usesS r.fn)), (60, pB ((((((!(inS (usesS r.fn) 97)) && (!decide (r.at_ = 0))) || ((!(inS (usesS r.fn) 99)) && (!decide (r.count = 0)))) || ((!(inS (usesS r.fn) 119)) && (!decide (r.wAt = 0)))) || ((!(inS (usesS r.fn) 115)) && (!decide (r.sub = 0)))) || ((!(inS (usesS r.fn) 98)) && (decide (0 < ((r.bits.length : Nat) : Int)))))), (69, pB ((!(inS (usesS r.fn) 118)) && (decide (0 < ((r.vals.length : Nat) : Int)))))] ?_ ?_
         ·
          refine r_if tabOk hnt rfl rfl rfl (fun g11 => ?_) (fun g11 => ?_)
          ·
           have g11' := g11
           try simp only [sB] at g11'
           refine qo hnt rfl (s_fa_ptr tab_107 rfl rfl tab_45 (by decide) rfl ?_)
           refine ry hnt rfl rfl rfl g11 ?_
           refine qo hnt rfl (s_load_ptr1 tab_45 rfl rfl rfl rfl rfl ?_)
           refine ry hnt rfl rfl rfl g11 ?_
           refine qo hnt rfl (s_lenM (l := r.vals) tab_45 rfl (hM_sl (f := enc16) rfl) ?_)
           refine ry hnt rfl rfl rfl g11 ?_
           refine qo hnt rfl (s_gtr rfl rfl ?_)
           refine ry hnt rfl rfl rfl g10 ?_
           refine qo hnt rfl (s_pick_t rfl g11 rfl ?_)
           refine r_eq (s := 69) (y := pB ((!(inS (usesS r.fn) 118)) && (decide (0 < ((r.vals.length : Nat) : Int))))) rfl (mix_at g11) ?_
           exact r_mid ⟨⟨rfl, rfl, rfl, rfl, trivial⟩, rfl, rfl⟩
          ·
           have g11' := g11
           try simp only [sB] at g11'
           refine rn hnt rfl rfl rfl g11 ?_
           refine rn hnt rfl rfl rfl g11 ?_
           refine rn hnt rfl rfl rfl g11 ?_
           refine ry hnt rfl rfl rfl g10 ?_
           refine qo hnt rfl (s_pick_f rfl g11 rfl ?_)
           refine r_eq (s := 69) (y := pB ((!(inS (usesS r.fn) 118)) && (decide (0 < ((r.vals.length : Nat) : Int))))) rfl (mix_af _ g11) ?_
           exact r_mid ⟨⟨rfl, rfl, rfl, rfl, trivial⟩, rfl, rfl⟩
         ·
          refine qo hnt rfl (s_pick_f rfl g10 rfl ?_)
          refine r_eq (s := 70) (y := pB (((((((!(inS (usesS r.fn) 97)) && (!decide (r.at_ = 0))) || ((!(inS (usesS r.fn) 99)) && (!decide (r.count = 0)))) || ((!(inS (usesS r.fn) 119)) && (!decide (r.wAt = 0)))) || ((!(inS (usesS r.fn) 115)) && (!decide (r.sub = 0)))) || ((!(inS (usesS r.fn) 98)) && (decide (0 < ((r.bits.length : Nat) : Int))))) || ((!(inS (usesS r.fn) 118)) && (decide (0 < ((r.vals.length : Nat) : Int)))))) rfl (mix_of g10) ?_
          exact r_mid ⟨⟨rfl, rfl, rfl, trivial⟩, rfl, rfl⟩
        ·
         have g10' := g10
         try simp only [sB] at g10'
         refine rn hnt rfl rfl rfl g10 ?_
         refine rn hnt rfl rfl rfl g10 ?_
         refine rn hnt rfl rfl rfl g10 ?_
         refine ru hnt rfl rfl rfl ?_
         refine ru hnt rfl rfl rfl ?_
         refine ru hnt rfl rfl rfl ?_
         refine ru hnt rfl rfl rfl ?_
         refine rn hnt rfl rfl rfl g10 ?_
         refine qo hnt rfl (s_pick_t rfl g10 rfl ?_)
         refine r_eq (s := 70) (y := pB (((((((!(inS (usesS r.fn) 97)) && (!decide (r.at_ = 0))) || ((!(inS (usesS r.fn) 99)) && (!decide (r.count = 0)))) || ((!(inS (usesS r.fn) 119)) && (!decide (r.wAt = 0)))) || ((!(inS (usesS r.fn) 115)) && (!decide (r.sub = 0)))) || ((!(inS (usesS r.fn) 98)) && (decide (0 < ((r.bits.length : Nat) : Int))))) || ((!(inS (usesS r.fn) 118)) && (decide (0 < ((r.vals.length : Nat) : Int)))))) rfl (mix_ot _ g10) ?_
         exact r_mid ⟨⟨rfl, rfl, rfl, trivial⟩, rfl, rfl⟩
       ·
        refine qm hnt rfl rfl ?_
        refine r_cut0 14 [(1, PV.ptr 0 0), (85, pB ((((((((!(inS (usesS r.fn) 97)) && (!decide (r.at_ = 0))) || ((!(inS (usesS r.fn) 99)) && (!decide (r.count = 0)))) || ((!(inS (usesS r.fn) 119)) && (!decide (r.wAt = 0)))) || ((!(inS (usesS r.fn) 115)) && (!decide (r.sub = 0)))) || ((!(inS (usesS r.fn) 98)) && (decide (0 < ((r.bits.length : Nat) : Int))))) || ((!(inS (usesS r.fn) 118)) && (decide (0 < ((r.vals.length : Nat) : Int))))) || ((!(inS (usesS r.fn) 109)) && ((!decide (r.and_ = 0)) || (!decide (r.or_ = 0))))))] ?_ ?_
        ·
         refine r_if tabOk hnt rfl rfl rfl (fun g12 => ?_) (fun g12 => ?_)
         ·
          have g12' := g12
          try simp only [sB] at g12'
          refine qm hnt rfl rfl ?_
          refine ry hnt rfl rfl rfl g12 ?_
          refine qo hnt rfl (s_callF rfl rfl rfl (w_burgageref3_in (usesS r.fn) 109 (by have := usesS_len r.fn; omega)) rfl ?_)
          refine ry hnt rfl rfl rfl g12 ?_
          refine qo hnt rfl (s_not rfl ?_)
          refine ry hnt rfl rfl rfl g12 ?_
          refine qm hnt rfl rfl ?_
          refine r_cut0 9 [(1, PV.ptr 0 0), (71, pB (((((((!(inS (usesS r.fn) 97)) && (!decide (r.at_ = 0))) || ((!(inS (usesS r.fn) 99)) && (!decide (r.count = 0)))) || ((!(inS (usesS r.fn) 119)) && (!decide (r.wAt = 0)))) || ((!(inS (usesS r.fn) 115)) && (!decide (r.sub = 0)))) || ((!(inS (usesS r.fn) 98)) && (decide (0 < ((r.bits.length : Nat) : Int))))) || ((!(inS (usesS r.fn) 118)) && (decide (0 < ((r.vals.length : Nat) : Int)))))), (84, pB ((!(inS (usesS r.fn) 109)) && ((!decide (r.and_ = 0)) || (!decide (r.or_ = 0)))))] ?_ ?_
          ·
           refine r_if tabOk hnt rfl rfl rfl (fun g13 => ?_) (fun g13 => ?_)
           ·
            have g13' := g13
            try simp only [sB] at g13'
            refine qo hnt rfl (s_fa_ptr tab_107 rfl rfl tab_47 (by decide) rfl ?_)
            refine ry hnt rfl rfl rfl g13 ?_
            refine qo hnt rfl (s_load_ptr1 tab_47 rfl rfl rfl rfl rfl ?_)
            refine ry hnt rfl rfl rfl g13 ?_
            refine qo hnt rfl (s_neq16 (a := r.and_) (b := 0) rfl rfl ?_)
            refine ry hnt rfl rfl rfl g13 ?_
            refine qm hnt rfl rfl ?_
            refine r_cut0 4 [(1, PV.ptr 0 0), (71, pB (((((((!(inS (usesS r.fn) 97)) && (!decide (r.at_ = 0))) || ((!(inS (usesS r.fn) 99)) && (!decide (r.count = 0)))) || ((!(inS (usesS r.fn) 119)) && (!decide (r.wAt = 0)))) || ((!(inS (usesS r.fn) 115)) && (!decide (r.sub = 0)))) || ((!(inS (usesS r.fn) 98)) && (decide (0 < ((r.bits.length : Nat) : Int))))) || ((!(inS (usesS r.fn) 118)) && (decide (0 < ((r.vals.length : Nat) : Int)))))), (75, pB (!(inS (usesS r.fn) 109))), (83, pB ((!decide (r.and_ = 0)) || (!decide (r.or_ = 0))))] ?_ ?_
            ·
             refine r_if tabOk hnt rfl rfl rfl (fun g14 => ?_) (fun g14 => ?_)
             ·
              have g14' := g14
              try simp only [sB] at g14'
              refine qo hnt rfl (s_fa_ptr tab_107 rfl rfl tab_47 (by decide) rfl ?_)
              refine ry hnt rfl rfl rfl g14 ?_
              refine qo hnt rfl (s_load_ptr1 tab_47 rfl rfl rfl rfl rfl ?_)
              refine ry hnt rfl rfl rfl g14 ?_
              refine qo hnt rfl (s_neq16 (a := r.or_) (b := 0) rfl rfl ?_)
              refine ry hnt rfl rfl rfl g13 ?_
              refine qo hnt rfl (s_pick_f rfl g14 rfl ?_)
              refine r_eq (s := 83) (y := pB ((!decide (r.and_ = 0)) || (!decide (r.or_ = 0)))) rfl (mix_of g14) ?_
              exact r_mid ⟨⟨rfl, rfl, rfl, rfl, trivial⟩, rfl, rfl⟩
             ·
              have g14' := g14
              try simp only [sB] at g14'
              refine rn hnt rfl rfl rfl g14 ?_
              refine rn hnt rfl rfl rfl g14 ?_
              refine ry hnt rfl rfl rfl g13 ?_
              refine qo hnt rfl (s_pick_t rfl g14 rfl ?_)
              refine r_eq (s := 83) (y := pB ((!decide (r.and_ = 0)) || (!decide (r.or_ = 0)))) rfl (mix_ot _ g14) ?_
              exact r_mid ⟨⟨rfl, rfl, rfl, rfl, trivial⟩, rfl, rfl⟩
            ·
             refine ry hnt rfl rfl rfl g12 ?_
             refine qo hnt rfl (s_pick_t rfl g13 rfl ?_)
             refine r_eq (s := 84) (y := pB ((!(inS (usesS r.fn) 109)) && ((!decide (r.and_ = 0)) || (!decide (r.or_ = 0))))) rfl (mix_at g13) ?_
             exact r_mid ⟨⟨rfl, rfl, rfl, trivial⟩, rfl, rfl⟩
           ·
            have g13' := g13
            try simp only [sB] at g13'
            refine rn hnt rfl rfl rfl g13 ?_
            refine rn hnt rfl rfl rfl g13 ?_
            refine rn hnt rfl rfl rfl g13 ?_
            refine ru hnt rfl rfl rfl ?_
            refine ru hnt rfl rfl rfl ?_
            refine ru hnt rfl rfl rfl ?_
            refine rn hnt rfl rfl rfl g13 ?_
            refine ry hnt rfl rfl rfl g12 ?_
            refine qo hnt rfl (s_pick_f rfl g13 rfl ?_)
            refine r_eq (s := 84) (y := pB ((!(inS (usesS r.fn) 109)) && ((!decide (r.and_ = 0)) || (!decide (r.or_ = 0))))) rfl (mix_af _ g13) ?_
            exact r_mid ⟨⟨rfl, rfl, rfl, trivial⟩, rfl, rfl⟩
          ·
           refine qo hnt rfl (s_pick_f rfl g12 rfl ?_)
           refine r_eq (s := 85) (y := pB ((((((((!(inS (usesS r.fn) 97)) && (!decide (r.at_ = 0))) || ((!(inS (usesS r.fn) 99)) && (!decide (r.count = 0)))) || ((!(inS (usesS r.fn) 119)) && (!decide (r.wAt = 0)))) || ((!(inS (usesS r.fn) 115)) && (!decide (r.sub = 0)))) || ((!(inS (usesS r.fn) 98)) && (decide (0 < ((r.bits.length : Nat) : Int))))) || ((!(inS (usesS r.fn) 118)) && (decide (0 < ((r.vals.length : Nat) : Int))))) || ((!(inS (usesS r.fn) 109)) && ((!decide (r.and_ = 0)) || (!decide (r.or_ = 0)))))) rfl (mix_of g12) ?_
           exact r_mid ⟨⟨rfl, rfl, trivial⟩, rfl, rfl⟩
         ·
          have g12' := g12
          try simp only [sB] at g12'
          refine rn hnt rfl rfl rfl g12 ?_
          refine rn hnt rfl rfl rfl g12 ?_
          refine rn hnt rfl rfl rfl g12 ?_
          refine ru hnt rfl rfl rfl ?_
          refine ru hnt rfl rfl rfl ?_
          refine ru hnt rfl rfl rfl ?_
          refine ru hnt rfl rfl rfl ?_
          refine ru hnt rfl rfl rfl ?_
          refine ru hnt rfl rfl rfl ?_
          refine ru hnt rfl rfl rfl ?_
          refine ru hnt rfl rfl rfl ?_
          refine rn hnt rfl rfl rfl g12 ?_
          refine qo hnt rfl (s_pick_t rfl g12 rfl ?_)
          refine r_eq (s := 85) (y := pB ((((((((!(inS (usesS r.fn) 97)) && (!decide (r.at_ = 0))) || ((!(inS (usesS r.fn) 99)) && (!decide (r.count = 0)))) || ((!(inS (usesS r.fn) 119)) && (!decide (r.wAt = 0)))) || ((!(inS (usesS r.fn) 115)) && (!decide (r.sub = 0)))) || ((!(inS (usesS r.fn) 98)) && (decide (0 < ((r.bits.length : Nat) : Int))))) || ((!(inS (usesS r.fn) 118)) && (decide (0 < ((r.vals.length : Nat) : Int))))) || ((!(inS (usesS r.fn) 109)) && ((!decide (r.and_ = 0)) || (!decide (r.or_ = 0)))))) rfl (mix_ot _ g12) ?_
          exact r_mid ⟨⟨rfl, rfl, trivial⟩, rfl, rfl⟩
        ·
         refine r_end ?_
         refine q_then ?_
         refine w_if rfl (fun c2 => ?_) (fun c2 => ?_)
         ·
          have c2_ := c2
          try simp only [sB] at c2
          refine w_seq ?_
          refine w_R ?_
          refine qa hnt rfl rfl ?_
          refine r_end ?_
          refine q_then ?_
          refine w_le (s := 2) (y := pI (rightR r)) rfl (le_of_eq (congrArg (fun z : Int => pI z) (show 12 = (rightR r) by exact (rightR_2 c1_ c2_).symm))) ?_
          refine w_ret ?_
          refine q_then_ret ?_
          exact fin_plain (ret_tmp rfl ret_nil) rfl rfl ⟨rfl, rfl, rfl⟩
         ·
          have c2_ := c2
          try simp only [sB] at c2
          refine w_skip ?_
          refine q_then ?_
          refine w_seq ?_
          refine w_seq ?_
          refine w_R ?_
          refine qo hnt rfl (s_fa_ptr tab_107 rfl rfl tab_3 (by decide) rfl ?_)
          refine qo hnt rfl (s_load_ptr1 tab_3 rfl rfl rfl rfl rfl ?_)
          refine qo hnt rfl (s_callF rfl rfl rfl (w_burgageref3_word r.at_) rfl ?_)
          refine qo hnt rfl (s_not rfl ?_)
          refine qm hnt rfl rfl ?_
          refine r_cut0 5 [(1, PV.ptr 0 0), (95, pB ((!(wordOk r.at_)) || (!(wordOk r.count))))] ?_ ?_
          ·
           refine r_if tabOk hnt rfl rfl rfl (fun g15 => ?_) (fun g15 => ?_)
           ·
            have g15' := g15
            try simp only [sB] at g15'
            refine qo hnt rfl (s_fa_ptr tab_107 rfl rfl tab_3 (by decide) rfl ?_)
            refine ry hnt rfl rfl rfl g15 ?_
            refine qo hnt rfl (s_load_ptr1 tab_3 rfl rfl rfl rfl rfl ?_)
            refine ry hnt rfl rfl rfl g15 ?_
            refine qo hnt rfl (s_callF rfl rfl rfl (w_burgageref3_word r.count) rfl ?_)
            refine ry hnt rfl rfl rfl g15 ?_
            refine qo hnt rfl (s_not rfl ?_)
            refine qo hnt rfl (s_pick_f rfl g15 rfl ?_)
            refine r_eq (s := 95) (y := pB ((!(wordOk r.at_)) || (!(wordOk r.count)))) rfl (mix_of g15) ?_
            exact r_mid ⟨⟨rfl, rfl, trivial⟩, rfl, rfl⟩
           ·
            have g15' := g15
            try simp only [sB] at g15'
            refine rn hnt rfl rfl rfl g15 ?_
            refine rn hnt rfl rfl rfl g15 ?_
            refine rn hnt rfl rfl rfl g15 ?_
            refine qo hnt rfl (s_pick_t rfl g15 rfl ?_)
            refine r_eq (s := 95) (y := pB ((!(wordOk r.at_)) || (!(wordOk r.count)))) rfl (mix_ot _ g15) ?_
            exact r_mid ⟨⟨rfl, rfl, trivial⟩, rfl, rfl⟩
          ·
           refine qm hnt rfl rfl ?_
           refine r_cut0 5 [(1, PV.ptr 0 0), (101, pB (((!(wordOk r.at_)) || (!(wordOk r.count))) || (!(wordOk r.wAt))))] ?_ ?_
           ·
            refine r_if tabOk hnt rfl rfl rfl (fun g16 => ?_) (fun g16 => ?_)
            ·
             have g16' := g16
             try simp only [sB] at g16'
             refine qo hnt rfl (s_fa_ptr tab_107 rfl rfl tab_3 (by decide) rfl ?_)
             refine ry hnt rfl rfl rfl g16 ?_
             refine qo hnt rfl (s_load_ptr1 tab_3 rfl rfl rfl rfl rfl ?_)
             refine ry hnt rfl rfl rfl g16 ?_
             refine qo hnt rfl (s_callF rfl rfl rfl (w_burgageref3_word r.wAt) rfl ?_)
             refine ry hnt rfl rfl rfl g16 ?_
             refine qo hnt rfl (s_not rfl ?_)
             refine qo hnt rfl (s_pick_f rfl g16 rfl ?_)
             refine r_eq (s := 101) (y := pB (((!(wordOk r.at_)) || (!(wordOk r.count))) || (!(wordOk r.wAt)))) rfl (mix_of g16) ?_
             exact r_mid ⟨⟨rfl, rfl, trivial⟩, rfl, rfl⟩
            ·
             have g16' := g16
             try simp only [sB] at g16'
             refine rn hnt rfl rfl rfl g16 ?_
             refine rn hnt rfl rfl rfl g16 ?_
             refine rn hnt rfl rfl rfl g16 ?_
             refine qo hnt rfl (s_pick_t rfl g16 rfl ?_)
             refine r_eq (s := 101) (y := pB (((!(wordOk r.at_)) || (!(wordOk r.count))) || (!(wordOk r.wAt)))) rfl (mix_ot _ g16) ?_
             exact r_mid ⟨⟨rfl, rfl, trivial⟩, rfl, rfl⟩
           ·
            refine qm hnt rfl rfl ?_
            refine r_cut0 5 [(1, PV.ptr 0 0), (107, pB ((((!(wordOk r.at_)) || (!(wordOk r.count))) || (!(wordOk r.wAt))) || (!(wordOk r.sub))))] ?_ ?_
            ·
             refine r_if tabOk hnt rfl rfl rfl (fun g17 => ?_) (fun g17 => ?_)
             ·
              have g17' := g17
              try simp only [sB] at g17'
              refine qo hnt rfl (s_fa_ptr tab_107 rfl rfl tab_3 (by decide) rfl ?_)
              refine ry hnt rfl rfl rfl g17 ?_
              refine qo hnt rfl (s_load_ptr1 tab_3 rfl rfl rfl rfl rfl ?_)
              refine ry hnt rfl rfl rfl g17 ?_
              refine qo hnt rfl (s_callF rfl rfl rfl (w_burgageref3_word r.sub) rfl ?_)
              refine ry hnt rfl rfl rfl g17 ?_
              refine qo hnt rfl (s_not rfl ?_)
              refine qo hnt rfl (s_pick_f rfl g17 rfl ?_)
              refine r_eq (s := 107) (y := pB ((((!(wordOk r.at_)) || (!(wordOk r.count))) || (!(wordOk r.wAt))) || (!(wordOk r.sub)))) rfl (mix_of g17) ?_
              exact r_mid ⟨⟨rfl, rfl, trivial⟩, rfl, rfl⟩
             ·
              have g17' := g17
              try simp only [sB] at g17'
              refine rn hnt rfl rfl rfl g17 ?_
              refine rn hnt rfl rfl rfl g17 ?_
              refine rn hnt rfl rfl rfl g17 ?_
              refine qo hnt rfl (s_pick_t rfl g17 rfl ?_)
              refine r_eq (s := 107) (y := pB ((((!(wordOk r.at_)) || (!(wordOk r.count))) || (!(wordOk r.wAt))) || (!(wordOk r.sub)))) rfl (mix_ot _ g17) ?_
              exact r_mid ⟨⟨rfl, rfl, trivial⟩, rfl, rfl⟩
            ·
             refine qm hnt rfl rfl ?_
             refine r_cut0 4 [(112, pB (((((!(wordOk r.at_)) || (!(wordOk r.count))) || (!(wordOk r.wAt))) || (!(wordOk r.sub))) || (!(listsR r))))] ?_ ?_
             ·
              refine r_if tabOk hnt rfl rfl rfl (fun g18 => ?_) (fun g18 => ?_)
              ·
               have g18' := g18
               try simp only [sB] at g18'
               refine qo hnt rfl (s_load_ptr tab_107 rfl rfl rfl (Nat.le_of_ble_eq_true rfl) ?_)
               refine ry hnt rfl rfl rfl g18 ?_
               refine qo hnt rfl (s_callF rfl rfl rfl (w_burgageref3_lists r (by first | omega | assumption | (simp; omega) | decide | (simp; done)) (by first | omega | assumption | (simp; omega) | decide | (simp; done))) rfl ?_)
               refine ry hnt rfl rfl rfl g18 ?_
               refine qo hnt rfl (s_not rfl ?_)
               refine qo hnt rfl (s_pick_f rfl g18 rfl ?_)
               refine r_eq (s := 112) (y := pB (((((!(wordOk r.at_)) || (!(wordOk r.count))) || (!(wordOk r.wAt))) || (!(wordOk r.sub))) || (!(listsR r)))) rfl (mix_of g18) ?_
               exact r_mid ⟨⟨rfl, trivial⟩, rfl, rfl⟩
              ·
               have g18' := g18
               try simp only [sB] at g18'
               refine rn hnt rfl rfl rfl g18 ?_
               refine rn hnt rfl rfl rfl g18 ?_
               refine qo hnt rfl (s_pick_t rfl g18 rfl ?_)
               refine r_eq (s := 112) (y := pB (((((!(wordOk r.at_)) || (!(wordOk r.count))) || (!(wordOk r.wAt))) || (!(wordOk r.sub))) || (!(listsR r)))) rfl (mix_ot _ g18) ?_
               exact r_mid ⟨⟨rfl, trivial⟩, rfl, rfl⟩
             ·
              refine r_end ?_
              refine q_then ?_
              refine w_if rfl (fun c3 => ?_) (fun c3 => ?_)
              ·
               have c3_ := c3
               try simp only [sB] at c3
               refine w_seq ?_
               refine w_R ?_
               refine qa hnt rfl rfl ?_
               refine r_end ?_
               refine q_then ?_
               refine w_le (s := 2) (y := pI (rightR r)) rfl (le_of_eq (congrArg (fun z : Int => pI z) (show 12 = (rightR r) by exact (rightR_3 c1_ c2_ c3_).symm))) ?_
               refine w_ret ?_
               refine q_then_ret ?_
               exact fin_plain (ret_tmp rfl ret_nil) rfl rfl ⟨rfl, rfl, rfl⟩
              ·
               have c3_ := c3
               try simp only [sB] at c3
               refine w_skip ?_
               refine q_then ?_
               refine w_seq ?_
               refine w_R ?_
               refine qa hnt rfl rfl ?_
               refine r_end ?_
               refine q_then ?_
               refine w_le (s := 2) (y := pI (rightR r)) rfl (le_of_eq (congrArg (fun z : Int => pI z) (show 0 = (rightR r) by exact (rightR_4 c1_ c2_ c3_).symm))) ?_
               refine w_ret ?_
               exact fin_plain (ret_tmp rfl ret_nil) rfl rfl ⟨rfl, rfl, rfl⟩
theorem w_burgageref3_row (b : List UInt8) (wr : Bool) (x : List UInt8) (cl_x : Bool) (hb : b.length ≤ 1000) (hx : x.length ≤ 70000000000000) :
    T Try.prog 87 [PV.ref 0 0 none, pS 1 cl_x enc8 x] 1 [(0, oB wr 1 enc8 b)] (Ret (PV.ref 1 0 none) 2 [(1, oB wr 1 enc8 (b ++ rowX x))]) := by
 refine t_fun tabOk (n := 13) (rs := [.tmp 4]) Try.func87 rfl rfl rfl rfl (Nat.le_of_ble_eq_true rfl) ?_
 intro c hnt hk
 refine w_seq ?_
 refine w_R ?_
 refine qa hnt rfl rfl ?_
 refine r_end ?_
 refine q_then ?_
 refine w_seq ?_
 refine w_R ?_
 refine qm hnt rfl rfl ?_
 refine qm hnt rfl rfl ?_
 refine qo hnt rfl (s_lenM (l := x) tab_27 rfl (hM_sl (f := enc8) rfl) ?_)
 refine qo hnt rfl (s_cv8N (a := x.length) tab_3 tab_5 rfl rfl rfl (by omega) ?_)
 refine qo hnt rfl (s_mkM (f := enc8) [UInt8.ofNat x.length] tab_27 rfl tab_5 ⟨rfl, by decide⟩ (by decide) rfl rfl rfl rfl ?_)
 refine qo hnt rfl (s_appR0 (f := enc8) (l := b) (xs := [UInt8.ofNat x.length]) tab_27 rfl tab_5 ⟨rfl, by decide, by decide⟩ (srcM tab_27 rfl (hM_ref0 (f := enc8) rfl rfl)) rfl rfl (by first | omega | (simp; omega)) ?_)
 refine qm hnt rfl rfl ?_
 refine qo hnt rfl (s_appR0 (f := enc8) (l := b ++ [UInt8.ofNat x.length]) (xs := x) tab_27 rfl tab_5 ⟨rfl, by decide, by decide⟩ (srcM tab_27 rfl (hM_sl (f := enc8) rfl)) rfl rfl (by first | omega | (simp; omega)) ?_)
 refine qa hnt rfl rfl ?_
 refine r_set [(4, PV.ref 3 0 none)] [(3, oB wr 1 enc8 ((b ++ [UInt8.ofNat x.length]) ++ x)), (1, oB true 1 enc8 [UInt8.ofNat x.length])] 4 ⟨rfl, trivial⟩ rfl rfl ?_
 refine r_end ?_
 refine q_then ?_
 refine w_H (H' := [(3, oB wr 1 enc8 (b ++ rowX x)), (1, oB true 1 enc8 [UInt8.ofNat x.length])]) (congrArg (fun z => ([(3, oB wr 1 enc8 z), (1, oB true 1 enc8 [UInt8.ofNat x.length])] : Heap)) (show (b ++ [UInt8.ofNat x.length]) ++ x = b ++ rowX x by simp [rowX])) ?_
 refine w_ret ?_
 exact fin_names (nx1 := 2) (H1 := [(1, oB wr 1 enc8 (b ++ rowX x))]) [(1, 3)] (ret_tmp rfl ret_nil) rfl (by decide) ⟨⟨_, _, rfl, rfl, rfl, rfl⟩, trivial⟩ (by decide) rfl ⟨rfl, rfl, rfl⟩
theorem w_burgageref3_write (r : TRequest) (hb : r.bits.length ≤ 140737488351232) (hv : r.vals.length ≤ 1000000) (h5 : r.fn = 5 → 1 ≤ r.bits.length) (h6 : (r.fn = 6 ∨ r.fn = 8) → 1 ≤ r.vals.length) :
    T Try.prog 80 [PV.f (eRequest r)] 0 [] (Ret (PV.ref 0 0 none) 1 [(0, oB false 1 enc8 (writeR r))]) := by
 refine t_fun tabOk (n := 106) (rs := [.tmp 2]) Try.func80 rfl rfl rfl rfl (Nat.le_of_ble_eq_true rfl) ?_
 intro c hnt hk
 refine w_seq ?_
 refine w_R ?_
 refine qo hnt rfl (s_box rfl rfl ?_)
 refine qa hnt rfl rfl ?_
 refine r_set [(1, PV.ptr 0 0)] [(0, .obj [pI r.fn, pI r.at_, pI r.count, pI r.wAt, pI r.sub, pS 1 false encBo r.bits, pS 1 false enc16 r.vals, p16 r.and_, p16 r.or_])] 1 ⟨rfl, trivial⟩ rfl rfl ?_
 refine r_end ?_
 refine q_then ?_
 refine w_seq ?_
 refine w_R ?_
 refine qo hnt rfl (s_fa_ptr tab_107 rfl rfl tab_3 (by decide) rfl ?_)
 refine qo hnt rfl (s_load_ptr1 tab_3 rfl rfl rfl rfl rfl ?_)
 refine qo hnt rfl (s_cv8 tab_3 tab_5 rfl rfl rfl ?_)
 refine qo hnt rfl (s_mkM (f := enc8) [u8I r.fn] tab_27 rfl tab_5 ⟨rfl, by decide⟩ (by decide) rfl rfl rfl rfl ?_)
 refine qa hnt rfl rfl ?_
 refine r_set [(1, PV.ptr 0 0), (3, PV.ref 1 0 none)] [(1, oB true 1 enc8 [u8I r.fn]), (0, .obj [pI r.fn, pI r.at_, pI r.count, pI r.wAt, pI r.sub, pS 1 false encBo r.bits, pS 1 false enc16 r.vals, p16 r.and_, p16 r.or_])] 2 ⟨rfl, rfl, trivial⟩ rfl rfl ?_
 refine r_end ?_
 refine q_then ?_
 refine w_seq ?_
 refine w_R ?_
 refine qm hnt rfl rfl ?_
 refine qo hnt rfl (s_fa_ptr tab_107 rfl rfl tab_3 (by decide) rfl ?_)
 refine qo hnt rfl (s_load_ptr1 tab_3 rfl rfl rfl rfl rfl ?_)
 refine qo hnt rfl (s_callX (r2 := PV.ref 2 0 none) (nx1 := 3) (H2 := [(1, oB false 1 enc8 [u8I r.fn]), (0, .obj [pI r.fn, pI r.at_, pI r.count, pI r.wAt, pI r.sub, pS 1 false encBo r.bits, pS 1 false enc16 r.vals, p16 r.and_, p16 r.or_])]) (H3 := [(2, oB true 1 enc8 ([u8I r.fn] ++ put2 r.at_)), (1, oB false 1 enc8 [u8I r.fn]), (0, .obj [pI r.fn, pI r.at_, pI r.count, pI r.wAt, pI r.sub, pS 1 false encBo r.bits, pS 1 false enc16 r.vals, p16 r.and_, p16 r.or_])]) [] [] rfl rfl rfl (handed_of (by decide) trivial) rfl rfl rfl rfl rfl rfl (w_burgageref1_Put [u8I r.fn] false r.at_ (by first | omega | assumption | (simp; omega) | decide | (simp; done))) rfl (dist_of rfl) rfl rfl rfl rfl ?_)
 refine qa hnt rfl rfl ?_
 refine r_set [(1, PV.ptr 0 0), (3, PV.ref 1 0 none), (4, PV.ref 2 0 none)] [(2, oB true 1 enc8 ([u8I r.fn] ++ put2 r.at_)), (1, oB false 1 enc8 [u8I r.fn]), (0, .obj [pI r.fn, pI r.at_, pI r.count, pI r.wAt, pI r.sub, pS 1 false encBo r.bits, pS 1 false enc16 r.vals, p16 r.and_, p16 r.or_])] 3 ⟨rfl, rfl, rfl, trivial⟩ rfl rfl ?_
 refine r_end ?_
 refine q_then ?_
 refine w_seq ?_
 refine w_seq ?_
 refine w_R ?_
 refine qo hnt rfl (s_fa_ptr tab_107 rfl rfl tab_3 (by decide) rfl ?_)
 refine qo hnt rfl (s_load_ptr1 tab_3 rfl rfl rfl rfl rfl ?_)
 refine r_end ?_
 refine q_then ?_
 refine w_block ?_
 refine w_seq ?_
 refine w_seq ?_
 refine w_R ?_
 refine qo hnt rfl (s_eql rfl rfl ?_)
 refine qa hnt rfl rfl ?_
 refine r_end ?_
 refine q_then ?_
 refine w_if rfl (fun c1 => ?_) (fun c1 => ?_)
 ·
  have c1_ := c1
  try simp only [sB] at c1
  refine w_skip ?_
  refine q_then ?_
  refine w_if rfl (fun _ => ?_) (fun e => absurd (e.symm.trans c1_) (by decide))
  refine w_seq ?_
  refine w_R ?_
  refine qm hnt rfl rfl ?_
  refine qo hnt rfl (s_fa_ptr tab_107 rfl rfl tab_3 (by decide) rfl ?_)
  refine qo hnt rfl (s_load_ptr1 tab_3 rfl rfl rfl rfl rfl ?_)
  refine qo hnt rfl (s_callX (r2 := PV.ref 3 0 none) (nx1 := 4) (H2 := [(2, oB false 1 enc8 ([u8I r.fn] ++ put2 r.at_)), (1, oB false 1 enc8 [u8I r.fn]), (0, .obj [pI r.fn, pI r.at_, pI r.count, pI r.wAt, pI r.sub, pS 1 false encBo r.bits, pS 1 false enc16 r.vals, p16 r.and_, p16 r.or_])]) (H3 := [(3, oB true 1 enc8 (([u8I r.fn] ++ put2 r.at_) ++ put2 r.count)), (2, oB false 1 enc8 ([u8I r.fn] ++ put2 r.at_)), (1, oB false 1 enc8 [u8I r.fn]), (0, .obj [pI r.fn, pI r.at_, pI r.count, pI r.wAt, pI r.sub, pS 1 false encBo r.bits, pS 1 false enc16 r.vals, p16 r.and_, p16 r.or_])]) [] [] rfl rfl rfl (handed_of (by decide) trivial) rfl rfl rfl rfl rfl rfl (w_burgageref1_Put ([u8I r.fn] ++ put2 r.at_) false r.count (by first | omega | assumption | (simp; omega) | decide | (simp; done))) rfl (dist_of rfl) rfl rfl rfl rfl ?_)
  refine qa hnt rfl rfl ?_
  refine r_set [(2, PV.ref 3 0 none)] [(3, oB true 1 enc8 (([u8I r.fn] ++ put2 r.at_) ++ put2 r.count)), (2, oB false 1 enc8 ([u8I r.fn] ++ put2 r.at_)), (1, oB false 1 enc8 [u8I r.fn]), (0, .obj [pI r.fn, pI r.at_, pI r.count, pI r.wAt, pI r.sub, pS 1 false encBo r.bits, pS 1 false enc16 r.vals, p16 r.and_, p16 r.or_])] 4 ⟨rfl, trivial⟩ rfl rfl ?_
  refine r_end ?_
  refine q_then ?_
  refine w_low (n := 3) rfl ?_
  refine w_H (H' := [(3, oB false 1 enc8 (writeR r)), (2, oB false 1 enc8 ([u8I r.fn] ++ put2 r.at_)), (1, oB false 1 enc8 [u8I r.fn]), (0, .obj [pI r.fn, pI r.at_, pI r.count, pI r.wAt, pI r.sub, pS 1 false encBo r.bits, pS 1 false enc16 r.vals, p16 r.and_, p16 r.or_])]) (congrArg (fun z => ([(3, oB false 1 enc8 z), (2, oB false 1 enc8 ([u8I r.fn] ++ put2 r.at_)), (1, oB false 1 enc8 [u8I r.fn]), (0, .obj [pI r.fn, pI r.at_, pI r.count, pI r.wAt, pI r.sub, pS 1 false encBo r.bits, pS 1 false enc16 r.vals, p16 r.and_, p16 r.or_])] : Heap)) (show ([u8I r.fn] ++ put2 r.at_) ++ put2 r.count = writeR r by first | (rw [writeR_1 (by omega)]; simp; done) | (rw [writeR_1 (by omega)]; done) | (rw [writeR_15 (by omega)]; simp; done) | (rw [writeR_16 (by omega)]; simp; done) | (rw [writeR_22 (by omega)]; simp; done) | (rw [writeR_23 (by omega)]; simp; done) | (rw [writeR_no (by omega)]; done) | (rw [writeR_5 (by omega) (by assumption)]; simp [*]; done) | (rw [writeR_6 (by omega) (by assumption)]; simp; done) | (rw [writeR_8 (by omega) (by assumption)]; simp; done))) ?_
  refine w_ret ?_
  refine q_block_ret ?_
  refine q_then_ret ?_
  exact fin_names (nx1 := 1) (H1 := [(0, oB false 1 enc8 (writeR r))]) [(0, 3)] (ret_tmp rfl ret_nil) rfl (by decide) ⟨⟨_, _, rfl, rfl, rfl, rfl⟩, trivial⟩ (by decide) rfl ⟨rfl, rfl, rfl⟩
 ·
  have c1_ := c1
  try simp only [sB] at c1
  refine w_seq ?_
  refine w_R ?_
  refine qo hnt rfl (s_eql rfl rfl ?_)
  refine qa hnt rfl rfl ?_
  refine r_end ?_
  refine q_then ?_
  refine w_if rfl (fun c2 => ?_) (fun c2 => ?_)
  ·
   have c2_ := c2
   try simp only [sB] at c2
   refine w_skip ?_
   refine q_then ?_
   refine w_if rfl (fun _ => ?_) (fun e => absurd (e.symm.trans c2_) (by decide))
   refine w_seq ?_
   refine w_R ?_
   refine qm hnt rfl rfl ?_
   refine qo hnt rfl (s_fa_ptr tab_107 rfl rfl tab_3 (by decide) rfl ?_)
   refine qo hnt rfl (s_load_ptr1 tab_3 rfl rfl rfl rfl rfl ?_)
   refine qo hnt rfl (s_callX (r2 := PV.ref 3 0 none) (nx1 := 4) (H2 := [(2, oB false 1 enc8 ([u8I r.fn] ++ put2 r.at_)), (1, oB false 1 enc8 [u8I r.fn]), (0, .obj [pI r.fn, pI r.at_, pI r.count, pI r.wAt, pI r.sub, pS 1 false encBo r.bits, pS 1 false enc16 r.vals, p16 r.and_, p16 r.or_])]) (H3 := [(3, oB true 1 enc8 (([u8I r.fn] ++ put2 r.at_) ++ put2 r.count)), (2, oB false 1 enc8 ([u8I r.fn] ++ put2 r.at_)), (1, oB false 1 enc8 [u8I r.fn]), (0, .obj [pI r.fn, pI r.at_, pI r.count, pI r.wAt, pI r.sub, pS 1 false encBo r.bits, pS 1 false enc16 r.vals, p16 r.and_, p16 r.or_])]) [] [] rfl rfl rfl (handed_of (by decide) trivial) rfl rfl rfl rfl rfl rfl (w_burgageref1_Put ([u8I r.fn] ++ put2 r.at_) false r.count (by first | omega | assumption | (simp; omega) | decide | (simp; done))) rfl (dist_of rfl) rfl rfl rfl rfl ?_)
   refine qa hnt rfl rfl ?_
   refine r_set [(2, PV.ref 3 0 none)] [(3, oB true 1 enc8 (([u8I r.fn] ++ put2 r.at_) ++ put2 r.count)), (2, oB false 1 enc8 ([u8I r.fn] ++ put2 r.at_)), (1, oB false 1 enc8 [u8I r.fn]), (0, .obj [pI r.fn, pI r.at_, pI r.count, pI r.wAt, pI r.sub, pS 1 false encBo r.bits, pS 1 false enc16 r.vals, p16 r.and_, p16 r.or_])] 4 ⟨rfl, trivial⟩ rfl rfl ?_
   refine r_end ?_
   refine q_then ?_
   refine w_low (n := 3) rfl ?_
   refine w_H (H' := [(3, oB false 1 enc8 (writeR r)), (2, oB false 1 enc8 ([u8I r.fn] ++ put2 r.at_)), (1, oB false 1 enc8 [u8I r.fn]), (0, .obj [pI r.fn, pI r.at_, pI r.count, pI r.wAt, pI r.sub, pS 1 false encBo r.bits, pS 1 false enc16 r.vals, p16 r.and_, p16 r.or_])]) (congrArg (fun z => ([(3, oB false 1 enc8 z), (2, oB false 1 enc8 ([u8I r.fn] ++ put2 r.at_)), (1, oB false 1 enc8 [u8I r.fn]), (0, .obj [pI r.fn, pI r.at_, pI r.count, pI r.wAt, pI r.sub, pS 1 false encBo r.bits, pS 1 false enc16 r.vals, p16 r.and_, p16 r.or_])] : Heap)) (show ([u8I r.fn] ++ put2 r.at_) ++ put2 r.count = writeR r by first | (rw [writeR_1 (by omega)]; simp; done) | (rw [writeR_1 (by omega)]; done) | (rw [writeR_15 (by omega)]; simp; done) | (rw [writeR_16 (by omega)]; simp; done) | (rw [writeR_22 (by omega)]; simp; done) | (rw [writeR_23 (by omega)]; simp; done) | (rw [writeR_no (by omega)]; done) | (rw [writeR_5 (by omega) (by assumption)]; simp [*]; done) | (rw [writeR_6 (by omega) (by assumption)]; simp; done) | (rw [writeR_8 (by omega) (by assumption)]; simp; done))) ?_
   refine w_ret ?_
   refine q_block_ret ?_
   refine q_then_ret ?_
   exact fin_names (nx1 := 1) (H1 := [(0, oB false 1 enc8 (writeR r))]) [(0, 3)] (ret_tmp rfl ret_nil) rfl (by decide) ⟨⟨_, _, rfl, rfl, rfl, rfl⟩, trivial⟩ (by decide) rfl ⟨rfl, rfl, rfl⟩
  ·
   have c2_ := c2
   try simp only [sB] at c2
   refine w_seq ?_
   refine w_R ?_
   refine qo hnt rfl (s_eql rfl rfl ?_)
   refine qa hnt rfl rfl ?_
   refine r_end ?_
   refine q_then ?_
   refine w_if rfl (fun c3 => ?_) (fun c3 => ?_)
   ·
    have c3_ := c3
    try simp only [sB] at c3
    refine w_skip ?_
    refine q_then ?_
    refine w_if rfl (fun _ => ?_) (fun e => absurd (e.symm.trans c3_) (by decide))
    refine w_seq ?_
    refine w_R ?_
    refine qm hnt rfl rfl ?_
    refine qo hnt rfl (s_fa_ptr tab_107 rfl rfl tab_3 (by decide) rfl ?_)
    refine qo hnt rfl (s_load_ptr1 tab_3 rfl rfl rfl rfl rfl ?_)
    refine qo hnt rfl (s_callX (r2 := PV.ref 3 0 none) (nx1 := 4) (H2 := [(2, oB false 1 enc8 ([u8I r.fn] ++ put2 r.at_)), (1, oB false 1 enc8 [u8I r.fn]), (0, .obj [pI r.fn, pI r.at_, pI r.count, pI r.wAt, pI r.sub, pS 1 false encBo r.bits, pS 1 false enc16 r.vals, p16 r.and_, p16 r.or_])]) (H3 := [(3, oB true 1 enc8 (([u8I r.fn] ++ put2 r.at_) ++ put2 r.count)), (2, oB false 1 enc8 ([u8I r.fn] ++ put2 r.at_)), (1, oB false 1 enc8 [u8I r.fn]), (0, .obj [pI r.fn, pI r.at_, pI r.count, pI r.wAt, pI r.sub, pS 1 false encBo r.bits, pS 1 false enc16 r.vals, p16 r.and_, p16 r.or_])]) [] [] rfl rfl rfl (handed_of (by decide) trivial) rfl rfl rfl rfl rfl rfl (w_burgageref1_Put ([u8I r.fn] ++ put2 r.at_) false r.count (by first | omega | assumption | (simp; omega) | decide | (simp; done))) rfl (dist_of rfl) rfl rfl rfl rfl ?_)
    refine qa hnt rfl rfl ?_
    refine r_set [(2, PV.ref 3 0 none)] [(3, oB true 1 enc8 (([u8I r.fn] ++ put2 r.at_) ++ put2 r.count)), (2, oB false 1 enc8 ([u8I r.fn] ++ put2 r.at_)), (1, oB false 1 enc8 [u8I r.fn]), (0, .obj [pI r.fn, pI r.at_, pI r.count, pI r.wAt, pI r.sub, pS 1 false encBo r.bits, pS 1 false enc16 r.vals, p16 r.and_, p16 r.or_])] 4 ⟨rfl, trivial⟩ rfl rfl ?_
    refine r_end ?_
    refine q_then ?_
    refine w_low (n := 3) rfl ?_
    refine w_H (H' := [(3, oB false 1 enc8 (writeR r)), (2, oB false 1 enc8 ([u8I r.fn] ++ put2 r.at_)), (1, oB false 1 enc8 [u8I r.fn]), (0, .obj [pI r.fn, pI r.at_, pI r.count, pI r.wAt, pI r.sub, pS 1 false encBo r.bits, pS 1 false enc16 r.vals, p16 r.and_, p16 r.or_])]) (congrArg (fun z => ([(3, oB false 1 enc8 z), (2, oB false 1 enc8 ([u8I r.fn] ++ put2 r.at_)), (1, oB false 1 enc8 [u8I r.fn]), (0, .obj [pI r.fn, pI r.at_, pI r.count, pI r.wAt, pI r.sub, pS 1 false encBo r.bits, pS 1 false enc16 r.vals, p16 r.and_, p16 r.or_])] : Heap)) (show ([u8I r.fn] ++ put2 r.at_) ++ put2 r.count = writeR r by first | (rw [writeR_1 (by omega)]; simp; done) | (rw [writeR_1 (by omega)]; done) | (rw [writeR_15 (by omega)]; simp; done) | (rw [writeR_16 (by omega)]; simp; done) | (rw [writeR_22 (by omega)]; simp; done) | (rw [writeR_23 (by omega)]; simp; done) | (rw [writeR_no (by omega)]; done) | (rw [writeR_5 (by omega) (by assumption)]; simp [*]; done) | (rw [writeR_6 (by omega) (by assumption)]; simp; done) | (rw [writeR_8 (by omega) (by assumption)]; simp; done))) ?_
    refine w_ret ?_
    refine q_block_ret ?_
    refine q_then_ret ?_
    exact fin_names (nx1 := 1) (H1 := [(0, oB false 1 enc8 (writeR r))]) [(0, 3)] (ret_tmp rfl ret_nil) rfl (by decide) ⟨⟨_, _, rfl, rfl, rfl, rfl⟩, trivial⟩ (by decide) rfl ⟨rfl, rfl, rfl⟩
   ·
    have c3_ := c3
    try simp only [sB] at c3
    refine w_R ?_
    refine qo hnt rfl (s_eql rfl rfl ?_)
    refine qa hnt rfl rfl ?_
    refine r_end ?_
    refine q_then ?_
    refine w_if rfl (fun c4 => ?_) (fun c4 => ?_)
    ·
     have c4_ := c4
     try simp only [sB] at c4
     refine w_seq ?_
     refine w_R ?_
     refine qm hnt rfl rfl ?_
     refine qo hnt rfl (s_fa_ptr tab_107 rfl rfl tab_3 (by decide) rfl ?_)
     refine qo hnt rfl (s_load_ptr1 tab_3 rfl rfl rfl rfl rfl ?_)
     refine qo hnt rfl (s_callX (r2 := PV.ref 3 0 none) (nx1 := 4) (H2 := [(2, oB false 1 enc8 ([u8I r.fn] ++ put2 r.at_)), (1, oB false 1 enc8 [u8I r.fn]), (0, .obj [pI r.fn, pI r.at_, pI r.count, pI r.wAt, pI r.sub, pS 1 false encBo r.bits, pS 1 false enc16 r.vals, p16 r.and_, p16 r.or_])]) (H3 := [(3, oB true 1 enc8 (([u8I r.fn] ++ put2 r.at_) ++ put2 r.count)), (2, oB false 1 enc8 ([u8I r.fn] ++ put2 r.at_)), (1, oB false 1 enc8 [u8I r.fn]), (0, .obj [pI r.fn, pI r.at_, pI r.count, pI r.wAt, pI r.sub, pS 1 false encBo r.bits, pS 1 false enc16 r.vals, p16 r.and_, p16 r.or_])]) [] [] rfl rfl rfl (handed_of (by decide) trivial) rfl rfl rfl rfl rfl rfl (w_burgageref1_Put ([u8I r.fn] ++ put2 r.at_) false r.count (by first | omega | assumption | (simp; omega) | decide | (simp; done))) rfl (dist_of rfl) rfl rfl rfl rfl ?_)
     refine qa hnt rfl rfl ?_
     refine r_set [(2, PV.ref 3 0 none)] [(3, oB true 1 enc8 (([u8I r.fn] ++ put2 r.at_) ++ put2 r.count)), (2, oB false 1 enc8 ([u8I r.fn] ++ put2 r.at_)), (1, oB false 1 enc8 [u8I r.fn]), (0, .obj [pI r.fn, pI r.at_, pI r.count, pI r.wAt, pI r.sub, pS 1 false encBo r.bits, pS 1 false enc16 r.vals, p16 r.and_, p16 r.or_])] 4 ⟨rfl, trivial⟩ rfl rfl ?_
     refine r_end ?_
     refine q_then ?_
     refine w_low (n := 3) rfl ?_
     refine w_H (H' := [(3, oB false 1 enc8 (writeR r)), (2, oB false 1 enc8 ([u8I r.fn] ++ put2 r.at_)), (1, oB false 1 enc8 [u8I r.fn]), (0, .obj [pI r.fn, pI r.at_, pI r.count, pI r.wAt, pI r.sub, pS 1 false encBo r.bits, pS 1 false enc16 r.vals, p16 r.and_, p16 r.or_])]) (congrArg (fun z => ([(3, oB false 1 enc8 z), (2, oB false 1 enc8 ([u8I r.fn] ++ put2 r.at_)), (1, oB false 1 enc8 [u8I r.fn]), (0, .obj [pI r.fn, pI r.at_, pI r.count, pI r.wAt, pI r.sub, pS 1 false encBo r.bits, pS 1 false enc16 r.vals, p16 r.and_, p16 r.or_])] : Heap)) (show ([u8I r.fn] ++ put2 r.at_) ++ put2 r.count = writeR r by first | (rw [writeR_1 (by omega)]; simp; done) | (rw [writeR_1 (by omega)]; done) | (rw [writeR_15 (by omega)]; simp; done) | (rw [writeR_16 (by omega)]; simp; done) | (rw [writeR_22 (by omega)]; simp; done) | (rw [writeR_23 (by omega)]; simp; done) | (rw [writeR_no (by omega)]; done) | (rw [writeR_5 (by omega) (by assumption)]; simp [*]; done) | (rw [writeR_6 (by omega) (by assumption)]; simp; done) | (rw [writeR_8 (by omega) (by assumption)]; simp; done))) ?_
     refine w_ret ?_
     refine q_block_ret ?_
     refine q_then_ret ?_
     exact fin_names (nx1 := 1) (H1 := [(0, oB false 1 enc8 (writeR r))]) [(0, 3)] (ret_tmp rfl ret_nil) rfl (by decide) ⟨⟨_, _, rfl, rfl, rfl, rfl⟩, trivial⟩ (by decide) rfl ⟨rfl, rfl, rfl⟩
    ·
     have c4_ := c4
     try simp only [sB] at c4
     refine w_seq ?_
     refine w_R ?_
     refine qo hnt rfl (s_eql rfl rfl ?_)
     refine qa hnt rfl rfl ?_
     refine r_end ?_
     refine q_then ?_
     refine w_if rfl (fun c5 => ?_) (fun c5 => ?_)
     ·
      have c5_ := c5
      try simp only [sB] at c5
      refine w_seq ?_
      refine w_seq ?_
      refine w_R ?_
      refine qo hnt rfl (s_fa_ptr tab_107 rfl rfl tab_44 (by decide) rfl ?_)
      refine qo hnt rfl (s_load_ptr1 tab_44 rfl rfl rfl rfl rfl ?_)
      obtain ⟨e1, he1⟩ := get_of_lt r.bits (i := 0) (by omega)
      refine qo hnt rfl (s_iaM (q := 0) (b := e1) (f := encBo) tab_44 rfl tab_4 rfl rfl (by omega) rfl he1 ?_)
      refine qo hnt rfl (s_load_ro1 tab_4 rfl rfl rfl rfl ?_)
      refine r_end ?_
      refine q_then ?_
      refine w_if rfl (fun c6 => ?_) (fun c6 => ?_)
      ·
       have c6_ := c6
       try simp only [sB] at c6
       refine w_seq ?_
       refine w_R ?_
       refine qm hnt rfl rfl ?_
       refine qo hnt rfl (s_callX (r2 := PV.ref 3 0 none) (nx1 := 4) (H2 := [(2, oB false 1 enc8 ([u8I r.fn] ++ put2 r.at_)), (1, oB false 1 enc8 [u8I r.fn]), (0, .obj [pI r.fn, pI r.at_, pI r.count, pI r.wAt, pI r.sub, pS 1 false encBo r.bits, pS 1 false enc16 r.vals, p16 r.and_, p16 r.or_])]) (H3 := [(3, oB true 1 enc8 (([u8I r.fn] ++ put2 r.at_) ++ put2 65280)), (2, oB false 1 enc8 ([u8I r.fn] ++ put2 r.at_)), (1, oB false 1 enc8 [u8I r.fn]), (0, .obj [pI r.fn, pI r.at_, pI r.count, pI r.wAt, pI r.sub, pS 1 false encBo r.bits, pS 1 false enc16 r.vals, p16 r.and_, p16 r.or_])]) [] [] rfl rfl rfl (handed_of (by decide) trivial) rfl rfl rfl rfl rfl rfl (w_burgageref1_Put ([u8I r.fn] ++ put2 r.at_) false 65280 (by first | omega | assumption | (simp; omega) | decide | (simp; done))) rfl (dist_of rfl) rfl rfl rfl rfl ?_)
       refine qa hnt rfl rfl ?_
       refine r_set [(2, PV.ref 3 0 none)] [(3, oB true 1 enc8 (([u8I r.fn] ++ put2 r.at_) ++ put2 65280)), (2, oB false 1 enc8 ([u8I r.fn] ++ put2 r.at_)), (1, oB false 1 enc8 [u8I r.fn]), (0, .obj [pI r.fn, pI r.at_, pI r.count, pI r.wAt, pI r.sub, pS 1 false encBo r.bits, pS 1 false enc16 r.vals, p16 r.and_, p16 r.or_])] 4 ⟨rfl, trivial⟩ rfl rfl ?_
       refine r_end ?_
       refine q_then ?_
       refine w_low (n := 3) rfl ?_
       refine w_H (H' := [(3, oB false 1 enc8 (writeR r)), (2, oB false 1 enc8 ([u8I r.fn] ++ put2 r.at_)), (1, oB false 1 enc8 [u8I r.fn]), (0, .obj [pI r.fn, pI r.at_, pI r.count, pI r.wAt, pI r.sub, pS 1 false encBo r.bits, pS 1 false enc16 r.vals, p16 r.and_, p16 r.or_])]) (congrArg (fun z => ([(3, oB false 1 enc8 z), (2, oB false 1 enc8 ([u8I r.fn] ++ put2 r.at_)), (1, oB false 1 enc8 [u8I r.fn]), (0, .obj [pI r.fn, pI r.at_, pI r.count, pI r.wAt, pI r.sub, pS 1 false encBo r.bits, pS 1 false enc16 r.vals, p16 r.and_, p16 r.or_])] : Heap)) (show ([u8I r.fn] ++ put2 r.at_) ++ put2 65280 = writeR r by first | (rw [writeR_1 (by omega)]; simp; done) | (rw [writeR_1 (by omega)]; done) | (rw [writeR_15 (by omega)]; simp; done) | (rw [writeR_16 (by omega)]; simp; done) | (rw [writeR_22 (by omega)]; simp; done) | (rw [writeR_23 (by omega)]; simp; done) | (rw [writeR_no (by omega)]; done) | (rw [writeR_5 (by omega) (by assumption)]; simp [*]; done) | (rw [writeR_6 (by omega) (by assumption)]; simp; done) | (rw [writeR_8 (by omega) (by assumption)]; simp; done))) ?_
       refine w_ret ?_
       refine q_then_ret ?_
       refine q_block_ret ?_
       refine q_then_ret ?_
       exact fin_names (nx1 := 1) (H1 := [(0, oB false 1 enc8 (writeR r))]) [(0, 3)] (ret_tmp rfl ret_nil) rfl (by decide) ⟨⟨_, _, rfl, rfl, rfl, rfl⟩, trivial⟩ (by decide) rfl ⟨rfl, rfl, rfl⟩
      ·
       have c6_ := c6
       try simp only [sB] at c6
       refine w_skip ?_
       refine q_then ?_
       refine w_seq ?_
       refine w_R ?_
       refine qm hnt rfl rfl ?_
       refine qo hnt rfl (s_callX (r2 := PV.ref 3 0 none) (nx1 := 4) (H2 := [(2, oB false 1 enc8 ([u8I r.fn] ++ put2 r.at_)), (1, oB false 1 enc8 [u8I r.fn]), (0, .obj [pI r.fn, pI r.at_, pI r.count, pI r.wAt, pI r.sub, pS 1 false encBo r.bits, pS 1 false enc16 r.vals, p16 r.and_, p16 r.or_])]) (H3 := [(3, oB true 1 enc8 (([u8I r.fn] ++ put2 r.at_) ++ put2 0)), (2, oB false 1 enc8 ([u8I r.fn] ++ put2 r.at_)), (1, oB false 1 enc8 [u8I r.fn]), (0, .obj [pI r.fn, pI r.at_, pI r.count, pI r.wAt, pI r.sub, pS 1 false encBo r.bits, pS 1 false enc16 r.vals, p16 r.and_, p16 r.or_])]) [] [] rfl rfl rfl (handed_of (by decide) trivial) rfl rfl rfl rfl rfl rfl (w_burgageref1_Put ([u8I r.fn] ++ put2 r.at_) false 0 (by first | omega | assumption | (simp; omega) | decide | (simp; done))) rfl (dist_of rfl) rfl rfl rfl rfl ?_)
       refine qa hnt rfl rfl ?_
       refine r_set [(2, PV.ref 3 0 none)] [(3, oB true 1 enc8 (([u8I r.fn] ++ put2 r.at_) ++ put2 0)), (2, oB false 1 enc8 ([u8I r.fn] ++ put2 r.at_)), (1, oB false 1 enc8 [u8I r.fn]), (0, .obj [pI r.fn, pI r.at_, pI r.count, pI r.wAt, pI r.sub, pS 1 false encBo r.bits, pS 1 false enc16 r.vals, p16 r.and_, p16 r.or_])] 4 ⟨rfl, trivial⟩ rfl rfl ?_
       refine r_end ?_
       refine q_then ?_
       refine w_low (n := 3) rfl ?_
       refine w_H (H' := [(3, oB false 1 enc8 (writeR r)), (2, oB false 1 enc8 ([u8I r.fn] ++ put2 r.at_)), (1, oB false 1 enc8 [u8I r.fn]), (0, .obj [pI r.fn, pI r.at_, pI r.count, pI r.wAt, pI r.sub, pS 1 false encBo r.bits, pS 1 false enc16 r.vals, p16 r.and_, p16 r.or_])]) (congrArg (fun z => ([(3, oB false 1 enc8 z), (2, oB false 1 enc8 ([u8I r.fn] ++ put2 r.at_)), (1, oB false 1 enc8 [u8I r.fn]), (0, .obj [pI r.fn, pI r.at_, pI r.count, pI r.wAt, pI r.sub, pS 1 false encBo r.bits, pS 1 false enc16 r.vals, p16 r.and_, p16 r.or_])] : Heap)) (show ([u8I r.fn] ++ put2 r.at_) ++ put2 0 = writeR r by first | (rw [writeR_1 (by omega)]; simp; done) | (rw [writeR_1 (by omega)]; done) | (rw [writeR_15 (by omega)]; simp; done) | (rw [writeR_16 (by omega)]; simp; done) | (rw [writeR_22 (by omega)]; simp; done) | (rw [writeR_23 (by omega)]; simp; done) | (rw [writeR_no (by omega)]; done) | (rw [writeR_5 (by omega) (by assumption)]; simp [*]; done) | (rw [writeR_6 (by omega) (by assumption)]; simp; done) | (rw [writeR_8 (by omega) (by assumption)]; simp; done))) ?_
       refine w_ret ?_
       refine q_block_ret ?_
       refine q_then_ret ?_
       exact fin_names (nx1 := 1) (H1 := [(0, oB false 1 enc8 (writeR r))]) [(0, 3)] (ret_tmp rfl ret_nil) rfl (by decide) ⟨⟨_, _, rfl, rfl, rfl, rfl⟩, trivial⟩ (by decide) rfl ⟨rfl, rfl, rfl⟩
     ·
      have c5_ := c5
      try simp only [sB] at c5
      refine w_seq ?_
      refine w_R ?_
      refine qo hnt rfl (s_eql rfl rfl ?_)
      refine qa hnt rfl rfl ?_
      refine r_end ?_
      refine q_then ?_
      refine w_if rfl (fun c7 => ?_) (fun c7 => ?_)
      ·
       have c7_ := c7
       try simp only [sB] at c7
       refine w_seq ?_
       refine w_R ?_
       refine qm hnt rfl rfl ?_
       refine qo hnt rfl (s_fa_ptr tab_107 rfl rfl tab_45 (by decide) rfl ?_)
       refine qo hnt rfl (s_load_ptr1 tab_45 rfl rfl rfl rfl rfl ?_)
       obtain ⟨e2, he2⟩ := get_of_lt r.vals (i := 0) (by omega)
       refine qo hnt rfl (s_iaM (q := 0) (b := e2) (f := enc16) tab_45 rfl tab_47 rfl rfl (by omega) rfl he2 ?_)
       refine qo hnt rfl (s_load_ro1 tab_47 rfl rfl rfl rfl ?_)
       refine qo hnt rfl (s_cvN (a := UInt16.toNat e2) tab_47 tab_3 rfl rfl rfl (by omega) (by have := lt16 e2; omega) ?_)
       refine qo hnt rfl (s_callX (r2 := PV.ref 3 0 none) (nx1 := 4) (H2 := [(2, oB false 1 enc8 ([u8I r.fn] ++ put2 r.at_)), (1, oB false 1 enc8 [u8I r.fn]), (0, .obj [pI r.fn, pI r.at_, pI r.count, pI r.wAt, pI r.sub, pS 1 false encBo r.bits, pS 1 false enc16 r.vals, p16 r.and_, p16 r.or_])]) (H3 := [(3, oB true 1 enc8 (([u8I r.fn] ++ put2 r.at_) ++ put2 ((UInt16.toNat e2 : Nat) : Int))), (2, oB false 1 enc8 ([u8I r.fn] ++ put2 r.at_)), (1, oB false 1 enc8 [u8I r.fn]), (0, .obj [pI r.fn, pI r.at_, pI r.count, pI r.wAt, pI r.sub, pS 1 false encBo r.bits, pS 1 false enc16 r.vals, p16 r.and_, p16 r.or_])]) [] [] rfl rfl rfl (handed_of (by decide) trivial) rfl rfl rfl rfl rfl rfl (w_burgageref1_Put ([u8I r.fn] ++ put2 r.at_) false ((UInt16.toNat e2 : Nat) : Int) (by first | omega | assumption | (simp; omega) | decide | (simp; done))) rfl (dist_of rfl) rfl rfl rfl rfl ?_)
       refine qa hnt rfl rfl ?_
       refine r_set [(2, PV.ref 3 0 none)] [(3, oB true 1 enc8 (([u8I r.fn] ++ put2 r.at_) ++ put2 ((UInt16.toNat e2 : Nat) : Int))), (2, oB false 1 enc8 ([u8I r.fn] ++ put2 r.at_)), (1, oB false 1 enc8 [u8I r.fn]), (0, .obj [pI r.fn, pI r.at_, pI r.count, pI r.wAt, pI r.sub, pS 1 false encBo r.bits, pS 1 false enc16 r.vals, p16 r.and_, p16 r.or_])] 4 ⟨rfl, trivial⟩ rfl rfl ?_
       refine r_end ?_
       refine q_then ?_
       refine w_low (n := 3) rfl ?_
       refine w_H (H' := [(3, oB false 1 enc8 (writeR r)), (2, oB false 1 enc8 ([u8I r.fn] ++ put2 r.at_)), (1, oB false 1 enc8 [u8I r.fn]), (0, .obj [pI r.fn, pI r.at_, pI r.count, pI r.wAt, pI r.sub, pS 1 false encBo r.bits, pS 1 false enc16 r.vals, p16 r.and_, p16 r.or_])]) (congrArg (fun z => ([(3, oB false 1 enc8 z), (2, oB false 1 enc8 ([u8I r.fn] ++ put2 r.at_)), (1, oB false 1 enc8 [u8I r.fn]), (0, .obj [pI r.fn, pI r.at_, pI r.count, pI r.wAt, pI r.sub, pS 1 false encBo r.bits, pS 1 false enc16 r.vals, p16 r.and_, p16 r.or_])] : Heap)) (show ([u8I r.fn] ++ put2 r.at_) ++ put2 ((UInt16.toNat e2 : Nat) : Int) = writeR r by first | (rw [writeR_1 (by omega)]; simp; done) | (rw [writeR_1 (by omega)]; done) | (rw [writeR_15 (by omega)]; simp; done) | (rw [writeR_16 (by omega)]; simp; done) | (rw [writeR_22 (by omega)]; simp; done) | (rw [writeR_23 (by omega)]; simp; done) | (rw [writeR_no (by omega)]; done) | (rw [writeR_5 (by omega) (by assumption)]; simp [*]; done) | (rw [writeR_6 (by omega) (by assumption)]; simp; done) | (rw [writeR_8 (by omega) (by assumption)]; simp; done))) ?_
       refine w_ret ?_
       refine q_block_ret ?_
       refine q_then_ret ?_
       exact fin_names (nx1 := 1) (H1 := [(0, oB false 1 enc8 (writeR r))]) [(0, 3)] (ret_tmp rfl ret_nil) rfl (by decide) ⟨⟨_, _, rfl, rfl, rfl, rfl⟩, trivial⟩ (by decide) rfl ⟨rfl, rfl, rfl⟩
      ·
       have c7_ := c7
       try simp only [sB] at c7
       refine w_seq ?_
       refine w_R ?_
       refine qo hnt rfl (s_eql rfl rfl ?_)
       refine qa hnt rfl rfl ?_
       refine r_end ?_
       refine q_then ?_
       refine w_if rfl (fun c8 => ?_) (fun c8 => ?_)
       ·
        have c8_ := c8
        try simp only [sB] at c8
        refine w_seq ?_
        refine W_drawn tabOk mixed hnt [[], [], [1], [0, 1, 2], [], [4], [4, 5], [4, 5, 6], [4, 5, 6, 7], [0, 1, 2, 3, 4, 5, 6, 7, 8], [0, 1, 2, 3, 4, 5, 6, 7, 8, 9]] (by kernel_rfl) ?_
        refine d_op ?_
        refine x_run0 [(3, PV.ref 1 0 none)] [] rfl rfl rfl rfl (s_move rfl ⟨rfl, rfl, rfl⟩) ?_
        refine d_op ?_
        refine x_run0 [(1, PV.ptr 0 0)] [] rfl rfl rfl rfl (s_fa_ptr tab_107 rfl rfl tab_3 (by decide) rfl ⟨rfl, rfl, rfl⟩) ?_
        refine d_op ?_
        refine x_run [(47, PV.ptr 0 4)] [1] [(0, .obj [pI r.fn, pI r.at_, pI r.count, pI r.wAt, pI r.sub, pS 1 false encBo r.bits, pS 1 false enc16 r.vals, p16 r.and_, p16 r.or_])] [] [(0, .obj [pI r.fn, pI r.at_, pI r.count, pI r.wAt, pI r.sub, pS 1 false encBo r.bits, pS 1 false enc16 r.vals, p16 r.and_, p16 r.or_])] [] [(2, oB true 1 enc8 ([u8I r.fn] ++ put2 r.at_)), (1, oB false 1 enc8 [u8I r.fn]), (0, .obj [pI r.fn, pI r.at_, pI r.count, pI r.wAt, pI r.sub, pS 1 false encBo r.bits, pS 1 false enc16 r.vals, p16 r.and_, p16 r.or_])] rfl rfl rfl rfl rfl rfl (s_load_ptr1 tab_3 rfl rfl rfl rfl rfl ⟨rfl, rfl, rfl⟩) rfl ⟨rfl, trivial⟩ rfl rfl ?_
        refine d_op ?_
        refine x_run [(46, PV.ref 1 0 none), (48, pI r.sub)] [0, 1, 2] [] [(1, oB false 1 enc8 [u8I r.fn])] [(3, oB true 1 enc8 ([u8I r.fn] ++ put2 r.sub)), (1, oB false 1 enc8 [u8I r.fn])] [(3, oB true 1 enc8 ([u8I r.fn] ++ put2 r.sub)), (1, oB false 1 enc8 [u8I r.fn])] [(3, oB true 1 enc8 ([u8I r.fn] ++ put2 r.sub)), (1, oB false 1 enc8 [u8I r.fn]), (2, oB true 1 enc8 ([u8I r.fn] ++ put2 r.at_)), (0, .obj [pI r.fn, pI r.at_, pI r.count, pI r.wAt, pI r.sub, pS 1 false encBo r.bits, pS 1 false enc16 r.vals, p16 r.and_, p16 r.or_])] rfl rfl rfl rfl rfl rfl (s_callX (r2 := PV.ref 3 0 none) (nx1 := 4) (H2 := [(1, oB false 1 enc8 [u8I r.fn])]) (H3 := [(3, oB true 1 enc8 ([u8I r.fn] ++ put2 r.sub)), (1, oB false 1 enc8 [u8I r.fn])]) [] [] rfl rfl rfl (handed_of (by decide) trivial) rfl rfl rfl rfl rfl rfl (w_burgageref1_Put [u8I r.fn] false r.sub (by first | omega | assumption | (simp; omega) | decide | (simp; done))) rfl (dist_of rfl) rfl rfl rfl rfl ⟨rfl, rfl, rfl⟩) rfl trivial rfl rfl ?_
        refine d_op ?_
        refine x_run0 [(1, PV.ptr 0 0)] [] rfl rfl rfl rfl (s_fa_ptr tab_107 rfl rfl tab_45 (by decide) rfl ⟨rfl, rfl, rfl⟩) ?_
        refine d_op ?_
        refine x_run [(50, PV.ptr 0 6)] [4] [(0, .obj [pI r.fn, pI r.at_, pI r.count, pI r.wAt, pI r.sub, pS 1 false encBo r.bits, pS 1 false enc16 r.vals, p16 r.and_, p16 r.or_])] [] [(0, .obj [pI r.fn, pI r.at_, pI r.count, pI r.wAt, pI r.sub, pS 1 false encBo r.bits, pS 1 false enc16 r.vals, p16 r.and_, p16 r.or_])] [] [(3, oB true 1 enc8 ([u8I r.fn] ++ put2 r.sub)), (1, oB false 1 enc8 [u8I r.fn]), (2, oB true 1 enc8 ([u8I r.fn] ++ put2 r.at_)), (0, .obj [pI r.fn, pI r.at_, pI r.count, pI r.wAt, pI r.sub, pS 1 false encBo r.bits, pS 1 false enc16 r.vals, p16 r.and_, p16 r.or_])] rfl rfl rfl rfl rfl rfl (s_load_ptr1 tab_45 rfl rfl rfl rfl rfl ⟨rfl, rfl, rfl⟩) rfl ⟨rfl, trivial⟩ rfl rfl ?_
        refine d_op ?_
        obtain ⟨e3, he3⟩ := get_of_lt r.vals (i := 0) (by omega)
        refine x_run0 [(51, pS 1 false enc16 r.vals)] [4, 5] rfl rfl rfl rfl (s_iaM (q := 0) (b := e3) (f := enc16) tab_45 rfl tab_47 rfl rfl (by omega) rfl he3 ⟨rfl, rfl, rfl⟩) ?_
        refine d_op ?_
        refine x_run0 [(52, PV.f (.ro (enc16 e3)))] [4, 5, 6] rfl rfl rfl rfl (s_load_ro1 tab_47 rfl rfl rfl rfl ⟨rfl, rfl, rfl⟩) ?_
        refine d_op ?_
        refine x_run0 [(53, p16 e3)] [4, 5, 6, 7] rfl rfl rfl rfl (s_cvN (a := UInt16.toNat e3) tab_47 tab_3 rfl rfl rfl (by omega) (by have := lt16 e3; omega) ⟨rfl, rfl, rfl⟩) ?_
        refine d_op ?_
        refine x_run [(49, PV.ref 3 0 none), (54, pN (UInt16.toNat e3))] [0, 1, 2, 3, 4, 5, 6, 7, 8] [] [(3, oB true 1 enc8 ([u8I r.fn] ++ put2 r.sub))] [(4, oB true 1 enc8 (([u8I r.fn] ++ put2 r.sub) ++ put2 ((UInt16.toNat e3 : Nat) : Int))), (3, oB false 1 enc8 ([u8I r.fn] ++ put2 r.sub))] [(4, oB true 1 enc8 (([u8I r.fn] ++ put2 r.sub) ++ put2 ((UInt16.toNat e3 : Nat) : Int))), (3, oB false 1 enc8 ([u8I r.fn] ++ put2 r.sub))] [(4, oB true 1 enc8 (([u8I r.fn] ++ put2 r.sub) ++ put2 ((UInt16.toNat e3 : Nat) : Int))), (3, oB false 1 enc8 ([u8I r.fn] ++ put2 r.sub)), (1, oB false 1 enc8 [u8I r.fn]), (2, oB true 1 enc8 ([u8I r.fn] ++ put2 r.at_)), (0, .obj [pI r.fn, pI r.at_, pI r.count, pI r.wAt, pI r.sub, pS 1 false encBo r.bits, pS 1 false enc16 r.vals, p16 r.and_, p16 r.or_])] rfl rfl rfl rfl rfl rfl (s_callX (r2 := PV.ref 4 0 none) (nx1 := 5) (H2 := [(3, oB false 1 enc8 ([u8I r.fn] ++ put2 r.sub))]) (H3 := [(4, oB true 1 enc8 (([u8I r.fn] ++ put2 r.sub) ++ put2 ((UInt16.toNat e3 : Nat) : Int))), (3, oB false 1 enc8 ([u8I r.fn] ++ put2 r.sub))]) [] [] rfl rfl rfl (handed_of (by decide) trivial) rfl rfl rfl rfl rfl rfl (w_burgageref1_Put ([u8I r.fn] ++ put2 r.sub) false ((UInt16.toNat e3 : Nat) : Int) (by first | omega | assumption | (simp; omega) | decide | (simp; done))) rfl (dist_of rfl) rfl rfl rfl rfl ⟨rfl, rfl, rfl⟩) rfl trivial rfl rfl ?_
        refine d_op ?_
        refine x_run0 [(55, PV.ref 4 0 none)] [0, 1, 2, 3, 4, 5, 6, 7, 8, 9] rfl rfl rfl rfl (s_assign rfl ⟨rfl, rfl, rfl⟩) ?_
        refine d_end ⟨by kernel_rfl, ?_⟩
        refine q_then ?_
        refine w_low (n := 4) rfl ?_
        refine w_H (H' := [(4, oB false 1 enc8 (writeR r)), (3, oB false 1 enc8 ([u8I r.fn] ++ put2 r.sub)), (1, oB false 1 enc8 [u8I r.fn]), (2, oB true 1 enc8 ([u8I r.fn] ++ put2 r.at_)), (0, .obj [pI r.fn, pI r.at_, pI r.count, pI r.wAt, pI r.sub, pS 1 false encBo r.bits, pS 1 false enc16 r.vals, p16 r.and_, p16 r.or_])]) (congrArg (fun z => ([(4, oB false 1 enc8 z), (3, oB false 1 enc8 ([u8I r.fn] ++ put2 r.sub)), (1, oB false 1 enc8 [u8I r.fn]), (2, oB true 1 enc8 ([u8I r.fn] ++ put2 r.at_)), (0, .obj [pI r.fn, pI r.at_, pI r.count, pI r.wAt, pI r.sub, pS 1 false encBo r.bits, pS 1 false enc16 r.vals, p16 r.and_, p16 r.or_])] : Heap)) (show ([u8I r.fn] ++ put2 r.sub) ++ put2 ((UInt16.toNat e3 : Nat) : Int) = writeR r by first | (rw [writeR_1 (by omega)]; simp; done) | (rw [writeR_1 (by omega)]; done) | (rw [writeR_15 (by omega)]; simp; done) | (rw [writeR_16 (by omega)]; simp; done) | (rw [writeR_22 (by omega)]; simp; done) | (rw [writeR_23 (by omega)]; simp; done) | (rw [writeR_no (by omega)]; done) | (rw [writeR_5 (by omega) (by assumption)]; simp [*]; done) | (rw [writeR_6 (by omega) (by assumption)]; simp; done) | (rw [writeR_8 (by omega) (by assumption)]; simp; done))) ?_
        refine w_ret ?_
        refine q_block_ret ?_
        refine q_then_ret ?_
        exact fin_names (nx1 := 1) (H1 := [(0, oB false 1 enc8 (writeR r))]) [(0, 4)] (ret_tmp rfl ret_nil) rfl (by decide) ⟨⟨_, _, rfl, rfl, rfl, rfl⟩, trivial⟩ (by decide) rfl ⟨rfl, rfl, rfl⟩
       ·
        have c8_ := c8
        try simp only [sB] at c8
        refine w_seq ?_
        refine w_R ?_
        refine qo hnt rfl (s_eql rfl rfl ?_)
        refine qa hnt rfl rfl ?_
        refine r_end ?_
        refine q_then ?_
        refine w_if rfl (fun c9 => ?_) (fun c9 => ?_)
        ·
         have c9_ := c9
         try simp only [sB] at c9
         refine w_seq ?_
         refine W_drawn tabOk mixed hnt [[], [], [1], [0, 1, 2], [], [4], [0, 1, 2, 3, 4, 5], [0, 1, 2, 3, 4, 5, 6], [0, 1, 2, 3, 4, 5, 6, 7]] (by kernel_rfl) ?_
         refine d_op ?_
         refine x_run0 [(4, PV.ref 2 0 none)] [] rfl rfl rfl rfl (s_move rfl ⟨rfl, rfl, rfl⟩) ?_
         refine d_op ?_
         refine x_run0 [(1, PV.ptr 0 0)] [] rfl rfl rfl rfl (s_fa_ptr tab_107 rfl rfl tab_3 (by decide) rfl ⟨rfl, rfl, rfl⟩) ?_
         refine d_op ?_
         refine x_run [(59, PV.ptr 0 2)] [1] [(0, .obj [pI r.fn, pI r.at_, pI r.count, pI r.wAt, pI r.sub, pS 1 false encBo r.bits, pS 1 false enc16 r.vals, p16 r.and_, p16 r.or_])] [] [(0, .obj [pI r.fn, pI r.at_, pI r.count, pI r.wAt, pI r.sub, pS 1 false encBo r.bits, pS 1 false enc16 r.vals, p16 r.and_, p16 r.or_])] [] [(2, oB true 1 enc8 ([u8I r.fn] ++ put2 r.at_)), (1, oB false 1 enc8 [u8I r.fn]), (0, .obj [pI r.fn, pI r.at_, pI r.count, pI r.wAt, pI r.sub, pS 1 false encBo r.bits, pS 1 false enc16 r.vals, p16 r.and_, p16 r.or_])] rfl rfl rfl rfl rfl rfl (s_load_ptr1 tab_3 rfl rfl rfl rfl rfl ⟨rfl, rfl, rfl⟩) rfl ⟨rfl, trivial⟩ rfl rfl ?_
         refine d_op ?_
         refine x_run [(58, PV.ref 2 0 none), (60, pI r.count)] [0, 1, 2] [] [(2, oB true 1 enc8 ([u8I r.fn] ++ put2 r.at_))] [(3, oB true 1 enc8 (([u8I r.fn] ++ put2 r.at_) ++ put2 r.count)), (2, oB false 1 enc8 ([u8I r.fn] ++ put2 r.at_))] [(3, oB true 1 enc8 (([u8I r.fn] ++ put2 r.at_) ++ put2 r.count)), (2, oB false 1 enc8 ([u8I r.fn] ++ put2 r.at_))] [(3, oB true 1 enc8 (([u8I r.fn] ++ put2 r.at_) ++ put2 r.count)), (2, oB false 1 enc8 ([u8I r.fn] ++ put2 r.at_)), (1, oB false 1 enc8 [u8I r.fn]), (0, .obj [pI r.fn, pI r.at_, pI r.count, pI r.wAt, pI r.sub, pS 1 false encBo r.bits, pS 1 false enc16 r.vals, p16 r.and_, p16 r.or_])] rfl rfl rfl rfl rfl rfl (s_callX (r2 := PV.ref 3 0 none) (nx1 := 4) (H2 := [(2, oB false 1 enc8 ([u8I r.fn] ++ put2 r.at_))]) (H3 := [(3, oB true 1 enc8 (([u8I r.fn] ++ put2 r.at_) ++ put2 r.count)), (2, oB false 1 enc8 ([u8I r.fn] ++ put2 r.at_))]) [] [] rfl rfl rfl (handed_of (by decide) trivial) rfl rfl rfl rfl rfl rfl (w_burgageref1_Put ([u8I r.fn] ++ put2 r.at_) false r.count (by first | omega | assumption | (simp; omega) | decide | (simp; done))) rfl (dist_of rfl) rfl rfl rfl rfl ⟨rfl, rfl, rfl⟩) rfl trivial rfl rfl ?_
         refine d_op ?_
         refine x_run0 [(1, PV.ptr 0 0)] [] rfl rfl rfl rfl (s_fa_ptr tab_107 rfl rfl tab_44 (by decide) rfl ⟨rfl, rfl, rfl⟩) ?_
         refine d_op ?_
         refine x_run [(62, PV.ptr 0 5)] [4] [(0, .obj [pI r.fn, pI r.at_, pI r.count, pI r.wAt, pI r.sub, pS 1 false encBo r.bits, pS 1 false enc16 r.vals, p16 r.and_, p16 r.or_])] [] [(0, .obj [pI r.fn, pI r.at_, pI r.count, pI r.wAt, pI r.sub, pS 1 false encBo r.bits, pS 1 false enc16 r.vals, p16 r.and_, p16 r.or_])] [] [(3, oB true 1 enc8 (([u8I r.fn] ++ put2 r.at_) ++ put2 r.count)), (2, oB false 1 enc8 ([u8I r.fn] ++ put2 r.at_)), (1, oB false 1 enc8 [u8I r.fn]), (0, .obj [pI r.fn, pI r.at_, pI r.count, pI r.wAt, pI r.sub, pS 1 false encBo r.bits, pS 1 false enc16 r.vals, p16 r.and_, p16 r.or_])] rfl rfl rfl rfl rfl rfl (s_load_ptr1 tab_44 rfl rfl rfl rfl rfl ⟨rfl, rfl, rfl⟩) rfl ⟨rfl, trivial⟩ rfl rfl ?_
         refine d_op ?_
         refine x_run [(63, pS 1 false encBo r.bits)] [0, 1, 2, 3, 4, 5] [] [] [(4, oB true 1 enc8 (packL r.bits))] [(4, oB true 1 enc8 (packL r.bits))] [(4, oB true 1 enc8 (packL r.bits)), (3, oB true 1 enc8 (([u8I r.fn] ++ put2 r.at_) ++ put2 r.count)), (2, oB false 1 enc8 ([u8I r.fn] ++ put2 r.at_)), (1, oB false 1 enc8 [u8I r.fn]), (0, .obj [pI r.fn, pI r.at_, pI r.count, pI r.wAt, pI r.sub, pS 1 false encBo r.bits, pS 1 false enc16 r.vals, p16 r.and_, p16 r.or_])] rfl rfl rfl rfl rfl rfl (s_callX (r2 := PV.ref 4 0 none) (nx1 := 5) (H2 := []) (H3 := [(4, oB true 1 enc8 (packL r.bits))]) [] [] rfl rfl rfl (handed_of (by decide) trivial) rfl rfl rfl rfl rfl rfl (w_burgageref1_Pack r.bits false (by first | omega | assumption | (simp; omega) | decide | (simp; done))) rfl (dist_of rfl) rfl rfl rfl rfl ⟨rfl, rfl, rfl⟩) rfl trivial rfl rfl ?_
         refine d_op ?_
         refine x_run [(61, PV.ref 3 0 none), (64, PV.ref 4 0 none)] [0, 1, 2, 3, 4, 5, 6] [] [(3, oB true 1 enc8 (([u8I r.fn] ++ put2 r.at_) ++ put2 r.count)), (4, oB true 1 enc8 (packL r.bits))] [(5, oB true 1 enc8 ((([u8I r.fn] ++ put2 r.at_) ++ put2 r.count) ++ rowX (packL r.bits))), (4, oB false 1 enc8 (packL r.bits))] [(5, oB true 1 enc8 ((([u8I r.fn] ++ put2 r.at_) ++ put2 r.count) ++ rowX (packL r.bits))), (4, oB false 1 enc8 (packL r.bits))] [(5, oB true 1 enc8 ((([u8I r.fn] ++ put2 r.at_) ++ put2 r.count) ++ rowX (packL r.bits))), (4, oB false 1 enc8 (packL r.bits)), (2, oB false 1 enc8 ([u8I r.fn] ++ put2 r.at_)), (1, oB false 1 enc8 [u8I r.fn]), (0, .obj [pI r.fn, pI r.at_, pI r.count, pI r.wAt, pI r.sub, pS 1 false encBo r.bits, pS 1 false enc16 r.vals, p16 r.and_, p16 r.or_])] rfl rfl rfl rfl rfl rfl (s_callX (r2 := PV.ref 5 0 none) (nx1 := 6) (H2 := [(4, oB false 1 enc8 (packL r.bits)), (3, oB true 1 enc8 (([u8I r.fn] ++ put2 r.at_) ++ put2 r.count))]) (H3 := [(5, oB true 1 enc8 ((([u8I r.fn] ++ put2 r.at_) ++ put2 r.count) ++ rowX (packL r.bits))), (4, oB false 1 enc8 (packL r.bits))]) [3] [oB true 1 enc8 (([u8I r.fn] ++ put2 r.at_) ++ put2 r.count)] rfl rfl rfl (handed_of (by decide) ⟨rfl, trivial⟩) rfl rfl rfl rfl rfl rfl (w_burgageref3_row (([u8I r.fn] ++ put2 r.at_) ++ put2 r.count) true (packL r.bits) false (by first | omega | assumption | (simp; omega) | decide | (simp; done)) (by first | omega | assumption | (simp; omega) | decide | (simp; done))) rfl (dist_of rfl) rfl rfl rfl rfl ⟨rfl, rfl, rfl⟩) rfl trivial rfl rfl ?_
         refine d_op ?_
         refine x_run0 [(65, PV.ref 5 0 none)] [0, 1, 2, 3, 4, 5, 6, 7] rfl rfl rfl rfl (s_assign rfl ⟨rfl, rfl, rfl⟩) ?_
         refine d_end ⟨by kernel_rfl, ?_⟩
         refine q_then ?_
         refine w_low (n := 5) rfl ?_
         refine w_H (H' := [(5, oB false 1 enc8 (writeR r)), (4, oB false 1 enc8 (packL r.bits)), (2, oB false 1 enc8 ([u8I r.fn] ++ put2 r.at_)), (1, oB false 1 enc8 [u8I r.fn]), (0, .obj [pI r.fn, pI r.at_, pI r.count, pI r.wAt, pI r.sub, pS 1 false encBo r.bits, pS 1 false enc16 r.vals, p16 r.and_, p16 r.or_])]) (congrArg (fun z => ([(5, oB false 1 enc8 z), (4, oB false 1 enc8 (packL r.bits)), (2, oB false 1 enc8 ([u8I r.fn] ++ put2 r.at_)), (1, oB false 1 enc8 [u8I r.fn]), (0, .obj [pI r.fn, pI r.at_, pI r.count, pI r.wAt, pI r.sub, pS 1 false encBo r.bits, pS 1 false enc16 r.vals, p16 r.and_, p16 r.or_])] : Heap)) (show (([u8I r.fn] ++ put2 r.at_) ++ put2 r.count) ++ rowX (packL r.bits) = writeR r by first | (rw [writeR_1 (by omega)]; simp; done) | (rw [writeR_1 (by omega)]; done) | (rw [writeR_15 (by omega)]; simp; done) | (rw [writeR_16 (by omega)]; simp; done) | (rw [writeR_22 (by omega)]; simp; done) | (rw [writeR_23 (by omega)]; simp; done) | (rw [writeR_no (by omega)]; done) | (rw [writeR_5 (by omega) (by assumption)]; simp [*]; done) | (rw [writeR_6 (by omega) (by assumption)]; simp; done) | (rw [writeR_8 (by omega) (by assumption)]; simp; done))) ?_
         refine w_ret ?_
         refine q_block_ret ?_
         refine q_then_ret ?_
         exact fin_names (nx1 := 1) (H1 := [(0, oB false 1 enc8 (writeR r))]) [(0, 5)] (ret_tmp rfl ret_nil) rfl (by decide) ⟨⟨_, _, rfl, rfl, rfl, rfl⟩, trivial⟩ (by decide) rfl ⟨rfl, rfl, rfl⟩
        ·
         have c9_ := c9
         try simp only [sB] at c9
         refine w_seq ?_
         refine w_R ?_
         refine qo hnt rfl (s_eql rfl rfl ?_)
         refine qa hnt rfl rfl ?_
         refine r_end ?_
         refine q_then ?_
         refine w_if rfl (fun c10 => ?_) (fun c10 => ?_)
         ·
          have c10_ := c10
          try simp only [sB] at c10
          refine w_seq ?_
          refine W_drawn tabOk mixed hnt [[], [], [1], [0, 1, 2], [], [4], [0, 1, 2, 3, 4, 5], [0, 1, 2, 3, 4, 5, 6], [0, 1, 2, 3, 4, 5, 6, 7]] (by kernel_rfl) ?_
          refine d_op ?_
          refine x_run0 [(4, PV.ref 2 0 none)] [] rfl rfl rfl rfl (s_move rfl ⟨rfl, rfl, rfl⟩) ?_
          refine d_op ?_
          refine x_run0 [(1, PV.ptr 0 0)] [] rfl rfl rfl rfl (s_fa_ptr tab_107 rfl rfl tab_3 (by decide) rfl ⟨rfl, rfl, rfl⟩) ?_
          refine d_op ?_
          refine x_run [(69, PV.ptr 0 2)] [1] [(0, .obj [pI r.fn, pI r.at_, pI r.count, pI r.wAt, pI r.sub, pS 1 false encBo r.bits, pS 1 false enc16 r.vals, p16 r.and_, p16 r.or_])] [] [(0, .obj [pI r.fn, pI r.at_, pI r.count, pI r.wAt, pI r.sub, pS 1 false encBo r.bits, pS 1 false enc16 r.vals, p16 r.and_, p16 r.or_])] [] [(2, oB true 1 enc8 ([u8I r.fn] ++ put2 r.at_)), (1, oB false 1 enc8 [u8I r.fn]), (0, .obj [pI r.fn, pI r.at_, pI r.count, pI r.wAt, pI r.sub, pS 1 false encBo r.bits, pS 1 false enc16 r.vals, p16 r.and_, p16 r.or_])] rfl rfl rfl rfl rfl rfl (s_load_ptr1 tab_3 rfl rfl rfl rfl rfl ⟨rfl, rfl, rfl⟩) rfl ⟨rfl, trivial⟩ rfl rfl ?_
          refine d_op ?_
          refine x_run [(68, PV.ref 2 0 none), (70, pI r.count)] [0, 1, 2] [] [(2, oB true 1 enc8 ([u8I r.fn] ++ put2 r.at_))] [(3, oB true 1 enc8 (([u8I r.fn] ++ put2 r.at_) ++ put2 r.count)), (2, oB false 1 enc8 ([u8I r.fn] ++ put2 r.at_))] [(3, oB true 1 enc8 (([u8I r.fn] ++ put2 r.at_) ++ put2 r.count)), (2, oB false 1 enc8 ([u8I r.fn] ++ put2 r.at_))] [(3, oB true 1 enc8 (([u8I r.fn] ++ put2 r.at_) ++ put2 r.count)), (2, oB false 1 enc8 ([u8I r.fn] ++ put2 r.at_)), (1, oB false 1 enc8 [u8I r.fn]), (0, .obj [pI r.fn, pI r.at_, pI r.count, pI r.wAt, pI r.sub, pS 1 false encBo r.bits, pS 1 false enc16 r.vals, p16 r.and_, p16 r.or_])] rfl rfl rfl rfl rfl rfl (s_callX (r2 := PV.ref 3 0 none) (nx1 := 4) (H2 := [(2, oB false 1 enc8 ([u8I r.fn] ++ put2 r.at_))]) (H3 := [(3, oB true 1 enc8 (([u8I r.fn] ++ put2 r.at_) ++ put2 r.count)), (2, oB false 1 enc8 ([u8I r.fn] ++ put2 r.at_))]) [] [] rfl rfl rfl (handed_of (by decide) trivial) rfl rfl rfl rfl rfl rfl (w_burgageref1_Put ([u8I r.fn] ++ put2 r.at_) false r.count (by first | omega | assumption | (simp; omega) | decide | (simp; done))) rfl (dist_of rfl) rfl rfl rfl rfl ⟨rfl, rfl, rfl⟩) rfl trivial rfl rfl ?_
          refine d_op ?_
          refine x_run0 [(1, PV.ptr 0 0)] [] rfl rfl rfl rfl (s_fa_ptr tab_107 rfl rfl tab_45 (by decide) rfl ⟨rfl, rfl, rfl⟩) ?_
          refine d_op ?_
          refine x_run [(72, PV.ptr 0 6)] [4] [(0, .obj [pI r.fn, pI r.at_, pI r.count, pI r.wAt, pI r.sub, pS 1 false encBo r.bits, pS 1 false enc16 r.vals, p16 r.and_, p16 r.or_])] [] [(0, .obj [pI r.fn, pI r.at_, pI r.count, pI r.wAt, pI r.sub, pS 1 false encBo r.bits, pS 1 false enc16 r.vals, p16 r.and_, p16 r.or_])] [] [(3, oB true 1 enc8 (([u8I r.fn] ++ put2 r.at_) ++ put2 r.count)), (2, oB false 1 enc8 ([u8I r.fn] ++ put2 r.at_)), (1, oB false 1 enc8 [u8I r.fn]), (0, .obj [pI r.fn, pI r.at_, pI r.count, pI r.wAt, pI r.sub, pS 1 false encBo r.bits, pS 1 false enc16 r.vals, p16 r.and_, p16 r.or_])] rfl rfl rfl rfl rfl rfl (s_load_ptr1 tab_45 rfl rfl rfl rfl rfl ⟨rfl, rfl, rfl⟩) rfl ⟨rfl, trivial⟩ rfl rfl ?_
          refine d_op ?_
          refine x_run [(73, pS 1 false enc16 r.vals)] [0, 1, 2, 3, 4, 5] [] [] [(4, oB true 1 enc8 (bytesL r.vals))] [(4, oB true 1 enc8 (bytesL r.vals))] [(4, oB true 1 enc8 (bytesL r.vals)), (3, oB true 1 enc8 (([u8I r.fn] ++ put2 r.at_) ++ put2 r.count)), (2, oB false 1 enc8 ([u8I r.fn] ++ put2 r.at_)), (1, oB false 1 enc8 [u8I r.fn]), (0, .obj [pI r.fn, pI r.at_, pI r.count, pI r.wAt, pI r.sub, pS 1 false encBo r.bits, pS 1 false enc16 r.vals, p16 r.and_, p16 r.or_])] rfl rfl rfl rfl rfl rfl (s_callX (r2 := PV.ref 4 0 none) (nx1 := 5) (H2 := []) (H3 := [(4, oB true 1 enc8 (bytesL r.vals))]) [] [] rfl rfl rfl (handed_of (by decide) trivial) rfl rfl rfl rfl rfl rfl (w_burgageref1_Bytes r.vals false (by first | omega | assumption | (simp; omega) | decide | (simp; done))) rfl (dist_of rfl) rfl rfl rfl rfl ⟨rfl, rfl, rfl⟩) rfl trivial rfl rfl ?_
          refine d_op ?_
          refine x_run [(71, PV.ref 3 0 none), (74, PV.ref 4 0 none)] [0, 1, 2, 3, 4, 5, 6] [] [(3, oB true 1 enc8 (([u8I r.fn] ++ put2 r.at_) ++ put2 r.count)), (4, oB true 1 enc8 (bytesL r.vals))] [(5, oB true 1 enc8 ((([u8I r.fn] ++ put2 r.at_) ++ put2 r.count) ++ rowX (bytesL r.vals))), (4, oB false 1 enc8 (bytesL r.vals))] [(5, oB true 1 enc8 ((([u8I r.fn] ++ put2 r.at_) ++ put2 r.count) ++ rowX (bytesL r.vals))), (4, oB false 1 enc8 (bytesL r.vals))] [(5, oB true 1 enc8 ((([u8I r.fn] ++ put2 r.at_) ++ put2 r.count) ++ rowX (bytesL r.vals))), (4, oB false 1 enc8 (bytesL r.vals)), (2, oB false 1 enc8 ([u8I r.fn] ++ put2 r.at_)), (1, oB false 1 enc8 [u8I r.fn]), (0, .obj [pI r.fn, pI r.at_, pI r.count, pI r.wAt, pI r.sub, pS 1 false encBo r.bits, pS 1 false enc16 r.vals, p16 r.and_, p16 r.or_])] rfl rfl rfl rfl rfl rfl (s_callX (r2 := PV.ref 5 0 none) (nx1 := 6) (H2 := [(4, oB false 1 enc8 (bytesL r.vals)), (3, oB true 1 enc8 (([u8I r.fn] ++ put2 r.at_) ++ put2 r.count))]) (H3 := [(5, oB true 1 enc8 ((([u8I r.fn] ++ put2 r.at_) ++ put2 r.count) ++ rowX (bytesL r.vals))), (4, oB false 1 enc8 (bytesL r.vals))]) [3] [oB true 1 enc8 (([u8I r.fn] ++ put2 r.at_) ++ put2 r.count)] rfl rfl rfl (handed_of (by decide) ⟨rfl, trivial⟩) rfl rfl rfl rfl rfl rfl (w_burgageref3_row (([u8I r.fn] ++ put2 r.at_) ++ put2 r.count) true (bytesL r.vals) false (by first | omega | assumption | (simp; omega) | decide | (simp; done)) (by first | omega | assumption | (simp; omega) | decide | (simp; done))) rfl (dist_of rfl) rfl rfl rfl rfl ⟨rfl, rfl, rfl⟩) rfl trivial rfl rfl ?_
          refine d_op ?_
          refine x_run0 [(75, PV.ref 5 0 none)] [0, 1, 2, 3, 4, 5, 6, 7] rfl rfl rfl rfl (s_assign rfl ⟨rfl, rfl, rfl⟩) ?_
          refine d_end ⟨by kernel_rfl, ?_⟩
          refine q_then ?_
          refine w_low (n := 5) rfl ?_
          refine w_H (H' := [(5, oB false 1 enc8 (writeR r)), (4, oB false 1 enc8 (bytesL r.vals)), (2, oB false 1 enc8 ([u8I r.fn] ++ put2 r.at_)), (1, oB false 1 enc8 [u8I r.fn]), (0, .obj [pI r.fn, pI r.at_, pI r.count, pI r.wAt, pI r.sub, pS 1 false encBo r.bits, pS 1 false enc16 r.vals, p16 r.and_, p16 r.or_])]) (congrArg (fun z => ([(5, oB false 1 enc8 z), (4, oB false 1 enc8 (bytesL r.vals)), (2, oB false 1 enc8 ([u8I r.fn] ++ put2 r.at_)), (1, oB false 1 enc8 [u8I r.fn]), (0, .obj [pI r.fn, pI r.at_, pI r.count, pI r.wAt, pI r.sub, pS 1 false encBo r.bits, pS 1 false enc16 r.vals, p16 r.and_, p16 r.or_])] : Heap)) (show (([u8I r.fn] ++ put2 r.at_) ++ put2 r.count) ++ rowX (bytesL r.vals) = writeR r by first | (rw [writeR_1 (by omega)]; simp; done) | (rw [writeR_1 (by omega)]; done) | (rw [writeR_15 (by omega)]; simp; done) | (rw [writeR_16 (by omega)]; simp; done) | (rw [writeR_22 (by omega)]; simp; done) | (rw [writeR_23 (by omega)]; simp; done) | (rw [writeR_no (by omega)]; done) | (rw [writeR_5 (by omega) (by assumption)]; simp [*]; done) | (rw [writeR_6 (by omega) (by assumption)]; simp; done) | (rw [writeR_8 (by omega) (by assumption)]; simp; done))) ?_
          refine w_ret ?_
          refine q_block_ret ?_
          refine q_then_ret ?_
          exact fin_names (nx1 := 1) (H1 := [(0, oB false 1 enc8 (writeR r))]) [(0, 5)] (ret_tmp rfl ret_nil) rfl (by decide) ⟨⟨_, _, rfl, rfl, rfl, rfl⟩, trivial⟩ (by decide) rfl ⟨rfl, rfl, rfl⟩
         ·
          have c10_ := c10
          try simp only [sB] at c10
          refine w_seq ?_
          refine w_R ?_
          refine qo hnt rfl (s_eql rfl rfl ?_)
          refine qa hnt rfl rfl ?_
          refine r_end ?_
          refine q_then ?_
          refine w_if rfl (fun c11 => ?_) (fun c11 => ?_)
          ·
           have c11_ := c11
           try simp only [sB] at c11
           refine w_seq ?_
           refine W_drawn tabOk mixed hnt [[], [], [1], [1, 2], [0, 1, 2, 3], [], [5], [5, 6], [0, 1, 2, 3, 4, 5, 6, 7], [0, 1, 2, 3, 4, 5, 6, 7, 8]] (by kernel_rfl) ?_
           refine d_op ?_
           refine x_run0 [(4, PV.ref 2 0 none)] [] rfl rfl rfl rfl (s_move rfl ⟨rfl, rfl, rfl⟩) ?_
           refine d_op ?_
           refine x_run0 [(1, PV.ptr 0 0)] [] rfl rfl rfl rfl (s_fa_ptr tab_107 rfl rfl tab_47 (by decide) rfl ⟨rfl, rfl, rfl⟩) ?_
           refine d_op ?_
           refine x_run [(79, PV.ptr 0 7)] [1] [(0, .obj [pI r.fn, pI r.at_, pI r.count, pI r.wAt, pI r.sub, pS 1 false encBo r.bits, pS 1 false enc16 r.vals, p16 r.and_, p16 r.or_])] [] [(0, .obj [pI r.fn, pI r.at_, pI r.count, pI r.wAt, pI r.sub, pS 1 false encBo r.bits, pS 1 false enc16 r.vals, p16 r.and_, p16 r.or_])] [] [(2, oB true 1 enc8 ([u8I r.fn] ++ put2 r.at_)), (1, oB false 1 enc8 [u8I r.fn]), (0, .obj [pI r.fn, pI r.at_, pI r.count, pI r.wAt, pI r.sub, pS 1 false encBo r.bits, pS 1 false enc16 r.vals, p16 r.and_, p16 r.or_])] rfl rfl rfl rfl rfl rfl (s_load_ptr1 tab_47 rfl rfl rfl rfl rfl ⟨rfl, rfl, rfl⟩) rfl ⟨rfl, trivial⟩ rfl rfl ?_
           refine d_op ?_
           refine x_run0 [(80, p16 r.and_)] [1, 2] rfl rfl rfl rfl (s_cvN (a := UInt16.toNat r.and_) tab_47 tab_3 rfl rfl rfl (by omega) (by have := lt16 r.and_; omega) ⟨rfl, rfl, rfl⟩) ?_
           refine d_op ?_
           refine x_run [(78, PV.ref 2 0 none), (81, pN (UInt16.toNat r.and_))] [0, 1, 2, 3] [] [(2, oB true 1 enc8 ([u8I r.fn] ++ put2 r.at_))] [(3, oB true 1 enc8 (([u8I r.fn] ++ put2 r.at_) ++ put2 ((UInt16.toNat r.and_ : Nat) : Int))), (2, oB false 1 enc8 ([u8I r.fn] ++ put2 r.at_))] [(3, oB true 1 enc8 (([u8I r.fn] ++ put2 r.at_) ++ put2 ((UInt16.toNat r.and_ : Nat) : Int))), (2, oB false 1 enc8 ([u8I r.fn] ++ put2 r.at_))] [(3, oB true 1 enc8 (([u8I r.fn] ++ put2 r.at_) ++ put2 ((UInt16.toNat r.and_ : Nat) : Int))), (2, oB false 1 enc8 ([u8I r.fn] ++ put2 r.at_)), (1, oB false 1 enc8 [u8I r.fn]), (0, .obj [pI r.fn, pI r.at_, pI r.count, pI r.wAt, pI r.sub, pS 1 false encBo r.bits, pS 1 false enc16 r.vals, p16 r.and_, p16 r.or_])] rfl rfl rfl rfl rfl rfl (s_callX (r2 := PV.ref 3 0 none) (nx1 := 4) (H2 := [(2, oB false 1 enc8 ([u8I r.fn] ++ put2 r.at_))]) (H3 := [(3, oB true 1 enc8 (([u8I r.fn] ++ put2 r.at_) ++ put2 ((UInt16.toNat r.and_ : Nat) : Int))), (2, oB false 1 enc8 ([u8I r.fn] ++ put2 r.at_))]) [] [] rfl rfl rfl (handed_of (by decide) trivial) rfl rfl rfl rfl rfl rfl (w_burgageref1_Put ([u8I r.fn] ++ put2 r.at_) false ((UInt16.toNat r.and_ : Nat) : Int) (by first | omega | assumption | (simp; omega) | decide | (simp; done))) rfl (dist_of rfl) rfl rfl rfl rfl ⟨rfl, rfl, rfl⟩) rfl trivial rfl rfl ?_
           refine d_op ?_
           refine x_run0 [(1, PV.ptr 0 0)] [] rfl rfl rfl rfl (s_fa_ptr tab_107 rfl rfl tab_47 (by decide) rfl ⟨rfl, rfl, rfl⟩) ?_
           refine d_op ?_
           refine x_run [(83, PV.ptr 0 8)] [5] [(0, .obj [pI r.fn, pI r.at_, pI r.count, pI r.wAt, pI r.sub, pS 1 false encBo r.bits, pS 1 false enc16 r.vals, p16 r.and_, p16 r.or_])] [] [(0, .obj [pI r.fn, pI r.at_, pI r.count, pI r.wAt, pI r.sub, pS 1 false encBo r.bits, pS 1 false enc16 r.vals, p16 r.and_, p16 r.or_])] [] [(3, oB true 1 enc8 (([u8I r.fn] ++ put2 r.at_) ++ put2 ((UInt16.toNat r.and_ : Nat) : Int))), (2, oB false 1 enc8 ([u8I r.fn] ++ put2 r.at_)), (1, oB false 1 enc8 [u8I r.fn]), (0, .obj [pI r.fn, pI r.at_, pI r.count, pI r.wAt, pI r.sub, pS 1 false encBo r.bits, pS 1 false enc16 r.vals, p16 r.and_, p16 r.or_])] rfl rfl rfl rfl rfl rfl (s_load_ptr1 tab_47 rfl rfl rfl rfl rfl ⟨rfl, rfl, rfl⟩) rfl ⟨rfl, trivial⟩ rfl rfl ?_
           refine d_op ?_
           refine x_run0 [(84, p16 r.or_)] [5, 6] rfl rfl rfl rfl (s_cvN (a := UInt16.toNat r.or_) tab_47 tab_3 rfl rfl rfl (by omega) (by have := lt16 r.or_; omega) ⟨rfl, rfl, rfl⟩) ?_
           refine d_op ?_
           refine x_run [(82, PV.ref 3 0 none), (85, pN (UInt16.toNat r.or_))] [0, 1, 2, 3, 4, 5, 6, 7] [] [(3, oB true 1 enc8 (([u8I r.fn] ++ put2 r.at_) ++ put2 ((UInt16.toNat r.and_ : Nat) : Int)))] [(4, oB true 1 enc8 ((([u8I r.fn] ++ put2 r.at_) ++ put2 ((UInt16.toNat r.and_ : Nat) : Int)) ++ put2 ((UInt16.toNat r.or_ : Nat) : Int))), (3, oB false 1 enc8 (([u8I r.fn] ++ put2 r.at_) ++ put2 ((UInt16.toNat r.and_ : Nat) : Int)))] [(4, oB true 1 enc8 ((([u8I r.fn] ++ put2 r.at_) ++ put2 ((UInt16.toNat r.and_ : Nat) : Int)) ++ put2 ((UInt16.toNat r.or_ : Nat) : Int))), (3, oB false 1 enc8 (([u8I r.fn] ++ put2 r.at_) ++ put2 ((UInt16.toNat r.and_ : Nat) : Int)))] [(4, oB true 1 enc8 ((([u8I r.fn] ++ put2 r.at_) ++ put2 ((UInt16.toNat r.and_ : Nat) : Int)) ++ put2 ((UInt16.toNat r.or_ : Nat) : Int))), (3, oB false 1 enc8 (([u8I r.fn] ++ put2 r.at_) ++ put2 ((UInt16.toNat r.and_ : Nat) : Int))), (2, oB false 1 enc8 ([u8I r.fn] ++ put2 r.at_)), (1, oB false 1 enc8 [u8I r.fn]), (0, .obj [pI r.fn, pI r.at_, pI r.count, pI r.wAt, pI r.sub, pS 1 false encBo r.bits, pS 1 false enc16 r.vals, p16 r.and_, p16 r.or_])] rfl rfl rfl rfl rfl rfl (s_callX (r2 := PV.ref 4 0 none) (nx1 := 5) (H2 := [(3, oB false 1 enc8 (([u8I r.fn] ++ put2 r.at_) ++ put2 ((UInt16.toNat r.and_ : Nat) : Int)))]) (H3 := [(4, oB true 1 enc8 ((([u8I r.fn] ++ put2 r.at_) ++ put2 ((UInt16.toNat r.and_ : Nat) : Int)) ++ put2 ((UInt16.toNat r.or_ : Nat) : Int))), (3, oB false 1 enc8 (([u8I r.fn] ++ put2 r.at_) ++ put2 ((UInt16.toNat r.and_ : Nat) : Int)))]) [] [] rfl rfl rfl (handed_of (by decide) trivial) rfl rfl rfl rfl rfl rfl (w_burgageref1_Put (([u8I r.fn] ++ put2 r.at_) ++ put2 ((UInt16.toNat r.and_ : Nat) : Int)) false ((UInt16.toNat r.or_ : Nat) : Int) (by first | omega | assumption | (simp; omega) | decide | (simp; done))) rfl (dist_of rfl) rfl rfl rfl rfl ⟨rfl, rfl, rfl⟩) rfl trivial rfl rfl ?_
           refine d_op ?_
           refine x_run0 [(86, PV.ref 4 0 none)] [0, 1, 2, 3, 4, 5, 6, 7, 8] rfl rfl rfl rfl (s_assign rfl ⟨rfl, rfl, rfl⟩) ?_
           refine d_end ⟨by kernel_rfl, ?_⟩
           refine q_then ?_
           refine w_low (n := 4) rfl ?_
           refine w_H (H' := [(4, oB false 1 enc8 (writeR r)), (3, oB false 1 enc8 (([u8I r.fn] ++ put2 r.at_) ++ put2 ((UInt16.toNat r.and_ : Nat) : Int))), (2, oB false 1 enc8 ([u8I r.fn] ++ put2 r.at_)), (1, oB false 1 enc8 [u8I r.fn]), (0, .obj [pI r.fn, pI r.at_, pI r.count, pI r.wAt, pI r.sub, pS 1 false encBo r.bits, pS 1 false enc16 r.vals, p16 r.and_, p16 r.or_])]) (congrArg (fun z => ([(4, oB false 1 enc8 z), (3, oB false 1 enc8 (([u8I r.fn] ++ put2 r.at_) ++ put2 ((UInt16.toNat r.and_ : Nat) : Int))), (2, oB false 1 enc8 ([u8I r.fn] ++ put2 r.at_)), (1, oB false 1 enc8 [u8I r.fn]), (0, .obj [pI r.fn, pI r.at_, pI r.count, pI r.wAt, pI r.sub, pS 1 false encBo r.bits, pS 1 false enc16 r.vals, p16 r.and_, p16 r.or_])] : Heap)) (show (([u8I r.fn] ++ put2 r.at_) ++ put2 ((UInt16.toNat r.and_ : Nat) : Int)) ++ put2 ((UInt16.toNat r.or_ : Nat) : Int) = writeR r by first | (rw [writeR_1 (by omega)]; simp; done) | (rw [writeR_1 (by omega)]; done) | (rw [writeR_15 (by omega)]; simp; done) | (rw [writeR_16 (by omega)]; simp; done) | (rw [writeR_22 (by omega)]; simp; done) | (rw [writeR_23 (by omega)]; simp; done) | (rw [writeR_no (by omega)]; done) | (rw [writeR_5 (by omega) (by assumption)]; simp [*]; done) | (rw [writeR_6 (by omega) (by assumption)]; simp; done) | (rw [writeR_8 (by omega) (by assumption)]; simp; done))) ?_
           refine w_ret ?_
           refine q_block_ret ?_
           refine q_then_ret ?_
           exact fin_names (nx1 := 1) (H1 := [(0, oB false 1 enc8 (writeR r))]) [(0, 4)] (ret_tmp rfl ret_nil) rfl (by decide) ⟨⟨_, _, rfl, rfl, rfl, rfl⟩, trivial⟩ (by decide) rfl ⟨rfl, rfl, rfl⟩
          ·
           have c11_ := c11
           try simp only [sB] at c11
           refine w_seq ?_
           refine w_R ?_
           refine qo hnt rfl (s_eql rfl rfl ?_)
           refine qa hnt rfl rfl ?_
           refine r_end ?_
           refine q_then ?_
           refine w_if rfl (fun c12 => ?_) (fun c12 => ?_)
           ·
            have c12_ := c12
            try simp only [sB] at c12
            refine w_seq ?_
            refine W_drawn tabOk mixed hnt [[], [], [1], [0, 1, 2], [], [4], [0, 1, 2, 3, 4, 5], [], [7], [7, 8], [0, 1, 2, 3, 4, 5, 6, 7, 8, 9], [0, 1, 2, 3, 4, 5, 6, 7, 8, 9, 10]] (by kernel_rfl) ?_
            refine d_op ?_
            refine x_run0 [(4, PV.ref 2 0 none)] [] rfl rfl rfl rfl (s_move rfl ⟨rfl, rfl, rfl⟩) ?_
            refine d_op ?_
            refine x_run0 [(1, PV.ptr 0 0)] [] rfl rfl rfl rfl (s_fa_ptr tab_107 rfl rfl tab_3 (by decide) rfl ⟨rfl, rfl, rfl⟩) ?_
            refine d_op ?_
            refine x_run [(90, PV.ptr 0 2)] [1] [(0, .obj [pI r.fn, pI r.at_, pI r.count, pI r.wAt, pI r.sub, pS 1 false encBo r.bits, pS 1 false enc16 r.vals, p16 r.and_, p16 r.or_])] [] [(0, .obj [pI r.fn, pI r.at_, pI r.count, pI r.wAt, pI r.sub, pS 1 false encBo r.bits, pS 1 false enc16 r.vals, p16 r.and_, p16 r.or_])] [] [(2, oB true 1 enc8 ([u8I r.fn] ++ put2 r.at_)), (1, oB false 1 enc8 [u8I r.fn]), (0, .obj [pI r.fn, pI r.at_, pI r.count, pI r.wAt, pI r.sub, pS 1 false encBo r.bits, pS 1 false enc16 r.vals, p16 r.and_, p16 r.or_])] rfl rfl rfl rfl rfl rfl (s_load_ptr1 tab_3 rfl rfl rfl rfl rfl ⟨rfl, rfl, rfl⟩) rfl ⟨rfl, trivial⟩ rfl rfl ?_
            refine d_op ?_
            refine x_run [(89, PV.ref 2 0 none), (91, pI r.count)] [0, 1, 2] [] [(2, oB true 1 enc8 ([u8I r.fn] ++ put2 r.at_))] [(3, oB true 1 enc8 (([u8I r.fn] ++ put2 r.at_) ++ put2 r.count)), (2, oB false 1 enc8 ([u8I r.fn] ++ put2 r.at_))] [(3, oB true 1 enc8 (([u8I r.fn] ++ put2 r.at_) ++ put2 r.count)), (2, oB false 1 enc8 ([u8I r.fn] ++ put2 r.at_))] [(3, oB true 1 enc8 (([u8I r.fn] ++ put2 r.at_) ++ put2 r.count)), (2, oB false 1 enc8 ([u8I r.fn] ++ put2 r.at_)), (1, oB false 1 enc8 [u8I r.fn]), (0, .obj [pI r.fn, pI r.at_, pI r.count, pI r.wAt, pI r.sub, pS 1 false encBo r.bits, pS 1 false enc16 r.vals, p16 r.and_, p16 r.or_])] rfl rfl rfl rfl rfl rfl (s_callX (r2 := PV.ref 3 0 none) (nx1 := 4) (H2 := [(2, oB false 1 enc8 ([u8I r.fn] ++ put2 r.at_))]) (H3 := [(3, oB true 1 enc8 (([u8I r.fn] ++ put2 r.at_) ++ put2 r.count)), (2, oB false 1 enc8 ([u8I r.fn] ++ put2 r.at_))]) [] [] rfl rfl rfl (handed_of (by decide) trivial) rfl rfl rfl rfl rfl rfl (w_burgageref1_Put ([u8I r.fn] ++ put2 r.at_) false r.count (by first | omega | assumption | (simp; omega) | decide | (simp; done))) rfl (dist_of rfl) rfl rfl rfl rfl ⟨rfl, rfl, rfl⟩) rfl trivial rfl rfl ?_
            refine d_op ?_
            refine x_run0 [(1, PV.ptr 0 0)] [] rfl rfl rfl rfl (s_fa_ptr tab_107 rfl rfl tab_3 (by decide) rfl ⟨rfl, rfl, rfl⟩) ?_
            refine d_op ?_
            refine x_run [(93, PV.ptr 0 3)] [4] [(0, .obj [pI r.fn, pI r.at_, pI r.count, pI r.wAt, pI r.sub, pS 1 false encBo r.bits, pS 1 false enc16 r.vals, p16 r.and_, p16 r.or_])] [] [(0, .obj [pI r.fn, pI r.at_, pI r.count, pI r.wAt, pI r.sub, pS 1 false encBo r.bits, pS 1 false enc16 r.vals, p16 r.and_, p16 r.or_])] [] [(3, oB true 1 enc8 (([u8I r.fn] ++ put2 r.at_) ++ put2 r.count)), (2, oB false 1 enc8 ([u8I r.fn] ++ put2 r.at_)), (1, oB false 1 enc8 [u8I r.fn]), (0, .obj [pI r.fn, pI r.at_, pI r.count, pI r.wAt, pI r.sub, pS 1 false encBo r.bits, pS 1 false enc16 r.vals, p16 r.and_, p16 r.or_])] rfl rfl rfl rfl rfl rfl (s_load_ptr1 tab_3 rfl rfl rfl rfl rfl ⟨rfl, rfl, rfl⟩) rfl ⟨rfl, trivial⟩ rfl rfl ?_
            refine d_op ?_
            refine x_run [(92, PV.ref 3 0 none), (94, pI r.wAt)] [0, 1, 2, 3, 4, 5] [] [(3, oB true 1 enc8 (([u8I r.fn] ++ put2 r.at_) ++ put2 r.count))] [(4, oB true 1 enc8 ((([u8I r.fn] ++ put2 r.at_) ++ put2 r.count) ++ put2 r.wAt)), (3, oB false 1 enc8 (([u8I r.fn] ++ put2 r.at_) ++ put2 r.count))] [(4, oB true 1 enc8 ((([u8I r.fn] ++ put2 r.at_) ++ put2 r.count) ++ put2 r.wAt)), (3, oB false 1 enc8 (([u8I r.fn] ++ put2 r.at_) ++ put2 r.count))] [(4, oB true 1 enc8 ((([u8I r.fn] ++ put2 r.at_) ++ put2 r.count) ++ put2 r.wAt)), (3, oB false 1 enc8 (([u8I r.fn] ++ put2 r.at_) ++ put2 r.count)), (2, oB false 1 enc8 ([u8I r.fn] ++ put2 r.at_)), (1, oB false 1 enc8 [u8I r.fn]), (0, .obj [pI r.fn, pI r.at_, pI r.count, pI r.wAt, pI r.sub, pS 1 false encBo r.bits, pS 1 false enc16 r.vals, p16 r.and_, p16 r.or_])] rfl rfl rfl rfl rfl rfl (s_callX (r2 := PV.ref 4 0 none) (nx1 := 5) (H2 := [(3, oB false 1 enc8 (([u8I r.fn] ++ put2 r.at_) ++ put2 r.count))]) (H3 := [(4, oB true 1 enc8 ((([u8I r.fn] ++ put2 r.at_) ++ put2 r.count) ++ put2 r.wAt)), (3, oB false 1 enc8 (([u8I r.fn] ++ put2 r.at_) ++ put2 r.count))]) [] [] rfl rfl rfl (handed_of (by decide) trivial) rfl rfl rfl rfl rfl rfl (w_burgageref1_Put (([u8I r.fn] ++ put2 r.at_) ++ put2 r.count) false r.wAt (by first | omega | assumption | (simp; omega) | decide | (simp; done))) rfl (dist_of rfl) rfl rfl rfl rfl ⟨rfl, rfl, rfl⟩) rfl trivial rfl rfl ?_
            refine d_op ?_
            refine x_run0 [(1, PV.ptr 0 0)] [] rfl rfl rfl rfl (s_fa_ptr tab_107 rfl rfl tab_45 (by decide) rfl ⟨rfl, rfl, rfl⟩) ?_
            refine d_op ?_
            refine x_run [(96, PV.ptr 0 6)] [7] [(0, .obj [pI r.fn, pI r.at_, pI r.count, pI r.wAt, pI r.sub, pS 1 false encBo r.bits, pS 1 false enc16 r.vals, p16 r.and_, p16 r.or_])] [] [(0, .obj [pI r.fn, pI r.at_, pI r.count, pI r.wAt, pI r.sub, pS 1 false encBo r.bits, pS 1 false enc16 r.vals, p16 r.and_, p16 r.or_])] [] [(4, oB true 1 enc8 ((([u8I r.fn] ++ put2 r.at_) ++ put2 r.count) ++ put2 r.wAt)), (3, oB false 1 enc8 (([u8I r.fn] ++ put2 r.at_) ++ put2 r.count)), (2, oB false 1 enc8 ([u8I r.fn] ++ put2 r.at_)), (1, oB false 1 enc8 [u8I r.fn]), (0, .obj [pI r.fn, pI r.at_, pI r.count, pI r.wAt, pI r.sub, pS 1 false encBo r.bits, pS 1 false enc16 r.vals, p16 r.and_, p16 r.or_])] rfl rfl rfl rfl rfl rfl (s_load_ptr1 tab_45 rfl rfl rfl rfl rfl ⟨rfl, rfl, rfl⟩) rfl ⟨rfl, trivial⟩ rfl rfl ?_
            refine d_op ?_
            refine x_run0 [(97, pS 1 false enc16 r.vals)] [7, 8] rfl rfl rfl rfl (s_lenM (l := r.vals) tab_45 rfl (hM_sl (f := enc16) rfl) ⟨rfl, rfl, rfl⟩) ?_
            refine d_op ?_
            refine x_run [(95, PV.ref 4 0 none), (98, pN r.vals.length)] [0, 1, 2, 3, 4, 5, 6, 7, 8, 9] [] [(4, oB true 1 enc8 ((([u8I r.fn] ++ put2 r.at_) ++ put2 r.count) ++ put2 r.wAt))] [(5, oB true 1 enc8 (((([u8I r.fn] ++ put2 r.at_) ++ put2 r.count) ++ put2 r.wAt) ++ put2 ((r.vals.length : Nat) : Int))), (4, oB false 1 enc8 ((([u8I r.fn] ++ put2 r.at_) ++ put2 r.count) ++ put2 r.wAt))] [(5, oB true 1 enc8 (((([u8I r.fn] ++ put2 r.at_) ++ put2 r.count) ++ put2 r.wAt) ++ put2 ((r.vals.length : Nat) : Int))), (4, oB false 1 enc8 ((([u8I r.fn] ++ put2 r.at_) ++ put2 r.count) ++ put2 r.wAt))] [(5, oB true 1 enc8 (((([u8I r.fn] ++ put2 r.at_) ++ put2 r.count) ++ put2 r.wAt) ++ put2 ((r.vals.length : Nat) : Int))), (4, oB false 1 enc8 ((([u8I r.fn] ++ put2 r.at_) ++ put2 r.count) ++ put2 r.wAt)), (3, oB false 1 enc8 (([u8I r.fn] ++ put2 r.at_) ++ put2 r.count)), (2, oB false 1 enc8 ([u8I r.fn] ++ put2 r.at_)), (1, oB false 1 enc8 [u8I r.fn]), (0, .obj [pI r.fn, pI r.at_, pI r.count, pI r.wAt, pI r.sub, pS 1 false encBo r.bits, pS 1 false enc16 r.vals, p16 r.and_, p16 r.or_])] rfl rfl rfl rfl rfl rfl (s_callX (r2 := PV.ref 5 0 none) (nx1 := 6) (H2 := [(4, oB false 1 enc8 ((([u8I r.fn] ++ put2 r.at_) ++ put2 r.count) ++ put2 r.wAt))]) (H3 := [(5, oB true 1 enc8 (((([u8I r.fn] ++ put2 r.at_) ++ put2 r.count) ++ put2 r.wAt) ++ put2 ((r.vals.length : Nat) : Int))), (4, oB false 1 enc8 ((([u8I r.fn] ++ put2 r.at_) ++ put2 r.count) ++ put2 r.wAt))]) [] [] rfl rfl rfl (handed_of (by decide) trivial) rfl rfl rfl rfl rfl rfl (w_burgageref1_Put ((([u8I r.fn] ++ put2 r.at_) ++ put2 r.count) ++ put2 r.wAt) false ((r.vals.length : Nat) : Int) (by first | omega | assumption | (simp; omega) | decide | (simp; done))) rfl (dist_of rfl) rfl rfl rfl rfl ⟨rfl, rfl, rfl⟩) rfl trivial rfl rfl ?_
            refine d_op ?_
            refine x_run0 [(99, PV.ref 5 0 none)] [0, 1, 2, 3, 4, 5, 6, 7, 8, 9, 10] rfl rfl rfl rfl (s_assign rfl ⟨rfl, rfl, rfl⟩) ?_
            refine d_end ⟨by kernel_rfl, ?_⟩
            refine q_then ?_
            refine w_seq ?_
            refine w_R ?_
            refine qm hnt rfl rfl ?_
            refine qo hnt rfl (s_fa_ptr tab_107 rfl rfl tab_45 (by decide) rfl ?_)
            refine qo hnt rfl (s_load_ptr1 tab_45 rfl rfl rfl rfl rfl ?_)
            refine qo hnt rfl (s_callX (r2 := PV.ref 6 0 none) (nx1 := 7) (H2 := [(5, oB true 1 enc8 (((([u8I r.fn] ++ put2 r.at_) ++ put2 r.count) ++ put2 r.wAt) ++ put2 ((r.vals.length : Nat) : Int))), (4, oB false 1 enc8 ((([u8I r.fn] ++ put2 r.at_) ++ put2 r.count) ++ put2 r.wAt)), (3, oB false 1 enc8 (([u8I r.fn] ++ put2 r.at_) ++ put2 r.count)), (2, oB false 1 enc8 ([u8I r.fn] ++ put2 r.at_)), (1, oB false 1 enc8 [u8I r.fn]), (0, .obj [pI r.fn, pI r.at_, pI r.count, pI r.wAt, pI r.sub, pS 1 false encBo r.bits, pS 1 false enc16 r.vals, p16 r.and_, p16 r.or_])]) (H3 := [(6, oB true 1 enc8 (bytesL r.vals)), (5, oB true 1 enc8 (((([u8I r.fn] ++ put2 r.at_) ++ put2 r.count) ++ put2 r.wAt) ++ put2 ((r.vals.length : Nat) : Int))), (4, oB false 1 enc8 ((([u8I r.fn] ++ put2 r.at_) ++ put2 r.count) ++ put2 r.wAt)), (3, oB false 1 enc8 (([u8I r.fn] ++ put2 r.at_) ++ put2 r.count)), (2, oB false 1 enc8 ([u8I r.fn] ++ put2 r.at_)), (1, oB false 1 enc8 [u8I r.fn]), (0, .obj [pI r.fn, pI r.at_, pI r.count, pI r.wAt, pI r.sub, pS 1 false encBo r.bits, pS 1 false enc16 r.vals, p16 r.and_, p16 r.or_])]) [] [] rfl rfl rfl (handed_of (by decide) trivial) rfl rfl rfl rfl rfl rfl (w_burgageref1_Bytes r.vals false (by first | omega | assumption | (simp; omega) | decide | (simp; done))) rfl (dist_of rfl) rfl rfl rfl rfl ?_)
            refine qo hnt rfl (s_callX (r2 := PV.ref 7 0 none) (nx1 := 8) (H2 := [(6, oB false 1 enc8 (bytesL r.vals)), (5, oB true 1 enc8 (((([u8I r.fn] ++ put2 r.at_) ++ put2 r.count) ++ put2 r.wAt) ++ put2 ((r.vals.length : Nat) : Int))), (4, oB false 1 enc8 ((([u8I r.fn] ++ put2 r.at_) ++ put2 r.count) ++ put2 r.wAt)), (3, oB false 1 enc8 (([u8I r.fn] ++ put2 r.at_) ++ put2 r.count)), (2, oB false 1 enc8 ([u8I r.fn] ++ put2 r.at_)), (1, oB false 1 enc8 [u8I r.fn]), (0, .obj [pI r.fn, pI r.at_, pI r.count, pI r.wAt, pI r.sub, pS 1 false encBo r.bits, pS 1 false enc16 r.vals, p16 r.and_, p16 r.or_])]) (H3 := [(7, oB true 1 enc8 ((((([u8I r.fn] ++ put2 r.at_) ++ put2 r.count) ++ put2 r.wAt) ++ put2 ((r.vals.length : Nat) : Int)) ++ rowX (bytesL r.vals))), (6, oB false 1 enc8 (bytesL r.vals)), (4, oB false 1 enc8 ((([u8I r.fn] ++ put2 r.at_) ++ put2 r.count) ++ put2 r.wAt)), (3, oB false 1 enc8 (([u8I r.fn] ++ put2 r.at_) ++ put2 r.count)), (2, oB false 1 enc8 ([u8I r.fn] ++ put2 r.at_)), (1, oB false 1 enc8 [u8I r.fn]), (0, .obj [pI r.fn, pI r.at_, pI r.count, pI r.wAt, pI r.sub, pS 1 false encBo r.bits, pS 1 false enc16 r.vals, p16 r.and_, p16 r.or_])]) [5] [oB true 1 enc8 (((([u8I r.fn] ++ put2 r.at_) ++ put2 r.count) ++ put2 r.wAt) ++ put2 ((r.vals.length : Nat) : Int))] rfl rfl rfl (handed_of (by decide) ⟨rfl, trivial⟩) rfl rfl rfl rfl rfl rfl (w_burgageref3_row (((([u8I r.fn] ++ put2 r.at_) ++ put2 r.count) ++ put2 r.wAt) ++ put2 ((r.vals.length : Nat) : Int)) true (bytesL r.vals) false (by first | omega | assumption | (simp; omega) | decide | (simp; done)) (by first | omega | assumption | (simp; omega) | decide | (simp; done))) rfl (dist_of rfl) rfl rfl rfl rfl ?_)
            refine qa hnt rfl rfl ?_
            refine r_set [(2, PV.ref 7 0 none)] [(7, oB true 1 enc8 ((((([u8I r.fn] ++ put2 r.at_) ++ put2 r.count) ++ put2 r.wAt) ++ put2 ((r.vals.length : Nat) : Int)) ++ rowX (bytesL r.vals))), (6, oB false 1 enc8 (bytesL r.vals)), (4, oB false 1 enc8 ((([u8I r.fn] ++ put2 r.at_) ++ put2 r.count) ++ put2 r.wAt)), (3, oB false 1 enc8 (([u8I r.fn] ++ put2 r.at_) ++ put2 r.count)), (2, oB false 1 enc8 ([u8I r.fn] ++ put2 r.at_)), (1, oB false 1 enc8 [u8I r.fn]), (0, .obj [pI r.fn, pI r.at_, pI r.count, pI r.wAt, pI r.sub, pS 1 false encBo r.bits, pS 1 false enc16 r.vals, p16 r.and_, p16 r.or_])] 8 ⟨rfl, trivial⟩ rfl rfl ?_
            refine r_end ?_
            refine q_then ?_
            refine w_low (n := 7) rfl ?_
            refine w_H (H' := [(7, oB false 1 enc8 (writeR r)), (6, oB false 1 enc8 (bytesL r.vals)), (4, oB false 1 enc8 ((([u8I r.fn] ++ put2 r.at_) ++ put2 r.count) ++ put2 r.wAt)), (3, oB false 1 enc8 (([u8I r.fn] ++ put2 r.at_) ++ put2 r.count)), (2, oB false 1 enc8 ([u8I r.fn] ++ put2 r.at_)), (1, oB false 1 enc8 [u8I r.fn]), (0, .obj [pI r.fn, pI r.at_, pI r.count, pI r.wAt, pI r.sub, pS 1 false encBo r.bits, pS 1 false enc16 r.vals, p16 r.and_, p16 r.or_])]) (congrArg (fun z => ([(7, oB false 1 enc8 z), (6, oB false 1 enc8 (bytesL r.vals)), (4, oB false 1 enc8 ((([u8I r.fn] ++ put2 r.at_) ++ put2 r.count) ++ put2 r.wAt)), (3, oB false 1 enc8 (([u8I r.fn] ++ put2 r.at_) ++ put2 r.count)), (2, oB false 1 enc8 ([u8I r.fn] ++ put2 r.at_)), (1, oB false 1 enc8 [u8I r.fn]), (0, .obj [pI r.fn, pI r.at_, pI r.count, pI r.wAt, pI r.sub, pS 1 false encBo r.bits, pS 1 false enc16 r.vals, p16 r.and_, p16 r.or_])] : Heap)) (show (((([u8I r.fn] ++ put2 r.at_) ++ put2 r.count) ++ put2 r.wAt) ++ put2 ((r.vals.length : Nat) : Int)) ++ rowX (bytesL r.vals) = writeR r by first | (rw [writeR_1 (by omega)]; simp; done) | (rw [writeR_1 (by omega)]; done) | (rw [writeR_15 (by omega)]; simp; done) | (rw [writeR_16 (by omega)]; simp; done) | (rw [writeR_22 (by omega)]; simp; done) | (rw [writeR_23 (by omega)]; simp; done) | (rw [writeR_no (by omega)]; done) | (rw [writeR_5 (by omega) (by assumption)]; simp [*]; done) | (rw [writeR_6 (by omega) (by assumption)]; simp; done) | (rw [writeR_8 (by omega) (by assumption)]; simp; done))) ?_
            refine w_ret ?_
            refine q_block_ret ?_
            refine q_then_ret ?_
            exact fin_names (nx1 := 1) (H1 := [(0, oB false 1 enc8 (writeR r))]) [(0, 7)] (ret_tmp rfl ret_nil) rfl (by decide) ⟨⟨_, _, rfl, rfl, rfl, rfl⟩, trivial⟩ (by decide) rfl ⟨rfl, rfl, rfl⟩
           ·
            have c12_ := c12
            try simp only [sB] at c12
            refine w_skip ?_
            refine q_block ?_
            refine q_then ?_
            refine w_seq ?_
            refine w_R ?_
            refine qm hnt rfl rfl ?_
            refine qa hnt rfl rfl ?_
            refine r_end ?_
            refine q_then ?_
            refine w_H (H' := [(2, oB true 1 enc8 ([u8I r.fn] ++ put2 r.at_)), (1, oB false 1 enc8 (writeR r)), (0, .obj [pI r.fn, pI r.at_, pI r.count, pI r.wAt, pI r.sub, pS 1 false encBo r.bits, pS 1 false enc16 r.vals, p16 r.and_, p16 r.or_])]) (congrArg (fun z => ([(2, oB true 1 enc8 ([u8I r.fn] ++ put2 r.at_)), (1, oB false 1 enc8 z), (0, .obj [pI r.fn, pI r.at_, pI r.count, pI r.wAt, pI r.sub, pS 1 false encBo r.bits, pS 1 false enc16 r.vals, p16 r.and_, p16 r.or_])] : Heap)) (show [u8I r.fn] = writeR r by first | (rw [writeR_1 (by omega)]; simp; done) | (rw [writeR_1 (by omega)]; done) | (rw [writeR_15 (by omega)]; simp; done) | (rw [writeR_16 (by omega)]; simp; done) | (rw [writeR_22 (by omega)]; simp; done) | (rw [writeR_23 (by omega)]; simp; done) | (rw [writeR_no (by omega)]; done) | (rw [writeR_5 (by omega) (by assumption)]; simp [*]; done) | (rw [writeR_6 (by omega) (by assumption)]; simp; done) | (rw [writeR_8 (by omega) (by assumption)]; simp; done))) ?_
            refine w_ret ?_
            exact fin_names (nx1 := 1) (H1 := [(0, oB false 1 enc8 (writeR r))]) [(0, 1)] (ret_tmp rfl ret_nil) rfl (by decide) ⟨⟨_, _, rfl, rfl, rfl, rfl⟩, trivial⟩ (by decide) rfl ⟨rfl, rfl, rfl⟩
theorem w_burgageref3_Bytes (r : TRequest) (hb : r.bits.length ≤ 140737488351232) (hv : r.vals.length ≤ 1000000) :
    T Try.prog 71 [PV.f (eRequest r)] 0 [] (Ret (PV.tup [PV.ref 0 0 none, pI (rightR r)]) 1 [(0, oB false 1 enc8 (bytesR r))]) := by
 refine t_fun tabOk (n := 12) (rs := [.tmp 2, .tmp 3]) Try.func71 rfl rfl rfl rfl (Nat.le_of_ble_eq_true rfl) ?_
 intro c hnt hk
 refine w_seq ?_
 refine w_R ?_
 refine qo hnt rfl (s_box rfl rfl ?_)
 refine qa hnt rfl rfl ?_
 refine qa hnt rfl rfl ?_
 refine r_set [(1, PV.ptr 0 0)] [(0, .obj [pI r.fn, pI r.at_, pI r.count, pI r.wAt, pI r.sub, pS 1 false encBo r.bits, pS 1 false enc16 r.vals, p16 r.and_, p16 r.or_])] 1 ⟨rfl, trivial⟩ rfl rfl ?_
 refine r_end ?_
 refine q_then ?_
 refine w_seq ?_
 refine w_seq ?_
 refine w_R ?_
 refine qo hnt rfl (s_load_ptr tab_107 rfl rfl rfl (Nat.le_of_ble_eq_true rfl) ?_)
 refine qo hnt rfl (s_callF rfl rfl rfl (w_burgageref3_Right r (by first | omega | assumption | (simp; omega) | decide | (simp; done)) (by first | omega | assumption | (simp; omega) | decide | (simp; done))) rfl ?_)
 refine qa hnt rfl rfl ?_
 refine r_end ?_
 refine q_then ?_
 refine w_seq ?_
 refine w_R ?_
 refine qm hnt rfl rfl ?_
 refine qo hnt rfl (s_neq rfl rfl ?_)
 refine r_end ?_
 refine q_then ?_
 refine w_if rfl (fun c1 => ?_) (fun c1 => ?_)
 ·
  have c1_ := c1
  try simp only [sB] at c1
  refine w_seq ?_
  refine w_R ?_
  refine qm hnt rfl rfl ?_
  refine qa hnt rfl rfl ?_
  refine qa hnt rfl rfl ?_
  refine r_end ?_
  refine q_then ?_
  refine w_adopt (s := 2) (sz := 1) rfl ?_
  refine w_low (n := 1) rfl ?_
  refine w_H (H' := [(1, oB false 1 enc8 (bytesR r)), (0, .obj [pI r.fn, pI r.at_, pI r.count, pI r.wAt, pI r.sub, pS 1 false encBo r.bits, pS 1 false enc16 r.vals, p16 r.and_, p16 r.or_])]) (congrArg (fun z => ([(1, oB false 1 enc8 z), (0, .obj [pI r.fn, pI r.at_, pI r.count, pI r.wAt, pI r.sub, pS 1 false encBo r.bits, pS 1 false enc16 r.vals, p16 r.and_, p16 r.or_])] : Heap)) (show ([] : List UInt8) = bytesR r by first | (simp [bytesR, *]; done) | simp [bytesR, *])) ?_
  refine w_ret ?_
  refine q_then_ret ?_
  exact fin_names (nx1 := 1) (H1 := [(0, oB false 1 enc8 (bytesR r))]) [(0, 1)] (ret_tmp rfl (ret_tmp rfl ret_nil)) rfl (by decide) ⟨⟨_, _, rfl, rfl, rfl, rfl⟩, trivial⟩ (by decide) rfl ⟨rfl, rfl, rfl⟩
 ·
  have c1_ := c1
  try simp only [sB] at c1
  refine w_skip ?_
  refine q_then ?_
  refine w_seq ?_
  have hsh := (rightR_zero (by first | exact c1 | simpa using c1_)).2
  have h5b := hsh.bits
  have h6b := hsh.vals
  refine w_R ?_
  refine qo hnt rfl (s_load_ptr tab_107 rfl rfl rfl (Nat.le_of_ble_eq_true rfl) ?_)
  refine qo hnt rfl (s_callX (r2 := PV.ref 1 0 none) (nx1 := 2) (H2 := [(0, .obj [pI r.fn, pI r.at_, pI r.count, pI r.wAt, pI r.sub, pS 1 false encBo r.bits, pS 1 false enc16 r.vals, p16 r.and_, p16 r.or_])]) (H3 := [(1, oB false 1 enc8 (writeR r)), (0, .obj [pI r.fn, pI r.at_, pI r.count, pI r.wAt, pI r.sub, pS 1 false encBo r.bits, pS 1 false enc16 r.vals, p16 r.and_, p16 r.or_])]) [] [] rfl rfl rfl (handed_of (by decide) trivial) rfl rfl rfl rfl rfl rfl (w_burgageref3_write r (by omega) (by omega) (by intro h; rw [if_pos h] at h5b; omega) (by intro h; rw [if_pos h] at h6b; omega)) rfl (dist_of rfl) rfl rfl rfl rfl ?_)
  refine qa hnt rfl rfl ?_
  refine qa hnt rfl rfl ?_
  refine r_set [(2, PV.ref 1 0 none), (3, pI 0)] [(1, oB false 1 enc8 (writeR r)), (0, .obj [pI r.fn, pI r.at_, pI r.count, pI r.wAt, pI r.sub, pS 1 false encBo r.bits, pS 1 false enc16 r.vals, p16 r.and_, p16 r.or_])] 2 ⟨rfl, rfl, trivial⟩ rfl rfl ?_
  refine r_end ?_
  refine q_then ?_
  refine w_le (s := 3) (y := pI (rightR r)) rfl (le_of_eq (congrArg (fun z : Int => pI z) (show 0 = (rightR r) by first | (simp [bytesR, *]; done) | simp [bytesR, *]))) ?_
  refine w_H (H' := [(1, oB false 1 enc8 (bytesR r)), (0, .obj [pI r.fn, pI r.at_, pI r.count, pI r.wAt, pI r.sub, pS 1 false encBo r.bits, pS 1 false enc16 r.vals, p16 r.and_, p16 r.or_])]) (congrArg (fun z => ([(1, oB false 1 enc8 z), (0, .obj [pI r.fn, pI r.at_, pI r.count, pI r.wAt, pI r.sub, pS 1 false encBo r.bits, pS 1 false enc16 r.vals, p16 r.and_, p16 r.or_])] : Heap)) (show writeR r = bytesR r by first | (simp [bytesR, *]; done) | simp [bytesR, *])) ?_
  refine w_ret ?_
  exact fin_names (nx1 := 1) (H1 := [(0, oB false 1 enc8 (bytesR r))]) [(0, 1)] (ret_tmp rfl (ret_tmp rfl ret_nil)) rfl (by decide) ⟨⟨_, _, rfl, rfl, rfl, rfl⟩, trivial⟩ (by decide) rfl ⟨rfl, rfl, rfl⟩
end Go.Proofs.Ytfbmlnajnlekbaa
set_option linter.unusedVariables false
namespace Go.Proofs.Ytfbmlnajnlekbaa
open Go Go.Proofs.Ytfbmlnajnlekbaa.Pv
def tNext (L : List Int) (a : Nat) (n : Int) : Int := if L.length ≤ a ∨ n < 1 then 0 else (within (L.getD a 0) 0 1073741824).tmod n
def tStep (L : List Int) (a : Nat) (n : Int) : Nat := if L.length ≤ a ∨ n < 1 then a else a + 1
theorem tNext_lt (L : List Int) (a : Nat) {n : Int} (h : 1 ≤ n) : 0 ≤ tNext L a n ∧ tNext L a n < n := by
  unfold tNext
  split
  · omega
  · have := within_between (L.getD a 0) (lo := 0) (hi := 1073741824) (by decide)
    exact ⟨Int.tmod_nonneg _ this.1, Int.tmod_lt_of_pos _ (by omega)⟩
def fnsL : List Int := [1, 2, 3, 4, 5, 6, 8, 15, 16, 17, 22, 23]
section
variable {L : List Int} {f w : Int} {a : Nat}
end
theorem fns_has {i : Nat} {f : Int} (h : fnsL[i]? = some f) : hasF f = true := by
  have hz := List.mem_of_getElem? h
  simp only [fnsL, List.mem_cons, List.not_mem_nil, or_false] at hz
  unfold hasF
  exact decide_eq_true (by omega)
end Go.Proofs.Ytfbmlnajnlekbaa
set_option linter.unusedVariables false
set_option linter.unusedSimpArgs false
set_option maxRecDepth 10000
set_option maxHeartbeats 1000000
namespace Go.Proofs.Ytfbmlnajnlekbaa
open Go Go.Proofs.Ytfbmlnajnlekbaa.Pv
theorem w_burgagekeep_Functions   :
    T Try.prog 81 [] 0 [] (Ret (PV.ref 0 0 none) 1 [(0, oB true 1 encI fnsL)]) := by
 refine t_fun tabOk (n := 2) (rs := [.tmp 0]) Try.func81 rfl rfl rfl rfl (Nat.le_of_ble_eq_true rfl) ?_
 intro c hnt hk
 refine w_seq ?_
 refine w_R ?_
 refine qa hnt rfl rfl ?_
 refine r_end ?_
 refine q_then ?_
 refine w_seq ?_
 refine w_R ?_
 refine qo hnt rfl (s_mkM (f := encI) ([1, 2, 3, 4, 5, 6, 8, 15, 16, 17, 22, 23] : List Int) tab_22 rfl tab_3 ⟨rfl, by decide⟩ (by decide) rfl rfl rfl rfl ?_)
 refine qa hnt rfl rfl ?_
 refine r_set [(0, PV.ref 0 0 none)] [(0, oB true 1 encI ([1, 2, 3, 4, 5, 6, 8, 15, 16, 17, 22, 23] : List Int))] 1 ⟨rfl, trivial⟩ rfl rfl ?_
 refine r_end ?_
 refine q_then ?_
 refine w_H (H' := [(0, oB true 1 encI fnsL)]) (congrArg (fun z => ([(0, oB true 1 encI z)] : Heap)) (show ([1, 2, 3, 4, 5, 6, 8, 15, 16, 17, 22, 23] : List Int) = fnsL by rfl)) ?_
 refine w_ret ?_
 exact fin_names (nx1 := 1) (H1 := [(0, oB true 1 encI fnsL)]) [(0, 0)] (ret_tmp rfl ret_nil) rfl (by decide) ⟨⟨_, _, rfl, rfl, rfl, rfl⟩, trivial⟩ (by decide) rfl ⟨rfl, rfl, rfl⟩
theorem w_burgagekeep_Tape_Next (L : List Int) (cl_L : Bool) (a : Nat) (n : Int) (hL : L.length ≤ 70000000000000) (hn : -9223372036854775808 ≤ n ∧ n ≤ 9223372036854775807) :
    T Try.prog 47 [PV.ptr 0 0, pI n] 1 [(0, .obj [pS 1 cl_L encI L, pN a])] (Ret (pI (tNext L a n)) 1 [(0, .obj [pS 1 false encI L, pN (tStep L a n)])]) := by
 refine t_fun tabOk (n := 40) (rs := [.tmp 4]) Try.func47 rfl rfl rfl rfl (Nat.le_of_ble_eq_true rfl) ?_
 intro c hnt hk
 refine w_seq ?_
 refine w_R ?_
 refine qa hnt rfl rfl ?_
 refine r_end ?_
 refine q_then ?_
 refine w_seq ?_
 refine w_seq ?_
 refine W_drawn tabOk mixed hnt [[], [0], [0, 1], [0, 1, 2], [], [4], [4, 5], [4, 5, 6], [4, 5, 6, 7], [0, 1, 2, 3, 4, 5, 6, 7, 8], [0, 1, 2, 3, 4, 5, 6, 7, 8, 9], [0, 1, 2, 3, 4, 5, 6, 7, 8, 9, 10], [0, 1, 2, 3, 4, 5, 6, 7, 8, 9, 10, 11], [0, 1, 2, 3, 4, 5, 6, 7, 8, 9, 10, 11, 12]] (by kernel_rfl) ?_
 refine d_op ?_
 refine x_run0 [(0, PV.ptr 0 0)] [] rfl rfl rfl rfl (s_move rfl ⟨rfl, rfl, rfl⟩) ?_
 refine d_op ?_
 refine x_run0 [(5, PV.ptr 0 0)] [0] rfl rfl rfl rfl (s_nilCheck rfl trivial ⟨rfl, rfl, rfl⟩) ?_
 refine d_op ?_
 refine x_run0 [(6, PV.ptr 0 0)] [0, 1] rfl rfl rfl rfl (s_fa_ptr tab_76 rfl rfl tab_3 (by decide) rfl ⟨rfl, rfl, rfl⟩) ?_
 refine d_op ?_
 refine x_run [(7, PV.ptr 0 1)] [0, 1, 2] [(0, .obj [pS 1 cl_L encI L, pN a])] [] [(0, .obj [pS 1 cl_L encI L, pN a])] [] [(0, .obj [pS 1 cl_L encI L, pN a])] rfl rfl rfl rfl rfl rfl (s_load_ptr1 tab_3 rfl rfl rfl rfl rfl ⟨rfl, rfl, rfl⟩) rfl ⟨rfl, trivial⟩ rfl rfl ?_
 refine d_op ?_
 refine x_run0 [(0, PV.ptr 0 0)] [] rfl rfl rfl rfl (s_move rfl ⟨rfl, rfl, rfl⟩) ?_
 refine d_op ?_
 refine x_run0 [(9, PV.ptr 0 0)] [4] rfl rfl rfl rfl (s_nilCheck rfl trivial ⟨rfl, rfl, rfl⟩) ?_
 refine d_op ?_
 refine x_run0 [(10, PV.ptr 0 0)] [4, 5] rfl rfl rfl rfl (s_fa_ptr tab_76 rfl rfl tab_22 (by decide) rfl ⟨rfl, rfl, rfl⟩) ?_
 refine d_op ?_
 refine x_run [(11, PV.ptr 0 0)] [4, 5, 6] [(0, .obj [pS 1 cl_L encI L, pN a])] [] [(0, .obj [pS 1 cl_L encI L, pN a])] [] [(0, .obj [pS 1 cl_L encI L, pN a])] rfl rfl rfl rfl rfl rfl (s_load_ptr1 tab_22 rfl rfl rfl rfl rfl ⟨rfl, rfl, rfl⟩) rfl ⟨rfl, trivial⟩ rfl rfl ?_
 refine d_op ?_
 refine x_run0 [(12, pS 1 cl_L encI L)] [4, 5, 6, 7] rfl rfl rfl rfl (s_lenM (l := L) tab_22 rfl (hM_sl (f := encI) rfl) ⟨rfl, rfl, rfl⟩) ?_
 refine d_op ?_
 refine x_run0 [(8, pN a), (13, pN L.length)] [0, 1, 2, 3, 4, 5, 6, 7, 8] rfl rfl rfl rfl (s_geq rfl rfl ⟨rfl, rfl, rfl⟩) ?_
 refine d_op ?_
 refine x_run0 [(14, pB (decide (((L.length : Nat) : Int) ≤ ((a : Nat) : Int))))] [0, 1, 2, 3, 4, 5, 6, 7, 8, 9] rfl rfl rfl rfl (s_move rfl ⟨rfl, rfl, rfl⟩) ?_
 refine x_if [(15, pB (decide (((L.length : Nat) : Int) ≤ ((a : Nat) : Int)))), (1, pI n)] [0, 1, 2, 3, 4, 5, 6, 7, 8, 9, 10] rfl rfl rfl rfl (fun g1 => ?_) (fun g1 => ?_)
 ·
  have g1' := g1
  try simp only [sB] at g1'
  refine x_run0 [(15, pB (decide (((L.length : Nat) : Int) ≤ ((a : Nat) : Int)))), (1, pI n)] [0, 1, 2, 3, 4, 5, 6, 7, 8, 9, 10] rfl rfl rfl rfl (s_move rfl ⟨rfl, rfl, rfl⟩) ?_
  refine xy [(15, pB (decide (((L.length : Nat) : Int) ≤ ((a : Nat) : Int)))), (16, pI n)] [0, 1, 2, 3, 4, 5, 6, 7, 8, 9, 10, 11] rfl rfl rfl rfl g1 ?_
  refine x_run0 [(15, pB (decide (((L.length : Nat) : Int) ≤ ((a : Nat) : Int)))), (16, pI n)] [0, 1, 2, 3, 4, 5, 6, 7, 8, 9, 10, 11] rfl rfl rfl rfl (s_lss rfl rfl ⟨rfl, rfl, rfl⟩) ?_
  refine d_op ?_
  refine x_run0 [(15, pB (decide (((L.length : Nat) : Int) ≤ ((a : Nat) : Int)))), (17, pB (decide (n < 1)))] [0, 1, 2, 3, 4, 5, 6, 7, 8, 9, 10, 11, 12] rfl rfl rfl rfl (s_pick_f rfl g1 rfl ⟨rfl, rfl, rfl⟩) ?_
  refine d_end ⟨by kernel_rfl, ?_⟩
  refine q_then ?_
  refine w_if rfl (fun c1 => ?_) (fun c1 => ?_)
  ·
   have c1_ := c1
   try simp only [sB] at c1
   refine w_seq ?_
   refine w_R ?_
   refine qa hnt rfl rfl ?_
   refine r_end ?_
   refine q_then ?_
   refine w_le (s := 4) (y := pI (tNext L a n)) rfl (le_of_eq (congrArg (fun z : Int => pI z) (show 0 = (tNext L a n) by first | (unfold tNext; rw [if_pos (by omega)]; done) | (unfold tStep; rw [if_pos (by omega)]; done) | (unfold tStep; rw [if_neg (by omega)]; done) | (unfold tNext; rw [if_neg (by omega), List.getD_eq_getElem?_getD, show L[a]? = some e1 from he1]; rfl)))) ?_
   refine w_leC (n := 0) (j := 0) (y := pS 1 false encI L) rfl rfl (le_loose) ?_
   refine w_leC (n := 0) (j := 1) (y := pN (tStep L a n)) rfl rfl (le_of_eq (congrArg (fun z : Nat => pN z) (show a = (tStep L a n) by first | (unfold tNext; rw [if_pos (by omega)]; done) | (unfold tStep; rw [if_pos (by omega)]; done) | (unfold tStep; rw [if_neg (by omega)]; done) | (unfold tNext; rw [if_neg (by omega), List.getD_eq_getElem?_getD, show L[a]? = some e1 from he1]; rfl)))) ?_
   refine w_ret ?_
   refine q_then_ret ?_
   exact fin_names (nx1 := 1) (H1 := [(0, .obj [pS 1 false encI L, pN (tStep L a n)])]) [(0, 0)] (ret_tmp rfl ret_nil) rfl (by decide) ⟨⟨_, _, rfl, rfl, rfl, rfl⟩, trivial⟩ (by decide) rfl ⟨rfl, rfl, rfl⟩
  ·
   have c1_ := c1
   try simp only [sB] at c1
   refine w_skip ?_
   refine q_then ?_
   refine w_seq ?_
   refine w_R ?_
   refine qm hnt rfl rfl ?_
   refine qo hnt rfl (s_nilCheck rfl trivial ?_)
   refine qo hnt rfl (s_fa_ptr tab_76 rfl rfl tab_3 (by decide) rfl ?_)
   refine qo hnt rfl (s_load_ptr1 tab_3 rfl rfl rfl rfl rfl ?_)
   refine qo hnt rfl (s_addN (a := a) (b := 1) rfl rfl (by omega) (by omega) (by omega) ?_)
   refine qo hnt rfl (s_nilCheck rfl trivial ?_)
   refine qo hnt rfl (s_fa_ptr tab_76 rfl rfl tab_3 (by decide) rfl ?_)
   refine qo hnt rfl (s_store_ptr tab_3 rfl rfl rfl rfl rfl (Nat.le_of_ble_eq_true rfl) ?_)
   refine r_set [(0, PV.ptr 0 0), (1, pI n)] [(0, .obj [pS 1 cl_L encI L, pN (a + 1)])] 1 ⟨rfl, rfl, trivial⟩ rfl rfl ?_
   refine r_end ?_
   refine q_then ?_
   refine w_seq ?_
   refine W_drawn tabOk mixed hnt [[], [0], [0, 1], [0, 1, 2], [], [4], [4, 5], [4, 5, 6], [4, 5, 6, 7], [0, 1, 2, 3, 4, 5, 6, 7, 8], [0, 1, 2, 3, 4, 5, 6, 7, 8, 9], [0, 1, 2, 3, 4, 5, 6, 7, 8, 9, 10], [], [0, 1, 2, 3, 4, 5, 6, 7, 8, 9, 10, 11, 12], [0, 1, 2, 3, 4, 5, 6, 7, 8, 9, 10, 11, 12, 13]] (by kernel_rfl) ?_
   refine d_op ?_
   refine x_run0 [(0, PV.ptr 0 0)] [] rfl rfl rfl rfl (s_move rfl ⟨rfl, rfl, rfl⟩) ?_
   refine d_op ?_
   refine x_run0 [(26, PV.ptr 0 0)] [0] rfl rfl rfl rfl (s_nilCheck rfl trivial ⟨rfl, rfl, rfl⟩) ?_
   refine d_op ?_
   refine x_run0 [(27, PV.ptr 0 0)] [0, 1] rfl rfl rfl rfl (s_fa_ptr tab_76 rfl rfl tab_22 (by decide) rfl ⟨rfl, rfl, rfl⟩) ?_
   refine d_op ?_
   refine x_run [(28, PV.ptr 0 0)] [0, 1, 2] [(0, .obj [pS 1 cl_L encI L, pN (a + 1)])] [] [(0, .obj [pS 1 cl_L encI L, pN (a + 1)])] [] [(0, .obj [pS 1 cl_L encI L, pN (a + 1)])] rfl rfl rfl rfl rfl rfl (s_load_ptr1 tab_22 rfl rfl rfl rfl rfl ⟨rfl, rfl, rfl⟩) rfl ⟨rfl, trivial⟩ rfl rfl ?_
   refine d_op ?_
   refine x_run0 [(0, PV.ptr 0 0)] [] rfl rfl rfl rfl (s_move rfl ⟨rfl, rfl, rfl⟩) ?_
   refine d_op ?_
   refine x_run0 [(30, PV.ptr 0 0)] [4] rfl rfl rfl rfl (s_nilCheck rfl trivial ⟨rfl, rfl, rfl⟩) ?_
   refine d_op ?_
   refine x_run0 [(31, PV.ptr 0 0)] [4, 5] rfl rfl rfl rfl (s_fa_ptr tab_76 rfl rfl tab_3 (by decide) rfl ⟨rfl, rfl, rfl⟩) ?_
   refine d_op ?_
   refine x_run [(32, PV.ptr 0 1)] [4, 5, 6] [(0, .obj [pS 1 cl_L encI L, pN (a + 1)])] [] [(0, .obj [pS 1 cl_L encI L, pN (a + 1)])] [] [(0, .obj [pS 1 cl_L encI L, pN (a + 1)])] rfl rfl rfl rfl rfl rfl (s_load_ptr1 tab_3 rfl rfl rfl rfl rfl ⟨rfl, rfl, rfl⟩) rfl ⟨rfl, trivial⟩ rfl rfl ?_
   refine d_op ?_
   refine x_run0 [(33, pN (a + 1))] [4, 5, 6, 7] rfl rfl rfl rfl (s_subN (a := a + 1) (b := 1) rfl rfl (by omega) (by omega) (by omega) ⟨rfl, rfl, rfl⟩) ?_
   refine d_op ?_
   obtain ⟨e1, he1⟩ := get_of_lt L (i := a + 1 - 1) (by omega)
   refine x_run0 [(29, pS 1 cl_L encI L), (34, pN (a + 1 - 1))] [0, 1, 2, 3, 4, 5, 6, 7, 8] rfl rfl rfl rfl (s_iaM (q := a + 1 - 1) (b := e1) (f := encI) tab_22 rfl tab_3 rfl rfl (by omega) rfl he1 ⟨rfl, rfl, rfl⟩) ?_
   refine d_op ?_
   refine x_run0 [(35, PV.f (.ro (encI e1)))] [0, 1, 2, 3, 4, 5, 6, 7, 8, 9] rfl rfl rfl rfl (s_load_ro1 tab_3 rfl rfl rfl rfl ⟨rfl, rfl, rfl⟩) ?_
   refine d_op ?_
   refine x_run0 [(36, pI e1)] [0, 1, 2, 3, 4, 5, 6, 7, 8, 9, 10] rfl rfl rfl rfl (s_callF rfl rfl rfl (w_burgagebook_Within e1 0 1073741824 (by first | omega | assumption | (simp; omega) | decide | (simp; done))) rfl ⟨rfl, rfl, rfl⟩) ?_
   refine d_op ?_
   refine x_run0 [(1, pI n)] [] rfl rfl rfl rfl (s_move rfl ⟨rfl, rfl, rfl⟩) ?_
   refine d_op ?_
   refine x_run0 [(37, pI (within e1 0 1073741824)), (38, pI n)] [0, 1, 2, 3, 4, 5, 6, 7, 8, 9, 10, 11, 12] rfl rfl rfl rfl (s_rem rfl rfl (by omega) ⟨rfl, rfl, rfl⟩) ?_
   refine d_op ?_
   refine x_run0 [(39, pI (Int.tmod (within e1 0 1073741824) n))] [0, 1, 2, 3, 4, 5, 6, 7, 8, 9, 10, 11, 12, 13] rfl rfl rfl rfl (s_assign rfl ⟨rfl, rfl, rfl⟩) ?_
   refine d_end ⟨by kernel_rfl, ?_⟩
   refine q_then ?_
   refine w_le (s := 4) (y := pI (tNext L a n)) rfl (le_of_eq (congrArg (fun z : Int => pI z) (show (Int.tmod (within e1 0 1073741824) n) = (tNext L a n) by first | (unfold tNext; rw [if_pos (by omega)]; done) | (unfold tStep; rw [if_pos (by omega)]; done) | (unfold tStep; rw [if_neg (by omega)]; done) | (unfold tNext; rw [if_neg (by omega), List.getD_eq_getElem?_getD, show L[a]? = some e1 from he1]; rfl)))) ?_
   refine w_leC (n := 0) (j := 0) (y := pS 1 false encI L) rfl rfl (le_loose) ?_
   refine w_leC (n := 0) (j := 1) (y := pN (tStep L a n)) rfl rfl (le_of_eq (congrArg (fun z : Nat => pN z) (show (a + 1) = (tStep L a n) by first | (unfold tNext; rw [if_pos (by omega)]; done) | (unfold tStep; rw [if_pos (by omega)]; done) | (unfold tStep; rw [if_neg (by omega)]; done) | (unfold tNext; rw [if_neg (by omega), List.getD_eq_getElem?_getD, show L[a]? = some e1 from he1]; rfl)))) ?_
   refine w_ret ?_
   exact fin_names (nx1 := 1) (H1 := [(0, .obj [pS 1 false encI L, pN (tStep L a n)])]) [(0, 0)] (ret_tmp rfl ret_nil) rfl (by decide) ⟨⟨_, _, rfl, rfl, rfl, rfl⟩, trivial⟩ (by decide) rfl ⟨rfl, rfl, rfl⟩
 ·
  have g1' := g1
  try simp only [sB] at g1'
  refine xn [(15, pB (decide (((L.length : Nat) : Int) ≤ ((a : Nat) : Int)))), (16, undefP)] [0, 1, 2, 3, 4, 5, 6, 7, 8, 9, 10, 11] rfl rfl rfl rfl g1 ?_
  refine d_op ?_
  refine x_run0 [(15, pB (decide (((L.length : Nat) : Int) ≤ ((a : Nat) : Int)))), (17, undefP)] [0, 1, 2, 3, 4, 5, 6, 7, 8, 9, 10, 11, 12] rfl rfl rfl rfl (s_pick_t rfl g1 rfl ⟨rfl, rfl, rfl⟩) ?_
  refine d_end ⟨by kernel_rfl, ?_⟩
  refine q_then ?_
  refine w_if rfl (fun _ => ?_) (fun e => absurd e (by decide))
  refine w_seq ?_
  refine w_R ?_
  refine qa hnt rfl rfl ?_
  refine r_end ?_
  refine q_then ?_
  refine w_le (s := 4) (y := pI (tNext L a n)) rfl (le_of_eq (congrArg (fun z : Int => pI z) (show 0 = (tNext L a n) by first | (unfold tNext; rw [if_pos (by omega)]; done) | (unfold tStep; rw [if_pos (by omega)]; done) | (unfold tStep; rw [if_neg (by omega)]; done) | (unfold tNext; rw [if_neg (by omega), List.getD_eq_getElem?_getD, show L[a]? = some e1 from he1]; rfl)))) ?_
  refine w_leC (n := 0) (j := 0) (y := pS 1 false encI L) rfl rfl (le_loose) ?_
  refine w_leC (n := 0) (j := 1) (y := pN (tStep L a n)) rfl rfl (le_of_eq (congrArg (fun z : Nat => pN z) (show a = (tStep L a n) by first | (unfold tNext; rw [if_pos (by omega)]; done) | (unfold tStep; rw [if_pos (by omega)]; done) | (unfold tStep; rw [if_neg (by omega)]; done) | (unfold tNext; rw [if_neg (by omega), List.getD_eq_getElem?_getD, show L[a]? = some e1 from he1]; rfl)))) ?_
  refine w_ret ?_
  refine q_then_ret ?_
  exact fin_names (nx1 := 1) (H1 := [(0, .obj [pS 1 false encI L, pN (tStep L a n)])]) [(0, 0)] (ret_tmp rfl ret_nil) rfl (by decide) ⟨⟨_, _, rfl, rfl, rfl, rfl⟩, trivial⟩ (by decide) rfl ⟨rfl, rfl, rfl⟩
theorem w_burgagekeep_Tape_Bytes (L : List Int) (cl_L : Bool) (a : Nat) (m : Int) (hL : L.length ≤ 70000000000000) (hm : 0 ≤ m ∧ m ≤ 1000) :
    T Try.prog 73 [PV.ptr 0 0, pI m] 1 [(0, .obj [pS 1 cl_L encI L, pN a])] (fun ra rb rc => ∃ q : List UInt8, ∃ b : Nat, ((q.length : Int) ≤ m) ∧ (Ret (pS 1 false enc8 q) 1 [(0, .obj [pS 1 false encI L, pN b])]) ra rb rc) := by
 refine t_fun tabOk (n := 22) (rs := [.tmp 4]) Try.func73 rfl rfl rfl rfl (Nat.le_of_ble_eq_true rfl) ?_
 intro c hnt hk
 refine w_seq ?_
 refine w_R ?_
 refine qa hnt rfl rfl ?_
 refine r_end ?_
 refine q_then ?_
 refine w_seq ?_
 refine w_R ?_
 refine qa hnt rfl rfl ?_
 refine r_end ?_
 refine q_then ?_
 refine w_seq ?_
 refine w_seq ?_
 refine w_R ?_
 refine qm hnt rfl rfl ?_
 refine qm hnt rfl rfl ?_
 refine qo hnt rfl (s_addi (r := m + 1) rfl rfl rfl (by omega) ?_)
 refine qo hnt rfl (s_callX (r2 := pI (tNext L a (m + 1))) (nx1 := 1) (H2 := [(0, .obj [pS 1 cl_L encI L, pN a])]) (H3 := [(0, .obj [pS 1 false encI L, pN (tStep L a (m + 1))])]) [0] [.obj [pS 1 cl_L encI L, pN a]] rfl rfl rfl (handed_of (by decide) ⟨rfl, trivial⟩) rfl rfl rfl rfl rfl rfl (w_burgagekeep_Tape_Next L cl_L a (m + 1) (by first | omega | assumption | (simp; omega) | decide | (simp; done)) (by first | omega | assumption | (simp; omega) | decide | (simp; done))) rfl (dist_of rfl) rfl rfl rfl rfl ?_)
 refine qa hnt rfl rfl ?_
 refine r_set [(0, PV.ptr 0 0), (5, pNil), (6, pI (tNext L a (m + 1)))] [(0, .obj [pS 1 false encI L, pN (tStep L a (m + 1))])] 1 ⟨rfl, rfl, rfl, trivial⟩ rfl rfl ?_
 refine r_end ?_
 refine q_then ?_
 refine w_block ?_
 refine w_adopt (s := 5) (sz := 1) rfl ?_
 refine loop3 (fun (ap : Nat) (os : List UInt8) (k : Int) => (os.length : Int) + k ≤ m ∧ 0 ≤ k) (fun (ap : Nat) (os : List UInt8) (k : Int) => [(0, PV.ptr 0 0), (5, PV.ref 1 0 none), (6, pI k)]) 2 (fun (ap : Nat) (os : List UInt8) (k : Int) => [(0, .obj [pS 1 false encI L, pN ap]), (1, oB true 1 enc8 os)]) (fun (ap : Nat) (os : List UInt8) (k : Int) => k.toNat) (tStep L a (m + 1)) (([] : List UInt8)) (tNext L a (m + 1)) ?_ ⟨[(0, 0), (1, 1)], by rw [hk]; decide, ⟨⟨_, rfl, rfl, rfl⟩, ⟨_, rfl, rfl, rfl⟩, ⟨_, rfl, rfl, rfl⟩, trivial⟩, ⟨⟨_, _, rfl, rfl, rfl, rfl⟩, ⟨_, _, rfl, rfl, rfl, rfl⟩, trivial⟩, by rw [hk]; decide⟩ ?_
 · have := tNext_lt L a (n := m + 1) (by omega); exact ⟨by simp; omega, by omega⟩
 ·
  intro ap os k hI
  obtain ⟨hkm, hk0⟩ := hI
  refine w_seq ?_
  refine w_seq ?_
  refine w_R ?_
  refine qm hnt rfl rfl ?_
  refine qo hnt rfl (s_gtr rfl rfl ?_)
  refine r_end ?_
  refine q_then ?_
  refine w_if rfl (fun c1 => ?_) (fun c1 => ?_)
  ·
   have c1_ := c1
   try simp only [sB] at c1
   refine w_skip ?_
   refine q_then ?_
   refine w_seq ?_
   refine w_block ?_
   refine w_R ?_
   refine qm hnt rfl rfl ?_
   refine qm hnt rfl rfl ?_
   refine qo hnt rfl (s_callX (r2 := pI (tNext L ap 256)) (nx1 := 2) (H2 := [(0, .obj [pS 1 false encI L, pN ap]), (1, oB true 1 enc8 os)]) (H3 := [(0, .obj [pS 1 false encI L, pN (tStep L ap 256)]), (1, oB true 1 enc8 os)]) [0] [.obj [pS 1 false encI L, pN ap]] rfl rfl rfl (handed_of (by decide) ⟨rfl, trivial⟩) rfl rfl rfl rfl rfl rfl (w_burgagekeep_Tape_Next L false ap 256 (by first | omega | assumption | (simp; omega) | decide | (simp; done)) (by first | omega | assumption | (simp; omega) | decide | (simp; done))) rfl (dist_of rfl) rfl rfl rfl rfl ?_)
   refine qo hnt rfl (s_cv8 tab_3 tab_5 rfl rfl rfl ?_)
   refine qo hnt rfl (s_mkM (f := enc8) [u8I (tNext L ap 256)] tab_27 rfl tab_5 ⟨rfl, by decide⟩ (by decide) rfl rfl rfl rfl ?_)
   refine qo hnt rfl (s_appR0 (f := enc8) (l := os) (xs := [u8I (tNext L ap 256)]) tab_27 rfl tab_5 ⟨rfl, by decide, by decide⟩ (srcM tab_27 rfl (hM_ref0 (f := enc8) rfl rfl)) rfl rfl (by first | omega | (simp; omega)) ?_)
   refine qa hnt rfl rfl ?_
   refine r_set [(0, PV.ptr 0 0), (5, PV.ref 3 0 none), (6, pI k)] [(3, oB true 1 enc8 (os ++ [u8I (tNext L ap 256)])), (2, oB true 1 enc8 [u8I (tNext L ap 256)]), (0, .obj [pS 1 false encI L, pN (tStep L ap 256)])] 4 ⟨rfl, rfl, rfl, trivial⟩ rfl rfl ?_
   refine r_end ?_
   refine q_block ?_
   refine q_then ?_
   refine w_R ?_
   refine qm hnt rfl rfl ?_
   refine qo hnt rfl (s_subi (r := k - 1) rfl rfl rfl (by omega) ?_)
   refine qa hnt rfl rfl ?_
   refine r_end ?_
   refine q_then ?_
   refine ⟨(tStep L ap 256), (os ++ [u8I (tNext L ap 256)]), (k - 1), ?_, ?_, ⟨[(0, 0), (1, 3)], by rw [hk]; decide, ⟨⟨_, rfl, rfl, rfl⟩, ⟨_, rfl, rfl, rfl⟩, ⟨_, rfl, rfl, rfl⟩, trivial⟩, ⟨⟨_, _, rfl, rfl, rfl, rfl⟩, ⟨_, _, rfl, rfl, rfl, rfl⟩, trivial⟩, by rw [hk]; decide⟩⟩
   ·
    exact ⟨by simp; omega, by omega⟩
   · omega
  ·
   have c1_ := c1
   try simp only [sB] at c1
   refine w_exit ?_
   refine q_then_exit ?_
   refine q_then_exit ?_
   refine q_block_exit ?_
   refine q_then ?_
   refine w_seq ?_
   refine w_R ?_
   refine qm hnt rfl rfl ?_
   refine qa hnt rfl rfl ?_
   refine r_end ?_
   refine q_then ?_
   refine w_frzM (s := 4) (f := enc8) rfl rfl view_0 ?_
   refine w_ret ?_
   have hex : (os.length : Int) ≤ m := by
     omega
   exact fin_names (nx1 := 1) (H1 := [(0, .obj [pS 1 false encI L, pN ap])]) [(0, 0)] (ret_tmp rfl ret_nil) rfl (by decide) ⟨⟨_, _, rfl, rfl, rfl, rfl⟩, trivial⟩ (by decide) rfl ⟨(os), (ap), hex, rfl, rfl, rfl⟩
theorem w_burgagekeep_Tape_Request (L : List Int) (cl_L : Bool) (a : Nat) (hL : L.length ≤ 70000000000000) :
    T Try.prog 72 [PV.ptr 0 0] 1 [(0, .obj [pS 1 cl_L encI L, pN a])] (fun ra rb rc => ∃ q : TRequest, ∃ b : Nat, (rightR q = 0 ∧ q.bits.length ≤ 25 ∧ q.vals.length ≤ 25 ∧ 0 ≤ q.count ∧ q.count ≤ 25) ∧ (Ret (PV.f (eRequest q)) 1 [(0, .obj [pS 1 false encI L, pN b])]) ra rb rc) := by
 refine t_fun tabOk (n := 140) (rs := [.cell 2 107]) Try.func72 rfl rfl rfl rfl (Nat.le_of_ble_eq_true rfl) ?_
 intro c hnt hk
 refine w_seq ?_
 refine w_R ?_
 refine qo hnt rfl (s_alloc tab_107 ?_)
 refine r_set [(0, PV.ptr 0 0), (2, PV.ptr 1 0)] [(1, .obj [pI 0, pI 0, pI 0, pI 0, pI 0, pNil, pNil, p16 0, p16 0]), (0, .obj [pS 1 cl_L encI L, pN a])] 2 ⟨rfl, rfl, trivial⟩ rfl rfl ?_
 refine r_end ?_
 refine q_then ?_
 refine w_seq ?_
 refine w_R ?_
 refine qo hnt rfl (s_callX (r2 := PV.ref 2 0 none) (nx1 := 3) (H2 := [(1, .obj [pI 0, pI 0, pI 0, pI 0, pI 0, pNil, pNil, p16 0, p16 0]), (0, .obj [pS 1 cl_L encI L, pN a])]) (H3 := [(2, oB true 1 encI fnsL), (1, .obj [pI 0, pI 0, pI 0, pI 0, pI 0, pNil, pNil, p16 0, p16 0]), (0, .obj [pS 1 cl_L encI L, pN a])]) [] [] rfl rfl rfl (handed_of (by decide) trivial) rfl rfl rfl rfl rfl rfl (w_burgagekeep_Functions) rfl (dist_of rfl) rfl rfl rfl rfl ?_)
 refine qm hnt rfl rfl ?_
 refine qo hnt rfl (s_callX (r2 := pI (tNext L a 12)) (nx1 := 3) (H2 := [(2, oB true 1 encI fnsL), (1, .obj [pI 0, pI 0, pI 0, pI 0, pI 0, pNil, pNil, p16 0, p16 0]), (0, .obj [pS 1 cl_L encI L, pN a])]) (H3 := [(0, .obj [pS 1 false encI L, pN (tStep L a 12)]), (2, oB true 1 encI fnsL), (1, .obj [pI 0, pI 0, pI 0, pI 0, pI 0, pNil, pNil, p16 0, p16 0])]) [0] [.obj [pS 1 cl_L encI L, pN a]] rfl rfl rfl (handed_of (by decide) ⟨rfl, trivial⟩) rfl rfl rfl rfl rfl rfl (w_burgagekeep_Tape_Next L cl_L a 12 (by first | omega | assumption | (simp; omega) | decide | (simp; done)) (by first | omega | assumption | (simp; omega) | decide | (simp; done))) rfl (dist_of rfl) rfl rfl rfl rfl ?_)
 have h12 := tNext_lt L a (n := 12) (by decide)
 have hfl : fnsL.length = 12 := rfl
 refine qo hnt rfl (s_iaR0 (q := Int.toNat (tNext L a 12)) (f := encI) (l := fnsL) tab_22 rfl tab_3 rfl rfl (by omega) rfl rfl (by omega) ?_)
 obtain ⟨e1, he1⟩ := get_of_lt fnsL (i := Int.toNat (tNext L a 12)) (by omega)
 refine qo hnt rfl (s_ldM (b := e1) (f := encI) tab_3 rfl rfl rfl rfl he1 rfl ?_)
 refine qo hnt rfl (s_build tab_107 rfl rfl (b_cons rfl tab_3 rfl rfl rfl (Nat.le_of_ble_eq_true rfl) (b_nil ?_)))
 refine qo hnt rfl (s_alloc tab_107 ?_)
 refine qo hnt rfl (s_store_ptr tab_107 rfl rfl rfl rfl rfl (Nat.le_of_ble_eq_true rfl) ?_)
 refine r_set [(0, PV.ptr 0 0), (2, PV.ptr 1 0), (3, PV.ptr 3 0)] [(3, .obj [pI e1, pI 0, pI 0, pI 0, pI 0, pNil, pNil, p16 0, p16 0]), (0, .obj [pS 1 false encI L, pN (tStep L a 12)]), (2, oB true 1 encI fnsL), (1, .obj [pI 0, pI 0, pI 0, pI 0, pI 0, pNil, pNil, p16 0, p16 0])] 4 ⟨rfl, rfl, rfl, trivial⟩ rfl rfl ?_
 refine r_end ?_
 refine q_then ?_
 refine w_seq ?_
 have hfn := fns_has he1
 have h70 := tNext_lt L (tStep L a 12) (n := 70) (by decide)
 refine w_R ?_
 refine qm hnt rfl rfl ?_
 refine qo hnt rfl (s_callX (r2 := pI (tNext L (tStep L a 12) 70)) (nx1 := 4) (H2 := [(3, .obj [pI e1, pI 0, pI 0, pI 0, pI 0, pNil, pNil, p16 0, p16 0]), (0, .obj [pS 1 false encI L, pN (tStep L a 12)]), (2, oB true 1 encI fnsL), (1, .obj [pI 0, pI 0, pI 0, pI 0, pI 0, pNil, pNil, p16 0, p16 0])]) (H3 := [(0, .obj [pS 1 false encI L, pN (tStep L (tStep L a 12) 70)]), (3, .obj [pI e1, pI 0, pI 0, pI 0, pI 0, pNil, pNil, p16 0, p16 0]), (2, oB true 1 encI fnsL), (1, .obj [pI 0, pI 0, pI 0, pI 0, pI 0, pNil, pNil, p16 0, p16 0])]) [0] [.obj [pS 1 false encI L, pN (tStep L a 12)]] rfl rfl rfl (handed_of (by decide) ⟨rfl, trivial⟩) rfl rfl rfl rfl rfl rfl (w_burgagekeep_Tape_Next L false (tStep L a 12) 70 (by first | omega | assumption | (simp; omega) | decide | (simp; done)) (by first | omega | assumption | (simp; omega) | decide | (simp; done))) rfl (dist_of rfl) rfl rfl rfl rfl ?_)
 refine qa hnt rfl rfl ?_
 refine r_set [(0, PV.ptr 0 0), (2, PV.ptr 1 0), (3, PV.ptr 3 0), (4, pI (tNext L (tStep L a 12) 70))] [(0, .obj [pS 1 false encI L, pN (tStep L (tStep L a 12) 70)]), (3, .obj [pI e1, pI 0, pI 0, pI 0, pI 0, pNil, pNil, p16 0, p16 0]), (2, oB true 1 encI fnsL), (1, .obj [pI 0, pI 0, pI 0, pI 0, pI 0, pNil, pNil, p16 0, p16 0])] 4 ⟨rfl, rfl, rfl, rfl, trivial⟩ rfl rfl ?_
 refine r_end ?_
 refine q_then ?_
 refine w_seq ?_
 refine w_seq ?_
 refine w_R ?_
 refine qo hnt rfl (s_fa_ptr tab_107 rfl rfl tab_3 (by decide) rfl ?_)
 refine qo hnt rfl (s_load_ptr1 tab_3 rfl rfl rfl rfl rfl ?_)
 refine r_end ?_
 refine q_then ?_
 refine w_block ?_
 refine w_seq ?_
 refine w_seq ?_
 refine w_R ?_
 refine qo hnt rfl (s_eql rfl rfl ?_)
 refine qa hnt rfl rfl ?_
 refine r_end ?_
 refine q_then ?_
 refine w_if rfl (fun c1 => ?_) (fun c1 => ?_)
 ·
  have c1_ := c1
  try simp only [sB] at c1
  refine w_skip ?_
  refine q_then ?_
  refine w_if rfl (fun _ => ?_) (fun e => absurd (e.symm.trans c1_) (by decide))
  have h26 := tNext_lt L (tStep L (tStep L a 12) 70) (n := 26) (by decide)
  refine w_R ?_
  refine qm hnt rfl rfl ?_
  refine qm hnt rfl rfl ?_
  refine qo hnt rfl (s_callX (r2 := pI (tNext L (tStep L (tStep L a 12) 70) 26)) (nx1 := 4) (H2 := [(0, .obj [pS 1 false encI L, pN (tStep L (tStep L a 12) 70)]), (3, .obj [pI e1, pI 0, pI 0, pI 0, pI 0, pNil, pNil, p16 0, p16 0]), (2, oB true 1 encI fnsL), (1, .obj [pI 0, pI 0, pI 0, pI 0, pI 0, pNil, pNil, p16 0, p16 0])]) (H3 := [(0, .obj [pS 1 false encI L, pN (tStep L (tStep L (tStep L a 12) 70) 26)]), (3, .obj [pI e1, pI 0, pI 0, pI 0, pI 0, pNil, pNil, p16 0, p16 0]), (2, oB true 1 encI fnsL), (1, .obj [pI 0, pI 0, pI 0, pI 0, pI 0, pNil, pNil, p16 0, p16 0])]) [0] [.obj [pS 1 false encI L, pN (tStep L (tStep L a 12) 70)]] rfl rfl rfl (handed_of (by decide) ⟨rfl, trivial⟩) rfl rfl rfl rfl rfl rfl (w_burgagekeep_Tape_Next L false (tStep L (tStep L a 12) 70) 26 (by first | omega | assumption | (simp; omega) | decide | (simp; done)) (by first | omega | assumption | (simp; omega) | decide | (simp; done))) rfl (dist_of rfl) rfl rfl rfl rfl ?_)
  refine qo hnt rfl (s_fa_ptr tab_107 rfl rfl tab_3 (by decide) rfl ?_)
  refine qo hnt rfl (s_store_ptr tab_3 rfl rfl rfl rfl rfl (Nat.le_of_ble_eq_true rfl) ?_)
  refine qo hnt rfl (s_fa_ptr tab_107 rfl rfl tab_3 (by decide) rfl ?_)
  refine qo hnt rfl (s_store_ptr tab_3 rfl rfl rfl rfl rfl (Nat.le_of_ble_eq_true rfl) ?_)
  refine r_set [(2, PV.ptr 1 0), (3, PV.ptr 3 0)] [(3, .obj [pI e1, pI (tNext L (tStep L a 12) 70), pI (tNext L (tStep L (tStep L a 12) 70) 26), pI 0, pI 0, pNil, pNil, p16 0, p16 0]), (0, .obj [pS 1 false encI L, pN (tStep L (tStep L (tStep L a 12) 70) 26)]), (2, oB true 1 encI fnsL), (1, .obj [pI 0, pI 0, pI 0, pI 0, pI 0, pNil, pNil, p16 0, p16 0])] 4 ⟨rfl, rfl, trivial⟩ rfl rfl ?_
  refine r_end ?_
  refine q_block ?_
  refine q_then ?_
  refine w_seq ?_
  refine w_R ?_
  refine qo hnt rfl (s_load_ptr tab_107 rfl rfl rfl (Nat.le_of_ble_eq_true rfl) ?_)
  refine qo hnt rfl (s_store_ptr tab_107 rfl rfl rfl rfl rfl (Nat.le_of_ble_eq_true rfl) ?_)
  refine r_set [(2, PV.ptr 1 0)] [(1, .obj [pI e1, pI (tNext L (tStep L a 12) 70), pI (tNext L (tStep L (tStep L a 12) 70) 26), pI 0, pI 0, pNil, pNil, p16 0, p16 0]), (3, .obj [pI e1, pI (tNext L (tStep L a 12) 70), pI (tNext L (tStep L (tStep L a 12) 70) 26), pI 0, pI 0, pNil, pNil, p16 0, p16 0]), (0, .obj [pS 1 false encI L, pN (tStep L (tStep L (tStep L a 12) 70) 26)]), (2, oB true 1 encI fnsL)] 4 ⟨rfl, trivial⟩ rfl rfl ?_
  refine r_end ?_
  refine q_then ?_
  refine w_leC (n := 1) (j := 5) (y := pS 1 false encBo []) rfl rfl (le_nilS 1 false) ?_
  refine w_leC (n := 1) (j := 6) (y := pS 1 false enc16 []) rfl rfl (le_nilS 1 false) ?_
  refine w_ret ?_
  have hex : rightR (⟨e1, tNext L (tStep L a 12) 70, tNext L (tStep L (tStep L a 12) 70) 26, 0, 0, [], [], 0, 0⟩ : TRequest) = 0 ∧ (⟨e1, tNext L (tStep L a 12) 70, tNext L (tStep L (tStep L a 12) 70) 26, 0, 0, [], [], 0, 0⟩ : TRequest).bits.length ≤ 25 ∧ (⟨e1, tNext L (tStep L a 12) 70, tNext L (tStep L (tStep L a 12) 70) 26, 0, 0, [], [], 0, 0⟩ : TRequest).vals.length ≤ 25 ∧ 0 ≤ (⟨e1, tNext L (tStep L a 12) 70, tNext L (tStep L (tStep L a 12) 70) 26, 0, 0, [], [], 0, 0⟩ : TRequest).count ∧ (⟨e1, tNext L (tStep L a 12) 70, tNext L (tStep L (tStep L a 12) 70) 26, 0, 0, [], [], 0, 0⟩ : TRequest).count ≤ 25 := by
    refine ⟨(shapeR_iff (q := _) hfn).2 ?_, by simp; try omega, by simp; try omega, by simp; try omega, by simp; try omega⟩
    constructor
    case bits => simp only; first | rfl | (rw [if_neg (by omega), if_neg (by omega)]; rfl) | (rw [if_pos (by omega)]; rfl) | (rw [if_neg (by omega), if_pos (by omega)]; exact ⟨by omega, by omega⟩)
    case vals => simp only; first | rfl | (rw [if_neg (by omega), if_neg (by omega), if_neg (by omega)]; rfl) | (rw [if_pos (by omega)]; rfl) | (rw [if_neg (by omega), if_pos (by omega)]; exact ⟨by omega, by omega⟩) | (rw [if_neg (by omega), if_neg (by omega), if_pos (by omega)]; omega)
    all_goals first | (intro _; rfl) | (intro _; exact ⟨rfl, rfl⟩) | (simp only; omega) | (intro h; simp at h) | (intro h; exact absurd rfl h) | (simp; omega)
  exact fin_names (nx1 := 1) (H1 := [(0, .obj [pS 1 false encI L, pN (tStep L (tStep L (tStep L a 12) 70) 26)])]) [(0, 0)] (ret_cell tab_107 (by decide) rfl rfl (Nat.le_of_ble_eq_true rfl) rfl ret_nil) rfl (by decide) ⟨⟨_, _, rfl, rfl, rfl, rfl⟩, trivial⟩ (by decide) rfl ⟨((⟨e1, tNext L (tStep L a 12) 70, tNext L (tStep L (tStep L a 12) 70) 26, 0, 0, [], [], 0, 0⟩ : TRequest)), (tStep L (tStep L (tStep L a 12) 70) 26), hex, rfl, rfl, rfl⟩
 ·
  have c1_ := c1
  try simp only [sB] at c1
  refine w_seq ?_
  refine w_R ?_
  refine qo hnt rfl (s_eql rfl rfl ?_)
  refine qa hnt rfl rfl ?_
  refine r_end ?_
  refine q_then ?_
  refine w_if rfl (fun c2 => ?_) (fun c2 => ?_)
  ·
   have c2_ := c2
   try simp only [sB] at c2
   refine w_skip ?_
   refine q_then ?_
   refine w_if rfl (fun _ => ?_) (fun e => absurd (e.symm.trans c2_) (by decide))
   have h26 := tNext_lt L (tStep L (tStep L a 12) 70) (n := 26) (by decide)
   refine w_R ?_
   refine qm hnt rfl rfl ?_
   refine qm hnt rfl rfl ?_
   refine qo hnt rfl (s_callX (r2 := pI (tNext L (tStep L (tStep L a 12) 70) 26)) (nx1 := 4) (H2 := [(0, .obj [pS 1 false encI L, pN (tStep L (tStep L a 12) 70)]), (3, .obj [pI e1, pI 0, pI 0, pI 0, pI 0, pNil, pNil, p16 0, p16 0]), (2, oB true 1 encI fnsL), (1, .obj [pI 0, pI 0, pI 0, pI 0, pI 0, pNil, pNil, p16 0, p16 0])]) (H3 := [(0, .obj [pS 1 false encI L, pN (tStep L (tStep L (tStep L a 12) 70) 26)]), (3, .obj [pI e1, pI 0, pI 0, pI 0, pI 0, pNil, pNil, p16 0, p16 0]), (2, oB true 1 encI fnsL), (1, .obj [pI 0, pI 0, pI 0, pI 0, pI 0, pNil, pNil, p16 0, p16 0])]) [0] [.obj [pS 1 false encI L, pN (tStep L (tStep L a 12) 70)]] rfl rfl rfl (handed_of (by decide) ⟨rfl, trivial⟩) rfl rfl rfl rfl rfl rfl (w_burgagekeep_Tape_Next L false (tStep L (tStep L a 12) 70) 26 (by first | omega | assumption | (simp; omega) | decide | (simp; done)) (by first | omega | assumption | (simp; omega) | decide | (simp; done))) rfl (dist_of rfl) rfl rfl rfl rfl ?_)
   refine qo hnt rfl (s_fa_ptr tab_107 rfl rfl tab_3 (by decide) rfl ?_)
   refine qo hnt rfl (s_store_ptr tab_3 rfl rfl rfl rfl rfl (Nat.le_of_ble_eq_true rfl) ?_)
   refine qo hnt rfl (s_fa_ptr tab_107 rfl rfl tab_3 (by decide) rfl ?_)
   refine qo hnt rfl (s_store_ptr tab_3 rfl rfl rfl rfl rfl (Nat.le_of_ble_eq_true rfl) ?_)
   refine r_set [(2, PV.ptr 1 0), (3, PV.ptr 3 0)] [(3, .obj [pI e1, pI (tNext L (tStep L a 12) 70), pI (tNext L (tStep L (tStep L a 12) 70) 26), pI 0, pI 0, pNil, pNil, p16 0, p16 0]), (0, .obj [pS 1 false encI L, pN (tStep L (tStep L (tStep L a 12) 70) 26)]), (2, oB true 1 encI fnsL), (1, .obj [pI 0, pI 0, pI 0, pI 0, pI 0, pNil, pNil, p16 0, p16 0])] 4 ⟨rfl, rfl, trivial⟩ rfl rfl ?_
   refine r_end ?_
   refine q_block ?_
   refine q_then ?_
   refine w_seq ?_
   refine w_R ?_
   refine qo hnt rfl (s_load_ptr tab_107 rfl rfl rfl (Nat.le_of_ble_eq_true rfl) ?_)
   refine qo hnt rfl (s_store_ptr tab_107 rfl rfl rfl rfl rfl (Nat.le_of_ble_eq_true rfl) ?_)
   refine r_set [(2, PV.ptr 1 0)] [(1, .obj [pI e1, pI (tNext L (tStep L a 12) 70), pI (tNext L (tStep L (tStep L a 12) 70) 26), pI 0, pI 0, pNil, pNil, p16 0, p16 0]), (3, .obj [pI e1, pI (tNext L (tStep L a 12) 70), pI (tNext L (tStep L (tStep L a 12) 70) 26), pI 0, pI 0, pNil, pNil, p16 0, p16 0]), (0, .obj [pS 1 false encI L, pN (tStep L (tStep L (tStep L a 12) 70) 26)]), (2, oB true 1 encI fnsL)] 4 ⟨rfl, trivial⟩ rfl rfl ?_
   refine r_end ?_
   refine q_then ?_
   refine w_leC (n := 1) (j := 5) (y := pS 1 false encBo []) rfl rfl (le_nilS 1 false) ?_
   refine w_leC (n := 1) (j := 6) (y := pS 1 false enc16 []) rfl rfl (le_nilS 1 false) ?_
   refine w_ret ?_
   have hex : rightR (⟨e1, tNext L (tStep L a 12) 70, tNext L (tStep L (tStep L a 12) 70) 26, 0, 0, [], [], 0, 0⟩ : TRequest) = 0 ∧ (⟨e1, tNext L (tStep L a 12) 70, tNext L (tStep L (tStep L a 12) 70) 26, 0, 0, [], [], 0, 0⟩ : TRequest).bits.length ≤ 25 ∧ (⟨e1, tNext L (tStep L a 12) 70, tNext L (tStep L (tStep L a 12) 70) 26, 0, 0, [], [], 0, 0⟩ : TRequest).vals.length ≤ 25 ∧ 0 ≤ (⟨e1, tNext L (tStep L a 12) 70, tNext L (tStep L (tStep L a 12) 70) 26, 0, 0, [], [], 0, 0⟩ : TRequest).count ∧ (⟨e1, tNext L (tStep L a 12) 70, tNext L (tStep L (tStep L a 12) 70) 26, 0, 0, [], [], 0, 0⟩ : TRequest).count ≤ 25 := by
     refine ⟨(shapeR_iff (q := _) hfn).2 ?_, by simp; try omega, by simp; try omega, by simp; try omega, by simp; try omega⟩
     constructor
     case bits => simp only; first | rfl | (rw [if_neg (by omega), if_neg (by omega)]; rfl) | (rw [if_pos (by omega)]; rfl) | (rw [if_neg (by omega), if_pos (by omega)]; exact ⟨by omega, by omega⟩)
     case vals => simp only; first | rfl | (rw [if_neg (by omega), if_neg (by omega), if_neg (by omega)]; rfl) | (rw [if_pos (by omega)]; rfl) | (rw [if_neg (by omega), if_pos (by omega)]; exact ⟨by omega, by omega⟩) | (rw [if_neg (by omega), if_neg (by omega), if_pos (by omega)]; omega)
     all_goals first | (intro _; rfl) | (intro _; exact ⟨rfl, rfl⟩) | (simp only; omega) | (intro h; simp at h) | (intro h; exact absurd rfl h) | (simp; omega)
   exact fin_names (nx1 := 1) (H1 := [(0, .obj [pS 1 false encI L, pN (tStep L (tStep L (tStep L a 12) 70) 26)])]) [(0, 0)] (ret_cell tab_107 (by decide) rfl rfl (Nat.le_of_ble_eq_true rfl) rfl ret_nil) rfl (by decide) ⟨⟨_, _, rfl, rfl, rfl, rfl⟩, trivial⟩ (by decide) rfl ⟨((⟨e1, tNext L (tStep L a 12) 70, tNext L (tStep L (tStep L a 12) 70) 26, 0, 0, [], [], 0, 0⟩ : TRequest)), (tStep L (tStep L (tStep L a 12) 70) 26), hex, rfl, rfl, rfl⟩
  ·
   have c2_ := c2
   try simp only [sB] at c2
   refine w_seq ?_
   refine w_R ?_
   refine qo hnt rfl (s_eql rfl rfl ?_)
   refine qa hnt rfl rfl ?_
   refine r_end ?_
   refine q_then ?_
   refine w_if rfl (fun c3 => ?_) (fun c3 => ?_)
   ·
    have c3_ := c3
    try simp only [sB] at c3
    refine w_skip ?_
    refine q_then ?_
    refine w_if rfl (fun _ => ?_) (fun e => absurd (e.symm.trans c3_) (by decide))
    have h26 := tNext_lt L (tStep L (tStep L a 12) 70) (n := 26) (by decide)
    refine w_R ?_
    refine qm hnt rfl rfl ?_
    refine qm hnt rfl rfl ?_
    refine qo hnt rfl (s_callX (r2 := pI (tNext L (tStep L (tStep L a 12) 70) 26)) (nx1 := 4) (H2 := [(0, .obj [pS 1 false encI L, pN (tStep L (tStep L a 12) 70)]), (3, .obj [pI e1, pI 0, pI 0, pI 0, pI 0, pNil, pNil, p16 0, p16 0]), (2, oB true 1 encI fnsL), (1, .obj [pI 0, pI 0, pI 0, pI 0, pI 0, pNil, pNil, p16 0, p16 0])]) (H3 := [(0, .obj [pS 1 false encI L, pN (tStep L (tStep L (tStep L a 12) 70) 26)]), (3, .obj [pI e1, pI 0, pI 0, pI 0, pI 0, pNil, pNil, p16 0, p16 0]), (2, oB true 1 encI fnsL), (1, .obj [pI 0, pI 0, pI 0, pI 0, pI 0, pNil, pNil, p16 0, p16 0])]) [0] [.obj [pS 1 false encI L, pN (tStep L (tStep L a 12) 70)]] rfl rfl rfl (handed_of (by decide) ⟨rfl, trivial⟩) rfl rfl rfl rfl rfl rfl (w_burgagekeep_Tape_Next L false (tStep L (tStep L a 12) 70) 26 (by first | omega | assumption | (simp; omega) | decide | (simp; done)) (by first | omega | assumption | (simp; omega) | decide | (simp; done))) rfl (dist_of rfl) rfl rfl rfl rfl ?_)
    refine qo hnt rfl (s_fa_ptr tab_107 rfl rfl tab_3 (by decide) rfl ?_)
    refine qo hnt rfl (s_store_ptr tab_3 rfl rfl rfl rfl rfl (Nat.le_of_ble_eq_true rfl) ?_)
    refine qo hnt rfl (s_fa_ptr tab_107 rfl rfl tab_3 (by decide) rfl ?_)
    refine qo hnt rfl (s_store_ptr tab_3 rfl rfl rfl rfl rfl (Nat.le_of_ble_eq_true rfl) ?_)
    refine r_set [(2, PV.ptr 1 0), (3, PV.ptr 3 0)] [(3, .obj [pI e1, pI (tNext L (tStep L a 12) 70), pI (tNext L (tStep L (tStep L a 12) 70) 26), pI 0, pI 0, pNil, pNil, p16 0, p16 0]), (0, .obj [pS 1 false encI L, pN (tStep L (tStep L (tStep L a 12) 70) 26)]), (2, oB true 1 encI fnsL), (1, .obj [pI 0, pI 0, pI 0, pI 0, pI 0, pNil, pNil, p16 0, p16 0])] 4 ⟨rfl, rfl, trivial⟩ rfl rfl ?_
    refine r_end ?_
    refine q_block ?_
    refine q_then ?_
    refine w_seq ?_
    refine w_R ?_
    refine qo hnt rfl (s_load_ptr tab_107 rfl rfl rfl (Nat.le_of_ble_eq_true rfl) ?_)
    refine qo hnt rfl (s_store_ptr tab_107 rfl rfl rfl rfl rfl (Nat.le_of_ble_eq_true rfl) ?_)
    refine r_set [(2, PV.ptr 1 0)] [(1, .obj [pI e1, pI (tNext L (tStep L a 12) 70), pI (tNext L (tStep L (tStep L a 12) 70) 26), pI 0, pI 0, pNil, pNil, p16 0, p16 0]), (3, .obj [pI e1, pI (tNext L (tStep L a 12) 70), pI (tNext L (tStep L (tStep L a 12) 70) 26), pI 0, pI 0, pNil, pNil, p16 0, p16 0]), (0, .obj [pS 1 false encI L, pN (tStep L (tStep L (tStep L a 12) 70) 26)]), (2, oB true 1 encI fnsL)] 4 ⟨rfl, trivial⟩ rfl rfl ?_
    refine r_end ?_
    refine q_then ?_
    refine w_leC (n := 1) (j := 5) (y := pS 1 false encBo []) rfl rfl (le_nilS 1 false) ?_
    refine w_leC (n := 1) (j := 6) (y := pS 1 false enc16 []) rfl rfl (le_nilS 1 false) ?_
    refine w_ret ?_
    have hex : rightR (⟨e1, tNext L (tStep L a 12) 70, tNext L (tStep L (tStep L a 12) 70) 26, 0, 0, [], [], 0, 0⟩ : TRequest) = 0 ∧ (⟨e1, tNext L (tStep L a 12) 70, tNext L (tStep L (tStep L a 12) 70) 26, 0, 0, [], [], 0, 0⟩ : TRequest).bits.length ≤ 25 ∧ (⟨e1, tNext L (tStep L a 12) 70, tNext L (tStep L (tStep L a 12) 70) 26, 0, 0, [], [], 0, 0⟩ : TRequest).vals.length ≤ 25 ∧ 0 ≤ (⟨e1, tNext L (tStep L a 12) 70, tNext L (tStep L (tStep L a 12) 70) 26, 0, 0, [], [], 0, 0⟩ : TRequest).count ∧ (⟨e1, tNext L (tStep L a 12) 70, tNext L (tStep L (tStep L a 12) 70) 26, 0, 0, [], [], 0, 0⟩ : TRequest).count ≤ 25 := by
      refine ⟨(shapeR_iff (q := _) hfn).2 ?_, by simp; try omega, by simp; try omega, by simp; try omega, by simp; try omega⟩
      constructor
      case bits => simp only; first | rfl | (rw [if_neg (by omega), if_neg (by omega)]; rfl) | (rw [if_pos (by omega)]; rfl) | (rw [if_neg (by omega), if_pos (by omega)]; exact ⟨by omega, by omega⟩)
      case vals => simp only; first | rfl | (rw [if_neg (by omega), if_neg (by omega), if_neg (by omega)]; rfl) | (rw [if_pos (by omega)]; rfl) | (rw [if_neg (by omega), if_pos (by omega)]; exact ⟨by omega, by omega⟩) | (rw [if_neg (by omega), if_neg (by omega), if_pos (by omega)]; omega)
      all_goals first | (intro _; rfl) | (intro _; exact ⟨rfl, rfl⟩) | (simp only; omega) | (intro h; simp at h) | (intro h; exact absurd rfl h) | (simp; omega)
    exact fin_names (nx1 := 1) (H1 := [(0, .obj [pS 1 false encI L, pN (tStep L (tStep L (tStep L a 12) 70) 26)])]) [(0, 0)] (ret_cell tab_107 (by decide) rfl rfl (Nat.le_of_ble_eq_true rfl) rfl ret_nil) rfl (by decide) ⟨⟨_, _, rfl, rfl, rfl, rfl⟩, trivial⟩ (by decide) rfl ⟨((⟨e1, tNext L (tStep L a 12) 70, tNext L (tStep L (tStep L a 12) 70) 26, 0, 0, [], [], 0, 0⟩ : TRequest)), (tStep L (tStep L (tStep L a 12) 70) 26), hex, rfl, rfl, rfl⟩
   ·
    have c3_ := c3
    try simp only [sB] at c3
    refine w_R ?_
    refine qo hnt rfl (s_eql rfl rfl ?_)
    refine qa hnt rfl rfl ?_
    refine r_end ?_
    refine q_then ?_
    refine w_if rfl (fun c4 => ?_) (fun c4 => ?_)
    ·
     have c4_ := c4
     try simp only [sB] at c4
     have h26 := tNext_lt L (tStep L (tStep L a 12) 70) (n := 26) (by decide)
     refine w_R ?_
     refine qm hnt rfl rfl ?_
     refine qm hnt rfl rfl ?_
     refine qo hnt rfl (s_callX (r2 := pI (tNext L (tStep L (tStep L a 12) 70) 26)) (nx1 := 4) (H2 := [(0, .obj [pS 1 false encI L, pN (tStep L (tStep L a 12) 70)]), (3, .obj [pI e1, pI 0, pI 0, pI 0, pI 0, pNil, pNil, p16 0, p16 0]), (2, oB true 1 encI fnsL), (1, .obj [pI 0, pI 0, pI 0, pI 0, pI 0, pNil, pNil, p16 0, p16 0])]) (H3 := [(0, .obj [pS 1 false encI L, pN (tStep L (tStep L (tStep L a 12) 70) 26)]), (3, .obj [pI e1, pI 0, pI 0, pI 0, pI 0, pNil, pNil, p16 0, p16 0]), (2, oB true 1 encI fnsL), (1, .obj [pI 0, pI 0, pI 0, pI 0, pI 0, pNil, pNil, p16 0, p16 0])]) [0] [.obj [pS 1 false encI L, pN (tStep L (tStep L a 12) 70)]] rfl rfl rfl (handed_of (by decide) ⟨rfl, trivial⟩) rfl rfl rfl rfl rfl rfl (w_burgagekeep_Tape_Next L false (tStep L (tStep L a 12) 70) 26 (by first | omega | assumption | (simp; omega) | decide | (simp; done)) (by first | omega | assumption | (simp; omega) | decide | (simp; done))) rfl (dist_of rfl) rfl rfl rfl rfl ?_)
     refine qo hnt rfl (s_fa_ptr tab_107 rfl rfl tab_3 (by decide) rfl ?_)
     refine qo hnt rfl (s_store_ptr tab_3 rfl rfl rfl rfl rfl (Nat.le_of_ble_eq_true rfl) ?_)
     refine qo hnt rfl (s_fa_ptr tab_107 rfl rfl tab_3 (by decide) rfl ?_)
     refine qo hnt rfl (s_store_ptr tab_3 rfl rfl rfl rfl rfl (Nat.le_of_ble_eq_true rfl) ?_)
     refine r_set [(2, PV.ptr 1 0), (3, PV.ptr 3 0)] [(3, .obj [pI e1, pI (tNext L (tStep L a 12) 70), pI (tNext L (tStep L (tStep L a 12) 70) 26), pI 0, pI 0, pNil, pNil, p16 0, p16 0]), (0, .obj [pS 1 false encI L, pN (tStep L (tStep L (tStep L a 12) 70) 26)]), (2, oB true 1 encI fnsL), (1, .obj [pI 0, pI 0, pI 0, pI 0, pI 0, pNil, pNil, p16 0, p16 0])] 4 ⟨rfl, rfl, trivial⟩ rfl rfl ?_
     refine r_end ?_
     refine q_block ?_
     refine q_then ?_
     refine w_seq ?_
     refine w_R ?_
     refine qo hnt rfl (s_load_ptr tab_107 rfl rfl rfl (Nat.le_of_ble_eq_true rfl) ?_)
     refine qo hnt rfl (s_store_ptr tab_107 rfl rfl rfl rfl rfl (Nat.le_of_ble_eq_true rfl) ?_)
     refine r_set [(2, PV.ptr 1 0)] [(1, .obj [pI e1, pI (tNext L (tStep L a 12) 70), pI (tNext L (tStep L (tStep L a 12) 70) 26), pI 0, pI 0, pNil, pNil, p16 0, p16 0]), (3, .obj [pI e1, pI (tNext L (tStep L a 12) 70), pI (tNext L (tStep L (tStep L a 12) 70) 26), pI 0, pI 0, pNil, pNil, p16 0, p16 0]), (0, .obj [pS 1 false encI L, pN (tStep L (tStep L (tStep L a 12) 70) 26)]), (2, oB true 1 encI fnsL)] 4 ⟨rfl, trivial⟩ rfl rfl ?_
     refine r_end ?_
     refine q_then ?_
     refine w_leC (n := 1) (j := 5) (y := pS 1 false encBo []) rfl rfl (le_nilS 1 false) ?_
     refine w_leC (n := 1) (j := 6) (y := pS 1 false enc16 []) rfl rfl (le_nilS 1 false) ?_
     refine w_ret ?_
     have hex : rightR (⟨e1, tNext L (tStep L a 12) 70, tNext L (tStep L (tStep L a 12) 70) 26, 0, 0, [], [], 0, 0⟩ : TRequest) = 0 ∧ (⟨e1, tNext L (tStep L a 12) 70, tNext L (tStep L (tStep L a 12) 70) 26, 0, 0, [], [], 0, 0⟩ : TRequest).bits.length ≤ 25 ∧ (⟨e1, tNext L (tStep L a 12) 70, tNext L (tStep L (tStep L a 12) 70) 26, 0, 0, [], [], 0, 0⟩ : TRequest).vals.length ≤ 25 ∧ 0 ≤ (⟨e1, tNext L (tStep L a 12) 70, tNext L (tStep L (tStep L a 12) 70) 26, 0, 0, [], [], 0, 0⟩ : TRequest).count ∧ (⟨e1, tNext L (tStep L a 12) 70, tNext L (tStep L (tStep L a 12) 70) 26, 0, 0, [], [], 0, 0⟩ : TRequest).count ≤ 25 := by
       refine ⟨(shapeR_iff (q := _) hfn).2 ?_, by simp; try omega, by simp; try omega, by simp; try omega, by simp; try omega⟩
       constructor
       case bits => simp only; first | rfl | (rw [if_neg (by omega), if_neg (by omega)]; rfl) | (rw [if_pos (by omega)]; rfl) | (rw [if_neg (by omega), if_pos (by omega)]; exact ⟨by omega, by omega⟩)
       case vals => simp only; first | rfl | (rw [if_neg (by omega), if_neg (by omega), if_neg (by omega)]; rfl) | (rw [if_pos (by omega)]; rfl) | (rw [if_neg (by omega), if_pos (by omega)]; exact ⟨by omega, by omega⟩) | (rw [if_neg (by omega), if_neg (by omega), if_pos (by omega)]; omega)
       all_goals first | (intro _; rfl) | (intro _; exact ⟨rfl, rfl⟩) | (simp only; omega) | (intro h; simp at h) | (intro h; exact absurd rfl h) | (simp; omega)
     exact fin_names (nx1 := 1) (H1 := [(0, .obj [pS 1 false encI L, pN (tStep L (tStep L (tStep L a 12) 70) 26)])]) [(0, 0)] (ret_cell tab_107 (by decide) rfl rfl (Nat.le_of_ble_eq_true rfl) rfl ret_nil) rfl (by decide) ⟨⟨_, _, rfl, rfl, rfl, rfl⟩, trivial⟩ (by decide) rfl ⟨((⟨e1, tNext L (tStep L a 12) 70, tNext L (tStep L (tStep L a 12) 70) 26, 0, 0, [], [], 0, 0⟩ : TRequest)), (tStep L (tStep L (tStep L a 12) 70) 26), hex, rfl, rfl, rfl⟩
    ·
     have c4_ := c4
     try simp only [sB] at c4
     refine w_seq ?_
     refine w_R ?_
     refine qo hnt rfl (s_eql rfl rfl ?_)
     refine qa hnt rfl rfl ?_
     refine r_end ?_
     refine q_then ?_
     refine w_if rfl (fun c5 => ?_) (fun c5 => ?_)
     ·
      have c5_ := c5
      try simp only [sB] at c5
      refine w_R ?_
      refine qm hnt rfl rfl ?_
      refine qm hnt rfl rfl ?_
      refine qo hnt rfl (s_callX (r2 := pI (tNext L (tStep L (tStep L a 12) 70) 2)) (nx1 := 4) (H2 := [(0, .obj [pS 1 false encI L, pN (tStep L (tStep L a 12) 70)]), (3, .obj [pI e1, pI 0, pI 0, pI 0, pI 0, pNil, pNil, p16 0, p16 0]), (2, oB true 1 encI fnsL), (1, .obj [pI 0, pI 0, pI 0, pI 0, pI 0, pNil, pNil, p16 0, p16 0])]) (H3 := [(0, .obj [pS 1 false encI L, pN (tStep L (tStep L (tStep L a 12) 70) 2)]), (3, .obj [pI e1, pI 0, pI 0, pI 0, pI 0, pNil, pNil, p16 0, p16 0]), (2, oB true 1 encI fnsL), (1, .obj [pI 0, pI 0, pI 0, pI 0, pI 0, pNil, pNil, p16 0, p16 0])]) [0] [.obj [pS 1 false encI L, pN (tStep L (tStep L a 12) 70)]] rfl rfl rfl (handed_of (by decide) ⟨rfl, trivial⟩) rfl rfl rfl rfl rfl rfl (w_burgagekeep_Tape_Next L false (tStep L (tStep L a 12) 70) 2 (by first | omega | assumption | (simp; omega) | decide | (simp; done)) (by first | omega | assumption | (simp; omega) | decide | (simp; done))) rfl (dist_of rfl) rfl rfl rfl rfl ?_)
      refine qo hnt rfl (s_eql rfl rfl ?_)
      refine qo hnt rfl (s_mkM (f := encBo) [decide (tNext L (tStep L (tStep L a 12) 70) 2 = 1)] tab_44 rfl tab_4 ⟨rfl, by decide⟩ (by decide) rfl rfl rfl rfl ?_)
      refine qo hnt rfl (s_fa_ptr tab_107 rfl rfl tab_3 (by decide) rfl ?_)
      refine qo hnt rfl (s_store_ptr tab_3 rfl rfl rfl rfl rfl (Nat.le_of_ble_eq_true rfl) ?_)
      refine qo hnt rfl (s_fa_ptr tab_107 rfl rfl tab_44 (by decide) rfl ?_)
      refine qo hnt rfl (s_store_ptr tab_44 rfl rfl rfl rfl rfl (Nat.le_of_ble_eq_true rfl) ?_)
      refine r_set [(2, PV.ptr 1 0), (3, PV.ptr 3 0)] [(3, .obj [pI e1, pI (tNext L (tStep L a 12) 70), pI 0, pI 0, pI 0, PV.ref 4 0 none, pNil, p16 0, p16 0]), (4, oB true 1 encBo [decide (tNext L (tStep L (tStep L a 12) 70) 2 = 1)]), (0, .obj [pS 1 false encI L, pN (tStep L (tStep L (tStep L a 12) 70) 2)]), (2, oB true 1 encI fnsL), (1, .obj [pI 0, pI 0, pI 0, pI 0, pI 0, pNil, pNil, p16 0, p16 0])] 5 ⟨rfl, rfl, trivial⟩ rfl rfl ?_
      refine r_end ?_
      refine q_block ?_
      refine q_then ?_
      refine w_seq ?_
      refine w_R ?_
      refine qo hnt rfl (s_load_ptr tab_107 rfl rfl rfl (Nat.le_of_ble_eq_true rfl) ?_)
      refine qo hnt rfl (s_store_ptr tab_107 rfl rfl rfl rfl rfl (Nat.le_of_ble_eq_true rfl) ?_)
      refine r_set [(2, PV.ptr 1 0)] [(1, .obj [pI e1, pI (tNext L (tStep L a 12) 70), pI 0, pI 0, pI 0, PV.ref 4 0 none, pNil, p16 0, p16 0]), (3, .obj [pI e1, pI (tNext L (tStep L a 12) 70), pI 0, pI 0, pI 0, PV.ref 4 0 none, pNil, p16 0, p16 0]), (4, oB true 1 encBo [decide (tNext L (tStep L (tStep L a 12) 70) 2 = 1)]), (0, .obj [pS 1 false encI L, pN (tStep L (tStep L (tStep L a 12) 70) 2)]), (2, oB true 1 encI fnsL)] 5 ⟨rfl, trivial⟩ rfl rfl ?_
      refine r_end ?_
      refine q_then ?_
      refine w_frzC (n := 1) (j := 5) rfl rfl rfl rfl ?_
      refine w_leC (n := 1) (j := 6) (y := pS 1 false enc16 []) rfl rfl (le_nilS 1 false) ?_
      refine w_ret ?_
      have hex : rightR (⟨e1, tNext L (tStep L a 12) 70, 0, 0, 0, [decide (tNext L (tStep L (tStep L a 12) 70) 2 = 1)], [], 0, 0⟩ : TRequest) = 0 ∧ (⟨e1, tNext L (tStep L a 12) 70, 0, 0, 0, [decide (tNext L (tStep L (tStep L a 12) 70) 2 = 1)], [], 0, 0⟩ : TRequest).bits.length ≤ 25 ∧ (⟨e1, tNext L (tStep L a 12) 70, 0, 0, 0, [decide (tNext L (tStep L (tStep L a 12) 70) 2 = 1)], [], 0, 0⟩ : TRequest).vals.length ≤ 25 ∧ 0 ≤ (⟨e1, tNext L (tStep L a 12) 70, 0, 0, 0, [decide (tNext L (tStep L (tStep L a 12) 70) 2 = 1)], [], 0, 0⟩ : TRequest).count ∧ (⟨e1, tNext L (tStep L a 12) 70, 0, 0, 0, [decide (tNext L (tStep L (tStep L a 12) 70) 2 = 1)], [], 0, 0⟩ : TRequest).count ≤ 25 := by
        refine ⟨(shapeR_iff (q := _) hfn).2 ?_, by simp; try omega, by simp; try omega, by simp; try omega, by simp; try omega⟩
        constructor
        case bits => simp only; first | rfl | (rw [if_neg (by omega), if_neg (by omega)]; rfl) | (rw [if_pos (by omega)]; rfl) | (rw [if_neg (by omega), if_pos (by omega)]; exact ⟨by omega, by omega⟩)
        case vals => simp only; first | rfl | (rw [if_neg (by omega), if_neg (by omega), if_neg (by omega)]; rfl) | (rw [if_pos (by omega)]; rfl) | (rw [if_neg (by omega), if_pos (by omega)]; exact ⟨by omega, by omega⟩) | (rw [if_neg (by omega), if_neg (by omega), if_pos (by omega)]; omega)
        all_goals first | (intro _; rfl) | (intro _; exact ⟨rfl, rfl⟩) | (simp only; omega) | (intro h; simp at h) | (intro h; exact absurd rfl h) | (simp; omega)
      exact fin_names (nx1 := 1) (H1 := [(0, .obj [pS 1 false encI L, pN (tStep L (tStep L (tStep L a 12) 70) 2)])]) [(0, 0)] (ret_cell tab_107 (by decide) rfl rfl (Nat.le_of_ble_eq_true rfl) rfl ret_nil) rfl (by decide) ⟨⟨_, _, rfl, rfl, rfl, rfl⟩, trivial⟩ (by decide) rfl ⟨((⟨e1, tNext L (tStep L a 12) 70, 0, 0, 0, [decide (tNext L (tStep L (tStep L a 12) 70) 2 = 1)], [], 0, 0⟩ : TRequest)), (tStep L (tStep L (tStep L a 12) 70) 2), hex, rfl, rfl, rfl⟩
     ·
      have c5_ := c5
      try simp only [sB] at c5
      refine w_seq ?_
      refine w_R ?_
      refine qo hnt rfl (s_eql rfl rfl ?_)
      refine qa hnt rfl rfl ?_
      refine r_end ?_
      refine q_then ?_
      refine w_if rfl (fun c6 => ?_) (fun c6 => ?_)
      ·
       have c6_ := c6
       try simp only [sB] at c6
       refine w_R ?_
       refine qm hnt rfl rfl ?_
       refine qm hnt rfl rfl ?_
       refine qo hnt rfl (s_callX (r2 := pI (tNext L (tStep L (tStep L a 12) 70) 65536)) (nx1 := 4) (H2 := [(0, .obj [pS 1 false encI L, pN (tStep L (tStep L a 12) 70)]), (3, .obj [pI e1, pI 0, pI 0, pI 0, pI 0, pNil, pNil, p16 0, p16 0]), (2, oB true 1 encI fnsL), (1, .obj [pI 0, pI 0, pI 0, pI 0, pI 0, pNil, pNil, p16 0, p16 0])]) (H3 := [(0, .obj [pS 1 false encI L, pN (tStep L (tStep L (tStep L a 12) 70) 65536)]), (3, .obj [pI e1, pI 0, pI 0, pI 0, pI 0, pNil, pNil, p16 0, p16 0]), (2, oB true 1 encI fnsL), (1, .obj [pI 0, pI 0, pI 0, pI 0, pI 0, pNil, pNil, p16 0, p16 0])]) [0] [.obj [pS 1 false encI L, pN (tStep L (tStep L a 12) 70)]] rfl rfl rfl (handed_of (by decide) ⟨rfl, trivial⟩) rfl rfl rfl rfl rfl rfl (w_burgagekeep_Tape_Next L false (tStep L (tStep L a 12) 70) 65536 (by first | omega | assumption | (simp; omega) | decide | (simp; done)) (by first | omega | assumption | (simp; omega) | decide | (simp; done))) rfl (dist_of rfl) rfl rfl rfl rfl ?_)
       refine qo hnt rfl (s_cv16 tab_3 tab_47 rfl rfl rfl ?_)
       refine qo hnt rfl (s_mkM (f := enc16) [u16I (tNext L (tStep L (tStep L a 12) 70) 65536)] tab_45 rfl tab_47 ⟨rfl, by decide⟩ (by decide) rfl rfl rfl rfl ?_)
       refine qo hnt rfl (s_fa_ptr tab_107 rfl rfl tab_3 (by decide) rfl ?_)
       refine qo hnt rfl (s_store_ptr tab_3 rfl rfl rfl rfl rfl (Nat.le_of_ble_eq_true rfl) ?_)
       refine qo hnt rfl (s_fa_ptr tab_107 rfl rfl tab_45 (by decide) rfl ?_)
       refine qo hnt rfl (s_store_ptr tab_45 rfl rfl rfl rfl rfl (Nat.le_of_ble_eq_true rfl) ?_)
       refine r_set [(2, PV.ptr 1 0), (3, PV.ptr 3 0)] [(3, .obj [pI e1, pI (tNext L (tStep L a 12) 70), pI 0, pI 0, pI 0, pNil, PV.ref 4 0 none, p16 0, p16 0]), (4, oB true 1 enc16 [u16I (tNext L (tStep L (tStep L a 12) 70) 65536)]), (0, .obj [pS 1 false encI L, pN (tStep L (tStep L (tStep L a 12) 70) 65536)]), (2, oB true 1 encI fnsL), (1, .obj [pI 0, pI 0, pI 0, pI 0, pI 0, pNil, pNil, p16 0, p16 0])] 5 ⟨rfl, rfl, trivial⟩ rfl rfl ?_
       refine r_end ?_
       refine q_block ?_
       refine q_then ?_
       refine w_seq ?_
       refine w_R ?_
       refine qo hnt rfl (s_load_ptr tab_107 rfl rfl rfl (Nat.le_of_ble_eq_true rfl) ?_)
       refine qo hnt rfl (s_store_ptr tab_107 rfl rfl rfl rfl rfl (Nat.le_of_ble_eq_true rfl) ?_)
       refine r_set [(2, PV.ptr 1 0)] [(1, .obj [pI e1, pI (tNext L (tStep L a 12) 70), pI 0, pI 0, pI 0, pNil, PV.ref 4 0 none, p16 0, p16 0]), (3, .obj [pI e1, pI (tNext L (tStep L a 12) 70), pI 0, pI 0, pI 0, pNil, PV.ref 4 0 none, p16 0, p16 0]), (4, oB true 1 enc16 [u16I (tNext L (tStep L (tStep L a 12) 70) 65536)]), (0, .obj [pS 1 false encI L, pN (tStep L (tStep L (tStep L a 12) 70) 65536)]), (2, oB true 1 encI fnsL)] 5 ⟨rfl, trivial⟩ rfl rfl ?_
       refine r_end ?_
       refine q_then ?_
       refine w_leC (n := 1) (j := 5) (y := pS 1 false encBo []) rfl rfl (le_nilS 1 false) ?_
       refine w_frzC (n := 1) (j := 6) rfl rfl rfl rfl ?_
       refine w_ret ?_
       have hex : rightR (⟨e1, tNext L (tStep L a 12) 70, 0, 0, 0, [], [u16I (tNext L (tStep L (tStep L a 12) 70) 65536)], 0, 0⟩ : TRequest) = 0 ∧ (⟨e1, tNext L (tStep L a 12) 70, 0, 0, 0, [], [u16I (tNext L (tStep L (tStep L a 12) 70) 65536)], 0, 0⟩ : TRequest).bits.length ≤ 25 ∧ (⟨e1, tNext L (tStep L a 12) 70, 0, 0, 0, [], [u16I (tNext L (tStep L (tStep L a 12) 70) 65536)], 0, 0⟩ : TRequest).vals.length ≤ 25 ∧ 0 ≤ (⟨e1, tNext L (tStep L a 12) 70, 0, 0, 0, [], [u16I (tNext L (tStep L (tStep L a 12) 70) 65536)], 0, 0⟩ : TRequest).count ∧ (⟨e1, tNext L (tStep L a 12) 70, 0, 0, 0, [], [u16I (tNext L (tStep L (tStep L a 12) 70) 65536)], 0, 0⟩ : TRequest).count ≤ 25 := by
         refine ⟨(shapeR_iff (q := _) hfn).2 ?_, by simp; try omega, by simp; try omega, by simp; try omega, by simp; try omega⟩
         constructor
         case bits => simp only; first | rfl | (rw [if_neg (by omega), if_neg (by omega)]; rfl) | (rw [if_pos (by omega)]; rfl) | (rw [if_neg (by omega), if_pos (by omega)]; exact ⟨by omega, by omega⟩)
         case vals => simp only; first | rfl | (rw [if_neg (by omega), if_neg (by omega), if_neg (by omega)]; rfl) | (rw [if_pos (by omega)]; rfl) | (rw [if_neg (by omega), if_pos (by omega)]; exact ⟨by omega, by omega⟩) | (rw [if_neg (by omega), if_neg (by omega), if_pos (by omega)]; omega)
         all_goals first | (intro _; rfl) | (intro _; exact ⟨rfl, rfl⟩) | (simp only; omega) | (intro h; simp at h) | (intro h; exact absurd rfl h) | (simp; omega)
       exact fin_names (nx1 := 1) (H1 := [(0, .obj [pS 1 false encI L, pN (tStep L (tStep L (tStep L a 12) 70) 65536)])]) [(0, 0)] (ret_cell tab_107 (by decide) rfl rfl (Nat.le_of_ble_eq_true rfl) rfl ret_nil) rfl (by decide) ⟨⟨_, _, rfl, rfl, rfl, rfl⟩, trivial⟩ (by decide) rfl ⟨((⟨e1, tNext L (tStep L a 12) 70, 0, 0, 0, [], [u16I (tNext L (tStep L (tStep L a 12) 70) 65536)], 0, 0⟩ : TRequest)), (tStep L (tStep L (tStep L a 12) 70) 65536), hex, rfl, rfl, rfl⟩
      ·
       have c6_ := c6
       try simp only [sB] at c6
       refine w_seq ?_
       refine w_R ?_
       refine qo hnt rfl (s_eql rfl rfl ?_)
       refine qa hnt rfl rfl ?_
       refine r_end ?_
       refine q_then ?_
       refine w_if rfl (fun c7 => ?_) (fun c7 => ?_)
       ·
        have c7_ := c7
        try simp only [sB] at c7
        have h8 := tNext_lt L (tStep L (tStep L a 12) 70) (n := 8) (by decide)
        have h4 := tNext_lt L (tStep L (tStep L (tStep L a 12) 70) 8) (n := 4) (by decide)
        refine W_drawn tabOk mixed hnt [[], [], [1], [0, 1, 2], [0, 1, 2, 3], [], [], [1, 2, 6], [1, 2, 5, 6, 7], [1, 2, 5, 6, 7, 8], [1, 2, 5, 6, 7, 8, 9], [0, 1, 2, 3, 4], [0, 1, 2, 3, 4, 6, 7, 11], [0, 1, 2, 3, 4, 5, 6, 7, 8, 9, 10, 11, 12], [0, 1, 2, 3, 4, 5, 6, 7, 8, 9, 10, 11, 12, 13]] (by kernel_rfl) ?_
        refine d_op ?_
        refine x_run [] [] [] [] [(4, oB true 1 encI ([0, 10, 11, 12, 13, 14, 2, 300] : List Int))] [(4, oB true 1 encI ([0, 10, 11, 12, 13, 14, 2, 300] : List Int))] [(4, oB true 1 encI ([0, 10, 11, 12, 13, 14, 2, 300] : List Int)), (0, .obj [pS 1 false encI L, pN (tStep L (tStep L a 12) 70)]), (3, .obj [pI e1, pI 0, pI 0, pI 0, pI 0, pNil, pNil, p16 0, p16 0]), (2, oB true 1 encI fnsL), (1, .obj [pI 0, pI 0, pI 0, pI 0, pI 0, pNil, pNil, p16 0, p16 0])] rfl rfl rfl rfl rfl rfl (s_mkM (f := encI) ([0, 10, 11, 12, 13, 14, 2, 300] : List Int) tab_22 rfl tab_3 ⟨rfl, by decide⟩ (by decide) rfl rfl rfl rfl ⟨rfl, rfl, rfl⟩) rfl trivial rfl rfl ?_
        refine d_op ?_
        refine x_run0 [(0, PV.ptr 0 0)] [] rfl rfl rfl rfl (s_move rfl ⟨rfl, rfl, rfl⟩) ?_
        refine d_op ?_
        refine x_run [(49, PV.ptr 0 0)] [1] [] [(0, .obj [pS 1 false encI L, pN (tStep L (tStep L a 12) 70)])] [(0, .obj [pS 1 false encI L, pN (tStep L (tStep L (tStep L a 12) 70) 8)])] [(0, .obj [pS 1 false encI L, pN (tStep L (tStep L (tStep L a 12) 70) 8)])] [(0, .obj [pS 1 false encI L, pN (tStep L (tStep L (tStep L a 12) 70) 8)]), (4, oB true 1 encI ([0, 10, 11, 12, 13, 14, 2, 300] : List Int)), (3, .obj [pI e1, pI 0, pI 0, pI 0, pI 0, pNil, pNil, p16 0, p16 0]), (2, oB true 1 encI fnsL), (1, .obj [pI 0, pI 0, pI 0, pI 0, pI 0, pNil, pNil, p16 0, p16 0])] rfl rfl rfl rfl rfl rfl (s_callX (r2 := pI (tNext L (tStep L (tStep L a 12) 70) 8)) (nx1 := 5) (H2 := [(0, .obj [pS 1 false encI L, pN (tStep L (tStep L a 12) 70)])]) (H3 := [(0, .obj [pS 1 false encI L, pN (tStep L (tStep L (tStep L a 12) 70) 8)])]) [0] [.obj [pS 1 false encI L, pN (tStep L (tStep L a 12) 70)]] rfl rfl rfl (handed_of (by decide) ⟨rfl, trivial⟩) rfl rfl rfl rfl rfl rfl (w_burgagekeep_Tape_Next L false (tStep L (tStep L a 12) 70) 8 (by first | omega | assumption | (simp; omega) | decide | (simp; done)) (by first | omega | assumption | (simp; omega) | decide | (simp; done))) rfl (dist_of rfl) rfl rfl rfl rfl ⟨rfl, rfl, rfl⟩) rfl trivial rfl rfl ?_
        refine d_op ?_
        refine x_run [(48, PV.ref 4 0 none), (50, pI (tNext L (tStep L (tStep L a 12) 70) 8))] [0, 1, 2] [(4, oB true 1 encI ([0, 10, 11, 12, 13, 14, 2, 300] : List Int))] [] [(4, oB true 1 encI ([0, 10, 11, 12, 13, 14, 2, 300] : List Int))] [] [(0, .obj [pS 1 false encI L, pN (tStep L (tStep L (tStep L a 12) 70) 8)]), (4, oB true 1 encI ([0, 10, 11, 12, 13, 14, 2, 300] : List Int)), (3, .obj [pI e1, pI 0, pI 0, pI 0, pI 0, pNil, pNil, p16 0, p16 0]), (2, oB true 1 encI fnsL), (1, .obj [pI 0, pI 0, pI 0, pI 0, pI 0, pNil, pNil, p16 0, p16 0])] rfl rfl rfl rfl rfl rfl (s_iaR0 (q := Int.toNat (tNext L (tStep L (tStep L a 12) 70) 8)) (f := encI) (l := ([0, 10, 11, 12, 13, 14, 2, 300] : List Int)) tab_22 rfl tab_3 rfl rfl (by omega) rfl rfl (by simp; omega) ⟨rfl, rfl, rfl⟩) rfl ⟨rfl, trivial⟩ rfl rfl ?_
        refine d_op ?_
        obtain ⟨e2, he2⟩ := get_of_lt ([0, 10, 11, 12, 13, 14, 2, 300] : List Int) (i := Int.toNat (tNext L (tStep L (tStep L a 12) 70) 8)) (by simp; omega)
        refine x_run [(51, PV.ep 4 (Int.toNat (tNext L (tStep L (tStep L a 12) 70) 8)) 0)] [0, 1, 2, 3] [(4, oB true 1 encI ([0, 10, 11, 12, 13, 14, 2, 300] : List Int))] [] [(4, oB true 1 encI ([0, 10, 11, 12, 13, 14, 2, 300] : List Int))] [] [(0, .obj [pS 1 false encI L, pN (tStep L (tStep L (tStep L a 12) 70) 8)]), (4, oB true 1 encI ([0, 10, 11, 12, 13, 14, 2, 300] : List Int)), (3, .obj [pI e1, pI 0, pI 0, pI 0, pI 0, pNil, pNil, p16 0, p16 0]), (2, oB true 1 encI fnsL), (1, .obj [pI 0, pI 0, pI 0, pI 0, pI 0, pNil, pNil, p16 0, p16 0])] rfl rfl rfl rfl rfl rfl (s_ldM (b := e2) (f := encI) tab_3 rfl rfl rfl rfl he2 rfl ⟨rfl, rfl, rfl⟩) rfl ⟨rfl, trivial⟩ rfl rfl ?_
        have hm2 := List.mem_of_getElem? he2
        simp only [List.mem_cons, List.not_mem_nil, or_false] at hm2
        refine d_op ?_
        refine x_run [] [] [] [] [(5, oB true 1 enc16 ([0, 0, 0, 777] : List UInt16))] [(5, oB true 1 enc16 ([0, 0, 0, 777] : List UInt16))] [(5, oB true 1 enc16 ([0, 0, 0, 777] : List UInt16)), (0, .obj [pS 1 false encI L, pN (tStep L (tStep L (tStep L a 12) 70) 8)]), (4, oB true 1 encI ([0, 10, 11, 12, 13, 14, 2, 300] : List Int)), (3, .obj [pI e1, pI 0, pI 0, pI 0, pI 0, pNil, pNil, p16 0, p16 0]), (2, oB true 1 encI fnsL), (1, .obj [pI 0, pI 0, pI 0, pI 0, pI 0, pNil, pNil, p16 0, p16 0])] rfl rfl rfl rfl rfl rfl (s_mkM (f := enc16) ([0, 0, 0, 777] : List UInt16) tab_45 rfl tab_47 ⟨rfl, by decide⟩ (by decide) rfl rfl rfl rfl ⟨rfl, rfl, rfl⟩) rfl trivial rfl rfl ?_
        refine d_op ?_
        refine x_run0 [(0, PV.ptr 0 0)] [] rfl rfl rfl rfl (s_move rfl ⟨rfl, rfl, rfl⟩) ?_
        refine d_op ?_
        refine x_run [(54, PV.ptr 0 0)] [1, 2, 6] [] [(0, .obj [pS 1 false encI L, pN (tStep L (tStep L (tStep L a 12) 70) 8)])] [(0, .obj [pS 1 false encI L, pN (tStep L (tStep L (tStep L (tStep L a 12) 70) 8) 4)])] [(0, .obj [pS 1 false encI L, pN (tStep L (tStep L (tStep L (tStep L a 12) 70) 8) 4)])] [(0, .obj [pS 1 false encI L, pN (tStep L (tStep L (tStep L (tStep L a 12) 70) 8) 4)]), (5, oB true 1 enc16 ([0, 0, 0, 777] : List UInt16)), (4, oB true 1 encI ([0, 10, 11, 12, 13, 14, 2, 300] : List Int)), (3, .obj [pI e1, pI 0, pI 0, pI 0, pI 0, pNil, pNil, p16 0, p16 0]), (2, oB true 1 encI fnsL), (1, .obj [pI 0, pI 0, pI 0, pI 0, pI 0, pNil, pNil, p16 0, p16 0])] rfl rfl rfl rfl rfl rfl (s_callX (r2 := pI (tNext L (tStep L (tStep L (tStep L a 12) 70) 8) 4)) (nx1 := 6) (H2 := [(0, .obj [pS 1 false encI L, pN (tStep L (tStep L (tStep L a 12) 70) 8)])]) (H3 := [(0, .obj [pS 1 false encI L, pN (tStep L (tStep L (tStep L (tStep L a 12) 70) 8) 4)])]) [0] [.obj [pS 1 false encI L, pN (tStep L (tStep L (tStep L a 12) 70) 8)]] rfl rfl rfl (handed_of (by decide) ⟨rfl, trivial⟩) rfl rfl rfl rfl rfl rfl (w_burgagekeep_Tape_Next L false (tStep L (tStep L (tStep L a 12) 70) 8) 4 (by first | omega | assumption | (simp; omega) | decide | (simp; done)) (by first | omega | assumption | (simp; omega) | decide | (simp; done))) rfl (dist_of rfl) rfl rfl rfl rfl ⟨rfl, rfl, rfl⟩) rfl trivial rfl rfl ?_
        refine d_op ?_
        refine x_run [(53, PV.ref 5 0 none), (55, pI (tNext L (tStep L (tStep L (tStep L a 12) 70) 8) 4))] [1, 2, 5, 6, 7] [(5, oB true 1 enc16 ([0, 0, 0, 777] : List UInt16))] [] [(5, oB true 1 enc16 ([0, 0, 0, 777] : List UInt16))] [] [(0, .obj [pS 1 false encI L, pN (tStep L (tStep L (tStep L (tStep L a 12) 70) 8) 4)]), (5, oB true 1 enc16 ([0, 0, 0, 777] : List UInt16)), (4, oB true 1 encI ([0, 10, 11, 12, 13, 14, 2, 300] : List Int)), (3, .obj [pI e1, pI 0, pI 0, pI 0, pI 0, pNil, pNil, p16 0, p16 0]), (2, oB true 1 encI fnsL), (1, .obj [pI 0, pI 0, pI 0, pI 0, pI 0, pNil, pNil, p16 0, p16 0])] rfl rfl rfl rfl rfl rfl (s_iaR0 (q := Int.toNat (tNext L (tStep L (tStep L (tStep L a 12) 70) 8) 4)) (f := enc16) (l := ([0, 0, 0, 777] : List UInt16)) tab_45 rfl tab_47 rfl rfl (by omega) rfl rfl (by simp; omega) ⟨rfl, rfl, rfl⟩) rfl ⟨rfl, trivial⟩ rfl rfl ?_
        refine d_op ?_
        obtain ⟨e3, he3⟩ := get_of_lt ([0, 0, 0, 777] : List UInt16) (i := Int.toNat (tNext L (tStep L (tStep L (tStep L a 12) 70) 8) 4)) (by simp; omega)
        refine x_run [(56, PV.ep 5 (Int.toNat (tNext L (tStep L (tStep L (tStep L a 12) 70) 8) 4)) 0)] [1, 2, 5, 6, 7, 8] [(5, oB true 1 enc16 ([0, 0, 0, 777] : List UInt16))] [] [(5, oB true 1 enc16 ([0, 0, 0, 777] : List UInt16))] [] [(0, .obj [pS 1 false encI L, pN (tStep L (tStep L (tStep L (tStep L a 12) 70) 8) 4)]), (5, oB true 1 enc16 ([0, 0, 0, 777] : List UInt16)), (4, oB true 1 encI ([0, 10, 11, 12, 13, 14, 2, 300] : List Int)), (3, .obj [pI e1, pI 0, pI 0, pI 0, pI 0, pNil, pNil, p16 0, p16 0]), (2, oB true 1 encI fnsL), (1, .obj [pI 0, pI 0, pI 0, pI 0, pI 0, pNil, pNil, p16 0, p16 0])] rfl rfl rfl rfl rfl rfl (s_ldM (b := e3) (f := enc16) tab_47 rfl rfl rfl rfl he3 rfl ⟨rfl, rfl, rfl⟩) rfl ⟨rfl, trivial⟩ rfl rfl ?_
        refine d_op ?_
        refine x_run [(57, p16 e3)] [1, 2, 5, 6, 7, 8, 9] [] [] [(6, oB true 1 enc16 [e3])] [(6, oB true 1 enc16 [e3])] [(6, oB true 1 enc16 [e3]), (0, .obj [pS 1 false encI L, pN (tStep L (tStep L (tStep L (tStep L a 12) 70) 8) 4)]), (5, oB true 1 enc16 ([0, 0, 0, 777] : List UInt16)), (4, oB true 1 encI ([0, 10, 11, 12, 13, 14, 2, 300] : List Int)), (3, .obj [pI e1, pI 0, pI 0, pI 0, pI 0, pNil, pNil, p16 0, p16 0]), (2, oB true 1 encI fnsL), (1, .obj [pI 0, pI 0, pI 0, pI 0, pI 0, pNil, pNil, p16 0, p16 0])] rfl rfl rfl rfl rfl rfl (s_mkM (f := enc16) [e3] tab_45 rfl tab_47 ⟨rfl, by decide⟩ (by decide) rfl rfl rfl rfl ⟨rfl, rfl, rfl⟩) rfl trivial rfl rfl ?_
        refine d_op ?_
        refine x_run0 [(3, PV.ptr 3 0)] [0, 1, 2, 3, 4] rfl rfl rfl rfl (s_fa_ptr tab_107 rfl rfl tab_3 (by decide) rfl ⟨rfl, rfl, rfl⟩) ?_
        refine d_op ?_
        refine x_run [(59, PV.ptr 3 4), (52, pI e2)] [0, 1, 2, 3, 4, 6, 7, 11] [] [(3, .obj [pI e1, pI 0, pI 0, pI 0, pI 0, pNil, pNil, p16 0, p16 0])] [(3, .obj [pI e1, pI 0, pI 0, pI 0, pI e2, pNil, pNil, p16 0, p16 0])] [(3, .obj [pI e1, pI 0, pI 0, pI 0, pI e2, pNil, pNil, p16 0, p16 0])] [(3, .obj [pI e1, pI 0, pI 0, pI 0, pI e2, pNil, pNil, p16 0, p16 0]), (6, oB true 1 enc16 [e3]), (0, .obj [pS 1 false encI L, pN (tStep L (tStep L (tStep L (tStep L a 12) 70) 8) 4)]), (5, oB true 1 enc16 ([0, 0, 0, 777] : List UInt16)), (4, oB true 1 encI ([0, 10, 11, 12, 13, 14, 2, 300] : List Int)), (2, oB true 1 encI fnsL), (1, .obj [pI 0, pI 0, pI 0, pI 0, pI 0, pNil, pNil, p16 0, p16 0])] rfl rfl rfl rfl rfl rfl (s_store_ptr tab_3 rfl rfl rfl rfl rfl (Nat.le_of_ble_eq_true rfl) ⟨rfl, rfl, rfl⟩) rfl trivial rfl rfl ?_
        refine d_op ?_
        refine x_run0 [(3, PV.ptr 3 0)] [0, 1, 2, 3, 4, 5, 6, 7, 8, 9, 10, 11, 12] rfl rfl rfl rfl (s_fa_ptr tab_107 rfl rfl tab_45 (by decide) rfl ⟨rfl, rfl, rfl⟩) ?_
        refine d_op ?_
        refine x_run [(60, PV.ptr 3 6), (58, PV.ref 6 0 none)] [0, 1, 2, 3, 4, 5, 6, 7, 8, 9, 10, 11, 12, 13] [] [(3, .obj [pI e1, pI 0, pI 0, pI 0, pI e2, pNil, pNil, p16 0, p16 0])] [(3, .obj [pI e1, pI 0, pI 0, pI 0, pI e2, pNil, PV.ref 6 0 none, p16 0, p16 0])] [(3, .obj [pI e1, pI 0, pI 0, pI 0, pI e2, pNil, PV.ref 6 0 none, p16 0, p16 0])] [(3, .obj [pI e1, pI 0, pI 0, pI 0, pI e2, pNil, PV.ref 6 0 none, p16 0, p16 0]), (6, oB true 1 enc16 [e3]), (0, .obj [pS 1 false encI L, pN (tStep L (tStep L (tStep L (tStep L a 12) 70) 8) 4)]), (5, oB true 1 enc16 ([0, 0, 0, 777] : List UInt16)), (4, oB true 1 encI ([0, 10, 11, 12, 13, 14, 2, 300] : List Int)), (2, oB true 1 encI fnsL), (1, .obj [pI 0, pI 0, pI 0, pI 0, pI 0, pNil, pNil, p16 0, p16 0])] rfl rfl rfl rfl rfl rfl (s_store_ptr tab_45 rfl rfl rfl rfl rfl (Nat.le_of_ble_eq_true rfl) ⟨rfl, rfl, rfl⟩) rfl trivial rfl rfl ?_
        refine d_end ⟨by kernel_rfl, ?_⟩
        refine q_block ?_
        refine q_then ?_
        refine w_seq ?_
        refine w_R ?_
        refine qo hnt rfl (s_load_ptr tab_107 rfl rfl rfl (Nat.le_of_ble_eq_true rfl) ?_)
        refine qo hnt rfl (s_store_ptr tab_107 rfl rfl rfl rfl rfl (Nat.le_of_ble_eq_true rfl) ?_)
        refine r_set [(2, PV.ptr 1 0)] [(1, .obj [pI e1, pI 0, pI 0, pI 0, pI e2, pNil, PV.ref 6 0 none, p16 0, p16 0]), (3, .obj [pI e1, pI 0, pI 0, pI 0, pI e2, pNil, PV.ref 6 0 none, p16 0, p16 0]), (6, oB true 1 enc16 [e3]), (0, .obj [pS 1 false encI L, pN (tStep L (tStep L (tStep L (tStep L a 12) 70) 8) 4)]), (5, oB true 1 enc16 ([0, 0, 0, 777] : List UInt16)), (4, oB true 1 encI ([0, 10, 11, 12, 13, 14, 2, 300] : List Int)), (2, oB true 1 encI fnsL)] 7 ⟨rfl, trivial⟩ rfl rfl ?_
        refine r_end ?_
        refine q_then ?_
        refine w_leC (n := 1) (j := 5) (y := pS 1 false encBo []) rfl rfl (le_nilS 1 false) ?_
        refine w_frzC (n := 1) (j := 6) rfl rfl rfl rfl ?_
        refine w_ret ?_
        have hex : rightR (⟨e1, 0, 0, 0, e2, [], [e3], 0, 0⟩ : TRequest) = 0 ∧ (⟨e1, 0, 0, 0, e2, [], [e3], 0, 0⟩ : TRequest).bits.length ≤ 25 ∧ (⟨e1, 0, 0, 0, e2, [], [e3], 0, 0⟩ : TRequest).vals.length ≤ 25 ∧ 0 ≤ (⟨e1, 0, 0, 0, e2, [], [e3], 0, 0⟩ : TRequest).count ∧ (⟨e1, 0, 0, 0, e2, [], [e3], 0, 0⟩ : TRequest).count ≤ 25 := by
          refine ⟨(shapeR_iff (q := _) hfn).2 ?_, by simp; try omega, by simp; try omega, by simp; try omega, by simp; try omega⟩
          constructor
          case bits => simp only; first | rfl | (rw [if_neg (by omega), if_neg (by omega)]; rfl) | (rw [if_pos (by omega)]; rfl) | (rw [if_neg (by omega), if_pos (by omega)]; exact ⟨by omega, by omega⟩)
          case vals => simp only; first | rfl | (rw [if_neg (by omega), if_neg (by omega), if_neg (by omega)]; rfl) | (rw [if_pos (by omega)]; rfl) | (rw [if_neg (by omega), if_pos (by omega)]; exact ⟨by omega, by omega⟩) | (rw [if_neg (by omega), if_neg (by omega), if_pos (by omega)]; omega)
          all_goals first | (intro _; rfl) | (intro _; exact ⟨rfl, rfl⟩) | (simp only; omega) | (intro h; simp at h) | (intro h; exact absurd rfl h) | (simp; omega)
        exact fin_names (nx1 := 1) (H1 := [(0, .obj [pS 1 false encI L, pN (tStep L (tStep L (tStep L (tStep L a 12) 70) 8) 4)])]) [(0, 0)] (ret_cell tab_107 (by decide) rfl rfl (Nat.le_of_ble_eq_true rfl) rfl ret_nil) rfl (by decide) ⟨⟨_, _, rfl, rfl, rfl, rfl⟩, trivial⟩ (by decide) rfl ⟨((⟨e1, 0, 0, 0, e2, [], [e3], 0, 0⟩ : TRequest)), (tStep L (tStep L (tStep L (tStep L a 12) 70) 8) 4), hex, rfl, rfl, rfl⟩
       ·
        have c7_ := c7
        try simp only [sB] at c7
        refine w_seq ?_
        refine w_R ?_
        refine qo hnt rfl (s_eql rfl rfl ?_)
        refine qa hnt rfl rfl ?_
        refine r_end ?_
        refine q_then ?_
        refine w_if rfl (fun c8 => ?_) (fun c8 => ?_)
        ·
         have c8_ := c8
         try simp only [sB] at c8
         refine w_seq ?_
         have h26 := tNext_lt L (tStep L (tStep L a 12) 70) (n := 26) (by decide)
         refine w_R ?_
         refine qm hnt rfl rfl ?_
         refine qm hnt rfl rfl ?_
         refine qo hnt rfl (s_callX (r2 := pI (tNext L (tStep L (tStep L a 12) 70) 26)) (nx1 := 4) (H2 := [(0, .obj [pS 1 false encI L, pN (tStep L (tStep L a 12) 70)]), (3, .obj [pI e1, pI 0, pI 0, pI 0, pI 0, pNil, pNil, p16 0, p16 0]), (2, oB true 1 encI fnsL), (1, .obj [pI 0, pI 0, pI 0, pI 0, pI 0, pNil, pNil, p16 0, p16 0])]) (H3 := [(0, .obj [pS 1 false encI L, pN (tStep L (tStep L (tStep L a 12) 70) 26)]), (3, .obj [pI e1, pI 0, pI 0, pI 0, pI 0, pNil, pNil, p16 0, p16 0]), (2, oB true 1 encI fnsL), (1, .obj [pI 0, pI 0, pI 0, pI 0, pI 0, pNil, pNil, p16 0, p16 0])]) [0] [.obj [pS 1 false encI L, pN (tStep L (tStep L a 12) 70)]] rfl rfl rfl (handed_of (by decide) ⟨rfl, trivial⟩) rfl rfl rfl rfl rfl rfl (w_burgagekeep_Tape_Next L false (tStep L (tStep L a 12) 70) 26 (by first | omega | assumption | (simp; omega) | decide | (simp; done)) (by first | omega | assumption | (simp; omega) | decide | (simp; done))) rfl (dist_of rfl) rfl rfl rfl rfl ?_)
         refine qo hnt rfl (s_fa_ptr tab_107 rfl rfl tab_3 (by decide) rfl ?_)
         refine qo hnt rfl (s_store_ptr tab_3 rfl rfl rfl rfl rfl (Nat.le_of_ble_eq_true rfl) ?_)
         refine qo hnt rfl (s_fa_ptr tab_107 rfl rfl tab_3 (by decide) rfl ?_)
         refine qo hnt rfl (s_store_ptr tab_3 rfl rfl rfl rfl rfl (Nat.le_of_ble_eq_true rfl) ?_)
         refine r_set [(0, PV.ptr 0 0), (2, PV.ptr 1 0), (3, PV.ptr 3 0)] [(3, .obj [pI e1, pI (tNext L (tStep L a 12) 70), pI (tNext L (tStep L (tStep L a 12) 70) 26), pI 0, pI 0, pNil, pNil, p16 0, p16 0]), (0, .obj [pS 1 false encI L, pN (tStep L (tStep L (tStep L a 12) 70) 26)]), (2, oB true 1 encI fnsL), (1, .obj [pI 0, pI 0, pI 0, pI 0, pI 0, pNil, pNil, p16 0, p16 0])] 4 ⟨rfl, rfl, rfl, trivial⟩ rfl rfl ?_
         refine r_end ?_
         refine q_then ?_
         refine w_seq ?_
         refine w_R ?_
         refine qa hnt rfl rfl ?_
         refine r_end ?_
         refine q_then ?_
         refine w_block ?_
         refine w_adoptC (n := 3) (j := 5) (sz := 1) rfl rfl rfl ?_
         refine loop3 (fun (ap : Nat) (os : List Bool) (i : Nat) => (i : Int) ≤ tNext L (tStep L (tStep L a 12) 70) 26 ∧ os.length = i) (fun (ap : Nat) (os : List Bool) (i : Nat) => [(0, PV.ptr 0 0), (2, PV.ptr 3 0), (3, PV.ptr 1 0), (5, pN i)]) 4 (fun (ap : Nat) (os : List Bool) (i : Nat) => [(0, .obj [pS 1 false encI L, pN ap]), (1, .obj [pI e1, pI (tNext L (tStep L a 12) 70), pI (tNext L (tStep L (tStep L a 12) 70) 26), pI 0, pI 0, PV.ref 2 0 none, pNil, p16 0, p16 0]), (2, oB true 1 encBo os), (3, .obj [pI 0, pI 0, pI 0, pI 0, pI 0, pNil, pNil, p16 0, p16 0])]) (fun (ap : Nat) (os : List Bool) (i : Nat) => (tNext L (tStep L (tStep L a 12) 70) 26).toNat - i) (tStep L (tStep L (tStep L a 12) 70) 26) (([] : List Bool)) (0) ?_ ⟨[(0, 0), (1, 3), (2, 4), (3, 1)], by rw [hk]; decide, ⟨⟨_, rfl, rfl, rfl⟩, ⟨_, rfl, rfl, rfl⟩, ⟨_, rfl, rfl, rfl⟩, ⟨_, rfl, rfl, rfl⟩, trivial⟩, ⟨⟨_, _, rfl, rfl, rfl, rfl⟩, ⟨_, _, rfl, rfl, rfl, rfl⟩, ⟨_, _, rfl, rfl, rfl, rfl⟩, ⟨_, _, rfl, rfl, rfl, rfl⟩, trivial⟩, by rw [hk]; decide⟩ ?_
         · exact ⟨by omega, rfl⟩
         ·
          intro ap os i hI
          obtain ⟨hi, hol⟩ := hI
          refine w_seq ?_
          refine w_seq ?_
          refine w_R ?_
          refine qm hnt rfl rfl ?_
          refine qo hnt rfl (s_fa_ptr tab_107 rfl rfl tab_3 (by decide) rfl ?_)
          refine qo hnt rfl (s_load_ptr1 tab_3 rfl rfl rfl rfl rfl ?_)
          refine qo hnt rfl (s_lss rfl rfl ?_)
          refine r_end ?_
          refine q_then ?_
          refine w_if rfl (fun c9 => ?_) (fun c9 => ?_)
          ·
           have c9_ := c9
           try simp only [sB] at c9
           refine w_skip ?_
           refine q_then ?_
           refine w_seq ?_
           refine w_block ?_
           refine W_drawn tabOk mixed hnt [[], [0], [], [2], [2, 3], [2, 3, 4], [0, 1, 2, 3, 4, 5], [0, 1, 2, 3, 4, 5, 6], [0, 1, 2, 3, 4, 5, 6, 7]] (by kernel_rfl) ?_
           refine d_op ?_
           refine x_run0 [(3, PV.ptr 1 0)] [] rfl rfl rfl rfl (s_fa_ptr tab_107 rfl rfl tab_44 (by decide) rfl ⟨rfl, rfl, rfl⟩) ?_
           refine d_op ?_
           refine x_run [(74, PV.ptr 1 5)] [0] [(1, .obj [pI e1, pI (tNext L (tStep L a 12) 70), pI (tNext L (tStep L (tStep L a 12) 70) 26), pI 0, pI 0, PV.ref 2 0 none, pNil, p16 0, p16 0])] [] [(1, .obj [pI e1, pI (tNext L (tStep L a 12) 70), pI (tNext L (tStep L (tStep L a 12) 70) 26), pI 0, pI 0, PV.ref 2 0 none, pNil, p16 0, p16 0])] [] [(0, .obj [pS 1 false encI L, pN ap]), (1, .obj [pI e1, pI (tNext L (tStep L a 12) 70), pI (tNext L (tStep L (tStep L a 12) 70) 26), pI 0, pI 0, PV.ref 2 0 none, pNil, p16 0, p16 0]), (2, oB true 1 encBo os), (3, .obj [pI 0, pI 0, pI 0, pI 0, pI 0, pNil, pNil, p16 0, p16 0])] rfl rfl rfl rfl rfl rfl (s_load_ptr1 tab_44 rfl rfl rfl rfl rfl ⟨rfl, rfl, rfl⟩) rfl ⟨rfl, trivial⟩ rfl rfl ?_
           refine d_op ?_
           refine x_run0 [(0, PV.ptr 0 0)] [] rfl rfl rfl rfl (s_move rfl ⟨rfl, rfl, rfl⟩) ?_
           refine d_op ?_
           refine x_run [(76, PV.ptr 0 0)] [2] [] [(0, .obj [pS 1 false encI L, pN ap])] [(0, .obj [pS 1 false encI L, pN (tStep L ap 2)])] [(0, .obj [pS 1 false encI L, pN (tStep L ap 2)])] [(0, .obj [pS 1 false encI L, pN (tStep L ap 2)]), (1, .obj [pI e1, pI (tNext L (tStep L a 12) 70), pI (tNext L (tStep L (tStep L a 12) 70) 26), pI 0, pI 0, PV.ref 2 0 none, pNil, p16 0, p16 0]), (2, oB true 1 encBo os), (3, .obj [pI 0, pI 0, pI 0, pI 0, pI 0, pNil, pNil, p16 0, p16 0])] rfl rfl rfl rfl rfl rfl (s_callX (r2 := pI (tNext L ap 2)) (nx1 := 4) (H2 := [(0, .obj [pS 1 false encI L, pN ap])]) (H3 := [(0, .obj [pS 1 false encI L, pN (tStep L ap 2)])]) [0] [.obj [pS 1 false encI L, pN ap]] rfl rfl rfl (handed_of (by decide) ⟨rfl, trivial⟩) rfl rfl rfl rfl rfl rfl (w_burgagekeep_Tape_Next L false ap 2 (by first | omega | assumption | (simp; omega) | decide | (simp; done)) (by first | omega | assumption | (simp; omega) | decide | (simp; done))) rfl (dist_of rfl) rfl rfl rfl rfl ⟨rfl, rfl, rfl⟩) rfl trivial rfl rfl ?_
           refine d_op ?_
           refine x_run0 [(77, pI (tNext L ap 2))] [2, 3] rfl rfl rfl rfl (s_eql rfl rfl ⟨rfl, rfl, rfl⟩) ?_
           refine d_op ?_
           refine x_run [(78, pB (decide (tNext L ap 2 = 1)))] [2, 3, 4] [] [] [(4, oB true 1 encBo [decide (tNext L ap 2 = 1)])] [(4, oB true 1 encBo [decide (tNext L ap 2 = 1)])] [(4, oB true 1 encBo [decide (tNext L ap 2 = 1)]), (0, .obj [pS 1 false encI L, pN (tStep L ap 2)]), (1, .obj [pI e1, pI (tNext L (tStep L a 12) 70), pI (tNext L (tStep L (tStep L a 12) 70) 26), pI 0, pI 0, PV.ref 2 0 none, pNil, p16 0, p16 0]), (2, oB true 1 encBo os), (3, .obj [pI 0, pI 0, pI 0, pI 0, pI 0, pNil, pNil, p16 0, p16 0])] rfl rfl rfl rfl rfl rfl (s_mkM (f := encBo) [decide (tNext L ap 2 = 1)] tab_44 rfl tab_4 ⟨rfl, by decide⟩ (by decide) rfl rfl rfl rfl ⟨rfl, rfl, rfl⟩) rfl trivial rfl rfl ?_
           refine d_op ?_
           refine x_run [(75, PV.ref 2 0 none), (79, PV.ref 4 0 none)] [0, 1, 2, 3, 4, 5] [(4, oB true 1 encBo [decide (tNext L ap 2 = 1)])] [(2, oB true 1 encBo os)] [(5, oB true 1 encBo (os ++ [decide (tNext L ap 2 = 1)])), (4, oB true 1 encBo [decide (tNext L ap 2 = 1)])] [(5, oB true 1 encBo (os ++ [decide (tNext L ap 2 = 1)]))] [(5, oB true 1 encBo (os ++ [decide (tNext L ap 2 = 1)])), (4, oB true 1 encBo [decide (tNext L ap 2 = 1)]), (0, .obj [pS 1 false encI L, pN (tStep L ap 2)]), (1, .obj [pI e1, pI (tNext L (tStep L a 12) 70), pI (tNext L (tStep L (tStep L a 12) 70) 26), pI 0, pI 0, PV.ref 2 0 none, pNil, p16 0, p16 0]), (3, .obj [pI 0, pI 0, pI 0, pI 0, pI 0, pNil, pNil, p16 0, p16 0])] rfl rfl rfl rfl rfl rfl (s_appR0 (f := encBo) (l := os) (xs := [decide (tNext L ap 2 = 1)]) tab_44 rfl tab_4 ⟨rfl, by decide, by decide⟩ (srcM tab_44 rfl (hM_ref0 (f := encBo) rfl rfl)) rfl rfl (by first | omega | (simp; omega)) ⟨rfl, rfl, rfl⟩) rfl ⟨rfl, trivial⟩ rfl rfl ?_
           refine d_op ?_
           refine x_run0 [(3, PV.ptr 1 0)] [0, 1, 2, 3, 4, 5, 6] rfl rfl rfl rfl (s_fa_ptr tab_107 rfl rfl tab_44 (by decide) rfl ⟨rfl, rfl, rfl⟩) ?_
           refine d_op ?_
           refine x_run [(81, PV.ptr 1 5), (80, PV.ref 5 0 none)] [0, 1, 2, 3, 4, 5, 6, 7] [] [(1, .obj [pI e1, pI (tNext L (tStep L a 12) 70), pI (tNext L (tStep L (tStep L a 12) 70) 26), pI 0, pI 0, PV.ref 2 0 none, pNil, p16 0, p16 0])] [(1, .obj [pI e1, pI (tNext L (tStep L a 12) 70), pI (tNext L (tStep L (tStep L a 12) 70) 26), pI 0, pI 0, PV.ref 5 0 none, pNil, p16 0, p16 0])] [(1, .obj [pI e1, pI (tNext L (tStep L a 12) 70), pI (tNext L (tStep L (tStep L a 12) 70) 26), pI 0, pI 0, PV.ref 5 0 none, pNil, p16 0, p16 0])] [(1, .obj [pI e1, pI (tNext L (tStep L a 12) 70), pI (tNext L (tStep L (tStep L a 12) 70) 26), pI 0, pI 0, PV.ref 5 0 none, pNil, p16 0, p16 0]), (5, oB true 1 encBo (os ++ [decide (tNext L ap 2 = 1)])), (4, oB true 1 encBo [decide (tNext L ap 2 = 1)]), (0, .obj [pS 1 false encI L, pN (tStep L ap 2)]), (3, .obj [pI 0, pI 0, pI 0, pI 0, pI 0, pNil, pNil, p16 0, p16 0])] rfl rfl rfl rfl rfl rfl (s_store_ptr tab_44 rfl rfl rfl rfl rfl (Nat.le_of_ble_eq_true rfl) ⟨rfl, rfl, rfl⟩) rfl trivial rfl rfl ?_
           refine d_end ⟨by kernel_rfl, ?_⟩
           refine q_block ?_
           refine q_then ?_
           refine w_R ?_
           refine qm hnt rfl rfl ?_
           refine qo hnt rfl (s_addN (a := i) (b := 1) rfl rfl (by omega) (by omega) (by omega) ?_)
           refine qa hnt rfl rfl ?_
           refine r_end ?_
           refine q_then ?_
           refine ⟨(tStep L ap 2), (os ++ [decide (tNext L ap 2 = 1)]), (i + 1), ?_, ?_, ⟨[(0, 0), (1, 1), (2, 5), (3, 3)], by rw [hk]; decide, ⟨⟨_, rfl, rfl, rfl⟩, ⟨_, rfl, rfl, rfl⟩, ⟨_, rfl, rfl, rfl⟩, ⟨_, rfl, rfl, rfl⟩, trivial⟩, ⟨⟨_, _, rfl, rfl, rfl, rfl⟩, ⟨_, _, rfl, rfl, rfl, rfl⟩, ⟨_, _, rfl, rfl, rfl, rfl⟩, ⟨_, _, rfl, rfl, rfl, rfl⟩, trivial⟩, by rw [hk]; decide⟩⟩
           ·
            exact ⟨by omega, by simp [hol]⟩
           · omega
          ·
           have c9_ := c9
           try simp only [sB] at c9
           refine w_exit ?_
           refine q_then_exit ?_
           refine q_then_exit ?_
           refine q_block_exit ?_
           refine q_block ?_
           refine q_then ?_
           refine w_seq ?_
           refine w_R ?_
           refine qo hnt rfl (s_load_ptr tab_107 rfl rfl rfl (Nat.le_of_ble_eq_true rfl) ?_)
           refine qo hnt rfl (s_store_ptr tab_107 rfl rfl rfl rfl rfl (Nat.le_of_ble_eq_true rfl) ?_)
           refine r_set [(2, PV.ptr 3 0)] [(3, .obj [pI e1, pI (tNext L (tStep L a 12) 70), pI (tNext L (tStep L (tStep L a 12) 70) 26), pI 0, pI 0, PV.ref 2 0 none, pNil, p16 0, p16 0]), (0, .obj [pS 1 false encI L, pN ap]), (1, .obj [pI e1, pI (tNext L (tStep L a 12) 70), pI (tNext L (tStep L (tStep L a 12) 70) 26), pI 0, pI 0, PV.ref 2 0 none, pNil, p16 0, p16 0]), (2, oB true 1 encBo os)] 4 ⟨rfl, trivial⟩ rfl rfl ?_
           refine r_end ?_
           refine q_then ?_
           refine w_frzC (n := 3) (j := 5) rfl rfl rfl rfl ?_
           refine w_leC (n := 3) (j := 6) (y := pS 1 false enc16 []) rfl rfl (le_nilS 1 false) ?_
           refine w_ret ?_
           have hex : rightR (⟨e1, tNext L (tStep L a 12) 70, tNext L (tStep L (tStep L a 12) 70) 26, 0, 0, os, [], 0, 0⟩ : TRequest) = 0 ∧ (⟨e1, tNext L (tStep L a 12) 70, tNext L (tStep L (tStep L a 12) 70) 26, 0, 0, os, [], 0, 0⟩ : TRequest).bits.length ≤ 25 ∧ (⟨e1, tNext L (tStep L a 12) 70, tNext L (tStep L (tStep L a 12) 70) 26, 0, 0, os, [], 0, 0⟩ : TRequest).vals.length ≤ 25 ∧ 0 ≤ (⟨e1, tNext L (tStep L a 12) 70, tNext L (tStep L (tStep L a 12) 70) 26, 0, 0, os, [], 0, 0⟩ : TRequest).count ∧ (⟨e1, tNext L (tStep L a 12) 70, tNext L (tStep L (tStep L a 12) 70) 26, 0, 0, os, [], 0, 0⟩ : TRequest).count ≤ 25 := by
             refine ⟨(shapeR_iff (q := _) hfn).2 ?_, by simp; try omega, by simp; try omega, by simp; try omega, by simp; try omega⟩
             constructor
             case bits => simp only; first | rfl | (rw [if_neg (by omega), if_neg (by omega)]; rfl) | (rw [if_pos (by omega)]; rfl) | (rw [if_neg (by omega), if_pos (by omega)]; exact ⟨by omega, by omega⟩)
             case vals => simp only; first | rfl | (rw [if_neg (by omega), if_neg (by omega), if_neg (by omega)]; rfl) | (rw [if_pos (by omega)]; rfl) | (rw [if_neg (by omega), if_pos (by omega)]; exact ⟨by omega, by omega⟩) | (rw [if_neg (by omega), if_neg (by omega), if_pos (by omega)]; omega)
             all_goals first | (intro _; rfl) | (intro _; exact ⟨rfl, rfl⟩) | (simp only; omega) | (intro h; simp at h) | (intro h; exact absurd rfl h) | (simp; omega)
           exact fin_names (nx1 := 1) (H1 := [(0, .obj [pS 1 false encI L, pN ap])]) [(0, 0)] (ret_cell tab_107 (by decide) rfl rfl (Nat.le_of_ble_eq_true rfl) rfl ret_nil) rfl (by decide) ⟨⟨_, _, rfl, rfl, rfl, rfl⟩, trivial⟩ (by decide) rfl ⟨((⟨e1, tNext L (tStep L a 12) 70, tNext L (tStep L (tStep L a 12) 70) 26, 0, 0, os, [], 0, 0⟩ : TRequest)), (ap), hex, rfl, rfl, rfl⟩
        ·
         have c8_ := c8
         try simp only [sB] at c8
         refine w_seq ?_
         refine w_R ?_
         refine qo hnt rfl (s_eql rfl rfl ?_)
         refine qa hnt rfl rfl ?_
         refine r_end ?_
         refine q_then ?_
         refine w_if rfl (fun c10 => ?_) (fun c10 => ?_)
         ·
          have c10_ := c10
          try simp only [sB] at c10
          refine w_seq ?_
          have h26 := tNext_lt L (tStep L (tStep L a 12) 70) (n := 26) (by decide)
          refine w_R ?_
          refine qm hnt rfl rfl ?_
          refine qm hnt rfl rfl ?_
          refine qo hnt rfl (s_callX (r2 := pI (tNext L (tStep L (tStep L a 12) 70) 26)) (nx1 := 4) (H2 := [(0, .obj [pS 1 false encI L, pN (tStep L (tStep L a 12) 70)]), (3, .obj [pI e1, pI 0, pI 0, pI 0, pI 0, pNil, pNil, p16 0, p16 0]), (2, oB true 1 encI fnsL), (1, .obj [pI 0, pI 0, pI 0, pI 0, pI 0, pNil, pNil, p16 0, p16 0])]) (H3 := [(0, .obj [pS 1 false encI L, pN (tStep L (tStep L (tStep L a 12) 70) 26)]), (3, .obj [pI e1, pI 0, pI 0, pI 0, pI 0, pNil, pNil, p16 0, p16 0]), (2, oB true 1 encI fnsL), (1, .obj [pI 0, pI 0, pI 0, pI 0, pI 0, pNil, pNil, p16 0, p16 0])]) [0] [.obj [pS 1 false encI L, pN (tStep L (tStep L a 12) 70)]] rfl rfl rfl (handed_of (by decide) ⟨rfl, trivial⟩) rfl rfl rfl rfl rfl rfl (w_burgagekeep_Tape_Next L false (tStep L (tStep L a 12) 70) 26 (by first | omega | assumption | (simp; omega) | decide | (simp; done)) (by first | omega | assumption | (simp; omega) | decide | (simp; done))) rfl (dist_of rfl) rfl rfl rfl rfl ?_)
          refine qo hnt rfl (s_fa_ptr tab_107 rfl rfl tab_3 (by decide) rfl ?_)
          refine qo hnt rfl (s_store_ptr tab_3 rfl rfl rfl rfl rfl (Nat.le_of_ble_eq_true rfl) ?_)
          refine qo hnt rfl (s_fa_ptr tab_107 rfl rfl tab_3 (by decide) rfl ?_)
          refine qo hnt rfl (s_store_ptr tab_3 rfl rfl rfl rfl rfl (Nat.le_of_ble_eq_true rfl) ?_)
          refine r_set [(0, PV.ptr 0 0), (2, PV.ptr 1 0), (3, PV.ptr 3 0)] [(3, .obj [pI e1, pI (tNext L (tStep L a 12) 70), pI (tNext L (tStep L (tStep L a 12) 70) 26), pI 0, pI 0, pNil, pNil, p16 0, p16 0]), (0, .obj [pS 1 false encI L, pN (tStep L (tStep L (tStep L a 12) 70) 26)]), (2, oB true 1 encI fnsL), (1, .obj [pI 0, pI 0, pI 0, pI 0, pI 0, pNil, pNil, p16 0, p16 0])] 4 ⟨rfl, rfl, rfl, trivial⟩ rfl rfl ?_
          refine r_end ?_
          refine q_then ?_
          refine w_seq ?_
          refine w_R ?_
          refine qa hnt rfl rfl ?_
          refine r_end ?_
          refine q_then ?_
          refine w_block ?_
          refine w_adoptC (n := 3) (j := 6) (sz := 1) rfl rfl rfl ?_
          refine loop3 (fun (ap : Nat) (os : List UInt16) (i : Nat) => (i : Int) ≤ tNext L (tStep L (tStep L a 12) 70) 26 ∧ os.length = i) (fun (ap : Nat) (os : List UInt16) (i : Nat) => [(0, PV.ptr 0 0), (2, PV.ptr 3 0), (3, PV.ptr 1 0), (6, pN i)]) 4 (fun (ap : Nat) (os : List UInt16) (i : Nat) => [(0, .obj [pS 1 false encI L, pN ap]), (1, .obj [pI e1, pI (tNext L (tStep L a 12) 70), pI (tNext L (tStep L (tStep L a 12) 70) 26), pI 0, pI 0, pNil, PV.ref 2 0 none, p16 0, p16 0]), (2, oB true 1 enc16 os), (3, .obj [pI 0, pI 0, pI 0, pI 0, pI 0, pNil, pNil, p16 0, p16 0])]) (fun (ap : Nat) (os : List UInt16) (i : Nat) => (tNext L (tStep L (tStep L a 12) 70) 26).toNat - i) (tStep L (tStep L (tStep L a 12) 70) 26) (([] : List UInt16)) (0) ?_ ⟨[(0, 0), (1, 3), (2, 4), (3, 1)], by rw [hk]; decide, ⟨⟨_, rfl, rfl, rfl⟩, ⟨_, rfl, rfl, rfl⟩, ⟨_, rfl, rfl, rfl⟩, ⟨_, rfl, rfl, rfl⟩, trivial⟩, ⟨⟨_, _, rfl, rfl, rfl, rfl⟩, ⟨_, _, rfl, rfl, rfl, rfl⟩, ⟨_, _, rfl, rfl, rfl, rfl⟩, ⟨_, _, rfl, rfl, rfl, rfl⟩, trivial⟩, by rw [hk]; decide⟩ ?_
          · exact ⟨by omega, rfl⟩
          ·
           intro ap os i hI
           obtain ⟨hi, hol⟩ := hI
           refine w_seq ?_
           refine w_seq ?_
           refine w_R ?_
           refine qm hnt rfl rfl ?_
           refine qo hnt rfl (s_fa_ptr tab_107 rfl rfl tab_3 (by decide) rfl ?_)
           refine qo hnt rfl (s_load_ptr1 tab_3 rfl rfl rfl rfl rfl ?_)
           refine qo hnt rfl (s_lss rfl rfl ?_)
           refine r_end ?_
           refine q_then ?_
           refine w_if rfl (fun c11 => ?_) (fun c11 => ?_)
           ·
            have c11_ := c11
            try simp only [sB] at c11
            refine w_skip ?_
            refine q_then ?_
            refine w_seq ?_
            refine w_block ?_
            refine W_drawn tabOk mixed hnt [[], [0], [], [2], [2, 3], [2, 3, 4], [0, 1, 2, 3, 4, 5], [0, 1, 2, 3, 4, 5, 6], [0, 1, 2, 3, 4, 5, 6, 7]] (by kernel_rfl) ?_
            refine d_op ?_
            refine x_run0 [(3, PV.ptr 1 0)] [] rfl rfl rfl rfl (s_fa_ptr tab_107 rfl rfl tab_45 (by decide) rfl ⟨rfl, rfl, rfl⟩) ?_
            refine d_op ?_
            refine x_run [(95, PV.ptr 1 6)] [0] [(1, .obj [pI e1, pI (tNext L (tStep L a 12) 70), pI (tNext L (tStep L (tStep L a 12) 70) 26), pI 0, pI 0, pNil, PV.ref 2 0 none, p16 0, p16 0])] [] [(1, .obj [pI e1, pI (tNext L (tStep L a 12) 70), pI (tNext L (tStep L (tStep L a 12) 70) 26), pI 0, pI 0, pNil, PV.ref 2 0 none, p16 0, p16 0])] [] [(0, .obj [pS 1 false encI L, pN ap]), (1, .obj [pI e1, pI (tNext L (tStep L a 12) 70), pI (tNext L (tStep L (tStep L a 12) 70) 26), pI 0, pI 0, pNil, PV.ref 2 0 none, p16 0, p16 0]), (2, oB true 1 enc16 os), (3, .obj [pI 0, pI 0, pI 0, pI 0, pI 0, pNil, pNil, p16 0, p16 0])] rfl rfl rfl rfl rfl rfl (s_load_ptr1 tab_45 rfl rfl rfl rfl rfl ⟨rfl, rfl, rfl⟩) rfl ⟨rfl, trivial⟩ rfl rfl ?_
            refine d_op ?_
            refine x_run0 [(0, PV.ptr 0 0)] [] rfl rfl rfl rfl (s_move rfl ⟨rfl, rfl, rfl⟩) ?_
            refine d_op ?_
            refine x_run [(97, PV.ptr 0 0)] [2] [] [(0, .obj [pS 1 false encI L, pN ap])] [(0, .obj [pS 1 false encI L, pN (tStep L ap 65536)])] [(0, .obj [pS 1 false encI L, pN (tStep L ap 65536)])] [(0, .obj [pS 1 false encI L, pN (tStep L ap 65536)]), (1, .obj [pI e1, pI (tNext L (tStep L a 12) 70), pI (tNext L (tStep L (tStep L a 12) 70) 26), pI 0, pI 0, pNil, PV.ref 2 0 none, p16 0, p16 0]), (2, oB true 1 enc16 os), (3, .obj [pI 0, pI 0, pI 0, pI 0, pI 0, pNil, pNil, p16 0, p16 0])] rfl rfl rfl rfl rfl rfl (s_callX (r2 := pI (tNext L ap 65536)) (nx1 := 4) (H2 := [(0, .obj [pS 1 false encI L, pN ap])]) (H3 := [(0, .obj [pS 1 false encI L, pN (tStep L ap 65536)])]) [0] [.obj [pS 1 false encI L, pN ap]] rfl rfl rfl (handed_of (by decide) ⟨rfl, trivial⟩) rfl rfl rfl rfl rfl rfl (w_burgagekeep_Tape_Next L false ap 65536 (by first | omega | assumption | (simp; omega) | decide | (simp; done)) (by first | omega | assumption | (simp; omega) | decide | (simp; done))) rfl (dist_of rfl) rfl rfl rfl rfl ⟨rfl, rfl, rfl⟩) rfl trivial rfl rfl ?_
            refine d_op ?_
            refine x_run0 [(98, pI (tNext L ap 65536))] [2, 3] rfl rfl rfl rfl (s_cv16 tab_3 tab_47 rfl rfl rfl ⟨rfl, rfl, rfl⟩) ?_
            refine d_op ?_
            refine x_run [(99, p16 (u16I (tNext L ap 65536)))] [2, 3, 4] [] [] [(4, oB true 1 enc16 [u16I (tNext L ap 65536)])] [(4, oB true 1 enc16 [u16I (tNext L ap 65536)])] [(4, oB true 1 enc16 [u16I (tNext L ap 65536)]), (0, .obj [pS 1 false encI L, pN (tStep L ap 65536)]), (1, .obj [pI e1, pI (tNext L (tStep L a 12) 70), pI (tNext L (tStep L (tStep L a 12) 70) 26), pI 0, pI 0, pNil, PV.ref 2 0 none, p16 0, p16 0]), (2, oB true 1 enc16 os), (3, .obj [pI 0, pI 0, pI 0, pI 0, pI 0, pNil, pNil, p16 0, p16 0])] rfl rfl rfl rfl rfl rfl (s_mkM (f := enc16) [u16I (tNext L ap 65536)] tab_45 rfl tab_47 ⟨rfl, by decide⟩ (by decide) rfl rfl rfl rfl ⟨rfl, rfl, rfl⟩) rfl trivial rfl rfl ?_
            refine d_op ?_
            refine x_run [(96, PV.ref 2 0 none), (100, PV.ref 4 0 none)] [0, 1, 2, 3, 4, 5] [(4, oB true 1 enc16 [u16I (tNext L ap 65536)])] [(2, oB true 1 enc16 os)] [(5, oB true 1 enc16 (os ++ [u16I (tNext L ap 65536)])), (4, oB true 1 enc16 [u16I (tNext L ap 65536)])] [(5, oB true 1 enc16 (os ++ [u16I (tNext L ap 65536)]))] [(5, oB true 1 enc16 (os ++ [u16I (tNext L ap 65536)])), (4, oB true 1 enc16 [u16I (tNext L ap 65536)]), (0, .obj [pS 1 false encI L, pN (tStep L ap 65536)]), (1, .obj [pI e1, pI (tNext L (tStep L a 12) 70), pI (tNext L (tStep L (tStep L a 12) 70) 26), pI 0, pI 0, pNil, PV.ref 2 0 none, p16 0, p16 0]), (3, .obj [pI 0, pI 0, pI 0, pI 0, pI 0, pNil, pNil, p16 0, p16 0])] rfl rfl rfl rfl rfl rfl (s_appR0 (f := enc16) (l := os) (xs := [u16I (tNext L ap 65536)]) tab_45 rfl tab_47 ⟨rfl, by decide, by decide⟩ (srcM tab_45 rfl (hM_ref0 (f := enc16) rfl rfl)) rfl rfl (by first | omega | (simp; omega)) ⟨rfl, rfl, rfl⟩) rfl ⟨rfl, trivial⟩ rfl rfl ?_
            refine d_op ?_
            refine x_run0 [(3, PV.ptr 1 0)] [0, 1, 2, 3, 4, 5, 6] rfl rfl rfl rfl (s_fa_ptr tab_107 rfl rfl tab_45 (by decide) rfl ⟨rfl, rfl, rfl⟩) ?_
            refine d_op ?_
            refine x_run [(102, PV.ptr 1 6), (101, PV.ref 5 0 none)] [0, 1, 2, 3, 4, 5, 6, 7] [] [(1, .obj [pI e1, pI (tNext L (tStep L a 12) 70), pI (tNext L (tStep L (tStep L a 12) 70) 26), pI 0, pI 0, pNil, PV.ref 2 0 none, p16 0, p16 0])] [(1, .obj [pI e1, pI (tNext L (tStep L a 12) 70), pI (tNext L (tStep L (tStep L a 12) 70) 26), pI 0, pI 0, pNil, PV.ref 5 0 none, p16 0, p16 0])] [(1, .obj [pI e1, pI (tNext L (tStep L a 12) 70), pI (tNext L (tStep L (tStep L a 12) 70) 26), pI 0, pI 0, pNil, PV.ref 5 0 none, p16 0, p16 0])] [(1, .obj [pI e1, pI (tNext L (tStep L a 12) 70), pI (tNext L (tStep L (tStep L a 12) 70) 26), pI 0, pI 0, pNil, PV.ref 5 0 none, p16 0, p16 0]), (5, oB true 1 enc16 (os ++ [u16I (tNext L ap 65536)])), (4, oB true 1 enc16 [u16I (tNext L ap 65536)]), (0, .obj [pS 1 false encI L, pN (tStep L ap 65536)]), (3, .obj [pI 0, pI 0, pI 0, pI 0, pI 0, pNil, pNil, p16 0, p16 0])] rfl rfl rfl rfl rfl rfl (s_store_ptr tab_45 rfl rfl rfl rfl rfl (Nat.le_of_ble_eq_true rfl) ⟨rfl, rfl, rfl⟩) rfl trivial rfl rfl ?_
            refine d_end ⟨by kernel_rfl, ?_⟩
            refine q_block ?_
            refine q_then ?_
            refine w_R ?_
            refine qm hnt rfl rfl ?_
            refine qo hnt rfl (s_addN (a := i) (b := 1) rfl rfl (by omega) (by omega) (by omega) ?_)
            refine qa hnt rfl rfl ?_
            refine r_end ?_
            refine q_then ?_
            refine ⟨(tStep L ap 65536), (os ++ [u16I (tNext L ap 65536)]), (i + 1), ?_, ?_, ⟨[(0, 0), (1, 1), (2, 5), (3, 3)], by rw [hk]; decide, ⟨⟨_, rfl, rfl, rfl⟩, ⟨_, rfl, rfl, rfl⟩, ⟨_, rfl, rfl, rfl⟩, ⟨_, rfl, rfl, rfl⟩, trivial⟩, ⟨⟨_, _, rfl, rfl, rfl, rfl⟩, ⟨_, _, rfl, rfl, rfl, rfl⟩, ⟨_, _, rfl, rfl, rfl, rfl⟩, ⟨_, _, rfl, rfl, rfl, rfl⟩, trivial⟩, by rw [hk]; decide⟩⟩
            ·
             exact ⟨by omega, by simp [hol]⟩
            · omega
           ·
            have c11_ := c11
            try simp only [sB] at c11
            refine w_exit ?_
            refine q_then_exit ?_
            refine q_then_exit ?_
            refine q_block_exit ?_
            refine q_block ?_
            refine q_then ?_
            refine w_seq ?_
            refine w_R ?_
            refine qo hnt rfl (s_load_ptr tab_107 rfl rfl rfl (Nat.le_of_ble_eq_true rfl) ?_)
            refine qo hnt rfl (s_store_ptr tab_107 rfl rfl rfl rfl rfl (Nat.le_of_ble_eq_true rfl) ?_)
            refine r_set [(2, PV.ptr 3 0)] [(3, .obj [pI e1, pI (tNext L (tStep L a 12) 70), pI (tNext L (tStep L (tStep L a 12) 70) 26), pI 0, pI 0, pNil, PV.ref 2 0 none, p16 0, p16 0]), (0, .obj [pS 1 false encI L, pN ap]), (1, .obj [pI e1, pI (tNext L (tStep L a 12) 70), pI (tNext L (tStep L (tStep L a 12) 70) 26), pI 0, pI 0, pNil, PV.ref 2 0 none, p16 0, p16 0]), (2, oB true 1 enc16 os)] 4 ⟨rfl, trivial⟩ rfl rfl ?_
            refine r_end ?_
            refine q_then ?_
            refine w_leC (n := 3) (j := 5) (y := pS 1 false encBo []) rfl rfl (le_nilS 1 false) ?_
            refine w_frzC (n := 3) (j := 6) rfl rfl rfl rfl ?_
            refine w_ret ?_
            have hex : rightR (⟨e1, tNext L (tStep L a 12) 70, tNext L (tStep L (tStep L a 12) 70) 26, 0, 0, [], os, 0, 0⟩ : TRequest) = 0 ∧ (⟨e1, tNext L (tStep L a 12) 70, tNext L (tStep L (tStep L a 12) 70) 26, 0, 0, [], os, 0, 0⟩ : TRequest).bits.length ≤ 25 ∧ (⟨e1, tNext L (tStep L a 12) 70, tNext L (tStep L (tStep L a 12) 70) 26, 0, 0, [], os, 0, 0⟩ : TRequest).vals.length ≤ 25 ∧ 0 ≤ (⟨e1, tNext L (tStep L a 12) 70, tNext L (tStep L (tStep L a 12) 70) 26, 0, 0, [], os, 0, 0⟩ : TRequest).count ∧ (⟨e1, tNext L (tStep L a 12) 70, tNext L (tStep L (tStep L a 12) 70) 26, 0, 0, [], os, 0, 0⟩ : TRequest).count ≤ 25 := by
              refine ⟨(shapeR_iff (q := _) hfn).2 ?_, by simp; try omega, by simp; try omega, by simp; try omega, by simp; try omega⟩
              constructor
              case bits => simp only; first | rfl | (rw [if_neg (by omega), if_neg (by omega)]; rfl) | (rw [if_pos (by omega)]; rfl) | (rw [if_neg (by omega), if_pos (by omega)]; exact ⟨by omega, by omega⟩)
              case vals => simp only; first | rfl | (rw [if_neg (by omega), if_neg (by omega), if_neg (by omega)]; rfl) | (rw [if_pos (by omega)]; rfl) | (rw [if_neg (by omega), if_pos (by omega)]; exact ⟨by omega, by omega⟩) | (rw [if_neg (by omega), if_neg (by omega), if_pos (by omega)]; omega)
              all_goals first | (intro _; rfl) | (intro _; exact ⟨rfl, rfl⟩) | (simp only; omega) | (intro h; simp at h) | (intro h; exact absurd rfl h) | (simp; omega)
            exact fin_names (nx1 := 1) (H1 := [(0, .obj [pS 1 false encI L, pN ap])]) [(0, 0)] (ret_cell tab_107 (by decide) rfl rfl (Nat.le_of_ble_eq_true rfl) rfl ret_nil) rfl (by decide) ⟨⟨_, _, rfl, rfl, rfl, rfl⟩, trivial⟩ (by decide) rfl ⟨((⟨e1, tNext L (tStep L a 12) 70, tNext L (tStep L (tStep L a 12) 70) 26, 0, 0, [], os, 0, 0⟩ : TRequest)), (ap), hex, rfl, rfl, rfl⟩
         ·
          have c10_ := c10
          try simp only [sB] at c10
          refine w_seq ?_
          refine w_R ?_
          refine qo hnt rfl (s_eql rfl rfl ?_)
          refine qa hnt rfl rfl ?_
          refine r_end ?_
          refine q_then ?_
          refine w_if rfl (fun c12 => ?_) (fun c12 => ?_)
          ·
           have c12_ := c12
           try simp only [sB] at c12
           refine w_R ?_
           refine qm hnt rfl rfl ?_
           refine qm hnt rfl rfl ?_
           refine qo hnt rfl (s_callX (r2 := pI (tNext L (tStep L (tStep L a 12) 70) 65536)) (nx1 := 4) (H2 := [(0, .obj [pS 1 false encI L, pN (tStep L (tStep L a 12) 70)]), (3, .obj [pI e1, pI 0, pI 0, pI 0, pI 0, pNil, pNil, p16 0, p16 0]), (2, oB true 1 encI fnsL), (1, .obj [pI 0, pI 0, pI 0, pI 0, pI 0, pNil, pNil, p16 0, p16 0])]) (H3 := [(0, .obj [pS 1 false encI L, pN (tStep L (tStep L (tStep L a 12) 70) 65536)]), (3, .obj [pI e1, pI 0, pI 0, pI 0, pI 0, pNil, pNil, p16 0, p16 0]), (2, oB true 1 encI fnsL), (1, .obj [pI 0, pI 0, pI 0, pI 0, pI 0, pNil, pNil, p16 0, p16 0])]) [0] [.obj [pS 1 false encI L, pN (tStep L (tStep L a 12) 70)]] rfl rfl rfl (handed_of (by decide) ⟨rfl, trivial⟩) rfl rfl rfl rfl rfl rfl (w_burgagekeep_Tape_Next L false (tStep L (tStep L a 12) 70) 65536 (by first | omega | assumption | (simp; omega) | decide | (simp; done)) (by first | omega | assumption | (simp; omega) | decide | (simp; done))) rfl (dist_of rfl) rfl rfl rfl rfl ?_)
           refine qo hnt rfl (s_cv16 tab_3 tab_47 rfl rfl rfl ?_)
           refine qm hnt rfl rfl ?_
           refine qo hnt rfl (s_callX (r2 := pI (tNext L (tStep L (tStep L (tStep L a 12) 70) 65536) 65536)) (nx1 := 4) (H2 := [(0, .obj [pS 1 false encI L, pN (tStep L (tStep L (tStep L a 12) 70) 65536)]), (3, .obj [pI e1, pI 0, pI 0, pI 0, pI 0, pNil, pNil, p16 0, p16 0]), (2, oB true 1 encI fnsL), (1, .obj [pI 0, pI 0, pI 0, pI 0, pI 0, pNil, pNil, p16 0, p16 0])]) (H3 := [(0, .obj [pS 1 false encI L, pN (tStep L (tStep L (tStep L (tStep L a 12) 70) 65536) 65536)]), (3, .obj [pI e1, pI 0, pI 0, pI 0, pI 0, pNil, pNil, p16 0, p16 0]), (2, oB true 1 encI fnsL), (1, .obj [pI 0, pI 0, pI 0, pI 0, pI 0, pNil, pNil, p16 0, p16 0])]) [0] [.obj [pS 1 false encI L, pN (tStep L (tStep L (tStep L a 12) 70) 65536)]] rfl rfl rfl (handed_of (by decide) ⟨rfl, trivial⟩) rfl rfl rfl rfl rfl rfl (w_burgagekeep_Tape_Next L false (tStep L (tStep L (tStep L a 12) 70) 65536) 65536 (by first | omega | assumption | (simp; omega) | decide | (simp; done)) (by first | omega | assumption | (simp; omega) | decide | (simp; done))) rfl (dist_of rfl) rfl rfl rfl rfl ?_)
           refine qo hnt rfl (s_cv16 tab_3 tab_47 rfl rfl rfl ?_)
           refine qo hnt rfl (s_fa_ptr tab_107 rfl rfl tab_3 (by decide) rfl ?_)
           refine qo hnt rfl (s_store_ptr tab_3 rfl rfl rfl rfl rfl (Nat.le_of_ble_eq_true rfl) ?_)
           refine qo hnt rfl (s_fa_ptr tab_107 rfl rfl tab_47 (by decide) rfl ?_)
           refine qo hnt rfl (s_store_ptr tab_47 rfl rfl rfl rfl rfl (Nat.le_of_ble_eq_true rfl) ?_)
           refine qo hnt rfl (s_fa_ptr tab_107 rfl rfl tab_47 (by decide) rfl ?_)
           refine qo hnt rfl (s_store_ptr tab_47 rfl rfl rfl rfl rfl (Nat.le_of_ble_eq_true rfl) ?_)
           refine r_set [(2, PV.ptr 1 0), (3, PV.ptr 3 0)] [(3, .obj [pI e1, pI (tNext L (tStep L a 12) 70), pI 0, pI 0, pI 0, pNil, pNil, p16 (u16I (tNext L (tStep L (tStep L a 12) 70) 65536)), p16 (u16I (tNext L (tStep L (tStep L (tStep L a 12) 70) 65536) 65536))]), (0, .obj [pS 1 false encI L, pN (tStep L (tStep L (tStep L (tStep L a 12) 70) 65536) 65536)]), (2, oB true 1 encI fnsL), (1, .obj [pI 0, pI 0, pI 0, pI 0, pI 0, pNil, pNil, p16 0, p16 0])] 4 ⟨rfl, rfl, trivial⟩ rfl rfl ?_
           refine r_end ?_
           refine q_block ?_
           refine q_then ?_
           refine w_seq ?_
           refine w_R ?_
           refine qo hnt rfl (s_load_ptr tab_107 rfl rfl rfl (Nat.le_of_ble_eq_true rfl) ?_)
           refine qo hnt rfl (s_store_ptr tab_107 rfl rfl rfl rfl rfl (Nat.le_of_ble_eq_true rfl) ?_)
           refine r_set [(2, PV.ptr 1 0)] [(1, .obj [pI e1, pI (tNext L (tStep L a 12) 70), pI 0, pI 0, pI 0, pNil, pNil, p16 (u16I (tNext L (tStep L (tStep L a 12) 70) 65536)), p16 (u16I (tNext L (tStep L (tStep L (tStep L a 12) 70) 65536) 65536))]), (3, .obj [pI e1, pI (tNext L (tStep L a 12) 70), pI 0, pI 0, pI 0, pNil, pNil, p16 (u16I (tNext L (tStep L (tStep L a 12) 70) 65536)), p16 (u16I (tNext L (tStep L (tStep L (tStep L a 12) 70) 65536) 65536))]), (0, .obj [pS 1 false encI L, pN (tStep L (tStep L (tStep L (tStep L a 12) 70) 65536) 65536)]), (2, oB true 1 encI fnsL)] 4 ⟨rfl, trivial⟩ rfl rfl ?_
           refine r_end ?_
           refine q_then ?_
           refine w_leC (n := 1) (j := 5) (y := pS 1 false encBo []) rfl rfl (le_nilS 1 false) ?_
           refine w_leC (n := 1) (j := 6) (y := pS 1 false enc16 []) rfl rfl (le_nilS 1 false) ?_
           refine w_ret ?_
           have hex : rightR (⟨e1, tNext L (tStep L a 12) 70, 0, 0, 0, [], [], u16I (tNext L (tStep L (tStep L a 12) 70) 65536), u16I (tNext L (tStep L (tStep L (tStep L a 12) 70) 65536) 65536)⟩ : TRequest) = 0 ∧ (⟨e1, tNext L (tStep L a 12) 70, 0, 0, 0, [], [], u16I (tNext L (tStep L (tStep L a 12) 70) 65536), u16I (tNext L (tStep L (tStep L (tStep L a 12) 70) 65536) 65536)⟩ : TRequest).bits.length ≤ 25 ∧ (⟨e1, tNext L (tStep L a 12) 70, 0, 0, 0, [], [], u16I (tNext L (tStep L (tStep L a 12) 70) 65536), u16I (tNext L (tStep L (tStep L (tStep L a 12) 70) 65536) 65536)⟩ : TRequest).vals.length ≤ 25 ∧ 0 ≤ (⟨e1, tNext L (tStep L a 12) 70, 0, 0, 0, [], [], u16I (tNext L (tStep L (tStep L a 12) 70) 65536), u16I (tNext L (tStep L (tStep L (tStep L a 12) 70) 65536) 65536)⟩ : TRequest).count ∧ (⟨e1, tNext L (tStep L a 12) 70, 0, 0, 0, [], [], u16I (tNext L (tStep L (tStep L a 12) 70) 65536), u16I (tNext L (tStep L (tStep L (tStep L a 12) 70) 65536) 65536)⟩ : TRequest).count ≤ 25 := by
             refine ⟨(shapeR_iff (q := _) hfn).2 ?_, by simp; try omega, by simp; try omega, by simp; try omega, by simp; try omega⟩
             constructor
             case bits => simp only; first | rfl | (rw [if_neg (by omega), if_neg (by omega)]; rfl) | (rw [if_pos (by omega)]; rfl) | (rw [if_neg (by omega), if_pos (by omega)]; exact ⟨by omega, by omega⟩)
             case vals => simp only; first | rfl | (rw [if_neg (by omega), if_neg (by omega), if_neg (by omega)]; rfl) | (rw [if_pos (by omega)]; rfl) | (rw [if_neg (by omega), if_pos (by omega)]; exact ⟨by omega, by omega⟩) | (rw [if_neg (by omega), if_neg (by omega), if_pos (by omega)]; omega)
             all_goals first | (intro _; rfl) | (intro _; exact ⟨rfl, rfl⟩) | (simp only; omega) | (intro h; simp at h) | (intro h; exact absurd rfl h) | (simp; omega)
           exact fin_names (nx1 := 1) (H1 := [(0, .obj [pS 1 false encI L, pN (tStep L (tStep L (tStep L (tStep L a 12) 70) 65536) 65536)])]) [(0, 0)] (ret_cell tab_107 (by decide) rfl rfl (Nat.le_of_ble_eq_true rfl) rfl ret_nil) rfl (by decide) ⟨⟨_, _, rfl, rfl, rfl, rfl⟩, trivial⟩ (by decide) rfl ⟨((⟨e1, tNext L (tStep L a 12) 70, 0, 0, 0, [], [], u16I (tNext L (tStep L (tStep L a 12) 70) 65536), u16I (tNext L (tStep L (tStep L (tStep L a 12) 70) 65536) 65536)⟩ : TRequest)), (tStep L (tStep L (tStep L (tStep L a 12) 70) 65536) 65536), hex, rfl, rfl, rfl⟩
          ·
           have c12_ := c12
           try simp only [sB] at c12
           refine w_seq ?_
           refine w_R ?_
           refine qo hnt rfl (s_eql rfl rfl ?_)
           refine qa hnt rfl rfl ?_
           refine r_end ?_
           refine q_then ?_
           refine w_if rfl (fun c13 => ?_) (fun c13 => ?_)
           ·
            have c13_ := c13
            try simp only [sB] at c13
            refine w_seq ?_
            have h20 := tNext_lt L (tStep L (tStep L a 12) 70) (n := 20) (by decide)
            have h40 := tNext_lt L (tStep L (tStep L (tStep L a 12) 70) 20) (n := 40) (by decide)
            refine w_R ?_
            refine qm hnt rfl rfl ?_
            refine qm hnt rfl rfl ?_
            refine qo hnt rfl (s_callX (r2 := pI (tNext L (tStep L (tStep L a 12) 70) 20)) (nx1 := 4) (H2 := [(0, .obj [pS 1 false encI L, pN (tStep L (tStep L a 12) 70)]), (3, .obj [pI e1, pI 0, pI 0, pI 0, pI 0, pNil, pNil, p16 0, p16 0]), (2, oB true 1 encI fnsL), (1, .obj [pI 0, pI 0, pI 0, pI 0, pI 0, pNil, pNil, p16 0, p16 0])]) (H3 := [(0, .obj [pS 1 false encI L, pN (tStep L (tStep L (tStep L a 12) 70) 20)]), (3, .obj [pI e1, pI 0, pI 0, pI 0, pI 0, pNil, pNil, p16 0, p16 0]), (2, oB true 1 encI fnsL), (1, .obj [pI 0, pI 0, pI 0, pI 0, pI 0, pNil, pNil, p16 0, p16 0])]) [0] [.obj [pS 1 false encI L, pN (tStep L (tStep L a 12) 70)]] rfl rfl rfl (handed_of (by decide) ⟨rfl, trivial⟩) rfl rfl rfl rfl rfl rfl (w_burgagekeep_Tape_Next L false (tStep L (tStep L a 12) 70) 20 (by first | omega | assumption | (simp; omega) | decide | (simp; done)) (by first | omega | assumption | (simp; omega) | decide | (simp; done))) rfl (dist_of rfl) rfl rfl rfl rfl ?_)
            refine qm hnt rfl rfl ?_
            refine qo hnt rfl (s_callX (r2 := pI (tNext L (tStep L (tStep L (tStep L a 12) 70) 20) 40)) (nx1 := 4) (H2 := [(0, .obj [pS 1 false encI L, pN (tStep L (tStep L (tStep L a 12) 70) 20)]), (3, .obj [pI e1, pI 0, pI 0, pI 0, pI 0, pNil, pNil, p16 0, p16 0]), (2, oB true 1 encI fnsL), (1, .obj [pI 0, pI 0, pI 0, pI 0, pI 0, pNil, pNil, p16 0, p16 0])]) (H3 := [(0, .obj [pS 1 false encI L, pN (tStep L (tStep L (tStep L (tStep L a 12) 70) 20) 40)]), (3, .obj [pI e1, pI 0, pI 0, pI 0, pI 0, pNil, pNil, p16 0, p16 0]), (2, oB true 1 encI fnsL), (1, .obj [pI 0, pI 0, pI 0, pI 0, pI 0, pNil, pNil, p16 0, p16 0])]) [0] [.obj [pS 1 false encI L, pN (tStep L (tStep L (tStep L a 12) 70) 20)]] rfl rfl rfl (handed_of (by decide) ⟨rfl, trivial⟩) rfl rfl rfl rfl rfl rfl (w_burgagekeep_Tape_Next L false (tStep L (tStep L (tStep L a 12) 70) 20) 40 (by first | omega | assumption | (simp; omega) | decide | (simp; done)) (by first | omega | assumption | (simp; omega) | decide | (simp; done))) rfl (dist_of rfl) rfl rfl rfl rfl ?_)
            refine qo hnt rfl (s_fa_ptr tab_107 rfl rfl tab_3 (by decide) rfl ?_)
            refine qo hnt rfl (s_store_ptr tab_3 rfl rfl rfl rfl rfl (Nat.le_of_ble_eq_true rfl) ?_)
            refine qo hnt rfl (s_fa_ptr tab_107 rfl rfl tab_3 (by decide) rfl ?_)
            refine qo hnt rfl (s_store_ptr tab_3 rfl rfl rfl rfl rfl (Nat.le_of_ble_eq_true rfl) ?_)
            refine qo hnt rfl (s_fa_ptr tab_107 rfl rfl tab_3 (by decide) rfl ?_)
            refine qo hnt rfl (s_store_ptr tab_3 rfl rfl rfl rfl rfl (Nat.le_of_ble_eq_true rfl) ?_)
            refine r_set [(0, PV.ptr 0 0), (2, PV.ptr 1 0), (3, PV.ptr 3 0)] [(3, .obj [pI e1, pI (tNext L (tStep L a 12) 70), pI (tNext L (tStep L (tStep L a 12) 70) 20), pI (tNext L (tStep L (tStep L (tStep L a 12) 70) 20) 40), pI 0, pNil, pNil, p16 0, p16 0]), (0, .obj [pS 1 false encI L, pN (tStep L (tStep L (tStep L (tStep L a 12) 70) 20) 40)]), (2, oB true 1 encI fnsL), (1, .obj [pI 0, pI 0, pI 0, pI 0, pI 0, pNil, pNil, p16 0, p16 0])] 4 ⟨rfl, rfl, rfl, trivial⟩ rfl rfl ?_
            refine r_end ?_
            refine q_then ?_
            refine w_seq ?_
            have h22 := tNext_lt L (tStep L (tStep L (tStep L (tStep L a 12) 70) 20) 40) (n := 20) (by decide)
            refine w_R ?_
            refine qm hnt rfl rfl ?_
            refine qo hnt rfl (s_callX (r2 := pI (tNext L (tStep L (tStep L (tStep L (tStep L a 12) 70) 20) 40) 20)) (nx1 := 4) (H2 := [(3, .obj [pI e1, pI (tNext L (tStep L a 12) 70), pI (tNext L (tStep L (tStep L a 12) 70) 20), pI (tNext L (tStep L (tStep L (tStep L a 12) 70) 20) 40), pI 0, pNil, pNil, p16 0, p16 0]), (0, .obj [pS 1 false encI L, pN (tStep L (tStep L (tStep L (tStep L a 12) 70) 20) 40)]), (2, oB true 1 encI fnsL), (1, .obj [pI 0, pI 0, pI 0, pI 0, pI 0, pNil, pNil, p16 0, p16 0])]) (H3 := [(0, .obj [pS 1 false encI L, pN (tStep L (tStep L (tStep L (tStep L (tStep L a 12) 70) 20) 40) 20)]), (3, .obj [pI e1, pI (tNext L (tStep L a 12) 70), pI (tNext L (tStep L (tStep L a 12) 70) 20), pI (tNext L (tStep L (tStep L (tStep L a 12) 70) 20) 40), pI 0, pNil, pNil, p16 0, p16 0]), (2, oB true 1 encI fnsL), (1, .obj [pI 0, pI 0, pI 0, pI 0, pI 0, pNil, pNil, p16 0, p16 0])]) [0] [.obj [pS 1 false encI L, pN (tStep L (tStep L (tStep L (tStep L a 12) 70) 20) 40)]] rfl rfl rfl (handed_of (by decide) ⟨rfl, trivial⟩) rfl rfl rfl rfl rfl rfl (w_burgagekeep_Tape_Next L false (tStep L (tStep L (tStep L (tStep L a 12) 70) 20) 40) 20 (by first | omega | assumption | (simp; omega) | decide | (simp; done)) (by first | omega | assumption | (simp; omega) | decide | (simp; done))) rfl (dist_of rfl) rfl rfl rfl rfl ?_)
            refine qa hnt rfl rfl ?_
            refine r_set [(0, PV.ptr 0 0), (2, PV.ptr 1 0), (3, PV.ptr 3 0), (7, pI (tNext L (tStep L (tStep L (tStep L (tStep L a 12) 70) 20) 40) 20))] [(0, .obj [pS 1 false encI L, pN (tStep L (tStep L (tStep L (tStep L (tStep L a 12) 70) 20) 40) 20)]), (3, .obj [pI e1, pI (tNext L (tStep L a 12) 70), pI (tNext L (tStep L (tStep L a 12) 70) 20), pI (tNext L (tStep L (tStep L (tStep L a 12) 70) 20) 40), pI 0, pNil, pNil, p16 0, p16 0]), (2, oB true 1 encI fnsL), (1, .obj [pI 0, pI 0, pI 0, pI 0, pI 0, pNil, pNil, p16 0, p16 0])] 4 ⟨rfl, rfl, rfl, rfl, trivial⟩ rfl rfl ?_
            refine r_end ?_
            refine q_then ?_
            refine w_block ?_
            refine w_adoptC (n := 3) (j := 6) (sz := 1) rfl rfl rfl ?_
            refine loop3 (fun (ap : Nat) (os : List UInt16) (k : Int) => (os.length : Int) + k ≤ 19 ∧ 0 ≤ k) (fun (ap : Nat) (os : List UInt16) (k : Int) => [(0, PV.ptr 0 0), (2, PV.ptr 3 0), (3, PV.ptr 1 0), (7, pI k)]) 4 (fun (ap : Nat) (os : List UInt16) (k : Int) => [(0, .obj [pS 1 false encI L, pN ap]), (1, .obj [pI e1, pI (tNext L (tStep L a 12) 70), pI (tNext L (tStep L (tStep L a 12) 70) 20), pI (tNext L (tStep L (tStep L (tStep L a 12) 70) 20) 40), pI 0, pNil, PV.ref 2 0 none, p16 0, p16 0]), (2, oB true 1 enc16 os), (3, .obj [pI 0, pI 0, pI 0, pI 0, pI 0, pNil, pNil, p16 0, p16 0])]) (fun (ap : Nat) (os : List UInt16) (k : Int) => k.toNat) (tStep L (tStep L (tStep L (tStep L (tStep L a 12) 70) 20) 40) 20) (([] : List UInt16)) (tNext L (tStep L (tStep L (tStep L (tStep L a 12) 70) 20) 40) 20) ?_ ⟨[(0, 0), (1, 3), (2, 4), (3, 1)], by rw [hk]; decide, ⟨⟨_, rfl, rfl, rfl⟩, ⟨_, rfl, rfl, rfl⟩, ⟨_, rfl, rfl, rfl⟩, ⟨_, rfl, rfl, rfl⟩, trivial⟩, ⟨⟨_, _, rfl, rfl, rfl, rfl⟩, ⟨_, _, rfl, rfl, rfl, rfl⟩, ⟨_, _, rfl, rfl, rfl, rfl⟩, ⟨_, _, rfl, rfl, rfl, rfl⟩, trivial⟩, by rw [hk]; decide⟩ ?_
            · exact ⟨by simp; omega, by omega⟩
            ·
             intro ap os k hI
             obtain ⟨hkm, hk0⟩ := hI
             refine w_seq ?_
             refine w_seq ?_
             refine w_R ?_
             refine qm hnt rfl rfl ?_
             refine qo hnt rfl (s_gtr rfl rfl ?_)
             refine r_end ?_
             refine q_then ?_
             refine w_if rfl (fun c14 => ?_) (fun c14 => ?_)
             ·
              have c14_ := c14
              try simp only [sB] at c14
              refine w_skip ?_
              refine q_then ?_
              refine w_seq ?_
              refine w_block ?_
              refine W_drawn tabOk mixed hnt [[], [0], [], [2], [2, 3], [2, 3, 4], [0, 1, 2, 3, 4, 5], [0, 1, 2, 3, 4, 5, 6], [0, 1, 2, 3, 4, 5, 6, 7]] (by kernel_rfl) ?_
              refine d_op ?_
              refine x_run0 [(3, PV.ptr 1 0)] [] rfl rfl rfl rfl (s_fa_ptr tab_107 rfl rfl tab_45 (by decide) rfl ⟨rfl, rfl, rfl⟩) ?_
              refine d_op ?_
              refine x_run [(131, PV.ptr 1 6)] [0] [(1, .obj [pI e1, pI (tNext L (tStep L a 12) 70), pI (tNext L (tStep L (tStep L a 12) 70) 20), pI (tNext L (tStep L (tStep L (tStep L a 12) 70) 20) 40), pI 0, pNil, PV.ref 2 0 none, p16 0, p16 0])] [] [(1, .obj [pI e1, pI (tNext L (tStep L a 12) 70), pI (tNext L (tStep L (tStep L a 12) 70) 20), pI (tNext L (tStep L (tStep L (tStep L a 12) 70) 20) 40), pI 0, pNil, PV.ref 2 0 none, p16 0, p16 0])] [] [(0, .obj [pS 1 false encI L, pN ap]), (1, .obj [pI e1, pI (tNext L (tStep L a 12) 70), pI (tNext L (tStep L (tStep L a 12) 70) 20), pI (tNext L (tStep L (tStep L (tStep L a 12) 70) 20) 40), pI 0, pNil, PV.ref 2 0 none, p16 0, p16 0]), (2, oB true 1 enc16 os), (3, .obj [pI 0, pI 0, pI 0, pI 0, pI 0, pNil, pNil, p16 0, p16 0])] rfl rfl rfl rfl rfl rfl (s_load_ptr1 tab_45 rfl rfl rfl rfl rfl ⟨rfl, rfl, rfl⟩) rfl ⟨rfl, trivial⟩ rfl rfl ?_
              refine d_op ?_
              refine x_run0 [(0, PV.ptr 0 0)] [] rfl rfl rfl rfl (s_move rfl ⟨rfl, rfl, rfl⟩) ?_
              refine d_op ?_
              refine x_run [(133, PV.ptr 0 0)] [2] [] [(0, .obj [pS 1 false encI L, pN ap])] [(0, .obj [pS 1 false encI L, pN (tStep L ap 65536)])] [(0, .obj [pS 1 false encI L, pN (tStep L ap 65536)])] [(0, .obj [pS 1 false encI L, pN (tStep L ap 65536)]), (1, .obj [pI e1, pI (tNext L (tStep L a 12) 70), pI (tNext L (tStep L (tStep L a 12) 70) 20), pI (tNext L (tStep L (tStep L (tStep L a 12) 70) 20) 40), pI 0, pNil, PV.ref 2 0 none, p16 0, p16 0]), (2, oB true 1 enc16 os), (3, .obj [pI 0, pI 0, pI 0, pI 0, pI 0, pNil, pNil, p16 0, p16 0])] rfl rfl rfl rfl rfl rfl (s_callX (r2 := pI (tNext L ap 65536)) (nx1 := 4) (H2 := [(0, .obj [pS 1 false encI L, pN ap])]) (H3 := [(0, .obj [pS 1 false encI L, pN (tStep L ap 65536)])]) [0] [.obj [pS 1 false encI L, pN ap]] rfl rfl rfl (handed_of (by decide) ⟨rfl, trivial⟩) rfl rfl rfl rfl rfl rfl (w_burgagekeep_Tape_Next L false ap 65536 (by first | omega | assumption | (simp; omega) | decide | (simp; done)) (by first | omega | assumption | (simp; omega) | decide | (simp; done))) rfl (dist_of rfl) rfl rfl rfl rfl ⟨rfl, rfl, rfl⟩) rfl trivial rfl rfl ?_
              refine d_op ?_
              refine x_run0 [(134, pI (tNext L ap 65536))] [2, 3] rfl rfl rfl rfl (s_cv16 tab_3 tab_47 rfl rfl rfl ⟨rfl, rfl, rfl⟩) ?_
              refine d_op ?_
              refine x_run [(135, p16 (u16I (tNext L ap 65536)))] [2, 3, 4] [] [] [(4, oB true 1 enc16 [u16I (tNext L ap 65536)])] [(4, oB true 1 enc16 [u16I (tNext L ap 65536)])] [(4, oB true 1 enc16 [u16I (tNext L ap 65536)]), (0, .obj [pS 1 false encI L, pN (tStep L ap 65536)]), (1, .obj [pI e1, pI (tNext L (tStep L a 12) 70), pI (tNext L (tStep L (tStep L a 12) 70) 20), pI (tNext L (tStep L (tStep L (tStep L a 12) 70) 20) 40), pI 0, pNil, PV.ref 2 0 none, p16 0, p16 0]), (2, oB true 1 enc16 os), (3, .obj [pI 0, pI 0, pI 0, pI 0, pI 0, pNil, pNil, p16 0, p16 0])] rfl rfl rfl rfl rfl rfl (s_mkM (f := enc16) [u16I (tNext L ap 65536)] tab_45 rfl tab_47 ⟨rfl, by decide⟩ (by decide) rfl rfl rfl rfl ⟨rfl, rfl, rfl⟩) rfl trivial rfl rfl ?_
              refine d_op ?_
              refine x_run [(132, PV.ref 2 0 none), (136, PV.ref 4 0 none)] [0, 1, 2, 3, 4, 5] [(4, oB true 1 enc16 [u16I (tNext L ap 65536)])] [(2, oB true 1 enc16 os)] [(5, oB true 1 enc16 (os ++ [u16I (tNext L ap 65536)])), (4, oB true 1 enc16 [u16I (tNext L ap 65536)])] [(5, oB true 1 enc16 (os ++ [u16I (tNext L ap 65536)]))] [(5, oB true 1 enc16 (os ++ [u16I (tNext L ap 65536)])), (4, oB true 1 enc16 [u16I (tNext L ap 65536)]), (0, .obj [pS 1 false encI L, pN (tStep L ap 65536)]), (1, .obj [pI e1, pI (tNext L (tStep L a 12) 70), pI (tNext L (tStep L (tStep L a 12) 70) 20), pI (tNext L (tStep L (tStep L (tStep L a 12) 70) 20) 40), pI 0, pNil, PV.ref 2 0 none, p16 0, p16 0]), (3, .obj [pI 0, pI 0, pI 0, pI 0, pI 0, pNil, pNil, p16 0, p16 0])] rfl rfl rfl rfl rfl rfl (s_appR0 (f := enc16) (l := os) (xs := [u16I (tNext L ap 65536)]) tab_45 rfl tab_47 ⟨rfl, by decide, by decide⟩ (srcM tab_45 rfl (hM_ref0 (f := enc16) rfl rfl)) rfl rfl (by first | omega | (simp; omega)) ⟨rfl, rfl, rfl⟩) rfl ⟨rfl, trivial⟩ rfl rfl ?_
              refine d_op ?_
              refine x_run0 [(3, PV.ptr 1 0)] [0, 1, 2, 3, 4, 5, 6] rfl rfl rfl rfl (s_fa_ptr tab_107 rfl rfl tab_45 (by decide) rfl ⟨rfl, rfl, rfl⟩) ?_
              refine d_op ?_
              refine x_run [(138, PV.ptr 1 6), (137, PV.ref 5 0 none)] [0, 1, 2, 3, 4, 5, 6, 7] [] [(1, .obj [pI e1, pI (tNext L (tStep L a 12) 70), pI (tNext L (tStep L (tStep L a 12) 70) 20), pI (tNext L (tStep L (tStep L (tStep L a 12) 70) 20) 40), pI 0, pNil, PV.ref 2 0 none, p16 0, p16 0])] [(1, .obj [pI e1, pI (tNext L (tStep L a 12) 70), pI (tNext L (tStep L (tStep L a 12) 70) 20), pI (tNext L (tStep L (tStep L (tStep L a 12) 70) 20) 40), pI 0, pNil, PV.ref 5 0 none, p16 0, p16 0])] [(1, .obj [pI e1, pI (tNext L (tStep L a 12) 70), pI (tNext L (tStep L (tStep L a 12) 70) 20), pI (tNext L (tStep L (tStep L (tStep L a 12) 70) 20) 40), pI 0, pNil, PV.ref 5 0 none, p16 0, p16 0])] [(1, .obj [pI e1, pI (tNext L (tStep L a 12) 70), pI (tNext L (tStep L (tStep L a 12) 70) 20), pI (tNext L (tStep L (tStep L (tStep L a 12) 70) 20) 40), pI 0, pNil, PV.ref 5 0 none, p16 0, p16 0]), (5, oB true 1 enc16 (os ++ [u16I (tNext L ap 65536)])), (4, oB true 1 enc16 [u16I (tNext L ap 65536)]), (0, .obj [pS 1 false encI L, pN (tStep L ap 65536)]), (3, .obj [pI 0, pI 0, pI 0, pI 0, pI 0, pNil, pNil, p16 0, p16 0])] rfl rfl rfl rfl rfl rfl (s_store_ptr tab_45 rfl rfl rfl rfl rfl (Nat.le_of_ble_eq_true rfl) ⟨rfl, rfl, rfl⟩) rfl trivial rfl rfl ?_
              refine d_end ⟨by kernel_rfl, ?_⟩
              refine q_block ?_
              refine q_then ?_
              refine w_R ?_
              refine qm hnt rfl rfl ?_
              refine qo hnt rfl (s_subi (r := k - 1) rfl rfl rfl (by omega) ?_)
              refine qa hnt rfl rfl ?_
              refine r_end ?_
              refine q_then ?_
              refine ⟨(tStep L ap 65536), (os ++ [u16I (tNext L ap 65536)]), (k - 1), ?_, ?_, ⟨[(0, 0), (1, 1), (2, 5), (3, 3)], by rw [hk]; decide, ⟨⟨_, rfl, rfl, rfl⟩, ⟨_, rfl, rfl, rfl⟩, ⟨_, rfl, rfl, rfl⟩, ⟨_, rfl, rfl, rfl⟩, trivial⟩, ⟨⟨_, _, rfl, rfl, rfl, rfl⟩, ⟨_, _, rfl, rfl, rfl, rfl⟩, ⟨_, _, rfl, rfl, rfl, rfl⟩, ⟨_, _, rfl, rfl, rfl, rfl⟩, trivial⟩, by rw [hk]; decide⟩⟩
              ·
               exact ⟨by simp; omega, by omega⟩
              · omega
             ·
              have c14_ := c14
              try simp only [sB] at c14
              refine w_exit ?_
              refine q_then_exit ?_
              refine q_then_exit ?_
              refine q_block_exit ?_
              refine q_block ?_
              refine q_then ?_
              refine w_seq ?_
              refine w_R ?_
              refine qo hnt rfl (s_load_ptr tab_107 rfl rfl rfl (Nat.le_of_ble_eq_true rfl) ?_)
              refine qo hnt rfl (s_store_ptr tab_107 rfl rfl rfl rfl rfl (Nat.le_of_ble_eq_true rfl) ?_)
              refine r_set [(2, PV.ptr 3 0)] [(3, .obj [pI e1, pI (tNext L (tStep L a 12) 70), pI (tNext L (tStep L (tStep L a 12) 70) 20), pI (tNext L (tStep L (tStep L (tStep L a 12) 70) 20) 40), pI 0, pNil, PV.ref 2 0 none, p16 0, p16 0]), (0, .obj [pS 1 false encI L, pN ap]), (1, .obj [pI e1, pI (tNext L (tStep L a 12) 70), pI (tNext L (tStep L (tStep L a 12) 70) 20), pI (tNext L (tStep L (tStep L (tStep L a 12) 70) 20) 40), pI 0, pNil, PV.ref 2 0 none, p16 0, p16 0]), (2, oB true 1 enc16 os)] 4 ⟨rfl, trivial⟩ rfl rfl ?_
              refine r_end ?_
              refine q_then ?_
              refine w_leC (n := 3) (j := 5) (y := pS 1 false encBo []) rfl rfl (le_nilS 1 false) ?_
              refine w_frzC (n := 3) (j := 6) rfl rfl rfl rfl ?_
              refine w_ret ?_
              have hex : rightR (⟨e1, tNext L (tStep L a 12) 70, tNext L (tStep L (tStep L a 12) 70) 20, tNext L (tStep L (tStep L (tStep L a 12) 70) 20) 40, 0, [], os, 0, 0⟩ : TRequest) = 0 ∧ (⟨e1, tNext L (tStep L a 12) 70, tNext L (tStep L (tStep L a 12) 70) 20, tNext L (tStep L (tStep L (tStep L a 12) 70) 20) 40, 0, [], os, 0, 0⟩ : TRequest).bits.length ≤ 25 ∧ (⟨e1, tNext L (tStep L a 12) 70, tNext L (tStep L (tStep L a 12) 70) 20, tNext L (tStep L (tStep L (tStep L a 12) 70) 20) 40, 0, [], os, 0, 0⟩ : TRequest).vals.length ≤ 25 ∧ 0 ≤ (⟨e1, tNext L (tStep L a 12) 70, tNext L (tStep L (tStep L a 12) 70) 20, tNext L (tStep L (tStep L (tStep L a 12) 70) 20) 40, 0, [], os, 0, 0⟩ : TRequest).count ∧ (⟨e1, tNext L (tStep L a 12) 70, tNext L (tStep L (tStep L a 12) 70) 20, tNext L (tStep L (tStep L (tStep L a 12) 70) 20) 40, 0, [], os, 0, 0⟩ : TRequest).count ≤ 25 := by
                refine ⟨(shapeR_iff (q := _) hfn).2 ?_, by simp; try omega, by simp; try omega, by simp; try omega, by simp; try omega⟩
                constructor
                case bits => simp only; first | rfl | (rw [if_neg (by omega), if_neg (by omega)]; rfl) | (rw [if_pos (by omega)]; rfl) | (rw [if_neg (by omega), if_pos (by omega)]; exact ⟨by omega, by omega⟩)
                case vals => simp only; first | rfl | (rw [if_neg (by omega), if_neg (by omega), if_neg (by omega)]; rfl) | (rw [if_pos (by omega)]; rfl) | (rw [if_neg (by omega), if_pos (by omega)]; exact ⟨by omega, by omega⟩) | (rw [if_neg (by omega), if_neg (by omega), if_pos (by omega)]; omega)
                all_goals first | (intro _; rfl) | (intro _; exact ⟨rfl, rfl⟩) | (simp only; omega) | (intro h; simp at h) | (intro h; exact absurd rfl h) | (simp; omega)
              exact fin_names (nx1 := 1) (H1 := [(0, .obj [pS 1 false encI L, pN ap])]) [(0, 0)] (ret_cell tab_107 (by decide) rfl rfl (Nat.le_of_ble_eq_true rfl) rfl ret_nil) rfl (by decide) ⟨⟨_, _, rfl, rfl, rfl, rfl⟩, trivial⟩ (by decide) rfl ⟨((⟨e1, tNext L (tStep L a 12) 70, tNext L (tStep L (tStep L a 12) 70) 20, tNext L (tStep L (tStep L (tStep L a 12) 70) 20) 40, 0, [], os, 0, 0⟩ : TRequest)), (ap), hex, rfl, rfl, rfl⟩
           ·
            have c13_ := c13
            try simp only [sB] at c13
            refine w_skip ?_
            refine q_block ?_
            refine q_then ?_
            refine w_seq ?_
            refine w_R ?_
            refine qo hnt rfl (s_load_ptr tab_107 rfl rfl rfl (Nat.le_of_ble_eq_true rfl) ?_)
            refine qo hnt rfl (s_store_ptr tab_107 rfl rfl rfl rfl rfl (Nat.le_of_ble_eq_true rfl) ?_)
            refine r_set [(2, PV.ptr 1 0)] [(1, .obj [pI e1, pI 0, pI 0, pI 0, pI 0, pNil, pNil, p16 0, p16 0]), (0, .obj [pS 1 false encI L, pN (tStep L (tStep L a 12) 70)]), (3, .obj [pI e1, pI 0, pI 0, pI 0, pI 0, pNil, pNil, p16 0, p16 0]), (2, oB true 1 encI fnsL)] 4 ⟨rfl, trivial⟩ rfl rfl ?_
            refine r_end ?_
            refine q_then ?_
            refine w_leC (n := 1) (j := 5) (y := pS 1 false encBo []) rfl rfl (le_nilS 1 false) ?_
            refine w_leC (n := 1) (j := 6) (y := pS 1 false enc16 []) rfl rfl (le_nilS 1 false) ?_
            refine w_ret ?_
            have hex : rightR (⟨e1, 0, 0, 0, 0, [], [], 0, 0⟩ : TRequest) = 0 ∧ (⟨e1, 0, 0, 0, 0, [], [], 0, 0⟩ : TRequest).bits.length ≤ 25 ∧ (⟨e1, 0, 0, 0, 0, [], [], 0, 0⟩ : TRequest).vals.length ≤ 25 ∧ 0 ≤ (⟨e1, 0, 0, 0, 0, [], [], 0, 0⟩ : TRequest).count ∧ (⟨e1, 0, 0, 0, 0, [], [], 0, 0⟩ : TRequest).count ≤ 25 := by
              refine ⟨(shapeR_iff (q := _) hfn).2 ?_, by simp; try omega, by simp; try omega, by simp; try omega, by simp; try omega⟩
              constructor
              case bits => simp only; first | rfl | (rw [if_neg (by omega), if_neg (by omega)]; rfl) | (rw [if_pos (by omega)]; rfl) | (rw [if_neg (by omega), if_pos (by omega)]; exact ⟨by omega, by omega⟩)
              case vals => simp only; first | rfl | (rw [if_neg (by omega), if_neg (by omega), if_neg (by omega)]; rfl) | (rw [if_pos (by omega)]; rfl) | (rw [if_neg (by omega), if_pos (by omega)]; exact ⟨by omega, by omega⟩) | (rw [if_neg (by omega), if_neg (by omega), if_pos (by omega)]; omega)
              all_goals first | (intro _; rfl) | (intro _; exact ⟨rfl, rfl⟩) | (simp only; omega) | (intro h; simp at h) | (intro h; exact absurd rfl h) | (simp; omega)
            exact fin_names (nx1 := 1) (H1 := [(0, .obj [pS 1 false encI L, pN (tStep L (tStep L a 12) 70)])]) [(0, 0)] (ret_cell tab_107 (by decide) rfl rfl (Nat.le_of_ble_eq_true rfl) rfl ret_nil) rfl (by decide) ⟨⟨_, _, rfl, rfl, rfl, rfl⟩, trivial⟩ (by decide) rfl ⟨((⟨e1, 0, 0, 0, 0, [], [], 0, 0⟩ : TRequest)), (tStep L (tStep L a 12) 70), hex, rfl, rfl, rfl⟩
end Go.Proofs.Ytfbmlnajnlekbaa
