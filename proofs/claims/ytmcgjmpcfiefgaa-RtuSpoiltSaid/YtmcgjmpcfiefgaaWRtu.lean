/- Walks: printed by a program of this session (wip/tools/walk2.py) out of its notes. -/
import Derived.Test.YtmcgjmpcfiefgaaWCrc
import Derived.Test.YtmcgjmpcfiefgaaSpecF
set_option linter.unusedVariables false
set_option linter.unusedSimpArgs false
set_option maxRecDepth 10000
set_option maxHeartbeats 1000000
namespace Go.Proofs.Ytmcgjmpcfiefgaa
open Go Go.Proofs.Ytmcgjmpcfiefgaa.Pv

theorem w_rtu_Frame (a : Int) (p : List UInt8) (cl_p : Bool) (hp : p.length ≤ 140737488355326) :
    T Try.prog 29 [pI a, pS 1 cl_p enc8 p] 0 [] (Ret (PV.tup [pS 1 false enc8 (frameV a p), pI (frameE a p)]) 0 []) := by
  refine t_fun tabOk (n := 27) (rs := [.tmp 4, .tmp 5]) Try.func29 rfl rfl rfl rfl (Nat.le_of_ble_eq_true rfl) ?_
  intro c hnt hk
  refine w_seq ?_
  refine w_R ?_
  refine r_op tabOk hnt rfl (s_assign rfl ?_) 
  refine r_op tabOk hnt rfl (s_assign rfl ?_) 
  refine r_end ?_
  refine q_then ?_
  refine w_seq ?_
  refine w_block ?_
  refine w_seq ?_
  refine w_R ?_
  refine r_op tabOk hnt rfl (s_move rfl ?_) 
  refine r_op tabOk hnt rfl (s_lss rfl rfl ?_) 
  refine r_op tabOk hnt rfl (s_move rfl ?_) 
  refine r_if tabOk hnt rfl rfl rfl (fun g1 => ?_) (fun g1 => ?_)
  ·
    have g1' := g1
    try simp only [decide_eq_true_eq, decide_eq_false_iff_not, Bool.not_eq_true', Bool.not_eq_false', Bool.not_true, Bool.not_false, Bool.not_eq_eq_eq_not, Int.not_lt, Int.not_le] at g1'
    refine r_op tabOk hnt rfl (s_move rfl ?_) 
    refine r_if tabOk hnt rfl rfl rfl (fun _ => ?_) (fun e => absurd (e.symm.trans g1) (by decide))
    refine r_op tabOk hnt rfl (s_gtr rfl rfl ?_) 
    refine r_op tabOk hnt rfl (s_pick_f rfl g1 rfl ?_) 
    refine r_op tabOk hnt rfl (s_assign rfl ?_) 
    refine r_end ?_
    refine q_then ?_
    refine w_if rfl (fun c1 => ?_) (fun c1 => ?_)
    ·
      have c1_ := c1
      try simp only [decide_eq_true_eq, decide_eq_false_iff_not, Bool.not_eq_true', Bool.not_eq_false', Bool.not_true, Bool.not_false, Bool.not_eq_eq_eq_not, Int.not_lt, Int.not_le] at c1
      refine w_seq ?_
      refine w_R ?_
      refine r_op tabOk hnt rfl (s_assign rfl ?_) 
      refine r_op tabOk hnt rfl (s_assign rfl ?_) 
      refine r_end ?_
      refine q_then ?_
      refine w_le (s := 4) (y := pS 1 false enc8 []) rfl (le_nilS 1 false) ?_
      refine w_le (s := 4) (y := pS 1 false enc8 (frameV a p)) rfl (le_of_eq (congrArg (fun z => pS 1 false enc8 z) (show [] = (frameV a p) by first | exact (frameE_arg (a := a) (p := p) (by omega)).1.symm | exact (frameE_arg (a := a) (p := p) (by omega)).2.symm | exact (frameE_short (a := a) (p := p) (by omega) (by omega)).1.symm | exact (frameE_short (a := a) (p := p) (by omega) (by omega)).2.symm | exact (frameE_long (a := a) (p := p) (by omega) (by omega) (by omega)).1.symm | exact (frameE_long (a := a) (p := p) (by omega) (by omega) (by omega)).2.symm | exact (frameE_ok (a := a) (p := p) (by omega) (by omega) (by omega)).1.symm | exact (frameE_ok (a := a) (p := p) (by omega) (by omega) (by omega)).2.symm))) ?_
      refine w_le (s := 5) (y := pI (frameE a p)) rfl (le_of_eq (congrArg (fun z : Int => pI z) (show 1 = (frameE a p) by first | exact (frameE_arg (a := a) (p := p) (by omega)).1.symm | exact (frameE_arg (a := a) (p := p) (by omega)).2.symm | exact (frameE_short (a := a) (p := p) (by omega) (by omega)).1.symm | exact (frameE_short (a := a) (p := p) (by omega) (by omega)).2.symm | exact (frameE_long (a := a) (p := p) (by omega) (by omega) (by omega)).1.symm | exact (frameE_long (a := a) (p := p) (by omega) (by omega) (by omega)).2.symm | exact (frameE_ok (a := a) (p := p) (by omega) (by omega) (by omega)).1.symm | exact (frameE_ok (a := a) (p := p) (by omega) (by omega) (by omega)).2.symm))) ?_
      refine w_ret ?_
      refine q_block_ret ?_
      refine q_then_ret ?_
      exact fin_plain (ret_tmp rfl (ret_tmp rfl ret_nil)) rfl rfl ⟨rfl, rfl, rfl⟩
    ·
      have c1_ := c1
      try simp only [decide_eq_true_eq, decide_eq_false_iff_not, Bool.not_eq_true', Bool.not_eq_false', Bool.not_true, Bool.not_false, Bool.not_eq_eq_eq_not, Int.not_lt, Int.not_le] at c1
      refine w_seq ?_
      refine w_R ?_
      refine r_op tabOk hnt rfl (s_move rfl ?_) 
      refine r_op tabOk hnt rfl (s_lenM (l := p) tab_41 rfl (hM_sl (f := enc8) rfl) ?_) 
      refine r_op tabOk hnt rfl (s_eql rfl rfl ?_) 
      refine r_op tabOk hnt rfl (s_assign rfl ?_) 
      refine r_end ?_
      refine q_then ?_
      refine w_if rfl (fun c2 => ?_) (fun c2 => ?_)
      ·
        have c2_ := c2
        try simp only [decide_eq_true_eq, decide_eq_false_iff_not, Bool.not_eq_true', Bool.not_eq_false', Bool.not_true, Bool.not_false, Bool.not_eq_eq_eq_not, Int.not_lt, Int.not_le] at c2
        refine w_seq ?_
        refine w_R ?_
        refine r_op tabOk hnt rfl (s_assign rfl ?_) 
        refine r_op tabOk hnt rfl (s_assign rfl ?_) 
        refine r_end ?_
        refine q_then ?_
        refine w_le (s := 4) (y := pS 1 false enc8 []) rfl (le_nilS 1 false) ?_
        refine w_le (s := 4) (y := pS 1 false enc8 (frameV a p)) rfl (le_of_eq (congrArg (fun z => pS 1 false enc8 z) (show [] = (frameV a p) by first | exact (frameE_arg (a := a) (p := p) (by omega)).1.symm | exact (frameE_arg (a := a) (p := p) (by omega)).2.symm | exact (frameE_short (a := a) (p := p) (by omega) (by omega)).1.symm | exact (frameE_short (a := a) (p := p) (by omega) (by omega)).2.symm | exact (frameE_long (a := a) (p := p) (by omega) (by omega) (by omega)).1.symm | exact (frameE_long (a := a) (p := p) (by omega) (by omega) (by omega)).2.symm | exact (frameE_ok (a := a) (p := p) (by omega) (by omega) (by omega)).1.symm | exact (frameE_ok (a := a) (p := p) (by omega) (by omega) (by omega)).2.symm))) ?_
        refine w_le (s := 5) (y := pI (frameE a p)) rfl (le_of_eq (congrArg (fun z : Int => pI z) (show 13 = (frameE a p) by first | exact (frameE_arg (a := a) (p := p) (by omega)).1.symm | exact (frameE_arg (a := a) (p := p) (by omega)).2.symm | exact (frameE_short (a := a) (p := p) (by omega) (by omega)).1.symm | exact (frameE_short (a := a) (p := p) (by omega) (by omega)).2.symm | exact (frameE_long (a := a) (p := p) (by omega) (by omega) (by omega)).1.symm | exact (frameE_long (a := a) (p := p) (by omega) (by omega) (by omega)).2.symm | exact (frameE_ok (a := a) (p := p) (by omega) (by omega) (by omega)).1.symm | exact (frameE_ok (a := a) (p := p) (by omega) (by omega) (by omega)).2.symm))) ?_
        refine w_ret ?_
        refine q_block_ret ?_
        refine q_then_ret ?_
        exact fin_plain (ret_tmp rfl (ret_tmp rfl ret_nil)) rfl rfl ⟨rfl, rfl, rfl⟩
      ·
        have c2_ := c2
        try simp only [decide_eq_true_eq, decide_eq_false_iff_not, Bool.not_eq_true', Bool.not_eq_false', Bool.not_true, Bool.not_false, Bool.not_eq_eq_eq_not, Int.not_lt, Int.not_le] at c2
        refine w_seq ?_
        refine w_R ?_
        refine r_op tabOk hnt rfl (s_move rfl ?_) 
        refine r_op tabOk hnt rfl (s_lenM (l := p) tab_41 rfl (hM_sl (f := enc8) rfl) ?_) 
        refine r_op tabOk hnt rfl (s_gtr rfl rfl ?_) 
        refine r_op tabOk hnt rfl (s_assign rfl ?_) 
        refine r_end ?_
        refine q_then ?_
        refine w_if rfl (fun c3 => ?_) (fun c3 => ?_)
        ·
          have c3_ := c3
          try simp only [decide_eq_true_eq, decide_eq_false_iff_not, Bool.not_eq_true', Bool.not_eq_false', Bool.not_true, Bool.not_false, Bool.not_eq_eq_eq_not, Int.not_lt, Int.not_le] at c3
          refine w_seq ?_
          refine w_R ?_
          refine r_op tabOk hnt rfl (s_assign rfl ?_) 
          refine r_op tabOk hnt rfl (s_assign rfl ?_) 
          refine r_end ?_
          refine q_then ?_
          refine w_le (s := 4) (y := pS 1 false enc8 []) rfl (le_nilS 1 false) ?_
          refine w_le (s := 4) (y := pS 1 false enc8 (frameV a p)) rfl (le_of_eq (congrArg (fun z => pS 1 false enc8 z) (show [] = (frameV a p) by first | exact (frameE_arg (a := a) (p := p) (by omega)).1.symm | exact (frameE_arg (a := a) (p := p) (by omega)).2.symm | exact (frameE_short (a := a) (p := p) (by omega) (by omega)).1.symm | exact (frameE_short (a := a) (p := p) (by omega) (by omega)).2.symm | exact (frameE_long (a := a) (p := p) (by omega) (by omega) (by omega)).1.symm | exact (frameE_long (a := a) (p := p) (by omega) (by omega) (by omega)).2.symm | exact (frameE_ok (a := a) (p := p) (by omega) (by omega) (by omega)).1.symm | exact (frameE_ok (a := a) (p := p) (by omega) (by omega) (by omega)).2.symm))) ?_
          refine w_le (s := 5) (y := pI (frameE a p)) rfl (le_of_eq (congrArg (fun z : Int => pI z) (show 3 = (frameE a p) by first | exact (frameE_arg (a := a) (p := p) (by omega)).1.symm | exact (frameE_arg (a := a) (p := p) (by omega)).2.symm | exact (frameE_short (a := a) (p := p) (by omega) (by omega)).1.symm | exact (frameE_short (a := a) (p := p) (by omega) (by omega)).2.symm | exact (frameE_long (a := a) (p := p) (by omega) (by omega) (by omega)).1.symm | exact (frameE_long (a := a) (p := p) (by omega) (by omega) (by omega)).2.symm | exact (frameE_ok (a := a) (p := p) (by omega) (by omega) (by omega)).1.symm | exact (frameE_ok (a := a) (p := p) (by omega) (by omega) (by omega)).2.symm))) ?_
          refine w_ret ?_
          refine q_block_ret ?_
          refine q_then_ret ?_
          exact fin_plain (ret_tmp rfl (ret_tmp rfl ret_nil)) rfl rfl ⟨rfl, rfl, rfl⟩
        ·
          have c3_ := c3
          try simp only [decide_eq_true_eq, decide_eq_false_iff_not, Bool.not_eq_true', Bool.not_eq_false', Bool.not_true, Bool.not_false, Bool.not_eq_eq_eq_not, Int.not_lt, Int.not_le] at c3
          refine w_skip ?_
          refine q_block ?_
          refine q_then ?_
          refine w_seq ?_
          refine w_R ?_
          refine r_op tabOk hnt rfl (s_move rfl ?_) 
          refine r_op tabOk hnt rfl (s_cv8 tab_3 tab_5 rfl rfl rfl ?_) 
          refine r_op tabOk hnt rfl (s_mkM (f := enc8) [u8I a] tab_41 rfl tab_5 ⟨rfl, by decide⟩ (by decide) rfl rfl rfl rfl ?_) 
          refine r_op tabOk hnt rfl (s_move rfl ?_) 
          refine r_op tabOk hnt rfl (s_appR0 (f := enc8) (l := [u8I a]) (xs := p) tab_41 rfl tab_5 ⟨rfl, by decide, by decide⟩ (srcM tab_41 rfl (hM_sl (f := enc8) rfl)) rfl rfl (by first | omega | (simp; omega)) ?_) 
          refine r_op tabOk hnt rfl (s_callX (r2 := PV.ref 2 0 none) (nx1 := 3) (H2 := [(1, oB false 1 enc8 ([u8I a] ++ p))]) (H3 := [(2, oB true 1 enc8 (sealL ([u8I a] ++ p))), (1, oB false 1 enc8 ([u8I a] ++ p))]) [] [] rfl rfl rfl (handed_of (by decide) trivial) rfl rfl rfl rfl rfl rfl (w_crc_Seal ([u8I a] ++ p) false (by first | omega | assumption | (simp; omega) | decide | (simp; done))) rfl (dist_of rfl) rfl rfl rfl rfl ?_) 
          refine r_op tabOk hnt rfl (s_assign rfl ?_) 
          refine r_op tabOk hnt rfl (s_assign rfl ?_) 
          refine r_set [(4, PV.ref 2 0 none), (5, pI 0)] [(2, oB true 1 enc8 (sealL ([u8I a] ++ p))), (1, oB false 1 enc8 ([u8I a] ++ p))] 3 ⟨rfl, rfl, trivial⟩ rfl rfl ?_
          refine r_end ?_
          refine q_then ?_
          refine w_frzM (s := 4) (f := enc8) rfl rfl view_0 ?_
          refine w_le (s := 4) (y := pS 1 false enc8 (frameV a p)) rfl (le_of_eq (congrArg (fun z => pS 1 false enc8 z) (show (sealL ([u8I a] ++ p)) = (frameV a p) by first | exact (frameE_arg (a := a) (p := p) (by omega)).1.symm | exact (frameE_arg (a := a) (p := p) (by omega)).2.symm | exact (frameE_short (a := a) (p := p) (by omega) (by omega)).1.symm | exact (frameE_short (a := a) (p := p) (by omega) (by omega)).2.symm | exact (frameE_long (a := a) (p := p) (by omega) (by omega) (by omega)).1.symm | exact (frameE_long (a := a) (p := p) (by omega) (by omega) (by omega)).2.symm | exact (frameE_ok (a := a) (p := p) (by omega) (by omega) (by omega)).1.symm | exact (frameE_ok (a := a) (p := p) (by omega) (by omega) (by omega)).2.symm))) ?_
          refine w_le (s := 5) (y := pI (frameE a p)) rfl (le_of_eq (congrArg (fun z : Int => pI z) (show 0 = (frameE a p) by first | exact (frameE_arg (a := a) (p := p) (by omega)).1.symm | exact (frameE_arg (a := a) (p := p) (by omega)).2.symm | exact (frameE_short (a := a) (p := p) (by omega) (by omega)).1.symm | exact (frameE_short (a := a) (p := p) (by omega) (by omega)).2.symm | exact (frameE_long (a := a) (p := p) (by omega) (by omega) (by omega)).1.symm | exact (frameE_long (a := a) (p := p) (by omega) (by omega) (by omega)).2.symm | exact (frameE_ok (a := a) (p := p) (by omega) (by omega) (by omega)).1.symm | exact (frameE_ok (a := a) (p := p) (by omega) (by omega) (by omega)).2.symm))) ?_
          refine w_ret ?_
          exact fin_plain (ret_tmp rfl (ret_tmp rfl ret_nil)) rfl rfl ⟨rfl, rfl, rfl⟩
  ·
    have g1' := g1
    try simp only [decide_eq_true_eq, decide_eq_false_iff_not, Bool.not_eq_true', Bool.not_eq_false', Bool.not_true, Bool.not_false, Bool.not_eq_eq_eq_not, Int.not_lt, Int.not_le] at g1'
    refine r_if tabOk hnt rfl rfl rfl (fun e => absurd (e.symm.trans g1) (by decide)) (fun _ => ?_)
    refine r_op tabOk hnt rfl (s_pick_t rfl g1 rfl ?_) 
    refine r_op tabOk hnt rfl (s_assign rfl ?_) 
    refine r_end ?_
    refine q_then ?_
    refine w_if rfl (fun _ => ?_) (fun e => absurd e (by decide))
    refine w_seq ?_
    refine w_R ?_
    refine r_op tabOk hnt rfl (s_assign rfl ?_) 
    refine r_op tabOk hnt rfl (s_assign rfl ?_) 
    refine r_end ?_
    refine q_then ?_
    refine w_le (s := 4) (y := pS 1 false enc8 []) rfl (le_nilS 1 false) ?_
    refine w_le (s := 4) (y := pS 1 false enc8 (frameV a p)) rfl (le_of_eq (congrArg (fun z => pS 1 false enc8 z) (show [] = (frameV a p) by first | exact (frameE_arg (a := a) (p := p) (by omega)).1.symm | exact (frameE_arg (a := a) (p := p) (by omega)).2.symm | exact (frameE_short (a := a) (p := p) (by omega) (by omega)).1.symm | exact (frameE_short (a := a) (p := p) (by omega) (by omega)).2.symm | exact (frameE_long (a := a) (p := p) (by omega) (by omega) (by omega)).1.symm | exact (frameE_long (a := a) (p := p) (by omega) (by omega) (by omega)).2.symm | exact (frameE_ok (a := a) (p := p) (by omega) (by omega) (by omega)).1.symm | exact (frameE_ok (a := a) (p := p) (by omega) (by omega) (by omega)).2.symm))) ?_
    refine w_le (s := 5) (y := pI (frameE a p)) rfl (le_of_eq (congrArg (fun z : Int => pI z) (show 1 = (frameE a p) by first | exact (frameE_arg (a := a) (p := p) (by omega)).1.symm | exact (frameE_arg (a := a) (p := p) (by omega)).2.symm | exact (frameE_short (a := a) (p := p) (by omega) (by omega)).1.symm | exact (frameE_short (a := a) (p := p) (by omega) (by omega)).2.symm | exact (frameE_long (a := a) (p := p) (by omega) (by omega) (by omega)).1.symm | exact (frameE_long (a := a) (p := p) (by omega) (by omega) (by omega)).2.symm | exact (frameE_ok (a := a) (p := p) (by omega) (by omega) (by omega)).1.symm | exact (frameE_ok (a := a) (p := p) (by omega) (by omega) (by omega)).2.symm))) ?_
    refine w_ret ?_
    refine q_block_ret ?_
    refine q_then_ret ?_
    exact fin_plain (ret_tmp rfl (ret_tmp rfl ret_nil)) rfl rfl ⟨rfl, rfl, rfl⟩

theorem w_burgageref5_Frame (a : Int) (p : List UInt8) (cl_p : Bool) (hp : p.length ≤ 140737488355326) :
    T Try.prog 23 [pI a, pS 1 cl_p enc8 p] 0 [] (Ret (PV.tup [pS 1 false enc8 (frameV a p), pI (frameE a p)]) 0 []) := by
  refine t_fun tabOk (n := 24) (rs := [.tmp 4, .tmp 5]) Try.func23 rfl rfl rfl rfl (Nat.le_of_ble_eq_true rfl) ?_
  intro c hnt hk
  refine w_seq ?_
  refine w_R ?_
  refine r_op tabOk hnt rfl (s_assign rfl ?_) 
  refine r_op tabOk hnt rfl (s_assign rfl ?_) 
  refine r_end ?_
  refine q_then ?_
  refine w_seq ?_
  refine w_seq ?_
  refine w_R ?_
  refine r_op tabOk hnt rfl (s_move rfl ?_) 
  refine r_op tabOk hnt rfl (s_lss rfl rfl ?_) 
  refine r_op tabOk hnt rfl (s_move rfl ?_) 
  refine r_if tabOk hnt rfl rfl rfl (fun g1 => ?_) (fun g1 => ?_)
  ·
    have g1' := g1
    try simp only [decide_eq_true_eq, decide_eq_false_iff_not, Bool.not_eq_true', Bool.not_eq_false', Bool.not_true, Bool.not_false, Bool.not_eq_eq_eq_not, Int.not_lt, Int.not_le] at g1'
    refine r_op tabOk hnt rfl (s_move rfl ?_) 
    refine r_if tabOk hnt rfl rfl rfl (fun _ => ?_) (fun e => absurd (e.symm.trans g1) (by decide))
    refine r_op tabOk hnt rfl (s_gtr rfl rfl ?_) 
    refine r_op tabOk hnt rfl (s_pick_f rfl g1 rfl ?_) 
    refine r_end ?_
    refine q_then ?_
    refine w_if rfl (fun c1 => ?_) (fun c1 => ?_)
    ·
      have c1_ := c1
      try simp only [decide_eq_true_eq, decide_eq_false_iff_not, Bool.not_eq_true', Bool.not_eq_false', Bool.not_true, Bool.not_false, Bool.not_eq_eq_eq_not, Int.not_lt, Int.not_le] at c1
      refine w_seq ?_
      refine w_R ?_
      refine r_op tabOk hnt rfl (s_assign rfl ?_) 
      refine r_op tabOk hnt rfl (s_assign rfl ?_) 
      refine r_end ?_
      refine q_then ?_
      refine w_le (s := 4) (y := pS 1 false enc8 []) rfl (le_nilS 1 false) ?_
      refine w_le (s := 4) (y := pS 1 false enc8 (frameV a p)) rfl (le_of_eq (congrArg (fun z => pS 1 false enc8 z) (show [] = (frameV a p) by first | exact (frameE_arg (a := a) (p := p) (by omega)).1.symm | exact (frameE_arg (a := a) (p := p) (by omega)).2.symm | exact (frameE_short (a := a) (p := p) (by omega) (by omega)).1.symm | exact (frameE_short (a := a) (p := p) (by omega) (by omega)).2.symm | exact (frameE_long (a := a) (p := p) (by omega) (by omega) (by omega)).1.symm | exact (frameE_long (a := a) (p := p) (by omega) (by omega) (by omega)).2.symm | exact (frameE_ok (a := a) (p := p) (by omega) (by omega) (by omega)).1.symm | exact (frameE_ok (a := a) (p := p) (by omega) (by omega) (by omega)).2.symm))) ?_
      refine w_le (s := 5) (y := pI (frameE a p)) rfl (le_of_eq (congrArg (fun z : Int => pI z) (show 1 = (frameE a p) by first | exact (frameE_arg (a := a) (p := p) (by omega)).1.symm | exact (frameE_arg (a := a) (p := p) (by omega)).2.symm | exact (frameE_short (a := a) (p := p) (by omega) (by omega)).1.symm | exact (frameE_short (a := a) (p := p) (by omega) (by omega)).2.symm | exact (frameE_long (a := a) (p := p) (by omega) (by omega) (by omega)).1.symm | exact (frameE_long (a := a) (p := p) (by omega) (by omega) (by omega)).2.symm | exact (frameE_ok (a := a) (p := p) (by omega) (by omega) (by omega)).1.symm | exact (frameE_ok (a := a) (p := p) (by omega) (by omega) (by omega)).2.symm))) ?_
      refine w_ret ?_
      refine q_then_ret ?_
      exact fin_plain (ret_tmp rfl (ret_tmp rfl ret_nil)) rfl rfl ⟨rfl, rfl, rfl⟩
    ·
      have c1_ := c1
      try simp only [decide_eq_true_eq, decide_eq_false_iff_not, Bool.not_eq_true', Bool.not_eq_false', Bool.not_true, Bool.not_false, Bool.not_eq_eq_eq_not, Int.not_lt, Int.not_le] at c1
      refine w_skip ?_
      refine q_then ?_
      refine w_seq ?_
      refine w_seq ?_
      refine w_R ?_
      refine r_op tabOk hnt rfl (s_move rfl ?_) 
      refine r_op tabOk hnt rfl (s_lenM (l := p) tab_41 rfl (hM_sl (f := enc8) rfl) ?_) 
      refine r_op tabOk hnt rfl (s_eql rfl rfl ?_) 
      refine r_end ?_
      refine q_then ?_
      refine w_if rfl (fun c2 => ?_) (fun c2 => ?_)
      ·
        have c2_ := c2
        try simp only [decide_eq_true_eq, decide_eq_false_iff_not, Bool.not_eq_true', Bool.not_eq_false', Bool.not_true, Bool.not_false, Bool.not_eq_eq_eq_not, Int.not_lt, Int.not_le] at c2
        refine w_seq ?_
        refine w_R ?_
        refine r_op tabOk hnt rfl (s_assign rfl ?_) 
        refine r_op tabOk hnt rfl (s_assign rfl ?_) 
        refine r_end ?_
        refine q_then ?_
        refine w_le (s := 4) (y := pS 1 false enc8 []) rfl (le_nilS 1 false) ?_
        refine w_le (s := 4) (y := pS 1 false enc8 (frameV a p)) rfl (le_of_eq (congrArg (fun z => pS 1 false enc8 z) (show [] = (frameV a p) by first | exact (frameE_arg (a := a) (p := p) (by omega)).1.symm | exact (frameE_arg (a := a) (p := p) (by omega)).2.symm | exact (frameE_short (a := a) (p := p) (by omega) (by omega)).1.symm | exact (frameE_short (a := a) (p := p) (by omega) (by omega)).2.symm | exact (frameE_long (a := a) (p := p) (by omega) (by omega) (by omega)).1.symm | exact (frameE_long (a := a) (p := p) (by omega) (by omega) (by omega)).2.symm | exact (frameE_ok (a := a) (p := p) (by omega) (by omega) (by omega)).1.symm | exact (frameE_ok (a := a) (p := p) (by omega) (by omega) (by omega)).2.symm))) ?_
        refine w_le (s := 5) (y := pI (frameE a p)) rfl (le_of_eq (congrArg (fun z : Int => pI z) (show 13 = (frameE a p) by first | exact (frameE_arg (a := a) (p := p) (by omega)).1.symm | exact (frameE_arg (a := a) (p := p) (by omega)).2.symm | exact (frameE_short (a := a) (p := p) (by omega) (by omega)).1.symm | exact (frameE_short (a := a) (p := p) (by omega) (by omega)).2.symm | exact (frameE_long (a := a) (p := p) (by omega) (by omega) (by omega)).1.symm | exact (frameE_long (a := a) (p := p) (by omega) (by omega) (by omega)).2.symm | exact (frameE_ok (a := a) (p := p) (by omega) (by omega) (by omega)).1.symm | exact (frameE_ok (a := a) (p := p) (by omega) (by omega) (by omega)).2.symm))) ?_
        refine w_ret ?_
        refine q_then_ret ?_
        exact fin_plain (ret_tmp rfl (ret_tmp rfl ret_nil)) rfl rfl ⟨rfl, rfl, rfl⟩
      ·
        have c2_ := c2
        try simp only [decide_eq_true_eq, decide_eq_false_iff_not, Bool.not_eq_true', Bool.not_eq_false', Bool.not_true, Bool.not_false, Bool.not_eq_eq_eq_not, Int.not_lt, Int.not_le] at c2
        refine w_skip ?_
        refine q_then ?_
        refine w_seq ?_
        refine w_seq ?_
        refine w_R ?_
        refine r_op tabOk hnt rfl (s_move rfl ?_) 
        refine r_op tabOk hnt rfl (s_lenM (l := p) tab_41 rfl (hM_sl (f := enc8) rfl) ?_) 
        refine r_op tabOk hnt rfl (s_gtr rfl rfl ?_) 
        refine r_end ?_
        refine q_then ?_
        refine w_if rfl (fun c3 => ?_) (fun c3 => ?_)
        ·
          have c3_ := c3
          try simp only [decide_eq_true_eq, decide_eq_false_iff_not, Bool.not_eq_true', Bool.not_eq_false', Bool.not_true, Bool.not_false, Bool.not_eq_eq_eq_not, Int.not_lt, Int.not_le] at c3
          refine w_seq ?_
          refine w_R ?_
          refine r_op tabOk hnt rfl (s_assign rfl ?_) 
          refine r_op tabOk hnt rfl (s_assign rfl ?_) 
          refine r_end ?_
          refine q_then ?_
          refine w_le (s := 4) (y := pS 1 false enc8 []) rfl (le_nilS 1 false) ?_
          refine w_le (s := 4) (y := pS 1 false enc8 (frameV a p)) rfl (le_of_eq (congrArg (fun z => pS 1 false enc8 z) (show [] = (frameV a p) by first | exact (frameE_arg (a := a) (p := p) (by omega)).1.symm | exact (frameE_arg (a := a) (p := p) (by omega)).2.symm | exact (frameE_short (a := a) (p := p) (by omega) (by omega)).1.symm | exact (frameE_short (a := a) (p := p) (by omega) (by omega)).2.symm | exact (frameE_long (a := a) (p := p) (by omega) (by omega) (by omega)).1.symm | exact (frameE_long (a := a) (p := p) (by omega) (by omega) (by omega)).2.symm | exact (frameE_ok (a := a) (p := p) (by omega) (by omega) (by omega)).1.symm | exact (frameE_ok (a := a) (p := p) (by omega) (by omega) (by omega)).2.symm))) ?_
          refine w_le (s := 5) (y := pI (frameE a p)) rfl (le_of_eq (congrArg (fun z : Int => pI z) (show 3 = (frameE a p) by first | exact (frameE_arg (a := a) (p := p) (by omega)).1.symm | exact (frameE_arg (a := a) (p := p) (by omega)).2.symm | exact (frameE_short (a := a) (p := p) (by omega) (by omega)).1.symm | exact (frameE_short (a := a) (p := p) (by omega) (by omega)).2.symm | exact (frameE_long (a := a) (p := p) (by omega) (by omega) (by omega)).1.symm | exact (frameE_long (a := a) (p := p) (by omega) (by omega) (by omega)).2.symm | exact (frameE_ok (a := a) (p := p) (by omega) (by omega) (by omega)).1.symm | exact (frameE_ok (a := a) (p := p) (by omega) (by omega) (by omega)).2.symm))) ?_
          refine w_ret ?_
          refine q_then_ret ?_
          exact fin_plain (ret_tmp rfl (ret_tmp rfl ret_nil)) rfl rfl ⟨rfl, rfl, rfl⟩
        ·
          have c3_ := c3
          try simp only [decide_eq_true_eq, decide_eq_false_iff_not, Bool.not_eq_true', Bool.not_eq_false', Bool.not_true, Bool.not_false, Bool.not_eq_eq_eq_not, Int.not_lt, Int.not_le] at c3
          refine w_skip ?_
          refine q_then ?_
          refine w_seq ?_
          refine w_R ?_
          refine r_op tabOk hnt rfl (s_move rfl ?_) 
          refine r_op tabOk hnt rfl (s_cv8 tab_3 tab_5 rfl rfl rfl ?_) 
          refine r_op tabOk hnt rfl (s_mkM (f := enc8) [u8I a] tab_41 rfl tab_5 ⟨rfl, by decide⟩ (by decide) rfl rfl rfl rfl ?_) 
          refine r_op tabOk hnt rfl (s_move rfl ?_) 
          refine r_op tabOk hnt rfl (s_appR0 (f := enc8) (l := [u8I a]) (xs := p) tab_41 rfl tab_5 ⟨rfl, by decide, by decide⟩ (srcM tab_41 rfl (hM_sl (f := enc8) rfl)) rfl rfl (by first | omega | (simp; omega)) ?_) 
          refine r_op tabOk hnt rfl (s_callX (r2 := PV.ref 2 0 none) (nx1 := 3) (H2 := [(1, oB false 1 enc8 ([u8I a] ++ p))]) (H3 := [(2, oB true 1 enc8 (sealL ([u8I a] ++ p))), (1, oB false 1 enc8 ([u8I a] ++ p))]) [] [] rfl rfl rfl (handed_of (by decide) trivial) rfl rfl rfl rfl rfl rfl (w_burgageref1_Seal ([u8I a] ++ p) false (by first | omega | assumption | (simp; omega) | decide | (simp; done))) rfl (dist_of rfl) rfl rfl rfl rfl ?_) 
          refine r_op tabOk hnt rfl (s_assign rfl ?_) 
          refine r_op tabOk hnt rfl (s_assign rfl ?_) 
          refine r_set [(4, PV.ref 2 0 none), (5, pI 0)] [(2, oB true 1 enc8 (sealL ([u8I a] ++ p))), (1, oB false 1 enc8 ([u8I a] ++ p))] 3 ⟨rfl, rfl, trivial⟩ rfl rfl ?_
          refine r_end ?_
          refine q_then ?_
          refine w_frzM (s := 4) (f := enc8) rfl rfl view_0 ?_
          refine w_le (s := 4) (y := pS 1 false enc8 (frameV a p)) rfl (le_of_eq (congrArg (fun z => pS 1 false enc8 z) (show (sealL ([u8I a] ++ p)) = (frameV a p) by first | exact (frameE_arg (a := a) (p := p) (by omega)).1.symm | exact (frameE_arg (a := a) (p := p) (by omega)).2.symm | exact (frameE_short (a := a) (p := p) (by omega) (by omega)).1.symm | exact (frameE_short (a := a) (p := p) (by omega) (by omega)).2.symm | exact (frameE_long (a := a) (p := p) (by omega) (by omega) (by omega)).1.symm | exact (frameE_long (a := a) (p := p) (by omega) (by omega) (by omega)).2.symm | exact (frameE_ok (a := a) (p := p) (by omega) (by omega) (by omega)).1.symm | exact (frameE_ok (a := a) (p := p) (by omega) (by omega) (by omega)).2.symm))) ?_
          refine w_le (s := 5) (y := pI (frameE a p)) rfl (le_of_eq (congrArg (fun z : Int => pI z) (show 0 = (frameE a p) by first | exact (frameE_arg (a := a) (p := p) (by omega)).1.symm | exact (frameE_arg (a := a) (p := p) (by omega)).2.symm | exact (frameE_short (a := a) (p := p) (by omega) (by omega)).1.symm | exact (frameE_short (a := a) (p := p) (by omega) (by omega)).2.symm | exact (frameE_long (a := a) (p := p) (by omega) (by omega) (by omega)).1.symm | exact (frameE_long (a := a) (p := p) (by omega) (by omega) (by omega)).2.symm | exact (frameE_ok (a := a) (p := p) (by omega) (by omega) (by omega)).1.symm | exact (frameE_ok (a := a) (p := p) (by omega) (by omega) (by omega)).2.symm))) ?_
          refine w_ret ?_
          exact fin_plain (ret_tmp rfl (ret_tmp rfl ret_nil)) rfl rfl ⟨rfl, rfl, rfl⟩
  ·
    have g1' := g1
    try simp only [decide_eq_true_eq, decide_eq_false_iff_not, Bool.not_eq_true', Bool.not_eq_false', Bool.not_true, Bool.not_false, Bool.not_eq_eq_eq_not, Int.not_lt, Int.not_le] at g1'
    refine r_if tabOk hnt rfl rfl rfl (fun e => absurd (e.symm.trans g1) (by decide)) (fun _ => ?_)
    refine r_op tabOk hnt rfl (s_pick_t rfl g1 rfl ?_) 
    refine r_end ?_
    refine q_then ?_
    refine w_if rfl (fun _ => ?_) (fun e => absurd e (by decide))
    refine w_seq ?_
    refine w_R ?_
    refine r_op tabOk hnt rfl (s_assign rfl ?_) 
    refine r_op tabOk hnt rfl (s_assign rfl ?_) 
    refine r_end ?_
    refine q_then ?_
    refine w_le (s := 4) (y := pS 1 false enc8 []) rfl (le_nilS 1 false) ?_
    refine w_le (s := 4) (y := pS 1 false enc8 (frameV a p)) rfl (le_of_eq (congrArg (fun z => pS 1 false enc8 z) (show [] = (frameV a p) by first | exact (frameE_arg (a := a) (p := p) (by omega)).1.symm | exact (frameE_arg (a := a) (p := p) (by omega)).2.symm | exact (frameE_short (a := a) (p := p) (by omega) (by omega)).1.symm | exact (frameE_short (a := a) (p := p) (by omega) (by omega)).2.symm | exact (frameE_long (a := a) (p := p) (by omega) (by omega) (by omega)).1.symm | exact (frameE_long (a := a) (p := p) (by omega) (by omega) (by omega)).2.symm | exact (frameE_ok (a := a) (p := p) (by omega) (by omega) (by omega)).1.symm | exact (frameE_ok (a := a) (p := p) (by omega) (by omega) (by omega)).2.symm))) ?_
    refine w_le (s := 5) (y := pI (frameE a p)) rfl (le_of_eq (congrArg (fun z : Int => pI z) (show 1 = (frameE a p) by first | exact (frameE_arg (a := a) (p := p) (by omega)).1.symm | exact (frameE_arg (a := a) (p := p) (by omega)).2.symm | exact (frameE_short (a := a) (p := p) (by omega) (by omega)).1.symm | exact (frameE_short (a := a) (p := p) (by omega) (by omega)).2.symm | exact (frameE_long (a := a) (p := p) (by omega) (by omega) (by omega)).1.symm | exact (frameE_long (a := a) (p := p) (by omega) (by omega) (by omega)).2.symm | exact (frameE_ok (a := a) (p := p) (by omega) (by omega) (by omega)).1.symm | exact (frameE_ok (a := a) (p := p) (by omega) (by omega) (by omega)).2.symm))) ?_
    refine w_ret ?_
    refine q_then_ret ?_
    exact fin_plain (ret_tmp rfl (ret_tmp rfl ret_nil)) rfl rfl ⟨rfl, rfl, rfl⟩

theorem w_rtu_Read (b : List UInt8) (cl_b : Bool) (hb : b.length ≤ 140737488355328) :
    T Try.prog 30 [pS 1 cl_b enc8 b] 0 [] (Ret (PV.tup [pI (readA b), pS 1 false enc8 (readP b), pI (readE b)]) 0 []) := by
  refine t_fun tabOk (n := 41) (rs := [.tmp 2, .tmp 3, .tmp 4]) Try.func30 rfl rfl rfl rfl (Nat.le_of_ble_eq_true rfl) ?_
  intro c hnt hk
  refine w_seq ?_
  refine w_R ?_
  refine r_op tabOk hnt rfl (s_assign rfl ?_) 
  refine r_op tabOk hnt rfl (s_assign rfl ?_) 
  refine r_op tabOk hnt rfl (s_assign rfl ?_) 
  refine r_end ?_
  refine q_then ?_
  refine w_seq ?_
  refine w_R ?_
  refine r_op tabOk hnt rfl (s_move rfl ?_) 
  refine r_op tabOk hnt rfl (s_callF rfl rfl rfl (w_crc_Open b cl_b (by first | omega | assumption | (simp; omega) | decide | (simp; done))) rfl ?_) 
  refine r_op tabOk hnt rfl (s_move rfl ?_) 
  refine r_op tabOk hnt rfl (s_extract rfl rfl ?_) 
  refine r_op tabOk hnt rfl (s_extract rfl rfl ?_) 
  refine r_op tabOk hnt rfl (s_assign rfl ?_) 
  refine r_op tabOk hnt rfl (s_assign rfl ?_) 
  refine r_end ?_
  refine q_then ?_
  refine w_seq ?_
  refine w_block ?_
  refine w_seq ?_
  refine w_R ?_
  refine r_op tabOk hnt rfl (s_move rfl ?_) 
  refine r_op tabOk hnt rfl (s_lenM (l := b) tab_41 rfl (hM_sl (f := enc8) rfl) ?_) 
  refine r_op tabOk hnt rfl (s_lss rfl rfl ?_) 
  refine r_op tabOk hnt rfl (s_assign rfl ?_) 
  refine r_end ?_
  refine q_then ?_
  refine w_if rfl (fun c1 => ?_) (fun c1 => ?_)
  ·
    have c1_ := c1
    try simp only [decide_eq_true_eq, decide_eq_false_iff_not, Bool.not_eq_true', Bool.not_eq_false', Bool.not_true, Bool.not_false, Bool.not_eq_eq_eq_not, Int.not_lt, Int.not_le] at c1
    have hE := readE_short (b := b) (by omega)
    have hno := read_no hE (by decide)
    refine w_seq ?_
    refine w_R ?_
    refine r_op tabOk hnt rfl (s_assign rfl ?_) 
    refine r_op tabOk hnt rfl (s_assign rfl ?_) 
    refine r_op tabOk hnt rfl (s_assign rfl ?_) 
    refine r_end ?_
    refine q_then ?_
    refine w_le (s := 2) (y := pI (readA b)) rfl (le_of_eq (congrArg (fun z : Int => pI z) (show 0 = (readA b) by first | exact hno.1.symm | exact hno.2.symm | exact hE.symm | exact hyes.1.symm | exact hyes.2.1.symm | exact hyes.2.2.symm))) ?_
    refine w_le (s := 3) (y := pS 1 false enc8 []) rfl (le_nilS 1 false) ?_
    refine w_le (s := 3) (y := pS 1 false enc8 (readP b)) rfl (le_of_eq (congrArg (fun z => pS 1 false enc8 z) (show [] = (readP b) by first | exact hno.1.symm | exact hno.2.symm | exact hE.symm | exact hyes.1.symm | exact hyes.2.1.symm | exact hyes.2.2.symm))) ?_
    refine w_le (s := 4) (y := pI (readE b)) rfl (le_of_eq (congrArg (fun z : Int => pI z) (show 13 = (readE b) by first | exact hno.1.symm | exact hno.2.symm | exact hE.symm | exact hyes.1.symm | exact hyes.2.1.symm | exact hyes.2.2.symm))) ?_
    refine w_ret ?_
    refine q_block_ret ?_
    refine q_then_ret ?_
    exact fin_plain (ret_tmp rfl (ret_tmp rfl (ret_tmp rfl ret_nil))) rfl rfl ⟨rfl, rfl, rfl⟩
  ·
    have c1_ := c1
    try simp only [decide_eq_true_eq, decide_eq_false_iff_not, Bool.not_eq_true', Bool.not_eq_false', Bool.not_true, Bool.not_false, Bool.not_eq_eq_eq_not, Int.not_lt, Int.not_le] at c1
    refine w_seq ?_
    refine w_R ?_
    refine r_op tabOk hnt rfl (s_move rfl ?_) 
    refine r_op tabOk hnt rfl (s_lenM (l := b) tab_41 rfl (hM_sl (f := enc8) rfl) ?_) 
    refine r_op tabOk hnt rfl (s_gtr rfl rfl ?_) 
    refine r_op tabOk hnt rfl (s_assign rfl ?_) 
    refine r_end ?_
    refine q_then ?_
    refine w_if rfl (fun c2 => ?_) (fun c2 => ?_)
    ·
      have c2_ := c2
      try simp only [decide_eq_true_eq, decide_eq_false_iff_not, Bool.not_eq_true', Bool.not_eq_false', Bool.not_true, Bool.not_false, Bool.not_eq_eq_eq_not, Int.not_lt, Int.not_le] at c2
      have hE := readE_long (b := b) (by omega) (by omega)
      have hno := read_no hE (by decide)
      refine w_seq ?_
      refine w_R ?_
      refine r_op tabOk hnt rfl (s_assign rfl ?_) 
      refine r_op tabOk hnt rfl (s_assign rfl ?_) 
      refine r_op tabOk hnt rfl (s_assign rfl ?_) 
      refine r_end ?_
      refine q_then ?_
      refine w_le (s := 2) (y := pI (readA b)) rfl (le_of_eq (congrArg (fun z : Int => pI z) (show 0 = (readA b) by first | exact hno.1.symm | exact hno.2.symm | exact hE.symm | exact hyes.1.symm | exact hyes.2.1.symm | exact hyes.2.2.symm))) ?_
      refine w_le (s := 3) (y := pS 1 false enc8 []) rfl (le_nilS 1 false) ?_
      refine w_le (s := 3) (y := pS 1 false enc8 (readP b)) rfl (le_of_eq (congrArg (fun z => pS 1 false enc8 z) (show [] = (readP b) by first | exact hno.1.symm | exact hno.2.symm | exact hE.symm | exact hyes.1.symm | exact hyes.2.1.symm | exact hyes.2.2.symm))) ?_
      refine w_le (s := 4) (y := pI (readE b)) rfl (le_of_eq (congrArg (fun z : Int => pI z) (show 3 = (readE b) by first | exact hno.1.symm | exact hno.2.symm | exact hE.symm | exact hyes.1.symm | exact hyes.2.1.symm | exact hyes.2.2.symm))) ?_
      refine w_ret ?_
      refine q_block_ret ?_
      refine q_then_ret ?_
      exact fin_plain (ret_tmp rfl (ret_tmp rfl (ret_tmp rfl ret_nil))) rfl rfl ⟨rfl, rfl, rfl⟩
    ·
      have c2_ := c2
      try simp only [decide_eq_true_eq, decide_eq_false_iff_not, Bool.not_eq_true', Bool.not_eq_false', Bool.not_true, Bool.not_false, Bool.not_eq_eq_eq_not, Int.not_lt, Int.not_le] at c2
      refine w_seq ?_
      refine w_R ?_
      refine r_op tabOk hnt rfl (s_move rfl ?_) 
      refine r_op tabOk hnt rfl (s_not rfl ?_) 
      refine r_op tabOk hnt rfl (s_assign rfl ?_) 
      refine r_end ?_
      refine q_then ?_
      refine w_if rfl (fun c3 => ?_) (fun c3 => ?_)
      ·
        have c3_ := c3
        try simp only [decide_eq_true_eq, decide_eq_false_iff_not, Bool.not_eq_true', Bool.not_eq_false', Bool.not_true, Bool.not_false, Bool.not_eq_eq_eq_not, Int.not_lt, Int.not_le] at c3
        have hE := readE_sum (b := b) (by omega) (by omega) c3
        have hno := read_no hE (by decide)
        refine w_seq ?_
        refine w_R ?_
        refine r_op tabOk hnt rfl (s_assign rfl ?_) 
        refine r_op tabOk hnt rfl (s_assign rfl ?_) 
        refine r_op tabOk hnt rfl (s_assign rfl ?_) 
        refine r_end ?_
        refine q_then ?_
        refine w_le (s := 2) (y := pI (readA b)) rfl (le_of_eq (congrArg (fun z : Int => pI z) (show 0 = (readA b) by first | exact hno.1.symm | exact hno.2.symm | exact hE.symm | exact hyes.1.symm | exact hyes.2.1.symm | exact hyes.2.2.symm))) ?_
        refine w_le (s := 3) (y := pS 1 false enc8 []) rfl (le_nilS 1 false) ?_
        refine w_le (s := 3) (y := pS 1 false enc8 (readP b)) rfl (le_of_eq (congrArg (fun z => pS 1 false enc8 z) (show [] = (readP b) by first | exact hno.1.symm | exact hno.2.symm | exact hE.symm | exact hyes.1.symm | exact hyes.2.1.symm | exact hyes.2.2.symm))) ?_
        refine w_le (s := 4) (y := pI (readE b)) rfl (le_of_eq (congrArg (fun z : Int => pI z) (show 14 = (readE b) by first | exact hno.1.symm | exact hno.2.symm | exact hE.symm | exact hyes.1.symm | exact hyes.2.1.symm | exact hyes.2.2.symm))) ?_
        refine w_ret ?_
        refine q_block_ret ?_
        refine q_then_ret ?_
        exact fin_plain (ret_tmp rfl (ret_tmp rfl (ret_tmp rfl ret_nil))) rfl rfl ⟨rfl, rfl, rfl⟩
      ·
        have c3_ := c3
        try simp only [decide_eq_true_eq, decide_eq_false_iff_not, Bool.not_eq_true', Bool.not_eq_false', Bool.not_true, Bool.not_false, Bool.not_eq_eq_eq_not, Int.not_lt, Int.not_le] at c3
        refine w_seq ?_
        have hol := (open_len c3).2
        refine w_R ?_
        refine r_op tabOk hnt rfl (s_move rfl ?_) 
        obtain ⟨e1, he1⟩ := get_of_lt (openL b) (i := 0) (by omega)
        refine r_op tabOk hnt rfl (s_iaM (q := 0) (b := e1) (f := enc8) tab_41 rfl tab_5 rfl rfl (by omega) rfl he1 ?_) 
        refine r_op tabOk hnt rfl (s_load_ro1 tab_5 rfl rfl rfl rfl ?_) 
        refine r_op tabOk hnt rfl (s_lss rfl rfl ?_) 
        refine r_op tabOk hnt rfl (s_move rfl ?_) 
        refine r_if tabOk hnt rfl rfl rfl (fun g1 => ?_) (fun g1 => ?_)
        ·
          have g1' := g1
          try simp only [decide_eq_true_eq, decide_eq_false_iff_not, Bool.not_eq_true', Bool.not_eq_false', Bool.not_true, Bool.not_false, Bool.not_eq_eq_eq_not, Int.not_lt, Int.not_le] at g1'
          refine r_op tabOk hnt rfl (s_move rfl ?_) 
          refine r_if tabOk hnt rfl rfl rfl (fun _ => ?_) (fun e => absurd (e.symm.trans g1) (by decide))
          refine r_op tabOk hnt rfl (s_iaM (q := 0) (b := e1) (f := enc8) tab_41 rfl tab_5 rfl rfl (by omega) rfl he1 ?_) 
          refine r_if tabOk hnt rfl rfl rfl (fun _ => ?_) (fun e => absurd (e.symm.trans g1) (by decide))
          refine r_op tabOk hnt rfl (s_load_ro1 tab_5 rfl rfl rfl rfl ?_) 
          refine r_if tabOk hnt rfl rfl rfl (fun _ => ?_) (fun e => absurd (e.symm.trans g1) (by decide))
          refine r_op tabOk hnt rfl (s_gtr rfl rfl ?_) 
          refine r_op tabOk hnt rfl (s_pick_f rfl g1 rfl ?_) 
          refine r_op tabOk hnt rfl (s_assign rfl ?_) 
          refine r_set [(5, pS 1 false enc8 (openL b)), (23, pB (decide (247 < ((UInt8.toNat e1 : Nat) : Int))))] [] 0 ⟨rfl, rfl, trivial⟩ rfl rfl ?_
          refine r_end ?_
          refine q_then ?_
          refine w_if rfl (fun c4 => ?_) (fun c4 => ?_)
          ·
            have c4_ := c4
            try simp only [decide_eq_true_eq, decide_eq_false_iff_not, Bool.not_eq_true', Bool.not_eq_false', Bool.not_true, Bool.not_false, Bool.not_eq_eq_eq_not, Int.not_lt, Int.not_le] at c4
            have hE := readE_arg (by omega) (by omega) c3 he1 (.inr (by omega))
            have hno := read_no hE (by decide)
            refine w_seq ?_
            refine w_R ?_
            refine r_op tabOk hnt rfl (s_assign rfl ?_) 
            refine r_op tabOk hnt rfl (s_assign rfl ?_) 
            refine r_op tabOk hnt rfl (s_assign rfl ?_) 
            refine r_end ?_
            refine q_then ?_
            refine w_le (s := 2) (y := pI (readA b)) rfl (le_of_eq (congrArg (fun z : Int => pI z) (show 0 = (readA b) by first | exact hno.1.symm | exact hno.2.symm | exact hE.symm | exact hyes.1.symm | exact hyes.2.1.symm | exact hyes.2.2.symm))) ?_
            refine w_le (s := 3) (y := pS 1 false enc8 []) rfl (le_nilS 1 false) ?_
            refine w_le (s := 3) (y := pS 1 false enc8 (readP b)) rfl (le_of_eq (congrArg (fun z => pS 1 false enc8 z) (show [] = (readP b) by first | exact hno.1.symm | exact hno.2.symm | exact hE.symm | exact hyes.1.symm | exact hyes.2.1.symm | exact hyes.2.2.symm))) ?_
            refine w_le (s := 4) (y := pI (readE b)) rfl (le_of_eq (congrArg (fun z : Int => pI z) (show 1 = (readE b) by first | exact hno.1.symm | exact hno.2.symm | exact hE.symm | exact hyes.1.symm | exact hyes.2.1.symm | exact hyes.2.2.symm))) ?_
            refine w_ret ?_
            refine q_block_ret ?_
            refine q_then_ret ?_
            exact fin_plain (ret_tmp rfl (ret_tmp rfl (ret_tmp rfl ret_nil))) rfl rfl ⟨rfl, rfl, rfl⟩
          ·
            have c4_ := c4
            try simp only [decide_eq_true_eq, decide_eq_false_iff_not, Bool.not_eq_true', Bool.not_eq_false', Bool.not_true, Bool.not_false, Bool.not_eq_eq_eq_not, Int.not_lt, Int.not_le] at c4
            have hyes := readE_ok (by omega) (by omega) c3 he1 (by omega)
            refine w_skip ?_
            refine q_block ?_
            refine q_then ?_
            refine w_seq ?_
            refine W_drawn tabOk mixed hnt [[], [0], [0, 1], [0, 1, 2], [], [4], [4, 5], [0, 1, 2, 3, 4, 5, 6], [0, 1, 2, 3, 4, 5, 6, 7], [0, 1, 2, 3, 4, 5, 6, 7, 8]] (by kernel_rfl) ?_
            refine d_op ?_
            refine x_run0 [(5, pS 1 false enc8 (openL b))] [] rfl rfl rfl rfl (s_move rfl ⟨rfl, rfl, rfl⟩) ?_
            refine d_op ?_
            refine x_run0 [(34, pS 1 false enc8 (openL b))] [0] rfl rfl rfl rfl (s_iaM (q := 0) (b := e1) (f := enc8) tab_41 rfl tab_5 rfl rfl (by omega) rfl he1 ⟨rfl, rfl, rfl⟩) ?_
            refine d_op ?_
            refine x_run0 [(35, PV.f (.ro (enc8 e1)))] [0, 1] rfl rfl rfl rfl (s_load_ro1 tab_5 rfl rfl rfl rfl ⟨rfl, rfl, rfl⟩) ?_
            refine d_op ?_
            refine x_run0 [(36, p8 e1)] [0, 1, 2] rfl rfl rfl rfl (s_cvN (a := UInt8.toNat e1) tab_5 tab_3 rfl rfl rfl (by omega) (by have := lt8 e1; omega) ⟨rfl, rfl, rfl⟩) ?_
            refine d_op ?_
            refine x_run0 [(5, pS 1 false enc8 (openL b))] [] rfl rfl rfl rfl (s_move rfl ⟨rfl, rfl, rfl⟩) ?_
            refine d_op ?_
            refine x_run0 [(38, pS 1 false enc8 (openL b))] [4] rfl rfl rfl rfl (s_cutM_lo (a := 1) (f := enc8) (l := openL b) tab_41 rfl tab_5 ⟨rfl, by decide⟩ rfl (bound_some rfl (by omega)) (by omega) ⟨rfl, rfl, rfl⟩) ?_
            refine d_op ?_
            refine x_run0 [(39, pS 1 false enc8 ((openL b).drop 1))] [4, 5] rfl rfl rfl rfl (s_callF rfl rfl rfl (w_slices_Clip_byte_byte ((openL b).drop 1) false) rfl ⟨rfl, rfl, rfl⟩) ?_
            refine d_op ?_
            refine x_run0 [(37, pN (UInt8.toNat e1))] [0, 1, 2, 3, 4, 5, 6] rfl rfl rfl rfl (s_assign rfl ⟨rfl, rfl, rfl⟩) ?_
            refine d_op ?_
            refine x_run0 [(40, pS 1 true enc8 ((openL b).drop 1))] [0, 1, 2, 3, 4, 5, 6, 7] rfl rfl rfl rfl (s_assign rfl ⟨rfl, rfl, rfl⟩) ?_
            refine d_op ?_
            refine x_run0 [] [0, 1, 2, 3, 4, 5, 6, 7, 8] rfl rfl rfl rfl (s_assign rfl ⟨rfl, rfl, rfl⟩) ?_
            refine d_end ⟨by kernel_rfl, ?_⟩
            refine q_then ?_
            refine w_le (s := 2) (y := pI (readA b)) rfl (le_of_eq (congrArg (fun z : Int => pI z) (show ((UInt8.toNat e1 : Nat) : Int) = (readA b) by first | exact hno.1.symm | exact hno.2.symm | exact hE.symm | exact hyes.1.symm | exact hyes.2.1.symm | exact hyes.2.2.symm))) ?_
            refine w_le (s := 3) (y := pS 1 false enc8 ((openL b).drop 1)) rfl (le_loose) ?_
            refine w_le (s := 3) (y := pS 1 false enc8 (readP b)) rfl (le_of_eq (congrArg (fun z => pS 1 false enc8 z) (show ((openL b).drop 1) = (readP b) by first | exact hno.1.symm | exact hno.2.symm | exact hE.symm | exact hyes.1.symm | exact hyes.2.1.symm | exact hyes.2.2.symm))) ?_
            refine w_le (s := 4) (y := pI (readE b)) rfl (le_of_eq (congrArg (fun z : Int => pI z) (show 0 = (readE b) by first | exact hno.1.symm | exact hno.2.symm | exact hE.symm | exact hyes.1.symm | exact hyes.2.1.symm | exact hyes.2.2.symm))) ?_
            refine w_ret ?_
            exact fin_plain (ret_tmp rfl (ret_tmp rfl (ret_tmp rfl ret_nil))) rfl rfl ⟨rfl, rfl, rfl⟩
        ·
          have g1' := g1
          try simp only [decide_eq_true_eq, decide_eq_false_iff_not, Bool.not_eq_true', Bool.not_eq_false', Bool.not_true, Bool.not_false, Bool.not_eq_eq_eq_not, Int.not_lt, Int.not_le] at g1'
          have hE := readE_arg (by omega) (by omega) c3 he1 (.inl (by omega))
          have hno := read_no hE (by decide)
          refine r_if tabOk hnt rfl rfl rfl (fun e => absurd (e.symm.trans g1) (by decide)) (fun _ => ?_)
          refine r_if tabOk hnt rfl rfl rfl (fun e => absurd (e.symm.trans g1) (by decide)) (fun _ => ?_)
          refine r_if tabOk hnt rfl rfl rfl (fun e => absurd (e.symm.trans g1) (by decide)) (fun _ => ?_)
          refine r_op tabOk hnt rfl (s_pick_t rfl g1 rfl ?_) 
          refine r_op tabOk hnt rfl (s_assign rfl ?_) 
          refine r_set [(5, pS 1 false enc8 (openL b)), (23, pB true)] [] 0 ⟨rfl, rfl, trivial⟩ rfl rfl ?_
          refine r_end ?_
          refine q_then ?_
          refine w_if rfl (fun _ => ?_) (fun e => absurd e (by decide))
          refine w_seq ?_
          refine w_R ?_
          refine r_op tabOk hnt rfl (s_assign rfl ?_) 
          refine r_op tabOk hnt rfl (s_assign rfl ?_) 
          refine r_op tabOk hnt rfl (s_assign rfl ?_) 
          refine r_end ?_
          refine q_then ?_
          refine w_le (s := 2) (y := pI (readA b)) rfl (le_of_eq (congrArg (fun z : Int => pI z) (show 0 = (readA b) by first | exact hno.1.symm | exact hno.2.symm | exact hE.symm | exact hyes.1.symm | exact hyes.2.1.symm | exact hyes.2.2.symm))) ?_
          refine w_le (s := 3) (y := pS 1 false enc8 []) rfl (le_nilS 1 false) ?_
          refine w_le (s := 3) (y := pS 1 false enc8 (readP b)) rfl (le_of_eq (congrArg (fun z => pS 1 false enc8 z) (show [] = (readP b) by first | exact hno.1.symm | exact hno.2.symm | exact hE.symm | exact hyes.1.symm | exact hyes.2.1.symm | exact hyes.2.2.symm))) ?_
          refine w_le (s := 4) (y := pI (readE b)) rfl (le_of_eq (congrArg (fun z : Int => pI z) (show 1 = (readE b) by first | exact hno.1.symm | exact hno.2.symm | exact hE.symm | exact hyes.1.symm | exact hyes.2.1.symm | exact hyes.2.2.symm))) ?_
          refine w_ret ?_
          refine q_block_ret ?_
          refine q_then_ret ?_
          exact fin_plain (ret_tmp rfl (ret_tmp rfl (ret_tmp rfl ret_nil))) rfl rfl ⟨rfl, rfl, rfl⟩

theorem w_burgageref5_Read (b : List UInt8) (cl_b : Bool) (hb : b.length ≤ 140737488355328) :
    T Try.prog 44 [pS 1 cl_b enc8 b] 0 [] (Ret (PV.tup [pI (readA b), pS 1 false enc8 (readP b), pI (readE b)]) 0 []) := by
  refine t_fun tabOk (n := 36) (rs := [.tmp 2, .tmp 3, .tmp 4]) Try.func44 rfl rfl rfl rfl (Nat.le_of_ble_eq_true rfl) ?_
  intro c hnt hk
  refine w_seq ?_
  refine w_R ?_
  refine r_op tabOk hnt rfl (s_assign rfl ?_) 
  refine r_op tabOk hnt rfl (s_assign rfl ?_) 
  refine r_op tabOk hnt rfl (s_assign rfl ?_) 
  refine r_end ?_
  refine q_then ?_
  refine w_seq ?_
  refine w_seq ?_
  refine w_R ?_
  refine r_op tabOk hnt rfl (s_move rfl ?_) 
  refine r_op tabOk hnt rfl (s_lenM (l := b) tab_41 rfl (hM_sl (f := enc8) rfl) ?_) 
  refine r_op tabOk hnt rfl (s_lss rfl rfl ?_) 
  refine r_end ?_
  refine q_then ?_
  refine w_if rfl (fun c1 => ?_) (fun c1 => ?_)
  ·
    have c1_ := c1
    try simp only [decide_eq_true_eq, decide_eq_false_iff_not, Bool.not_eq_true', Bool.not_eq_false', Bool.not_true, Bool.not_false, Bool.not_eq_eq_eq_not, Int.not_lt, Int.not_le] at c1
    have hE := readE_short (b := b) (by omega)
    have hno := read_no hE (by decide)
    refine w_seq ?_
    refine w_R ?_
    refine r_op tabOk hnt rfl (s_assign rfl ?_) 
    refine r_op tabOk hnt rfl (s_assign rfl ?_) 
    refine r_op tabOk hnt rfl (s_assign rfl ?_) 
    refine r_end ?_
    refine q_then ?_
    refine w_le (s := 2) (y := pI (readA b)) rfl (le_of_eq (congrArg (fun z : Int => pI z) (show 0 = (readA b) by first | exact hno.1.symm | exact hno.2.symm | exact hE.symm | exact hyes.1.symm | exact hyes.2.1.symm | exact hyes.2.2.symm))) ?_
    refine w_le (s := 3) (y := pS 1 false enc8 []) rfl (le_nilS 1 false) ?_
    refine w_le (s := 3) (y := pS 1 false enc8 (readP b)) rfl (le_of_eq (congrArg (fun z => pS 1 false enc8 z) (show [] = (readP b) by first | exact hno.1.symm | exact hno.2.symm | exact hE.symm | exact hyes.1.symm | exact hyes.2.1.symm | exact hyes.2.2.symm))) ?_
    refine w_le (s := 4) (y := pI (readE b)) rfl (le_of_eq (congrArg (fun z : Int => pI z) (show 13 = (readE b) by first | exact hno.1.symm | exact hno.2.symm | exact hE.symm | exact hyes.1.symm | exact hyes.2.1.symm | exact hyes.2.2.symm))) ?_
    refine w_ret ?_
    refine q_then_ret ?_
    exact fin_plain (ret_tmp rfl (ret_tmp rfl (ret_tmp rfl ret_nil))) rfl rfl ⟨rfl, rfl, rfl⟩
  ·
    have c1_ := c1
    try simp only [decide_eq_true_eq, decide_eq_false_iff_not, Bool.not_eq_true', Bool.not_eq_false', Bool.not_true, Bool.not_false, Bool.not_eq_eq_eq_not, Int.not_lt, Int.not_le] at c1
    refine w_skip ?_
    refine q_then ?_
    refine w_seq ?_
    refine w_seq ?_
    refine w_R ?_
    refine r_op tabOk hnt rfl (s_move rfl ?_) 
    refine r_op tabOk hnt rfl (s_lenM (l := b) tab_41 rfl (hM_sl (f := enc8) rfl) ?_) 
    refine r_op tabOk hnt rfl (s_gtr rfl rfl ?_) 
    refine r_end ?_
    refine q_then ?_
    refine w_if rfl (fun c2 => ?_) (fun c2 => ?_)
    ·
      have c2_ := c2
      try simp only [decide_eq_true_eq, decide_eq_false_iff_not, Bool.not_eq_true', Bool.not_eq_false', Bool.not_true, Bool.not_false, Bool.not_eq_eq_eq_not, Int.not_lt, Int.not_le] at c2
      have hE := readE_long (b := b) (by omega) (by omega)
      have hno := read_no hE (by decide)
      refine w_seq ?_
      refine w_R ?_
      refine r_op tabOk hnt rfl (s_assign rfl ?_) 
      refine r_op tabOk hnt rfl (s_assign rfl ?_) 
      refine r_op tabOk hnt rfl (s_assign rfl ?_) 
      refine r_end ?_
      refine q_then ?_
      refine w_le (s := 2) (y := pI (readA b)) rfl (le_of_eq (congrArg (fun z : Int => pI z) (show 0 = (readA b) by first | exact hno.1.symm | exact hno.2.symm | exact hE.symm | exact hyes.1.symm | exact hyes.2.1.symm | exact hyes.2.2.symm))) ?_
      refine w_le (s := 3) (y := pS 1 false enc8 []) rfl (le_nilS 1 false) ?_
      refine w_le (s := 3) (y := pS 1 false enc8 (readP b)) rfl (le_of_eq (congrArg (fun z => pS 1 false enc8 z) (show [] = (readP b) by first | exact hno.1.symm | exact hno.2.symm | exact hE.symm | exact hyes.1.symm | exact hyes.2.1.symm | exact hyes.2.2.symm))) ?_
      refine w_le (s := 4) (y := pI (readE b)) rfl (le_of_eq (congrArg (fun z : Int => pI z) (show 3 = (readE b) by first | exact hno.1.symm | exact hno.2.symm | exact hE.symm | exact hyes.1.symm | exact hyes.2.1.symm | exact hyes.2.2.symm))) ?_
      refine w_ret ?_
      refine q_then_ret ?_
      exact fin_plain (ret_tmp rfl (ret_tmp rfl (ret_tmp rfl ret_nil))) rfl rfl ⟨rfl, rfl, rfl⟩
    ·
      have c2_ := c2
      try simp only [decide_eq_true_eq, decide_eq_false_iff_not, Bool.not_eq_true', Bool.not_eq_false', Bool.not_true, Bool.not_false, Bool.not_eq_eq_eq_not, Int.not_lt, Int.not_le] at c2
      refine w_skip ?_
      refine q_then ?_
      refine w_seq ?_
      refine w_R ?_
      refine r_op tabOk hnt rfl (s_move rfl ?_) 
      refine r_op tabOk hnt rfl (s_callF rfl rfl rfl (w_burgageref1_Unseal b cl_b (by first | omega | assumption | (simp; omega) | decide | (simp; done))) rfl ?_) 
      refine r_op tabOk hnt rfl (s_move rfl ?_) 
      refine r_op tabOk hnt rfl (s_extract rfl rfl ?_) 
      refine r_op tabOk hnt rfl (s_extract rfl rfl ?_) 
      refine r_op tabOk hnt rfl (s_assign rfl ?_) 
      refine r_op tabOk hnt rfl (s_assign rfl ?_) 
      refine r_end ?_
      refine q_then ?_
      refine w_seq ?_
      refine w_seq ?_
      refine w_R ?_
      refine r_op tabOk hnt rfl (s_move rfl ?_) 
      refine r_op tabOk hnt rfl (s_not rfl ?_) 
      refine r_end ?_
      refine q_then ?_
      refine w_if rfl (fun c3 => ?_) (fun c3 => ?_)
      ·
        have c3_ := c3
        try simp only [decide_eq_true_eq, decide_eq_false_iff_not, Bool.not_eq_true', Bool.not_eq_false', Bool.not_true, Bool.not_false, Bool.not_eq_eq_eq_not, Int.not_lt, Int.not_le] at c3
        have hE := readE_sum (b := b) (by omega) (by omega) c3
        have hno := read_no hE (by decide)
        refine w_seq ?_
        refine w_R ?_
        refine r_op tabOk hnt rfl (s_assign rfl ?_) 
        refine r_op tabOk hnt rfl (s_assign rfl ?_) 
        refine r_op tabOk hnt rfl (s_assign rfl ?_) 
        refine r_end ?_
        refine q_then ?_
        refine w_le (s := 2) (y := pI (readA b)) rfl (le_of_eq (congrArg (fun z : Int => pI z) (show 0 = (readA b) by first | exact hno.1.symm | exact hno.2.symm | exact hE.symm | exact hyes.1.symm | exact hyes.2.1.symm | exact hyes.2.2.symm))) ?_
        refine w_le (s := 3) (y := pS 1 false enc8 []) rfl (le_nilS 1 false) ?_
        refine w_le (s := 3) (y := pS 1 false enc8 (readP b)) rfl (le_of_eq (congrArg (fun z => pS 1 false enc8 z) (show [] = (readP b) by first | exact hno.1.symm | exact hno.2.symm | exact hE.symm | exact hyes.1.symm | exact hyes.2.1.symm | exact hyes.2.2.symm))) ?_
        refine w_le (s := 4) (y := pI (readE b)) rfl (le_of_eq (congrArg (fun z : Int => pI z) (show 14 = (readE b) by first | exact hno.1.symm | exact hno.2.symm | exact hE.symm | exact hyes.1.symm | exact hyes.2.1.symm | exact hyes.2.2.symm))) ?_
        refine w_ret ?_
        refine q_then_ret ?_
        exact fin_plain (ret_tmp rfl (ret_tmp rfl (ret_tmp rfl ret_nil))) rfl rfl ⟨rfl, rfl, rfl⟩
      ·
        have c3_ := c3
        try simp only [decide_eq_true_eq, decide_eq_false_iff_not, Bool.not_eq_true', Bool.not_eq_false', Bool.not_true, Bool.not_false, Bool.not_eq_eq_eq_not, Int.not_lt, Int.not_le] at c3
        refine w_skip ?_
        refine q_then ?_
        refine w_seq ?_
        refine w_seq ?_
        have hol := (open_len c3).2
        refine w_R ?_
        refine r_op tabOk hnt rfl (s_move rfl ?_) 
        obtain ⟨e1, he1⟩ := get_of_lt (openL b) (i := 0) (by omega)
        refine r_op tabOk hnt rfl (s_iaM (q := 0) (b := e1) (f := enc8) tab_41 rfl tab_5 rfl rfl (by omega) rfl he1 ?_) 
        refine r_op tabOk hnt rfl (s_load_ro1 tab_5 rfl rfl rfl rfl ?_) 
        refine r_op tabOk hnt rfl (s_lss rfl rfl ?_) 
        refine r_op tabOk hnt rfl (s_move rfl ?_) 
        refine r_if tabOk hnt rfl rfl rfl (fun g1 => ?_) (fun g1 => ?_)
        ·
          have g1' := g1
          try simp only [decide_eq_true_eq, decide_eq_false_iff_not, Bool.not_eq_true', Bool.not_eq_false', Bool.not_true, Bool.not_false, Bool.not_eq_eq_eq_not, Int.not_lt, Int.not_le] at g1'
          refine r_op tabOk hnt rfl (s_move rfl ?_) 
          refine r_if tabOk hnt rfl rfl rfl (fun _ => ?_) (fun e => absurd (e.symm.trans g1) (by decide))
          refine r_op tabOk hnt rfl (s_iaM (q := 0) (b := e1) (f := enc8) tab_41 rfl tab_5 rfl rfl (by omega) rfl he1 ?_) 
          refine r_if tabOk hnt rfl rfl rfl (fun _ => ?_) (fun e => absurd (e.symm.trans g1) (by decide))
          refine r_op tabOk hnt rfl (s_load_ro1 tab_5 rfl rfl rfl rfl ?_) 
          refine r_if tabOk hnt rfl rfl rfl (fun _ => ?_) (fun e => absurd (e.symm.trans g1) (by decide))
          refine r_op tabOk hnt rfl (s_gtr rfl rfl ?_) 
          refine r_op tabOk hnt rfl (s_pick_f rfl g1 rfl ?_) 
          refine r_end ?_
          refine q_then ?_
          refine w_if rfl (fun c4 => ?_) (fun c4 => ?_)
          ·
            have c4_ := c4
            try simp only [decide_eq_true_eq, decide_eq_false_iff_not, Bool.not_eq_true', Bool.not_eq_false', Bool.not_true, Bool.not_false, Bool.not_eq_eq_eq_not, Int.not_lt, Int.not_le] at c4
            have hE := readE_arg (by omega) (by omega) c3 he1 (.inr (by omega))
            have hno := read_no hE (by decide)
            refine w_seq ?_
            refine w_R ?_
            refine r_op tabOk hnt rfl (s_assign rfl ?_) 
            refine r_op tabOk hnt rfl (s_assign rfl ?_) 
            refine r_op tabOk hnt rfl (s_assign rfl ?_) 
            refine r_end ?_
            refine q_then ?_
            refine w_le (s := 2) (y := pI (readA b)) rfl (le_of_eq (congrArg (fun z : Int => pI z) (show 0 = (readA b) by first | exact hno.1.symm | exact hno.2.symm | exact hE.symm | exact hyes.1.symm | exact hyes.2.1.symm | exact hyes.2.2.symm))) ?_
            refine w_le (s := 3) (y := pS 1 false enc8 []) rfl (le_nilS 1 false) ?_
            refine w_le (s := 3) (y := pS 1 false enc8 (readP b)) rfl (le_of_eq (congrArg (fun z => pS 1 false enc8 z) (show [] = (readP b) by first | exact hno.1.symm | exact hno.2.symm | exact hE.symm | exact hyes.1.symm | exact hyes.2.1.symm | exact hyes.2.2.symm))) ?_
            refine w_le (s := 4) (y := pI (readE b)) rfl (le_of_eq (congrArg (fun z : Int => pI z) (show 1 = (readE b) by first | exact hno.1.symm | exact hno.2.symm | exact hE.symm | exact hyes.1.symm | exact hyes.2.1.symm | exact hyes.2.2.symm))) ?_
            refine w_ret ?_
            refine q_then_ret ?_
            exact fin_plain (ret_tmp rfl (ret_tmp rfl (ret_tmp rfl ret_nil))) rfl rfl ⟨rfl, rfl, rfl⟩
          ·
            have c4_ := c4
            try simp only [decide_eq_true_eq, decide_eq_false_iff_not, Bool.not_eq_true', Bool.not_eq_false', Bool.not_true, Bool.not_false, Bool.not_eq_eq_eq_not, Int.not_lt, Int.not_le] at c4
            have hyes := readE_ok (by omega) (by omega) c3 he1 (by omega)
            refine w_skip ?_
            refine q_then ?_
            refine w_seq ?_
            refine W_drawn tabOk mixed hnt [[], [0], [0, 1], [0, 1, 2], [], [4], [0, 1, 2, 3], [0, 1, 2, 3, 4, 5, 6], [0, 1, 2, 3, 4, 5, 6, 7]] (by kernel_rfl) ?_
            refine d_op ?_
            refine x_run0 [(5, pS 1 false enc8 (openL b))] [] rfl rfl rfl rfl (s_move rfl ⟨rfl, rfl, rfl⟩) ?_
            refine d_op ?_
            refine x_run0 [(30, pS 1 false enc8 (openL b))] [0] rfl rfl rfl rfl (s_iaM (q := 0) (b := e1) (f := enc8) tab_41 rfl tab_5 rfl rfl (by omega) rfl he1 ⟨rfl, rfl, rfl⟩) ?_
            refine d_op ?_
            refine x_run0 [(31, PV.f (.ro (enc8 e1)))] [0, 1] rfl rfl rfl rfl (s_load_ro1 tab_5 rfl rfl rfl rfl ⟨rfl, rfl, rfl⟩) ?_
            refine d_op ?_
            refine x_run0 [(32, p8 e1)] [0, 1, 2] rfl rfl rfl rfl (s_cvN (a := UInt8.toNat e1) tab_5 tab_3 rfl rfl rfl (by omega) (by have := lt8 e1; omega) ⟨rfl, rfl, rfl⟩) ?_
            refine d_op ?_
            refine x_run0 [(5, pS 1 false enc8 (openL b))] [] rfl rfl rfl rfl (s_move rfl ⟨rfl, rfl, rfl⟩) ?_
            refine d_op ?_
            refine x_run0 [(34, pS 1 false enc8 (openL b))] [4] rfl rfl rfl rfl (s_cutM_lo (a := 1) (f := enc8) (l := openL b) tab_41 rfl tab_5 ⟨rfl, by decide⟩ rfl (bound_some rfl (by omega)) (by omega) ⟨rfl, rfl, rfl⟩) ?_
            refine d_op ?_
            refine x_run0 [(33, pN (UInt8.toNat e1))] [0, 1, 2, 3] rfl rfl rfl rfl (s_assign rfl ⟨rfl, rfl, rfl⟩) ?_
            refine d_op ?_
            refine x_run0 [(35, pS 1 false enc8 ((openL b).drop 1))] [0, 1, 2, 3, 4, 5, 6] rfl rfl rfl rfl (s_assign rfl ⟨rfl, rfl, rfl⟩) ?_
            refine d_op ?_
            refine x_run0 [] [0, 1, 2, 3, 4, 5, 6, 7] rfl rfl rfl rfl (s_assign rfl ⟨rfl, rfl, rfl⟩) ?_
            refine d_end ⟨by kernel_rfl, ?_⟩
            refine q_then ?_
            refine w_le (s := 2) (y := pI (readA b)) rfl (le_of_eq (congrArg (fun z : Int => pI z) (show ((UInt8.toNat e1 : Nat) : Int) = (readA b) by first | exact hno.1.symm | exact hno.2.symm | exact hE.symm | exact hyes.1.symm | exact hyes.2.1.symm | exact hyes.2.2.symm))) ?_
            refine w_le (s := 3) (y := pS 1 false enc8 (readP b)) rfl (le_of_eq (congrArg (fun z => pS 1 false enc8 z) (show ((openL b).drop 1) = (readP b) by first | exact hno.1.symm | exact hno.2.symm | exact hE.symm | exact hyes.1.symm | exact hyes.2.1.symm | exact hyes.2.2.symm))) ?_
            refine w_le (s := 4) (y := pI (readE b)) rfl (le_of_eq (congrArg (fun z : Int => pI z) (show 0 = (readE b) by first | exact hno.1.symm | exact hno.2.symm | exact hE.symm | exact hyes.1.symm | exact hyes.2.1.symm | exact hyes.2.2.symm))) ?_
            refine w_ret ?_
            exact fin_plain (ret_tmp rfl (ret_tmp rfl (ret_tmp rfl ret_nil))) rfl rfl ⟨rfl, rfl, rfl⟩
        ·
          have g1' := g1
          try simp only [decide_eq_true_eq, decide_eq_false_iff_not, Bool.not_eq_true', Bool.not_eq_false', Bool.not_true, Bool.not_false, Bool.not_eq_eq_eq_not, Int.not_lt, Int.not_le] at g1'
          have hE := readE_arg (by omega) (by omega) c3 he1 (.inl (by omega))
          have hno := read_no hE (by decide)
          refine r_if tabOk hnt rfl rfl rfl (fun e => absurd (e.symm.trans g1) (by decide)) (fun _ => ?_)
          refine r_if tabOk hnt rfl rfl rfl (fun e => absurd (e.symm.trans g1) (by decide)) (fun _ => ?_)
          refine r_if tabOk hnt rfl rfl rfl (fun e => absurd (e.symm.trans g1) (by decide)) (fun _ => ?_)
          refine r_op tabOk hnt rfl (s_pick_t rfl g1 rfl ?_) 
          refine r_end ?_
          refine q_then ?_
          refine w_if rfl (fun _ => ?_) (fun e => absurd e (by decide))
          refine w_seq ?_
          refine w_R ?_
          refine r_op tabOk hnt rfl (s_assign rfl ?_) 
          refine r_op tabOk hnt rfl (s_assign rfl ?_) 
          refine r_op tabOk hnt rfl (s_assign rfl ?_) 
          refine r_end ?_
          refine q_then ?_
          refine w_le (s := 2) (y := pI (readA b)) rfl (le_of_eq (congrArg (fun z : Int => pI z) (show 0 = (readA b) by first | exact hno.1.symm | exact hno.2.symm | exact hE.symm | exact hyes.1.symm | exact hyes.2.1.symm | exact hyes.2.2.symm))) ?_
          refine w_le (s := 3) (y := pS 1 false enc8 []) rfl (le_nilS 1 false) ?_
          refine w_le (s := 3) (y := pS 1 false enc8 (readP b)) rfl (le_of_eq (congrArg (fun z => pS 1 false enc8 z) (show [] = (readP b) by first | exact hno.1.symm | exact hno.2.symm | exact hE.symm | exact hyes.1.symm | exact hyes.2.1.symm | exact hyes.2.2.symm))) ?_
          refine w_le (s := 4) (y := pI (readE b)) rfl (le_of_eq (congrArg (fun z : Int => pI z) (show 1 = (readE b) by first | exact hno.1.symm | exact hno.2.symm | exact hE.symm | exact hyes.1.symm | exact hyes.2.1.symm | exact hyes.2.2.symm))) ?_
          refine w_ret ?_
          refine q_then_ret ?_
          exact fin_plain (ret_tmp rfl (ret_tmp rfl (ret_tmp rfl ret_nil))) rfl rfl ⟨rfl, rfl, rfl⟩

theorem w_rtu_Split_1 (cur : List UInt8) (cl_cur : Bool) (sp : Bool) (os : List (List UInt8)) (ho : os.length ≤ 1048576) :
    T Try.prog 50 [PV.ptr 0 0, PV.ptr 1 0, PV.ptr 2 0] 4 [(0, .obj [pS 1 cl_cur enc8 cur]), (1, .obj [pB sp]), (2, .obj [PV.ref 3 0 none]), (3, oB true 1 (encS 1 enc8) os)] (Ret (PV.tup []) 5 [(0, .obj [pS 1 false enc8 ([] : List UInt8)]), (1, .obj [pB false]), (2, .obj [PV.ref 4 0 none]), (4, oB true 1 (encS 1 enc8) (spE os cur sp))]) := by
  refine t_fun tabOk (n := 14) (rs := []) Try.func50 rfl rfl rfl rfl (Nat.le_of_ble_eq_true rfl) ?_
  intro c hnt hk
  refine w_seq ?_
  refine w_seq ?_
  refine w_R ?_
  refine r_op tabOk hnt rfl (s_load_ptr1 tab_41 rfl rfl rfl rfl rfl ?_) 
  refine r_op tabOk hnt rfl (s_lenM (l := cur) tab_41 rfl (hM_sl (f := enc8) rfl) ?_) 
  refine r_op tabOk hnt rfl (s_gtr rfl rfl ?_) 
  refine r_op tabOk hnt rfl (s_move rfl ?_) 
  refine r_if tabOk hnt rfl rfl rfl (fun g1 => ?_) (fun g1 => ?_)
  ·
    have g1' := g1
    try simp only [decide_eq_true_eq, decide_eq_false_iff_not, Bool.not_eq_true', Bool.not_eq_false', Bool.not_true, Bool.not_false, Bool.not_eq_eq_eq_not, Int.not_lt, Int.not_le] at g1'
    refine r_op tabOk hnt rfl (s_load_ptr1 tab_4 rfl rfl rfl rfl rfl ?_) 
    refine r_if tabOk hnt rfl rfl rfl (fun _ => ?_) (fun e => absurd (e.symm.trans g1) (by decide))
    refine r_op tabOk hnt rfl (s_not rfl ?_) 
    refine r_op tabOk hnt rfl (s_pick_t rfl g1 rfl ?_) 
    refine r_end ?_
    refine q_then ?_
    refine w_if rfl (fun c1 => ?_) (fun c1 => ?_)
    ·
      have c1_ := c1
      try simp only [decide_eq_true_eq, decide_eq_false_iff_not, Bool.not_eq_true', Bool.not_eq_false', Bool.not_true, Bool.not_false, Bool.not_eq_eq_eq_not, Int.not_lt, Int.not_le] at c1
      refine w_R ?_
      refine r_op tabOk hnt rfl (s_load_ptr1 tab_58 rfl rfl rfl rfl rfl ?_) 
      refine r_op tabOk hnt rfl (s_load_ptr1 tab_41 rfl rfl rfl rfl rfl ?_) 
      refine r_le (s := 11) (y := pS 1 false enc8 cur) rfl (le_F (FLe.loose)) ?_
      refine r_op tabOk hnt rfl (s_mkM (f := (encS 1 enc8)) [cur] tab_58 rfl tab_41 ⟨rfl, by decide⟩ (by decide) rfl rfl rfl rfl ?_) 
      refine r_op tabOk hnt rfl (s_appR0 (f := (encS 1 enc8)) (l := os) (xs := [cur]) tab_58 rfl tab_41 ⟨rfl, by decide, by decide⟩ (srcM tab_58 rfl (hM_ref0 (f := (encS 1 enc8)) rfl rfl)) rfl rfl (by first | omega | (simp; omega)) ?_) 
      refine r_op tabOk hnt rfl (s_store_ptr tab_58 rfl rfl rfl rfl rfl (Nat.le_of_ble_eq_true rfl) ?_) 
      refine r_set [(0, PV.ptr 0 0), (1, PV.ptr 1 0)] [(2, .obj [PV.ref 5 0 none]), (5, oB true 1 (encS 1 enc8) (os ++ [cur])), (4, oB true 1 (encS 1 enc8) [cur]), (0, .obj [pS 1 cl_cur enc8 cur]), (1, .obj [pB sp])] 6 ⟨rfl, rfl, trivial⟩ rfl rfl ?_
      refine r_end ?_
      refine q_then ?_
      refine w_R ?_
      refine r_op tabOk hnt rfl (s_store_ptr tab_41 rfl rfl rfl rfl rfl (Nat.le_of_ble_eq_true rfl) ?_) 
      refine r_op tabOk hnt rfl (s_store_ptr tab_4 rfl rfl rfl rfl rfl (Nat.le_of_ble_eq_true rfl) ?_) 
      refine r_set [] [(1, .obj [pB false]), (0, .obj [pNil]), (2, .obj [PV.ref 5 0 none]), (5, oB true 1 (encS 1 enc8) (os ++ [cur])), (4, oB true 1 (encS 1 enc8) [cur])] 6 trivial rfl rfl ?_
      refine r_leC (n := 0) (j := 0) (y := pS 1 false enc8 []) rfl rfl (le_nilS 1 false) ?_
      refine r_leC (n := 0) (j := 0) (y := pS 1 false enc8 ([] : List UInt8)) rfl rfl (le_of_eq (congrArg (fun z => pS 1 false enc8 z) (show [] = ([] : List UInt8) by first | rfl | exact (spE_yes (List.ne_nil_of_length_pos (by omega)) (by simpa using c1)).symm | exact (spE_no (.inr (by assumption))).symm | exact (spE_no (.inl (by assumption))).symm | exact (spE_no (.inl (List.eq_nil_of_length_eq_zero (by omega)))).symm | exact (spE_no (.inr (by simpa using c1))).symm))) ?_
      refine r_H (H' := [(0, .obj [pS 1 false enc8 ([] : List UInt8)]), (1, .obj [pB false]), (2, .obj [PV.ref 5 0 none]), (5, oB true 1 (encS 1 enc8) (spE os cur sp)), (4, oB true 1 (encS 1 enc8) [cur])]) (congrArg (fun z => ([(0, .obj [pS 1 false enc8 ([] : List UInt8)]), (1, .obj [pB false]), (2, .obj [PV.ref 5 0 none]), (5, oB true 1 (encS 1 enc8) z), (4, oB true 1 (encS 1 enc8) [cur])] : Heap)) (show os ++ [cur] = spE os cur sp by first | rfl | exact (spE_yes (List.ne_nil_of_length_pos (by omega)) (by simpa using c1)).symm | exact (spE_no (.inr (by assumption))).symm | exact (spE_no (.inl (by assumption))).symm | exact (spE_no (.inl (List.eq_nil_of_length_eq_zero (by omega)))).symm | exact (spE_no (.inr (by simpa using c1))).symm)) ?_
      refine r_end ?_
      refine fin_normal ?_
      exact fin_names (nx1 := 5) (H1 := [(0, .obj [pS 1 false enc8 ([] : List UInt8)]), (1, .obj [pB false]), (2, .obj [PV.ref 4 0 none]), (4, oB true 1 (encS 1 enc8) (spE os cur sp))]) [(0, 0), (1, 1), (2, 2), (4, 5)] ret_nil rfl (by decide) ⟨⟨_, _, rfl, rfl, rfl, rfl⟩, ⟨_, _, rfl, rfl, rfl, rfl⟩, ⟨_, _, rfl, rfl, rfl, rfl⟩, ⟨_, _, rfl, rfl, rfl, rfl⟩, trivial⟩ (by decide) rfl ⟨rfl, rfl, rfl⟩
    ·
      have c1_ := c1
      try simp only [decide_eq_true_eq, decide_eq_false_iff_not, Bool.not_eq_true', Bool.not_eq_false', Bool.not_true, Bool.not_false, Bool.not_eq_eq_eq_not, Int.not_lt, Int.not_le] at c1
      refine w_skip ?_
      refine q_then ?_
      refine w_R ?_
      refine r_op tabOk hnt rfl (s_store_ptr tab_41 rfl rfl rfl rfl rfl (Nat.le_of_ble_eq_true rfl) ?_) 
      refine r_op tabOk hnt rfl (s_store_ptr tab_4 rfl rfl rfl rfl rfl (Nat.le_of_ble_eq_true rfl) ?_) 
      refine r_set [] [(1, .obj [pB false]), (0, .obj [pNil]), (2, .obj [PV.ref 3 0 none]), (3, oB true 1 (encS 1 enc8) os)] 4 trivial rfl rfl ?_
      refine r_leC (n := 0) (j := 0) (y := pS 1 false enc8 []) rfl rfl (le_nilS 1 false) ?_
      refine r_leC (n := 0) (j := 0) (y := pS 1 false enc8 ([] : List UInt8)) rfl rfl (le_of_eq (congrArg (fun z => pS 1 false enc8 z) (show [] = ([] : List UInt8) by first | rfl | exact (spE_yes (List.ne_nil_of_length_pos (by omega)) (by simpa using c1)).symm | exact (spE_no (.inr (by assumption))).symm | exact (spE_no (.inl (by assumption))).symm | exact (spE_no (.inl (List.eq_nil_of_length_eq_zero (by omega)))).symm | exact (spE_no (.inr (by simpa using c1))).symm))) ?_
      refine r_H (H' := [(0, .obj [pS 1 false enc8 ([] : List UInt8)]), (1, .obj [pB false]), (2, .obj [PV.ref 3 0 none]), (3, oB true 1 (encS 1 enc8) (spE os cur sp))]) (congrArg (fun z => ([(0, .obj [pS 1 false enc8 ([] : List UInt8)]), (1, .obj [pB false]), (2, .obj [PV.ref 3 0 none]), (3, oB true 1 (encS 1 enc8) z)] : Heap)) (show os = spE os cur sp by first | rfl | exact (spE_yes (List.ne_nil_of_length_pos (by omega)) (by simpa using c1)).symm | exact (spE_no (.inr (by assumption))).symm | exact (spE_no (.inl (by assumption))).symm | exact (spE_no (.inl (List.eq_nil_of_length_eq_zero (by omega)))).symm | exact (spE_no (.inr (by simpa using c1))).symm)) ?_
      refine r_end ?_
      refine fin_normal ?_
      exact fin_names (nx1 := 5) (H1 := [(0, .obj [pS 1 false enc8 ([] : List UInt8)]), (1, .obj [pB false]), (2, .obj [PV.ref 4 0 none]), (4, oB true 1 (encS 1 enc8) (spE os cur sp))]) [(0, 0), (1, 1), (2, 2), (4, 3)] ret_nil rfl (by decide) ⟨⟨_, _, rfl, rfl, rfl, rfl⟩, ⟨_, _, rfl, rfl, rfl, rfl⟩, ⟨_, _, rfl, rfl, rfl, rfl⟩, ⟨_, _, rfl, rfl, rfl, rfl⟩, trivial⟩ (by decide) rfl ⟨rfl, rfl, rfl⟩
  ·
    have g1' := g1
    try simp only [decide_eq_true_eq, decide_eq_false_iff_not, Bool.not_eq_true', Bool.not_eq_false', Bool.not_true, Bool.not_false, Bool.not_eq_eq_eq_not, Int.not_lt, Int.not_le] at g1'
    refine r_if tabOk hnt rfl rfl rfl (fun e => absurd (e.symm.trans g1) (by decide)) (fun _ => ?_)
    refine r_op tabOk hnt rfl (s_pick_f rfl g1 rfl ?_) 
    refine r_end ?_
    refine q_then ?_
    refine w_if rfl (fun e => absurd e (by decide)) (fun _ => ?_)
    refine w_skip ?_
    refine q_then ?_
    refine w_R ?_
    refine r_op tabOk hnt rfl (s_store_ptr tab_41 rfl rfl rfl rfl rfl (Nat.le_of_ble_eq_true rfl) ?_) 
    refine r_op tabOk hnt rfl (s_store_ptr tab_4 rfl rfl rfl rfl rfl (Nat.le_of_ble_eq_true rfl) ?_) 
    refine r_set [] [(1, .obj [pB false]), (0, .obj [pNil]), (2, .obj [PV.ref 3 0 none]), (3, oB true 1 (encS 1 enc8) os)] 4 trivial rfl rfl ?_
    refine r_leC (n := 0) (j := 0) (y := pS 1 false enc8 []) rfl rfl (le_nilS 1 false) ?_
    refine r_leC (n := 0) (j := 0) (y := pS 1 false enc8 ([] : List UInt8)) rfl rfl (le_of_eq (congrArg (fun z => pS 1 false enc8 z) (show [] = ([] : List UInt8) by first | rfl | exact (spE_yes (List.ne_nil_of_length_pos (by omega)) (by simpa using c1)).symm | exact (spE_no (.inr (by assumption))).symm | exact (spE_no (.inl (by assumption))).symm | exact (spE_no (.inl (List.eq_nil_of_length_eq_zero (by omega)))).symm | exact (spE_no (.inr (by simpa using c1))).symm))) ?_
    refine r_H (H' := [(0, .obj [pS 1 false enc8 ([] : List UInt8)]), (1, .obj [pB false]), (2, .obj [PV.ref 3 0 none]), (3, oB true 1 (encS 1 enc8) (spE os cur sp))]) (congrArg (fun z => ([(0, .obj [pS 1 false enc8 ([] : List UInt8)]), (1, .obj [pB false]), (2, .obj [PV.ref 3 0 none]), (3, oB true 1 (encS 1 enc8) z)] : Heap)) (show os = spE os cur sp by first | rfl | exact (spE_yes (List.ne_nil_of_length_pos (by omega)) (by simpa using c1)).symm | exact (spE_no (.inr (by assumption))).symm | exact (spE_no (.inl (by assumption))).symm | exact (spE_no (.inl (List.eq_nil_of_length_eq_zero (by omega)))).symm | exact (spE_no (.inr (by simpa using c1))).symm)) ?_
    refine r_end ?_
    refine fin_normal ?_
    exact fin_names (nx1 := 5) (H1 := [(0, .obj [pS 1 false enc8 ([] : List UInt8)]), (1, .obj [pB false]), (2, .obj [PV.ref 4 0 none]), (4, oB true 1 (encS 1 enc8) (spE os cur sp))]) [(0, 0), (1, 1), (2, 2), (4, 3)] ret_nil rfl (by decide) ⟨⟨_, _, rfl, rfl, rfl, rfl⟩, ⟨_, _, rfl, rfl, rfl, rfl⟩, ⟨_, _, rfl, rfl, rfl, rfl⟩, ⟨_, _, rfl, rfl, rfl, rfl⟩, trivial⟩ (by decide) rfl ⟨rfl, rfl, rfl⟩

theorem w_rtu_Split (ts : List Int) (cl_ts : Bool) (b : List UInt8) (cl_b : Bool) (ht : ts.length ≤ 1048576) (hb : b.length ≤ 140737488351232) (hts : ∀ t ∈ ts, -9223372036854775808 ≤ t ∧ t ≤ 9223372036854775807) :
    T Try.prog 31 [pS 1 cl_ts encI ts, pS 1 cl_b enc8 b] 0 [] (Ret (pS 1 true (encS 1 enc8) (splitV ts b)) 0 []) := by
  refine t_fun tabOk (n := 56) (rs := [.tmp 4]) Try.func31 rfl rfl rfl rfl (Nat.le_of_ble_eq_true rfl) ?_
  intro c hnt hk
  refine w_seq ?_
  refine w_R ?_
  refine r_op tabOk hnt rfl (s_assign rfl ?_) 
  refine r_end ?_
  refine q_then ?_
  refine w_seq ?_
  refine w_R ?_
  refine r_op tabOk hnt rfl (s_alloc tab_58 ?_) 
  refine r_set [(0, pS 1 cl_ts encI ts), (1, pS 1 cl_b enc8 b), (5, PV.ptr 0 0)] [(0, .obj [pNil])] 1 ⟨rfl, rfl, rfl, trivial⟩ rfl rfl ?_
  refine r_end ?_
  refine q_then ?_
  refine w_seq ?_
  refine w_R ?_
  refine r_op tabOk hnt rfl (s_alloc tab_41 ?_) 
  refine r_set [(0, pS 1 cl_ts encI ts), (1, pS 1 cl_b enc8 b), (5, PV.ptr 0 0), (6, PV.ptr 1 0)] [(1, .obj [pNil]), (0, .obj [pNil])] 2 ⟨rfl, rfl, rfl, rfl, trivial⟩ rfl rfl ?_
  refine r_end ?_
  refine q_then ?_
  refine w_seq ?_
  refine w_R ?_
  refine r_op tabOk hnt rfl (s_alloc tab_4 ?_) 
  refine r_op tabOk hnt rfl (s_store_ptr tab_4 rfl rfl rfl rfl rfl (Nat.le_of_ble_eq_true rfl) ?_) 
  refine r_set [(0, pS 1 cl_ts encI ts), (1, pS 1 cl_b enc8 b), (5, PV.ptr 0 0), (6, PV.ptr 1 0), (7, PV.ptr 2 0)] [(2, .obj [pB false]), (1, .obj [pNil]), (0, .obj [pNil])] 3 ⟨rfl, rfl, rfl, rfl, rfl, trivial⟩ rfl rfl ?_
  refine r_end ?_
  refine q_then ?_
  refine w_seq ?_
  refine w_R ?_
  refine r_op tabOk hnt rfl (s_makeFunc rfl rfl ?_) 
  refine r_op tabOk hnt rfl (s_assign rfl ?_) 
  refine r_end ?_
  refine q_then ?_
  refine w_seq ?_
  refine w_R ?_
  refine r_op tabOk hnt rfl (s_assign rfl ?_) 
  refine r_end ?_
  refine q_then ?_
  refine w_seq ?_
  refine w_seq ?_
  refine w_R ?_
  refine r_op tabOk hnt rfl (s_move rfl ?_) 
  refine r_op tabOk hnt rfl (s_lenM (l := ts) tab_54 rfl (hM_sl (f := encI) rfl) ?_) 
  refine r_op tabOk hnt rfl (s_move rfl ?_) 
  refine r_op tabOk hnt rfl (s_lenM (l := b) tab_41 rfl (hM_sl (f := enc8) rfl) ?_) 
  refine r_op tabOk hnt rfl (s_minN (a := ts.length) (b := b.length) rfl (by omega) (by omega) ?_) 
  refine r_op tabOk hnt rfl (s_move rfl ?_) 
  refine r_end ?_
  refine q_then ?_
  refine w_block ?_
  refine w_adoptC (n := 0) (j := 0) (sz := 1) rfl rfl rfl ?_
  refine w_leC (n := 1) (j := 0) (y := pS 1 false enc8 []) rfl rfl (le_nilS 1 false) ?_
  refine loop5 (fun (os : List (List UInt8)) (cur : List UInt8) (sp : Bool) (la : Int) (i : Nat) => i ≤ min ts.length b.length ∧ spT ts b i = (os, cur, sp, la) ∧ -9223372036854775808 ≤ la ∧ la ≤ 9223372036854775807) (fun (os : List (List UInt8)) (cur : List UInt8) (sp : Bool) (la : Int) (i : Nat) => [(0, pS 1 cl_ts encI ts), (1, pS 1 cl_b enc8 b), (5, PV.ptr 0 0), (6, PV.ptr 2 0), (7, PV.ptr 3 0), (8, PV.clo (.func 50) [PV.ptr 2 0, PV.ptr 3 0, PV.ptr 0 0]), (9, pI la), (18, pN (min ts.length b.length)), (19, pN i)]) 4 (fun (os : List (List UInt8)) (cur : List UInt8) (sp : Bool) (la : Int) (i : Nat) => [(0, .obj [PV.ref 1 0 none]), (1, oB true 1 (encS 1 enc8) os), (2, .obj [pS 1 false enc8 cur]), (3, .obj [pB sp])]) (fun (os : List (List UInt8)) (cur : List UInt8) (sp : Bool) (la : Int) (i : Nat) => min ts.length b.length - i) (([] : List (List UInt8))) ([]) (false) (0) (0) ?_ ⟨[(0, 0), (1, 3), (2, 1), (3, 2)], by rw [hk]; decide, ⟨⟨_, rfl, rfl, rfl⟩, ⟨_, rfl, rfl, rfl⟩, ⟨_, rfl, rfl, rfl⟩, ⟨_, rfl, rfl, rfl⟩, ⟨_, rfl, rfl, rfl⟩, ⟨_, rfl, rfl, rfl⟩, ⟨_, rfl, rfl, rfl⟩, ⟨_, rfl, rfl, rfl⟩, ⟨_, rfl, rfl, rfl⟩, trivial⟩, ⟨⟨_, _, rfl, rfl, rfl, rfl⟩, ⟨_, _, rfl, rfl, rfl, rfl⟩, ⟨_, _, rfl, rfl, rfl, rfl⟩, ⟨_, _, rfl, rfl, rfl, rfl⟩, trivial⟩, by rw [hk]; decide⟩ ?_
  · exact ⟨Nat.zero_le _, rfl, by decide⟩
  ·
    intro os cur sp la i hI
    obtain ⟨hi, hs, hla⟩ := hI
    have hsl := spT_len ts b i
    rw [hs] at hsl
    simp only at hsl
    refine w_seq ?_
    refine w_R ?_
    refine r_op tabOk hnt rfl (s_lss rfl rfl ?_) 
    refine r_end ?_
    refine q_then ?_
    refine w_seq ?_
    refine w_if rfl (fun c1 => ?_) (fun c1 => ?_)
    ·
      have c1_ := c1
      try simp only [decide_eq_true_eq, decide_eq_false_iff_not, Bool.not_eq_true', Bool.not_eq_false', Bool.not_true, Bool.not_false, Bool.not_eq_eq_eq_not, Int.not_lt, Int.not_le] at c1
      refine w_skip ?_
      refine q_then ?_
      refine w_seq ?_
      refine w_block ?_
      refine w_seq ?_
      refine w_R ?_
      refine r_op tabOk hnt rfl (s_move rfl ?_) 
      refine r_op tabOk hnt rfl (s_assign rfl ?_) 
      refine r_end ?_
      refine q_then ?_
      refine w_seq ?_
      refine w_R ?_
      refine r_op tabOk hnt rfl (s_move rfl ?_) 
      refine r_op tabOk hnt rfl (s_move rfl ?_) 
      obtain ⟨e1, he1⟩ := get_of_lt ts (i := i) (by omega)
      refine r_op tabOk hnt rfl (s_iaM (q := i) (b := e1) (f := encI) tab_54 rfl tab_2 rfl rfl (by omega) rfl he1 ?_) 
      refine r_op tabOk hnt rfl (s_load_ro1 tab_2 rfl rfl rfl rfl ?_) 
      have htb := hts e1 (List.mem_of_getElem? he1)
      refine r_op tabOk hnt rfl (s_assign rfl ?_) 
      refine r_end ?_
      refine q_then ?_
      refine join4 (fun (os : List (List UInt8)) (cur : List UInt8) (sp : Bool) (nw : Int) => spGap i e1 (spT ts b i) = (os, cur, sp, nw) ∧ os.length ≤ i + 1 ∧ cur.length ≤ i ∧ -9223372036854775808 ≤ nw ∧ nw ≤ 9223372036854775807) (fun (os : List (List UInt8)) (cur : List UInt8) (sp : Bool) (nw : Int) => [(0, pS 1 cl_ts encI ts), (1, pS 1 cl_b enc8 b), (5, PV.ptr 0 0), (6, PV.ptr 2 0), (7, PV.ptr 3 0), (8, PV.clo (.func 50) [PV.ptr 2 0, PV.ptr 3 0, PV.ptr 0 0]), (10, pN i), (11, pI nw), (18, pN (min ts.length b.length)), (19, pN i)]) 4 (fun (os : List (List UInt8)) (cur : List UInt8) (sp : Bool) (nw : Int) => [(0, .obj [PV.ref 1 0 none]), (1, oB true 1 (encS 1 enc8) os), (2, .obj [pS 1 false enc8 cur]), (3, .obj [pB sp])]) ?_ ?_
      ·
        refine w_seq ?_
        refine w_R ?_
        refine r_op tabOk hnt rfl (s_move rfl ?_) 
        refine r_op tabOk hnt rfl (s_gtr rfl rfl ?_) 
        refine r_end ?_
        refine q_then ?_
        refine w_if rfl (fun c2 => ?_) (fun c2 => ?_)
        ·
          have c2_ := c2
          try simp only [decide_eq_true_eq, decide_eq_false_iff_not, Bool.not_eq_true', Bool.not_eq_false', Bool.not_true, Bool.not_false, Bool.not_eq_eq_eq_not, Int.not_lt, Int.not_le] at c2
          refine w_seq ?_
          refine w_R ?_
          refine r_op tabOk hnt rfl (s_move rfl ?_) 
          refine r_op tabOk hnt rfl (s_move rfl ?_) 
          refine r_op tabOk hnt rfl (s_maxI rfl ?_) 
          refine r_op tabOk hnt rfl (s_assign rfl ?_) 
          refine r_end ?_
          refine q_then ?_
          refine w_seq ?_
          refine w_R ?_
          refine r_op tabOk hnt rfl (s_move rfl ?_) 
          refine r_op tabOk hnt rfl (s_conv tab_2 tab_81 rfl rfl rfl ?_) 
          refine r_op tabOk hnt rfl (s_move rfl ?_) 
          refine r_op tabOk hnt rfl (s_conv tab_2 tab_81 rfl rfl rfl ?_) 
          refine r_op tabOk hnt rfl (s_sub rfl rfl ?_) 
          refine r_op tabOk hnt rfl (s_assign rfl ?_) 
          refine r_end ?_
          refine q_then ?_
          refine w_seq ?_
          refine w_eq (s := 12) (y := pK .u64 (max e1 la - la)) rfl (congrArg (fun z : Int => pK .u64 z) (show (IntKind.u64.wrap ((IntKind.u64.wrap (max e1 la)) - (IntKind.u64.wrap la))) = (max e1 la - la) by exact gap_u64 (by omega) hla (by omega))) ?_
          refine w_R ?_
          refine r_op tabOk hnt rfl (s_move rfl ?_) 
          refine r_op tabOk hnt rfl (s_geq rfl rfl ?_) 
          refine r_end ?_
          refine q_then ?_
          refine w_if rfl (fun c3 => ?_) (fun c3 => ?_)
          ·
            have c3_ := c3
            try simp only [decide_eq_true_eq, decide_eq_false_iff_not, Bool.not_eq_true', Bool.not_eq_false', Bool.not_true, Bool.not_false, Bool.not_eq_eq_eq_not, Int.not_lt, Int.not_le] at c3
            refine w_R ?_
            refine r_op tabOk hnt rfl (s_move rfl ?_) 
            refine r_op tabOk hnt rfl (s_callX (r2 := PV.tup []) (nx1 := 5) (H2 := [(0, .obj [PV.ref 1 0 none]), (1, oB true 1 (encS 1 enc8) os), (2, .obj [pS 1 false enc8 cur]), (3, .obj [pB sp])]) (H3 := [(2, .obj [pS 1 false enc8 ([] : List UInt8)]), (3, .obj [pB false]), (0, .obj [PV.ref 4 0 none]), (4, oB true 1 (encS 1 enc8) (spE os cur sp))]) [2, 3, 0, 1] [.obj [pS 1 false enc8 cur], .obj [pB sp], .obj [PV.ref 1 0 none], oB true 1 (encS 1 enc8) os] rfl rfl rfl (handed_of (by decide) ⟨rfl, rfl, rfl, rfl, trivial⟩) rfl rfl rfl rfl rfl rfl (w_rtu_Split_1 cur false sp os (by first | omega | assumption | (simp; omega) | decide | (simp; done))) rfl (dist_of rfl) rfl rfl rfl rfl ?_) 
            refine r_end ?_
            refine q_then ?_
            refine ⟨(spE os cur sp), (([] : List UInt8)), (false), (max e1 la), ?_, ⟨[(0, 0), (1, 4), (2, 2), (3, 3)], by rw [hk]; decide, ⟨⟨_, rfl, rfl, rfl⟩, ⟨_, rfl, rfl, rfl⟩, ⟨_, rfl, rfl, rfl⟩, ⟨_, rfl, rfl, rfl⟩, ⟨_, rfl, rfl, rfl⟩, ⟨_, rfl, rfl, rfl⟩, ⟨_, rfl, rfl, rfl⟩, ⟨_, rfl, rfl, rfl⟩, ⟨_, rfl, rfl, rfl⟩, ⟨_, rfl, rfl, rfl⟩, trivial⟩, ⟨⟨_, _, rfl, rfl, rfl, rfl⟩, ⟨_, _, rfl, rfl, rfl, rfl⟩, ⟨_, _, rfl, rfl, rfl, rfl⟩, ⟨_, _, rfl, rfl, rfl, rfl⟩, trivial⟩, by rw [hk]; decide⟩⟩
            refine ⟨?_, by first | omega | (rw [List.length_append, List.length_singleton]; omega) | (have := spEnd_len (os, cur, sp, la); simp only [spEnd] at this; omega), by first | omega | simp, by omega⟩
            rw [hs]
            first | exact spGap_4 (by omega) (by simp only; omega) | (refine (spGap_4 (by omega) (by simp only; omega)).trans ?_; show (spE os cur sp, _, _, _) = _; rw [hse]) | exact spGap_2 (by omega) (by simp only; omega) (by simp only; omega) | exact spGap_1 (by omega) (by simp only; omega) (by simp only; omega) | (obtain rfl : i = 0 := (by omega); exact spGap_0 _ _)
          ·
            have c3_ := c3
            try simp only [decide_eq_true_eq, decide_eq_false_iff_not, Bool.not_eq_true', Bool.not_eq_false', Bool.not_true, Bool.not_false, Bool.not_eq_eq_eq_not, Int.not_lt, Int.not_le] at c3
            refine w_seq ?_
            refine w_R ?_
            refine r_op tabOk hnt rfl (s_move rfl ?_) 
            refine r_op tabOk hnt rfl (s_geq rfl rfl ?_) 
            refine r_set [(0, pS 1 cl_ts encI ts), (1, pS 1 cl_b enc8 b), (5, PV.ptr 0 0), (6, PV.ptr 2 0), (7, PV.ptr 3 0), (8, PV.clo (.func 50) [PV.ptr 2 0, PV.ptr 3 0, PV.ptr 0 0]), (10, pN i), (11, pI (max e1 la)), (18, pN (min ts.length b.length)), (19, pN i), (41, pB (decide (2 ≤ max e1 la - la)))] [(0, .obj [PV.ref 1 0 none]), (1, oB true 1 (encS 1 enc8) os), (2, .obj [pS 1 false enc8 cur]), (3, .obj [pB sp])] 4 ⟨rfl, rfl, rfl, rfl, rfl, rfl, rfl, rfl, rfl, rfl, rfl, trivial⟩ rfl rfl ?_
            refine r_end ?_
            refine q_then ?_
            refine w_if rfl (fun c4 => ?_) (fun c4 => ?_)
            ·
              have c4_ := c4
              try simp only [decide_eq_true_eq, decide_eq_false_iff_not, Bool.not_eq_true', Bool.not_eq_false', Bool.not_true, Bool.not_false, Bool.not_eq_eq_eq_not, Int.not_lt, Int.not_le] at c4
              refine w_R ?_
              refine r_op tabOk hnt rfl (s_store_ptr tab_4 rfl rfl rfl rfl rfl (Nat.le_of_ble_eq_true rfl) ?_) 
              refine r_end ?_
              refine q_then ?_
              refine ⟨(os), (cur), (true), (max e1 la), ?_, ⟨[(0, 0), (1, 1), (2, 2), (3, 3)], by rw [hk]; decide, ⟨⟨_, rfl, rfl, rfl⟩, ⟨_, rfl, rfl, rfl⟩, ⟨_, rfl, rfl, rfl⟩, ⟨_, rfl, rfl, rfl⟩, ⟨_, rfl, rfl, rfl⟩, ⟨_, rfl, rfl, rfl⟩, ⟨_, rfl, rfl, rfl⟩, ⟨_, rfl, rfl, rfl⟩, ⟨_, rfl, rfl, rfl⟩, ⟨_, rfl, rfl, rfl⟩, trivial⟩, ⟨⟨_, _, rfl, rfl, rfl, rfl⟩, ⟨_, _, rfl, rfl, rfl, rfl⟩, ⟨_, _, rfl, rfl, rfl, rfl⟩, ⟨_, _, rfl, rfl, rfl, rfl⟩, trivial⟩, by rw [hk]; decide⟩⟩
              refine ⟨?_, by first | omega | (rw [List.length_append, List.length_singleton]; omega) | (have := spEnd_len (os, cur, sp, la); simp only [spEnd] at this; omega), by first | omega | simp, by omega⟩
              rw [hs]
              first | exact spGap_4 (by omega) (by simp only; omega) | (refine (spGap_4 (by omega) (by simp only; omega)).trans ?_; show (spE os cur sp, _, _, _) = _; rw [hse]) | exact spGap_2 (by omega) (by simp only; omega) (by simp only; omega) | exact spGap_1 (by omega) (by simp only; omega) (by simp only; omega) | (obtain rfl : i = 0 := (by omega); exact spGap_0 _ _)
            ·
              have c4_ := c4
              try simp only [decide_eq_true_eq, decide_eq_false_iff_not, Bool.not_eq_true', Bool.not_eq_false', Bool.not_true, Bool.not_false, Bool.not_eq_eq_eq_not, Int.not_lt, Int.not_le] at c4
              refine w_skip ?_
              refine q_then ?_
              refine ⟨(os), (cur), (sp), (max e1 la), ?_, ⟨[(0, 0), (1, 1), (2, 2), (3, 3)], by rw [hk]; decide, ⟨⟨_, rfl, rfl, rfl⟩, ⟨_, rfl, rfl, rfl⟩, ⟨_, rfl, rfl, rfl⟩, ⟨_, rfl, rfl, rfl⟩, ⟨_, rfl, rfl, rfl⟩, ⟨_, rfl, rfl, rfl⟩, ⟨_, rfl, rfl, rfl⟩, ⟨_, rfl, rfl, rfl⟩, ⟨_, rfl, rfl, rfl⟩, ⟨_, rfl, rfl, rfl⟩, trivial⟩, ⟨⟨_, _, rfl, rfl, rfl, rfl⟩, ⟨_, _, rfl, rfl, rfl, rfl⟩, ⟨_, _, rfl, rfl, rfl, rfl⟩, ⟨_, _, rfl, rfl, rfl, rfl⟩, trivial⟩, by rw [hk]; decide⟩⟩
              refine ⟨?_, by first | omega | (rw [List.length_append, List.length_singleton]; omega) | (have := spEnd_len (os, cur, sp, la); simp only [spEnd] at this; omega), by first | omega | simp, by omega⟩
              rw [hs]
              first | exact spGap_4 (by omega) (by simp only; omega) | (refine (spGap_4 (by omega) (by simp only; omega)).trans ?_; show (spE os cur sp, _, _, _) = _; rw [hse]) | exact spGap_2 (by omega) (by simp only; omega) (by simp only; omega) | exact spGap_1 (by omega) (by simp only; omega) (by simp only; omega) | (obtain rfl : i = 0 := (by omega); exact spGap_0 _ _)
        ·
          have c2_ := c2
          try simp only [decide_eq_true_eq, decide_eq_false_iff_not, Bool.not_eq_true', Bool.not_eq_false', Bool.not_true, Bool.not_false, Bool.not_eq_eq_eq_not, Int.not_lt, Int.not_le] at c2
          refine w_skip ?_
          refine q_then ?_
          refine ⟨(os), (cur), (sp), (e1), ?_, ⟨[(0, 0), (1, 1), (2, 2), (3, 3)], by rw [hk]; decide, ⟨⟨_, rfl, rfl, rfl⟩, ⟨_, rfl, rfl, rfl⟩, ⟨_, rfl, rfl, rfl⟩, ⟨_, rfl, rfl, rfl⟩, ⟨_, rfl, rfl, rfl⟩, ⟨_, rfl, rfl, rfl⟩, ⟨_, rfl, rfl, rfl⟩, ⟨_, rfl, rfl, rfl⟩, ⟨_, rfl, rfl, rfl⟩, ⟨_, rfl, rfl, rfl⟩, trivial⟩, ⟨⟨_, _, rfl, rfl, rfl, rfl⟩, ⟨_, _, rfl, rfl, rfl, rfl⟩, ⟨_, _, rfl, rfl, rfl, rfl⟩, ⟨_, _, rfl, rfl, rfl, rfl⟩, trivial⟩, by rw [hk]; decide⟩⟩
          refine ⟨?_, by first | omega | (rw [List.length_append, List.length_singleton]; omega) | (have := spEnd_len (os, cur, sp, la); simp only [spEnd] at this; omega), by first | omega | simp, by omega⟩
          rw [hs]
          first | exact spGap_4 (by omega) (by simp only; omega) | (refine (spGap_4 (by omega) (by simp only; omega)).trans ?_; show (spE os cur sp, _, _, _) = _; rw [hse]) | exact spGap_2 (by omega) (by simp only; omega) (by simp only; omega) | exact spGap_1 (by omega) (by simp only; omega) (by simp only; omega) | (obtain rfl : i = 0 := (by omega); exact spGap_0 _ _)
      ·
        intro os cur sp nw hJ
        obtain ⟨hj, hol, hcl, hnw⟩ := hJ
        refine w_seq ?_
        refine W_drawn tabOk mixed hnt [[], [0], [], [], [2, 3], [2, 3, 4], [2, 3, 4, 5], [0, 1, 2, 3, 4, 5, 6], [0, 1, 2, 3, 4, 5, 6, 7]] (by kernel_rfl) ?_
        refine d_op ?_
        refine x_run [(6, PV.ptr 2 0)] [] [(2, .obj [pS 1 false enc8 cur])] [] [(2, .obj [pS 1 false enc8 cur])] [] [(0, .obj [PV.ref 1 0 none]), (1, oB true 1 (encS 1 enc8) os), (2, .obj [pS 1 false enc8 cur]), (3, .obj [pB sp])] rfl rfl rfl rfl rfl rfl (s_load_ptr1 tab_41 rfl rfl rfl rfl rfl ⟨rfl, rfl, rfl⟩) rfl ⟨rfl, trivial⟩ rfl rfl ?_
        refine d_op ?_
        refine x_run0 [(42, pS 1 false enc8 cur)] [0] rfl rfl rfl rfl (s_callF rfl rfl rfl (w_slices_Clip_byte_byte cur false) rfl ⟨rfl, rfl, rfl⟩) ?_
        refine d_op ?_
        refine x_run0 [(1, pS 1 cl_b enc8 b)] [] rfl rfl rfl rfl (s_move rfl ⟨rfl, rfl, rfl⟩) ?_
        refine d_op ?_
        refine x_run0 [(10, pN i)] [] rfl rfl rfl rfl (s_move rfl ⟨rfl, rfl, rfl⟩) ?_
        refine d_op ?_
        obtain ⟨e2, he2⟩ := get_of_lt b (i := i) (by omega)
        refine x_run0 [(44, pS 1 cl_b enc8 b), (45, pN i)] [2, 3] rfl rfl rfl rfl (s_iaM (q := i) (b := e2) (f := enc8) tab_41 rfl tab_5 rfl rfl (by omega) rfl he2 ⟨rfl, rfl, rfl⟩) ?_
        refine d_op ?_
        refine x_run0 [(46, PV.f (.ro (enc8 e2)))] [2, 3, 4] rfl rfl rfl rfl (s_load_ro1 tab_5 rfl rfl rfl rfl ⟨rfl, rfl, rfl⟩) ?_
        refine d_op ?_
        refine x_run [(47, p8 e2)] [2, 3, 4, 5] [] [] [(4, oB true 1 enc8 [e2])] [(4, oB true 1 enc8 [e2])] [(4, oB true 1 enc8 [e2]), (0, .obj [PV.ref 1 0 none]), (1, oB true 1 (encS 1 enc8) os), (2, .obj [pS 1 false enc8 cur]), (3, .obj [pB sp])] rfl rfl rfl rfl rfl rfl (s_mkM (f := enc8) [e2] tab_41 rfl tab_5 ⟨rfl, by decide⟩ (by decide) rfl rfl rfl rfl ⟨rfl, rfl, rfl⟩) rfl trivial rfl rfl ?_
        refine d_op ?_
        refine x_run [(43, pS 1 true enc8 cur), (48, PV.ref 4 0 none)] [0, 1, 2, 3, 4, 5, 6] [(4, oB true 1 enc8 [e2])] [] [(5, oB true 1 enc8 (cur ++ [e2])), (4, oB true 1 enc8 [e2])] [(5, oB true 1 enc8 (cur ++ [e2]))] [(5, oB true 1 enc8 (cur ++ [e2])), (4, oB true 1 enc8 [e2]), (0, .obj [PV.ref 1 0 none]), (1, oB true 1 (encS 1 enc8) os), (2, .obj [pS 1 false enc8 cur]), (3, .obj [pB sp])] rfl rfl rfl rfl rfl rfl (s_appC (f := enc8) (l := cur) (xs := [e2]) tab_41 rfl tab_5 ⟨rfl, by decide, by decide⟩ (srcM tab_41 rfl (hM_ref0 (f := enc8) rfl rfl)) rfl (by first | omega | (simp; omega)) (by simp) ⟨rfl, rfl, rfl⟩) rfl ⟨rfl, trivial⟩ rfl rfl ?_
        refine d_op ?_
        refine x_run [(6, PV.ptr 2 0), (49, PV.ref 5 0 none)] [0, 1, 2, 3, 4, 5, 6, 7] [] [(2, .obj [pS 1 false enc8 cur])] [(2, .obj [PV.ref 5 0 none])] [(2, .obj [PV.ref 5 0 none])] [(2, .obj [PV.ref 5 0 none]), (5, oB true 1 enc8 (cur ++ [e2])), (4, oB true 1 enc8 [e2]), (0, .obj [PV.ref 1 0 none]), (1, oB true 1 (encS 1 enc8) os), (3, .obj [pB sp])] rfl rfl rfl rfl rfl rfl (s_store_ptr tab_41 rfl rfl rfl rfl rfl (Nat.le_of_ble_eq_true rfl) ⟨rfl, rfl, rfl⟩) rfl trivial rfl rfl ?_
        refine d_end ⟨by kernel_rfl, ?_⟩
        refine q_then ?_
        refine w_R ?_
        refine r_op tabOk hnt rfl (s_move rfl ?_) 
        refine r_op tabOk hnt rfl (s_assign rfl ?_) 
        refine r_end ?_
        refine q_block ?_
        refine q_then ?_
        refine w_R ?_
        refine r_op tabOk hnt rfl (s_addN (a := i) (b := 1) rfl rfl (by omega) (by omega) (by omega) ?_) 
        refine r_op tabOk hnt rfl (s_move rfl ?_) 
        refine r_frzC (n := 2) (j := 0) rfl rfl rfl rfl ?_
        refine r_end ?_
        refine q_then ?_
        refine ⟨(os), (cur ++ [e2]), (sp), (nw), (i + 1), ?_, ?_, ⟨[(0, 0), (1, 1), (2, 2), (3, 3)], by rw [hk]; decide, ⟨⟨_, rfl, rfl, rfl⟩, ⟨_, rfl, rfl, rfl⟩, ⟨_, rfl, rfl, rfl⟩, ⟨_, rfl, rfl, rfl⟩, ⟨_, rfl, rfl, rfl⟩, ⟨_, rfl, rfl, rfl⟩, ⟨_, rfl, rfl, rfl⟩, ⟨_, rfl, rfl, rfl⟩, ⟨_, rfl, rfl, rfl⟩, trivial⟩, ⟨⟨_, _, rfl, rfl, rfl, rfl⟩, ⟨_, _, rfl, rfl, rfl, rfl⟩, ⟨_, _, rfl, rfl, rfl, rfl⟩, ⟨_, _, rfl, rfl, rfl, rfl⟩, trivial⟩, by rw [hk]; decide⟩⟩
        ·
          refine ⟨by omega, ?_, hnw⟩
          rw [spT_next he1 he2, hj]; rfl
        · omega
    ·
      have c1_ := c1
      try simp only [decide_eq_true_eq, decide_eq_false_iff_not, Bool.not_eq_true', Bool.not_eq_false', Bool.not_true, Bool.not_false, Bool.not_eq_eq_eq_not, Int.not_lt, Int.not_le] at c1
      refine w_exit ?_
      refine q_then_exit ?_
      refine q_then_exit ?_
      refine q_block_exit ?_
      refine q_then ?_
      refine w_seq ?_
      refine w_R ?_
      refine r_op tabOk hnt rfl (s_move rfl ?_) 
      refine r_op tabOk hnt rfl (s_callX (r2 := PV.tup []) (nx1 := 5) (H2 := [(0, .obj [PV.ref 1 0 none]), (1, oB true 1 (encS 1 enc8) os), (2, .obj [pS 1 false enc8 cur]), (3, .obj [pB sp])]) (H3 := [(2, .obj [pS 1 false enc8 ([] : List UInt8)]), (3, .obj [pB false]), (0, .obj [PV.ref 4 0 none]), (4, oB true 1 (encS 1 enc8) (spE os cur sp))]) [2, 3, 0, 1] [.obj [pS 1 false enc8 cur], .obj [pB sp], .obj [PV.ref 1 0 none], oB true 1 (encS 1 enc8) os] rfl rfl rfl (handed_of (by decide) ⟨rfl, rfl, rfl, rfl, trivial⟩) rfl rfl rfl rfl rfl rfl (w_rtu_Split_1 cur false sp os (by first | omega | assumption | (simp; omega) | decide | (simp; done))) rfl (dist_of rfl) rfl rfl rfl rfl ?_) 
      refine r_set [(5, PV.ptr 0 0)] [(2, .obj [pS 1 false enc8 ([] : List UInt8)]), (3, .obj [pB false]), (0, .obj [PV.ref 4 0 none]), (4, oB true 1 (encS 1 enc8) (spE os cur sp))] 5 ⟨rfl, trivial⟩ rfl rfl ?_
      refine r_end ?_
      refine q_then ?_
      refine w_seq ?_
      refine w_R ?_
      refine r_op tabOk hnt rfl (s_load_ptr1 tab_58 rfl rfl rfl rfl rfl ?_) 
      refine r_op tabOk hnt rfl (s_callX (r2 := pS 1 true (encS 1 enc8) (spE os cur sp)) (nx1 := 5) (H2 := [(4, oB false 1 (encS 1 enc8) (spE os cur sp)), (2, .obj [pS 1 false enc8 ([] : List UInt8)]), (3, .obj [pB false]), (0, .obj [PV.ref 4 0 none])]) (H3 := [(4, oB false 1 (encS 1 enc8) (spE os cur sp)), (2, .obj [pS 1 false enc8 ([] : List UInt8)]), (3, .obj [pB false]), (0, .obj [PV.ref 4 0 none])]) [] [] rfl rfl rfl (handed_of (by decide) trivial) rfl rfl rfl rfl rfl rfl (w_slices_Clip_rows_byte_byte (spE os cur sp) false) rfl (dist_of rfl) rfl rfl rfl rfl ?_) 
      refine r_op tabOk hnt rfl (s_assign rfl ?_) 
      refine r_set [(4, pS 1 true (encS 1 enc8) (spE os cur sp))] [(4, oB false 1 (encS 1 enc8) (spE os cur sp)), (2, .obj [pS 1 false enc8 ([] : List UInt8)]), (3, .obj [pB false]), (0, .obj [PV.ref 4 0 none])] 5 ⟨rfl, trivial⟩ rfl rfl ?_
      refine r_end ?_
      refine q_then ?_
      refine w_le (s := 4) (y := pS 1 true (encS 1 enc8) (splitV ts b)) rfl (le_of_eq (congrArg (fun z => pS 1 true (encS 1 enc8) z) (show (spE os cur sp) = (splitV ts b) by rw [splitV, show min ts.length b.length = i by omega, hs]; simp only [spEnd]; try first | rfl | exact (spE_yes (List.ne_nil_of_length_pos (by omega)) (by simp_all)).symm | exact (spE_no (.inr (by assumption))).symm | exact (spE_no (.inl (by assumption))).symm | exact (spE_no (.inl (List.eq_nil_of_length_eq_zero (by omega)))).symm ))) ?_
      refine w_ret ?_
      exact fin_plain (ret_tmp rfl ret_nil) rfl rfl ⟨rfl, rfl, rfl⟩

theorem w_burgageref5_Split (ts : List Int) (cl_ts : Bool) (b : List UInt8) (cl_b : Bool) (ht : ts.length ≤ 1048576) (hb : b.length ≤ 140737488351232) (hts : ∀ t ∈ ts, -9223372036854775808 ≤ t ∧ t ≤ 9223372036854775807) :
    T Try.prog 46 [pS 1 cl_ts encI ts, pS 1 cl_b enc8 b] 0 [] (Ret (pS 1 false (encS 1 enc8) (splitV ts b)) 0 []) := by
  refine t_fun tabOk (n := 70) (rs := [.tmp 4]) Try.func46 rfl rfl rfl rfl (Nat.le_of_ble_eq_true rfl) ?_
  intro c hnt hk
  refine w_seq ?_
  refine w_R ?_
  refine r_op tabOk hnt rfl (s_assign rfl ?_) 
  refine r_end ?_
  refine q_then ?_
  refine w_seq ?_
  refine w_R ?_
  refine r_op tabOk hnt rfl (s_assign rfl ?_) 
  refine r_end ?_
  refine q_then ?_
  refine w_seq ?_
  refine w_R ?_
  refine r_op tabOk hnt rfl (s_assign rfl ?_) 
  refine r_end ?_
  refine q_then ?_
  refine w_seq ?_
  refine w_R ?_
  refine r_op tabOk hnt rfl (s_assign rfl ?_) 
  refine r_end ?_
  refine q_then ?_
  refine w_seq ?_
  refine w_R ?_
  refine r_op tabOk hnt rfl (s_assign rfl ?_) 
  refine r_end ?_
  refine q_then ?_
  refine w_seq ?_
  refine w_seq ?_
  refine w_R ?_
  refine r_op tabOk hnt rfl (s_assign rfl ?_) 
  refine r_end ?_
  refine q_then ?_
  refine w_block ?_
  refine w_adopt (s := 5) (sz := 1) rfl ?_
  refine w_adopt (s := 6) (sz := 1) rfl ?_
  refine w_low (n := 1) rfl ?_
  refine loop5 (fun (os : List (List UInt8)) (cur : List UInt8) (sp : Bool) (la : Int) (i : Nat) => i ≤ min ts.length b.length ∧ spT ts b i = (os, cur, sp, la) ∧ -9223372036854775808 ≤ la ∧ la ≤ 9223372036854775807) (fun (os : List (List UInt8)) (cur : List UInt8) (sp : Bool) (la : Int) (i : Nat) => [(0, pS 1 cl_ts encI ts), (1, pS 1 cl_b enc8 b), (5, PV.ref 0 0 none), (6, PV.ref 1 0 none), (7, pB sp), (8, pI la), (9, pN i)]) 2 (fun (os : List (List UInt8)) (cur : List UInt8) (sp : Bool) (la : Int) (i : Nat) => [(0, oB true 1 (encS 1 enc8) os), (1, oB false 1 enc8 cur)]) (fun (os : List (List UInt8)) (cur : List UInt8) (sp : Bool) (la : Int) (i : Nat) => min ts.length b.length - i) (([] : List (List UInt8))) (([] : List UInt8)) (false) (0) (0) ?_ ⟨[(0, 0), (1, 1)], by rw [hk]; decide, ⟨⟨_, rfl, rfl, rfl⟩, ⟨_, rfl, rfl, rfl⟩, ⟨_, rfl, rfl, rfl⟩, ⟨_, rfl, rfl, rfl⟩, ⟨_, rfl, rfl, rfl⟩, ⟨_, rfl, rfl, rfl⟩, ⟨_, rfl, rfl, rfl⟩, trivial⟩, ⟨⟨_, _, rfl, rfl, rfl, rfl⟩, ⟨_, _, rfl, rfl, rfl, rfl⟩, trivial⟩, by rw [hk]; decide⟩ ?_
  · exact ⟨Nat.zero_le _, rfl, by decide⟩
  ·
    intro os cur sp la i hI
    obtain ⟨hi, hs, hla⟩ := hI
    have hsl := spT_len ts b i
    rw [hs] at hsl
    simp only at hsl
    refine w_seq ?_
    refine w_seq ?_
    refine w_R ?_
    refine r_op tabOk hnt rfl (s_move rfl ?_) 
    refine r_op tabOk hnt rfl (s_move rfl ?_) 
    refine r_op tabOk hnt rfl (s_lenM (l := ts) tab_54 rfl (hM_sl (f := encI) rfl) ?_) 
    refine r_op tabOk hnt rfl (s_lss rfl rfl ?_) 
    refine r_op tabOk hnt rfl (s_move rfl ?_) 
    refine r_if tabOk hnt rfl rfl rfl (fun g1 => ?_) (fun g1 => ?_)
    ·
      have g1' := g1
      try simp only [decide_eq_true_eq, decide_eq_false_iff_not, Bool.not_eq_true', Bool.not_eq_false', Bool.not_true, Bool.not_false, Bool.not_eq_eq_eq_not, Int.not_lt, Int.not_le] at g1'
      refine r_op tabOk hnt rfl (s_move rfl ?_) 
      refine r_if tabOk hnt rfl rfl rfl (fun _ => ?_) (fun e => absurd (e.symm.trans g1) (by decide))
      refine r_op tabOk hnt rfl (s_move rfl ?_) 
      refine r_if tabOk hnt rfl rfl rfl (fun _ => ?_) (fun e => absurd (e.symm.trans g1) (by decide))
      refine r_op tabOk hnt rfl (s_lenM (l := b) tab_41 rfl (hM_sl (f := enc8) rfl) ?_) 
      refine r_if tabOk hnt rfl rfl rfl (fun _ => ?_) (fun e => absurd (e.symm.trans g1) (by decide))
      refine r_op tabOk hnt rfl (s_lss rfl rfl ?_) 
      refine r_op tabOk hnt rfl (s_pick_t rfl g1 rfl ?_) 
      refine r_end ?_
      refine q_then ?_
      refine w_if rfl (fun c1 => ?_) (fun c1 => ?_)
      ·
        have c1_ := c1
        try simp only [decide_eq_true_eq, decide_eq_false_iff_not, Bool.not_eq_true', Bool.not_eq_false', Bool.not_true, Bool.not_false, Bool.not_eq_eq_eq_not, Int.not_lt, Int.not_le] at c1
        refine w_skip ?_
        refine q_then ?_
        refine w_seq ?_
        refine w_block ?_
        refine w_seq ?_
        refine w_R ?_
        refine r_op tabOk hnt rfl (s_move rfl ?_) 
        refine r_op tabOk hnt rfl (s_move rfl ?_) 
        obtain ⟨e1, he1⟩ := get_of_lt ts (i := i) (by omega)
        refine r_op tabOk hnt rfl (s_iaM (q := i) (b := e1) (f := encI) tab_54 rfl tab_2 rfl rfl (by omega) rfl he1 ?_) 
        refine r_op tabOk hnt rfl (s_load_ro1 tab_2 rfl rfl rfl rfl ?_) 
        have htb := hts e1 (List.mem_of_getElem? he1)
        refine r_op tabOk hnt rfl (s_assign rfl ?_) 
        refine r_end ?_
        refine q_then ?_
        refine join4 (fun (os : List (List UInt8)) (cur : List UInt8) (sp : Bool) (nw : Int) => spGap i e1 (spT ts b i) = (os, cur, sp, nw) ∧ os.length ≤ i + 1 ∧ cur.length ≤ i ∧ -9223372036854775808 ≤ nw ∧ nw ≤ 9223372036854775807) (fun (os : List (List UInt8)) (cur : List UInt8) (sp : Bool) (nw : Int) => [(0, pS 1 cl_ts encI ts), (1, pS 1 cl_b enc8 b), (5, PV.ref 0 0 none), (6, PV.ref 1 0 none), (7, pB sp), (9, pN i), (10, pI nw), (17, pN i), (18, pS 1 cl_b enc8 b), (19, pN b.length), (20, pB (decide (((i : Nat) : Int) < ((b.length : Nat) : Int))))]) 2 (fun (os : List (List UInt8)) (cur : List UInt8) (sp : Bool) (nw : Int) => [(0, oB true 1 (encS 1 enc8) os), (1, oB false 1 enc8 cur)]) ?_ ?_
        ·
          refine w_seq ?_
          refine w_R ?_
          refine r_op tabOk hnt rfl (s_move rfl ?_) 
          refine r_op tabOk hnt rfl (s_gtr rfl rfl ?_) 
          refine r_end ?_
          refine q_then ?_
          refine w_if rfl (fun c2 => ?_) (fun c2 => ?_)
          ·
            have c2_ := c2
            try simp only [decide_eq_true_eq, decide_eq_false_iff_not, Bool.not_eq_true', Bool.not_eq_false', Bool.not_true, Bool.not_false, Bool.not_eq_eq_eq_not, Int.not_lt, Int.not_le] at c2
            refine w_seq ?_
            refine w_R ?_
            refine r_op tabOk hnt rfl (s_move rfl ?_) 
            refine r_op tabOk hnt rfl (s_move rfl ?_) 
            refine r_op tabOk hnt rfl (s_maxI rfl ?_) 
            refine r_op tabOk hnt rfl (s_assign rfl ?_) 
            refine r_end ?_
            refine q_then ?_
            refine w_seq ?_
            refine w_R ?_
            refine r_op tabOk hnt rfl (s_move rfl ?_) 
            refine r_op tabOk hnt rfl (s_conv tab_2 tab_81 rfl rfl rfl ?_) 
            refine r_op tabOk hnt rfl (s_move rfl ?_) 
            refine r_op tabOk hnt rfl (s_conv tab_2 tab_81 rfl rfl rfl ?_) 
            refine r_op tabOk hnt rfl (s_sub rfl rfl ?_) 
            refine r_op tabOk hnt rfl (s_assign rfl ?_) 
            refine r_set [(0, pS 1 cl_ts encI ts), (1, pS 1 cl_b enc8 b), (5, PV.ref 0 0 none), (6, PV.ref 1 0 none), (7, pB sp), (9, pN i), (10, pI (max e1 la)), (11, pK .u64 (IntKind.u64.wrap ((IntKind.u64.wrap (max e1 la)) - (IntKind.u64.wrap la)))), (17, pN i), (18, pS 1 cl_b enc8 b), (19, pN b.length), (20, pB (decide (((i : Nat) : Int) < ((b.length : Nat) : Int))))] [(0, oB true 1 (encS 1 enc8) os), (1, oB false 1 enc8 cur)] 2 ⟨rfl, rfl, rfl, rfl, rfl, rfl, rfl, rfl, rfl, rfl, rfl, rfl, trivial⟩ rfl rfl ?_
            refine r_end ?_
            refine q_then ?_
            refine w_seq ?_
            refine w_eq (s := 11) (y := pK .u64 (max e1 la - la)) rfl (congrArg (fun z : Int => pK .u64 z) (show (IntKind.u64.wrap ((IntKind.u64.wrap (max e1 la)) - (IntKind.u64.wrap la))) = (max e1 la - la) by exact gap_u64 (by omega) hla (by omega))) ?_
            refine w_R ?_
            refine r_op tabOk hnt rfl (s_move rfl ?_) 
            refine r_op tabOk hnt rfl (s_geq rfl rfl ?_) 
            refine r_end ?_
            refine q_then ?_
            refine w_if rfl (fun c3 => ?_) (fun c3 => ?_)
            ·
              have c3_ := c3
              try simp only [decide_eq_true_eq, decide_eq_false_iff_not, Bool.not_eq_true', Bool.not_eq_false', Bool.not_true, Bool.not_false, Bool.not_eq_eq_eq_not, Int.not_lt, Int.not_le] at c3
              refine w_seq ?_
              refine w_seq ?_
              refine w_R ?_
              refine r_op tabOk hnt rfl (s_move rfl ?_) 
              refine r_op tabOk hnt rfl (s_not rfl ?_) 
              refine r_end ?_
              refine q_then ?_
              refine w_if rfl (fun c4 => ?_) (fun c4 => ?_)
              ·
                have c4_ := c4
                try simp only [decide_eq_true_eq, decide_eq_false_iff_not, Bool.not_eq_true', Bool.not_eq_false', Bool.not_true, Bool.not_false, Bool.not_eq_eq_eq_not, Int.not_lt, Int.not_le] at c4
                have hcn := spT_cur ts b (i := i) (by omega)
                rw [hs] at hcn
                have hse : spE os cur sp = os ++ [cur] := spE_yes hcn (by simpa using c4)
                refine w_R ?_
                refine r_op tabOk hnt rfl (s_move rfl ?_) 
                refine r_op tabOk hnt rfl (s_move rfl ?_) 
                refine r_op tabOk hnt rfl (s_mkM (f := (encS 1 enc8)) [cur] tab_58 rfl tab_41 ⟨rfl, by decide⟩ (by decide) rfl rfl rfl rfl ?_) 
                refine r_op tabOk hnt rfl (s_appR0 (f := (encS 1 enc8)) (l := os) (xs := [cur]) tab_58 rfl tab_41 ⟨rfl, by decide, by decide⟩ (srcM tab_58 rfl (hM_ref0 (f := (encS 1 enc8)) rfl rfl)) rfl rfl (by first | omega | (simp; omega)) ?_) 
                refine r_op tabOk hnt rfl (s_assign rfl ?_) 
                refine r_set [(0, pS 1 cl_ts encI ts), (1, pS 1 cl_b enc8 b), (5, PV.ref 3 0 none), (9, pN i), (10, pI (max e1 la)), (17, pN i), (18, pS 1 cl_b enc8 b), (19, pN b.length), (20, pB (decide (((i : Nat) : Int) < ((b.length : Nat) : Int))))] [(3, oB true 1 (encS 1 enc8) (os ++ [cur])), (2, oB true 1 (encS 1 enc8) [cur]), (1, oB false 1 enc8 cur)] 4 ⟨rfl, rfl, rfl, rfl, rfl, rfl, rfl, rfl, rfl, trivial⟩ rfl rfl ?_
                refine r_end ?_
                refine q_then ?_
                refine w_R ?_
                refine r_op tabOk hnt rfl (s_assign rfl ?_) 
                refine r_op tabOk hnt rfl (s_assign rfl ?_) 
                refine r_adopt (s := 6) (sz := 1) rfl ?_
                refine r_low (n := 4) rfl ?_
                refine r_end ?_
                refine q_then ?_
                refine ⟨(os ++ [cur]), (([] : List UInt8)), (false), (max e1 la), ?_, ⟨[(0, 3), (1, 4)], by rw [hk]; decide, ⟨⟨_, rfl, rfl, rfl⟩, ⟨_, rfl, rfl, rfl⟩, ⟨_, rfl, rfl, rfl⟩, ⟨_, rfl, rfl, rfl⟩, ⟨_, rfl, rfl, rfl⟩, ⟨_, rfl, rfl, rfl⟩, ⟨_, rfl, rfl, rfl⟩, ⟨_, rfl, rfl, rfl⟩, ⟨_, rfl, rfl, rfl⟩, ⟨_, rfl, rfl, rfl⟩, ⟨_, rfl, rfl, rfl⟩, trivial⟩, ⟨⟨_, _, rfl, rfl, rfl, rfl⟩, ⟨_, _, rfl, rfl, rfl, rfl⟩, trivial⟩, by rw [hk]; decide⟩⟩
                refine ⟨?_, by first | omega | (rw [List.length_append, List.length_singleton]; omega) | (have := spEnd_len (os, cur, sp, la); simp only [spEnd] at this; omega), by first | omega | simp, by omega⟩
                rw [hs]
                first | exact spGap_4 (by omega) (by simp only; omega) | (refine (spGap_4 (by omega) (by simp only; omega)).trans ?_; show (spE os cur sp, _, _, _) = _; rw [hse]) | exact spGap_2 (by omega) (by simp only; omega) (by simp only; omega) | exact spGap_1 (by omega) (by simp only; omega) (by simp only; omega) | (obtain rfl : i = 0 := (by omega); exact spGap_0 _ _)
              ·
                have c4_ := c4
                try simp only [decide_eq_true_eq, decide_eq_false_iff_not, Bool.not_eq_true', Bool.not_eq_false', Bool.not_true, Bool.not_false, Bool.not_eq_eq_eq_not, Int.not_lt, Int.not_le] at c4
                have hse : spE os cur sp = os := spE_no (.inr (by simpa using c4))
                refine w_skip ?_
                refine q_then ?_
                refine w_R ?_
                refine r_op tabOk hnt rfl (s_assign rfl ?_) 
                refine r_op tabOk hnt rfl (s_assign rfl ?_) 
                refine r_adopt (s := 6) (sz := 1) rfl ?_
                refine r_low (n := 2) rfl ?_
                refine r_end ?_
                refine q_then ?_
                refine ⟨(os), (([] : List UInt8)), (false), (max e1 la), ?_, ⟨[(0, 0), (1, 2)], by rw [hk]; decide, ⟨⟨_, rfl, rfl, rfl⟩, ⟨_, rfl, rfl, rfl⟩, ⟨_, rfl, rfl, rfl⟩, ⟨_, rfl, rfl, rfl⟩, ⟨_, rfl, rfl, rfl⟩, ⟨_, rfl, rfl, rfl⟩, ⟨_, rfl, rfl, rfl⟩, ⟨_, rfl, rfl, rfl⟩, ⟨_, rfl, rfl, rfl⟩, ⟨_, rfl, rfl, rfl⟩, ⟨_, rfl, rfl, rfl⟩, trivial⟩, ⟨⟨_, _, rfl, rfl, rfl, rfl⟩, ⟨_, _, rfl, rfl, rfl, rfl⟩, trivial⟩, by rw [hk]; decide⟩⟩
                refine ⟨?_, by first | omega | (rw [List.length_append, List.length_singleton]; omega) | (have := spEnd_len (os, cur, sp, la); simp only [spEnd] at this; omega), by first | omega | simp, by omega⟩
                rw [hs]
                first | exact spGap_4 (by omega) (by simp only; omega) | (refine (spGap_4 (by omega) (by simp only; omega)).trans ?_; show (spE os cur sp, _, _, _) = _; rw [hse]) | exact spGap_2 (by omega) (by simp only; omega) (by simp only; omega) | exact spGap_1 (by omega) (by simp only; omega) (by simp only; omega) | (obtain rfl : i = 0 := (by omega); exact spGap_0 _ _)
            ·
              have c3_ := c3
              try simp only [decide_eq_true_eq, decide_eq_false_iff_not, Bool.not_eq_true', Bool.not_eq_false', Bool.not_true, Bool.not_false, Bool.not_eq_eq_eq_not, Int.not_lt, Int.not_le] at c3
              refine w_seq ?_
              refine w_R ?_
              refine r_op tabOk hnt rfl (s_move rfl ?_) 
              refine r_op tabOk hnt rfl (s_geq rfl rfl ?_) 
              refine r_end ?_
              refine q_then ?_
              refine w_if rfl (fun c5 => ?_) (fun c5 => ?_)
              ·
                have c5_ := c5
                try simp only [decide_eq_true_eq, decide_eq_false_iff_not, Bool.not_eq_true', Bool.not_eq_false', Bool.not_true, Bool.not_false, Bool.not_eq_eq_eq_not, Int.not_lt, Int.not_le] at c5
                refine w_R ?_
                refine r_op tabOk hnt rfl (s_assign rfl ?_) 
                refine r_end ?_
                refine q_then ?_
                refine ⟨(os), (cur), (true), (max e1 la), ?_, ⟨[(0, 0), (1, 1)], by rw [hk]; decide, ⟨⟨_, rfl, rfl, rfl⟩, ⟨_, rfl, rfl, rfl⟩, ⟨_, rfl, rfl, rfl⟩, ⟨_, rfl, rfl, rfl⟩, ⟨_, rfl, rfl, rfl⟩, ⟨_, rfl, rfl, rfl⟩, ⟨_, rfl, rfl, rfl⟩, ⟨_, rfl, rfl, rfl⟩, ⟨_, rfl, rfl, rfl⟩, ⟨_, rfl, rfl, rfl⟩, ⟨_, rfl, rfl, rfl⟩, trivial⟩, ⟨⟨_, _, rfl, rfl, rfl, rfl⟩, ⟨_, _, rfl, rfl, rfl, rfl⟩, trivial⟩, by rw [hk]; decide⟩⟩
                refine ⟨?_, by first | omega | (rw [List.length_append, List.length_singleton]; omega) | (have := spEnd_len (os, cur, sp, la); simp only [spEnd] at this; omega), by first | omega | simp, by omega⟩
                rw [hs]
                first | exact spGap_4 (by omega) (by simp only; omega) | (refine (spGap_4 (by omega) (by simp only; omega)).trans ?_; show (spE os cur sp, _, _, _) = _; rw [hse]) | exact spGap_2 (by omega) (by simp only; omega) (by simp only; omega) | exact spGap_1 (by omega) (by simp only; omega) (by simp only; omega) | (obtain rfl : i = 0 := (by omega); exact spGap_0 _ _)
              ·
                have c5_ := c5
                try simp only [decide_eq_true_eq, decide_eq_false_iff_not, Bool.not_eq_true', Bool.not_eq_false', Bool.not_true, Bool.not_false, Bool.not_eq_eq_eq_not, Int.not_lt, Int.not_le] at c5
                refine w_skip ?_
                refine q_then ?_
                refine ⟨(os), (cur), (sp), (max e1 la), ?_, ⟨[(0, 0), (1, 1)], by rw [hk]; decide, ⟨⟨_, rfl, rfl, rfl⟩, ⟨_, rfl, rfl, rfl⟩, ⟨_, rfl, rfl, rfl⟩, ⟨_, rfl, rfl, rfl⟩, ⟨_, rfl, rfl, rfl⟩, ⟨_, rfl, rfl, rfl⟩, ⟨_, rfl, rfl, rfl⟩, ⟨_, rfl, rfl, rfl⟩, ⟨_, rfl, rfl, rfl⟩, ⟨_, rfl, rfl, rfl⟩, ⟨_, rfl, rfl, rfl⟩, trivial⟩, ⟨⟨_, _, rfl, rfl, rfl, rfl⟩, ⟨_, _, rfl, rfl, rfl, rfl⟩, trivial⟩, by rw [hk]; decide⟩⟩
                refine ⟨?_, by first | omega | (rw [List.length_append, List.length_singleton]; omega) | (have := spEnd_len (os, cur, sp, la); simp only [spEnd] at this; omega), by first | omega | simp, by omega⟩
                rw [hs]
                first | exact spGap_4 (by omega) (by simp only; omega) | (refine (spGap_4 (by omega) (by simp only; omega)).trans ?_; show (spE os cur sp, _, _, _) = _; rw [hse]) | exact spGap_2 (by omega) (by simp only; omega) (by simp only; omega) | exact spGap_1 (by omega) (by simp only; omega) (by simp only; omega) | (obtain rfl : i = 0 := (by omega); exact spGap_0 _ _)
          ·
            have c2_ := c2
            try simp only [decide_eq_true_eq, decide_eq_false_iff_not, Bool.not_eq_true', Bool.not_eq_false', Bool.not_true, Bool.not_false, Bool.not_eq_eq_eq_not, Int.not_lt, Int.not_le] at c2
            refine w_skip ?_
            refine q_then ?_
            refine ⟨(os), (cur), (sp), (e1), ?_, ⟨[(0, 0), (1, 1)], by rw [hk]; decide, ⟨⟨_, rfl, rfl, rfl⟩, ⟨_, rfl, rfl, rfl⟩, ⟨_, rfl, rfl, rfl⟩, ⟨_, rfl, rfl, rfl⟩, ⟨_, rfl, rfl, rfl⟩, ⟨_, rfl, rfl, rfl⟩, ⟨_, rfl, rfl, rfl⟩, ⟨_, rfl, rfl, rfl⟩, ⟨_, rfl, rfl, rfl⟩, ⟨_, rfl, rfl, rfl⟩, ⟨_, rfl, rfl, rfl⟩, trivial⟩, ⟨⟨_, _, rfl, rfl, rfl, rfl⟩, ⟨_, _, rfl, rfl, rfl, rfl⟩, trivial⟩, by rw [hk]; decide⟩⟩
            refine ⟨?_, by first | omega | (rw [List.length_append, List.length_singleton]; omega) | (have := spEnd_len (os, cur, sp, la); simp only [spEnd] at this; omega), by first | omega | simp, by omega⟩
            rw [hs]
            first | exact spGap_4 (by omega) (by simp only; omega) | (refine (spGap_4 (by omega) (by simp only; omega)).trans ?_; show (spE os cur sp, _, _, _) = _; rw [hse]) | exact spGap_2 (by omega) (by simp only; omega) (by simp only; omega) | exact spGap_1 (by omega) (by simp only; omega) (by simp only; omega) | (obtain rfl : i = 0 := (by omega); exact spGap_0 _ _)
        ·
          intro os cur sp nw hJ
          obtain ⟨hj, hol, hcl, hnw⟩ := hJ
          refine W_drawn tabOk mixed hnt [[], [], [0, 1], [], [], [3, 4], [3, 4, 5], [3, 4, 5, 6], [0, 1, 2, 3, 4, 5, 6, 7], [], [0, 1, 2, 3, 4, 5, 6, 7, 8], [0, 1, 2, 3, 4, 5, 6, 7, 8, 9, 10]] (by kernel_rfl) ?_
          refine d_op ?_
          refine x_run [] [] [] [] [(2, oB true 1 enc8 ([] : List UInt8))] [(2, oB true 1 enc8 ([] : List UInt8))] [(2, oB true 1 enc8 ([] : List UInt8)), (0, oB true 1 (encS 1 enc8) os), (1, oB false 1 enc8 cur)] rfl rfl rfl rfl rfl rfl (s_mkM (f := enc8) ([] : List UInt8) tab_41 rfl tab_5 ⟨rfl, by decide⟩ (by decide) rfl rfl rfl rfl ⟨rfl, rfl, rfl⟩) rfl trivial rfl rfl ?_
          refine d_op ?_
          refine x_run0 [(6, PV.ref 1 0 none)] [] rfl rfl rfl rfl (s_move rfl ⟨rfl, rfl, rfl⟩) ?_
          refine d_op ?_
          refine x_run [(48, PV.ref 2 0 none), (49, PV.ref 1 0 none)] [0, 1] [(1, oB false 1 enc8 cur)] [(2, oB true 1 enc8 ([] : List UInt8))] [(3, oB true 1 enc8 cur), (1, oB false 1 enc8 cur)] [(3, oB true 1 enc8 cur)] [(3, oB true 1 enc8 cur), (0, oB true 1 (encS 1 enc8) os), (1, oB false 1 enc8 cur)] rfl rfl rfl rfl rfl rfl (s_appR0 (f := enc8) (l := ([] : List UInt8)) (xs := cur) tab_41 rfl tab_5 ⟨rfl, by decide, by decide⟩ (srcM tab_41 rfl (hM_ref0 (f := enc8) rfl rfl)) rfl rfl (by first | omega | (simp; omega)) ⟨rfl, rfl, rfl⟩) rfl ⟨rfl, trivial⟩ rfl rfl ?_
          refine d_op ?_
          refine x_run0 [(1, pS 1 cl_b enc8 b)] [] rfl rfl rfl rfl (s_move rfl ⟨rfl, rfl, rfl⟩) ?_
          refine d_op ?_
          refine x_run0 [(9, pN i)] [] rfl rfl rfl rfl (s_move rfl ⟨rfl, rfl, rfl⟩) ?_
          refine d_op ?_
          obtain ⟨e2, he2⟩ := get_of_lt b (i := i) (by omega)
          refine x_run0 [(51, pS 1 cl_b enc8 b), (52, pN i)] [3, 4] rfl rfl rfl rfl (s_iaM (q := i) (b := e2) (f := enc8) tab_41 rfl tab_5 rfl rfl (by omega) rfl he2 ⟨rfl, rfl, rfl⟩) ?_
          refine d_op ?_
          refine x_run0 [(53, PV.f (.ro (enc8 e2)))] [3, 4, 5] rfl rfl rfl rfl (s_load_ro1 tab_5 rfl rfl rfl rfl ⟨rfl, rfl, rfl⟩) ?_
          refine d_op ?_
          refine x_run [(54, p8 e2)] [3, 4, 5, 6] [] [] [(4, oB true 1 enc8 [e2])] [(4, oB true 1 enc8 [e2])] [(4, oB true 1 enc8 [e2]), (3, oB true 1 enc8 cur), (0, oB true 1 (encS 1 enc8) os), (1, oB false 1 enc8 cur)] rfl rfl rfl rfl rfl rfl (s_mkM (f := enc8) [e2] tab_41 rfl tab_5 ⟨rfl, by decide⟩ (by decide) rfl rfl rfl rfl ⟨rfl, rfl, rfl⟩) rfl trivial rfl rfl ?_
          refine d_op ?_
          refine x_run [(50, PV.ref 3 0 none), (55, PV.ref 4 0 none)] [0, 1, 2, 3, 4, 5, 6, 7] [(4, oB true 1 enc8 [e2])] [(3, oB true 1 enc8 cur)] [(5, oB true 1 enc8 (cur ++ [e2])), (4, oB true 1 enc8 [e2])] [(5, oB true 1 enc8 (cur ++ [e2]))] [(5, oB true 1 enc8 (cur ++ [e2])), (4, oB true 1 enc8 [e2]), (0, oB true 1 (encS 1 enc8) os), (1, oB false 1 enc8 cur)] rfl rfl rfl rfl rfl rfl (s_appR0 (f := enc8) (l := cur) (xs := [e2]) tab_41 rfl tab_5 ⟨rfl, by decide, by decide⟩ (srcM tab_41 rfl (hM_ref0 (f := enc8) rfl rfl)) rfl rfl (by first | omega | (simp; omega)) ⟨rfl, rfl, rfl⟩) rfl ⟨rfl, trivial⟩ rfl rfl ?_
          refine d_op ?_
          refine x_run0 [(10, pI nw)] [] rfl rfl rfl rfl (s_move rfl ⟨rfl, rfl, rfl⟩) ?_
          refine d_op ?_
          refine x_run0 [(56, PV.ref 5 0 none)] [0, 1, 2, 3, 4, 5, 6, 7, 8] rfl rfl rfl rfl (s_assign rfl ⟨rfl, rfl, rfl⟩) ?_
          refine d_op ?_
          refine x_run0 [(57, pI nw)] [0, 1, 2, 3, 4, 5, 6, 7, 8, 9, 10] rfl rfl rfl rfl (s_assign rfl ⟨rfl, rfl, rfl⟩) ?_
          refine d_end ⟨by kernel_rfl, ?_⟩
          refine q_block ?_
          refine q_then ?_
          refine w_R ?_
          refine r_op tabOk hnt rfl (s_move rfl ?_) 
          refine r_op tabOk hnt rfl (s_addN (a := i) (b := 1) rfl rfl (by omega) (by omega) (by omega) ?_) 
          refine r_op tabOk hnt rfl (s_assign rfl ?_) 
          refine r_low (n := 5) rfl ?_
          refine r_end ?_
          refine q_then ?_
          refine ⟨(os), (cur ++ [e2]), (sp), (nw), (i + 1), ?_, ?_, ⟨[(0, 0), (1, 5)], by rw [hk]; decide, ⟨⟨_, rfl, rfl, rfl⟩, ⟨_, rfl, rfl, rfl⟩, ⟨_, rfl, rfl, rfl⟩, ⟨_, rfl, rfl, rfl⟩, ⟨_, rfl, rfl, rfl⟩, ⟨_, rfl, rfl, rfl⟩, ⟨_, rfl, rfl, rfl⟩, trivial⟩, ⟨⟨_, _, rfl, rfl, rfl, rfl⟩, ⟨_, _, rfl, rfl, rfl, rfl⟩, trivial⟩, by rw [hk]; decide⟩⟩
          ·
            refine ⟨by omega, ?_, hnw⟩
            rw [spT_next he1 he2, hj]; rfl
          · omega
      ·
        have c1_ := c1
        try simp only [decide_eq_true_eq, decide_eq_false_iff_not, Bool.not_eq_true', Bool.not_eq_false', Bool.not_true, Bool.not_false, Bool.not_eq_eq_eq_not, Int.not_lt, Int.not_le] at c1
        refine w_exit ?_
        refine q_then_exit ?_
        refine q_then_exit ?_
        refine q_block_exit ?_
        refine q_then ?_
        refine w_seq ?_
        refine w_seq ?_
        refine w_R ?_
        refine r_op tabOk hnt rfl (s_move rfl ?_) 
        refine r_op tabOk hnt rfl (s_lenM (l := cur) tab_41 rfl (hM_ref0 (f := enc8) rfl rfl) ?_) 
        refine r_op tabOk hnt rfl (s_gtr rfl rfl ?_) 
        refine r_op tabOk hnt rfl (s_move rfl ?_) 
        refine r_if tabOk hnt rfl rfl rfl (fun g2 => ?_) (fun g2 => ?_)
        ·
          have g2' := g2
          try simp only [decide_eq_true_eq, decide_eq_false_iff_not, Bool.not_eq_true', Bool.not_eq_false', Bool.not_true, Bool.not_false, Bool.not_eq_eq_eq_not, Int.not_lt, Int.not_le] at g2'
          refine r_op tabOk hnt rfl (s_move rfl ?_) 
          refine r_if tabOk hnt rfl rfl rfl (fun _ => ?_) (fun e => absurd (e.symm.trans g2) (by decide))
          refine r_op tabOk hnt rfl (s_not rfl ?_) 
          refine r_op tabOk hnt rfl (s_pick_t rfl g2 rfl ?_) 
          refine r_end ?_
          refine q_then ?_
          refine w_if rfl (fun c6 => ?_) (fun c6 => ?_)
          ·
            have c6_ := c6
            try simp only [decide_eq_true_eq, decide_eq_false_iff_not, Bool.not_eq_true', Bool.not_eq_false', Bool.not_true, Bool.not_false, Bool.not_eq_eq_eq_not, Int.not_lt, Int.not_le] at c6
            refine w_R ?_
            refine r_op tabOk hnt rfl (s_move rfl ?_) 
            refine r_op tabOk hnt rfl (s_move rfl ?_) 
            refine r_op tabOk hnt rfl (s_mkM (f := (encS 1 enc8)) [cur] tab_58 rfl tab_41 ⟨rfl, by decide⟩ (by decide) rfl rfl rfl rfl ?_) 
            refine r_op tabOk hnt rfl (s_appR0 (f := (encS 1 enc8)) (l := os) (xs := [cur]) tab_58 rfl tab_41 ⟨rfl, by decide, by decide⟩ (srcM tab_58 rfl (hM_ref0 (f := (encS 1 enc8)) rfl rfl)) rfl rfl (by first | omega | (simp; omega)) ?_) 
            refine r_op tabOk hnt rfl (s_assign rfl ?_) 
            refine r_set [(5, PV.ref 3 0 none)] [(3, oB true 1 (encS 1 enc8) (os ++ [cur])), (2, oB true 1 (encS 1 enc8) [cur]), (1, oB false 1 enc8 cur)] 4 ⟨rfl, trivial⟩ rfl rfl ?_
            refine r_end ?_
            refine q_then ?_
            refine w_seq ?_
            refine w_R ?_
            refine r_op tabOk hnt rfl (s_move rfl ?_) 
            refine r_op tabOk hnt rfl (s_assign rfl ?_) 
            refine r_end ?_
            refine q_then ?_
            refine w_frzM (s := 4) (f := (encS 1 enc8)) rfl rfl view_0 ?_
            refine w_le (s := 4) (y := pS 1 false (encS 1 enc8) (splitV ts b)) rfl (le_of_eq (congrArg (fun z => pS 1 false (encS 1 enc8) z) (show (os ++ [cur]) = (splitV ts b) by rw [splitV, show min ts.length b.length = i by omega, hs]; simp only [spEnd]; try first | rfl | exact (spE_yes (List.ne_nil_of_length_pos (by omega)) (by simp_all)).symm | exact (spE_no (.inr (by assumption))).symm | exact (spE_no (.inl (by assumption))).symm | exact (spE_no (.inl (List.eq_nil_of_length_eq_zero (by omega)))).symm ))) ?_
            refine w_ret ?_
            exact fin_plain (ret_tmp rfl ret_nil) rfl rfl ⟨rfl, rfl, rfl⟩
          ·
            have c6_ := c6
            try simp only [decide_eq_true_eq, decide_eq_false_iff_not, Bool.not_eq_true', Bool.not_eq_false', Bool.not_true, Bool.not_false, Bool.not_eq_eq_eq_not, Int.not_lt, Int.not_le] at c6
            refine w_skip ?_
            refine q_then ?_
            refine w_seq ?_
            refine w_R ?_
            refine r_op tabOk hnt rfl (s_move rfl ?_) 
            refine r_op tabOk hnt rfl (s_assign rfl ?_) 
            refine r_end ?_
            refine q_then ?_
            refine w_frzM (s := 4) (f := (encS 1 enc8)) rfl rfl view_0 ?_
            refine w_le (s := 4) (y := pS 1 false (encS 1 enc8) (splitV ts b)) rfl (le_of_eq (congrArg (fun z => pS 1 false (encS 1 enc8) z) (show os = (splitV ts b) by rw [splitV, show min ts.length b.length = i by omega, hs]; simp only [spEnd]; try first | rfl | exact (spE_yes (List.ne_nil_of_length_pos (by omega)) (by simp_all)).symm | exact (spE_no (.inr (by assumption))).symm | exact (spE_no (.inl (by assumption))).symm | exact (spE_no (.inl (List.eq_nil_of_length_eq_zero (by omega)))).symm ))) ?_
            refine w_ret ?_
            exact fin_plain (ret_tmp rfl ret_nil) rfl rfl ⟨rfl, rfl, rfl⟩
        ·
          have g2' := g2
          try simp only [decide_eq_true_eq, decide_eq_false_iff_not, Bool.not_eq_true', Bool.not_eq_false', Bool.not_true, Bool.not_false, Bool.not_eq_eq_eq_not, Int.not_lt, Int.not_le] at g2'
          refine r_if tabOk hnt rfl rfl rfl (fun e => absurd (e.symm.trans g2) (by decide)) (fun _ => ?_)
          refine r_op tabOk hnt rfl (s_pick_f rfl g2 rfl ?_) 
          refine r_end ?_
          refine q_then ?_
          refine w_if rfl (fun e => absurd e (by decide)) (fun _ => ?_)
          refine w_skip ?_
          refine q_then ?_
          refine w_seq ?_
          refine w_R ?_
          refine r_op tabOk hnt rfl (s_move rfl ?_) 
          refine r_op tabOk hnt rfl (s_assign rfl ?_) 
          refine r_end ?_
          refine q_then ?_
          refine w_frzM (s := 4) (f := (encS 1 enc8)) rfl rfl view_0 ?_
          refine w_le (s := 4) (y := pS 1 false (encS 1 enc8) (splitV ts b)) rfl (le_of_eq (congrArg (fun z => pS 1 false (encS 1 enc8) z) (show os = (splitV ts b) by rw [splitV, show min ts.length b.length = i by omega, hs]; simp only [spEnd]; try first | rfl | exact (spE_yes (List.ne_nil_of_length_pos (by omega)) (by simp_all)).symm | exact (spE_no (.inr (by assumption))).symm | exact (spE_no (.inl (by assumption))).symm | exact (spE_no (.inl (List.eq_nil_of_length_eq_zero (by omega)))).symm ))) ?_
          refine w_ret ?_
          exact fin_plain (ret_tmp rfl ret_nil) rfl rfl ⟨rfl, rfl, rfl⟩
    ·
      have g1' := g1
      try simp only [decide_eq_true_eq, decide_eq_false_iff_not, Bool.not_eq_true', Bool.not_eq_false', Bool.not_true, Bool.not_false, Bool.not_eq_eq_eq_not, Int.not_lt, Int.not_le] at g1'
      refine r_if tabOk hnt rfl rfl rfl (fun e => absurd (e.symm.trans g1) (by decide)) (fun _ => ?_)
      refine r_if tabOk hnt rfl rfl rfl (fun e => absurd (e.symm.trans g1) (by decide)) (fun _ => ?_)
      refine r_if tabOk hnt rfl rfl rfl (fun e => absurd (e.symm.trans g1) (by decide)) (fun _ => ?_)
      refine r_op tabOk hnt rfl (s_pick_f rfl g1 rfl ?_) 
      refine r_end ?_
      refine q_then ?_
      refine w_if rfl (fun e => absurd e (by decide)) (fun _ => ?_)
      refine w_exit ?_
      refine q_then_exit ?_
      refine q_then_exit ?_
      refine q_block_exit ?_
      refine q_then ?_
      refine w_seq ?_
      refine w_seq ?_
      refine w_R ?_
      refine r_op tabOk hnt rfl (s_move rfl ?_) 
      refine r_op tabOk hnt rfl (s_lenM (l := cur) tab_41 rfl (hM_ref0 (f := enc8) rfl rfl) ?_) 
      refine r_op tabOk hnt rfl (s_gtr rfl rfl ?_) 
      refine r_op tabOk hnt rfl (s_move rfl ?_) 
      refine r_if tabOk hnt rfl rfl rfl (fun g3 => ?_) (fun g3 => ?_)
      ·
        have g3' := g3
        try simp only [decide_eq_true_eq, decide_eq_false_iff_not, Bool.not_eq_true', Bool.not_eq_false', Bool.not_true, Bool.not_false, Bool.not_eq_eq_eq_not, Int.not_lt, Int.not_le] at g3'
        refine r_op tabOk hnt rfl (s_move rfl ?_) 
        refine r_if tabOk hnt rfl rfl rfl (fun _ => ?_) (fun e => absurd (e.symm.trans g3) (by decide))
        refine r_op tabOk hnt rfl (s_not rfl ?_) 
        refine r_op tabOk hnt rfl (s_pick_t rfl g3 rfl ?_) 
        refine r_end ?_
        refine q_then ?_
        refine w_if rfl (fun c7 => ?_) (fun c7 => ?_)
        ·
          have c7_ := c7
          try simp only [decide_eq_true_eq, decide_eq_false_iff_not, Bool.not_eq_true', Bool.not_eq_false', Bool.not_true, Bool.not_false, Bool.not_eq_eq_eq_not, Int.not_lt, Int.not_le] at c7
          refine w_R ?_
          refine r_op tabOk hnt rfl (s_move rfl ?_) 
          refine r_op tabOk hnt rfl (s_move rfl ?_) 
          refine r_op tabOk hnt rfl (s_mkM (f := (encS 1 enc8)) [cur] tab_58 rfl tab_41 ⟨rfl, by decide⟩ (by decide) rfl rfl rfl rfl ?_) 
          refine r_op tabOk hnt rfl (s_appR0 (f := (encS 1 enc8)) (l := os) (xs := [cur]) tab_58 rfl tab_41 ⟨rfl, by decide, by decide⟩ (srcM tab_58 rfl (hM_ref0 (f := (encS 1 enc8)) rfl rfl)) rfl rfl (by first | omega | (simp; omega)) ?_) 
          refine r_op tabOk hnt rfl (s_assign rfl ?_) 
          refine r_set [(5, PV.ref 3 0 none)] [(3, oB true 1 (encS 1 enc8) (os ++ [cur])), (2, oB true 1 (encS 1 enc8) [cur]), (1, oB false 1 enc8 cur)] 4 ⟨rfl, trivial⟩ rfl rfl ?_
          refine r_end ?_
          refine q_then ?_
          refine w_seq ?_
          refine w_R ?_
          refine r_op tabOk hnt rfl (s_move rfl ?_) 
          refine r_op tabOk hnt rfl (s_assign rfl ?_) 
          refine r_end ?_
          refine q_then ?_
          refine w_frzM (s := 4) (f := (encS 1 enc8)) rfl rfl view_0 ?_
          refine w_le (s := 4) (y := pS 1 false (encS 1 enc8) (splitV ts b)) rfl (le_of_eq (congrArg (fun z => pS 1 false (encS 1 enc8) z) (show (os ++ [cur]) = (splitV ts b) by rw [splitV, show min ts.length b.length = i by omega, hs]; simp only [spEnd]; try first | rfl | exact (spE_yes (List.ne_nil_of_length_pos (by omega)) (by simp_all)).symm | exact (spE_no (.inr (by assumption))).symm | exact (spE_no (.inl (by assumption))).symm | exact (spE_no (.inl (List.eq_nil_of_length_eq_zero (by omega)))).symm ))) ?_
          refine w_ret ?_
          exact fin_plain (ret_tmp rfl ret_nil) rfl rfl ⟨rfl, rfl, rfl⟩
        ·
          have c7_ := c7
          try simp only [decide_eq_true_eq, decide_eq_false_iff_not, Bool.not_eq_true', Bool.not_eq_false', Bool.not_true, Bool.not_false, Bool.not_eq_eq_eq_not, Int.not_lt, Int.not_le] at c7
          refine w_skip ?_
          refine q_then ?_
          refine w_seq ?_
          refine w_R ?_
          refine r_op tabOk hnt rfl (s_move rfl ?_) 
          refine r_op tabOk hnt rfl (s_assign rfl ?_) 
          refine r_end ?_
          refine q_then ?_
          refine w_frzM (s := 4) (f := (encS 1 enc8)) rfl rfl view_0 ?_
          refine w_le (s := 4) (y := pS 1 false (encS 1 enc8) (splitV ts b)) rfl (le_of_eq (congrArg (fun z => pS 1 false (encS 1 enc8) z) (show os = (splitV ts b) by rw [splitV, show min ts.length b.length = i by omega, hs]; simp only [spEnd]; try first | rfl | exact (spE_yes (List.ne_nil_of_length_pos (by omega)) (by simp_all)).symm | exact (spE_no (.inr (by assumption))).symm | exact (spE_no (.inl (by assumption))).symm | exact (spE_no (.inl (List.eq_nil_of_length_eq_zero (by omega)))).symm ))) ?_
          refine w_ret ?_
          exact fin_plain (ret_tmp rfl ret_nil) rfl rfl ⟨rfl, rfl, rfl⟩
      ·
        have g3' := g3
        try simp only [decide_eq_true_eq, decide_eq_false_iff_not, Bool.not_eq_true', Bool.not_eq_false', Bool.not_true, Bool.not_false, Bool.not_eq_eq_eq_not, Int.not_lt, Int.not_le] at g3'
        refine r_if tabOk hnt rfl rfl rfl (fun e => absurd (e.symm.trans g3) (by decide)) (fun _ => ?_)
        refine r_op tabOk hnt rfl (s_pick_f rfl g3 rfl ?_) 
        refine r_end ?_
        refine q_then ?_
        refine w_if rfl (fun e => absurd e (by decide)) (fun _ => ?_)
        refine w_skip ?_
        refine q_then ?_
        refine w_seq ?_
        refine w_R ?_
        refine r_op tabOk hnt rfl (s_move rfl ?_) 
        refine r_op tabOk hnt rfl (s_assign rfl ?_) 
        refine r_end ?_
        refine q_then ?_
        refine w_frzM (s := 4) (f := (encS 1 enc8)) rfl rfl view_0 ?_
        refine w_le (s := 4) (y := pS 1 false (encS 1 enc8) (splitV ts b)) rfl (le_of_eq (congrArg (fun z => pS 1 false (encS 1 enc8) z) (show os = (splitV ts b) by rw [splitV, show min ts.length b.length = i by omega, hs]; simp only [spEnd]; try first | rfl | exact (spE_yes (List.ne_nil_of_length_pos (by omega)) (by simp_all)).symm | exact (spE_no (.inr (by assumption))).symm | exact (spE_no (.inl (by assumption))).symm | exact (spE_no (.inl (List.eq_nil_of_length_eq_zero (by omega)))).symm ))) ?_
        refine w_ret ?_
        exact fin_plain (ret_tmp rfl ret_nil) rfl rfl ⟨rfl, rfl, rfl⟩

end Go.Proofs.Ytmcgjmpcfiefgaa
