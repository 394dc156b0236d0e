/- Walks: printed by a program of this session (wip/tools/walk2.py) out of its notes. -/
import Derived.Test.YtmcgjmpcfiefgaaWRtu
import Derived.Test.YtmcgjmpcfiefgaaSpecG
set_option linter.unusedVariables false
set_option linter.unusedSimpArgs false
set_option maxRecDepth 10000
set_option maxHeartbeats 1000000
namespace Go.Proofs.Ytmcgjmpcfiefgaa
open Go Go.Proofs.Ytmcgjmpcfiefgaa.Pv

theorem w_burgagelaw5_known   :
    T Try.prog 27 [] 0 [] (Ret (pB true) 0 []) := by
  refine t_fun tabOk (n := 109) (rs := [.tmp 0]) Try.func27 rfl rfl rfl rfl (Nat.le_of_ble_eq_true rfl) ?_
  intro c hnt hk
  refine w_seq ?_
  refine w_R ?_
  refine r_op tabOk hnt rfl (s_assign rfl ?_) 
  refine r_end ?_
  refine q_then ?_
  refine w_seq ?_
  refine w_R ?_
  refine r_op tabOk hnt rfl (s_mkM (f := enc8) ([3, 0, 107, 0, 3] : List UInt8) tab_41 rfl tab_5 ⟨rfl, by decide⟩ (by decide) rfl rfl rfl rfl ?_) 
  refine r_op tabOk hnt rfl (s_callX (r2 := PV.tup [pS 1 false enc8 (frameV 17 ([3, 0, 107, 0, 3] : List UInt8)), pI (frameE 17 ([3, 0, 107, 0, 3] : List UInt8))]) (nx1 := 1) (H2 := [(0, oB false 1 enc8 ([3, 0, 107, 0, 3] : List UInt8))]) (H3 := [(0, oB false 1 enc8 ([3, 0, 107, 0, 3] : List UInt8))]) [] [] rfl rfl rfl (handed_of (by decide) trivial) rfl rfl rfl rfl rfl rfl (w_rtu_Frame 17 ([3, 0, 107, 0, 3] : List UInt8) false (by first | omega | assumption | (simp; omega) | decide | (simp; done))) rfl (dist_of rfl) rfl rfl rfl rfl ?_) 
  refine r_op tabOk hnt rfl (s_move rfl ?_) 
  refine r_op tabOk hnt rfl (s_extract rfl rfl ?_) 
  refine r_op tabOk hnt rfl (s_extract rfl rfl ?_) 
  refine r_op tabOk hnt rfl (s_assign rfl ?_) 
  refine r_op tabOk hnt rfl (s_assign rfl ?_) 
  refine r_set [(1, pS 1 false enc8 (frameV 17 ([3, 0, 107, 0, 3] : List UInt8))), (2, pI (frameE 17 ([3, 0, 107, 0, 3] : List UInt8)))] [(0, oB false 1 enc8 ([3, 0, 107, 0, 3] : List UInt8))] 1 ⟨rfl, rfl, trivial⟩ rfl rfl ?_
  refine r_end ?_
  refine q_then ?_
  refine w_seq ?_
  refine w_R ?_
  refine r_op tabOk hnt rfl (s_move rfl ?_) 
  refine r_op tabOk hnt rfl (s_callF rfl rfl rfl (w_rtu_Read (frameV 17 ([3, 0, 107, 0, 3] : List UInt8)) false (by first | omega | assumption | (simp; omega) | decide | (simp; done))) rfl ?_) 
  refine r_op tabOk hnt rfl (s_move rfl ?_) 
  refine r_op tabOk hnt rfl (s_extract rfl rfl ?_) 
  refine r_op tabOk hnt rfl (s_extract rfl rfl ?_) 
  refine r_op tabOk hnt rfl (s_extract rfl rfl ?_) 
  refine r_op tabOk hnt rfl (s_assign rfl ?_) 
  refine r_op tabOk hnt rfl (s_assign rfl ?_) 
  refine r_op tabOk hnt rfl (s_assign rfl ?_) 
  refine r_end ?_
  refine q_then ?_
  refine w_seq ?_
  refine w_R ?_
  refine r_op tabOk hnt rfl (s_mkM (f := enc8) ([1] : List UInt8) tab_41 rfl tab_5 ⟨rfl, by decide⟩ (by decide) rfl rfl rfl rfl ?_) 
  refine r_op tabOk hnt rfl (s_callX (r2 := PV.tup [pS 1 false enc8 (frameV 0 ([1] : List UInt8)), pI (frameE 0 ([1] : List UInt8))]) (nx1 := 2) (H2 := [(1, oB false 1 enc8 ([1] : List UInt8)), (0, oB false 1 enc8 ([3, 0, 107, 0, 3] : List UInt8))]) (H3 := [(1, oB false 1 enc8 ([1] : List UInt8)), (0, oB false 1 enc8 ([3, 0, 107, 0, 3] : List UInt8))]) [] [] rfl rfl rfl (handed_of (by decide) trivial) rfl rfl rfl rfl rfl rfl (w_rtu_Frame 0 ([1] : List UInt8) false (by first | omega | assumption | (simp; omega) | decide | (simp; done))) rfl (dist_of rfl) rfl rfl rfl rfl ?_) 
  refine r_op tabOk hnt rfl (s_move rfl ?_) 
  refine r_op tabOk hnt rfl (s_extract rfl rfl ?_) 
  refine r_op tabOk hnt rfl (s_extract rfl rfl ?_) 
  refine r_op tabOk hnt rfl (s_assign rfl ?_) 
  refine r_op tabOk hnt rfl (s_assign rfl ?_) 
  refine r_set [(1, pS 1 false enc8 (frameV 17 ([3, 0, 107, 0, 3] : List UInt8))), (2, pI (frameE 17 ([3, 0, 107, 0, 3] : List UInt8))), (3, pI (readA (frameV 17 ([3, 0, 107, 0, 3] : List UInt8)))), (4, pS 1 false enc8 (readP (frameV 17 ([3, 0, 107, 0, 3] : List UInt8)))), (5, pI (readE (frameV 17 ([3, 0, 107, 0, 3] : List UInt8)))), (7, pI (frameE 0 ([1] : List UInt8)))] [(1, oB false 1 enc8 ([1] : List UInt8)), (0, oB false 1 enc8 ([3, 0, 107, 0, 3] : List UInt8))] 2 ⟨rfl, rfl, rfl, rfl, rfl, rfl, trivial⟩ rfl rfl ?_
  refine r_end ?_
  refine q_then ?_
  refine w_seq ?_
  refine w_R ?_
  refine r_op tabOk hnt rfl (s_callF rfl rfl rfl (T.leL (args := [pI 1, pNil]) (args' := [pI 1, pS 1 false enc8 []]) ⟨le_refl _, ⟨le_F (FLe.nil 1 false), trivial⟩⟩ (w_rtu_Frame 1 [] false (by first | omega | assumption | (simp; omega) | decide | (simp; done)))) rfl ?_) 
  refine r_op tabOk hnt rfl (s_move rfl ?_) 
  refine r_op tabOk hnt rfl (s_extract rfl rfl ?_) 
  refine r_op tabOk hnt rfl (s_extract rfl rfl ?_) 
  refine r_op tabOk hnt rfl (s_assign rfl ?_) 
  refine r_op tabOk hnt rfl (s_assign rfl ?_) 
  refine r_end ?_
  refine q_then ?_
  refine w_seq ?_
  refine w_R ?_
  refine r_op tabOk hnt rfl (s_makeM (f := enc8) (bt := 1) tab_one (0 : UInt8) 254 (fun j hj => by cases hj; rfl) tab_41 rfl tab_5 ⟨rfl, by decide⟩ rfl rfl rfl (by omega) (by refine ⟨?_, ?_, ?_⟩ <;> omega) ?_) 
  refine r_op tabOk hnt rfl (s_callX (r2 := PV.tup [pS 1 false enc8 (frameV 1 (List.replicate 254 (0 : UInt8))), pI (frameE 1 (List.replicate 254 (0 : UInt8)))]) (nx1 := 3) (H2 := [(2, oB false 1 enc8 (List.replicate 254 (0 : UInt8))), (1, oB false 1 enc8 ([1] : List UInt8)), (0, oB false 1 enc8 ([3, 0, 107, 0, 3] : List UInt8))]) (H3 := [(2, oB false 1 enc8 (List.replicate 254 (0 : UInt8))), (1, oB false 1 enc8 ([1] : List UInt8)), (0, oB false 1 enc8 ([3, 0, 107, 0, 3] : List UInt8))]) [] [] rfl rfl rfl (handed_of (by decide) trivial) rfl rfl rfl rfl rfl rfl (w_rtu_Frame 1 (List.replicate 254 (0 : UInt8)) false (by first | omega | assumption | (simp; omega) | decide | (simp; done))) rfl (dist_of rfl) rfl rfl rfl rfl ?_) 
  refine r_op tabOk hnt rfl (s_move rfl ?_) 
  refine r_op tabOk hnt rfl (s_extract rfl rfl ?_) 
  refine r_op tabOk hnt rfl (s_extract rfl rfl ?_) 
  refine r_op tabOk hnt rfl (s_assign rfl ?_) 
  refine r_op tabOk hnt rfl (s_assign rfl ?_) 
  refine r_set [(1, pS 1 false enc8 (frameV 17 ([3, 0, 107, 0, 3] : List UInt8))), (2, pI (frameE 17 ([3, 0, 107, 0, 3] : List UInt8))), (3, pI (readA (frameV 17 ([3, 0, 107, 0, 3] : List UInt8)))), (4, pS 1 false enc8 (readP (frameV 17 ([3, 0, 107, 0, 3] : List UInt8)))), (5, pI (readE (frameV 17 ([3, 0, 107, 0, 3] : List UInt8)))), (7, pI (frameE 0 ([1] : List UInt8))), (9, pI (frameE 1 [])), (11, pI (frameE 1 (List.replicate 254 (0 : UInt8))))] [(2, oB false 1 enc8 (List.replicate 254 (0 : UInt8))), (1, oB false 1 enc8 ([1] : List UInt8)), (0, oB false 1 enc8 ([3, 0, 107, 0, 3] : List UInt8))] 3 ⟨rfl, rfl, rfl, rfl, rfl, rfl, rfl, rfl, trivial⟩ rfl rfl ?_
  refine r_end ?_
  refine q_then ?_
  refine w_seq ?_
  refine w_R ?_
  refine r_op tabOk hnt rfl (s_mkM (f := enc8) ([1, 2, 3] : List UInt8) tab_41 rfl tab_5 ⟨rfl, by decide⟩ (by decide) rfl rfl rfl rfl ?_) 
  refine r_op tabOk hnt rfl (s_callX (r2 := PV.tup [pI (readA ([1, 2, 3] : List UInt8)), pS 1 false enc8 (readP ([1, 2, 3] : List UInt8)), pI (readE ([1, 2, 3] : List UInt8))]) (nx1 := 4) (H2 := [(3, oB false 1 enc8 ([1, 2, 3] : List UInt8)), (2, oB false 1 enc8 (List.replicate 254 (0 : UInt8))), (1, oB false 1 enc8 ([1] : List UInt8)), (0, oB false 1 enc8 ([3, 0, 107, 0, 3] : List UInt8))]) (H3 := [(3, oB false 1 enc8 ([1, 2, 3] : List UInt8)), (2, oB false 1 enc8 (List.replicate 254 (0 : UInt8))), (1, oB false 1 enc8 ([1] : List UInt8)), (0, oB false 1 enc8 ([3, 0, 107, 0, 3] : List UInt8))]) [] [] rfl rfl rfl (handed_of (by decide) trivial) rfl rfl rfl rfl rfl rfl (w_rtu_Read ([1, 2, 3] : List UInt8) false (by first | omega | assumption | (simp; omega) | decide | (simp; done))) rfl (dist_of rfl) rfl rfl rfl rfl ?_) 
  refine r_op tabOk hnt rfl (s_move rfl ?_) 
  refine r_op tabOk hnt rfl (s_extract rfl rfl ?_) 
  refine r_op tabOk hnt rfl (s_extract rfl rfl ?_) 
  refine r_op tabOk hnt rfl (s_extract rfl rfl ?_) 
  refine r_op tabOk hnt rfl (s_assign rfl ?_) 
  refine r_op tabOk hnt rfl (s_assign rfl ?_) 
  refine r_op tabOk hnt rfl (s_assign rfl ?_) 
  refine r_set [(1, pS 1 false enc8 (frameV 17 ([3, 0, 107, 0, 3] : List UInt8))), (2, pI (frameE 17 ([3, 0, 107, 0, 3] : List UInt8))), (3, pI (readA (frameV 17 ([3, 0, 107, 0, 3] : List UInt8)))), (4, pS 1 false enc8 (readP (frameV 17 ([3, 0, 107, 0, 3] : List UInt8)))), (5, pI (readE (frameV 17 ([3, 0, 107, 0, 3] : List UInt8)))), (7, pI (frameE 0 ([1] : List UInt8))), (9, pI (frameE 1 [])), (11, pI (frameE 1 (List.replicate 254 (0 : UInt8)))), (14, pI (readE ([1, 2, 3] : List UInt8)))] [(3, oB false 1 enc8 ([1, 2, 3] : List UInt8)), (2, oB false 1 enc8 (List.replicate 254 (0 : UInt8))), (1, oB false 1 enc8 ([1] : List UInt8)), (0, oB false 1 enc8 ([3, 0, 107, 0, 3] : List UInt8))] 4 ⟨rfl, rfl, rfl, rfl, rfl, rfl, rfl, rfl, rfl, trivial⟩ rfl rfl ?_
  refine r_end ?_
  refine q_then ?_
  refine w_seq ?_
  refine w_R ?_
  refine r_op tabOk hnt rfl (s_mkM (f := encI) ([0, 1, 5, 6, 8, 12] : List Int) tab_54 rfl tab_2 ⟨rfl, by decide⟩ (by decide) rfl rfl rfl rfl ?_) 
  refine r_op tabOk hnt rfl (s_mkM (f := enc8) ([1, 2, 3, 4, 5, 6] : List UInt8) tab_41 rfl tab_5 ⟨rfl, by decide⟩ (by decide) rfl rfl rfl rfl ?_) 
  refine r_op tabOk hnt rfl (s_callX (r2 := pS 1 true (encS 1 enc8) (splitV ([0, 1, 5, 6, 8, 12] : List Int) ([1, 2, 3, 4, 5, 6] : List UInt8))) (nx1 := 6) (H2 := [(5, oB false 1 enc8 ([1, 2, 3, 4, 5, 6] : List UInt8)), (4, oB false 1 encI ([0, 1, 5, 6, 8, 12] : List Int)), (3, oB false 1 enc8 ([1, 2, 3] : List UInt8)), (2, oB false 1 enc8 (List.replicate 254 (0 : UInt8))), (1, oB false 1 enc8 ([1] : List UInt8)), (0, oB false 1 enc8 ([3, 0, 107, 0, 3] : List UInt8))]) (H3 := [(5, oB false 1 enc8 ([1, 2, 3, 4, 5, 6] : List UInt8)), (4, oB false 1 encI ([0, 1, 5, 6, 8, 12] : List Int)), (3, oB false 1 enc8 ([1, 2, 3] : List UInt8)), (2, oB false 1 enc8 (List.replicate 254 (0 : UInt8))), (1, oB false 1 enc8 ([1] : List UInt8)), (0, oB false 1 enc8 ([3, 0, 107, 0, 3] : List UInt8))]) [] [] rfl rfl rfl (handed_of (by decide) trivial) rfl rfl rfl rfl rfl rfl (w_rtu_Split ([0, 1, 5, 6, 8, 12] : List Int) false ([1, 2, 3, 4, 5, 6] : List UInt8) false (by first | omega | assumption | (simp; omega) | decide | (simp; done)) (by first | omega | assumption | (simp; omega) | decide | (simp; done)) (by first | omega | assumption | (simp; omega) | decide | (simp; done))) rfl (dist_of rfl) rfl rfl rfl rfl ?_) 
  refine r_op tabOk hnt rfl (s_assign rfl ?_) 
  refine r_set [(1, pS 1 false enc8 (frameV 17 ([3, 0, 107, 0, 3] : List UInt8))), (2, pI (frameE 17 ([3, 0, 107, 0, 3] : List UInt8))), (3, pI (readA (frameV 17 ([3, 0, 107, 0, 3] : List UInt8)))), (4, pS 1 false enc8 (readP (frameV 17 ([3, 0, 107, 0, 3] : List UInt8)))), (5, pI (readE (frameV 17 ([3, 0, 107, 0, 3] : List UInt8)))), (7, pI (frameE 0 ([1] : List UInt8))), (9, pI (frameE 1 [])), (11, pI (frameE 1 (List.replicate 254 (0 : UInt8)))), (14, pI (readE ([1, 2, 3] : List UInt8))), (15, pS 1 true (encS 1 enc8) (splitV ([0, 1, 5, 6, 8, 12] : List Int) ([1, 2, 3, 4, 5, 6] : List UInt8)))] [(5, oB false 1 enc8 ([1, 2, 3, 4, 5, 6] : List UInt8)), (4, oB false 1 encI ([0, 1, 5, 6, 8, 12] : List Int)), (3, oB false 1 enc8 ([1, 2, 3] : List UInt8)), (2, oB false 1 enc8 (List.replicate 254 (0 : UInt8))), (1, oB false 1 enc8 ([1] : List UInt8)), (0, oB false 1 enc8 ([3, 0, 107, 0, 3] : List UInt8))] 6 ⟨rfl, rfl, rfl, rfl, rfl, rfl, rfl, rfl, rfl, rfl, trivial⟩ rfl rfl ?_
  refine r_end ?_
  refine q_then ?_
  refine w_seq ?_
  have hk9 : (splitV ([0, 1, 5, 6, 8, 12] : List Int) ([1, 2, 3, 4, 5, 6] : List UInt8)).length = 2 := by decide +kernel
  refine w_R ?_
  refine r_op tabOk hnt rfl (s_move rfl ?_) 
  refine r_op tabOk hnt rfl (s_eql rfl rfl ?_) 
  refine r_op tabOk hnt rfl (s_move rfl ?_) 
  refine r_if tabOk hnt rfl rfl rfl (fun g1 => ?_) (fun g1 => ?_)
  ·
    have g1' := g1
    try simp only [decide_eq_true_eq, decide_eq_false_iff_not, Bool.not_eq_true', Bool.not_eq_false', Bool.not_true, Bool.not_false, Bool.not_eq_eq_eq_not, Int.not_lt, Int.not_le] at g1'
    refine r_op tabOk hnt rfl (s_move rfl ?_) 
    refine r_if tabOk hnt rfl rfl rfl (fun _ => ?_) (fun e => absurd (e.symm.trans g1) (by decide))
    refine r_op tabOk hnt rfl (s_cvT tab_41 tab_9 rfl tab_5 rfl rfl (hM_sl (f := enc8) rfl) ?_) 
    refine r_if tabOk hnt rfl rfl rfl (fun _ => ?_) (fun e => absurd (e.symm.trans g1) (by decide))
    refine r_op tabOk hnt rfl (s_eqtext (l := frameV 17 ([3, 0, 107, 0, 3] : List UInt8)) (m := ([17, 3, 0, 107, 0, 3, 118, 135] : List UInt8)) rfl rfl ?_) 
    refine r_op tabOk hnt rfl (s_pick_t rfl g1 rfl ?_) 
    refine r_op tabOk hnt rfl (s_move rfl ?_) 
    refine r_if tabOk hnt rfl rfl rfl (fun g2 => ?_) (fun g2 => ?_)
    ·
      have g2' := g2
      try simp only [decide_eq_true_eq, decide_eq_false_iff_not, Bool.not_eq_true', Bool.not_eq_false', Bool.not_true, Bool.not_false, Bool.not_eq_eq_eq_not, Int.not_lt, Int.not_le] at g2'
      refine r_op tabOk hnt rfl (s_move rfl ?_) 
      refine r_if tabOk hnt rfl rfl rfl (fun _ => ?_) (fun e => absurd (e.symm.trans g2) (by decide))
      refine r_op tabOk hnt rfl (s_eql rfl rfl ?_) 
      refine r_op tabOk hnt rfl (s_pick_t rfl g2 rfl ?_) 
      refine r_op tabOk hnt rfl (s_move rfl ?_) 
      refine r_if tabOk hnt rfl rfl rfl (fun g3 => ?_) (fun g3 => ?_)
      ·
        have g3' := g3
        try simp only [decide_eq_true_eq, decide_eq_false_iff_not, Bool.not_eq_true', Bool.not_eq_false', Bool.not_true, Bool.not_false, Bool.not_eq_eq_eq_not, Int.not_lt, Int.not_le] at g3'
        refine r_op tabOk hnt rfl (s_move rfl ?_) 
        refine r_if tabOk hnt rfl rfl rfl (fun _ => ?_) (fun e => absurd (e.symm.trans g3) (by decide))
        refine r_op tabOk hnt rfl (s_eql rfl rfl ?_) 
        refine r_op tabOk hnt rfl (s_pick_t rfl g3 rfl ?_) 
        refine r_op tabOk hnt rfl (s_move rfl ?_) 
        refine r_if tabOk hnt rfl rfl rfl (fun g4 => ?_) (fun g4 => ?_)
        ·
          have g4' := g4
          try simp only [decide_eq_true_eq, decide_eq_false_iff_not, Bool.not_eq_true', Bool.not_eq_false', Bool.not_true, Bool.not_false, Bool.not_eq_eq_eq_not, Int.not_lt, Int.not_le] at g4'
          refine r_op tabOk hnt rfl (s_move rfl ?_) 
          refine r_if tabOk hnt rfl rfl rfl (fun _ => ?_) (fun e => absurd (e.symm.trans g4) (by decide))
          refine r_op tabOk hnt rfl (s_lenM (l := readP (frameV 17 ([3, 0, 107, 0, 3] : List UInt8))) tab_41 rfl (hM_sl (f := enc8) rfl) ?_) 
          refine r_if tabOk hnt rfl rfl rfl (fun _ => ?_) (fun e => absurd (e.symm.trans g4) (by decide))
          refine r_op tabOk hnt rfl (s_eql rfl rfl ?_) 
          refine r_op tabOk hnt rfl (s_pick_t rfl g4 rfl ?_) 
          refine r_op tabOk hnt rfl (s_move rfl ?_) 
          refine r_if tabOk hnt rfl rfl rfl (fun g5 => ?_) (fun g5 => ?_)
          ·
            have g5' := g5
            try simp only [decide_eq_true_eq, decide_eq_false_iff_not, Bool.not_eq_true', Bool.not_eq_false', Bool.not_true, Bool.not_false, Bool.not_eq_eq_eq_not, Int.not_lt, Int.not_le] at g5'
            refine r_op tabOk hnt rfl (s_move rfl ?_) 
            refine r_if tabOk hnt rfl rfl rfl (fun _ => ?_) (fun e => absurd (e.symm.trans g5) (by decide))
            refine r_op tabOk hnt rfl (s_eql rfl rfl ?_) 
            refine r_op tabOk hnt rfl (s_pick_t rfl g5 rfl ?_) 
            refine r_op tabOk hnt rfl (s_move rfl ?_) 
            refine r_if tabOk hnt rfl rfl rfl (fun g6 => ?_) (fun g6 => ?_)
            ·
              have g6' := g6
              try simp only [decide_eq_true_eq, decide_eq_false_iff_not, Bool.not_eq_true', Bool.not_eq_false', Bool.not_true, Bool.not_false, Bool.not_eq_eq_eq_not, Int.not_lt, Int.not_le] at g6'
              refine r_op tabOk hnt rfl (s_move rfl ?_) 
              refine r_if tabOk hnt rfl rfl rfl (fun _ => ?_) (fun e => absurd (e.symm.trans g6) (by decide))
              refine r_op tabOk hnt rfl (s_eql rfl rfl ?_) 
              refine r_op tabOk hnt rfl (s_pick_t rfl g6 rfl ?_) 
              refine r_op tabOk hnt rfl (s_move rfl ?_) 
              refine r_if tabOk hnt rfl rfl rfl (fun g7 => ?_) (fun g7 => ?_)
              ·
                have g7' := g7
                try simp only [decide_eq_true_eq, decide_eq_false_iff_not, Bool.not_eq_true', Bool.not_eq_false', Bool.not_true, Bool.not_false, Bool.not_eq_eq_eq_not, Int.not_lt, Int.not_le] at g7'
                refine r_op tabOk hnt rfl (s_move rfl ?_) 
                refine r_if tabOk hnt rfl rfl rfl (fun _ => ?_) (fun e => absurd (e.symm.trans g7) (by decide))
                refine r_op tabOk hnt rfl (s_eql rfl rfl ?_) 
                refine r_op tabOk hnt rfl (s_pick_t rfl g7 rfl ?_) 
                refine r_op tabOk hnt rfl (s_move rfl ?_) 
                refine r_if tabOk hnt rfl rfl rfl (fun g8 => ?_) (fun g8 => ?_)
                ·
                  have g8' := g8
                  try simp only [decide_eq_true_eq, decide_eq_false_iff_not, Bool.not_eq_true', Bool.not_eq_false', Bool.not_true, Bool.not_false, Bool.not_eq_eq_eq_not, Int.not_lt, Int.not_le] at g8'
                  refine r_op tabOk hnt rfl (s_move rfl ?_) 
                  refine r_if tabOk hnt rfl rfl rfl (fun _ => ?_) (fun e => absurd (e.symm.trans g8) (by decide))
                  refine r_op tabOk hnt rfl (s_eql rfl rfl ?_) 
                  refine r_op tabOk hnt rfl (s_pick_t rfl g8 rfl ?_) 
                  refine r_op tabOk hnt rfl (s_move rfl ?_) 
                  refine r_if tabOk hnt rfl rfl rfl (fun g9 => ?_) (fun g9 => ?_)
                  ·
                    have g9' := g9
                    try simp only [decide_eq_true_eq, decide_eq_false_iff_not, Bool.not_eq_true', Bool.not_eq_false', Bool.not_true, Bool.not_false, Bool.not_eq_eq_eq_not, Int.not_lt, Int.not_le] at g9'
                    refine r_op tabOk hnt rfl (s_move rfl ?_) 
                    refine r_if tabOk hnt rfl rfl rfl (fun _ => ?_) (fun e => absurd (e.symm.trans g9) (by decide))
                    refine r_op tabOk hnt rfl (s_lenM (l := splitV ([0, 1, 5, 6, 8, 12] : List Int) ([1, 2, 3, 4, 5, 6] : List UInt8)) tab_58 rfl (hM_sl (f := (encS 1 enc8)) rfl) ?_) 
                    refine r_if tabOk hnt rfl rfl rfl (fun _ => ?_) (fun e => absurd (e.symm.trans g9) (by decide))
                    refine r_op tabOk hnt rfl (s_eql rfl rfl ?_) 
                    refine r_op tabOk hnt rfl (s_pick_t rfl g9 rfl ?_) 
                    refine r_op tabOk hnt rfl (s_move rfl ?_) 
                    refine r_if tabOk hnt rfl rfl rfl (fun g10 => ?_) (fun g10 => ?_)
                    ·
                      have g10' := g10
                      try simp only [decide_eq_true_eq, decide_eq_false_iff_not, Bool.not_eq_true', Bool.not_eq_false', Bool.not_true, Bool.not_false, Bool.not_eq_eq_eq_not, Int.not_lt, Int.not_le] at g10'
                      refine r_op tabOk hnt rfl (s_move rfl ?_) 
                      refine r_if tabOk hnt rfl rfl rfl (fun _ => ?_) (fun e => absurd (e.symm.trans g10) (by decide))
                      obtain ⟨e1, he1⟩ := get_of_lt (splitV ([0, 1, 5, 6, 8, 12] : List Int) ([1, 2, 3, 4, 5, 6] : List UInt8)) (i := 0) (by omega)
                      refine r_op tabOk hnt rfl (s_iaM (q := 0) (b := e1) (f := (encS 1 enc8)) tab_58 rfl tab_41 rfl rfl (by omega) rfl he1 ?_) 
                      refine r_if tabOk hnt rfl rfl rfl (fun _ => ?_) (fun e => absurd (e.symm.trans g10) (by decide))
                      refine r_op tabOk hnt rfl (s_load_ro1 tab_41 rfl rfl rfl rfl ?_) 
                      refine r_if tabOk hnt rfl rfl rfl (fun _ => ?_) (fun e => absurd (e.symm.trans g10) (by decide))
                      refine r_op tabOk hnt rfl (s_cvT tab_41 tab_9 rfl tab_5 rfl rfl (hM_sl (f := enc8) rfl) ?_) 
                      refine r_if tabOk hnt rfl rfl rfl (fun _ => ?_) (fun e => absurd (e.symm.trans g10) (by decide))
                      refine r_op tabOk hnt rfl (s_eqtext (l := e1) (m := ([1, 2] : List UInt8)) rfl rfl ?_) 
                      refine r_op tabOk hnt rfl (s_pick_t rfl g10 rfl ?_) 
                      refine r_op tabOk hnt rfl (s_move rfl ?_) 
                      refine r_if tabOk hnt rfl rfl rfl (fun g11 => ?_) (fun g11 => ?_)
                      ·
                        have g11' := g11
                        try simp only [decide_eq_true_eq, decide_eq_false_iff_not, Bool.not_eq_true', Bool.not_eq_false', Bool.not_true, Bool.not_false, Bool.not_eq_eq_eq_not, Int.not_lt, Int.not_le] at g11'
                        refine r_op tabOk hnt rfl (s_move rfl ?_) 
                        refine r_if tabOk hnt rfl rfl rfl (fun _ => ?_) (fun e => absurd (e.symm.trans g11) (by decide))
                        obtain ⟨e2, he2⟩ := get_of_lt (splitV ([0, 1, 5, 6, 8, 12] : List Int) ([1, 2, 3, 4, 5, 6] : List UInt8)) (i := 1) (by omega)
                        refine r_op tabOk hnt rfl (s_iaM (q := 1) (b := e2) (f := (encS 1 enc8)) tab_58 rfl tab_41 rfl rfl (by omega) rfl he2 ?_) 
                        refine r_if tabOk hnt rfl rfl rfl (fun _ => ?_) (fun e => absurd (e.symm.trans g11) (by decide))
                        refine r_op tabOk hnt rfl (s_load_ro1 tab_41 rfl rfl rfl rfl ?_) 
                        refine r_if tabOk hnt rfl rfl rfl (fun _ => ?_) (fun e => absurd (e.symm.trans g11) (by decide))
                        refine r_op tabOk hnt rfl (s_cvT tab_41 tab_9 rfl tab_5 rfl rfl (hM_sl (f := enc8) rfl) ?_) 
                        refine r_if tabOk hnt rfl rfl rfl (fun _ => ?_) (fun e => absurd (e.symm.trans g11) (by decide))
                        refine r_op tabOk hnt rfl (s_eqtext (l := e2) (m := ([6] : List UInt8)) rfl rfl ?_) 
                        refine r_op tabOk hnt rfl (s_pick_t rfl g11 rfl ?_) 
                        refine r_op tabOk hnt rfl (s_move rfl ?_) 
                        refine r_op tabOk hnt rfl (s_pickTF rfl ?_) 
                        refine r_op tabOk hnt rfl (s_move rfl ?_) 
                        refine r_op tabOk hnt rfl (s_pickTF rfl ?_) 
                        refine r_op tabOk hnt rfl (s_assign rfl ?_) 
                        refine r_set [(0, pB (decide (e2 = ([6] : List UInt8))))] [(5, oB false 1 enc8 ([1, 2, 3, 4, 5, 6] : List UInt8)), (4, oB false 1 encI ([0, 1, 5, 6, 8, 12] : List Int)), (3, oB false 1 enc8 ([1, 2, 3] : List UInt8)), (2, oB false 1 enc8 (List.replicate 254 (0 : UInt8))), (1, oB false 1 enc8 ([1] : List UInt8)), (0, oB false 1 enc8 ([3, 0, 107, 0, 3] : List UInt8))] 6 ⟨rfl, trivial⟩ rfl rfl ?_
                        refine r_end ?_
                        refine q_then ?_
                        refine w_le (s := 0) (y := pB true) rfl (le_of_eq (congrArg (fun z : Bool => pB z) (show (decide (e2 = ([6] : List UInt8))) = true by first | decide | decide +kernel | (have h9 : (splitV ([0, 1, 5, 6, 8, 12] : List Int) ([1, 2, 3, 4, 5, 6] : List UInt8)) = [[1, 2], [6]] := (by decide +kernel); rw [h9] at he2; cases he2; decide)))) ?_
                        refine w_ret ?_
                        exact fin_plain (ret_tmp rfl ret_nil) rfl rfl ⟨rfl, rfl, rfl⟩
                      ·
                        exact absurd g11 (by first | (simp; done) | decide | decide +kernel | (have h9 : (splitV ([0, 1, 5, 6, 8, 12] : List Int) ([1, 2, 3, 4, 5, 6] : List UInt8)) = [[1, 2], [6]] := (by decide +kernel); rw [h9] at he1; cases he1; decide))
                    ·
                      exact absurd g10 (by first | (simp; done) | decide | decide +kernel | (have h9 : (splitV ([0, 1, 5, 6, 8, 12] : List Int) ([1, 2, 3, 4, 5, 6] : List UInt8)) = [[1, 2], [6]] := (by decide +kernel); rw [h9] at he1; cases he1; decide))
                  ·
                    exact absurd g9 (by first | (simp; done) | decide | decide +kernel | (have h9 : (splitV ([0, 1, 5, 6, 8, 12] : List Int) ([1, 2, 3, 4, 5, 6] : List UInt8)) = [[1, 2], [6]] := (by decide +kernel); rw [h9] at he1; cases he1; decide))
                ·
                  exact absurd g8 (by first | (simp; done) | decide | decide +kernel | (have h9 : (splitV ([0, 1, 5, 6, 8, 12] : List Int) ([1, 2, 3, 4, 5, 6] : List UInt8)) = [[1, 2], [6]] := (by decide +kernel); rw [h9] at he1; cases he1; decide))
              ·
                exact absurd g7 (by first | (simp; done) | decide | decide +kernel | (have h9 : (splitV ([0, 1, 5, 6, 8, 12] : List Int) ([1, 2, 3, 4, 5, 6] : List UInt8)) = [[1, 2], [6]] := (by decide +kernel); rw [h9] at he1; cases he1; decide))
            ·
              exact absurd g6 (by first | (simp; done) | decide | decide +kernel | (have h9 : (splitV ([0, 1, 5, 6, 8, 12] : List Int) ([1, 2, 3, 4, 5, 6] : List UInt8)) = [[1, 2], [6]] := (by decide +kernel); rw [h9] at he1; cases he1; decide))
          ·
            exact absurd g5 (by first | (simp; done) | decide | decide +kernel | (have h9 : (splitV ([0, 1, 5, 6, 8, 12] : List Int) ([1, 2, 3, 4, 5, 6] : List UInt8)) = [[1, 2], [6]] := (by decide +kernel); rw [h9] at he1; cases he1; decide))
        ·
          exact absurd g4 (by first | (simp; done) | decide | decide +kernel | (have h9 : (splitV ([0, 1, 5, 6, 8, 12] : List Int) ([1, 2, 3, 4, 5, 6] : List UInt8)) = [[1, 2], [6]] := (by decide +kernel); rw [h9] at he1; cases he1; decide))
      ·
        exact absurd g3 (by first | (simp; done) | decide | decide +kernel | (have h9 : (splitV ([0, 1, 5, 6, 8, 12] : List Int) ([1, 2, 3, 4, 5, 6] : List UInt8)) = [[1, 2], [6]] := (by decide +kernel); rw [h9] at he1; cases he1; decide))
    ·
      exact absurd g2 (by first | (simp; done) | decide | decide +kernel | (have h9 : (splitV ([0, 1, 5, 6, 8, 12] : List Int) ([1, 2, 3, 4, 5, 6] : List UInt8)) = [[1, 2], [6]] := (by decide +kernel); rw [h9] at he1; cases he1; decide))
  ·
    exact absurd g1 (by first | (simp; done) | decide | decide +kernel | (have h9 : (splitV ([0, 1, 5, 6, 8, 12] : List Int) ([1, 2, 3, 4, 5, 6] : List UInt8)) = [[1, 2], [6]] := (by decide +kernel); rw [h9] at he1; cases he1; decide))

theorem w_burgagelaw5_same (a : Int) (b : List UInt8) (cl_b : Bool) (hb : b.length ≤ 140737488355326) :
    T Try.prog 24 [pI a, pS 1 cl_b enc8 b] 0 [] (Ret (pB true) 0 []) := by
  refine t_fun tabOk (n := 66) (rs := [.tmp 4]) Try.func24 rfl rfl rfl rfl (Nat.le_of_ble_eq_true rfl) ?_
  intro c hnt hk
  refine w_seq ?_
  refine w_R ?_
  refine r_op tabOk hnt rfl (s_assign rfl ?_) 
  refine r_end ?_
  refine q_then ?_
  refine w_seq ?_
  refine w_R ?_
  refine r_op tabOk hnt rfl (s_move rfl ?_) 
  refine r_op tabOk hnt rfl (s_move rfl ?_) 
  refine r_op tabOk hnt rfl (s_callF rfl rfl rfl (w_rtu_Frame a b cl_b (by first | omega | assumption | (simp; omega) | decide | (simp; done))) rfl ?_) 
  refine r_op tabOk hnt rfl (s_move rfl ?_) 
  refine r_op tabOk hnt rfl (s_extract rfl rfl ?_) 
  refine r_op tabOk hnt rfl (s_extract rfl rfl ?_) 
  refine r_op tabOk hnt rfl (s_assign rfl ?_) 
  refine r_op tabOk hnt rfl (s_assign rfl ?_) 
  refine r_end ?_
  refine q_then ?_
  refine w_seq ?_
  refine w_R ?_
  refine r_op tabOk hnt rfl (s_move rfl ?_) 
  refine r_op tabOk hnt rfl (s_move rfl ?_) 
  refine r_op tabOk hnt rfl (s_callF rfl rfl rfl (w_burgageref5_Frame a b cl_b (by first | omega | assumption | (simp; omega) | decide | (simp; done))) rfl ?_) 
  refine r_op tabOk hnt rfl (s_move rfl ?_) 
  refine r_op tabOk hnt rfl (s_extract rfl rfl ?_) 
  refine r_op tabOk hnt rfl (s_extract rfl rfl ?_) 
  refine r_op tabOk hnt rfl (s_assign rfl ?_) 
  refine r_op tabOk hnt rfl (s_assign rfl ?_) 
  refine r_end ?_
  refine q_then ?_
  refine w_seq ?_
  refine w_R ?_
  refine r_op tabOk hnt rfl (s_move rfl ?_) 
  refine r_op tabOk hnt rfl (s_callF rfl rfl rfl (w_rtu_Read b cl_b (by first | omega | assumption | (simp; omega) | decide | (simp; done))) rfl ?_) 
  refine r_op tabOk hnt rfl (s_move rfl ?_) 
  refine r_op tabOk hnt rfl (s_extract rfl rfl ?_) 
  refine r_op tabOk hnt rfl (s_extract rfl rfl ?_) 
  refine r_op tabOk hnt rfl (s_extract rfl rfl ?_) 
  refine r_op tabOk hnt rfl (s_assign rfl ?_) 
  refine r_op tabOk hnt rfl (s_assign rfl ?_) 
  refine r_op tabOk hnt rfl (s_assign rfl ?_) 
  refine r_end ?_
  refine q_then ?_
  refine w_seq ?_
  refine w_R ?_
  refine r_op tabOk hnt rfl (s_move rfl ?_) 
  refine r_op tabOk hnt rfl (s_callF rfl rfl rfl (w_burgageref5_Read b cl_b (by first | omega | assumption | (simp; omega) | decide | (simp; done))) rfl ?_) 
  refine r_op tabOk hnt rfl (s_move rfl ?_) 
  refine r_op tabOk hnt rfl (s_extract rfl rfl ?_) 
  refine r_op tabOk hnt rfl (s_extract rfl rfl ?_) 
  refine r_op tabOk hnt rfl (s_extract rfl rfl ?_) 
  refine r_op tabOk hnt rfl (s_assign rfl ?_) 
  refine r_op tabOk hnt rfl (s_assign rfl ?_) 
  refine r_op tabOk hnt rfl (s_assign rfl ?_) 
  refine r_set [(5, pS 1 false enc8 (frameV a b)), (6, pI (frameE a b)), (7, pS 1 false enc8 (frameV a b)), (8, pI (frameE a b)), (9, pI (readA b)), (10, pS 1 false enc8 (readP b)), (11, pI (readE b)), (12, pI (readA b)), (13, pS 1 false enc8 (readP b)), (14, pI (readE b))] [] 0 ⟨rfl, rfl, rfl, rfl, rfl, rfl, rfl, rfl, rfl, rfl, trivial⟩ rfl rfl ?_
  refine r_end ?_
  refine q_then ?_
  refine w_seq ?_
  refine w_R ?_
  refine r_op tabOk hnt rfl (s_move rfl ?_) 
  refine r_op tabOk hnt rfl (s_cvT tab_41 tab_9 rfl tab_5 rfl rfl (hM_sl (f := enc8) rfl) ?_) 
  refine r_op tabOk hnt rfl (s_move rfl ?_) 
  refine r_op tabOk hnt rfl (s_cvT tab_41 tab_9 rfl tab_5 rfl rfl (hM_sl (f := enc8) rfl) ?_) 
  refine r_op tabOk hnt rfl (s_eqtext (l := frameV a b) (m := frameV a b) rfl rfl ?_) 
  refine r_op tabOk hnt rfl (s_move rfl ?_) 
  refine r_if tabOk hnt rfl rfl rfl (fun g1 => ?_) (fun g1 => ?_)
  ·
    have g1' := g1
    try simp only [decide_eq_true_eq, decide_eq_false_iff_not, Bool.not_eq_true', Bool.not_eq_false', Bool.not_true, Bool.not_false, Bool.not_eq_eq_eq_not, Int.not_lt, Int.not_le] at g1'
    refine r_op tabOk hnt rfl (s_move rfl ?_) 
    refine r_if tabOk hnt rfl rfl rfl (fun _ => ?_) (fun e => absurd (e.symm.trans g1) (by decide))
    refine r_op tabOk hnt rfl (s_move rfl ?_) 
    refine r_if tabOk hnt rfl rfl rfl (fun _ => ?_) (fun e => absurd (e.symm.trans g1) (by decide))
    refine r_op tabOk hnt rfl (s_eql rfl rfl ?_) 
    refine r_op tabOk hnt rfl (s_pick_t rfl g1 rfl ?_) 
    refine r_op tabOk hnt rfl (s_move rfl ?_) 
    refine r_if tabOk hnt rfl rfl rfl (fun g2 => ?_) (fun g2 => ?_)
    ·
      have g2' := g2
      try simp only [decide_eq_true_eq, decide_eq_false_iff_not, Bool.not_eq_true', Bool.not_eq_false', Bool.not_true, Bool.not_false, Bool.not_eq_eq_eq_not, Int.not_lt, Int.not_le] at g2'
      refine r_op tabOk hnt rfl (s_move rfl ?_) 
      refine r_if tabOk hnt rfl rfl rfl (fun _ => ?_) (fun e => absurd (e.symm.trans g2) (by decide))
      refine r_op tabOk hnt rfl (s_move rfl ?_) 
      refine r_if tabOk hnt rfl rfl rfl (fun _ => ?_) (fun e => absurd (e.symm.trans g2) (by decide))
      refine r_op tabOk hnt rfl (s_eql rfl rfl ?_) 
      refine r_op tabOk hnt rfl (s_pick_t rfl g2 rfl ?_) 
      refine r_op tabOk hnt rfl (s_move rfl ?_) 
      refine r_if tabOk hnt rfl rfl rfl (fun g3 => ?_) (fun g3 => ?_)
      ·
        have g3' := g3
        try simp only [decide_eq_true_eq, decide_eq_false_iff_not, Bool.not_eq_true', Bool.not_eq_false', Bool.not_true, Bool.not_false, Bool.not_eq_eq_eq_not, Int.not_lt, Int.not_le] at g3'
        refine r_op tabOk hnt rfl (s_move rfl ?_) 
        refine r_if tabOk hnt rfl rfl rfl (fun _ => ?_) (fun e => absurd (e.symm.trans g3) (by decide))
        refine r_op tabOk hnt rfl (s_cvT tab_41 tab_9 rfl tab_5 rfl rfl (hM_sl (f := enc8) rfl) ?_) 
        refine r_if tabOk hnt rfl rfl rfl (fun _ => ?_) (fun e => absurd (e.symm.trans g3) (by decide))
        refine r_op tabOk hnt rfl (s_move rfl ?_) 
        refine r_if tabOk hnt rfl rfl rfl (fun _ => ?_) (fun e => absurd (e.symm.trans g3) (by decide))
        refine r_op tabOk hnt rfl (s_cvT tab_41 tab_9 rfl tab_5 rfl rfl (hM_sl (f := enc8) rfl) ?_) 
        refine r_if tabOk hnt rfl rfl rfl (fun _ => ?_) (fun e => absurd (e.symm.trans g3) (by decide))
        refine r_op tabOk hnt rfl (s_eqtext (l := readP b) (m := readP b) rfl rfl ?_) 
        refine r_op tabOk hnt rfl (s_pick_t rfl g3 rfl ?_) 
        refine r_op tabOk hnt rfl (s_move rfl ?_) 
        refine r_if tabOk hnt rfl rfl rfl (fun g4 => ?_) (fun g4 => ?_)
        ·
          have g4' := g4
          try simp only [decide_eq_true_eq, decide_eq_false_iff_not, Bool.not_eq_true', Bool.not_eq_false', Bool.not_true, Bool.not_false, Bool.not_eq_eq_eq_not, Int.not_lt, Int.not_le] at g4'
          refine r_op tabOk hnt rfl (s_move rfl ?_) 
          refine r_if tabOk hnt rfl rfl rfl (fun _ => ?_) (fun e => absurd (e.symm.trans g4) (by decide))
          refine r_op tabOk hnt rfl (s_move rfl ?_) 
          refine r_if tabOk hnt rfl rfl rfl (fun _ => ?_) (fun e => absurd (e.symm.trans g4) (by decide))
          refine r_op tabOk hnt rfl (s_eql rfl rfl ?_) 
          refine r_op tabOk hnt rfl (s_pick_t rfl g4 rfl ?_) 
          refine r_op tabOk hnt rfl (s_assign rfl ?_) 
          refine r_set [(4, pB (decide (readE b = readE b)))] [] 0 ⟨rfl, trivial⟩ rfl rfl ?_
          refine r_end ?_
          refine q_then ?_
          refine w_le (s := 4) (y := pB true) rfl (le_of_eq (congrArg (fun z : Bool => pB z) (show (decide (readE b = readE b)) = true by simp))) ?_
          refine w_ret ?_
          exact fin_plain (ret_tmp rfl ret_nil) rfl rfl ⟨rfl, rfl, rfl⟩
        ·
          exact absurd g4 (by simp)
      ·
        exact absurd g3 (by simp)
    ·
      exact absurd g2 (by simp)
  ·
    exact absurd g1 (by simp)

theorem w_burgagelaw5_splits (ts : List Int) (cl_ts : Bool) (b : List UInt8) (cl_b : Bool) (ht : ts.length ≤ 1048576) (hb : b.length ≤ 140737488351232) (hts : ∀ t ∈ ts, -9223372036854775808 ≤ t ∧ t ≤ 9223372036854775807) :
    T Try.prog 26 [pS 1 cl_ts encI ts, pS 1 cl_b enc8 b] 0 [] (Ret (pB true) 0 []) := by
  refine t_fun tabOk (n := 36) (rs := [.tmp 4]) Try.func26 rfl rfl rfl rfl (Nat.le_of_ble_eq_true rfl) ?_
  intro c hnt hk
  refine w_seq ?_
  refine w_R ?_
  refine r_op tabOk hnt rfl (s_assign rfl ?_) 
  refine r_end ?_
  refine q_then ?_
  refine w_seq ?_
  refine w_R ?_
  refine r_op tabOk hnt rfl (s_move rfl ?_) 
  refine r_op tabOk hnt rfl (s_move rfl ?_) 
  refine r_op tabOk hnt rfl (s_callF rfl rfl rfl (w_rtu_Split ts cl_ts b cl_b (by first | omega | assumption | (simp; omega) | decide | (simp; done)) (by first | omega | assumption | (simp; omega) | decide | (simp; done)) (by first | omega | assumption | (simp; omega) | decide | (simp; done))) rfl ?_) 
  refine r_op tabOk hnt rfl (s_move rfl ?_) 
  refine r_op tabOk hnt rfl (s_move rfl ?_) 
  refine r_op tabOk hnt rfl (s_callF rfl rfl rfl (w_burgageref5_Split ts cl_ts b cl_b (by first | omega | assumption | (simp; omega) | decide | (simp; done)) (by first | omega | assumption | (simp; omega) | decide | (simp; done)) (by first | omega | assumption | (simp; omega) | decide | (simp; done))) rfl ?_) 
  refine r_op tabOk hnt rfl (s_assign rfl ?_) 
  refine r_op tabOk hnt rfl (s_assign rfl ?_) 
  refine r_end ?_
  refine q_then ?_
  refine w_seq ?_
  refine w_seq ?_
  refine w_R ?_
  refine r_op tabOk hnt rfl (s_move rfl ?_) 
  refine r_op tabOk hnt rfl (s_lenM (l := splitV ts b) tab_58 rfl (hM_sl (f := (encS 1 enc8)) rfl) ?_) 
  refine r_op tabOk hnt rfl (s_move rfl ?_) 
  refine r_op tabOk hnt rfl (s_lenM (l := splitV ts b) tab_58 rfl (hM_sl (f := (encS 1 enc8)) rfl) ?_) 
  refine r_op tabOk hnt rfl (s_neq rfl rfl ?_) 
  refine r_end ?_
  refine q_then ?_
  refine w_if rfl (fun c1 => ?_) (fun c1 => ?_)
  ·
    have c1_ := c1
    exact absurd c1 (by simp)
  ·
    have c1_ := c1
    try simp only [decide_eq_true_eq, decide_eq_false_iff_not, Bool.not_eq_true', Bool.not_eq_false', Bool.not_true, Bool.not_false, Bool.not_eq_eq_eq_not, Int.not_lt, Int.not_le] at c1
    refine w_skip ?_
    refine q_then ?_
    refine w_seq ?_
    refine w_seq ?_
    have hsv := spEnd_len (spT ts b (min ts.length b.length))
    have hsv2 := spT_len ts b (min ts.length b.length)
    have hsv3 : (splitV ts b).length = (spEnd (spT ts b (min ts.length b.length))).length := rfl
    refine w_R ?_
    refine r_op tabOk hnt rfl (s_move rfl ?_) 
    refine r_op tabOk hnt rfl (s_lenM (l := splitV ts b) tab_58 rfl (hM_sl (f := (encS 1 enc8)) rfl) ?_) 
    refine r_op tabOk hnt rfl (s_move rfl ?_) 
    refine r_end ?_
    refine q_then ?_
    refine w_block ?_
    refine loop1 (fun (i : Nat) => i ≤ (splitV ts b).length) (fun (i : Nat) => [(5, pS 1 true (encS 1 enc8) (splitV ts b)), (6, pS 1 false (encS 1 enc8) (splitV ts b)), (20, pN ((splitV ts b).length)), (21, pN i)]) 0 (fun (i : Nat) => []) (fun (i : Nat) => (splitV ts b).length - i) (0) ?_ ⟨[], rfl, ⟨⟨_, rfl, rfl, rfl⟩, ⟨_, rfl, rfl, rfl⟩, ⟨_, rfl, rfl, rfl⟩, ⟨_, rfl, rfl, rfl⟩, trivial⟩, trivial, by rw [hk]; decide⟩ ?_
    · omega
    ·
      intro i hI
      refine w_seq ?_
      refine w_R ?_
      refine r_op tabOk hnt rfl (s_lss rfl rfl ?_) 
      refine r_end ?_
      refine q_then ?_
      refine w_seq ?_
      refine w_if rfl (fun c2 => ?_) (fun c2 => ?_)
      ·
        have c2_ := c2
        try simp only [decide_eq_true_eq, decide_eq_false_iff_not, Bool.not_eq_true', Bool.not_eq_false', Bool.not_true, Bool.not_false, Bool.not_eq_eq_eq_not, Int.not_lt, Int.not_le] at c2
        refine w_skip ?_
        refine q_then ?_
        refine w_seq ?_
        refine w_block ?_
        refine w_seq ?_
        refine w_R ?_
        refine r_op tabOk hnt rfl (s_move rfl ?_) 
        refine r_op tabOk hnt rfl (s_assign rfl ?_) 
        refine r_end ?_
        refine q_then ?_
        refine w_seq ?_
        refine W_drawn tabOk mixed hnt [[], [], [0, 1], [0, 1, 2], [0, 1, 2, 3], [], [], [5, 6], [5, 6, 7], [5, 6, 7, 8], [0, 1, 2, 3, 4, 5, 6, 7, 8, 9]] (by kernel_rfl) ?_
        refine d_op ?_
        refine x_run0 [(5, pS 1 true (encS 1 enc8) (splitV ts b))] [] rfl rfl rfl rfl (s_move rfl ⟨rfl, rfl, rfl⟩) ?_
        refine d_op ?_
        refine x_run0 [(7, pN i)] [] rfl rfl rfl rfl (s_move rfl ⟨rfl, rfl, rfl⟩) ?_
        refine d_op ?_
        obtain ⟨e1, he1⟩ := get_of_lt (splitV ts b) (i := i) (by omega)
        refine x_run0 [(24, pS 1 true (encS 1 enc8) (splitV ts b)), (25, pN i)] [0, 1] rfl rfl rfl rfl (s_iaM (q := i) (b := e1) (f := (encS 1 enc8)) tab_58 rfl tab_41 rfl rfl (by omega) rfl he1 ⟨rfl, rfl, rfl⟩) ?_
        refine d_op ?_
        refine x_run0 [(26, PV.f (.ro (FV.sl 1 false (List.map enc8 e1))))] [0, 1, 2] rfl rfl rfl rfl (s_load_ro1 tab_41 rfl rfl rfl rfl ⟨rfl, rfl, rfl⟩) ?_
        refine d_op ?_
        refine x_run0 [(27, pS 1 false enc8 e1)] [0, 1, 2, 3] rfl rfl rfl rfl (s_cvT tab_41 tab_9 rfl tab_5 rfl rfl (hM_sl (f := enc8) rfl) ⟨rfl, rfl, rfl⟩) ?_
        refine d_op ?_
        refine x_run0 [(6, pS 1 false (encS 1 enc8) (splitV ts b))] [] rfl rfl rfl rfl (s_move rfl ⟨rfl, rfl, rfl⟩) ?_
        refine d_op ?_
        refine x_run0 [(7, pN i)] [] rfl rfl rfl rfl (s_move rfl ⟨rfl, rfl, rfl⟩) ?_
        refine d_op ?_
        refine x_run0 [(29, pS 1 false (encS 1 enc8) (splitV ts b)), (30, pN i)] [5, 6] rfl rfl rfl rfl (s_iaM (q := i) (b := e1) (f := (encS 1 enc8)) tab_58 rfl tab_41 rfl rfl (by omega) rfl he1 ⟨rfl, rfl, rfl⟩) ?_
        refine d_op ?_
        refine x_run0 [(31, PV.f (.ro (FV.sl 1 false (List.map enc8 e1))))] [5, 6, 7] rfl rfl rfl rfl (s_load_ro1 tab_41 rfl rfl rfl rfl ⟨rfl, rfl, rfl⟩) ?_
        refine d_op ?_
        refine x_run0 [(32, pS 1 false enc8 e1)] [5, 6, 7, 8] rfl rfl rfl rfl (s_cvT tab_41 tab_9 rfl tab_5 rfl rfl (hM_sl (f := enc8) rfl) ⟨rfl, rfl, rfl⟩) ?_
        refine d_op ?_
        refine x_run0 [(28, pT e1), (33, pT e1)] [0, 1, 2, 3, 4, 5, 6, 7, 8, 9] rfl rfl rfl rfl (s_netext (l := e1) (m := e1) rfl rfl ⟨rfl, rfl, rfl⟩) ?_
        refine d_end ⟨by kernel_rfl, ?_⟩
        refine q_then ?_
        refine w_if rfl (fun c3 => ?_) (fun c3 => ?_)
        ·
          have c3_ := c3
          exact absurd c3 (by simp)
        ·
          have c3_ := c3
          try simp only [decide_eq_true_eq, decide_eq_false_iff_not, Bool.not_eq_true', Bool.not_eq_false', Bool.not_true, Bool.not_false, Bool.not_eq_eq_eq_not, Int.not_lt, Int.not_le] at c3
          refine w_skip ?_
          refine q_block ?_
          refine q_then ?_
          refine w_R ?_
          refine r_op tabOk hnt rfl (s_addN (a := i) (b := 1) rfl rfl (by omega) (by omega) (by omega) ?_) 
          refine r_op tabOk hnt rfl (s_move rfl ?_) 
          refine r_end ?_
          refine q_then ?_
          refine ⟨(i + 1), ?_, ?_, ⟨[], rfl, ⟨⟨_, rfl, rfl, rfl⟩, ⟨_, rfl, rfl, rfl⟩, ⟨_, rfl, rfl, rfl⟩, ⟨_, rfl, rfl, rfl⟩, trivial⟩, trivial, by rw [hk]; decide⟩⟩
          ·
            omega
          · omega
      ·
        have c2_ := c2
        try simp only [decide_eq_true_eq, decide_eq_false_iff_not, Bool.not_eq_true', Bool.not_eq_false', Bool.not_true, Bool.not_false, Bool.not_eq_eq_eq_not, Int.not_lt, Int.not_le] at c2
        refine w_exit ?_
        refine q_then_exit ?_
        refine q_then_exit ?_
        refine q_block_exit ?_
        refine q_then ?_
        refine w_seq ?_
        refine w_R ?_
        refine r_op tabOk hnt rfl (s_assign rfl ?_) 
        refine r_end ?_
        refine q_then ?_
        refine w_ret ?_
        exact fin_plain (ret_tmp rfl ret_nil) rfl rfl ⟨rfl, rfl, rfl⟩

theorem w_burgagelaw5_RtuBursts (addr : Int) (p : List UInt8) (cl_p : Bool) (n : Int) (turn : UInt16) (hp : p.length ≤ 140737488351232) (hn : -9223372036854775808 ≤ n ∧ n ≤ 9223372036854775807) (ha : -9223372036854775808 ≤ addr ∧ addr ≤ 9223372036854775807) :
    T Try.prog 11 [pI addr, pS 1 cl_p enc8 p, pI n, p16 turn] 0 [] (Ret (pB true) 0 []) := by
  refine t_fun tabOk (n := 98) (rs := [.tmp 8]) Try.func11 rfl rfl rfl rfl (Nat.le_of_ble_eq_true rfl) ?_
  intro c hnt hk
  have hwb := within_between addr (lo := 0) (hi := 246) (by decide)
  refine w_seq ?_
  refine w_R ?_
  refine r_op tabOk hnt rfl (s_assign rfl ?_) 
  refine r_end ?_
  refine q_then ?_
  refine w_seq ?_
  refine W_drawn tabOk mixed hnt [[], [0], [0, 1], [], [], [], [5], [5, 6], [4, 5, 6, 7], [0, 1, 3, 4, 5, 6, 7, 8], [0, 1, 2, 3, 4, 5, 6, 7, 8, 9], [0, 1, 2, 3, 4, 5, 6, 7, 8, 9, 10], [0, 1, 2, 3, 4, 5, 6, 7, 8, 9, 10, 11], [0, 1, 2, 3, 4, 5, 6, 7, 8, 9, 10, 11], [0, 1, 2, 3, 4, 5, 6, 7, 8, 9, 10, 11, 12], [0, 1, 2, 3, 4, 5, 6, 7, 8, 9, 10, 11, 12, 13, 14]] (by kernel_rfl) ?_
  refine d_op ?_
  refine x_run0 [(0, pI addr)] [] rfl rfl rfl rfl (s_move rfl ⟨rfl, rfl, rfl⟩) ?_
  refine d_op ?_
  refine x_run0 [(18, pI addr)] [0] rfl rfl rfl rfl (s_callF rfl rfl rfl (w_burgagebook_Within addr 0 246 (by first | omega | assumption | (simp; omega) | decide | (simp; done))) rfl ⟨rfl, rfl, rfl⟩) ?_
  refine d_op ?_
  refine x_run0 [(19, pI (within addr 0 246))] [0, 1] rfl rfl rfl rfl (s_addi (r := 1 + (within addr 0 246)) rfl rfl rfl (by omega) ⟨rfl, rfl, rfl⟩) ?_
  refine d_op ?_
  refine x_run [] [] [] [] [(0, oB true 1 enc8 ([3] : List UInt8))] [(0, oB true 1 enc8 ([3] : List UInt8))] [(0, oB true 1 enc8 ([3] : List UInt8))] rfl rfl rfl rfl rfl rfl (s_mkM (f := enc8) ([3] : List UInt8) tab_41 rfl tab_5 ⟨rfl, by decide⟩ (by decide) rfl rfl rfl rfl ⟨rfl, rfl, rfl⟩) rfl trivial rfl rfl ?_
  refine d_op ?_
  refine x_run0 [(1, pS 1 cl_p enc8 p)] [] rfl rfl rfl rfl (s_move rfl ⟨rfl, rfl, rfl⟩) ?_
  refine d_op ?_
  refine x_run0 [(1, pS 1 cl_p enc8 p)] [] rfl rfl rfl rfl (s_move rfl ⟨rfl, rfl, rfl⟩) ?_
  refine d_op ?_
  refine x_run0 [(23, pS 1 cl_p enc8 p)] [5] rfl rfl rfl rfl (s_lenM (l := p) tab_41 rfl (hM_sl (f := enc8) rfl) ⟨rfl, rfl, rfl⟩) ?_
  refine d_op ?_
  refine x_run0 [(24, pN p.length)] [5, 6] rfl rfl rfl rfl (s_minN (a := p.length) (b := 60) rfl (by omega) (by omega) ⟨rfl, rfl, rfl⟩) ?_
  refine d_op ?_
  refine x_run0 [(22, pS 1 cl_p enc8 p), (25, pN (min p.length 60))] [4, 5, 6, 7] rfl rfl rfl rfl (s_cutM_hi (b := min p.length 60) (f := enc8) (l := p) tab_41 rfl tab_5 ⟨rfl, by decide⟩ rfl (bound_some rfl (by omega)) (by omega) ⟨rfl, rfl, rfl⟩) ?_
  refine d_op ?_
  refine x_run [(21, PV.ref 0 0 none), (26, pS 1 false enc8 (p.take (min p.length 60)))] [0, 1, 3, 4, 5, 6, 7, 8] [] [(0, oB true 1 enc8 ([3] : List UInt8))] [(1, oB true 1 enc8 (([3] : List UInt8) ++ (p.take (min p.length 60))))] [(1, oB true 1 enc8 (([3] : List UInt8) ++ (p.take (min p.length 60))))] [(1, oB true 1 enc8 (([3] : List UInt8) ++ (p.take (min p.length 60))))] rfl rfl rfl rfl rfl rfl (s_appR0 (f := enc8) (l := ([3] : List UInt8)) (xs := p.take (min p.length 60)) tab_41 rfl tab_5 ⟨rfl, by decide, by decide⟩ (srcM tab_41 rfl (hM_sl (f := enc8) rfl)) rfl rfl (by first | omega | (simp; omega)) ⟨rfl, rfl, rfl⟩) rfl trivial rfl rfl ?_
  refine d_op ?_
  refine x_run [(20, pI (1 + (within addr 0 246))), (27, PV.ref 1 0 none)] [0, 1, 2, 3, 4, 5, 6, 7, 8, 9] [] [(1, oB true 1 enc8 (([3] : List UInt8) ++ (p.take (min p.length 60))))] [(1, oB false 1 enc8 (([3] : List UInt8) ++ (p.take (min p.length 60))))] [(1, oB false 1 enc8 (([3] : List UInt8) ++ (p.take (min p.length 60))))] [(1, oB false 1 enc8 (([3] : List UInt8) ++ (p.take (min p.length 60))))] rfl rfl rfl rfl rfl rfl (s_callX (r2 := PV.tup [pS 1 false enc8 (frameV (1 + (within addr 0 246)) (([3] : List UInt8) ++ (p.take (min p.length 60)))), pI (frameE (1 + (within addr 0 246)) (([3] : List UInt8) ++ (p.take (min p.length 60))))]) (nx1 := 2) (H2 := [(1, oB false 1 enc8 (([3] : List UInt8) ++ (p.take (min p.length 60))))]) (H3 := [(1, oB false 1 enc8 (([3] : List UInt8) ++ (p.take (min p.length 60))))]) [] [] rfl rfl rfl (handed_of (by decide) trivial) rfl rfl rfl rfl rfl rfl (w_rtu_Frame (1 + (within addr 0 246)) (([3] : List UInt8) ++ (p.take (min p.length 60))) false (by first | omega | assumption | (simp; omega) | decide | (simp; done))) rfl (dist_of rfl) rfl rfl rfl rfl ⟨rfl, rfl, rfl⟩) rfl trivial rfl rfl ?_
  refine d_op ?_
  refine x_run0 [(28, PV.tup [pS 1 false enc8 (frameV (1 + (within addr 0 246)) (([3] : List UInt8) ++ (p.take (min p.length 60)))), pI (frameE (1 + (within addr 0 246)) (([3] : List UInt8) ++ (p.take (min p.length 60))))])] [0, 1, 2, 3, 4, 5, 6, 7, 8, 9, 10] rfl rfl rfl rfl (s_move rfl ⟨rfl, rfl, rfl⟩) ?_
  refine d_op ?_
  refine x_run0 [(17, PV.tup [pS 1 false enc8 (frameV (1 + (within addr 0 246)) (([3] : List UInt8) ++ (p.take (min p.length 60)))), pI (frameE (1 + (within addr 0 246)) (([3] : List UInt8) ++ (p.take (min p.length 60))))])] [0, 1, 2, 3, 4, 5, 6, 7, 8, 9, 10, 11] rfl rfl rfl rfl (s_extract rfl rfl ⟨rfl, rfl, rfl⟩) ?_
  refine d_op ?_
  refine x_run0 [(17, PV.tup [pS 1 false enc8 (frameV (1 + (within addr 0 246)) (([3] : List UInt8) ++ (p.take (min p.length 60)))), pI (frameE (1 + (within addr 0 246)) (([3] : List UInt8) ++ (p.take (min p.length 60))))])] [0, 1, 2, 3, 4, 5, 6, 7, 8, 9, 10, 11] rfl rfl rfl rfl (s_extract rfl rfl ⟨rfl, rfl, rfl⟩) ?_
  refine d_op ?_
  refine x_run0 [(29, pS 1 false enc8 (frameV (1 + (within addr 0 246)) (([3] : List UInt8) ++ (p.take (min p.length 60)))))] [0, 1, 2, 3, 4, 5, 6, 7, 8, 9, 10, 11, 12] rfl rfl rfl rfl (s_assign rfl ⟨rfl, rfl, rfl⟩) ?_
  refine d_op ?_
  refine x_run0 [(30, pI (frameE (1 + (within addr 0 246)) (([3] : List UInt8) ++ (p.take (min p.length 60)))))] [0, 1, 2, 3, 4, 5, 6, 7, 8, 9, 10, 11, 12, 13, 14] rfl rfl rfl rfl (s_assign rfl ⟨rfl, rfl, rfl⟩) ?_
  refine d_end ⟨by kernel_rfl, ?_⟩
  refine q_then ?_
  refine w_seq ?_
  refine w_seq ?_
  obtain ⟨q, hq⟩ : ∃ z, z = [3] ++ p.take (min p.length 60) := ⟨_, rfl⟩
  have hql : 1 ≤ q.length ∧ q.length ≤ 61 := by rw [hq]; simp; omega
  have hfo := frame_of (a := 1 + within addr 0 246) (p := q) (by omega) (by omega)
  have hrf := read_frame (a := 1 + within addr 0 246) (p := q) (by omega) (by omega)
  obtain ⟨F, hF⟩ : ∃ z, z = sealL (u8I (1 + within addr 0 246) :: q) := ⟨_, rfl⟩
  have hFl : F.length = q.length + 3 := by rw [hF, sealL_length]; simp
  refine w_eq (s := 9) (y := pS 1 false enc8 F) rfl (congrArg (fun z => pS 1 false enc8 z) (show (frameV (1 + (within addr 0 246)) (([3] : List UInt8) ++ (p.take (min p.length 60)))) = F by rw [hF, ← hfo.2, hq])) ?_
  refine w_eq (s := 10) (y := pI 0) rfl (congrArg (fun z : Int => pI z) (show (frameE (1 + (within addr 0 246)) (([3] : List UInt8) ++ (p.take (min p.length 60)))) = 0 by rw [← hq]; exact hfo.1)) ?_
  refine w_R ?_
  refine r_op tabOk hnt rfl (s_move rfl ?_) 
  refine r_op tabOk hnt rfl (s_neq rfl rfl ?_) 
  refine r_op tabOk hnt rfl (s_move rfl ?_) 
  refine r_if tabOk hnt rfl rfl rfl (fun g1 => ?_) (fun g1 => ?_)
  ·
    have g1' := g1
    try simp only [decide_eq_true_eq, decide_eq_false_iff_not, Bool.not_eq_true', Bool.not_eq_false', Bool.not_true, Bool.not_false, Bool.not_eq_eq_eq_not, Int.not_lt, Int.not_le] at g1'
    refine r_op tabOk hnt rfl (s_move rfl ?_) 
    refine r_if tabOk hnt rfl rfl rfl (fun _ => ?_) (fun e => absurd (e.symm.trans g1) (by decide))
    refine r_op tabOk hnt rfl (s_lenM (l := F) tab_41 rfl (hM_sl (f := enc8) rfl) ?_) 
    refine r_if tabOk hnt rfl rfl rfl (fun _ => ?_) (fun e => absurd (e.symm.trans g1) (by decide))
    refine r_op tabOk hnt rfl (s_eql rfl rfl ?_) 
    refine r_op tabOk hnt rfl (s_pick_f rfl g1 rfl ?_) 
    refine r_end ?_
    refine q_then ?_
    refine w_if rfl (fun c1 => ?_) (fun c1 => ?_)
    ·
      have c1_ := c1
      exact absurd c1 (by exact not_dec2 (by omega))
    ·
      have c1_ := c1
      try simp only [decide_eq_true_eq, decide_eq_false_iff_not, Bool.not_eq_true', Bool.not_eq_false', Bool.not_true, Bool.not_false, Bool.not_eq_eq_eq_not, Int.not_lt, Int.not_le] at c1
      refine w_skip ?_
      refine q_then ?_
      refine w_seq ?_
      refine w_R ?_
      refine r_op tabOk hnt rfl (s_move rfl ?_) 
      refine r_op tabOk hnt rfl (s_move rfl ?_) 
      refine r_op tabOk hnt rfl (s_lenM (l := F) tab_41 rfl (hM_sl (f := enc8) rfl) ?_) 
      refine r_op tabOk hnt rfl (s_mulN (a := 8) (b := F.length) rfl rfl (by omega) (by omega) (by omega) ?_) 
      refine r_op tabOk hnt rfl (s_subN (a := 8 * F.length) (b := 1) rfl rfl (by omega) (by omega) (by omega) ?_) 
      refine r_op tabOk hnt rfl (s_callF rfl rfl rfl (w_burgagebook_Within n 0 ((8 * F.length - 1 : Nat) : Int) (by first | omega | assumption | (simp; omega) | decide | (simp; done))) rfl ?_) 
      refine r_op tabOk hnt rfl (s_assign rfl ?_) 
      refine r_set [(3, p16 turn), (9, pS 1 false enc8 F), (11, pI (within n 0 ((8 * F.length - 1 : Nat) : Int)))] [(1, oB false 1 enc8 (([3] : List UInt8) ++ (p.take (min p.length 60))))] 2 ⟨rfl, rfl, rfl, trivial⟩ rfl rfl ?_
      refine r_end ?_
      refine q_then ?_
      refine w_seq ?_
      have hwk := within_between n (lo := 0) (hi := ((8 * F.length - 1 : Nat) : Int)) (by omega)
      obtain ⟨kk, hkk⟩ : ∃ k : Nat, within n 0 (((8 * F.length - 1 : Nat) : Int)) = (k : Int) := ⟨_, (within_nat n (hi := ((8 * F.length - 1 : Nat) : Int)) (by omega)).symm⟩
      refine w_eq (s := 11) (y := pN kk) rfl (congrArg (fun z : Int => pI z) (show (within n 0 ((8 * F.length - 1 : Nat) : Int)) = ((kk : Nat) : Int) by exact hkk)) ?_
      refine w_R ?_
      refine r_op tabOk hnt rfl (s_mkM (f := enc8) ([] : List UInt8) tab_41 rfl tab_5 ⟨rfl, by decide⟩ (by decide) rfl rfl rfl rfl ?_) 
      refine r_op tabOk hnt rfl (s_move rfl ?_) 
      refine r_op tabOk hnt rfl (s_appR0 (f := enc8) (l := ([] : List UInt8)) (xs := F) tab_41 rfl tab_5 ⟨rfl, by decide, by decide⟩ (srcM tab_41 rfl (hM_sl (f := enc8) rfl)) rfl rfl (by first | omega | (simp; omega)) ?_) 
      refine r_op tabOk hnt rfl (s_assign rfl ?_) 
      refine r_set [(3, p16 turn), (9, pS 1 false enc8 F), (11, pN kk), (12, PV.ref 3 0 none)] [(3, oB true 1 enc8 F), (1, oB false 1 enc8 (([3] : List UInt8) ++ (p.take (min p.length 60))))] 4 ⟨rfl, rfl, rfl, rfl, trivial⟩ rfl rfl ?_
      refine r_end ?_
      refine q_then ?_
      refine w_seq ?_
      refine w_seq ?_
      refine w_R ?_
      refine r_op tabOk hnt rfl (s_assign rfl ?_) 
      refine r_end ?_
      refine q_then ?_
      refine w_block ?_
      refine loop2 (fun (z : List UInt8) (i : Nat) => i ≤ 16 ∧ Turned F z kk turn i) (fun (z : List UInt8) (i : Nat) => [(3, p16 turn), (9, pS 1 false enc8 F), (11, pN kk), (12, PV.ref 0 0 none), (13, pN i)]) 1 (fun (z : List UInt8) (i : Nat) => [(0, oB true 1 enc8 z)]) (fun (z : List UInt8) (i : Nat) => 16 - i) (F) (0) ?_ ⟨[(0, 3)], by rw [hk]; decide, ⟨⟨_, rfl, rfl, rfl⟩, ⟨_, rfl, rfl, rfl⟩, ⟨_, rfl, rfl, rfl⟩, ⟨_, rfl, rfl, rfl⟩, ⟨_, rfl, rfl, rfl⟩, trivial⟩, ⟨⟨_, _, rfl, rfl, rfl, rfl⟩, trivial⟩, by rw [hk]; decide⟩ ?_
      · exact ⟨by omega, Turned.zero F kk turn⟩
      ·
        intro z i hI
        obtain ⟨hi, hI⟩ := hI
        have hzl := hI.1
        refine w_seq ?_
        refine w_seq ?_
        refine w_R ?_
        refine r_op tabOk hnt rfl (s_move rfl ?_) 
        refine r_op tabOk hnt rfl (s_lss rfl rfl ?_) 
        refine r_op tabOk hnt rfl (s_move rfl ?_) 
        refine r_if tabOk hnt rfl rfl rfl (fun g2 => ?_) (fun g2 => ?_)
        ·
          have g2' := g2
          try simp only [decide_eq_true_eq, decide_eq_false_iff_not, Bool.not_eq_true', Bool.not_eq_false', Bool.not_true, Bool.not_false, Bool.not_eq_eq_eq_not, Int.not_lt, Int.not_le] at g2'
          refine r_op tabOk hnt rfl (s_move rfl ?_) 
          refine r_if tabOk hnt rfl rfl rfl (fun _ => ?_) (fun e => absurd (e.symm.trans g2) (by decide))
          refine r_op tabOk hnt rfl (s_move rfl ?_) 
          refine r_if tabOk hnt rfl rfl rfl (fun _ => ?_) (fun e => absurd (e.symm.trans g2) (by decide))
          refine r_op tabOk hnt rfl (s_addN (a := kk) (b := i) rfl rfl (by omega) (by omega) (by omega) ?_) 
          refine r_if tabOk hnt rfl rfl rfl (fun _ => ?_) (fun e => absurd (e.symm.trans g2) (by decide))
          refine r_op tabOk hnt rfl (s_move rfl ?_) 
          refine r_if tabOk hnt rfl rfl rfl (fun _ => ?_) (fun e => absurd (e.symm.trans g2) (by decide))
          refine r_op tabOk hnt rfl (s_lenM (l := z) tab_41 rfl (hM_ref0 (f := enc8) rfl rfl) ?_) 
          refine r_if tabOk hnt rfl rfl rfl (fun _ => ?_) (fun e => absurd (e.symm.trans g2) (by decide))
          refine r_op tabOk hnt rfl (s_mulN (a := 8) (b := z.length) rfl rfl (by omega) (by omega) (by omega) ?_) 
          refine r_if tabOk hnt rfl rfl rfl (fun _ => ?_) (fun e => absurd (e.symm.trans g2) (by decide))
          refine r_op tabOk hnt rfl (s_lss rfl rfl ?_) 
          refine r_op tabOk hnt rfl (s_pick_t rfl g2 rfl ?_) 
          refine r_end ?_
          refine q_then ?_
          refine w_if rfl (fun c2 => ?_) (fun c2 => ?_)
          ·
            have c2_ := c2
            try simp only [decide_eq_true_eq, decide_eq_false_iff_not, Bool.not_eq_true', Bool.not_eq_false', Bool.not_true, Bool.not_false, Bool.not_eq_eq_eq_not, Int.not_lt, Int.not_le] at c2
            refine w_skip ?_
            refine q_then ?_
            refine w_seq ?_
            refine w_block ?_
            refine w_seq ?_
            refine w_R ?_
            refine r_op tabOk hnt rfl (s_move rfl ?_) 
            refine r_op tabOk hnt rfl (s_move rfl ?_) 
            refine r_op tabOk hnt rfl (s_cvK tab_3 tab_65 rfl rfl rfl rfl (by exact ⟨by omega, by show _ < (18446744073709551616 : Int); omega⟩) ?_) 
            refine r_op tabOk hnt rfl (s_shr16 (a := turn) i rfl rfl (by first | decide | omega) ?_) 
            refine r_op tabOk hnt rfl (s_and16 (a := turn >>> UInt16.ofNat i) (b := 1) rfl rfl ?_) 
            refine r_op tabOk hnt rfl (s_eql16 (a := (turn >>> UInt16.ofNat i) &&& 1) (b := 1) rfl rfl ?_) 
            refine r_end ?_
            refine q_then ?_
            refine w_if rfl (fun c3 => ?_) (fun c3 => ?_)
            ·
              have c3_ := c3
              try simp only [decide_eq_true_eq, decide_eq_false_iff_not, Bool.not_eq_true', Bool.not_eq_false', Bool.not_true, Bool.not_false, Bool.not_eq_eq_eq_not, Int.not_lt, Int.not_le] at c3
              refine w_R ?_
              refine r_op tabOk hnt rfl (s_move rfl ?_) 
              refine r_op tabOk hnt rfl (s_move rfl ?_) 
              refine r_op tabOk hnt rfl (s_move rfl ?_) 
              refine r_op tabOk hnt rfl (s_addN (a := kk) (b := i) rfl rfl (by omega) (by omega) (by omega) ?_) 
              refine r_op tabOk hnt rfl (s_quoN (a := kk + i) (b := 8) rfl rfl (by omega) (by omega) (by omega) ?_) 
              refine r_op tabOk hnt rfl (s_iaR0 (q := (kk + i) / 8) (f := enc8) (l := z) tab_41 rfl tab_5 rfl rfl (by omega) rfl rfl (by omega) ?_) 
              obtain ⟨e1, he1⟩ := get_of_lt z (i := (kk + i) / 8) (by omega)
              refine r_op tabOk hnt rfl (s_ldM (b := e1) (f := enc8) tab_5 rfl rfl rfl rfl he1 rfl ?_) 
              refine r_op tabOk hnt rfl (s_move rfl ?_) 
              refine r_op tabOk hnt rfl (s_move rfl ?_) 
              refine r_op tabOk hnt rfl (s_addN (a := kk) (b := i) rfl rfl (by omega) (by omega) (by omega) ?_) 
              refine r_op tabOk hnt rfl (s_remN (a := kk + i) (b := 8) rfl rfl (by omega) (by omega) (by omega) ?_) 
              refine r_op tabOk hnt rfl (s_cvK tab_3 tab_65 rfl rfl rfl rfl (by exact ⟨by omega, by show _ < (18446744073709551616 : Int); omega⟩) ?_) 
              refine r_op tabOk hnt rfl (s_shl8 (a := 1) ((kk + i) % 8) rfl rfl (by first | rfl | omega) (by first | decide | omega) ?_) 
              refine r_op tabOk hnt rfl (s_xor8 (a := e1) (b := 1 <<< UInt8.ofNat ((kk + i) % 8)) rfl rfl ?_) 
              refine r_op tabOk hnt rfl (s_iaR0 (q := (kk + i) / 8) (f := enc8) (l := z) tab_41 rfl tab_5 rfl rfl (by omega) rfl rfl (by omega) ?_) 
              refine r_op tabOk hnt rfl (s_stM (y0 := e1) (z := e1 ^^^ (1 <<< UInt8.ofNat ((kk + i) % 8))) (f := enc8) tab_5 rfl rfl rfl rfl rfl he1 (Nat.le_of_ble_eq_true rfl) rfl rfl (by simp) rfl ?_) 
              refine r_set [(3, p16 turn), (9, pS 1 false enc8 F), (11, pN kk), (12, PV.ref 0 0 none), (13, pN i), (50, pN kk), (51, pN i), (52, pN (kk + i)), (53, PV.ref 0 0 none), (54, pN z.length), (55, pN (8 * z.length)), (56, pB (decide (((kk + i : Nat) : Int) < ((8 * z.length : Nat) : Int))))] [(0, oB true 1 enc8 (z.set ((kk + i) / 8) (e1 ^^^ (1 <<< UInt8.ofNat ((kk + i) % 8)))))] 1 ⟨rfl, rfl, rfl, rfl, rfl, rfl, rfl, rfl, rfl, rfl, rfl, rfl, trivial⟩ rfl rfl ?_
              refine r_end ?_
              refine q_block ?_
              refine q_then ?_
              refine w_R ?_
              refine r_op tabOk hnt rfl (s_move rfl ?_) 
              refine r_op tabOk hnt rfl (s_addN (a := i) (b := 1) rfl rfl (by omega) (by omega) (by omega) ?_) 
              refine r_op tabOk hnt rfl (s_assign rfl ?_) 
              refine r_end ?_
              refine q_then ?_
              refine ⟨(z.set ((kk + i) / 8) (e1 ^^^ (1 <<< UInt8.ofNat ((kk + i) % 8)))), (i + 1), ?_, ?_, ⟨[(0, 0)], by rw [hk]; decide, ⟨⟨_, rfl, rfl, rfl⟩, ⟨_, rfl, rfl, rfl⟩, ⟨_, rfl, rfl, rfl⟩, ⟨_, rfl, rfl, rfl⟩, ⟨_, rfl, rfl, rfl⟩, trivial⟩, ⟨⟨_, _, rfl, rfl, rfl, rfl⟩, trivial⟩, by rw [hk]; decide⟩⟩
              ·
                refine ⟨by omega, ?_⟩
                first | exact hI.yes (by assumption) he1 | exact hI.no (by assumption)
              · omega
            ·
              have c3_ := c3
              try simp only [decide_eq_true_eq, decide_eq_false_iff_not, Bool.not_eq_true', Bool.not_eq_false', Bool.not_true, Bool.not_false, Bool.not_eq_eq_eq_not, Int.not_lt, Int.not_le] at c3
              refine w_skip ?_
              refine q_block ?_
              refine q_then ?_
              refine w_R ?_
              refine r_op tabOk hnt rfl (s_move rfl ?_) 
              refine r_op tabOk hnt rfl (s_addN (a := i) (b := 1) rfl rfl (by omega) (by omega) (by omega) ?_) 
              refine r_op tabOk hnt rfl (s_assign rfl ?_) 
              refine r_end ?_
              refine q_then ?_
              refine ⟨(z), (i + 1), ?_, ?_, ⟨[(0, 0)], by rw [hk]; decide, ⟨⟨_, rfl, rfl, rfl⟩, ⟨_, rfl, rfl, rfl⟩, ⟨_, rfl, rfl, rfl⟩, ⟨_, rfl, rfl, rfl⟩, ⟨_, rfl, rfl, rfl⟩, trivial⟩, ⟨⟨_, _, rfl, rfl, rfl, rfl⟩, trivial⟩, by rw [hk]; decide⟩⟩
              ·
                refine ⟨by omega, ?_⟩
                first | exact hI.yes (by assumption) he1 | exact hI.no (by assumption)
              · omega
          ·
            have c2_ := c2
            try simp only [decide_eq_true_eq, decide_eq_false_iff_not, Bool.not_eq_true', Bool.not_eq_false', Bool.not_true, Bool.not_false, Bool.not_eq_eq_eq_not, Int.not_lt, Int.not_le] at c2
            refine w_exit ?_
            refine q_then_exit ?_
            refine q_then_exit ?_
            refine q_block_exit ?_
            refine q_then ?_
            refine w_seq ?_
            have h16 : Turned F z kk turn 16 := by first | exact hI.cut (by have := hI.1; omega) (by omega) | (obtain rfl : i = 16 := (by omega); exact hI)
            have hbr := burst_read (a := 1 + within addr 0 246) (p := q) (by omega) (by omega) (by rw [← hF]; exact h16) (by rw [← hF]; omega)
            rw [← hF] at hbr
            refine w_R ?_
            refine r_op tabOk hnt rfl (s_move rfl ?_) 
            refine r_op tabOk hnt rfl (s_callX (r2 := PV.tup [pI (readA z), pS 1 false enc8 (readP z), pI (readE z)]) (nx1 := 1) (H2 := [(0, oB false 1 enc8 z)]) (H3 := [(0, oB false 1 enc8 z)]) [] [] rfl rfl rfl (handed_of (by decide) trivial) rfl rfl rfl rfl rfl rfl (w_rtu_Read z false (by first | omega | assumption | (simp; omega) | decide | (simp; done))) rfl (dist_of rfl) rfl rfl rfl rfl ?_) 
            refine r_op tabOk hnt rfl (s_move rfl ?_) 
            refine r_op tabOk hnt rfl (s_extract rfl rfl ?_) 
            refine r_op tabOk hnt rfl (s_extract rfl rfl ?_) 
            refine r_op tabOk hnt rfl (s_extract rfl rfl ?_) 
            refine r_op tabOk hnt rfl (s_assign rfl ?_) 
            refine r_op tabOk hnt rfl (s_assign rfl ?_) 
            refine r_op tabOk hnt rfl (s_assign rfl ?_) 
            refine r_set [(9, pS 1 false enc8 F), (12, PV.ref 0 0 none), (16, pI (readE z))] [(0, oB false 1 enc8 z)] 1 ⟨rfl, rfl, rfl, trivial⟩ rfl rfl ?_
            refine r_end ?_
            refine q_then ?_
            refine w_seq ?_
            refine w_R ?_
            refine r_op tabOk hnt rfl (s_move rfl ?_) 
            refine r_op tabOk hnt rfl (s_eql rfl rfl ?_) 
            refine r_op tabOk hnt rfl (s_move rfl ?_) 
            refine r_op tabOk hnt rfl (s_cvT tab_41 tab_9 rfl tab_5 rfl rfl (hM_ref0 (f := enc8) rfl rfl) ?_) 
            refine r_op tabOk hnt rfl (s_move rfl ?_) 
            refine r_op tabOk hnt rfl (s_cvT tab_41 tab_9 rfl tab_5 rfl rfl (hM_sl (f := enc8) rfl) ?_) 
            refine r_op tabOk hnt rfl (s_eqtext (l := z) (m := F) rfl rfl ?_) 
            refine r_op tabOk hnt rfl (s_eqbool tab_4 rfl rfl rfl ?_) 
            refine r_op tabOk hnt rfl (s_move rfl ?_) 
            refine r_if tabOk hnt rfl rfl rfl (fun g3 => ?_) (fun g3 => ?_)
            ·
              have g3' := g3
              try simp only [decide_eq_true_eq, decide_eq_false_iff_not, Bool.not_eq_true', Bool.not_eq_false', Bool.not_true, Bool.not_false, Bool.not_eq_eq_eq_not, Int.not_lt, Int.not_le] at g3'
              refine r_op tabOk hnt rfl (s_callF rfl rfl rfl (w_burgagelaw5_known) rfl ?_) 
              refine r_op tabOk hnt rfl (s_pick_t rfl g3 rfl ?_) 
              refine r_op tabOk hnt rfl (s_assign rfl ?_) 
              refine r_end ?_
              refine q_then ?_
              refine w_ret ?_
              exact fin_plain (ret_tmp rfl ret_nil) rfl rfl ⟨rfl, rfl, rfl⟩
            ·
              exact absurd g3 (by exact not_deq hbr)
        ·
          have g2' := g2
          try simp only [decide_eq_true_eq, decide_eq_false_iff_not, Bool.not_eq_true', Bool.not_eq_false', Bool.not_true, Bool.not_false, Bool.not_eq_eq_eq_not, Int.not_lt, Int.not_le] at g2'
          refine r_if tabOk hnt rfl rfl rfl (fun e => absurd (e.symm.trans g2) (by decide)) (fun _ => ?_)
          refine r_if tabOk hnt rfl rfl rfl (fun e => absurd (e.symm.trans g2) (by decide)) (fun _ => ?_)
          refine r_if tabOk hnt rfl rfl rfl (fun e => absurd (e.symm.trans g2) (by decide)) (fun _ => ?_)
          refine r_if tabOk hnt rfl rfl rfl (fun e => absurd (e.symm.trans g2) (by decide)) (fun _ => ?_)
          refine r_if tabOk hnt rfl rfl rfl (fun e => absurd (e.symm.trans g2) (by decide)) (fun _ => ?_)
          refine r_if tabOk hnt rfl rfl rfl (fun e => absurd (e.symm.trans g2) (by decide)) (fun _ => ?_)
          refine r_op tabOk hnt rfl (s_pick_f rfl g2 rfl ?_) 
          refine r_end ?_
          refine q_then ?_
          refine w_if rfl (fun e => absurd e (by decide)) (fun _ => ?_)
          refine w_exit ?_
          refine q_then_exit ?_
          refine q_then_exit ?_
          refine q_block_exit ?_
          refine q_then ?_
          refine w_seq ?_
          have h16 : Turned F z kk turn 16 := by first | exact hI.cut (by have := hI.1; omega) (by omega) | (obtain rfl : i = 16 := (by omega); exact hI)
          have hbr := burst_read (a := 1 + within addr 0 246) (p := q) (by omega) (by omega) (by rw [← hF]; exact h16) (by rw [← hF]; omega)
          rw [← hF] at hbr
          refine w_R ?_
          refine r_op tabOk hnt rfl (s_move rfl ?_) 
          refine r_op tabOk hnt rfl (s_callX (r2 := PV.tup [pI (readA z), pS 1 false enc8 (readP z), pI (readE z)]) (nx1 := 1) (H2 := [(0, oB false 1 enc8 z)]) (H3 := [(0, oB false 1 enc8 z)]) [] [] rfl rfl rfl (handed_of (by decide) trivial) rfl rfl rfl rfl rfl rfl (w_rtu_Read z false (by first | omega | assumption | (simp; omega) | decide | (simp; done))) rfl (dist_of rfl) rfl rfl rfl rfl ?_) 
          refine r_op tabOk hnt rfl (s_move rfl ?_) 
          refine r_op tabOk hnt rfl (s_extract rfl rfl ?_) 
          refine r_op tabOk hnt rfl (s_extract rfl rfl ?_) 
          refine r_op tabOk hnt rfl (s_extract rfl rfl ?_) 
          refine r_op tabOk hnt rfl (s_assign rfl ?_) 
          refine r_op tabOk hnt rfl (s_assign rfl ?_) 
          refine r_op tabOk hnt rfl (s_assign rfl ?_) 
          refine r_set [(9, pS 1 false enc8 F), (12, PV.ref 0 0 none), (16, pI (readE z))] [(0, oB false 1 enc8 z)] 1 ⟨rfl, rfl, rfl, trivial⟩ rfl rfl ?_
          refine r_end ?_
          refine q_then ?_
          refine w_seq ?_
          refine w_R ?_
          refine r_op tabOk hnt rfl (s_move rfl ?_) 
          refine r_op tabOk hnt rfl (s_eql rfl rfl ?_) 
          refine r_op tabOk hnt rfl (s_move rfl ?_) 
          refine r_op tabOk hnt rfl (s_cvT tab_41 tab_9 rfl tab_5 rfl rfl (hM_ref0 (f := enc8) rfl rfl) ?_) 
          refine r_op tabOk hnt rfl (s_move rfl ?_) 
          refine r_op tabOk hnt rfl (s_cvT tab_41 tab_9 rfl tab_5 rfl rfl (hM_sl (f := enc8) rfl) ?_) 
          refine r_op tabOk hnt rfl (s_eqtext (l := z) (m := F) rfl rfl ?_) 
          refine r_op tabOk hnt rfl (s_eqbool tab_4 rfl rfl rfl ?_) 
          refine r_op tabOk hnt rfl (s_move rfl ?_) 
          refine r_if tabOk hnt rfl rfl rfl (fun g4 => ?_) (fun g4 => ?_)
          ·
            have g4' := g4
            try simp only [decide_eq_true_eq, decide_eq_false_iff_not, Bool.not_eq_true', Bool.not_eq_false', Bool.not_true, Bool.not_false, Bool.not_eq_eq_eq_not, Int.not_lt, Int.not_le] at g4'
            refine r_op tabOk hnt rfl (s_callF rfl rfl rfl (w_burgagelaw5_known) rfl ?_) 
            refine r_op tabOk hnt rfl (s_pick_t rfl g4 rfl ?_) 
            refine r_op tabOk hnt rfl (s_assign rfl ?_) 
            refine r_end ?_
            refine q_then ?_
            refine w_ret ?_
            exact fin_plain (ret_tmp rfl ret_nil) rfl rfl ⟨rfl, rfl, rfl⟩
          ·
            exact absurd g4 (by exact not_deq hbr)
  ·
    exact absurd g1 (by simp)

theorem w_burgagelaw5_RtuSpoilt (addr : Int) (p : List UInt8) (cl_p : Bool) (n : Int) (turn : UInt8) (hp : p.length ≤ 140737488351232) (hn : -9223372036854775808 ≤ n ∧ n ≤ 9223372036854775807) (ha : -9223372036854775808 ≤ addr ∧ addr ≤ 9223372036854775807) :
    T Try.prog 10 [pI addr, pS 1 cl_p enc8 p, pI n, p8 turn] 0 [] (Ret (pB true) 0 []) := by
  refine t_fun tabOk (n := 105) (rs := [.tmp 8]) Try.func10 rfl rfl rfl rfl (Nat.le_of_ble_eq_true rfl) ?_
  intro c hnt hk
  have hwb := within_between addr (lo := 0) (hi := 246) (by decide)
  have htd : ((UInt8.toNat (1 + (turn &&& 1)) : Nat) : Int) = 1 ∨ ((UInt8.toNat (1 + (turn &&& 1)) : Nat) : Int) = 2 := one_or_two turn
  refine w_seq ?_
  refine w_R ?_
  refine r_op tabOk hnt rfl (s_assign rfl ?_) 
  refine r_end ?_
  refine q_then ?_
  refine w_seq ?_
  refine w_R ?_
  refine r_op tabOk hnt rfl (s_move rfl ?_) 
  refine r_op tabOk hnt rfl (s_callF rfl rfl rfl (w_burgagebook_Within addr 0 246 (by first | omega | assumption | (simp; omega) | decide | (simp; done))) rfl ?_) 
  refine r_op tabOk hnt rfl (s_addi (r := 1 + (within addr 0 246)) rfl rfl rfl (by omega) ?_) 
  refine r_op tabOk hnt rfl (s_assign rfl ?_) 
  refine r_end ?_
  refine q_then ?_
  refine w_seq ?_
  refine w_R ?_
  refine r_op tabOk hnt rfl (s_move rfl ?_) 
  refine r_op tabOk hnt rfl (s_mkM (f := enc8) ([3] : List UInt8) tab_41 rfl tab_5 ⟨rfl, by decide⟩ (by decide) rfl rfl rfl rfl ?_) 
  refine r_op tabOk hnt rfl (s_move rfl ?_) 
  refine r_op tabOk hnt rfl (s_move rfl ?_) 
  refine r_op tabOk hnt rfl (s_lenM (l := p) tab_41 rfl (hM_sl (f := enc8) rfl) ?_) 
  refine r_op tabOk hnt rfl (s_minN (a := p.length) (b := 100) rfl (by omega) (by omega) ?_) 
  refine r_op tabOk hnt rfl (s_cutM_hi (b := min p.length 100) (f := enc8) (l := p) tab_41 rfl tab_5 ⟨rfl, by decide⟩ rfl (bound_some rfl (by omega)) (by omega) ?_) 
  refine r_op tabOk hnt rfl (s_appR0 (f := enc8) (l := ([3] : List UInt8)) (xs := p.take (min p.length 100)) tab_41 rfl tab_5 ⟨rfl, by decide, by decide⟩ (srcM tab_41 rfl (hM_sl (f := enc8) rfl)) rfl rfl (by first | omega | (simp; omega)) ?_) 
  refine r_op tabOk hnt rfl (s_callX (r2 := PV.tup [pS 1 false enc8 (frameV (1 + (within addr 0 246)) (([3] : List UInt8) ++ (p.take (min p.length 100)))), pI (frameE (1 + (within addr 0 246)) (([3] : List UInt8) ++ (p.take (min p.length 100))))]) (nx1 := 2) (H2 := [(1, oB false 1 enc8 (([3] : List UInt8) ++ (p.take (min p.length 100))))]) (H3 := [(1, oB false 1 enc8 (([3] : List UInt8) ++ (p.take (min p.length 100))))]) [] [] rfl rfl rfl (handed_of (by decide) trivial) rfl rfl rfl rfl rfl rfl (w_rtu_Frame (1 + (within addr 0 246)) (([3] : List UInt8) ++ (p.take (min p.length 100))) false (by first | omega | assumption | (simp; omega) | decide | (simp; done))) rfl (dist_of rfl) rfl rfl rfl rfl ?_) 
  refine r_op tabOk hnt rfl (s_move rfl ?_) 
  refine r_op tabOk hnt rfl (s_extract rfl rfl ?_) 
  refine r_op tabOk hnt rfl (s_extract rfl rfl ?_) 
  refine r_op tabOk hnt rfl (s_assign rfl ?_) 
  refine r_op tabOk hnt rfl (s_assign rfl ?_) 
  refine r_set [(2, pI n), (3, p8 turn), (10, pS 1 false enc8 (frameV (1 + (within addr 0 246)) (([3] : List UInt8) ++ (p.take (min p.length 100))))), (11, pI (frameE (1 + (within addr 0 246)) (([3] : List UInt8) ++ (p.take (min p.length 100)))))] [(1, oB false 1 enc8 (([3] : List UInt8) ++ (p.take (min p.length 100))))] 2 ⟨rfl, rfl, rfl, rfl, trivial⟩ rfl rfl ?_
  refine r_end ?_
  refine q_then ?_
  refine w_seq ?_
  refine w_seq ?_
  obtain ⟨q, hq⟩ : ∃ z, z = [3] ++ p.take (min p.length 100) := ⟨_, rfl⟩
  have hql : 1 ≤ q.length ∧ q.length ≤ 101 := by rw [hq]; simp; omega
  have hfo := frame_of (a := 1 + within addr 0 246) (p := q) (by omega) (by omega)
  have hrf := read_frame (a := 1 + within addr 0 246) (p := q) (by omega) (by omega)
  obtain ⟨F, hF⟩ : ∃ z, z = sealL (u8I (1 + within addr 0 246) :: q) := ⟨_, rfl⟩
  have hFl : F.length = q.length + 3 := by rw [hF, sealL_length]; simp
  refine w_eq (s := 10) (y := pS 1 false enc8 F) rfl (congrArg (fun z => pS 1 false enc8 z) (show (frameV (1 + (within addr 0 246)) (([3] : List UInt8) ++ (p.take (min p.length 100)))) = F by rw [hF, ← hfo.2, hq])) ?_
  refine w_eq (s := 11) (y := pI 0) rfl (congrArg (fun z : Int => pI z) (show (frameE (1 + (within addr 0 246)) (([3] : List UInt8) ++ (p.take (min p.length 100)))) = 0 by rw [← hq]; exact hfo.1)) ?_
  refine w_R ?_
  refine r_op tabOk hnt rfl (s_move rfl ?_) 
  refine r_op tabOk hnt rfl (s_neq rfl rfl ?_) 
  refine r_op tabOk hnt rfl (s_move rfl ?_) 
  refine r_if tabOk hnt rfl rfl rfl (fun g1 => ?_) (fun g1 => ?_)
  ·
    have g1' := g1
    try simp only [decide_eq_true_eq, decide_eq_false_iff_not, Bool.not_eq_true', Bool.not_eq_false', Bool.not_true, Bool.not_false, Bool.not_eq_eq_eq_not, Int.not_lt, Int.not_le] at g1'
    refine r_op tabOk hnt rfl (s_move rfl ?_) 
    refine r_if tabOk hnt rfl rfl rfl (fun _ => ?_) (fun e => absurd (e.symm.trans g1) (by decide))
    refine r_op tabOk hnt rfl (s_lenM (l := F) tab_41 rfl (hM_sl (f := enc8) rfl) ?_) 
    refine r_if tabOk hnt rfl rfl rfl (fun _ => ?_) (fun e => absurd (e.symm.trans g1) (by decide))
    refine r_op tabOk hnt rfl (s_lss rfl rfl ?_) 
    refine r_op tabOk hnt rfl (s_pick_f rfl g1 rfl ?_) 
    refine r_end ?_
    refine q_then ?_
    refine w_if rfl (fun c1 => ?_) (fun c1 => ?_)
    ·
      have c1_ := c1
      exact absurd c1 (by exact not_dec2 (by omega))
    ·
      have c1_ := c1
      try simp only [decide_eq_true_eq, decide_eq_false_iff_not, Bool.not_eq_true', Bool.not_eq_false', Bool.not_true, Bool.not_false, Bool.not_eq_eq_eq_not, Int.not_lt, Int.not_le] at c1
      refine w_skip ?_
      refine q_then ?_
      refine w_seq ?_
      refine w_R ?_
      refine r_op tabOk hnt rfl (s_move rfl ?_) 
      refine r_op tabOk hnt rfl (s_move rfl ?_) 
      refine r_op tabOk hnt rfl (s_lenM (l := F) tab_41 rfl (hM_sl (f := enc8) rfl) ?_) 
      refine r_op tabOk hnt rfl (s_subN (a := F.length) (b := 1) rfl rfl (by omega) (by omega) (by omega) ?_) 
      refine r_op tabOk hnt rfl (s_callF rfl rfl rfl (w_burgagebook_Within n 0 ((F.length - 1 : Nat) : Int) (by first | omega | assumption | (simp; omega) | decide | (simp; done))) rfl ?_) 
      refine r_op tabOk hnt rfl (s_assign rfl ?_) 
      refine r_end ?_
      refine q_then ?_
      refine w_seq ?_
      have hwk := within_between n (lo := 0) (hi := ((F.length - 1 : Nat) : Int)) (by omega)
      obtain ⟨kk, hkk⟩ : ∃ k : Nat, within n 0 (((F.length - 1 : Nat) : Int)) = (k : Int) := ⟨_, (within_nat n (hi := ((F.length - 1 : Nat) : Int)) (by omega)).symm⟩
      refine w_eq (s := 12) (y := pN kk) rfl (congrArg (fun z : Int => pI z) (show (within n 0 ((F.length - 1 : Nat) : Int)) = ((kk : Nat) : Int) by exact hkk)) ?_
      refine w_R ?_
      refine r_op tabOk hnt rfl (s_mkM (f := enc8) ([] : List UInt8) tab_41 rfl tab_5 ⟨rfl, by decide⟩ (by decide) rfl rfl rfl rfl ?_) 
      refine r_op tabOk hnt rfl (s_move rfl ?_) 
      refine r_op tabOk hnt rfl (s_appR0 (f := enc8) (l := ([] : List UInt8)) (xs := F) tab_41 rfl tab_5 ⟨rfl, by decide, by decide⟩ (srcM tab_41 rfl (hM_sl (f := enc8) rfl)) rfl rfl (by first | omega | (simp; omega)) ?_) 
      refine r_op tabOk hnt rfl (s_assign rfl ?_) 
      refine r_set [(3, p8 turn), (10, pS 1 false enc8 F), (12, pN kk), (13, PV.ref 3 0 none)] [(3, oB true 1 enc8 F), (1, oB false 1 enc8 (([3] : List UInt8) ++ (p.take (min p.length 100))))] 4 ⟨rfl, rfl, rfl, rfl, trivial⟩ rfl rfl ?_
      refine r_end ?_
      refine q_then ?_
      refine w_seq ?_
      refine w_R ?_
      refine r_op tabOk hnt rfl (s_move rfl ?_) 
      refine r_op tabOk hnt rfl (s_move rfl ?_) 
      refine r_op tabOk hnt rfl (s_iaR0 (q := kk) (f := enc8) (l := F) tab_41 rfl tab_5 rfl rfl (by omega) rfl rfl (by omega) ?_) 
      obtain ⟨e1, he1⟩ := get_of_lt F (i := kk) (by omega)
      refine r_op tabOk hnt rfl (s_ldM (b := e1) (f := enc8) tab_5 rfl rfl rfl rfl he1 rfl ?_) 
      refine r_op tabOk hnt rfl (s_move rfl ?_) 
      refine r_op tabOk hnt rfl (s_or8 (a := turn) (b := 1) rfl rfl ?_) 
      refine r_op tabOk hnt rfl (s_xor8 (a := e1) (b := turn ||| 1) rfl rfl ?_) 
      refine r_op tabOk hnt rfl (s_iaR0 (q := kk) (f := enc8) (l := F) tab_41 rfl tab_5 rfl rfl (by omega) rfl rfl (by omega) ?_) 
      refine r_op tabOk hnt rfl (s_stM (y0 := e1) (z := e1 ^^^ (turn ||| 1)) (f := enc8) tab_5 rfl rfl rfl rfl rfl he1 (Nat.le_of_ble_eq_true rfl) rfl rfl (by simp) rfl ?_) 
      refine r_set [(3, p8 turn), (10, pS 1 false enc8 F), (12, pN kk), (13, PV.ref 3 0 none)] [(3, oB true 1 enc8 (F.set kk (e1 ^^^ (turn ||| 1)))), (1, oB false 1 enc8 (([3] : List UInt8) ++ (p.take (min p.length 100))))] 4 ⟨rfl, rfl, rfl, rfl, trivial⟩ rfl rfl ?_
      refine r_end ?_
      refine q_then ?_
      refine w_seq ?_
      refine w_R ?_
      refine r_op tabOk hnt rfl (s_move rfl ?_) 
      refine r_op tabOk hnt rfl (s_callX (r2 := PV.tup [pI (readA (F.set kk (e1 ^^^ (turn ||| 1)))), pS 1 false enc8 (readP (F.set kk (e1 ^^^ (turn ||| 1)))), pI (readE (F.set kk (e1 ^^^ (turn ||| 1))))]) (nx1 := 4) (H2 := [(3, oB false 1 enc8 (F.set kk (e1 ^^^ (turn ||| 1)))), (1, oB false 1 enc8 (([3] : List UInt8) ++ (p.take (min p.length 100))))]) (H3 := [(3, oB false 1 enc8 (F.set kk (e1 ^^^ (turn ||| 1)))), (1, oB false 1 enc8 (([3] : List UInt8) ++ (p.take (min p.length 100))))]) [] [] rfl rfl rfl (handed_of (by decide) trivial) rfl rfl rfl rfl rfl rfl (w_rtu_Read (F.set kk (e1 ^^^ (turn ||| 1))) false (by first | omega | assumption | (simp; omega) | decide | (simp; done))) rfl (dist_of rfl) rfl rfl rfl rfl ?_) 
      refine r_op tabOk hnt rfl (s_move rfl ?_) 
      refine r_op tabOk hnt rfl (s_extract rfl rfl ?_) 
      refine r_op tabOk hnt rfl (s_extract rfl rfl ?_) 
      refine r_op tabOk hnt rfl (s_extract rfl rfl ?_) 
      refine r_op tabOk hnt rfl (s_assign rfl ?_) 
      refine r_op tabOk hnt rfl (s_assign rfl ?_) 
      refine r_op tabOk hnt rfl (s_assign rfl ?_) 
      refine r_set [(3, p8 turn), (10, pS 1 false enc8 F), (12, pN kk), (16, pI (readE (F.set kk (e1 ^^^ (turn ||| 1)))))] [(3, oB false 1 enc8 (F.set kk (e1 ^^^ (turn ||| 1)))), (1, oB false 1 enc8 (([3] : List UInt8) ++ (p.take (min p.length 100))))] 4 ⟨rfl, rfl, rfl, rfl, trivial⟩ rfl rfl ?_
      refine r_end ?_
      refine q_then ?_
      refine w_seq ?_
      refine w_R ?_
      refine r_op tabOk hnt rfl (s_assign rfl ?_) 
      refine r_end ?_
      refine q_then ?_
      refine w_seq ?_
      refine w_seq ?_
      refine w_R ?_
      refine r_op tabOk hnt rfl (s_move rfl ?_) 
      refine r_op tabOk hnt rfl (s_lenM (l := F) tab_41 rfl (hM_sl (f := enc8) rfl) ?_) 
      refine r_op tabOk hnt rfl (s_move rfl ?_) 
      refine r_end ?_
      refine q_then ?_
      refine w_block ?_
      refine w_adopt (s := 17) (sz := 1) rfl ?_
      refine loop2 (fun (tm : List Int) (i : Nat) => i ≤ F.length ∧ tm = gapsT kk ((UInt8.toNat (1 + (turn &&& 1)) : Nat) : Int) i) (fun (tm : List Int) (i : Nat) => [(3, p8 turn), (10, pS 1 false enc8 F), (12, pN kk), (16, pI (readE (F.set kk (e1 ^^^ (turn ||| 1))))), (17, PV.ref 0 0 none), (66, pN F.length), (67, pN i)]) 1 (fun (tm : List Int) (i : Nat) => [(0, oB true 1 encI tm)]) (fun (tm : List Int) (i : Nat) => F.length - i) (([] : List Int)) (0) ?_ ⟨[(0, 4)], by rw [hk]; decide, ⟨⟨_, rfl, rfl, rfl⟩, ⟨_, rfl, rfl, rfl⟩, ⟨_, rfl, rfl, rfl⟩, ⟨_, rfl, rfl, rfl⟩, ⟨_, rfl, rfl, rfl⟩, ⟨_, rfl, rfl, rfl⟩, ⟨_, rfl, rfl, rfl⟩, trivial⟩, ⟨⟨_, _, rfl, rfl, rfl, rfl⟩, trivial⟩, by rw [hk]; decide⟩ ?_
      · exact ⟨by omega, rfl⟩
      ·
        intro tm i hI
        obtain ⟨hi, htm⟩ := hI
        have htl : tm.length = i := by rw [htm, gapsT_length]
        refine w_seq ?_
        refine w_R ?_
        refine r_op tabOk hnt rfl (s_lss rfl rfl ?_) 
        refine r_end ?_
        refine q_then ?_
        refine w_seq ?_
        refine w_if rfl (fun c2 => ?_) (fun c2 => ?_)
        ·
          have c2_ := c2
          try simp only [decide_eq_true_eq, decide_eq_false_iff_not, Bool.not_eq_true', Bool.not_eq_false', Bool.not_true, Bool.not_false, Bool.not_eq_eq_eq_not, Int.not_lt, Int.not_le] at c2
          refine w_skip ?_
          refine q_then ?_
          refine w_seq ?_
          refine w_block ?_
          refine w_seq ?_
          refine w_R ?_
          refine r_op tabOk hnt rfl (s_move rfl ?_) 
          refine r_op tabOk hnt rfl (s_assign rfl ?_) 
          refine r_end ?_
          refine q_then ?_
          refine w_seq ?_
          refine w_R ?_
          refine r_op tabOk hnt rfl (s_move rfl ?_) 
          refine r_op tabOk hnt rfl (s_assign rfl ?_) 
          refine r_end ?_
          refine q_then ?_
          refine w_seq ?_
          refine w_seq ?_
          refine w_R ?_
          refine r_op tabOk hnt rfl (s_move rfl ?_) 
          refine r_op tabOk hnt rfl (s_move rfl ?_) 
          refine r_op tabOk hnt rfl (s_geq rfl rfl ?_) 
          refine r_op tabOk hnt rfl (s_move rfl ?_) 
          refine r_if tabOk hnt rfl rfl rfl (fun g2 => ?_) (fun g2 => ?_)
          ·
            have g2' := g2
            try simp only [decide_eq_true_eq, decide_eq_false_iff_not, Bool.not_eq_true', Bool.not_eq_false', Bool.not_true, Bool.not_false, Bool.not_eq_eq_eq_not, Int.not_lt, Int.not_le] at g2'
            refine r_op tabOk hnt rfl (s_move rfl ?_) 
            refine r_if tabOk hnt rfl rfl rfl (fun _ => ?_) (fun e => absurd (e.symm.trans g2) (by decide))
            refine r_op tabOk hnt rfl (s_gtr rfl rfl ?_) 
            refine r_op tabOk hnt rfl (s_pick_t rfl g2 rfl ?_) 
            refine r_end ?_
            refine q_then ?_
            refine w_if rfl (fun c3 => ?_) (fun c3 => ?_)
            ·
              have c3_ := c3
              try simp only [decide_eq_true_eq, decide_eq_false_iff_not, Bool.not_eq_true', Bool.not_eq_false', Bool.not_true, Bool.not_false, Bool.not_eq_eq_eq_not, Int.not_lt, Int.not_le] at c3
              refine w_R ?_
              refine r_op tabOk hnt rfl (s_move rfl ?_) 
              refine r_op tabOk hnt rfl (s_move rfl ?_) 
              refine r_op tabOk hnt rfl (s_and8 (a := turn) (b := 1) rfl rfl ?_) 
              refine r_op tabOk hnt rfl (s_add8 (a := 1) (b := turn &&& 1) rfl rfl ?_) 
              refine r_op tabOk hnt rfl (s_cvN (a := UInt8.toNat (1 + (turn &&& 1))) tab_5 tab_2 rfl rfl rfl (by omega) (by have := lt8 (1 + (turn &&& 1)); omega) ?_) 
              refine r_op tabOk hnt rfl (s_addN (a := i) (b := UInt8.toNat (1 + (turn &&& 1))) rfl rfl (by omega) (by omega) (by have := lt8 (1 + (turn &&& 1)); omega) ?_) 
              refine r_op tabOk hnt rfl (s_assign rfl ?_) 
              refine r_end ?_
              refine q_then ?_
              refine w_R ?_
              refine r_op tabOk hnt rfl (s_move rfl ?_) 
              refine r_op tabOk hnt rfl (s_move rfl ?_) 
              refine r_op tabOk hnt rfl (s_mkM (f := encI) [((i + (UInt8.toNat (1 + (turn &&& 1))) : Nat) : Int)] tab_54 rfl tab_2 ⟨rfl, by decide⟩ (by decide) rfl rfl rfl rfl ?_) 
              refine r_op tabOk hnt rfl (s_appR0 (f := encI) (l := tm) (xs := [((i + (UInt8.toNat (1 + (turn &&& 1))) : Nat) : Int)]) tab_54 rfl tab_2 ⟨rfl, by decide, by decide⟩ (srcM tab_54 rfl (hM_ref0 (f := encI) rfl rfl)) rfl rfl (by first | omega | (simp; omega)) ?_) 
              refine r_op tabOk hnt rfl (s_assign rfl ?_) 
              refine r_set [(3, p8 turn), (10, pS 1 false enc8 F), (12, pN kk), (16, pI (readE (F.set kk (e1 ^^^ (turn ||| 1))))), (17, PV.ref 2 0 none), (66, pN F.length), (67, pN i), (75, pN kk), (76, pB (decide (0 < ((kk : Nat) : Int))))] [(2, oB true 1 encI (tm ++ [((i + (UInt8.toNat (1 + (turn &&& 1))) : Nat) : Int)])), (1, oB true 1 encI [((i + (UInt8.toNat (1 + (turn &&& 1))) : Nat) : Int)])] 3 ⟨rfl, rfl, rfl, rfl, rfl, rfl, rfl, rfl, rfl, trivial⟩ rfl rfl ?_
              refine r_end ?_
              refine q_block ?_
              refine q_then ?_
              refine w_R ?_
              refine r_op tabOk hnt rfl (s_addN (a := i) (b := 1) rfl rfl (by omega) (by omega) (by omega) ?_) 
              refine r_op tabOk hnt rfl (s_move rfl ?_) 
              refine r_end ?_
              refine q_then ?_
              refine ⟨(tm ++ [((i + (UInt8.toNat (1 + (turn &&& 1))) : Nat) : Int)]), (i + 1), ?_, ?_, ⟨[(0, 2)], by rw [hk]; decide, ⟨⟨_, rfl, rfl, rfl⟩, ⟨_, rfl, rfl, rfl⟩, ⟨_, rfl, rfl, rfl⟩, ⟨_, rfl, rfl, rfl⟩, ⟨_, rfl, rfl, rfl⟩, ⟨_, rfl, rfl, rfl⟩, ⟨_, rfl, rfl, rfl⟩, trivial⟩, ⟨⟨_, _, rfl, rfl, rfl, rfl⟩, trivial⟩, by rw [hk]; decide⟩⟩
              ·
                refine ⟨by omega, ?_⟩
                rw [gapsT_snoc, htm]
                first | (rw [if_pos (by omega)]; done) | (rw [if_pos (by omega)]; simp) | (rw [if_neg (by omega)])
              · omega
            ·
              have c3_ := c3
              try simp only [decide_eq_true_eq, decide_eq_false_iff_not, Bool.not_eq_true', Bool.not_eq_false', Bool.not_true, Bool.not_false, Bool.not_eq_eq_eq_not, Int.not_lt, Int.not_le] at c3
              refine w_skip ?_
              refine q_then ?_
              refine w_R ?_
              refine r_op tabOk hnt rfl (s_move rfl ?_) 
              refine r_op tabOk hnt rfl (s_move rfl ?_) 
              refine r_op tabOk hnt rfl (s_mkM (f := encI) [((i : Nat) : Int)] tab_54 rfl tab_2 ⟨rfl, by decide⟩ (by decide) rfl rfl rfl rfl ?_) 
              refine r_op tabOk hnt rfl (s_appR0 (f := encI) (l := tm) (xs := [((i : Nat) : Int)]) tab_54 rfl tab_2 ⟨rfl, by decide, by decide⟩ (srcM tab_54 rfl (hM_ref0 (f := encI) rfl rfl)) rfl rfl (by first | omega | (simp; omega)) ?_) 
              refine r_op tabOk hnt rfl (s_assign rfl ?_) 
              refine r_set [(3, p8 turn), (10, pS 1 false enc8 F), (12, pN kk), (16, pI (readE (F.set kk (e1 ^^^ (turn ||| 1))))), (17, PV.ref 2 0 none), (66, pN F.length), (67, pN i), (75, pN kk), (76, pB (decide (0 < ((kk : Nat) : Int))))] [(2, oB true 1 encI (tm ++ [((i : Nat) : Int)])), (1, oB true 1 encI [((i : Nat) : Int)])] 3 ⟨rfl, rfl, rfl, rfl, rfl, rfl, rfl, rfl, rfl, trivial⟩ rfl rfl ?_
              refine r_end ?_
              refine q_block ?_
              refine q_then ?_
              refine w_R ?_
              refine r_op tabOk hnt rfl (s_addN (a := i) (b := 1) rfl rfl (by omega) (by omega) (by omega) ?_) 
              refine r_op tabOk hnt rfl (s_move rfl ?_) 
              refine r_end ?_
              refine q_then ?_
              refine ⟨(tm ++ [((i : Nat) : Int)]), (i + 1), ?_, ?_, ⟨[(0, 2)], by rw [hk]; decide, ⟨⟨_, rfl, rfl, rfl⟩, ⟨_, rfl, rfl, rfl⟩, ⟨_, rfl, rfl, rfl⟩, ⟨_, rfl, rfl, rfl⟩, ⟨_, rfl, rfl, rfl⟩, ⟨_, rfl, rfl, rfl⟩, ⟨_, rfl, rfl, rfl⟩, trivial⟩, ⟨⟨_, _, rfl, rfl, rfl, rfl⟩, trivial⟩, by rw [hk]; decide⟩⟩
              ·
                refine ⟨by omega, ?_⟩
                rw [gapsT_snoc, htm]
                first | (rw [if_pos (by omega)]; done) | (rw [if_pos (by omega)]; simp) | (rw [if_neg (by omega)])
              · omega
          ·
            have g2' := g2
            try simp only [decide_eq_true_eq, decide_eq_false_iff_not, Bool.not_eq_true', Bool.not_eq_false', Bool.not_true, Bool.not_false, Bool.not_eq_eq_eq_not, Int.not_lt, Int.not_le] at g2'
            refine r_if tabOk hnt rfl rfl rfl (fun e => absurd (e.symm.trans g2) (by decide)) (fun _ => ?_)
            refine r_op tabOk hnt rfl (s_pick_f rfl g2 rfl ?_) 
            refine r_end ?_
            refine q_then ?_
            refine w_if rfl (fun e => absurd e (by decide)) (fun _ => ?_)
            refine w_skip ?_
            refine q_then ?_
            refine w_R ?_
            refine r_op tabOk hnt rfl (s_move rfl ?_) 
            refine r_op tabOk hnt rfl (s_move rfl ?_) 
            refine r_op tabOk hnt rfl (s_mkM (f := encI) [((i : Nat) : Int)] tab_54 rfl tab_2 ⟨rfl, by decide⟩ (by decide) rfl rfl rfl rfl ?_) 
            refine r_op tabOk hnt rfl (s_appR0 (f := encI) (l := tm) (xs := [((i : Nat) : Int)]) tab_54 rfl tab_2 ⟨rfl, by decide, by decide⟩ (srcM tab_54 rfl (hM_ref0 (f := encI) rfl rfl)) rfl rfl (by first | omega | (simp; omega)) ?_) 
            refine r_op tabOk hnt rfl (s_assign rfl ?_) 
            refine r_set [(3, p8 turn), (10, pS 1 false enc8 F), (12, pN kk), (16, pI (readE (F.set kk (e1 ^^^ (turn ||| 1))))), (17, PV.ref 2 0 none), (66, pN F.length), (67, pN i)] [(2, oB true 1 encI (tm ++ [((i : Nat) : Int)])), (1, oB true 1 encI [((i : Nat) : Int)])] 3 ⟨rfl, rfl, rfl, rfl, rfl, rfl, rfl, trivial⟩ rfl rfl ?_
            refine r_end ?_
            refine q_block ?_
            refine q_then ?_
            refine w_R ?_
            refine r_op tabOk hnt rfl (s_addN (a := i) (b := 1) rfl rfl (by omega) (by omega) (by omega) ?_) 
            refine r_op tabOk hnt rfl (s_move rfl ?_) 
            refine r_end ?_
            refine q_then ?_
            refine ⟨(tm ++ [((i : Nat) : Int)]), (i + 1), ?_, ?_, ⟨[(0, 2)], by rw [hk]; decide, ⟨⟨_, rfl, rfl, rfl⟩, ⟨_, rfl, rfl, rfl⟩, ⟨_, rfl, rfl, rfl⟩, ⟨_, rfl, rfl, rfl⟩, ⟨_, rfl, rfl, rfl⟩, ⟨_, rfl, rfl, rfl⟩, ⟨_, rfl, rfl, rfl⟩, trivial⟩, ⟨⟨_, _, rfl, rfl, rfl, rfl⟩, trivial⟩, by rw [hk]; decide⟩⟩
            ·
              refine ⟨by omega, ?_⟩
              rw [gapsT_snoc, htm]
              first | (rw [if_pos (by omega)]; done) | (rw [if_pos (by omega)]; simp) | (rw [if_neg (by omega)])
            · omega
        ·
          have c2_ := c2
          try simp only [decide_eq_true_eq, decide_eq_false_iff_not, Bool.not_eq_true', Bool.not_eq_false', Bool.not_true, Bool.not_false, Bool.not_eq_eq_eq_not, Int.not_lt, Int.not_le] at c2
          refine w_exit ?_
          refine q_then_exit ?_
          refine q_then_exit ?_
          refine q_block_exit ?_
          refine q_then ?_
          refine w_seq ?_
          refine w_H (H' := [(0, oB true 1 encI (gapsT kk ((UInt8.toNat (1 + (turn &&& 1)) : Nat) : Int) F.length))]) (congrArg (fun z => ([(0, oB true 1 encI z)] : Heap)) (show tm = (gapsT kk ((UInt8.toNat (1 + (turn &&& 1)) : Nat) : Int) F.length) by rw [htm, show i = F.length by omega])) ?_
          have hbr := byte_read (a := 1 + within addr 0 246) (p := q) (k := kk) (m := turn ||| 1) (by omega) (by omega) (by rw [← hF]; exact he1) (or1_ne turn)
          rw [← hF] at hbr
          refine w_R ?_
          refine r_op tabOk hnt rfl (s_move rfl ?_) 
          refine r_op tabOk hnt rfl (s_move rfl ?_) 
          refine r_op tabOk hnt rfl (s_callX (r2 := pS 1 true (encS 1 enc8) (splitV (gapsT kk ((UInt8.toNat (1 + (turn &&& 1)) : Nat) : Int) F.length) F)) (nx1 := 1) (H2 := [(0, oB false 1 encI (gapsT kk ((UInt8.toNat (1 + (turn &&& 1)) : Nat) : Int) F.length))]) (H3 := [(0, oB false 1 encI (gapsT kk ((UInt8.toNat (1 + (turn &&& 1)) : Nat) : Int) F.length))]) [] [] rfl rfl rfl (handed_of (by decide) trivial) rfl rfl rfl rfl rfl rfl (w_rtu_Split (gapsT kk ((UInt8.toNat (1 + (turn &&& 1)) : Nat) : Int) F.length) false F false (by rw [gapsT_length]; omega) (by omega) (by intro t ht; have := gapsT_bound htd ht; omega)) rfl (dist_of rfl) rfl rfl rfl rfl ?_) 
          refine r_op tabOk hnt rfl (s_assign rfl ?_) 
          refine r_set [(12, pN kk), (16, pI (readE (F.set kk (e1 ^^^ (turn ||| 1))))), (20, pS 1 true (encS 1 enc8) (splitV (gapsT kk ((UInt8.toNat (1 + (turn &&& 1)) : Nat) : Int) F.length) F))] [(0, oB false 1 encI (gapsT kk ((UInt8.toNat (1 + (turn &&& 1)) : Nat) : Int) F.length))] 1 ⟨rfl, rfl, rfl, trivial⟩ rfl rfl ?_
          refine r_end ?_
          refine q_then ?_
          refine w_seq ?_
          refine w_R ?_
          refine r_op tabOk hnt rfl (s_move rfl ?_) 
          refine r_op tabOk hnt rfl (s_eql rfl rfl ?_) 
          refine r_op tabOk hnt rfl (s_move rfl ?_) 
          refine r_if tabOk hnt rfl rfl rfl (fun g3 => ?_) (fun g3 => ?_)
          ·
            have g3' := g3
            try simp only [decide_eq_true_eq, decide_eq_false_iff_not, Bool.not_eq_true', Bool.not_eq_false', Bool.not_true, Bool.not_false, Bool.not_eq_eq_eq_not, Int.not_lt, Int.not_le] at g3'
            refine r_op tabOk hnt rfl (s_move rfl ?_) 
            refine r_if tabOk hnt rfl rfl rfl (fun _ => ?_) (fun e => absurd (e.symm.trans g3) (by decide))
            refine r_op tabOk hnt rfl (s_lenM (l := splitV (gapsT kk ((UInt8.toNat (1 + (turn &&& 1)) : Nat) : Int) F.length) F) tab_58 rfl (hM_sl (f := (encS 1 enc8)) rfl) ?_) 
            refine r_if tabOk hnt rfl rfl rfl (fun _ => ?_) (fun e => absurd (e.symm.trans g3) (by decide))
            refine r_op tabOk hnt rfl (s_move rfl ?_) 
            refine r_if tabOk hnt rfl rfl rfl (fun _ => ?_) (fun e => absurd (e.symm.trans g3) (by decide))
            refine r_op tabOk hnt rfl (s_minN (a := kk) (b := 1) rfl (by omega) (by omega) ?_) 
            refine r_if tabOk hnt rfl rfl rfl (fun _ => ?_) (fun e => absurd (e.symm.trans g3) (by decide))
            refine r_op tabOk hnt rfl (s_subi (r := 1 - ((min kk 1 : Nat) : Int)) rfl rfl rfl (by omega) ?_) 
            refine r_if tabOk hnt rfl rfl rfl (fun _ => ?_) (fun e => absurd (e.symm.trans g3) (by decide))
            refine r_op tabOk hnt rfl (s_eql rfl rfl ?_) 
            refine r_op tabOk hnt rfl (s_pick_t rfl g3 rfl ?_) 
            refine r_op tabOk hnt rfl (s_move rfl ?_) 
            refine r_if tabOk hnt rfl rfl rfl (fun g4 => ?_) (fun g4 => ?_)
            ·
              have g4' := g4
              try simp only [decide_eq_true_eq, decide_eq_false_iff_not, Bool.not_eq_true', Bool.not_eq_false', Bool.not_true, Bool.not_false, Bool.not_eq_eq_eq_not, Int.not_lt, Int.not_le] at g4'
              refine r_op tabOk hnt rfl (s_callF rfl rfl rfl (w_burgagelaw5_known) rfl ?_) 
              refine r_op tabOk hnt rfl (s_pick_t rfl g4 rfl ?_) 
              refine r_op tabOk hnt rfl (s_assign rfl ?_) 
              refine r_end ?_
              refine q_then ?_
              refine w_ret ?_
              exact fin_plain (ret_tmp rfl ret_nil) rfl rfl ⟨rfl, rfl, rfl⟩
            ·
              exact absurd g4 (by exact not_dec3 (by have := gaps_split htd (f := F) (k := kk) (by omega) (by omega); omega))
          ·
            exact absurd g3 (by rw [hbr]; simp)
  ·
    exact absurd g1 (by simp)

theorem w_burgagelaw5_RtuBack (addr : Int) (rows : List (List UInt8)) (cl_rows : Bool) (hr : rows.length * 24 ≤ 140737488351232) (ha : -9223372036854775808 ≤ addr ∧ addr ≤ 9223372036854775807) :
    T Try.prog 9 [pI addr, pS 1 cl_rows (encS 1 enc8) rows] 0 [] (Ret (pB true) 0 []) := by
  refine t_fun tabOk (n := 128) (rs := [.tmp 4]) Try.func9 rfl rfl rfl rfl (Nat.le_of_ble_eq_true rfl) ?_
  intro c hnt hk
  have hwb := within_between addr (lo := 0) (hi := 246) (by decide)
  refine w_seq ?_
  refine w_R ?_
  refine r_op tabOk hnt rfl (s_assign rfl ?_) 
  refine r_end ?_
  refine q_then ?_
  refine w_seq ?_
  refine w_R ?_
  refine r_op tabOk hnt rfl (s_move rfl ?_) 
  refine r_op tabOk hnt rfl (s_callF rfl rfl rfl (w_burgagebook_Within addr 0 246 (by first | omega | assumption | (simp; omega) | decide | (simp; done))) rfl ?_) 
  refine r_op tabOk hnt rfl (s_addi (r := 1 + (within addr 0 246)) rfl rfl rfl (by omega) ?_) 
  refine r_op tabOk hnt rfl (s_assign rfl ?_) 
  refine r_end ?_
  refine q_then ?_
  refine w_seq ?_
  refine w_R ?_
  refine r_op tabOk hnt rfl (s_assign rfl ?_) 
  refine r_end ?_
  refine q_then ?_
  refine w_seq ?_
  refine w_R ?_
  refine r_op tabOk hnt rfl (s_assign rfl ?_) 
  refine r_end ?_
  refine q_then ?_
  refine w_seq ?_
  refine w_R ?_
  refine r_op tabOk hnt rfl (s_assign rfl ?_) 
  refine r_end ?_
  refine q_then ?_
  refine w_seq ?_
  refine w_R ?_
  refine r_op tabOk hnt rfl (s_assign rfl ?_) 
  refine r_end ?_
  refine q_then ?_
  refine w_seq ?_
  refine w_seq ?_
  refine w_R ?_
  refine r_op tabOk hnt rfl (s_assign rfl ?_) 
  refine r_end ?_
  refine q_then ?_
  refine w_block ?_
  refine w_adopt (s := 6) (sz := 1) rfl ?_
  refine w_adopt (s := 7) (sz := 1) rfl ?_
  refine w_adopt (s := 8) (sz := 1) rfl ?_
  refine loop5 (fun (al : List UInt8) (tm : List Int) (ws : List (List UInt8)) (now : Int) (i : Nat) => i ≤ rows.length ∧ i ≤ 12 ∧ BackI tm al ws now 1 ∧ al.length ≤ 40 * i ∧ ws.length = i ∧ 0 ≤ now ∧ now ≤ 50 * i ∧ ∀ t ∈ tm, 0 ≤ t ∧ t ≤ 1000) (fun (al : List UInt8) (tm : List Int) (ws : List (List UInt8)) (now : Int) (i : Nat) => [(1, pS 1 cl_rows (encS 1 enc8) rows), (5, pI (1 + (within addr 0 246))), (6, PV.ref 0 0 none), (7, PV.ref 1 0 none), (8, PV.ref 2 0 none), (9, pI now), (10, pN i)]) 3 (fun (al : List UInt8) (tm : List Int) (ws : List (List UInt8)) (now : Int) (i : Nat) => [(0, oB true 1 enc8 al), (1, oB true 1 encI tm), (2, oB true 1 encT ws)]) (fun (al : List UInt8) (tm : List Int) (ws : List (List UInt8)) (now : Int) (i : Nat) => rows.length - i) (([] : List UInt8)) (([] : List Int)) (([] : List (List UInt8))) (0) (0) ?_ ⟨[(0, 0), (1, 1), (2, 2)], by rw [hk]; decide, ⟨⟨_, rfl, rfl, rfl⟩, ⟨_, rfl, rfl, rfl⟩, ⟨_, rfl, rfl, rfl⟩, ⟨_, rfl, rfl, rfl⟩, ⟨_, rfl, rfl, rfl⟩, ⟨_, rfl, rfl, rfl⟩, ⟨_, rfl, rfl, rfl⟩, trivial⟩, ⟨⟨_, _, rfl, rfl, rfl, rfl⟩, ⟨_, _, rfl, rfl, rfl, rfl⟩, ⟨_, _, rfl, rfl, rfl, rfl⟩, trivial⟩, by rw [hk]; decide⟩ ?_
  · exact ⟨by omega, by omega, BackI.zero, by simp, rfl, by omega, by omega, by simp⟩
  ·
    intro al tm ws now i hI
    obtain ⟨hi, hi12, hB, hal, hws, hn0, hn1, htm⟩ := hI
    refine w_seq ?_
    refine w_seq ?_
    refine w_R ?_
    refine r_op tabOk hnt rfl (s_move rfl ?_) 
    refine r_op tabOk hnt rfl (s_move rfl ?_) 
    refine r_op tabOk hnt rfl (s_lenM (l := rows) tab_58 rfl (hM_sl (f := (encS 1 enc8)) rfl) ?_) 
    refine r_op tabOk hnt rfl (s_lss rfl rfl ?_) 
    refine r_op tabOk hnt rfl (s_move rfl ?_) 
    refine r_if tabOk hnt rfl rfl rfl (fun g1 => ?_) (fun g1 => ?_)
    ·
      have g1' := g1
      try simp only [decide_eq_true_eq, decide_eq_false_iff_not, Bool.not_eq_true', Bool.not_eq_false', Bool.not_true, Bool.not_false, Bool.not_eq_eq_eq_not, Int.not_lt, Int.not_le] at g1'
      refine r_op tabOk hnt rfl (s_move rfl ?_) 
      refine r_if tabOk hnt rfl rfl rfl (fun _ => ?_) (fun e => absurd (e.symm.trans g1) (by decide))
      refine r_op tabOk hnt rfl (s_lss rfl rfl ?_) 
      refine r_op tabOk hnt rfl (s_pick_t rfl g1 rfl ?_) 
      refine r_end ?_
      refine q_then ?_
      refine w_if rfl (fun c1 => ?_) (fun c1 => ?_)
      ·
        have c1_ := c1
        try simp only [decide_eq_true_eq, decide_eq_false_iff_not, Bool.not_eq_true', Bool.not_eq_false', Bool.not_true, Bool.not_false, Bool.not_eq_eq_eq_not, Int.not_lt, Int.not_le] at c1
        refine w_skip ?_
        refine q_then ?_
        refine w_seq ?_
        refine w_block ?_
        refine w_seq ?_
        refine W_drawn tabOk mixed hnt [[], [0], [0, 1], [], [], [3, 4], [3, 4, 5], [], [], [7, 8], [7, 8, 9], [7, 8, 9, 10], [7, 8, 9, 10, 11], [3, 4, 5, 6, 7, 8, 9, 10, 11, 12], [0, 1, 2, 3, 4, 5, 6, 7, 8, 9, 10, 11, 12, 13], [0, 1, 2, 3, 4, 5, 6, 7, 8, 9, 10, 11, 12, 13, 14]] (by kernel_rfl) ?_
        refine d_op ?_
        refine x_run0 [(10, pN i)] [] rfl rfl rfl rfl (s_move rfl ⟨rfl, rfl, rfl⟩) ?_
        refine d_op ?_
        refine x_run0 [(34, pN i)] [0] rfl rfl rfl rfl (s_cv8N (a := i) tab_3 tab_5 rfl rfl rfl (by omega) ⟨rfl, rfl, rfl⟩) ?_
        refine d_op ?_
        refine x_run [(35, p8 (UInt8.ofNat i))] [0, 1] [] [] [(3, oB true 1 enc8 [UInt8.ofNat i])] [(3, oB true 1 enc8 [UInt8.ofNat i])] [(3, oB true 1 enc8 [UInt8.ofNat i]), (0, oB true 1 enc8 al), (1, oB true 1 encI tm), (2, oB true 1 encT ws)] rfl rfl rfl rfl rfl rfl (s_mkM (f := enc8) [UInt8.ofNat i] tab_41 rfl tab_5 ⟨rfl, by decide⟩ (by decide) rfl rfl rfl rfl ⟨rfl, rfl, rfl⟩) rfl trivial rfl rfl ?_
        refine d_op ?_
        refine x_run0 [(1, pS 1 cl_rows (encS 1 enc8) rows)] [] rfl rfl rfl rfl (s_move rfl ⟨rfl, rfl, rfl⟩) ?_
        refine d_op ?_
        refine x_run0 [(10, pN i)] [] rfl rfl rfl rfl (s_move rfl ⟨rfl, rfl, rfl⟩) ?_
        refine d_op ?_
        obtain ⟨e1, he1⟩ := get_of_lt rows (i := i) (by omega)
        refine x_run0 [(37, pS 1 cl_rows (encS 1 enc8) rows), (38, pN i)] [3, 4] rfl rfl rfl rfl (s_iaM (q := i) (b := e1) (f := (encS 1 enc8)) tab_58 rfl tab_41 rfl rfl (by omega) rfl he1 ⟨rfl, rfl, rfl⟩) ?_
        refine d_op ?_
        refine x_run0 [(39, PV.f (.ro (FV.sl 1 false (List.map enc8 e1))))] [3, 4, 5] rfl rfl rfl rfl (s_load_ro1 tab_41 rfl rfl rfl rfl ⟨rfl, rfl, rfl⟩) ?_
        refine d_op ?_
        refine x_run0 [(1, pS 1 cl_rows (encS 1 enc8) rows)] [] rfl rfl rfl rfl (s_move rfl ⟨rfl, rfl, rfl⟩) ?_
        refine d_op ?_
        refine x_run0 [(10, pN i)] [] rfl rfl rfl rfl (s_move rfl ⟨rfl, rfl, rfl⟩) ?_
        refine d_op ?_
        refine x_run0 [(41, pS 1 cl_rows (encS 1 enc8) rows), (42, pN i)] [7, 8] rfl rfl rfl rfl (s_iaM (q := i) (b := e1) (f := (encS 1 enc8)) tab_58 rfl tab_41 rfl rfl (by omega) rfl he1 ⟨rfl, rfl, rfl⟩) ?_
        refine d_op ?_
        refine x_run0 [(43, PV.f (.ro (FV.sl 1 false (List.map enc8 e1))))] [7, 8, 9] rfl rfl rfl rfl (s_load_ro1 tab_41 rfl rfl rfl rfl ⟨rfl, rfl, rfl⟩) ?_
        refine d_op ?_
        refine x_run0 [(44, pS 1 false enc8 e1)] [7, 8, 9, 10] rfl rfl rfl rfl (s_lenM (l := e1) tab_41 rfl (hM_sl (f := enc8) rfl) ⟨rfl, rfl, rfl⟩) ?_
        refine d_op ?_
        refine x_run0 [(45, pN e1.length)] [7, 8, 9, 10, 11] rfl rfl rfl rfl (s_minN (a := e1.length) (b := 30) rfl (by omega) (by omega) ⟨rfl, rfl, rfl⟩) ?_
        refine d_op ?_
        refine x_run0 [(40, pS 1 false enc8 e1), (46, pN (min e1.length 30))] [3, 4, 5, 6, 7, 8, 9, 10, 11, 12] rfl rfl rfl rfl (s_cutM_hi (b := min e1.length 30) (f := enc8) (l := e1) tab_41 rfl tab_5 ⟨rfl, by decide⟩ rfl (bound_some rfl (by omega)) (by omega) ⟨rfl, rfl, rfl⟩) ?_
        refine d_op ?_
        refine x_run [(36, PV.ref 3 0 none), (47, pS 1 false enc8 (e1.take (min e1.length 30)))] [0, 1, 2, 3, 4, 5, 6, 7, 8, 9, 10, 11, 12, 13] [] [(3, oB true 1 enc8 [UInt8.ofNat i])] [(4, oB true 1 enc8 ([UInt8.ofNat i] ++ (e1.take (min e1.length 30))))] [(4, oB true 1 enc8 ([UInt8.ofNat i] ++ (e1.take (min e1.length 30))))] [(4, oB true 1 enc8 ([UInt8.ofNat i] ++ (e1.take (min e1.length 30)))), (0, oB true 1 enc8 al), (1, oB true 1 encI tm), (2, oB true 1 encT ws)] rfl rfl rfl rfl rfl rfl (s_appR0 (f := enc8) (l := [UInt8.ofNat i]) (xs := e1.take (min e1.length 30)) tab_41 rfl tab_5 ⟨rfl, by decide, by decide⟩ (srcM tab_41 rfl (hM_sl (f := enc8) rfl)) rfl rfl (by first | omega | (simp; omega)) ⟨rfl, rfl, rfl⟩) rfl trivial rfl rfl ?_
        refine d_op ?_
        refine x_run0 [(48, PV.ref 4 0 none)] [0, 1, 2, 3, 4, 5, 6, 7, 8, 9, 10, 11, 12, 13, 14] rfl rfl rfl rfl (s_assign rfl ⟨rfl, rfl, rfl⟩) ?_
        refine d_end ⟨by kernel_rfl, ?_⟩
        refine q_then ?_
        refine w_seq ?_
        refine w_R ?_
        refine r_op tabOk hnt rfl (s_move rfl ?_) 
        refine r_op tabOk hnt rfl (s_move rfl ?_) 
        refine r_op tabOk hnt rfl (s_callX (r2 := PV.tup [pS 1 false enc8 (frameV (1 + (within addr 0 246)) ([UInt8.ofNat i] ++ (e1.take (min e1.length 30)))), pI (frameE (1 + (within addr 0 246)) ([UInt8.ofNat i] ++ (e1.take (min e1.length 30))))]) (nx1 := 5) (H2 := [(4, oB false 1 enc8 ([UInt8.ofNat i] ++ (e1.take (min e1.length 30)))), (0, oB true 1 enc8 al), (1, oB true 1 encI tm), (2, oB true 1 encT ws)]) (H3 := [(4, oB false 1 enc8 ([UInt8.ofNat i] ++ (e1.take (min e1.length 30)))), (0, oB true 1 enc8 al), (1, oB true 1 encI tm), (2, oB true 1 encT ws)]) [] [] rfl rfl rfl (handed_of (by decide) trivial) rfl rfl rfl rfl rfl rfl (w_rtu_Frame (1 + (within addr 0 246)) ([UInt8.ofNat i] ++ (e1.take (min e1.length 30))) false (by first | omega | assumption | (simp; omega) | decide | (simp; done))) rfl (dist_of rfl) rfl rfl rfl rfl ?_) 
        refine r_op tabOk hnt rfl (s_move rfl ?_) 
        refine r_op tabOk hnt rfl (s_extract rfl rfl ?_) 
        refine r_op tabOk hnt rfl (s_extract rfl rfl ?_) 
        refine r_op tabOk hnt rfl (s_assign rfl ?_) 
        refine r_op tabOk hnt rfl (s_assign rfl ?_) 
        refine r_set [(1, pS 1 cl_rows (encS 1 enc8) rows), (5, pI (1 + (within addr 0 246))), (6, PV.ref 0 0 none), (7, PV.ref 1 0 none), (8, PV.ref 2 0 none), (9, pI now), (10, pN i), (11, PV.ref 4 0 none), (12, pS 1 false enc8 (frameV (1 + (within addr 0 246)) ([UInt8.ofNat i] ++ (e1.take (min e1.length 30))))), (13, pI (frameE (1 + (within addr 0 246)) ([UInt8.ofNat i] ++ (e1.take (min e1.length 30))))), (29, pN i), (30, pB (decide (((i : Nat) : Int) < 12)))] [(4, oB false 1 enc8 ([UInt8.ofNat i] ++ (e1.take (min e1.length 30)))), (0, oB true 1 enc8 al), (1, oB true 1 encI tm), (2, oB true 1 encT ws)] 5 ⟨rfl, rfl, rfl, rfl, rfl, rfl, rfl, rfl, rfl, rfl, rfl, rfl, trivial⟩ rfl rfl ?_
        refine r_end ?_
        refine q_then ?_
        refine w_seq ?_
        obtain ⟨q, hq⟩ : ∃ z, z = [UInt8.ofNat i] ++ e1.take (min e1.length 30) := ⟨_, rfl⟩
        have hql : 1 ≤ q.length ∧ q.length ≤ 31 := by rw [hq]; simp; omega
        have hfo := frame_of (a := 1 + within addr 0 246) (p := q) (by omega) (by omega)
        have hrf := read_frame (a := 1 + within addr 0 246) (p := q) (by omega) (by omega)
        obtain ⟨F, hF⟩ : ∃ z, z = sealL (u8I (1 + within addr 0 246) :: q) := ⟨_, rfl⟩
        have hFl : F.length = q.length + 3 := by rw [hF, sealL_length]; simp
        refine w_eq (s := 12) (y := pS 1 false enc8 F) rfl (congrArg (fun z => pS 1 false enc8 z) (show (frameV (1 + (within addr 0 246)) ([UInt8.ofNat i] ++ (e1.take (min e1.length 30)))) = F by rw [hF, ← hfo.2, hq])) ?_
        refine w_eq (s := 13) (y := pI 0) rfl (congrArg (fun z : Int => pI z) (show (frameE (1 + (within addr 0 246)) ([UInt8.ofNat i] ++ (e1.take (min e1.length 30)))) = 0 by rw [← hq]; exact hfo.1)) ?_
        refine w_H (H' := [(4, oB false 1 enc8 q), (0, oB true 1 enc8 al), (1, oB true 1 encI tm), (2, oB true 1 encT ws)]) (congrArg (fun z => ([(4, oB false 1 enc8 z), (0, oB true 1 enc8 al), (1, oB true 1 encI tm), (2, oB true 1 encT ws)] : Heap)) (show ([UInt8.ofNat i] ++ (e1.take (min e1.length 30))) = q by exact hq.symm)) ?_
        refine w_R ?_
        refine r_op tabOk hnt rfl (s_move rfl ?_) 
        refine r_op tabOk hnt rfl (s_callF rfl rfl rfl (w_rtu_Read F false (by first | omega | assumption | (simp; omega) | decide | (simp; done))) rfl ?_) 
        refine r_op tabOk hnt rfl (s_move rfl ?_) 
        refine r_op tabOk hnt rfl (s_extract rfl rfl ?_) 
        refine r_op tabOk hnt rfl (s_extract rfl rfl ?_) 
        refine r_op tabOk hnt rfl (s_extract rfl rfl ?_) 
        refine r_op tabOk hnt rfl (s_assign rfl ?_) 
        refine r_op tabOk hnt rfl (s_assign rfl ?_) 
        refine r_op tabOk hnt rfl (s_assign rfl ?_) 
        refine r_end ?_
        refine q_then ?_
        refine w_seq ?_
        refine w_seq ?_
        refine w_eq (s := 14) (y := pI (1 + within addr 0 246)) rfl (congrArg (fun z : Int => pI z) (show (readA F) = (1 + within addr 0 246) by rw [hF]; exact hrf.2.1)) ?_
        refine w_eq (s := 15) (y := pS 1 false enc8 q) rfl (congrArg (fun z => pS 1 false enc8 z) (show (readP F) = q by rw [hF]; exact hrf.2.2)) ?_
        refine w_eq (s := 16) (y := pI 0) rfl (congrArg (fun z : Int => pI z) (show (readE F) = 0 by rw [hF]; exact hrf.1)) ?_
        refine w_R ?_
        refine r_op tabOk hnt rfl (s_move rfl ?_) 
        refine r_op tabOk hnt rfl (s_neq rfl rfl ?_) 
        refine r_op tabOk hnt rfl (s_move rfl ?_) 
        refine r_if tabOk hnt rfl rfl rfl (fun g2 => ?_) (fun g2 => ?_)
        ·
          have g2' := g2
          try simp only [decide_eq_true_eq, decide_eq_false_iff_not, Bool.not_eq_true', Bool.not_eq_false', Bool.not_true, Bool.not_false, Bool.not_eq_eq_eq_not, Int.not_lt, Int.not_le] at g2'
          refine r_op tabOk hnt rfl (s_move rfl ?_) 
          refine r_if tabOk hnt rfl rfl rfl (fun _ => ?_) (fun e => absurd (e.symm.trans g2) (by decide))
          refine r_op tabOk hnt rfl (s_neq rfl rfl ?_) 
          refine r_op tabOk hnt rfl (s_pick_f rfl g2 rfl ?_) 
          refine r_op tabOk hnt rfl (s_move rfl ?_) 
          refine r_if tabOk hnt rfl rfl rfl (fun _ => ?_) (fun e => absurd (e.symm.trans g2) (by decide))
          refine r_op tabOk hnt rfl (s_move rfl ?_) 
          refine r_if tabOk hnt rfl rfl rfl (fun _ => ?_) (fun e => absurd (e.symm.trans g2) (by decide))
          refine r_op tabOk hnt rfl (s_move rfl ?_) 
          refine r_if tabOk hnt rfl rfl rfl (fun _ => ?_) (fun e => absurd (e.symm.trans g2) (by decide))
          refine r_op tabOk hnt rfl (s_neq rfl rfl ?_) 
          refine r_op tabOk hnt rfl (s_pick_f rfl g2 rfl ?_) 
          refine r_op tabOk hnt rfl (s_move rfl ?_) 
          refine r_if tabOk hnt rfl rfl rfl (fun g3 => ?_) (fun g3 => ?_)
          ·
            have g3' := g3
            try simp only [decide_eq_true_eq, decide_eq_false_iff_not, Bool.not_eq_true', Bool.not_eq_false', Bool.not_true, Bool.not_false, Bool.not_eq_eq_eq_not, Int.not_lt, Int.not_le] at g3'
            refine r_op tabOk hnt rfl (s_move rfl ?_) 
            refine r_if tabOk hnt rfl rfl rfl (fun _ => ?_) (fun e => absurd (e.symm.trans g3) (by decide))
            refine r_op tabOk hnt rfl (s_cvT tab_41 tab_9 rfl tab_5 rfl rfl (hM_sl (f := enc8) rfl) ?_) 
            refine r_if tabOk hnt rfl rfl rfl (fun _ => ?_) (fun e => absurd (e.symm.trans g3) (by decide))
            refine r_op tabOk hnt rfl (s_move rfl ?_) 
            refine r_if tabOk hnt rfl rfl rfl (fun _ => ?_) (fun e => absurd (e.symm.trans g3) (by decide))
            refine r_op tabOk hnt rfl (s_cvT tab_41 tab_9 rfl tab_5 rfl rfl (hM_ref0 (f := enc8) rfl rfl) ?_) 
            refine r_if tabOk hnt rfl rfl rfl (fun _ => ?_) (fun e => absurd (e.symm.trans g3) (by decide))
            refine r_op tabOk hnt rfl (s_netext (l := q) (m := q) rfl rfl ?_) 
            refine r_op tabOk hnt rfl (s_pick_f rfl g3 rfl ?_) 
            refine r_set [(1, pS 1 cl_rows (encS 1 enc8) rows), (5, pI (1 + (within addr 0 246))), (6, PV.ref 0 0 none), (7, PV.ref 1 0 none), (8, PV.ref 2 0 none), (9, pI now), (10, pN i), (12, pS 1 false enc8 F), (29, pN i), (30, pB (decide (((i : Nat) : Int) < 12))), (64, pI 0), (65, pB (!decide (0 = 0))), (68, pI (1 + within addr 0 246)), (69, pI (1 + (within addr 0 246))), (70, pB (!decide (1 + within addr 0 246 = 1 + (within addr 0 246)))), (73, pS 1 false enc8 q), (74, pT q), (75, PV.ref 4 0 none), (76, pT q), (77, pB (!decide (q = q))), (78, pB (!decide (q = q)))] [(4, oB false 1 enc8 q), (0, oB true 1 enc8 al), (1, oB true 1 encI tm), (2, oB true 1 encT ws)] 5 ⟨rfl, rfl, rfl, rfl, rfl, rfl, rfl, rfl, rfl, rfl, rfl, rfl, rfl, rfl, rfl, rfl, rfl, rfl, rfl, rfl, rfl, trivial⟩ rfl rfl ?_
            refine r_end ?_
            refine q_then ?_
            refine w_if rfl (fun c2 => ?_) (fun c2 => ?_)
            ·
              have c2_ := c2
              exact absurd c2 (by simp)
            ·
              have c2_ := c2
              try simp only [decide_eq_true_eq, decide_eq_false_iff_not, Bool.not_eq_true', Bool.not_eq_false', Bool.not_true, Bool.not_false, Bool.not_eq_eq_eq_not, Int.not_lt, Int.not_le] at c2
              refine w_skip ?_
              refine q_then ?_
              refine w_seq ?_
              refine w_R ?_
              refine r_op tabOk hnt rfl (s_move rfl ?_) 
              refine r_op tabOk hnt rfl (s_addi (r := now + 4) rfl rfl rfl (by omega) ?_) 
              refine r_op tabOk hnt rfl (s_assign rfl ?_) 
              refine r_end ?_
              refine q_then ?_
              refine w_seq ?_
              refine w_seq ?_
              refine w_R ?_
              refine r_op tabOk hnt rfl (s_move rfl ?_) 
              refine r_op tabOk hnt rfl (s_lenM (l := F) tab_41 rfl (hM_sl (f := enc8) rfl) ?_) 
              refine r_op tabOk hnt rfl (s_move rfl ?_) 
              refine r_end ?_
              refine q_then ?_
              refine w_block ?_
              refine loop4 (fun (am : List UInt8) (tn : List Int) (nw : Int) (z : Nat) => z ≤ F.length ∧ BackJ tn am ws F z nw ∧ am.length ≤ 40 * i + z ∧ nw = now + 4 + z ∧ ∀ t ∈ tn, 0 ≤ t ∧ t ≤ 1000) (fun (am : List UInt8) (tn : List Int) (nw : Int) (z : Nat) => [(1, pS 1 cl_rows (encS 1 enc8) rows), (5, pI (1 + (within addr 0 246))), (6, PV.ref 0 0 none), (7, PV.ref 1 0 none), (8, PV.ref 2 0 none), (9, pI nw), (10, pN i), (12, pS 1 false enc8 F), (29, pN i), (30, pB (decide (((i : Nat) : Int) < 12))), (64, pI 0), (65, pB (!decide (0 = 0))), (68, pI (1 + within addr 0 246)), (69, pI (1 + (within addr 0 246))), (70, pB (!decide (1 + within addr 0 246 = 1 + (within addr 0 246)))), (73, pS 1 false enc8 q), (74, pT q), (75, PV.ref 3 0 none), (76, pT q), (77, pB (!decide (q = q))), (81, pS 1 false enc8 F), (82, pN F.length), (83, pN z)]) 4 (fun (am : List UInt8) (tn : List Int) (nw : Int) (z : Nat) => [(0, oB true 1 enc8 am), (1, oB true 1 encI tn), (2, oB true 1 encT ws), (3, oB false 1 enc8 q)]) (fun (am : List UInt8) (tn : List Int) (nw : Int) (z : Nat) => F.length - z) (al) (tm) (now + 4) (0) ?_ ⟨[(0, 0), (1, 1), (2, 2), (3, 4)], by rw [hk]; decide, ⟨⟨_, rfl, rfl, rfl⟩, ⟨_, rfl, rfl, rfl⟩, ⟨_, rfl, rfl, rfl⟩, ⟨_, rfl, rfl, rfl⟩, ⟨_, rfl, rfl, rfl⟩, ⟨_, rfl, rfl, rfl⟩, ⟨_, rfl, rfl, rfl⟩, ⟨_, rfl, rfl, rfl⟩, ⟨_, rfl, rfl, rfl⟩, ⟨_, rfl, rfl, rfl⟩, ⟨_, rfl, rfl, rfl⟩, ⟨_, rfl, rfl, rfl⟩, ⟨_, rfl, rfl, rfl⟩, ⟨_, rfl, rfl, rfl⟩, ⟨_, rfl, rfl, rfl⟩, ⟨_, rfl, rfl, rfl⟩, ⟨_, rfl, rfl, rfl⟩, ⟨_, rfl, rfl, rfl⟩, ⟨_, rfl, rfl, rfl⟩, ⟨_, rfl, rfl, rfl⟩, ⟨_, rfl, rfl, rfl⟩, ⟨_, rfl, rfl, rfl⟩, ⟨_, rfl, rfl, rfl⟩, trivial⟩, ⟨⟨_, _, rfl, rfl, rfl, rfl⟩, ⟨_, _, rfl, rfl, rfl, rfl⟩, ⟨_, _, rfl, rfl, rfl, rfl⟩, ⟨_, _, rfl, rfl, rfl, rfl⟩, trivial⟩, by rw [hk]; decide⟩ ?_
              · exact ⟨by omega, hB.to F, by omega, by omega, htm⟩
              ·
                intro am tn nw z hJ
                obtain ⟨hz, hJ, ham, hnw, htm2⟩ := hJ
                have hjl := hJ.len
                refine w_seq ?_
                refine w_R ?_
                refine r_op tabOk hnt rfl (s_lss rfl rfl ?_) 
                refine r_end ?_
                refine q_then ?_
                refine w_seq ?_
                refine w_if rfl (fun c3 => ?_) (fun c3 => ?_)
                ·
                  have c3_ := c3
                  try simp only [decide_eq_true_eq, decide_eq_false_iff_not, Bool.not_eq_true', Bool.not_eq_false', Bool.not_true, Bool.not_false, Bool.not_eq_eq_eq_not, Int.not_lt, Int.not_le] at c3
                  refine w_skip ?_
                  refine q_then ?_
                  refine w_seq ?_
                  refine w_block ?_
                  refine w_seq ?_
                  refine w_R ?_
                  obtain ⟨e2, he2⟩ := get_of_lt F (i := z) (by omega)
                  refine r_op tabOk hnt rfl (s_iaM (q := z) (b := e2) (f := enc8) tab_41 rfl tab_5 rfl rfl (by omega) rfl he2 ?_) 
                  refine r_op tabOk hnt rfl (s_load_ro1 tab_5 rfl rfl rfl rfl ?_) 
                  refine r_op tabOk hnt rfl (s_assign rfl ?_) 
                  refine r_end ?_
                  refine q_then ?_
                  refine w_seq ?_
                  refine w_R ?_
                  refine r_op tabOk hnt rfl (s_move rfl ?_) 
                  refine r_op tabOk hnt rfl (s_move rfl ?_) 
                  refine r_op tabOk hnt rfl (s_mkM (f := enc8) [e2] tab_41 rfl tab_5 ⟨rfl, by decide⟩ (by decide) rfl rfl rfl rfl ?_) 
                  refine r_op tabOk hnt rfl (s_appR0 (f := enc8) (l := am) (xs := [e2]) tab_41 rfl tab_5 ⟨rfl, by decide, by decide⟩ (srcM tab_41 rfl (hM_ref0 (f := enc8) rfl rfl)) rfl rfl (by first | omega | (simp; omega)) ?_) 
                  refine r_op tabOk hnt rfl (s_move rfl ?_) 
                  refine r_op tabOk hnt rfl (s_move rfl ?_) 
                  refine r_op tabOk hnt rfl (s_mkM (f := encI) [nw] tab_54 rfl tab_2 ⟨rfl, by decide⟩ (by decide) rfl rfl rfl rfl ?_) 
                  refine r_op tabOk hnt rfl (s_appR0 (f := encI) (l := tn) (xs := [nw]) tab_54 rfl tab_2 ⟨rfl, by decide, by decide⟩ (srcM tab_54 rfl (hM_ref0 (f := encI) rfl rfl)) rfl rfl (by first | omega | (simp; omega)) ?_) 
                  refine r_op tabOk hnt rfl (s_assign rfl ?_) 
                  refine r_op tabOk hnt rfl (s_assign rfl ?_) 
                  refine r_set [(1, pS 1 cl_rows (encS 1 enc8) rows), (5, pI (1 + (within addr 0 246))), (6, PV.ref 5 0 none), (7, PV.ref 7 0 none), (8, PV.ref 2 0 none), (9, pI nw), (10, pN i), (12, pS 1 false enc8 F), (29, pN i), (30, pB (decide (((i : Nat) : Int) < 12))), (64, pI 0), (65, pB (!decide (0 = 0))), (68, pI (1 + within addr 0 246)), (69, pI (1 + (within addr 0 246))), (70, pB (!decide (1 + within addr 0 246 = 1 + (within addr 0 246)))), (73, pS 1 false enc8 q), (74, pT q), (75, PV.ref 3 0 none), (76, pT q), (77, pB (!decide (q = q))), (81, pS 1 false enc8 F), (82, pN F.length), (83, pN z)] [(7, oB true 1 encI (tn ++ [nw])), (6, oB true 1 encI [nw]), (5, oB true 1 enc8 (am ++ [e2])), (4, oB true 1 enc8 [e2]), (2, oB true 1 encT ws), (3, oB false 1 enc8 q)] 8 ⟨rfl, rfl, rfl, rfl, rfl, rfl, rfl, rfl, rfl, rfl, rfl, rfl, rfl, rfl, rfl, rfl, rfl, rfl, rfl, rfl, rfl, rfl, rfl, trivial⟩ rfl rfl ?_
                  refine r_end ?_
                  refine q_then ?_
                  refine w_R ?_
                  refine r_op tabOk hnt rfl (s_move rfl ?_) 
                  refine r_op tabOk hnt rfl (s_addi (r := nw + 1) rfl rfl rfl (by omega) ?_) 
                  refine r_op tabOk hnt rfl (s_assign rfl ?_) 
                  refine r_end ?_
                  refine q_block ?_
                  refine q_then ?_
                  refine w_R ?_
                  refine r_op tabOk hnt rfl (s_addN (a := z) (b := 1) rfl rfl (by omega) (by omega) (by omega) ?_) 
                  refine r_op tabOk hnt rfl (s_move rfl ?_) 
                  refine r_end ?_
                  refine q_then ?_
                  refine ⟨(am ++ [e2]), (tn ++ [nw]), (nw + 1), (z + 1), ?_, ?_, ⟨[(0, 5), (1, 7), (2, 2), (3, 3)], by rw [hk]; decide, ⟨⟨_, rfl, rfl, rfl⟩, ⟨_, rfl, rfl, rfl⟩, ⟨_, rfl, rfl, rfl⟩, ⟨_, rfl, rfl, rfl⟩, ⟨_, rfl, rfl, rfl⟩, ⟨_, rfl, rfl, rfl⟩, ⟨_, rfl, rfl, rfl⟩, ⟨_, rfl, rfl, rfl⟩, ⟨_, rfl, rfl, rfl⟩, ⟨_, rfl, rfl, rfl⟩, ⟨_, rfl, rfl, rfl⟩, ⟨_, rfl, rfl, rfl⟩, ⟨_, rfl, rfl, rfl⟩, ⟨_, rfl, rfl, rfl⟩, ⟨_, rfl, rfl, rfl⟩, ⟨_, rfl, rfl, rfl⟩, ⟨_, rfl, rfl, rfl⟩, ⟨_, rfl, rfl, rfl⟩, ⟨_, rfl, rfl, rfl⟩, ⟨_, rfl, rfl, rfl⟩, ⟨_, rfl, rfl, rfl⟩, ⟨_, rfl, rfl, rfl⟩, ⟨_, rfl, rfl, rfl⟩, trivial⟩, ⟨⟨_, _, rfl, rfl, rfl, rfl⟩, ⟨_, _, rfl, rfl, rfl, rfl⟩, ⟨_, _, rfl, rfl, rfl, rfl⟩, ⟨_, _, rfl, rfl, rfl, rfl⟩, trivial⟩, by rw [hk]; decide⟩⟩
                  ·
                    refine ⟨by omega, hJ.next he2, by simp; omega, by omega, fun t ht => ?_⟩
                    rcases List.mem_append.1 ht with h | h
                    · exact htm2 t h
                    · have h := List.mem_singleton.1 h; omega
                  · omega
                ·
                  have c3_ := c3
                  try simp only [decide_eq_true_eq, decide_eq_false_iff_not, Bool.not_eq_true', Bool.not_eq_false', Bool.not_true, Bool.not_false, Bool.not_eq_eq_eq_not, Int.not_lt, Int.not_le] at c3
                  refine w_exit ?_
                  refine q_then_exit ?_
                  refine q_then_exit ?_
                  refine q_block_exit ?_
                  refine q_then ?_
                  refine w_R ?_
                  refine r_op tabOk hnt rfl (s_move rfl ?_) 
                  refine r_op tabOk hnt rfl (s_move rfl ?_) 
                  refine r_op tabOk hnt rfl (s_cvT tab_41 tab_9 rfl tab_5 rfl rfl (hM_sl (f := enc8) rfl) ?_) 
                  refine r_op tabOk hnt rfl (s_mkM (f := encT) [F] tab_59 rfl tab_9 ⟨rfl, by decide⟩ (by decide) rfl rfl rfl rfl ?_) 
                  refine r_op tabOk hnt rfl (s_appR0 (f := encT) (l := ws) (xs := [F]) tab_59 rfl tab_9 ⟨rfl, by decide, by decide⟩ (srcM tab_59 rfl (hM_ref0 (f := encT) rfl rfl)) rfl rfl (by first | omega | (simp; omega)) ?_) 
                  refine r_op tabOk hnt rfl (s_assign rfl ?_) 
                  refine r_set [(1, pS 1 cl_rows (encS 1 enc8) rows), (5, pI (1 + (within addr 0 246))), (6, PV.ref 0 0 none), (7, PV.ref 1 0 none), (8, PV.ref 5 0 none), (9, pI nw), (10, pN i), (29, pN i), (30, pB (decide (((i : Nat) : Int) < 12))), (64, pI 0), (65, pB (!decide (0 = 0))), (68, pI (1 + within addr 0 246)), (69, pI (1 + (within addr 0 246))), (70, pB (!decide (1 + within addr 0 246 = 1 + (within addr 0 246)))), (73, pS 1 false enc8 q), (74, pT q), (75, PV.ref 3 0 none), (76, pT q), (77, pB (!decide (q = q)))] [(5, oB true 1 encT (ws ++ [F])), (4, oB true 1 encT [F]), (0, oB true 1 enc8 am), (1, oB true 1 encI tn), (3, oB false 1 enc8 q)] 6 ⟨rfl, rfl, rfl, rfl, rfl, rfl, rfl, rfl, rfl, rfl, rfl, rfl, rfl, rfl, rfl, rfl, rfl, rfl, rfl, trivial⟩ rfl rfl ?_
                  refine r_end ?_
                  refine q_block ?_
                  refine q_then ?_
                  refine w_R ?_
                  refine r_op tabOk hnt rfl (s_move rfl ?_) 
                  refine r_op tabOk hnt rfl (s_addN (a := i) (b := 1) rfl rfl (by omega) (by omega) (by omega) ?_) 
                  refine r_op tabOk hnt rfl (s_assign rfl ?_) 
                  refine r_end ?_
                  refine q_then ?_
                  refine ⟨(am), (tn), (ws ++ [F]), (nw), (i + 1), ?_, ?_, ⟨[(0, 0), (1, 1), (2, 5)], by rw [hk]; decide, ⟨⟨_, rfl, rfl, rfl⟩, ⟨_, rfl, rfl, rfl⟩, ⟨_, rfl, rfl, rfl⟩, ⟨_, rfl, rfl, rfl⟩, ⟨_, rfl, rfl, rfl⟩, ⟨_, rfl, rfl, rfl⟩, ⟨_, rfl, rfl, rfl⟩, trivial⟩, ⟨⟨_, _, rfl, rfl, rfl, rfl⟩, ⟨_, _, rfl, rfl, rfl, rfl⟩, ⟨_, _, rfl, rfl, rfl, rfl⟩, trivial⟩, by rw [hk]; decide⟩⟩
                  ·
                    obtain rfl : z = F.length := by omega
                    refine ⟨by omega, by omega, hJ.done (by omega), by omega, by simp [hws], by omega, by omega, htm2⟩
                  · omega
          ·
            exact absurd g3 (by simp)
        ·
          exact absurd g2 (by simp)
      ·
        have c1_ := c1
        try simp only [decide_eq_true_eq, decide_eq_false_iff_not, Bool.not_eq_true', Bool.not_eq_false', Bool.not_true, Bool.not_false, Bool.not_eq_eq_eq_not, Int.not_lt, Int.not_le] at c1
        refine w_exit ?_
        refine q_then_exit ?_
        refine q_then_exit ?_
        refine q_block_exit ?_
        refine q_then ?_
        refine w_seq ?_
        have hlen := hB.len
        refine w_R ?_
        refine r_op tabOk hnt rfl (s_move rfl ?_) 
        refine r_op tabOk hnt rfl (s_move rfl ?_) 
        refine r_op tabOk hnt rfl (s_callX (r2 := pS 1 true (encS 1 enc8) (splitV tm al)) (nx1 := 3) (H2 := [(0, oB false 1 enc8 al), (1, oB false 1 encI tm), (2, oB true 1 encT ws)]) (H3 := [(0, oB false 1 enc8 al), (1, oB false 1 encI tm), (2, oB true 1 encT ws)]) [] [] rfl rfl rfl (handed_of (by decide) trivial) rfl rfl rfl rfl rfl rfl (w_rtu_Split tm false al false (by omega) (by omega) (by intro t ht; have := htm t ht; omega)) rfl (dist_of rfl) rfl rfl rfl rfl ?_) 
        refine r_op tabOk hnt rfl (s_assign rfl ?_) 
        refine r_set [(8, PV.ref 2 0 none), (19, pS 1 true (encS 1 enc8) (splitV tm al))] [(0, oB false 1 enc8 al), (1, oB false 1 encI tm), (2, oB true 1 encT ws)] 3 ⟨rfl, rfl, trivial⟩ rfl rfl ?_
        refine r_end ?_
        refine q_then ?_
        refine w_seq ?_
        refine w_seq ?_
        have hsp := hB.split
        refine w_eq (s := 19) (y := pS 1 true (encS 1 enc8) ws) rfl (congrArg (fun z => pS 1 true (encS 1 enc8) z) (show (splitV tm al) = ws by exact hsp)) ?_
        refine w_R ?_
        refine r_op tabOk hnt rfl (s_move rfl ?_) 
        refine r_op tabOk hnt rfl (s_lenM (l := ws) tab_58 rfl (hM_sl (f := (encS 1 enc8)) rfl) ?_) 
        refine r_op tabOk hnt rfl (s_move rfl ?_) 
        refine r_op tabOk hnt rfl (s_lenM (l := ws) tab_59 rfl (hM_ref0 (f := encT) rfl rfl) ?_) 
        refine r_op tabOk hnt rfl (s_neq rfl rfl ?_) 
        refine r_end ?_
        refine q_then ?_
        refine w_if rfl (fun c4 => ?_) (fun c4 => ?_)
        ·
          have c4_ := c4
          exact absurd c4 (by simp)
        ·
          have c4_ := c4
          try simp only [decide_eq_true_eq, decide_eq_false_iff_not, Bool.not_eq_true', Bool.not_eq_false', Bool.not_true, Bool.not_false, Bool.not_eq_eq_eq_not, Int.not_lt, Int.not_le] at c4
          refine w_skip ?_
          refine q_then ?_
          refine w_seq ?_
          refine w_seq ?_
          refine w_R ?_
          refine r_op tabOk hnt rfl (s_move rfl ?_) 
          refine r_op tabOk hnt rfl (s_lenM (l := ws) tab_58 rfl (hM_sl (f := (encS 1 enc8)) rfl) ?_) 
          refine r_op tabOk hnt rfl (s_move rfl ?_) 
          refine r_end ?_
          refine q_then ?_
          refine w_block ?_
          refine loop1 (fun (y : Nat) => y ≤ ws.length) (fun (y : Nat) => [(8, PV.ref 0 0 none), (19, pS 1 true (encS 1 enc8) ws), (112, pN ws.length), (113, pN y)]) 1 (fun (y : Nat) => [(0, oB true 1 encT ws)]) (fun (y : Nat) => ws.length - y) (0) ?_ ⟨[(0, 2)], by rw [hk]; decide, ⟨⟨_, rfl, rfl, rfl⟩, ⟨_, rfl, rfl, rfl⟩, ⟨_, rfl, rfl, rfl⟩, ⟨_, rfl, rfl, rfl⟩, trivial⟩, ⟨⟨_, _, rfl, rfl, rfl, rfl⟩, trivial⟩, by rw [hk]; decide⟩ ?_
          · omega
          ·
            intro y hI
            refine w_seq ?_
            refine w_R ?_
            refine r_op tabOk hnt rfl (s_lss rfl rfl ?_) 
            refine r_end ?_
            refine q_then ?_
            refine w_seq ?_
            refine w_if rfl (fun c5 => ?_) (fun c5 => ?_)
            ·
              have c5_ := c5
              try simp only [decide_eq_true_eq, decide_eq_false_iff_not, Bool.not_eq_true', Bool.not_eq_false', Bool.not_true, Bool.not_false, Bool.not_eq_eq_eq_not, Int.not_lt, Int.not_le] at c5
              refine w_skip ?_
              refine q_then ?_
              refine w_seq ?_
              refine w_block ?_
              refine w_seq ?_
              refine w_R ?_
              refine r_op tabOk hnt rfl (s_move rfl ?_) 
              refine r_op tabOk hnt rfl (s_assign rfl ?_) 
              refine r_end ?_
              refine q_then ?_
              refine w_seq ?_
              refine W_drawn tabOk mixed hnt [[], [], [0, 1], [0, 1, 2], [0, 1, 2, 3], [], [], [5, 6], [5, 6, 7], [0, 1, 2, 3, 4, 5, 6, 7, 8]] (by kernel_rfl) ?_
              refine d_op ?_
              refine x_run0 [(19, pS 1 true (encS 1 enc8) ws)] [] rfl rfl rfl rfl (s_move rfl ⟨rfl, rfl, rfl⟩) ?_
              refine d_op ?_
              refine x_run0 [(20, pN y)] [] rfl rfl rfl rfl (s_move rfl ⟨rfl, rfl, rfl⟩) ?_
              refine d_op ?_
              obtain ⟨e3, he3⟩ := get_of_lt ws (i := y) (by omega)
              refine x_run0 [(116, pS 1 true (encS 1 enc8) ws), (117, pN y)] [0, 1] rfl rfl rfl rfl (s_iaM (q := y) (b := e3) (f := (encS 1 enc8)) tab_58 rfl tab_41 rfl rfl (by omega) rfl he3 ⟨rfl, rfl, rfl⟩) ?_
              refine d_op ?_
              refine x_run0 [(118, PV.f (.ro (FV.sl 1 false (List.map enc8 e3))))] [0, 1, 2] rfl rfl rfl rfl (s_load_ro1 tab_41 rfl rfl rfl rfl ⟨rfl, rfl, rfl⟩) ?_
              refine d_op ?_
              refine x_run0 [(119, pS 1 false enc8 e3)] [0, 1, 2, 3] rfl rfl rfl rfl (s_cvT tab_41 tab_9 rfl tab_5 rfl rfl (hM_sl (f := enc8) rfl) ⟨rfl, rfl, rfl⟩) ?_
              refine d_op ?_
              refine x_run0 [(8, PV.ref 0 0 none)] [] rfl rfl rfl rfl (s_move rfl ⟨rfl, rfl, rfl⟩) ?_
              refine d_op ?_
              refine x_run0 [(20, pN y)] [] rfl rfl rfl rfl (s_move rfl ⟨rfl, rfl, rfl⟩) ?_
              refine d_op ?_
              refine x_run [(121, PV.ref 0 0 none), (122, pN y)] [5, 6] [(0, oB true 1 encT ws)] [] [(0, oB true 1 encT ws)] [] [(0, oB true 1 encT ws)] rfl rfl rfl rfl rfl rfl (s_iaR0 (q := y) (f := encT) (l := ws) tab_59 rfl tab_9 rfl rfl (by omega) rfl rfl (by omega) ⟨rfl, rfl, rfl⟩) rfl ⟨rfl, trivial⟩ rfl rfl ?_
              refine d_op ?_
              refine x_run [(123, PV.ep 0 y 0)] [5, 6, 7] [(0, oB true 1 encT ws)] [] [(0, oB true 1 encT ws)] [] [(0, oB true 1 encT ws)] rfl rfl rfl rfl rfl rfl (s_ldM (b := e3) (f := encT) tab_9 rfl rfl rfl rfl he3 rfl ⟨rfl, rfl, rfl⟩) rfl ⟨rfl, trivial⟩ rfl rfl ?_
              refine d_op ?_
              refine x_run0 [(120, pT e3), (124, pT e3)] [0, 1, 2, 3, 4, 5, 6, 7, 8] rfl rfl rfl rfl (s_netext (l := e3) (m := e3) rfl rfl ⟨rfl, rfl, rfl⟩) ?_
              refine d_end ⟨by kernel_rfl, ?_⟩
              refine q_then ?_
              refine w_if rfl (fun c6 => ?_) (fun c6 => ?_)
              ·
                have c6_ := c6
                exact absurd c6 (by simp)
              ·
                have c6_ := c6
                try simp only [decide_eq_true_eq, decide_eq_false_iff_not, Bool.not_eq_true', Bool.not_eq_false', Bool.not_true, Bool.not_false, Bool.not_eq_eq_eq_not, Int.not_lt, Int.not_le] at c6
                refine w_skip ?_
                refine q_block ?_
                refine q_then ?_
                refine w_R ?_
                refine r_op tabOk hnt rfl (s_addN (a := y) (b := 1) rfl rfl (by omega) (by omega) (by omega) ?_) 
                refine r_op tabOk hnt rfl (s_move rfl ?_) 
                refine r_end ?_
                refine q_then ?_
                refine ⟨(y + 1), ?_, ?_, ⟨[(0, 0)], by rw [hk]; decide, ⟨⟨_, rfl, rfl, rfl⟩, ⟨_, rfl, rfl, rfl⟩, ⟨_, rfl, rfl, rfl⟩, ⟨_, rfl, rfl, rfl⟩, trivial⟩, ⟨⟨_, _, rfl, rfl, rfl, rfl⟩, trivial⟩, by rw [hk]; decide⟩⟩
                ·
                  omega
                · omega
            ·
              have c5_ := c5
              try simp only [decide_eq_true_eq, decide_eq_false_iff_not, Bool.not_eq_true', Bool.not_eq_false', Bool.not_true, Bool.not_false, Bool.not_eq_eq_eq_not, Int.not_lt, Int.not_le] at c5
              refine w_exit ?_
              refine q_then_exit ?_
              refine q_then_exit ?_
              refine q_block_exit ?_
              refine q_then ?_
              refine w_seq ?_
              refine w_R ?_
              refine r_op tabOk hnt rfl (s_callF rfl rfl rfl (w_burgagelaw5_known) rfl ?_) 
              refine r_op tabOk hnt rfl (s_assign rfl ?_) 
              refine r_end ?_
              refine q_then ?_
              refine w_ret ?_
              exact fin_plain (ret_tmp rfl ret_nil) rfl rfl ⟨rfl, rfl, rfl⟩
    ·
      have g1' := g1
      try simp only [decide_eq_true_eq, decide_eq_false_iff_not, Bool.not_eq_true', Bool.not_eq_false', Bool.not_true, Bool.not_false, Bool.not_eq_eq_eq_not, Int.not_lt, Int.not_le] at g1'
      refine r_if tabOk hnt rfl rfl rfl (fun e => absurd (e.symm.trans g1) (by decide)) (fun _ => ?_)
      refine r_op tabOk hnt rfl (s_pick_f rfl g1 rfl ?_) 
      refine r_end ?_
      refine q_then ?_
      refine w_if rfl (fun e => absurd e (by decide)) (fun _ => ?_)
      refine w_exit ?_
      refine q_then_exit ?_
      refine q_then_exit ?_
      refine q_block_exit ?_
      refine q_then ?_
      refine w_seq ?_
      have hlen := hB.len
      refine w_R ?_
      refine r_op tabOk hnt rfl (s_move rfl ?_) 
      refine r_op tabOk hnt rfl (s_move rfl ?_) 
      refine r_op tabOk hnt rfl (s_callX (r2 := pS 1 true (encS 1 enc8) (splitV tm al)) (nx1 := 3) (H2 := [(0, oB false 1 enc8 al), (1, oB false 1 encI tm), (2, oB true 1 encT ws)]) (H3 := [(0, oB false 1 enc8 al), (1, oB false 1 encI tm), (2, oB true 1 encT ws)]) [] [] rfl rfl rfl (handed_of (by decide) trivial) rfl rfl rfl rfl rfl rfl (w_rtu_Split tm false al false (by omega) (by omega) (by intro t ht; have := htm t ht; omega)) rfl (dist_of rfl) rfl rfl rfl rfl ?_) 
      refine r_op tabOk hnt rfl (s_assign rfl ?_) 
      refine r_set [(8, PV.ref 2 0 none), (19, pS 1 true (encS 1 enc8) (splitV tm al))] [(0, oB false 1 enc8 al), (1, oB false 1 encI tm), (2, oB true 1 encT ws)] 3 ⟨rfl, rfl, trivial⟩ rfl rfl ?_
      refine r_end ?_
      refine q_then ?_
      refine w_seq ?_
      refine w_seq ?_
      have hsp := hB.split
      refine w_eq (s := 19) (y := pS 1 true (encS 1 enc8) ws) rfl (congrArg (fun z => pS 1 true (encS 1 enc8) z) (show (splitV tm al) = ws by exact hsp)) ?_
      refine w_R ?_
      refine r_op tabOk hnt rfl (s_move rfl ?_) 
      refine r_op tabOk hnt rfl (s_lenM (l := ws) tab_58 rfl (hM_sl (f := (encS 1 enc8)) rfl) ?_) 
      refine r_op tabOk hnt rfl (s_move rfl ?_) 
      refine r_op tabOk hnt rfl (s_lenM (l := ws) tab_59 rfl (hM_ref0 (f := encT) rfl rfl) ?_) 
      refine r_op tabOk hnt rfl (s_neq rfl rfl ?_) 
      refine r_end ?_
      refine q_then ?_
      refine w_if rfl (fun c7 => ?_) (fun c7 => ?_)
      ·
        have c7_ := c7
        exact absurd c7 (by simp)
      ·
        have c7_ := c7
        try simp only [decide_eq_true_eq, decide_eq_false_iff_not, Bool.not_eq_true', Bool.not_eq_false', Bool.not_true, Bool.not_false, Bool.not_eq_eq_eq_not, Int.not_lt, Int.not_le] at c7
        refine w_skip ?_
        refine q_then ?_
        refine w_seq ?_
        refine w_seq ?_
        refine w_R ?_
        refine r_op tabOk hnt rfl (s_move rfl ?_) 
        refine r_op tabOk hnt rfl (s_lenM (l := ws) tab_58 rfl (hM_sl (f := (encS 1 enc8)) rfl) ?_) 
        refine r_op tabOk hnt rfl (s_move rfl ?_) 
        refine r_end ?_
        refine q_then ?_
        refine w_block ?_
        refine loop1 (fun (y : Nat) => y ≤ ws.length) (fun (y : Nat) => [(8, PV.ref 0 0 none), (19, pS 1 true (encS 1 enc8) ws), (112, pN ws.length), (113, pN y)]) 1 (fun (y : Nat) => [(0, oB true 1 encT ws)]) (fun (y : Nat) => ws.length - y) (0) ?_ ⟨[(0, 2)], by rw [hk]; decide, ⟨⟨_, rfl, rfl, rfl⟩, ⟨_, rfl, rfl, rfl⟩, ⟨_, rfl, rfl, rfl⟩, ⟨_, rfl, rfl, rfl⟩, trivial⟩, ⟨⟨_, _, rfl, rfl, rfl, rfl⟩, trivial⟩, by rw [hk]; decide⟩ ?_
        · omega
        ·
          intro y hI
          refine w_seq ?_
          refine w_R ?_
          refine r_op tabOk hnt rfl (s_lss rfl rfl ?_) 
          refine r_end ?_
          refine q_then ?_
          refine w_seq ?_
          refine w_if rfl (fun c8 => ?_) (fun c8 => ?_)
          ·
            have c8_ := c8
            try simp only [decide_eq_true_eq, decide_eq_false_iff_not, Bool.not_eq_true', Bool.not_eq_false', Bool.not_true, Bool.not_false, Bool.not_eq_eq_eq_not, Int.not_lt, Int.not_le] at c8
            refine w_skip ?_
            refine q_then ?_
            refine w_seq ?_
            refine w_block ?_
            refine w_seq ?_
            refine w_R ?_
            refine r_op tabOk hnt rfl (s_move rfl ?_) 
            refine r_op tabOk hnt rfl (s_assign rfl ?_) 
            refine r_end ?_
            refine q_then ?_
            refine w_seq ?_
            refine W_drawn tabOk mixed hnt [[], [], [0, 1], [0, 1, 2], [0, 1, 2, 3], [], [], [5, 6], [5, 6, 7], [0, 1, 2, 3, 4, 5, 6, 7, 8]] (by kernel_rfl) ?_
            refine d_op ?_
            refine x_run0 [(19, pS 1 true (encS 1 enc8) ws)] [] rfl rfl rfl rfl (s_move rfl ⟨rfl, rfl, rfl⟩) ?_
            refine d_op ?_
            refine x_run0 [(20, pN y)] [] rfl rfl rfl rfl (s_move rfl ⟨rfl, rfl, rfl⟩) ?_
            refine d_op ?_
            obtain ⟨e4, he4⟩ := get_of_lt ws (i := y) (by omega)
            refine x_run0 [(116, pS 1 true (encS 1 enc8) ws), (117, pN y)] [0, 1] rfl rfl rfl rfl (s_iaM (q := y) (b := e4) (f := (encS 1 enc8)) tab_58 rfl tab_41 rfl rfl (by omega) rfl he4 ⟨rfl, rfl, rfl⟩) ?_
            refine d_op ?_
            refine x_run0 [(118, PV.f (.ro (FV.sl 1 false (List.map enc8 e4))))] [0, 1, 2] rfl rfl rfl rfl (s_load_ro1 tab_41 rfl rfl rfl rfl ⟨rfl, rfl, rfl⟩) ?_
            refine d_op ?_
            refine x_run0 [(119, pS 1 false enc8 e4)] [0, 1, 2, 3] rfl rfl rfl rfl (s_cvT tab_41 tab_9 rfl tab_5 rfl rfl (hM_sl (f := enc8) rfl) ⟨rfl, rfl, rfl⟩) ?_
            refine d_op ?_
            refine x_run0 [(8, PV.ref 0 0 none)] [] rfl rfl rfl rfl (s_move rfl ⟨rfl, rfl, rfl⟩) ?_
            refine d_op ?_
            refine x_run0 [(20, pN y)] [] rfl rfl rfl rfl (s_move rfl ⟨rfl, rfl, rfl⟩) ?_
            refine d_op ?_
            refine x_run [(121, PV.ref 0 0 none), (122, pN y)] [5, 6] [(0, oB true 1 encT ws)] [] [(0, oB true 1 encT ws)] [] [(0, oB true 1 encT ws)] rfl rfl rfl rfl rfl rfl (s_iaR0 (q := y) (f := encT) (l := ws) tab_59 rfl tab_9 rfl rfl (by omega) rfl rfl (by omega) ⟨rfl, rfl, rfl⟩) rfl ⟨rfl, trivial⟩ rfl rfl ?_
            refine d_op ?_
            refine x_run [(123, PV.ep 0 y 0)] [5, 6, 7] [(0, oB true 1 encT ws)] [] [(0, oB true 1 encT ws)] [] [(0, oB true 1 encT ws)] rfl rfl rfl rfl rfl rfl (s_ldM (b := e4) (f := encT) tab_9 rfl rfl rfl rfl he4 rfl ⟨rfl, rfl, rfl⟩) rfl ⟨rfl, trivial⟩ rfl rfl ?_
            refine d_op ?_
            refine x_run0 [(120, pT e4), (124, pT e4)] [0, 1, 2, 3, 4, 5, 6, 7, 8] rfl rfl rfl rfl (s_netext (l := e4) (m := e4) rfl rfl ⟨rfl, rfl, rfl⟩) ?_
            refine d_end ⟨by kernel_rfl, ?_⟩
            refine q_then ?_
            refine w_if rfl (fun c9 => ?_) (fun c9 => ?_)
            ·
              have c9_ := c9
              exact absurd c9 (by simp)
            ·
              have c9_ := c9
              try simp only [decide_eq_true_eq, decide_eq_false_iff_not, Bool.not_eq_true', Bool.not_eq_false', Bool.not_true, Bool.not_false, Bool.not_eq_eq_eq_not, Int.not_lt, Int.not_le] at c9
              refine w_skip ?_
              refine q_block ?_
              refine q_then ?_
              refine w_R ?_
              refine r_op tabOk hnt rfl (s_addN (a := y) (b := 1) rfl rfl (by omega) (by omega) (by omega) ?_) 
              refine r_op tabOk hnt rfl (s_move rfl ?_) 
              refine r_end ?_
              refine q_then ?_
              refine ⟨(y + 1), ?_, ?_, ⟨[(0, 0)], by rw [hk]; decide, ⟨⟨_, rfl, rfl, rfl⟩, ⟨_, rfl, rfl, rfl⟩, ⟨_, rfl, rfl, rfl⟩, ⟨_, rfl, rfl, rfl⟩, trivial⟩, ⟨⟨_, _, rfl, rfl, rfl, rfl⟩, trivial⟩, by rw [hk]; decide⟩⟩
              ·
                omega
              · omega
          ·
            have c8_ := c8
            try simp only [decide_eq_true_eq, decide_eq_false_iff_not, Bool.not_eq_true', Bool.not_eq_false', Bool.not_true, Bool.not_false, Bool.not_eq_eq_eq_not, Int.not_lt, Int.not_le] at c8
            refine w_exit ?_
            refine q_then_exit ?_
            refine q_then_exit ?_
            refine q_block_exit ?_
            refine q_then ?_
            refine w_seq ?_
            refine w_R ?_
            refine r_op tabOk hnt rfl (s_callF rfl rfl rfl (w_burgagelaw5_known) rfl ?_) 
            refine r_op tabOk hnt rfl (s_assign rfl ?_) 
            refine r_end ?_
            refine q_then ?_
            refine w_ret ?_
            exact fin_plain (ret_tmp rfl ret_nil) rfl rfl ⟨rfl, rfl, rfl⟩

theorem w_burgagelaw5_RtuTells (addr : Int) (b : List UInt8) (cl_b : Bool) (n : Int) (turn : UInt8) (ts : List Int) (cl_ts : Bool) (gaps : List UInt8) (cl_gaps : Bool) (hb : b.length ≤ 1048576) (ht : ts.length ≤ 1048576) (hg : gaps.length ≤ 140737488351232) (hn : -9223372036854775808 ≤ n ∧ n ≤ 9223372036854775807) (ha : -9223372036854775808 ≤ addr ∧ addr ≤ 9223372036854775807) (hts : ∀ t ∈ ts, -9223372036854775808 ≤ t ∧ t ≤ 9223372036854775807) :
    T Try.prog 8 [pI addr, pS 1 cl_b enc8 b, pI n, p8 turn, pS 1 cl_ts encI ts, pS 1 cl_gaps enc8 gaps] 0 [] (Ret (pB true) 0 []) := by
  refine t_fun tabOk (n := 110) (rs := [.tmp 12]) Try.func8 rfl rfl rfl rfl (Nat.le_of_ble_eq_true rfl) ?_
  intro c hnt hk
  refine w_seq ?_
  refine w_R ?_
  refine r_op tabOk hnt rfl (s_assign rfl ?_) 
  refine r_end ?_
  refine q_then ?_
  refine w_seq ?_
  refine w_R ?_
  refine r_op tabOk hnt rfl (s_move rfl ?_) 
  refine r_op tabOk hnt rfl (s_maskI 8 (by decide) rfl rfl (by decide) ?_) 
  refine r_op tabOk hnt rfl (s_addN (a := 1) (b := (addr % 2 ^ 8).toNat) rfl rfl (by omega) (by omega) (by omega) ?_) 
  refine r_op tabOk hnt rfl (s_move rfl ?_) 
  refine r_op tabOk hnt rfl (s_move rfl ?_) 
  refine r_op tabOk hnt rfl (s_lenM (l := b) tab_41 rfl (hM_sl (f := enc8) rfl) ?_) 
  refine r_op tabOk hnt rfl (s_minN (a := b.length) (b := 200) rfl (by omega) (by omega) ?_) 
  refine r_op tabOk hnt rfl (s_cutM_hi (b := min b.length 200) (f := enc8) (l := b) tab_41 rfl tab_5 ⟨rfl, by decide⟩ rfl (bound_some rfl (by omega)) (by omega) ?_) 
  refine r_op tabOk hnt rfl (s_callF rfl rfl rfl (w_burgageref5_Frame ((1 + ((addr % 2 ^ 8).toNat) : Nat) : Int) (b.take (min b.length 200)) false (by first | omega | assumption | (simp; omega) | decide | (simp; done))) rfl ?_) 
  refine r_op tabOk hnt rfl (s_move rfl ?_) 
  refine r_op tabOk hnt rfl (s_extract rfl rfl ?_) 
  refine r_op tabOk hnt rfl (s_extract rfl rfl ?_) 
  refine r_op tabOk hnt rfl (s_assign rfl ?_) 
  refine r_op tabOk hnt rfl (s_assign rfl ?_) 
  refine r_end ?_
  refine q_then ?_
  refine w_seq ?_
  obtain ⟨X, hX⟩ : ∃ z, z = frameV ((1 + (addr % 2 ^ 8).toNat : Nat) : Int) (b.take (min b.length 200)) := ⟨_, rfl⟩
  have hfl : X.length ≤ 203 := by rw [hX]; exact Nat.le_trans (frameV_len _ _) (by rw [List.length_take]; omega)
  refine w_eq (s := 13) (y := pS 1 false enc8 X) rfl (congrArg (fun z => pS 1 false enc8 z) (show (frameV ((1 + ((addr % 2 ^ 8).toNat) : Nat) : Int) (b.take (min b.length 200))) = X by exact hX.symm)) ?_
  clear hX
  refine w_R ?_
  refine r_op tabOk hnt rfl (s_mkM (f := enc8) ([] : List UInt8) tab_41 rfl tab_5 ⟨rfl, by decide⟩ (by decide) rfl rfl rfl rfl ?_) 
  refine r_op tabOk hnt rfl (s_move rfl ?_) 
  refine r_op tabOk hnt rfl (s_appR0 (f := enc8) (l := ([] : List UInt8)) (xs := X) tab_41 rfl tab_5 ⟨rfl, by decide, by decide⟩ (srcM tab_41 rfl (hM_sl (f := enc8) rfl)) rfl rfl (by first | omega | (simp; omega)) ?_) 
  refine r_op tabOk hnt rfl (s_mkM (f := enc8) ([1] : List UInt8) tab_41 rfl tab_5 ⟨rfl, by decide⟩ (by decide) rfl rfl rfl rfl ?_) 
  refine r_op tabOk hnt rfl (s_appR0 (f := enc8) (l := X) (xs := ([1] : List UInt8)) tab_41 rfl tab_5 ⟨rfl, by decide, by decide⟩ (srcM tab_41 rfl (hM_ref0 (f := enc8) rfl rfl)) rfl rfl (by first | omega | (simp; omega)) ?_) 
  refine r_op tabOk hnt rfl (s_assign rfl ?_) 
  refine r_set [(0, pI addr), (1, pS 1 cl_b enc8 b), (2, pI n), (3, p8 turn), (4, pS 1 cl_ts encI ts), (5, pS 1 cl_gaps enc8 gaps), (13, pS 1 false enc8 X), (15, PV.ref 3 0 none)] [(3, oB true 1 enc8 (X ++ ([1] : List UInt8))), (2, oB true 1 enc8 ([1] : List UInt8))] 4 ⟨rfl, rfl, rfl, rfl, rfl, rfl, rfl, rfl, trivial⟩ rfl rfl ?_
  refine r_end ?_
  refine q_then ?_
  refine w_seq ?_
  obtain ⟨Y, hY⟩ : ∃ z, z = X ++ ([1] : List UInt8) := ⟨_, rfl⟩
  have hYl : Y.length = X.length + 1 := by rw [hY]; simp
  refine w_H (H' := [(3, oB true 1 enc8 Y), (2, oB true 1 enc8 ([1] : List UInt8))]) (congrArg (fun z => ([(3, oB true 1 enc8 z), (2, oB true 1 enc8 ([1] : List UInt8))] : Heap)) (show (X ++ ([1] : List UInt8)) = Y by exact hY.symm)) ?_
  refine w_R ?_
  refine r_op tabOk hnt rfl (s_move rfl ?_) 
  refine r_op tabOk hnt rfl (s_move rfl ?_) 
  refine r_op tabOk hnt rfl (s_move rfl ?_) 
  refine r_op tabOk hnt rfl (s_lenM (l := Y) tab_41 rfl (hM_ref0 (f := enc8) rfl rfl) ?_) 
  refine r_op tabOk hnt rfl (s_subN (a := Y.length) (b := 1) rfl rfl (by omega) (by omega) (by omega) ?_) 
  refine r_op tabOk hnt rfl (s_callF rfl rfl rfl (w_burgagebook_Within n 0 ((Y.length - 1 : Nat) : Int) (by first | omega | assumption | (simp; omega) | decide | (simp; done))) rfl ?_) 
  have hwk := within_between n (lo := 0) (hi := ((Y.length - 1 : Nat) : Int)) (by first | omega | (simp; omega))
  obtain ⟨kk, hkk⟩ : ∃ k : Nat, within n 0 (((Y.length - 1 : Nat) : Int)) = (k : Int) := ⟨_, (within_nat n (hi := ((Y.length - 1 : Nat) : Int)) (by first | omega | (simp; omega))).symm⟩
  refine r_eq (s := 41) (y := pN kk) rfl (congrArg (fun z : Int => pI z) (show (within n 0 ((Y.length - 1 : Nat) : Int)) = ((kk : Nat) : Int) by exact hkk)) ?_
  refine r_op tabOk hnt rfl (s_iaR0 (q := kk) (f := enc8) (l := Y) tab_41 rfl tab_5 rfl rfl (by omega) rfl rfl (by omega) ?_) 
  obtain ⟨e1, he1⟩ := get_of_lt Y (i := kk) (by omega)
  refine r_op tabOk hnt rfl (s_ldM (b := e1) (f := enc8) tab_5 rfl rfl rfl rfl he1 rfl ?_) 
  refine r_op tabOk hnt rfl (s_move rfl ?_) 
  refine r_op tabOk hnt rfl (s_xor8 (a := e1) (b := turn) rfl rfl ?_) 
  refine r_op tabOk hnt rfl (s_iaR0 (q := kk) (f := enc8) (l := Y) tab_41 rfl tab_5 rfl rfl (by omega) rfl rfl (by omega) ?_) 
  refine r_op tabOk hnt rfl (s_stM (y0 := e1) (z := e1 ^^^ turn) (f := enc8) tab_5 rfl rfl rfl rfl rfl he1 (Nat.le_of_ble_eq_true rfl) rfl rfl (by simp) rfl ?_) 
  refine r_set [(0, pI addr), (1, pS 1 cl_b enc8 b), (4, pS 1 cl_ts encI ts), (5, pS 1 cl_gaps enc8 gaps), (13, pS 1 false enc8 X), (15, PV.ref 3 0 none)] [(3, oB true 1 enc8 (Y.set kk (e1 ^^^ turn))), (2, oB true 1 enc8 ([1] : List UInt8))] 4 ⟨rfl, rfl, rfl, rfl, rfl, rfl, trivial⟩ rfl rfl ?_
  refine r_end ?_
  refine q_then ?_
  refine w_seq ?_
  obtain ⟨Z, hZ⟩ : ∃ z, z = Y.set kk (e1 ^^^ turn) := ⟨_, rfl⟩
  have hZl : Z.length = Y.length := by rw [hZ, List.length_set]
  refine w_H (H' := [(3, oB true 1 enc8 Z), (2, oB true 1 enc8 ([1] : List UInt8))]) (congrArg (fun z => ([(3, oB true 1 enc8 z), (2, oB true 1 enc8 ([1] : List UInt8))] : Heap)) (show (Y.set kk (e1 ^^^ turn)) = Z by exact hZ.symm)) ?_
  refine w_R ?_
  refine r_op tabOk hnt rfl (s_assign rfl ?_) 
  refine r_end ?_
  refine q_then ?_
  refine w_seq ?_
  refine w_R ?_
  refine r_op tabOk hnt rfl (s_move rfl ?_) 
  refine r_op tabOk hnt rfl (s_maskI 16 (by decide) rfl rfl (by decide) ?_) 
  refine r_op tabOk hnt rfl (s_assign rfl ?_) 
  refine r_end ?_
  refine q_then ?_
  refine w_seq ?_
  refine w_seq ?_
  refine w_R ?_
  refine r_op tabOk hnt rfl (s_assign rfl ?_) 
  refine r_end ?_
  refine q_then ?_
  refine w_block ?_
  refine w_adopt (s := 16) (sz := 1) rfl ?_
  refine loop3 (fun (sm : List Int) (now : Int) (i : Nat) => i ≤ 100 ∧ sm.length = i ∧ 0 ≤ now ∧ now ≤ 65536 + 7 * i ∧ ∀ t ∈ sm, 0 ≤ t ∧ t ≤ 70000) (fun (sm : List Int) (now : Int) (i : Nat) => [(0, pI addr), (1, pS 1 cl_b enc8 b), (4, pS 1 cl_ts encI ts), (5, pS 1 cl_gaps enc8 gaps), (13, pS 1 false enc8 X), (15, PV.ref 1 0 none), (16, PV.ref 0 0 none), (17, pI now), (18, pN i)]) 2 (fun (sm : List Int) (now : Int) (i : Nat) => [(0, oB true 1 encI sm), (1, oB true 1 enc8 Z)]) (fun (sm : List Int) (now : Int) (i : Nat) => gaps.length - i) (([] : List Int)) ((((addr % 2 ^ 16).toNat : Nat) : Int)) (0) ?_ ⟨[(0, 4), (1, 3)], by rw [hk]; decide, ⟨⟨_, rfl, rfl, rfl⟩, ⟨_, rfl, rfl, rfl⟩, ⟨_, rfl, rfl, rfl⟩, ⟨_, rfl, rfl, rfl⟩, ⟨_, rfl, rfl, rfl⟩, ⟨_, rfl, rfl, rfl⟩, ⟨_, rfl, rfl, rfl⟩, ⟨_, rfl, rfl, rfl⟩, ⟨_, rfl, rfl, rfl⟩, trivial⟩, ⟨⟨_, _, rfl, rfl, rfl, rfl⟩, ⟨_, _, rfl, rfl, rfl, rfl⟩, trivial⟩, by rw [hk]; decide⟩ ?_
  · exact ⟨by omega, rfl, by omega, by omega, by simp⟩
  ·
    intro sm now i hI
    obtain ⟨hi, hsm, hn0, hn1, hst⟩ := hI
    refine w_seq ?_
    refine w_seq ?_
    refine w_R ?_
    refine r_op tabOk hnt rfl (s_move rfl ?_) 
    refine r_op tabOk hnt rfl (s_move rfl ?_) 
    refine r_op tabOk hnt rfl (s_lenM (l := gaps) tab_41 rfl (hM_sl (f := enc8) rfl) ?_) 
    refine r_op tabOk hnt rfl (s_lss rfl rfl ?_) 
    refine r_op tabOk hnt rfl (s_move rfl ?_) 
    refine r_if tabOk hnt rfl rfl rfl (fun g1 => ?_) (fun g1 => ?_)
    ·
      have g1' := g1
      try simp only [decide_eq_true_eq, decide_eq_false_iff_not, Bool.not_eq_true', Bool.not_eq_false', Bool.not_true, Bool.not_false, Bool.not_eq_eq_eq_not, Int.not_lt, Int.not_le] at g1'
      refine r_op tabOk hnt rfl (s_move rfl ?_) 
      refine r_if tabOk hnt rfl rfl rfl (fun _ => ?_) (fun e => absurd (e.symm.trans g1) (by decide))
      refine r_op tabOk hnt rfl (s_lss rfl rfl ?_) 
      refine r_op tabOk hnt rfl (s_pick_t rfl g1 rfl ?_) 
      refine r_end ?_
      refine q_then ?_
      refine w_if rfl (fun c1 => ?_) (fun c1 => ?_)
      ·
        have c1_ := c1
        try simp only [decide_eq_true_eq, decide_eq_false_iff_not, Bool.not_eq_true', Bool.not_eq_false', Bool.not_true, Bool.not_false, Bool.not_eq_eq_eq_not, Int.not_lt, Int.not_le] at c1
        refine w_skip ?_
        refine q_then ?_
        refine w_seq ?_
        refine w_block ?_
        refine w_seq ?_
        refine w_R ?_
        refine r_op tabOk hnt rfl (s_move rfl ?_) 
        refine r_op tabOk hnt rfl (s_move rfl ?_) 
        refine r_op tabOk hnt rfl (s_move rfl ?_) 
        obtain ⟨e2, he2⟩ := get_of_lt gaps (i := i) (by omega)
        refine r_op tabOk hnt rfl (s_iaM (q := i) (b := e2) (f := enc8) tab_41 rfl tab_5 rfl rfl (by omega) rfl he2 ?_) 
        refine r_op tabOk hnt rfl (s_load_ro1 tab_5 rfl rfl rfl rfl ?_) 
        refine r_op tabOk hnt rfl (s_and8 (a := e2) (b := 7) rfl rfl ?_) 
        refine r_op tabOk hnt rfl (s_cvN (a := UInt8.toNat (e2 &&& 7)) tab_5 tab_2 rfl rfl rfl (by omega) (by have := lt8 (e2 &&& 7); omega) ?_) 
        refine r_op tabOk hnt rfl (s_addi (r := now + ((UInt8.toNat (e2 &&& 7) : Nat) : Int)) rfl rfl rfl (by have := and7 e2; omega) ?_) 
        refine r_op tabOk hnt rfl (s_assign rfl ?_) 
        refine r_end ?_
        refine q_then ?_
        refine w_R ?_
        refine r_op tabOk hnt rfl (s_move rfl ?_) 
        refine r_op tabOk hnt rfl (s_move rfl ?_) 
        refine r_op tabOk hnt rfl (s_mkM (f := encI) [now + ((UInt8.toNat (e2 &&& 7) : Nat) : Int)] tab_54 rfl tab_2 ⟨rfl, by decide⟩ (by decide) rfl rfl rfl rfl ?_) 
        refine r_op tabOk hnt rfl (s_appR0 (f := encI) (l := sm) (xs := [now + ((UInt8.toNat (e2 &&& 7) : Nat) : Int)]) tab_54 rfl tab_2 ⟨rfl, by decide, by decide⟩ (srcM tab_54 rfl (hM_ref0 (f := encI) rfl rfl)) rfl rfl (by first | omega | (simp; omega)) ?_) 
        refine r_op tabOk hnt rfl (s_assign rfl ?_) 
        refine r_set [(0, pI addr), (1, pS 1 cl_b enc8 b), (4, pS 1 cl_ts encI ts), (5, pS 1 cl_gaps enc8 gaps), (13, pS 1 false enc8 X), (15, PV.ref 1 0 none), (16, PV.ref 3 0 none), (17, pI (now + ((UInt8.toNat (e2 &&& 7) : Nat) : Int))), (18, pN i), (54, pN i), (55, pB (decide (((i : Nat) : Int) < 100)))] [(3, oB true 1 encI (sm ++ [now + ((UInt8.toNat (e2 &&& 7) : Nat) : Int)])), (2, oB true 1 encI [now + ((UInt8.toNat (e2 &&& 7) : Nat) : Int)]), (1, oB true 1 enc8 Z)] 4 ⟨rfl, rfl, rfl, rfl, rfl, rfl, rfl, rfl, rfl, rfl, rfl, trivial⟩ rfl rfl ?_
        refine r_end ?_
        refine q_block ?_
        refine q_then ?_
        refine w_R ?_
        refine r_op tabOk hnt rfl (s_move rfl ?_) 
        refine r_op tabOk hnt rfl (s_addN (a := i) (b := 1) rfl rfl (by omega) (by omega) (by omega) ?_) 
        refine r_op tabOk hnt rfl (s_assign rfl ?_) 
        refine r_end ?_
        refine q_then ?_
        refine ⟨(sm ++ [now + ((UInt8.toNat (e2 &&& 7) : Nat) : Int)]), (now + ((UInt8.toNat (e2 &&& 7) : Nat) : Int)), (i + 1), ?_, ?_, ⟨[(0, 3), (1, 1)], by rw [hk]; decide, ⟨⟨_, rfl, rfl, rfl⟩, ⟨_, rfl, rfl, rfl⟩, ⟨_, rfl, rfl, rfl⟩, ⟨_, rfl, rfl, rfl⟩, ⟨_, rfl, rfl, rfl⟩, ⟨_, rfl, rfl, rfl⟩, ⟨_, rfl, rfl, rfl⟩, ⟨_, rfl, rfl, rfl⟩, ⟨_, rfl, rfl, rfl⟩, trivial⟩, ⟨⟨_, _, rfl, rfl, rfl, rfl⟩, ⟨_, _, rfl, rfl, rfl, rfl⟩, trivial⟩, by rw [hk]; decide⟩⟩
        ·
          have h7 := and7 e2
          refine ⟨by omega, by simp [hsm], by omega, by omega, fun t ht => ?_⟩
          rcases List.mem_append.1 ht with h | h
          · exact hst t h
          · have h := List.mem_singleton.1 h; omega
        · omega
      ·
        have c1_ := c1
        try simp only [decide_eq_true_eq, decide_eq_false_iff_not, Bool.not_eq_true', Bool.not_eq_false', Bool.not_true, Bool.not_false, Bool.not_eq_eq_eq_not, Int.not_lt, Int.not_le] at c1
        refine w_exit ?_
        refine q_then_exit ?_
        refine q_then_exit ?_
        refine q_block_exit ?_
        refine q_then ?_
        refine w_seq ?_
        refine w_R ?_
        refine r_op tabOk hnt rfl (s_move rfl ?_) 
        refine r_op tabOk hnt rfl (s_move rfl ?_) 
        refine r_op tabOk hnt rfl (s_callF rfl rfl rfl (w_burgagelaw5_same addr b cl_b (by first | omega | assumption | (simp; omega) | decide | (simp; done))) rfl ?_) 
        refine r_op tabOk hnt rfl (s_move rfl ?_) 
        refine r_if tabOk hnt rfl rfl rfl (fun _ => ?_) (fun e => absurd e (by decide))
        refine r_op tabOk hnt rfl (s_move rfl ?_) 
        refine r_if tabOk hnt rfl rfl rfl (fun _ => ?_) (fun e => absurd e (by decide))
        refine r_op tabOk hnt rfl (s_maskI 8 (by decide) rfl rfl (by decide) ?_) 
        refine r_if tabOk hnt rfl rfl rfl (fun _ => ?_) (fun e => absurd e (by decide))
        refine r_op tabOk hnt rfl (s_addN (a := 1) (b := (addr % 2 ^ 8).toNat) rfl rfl (by omega) (by omega) (by omega) ?_) 
        refine r_if tabOk hnt rfl rfl rfl (fun _ => ?_) (fun e => absurd e (by decide))
        refine r_op tabOk hnt rfl (s_move rfl ?_) 
        refine r_if tabOk hnt rfl rfl rfl (fun _ => ?_) (fun e => absurd e (by decide))
        refine r_op tabOk hnt rfl (s_callF rfl rfl rfl (w_burgagelaw5_same ((1 + ((addr % 2 ^ 8).toNat) : Nat) : Int) b cl_b (by first | omega | assumption | (simp; omega) | decide | (simp; done))) rfl ?_) 
        refine r_op tabOk hnt rfl (s_pick_t rfl rfl rfl ?_) 
        refine r_op tabOk hnt rfl (s_move rfl ?_) 
        refine r_if tabOk hnt rfl rfl rfl (fun _ => ?_) (fun e => absurd e (by decide))
        refine r_op tabOk hnt rfl (s_move rfl ?_) 
        refine r_if tabOk hnt rfl rfl rfl (fun _ => ?_) (fun e => absurd e (by decide))
        refine r_op tabOk hnt rfl (s_callF rfl rfl rfl (w_burgagelaw5_same 0 X false (by first | omega | assumption | (simp; omega) | decide | (simp; done))) rfl ?_) 
        refine r_op tabOk hnt rfl (s_pick_t rfl rfl rfl ?_) 
        refine r_op tabOk hnt rfl (s_move rfl ?_) 
        refine r_if tabOk hnt rfl rfl rfl (fun _ => ?_) (fun e => absurd e (by decide))
        refine r_op tabOk hnt rfl (s_move rfl ?_) 
        refine r_if tabOk hnt rfl rfl rfl (fun _ => ?_) (fun e => absurd e (by decide))
        refine r_op tabOk hnt rfl (s_callX (r2 := pB true) (nx1 := 2) (H2 := [(1, oB false 1 enc8 Z), (0, oB true 1 encI sm)]) (H3 := [(1, oB false 1 enc8 Z), (0, oB true 1 encI sm)]) [] [] rfl rfl rfl (handed_of (by decide) trivial) rfl rfl rfl rfl rfl rfl (w_burgagelaw5_same 0 Z false (by first | omega | assumption | (simp; omega) | decide | (simp; done))) rfl (dist_of rfl) rfl rfl rfl rfl ?_) 
        refine r_op tabOk hnt rfl (s_pick_t rfl rfl rfl ?_) 
        refine r_op tabOk hnt rfl (s_move rfl ?_) 
        refine r_if tabOk hnt rfl rfl rfl (fun _ => ?_) (fun e => absurd e (by decide))
        refine r_op tabOk hnt rfl (s_move rfl ?_) 
        refine r_if tabOk hnt rfl rfl rfl (fun _ => ?_) (fun e => absurd e (by decide))
        refine r_op tabOk hnt rfl (s_move rfl ?_) 
        refine r_if tabOk hnt rfl rfl rfl (fun _ => ?_) (fun e => absurd e (by decide))
        refine r_op tabOk hnt rfl (s_lenM (l := Z) tab_41 rfl (hM_ref0 (f := enc8) rfl rfl) ?_) 
        refine r_if tabOk hnt rfl rfl rfl (fun _ => ?_) (fun e => absurd e (by decide))
        refine r_op tabOk hnt rfl (s_subN (a := Z.length) (b := 1) rfl rfl (by omega) (by omega) (by omega) ?_) 
        refine r_if tabOk hnt rfl rfl rfl (fun _ => ?_) (fun e => absurd e (by decide))
        refine r_op tabOk hnt rfl (s_cutR_hi (a := 0) (b := Z.length - 1) (f := enc8) (l := Z) tab_41 rfl tab_5 rfl rfl rfl bound_none (bound_some rfl (by omega)) (by omega) ?_) 
        refine r_if tabOk hnt rfl rfl rfl (fun _ => ?_) (fun e => absurd e (by decide))
        refine r_frzM (s := 94) (f := enc8) rfl rfl view_hi ?_
        refine r_op tabOk hnt rfl (s_callF rfl rfl rfl (w_burgagelaw5_same 0 (Z.take (Z.length - 1)) false (by first | omega | assumption | (simp; omega) | decide | (simp; done))) rfl ?_) 
        refine r_op tabOk hnt rfl (s_pick_t rfl rfl rfl ?_) 
        refine r_op tabOk hnt rfl (s_move rfl ?_) 
        refine r_if tabOk hnt rfl rfl rfl (fun _ => ?_) (fun e => absurd e (by decide))
        refine r_op tabOk hnt rfl (s_move rfl ?_) 
        refine r_if tabOk hnt rfl rfl rfl (fun _ => ?_) (fun e => absurd e (by decide))
        refine r_op tabOk hnt rfl (s_move rfl ?_) 
        refine r_if tabOk hnt rfl rfl rfl (fun _ => ?_) (fun e => absurd e (by decide))
        refine r_op tabOk hnt rfl (s_callF rfl rfl rfl (w_burgagelaw5_splits ts cl_ts b cl_b (by omega) (by omega) (by exact hts)) rfl ?_) 
        refine r_op tabOk hnt rfl (s_pick_t rfl rfl rfl ?_) 
        refine r_op tabOk hnt rfl (s_move rfl ?_) 
        refine r_if tabOk hnt rfl rfl rfl (fun _ => ?_) (fun e => absurd e (by decide))
        refine r_op tabOk hnt rfl (s_move rfl ?_) 
        refine r_if tabOk hnt rfl rfl rfl (fun _ => ?_) (fun e => absurd e (by decide))
        refine r_op tabOk hnt rfl (s_move rfl ?_) 
        refine r_if tabOk hnt rfl rfl rfl (fun _ => ?_) (fun e => absurd e (by decide))
        refine r_op tabOk hnt rfl (s_callX (r2 := pB true) (nx1 := 2) (H2 := [(0, oB false 1 encI sm), (1, oB false 1 enc8 Z)]) (H3 := [(0, oB false 1 encI sm), (1, oB false 1 enc8 Z)]) [] [] rfl rfl rfl (handed_of (by decide) trivial) rfl rfl rfl rfl rfl rfl (w_burgagelaw5_splits sm false b cl_b (by omega) (by omega) (by intro t ht; have := hst t ht; omega)) rfl (dist_of rfl) rfl rfl rfl rfl ?_) 
        refine r_op tabOk hnt rfl (s_pick_t rfl rfl rfl ?_) 
        refine r_op tabOk hnt rfl (s_move rfl ?_) 
        refine r_if tabOk hnt rfl rfl rfl (fun _ => ?_) (fun e => absurd e (by decide))
        refine r_op tabOk hnt rfl (s_callF rfl rfl rfl (w_burgagelaw5_known) rfl ?_) 
        refine r_op tabOk hnt rfl (s_pick_t rfl rfl rfl ?_) 
        refine r_op tabOk hnt rfl (s_assign rfl ?_) 
        refine r_set [(12, pB true)] [(0, oB false 1 encI sm), (1, oB false 1 enc8 Z)] 2 ⟨rfl, trivial⟩ rfl rfl ?_
        refine r_end ?_
        refine q_then ?_
        refine w_ret ?_
        exact fin_plain (ret_tmp rfl ret_nil) rfl rfl ⟨rfl, rfl, rfl⟩
    ·
      have g1' := g1
      try simp only [decide_eq_true_eq, decide_eq_false_iff_not, Bool.not_eq_true', Bool.not_eq_false', Bool.not_true, Bool.not_false, Bool.not_eq_eq_eq_not, Int.not_lt, Int.not_le] at g1'
      refine r_if tabOk hnt rfl rfl rfl (fun e => absurd (e.symm.trans g1) (by decide)) (fun _ => ?_)
      refine r_op tabOk hnt rfl (s_pick_f rfl g1 rfl ?_) 
      refine r_end ?_
      refine q_then ?_
      refine w_if rfl (fun e => absurd e (by decide)) (fun _ => ?_)
      refine w_exit ?_
      refine q_then_exit ?_
      refine q_then_exit ?_
      refine q_block_exit ?_
      refine q_then ?_
      refine w_seq ?_
      refine w_R ?_
      refine r_op tabOk hnt rfl (s_move rfl ?_) 
      refine r_op tabOk hnt rfl (s_move rfl ?_) 
      refine r_op tabOk hnt rfl (s_callF rfl rfl rfl (w_burgagelaw5_same addr b cl_b (by first | omega | assumption | (simp; omega) | decide | (simp; done))) rfl ?_) 
      refine r_op tabOk hnt rfl (s_move rfl ?_) 
      refine r_if tabOk hnt rfl rfl rfl (fun _ => ?_) (fun e => absurd e (by decide))
      refine r_op tabOk hnt rfl (s_move rfl ?_) 
      refine r_if tabOk hnt rfl rfl rfl (fun _ => ?_) (fun e => absurd e (by decide))
      refine r_op tabOk hnt rfl (s_maskI 8 (by decide) rfl rfl (by decide) ?_) 
      refine r_if tabOk hnt rfl rfl rfl (fun _ => ?_) (fun e => absurd e (by decide))
      refine r_op tabOk hnt rfl (s_addN (a := 1) (b := (addr % 2 ^ 8).toNat) rfl rfl (by omega) (by omega) (by omega) ?_) 
      refine r_if tabOk hnt rfl rfl rfl (fun _ => ?_) (fun e => absurd e (by decide))
      refine r_op tabOk hnt rfl (s_move rfl ?_) 
      refine r_if tabOk hnt rfl rfl rfl (fun _ => ?_) (fun e => absurd e (by decide))
      refine r_op tabOk hnt rfl (s_callF rfl rfl rfl (w_burgagelaw5_same ((1 + ((addr % 2 ^ 8).toNat) : Nat) : Int) b cl_b (by first | omega | assumption | (simp; omega) | decide | (simp; done))) rfl ?_) 
      refine r_op tabOk hnt rfl (s_pick_t rfl rfl rfl ?_) 
      refine r_op tabOk hnt rfl (s_move rfl ?_) 
      refine r_if tabOk hnt rfl rfl rfl (fun _ => ?_) (fun e => absurd e (by decide))
      refine r_op tabOk hnt rfl (s_move rfl ?_) 
      refine r_if tabOk hnt rfl rfl rfl (fun _ => ?_) (fun e => absurd e (by decide))
      refine r_op tabOk hnt rfl (s_callF rfl rfl rfl (w_burgagelaw5_same 0 X false (by first | omega | assumption | (simp; omega) | decide | (simp; done))) rfl ?_) 
      refine r_op tabOk hnt rfl (s_pick_t rfl rfl rfl ?_) 
      refine r_op tabOk hnt rfl (s_move rfl ?_) 
      refine r_if tabOk hnt rfl rfl rfl (fun _ => ?_) (fun e => absurd e (by decide))
      refine r_op tabOk hnt rfl (s_move rfl ?_) 
      refine r_if tabOk hnt rfl rfl rfl (fun _ => ?_) (fun e => absurd e (by decide))
      refine r_op tabOk hnt rfl (s_callX (r2 := pB true) (nx1 := 2) (H2 := [(1, oB false 1 enc8 Z), (0, oB true 1 encI sm)]) (H3 := [(1, oB false 1 enc8 Z), (0, oB true 1 encI sm)]) [] [] rfl rfl rfl (handed_of (by decide) trivial) rfl rfl rfl rfl rfl rfl (w_burgagelaw5_same 0 Z false (by first | omega | assumption | (simp; omega) | decide | (simp; done))) rfl (dist_of rfl) rfl rfl rfl rfl ?_) 
      refine r_op tabOk hnt rfl (s_pick_t rfl rfl rfl ?_) 
      refine r_op tabOk hnt rfl (s_move rfl ?_) 
      refine r_if tabOk hnt rfl rfl rfl (fun _ => ?_) (fun e => absurd e (by decide))
      refine r_op tabOk hnt rfl (s_move rfl ?_) 
      refine r_if tabOk hnt rfl rfl rfl (fun _ => ?_) (fun e => absurd e (by decide))
      refine r_op tabOk hnt rfl (s_move rfl ?_) 
      refine r_if tabOk hnt rfl rfl rfl (fun _ => ?_) (fun e => absurd e (by decide))
      refine r_op tabOk hnt rfl (s_lenM (l := Z) tab_41 rfl (hM_ref0 (f := enc8) rfl rfl) ?_) 
      refine r_if tabOk hnt rfl rfl rfl (fun _ => ?_) (fun e => absurd e (by decide))
      refine r_op tabOk hnt rfl (s_subN (a := Z.length) (b := 1) rfl rfl (by omega) (by omega) (by omega) ?_) 
      refine r_if tabOk hnt rfl rfl rfl (fun _ => ?_) (fun e => absurd e (by decide))
      refine r_op tabOk hnt rfl (s_cutR_hi (a := 0) (b := Z.length - 1) (f := enc8) (l := Z) tab_41 rfl tab_5 rfl rfl rfl bound_none (bound_some rfl (by omega)) (by omega) ?_) 
      refine r_if tabOk hnt rfl rfl rfl (fun _ => ?_) (fun e => absurd e (by decide))
      refine r_frzM (s := 94) (f := enc8) rfl rfl view_hi ?_
      refine r_op tabOk hnt rfl (s_callF rfl rfl rfl (w_burgagelaw5_same 0 (Z.take (Z.length - 1)) false (by first | omega | assumption | (simp; omega) | decide | (simp; done))) rfl ?_) 
      refine r_op tabOk hnt rfl (s_pick_t rfl rfl rfl ?_) 
      refine r_op tabOk hnt rfl (s_move rfl ?_) 
      refine r_if tabOk hnt rfl rfl rfl (fun _ => ?_) (fun e => absurd e (by decide))
      refine r_op tabOk hnt rfl (s_move rfl ?_) 
      refine r_if tabOk hnt rfl rfl rfl (fun _ => ?_) (fun e => absurd e (by decide))
      refine r_op tabOk hnt rfl (s_move rfl ?_) 
      refine r_if tabOk hnt rfl rfl rfl (fun _ => ?_) (fun e => absurd e (by decide))
      refine r_op tabOk hnt rfl (s_callF rfl rfl rfl (w_burgagelaw5_splits ts cl_ts b cl_b (by omega) (by omega) (by exact hts)) rfl ?_) 
      refine r_op tabOk hnt rfl (s_pick_t rfl rfl rfl ?_) 
      refine r_op tabOk hnt rfl (s_move rfl ?_) 
      refine r_if tabOk hnt rfl rfl rfl (fun _ => ?_) (fun e => absurd e (by decide))
      refine r_op tabOk hnt rfl (s_move rfl ?_) 
      refine r_if tabOk hnt rfl rfl rfl (fun _ => ?_) (fun e => absurd e (by decide))
      refine r_op tabOk hnt rfl (s_move rfl ?_) 
      refine r_if tabOk hnt rfl rfl rfl (fun _ => ?_) (fun e => absurd e (by decide))
      refine r_op tabOk hnt rfl (s_callX (r2 := pB true) (nx1 := 2) (H2 := [(0, oB false 1 encI sm), (1, oB false 1 enc8 Z)]) (H3 := [(0, oB false 1 encI sm), (1, oB false 1 enc8 Z)]) [] [] rfl rfl rfl (handed_of (by decide) trivial) rfl rfl rfl rfl rfl rfl (w_burgagelaw5_splits sm false b cl_b (by omega) (by omega) (by intro t ht; have := hst t ht; omega)) rfl (dist_of rfl) rfl rfl rfl rfl ?_) 
      refine r_op tabOk hnt rfl (s_pick_t rfl rfl rfl ?_) 
      refine r_op tabOk hnt rfl (s_move rfl ?_) 
      refine r_if tabOk hnt rfl rfl rfl (fun _ => ?_) (fun e => absurd e (by decide))
      refine r_op tabOk hnt rfl (s_callF rfl rfl rfl (w_burgagelaw5_known) rfl ?_) 
      refine r_op tabOk hnt rfl (s_pick_t rfl rfl rfl ?_) 
      refine r_op tabOk hnt rfl (s_assign rfl ?_) 
      refine r_set [(12, pB true)] [(0, oB false 1 encI sm), (1, oB false 1 enc8 Z)] 2 ⟨rfl, trivial⟩ rfl rfl ?_
      refine r_end ?_
      refine q_then ?_
      refine w_ret ?_
      exact fin_plain (ret_tmp rfl ret_nil) rfl rfl ⟨rfl, rfl, rfl⟩

theorem w_burgagelaw5_RtuNumbers   :
    T Try.prog 7 [] 0 [] (Ret (pB true) 0 []) := by
  refine t_fun tabOk (n := 106) (rs := [.tmp 0]) Try.func7 rfl rfl rfl rfl (Nat.le_of_ble_eq_true rfl) ?_
  intro c hnt hk
  refine w_seq ?_
  refine w_R ?_
  refine r_op tabOk hnt rfl (s_assign rfl ?_) 
  refine r_end ?_
  refine q_then ?_
  refine w_seq ?_
  refine w_seq ?_
  refine w_R ?_
  refine r_op tabOk hnt rfl (s_assign rfl ?_) 
  refine r_end ?_
  refine q_then ?_
  refine w_block ?_
  refine loop1 (fun (n : Nat) => n ≤ 1000) (fun (n : Nat) => [(1, pN n)]) 0 (fun (n : Nat) => []) (fun (n : Nat) => 1000 - n) (0) ?_ ⟨[], rfl, ⟨⟨_, rfl, rfl, rfl⟩, trivial⟩, trivial, by rw [hk]; decide⟩ ?_
  · omega
  ·
    intro n hI
    refine w_seq ?_
    refine w_seq ?_
    refine w_R ?_
    refine r_op tabOk hnt rfl (s_move rfl ?_) 
    refine r_op tabOk hnt rfl (s_lss rfl rfl ?_) 
    refine r_end ?_
    refine q_then ?_
    refine w_if rfl (fun c1 => ?_) (fun c1 => ?_)
    ·
      have c1_ := c1
      try simp only [decide_eq_true_eq, decide_eq_false_iff_not, Bool.not_eq_true', Bool.not_eq_false', Bool.not_true, Bool.not_false, Bool.not_eq_eq_eq_not, Int.not_lt, Int.not_le] at c1
      refine w_skip ?_
      refine q_then ?_
      refine w_seq ?_
      refine w_block ?_
      refine w_seq ?_
      refine w_R ?_
      refine r_op tabOk hnt rfl (s_mkM (f := encI) ([(-1), 0, 1, 17, 247, 248, 255, 256, 4611686018427387904] : List Int) tab_23 rfl tab_3 ⟨rfl, by decide⟩ (by decide) rfl rfl rfl rfl ?_) 
      refine r_op tabOk hnt rfl (s_lenM (l := ([(-1), 0, 1, 17, 247, 248, 255, 256, 4611686018427387904] : List Int)) tab_23 rfl (hM_ref0 (f := encI) rfl rfl) ?_) 
      refine r_op tabOk hnt rfl (s_move rfl ?_) 
      refine r_set [(1, pN n), (20, PV.ref 0 0 none), (21, pN (([(-1), 0, 1, 17, 247, 248, 255, 256, 4611686018427387904] : List Int).length)), (22, pI 0)] [(0, oB true 1 encI ([(-1), 0, 1, 17, 247, 248, 255, 256, 4611686018427387904] : List Int))] 1 ⟨rfl, rfl, rfl, rfl, trivial⟩ rfl rfl ?_
      refine r_end ?_
      refine q_then ?_
      refine w_block ?_
      refine loop1 (fun (i : Nat) => i ≤ 9) (fun (i : Nat) => [(1, pN n), (20, PV.ref 0 0 none), (21, pN (([(-1), 0, 1, 17, 247, 248, 255, 256, 4611686018427387904] : List Int).length)), (22, pN i)]) 1 (fun (i : Nat) => [(0, oB true 1 encI ([(-1), 0, 1, 17, 247, 248, 255, 256, 4611686018427387904] : List Int))]) (fun (i : Nat) => 9 - i) (0) ?_ ⟨[(0, 0)], by rw [hk]; decide, ⟨⟨_, rfl, rfl, rfl⟩, ⟨_, rfl, rfl, rfl⟩, ⟨_, rfl, rfl, rfl⟩, ⟨_, rfl, rfl, rfl⟩, trivial⟩, ⟨⟨_, _, rfl, rfl, rfl, rfl⟩, trivial⟩, by rw [hk]; decide⟩ ?_
      · omega
      ·
        intro i hI
        have hl9 : ([-1, 0, 1, 17, 247, 248, 255, 256, 4611686018427387904] : List Int).length = 9 := rfl
        refine w_seq ?_
        refine w_R ?_
        refine r_op tabOk hnt rfl (s_lss rfl rfl ?_) 
        refine r_end ?_
        refine q_then ?_
        refine w_seq ?_
        refine w_if rfl (fun c2 => ?_) (fun c2 => ?_)
        ·
          have c2_ := c2
          try simp only [decide_eq_true_eq, decide_eq_false_iff_not, Bool.not_eq_true', Bool.not_eq_false', Bool.not_true, Bool.not_false, Bool.not_eq_eq_eq_not, Int.not_lt, Int.not_le] at c2
          refine w_skip ?_
          refine q_then ?_
          refine w_seq ?_
          refine w_block ?_
          refine w_seq ?_
          refine w_R ?_
          refine r_op tabOk hnt rfl (s_iaR0 (q := i) (f := encI) (l := ([(-1), 0, 1, 17, 247, 248, 255, 256, 4611686018427387904] : List Int)) tab_23 rfl tab_3 rfl rfl (by omega) rfl rfl (by omega) ?_) 
          obtain ⟨e1, he1⟩ := get_of_lt ([(-1), 0, 1, 17, 247, 248, 255, 256, 4611686018427387904] : List Int) (i := i) (by omega)
          refine r_op tabOk hnt rfl (s_ldM (b := e1) (f := encI) tab_3 rfl rfl rfl rfl he1 rfl ?_) 
          refine r_op tabOk hnt rfl (s_assign rfl ?_) 
          refine r_end ?_
          refine q_then ?_
          refine w_seq ?_
          refine w_R ?_
          refine r_op tabOk hnt rfl (s_move rfl ?_) 
          refine r_op tabOk hnt rfl (s_makeM (f := enc8) (bt := 1) tab_one (0 : UInt8) n (fun j hj => by cases hj; rfl) tab_41 rfl tab_5 ⟨rfl, by decide⟩ rfl rfl rfl (by omega) (by refine ⟨?_, ?_, ?_⟩ <;> omega) ?_) 
          refine r_op tabOk hnt rfl (s_assign rfl ?_) 
          refine r_set [(1, pN n), (3, pI e1), (4, PV.ref 1 0 none), (20, PV.ref 0 0 none), (21, pN (([(-1), 0, 1, 17, 247, 248, 255, 256, 4611686018427387904] : List Int).length)), (22, pN i)] [(1, oB true 1 enc8 (List.replicate n (0 : UInt8))), (0, oB true 1 encI ([(-1), 0, 1, 17, 247, 248, 255, 256, 4611686018427387904] : List Int))] 2 ⟨rfl, rfl, rfl, rfl, rfl, rfl, trivial⟩ rfl rfl ?_
          refine r_end ?_
          refine q_then ?_
          refine w_seq ?_
          refine w_R ?_
          refine r_op tabOk hnt rfl (s_move rfl ?_) 
          refine r_op tabOk hnt rfl (s_move rfl ?_) 
          refine r_op tabOk hnt rfl (s_callX (r2 := PV.tup [pS 1 false enc8 (frameV e1 (List.replicate n (0 : UInt8))), pI (frameE e1 (List.replicate n (0 : UInt8)))]) (nx1 := 2) (H2 := [(1, oB false 1 enc8 (List.replicate n (0 : UInt8))), (0, oB true 1 encI ([(-1), 0, 1, 17, 247, 248, 255, 256, 4611686018427387904] : List Int))]) (H3 := [(1, oB false 1 enc8 (List.replicate n (0 : UInt8))), (0, oB true 1 encI ([(-1), 0, 1, 17, 247, 248, 255, 256, 4611686018427387904] : List Int))]) [] [] rfl rfl rfl (handed_of (by decide) trivial) rfl rfl rfl rfl rfl rfl (w_burgageref5_Frame e1 (List.replicate n (0 : UInt8)) false (by first | omega | assumption | (simp; omega) | decide | (simp; done))) rfl (dist_of rfl) rfl rfl rfl rfl ?_) 
          refine r_op tabOk hnt rfl (s_move rfl ?_) 
          refine r_op tabOk hnt rfl (s_extract rfl rfl ?_) 
          refine r_op tabOk hnt rfl (s_extract rfl rfl ?_) 
          refine r_op tabOk hnt rfl (s_assign rfl ?_) 
          refine r_op tabOk hnt rfl (s_assign rfl ?_) 
          refine r_set [(1, pN n), (3, pI e1), (4, PV.ref 1 0 none), (5, pS 1 false enc8 (frameV e1 (List.replicate n (0 : UInt8)))), (20, PV.ref 0 0 none), (21, pN (([(-1), 0, 1, 17, 247, 248, 255, 256, 4611686018427387904] : List Int).length)), (22, pN i)] [(1, oB false 1 enc8 (List.replicate n (0 : UInt8))), (0, oB true 1 encI ([(-1), 0, 1, 17, 247, 248, 255, 256, 4611686018427387904] : List Int))] 2 ⟨rfl, rfl, rfl, rfl, rfl, rfl, rfl, trivial⟩ rfl rfl ?_
          refine r_end ?_
          refine q_then ?_
          refine w_seq ?_
          refine w_R ?_
          refine r_op tabOk hnt rfl (s_move rfl ?_) 
          refine r_op tabOk hnt rfl (s_move rfl ?_) 
          refine r_op tabOk hnt rfl (s_callX (r2 := pB true) (nx1 := 2) (H2 := [(1, oB false 1 enc8 (List.replicate n (0 : UInt8))), (0, oB true 1 encI ([(-1), 0, 1, 17, 247, 248, 255, 256, 4611686018427387904] : List Int))]) (H3 := [(1, oB false 1 enc8 (List.replicate n (0 : UInt8))), (0, oB true 1 encI ([(-1), 0, 1, 17, 247, 248, 255, 256, 4611686018427387904] : List Int))]) [] [] rfl rfl rfl (handed_of (by decide) trivial) rfl rfl rfl rfl rfl rfl (w_burgagelaw5_same e1 (List.replicate n (0 : UInt8)) false (by first | omega | assumption | (simp; omega) | decide | (simp; done))) rfl (dist_of rfl) rfl rfl rfl rfl ?_) 
          refine r_op tabOk hnt rfl (s_not rfl ?_) 
          refine r_op tabOk hnt rfl (s_move rfl ?_) 
          refine r_if tabOk hnt rfl rfl rfl (fun _ => ?_) (fun e => absurd e (by decide))
          refine r_op tabOk hnt rfl (s_move rfl ?_) 
          refine r_if tabOk hnt rfl rfl rfl (fun _ => ?_) (fun e => absurd e (by decide))
          refine r_op tabOk hnt rfl (s_move rfl ?_) 
          refine r_if tabOk hnt rfl rfl rfl (fun _ => ?_) (fun e => absurd e (by decide))
          refine r_op tabOk hnt rfl (s_callF rfl rfl rfl (w_burgagelaw5_same e1 (frameV e1 (List.replicate n (0 : UInt8))) false (by have := frameV_len e1 (List.replicate n (0 : UInt8)); rw [List.length_replicate] at this; omega)) rfl ?_) 
          refine r_if tabOk hnt rfl rfl rfl (fun _ => ?_) (fun e => absurd e (by decide))
          refine r_op tabOk hnt rfl (s_not rfl ?_) 
          refine r_op tabOk hnt rfl (s_pick_f rfl rfl rfl ?_) 
          refine r_op tabOk hnt rfl (s_move rfl ?_) 
          refine r_if tabOk hnt rfl rfl rfl (fun _ => ?_) (fun e => absurd e (by decide))
          refine r_op tabOk hnt rfl (s_move rfl ?_) 
          refine r_if tabOk hnt rfl rfl rfl (fun _ => ?_) (fun e => absurd e (by decide))
          refine r_op tabOk hnt rfl (s_move rfl ?_) 
          refine r_if tabOk hnt rfl rfl rfl (fun _ => ?_) (fun e => absurd e (by decide))
          refine r_op tabOk hnt rfl (s_cv8 tab_3 tab_5 rfl rfl rfl ?_) 
          refine r_if tabOk hnt rfl rfl rfl (fun _ => ?_) (fun e => absurd e (by decide))
          refine r_op tabOk hnt rfl (s_mkM (f := enc8) [u8I e1] tab_41 rfl tab_5 ⟨rfl, by decide⟩ (by decide) rfl rfl rfl rfl ?_) 
          refine r_if tabOk hnt rfl rfl rfl (fun _ => ?_) (fun e => absurd e (by decide))
          refine r_op tabOk hnt rfl (s_move rfl ?_) 
          refine r_if tabOk hnt rfl rfl rfl (fun _ => ?_) (fun e => absurd e (by decide))
          refine r_op tabOk hnt rfl (s_appR0 (f := enc8) (l := [u8I e1]) (xs := List.replicate n (0 : UInt8)) tab_41 rfl tab_5 ⟨rfl, by decide, by decide⟩ (srcM tab_41 rfl (hM_ref0 (f := enc8) rfl rfl)) rfl rfl (by first | omega | (simp; omega)) ?_) 
          refine r_if tabOk hnt rfl rfl rfl (fun _ => ?_) (fun e => absurd e (by decide))
          refine r_op tabOk hnt rfl (s_callX (r2 := PV.ref 4 0 none) (nx1 := 5) (H2 := [(3, oB false 1 enc8 ([u8I e1] ++ (List.replicate n (0 : UInt8)))), (1, oB false 1 enc8 (List.replicate n (0 : UInt8))), (0, oB true 1 encI ([(-1), 0, 1, 17, 247, 248, 255, 256, 4611686018427387904] : List Int))]) (H3 := [(4, oB true 1 enc8 (sealL ([u8I e1] ++ (List.replicate n (0 : UInt8))))), (3, oB false 1 enc8 ([u8I e1] ++ (List.replicate n (0 : UInt8)))), (1, oB false 1 enc8 (List.replicate n (0 : UInt8))), (0, oB true 1 encI ([(-1), 0, 1, 17, 247, 248, 255, 256, 4611686018427387904] : List Int))]) [] [] rfl rfl rfl (handed_of (by decide) trivial) rfl rfl rfl rfl rfl rfl (w_burgageref1_Seal ([u8I e1] ++ (List.replicate n (0 : UInt8))) false (by first | omega | assumption | (simp; omega) | decide | (simp; done))) rfl (dist_of rfl) rfl rfl rfl rfl ?_) 
          refine r_if tabOk hnt rfl rfl rfl (fun _ => ?_) (fun e => absurd e (by decide))
          refine r_op tabOk hnt rfl (s_callX (r2 := pB true) (nx1 := 5) (H2 := [(4, oB false 1 enc8 (sealL ([u8I e1] ++ (List.replicate n (0 : UInt8))))), (3, oB false 1 enc8 ([u8I e1] ++ (List.replicate n (0 : UInt8)))), (1, oB false 1 enc8 (List.replicate n (0 : UInt8))), (0, oB true 1 encI ([(-1), 0, 1, 17, 247, 248, 255, 256, 4611686018427387904] : List Int))]) (H3 := [(4, oB false 1 enc8 (sealL ([u8I e1] ++ (List.replicate n (0 : UInt8))))), (3, oB false 1 enc8 ([u8I e1] ++ (List.replicate n (0 : UInt8)))), (1, oB false 1 enc8 (List.replicate n (0 : UInt8))), (0, oB true 1 encI ([(-1), 0, 1, 17, 247, 248, 255, 256, 4611686018427387904] : List Int))]) [] [] rfl rfl rfl (handed_of (by decide) trivial) rfl rfl rfl rfl rfl rfl (w_burgagelaw5_same e1 (sealL ([u8I e1] ++ (List.replicate n (0 : UInt8)))) false (by rw [sealL_length]; simp; omega)) rfl (dist_of rfl) rfl rfl rfl rfl ?_) 
          refine r_if tabOk hnt rfl rfl rfl (fun _ => ?_) (fun e => absurd e (by decide))
          refine r_op tabOk hnt rfl (s_not rfl ?_) 
          refine r_op tabOk hnt rfl (s_pick_f rfl rfl rfl ?_) 
          refine r_set [(1, pN n), (20, PV.ref 0 0 none), (21, pN (([(-1), 0, 1, 17, 247, 248, 255, 256, 4611686018427387904] : List Int).length)), (22, pN i), (39, pI e1), (40, pS 1 false enc8 (frameV e1 (List.replicate n (0 : UInt8)))), (41, pB true), (42, pB (!true)), (45, pI e1), (46, pI e1), (47, p8 (u8I e1)), (49, PV.ref 1 0 none), (50, PV.ref 3 0 none), (51, PV.ref 4 0 none), (52, pB true), (53, pB (!true)), (54, pB (!true))] [(4, oB false 1 enc8 (sealL ([u8I e1] ++ (List.replicate n (0 : UInt8))))), (3, oB false 1 enc8 ([u8I e1] ++ (List.replicate n (0 : UInt8)))), (1, oB false 1 enc8 (List.replicate n (0 : UInt8))), (0, oB true 1 encI ([(-1), 0, 1, 17, 247, 248, 255, 256, 4611686018427387904] : List Int))] 5 ⟨rfl, rfl, rfl, rfl, rfl, rfl, rfl, rfl, rfl, rfl, rfl, rfl, rfl, rfl, rfl, rfl, rfl, trivial⟩ rfl rfl ?_
          refine r_end ?_
          refine q_then ?_
          refine w_if rfl (fun e => absurd e (by decide)) (fun _ => ?_)
          refine w_skip ?_
          refine q_block ?_
          refine q_then ?_
          refine w_R ?_
          refine r_op tabOk hnt rfl (s_addN (a := i) (b := 1) rfl rfl (by omega) (by omega) (by omega) ?_) 
          refine r_op tabOk hnt rfl (s_move rfl ?_) 
          refine r_end ?_
          refine q_then ?_
          refine ⟨(i + 1), ?_, ?_, ⟨[(0, 0)], by rw [hk]; decide, ⟨⟨_, rfl, rfl, rfl⟩, ⟨_, rfl, rfl, rfl⟩, ⟨_, rfl, rfl, rfl⟩, ⟨_, rfl, rfl, rfl⟩, trivial⟩, ⟨⟨_, _, rfl, rfl, rfl, rfl⟩, trivial⟩, by rw [hk]; decide⟩⟩
          ·
            omega
          · omega
        ·
          have c2_ := c2
          try simp only [decide_eq_true_eq, decide_eq_false_iff_not, Bool.not_eq_true', Bool.not_eq_false', Bool.not_true, Bool.not_false, Bool.not_eq_eq_eq_not, Int.not_lt, Int.not_le] at c2
          refine w_exit ?_
          refine q_then_exit ?_
          refine q_then_exit ?_
          refine q_block_exit ?_
          refine q_block ?_
          refine q_then ?_
          refine w_R ?_
          refine r_op tabOk hnt rfl (s_move rfl ?_) 
          refine r_op tabOk hnt rfl (s_addN (a := n) (b := 1) rfl rfl (by omega) (by omega) (by omega) ?_) 
          refine r_op tabOk hnt rfl (s_move rfl ?_) 
          refine r_op tabOk hnt rfl (s_quoN (a := n) (b := 9) rfl rfl (by omega) (by omega) (by omega) ?_) 
          refine r_op tabOk hnt rfl (s_mulN (a := n / 9) (b := 3) rfl rfl (by omega) (by omega) (by omega) ?_) 
          refine r_op tabOk hnt rfl (s_addN (a := n + 1) (b := (n / 9) * 3) rfl rfl (by omega) (by omega) (by omega) ?_) 
          refine r_op tabOk hnt rfl (s_assign rfl ?_) 
          refine r_end ?_
          refine q_then ?_
          refine ⟨(n + 1 + ((n / 9) * 3)), ?_, ?_, ⟨[], rfl, ⟨⟨_, rfl, rfl, rfl⟩, trivial⟩, trivial, by rw [hk]; decide⟩⟩
          ·
            omega
          · omega
    ·
      have c1_ := c1
      try simp only [decide_eq_true_eq, decide_eq_false_iff_not, Bool.not_eq_true', Bool.not_eq_false', Bool.not_true, Bool.not_false, Bool.not_eq_eq_eq_not, Int.not_lt, Int.not_le] at c1
      refine w_exit ?_
      refine q_then_exit ?_
      refine q_then_exit ?_
      refine q_block_exit ?_
      refine q_then ?_
      refine w_seq ?_
      refine w_seq ?_
      refine w_R ?_
      refine r_op tabOk hnt rfl (s_assign rfl ?_) 
      refine r_end ?_
      refine q_then ?_
      refine w_block ?_
      refine loop1 (fun (k : Nat) => k ≤ 60) (fun (k : Nat) => [(7, pN k)]) 0 (fun (k : Nat) => []) (fun (k : Nat) => 60 - k) (0) ?_ ⟨[], rfl, ⟨⟨_, rfl, rfl, rfl⟩, trivial⟩, trivial, by rw [hk]; decide⟩ ?_
      · omega
      ·
        intro k hI
        refine w_seq ?_
        refine w_seq ?_
        refine w_R ?_
        refine r_op tabOk hnt rfl (s_move rfl ?_) 
        refine r_op tabOk hnt rfl (s_lss rfl rfl ?_) 
        refine r_end ?_
        refine q_then ?_
        refine w_if rfl (fun c3 => ?_) (fun c3 => ?_)
        ·
          have c3_ := c3
          try simp only [decide_eq_true_eq, decide_eq_false_iff_not, Bool.not_eq_true', Bool.not_eq_false', Bool.not_true, Bool.not_false, Bool.not_eq_eq_eq_not, Int.not_lt, Int.not_le] at c3
          refine w_skip ?_
          refine q_then ?_
          refine w_seq ?_
          refine w_block ?_
          refine w_seq ?_
          refine w_R ?_
          refine r_op tabOk hnt rfl (s_assign rfl ?_) 
          refine r_end ?_
          refine q_then ?_
          refine w_seq ?_
          refine w_R ?_
          refine r_op tabOk hnt rfl (s_assign rfl ?_) 
          refine r_end ?_
          refine q_then ?_
          refine w_seq ?_
          refine w_R ?_
          refine r_op tabOk hnt rfl (s_assign rfl ?_) 
          refine r_end ?_
          refine q_then ?_
          refine w_seq ?_
          refine w_seq ?_
          refine w_R ?_
          refine r_op tabOk hnt rfl (s_assign rfl ?_) 
          refine r_end ?_
          refine q_then ?_
          refine w_block ?_
          refine w_adopt (s := 8) (sz := 1) rfl ?_
          refine w_adopt (s := 9) (sz := 1) rfl ?_
          refine loop4 (fun (tm : List Int) (bs : List UInt8) (at9 : Int) (j : Nat) => j ≤ 30 ∧ tm.length = j ∧ bs.length = j ∧ -100 ≤ at9 ∧ at9 ≤ 5 * j ∧ -20 - j ≤ at9 ∧ ∀ t ∈ tm, -100 ≤ t ∧ t ≤ 200) (fun (tm : List Int) (bs : List UInt8) (at9 : Int) (j : Nat) => [(7, pN k), (8, PV.ref 0 0 none), (9, PV.ref 1 0 none), (10, pI at9), (11, pN j)]) 2 (fun (tm : List Int) (bs : List UInt8) (at9 : Int) (j : Nat) => [(0, oB true 1 encI tm), (1, oB true 1 enc8 bs)]) (fun (tm : List Int) (bs : List UInt8) (at9 : Int) (j : Nat) => 30 - j) (([] : List Int)) (([] : List UInt8)) ((-20)) (0) ?_ ⟨[(0, 0), (1, 1)], by rw [hk]; decide, ⟨⟨_, rfl, rfl, rfl⟩, ⟨_, rfl, rfl, rfl⟩, ⟨_, rfl, rfl, rfl⟩, ⟨_, rfl, rfl, rfl⟩, ⟨_, rfl, rfl, rfl⟩, trivial⟩, ⟨⟨_, _, rfl, rfl, rfl, rfl⟩, ⟨_, _, rfl, rfl, rfl, rfl⟩, trivial⟩, by rw [hk]; decide⟩ ?_
          · exact ⟨by omega, rfl, rfl, by omega, by omega, by omega, by simp⟩
          ·
            intro tm bs at9 j hJ
            obtain ⟨hj, htl, hbl, ha1, ha2, ha3, hst⟩ := hJ
            have hjj : j * j ≤ 30 * 30 := Nat.mul_le_mul hj hj
            have hkj : k * j ≤ 60 * 30 := Nat.mul_le_mul (by omega) hj
            refine w_seq ?_
            refine w_seq ?_
            refine w_R ?_
            refine r_op tabOk hnt rfl (s_move rfl ?_) 
            refine r_op tabOk hnt rfl (s_lss rfl rfl ?_) 
            refine r_end ?_
            refine q_then ?_
            refine w_if rfl (fun c4 => ?_) (fun c4 => ?_)
            ·
              have c4_ := c4
              try simp only [decide_eq_true_eq, decide_eq_false_iff_not, Bool.not_eq_true', Bool.not_eq_false', Bool.not_true, Bool.not_false, Bool.not_eq_eq_eq_not, Int.not_lt, Int.not_le] at c4
              refine w_skip ?_
              refine q_then ?_
              refine w_seq ?_
              refine w_block ?_
              refine w_seq ?_
              refine w_R ?_
              refine r_op tabOk hnt rfl (s_move rfl ?_) 
              refine r_op tabOk hnt rfl (s_move rfl ?_) 
              refine r_op tabOk hnt rfl (s_move rfl ?_) 
              refine r_op tabOk hnt rfl (s_mulN (a := j) (b := j) rfl rfl (by omega) (by omega) (by omega) ?_) 
              refine r_op tabOk hnt rfl (s_move rfl ?_) 
              refine r_op tabOk hnt rfl (s_move rfl ?_) 
              refine r_op tabOk hnt rfl (s_mulN (a := k) (b := j) rfl rfl (by omega) (by omega) (by omega) ?_) 
              refine r_op tabOk hnt rfl (s_addN (a := j * j) (b := k * j) rfl rfl (by omega) (by omega) (by omega) ?_) 
              refine r_op tabOk hnt rfl (s_remN (a := j * j + (k * j)) (b := 6) rfl rfl (by omega) (by omega) (by omega) ?_) 
              refine r_op tabOk hnt rfl (s_addi (r := at9 + (((j * j + (k * j)) % 6 : Nat) : Int)) rfl rfl rfl (by omega) ?_) 
              refine r_op tabOk hnt rfl (s_move rfl ?_) 
              refine r_op tabOk hnt rfl (s_remN (a := k) (b := 7) rfl rfl (by omega) (by omega) (by omega) ?_) 
              refine r_op tabOk hnt rfl (s_quoN (a := k % 7) (b := 6) rfl rfl (by omega) (by omega) (by omega) ?_) 
              refine r_op tabOk hnt rfl (s_subi (r := (at9 + (((j * j + (k * j)) % 6 : Nat) : Int)) - (((k % 7) / 6 : Nat) : Int)) rfl rfl rfl (by omega) ?_) 
              refine r_op tabOk hnt rfl (s_assign rfl ?_) 
              refine r_end ?_
              refine q_then ?_
              refine w_R ?_
              refine r_op tabOk hnt rfl (s_move rfl ?_) 
              refine r_op tabOk hnt rfl (s_move rfl ?_) 
              refine r_op tabOk hnt rfl (s_mkM (f := encI) [(at9 + (((j * j + (k * j)) % 6 : Nat) : Int)) - (((k % 7) / 6 : Nat) : Int)] tab_54 rfl tab_2 ⟨rfl, by decide⟩ (by decide) rfl rfl rfl rfl ?_) 
              refine r_op tabOk hnt rfl (s_appR0 (f := encI) (l := tm) (xs := [(at9 + (((j * j + (k * j)) % 6 : Nat) : Int)) - (((k % 7) / 6 : Nat) : Int)]) tab_54 rfl tab_2 ⟨rfl, by decide, by decide⟩ (srcM tab_54 rfl (hM_ref0 (f := encI) rfl rfl)) rfl rfl (by first | omega | (simp; omega)) ?_) 
              refine r_op tabOk hnt rfl (s_move rfl ?_) 
              refine r_op tabOk hnt rfl (s_move rfl ?_) 
              refine r_op tabOk hnt rfl (s_cv8N (a := j) tab_3 tab_5 rfl rfl rfl (by omega) ?_) 
              refine r_op tabOk hnt rfl (s_mkM (f := enc8) [UInt8.ofNat j] tab_41 rfl tab_5 ⟨rfl, by decide⟩ (by decide) rfl rfl rfl rfl ?_) 
              refine r_op tabOk hnt rfl (s_appR0 (f := enc8) (l := bs) (xs := [UInt8.ofNat j]) tab_41 rfl tab_5 ⟨rfl, by decide, by decide⟩ (srcM tab_41 rfl (hM_ref0 (f := enc8) rfl rfl)) rfl rfl (by first | omega | (simp; omega)) ?_) 
              refine r_op tabOk hnt rfl (s_assign rfl ?_) 
              refine r_op tabOk hnt rfl (s_assign rfl ?_) 
              refine r_set [(7, pN k), (8, PV.ref 3 0 none), (9, PV.ref 5 0 none), (10, pI ((at9 + (((j * j + (k * j)) % 6 : Nat) : Int)) - (((k % 7) / 6 : Nat) : Int))), (11, pN j)] [(5, oB true 1 enc8 (bs ++ [UInt8.ofNat j])), (4, oB true 1 enc8 [UInt8.ofNat j]), (3, oB true 1 encI (tm ++ [(at9 + (((j * j + (k * j)) % 6 : Nat) : Int)) - (((k % 7) / 6 : Nat) : Int)])), (2, oB true 1 encI [(at9 + (((j * j + (k * j)) % 6 : Nat) : Int)) - (((k % 7) / 6 : Nat) : Int)])] 6 ⟨rfl, rfl, rfl, rfl, rfl, trivial⟩ rfl rfl ?_
              refine r_end ?_
              refine q_block ?_
              refine q_then ?_
              refine w_R ?_
              refine r_op tabOk hnt rfl (s_move rfl ?_) 
              refine r_op tabOk hnt rfl (s_addN (a := j) (b := 1) rfl rfl (by omega) (by omega) (by omega) ?_) 
              refine r_op tabOk hnt rfl (s_assign rfl ?_) 
              refine r_end ?_
              refine q_then ?_
              refine ⟨(tm ++ [(at9 + (((j * j + (k * j)) % 6 : Nat) : Int)) - (((k % 7) / 6 : Nat) : Int)]), (bs ++ [UInt8.ofNat j]), ((at9 + (((j * j + (k * j)) % 6 : Nat) : Int)) - (((k % 7) / 6 : Nat) : Int)), (j + 1), ?_, ?_, ⟨[(0, 3), (1, 5)], by rw [hk]; decide, ⟨⟨_, rfl, rfl, rfl⟩, ⟨_, rfl, rfl, rfl⟩, ⟨_, rfl, rfl, rfl⟩, ⟨_, rfl, rfl, rfl⟩, ⟨_, rfl, rfl, rfl⟩, trivial⟩, ⟨⟨_, _, rfl, rfl, rfl, rfl⟩, ⟨_, _, rfl, rfl, rfl, rfl⟩, trivial⟩, by rw [hk]; decide⟩⟩
              ·
                have h6 := Nat.mod_lt (j * j + k * j) (show 0 < 6 by omega)
                have h7 := Nat.mod_lt k (show 0 < 7 by omega)
                refine ⟨by omega, by simp [htl], by simp [hbl], by omega, by omega, by omega, fun t ht => ?_⟩
                rcases List.mem_append.1 ht with h | h
                · exact hst t h
                · have h := List.mem_singleton.1 h; omega
              · omega
            ·
              have c4_ := c4
              try simp only [decide_eq_true_eq, decide_eq_false_iff_not, Bool.not_eq_true', Bool.not_eq_false', Bool.not_true, Bool.not_false, Bool.not_eq_eq_eq_not, Int.not_lt, Int.not_le] at c4
              refine w_exit ?_
              refine q_then_exit ?_
              refine q_then_exit ?_
              refine q_block_exit ?_
              refine q_then ?_
              refine w_seq ?_
              refine w_R ?_
              refine r_op tabOk hnt rfl (s_move rfl ?_) 
              refine r_op tabOk hnt rfl (s_move rfl ?_) 
              refine r_op tabOk hnt rfl (s_callX (r2 := pB true) (nx1 := 2) (H2 := [(1, oB false 1 enc8 bs), (0, oB false 1 encI tm)]) (H3 := [(1, oB false 1 enc8 bs), (0, oB false 1 encI tm)]) [] [] rfl rfl rfl (handed_of (by decide) trivial) rfl rfl rfl rfl rfl rfl (w_burgagelaw5_splits tm false bs false (by omega) (by omega) (by intro t ht; have := hst t (by first | exact ht | exact List.mem_of_mem_take ht); omega)) rfl (dist_of rfl) rfl rfl rfl rfl ?_) 
              refine r_op tabOk hnt rfl (s_not rfl ?_) 
              refine r_op tabOk hnt rfl (s_move rfl ?_) 
              refine r_if tabOk hnt rfl rfl rfl (fun _ => ?_) (fun e => absurd e (by decide))
              refine r_op tabOk hnt rfl (s_move rfl ?_) 
              refine r_if tabOk hnt rfl rfl rfl (fun _ => ?_) (fun e => absurd e (by decide))
              refine r_op tabOk hnt rfl (s_move rfl ?_) 
              refine r_if tabOk hnt rfl rfl rfl (fun _ => ?_) (fun e => absurd e (by decide))
              refine r_op tabOk hnt rfl (s_remN (a := k) (b := 30) rfl rfl (by omega) (by omega) (by omega) ?_) 
              refine r_if tabOk hnt rfl rfl rfl (fun _ => ?_) (fun e => absurd e (by decide))
              refine r_op tabOk hnt rfl (s_cutR_hi (a := 0) (b := k % 30) (f := encI) (l := tm) tab_54 rfl tab_2 rfl rfl rfl bound_none (bound_some rfl (by omega)) (by omega) ?_) 
              refine r_if tabOk hnt rfl rfl rfl (fun _ => ?_) (fun e => absurd e (by decide))
              refine r_op tabOk hnt rfl (s_move rfl ?_) 
              refine r_if tabOk hnt rfl rfl rfl (fun _ => ?_) (fun e => absurd e (by decide))
              refine r_frzM (s := 95) (f := encI) rfl rfl view_hi ?_
              refine r_op tabOk hnt rfl (s_callX (r2 := pB true) (nx1 := 2) (H2 := [(1, oB false 1 enc8 bs), (0, oB false 1 encI tm)]) (H3 := [(1, oB false 1 enc8 bs), (0, oB false 1 encI tm)]) [] [] rfl rfl rfl (handed_of (by decide) trivial) rfl rfl rfl rfl rfl rfl (w_burgagelaw5_splits (tm.take (k % 30)) false bs false (by rw [List.length_take]; omega) (by omega) (by intro t ht; have := hst t (List.mem_of_mem_take ht); omega)) rfl (dist_of rfl) rfl rfl rfl rfl ?_) 
              refine r_if tabOk hnt rfl rfl rfl (fun _ => ?_) (fun e => absurd e (by decide))
              refine r_op tabOk hnt rfl (s_not rfl ?_) 
              refine r_op tabOk hnt rfl (s_pick_f rfl rfl rfl ?_) 
              refine r_set [(7, pN k), (92, PV.ref 0 0 none), (93, pN k), (94, pN (k % 30)), (95, pS 1 false encI (tm.take (k % 30))), (96, PV.ref 1 0 none), (97, pB true), (98, pB (!true)), (99, pB (!true))] [(1, oB false 1 enc8 bs), (0, oB false 1 encI tm)] 2 ⟨rfl, rfl, rfl, rfl, rfl, rfl, rfl, rfl, rfl, trivial⟩ rfl rfl ?_
              refine r_end ?_
              refine q_then ?_
              refine w_if rfl (fun e => absurd e (by decide)) (fun _ => ?_)
              refine w_skip ?_
              refine q_block ?_
              refine q_then ?_
              refine w_R ?_
              refine r_op tabOk hnt rfl (s_move rfl ?_) 
              refine r_op tabOk hnt rfl (s_addN (a := k) (b := 1) rfl rfl (by omega) (by omega) (by omega) ?_) 
              refine r_op tabOk hnt rfl (s_assign rfl ?_) 
              refine r_end ?_
              refine q_then ?_
              refine ⟨(k + 1), ?_, ?_, ⟨[], rfl, ⟨⟨_, rfl, rfl, rfl⟩, trivial⟩, trivial, by rw [hk]; decide⟩⟩
              ·
                omega
              · omega
        ·
          have c3_ := c3
          try simp only [decide_eq_true_eq, decide_eq_false_iff_not, Bool.not_eq_true', Bool.not_eq_false', Bool.not_true, Bool.not_false, Bool.not_eq_eq_eq_not, Int.not_lt, Int.not_le] at c3
          refine w_exit ?_
          refine q_then_exit ?_
          refine q_then_exit ?_
          refine q_block_exit ?_
          refine q_then ?_
          refine w_seq ?_
          refine w_R ?_
          refine r_op tabOk hnt rfl (s_mkM (f := encI) ([(-9223372036854775808), 9223372036854775807, (-9223372036854775808), 9223372036854775807] : List Int) tab_54 rfl tab_2 ⟨rfl, by decide⟩ (by decide) rfl rfl rfl rfl ?_) 
          refine r_op tabOk hnt rfl (s_mkM (f := enc8) ([1, 2, 3, 4] : List UInt8) tab_41 rfl tab_5 ⟨rfl, by decide⟩ (by decide) rfl rfl rfl rfl ?_) 
          refine r_op tabOk hnt rfl (s_callX (r2 := pB true) (nx1 := 2) (H2 := [(1, oB false 1 enc8 ([1, 2, 3, 4] : List UInt8)), (0, oB false 1 encI ([(-9223372036854775808), 9223372036854775807, (-9223372036854775808), 9223372036854775807] : List Int))]) (H3 := [(1, oB false 1 enc8 ([1, 2, 3, 4] : List UInt8)), (0, oB false 1 encI ([(-9223372036854775808), 9223372036854775807, (-9223372036854775808), 9223372036854775807] : List Int))]) [] [] rfl rfl rfl (handed_of (by decide) trivial) rfl rfl rfl rfl rfl rfl (w_burgagelaw5_splits ([(-9223372036854775808), 9223372036854775807, (-9223372036854775808), 9223372036854775807] : List Int) false ([1, 2, 3, 4] : List UInt8) false (by first | omega | assumption | (simp; omega) | decide | (simp; done)) (by first | omega | assumption | (simp; omega) | decide | (simp; done)) (by first | omega | assumption | (simp; omega) | decide | (simp; done))) rfl (dist_of rfl) rfl rfl rfl rfl ?_) 
          refine r_op tabOk hnt rfl (s_move rfl ?_) 
          refine r_if tabOk hnt rfl rfl rfl (fun _ => ?_) (fun e => absurd e (by decide))
          refine r_op tabOk hnt rfl (s_callF rfl rfl rfl (w_burgagelaw5_known) rfl ?_) 
          refine r_op tabOk hnt rfl (s_pick_t rfl rfl rfl ?_) 
          refine r_op tabOk hnt rfl (s_assign rfl ?_) 
          refine r_set [(0, pB true)] [(1, oB false 1 enc8 ([1, 2, 3, 4] : List UInt8)), (0, oB false 1 encI ([(-9223372036854775808), 9223372036854775807, (-9223372036854775808), 9223372036854775807] : List Int))] 2 ⟨rfl, trivial⟩ rfl rfl ?_
          refine r_end ?_
          refine q_then ?_
          refine w_ret ?_
          exact fin_plain (ret_tmp rfl ret_nil) rfl rfl ⟨rfl, rfl, rfl⟩

end Go.Proofs.Ytmcgjmpcfiefgaa
