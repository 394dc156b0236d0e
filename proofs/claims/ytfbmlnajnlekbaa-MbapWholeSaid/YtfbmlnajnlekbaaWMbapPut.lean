/- Walks: printed by a program of this session (wip/tools/walk2.py) out of its notes. -/
import Derived.Test.YtfbmlnajnlekbaaWMbap
set_option linter.unusedVariables false
set_option linter.unusedSimpArgs false
set_option maxRecDepth 10000
set_option maxHeartbeats 1000000
namespace Go.Proofs.Ytfbmlnajnlekbaa
open Go Go.Proofs.Ytfbmlnajnlekbaa.Pv

theorem w_mbap_Stream_Put_n (b : List UInt8) (cl_b : Bool) (cl : Bool) (x : List UInt8) (cl_x : Bool) (hb : b.length + x.length ≤ 28147497671000) (hx : x ≠ []) :
    T Try.prog 23 [PV.ptr 0 0, pS 1 cl_x enc8 x] 1 [(0, .obj [pS 1 cl_b enc8 b, pB cl])] (Ret (pS 3 true eMsg ((putV b cl x).1)) 1 [(0, .obj [pS 1 false enc8 ((putV b cl x).2.1), pB ((putV b cl x).2.2)])]) := by
  refine t_fun tabOk (n := 113) (rs := [.tmp 4]) Try.func23 rfl rfl rfl rfl (Nat.le_of_ble_eq_true rfl) ?_
  intro c hnt hk
  refine w_seq ?_
  refine w_R ?_
  refine r_op tabOk hnt rfl (s_assign rfl ?_) 
  refine r_end ?_
  refine q_then ?_
  refine w_seq ?_
  refine w_seq ?_
  refine w_R ?_
  refine r_op tabOk hnt rfl (s_move rfl ?_) 
  refine r_op tabOk hnt rfl (s_nilCheck rfl trivial ?_) 
  refine r_op tabOk hnt rfl (s_fa_ptr tab_87 rfl rfl tab_4 (by decide) rfl ?_) 
  refine r_op tabOk hnt rfl (s_load_ptr1 tab_4 rfl rfl rfl rfl rfl ?_) 
  refine r_end ?_
  refine q_then ?_
  refine w_if rfl (fun c1 => ?_) (fun c1 => ?_)
  ·
    have c1_ := c1
    try simp only [decide_eq_true_eq, decide_eq_false_iff_not, Bool.not_eq_true', Bool.not_eq_false', Bool.not_true, Bool.not_false, Bool.not_eq_eq_eq_not, Int.not_lt, Int.not_le] at c1
    refine w_seq ?_
    refine w_R ?_
    refine r_op tabOk hnt rfl (s_assign rfl ?_) 
    refine r_end ?_
    refine q_then ?_
    refine w_le (s := 4) (y := pS 3 true eMsg []) rfl (le_nilS 3 true) ?_
    refine w_le (s := 4) (y := pS 3 true eMsg ((putV b cl x).1)) rfl (le_of_eq (congrArg (fun z => pS 3 true eMsg z) (show [] = ((putV b cl x).1) by first | (simp [putV, c1]; done) | (simp [putV, c1, hg]; done)))) ?_
    refine w_leC (n := 0) (j := 0) (y := pS 1 false enc8 b) rfl rfl (le_loose) ?_
    refine w_leC (n := 0) (j := 0) (y := pS 1 false enc8 ((putV b cl x).2.1)) rfl rfl (le_of_eq (congrArg (fun z => pS 1 false enc8 z) (show b = ((putV b cl x).2.1) by first | (simp [putV, c1]; done) | (simp [putV, c1, hg]; done)))) ?_
    refine w_leC (n := 0) (j := 1) (y := pB ((putV b cl x).2.2)) rfl rfl (le_of_eq (congrArg (fun z : Bool => pB z) (show cl = ((putV b cl x).2.2) by first | (simp [putV, c1]; done) | (simp [putV, c1, hg]; done)))) ?_
    refine w_ret ?_
    refine q_then_ret ?_
    exact fin_names (nx1 := 1) (H1 := [(0, .obj [pS 1 false enc8 ((putV b cl x).2.1), pB ((putV b cl x).2.2)])]) [(0, 0)] (ret_tmp rfl ret_nil) rfl (by decide) ⟨⟨_, _, rfl, rfl, rfl, rfl⟩, trivial⟩ (by decide) rfl ⟨rfl, rfl, rfl⟩
  ·
    have c1_ := c1
    try simp only [decide_eq_true_eq, decide_eq_false_iff_not, Bool.not_eq_true', Bool.not_eq_false', Bool.not_true, Bool.not_false, Bool.not_eq_eq_eq_not, Int.not_lt, Int.not_le] at c1
    refine w_skip ?_
    refine q_then ?_
    refine w_seq ?_
    refine w_R ?_
    refine r_op tabOk hnt rfl (s_assign rfl ?_) 
    refine r_end ?_
    refine q_then ?_
    refine w_seq ?_
    refine w_R ?_
    refine r_op tabOk hnt rfl (s_move rfl ?_) 
    refine r_op tabOk hnt rfl (s_move rfl ?_) 
    refine r_op tabOk hnt rfl (s_nilCheck rfl trivial ?_) 
    refine r_op tabOk hnt rfl (s_fa_ptr tab_87 rfl rfl tab_27 (by decide) rfl ?_) 
    refine r_op tabOk hnt rfl (s_load_ptr1 tab_27 rfl rfl rfl rfl rfl ?_) 
    refine r_op tabOk hnt rfl (s_callF rfl rfl rfl (w_slices_Clip_byte_byte b cl_b) rfl ?_) 
    refine r_op tabOk hnt rfl (s_move rfl ?_) 
    refine r_op tabOk hnt rfl (s_appC (f := enc8) (l := b) (xs := x) tab_27 rfl tab_5 ⟨rfl, by decide, by decide⟩ (srcM tab_27 rfl (hM_sl (f := enc8) rfl)) rfl (by first | omega | (simp; omega)) (by exact hx) ?_) 
    refine r_op tabOk hnt rfl (s_nilCheck rfl trivial ?_) 
    refine r_op tabOk hnt rfl (s_fa_ptr tab_87 rfl rfl tab_27 (by decide) rfl ?_) 
    refine r_op tabOk hnt rfl (s_store_ptr tab_27 rfl rfl rfl rfl rfl (Nat.le_of_ble_eq_true rfl) ?_) 
    refine r_set [(0, PV.ptr 0 0), (5, pNil)] [(0, .obj [PV.ref 1 0 none, pB cl]), (1, oB true 1 enc8 (b ++ x))] 2 ⟨rfl, rfl, trivial⟩ rfl rfl ?_
    refine r_end ?_
    refine q_then ?_
    refine w_seq ?_
    refine w_block ?_
    refine w_adopt (s := 5) (sz := 3) rfl ?_
    refine w_frzC (n := 0) (j := 0) rfl rfl rfl rfl ?_
    refine w_leC (n := 0) (j := 1) (y := pB false) rfl rfl (le_of_eq (congrArg (fun z : Bool => pB z) (show cl = false by simp_all))) ?_
    refine loop2 (fun (q : List UInt8) (os : List TMsg) => mbGo (b ++ x) = (os ++ (mbGo q).1, (mbGo q).2) ∧ q.length ≤ 28147497671000 ∧ os.length * 8 + q.length ≤ 28147497671000) (fun (q : List UInt8) (os : List TMsg) => [(0, PV.ptr 0 0), (5, PV.ref 1 0 none)]) 2 (fun (q : List UInt8) (os : List TMsg) => [(0, .obj [pS 1 false enc8 q, pB false]), (1, oB true 3 eMsg os)]) (fun (q : List UInt8) (os : List TMsg) => q.length) (b ++ x) (([] : List TMsg)) ?_ ⟨[(0, 0), (1, 2)], by rw [hk]; decide, ⟨⟨_, rfl, rfl, rfl⟩, ⟨_, rfl, rfl, rfl⟩, trivial⟩, ⟨⟨_, _, rfl, rfl, rfl, rfl⟩, ⟨_, _, rfl, rfl, rfl, rfl⟩, trivial⟩, by rw [hk]; decide⟩ ?_
    · exact ⟨by simp [hx], by first | omega | (simp; omega), by first | (simp; omega) | (simp [hx]; omega)⟩
    ·
      intro q os hI
      obtain ⟨hg, hq, hol⟩ := hI
      refine w_seq ?_
      refine w_seq ?_
      refine w_R ?_
      refine r_op tabOk hnt rfl (s_move rfl ?_) 
      refine r_op tabOk hnt rfl (s_nilCheck rfl trivial ?_) 
      refine r_op tabOk hnt rfl (s_fa_ptr tab_87 rfl rfl tab_27 (by decide) rfl ?_) 
      refine r_op tabOk hnt rfl (s_load_ptr1 tab_27 rfl rfl rfl rfl rfl ?_) 
      refine r_op tabOk hnt rfl (s_lenM (l := q) tab_27 rfl (hM_sl (f := enc8) rfl) ?_) 
      refine r_op tabOk hnt rfl (s_geq rfl rfl ?_) 
      refine r_end ?_
      refine q_then ?_
      refine w_if rfl (fun c2 => ?_) (fun c2 => ?_)
      ·
        have c2_ := c2
        try simp only [decide_eq_true_eq, decide_eq_false_iff_not, Bool.not_eq_true', Bool.not_eq_false', Bool.not_true, Bool.not_false, Bool.not_eq_eq_eq_not, Int.not_lt, Int.not_le] at c2
        have hv := getV_head (q := q) (by omega)
        have hn4 := getN_lt q 4
        refine w_skip ?_
        refine q_then ?_
        refine w_block ?_
        refine w_seq ?_
        refine w_R ?_
        refine r_op tabOk hnt rfl (s_move rfl ?_) 
        refine r_op tabOk hnt rfl (s_nilCheck rfl trivial ?_) 
        refine r_op tabOk hnt rfl (s_fa_ptr tab_87 rfl rfl tab_27 (by decide) rfl ?_) 
        refine r_op tabOk hnt rfl (s_load_ptr1 tab_27 rfl rfl rfl rfl rfl ?_) 
        refine r_op tabOk hnt rfl (s_callF rfl rfl rfl (w_octet_Get q false 0 (by first | omega | assumption | (simp; omega) | decide | (simp; done)) (by first | omega | assumption | (simp; omega) | decide | (simp; done))) rfl ?_) 
        refine r_op tabOk hnt rfl (s_move rfl ?_) 
        refine r_op tabOk hnt rfl (s_extract rfl rfl ?_) 
        refine r_op tabOk hnt rfl (s_extract rfl rfl ?_) 
        refine r_op tabOk hnt rfl (s_assign rfl ?_) 
        refine r_op tabOk hnt rfl (s_assign rfl ?_) 
        refine r_end ?_
        refine q_then ?_
        refine w_seq ?_
        refine w_R ?_
        refine r_op tabOk hnt rfl (s_move rfl ?_) 
        refine r_op tabOk hnt rfl (s_nilCheck rfl trivial ?_) 
        refine r_op tabOk hnt rfl (s_fa_ptr tab_87 rfl rfl tab_27 (by decide) rfl ?_) 
        refine r_op tabOk hnt rfl (s_load_ptr1 tab_27 rfl rfl rfl rfl rfl ?_) 
        refine r_op tabOk hnt rfl (s_callF rfl rfl rfl (w_octet_Get q false 2 (by first | omega | assumption | (simp; omega) | decide | (simp; done)) (by first | omega | assumption | (simp; omega) | decide | (simp; done))) rfl ?_) 
        refine r_op tabOk hnt rfl (s_move rfl ?_) 
        refine r_op tabOk hnt rfl (s_extract rfl rfl ?_) 
        refine r_op tabOk hnt rfl (s_extract rfl rfl ?_) 
        refine r_op tabOk hnt rfl (s_assign rfl ?_) 
        refine r_op tabOk hnt rfl (s_assign rfl ?_) 
        refine r_end ?_
        refine q_then ?_
        refine w_seq ?_
        refine w_R ?_
        refine r_op tabOk hnt rfl (s_move rfl ?_) 
        refine r_op tabOk hnt rfl (s_nilCheck rfl trivial ?_) 
        refine r_op tabOk hnt rfl (s_fa_ptr tab_87 rfl rfl tab_27 (by decide) rfl ?_) 
        refine r_op tabOk hnt rfl (s_load_ptr1 tab_27 rfl rfl rfl rfl rfl ?_) 
        refine r_op tabOk hnt rfl (s_callF rfl rfl rfl (w_octet_Get q false 4 (by first | omega | assumption | (simp; omega) | decide | (simp; done)) (by first | omega | assumption | (simp; omega) | decide | (simp; done))) rfl ?_) 
        refine r_op tabOk hnt rfl (s_move rfl ?_) 
        refine r_op tabOk hnt rfl (s_extract rfl rfl ?_) 
        refine r_op tabOk hnt rfl (s_extract rfl rfl ?_) 
        refine r_op tabOk hnt rfl (s_assign rfl ?_) 
        refine r_op tabOk hnt rfl (s_assign rfl ?_) 
        refine r_set [(0, PV.ptr 0 0), (5, PV.ref 1 0 none), (6, pI (getV q 0)), (8, pI (getV q 2)), (10, pI (getV q 4))] [(0, .obj [pS 1 false enc8 q, pB false]), (1, oB true 3 eMsg os)] 2 ⟨rfl, rfl, rfl, rfl, rfl, trivial⟩ rfl rfl ?_
        refine r_end ?_
        refine q_then ?_
        refine w_seq ?_
        refine w_seq ?_
        refine w_R ?_
        refine r_op tabOk hnt rfl (s_move rfl ?_) 
        refine r_op tabOk hnt rfl (s_neq rfl rfl ?_) 
        refine r_op tabOk hnt rfl (s_move rfl ?_) 
        refine r_if tabOk hnt rfl rfl rfl (fun g1 => ?_) (fun g1 => ?_)
        ·
          have g1' := g1
          try simp only [decide_eq_true_eq, decide_eq_false_iff_not, Bool.not_eq_true', Bool.not_eq_false', Bool.not_true, Bool.not_false, Bool.not_eq_eq_eq_not, Int.not_lt, Int.not_le] at g1'
          refine r_op tabOk hnt rfl (s_move rfl ?_) 
          refine r_if tabOk hnt rfl rfl rfl (fun _ => ?_) (fun e => absurd (e.symm.trans g1) (by decide))
          refine r_op tabOk hnt rfl (s_lss rfl rfl ?_) 
          refine r_op tabOk hnt rfl (s_pick_f rfl g1 rfl ?_) 
          refine r_op tabOk hnt rfl (s_move rfl ?_) 
          refine r_if tabOk hnt rfl rfl rfl (fun g2 => ?_) (fun g2 => ?_)
          ·
            have g2' := g2
            try simp only [decide_eq_true_eq, decide_eq_false_iff_not, Bool.not_eq_true', Bool.not_eq_false', Bool.not_true, Bool.not_false, Bool.not_eq_eq_eq_not, Int.not_lt, Int.not_le] at g2'
            refine r_op tabOk hnt rfl (s_move rfl ?_) 
            refine r_if tabOk hnt rfl rfl rfl (fun _ => ?_) (fun e => absurd (e.symm.trans g2) (by decide))
            refine r_op tabOk hnt rfl (s_gtr rfl rfl ?_) 
            refine r_op tabOk hnt rfl (s_pick_f rfl g2 rfl ?_) 
            refine r_end ?_
            refine q_then ?_
            refine w_if rfl (fun c3 => ?_) (fun c3 => ?_)
            ·
              have c3_ := c3
              try simp only [decide_eq_true_eq, decide_eq_false_iff_not, Bool.not_eq_true', Bool.not_eq_false', Bool.not_true, Bool.not_false, Bool.not_eq_eq_eq_not, Int.not_lt, Int.not_le] at c3
              refine w_seq ?_
              have hz := mb_bad (b := q) (by omega) (by unfold headBad; apply decide_eq_true; omega)
              rw [hz] at hg
              refine w_R ?_
              refine r_op tabOk hnt rfl (s_move rfl ?_) 
              refine r_op tabOk hnt rfl (s_move rfl ?_) 
              refine r_op tabOk hnt rfl (s_nilCheck rfl trivial ?_) 
              refine r_op tabOk hnt rfl (s_fa_ptr tab_87 rfl rfl tab_27 (by decide) rfl ?_) 
              refine r_op tabOk hnt rfl (s_store_ptr tab_27 rfl rfl rfl rfl rfl (Nat.le_of_ble_eq_true rfl) ?_) 
              refine r_op tabOk hnt rfl (s_nilCheck rfl trivial ?_) 
              refine r_op tabOk hnt rfl (s_fa_ptr tab_87 rfl rfl tab_4 (by decide) rfl ?_) 
              refine r_op tabOk hnt rfl (s_store_ptr tab_4 rfl rfl rfl rfl rfl (Nat.le_of_ble_eq_true rfl) ?_) 
              refine r_set [(5, PV.ref 1 0 none)] [(0, .obj [pNil, pB true]), (1, oB true 3 eMsg os)] 2 ⟨rfl, trivial⟩ rfl rfl ?_
              refine r_end ?_
              refine q_then ?_
              refine w_exit ?_
              refine q_then_exit ?_
              refine q_block_pass (by decide) ?_
              refine q_then_exit ?_
              refine q_block_exit ?_
              refine q_then ?_
              refine w_seq ?_
              refine w_R ?_
              refine r_op tabOk hnt rfl (s_move rfl ?_) 
              refine r_op tabOk hnt rfl (s_callX (r2 := pS 3 true eMsg os) (nx1 := 2) (H2 := [(1, oB false 3 eMsg os), (0, .obj [pNil, pB true])]) (H3 := [(1, oB false 3 eMsg os), (0, .obj [pNil, pB true])]) [] [] rfl rfl rfl (handed_of (by decide) trivial) rfl rfl rfl rfl rfl rfl (w_slices_Clip_mbap_Msg_mbap_Msg os false) rfl (dist_of rfl) rfl rfl rfl rfl ?_) 
              refine r_op tabOk hnt rfl (s_assign rfl ?_) 
              refine r_set [(4, pS 3 true eMsg os)] [(1, oB false 3 eMsg os), (0, .obj [pNil, pB true])] 2 ⟨rfl, trivial⟩ rfl rfl ?_
              refine r_end ?_
              refine q_then ?_
              refine w_le (s := 4) (y := pS 3 true eMsg ((putV b cl x).1)) rfl (le_of_eq (congrArg (fun z => pS 3 true eMsg z) (show os = ((putV b cl x).1) by first | (simp [putV, c1]; done) | (simp [putV, c1, hg]; done)))) ?_
              refine w_leC (n := 0) (j := 0) (y := pS 1 false enc8 []) rfl rfl (le_nilS 1 false) ?_
              refine w_leC (n := 0) (j := 0) (y := pS 1 false enc8 ((putV b cl x).2.1)) rfl rfl (le_of_eq (congrArg (fun z => pS 1 false enc8 z) (show [] = ((putV b cl x).2.1) by first | (simp [putV, c1]; done) | (simp [putV, c1, hg]; done)))) ?_
              refine w_leC (n := 0) (j := 1) (y := pB ((putV b cl x).2.2)) rfl rfl (le_of_eq (congrArg (fun z : Bool => pB z) (show true = ((putV b cl x).2.2) by first | (simp [putV, c1]; done) | (simp [putV, c1, hg]; done)))) ?_
              refine w_ret ?_
              exact fin_names (nx1 := 1) (H1 := [(0, .obj [pS 1 false enc8 ((putV b cl x).2.1), pB ((putV b cl x).2.2)])]) [(0, 0)] (ret_tmp rfl ret_nil) rfl (by decide) ⟨⟨_, _, rfl, rfl, rfl, rfl⟩, trivial⟩ (by decide) rfl ⟨rfl, rfl, rfl⟩
            ·
              have c3_ := c3
              try simp only [decide_eq_true_eq, decide_eq_false_iff_not, Bool.not_eq_true', Bool.not_eq_false', Bool.not_true, Bool.not_false, Bool.not_eq_eq_eq_not, Int.not_lt, Int.not_le] at c3
              refine w_skip ?_
              refine q_then ?_
              refine w_seq ?_
              refine w_seq ?_
              have hok : headBad q = false := by unfold headBad; apply decide_eq_false; omega
              refine w_R ?_
              refine r_op tabOk hnt rfl (s_move rfl ?_) 
              refine r_op tabOk hnt rfl (s_nilCheck rfl trivial ?_) 
              refine r_op tabOk hnt rfl (s_fa_ptr tab_87 rfl rfl tab_27 (by decide) rfl ?_) 
              refine r_op tabOk hnt rfl (s_load_ptr1 tab_27 rfl rfl rfl rfl rfl ?_) 
              refine r_op tabOk hnt rfl (s_lenM (l := q) tab_27 rfl (hM_sl (f := enc8) rfl) ?_) 
              refine r_op tabOk hnt rfl (s_subi (r := ((q.length : Nat) : Int) - 6) rfl rfl rfl (by omega) ?_) 
              refine r_op tabOk hnt rfl (s_move rfl ?_) 
              refine r_op tabOk hnt rfl (s_lss rfl rfl ?_) 
              refine r_end ?_
              refine q_then ?_
              refine w_if rfl (fun c4 => ?_) (fun c4 => ?_)
              ·
                have c4_ := c4
                try simp only [decide_eq_true_eq, decide_eq_false_iff_not, Bool.not_eq_true', Bool.not_eq_false', Bool.not_true, Bool.not_false, Bool.not_eq_eq_eq_not, Int.not_lt, Int.not_le] at c4
                have hz := mb_waits (b := q) (by omega) hok (by omega)
                rw [hz] at hg
                refine w_exit ?_
                refine q_then_exit ?_
                refine q_block_pass (by decide) ?_
                refine q_then_exit ?_
                refine q_block_exit ?_
                refine q_then ?_
                refine w_seq ?_
                refine w_R ?_
                refine r_op tabOk hnt rfl (s_move rfl ?_) 
                refine r_op tabOk hnt rfl (s_callX (r2 := pS 3 true eMsg os) (nx1 := 2) (H2 := [(1, oB false 3 eMsg os), (0, .obj [pS 1 false enc8 q, pB false])]) (H3 := [(1, oB false 3 eMsg os), (0, .obj [pS 1 false enc8 q, pB false])]) [] [] rfl rfl rfl (handed_of (by decide) trivial) rfl rfl rfl rfl rfl rfl (w_slices_Clip_mbap_Msg_mbap_Msg os false) rfl (dist_of rfl) rfl rfl rfl rfl ?_) 
                refine r_op tabOk hnt rfl (s_assign rfl ?_) 
                refine r_set [(4, pS 3 true eMsg os)] [(1, oB false 3 eMsg os), (0, .obj [pS 1 false enc8 q, pB false])] 2 ⟨rfl, trivial⟩ rfl rfl ?_
                refine r_end ?_
                refine q_then ?_
                refine w_le (s := 4) (y := pS 3 true eMsg ((putV b cl x).1)) rfl (le_of_eq (congrArg (fun z => pS 3 true eMsg z) (show os = ((putV b cl x).1) by first | (simp [putV, c1]; done) | (simp [putV, c1, hg]; done)))) ?_
                refine w_leC (n := 0) (j := 0) (y := pS 1 false enc8 ((putV b cl x).2.1)) rfl rfl (le_of_eq (congrArg (fun z => pS 1 false enc8 z) (show q = ((putV b cl x).2.1) by first | (simp [putV, c1]; done) | (simp [putV, c1, hg]; done)))) ?_
                refine w_leC (n := 0) (j := 1) (y := pB ((putV b cl x).2.2)) rfl rfl (le_of_eq (congrArg (fun z : Bool => pB z) (show false = ((putV b cl x).2.2) by first | (simp [putV, c1]; done) | (simp [putV, c1, hg]; done)))) ?_
                refine w_ret ?_
                exact fin_names (nx1 := 1) (H1 := [(0, .obj [pS 1 false enc8 ((putV b cl x).2.1), pB ((putV b cl x).2.2)])]) [(0, 0)] (ret_tmp rfl ret_nil) rfl (by decide) ⟨⟨_, _, rfl, rfl, rfl, rfl⟩, trivial⟩ (by decide) rfl ⟨rfl, rfl, rfl⟩
              ·
                have c4_ := c4
                try simp only [decide_eq_true_eq, decide_eq_false_iff_not, Bool.not_eq_true', Bool.not_eq_false', Bool.not_true, Bool.not_false, Bool.not_eq_eq_eq_not, Int.not_lt, Int.not_le] at c4
                refine w_skip ?_
                refine q_then ?_
                refine w_seq ?_
                refine W_drawn tabOk mixed hnt [[], [], [], [2], [2, 3], [2, 3, 4], [2, 3, 4, 5], [2, 3, 4, 5, 6], [2, 3, 4, 5, 6, 7], [], [9], [9, 10], [9, 10, 11], [], [13], [9, 10, 11, 12, 13, 14], [9, 10, 11, 12, 13, 14, 15], [1, 2, 3, 4, 5, 6, 7, 8, 9, 10, 11, 12, 13, 14, 15, 16], [1, 2, 3, 4, 5, 6, 7, 8, 9, 10, 11, 12, 13, 14, 15, 16, 17], [0, 1, 2, 3, 4, 5, 6, 7, 8, 9, 10, 11, 12, 13, 14, 15, 16, 17, 18], [0, 1, 2, 3, 4, 5, 6, 7, 8, 9, 10, 11, 12, 13, 14, 15, 16, 17, 18, 19]] (by kernel_rfl) ?_
                refine d_op ?_
                refine x_run0 [(5, PV.ref 1 0 none)] [] rfl rfl rfl rfl (s_move rfl ⟨rfl, rfl, rfl⟩) ?_
                refine d_op ?_
                refine x_run0 [(6, pI (getV q 0))] [] rfl rfl rfl rfl (s_move rfl ⟨rfl, rfl, rfl⟩) ?_
                refine d_op ?_
                refine x_run0 [(0, PV.ptr 0 0)] [] rfl rfl rfl rfl (s_move rfl ⟨rfl, rfl, rfl⟩) ?_
                refine d_op ?_
                refine x_run0 [(82, PV.ptr 0 0)] [2] rfl rfl rfl rfl (s_nilCheck rfl trivial ⟨rfl, rfl, rfl⟩) ?_
                refine d_op ?_
                refine x_run0 [(83, PV.ptr 0 0)] [2, 3] rfl rfl rfl rfl (s_fa_ptr tab_87 rfl rfl tab_27 (by decide) rfl ⟨rfl, rfl, rfl⟩) ?_
                refine d_op ?_
                refine x_run [(84, PV.ptr 0 0)] [2, 3, 4] [(0, .obj [pS 1 false enc8 q, pB false])] [] [(0, .obj [pS 1 false enc8 q, pB false])] [] [(0, .obj [pS 1 false enc8 q, pB false]), (1, oB true 3 eMsg os)] rfl rfl rfl rfl rfl rfl (s_load_ptr1 tab_27 rfl rfl rfl rfl rfl ⟨rfl, rfl, rfl⟩) rfl ⟨rfl, trivial⟩ rfl rfl ?_
                refine d_op ?_
                obtain ⟨e1, he1⟩ := get_of_lt q (i := 6) (by omega)
                refine x_run0 [(85, pS 1 false enc8 q)] [2, 3, 4, 5] rfl rfl rfl rfl (s_iaM (q := 6) (b := e1) (f := enc8) tab_27 rfl tab_5 rfl rfl (by omega) rfl he1 ⟨rfl, rfl, rfl⟩) ?_
                refine d_op ?_
                refine x_run0 [(86, PV.f (.ro (enc8 e1)))] [2, 3, 4, 5, 6] rfl rfl rfl rfl (s_load_ro1 tab_5 rfl rfl rfl rfl ⟨rfl, rfl, rfl⟩) ?_
                refine d_op ?_
                refine x_run0 [(87, p8 e1)] [2, 3, 4, 5, 6, 7] rfl rfl rfl rfl (s_cvN (a := UInt8.toNat e1) tab_5 tab_3 rfl rfl rfl (by omega) (by have := lt8 e1; omega) ⟨rfl, rfl, rfl⟩) ?_
                refine d_op ?_
                refine x_run0 [(0, PV.ptr 0 0)] [] rfl rfl rfl rfl (s_move rfl ⟨rfl, rfl, rfl⟩) ?_
                refine d_op ?_
                refine x_run0 [(89, PV.ptr 0 0)] [9] rfl rfl rfl rfl (s_nilCheck rfl trivial ⟨rfl, rfl, rfl⟩) ?_
                refine d_op ?_
                refine x_run0 [(90, PV.ptr 0 0)] [9, 10] rfl rfl rfl rfl (s_fa_ptr tab_87 rfl rfl tab_27 (by decide) rfl ⟨rfl, rfl, rfl⟩) ?_
                refine d_op ?_
                refine x_run [(91, PV.ptr 0 0)] [9, 10, 11] [(0, .obj [pS 1 false enc8 q, pB false])] [] [(0, .obj [pS 1 false enc8 q, pB false])] [] [(0, .obj [pS 1 false enc8 q, pB false]), (1, oB true 3 eMsg os)] rfl rfl rfl rfl rfl rfl (s_load_ptr1 tab_27 rfl rfl rfl rfl rfl ⟨rfl, rfl, rfl⟩) rfl ⟨rfl, trivial⟩ rfl rfl ?_
                refine d_op ?_
                refine x_run0 [(10, pI (getV q 4))] [] rfl rfl rfl rfl (s_move rfl ⟨rfl, rfl, rfl⟩) ?_
                refine d_op ?_
                refine x_run0 [(93, pI (getV q 4))] [13] rfl rfl rfl rfl (s_addi (r := 6 + (getV q 4)) rfl rfl rfl (by omega) ⟨rfl, rfl, rfl⟩) ?_
                refine d_op ?_
                refine x_run0 [(92, pS 1 false enc8 q), (94, pI (6 + (getV q 4)))] [9, 10, 11, 12, 13, 14] rfl rfl rfl rfl (s_cutM (a := 7) (b := Int.toNat (6 + (getV q 4))) (f := enc8) (l := q) tab_27 rfl tab_5 ⟨rfl, by decide⟩ rfl (bound_some rfl (by omega)) (bound_some rfl (by omega)) (by omega) ⟨rfl, rfl, rfl⟩) ?_
                refine d_op ?_
                refine x_run [(95, pS 1 false enc8 ((q.take (Int.toNat (6 + (getV q 4)))).drop 7))] [9, 10, 11, 12, 13, 14, 15] [] [] [(2, oB true 1 enc8 ((q.take (Int.toNat (6 + (getV q 4)))).drop 7))] [(2, oB true 1 enc8 ((q.take (Int.toNat (6 + (getV q 4)))).drop 7))] [(2, oB true 1 enc8 ((q.take (Int.toNat (6 + (getV q 4)))).drop 7)), (0, .obj [pS 1 false enc8 q, pB false]), (1, oB true 3 eMsg os)] rfl rfl rfl rfl rfl rfl (s_callX (r2 := PV.ref 2 0 none) (nx1 := 3) (H2 := []) (H3 := [(2, oB true 1 enc8 ((q.take (Int.toNat (6 + (getV q 4)))).drop 7))]) [] [] rfl rfl rfl (handed_of (by decide) trivial) rfl rfl rfl rfl rfl rfl (w_slices_Clone_byte_byte ((q.take (Int.toNat (6 + (getV q 4)))).drop 7) false (by first | omega | assumption | (simp; omega) | decide | (simp; done))) rfl (dist_of rfl) rfl rfl rfl rfl ⟨rfl, rfl, rfl⟩) rfl trivial rfl rfl ?_
                refine d_op ?_
                refine x_run0 [(81, pI (getV q 0)), (88, pN (UInt8.toNat e1)), (96, PV.ref 2 0 none)] [1, 2, 3, 4, 5, 6, 7, 8, 9, 10, 11, 12, 13, 14, 15, 16] rfl rfl rfl rfl (s_build tab_30 rfl rfl (b_cons rfl tab_3 rfl rfl rfl (Nat.le_of_ble_eq_true rfl) (b_cons rfl tab_3 rfl rfl rfl (Nat.le_of_ble_eq_true rfl) (b_cons rfl tab_27 rfl rfl rfl (Nat.le_of_ble_eq_true rfl) (b_nil ⟨rfl, rfl, rfl⟩))))) ?_
                refine d_op ?_
                refine x_run [(97, PV.agg [pI (getV q 0), pN (UInt8.toNat e1), PV.ref 2 0 none])] [1, 2, 3, 4, 5, 6, 7, 8, 9, 10, 11, 12, 13, 14, 15, 16, 17] [] [(2, oB true 1 enc8 ((q.take (Int.toNat (6 + (getV q 4)))).drop 7))] [(3, oB true 3 eMsg [(⟨getV q 0, ((UInt8.toNat e1 : Nat) : Int), ((q.take (Int.toNat (6 + (getV q 4)))).drop 7)⟩ : TMsg)]), (2, oB false 1 enc8 ((q.take (Int.toNat (6 + (getV q 4)))).drop 7))] [(3, oB true 3 eMsg [(⟨getV q 0, ((UInt8.toNat e1 : Nat) : Int), ((q.take (Int.toNat (6 + (getV q 4)))).drop 7)⟩ : TMsg)]), (2, oB false 1 enc8 ((q.take (Int.toNat (6 + (getV q 4)))).drop 7))] [(3, oB true 3 eMsg [(⟨getV q 0, ((UInt8.toNat e1 : Nat) : Int), ((q.take (Int.toNat (6 + (getV q 4)))).drop 7)⟩ : TMsg)]), (2, oB false 1 enc8 ((q.take (Int.toNat (6 + (getV q 4)))).drop 7)), (0, .obj [pS 1 false enc8 q, pB false]), (1, oB true 3 eMsg os)] rfl rfl rfl rfl rfl rfl (s_mkM (f := eMsg) [(⟨getV q 0, ((UInt8.toNat e1 : Nat) : Int), ((q.take (Int.toNat (6 + (getV q 4)))).drop 7)⟩ : TMsg)] tab_39 rfl tab_30 ⟨rfl, by decide⟩ (by decide) rfl rfl rfl rfl ⟨rfl, rfl, rfl⟩) rfl trivial rfl rfl ?_
                refine d_op ?_
                refine x_run [(80, PV.ref 1 0 none), (98, PV.ref 3 0 none)] [0, 1, 2, 3, 4, 5, 6, 7, 8, 9, 10, 11, 12, 13, 14, 15, 16, 17, 18] [(3, oB true 3 eMsg [(⟨getV q 0, ((UInt8.toNat e1 : Nat) : Int), ((q.take (Int.toNat (6 + (getV q 4)))).drop 7)⟩ : TMsg)])] [(1, oB true 3 eMsg os)] [(4, oB true 3 eMsg (os ++ [(⟨getV q 0, ((UInt8.toNat e1 : Nat) : Int), ((q.take (Int.toNat (6 + (getV q 4)))).drop 7)⟩ : TMsg)])), (3, oB true 3 eMsg [(⟨getV q 0, ((UInt8.toNat e1 : Nat) : Int), ((q.take (Int.toNat (6 + (getV q 4)))).drop 7)⟩ : TMsg)])] [(4, oB true 3 eMsg (os ++ [(⟨getV q 0, ((UInt8.toNat e1 : Nat) : Int), ((q.take (Int.toNat (6 + (getV q 4)))).drop 7)⟩ : TMsg)]))] [(4, oB true 3 eMsg (os ++ [(⟨getV q 0, ((UInt8.toNat e1 : Nat) : Int), ((q.take (Int.toNat (6 + (getV q 4)))).drop 7)⟩ : TMsg)])), (3, oB true 3 eMsg [(⟨getV q 0, ((UInt8.toNat e1 : Nat) : Int), ((q.take (Int.toNat (6 + (getV q 4)))).drop 7)⟩ : TMsg)]), (2, oB false 1 enc8 ((q.take (Int.toNat (6 + (getV q 4)))).drop 7)), (0, .obj [pS 1 false enc8 q, pB false])] rfl rfl rfl rfl rfl rfl (s_appR0 (f := eMsg) (l := os) (xs := [(⟨getV q 0, ((UInt8.toNat e1 : Nat) : Int), ((q.take (Int.toNat (6 + (getV q 4)))).drop 7)⟩ : TMsg)]) tab_39 rfl tab_30 ⟨rfl, by decide, by decide⟩ (srcM tab_39 rfl (hM_ref0 (f := eMsg) rfl rfl)) rfl rfl (by first | omega | (simp; omega)) ⟨rfl, rfl, rfl⟩) rfl ⟨rfl, trivial⟩ rfl rfl ?_
                refine d_op ?_
                refine x_run0 [(99, PV.ref 4 0 none)] [0, 1, 2, 3, 4, 5, 6, 7, 8, 9, 10, 11, 12, 13, 14, 15, 16, 17, 18, 19] rfl rfl rfl rfl (s_assign rfl ⟨rfl, rfl, rfl⟩) ?_
                refine d_end ⟨by kernel_rfl, ?_⟩
                refine q_then ?_
                refine w_R ?_
                refine r_op tabOk hnt rfl (s_move rfl ?_) 
                refine r_op tabOk hnt rfl (s_move rfl ?_) 
                refine r_op tabOk hnt rfl (s_nilCheck rfl trivial ?_) 
                refine r_op tabOk hnt rfl (s_fa_ptr tab_87 rfl rfl tab_27 (by decide) rfl ?_) 
                refine r_op tabOk hnt rfl (s_load_ptr1 tab_27 rfl rfl rfl rfl rfl ?_) 
                refine r_op tabOk hnt rfl (s_move rfl ?_) 
                refine r_op tabOk hnt rfl (s_addi (r := 6 + (getV q 4)) rfl rfl rfl (by omega) ?_) 
                refine r_op tabOk hnt rfl (s_cutM_lo (a := Int.toNat (6 + (getV q 4))) (f := enc8) (l := q) tab_27 rfl tab_5 ⟨rfl, by decide⟩ rfl (bound_some rfl (by omega)) (by omega) ?_) 
                refine r_op tabOk hnt rfl (s_callX (r2 := PV.ref 5 0 none) (nx1 := 6) (H2 := [(4, oB true 3 eMsg (os ++ [(⟨getV q 0, ((UInt8.toNat e1 : Nat) : Int), ((q.take (Int.toNat (6 + (getV q 4)))).drop 7)⟩ : TMsg)])), (3, oB true 3 eMsg [(⟨getV q 0, ((UInt8.toNat e1 : Nat) : Int), ((q.take (Int.toNat (6 + (getV q 4)))).drop 7)⟩ : TMsg)]), (2, oB false 1 enc8 ((q.take (Int.toNat (6 + (getV q 4)))).drop 7)), (0, .obj [pS 1 false enc8 q, pB false])]) (H3 := [(5, oB true 1 enc8 (q.drop (Int.toNat (6 + (getV q 4))))), (4, oB true 3 eMsg (os ++ [(⟨getV q 0, ((UInt8.toNat e1 : Nat) : Int), ((q.take (Int.toNat (6 + (getV q 4)))).drop 7)⟩ : TMsg)])), (3, oB true 3 eMsg [(⟨getV q 0, ((UInt8.toNat e1 : Nat) : Int), ((q.take (Int.toNat (6 + (getV q 4)))).drop 7)⟩ : TMsg)]), (2, oB false 1 enc8 ((q.take (Int.toNat (6 + (getV q 4)))).drop 7)), (0, .obj [pS 1 false enc8 q, pB false])]) [] [] rfl rfl rfl (handed_of (by decide) trivial) rfl rfl rfl rfl rfl rfl (w_slices_Clone_byte_byte (q.drop (Int.toNat (6 + (getV q 4)))) false (by first | omega | assumption | (simp; omega) | decide | (simp; done))) rfl (dist_of rfl) rfl rfl rfl rfl ?_) 
                refine r_op tabOk hnt rfl (s_nilCheck rfl trivial ?_) 
                refine r_op tabOk hnt rfl (s_fa_ptr tab_87 rfl rfl tab_27 (by decide) rfl ?_) 
                refine r_op tabOk hnt rfl (s_store_ptr tab_27 rfl rfl rfl rfl rfl (Nat.le_of_ble_eq_true rfl) ?_) 
                refine r_frzC (n := 0) (j := 0) rfl rfl rfl rfl ?_
                refine r_end ?_
                refine q_block ?_
                refine q_then ?_
                refine ⟨((q.drop (Int.toNat (6 + (getV q 4))))), (os ++ [(⟨getV q 0, ((UInt8.toNat e1 : Nat) : Int), ((q.take (Int.toNat (6 + (getV q 4)))).drop 7)⟩ : TMsg)]), ?_, ?_, ⟨[(0, 0), (1, 4)], by rw [hk]; decide, ⟨⟨_, rfl, rfl, rfl⟩, ⟨_, rfl, rfl, rfl⟩, trivial⟩, ⟨⟨_, _, rfl, rfl, rfl, rfl⟩, ⟨_, _, rfl, rfl, rfl, rfl⟩, trivial⟩, by rw [hk]; decide⟩⟩
                ·
                  refine ⟨?_, by rw [List.length_drop]; omega, by rw [List.length_drop, List.length_append, List.length_singleton]; omega⟩
                  have hnx := mb_next (by omega) hok (by omega) he1 hg
                  rw [Nat.zero_add] at hnx
                  first | exact hnx | (rw [Nat.zero_add]; exact hnx)
                · rw [List.length_drop]; omega
          ·
            have g2' := g2
            try simp only [decide_eq_true_eq, decide_eq_false_iff_not, Bool.not_eq_true', Bool.not_eq_false', Bool.not_true, Bool.not_false, Bool.not_eq_eq_eq_not, Int.not_lt, Int.not_le] at g2'
            refine r_if tabOk hnt rfl rfl rfl (fun e => absurd (e.symm.trans g2) (by decide)) (fun _ => ?_)
            refine r_op tabOk hnt rfl (s_pick_t rfl g2 rfl ?_) 
            refine r_end ?_
            refine q_then ?_
            refine w_if rfl (fun _ => ?_) (fun e => absurd e (by decide))
            refine w_seq ?_
            have hz := mb_bad (b := q) (by omega) (by unfold headBad; apply decide_eq_true; omega)
            rw [hz] at hg
            refine w_R ?_
            refine r_op tabOk hnt rfl (s_move rfl ?_) 
            refine r_op tabOk hnt rfl (s_move rfl ?_) 
            refine r_op tabOk hnt rfl (s_nilCheck rfl trivial ?_) 
            refine r_op tabOk hnt rfl (s_fa_ptr tab_87 rfl rfl tab_27 (by decide) rfl ?_) 
            refine r_op tabOk hnt rfl (s_store_ptr tab_27 rfl rfl rfl rfl rfl (Nat.le_of_ble_eq_true rfl) ?_) 
            refine r_op tabOk hnt rfl (s_nilCheck rfl trivial ?_) 
            refine r_op tabOk hnt rfl (s_fa_ptr tab_87 rfl rfl tab_4 (by decide) rfl ?_) 
            refine r_op tabOk hnt rfl (s_store_ptr tab_4 rfl rfl rfl rfl rfl (Nat.le_of_ble_eq_true rfl) ?_) 
            refine r_set [(5, PV.ref 1 0 none)] [(0, .obj [pNil, pB true]), (1, oB true 3 eMsg os)] 2 ⟨rfl, trivial⟩ rfl rfl ?_
            refine r_end ?_
            refine q_then ?_
            refine w_exit ?_
            refine q_then_exit ?_
            refine q_block_pass (by decide) ?_
            refine q_then_exit ?_
            refine q_block_exit ?_
            refine q_then ?_
            refine w_seq ?_
            refine w_R ?_
            refine r_op tabOk hnt rfl (s_move rfl ?_) 
            refine r_op tabOk hnt rfl (s_callX (r2 := pS 3 true eMsg os) (nx1 := 2) (H2 := [(1, oB false 3 eMsg os), (0, .obj [pNil, pB true])]) (H3 := [(1, oB false 3 eMsg os), (0, .obj [pNil, pB true])]) [] [] rfl rfl rfl (handed_of (by decide) trivial) rfl rfl rfl rfl rfl rfl (w_slices_Clip_mbap_Msg_mbap_Msg os false) rfl (dist_of rfl) rfl rfl rfl rfl ?_) 
            refine r_op tabOk hnt rfl (s_assign rfl ?_) 
            refine r_set [(4, pS 3 true eMsg os)] [(1, oB false 3 eMsg os), (0, .obj [pNil, pB true])] 2 ⟨rfl, trivial⟩ rfl rfl ?_
            refine r_end ?_
            refine q_then ?_
            refine w_le (s := 4) (y := pS 3 true eMsg ((putV b cl x).1)) rfl (le_of_eq (congrArg (fun z => pS 3 true eMsg z) (show os = ((putV b cl x).1) by first | (simp [putV, c1]; done) | (simp [putV, c1, hg]; done)))) ?_
            refine w_leC (n := 0) (j := 0) (y := pS 1 false enc8 []) rfl rfl (le_nilS 1 false) ?_
            refine w_leC (n := 0) (j := 0) (y := pS 1 false enc8 ((putV b cl x).2.1)) rfl rfl (le_of_eq (congrArg (fun z => pS 1 false enc8 z) (show [] = ((putV b cl x).2.1) by first | (simp [putV, c1]; done) | (simp [putV, c1, hg]; done)))) ?_
            refine w_leC (n := 0) (j := 1) (y := pB ((putV b cl x).2.2)) rfl rfl (le_of_eq (congrArg (fun z : Bool => pB z) (show true = ((putV b cl x).2.2) by first | (simp [putV, c1]; done) | (simp [putV, c1, hg]; done)))) ?_
            refine w_ret ?_
            exact fin_names (nx1 := 1) (H1 := [(0, .obj [pS 1 false enc8 ((putV b cl x).2.1), pB ((putV b cl x).2.2)])]) [(0, 0)] (ret_tmp rfl ret_nil) rfl (by decide) ⟨⟨_, _, rfl, rfl, rfl, rfl⟩, trivial⟩ (by decide) rfl ⟨rfl, rfl, rfl⟩
        ·
          have g1' := g1
          try simp only [decide_eq_true_eq, decide_eq_false_iff_not, Bool.not_eq_true', Bool.not_eq_false', Bool.not_true, Bool.not_false, Bool.not_eq_eq_eq_not, Int.not_lt, Int.not_le] at g1'
          refine r_if tabOk hnt rfl rfl rfl (fun e => absurd (e.symm.trans g1) (by decide)) (fun _ => ?_)
          refine r_op tabOk hnt rfl (s_pick_t rfl g1 rfl ?_) 
          refine r_op tabOk hnt rfl (s_move rfl ?_) 
          refine r_if tabOk hnt rfl rfl rfl (fun e => absurd e (by decide)) (fun _ => ?_)
          refine r_if tabOk hnt rfl rfl rfl (fun e => absurd e (by decide)) (fun _ => ?_)
          refine r_op tabOk hnt rfl (s_pick_t rfl rfl rfl ?_) 
          refine r_end ?_
          refine q_then ?_
          refine w_if rfl (fun _ => ?_) (fun e => absurd e (by decide))
          refine w_seq ?_
          have hz := mb_bad (b := q) (by omega) (by unfold headBad; apply decide_eq_true; omega)
          rw [hz] at hg
          refine w_R ?_
          refine r_op tabOk hnt rfl (s_move rfl ?_) 
          refine r_op tabOk hnt rfl (s_move rfl ?_) 
          refine r_op tabOk hnt rfl (s_nilCheck rfl trivial ?_) 
          refine r_op tabOk hnt rfl (s_fa_ptr tab_87 rfl rfl tab_27 (by decide) rfl ?_) 
          refine r_op tabOk hnt rfl (s_store_ptr tab_27 rfl rfl rfl rfl rfl (Nat.le_of_ble_eq_true rfl) ?_) 
          refine r_op tabOk hnt rfl (s_nilCheck rfl trivial ?_) 
          refine r_op tabOk hnt rfl (s_fa_ptr tab_87 rfl rfl tab_4 (by decide) rfl ?_) 
          refine r_op tabOk hnt rfl (s_store_ptr tab_4 rfl rfl rfl rfl rfl (Nat.le_of_ble_eq_true rfl) ?_) 
          refine r_set [(5, PV.ref 1 0 none)] [(0, .obj [pNil, pB true]), (1, oB true 3 eMsg os)] 2 ⟨rfl, trivial⟩ rfl rfl ?_
          refine r_end ?_
          refine q_then ?_
          refine w_exit ?_
          refine q_then_exit ?_
          refine q_block_pass (by decide) ?_
          refine q_then_exit ?_
          refine q_block_exit ?_
          refine q_then ?_
          refine w_seq ?_
          refine w_R ?_
          refine r_op tabOk hnt rfl (s_move rfl ?_) 
          refine r_op tabOk hnt rfl (s_callX (r2 := pS 3 true eMsg os) (nx1 := 2) (H2 := [(1, oB false 3 eMsg os), (0, .obj [pNil, pB true])]) (H3 := [(1, oB false 3 eMsg os), (0, .obj [pNil, pB true])]) [] [] rfl rfl rfl (handed_of (by decide) trivial) rfl rfl rfl rfl rfl rfl (w_slices_Clip_mbap_Msg_mbap_Msg os false) rfl (dist_of rfl) rfl rfl rfl rfl ?_) 
          refine r_op tabOk hnt rfl (s_assign rfl ?_) 
          refine r_set [(4, pS 3 true eMsg os)] [(1, oB false 3 eMsg os), (0, .obj [pNil, pB true])] 2 ⟨rfl, trivial⟩ rfl rfl ?_
          refine r_end ?_
          refine q_then ?_
          refine w_le (s := 4) (y := pS 3 true eMsg ((putV b cl x).1)) rfl (le_of_eq (congrArg (fun z => pS 3 true eMsg z) (show os = ((putV b cl x).1) by first | (simp [putV, c1]; done) | (simp [putV, c1, hg]; done)))) ?_
          refine w_leC (n := 0) (j := 0) (y := pS 1 false enc8 []) rfl rfl (le_nilS 1 false) ?_
          refine w_leC (n := 0) (j := 0) (y := pS 1 false enc8 ((putV b cl x).2.1)) rfl rfl (le_of_eq (congrArg (fun z => pS 1 false enc8 z) (show [] = ((putV b cl x).2.1) by first | (simp [putV, c1]; done) | (simp [putV, c1, hg]; done)))) ?_
          refine w_leC (n := 0) (j := 1) (y := pB ((putV b cl x).2.2)) rfl rfl (le_of_eq (congrArg (fun z : Bool => pB z) (show true = ((putV b cl x).2.2) by first | (simp [putV, c1]; done) | (simp [putV, c1, hg]; done)))) ?_
          refine w_ret ?_
          exact fin_names (nx1 := 1) (H1 := [(0, .obj [pS 1 false enc8 ((putV b cl x).2.1), pB ((putV b cl x).2.2)])]) [(0, 0)] (ret_tmp rfl ret_nil) rfl (by decide) ⟨⟨_, _, rfl, rfl, rfl, rfl⟩, trivial⟩ (by decide) rfl ⟨rfl, rfl, rfl⟩
      ·
        have c2_ := c2
        try simp only [decide_eq_true_eq, decide_eq_false_iff_not, Bool.not_eq_true', Bool.not_eq_false', Bool.not_true, Bool.not_false, Bool.not_eq_eq_eq_not, Int.not_lt, Int.not_le] at c2
        have hz := mb_short (b := q) (by omega)
        rw [hz] at hg
        refine w_exit ?_
        refine q_then_exit ?_
        refine q_then_exit ?_
        refine q_block_exit ?_
        refine q_then ?_
        refine w_seq ?_
        refine w_R ?_
        refine r_op tabOk hnt rfl (s_move rfl ?_) 
        refine r_op tabOk hnt rfl (s_callX (r2 := pS 3 true eMsg os) (nx1 := 2) (H2 := [(1, oB false 3 eMsg os), (0, .obj [pS 1 false enc8 q, pB false])]) (H3 := [(1, oB false 3 eMsg os), (0, .obj [pS 1 false enc8 q, pB false])]) [] [] rfl rfl rfl (handed_of (by decide) trivial) rfl rfl rfl rfl rfl rfl (w_slices_Clip_mbap_Msg_mbap_Msg os false) rfl (dist_of rfl) rfl rfl rfl rfl ?_) 
        refine r_op tabOk hnt rfl (s_assign rfl ?_) 
        refine r_set [(4, pS 3 true eMsg os)] [(1, oB false 3 eMsg os), (0, .obj [pS 1 false enc8 q, pB false])] 2 ⟨rfl, trivial⟩ rfl rfl ?_
        refine r_end ?_
        refine q_then ?_
        refine w_le (s := 4) (y := pS 3 true eMsg ((putV b cl x).1)) rfl (le_of_eq (congrArg (fun z => pS 3 true eMsg z) (show os = ((putV b cl x).1) by first | (simp [putV, c1]; done) | (simp [putV, c1, hg]; done)))) ?_
        refine w_leC (n := 0) (j := 0) (y := pS 1 false enc8 ((putV b cl x).2.1)) rfl rfl (le_of_eq (congrArg (fun z => pS 1 false enc8 z) (show q = ((putV b cl x).2.1) by first | (simp [putV, c1]; done) | (simp [putV, c1, hg]; done)))) ?_
        refine w_leC (n := 0) (j := 1) (y := pB ((putV b cl x).2.2)) rfl rfl (le_of_eq (congrArg (fun z : Bool => pB z) (show false = ((putV b cl x).2.2) by first | (simp [putV, c1]; done) | (simp [putV, c1, hg]; done)))) ?_
        refine w_ret ?_
        exact fin_names (nx1 := 1) (H1 := [(0, .obj [pS 1 false enc8 ((putV b cl x).2.1), pB ((putV b cl x).2.2)])]) [(0, 0)] (ret_tmp rfl ret_nil) rfl (by decide) ⟨⟨_, _, rfl, rfl, rfl, rfl⟩, trivial⟩ (by decide) rfl ⟨rfl, rfl, rfl⟩

theorem w_mbap_Stream_Put_e (b : List UInt8) (cl_b : Bool) (cl : Bool) (x : List UInt8) (cl_x : Bool) (hb : b.length + x.length ≤ 28147497671000) (hx : x = []) :
    T Try.prog 23 [PV.ptr 0 0, pS 1 cl_x enc8 x] 1 [(0, .obj [pS 1 cl_b enc8 b, pB cl])] (Ret (pS 3 true eMsg ((putV b cl x).1)) 1 [(0, .obj [pS 1 false enc8 ((putV b cl x).2.1), pB ((putV b cl x).2.2)])]) := by
  refine t_fun tabOk (n := 113) (rs := [.tmp 4]) Try.func23 rfl rfl rfl rfl (Nat.le_of_ble_eq_true rfl) ?_
  intro c hnt hk
  refine w_seq ?_
  refine w_R ?_
  refine r_op tabOk hnt rfl (s_assign rfl ?_) 
  refine r_end ?_
  refine q_then ?_
  refine w_seq ?_
  refine w_seq ?_
  refine w_R ?_
  refine r_op tabOk hnt rfl (s_move rfl ?_) 
  refine r_op tabOk hnt rfl (s_nilCheck rfl trivial ?_) 
  refine r_op tabOk hnt rfl (s_fa_ptr tab_87 rfl rfl tab_4 (by decide) rfl ?_) 
  refine r_op tabOk hnt rfl (s_load_ptr1 tab_4 rfl rfl rfl rfl rfl ?_) 
  refine r_end ?_
  refine q_then ?_
  refine w_if rfl (fun c1 => ?_) (fun c1 => ?_)
  ·
    have c1_ := c1
    try simp only [decide_eq_true_eq, decide_eq_false_iff_not, Bool.not_eq_true', Bool.not_eq_false', Bool.not_true, Bool.not_false, Bool.not_eq_eq_eq_not, Int.not_lt, Int.not_le] at c1
    refine w_seq ?_
    refine w_R ?_
    refine r_op tabOk hnt rfl (s_assign rfl ?_) 
    refine r_end ?_
    refine q_then ?_
    refine w_le (s := 4) (y := pS 3 true eMsg []) rfl (le_nilS 3 true) ?_
    refine w_le (s := 4) (y := pS 3 true eMsg ((putV b cl x).1)) rfl (le_of_eq (congrArg (fun z => pS 3 true eMsg z) (show [] = ((putV b cl x).1) by first | (simp [putV, c1]; done) | (simp [putV, c1, hg]; done)))) ?_
    refine w_leC (n := 0) (j := 0) (y := pS 1 false enc8 b) rfl rfl (le_loose) ?_
    refine w_leC (n := 0) (j := 0) (y := pS 1 false enc8 ((putV b cl x).2.1)) rfl rfl (le_of_eq (congrArg (fun z => pS 1 false enc8 z) (show b = ((putV b cl x).2.1) by first | (simp [putV, c1]; done) | (simp [putV, c1, hg]; done)))) ?_
    refine w_leC (n := 0) (j := 1) (y := pB ((putV b cl x).2.2)) rfl rfl (le_of_eq (congrArg (fun z : Bool => pB z) (show cl = ((putV b cl x).2.2) by first | (simp [putV, c1]; done) | (simp [putV, c1, hg]; done)))) ?_
    refine w_ret ?_
    refine q_then_ret ?_
    exact fin_names (nx1 := 1) (H1 := [(0, .obj [pS 1 false enc8 ((putV b cl x).2.1), pB ((putV b cl x).2.2)])]) [(0, 0)] (ret_tmp rfl ret_nil) rfl (by decide) ⟨⟨_, _, rfl, rfl, rfl, rfl⟩, trivial⟩ (by decide) rfl ⟨rfl, rfl, rfl⟩
  ·
    have c1_ := c1
    try simp only [decide_eq_true_eq, decide_eq_false_iff_not, Bool.not_eq_true', Bool.not_eq_false', Bool.not_true, Bool.not_false, Bool.not_eq_eq_eq_not, Int.not_lt, Int.not_le] at c1
    refine w_skip ?_
    refine q_then ?_
    refine w_seq ?_
    refine w_R ?_
    refine r_op tabOk hnt rfl (s_assign rfl ?_) 
    refine r_end ?_
    refine q_then ?_
    refine w_seq ?_
    refine w_R ?_
    refine r_op tabOk hnt rfl (s_move rfl ?_) 
    refine r_op tabOk hnt rfl (s_move rfl ?_) 
    refine r_op tabOk hnt rfl (s_nilCheck rfl trivial ?_) 
    refine r_op tabOk hnt rfl (s_fa_ptr tab_87 rfl rfl tab_27 (by decide) rfl ?_) 
    refine r_op tabOk hnt rfl (s_load_ptr1 tab_27 rfl rfl rfl rfl rfl ?_) 
    refine r_op tabOk hnt rfl (s_callF rfl rfl rfl (w_slices_Clip_byte_byte b cl_b) rfl ?_) 
    refine r_op tabOk hnt rfl (s_move rfl ?_) 
    refine r_op tabOk hnt rfl (s_appE (f := enc8) (l := b) (xs := x) tab_27 rfl tab_5 ⟨rfl, by decide, by decide⟩ (srcM tab_27 rfl (hM_sl (f := enc8) rfl)) rfl (by exact hx) ?_) 
    refine r_op tabOk hnt rfl (s_nilCheck rfl trivial ?_) 
    refine r_op tabOk hnt rfl (s_fa_ptr tab_87 rfl rfl tab_27 (by decide) rfl ?_) 
    refine r_op tabOk hnt rfl (s_store_ptr tab_27 rfl rfl rfl rfl rfl (Nat.le_of_ble_eq_true rfl) ?_) 
    refine r_set [(0, PV.ptr 0 0), (5, pNil)] [(0, .obj [pS 1 true enc8 b, pB cl])] 1 ⟨rfl, rfl, trivial⟩ rfl rfl ?_
    refine r_end ?_
    refine q_then ?_
    refine w_seq ?_
    refine w_block ?_
    refine w_adopt (s := 5) (sz := 3) rfl ?_
    refine w_leC (n := 0) (j := 0) (y := pS 1 false enc8 b) rfl rfl (le_loose) ?_
    refine w_leC (n := 0) (j := 1) (y := pB false) rfl rfl (le_of_eq (congrArg (fun z : Bool => pB z) (show cl = false by simp_all))) ?_
    refine loop2 (fun (q : List UInt8) (os : List TMsg) => mbGo (b ++ x) = (os ++ (mbGo q).1, (mbGo q).2) ∧ q.length ≤ 28147497671000 ∧ os.length * 8 + q.length ≤ 28147497671000) (fun (q : List UInt8) (os : List TMsg) => [(0, PV.ptr 0 0), (5, PV.ref 1 0 none)]) 2 (fun (q : List UInt8) (os : List TMsg) => [(0, .obj [pS 1 false enc8 q, pB false]), (1, oB true 3 eMsg os)]) (fun (q : List UInt8) (os : List TMsg) => q.length) (b) (([] : List TMsg)) ?_ ⟨[(0, 0), (1, 1)], by rw [hk]; decide, ⟨⟨_, rfl, rfl, rfl⟩, ⟨_, rfl, rfl, rfl⟩, trivial⟩, ⟨⟨_, _, rfl, rfl, rfl, rfl⟩, ⟨_, _, rfl, rfl, rfl, rfl⟩, trivial⟩, by rw [hk]; decide⟩ ?_
    · exact ⟨by simp [hx], by first | omega | (simp; omega), by first | (simp; omega) | (simp [hx]; omega)⟩
    ·
      intro q os hI
      obtain ⟨hg, hq, hol⟩ := hI
      refine w_seq ?_
      refine w_seq ?_
      refine w_R ?_
      refine r_op tabOk hnt rfl (s_move rfl ?_) 
      refine r_op tabOk hnt rfl (s_nilCheck rfl trivial ?_) 
      refine r_op tabOk hnt rfl (s_fa_ptr tab_87 rfl rfl tab_27 (by decide) rfl ?_) 
      refine r_op tabOk hnt rfl (s_load_ptr1 tab_27 rfl rfl rfl rfl rfl ?_) 
      refine r_op tabOk hnt rfl (s_lenM (l := q) tab_27 rfl (hM_sl (f := enc8) rfl) ?_) 
      refine r_op tabOk hnt rfl (s_geq rfl rfl ?_) 
      refine r_end ?_
      refine q_then ?_
      refine w_if rfl (fun c2 => ?_) (fun c2 => ?_)
      ·
        have c2_ := c2
        try simp only [decide_eq_true_eq, decide_eq_false_iff_not, Bool.not_eq_true', Bool.not_eq_false', Bool.not_true, Bool.not_false, Bool.not_eq_eq_eq_not, Int.not_lt, Int.not_le] at c2
        have hv := getV_head (q := q) (by omega)
        have hn4 := getN_lt q 4
        refine w_skip ?_
        refine q_then ?_
        refine w_block ?_
        refine w_seq ?_
        refine w_R ?_
        refine r_op tabOk hnt rfl (s_move rfl ?_) 
        refine r_op tabOk hnt rfl (s_nilCheck rfl trivial ?_) 
        refine r_op tabOk hnt rfl (s_fa_ptr tab_87 rfl rfl tab_27 (by decide) rfl ?_) 
        refine r_op tabOk hnt rfl (s_load_ptr1 tab_27 rfl rfl rfl rfl rfl ?_) 
        refine r_op tabOk hnt rfl (s_callF rfl rfl rfl (w_octet_Get q false 0 (by first | omega | assumption | (simp; omega) | decide | (simp; done)) (by first | omega | assumption | (simp; omega) | decide | (simp; done))) rfl ?_) 
        refine r_op tabOk hnt rfl (s_move rfl ?_) 
        refine r_op tabOk hnt rfl (s_extract rfl rfl ?_) 
        refine r_op tabOk hnt rfl (s_extract rfl rfl ?_) 
        refine r_op tabOk hnt rfl (s_assign rfl ?_) 
        refine r_op tabOk hnt rfl (s_assign rfl ?_) 
        refine r_end ?_
        refine q_then ?_
        refine w_seq ?_
        refine w_R ?_
        refine r_op tabOk hnt rfl (s_move rfl ?_) 
        refine r_op tabOk hnt rfl (s_nilCheck rfl trivial ?_) 
        refine r_op tabOk hnt rfl (s_fa_ptr tab_87 rfl rfl tab_27 (by decide) rfl ?_) 
        refine r_op tabOk hnt rfl (s_load_ptr1 tab_27 rfl rfl rfl rfl rfl ?_) 
        refine r_op tabOk hnt rfl (s_callF rfl rfl rfl (w_octet_Get q false 2 (by first | omega | assumption | (simp; omega) | decide | (simp; done)) (by first | omega | assumption | (simp; omega) | decide | (simp; done))) rfl ?_) 
        refine r_op tabOk hnt rfl (s_move rfl ?_) 
        refine r_op tabOk hnt rfl (s_extract rfl rfl ?_) 
        refine r_op tabOk hnt rfl (s_extract rfl rfl ?_) 
        refine r_op tabOk hnt rfl (s_assign rfl ?_) 
        refine r_op tabOk hnt rfl (s_assign rfl ?_) 
        refine r_end ?_
        refine q_then ?_
        refine w_seq ?_
        refine w_R ?_
        refine r_op tabOk hnt rfl (s_move rfl ?_) 
        refine r_op tabOk hnt rfl (s_nilCheck rfl trivial ?_) 
        refine r_op tabOk hnt rfl (s_fa_ptr tab_87 rfl rfl tab_27 (by decide) rfl ?_) 
        refine r_op tabOk hnt rfl (s_load_ptr1 tab_27 rfl rfl rfl rfl rfl ?_) 
        refine r_op tabOk hnt rfl (s_callF rfl rfl rfl (w_octet_Get q false 4 (by first | omega | assumption | (simp; omega) | decide | (simp; done)) (by first | omega | assumption | (simp; omega) | decide | (simp; done))) rfl ?_) 
        refine r_op tabOk hnt rfl (s_move rfl ?_) 
        refine r_op tabOk hnt rfl (s_extract rfl rfl ?_) 
        refine r_op tabOk hnt rfl (s_extract rfl rfl ?_) 
        refine r_op tabOk hnt rfl (s_assign rfl ?_) 
        refine r_op tabOk hnt rfl (s_assign rfl ?_) 
        refine r_set [(0, PV.ptr 0 0), (5, PV.ref 1 0 none), (6, pI (getV q 0)), (8, pI (getV q 2)), (10, pI (getV q 4))] [(0, .obj [pS 1 false enc8 q, pB false]), (1, oB true 3 eMsg os)] 2 ⟨rfl, rfl, rfl, rfl, rfl, trivial⟩ rfl rfl ?_
        refine r_end ?_
        refine q_then ?_
        refine w_seq ?_
        refine w_seq ?_
        refine w_R ?_
        refine r_op tabOk hnt rfl (s_move rfl ?_) 
        refine r_op tabOk hnt rfl (s_neq rfl rfl ?_) 
        refine r_op tabOk hnt rfl (s_move rfl ?_) 
        refine r_if tabOk hnt rfl rfl rfl (fun g1 => ?_) (fun g1 => ?_)
        ·
          have g1' := g1
          try simp only [decide_eq_true_eq, decide_eq_false_iff_not, Bool.not_eq_true', Bool.not_eq_false', Bool.not_true, Bool.not_false, Bool.not_eq_eq_eq_not, Int.not_lt, Int.not_le] at g1'
          refine r_op tabOk hnt rfl (s_move rfl ?_) 
          refine r_if tabOk hnt rfl rfl rfl (fun _ => ?_) (fun e => absurd (e.symm.trans g1) (by decide))
          refine r_op tabOk hnt rfl (s_lss rfl rfl ?_) 
          refine r_op tabOk hnt rfl (s_pick_f rfl g1 rfl ?_) 
          refine r_op tabOk hnt rfl (s_move rfl ?_) 
          refine r_if tabOk hnt rfl rfl rfl (fun g2 => ?_) (fun g2 => ?_)
          ·
            have g2' := g2
            try simp only [decide_eq_true_eq, decide_eq_false_iff_not, Bool.not_eq_true', Bool.not_eq_false', Bool.not_true, Bool.not_false, Bool.not_eq_eq_eq_not, Int.not_lt, Int.not_le] at g2'
            refine r_op tabOk hnt rfl (s_move rfl ?_) 
            refine r_if tabOk hnt rfl rfl rfl (fun _ => ?_) (fun e => absurd (e.symm.trans g2) (by decide))
            refine r_op tabOk hnt rfl (s_gtr rfl rfl ?_) 
            refine r_op tabOk hnt rfl (s_pick_f rfl g2 rfl ?_) 
            refine r_end ?_
            refine q_then ?_
            refine w_if rfl (fun c3 => ?_) (fun c3 => ?_)
            ·
              have c3_ := c3
              try simp only [decide_eq_true_eq, decide_eq_false_iff_not, Bool.not_eq_true', Bool.not_eq_false', Bool.not_true, Bool.not_false, Bool.not_eq_eq_eq_not, Int.not_lt, Int.not_le] at c3
              refine w_seq ?_
              have hz := mb_bad (b := q) (by omega) (by unfold headBad; apply decide_eq_true; omega)
              rw [hz] at hg
              refine w_R ?_
              refine r_op tabOk hnt rfl (s_move rfl ?_) 
              refine r_op tabOk hnt rfl (s_move rfl ?_) 
              refine r_op tabOk hnt rfl (s_nilCheck rfl trivial ?_) 
              refine r_op tabOk hnt rfl (s_fa_ptr tab_87 rfl rfl tab_27 (by decide) rfl ?_) 
              refine r_op tabOk hnt rfl (s_store_ptr tab_27 rfl rfl rfl rfl rfl (Nat.le_of_ble_eq_true rfl) ?_) 
              refine r_op tabOk hnt rfl (s_nilCheck rfl trivial ?_) 
              refine r_op tabOk hnt rfl (s_fa_ptr tab_87 rfl rfl tab_4 (by decide) rfl ?_) 
              refine r_op tabOk hnt rfl (s_store_ptr tab_4 rfl rfl rfl rfl rfl (Nat.le_of_ble_eq_true rfl) ?_) 
              refine r_set [(5, PV.ref 1 0 none)] [(0, .obj [pNil, pB true]), (1, oB true 3 eMsg os)] 2 ⟨rfl, trivial⟩ rfl rfl ?_
              refine r_end ?_
              refine q_then ?_
              refine w_exit ?_
              refine q_then_exit ?_
              refine q_block_pass (by decide) ?_
              refine q_then_exit ?_
              refine q_block_exit ?_
              refine q_then ?_
              refine w_seq ?_
              refine w_R ?_
              refine r_op tabOk hnt rfl (s_move rfl ?_) 
              refine r_op tabOk hnt rfl (s_callX (r2 := pS 3 true eMsg os) (nx1 := 2) (H2 := [(1, oB false 3 eMsg os), (0, .obj [pNil, pB true])]) (H3 := [(1, oB false 3 eMsg os), (0, .obj [pNil, pB true])]) [] [] rfl rfl rfl (handed_of (by decide) trivial) rfl rfl rfl rfl rfl rfl (w_slices_Clip_mbap_Msg_mbap_Msg os false) rfl (dist_of rfl) rfl rfl rfl rfl ?_) 
              refine r_op tabOk hnt rfl (s_assign rfl ?_) 
              refine r_set [(4, pS 3 true eMsg os)] [(1, oB false 3 eMsg os), (0, .obj [pNil, pB true])] 2 ⟨rfl, trivial⟩ rfl rfl ?_
              refine r_end ?_
              refine q_then ?_
              refine w_le (s := 4) (y := pS 3 true eMsg ((putV b cl x).1)) rfl (le_of_eq (congrArg (fun z => pS 3 true eMsg z) (show os = ((putV b cl x).1) by first | (simp [putV, c1]; done) | (simp [putV, c1, hg]; done)))) ?_
              refine w_leC (n := 0) (j := 0) (y := pS 1 false enc8 []) rfl rfl (le_nilS 1 false) ?_
              refine w_leC (n := 0) (j := 0) (y := pS 1 false enc8 ((putV b cl x).2.1)) rfl rfl (le_of_eq (congrArg (fun z => pS 1 false enc8 z) (show [] = ((putV b cl x).2.1) by first | (simp [putV, c1]; done) | (simp [putV, c1, hg]; done)))) ?_
              refine w_leC (n := 0) (j := 1) (y := pB ((putV b cl x).2.2)) rfl rfl (le_of_eq (congrArg (fun z : Bool => pB z) (show true = ((putV b cl x).2.2) by first | (simp [putV, c1]; done) | (simp [putV, c1, hg]; done)))) ?_
              refine w_ret ?_
              exact fin_names (nx1 := 1) (H1 := [(0, .obj [pS 1 false enc8 ((putV b cl x).2.1), pB ((putV b cl x).2.2)])]) [(0, 0)] (ret_tmp rfl ret_nil) rfl (by decide) ⟨⟨_, _, rfl, rfl, rfl, rfl⟩, trivial⟩ (by decide) rfl ⟨rfl, rfl, rfl⟩
            ·
              have c3_ := c3
              try simp only [decide_eq_true_eq, decide_eq_false_iff_not, Bool.not_eq_true', Bool.not_eq_false', Bool.not_true, Bool.not_false, Bool.not_eq_eq_eq_not, Int.not_lt, Int.not_le] at c3
              refine w_skip ?_
              refine q_then ?_
              refine w_seq ?_
              refine w_seq ?_
              have hok : headBad q = false := by unfold headBad; apply decide_eq_false; omega
              refine w_R ?_
              refine r_op tabOk hnt rfl (s_move rfl ?_) 
              refine r_op tabOk hnt rfl (s_nilCheck rfl trivial ?_) 
              refine r_op tabOk hnt rfl (s_fa_ptr tab_87 rfl rfl tab_27 (by decide) rfl ?_) 
              refine r_op tabOk hnt rfl (s_load_ptr1 tab_27 rfl rfl rfl rfl rfl ?_) 
              refine r_op tabOk hnt rfl (s_lenM (l := q) tab_27 rfl (hM_sl (f := enc8) rfl) ?_) 
              refine r_op tabOk hnt rfl (s_subi (r := ((q.length : Nat) : Int) - 6) rfl rfl rfl (by omega) ?_) 
              refine r_op tabOk hnt rfl (s_move rfl ?_) 
              refine r_op tabOk hnt rfl (s_lss rfl rfl ?_) 
              refine r_end ?_
              refine q_then ?_
              refine w_if rfl (fun c4 => ?_) (fun c4 => ?_)
              ·
                have c4_ := c4
                try simp only [decide_eq_true_eq, decide_eq_false_iff_not, Bool.not_eq_true', Bool.not_eq_false', Bool.not_true, Bool.not_false, Bool.not_eq_eq_eq_not, Int.not_lt, Int.not_le] at c4
                have hz := mb_waits (b := q) (by omega) hok (by omega)
                rw [hz] at hg
                refine w_exit ?_
                refine q_then_exit ?_
                refine q_block_pass (by decide) ?_
                refine q_then_exit ?_
                refine q_block_exit ?_
                refine q_then ?_
                refine w_seq ?_
                refine w_R ?_
                refine r_op tabOk hnt rfl (s_move rfl ?_) 
                refine r_op tabOk hnt rfl (s_callX (r2 := pS 3 true eMsg os) (nx1 := 2) (H2 := [(1, oB false 3 eMsg os), (0, .obj [pS 1 false enc8 q, pB false])]) (H3 := [(1, oB false 3 eMsg os), (0, .obj [pS 1 false enc8 q, pB false])]) [] [] rfl rfl rfl (handed_of (by decide) trivial) rfl rfl rfl rfl rfl rfl (w_slices_Clip_mbap_Msg_mbap_Msg os false) rfl (dist_of rfl) rfl rfl rfl rfl ?_) 
                refine r_op tabOk hnt rfl (s_assign rfl ?_) 
                refine r_set [(4, pS 3 true eMsg os)] [(1, oB false 3 eMsg os), (0, .obj [pS 1 false enc8 q, pB false])] 2 ⟨rfl, trivial⟩ rfl rfl ?_
                refine r_end ?_
                refine q_then ?_
                refine w_le (s := 4) (y := pS 3 true eMsg ((putV b cl x).1)) rfl (le_of_eq (congrArg (fun z => pS 3 true eMsg z) (show os = ((putV b cl x).1) by first | (simp [putV, c1]; done) | (simp [putV, c1, hg]; done)))) ?_
                refine w_leC (n := 0) (j := 0) (y := pS 1 false enc8 ((putV b cl x).2.1)) rfl rfl (le_of_eq (congrArg (fun z => pS 1 false enc8 z) (show q = ((putV b cl x).2.1) by first | (simp [putV, c1]; done) | (simp [putV, c1, hg]; done)))) ?_
                refine w_leC (n := 0) (j := 1) (y := pB ((putV b cl x).2.2)) rfl rfl (le_of_eq (congrArg (fun z : Bool => pB z) (show false = ((putV b cl x).2.2) by first | (simp [putV, c1]; done) | (simp [putV, c1, hg]; done)))) ?_
                refine w_ret ?_
                exact fin_names (nx1 := 1) (H1 := [(0, .obj [pS 1 false enc8 ((putV b cl x).2.1), pB ((putV b cl x).2.2)])]) [(0, 0)] (ret_tmp rfl ret_nil) rfl (by decide) ⟨⟨_, _, rfl, rfl, rfl, rfl⟩, trivial⟩ (by decide) rfl ⟨rfl, rfl, rfl⟩
              ·
                have c4_ := c4
                try simp only [decide_eq_true_eq, decide_eq_false_iff_not, Bool.not_eq_true', Bool.not_eq_false', Bool.not_true, Bool.not_false, Bool.not_eq_eq_eq_not, Int.not_lt, Int.not_le] at c4
                refine w_skip ?_
                refine q_then ?_
                refine w_seq ?_
                refine W_drawn tabOk mixed hnt [[], [], [], [2], [2, 3], [2, 3, 4], [2, 3, 4, 5], [2, 3, 4, 5, 6], [2, 3, 4, 5, 6, 7], [], [9], [9, 10], [9, 10, 11], [], [13], [9, 10, 11, 12, 13, 14], [9, 10, 11, 12, 13, 14, 15], [1, 2, 3, 4, 5, 6, 7, 8, 9, 10, 11, 12, 13, 14, 15, 16], [1, 2, 3, 4, 5, 6, 7, 8, 9, 10, 11, 12, 13, 14, 15, 16, 17], [0, 1, 2, 3, 4, 5, 6, 7, 8, 9, 10, 11, 12, 13, 14, 15, 16, 17, 18], [0, 1, 2, 3, 4, 5, 6, 7, 8, 9, 10, 11, 12, 13, 14, 15, 16, 17, 18, 19]] (by kernel_rfl) ?_
                refine d_op ?_
                refine x_run0 [(5, PV.ref 1 0 none)] [] rfl rfl rfl rfl (s_move rfl ⟨rfl, rfl, rfl⟩) ?_
                refine d_op ?_
                refine x_run0 [(6, pI (getV q 0))] [] rfl rfl rfl rfl (s_move rfl ⟨rfl, rfl, rfl⟩) ?_
                refine d_op ?_
                refine x_run0 [(0, PV.ptr 0 0)] [] rfl rfl rfl rfl (s_move rfl ⟨rfl, rfl, rfl⟩) ?_
                refine d_op ?_
                refine x_run0 [(82, PV.ptr 0 0)] [2] rfl rfl rfl rfl (s_nilCheck rfl trivial ⟨rfl, rfl, rfl⟩) ?_
                refine d_op ?_
                refine x_run0 [(83, PV.ptr 0 0)] [2, 3] rfl rfl rfl rfl (s_fa_ptr tab_87 rfl rfl tab_27 (by decide) rfl ⟨rfl, rfl, rfl⟩) ?_
                refine d_op ?_
                refine x_run [(84, PV.ptr 0 0)] [2, 3, 4] [(0, .obj [pS 1 false enc8 q, pB false])] [] [(0, .obj [pS 1 false enc8 q, pB false])] [] [(0, .obj [pS 1 false enc8 q, pB false]), (1, oB true 3 eMsg os)] rfl rfl rfl rfl rfl rfl (s_load_ptr1 tab_27 rfl rfl rfl rfl rfl ⟨rfl, rfl, rfl⟩) rfl ⟨rfl, trivial⟩ rfl rfl ?_
                refine d_op ?_
                obtain ⟨e1, he1⟩ := get_of_lt q (i := 6) (by omega)
                refine x_run0 [(85, pS 1 false enc8 q)] [2, 3, 4, 5] rfl rfl rfl rfl (s_iaM (q := 6) (b := e1) (f := enc8) tab_27 rfl tab_5 rfl rfl (by omega) rfl he1 ⟨rfl, rfl, rfl⟩) ?_
                refine d_op ?_
                refine x_run0 [(86, PV.f (.ro (enc8 e1)))] [2, 3, 4, 5, 6] rfl rfl rfl rfl (s_load_ro1 tab_5 rfl rfl rfl rfl ⟨rfl, rfl, rfl⟩) ?_
                refine d_op ?_
                refine x_run0 [(87, p8 e1)] [2, 3, 4, 5, 6, 7] rfl rfl rfl rfl (s_cvN (a := UInt8.toNat e1) tab_5 tab_3 rfl rfl rfl (by omega) (by have := lt8 e1; omega) ⟨rfl, rfl, rfl⟩) ?_
                refine d_op ?_
                refine x_run0 [(0, PV.ptr 0 0)] [] rfl rfl rfl rfl (s_move rfl ⟨rfl, rfl, rfl⟩) ?_
                refine d_op ?_
                refine x_run0 [(89, PV.ptr 0 0)] [9] rfl rfl rfl rfl (s_nilCheck rfl trivial ⟨rfl, rfl, rfl⟩) ?_
                refine d_op ?_
                refine x_run0 [(90, PV.ptr 0 0)] [9, 10] rfl rfl rfl rfl (s_fa_ptr tab_87 rfl rfl tab_27 (by decide) rfl ⟨rfl, rfl, rfl⟩) ?_
                refine d_op ?_
                refine x_run [(91, PV.ptr 0 0)] [9, 10, 11] [(0, .obj [pS 1 false enc8 q, pB false])] [] [(0, .obj [pS 1 false enc8 q, pB false])] [] [(0, .obj [pS 1 false enc8 q, pB false]), (1, oB true 3 eMsg os)] rfl rfl rfl rfl rfl rfl (s_load_ptr1 tab_27 rfl rfl rfl rfl rfl ⟨rfl, rfl, rfl⟩) rfl ⟨rfl, trivial⟩ rfl rfl ?_
                refine d_op ?_
                refine x_run0 [(10, pI (getV q 4))] [] rfl rfl rfl rfl (s_move rfl ⟨rfl, rfl, rfl⟩) ?_
                refine d_op ?_
                refine x_run0 [(93, pI (getV q 4))] [13] rfl rfl rfl rfl (s_addi (r := 6 + (getV q 4)) rfl rfl rfl (by omega) ⟨rfl, rfl, rfl⟩) ?_
                refine d_op ?_
                refine x_run0 [(92, pS 1 false enc8 q), (94, pI (6 + (getV q 4)))] [9, 10, 11, 12, 13, 14] rfl rfl rfl rfl (s_cutM (a := 7) (b := Int.toNat (6 + (getV q 4))) (f := enc8) (l := q) tab_27 rfl tab_5 ⟨rfl, by decide⟩ rfl (bound_some rfl (by omega)) (bound_some rfl (by omega)) (by omega) ⟨rfl, rfl, rfl⟩) ?_
                refine d_op ?_
                refine x_run [(95, pS 1 false enc8 ((q.take (Int.toNat (6 + (getV q 4)))).drop 7))] [9, 10, 11, 12, 13, 14, 15] [] [] [(2, oB true 1 enc8 ((q.take (Int.toNat (6 + (getV q 4)))).drop 7))] [(2, oB true 1 enc8 ((q.take (Int.toNat (6 + (getV q 4)))).drop 7))] [(2, oB true 1 enc8 ((q.take (Int.toNat (6 + (getV q 4)))).drop 7)), (0, .obj [pS 1 false enc8 q, pB false]), (1, oB true 3 eMsg os)] rfl rfl rfl rfl rfl rfl (s_callX (r2 := PV.ref 2 0 none) (nx1 := 3) (H2 := []) (H3 := [(2, oB true 1 enc8 ((q.take (Int.toNat (6 + (getV q 4)))).drop 7))]) [] [] rfl rfl rfl (handed_of (by decide) trivial) rfl rfl rfl rfl rfl rfl (w_slices_Clone_byte_byte ((q.take (Int.toNat (6 + (getV q 4)))).drop 7) false (by first | omega | assumption | (simp; omega) | decide | (simp; done))) rfl (dist_of rfl) rfl rfl rfl rfl ⟨rfl, rfl, rfl⟩) rfl trivial rfl rfl ?_
                refine d_op ?_
                refine x_run0 [(81, pI (getV q 0)), (88, pN (UInt8.toNat e1)), (96, PV.ref 2 0 none)] [1, 2, 3, 4, 5, 6, 7, 8, 9, 10, 11, 12, 13, 14, 15, 16] rfl rfl rfl rfl (s_build tab_30 rfl rfl (b_cons rfl tab_3 rfl rfl rfl (Nat.le_of_ble_eq_true rfl) (b_cons rfl tab_3 rfl rfl rfl (Nat.le_of_ble_eq_true rfl) (b_cons rfl tab_27 rfl rfl rfl (Nat.le_of_ble_eq_true rfl) (b_nil ⟨rfl, rfl, rfl⟩))))) ?_
                refine d_op ?_
                refine x_run [(97, PV.agg [pI (getV q 0), pN (UInt8.toNat e1), PV.ref 2 0 none])] [1, 2, 3, 4, 5, 6, 7, 8, 9, 10, 11, 12, 13, 14, 15, 16, 17] [] [(2, oB true 1 enc8 ((q.take (Int.toNat (6 + (getV q 4)))).drop 7))] [(3, oB true 3 eMsg [(⟨getV q 0, ((UInt8.toNat e1 : Nat) : Int), ((q.take (Int.toNat (6 + (getV q 4)))).drop 7)⟩ : TMsg)]), (2, oB false 1 enc8 ((q.take (Int.toNat (6 + (getV q 4)))).drop 7))] [(3, oB true 3 eMsg [(⟨getV q 0, ((UInt8.toNat e1 : Nat) : Int), ((q.take (Int.toNat (6 + (getV q 4)))).drop 7)⟩ : TMsg)]), (2, oB false 1 enc8 ((q.take (Int.toNat (6 + (getV q 4)))).drop 7))] [(3, oB true 3 eMsg [(⟨getV q 0, ((UInt8.toNat e1 : Nat) : Int), ((q.take (Int.toNat (6 + (getV q 4)))).drop 7)⟩ : TMsg)]), (2, oB false 1 enc8 ((q.take (Int.toNat (6 + (getV q 4)))).drop 7)), (0, .obj [pS 1 false enc8 q, pB false]), (1, oB true 3 eMsg os)] rfl rfl rfl rfl rfl rfl (s_mkM (f := eMsg) [(⟨getV q 0, ((UInt8.toNat e1 : Nat) : Int), ((q.take (Int.toNat (6 + (getV q 4)))).drop 7)⟩ : TMsg)] tab_39 rfl tab_30 ⟨rfl, by decide⟩ (by decide) rfl rfl rfl rfl ⟨rfl, rfl, rfl⟩) rfl trivial rfl rfl ?_
                refine d_op ?_
                refine x_run [(80, PV.ref 1 0 none), (98, PV.ref 3 0 none)] [0, 1, 2, 3, 4, 5, 6, 7, 8, 9, 10, 11, 12, 13, 14, 15, 16, 17, 18] [(3, oB true 3 eMsg [(⟨getV q 0, ((UInt8.toNat e1 : Nat) : Int), ((q.take (Int.toNat (6 + (getV q 4)))).drop 7)⟩ : TMsg)])] [(1, oB true 3 eMsg os)] [(4, oB true 3 eMsg (os ++ [(⟨getV q 0, ((UInt8.toNat e1 : Nat) : Int), ((q.take (Int.toNat (6 + (getV q 4)))).drop 7)⟩ : TMsg)])), (3, oB true 3 eMsg [(⟨getV q 0, ((UInt8.toNat e1 : Nat) : Int), ((q.take (Int.toNat (6 + (getV q 4)))).drop 7)⟩ : TMsg)])] [(4, oB true 3 eMsg (os ++ [(⟨getV q 0, ((UInt8.toNat e1 : Nat) : Int), ((q.take (Int.toNat (6 + (getV q 4)))).drop 7)⟩ : TMsg)]))] [(4, oB true 3 eMsg (os ++ [(⟨getV q 0, ((UInt8.toNat e1 : Nat) : Int), ((q.take (Int.toNat (6 + (getV q 4)))).drop 7)⟩ : TMsg)])), (3, oB true 3 eMsg [(⟨getV q 0, ((UInt8.toNat e1 : Nat) : Int), ((q.take (Int.toNat (6 + (getV q 4)))).drop 7)⟩ : TMsg)]), (2, oB false 1 enc8 ((q.take (Int.toNat (6 + (getV q 4)))).drop 7)), (0, .obj [pS 1 false enc8 q, pB false])] rfl rfl rfl rfl rfl rfl (s_appR0 (f := eMsg) (l := os) (xs := [(⟨getV q 0, ((UInt8.toNat e1 : Nat) : Int), ((q.take (Int.toNat (6 + (getV q 4)))).drop 7)⟩ : TMsg)]) tab_39 rfl tab_30 ⟨rfl, by decide, by decide⟩ (srcM tab_39 rfl (hM_ref0 (f := eMsg) rfl rfl)) rfl rfl (by first | omega | (simp; omega)) ⟨rfl, rfl, rfl⟩) rfl ⟨rfl, trivial⟩ rfl rfl ?_
                refine d_op ?_
                refine x_run0 [(99, PV.ref 4 0 none)] [0, 1, 2, 3, 4, 5, 6, 7, 8, 9, 10, 11, 12, 13, 14, 15, 16, 17, 18, 19] rfl rfl rfl rfl (s_assign rfl ⟨rfl, rfl, rfl⟩) ?_
                refine d_end ⟨by kernel_rfl, ?_⟩
                refine q_then ?_
                refine w_R ?_
                refine r_op tabOk hnt rfl (s_move rfl ?_) 
                refine r_op tabOk hnt rfl (s_move rfl ?_) 
                refine r_op tabOk hnt rfl (s_nilCheck rfl trivial ?_) 
                refine r_op tabOk hnt rfl (s_fa_ptr tab_87 rfl rfl tab_27 (by decide) rfl ?_) 
                refine r_op tabOk hnt rfl (s_load_ptr1 tab_27 rfl rfl rfl rfl rfl ?_) 
                refine r_op tabOk hnt rfl (s_move rfl ?_) 
                refine r_op tabOk hnt rfl (s_addi (r := 6 + (getV q 4)) rfl rfl rfl (by omega) ?_) 
                refine r_op tabOk hnt rfl (s_cutM_lo (a := Int.toNat (6 + (getV q 4))) (f := enc8) (l := q) tab_27 rfl tab_5 ⟨rfl, by decide⟩ rfl (bound_some rfl (by omega)) (by omega) ?_) 
                refine r_op tabOk hnt rfl (s_callX (r2 := PV.ref 5 0 none) (nx1 := 6) (H2 := [(4, oB true 3 eMsg (os ++ [(⟨getV q 0, ((UInt8.toNat e1 : Nat) : Int), ((q.take (Int.toNat (6 + (getV q 4)))).drop 7)⟩ : TMsg)])), (3, oB true 3 eMsg [(⟨getV q 0, ((UInt8.toNat e1 : Nat) : Int), ((q.take (Int.toNat (6 + (getV q 4)))).drop 7)⟩ : TMsg)]), (2, oB false 1 enc8 ((q.take (Int.toNat (6 + (getV q 4)))).drop 7)), (0, .obj [pS 1 false enc8 q, pB false])]) (H3 := [(5, oB true 1 enc8 (q.drop (Int.toNat (6 + (getV q 4))))), (4, oB true 3 eMsg (os ++ [(⟨getV q 0, ((UInt8.toNat e1 : Nat) : Int), ((q.take (Int.toNat (6 + (getV q 4)))).drop 7)⟩ : TMsg)])), (3, oB true 3 eMsg [(⟨getV q 0, ((UInt8.toNat e1 : Nat) : Int), ((q.take (Int.toNat (6 + (getV q 4)))).drop 7)⟩ : TMsg)]), (2, oB false 1 enc8 ((q.take (Int.toNat (6 + (getV q 4)))).drop 7)), (0, .obj [pS 1 false enc8 q, pB false])]) [] [] rfl rfl rfl (handed_of (by decide) trivial) rfl rfl rfl rfl rfl rfl (w_slices_Clone_byte_byte (q.drop (Int.toNat (6 + (getV q 4)))) false (by first | omega | assumption | (simp; omega) | decide | (simp; done))) rfl (dist_of rfl) rfl rfl rfl rfl ?_) 
                refine r_op tabOk hnt rfl (s_nilCheck rfl trivial ?_) 
                refine r_op tabOk hnt rfl (s_fa_ptr tab_87 rfl rfl tab_27 (by decide) rfl ?_) 
                refine r_op tabOk hnt rfl (s_store_ptr tab_27 rfl rfl rfl rfl rfl (Nat.le_of_ble_eq_true rfl) ?_) 
                refine r_frzC (n := 0) (j := 0) rfl rfl rfl rfl ?_
                refine r_end ?_
                refine q_block ?_
                refine q_then ?_
                refine ⟨((q.drop (Int.toNat (6 + (getV q 4))))), (os ++ [(⟨getV q 0, ((UInt8.toNat e1 : Nat) : Int), ((q.take (Int.toNat (6 + (getV q 4)))).drop 7)⟩ : TMsg)]), ?_, ?_, ⟨[(0, 0), (1, 4)], by rw [hk]; decide, ⟨⟨_, rfl, rfl, rfl⟩, ⟨_, rfl, rfl, rfl⟩, trivial⟩, ⟨⟨_, _, rfl, rfl, rfl, rfl⟩, ⟨_, _, rfl, rfl, rfl, rfl⟩, trivial⟩, by rw [hk]; decide⟩⟩
                ·
                  refine ⟨?_, by rw [List.length_drop]; omega, by rw [List.length_drop, List.length_append, List.length_singleton]; omega⟩
                  have hnx := mb_next (by omega) hok (by omega) he1 hg
                  rw [Nat.zero_add] at hnx
                  first | exact hnx | (rw [Nat.zero_add]; exact hnx)
                · rw [List.length_drop]; omega
          ·
            have g2' := g2
            try simp only [decide_eq_true_eq, decide_eq_false_iff_not, Bool.not_eq_true', Bool.not_eq_false', Bool.not_true, Bool.not_false, Bool.not_eq_eq_eq_not, Int.not_lt, Int.not_le] at g2'
            refine r_if tabOk hnt rfl rfl rfl (fun e => absurd (e.symm.trans g2) (by decide)) (fun _ => ?_)
            refine r_op tabOk hnt rfl (s_pick_t rfl g2 rfl ?_) 
            refine r_end ?_
            refine q_then ?_
            refine w_if rfl (fun _ => ?_) (fun e => absurd e (by decide))
            refine w_seq ?_
            have hz := mb_bad (b := q) (by omega) (by unfold headBad; apply decide_eq_true; omega)
            rw [hz] at hg
            refine w_R ?_
            refine r_op tabOk hnt rfl (s_move rfl ?_) 
            refine r_op tabOk hnt rfl (s_move rfl ?_) 
            refine r_op tabOk hnt rfl (s_nilCheck rfl trivial ?_) 
            refine r_op tabOk hnt rfl (s_fa_ptr tab_87 rfl rfl tab_27 (by decide) rfl ?_) 
            refine r_op tabOk hnt rfl (s_store_ptr tab_27 rfl rfl rfl rfl rfl (Nat.le_of_ble_eq_true rfl) ?_) 
            refine r_op tabOk hnt rfl (s_nilCheck rfl trivial ?_) 
            refine r_op tabOk hnt rfl (s_fa_ptr tab_87 rfl rfl tab_4 (by decide) rfl ?_) 
            refine r_op tabOk hnt rfl (s_store_ptr tab_4 rfl rfl rfl rfl rfl (Nat.le_of_ble_eq_true rfl) ?_) 
            refine r_set [(5, PV.ref 1 0 none)] [(0, .obj [pNil, pB true]), (1, oB true 3 eMsg os)] 2 ⟨rfl, trivial⟩ rfl rfl ?_
            refine r_end ?_
            refine q_then ?_
            refine w_exit ?_
            refine q_then_exit ?_
            refine q_block_pass (by decide) ?_
            refine q_then_exit ?_
            refine q_block_exit ?_
            refine q_then ?_
            refine w_seq ?_
            refine w_R ?_
            refine r_op tabOk hnt rfl (s_move rfl ?_) 
            refine r_op tabOk hnt rfl (s_callX (r2 := pS 3 true eMsg os) (nx1 := 2) (H2 := [(1, oB false 3 eMsg os), (0, .obj [pNil, pB true])]) (H3 := [(1, oB false 3 eMsg os), (0, .obj [pNil, pB true])]) [] [] rfl rfl rfl (handed_of (by decide) trivial) rfl rfl rfl rfl rfl rfl (w_slices_Clip_mbap_Msg_mbap_Msg os false) rfl (dist_of rfl) rfl rfl rfl rfl ?_) 
            refine r_op tabOk hnt rfl (s_assign rfl ?_) 
            refine r_set [(4, pS 3 true eMsg os)] [(1, oB false 3 eMsg os), (0, .obj [pNil, pB true])] 2 ⟨rfl, trivial⟩ rfl rfl ?_
            refine r_end ?_
            refine q_then ?_
            refine w_le (s := 4) (y := pS 3 true eMsg ((putV b cl x).1)) rfl (le_of_eq (congrArg (fun z => pS 3 true eMsg z) (show os = ((putV b cl x).1) by first | (simp [putV, c1]; done) | (simp [putV, c1, hg]; done)))) ?_
            refine w_leC (n := 0) (j := 0) (y := pS 1 false enc8 []) rfl rfl (le_nilS 1 false) ?_
            refine w_leC (n := 0) (j := 0) (y := pS 1 false enc8 ((putV b cl x).2.1)) rfl rfl (le_of_eq (congrArg (fun z => pS 1 false enc8 z) (show [] = ((putV b cl x).2.1) by first | (simp [putV, c1]; done) | (simp [putV, c1, hg]; done)))) ?_
            refine w_leC (n := 0) (j := 1) (y := pB ((putV b cl x).2.2)) rfl rfl (le_of_eq (congrArg (fun z : Bool => pB z) (show true = ((putV b cl x).2.2) by first | (simp [putV, c1]; done) | (simp [putV, c1, hg]; done)))) ?_
            refine w_ret ?_
            exact fin_names (nx1 := 1) (H1 := [(0, .obj [pS 1 false enc8 ((putV b cl x).2.1), pB ((putV b cl x).2.2)])]) [(0, 0)] (ret_tmp rfl ret_nil) rfl (by decide) ⟨⟨_, _, rfl, rfl, rfl, rfl⟩, trivial⟩ (by decide) rfl ⟨rfl, rfl, rfl⟩
        ·
          have g1' := g1
          try simp only [decide_eq_true_eq, decide_eq_false_iff_not, Bool.not_eq_true', Bool.not_eq_false', Bool.not_true, Bool.not_false, Bool.not_eq_eq_eq_not, Int.not_lt, Int.not_le] at g1'
          refine r_if tabOk hnt rfl rfl rfl (fun e => absurd (e.symm.trans g1) (by decide)) (fun _ => ?_)
          refine r_op tabOk hnt rfl (s_pick_t rfl g1 rfl ?_) 
          refine r_op tabOk hnt rfl (s_move rfl ?_) 
          refine r_if tabOk hnt rfl rfl rfl (fun e => absurd e (by decide)) (fun _ => ?_)
          refine r_if tabOk hnt rfl rfl rfl (fun e => absurd e (by decide)) (fun _ => ?_)
          refine r_op tabOk hnt rfl (s_pick_t rfl rfl rfl ?_) 
          refine r_end ?_
          refine q_then ?_
          refine w_if rfl (fun _ => ?_) (fun e => absurd e (by decide))
          refine w_seq ?_
          have hz := mb_bad (b := q) (by omega) (by unfold headBad; apply decide_eq_true; omega)
          rw [hz] at hg
          refine w_R ?_
          refine r_op tabOk hnt rfl (s_move rfl ?_) 
          refine r_op tabOk hnt rfl (s_move rfl ?_) 
          refine r_op tabOk hnt rfl (s_nilCheck rfl trivial ?_) 
          refine r_op tabOk hnt rfl (s_fa_ptr tab_87 rfl rfl tab_27 (by decide) rfl ?_) 
          refine r_op tabOk hnt rfl (s_store_ptr tab_27 rfl rfl rfl rfl rfl (Nat.le_of_ble_eq_true rfl) ?_) 
          refine r_op tabOk hnt rfl (s_nilCheck rfl trivial ?_) 
          refine r_op tabOk hnt rfl (s_fa_ptr tab_87 rfl rfl tab_4 (by decide) rfl ?_) 
          refine r_op tabOk hnt rfl (s_store_ptr tab_4 rfl rfl rfl rfl rfl (Nat.le_of_ble_eq_true rfl) ?_) 
          refine r_set [(5, PV.ref 1 0 none)] [(0, .obj [pNil, pB true]), (1, oB true 3 eMsg os)] 2 ⟨rfl, trivial⟩ rfl rfl ?_
          refine r_end ?_
          refine q_then ?_
          refine w_exit ?_
          refine q_then_exit ?_
          refine q_block_pass (by decide) ?_
          refine q_then_exit ?_
          refine q_block_exit ?_
          refine q_then ?_
          refine w_seq ?_
          refine w_R ?_
          refine r_op tabOk hnt rfl (s_move rfl ?_) 
          refine r_op tabOk hnt rfl (s_callX (r2 := pS 3 true eMsg os) (nx1 := 2) (H2 := [(1, oB false 3 eMsg os), (0, .obj [pNil, pB true])]) (H3 := [(1, oB false 3 eMsg os), (0, .obj [pNil, pB true])]) [] [] rfl rfl rfl (handed_of (by decide) trivial) rfl rfl rfl rfl rfl rfl (w_slices_Clip_mbap_Msg_mbap_Msg os false) rfl (dist_of rfl) rfl rfl rfl rfl ?_) 
          refine r_op tabOk hnt rfl (s_assign rfl ?_) 
          refine r_set [(4, pS 3 true eMsg os)] [(1, oB false 3 eMsg os), (0, .obj [pNil, pB true])] 2 ⟨rfl, trivial⟩ rfl rfl ?_
          refine r_end ?_
          refine q_then ?_
          refine w_le (s := 4) (y := pS 3 true eMsg ((putV b cl x).1)) rfl (le_of_eq (congrArg (fun z => pS 3 true eMsg z) (show os = ((putV b cl x).1) by first | (simp [putV, c1]; done) | (simp [putV, c1, hg]; done)))) ?_
          refine w_leC (n := 0) (j := 0) (y := pS 1 false enc8 []) rfl rfl (le_nilS 1 false) ?_
          refine w_leC (n := 0) (j := 0) (y := pS 1 false enc8 ((putV b cl x).2.1)) rfl rfl (le_of_eq (congrArg (fun z => pS 1 false enc8 z) (show [] = ((putV b cl x).2.1) by first | (simp [putV, c1]; done) | (simp [putV, c1, hg]; done)))) ?_
          refine w_leC (n := 0) (j := 1) (y := pB ((putV b cl x).2.2)) rfl rfl (le_of_eq (congrArg (fun z : Bool => pB z) (show true = ((putV b cl x).2.2) by first | (simp [putV, c1]; done) | (simp [putV, c1, hg]; done)))) ?_
          refine w_ret ?_
          exact fin_names (nx1 := 1) (H1 := [(0, .obj [pS 1 false enc8 ((putV b cl x).2.1), pB ((putV b cl x).2.2)])]) [(0, 0)] (ret_tmp rfl ret_nil) rfl (by decide) ⟨⟨_, _, rfl, rfl, rfl, rfl⟩, trivial⟩ (by decide) rfl ⟨rfl, rfl, rfl⟩
      ·
        have c2_ := c2
        try simp only [decide_eq_true_eq, decide_eq_false_iff_not, Bool.not_eq_true', Bool.not_eq_false', Bool.not_true, Bool.not_false, Bool.not_eq_eq_eq_not, Int.not_lt, Int.not_le] at c2
        have hz := mb_short (b := q) (by omega)
        rw [hz] at hg
        refine w_exit ?_
        refine q_then_exit ?_
        refine q_then_exit ?_
        refine q_block_exit ?_
        refine q_then ?_
        refine w_seq ?_
        refine w_R ?_
        refine r_op tabOk hnt rfl (s_move rfl ?_) 
        refine r_op tabOk hnt rfl (s_callX (r2 := pS 3 true eMsg os) (nx1 := 2) (H2 := [(1, oB false 3 eMsg os), (0, .obj [pS 1 false enc8 q, pB false])]) (H3 := [(1, oB false 3 eMsg os), (0, .obj [pS 1 false enc8 q, pB false])]) [] [] rfl rfl rfl (handed_of (by decide) trivial) rfl rfl rfl rfl rfl rfl (w_slices_Clip_mbap_Msg_mbap_Msg os false) rfl (dist_of rfl) rfl rfl rfl rfl ?_) 
        refine r_op tabOk hnt rfl (s_assign rfl ?_) 
        refine r_set [(4, pS 3 true eMsg os)] [(1, oB false 3 eMsg os), (0, .obj [pS 1 false enc8 q, pB false])] 2 ⟨rfl, trivial⟩ rfl rfl ?_
        refine r_end ?_
        refine q_then ?_
        refine w_le (s := 4) (y := pS 3 true eMsg ((putV b cl x).1)) rfl (le_of_eq (congrArg (fun z => pS 3 true eMsg z) (show os = ((putV b cl x).1) by first | (simp [putV, c1]; done) | (simp [putV, c1, hg]; done)))) ?_
        refine w_leC (n := 0) (j := 0) (y := pS 1 false enc8 ((putV b cl x).2.1)) rfl rfl (le_of_eq (congrArg (fun z => pS 1 false enc8 z) (show q = ((putV b cl x).2.1) by first | (simp [putV, c1]; done) | (simp [putV, c1, hg]; done)))) ?_
        refine w_leC (n := 0) (j := 1) (y := pB ((putV b cl x).2.2)) rfl rfl (le_of_eq (congrArg (fun z : Bool => pB z) (show false = ((putV b cl x).2.2) by first | (simp [putV, c1]; done) | (simp [putV, c1, hg]; done)))) ?_
        refine w_ret ?_
        exact fin_names (nx1 := 1) (H1 := [(0, .obj [pS 1 false enc8 ((putV b cl x).2.1), pB ((putV b cl x).2.2)])]) [(0, 0)] (ret_tmp rfl ret_nil) rfl (by decide) ⟨⟨_, _, rfl, rfl, rfl, rfl⟩, trivial⟩ (by decide) rfl ⟨rfl, rfl, rfl⟩

theorem w_mbap_Stream_Put (b : List UInt8) (cl_b : Bool) (cl : Bool) (x : List UInt8) (cl_x : Bool) (hb : b.length + x.length ≤ 28147497671000) :
    T Try.prog 23 [PV.ptr 0 0, pS 1 cl_x enc8 x] 1 [(0, .obj [pS 1 cl_b enc8 b, pB cl])] (Ret (pS 3 true eMsg ((putV b cl x).1)) 1 [(0, .obj [pS 1 false enc8 ((putV b cl x).2.1), pB ((putV b cl x).2.2)])]) := by
  by_cases hz : x = []
  · exact w_mbap_Stream_Put_e b cl_b cl x cl_x hb hz
  · exact w_mbap_Stream_Put_n b cl_b cl x cl_x hb hz


end Go.Proofs.Ytfbmlnajnlekbaa
