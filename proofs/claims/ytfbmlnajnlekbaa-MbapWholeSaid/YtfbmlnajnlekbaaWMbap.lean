/- Walks: printed by a program of this session (wip/tools/walk2.py) out of its notes. -/
import Derived.Test.YtfbmlnajnlekbaaWOctet
import Derived.Test.YtfbmlnajnlekbaaSpecB
set_option linter.unusedVariables false
set_option linter.unusedSimpArgs false
set_option maxRecDepth 10000
set_option maxHeartbeats 1000000
namespace Go.Proofs.Ytfbmlnajnlekbaa
open Go Go.Proofs.Ytfbmlnajnlekbaa.Pv

theorem w_mbap_Bytes (m : TMsg) (hm : m.pdu.length ≤ 140737488351232) :
    T Try.prog 18 [PV.f (eMsg m)] 0 [] (Ret (pS 1 true enc8 (bytesM m)) 0 []) := by
  refine t_fun tabOk (n := 31) (rs := [.tmp 2]) Try.func18 rfl rfl rfl rfl (Nat.le_of_ble_eq_true rfl) ?_
  intro c hnt hk
  refine w_seq ?_
  refine w_R ?_
  refine r_op tabOk hnt rfl (s_box rfl rfl ?_) 
  refine r_op tabOk hnt rfl (s_assign rfl ?_) 
  refine r_set [(1, PV.ptr 0 0)] [(0, .obj [pI m.id, pI m.unit, pS 1 false enc8 m.pdu])] 1 ⟨rfl, trivial⟩ rfl rfl ?_
  refine r_end ?_
  refine q_then ?_
  refine w_seq ?_
  refine w_R ?_
  refine r_op tabOk hnt rfl (s_fa_ptr tab_30 rfl rfl tab_27 (by decide) rfl ?_) 
  refine r_op tabOk hnt rfl (s_load_ptr1 tab_27 rfl rfl rfl rfl rfl ?_) 
  refine r_op tabOk hnt rfl (s_lenM (l := m.pdu) tab_27 rfl (hM_sl (f := enc8) rfl) ?_) 
  refine r_op tabOk hnt rfl (s_addN (a := m.pdu.length) (b := 1) rfl rfl (by omega) (by omega) (by omega) ?_) 
  refine r_op tabOk hnt rfl (s_assign rfl ?_) 
  refine r_end ?_
  refine q_then ?_
  refine w_seq ?_
  refine w_seq ?_
  refine w_R ?_
  refine r_op tabOk hnt rfl (s_move rfl ?_) 
  refine r_op tabOk hnt rfl (s_lss rfl rfl ?_) 
  refine r_op tabOk hnt rfl (s_move rfl ?_) 
  refine r_if tabOk hnt rfl rfl rfl (fun g1 => ?_) (fun g1 => ?_)
  ·
    have g1' := g1
    try simp only [decide_eq_true_eq, decide_eq_false_iff_not, Bool.not_eq_true', Bool.not_eq_false', Bool.not_true, Bool.not_false, Bool.not_eq_eq_eq_not, Int.not_lt, Int.not_le] at g1'
    refine r_op tabOk hnt rfl (s_move rfl ?_) 
    refine r_if tabOk hnt rfl rfl rfl (fun _ => ?_) (fun e => absurd (e.symm.trans g1) (by decide))
    refine r_op tabOk hnt rfl (s_gtr rfl rfl ?_) 
    refine r_op tabOk hnt rfl (s_pick_f rfl g1 rfl ?_) 
    refine r_end ?_
    refine q_then ?_
    refine w_if rfl (fun c1 => ?_) (fun c1 => ?_)
    ·
      have c1_ := c1
      try simp only [decide_eq_true_eq, decide_eq_false_iff_not, Bool.not_eq_true', Bool.not_eq_false', Bool.not_true, Bool.not_false, Bool.not_eq_eq_eq_not, Int.not_lt, Int.not_le] at c1
      refine w_seq ?_
      have hbm : bytesM m = [] := bytesM_none (by omega)
      refine w_R ?_
      refine r_op tabOk hnt rfl (s_assign rfl ?_) 
      refine r_end ?_
      refine q_then ?_
      refine w_le (s := 2) (y := pS 1 true enc8 []) rfl (le_nilS 1 true) ?_
      refine w_le (s := 2) (y := pS 1 true enc8 (bytesM m)) rfl (le_of_eq (congrArg (fun z => pS 1 true enc8 z) (show [] = (bytesM m) by first | (rw [hbm]; done) | (rw [hbm]; rfl) | simp [hbm]))) ?_
      refine w_ret ?_
      refine q_then_ret ?_
      exact fin_plain (ret_tmp rfl ret_nil) rfl rfl ⟨rfl, rfl, rfl⟩
    ·
      have c1_ := c1
      try simp only [decide_eq_true_eq, decide_eq_false_iff_not, Bool.not_eq_true', Bool.not_eq_false', Bool.not_true, Bool.not_false, Bool.not_eq_eq_eq_not, Int.not_lt, Int.not_le] at c1
      have hbm := bytesM_some (m := m) (by omega)
      refine w_skip ?_
      refine q_then ?_
      refine w_seq ?_
      refine w_R ?_
      refine r_op tabOk hnt rfl (s_fa_ptr tab_30 rfl rfl tab_3 (by decide) rfl ?_) 
      refine r_op tabOk hnt rfl (s_load_ptr1 tab_3 rfl rfl rfl rfl rfl ?_) 
      refine r_op tabOk hnt rfl (s_callX (r2 := PV.ref 1 0 none) (nx1 := 2) (H2 := [(0, .obj [pI m.id, pI m.unit, pS 1 false enc8 m.pdu])]) (H3 := [(1, oB true 1 enc8 ([] ++ put2 m.id)), (0, .obj [pI m.id, pI m.unit, pS 1 false enc8 m.pdu])]) [] [] rfl rfl rfl (handed_of (by decide) trivial) rfl rfl rfl rfl rfl rfl (T.leL (args := [pNil, pI m.id]) (args' := [pS 1 false enc8 [], pI m.id]) ⟨le_F (FLe.nil 1 false), ⟨le_refl _, trivial⟩⟩ (w_octet_Put [] false m.id (by first | omega | assumption | (simp; omega) | decide | (simp; done)))) rfl (dist_of rfl) rfl rfl rfl rfl ?_) 
      refine r_op tabOk hnt rfl (s_callX (r2 := PV.ref 2 0 none) (nx1 := 3) (H2 := [(1, oB false 1 enc8 ([] ++ put2 m.id)), (0, .obj [pI m.id, pI m.unit, pS 1 false enc8 m.pdu])]) (H3 := [(2, oB true 1 enc8 (([] ++ put2 m.id) ++ put2 0)), (1, oB false 1 enc8 ([] ++ put2 m.id)), (0, .obj [pI m.id, pI m.unit, pS 1 false enc8 m.pdu])]) [] [] rfl rfl rfl (handed_of (by decide) trivial) rfl rfl rfl rfl rfl rfl (w_octet_Put ([] ++ put2 m.id) false 0 (by first | omega | assumption | (simp; omega) | decide | (simp; done))) rfl (dist_of rfl) rfl rfl rfl rfl ?_) 
      refine r_op tabOk hnt rfl (s_move rfl ?_) 
      refine r_op tabOk hnt rfl (s_callX (r2 := PV.ref 3 0 none) (nx1 := 4) (H2 := [(2, oB false 1 enc8 (([] ++ put2 m.id) ++ put2 0)), (1, oB false 1 enc8 ([] ++ put2 m.id)), (0, .obj [pI m.id, pI m.unit, pS 1 false enc8 m.pdu])]) (H3 := [(3, oB true 1 enc8 ((([] ++ put2 m.id) ++ put2 0) ++ put2 ((m.pdu.length + 1 : Nat) : Int))), (2, oB false 1 enc8 (([] ++ put2 m.id) ++ put2 0)), (1, oB false 1 enc8 ([] ++ put2 m.id)), (0, .obj [pI m.id, pI m.unit, pS 1 false enc8 m.pdu])]) [] [] rfl rfl rfl (handed_of (by decide) trivial) rfl rfl rfl rfl rfl rfl (w_octet_Put (([] ++ put2 m.id) ++ put2 0) false ((m.pdu.length + 1 : Nat) : Int) (by first | omega | assumption | (simp; omega) | decide | (simp; done))) rfl (dist_of rfl) rfl rfl rfl rfl ?_) 
      refine r_op tabOk hnt rfl (s_assign rfl ?_) 
      refine r_set [(1, PV.ptr 0 0), (4, PV.ref 3 0 none)] [(3, oB true 1 enc8 ((([] ++ put2 m.id) ++ put2 0) ++ put2 ((m.pdu.length + 1 : Nat) : Int))), (2, oB false 1 enc8 (([] ++ put2 m.id) ++ put2 0)), (1, oB false 1 enc8 ([] ++ put2 m.id)), (0, .obj [pI m.id, pI m.unit, pS 1 false enc8 m.pdu])] 4 ⟨rfl, rfl, trivial⟩ rfl rfl ?_
      refine r_end ?_
      refine q_then ?_
      refine w_seq ?_
      refine W_drawn tabOk mixed hnt [[], [], [1], [1, 2], [1, 2, 3], [0, 1, 2, 3, 4], [], [6], [0, 1, 2, 3, 4, 5, 6, 7], [0, 1, 2, 3, 4, 5, 6, 7, 8], [0, 1, 2, 3, 4, 5, 6, 7, 8, 9]] (by kernel_rfl) ?_
      refine d_op ?_
      refine x_run0 [(4, PV.ref 3 0 none)] [] rfl rfl rfl rfl (s_move rfl ⟨rfl, rfl, rfl⟩) ?_
      refine d_op ?_
      refine x_run0 [(1, PV.ptr 0 0)] [] rfl rfl rfl rfl (s_fa_ptr tab_30 rfl rfl tab_3 (by decide) rfl ⟨rfl, rfl, rfl⟩) ?_
      refine d_op ?_
      refine x_run [(22, PV.ptr 0 1)] [1] [(0, .obj [pI m.id, pI m.unit, pS 1 false enc8 m.pdu])] [] [(0, .obj [pI m.id, pI m.unit, pS 1 false enc8 m.pdu])] [] [(3, oB true 1 enc8 ((([] ++ put2 m.id) ++ put2 0) ++ put2 ((m.pdu.length + 1 : Nat) : Int))), (2, oB false 1 enc8 (([] ++ put2 m.id) ++ put2 0)), (1, oB false 1 enc8 ([] ++ put2 m.id)), (0, .obj [pI m.id, pI m.unit, pS 1 false enc8 m.pdu])] rfl rfl rfl rfl rfl rfl (s_load_ptr1 tab_3 rfl rfl rfl rfl rfl ⟨rfl, rfl, rfl⟩) rfl ⟨rfl, trivial⟩ rfl rfl ?_
      refine d_op ?_
      refine x_run0 [(23, pI m.unit)] [1, 2] rfl rfl rfl rfl (s_cv8 tab_3 tab_5 rfl rfl rfl ⟨rfl, rfl, rfl⟩) ?_
      refine d_op ?_
      refine x_run [(24, p8 (u8I m.unit))] [1, 2, 3] [] [] [(4, oB true 1 enc8 [u8I m.unit])] [(4, oB true 1 enc8 [u8I m.unit])] [(4, oB true 1 enc8 [u8I m.unit]), (3, oB true 1 enc8 ((([] ++ put2 m.id) ++ put2 0) ++ put2 ((m.pdu.length + 1 : Nat) : Int))), (2, oB false 1 enc8 (([] ++ put2 m.id) ++ put2 0)), (1, oB false 1 enc8 ([] ++ put2 m.id)), (0, .obj [pI m.id, pI m.unit, pS 1 false enc8 m.pdu])] rfl rfl rfl rfl rfl rfl (s_mkM (f := enc8) [u8I m.unit] tab_27 rfl tab_5 ⟨rfl, by decide⟩ (by decide) rfl rfl rfl rfl ⟨rfl, rfl, rfl⟩) rfl trivial rfl rfl ?_
      refine d_op ?_
      refine x_run [(21, PV.ref 3 0 none), (25, PV.ref 4 0 none)] [0, 1, 2, 3, 4] [(4, oB true 1 enc8 [u8I m.unit])] [(3, oB true 1 enc8 ((([] ++ put2 m.id) ++ put2 0) ++ put2 ((m.pdu.length + 1 : Nat) : Int)))] [(5, oB true 1 enc8 (((([] ++ put2 m.id) ++ put2 0) ++ put2 ((m.pdu.length + 1 : Nat) : Int)) ++ [u8I m.unit])), (4, oB true 1 enc8 [u8I m.unit])] [(5, oB true 1 enc8 (((([] ++ put2 m.id) ++ put2 0) ++ put2 ((m.pdu.length + 1 : Nat) : Int)) ++ [u8I m.unit]))] [(5, oB true 1 enc8 (((([] ++ put2 m.id) ++ put2 0) ++ put2 ((m.pdu.length + 1 : Nat) : Int)) ++ [u8I m.unit])), (4, oB true 1 enc8 [u8I m.unit]), (2, oB false 1 enc8 (([] ++ put2 m.id) ++ put2 0)), (1, oB false 1 enc8 ([] ++ put2 m.id)), (0, .obj [pI m.id, pI m.unit, pS 1 false enc8 m.pdu])] rfl rfl rfl rfl rfl rfl (s_appR0 (f := enc8) (l := (([] ++ put2 m.id) ++ put2 0) ++ put2 ((m.pdu.length + 1 : Nat) : Int)) (xs := [u8I m.unit]) tab_27 rfl tab_5 ⟨rfl, by decide, by decide⟩ (srcM tab_27 rfl (hM_ref0 (f := enc8) rfl rfl)) rfl rfl (by first | omega | (simp; done) | (simp; omega)) ⟨rfl, rfl, rfl⟩) rfl ⟨rfl, trivial⟩ rfl rfl ?_
      refine d_op ?_
      refine x_run0 [(1, PV.ptr 0 0)] [] rfl rfl rfl rfl (s_fa_ptr tab_30 rfl rfl tab_27 (by decide) rfl ⟨rfl, rfl, rfl⟩) ?_
      refine d_op ?_
      refine x_run [(27, PV.ptr 0 2)] [6] [(0, .obj [pI m.id, pI m.unit, pS 1 false enc8 m.pdu])] [] [(0, .obj [pI m.id, pI m.unit, pS 1 false enc8 m.pdu])] [] [(5, oB true 1 enc8 (((([] ++ put2 m.id) ++ put2 0) ++ put2 ((m.pdu.length + 1 : Nat) : Int)) ++ [u8I m.unit])), (4, oB true 1 enc8 [u8I m.unit]), (2, oB false 1 enc8 (([] ++ put2 m.id) ++ put2 0)), (1, oB false 1 enc8 ([] ++ put2 m.id)), (0, .obj [pI m.id, pI m.unit, pS 1 false enc8 m.pdu])] rfl rfl rfl rfl rfl rfl (s_load_ptr1 tab_27 rfl rfl rfl rfl rfl ⟨rfl, rfl, rfl⟩) rfl ⟨rfl, trivial⟩ rfl rfl ?_
      refine d_op ?_
      refine x_run [(26, PV.ref 5 0 none), (28, pS 1 false enc8 m.pdu)] [0, 1, 2, 3, 4, 5, 6, 7] [] [(5, oB true 1 enc8 (((([] ++ put2 m.id) ++ put2 0) ++ put2 ((m.pdu.length + 1 : Nat) : Int)) ++ [u8I m.unit]))] [(6, oB true 1 enc8 ((((([] ++ put2 m.id) ++ put2 0) ++ put2 ((m.pdu.length + 1 : Nat) : Int)) ++ [u8I m.unit]) ++ m.pdu))] [(6, oB true 1 enc8 ((((([] ++ put2 m.id) ++ put2 0) ++ put2 ((m.pdu.length + 1 : Nat) : Int)) ++ [u8I m.unit]) ++ m.pdu))] [(6, oB true 1 enc8 ((((([] ++ put2 m.id) ++ put2 0) ++ put2 ((m.pdu.length + 1 : Nat) : Int)) ++ [u8I m.unit]) ++ m.pdu)), (4, oB true 1 enc8 [u8I m.unit]), (2, oB false 1 enc8 (([] ++ put2 m.id) ++ put2 0)), (1, oB false 1 enc8 ([] ++ put2 m.id)), (0, .obj [pI m.id, pI m.unit, pS 1 false enc8 m.pdu])] rfl rfl rfl rfl rfl rfl (s_appR0 (f := enc8) (l := ((([] ++ put2 m.id) ++ put2 0) ++ put2 ((m.pdu.length + 1 : Nat) : Int)) ++ [u8I m.unit]) (xs := m.pdu) tab_27 rfl tab_5 ⟨rfl, by decide, by decide⟩ (srcM tab_27 rfl (hM_sl (f := enc8) rfl)) rfl rfl (by first | omega | (simp; done) | (simp; omega)) ⟨rfl, rfl, rfl⟩) rfl trivial rfl rfl ?_
      refine d_op ?_
      refine x_run [(29, PV.ref 6 0 none)] [0, 1, 2, 3, 4, 5, 6, 7, 8] [] [(6, oB true 1 enc8 ((((([] ++ put2 m.id) ++ put2 0) ++ put2 ((m.pdu.length + 1 : Nat) : Int)) ++ [u8I m.unit]) ++ m.pdu))] [(6, oB false 1 enc8 ((((([] ++ put2 m.id) ++ put2 0) ++ put2 ((m.pdu.length + 1 : Nat) : Int)) ++ [u8I m.unit]) ++ m.pdu))] [(6, oB false 1 enc8 ((((([] ++ put2 m.id) ++ put2 0) ++ put2 ((m.pdu.length + 1 : Nat) : Int)) ++ [u8I m.unit]) ++ m.pdu))] [(6, oB false 1 enc8 ((((([] ++ put2 m.id) ++ put2 0) ++ put2 ((m.pdu.length + 1 : Nat) : Int)) ++ [u8I m.unit]) ++ m.pdu)), (4, oB true 1 enc8 [u8I m.unit]), (2, oB false 1 enc8 (([] ++ put2 m.id) ++ put2 0)), (1, oB false 1 enc8 ([] ++ put2 m.id)), (0, .obj [pI m.id, pI m.unit, pS 1 false enc8 m.pdu])] rfl rfl rfl rfl rfl rfl (s_callX (r2 := pS 1 true enc8 ((((([] ++ put2 m.id) ++ put2 0) ++ put2 ((m.pdu.length + 1 : Nat) : Int)) ++ [u8I m.unit]) ++ m.pdu)) (nx1 := 7) (H2 := [(6, oB false 1 enc8 ((((([] ++ put2 m.id) ++ put2 0) ++ put2 ((m.pdu.length + 1 : Nat) : Int)) ++ [u8I m.unit]) ++ m.pdu))]) (H3 := [(6, oB false 1 enc8 ((((([] ++ put2 m.id) ++ put2 0) ++ put2 ((m.pdu.length + 1 : Nat) : Int)) ++ [u8I m.unit]) ++ m.pdu))]) [] [] rfl rfl rfl (handed_of (by decide) trivial) rfl rfl rfl rfl rfl rfl (w_slices_Clip_byte_byte ((((([] ++ put2 m.id) ++ put2 0) ++ put2 ((m.pdu.length + 1 : Nat) : Int)) ++ [u8I m.unit]) ++ m.pdu) false) rfl (dist_of rfl) rfl rfl rfl rfl ⟨rfl, rfl, rfl⟩) rfl trivial rfl rfl ?_
      refine d_op ?_
      refine x_run0 [(30, pS 1 true enc8 ((((([] ++ put2 m.id) ++ put2 0) ++ put2 ((m.pdu.length + 1 : Nat) : Int)) ++ [u8I m.unit]) ++ m.pdu))] [0, 1, 2, 3, 4, 5, 6, 7, 8, 9] rfl rfl rfl rfl (s_assign rfl ⟨rfl, rfl, rfl⟩) ?_
      refine d_end ⟨by kernel_rfl, ?_⟩
      refine q_then ?_
      refine w_le (s := 2) (y := pS 1 true enc8 (bytesM m)) rfl (le_of_eq (congrArg (fun z => pS 1 true enc8 z) (show ((((([] ++ put2 m.id) ++ put2 0) ++ put2 ((m.pdu.length + 1 : Nat) : Int)) ++ [u8I m.unit]) ++ m.pdu) = (bytesM m) by first | (rw [hbm]; done) | (rw [hbm]; rfl) | simp [hbm]))) ?_
      refine w_ret ?_
      exact fin_plain (ret_tmp rfl ret_nil) rfl rfl ⟨rfl, rfl, rfl⟩
  ·
    have g1' := g1
    try simp only [decide_eq_true_eq, decide_eq_false_iff_not, Bool.not_eq_true', Bool.not_eq_false', Bool.not_true, Bool.not_false, Bool.not_eq_eq_eq_not, Int.not_lt, Int.not_le] at g1'
    refine r_if tabOk hnt rfl rfl rfl (fun e => absurd (e.symm.trans g1) (by decide)) (fun _ => ?_)
    refine r_op tabOk hnt rfl (s_pick_t rfl g1 rfl ?_) 
    refine r_end ?_
    refine q_then ?_
    refine w_if rfl (fun _ => ?_) (fun e => absurd e (by decide))
    refine w_seq ?_
    have hbm : bytesM m = [] := bytesM_none (by omega)
    refine w_R ?_
    refine r_op tabOk hnt rfl (s_assign rfl ?_) 
    refine r_end ?_
    refine q_then ?_
    refine w_le (s := 2) (y := pS 1 true enc8 []) rfl (le_nilS 1 true) ?_
    refine w_le (s := 2) (y := pS 1 true enc8 (bytesM m)) rfl (le_of_eq (congrArg (fun z => pS 1 true enc8 z) (show [] = (bytesM m) by first | (rw [hbm]; done) | (rw [hbm]; rfl) | simp [hbm]))) ?_
    refine w_ret ?_
    refine q_then_ret ?_
    exact fin_plain (ret_tmp rfl ret_nil) rfl rfl ⟨rfl, rfl, rfl⟩

theorem w_mbap_New   :
    T Try.prog 22 [] 0 [] (Ret (PV.ptr 0 0) 1 [(0, .obj [pS 1 false enc8 ([] : List UInt8), pB false])]) := by
  refine t_fun tabOk (n := 3) (rs := [.tmp 0]) Try.func22 rfl rfl rfl rfl (Nat.le_of_ble_eq_true rfl) ?_
  intro c hnt hk
  refine w_seq ?_
  refine w_R ?_
  refine r_op tabOk hnt rfl (s_assign rfl ?_) 
  refine r_end ?_
  refine q_then ?_
  refine w_seq ?_
  refine w_R ?_
  refine r_op tabOk hnt rfl (s_build tab_87 rfl rfl (b_nil ?_)) 
  refine r_op tabOk hnt rfl (s_box rfl rfl ?_) 
  refine r_op tabOk hnt rfl (s_assign rfl ?_) 
  refine r_set [(0, PV.ptr 0 0)] [(0, .obj [pNil, pB false])] 1 ⟨rfl, trivial⟩ rfl rfl ?_
  refine r_end ?_
  refine q_then ?_
  refine w_leC (n := 0) (j := 0) (y := pS 1 false enc8 []) rfl rfl (le_nilS 1 false) ?_
  refine w_leC (n := 0) (j := 0) (y := pS 1 false enc8 ([] : List UInt8)) rfl rfl (le_of_eq (congrArg (fun z => pS 1 false enc8 z) (show [] = ([] : List UInt8) by simp [*]))) ?_
  refine w_ret ?_
  exact fin_names (nx1 := 1) (H1 := [(0, .obj [pS 1 false enc8 ([] : List UInt8), pB false])]) [(0, 0)] (ret_tmp rfl ret_nil) rfl (by decide) ⟨⟨_, _, rfl, rfl, rfl, rfl⟩, trivial⟩ (by decide) rfl ⟨rfl, rfl, rfl⟩

theorem w_mbap_Stream_Closed (b : List UInt8) (cl_b : Bool) (cl : Bool)  :
    T Try.prog 24 [PV.ptr 0 0] 1 [(0, .obj [pS 1 cl_b enc8 b, pB cl])] (Ret (pB cl) 1 [(0, .obj [pS 1 false enc8 b, pB cl])]) := by
  refine t_fun tabOk (n := 7) (rs := [.tmp 2]) Try.func24 rfl rfl rfl rfl (Nat.le_of_ble_eq_true rfl) ?_
  intro c hnt hk
  refine w_seq ?_
  refine w_R ?_
  refine r_op tabOk hnt rfl (s_assign rfl ?_) 
  refine r_end ?_
  refine q_then ?_
  refine w_seq ?_
  refine w_R ?_
  refine r_op tabOk hnt rfl (s_move rfl ?_) 
  refine r_op tabOk hnt rfl (s_nilCheck rfl trivial ?_) 
  refine r_op tabOk hnt rfl (s_fa_ptr tab_87 rfl rfl tab_4 (by decide) rfl ?_) 
  refine r_op tabOk hnt rfl (s_load_ptr1 tab_4 rfl rfl rfl rfl rfl ?_) 
  refine r_op tabOk hnt rfl (s_assign rfl ?_) 
  refine r_end ?_
  refine q_then ?_
  refine w_leC (n := 0) (j := 0) (y := pS 1 false enc8 b) rfl rfl (le_loose) ?_
  refine w_ret ?_
  exact fin_names (nx1 := 1) (H1 := [(0, .obj [pS 1 false enc8 b, pB cl])]) [(0, 0)] (ret_tmp rfl ret_nil) rfl (by decide) ⟨⟨_, _, rfl, rfl, rfl, rfl⟩, trivial⟩ (by decide) rfl ⟨rfl, rfl, rfl⟩

theorem w_mbap_Stream_Len (b : List UInt8) (cl_b : Bool) (cl : Bool)  :
    T Try.prog 25 [PV.ptr 0 0] 1 [(0, .obj [pS 1 cl_b enc8 b, pB cl])] (Ret (pN b.length) 1 [(0, .obj [pS 1 false enc8 b, pB cl])]) := by
  refine t_fun tabOk (n := 8) (rs := [.tmp 2]) Try.func25 rfl rfl rfl rfl (Nat.le_of_ble_eq_true rfl) ?_
  intro c hnt hk
  refine w_seq ?_
  refine w_R ?_
  refine r_op tabOk hnt rfl (s_assign rfl ?_) 
  refine r_end ?_
  refine q_then ?_
  refine w_seq ?_
  refine w_R ?_
  refine r_op tabOk hnt rfl (s_move rfl ?_) 
  refine r_op tabOk hnt rfl (s_nilCheck rfl trivial ?_) 
  refine r_op tabOk hnt rfl (s_fa_ptr tab_87 rfl rfl tab_27 (by decide) rfl ?_) 
  refine r_op tabOk hnt rfl (s_load_ptr1 tab_27 rfl rfl rfl rfl rfl ?_) 
  refine r_op tabOk hnt rfl (s_lenM (l := b) tab_27 rfl (hM_sl (f := enc8) rfl) ?_) 
  refine r_op tabOk hnt rfl (s_assign rfl ?_) 
  refine r_end ?_
  refine q_then ?_
  refine w_leC (n := 0) (j := 0) (y := pS 1 false enc8 b) rfl rfl (le_loose) ?_
  refine w_ret ?_
  exact fin_names (nx1 := 1) (H1 := [(0, .obj [pS 1 false enc8 b, pB cl])]) [(0, 0)] (ret_tmp rfl ret_nil) rfl (by decide) ⟨⟨_, _, rfl, rfl, rfl, rfl⟩, trivial⟩ (by decide) rfl ⟨rfl, rfl, rfl⟩

theorem w_mbap_Stream_Open (b : List UInt8) (cl_b : Bool) (cl : Bool)  :
    T Try.prog 26 [PV.ptr 0 0] 1 [(0, .obj [pS 1 cl_b enc8 b, pB cl])] (Ret (PV.tup []) 1 [(0, .obj [pS 1 false enc8 b, pB false])]) := by
  refine t_fun tabOk (n := 5) (rs := []) Try.func26 rfl rfl rfl rfl (Nat.le_of_ble_eq_true rfl) ?_
  intro c hnt hk
  refine w_R ?_
  refine r_op tabOk hnt rfl (s_move rfl ?_) 
  refine r_op tabOk hnt rfl (s_nilCheck rfl trivial ?_) 
  refine r_op tabOk hnt rfl (s_fa_ptr tab_87 rfl rfl tab_4 (by decide) rfl ?_) 
  refine r_op tabOk hnt rfl (s_store_ptr tab_4 rfl rfl rfl rfl rfl (Nat.le_of_ble_eq_true rfl) ?_) 
  refine r_set [] [(0, .obj [pS 1 cl_b enc8 b, pB false])] 1 trivial rfl rfl ?_
  refine r_leC (n := 0) (j := 0) (y := pS 1 false enc8 b) rfl rfl (le_loose) ?_
  refine r_end ?_
  refine fin_normal ?_
  exact fin_names (nx1 := 1) (H1 := [(0, .obj [pS 1 false enc8 b, pB false])]) [(0, 0)] ret_nil rfl (by decide) ⟨⟨_, _, rfl, rfl, rfl, rfl⟩, trivial⟩ (by decide) rfl ⟨rfl, rfl, rfl⟩

end Go.Proofs.Ytfbmlnajnlekbaa
