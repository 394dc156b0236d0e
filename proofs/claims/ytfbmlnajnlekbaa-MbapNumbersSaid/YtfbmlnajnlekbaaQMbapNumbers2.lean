/- What the law MbapNumbers needs, and no more: merged out of texts of this session by a program of it (wip/tools/prune.py). -/
import Derived.Test.YtfbmlnajnlekbaaQMbapNumbers1
set_option linter.unusedVariables false
set_option linter.unusedSimpArgs false
set_option maxRecDepth 10000
set_option maxHeartbeats 1000000
namespace Go.Proofs.Ytfbmlnajnlekbaa
open Go Go.Proofs.Ytfbmlnajnlekbaa.Pv
theorem w_mbap_Bytes (m : TMsg) (hm : m.pdu.length ≤ 140737488351232) :
    T Try.prog 18 [PV.f (eMsg m)] 0 [] (Ret (pS 1 true enc8 (bytesM m)) 0 []) := by
 refine t_fun tabOk (n := 31) (rs := [.tmp 2]) Try.func18 rfl rfl rfl rfl (Nat.le_of_ble_eq_true rfl) ?_
 intro c hnt hk
 refine w_seq ?_
 refine w_R ?_
 refine qo hnt rfl (s_box rfl rfl ?_)
 refine qa hnt rfl rfl ?_
 refine r_set [(1, PV.ptr 0 0)] [(0, .obj [pI m.id, pI m.unit, pS 1 false enc8 m.pdu])] 1 ⟨rfl, trivial⟩ rfl rfl ?_
 refine r_end ?_
 refine q_then ?_
 refine w_seq ?_
 refine w_R ?_
 refine qo hnt rfl (s_fa_ptr tab_30 rfl rfl tab_27 (by decide) rfl ?_)
 refine qo hnt rfl (s_load_ptr1 tab_27 rfl rfl rfl rfl rfl ?_)
 refine qo hnt rfl (s_lenM (l := m.pdu) tab_27 rfl (hM_sl (f := enc8) rfl) ?_)
 refine qo hnt rfl (s_addN (a := m.pdu.length) (b := 1) rfl rfl (by omega) (by omega) (by omega) ?_)
 refine qa hnt rfl rfl ?_
 refine r_end ?_
 refine q_then ?_
 refine w_seq ?_
 refine w_seq ?_
 refine w_R ?_
 refine qm hnt rfl rfl ?_
 refine qo hnt rfl (s_lss rfl rfl ?_)
 refine qm hnt rfl rfl ?_
 refine r_if tabOk hnt rfl rfl rfl (fun g1 => ?_) (fun g1 => ?_)
 ·
  have g1' := g1
  try simp only [sB] at g1'
  refine qm hnt rfl rfl ?_
  refine ry hnt rfl rfl rfl g1 ?_
  refine qo hnt rfl (s_gtr rfl rfl ?_)
  refine qo hnt rfl (s_pick_f rfl g1 rfl ?_)
  refine r_end ?_
  refine q_then ?_
  refine w_if rfl (fun c1 => ?_) (fun c1 => ?_)
  ·
   have c1_ := c1
   try simp only [sB] at c1
   refine w_seq ?_
   have hbm : bytesM m = [] := bytesM_none (by omega)
   refine w_R ?_
   refine qa hnt rfl rfl ?_
   refine r_end ?_
   refine q_then ?_
   refine w_le (s := 2) (y := pS 1 true enc8 []) rfl (le_nilS 1 true) ?_
   refine w_le (s := 2) (y := pS 1 true enc8 (bytesM m)) rfl (le_of_eq (congrArg (fun z => pS 1 true enc8 z) (show [] = (bytesM m) by first | (rw [hbm]; done) | (rw [hbm]; rfl) | simp [hbm]))) ?_
   refine w_ret ?_
   refine q_then_ret ?_
   exact fin_plain (ret_tmp rfl ret_nil) rfl rfl ⟨rfl, rfl, rfl⟩
  ·
   have c1_ := c1
   try simp only [sB] at c1
   have hbm := bytesM_some (m := m) (by omega)
   refine w_skip ?_
   refine q_then ?_
   refine w_seq ?_
   refine w_R ?_
   refine qo hnt rfl (s_fa_ptr tab_30 rfl rfl tab_3 (by decide) rfl ?_)
   refine qo hnt rfl (s_load_ptr1 tab_3 rfl rfl rfl rfl rfl ?_)
   refine qo hnt rfl (s_callX (r2 := PV.ref 1 0 none) (nx1 := 2) (H2 := [(0, .obj [pI m.id, pI m.unit, pS 1 false enc8 m.pdu])]) (H3 := [(1, oB true 1 enc8 ([] ++ put2 m.id)), (0, .obj [pI m.id, pI m.unit, pS 1 false enc8 m.pdu])]) [] [] rfl rfl rfl (handed_of (by decide) trivial) rfl rfl rfl rfl rfl rfl (T.leL (args := [pNil, pI m.id]) (args' := [pS 1 false enc8 [], pI m.id]) ⟨le_F (FLe.nil 1 false), ⟨le_refl _, trivial⟩⟩ (w_octet_Put [] false m.id (by first | omega | assumption | (simp; omega) | decide | (simp; done)))) rfl (dist_of rfl) rfl rfl rfl rfl ?_)
   refine qo hnt rfl (s_callX (r2 := PV.ref 2 0 none) (nx1 := 3) (H2 := [(1, oB false 1 enc8 ([] ++ put2 m.id)), (0, .obj [pI m.id, pI m.unit, pS 1 false enc8 m.pdu])]) (H3 := [(2, oB true 1 enc8 (([] ++ put2 m.id) ++ put2 0)), (1, oB false 1 enc8 ([] ++ put2 m.id)), (0, .obj [pI m.id, pI m.unit, pS 1 false enc8 m.pdu])]) [] [] rfl rfl rfl (handed_of (by decide) trivial) rfl rfl rfl rfl rfl rfl (w_octet_Put ([] ++ put2 m.id) false 0 (by first | omega | assumption | (simp; omega) | decide | (simp; done))) rfl (dist_of rfl) rfl rfl rfl rfl ?_)
   refine qm hnt rfl rfl ?_
   refine qo hnt rfl (s_callX (r2 := PV.ref 3 0 none) (nx1 := 4) (H2 := [(2, oB false 1 enc8 (([] ++ put2 m.id) ++ put2 0)), (1, oB false 1 enc8 ([] ++ put2 m.id)), (0, .obj [pI m.id, pI m.unit, pS 1 false enc8 m.pdu])]) (H3 := [(3, oB true 1 enc8 ((([] ++ put2 m.id) ++ put2 0) ++ put2 ((m.pdu.length + 1 : Nat) : Int))), (2, oB false 1 enc8 (([] ++ put2 m.id) ++ put2 0)), (1, oB false 1 enc8 ([] ++ put2 m.id)), (0, .obj [pI m.id, pI m.unit, pS 1 false enc8 m.pdu])]) [] [] rfl rfl rfl (handed_of (by decide) trivial) rfl rfl rfl rfl rfl rfl (w_octet_Put (([] ++ put2 m.id) ++ put2 0) false ((m.pdu.length + 1 : Nat) : Int) (by first | omega | assumption | (simp; omega) | decide | (simp; done))) rfl (dist_of rfl) rfl rfl rfl rfl ?_)
   refine qa hnt rfl rfl ?_
   refine r_set [(1, PV.ptr 0 0), (4, PV.ref 3 0 none)] [(3, oB true 1 enc8 ((([] ++ put2 m.id) ++ put2 0) ++ put2 ((m.pdu.length + 1 : Nat) : Int))), (2, oB false 1 enc8 (([] ++ put2 m.id) ++ put2 0)), (1, oB false 1 enc8 ([] ++ put2 m.id)), (0, .obj [pI m.id, pI m.unit, pS 1 false enc8 m.pdu])] 4 ⟨rfl, rfl, trivial⟩ rfl rfl ?_
   refine r_end ?_
   refine q_then ?_
   refine w_seq ?_
   refine W_drawn tabOk mixed hnt [[], [], [1], [1, 2], [1, 2, 3], [0, 1, 2, 3, 4], [], [6], [0, 1, 2, 3, 4, 5, 6, 7], [0, 1, 2, 3, 4, 5, 6, 7, 8], [0, 1, 2, 3, 4, 5, 6, 7, 8, 9]] (by kernel_rfl) ?_
   refine d_op ?_
   refine x_run0 [(4, PV.ref 3 0 none)] [] rfl rfl rfl rfl (s_move rfl ⟨rfl, rfl, rfl⟩) ?_
   refine d_op ?_
   refine x_run0 [(1, PV.ptr 0 0)] [] rfl rfl rfl rfl (s_fa_ptr tab_30 rfl rfl tab_3 (by decide) rfl ⟨rfl, rfl, rfl⟩) ?_
   refine d_op ?_
   refine x_run [(22, PV.ptr 0 1)] [1] [(0, .obj [pI m.id, pI m.unit, pS 1 false enc8 m.pdu])] [] [(0, .obj [pI m.id, pI m.unit, pS 1 false enc8 m.pdu])] [] [(3, oB true 1 enc8 ((([] ++ put2 m.id) ++ put2 0) ++ put2 ((m.pdu.length + 1 : Nat) : Int))), (2, oB false 1 enc8 (([] ++ put2 m.id) ++ put2 0)), (1, oB false 1 enc8 ([] ++ put2 m.id)), (0, .obj [pI m.id, pI m.unit, pS 1 false enc8 m.pdu])] rfl rfl rfl rfl rfl rfl (s_load_ptr1 tab_3 rfl rfl rfl rfl rfl ⟨rfl, rfl, rfl⟩) rfl ⟨rfl, trivial⟩ rfl rfl ?_
   refine d_op ?_
   refine x_run0 [(23, pI m.unit)] [1, 2] rfl rfl rfl rfl (s_cv8 tab_3 tab_5 rfl rfl rfl ⟨rfl, rfl, rfl⟩) ?_
   refine d_op ?_
   refine x_run [(24, p8 (u8I m.unit))] [1, 2, 3] [] [] [(4, oB true 1 enc8 [u8I m.unit])] [(4, oB true 1 enc8 [u8I m.unit])] [(4, oB true 1 enc8 [u8I m.unit]), (3, oB true 1 enc8 ((([] ++ put2 m.id) ++ put2 0) ++ put2 ((m.pdu.length + 1 : Nat) : Int))), (2, oB false 1 enc8 (([] ++ put2 m.id) ++ put2 0)), (1, oB false 1 enc8 ([] ++ put2 m.id)), (0, .obj [pI m.id, pI m.unit, pS 1 false enc8 m.pdu])] rfl rfl rfl rfl rfl rfl (s_mkM (f := enc8) [u8I m.unit] tab_27 rfl tab_5 ⟨rfl, by decide⟩ (by decide) rfl rfl rfl rfl ⟨rfl, rfl, rfl⟩) rfl trivial rfl rfl ?_
   refine d_op ?_
   refine x_run [(21, PV.ref 3 0 none), (25, PV.ref 4 0 none)] [0, 1, 2, 3, 4] [(4, oB true 1 enc8 [u8I m.unit])] [(3, oB true 1 enc8 ((([] ++ put2 m.id) ++ put2 0) ++ put2 ((m.pdu.length + 1 : Nat) : Int)))] [(5, oB true 1 enc8 (((([] ++ put2 m.id) ++ put2 0) ++ put2 ((m.pdu.length + 1 : Nat) : Int)) ++ [u8I m.unit])), (4, oB true 1 enc8 [u8I m.unit])] [(5, oB true 1 enc8 (((([] ++ put2 m.id) ++ put2 0) ++ put2 ((m.pdu.length + 1 : Nat) : Int)) ++ [u8I m.unit]))] [(5, oB true 1 enc8 (((([] ++ put2 m.id) ++ put2 0) ++ put2 ((m.pdu.length + 1 : Nat) : Int)) ++ [u8I m.unit])), (4, oB true 1 enc8 [u8I m.unit]), (2, oB false 1 enc8 (([] ++ put2 m.id) ++ put2 0)), (1, oB false 1 enc8 ([] ++ put2 m.id)), (0, .obj [pI m.id, pI m.unit, pS 1 false enc8 m.pdu])] rfl rfl rfl rfl rfl rfl (s_appR0 (f := enc8) (l := (([] ++ put2 m.id) ++ put2 0) ++ put2 ((m.pdu.length + 1 : Nat) : Int)) (xs := [u8I m.unit]) tab_27 rfl tab_5 ⟨rfl, by decide, by decide⟩ (srcM tab_27 rfl (hM_ref0 (f := enc8) rfl rfl)) rfl rfl (by first | omega | (simp; done) | (simp; omega)) ⟨rfl, rfl, rfl⟩) rfl ⟨rfl, trivial⟩ rfl rfl ?_
   refine d_op ?_
   refine x_run0 [(1, PV.ptr 0 0)] [] rfl rfl rfl rfl (s_fa_ptr tab_30 rfl rfl tab_27 (by decide) rfl ⟨rfl, rfl, rfl⟩) ?_
   refine d_op ?_
   refine x_run [(27, PV.ptr 0 2)] [6] [(0, .obj [pI m.id, pI m.unit, pS 1 false enc8 m.pdu])] [] [(0, .obj [pI m.id, pI m.unit, pS 1 false enc8 m.pdu])] [] [(5, oB true 1 enc8 (((([] ++ put2 m.id) ++ put2 0) ++ put2 ((m.pdu.length + 1 : Nat) : Int)) ++ [u8I m.unit])), (4, oB true 1 enc8 [u8I m.unit]), (2, oB false 1 enc8 (([] ++ put2 m.id) ++ put2 0)), (1, oB false 1 enc8 ([] ++ put2 m.id)), (0, .obj [pI m.id, pI m.unit, pS 1 false enc8 m.pdu])] rfl rfl rfl rfl rfl rfl (s_load_ptr1 tab_27 rfl rfl rfl rfl rfl ⟨rfl, rfl, rfl⟩) rfl ⟨rfl, trivial⟩ rfl rfl ?_
   refine d_op ?_
   refine x_run [(26, PV.ref 5 0 none), (28, pS 1 false enc8 m.pdu)] [0, 1, 2, 3, 4, 5, 6, 7] [] [(5, oB true 1 enc8 (((([] ++ put2 m.id) ++ put2 0) ++ put2 ((m.pdu.length + 1 : Nat) : Int)) ++ [u8I m.unit]))] [(6, oB true 1 enc8 ((((([] ++ put2 m.id) ++ put2 0) ++ put2 ((m.pdu.length + 1 : Nat) : Int)) ++ [u8I m.unit]) ++ m.pdu))] [(6, oB true 1 enc8 ((((([] ++ put2 m.id) ++ put2 0) ++ put2 ((m.pdu.length + 1 : Nat) : Int)) ++ [u8I m.unit]) ++ m.pdu))] [(6, oB true 1 enc8 ((((([] ++ put2 m.id) ++ put2 0) ++ put2 ((m.pdu.length + 1 : Nat) : Int)) ++ [u8I m.unit]) ++ m.pdu)), (4, oB true 1 enc8 [u8I m.unit]), (2, oB false 1 enc8 (([] ++ put2 m.id) ++ put2 0)), (1, oB false 1 enc8 ([] ++ put2 m.id)), (0, .obj [pI m.id, pI m.unit, pS 1 false enc8 m.pdu])] rfl rfl rfl rfl rfl rfl (s_appR0 (f := enc8) (l := ((([] ++ put2 m.id) ++ put2 0) ++ put2 ((m.pdu.length + 1 : Nat) : Int)) ++ [u8I m.unit]) (xs := m.pdu) tab_27 rfl tab_5 ⟨rfl, by decide, by decide⟩ (srcM tab_27 rfl (hM_sl (f := enc8) rfl)) rfl rfl (by first | omega | (simp; done) | (simp; omega)) ⟨rfl, rfl, rfl⟩) rfl trivial rfl rfl ?_
   refine d_op ?_
   refine x_run [(29, PV.ref 6 0 none)] [0, 1, 2, 3, 4, 5, 6, 7, 8] [] [(6, oB true 1 enc8 ((((([] ++ put2 m.id) ++ put2 0) ++ put2 ((m.pdu.length + 1 : Nat) : Int)) ++ [u8I m.unit]) ++ m.pdu))] [(6, oB false 1 enc8 ((((([] ++ put2 m.id) ++ put2 0) ++ put2 ((m.pdu.length + 1 : Nat) : Int)) ++ [u8I m.unit]) ++ m.pdu))] [(6, oB false 1 enc8 ((((([] ++ put2 m.id) ++ put2 0) ++ put2 ((m.pdu.length + 1 : Nat) : Int)) ++ [u8I m.unit]) ++ m.pdu))] [(6, oB false 1 enc8 ((((([] ++ put2 m.id) ++ put2 0) ++ put2 ((m.pdu.length + 1 : Nat) : Int)) ++ [u8I m.unit]) ++ m.pdu)), (4, oB true 1 enc8 [u8I m.unit]), (2, oB false 1 enc8 (([] ++ put2 m.id) ++ put2 0)), (1, oB false 1 enc8 ([] ++ put2 m.id)), (0, .obj [pI m.id, pI m.unit, pS 1 false enc8 m.pdu])] rfl rfl rfl rfl rfl rfl (s_callX (r2 := pS 1 true enc8 ((((([] ++ put2 m.id) ++ put2 0) ++ put2 ((m.pdu.length + 1 : Nat) : Int)) ++ [u8I m.unit]) ++ m.pdu)) (nx1 := 7) (H2 := [(6, oB false 1 enc8 ((((([] ++ put2 m.id) ++ put2 0) ++ put2 ((m.pdu.length + 1 : Nat) : Int)) ++ [u8I m.unit]) ++ m.pdu))]) (H3 := [(6, oB false 1 enc8 ((((([] ++ put2 m.id) ++ put2 0) ++ put2 ((m.pdu.length + 1 : Nat) : Int)) ++ [u8I m.unit]) ++ m.pdu))]) [] [] rfl rfl rfl (handed_of (by decide) trivial) rfl rfl rfl rfl rfl rfl (w_slices_Clip_byte_byte ((((([] ++ put2 m.id) ++ put2 0) ++ put2 ((m.pdu.length + 1 : Nat) : Int)) ++ [u8I m.unit]) ++ m.pdu) false) rfl (dist_of rfl) rfl rfl rfl rfl ⟨rfl, rfl, rfl⟩) rfl trivial rfl rfl ?_
   refine d_op ?_
   refine x_run0 [(30, pS 1 true enc8 ((((([] ++ put2 m.id) ++ put2 0) ++ put2 ((m.pdu.length + 1 : Nat) : Int)) ++ [u8I m.unit]) ++ m.pdu))] [0, 1, 2, 3, 4, 5, 6, 7, 8, 9] rfl rfl rfl rfl (s_assign rfl ⟨rfl, rfl, rfl⟩) ?_
   refine d_end ⟨by kernel_rfl, ?_⟩
   refine q_then ?_
   refine w_le (s := 2) (y := pS 1 true enc8 (bytesM m)) rfl (le_of_eq (congrArg (fun z => pS 1 true enc8 z) (show ((((([] ++ put2 m.id) ++ put2 0) ++ put2 ((m.pdu.length + 1 : Nat) : Int)) ++ [u8I m.unit]) ++ m.pdu) = (bytesM m) by first | (rw [hbm]; done) | (rw [hbm]; rfl) | simp [hbm]))) ?_
   refine w_ret ?_
   exact fin_plain (ret_tmp rfl ret_nil) rfl rfl ⟨rfl, rfl, rfl⟩
 ·
  have g1' := g1
  try simp only [sB] at g1'
  refine rn hnt rfl rfl rfl g1 ?_
  refine qo hnt rfl (s_pick_t rfl g1 rfl ?_)
  refine r_end ?_
  refine q_then ?_
  refine w_if rfl (fun _ => ?_) (fun e => absurd e (by decide))
  refine w_seq ?_
  have hbm : bytesM m = [] := bytesM_none (by omega)
  refine w_R ?_
  refine qa hnt rfl rfl ?_
  refine r_end ?_
  refine q_then ?_
  refine w_le (s := 2) (y := pS 1 true enc8 []) rfl (le_nilS 1 true) ?_
  refine w_le (s := 2) (y := pS 1 true enc8 (bytesM m)) rfl (le_of_eq (congrArg (fun z => pS 1 true enc8 z) (show [] = (bytesM m) by first | (rw [hbm]; done) | (rw [hbm]; rfl) | simp [hbm]))) ?_
  refine w_ret ?_
  refine q_then_ret ?_
  exact fin_plain (ret_tmp rfl ret_nil) rfl rfl ⟨rfl, rfl, rfl⟩
theorem w_mbap_New   :
    T Try.prog 22 [] 0 [] (Ret (PV.ptr 0 0) 1 [(0, .obj [pS 1 false enc8 ([] : List UInt8), pB false])]) := by
 refine t_fun tabOk (n := 3) (rs := [.tmp 0]) Try.func22 rfl rfl rfl rfl (Nat.le_of_ble_eq_true rfl) ?_
 intro c hnt hk
 refine w_seq ?_
 refine w_R ?_
 refine qa hnt rfl rfl ?_
 refine r_end ?_
 refine q_then ?_
 refine w_seq ?_
 refine w_R ?_
 refine qo hnt rfl (s_build tab_87 rfl rfl (b_nil ?_))
 refine qo hnt rfl (s_box rfl rfl ?_)
 refine qa hnt rfl rfl ?_
 refine r_set [(0, PV.ptr 0 0)] [(0, .obj [pNil, pB false])] 1 ⟨rfl, trivial⟩ rfl rfl ?_
 refine r_end ?_
 refine q_then ?_
 refine w_leC (n := 0) (j := 0) (y := pS 1 false enc8 []) rfl rfl (le_nilS 1 false) ?_
 refine w_leC (n := 0) (j := 0) (y := pS 1 false enc8 ([] : List UInt8)) rfl rfl (le_of_eq (congrArg (fun z => pS 1 false enc8 z) (show [] = ([] : List UInt8) by simp [*]))) ?_
 refine w_ret ?_
 exact fin_names (nx1 := 1) (H1 := [(0, .obj [pS 1 false enc8 ([] : List UInt8), pB false])]) [(0, 0)] (ret_tmp rfl ret_nil) rfl (by decide) ⟨⟨_, _, rfl, rfl, rfl, rfl⟩, trivial⟩ (by decide) rfl ⟨rfl, rfl, rfl⟩
theorem w_mbap_Stream_Closed (b : List UInt8) (cl_b : Bool) (cl : Bool)  :
    T Try.prog 24 [PV.ptr 0 0] 1 [(0, .obj [pS 1 cl_b enc8 b, pB cl])] (Ret (pB cl) 1 [(0, .obj [pS 1 false enc8 b, pB cl])]) := by
 refine t_fun tabOk (n := 7) (rs := [.tmp 2]) Try.func24 rfl rfl rfl rfl (Nat.le_of_ble_eq_true rfl) ?_
 intro c hnt hk
 refine w_seq ?_
 refine w_R ?_
 refine qa hnt rfl rfl ?_
 refine r_end ?_
 refine q_then ?_
 refine w_seq ?_
 refine w_R ?_
 refine qm hnt rfl rfl ?_
 refine qo hnt rfl (s_nilCheck rfl trivial ?_)
 refine qo hnt rfl (s_fa_ptr tab_87 rfl rfl tab_4 (by decide) rfl ?_)
 refine qo hnt rfl (s_load_ptr1 tab_4 rfl rfl rfl rfl rfl ?_)
 refine qa hnt rfl rfl ?_
 refine r_end ?_
 refine q_then ?_
 refine w_leC (n := 0) (j := 0) (y := pS 1 false enc8 b) rfl rfl (le_loose) ?_
 refine w_ret ?_
 exact fin_names (nx1 := 1) (H1 := [(0, .obj [pS 1 false enc8 b, pB cl])]) [(0, 0)] (ret_tmp rfl ret_nil) rfl (by decide) ⟨⟨_, _, rfl, rfl, rfl, rfl⟩, trivial⟩ (by decide) rfl ⟨rfl, rfl, rfl⟩
theorem w_mbap_Stream_Len (b : List UInt8) (cl_b : Bool) (cl : Bool)  :
    T Try.prog 25 [PV.ptr 0 0] 1 [(0, .obj [pS 1 cl_b enc8 b, pB cl])] (Ret (pN b.length) 1 [(0, .obj [pS 1 false enc8 b, pB cl])]) := by
 refine t_fun tabOk (n := 8) (rs := [.tmp 2]) Try.func25 rfl rfl rfl rfl (Nat.le_of_ble_eq_true rfl) ?_
 intro c hnt hk
 refine w_seq ?_
 refine w_R ?_
 refine qa hnt rfl rfl ?_
 refine r_end ?_
 refine q_then ?_
 refine w_seq ?_
 refine w_R ?_
 refine qm hnt rfl rfl ?_
 refine qo hnt rfl (s_nilCheck rfl trivial ?_)
 refine qo hnt rfl (s_fa_ptr tab_87 rfl rfl tab_27 (by decide) rfl ?_)
 refine qo hnt rfl (s_load_ptr1 tab_27 rfl rfl rfl rfl rfl ?_)
 refine qo hnt rfl (s_lenM (l := b) tab_27 rfl (hM_sl (f := enc8) rfl) ?_)
 refine qa hnt rfl rfl ?_
 refine r_end ?_
 refine q_then ?_
 refine w_leC (n := 0) (j := 0) (y := pS 1 false enc8 b) rfl rfl (le_loose) ?_
 refine w_ret ?_
 exact fin_names (nx1 := 1) (H1 := [(0, .obj [pS 1 false enc8 b, pB cl])]) [(0, 0)] (ret_tmp rfl ret_nil) rfl (by decide) ⟨⟨_, _, rfl, rfl, rfl, rfl⟩, trivial⟩ (by decide) rfl ⟨rfl, rfl, rfl⟩
theorem w_mbap_Stream_Open (b : List UInt8) (cl_b : Bool) (cl : Bool)  :
    T Try.prog 26 [PV.ptr 0 0] 1 [(0, .obj [pS 1 cl_b enc8 b, pB cl])] (Ret (PV.tup []) 1 [(0, .obj [pS 1 false enc8 b, pB false])]) := by
 refine t_fun tabOk (n := 5) (rs := []) Try.func26 rfl rfl rfl rfl (Nat.le_of_ble_eq_true rfl) ?_
 intro c hnt hk
 refine w_R ?_
 refine qm hnt rfl rfl ?_
 refine qo hnt rfl (s_nilCheck rfl trivial ?_)
 refine qo hnt rfl (s_fa_ptr tab_87 rfl rfl tab_4 (by decide) rfl ?_)
 refine qo hnt rfl (s_store_ptr tab_4 rfl rfl rfl rfl rfl (Nat.le_of_ble_eq_true rfl) ?_)
 refine r_set [] [(0, .obj [pS 1 cl_b enc8 b, pB false])] 1 trivial rfl rfl ?_
 refine r_leC (n := 0) (j := 0) (y := pS 1 false enc8 b) rfl rfl (le_loose) ?_
 refine r_end ?_
 refine fin_normal ?_
 exact fin_names (nx1 := 1) (H1 := [(0, .obj [pS 1 false enc8 b, pB false])]) [(0, 0)] ret_nil rfl (by decide) ⟨⟨_, _, rfl, rfl, rfl, rfl⟩, trivial⟩ (by decide) rfl ⟨rfl, rfl, rfl⟩
end Go.Proofs.Ytfbmlnajnlekbaa
set_option linter.unusedVariables false
set_option linter.unusedSimpArgs false
set_option maxRecDepth 10000
set_option maxHeartbeats 1000000
namespace Go.Proofs.Ytfbmlnajnlekbaa
open Go Go.Proofs.Ytfbmlnajnlekbaa.Pv
theorem w_mbap_Stream_Put_n (b : List UInt8) (cl_b : Bool) (cl : Bool) (x : List UInt8) (cl_x : Bool) (hb : b.length + x.length ≤ 28147497671000) (hx : x ≠ []) :
    T Try.prog 23 [PV.ptr 0 0, pS 1 cl_x enc8 x] 1 [(0, .obj [pS 1 cl_b enc8 b, pB cl])] (Ret (pS 3 true eMsg ((putV b cl x).1)) 1 [(0, .obj [pS 1 false enc8 ((putV b cl x).2.1), pB ((putV b cl x).2.2)])]) := by
 refine t_fun tabOk (n := 113) (rs := [.tmp 4]) Try.func23 rfl rfl rfl rfl (Nat.le_of_ble_eq_true rfl) ?_
 intro c hnt hk
 refine w_seq ?_
 refine w_R ?_
 refine qa hnt rfl rfl ?_
 refine r_end ?_
 refine q_then ?_
 refine w_seq ?_
 refine w_seq ?_
 refine w_R ?_
 refine qm hnt rfl rfl ?_
 refine qo hnt rfl (s_nilCheck rfl trivial ?_)
 refine qo hnt rfl (s_fa_ptr tab_87 rfl rfl tab_4 (by decide) rfl ?_)
 refine qo hnt rfl (s_load_ptr1 tab_4 rfl rfl rfl rfl rfl ?_)
 refine r_end ?_
 refine q_then ?_
 refine w_if rfl (fun c1 => ?_) (fun c1 => ?_)
 ·
  have c1_ := c1
  try simp only [sB] at c1
  refine w_seq ?_
  refine w_R ?_
  refine qa hnt rfl rfl ?_
  refine r_end ?_
  refine q_then ?_
  refine w_le (s := 4) (y := pS 3 true eMsg []) rfl (le_nilS 3 true) ?_
  refine w_le (s := 4) (y := pS 3 true eMsg ((putV b cl x).1)) rfl (le_of_eq (congrArg (fun z => pS 3 true eMsg z) (show [] = ((putV b cl x).1) by first | (simp [putV, c1]; done) | (simp [putV, c1, hg]; done)))) ?_
  refine w_leC (n := 0) (j := 0) (y := pS 1 false enc8 b) rfl rfl (le_loose) ?_
  refine w_leC (n := 0) (j := 0) (y := pS 1 false enc8 ((putV b cl x).2.1)) rfl rfl (le_of_eq (congrArg (fun z => pS 1 false enc8 z) (show b = ((putV b cl x).2.1) by first | (simp [putV, c1]; done) | (simp [putV, c1, hg]; done)))) ?_
  refine w_leC (n := 0) (j := 1) (y := pB ((putV b cl x).2.2)) rfl rfl (le_of_eq (congrArg (fun z : Bool => pB z) (show cl = ((putV b cl x).2.2) by first | (simp [putV, c1]; done) | (simp [putV, c1, hg]; done)))) ?_
  refine w_ret ?_
  refine q_then_ret ?_
  exact fin_names (nx1 := 1) (H1 := [(0, .obj [pS 1 false enc8 ((putV b cl x).2.1), pB ((putV b cl x).2.2)])]) [(0, 0)] (ret_tmp rfl ret_nil) rfl (by decide) ⟨⟨_, _, rfl, rfl, rfl, rfl⟩, trivial⟩ (by decide) rfl ⟨rfl, rfl, rfl⟩
 ·
  have c1_ := c1
  try simp only [sB] at c1
  refine w_skip ?_
  refine q_then ?_
  refine w_seq ?_
  refine w_R ?_
  refine qa hnt rfl rfl ?_
  refine r_end ?_
  refine q_then ?_
  refine w_seq ?_
  refine w_R ?_
  refine qm hnt rfl rfl ?_
  refine qm hnt rfl rfl ?_
  refine qo hnt rfl (s_nilCheck rfl trivial ?_)
  refine qo hnt rfl (s_fa_ptr tab_87 rfl rfl tab_27 (by decide) rfl ?_)
  refine qo hnt rfl (s_load_ptr1 tab_27 rfl rfl rfl rfl rfl ?_)
  refine qo hnt rfl (s_callF rfl rfl rfl (w_slices_Clip_byte_byte b cl_b) rfl ?_)
  refine qm hnt rfl rfl ?_
  refine qo hnt rfl (s_appC (f := enc8) (l := b) (xs := x) tab_27 rfl tab_5 ⟨rfl, by decide, by decide⟩ (srcM tab_27 rfl (hM_sl (f := enc8) rfl)) rfl (by first | omega | (simp; omega)) (by exact hx) ?_)
  refine qo hnt rfl (s_nilCheck rfl trivial ?_)
  refine qo hnt rfl (s_fa_ptr tab_87 rfl rfl tab_27 (by decide) rfl ?_)
  refine qo hnt rfl (s_store_ptr tab_27 rfl rfl rfl rfl rfl (Nat.le_of_ble_eq_true rfl) ?_)
  refine r_set [(0, PV.ptr 0 0), (5, pNil)] [(0, .obj [PV.ref 1 0 none, pB cl]), (1, oB true 1 enc8 (b ++ x))] 2 ⟨rfl, rfl, trivial⟩ rfl rfl ?_
  refine r_end ?_
  refine q_then ?_
  refine w_seq ?_
  refine w_block ?_
  refine w_adopt (s := 5) (sz := 3) rfl ?_
  refine w_frzC (n := 0) (j := 0) rfl rfl rfl rfl ?_
  refine w_leC (n := 0) (j := 1) (y := pB false) rfl rfl (le_of_eq (congrArg (fun z : Bool => pB z) (show cl = false by simp_all))) ?_
  refine loop2 (fun (q : List UInt8) (os : List TMsg) => mbGo (b ++ x) = (os ++ (mbGo q).1, (mbGo q).2) ∧ q.length ≤ 28147497671000 ∧ os.length * 8 + q.length ≤ 28147497671000) (fun (q : List UInt8) (os : List TMsg) => [(0, PV.ptr 0 0), (5, PV.ref 1 0 none)]) 2 (fun (q : List UInt8) (os : List TMsg) => [(0, .obj [pS 1 false enc8 q, pB false]), (1, oB true 3 eMsg os)]) (fun (q : List UInt8) (os : List TMsg) => q.length) (b ++ x) (([] : List TMsg)) ?_ ⟨[(0, 0), (1, 2)], by rw [hk]; decide, ⟨⟨_, rfl, rfl, rfl⟩, ⟨_, rfl, rfl, rfl⟩, trivial⟩, ⟨⟨_, _, rfl, rfl, rfl, rfl⟩, ⟨_, _, rfl, rfl, rfl, rfl⟩, trivial⟩, by rw [hk]; decide⟩ ?_
  · exact ⟨by simp [hx], by first | omega | (simp; omega), by first | (simp; omega) | (simp [hx]; omega)⟩
  ·
   intro q os hI
   obtain ⟨hg, hq, hol⟩ := hI
   refine w_seq ?_
   refine w_seq ?_
   refine w_R ?_
   refine qm hnt rfl rfl ?_
   refine qo hnt rfl (s_nilCheck rfl trivial ?_)
   refine qo hnt rfl (s_fa_ptr tab_87 rfl rfl tab_27 (by decide) rfl ?_)
   refine qo hnt rfl (s_load_ptr1 tab_27 rfl rfl rfl rfl rfl ?_)
   refine qo hnt rfl (s_lenM (l := q) tab_27 rfl (hM_sl (f := enc8) rfl) ?_)
   refine qo hnt rfl (s_geq rfl rfl ?_)
   refine r_end ?_
   refine q_then ?_
   refine w_if rfl (fun c2 => ?_) (fun c2 => ?_)
   ·
    have c2_ := c2
    try simp only [sB] at c2
    have hv := getV_head (q := q) (by omega)
    have hn4 := getN_lt q 4
    refine w_skip ?_
    refine q_then ?_
    refine w_block ?_
    refine w_seq ?_
    refine w_R ?_
    refine qm hnt rfl rfl ?_
    refine qo hnt rfl (s_nilCheck rfl trivial ?_)
    refine qo hnt rfl (s_fa_ptr tab_87 rfl rfl tab_27 (by decide) rfl ?_)
    refine qo hnt rfl (s_load_ptr1 tab_27 rfl rfl rfl rfl rfl ?_)
    refine qo hnt rfl (s_callF rfl rfl rfl (w_octet_Get q false 0 (by first | omega | assumption | (simp; omega) | decide | (simp; done)) (by first | omega | assumption | (simp; omega) | decide | (simp; done))) rfl ?_)
    refine qm hnt rfl rfl ?_
    refine qo hnt rfl (s_extract rfl rfl ?_)
    refine qo hnt rfl (s_extract rfl rfl ?_)
    refine qa hnt rfl rfl ?_
    refine qa hnt rfl rfl ?_
    refine r_end ?_
    refine q_then ?_
    refine w_seq ?_
    refine w_R ?_
    refine qm hnt rfl rfl ?_
    refine qo hnt rfl (s_nilCheck rfl trivial ?_)
    refine qo hnt rfl (s_fa_ptr tab_87 rfl rfl tab_27 (by decide) rfl ?_)
    refine qo hnt rfl (s_load_ptr1 tab_27 rfl rfl rfl rfl rfl ?_)
    refine qo hnt rfl (s_callF rfl rfl rfl (w_octet_Get q false 2 (by first | omega | assumption | (simp; omega) | decide | (simp; done)) (by first | omega | assumption | (simp; omega) | decide | (simp; done))) rfl ?_)
    refine qm hnt rfl rfl ?_
    refine qo hnt rfl (s_extract rfl rfl ?_)
    refine qo hnt rfl (s_extract rfl rfl ?_)
    refine qa hnt rfl rfl ?_
    refine qa hnt rfl rfl ?_
    refine r_end ?_
    refine q_then ?_
    refine w_seq ?_
    refine w_R ?_
    refine qm hnt rfl rfl ?_
    refine qo hnt rfl (s_nilCheck rfl trivial ?_)
    refine qo hnt rfl (s_fa_ptr tab_87 rfl rfl tab_27 (by decide) rfl ?_)
    refine qo hnt rfl (s_load_ptr1 tab_27 rfl rfl rfl rfl rfl ?_)
    refine qo hnt rfl (s_callF rfl rfl rfl (w_octet_Get q false 4 (by first | omega | assumption | (simp; omega) | decide | (simp; done)) (by first | omega | assumption | (simp; omega) | decide | (simp; done))) rfl ?_)
    refine qm hnt rfl rfl ?_
    refine qo hnt rfl (s_extract rfl rfl ?_)
    refine qo hnt rfl (s_extract rfl rfl ?_)
    refine qa hnt rfl rfl ?_
    refine qa hnt rfl rfl ?_
    refine r_set [(0, PV.ptr 0 0), (5, PV.ref 1 0 none), (6, pI (getV q 0)), (8, pI (getV q 2)), (10, pI (getV q 4))] [(0, .obj [pS 1 false enc8 q, pB false]), (1, oB true 3 eMsg os)] 2 ⟨rfl, rfl, rfl, rfl, rfl, trivial⟩ rfl rfl ?_
    refine r_end ?_
    refine q_then ?_
    refine w_seq ?_
    refine w_seq ?_
    refine w_R ?_
    refine qm hnt rfl rfl ?_
    refine qo hnt rfl (s_neq rfl rfl ?_)
    refine qm hnt rfl rfl ?_
    refine r_if tabOk hnt rfl rfl rfl (fun g1 => ?_) (fun g1 => ?_)
    ·
     have g1' := g1
     try simp only [sB] at g1'
     refine qm hnt rfl rfl ?_
     refine ry hnt rfl rfl rfl g1 ?_
     refine qo hnt rfl (s_lss rfl rfl ?_)
     refine qo hnt rfl (s_pick_f rfl g1 rfl ?_)
     refine qm hnt rfl rfl ?_
     refine r_if tabOk hnt rfl rfl rfl (fun g2 => ?_) (fun g2 => ?_)
     ·
      have g2' := g2
      try simp only [sB] at g2'
      refine qm hnt rfl rfl ?_
      refine ry hnt rfl rfl rfl g2 ?_
      refine qo hnt rfl (s_gtr rfl rfl ?_)
      refine qo hnt rfl (s_pick_f rfl g2 rfl ?_)
      refine r_end ?_
      refine q_then ?_
      refine w_if rfl (fun c3 => ?_) (fun c3 => ?_)
      ·
       have c3_ := c3
       try simp only [sB] at c3
       refine w_seq ?_
       have hz := mb_bad (b := q) (by omega) (by unfold headBad; apply decide_eq_true; omega)
       rw [hz] at hg
       refine w_R ?_
       refine qm hnt rfl rfl ?_
       refine qm hnt rfl rfl ?_
       refine qo hnt rfl (s_nilCheck rfl trivial ?_)
       refine qo hnt rfl (s_fa_ptr tab_87 rfl rfl tab_27 (by decide) rfl ?_)
       refine qo hnt rfl (s_store_ptr tab_27 rfl rfl rfl rfl rfl (Nat.le_of_ble_eq_true rfl) ?_)
       refine qo hnt rfl (s_nilCheck rfl trivial ?_)
       refine qo hnt rfl (s_fa_ptr tab_87 rfl rfl tab_4 (by decide) rfl ?_)
       refine qo hnt rfl (s_store_ptr tab_4 rfl rfl rfl rfl rfl (Nat.le_of_ble_eq_true rfl) ?_)
       refine r_set [(5, PV.ref 1 0 none)] [(0, .obj [pNil, pB true]), (1, oB true 3 eMsg os)] 2 ⟨rfl, trivial⟩ rfl rfl ?_
       refine r_end ?_
       refine q_then ?_
       refine w_exit ?_
       refine q_then_exit ?_
       refine q_block_pass (by decide) ?_
       refine q_then_exit ?_
       refine q_block_exit ?_
       refine q_then ?_
       refine w_seq ?_
       refine w_R ?_
       refine qm hnt rfl rfl ?_
       refine qo hnt rfl (s_callX (r2 := pS 3 true eMsg os) (nx1 := 2) (H2 := [(1, oB false 3 eMsg os), (0, .obj [pNil, pB true])]) (H3 := [(1, oB false 3 eMsg os), (0, .obj [pNil, pB true])]) [] [] rfl rfl rfl (handed_of (by decide) trivial) rfl rfl rfl rfl rfl rfl (w_slices_Clip_mbap_Msg_mbap_Msg os false) rfl (dist_of rfl) rfl rfl rfl rfl ?_)
       refine qa hnt rfl rfl ?_
       refine r_set [(4, pS 3 true eMsg os)] [(1, oB false 3 eMsg os), (0, .obj [pNil, pB true])] 2 ⟨rfl, trivial⟩ rfl rfl ?_
       refine r_end ?_
       refine q_then ?_
       refine w_le (s := 4) (y := pS 3 true eMsg ((putV b cl x).1)) rfl (le_of_eq (congrArg (fun z => pS 3 true eMsg z) (show os = ((putV b cl x).1) by first | (simp [putV, c1]; done) | (simp [putV, c1, hg]; done)))) ?_
       refine w_leC (n := 0) (j := 0) (y := pS 1 false enc8 []) rfl rfl (le_nilS 1 false) ?_
       refine w_leC (n := 0) (j := 0) (y := pS 1 false enc8 ((putV b cl x).2.1)) rfl rfl (le_of_eq (congrArg (fun z => pS 1 false enc8 z) (show [] = ((putV b cl x).2.1) by first | (simp [putV, c1]; done) | (simp [putV, c1, hg]; done)))) ?_
       refine w_leC (n := 0) (j := 1) (y := pB ((putV b cl x).2.2)) rfl rfl (le_of_eq (congrArg (fun z : Bool => pB z) (show true = ((putV b cl x).2.2) by first | (simp [putV, c1]; done) | (simp [putV, c1, hg]; done)))) ?_
       refine w_ret ?_
       exact fin_names (nx1 := 1) (H1 := [(0, .obj [pS 1 false enc8 ((putV b cl x).2.1), pB ((putV b cl x).2.2)])]) [(0, 0)] (ret_tmp rfl ret_nil) rfl (by decide) ⟨⟨_, _, rfl, rfl, rfl, rfl⟩, trivial⟩ (by decide) rfl ⟨rfl, rfl, rfl⟩
      ·
       have c3_ := c3
       try simp only [sB] at c3
       refine w_skip ?_
       refine q_then ?_
       refine w_seq ?_
       refine w_seq ?_
       have hok : headBad q = false := by unfold headBad; apply decide_eq_false; omega
       refine w_R ?_
       refine qm hnt rfl rfl ?_
       refine qo hnt rfl (s_nilCheck rfl trivial ?_)
       refine qo hnt rfl (s_fa_ptr tab_87 rfl rfl tab_27 (by decide) rfl ?_)
       refine qo hnt rfl (s_load_ptr1 tab_27 rfl rfl rfl rfl rfl ?_)
       refine qo hnt rfl (s_lenM (l := q) tab_27 rfl (hM_sl (f := enc8) rfl) ?_)
       refine qo hnt rfl (s_subi (r := ((q.length : Nat) : Int) - 6) rfl rfl rfl (by omega) ?_)
       refine qm hnt rfl rfl ?_
       refine qo hnt rfl (s_lss rfl rfl ?_)
       refine r_end ?_
       refine q_then ?_
       refine w_if rfl (fun c4 => ?_) (fun c4 => ?_)
       ·
        have c4_ := c4
        try simp only [sB] at c4
        have hz := mb_waits (b := q) (by omega) hok (by omega)
        rw [hz] at hg
        refine w_exit ?_
        refine q_then_exit ?_
        refine q_block_pass (by decide) ?_
        refine q_then_exit ?_
        refine q_block_exit ?_
        refine q_then ?_
        refine w_seq ?_
        refine w_R ?_
        refine qm hnt rfl rfl ?_
        refine qo hnt rfl (s_callX (r2 := pS 3 true eMsg os) (nx1 := 2) (H2 := [(1, oB false 3 eMsg os), (0, .obj [pS 1 false enc8 q, pB false])]) (H3 := [(1, oB false 3 eMsg os), (0, .obj [pS 1 false enc8 q, pB false])]) [] [] rfl rfl rfl (handed_of (by decide) trivial) rfl rfl rfl rfl rfl rfl (w_slices_Clip_mbap_Msg_mbap_Msg os false) rfl (dist_of rfl) rfl rfl rfl rfl ?_)
        refine qa hnt rfl rfl ?_
        refine r_set [(4, pS 3 true eMsg os)] [(1, oB false 3 eMsg os), (0, .obj [pS 1 false enc8 q, pB false])] 2 ⟨rfl, trivial⟩ rfl rfl ?_
        refine r_end ?_
        refine q_then ?_
        refine w_le (s := 4) (y := pS 3 true eMsg ((putV b cl x).1)) rfl (le_of_eq (congrArg (fun z => pS 3 true eMsg z) (show os = ((putV b cl x).1) by first | (simp [putV, c1]; done) | (simp [putV, c1, hg]; done)))) ?_
        refine w_leC (n := 0) (j := 0) (y := pS 1 false enc8 ((putV b cl x).2.1)) rfl rfl (le_of_eq (congrArg (fun z => pS 1 false enc8 z) (show q = ((putV b cl x).2.1) by first | (simp [putV, c1]; done) | (simp [putV, c1, hg]; done)))) ?_
        refine w_leC (n := 0) (j := 1) (y := pB ((putV b cl x).2.2)) rfl rfl (le_of_eq (congrArg (fun z : Bool => pB z) (show false = ((putV b cl x).2.2) by first | (simp [putV, c1]; done) | (simp [putV, c1, hg]; done)))) ?_
        refine w_ret ?_
        exact fin_names (nx1 := 1) (H1 := [(0, .obj [pS 1 false enc8 ((putV b cl x).2.1), pB ((putV b cl x).2.2)])]) [(0, 0)] (ret_tmp rfl ret_nil) rfl (by decide) ⟨⟨_, _, rfl, rfl, rfl, rfl⟩, trivial⟩ (by decide) rfl ⟨rfl, rfl, rfl⟩
       ·
        have c4_ := c4
        try simp only [sB] at c4
        refine w_skip ?_
        refine q_then ?_
        refine w_seq ?_
        refine W_drawn tabOk mixed hnt [[], [], [], [2], [2, 3], [2, 3, 4], [2, 3, 4, 5], [2, 3, 4, 5, 6], [2, 3, 4, 5, 6, 7], [], [9], [9, 10], [9, 10, 11], [], [13], [9, 10, 11, 12, 13, 14], [9, 10, 11, 12, 13, 14, 15], [1, 2, 3, 4, 5, 6, 7, 8, 9, 10, 11, 12, 13, 14, 15, 16], [1, 2, 3, 4, 5, 6, 7, 8, 9, 10, 11, 12, 13, 14, 15, 16, 17], [0, 1, 2, 3, 4, 5, 6, 7, 8, 9, 10, 11, 12, 13, 14, 15, 16, 17, 18], [0, 1, 2, 3, 4, 5, 6, 7, 8, 9, 10, 11, 12, 13, 14, 15, 16, 17, 18, 19]] (by kernel_rfl) ?_
        refine d_op ?_
        refine x_run0 [(5, PV.ref 1 0 none)] [] rfl rfl rfl rfl (s_move rfl ⟨rfl, rfl, rfl⟩) ?_
        refine d_op ?_
        refine x_run0 [(6, pI (getV q 0))] [] rfl rfl rfl rfl (s_move rfl ⟨rfl, rfl, rfl⟩) ?_
        refine d_op ?_
        refine x_run0 [(0, PV.ptr 0 0)] [] rfl rfl rfl rfl (s_move rfl ⟨rfl, rfl, rfl⟩) ?_
        refine d_op ?_
        refine x_run0 [(82, PV.ptr 0 0)] [2] rfl rfl rfl rfl (s_nilCheck rfl trivial ⟨rfl, rfl, rfl⟩) ?_
        refine d_op ?_
        refine x_run0 [(83, PV.ptr 0 0)] [2, 3] rfl rfl rfl rfl (s_fa_ptr tab_87 rfl rfl tab_27 (by decide) rfl ⟨rfl, rfl, rfl⟩) ?_
        refine d_op ?_
        refine x_run [(84, PV.ptr 0 0)] [2, 3, 4] [(0, .obj [pS 1 false enc8 q, pB false])] [] [(0, .obj [pS 1 false enc8 q, pB false])] [] [(0, .obj [pS 1 false enc8 q, pB false]), (1, oB true 3 eMsg os)] rfl rfl rfl rfl rfl rfl (s_load_ptr1 tab_27 rfl rfl rfl rfl rfl ⟨rfl, rfl, rfl⟩) rfl ⟨rfl, trivial⟩ rfl rfl ?_
        refine d_op ?_
        obtain ⟨e1, he1⟩ := get_of_lt q (i := 6) (by omega)
        refine x_run0 [(85, pS 1 false enc8 q)] [2, 3, 4, 5] rfl rfl rfl rfl (s_iaM (q := 6) (b := e1) (f := enc8) tab_27 rfl tab_5 rfl rfl (by omega) rfl he1 ⟨rfl, rfl, rfl⟩) ?_
        refine d_op ?_
        refine x_run0 [(86, PV.f (.ro (enc8 e1)))] [2, 3, 4, 5, 6] rfl rfl rfl rfl (s_load_ro1 tab_5 rfl rfl rfl rfl ⟨rfl, rfl, rfl⟩) ?_
        refine d_op ?_
        refine x_run0 [(87, p8 e1)] [2, 3, 4, 5, 6, 7] rfl rfl rfl rfl (s_cvN (a := UInt8.toNat e1) tab_5 tab_3 rfl rfl rfl (by omega) (by have := lt8 e1; omega) ⟨rfl, rfl, rfl⟩) ?_
        refine d_op ?_
        refine x_run0 [(0, PV.ptr 0 0)] [] rfl rfl rfl rfl (s_move rfl ⟨rfl, rfl, rfl⟩) ?_
        refine d_op ?_
        refine x_run0 [(89, PV.ptr 0 0)] [9] rfl rfl rfl rfl (s_nilCheck rfl trivial ⟨rfl, rfl, rfl⟩) ?_
        refine d_op ?_
        refine x_run0 [(90, PV.ptr 0 0)] [9, 10] rfl rfl rfl rfl (s_fa_ptr tab_87 rfl rfl tab_27 (by decide) rfl ⟨rfl, rfl, rfl⟩) ?_
        refine d_op ?_
        refine x_run [(91, PV.ptr 0 0)] [9, 10, 11] [(0, .obj [pS 1 false enc8 q, pB false])] [] [(0, .obj [pS 1 false enc8 q, pB false])] [] [(0, .obj [pS 1 false enc8 q, pB false]), (1, oB true 3 eMsg os)] rfl rfl rfl rfl rfl rfl (s_load_ptr1 tab_27 rfl rfl rfl rfl rfl ⟨rfl, rfl, rfl⟩) rfl ⟨rfl, trivial⟩ rfl rfl ?_
        refine d_op ?_
        refine x_run0 [(10, pI (getV q 4))] [] rfl rfl rfl rfl (s_move rfl ⟨rfl, rfl, rfl⟩) ?_
        refine d_op ?_
        refine x_run0 [(93, pI (getV q 4))] [13] rfl rfl rfl rfl (s_addi (r := 6 + (getV q 4)) rfl rfl rfl (by omega) ⟨rfl, rfl, rfl⟩) ?_
        refine d_op ?_
        refine x_run0 [(92, pS 1 false enc8 q), (94, pI (6 + (getV q 4)))] [9, 10, 11, 12, 13, 14] rfl rfl rfl rfl (s_cutM (a := 7) (b := Int.toNat (6 + (getV q 4))) (f := enc8) (l := q) tab_27 rfl tab_5 ⟨rfl, by decide⟩ rfl (bound_some rfl (by omega)) (bound_some rfl (by omega)) (by omega) ⟨rfl, rfl, rfl⟩) ?_
        refine d_op ?_
        refine x_run [(95, pS 1 false enc8 ((q.take (Int.toNat (6 + (getV q 4)))).drop 7))] [9, 10, 11, 12, 13, 14, 15] [] [] [(2, oB true 1 enc8 ((q.take (Int.toNat (6 + (getV q 4)))).drop 7))] [(2, oB true 1 enc8 ((q.take (Int.toNat (6 + (getV q 4)))).drop 7))] [(2, oB true 1 enc8 ((q.take (Int.toNat (6 + (getV q 4)))).drop 7)), (0, .obj [pS 1 false enc8 q, pB false]), (1, oB true 3 eMsg os)] rfl rfl rfl rfl rfl rfl (s_callX (r2 := PV.ref 2 0 none) (nx1 := 3) (H2 := []) (H3 := [(2, oB true 1 enc8 ((q.take (Int.toNat (6 + (getV q 4)))).drop 7))]) [] [] rfl rfl rfl (handed_of (by decide) trivial) rfl rfl rfl rfl rfl rfl (w_slices_Clone_byte_byte ((q.take (Int.toNat (6 + (getV q 4)))).drop 7) false (by first | omega | assumption | (simp; omega) | decide | (simp; done))) rfl (dist_of rfl) rfl rfl rfl rfl ⟨rfl, rfl, rfl⟩) rfl trivial rfl rfl ?_
        refine d_op ?_
        refine x_run0 [(81, pI (getV q 0)), (88, pN (UInt8.toNat e1)), (96, PV.ref 2 0 none)] [1, 2, 3, 4, 5, 6, 7, 8, 9, 10, 11, 12, 13, 14, 15, 16] rfl rfl rfl rfl (s_build tab_30 rfl rfl (b_cons rfl tab_3 rfl rfl rfl (Nat.le_of_ble_eq_true rfl) (b_cons rfl tab_3 rfl rfl rfl (Nat.le_of_ble_eq_true rfl) (b_cons rfl tab_27 rfl rfl rfl (Nat.le_of_ble_eq_true rfl) (b_nil ⟨rfl, rfl, rfl⟩))))) ?_
        refine d_op ?_
        refine x_run [(97, PV.agg [pI (getV q 0), pN (UInt8.toNat e1), PV.ref 2 0 none])] [1, 2, 3, 4, 5, 6, 7, 8, 9, 10, 11, 12, 13, 14, 15, 16, 17] [] [(2, oB true 1 enc8 ((q.take (Int.toNat (6 + (getV q 4)))).drop 7))] [(3, oB true 3 eMsg [(⟨getV q 0, ((UInt8.toNat e1 : Nat) : Int), ((q.take (Int.toNat (6 + (getV q 4)))).drop 7)⟩ : TMsg)]), (2, oB false 1 enc8 ((q.take (Int.toNat (6 + (getV q 4)))).drop 7))] [(3, oB true 3 eMsg [(⟨getV q 0, ((UInt8.toNat e1 : Nat) : Int), ((q.take (Int.toNat (6 + (getV q 4)))).drop 7)⟩ : TMsg)]), (2, oB false 1 enc8 ((q.take (Int.toNat (6 + (getV q 4)))).drop 7))] [(3, oB true 3 eMsg [(⟨getV q 0, ((UInt8.toNat e1 : Nat) : Int), ((q.take (Int.toNat (6 + (getV q 4)))).drop 7)⟩ : TMsg)]), (2, oB false 1 enc8 ((q.take (Int.toNat (6 + (getV q 4)))).drop 7)), (0, .obj [pS 1 false enc8 q, pB false]), (1, oB true 3 eMsg os)] rfl rfl rfl rfl rfl rfl (s_mkM (f := eMsg) [(⟨getV q 0, ((UInt8.toNat e1 : Nat) : Int), ((q.take (Int.toNat (6 + (getV q 4)))).drop 7)⟩ : TMsg)] tab_39 rfl tab_30 ⟨rfl, by decide⟩ (by decide) rfl rfl rfl rfl ⟨rfl, rfl, rfl⟩) rfl trivial rfl rfl ?_
        refine d_op ?_
        refine x_run [(80, PV.ref 1 0 none), (98, PV.ref 3 0 none)] [0, 1, 2, 3, 4, 5, 6, 7, 8, 9, 10, 11, 12, 13, 14, 15, 16, 17, 18] [(3, oB true 3 eMsg [(⟨getV q 0, ((UInt8.toNat e1 : Nat) : Int), ((q.take (Int.toNat (6 + (getV q 4)))).drop 7)⟩ : TMsg)])] [(1, oB true 3 eMsg os)] [(4, oB true 3 eMsg (os ++ [(⟨getV q 0, ((UInt8.toNat e1 : Nat) : Int), ((q.take (Int.toNat (6 + (getV q 4)))).drop 7)⟩ : TMsg)])), (3, oB true 3 eMsg [(⟨getV q 0, ((UInt8.toNat e1 : Nat) : Int), ((q.take (Int.toNat (6 + (getV q 4)))).drop 7)⟩ : TMsg)])] [(4, oB true 3 eMsg (os ++ [(⟨getV q 0, ((UInt8.toNat e1 : Nat) : Int), ((q.take (Int.toNat (6 + (getV q 4)))).drop 7)⟩ : TMsg)]))] [(4, oB true 3 eMsg (os ++ [(⟨getV q 0, ((UInt8.toNat e1 : Nat) : Int), ((q.take (Int.toNat (6 + (getV q 4)))).drop 7)⟩ : TMsg)])), (3, oB true 3 eMsg [(⟨getV q 0, ((UInt8.toNat e1 : Nat) : Int), ((q.take (Int.toNat (6 + (getV q 4)))).drop 7)⟩ : TMsg)]), (2, oB false 1 enc8 ((q.take (Int.toNat (6 + (getV q 4)))).drop 7)), (0, .obj [pS 1 false enc8 q, pB false])] rfl rfl rfl rfl rfl rfl (s_appR0 (f := eMsg) (l := os) (xs := [(⟨getV q 0, ((UInt8.toNat e1 : Nat) : Int), ((q.take (Int.toNat (6 + (getV q 4)))).drop 7)⟩ : TMsg)]) tab_39 rfl tab_30 ⟨rfl, by decide, by decide⟩ (srcM tab_39 rfl (hM_ref0 (f := eMsg) rfl rfl)) rfl rfl (by first | omega | (simp; omega)) ⟨rfl, rfl, rfl⟩) rfl ⟨rfl, trivial⟩ rfl rfl ?_
        refine d_op ?_
        refine x_run0 [(99, PV.ref 4 0 none)] [0, 1, 2, 3, 4, 5, 6, 7, 8, 9, 10, 11, 12, 13, 14, 15, 16, 17, 18, 19] rfl rfl rfl rfl (s_assign rfl ⟨rfl, rfl, rfl⟩) ?_
        refine d_end ⟨by kernel_rfl, ?_⟩
        refine q_then ?_
        refine w_R ?_
        refine qm hnt rfl rfl ?_
        refine qm hnt rfl rfl ?_
        refine qo hnt rfl (s_nilCheck rfl trivial ?_)
        refine qo hnt rfl (s_fa_ptr tab_87 rfl rfl tab_27 (by decide) rfl ?_)
        refine qo hnt rfl (s_load_ptr1 tab_27 rfl rfl rfl rfl rfl ?_)
        refine qm hnt rfl rfl ?_
        refine qo hnt rfl (s_addi (r := 6 + (getV q 4)) rfl rfl rfl (by omega) ?_)
        refine qo hnt rfl (s_cutM_lo (a := Int.toNat (6 + (getV q 4))) (f := enc8) (l := q) tab_27 rfl tab_5 ⟨rfl, by decide⟩ rfl (bound_some rfl (by omega)) (by omega) ?_)
        refine qo hnt rfl (s_callX (r2 := PV.ref 5 0 none) (nx1 := 6) (H2 := [(4, oB true 3 eMsg (os ++ [(⟨getV q 0, ((UInt8.toNat e1 : Nat) : Int), ((q.take (Int.toNat (6 + (getV q 4)))).drop 7)⟩ : TMsg)])), (3, oB true 3 eMsg [(⟨getV q 0, ((UInt8.toNat e1 : Nat) : Int), ((q.take (Int.toNat (6 + (getV q 4)))).drop 7)⟩ : TMsg)]), (2, oB false 1 enc8 ((q.take (Int.toNat (6 + (getV q 4)))).drop 7)), (0, .obj [pS 1 false enc8 q, pB false])]) (H3 := [(5, oB true 1 enc8 (q.drop (Int.toNat (6 + (getV q 4))))), (4, oB true 3 eMsg (os ++ [(⟨getV q 0, ((UInt8.toNat e1 : Nat) : Int), ((q.take (Int.toNat (6 + (getV q 4)))).drop 7)⟩ : TMsg)])), (3, oB true 3 eMsg [(⟨getV q 0, ((UInt8.toNat e1 : Nat) : Int), ((q.take (Int.toNat (6 + (getV q 4)))).drop 7)⟩ : TMsg)]), (2, oB false 1 enc8 ((q.take (Int.toNat (6 + (getV q 4)))).drop 7)), (0, .obj [pS 1 false enc8 q, pB false])]) [] [] rfl rfl rfl (handed_of (by decide) trivial) rfl rfl rfl rfl rfl rfl (w_slices_Clone_byte_byte (q.drop (Int.toNat (6 + (getV q 4)))) false (by first | omega | assumption | (simp; omega) | decide | (simp; done))) rfl (dist_of rfl) rfl rfl rfl rfl ?_)
        refine qo hnt rfl (s_nilCheck rfl trivial ?_)
        refine qo hnt rfl (s_fa_ptr tab_87 rfl rfl tab_27 (by decide) rfl ?_)
        refine qo hnt rfl (s_store_ptr tab_27 rfl rfl rfl rfl rfl (Nat.le_of_ble_eq_true rfl) ?_)
        refine r_frzC (n := 0) (j := 0) rfl rfl rfl rfl ?_
        refine r_end ?_
        refine q_block ?_
        refine q_then ?_
        refine ⟨((q.drop (Int.toNat (6 + (getV q 4))))), (os ++ [(⟨getV q 0, ((UInt8.toNat e1 : Nat) : Int), ((q.take (Int.toNat (6 + (getV q 4)))).drop 7)⟩ : TMsg)]), ?_, ?_, ⟨[(0, 0), (1, 4)], by rw [hk]; decide, ⟨⟨_, rfl, rfl, rfl⟩, ⟨_, rfl, rfl, rfl⟩, trivial⟩, ⟨⟨_, _, rfl, rfl, rfl, rfl⟩, ⟨_, _, rfl, rfl, rfl, rfl⟩, trivial⟩, by rw [hk]; decide⟩⟩
        ·
         refine ⟨?_, by rw [List.length_drop]; omega, by rw [List.length_drop, List.length_append, List.length_singleton]; omega⟩
         have hnx := mb_next (by omega) hok (by omega) he1 hg
         rw [Nat.zero_add] at hnx
         first | exact hnx | (rw [Nat.zero_add]; exact hnx)
        · rw [List.length_drop]; omega
     ·
      have g2' := g2
      try simp only [sB] at g2'
      refine rn hnt rfl rfl rfl g2 ?_
      refine qo hnt rfl (s_pick_t rfl g2 rfl ?_)
      refine r_end ?_
      refine q_then ?_
      refine w_if rfl (fun _ => ?_) (fun e => absurd e (by decide))
      refine w_seq ?_
      have hz := mb_bad (b := q) (by omega) (by unfold headBad; apply decide_eq_true; omega)
      rw [hz] at hg
      refine w_R ?_
      refine qm hnt rfl rfl ?_
      refine qm hnt rfl rfl ?_
      refine qo hnt rfl (s_nilCheck rfl trivial ?_)
      refine qo hnt rfl (s_fa_ptr tab_87 rfl rfl tab_27 (by decide) rfl ?_)
      refine qo hnt rfl (s_store_ptr tab_27 rfl rfl rfl rfl rfl (Nat.le_of_ble_eq_true rfl) ?_)
      refine qo hnt rfl (s_nilCheck rfl trivial ?_)
      refine qo hnt rfl (s_fa_ptr tab_87 rfl rfl tab_4 (by decide) rfl ?_)
      refine qo hnt rfl (s_store_ptr tab_4 rfl rfl rfl rfl rfl (Nat.le_of_ble_eq_true rfl) ?_)
      refine r_set [(5, PV.ref 1 0 none)] [(0, .obj [pNil, pB true]), (1, oB true 3 eMsg os)] 2 ⟨rfl, trivial⟩ rfl rfl ?_
      refine r_end ?_
      refine q_then ?_
      refine w_exit ?_
      refine q_then_exit ?_
      refine q_block_pass (by decide) ?_
      refine q_then_exit ?_
      refine q_block_exit ?_
      refine q_then ?_
      refine w_seq ?_
      refine w_R ?_
      refine qm hnt rfl rfl ?_
      refine qo hnt rfl (s_callX (r2 := pS 3 true eMsg os) (nx1 := 2) (H2 := [(1, oB false 3 eMsg os), (0, .obj [pNil, pB true])]) (H3 := [(1, oB false 3 eMsg os), (0, .obj [pNil, pB true])]) [] [] rfl rfl rfl (handed_of (by decide) trivial) rfl rfl rfl rfl rfl rfl (w_slices_Clip_mbap_Msg_mbap_Msg os false) rfl (dist_of rfl) rfl rfl rfl rfl ?_)
      refine qa hnt rfl rfl ?_
      refine r_set [(4, pS 3 true eMsg os)] [(1, oB false 3 eMsg os), (0, .obj [pNil, pB true])] 2 ⟨rfl, trivial⟩ rfl rfl ?_
      refine r_end ?_
      refine q_then ?_
      refine w_le (s := 4) (y := pS 3 true eMsg ((putV b cl x).1)) rfl (le_of_eq (congrArg (fun z => pS 3 true eMsg z) (show os = ((putV b cl x).1) by first | (simp [putV, c1]; done) | (simp [putV, c1, hg]; done)))) ?_
      refine w_leC (n := 0) (j := 0) (y := pS 1 false enc8 []) rfl rfl (le_nilS 1 false) ?_
      refine w_leC (n := 0) (j := 0) (y := pS 1 false enc8 ((putV b cl x).2.1)) rfl rfl (le_of_eq (congrArg (fun z => pS 1 false enc8 z) (show [] = ((putV b cl x).2.1) by first | (simp [putV, c1]; done) | (simp [putV, c1, hg]; done)))) ?_
      refine w_leC (n := 0) (j := 1) (y := pB ((putV b cl x).2.2)) rfl rfl (le_of_eq (congrArg (fun z : Bool => pB z) (show true = ((putV b cl x).2.2) by first | (simp [putV, c1]; done) | (simp [putV, c1, hg]; done)))) ?_
      refine w_ret ?_
      exact fin_names (nx1 := 1) (H1 := [(0, .obj [pS 1 false enc8 ((putV b cl x).2.1), pB ((putV b cl x).2.2)])]) [(0, 0)] (ret_tmp rfl ret_nil) rfl (by decide) ⟨⟨_, _, rfl, rfl, rfl, rfl⟩, trivial⟩ (by decide) rfl ⟨rfl, rfl, rfl⟩
    ·
     have g1' := g1
     try simp only [sB] at g1'
     refine rn hnt rfl rfl rfl g1 ?_
     refine qo hnt rfl (s_pick_t rfl g1 rfl ?_)
     refine qm hnt rfl rfl ?_
     refine rn hnt rfl rfl rfl rfl ?_
     refine rn hnt rfl rfl rfl rfl ?_
     refine qo hnt rfl (s_pick_t rfl rfl rfl ?_)
     refine r_end ?_
     refine q_then ?_
     refine w_if rfl (fun _ => ?_) (fun e => absurd e (by decide))
     refine w_seq ?_
     have hz := mb_bad (b := q) (by omega) (by unfold headBad; apply decide_eq_true; omega)
     rw [hz] at hg
     refine w_R ?_
     refine qm hnt rfl rfl ?_
     refine qm hnt rfl rfl ?_
     refine qo hnt rfl (s_nilCheck rfl trivial ?_)
     refine qo hnt rfl (s_fa_ptr tab_87 rfl rfl tab_27 (by decide) rfl ?_)
     refine qo hnt rfl (s_store_ptr tab_27 rfl rfl rfl rfl rfl (Nat.le_of_ble_eq_true rfl) ?_)
     refine qo hnt rfl (s_nilCheck rfl trivial ?_)
     refine qo hnt rfl (s_fa_ptr tab_87 rfl rfl tab_4 (by decide) rfl ?_)
     refine qo hnt rfl (s_store_ptr tab_4 rfl rfl rfl rfl rfl (Nat.le_of_ble_eq_true rfl) ?_)
     refine r_set [(5, PV.ref 1 0 none)] [(0, .obj [pNil, pB true]), (1, oB true 3 eMsg os)] 2 ⟨rfl, trivial⟩ rfl rfl ?_
     refine r_end ?_
     refine q_then ?_
     refine w_exit ?_
     refine q_then_exit ?_
     refine q_block_pass (by decide) ?_
     refine q_then_exit ?_
     refine q_block_exit ?_
     refine q_then ?_
     refine w_seq ?_
     refine w_R ?_
     refine qm hnt rfl rfl ?_
     refine qo hnt rfl (s_callX (r2 := pS 3 true eMsg os) (nx1 := 2) (H2 := [(1, oB false 3 eMsg os), (0, .obj [pNil, pB true])]) (H3 := [(1, oB false 3 eMsg os), (0, .obj [pNil, pB true])]) [] [] rfl rfl rfl (handed_of (by decide) trivial) rfl rfl rfl rfl rfl rfl (w_slices_Clip_mbap_Msg_mbap_Msg os false) rfl (dist_of rfl) rfl rfl rfl rfl ?_)
     refine qa hnt rfl rfl ?_
     refine r_set [(4, pS 3 true eMsg os)] [(1, oB false 3 eMsg os), (0, .obj [pNil, pB true])] 2 ⟨rfl, trivial⟩ rfl rfl ?_
     refine r_end ?_
     refine q_then ?_
     refine w_le (s := 4) (y := pS 3 true eMsg ((putV b cl x).1)) rfl (le_of_eq (congrArg (fun z => pS 3 true eMsg z) (show os = ((putV b cl x).1) by first | (simp [putV, c1]; done) | (simp [putV, c1, hg]; done)))) ?_
     refine w_leC (n := 0) (j := 0) (y := pS 1 false enc8 []) rfl rfl (le_nilS 1 false) ?_
     refine w_leC (n := 0) (j := 0) (y := pS 1 false enc8 ((putV b cl x).2.1)) rfl rfl (le_of_eq (congrArg (fun z => pS 1 false enc8 z) (show [] = ((putV b cl x).2.1) by first | (simp [putV, c1]; done) | (simp [putV, c1, hg]; done)))) ?_
     refine w_leC (n := 0) (j := 1) (y := pB ((putV b cl x).2.2)) rfl rfl (le_of_eq (congrArg (fun z : Bool => pB z) (show true = ((putV b cl x).2.2) by first | (simp [putV, c1]; done) | (simp [putV, c1, hg]; done)))) ?_
     refine w_ret ?_
     exact fin_names (nx1 := 1) (H1 := [(0, .obj [pS 1 false enc8 ((putV b cl x).2.1), pB ((putV b cl x).2.2)])]) [(0, 0)] (ret_tmp rfl ret_nil) rfl (by decide) ⟨⟨_, _, rfl, rfl, rfl, rfl⟩, trivial⟩ (by decide) rfl ⟨rfl, rfl, rfl⟩
   ·
    have c2_ := c2
    try simp only [sB] at c2
    have hz := mb_short (b := q) (by omega)
    rw [hz] at hg
    refine w_exit ?_
    refine q_then_exit ?_
    refine q_then_exit ?_
    refine q_block_exit ?_
    refine q_then ?_
    refine w_seq ?_
    refine w_R ?_
    refine qm hnt rfl rfl ?_
    refine qo hnt rfl (s_callX (r2 := pS 3 true eMsg os) (nx1 := 2) (H2 := [(1, oB false 3 eMsg os), (0, .obj [pS 1 false enc8 q, pB false])]) (H3 := [(1, oB false 3 eMsg os), (0, .obj [pS 1 false enc8 q, pB false])]) [] [] rfl rfl rfl (handed_of (by decide) trivial) rfl rfl rfl rfl rfl rfl (w_slices_Clip_mbap_Msg_mbap_Msg os false) rfl (dist_of rfl) rfl rfl rfl rfl ?_)
    refine qa hnt rfl rfl ?_
    refine r_set [(4, pS 3 true eMsg os)] [(1, oB false 3 eMsg os), (0, .obj [pS 1 false enc8 q, pB false])] 2 ⟨rfl, trivial⟩ rfl rfl ?_
    refine r_end ?_
    refine q_then ?_
    refine w_le (s := 4) (y := pS 3 true eMsg ((putV b cl x).1)) rfl (le_of_eq (congrArg (fun z => pS 3 true eMsg z) (show os = ((putV b cl x).1) by first | (simp [putV, c1]; done) | (simp [putV, c1, hg]; done)))) ?_
    refine w_leC (n := 0) (j := 0) (y := pS 1 false enc8 ((putV b cl x).2.1)) rfl rfl (le_of_eq (congrArg (fun z => pS 1 false enc8 z) (show q = ((putV b cl x).2.1) by first | (simp [putV, c1]; done) | (simp [putV, c1, hg]; done)))) ?_
    refine w_leC (n := 0) (j := 1) (y := pB ((putV b cl x).2.2)) rfl rfl (le_of_eq (congrArg (fun z : Bool => pB z) (show false = ((putV b cl x).2.2) by first | (simp [putV, c1]; done) | (simp [putV, c1, hg]; done)))) ?_
    refine w_ret ?_
    exact fin_names (nx1 := 1) (H1 := [(0, .obj [pS 1 false enc8 ((putV b cl x).2.1), pB ((putV b cl x).2.2)])]) [(0, 0)] (ret_tmp rfl ret_nil) rfl (by decide) ⟨⟨_, _, rfl, rfl, rfl, rfl⟩, trivial⟩ (by decide) rfl ⟨rfl, rfl, rfl⟩
theorem w_mbap_Stream_Put_e (b : List UInt8) (cl_b : Bool) (cl : Bool) (x : List UInt8) (cl_x : Bool) (hb : b.length + x.length ≤ 28147497671000) (hx : x = []) :
    T Try.prog 23 [PV.ptr 0 0, pS 1 cl_x enc8 x] 1 [(0, .obj [pS 1 cl_b enc8 b, pB cl])] (Ret (pS 3 true eMsg ((putV b cl x).1)) 1 [(0, .obj [pS 1 false enc8 ((putV b cl x).2.1), pB ((putV b cl x).2.2)])]) := by
 refine t_fun tabOk (n := 113) (rs := [.tmp 4]) Try.func23 rfl rfl rfl rfl (Nat.le_of_ble_eq_true rfl) ?_
 intro c hnt hk
 refine w_seq ?_
 refine w_R ?_
 refine qa hnt rfl rfl ?_
 refine r_end ?_
 refine q_then ?_
 refine w_seq ?_
 refine w_seq ?_
 refine w_R ?_
 refine qm hnt rfl rfl ?_
 refine qo hnt rfl (s_nilCheck rfl trivial ?_)
 refine qo hnt rfl (s_fa_ptr tab_87 rfl rfl tab_4 (by decide) rfl ?_)
 refine qo hnt rfl (s_load_ptr1 tab_4 rfl rfl rfl rfl rfl ?_)
 refine r_end ?_
 refine q_then ?_
 refine w_if rfl (fun c1 => ?_) (fun c1 => ?_)
 ·
  have c1_ := c1
  try simp only [sB] at c1
  refine w_seq ?_
  refine w_R ?_
  refine qa hnt rfl rfl ?_
  refine r_end ?_
  refine q_then ?_
  refine w_le (s := 4) (y := pS 3 true eMsg []) rfl (le_nilS 3 true) ?_
  refine w_le (s := 4) (y := pS 3 true eMsg ((putV b cl x).1)) rfl (le_of_eq (congrArg (fun z => pS 3 true eMsg z) (show [] = ((putV b cl x).1) by first | (simp [putV, c1]; done) | (simp [putV, c1, hg]; done)))) ?_
  refine w_leC (n := 0) (j := 0) (y := pS 1 false enc8 b) rfl rfl (le_loose) ?_
  refine w_leC (n := 0) (j := 0) (y := pS 1 false enc8 ((putV b cl x).2.1)) rfl rfl (le_of_eq (congrArg (fun z => pS 1 false enc8 z) (show b = ((putV b cl x).2.1) by first | (simp [putV, c1]; done) | (simp [putV, c1, hg]; done)))) ?_
  refine w_leC (n := 0) (j := 1) (y := pB ((putV b cl x).2.2)) rfl rfl (le_of_eq (congrArg (fun z : Bool => pB z) (show cl = ((putV b cl x).2.2) by first | (simp [putV, c1]; done) | (simp [putV, c1, hg]; done)))) ?_
  refine w_ret ?_
  refine q_then_ret ?_
  exact fin_names (nx1 := 1) (H1 := [(0, .obj [pS 1 false enc8 ((putV b cl x).2.1), pB ((putV b cl x).2.2)])]) [(0, 0)] (ret_tmp rfl ret_nil) rfl (by decide) ⟨⟨_, _, rfl, rfl, rfl, rfl⟩, trivial⟩ (by decide) rfl ⟨rfl, rfl, rfl⟩
 ·
  have c1_ := c1
  try simp only [sB] at c1
  refine w_skip ?_
  refine q_then ?_
  refine w_seq ?_
  refine w_R ?_
  refine qa hnt rfl rfl ?_
  refine r_end ?_
  refine q_then ?_
  refine w_seq ?_
  refine w_R ?_
  refine qm hnt rfl rfl ?_
  refine qm hnt rfl rfl ?_
  refine qo hnt rfl (s_nilCheck rfl trivial ?_)
  refine qo hnt rfl (s_fa_ptr tab_87 rfl rfl tab_27 (by decide) rfl ?_)
  refine qo hnt rfl (s_load_ptr1 tab_27 rfl rfl rfl rfl rfl ?_)
  refine qo hnt rfl (s_callF rfl rfl rfl (w_slices_Clip_byte_byte b cl_b) rfl ?_)
  refine qm hnt rfl rfl ?_
  refine qo hnt rfl (s_appE (f := enc8) (l := b) (xs := x) tab_27 rfl tab_5 ⟨rfl, by decide, by decide⟩ (srcM tab_27 rfl (hM_sl (f := enc8) rfl)) rfl (by exact hx) ?_)
  refine qo hnt rfl (s_nilCheck rfl trivial ?_)
  refine qo hnt rfl (s_fa_ptr tab_87 rfl rfl tab_27 (by decide) rfl ?_)
  refine qo hnt rfl (s_store_ptr tab_27 rfl rfl rfl rfl rfl (Nat.le_of_ble_eq_true rfl) ?_)
  refine r_set [(0, PV.ptr 0 0), (5, pNil)] [(0, .obj [pS 1 true enc8 b, pB cl])] 1 ⟨rfl, rfl, trivial⟩ rfl rfl ?_
  refine r_end ?_
  refine q_then ?_
  refine w_seq ?_
  refine w_block ?_
  refine w_adopt (s := 5) (sz := 3) rfl ?_
  refine w_leC (n := 0) (j := 0) (y := pS 1 false enc8 b) rfl rfl (le_loose) ?_
  refine w_leC (n := 0) (j := 1) (y := pB false) rfl rfl (le_of_eq (congrArg (fun z : Bool => pB z) (show cl = false by simp_all))) ?_
  refine loop2 (fun (q : List UInt8) (os : List TMsg) => mbGo (b ++ x) = (os ++ (mbGo q).1, (mbGo q).2) ∧ q.length ≤ 28147497671000 ∧ os.length * 8 + q.length ≤ 28147497671000) (fun (q : List UInt8) (os : List TMsg) => [(0, PV.ptr 0 0), (5, PV.ref 1 0 none)]) 2 (fun (q : List UInt8) (os : List TMsg) => [(0, .obj [pS 1 false enc8 q, pB false]), (1, oB true 3 eMsg os)]) (fun (q : List UInt8) (os : List TMsg) => q.length) (b) (([] : List TMsg)) ?_ ⟨[(0, 0), (1, 1)], by rw [hk]; decide, ⟨⟨_, rfl, rfl, rfl⟩, ⟨_, rfl, rfl, rfl⟩, trivial⟩, ⟨⟨_, _, rfl, rfl, rfl, rfl⟩, ⟨_, _, rfl, rfl, rfl, rfl⟩, trivial⟩, by rw [hk]; decide⟩ ?_
  · exact ⟨by simp [hx], by first | omega | (simp; omega), by first | (simp; omega) | (simp [hx]; omega)⟩
  ·
   intro q os hI
   obtain ⟨hg, hq, hol⟩ := hI
   refine w_seq ?_
   refine w_seq ?_
   refine w_R ?_
   refine qm hnt rfl rfl ?_
   refine qo hnt rfl (s_nilCheck rfl trivial ?_)
   refine qo hnt rfl (s_fa_ptr tab_87 rfl rfl tab_27 (by decide) rfl ?_)
   refine qo hnt rfl (s_load_ptr1 tab_27 rfl rfl rfl rfl rfl ?_)
   refine qo hnt rfl (s_lenM (l := q) tab_27 rfl (hM_sl (f := enc8) rfl) ?_)
   refine qo hnt rfl (s_geq rfl rfl ?_)
   refine r_end ?_
   refine q_then ?_
   refine w_if rfl (fun c2 => ?_) (fun c2 => ?_)
   ·
    have c2_ := c2
    try simp only [sB] at c2
    have hv := getV_head (q := q) (by omega)
    have hn4 := getN_lt q 4
    refine w_skip ?_
    refine q_then ?_
    refine w_block ?_
    refine w_seq ?_
    refine w_R ?_
    refine qm hnt rfl rfl ?_
    refine qo hnt rfl (s_nilCheck rfl trivial ?_)
    refine qo hnt rfl (s_fa_ptr tab_87 rfl rfl tab_27 (by decide) rfl ?_)
    refine qo hnt rfl (s_load_ptr1 tab_27 rfl rfl rfl rfl rfl ?_)
    refine qo hnt rfl (s_callF rfl rfl rfl (w_octet_Get q false 0 (by first | omega | assumption | (simp; omega) | decide | (simp; done)) (by first | omega | assumption | (simp; omega) | decide | (simp; done))) rfl ?_)
    refine qm hnt rfl rfl ?_
    refine qo hnt rfl (s_extract rfl rfl ?_)
    refine qo hnt rfl (s_extract rfl rfl ?_)
    refine qa hnt rfl rfl ?_
    refine qa hnt rfl rfl ?_
    refine r_end ?_
    refine q_then ?_
    refine w_seq ?_
    refine w_R ?_
    refine qm hnt rfl rfl ?_
    refine qo hnt rfl (s_nilCheck rfl trivial ?_)
    refine qo hnt rfl (s_fa_ptr tab_87 rfl rfl tab_27 (by decide) rfl ?_)
    refine qo hnt rfl (s_load_ptr1 tab_27 rfl rfl rfl rfl rfl ?_)
    refine qo hnt rfl (s_callF rfl rfl rfl (w_octet_Get q false 2 (by first | omega | assumption | (simp; omega) | decide | (simp; done)) (by first | omega | assumption | (simp; omega) | decide | (simp; done))) rfl ?_)
    refine qm hnt rfl rfl ?_
    refine qo hnt rfl (s_extract rfl rfl ?_)
    refine qo hnt rfl (s_extract rfl rfl ?_)
    refine qa hnt rfl rfl ?_
    refine qa hnt rfl rfl ?_
    refine r_end ?_
    refine q_then ?_
    refine w_seq ?_
    refine w_R ?_
    refine qm hnt rfl rfl ?_
    refine qo hnt rfl (s_nilCheck rfl trivial ?_)
    refine qo hnt rfl (s_fa_ptr tab_87 rfl rfl tab_27 (by decide) rfl ?_)
    refine qo hnt rfl (s_load_ptr1 tab_27 rfl rfl rfl rfl rfl ?_)
    refine qo hnt rfl (s_callF rfl rfl rfl (w_octet_Get q false 4 (by first | omega | assumption | (simp; omega) | decide | (simp; done)) (by first | omega | assumption | (simp; omega) | decide | (simp; done))) rfl ?_)
    refine qm hnt rfl rfl ?_
    refine qo hnt rfl (s_extract rfl rfl ?_)
    refine qo hnt rfl (s_extract rfl rfl ?_)
    refine qa hnt rfl rfl ?_
    refine qa hnt rfl rfl ?_
    refine r_set [(0, PV.ptr 0 0), (5, PV.ref 1 0 none), (6, pI (getV q 0)), (8, pI (getV q 2)), (10, pI (getV q 4))] [(0, .obj [pS 1 false enc8 q, pB false]), (1, oB true 3 eMsg os)] 2 ⟨rfl, rfl, rfl, rfl, rfl, trivial⟩ rfl rfl ?_
    refine r_end ?_
    refine q_then ?_
    refine w_seq ?_
    refine w_seq ?_
    refine w_R ?_
    refine qm hnt rfl rfl ?_
    refine qo hnt rfl (s_neq rfl rfl ?_)
    refine qm hnt rfl rfl ?_
    refine r_if tabOk hnt rfl rfl rfl (fun g1 => ?_) (fun g1 => ?_)
    ·
     have g1' := g1
     try simp only [sB] at g1'
     refine qm hnt rfl rfl ?_
     refine ry hnt rfl rfl rfl g1 ?_
     refine qo hnt rfl (s_lss rfl rfl ?_)
     refine qo hnt rfl (s_pick_f rfl g1 rfl ?_)
     refine qm hnt rfl rfl ?_
     refine r_if tabOk hnt rfl rfl rfl (fun g2 => ?_) (fun g2 => ?_)
     ·
      have g2' := g2
      try simp only [sB] at g2'
      refine qm hnt rfl rfl ?_
      refine ry hnt rfl rfl rfl g2 ?_
      refine qo hnt rfl (s_gtr rfl rfl ?_)
      refine qo hnt rfl (s_pick_f rfl g2 rfl ?_)
      refine r_end ?_
      refine q_then ?_
      refine w_if rfl (fun c3 => ?_) (fun c3 => ?_)
      ·
       have c3_ := c3
       try simp only [sB] at c3
       refine w_seq ?_
       have hz := mb_bad (b := q) (by omega) (by unfold headBad; apply decide_eq_true; omega)
       rw [hz] at hg
       refine w_R ?_
       refine qm hnt rfl rfl ?_
       refine qm hnt rfl rfl ?_
       refine qo hnt rfl (s_nilCheck rfl trivial ?_)
       refine qo hnt rfl (s_fa_ptr tab_87 rfl rfl tab_27 (by decide) rfl ?_)
       refine qo hnt rfl (s_store_ptr tab_27 rfl rfl rfl rfl rfl (Nat.le_of_ble_eq_true rfl) ?_)
       refine qo hnt rfl (s_nilCheck rfl trivial ?_)
       refine qo hnt rfl (s_fa_ptr tab_87 rfl rfl tab_4 (by decide) rfl ?_)
       refine qo hnt rfl (s_store_ptr tab_4 rfl rfl rfl rfl rfl (Nat.le_of_ble_eq_true rfl) ?_)
       refine r_set [(5, PV.ref 1 0 none)] [(0, .obj [pNil, pB true]), (1, oB true 3 eMsg os)] 2 ⟨rfl, trivial⟩ rfl rfl ?_
       refine r_end ?_
       refine q_then ?_
       refine w_exit ?_
       refine q_then_exit ?_
       refine q_block_pass (by decide) ?_
       refine q_then_exit ?_
       refine q_block_exit ?_
       refine q_then ?_
       refine w_seq ?_
       refine w_R ?_
       refine qm hnt rfl rfl ?_
       refine qo hnt rfl (s_callX (r2 := pS 3 true eMsg os) (nx1 := 2) (H2 := [(1, oB false 3 eMsg os), (0, .obj [pNil, pB true])]) (H3 := [(1, oB false 3 eMsg os), (0, .obj [pNil, pB true])]) [] [] rfl rfl rfl (handed_of (by decide) trivial) rfl rfl rfl rfl rfl rfl (w_slices_Clip_mbap_Msg_mbap_Msg os false) rfl (dist_of rfl) rfl rfl rfl rfl ?_)
       refine qa hnt rfl rfl ?_
       refine r_set [(4, pS 3 true eMsg os)] [(1, oB false 3 eMsg os), (0, .obj [pNil, pB true])] 2 ⟨rfl, trivial⟩ rfl rfl ?_
       refine r_end ?_
       refine q_then ?_
       refine w_le (s := 4) (y := pS 3 true eMsg ((putV b cl x).1)) rfl (le_of_eq (congrArg (fun z => pS 3 true eMsg z) (show os = ((putV b cl x).1) by first | (simp [putV, c1]; done) | (simp [putV, c1, hg]; done)))) ?_
       refine w_leC (n := 0) (j := 0) (y := pS 1 false enc8 []) rfl rfl (le_nilS 1 false) ?_
       refine w_leC (n := 0) (j := 0) (y := pS 1 false enc8 ((putV b cl x).2.1)) rfl rfl (le_of_eq (congrArg (fun z => pS 1 false enc8 z) (show [] = ((putV b cl x).2.1) by first | (simp [putV, c1]; done) | (simp [putV, c1, hg]; done)))) ?_
       refine w_leC (n := 0) (j := 1) (y := pB ((putV b cl x).2.2)) rfl rfl (le_of_eq (congrArg (fun z : Bool => pB z) (show true = ((putV b cl x).2.2) by first | (simp [putV, c1]; done) | (simp [putV, c1, hg]; done)))) ?_
       refine w_ret ?_
       exact fin_names (nx1 := 1) (H1 := [(0, .obj [pS 1 false enc8 ((putV b cl x).2.1), pB ((putV b cl x).2.2)])]) [(0, 0)] (ret_tmp rfl ret_nil) rfl (by decide) ⟨⟨_, _, rfl, rfl, rfl, rfl⟩, trivial⟩ (by decide) rfl ⟨rfl, rfl, rfl⟩
      ·
       have c3_ := c3
       try simp only [sB] at c3
       refine w_skip ?_
       refine q_then ?_
       refine w_seq ?_
       refine w_seq ?_
       have hok : headBad q = false := by unfold headBad; apply decide_eq_false; omega
       refine w_R ?_
       refine qm hnt rfl rfl ?_
       refine qo hnt rfl (s_nilCheck rfl trivial ?_)
       refine qo hnt rfl (s_fa_ptr tab_87 rfl rfl tab_27 (by decide) rfl ?_)
       refine qo hnt rfl (s_load_ptr1 tab_27 rfl rfl rfl rfl rfl ?_)
       refine qo hnt rfl (s_lenM (l := q) tab_27 rfl (hM_sl (f := enc8) rfl) ?_)
       refine qo hnt rfl (s_subi (r := ((q.length : Nat) : Int) - 6) rfl rfl rfl (by omega) ?_)
       refine qm hnt rfl rfl ?_
       refine qo hnt rfl (s_lss rfl rfl ?_)
       refine r_end ?_
       refine q_then ?_
       refine w_if rfl (fun c4 => ?_) (fun c4 => ?_)
       ·
        have c4_ := c4
        try simp only [sB] at c4
        have hz := mb_waits (b := q) (by omega) hok (by omega)
        rw [hz] at hg
        refine w_exit ?_
        refine q_then_exit ?_
        refine q_block_pass (by decide) ?_
        refine q_then_exit ?_
        refine q_block_exit ?_
        refine q_then ?_
        refine w_seq ?_
        refine w_R ?_
        refine qm hnt rfl rfl ?_
        refine qo hnt rfl (s_callX (r2 := pS 3 true eMsg os) (nx1 := 2) (H2 := [(1, oB false 3 eMsg os), (0, .obj [pS 1 false enc8 q, pB false])]) (H3 := [(1, oB false 3 eMsg os), (0, .obj [pS 1 false enc8 q, pB false])]) [] [] rfl rfl rfl (handed_of (by decide) trivial) rfl rfl rfl rfl rfl rfl (w_slices_Clip_mbap_Msg_mbap_Msg os false) rfl (dist_of rfl) rfl rfl rfl rfl ?_)
        refine qa hnt rfl rfl ?_
        refine r_set [(4, pS 3 true eMsg os)] [(1, oB false 3 eMsg os), (0, .obj [pS 1 false enc8 q, pB false])] 2 ⟨rfl, trivial⟩ rfl rfl ?_
        refine r_end ?_
        refine q_then ?_
        refine w_le (s := 4) (y := pS 3 true eMsg ((putV b cl x).1)) rfl (le_of_eq (congrArg (fun z => pS 3 true eMsg z) (show os = ((putV b cl x).1) by first | (simp [putV, c1]; done) | (simp [putV, c1, hg]; done)))) ?_
        refine w_leC (n := 0) (j := 0) (y := pS 1 false enc8 ((putV b cl x).2.1)) rfl rfl (le_of_eq (congrArg (fun z => pS 1 false enc8 z) (show q = ((putV b cl x).2.1) by first | (simp [putV, c1]; done) | (simp [putV, c1, hg]; done)))) ?_
        refine w_leC (n := 0) (j := 1) (y := pB ((putV b cl x).2.2)) rfl rfl (le_of_eq (congrArg (fun z : Bool => pB z) (show false = ((putV b cl x).2.2) by first | (simp [putV, c1]; done) | (simp [putV, c1, hg]; done)))) ?_
        refine w_ret ?_
        exact fin_names (nx1 := 1) (H1 := [(0, .obj [pS 1 false enc8 ((putV b cl x).2.1), pB ((putV b cl x).2.2)])]) [(0, 0)] (ret_tmp rfl ret_nil) rfl (by decide) ⟨⟨_, _, rfl, rfl, rfl, rfl⟩, trivial⟩ (by decide) rfl ⟨rfl, rfl, rfl⟩
       ·
        have c4_ := c4
        try simp only [sB] at c4
        refine w_skip ?_
        refine q_then ?_
        refine w_seq ?_
        refine W_drawn tabOk mixed hnt [[], [], [], [2], [2, 3], [2, 3, 4], [2, 3, 4, 5], [2, 3, 4, 5, 6], [2, 3, 4, 5, 6, 7], [], [9], [9, 10], [9, 10, 11], [], [13], [9, 10, 11, 12, 13, 14], [9, 10, 11, 12, 13, 14, 15], [1, 2, 3, 4, 5, 6, 7, 8, 9, 10, 11, 12, 13, 14, 15, 16], [1, 2, 3, 4, 5, 6, 7, 8, 9, 10, 11, 12, 13, 14, 15, 16, 17], [0, 1, 2, 3, 4, 5, 6, 7, 8, 9, 10, 11, 12, 13, 14, 15, 16, 17, 18], [0, 1, 2, 3, 4, 5, 6, 7, 8, 9, 10, 11, 12, 13, 14, 15, 16, 17, 18, 19]] (by kernel_rfl) ?_
        refine d_op ?_
        refine x_run0 [(5, PV.ref 1 0 none)] [] rfl rfl rfl rfl (s_move rfl ⟨rfl, rfl, rfl⟩) ?_
        refine d_op ?_
        refine x_run0 [(6, pI (getV q 0))] [] rfl rfl rfl rfl (s_move rfl ⟨rfl, rfl, rfl⟩) ?_
        refine d_op ?_
        refine x_run0 [(0, PV.ptr 0 0)] [] rfl rfl rfl rfl (s_move rfl ⟨rfl, rfl, rfl⟩) ?_
        refine d_op ?_
        refine x_run0 [(82, PV.ptr 0 0)] [2] rfl rfl rfl rfl (s_nilCheck rfl trivial ⟨rfl, rfl, rfl⟩) ?_
        refine d_op ?_
        refine x_run0 [(83, PV.ptr 0 0)] [2, 3] rfl rfl rfl rfl (s_fa_ptr tab_87 rfl rfl tab_27 (by decide) rfl ⟨rfl, rfl, rfl⟩) ?_
        refine d_op ?_
        refine x_run [(84, PV.ptr 0 0)] [2, 3, 4] [(0, .obj [pS 1 false enc8 q, pB false])] [] [(0, .obj [pS 1 false enc8 q, pB false])] [] [(0, .obj [pS 1 false enc8 q, pB false]), (1, oB true 3 eMsg os)] rfl rfl rfl rfl rfl rfl (s_load_ptr1 tab_27 rfl rfl rfl rfl rfl ⟨rfl, rfl, rfl⟩) rfl ⟨rfl, trivial⟩ rfl rfl ?_
        refine d_op ?_
        obtain ⟨e1, he1⟩ := get_of_lt q (i := 6) (by omega)
        refine x_run0 [(85, pS 1 false enc8 q)] [2, 3, 4, 5] rfl rfl rfl rfl (s_iaM (q := 6) (b := e1) (f := enc8) tab_27 rfl tab_5 rfl rfl (by omega) rfl he1 ⟨rfl, rfl, rfl⟩) ?_
        refine d_op ?_
        refine x_run0 [(86, PV.f (.ro (enc8 e1)))] [2, 3, 4, 5, 6] rfl rfl rfl rfl (s_load_ro1 tab_5 rfl rfl rfl rfl ⟨rfl, rfl, rfl⟩) ?_
        refine d_op ?_
        refine x_run0 [(87, p8 e1)] [2, 3, 4, 5, 6, 7] rfl rfl rfl rfl (s_cvN (a := UInt8.toNat e1) tab_5 tab_3 rfl rfl rfl (by omega) (by have := lt8 e1; omega) ⟨rfl, rfl, rfl⟩) ?_
        refine d_op ?_
        refine x_run0 [(0, PV.ptr 0 0)] [] rfl rfl rfl rfl (s_move rfl ⟨rfl, rfl, rfl⟩) ?_
        refine d_op ?_
        refine x_run0 [(89, PV.ptr 0 0)] [9] rfl rfl rfl rfl (s_nilCheck rfl trivial ⟨rfl, rfl, rfl⟩) ?_
        refine d_op ?_
        refine x_run0 [(90, PV.ptr 0 0)] [9, 10] rfl rfl rfl rfl (s_fa_ptr tab_87 rfl rfl tab_27 (by decide) rfl ⟨rfl, rfl, rfl⟩) ?_
        refine d_op ?_
        refine x_run [(91, PV.ptr 0 0)] [9, 10, 11] [(0, .obj [pS 1 false enc8 q, pB false])] [] [(0, .obj [pS 1 false enc8 q, pB false])] [] [(0, .obj [pS 1 false enc8 q, pB false]), (1, oB true 3 eMsg os)] rfl rfl rfl rfl rfl rfl (s_load_ptr1 tab_27 rfl rfl rfl rfl rfl ⟨rfl, rfl, rfl⟩) rfl ⟨rfl, trivial⟩ rfl rfl ?_
        refine d_op ?_
        refine x_run0 [(10, pI (getV q 4))] [] rfl rfl rfl rfl (s_move rfl ⟨rfl, rfl, rfl⟩) ?_
        refine d_op ?_
        refine x_run0 [(93, pI (getV q 4))] [13] rfl rfl rfl rfl (s_addi (r := 6 + (getV q 4)) rfl rfl rfl (by omega) ⟨rfl, rfl, rfl⟩) ?_
        refine d_op ?_
        refine x_run0 [(92, pS 1 false enc8 q), (94, pI (6 + (getV q 4)))] [9, 10, 11, 12, 13, 14] rfl rfl rfl rfl (s_cutM (a := 7) (b := Int.toNat (6 + (getV q 4))) (f := enc8) (l := q) tab_27 rfl tab_5 ⟨rfl, by decide⟩ rfl (bound_some rfl (by omega)) (bound_some rfl (by omega)) (by omega) ⟨rfl, rfl, rfl⟩) ?_
        refine d_op ?_
        refine x_run [(95, pS 1 false enc8 ((q.take (Int.toNat (6 + (getV q 4)))).drop 7))] [9, 10, 11, 12, 13, 14, 15] [] [] [(2, oB true 1 enc8 ((q.take (Int.toNat (6 + (getV q 4)))).drop 7))] [(2, oB true 1 enc8 ((q.take (Int.toNat (6 + (getV q 4)))).drop 7))] [(2, oB true 1 enc8 ((q.take (Int.toNat (6 + (getV q 4)))).drop 7)), (0, .obj [pS 1 false enc8 q, pB false]), (1, oB true 3 eMsg os)] rfl rfl rfl rfl rfl rfl (s_callX (r2 := PV.ref 2 0 none) (nx1 := 3) (H2 := []) (H3 := [(2, oB true 1 enc8 ((q.take (Int.toNat (6 + (getV q 4)))).drop 7))]) [] [] rfl rfl rfl (handed_of (by decide) trivial) rfl rfl rfl rfl rfl rfl (w_slices_Clone_byte_byte ((q.take (Int.toNat (6 + (getV q 4)))).drop 7) false (by first | omega | assumption | (simp; omega) | decide | (simp; done))) rfl (dist_of rfl) rfl rfl rfl rfl ⟨rfl, rfl, rfl⟩) rfl trivial rfl rfl ?_
        refine d_op ?_
        refine x_run0 [(81, pI (getV q 0)), (88, pN (UInt8.toNat e1)), (96, PV.ref 2 0 none)] [1, 2, 3, 4, 5, 6, 7, 8, 9, 10, 11, 12, 13, 14, 15, 16] rfl rfl rfl rfl (s_build tab_30 rfl rfl (b_cons rfl tab_3 rfl rfl rfl (Nat.le_of_ble_eq_true rfl) (b_cons rfl tab_3 rfl rfl rfl (Nat.le_of_ble_eq_true rfl) (b_cons rfl tab_27 rfl rfl rfl (Nat.le_of_ble_eq_true rfl) (b_nil ⟨rfl, rfl, rfl⟩))))) ?_
        refine d_op ?_
        refine x_run [(97, PV.agg [pI (getV q 0), pN (UInt8.toNat e1), PV.ref 2 0 none])] [1, 2, 3, 4, 5, 6, 7, 8, 9, 10, 11, 12, 13, 14, 15, 16, 17] [] [(2, oB true 1 enc8 ((q.take (Int.toNat (6 + (getV q 4)))).drop 7))] [(3, oB true 3 eMsg [(⟨getV q 0, ((UInt8.toNat e1 : Nat) : Int), ((q.take (Int.toNat (6 + (getV q 4)))).drop 7)⟩ : TMsg)]), (2, oB false 1 enc8 ((q.take (Int.toNat (6 + (getV q 4)))).drop 7))] [(3, oB true 3 eMsg [(⟨getV q 0, ((UInt8.toNat e1 : Nat) : Int), ((q.take (Int.toNat (6 + (getV q 4)))).drop 7)⟩ : TMsg)]), (2, oB false 1 enc8 ((q.take (Int.toNat (6 + (getV q 4)))).drop 7))] [(3, oB true 3 eMsg [(⟨getV q 0, ((UInt8.toNat e1 : Nat) : Int), ((q.take (Int.toNat (6 + (getV q 4)))).drop 7)⟩ : TMsg)]), (2, oB false 1 enc8 ((q.take (Int.toNat (6 + (getV q 4)))).drop 7)), (0, .obj [pS 1 false enc8 q, pB false]), (1, oB true 3 eMsg os)] rfl rfl rfl rfl rfl rfl (s_mkM (f := eMsg) [(⟨getV q 0, ((UInt8.toNat e1 : Nat) : Int), ((q.take (Int.toNat (6 + (getV q 4)))).drop 7)⟩ : TMsg)] tab_39 rfl tab_30 ⟨rfl, by decide⟩ (by decide) rfl rfl rfl rfl ⟨rfl, rfl, rfl⟩) rfl trivial rfl rfl ?_
        refine d_op ?_
        refine x_run [(80, PV.ref 1 0 none), (98, PV.ref 3 0 none)] [0, 1, 2, 3, 4, 5, 6, 7, 8, 9, 10, 11, 12, 13, 14, 15, 16, 17, 18] [(3, oB true 3 eMsg [(⟨getV q 0, ((UInt8.toNat e1 : Nat) : Int), ((q.take (Int.toNat (6 + (getV q 4)))).drop 7)⟩ : TMsg)])] [(1, oB true 3 eMsg os)] [(4, oB true 3 eMsg (os ++ [(⟨getV q 0, ((UInt8.toNat e1 : Nat) : Int), ((q.take (Int.toNat (6 + (getV q 4)))).drop 7)⟩ : TMsg)])), (3, oB true 3 eMsg [(⟨getV q 0, ((UInt8.toNat e1 : Nat) : Int), ((q.take (Int.toNat (6 + (getV q 4)))).drop 7)⟩ : TMsg)])] [(4, oB true 3 eMsg (os ++ [(⟨getV q 0, ((UInt8.toNat e1 : Nat) : Int), ((q.take (Int.toNat (6 + (getV q 4)))).drop 7)⟩ : TMsg)]))] [(4, oB true 3 eMsg (os ++ [(⟨getV q 0, ((UInt8.toNat e1 : Nat) : Int), ((q.take (Int.toNat (6 + (getV q 4)))).drop 7)⟩ : TMsg)])), (3, oB true 3 eMsg [(⟨getV q 0, ((UInt8.toNat e1 : Nat) : Int), ((q.take (Int.toNat (6 + (getV q 4)))).drop 7)⟩ : TMsg)]), (2, oB false 1 enc8 ((q.take (Int.toNat (6 + (getV q 4)))).drop 7)), (0, .obj [pS 1 false enc8 q, pB false])] rfl rfl rfl rfl rfl rfl (s_appR0 (f := eMsg) (l := os) (xs := [(⟨getV q 0, ((UInt8.toNat e1 : Nat) : Int), ((q.take (Int.toNat (6 + (getV q 4)))).drop 7)⟩ : TMsg)]) tab_39 rfl tab_30 ⟨rfl, by decide, by decide⟩ (srcM tab_39 rfl (hM_ref0 (f := eMsg) rfl rfl)) rfl rfl (by first | omega | (simp; omega)) ⟨rfl, rfl, rfl⟩) rfl ⟨rfl, trivial⟩ rfl rfl ?_
        refine d_op ?_
        refine x_run0 [(99, PV.ref 4 0 none)] [0, 1, 2, 3, 4, 5, 6, 7, 8, 9, 10, 11, 12, 13, 14, 15, 16, 17, 18, 19] rfl rfl rfl rfl (s_assign rfl ⟨rfl, rfl, rfl⟩) ?_
        refine d_end ⟨by kernel_rfl, ?_⟩
        refine q_then ?_
        refine w_R ?_
        refine qm hnt rfl rfl ?_
        refine qm hnt rfl rfl ?_
        refine qo hnt rfl (s_nilCheck rfl trivial ?_)
        refine qo hnt rfl (s_fa_ptr tab_87 rfl rfl tab_27 (by decide) rfl ?_)
        refine qo hnt rfl (s_load_ptr1 tab_27 rfl rfl rfl rfl rfl ?_)
        refine qm hnt rfl rfl ?_
        refine qo hnt rfl (s_addi (r := 6 + (getV q 4)) rfl rfl rfl (by omega) ?_)
        refine qo hnt rfl (s_cutM_lo (a := Int.toNat (6 + (getV q 4))) (f := enc8) (l := q) tab_27 rfl tab_5 ⟨rfl, by decide⟩ rfl (bound_some rfl (by omega)) (by omega) ?_)
        refine qo hnt rfl (s_callX (r2 := PV.ref 5 0 none) (nx1 := 6) (H2 := [(4, oB true 3 eMsg (os ++ [(⟨getV q 0, ((UInt8.toNat e1 : Nat) : Int), ((q.take (Int.toNat (6 + (getV q 4)))).drop 7)⟩ : TMsg)])), (3, oB true 3 eMsg [(⟨getV q 0, ((UInt8.toNat e1 : Nat) : Int), ((q.take (Int.toNat (6 + (getV q 4)))).drop 7)⟩ : TMsg)]), (2, oB false 1 enc8 ((q.take (Int.toNat (6 + (getV q 4)))).drop 7)), (0, .obj [pS 1 false enc8 q, pB false])]) (H3 := [(5, oB true 1 enc8 (q.drop (Int.toNat (6 + (getV q 4))))), (4, oB true 3 eMsg (os ++ [(⟨getV q 0, ((UInt8.toNat e1 : Nat) : Int), ((q.take (Int.toNat (6 + (getV q 4)))).drop 7)⟩ : TMsg)])), (3, oB true 3 eMsg [(⟨getV q 0, ((UInt8.toNat e1 : Nat) : Int), ((q.take (Int.toNat (6 + (getV q 4)))).drop 7)⟩ : TMsg)]), (2, oB false 1 enc8 ((q.take (Int.toNat (6 + (getV q 4)))).drop 7)), (0, .obj [pS 1 false enc8 q, pB false])]) [] [] rfl rfl rfl (handed_of (by decide) trivial) rfl rfl rfl rfl rfl rfl (w_slices_Clone_byte_byte (q.drop (Int.toNat (6 + (getV q 4)))) false (by first | omega | assumption | (simp; omega) | decide | (simp; done))) rfl (dist_of rfl) rfl rfl rfl rfl ?_)
        refine qo hnt rfl (s_nilCheck rfl trivial ?_)
        refine qo hnt rfl (s_fa_ptr tab_87 rfl rfl tab_27 (by decide) rfl ?_)
        refine qo hnt rfl (s_store_ptr tab_27 rfl rfl rfl rfl rfl (Nat.le_of_ble_eq_true rfl) ?_)
        refine r_frzC (n := 0) (j := 0) rfl rfl rfl rfl ?_
        refine r_end ?_
        refine q_block ?_
        refine q_then ?_
        refine ⟨((q.drop (Int.toNat (6 + (getV q 4))))), (os ++ [(⟨getV q 0, ((UInt8.toNat e1 : Nat) : Int), ((q.take (Int.toNat (6 + (getV q 4)))).drop 7)⟩ : TMsg)]), ?_, ?_, ⟨[(0, 0), (1, 4)], by rw [hk]; decide, ⟨⟨_, rfl, rfl, rfl⟩, ⟨_, rfl, rfl, rfl⟩, trivial⟩, ⟨⟨_, _, rfl, rfl, rfl, rfl⟩, ⟨_, _, rfl, rfl, rfl, rfl⟩, trivial⟩, by rw [hk]; decide⟩⟩
        ·
         refine ⟨?_, by rw [List.length_drop]; omega, by rw [List.length_drop, List.length_append, List.length_singleton]; omega⟩
         have hnx := mb_next (by omega) hok (by omega) he1 hg
         rw [Nat.zero_add] at hnx
         first | exact hnx | (rw [Nat.zero_add]; exact hnx)
        · rw [List.length_drop]; omega
     ·
      have g2' := g2
      try simp only [sB] at g2'
      refine rn hnt rfl rfl rfl g2 ?_
      refine qo hnt rfl (s_pick_t rfl g2 rfl ?_)
      refine r_end ?_
      refine q_then ?_
      refine w_if rfl (fun _ => ?_) (fun e => absurd e (by decide))
      refine w_seq ?_
      have hz := mb_bad (b := q) (by omega) (by unfold headBad; apply decide_eq_true; omega)
      rw [hz] at hg
      refine w_R ?_
      refine qm hnt rfl rfl ?_
      refine qm hnt rfl rfl ?_
      refine qo hnt rfl (s_nilCheck rfl trivial ?_)
      refine qo hnt rfl (s_fa_ptr tab_87 rfl rfl tab_27 (by decide) rfl ?_)
      refine qo hnt rfl (s_store_ptr tab_27 rfl rfl rfl rfl rfl (Nat.le_of_ble_eq_true rfl) ?_)
      refine qo hnt rfl (s_nilCheck rfl trivial ?_)
      refine qo hnt rfl (s_fa_ptr tab_87 rfl rfl tab_4 (by decide) rfl ?_)
      refine qo hnt rfl (s_store_ptr tab_4 rfl rfl rfl rfl rfl (Nat.le_of_ble_eq_true rfl) ?_)
      refine r_set [(5, PV.ref 1 0 none)] [(0, .obj [pNil, pB true]), (1, oB true 3 eMsg os)] 2 ⟨rfl, trivial⟩ rfl rfl ?_
      refine r_end ?_
      refine q_then ?_
      refine w_exit ?_
      refine q_then_exit ?_
      refine q_block_pass (by decide) ?_
      refine q_then_exit ?_
      refine q_block_exit ?_
      refine q_then ?_
      refine w_seq ?_
      refine w_R ?_
      refine qm hnt rfl rfl ?_
      refine qo hnt rfl (s_callX (r2 := pS 3 true eMsg os) (nx1 := 2) (H2 := [(1, oB false 3 eMsg os), (0, .obj [pNil, pB true])]) (H3 := [(1, oB false 3 eMsg os), (0, .obj [pNil, pB true])]) [] [] rfl rfl rfl (handed_of (by decide) trivial) rfl rfl rfl rfl rfl rfl (w_slices_Clip_mbap_Msg_mbap_Msg os false) rfl (dist_of rfl) rfl rfl rfl rfl ?_)
      refine qa hnt rfl rfl ?_
      refine r_set [(4, pS 3 true eMsg os)] [(1, oB false 3 eMsg os), (0, .obj [pNil, pB true])] 2 ⟨rfl, trivial⟩ rfl rfl ?_
      refine r_end ?_
      refine q_then ?_
      refine w_le (s := 4) (y := pS 3 true eMsg ((putV b cl x).1)) rfl (le_of_eq (congrArg (fun z => pS 3 true eMsg z) (show os = ((putV b cl x).1) by first | (simp [putV, c1]; done) | (simp [putV, c1, hg]; done)))) ?_
      refine w_leC (n := 0) (j := 0) (y := pS 1 false enc8 []) rfl rfl (le_nilS 1 false) ?_
      refine w_leC (n := 0) (j := 0) (y := pS 1 false enc8 ((putV b cl x).2.1)) rfl rfl (le_of_eq (congrArg (fun z => pS 1 false enc8 z) (show [] = ((putV b cl x).2.1) by first | (simp [putV, c1]; done) | (simp [putV, c1, hg]; done)))) ?_
      refine w_leC (n := 0) (j := 1) (y := pB ((putV b cl x).2.2)) rfl rfl (le_of_eq (congrArg (fun z : Bool => pB z) (show true = ((putV b cl x).2.2) by first | (simp [putV, c1]; done) | (simp [putV, c1, hg]; done)))) ?_
      refine w_ret ?_
      exact fin_names (nx1 := 1) (H1 := [(0, .obj [pS 1 false enc8 ((putV b cl x).2.1), pB ((putV b cl x).2.2)])]) [(0, 0)] (ret_tmp rfl ret_nil) rfl (by decide) ⟨⟨_, _, rfl, rfl, rfl, rfl⟩, trivial⟩ (by decide) rfl ⟨rfl, rfl, rfl⟩
    ·
     have g1' := g1
     try simp only [sB] at g1'
     refine rn hnt rfl rfl rfl g1 ?_
     refine qo hnt rfl (s_pick_t rfl g1 rfl ?_)
     refine qm hnt rfl rfl ?_
     refine rn hnt rfl rfl rfl rfl ?_
     refine rn hnt rfl rfl rfl rfl ?_
     refine qo hnt rfl (s_pick_t rfl rfl rfl ?_)
     refine r_end ?_
     refine q_then ?_
     refine w_if rfl (fun _ => ?_) (fun e => absurd e (by decide))
     refine w_seq ?_
     have hz := mb_bad (b := q) (by omega) (by unfold headBad; apply decide_eq_true; omega)
     rw [hz] at hg
     refine w_R ?_
     refine qm hnt rfl rfl ?_
     refine qm hnt rfl rfl ?_
     refine qo hnt rfl (s_nilCheck rfl trivial ?_)
     refine qo hnt rfl (s_fa_ptr tab_87 rfl rfl tab_27 (by decide) rfl ?_)
     refine qo hnt rfl (s_store_ptr tab_27 rfl rfl rfl rfl rfl (Nat.le_of_ble_eq_true rfl) ?_)
     refine qo hnt rfl (s_nilCheck rfl trivial ?_)
     refine qo hnt rfl (s_fa_ptr tab_87 rfl rfl tab_4 (by decide) rfl ?_)
     refine qo hnt rfl (s_store_ptr tab_4 rfl rfl rfl rfl rfl (Nat.le_of_ble_eq_true rfl) ?_)
     refine r_set [(5, PV.ref 1 0 none)] [(0, .obj [pNil, pB true]), (1, oB true 3 eMsg os)] 2 ⟨rfl, trivial⟩ rfl rfl ?_
     refine r_end ?_
     refine q_then ?_
     refine w_exit ?_
     refine q_then_exit ?_
     refine q_block_pass (by decide) ?_
     refine q_then_exit ?_
     refine q_block_exit ?_
     refine q_then ?_
     refine w_seq ?_
     refine w_R ?_
     refine qm hnt rfl rfl ?_
     refine qo hnt rfl (s_callX (r2 := pS 3 true eMsg os) (nx1 := 2) (H2 := [(1, oB false 3 eMsg os), (0, .obj [pNil, pB true])]) (H3 := [(1, oB false 3 eMsg os), (0, .obj [pNil, pB true])]) [] [] rfl rfl rfl (handed_of (by decide) trivial) rfl rfl rfl rfl rfl rfl (w_slices_Clip_mbap_Msg_mbap_Msg os false) rfl (dist_of rfl) rfl rfl rfl rfl ?_)
     refine qa hnt rfl rfl ?_
     refine r_set [(4, pS 3 true eMsg os)] [(1, oB false 3 eMsg os), (0, .obj [pNil, pB true])] 2 ⟨rfl, trivial⟩ rfl rfl ?_
     refine r_end ?_
     refine q_then ?_
     refine w_le (s := 4) (y := pS 3 true eMsg ((putV b cl x).1)) rfl (le_of_eq (congrArg (fun z => pS 3 true eMsg z) (show os = ((putV b cl x).1) by first | (simp [putV, c1]; done) | (simp [putV, c1, hg]; done)))) ?_
     refine w_leC (n := 0) (j := 0) (y := pS 1 false enc8 []) rfl rfl (le_nilS 1 false) ?_
     refine w_leC (n := 0) (j := 0) (y := pS 1 false enc8 ((putV b cl x).2.1)) rfl rfl (le_of_eq (congrArg (fun z => pS 1 false enc8 z) (show [] = ((putV b cl x).2.1) by first | (simp [putV, c1]; done) | (simp [putV, c1, hg]; done)))) ?_
     refine w_leC (n := 0) (j := 1) (y := pB ((putV b cl x).2.2)) rfl rfl (le_of_eq (congrArg (fun z : Bool => pB z) (show true = ((putV b cl x).2.2) by first | (simp [putV, c1]; done) | (simp [putV, c1, hg]; done)))) ?_
     refine w_ret ?_
     exact fin_names (nx1 := 1) (H1 := [(0, .obj [pS 1 false enc8 ((putV b cl x).2.1), pB ((putV b cl x).2.2)])]) [(0, 0)] (ret_tmp rfl ret_nil) rfl (by decide) ⟨⟨_, _, rfl, rfl, rfl, rfl⟩, trivial⟩ (by decide) rfl ⟨rfl, rfl, rfl⟩
   ·
    have c2_ := c2
    try simp only [sB] at c2
    have hz := mb_short (b := q) (by omega)
    rw [hz] at hg
    refine w_exit ?_
    refine q_then_exit ?_
    refine q_then_exit ?_
    refine q_block_exit ?_
    refine q_then ?_
    refine w_seq ?_
    refine w_R ?_
    refine qm hnt rfl rfl ?_
    refine qo hnt rfl (s_callX (r2 := pS 3 true eMsg os) (nx1 := 2) (H2 := [(1, oB false 3 eMsg os), (0, .obj [pS 1 false enc8 q, pB false])]) (H3 := [(1, oB false 3 eMsg os), (0, .obj [pS 1 false enc8 q, pB false])]) [] [] rfl rfl rfl (handed_of (by decide) trivial) rfl rfl rfl rfl rfl rfl (w_slices_Clip_mbap_Msg_mbap_Msg os false) rfl (dist_of rfl) rfl rfl rfl rfl ?_)
    refine qa hnt rfl rfl ?_
    refine r_set [(4, pS 3 true eMsg os)] [(1, oB false 3 eMsg os), (0, .obj [pS 1 false enc8 q, pB false])] 2 ⟨rfl, trivial⟩ rfl rfl ?_
    refine r_end ?_
    refine q_then ?_
    refine w_le (s := 4) (y := pS 3 true eMsg ((putV b cl x).1)) rfl (le_of_eq (congrArg (fun z => pS 3 true eMsg z) (show os = ((putV b cl x).1) by first | (simp [putV, c1]; done) | (simp [putV, c1, hg]; done)))) ?_
    refine w_leC (n := 0) (j := 0) (y := pS 1 false enc8 ((putV b cl x).2.1)) rfl rfl (le_of_eq (congrArg (fun z => pS 1 false enc8 z) (show q = ((putV b cl x).2.1) by first | (simp [putV, c1]; done) | (simp [putV, c1, hg]; done)))) ?_
    refine w_leC (n := 0) (j := 1) (y := pB ((putV b cl x).2.2)) rfl rfl (le_of_eq (congrArg (fun z : Bool => pB z) (show false = ((putV b cl x).2.2) by first | (simp [putV, c1]; done) | (simp [putV, c1, hg]; done)))) ?_
    refine w_ret ?_
    exact fin_names (nx1 := 1) (H1 := [(0, .obj [pS 1 false enc8 ((putV b cl x).2.1), pB ((putV b cl x).2.2)])]) [(0, 0)] (ret_tmp rfl ret_nil) rfl (by decide) ⟨⟨_, _, rfl, rfl, rfl, rfl⟩, trivial⟩ (by decide) rfl ⟨rfl, rfl, rfl⟩
theorem w_mbap_Stream_Put (b : List UInt8) (cl_b : Bool) (cl : Bool) (x : List UInt8) (cl_x : Bool) (hb : b.length + x.length ≤ 28147497671000) :
    T Try.prog 23 [PV.ptr 0 0, pS 1 cl_x enc8 x] 1 [(0, .obj [pS 1 cl_b enc8 b, pB cl])] (Ret (pS 3 true eMsg ((putV b cl x).1)) 1 [(0, .obj [pS 1 false enc8 ((putV b cl x).2.1), pB ((putV b cl x).2.2)])]) := by
  by_cases hz : x = []
  · exact w_mbap_Stream_Put_e b cl_b cl x cl_x hb hz
  · exact w_mbap_Stream_Put_n b cl_b cl x cl_x hb hz
end Go.Proofs.Ytfbmlnajnlekbaa
set_option linter.unusedVariables false
set_option linter.unusedSimpArgs false
set_option maxRecDepth 10000
set_option maxHeartbeats 1000000
namespace Go.Proofs.Ytfbmlnajnlekbaa
open Go Go.Proofs.Ytfbmlnajnlekbaa.Pv
theorem w_burgagelaw6_known   :
    T Try.prog 20 [] 0 [] (Ret (pB true) 0 []) := by
 refine t_fun tabOk (n := 118) (rs := [.tmp 0]) Try.func20 rfl rfl rfl rfl (Nat.le_of_ble_eq_true rfl) ?_
 intro c hnt hk
 refine w_seq ?_
 refine w_R ?_
 refine qa hnt rfl rfl ?_
 refine r_end ?_
 refine q_then ?_
 refine w_seq ?_
 refine w_R ?_
 refine qo hnt rfl (s_callX (r2 := PV.ptr 0 0) (nx1 := 1) (H2 := []) (H3 := [(0, .obj [pS 1 false enc8 ([] : List UInt8), pB false])]) [] [] rfl rfl rfl (handed_of (by decide) trivial) rfl rfl rfl rfl rfl rfl (w_mbap_New) rfl (dist_of rfl) rfl rfl rfl rfl ?_)
 refine qa hnt rfl rfl ?_
 refine r_set [(1, PV.ptr 0 0)] [(0, .obj [pS 1 false enc8 ([] : List UInt8), pB false])] 1 ⟨rfl, trivial⟩ rfl rfl ?_
 refine r_end ?_
 refine q_then ?_
 refine w_seq ?_
 refine w_seq ?_
 refine w_R ?_
 refine qm hnt rfl rfl ?_
 refine qo hnt rfl (s_ptrnil tab_37 rfl rfl trivial ?_)
 refine r_end ?_
 refine q_then ?_
 refine w_if rfl (fun e => absurd e (by decide)) (fun _ => ?_)
 refine w_skip ?_
 refine q_then ?_
 refine w_seq ?_
 refine w_R ?_
 refine qo hnt rfl (s_mkM (f := enc8) ([3, 0] : List UInt8) tab_27 rfl tab_5 ⟨rfl, by decide⟩ (by decide) rfl rfl rfl rfl ?_)
 refine qo hnt rfl (s_build tab_30 rfl rfl (b_cons rfl tab_3 rfl rfl rfl (Nat.le_of_ble_eq_true rfl) (b_cons rfl tab_3 rfl rfl rfl (Nat.le_of_ble_eq_true rfl) (b_cons rfl tab_27 rfl rfl rfl (Nat.le_of_ble_eq_true rfl) (b_nil ?_)))))
 refine qo hnt rfl (s_callX (r2 := pS 1 true enc8 (bytesM (⟨65538, 17, ([3, 0] : List UInt8)⟩ : TMsg))) (nx1 := 2) (H2 := [(1, oB false 1 enc8 ([3, 0] : List UInt8)), (0, .obj [pS 1 false enc8 ([] : List UInt8), pB false])]) (H3 := [(1, oB false 1 enc8 ([3, 0] : List UInt8)), (0, .obj [pS 1 false enc8 ([] : List UInt8), pB false])]) [] [] rfl rfl rfl (handed_of (by decide) trivial) rfl rfl rfl rfl rfl rfl (w_mbap_Bytes (⟨65538, 17, ([3, 0] : List UInt8)⟩ : TMsg) (by first | omega | assumption | (simp; omega) | decide | (simp; done))) rfl (dist_of rfl) rfl rfl rfl rfl ?_)
 refine qa hnt rfl rfl ?_
 refine r_set [(1, PV.ptr 0 0), (2, pS 1 true enc8 (bytesM (⟨65538, 17, ([3, 0] : List UInt8)⟩ : TMsg)))] [(1, oB false 1 enc8 ([3, 0] : List UInt8)), (0, .obj [pS 1 false enc8 ([] : List UInt8), pB false])] 2 ⟨rfl, rfl, trivial⟩ rfl rfl ?_
 refine r_end ?_
 refine q_then ?_
 refine w_seq ?_
 refine w_eq (s := 2) (y := pS 1 true enc8 kB) rfl (congrArg (fun z => pS 1 true enc8 z) (show (bytesM (⟨65538, 17, ([3, 0] : List UInt8)⟩ : TMsg)) = kB by exact kb)) ?_
 refine w_R ?_
 refine qm hnt rfl rfl ?_
 refine qm hnt rfl rfl ?_
 refine qm hnt rfl rfl ?_
 refine qo hnt rfl (s_lenM (l := kB) tab_27 rfl (hM_sl (f := enc8) rfl) ?_)
 refine qo hnt rfl (s_minN (a := kB.length) (b := 5) rfl (by omega) (by omega) ?_)
 refine qo hnt rfl (s_cutM_hi (b := min kB.length 5) (f := enc8) (l := kB) tab_27 rfl tab_5 ⟨rfl, by decide⟩ rfl (bound_some rfl (by omega)) (by omega) ?_)
 refine qo hnt rfl (s_callX (r2 := pS 3 true eMsg ((putV ([] : List UInt8) false (kB.take (min kB.length 5))).1)) (nx1 := 2) (H2 := [(1, oB false 1 enc8 ([3, 0] : List UInt8)), (0, .obj [pS 1 false enc8 ([] : List UInt8), pB false])]) (H3 := [(0, .obj [pS 1 false enc8 ((putV ([] : List UInt8) false (kB.take (min kB.length 5))).2.1), pB ((putV ([] : List UInt8) false (kB.take (min kB.length 5))).2.2)]), (1, oB false 1 enc8 ([3, 0] : List UInt8))]) [0] [.obj [pS 1 false enc8 ([] : List UInt8), pB false]] rfl rfl rfl (handed_of (by decide) ⟨rfl, trivial⟩) rfl rfl rfl rfl rfl rfl (w_mbap_Stream_Put ([] : List UInt8) false false (kB.take (min kB.length 5)) false (by first | omega | assumption | (simp; omega) | decide | (simp; done))) rfl (dist_of rfl) rfl rfl rfl rfl ?_)
 refine qa hnt rfl rfl ?_
 refine r_set [(1, PV.ptr 0 0), (2, pS 1 true enc8 kB), (3, pS 3 true eMsg ((putV ([] : List UInt8) false (kB.take (min kB.length 5))).1))] [(0, .obj [pS 1 false enc8 ((putV ([] : List UInt8) false (kB.take (min kB.length 5))).2.1), pB ((putV ([] : List UInt8) false (kB.take (min kB.length 5))).2.2)]), (1, oB false 1 enc8 ([3, 0] : List UInt8))] 2 ⟨rfl, rfl, rfl, trivial⟩ rfl rfl ?_
 refine r_end ?_
 refine q_then ?_
 refine w_seq ?_
 refine w_eq (s := 3) (y := pS 3 true eMsg ([] : List TMsg)) rfl (congrArg (fun z => pS 3 true eMsg z) (show ((putV ([] : List UInt8) false (kB.take (min kB.length 5))).1) = ([] : List TMsg) by rw [kp1])) ?_
 refine w_leC (n := 0) (j := 0) (y := pS 1 false enc8 ([0, 2, 0, 0, 0] : List UInt8)) rfl rfl (le_of_eq (congrArg (fun z => pS 1 false enc8 z) (show ((putV ([] : List UInt8) false (kB.take (min kB.length 5))).2.1) = ([0, 2, 0, 0, 0] : List UInt8) by rw [kp1]))) ?_
 refine w_leC (n := 0) (j := 1) (y := pB false) rfl rfl (le_of_eq (congrArg (fun z : Bool => pB z) (show ((putV ([] : List UInt8) false (kB.take (min kB.length 5))).2.2) = false by rw [kp1]))) ?_
 refine w_R ?_
 refine qm hnt rfl rfl ?_
 refine qm hnt rfl rfl ?_
 refine qm hnt rfl rfl ?_
 refine qo hnt rfl (s_lenM (l := kB) tab_27 rfl (hM_sl (f := enc8) rfl) ?_)
 refine qo hnt rfl (s_minN (a := kB.length) (b := 5) rfl (by omega) (by omega) ?_)
 refine qo hnt rfl (s_cutM_lo (a := min kB.length 5) (f := enc8) (l := kB) tab_27 rfl tab_5 ⟨rfl, by decide⟩ rfl (bound_some rfl (by omega)) (by omega) ?_)
 refine qo hnt rfl (s_callX (r2 := pS 3 true eMsg ((putV ([0, 2, 0, 0, 0] : List UInt8) false (kB.drop (min kB.length 5))).1)) (nx1 := 2) (H2 := [(0, .obj [pS 1 false enc8 ([0, 2, 0, 0, 0] : List UInt8), pB false]), (1, oB false 1 enc8 ([3, 0] : List UInt8))]) (H3 := [(0, .obj [pS 1 false enc8 ((putV ([0, 2, 0, 0, 0] : List UInt8) false (kB.drop (min kB.length 5))).2.1), pB ((putV ([0, 2, 0, 0, 0] : List UInt8) false (kB.drop (min kB.length 5))).2.2)]), (1, oB false 1 enc8 ([3, 0] : List UInt8))]) [0] [.obj [pS 1 false enc8 ([0, 2, 0, 0, 0] : List UInt8), pB false]] rfl rfl rfl (handed_of (by decide) ⟨rfl, trivial⟩) rfl rfl rfl rfl rfl rfl (w_mbap_Stream_Put ([0, 2, 0, 0, 0] : List UInt8) false false (kB.drop (min kB.length 5)) true (by first | omega | assumption | (simp; omega) | decide | (simp; done))) rfl (dist_of rfl) rfl rfl rfl rfl ?_)
 refine qa hnt rfl rfl ?_
 refine r_set [(1, PV.ptr 0 0), (2, pS 1 true enc8 kB), (3, pS 3 true eMsg ([] : List TMsg)), (4, pS 3 true eMsg ((putV ([0, 2, 0, 0, 0] : List UInt8) false (kB.drop (min kB.length 5))).1))] [(0, .obj [pS 1 false enc8 ((putV ([0, 2, 0, 0, 0] : List UInt8) false (kB.drop (min kB.length 5))).2.1), pB ((putV ([0, 2, 0, 0, 0] : List UInt8) false (kB.drop (min kB.length 5))).2.2)]), (1, oB false 1 enc8 ([3, 0] : List UInt8))] 2 ⟨rfl, rfl, rfl, rfl, trivial⟩ rfl rfl ?_
 refine r_end ?_
 refine q_then ?_
 refine w_seq ?_
 refine w_eq (s := 4) (y := pS 3 true eMsg kY) rfl (congrArg (fun z => pS 3 true eMsg z) (show ((putV ([0, 2, 0, 0, 0] : List UInt8) false (kB.drop (min kB.length 5))).1) = kY by rw [kp2])) ?_
 refine w_leC (n := 0) (j := 0) (y := pS 1 false enc8 ([] : List UInt8)) rfl rfl (le_of_eq (congrArg (fun z => pS 1 false enc8 z) (show ((putV ([0, 2, 0, 0, 0] : List UInt8) false (kB.drop (min kB.length 5))).2.1) = ([] : List UInt8) by rw [kp2]))) ?_
 refine w_leC (n := 0) (j := 1) (y := pB false) rfl rfl (le_of_eq (congrArg (fun z : Bool => pB z) (show ((putV ([0, 2, 0, 0, 0] : List UInt8) false (kB.drop (min kB.length 5))).2.2) = false by rw [kp2]))) ?_
 refine w_R ?_
 refine qm hnt rfl rfl ?_
 refine qo hnt rfl (s_mkM (f := enc8) ([0, 0, 0, 1, 0, 2] : List UInt8) tab_27 rfl tab_5 ⟨rfl, by decide⟩ (by decide) rfl rfl rfl rfl ?_)
 refine qo hnt rfl (s_callX (r2 := pS 3 true eMsg ((putV ([] : List UInt8) false ([0, 0, 0, 1, 0, 2] : List UInt8)).1)) (nx1 := 3) (H2 := [(2, oB false 1 enc8 ([0, 0, 0, 1, 0, 2] : List UInt8)), (0, .obj [pS 1 false enc8 ([] : List UInt8), pB false]), (1, oB false 1 enc8 ([3, 0] : List UInt8))]) (H3 := [(0, .obj [pS 1 false enc8 ((putV ([] : List UInt8) false ([0, 0, 0, 1, 0, 2] : List UInt8)).2.1), pB ((putV ([] : List UInt8) false ([0, 0, 0, 1, 0, 2] : List UInt8)).2.2)]), (2, oB false 1 enc8 ([0, 0, 0, 1, 0, 2] : List UInt8)), (1, oB false 1 enc8 ([3, 0] : List UInt8))]) [0] [.obj [pS 1 false enc8 ([] : List UInt8), pB false]] rfl rfl rfl (handed_of (by decide) ⟨rfl, trivial⟩) rfl rfl rfl rfl rfl rfl (w_mbap_Stream_Put ([] : List UInt8) false false ([0, 0, 0, 1, 0, 2] : List UInt8) false (by first | omega | assumption | (simp; omega) | decide | (simp; done))) rfl (dist_of rfl) rfl rfl rfl rfl ?_)
 refine qa hnt rfl rfl ?_
 refine r_set [(1, PV.ptr 0 0), (2, pS 1 true enc8 kB), (3, pS 3 true eMsg ([] : List TMsg)), (4, pS 3 true eMsg kY), (5, pS 3 true eMsg ((putV ([] : List UInt8) false ([0, 0, 0, 1, 0, 2] : List UInt8)).1))] [(0, .obj [pS 1 false enc8 ((putV ([] : List UInt8) false ([0, 0, 0, 1, 0, 2] : List UInt8)).2.1), pB ((putV ([] : List UInt8) false ([0, 0, 0, 1, 0, 2] : List UInt8)).2.2)]), (2, oB false 1 enc8 ([0, 0, 0, 1, 0, 2] : List UInt8)), (1, oB false 1 enc8 ([3, 0] : List UInt8))] 3 ⟨rfl, rfl, rfl, rfl, rfl, trivial⟩ rfl rfl ?_
 refine r_end ?_
 refine q_then ?_
 refine w_seq ?_
 refine w_eq (s := 5) (y := pS 3 true eMsg ([] : List TMsg)) rfl (congrArg (fun z => pS 3 true eMsg z) (show ((putV ([] : List UInt8) false ([0, 0, 0, 1, 0, 2] : List UInt8)).1) = ([] : List TMsg) by rw [kp3])) ?_
 refine w_leC (n := 0) (j := 0) (y := pS 1 false enc8 ([] : List UInt8)) rfl rfl (le_of_eq (congrArg (fun z => pS 1 false enc8 z) (show ((putV ([] : List UInt8) false ([0, 0, 0, 1, 0, 2] : List UInt8)).2.1) = ([] : List UInt8) by rw [kp3]))) ?_
 refine w_leC (n := 0) (j := 1) (y := pB true) rfl rfl (le_of_eq (congrArg (fun z : Bool => pB z) (show ((putV ([] : List UInt8) false ([0, 0, 0, 1, 0, 2] : List UInt8)).2.2) = true by rw [kp3]))) ?_
 refine w_R ?_
 refine qm hnt rfl rfl ?_
 refine qo hnt rfl (s_callX (r2 := pB true) (nx1 := 3) (H2 := [(0, .obj [pS 1 false enc8 ([] : List UInt8), pB true]), (2, oB false 1 enc8 ([0, 0, 0, 1, 0, 2] : List UInt8)), (1, oB false 1 enc8 ([3, 0] : List UInt8))]) (H3 := [(0, .obj [pS 1 false enc8 ([] : List UInt8), pB true]), (2, oB false 1 enc8 ([0, 0, 0, 1, 0, 2] : List UInt8)), (1, oB false 1 enc8 ([3, 0] : List UInt8))]) [0] [.obj [pS 1 false enc8 ([] : List UInt8), pB true]] rfl rfl rfl (handed_of (by decide) ⟨rfl, trivial⟩) rfl rfl rfl rfl rfl rfl (w_mbap_Stream_Closed ([] : List UInt8) false true) rfl (dist_of rfl) rfl rfl rfl rfl ?_)
 refine qa hnt rfl rfl ?_
 refine r_set [(1, PV.ptr 0 0), (2, pS 1 true enc8 kB), (3, pS 3 true eMsg ([] : List TMsg)), (4, pS 3 true eMsg kY), (5, pS 3 true eMsg ([] : List TMsg)), (6, pB true)] [(0, .obj [pS 1 false enc8 ([] : List UInt8), pB true]), (2, oB false 1 enc8 ([0, 0, 0, 1, 0, 2] : List UInt8)), (1, oB false 1 enc8 ([3, 0] : List UInt8))] 3 ⟨rfl, rfl, rfl, rfl, rfl, rfl, trivial⟩ rfl rfl ?_
 refine r_end ?_
 refine q_then ?_
 refine w_seq ?_
 refine w_R ?_
 refine qm hnt rfl rfl ?_
 refine qm hnt rfl rfl ?_
 refine qo hnt rfl (s_callX (r2 := pS 3 true eMsg ((putV ([] : List UInt8) true kB).1)) (nx1 := 3) (H2 := [(0, .obj [pS 1 false enc8 ([] : List UInt8), pB true]), (2, oB false 1 enc8 ([0, 0, 0, 1, 0, 2] : List UInt8)), (1, oB false 1 enc8 ([3, 0] : List UInt8))]) (H3 := [(0, .obj [pS 1 false enc8 ((putV ([] : List UInt8) true kB).2.1), pB ((putV ([] : List UInt8) true kB).2.2)]), (2, oB false 1 enc8 ([0, 0, 0, 1, 0, 2] : List UInt8)), (1, oB false 1 enc8 ([3, 0] : List UInt8))]) [0] [.obj [pS 1 false enc8 ([] : List UInt8), pB true]] rfl rfl rfl (handed_of (by decide) ⟨rfl, trivial⟩) rfl rfl rfl rfl rfl rfl (w_mbap_Stream_Put ([] : List UInt8) false true kB true (by first | omega | assumption | (simp; omega) | decide | (simp; done))) rfl (dist_of rfl) rfl rfl rfl rfl ?_)
 refine qa hnt rfl rfl ?_
 refine r_set [(1, PV.ptr 0 0), (2, pS 1 true enc8 kB), (3, pS 3 true eMsg ([] : List TMsg)), (4, pS 3 true eMsg kY), (5, pS 3 true eMsg ([] : List TMsg)), (6, pB true), (7, pS 3 true eMsg ((putV ([] : List UInt8) true kB).1))] [(0, .obj [pS 1 false enc8 ((putV ([] : List UInt8) true kB).2.1), pB ((putV ([] : List UInt8) true kB).2.2)]), (2, oB false 1 enc8 ([0, 0, 0, 1, 0, 2] : List UInt8)), (1, oB false 1 enc8 ([3, 0] : List UInt8))] 3 ⟨rfl, rfl, rfl, rfl, rfl, rfl, rfl, trivial⟩ rfl rfl ?_
 refine r_end ?_
 refine q_then ?_
 refine w_seq ?_
 refine w_eq (s := 7) (y := pS 3 true eMsg ([] : List TMsg)) rfl (congrArg (fun z => pS 3 true eMsg z) (show ((putV ([] : List UInt8) true kB).1) = ([] : List TMsg) by rw [kp4])) ?_
 refine w_leC (n := 0) (j := 0) (y := pS 1 false enc8 ([] : List UInt8)) rfl rfl (le_of_eq (congrArg (fun z => pS 1 false enc8 z) (show ((putV ([] : List UInt8) true kB).2.1) = ([] : List UInt8) by rw [kp4]))) ?_
 refine w_leC (n := 0) (j := 1) (y := pB true) rfl rfl (le_of_eq (congrArg (fun z : Bool => pB z) (show ((putV ([] : List UInt8) true kB).2.2) = true by rw [kp4]))) ?_
 refine w_R ?_
 refine qm hnt rfl rfl ?_
 refine qo hnt rfl (s_callX (r2 := PV.tup []) (nx1 := 3) (H2 := [(0, .obj [pS 1 false enc8 ([] : List UInt8), pB true]), (2, oB false 1 enc8 ([0, 0, 0, 1, 0, 2] : List UInt8)), (1, oB false 1 enc8 ([3, 0] : List UInt8))]) (H3 := [(0, .obj [pS 1 false enc8 ([] : List UInt8), pB false]), (2, oB false 1 enc8 ([0, 0, 0, 1, 0, 2] : List UInt8)), (1, oB false 1 enc8 ([3, 0] : List UInt8))]) [0] [.obj [pS 1 false enc8 ([] : List UInt8), pB true]] rfl rfl rfl (handed_of (by decide) ⟨rfl, trivial⟩) rfl rfl rfl rfl rfl rfl (w_mbap_Stream_Open ([] : List UInt8) false true) rfl (dist_of rfl) rfl rfl rfl rfl ?_)
 refine r_set [(1, PV.ptr 0 0), (2, pS 1 true enc8 kB), (3, pS 3 true eMsg ([] : List TMsg)), (4, pS 3 true eMsg kY), (5, pS 3 true eMsg ([] : List TMsg)), (6, pB true), (7, pS 3 true eMsg ([] : List TMsg))] [(0, .obj [pS 1 false enc8 ([] : List UInt8), pB false]), (2, oB false 1 enc8 ([0, 0, 0, 1, 0, 2] : List UInt8)), (1, oB false 1 enc8 ([3, 0] : List UInt8))] 3 ⟨rfl, rfl, rfl, rfl, rfl, rfl, rfl, trivial⟩ rfl rfl ?_
 refine r_end ?_
 refine q_then ?_
 refine w_seq ?_
 refine w_R ?_
 refine qm hnt rfl rfl ?_
 refine qm hnt rfl rfl ?_
 refine qo hnt rfl (s_callX (r2 := pS 3 true eMsg ((putV ([] : List UInt8) false kB).1)) (nx1 := 3) (H2 := [(0, .obj [pS 1 false enc8 ([] : List UInt8), pB false]), (2, oB false 1 enc8 ([0, 0, 0, 1, 0, 2] : List UInt8)), (1, oB false 1 enc8 ([3, 0] : List UInt8))]) (H3 := [(0, .obj [pS 1 false enc8 ((putV ([] : List UInt8) false kB).2.1), pB ((putV ([] : List UInt8) false kB).2.2)]), (2, oB false 1 enc8 ([0, 0, 0, 1, 0, 2] : List UInt8)), (1, oB false 1 enc8 ([3, 0] : List UInt8))]) [0] [.obj [pS 1 false enc8 ([] : List UInt8), pB false]] rfl rfl rfl (handed_of (by decide) ⟨rfl, trivial⟩) rfl rfl rfl rfl rfl rfl (w_mbap_Stream_Put ([] : List UInt8) false false kB true (by first | omega | assumption | (simp; omega) | decide | (simp; done))) rfl (dist_of rfl) rfl rfl rfl rfl ?_)
 refine qa hnt rfl rfl ?_
 refine r_set [(1, PV.ptr 0 0), (2, pS 1 true enc8 kB), (3, pS 3 true eMsg ([] : List TMsg)), (4, pS 3 true eMsg kY), (5, pS 3 true eMsg ([] : List TMsg)), (6, pB true), (7, pS 3 true eMsg ([] : List TMsg)), (8, pS 3 true eMsg ((putV ([] : List UInt8) false kB).1))] [(0, .obj [pS 1 false enc8 ((putV ([] : List UInt8) false kB).2.1), pB ((putV ([] : List UInt8) false kB).2.2)]), (2, oB false 1 enc8 ([0, 0, 0, 1, 0, 2] : List UInt8)), (1, oB false 1 enc8 ([3, 0] : List UInt8))] 3 ⟨rfl, rfl, rfl, rfl, rfl, rfl, rfl, rfl, trivial⟩ rfl rfl ?_
 refine r_end ?_
 refine q_then ?_
 refine w_seq ?_
 refine w_eq (s := 8) (y := pS 3 true eMsg kY) rfl (congrArg (fun z => pS 3 true eMsg z) (show ((putV ([] : List UInt8) false kB).1) = kY by rw [kp5])) ?_
 refine w_leC (n := 0) (j := 0) (y := pS 1 false enc8 ([] : List UInt8)) rfl rfl (le_of_eq (congrArg (fun z => pS 1 false enc8 z) (show ((putV ([] : List UInt8) false kB).2.1) = ([] : List UInt8) by rw [kp5]))) ?_
 refine w_leC (n := 0) (j := 1) (y := pB false) rfl rfl (le_of_eq (congrArg (fun z : Bool => pB z) (show ((putV ([] : List UInt8) false kB).2.2) = false by rw [kp5]))) ?_
 refine w_R ?_
 refine qm hnt rfl rfl ?_
 refine qo hnt rfl (s_cvT tab_27 tab_9 rfl tab_5 rfl rfl (hM_sl (f := enc8) rfl) ?_)
 refine qo hnt rfl (s_eqtext (l := kB) (m := ([0, 2, 0, 0, 0, 3, 17, 3, 0] : List UInt8)) rfl rfl ?_)
 refine qm hnt rfl rfl ?_
 refine r_if tabOk hnt rfl rfl rfl (fun g1 => ?_) (fun g1 => ?_)
 ·
  have g1' := g1
  try simp only [sB] at g1'
  refine qm hnt rfl rfl ?_
  refine ry hnt rfl rfl rfl g1 ?_
  refine qo hnt rfl (s_lenM (l := ([] : List TMsg)) tab_39 rfl (hM_sl (f := eMsg) rfl) ?_)
  refine ry hnt rfl rfl rfl g1 ?_
  refine qo hnt rfl (s_eql rfl rfl ?_)
  refine qo hnt rfl (s_pick_t rfl g1 rfl ?_)
  refine qm hnt rfl rfl ?_
  refine r_if tabOk hnt rfl rfl rfl (fun g2 => ?_) (fun g2 => ?_)
  ·
   have g2' := g2
   try simp only [sB] at g2'
   refine qm hnt rfl rfl ?_
   refine ry hnt rfl rfl rfl g2 ?_
   refine qo hnt rfl (s_lenM (l := kY) tab_39 rfl (hM_sl (f := eMsg) rfl) ?_)
   refine ry hnt rfl rfl rfl g2 ?_
   refine qo hnt rfl (s_eql rfl rfl ?_)
   refine qo hnt rfl (s_pick_t rfl g2 rfl ?_)
   refine qm hnt rfl rfl ?_
   refine r_if tabOk hnt rfl rfl rfl (fun g3 => ?_) (fun g3 => ?_)
   ·
    have g3' := g3
    try simp only [sB] at g3'
    refine qm hnt rfl rfl ?_
    refine ry hnt rfl rfl rfl g3 ?_
    obtain ⟨e1, he1⟩ := get_of_lt kY (i := 0) (by omega)
    refine qo hnt rfl (s_iaM (q := 0) (b := e1) (f := eMsg) tab_39 rfl tab_30 rfl rfl (by omega) rfl he1 ?_)
    refine ry hnt rfl rfl rfl g3 ?_
    refine qo hnt rfl (s_fa_ro tab_30 rfl rfl tab_3 (by decide) rfl (Nat.le_of_ble_eq_true rfl) (by intro _; rfl) ?_)
    refine ry hnt rfl rfl rfl g3 ?_
    refine qo hnt rfl (s_load_ro1 tab_3 rfl rfl rfl rfl ?_)
    refine ry hnt rfl rfl rfl g3 ?_
    refine qo hnt rfl (s_eql rfl rfl ?_)
    refine qo hnt rfl (s_pick_t rfl g3 rfl ?_)
    refine qm hnt rfl rfl ?_
    refine r_if tabOk hnt rfl rfl rfl (fun g4 => ?_) (fun g4 => ?_)
    ·
     have g4' := g4
     try simp only [sB] at g4'
     refine qm hnt rfl rfl ?_
     refine ry hnt rfl rfl rfl g4 ?_
     refine qo hnt rfl (s_iaM (q := 0) (b := e1) (f := eMsg) tab_39 rfl tab_30 rfl rfl (by omega) rfl he1 ?_)
     refine ry hnt rfl rfl rfl g4 ?_
     refine qo hnt rfl (s_fa_ro tab_30 rfl rfl tab_3 (by decide) rfl (Nat.le_of_ble_eq_true rfl) (by intro _; rfl) ?_)
     refine ry hnt rfl rfl rfl g4 ?_
     refine qo hnt rfl (s_load_ro1 tab_3 rfl rfl rfl rfl ?_)
     refine ry hnt rfl rfl rfl g4 ?_
     refine qo hnt rfl (s_eql rfl rfl ?_)
     refine qo hnt rfl (s_pick_t rfl g4 rfl ?_)
     refine qm hnt rfl rfl ?_
     refine r_if tabOk hnt rfl rfl rfl (fun g5 => ?_) (fun g5 => ?_)
     ·
      have g5' := g5
      try simp only [sB] at g5'
      refine qm hnt rfl rfl ?_
      refine ry hnt rfl rfl rfl g5 ?_
      refine qo hnt rfl (s_iaM (q := 0) (b := e1) (f := eMsg) tab_39 rfl tab_30 rfl rfl (by omega) rfl he1 ?_)
      refine ry hnt rfl rfl rfl g5 ?_
      refine qo hnt rfl (s_fa_ro tab_30 rfl rfl tab_27 (by decide) rfl (Nat.le_of_ble_eq_true rfl) (by intro _; rfl) ?_)
      refine ry hnt rfl rfl rfl g5 ?_
      refine qo hnt rfl (s_load_ro1 tab_27 rfl rfl rfl rfl ?_)
      refine ry hnt rfl rfl rfl g5 ?_
      refine qo hnt rfl (s_cvT tab_27 tab_9 rfl tab_5 rfl rfl (hM_sl (f := enc8) rfl) ?_)
      refine ry hnt rfl rfl rfl g5 ?_
      refine qo hnt rfl (s_eqtext (l := e1.pdu) (m := ([3, 0] : List UInt8)) rfl rfl ?_)
      refine qo hnt rfl (s_pick_t rfl g5 rfl ?_)
      refine qm hnt rfl rfl ?_
      refine r_if tabOk hnt rfl rfl rfl (fun g6 => ?_) (fun g6 => ?_)
      ·
       have g6' := g6
       try simp only [sB] at g6'
       refine qm hnt rfl rfl ?_
       refine ry hnt rfl rfl rfl g6 ?_
       refine qo hnt rfl (s_lenM (l := ([] : List TMsg)) tab_39 rfl (hM_sl (f := eMsg) rfl) ?_)
       refine ry hnt rfl rfl rfl g6 ?_
       refine qo hnt rfl (s_eql rfl rfl ?_)
       refine qo hnt rfl (s_pick_t rfl g6 rfl ?_)
       refine qm hnt rfl rfl ?_
       refine ry hnt rfl rfl rfl g2 ?_
       refine qm hnt rfl rfl ?_
       refine qo hnt rfl (s_pick_t rfl g2 rfl ?_)
       refine qm hnt rfl rfl ?_
       refine r_if tabOk hnt rfl rfl rfl (fun g7 => ?_) (fun g7 => ?_)
       ·
        have g7' := g7
        try simp only [sB] at g7'
        refine qm hnt rfl rfl ?_
        refine ry hnt rfl rfl rfl g7 ?_
        refine qo hnt rfl (s_lenM (l := ([] : List TMsg)) tab_39 rfl (hM_sl (f := eMsg) rfl) ?_)
        refine ry hnt rfl rfl rfl g7 ?_
        refine qo hnt rfl (s_eql rfl rfl ?_)
        refine qo hnt rfl (s_pick_t rfl g7 rfl ?_)
        refine qm hnt rfl rfl ?_
        refine ry hnt rfl rfl rfl g2 ?_
        refine qm hnt rfl rfl ?_
        refine ry hnt rfl rfl rfl g2 ?_
        refine qo hnt rfl (s_lenM (l := kY) tab_39 rfl (hM_sl (f := eMsg) rfl) ?_)
        refine ry hnt rfl rfl rfl g2 ?_
        refine qo hnt rfl (s_eql rfl rfl ?_)
        refine qo hnt rfl (s_pick_t rfl g2 rfl ?_)
        refine qm hnt rfl rfl ?_
        refine ry hnt rfl rfl rfl g3 ?_
        refine qm hnt rfl rfl ?_
        refine ry hnt rfl rfl rfl g3 ?_
        refine qo hnt rfl (s_callX (r2 := pN (([] : List UInt8).length)) (nx1 := 3) (H2 := [(0, .obj [pS 1 false enc8 ([] : List UInt8), pB false]), (2, oB false 1 enc8 ([0, 0, 0, 1, 0, 2] : List UInt8)), (1, oB false 1 enc8 ([3, 0] : List UInt8))]) (H3 := [(0, .obj [pS 1 false enc8 ([] : List UInt8), pB false]), (2, oB false 1 enc8 ([0, 0, 0, 1, 0, 2] : List UInt8)), (1, oB false 1 enc8 ([3, 0] : List UInt8))]) [0] [.obj [pS 1 false enc8 ([] : List UInt8), pB false]] rfl rfl rfl (handed_of (by decide) ⟨rfl, trivial⟩) rfl rfl rfl rfl rfl rfl (w_mbap_Stream_Len ([] : List UInt8) false false) rfl (dist_of rfl) rfl rfl rfl rfl ?_)
        refine ry hnt rfl rfl rfl g3 ?_
        refine qo hnt rfl (s_eql rfl rfl ?_)
        refine qo hnt rfl (s_pick_t rfl g3 rfl ?_)
        refine qm hnt rfl rfl ?_
        refine r_if tabOk hnt rfl rfl rfl (fun g8 => ?_) (fun g8 => ?_)
        ·
         have g8' := g8
         try simp only [sB] at g8'
         refine qm hnt rfl rfl ?_
         refine ry hnt rfl rfl rfl g8 ?_
         refine qo hnt rfl (s_callX (r2 := pB false) (nx1 := 3) (H2 := [(0, .obj [pS 1 false enc8 ([] : List UInt8), pB false]), (2, oB false 1 enc8 ([0, 0, 0, 1, 0, 2] : List UInt8)), (1, oB false 1 enc8 ([3, 0] : List UInt8))]) (H3 := [(0, .obj [pS 1 false enc8 ([] : List UInt8), pB false]), (2, oB false 1 enc8 ([0, 0, 0, 1, 0, 2] : List UInt8)), (1, oB false 1 enc8 ([3, 0] : List UInt8))]) [0] [.obj [pS 1 false enc8 ([] : List UInt8), pB false]] rfl rfl rfl (handed_of (by decide) ⟨rfl, trivial⟩) rfl rfl rfl rfl rfl rfl (w_mbap_Stream_Closed ([] : List UInt8) false false) rfl (dist_of rfl) rfl rfl rfl rfl ?_)
         refine ry hnt rfl rfl rfl g8 ?_
         refine qo hnt rfl (s_not rfl ?_)
         refine qo hnt rfl (s_pick_t rfl g8 rfl ?_)
         refine qm hnt rfl rfl ?_
         refine r_if tabOk hnt rfl rfl rfl (fun g9 => ?_) (fun g9 => ?_)
         ·
          have g9' := g9
          try simp only [sB] at g9'
          refine qo hnt rfl (s_build tab_30 rfl rfl (b_nil ?_))
          refine ry hnt rfl rfl rfl g9 ?_
          refine qo hnt rfl (s_callF rfl rfl rfl (T.leL (args := [PV.f (.agg [encI 0, encI 0, FV.v (.slice none 0 0)])]) (args' := [PV.f (eMsg (⟨0, 0, []⟩ : TMsg))]) ⟨le_F (FLe.agg ⟨FLe.refl _, FLe.refl _, FLe.nil 1 false, trivial⟩), trivial⟩ (w_mbap_Bytes (⟨0, 0, []⟩ : TMsg) (by first | omega | assumption | (simp; omega) | decide | (simp; done)))) rfl ?_)
          refine ry hnt rfl rfl rfl g9 ?_
          refine qo hnt rfl (s_lenM (l := bytesM (⟨0, 0, []⟩ : TMsg)) tab_27 rfl (hM_sl (f := enc8) rfl) ?_)
          refine ry hnt rfl rfl rfl g9 ?_
          refine qo hnt rfl (s_eql rfl rfl ?_)
          refine qo hnt rfl (s_pick_t rfl g9 rfl ?_)
          refine qm hnt rfl rfl ?_
          refine r_if tabOk hnt rfl rfl rfl (fun g10 => ?_) (fun g10 => ?_)
          ·
           have g10' := g10
           try simp only [sB] at g10'
           refine qo hnt rfl (s_makeM (f := enc8) (bt := 1) tab_one (0 : UInt8) 254 (fun j hj => by cases hj; rfl) tab_27 rfl tab_5 ⟨rfl, by decide⟩ rfl rfl rfl (by omega) (by refine ⟨?_, ?_, ?_⟩ <;> omega) ?_)
           refine ry hnt rfl rfl rfl g10 ?_
           refine qo hnt rfl (s_build tab_30 rfl rfl (b_cons rfl tab_27 rfl rfl rfl (Nat.le_of_ble_eq_true rfl) (b_nil ?_)))
           refine ry hnt rfl rfl rfl g10 ?_
           refine qo hnt rfl (s_callX (r2 := pS 1 true enc8 (bytesM (⟨0, 0, List.replicate 254 (0 : UInt8)⟩ : TMsg))) (nx1 := 4) (H2 := [(3, oB false 1 enc8 (List.replicate 254 (0 : UInt8))), (0, .obj [pS 1 false enc8 ([] : List UInt8), pB false]), (2, oB false 1 enc8 ([0, 0, 0, 1, 0, 2] : List UInt8)), (1, oB false 1 enc8 ([3, 0] : List UInt8))]) (H3 := [(3, oB false 1 enc8 (List.replicate 254 (0 : UInt8))), (0, .obj [pS 1 false enc8 ([] : List UInt8), pB false]), (2, oB false 1 enc8 ([0, 0, 0, 1, 0, 2] : List UInt8)), (1, oB false 1 enc8 ([3, 0] : List UInt8))]) [] [] rfl rfl rfl (handed_of (by decide) trivial) rfl rfl rfl rfl rfl rfl (w_mbap_Bytes (⟨0, 0, List.replicate 254 (0 : UInt8)⟩ : TMsg) (by first | omega | assumption | (simp; omega) | decide | (simp; done))) rfl (dist_of rfl) rfl rfl rfl rfl ?_)
           refine ry hnt rfl rfl rfl g10 ?_
           refine qo hnt rfl (s_lenM (l := bytesM (⟨0, 0, List.replicate 254 (0 : UInt8)⟩ : TMsg)) tab_27 rfl (hM_sl (f := enc8) rfl) ?_)
           refine ry hnt rfl rfl rfl g10 ?_
           refine qo hnt rfl (s_eql rfl rfl ?_)
           refine qo hnt rfl (s_pick_t rfl g10 rfl ?_)
           refine qa hnt rfl rfl ?_
           refine r_set [(0, pB (decide ((((bytesM (⟨0, 0, List.replicate 254 (0 : UInt8)⟩ : TMsg)).length : Nat) : Int) = 0)))] [(3, oB false 1 enc8 (List.replicate 254 (0 : UInt8))), (0, .obj [pS 1 false enc8 ([] : List UInt8), pB false]), (2, oB false 1 enc8 ([0, 0, 0, 1, 0, 2] : List UInt8)), (1, oB false 1 enc8 ([3, 0] : List UInt8))] 4 ⟨rfl, trivial⟩ rfl rfl ?_
           refine r_end ?_
           refine q_then ?_
           refine w_le (s := 0) (y := pB true) rfl (le_of_eq (congrArg (fun z : Bool => pB z) (show (decide ((((bytesM (⟨0, 0, List.replicate 254 (0 : UInt8)⟩ : TMsg)).length : Nat) : Int) = 0)) = true by first | (simp; done) | (simp [bytesM]; done)))) ?_
           refine w_ret ?_
           exact fin_plain (ret_tmp rfl ret_nil) rfl rfl ⟨rfl, rfl, rfl⟩
          ·
           exact absurd g10 (by first | (simp; done) | (simp [kB]; done) | (simp [kY]; done) | (simp [kY] at he1; subst he1; simp; done) | (simp [bytesM]; done))
         ·
          exact absurd g9 (by first | (simp; done) | (simp [kB]; done) | (simp [kY]; done) | (simp [kY] at he1; subst he1; simp; done) | (simp [bytesM]; done))
        ·
         exact absurd g8 (by first | (simp; done) | (simp [kB]; done) | (simp [kY]; done) | (simp [kY] at he1; subst he1; simp; done) | (simp [bytesM]; done))
       ·
        exact absurd g7 (by first | (simp; done) | (simp [kB]; done) | (simp [kY]; done) | (simp [kY] at he1; subst he1; simp; done) | (simp [bytesM]; done))
      ·
       exact absurd g6 (by first | (simp; done) | (simp [kB]; done) | (simp [kY]; done) | (simp [kY] at he1; subst he1; simp; done) | (simp [bytesM]; done))
     ·
      exact absurd g5 (by first | (simp; done) | (simp [kB]; done) | (simp [kY]; done) | (simp [kY] at he1; subst he1; simp; done) | (simp [bytesM]; done))
    ·
     exact absurd g4 (by first | (simp; done) | (simp [kB]; done) | (simp [kY]; done) | (simp [kY] at he1; subst he1; simp; done) | (simp [bytesM]; done))
   ·
    exact absurd g3 (by first | (simp; done) | (simp [kB]; done) | (simp [kY]; done) | (simp [kY] at he1; subst he1; simp; done) | (simp [bytesM]; done))
  ·
   exact absurd g2 (by first | (simp; done) | (simp [kB]; done) | (simp [kY]; done) | (simp [kY] at he1; subst he1; simp; done) | (simp [bytesM]; done))
 ·
  exact absurd g1 (by first | (simp; done) | (simp [kB]; done) | (simp [kY]; done) | (simp [kY] at he1; subst he1; simp; done) | (simp [bytesM]; done))
end Go.Proofs.Ytfbmlnajnlekbaa
namespace Go.Proofs.Ytfbmlnajnlekbaa
open Go Go.Proofs.Ytfbmlnajnlekbaa.Pv
theorem getD_left {α : Type} {l m : List α} {i : Nat} {d : α} (h : i < l.length) : (l ++ m).getD i d = l.getD i d := by
  rw [List.getD_eq_getElem?_getD, List.getD_eq_getElem?_getD, List.getElem?_append_left h]
theorem getN_app {x : List UInt8} (y : List UInt8) {i : Nat} (h : i + 1 < x.length) : getN (x ++ y) i = getN x i := by
  unfold getN
  rw [getD_left (by omega), getD_left h]
theorem headBad_app {x : List UInt8} (y : List UInt8) (h : 6 ≤ x.length) : headBad (x ++ y) = headBad x := by
  unfold headBad
  rw [getN_app y (by omega), getN_app y (by omega)]
theorem mb_app : ∀ (n : Nat) (x y : List UInt8), x.length ≤ n → mbGo (x ++ y) = if (mbGo x).2.2 = true then ((mbGo x).1, [], true) else ((mbGo x).1 ++ (mbGo ((mbGo x).2.1 ++ y)).1, (mbGo ((mbGo x).2.1 ++ y)).2) := by
  intro n
  induction n with
  | zero =>
    intro x y h
    rw [mb_short (b := x) (by omega)]
    simp
  | succ n ih =>
    intro x y h
    by_cases h6 : 6 ≤ x.length
    · cases hb : headBad x with
      | true => rw [mb_bad h6 hb, mb_bad (b := x ++ y) (by simp; omega) (by rw [headBad_app y h6]; exact hb)]; simp
      | false =>
        have hb2 : headBad (x ++ y) = false := by rw [headBad_app y h6]; exact hb
        by_cases hw : x.length - 6 < getN x 4
        · rw [mb_waits h6 hb hw]; simp
        · have g0 := getN_app y (i := 0) (x := x) (by omega)
          have g4 := getN_app y (i := 4) (x := x) (by omega)
          have hg2 : 2 ≤ getN x 4 := by
            unfold headBad at hb; have := of_decide_eq_false hb; omega
          have hl : (x.drop (6 + getN x 4)).length ≤ n := by rw [List.length_drop]; omega
          have e0 := mb_step h6 hb hw
          have e1 := mb_step (b := x ++ y) (by simp; omega) hb2 (by rw [g4]; simp; omega)
          have d1 : (x ++ y).drop (6 + getN x 4) = x.drop (6 + getN x 4) ++ y := List.drop_append_of_le_length (by omega)
          have d2 : ((x ++ y).drop 7).take (getN x 4 - 1) = (x.drop 7).take (getN x 4 - 1) := by
            rw [List.drop_append_of_le_length (by omega), List.take_append_of_le_length (by rw [List.length_drop]; omega)]
          have d3 : (x ++ y).getD 6 0 = x.getD 6 0 := getD_left (by omega)
          rw [g0, g4, d1, d2, d3, ih _ y hl] at e1
          rw [e1, e0]
          cases (mbGo (x.drop (6 + getN x 4))).2.2 <;> simp
    · rw [mb_short (b := x) (by omega)]; simp
theorem mb_left : ∀ (n : Nat) (x : List UInt8), x.length ≤ n → (mbGo x).2.1.length ≤ x.length := by
  intro n
  induction n with
  | zero => intro x h; rw [mb_short (b := x) (by omega)]; simp
  | succ n ih =>
    intro x h
    by_cases h6 : 6 ≤ x.length
    · cases hb : headBad x with
      | true => rw [mb_bad h6 hb]; simp
      | false =>
        by_cases hw : x.length - 6 < getN x 4
        · rw [mb_waits h6 hb hw]; simp
        · rw [mb_step h6 hb hw]
          have := ih (x.drop (6 + getN x 4)) (by rw [List.length_drop]; omega)
          rw [List.length_drop] at this
          simp only; omega
    · rw [mb_short (b := x) (by omega)]; simp
theorem mb_many : ∀ (n : Nat) (x : List UInt8), x.length ≤ n → (mbGo x).1.length ≤ x.length := by
  intro n
  induction n with
  | zero => intro x h; rw [mb_short (b := x) (by omega)]; simp
  | succ n ih =>
    intro x h
    by_cases h6 : 6 ≤ x.length
    · cases hb : headBad x with
      | true => rw [mb_bad h6 hb]; simp
      | false =>
        by_cases hw : x.length - 6 < getN x 4
        · rw [mb_waits h6 hb hw]; simp
        · rw [mb_step h6 hb hw]
          have := ih (x.drop (6 + getN x 4)) (by rw [List.length_drop]; omega)
          rw [List.length_drop] at this
          simp only [List.length_cons]; omega
    · rw [mb_short (b := x) (by omega)]; simp
def MOk (m : TMsg) : Prop := (0 ≤ m.id ∧ m.id < 65536) ∧ (0 ≤ m.unit ∧ m.unit < 256) ∧ (1 ≤ m.pdu.length ∧ m.pdu.length ≤ 253)
def bytesMs (l : List TMsg) : List UInt8 := (l.map bytesM).flatten
theorem mb_msgs : ∀ (l : List TMsg), (∀ m ∈ l, MOk m) → mbGo (bytesMs l) = (l, [], false)
  | [], _ => mb_short (b := []) (by decide)
  | m :: l, h => by
    have hm := h m (by simp)
    have e : bytesMs (m :: l) = bytesM m ++ bytesMs l := by simp [bytesMs]
    rw [e, mb_bytes hm.1 hm.2.1 hm.2.2, mb_msgs l (fun x hx => h x (by simp [hx]))]
theorem mb_rest : ∀ (n : Nat) (x : List UInt8), x.length ≤ n → mbGo (mbGo x).2.1 = ([], (mbGo x).2.1, false) := by
  intro n
  induction n with
  | zero => intro x h; rw [mb_short (b := x) (by omega)]; exact mb_short (b := x) (by omega)
  | succ n ih =>
    intro x h
    by_cases h6 : 6 ≤ x.length
    · cases hb : headBad x with
      | true => rw [mb_bad h6 hb]; exact mb_short (by decide)
      | false =>
        by_cases hw : x.length - 6 < getN x 4
        · rw [mb_waits h6 hb hw]; exact mb_waits h6 hb hw
        · rw [mb_step h6 hb hw]
          exact ih (x.drop (6 + getN x 4)) (by rw [List.length_drop]; omega)
    · rw [mb_short (b := x) (by omega)]; exact mb_short (b := x) (by omega)
structure WholeI (w : List TMsg) (g : List TMsg) (q rest : List UInt8) : Prop where
  tells : g ++ (mbGo (q ++ rest)).1 = w
  ends : (mbGo (q ++ rest)).2 = ([], false)
  bound : q.length + rest.length ≤ 2610
  stable : mbGo q = ([], q, false)
theorem WholeI.zero {w : List TMsg} {b : List UInt8} (h : ∀ m ∈ w, MOk m) (hb : b = bytesMs w) (hl : b.length ≤ 2610) : WholeI w [] [] b := by
  subst hb
  refine ⟨?_, ?_, by simpa using hl, mb_short (by decide)⟩
  · rw [List.nil_append, List.nil_append, mb_msgs w h]
  · rw [List.nil_append, mb_msgs w h]
theorem WholeI.put {w g : List TMsg} {q rest : List UInt8} (h : WholeI w g q rest) (n : Nat) :
    WholeI w (g ++ (putV q false (rest.take n)).1) (putV q false (rest.take n)).2.1 (rest.drop n) ∧ (putV q false (rest.take n)).2.2 = false := by
  have e : putV q false (rest.take n) = mbGo (q ++ rest.take n) := by unfold putV; rw [if_neg (by decide)]
  rw [e]
  have a := mb_app _ (q ++ rest.take n) (rest.drop n) (Nat.le_refl _)
  rw [List.append_assoc, List.take_append_drop] at a
  have hc : (mbGo (q ++ rest.take n)).2.2 = false := by
    cases hc : (mbGo (q ++ rest.take n)).2.2 with
    | false => rfl
    | true =>
      rw [hc, if_pos rfl] at a
      have := h.ends
      rw [a] at this
      cases this
  rw [hc, if_neg (by decide)] at a
  refine ⟨⟨?_, ?_, ?_, mb_rest _ _ (Nat.le_refl _)⟩, hc⟩
  · rw [List.append_assoc]
    have := h.tells
    rw [a] at this
    exact this
  · have := h.ends
    rw [a] at this
    exact this
  · have := mb_left _ (q ++ rest.take n) (Nat.le_refl _)
    have hb := h.bound
    rw [List.length_append, List.length_take] at this
    rw [List.length_drop]; omega
theorem WholeI.done {w g : List TMsg} {q rest : List UInt8} (h : WholeI w g q rest) (hr : rest = []) : g = w ∧ q = [] := by
  have hq := h.stable
  subst hr
  have h1 := h.tells
  have h2 := h.ends
  rw [List.append_nil, hq] at h1 h2
  simp at h1 h2
  exact ⟨h1, h2⟩
theorem mb_less : ∀ (n : Nat) (x : List UInt8), x.length ≤ n → (mbGo x).2.1.length ≤ 260 := by
  intro n
  induction n with
  | zero => intro x h; rw [mb_short (b := x) (by omega)]; show x.length ≤ 260; omega
  | succ n ih =>
    intro x h
    by_cases h6 : 6 ≤ x.length
    · cases hb : headBad x with
      | true => rw [mb_bad h6 hb]; simp
      | false =>
        by_cases hw : x.length - 6 < getN x 4
        · rw [mb_waits h6 hb hw]
          unfold headBad at hb
          have := of_decide_eq_false hb
          show x.length ≤ 260; omega
        · rw [mb_step h6 hb hw]
          exact ih (x.drop (6 + getN x 4)) (by rw [List.length_drop]; omega)
    · rw [mb_short (b := x) (by omega)]; show x.length ≤ 260; omega
theorem putV_left {b : List UInt8} {cl : Bool} {x : List UInt8} (h : b.length ≤ 260) : (putV b cl x).2.1.length ≤ 260 := by
  unfold putV; split
  · exact h
  · exact mb_less _ _ (Nat.le_refl _)
theorem putV_many (b : List UInt8) (cl : Bool) (x : List UInt8) : (putV b cl x).1.length ≤ b.length + x.length := by
  unfold putV; split
  · simp
  · have := mb_many _ (b ++ x) (Nat.le_refl _)
    simpa using this
theorem bytesM_len (m : TMsg) (h : 1 ≤ m.pdu.length ∧ m.pdu.length ≤ 253) : (bytesM m).length = m.pdu.length + 7 := by
  rw [bytesM_some (by omega)]; simp; omega
end Go.Proofs.Ytfbmlnajnlekbaa
set_option linter.unusedVariables false
namespace Go.Proofs.Ytfbmlnajnlekbaa
open Go Go.Proofs.Ytfbmlnajnlekbaa.Pv
def hasF (n : Int) : Bool := decide ((1 ≤ n ∧ n ≤ 6) ∨ n = 8 ∨ n = 15 ∨ n = 16 ∨ n = 17 ∨ n = 22 ∨ n = 23)
theorem hasF_of {n : Int} (h : hasF n = true) : n = 1 ∨ n = 2 ∨ n = 3 ∨ n = 4 ∨ n = 5 ∨ n = 6 ∨ n = 8 ∨ n = 15 ∨ n = 16 ∨ n = 17 ∨ n = 22 ∨ n = 23 := by
  have := of_decide_eq_true h; omega
def wordOk (n : Int) : Bool := decide (0 ≤ n ∧ n ≤ 65535)
def usesS (n : Int) : List UInt8 := if n = 1 ∨ n = 2 ∨ n = 3 ∨ n = 4 then [97, 99] else if n = 5 then [97, 98] else if n = 6 then [97, 118] else if n = 8 then [115, 118] else if n = 15 then [97, 99, 98] else if n = 16 then [97, 99, 118] else if n = 22 then [97, 109] else if n = 23 then [97, 99, 119, 118] else []
theorem usesS_len (n : Int) : (usesS n).length ≤ 4 := by
  unfold usesS
  repeat' split
  all_goals simp
def inS (s : List UInt8) (c : UInt8) : Bool := decide (c ∈ s)
def listsR (q : TRequest) : Bool :=
  if q.fn = 5 then decide (q.bits.length = 1) else if q.fn = 6 ∨ q.fn = 8 then decide (q.vals.length = 1) else if q.fn = 15 then decide ((q.bits.length : Int) = q.count ∧ q.bits.length ≤ 2040)
  else if q.fn = 16 then decide ((q.vals.length : Int) = q.count ∧ q.vals.length ≤ 127) else if q.fn = 23 then decide (q.vals.length ≤ 127) else true
theorem listsR_5 {q : TRequest} (h : q.fn = 5) : listsR q = decide (((q.bits.length : Nat) : Int) = 1) := by unfold listsR; rw [if_pos h]; apply decide_eq_decide.2; omega
theorem listsR_6 {q : TRequest} (h : q.fn = 6) : listsR q = decide (((q.vals.length : Nat) : Int) = 1) := by unfold listsR; rw [if_neg (by omega), if_pos (.inl h)]; apply decide_eq_decide.2; omega
theorem listsR_8 {q : TRequest} (h : q.fn = 8) : listsR q = decide (((q.vals.length : Nat) : Int) = 1) := by unfold listsR; rw [if_neg (by omega), if_pos (.inr h)]; apply decide_eq_decide.2; omega
theorem listsR_15 {q : TRequest} (h : q.fn = 15) : listsR q = (decide (((q.bits.length : Nat) : Int) = q.count) && decide (((q.bits.length : Nat) : Int) ≤ 2040)) := by
  unfold listsR; rw [if_neg (by omega), if_neg (by omega), if_pos h, ← Bool.decide_and]; apply decide_eq_decide.2; omega
theorem listsR_16 {q : TRequest} (h : q.fn = 16) : listsR q = (decide (((q.vals.length : Nat) : Int) = q.count) && decide (((q.vals.length : Nat) : Int) ≤ 127)) := by
  unfold listsR; rw [if_neg (by omega), if_neg (by omega), if_neg (by omega), if_pos h, ← Bool.decide_and]; apply decide_eq_decide.2; omega
theorem listsR_23 {q : TRequest} (h : q.fn = 23) : listsR q = decide (((q.vals.length : Nat) : Int) ≤ 127) := by
  unfold listsR; rw [if_neg (by omega), if_neg (by omega), if_neg (by omega), if_neg (by omega), if_pos h]; apply decide_eq_decide.2; omega
theorem listsR_no {q : TRequest} (h : q.fn ≠ 5 ∧ q.fn ≠ 6 ∧ q.fn ≠ 8 ∧ q.fn ≠ 15 ∧ q.fn ≠ 16 ∧ q.fn ≠ 23) : listsR q = true := by
  unfold listsR; rw [if_neg (by omega), if_neg (by omega), if_neg (by omega), if_neg (by omega), if_neg (by omega)]
def badA (r : TRequest) : Bool := (((((((!(inS (usesS r.fn) 97)) && (!decide (r.at_ = 0))) || ((!(inS (usesS r.fn) 99)) && (!decide (r.count = 0)))) || ((!(inS (usesS r.fn) 119)) && (!decide (r.wAt = 0)))) || ((!(inS (usesS r.fn) 115)) && (!decide (r.sub = 0)))) || ((!(inS (usesS r.fn) 98)) && (decide (0 < ((r.bits.length : Nat) : Int))))) || ((!(inS (usesS r.fn) 118)) && (decide (0 < ((r.vals.length : Nat) : Int))))) || ((!(inS (usesS r.fn) 109)) && ((!decide (r.and_ = 0)) || (!decide (r.or_ = 0))))
def badB (r : TRequest) : Bool := ((((!(wordOk r.at_)) || (!(wordOk r.count))) || (!(wordOk r.wAt))) || (!(wordOk r.sub))) || (!(listsR r))
def rightR (q : TRequest) : Int := if (!(hasF q.fn)) = true then 15 else if badA q = true then 12 else if badB q = true then 12 else 0
theorem rightR_1 {q : TRequest} (h : (!(hasF q.fn)) = true) : rightR q = 15 := by unfold rightR; rw [if_pos h]
theorem rightR_2 {q : TRequest} (h : (!(hasF q.fn)) = false) (h2 : badA q = true) : rightR q = 12 := by unfold rightR; rw [if_neg (by simp [h]), if_pos h2]
theorem rightR_3 {q : TRequest} (h : (!(hasF q.fn)) = false) (h2 : badA q = false) (h3 : badB q = true) : rightR q = 12 := by unfold rightR; rw [if_neg (by simp [h]), if_neg (by simp [h2]), if_pos h3]
theorem rightR_4 {q : TRequest} (h : (!(hasF q.fn)) = false) (h2 : badA q = false) (h3 : badB q = false) : rightR q = 0 := by unfold rightR; rw [if_neg (by simp [h]), if_neg (by simp [h2]), if_neg (by simp [h3])]
theorem in_all {n : Int} (h : hasF n = true) : inS (usesS n) 97 = decide (n ≠ 8 ∧ n ≠ 17) ∧ inS (usesS n) 99 = decide (n ≤ 4 ∨ n = 15 ∨ n = 16 ∨ n = 23) ∧ inS (usesS n) 119 = decide (n = 23) ∧ inS (usesS n) 115 = decide (n = 8) ∧
    inS (usesS n) 98 = decide (n = 5 ∨ n = 15) ∧ inS (usesS n) 118 = decide (n = 6 ∨ n = 8 ∨ n = 16 ∨ n = 23) ∧ inS (usesS n) 109 = decide (n = 22) := by
  rcases hasF_of h with h | h | h | h | h | h | h | h | h | h | h | h <;> subst h <;> decide
theorem u16z {x : UInt16} : x = 0 ↔ x.toNat = 0 := ⟨fun h => by rw [h]; rfl, fun h => UInt16.toNat_inj.1 h⟩
structure ShapeR (q : TRequest) : Prop where
  wa : 0 ≤ q.at_ ∧ q.at_ ≤ 65535
  wc : 0 ≤ q.count ∧ q.count ≤ 65535
  ww : 0 ≤ q.wAt ∧ q.wAt ≤ 65535
  ws : 0 ≤ q.sub ∧ q.sub ≤ 65535
  za : (q.fn = 8 ∨ q.fn = 17) → q.at_ = 0
  zc : ¬ (q.fn ≤ 4 ∨ q.fn = 15 ∨ q.fn = 16 ∨ q.fn = 23) → q.count = 0
  zw : q.fn ≠ 23 → q.wAt = 0
  zs : q.fn ≠ 8 → q.sub = 0
  zm : q.fn ≠ 22 → q.and_.toNat = 0 ∧ q.or_.toNat = 0
  bits : if q.fn = 5 then q.bits.length = 1 else if q.fn = 15 then (q.bits.length : Int) = q.count ∧ q.bits.length ≤ 2040 else q.bits.length = 0
  vals : if q.fn = 6 ∨ q.fn = 8 then q.vals.length = 1 else if q.fn = 16 then (q.vals.length : Int) = q.count ∧ q.vals.length ≤ 127 else if q.fn = 23 then q.vals.length ≤ 127 else q.vals.length = 0
theorem shapeR_iff {q : TRequest} (h : hasF q.fn = true) : rightR q = 0 ↔ ShapeR q := by
  obtain ⟨ia, ic, iw, is, ib, iv, im⟩ := in_all h
  have h0 : (!(hasF q.fn)) = false := by simp [h]
  have e : rightR q = 0 ↔ badA q = false ∧ badB q = false := by
    cases ha : badA q with
    | true => rw [rightR_2 h0 ha]; simp
    | false =>
      cases hb : badB q with
      | true => rw [rightR_3 h0 ha hb]; simp
      | false => rw [rightR_4 h0 ha hb]; simp
  rw [e]
  unfold badA badB
  rw [ia, ic, iw, is, ib, iv, im]
  have hz := @u16z q.and_
  have hz2 := @u16z q.or_
  have hf := hasF_of h
  simp only [Bool.or_eq_false_iff, Bool.and_eq_false_iff, Bool.not_eq_false', decide_eq_true_eq, decide_eq_false_iff_not, wordOk, hz, hz2]
  constructor
  · rintro ⟨⟨⟨⟨⟨⟨⟨a1, a2⟩, a3⟩, a4⟩, a5⟩, a6⟩, a7⟩, ⟨⟨⟨b1, b2⟩, b3⟩, b4⟩, b5⟩
    unfold listsR at b5
    refine ⟨b1, b2, b3, b4, by omega, by omega, by omega, by omega, by omega, ?_, ?_⟩
    · repeat' split
      all_goals (repeat' split at b5) <;> first | omega | (simp only [decide_eq_true_eq] at b5; omega)
    · repeat' split
      all_goals (repeat' split at b5) <;> first | omega | (simp only [decide_eq_true_eq] at b5; omega)
  · rintro ⟨wa, wc, ww, ws, za, zc, zw, zs, zm, hb, hv⟩
    refine ⟨⟨⟨⟨⟨⟨⟨by omega, by omega⟩, by omega⟩, by omega⟩, ?_⟩, ?_⟩, by omega⟩, ⟨⟨⟨wa, wc⟩, ww⟩, ws⟩, ?_⟩
    · repeat' split at hb
      all_goals omega
    · repeat' split at hv
      all_goals omega
    · unfold listsR
      repeat' split
      all_goals first | rfl | (apply decide_eq_true; (repeat' split at hb) <;> (repeat' split at hv) <;> omega)
theorem rightR_zero {q : TRequest} (h : rightR q = 0) : hasF q.fn = true ∧ ShapeR q := by
  cases hf : hasF q.fn with
  | true => exact ⟨rfl, (shapeR_iff hf).1 h⟩
  | false => rw [rightR_1 (by simp [hf])] at h; cases h
def rowX (x : List UInt8) : List UInt8 := UInt8.ofNat x.length :: x
def writeT (q : TRequest) : List UInt8 :=
  if q.fn = 1 ∨ q.fn = 2 ∨ q.fn = 3 ∨ q.fn = 4 then put2 q.at_ ++ put2 q.count
  else if q.fn = 5 then put2 q.at_ ++ put2 (if q.bits.getD 0 false = true then 65280 else 0)
  else if q.fn = 6 then put2 q.at_ ++ put2 (((q.vals.getD 0 0).toNat : Nat) : Int)
  else if q.fn = 8 then put2 q.sub ++ put2 (((q.vals.getD 0 0).toNat : Nat) : Int)
  else if q.fn = 15 then put2 q.at_ ++ (put2 q.count ++ rowX (packL q.bits))
  else if q.fn = 16 then put2 q.at_ ++ (put2 q.count ++ rowX (bytesL q.vals))
  else if q.fn = 22 then put2 q.at_ ++ (put2 ((q.and_.toNat : Nat) : Int) ++ put2 ((q.or_.toNat : Nat) : Int))
  else if q.fn = 23 then put2 q.at_ ++ (put2 q.count ++ (put2 q.wAt ++ (put2 ((q.vals.length : Nat) : Int) ++ rowX (bytesL q.vals))))
  else []
def writeR (q : TRequest) : List UInt8 := u8I q.fn :: writeT q
theorem writeR_1 {q : TRequest} (h : q.fn = 1 ∨ q.fn = 2 ∨ q.fn = 3 ∨ q.fn = 4) : writeR q = u8I q.fn :: (put2 q.at_ ++ put2 q.count) := by
  unfold writeR writeT; rw [if_pos h]
theorem writeR_5 {q : TRequest} (h : q.fn = 5) {e : Bool} (he : q.bits[0]? = some e) : writeR q = u8I q.fn :: (put2 q.at_ ++ put2 (if e = true then 65280 else 0)) := by
  unfold writeR writeT; rw [if_neg (by omega), if_pos h, List.getD_eq_getElem?_getD, he]; rfl
theorem writeR_6 {q : TRequest} (h : q.fn = 6) {e : UInt16} (he : q.vals[0]? = some e) : writeR q = u8I q.fn :: (put2 q.at_ ++ put2 ((e.toNat : Nat) : Int)) := by
  unfold writeR writeT; rw [if_neg (by omega), if_neg (by omega), if_pos h, List.getD_eq_getElem?_getD, he]; rfl
theorem writeR_8 {q : TRequest} (h : q.fn = 8) {e : UInt16} (he : q.vals[0]? = some e) : writeR q = u8I q.fn :: (put2 q.sub ++ put2 ((e.toNat : Nat) : Int)) := by
  unfold writeR writeT; rw [if_neg (by omega), if_neg (by omega), if_neg (by omega), if_pos h, List.getD_eq_getElem?_getD, he]; rfl
theorem writeR_15 {q : TRequest} (h : q.fn = 15) : writeR q = u8I q.fn :: (put2 q.at_ ++ (put2 q.count ++ rowX (packL q.bits))) := by
  unfold writeR writeT; rw [if_neg (by omega), if_neg (by omega), if_neg (by omega), if_neg (by omega), if_pos h]
theorem writeR_16 {q : TRequest} (h : q.fn = 16) : writeR q = u8I q.fn :: (put2 q.at_ ++ (put2 q.count ++ rowX (bytesL q.vals))) := by
  unfold writeR writeT; rw [if_neg (by omega), if_neg (by omega), if_neg (by omega), if_neg (by omega), if_neg (by omega), if_pos h]
theorem writeR_22 {q : TRequest} (h : q.fn = 22) : writeR q = u8I q.fn :: (put2 q.at_ ++ (put2 ((q.and_.toNat : Nat) : Int) ++ put2 ((q.or_.toNat : Nat) : Int))) := by
  unfold writeR writeT; rw [if_neg (by omega), if_neg (by omega), if_neg (by omega), if_neg (by omega), if_neg (by omega), if_neg (by omega), if_pos h]
theorem writeR_23 {q : TRequest} (h : q.fn = 23) : writeR q = u8I q.fn :: (put2 q.at_ ++ (put2 q.count ++ (put2 q.wAt ++ (put2 ((q.vals.length : Nat) : Int) ++ rowX (bytesL q.vals))))) := by
  unfold writeR writeT; rw [if_neg (by omega), if_neg (by omega), if_neg (by omega), if_neg (by omega), if_neg (by omega), if_neg (by omega), if_neg (by omega), if_pos h]
theorem writeR_no {q : TRequest} (h : ¬ (q.fn = 1 ∨ q.fn = 2 ∨ q.fn = 3 ∨ q.fn = 4) ∧ q.fn ≠ 5 ∧ q.fn ≠ 6 ∧ q.fn ≠ 8 ∧ q.fn ≠ 15 ∧ q.fn ≠ 16 ∧ q.fn ≠ 22 ∧ q.fn ≠ 23) : writeR q = [u8I q.fn] := by
  unfold writeR writeT; rw [if_neg (by omega), if_neg (by omega), if_neg (by omega), if_neg (by omega), if_neg (by omega), if_neg (by omega), if_neg (by omega), if_neg (by omega)]
def bytesR (q : TRequest) : List UInt8 := if rightR q = 0 then writeR q else []
@[simp] theorem rowX_length (x : List UInt8) : (rowX x).length = x.length + 1 := by simp [rowX]
theorem writeR_small {q : TRequest} (h : ShapeR q) (hb2 : q.bits.length ≤ 25) (hv2 : q.vals.length ≤ 25) : 1 ≤ (writeR q).length ∧ (writeR q).length ≤ 62 := by
  unfold writeR writeT
  refine ⟨by simp, ?_⟩
  repeat' split
  all_goals simp only [List.length_cons, List.length_append, put2_length, rowX_length, packL_length, bytesL_length, List.length_nil]
  all_goals omega
end Go.Proofs.Ytfbmlnajnlekbaa
set_option linter.unusedVariables false
set_option linter.unusedSimpArgs false
set_option maxRecDepth 10000
set_option maxHeartbeats 1000000
namespace Go.Proofs.Ytfbmlnajnlekbaa
open Go Go.Proofs.Ytfbmlnajnlekbaa.Pv
theorem w_burgageref3_Has (n : Int)  :
    T Try.prog 82 [pI n] 0 [] (Ret (pB (hasF n)) 0 []) := by
 refine t_fun tabOk (n := 33) (rs := [.tmp 2]) Try.func82 rfl rfl rfl rfl (Nat.le_of_ble_eq_true rfl) ?_
 intro c hnt hk
 refine w_seq ?_
 refine w_R ?_
 refine qa hnt rfl rfl ?_
 refine r_end ?_
 refine q_then ?_
 refine w_seq ?_
 refine w_R ?_
 refine qm hnt rfl rfl ?_
 refine qo hnt rfl (s_geq rfl rfl ?_)
 refine qm hnt rfl rfl ?_
 refine r_cut0 3 [(0, pI n), (2, pB false), (8, pB ((decide (1 ≤ n)) && (decide (n ≤ 6))))] ?_ ?_
 ·
  refine r_if tabOk hnt rfl rfl rfl (fun g1 => ?_) (fun g1 => ?_)
  ·
   have g1' := g1
   try simp only [sB] at g1'
   refine qm hnt rfl rfl ?_
   refine ry hnt rfl rfl rfl g1 ?_
   refine qo hnt rfl (s_leq rfl rfl ?_)
   refine qo hnt rfl (s_pick_t rfl g1 rfl ?_)
   refine r_eq (s := 8) (y := pB ((decide (1 ≤ n)) && (decide (n ≤ 6)))) rfl (mix_at g1) ?_
   exact r_mid ⟨⟨rfl, rfl, rfl, trivial⟩, rfl, rfl⟩
  ·
   have g1' := g1
   try simp only [sB] at g1'
   refine rn hnt rfl rfl rfl g1 ?_
   refine qo hnt rfl (s_pick_f rfl g1 rfl ?_)
   refine r_eq (s := 8) (y := pB ((decide (1 ≤ n)) && (decide (n ≤ 6)))) rfl (mix_af _ g1) ?_
   exact r_mid ⟨⟨rfl, rfl, rfl, trivial⟩, rfl, rfl⟩
 ·
  refine qm hnt rfl rfl ?_
  refine r_cut0 3 [(0, pI n), (2, pB false), (12, pB (((decide (1 ≤ n)) && (decide (n ≤ 6))) || (decide (n = 8))))] ?_ ?_
  ·
   refine r_if tabOk hnt rfl rfl rfl (fun g2 => ?_) (fun g2 => ?_)
   ·
    have g2' := g2
    try simp only [sB] at g2'
    refine qm hnt rfl rfl ?_
    refine ry hnt rfl rfl rfl g2 ?_
    refine qo hnt rfl (s_eql rfl rfl ?_)
    refine qo hnt rfl (s_pick_f rfl g2 rfl ?_)
    refine r_eq (s := 12) (y := pB (((decide (1 ≤ n)) && (decide (n ≤ 6))) || (decide (n = 8)))) rfl (mix_of g2) ?_
    exact r_mid ⟨⟨rfl, rfl, rfl, trivial⟩, rfl, rfl⟩
   ·
    have g2' := g2
    try simp only [sB] at g2'
    refine rn hnt rfl rfl rfl g2 ?_
    refine qo hnt rfl (s_pick_t rfl g2 rfl ?_)
    refine r_eq (s := 12) (y := pB (((decide (1 ≤ n)) && (decide (n ≤ 6))) || (decide (n = 8)))) rfl (mix_ot _ g2) ?_
    exact r_mid ⟨⟨rfl, rfl, rfl, trivial⟩, rfl, rfl⟩
  ·
   refine qm hnt rfl rfl ?_
   refine r_cut0 3 [(0, pI n), (2, pB false), (16, pB ((((decide (1 ≤ n)) && (decide (n ≤ 6))) || (decide (n = 8))) || (decide (n = 15))))] ?_ ?_
   ·
    refine r_if tabOk hnt rfl rfl rfl (fun g3 => ?_) (fun g3 => ?_)
    ·
     have g3' := g3
     try simp only [sB] at g3'
     refine qm hnt rfl rfl ?_
     refine ry hnt rfl rfl rfl g3 ?_
     refine qo hnt rfl (s_eql rfl rfl ?_)
     refine qo hnt rfl (s_pick_f rfl g3 rfl ?_)
     refine r_eq (s := 16) (y := pB ((((decide (1 ≤ n)) && (decide (n ≤ 6))) || (decide (n = 8))) || (decide (n = 15)))) rfl (mix_of g3) ?_
     exact r_mid ⟨⟨rfl, rfl, rfl, trivial⟩, rfl, rfl⟩
    ·
     have g3' := g3
     try simp only [sB] at g3'
     refine rn hnt rfl rfl rfl g3 ?_
     refine qo hnt rfl (s_pick_t rfl g3 rfl ?_)
     refine r_eq (s := 16) (y := pB ((((decide (1 ≤ n)) && (decide (n ≤ 6))) || (decide (n = 8))) || (decide (n = 15)))) rfl (mix_ot _ g3) ?_
     exact r_mid ⟨⟨rfl, rfl, rfl, trivial⟩, rfl, rfl⟩
   ·
    refine qm hnt rfl rfl ?_
    refine r_cut0 3 [(0, pI n), (2, pB false), (20, pB (((((decide (1 ≤ n)) && (decide (n ≤ 6))) || (decide (n = 8))) || (decide (n = 15))) || (decide (n = 16))))] ?_ ?_
    ·
     refine r_if tabOk hnt rfl rfl rfl (fun g4 => ?_) (fun g4 => ?_)
     ·
      have g4' := g4
      try simp only [sB] at g4'
      refine qm hnt rfl rfl ?_
      refine ry hnt rfl rfl rfl g4 ?_
      refine qo hnt rfl (s_eql rfl rfl ?_)
      refine qo hnt rfl (s_pick_f rfl g4 rfl ?_)
      refine r_eq (s := 20) (y := pB (((((decide (1 ≤ n)) && (decide (n ≤ 6))) || (decide (n = 8))) || (decide (n = 15))) || (decide (n = 16)))) rfl (mix_of g4) ?_
      exact r_mid ⟨⟨rfl, rfl, rfl, trivial⟩, rfl, rfl⟩
     ·
      have g4' := g4
      try simp only [sB] at g4'
      refine rn hnt rfl rfl rfl g4 ?_
      refine qo hnt rfl (s_pick_t rfl g4 rfl ?_)
      refine r_eq (s := 20) (y := pB (((((decide (1 ≤ n)) && (decide (n ≤ 6))) || (decide (n = 8))) || (decide (n = 15))) || (decide (n = 16)))) rfl (mix_ot _ g4) ?_
      exact r_mid ⟨⟨rfl, rfl, rfl, trivial⟩, rfl, rfl⟩
    ·
     refine qm hnt rfl rfl ?_
     refine r_cut0 3 [(0, pI n), (2, pB false), (24, pB ((((((decide (1 ≤ n)) && (decide (n ≤ 6))) || (decide (n = 8))) || (decide (n = 15))) || (decide (n = 16))) || (decide (n = 17))))] ?_ ?_
     ·
      refine r_if tabOk hnt rfl rfl rfl (fun g5 => ?_) (fun g5 => ?_)
      ·
       have g5' := g5
       try simp only [sB] at g5'
       refine qm hnt rfl rfl ?_
       refine ry hnt rfl rfl rfl g5 ?_
       refine qo hnt rfl (s_eql rfl rfl ?_)
       refine qo hnt rfl (s_pick_f rfl g5 rfl ?_)
       refine r_eq (s := 24) (y := pB ((((((decide (1 ≤ n)) && (decide (n ≤ 6))) || (decide (n = 8))) || (decide (n = 15))) || (decide (n = 16))) || (decide (n = 17)))) rfl (mix_of g5) ?_
       exact r_mid ⟨⟨rfl, rfl, rfl, trivial⟩, rfl, rfl⟩
      ·
       have g5' := g5
       try simp only [sB] at g5'
       refine rn hnt rfl rfl rfl g5 ?_
       refine qo hnt rfl (s_pick_t rfl g5 rfl ?_)
       refine r_eq (s := 24) (y := pB ((((((decide (1 ≤ n)) && (decide (n ≤ 6))) || (decide (n = 8))) || (decide (n = 15))) || (decide (n = 16))) || (decide (n = 17)))) rfl (mix_ot _ g5) ?_
       exact r_mid ⟨⟨rfl, rfl, rfl, trivial⟩, rfl, rfl⟩
     ·
      refine qm hnt rfl rfl ?_
      refine r_cut0 3 [(0, pI n), (2, pB false), (28, pB (((((((decide (1 ≤ n)) && (decide (n ≤ 6))) || (decide (n = 8))) || (decide (n = 15))) || (decide (n = 16))) || (decide (n = 17))) || (decide (n = 22))))] ?_ ?_
      ·
       refine r_if tabOk hnt rfl rfl rfl (fun g6 => ?_) (fun g6 => ?_)
       ·
        have g6' := g6
        try simp only [sB] at g6'
        refine qm hnt rfl rfl ?_
        refine ry hnt rfl rfl rfl g6 ?_
        refine qo hnt rfl (s_eql rfl rfl ?_)
        refine qo hnt rfl (s_pick_f rfl g6 rfl ?_)
        refine r_eq (s := 28) (y := pB (((((((decide (1 ≤ n)) && (decide (n ≤ 6))) || (decide (n = 8))) || (decide (n = 15))) || (decide (n = 16))) || (decide (n = 17))) || (decide (n = 22)))) rfl (mix_of g6) ?_
        exact r_mid ⟨⟨rfl, rfl, rfl, trivial⟩, rfl, rfl⟩
       ·
        have g6' := g6
        try simp only [sB] at g6'
        refine rn hnt rfl rfl rfl g6 ?_
        refine qo hnt rfl (s_pick_t rfl g6 rfl ?_)
        refine r_eq (s := 28) (y := pB (((((((decide (1 ≤ n)) && (decide (n ≤ 6))) || (decide (n = 8))) || (decide (n = 15))) || (decide (n = 16))) || (decide (n = 17))) || (decide (n = 22)))) rfl (mix_ot _ g6) ?_
        exact r_mid ⟨⟨rfl, rfl, rfl, trivial⟩, rfl, rfl⟩
      ·
       refine qm hnt rfl rfl ?_
       refine r_cut0 3 [(2, pB false), (32, pB ((((((((decide (1 ≤ n)) && (decide (n ≤ 6))) || (decide (n = 8))) || (decide (n = 15))) || (decide (n = 16))) || (decide (n = 17))) || (decide (n = 22))) || (decide (n = 23))))] ?_ ?_
       ·
        refine r_if tabOk hnt rfl rfl rfl (fun g7 => ?_) (fun g7 => ?_)
        ·
         have g7' := g7
         try simp only [sB] at g7'
         refine qm hnt rfl rfl ?_
         refine ry hnt rfl rfl rfl g7 ?_
         refine qo hnt rfl (s_eql rfl rfl ?_)
         refine qo hnt rfl (s_pick_f rfl g7 rfl ?_)
         refine r_eq (s := 32) (y := pB ((((((((decide (1 ≤ n)) && (decide (n ≤ 6))) || (decide (n = 8))) || (decide (n = 15))) || (decide (n = 16))) || (decide (n = 17))) || (decide (n = 22))) || (decide (n = 23)))) rfl (mix_of g7) ?_
         exact r_mid ⟨⟨rfl, rfl, trivial⟩, rfl, rfl⟩
        ·
         have g7' := g7
         try simp only [sB] at g7'
         refine rn hnt rfl rfl rfl g7 ?_
         refine qo hnt rfl (s_pick_t rfl g7 rfl ?_)
         refine r_eq (s := 32) (y := pB ((((((((decide (1 ≤ n)) && (decide (n ≤ 6))) || (decide (n = 8))) || (decide (n = 15))) || (decide (n = 16))) || (decide (n = 17))) || (decide (n = 22))) || (decide (n = 23)))) rfl (mix_ot _ g7) ?_
         exact r_mid ⟨⟨rfl, rfl, trivial⟩, rfl, rfl⟩
       ·
        refine qa hnt rfl rfl ?_
        refine r_end ?_
        refine q_then ?_
        refine w_le (s := 2) (y := pB (hasF n)) rfl (le_of_eq (congrArg (fun z : Bool => pB z) (show ((((((((decide (1 ≤ n)) && (decide (n ≤ 6))) || (decide (n = 8))) || (decide (n = 15))) || (decide (n = 16))) || (decide (n = 17))) || (decide (n = 22))) || (decide (n = 23))) = (hasF n) by unfold hasF; apply Bool.eq_iff_iff.2; simp only [Bool.and_eq_true, Bool.or_eq_true, decide_eq_true_eq]; try omega))) ?_
        refine w_ret ?_
        exact fin_plain (ret_tmp rfl ret_nil) rfl rfl ⟨rfl, rfl, rfl⟩
theorem w_burgageref3_word (n : Int)  :
    T Try.prog 85 [pI n] 0 [] (Ret (pB (wordOk n)) 0 []) := by
 refine t_fun tabOk (n := 9) (rs := [.tmp 2]) Try.func85 rfl rfl rfl rfl (Nat.le_of_ble_eq_true rfl) ?_
 intro c hnt hk
 refine w_seq ?_
 refine w_R ?_
 refine qa hnt rfl rfl ?_
 refine r_end ?_
 refine q_then ?_
 refine w_seq ?_
 refine w_R ?_
 refine qm hnt rfl rfl ?_
 refine qo hnt rfl (s_geq rfl rfl ?_)
 refine qm hnt rfl rfl ?_
 refine r_cut0 3 [(2, pB false), (8, pB ((decide (0 ≤ n)) && (decide (n ≤ 65535))))] ?_ ?_
 ·
  refine r_if tabOk hnt rfl rfl rfl (fun g1 => ?_) (fun g1 => ?_)
  ·
   have g1' := g1
   try simp only [sB] at g1'
   refine qm hnt rfl rfl ?_
   refine ry hnt rfl rfl rfl g1 ?_
   refine qo hnt rfl (s_leq rfl rfl ?_)
   refine qo hnt rfl (s_pick_t rfl g1 rfl ?_)
   refine r_eq (s := 8) (y := pB ((decide (0 ≤ n)) && (decide (n ≤ 65535)))) rfl (mix_at g1) ?_
   exact r_mid ⟨⟨rfl, rfl, trivial⟩, rfl, rfl⟩
  ·
   have g1' := g1
   try simp only [sB] at g1'
   refine rn hnt rfl rfl rfl g1 ?_
   refine qo hnt rfl (s_pick_f rfl g1 rfl ?_)
   refine r_eq (s := 8) (y := pB ((decide (0 ≤ n)) && (decide (n ≤ 65535)))) rfl (mix_af _ g1) ?_
   exact r_mid ⟨⟨rfl, rfl, trivial⟩, rfl, rfl⟩
 ·
  refine qa hnt rfl rfl ?_
  refine r_end ?_
  refine q_then ?_
  refine w_le (s := 2) (y := pB (wordOk n)) rfl (le_of_eq (congrArg (fun z : Bool => pB z) (show ((decide (0 ≤ n)) && (decide (n ≤ 65535))) = (wordOk n) by unfold wordOk; apply Bool.eq_iff_iff.2; simp only [Bool.and_eq_true, Bool.or_eq_true, decide_eq_true_eq]; try omega))) ?_
  refine w_ret ?_
  exact fin_plain (ret_tmp rfl ret_nil) rfl rfl ⟨rfl, rfl, rfl⟩
theorem w_burgageref3_uses (n : Int)  :
    T Try.prog 83 [pI n] 0 [] (Ret (pT (usesS n)) 0 []) := by
 refine t_fun tabOk (n := 23) (rs := [.tmp 2]) Try.func83 rfl rfl rfl rfl (Nat.le_of_ble_eq_true rfl) ?_
 intro c hnt hk
 refine w_seq ?_
 refine w_R ?_
 refine qa hnt rfl rfl ?_
 refine r_end ?_
 refine q_then ?_
 refine w_seq ?_
 refine w_seq ?_
 refine w_R ?_
 refine qm hnt rfl rfl ?_
 refine r_end ?_
 refine q_then ?_
 refine w_block ?_
 refine w_seq ?_
 refine w_seq ?_
 refine w_R ?_
 refine qo hnt rfl (s_eql rfl rfl ?_)
 refine qa hnt rfl rfl ?_
 refine r_end ?_
 refine q_then ?_
 refine w_if rfl (fun c1 => ?_) (fun c1 => ?_)
 ·
  have c1_ := c1
  try simp only [sB] at c1
  refine w_skip ?_
  refine q_then ?_
  refine w_if rfl (fun _ => ?_) (fun e => absurd (e.symm.trans c1_) (by decide))
  refine w_seq ?_
  refine w_R ?_
  refine qa hnt rfl rfl ?_
  refine r_end ?_
  refine q_then ?_
  refine w_le (s := 2) (y := pT (usesS n)) rfl (le_of_eq (congrArg (fun z : List UInt8 => pT z) (show ([97, 99] : List UInt8) = (usesS n) by first | (simp [usesS, *]; done) | simp [usesS, *]))) ?_
  refine w_ret ?_
  refine q_block_ret ?_
  refine q_then_ret ?_
  exact fin_plain (ret_tmp rfl ret_nil) rfl rfl ⟨rfl, rfl, rfl⟩
 ·
  have c1_ := c1
  try simp only [sB] at c1
  refine w_seq ?_
  refine w_R ?_
  refine qo hnt rfl (s_eql rfl rfl ?_)
  refine qa hnt rfl rfl ?_
  refine r_end ?_
  refine q_then ?_
  refine w_if rfl (fun c2 => ?_) (fun c2 => ?_)
  ·
   have c2_ := c2
   try simp only [sB] at c2
   refine w_skip ?_
   refine q_then ?_
   refine w_if rfl (fun _ => ?_) (fun e => absurd (e.symm.trans c2_) (by decide))
   refine w_seq ?_
   refine w_R ?_
   refine qa hnt rfl rfl ?_
   refine r_end ?_
   refine q_then ?_
   refine w_le (s := 2) (y := pT (usesS n)) rfl (le_of_eq (congrArg (fun z : List UInt8 => pT z) (show ([97, 99] : List UInt8) = (usesS n) by first | (simp [usesS, *]; done) | simp [usesS, *]))) ?_
   refine w_ret ?_
   refine q_block_ret ?_
   refine q_then_ret ?_
   exact fin_plain (ret_tmp rfl ret_nil) rfl rfl ⟨rfl, rfl, rfl⟩
  ·
   have c2_ := c2
   try simp only [sB] at c2
   refine w_seq ?_
   refine w_R ?_
   refine qo hnt rfl (s_eql rfl rfl ?_)
   refine qa hnt rfl rfl ?_
   refine r_end ?_
   refine q_then ?_
   refine w_if rfl (fun c3 => ?_) (fun c3 => ?_)
   ·
    have c3_ := c3
    try simp only [sB] at c3
    refine w_skip ?_
    refine q_then ?_
    refine w_if rfl (fun _ => ?_) (fun e => absurd (e.symm.trans c3_) (by decide))
    refine w_seq ?_
    refine w_R ?_
    refine qa hnt rfl rfl ?_
    refine r_end ?_
    refine q_then ?_
    refine w_le (s := 2) (y := pT (usesS n)) rfl (le_of_eq (congrArg (fun z : List UInt8 => pT z) (show ([97, 99] : List UInt8) = (usesS n) by first | (simp [usesS, *]; done) | simp [usesS, *]))) ?_
    refine w_ret ?_
    refine q_block_ret ?_
    refine q_then_ret ?_
    exact fin_plain (ret_tmp rfl ret_nil) rfl rfl ⟨rfl, rfl, rfl⟩
   ·
    have c3_ := c3
    try simp only [sB] at c3
    refine w_R ?_
    refine qo hnt rfl (s_eql rfl rfl ?_)
    refine qa hnt rfl rfl ?_
    refine r_end ?_
    refine q_then ?_
    refine w_if rfl (fun c4 => ?_) (fun c4 => ?_)
    ·
     have c4_ := c4
     try simp only [sB] at c4
     refine w_seq ?_
     refine w_R ?_
     refine qa hnt rfl rfl ?_
     refine r_end ?_
     refine q_then ?_
     refine w_le (s := 2) (y := pT (usesS n)) rfl (le_of_eq (congrArg (fun z : List UInt8 => pT z) (show ([97, 99] : List UInt8) = (usesS n) by first | (simp [usesS, *]; done) | simp [usesS, *]))) ?_
     refine w_ret ?_
     refine q_block_ret ?_
     refine q_then_ret ?_
     exact fin_plain (ret_tmp rfl ret_nil) rfl rfl ⟨rfl, rfl, rfl⟩
    ·
     have c4_ := c4
     try simp only [sB] at c4
     refine w_seq ?_
     refine w_R ?_
     refine qo hnt rfl (s_eql rfl rfl ?_)
     refine qa hnt rfl rfl ?_
     refine r_end ?_
     refine q_then ?_
     refine w_if rfl (fun c5 => ?_) (fun c5 => ?_)
     ·
      have c5_ := c5
      try simp only [sB] at c5
      refine w_seq ?_
      refine w_R ?_
      refine qa hnt rfl rfl ?_
      refine r_end ?_
      refine q_then ?_
      refine w_le (s := 2) (y := pT (usesS n)) rfl (le_of_eq (congrArg (fun z : List UInt8 => pT z) (show ([97, 98] : List UInt8) = (usesS n) by first | (simp [usesS, *]; done) | simp [usesS, *]))) ?_
      refine w_ret ?_
      refine q_block_ret ?_
      refine q_then_ret ?_
      exact fin_plain (ret_tmp rfl ret_nil) rfl rfl ⟨rfl, rfl, rfl⟩
     ·
      have c5_ := c5
      try simp only [sB] at c5
      refine w_seq ?_
      refine w_R ?_
      refine qo hnt rfl (s_eql rfl rfl ?_)
      refine qa hnt rfl rfl ?_
      refine r_end ?_
      refine q_then ?_
      refine w_if rfl (fun c6 => ?_) (fun c6 => ?_)
      ·
       have c6_ := c6
       try simp only [sB] at c6
       refine w_seq ?_
       refine w_R ?_
       refine qa hnt rfl rfl ?_
       refine r_end ?_
       refine q_then ?_
       refine w_le (s := 2) (y := pT (usesS n)) rfl (le_of_eq (congrArg (fun z : List UInt8 => pT z) (show ([97, 118] : List UInt8) = (usesS n) by first | (simp [usesS, *]; done) | simp [usesS, *]))) ?_
       refine w_ret ?_
       refine q_block_ret ?_
       refine q_then_ret ?_
       exact fin_plain (ret_tmp rfl ret_nil) rfl rfl ⟨rfl, rfl, rfl⟩
      ·
       have c6_ := c6
       try simp only [sB] at c6
       refine w_seq ?_
       refine w_R ?_
       refine qo hnt rfl (s_eql rfl rfl ?_)
       refine qa hnt rfl rfl ?_
       refine r_end ?_
       refine q_then ?_
       refine w_if rfl (fun c7 => ?_) (fun c7 => ?_)
       ·
        have c7_ := c7
        try simp only [sB] at c7
        refine w_seq ?_
        refine w_R ?_
        refine qa hnt rfl rfl ?_
        refine r_end ?_
        refine q_then ?_
        refine w_le (s := 2) (y := pT (usesS n)) rfl (le_of_eq (congrArg (fun z : List UInt8 => pT z) (show ([115, 118] : List UInt8) = (usesS n) by first | (simp [usesS, *]; done) | simp [usesS, *]))) ?_
        refine w_ret ?_
        refine q_block_ret ?_
        refine q_then_ret ?_
        exact fin_plain (ret_tmp rfl ret_nil) rfl rfl ⟨rfl, rfl, rfl⟩
       ·
        have c7_ := c7
        try simp only [sB] at c7
        refine w_seq ?_
        refine w_R ?_
        refine qo hnt rfl (s_eql rfl rfl ?_)
        refine qa hnt rfl rfl ?_
        refine r_end ?_
        refine q_then ?_
        refine w_if rfl (fun c8 => ?_) (fun c8 => ?_)
        ·
         have c8_ := c8
         try simp only [sB] at c8
         refine w_seq ?_
         refine w_R ?_
         refine qa hnt rfl rfl ?_
         refine r_end ?_
         refine q_then ?_
         refine w_le (s := 2) (y := pT (usesS n)) rfl (le_of_eq (congrArg (fun z : List UInt8 => pT z) (show ([97, 99, 98] : List UInt8) = (usesS n) by first | (simp [usesS, *]; done) | simp [usesS, *]))) ?_
         refine w_ret ?_
         refine q_block_ret ?_
         refine q_then_ret ?_
         exact fin_plain (ret_tmp rfl ret_nil) rfl rfl ⟨rfl, rfl, rfl⟩
        ·
         have c8_ := c8
         try simp only [sB] at c8
         refine w_seq ?_
         refine w_R ?_
         refine qo hnt rfl (s_eql rfl rfl ?_)
         refine qa hnt rfl rfl ?_
         refine r_end ?_
         refine q_then ?_
         refine w_if rfl (fun c9 => ?_) (fun c9 => ?_)
         ·
          have c9_ := c9
          try simp only [sB] at c9
          refine w_seq ?_
          refine w_R ?_
          refine qa hnt rfl rfl ?_
          refine r_end ?_
          refine q_then ?_
          refine w_le (s := 2) (y := pT (usesS n)) rfl (le_of_eq (congrArg (fun z : List UInt8 => pT z) (show ([97, 99, 118] : List UInt8) = (usesS n) by first | (simp [usesS, *]; done) | simp [usesS, *]))) ?_
          refine w_ret ?_
          refine q_block_ret ?_
          refine q_then_ret ?_
          exact fin_plain (ret_tmp rfl ret_nil) rfl rfl ⟨rfl, rfl, rfl⟩
         ·
          have c9_ := c9
          try simp only [sB] at c9
          refine w_seq ?_
          refine w_R ?_
          refine qo hnt rfl (s_eql rfl rfl ?_)
          refine qa hnt rfl rfl ?_
          refine r_end ?_
          refine q_then ?_
          refine w_if rfl (fun c10 => ?_) (fun c10 => ?_)
          ·
           have c10_ := c10
           try simp only [sB] at c10
           refine w_seq ?_
           refine w_R ?_
           refine qa hnt rfl rfl ?_
           refine r_end ?_
           refine q_then ?_
           refine w_le (s := 2) (y := pT (usesS n)) rfl (le_of_eq (congrArg (fun z : List UInt8 => pT z) (show ([97, 109] : List UInt8) = (usesS n) by first | (simp [usesS, *]; done) | simp [usesS, *]))) ?_
           refine w_ret ?_
           refine q_block_ret ?_
           refine q_then_ret ?_
           exact fin_plain (ret_tmp rfl ret_nil) rfl rfl ⟨rfl, rfl, rfl⟩
          ·
           have c10_ := c10
           try simp only [sB] at c10
           refine w_seq ?_
           refine w_R ?_
           refine qo hnt rfl (s_eql rfl rfl ?_)
           refine qa hnt rfl rfl ?_
           refine r_end ?_
           refine q_then ?_
           refine w_if rfl (fun c11 => ?_) (fun c11 => ?_)
           ·
            have c11_ := c11
            try simp only [sB] at c11
            refine w_seq ?_
            refine w_R ?_
            refine qa hnt rfl rfl ?_
            refine r_end ?_
            refine q_then ?_
            refine w_le (s := 2) (y := pT (usesS n)) rfl (le_of_eq (congrArg (fun z : List UInt8 => pT z) (show ([97, 99, 119, 118] : List UInt8) = (usesS n) by first | (simp [usesS, *]; done) | simp [usesS, *]))) ?_
            refine w_ret ?_
            refine q_block_ret ?_
            refine q_then_ret ?_
            exact fin_plain (ret_tmp rfl ret_nil) rfl rfl ⟨rfl, rfl, rfl⟩
           ·
            have c11_ := c11
            try simp only [sB] at c11
            refine w_skip ?_
            refine q_block ?_
            refine q_then ?_
            refine w_seq ?_
            refine w_R ?_
            refine qa hnt rfl rfl ?_
            refine r_end ?_
            refine q_then ?_
            refine w_le (s := 2) (y := pT (usesS n)) rfl (le_of_eq (congrArg (fun z : List UInt8 => pT z) (show ([] : List UInt8) = (usesS n) by first | (simp [usesS, *]; done) | simp [usesS, *]))) ?_
            refine w_ret ?_
            exact fin_plain (ret_tmp rfl ret_nil) rfl rfl ⟨rfl, rfl, rfl⟩
theorem w_burgageref3_in (s : List UInt8) (ch : UInt8) (hs : s.length ≤ 140737488351232) :
    T Try.prog 84 [pT s, p8 ch] 0 [] (Ret (pB (inS s ch)) 0 []) := by
 refine t_fun tabOk (n := 17) (rs := [.tmp 4]) Try.func84 rfl rfl rfl rfl (Nat.le_of_ble_eq_true rfl) ?_
 intro c hnt hk
 refine w_seq ?_
 refine w_R ?_
 refine qa hnt rfl rfl ?_
 refine r_end ?_
 refine q_then ?_
 refine w_seq ?_
 refine w_seq ?_
 refine w_R ?_
 refine qa hnt rfl rfl ?_
 refine r_end ?_
 refine q_then ?_
 refine w_block ?_
 refine loop1 (fun (i : Nat) => i ≤ s.length ∧ ∀ x ∈ s.take i, x ≠ ch) (fun (i : Nat) => [(0, pT s), (1, p8 ch), (5, pN i)]) 0 (fun (i : Nat) => []) (fun (i : Nat) => s.length - i) (0) ?_ ⟨[], rfl, ⟨⟨_, rfl, rfl, rfl⟩, ⟨_, rfl, rfl, rfl⟩, ⟨_, rfl, rfl, rfl⟩, trivial⟩, trivial, by rw [hk]; decide⟩ ?_
 · exact ⟨Nat.zero_le _, by simp⟩
 ·
  intro i hI
  obtain ⟨hi, hn⟩ := hI
  refine w_seq ?_
  refine w_seq ?_
  refine w_R ?_
  refine qm hnt rfl rfl ?_
  refine qm hnt rfl rfl ?_
  refine qo hnt rfl (s_lenT (l := s) tab_9 rfl rfl ?_)
  refine qo hnt rfl (s_lss rfl rfl ?_)
  refine r_end ?_
  refine q_then ?_
  refine w_if rfl (fun c1 => ?_) (fun c1 => ?_)
  ·
   have c1_ := c1
   try simp only [sB] at c1
   refine w_skip ?_
   refine q_then ?_
   refine w_seq ?_
   refine w_block ?_
   refine w_seq ?_
   refine w_R ?_
   refine qm hnt rfl rfl ?_
   refine qm hnt rfl rfl ?_
   obtain ⟨e1, he1⟩ := get_of_lt s (i := i) (by omega)
   refine qo hnt rfl (s_idxM (q := i) (b := e1) (s := s) tab_9 rfl rfl (by omega) rfl he1 ?_)
   refine qm hnt rfl rfl ?_
   refine qo hnt rfl (s_eql8 (a := e1) (b := ch) rfl rfl ?_)
   refine r_end ?_
   refine q_then ?_
   refine w_if rfl (fun c2 => ?_) (fun c2 => ?_)
   ·
    have c2_ := c2
    try simp only [sB] at c2
    refine w_seq ?_
    refine w_R ?_
    refine qa hnt rfl rfl ?_
    refine r_end ?_
    refine q_then ?_
    refine w_le (s := 4) (y := pB (inS s ch)) rfl (le_of_eq (congrArg (fun z : Bool => pB z) (show true = (inS s ch) by unfold inS; exact (decide_eq_true (by rw [← (by simpa using c2 : e1 = ch)]; exact List.mem_of_getElem? he1)).symm))) ?_
    refine w_ret ?_
    refine q_block_ret ?_
    refine q_then_ret ?_
    refine q_then_ret ?_
    refine q_block_ret ?_
    refine q_then_ret ?_
    exact fin_plain (ret_tmp rfl ret_nil) rfl rfl ⟨rfl, rfl, rfl⟩
   ·
    have c2_ := c2
    try simp only [sB] at c2
    refine w_skip ?_
    refine q_block ?_
    refine q_then ?_
    refine w_R ?_
    refine qm hnt rfl rfl ?_
    refine qo hnt rfl (s_addN (a := i) (b := 1) rfl rfl (by omega) (by omega) (by omega) ?_)
    refine qa hnt rfl rfl ?_
    refine r_end ?_
    refine q_then ?_
    refine ⟨(i + 1), ?_, ?_, ⟨[], rfl, ⟨⟨_, rfl, rfl, rfl⟩, ⟨_, rfl, rfl, rfl⟩, ⟨_, rfl, rfl, rfl⟩, trivial⟩, trivial, by rw [hk]; decide⟩⟩
    ·
     refine ⟨by omega, fun x hx => ?_⟩
     rw [List.take_add_one, he1] at hx
     rcases List.mem_append.1 hx with h | h
     · exact hn x h
     · simp at h; subst h; simpa using c2
    · omega
  ·
   have c1_ := c1
   try simp only [sB] at c1
   have hn2 : ∀ x ∈ s, x ≠ ch := by rw [List.take_of_length_le (by omega)] at hn; exact hn
   refine w_exit ?_
   refine q_then_exit ?_
   refine q_then_exit ?_
   refine q_block_exit ?_
   refine q_then ?_
   refine w_seq ?_
   refine w_R ?_
   refine qa hnt rfl rfl ?_
   refine r_end ?_
   refine q_then ?_
   refine w_le (s := 4) (y := pB (inS s ch)) rfl (le_of_eq (congrArg (fun z : Bool => pB z) (show false = (inS s ch) by unfold inS; exact (decide_eq_false (fun h => hn2 _ h rfl)).symm))) ?_
   refine w_ret ?_
   exact fin_plain (ret_tmp rfl ret_nil) rfl rfl ⟨rfl, rfl, rfl⟩
theorem w_burgageref3_lists (r : TRequest) (hb : r.bits.length ≤ 140737488351232) (hv : r.vals.length ≤ 140737488351232) :
    T Try.prog 86 [PV.f (eRequest r)] 0 [] (Ret (pB (listsR r)) 0 []) := by
 refine t_fun tabOk (n := 46) (rs := [.tmp 2]) Try.func86 rfl rfl rfl rfl (Nat.le_of_ble_eq_true rfl) ?_
 intro c hnt hk
 refine w_seq ?_
 refine w_R ?_
 refine qo hnt rfl (s_box rfl rfl ?_)
 refine qa hnt rfl rfl ?_
 refine r_set [(1, PV.ptr 0 0)] [(0, .obj [pI r.fn, pI r.at_, pI r.count, pI r.wAt, pI r.sub, pS 1 false encBo r.bits, pS 1 false enc16 r.vals, p16 r.and_, p16 r.or_])] 1 ⟨rfl, trivial⟩ rfl rfl ?_
 refine r_end ?_
 refine q_then ?_
 refine w_seq ?_
 refine W_drawn tabOk mixed hnt [[], [0], [0, 1], [], [3], [3, 4], [0, 1, 2], [0, 1, 2, 3, 4, 5, 6]] (by kernel_rfl) ?_
 refine d_op ?_
 refine x_run0 [(1, PV.ptr 0 0)] [] rfl rfl rfl rfl (s_fa_ptr tab_107 rfl rfl tab_44 (by decide) rfl ⟨rfl, rfl, rfl⟩) ?_
 refine d_op ?_
 refine x_run [(5, PV.ptr 0 5)] [0] [(0, .obj [pI r.fn, pI r.at_, pI r.count, pI r.wAt, pI r.sub, pS 1 false encBo r.bits, pS 1 false enc16 r.vals, p16 r.and_, p16 r.or_])] [] [(0, .obj [pI r.fn, pI r.at_, pI r.count, pI r.wAt, pI r.sub, pS 1 false encBo r.bits, pS 1 false enc16 r.vals, p16 r.and_, p16 r.or_])] [] [(0, .obj [pI r.fn, pI r.at_, pI r.count, pI r.wAt, pI r.sub, pS 1 false encBo r.bits, pS 1 false enc16 r.vals, p16 r.and_, p16 r.or_])] rfl rfl rfl rfl rfl rfl (s_load_ptr1 tab_44 rfl rfl rfl rfl rfl ⟨rfl, rfl, rfl⟩) rfl ⟨rfl, trivial⟩ rfl rfl ?_
 refine d_op ?_
 refine x_run0 [(6, pS 1 false encBo r.bits)] [0, 1] rfl rfl rfl rfl (s_lenM (l := r.bits) tab_44 rfl (hM_sl (f := encBo) rfl) ⟨rfl, rfl, rfl⟩) ?_
 refine d_op ?_
 refine x_run0 [(1, PV.ptr 0 0)] [] rfl rfl rfl rfl (s_fa_ptr tab_107 rfl rfl tab_45 (by decide) rfl ⟨rfl, rfl, rfl⟩) ?_
 refine d_op ?_
 refine x_run [(8, PV.ptr 0 6)] [3] [(0, .obj [pI r.fn, pI r.at_, pI r.count, pI r.wAt, pI r.sub, pS 1 false encBo r.bits, pS 1 false enc16 r.vals, p16 r.and_, p16 r.or_])] [] [(0, .obj [pI r.fn, pI r.at_, pI r.count, pI r.wAt, pI r.sub, pS 1 false encBo r.bits, pS 1 false enc16 r.vals, p16 r.and_, p16 r.or_])] [] [(0, .obj [pI r.fn, pI r.at_, pI r.count, pI r.wAt, pI r.sub, pS 1 false encBo r.bits, pS 1 false enc16 r.vals, p16 r.and_, p16 r.or_])] rfl rfl rfl rfl rfl rfl (s_load_ptr1 tab_45 rfl rfl rfl rfl rfl ⟨rfl, rfl, rfl⟩) rfl ⟨rfl, trivial⟩ rfl rfl ?_
 refine d_op ?_
 refine x_run0 [(9, pS 1 false enc16 r.vals)] [3, 4] rfl rfl rfl rfl (s_lenM (l := r.vals) tab_45 rfl (hM_sl (f := enc16) rfl) ⟨rfl, rfl, rfl⟩) ?_
 refine d_op ?_
 refine x_run0 [(7, pN r.bits.length)] [0, 1, 2] rfl rfl rfl rfl (s_assign rfl ⟨rfl, rfl, rfl⟩) ?_
 refine d_op ?_
 refine x_run0 [(10, pN r.vals.length)] [0, 1, 2, 3, 4, 5, 6] rfl rfl rfl rfl (s_assign rfl ⟨rfl, rfl, rfl⟩) ?_
 refine d_end ⟨by kernel_rfl, ?_⟩
 refine q_then ?_
 refine w_seq ?_
 refine w_seq ?_
 refine w_R ?_
 refine qo hnt rfl (s_fa_ptr tab_107 rfl rfl tab_3 (by decide) rfl ?_)
 refine qo hnt rfl (s_load_ptr1 tab_3 rfl rfl rfl rfl rfl ?_)
 refine r_end ?_
 refine q_then ?_
 refine w_block ?_
 refine w_seq ?_
 refine w_R ?_
 refine qo hnt rfl (s_eql rfl rfl ?_)
 refine qa hnt rfl rfl ?_
 refine r_end ?_
 refine q_then ?_
 refine w_if rfl (fun c1 => ?_) (fun c1 => ?_)
 ·
  have c1_ := c1
  try simp only [sB] at c1
  refine w_seq ?_
  refine w_R ?_
  refine qm hnt rfl rfl ?_
  refine qo hnt rfl (s_eql rfl rfl ?_)
  refine qa hnt rfl rfl ?_
  refine r_end ?_
  refine q_then ?_
  refine w_le (s := 2) (y := pB (listsR r)) rfl (le_of_eq (congrArg (fun z : Bool => pB z) (show (decide (((r.bits.length : Nat) : Int) = 1)) = (listsR r) by first | exact (listsR_5 (by assumption)).symm | exact (listsR_6 (by assumption)).symm | exact (listsR_8 (by assumption)).symm | exact (listsR_15 (by assumption)).symm | exact (listsR_16 (by assumption)).symm | exact (listsR_23 (by assumption)).symm | exact (listsR_no (by omega)).symm))) ?_
  refine w_ret ?_
  refine q_block_ret ?_
  refine q_then_ret ?_
  exact fin_plain (ret_tmp rfl ret_nil) rfl rfl ⟨rfl, rfl, rfl⟩
 ·
  have c1_ := c1
  try simp only [sB] at c1
  refine w_seq ?_
  refine w_seq ?_
  refine w_R ?_
  refine qo hnt rfl (s_eql rfl rfl ?_)
  refine qa hnt rfl rfl ?_
  refine r_end ?_
  refine q_then ?_
  refine w_if rfl (fun c2 => ?_) (fun c2 => ?_)
  ·
   have c2_ := c2
   try simp only [sB] at c2
   refine w_skip ?_
   refine q_then ?_
   refine w_if rfl (fun _ => ?_) (fun e => absurd (e.symm.trans c2_) (by decide))
   refine w_seq ?_
   refine w_R ?_
   refine qm hnt rfl rfl ?_
   refine qo hnt rfl (s_eql rfl rfl ?_)
   refine qa hnt rfl rfl ?_
   refine r_end ?_
   refine q_then ?_
   refine w_le (s := 2) (y := pB (listsR r)) rfl (le_of_eq (congrArg (fun z : Bool => pB z) (show (decide (((r.vals.length : Nat) : Int) = 1)) = (listsR r) by first | exact (listsR_5 (by assumption)).symm | exact (listsR_6 (by assumption)).symm | exact (listsR_8 (by assumption)).symm | exact (listsR_15 (by assumption)).symm | exact (listsR_16 (by assumption)).symm | exact (listsR_23 (by assumption)).symm | exact (listsR_no (by omega)).symm))) ?_
   refine w_ret ?_
   refine q_block_ret ?_
   refine q_then_ret ?_
   exact fin_plain (ret_tmp rfl ret_nil) rfl rfl ⟨rfl, rfl, rfl⟩
  ·
   have c2_ := c2
   try simp only [sB] at c2
   refine w_R ?_
   refine qo hnt rfl (s_eql rfl rfl ?_)
   refine qa hnt rfl rfl ?_
   refine r_end ?_
   refine q_then ?_
   refine w_if rfl (fun c3 => ?_) (fun c3 => ?_)
   ·
    have c3_ := c3
    try simp only [sB] at c3
    refine w_seq ?_
    refine w_R ?_
    refine qm hnt rfl rfl ?_
    refine qo hnt rfl (s_eql rfl rfl ?_)
    refine qa hnt rfl rfl ?_
    refine r_end ?_
    refine q_then ?_
    refine w_le (s := 2) (y := pB (listsR r)) rfl (le_of_eq (congrArg (fun z : Bool => pB z) (show (decide (((r.vals.length : Nat) : Int) = 1)) = (listsR r) by first | exact (listsR_5 (by assumption)).symm | exact (listsR_6 (by assumption)).symm | exact (listsR_8 (by assumption)).symm | exact (listsR_15 (by assumption)).symm | exact (listsR_16 (by assumption)).symm | exact (listsR_23 (by assumption)).symm | exact (listsR_no (by omega)).symm))) ?_
    refine w_ret ?_
    refine q_block_ret ?_
    refine q_then_ret ?_
    exact fin_plain (ret_tmp rfl ret_nil) rfl rfl ⟨rfl, rfl, rfl⟩
   ·
    have c3_ := c3
    try simp only [sB] at c3
    refine w_seq ?_
    refine w_R ?_
    refine qo hnt rfl (s_eql rfl rfl ?_)
    refine qa hnt rfl rfl ?_
    refine r_end ?_
    refine q_then ?_
    refine w_if rfl (fun c4 => ?_) (fun c4 => ?_)
    ·
     have c4_ := c4
     try simp only [sB] at c4
     refine w_seq ?_
     refine w_R ?_
     refine qm hnt rfl rfl ?_
     refine qo hnt rfl (s_fa_ptr tab_107 rfl rfl tab_3 (by decide) rfl ?_)
     refine qo hnt rfl (s_load_ptr1 tab_3 rfl rfl rfl rfl rfl ?_)
     refine qo hnt rfl (s_eql rfl rfl ?_)
     refine qm hnt rfl rfl ?_
     refine r_cut0 3 [(31, pB ((decide (((r.bits.length : Nat) : Int) = r.count)) && (decide (((r.bits.length : Nat) : Int) ≤ 2040))))] ?_ ?_
     ·
      refine r_if tabOk hnt rfl rfl rfl (fun g1 => ?_) (fun g1 => ?_)
      ·
       have g1' := g1
       try simp only [sB] at g1'
       refine qm hnt rfl rfl ?_
       refine ry hnt rfl rfl rfl g1 ?_
       refine qo hnt rfl (s_leq rfl rfl ?_)
       refine qo hnt rfl (s_pick_t rfl g1 rfl ?_)
       refine r_eq (s := 31) (y := pB ((decide (((r.bits.length : Nat) : Int) = r.count)) && (decide (((r.bits.length : Nat) : Int) ≤ 2040)))) rfl (mix_at g1) ?_
       exact r_mid ⟨⟨rfl, trivial⟩, rfl, rfl⟩
      ·
       have g1' := g1
       try simp only [sB] at g1'
       refine rn hnt rfl rfl rfl g1 ?_
       refine qo hnt rfl (s_pick_f rfl g1 rfl ?_)
       refine r_eq (s := 31) (y := pB ((decide (((r.bits.length : Nat) : Int) = r.count)) && (decide (((r.bits.length : Nat) : Int) ≤ 2040)))) rfl (mix_af _ g1) ?_
       exact r_mid ⟨⟨rfl, trivial⟩, rfl, rfl⟩
     ·
      refine qa hnt rfl rfl ?_
      refine r_end ?_
      refine q_then ?_
      refine w_le (s := 2) (y := pB (listsR r)) rfl (le_of_eq (congrArg (fun z : Bool => pB z) (show ((decide (((r.bits.length : Nat) : Int) = r.count)) && (decide (((r.bits.length : Nat) : Int) ≤ 2040))) = (listsR r) by first | exact (listsR_5 (by assumption)).symm | exact (listsR_6 (by assumption)).symm | exact (listsR_8 (by assumption)).symm | exact (listsR_15 (by assumption)).symm | exact (listsR_16 (by assumption)).symm | exact (listsR_23 (by assumption)).symm | exact (listsR_no (by omega)).symm))) ?_
      refine w_ret ?_
      refine q_block_ret ?_
      refine q_then_ret ?_
      exact fin_plain (ret_tmp rfl ret_nil) rfl rfl ⟨rfl, rfl, rfl⟩
    ·
     have c4_ := c4
     try simp only [sB] at c4
     refine w_seq ?_
     refine w_R ?_
     refine qo hnt rfl (s_eql rfl rfl ?_)
     refine qa hnt rfl rfl ?_
     refine r_end ?_
     refine q_then ?_
     refine w_if rfl (fun c5 => ?_) (fun c5 => ?_)
     ·
      have c5_ := c5
      try simp only [sB] at c5
      refine w_seq ?_
      refine w_R ?_
      refine qm hnt rfl rfl ?_
      refine qo hnt rfl (s_fa_ptr tab_107 rfl rfl tab_3 (by decide) rfl ?_)
      refine qo hnt rfl (s_load_ptr1 tab_3 rfl rfl rfl rfl rfl ?_)
      refine qo hnt rfl (s_eql rfl rfl ?_)
      refine qm hnt rfl rfl ?_
      refine r_cut0 3 [(41, pB ((decide (((r.vals.length : Nat) : Int) = r.count)) && (decide (((r.vals.length : Nat) : Int) ≤ 127))))] ?_ ?_
      ·
       refine r_if tabOk hnt rfl rfl rfl (fun g2 => ?_) (fun g2 => ?_)
       ·
        have g2' := g2
        try simp only [sB] at g2'
        refine qm hnt rfl rfl ?_
        refine ry hnt rfl rfl rfl g2 ?_
        refine qo hnt rfl (s_leq rfl rfl ?_)
        refine qo hnt rfl (s_pick_t rfl g2 rfl ?_)
        refine r_eq (s := 41) (y := pB ((decide (((r.vals.length : Nat) : Int) = r.count)) && (decide (((r.vals.length : Nat) : Int) ≤ 127)))) rfl (mix_at g2) ?_
        exact r_mid ⟨⟨rfl, trivial⟩, rfl, rfl⟩
       ·
        have g2' := g2
        try simp only [sB] at g2'
        refine rn hnt rfl rfl rfl g2 ?_
        refine qo hnt rfl (s_pick_f rfl g2 rfl ?_)
        refine r_eq (s := 41) (y := pB ((decide (((r.vals.length : Nat) : Int) = r.count)) && (decide (((r.vals.length : Nat) : Int) ≤ 127)))) rfl (mix_af _ g2) ?_
        exact r_mid ⟨⟨rfl, trivial⟩, rfl, rfl⟩
      ·
       refine qa hnt rfl rfl ?_
       refine r_end ?_
       refine q_then ?_
       refine w_le (s := 2) (y := pB (listsR r)) rfl (le_of_eq (congrArg (fun z : Bool => pB z) (show ((decide (((r.vals.length : Nat) : Int) = r.count)) && (decide (((r.vals.length : Nat) : Int) ≤ 127))) = (listsR r) by first | exact (listsR_5 (by assumption)).symm | exact (listsR_6 (by assumption)).symm | exact (listsR_8 (by assumption)).symm | exact (listsR_15 (by assumption)).symm | exact (listsR_16 (by assumption)).symm | exact (listsR_23 (by assumption)).symm | exact (listsR_no (by omega)).symm))) ?_
       refine w_ret ?_
       refine q_block_ret ?_
       refine q_then_ret ?_
       exact fin_plain (ret_tmp rfl ret_nil) rfl rfl ⟨rfl, rfl, rfl⟩
     ·
      have c5_ := c5
      try simp only [sB] at c5
      refine w_seq ?_
      refine w_R ?_
      refine qo hnt rfl (s_eql rfl rfl ?_)
      refine qa hnt rfl rfl ?_
      refine r_end ?_
      refine q_then ?_
      refine w_if rfl (fun c6 => ?_) (fun c6 => ?_)
      ·
       have c6_ := c6
       try simp only [sB] at c6
       refine w_seq ?_
       refine w_R ?_
       refine qm hnt rfl rfl ?_
       refine qo hnt rfl (s_leq rfl rfl ?_)
       refine qa hnt rfl rfl ?_
       refine r_end ?_
       refine q_then ?_
       refine w_le (s := 2) (y := pB (listsR r)) rfl (le_of_eq (congrArg (fun z : Bool => pB z) (show (decide (((r.vals.length : Nat) : Int) ≤ 127)) = (listsR r) by first | exact (listsR_5 (by assumption)).symm | exact (listsR_6 (by assumption)).symm | exact (listsR_8 (by assumption)).symm | exact (listsR_15 (by assumption)).symm | exact (listsR_16 (by assumption)).symm | exact (listsR_23 (by assumption)).symm | exact (listsR_no (by omega)).symm))) ?_
       refine w_ret ?_
       refine q_block_ret ?_
       refine q_then_ret ?_
       exact fin_plain (ret_tmp rfl ret_nil) rfl rfl ⟨rfl, rfl, rfl⟩
      ·
       have c6_ := c6
       try simp only [sB] at c6
       refine w_skip ?_
       refine q_block ?_
       refine q_then ?_
       refine w_seq ?_
       refine w_R ?_
       refine qa hnt rfl rfl ?_
       refine r_end ?_
       refine q_then ?_
       refine w_le (s := 2) (y := pB (listsR r)) rfl (le_of_eq (congrArg (fun z : Bool => pB z) (show true = (listsR r) by first | exact (listsR_5 (by assumption)).symm | exact (listsR_6 (by assumption)).symm | exact (listsR_8 (by assumption)).symm | exact (listsR_15 (by assumption)).symm | exact (listsR_16 (by assumption)).symm | exact (listsR_23 (by assumption)).symm | exact (listsR_no (by omega)).symm))) ?_
       refine w_ret ?_
       exact fin_plain (ret_tmp rfl ret_nil) rfl rfl ⟨rfl, rfl, rfl⟩
theorem w_burgageref3_Right (r : TRequest) (hb : r.bits.length ≤ 140737488351232) (hv : r.vals.length ≤ 140737488351232) :
    T Try.prog 79 [PV.f (eRequest r)] 0 [] (Ret (pI (rightR r)) 0 []) := by
 refine t_fun tabOk (n := 113) (rs := [.tmp 2]) Try.func79 rfl rfl rfl rfl (Nat.le_of_ble_eq_true rfl) ?_
 intro c hnt hk
 refine w_seq ?_
 refine w_R ?_
 refine qo hnt rfl (s_box rfl rfl ?_)
 refine qa hnt rfl rfl ?_
 refine r_set [(1, PV.ptr 0 0)] [(0, .obj [pI r.fn, pI r.at_, pI r.count, pI r.wAt, pI r.sub, pS 1 false encBo r.bits, pS 1 false enc16 r.vals, p16 r.and_, p16 r.or_])] 1 ⟨rfl, trivial⟩ rfl rfl ?_
 refine r_end ?_
 refine q_then ?_
 refine w_seq ?_
 refine w_seq ?_
 refine w_R ?_
 refine qo hnt rfl (s_fa_ptr tab_107 rfl rfl tab_3 (by decide) rfl ?_)
 refine qo hnt rfl (s_load_ptr1 tab_3 rfl rfl rfl rfl rfl ?_)
 refine qo hnt rfl (s_callF rfl rfl rfl (w_burgageref3_Has r.fn) rfl ?_)
 refine qo hnt rfl (s_not rfl ?_)
 refine r_end ?_
 refine q_then ?_
 refine w_if rfl (fun c1 => ?_) (fun c1 => ?_)
 ·
  have c1_ := c1
  try simp only [sB] at c1
  refine w_seq ?_
  refine w_R ?_
  refine qa hnt rfl rfl ?_
  refine r_end ?_
  refine q_then ?_
  refine w_le (s := 2) (y := pI (rightR r)) rfl (le_of_eq (congrArg (fun z : Int => pI z) (show 15 = (rightR r) by exact (rightR_1 c1_).symm))) ?_
  refine w_ret ?_
  refine q_then_ret ?_
  exact fin_plain (ret_tmp rfl ret_nil) rfl rfl ⟨rfl, rfl, rfl⟩
 ·
  have c1_ := c1
  try simp only [sB] at c1
  refine w_skip ?_
  refine q_then ?_
  refine w_seq ?_
  refine w_R ?_
  refine qo hnt rfl (s_fa_ptr tab_107 rfl rfl tab_3 (by decide) rfl ?_)
  refine qo hnt rfl (s_load_ptr1 tab_3 rfl rfl rfl rfl rfl ?_)
  refine qo hnt rfl (s_callF rfl rfl rfl (w_burgageref3_uses r.fn) rfl ?_)
  refine qa hnt rfl rfl ?_
  refine r_end ?_
  refine q_then ?_
  refine w_seq ?_
  refine w_seq ?_
  refine w_R ?_
  refine qm hnt rfl rfl ?_
  refine qo hnt rfl (s_callF rfl rfl rfl (w_burgageref3_in (usesS r.fn) 97 (by have := usesS_len r.fn; omega)) rfl ?_)
  refine qo hnt rfl (s_not rfl ?_)
  refine qm hnt rfl rfl ?_
  refine r_cut0 4 [(1, PV.ptr 0 0), (3, pT (usesS r.fn)), (18, pB ((!(inS (usesS r.fn) 97)) && (!decide (r.at_ = 0))))] ?_ ?_
  ·
   refine r_if tabOk hnt rfl rfl rfl (fun g1 => ?_) (fun g1 => ?_)
   ·
    have g1' := g1
    try simp only [sB] at g1'
    refine qo hnt rfl (s_fa_ptr tab_107 rfl rfl tab_3 (by decide) rfl ?_)
    refine ry hnt rfl rfl rfl g1 ?_
    refine qo hnt rfl (s_load_ptr1 tab_3 rfl rfl rfl rfl rfl ?_)
    refine ry hnt rfl rfl rfl g1 ?_
    refine qo hnt rfl (s_neq rfl rfl ?_)
    refine qo hnt rfl (s_pick_t rfl g1 rfl ?_)
    refine r_eq (s := 18) (y := pB ((!(inS (usesS r.fn) 97)) && (!decide (r.at_ = 0)))) rfl (mix_at g1) ?_
    exact r_mid ⟨⟨rfl, rfl, rfl, trivial⟩, rfl, rfl⟩
   ·
    have g1' := g1
    try simp only [sB] at g1'
    refine rn hnt rfl rfl rfl g1 ?_
    refine rn hnt rfl rfl rfl g1 ?_
    refine qo hnt rfl (s_pick_f rfl g1 rfl ?_)
    refine r_eq (s := 18) (y := pB ((!(inS (usesS r.fn) 97)) && (!decide (r.at_ = 0)))) rfl (mix_af _ g1) ?_
    exact r_mid ⟨⟨rfl, rfl, rfl, trivial⟩, rfl, rfl⟩
  ·
   refine qm hnt rfl rfl ?_
   refine r_cut0 9 [(1, PV.ptr 0 0), (3, pT (usesS r.fn)), (28, pB (((!(inS (usesS r.fn) 97)) && (!decide (r.at_ = 0))) || ((!(inS (usesS r.fn) 99)) && (!decide (r.count = 0)))))] ?_ ?_
   ·
    refine r_if tabOk hnt rfl rfl rfl (fun g2 => ?_) (fun g2 => ?_)
    ·
     have g2' := g2
     try simp only [sB] at g2'
     refine qm hnt rfl rfl ?_
     refine ry hnt rfl rfl rfl g2 ?_
     refine qo hnt rfl (s_callF rfl rfl rfl (w_burgageref3_in (usesS r.fn) 99 (by have := usesS_len r.fn; omega)) rfl ?_)
     refine ry hnt rfl rfl rfl g2 ?_
     refine qo hnt rfl (s_not rfl ?_)
     refine ry hnt rfl rfl rfl g2 ?_
     refine qm hnt rfl rfl ?_
     refine r_cut0 4 [(1, PV.ptr 0 0), (3, pT (usesS r.fn)), (19, pB ((!(inS (usesS r.fn) 97)) && (!decide (r.at_ = 0)))), (27, pB ((!(inS (usesS r.fn) 99)) && (!decide (r.count = 0))))] ?_ ?_
     ·
      refine r_if tabOk hnt rfl rfl rfl (fun g3 => ?_) (fun g3 => ?_)
      ·
       have g3' := g3
       try simp only [sB] at g3'
       refine qo hnt rfl (s_fa_ptr tab_107 rfl rfl tab_3 (by decide) rfl ?_)
       refine ry hnt rfl rfl rfl g3 ?_
       refine qo hnt rfl (s_load_ptr1 tab_3 rfl rfl rfl rfl rfl ?_)
       refine ry hnt rfl rfl rfl g3 ?_
       refine qo hnt rfl (s_neq rfl rfl ?_)
       refine ry hnt rfl rfl rfl g2 ?_
       refine qo hnt rfl (s_pick_t rfl g3 rfl ?_)
       refine r_eq (s := 27) (y := pB ((!(inS (usesS r.fn) 99)) && (!decide (r.count = 0)))) rfl (mix_at g3) ?_
       exact r_mid ⟨⟨rfl, rfl, rfl, rfl, trivial⟩, rfl, rfl⟩
      ·
       have g3' := g3
       try simp only [sB] at g3'
       refine rn hnt rfl rfl rfl g3 ?_
       refine rn hnt rfl rfl rfl g3 ?_
       refine ry hnt rfl rfl rfl g2 ?_
       refine qo hnt rfl (s_pick_f rfl g3 rfl ?_)
       refine r_eq (s := 27) (y := pB ((!(inS (usesS r.fn) 99)) && (!decide (r.count = 0)))) rfl (mix_af _ g3) ?_
       exact r_mid ⟨⟨rfl, rfl, rfl, rfl, trivial⟩, rfl, rfl⟩
     ·
      refine qo hnt rfl (s_pick_f rfl g2 rfl ?_)
      refine r_eq (s := 28) (y := pB (((!(inS (usesS r.fn) 97)) && (!decide (r.at_ = 0))) || ((!(inS (usesS r.fn) 99)) && (!decide (r.count = 0))))) rfl (mix_of g2) ?_
      exact r_mid ⟨⟨rfl, rfl, rfl, trivial⟩, rfl, rfl⟩
    ·
     have g2' := g2
     try simp only [sB] at g2'
     refine rn hnt rfl rfl rfl g2 ?_
     refine rn hnt rfl rfl rfl g2 ?_
     refine rn hnt rfl rfl rfl g2 ?_
     refine ru hnt rfl rfl rfl ?_
     refine ru hnt rfl rfl rfl ?_
     refine ru hnt rfl rfl rfl ?_
     refine rn hnt rfl rfl rfl g2 ?_
     refine qo hnt rfl (s_pick_t rfl g2 rfl ?_)
     refine r_eq (s := 28) (y := pB (((!(inS (usesS r.fn) 97)) && (!decide (r.at_ = 0))) || ((!(inS (usesS r.fn) 99)) && (!decide (r.count = 0))))) rfl (mix_ot _ g2) ?_
     exact r_mid ⟨⟨rfl, rfl, rfl, trivial⟩, rfl, rfl⟩
   ·
    refine qm hnt rfl rfl ?_
    refine r_cut0 9 [(1, PV.ptr 0 0), (3, pT (usesS r.fn)), (38, pB ((((!(inS (usesS r.fn) 97)) && (!decide (r.at_ = 0))) || ((!(inS (usesS r.fn) 99)) && (!decide (r.count = 0)))) || ((!(inS (usesS r.fn) 119)) && (!decide (r.wAt = 0)))))] ?_ ?_
    ·
     refine r_if tabOk hnt rfl rfl rfl (fun g4 => ?_) (fun g4 => ?_)
     ·
      have g4' := g4
      try simp only [sB] at g4'
      refine qm hnt rfl rfl ?_
      refine ry hnt rfl rfl rfl g4 ?_
      refine qo hnt rfl (s_callF rfl rfl rfl (w_burgageref3_in (usesS r.fn) 119 (by have := usesS_len r.fn; omega)) rfl ?_)
      refine ry hnt rfl rfl rfl g4 ?_
      refine qo hnt rfl (s_not rfl ?_)
      refine ry hnt rfl rfl rfl g4 ?_
      refine qm hnt rfl rfl ?_
      refine r_cut0 4 [(1, PV.ptr 0 0), (3, pT (usesS r.fn)), (29, pB (((!(inS (usesS r.fn) 97)) && (!decide (r.at_ = 0))) || ((!(inS (usesS r.fn) 99)) && (!decide (r.count = 0))))), (37, pB ((!(inS (usesS r.fn) 119)) && (!decide (r.wAt = 0))))] ?_ ?_
      ·
       refine r_if tabOk hnt rfl rfl rfl (fun g5 => ?_) (fun g5 => ?_)
       ·
        have g5' := g5
        try simp only [sB] at g5'
        refine qo hnt rfl (s_fa_ptr tab_107 rfl rfl tab_3 (by decide) rfl ?_)
        refine ry hnt rfl rfl rfl g5 ?_
        refine qo hnt rfl (s_load_ptr1 tab_3 rfl rfl rfl rfl rfl ?_)
        refine ry hnt rfl rfl rfl g5 ?_
        refine qo hnt rfl (s_neq rfl rfl ?_)
        refine ry hnt rfl rfl rfl g4 ?_
        refine qo hnt rfl (s_pick_t rfl g5 rfl ?_)
        refine r_eq (s := 37) (y := pB ((!(inS (usesS r.fn) 119)) && (!decide (r.wAt = 0)))) rfl (mix_at g5) ?_
        exact r_mid ⟨⟨rfl, rfl, rfl, rfl, trivial⟩, rfl, rfl⟩
       ·
        have g5' := g5
        try simp only [sB] at g5'
        refine rn hnt rfl rfl rfl g5 ?_
        refine rn hnt rfl rfl rfl g5 ?_
        refine ry hnt rfl rfl rfl g4 ?_
        refine qo hnt rfl (s_pick_f rfl g5 rfl ?_)
        refine r_eq (s := 37) (y := pB ((!(inS (usesS r.fn) 119)) && (!decide (r.wAt = 0)))) rfl (mix_af _ g5) ?_
        exact r_mid ⟨⟨rfl, rfl, rfl, rfl, trivial⟩, rfl, rfl⟩
      ·
       refine qo hnt rfl (s_pick_f rfl g4 rfl ?_)
       refine r_eq (s := 38) (y := pB ((((!(inS (usesS r.fn) 97)) && (!decide (r.at_ = 0))) || ((!(inS (usesS r.fn) 99)) && (!decide (r.count = 0)))) || ((!(inS (usesS r.fn) 119)) && (!decide (r.wAt = 0))))) rfl (mix_of g4) ?_
       exact r_mid ⟨⟨rfl, rfl, rfl, trivial⟩, rfl, rfl⟩
     ·
      have g4' := g4
      try simp only [sB] at g4'
      refine rn hnt rfl rfl rfl g4 ?_
      refine rn hnt rfl rfl rfl g4 ?_
      refine rn hnt rfl rfl rfl g4 ?_
      refine ru hnt rfl rfl rfl ?_
      refine ru hnt rfl rfl rfl ?_
      refine ru hnt rfl rfl rfl ?_
      refine rn hnt rfl rfl rfl g4 ?_
      refine qo hnt rfl (s_pick_t rfl g4 rfl ?_)
      refine r_eq (s := 38) (y := pB ((((!(inS (usesS r.fn) 97)) && (!decide (r.at_ = 0))) || ((!(inS (usesS r.fn) 99)) && (!decide (r.count = 0)))) || ((!(inS (usesS r.fn) 119)) && (!decide (r.wAt = 0))))) rfl (mix_ot _ g4) ?_
      exact r_mid ⟨⟨rfl, rfl, rfl, trivial⟩, rfl, rfl⟩
    ·
     refine qm hnt rfl rfl ?_
     refine r_cut0 9 [(1, PV.ptr 0 0), (3, pT (usesS r.fn)), (48, pB (((((!(inS (usesS r.fn) 97)) && (!decide (r.at_ = 0))) || ((!(inS (usesS r.fn) 99)) && (!decide (r.count = 0)))) || ((!(inS (usesS r.fn) 119)) && (!decide (r.wAt = 0)))) || ((!(inS (usesS r.fn) 115)) && (!decide (r.sub = 0)))))] ?_ ?_
     ·
      refine r_if tabOk hnt rfl rfl rfl (fun g6 => ?_) (fun g6 => ?_)
      ·
       have g6' := g6
       try simp only [sB] at g6'
       refine qm hnt rfl rfl ?_
       refine ry hnt rfl rfl rfl g6 ?_
       refine qo hnt rfl (s_callF rfl rfl rfl (w_burgageref3_in (usesS r.fn) 115 (by have := usesS_len r.fn; omega)) rfl ?_)
       refine ry hnt rfl rfl rfl g6 ?_
       refine qo hnt rfl (s_not rfl ?_)
       refine ry hnt rfl rfl rfl g6 ?_
       refine qm hnt rfl rfl ?_
       refine r_cut0 4 [(1, PV.ptr 0 0), (3, pT (usesS r.fn)), (39, pB ((((!(inS (usesS r.fn) 97)) && (!decide (r.at_ = 0))) || ((!(inS (usesS r.fn) 99)) && (!decide (r.count = 0)))) || ((!(inS (usesS r.fn) 119)) && (!decide (r.wAt = 0))))), (47, pB ((!(inS (usesS r.fn) 115)) && (!decide (r.sub = 0))))] ?_ ?_
       ·
        refine r_if tabOk hnt rfl rfl rfl (fun g7 => ?_) (fun g7 => ?_)
        ·
         have g7' := g7
         try simp only [sB] at g7'
         refine qo hnt rfl (s_fa_ptr tab_107 rfl rfl tab_3 (by decide) rfl ?_)
         refine ry hnt rfl rfl rfl g7 ?_
         refine qo hnt rfl (s_load_ptr1 tab_3 rfl rfl rfl rfl rfl ?_)
         refine ry hnt rfl rfl rfl g7 ?_
         refine qo hnt rfl (s_neq rfl rfl ?_)
         refine ry hnt rfl rfl rfl g6 ?_
         refine qo hnt rfl (s_pick_t rfl g7 rfl ?_)
         refine r_eq (s := 47) (y := pB ((!(inS (usesS r.fn) 115)) && (!decide (r.sub = 0)))) rfl (mix_at g7) ?_
         exact r_mid ⟨⟨rfl, rfl, rfl, rfl, trivial⟩, rfl, rfl⟩
        ·
         have g7' := g7
         try simp only [sB] at g7'
         refine rn hnt rfl rfl rfl g7 ?_
         refine rn hnt rfl rfl rfl g7 ?_
         refine ry hnt rfl rfl rfl g6 ?_
         refine qo hnt rfl (s_pick_f rfl g7 rfl ?_)
         refine r_eq (s := 47) (y := pB ((!(inS (usesS r.fn) 115)) && (!decide (r.sub = 0)))) rfl (mix_af _ g7) ?_
         exact r_mid ⟨⟨rfl, rfl, rfl, rfl, trivial⟩, rfl, rfl⟩
       ·
        refine qo hnt rfl (s_pick_f rfl g6 rfl ?_)
        refine r_eq (s := 48) (y := pB (((((!(inS (usesS r.fn) 97)) && (!decide (r.at_ = 0))) || ((!(inS (usesS r.fn) 99)) && (!decide (r.count = 0)))) || ((!(inS (usesS r.fn) 119)) && (!decide (r.wAt = 0)))) || ((!(inS (usesS r.fn) 115)) && (!decide (r.sub = 0))))) rfl (mix_of g6) ?_
        exact r_mid ⟨⟨rfl, rfl, rfl, trivial⟩, rfl, rfl⟩
      ·
       have g6' := g6
       try simp only [sB] at g6'
       refine rn hnt rfl rfl rfl g6 ?_
       refine rn hnt rfl rfl rfl g6 ?_
       refine rn hnt rfl rfl rfl g6 ?_
       refine ru hnt rfl rfl rfl ?_
       refine ru hnt rfl rfl rfl ?_
       refine ru hnt rfl rfl rfl ?_
       refine rn hnt rfl rfl rfl g6 ?_
       refine qo hnt rfl (s_pick_t rfl g6 rfl ?_)
       refine r_eq (s := 48) (y := pB (((((!(inS (usesS r.fn) 97)) && (!decide (r.at_ = 0))) || ((!(inS (usesS r.fn) 99)) && (!decide (r.count = 0)))) || ((!(inS (usesS r.fn) 119)) && (!decide (r.wAt = 0)))) || ((!(inS (usesS r.fn) 115)) && (!decide (r.sub = 0))))) rfl (mix_ot _ g6) ?_
       exact r_mid ⟨⟨rfl, rfl, rfl, trivial⟩, rfl, rfl⟩
     ·
      refine qm hnt rfl rfl ?_
      refine r_cut0 10 [(1, PV.ptr 0 0), (3, pT (usesS r.fn)), (59, pB ((((((!(inS (usesS r.fn) 97)) && (!decide (r.at_ = 0))) || ((!(inS (usesS r.fn) 99)) && (!decide (r.count = 0)))) || ((!(inS (usesS r.fn) 119)) && (!decide (r.wAt = 0)))) || ((!(inS (usesS r.fn) 115)) && (!decide (r.sub = 0)))) || ((!(inS (usesS r.fn) 98)) && (decide (0 < ((r.bits.length : Nat) : Int))))))] ?_ ?_
      ·
       refine r_if tabOk hnt rfl rfl rfl (fun g8 => ?_) (fun g8 => ?_)
       ·
        have g8' := g8
        try simp only [sB] at g8'
        refine qm hnt rfl rfl ?_
        refine ry hnt rfl rfl rfl g8 ?_
        refine qo hnt rfl (s_callF rfl rfl rfl (w_burgageref3_in (usesS r.fn) 98 (by have := usesS_len r.fn; omega)) rfl ?_)
        refine ry hnt rfl rfl rfl g8 ?_
        refine qo hnt rfl (s_not rfl ?_)
        refine ry hnt rfl rfl rfl g8 ?_
        refine qm hnt rfl rfl ?_
        refine r_cut0 5 [(1, PV.ptr 0 0), (3, pT (usesS r.fn)), (49, pB (((((!(inS (usesS r.fn) 97)) && (!decide (r.at_ = 0))) || ((!(inS (usesS r.fn) 99)) && (!decide (r.count = 0)))) || ((!(inS (usesS r.fn) 119)) && (!decide (r.wAt = 0)))) || ((!(inS (usesS r.fn) 115)) && (!decide (r.sub = 0))))), (58, pB ((!(inS (usesS r.fn) 98)) && (decide (0 < ((r.bits.length : Nat) : Int)))))] ?_ ?_
        ·
         refine r_if tabOk hnt rfl rfl rfl (fun g9 => ?_) (fun g9 => ?_)
         ·
          have g9' := g9
          try simp only [sB] at g9'
          refine qo hnt rfl (s_fa_ptr tab_107 rfl rfl tab_44 (by decide) rfl ?_)
          refine ry hnt rfl rfl rfl g9 ?_
          refine qo hnt rfl (s_load_ptr1 tab_44 rfl rfl rfl rfl rfl ?_)
          refine ry hnt rfl rfl rfl g9 ?_
          refine qo hnt rfl (s_lenM (l := r.bits) tab_44 rfl (hM_sl (f := encBo) rfl) ?_)
          refine ry hnt rfl rfl rfl g9 ?_
          refine qo hnt rfl (s_gtr rfl rfl ?_)
          refine ry hnt rfl rfl rfl g8 ?_
          refine qo hnt rfl (s_pick_t rfl g9 rfl ?_)
          refine r_eq (s := 58) (y := pB ((!(inS (usesS r.fn) 98)) && (decide (0 < ((r.bits.length : Nat) : Int))))) rfl (mix_at g9) ?_
          exact r_mid ⟨⟨rfl, rfl, rfl, rfl, trivial⟩, rfl, rfl⟩
         ·
          have g9' := g9
          try simp only [sB] at g9'
          refine rn hnt rfl rfl rfl g9 ?_
          refine rn hnt rfl rfl rfl g9 ?_
          refine rn hnt rfl rfl rfl g9 ?_
          refine ry hnt rfl rfl rfl g8 ?_
          refine qo hnt rfl (s_pick_f rfl g9 rfl ?_)
          refine r_eq (s := 58) (y := pB ((!(inS (usesS r.fn) 98)) && (decide (0 < ((r.bits.length : Nat) : Int))))) rfl (mix_af _ g9) ?_
          exact r_mid ⟨⟨rfl, rfl, rfl, rfl, trivial⟩, rfl, rfl⟩
        ·
         refine qo hnt rfl (s_pick_f rfl g8 rfl ?_)
         refine r_eq (s := 59) (y := pB ((((((!(inS (usesS r.fn) 97)) && (!decide (r.at_ = 0))) || ((!(inS (usesS r.fn) 99)) && (!decide (r.count = 0)))) || ((!(inS (usesS r.fn) 119)) && (!decide (r.wAt = 0)))) || ((!(inS (usesS r.fn) 115)) && (!decide (r.sub = 0)))) || ((!(inS (usesS r.fn) 98)) && (decide (0 < ((r.bits.length : Nat) : Int)))))) rfl (mix_of g8) ?_
         exact r_mid ⟨⟨rfl, rfl, rfl, trivial⟩, rfl, rfl⟩
       ·
        have g8' := g8
        try simp only [sB] at g8'
        refine rn hnt rfl rfl rfl g8 ?_
        refine rn hnt rfl rfl rfl g8 ?_
        refine rn hnt rfl rfl rfl g8 ?_
        refine ru hnt rfl rfl rfl ?_
        refine ru hnt rfl rfl rfl ?_
        refine ru hnt rfl rfl rfl ?_
        refine ru hnt rfl rfl rfl ?_
        refine rn hnt rfl rfl rfl g8 ?_
        refine qo hnt rfl (s_pick_t rfl g8 rfl ?_)
        refine r_eq (s := 59) (y := pB ((((((!(inS (usesS r.fn) 97)) && (!decide (r.at_ = 0))) || ((!(inS (usesS r.fn) 99)) && (!decide (r.count = 0)))) || ((!(inS (usesS r.fn) 119)) && (!decide (r.wAt = 0)))) || ((!(inS (usesS r.fn) 115)) && (!decide (r.sub = 0)))) || ((!(inS (usesS r.fn) 98)) && (decide (0 < ((r.bits.length : Nat) : Int)))))) rfl (mix_ot _ g8) ?_
        exact r_mid ⟨⟨rfl, rfl, rfl, trivial⟩, rfl, rfl⟩
      ·
       refine qm hnt rfl rfl ?_
       refine r_cut0 10 [(1, PV.ptr 0 0), (3, pT (usesS r.fn)), (70, pB (((((((!(inS (usesS r.fn) 97)) && (!decide (r.at_ = 0))) || ((!(inS (usesS r.fn) 99)) && (!decide (r.count = 0)))) || ((!(inS (usesS r.fn) 119)) && (!decide (r.wAt = 0)))) || ((!(inS (usesS r.fn) 115)) && (!decide (r.sub = 0)))) || ((!(inS (usesS r.fn) 98)) && (decide (0 < ((r.bits.length : Nat) : Int))))) || ((!(inS (usesS r.fn) 118)) && (decide (0 < ((r.vals.length : Nat) : Int))))))] ?_ ?_
       ·
        refine r_if tabOk hnt rfl rfl rfl (fun g10 => ?_) (fun g10 => ?_)
        ·
         have g10' := g10
         try simp only [sB] at g10'
         refine qm hnt rfl rfl ?_
         refine ry hnt rfl rfl rfl g10 ?_
         refine qo hnt rfl (s_callF rfl rfl rfl (w_burgageref3_in (usesS r.fn) 118 (by have := usesS_len r.fn; omega)) rfl ?_)
         refine ry hnt rfl rfl rfl g10 ?_
         refine qo hnt rfl (s_not rfl ?_)
         refine ry hnt rfl rfl rfl g10 ?_
         refine qm hnt rfl rfl ?_
         refine r_cut0 5 [(1, PV.ptr 0 0), (3, pT (usesS r.fn)), (60, pB ((((((!(inS (usesS r.fn) 97)) && (!decide (r.at_ = 0))) || ((!(inS (usesS r.fn) 99)) && (!decide (r.count = 0)))) || ((!(inS (usesS r.fn) 119)) && (!decide (r.wAt = 0)))) || ((!(inS (usesS r.fn) 115)) && (!decide (r.sub = 0)))) || ((!(inS (usesS r.fn) 98)) && (decide (0 < ((r.bits.length : Nat) : Int)))))), (69, pB ((!(inS (usesS r.fn) 118)) && (decide (0 < ((r.vals.length : Nat) : Int)))))] ?_ ?_
         ·
          refine r_if tabOk hnt rfl rfl rfl (fun g11 => ?_) (fun g11 => ?_)
          ·
           have g11' := g11
           try simp only [sB] at g11'
           refine qo hnt rfl (s_fa_ptr tab_107 rfl rfl tab_45 (by decide) rfl ?_)
           refine ry hnt rfl rfl rfl g11 ?_
           refine qo hnt rfl (s_load_ptr1 tab_45 rfl rfl rfl rfl rfl ?_)
           refine ry hnt rfl rfl rfl g11 ?_
           refine qo hnt rfl (s_lenM (l := r.vals) tab_45 rfl (hM_sl (f := enc16) rfl) ?_)
           refine ry hnt rfl rfl rfl g11 ?_
           refine qo hnt rfl (s_gtr rfl rfl ?_)
           refine ry hnt rfl rfl rfl g10 ?_
           refine qo hnt rfl (s_pick_t rfl g11 rfl ?_)
           refine r_eq (s := 69) (y := pB ((!(inS (usesS r.fn) 118)) && (decide (0 < ((r.vals.length : Nat) : Int))))) rfl (mix_at g11) ?_
           exact r_mid ⟨⟨rfl, rfl, rfl, rfl, trivial⟩, rfl, rfl⟩
          ·
           have g11' := g11
           try simp only [sB] at g11'
           refine rn hnt rfl rfl rfl g11 ?_
           refine rn hnt rfl rfl rfl g11 ?_
           refine rn hnt rfl rfl rfl g11 ?_
           refine ry hnt rfl rfl rfl g10 ?_
           refine qo hnt rfl (s_pick_f rfl g11 rfl ?_)
           refine r_eq (s := 69) (y := pB ((!(inS (usesS r.fn) 118)) && (decide (0 < ((r.vals.length : Nat) : Int))))) rfl (mix_af _ g11) ?_
           exact r_mid ⟨⟨rfl, rfl, rfl, rfl, trivial⟩, rfl, rfl⟩
         ·
          refine qo hnt rfl (s_pick_f rfl g10 rfl ?_)
          refine r_eq (s := 70) (y := pB (((((((!(inS (usesS r.fn) 97)) && (!decide (r.at_ = 0))) || ((!(inS (usesS r.fn) 99)) && (!decide (r.count = 0)))) || ((!(inS (usesS r.fn) 119)) && (!decide (r.wAt = 0)))) || ((!(inS (usesS r.fn) 115)) && (!decide (r.sub = 0)))) || ((!(inS (usesS r.fn) 98)) && (decide (0 < ((r.bits.length : Nat) : Int))))) || ((!(inS (usesS r.fn) 118)) && (decide (0 < ((r.vals.length : Nat) : Int)))))) rfl (mix_of g10) ?_
          exact r_mid ⟨⟨rfl, rfl, rfl, trivial⟩, rfl, rfl⟩
        ·
         have g10' := g10
         try simp only [sB] at g10'
         refine rn hnt rfl rfl rfl g10 ?_
         refine rn hnt rfl rfl rfl g10 ?_
         refine rn hnt rfl rfl rfl g10 ?_
         refine ru hnt rfl rfl rfl ?_
         refine ru hnt rfl rfl rfl ?_
         refine ru hnt rfl rfl rfl ?_
         refine ru hnt rfl rfl rfl ?_
         refine rn hnt rfl rfl rfl g10 ?_
         refine qo hnt rfl (s_pick_t rfl g10 rfl ?_)
         refine r_eq (s := 70) (y := pB (((((((!(inS (usesS r.fn) 97)) && (!decide (r.at_ = 0))) || ((!(inS (usesS r.fn) 99)) && (!decide (r.count = 0)))) || ((!(inS (usesS r.fn) 119)) && (!decide (r.wAt = 0)))) || ((!(inS (usesS r.fn) 115)) && (!decide (r.sub = 0)))) || ((!(inS (usesS r.fn) 98)) && (decide (0 < ((r.bits.length : Nat) : Int))))) || ((!(inS (usesS r.fn) 118)) && (decide (0 < ((r.vals.length : Nat) : Int)))))) rfl (mix_ot _ g10) ?_
         exact r_mid ⟨⟨rfl, rfl, rfl, trivial⟩, rfl, rfl⟩
       ·
        refine qm hnt rfl rfl ?_
        refine r_cut0 14 [(1, PV.ptr 0 0), (85, pB ((((((((!(inS (usesS r.fn) 97)) && (!decide (r.at_ = 0))) || ((!(inS (usesS r.fn) 99)) && (!decide (r.count = 0)))) || ((!(inS (usesS r.fn) 119)) && (!decide (r.wAt = 0)))) || ((!(inS (usesS r.fn) 115)) && (!decide (r.sub = 0)))) || ((!(inS (usesS r.fn) 98)) && (decide (0 < ((r.bits.length : Nat) : Int))))) || ((!(inS (usesS r.fn) 118)) && (decide (0 < ((r.vals.length : Nat) : Int))))) || ((!(inS (usesS r.fn) 109)) && ((!decide (r.and_ = 0)) || (!decide (r.or_ = 0))))))] ?_ ?_
        ·
         refine r_if tabOk hnt rfl rfl rfl (fun g12 => ?_) (fun g12 => ?_)
         ·
          have g12' := g12
          try simp only [sB] at g12'
          refine qm hnt rfl rfl ?_
          refine ry hnt rfl rfl rfl g12 ?_
          refine qo hnt rfl (s_callF rfl rfl rfl (w_burgageref3_in (usesS r.fn) 109 (by have := usesS_len r.fn; omega)) rfl ?_)
          refine ry hnt rfl rfl rfl g12 ?_
          refine qo hnt rfl (s_not rfl ?_)
          refine ry hnt rfl rfl rfl g12 ?_
          refine qm hnt rfl rfl ?_
          refine r_cut0 9 [(1, PV.ptr 0 0), (71, pB (((((((!(inS (usesS r.fn) 97)) && (!decide (r.at_ = 0))) || ((!(inS (usesS r.fn) 99)) && (!decide (r.count = 0)))) || ((!(inS (usesS r.fn) 119)) && (!decide (r.wAt = 0)))) || ((!(inS (usesS r.fn) 115)) && (!decide (r.sub = 0)))) || ((!(inS (usesS r.fn) 98)) && (decide (0 < ((r.bits.length : Nat) : Int))))) || ((!(inS (usesS r.fn) 118)) && (decide (0 < ((r.vals.length : Nat) : Int)))))), (84, pB ((!(inS (usesS r.fn) 109)) && ((!decide (r.and_ = 0)) || (!decide (r.or_ = 0)))))] ?_ ?_
          ·
           refine r_if tabOk hnt rfl rfl rfl (fun g13 => ?_) (fun g13 => ?_)
           ·
            have g13' := g13
            try simp only [sB] at g13'
            refine qo hnt rfl (s_fa_ptr tab_107 rfl rfl tab_47 (by decide) rfl ?_)
            refine ry hnt rfl rfl rfl g13 ?_
            refine qo hnt rfl (s_load_ptr1 tab_47 rfl rfl rfl rfl rfl ?_)
            refine ry hnt rfl rfl rfl g13 ?_
            refine qo hnt rfl (s_neq16 (a := r.and_) (b := 0) rfl rfl ?_)
            refine ry hnt rfl rfl rfl g13 ?_
            refine qm hnt rfl rfl ?_
            refine r_cut0 4 [(1, PV.ptr 0 0), (71, pB (((((((!(inS (usesS r.fn) 97)) && (!decide (r.at_ = 0))) || ((!(inS (usesS r.fn) 99)) && (!decide (r.count = 0)))) || ((!(inS (usesS r.fn) 119)) && (!decide (r.wAt = 0)))) || ((!(inS (usesS r.fn) 115)) && (!decide (r.sub = 0)))) || ((!(inS (usesS r.fn) 98)) && (decide (0 < ((r.bits.length : Nat) : Int))))) || ((!(inS (usesS r.fn) 118)) && (decide (0 < ((r.vals.length : Nat) : Int)))))), (75, pB (!(inS (usesS r.fn) 109))), (83, pB ((!decide (r.and_ = 0)) || (!decide (r.or_ = 0))))] ?_ ?_
            ·
             refine r_if tabOk hnt rfl rfl rfl (fun g14 => ?_) (fun g14 => ?_)
             ·
              have g14' := g14
              try simp only [sB] at g14'
              refine qo hnt rfl (s_fa_ptr tab_107 rfl rfl tab_47 (by decide) rfl ?_)
              refine ry hnt rfl rfl rfl g14 ?_
              refine qo hnt rfl (s_load_ptr1 tab_47 rfl rfl rfl rfl rfl ?_)
              refine ry hnt rfl rfl rfl g14 ?_
              refine qo hnt rfl (s_neq16 (a := r.or_) (b := 0) rfl rfl ?_)
              refine ry hnt rfl rfl rfl g13 ?_
              refine qo hnt rfl (s_pick_f rfl g14 rfl ?_)
              refine r_eq (s := 83) (y := pB ((!decide (r.and_ = 0)) || (!decide (r.or_ = 0)))) rfl (mix_of g14) ?_
              exact r_mid ⟨⟨rfl, rfl, rfl, rfl, trivial⟩, rfl, rfl⟩
             ·
              have g14' := g14
              try simp only [sB] at g14'
              refine rn hnt rfl rfl rfl g14 ?_
              refine rn hnt rfl rfl rfl g14 ?_
              refine ry hnt rfl rfl rfl g13 ?_
              refine qo hnt rfl (s_pick_t rfl g14 rfl ?_)
              refine r_eq (s := 83) (y := pB ((!decide (r.and_ = 0)) || (!decide (r.or_ = 0)))) rfl (mix_ot _ g14) ?_
              exact r_mid ⟨⟨rfl, rfl, rfl, rfl, trivial⟩, rfl, rfl⟩
            ·
             refine ry hnt rfl rfl rfl g12 ?_
             refine qo hnt rfl (s_pick_t rfl g13 rfl ?_)
             refine r_eq (s := 84) (y := pB ((!(inS (usesS r.fn) 109)) && ((!decide (r.and_ = 0)) || (!decide (r.or_ = 0))))) rfl (mix_at g13) ?_
             exact r_mid ⟨⟨rfl, rfl, rfl, trivial⟩, rfl, rfl⟩
           ·
            have g13' := g13
            try simp only [sB] at g13'
            refine rn hnt rfl rfl rfl g13 ?_
            refine rn hnt rfl rfl rfl g13 ?_
            refine rn hnt rfl rfl rfl g13 ?_
            refine ru hnt rfl rfl rfl ?_
            refine ru hnt rfl rfl rfl ?_
            refine ru hnt rfl rfl rfl ?_
            refine rn hnt rfl rfl rfl g13 ?_
            refine ry hnt rfl rfl rfl g12 ?_
            refine qo hnt rfl (s_pick_f rfl g13 rfl ?_)
            refine r_eq (s := 84) (y := pB ((!(inS (usesS r.fn) 109)) && ((!decide (r.and_ = 0)) || (!decide (r.or_ = 0))))) rfl (mix_af _ g13) ?_
            exact r_mid ⟨⟨rfl, rfl, rfl, trivial⟩, rfl, rfl⟩
          ·
           refine qo hnt rfl (s_pick_f rfl g12 rfl ?_)
           refine r_eq (s := 85) (y := pB ((((((((!(inS (usesS r.fn) 97)) && (!decide (r.at_ = 0))) || ((!(inS (usesS r.fn) 99)) && (!decide (r.count = 0)))) || ((!(inS (usesS r.fn) 119)) && (!decide (r.wAt = 0)))) || ((!(inS (usesS r.fn) 115)) && (!decide (r.sub = 0)))) || ((!(inS (usesS r.fn) 98)) && (decide (0 < ((r.bits.length : Nat) : Int))))) || ((!(inS (usesS r.fn) 118)) && (decide (0 < ((r.vals.length : Nat) : Int))))) || ((!(inS (usesS r.fn) 109)) && ((!decide (r.and_ = 0)) || (!decide (r.or_ = 0)))))) rfl (mix_of g12) ?_
           exact r_mid ⟨⟨rfl, rfl, trivial⟩, rfl, rfl⟩
         ·
          have g12' := g12
          try simp only [sB] at g12'
          refine rn hnt rfl rfl rfl g12 ?_
          refine rn hnt rfl rfl rfl g12 ?_
          refine rn hnt rfl rfl rfl g12 ?_
          refine ru hnt rfl rfl rfl ?_
          refine ru hnt rfl rfl rfl ?_
          refine ru hnt rfl rfl rfl ?_
          refine ru hnt rfl rfl rfl ?_
          refine ru hnt rfl rfl rfl ?_
          refine ru hnt rfl rfl rfl ?_
          refine ru hnt rfl rfl rfl ?_
          refine ru hnt rfl rfl rfl ?_
          refine rn hnt rfl rfl rfl g12 ?_
          refine qo hnt rfl (s_pick_t rfl g12 rfl ?_)
          refine r_eq (s := 85) (y := pB ((((((((!(inS (usesS r.fn) 97)) && (!decide (r.at_ = 0))) || ((!(inS (usesS r.fn) 99)) && (!decide (r.count = 0)))) || ((!(inS (usesS r.fn) 119)) && (!decide (r.wAt = 0)))) || ((!(inS (usesS r.fn) 115)) && (!decide (r.sub = 0)))) || ((!(inS (usesS r.fn) 98)) && (decide (0 < ((r.bits.length : Nat) : Int))))) || ((!(inS (usesS r.fn) 118)) && (decide (0 < ((r.vals.length : Nat) : Int))))) || ((!(inS (usesS r.fn) 109)) && ((!decide (r.and_ = 0)) || (!decide (r.or_ = 0)))))) rfl (mix_ot _ g12) ?_
          exact r_mid ⟨⟨rfl, rfl, trivial⟩, rfl, rfl⟩
        ·
         refine r_end ?_
         refine q_then ?_
         refine w_if rfl (fun c2 => ?_) (fun c2 => ?_)
         ·
          have c2_ := c2
          try simp only [sB] at c2
          refine w_seq ?_
          refine w_R ?_
          refine qa hnt rfl rfl ?_
          refine r_end ?_
          refine q_then ?_
          refine w_le (s := 2) (y := pI (rightR r)) rfl (le_of_eq (congrArg (fun z : Int => pI z) (show 12 = (rightR r) by exact (rightR_2 c1_ c2_).symm))) ?_
          refine w_ret ?_
          refine q_then_ret ?_
          exact fin_plain (ret_tmp rfl ret_nil) rfl rfl ⟨rfl, rfl, rfl⟩
         ·
          have c2_ := c2
          try simp only [sB] at c2
          refine w_skip ?_
          refine q_then ?_
          refine w_seq ?_
          refine w_seq ?_
          refine w_R ?_
          refine qo hnt rfl (s_fa_ptr tab_107 rfl rfl tab_3 (by decide) rfl ?_)
          refine qo hnt rfl (s_load_ptr1 tab_3 rfl rfl rfl rfl rfl ?_)
          refine qo hnt rfl (s_callF rfl rfl rfl (w_burgageref3_word r.at_) rfl ?_)
          refine qo hnt rfl (s_not rfl ?_)
          refine qm hnt rfl rfl ?_
          refine r_cut0 5 [(1, PV.ptr 0 0), (95, pB ((!(wordOk r.at_)) || (!(wordOk r.count))))] ?_ ?_
          ·
           refine r_if tabOk hnt rfl rfl rfl (fun g15 => ?_) (fun g15 => ?_)
           ·
            have g15' := g15
            try simp only [sB] at g15'
            refine qo hnt rfl (s_fa_ptr tab_107 rfl rfl tab_3 (by decide) rfl ?_)
            refine ry hnt rfl rfl rfl g15 ?_
            refine qo hnt rfl (s_load_ptr1 tab_3 rfl rfl rfl rfl rfl ?_)
            refine ry hnt rfl rfl rfl g15 ?_
            refine qo hnt rfl (s_callF rfl rfl rfl (w_burgageref3_word r.count) rfl ?_)
            refine ry hnt rfl rfl rfl g15 ?_
            refine qo hnt rfl (s_not rfl ?_)
            refine qo hnt rfl (s_pick_f rfl g15 rfl ?_)
            refine r_eq (s := 95) (y := pB ((!(wordOk r.at_)) || (!(wordOk r.count)))) rfl (mix_of g15) ?_
            exact r_mid ⟨⟨rfl, rfl, trivial⟩, rfl, rfl⟩
           ·
            have g15' := g15
            try simp only [sB] at g15'
            refine rn hnt rfl rfl rfl g15 ?_
            refine rn hnt rfl rfl rfl g15 ?_
            refine rn hnt rfl rfl rfl g15 ?_
            refine qo hnt rfl (s_pick_t rfl g15 rfl ?_)
            refine r_eq (s := 95) (y := pB ((!(wordOk r.at_)) || (!(wordOk r.count)))) rfl (mix_ot _ g15) ?_
            exact r_mid ⟨⟨rfl, rfl, trivial⟩, rfl, rfl⟩
          ·
           refine qm hnt rfl rfl ?_
           refine r_cut0 5 [(1, PV.ptr 0 0), (101, pB (((!(wordOk r.at_)) || (!(wordOk r.count))) || (!(wordOk r.wAt))))] ?_ ?_
           ·
            refine r_if tabOk hnt rfl rfl rfl (fun g16 => ?_) (fun g16 => ?_)
            ·
             have g16' := g16
             try simp only [sB] at g16'
             refine qo hnt rfl (s_fa_ptr tab_107 rfl rfl tab_3 (by decide) rfl ?_)
             refine ry hnt rfl rfl rfl g16 ?_
             refine qo hnt rfl (s_load_ptr1 tab_3 rfl rfl rfl rfl rfl ?_)
             refine ry hnt rfl rfl rfl g16 ?_
             refine qo hnt rfl (s_callF rfl rfl rfl (w_burgageref3_word r.wAt) rfl ?_)
             refine ry hnt rfl rfl rfl g16 ?_
             refine qo hnt rfl (s_not rfl ?_)
             refine qo hnt rfl (s_pick_f rfl g16 rfl ?_)
             refine r_eq (s := 101) (y := pB (((!(wordOk r.at_)) || (!(wordOk r.count))) || (!(wordOk r.wAt)))) rfl (mix_of g16) ?_
             exact r_mid ⟨⟨rfl, rfl, trivial⟩, rfl, rfl⟩
            ·
             have g16' := g16
             try simp only [sB] at g16'
             refine rn hnt rfl rfl rfl g16 ?_
             refine rn hnt rfl rfl rfl g16 ?_
             refine rn hnt rfl rfl rfl g16 ?_
             refine qo hnt rfl (s_pick_t rfl g16 rfl ?_)
             refine r_eq (s := 101) (y := pB (((!(wordOk r.at_)) || (!(wordOk r.count))) || (!(wordOk r.wAt)))) rfl (mix_ot _ g16) ?_
             exact r_mid ⟨⟨rfl, rfl, trivial⟩, rfl, rfl⟩
           ·
            refine qm hnt rfl rfl ?_
            refine r_cut0 5 [(1, PV.ptr 0 0), (107, pB ((((!(wordOk r.at_)) || (!(wordOk r.count))) || (!(wordOk r.wAt))) || (!(wordOk r.sub))))] ?_ ?_
            ·
             refine r_if tabOk hnt rfl rfl rfl (fun g17 => ?_) (fun g17 => ?_)
             ·
              have g17' := g17
              try simp only [sB] at g17'
              refine qo hnt rfl (s_fa_ptr tab_107 rfl rfl tab_3 (by decide) rfl ?_)
              refine ry hnt rfl rfl rfl g17 ?_
              refine qo hnt rfl (s_load_ptr1 tab_3 rfl rfl rfl rfl rfl ?_)
              refine ry hnt rfl rfl rfl g17 ?_
              refine qo hnt rfl (s_callF rfl rfl rfl (w_burgageref3_word r.sub) rfl ?_)
              refine ry hnt rfl rfl rfl g17 ?_
              refine qo hnt rfl (s_not rfl ?_)
              refine qo hnt rfl (s_pick_f rfl g17 rfl ?_)
              refine r_eq (s := 107) (y := pB ((((!(wordOk r.at_)) || (!(wordOk r.count))) || (!(wordOk r.wAt))) || (!(wordOk r.sub)))) rfl (mix_of g17) ?_
              exact r_mid ⟨⟨rfl, rfl, trivial⟩, rfl, rfl⟩
             ·
              have g17' := g17
              try simp only [sB] at g17'
              refine rn hnt rfl rfl rfl g17 ?_
              refine rn hnt rfl rfl rfl g17 ?_
              refine rn hnt rfl rfl rfl g17 ?_
              refine qo hnt rfl (s_pick_t rfl g17 rfl ?_)
              refine r_eq (s := 107) (y := pB ((((!(wordOk r.at_)) || (!(wordOk r.count))) || (!(wordOk r.wAt))) || (!(wordOk r.sub)))) rfl (mix_ot _ g17) ?_
              exact r_mid ⟨⟨rfl, rfl, trivial⟩, rfl, rfl⟩
            ·
             refine qm hnt rfl rfl ?_
             refine r_cut0 4 [(112, pB (((((!(wordOk r.at_)) || (!(wordOk r.count))) || (!(wordOk r.wAt))) || (!(wordOk r.sub))) || (!(listsR r))))] ?_ ?_
             ·
              refine r_if tabOk hnt rfl rfl rfl (fun g18 => ?_) (fun g18 => ?_)
              ·
               have g18' := g18
               try simp only [sB] at g18'
               refine qo hnt rfl (s_load_ptr tab_107 rfl rfl rfl (Nat.le_of_ble_eq_true rfl) ?_)
               refine ry hnt rfl rfl rfl g18 ?_
               refine qo hnt rfl (s_callF rfl rfl rfl (w_burgageref3_lists r (by first | omega | assumption | (simp; omega) | decide | (simp; done)) (by first | omega | assumption | (simp; omega) | decide | (simp; done))) rfl ?_)
               refine ry hnt rfl rfl rfl g18 ?_
               refine qo hnt rfl (s_not rfl ?_)
               refine qo hnt rfl (s_pick_f rfl g18 rfl ?_)
               refine r_eq (s := 112) (y := pB (((((!(wordOk r.at_)) || (!(wordOk r.count))) || (!(wordOk r.wAt))) || (!(wordOk r.sub))) || (!(listsR r)))) rfl (mix_of g18) ?_
               exact r_mid ⟨⟨rfl, trivial⟩, rfl, rfl⟩
              ·
               have g18' := g18
               try simp only [sB] at g18'
               refine rn hnt rfl rfl rfl g18 ?_
               refine rn hnt rfl rfl rfl g18 ?_
               refine qo hnt rfl (s_pick_t rfl g18 rfl ?_)
               refine r_eq (s := 112) (y := pB (((((!(wordOk r.at_)) || (!(wordOk r.count))) || (!(wordOk r.wAt))) || (!(wordOk r.sub))) || (!(listsR r)))) rfl (mix_ot _ g18) ?_
               exact r_mid ⟨⟨rfl, trivial⟩, rfl, rfl⟩
             ·
              refine r_end ?_
              refine q_then ?_
              refine w_if rfl (fun c3 => ?_) (fun c3 => ?_)
              ·
               have c3_ := c3
               try simp only [sB] at c3
               refine w_seq ?_
               refine w_R ?_
               refine qa hnt rfl rfl ?_
               refine r_end ?_
               refine q_then ?_
               refine w_le (s := 2) (y := pI (rightR r)) rfl (le_of_eq (congrArg (fun z : Int => pI z) (show 12 = (rightR r) by exact (rightR_3 c1_ c2_ c3_).symm))) ?_
               refine w_ret ?_
               refine q_then_ret ?_
               exact fin_plain (ret_tmp rfl ret_nil) rfl rfl ⟨rfl, rfl, rfl⟩
              ·
               have c3_ := c3
               try simp only [sB] at c3
               refine w_skip ?_
               refine q_then ?_
               refine w_seq ?_
               refine w_R ?_
               refine qa hnt rfl rfl ?_
               refine r_end ?_
               refine q_then ?_
               refine w_le (s := 2) (y := pI (rightR r)) rfl (le_of_eq (congrArg (fun z : Int => pI z) (show 0 = (rightR r) by exact (rightR_4 c1_ c2_ c3_).symm))) ?_
               refine w_ret ?_
               exact fin_plain (ret_tmp rfl ret_nil) rfl rfl ⟨rfl, rfl, rfl⟩
theorem w_burgageref3_row (b : List UInt8) (wr : Bool) (x : List UInt8) (cl_x : Bool) (hb : b.length ≤ 1000) (hx : x.length ≤ 70000000000000) :
    T Try.prog 87 [PV.ref 0 0 none, pS 1 cl_x enc8 x] 1 [(0, oB wr 1 enc8 b)] (Ret (PV.ref 1 0 none) 2 [(1, oB wr 1 enc8 (b ++ rowX x))]) := by
 refine t_fun tabOk (n := 13) (rs := [.tmp 4]) Try.func87 rfl rfl rfl rfl (Nat.le_of_ble_eq_true rfl) ?_
 intro c hnt hk
 refine w_seq ?_
 refine w_R ?_
 refine qa hnt rfl rfl ?_
 refine r_end ?_
 refine q_then ?_
 refine w_seq ?_
 refine w_R ?_
 refine qm hnt rfl rfl ?_
 refine qm hnt rfl rfl ?_
 refine qo hnt rfl (s_lenM (l := x) tab_27 rfl (hM_sl (f := enc8) rfl) ?_)
 refine qo hnt rfl (s_cv8N (a := x.length) tab_3 tab_5 rfl rfl rfl (by omega) ?_)
 refine qo hnt rfl (s_mkM (f := enc8) [UInt8.ofNat x.length] tab_27 rfl tab_5 ⟨rfl, by decide⟩ (by decide) rfl rfl rfl rfl ?_)
 refine qo hnt rfl (s_appR0 (f := enc8) (l := b) (xs := [UInt8.ofNat x.length]) tab_27 rfl tab_5 ⟨rfl, by decide, by decide⟩ (srcM tab_27 rfl (hM_ref0 (f := enc8) rfl rfl)) rfl rfl (by first | omega | (simp; omega)) ?_)
 refine qm hnt rfl rfl ?_
 refine qo hnt rfl (s_appR0 (f := enc8) (l := b ++ [UInt8.ofNat x.length]) (xs := x) tab_27 rfl tab_5 ⟨rfl, by decide, by decide⟩ (srcM tab_27 rfl (hM_sl (f := enc8) rfl)) rfl rfl (by first | omega | (simp; omega)) ?_)
 refine qa hnt rfl rfl ?_
 refine r_set [(4, PV.ref 3 0 none)] [(3, oB wr 1 enc8 ((b ++ [UInt8.ofNat x.length]) ++ x)), (1, oB true 1 enc8 [UInt8.ofNat x.length])] 4 ⟨rfl, trivial⟩ rfl rfl ?_
 refine r_end ?_
 refine q_then ?_
 refine w_H (H' := [(3, oB wr 1 enc8 (b ++ rowX x)), (1, oB true 1 enc8 [UInt8.ofNat x.length])]) (congrArg (fun z => ([(3, oB wr 1 enc8 z), (1, oB true 1 enc8 [UInt8.ofNat x.length])] : Heap)) (show (b ++ [UInt8.ofNat x.length]) ++ x = b ++ rowX x by simp [rowX])) ?_
 refine w_ret ?_
 exact fin_names (nx1 := 2) (H1 := [(1, oB wr 1 enc8 (b ++ rowX x))]) [(1, 3)] (ret_tmp rfl ret_nil) rfl (by decide) ⟨⟨_, _, rfl, rfl, rfl, rfl⟩, trivial⟩ (by decide) rfl ⟨rfl, rfl, rfl⟩
theorem w_burgageref3_write (r : TRequest) (hb : r.bits.length ≤ 140737488351232) (hv : r.vals.length ≤ 1000000) (h5 : r.fn = 5 → 1 ≤ r.bits.length) (h6 : (r.fn = 6 ∨ r.fn = 8) → 1 ≤ r.vals.length) :
    T Try.prog 80 [PV.f (eRequest r)] 0 [] (Ret (PV.ref 0 0 none) 1 [(0, oB false 1 enc8 (writeR r))]) := by
 refine t_fun tabOk (n := 106) (rs := [.tmp 2]) Try.func80 rfl rfl rfl rfl (Nat.le_of_ble_eq_true rfl) ?_
 intro c hnt hk
 refine w_seq ?_
 refine w_R ?_
 refine qo hnt rfl (s_box rfl rfl ?_)
 refine qa hnt rfl rfl ?_
 refine r_set [(1, PV.ptr 0 0)] [(0, .obj [pI r.fn, pI r.at_, pI r.count, pI r.wAt, pI r.sub, pS 1 false encBo r.bits, pS 1 false enc16 r.vals, p16 r.and_, p16 r.or_])] 1 ⟨rfl, trivial⟩ rfl rfl ?_
 refine r_end ?_
 refine q_then ?_
 refine w_seq ?_
 refine w_R ?_
 refine qo hnt rfl (s_fa_ptr tab_107 rfl rfl tab_3 (by decide) rfl ?_)
 refine qo hnt rfl (s_load_ptr1 tab_3 rfl rfl rfl rfl rfl ?_)
 refine qo hnt rfl (s_cv8 tab_3 tab_5 rfl rfl rfl ?_)
 refine qo hnt rfl (s_mkM (f := enc8) [u8I r.fn] tab_27 rfl tab_5 ⟨rfl, by decide⟩ (by decide) rfl rfl rfl rfl ?_)
 refine qa hnt rfl rfl ?_
 refine r_set [(1, PV.ptr 0 0), (3, PV.ref 1 0 none)] [(1, oB true 1 enc8 [u8I r.fn]), (0, .obj [pI r.fn, pI r.at_, pI r.count, pI r.wAt, pI r.sub, pS 1 false encBo r.bits, pS 1 false enc16 r.vals, p16 r.and_, p16 r.or_])] 2 ⟨rfl, rfl, trivial⟩ rfl rfl ?_
 refine r_end ?_
 refine q_then ?_
 refine w_seq ?_
 refine w_R ?_
 refine qm hnt rfl rfl ?_
 refine qo hnt rfl (s_fa_ptr tab_107 rfl rfl tab_3 (by decide) rfl ?_)
 refine qo hnt rfl (s_load_ptr1 tab_3 rfl rfl rfl rfl rfl ?_)
 refine qo hnt rfl (s_callX (r2 := PV.ref 2 0 none) (nx1 := 3) (H2 := [(1, oB false 1 enc8 [u8I r.fn]), (0, .obj [pI r.fn, pI r.at_, pI r.count, pI r.wAt, pI r.sub, pS 1 false encBo r.bits, pS 1 false enc16 r.vals, p16 r.and_, p16 r.or_])]) (H3 := [(2, oB true 1 enc8 ([u8I r.fn] ++ put2 r.at_)), (1, oB false 1 enc8 [u8I r.fn]), (0, .obj [pI r.fn, pI r.at_, pI r.count, pI r.wAt, pI r.sub, pS 1 false encBo r.bits, pS 1 false enc16 r.vals, p16 r.and_, p16 r.or_])]) [] [] rfl rfl rfl (handed_of (by decide) trivial) rfl rfl rfl rfl rfl rfl (w_burgageref1_Put [u8I r.fn] false r.at_ (by first | omega | assumption | (simp; omega) | decide | (simp; done))) rfl (dist_of rfl) rfl rfl rfl rfl ?_)
 refine qa hnt rfl rfl ?_
 refine r_set [(1, PV.ptr 0 0), (3, PV.ref 1 0 none), (4, PV.ref 2 0 none)] [(2, oB true 1 enc8 ([u8I r.fn] ++ put2 r.at_)), (1, oB false 1 enc8 [u8I r.fn]), (0, .obj [pI r.fn, pI r.at_, pI r.count, pI r.wAt, pI r.sub, pS 1 false encBo r.bits, pS 1 false enc16 r.vals, p16 r.and_, p16 r.or_])] 3 ⟨rfl, rfl, rfl, trivial⟩ rfl rfl ?_
 refine r_end ?_
 refine q_then ?_
 refine w_seq ?_
 refine w_seq ?_
 refine w_R ?_
 refine qo hnt rfl (s_fa_ptr tab_107 rfl rfl tab_3 (by decide) rfl ?_)
 refine qo hnt rfl (s_load_ptr1 tab_3 rfl rfl rfl rfl rfl ?_)
 refine r_end ?_
 refine q_then ?_
 refine w_block ?_
 refine w_seq ?_
 refine w_seq ?_
 refine w_R ?_
 refine qo hnt rfl (s_eql rfl rfl ?_)
 refine qa hnt rfl rfl ?_
 refine r_end ?_
 refine q_then ?_
 refine w_if rfl (fun c1 => ?_) (fun c1 => ?_)
 ·
  have c1_ := c1
  try simp only [sB] at c1
  refine w_skip ?_
  refine q_then ?_
  refine w_if rfl (fun _ => ?_) (fun e => absurd (e.symm.trans c1_) (by decide))
  refine w_seq ?_
  refine w_R ?_
  refine qm hnt rfl rfl ?_
  refine qo hnt rfl (s_fa_ptr tab_107 rfl rfl tab_3 (by decide) rfl ?_)
  refine qo hnt rfl (s_load_ptr1 tab_3 rfl rfl rfl rfl rfl ?_)
  refine qo hnt rfl (s_callX (r2 := PV.ref 3 0 none) (nx1 := 4) (H2 := [(2, oB false 1 enc8 ([u8I r.fn] ++ put2 r.at_)), (1, oB false 1 enc8 [u8I r.fn]), (0, .obj [pI r.fn, pI r.at_, pI r.count, pI r.wAt, pI r.sub, pS 1 false encBo r.bits, pS 1 false enc16 r.vals, p16 r.and_, p16 r.or_])]) (H3 := [(3, oB true 1 enc8 (([u8I r.fn] ++ put2 r.at_) ++ put2 r.count)), (2, oB false 1 enc8 ([u8I r.fn] ++ put2 r.at_)), (1, oB false 1 enc8 [u8I r.fn]), (0, .obj [pI r.fn, pI r.at_, pI r.count, pI r.wAt, pI r.sub, pS 1 false encBo r.bits, pS 1 false enc16 r.vals, p16 r.and_, p16 r.or_])]) [] [] rfl rfl rfl (handed_of (by decide) trivial) rfl rfl rfl rfl rfl rfl (w_burgageref1_Put ([u8I r.fn] ++ put2 r.at_) false r.count (by first | omega | assumption | (simp; omega) | decide | (simp; done))) rfl (dist_of rfl) rfl rfl rfl rfl ?_)
  refine qa hnt rfl rfl ?_
  refine r_set [(2, PV.ref 3 0 none)] [(3, oB true 1 enc8 (([u8I r.fn] ++ put2 r.at_) ++ put2 r.count)), (2, oB false 1 enc8 ([u8I r.fn] ++ put2 r.at_)), (1, oB false 1 enc8 [u8I r.fn]), (0, .obj [pI r.fn, pI r.at_, pI r.count, pI r.wAt, pI r.sub, pS 1 false encBo r.bits, pS 1 false enc16 r.vals, p16 r.and_, p16 r.or_])] 4 ⟨rfl, trivial⟩ rfl rfl ?_
  refine r_end ?_
  refine q_then ?_
  refine w_low (n := 3) rfl ?_
  refine w_H (H' := [(3, oB false 1 enc8 (writeR r)), (2, oB false 1 enc8 ([u8I r.fn] ++ put2 r.at_)), (1, oB false 1 enc8 [u8I r.fn]), (0, .obj [pI r.fn, pI r.at_, pI r.count, pI r.wAt, pI r.sub, pS 1 false encBo r.bits, pS 1 false enc16 r.vals, p16 r.and_, p16 r.or_])]) (congrArg (fun z => ([(3, oB false 1 enc8 z), (2, oB false 1 enc8 ([u8I r.fn] ++ put2 r.at_)), (1, oB false 1 enc8 [u8I r.fn]), (0, .obj [pI r.fn, pI r.at_, pI r.count, pI r.wAt, pI r.sub, pS 1 false encBo r.bits, pS 1 false enc16 r.vals, p16 r.and_, p16 r.or_])] : Heap)) (show ([u8I r.fn] ++ put2 r.at_) ++ put2 r.count = writeR r by first | (rw [writeR_1 (by omega)]; simp; done) | (rw [writeR_1 (by omega)]; done) | (rw [writeR_15 (by omega)]; simp; done) | (rw [writeR_16 (by omega)]; simp; done) | (rw [writeR_22 (by omega)]; simp; done) | (rw [writeR_23 (by omega)]; simp; done) | (rw [writeR_no (by omega)]; done) | (rw [writeR_5 (by omega) (by assumption)]; simp [*]; done) | (rw [writeR_6 (by omega) (by assumption)]; simp; done) | (rw [writeR_8 (by omega) (by assumption)]; simp; done))) ?_
  refine w_ret ?_
  refine q_block_ret ?_
  refine q_then_ret ?_
  exact fin_names (nx1 := 1) (H1 := [(0, oB false 1 enc8 (writeR r))]) [(0, 3)] (ret_tmp rfl ret_nil) rfl (by decide) ⟨⟨_, _, rfl, rfl, rfl, rfl⟩, trivial⟩ (by decide) rfl ⟨rfl, rfl, rfl⟩
 ·
  have c1_ := c1
  try simp only [sB] at c1
  refine w_seq ?_
  refine w_R ?_
  refine qo hnt rfl (s_eql rfl rfl ?_)
  refine qa hnt rfl rfl ?_
  refine r_end ?_
  refine q_then ?_
  refine w_if rfl (fun c2 => ?_) (fun c2 => ?_)
  ·
   have c2_ := c2
   try simp only [sB] at c2
   refine w_skip ?_
   refine q_then ?_
   refine w_if rfl (fun _ => ?_) (fun e => absurd (e.symm.trans c2_) (by decide))
   refine w_seq ?_
   refine w_R ?_
   refine qm hnt rfl rfl ?_
   refine qo hnt rfl (s_fa_ptr tab_107 rfl rfl tab_3 (by decide) rfl ?_)
   refine qo hnt rfl (s_load_ptr1 tab_3 rfl rfl rfl rfl rfl ?_)
   refine qo hnt rfl (s_callX (r2 := PV.ref 3 0 none) (nx1 := 4) (H2 := [(2, oB false 1 enc8 ([u8I r.fn] ++ put2 r.at_)), (1, oB false 1 enc8 [u8I r.fn]), (0, .obj [pI r.fn, pI r.at_, pI r.count, pI r.wAt, pI r.sub, pS 1 false encBo r.bits, pS 1 false enc16 r.vals, p16 r.and_, p16 r.or_])]) (H3 := [(3, oB true 1 enc8 (([u8I r.fn] ++ put2 r.at_) ++ put2 r.count)), (2, oB false 1 enc8 ([u8I r.fn] ++ put2 r.at_)), (1, oB false 1 enc8 [u8I r.fn]), (0, .obj [pI r.fn, pI r.at_, pI r.count, pI r.wAt, pI r.sub, pS 1 false encBo r.bits, pS 1 false enc16 r.vals, p16 r.and_, p16 r.or_])]) [] [] rfl rfl rfl (handed_of (by decide) trivial) rfl rfl rfl rfl rfl rfl (w_burgageref1_Put ([u8I r.fn] ++ put2 r.at_) false r.count (by first | omega | assumption | (simp; omega) | decide | (simp; done))) rfl (dist_of rfl) rfl rfl rfl rfl ?_)
   refine qa hnt rfl rfl ?_
   refine r_set [(2, PV.ref 3 0 none)] [(3, oB true 1 enc8 (([u8I r.fn] ++ put2 r.at_) ++ put2 r.count)), (2, oB false 1 enc8 ([u8I r.fn] ++ put2 r.at_)), (1, oB false 1 enc8 [u8I r.fn]), (0, .obj [pI r.fn, pI r.at_, pI r.count, pI r.wAt, pI r.sub, pS 1 false encBo r.bits, pS 1 false enc16 r.vals, p16 r.and_, p16 r.or_])] 4 ⟨rfl, trivial⟩ rfl rfl ?_
   refine r_end ?_
   refine q_then ?_
   refine w_low (n := 3) rfl ?_
   refine w_H (H' := [(3, oB false 1 enc8 (writeR r)), (2, oB false 1 enc8 ([u8I r.fn] ++ put2 r.at_)), (1, oB false 1 enc8 [u8I r.fn]), (0, .obj [pI r.fn, pI r.at_, pI r.count, pI r.wAt, pI r.sub, pS 1 false encBo r.bits, pS 1 false enc16 r.vals, p16 r.and_, p16 r.or_])]) (congrArg (fun z => ([(3, oB false 1 enc8 z), (2, oB false 1 enc8 ([u8I r.fn] ++ put2 r.at_)), (1, oB false 1 enc8 [u8I r.fn]), (0, .obj [pI r.fn, pI r.at_, pI r.count, pI r.wAt, pI r.sub, pS 1 false encBo r.bits, pS 1 false enc16 r.vals, p16 r.and_, p16 r.or_])] : Heap)) (show ([u8I r.fn] ++ put2 r.at_) ++ put2 r.count = writeR r by first | (rw [writeR_1 (by omega)]; simp; done) | (rw [writeR_1 (by omega)]; done) | (rw [writeR_15 (by omega)]; simp; done) | (rw [writeR_16 (by omega)]; simp; done) | (rw [writeR_22 (by omega)]; simp; done) | (rw [writeR_23 (by omega)]; simp; done) | (rw [writeR_no (by omega)]; done) | (rw [writeR_5 (by omega) (by assumption)]; simp [*]; done) | (rw [writeR_6 (by omega) (by assumption)]; simp; done) | (rw [writeR_8 (by omega) (by assumption)]; simp; done))) ?_
   refine w_ret ?_
   refine q_block_ret ?_
   refine q_then_ret ?_
   exact fin_names (nx1 := 1) (H1 := [(0, oB false 1 enc8 (writeR r))]) [(0, 3)] (ret_tmp rfl ret_nil) rfl (by decide) ⟨⟨_, _, rfl, rfl, rfl, rfl⟩, trivial⟩ (by decide) rfl ⟨rfl, rfl, rfl⟩
  ·
   have c2_ := c2
   try simp only [sB] at c2
   refine w_seq ?_
   refine w_R ?_
   refine qo hnt rfl (s_eql rfl rfl ?_)
   refine qa hnt rfl rfl ?_
   refine r_end ?_
   refine q_then ?_
   refine w_if rfl (fun c3 => ?_) (fun c3 => ?_)
   ·
    have c3_ := c3
    try simp only [sB] at c3
    refine w_skip ?_
    refine q_then ?_
    refine w_if rfl (fun _ => ?_) (fun e => absurd (e.symm.trans c3_) (by decide))
    refine w_seq ?_
    refine w_R ?_
    refine qm hnt rfl rfl ?_
    refine qo hnt rfl (s_fa_ptr tab_107 rfl rfl tab_3 (by decide) rfl ?_)
    refine qo hnt rfl (s_load_ptr1 tab_3 rfl rfl rfl rfl rfl ?_)
    refine qo hnt rfl (s_callX (r2 := PV.ref 3 0 none) (nx1 := 4) (H2 := [(2, oB false 1 enc8 ([u8I r.fn] ++ put2 r.at_)), (1, oB false 1 enc8 [u8I r.fn]), (0, .obj [pI r.fn, pI r.at_, pI r.count, pI r.wAt, pI r.sub, pS 1 false encBo r.bits, pS 1 false enc16 r.vals, p16 r.and_, p16 r.or_])]) (H3 := [(3, oB true 1 enc8 (([u8I r.fn] ++ put2 r.at_) ++ put2 r.count)), (2, oB false 1 enc8 ([u8I r.fn] ++ put2 r.at_)), (1, oB false 1 enc8 [u8I r.fn]), (0, .obj [pI r.fn, pI r.at_, pI r.count, pI r.wAt, pI r.sub, pS 1 false encBo r.bits, pS 1 false enc16 r.vals, p16 r.and_, p16 r.or_])]) [] [] rfl rfl rfl (handed_of (by decide) trivial) rfl rfl rfl rfl rfl rfl (w_burgageref1_Put ([u8I r.fn] ++ put2 r.at_) false r.count (by first | omega | assumption | (simp; omega) | decide | (simp; done))) rfl (dist_of rfl) rfl rfl rfl rfl ?_)
    refine qa hnt rfl rfl ?_
    refine r_set [(2, PV.ref 3 0 none)] [(3, oB true 1 enc8 (([u8I r.fn] ++ put2 r.at_) ++ put2 r.count)), (2, oB false 1 enc8 ([u8I r.fn] ++ put2 r.at_)), (1, oB false 1 enc8 [u8I r.fn]), (0, .obj [pI r.fn, pI r.at_, pI r.count, pI r.wAt, pI r.sub, pS 1 false encBo r.bits, pS 1 false enc16 r.vals, p16 r.and_, p16 r.or_])] 4 ⟨rfl, trivial⟩ rfl rfl ?_
    refine r_end ?_
    refine q_then ?_
    refine w_low (n := 3) rfl ?_
    refine w_H (H' := [(3, oB false 1 enc8 (writeR r)), (2, oB false 1 enc8 ([u8I r.fn] ++ put2 r.at_)), (1, oB false 1 enc8 [u8I r.fn]), (0, .obj [pI r.fn, pI r.at_, pI r.count, pI r.wAt, pI r.sub, pS 1 false encBo r.bits, pS 1 false enc16 r.vals, p16 r.and_, p16 r.or_])]) (congrArg (fun z => ([(3, oB false 1 enc8 z), (2, oB false 1 enc8 ([u8I r.fn] ++ put2 r.at_)), (1, oB false 1 enc8 [u8I r.fn]), (0, .obj [pI r.fn, pI r.at_, pI r.count, pI r.wAt, pI r.sub, pS 1 false encBo r.bits, pS 1 false enc16 r.vals, p16 r.and_, p16 r.or_])] : Heap)) (show ([u8I r.fn] ++ put2 r.at_) ++ put2 r.count = writeR r by first | (rw [writeR_1 (by omega)]; simp; done) | (rw [writeR_1 (by omega)]; done) | (rw [writeR_15 (by omega)]; simp; done) | (rw [writeR_16 (by omega)]; simp; done) | (rw [writeR_22 (by omega)]; simp; done) | (rw [writeR_23 (by omega)]; simp; done) | (rw [writeR_no (by omega)]; done) | (rw [writeR_5 (by omega) (by assumption)]; simp [*]; done) | (rw [writeR_6 (by omega) (by assumption)]; simp; done) | (rw [writeR_8 (by omega) (by assumption)]; simp; done))) ?_
    refine w_ret ?_
    refine q_block_ret ?_
    refine q_then_ret ?_
    exact fin_names (nx1 := 1) (H1 := [(0, oB false 1 enc8 (writeR r))]) [(0, 3)] (ret_tmp rfl ret_nil) rfl (by decide) ⟨⟨_, _, rfl, rfl, rfl, rfl⟩, trivial⟩ (by decide) rfl ⟨rfl, rfl, rfl⟩
   ·
    have c3_ := c3
    try simp only [sB] at c3
    refine w_R ?_
    refine qo hnt rfl (s_eql rfl rfl ?_)
    refine qa hnt rfl rfl ?_
    refine r_end ?_
    refine q_then ?_
    refine w_if rfl (fun c4 => ?_) (fun c4 => ?_)
    ·
     have c4_ := c4
     try simp only [sB] at c4
     refine w_seq ?_
     refine w_R ?_
     refine qm hnt rfl rfl ?_
     refine qo hnt rfl (s_fa_ptr tab_107 rfl rfl tab_3 (by decide) rfl ?_)
     refine qo hnt rfl (s_load_ptr1 tab_3 rfl rfl rfl rfl rfl ?_)
     refine qo hnt rfl (s_callX (r2 := PV.ref 3 0 none) (nx1 := 4) (H2 := [(2, oB false 1 enc8 ([u8I r.fn] ++ put2 r.at_)), (1, oB false 1 enc8 [u8I r.fn]), (0, .obj [pI r.fn, pI r.at_, pI r.count, pI r.wAt, pI r.sub, pS 1 false encBo r.bits, pS 1 false enc16 r.vals, p16 r.and_, p16 r.or_])]) (H3 := [(3, oB true 1 enc8 (([u8I r.fn] ++ put2 r.at_) ++ put2 r.count)), (2, oB false 1 enc8 ([u8I r.fn] ++ put2 r.at_)), (1, oB false 1 enc8 [u8I r.fn]), (0, .obj [pI r.fn, pI r.at_, pI r.count, pI r.wAt, pI r.sub, pS 1 false encBo r.bits, pS 1 false enc16 r.vals, p16 r.and_, p16 r.or_])]) [] [] rfl rfl rfl (handed_of (by decide) trivial) rfl rfl rfl rfl rfl rfl (w_burgageref1_Put ([u8I r.fn] ++ put2 r.at_) false r.count (by first | omega | assumption | (simp; omega) | decide | (simp; done))) rfl (dist_of rfl) rfl rfl rfl rfl ?_)
     refine qa hnt rfl rfl ?_
     refine r_set [(2, PV.ref 3 0 none)] [(3, oB true 1 enc8 (([u8I r.fn] ++ put2 r.at_) ++ put2 r.count)), (2, oB false 1 enc8 ([u8I r.fn] ++ put2 r.at_)), (1, oB false 1 enc8 [u8I r.fn]), (0, .obj [pI r.fn, pI r.at_, pI r.count, pI r.wAt, pI r.sub, pS 1 false encBo r.bits, pS 1 false enc16 r.vals, p16 r.and_, p16 r.or_])] 4 ⟨rfl, trivial⟩ rfl rfl ?_
     refine r_end ?_
     refine q_then ?_
     refine w_low (n := 3) rfl ?_
     refine w_H (H' := [(3, oB false 1 enc8 (writeR r)), (2, oB false 1 enc8 ([u8I r.fn] ++ put2 r.at_)), (1, oB false 1 enc8 [u8I r.fn]), (0, .obj [pI r.fn, pI r.at_, pI r.count, pI r.wAt, pI r.sub, pS 1 false encBo r.bits, pS 1 false enc16 r.vals, p16 r.and_, p16 r.or_])]) (congrArg (fun z => ([(3, oB false 1 enc8 z), (2, oB false 1 enc8 ([u8I r.fn] ++ put2 r.at_)), (1, oB false 1 enc8 [u8I r.fn]), (0, .obj [pI r.fn, pI r.at_, pI r.count, pI r.wAt, pI r.sub, pS 1 false encBo r.bits, pS 1 false enc16 r.vals, p16 r.and_, p16 r.or_])] : Heap)) (show ([u8I r.fn] ++ put2 r.at_) ++ put2 r.count = writeR r by first | (rw [writeR_1 (by omega)]; simp; done) | (rw [writeR_1 (by omega)]; done) | (rw [writeR_15 (by omega)]; simp; done) | (rw [writeR_16 (by omega)]; simp; done) | (rw [writeR_22 (by omega)]; simp; done) | (rw [writeR_23 (by omega)]; simp; done) | (rw [writeR_no (by omega)]; done) | (rw [writeR_5 (by omega) (by assumption)]; simp [*]; done) | (rw [writeR_6 (by omega) (by assumption)]; simp; done) | (rw [writeR_8 (by omega) (by assumption)]; simp; done))) ?_
     refine w_ret ?_
     refine q_block_ret ?_
     refine q_then_ret ?_
     exact fin_names (nx1 := 1) (H1 := [(0, oB false 1 enc8 (writeR r))]) [(0, 3)] (ret_tmp rfl ret_nil) rfl (by decide) ⟨⟨_, _, rfl, rfl, rfl, rfl⟩, trivial⟩ (by decide) rfl ⟨rfl, rfl, rfl⟩
    ·
     have c4_ := c4
     try simp only [sB] at c4
     refine w_seq ?_
     refine w_R ?_
     refine qo hnt rfl (s_eql rfl rfl ?_)
     refine qa hnt rfl rfl ?_
     refine r_end ?_
     refine q_then ?_
     refine w_if rfl (fun c5 => ?_) (fun c5 => ?_)
     ·
      have c5_ := c5
      try simp only [sB] at c5
      refine w_seq ?_
      refine w_seq ?_
      refine w_R ?_
      refine qo hnt rfl (s_fa_ptr tab_107 rfl rfl tab_44 (by decide) rfl ?_)
      refine qo hnt rfl (s_load_ptr1 tab_44 rfl rfl rfl rfl rfl ?_)
      obtain ⟨e1, he1⟩ := get_of_lt r.bits (i := 0) (by omega)
      refine qo hnt rfl (s_iaM (q := 0) (b := e1) (f := encBo) tab_44 rfl tab_4 rfl rfl (by omega) rfl he1 ?_)
      refine qo hnt rfl (s_load_ro1 tab_4 rfl rfl rfl rfl ?_)
      refine r_end ?_
      refine q_then ?_
      refine w_if rfl (fun c6 => ?_) (fun c6 => ?_)
      ·
       have c6_ := c6
       try simp only [sB] at c6
       refine w_seq ?_
       refine w_R ?_
       refine qm hnt rfl rfl ?_
       refine qo hnt rfl (s_callX (r2 := PV.ref 3 0 none) (nx1 := 4) (H2 := [(2, oB false 1 enc8 ([u8I r.fn] ++ put2 r.at_)), (1, oB false 1 enc8 [u8I r.fn]), (0, .obj [pI r.fn, pI r.at_, pI r.count, pI r.wAt, pI r.sub, pS 1 false encBo r.bits, pS 1 false enc16 r.vals, p16 r.and_, p16 r.or_])]) (H3 := [(3, oB true 1 enc8 (([u8I r.fn] ++ put2 r.at_) ++ put2 65280)), (2, oB false 1 enc8 ([u8I r.fn] ++ put2 r.at_)), (1, oB false 1 enc8 [u8I r.fn]), (0, .obj [pI r.fn, pI r.at_, pI r.count, pI r.wAt, pI r.sub, pS 1 false encBo r.bits, pS 1 false enc16 r.vals, p16 r.and_, p16 r.or_])]) [] [] rfl rfl rfl (handed_of (by decide) trivial) rfl rfl rfl rfl rfl rfl (w_burgageref1_Put ([u8I r.fn] ++ put2 r.at_) false 65280 (by first | omega | assumption | (simp; omega) | decide | (simp; done))) rfl (dist_of rfl) rfl rfl rfl rfl ?_)
       refine qa hnt rfl rfl ?_
       refine r_set [(2, PV.ref 3 0 none)] [(3, oB true 1 enc8 (([u8I r.fn] ++ put2 r.at_) ++ put2 65280)), (2, oB false 1 enc8 ([u8I r.fn] ++ put2 r.at_)), (1, oB false 1 enc8 [u8I r.fn]), (0, .obj [pI r.fn, pI r.at_, pI r.count, pI r.wAt, pI r.sub, pS 1 false encBo r.bits, pS 1 false enc16 r.vals, p16 r.and_, p16 r.or_])] 4 ⟨rfl, trivial⟩ rfl rfl ?_
       refine r_end ?_
       refine q_then ?_
       refine w_low (n := 3) rfl ?_
       refine w_H (H' := [(3, oB false 1 enc8 (writeR r)), (2, oB false 1 enc8 ([u8I r.fn] ++ put2 r.at_)), (1, oB false 1 enc8 [u8I r.fn]), (0, .obj [pI r.fn, pI r.at_, pI r.count, pI r.wAt, pI r.sub, pS 1 false encBo r.bits, pS 1 false enc16 r.vals, p16 r.and_, p16 r.or_])]) (congrArg (fun z => ([(3, oB false 1 enc8 z), (2, oB false 1 enc8 ([u8I r.fn] ++ put2 r.at_)), (1, oB false 1 enc8 [u8I r.fn]), (0, .obj [pI r.fn, pI r.at_, pI r.count, pI r.wAt, pI r.sub, pS 1 false encBo r.bits, pS 1 false enc16 r.vals, p16 r.and_, p16 r.or_])] : Heap)) (show ([u8I r.fn] ++ put2 r.at_) ++ put2 65280 = writeR r by first | (rw [writeR_1 (by omega)]; simp; done) | (rw [writeR_1 (by omega)]; done) | (rw [writeR_15 (by omega)]; simp; done) | (rw [writeR_16 (by omega)]; simp; done) | (rw [writeR_22 (by omega)]; simp; done) | (rw [writeR_23 (by omega)]; simp; done) | (rw [writeR_no (by omega)]; done) | (rw [writeR_5 (by omega) (by assumption)]; simp [*]; done) | (rw [writeR_6 (by omega) (by assumption)]; simp; done) | (rw [writeR_8 (by omega) (by assumption)]; simp; done))) ?_
       refine w_ret ?_
       refine q_then_ret ?_
       refine q_block_ret ?_
       refine q_then_ret ?_
       exact fin_names (nx1 := 1) (H1 := [(0, oB false 1 enc8 (writeR r))]) [(0, 3)] (ret_tmp rfl ret_nil) rfl (by decide) ⟨⟨_, _, rfl, rfl, rfl, rfl⟩, trivial⟩ (by decide) rfl ⟨rfl, rfl, rfl⟩
      ·
       have c6_ := c6
       try simp only [sB] at c6
       refine w_skip ?_
       refine q_then ?_
       refine w_seq ?_
       refine w_R ?_
       refine qm hnt rfl rfl ?_
       refine qo hnt rfl (s_callX (r2 := PV.ref 3 0 none) (nx1 := 4) (H2 := [(2, oB false 1 enc8 ([u8I r.fn] ++ put2 r.at_)), (1, oB false 1 enc8 [u8I r.fn]), (0, .obj [pI r.fn, pI r.at_, pI r.count, pI r.wAt, pI r.sub, pS 1 false encBo r.bits, pS 1 false enc16 r.vals, p16 r.and_, p16 r.or_])]) (H3 := [(3, oB true 1 enc8 (([u8I r.fn] ++ put2 r.at_) ++ put2 0)), (2, oB false 1 enc8 ([u8I r.fn] ++ put2 r.at_)), (1, oB false 1 enc8 [u8I r.fn]), (0, .obj [pI r.fn, pI r.at_, pI r.count, pI r.wAt, pI r.sub, pS 1 false encBo r.bits, pS 1 false enc16 r.vals, p16 r.and_, p16 r.or_])]) [] [] rfl rfl rfl (handed_of (by decide) trivial) rfl rfl rfl rfl rfl rfl (w_burgageref1_Put ([u8I r.fn] ++ put2 r.at_) false 0 (by first | omega | assumption | (simp; omega) | decide | (simp; done))) rfl (dist_of rfl) rfl rfl rfl rfl ?_)
       refine qa hnt rfl rfl ?_
       refine r_set [(2, PV.ref 3 0 none)] [(3, oB true 1 enc8 (([u8I r.fn] ++ put2 r.at_) ++ put2 0)), (2, oB false 1 enc8 ([u8I r.fn] ++ put2 r.at_)), (1, oB false 1 enc8 [u8I r.fn]), (0, .obj [pI r.fn, pI r.at_, pI r.count, pI r.wAt, pI r.sub, pS 1 false encBo r.bits, pS 1 false enc16 r.vals, p16 r.and_, p16 r.or_])] 4 ⟨rfl, trivial⟩ rfl rfl ?_
       refine r_end ?_
       refine q_then ?_
       refine w_low (n := 3) rfl ?_
       refine w_H (H' := [(3, oB false 1 enc8 (writeR r)), (2, oB false 1 enc8 ([u8I r.fn] ++ put2 r.at_)), (1, oB false 1 enc8 [u8I r.fn]), (0, .obj [pI r.fn, pI r.at_, pI r.count, pI r.wAt, pI r.sub, pS 1 false encBo r.bits, pS 1 false enc16 r.vals, p16 r.and_, p16 r.or_])]) (congrArg (fun z => ([(3, oB false 1 enc8 z), (2, oB false 1 enc8 ([u8I r.fn] ++ put2 r.at_)), (1, oB false 1 enc8 [u8I r.fn]), (0, .obj [pI r.fn, pI r.at_, pI r.count, pI r.wAt, pI r.sub, pS 1 false encBo r.bits, pS 1 false enc16 r.vals, p16 r.and_, p16 r.or_])] : Heap)) (show ([u8I r.fn] ++ put2 r.at_) ++ put2 0 = writeR r by first | (rw [writeR_1 (by omega)]; simp; done) | (rw [writeR_1 (by omega)]; done) | (rw [writeR_15 (by omega)]; simp; done) | (rw [writeR_16 (by omega)]; simp; done) | (rw [writeR_22 (by omega)]; simp; done) | (rw [writeR_23 (by omega)]; simp; done) | (rw [writeR_no (by omega)]; done) | (rw [writeR_5 (by omega) (by assumption)]; simp [*]; done) | (rw [writeR_6 (by omega) (by assumption)]; simp; done) | (rw [writeR_8 (by omega) (by assumption)]; simp; done))) ?_
       refine w_ret ?_
       refine q_block_ret ?_
       refine q_then_ret ?_
       exact fin_names (nx1 := 1) (H1 := [(0, oB false 1 enc8 (writeR r))]) [(0, 3)] (ret_tmp rfl ret_nil) rfl (by decide) ⟨⟨_, _, rfl, rfl, rfl, rfl⟩, trivial⟩ (by decide) rfl ⟨rfl, rfl, rfl⟩
     ·
      have c5_ := c5
      try simp only [sB] at c5
      refine w_seq ?_
      refine w_R ?_
      refine qo hnt rfl (s_eql rfl rfl ?_)
      refine qa hnt rfl rfl ?_
      refine r_end ?_
      refine q_then ?_
      refine w_if rfl (fun c7 => ?_) (fun c7 => ?_)
      ·
       have c7_ := c7
       try simp only [sB] at c7
       refine w_seq ?_
       refine w_R ?_
       refine qm hnt rfl rfl ?_
       refine qo hnt rfl (s_fa_ptr tab_107 rfl rfl tab_45 (by decide) rfl ?_)
       refine qo hnt rfl (s_load_ptr1 tab_45 rfl rfl rfl rfl rfl ?_)
       obtain ⟨e2, he2⟩ := get_of_lt r.vals (i := 0) (by omega)
       refine qo hnt rfl (s_iaM (q := 0) (b := e2) (f := enc16) tab_45 rfl tab_47 rfl rfl (by omega) rfl he2 ?_)
       refine qo hnt rfl (s_load_ro1 tab_47 rfl rfl rfl rfl ?_)
       refine qo hnt rfl (s_cvN (a := UInt16.toNat e2) tab_47 tab_3 rfl rfl rfl (by omega) (by have := lt16 e2; omega) ?_)
       refine qo hnt rfl (s_callX (r2 := PV.ref 3 0 none) (nx1 := 4) (H2 := [(2, oB false 1 enc8 ([u8I r.fn] ++ put2 r.at_)), (1, oB false 1 enc8 [u8I r.fn]), (0, .obj [pI r.fn, pI r.at_, pI r.count, pI r.wAt, pI r.sub, pS 1 false encBo r.bits, pS 1 false enc16 r.vals, p16 r.and_, p16 r.or_])]) (H3 := [(3, oB true 1 enc8 (([u8I r.fn] ++ put2 r.at_) ++ put2 ((UInt16.toNat e2 : Nat) : Int))), (2, oB false 1 enc8 ([u8I r.fn] ++ put2 r.at_)), (1, oB false 1 enc8 [u8I r.fn]), (0, .obj [pI r.fn, pI r.at_, pI r.count, pI r.wAt, pI r.sub, pS 1 false encBo r.bits, pS 1 false enc16 r.vals, p16 r.and_, p16 r.or_])]) [] [] rfl rfl rfl (handed_of (by decide) trivial) rfl rfl rfl rfl rfl rfl (w_burgageref1_Put ([u8I r.fn] ++ put2 r.at_) false ((UInt16.toNat e2 : Nat) : Int) (by first | omega | assumption | (simp; omega) | decide | (simp; done))) rfl (dist_of rfl) rfl rfl rfl rfl ?_)
       refine qa hnt rfl rfl ?_
       refine r_set [(2, PV.ref 3 0 none)] [(3, oB true 1 enc8 (([u8I r.fn] ++ put2 r.at_) ++ put2 ((UInt16.toNat e2 : Nat) : Int))), (2, oB false 1 enc8 ([u8I r.fn] ++ put2 r.at_)), (1, oB false 1 enc8 [u8I r.fn]), (0, .obj [pI r.fn, pI r.at_, pI r.count, pI r.wAt, pI r.sub, pS 1 false encBo r.bits, pS 1 false enc16 r.vals, p16 r.and_, p16 r.or_])] 4 ⟨rfl, trivial⟩ rfl rfl ?_
       refine r_end ?_
       refine q_then ?_
       refine w_low (n := 3) rfl ?_
       refine w_H (H' := [(3, oB false 1 enc8 (writeR r)), (2, oB false 1 enc8 ([u8I r.fn] ++ put2 r.at_)), (1, oB false 1 enc8 [u8I r.fn]), (0, .obj [pI r.fn, pI r.at_, pI r.count, pI r.wAt, pI r.sub, pS 1 false encBo r.bits, pS 1 false enc16 r.vals, p16 r.and_, p16 r.or_])]) (congrArg (fun z => ([(3, oB false 1 enc8 z), (2, oB false 1 enc8 ([u8I r.fn] ++ put2 r.at_)), (1, oB false 1 enc8 [u8I r.fn]), (0, .obj [pI r.fn, pI r.at_, pI r.count, pI r.wAt, pI r.sub, pS 1 false encBo r.bits, pS 1 false enc16 r.vals, p16 r.and_, p16 r.or_])] : Heap)) (show ([u8I r.fn] ++ put2 r.at_) ++ put2 ((UInt16.toNat e2 : Nat) : Int) = writeR r by first | (rw [writeR_1 (by omega)]; simp; done) | (rw [writeR_1 (by omega)]; done) | (rw [writeR_15 (by omega)]; simp; done) | (rw [writeR_16 (by omega)]; simp; done) | (rw [writeR_22 (by omega)]; simp; done) | (rw [writeR_23 (by omega)]; simp; done) | (rw [writeR_no (by omega)]; done) | (rw [writeR_5 (by omega) (by assumption)]; simp [*]; done) | (rw [writeR_6 (by omega) (by assumption)]; simp; done) | (rw [writeR_8 (by omega) (by assumption)]; simp; done))) ?_
       refine w_ret ?_
       refine q_block_ret ?_
       refine q_then_ret ?_
       exact fin_names (nx1 := 1) (H1 := [(0, oB false 1 enc8 (writeR r))]) [(0, 3)] (ret_tmp rfl ret_nil) rfl (by decide) ⟨⟨_, _, rfl, rfl, rfl, rfl⟩, trivial⟩ (by decide) rfl ⟨rfl, rfl, rfl⟩
      ·
       have c7_ := c7
       try simp only [sB] at c7
       refine w_seq ?_
       refine w_R ?_
       refine qo hnt rfl (s_eql rfl rfl ?_)
       refine qa hnt rfl rfl ?_
       refine r_end ?_
       refine q_then ?_
       refine w_if rfl (fun c8 => ?_) (fun c8 => ?_)
       ·
        have c8_ := c8
        try simp only [sB] at c8
        refine w_seq ?_
        refine W_drawn tabOk mixed hnt [[], [], [1], [0, 1, 2], [], [4], [4, 5], [4, 5, 6], [4, 5, 6, 7], [0, 1, 2, 3, 4, 5, 6, 7, 8], [0, 1, 2, 3, 4, 5, 6, 7, 8, 9]] (by kernel_rfl) ?_
        refine d_op ?_
        refine x_run0 [(3, PV.ref 1 0 none)] [] rfl rfl rfl rfl (s_move rfl ⟨rfl, rfl, rfl⟩) ?_
        refine d_op ?_
        refine x_run0 [(1, PV.ptr 0 0)] [] rfl rfl rfl rfl (s_fa_ptr tab_107 rfl rfl tab_3 (by decide) rfl ⟨rfl, rfl, rfl⟩) ?_
        refine d_op ?_
        refine x_run [(47, PV.ptr 0 4)] [1] [(0, .obj [pI r.fn, pI r.at_, pI r.count, pI r.wAt, pI r.sub, pS 1 false encBo r.bits, pS 1 false enc16 r.vals, p16 r.and_, p16 r.or_])] [] [(0, .obj [pI r.fn, pI r.at_, pI r.count, pI r.wAt, pI r.sub, pS 1 false encBo r.bits, pS 1 false enc16 r.vals, p16 r.and_, p16 r.or_])] [] [(2, oB true 1 enc8 ([u8I r.fn] ++ put2 r.at_)), (1, oB false 1 enc8 [u8I r.fn]), (0, .obj [pI r.fn, pI r.at_, pI r.count, pI r.wAt, pI r.sub, pS 1 false encBo r.bits, pS 1 false enc16 r.vals, p16 r.and_, p16 r.or_])] rfl rfl rfl rfl rfl rfl (s_load_ptr1 tab_3 rfl rfl rfl rfl rfl ⟨rfl, rfl, rfl⟩) rfl ⟨rfl, trivial⟩ rfl rfl ?_
        refine d_op ?_
        refine x_run [(46, PV.ref 1 0 none), (48, pI r.sub)] [0, 1, 2] [] [(1, oB false 1 enc8 [u8I r.fn])] [(3, oB true 1 enc8 ([u8I r.fn] ++ put2 r.sub)), (1, oB false 1 enc8 [u8I r.fn])] [(3, oB true 1 enc8 ([u8I r.fn] ++ put2 r.sub)), (1, oB false 1 enc8 [u8I r.fn])] [(3, oB true 1 enc8 ([u8I r.fn] ++ put2 r.sub)), (1, oB false 1 enc8 [u8I r.fn]), (2, oB true 1 enc8 ([u8I r.fn] ++ put2 r.at_)), (0, .obj [pI r.fn, pI r.at_, pI r.count, pI r.wAt, pI r.sub, pS 1 false encBo r.bits, pS 1 false enc16 r.vals, p16 r.and_, p16 r.or_])] rfl rfl rfl rfl rfl rfl (s_callX (r2 := PV.ref 3 0 none) (nx1 := 4) (H2 := [(1, oB false 1 enc8 [u8I r.fn])]) (H3 := [(3, oB true 1 enc8 ([u8I r.fn] ++ put2 r.sub)), (1, oB false 1 enc8 [u8I r.fn])]) [] [] rfl rfl rfl (handed_of (by decide) trivial) rfl rfl rfl rfl rfl rfl (w_burgageref1_Put [u8I r.fn] false r.sub (by first | omega | assumption | (simp; omega) | decide | (simp; done))) rfl (dist_of rfl) rfl rfl rfl rfl ⟨rfl, rfl, rfl⟩) rfl trivial rfl rfl ?_
        refine d_op ?_
        refine x_run0 [(1, PV.ptr 0 0)] [] rfl rfl rfl rfl (s_fa_ptr tab_107 rfl rfl tab_45 (by decide) rfl ⟨rfl, rfl, rfl⟩) ?_
        refine d_op ?_
        refine x_run [(50, PV.ptr 0 6)] [4] [(0, .obj [pI r.fn, pI r.at_, pI r.count, pI r.wAt, pI r.sub, pS 1 false encBo r.bits, pS 1 false enc16 r.vals, p16 r.and_, p16 r.or_])] [] [(0, .obj [pI r.fn, pI r.at_, pI r.count, pI r.wAt, pI r.sub, pS 1 false encBo r.bits, pS 1 false enc16 r.vals, p16 r.and_, p16 r.or_])] [] [(3, oB true 1 enc8 ([u8I r.fn] ++ put2 r.sub)), (1, oB false 1 enc8 [u8I r.fn]), (2, oB true 1 enc8 ([u8I r.fn] ++ put2 r.at_)), (0, .obj [pI r.fn, pI r.at_, pI r.count, pI r.wAt, pI r.sub, pS 1 false encBo r.bits, pS 1 false enc16 r.vals, p16 r.and_, p16 r.or_])] rfl rfl rfl rfl rfl rfl (s_load_ptr1 tab_45 rfl rfl rfl rfl rfl ⟨rfl, rfl, rfl⟩) rfl ⟨rfl, trivial⟩ rfl rfl ?_
        refine d_op ?_
        obtain ⟨e3, he3⟩ := get_of_lt r.vals (i := 0) (by omega)
        refine x_run0 [(51, pS 1 false enc16 r.vals)] [4, 5] rfl rfl rfl rfl (s_iaM (q := 0) (b := e3) (f := enc16) tab_45 rfl tab_47 rfl rfl (by omega) rfl he3 ⟨rfl, rfl, rfl⟩) ?_
        refine d_op ?_
        refine x_run0 [(52, PV.f (.ro (enc16 e3)))] [4, 5, 6] rfl rfl rfl rfl (s_load_ro1 tab_47 rfl rfl rfl rfl ⟨rfl, rfl, rfl⟩) ?_
        refine d_op ?_
        refine x_run0 [(53, p16 e3)] [4, 5, 6, 7] rfl rfl rfl rfl (s_cvN (a := UInt16.toNat e3) tab_47 tab_3 rfl rfl rfl (by omega) (by have := lt16 e3; omega) ⟨rfl, rfl, rfl⟩) ?_
        refine d_op ?_
        refine x_run [(49, PV.ref 3 0 none), (54, pN (UInt16.toNat e3))] [0, 1, 2, 3, 4, 5, 6, 7, 8] [] [(3, oB true 1 enc8 ([u8I r.fn] ++ put2 r.sub))] [(4, oB true 1 enc8 (([u8I r.fn] ++ put2 r.sub) ++ put2 ((UInt16.toNat e3 : Nat) : Int))), (3, oB false 1 enc8 ([u8I r.fn] ++ put2 r.sub))] [(4, oB true 1 enc8 (([u8I r.fn] ++ put2 r.sub) ++ put2 ((UInt16.toNat e3 : Nat) : Int))), (3, oB false 1 enc8 ([u8I r.fn] ++ put2 r.sub))] [(4, oB true 1 enc8 (([u8I r.fn] ++ put2 r.sub) ++ put2 ((UInt16.toNat e3 : Nat) : Int))), (3, oB false 1 enc8 ([u8I r.fn] ++ put2 r.sub)), (1, oB false 1 enc8 [u8I r.fn]), (2, oB true 1 enc8 ([u8I r.fn] ++ put2 r.at_)), (0, .obj [pI r.fn, pI r.at_, pI r.count, pI r.wAt, pI r.sub, pS 1 false encBo r.bits, pS 1 false enc16 r.vals, p16 r.and_, p16 r.or_])] rfl rfl rfl rfl rfl rfl (s_callX (r2 := PV.ref 4 0 none) (nx1 := 5) (H2 := [(3, oB false 1 enc8 ([u8I r.fn] ++ put2 r.sub))]) (H3 := [(4, oB true 1 enc8 (([u8I r.fn] ++ put2 r.sub) ++ put2 ((UInt16.toNat e3 : Nat) : Int))), (3, oB false 1 enc8 ([u8I r.fn] ++ put2 r.sub))]) [] [] rfl rfl rfl (handed_of (by decide) trivial) rfl rfl rfl rfl rfl rfl (w_burgageref1_Put ([u8I r.fn] ++ put2 r.sub) false ((UInt16.toNat e3 : Nat) : Int) (by first | omega | assumption | (simp; omega) | decide | (simp; done))) rfl (dist_of rfl) rfl rfl rfl rfl ⟨rfl, rfl, rfl⟩) rfl trivial rfl rfl ?_
        refine d_op ?_
        refine x_run0 [(55, PV.ref 4 0 none)] [0, 1, 2, 3, 4, 5, 6, 7, 8, 9] rfl rfl rfl rfl (s_assign rfl ⟨rfl, rfl, rfl⟩) ?_
        refine d_end ⟨by kernel_rfl, ?_⟩
        refine q_then ?_
        refine w_low (n := 4) rfl ?_
        refine w_H (H' := [(4, oB false 1 enc8 (writeR r)), (3, oB false 1 enc8 ([u8I r.fn] ++ put2 r.sub)), (1, oB false 1 enc8 [u8I r.fn]), (2, oB true 1 enc8 ([u8I r.fn] ++ put2 r.at_)), (0, .obj [pI r.fn, pI r.at_, pI r.count, pI r.wAt, pI r.sub, pS 1 false encBo r.bits, pS 1 false enc16 r.vals, p16 r.and_, p16 r.or_])]) (congrArg (fun z => ([(4, oB false 1 enc8 z), (3, oB false 1 enc8 ([u8I r.fn] ++ put2 r.sub)), (1, oB false 1 enc8 [u8I r.fn]), (2, oB true 1 enc8 ([u8I r.fn] ++ put2 r.at_)), (0, .obj [pI r.fn, pI r.at_, pI r.count, pI r.wAt, pI r.sub, pS 1 false encBo r.bits, pS 1 false enc16 r.vals, p16 r.and_, p16 r.or_])] : Heap)) (show ([u8I r.fn] ++ put2 r.sub) ++ put2 ((UInt16.toNat e3 : Nat) : Int) = writeR r by first | (rw [writeR_1 (by omega)]; simp; done) | (rw [writeR_1 (by omega)]; done) | (rw [writeR_15 (by omega)]; simp; done) | (rw [writeR_16 (by omega)]; simp; done) | (rw [writeR_22 (by omega)]; simp; done) | (rw [writeR_23 (by omega)]; simp; done) | (rw [writeR_no (by omega)]; done) | (rw [writeR_5 (by omega) (by assumption)]; simp [*]; done) | (rw [writeR_6 (by omega) (by assumption)]; simp; done) | (rw [writeR_8 (by omega) (by assumption)]; simp; done))) ?_
        refine w_ret ?_
        refine q_block_ret ?_
        refine q_then_ret ?_
        exact fin_names (nx1 := 1) (H1 := [(0, oB false 1 enc8 (writeR r))]) [(0, 4)] (ret_tmp rfl ret_nil) rfl (by decide) ⟨⟨_, _, rfl, rfl, rfl, rfl⟩, trivial⟩ (by decide) rfl ⟨rfl, rfl, rfl⟩
       ·
        have c8_ := c8
        try simp only [sB] at c8
        refine w_seq ?_
        refine w_R ?_
        refine qo hnt rfl (s_eql rfl rfl ?_)
        refine qa hnt rfl rfl ?_
        refine r_end ?_
        refine q_then ?_
        refine w_if rfl (fun c9 => ?_) (fun c9 => ?_)
        ·
         have c9_ := c9
         try simp only [sB] at c9
         refine w_seq ?_
         refine W_drawn tabOk mixed hnt [[], [], [1], [0, 1, 2], [], [4], [0, 1, 2, 3, 4, 5], [0, 1, 2, 3, 4, 5, 6], [0, 1, 2, 3, 4, 5, 6, 7]] (by kernel_rfl) ?_
         refine d_op ?_
         refine x_run0 [(4, PV.ref 2 0 none)] [] rfl rfl rfl rfl (s_move rfl ⟨rfl, rfl, rfl⟩) ?_
         refine d_op ?_
         refine x_run0 [(1, PV.ptr 0 0)] [] rfl rfl rfl rfl (s_fa_ptr tab_107 rfl rfl tab_3 (by decide) rfl ⟨rfl, rfl, rfl⟩) ?_
         refine d_op ?_
         refine x_run [(59, PV.ptr 0 2)] [1] [(0, .obj [pI r.fn, pI r.at_, pI r.count, pI r.wAt, pI r.sub, pS 1 false encBo r.bits, pS 1 false enc16 r.vals, p16 r.and_, p16 r.or_])] [] [(0, .obj [pI r.fn, pI r.at_, pI r.count, pI r.wAt, pI r.sub, pS 1 false encBo r.bits, pS 1 false enc16 r.vals, p16 r.and_, p16 r.or_])] [] [(2, oB true 1 enc8 ([u8I r.fn] ++ put2 r.at_)), (1, oB false 1 enc8 [u8I r.fn]), (0, .obj [pI r.fn, pI r.at_, pI r.count, pI r.wAt, pI r.sub, pS 1 false encBo r.bits, pS 1 false enc16 r.vals, p16 r.and_, p16 r.or_])] rfl rfl rfl rfl rfl rfl (s_load_ptr1 tab_3 rfl rfl rfl rfl rfl ⟨rfl, rfl, rfl⟩) rfl ⟨rfl, trivial⟩ rfl rfl ?_
         refine d_op ?_
         refine x_run [(58, PV.ref 2 0 none), (60, pI r.count)] [0, 1, 2] [] [(2, oB true 1 enc8 ([u8I r.fn] ++ put2 r.at_))] [(3, oB true 1 enc8 (([u8I r.fn] ++ put2 r.at_) ++ put2 r.count)), (2, oB false 1 enc8 ([u8I r.fn] ++ put2 r.at_))] [(3, oB true 1 enc8 (([u8I r.fn] ++ put2 r.at_) ++ put2 r.count)), (2, oB false 1 enc8 ([u8I r.fn] ++ put2 r.at_))] [(3, oB true 1 enc8 (([u8I r.fn] ++ put2 r.at_) ++ put2 r.count)), (2, oB false 1 enc8 ([u8I r.fn] ++ put2 r.at_)), (1, oB false 1 enc8 [u8I r.fn]), (0, .obj [pI r.fn, pI r.at_, pI r.count, pI r.wAt, pI r.sub, pS 1 false encBo r.bits, pS 1 false enc16 r.vals, p16 r.and_, p16 r.or_])] rfl rfl rfl rfl rfl rfl (s_callX (r2 := PV.ref 3 0 none) (nx1 := 4) (H2 := [(2, oB false 1 enc8 ([u8I r.fn] ++ put2 r.at_))]) (H3 := [(3, oB true 1 enc8 (([u8I r.fn] ++ put2 r.at_) ++ put2 r.count)), (2, oB false 1 enc8 ([u8I r.fn] ++ put2 r.at_))]) [] [] rfl rfl rfl (handed_of (by decide) trivial) rfl rfl rfl rfl rfl rfl (w_burgageref1_Put ([u8I r.fn] ++ put2 r.at_) false r.count (by first | omega | assumption | (simp; omega) | decide | (simp; done))) rfl (dist_of rfl) rfl rfl rfl rfl ⟨rfl, rfl, rfl⟩) rfl trivial rfl rfl ?_
         refine d_op ?_
         refine x_run0 [(1, PV.ptr 0 0)] [] rfl rfl rfl rfl (s_fa_ptr tab_107 rfl rfl tab_44 (by decide) rfl ⟨rfl, rfl, rfl⟩) ?_
         refine d_op ?_
         refine x_run [(62, PV.ptr 0 5)] [4] [(0, .obj [pI r.fn, pI r.at_, pI r.count, pI r.wAt, pI r.sub, pS 1 false encBo r.bits, pS 1 false enc16 r.vals, p16 r.and_, p16 r.or_])] [] [(0, .obj [pI r.fn, pI r.at_, pI r.count, pI r.wAt, pI r.sub, pS 1 false encBo r.bits, pS 1 false enc16 r.vals, p16 r.and_, p16 r.or_])] [] [(3, oB true 1 enc8 (([u8I r.fn] ++ put2 r.at_) ++ put2 r.count)), (2, oB false 1 enc8 ([u8I r.fn] ++ put2 r.at_)), (1, oB false 1 enc8 [u8I r.fn]), (0, .obj [pI r.fn, pI r.at_, pI r.count, pI r.wAt, pI r.sub, pS 1 false encBo r.bits, pS 1 false enc16 r.vals, p16 r.and_, p16 r.or_])] rfl rfl rfl rfl rfl rfl (s_load_ptr1 tab_44 rfl rfl rfl rfl rfl ⟨rfl, rfl, rfl⟩) rfl ⟨rfl, trivial⟩ rfl rfl ?_
         refine d_op ?_
         refine x_run [(63, pS 1 false encBo r.bits)] [0, 1, 2, 3, 4, 5] [] [] [(4, oB true 1 enc8 (packL r.bits))] [(4, oB true 1 enc8 (packL r.bits))] [(4, oB true 1 enc8 (packL r.bits)), (3, oB true 1 enc8 (([u8I r.fn] ++ put2 r.at_) ++ put2 r.count)), (2, oB false 1 enc8 ([u8I r.fn] ++ put2 r.at_)), (1, oB false 1 enc8 [u8I r.fn]), (0, .obj [pI r.fn, pI r.at_, pI r.count, pI r.wAt, pI r.sub, pS 1 false encBo r.bits, pS 1 false enc16 r.vals, p16 r.and_, p16 r.or_])] rfl rfl rfl rfl rfl rfl (s_callX (r2 := PV.ref 4 0 none) (nx1 := 5) (H2 := []) (H3 := [(4, oB true 1 enc8 (packL r.bits))]) [] [] rfl rfl rfl (handed_of (by decide) trivial) rfl rfl rfl rfl rfl rfl (w_burgageref1_Pack r.bits false (by first | omega | assumption | (simp; omega) | decide | (simp; done))) rfl (dist_of rfl) rfl rfl rfl rfl ⟨rfl, rfl, rfl⟩) rfl trivial rfl rfl ?_
         refine d_op ?_
         refine x_run [(61, PV.ref 3 0 none), (64, PV.ref 4 0 none)] [0, 1, 2, 3, 4, 5, 6] [] [(3, oB true 1 enc8 (([u8I r.fn] ++ put2 r.at_) ++ put2 r.count)), (4, oB true 1 enc8 (packL r.bits))] [(5, oB true 1 enc8 ((([u8I r.fn] ++ put2 r.at_) ++ put2 r.count) ++ rowX (packL r.bits))), (4, oB false 1 enc8 (packL r.bits))] [(5, oB true 1 enc8 ((([u8I r.fn] ++ put2 r.at_) ++ put2 r.count) ++ rowX (packL r.bits))), (4, oB false 1 enc8 (packL r.bits))] [(5, oB true 1 enc8 ((([u8I r.fn] ++ put2 r.at_) ++ put2 r.count) ++ rowX (packL r.bits))), (4, oB false 1 enc8 (packL r.bits)), (2, oB false 1 enc8 ([u8I r.fn] ++ put2 r.at_)), (1, oB false 1 enc8 [u8I r.fn]), (0, .obj [pI r.fn, pI r.at_, pI r.count, pI r.wAt, pI r.sub, pS 1 false encBo r.bits, pS 1 false enc16 r.vals, p16 r.and_, p16 r.or_])] rfl rfl rfl rfl rfl rfl (s_callX (r2 := PV.ref 5 0 none) (nx1 := 6) (H2 := [(4, oB false 1 enc8 (packL r.bits)), (3, oB true 1 enc8 (([u8I r.fn] ++ put2 r.at_) ++ put2 r.count))]) (H3 := [(5, oB true 1 enc8 ((([u8I r.fn] ++ put2 r.at_) ++ put2 r.count) ++ rowX (packL r.bits))), (4, oB false 1 enc8 (packL r.bits))]) [3] [oB true 1 enc8 (([u8I r.fn] ++ put2 r.at_) ++ put2 r.count)] rfl rfl rfl (handed_of (by decide) ⟨rfl, trivial⟩) rfl rfl rfl rfl rfl rfl (w_burgageref3_row (([u8I r.fn] ++ put2 r.at_) ++ put2 r.count) true (packL r.bits) false (by first | omega | assumption | (simp; omega) | decide | (simp; done)) (by first | omega | assumption | (simp; omega) | decide | (simp; done))) rfl (dist_of rfl) rfl rfl rfl rfl ⟨rfl, rfl, rfl⟩) rfl trivial rfl rfl ?_
         refine d_op ?_
         refine x_run0 [(65, PV.ref 5 0 none)] [0, 1, 2, 3, 4, 5, 6, 7] rfl rfl rfl rfl (s_assign rfl ⟨rfl, rfl, rfl⟩) ?_
         refine d_end ⟨by kernel_rfl, ?_⟩
         refine q_then ?_
         refine w_low (n := 5) rfl ?_
         refine w_H (H' := [(5, oB false 1 enc8 (writeR r)), (4, oB false 1 enc8 (packL r.bits)), (2, oB false 1 enc8 ([u8I r.fn] ++ put2 r.at_)), (1, oB false 1 enc8 [u8I r.fn]), (0, .obj [pI r.fn, pI r.at_, pI r.count, pI r.wAt, pI r.sub, pS 1 false encBo r.bits, pS 1 false enc16 r.vals, p16 r.and_, p16 r.or_])]) (congrArg (fun z => ([(5, oB false 1 enc8 z), (4, oB false 1 enc8 (packL r.bits)), (2, oB false 1 enc8 ([u8I r.fn] ++ put2 r.at_)), (1, oB false 1 enc8 [u8I r.fn]), (0, .obj [pI r.fn, pI r.at_, pI r.count, pI r.wAt, pI r.sub, pS 1 false encBo r.bits, pS 1 false enc16 r.vals, p16 r.and_, p16 r.or_])] : Heap)) (show (([u8I r.fn] ++ put2 r.at_) ++ put2 r.count) ++ rowX (packL r.bits) = writeR r by first | (rw [writeR_1 (by omega)]; simp; done) | (rw [writeR_1 (by omega)]; done) | (rw [writeR_15 (by omega)]; simp; done) | (rw [writeR_16 (by omega)]; simp; done) | (rw [writeR_22 (by omega)]; simp; done) | (rw [writeR_23 (by omega)]; simp; done) | (rw [writeR_no (by omega)]; done) | (rw [writeR_5 (by omega) (by assumption)]; simp [*]; done) | (rw [writeR_6 (by omega) (by assumption)]; simp; done) | (rw [writeR_8 (by omega) (by assumption)]; simp; done))) ?_
         refine w_ret ?_
         refine q_block_ret ?_
         refine q_then_ret ?_
         exact fin_names (nx1 := 1) (H1 := [(0, oB false 1 enc8 (writeR r))]) [(0, 5)] (ret_tmp rfl ret_nil) rfl (by decide) ⟨⟨_, _, rfl, rfl, rfl, rfl⟩, trivial⟩ (by decide) rfl ⟨rfl, rfl, rfl⟩
        ·
         have c9_ := c9
         try simp only [sB] at c9
         refine w_seq ?_
         refine w_R ?_
         refine qo hnt rfl (s_eql rfl rfl ?_)
         refine qa hnt rfl rfl ?_
         refine r_end ?_
         refine q_then ?_
         refine w_if rfl (fun c10 => ?_) (fun c10 => ?_)
         ·
          have c10_ := c10
          try simp only [sB] at c10
          refine w_seq ?_
          refine W_drawn tabOk mixed hnt [[], [], [1], [0, 1, 2], [], [4], [0, 1, 2, 3, 4, 5], [0, 1, 2, 3, 4, 5, 6], [0, 1, 2, 3, 4, 5, 6, 7]] (by kernel_rfl) ?_
          refine d_op ?_
          refine x_run0 [(4, PV.ref 2 0 none)] [] rfl rfl rfl rfl (s_move rfl ⟨rfl, rfl, rfl⟩) ?_
          refine d_op ?_
          refine x_run0 [(1, PV.ptr 0 0)] [] rfl rfl rfl rfl (s_fa_ptr tab_107 rfl rfl tab_3 (by decide) rfl ⟨rfl, rfl, rfl⟩) ?_
          refine d_op ?_
          refine x_run [(69, PV.ptr 0 2)] [1] [(0, .obj [pI r.fn, pI r.at_, pI r.count, pI r.wAt, pI r.sub, pS 1 false encBo r.bits, pS 1 false enc16 r.vals, p16 r.and_, p16 r.or_])] [] [(0, .obj [pI r.fn, pI r.at_, pI r.count, pI r.wAt, pI r.sub, pS 1 false encBo r.bits, pS 1 false enc16 r.vals, p16 r.and_, p16 r.or_])] [] [(2, oB true 1 enc8 ([u8I r.fn] ++ put2 r.at_)), (1, oB false 1 enc8 [u8I r.fn]), (0, .obj [pI r.fn, pI r.at_, pI r.count, pI r.wAt, pI r.sub, pS 1 false encBo r.bits, pS 1 false enc16 r.vals, p16 r.and_, p16 r.or_])] rfl rfl rfl rfl rfl rfl (s_load_ptr1 tab_3 rfl rfl rfl rfl rfl ⟨rfl, rfl, rfl⟩) rfl ⟨rfl, trivial⟩ rfl rfl ?_
          refine d_op ?_
          refine x_run [(68, PV.ref 2 0 none), (70, pI r.count)] [0, 1, 2] [] [(2, oB true 1 enc8 ([u8I r.fn] ++ put2 r.at_))] [(3, oB true 1 enc8 (([u8I r.fn] ++ put2 r.at_) ++ put2 r.count)), (2, oB false 1 enc8 ([u8I r.fn] ++ put2 r.at_))] [(3, oB true 1 enc8 (([u8I r.fn] ++ put2 r.at_) ++ put2 r.count)), (2, oB false 1 enc8 ([u8I r.fn] ++ put2 r.at_))] [(3, oB true 1 enc8 (([u8I r.fn] ++ put2 r.at_) ++ put2 r.count)), (2, oB false 1 enc8 ([u8I r.fn] ++ put2 r.at_)), (1, oB false 1 enc8 [u8I r.fn]), (0, .obj [pI r.fn, pI r.at_, pI r.count, pI r.wAt, pI r.sub, pS 1 false encBo r.bits, pS 1 false enc16 r.vals, p16 r.and_, p16 r.or_])] rfl rfl rfl rfl rfl rfl (s_callX (r2 := PV.ref 3 0 none) (nx1 := 4) (H2 := [(2, oB false 1 enc8 ([u8I r.fn] ++ put2 r.at_))]) (H3 := [(3, oB true 1 enc8 (([u8I r.fn] ++ put2 r.at_) ++ put2 r.count)), (2, oB false 1 enc8 ([u8I r.fn] ++ put2 r.at_))]) [] [] rfl rfl rfl (handed_of (by decide) trivial) rfl rfl rfl rfl rfl rfl (w_burgageref1_Put ([u8I r.fn] ++ put2 r.at_) false r.count (by first | omega | assumption | (simp; omega) | decide | (simp; done))) rfl (dist_of rfl) rfl rfl rfl rfl ⟨rfl, rfl, rfl⟩) rfl trivial rfl rfl ?_
          refine d_op ?_
          refine x_run0 [(1, PV.ptr 0 0)] [] rfl rfl rfl rfl (s_fa_ptr tab_107 rfl rfl tab_45 (by decide) rfl ⟨rfl, rfl, rfl⟩) ?_
          refine d_op ?_
          refine x_run [(72, PV.ptr 0 6)] [4] [(0, .obj [pI r.fn, pI r.at_, pI r.count, pI r.wAt, pI r.sub, pS 1 false encBo r.bits, pS 1 false enc16 r.vals, p16 r.and_, p16 r.or_])] [] [(0, .obj [pI r.fn, pI r.at_, pI r.count, pI r.wAt, pI r.sub, pS 1 false encBo r.bits, pS 1 false enc16 r.vals, p16 r.and_, p16 r.or_])] [] [(3, oB true 1 enc8 (([u8I r.fn] ++ put2 r.at_) ++ put2 r.count)), (2, oB false 1 enc8 ([u8I r.fn] ++ put2 r.at_)), (1, oB false 1 enc8 [u8I r.fn]), (0, .obj [pI r.fn, pI r.at_, pI r.count, pI r.wAt, pI r.sub, pS 1 false encBo r.bits, pS 1 false enc16 r.vals, p16 r.and_, p16 r.or_])] rfl rfl rfl rfl rfl rfl (s_load_ptr1 tab_45 rfl rfl rfl rfl rfl ⟨rfl, rfl, rfl⟩) rfl ⟨rfl, trivial⟩ rfl rfl ?_
          refine d_op ?_
          refine x_run [(73, pS 1 false enc16 r.vals)] [0, 1, 2, 3, 4, 5] [] [] [(4, oB true 1 enc8 (bytesL r.vals))] [(4, oB true 1 enc8 (bytesL r.vals))] [(4, oB true 1 enc8 (bytesL r.vals)), (3, oB true 1 enc8 (([u8I r.fn] ++ put2 r.at_) ++ put2 r.count)), (2, oB false 1 enc8 ([u8I r.fn] ++ put2 r.at_)), (1, oB false 1 enc8 [u8I r.fn]), (0, .obj [pI r.fn, pI r.at_, pI r.count, pI r.wAt, pI r.sub, pS 1 false encBo r.bits, pS 1 false enc16 r.vals, p16 r.and_, p16 r.or_])] rfl rfl rfl rfl rfl rfl (s_callX (r2 := PV.ref 4 0 none) (nx1 := 5) (H2 := []) (H3 := [(4, oB true 1 enc8 (bytesL r.vals))]) [] [] rfl rfl rfl (handed_of (by decide) trivial) rfl rfl rfl rfl rfl rfl (w_burgageref1_Bytes r.vals false (by first | omega | assumption | (simp; omega) | decide | (simp; done))) rfl (dist_of rfl) rfl rfl rfl rfl ⟨rfl, rfl, rfl⟩) rfl trivial rfl rfl ?_
          refine d_op ?_
          refine x_run [(71, PV.ref 3 0 none), (74, PV.ref 4 0 none)] [0, 1, 2, 3, 4, 5, 6] [] [(3, oB true 1 enc8 (([u8I r.fn] ++ put2 r.at_) ++ put2 r.count)), (4, oB true 1 enc8 (bytesL r.vals))] [(5, oB true 1 enc8 ((([u8I r.fn] ++ put2 r.at_) ++ put2 r.count) ++ rowX (bytesL r.vals))), (4, oB false 1 enc8 (bytesL r.vals))] [(5, oB true 1 enc8 ((([u8I r.fn] ++ put2 r.at_) ++ put2 r.count) ++ rowX (bytesL r.vals))), (4, oB false 1 enc8 (bytesL r.vals))] [(5, oB true 1 enc8 ((([u8I r.fn] ++ put2 r.at_) ++ put2 r.count) ++ rowX (bytesL r.vals))), (4, oB false 1 enc8 (bytesL r.vals)), (2, oB false 1 enc8 ([u8I r.fn] ++ put2 r.at_)), (1, oB false 1 enc8 [u8I r.fn]), (0, .obj [pI r.fn, pI r.at_, pI r.count, pI r.wAt, pI r.sub, pS 1 false encBo r.bits, pS 1 false enc16 r.vals, p16 r.and_, p16 r.or_])] rfl rfl rfl rfl rfl rfl (s_callX (r2 := PV.ref 5 0 none) (nx1 := 6) (H2 := [(4, oB false 1 enc8 (bytesL r.vals)), (3, oB true 1 enc8 (([u8I r.fn] ++ put2 r.at_) ++ put2 r.count))]) (H3 := [(5, oB true 1 enc8 ((([u8I r.fn] ++ put2 r.at_) ++ put2 r.count) ++ rowX (bytesL r.vals))), (4, oB false 1 enc8 (bytesL r.vals))]) [3] [oB true 1 enc8 (([u8I r.fn] ++ put2 r.at_) ++ put2 r.count)] rfl rfl rfl (handed_of (by decide) ⟨rfl, trivial⟩) rfl rfl rfl rfl rfl rfl (w_burgageref3_row (([u8I r.fn] ++ put2 r.at_) ++ put2 r.count) true (bytesL r.vals) false (by first | omega | assumption | (simp; omega) | decide | (simp; done)) (by first | omega | assumption | (simp; omega) | decide | (simp; done))) rfl (dist_of rfl) rfl rfl rfl rfl ⟨rfl, rfl, rfl⟩) rfl trivial rfl rfl ?_
          refine d_op ?_
          refine x_run0 [(75, PV.ref 5 0 none)] [0, 1, 2, 3, 4, 5, 6, 7] rfl rfl rfl rfl (s_assign rfl ⟨rfl, rfl, rfl⟩) ?_
          refine d_end ⟨by kernel_rfl, ?_⟩
          refine q_then ?_
          refine w_low (n := 5) rfl ?_
          refine w_H (H' := [(5, oB false 1 enc8 (writeR r)), (4, oB false 1 enc8 (bytesL r.vals)), (2, oB false 1 enc8 ([u8I r.fn] ++ put2 r.at_)), (1, oB false 1 enc8 [u8I r.fn]), (0, .obj [pI r.fn, pI r.at_, pI r.count, pI r.wAt, pI r.sub, pS 1 false encBo r.bits, pS 1 false enc16 r.vals, p16 r.and_, p16 r.or_])]) (congrArg (fun z => ([(5, oB false 1 enc8 z), (4, oB false 1 enc8 (bytesL r.vals)), (2, oB false 1 enc8 ([u8I r.fn] ++ put2 r.at_)), (1, oB false 1 enc8 [u8I r.fn]), (0, .obj [pI r.fn, pI r.at_, pI r.count, pI r.wAt, pI r.sub, pS 1 false encBo r.bits, pS 1 false enc16 r.vals, p16 r.and_, p16 r.or_])] : Heap)) (show (([u8I r.fn] ++ put2 r.at_) ++ put2 r.count) ++ rowX (bytesL r.vals) = writeR r by first | (rw [writeR_1 (by omega)]; simp; done) | (rw [writeR_1 (by omega)]; done) | (rw [writeR_15 (by omega)]; simp; done) | (rw [writeR_16 (by omega)]; simp; done) | (rw [writeR_22 (by omega)]; simp; done) | (rw [writeR_23 (by omega)]; simp; done) | (rw [writeR_no (by omega)]; done) | (rw [writeR_5 (by omega) (by assumption)]; simp [*]; done) | (rw [writeR_6 (by omega) (by assumption)]; simp; done) | (rw [writeR_8 (by omega) (by assumption)]; simp; done))) ?_
          refine w_ret ?_
          refine q_block_ret ?_
          refine q_then_ret ?_
          exact fin_names (nx1 := 1) (H1 := [(0, oB false 1 enc8 (writeR r))]) [(0, 5)] (ret_tmp rfl ret_nil) rfl (by decide) ⟨⟨_, _, rfl, rfl, rfl, rfl⟩, trivial⟩ (by decide) rfl ⟨rfl, rfl, rfl⟩
         ·
          have c10_ := c10
          try simp only [sB] at c10
          refine w_seq ?_
          refine w_R ?_
          refine qo hnt rfl (s_eql rfl rfl ?_)
          refine qa hnt rfl rfl ?_
          refine r_end ?_
          refine q_then ?_
          refine w_if rfl (fun c11 => ?_) (fun c11 => ?_)
          ·
           have c11_ := c11
           try simp only [sB] at c11
           refine w_seq ?_
           refine W_drawn tabOk mixed hnt [[], [], [1], [1, 2], [0, 1, 2, 3], [], [5], [5, 6], [0, 1, 2, 3, 4, 5, 6, 7], [0, 1, 2, 3, 4, 5, 6, 7, 8]] (by kernel_rfl) ?_
           refine d_op ?_
           refine x_run0 [(4, PV.ref 2 0 none)] [] rfl rfl rfl rfl (s_move rfl ⟨rfl, rfl, rfl⟩) ?_
           refine d_op ?_
           refine x_run0 [(1, PV.ptr 0 0)] [] rfl rfl rfl rfl (s_fa_ptr tab_107 rfl rfl tab_47 (by decide) rfl ⟨rfl, rfl, rfl⟩) ?_
           refine d_op ?_
           refine x_run [(79, PV.ptr 0 7)] [1] [(0, .obj [pI r.fn, pI r.at_, pI r.count, pI r.wAt, pI r.sub, pS 1 false encBo r.bits, pS 1 false enc16 r.vals, p16 r.and_, p16 r.or_])] [] [(0, .obj [pI r.fn, pI r.at_, pI r.count, pI r.wAt, pI r.sub, pS 1 false encBo r.bits, pS 1 false enc16 r.vals, p16 r.and_, p16 r.or_])] [] [(2, oB true 1 enc8 ([u8I r.fn] ++ put2 r.at_)), (1, oB false 1 enc8 [u8I r.fn]), (0, .obj [pI r.fn, pI r.at_, pI r.count, pI r.wAt, pI r.sub, pS 1 false encBo r.bits, pS 1 false enc16 r.vals, p16 r.and_, p16 r.or_])] rfl rfl rfl rfl rfl rfl (s_load_ptr1 tab_47 rfl rfl rfl rfl rfl ⟨rfl, rfl, rfl⟩) rfl ⟨rfl, trivial⟩ rfl rfl ?_
           refine d_op ?_
           refine x_run0 [(80, p16 r.and_)] [1, 2] rfl rfl rfl rfl (s_cvN (a := UInt16.toNat r.and_) tab_47 tab_3 rfl rfl rfl (by omega) (by have := lt16 r.and_; omega) ⟨rfl, rfl, rfl⟩) ?_
           refine d_op ?_
           refine x_run [(78, PV.ref 2 0 none), (81, pN (UInt16.toNat r.and_))] [0, 1, 2, 3] [] [(2, oB true 1 enc8 ([u8I r.fn] ++ put2 r.at_))] [(3, oB true 1 enc8 (([u8I r.fn] ++ put2 r.at_) ++ put2 ((UInt16.toNat r.and_ : Nat) : Int))), (2, oB false 1 enc8 ([u8I r.fn] ++ put2 r.at_))] [(3, oB true 1 enc8 (([u8I r.fn] ++ put2 r.at_) ++ put2 ((UInt16.toNat r.and_ : Nat) : Int))), (2, oB false 1 enc8 ([u8I r.fn] ++ put2 r.at_))] [(3, oB true 1 enc8 (([u8I r.fn] ++ put2 r.at_) ++ put2 ((UInt16.toNat r.and_ : Nat) : Int))), (2, oB false 1 enc8 ([u8I r.fn] ++ put2 r.at_)), (1, oB false 1 enc8 [u8I r.fn]), (0, .obj [pI r.fn, pI r.at_, pI r.count, pI r.wAt, pI r.sub, pS 1 false encBo r.bits, pS 1 false enc16 r.vals, p16 r.and_, p16 r.or_])] rfl rfl rfl rfl rfl rfl (s_callX (r2 := PV.ref 3 0 none) (nx1 := 4) (H2 := [(2, oB false 1 enc8 ([u8I r.fn] ++ put2 r.at_))]) (H3 := [(3, oB true 1 enc8 (([u8I r.fn] ++ put2 r.at_) ++ put2 ((UInt16.toNat r.and_ : Nat) : Int))), (2, oB false 1 enc8 ([u8I r.fn] ++ put2 r.at_))]) [] [] rfl rfl rfl (handed_of (by decide) trivial) rfl rfl rfl rfl rfl rfl (w_burgageref1_Put ([u8I r.fn] ++ put2 r.at_) false ((UInt16.toNat r.and_ : Nat) : Int) (by first | omega | assumption | (simp; omega) | decide | (simp; done))) rfl (dist_of rfl) rfl rfl rfl rfl ⟨rfl, rfl, rfl⟩) rfl trivial rfl rfl ?_
           refine d_op ?_
           refine x_run0 [(1, PV.ptr 0 0)] [] rfl rfl rfl rfl (s_fa_ptr tab_107 rfl rfl tab_47 (by decide) rfl ⟨rfl, rfl, rfl⟩) ?_
           refine d_op ?_
           refine x_run [(83, PV.ptr 0 8)] [5] [(0, .obj [pI r.fn, pI r.at_, pI r.count, pI r.wAt, pI r.sub, pS 1 false encBo r.bits, pS 1 false enc16 r.vals, p16 r.and_, p16 r.or_])] [] [(0, .obj [pI r.fn, pI r.at_, pI r.count, pI r.wAt, pI r.sub, pS 1 false encBo r.bits, pS 1 false enc16 r.vals, p16 r.and_, p16 r.or_])] [] [(3, oB true 1 enc8 (([u8I r.fn] ++ put2 r.at_) ++ put2 ((UInt16.toNat r.and_ : Nat) : Int))), (2, oB false 1 enc8 ([u8I r.fn] ++ put2 r.at_)), (1, oB false 1 enc8 [u8I r.fn]), (0, .obj [pI r.fn, pI r.at_, pI r.count, pI r.wAt, pI r.sub, pS 1 false encBo r.bits, pS 1 false enc16 r.vals, p16 r.and_, p16 r.or_])] rfl rfl rfl rfl rfl rfl (s_load_ptr1 tab_47 rfl rfl rfl rfl rfl ⟨rfl, rfl, rfl⟩) rfl ⟨rfl, trivial⟩ rfl rfl ?_
           refine d_op ?_
           refine x_run0 [(84, p16 r.or_)] [5, 6] rfl rfl rfl rfl (s_cvN (a := UInt16.toNat r.or_) tab_47 tab_3 rfl rfl rfl (by omega) (by have := lt16 r.or_; omega) ⟨rfl, rfl, rfl⟩) ?_
           refine d_op ?_
           refine x_run [(82, PV.ref 3 0 none), (85, pN (UInt16.toNat r.or_))] [0, 1, 2, 3, 4, 5, 6, 7] [] [(3, oB true 1 enc8 (([u8I r.fn] ++ put2 r.at_) ++ put2 ((UInt16.toNat r.and_ : Nat) : Int)))] [(4, oB true 1 enc8 ((([u8I r.fn] ++ put2 r.at_) ++ put2 ((UInt16.toNat r.and_ : Nat) : Int)) ++ put2 ((UInt16.toNat r.or_ : Nat) : Int))), (3, oB false 1 enc8 (([u8I r.fn] ++ put2 r.at_) ++ put2 ((UInt16.toNat r.and_ : Nat) : Int)))] [(4, oB true 1 enc8 ((([u8I r.fn] ++ put2 r.at_) ++ put2 ((UInt16.toNat r.and_ : Nat) : Int)) ++ put2 ((UInt16.toNat r.or_ : Nat) : Int))), (3, oB false 1 enc8 (([u8I r.fn] ++ put2 r.at_) ++ put2 ((UInt16.toNat r.and_ : Nat) : Int)))] [(4, oB true 1 enc8 ((([u8I r.fn] ++ put2 r.at_) ++ put2 ((UInt16.toNat r.and_ : Nat) : Int)) ++ put2 ((UInt16.toNat r.or_ : Nat) : Int))), (3, oB false 1 enc8 (([u8I r.fn] ++ put2 r.at_) ++ put2 ((UInt16.toNat r.and_ : Nat) : Int))), (2, oB false 1 enc8 ([u8I r.fn] ++ put2 r.at_)), (1, oB false 1 enc8 [u8I r.fn]), (0, .obj [pI r.fn, pI r.at_, pI r.count, pI r.wAt, pI r.sub, pS 1 false encBo r.bits, pS 1 false enc16 r.vals, p16 r.and_, p16 r.or_])] rfl rfl rfl rfl rfl rfl (s_callX (r2 := PV.ref 4 0 none) (nx1 := 5) (H2 := [(3, oB false 1 enc8 (([u8I r.fn] ++ put2 r.at_) ++ put2 ((UInt16.toNat r.and_ : Nat) : Int)))]) (H3 := [(4, oB true 1 enc8 ((([u8I r.fn] ++ put2 r.at_) ++ put2 ((UInt16.toNat r.and_ : Nat) : Int)) ++ put2 ((UInt16.toNat r.or_ : Nat) : Int))), (3, oB false 1 enc8 (([u8I r.fn] ++ put2 r.at_) ++ put2 ((UInt16.toNat r.and_ : Nat) : Int)))]) [] [] rfl rfl rfl (handed_of (by decide) trivial) rfl rfl rfl rfl rfl rfl (w_burgageref1_Put (([u8I r.fn] ++ put2 r.at_) ++ put2 ((UInt16.toNat r.and_ : Nat) : Int)) false ((UInt16.toNat r.or_ : Nat) : Int) (by first | omega | assumption | (simp; omega) | decide | (simp; done))) rfl (dist_of rfl) rfl rfl rfl rfl ⟨rfl, rfl, rfl⟩) rfl trivial rfl rfl ?_
           refine d_op ?_
           refine x_run0 [(86, PV.ref 4 0 none)] [0, 1, 2, 3, 4, 5, 6, 7, 8] rfl rfl rfl rfl (s_assign rfl ⟨rfl, rfl, rfl⟩) ?_
           refine d_end ⟨by kernel_rfl, ?_⟩
           refine q_then ?_
           refine w_low (n := 4) rfl ?_
           refine w_H (H' := [(4, oB false 1 enc8 (writeR r)), (3, oB false 1 enc8 (([u8I r.fn] ++ put2 r.at_) ++ put2 ((UInt16.toNat r.and_ : Nat) : Int))), (2, oB false 1 enc8 ([u8I r.fn] ++ put2 r.at_)), (1, oB false 1 enc8 [u8I r.fn]), (0, .obj [pI r.fn, pI r.at_, pI r.count, pI r.wAt, pI r.sub, pS 1 false encBo r.bits, pS 1 false enc16 r.vals, p16 r.and_, p16 r.or_])]) (congrArg (fun z => ([(4, oB false 1 enc8 z), (3, oB false 1 enc8 (([u8I r.fn] ++ put2 r.at_) ++ put2 ((UInt16.toNat r.and_ : Nat) : Int))), (2, oB false 1 enc8 ([u8I r.fn] ++ put2 r.at_)), (1, oB false 1 enc8 [u8I r.fn]), (0, .obj [pI r.fn, pI r.at_, pI r.count, pI r.wAt, pI r.sub, pS 1 false encBo r.bits, pS 1 false enc16 r.vals, p16 r.and_, p16 r.or_])] : Heap)) (show (([u8I r.fn] ++ put2 r.at_) ++ put2 ((UInt16.toNat r.and_ : Nat) : Int)) ++ put2 ((UInt16.toNat r.or_ : Nat) : Int) = writeR r by first | (rw [writeR_1 (by omega)]; simp; done) | (rw [writeR_1 (by omega)]; done) | (rw [writeR_15 (by omega)]; simp; done) | (rw [writeR_16 (by omega)]; simp; done) | (rw [writeR_22 (by omega)]; simp; done) | (rw [writeR_23 (by omega)]; simp; done) | (rw [writeR_no (by omega)]; done) | (rw [writeR_5 (by omega) (by assumption)]; simp [*]; done) | (rw [writeR_6 (by omega) (by assumption)]; simp; done) | (rw [writeR_8 (by omega) (by assumption)]; simp; done))) ?_
           refine w_ret ?_
           refine q_block_ret ?_
           refine q_then_ret ?_
           exact fin_names (nx1 := 1) (H1 := [(0, oB false 1 enc8 (writeR r))]) [(0, 4)] (ret_tmp rfl ret_nil) rfl (by decide) ⟨⟨_, _, rfl, rfl, rfl, rfl⟩, trivial⟩ (by decide) rfl ⟨rfl, rfl, rfl⟩
          ·
           have c11_ := c11
           try simp only [sB] at c11
           refine w_seq ?_
           refine w_R ?_
           refine qo hnt rfl (s_eql rfl rfl ?_)
           refine qa hnt rfl rfl ?_
           refine r_end ?_
           refine q_then ?_
           refine w_if rfl (fun c12 => ?_) (fun c12 => ?_)
           ·
            have c12_ := c12
            try simp only [sB] at c12
            refine w_seq ?_
            refine W_drawn tabOk mixed hnt [[], [], [1], [0, 1, 2], [], [4], [0, 1, 2, 3, 4, 5], [], [7], [7, 8], [0, 1, 2, 3, 4, 5, 6, 7, 8, 9], [0, 1, 2, 3, 4, 5, 6, 7, 8, 9, 10]] (by kernel_rfl) ?_
            refine d_op ?_
            refine x_run0 [(4, PV.ref 2 0 none)] [] rfl rfl rfl rfl (s_move rfl ⟨rfl, rfl, rfl⟩) ?_
            refine d_op ?_
            refine x_run0 [(1, PV.ptr 0 0)] [] rfl rfl rfl rfl (s_fa_ptr tab_107 rfl rfl tab_3 (by decide) rfl ⟨rfl, rfl, rfl⟩) ?_
            refine d_op ?_
            refine x_run [(90, PV.ptr 0 2)] [1] [(0, .obj [pI r.fn, pI r.at_, pI r.count, pI r.wAt, pI r.sub, pS 1 false encBo r.bits, pS 1 false enc16 r.vals, p16 r.and_, p16 r.or_])] [] [(0, .obj [pI r.fn, pI r.at_, pI r.count, pI r.wAt, pI r.sub, pS 1 false encBo r.bits, pS 1 false enc16 r.vals, p16 r.and_, p16 r.or_])] [] [(2, oB true 1 enc8 ([u8I r.fn] ++ put2 r.at_)), (1, oB false 1 enc8 [u8I r.fn]), (0, .obj [pI r.fn, pI r.at_, pI r.count, pI r.wAt, pI r.sub, pS 1 false encBo r.bits, pS 1 false enc16 r.vals, p16 r.and_, p16 r.or_])] rfl rfl rfl rfl rfl rfl (s_load_ptr1 tab_3 rfl rfl rfl rfl rfl ⟨rfl, rfl, rfl⟩) rfl ⟨rfl, trivial⟩ rfl rfl ?_
            refine d_op ?_
            refine x_run [(89, PV.ref 2 0 none), (91, pI r.count)] [0, 1, 2] [] [(2, oB true 1 enc8 ([u8I r.fn] ++ put2 r.at_))] [(3, oB true 1 enc8 (([u8I r.fn] ++ put2 r.at_) ++ put2 r.count)), (2, oB false 1 enc8 ([u8I r.fn] ++ put2 r.at_))] [(3, oB true 1 enc8 (([u8I r.fn] ++ put2 r.at_) ++ put2 r.count)), (2, oB false 1 enc8 ([u8I r.fn] ++ put2 r.at_))] [(3, oB true 1 enc8 (([u8I r.fn] ++ put2 r.at_) ++ put2 r.count)), (2, oB false 1 enc8 ([u8I r.fn] ++ put2 r.at_)), (1, oB false 1 enc8 [u8I r.fn]), (0, .obj [pI r.fn, pI r.at_, pI r.count, pI r.wAt, pI r.sub, pS 1 false encBo r.bits, pS 1 false enc16 r.vals, p16 r.and_, p16 r.or_])] rfl rfl rfl rfl rfl rfl (s_callX (r2 := PV.ref 3 0 none) (nx1 := 4) (H2 := [(2, oB false 1 enc8 ([u8I r.fn] ++ put2 r.at_))]) (H3 := [(3, oB true 1 enc8 (([u8I r.fn] ++ put2 r.at_) ++ put2 r.count)), (2, oB false 1 enc8 ([u8I r.fn] ++ put2 r.at_))]) [] [] rfl rfl rfl (handed_of (by decide) trivial) rfl rfl rfl rfl rfl rfl (w_burgageref1_Put ([u8I r.fn] ++ put2 r.at_) false r.count (by first | omega | assumption | (simp; omega) | decide | (simp; done))) rfl (dist_of rfl) rfl rfl rfl rfl ⟨rfl, rfl, rfl⟩) rfl trivial rfl rfl ?_
            refine d_op ?_
            refine x_run0 [(1, PV.ptr 0 0)] [] rfl rfl rfl rfl (s_fa_ptr tab_107 rfl rfl tab_3 (by decide) rfl ⟨rfl, rfl, rfl⟩) ?_
            refine d_op ?_
            refine x_run [(93, PV.ptr 0 3)] [4] [(0, .obj [pI r.fn, pI r.at_, pI r.count, pI r.wAt, pI r.sub, pS 1 false encBo r.bits, pS 1 false enc16 r.vals, p16 r.and_, p16 r.or_])] [] [(0, .obj [pI r.fn, pI r.at_, pI r.count, pI r.wAt, pI r.sub, pS 1 false encBo r.bits, pS 1 false enc16 r.vals, p16 r.and_, p16 r.or_])] [] [(3, oB true 1 enc8 (([u8I r.fn] ++ put2 r.at_) ++ put2 r.count)), (2, oB false 1 enc8 ([u8I r.fn] ++ put2 r.at_)), (1, oB false 1 enc8 [u8I r.fn]), (0, .obj [pI r.fn, pI r.at_, pI r.count, pI r.wAt, pI r.sub, pS 1 false encBo r.bits, pS 1 false enc16 r.vals, p16 r.and_, p16 r.or_])] rfl rfl rfl rfl rfl rfl (s_load_ptr1 tab_3 rfl rfl rfl rfl rfl ⟨rfl, rfl, rfl⟩) rfl ⟨rfl, trivial⟩ rfl rfl ?_
            refine d_op ?_
            refine x_run [(92, PV.ref 3 0 none), (94, pI r.wAt)] [0, 1, 2, 3, 4, 5] [] [(3, oB true 1 enc8 (([u8I r.fn] ++ put2 r.at_) ++ put2 r.count))] [(4, oB true 1 enc8 ((([u8I r.fn] ++ put2 r.at_) ++ put2 r.count) ++ put2 r.wAt)), (3, oB false 1 enc8 (([u8I r.fn] ++ put2 r.at_) ++ put2 r.count))] [(4, oB true 1 enc8 ((([u8I r.fn] ++ put2 r.at_) ++ put2 r.count) ++ put2 r.wAt)), (3, oB false 1 enc8 (([u8I r.fn] ++ put2 r.at_) ++ put2 r.count))] [(4, oB true 1 enc8 ((([u8I r.fn] ++ put2 r.at_) ++ put2 r.count) ++ put2 r.wAt)), (3, oB false 1 enc8 (([u8I r.fn] ++ put2 r.at_) ++ put2 r.count)), (2, oB false 1 enc8 ([u8I r.fn] ++ put2 r.at_)), (1, oB false 1 enc8 [u8I r.fn]), (0, .obj [pI r.fn, pI r.at_, pI r.count, pI r.wAt, pI r.sub, pS 1 false encBo r.bits, pS 1 false enc16 r.vals, p16 r.and_, p16 r.or_])] rfl rfl rfl rfl rfl rfl (s_callX (r2 := PV.ref 4 0 none) (nx1 := 5) (H2 := [(3, oB false 1 enc8 (([u8I r.fn] ++ put2 r.at_) ++ put2 r.count))]) (H3 := [(4, oB true 1 enc8 ((([u8I r.fn] ++ put2 r.at_) ++ put2 r.count) ++ put2 r.wAt)), (3, oB false 1 enc8 (([u8I r.fn] ++ put2 r.at_) ++ put2 r.count))]) [] [] rfl rfl rfl (handed_of (by decide) trivial) rfl rfl rfl rfl rfl rfl (w_burgageref1_Put (([u8I r.fn] ++ put2 r.at_) ++ put2 r.count) false r.wAt (by first | omega | assumption | (simp; omega) | decide | (simp; done))) rfl (dist_of rfl) rfl rfl rfl rfl ⟨rfl, rfl, rfl⟩) rfl trivial rfl rfl ?_
            refine d_op ?_
            refine x_run0 [(1, PV.ptr 0 0)] [] rfl rfl rfl rfl (s_fa_ptr tab_107 rfl rfl tab_45 (by decide) rfl ⟨rfl, rfl, rfl⟩) ?_
            refine d_op ?_
            refine x_run [(96, PV.ptr 0 6)] [7] [(0, .obj [pI r.fn, pI r.at_, pI r.count, pI r.wAt, pI r.sub, pS 1 false encBo r.bits, pS 1 false enc16 r.vals, p16 r.and_, p16 r.or_])] [] [(0, .obj [pI r.fn, pI r.at_, pI r.count, pI r.wAt, pI r.sub, pS 1 false encBo r.bits, pS 1 false enc16 r.vals, p16 r.and_, p16 r.or_])] [] [(4, oB true 1 enc8 ((([u8I r.fn] ++ put2 r.at_) ++ put2 r.count) ++ put2 r.wAt)), (3, oB false 1 enc8 (([u8I r.fn] ++ put2 r.at_) ++ put2 r.count)), (2, oB false 1 enc8 ([u8I r.fn] ++ put2 r.at_)), (1, oB false 1 enc8 [u8I r.fn]), (0, .obj [pI r.fn, pI r.at_, pI r.count, pI r.wAt, pI r.sub, pS 1 false encBo r.bits, pS 1 false enc16 r.vals, p16 r.and_, p16 r.or_])] rfl rfl rfl rfl rfl rfl (s_load_ptr1 tab_45 rfl rfl rfl rfl rfl ⟨rfl, rfl, rfl⟩) rfl ⟨rfl, trivial⟩ rfl rfl ?_
            refine d_op ?_
            refine x_run0 [(97, pS 1 false enc16 r.vals)] [7, 8] rfl rfl rfl rfl (s_lenM (l := r.vals) tab_45 rfl (hM_sl (f := enc16) rfl) ⟨rfl, rfl, rfl⟩) ?_
            refine d_op ?_
            refine x_run [(95, PV.ref 4 0 none), (98, pN r.vals.length)] [0, 1, 2, 3, 4, 5, 6, 7, 8, 9] [] [(4, oB true 1 enc8 ((([u8I r.fn] ++ put2 r.at_) ++ put2 r.count) ++ put2 r.wAt))] [(5, oB true 1 enc8 (((([u8I r.fn] ++ put2 r.at_) ++ put2 r.count) ++ put2 r.wAt) ++ put2 ((r.vals.length : Nat) : Int))), (4, oB false 1 enc8 ((([u8I r.fn] ++ put2 r.at_) ++ put2 r.count) ++ put2 r.wAt))] [(5, oB true 1 enc8 (((([u8I r.fn] ++ put2 r.at_) ++ put2 r.count) ++ put2 r.wAt) ++ put2 ((r.vals.length : Nat) : Int))), (4, oB false 1 enc8 ((([u8I r.fn] ++ put2 r.at_) ++ put2 r.count) ++ put2 r.wAt))] [(5, oB true 1 enc8 (((([u8I r.fn] ++ put2 r.at_) ++ put2 r.count) ++ put2 r.wAt) ++ put2 ((r.vals.length : Nat) : Int))), (4, oB false 1 enc8 ((([u8I r.fn] ++ put2 r.at_) ++ put2 r.count) ++ put2 r.wAt)), (3, oB false 1 enc8 (([u8I r.fn] ++ put2 r.at_) ++ put2 r.count)), (2, oB false 1 enc8 ([u8I r.fn] ++ put2 r.at_)), (1, oB false 1 enc8 [u8I r.fn]), (0, .obj [pI r.fn, pI r.at_, pI r.count, pI r.wAt, pI r.sub, pS 1 false encBo r.bits, pS 1 false enc16 r.vals, p16 r.and_, p16 r.or_])] rfl rfl rfl rfl rfl rfl (s_callX (r2 := PV.ref 5 0 none) (nx1 := 6) (H2 := [(4, oB false 1 enc8 ((([u8I r.fn] ++ put2 r.at_) ++ put2 r.count) ++ put2 r.wAt))]) (H3 := [(5, oB true 1 enc8 (((([u8I r.fn] ++ put2 r.at_) ++ put2 r.count) ++ put2 r.wAt) ++ put2 ((r.vals.length : Nat) : Int))), (4, oB false 1 enc8 ((([u8I r.fn] ++ put2 r.at_) ++ put2 r.count) ++ put2 r.wAt))]) [] [] rfl rfl rfl (handed_of (by decide) trivial) rfl rfl rfl rfl rfl rfl (w_burgageref1_Put ((([u8I r.fn] ++ put2 r.at_) ++ put2 r.count) ++ put2 r.wAt) false ((r.vals.length : Nat) : Int) (by first | omega | assumption | (simp; omega) | decide | (simp; done))) rfl (dist_of rfl) rfl rfl rfl rfl ⟨rfl, rfl, rfl⟩) rfl trivial rfl rfl ?_
            refine d_op ?_
            refine x_run0 [(99, PV.ref 5 0 none)] [0, 1, 2, 3, 4, 5, 6, 7, 8, 9, 10] rfl rfl rfl rfl (s_assign rfl ⟨rfl, rfl, rfl⟩) ?_
            refine d_end ⟨by kernel_rfl, ?_⟩
            refine q_then ?_
            refine w_seq ?_
            refine w_R ?_
            refine qm hnt rfl rfl ?_
            refine qo hnt rfl (s_fa_ptr tab_107 rfl rfl tab_45 (by decide) rfl ?_)
            refine qo hnt rfl (s_load_ptr1 tab_45 rfl rfl rfl rfl rfl ?_)
            refine qo hnt rfl (s_callX (r2 := PV.ref 6 0 none) (nx1 := 7) (H2 := [(5, oB true 1 enc8 (((([u8I r.fn] ++ put2 r.at_) ++ put2 r.count) ++ put2 r.wAt) ++ put2 ((r.vals.length : Nat) : Int))), (4, oB false 1 enc8 ((([u8I r.fn] ++ put2 r.at_) ++ put2 r.count) ++ put2 r.wAt)), (3, oB false 1 enc8 (([u8I r.fn] ++ put2 r.at_) ++ put2 r.count)), (2, oB false 1 enc8 ([u8I r.fn] ++ put2 r.at_)), (1, oB false 1 enc8 [u8I r.fn]), (0, .obj [pI r.fn, pI r.at_, pI r.count, pI r.wAt, pI r.sub, pS 1 false encBo r.bits, pS 1 false enc16 r.vals, p16 r.and_, p16 r.or_])]) (H3 := [(6, oB true 1 enc8 (bytesL r.vals)), (5, oB true 1 enc8 (((([u8I r.fn] ++ put2 r.at_) ++ put2 r.count) ++ put2 r.wAt) ++ put2 ((r.vals.length : Nat) : Int))), (4, oB false 1 enc8 ((([u8I r.fn] ++ put2 r.at_) ++ put2 r.count) ++ put2 r.wAt)), (3, oB false 1 enc8 (([u8I r.fn] ++ put2 r.at_) ++ put2 r.count)), (2, oB false 1 enc8 ([u8I r.fn] ++ put2 r.at_)), (1, oB false 1 enc8 [u8I r.fn]), (0, .obj [pI r.fn, pI r.at_, pI r.count, pI r.wAt, pI r.sub, pS 1 false encBo r.bits, pS 1 false enc16 r.vals, p16 r.and_, p16 r.or_])]) [] [] rfl rfl rfl (handed_of (by decide) trivial) rfl rfl rfl rfl rfl rfl (w_burgageref1_Bytes r.vals false (by first | omega | assumption | (simp; omega) | decide | (simp; done))) rfl (dist_of rfl) rfl rfl rfl rfl ?_)
            refine qo hnt rfl (s_callX (r2 := PV.ref 7 0 none) (nx1 := 8) (H2 := [(6, oB false 1 enc8 (bytesL r.vals)), (5, oB true 1 enc8 (((([u8I r.fn] ++ put2 r.at_) ++ put2 r.count) ++ put2 r.wAt) ++ put2 ((r.vals.length : Nat) : Int))), (4, oB false 1 enc8 ((([u8I r.fn] ++ put2 r.at_) ++ put2 r.count) ++ put2 r.wAt)), (3, oB false 1 enc8 (([u8I r.fn] ++ put2 r.at_) ++ put2 r.count)), (2, oB false 1 enc8 ([u8I r.fn] ++ put2 r.at_)), (1, oB false 1 enc8 [u8I r.fn]), (0, .obj [pI r.fn, pI r.at_, pI r.count, pI r.wAt, pI r.sub, pS 1 false encBo r.bits, pS 1 false enc16 r.vals, p16 r.and_, p16 r.or_])]) (H3 := [(7, oB true 1 enc8 ((((([u8I r.fn] ++ put2 r.at_) ++ put2 r.count) ++ put2 r.wAt) ++ put2 ((r.vals.length : Nat) : Int)) ++ rowX (bytesL r.vals))), (6, oB false 1 enc8 (bytesL r.vals)), (4, oB false 1 enc8 ((([u8I r.fn] ++ put2 r.at_) ++ put2 r.count) ++ put2 r.wAt)), (3, oB false 1 enc8 (([u8I r.fn] ++ put2 r.at_) ++ put2 r.count)), (2, oB false 1 enc8 ([u8I r.fn] ++ put2 r.at_)), (1, oB false 1 enc8 [u8I r.fn]), (0, .obj [pI r.fn, pI r.at_, pI r.count, pI r.wAt, pI r.sub, pS 1 false encBo r.bits, pS 1 false enc16 r.vals, p16 r.and_, p16 r.or_])]) [5] [oB true 1 enc8 (((([u8I r.fn] ++ put2 r.at_) ++ put2 r.count) ++ put2 r.wAt) ++ put2 ((r.vals.length : Nat) : Int))] rfl rfl rfl (handed_of (by decide) ⟨rfl, trivial⟩) rfl rfl rfl rfl rfl rfl (w_burgageref3_row (((([u8I r.fn] ++ put2 r.at_) ++ put2 r.count) ++ put2 r.wAt) ++ put2 ((r.vals.length : Nat) : Int)) true (bytesL r.vals) false (by first | omega | assumption | (simp; omega) | decide | (simp; done)) (by first | omega | assumption | (simp; omega) | decide | (simp; done))) rfl (dist_of rfl) rfl rfl rfl rfl ?_)
            refine qa hnt rfl rfl ?_
            refine r_set [(2, PV.ref 7 0 none)] [(7, oB true 1 enc8 ((((([u8I r.fn] ++ put2 r.at_) ++ put2 r.count) ++ put2 r.wAt) ++ put2 ((r.vals.length : Nat) : Int)) ++ rowX (bytesL r.vals))), (6, oB false 1 enc8 (bytesL r.vals)), (4, oB false 1 enc8 ((([u8I r.fn] ++ put2 r.at_) ++ put2 r.count) ++ put2 r.wAt)), (3, oB false 1 enc8 (([u8I r.fn] ++ put2 r.at_) ++ put2 r.count)), (2, oB false 1 enc8 ([u8I r.fn] ++ put2 r.at_)), (1, oB false 1 enc8 [u8I r.fn]), (0, .obj [pI r.fn, pI r.at_, pI r.count, pI r.wAt, pI r.sub, pS 1 false encBo r.bits, pS 1 false enc16 r.vals, p16 r.and_, p16 r.or_])] 8 ⟨rfl, trivial⟩ rfl rfl ?_
            refine r_end ?_
            refine q_then ?_
            refine w_low (n := 7) rfl ?_
            refine w_H (H' := [(7, oB false 1 enc8 (writeR r)), (6, oB false 1 enc8 (bytesL r.vals)), (4, oB false 1 enc8 ((([u8I r.fn] ++ put2 r.at_) ++ put2 r.count) ++ put2 r.wAt)), (3, oB false 1 enc8 (([u8I r.fn] ++ put2 r.at_) ++ put2 r.count)), (2, oB false 1 enc8 ([u8I r.fn] ++ put2 r.at_)), (1, oB false 1 enc8 [u8I r.fn]), (0, .obj [pI r.fn, pI r.at_, pI r.count, pI r.wAt, pI r.sub, pS 1 false encBo r.bits, pS 1 false enc16 r.vals, p16 r.and_, p16 r.or_])]) (congrArg (fun z => ([(7, oB false 1 enc8 z), (6, oB false 1 enc8 (bytesL r.vals)), (4, oB false 1 enc8 ((([u8I r.fn] ++ put2 r.at_) ++ put2 r.count) ++ put2 r.wAt)), (3, oB false 1 enc8 (([u8I r.fn] ++ put2 r.at_) ++ put2 r.count)), (2, oB false 1 enc8 ([u8I r.fn] ++ put2 r.at_)), (1, oB false 1 enc8 [u8I r.fn]), (0, .obj [pI r.fn, pI r.at_, pI r.count, pI r.wAt, pI r.sub, pS 1 false encBo r.bits, pS 1 false enc16 r.vals, p16 r.and_, p16 r.or_])] : Heap)) (show (((([u8I r.fn] ++ put2 r.at_) ++ put2 r.count) ++ put2 r.wAt) ++ put2 ((r.vals.length : Nat) : Int)) ++ rowX (bytesL r.vals) = writeR r by first | (rw [writeR_1 (by omega)]; simp; done) | (rw [writeR_1 (by omega)]; done) | (rw [writeR_15 (by omega)]; simp; done) | (rw [writeR_16 (by omega)]; simp; done) | (rw [writeR_22 (by omega)]; simp; done) | (rw [writeR_23 (by omega)]; simp; done) | (rw [writeR_no (by omega)]; done) | (rw [writeR_5 (by omega) (by assumption)]; simp [*]; done) | (rw [writeR_6 (by omega) (by assumption)]; simp; done) | (rw [writeR_8 (by omega) (by assumption)]; simp; done))) ?_
            refine w_ret ?_
            refine q_block_ret ?_
            refine q_then_ret ?_
            exact fin_names (nx1 := 1) (H1 := [(0, oB false 1 enc8 (writeR r))]) [(0, 7)] (ret_tmp rfl ret_nil) rfl (by decide) ⟨⟨_, _, rfl, rfl, rfl, rfl⟩, trivial⟩ (by decide) rfl ⟨rfl, rfl, rfl⟩
           ·
            have c12_ := c12
            try simp only [sB] at c12
            refine w_skip ?_
            refine q_block ?_
            refine q_then ?_
            refine w_seq ?_
            refine w_R ?_
            refine qm hnt rfl rfl ?_
            refine qa hnt rfl rfl ?_
            refine r_end ?_
            refine q_then ?_
            refine w_H (H' := [(2, oB true 1 enc8 ([u8I r.fn] ++ put2 r.at_)), (1, oB false 1 enc8 (writeR r)), (0, .obj [pI r.fn, pI r.at_, pI r.count, pI r.wAt, pI r.sub, pS 1 false encBo r.bits, pS 1 false enc16 r.vals, p16 r.and_, p16 r.or_])]) (congrArg (fun z => ([(2, oB true 1 enc8 ([u8I r.fn] ++ put2 r.at_)), (1, oB false 1 enc8 z), (0, .obj [pI r.fn, pI r.at_, pI r.count, pI r.wAt, pI r.sub, pS 1 false encBo r.bits, pS 1 false enc16 r.vals, p16 r.and_, p16 r.or_])] : Heap)) (show [u8I r.fn] = writeR r by first | (rw [writeR_1 (by omega)]; simp; done) | (rw [writeR_1 (by omega)]; done) | (rw [writeR_15 (by omega)]; simp; done) | (rw [writeR_16 (by omega)]; simp; done) | (rw [writeR_22 (by omega)]; simp; done) | (rw [writeR_23 (by omega)]; simp; done) | (rw [writeR_no (by omega)]; done) | (rw [writeR_5 (by omega) (by assumption)]; simp [*]; done) | (rw [writeR_6 (by omega) (by assumption)]; simp; done) | (rw [writeR_8 (by omega) (by assumption)]; simp; done))) ?_
            refine w_ret ?_
            exact fin_names (nx1 := 1) (H1 := [(0, oB false 1 enc8 (writeR r))]) [(0, 1)] (ret_tmp rfl ret_nil) rfl (by decide) ⟨⟨_, _, rfl, rfl, rfl, rfl⟩, trivial⟩ (by decide) rfl ⟨rfl, rfl, rfl⟩
theorem w_burgageref3_Bytes (r : TRequest) (hb : r.bits.length ≤ 140737488351232) (hv : r.vals.length ≤ 1000000) :
    T Try.prog 71 [PV.f (eRequest r)] 0 [] (Ret (PV.tup [PV.ref 0 0 none, pI (rightR r)]) 1 [(0, oB false 1 enc8 (bytesR r))]) := by
 refine t_fun tabOk (n := 12) (rs := [.tmp 2, .tmp 3]) Try.func71 rfl rfl rfl rfl (Nat.le_of_ble_eq_true rfl) ?_
 intro c hnt hk
 refine w_seq ?_
 refine w_R ?_
 refine qo hnt rfl (s_box rfl rfl ?_)
 refine qa hnt rfl rfl ?_
 refine qa hnt rfl rfl ?_
 refine r_set [(1, PV.ptr 0 0)] [(0, .obj [pI r.fn, pI r.at_, pI r.count, pI r.wAt, pI r.sub, pS 1 false encBo r.bits, pS 1 false enc16 r.vals, p16 r.and_, p16 r.or_])] 1 ⟨rfl, trivial⟩ rfl rfl ?_
 refine r_end ?_
 refine q_then ?_
 refine w_seq ?_
 refine w_seq ?_
 refine w_R ?_
 refine qo hnt rfl (s_load_ptr tab_107 rfl rfl rfl (Nat.le_of_ble_eq_true rfl) ?_)
 refine qo hnt rfl (s_callF rfl rfl rfl (w_burgageref3_Right r (by first | omega | assumption | (simp; omega) | decide | (simp; done)) (by first | omega | assumption | (simp; omega) | decide | (simp; done))) rfl ?_)
 refine qa hnt rfl rfl ?_
 refine r_end ?_
 refine q_then ?_
 refine w_seq ?_
 refine w_R ?_
 refine qm hnt rfl rfl ?_
 refine qo hnt rfl (s_neq rfl rfl ?_)
 refine r_end ?_
 refine q_then ?_
 refine w_if rfl (fun c1 => ?_) (fun c1 => ?_)
 ·
  have c1_ := c1
  try simp only [sB] at c1
  refine w_seq ?_
  refine w_R ?_
  refine qm hnt rfl rfl ?_
  refine qa hnt rfl rfl ?_
  refine qa hnt rfl rfl ?_
  refine r_end ?_
  refine q_then ?_
  refine w_adopt (s := 2) (sz := 1) rfl ?_
  refine w_low (n := 1) rfl ?_
  refine w_H (H' := [(1, oB false 1 enc8 (bytesR r)), (0, .obj [pI r.fn, pI r.at_, pI r.count, pI r.wAt, pI r.sub, pS 1 false encBo r.bits, pS 1 false enc16 r.vals, p16 r.and_, p16 r.or_])]) (congrArg (fun z => ([(1, oB false 1 enc8 z), (0, .obj [pI r.fn, pI r.at_, pI r.count, pI r.wAt, pI r.sub, pS 1 false encBo r.bits, pS 1 false enc16 r.vals, p16 r.and_, p16 r.or_])] : Heap)) (show ([] : List UInt8) = bytesR r by first | (simp [bytesR, *]; done) | simp [bytesR, *])) ?_
  refine w_ret ?_
  refine q_then_ret ?_
  exact fin_names (nx1 := 1) (H1 := [(0, oB false 1 enc8 (bytesR r))]) [(0, 1)] (ret_tmp rfl (ret_tmp rfl ret_nil)) rfl (by decide) ⟨⟨_, _, rfl, rfl, rfl, rfl⟩, trivial⟩ (by decide) rfl ⟨rfl, rfl, rfl⟩
 ·
  have c1_ := c1
  try simp only [sB] at c1
  refine w_skip ?_
  refine q_then ?_
  refine w_seq ?_
  have hsh := (rightR_zero (by first | exact c1 | simpa using c1_)).2
  have h5b := hsh.bits
  have h6b := hsh.vals
  refine w_R ?_
  refine qo hnt rfl (s_load_ptr tab_107 rfl rfl rfl (Nat.le_of_ble_eq_true rfl) ?_)
  refine qo hnt rfl (s_callX (r2 := PV.ref 1 0 none) (nx1 := 2) (H2 := [(0, .obj [pI r.fn, pI r.at_, pI r.count, pI r.wAt, pI r.sub, pS 1 false encBo r.bits, pS 1 false enc16 r.vals, p16 r.and_, p16 r.or_])]) (H3 := [(1, oB false 1 enc8 (writeR r)), (0, .obj [pI r.fn, pI r.at_, pI r.count, pI r.wAt, pI r.sub, pS 1 false encBo r.bits, pS 1 false enc16 r.vals, p16 r.and_, p16 r.or_])]) [] [] rfl rfl rfl (handed_of (by decide) trivial) rfl rfl rfl rfl rfl rfl (w_burgageref3_write r (by omega) (by omega) (by intro h; rw [if_pos h] at h5b; omega) (by intro h; rw [if_pos h] at h6b; omega)) rfl (dist_of rfl) rfl rfl rfl rfl ?_)
  refine qa hnt rfl rfl ?_
  refine qa hnt rfl rfl ?_
  refine r_set [(2, PV.ref 1 0 none), (3, pI 0)] [(1, oB false 1 enc8 (writeR r)), (0, .obj [pI r.fn, pI r.at_, pI r.count, pI r.wAt, pI r.sub, pS 1 false encBo r.bits, pS 1 false enc16 r.vals, p16 r.and_, p16 r.or_])] 2 ⟨rfl, rfl, trivial⟩ rfl rfl ?_
  refine r_end ?_
  refine q_then ?_
  refine w_le (s := 3) (y := pI (rightR r)) rfl (le_of_eq (congrArg (fun z : Int => pI z) (show 0 = (rightR r) by first | (simp [bytesR, *]; done) | simp [bytesR, *]))) ?_
  refine w_H (H' := [(1, oB false 1 enc8 (bytesR r)), (0, .obj [pI r.fn, pI r.at_, pI r.count, pI r.wAt, pI r.sub, pS 1 false encBo r.bits, pS 1 false enc16 r.vals, p16 r.and_, p16 r.or_])]) (congrArg (fun z => ([(1, oB false 1 enc8 z), (0, .obj [pI r.fn, pI r.at_, pI r.count, pI r.wAt, pI r.sub, pS 1 false encBo r.bits, pS 1 false enc16 r.vals, p16 r.and_, p16 r.or_])] : Heap)) (show writeR r = bytesR r by first | (simp [bytesR, *]; done) | simp [bytesR, *])) ?_
  refine w_ret ?_
  exact fin_names (nx1 := 1) (H1 := [(0, oB false 1 enc8 (bytesR r))]) [(0, 1)] (ret_tmp rfl (ret_tmp rfl ret_nil)) rfl (by decide) ⟨⟨_, _, rfl, rfl, rfl, rfl⟩, trivial⟩ (by decide) rfl ⟨rfl, rfl, rfl⟩
end Go.Proofs.Ytfbmlnajnlekbaa
