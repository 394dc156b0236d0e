/- What the law MbapNumbers needs, and no more: merged out of texts of this session by a program of it (wip/tools/prune.py). -/
import Derived.Test.YtfbmlnajnlekbaaQMbapNumbers3
set_option linter.unusedVariables false
set_option linter.unusedSimpArgs false
set_option maxRecDepth 10000
set_option maxHeartbeats 1000000
namespace Go.Proofs.Ytfbmlnajnlekbaa
open Go Go.Proofs.Ytfbmlnajnlekbaa.Pv
theorem w_burgageref5_Bytes (m : TMsg) (hm : m.pdu.length ≤ 140737488351232) :
    T Try.prog 19 [PV.f (eMsg m)] 0 [] (Ret (pS 1 false enc8 (bytesM m)) 0 []) := by
 refine t_fun tabOk (n := 30) (rs := [.tmp 2]) Try.func19 rfl rfl rfl rfl (Nat.le_of_ble_eq_true rfl) ?_
 intro c hnt hk
 refine w_seq ?_
 refine w_R ?_
 refine qo hnt rfl (s_box rfl rfl ?_)
 refine qa hnt rfl rfl ?_
 refine r_set [(1, PV.ptr 0 0)] [(0, .obj [pI m.id, pI m.unit, pS 1 false enc8 m.pdu])] 1 ⟨rfl, trivial⟩ rfl rfl ?_
 refine r_end ?_
 refine q_then ?_
 refine w_seq ?_
 refine w_R ?_
 refine qo hnt rfl (s_fa_ptr tab_33 rfl rfl tab_27 (by decide) rfl ?_)
 refine qo hnt rfl (s_load_ptr1 tab_27 rfl rfl rfl rfl rfl ?_)
 refine qo hnt rfl (s_lenM (l := m.pdu) tab_27 rfl (hM_sl (f := enc8) rfl) ?_)
 refine qa hnt rfl rfl ?_
 refine r_end ?_
 refine q_then ?_
 refine w_seq ?_
 refine w_seq ?_
 refine w_R ?_
 refine qm hnt rfl rfl ?_
 refine qo hnt rfl (s_lss rfl rfl ?_)
 refine qm hnt rfl rfl ?_
 refine r_if tabOk hnt rfl rfl rfl (fun g1 => ?_) (fun g1 => ?_)
 ·
  have g1' := g1
  try simp only [sB] at g1'
  refine qm hnt rfl rfl ?_
  refine ry hnt rfl rfl rfl g1 ?_
  refine qo hnt rfl (s_gtr rfl rfl ?_)
  refine qo hnt rfl (s_pick_f rfl g1 rfl ?_)
  refine r_end ?_
  refine q_then ?_
  refine w_if rfl (fun c1 => ?_) (fun c1 => ?_)
  ·
   have c1_ := c1
   try simp only [sB] at c1
   refine w_seq ?_
   have hbm : bytesM m = [] := bytesM_none (by omega)
   refine w_R ?_
   refine qa hnt rfl rfl ?_
   refine r_end ?_
   refine q_then ?_
   refine w_le (s := 2) (y := pS 1 false enc8 []) rfl (le_nilS 1 false) ?_
   refine w_le (s := 2) (y := pS 1 false enc8 (bytesM m)) rfl (le_of_eq (congrArg (fun z => pS 1 false enc8 z) (show [] = (bytesM m) by first | (rw [hbm]; done) | (rw [hbm]; rfl) | simp [hbm]))) ?_
   refine w_ret ?_
   refine q_then_ret ?_
   exact fin_plain (ret_tmp rfl ret_nil) rfl rfl ⟨rfl, rfl, rfl⟩
  ·
   have c1_ := c1
   try simp only [sB] at c1
   refine w_skip ?_
   refine q_then ?_
   refine w_seq ?_
   have hbm := bytesM_some (m := m) (by omega)
   refine w_R ?_
   refine qo hnt rfl (s_fa_ptr tab_33 rfl rfl tab_3 (by decide) rfl ?_)
   refine qo hnt rfl (s_load_ptr1 tab_3 rfl rfl rfl rfl rfl ?_)
   refine qo hnt rfl (s_callX (r2 := PV.ref 1 0 none) (nx1 := 2) (H2 := [(0, .obj [pI m.id, pI m.unit, pS 1 false enc8 m.pdu])]) (H3 := [(1, oB true 1 enc8 ([] ++ put2 m.id)), (0, .obj [pI m.id, pI m.unit, pS 1 false enc8 m.pdu])]) [] [] rfl rfl rfl (handed_of (by decide) trivial) rfl rfl rfl rfl rfl rfl (T.leL (args := [pNil, pI m.id]) (args' := [pS 1 false enc8 [], pI m.id]) ⟨le_F (FLe.nil 1 false), ⟨le_refl _, trivial⟩⟩ (w_burgageref1_Put [] false m.id (by first | omega | assumption | (simp; omega) | decide | (simp; done)))) rfl (dist_of rfl) rfl rfl rfl rfl ?_)
   refine qo hnt rfl (s_callX (r2 := PV.ref 2 0 none) (nx1 := 3) (H2 := [(1, oB false 1 enc8 ([] ++ put2 m.id)), (0, .obj [pI m.id, pI m.unit, pS 1 false enc8 m.pdu])]) (H3 := [(2, oB true 1 enc8 (([] ++ put2 m.id) ++ put2 0)), (1, oB false 1 enc8 ([] ++ put2 m.id)), (0, .obj [pI m.id, pI m.unit, pS 1 false enc8 m.pdu])]) [] [] rfl rfl rfl (handed_of (by decide) trivial) rfl rfl rfl rfl rfl rfl (w_burgageref1_Put ([] ++ put2 m.id) false 0 (by first | omega | assumption | (simp; omega) | decide | (simp; done))) rfl (dist_of rfl) rfl rfl rfl rfl ?_)
   refine qm hnt rfl rfl ?_
   refine qo hnt rfl (s_addN (a := m.pdu.length) (b := 1) rfl rfl (by omega) (by omega) (by omega) ?_)
   refine qo hnt rfl (s_callX (r2 := PV.ref 3 0 none) (nx1 := 4) (H2 := [(2, oB false 1 enc8 (([] ++ put2 m.id) ++ put2 0)), (1, oB false 1 enc8 ([] ++ put2 m.id)), (0, .obj [pI m.id, pI m.unit, pS 1 false enc8 m.pdu])]) (H3 := [(3, oB true 1 enc8 ((([] ++ put2 m.id) ++ put2 0) ++ put2 ((m.pdu.length + 1 : Nat) : Int))), (2, oB false 1 enc8 (([] ++ put2 m.id) ++ put2 0)), (1, oB false 1 enc8 ([] ++ put2 m.id)), (0, .obj [pI m.id, pI m.unit, pS 1 false enc8 m.pdu])]) [] [] rfl rfl rfl (handed_of (by decide) trivial) rfl rfl rfl rfl rfl rfl (w_burgageref1_Put (([] ++ put2 m.id) ++ put2 0) false ((m.pdu.length + 1 : Nat) : Int) (by first | omega | assumption | (simp; omega) | decide | (simp; done))) rfl (dist_of rfl) rfl rfl rfl rfl ?_)
   refine qa hnt rfl rfl ?_
   refine r_set [(1, PV.ptr 0 0), (4, PV.ref 3 0 none)] [(3, oB true 1 enc8 ((([] ++ put2 m.id) ++ put2 0) ++ put2 ((m.pdu.length + 1 : Nat) : Int))), (2, oB false 1 enc8 (([] ++ put2 m.id) ++ put2 0)), (1, oB false 1 enc8 ([] ++ put2 m.id)), (0, .obj [pI m.id, pI m.unit, pS 1 false enc8 m.pdu])] 4 ⟨rfl, rfl, trivial⟩ rfl rfl ?_
   refine r_end ?_
   refine q_then ?_
   refine w_seq ?_
   refine W_drawn tabOk mixed hnt [[], [], [1], [1, 2], [1, 2, 3], [0, 1, 2, 3, 4], [], [6], [0, 1, 2, 3, 4, 5, 6, 7], [0, 1, 2, 3, 4, 5, 6, 7, 8]] (by kernel_rfl) ?_
   refine d_op ?_
   refine x_run0 [(4, PV.ref 3 0 none)] [] rfl rfl rfl rfl (s_move rfl ⟨rfl, rfl, rfl⟩) ?_
   refine d_op ?_
   refine x_run0 [(1, PV.ptr 0 0)] [] rfl rfl rfl rfl (s_fa_ptr tab_33 rfl rfl tab_3 (by decide) rfl ⟨rfl, rfl, rfl⟩) ?_
   refine d_op ?_
   refine x_run [(22, PV.ptr 0 1)] [1] [(0, .obj [pI m.id, pI m.unit, pS 1 false enc8 m.pdu])] [] [(0, .obj [pI m.id, pI m.unit, pS 1 false enc8 m.pdu])] [] [(3, oB true 1 enc8 ((([] ++ put2 m.id) ++ put2 0) ++ put2 ((m.pdu.length + 1 : Nat) : Int))), (2, oB false 1 enc8 (([] ++ put2 m.id) ++ put2 0)), (1, oB false 1 enc8 ([] ++ put2 m.id)), (0, .obj [pI m.id, pI m.unit, pS 1 false enc8 m.pdu])] rfl rfl rfl rfl rfl rfl (s_load_ptr1 tab_3 rfl rfl rfl rfl rfl ⟨rfl, rfl, rfl⟩) rfl ⟨rfl, trivial⟩ rfl rfl ?_
   refine d_op ?_
   refine x_run0 [(23, pI m.unit)] [1, 2] rfl rfl rfl rfl (s_cv8 tab_3 tab_5 rfl rfl rfl ⟨rfl, rfl, rfl⟩) ?_
   refine d_op ?_
   refine x_run [(24, p8 (u8I m.unit))] [1, 2, 3] [] [] [(4, oB true 1 enc8 [u8I m.unit])] [(4, oB true 1 enc8 [u8I m.unit])] [(4, oB true 1 enc8 [u8I m.unit]), (3, oB true 1 enc8 ((([] ++ put2 m.id) ++ put2 0) ++ put2 ((m.pdu.length + 1 : Nat) : Int))), (2, oB false 1 enc8 (([] ++ put2 m.id) ++ put2 0)), (1, oB false 1 enc8 ([] ++ put2 m.id)), (0, .obj [pI m.id, pI m.unit, pS 1 false enc8 m.pdu])] rfl rfl rfl rfl rfl rfl (s_mkM (f := enc8) [u8I m.unit] tab_27 rfl tab_5 ⟨rfl, by decide⟩ (by decide) rfl rfl rfl rfl ⟨rfl, rfl, rfl⟩) rfl trivial rfl rfl ?_
   refine d_op ?_
   refine x_run [(21, PV.ref 3 0 none), (25, PV.ref 4 0 none)] [0, 1, 2, 3, 4] [(4, oB true 1 enc8 [u8I m.unit])] [(3, oB true 1 enc8 ((([] ++ put2 m.id) ++ put2 0) ++ put2 ((m.pdu.length + 1 : Nat) : Int)))] [(5, oB true 1 enc8 (((([] ++ put2 m.id) ++ put2 0) ++ put2 ((m.pdu.length + 1 : Nat) : Int)) ++ [u8I m.unit])), (4, oB true 1 enc8 [u8I m.unit])] [(5, oB true 1 enc8 (((([] ++ put2 m.id) ++ put2 0) ++ put2 ((m.pdu.length + 1 : Nat) : Int)) ++ [u8I m.unit]))] [(5, oB true 1 enc8 (((([] ++ put2 m.id) ++ put2 0) ++ put2 ((m.pdu.length + 1 : Nat) : Int)) ++ [u8I m.unit])), (4, oB true 1 enc8 [u8I m.unit]), (2, oB false 1 enc8 (([] ++ put2 m.id) ++ put2 0)), (1, oB false 1 enc8 ([] ++ put2 m.id)), (0, .obj [pI m.id, pI m.unit, pS 1 false enc8 m.pdu])] rfl rfl rfl rfl rfl rfl (s_appR0 (f := enc8) (l := (([] ++ put2 m.id) ++ put2 0) ++ put2 ((m.pdu.length + 1 : Nat) : Int)) (xs := [u8I m.unit]) tab_27 rfl tab_5 ⟨rfl, by decide, by decide⟩ (srcM tab_27 rfl (hM_ref0 (f := enc8) rfl rfl)) rfl rfl (by first | omega | (simp; done) | (simp; omega)) ⟨rfl, rfl, rfl⟩) rfl ⟨rfl, trivial⟩ rfl rfl ?_
   refine d_op ?_
   refine x_run0 [(1, PV.ptr 0 0)] [] rfl rfl rfl rfl (s_fa_ptr tab_33 rfl rfl tab_27 (by decide) rfl ⟨rfl, rfl, rfl⟩) ?_
   refine d_op ?_
   refine x_run [(27, PV.ptr 0 2)] [6] [(0, .obj [pI m.id, pI m.unit, pS 1 false enc8 m.pdu])] [] [(0, .obj [pI m.id, pI m.unit, pS 1 false enc8 m.pdu])] [] [(5, oB true 1 enc8 (((([] ++ put2 m.id) ++ put2 0) ++ put2 ((m.pdu.length + 1 : Nat) : Int)) ++ [u8I m.unit])), (4, oB true 1 enc8 [u8I m.unit]), (2, oB false 1 enc8 (([] ++ put2 m.id) ++ put2 0)), (1, oB false 1 enc8 ([] ++ put2 m.id)), (0, .obj [pI m.id, pI m.unit, pS 1 false enc8 m.pdu])] rfl rfl rfl rfl rfl rfl (s_load_ptr1 tab_27 rfl rfl rfl rfl rfl ⟨rfl, rfl, rfl⟩) rfl ⟨rfl, trivial⟩ rfl rfl ?_
   refine d_op ?_
   refine x_run [(26, PV.ref 5 0 none), (28, pS 1 false enc8 m.pdu)] [0, 1, 2, 3, 4, 5, 6, 7] [] [(5, oB true 1 enc8 (((([] ++ put2 m.id) ++ put2 0) ++ put2 ((m.pdu.length + 1 : Nat) : Int)) ++ [u8I m.unit]))] [(6, oB true 1 enc8 ((((([] ++ put2 m.id) ++ put2 0) ++ put2 ((m.pdu.length + 1 : Nat) : Int)) ++ [u8I m.unit]) ++ m.pdu))] [(6, oB true 1 enc8 ((((([] ++ put2 m.id) ++ put2 0) ++ put2 ((m.pdu.length + 1 : Nat) : Int)) ++ [u8I m.unit]) ++ m.pdu))] [(6, oB true 1 enc8 ((((([] ++ put2 m.id) ++ put2 0) ++ put2 ((m.pdu.length + 1 : Nat) : Int)) ++ [u8I m.unit]) ++ m.pdu)), (4, oB true 1 enc8 [u8I m.unit]), (2, oB false 1 enc8 (([] ++ put2 m.id) ++ put2 0)), (1, oB false 1 enc8 ([] ++ put2 m.id)), (0, .obj [pI m.id, pI m.unit, pS 1 false enc8 m.pdu])] rfl rfl rfl rfl rfl rfl (s_appR0 (f := enc8) (l := ((([] ++ put2 m.id) ++ put2 0) ++ put2 ((m.pdu.length + 1 : Nat) : Int)) ++ [u8I m.unit]) (xs := m.pdu) tab_27 rfl tab_5 ⟨rfl, by decide, by decide⟩ (srcM tab_27 rfl (hM_sl (f := enc8) rfl)) rfl rfl (by first | omega | (simp; done) | (simp; omega)) ⟨rfl, rfl, rfl⟩) rfl trivial rfl rfl ?_
   refine d_op ?_
   refine x_run0 [(29, PV.ref 6 0 none)] [0, 1, 2, 3, 4, 5, 6, 7, 8] rfl rfl rfl rfl (s_assign rfl ⟨rfl, rfl, rfl⟩) ?_
   refine d_end ⟨by kernel_rfl, ?_⟩
   refine q_then ?_
   refine w_frzM (s := 2) (f := enc8) rfl rfl view_0 ?_
   refine w_le (s := 2) (y := pS 1 false enc8 (bytesM m)) rfl (le_of_eq (congrArg (fun z => pS 1 false enc8 z) (show ((((([] ++ put2 m.id) ++ put2 0) ++ put2 ((m.pdu.length + 1 : Nat) : Int)) ++ [u8I m.unit]) ++ m.pdu) = (bytesM m) by first | (rw [hbm]; done) | (rw [hbm]; rfl) | simp [hbm]))) ?_
   refine w_ret ?_
   exact fin_plain (ret_tmp rfl ret_nil) rfl rfl ⟨rfl, rfl, rfl⟩
 ·
  have g1' := g1
  try simp only [sB] at g1'
  refine rn hnt rfl rfl rfl g1 ?_
  refine qo hnt rfl (s_pick_t rfl g1 rfl ?_)
  refine r_end ?_
  refine q_then ?_
  refine w_if rfl (fun _ => ?_) (fun e => absurd e (by decide))
  refine w_seq ?_
  have hbm : bytesM m = [] := bytesM_none (by omega)
  refine w_R ?_
  refine qa hnt rfl rfl ?_
  refine r_end ?_
  refine q_then ?_
  refine w_le (s := 2) (y := pS 1 false enc8 []) rfl (le_nilS 1 false) ?_
  refine w_le (s := 2) (y := pS 1 false enc8 (bytesM m)) rfl (le_of_eq (congrArg (fun z => pS 1 false enc8 z) (show [] = (bytesM m) by first | (rw [hbm]; done) | (rw [hbm]; rfl) | simp [hbm]))) ?_
  refine w_ret ?_
  refine q_then_ret ?_
  exact fin_plain (ret_tmp rfl ret_nil) rfl rfl ⟨rfl, rfl, rfl⟩
theorem w_burgageref5_Stream_Open (b : List UInt8) (cl_b : Bool) (cl : Bool)  :
    T Try.prog 50 [PV.ptr 0 0] 1 [(0, .obj [pS 1 cl_b enc8 b, pB cl])] (Ret (PV.tup []) 1 [(0, .obj [pS 1 false enc8 b, pB false])]) := by
 refine t_fun tabOk (n := 5) (rs := []) Try.func50 rfl rfl rfl rfl (Nat.le_of_ble_eq_true rfl) ?_
 intro c hnt hk
 refine w_R ?_
 refine qm hnt rfl rfl ?_
 refine qo hnt rfl (s_nilCheck rfl trivial ?_)
 refine qo hnt rfl (s_fa_ptr tab_81 rfl rfl tab_4 (by decide) rfl ?_)
 refine qo hnt rfl (s_store_ptr tab_4 rfl rfl rfl rfl rfl (Nat.le_of_ble_eq_true rfl) ?_)
 refine r_set [] [(0, .obj [pS 1 cl_b enc8 b, pB false])] 1 trivial rfl rfl ?_
 refine r_leC (n := 0) (j := 0) (y := pS 1 false enc8 b) rfl rfl (le_loose) ?_
 refine r_end ?_
 refine fin_normal ?_
 exact fin_names (nx1 := 1) (H1 := [(0, .obj [pS 1 false enc8 b, pB false])]) [(0, 0)] ret_nil rfl (by decide) ⟨⟨_, _, rfl, rfl, rfl, rfl⟩, trivial⟩ (by decide) rfl ⟨rfl, rfl, rfl⟩
theorem w_burgageref5_Stream_Put (b : List UInt8) (cl_b : Bool) (cl : Bool) (x : List UInt8) (cl_x : Bool) (hb : b.length + x.length ≤ 28147497671000) :
    T Try.prog 49 [PV.ptr 0 0, pS 1 cl_x enc8 x] 1 [(0, .obj [pS 1 cl_b enc8 b, pB cl])] (Ret (pS 3 false eMsg ((putV b cl x).1)) 1 [(0, .obj [pS 1 false enc8 ((putV b cl x).2.1), pB ((putV b cl x).2.2)])]) := by
 refine t_fun tabOk (n := 117) (rs := [.tmp 4]) Try.func49 rfl rfl rfl rfl (Nat.le_of_ble_eq_true rfl) ?_
 intro c hnt hk
 refine w_seq ?_
 refine w_R ?_
 refine qa hnt rfl rfl ?_
 refine r_end ?_
 refine q_then ?_
 refine w_seq ?_
 refine w_seq ?_
 refine w_R ?_
 refine qm hnt rfl rfl ?_
 refine qo hnt rfl (s_nilCheck rfl trivial ?_)
 refine qo hnt rfl (s_fa_ptr tab_81 rfl rfl tab_4 (by decide) rfl ?_)
 refine qo hnt rfl (s_load_ptr1 tab_4 rfl rfl rfl rfl rfl ?_)
 refine r_end ?_
 refine q_then ?_
 refine w_if rfl (fun c1 => ?_) (fun c1 => ?_)
 ·
  have c1_ := c1
  try simp only [sB] at c1
  refine w_seq ?_
  refine w_R ?_
  refine qa hnt rfl rfl ?_
  refine r_end ?_
  refine q_then ?_
  refine w_le (s := 4) (y := pS 3 false eMsg []) rfl (le_nilS 3 false) ?_
  refine w_le (s := 4) (y := pS 3 false eMsg ((putV b cl x).1)) rfl (le_of_eq (congrArg (fun z => pS 3 false eMsg z) (show [] = ((putV b cl x).1) by first | (simp [putV, c1]; done) | (simp [putV, c1, hg]; done)))) ?_
  refine w_leC (n := 0) (j := 0) (y := pS 1 false enc8 b) rfl rfl (le_loose) ?_
  refine w_leC (n := 0) (j := 0) (y := pS 1 false enc8 ((putV b cl x).2.1)) rfl rfl (le_of_eq (congrArg (fun z => pS 1 false enc8 z) (show b = ((putV b cl x).2.1) by first | (simp [putV, c1]; done) | (simp [putV, c1, hg]; done)))) ?_
  refine w_leC (n := 0) (j := 1) (y := pB ((putV b cl x).2.2)) rfl rfl (le_of_eq (congrArg (fun z : Bool => pB z) (show cl = ((putV b cl x).2.2) by first | (simp [putV, c1]; done) | (simp [putV, c1, hg]; done)))) ?_
  refine w_ret ?_
  refine q_then_ret ?_
  exact fin_names (nx1 := 1) (H1 := [(0, .obj [pS 1 false enc8 ((putV b cl x).2.1), pB ((putV b cl x).2.2)])]) [(0, 0)] (ret_tmp rfl ret_nil) rfl (by decide) ⟨⟨_, _, rfl, rfl, rfl, rfl⟩, trivial⟩ (by decide) rfl ⟨rfl, rfl, rfl⟩
 ·
  have c1_ := c1
  try simp only [sB] at c1
  refine w_skip ?_
  refine q_then ?_
  refine w_seq ?_
  refine w_R ?_
  refine qa hnt rfl rfl ?_
  refine r_end ?_
  refine q_then ?_
  refine w_seq ?_
  refine w_R ?_
  refine qm hnt rfl rfl ?_
  refine qo hnt rfl (s_mkM (f := enc8) ([] : List UInt8) tab_27 rfl tab_5 ⟨rfl, by decide⟩ (by decide) rfl rfl rfl rfl ?_)
  refine qm hnt rfl rfl ?_
  refine qo hnt rfl (s_nilCheck rfl trivial ?_)
  refine qo hnt rfl (s_fa_ptr tab_81 rfl rfl tab_27 (by decide) rfl ?_)
  refine qo hnt rfl (s_load_ptr1 tab_27 rfl rfl rfl rfl rfl ?_)
  refine qo hnt rfl (s_appR0 (f := enc8) (l := ([] : List UInt8)) (xs := b) tab_27 rfl tab_5 ⟨rfl, by decide, by decide⟩ (srcM tab_27 rfl (hM_sl (f := enc8) rfl)) rfl rfl (by first | omega | (simp; omega)) ?_)
  refine qm hnt rfl rfl ?_
  refine qo hnt rfl (s_appR0 (f := enc8) (l := b) (xs := x) tab_27 rfl tab_5 ⟨rfl, by decide, by decide⟩ (srcM tab_27 rfl (hM_sl (f := enc8) rfl)) rfl rfl (by first | omega | (simp; omega)) ?_)
  refine qo hnt rfl (s_nilCheck rfl trivial ?_)
  refine qo hnt rfl (s_fa_ptr tab_81 rfl rfl tab_27 (by decide) rfl ?_)
  refine qo hnt rfl (s_store_ptr tab_27 rfl rfl rfl rfl rfl (Nat.le_of_ble_eq_true rfl) ?_)
  refine r_set [(0, PV.ptr 0 0), (5, pNil)] [(0, .obj [PV.ref 3 0 none, pB cl]), (3, oB true 1 enc8 (b ++ x))] 4 ⟨rfl, rfl, trivial⟩ rfl rfl ?_
  refine r_end ?_
  refine q_then ?_
  refine w_seq ?_
  refine w_block ?_
  refine w_adopt (s := 5) (sz := 3) rfl ?_
  refine w_frzC (n := 0) (j := 0) rfl rfl rfl rfl ?_
  refine w_leC (n := 0) (j := 1) (y := pB false) rfl rfl (le_of_eq (congrArg (fun z : Bool => pB z) (show cl = false by simp_all))) ?_
  refine loop2 (fun (q : List UInt8) (os : List TMsg) => mbGo (b ++ x) = (os ++ (mbGo q).1, (mbGo q).2) ∧ q.length ≤ 28147497671000 ∧ os.length * 8 + q.length ≤ 28147497671000) (fun (q : List UInt8) (os : List TMsg) => [(0, PV.ptr 0 0), (5, PV.ref 1 0 none)]) 2 (fun (q : List UInt8) (os : List TMsg) => [(0, .obj [pS 1 false enc8 q, pB false]), (1, oB true 3 eMsg os)]) (fun (q : List UInt8) (os : List TMsg) => q.length) (b ++ x) (([] : List TMsg)) ?_ ⟨[(0, 0), (1, 4)], by rw [hk]; decide, ⟨⟨_, rfl, rfl, rfl⟩, ⟨_, rfl, rfl, rfl⟩, trivial⟩, ⟨⟨_, _, rfl, rfl, rfl, rfl⟩, ⟨_, _, rfl, rfl, rfl, rfl⟩, trivial⟩, by rw [hk]; decide⟩ ?_
  · exact ⟨by simp, by first | omega | (simp; omega), by first | (simp; omega) | simp⟩
  ·
   intro q os hI
   obtain ⟨hg, hq, hol⟩ := hI
   refine w_seq ?_
   refine w_seq ?_
   refine w_R ?_
   refine qm hnt rfl rfl ?_
   refine qo hnt rfl (s_nilCheck rfl trivial ?_)
   refine qo hnt rfl (s_fa_ptr tab_81 rfl rfl tab_27 (by decide) rfl ?_)
   refine qo hnt rfl (s_load_ptr1 tab_27 rfl rfl rfl rfl rfl ?_)
   refine qo hnt rfl (s_lenM (l := q) tab_27 rfl (hM_sl (f := enc8) rfl) ?_)
   refine qo hnt rfl (s_geq rfl rfl ?_)
   refine r_end ?_
   refine q_then ?_
   refine w_if rfl (fun c2 => ?_) (fun c2 => ?_)
   ·
    have c2_ := c2
    try simp only [sB] at c2
    have hv := getV_head (q := q) (by omega)
    have hn4 := getN_lt q 4
    refine w_skip ?_
    refine q_then ?_
    refine w_block ?_
    refine w_seq ?_
    refine w_R ?_
    refine qm hnt rfl rfl ?_
    refine qo hnt rfl (s_nilCheck rfl trivial ?_)
    refine qo hnt rfl (s_fa_ptr tab_81 rfl rfl tab_27 (by decide) rfl ?_)
    refine qo hnt rfl (s_load_ptr1 tab_27 rfl rfl rfl rfl rfl ?_)
    refine qo hnt rfl (s_callF rfl rfl rfl (w_burgageref1_Get q false 0 (by first | omega | assumption | (simp; omega) | decide | (simp; done)) (by first | omega | assumption | (simp; omega) | decide | (simp; done))) rfl ?_)
    refine qm hnt rfl rfl ?_
    refine qo hnt rfl (s_extract rfl rfl ?_)
    refine qo hnt rfl (s_extract rfl rfl ?_)
    refine qa hnt rfl rfl ?_
    refine qa hnt rfl rfl ?_
    refine r_end ?_
    refine q_then ?_
    refine w_seq ?_
    refine w_R ?_
    refine qm hnt rfl rfl ?_
    refine qo hnt rfl (s_nilCheck rfl trivial ?_)
    refine qo hnt rfl (s_fa_ptr tab_81 rfl rfl tab_27 (by decide) rfl ?_)
    refine qo hnt rfl (s_load_ptr1 tab_27 rfl rfl rfl rfl rfl ?_)
    refine qo hnt rfl (s_callF rfl rfl rfl (w_burgageref1_Get q false 2 (by first | omega | assumption | (simp; omega) | decide | (simp; done)) (by first | omega | assumption | (simp; omega) | decide | (simp; done))) rfl ?_)
    refine qm hnt rfl rfl ?_
    refine qo hnt rfl (s_extract rfl rfl ?_)
    refine qo hnt rfl (s_extract rfl rfl ?_)
    refine qa hnt rfl rfl ?_
    refine qa hnt rfl rfl ?_
    refine r_end ?_
    refine q_then ?_
    refine w_seq ?_
    refine w_R ?_
    refine qm hnt rfl rfl ?_
    refine qo hnt rfl (s_nilCheck rfl trivial ?_)
    refine qo hnt rfl (s_fa_ptr tab_81 rfl rfl tab_27 (by decide) rfl ?_)
    refine qo hnt rfl (s_load_ptr1 tab_27 rfl rfl rfl rfl rfl ?_)
    refine qo hnt rfl (s_callF rfl rfl rfl (w_burgageref1_Get q false 4 (by first | omega | assumption | (simp; omega) | decide | (simp; done)) (by first | omega | assumption | (simp; omega) | decide | (simp; done))) rfl ?_)
    refine qm hnt rfl rfl ?_
    refine qo hnt rfl (s_extract rfl rfl ?_)
    refine qo hnt rfl (s_extract rfl rfl ?_)
    refine qa hnt rfl rfl ?_
    refine qa hnt rfl rfl ?_
    refine r_set [(0, PV.ptr 0 0), (5, PV.ref 1 0 none), (6, pI (getV q 0)), (8, pI (getV q 2)), (10, pI (getV q 4))] [(0, .obj [pS 1 false enc8 q, pB false]), (1, oB true 3 eMsg os)] 2 ⟨rfl, rfl, rfl, rfl, rfl, trivial⟩ rfl rfl ?_
    refine r_end ?_
    refine q_then ?_
    refine w_seq ?_
    refine w_seq ?_
    refine w_R ?_
    refine qm hnt rfl rfl ?_
    refine qo hnt rfl (s_neq rfl rfl ?_)
    refine qm hnt rfl rfl ?_
    refine r_if tabOk hnt rfl rfl rfl (fun g1 => ?_) (fun g1 => ?_)
    ·
     have g1' := g1
     try simp only [sB] at g1'
     refine qm hnt rfl rfl ?_
     refine ry hnt rfl rfl rfl g1 ?_
     refine qo hnt rfl (s_lss rfl rfl ?_)
     refine qo hnt rfl (s_pick_f rfl g1 rfl ?_)
     refine qm hnt rfl rfl ?_
     refine r_if tabOk hnt rfl rfl rfl (fun g2 => ?_) (fun g2 => ?_)
     ·
      have g2' := g2
      try simp only [sB] at g2'
      refine qm hnt rfl rfl ?_
      refine ry hnt rfl rfl rfl g2 ?_
      refine qo hnt rfl (s_gtr rfl rfl ?_)
      refine qo hnt rfl (s_pick_f rfl g2 rfl ?_)
      refine r_end ?_
      refine q_then ?_
      refine w_if rfl (fun c3 => ?_) (fun c3 => ?_)
      ·
       have c3_ := c3
       try simp only [sB] at c3
       refine w_seq ?_
       have hz := mb_bad (b := q) (by omega) (by unfold headBad; apply decide_eq_true; omega)
       rw [hz] at hg
       refine w_R ?_
       refine qm hnt rfl rfl ?_
       refine qm hnt rfl rfl ?_
       refine qo hnt rfl (s_nilCheck rfl trivial ?_)
       refine qo hnt rfl (s_fa_ptr tab_81 rfl rfl tab_27 (by decide) rfl ?_)
       refine qo hnt rfl (s_store_ptr tab_27 rfl rfl rfl rfl rfl (Nat.le_of_ble_eq_true rfl) ?_)
       refine qo hnt rfl (s_nilCheck rfl trivial ?_)
       refine qo hnt rfl (s_fa_ptr tab_81 rfl rfl tab_4 (by decide) rfl ?_)
       refine qo hnt rfl (s_store_ptr tab_4 rfl rfl rfl rfl rfl (Nat.le_of_ble_eq_true rfl) ?_)
       refine r_set [(5, PV.ref 1 0 none)] [(0, .obj [pNil, pB true]), (1, oB true 3 eMsg os)] 2 ⟨rfl, trivial⟩ rfl rfl ?_
       refine r_end ?_
       refine q_then ?_
       refine w_seq ?_
       refine w_R ?_
       refine qm hnt rfl rfl ?_
       refine qa hnt rfl rfl ?_
       refine r_end ?_
       refine q_then ?_
       refine w_frzM (s := 4) (f := eMsg) rfl rfl view_0 ?_
       refine w_le (s := 4) (y := pS 3 false eMsg ((putV b cl x).1)) rfl (le_of_eq (congrArg (fun z => pS 3 false eMsg z) (show os = ((putV b cl x).1) by first | (simp [putV, c1]; done) | (simp [putV, c1, hg]; done)))) ?_
       refine w_leC (n := 0) (j := 0) (y := pS 1 false enc8 []) rfl rfl (le_nilS 1 false) ?_
       refine w_leC (n := 0) (j := 0) (y := pS 1 false enc8 ((putV b cl x).2.1)) rfl rfl (le_of_eq (congrArg (fun z => pS 1 false enc8 z) (show [] = ((putV b cl x).2.1) by first | (simp [putV, c1]; done) | (simp [putV, c1, hg]; done)))) ?_
       refine w_leC (n := 0) (j := 1) (y := pB ((putV b cl x).2.2)) rfl rfl (le_of_eq (congrArg (fun z : Bool => pB z) (show true = ((putV b cl x).2.2) by first | (simp [putV, c1]; done) | (simp [putV, c1, hg]; done)))) ?_
       refine w_ret ?_
       refine q_then_ret ?_
       refine q_block_ret ?_
       refine q_then_ret ?_
       refine q_block_ret ?_
       refine q_then_ret ?_
       exact fin_names (nx1 := 1) (H1 := [(0, .obj [pS 1 false enc8 ((putV b cl x).2.1), pB ((putV b cl x).2.2)])]) [(0, 0)] (ret_tmp rfl ret_nil) rfl (by decide) ⟨⟨_, _, rfl, rfl, rfl, rfl⟩, trivial⟩ (by decide) rfl ⟨rfl, rfl, rfl⟩
      ·
       have c3_ := c3
       try simp only [sB] at c3
       refine w_skip ?_
       refine q_then ?_
       refine w_seq ?_
       refine w_seq ?_
       have hok : headBad q = false := by unfold headBad; apply decide_eq_false; omega
       refine w_R ?_
       refine qm hnt rfl rfl ?_
       refine qo hnt rfl (s_nilCheck rfl trivial ?_)
       refine qo hnt rfl (s_fa_ptr tab_81 rfl rfl tab_27 (by decide) rfl ?_)
       refine qo hnt rfl (s_load_ptr1 tab_27 rfl rfl rfl rfl rfl ?_)
       refine qo hnt rfl (s_lenM (l := q) tab_27 rfl (hM_sl (f := enc8) rfl) ?_)
       refine qm hnt rfl rfl ?_
       refine qo hnt rfl (s_addi (r := 6 + (getV q 4)) rfl rfl rfl (by omega) ?_)
       refine qo hnt rfl (s_lss rfl rfl ?_)
       refine r_end ?_
       refine q_then ?_
       refine w_if rfl (fun c4 => ?_) (fun c4 => ?_)
       ·
        have c4_ := c4
        try simp only [sB] at c4
        have hz := mb_waits (b := q) (by omega) hok (by omega)
        rw [hz] at hg
        refine w_seq ?_
        refine w_R ?_
        refine qm hnt rfl rfl ?_
        refine qa hnt rfl rfl ?_
        refine r_end ?_
        refine q_then ?_
        refine w_frzM (s := 4) (f := eMsg) rfl rfl view_0 ?_
        refine w_le (s := 4) (y := pS 3 false eMsg ((putV b cl x).1)) rfl (le_of_eq (congrArg (fun z => pS 3 false eMsg z) (show os = ((putV b cl x).1) by first | (simp [putV, c1]; done) | (simp [putV, c1, hg]; done)))) ?_
        refine w_leC (n := 0) (j := 0) (y := pS 1 false enc8 ((putV b cl x).2.1)) rfl rfl (le_of_eq (congrArg (fun z => pS 1 false enc8 z) (show q = ((putV b cl x).2.1) by first | (simp [putV, c1]; done) | (simp [putV, c1, hg]; done)))) ?_
        refine w_leC (n := 0) (j := 1) (y := pB ((putV b cl x).2.2)) rfl rfl (le_of_eq (congrArg (fun z : Bool => pB z) (show false = ((putV b cl x).2.2) by first | (simp [putV, c1]; done) | (simp [putV, c1, hg]; done)))) ?_
        refine w_ret ?_
        refine q_then_ret ?_
        refine q_block_ret ?_
        refine q_then_ret ?_
        refine q_block_ret ?_
        refine q_then_ret ?_
        exact fin_names (nx1 := 1) (H1 := [(0, .obj [pS 1 false enc8 ((putV b cl x).2.1), pB ((putV b cl x).2.2)])]) [(0, 0)] (ret_tmp rfl ret_nil) rfl (by decide) ⟨⟨_, _, rfl, rfl, rfl, rfl⟩, trivial⟩ (by decide) rfl ⟨rfl, rfl, rfl⟩
       ·
        have c4_ := c4
        try simp only [sB] at c4
        refine w_skip ?_
        refine q_then ?_
        refine w_seq ?_
        refine W_drawn tabOk mixed hnt [[], [], [], [2], [2, 3], [2, 3, 4], [2, 3, 4, 5], [2, 3, 4, 5, 6], [2, 3, 4, 5, 6, 7], [], [], [10], [10, 11], [10, 11, 12], [], [14], [10, 11, 12, 13, 14, 15], [9, 10, 11, 12, 13, 14, 15, 16], [1, 2, 3, 4, 5, 6, 7, 8, 9, 10, 11, 12, 13, 14, 15, 16, 17], [1, 2, 3, 4, 5, 6, 7, 8, 9, 10, 11, 12, 13, 14, 15, 16, 17, 18], [0, 1, 2, 3, 4, 5, 6, 7, 8, 9, 10, 11, 12, 13, 14, 15, 16, 17, 18, 19], [0, 1, 2, 3, 4, 5, 6, 7, 8, 9, 10, 11, 12, 13, 14, 15, 16, 17, 18, 19, 20]] (by kernel_rfl) ?_
        refine d_op ?_
        refine x_run0 [(5, PV.ref 1 0 none)] [] rfl rfl rfl rfl (s_move rfl ⟨rfl, rfl, rfl⟩) ?_
        refine d_op ?_
        refine x_run0 [(6, pI (getV q 0))] [] rfl rfl rfl rfl (s_move rfl ⟨rfl, rfl, rfl⟩) ?_
        refine d_op ?_
        refine x_run0 [(0, PV.ptr 0 0)] [] rfl rfl rfl rfl (s_move rfl ⟨rfl, rfl, rfl⟩) ?_
        refine d_op ?_
        refine x_run0 [(85, PV.ptr 0 0)] [2] rfl rfl rfl rfl (s_nilCheck rfl trivial ⟨rfl, rfl, rfl⟩) ?_
        refine d_op ?_
        refine x_run0 [(86, PV.ptr 0 0)] [2, 3] rfl rfl rfl rfl (s_fa_ptr tab_81 rfl rfl tab_27 (by decide) rfl ⟨rfl, rfl, rfl⟩) ?_
        refine d_op ?_
        refine x_run [(87, PV.ptr 0 0)] [2, 3, 4] [(0, .obj [pS 1 false enc8 q, pB false])] [] [(0, .obj [pS 1 false enc8 q, pB false])] [] [(0, .obj [pS 1 false enc8 q, pB false]), (1, oB true 3 eMsg os)] rfl rfl rfl rfl rfl rfl (s_load_ptr1 tab_27 rfl rfl rfl rfl rfl ⟨rfl, rfl, rfl⟩) rfl ⟨rfl, trivial⟩ rfl rfl ?_
        refine d_op ?_
        obtain ⟨e1, he1⟩ := get_of_lt q (i := 6) (by omega)
        refine x_run0 [(88, pS 1 false enc8 q)] [2, 3, 4, 5] rfl rfl rfl rfl (s_iaM (q := 6) (b := e1) (f := enc8) tab_27 rfl tab_5 rfl rfl (by omega) rfl he1 ⟨rfl, rfl, rfl⟩) ?_
        refine d_op ?_
        refine x_run0 [(89, PV.f (.ro (enc8 e1)))] [2, 3, 4, 5, 6] rfl rfl rfl rfl (s_load_ro1 tab_5 rfl rfl rfl rfl ⟨rfl, rfl, rfl⟩) ?_
        refine d_op ?_
        refine x_run0 [(90, p8 e1)] [2, 3, 4, 5, 6, 7] rfl rfl rfl rfl (s_cvN (a := UInt8.toNat e1) tab_5 tab_3 rfl rfl rfl (by omega) (by have := lt8 e1; omega) ⟨rfl, rfl, rfl⟩) ?_
        refine d_op ?_
        refine x_run [] [] [] [] [(2, oB true 1 enc8 ([] : List UInt8))] [(2, oB true 1 enc8 ([] : List UInt8))] [(2, oB true 1 enc8 ([] : List UInt8)), (0, .obj [pS 1 false enc8 q, pB false]), (1, oB true 3 eMsg os)] rfl rfl rfl rfl rfl rfl (s_mkM (f := enc8) ([] : List UInt8) tab_27 rfl tab_5 ⟨rfl, by decide⟩ (by decide) rfl rfl rfl rfl ⟨rfl, rfl, rfl⟩) rfl trivial rfl rfl ?_
        refine d_op ?_
        refine x_run0 [(0, PV.ptr 0 0)] [] rfl rfl rfl rfl (s_move rfl ⟨rfl, rfl, rfl⟩) ?_
        refine d_op ?_
        refine x_run0 [(93, PV.ptr 0 0)] [10] rfl rfl rfl rfl (s_nilCheck rfl trivial ⟨rfl, rfl, rfl⟩) ?_
        refine d_op ?_
        refine x_run0 [(94, PV.ptr 0 0)] [10, 11] rfl rfl rfl rfl (s_fa_ptr tab_81 rfl rfl tab_27 (by decide) rfl ⟨rfl, rfl, rfl⟩) ?_
        refine d_op ?_
        refine x_run [(95, PV.ptr 0 0)] [10, 11, 12] [(0, .obj [pS 1 false enc8 q, pB false])] [] [(0, .obj [pS 1 false enc8 q, pB false])] [] [(2, oB true 1 enc8 ([] : List UInt8)), (0, .obj [pS 1 false enc8 q, pB false]), (1, oB true 3 eMsg os)] rfl rfl rfl rfl rfl rfl (s_load_ptr1 tab_27 rfl rfl rfl rfl rfl ⟨rfl, rfl, rfl⟩) rfl ⟨rfl, trivial⟩ rfl rfl ?_
        refine d_op ?_
        refine x_run0 [(10, pI (getV q 4))] [] rfl rfl rfl rfl (s_move rfl ⟨rfl, rfl, rfl⟩) ?_
        refine d_op ?_
        refine x_run0 [(97, pI (getV q 4))] [14] rfl rfl rfl rfl (s_addi (r := 6 + (getV q 4)) rfl rfl rfl (by omega) ⟨rfl, rfl, rfl⟩) ?_
        refine d_op ?_
        refine x_run0 [(96, pS 1 false enc8 q), (98, pI (6 + (getV q 4)))] [10, 11, 12, 13, 14, 15] rfl rfl rfl rfl (s_cutM (a := 7) (b := Int.toNat (6 + (getV q 4))) (f := enc8) (l := q) tab_27 rfl tab_5 ⟨rfl, by decide⟩ rfl (bound_some rfl (by omega)) (bound_some rfl (by omega)) (by omega) ⟨rfl, rfl, rfl⟩) ?_
        refine d_op ?_
        refine x_run [(92, PV.ref 2 0 none), (99, pS 1 false enc8 ((q.take (Int.toNat (6 + (getV q 4)))).drop 7))] [9, 10, 11, 12, 13, 14, 15, 16] [] [(2, oB true 1 enc8 ([] : List UInt8))] [(3, oB true 1 enc8 ((q.take (Int.toNat (6 + (getV q 4)))).drop 7))] [(3, oB true 1 enc8 ((q.take (Int.toNat (6 + (getV q 4)))).drop 7))] [(3, oB true 1 enc8 ((q.take (Int.toNat (6 + (getV q 4)))).drop 7)), (0, .obj [pS 1 false enc8 q, pB false]), (1, oB true 3 eMsg os)] rfl rfl rfl rfl rfl rfl (s_appR0 (f := enc8) (l := ([] : List UInt8)) (xs := (q.take (Int.toNat (6 + (getV q 4)))).drop 7) tab_27 rfl tab_5 ⟨rfl, by decide, by decide⟩ (srcM tab_27 rfl (hM_sl (f := enc8) rfl)) rfl rfl (by first | omega | (simp; omega)) ⟨rfl, rfl, rfl⟩) rfl trivial rfl rfl ?_
        refine d_op ?_
        refine x_run0 [(84, pI (getV q 0)), (91, pN (UInt8.toNat e1)), (100, PV.ref 3 0 none)] [1, 2, 3, 4, 5, 6, 7, 8, 9, 10, 11, 12, 13, 14, 15, 16, 17] rfl rfl rfl rfl (s_build tab_33 rfl rfl (b_cons rfl tab_3 rfl rfl rfl (Nat.le_of_ble_eq_true rfl) (b_cons rfl tab_3 rfl rfl rfl (Nat.le_of_ble_eq_true rfl) (b_cons rfl tab_27 rfl rfl rfl (Nat.le_of_ble_eq_true rfl) (b_nil ⟨rfl, rfl, rfl⟩))))) ?_
        refine d_op ?_
        refine x_run [(101, PV.agg [pI (getV q 0), pN (UInt8.toNat e1), PV.ref 3 0 none])] [1, 2, 3, 4, 5, 6, 7, 8, 9, 10, 11, 12, 13, 14, 15, 16, 17, 18] [] [(3, oB true 1 enc8 ((q.take (Int.toNat (6 + (getV q 4)))).drop 7))] [(4, oB true 3 eMsg [(⟨getV q 0, ((UInt8.toNat e1 : Nat) : Int), (q.take (Int.toNat (6 + (getV q 4)))).drop 7⟩ : TMsg)]), (3, oB false 1 enc8 ((q.take (Int.toNat (6 + (getV q 4)))).drop 7))] [(4, oB true 3 eMsg [(⟨getV q 0, ((UInt8.toNat e1 : Nat) : Int), (q.take (Int.toNat (6 + (getV q 4)))).drop 7⟩ : TMsg)]), (3, oB false 1 enc8 ((q.take (Int.toNat (6 + (getV q 4)))).drop 7))] [(4, oB true 3 eMsg [(⟨getV q 0, ((UInt8.toNat e1 : Nat) : Int), (q.take (Int.toNat (6 + (getV q 4)))).drop 7⟩ : TMsg)]), (3, oB false 1 enc8 ((q.take (Int.toNat (6 + (getV q 4)))).drop 7)), (0, .obj [pS 1 false enc8 q, pB false]), (1, oB true 3 eMsg os)] rfl rfl rfl rfl rfl rfl (s_mkM (f := eMsg) [(⟨getV q 0, ((UInt8.toNat e1 : Nat) : Int), (q.take (Int.toNat (6 + (getV q 4)))).drop 7⟩ : TMsg)] tab_83 rfl tab_33 ⟨rfl, by decide⟩ (by decide) rfl rfl rfl rfl ⟨rfl, rfl, rfl⟩) rfl trivial rfl rfl ?_
        refine d_op ?_
        refine x_run [(83, PV.ref 1 0 none), (102, PV.ref 4 0 none)] [0, 1, 2, 3, 4, 5, 6, 7, 8, 9, 10, 11, 12, 13, 14, 15, 16, 17, 18, 19] [(4, oB true 3 eMsg [(⟨getV q 0, ((UInt8.toNat e1 : Nat) : Int), (q.take (Int.toNat (6 + (getV q 4)))).drop 7⟩ : TMsg)])] [(1, oB true 3 eMsg os)] [(5, oB true 3 eMsg (os ++ [(⟨getV q 0, ((UInt8.toNat e1 : Nat) : Int), (q.take (Int.toNat (6 + (getV q 4)))).drop 7⟩ : TMsg)])), (4, oB true 3 eMsg [(⟨getV q 0, ((UInt8.toNat e1 : Nat) : Int), (q.take (Int.toNat (6 + (getV q 4)))).drop 7⟩ : TMsg)])] [(5, oB true 3 eMsg (os ++ [(⟨getV q 0, ((UInt8.toNat e1 : Nat) : Int), (q.take (Int.toNat (6 + (getV q 4)))).drop 7⟩ : TMsg)]))] [(5, oB true 3 eMsg (os ++ [(⟨getV q 0, ((UInt8.toNat e1 : Nat) : Int), (q.take (Int.toNat (6 + (getV q 4)))).drop 7⟩ : TMsg)])), (4, oB true 3 eMsg [(⟨getV q 0, ((UInt8.toNat e1 : Nat) : Int), (q.take (Int.toNat (6 + (getV q 4)))).drop 7⟩ : TMsg)]), (3, oB false 1 enc8 ((q.take (Int.toNat (6 + (getV q 4)))).drop 7)), (0, .obj [pS 1 false enc8 q, pB false])] rfl rfl rfl rfl rfl rfl (s_appR0 (f := eMsg) (l := os) (xs := [(⟨getV q 0, ((UInt8.toNat e1 : Nat) : Int), (q.take (Int.toNat (6 + (getV q 4)))).drop 7⟩ : TMsg)]) tab_83 rfl tab_33 ⟨rfl, by decide, by decide⟩ (srcM tab_83 rfl (hM_ref0 (f := eMsg) rfl rfl)) rfl rfl (by first | omega | (simp; omega)) ⟨rfl, rfl, rfl⟩) rfl ⟨rfl, trivial⟩ rfl rfl ?_
        refine d_op ?_
        refine x_run0 [(103, PV.ref 5 0 none)] [0, 1, 2, 3, 4, 5, 6, 7, 8, 9, 10, 11, 12, 13, 14, 15, 16, 17, 18, 19, 20] rfl rfl rfl rfl (s_assign rfl ⟨rfl, rfl, rfl⟩) ?_
        refine d_end ⟨by kernel_rfl, ?_⟩
        refine q_then ?_
        refine w_R ?_
        refine qm hnt rfl rfl ?_
        refine qo hnt rfl (s_mkM (f := enc8) ([] : List UInt8) tab_27 rfl tab_5 ⟨rfl, by decide⟩ (by decide) rfl rfl rfl rfl ?_)
        refine qm hnt rfl rfl ?_
        refine qo hnt rfl (s_nilCheck rfl trivial ?_)
        refine qo hnt rfl (s_fa_ptr tab_81 rfl rfl tab_27 (by decide) rfl ?_)
        refine qo hnt rfl (s_load_ptr1 tab_27 rfl rfl rfl rfl rfl ?_)
        refine qm hnt rfl rfl ?_
        refine qo hnt rfl (s_addi (r := 6 + (getV q 4)) rfl rfl rfl (by omega) ?_)
        refine qo hnt rfl (s_cutM_lo (a := Int.toNat (6 + (getV q 4))) (f := enc8) (l := q) tab_27 rfl tab_5 ⟨rfl, by decide⟩ rfl (bound_some rfl (by omega)) (by omega) ?_)
        refine qo hnt rfl (s_appR0 (f := enc8) (l := ([] : List UInt8)) (xs := q.drop (Int.toNat (6 + (getV q 4)))) tab_27 rfl tab_5 ⟨rfl, by decide, by decide⟩ (srcM tab_27 rfl (hM_sl (f := enc8) rfl)) rfl rfl (by first | omega | (simp; omega)) ?_)
        refine qo hnt rfl (s_nilCheck rfl trivial ?_)
        refine qo hnt rfl (s_fa_ptr tab_81 rfl rfl tab_27 (by decide) rfl ?_)
        refine qo hnt rfl (s_store_ptr tab_27 rfl rfl rfl rfl rfl (Nat.le_of_ble_eq_true rfl) ?_)
        refine r_frzC (n := 0) (j := 0) rfl rfl rfl rfl ?_
        refine r_end ?_
        refine q_block ?_
        refine q_then ?_
        refine ⟨(q.drop (Int.toNat (6 + (getV q 4)))), (os ++ [(⟨getV q 0, ((UInt8.toNat e1 : Nat) : Int), (q.take (Int.toNat (6 + (getV q 4)))).drop 7⟩ : TMsg)]), ?_, ?_, ⟨[(0, 0), (1, 5)], by rw [hk]; decide, ⟨⟨_, rfl, rfl, rfl⟩, ⟨_, rfl, rfl, rfl⟩, trivial⟩, ⟨⟨_, _, rfl, rfl, rfl, rfl⟩, ⟨_, _, rfl, rfl, rfl, rfl⟩, trivial⟩, by rw [hk]; decide⟩⟩
        ·
         refine ⟨?_, by rw [List.length_drop]; omega, by rw [List.length_drop, List.length_append, List.length_singleton]; omega⟩
         have hnx := mb_next (by omega) hok (by omega) he1 hg
         rw [Nat.zero_add] at hnx
         first | exact hnx | (rw [Nat.zero_add]; exact hnx)
        · rw [List.length_drop]; omega
     ·
      have g2' := g2
      try simp only [sB] at g2'
      refine rn hnt rfl rfl rfl g2 ?_
      refine qo hnt rfl (s_pick_t rfl g2 rfl ?_)
      refine r_end ?_
      refine q_then ?_
      refine w_if rfl (fun _ => ?_) (fun e => absurd e (by decide))
      refine w_seq ?_
      have hz := mb_bad (b := q) (by omega) (by unfold headBad; apply decide_eq_true; omega)
      rw [hz] at hg
      refine w_R ?_
      refine qm hnt rfl rfl ?_
      refine qm hnt rfl rfl ?_
      refine qo hnt rfl (s_nilCheck rfl trivial ?_)
      refine qo hnt rfl (s_fa_ptr tab_81 rfl rfl tab_27 (by decide) rfl ?_)
      refine qo hnt rfl (s_store_ptr tab_27 rfl rfl rfl rfl rfl (Nat.le_of_ble_eq_true rfl) ?_)
      refine qo hnt rfl (s_nilCheck rfl trivial ?_)
      refine qo hnt rfl (s_fa_ptr tab_81 rfl rfl tab_4 (by decide) rfl ?_)
      refine qo hnt rfl (s_store_ptr tab_4 rfl rfl rfl rfl rfl (Nat.le_of_ble_eq_true rfl) ?_)
      refine r_set [(5, PV.ref 1 0 none)] [(0, .obj [pNil, pB true]), (1, oB true 3 eMsg os)] 2 ⟨rfl, trivial⟩ rfl rfl ?_
      refine r_end ?_
      refine q_then ?_
      refine w_seq ?_
      refine w_R ?_
      refine qm hnt rfl rfl ?_
      refine qa hnt rfl rfl ?_
      refine r_end ?_
      refine q_then ?_
      refine w_frzM (s := 4) (f := eMsg) rfl rfl view_0 ?_
      refine w_le (s := 4) (y := pS 3 false eMsg ((putV b cl x).1)) rfl (le_of_eq (congrArg (fun z => pS 3 false eMsg z) (show os = ((putV b cl x).1) by first | (simp [putV, c1]; done) | (simp [putV, c1, hg]; done)))) ?_
      refine w_leC (n := 0) (j := 0) (y := pS 1 false enc8 []) rfl rfl (le_nilS 1 false) ?_
      refine w_leC (n := 0) (j := 0) (y := pS 1 false enc8 ((putV b cl x).2.1)) rfl rfl (le_of_eq (congrArg (fun z => pS 1 false enc8 z) (show [] = ((putV b cl x).2.1) by first | (simp [putV, c1]; done) | (simp [putV, c1, hg]; done)))) ?_
      refine w_leC (n := 0) (j := 1) (y := pB ((putV b cl x).2.2)) rfl rfl (le_of_eq (congrArg (fun z : Bool => pB z) (show true = ((putV b cl x).2.2) by first | (simp [putV, c1]; done) | (simp [putV, c1, hg]; done)))) ?_
      refine w_ret ?_
      refine q_then_ret ?_
      refine q_block_ret ?_
      refine q_then_ret ?_
      refine q_block_ret ?_
      refine q_then_ret ?_
      exact fin_names (nx1 := 1) (H1 := [(0, .obj [pS 1 false enc8 ((putV b cl x).2.1), pB ((putV b cl x).2.2)])]) [(0, 0)] (ret_tmp rfl ret_nil) rfl (by decide) ⟨⟨_, _, rfl, rfl, rfl, rfl⟩, trivial⟩ (by decide) rfl ⟨rfl, rfl, rfl⟩
    ·
     have g1' := g1
     try simp only [sB] at g1'
     refine rn hnt rfl rfl rfl g1 ?_
     refine qo hnt rfl (s_pick_t rfl g1 rfl ?_)
     refine qm hnt rfl rfl ?_
     refine rn hnt rfl rfl rfl rfl ?_
     refine rn hnt rfl rfl rfl rfl ?_
     refine qo hnt rfl (s_pick_t rfl rfl rfl ?_)
     refine r_end ?_
     refine q_then ?_
     refine w_if rfl (fun _ => ?_) (fun e => absurd e (by decide))
     refine w_seq ?_
     have hz := mb_bad (b := q) (by omega) (by unfold headBad; apply decide_eq_true; omega)
     rw [hz] at hg
     refine w_R ?_
     refine qm hnt rfl rfl ?_
     refine qm hnt rfl rfl ?_
     refine qo hnt rfl (s_nilCheck rfl trivial ?_)
     refine qo hnt rfl (s_fa_ptr tab_81 rfl rfl tab_27 (by decide) rfl ?_)
     refine qo hnt rfl (s_store_ptr tab_27 rfl rfl rfl rfl rfl (Nat.le_of_ble_eq_true rfl) ?_)
     refine qo hnt rfl (s_nilCheck rfl trivial ?_)
     refine qo hnt rfl (s_fa_ptr tab_81 rfl rfl tab_4 (by decide) rfl ?_)
     refine qo hnt rfl (s_store_ptr tab_4 rfl rfl rfl rfl rfl (Nat.le_of_ble_eq_true rfl) ?_)
     refine r_set [(5, PV.ref 1 0 none)] [(0, .obj [pNil, pB true]), (1, oB true 3 eMsg os)] 2 ⟨rfl, trivial⟩ rfl rfl ?_
     refine r_end ?_
     refine q_then ?_
     refine w_seq ?_
     refine w_R ?_
     refine qm hnt rfl rfl ?_
     refine qa hnt rfl rfl ?_
     refine r_end ?_
     refine q_then ?_
     refine w_frzM (s := 4) (f := eMsg) rfl rfl view_0 ?_
     refine w_le (s := 4) (y := pS 3 false eMsg ((putV b cl x).1)) rfl (le_of_eq (congrArg (fun z => pS 3 false eMsg z) (show os = ((putV b cl x).1) by first | (simp [putV, c1]; done) | (simp [putV, c1, hg]; done)))) ?_
     refine w_leC (n := 0) (j := 0) (y := pS 1 false enc8 []) rfl rfl (le_nilS 1 false) ?_
     refine w_leC (n := 0) (j := 0) (y := pS 1 false enc8 ((putV b cl x).2.1)) rfl rfl (le_of_eq (congrArg (fun z => pS 1 false enc8 z) (show [] = ((putV b cl x).2.1) by first | (simp [putV, c1]; done) | (simp [putV, c1, hg]; done)))) ?_
     refine w_leC (n := 0) (j := 1) (y := pB ((putV b cl x).2.2)) rfl rfl (le_of_eq (congrArg (fun z : Bool => pB z) (show true = ((putV b cl x).2.2) by first | (simp [putV, c1]; done) | (simp [putV, c1, hg]; done)))) ?_
     refine w_ret ?_
     refine q_then_ret ?_
     refine q_block_ret ?_
     refine q_then_ret ?_
     refine q_block_ret ?_
     refine q_then_ret ?_
     exact fin_names (nx1 := 1) (H1 := [(0, .obj [pS 1 false enc8 ((putV b cl x).2.1), pB ((putV b cl x).2.2)])]) [(0, 0)] (ret_tmp rfl ret_nil) rfl (by decide) ⟨⟨_, _, rfl, rfl, rfl, rfl⟩, trivial⟩ (by decide) rfl ⟨rfl, rfl, rfl⟩
   ·
    have c2_ := c2
    try simp only [sB] at c2
    have hz := mb_short (b := q) (by omega)
    rw [hz] at hg
    refine w_exit ?_
    refine q_then_exit ?_
    refine q_then_exit ?_
    refine q_block_exit ?_
    refine q_then ?_
    refine w_seq ?_
    refine w_R ?_
    refine qm hnt rfl rfl ?_
    refine qa hnt rfl rfl ?_
    refine r_end ?_
    refine q_then ?_
    refine w_frzM (s := 4) (f := eMsg) rfl rfl view_0 ?_
    refine w_le (s := 4) (y := pS 3 false eMsg ((putV b cl x).1)) rfl (le_of_eq (congrArg (fun z => pS 3 false eMsg z) (show os = ((putV b cl x).1) by first | (simp [putV, c1]; done) | (simp [putV, c1, hg]; done)))) ?_
    refine w_leC (n := 0) (j := 0) (y := pS 1 false enc8 ((putV b cl x).2.1)) rfl rfl (le_of_eq (congrArg (fun z => pS 1 false enc8 z) (show q = ((putV b cl x).2.1) by first | (simp [putV, c1]; done) | (simp [putV, c1, hg]; done)))) ?_
    refine w_leC (n := 0) (j := 1) (y := pB ((putV b cl x).2.2)) rfl rfl (le_of_eq (congrArg (fun z : Bool => pB z) (show false = ((putV b cl x).2.2) by first | (simp [putV, c1]; done) | (simp [putV, c1, hg]; done)))) ?_
    refine w_ret ?_
    exact fin_names (nx1 := 1) (H1 := [(0, .obj [pS 1 false enc8 ((putV b cl x).2.1), pB ((putV b cl x).2.2)])]) [(0, 0)] (ret_tmp rfl ret_nil) rfl (by decide) ⟨⟨_, _, rfl, rfl, rfl, rfl⟩, trivial⟩ (by decide) rfl ⟨rfl, rfl, rfl⟩
theorem w_burgagelaw6_msgs (a : List TMsg) (cl1 : Bool) (cl2 : Bool) (ha : a.length ≤ 140737488351232) :
    T Try.prog 48 [pS 3 cl1 eMsg a, pS 3 cl2 eMsg a] 0 [] (Ret (pB true) 0 []) := by
 refine t_fun tabOk (n := 56) (rs := [.tmp 4]) Try.func48 rfl rfl rfl rfl (Nat.le_of_ble_eq_true rfl) ?_
 intro c hnt hk
 refine w_seq ?_
 refine w_R ?_
 refine qa hnt rfl rfl ?_
 refine r_end ?_
 refine q_then ?_
 refine w_seq ?_
 refine w_seq ?_
 refine w_R ?_
 refine qm hnt rfl rfl ?_
 refine qo hnt rfl (s_lenM (l := a) tab_39 rfl (hM_sl (f := eMsg) rfl) ?_)
 refine qm hnt rfl rfl ?_
 refine qo hnt rfl (s_lenM (l := a) tab_83 rfl (hM_sl (f := eMsg) rfl) ?_)
 refine qo hnt rfl (s_neq rfl rfl ?_)
 refine r_end ?_
 refine q_then ?_
 refine w_if rfl (fun c1 => ?_) (fun c1 => ?_)
 ·
  have c1_ := c1
  exact absurd c1 (by simp)
 ·
  have c1_ := c1
  try simp only [sB] at c1
  refine w_skip ?_
  refine q_then ?_
  refine w_seq ?_
  refine w_seq ?_
  refine w_R ?_
  refine qm hnt rfl rfl ?_
  refine qo hnt rfl (s_lenM (l := a) tab_39 rfl (hM_sl (f := eMsg) rfl) ?_)
  refine qm hnt rfl rfl ?_
  refine r_end ?_
  refine q_then ?_
  refine w_block ?_
  refine loop1 (fun (i : Nat) => i ≤ a.length) (fun (i : Nat) => [(0, pS 3 cl1 eMsg a), (1, pS 3 cl2 eMsg a), (12, pN a.length), (13, pN i)]) 0 (fun (i : Nat) => []) (fun (i : Nat) => a.length - i) (0) ?_ ⟨[], rfl, ⟨⟨_, rfl, rfl, rfl⟩, ⟨_, rfl, rfl, rfl⟩, ⟨_, rfl, rfl, rfl⟩, ⟨_, rfl, rfl, rfl⟩, trivial⟩, trivial, by rw [hk]; decide⟩ ?_
  · omega
  ·
   intro i hI
   refine w_seq ?_
   refine w_R ?_
   refine qo hnt rfl (s_lss rfl rfl ?_)
   refine r_end ?_
   refine q_then ?_
   refine w_seq ?_
   refine w_if rfl (fun c2 => ?_) (fun c2 => ?_)
   ·
    have c2_ := c2
    try simp only [sB] at c2
    refine w_skip ?_
    refine q_then ?_
    refine w_seq ?_
    refine w_block ?_
    refine w_seq ?_
    refine w_R ?_
    refine qm hnt rfl rfl ?_
    refine qa hnt rfl rfl ?_
    refine r_end ?_
    refine q_then ?_
    refine w_seq ?_
    refine W_drawn tabOk mixed hnt [[], [], [0, 1], [0, 1, 2], [0, 1, 2, 3], [], [], [5, 6], [5, 6, 7], [5, 6, 7, 8], [0, 1, 2, 3, 4, 5, 6, 7, 8, 9], [0, 1, 2, 3, 4, 5, 6, 7, 8, 9, 10], [0, 1, 2, 3, 4, 5, 6, 7, 8, 9, 10, 11], [0, 1, 2, 3, 4, 5, 6, 7, 8, 9, 10, 11], [0, 1, 2, 3, 4, 5, 6, 7, 8, 9, 10, 11, 12, 13], [0, 1, 2, 3, 4, 5, 6, 7, 8, 9, 10, 11, 12, 13, 14], [0, 1, 2, 3, 4, 5, 6, 7, 8, 9, 10, 11, 12, 13, 14, 15], [0, 1, 2, 3, 4, 5, 6, 7, 8, 9, 10, 11], [0, 1, 2, 3, 4, 5, 6, 7, 8, 9, 10, 11], [0, 1, 2, 3, 4, 5, 6, 7, 8, 9, 10, 11, 17, 18], [0, 1, 2, 3, 4, 5, 6, 7, 8, 9, 10, 11, 17, 18, 19], [0, 1, 2, 3, 4, 5, 6, 7, 8, 9, 10, 11, 17, 18, 19, 20], [0, 1, 2, 3, 4, 5, 6, 7, 8, 9, 10, 11, 12, 13, 14, 15, 16, 17, 18, 19, 20, 21], [0, 1, 2, 3, 4, 5, 6, 7, 8, 9, 10, 11, 12, 13, 14, 15, 16, 17, 18, 19, 20, 21, 22], [0, 1, 2, 3, 4, 5, 6, 7, 8, 9, 10, 11, 12, 13, 14, 15, 16, 17, 18, 19, 20, 21, 22, 23], [0, 1, 2, 3, 4, 5, 6, 7, 8, 9, 10, 11, 12, 13, 14, 15, 16, 17, 18, 19, 20, 21, 22, 23, 24], [0, 1, 2, 3, 4, 5, 6, 7, 8, 9, 10, 11, 12, 13, 14, 15, 16, 17, 18, 19, 20, 21, 22, 23, 24], [0, 1, 2, 3, 4, 5, 6, 7, 8, 9, 10, 11, 12, 13, 14, 15, 16, 17, 18, 19, 20, 21, 22, 23, 24, 25, 26], [0, 1, 2, 3, 4, 5, 6, 7, 8, 9, 10, 11, 12, 13, 14, 15, 16, 17, 18, 19, 20, 21, 22, 23, 24, 25, 26, 27], [0, 1, 2, 3, 4, 5, 6, 7, 8, 9, 10, 11, 12, 13, 14, 15, 16, 17, 18, 19, 20, 21, 22, 23, 24, 25, 26, 27, 28], [0, 1, 2, 3, 4, 5, 6, 7, 8, 9, 10, 11, 12, 13, 14, 15, 16, 17, 18, 19, 20, 21, 22, 23, 24, 25, 26, 27, 28, 29], [0, 1, 2, 3, 4, 5, 6, 7, 8, 9, 10, 11, 12, 13, 14, 15, 16, 17, 18, 19, 20, 21, 22, 23, 24], [0, 1, 2, 3, 4, 5, 6, 7, 8, 9, 10, 11, 12, 13, 14, 15, 16, 17, 18, 19, 20, 21, 22, 23, 24], [0, 1, 2, 3, 4, 5, 6, 7, 8, 9, 10, 11, 12, 13, 14, 15, 16, 17, 18, 19, 20, 21, 22, 23, 24, 31, 32], [0, 1, 2, 3, 4, 5, 6, 7, 8, 9, 10, 11, 12, 13, 14, 15, 16, 17, 18, 19, 20, 21, 22, 23, 24, 31, 32, 33], [0, 1, 2, 3, 4, 5, 6, 7, 8, 9, 10, 11, 12, 13, 14, 15, 16, 17, 18, 19, 20, 21, 22, 23, 24, 31, 32, 33, 34], [0, 1, 2, 3, 4, 5, 6, 7, 8, 9, 10, 11, 12, 13, 14, 15, 16, 17, 18, 19, 20, 21, 22, 23, 24, 31, 32, 33, 34, 35], [0, 1, 2, 3, 4, 5, 6, 7, 8, 9, 10, 11, 12, 13, 14, 15, 16, 17, 18, 19, 20, 21, 22, 23, 24, 25, 26, 27, 28, 29, 30, 31, 32, 33, 34, 35, 36], [0, 1, 2, 3, 4, 5, 6, 7, 8, 9, 10, 11, 12, 13, 14, 15, 16, 17, 18, 19, 20, 21, 22, 23, 24, 25, 26, 27, 28, 29, 30, 31, 32, 33, 34, 35, 36, 37]] (by kernel_rfl) ?_
    refine d_op ?_
    refine x_run0 [(0, pS 3 cl1 eMsg a)] [] rfl rfl rfl rfl (s_move rfl ⟨rfl, rfl, rfl⟩) ?_
    refine d_op ?_
    refine x_run0 [(5, pN i)] [] rfl rfl rfl rfl (s_move rfl ⟨rfl, rfl, rfl⟩) ?_
    refine d_op ?_
    obtain ⟨e1, he1⟩ := get_of_lt a (i := i) (by omega)
    refine x_run0 [(16, pS 3 cl1 eMsg a), (17, pN i)] [0, 1] rfl rfl rfl rfl (s_iaM (q := i) (b := e1) (f := eMsg) tab_39 rfl tab_30 rfl rfl (by omega) rfl he1 ⟨rfl, rfl, rfl⟩) ?_
    refine d_op ?_
    refine x_run0 [(18, PV.f (.ro (eMsg e1)))] [0, 1, 2] rfl rfl rfl rfl (s_fa_ro tab_30 rfl rfl tab_3 (by decide) rfl (Nat.le_of_ble_eq_true rfl) (by intro _; rfl) ⟨rfl, rfl, rfl⟩) ?_
    refine d_op ?_
    refine x_run0 [(19, PV.f (.ro (encI e1.id)))] [0, 1, 2, 3] rfl rfl rfl rfl (s_load_ro1 tab_3 rfl rfl rfl rfl ⟨rfl, rfl, rfl⟩) ?_
    refine d_op ?_
    refine x_run0 [(1, pS 3 cl2 eMsg a)] [] rfl rfl rfl rfl (s_move rfl ⟨rfl, rfl, rfl⟩) ?_
    refine d_op ?_
    refine x_run0 [(5, pN i)] [] rfl rfl rfl rfl (s_move rfl ⟨rfl, rfl, rfl⟩) ?_
    refine d_op ?_
    refine x_run0 [(21, pS 3 cl2 eMsg a), (22, pN i)] [5, 6] rfl rfl rfl rfl (s_iaM (q := i) (b := e1) (f := eMsg) tab_83 rfl tab_33 rfl rfl (by omega) rfl he1 ⟨rfl, rfl, rfl⟩) ?_
    refine d_op ?_
    refine x_run0 [(23, PV.f (.ro (eMsg e1)))] [5, 6, 7] rfl rfl rfl rfl (s_fa_ro tab_33 rfl rfl tab_3 (by decide) rfl (Nat.le_of_ble_eq_true rfl) (by intro _; rfl) ⟨rfl, rfl, rfl⟩) ?_
    refine d_op ?_
    refine x_run0 [(24, PV.f (.ro (encI e1.id)))] [5, 6, 7, 8] rfl rfl rfl rfl (s_load_ro1 tab_3 rfl rfl rfl rfl ⟨rfl, rfl, rfl⟩) ?_
    refine d_op ?_
    refine x_run0 [(20, pI e1.id), (25, pI e1.id)] [0, 1, 2, 3, 4, 5, 6, 7, 8, 9] rfl rfl rfl rfl (s_neq rfl rfl ⟨rfl, rfl, rfl⟩) ?_
    refine d_op ?_
    refine x_run0 [(26, pB (!decide (e1.id = e1.id)))] [0, 1, 2, 3, 4, 5, 6, 7, 8, 9, 10] rfl rfl rfl rfl (s_move rfl ⟨rfl, rfl, rfl⟩) ?_
    refine x_if [(27, pB (!decide (e1.id = e1.id))), (0, pS 3 cl1 eMsg a)] [0, 1, 2, 3, 4, 5, 6, 7, 8, 9, 10, 11] rfl rfl rfl rfl (fun g1 => ?_) (fun g1 => ?_)
    ·
     have g1' := g1
     try simp only [sB] at g1'
     refine x_run0 [(27, pB (!decide (e1.id = e1.id))), (0, pS 3 cl1 eMsg a)] [0, 1, 2, 3, 4, 5, 6, 7, 8, 9, 10, 11] rfl rfl rfl rfl (s_move rfl ⟨rfl, rfl, rfl⟩) ?_
     refine xy [(27, pB (!decide (e1.id = e1.id))), (5, pN i)] [0, 1, 2, 3, 4, 5, 6, 7, 8, 9, 10, 11] rfl rfl rfl rfl g1 ?_
     refine x_run0 [(27, pB (!decide (e1.id = e1.id))), (5, pN i)] [0, 1, 2, 3, 4, 5, 6, 7, 8, 9, 10, 11] rfl rfl rfl rfl (s_move rfl ⟨rfl, rfl, rfl⟩) ?_
     refine xy [(27, pB (!decide (e1.id = e1.id))), (28, pS 3 cl1 eMsg a), (29, pN i)] [0, 1, 2, 3, 4, 5, 6, 7, 8, 9, 10, 11, 12, 13] rfl rfl rfl rfl g1 ?_
     refine x_run0 [(27, pB (!decide (e1.id = e1.id))), (28, pS 3 cl1 eMsg a), (29, pN i)] [0, 1, 2, 3, 4, 5, 6, 7, 8, 9, 10, 11, 12, 13] rfl rfl rfl rfl (s_iaM (q := i) (b := e1) (f := eMsg) tab_39 rfl tab_30 rfl rfl (by omega) rfl he1 ⟨rfl, rfl, rfl⟩) ?_
     refine xy [(27, pB (!decide (e1.id = e1.id))), (30, PV.f (.ro (eMsg e1)))] [0, 1, 2, 3, 4, 5, 6, 7, 8, 9, 10, 11, 12, 13, 14] rfl rfl rfl rfl g1 ?_
     refine x_run0 [(27, pB (!decide (e1.id = e1.id))), (30, PV.f (.ro (eMsg e1)))] [0, 1, 2, 3, 4, 5, 6, 7, 8, 9, 10, 11, 12, 13, 14] rfl rfl rfl rfl (s_fa_ro tab_30 rfl rfl tab_3 (by decide) rfl (Nat.le_of_ble_eq_true rfl) (by intro _; rfl) ⟨rfl, rfl, rfl⟩) ?_
     refine xy [(27, pB (!decide (e1.id = e1.id))), (31, PV.f (.ro (encI e1.unit)))] [0, 1, 2, 3, 4, 5, 6, 7, 8, 9, 10, 11, 12, 13, 14, 15] rfl rfl rfl rfl g1 ?_
     refine x_run0 [(27, pB (!decide (e1.id = e1.id))), (31, PV.f (.ro (encI e1.unit)))] [0, 1, 2, 3, 4, 5, 6, 7, 8, 9, 10, 11, 12, 13, 14, 15] rfl rfl rfl rfl (s_load_ro1 tab_3 rfl rfl rfl rfl ⟨rfl, rfl, rfl⟩) ?_
     refine xy [(27, pB (!decide (e1.id = e1.id))), (1, pS 3 cl2 eMsg a)] [0, 1, 2, 3, 4, 5, 6, 7, 8, 9, 10, 11] rfl rfl rfl rfl g1 ?_
     refine x_run0 [(27, pB (!decide (e1.id = e1.id))), (1, pS 3 cl2 eMsg a)] [0, 1, 2, 3, 4, 5, 6, 7, 8, 9, 10, 11] rfl rfl rfl rfl (s_move rfl ⟨rfl, rfl, rfl⟩) ?_
     refine xy [(27, pB (!decide (e1.id = e1.id))), (5, pN i)] [0, 1, 2, 3, 4, 5, 6, 7, 8, 9, 10, 11] rfl rfl rfl rfl g1 ?_
     refine x_run0 [(27, pB (!decide (e1.id = e1.id))), (5, pN i)] [0, 1, 2, 3, 4, 5, 6, 7, 8, 9, 10, 11] rfl rfl rfl rfl (s_move rfl ⟨rfl, rfl, rfl⟩) ?_
     refine xy [(27, pB (!decide (e1.id = e1.id))), (33, pS 3 cl2 eMsg a), (34, pN i)] [0, 1, 2, 3, 4, 5, 6, 7, 8, 9, 10, 11, 17, 18] rfl rfl rfl rfl g1 ?_
     refine x_run0 [(27, pB (!decide (e1.id = e1.id))), (33, pS 3 cl2 eMsg a), (34, pN i)] [0, 1, 2, 3, 4, 5, 6, 7, 8, 9, 10, 11, 17, 18] rfl rfl rfl rfl (s_iaM (q := i) (b := e1) (f := eMsg) tab_83 rfl tab_33 rfl rfl (by omega) rfl he1 ⟨rfl, rfl, rfl⟩) ?_
     refine xy [(27, pB (!decide (e1.id = e1.id))), (35, PV.f (.ro (eMsg e1)))] [0, 1, 2, 3, 4, 5, 6, 7, 8, 9, 10, 11, 17, 18, 19] rfl rfl rfl rfl g1 ?_
     refine x_run0 [(27, pB (!decide (e1.id = e1.id))), (35, PV.f (.ro (eMsg e1)))] [0, 1, 2, 3, 4, 5, 6, 7, 8, 9, 10, 11, 17, 18, 19] rfl rfl rfl rfl (s_fa_ro tab_33 rfl rfl tab_3 (by decide) rfl (Nat.le_of_ble_eq_true rfl) (by intro _; rfl) ⟨rfl, rfl, rfl⟩) ?_
     refine xy [(27, pB (!decide (e1.id = e1.id))), (36, PV.f (.ro (encI e1.unit)))] [0, 1, 2, 3, 4, 5, 6, 7, 8, 9, 10, 11, 17, 18, 19, 20] rfl rfl rfl rfl g1 ?_
     refine x_run0 [(27, pB (!decide (e1.id = e1.id))), (36, PV.f (.ro (encI e1.unit)))] [0, 1, 2, 3, 4, 5, 6, 7, 8, 9, 10, 11, 17, 18, 19, 20] rfl rfl rfl rfl (s_load_ro1 tab_3 rfl rfl rfl rfl ⟨rfl, rfl, rfl⟩) ?_
     refine xy [(27, pB (!decide (e1.id = e1.id))), (32, pI e1.unit), (37, pI e1.unit)] [0, 1, 2, 3, 4, 5, 6, 7, 8, 9, 10, 11, 12, 13, 14, 15, 16, 17, 18, 19, 20, 21] rfl rfl rfl rfl g1 ?_
     refine x_run0 [(27, pB (!decide (e1.id = e1.id))), (32, pI e1.unit), (37, pI e1.unit)] [0, 1, 2, 3, 4, 5, 6, 7, 8, 9, 10, 11, 12, 13, 14, 15, 16, 17, 18, 19, 20, 21] rfl rfl rfl rfl (s_neq rfl rfl ⟨rfl, rfl, rfl⟩) ?_
     refine d_op ?_
     refine x_run0 [(27, pB (!decide (e1.id = e1.id))), (38, pB (!decide (e1.unit = e1.unit)))] [0, 1, 2, 3, 4, 5, 6, 7, 8, 9, 10, 11, 12, 13, 14, 15, 16, 17, 18, 19, 20, 21, 22] rfl rfl rfl rfl (s_pick_f rfl g1 rfl ⟨rfl, rfl, rfl⟩) ?_
     refine d_op ?_
     refine x_run0 [(39, pB (!decide (e1.unit = e1.unit)))] [0, 1, 2, 3, 4, 5, 6, 7, 8, 9, 10, 11, 12, 13, 14, 15, 16, 17, 18, 19, 20, 21, 22, 23] rfl rfl rfl rfl (s_move rfl ⟨rfl, rfl, rfl⟩) ?_
     refine x_if [(40, pB (!decide (e1.unit = e1.unit))), (0, pS 3 cl1 eMsg a)] [0, 1, 2, 3, 4, 5, 6, 7, 8, 9, 10, 11, 12, 13, 14, 15, 16, 17, 18, 19, 20, 21, 22, 23, 24] rfl rfl rfl rfl (fun g2 => ?_) (fun g2 => ?_)
     ·
      have g2' := g2
      try simp only [sB] at g2'
      refine x_run0 [(40, pB (!decide (e1.unit = e1.unit))), (0, pS 3 cl1 eMsg a)] [0, 1, 2, 3, 4, 5, 6, 7, 8, 9, 10, 11, 12, 13, 14, 15, 16, 17, 18, 19, 20, 21, 22, 23, 24] rfl rfl rfl rfl (s_move rfl ⟨rfl, rfl, rfl⟩) ?_
      refine xy [(40, pB (!decide (e1.unit = e1.unit))), (5, pN i)] [0, 1, 2, 3, 4, 5, 6, 7, 8, 9, 10, 11, 12, 13, 14, 15, 16, 17, 18, 19, 20, 21, 22, 23, 24] rfl rfl rfl rfl g2 ?_
      refine x_run0 [(40, pB (!decide (e1.unit = e1.unit))), (5, pN i)] [0, 1, 2, 3, 4, 5, 6, 7, 8, 9, 10, 11, 12, 13, 14, 15, 16, 17, 18, 19, 20, 21, 22, 23, 24] rfl rfl rfl rfl (s_move rfl ⟨rfl, rfl, rfl⟩) ?_
      refine xy [(40, pB (!decide (e1.unit = e1.unit))), (41, pS 3 cl1 eMsg a), (42, pN i)] [0, 1, 2, 3, 4, 5, 6, 7, 8, 9, 10, 11, 12, 13, 14, 15, 16, 17, 18, 19, 20, 21, 22, 23, 24, 25, 26] rfl rfl rfl rfl g2 ?_
      refine x_run0 [(40, pB (!decide (e1.unit = e1.unit))), (41, pS 3 cl1 eMsg a), (42, pN i)] [0, 1, 2, 3, 4, 5, 6, 7, 8, 9, 10, 11, 12, 13, 14, 15, 16, 17, 18, 19, 20, 21, 22, 23, 24, 25, 26] rfl rfl rfl rfl (s_iaM (q := i) (b := e1) (f := eMsg) tab_39 rfl tab_30 rfl rfl (by omega) rfl he1 ⟨rfl, rfl, rfl⟩) ?_
      refine xy [(40, pB (!decide (e1.unit = e1.unit))), (43, PV.f (.ro (eMsg e1)))] [0, 1, 2, 3, 4, 5, 6, 7, 8, 9, 10, 11, 12, 13, 14, 15, 16, 17, 18, 19, 20, 21, 22, 23, 24, 25, 26, 27] rfl rfl rfl rfl g2 ?_
      refine x_run0 [(40, pB (!decide (e1.unit = e1.unit))), (43, PV.f (.ro (eMsg e1)))] [0, 1, 2, 3, 4, 5, 6, 7, 8, 9, 10, 11, 12, 13, 14, 15, 16, 17, 18, 19, 20, 21, 22, 23, 24, 25, 26, 27] rfl rfl rfl rfl (s_fa_ro tab_30 rfl rfl tab_27 (by decide) rfl (Nat.le_of_ble_eq_true rfl) (by intro _; rfl) ⟨rfl, rfl, rfl⟩) ?_
      refine xy [(40, pB (!decide (e1.unit = e1.unit))), (44, PV.f (.ro (FV.sl 1 false (List.map enc8 e1.pdu))))] [0, 1, 2, 3, 4, 5, 6, 7, 8, 9, 10, 11, 12, 13, 14, 15, 16, 17, 18, 19, 20, 21, 22, 23, 24, 25, 26, 27, 28] rfl rfl rfl rfl g2 ?_
      refine x_run0 [(40, pB (!decide (e1.unit = e1.unit))), (44, PV.f (.ro (FV.sl 1 false (List.map enc8 e1.pdu))))] [0, 1, 2, 3, 4, 5, 6, 7, 8, 9, 10, 11, 12, 13, 14, 15, 16, 17, 18, 19, 20, 21, 22, 23, 24, 25, 26, 27, 28] rfl rfl rfl rfl (s_load_ro1 tab_27 rfl rfl rfl rfl ⟨rfl, rfl, rfl⟩) ?_
      refine xy [(40, pB (!decide (e1.unit = e1.unit))), (45, pS 1 false enc8 e1.pdu)] [0, 1, 2, 3, 4, 5, 6, 7, 8, 9, 10, 11, 12, 13, 14, 15, 16, 17, 18, 19, 20, 21, 22, 23, 24, 25, 26, 27, 28, 29] rfl rfl rfl rfl g2 ?_
      refine x_run0 [(40, pB (!decide (e1.unit = e1.unit))), (45, pS 1 false enc8 e1.pdu)] [0, 1, 2, 3, 4, 5, 6, 7, 8, 9, 10, 11, 12, 13, 14, 15, 16, 17, 18, 19, 20, 21, 22, 23, 24, 25, 26, 27, 28, 29] rfl rfl rfl rfl (s_cvT tab_27 tab_9 rfl tab_5 rfl rfl (hM_sl (f := enc8) rfl) ⟨rfl, rfl, rfl⟩) ?_
      refine xy [(40, pB (!decide (e1.unit = e1.unit))), (1, pS 3 cl2 eMsg a)] [0, 1, 2, 3, 4, 5, 6, 7, 8, 9, 10, 11, 12, 13, 14, 15, 16, 17, 18, 19, 20, 21, 22, 23, 24] rfl rfl rfl rfl g2 ?_
      refine x_run0 [(40, pB (!decide (e1.unit = e1.unit))), (1, pS 3 cl2 eMsg a)] [0, 1, 2, 3, 4, 5, 6, 7, 8, 9, 10, 11, 12, 13, 14, 15, 16, 17, 18, 19, 20, 21, 22, 23, 24] rfl rfl rfl rfl (s_move rfl ⟨rfl, rfl, rfl⟩) ?_
      refine xy [(40, pB (!decide (e1.unit = e1.unit))), (5, pN i)] [0, 1, 2, 3, 4, 5, 6, 7, 8, 9, 10, 11, 12, 13, 14, 15, 16, 17, 18, 19, 20, 21, 22, 23, 24] rfl rfl rfl rfl g2 ?_
      refine x_run0 [(40, pB (!decide (e1.unit = e1.unit))), (5, pN i)] [0, 1, 2, 3, 4, 5, 6, 7, 8, 9, 10, 11, 12, 13, 14, 15, 16, 17, 18, 19, 20, 21, 22, 23, 24] rfl rfl rfl rfl (s_move rfl ⟨rfl, rfl, rfl⟩) ?_
      refine xy [(40, pB (!decide (e1.unit = e1.unit))), (47, pS 3 cl2 eMsg a), (48, pN i)] [0, 1, 2, 3, 4, 5, 6, 7, 8, 9, 10, 11, 12, 13, 14, 15, 16, 17, 18, 19, 20, 21, 22, 23, 24, 31, 32] rfl rfl rfl rfl g2 ?_
      refine x_run0 [(40, pB (!decide (e1.unit = e1.unit))), (47, pS 3 cl2 eMsg a), (48, pN i)] [0, 1, 2, 3, 4, 5, 6, 7, 8, 9, 10, 11, 12, 13, 14, 15, 16, 17, 18, 19, 20, 21, 22, 23, 24, 31, 32] rfl rfl rfl rfl (s_iaM (q := i) (b := e1) (f := eMsg) tab_83 rfl tab_33 rfl rfl (by omega) rfl he1 ⟨rfl, rfl, rfl⟩) ?_
      refine xy [(40, pB (!decide (e1.unit = e1.unit))), (49, PV.f (.ro (eMsg e1)))] [0, 1, 2, 3, 4, 5, 6, 7, 8, 9, 10, 11, 12, 13, 14, 15, 16, 17, 18, 19, 20, 21, 22, 23, 24, 31, 32, 33] rfl rfl rfl rfl g2 ?_
      refine x_run0 [(40, pB (!decide (e1.unit = e1.unit))), (49, PV.f (.ro (eMsg e1)))] [0, 1, 2, 3, 4, 5, 6, 7, 8, 9, 10, 11, 12, 13, 14, 15, 16, 17, 18, 19, 20, 21, 22, 23, 24, 31, 32, 33] rfl rfl rfl rfl (s_fa_ro tab_33 rfl rfl tab_27 (by decide) rfl (Nat.le_of_ble_eq_true rfl) (by intro _; rfl) ⟨rfl, rfl, rfl⟩) ?_
      refine xy [(40, pB (!decide (e1.unit = e1.unit))), (50, PV.f (.ro (FV.sl 1 false (List.map enc8 e1.pdu))))] [0, 1, 2, 3, 4, 5, 6, 7, 8, 9, 10, 11, 12, 13, 14, 15, 16, 17, 18, 19, 20, 21, 22, 23, 24, 31, 32, 33, 34] rfl rfl rfl rfl g2 ?_
      refine x_run0 [(40, pB (!decide (e1.unit = e1.unit))), (50, PV.f (.ro (FV.sl 1 false (List.map enc8 e1.pdu))))] [0, 1, 2, 3, 4, 5, 6, 7, 8, 9, 10, 11, 12, 13, 14, 15, 16, 17, 18, 19, 20, 21, 22, 23, 24, 31, 32, 33, 34] rfl rfl rfl rfl (s_load_ro1 tab_27 rfl rfl rfl rfl ⟨rfl, rfl, rfl⟩) ?_
      refine xy [(40, pB (!decide (e1.unit = e1.unit))), (51, pS 1 false enc8 e1.pdu)] [0, 1, 2, 3, 4, 5, 6, 7, 8, 9, 10, 11, 12, 13, 14, 15, 16, 17, 18, 19, 20, 21, 22, 23, 24, 31, 32, 33, 34, 35] rfl rfl rfl rfl g2 ?_
      refine x_run0 [(40, pB (!decide (e1.unit = e1.unit))), (51, pS 1 false enc8 e1.pdu)] [0, 1, 2, 3, 4, 5, 6, 7, 8, 9, 10, 11, 12, 13, 14, 15, 16, 17, 18, 19, 20, 21, 22, 23, 24, 31, 32, 33, 34, 35] rfl rfl rfl rfl (s_cvT tab_27 tab_9 rfl tab_5 rfl rfl (hM_sl (f := enc8) rfl) ⟨rfl, rfl, rfl⟩) ?_
      refine xy [(40, pB (!decide (e1.unit = e1.unit))), (46, pT e1.pdu), (52, pT e1.pdu)] [0, 1, 2, 3, 4, 5, 6, 7, 8, 9, 10, 11, 12, 13, 14, 15, 16, 17, 18, 19, 20, 21, 22, 23, 24, 25, 26, 27, 28, 29, 30, 31, 32, 33, 34, 35, 36] rfl rfl rfl rfl g2 ?_
      refine x_run0 [(40, pB (!decide (e1.unit = e1.unit))), (46, pT e1.pdu), (52, pT e1.pdu)] [0, 1, 2, 3, 4, 5, 6, 7, 8, 9, 10, 11, 12, 13, 14, 15, 16, 17, 18, 19, 20, 21, 22, 23, 24, 25, 26, 27, 28, 29, 30, 31, 32, 33, 34, 35, 36] rfl rfl rfl rfl (s_netext (l := e1.pdu) (m := e1.pdu) rfl rfl ⟨rfl, rfl, rfl⟩) ?_
      refine d_op ?_
      refine x_run0 [(40, pB (!decide (e1.unit = e1.unit))), (53, pB (!decide (e1.pdu = e1.pdu)))] [0, 1, 2, 3, 4, 5, 6, 7, 8, 9, 10, 11, 12, 13, 14, 15, 16, 17, 18, 19, 20, 21, 22, 23, 24, 25, 26, 27, 28, 29, 30, 31, 32, 33, 34, 35, 36, 37] rfl rfl rfl rfl (s_pick_f rfl g2 rfl ⟨rfl, rfl, rfl⟩) ?_
      refine d_end ⟨by kernel_rfl, ?_⟩
      refine q_then ?_
      refine w_if rfl (fun c3 => ?_) (fun c3 => ?_)
      ·
       have c3_ := c3
       exact absurd c3 (by simp)
      ·
       have c3_ := c3
       try simp only [sB] at c3
       refine w_skip ?_
       refine q_block ?_
       refine q_then ?_
       refine w_R ?_
       refine qo hnt rfl (s_addN (a := i) (b := 1) rfl rfl (by omega) (by omega) (by omega) ?_)
       refine qm hnt rfl rfl ?_
       refine r_end ?_
       refine q_then ?_
       refine ⟨(i + 1), ?_, ?_, ⟨[], rfl, ⟨⟨_, rfl, rfl, rfl⟩, ⟨_, rfl, rfl, rfl⟩, ⟨_, rfl, rfl, rfl⟩, ⟨_, rfl, rfl, rfl⟩, trivial⟩, trivial, by rw [hk]; decide⟩⟩
       ·
        omega
       · omega
     ·
      exact absurd g2 (by simp)
    ·
     exact absurd g1 (by simp)
   ·
    have c2_ := c2
    try simp only [sB] at c2
    refine w_exit ?_
    refine q_then_exit ?_
    refine q_then_exit ?_
    refine q_block_exit ?_
    refine q_then ?_
    refine w_seq ?_
    refine w_R ?_
    refine qa hnt rfl rfl ?_
    refine r_end ?_
    refine q_then ?_
    refine w_ret ?_
    exact fin_plain (ret_tmp rfl ret_nil) rfl rfl ⟨rfl, rfl, rfl⟩
theorem w_burgagelaw6_play (rows : List (List UInt8)) (cl_rows : Bool) (hr : rows.length ≤ 5864062014634) (hs : ∀ x ∈ rows, x.length ≤ 1048576) :
    T Try.prog 17 [pS 1 cl_rows (encS 1 enc8) rows] 0 [] (Ret (pB true) 0 []) := by
 refine t_fun tabOk (n := 84) (rs := [.tmp 2]) Try.func17 rfl rfl rfl rfl (Nat.le_of_ble_eq_true rfl) ?_
 intro c hnt hk
 refine w_seq ?_
 refine w_R ?_
 refine qa hnt rfl rfl ?_
 refine r_end ?_
 refine q_then ?_
 refine w_seq ?_
 refine w_R ?_
 refine qo hnt rfl (s_callX (r2 := PV.ptr 0 0) (nx1 := 1) (H2 := []) (H3 := [(0, .obj [pS 1 false enc8 ([] : List UInt8), pB false])]) [] [] rfl rfl rfl (handed_of (by decide) trivial) rfl rfl rfl rfl rfl rfl (w_mbap_New) rfl (dist_of rfl) rfl rfl rfl rfl ?_)
 refine qo hnt rfl (s_build tab_81 rfl rfl (b_nil ?_))
 refine qo hnt rfl (s_box rfl rfl ?_)
 refine qa hnt rfl rfl ?_
 refine qa hnt rfl rfl ?_
 refine r_set [(0, pS 1 cl_rows (encS 1 enc8) rows), (3, PV.ptr 0 0), (4, PV.ptr 1 0)] [(1, .obj [pNil, pB false]), (0, .obj [pS 1 false enc8 ([] : List UInt8), pB false])] 2 ⟨rfl, rfl, rfl, trivial⟩ rfl rfl ?_
 refine r_end ?_
 refine q_then ?_
 refine w_seq ?_
 refine w_seq ?_
 refine w_R ?_
 refine qa hnt rfl rfl ?_
 refine r_end ?_
 refine q_then ?_
 refine w_block ?_
 refine w_leC (n := 1) (j := 0) (y := pS 1 false enc8 []) rfl rfl (le_nilS 1 false) ?_
 refine loop3 (fun (q : List UInt8) (cl : Bool) (i : Nat) => i ≤ rows.length ∧ i ≤ 40 ∧ q.length ≤ 260) (fun (q : List UInt8) (cl : Bool) (i : Nat) => [(0, pS 1 cl_rows (encS 1 enc8) rows), (3, PV.ptr 0 0), (4, PV.ptr 1 0), (5, pN i)]) 2 (fun (q : List UInt8) (cl : Bool) (i : Nat) => [(0, .obj [pS 1 false enc8 q, pB cl]), (1, .obj [pS 1 false enc8 q, pB cl])]) (fun (q : List UInt8) (cl : Bool) (i : Nat) => rows.length - i) (([] : List UInt8)) (false) (0) ?_ ⟨[(0, 0), (1, 1)], by rw [hk]; decide, ⟨⟨_, rfl, rfl, rfl⟩, ⟨_, rfl, rfl, rfl⟩, ⟨_, rfl, rfl, rfl⟩, ⟨_, rfl, rfl, rfl⟩, trivial⟩, ⟨⟨_, _, rfl, rfl, rfl, rfl⟩, ⟨_, _, rfl, rfl, rfl, rfl⟩, trivial⟩, by rw [hk]; decide⟩ ?_
 · simp
 ·
  intro q cl i hI
  obtain ⟨hi, hi4, hq⟩ := hI
  refine w_seq ?_
  refine w_seq ?_
  refine w_R ?_
  refine qm hnt rfl rfl ?_
  refine qm hnt rfl rfl ?_
  refine qo hnt rfl (s_lenM (l := rows) tab_23 rfl (hM_sl (f := (encS 1 enc8)) rfl) ?_)
  refine qo hnt rfl (s_lss rfl rfl ?_)
  refine qm hnt rfl rfl ?_
  refine r_if tabOk hnt rfl rfl rfl (fun g1 => ?_) (fun g1 => ?_)
  ·
   have g1' := g1
   try simp only [sB] at g1'
   refine qm hnt rfl rfl ?_
   refine ry hnt rfl rfl rfl g1 ?_
   refine qo hnt rfl (s_lss rfl rfl ?_)
   refine qo hnt rfl (s_pick_t rfl g1 rfl ?_)
   refine r_end ?_
   refine q_then ?_
   refine w_if rfl (fun c1 => ?_) (fun c1 => ?_)
   ·
    have c1_ := c1
    try simp only [sB] at c1
    refine w_skip ?_
    refine q_then ?_
    refine w_seq ?_
    refine w_block ?_
    refine w_seq ?_
    refine w_seq ?_
    refine W_drawn tabOk mixed hnt [[], [0], [0, 1], [0, 1, 2], [0, 1, 2], [0, 1, 2], [0, 1, 2, 4, 5], [0, 1, 2, 4, 5, 6], [0, 1, 2, 3, 4, 5, 6, 7], [0, 1, 2], [0, 1, 2], [0, 1, 2], [0, 1, 2, 10, 11], [0, 1, 2, 10, 11, 12], [0, 1, 2, 3, 4, 5, 6, 7, 8, 9, 10, 11, 12, 13], [0, 1, 2, 3, 4, 5, 6, 7, 8, 9, 10, 11, 12, 13, 14], [0, 1, 2, 3, 4, 5, 6, 7, 8, 9, 10, 11, 12, 13, 14, 15], [0, 1, 2, 3, 4, 5, 6, 7, 8, 9, 10, 11, 12, 13, 14, 15, 16], [0, 1, 2, 3, 4, 5, 6, 7, 8, 9, 10, 11, 12, 13, 14, 15, 16, 17], [0, 1, 2, 3, 4, 5, 6, 7, 8, 9, 10, 11, 12, 13, 14, 15, 16, 17, 18], [0, 1, 2, 3, 4, 5, 6, 7, 8, 9, 10, 11, 12, 13, 14, 15, 16, 17, 18, 19], [0, 1, 2, 3, 4, 5, 6, 7, 8, 9, 10, 11, 12, 13, 14, 15, 16, 17, 18], [0, 1, 2, 3, 4, 5, 6, 7, 8, 9, 10, 11, 12, 13, 14, 15, 16, 17, 18, 21], [0, 1, 2, 3, 4, 5, 6, 7, 8, 9, 10, 11, 12, 13, 14, 15, 16, 17, 18, 21, 22], [0, 1, 2, 3, 4, 5, 6, 7, 8, 9, 10, 11, 12, 13, 14, 15, 16, 17, 18, 21, 22, 23], [0, 1, 2, 3, 4, 5, 6, 7, 8, 9, 10, 11, 12, 13, 14, 15, 16, 17, 18, 19, 20, 21, 22, 23, 24], [0, 1, 2, 3, 4, 5, 6, 7, 8, 9, 10, 11, 12, 13, 14, 15, 16, 17, 18, 19, 20, 21, 22, 23, 24, 25], [0, 1, 2, 3, 4, 5, 6, 7, 8, 9, 10, 11, 12, 13, 14, 15, 16, 17, 18, 19, 20, 21, 22, 23, 24, 25, 26], [0, 1, 2, 3, 4, 5, 6, 7, 8, 9, 10, 11, 12, 13, 14, 15, 16, 17, 18, 19, 20, 21, 22, 23, 24, 25, 26, 27], [0, 1, 2, 3, 4, 5, 6, 7, 8, 9, 10, 11, 12, 13, 14, 15, 16, 17, 18, 19, 20, 21, 22, 23, 24, 25, 26, 27, 28], [0, 1, 2, 3, 4, 5, 6, 7, 8, 9, 10, 11, 12, 13, 14, 15, 16, 17, 18, 19, 20, 21, 22, 23, 24, 25, 26, 27], [0, 1, 2, 3, 4, 5, 6, 7, 8, 9, 10, 11, 12, 13, 14, 15, 16, 17, 18, 19, 20, 21, 22, 23, 24, 25, 26, 27, 30], [0, 1, 2, 3, 4, 5, 6, 7, 8, 9, 10, 11, 12, 13, 14, 15, 16, 17, 18, 19, 20, 21, 22, 23, 24, 25, 26, 27, 30, 31], [0, 1, 2, 3, 4, 5, 6, 7, 8, 9, 10, 11, 12, 13, 14, 15, 16, 17, 18, 19, 20, 21, 22, 23, 24, 25, 26, 27, 30, 31, 32], [0, 1, 2, 3, 4, 5, 6, 7, 8, 9, 10, 11, 12, 13, 14, 15, 16, 17, 18, 19, 20, 21, 22, 23, 24, 25, 26, 27, 30, 31, 32, 33], [0, 1, 2, 3, 4, 5, 6, 7, 8, 9, 10, 11, 12, 13, 14, 15, 16, 17, 18, 19, 20, 21, 22, 23, 24, 25, 26, 27, 28, 29, 30, 31, 32, 33, 34], [0, 1, 2, 3, 4, 5, 6, 7, 8, 9, 10, 11, 12, 13, 14, 15, 16, 17, 18, 19, 20, 21, 22, 23, 24, 25, 26, 27, 28, 29, 30, 31, 32, 33, 34, 35]] (by kernel_rfl) ?_
    refine d_op ?_
    refine x_run0 [(3, PV.ptr 0 0)] [] rfl rfl rfl rfl (s_move rfl ⟨rfl, rfl, rfl⟩) ?_
    refine d_op ?_
    refine x_run [(19, PV.ptr 0 0)] [0] [(0, .obj [pS 1 false enc8 q, pB cl])] [] [(0, .obj [pS 1 false enc8 q, pB cl])] [] [(0, .obj [pS 1 false enc8 q, pB cl]), (1, .obj [pS 1 false enc8 q, pB cl])] rfl rfl rfl rfl rfl rfl (s_ptrnil tab_37 rfl rfl trivial ⟨rfl, rfl, rfl⟩) rfl ⟨rfl, trivial⟩ rfl rfl ?_
    refine d_op ?_
    refine x_run0 [(20, pB false)] [0, 1] rfl rfl rfl rfl (s_move rfl ⟨rfl, rfl, rfl⟩) ?_
    refine xy [(21, pB false), (3, PV.ptr 0 0)] [0, 1, 2] rfl rfl rfl rfl rfl ?_
    refine x_run0 [(21, pB false), (3, PV.ptr 0 0)] [0, 1, 2] rfl rfl rfl rfl (s_move rfl ⟨rfl, rfl, rfl⟩) ?_
    refine xy [(21, pB false), (0, pS 1 cl_rows (encS 1 enc8) rows)] [0, 1, 2] rfl rfl rfl rfl rfl ?_
    refine x_run0 [(21, pB false), (0, pS 1 cl_rows (encS 1 enc8) rows)] [0, 1, 2] rfl rfl rfl rfl (s_move rfl ⟨rfl, rfl, rfl⟩) ?_
    refine xy [(21, pB false), (5, pN i)] [0, 1, 2] rfl rfl rfl rfl rfl ?_
    refine x_run0 [(21, pB false), (5, pN i)] [0, 1, 2] rfl rfl rfl rfl (s_move rfl ⟨rfl, rfl, rfl⟩) ?_
    refine xy [(21, pB false), (23, pS 1 cl_rows (encS 1 enc8) rows), (24, pN i)] [0, 1, 2, 4, 5] rfl rfl rfl rfl rfl ?_
    obtain ⟨e1, he1⟩ := get_of_lt rows (i := i) (by omega)
    refine x_run0 [(21, pB false), (23, pS 1 cl_rows (encS 1 enc8) rows), (24, pN i)] [0, 1, 2, 4, 5] rfl rfl rfl rfl (s_iaM (q := i) (b := e1) (f := (encS 1 enc8)) tab_23 rfl tab_27 rfl rfl (by omega) rfl he1 ⟨rfl, rfl, rfl⟩) ?_
    refine xy [(21, pB false), (25, PV.f (.ro (FV.sl 1 false (List.map enc8 e1))))] [0, 1, 2, 4, 5, 6] rfl rfl rfl rfl rfl ?_
    refine x_run0 [(21, pB false), (25, PV.f (.ro (FV.sl 1 false (List.map enc8 e1))))] [0, 1, 2, 4, 5, 6] rfl rfl rfl rfl (s_load_ro1 tab_27 rfl rfl rfl rfl ⟨rfl, rfl, rfl⟩) ?_
    have hx1 := hs e1 (List.mem_of_getElem? he1)
    have hpm := putV_many q cl e1
    refine xy [(21, pB false), (22, PV.ptr 0 0), (26, pS 1 false enc8 e1)] [0, 1, 2, 3, 4, 5, 6, 7] rfl rfl rfl rfl rfl ?_
    refine x_run [(21, pB false), (22, PV.ptr 0 0), (26, pS 1 false enc8 e1)] [0, 1, 2, 3, 4, 5, 6, 7] [] [(0, .obj [pS 1 false enc8 q, pB cl])] [(0, .obj [pS 1 false enc8 ((putV q cl e1).2.1), pB ((putV q cl e1).2.2)])] [(0, .obj [pS 1 false enc8 ((putV q cl e1).2.1), pB ((putV q cl e1).2.2)])] [(0, .obj [pS 1 false enc8 ((putV q cl e1).2.1), pB ((putV q cl e1).2.2)]), (1, .obj [pS 1 false enc8 q, pB cl])] rfl rfl rfl rfl rfl rfl (s_callX (r2 := pS 3 true eMsg ((putV q cl e1).1)) (nx1 := 2) (H2 := [(0, .obj [pS 1 false enc8 q, pB cl])]) (H3 := [(0, .obj [pS 1 false enc8 ((putV q cl e1).2.1), pB ((putV q cl e1).2.2)])]) [0] [.obj [pS 1 false enc8 q, pB cl]] rfl rfl rfl (handed_of (by decide) ⟨rfl, trivial⟩) rfl rfl rfl rfl rfl rfl (w_mbap_Stream_Put q false cl e1 false (by first | omega | assumption | (simp; omega) | decide | (simp; done))) rfl (dist_of rfl) rfl rfl rfl rfl ⟨rfl, rfl, rfl⟩) rfl trivial rfl rfl ?_
    have hx1 := hs e1 (List.mem_of_getElem? he1)
    refine xy [(21, pB false), (4, PV.ptr 1 0)] [0, 1, 2] rfl rfl rfl rfl rfl ?_
    refine x_run0 [(21, pB false), (4, PV.ptr 1 0)] [0, 1, 2] rfl rfl rfl rfl (s_move rfl ⟨rfl, rfl, rfl⟩) ?_
    refine xy [(21, pB false), (0, pS 1 cl_rows (encS 1 enc8) rows)] [0, 1, 2] rfl rfl rfl rfl rfl ?_
    refine x_run0 [(21, pB false), (0, pS 1 cl_rows (encS 1 enc8) rows)] [0, 1, 2] rfl rfl rfl rfl (s_move rfl ⟨rfl, rfl, rfl⟩) ?_
    refine xy [(21, pB false), (5, pN i)] [0, 1, 2] rfl rfl rfl rfl rfl ?_
    refine x_run0 [(21, pB false), (5, pN i)] [0, 1, 2] rfl rfl rfl rfl (s_move rfl ⟨rfl, rfl, rfl⟩) ?_
    refine xy [(21, pB false), (29, pS 1 cl_rows (encS 1 enc8) rows), (30, pN i)] [0, 1, 2, 10, 11] rfl rfl rfl rfl rfl ?_
    refine x_run0 [(21, pB false), (29, pS 1 cl_rows (encS 1 enc8) rows), (30, pN i)] [0, 1, 2, 10, 11] rfl rfl rfl rfl (s_iaM (q := i) (b := e1) (f := (encS 1 enc8)) tab_23 rfl tab_27 rfl rfl (by omega) rfl he1 ⟨rfl, rfl, rfl⟩) ?_
    refine xy [(21, pB false), (31, PV.f (.ro (FV.sl 1 false (List.map enc8 e1))))] [0, 1, 2, 10, 11, 12] rfl rfl rfl rfl rfl ?_
    refine x_run0 [(21, pB false), (31, PV.f (.ro (FV.sl 1 false (List.map enc8 e1))))] [0, 1, 2, 10, 11, 12] rfl rfl rfl rfl (s_load_ro1 tab_27 rfl rfl rfl rfl ⟨rfl, rfl, rfl⟩) ?_
    refine xy [(21, pB false), (28, PV.ptr 1 0), (32, pS 1 false enc8 e1)] [0, 1, 2, 3, 4, 5, 6, 7, 8, 9, 10, 11, 12, 13] rfl rfl rfl rfl rfl ?_
    refine x_run [(21, pB false), (28, PV.ptr 1 0), (32, pS 1 false enc8 e1)] [0, 1, 2, 3, 4, 5, 6, 7, 8, 9, 10, 11, 12, 13] [] [(1, .obj [pS 1 false enc8 q, pB cl])] [(1, .obj [pS 1 false enc8 ((putV q cl e1).2.1), pB ((putV q cl e1).2.2)])] [(1, .obj [pS 1 false enc8 ((putV q cl e1).2.1), pB ((putV q cl e1).2.2)])] [(1, .obj [pS 1 false enc8 ((putV q cl e1).2.1), pB ((putV q cl e1).2.2)]), (0, .obj [pS 1 false enc8 ((putV q cl e1).2.1), pB ((putV q cl e1).2.2)])] rfl rfl rfl rfl rfl rfl (s_callX (r2 := pS 3 false eMsg ((putV q cl e1).1)) (nx1 := 2) (H2 := [(1, .obj [pS 1 false enc8 q, pB cl])]) (H3 := [(1, .obj [pS 1 false enc8 ((putV q cl e1).2.1), pB ((putV q cl e1).2.2)])]) [1] [.obj [pS 1 false enc8 q, pB cl]] rfl rfl rfl (handed_of (by decide) ⟨rfl, trivial⟩) rfl rfl rfl rfl rfl rfl (w_burgageref5_Stream_Put q false cl e1 false (by first | omega | assumption | (simp; omega) | decide | (simp; done))) rfl (dist_of rfl) rfl rfl rfl rfl ⟨rfl, rfl, rfl⟩) rfl trivial rfl rfl ?_
    refine xy [(21, pB false), (27, pS 3 true eMsg ((putV q cl e1).1)), (33, pS 3 false eMsg ((putV q cl e1).1))] [0, 1, 2, 3, 4, 5, 6, 7, 8, 9, 10, 11, 12, 13, 14] rfl rfl rfl rfl rfl ?_
    refine x_run0 [(21, pB false), (27, pS 3 true eMsg ((putV q cl e1).1)), (33, pS 3 false eMsg ((putV q cl e1).1))] [0, 1, 2, 3, 4, 5, 6, 7, 8, 9, 10, 11, 12, 13, 14] rfl rfl rfl rfl (s_callF rfl rfl rfl (w_burgagelaw6_msgs ((putV q cl e1).1) true false (by first | omega | assumption | (simp; omega) | decide | (simp; done))) rfl ⟨rfl, rfl, rfl⟩) ?_
    refine xy [(21, pB false), (34, pB true)] [0, 1, 2, 3, 4, 5, 6, 7, 8, 9, 10, 11, 12, 13, 14, 15] rfl rfl rfl rfl rfl ?_
    refine x_run0 [(21, pB false), (34, pB true)] [0, 1, 2, 3, 4, 5, 6, 7, 8, 9, 10, 11, 12, 13, 14, 15] rfl rfl rfl rfl (s_not rfl ⟨rfl, rfl, rfl⟩) ?_
    refine d_op ?_
    refine x_run0 [(21, pB false), (35, pB (!true))] [0, 1, 2, 3, 4, 5, 6, 7, 8, 9, 10, 11, 12, 13, 14, 15, 16] rfl rfl rfl rfl (s_pick_f rfl rfl rfl ⟨rfl, rfl, rfl⟩) ?_
    refine d_op ?_
    refine x_run0 [(36, pB (!true))] [0, 1, 2, 3, 4, 5, 6, 7, 8, 9, 10, 11, 12, 13, 14, 15, 16, 17] rfl rfl rfl rfl (s_move rfl ⟨rfl, rfl, rfl⟩) ?_
    refine xy [(37, pB (!true)), (3, PV.ptr 0 0)] [0, 1, 2, 3, 4, 5, 6, 7, 8, 9, 10, 11, 12, 13, 14, 15, 16, 17, 18] rfl rfl rfl rfl rfl ?_
    refine x_run0 [(37, pB (!true)), (3, PV.ptr 0 0)] [0, 1, 2, 3, 4, 5, 6, 7, 8, 9, 10, 11, 12, 13, 14, 15, 16, 17, 18] rfl rfl rfl rfl (s_move rfl ⟨rfl, rfl, rfl⟩) ?_
    refine xy [(37, pB (!true)), (38, PV.ptr 0 0)] [0, 1, 2, 3, 4, 5, 6, 7, 8, 9, 10, 11, 12, 13, 14, 15, 16, 17, 18, 19] rfl rfl rfl rfl rfl ?_
    refine x_run [(37, pB (!true)), (38, PV.ptr 0 0)] [0, 1, 2, 3, 4, 5, 6, 7, 8, 9, 10, 11, 12, 13, 14, 15, 16, 17, 18, 19] [] [(0, .obj [pS 1 false enc8 ((putV q cl e1).2.1), pB ((putV q cl e1).2.2)])] [(0, .obj [pS 1 false enc8 ((putV q cl e1).2.1), pB ((putV q cl e1).2.2)])] [(0, .obj [pS 1 false enc8 ((putV q cl e1).2.1), pB ((putV q cl e1).2.2)])] [(0, .obj [pS 1 false enc8 ((putV q cl e1).2.1), pB ((putV q cl e1).2.2)]), (1, .obj [pS 1 false enc8 ((putV q cl e1).2.1), pB ((putV q cl e1).2.2)])] rfl rfl rfl rfl rfl rfl (s_callX (r2 := pB ((putV q cl e1).2.2)) (nx1 := 2) (H2 := [(0, .obj [pS 1 false enc8 ((putV q cl e1).2.1), pB ((putV q cl e1).2.2)])]) (H3 := [(0, .obj [pS 1 false enc8 ((putV q cl e1).2.1), pB ((putV q cl e1).2.2)])]) [0] [.obj [pS 1 false enc8 ((putV q cl e1).2.1), pB ((putV q cl e1).2.2)]] rfl rfl rfl (handed_of (by decide) ⟨rfl, trivial⟩) rfl rfl rfl rfl rfl rfl (w_mbap_Stream_Closed ((putV q cl e1).2.1) false ((putV q cl e1).2.2)) rfl (dist_of rfl) rfl rfl rfl rfl ⟨rfl, rfl, rfl⟩) rfl trivial rfl rfl ?_
    refine xy [(37, pB (!true)), (4, PV.ptr 1 0)] [0, 1, 2, 3, 4, 5, 6, 7, 8, 9, 10, 11, 12, 13, 14, 15, 16, 17, 18] rfl rfl rfl rfl rfl ?_
    refine x_run0 [(37, pB (!true)), (4, PV.ptr 1 0)] [0, 1, 2, 3, 4, 5, 6, 7, 8, 9, 10, 11, 12, 13, 14, 15, 16, 17, 18] rfl rfl rfl rfl (s_move rfl ⟨rfl, rfl, rfl⟩) ?_
    refine xy [(37, pB (!true)), (40, PV.ptr 1 0)] [0, 1, 2, 3, 4, 5, 6, 7, 8, 9, 10, 11, 12, 13, 14, 15, 16, 17, 18, 21] rfl rfl rfl rfl rfl ?_
    refine x_run0 [(37, pB (!true)), (40, PV.ptr 1 0)] [0, 1, 2, 3, 4, 5, 6, 7, 8, 9, 10, 11, 12, 13, 14, 15, 16, 17, 18, 21] rfl rfl rfl rfl (s_nilCheck rfl trivial ⟨rfl, rfl, rfl⟩) ?_
    refine xy [(37, pB (!true)), (41, PV.ptr 1 0)] [0, 1, 2, 3, 4, 5, 6, 7, 8, 9, 10, 11, 12, 13, 14, 15, 16, 17, 18, 21, 22] rfl rfl rfl rfl rfl ?_
    refine x_run0 [(37, pB (!true)), (41, PV.ptr 1 0)] [0, 1, 2, 3, 4, 5, 6, 7, 8, 9, 10, 11, 12, 13, 14, 15, 16, 17, 18, 21, 22] rfl rfl rfl rfl (s_fa_ptr tab_81 rfl rfl tab_4 (by decide) rfl ⟨rfl, rfl, rfl⟩) ?_
    refine xy [(37, pB (!true)), (42, PV.ptr 1 1)] [0, 1, 2, 3, 4, 5, 6, 7, 8, 9, 10, 11, 12, 13, 14, 15, 16, 17, 18, 21, 22, 23] rfl rfl rfl rfl rfl ?_
    refine x_run [(37, pB (!true)), (42, PV.ptr 1 1)] [0, 1, 2, 3, 4, 5, 6, 7, 8, 9, 10, 11, 12, 13, 14, 15, 16, 17, 18, 21, 22, 23] [(1, .obj [pS 1 false enc8 ((putV q cl e1).2.1), pB ((putV q cl e1).2.2)])] [] [(1, .obj [pS 1 false enc8 ((putV q cl e1).2.1), pB ((putV q cl e1).2.2)])] [] [(0, .obj [pS 1 false enc8 ((putV q cl e1).2.1), pB ((putV q cl e1).2.2)]), (1, .obj [pS 1 false enc8 ((putV q cl e1).2.1), pB ((putV q cl e1).2.2)])] rfl rfl rfl rfl rfl rfl (s_load_ptr1 tab_4 rfl rfl rfl rfl rfl ⟨rfl, rfl, rfl⟩) rfl ⟨rfl, trivial⟩ rfl rfl ?_
    refine xy [(37, pB (!true)), (39, pB ((putV q cl e1).2.2)), (43, pB ((putV q cl e1).2.2))] [0, 1, 2, 3, 4, 5, 6, 7, 8, 9, 10, 11, 12, 13, 14, 15, 16, 17, 18, 19, 20, 21, 22, 23, 24] rfl rfl rfl rfl rfl ?_
    refine x_run0 [(37, pB (!true)), (39, pB ((putV q cl e1).2.2)), (43, pB ((putV q cl e1).2.2))] [0, 1, 2, 3, 4, 5, 6, 7, 8, 9, 10, 11, 12, 13, 14, 15, 16, 17, 18, 19, 20, 21, 22, 23, 24] rfl rfl rfl rfl (s_nebool tab_4 rfl rfl rfl ⟨rfl, rfl, rfl⟩) ?_
    refine d_op ?_
    refine x_run0 [(37, pB (!true)), (44, pB (!(((putV q cl e1).2.2) == ((putV q cl e1).2.2))))] [0, 1, 2, 3, 4, 5, 6, 7, 8, 9, 10, 11, 12, 13, 14, 15, 16, 17, 18, 19, 20, 21, 22, 23, 24, 25] rfl rfl rfl rfl (s_pick_f rfl rfl rfl ⟨rfl, rfl, rfl⟩) ?_
    refine d_op ?_
    refine x_run0 [(45, pB (!(((putV q cl e1).2.2) == ((putV q cl e1).2.2))))] [0, 1, 2, 3, 4, 5, 6, 7, 8, 9, 10, 11, 12, 13, 14, 15, 16, 17, 18, 19, 20, 21, 22, 23, 24, 25, 26] rfl rfl rfl rfl (s_move rfl ⟨rfl, rfl, rfl⟩) ?_
    refine x_if [(46, pB (!(((putV q cl e1).2.2) == ((putV q cl e1).2.2)))), (3, PV.ptr 0 0)] [0, 1, 2, 3, 4, 5, 6, 7, 8, 9, 10, 11, 12, 13, 14, 15, 16, 17, 18, 19, 20, 21, 22, 23, 24, 25, 26, 27] rfl rfl rfl rfl (fun g2 => ?_) (fun g2 => ?_)
    ·
     have g2' := g2
     try simp only [sB] at g2'
     refine x_run0 [(46, pB (!(((putV q cl e1).2.2) == ((putV q cl e1).2.2)))), (3, PV.ptr 0 0)] [0, 1, 2, 3, 4, 5, 6, 7, 8, 9, 10, 11, 12, 13, 14, 15, 16, 17, 18, 19, 20, 21, 22, 23, 24, 25, 26, 27] rfl rfl rfl rfl (s_move rfl ⟨rfl, rfl, rfl⟩) ?_
     refine xy [(46, pB (!(((putV q cl e1).2.2) == ((putV q cl e1).2.2)))), (47, PV.ptr 0 0)] [0, 1, 2, 3, 4, 5, 6, 7, 8, 9, 10, 11, 12, 13, 14, 15, 16, 17, 18, 19, 20, 21, 22, 23, 24, 25, 26, 27, 28] rfl rfl rfl rfl g2 ?_
     refine x_run [(46, pB (!(((putV q cl e1).2.2) == ((putV q cl e1).2.2)))), (47, PV.ptr 0 0)] [0, 1, 2, 3, 4, 5, 6, 7, 8, 9, 10, 11, 12, 13, 14, 15, 16, 17, 18, 19, 20, 21, 22, 23, 24, 25, 26, 27, 28] [] [(0, .obj [pS 1 false enc8 ((putV q cl e1).2.1), pB ((putV q cl e1).2.2)])] [(0, .obj [pS 1 false enc8 ((putV q cl e1).2.1), pB ((putV q cl e1).2.2)])] [(0, .obj [pS 1 false enc8 ((putV q cl e1).2.1), pB ((putV q cl e1).2.2)])] [(0, .obj [pS 1 false enc8 ((putV q cl e1).2.1), pB ((putV q cl e1).2.2)]), (1, .obj [pS 1 false enc8 ((putV q cl e1).2.1), pB ((putV q cl e1).2.2)])] rfl rfl rfl rfl rfl rfl (s_callX (r2 := pN (((putV q cl e1).2.1).length)) (nx1 := 2) (H2 := [(0, .obj [pS 1 false enc8 ((putV q cl e1).2.1), pB ((putV q cl e1).2.2)])]) (H3 := [(0, .obj [pS 1 false enc8 ((putV q cl e1).2.1), pB ((putV q cl e1).2.2)])]) [0] [.obj [pS 1 false enc8 ((putV q cl e1).2.1), pB ((putV q cl e1).2.2)]] rfl rfl rfl (handed_of (by decide) ⟨rfl, trivial⟩) rfl rfl rfl rfl rfl rfl (w_mbap_Stream_Len ((putV q cl e1).2.1) false ((putV q cl e1).2.2)) rfl (dist_of rfl) rfl rfl rfl rfl ⟨rfl, rfl, rfl⟩) rfl trivial rfl rfl ?_
     refine xy [(46, pB (!(((putV q cl e1).2.2) == ((putV q cl e1).2.2)))), (4, PV.ptr 1 0)] [0, 1, 2, 3, 4, 5, 6, 7, 8, 9, 10, 11, 12, 13, 14, 15, 16, 17, 18, 19, 20, 21, 22, 23, 24, 25, 26, 27] rfl rfl rfl rfl g2 ?_
     refine x_run0 [(46, pB (!(((putV q cl e1).2.2) == ((putV q cl e1).2.2)))), (4, PV.ptr 1 0)] [0, 1, 2, 3, 4, 5, 6, 7, 8, 9, 10, 11, 12, 13, 14, 15, 16, 17, 18, 19, 20, 21, 22, 23, 24, 25, 26, 27] rfl rfl rfl rfl (s_move rfl ⟨rfl, rfl, rfl⟩) ?_
     refine xy [(46, pB (!(((putV q cl e1).2.2) == ((putV q cl e1).2.2)))), (49, PV.ptr 1 0)] [0, 1, 2, 3, 4, 5, 6, 7, 8, 9, 10, 11, 12, 13, 14, 15, 16, 17, 18, 19, 20, 21, 22, 23, 24, 25, 26, 27, 30] rfl rfl rfl rfl g2 ?_
     refine x_run0 [(46, pB (!(((putV q cl e1).2.2) == ((putV q cl e1).2.2)))), (49, PV.ptr 1 0)] [0, 1, 2, 3, 4, 5, 6, 7, 8, 9, 10, 11, 12, 13, 14, 15, 16, 17, 18, 19, 20, 21, 22, 23, 24, 25, 26, 27, 30] rfl rfl rfl rfl (s_nilCheck rfl trivial ⟨rfl, rfl, rfl⟩) ?_
     refine xy [(46, pB (!(((putV q cl e1).2.2) == ((putV q cl e1).2.2)))), (50, PV.ptr 1 0)] [0, 1, 2, 3, 4, 5, 6, 7, 8, 9, 10, 11, 12, 13, 14, 15, 16, 17, 18, 19, 20, 21, 22, 23, 24, 25, 26, 27, 30, 31] rfl rfl rfl rfl g2 ?_
     refine x_run0 [(46, pB (!(((putV q cl e1).2.2) == ((putV q cl e1).2.2)))), (50, PV.ptr 1 0)] [0, 1, 2, 3, 4, 5, 6, 7, 8, 9, 10, 11, 12, 13, 14, 15, 16, 17, 18, 19, 20, 21, 22, 23, 24, 25, 26, 27, 30, 31] rfl rfl rfl rfl (s_fa_ptr tab_81 rfl rfl tab_27 (by decide) rfl ⟨rfl, rfl, rfl⟩) ?_
     refine xy [(46, pB (!(((putV q cl e1).2.2) == ((putV q cl e1).2.2)))), (51, PV.ptr 1 0)] [0, 1, 2, 3, 4, 5, 6, 7, 8, 9, 10, 11, 12, 13, 14, 15, 16, 17, 18, 19, 20, 21, 22, 23, 24, 25, 26, 27, 30, 31, 32] rfl rfl rfl rfl g2 ?_
     refine x_run [(46, pB (!(((putV q cl e1).2.2) == ((putV q cl e1).2.2)))), (51, PV.ptr 1 0)] [0, 1, 2, 3, 4, 5, 6, 7, 8, 9, 10, 11, 12, 13, 14, 15, 16, 17, 18, 19, 20, 21, 22, 23, 24, 25, 26, 27, 30, 31, 32] [(1, .obj [pS 1 false enc8 ((putV q cl e1).2.1), pB ((putV q cl e1).2.2)])] [] [(1, .obj [pS 1 false enc8 ((putV q cl e1).2.1), pB ((putV q cl e1).2.2)])] [] [(0, .obj [pS 1 false enc8 ((putV q cl e1).2.1), pB ((putV q cl e1).2.2)]), (1, .obj [pS 1 false enc8 ((putV q cl e1).2.1), pB ((putV q cl e1).2.2)])] rfl rfl rfl rfl rfl rfl (s_load_ptr1 tab_27 rfl rfl rfl rfl rfl ⟨rfl, rfl, rfl⟩) rfl ⟨rfl, trivial⟩ rfl rfl ?_
     refine xy [(46, pB (!(((putV q cl e1).2.2) == ((putV q cl e1).2.2)))), (52, pS 1 false enc8 ((putV q cl e1).2.1))] [0, 1, 2, 3, 4, 5, 6, 7, 8, 9, 10, 11, 12, 13, 14, 15, 16, 17, 18, 19, 20, 21, 22, 23, 24, 25, 26, 27, 30, 31, 32, 33] rfl rfl rfl rfl g2 ?_
     refine x_run0 [(46, pB (!(((putV q cl e1).2.2) == ((putV q cl e1).2.2)))), (52, pS 1 false enc8 ((putV q cl e1).2.1))] [0, 1, 2, 3, 4, 5, 6, 7, 8, 9, 10, 11, 12, 13, 14, 15, 16, 17, 18, 19, 20, 21, 22, 23, 24, 25, 26, 27, 30, 31, 32, 33] rfl rfl rfl rfl (s_lenM (l := (putV q cl e1).2.1) tab_27 rfl (hM_sl (f := enc8) rfl) ⟨rfl, rfl, rfl⟩) ?_
     refine xy [(46, pB (!(((putV q cl e1).2.2) == ((putV q cl e1).2.2)))), (48, pN (((putV q cl e1).2.1).length)), (53, pN (((putV q cl e1).2.1).length))] [0, 1, 2, 3, 4, 5, 6, 7, 8, 9, 10, 11, 12, 13, 14, 15, 16, 17, 18, 19, 20, 21, 22, 23, 24, 25, 26, 27, 28, 29, 30, 31, 32, 33, 34] rfl rfl rfl rfl g2 ?_
     refine x_run0 [(46, pB (!(((putV q cl e1).2.2) == ((putV q cl e1).2.2)))), (48, pN (((putV q cl e1).2.1).length)), (53, pN (((putV q cl e1).2.1).length))] [0, 1, 2, 3, 4, 5, 6, 7, 8, 9, 10, 11, 12, 13, 14, 15, 16, 17, 18, 19, 20, 21, 22, 23, 24, 25, 26, 27, 28, 29, 30, 31, 32, 33, 34] rfl rfl rfl rfl (s_neq rfl rfl ⟨rfl, rfl, rfl⟩) ?_
     refine d_op ?_
     refine x_run0 [(46, pB (!(((putV q cl e1).2.2) == ((putV q cl e1).2.2)))), (54, pB (!decide (((((putV q cl e1).2.1).length : Nat) : Int) = ((((putV q cl e1).2.1).length : Nat) : Int))))] [0, 1, 2, 3, 4, 5, 6, 7, 8, 9, 10, 11, 12, 13, 14, 15, 16, 17, 18, 19, 20, 21, 22, 23, 24, 25, 26, 27, 28, 29, 30, 31, 32, 33, 34, 35] rfl rfl rfl rfl (s_pick_f rfl g2 rfl ⟨rfl, rfl, rfl⟩) ?_
     refine d_end ⟨by kernel_rfl, ?_⟩
     refine q_then ?_
     refine w_if rfl (fun c2 => ?_) (fun c2 => ?_)
     ·
      have c2_ := c2
      exact absurd c2 (by simp)
     ·
      have c2_ := c2
      try simp only [sB] at c2
      refine w_skip ?_
      refine q_then ?_
      refine w_seq ?_
      refine w_R ?_
      refine qm hnt rfl rfl ?_
      refine qo hnt rfl (s_remN (a := i) (b := 3) rfl rfl (by omega) (by omega) (by omega) ?_)
      refine qo hnt rfl (s_eql rfl rfl ?_)
      refine r_set [(0, pS 1 cl_rows (encS 1 enc8) rows), (3, PV.ptr 0 0), (4, PV.ptr 1 0), (5, pN i), (14, pN i), (15, pB (decide (((i : Nat) : Int) < 40))), (22, PV.ptr 0 0), (23, pS 1 cl_rows (encS 1 enc8) rows), (24, pN i), (25, PV.f (.ro (FV.sl 1 false (List.map enc8 e1)))), (26, pS 1 false enc8 e1), (27, pS 3 true eMsg ((putV q cl e1).1)), (28, PV.ptr 1 0), (29, pS 1 cl_rows (encS 1 enc8) rows), (30, pN i), (31, PV.f (.ro (FV.sl 1 false (List.map enc8 e1)))), (32, pS 1 false enc8 e1), (33, pS 3 false eMsg ((putV q cl e1).1)), (34, pB true), (35, pB (!true)), (38, PV.ptr 0 0), (39, pB ((putV q cl e1).2.2)), (40, PV.ptr 1 0), (41, PV.ptr 1 0), (42, PV.ptr 1 1), (43, pB ((putV q cl e1).2.2)), (44, pB (!(((putV q cl e1).2.2) == ((putV q cl e1).2.2)))), (47, PV.ptr 0 0), (48, pN (((putV q cl e1).2.1).length)), (49, PV.ptr 1 0), (50, PV.ptr 1 0), (51, PV.ptr 1 0), (52, pS 1 false enc8 ((putV q cl e1).2.1)), (53, pN (((putV q cl e1).2.1).length)), (54, pB (!decide (((((putV q cl e1).2.1).length : Nat) : Int) = ((((putV q cl e1).2.1).length : Nat) : Int)))), (58, pB (decide (((i % 3 : Nat) : Int) = 2)))] [(0, .obj [pS 1 false enc8 ((putV q cl e1).2.1), pB ((putV q cl e1).2.2)]), (1, .obj [pS 1 false enc8 ((putV q cl e1).2.1), pB ((putV q cl e1).2.2)])] 2 ⟨rfl, rfl, rfl, rfl, rfl, rfl, rfl, rfl, rfl, rfl, rfl, rfl, rfl, rfl, rfl, rfl, rfl, rfl, rfl, rfl, rfl, rfl, rfl, rfl, rfl, rfl, rfl, rfl, rfl, rfl, rfl, rfl, rfl, rfl, rfl, rfl, trivial⟩ rfl rfl ?_
      refine r_end ?_
      refine q_then ?_
      refine w_if rfl (fun c3 => ?_) (fun c3 => ?_)
      ·
       have c3_ := c3
       try simp only [sB] at c3
       refine w_seq ?_
       refine w_R ?_
       refine qm hnt rfl rfl ?_
       refine qo hnt rfl (s_callX (r2 := PV.tup []) (nx1 := 2) (H2 := [(0, .obj [pS 1 false enc8 ((putV q cl e1).2.1), pB ((putV q cl e1).2.2)]), (1, .obj [pS 1 false enc8 ((putV q cl e1).2.1), pB ((putV q cl e1).2.2)])]) (H3 := [(0, .obj [pS 1 false enc8 ((putV q cl e1).2.1), pB false]), (1, .obj [pS 1 false enc8 ((putV q cl e1).2.1), pB ((putV q cl e1).2.2)])]) [0] [.obj [pS 1 false enc8 ((putV q cl e1).2.1), pB ((putV q cl e1).2.2)]] rfl rfl rfl (handed_of (by decide) ⟨rfl, trivial⟩) rfl rfl rfl rfl rfl rfl (w_mbap_Stream_Open ((putV q cl e1).2.1) false ((putV q cl e1).2.2)) rfl (dist_of rfl) rfl rfl rfl rfl ?_)
       refine r_set [(0, pS 1 cl_rows (encS 1 enc8) rows), (3, PV.ptr 0 0), (4, PV.ptr 1 0), (5, pN i), (14, pN i), (15, pB (decide (((i : Nat) : Int) < 40))), (22, PV.ptr 0 0), (23, pS 1 cl_rows (encS 1 enc8) rows), (24, pN i), (25, PV.f (.ro (FV.sl 1 false (List.map enc8 e1)))), (26, pS 1 false enc8 e1), (27, pS 3 true eMsg ((putV q cl e1).1)), (28, PV.ptr 1 0), (29, pS 1 cl_rows (encS 1 enc8) rows), (30, pN i), (31, PV.f (.ro (FV.sl 1 false (List.map enc8 e1)))), (32, pS 1 false enc8 e1), (33, pS 3 false eMsg ((putV q cl e1).1)), (34, pB true), (35, pB (!true)), (38, PV.ptr 0 0), (39, pB ((putV q cl e1).2.2)), (40, PV.ptr 1 0), (41, PV.ptr 1 0), (42, PV.ptr 1 1), (43, pB ((putV q cl e1).2.2)), (44, pB (!(((putV q cl e1).2.2) == ((putV q cl e1).2.2)))), (47, PV.ptr 0 0), (48, pN (((putV q cl e1).2.1).length)), (49, PV.ptr 1 0), (50, PV.ptr 1 0), (51, PV.ptr 1 0), (52, pS 1 false enc8 ((putV q cl e1).2.1)), (53, pN (((putV q cl e1).2.1).length)), (54, pB (!decide (((((putV q cl e1).2.1).length : Nat) : Int) = ((((putV q cl e1).2.1).length : Nat) : Int))))] [(0, .obj [pS 1 false enc8 ((putV q cl e1).2.1), pB false]), (1, .obj [pS 1 false enc8 ((putV q cl e1).2.1), pB ((putV q cl e1).2.2)])] 2 ⟨rfl, rfl, rfl, rfl, rfl, rfl, rfl, rfl, rfl, rfl, rfl, rfl, rfl, rfl, rfl, rfl, rfl, rfl, rfl, rfl, rfl, rfl, rfl, rfl, rfl, rfl, rfl, rfl, rfl, rfl, rfl, rfl, rfl, rfl, rfl, trivial⟩ rfl rfl ?_
       refine r_end ?_
       refine q_then ?_
       refine w_R ?_
       refine qm hnt rfl rfl ?_
       refine qo hnt rfl (s_callX (r2 := PV.tup []) (nx1 := 2) (H2 := [(0, .obj [pS 1 false enc8 ((putV q cl e1).2.1), pB false]), (1, .obj [pS 1 false enc8 ((putV q cl e1).2.1), pB ((putV q cl e1).2.2)])]) (H3 := [(1, .obj [pS 1 false enc8 ((putV q cl e1).2.1), pB false]), (0, .obj [pS 1 false enc8 ((putV q cl e1).2.1), pB false])]) [1] [.obj [pS 1 false enc8 ((putV q cl e1).2.1), pB ((putV q cl e1).2.2)]] rfl rfl rfl (handed_of (by decide) ⟨rfl, trivial⟩) rfl rfl rfl rfl rfl rfl (w_burgageref5_Stream_Open ((putV q cl e1).2.1) false ((putV q cl e1).2.2)) rfl (dist_of rfl) rfl rfl rfl rfl ?_)
       refine r_set [(0, pS 1 cl_rows (encS 1 enc8) rows), (3, PV.ptr 0 0), (4, PV.ptr 1 0), (5, pN i), (14, pN i), (15, pB (decide (((i : Nat) : Int) < 40))), (22, PV.ptr 0 0), (23, pS 1 cl_rows (encS 1 enc8) rows), (24, pN i), (25, PV.f (.ro (FV.sl 1 false (List.map enc8 e1)))), (26, pS 1 false enc8 e1), (27, pS 3 true eMsg ((putV q cl e1).1)), (28, PV.ptr 1 0), (29, pS 1 cl_rows (encS 1 enc8) rows), (30, pN i), (31, PV.f (.ro (FV.sl 1 false (List.map enc8 e1)))), (32, pS 1 false enc8 e1), (33, pS 3 false eMsg ((putV q cl e1).1)), (34, pB true), (35, pB (!true)), (38, PV.ptr 0 0), (39, pB ((putV q cl e1).2.2)), (40, PV.ptr 1 0), (41, PV.ptr 1 0), (42, PV.ptr 1 1), (43, pB ((putV q cl e1).2.2)), (44, pB (!(((putV q cl e1).2.2) == ((putV q cl e1).2.2)))), (47, PV.ptr 0 0), (48, pN (((putV q cl e1).2.1).length)), (49, PV.ptr 1 0), (50, PV.ptr 1 0), (51, PV.ptr 1 0), (52, pS 1 false enc8 ((putV q cl e1).2.1)), (53, pN (((putV q cl e1).2.1).length)), (54, pB (!decide (((((putV q cl e1).2.1).length : Nat) : Int) = ((((putV q cl e1).2.1).length : Nat) : Int))))] [(1, .obj [pS 1 false enc8 ((putV q cl e1).2.1), pB false]), (0, .obj [pS 1 false enc8 ((putV q cl e1).2.1), pB false])] 2 ⟨rfl, rfl, rfl, rfl, rfl, rfl, rfl, rfl, rfl, rfl, rfl, rfl, rfl, rfl, rfl, rfl, rfl, rfl, rfl, rfl, rfl, rfl, rfl, rfl, rfl, rfl, rfl, rfl, rfl, rfl, rfl, rfl, rfl, rfl, rfl, trivial⟩ rfl rfl ?_
       refine r_end ?_
       refine q_block ?_
       refine q_then ?_
       refine w_R ?_
       refine qm hnt rfl rfl ?_
       refine qo hnt rfl (s_addN (a := i) (b := 1) rfl rfl (by omega) (by omega) (by omega) ?_)
       refine qa hnt rfl rfl ?_
       refine r_end ?_
       refine q_then ?_
       refine ⟨(((putV q cl e1).2.1)), (false), (i + 1), ?_, ?_, ⟨[(0, 0), (1, 1)], by rw [hk]; decide, ⟨⟨_, rfl, rfl, rfl⟩, ⟨_, rfl, rfl, rfl⟩, ⟨_, rfl, rfl, rfl⟩, ⟨_, rfl, rfl, rfl⟩, trivial⟩, ⟨⟨_, _, rfl, rfl, rfl, rfl⟩, ⟨_, _, rfl, rfl, rfl, rfl⟩, trivial⟩, by rw [hk]; decide⟩⟩
       ·
        exact ⟨by omega, by omega, putV_left hq⟩
       · omega
      ·
       have c3_ := c3
       try simp only [sB] at c3
       refine w_skip ?_
       refine q_block ?_
       refine q_then ?_
       refine w_R ?_
       refine qm hnt rfl rfl ?_
       refine qo hnt rfl (s_addN (a := i) (b := 1) rfl rfl (by omega) (by omega) (by omega) ?_)
       refine qa hnt rfl rfl ?_
       refine r_end ?_
       refine q_then ?_
       refine ⟨(((putV q cl e1).2.1)), (((putV q cl e1).2.2)), (i + 1), ?_, ?_, ⟨[(0, 0), (1, 1)], by rw [hk]; decide, ⟨⟨_, rfl, rfl, rfl⟩, ⟨_, rfl, rfl, rfl⟩, ⟨_, rfl, rfl, rfl⟩, ⟨_, rfl, rfl, rfl⟩, trivial⟩, ⟨⟨_, _, rfl, rfl, rfl, rfl⟩, ⟨_, _, rfl, rfl, rfl, rfl⟩, trivial⟩, by rw [hk]; decide⟩⟩
       ·
        exact ⟨by omega, by omega, putV_left hq⟩
       · omega
    ·
     exact absurd g2 (by simp)
   ·
    have c1_ := c1
    try simp only [sB] at c1
    refine w_exit ?_
    refine q_then_exit ?_
    refine q_then_exit ?_
    refine q_block_exit ?_
    refine q_then ?_
    refine w_seq ?_
    refine W_drawn tabOk mixed hnt [[], [0], [0, 1], [0, 1, 2], [0, 1, 2, 3], [0, 1, 2], [0, 1, 2, 5], [0, 1, 2, 5, 6], [0, 1, 2, 5, 6, 7], [0, 1, 2, 3, 4, 5, 6, 7, 8], [0, 1, 2, 3, 4, 5, 6, 7, 8, 9], [0, 1, 2, 3, 4, 5, 6, 7, 8, 9, 10], [0, 1, 2, 3, 4, 5, 6, 7, 8, 9, 10, 11], [0, 1, 2, 3, 4, 5, 6, 7, 8, 9, 10, 11, 12], [0, 1, 2, 3, 4, 5, 6, 7, 8, 9, 10, 11], [0, 1, 2, 3, 4, 5, 6, 7, 8, 9, 10, 11, 14], [0, 1, 2, 3, 4, 5, 6, 7, 8, 9, 10, 11, 14, 15], [0, 1, 2, 3, 4, 5, 6, 7, 8, 9, 10, 11, 14, 15, 16], [0, 1, 2, 3, 4, 5, 6, 7, 8, 9, 10, 11, 14, 15, 16, 17], [0, 1, 2, 3, 4, 5, 6, 7, 8, 9, 10, 11, 12, 13, 14, 15, 16, 17, 18], [0, 1, 2, 3, 4, 5, 6, 7, 8, 9, 10, 11, 12, 13, 14, 15, 16, 17, 18, 19], [0, 1, 2, 3, 4, 5, 6, 7, 8, 9, 10, 11, 12, 13, 14, 15, 16, 17, 18, 19, 20]] (by kernel_rfl) ?_
    refine d_op ?_
    refine x_run0 [(3, PV.ptr 0 0)] [] rfl rfl rfl rfl (s_move rfl ⟨rfl, rfl, rfl⟩) ?_
    refine d_op ?_
    refine x_run [(63, PV.ptr 0 0)] [0] [(0, .obj [pS 1 false enc8 q, pB cl])] [] [(0, .obj [pS 1 false enc8 q, pB cl])] [] [(0, .obj [pS 1 false enc8 q, pB cl]), (1, .obj [pS 1 false enc8 q, pB cl])] rfl rfl rfl rfl rfl rfl (s_ptrnot tab_37 rfl rfl trivial ⟨rfl, rfl, rfl⟩) rfl ⟨rfl, trivial⟩ rfl rfl ?_
    refine d_op ?_
    refine x_run0 [(64, pB true)] [0, 1] rfl rfl rfl rfl (s_move rfl ⟨rfl, rfl, rfl⟩) ?_
    refine xy [(65, pB true), (3, PV.ptr 0 0)] [0, 1, 2] rfl rfl rfl rfl rfl ?_
    refine x_run0 [(65, pB true), (3, PV.ptr 0 0)] [0, 1, 2] rfl rfl rfl rfl (s_move rfl ⟨rfl, rfl, rfl⟩) ?_
    refine xy [(65, pB true), (66, PV.ptr 0 0)] [0, 1, 2, 3] rfl rfl rfl rfl rfl ?_
    refine x_run [(65, pB true), (66, PV.ptr 0 0)] [0, 1, 2, 3] [] [(0, .obj [pS 1 false enc8 q, pB cl])] [(0, .obj [pS 1 false enc8 q, pB cl])] [(0, .obj [pS 1 false enc8 q, pB cl])] [(0, .obj [pS 1 false enc8 q, pB cl]), (1, .obj [pS 1 false enc8 q, pB cl])] rfl rfl rfl rfl rfl rfl (s_callX (r2 := pB cl) (nx1 := 2) (H2 := [(0, .obj [pS 1 false enc8 q, pB cl])]) (H3 := [(0, .obj [pS 1 false enc8 q, pB cl])]) [0] [.obj [pS 1 false enc8 q, pB cl]] rfl rfl rfl (handed_of (by decide) ⟨rfl, trivial⟩) rfl rfl rfl rfl rfl rfl (w_mbap_Stream_Closed q false cl) rfl (dist_of rfl) rfl rfl rfl rfl ⟨rfl, rfl, rfl⟩) rfl trivial rfl rfl ?_
    refine xy [(65, pB true), (4, PV.ptr 1 0)] [0, 1, 2] rfl rfl rfl rfl rfl ?_
    refine x_run0 [(65, pB true), (4, PV.ptr 1 0)] [0, 1, 2] rfl rfl rfl rfl (s_move rfl ⟨rfl, rfl, rfl⟩) ?_
    refine xy [(65, pB true), (68, PV.ptr 1 0)] [0, 1, 2, 5] rfl rfl rfl rfl rfl ?_
    refine x_run0 [(65, pB true), (68, PV.ptr 1 0)] [0, 1, 2, 5] rfl rfl rfl rfl (s_nilCheck rfl trivial ⟨rfl, rfl, rfl⟩) ?_
    refine xy [(65, pB true), (69, PV.ptr 1 0)] [0, 1, 2, 5, 6] rfl rfl rfl rfl rfl ?_
    refine x_run0 [(65, pB true), (69, PV.ptr 1 0)] [0, 1, 2, 5, 6] rfl rfl rfl rfl (s_fa_ptr tab_81 rfl rfl tab_4 (by decide) rfl ⟨rfl, rfl, rfl⟩) ?_
    refine xy [(65, pB true), (70, PV.ptr 1 1)] [0, 1, 2, 5, 6, 7] rfl rfl rfl rfl rfl ?_
    refine x_run [(65, pB true), (70, PV.ptr 1 1)] [0, 1, 2, 5, 6, 7] [(1, .obj [pS 1 false enc8 q, pB cl])] [] [(1, .obj [pS 1 false enc8 q, pB cl])] [] [(0, .obj [pS 1 false enc8 q, pB cl]), (1, .obj [pS 1 false enc8 q, pB cl])] rfl rfl rfl rfl rfl rfl (s_load_ptr1 tab_4 rfl rfl rfl rfl rfl ⟨rfl, rfl, rfl⟩) rfl ⟨rfl, trivial⟩ rfl rfl ?_
    refine xy [(65, pB true), (67, pB cl), (71, pB cl)] [0, 1, 2, 3, 4, 5, 6, 7, 8] rfl rfl rfl rfl rfl ?_
    refine x_run0 [(65, pB true), (67, pB cl), (71, pB cl)] [0, 1, 2, 3, 4, 5, 6, 7, 8] rfl rfl rfl rfl (s_eqbool tab_4 rfl rfl rfl ⟨rfl, rfl, rfl⟩) ?_
    refine d_op ?_
    refine x_run0 [(65, pB true), (72, pB (cl == cl))] [0, 1, 2, 3, 4, 5, 6, 7, 8, 9] rfl rfl rfl rfl (s_pick_t rfl rfl rfl ⟨rfl, rfl, rfl⟩) ?_
    refine d_op ?_
    refine x_run0 [(73, pB (cl == cl))] [0, 1, 2, 3, 4, 5, 6, 7, 8, 9, 10] rfl rfl rfl rfl (s_move rfl ⟨rfl, rfl, rfl⟩) ?_
    refine x_if [(74, pB (cl == cl)), (3, PV.ptr 0 0)] [0, 1, 2, 3, 4, 5, 6, 7, 8, 9, 10, 11] rfl rfl rfl rfl (fun g3 => ?_) (fun g3 => ?_)
    ·
     have g3' := g3
     try simp only [sB] at g3'
     refine x_run0 [(74, pB (cl == cl)), (3, PV.ptr 0 0)] [0, 1, 2, 3, 4, 5, 6, 7, 8, 9, 10, 11] rfl rfl rfl rfl (s_move rfl ⟨rfl, rfl, rfl⟩) ?_
     refine xy [(74, pB (cl == cl)), (75, PV.ptr 0 0)] [0, 1, 2, 3, 4, 5, 6, 7, 8, 9, 10, 11, 12] rfl rfl rfl rfl g3 ?_
     refine x_run [(74, pB (cl == cl)), (75, PV.ptr 0 0)] [0, 1, 2, 3, 4, 5, 6, 7, 8, 9, 10, 11, 12] [] [(0, .obj [pS 1 false enc8 q, pB cl])] [(0, .obj [pS 1 false enc8 q, pB cl])] [(0, .obj [pS 1 false enc8 q, pB cl])] [(0, .obj [pS 1 false enc8 q, pB cl]), (1, .obj [pS 1 false enc8 q, pB cl])] rfl rfl rfl rfl rfl rfl (s_callX (r2 := pN q.length) (nx1 := 2) (H2 := [(0, .obj [pS 1 false enc8 q, pB cl])]) (H3 := [(0, .obj [pS 1 false enc8 q, pB cl])]) [0] [.obj [pS 1 false enc8 q, pB cl]] rfl rfl rfl (handed_of (by decide) ⟨rfl, trivial⟩) rfl rfl rfl rfl rfl rfl (w_mbap_Stream_Len q false cl) rfl (dist_of rfl) rfl rfl rfl rfl ⟨rfl, rfl, rfl⟩) rfl trivial rfl rfl ?_
     refine xy [(74, pB (cl == cl)), (4, PV.ptr 1 0)] [0, 1, 2, 3, 4, 5, 6, 7, 8, 9, 10, 11] rfl rfl rfl rfl g3 ?_
     refine x_run0 [(74, pB (cl == cl)), (4, PV.ptr 1 0)] [0, 1, 2, 3, 4, 5, 6, 7, 8, 9, 10, 11] rfl rfl rfl rfl (s_move rfl ⟨rfl, rfl, rfl⟩) ?_
     refine xy [(74, pB (cl == cl)), (77, PV.ptr 1 0)] [0, 1, 2, 3, 4, 5, 6, 7, 8, 9, 10, 11, 14] rfl rfl rfl rfl g3 ?_
     refine x_run0 [(74, pB (cl == cl)), (77, PV.ptr 1 0)] [0, 1, 2, 3, 4, 5, 6, 7, 8, 9, 10, 11, 14] rfl rfl rfl rfl (s_nilCheck rfl trivial ⟨rfl, rfl, rfl⟩) ?_
     refine xy [(74, pB (cl == cl)), (78, PV.ptr 1 0)] [0, 1, 2, 3, 4, 5, 6, 7, 8, 9, 10, 11, 14, 15] rfl rfl rfl rfl g3 ?_
     refine x_run0 [(74, pB (cl == cl)), (78, PV.ptr 1 0)] [0, 1, 2, 3, 4, 5, 6, 7, 8, 9, 10, 11, 14, 15] rfl rfl rfl rfl (s_fa_ptr tab_81 rfl rfl tab_27 (by decide) rfl ⟨rfl, rfl, rfl⟩) ?_
     refine xy [(74, pB (cl == cl)), (79, PV.ptr 1 0)] [0, 1, 2, 3, 4, 5, 6, 7, 8, 9, 10, 11, 14, 15, 16] rfl rfl rfl rfl g3 ?_
     refine x_run [(74, pB (cl == cl)), (79, PV.ptr 1 0)] [0, 1, 2, 3, 4, 5, 6, 7, 8, 9, 10, 11, 14, 15, 16] [(1, .obj [pS 1 false enc8 q, pB cl])] [] [(1, .obj [pS 1 false enc8 q, pB cl])] [] [(0, .obj [pS 1 false enc8 q, pB cl]), (1, .obj [pS 1 false enc8 q, pB cl])] rfl rfl rfl rfl rfl rfl (s_load_ptr1 tab_27 rfl rfl rfl rfl rfl ⟨rfl, rfl, rfl⟩) rfl ⟨rfl, trivial⟩ rfl rfl ?_
     refine xy [(74, pB (cl == cl)), (80, pS 1 false enc8 q)] [0, 1, 2, 3, 4, 5, 6, 7, 8, 9, 10, 11, 14, 15, 16, 17] rfl rfl rfl rfl g3 ?_
     refine x_run0 [(74, pB (cl == cl)), (80, pS 1 false enc8 q)] [0, 1, 2, 3, 4, 5, 6, 7, 8, 9, 10, 11, 14, 15, 16, 17] rfl rfl rfl rfl (s_lenM (l := q) tab_27 rfl (hM_sl (f := enc8) rfl) ⟨rfl, rfl, rfl⟩) ?_
     refine xy [(74, pB (cl == cl)), (76, pN q.length), (81, pN q.length)] [0, 1, 2, 3, 4, 5, 6, 7, 8, 9, 10, 11, 12, 13, 14, 15, 16, 17, 18] rfl rfl rfl rfl g3 ?_
     refine x_run0 [(74, pB (cl == cl)), (76, pN q.length), (81, pN q.length)] [0, 1, 2, 3, 4, 5, 6, 7, 8, 9, 10, 11, 12, 13, 14, 15, 16, 17, 18] rfl rfl rfl rfl (s_eql rfl rfl ⟨rfl, rfl, rfl⟩) ?_
     refine d_op ?_
     refine x_run0 [(74, pB (cl == cl)), (82, pB (decide (((q.length : Nat) : Int) = ((q.length : Nat) : Int))))] [0, 1, 2, 3, 4, 5, 6, 7, 8, 9, 10, 11, 12, 13, 14, 15, 16, 17, 18, 19] rfl rfl rfl rfl (s_pick_t rfl g3 rfl ⟨rfl, rfl, rfl⟩) ?_
     refine d_op ?_
     refine x_run0 [(83, pB (decide (((q.length : Nat) : Int) = ((q.length : Nat) : Int))))] [0, 1, 2, 3, 4, 5, 6, 7, 8, 9, 10, 11, 12, 13, 14, 15, 16, 17, 18, 19, 20] rfl rfl rfl rfl (s_assign rfl ⟨rfl, rfl, rfl⟩) ?_
     refine d_end ⟨by kernel_rfl, ?_⟩
     refine q_then ?_
     refine w_le (s := 2) (y := pB true) rfl (le_of_eq (congrArg (fun z : Bool => pB z) (show (decide (((q.length : Nat) : Int) = ((q.length : Nat) : Int))) = true by simp))) ?_
     refine w_ret ?_
     exact fin_plain (ret_tmp rfl ret_nil) rfl rfl ⟨rfl, rfl, rfl⟩
    ·
     exact absurd g3 (by simp)
  ·
   have g1' := g1
   try simp only [sB] at g1'
   refine rn hnt rfl rfl rfl g1 ?_
   refine qo hnt rfl (s_pick_f rfl g1 rfl ?_)
   refine r_end ?_
   refine q_then ?_
   refine w_if rfl (fun e => absurd e (by decide)) (fun _ => ?_)
   refine w_exit ?_
   refine q_then_exit ?_
   refine q_then_exit ?_
   refine q_block_exit ?_
   refine q_then ?_
   refine w_seq ?_
   refine W_drawn tabOk mixed hnt [[], [0], [0, 1], [0, 1, 2], [0, 1, 2, 3], [0, 1, 2], [0, 1, 2, 5], [0, 1, 2, 5, 6], [0, 1, 2, 5, 6, 7], [0, 1, 2, 3, 4, 5, 6, 7, 8], [0, 1, 2, 3, 4, 5, 6, 7, 8, 9], [0, 1, 2, 3, 4, 5, 6, 7, 8, 9, 10], [0, 1, 2, 3, 4, 5, 6, 7, 8, 9, 10, 11], [0, 1, 2, 3, 4, 5, 6, 7, 8, 9, 10, 11, 12], [0, 1, 2, 3, 4, 5, 6, 7, 8, 9, 10, 11], [0, 1, 2, 3, 4, 5, 6, 7, 8, 9, 10, 11, 14], [0, 1, 2, 3, 4, 5, 6, 7, 8, 9, 10, 11, 14, 15], [0, 1, 2, 3, 4, 5, 6, 7, 8, 9, 10, 11, 14, 15, 16], [0, 1, 2, 3, 4, 5, 6, 7, 8, 9, 10, 11, 14, 15, 16, 17], [0, 1, 2, 3, 4, 5, 6, 7, 8, 9, 10, 11, 12, 13, 14, 15, 16, 17, 18], [0, 1, 2, 3, 4, 5, 6, 7, 8, 9, 10, 11, 12, 13, 14, 15, 16, 17, 18, 19], [0, 1, 2, 3, 4, 5, 6, 7, 8, 9, 10, 11, 12, 13, 14, 15, 16, 17, 18, 19, 20]] (by kernel_rfl) ?_
   refine d_op ?_
   refine x_run0 [(3, PV.ptr 0 0)] [] rfl rfl rfl rfl (s_move rfl ⟨rfl, rfl, rfl⟩) ?_
   refine d_op ?_
   refine x_run [(63, PV.ptr 0 0)] [0] [(0, .obj [pS 1 false enc8 q, pB cl])] [] [(0, .obj [pS 1 false enc8 q, pB cl])] [] [(0, .obj [pS 1 false enc8 q, pB cl]), (1, .obj [pS 1 false enc8 q, pB cl])] rfl rfl rfl rfl rfl rfl (s_ptrnot tab_37 rfl rfl trivial ⟨rfl, rfl, rfl⟩) rfl ⟨rfl, trivial⟩ rfl rfl ?_
   refine d_op ?_
   refine x_run0 [(64, pB true)] [0, 1] rfl rfl rfl rfl (s_move rfl ⟨rfl, rfl, rfl⟩) ?_
   refine xy [(65, pB true), (3, PV.ptr 0 0)] [0, 1, 2] rfl rfl rfl rfl rfl ?_
   refine x_run0 [(65, pB true), (3, PV.ptr 0 0)] [0, 1, 2] rfl rfl rfl rfl (s_move rfl ⟨rfl, rfl, rfl⟩) ?_
   refine xy [(65, pB true), (66, PV.ptr 0 0)] [0, 1, 2, 3] rfl rfl rfl rfl rfl ?_
   refine x_run [(65, pB true), (66, PV.ptr 0 0)] [0, 1, 2, 3] [] [(0, .obj [pS 1 false enc8 q, pB cl])] [(0, .obj [pS 1 false enc8 q, pB cl])] [(0, .obj [pS 1 false enc8 q, pB cl])] [(0, .obj [pS 1 false enc8 q, pB cl]), (1, .obj [pS 1 false enc8 q, pB cl])] rfl rfl rfl rfl rfl rfl (s_callX (r2 := pB cl) (nx1 := 2) (H2 := [(0, .obj [pS 1 false enc8 q, pB cl])]) (H3 := [(0, .obj [pS 1 false enc8 q, pB cl])]) [0] [.obj [pS 1 false enc8 q, pB cl]] rfl rfl rfl (handed_of (by decide) ⟨rfl, trivial⟩) rfl rfl rfl rfl rfl rfl (w_mbap_Stream_Closed q false cl) rfl (dist_of rfl) rfl rfl rfl rfl ⟨rfl, rfl, rfl⟩) rfl trivial rfl rfl ?_
   refine xy [(65, pB true), (4, PV.ptr 1 0)] [0, 1, 2] rfl rfl rfl rfl rfl ?_
   refine x_run0 [(65, pB true), (4, PV.ptr 1 0)] [0, 1, 2] rfl rfl rfl rfl (s_move rfl ⟨rfl, rfl, rfl⟩) ?_
   refine xy [(65, pB true), (68, PV.ptr 1 0)] [0, 1, 2, 5] rfl rfl rfl rfl rfl ?_
   refine x_run0 [(65, pB true), (68, PV.ptr 1 0)] [0, 1, 2, 5] rfl rfl rfl rfl (s_nilCheck rfl trivial ⟨rfl, rfl, rfl⟩) ?_
   refine xy [(65, pB true), (69, PV.ptr 1 0)] [0, 1, 2, 5, 6] rfl rfl rfl rfl rfl ?_
   refine x_run0 [(65, pB true), (69, PV.ptr 1 0)] [0, 1, 2, 5, 6] rfl rfl rfl rfl (s_fa_ptr tab_81 rfl rfl tab_4 (by decide) rfl ⟨rfl, rfl, rfl⟩) ?_
   refine xy [(65, pB true), (70, PV.ptr 1 1)] [0, 1, 2, 5, 6, 7] rfl rfl rfl rfl rfl ?_
   refine x_run [(65, pB true), (70, PV.ptr 1 1)] [0, 1, 2, 5, 6, 7] [(1, .obj [pS 1 false enc8 q, pB cl])] [] [(1, .obj [pS 1 false enc8 q, pB cl])] [] [(0, .obj [pS 1 false enc8 q, pB cl]), (1, .obj [pS 1 false enc8 q, pB cl])] rfl rfl rfl rfl rfl rfl (s_load_ptr1 tab_4 rfl rfl rfl rfl rfl ⟨rfl, rfl, rfl⟩) rfl ⟨rfl, trivial⟩ rfl rfl ?_
   refine xy [(65, pB true), (67, pB cl), (71, pB cl)] [0, 1, 2, 3, 4, 5, 6, 7, 8] rfl rfl rfl rfl rfl ?_
   refine x_run0 [(65, pB true), (67, pB cl), (71, pB cl)] [0, 1, 2, 3, 4, 5, 6, 7, 8] rfl rfl rfl rfl (s_eqbool tab_4 rfl rfl rfl ⟨rfl, rfl, rfl⟩) ?_
   refine d_op ?_
   refine x_run0 [(65, pB true), (72, pB (cl == cl))] [0, 1, 2, 3, 4, 5, 6, 7, 8, 9] rfl rfl rfl rfl (s_pick_t rfl rfl rfl ⟨rfl, rfl, rfl⟩) ?_
   refine d_op ?_
   refine x_run0 [(73, pB (cl == cl))] [0, 1, 2, 3, 4, 5, 6, 7, 8, 9, 10] rfl rfl rfl rfl (s_move rfl ⟨rfl, rfl, rfl⟩) ?_
   refine x_if [(74, pB (cl == cl)), (3, PV.ptr 0 0)] [0, 1, 2, 3, 4, 5, 6, 7, 8, 9, 10, 11] rfl rfl rfl rfl (fun g4 => ?_) (fun g4 => ?_)
   ·
    have g4' := g4
    try simp only [sB] at g4'
    refine x_run0 [(74, pB (cl == cl)), (3, PV.ptr 0 0)] [0, 1, 2, 3, 4, 5, 6, 7, 8, 9, 10, 11] rfl rfl rfl rfl (s_move rfl ⟨rfl, rfl, rfl⟩) ?_
    refine xy [(74, pB (cl == cl)), (75, PV.ptr 0 0)] [0, 1, 2, 3, 4, 5, 6, 7, 8, 9, 10, 11, 12] rfl rfl rfl rfl g4 ?_
    refine x_run [(74, pB (cl == cl)), (75, PV.ptr 0 0)] [0, 1, 2, 3, 4, 5, 6, 7, 8, 9, 10, 11, 12] [] [(0, .obj [pS 1 false enc8 q, pB cl])] [(0, .obj [pS 1 false enc8 q, pB cl])] [(0, .obj [pS 1 false enc8 q, pB cl])] [(0, .obj [pS 1 false enc8 q, pB cl]), (1, .obj [pS 1 false enc8 q, pB cl])] rfl rfl rfl rfl rfl rfl (s_callX (r2 := pN q.length) (nx1 := 2) (H2 := [(0, .obj [pS 1 false enc8 q, pB cl])]) (H3 := [(0, .obj [pS 1 false enc8 q, pB cl])]) [0] [.obj [pS 1 false enc8 q, pB cl]] rfl rfl rfl (handed_of (by decide) ⟨rfl, trivial⟩) rfl rfl rfl rfl rfl rfl (w_mbap_Stream_Len q false cl) rfl (dist_of rfl) rfl rfl rfl rfl ⟨rfl, rfl, rfl⟩) rfl trivial rfl rfl ?_
    refine xy [(74, pB (cl == cl)), (4, PV.ptr 1 0)] [0, 1, 2, 3, 4, 5, 6, 7, 8, 9, 10, 11] rfl rfl rfl rfl g4 ?_
    refine x_run0 [(74, pB (cl == cl)), (4, PV.ptr 1 0)] [0, 1, 2, 3, 4, 5, 6, 7, 8, 9, 10, 11] rfl rfl rfl rfl (s_move rfl ⟨rfl, rfl, rfl⟩) ?_
    refine xy [(74, pB (cl == cl)), (77, PV.ptr 1 0)] [0, 1, 2, 3, 4, 5, 6, 7, 8, 9, 10, 11, 14] rfl rfl rfl rfl g4 ?_
    refine x_run0 [(74, pB (cl == cl)), (77, PV.ptr 1 0)] [0, 1, 2, 3, 4, 5, 6, 7, 8, 9, 10, 11, 14] rfl rfl rfl rfl (s_nilCheck rfl trivial ⟨rfl, rfl, rfl⟩) ?_
    refine xy [(74, pB (cl == cl)), (78, PV.ptr 1 0)] [0, 1, 2, 3, 4, 5, 6, 7, 8, 9, 10, 11, 14, 15] rfl rfl rfl rfl g4 ?_
    refine x_run0 [(74, pB (cl == cl)), (78, PV.ptr 1 0)] [0, 1, 2, 3, 4, 5, 6, 7, 8, 9, 10, 11, 14, 15] rfl rfl rfl rfl (s_fa_ptr tab_81 rfl rfl tab_27 (by decide) rfl ⟨rfl, rfl, rfl⟩) ?_
    refine xy [(74, pB (cl == cl)), (79, PV.ptr 1 0)] [0, 1, 2, 3, 4, 5, 6, 7, 8, 9, 10, 11, 14, 15, 16] rfl rfl rfl rfl g4 ?_
    refine x_run [(74, pB (cl == cl)), (79, PV.ptr 1 0)] [0, 1, 2, 3, 4, 5, 6, 7, 8, 9, 10, 11, 14, 15, 16] [(1, .obj [pS 1 false enc8 q, pB cl])] [] [(1, .obj [pS 1 false enc8 q, pB cl])] [] [(0, .obj [pS 1 false enc8 q, pB cl]), (1, .obj [pS 1 false enc8 q, pB cl])] rfl rfl rfl rfl rfl rfl (s_load_ptr1 tab_27 rfl rfl rfl rfl rfl ⟨rfl, rfl, rfl⟩) rfl ⟨rfl, trivial⟩ rfl rfl ?_
    refine xy [(74, pB (cl == cl)), (80, pS 1 false enc8 q)] [0, 1, 2, 3, 4, 5, 6, 7, 8, 9, 10, 11, 14, 15, 16, 17] rfl rfl rfl rfl g4 ?_
    refine x_run0 [(74, pB (cl == cl)), (80, pS 1 false enc8 q)] [0, 1, 2, 3, 4, 5, 6, 7, 8, 9, 10, 11, 14, 15, 16, 17] rfl rfl rfl rfl (s_lenM (l := q) tab_27 rfl (hM_sl (f := enc8) rfl) ⟨rfl, rfl, rfl⟩) ?_
    refine xy [(74, pB (cl == cl)), (76, pN q.length), (81, pN q.length)] [0, 1, 2, 3, 4, 5, 6, 7, 8, 9, 10, 11, 12, 13, 14, 15, 16, 17, 18] rfl rfl rfl rfl g4 ?_
    refine x_run0 [(74, pB (cl == cl)), (76, pN q.length), (81, pN q.length)] [0, 1, 2, 3, 4, 5, 6, 7, 8, 9, 10, 11, 12, 13, 14, 15, 16, 17, 18] rfl rfl rfl rfl (s_eql rfl rfl ⟨rfl, rfl, rfl⟩) ?_
    refine d_op ?_
    refine x_run0 [(74, pB (cl == cl)), (82, pB (decide (((q.length : Nat) : Int) = ((q.length : Nat) : Int))))] [0, 1, 2, 3, 4, 5, 6, 7, 8, 9, 10, 11, 12, 13, 14, 15, 16, 17, 18, 19] rfl rfl rfl rfl (s_pick_t rfl g4 rfl ⟨rfl, rfl, rfl⟩) ?_
    refine d_op ?_
    refine x_run0 [(83, pB (decide (((q.length : Nat) : Int) = ((q.length : Nat) : Int))))] [0, 1, 2, 3, 4, 5, 6, 7, 8, 9, 10, 11, 12, 13, 14, 15, 16, 17, 18, 19, 20] rfl rfl rfl rfl (s_assign rfl ⟨rfl, rfl, rfl⟩) ?_
    refine d_end ⟨by kernel_rfl, ?_⟩
    refine q_then ?_
    refine w_le (s := 2) (y := pB true) rfl (le_of_eq (congrArg (fun z : Bool => pB z) (show (decide (((q.length : Nat) : Int) = ((q.length : Nat) : Int))) = true by simp))) ?_
    refine w_ret ?_
    exact fin_plain (ret_tmp rfl ret_nil) rfl rfl ⟨rfl, rfl, rfl⟩
   ·
    exact absurd g4 (by simp)
theorem w_burgagekeep_Tape_Message (L : List Int) (cl_L : Bool) (a : Nat) (u : Int) (hL : L.length ≤ 70000000000000) :
    T Try.prog 46 [PV.ptr 0 0, pI u] 1 [(0, .obj [pS 1 cl_L encI L, pN a])] (fun ra rb rc => ∃ q : List UInt8, ∃ b : Nat, (8 ≤ q.length ∧ q.length ≤ 261) ∧ (Ret (pS 1 false enc8 q) 1 [(0, .obj [pS 1 false encI L, pN b])]) ra rb rc) := by
 refine t_fun tabOk (n := 39) (rs := [.tmp 4]) Try.func46 rfl rfl rfl rfl (Nat.le_of_ble_eq_true rfl) ?_
 intro c hnt hk
 refine w_seq ?_
 refine w_R ?_
 refine qa hnt rfl rfl ?_
 refine r_end ?_
 refine q_then ?_
 refine w_seq ?_
 refine w_R ?_
 refine qm hnt rfl rfl ?_
 refine qo hnt rfl (s_callX2 (p := fun (q1 : TRequest) (b1 : Nat) => rightR q1 = 0 ∧ q1.bits.length ≤ 25 ∧ q1.vals.length ≤ 25 ∧ 0 ≤ q1.count ∧ q1.count ≤ 25) (r2 := fun q1 b1 => PV.f (eRequest q1)) (nx1 := 1) (H2 := [(0, .obj [pS 1 cl_L encI L, pN a])]) (H3 := fun q1 b1 => [(0, .obj [pS 1 false encI L, pN b1])]) [0] [.obj [pS 1 cl_L encI L, pN a]] rfl rfl rfl (handed_of (by decide) ⟨rfl, trivial⟩) rfl rfl rfl rfl rfl rfl (w_burgagekeep_Tape_Request L cl_L a (by first | omega | assumption | (simp; omega) | decide | (simp; done))) (fun q1 b1 => rfl) (fun q1 b1 => dist_of rfl) (fun q1 b1 => rfl) (fun q1 b1 => rfl) rfl (fun q1 b1 => rfl) (fun q1 b1 hq1 => ?_))
 obtain ⟨hr0, hqb, hqv, _, _⟩ := hq1
 have hwl := writeR_small (rightR_zero hr0).2 hqb hqv
 have hbr : bytesR q1 = writeR q1 := by unfold bytesR; rw [if_pos hr0]
 rw [← hbr] at hwl
 refine qo hnt rfl (s_callX (r2 := PV.tup [PV.ref 1 0 none, pI (rightR q1)]) (nx1 := 2) (H2 := [(0, .obj [pS 1 false encI L, pN b1])]) (H3 := [(1, oB false 1 enc8 (bytesR q1)), (0, .obj [pS 1 false encI L, pN b1])]) [] [] rfl rfl rfl (handed_of (by decide) trivial) rfl rfl rfl rfl rfl rfl (w_burgageref3_Bytes q1 (by first | omega | assumption | (simp; omega) | decide | (simp; done)) (by first | omega | assumption | (simp; omega) | decide | (simp; done))) rfl (dist_of rfl) rfl rfl rfl rfl ?_)
 refine qm hnt rfl rfl ?_
 refine qo hnt rfl (s_extract rfl rfl ?_)
 refine qo hnt rfl (s_extract rfl rfl ?_)
 refine qa hnt rfl rfl ?_
 refine qa hnt rfl rfl ?_
 refine r_set [(0, PV.ptr 0 0), (1, pI u), (5, PV.ref 1 0 none)] [(1, oB false 1 enc8 (bytesR q1)), (0, .obj [pS 1 false encI L, pN b1])] 2 ⟨rfl, rfl, rfl, trivial⟩ rfl rfl ?_
 refine r_end ?_
 refine q_then ?_
 refine w_seq ?_
 refine w_seq ?_
 refine w_R ?_
 refine qm hnt rfl rfl ?_
 refine qo hnt rfl (s_callX (r2 := pI (tNext L b1 20)) (nx1 := 2) (H2 := [(1, oB false 1 enc8 (bytesR q1)), (0, .obj [pS 1 false encI L, pN b1])]) (H3 := [(0, .obj [pS 1 false encI L, pN (tStep L b1 20)]), (1, oB false 1 enc8 (bytesR q1))]) [0] [.obj [pS 1 false encI L, pN b1]] rfl rfl rfl (handed_of (by decide) ⟨rfl, trivial⟩) rfl rfl rfl rfl rfl rfl (w_burgagekeep_Tape_Next L false b1 20 (by first | omega | assumption | (simp; omega) | decide | (simp; done)) (by first | omega | assumption | (simp; omega) | decide | (simp; done))) rfl (dist_of rfl) rfl rfl rfl rfl ?_)
 refine r_set [(0, PV.ptr 0 0), (1, pI u), (5, PV.ref 1 0 none), (14, pI (tNext L b1 20))] [(0, .obj [pS 1 false encI L, pN (tStep L b1 20)]), (1, oB false 1 enc8 (bytesR q1))] 2 ⟨rfl, rfl, rfl, rfl, trivial⟩ rfl rfl ?_
 refine r_end ?_
 refine q_then ?_
 refine w_block ?_
 refine w_seq ?_
 refine w_R ?_
 refine qo hnt rfl (s_eql rfl rfl ?_)
 refine qa hnt rfl rfl ?_
 refine r_end ?_
 refine q_then ?_
 refine w_if rfl (fun c1 => ?_) (fun c1 => ?_)
 ·
  have c1_ := c1
  try simp only [sB] at c1
  refine w_R ?_
  refine qm hnt rfl rfl ?_
  refine qo hnt rfl (s_mkM (f := enc8) ([7] : List UInt8) tab_27 rfl tab_5 ⟨rfl, by decide⟩ (by decide) rfl rfl rfl rfl ?_)
  refine qo hnt rfl (s_appR0 (f := enc8) (l := bytesR q1) (xs := ([7] : List UInt8)) tab_27 rfl tab_5 ⟨rfl, by decide, by decide⟩ (srcM tab_27 rfl (hM_ref0 (f := enc8) rfl rfl)) rfl rfl (by first | omega | (simp; omega)) ?_)
  refine qa hnt rfl rfl ?_
  refine r_set [(0, PV.ptr 0 0), (1, pI u), (5, PV.ref 3 0 none)] [(3, oB false 1 enc8 ((bytesR q1) ++ ([7] : List UInt8))), (2, oB true 1 enc8 ([7] : List UInt8)), (0, .obj [pS 1 false encI L, pN (tStep L b1 20)])] 4 ⟨rfl, rfl, rfl, trivial⟩ rfl rfl ?_
  refine r_end ?_
  refine q_block ?_
  refine q_then ?_
  refine w_seq ?_
  refine w_R ?_
  refine qm hnt rfl rfl ?_
  refine qo hnt rfl (s_callX (r2 := pI (tNext L (tStep L b1 20) 65536)) (nx1 := 4) (H2 := [(3, oB false 1 enc8 ((bytesR q1) ++ ([7] : List UInt8))), (2, oB true 1 enc8 ([7] : List UInt8)), (0, .obj [pS 1 false encI L, pN (tStep L b1 20)])]) (H3 := [(0, .obj [pS 1 false encI L, pN (tStep L (tStep L b1 20) 65536)]), (3, oB false 1 enc8 ((bytesR q1) ++ ([7] : List UInt8))), (2, oB true 1 enc8 ([7] : List UInt8))]) [0] [.obj [pS 1 false encI L, pN (tStep L b1 20)]] rfl rfl rfl (handed_of (by decide) ⟨rfl, trivial⟩) rfl rfl rfl rfl rfl rfl (w_burgagekeep_Tape_Next L false (tStep L b1 20) 65536 (by first | omega | assumption | (simp; omega) | decide | (simp; done)) (by first | omega | assumption | (simp; omega) | decide | (simp; done))) rfl (dist_of rfl) rfl rfl rfl rfl ?_)
  refine qm hnt rfl rfl ?_
  refine qm hnt rfl rfl ?_
  refine qo hnt rfl (s_build tab_33 rfl rfl (b_cons rfl tab_3 rfl rfl rfl (Nat.le_of_ble_eq_true rfl) (b_cons rfl tab_3 rfl rfl rfl (Nat.le_of_ble_eq_true rfl) (b_cons rfl tab_27 rfl rfl rfl (Nat.le_of_ble_eq_true rfl) (b_nil ?_)))))
  refine qo hnt rfl (s_callX (r2 := pS 1 false enc8 (bytesM (⟨tNext L (tStep L b1 20) 65536, u, (bytesR q1) ++ ([7] : List UInt8)⟩ : TMsg))) (nx1 := 4) (H2 := [(3, oB false 1 enc8 ((bytesR q1) ++ ([7] : List UInt8))), (0, .obj [pS 1 false encI L, pN (tStep L (tStep L b1 20) 65536)]), (2, oB true 1 enc8 ([7] : List UInt8))]) (H3 := [(3, oB false 1 enc8 ((bytesR q1) ++ ([7] : List UInt8))), (0, .obj [pS 1 false encI L, pN (tStep L (tStep L b1 20) 65536)]), (2, oB true 1 enc8 ([7] : List UInt8))]) [] [] rfl rfl rfl (handed_of (by decide) trivial) rfl rfl rfl rfl rfl rfl (w_burgageref5_Bytes (⟨tNext L (tStep L b1 20) 65536, u, (bytesR q1) ++ ([7] : List UInt8)⟩ : TMsg) (by first | omega | assumption | (simp; omega) | decide | (simp; done))) rfl (dist_of rfl) rfl rfl rfl rfl ?_)
  refine qa hnt rfl rfl ?_
  refine r_set [(4, pS 1 false enc8 (bytesM (⟨tNext L (tStep L b1 20) 65536, u, (bytesR q1) ++ ([7] : List UInt8)⟩ : TMsg)))] [(3, oB false 1 enc8 ((bytesR q1) ++ ([7] : List UInt8))), (0, .obj [pS 1 false encI L, pN (tStep L (tStep L b1 20) 65536)]), (2, oB true 1 enc8 ([7] : List UInt8))] 4 ⟨rfl, trivial⟩ rfl rfl ?_
  refine r_end ?_
  refine q_then ?_
  refine w_ret ?_
  have hex : 8 ≤ (bytesM (⟨tNext L (tStep L b1 20) 65536, u, (bytesR q1) ++ ([7] : List UInt8)⟩ : TMsg)).length ∧ (bytesM (⟨tNext L (tStep L b1 20) 65536, u, (bytesR q1) ++ ([7] : List UInt8)⟩ : TMsg)).length ≤ 261 := by
    rw [bytesM_len _ (by simp; omega)]; simp; omega
  exact fin_names (nx1 := 1) (H1 := [(0, .obj [pS 1 false encI L, pN (tStep L (tStep L b1 20) 65536)])]) [(0, 0)] (ret_tmp rfl ret_nil) rfl (by decide) ⟨⟨_, _, rfl, rfl, rfl, rfl⟩, trivial⟩ (by decide) rfl ⟨(bytesM (⟨tNext L (tStep L b1 20) 65536, u, (bytesR q1) ++ ([7] : List UInt8)⟩ : TMsg)), (tStep L (tStep L b1 20) 65536), hex, rfl, rfl, rfl⟩
 ·
  have c1_ := c1
  try simp only [sB] at c1
  refine w_seq ?_
  refine w_R ?_
  refine qo hnt rfl (s_eql rfl rfl ?_)
  refine qa hnt rfl rfl ?_
  refine r_end ?_
  refine q_then ?_
  refine w_if rfl (fun c2 => ?_) (fun c2 => ?_)
  ·
   have c2_ := c2
   try simp only [sB] at c2
   refine w_R ?_
   refine qm hnt rfl rfl ?_
   refine qo hnt rfl (s_callX (r2 := pI (tNext L (tStep L b1 20) 256)) (nx1 := 2) (H2 := [(0, .obj [pS 1 false encI L, pN (tStep L b1 20)]), (1, oB false 1 enc8 (bytesR q1))]) (H3 := [(0, .obj [pS 1 false encI L, pN (tStep L (tStep L b1 20) 256)]), (1, oB false 1 enc8 (bytesR q1))]) [0] [.obj [pS 1 false encI L, pN (tStep L b1 20)]] rfl rfl rfl (handed_of (by decide) ⟨rfl, trivial⟩) rfl rfl rfl rfl rfl rfl (w_burgagekeep_Tape_Next L false (tStep L b1 20) 256 (by first | omega | assumption | (simp; omega) | decide | (simp; done)) (by first | omega | assumption | (simp; omega) | decide | (simp; done))) rfl (dist_of rfl) rfl rfl rfl rfl ?_)
   refine qo hnt rfl (s_cv8 tab_3 tab_5 rfl rfl rfl ?_)
   refine qo hnt rfl (s_mkM (f := enc8) [u8I (tNext L (tStep L b1 20) 256)] tab_27 rfl tab_5 ⟨rfl, by decide⟩ (by decide) rfl rfl rfl rfl ?_)
   refine qm hnt rfl rfl ?_
   refine qo hnt rfl (s_callX2 (p := fun (q2 : List UInt8) (b2 : Nat) => (q2.length : Int) ≤ 9) (r2 := fun q2 b2 => pS 1 false enc8 q2) (nx1 := 3) (H2 := [(2, oB true 1 enc8 [u8I (tNext L (tStep L b1 20) 256)]), (0, .obj [pS 1 false encI L, pN (tStep L (tStep L b1 20) 256)]), (1, oB false 1 enc8 (bytesR q1))]) (H3 := fun q2 b2 => [(0, .obj [pS 1 false encI L, pN b2]), (2, oB true 1 enc8 [u8I (tNext L (tStep L b1 20) 256)]), (1, oB false 1 enc8 (bytesR q1))]) [0] [.obj [pS 1 false encI L, pN (tStep L (tStep L b1 20) 256)]] rfl rfl rfl (handed_of (by decide) ⟨rfl, trivial⟩) rfl rfl rfl rfl rfl rfl (w_burgagekeep_Tape_Bytes L false (tStep L (tStep L b1 20) 256) 9 (by first | omega | assumption | (simp; omega) | decide | (simp; done)) (by first | omega | assumption | (simp; omega) | decide | (simp; done))) (fun q2 b2 => rfl) (fun q2 b2 => dist_of rfl) (fun q2 b2 => rfl) (fun q2 b2 => rfl) rfl (fun q2 b2 => rfl) (fun q2 b2 hq2 => ?_))
   refine qo hnt rfl (s_appR0 (f := enc8) (l := [u8I (tNext L (tStep L b1 20) 256)]) (xs := q2) tab_27 rfl tab_5 ⟨rfl, by decide, by decide⟩ (srcM tab_27 rfl (hM_sl (f := enc8) rfl)) rfl rfl (by first | omega | (simp; omega)) ?_)
   refine qa hnt rfl rfl ?_
   refine r_set [(0, PV.ptr 0 0), (1, pI u), (5, PV.ref 3 0 none)] [(3, oB true 1 enc8 ([u8I (tNext L (tStep L b1 20) 256)] ++ q2)), (0, .obj [pS 1 false encI L, pN b2]), (1, oB false 1 enc8 (bytesR q1))] 4 ⟨rfl, rfl, rfl, trivial⟩ rfl rfl ?_
   refine r_end ?_
   refine q_block ?_
   refine q_then ?_
   refine w_seq ?_
   refine w_R ?_
   refine qm hnt rfl rfl ?_
   refine qo hnt rfl (s_callX (r2 := pI (tNext L b2 65536)) (nx1 := 4) (H2 := [(3, oB true 1 enc8 ([u8I (tNext L (tStep L b1 20) 256)] ++ q2)), (0, .obj [pS 1 false encI L, pN b2]), (1, oB false 1 enc8 (bytesR q1))]) (H3 := [(0, .obj [pS 1 false encI L, pN (tStep L b2 65536)]), (3, oB true 1 enc8 ([u8I (tNext L (tStep L b1 20) 256)] ++ q2)), (1, oB false 1 enc8 (bytesR q1))]) [0] [.obj [pS 1 false encI L, pN b2]] rfl rfl rfl (handed_of (by decide) ⟨rfl, trivial⟩) rfl rfl rfl rfl rfl rfl (w_burgagekeep_Tape_Next L false b2 65536 (by first | omega | assumption | (simp; omega) | decide | (simp; done)) (by first | omega | assumption | (simp; omega) | decide | (simp; done))) rfl (dist_of rfl) rfl rfl rfl rfl ?_)
   refine qm hnt rfl rfl ?_
   refine qm hnt rfl rfl ?_
   refine qo hnt rfl (s_build tab_33 rfl rfl (b_cons rfl tab_3 rfl rfl rfl (Nat.le_of_ble_eq_true rfl) (b_cons rfl tab_3 rfl rfl rfl (Nat.le_of_ble_eq_true rfl) (b_cons rfl tab_27 rfl rfl rfl (Nat.le_of_ble_eq_true rfl) (b_nil ?_)))))
   refine qo hnt rfl (s_callX (r2 := pS 1 false enc8 (bytesM (⟨tNext L b2 65536, u, [u8I (tNext L (tStep L b1 20) 256)] ++ q2⟩ : TMsg))) (nx1 := 4) (H2 := [(3, oB false 1 enc8 ([u8I (tNext L (tStep L b1 20) 256)] ++ q2)), (0, .obj [pS 1 false encI L, pN (tStep L b2 65536)]), (1, oB false 1 enc8 (bytesR q1))]) (H3 := [(3, oB false 1 enc8 ([u8I (tNext L (tStep L b1 20) 256)] ++ q2)), (0, .obj [pS 1 false encI L, pN (tStep L b2 65536)]), (1, oB false 1 enc8 (bytesR q1))]) [] [] rfl rfl rfl (handed_of (by decide) trivial) rfl rfl rfl rfl rfl rfl (w_burgageref5_Bytes (⟨tNext L b2 65536, u, [u8I (tNext L (tStep L b1 20) 256)] ++ q2⟩ : TMsg) (by first | omega | assumption | (simp; omega) | decide | (simp; done))) rfl (dist_of rfl) rfl rfl rfl rfl ?_)
   refine qa hnt rfl rfl ?_
   refine r_set [(4, pS 1 false enc8 (bytesM (⟨tNext L b2 65536, u, [u8I (tNext L (tStep L b1 20) 256)] ++ q2⟩ : TMsg)))] [(3, oB false 1 enc8 ([u8I (tNext L (tStep L b1 20) 256)] ++ q2)), (0, .obj [pS 1 false encI L, pN (tStep L b2 65536)]), (1, oB false 1 enc8 (bytesR q1))] 4 ⟨rfl, trivial⟩ rfl rfl ?_
   refine r_end ?_
   refine q_then ?_
   refine w_ret ?_
   have hex : 8 ≤ (bytesM (⟨tNext L b2 65536, u, [u8I (tNext L (tStep L b1 20) 256)] ++ q2⟩ : TMsg)).length ∧ (bytesM (⟨tNext L b2 65536, u, [u8I (tNext L (tStep L b1 20) 256)] ++ q2⟩ : TMsg)).length ≤ 261 := by
     rw [bytesM_len _ (by simp; omega)]; simp; omega
   exact fin_names (nx1 := 1) (H1 := [(0, .obj [pS 1 false encI L, pN (tStep L b2 65536)])]) [(0, 0)] (ret_tmp rfl ret_nil) rfl (by decide) ⟨⟨_, _, rfl, rfl, rfl, rfl⟩, trivial⟩ (by decide) rfl ⟨(bytesM (⟨tNext L b2 65536, u, [u8I (tNext L (tStep L b1 20) 256)] ++ q2⟩ : TMsg)), (tStep L b2 65536), hex, rfl, rfl, rfl⟩
  ·
   have c2_ := c2
   try simp only [sB] at c2
   refine w_seq ?_
   refine w_R ?_
   refine qo hnt rfl (s_eql rfl rfl ?_)
   refine qa hnt rfl rfl ?_
   refine r_end ?_
   refine q_then ?_
   refine w_if rfl (fun c3 => ?_) (fun c3 => ?_)
   ·
    have c3_ := c3
    try simp only [sB] at c3
    refine w_R ?_
    refine qm hnt rfl rfl ?_
    refine qo hnt rfl (s_callX (r2 := pI (tNext L (tStep L b1 20) 256)) (nx1 := 2) (H2 := [(0, .obj [pS 1 false encI L, pN (tStep L b1 20)]), (1, oB false 1 enc8 (bytesR q1))]) (H3 := [(0, .obj [pS 1 false encI L, pN (tStep L (tStep L b1 20) 256)]), (1, oB false 1 enc8 (bytesR q1))]) [0] [.obj [pS 1 false encI L, pN (tStep L b1 20)]] rfl rfl rfl (handed_of (by decide) ⟨rfl, trivial⟩) rfl rfl rfl rfl rfl rfl (w_burgagekeep_Tape_Next L false (tStep L b1 20) 256 (by first | omega | assumption | (simp; omega) | decide | (simp; done)) (by first | omega | assumption | (simp; omega) | decide | (simp; done))) rfl (dist_of rfl) rfl rfl rfl rfl ?_)
    refine qa hnt rfl rfl ?_
    refine r_set [(0, PV.ptr 0 0), (1, pI (tNext L (tStep L b1 20) 256)), (5, PV.ref 1 0 none)] [(0, .obj [pS 1 false encI L, pN (tStep L (tStep L b1 20) 256)]), (1, oB false 1 enc8 (bytesR q1))] 2 ⟨rfl, rfl, rfl, trivial⟩ rfl rfl ?_
    refine r_end ?_
    refine q_block ?_
    refine q_then ?_
    refine w_seq ?_
    refine w_R ?_
    refine qm hnt rfl rfl ?_
    refine qo hnt rfl (s_callX (r2 := pI (tNext L (tStep L (tStep L b1 20) 256) 65536)) (nx1 := 2) (H2 := [(0, .obj [pS 1 false encI L, pN (tStep L (tStep L b1 20) 256)]), (1, oB false 1 enc8 (bytesR q1))]) (H3 := [(0, .obj [pS 1 false encI L, pN (tStep L (tStep L (tStep L b1 20) 256) 65536)]), (1, oB false 1 enc8 (bytesR q1))]) [0] [.obj [pS 1 false encI L, pN (tStep L (tStep L b1 20) 256)]] rfl rfl rfl (handed_of (by decide) ⟨rfl, trivial⟩) rfl rfl rfl rfl rfl rfl (w_burgagekeep_Tape_Next L false (tStep L (tStep L b1 20) 256) 65536 (by first | omega | assumption | (simp; omega) | decide | (simp; done)) (by first | omega | assumption | (simp; omega) | decide | (simp; done))) rfl (dist_of rfl) rfl rfl rfl rfl ?_)
    refine qm hnt rfl rfl ?_
    refine qm hnt rfl rfl ?_
    refine qo hnt rfl (s_build tab_33 rfl rfl (b_cons rfl tab_3 rfl rfl rfl (Nat.le_of_ble_eq_true rfl) (b_cons rfl tab_3 rfl rfl rfl (Nat.le_of_ble_eq_true rfl) (b_cons rfl tab_27 rfl rfl rfl (Nat.le_of_ble_eq_true rfl) (b_nil ?_)))))
    refine qo hnt rfl (s_callX (r2 := pS 1 false enc8 (bytesM (⟨tNext L (tStep L (tStep L b1 20) 256) 65536, tNext L (tStep L b1 20) 256, bytesR q1⟩ : TMsg))) (nx1 := 2) (H2 := [(1, oB false 1 enc8 (bytesR q1)), (0, .obj [pS 1 false encI L, pN (tStep L (tStep L (tStep L b1 20) 256) 65536)])]) (H3 := [(1, oB false 1 enc8 (bytesR q1)), (0, .obj [pS 1 false encI L, pN (tStep L (tStep L (tStep L b1 20) 256) 65536)])]) [] [] rfl rfl rfl (handed_of (by decide) trivial) rfl rfl rfl rfl rfl rfl (w_burgageref5_Bytes (⟨tNext L (tStep L (tStep L b1 20) 256) 65536, tNext L (tStep L b1 20) 256, bytesR q1⟩ : TMsg) (by first | omega | assumption | (simp; omega) | decide | (simp; done))) rfl (dist_of rfl) rfl rfl rfl rfl ?_)
    refine qa hnt rfl rfl ?_
    refine r_set [(4, pS 1 false enc8 (bytesM (⟨tNext L (tStep L (tStep L b1 20) 256) 65536, tNext L (tStep L b1 20) 256, bytesR q1⟩ : TMsg)))] [(1, oB false 1 enc8 (bytesR q1)), (0, .obj [pS 1 false encI L, pN (tStep L (tStep L (tStep L b1 20) 256) 65536)])] 2 ⟨rfl, trivial⟩ rfl rfl ?_
    refine r_end ?_
    refine q_then ?_
    refine w_ret ?_
    have hex : 8 ≤ (bytesM (⟨tNext L (tStep L (tStep L b1 20) 256) 65536, tNext L (tStep L b1 20) 256, bytesR q1⟩ : TMsg)).length ∧ (bytesM (⟨tNext L (tStep L (tStep L b1 20) 256) 65536, tNext L (tStep L b1 20) 256, bytesR q1⟩ : TMsg)).length ≤ 261 := by
      rw [bytesM_len _ (by simp; omega)]; simp; omega
    exact fin_names (nx1 := 1) (H1 := [(0, .obj [pS 1 false encI L, pN (tStep L (tStep L (tStep L b1 20) 256) 65536)])]) [(0, 0)] (ret_tmp rfl ret_nil) rfl (by decide) ⟨⟨_, _, rfl, rfl, rfl, rfl⟩, trivial⟩ (by decide) rfl ⟨(bytesM (⟨tNext L (tStep L (tStep L b1 20) 256) 65536, tNext L (tStep L b1 20) 256, bytesR q1⟩ : TMsg)), (tStep L (tStep L (tStep L b1 20) 256) 65536), hex, rfl, rfl, rfl⟩
   ·
    have c3_ := c3
    try simp only [sB] at c3
    refine w_skip ?_
    refine q_block ?_
    refine q_then ?_
    refine w_seq ?_
    refine w_R ?_
    refine qm hnt rfl rfl ?_
    refine qo hnt rfl (s_callX (r2 := pI (tNext L (tStep L b1 20) 65536)) (nx1 := 2) (H2 := [(0, .obj [pS 1 false encI L, pN (tStep L b1 20)]), (1, oB false 1 enc8 (bytesR q1))]) (H3 := [(0, .obj [pS 1 false encI L, pN (tStep L (tStep L b1 20) 65536)]), (1, oB false 1 enc8 (bytesR q1))]) [0] [.obj [pS 1 false encI L, pN (tStep L b1 20)]] rfl rfl rfl (handed_of (by decide) ⟨rfl, trivial⟩) rfl rfl rfl rfl rfl rfl (w_burgagekeep_Tape_Next L false (tStep L b1 20) 65536 (by first | omega | assumption | (simp; omega) | decide | (simp; done)) (by first | omega | assumption | (simp; omega) | decide | (simp; done))) rfl (dist_of rfl) rfl rfl rfl rfl ?_)
    refine qm hnt rfl rfl ?_
    refine qm hnt rfl rfl ?_
    refine qo hnt rfl (s_build tab_33 rfl rfl (b_cons rfl tab_3 rfl rfl rfl (Nat.le_of_ble_eq_true rfl) (b_cons rfl tab_3 rfl rfl rfl (Nat.le_of_ble_eq_true rfl) (b_cons rfl tab_27 rfl rfl rfl (Nat.le_of_ble_eq_true rfl) (b_nil ?_)))))
    refine qo hnt rfl (s_callX (r2 := pS 1 false enc8 (bytesM (⟨tNext L (tStep L b1 20) 65536, u, bytesR q1⟩ : TMsg))) (nx1 := 2) (H2 := [(1, oB false 1 enc8 (bytesR q1)), (0, .obj [pS 1 false encI L, pN (tStep L (tStep L b1 20) 65536)])]) (H3 := [(1, oB false 1 enc8 (bytesR q1)), (0, .obj [pS 1 false encI L, pN (tStep L (tStep L b1 20) 65536)])]) [] [] rfl rfl rfl (handed_of (by decide) trivial) rfl rfl rfl rfl rfl rfl (w_burgageref5_Bytes (⟨tNext L (tStep L b1 20) 65536, u, bytesR q1⟩ : TMsg) (by first | omega | assumption | (simp; omega) | decide | (simp; done))) rfl (dist_of rfl) rfl rfl rfl rfl ?_)
    refine qa hnt rfl rfl ?_
    refine r_set [(4, pS 1 false enc8 (bytesM (⟨tNext L (tStep L b1 20) 65536, u, bytesR q1⟩ : TMsg)))] [(1, oB false 1 enc8 (bytesR q1)), (0, .obj [pS 1 false encI L, pN (tStep L (tStep L b1 20) 65536)])] 2 ⟨rfl, trivial⟩ rfl rfl ?_
    refine r_end ?_
    refine q_then ?_
    refine w_ret ?_
    have hex : 8 ≤ (bytesM (⟨tNext L (tStep L b1 20) 65536, u, bytesR q1⟩ : TMsg)).length ∧ (bytesM (⟨tNext L (tStep L b1 20) 65536, u, bytesR q1⟩ : TMsg)).length ≤ 261 := by
      rw [bytesM_len _ (by simp; omega)]; simp; omega
    exact fin_names (nx1 := 1) (H1 := [(0, .obj [pS 1 false encI L, pN (tStep L (tStep L b1 20) 65536)])]) [(0, 0)] (ret_tmp rfl ret_nil) rfl (by decide) ⟨⟨_, _, rfl, rfl, rfl, rfl⟩, trivial⟩ (by decide) rfl ⟨(bytesM (⟨tNext L (tStep L b1 20) 65536, u, bytesR q1⟩ : TMsg)), (tStep L (tStep L b1 20) 65536), hex, rfl, rfl, rfl⟩
theorem w_burgagelaw6_cuts (L : List Int) (cl_L : Bool) (ns : List Int) (cl_ns : Bool) (hL : L.length ≤ 70000000000000) (hn : ns.length ≤ 140737488351232) :
    T Try.prog 15 [pS 1 cl_L encI L, pS 1 cl_ns encI ns] 0 [] (fun ra rb rc => ∃ q : List (List UInt8), (1 ≤ q.length ∧ q.length ≤ 40 ∧ ∀ y ∈ q, y.length ≤ 2000) ∧ (Ret (pS 1 false (encS 1 enc8) q) 0 []) ra rb rc) := by
 refine t_fun tabOk (n := 57) (rs := [.tmp 4]) Try.func15 rfl rfl rfl rfl (Nat.le_of_ble_eq_true rfl) ?_
 intro c hnt hk
 refine w_seq ?_
 refine w_R ?_
 refine qa hnt rfl rfl ?_
 refine r_end ?_
 refine q_then ?_
 refine w_seq ?_
 refine w_R ?_
 refine qm hnt rfl rfl ?_
 refine qo hnt rfl (s_build tab_76 rfl rfl (b_cons rfl tab_22 rfl rfl rfl (Nat.le_of_ble_eq_true rfl) (b_nil ?_)))
 refine qo hnt rfl (s_box rfl rfl ?_)
 refine qa hnt rfl rfl ?_
 refine r_set [(1, pS 1 cl_ns encI ns), (5, PV.ptr 0 0)] [(0, .obj [pS 1 cl_L encI L, pI 0])] 1 ⟨rfl, rfl, trivial⟩ rfl rfl ?_
 refine r_end ?_
 refine q_then ?_
 refine w_seq ?_
 refine w_R ?_
 refine qa hnt rfl rfl ?_
 refine r_end ?_
 refine q_then ?_
 refine w_seq ?_
 refine w_seq ?_
 refine w_R ?_
 refine qa hnt rfl rfl ?_
 refine r_end ?_
 refine q_then ?_
 refine w_block ?_
 refine w_adopt (s := 6) (sz := 1) rfl ?_
 refine w_leC (n := 0) (j := 0) (y := pS 1 false encI L) rfl rfl (le_loose) ?_
 refine loop3 (fun (ap : Nat) (al : List UInt8) (i : Nat) => i ≤ 6 ∧ al.length ≤ 261 * i ∧ 8 * i ≤ al.length) (fun (ap : Nat) (al : List UInt8) (i : Nat) => [(1, pS 1 cl_ns encI ns), (5, PV.ptr 0 0), (6, PV.ref 1 0 none), (7, pN i)]) 2 (fun (ap : Nat) (al : List UInt8) (i : Nat) => [(0, .obj [pS 1 false encI L, pN ap]), (1, oB true 1 enc8 al)]) (fun (ap : Nat) (al : List UInt8) (i : Nat) => 6 - i) (0) (([] : List UInt8)) (0) ?_ ⟨[(0, 0), (1, 1)], by rw [hk]; decide, ⟨⟨_, rfl, rfl, rfl⟩, ⟨_, rfl, rfl, rfl⟩, ⟨_, rfl, rfl, rfl⟩, ⟨_, rfl, rfl, rfl⟩, trivial⟩, ⟨⟨_, _, rfl, rfl, rfl, rfl⟩, ⟨_, _, rfl, rfl, rfl, rfl⟩, trivial⟩, by rw [hk]; decide⟩ ?_
 · simp
 ·
  intro ap al i hI
  obtain ⟨hi, hal, hal2⟩ := hI
  refine w_seq ?_
  refine w_seq ?_
  refine w_R ?_
  refine qm hnt rfl rfl ?_
  refine qo hnt rfl (s_lss rfl rfl ?_)
  refine r_end ?_
  refine q_then ?_
  refine w_if rfl (fun c1 => ?_) (fun c1 => ?_)
  ·
   have c1_ := c1
   try simp only [sB] at c1
   refine w_skip ?_
   refine q_then ?_
   refine w_seq ?_
   refine w_block ?_
   have h4 := tNext_lt L ap (n := 4) (by decide)
   refine w_R ?_
   refine qm hnt rfl rfl ?_
   refine qm hnt rfl rfl ?_
   refine qm hnt rfl rfl ?_
   refine qo hnt rfl (s_callX (r2 := pI (tNext L ap 4)) (nx1 := 2) (H2 := [(0, .obj [pS 1 false encI L, pN ap]), (1, oB true 1 enc8 al)]) (H3 := [(0, .obj [pS 1 false encI L, pN (tStep L ap 4)]), (1, oB true 1 enc8 al)]) [0] [.obj [pS 1 false encI L, pN ap]] rfl rfl rfl (handed_of (by decide) ⟨rfl, trivial⟩) rfl rfl rfl rfl rfl rfl (w_burgagekeep_Tape_Next L false ap 4 (by first | omega | assumption | (simp; omega) | decide | (simp; done)) (by first | omega | assumption | (simp; omega) | decide | (simp; done))) rfl (dist_of rfl) rfl rfl rfl rfl ?_)
   refine qo hnt rfl (s_addi (r := 1 + (tNext L ap 4)) rfl rfl rfl (by omega) ?_)
   refine qo hnt rfl (s_callX2 (p := fun (q1 : List UInt8) (b1 : Nat) => 8 ≤ q1.length ∧ q1.length ≤ 261) (r2 := fun q1 b1 => pS 1 false enc8 q1) (nx1 := 2) (H2 := [(0, .obj [pS 1 false encI L, pN (tStep L ap 4)]), (1, oB true 1 enc8 al)]) (H3 := fun q1 b1 => [(0, .obj [pS 1 false encI L, pN b1]), (1, oB true 1 enc8 al)]) [0] [.obj [pS 1 false encI L, pN (tStep L ap 4)]] rfl rfl rfl (handed_of (by decide) ⟨rfl, trivial⟩) rfl rfl rfl rfl rfl rfl (w_burgagekeep_Tape_Message L false (tStep L ap 4) (1 + (tNext L ap 4)) (by first | omega | assumption | (simp; omega) | decide | (simp; done))) (fun q1 b1 => rfl) (fun q1 b1 => dist_of rfl) (fun q1 b1 => rfl) (fun q1 b1 => rfl) rfl (fun q1 b1 => rfl) (fun q1 b1 hq1 => ?_))
   refine qo hnt rfl (s_appR0 (f := enc8) (l := al) (xs := q1) tab_27 rfl tab_5 ⟨rfl, by decide, by decide⟩ (srcM tab_27 rfl (hM_sl (f := enc8) rfl)) rfl rfl (by first | omega | (simp; omega)) ?_)
   refine qa hnt rfl rfl ?_
   refine r_set [(1, pS 1 cl_ns encI ns), (5, PV.ptr 0 0), (6, PV.ref 2 0 none), (7, pN i)] [(2, oB true 1 enc8 (al ++ q1)), (0, .obj [pS 1 false encI L, pN b1])] 3 ⟨rfl, rfl, rfl, rfl, trivial⟩ rfl rfl ?_
   refine r_end ?_
   refine q_block ?_
   refine q_then ?_
   refine w_R ?_
   refine qm hnt rfl rfl ?_
   refine qo hnt rfl (s_addN (a := i) (b := 1) rfl rfl (by omega) (by omega) (by omega) ?_)
   refine qa hnt rfl rfl ?_
   refine r_end ?_
   refine q_then ?_
   refine ⟨(b1), (al ++ q1), (i + 1), ?_, ?_, ⟨[(0, 0), (1, 2)], by rw [hk]; decide, ⟨⟨_, rfl, rfl, rfl⟩, ⟨_, rfl, rfl, rfl⟩, ⟨_, rfl, rfl, rfl⟩, ⟨_, rfl, rfl, rfl⟩, trivial⟩, ⟨⟨_, _, rfl, rfl, rfl, rfl⟩, ⟨_, _, rfl, rfl, rfl, rfl⟩, trivial⟩, by rw [hk]; decide⟩⟩
   ·
    exact ⟨by omega, by rw [List.length_append]; omega, by rw [List.length_append]; omega⟩
   · omega
  ·
   have c1_ := c1
   try simp only [sB] at c1
   refine w_exit ?_
   refine q_then_exit ?_
   refine q_then_exit ?_
   refine q_block_exit ?_
   refine q_then ?_
   refine w_seq ?_
   refine w_R ?_
   refine qa hnt rfl rfl ?_
   refine r_end ?_
   refine q_then ?_
   refine w_seq ?_
   refine w_seq ?_
   refine w_R ?_
   refine qa hnt rfl rfl ?_
   refine r_end ?_
   refine q_then ?_
   refine w_block ?_
   refine w_frzM (s := 6) (f := enc8) rfl rfl view_0 ?_
   refine w_adopt (s := 8) (sz := 1) rfl ?_
   refine loop3 (fun (rest : List UInt8) (os : List (List UInt8)) (k : Nat) => rest.length ≤ 1566 ∧ os.length ≤ k ∧ (k ≤ 30 ∨ rest.length = 0 ∧ k ≤ 31) ∧ (rest.length = 0 → 1 ≤ os.length) ∧ ∀ y ∈ os, y.length ≤ 2000) (fun (rest : List UInt8) (os : List (List UInt8)) (k : Nat) => [(1, pS 1 cl_ns encI ns), (6, pS 1 false enc8 rest), (8, PV.ref 0 0 none), (9, pN k)]) 1 (fun (rest : List UInt8) (os : List (List UInt8)) (k : Nat) => [(0, oB true 1 (encS 1 enc8) os)]) (fun (rest : List UInt8) (os : List (List UInt8)) (k : Nat) => (30 - k) + rest.length) (al) (([] : List (List UInt8))) (0) ?_ ⟨[(0, 2)], by rw [hk]; decide, ⟨⟨_, rfl, rfl, rfl⟩, ⟨_, rfl, rfl, rfl⟩, ⟨_, rfl, rfl, rfl⟩, ⟨_, rfl, rfl, rfl⟩, trivial⟩, ⟨⟨_, _, rfl, rfl, rfl, rfl⟩, trivial⟩, by rw [hk]; decide⟩ ?_
   · exact ⟨by omega, by simp, by omega, by omega, by simp⟩
   ·
    intro rest os k hI
    obtain ⟨hre, hok, hk3, hne, hsm⟩ := hI
    refine w_seq ?_
    refine w_seq ?_
    refine w_R ?_
    refine qm hnt rfl rfl ?_
    refine qo hnt rfl (s_lenM (l := rest) tab_27 rfl (hM_sl (f := enc8) rfl) ?_)
    refine qo hnt rfl (s_gtr rfl rfl ?_)
    refine r_end ?_
    refine q_then ?_
    refine w_if rfl (fun c2 => ?_) (fun c2 => ?_)
    ·
     have c2_ := c2
     try simp only [sB] at c2
     refine w_skip ?_
     refine q_then ?_
     refine w_seq ?_
     refine w_block ?_
     refine w_seq ?_
     refine w_R ?_
     refine qm hnt rfl rfl ?_
     refine qo hnt rfl (s_lenM (l := rest) tab_27 rfl (hM_sl (f := enc8) rfl) ?_)
     refine qa hnt rfl rfl ?_
     refine r_end ?_
     refine q_then ?_
     refine w_seq ?_
     refine w_seq ?_
     refine w_R ?_
     refine qm hnt rfl rfl ?_
     refine qm hnt rfl rfl ?_
     refine qo hnt rfl (s_lenM (l := ns) tab_22 rfl (hM_sl (f := encI) rfl) ?_)
     refine qo hnt rfl (s_lss rfl rfl ?_)
     refine qm hnt rfl rfl ?_
     refine r_if tabOk hnt rfl rfl rfl (fun g1 => ?_) (fun g1 => ?_)
     ·
      have g1' := g1
      try simp only [sB] at g1'
      refine qm hnt rfl rfl ?_
      refine ry hnt rfl rfl rfl g1 ?_
      refine qo hnt rfl (s_lss rfl rfl ?_)
      refine qo hnt rfl (s_pick_t rfl g1 rfl ?_)
      refine r_end ?_
      refine q_then ?_
      refine w_if rfl (fun c3 => ?_) (fun c3 => ?_)
      ·
       have c3_ := c3
       try simp only [sB] at c3
       refine w_R ?_
       refine qm hnt rfl rfl ?_
       refine qm hnt rfl rfl ?_
       refine qm hnt rfl rfl ?_
       obtain ⟨e1, he1⟩ := get_of_lt ns (i := k) (by omega)
       refine qo hnt rfl (s_iaM (q := k) (b := e1) (f := encI) tab_22 rfl tab_3 rfl rfl (by omega) rfl he1 ?_)
       refine qo hnt rfl (s_load_ro1 tab_3 rfl rfl rfl rfl ?_)
       refine qo hnt rfl (s_callF rfl rfl rfl (w_burgagebook_Within e1 0 20 (by first | omega | assumption | (simp; omega) | decide | (simp; done))) rfl ?_)
       have hwb := within_between e1 (lo := 0) (hi := 20) (by decide)
       refine qo hnt rfl (s_minI rfl ?_)
       refine qa hnt rfl rfl ?_
       refine r_end ?_
       refine q_then ?_
       refine w_seq ?_
       refine w_R ?_
       refine qm hnt rfl rfl ?_
       refine qm hnt rfl rfl ?_
       refine qm hnt rfl rfl ?_
       refine qo hnt rfl (s_cutM_hi (b := Int.toNat (min ((rest.length : Nat) : Int) (within e1 0 20))) (f := enc8) (l := rest) tab_27 rfl tab_5 ⟨rfl, by decide⟩ rfl (bound_some rfl (by omega)) (by omega) ?_)
       refine qo hnt rfl (s_mkM (f := (encS 1 enc8)) [rest.take (Int.toNat (min ((rest.length : Nat) : Int) (within e1 0 20)))] tab_23 rfl tab_27 ⟨rfl, by decide⟩ (by decide) rfl rfl rfl rfl ?_)
       refine qo hnt rfl (s_appR0 (f := (encS 1 enc8)) (l := os) (xs := [rest.take (Int.toNat (min ((rest.length : Nat) : Int) (within e1 0 20)))]) tab_23 rfl tab_27 ⟨rfl, by decide, by decide⟩ (srcM tab_23 rfl (hM_ref0 (f := (encS 1 enc8)) rfl rfl)) rfl rfl (by first | omega | (simp; omega)) ?_)
       refine qa hnt rfl rfl ?_
       refine r_set [(1, pS 1 cl_ns encI ns), (6, pS 1 false enc8 rest), (8, PV.ref 2 0 none), (9, pN k), (10, pI (min ((rest.length : Nat) : Int) (within e1 0 20))), (37, pN k), (38, pB (decide (((k : Nat) : Int) < 30)))] [(2, oB true 1 (encS 1 enc8) (os ++ [rest.take (Int.toNat (min ((rest.length : Nat) : Int) (within e1 0 20)))])), (1, oB true 1 (encS 1 enc8) [rest.take (Int.toNat (min ((rest.length : Nat) : Int) (within e1 0 20)))])] 3 ⟨rfl, rfl, rfl, rfl, rfl, rfl, rfl, trivial⟩ rfl rfl ?_
       refine r_end ?_
       refine q_then ?_
       refine w_R ?_
       refine qm hnt rfl rfl ?_
       refine qm hnt rfl rfl ?_
       refine qo hnt rfl (s_cutM_lo (a := Int.toNat (min ((rest.length : Nat) : Int) (within e1 0 20))) (f := enc8) (l := rest) tab_27 rfl tab_5 ⟨rfl, by decide⟩ rfl (bound_some rfl (by omega)) (by omega) ?_)
       refine qa hnt rfl rfl ?_
       refine r_end ?_
       refine q_block ?_
       refine q_then ?_
       refine w_R ?_
       refine qm hnt rfl rfl ?_
       refine qo hnt rfl (s_addN (a := k) (b := 1) rfl rfl (by omega) (by omega) (by omega) ?_)
       refine qa hnt rfl rfl ?_
       refine r_end ?_
       refine q_then ?_
       refine ⟨(rest.drop (Int.toNat (min ((rest.length : Nat) : Int) (within e1 0 20)))), (os ++ [rest.take (Int.toNat (min ((rest.length : Nat) : Int) (within e1 0 20)))]), (k + 1), ?_, ?_, ⟨[(0, 2)], by rw [hk]; decide, ⟨⟨_, rfl, rfl, rfl⟩, ⟨_, rfl, rfl, rfl⟩, ⟨_, rfl, rfl, rfl⟩, ⟨_, rfl, rfl, rfl⟩, trivial⟩, ⟨⟨_, _, rfl, rfl, rfl, rfl⟩, trivial⟩, by rw [hk]; decide⟩⟩
       ·
        refine ⟨by rw [List.length_drop]; omega, by rw [List.length_append, List.length_singleton]; omega, by rw [List.length_drop]; omega, by intro _; rw [List.length_append, List.length_singleton]; omega, fun y hy => ?_⟩
        rcases List.mem_append.1 hy with h | h
        · exact hsm y h
        · have h := List.mem_singleton.1 h; subst h; rw [List.length_take]; omega
       · rw [List.length_drop]; omega
      ·
       have c3_ := c3
       try simp only [sB] at c3
       refine w_skip ?_
       refine q_then ?_
       refine w_seq ?_
       refine w_R ?_
       refine qm hnt rfl rfl ?_
       refine qm hnt rfl rfl ?_
       refine qm hnt rfl rfl ?_
       refine qo hnt rfl (s_cutM_hi (b := rest.length) (f := enc8) (l := rest) tab_27 rfl tab_5 ⟨rfl, by decide⟩ rfl (bound_some rfl (by omega)) (by omega) ?_)
       refine qo hnt rfl (s_mkM (f := (encS 1 enc8)) [rest.take rest.length] tab_23 rfl tab_27 ⟨rfl, by decide⟩ (by decide) rfl rfl rfl rfl ?_)
       refine qo hnt rfl (s_appR0 (f := (encS 1 enc8)) (l := os) (xs := [rest.take rest.length]) tab_23 rfl tab_27 ⟨rfl, by decide, by decide⟩ (srcM tab_23 rfl (hM_ref0 (f := (encS 1 enc8)) rfl rfl)) rfl rfl (by first | omega | (simp; omega)) ?_)
       refine qa hnt rfl rfl ?_
       refine r_set [(1, pS 1 cl_ns encI ns), (6, pS 1 false enc8 rest), (8, PV.ref 2 0 none), (9, pN k), (10, pN rest.length), (37, pN k), (38, pB (decide (((k : Nat) : Int) < 30)))] [(2, oB true 1 (encS 1 enc8) (os ++ [rest.take rest.length])), (1, oB true 1 (encS 1 enc8) [rest.take rest.length])] 3 ⟨rfl, rfl, rfl, rfl, rfl, rfl, rfl, trivial⟩ rfl rfl ?_
       refine r_end ?_
       refine q_then ?_
       refine w_R ?_
       refine qm hnt rfl rfl ?_
       refine qm hnt rfl rfl ?_
       refine qo hnt rfl (s_cutM_lo (a := rest.length) (f := enc8) (l := rest) tab_27 rfl tab_5 ⟨rfl, by decide⟩ rfl (bound_some rfl (by omega)) (by omega) ?_)
       refine qa hnt rfl rfl ?_
       refine r_end ?_
       refine q_block ?_
       refine q_then ?_
       refine w_R ?_
       refine qm hnt rfl rfl ?_
       refine qo hnt rfl (s_addN (a := k) (b := 1) rfl rfl (by omega) (by omega) (by omega) ?_)
       refine qa hnt rfl rfl ?_
       refine r_end ?_
       refine q_then ?_
       refine ⟨(rest.drop rest.length), (os ++ [rest.take rest.length]), (k + 1), ?_, ?_, ⟨[(0, 2)], by rw [hk]; decide, ⟨⟨_, rfl, rfl, rfl⟩, ⟨_, rfl, rfl, rfl⟩, ⟨_, rfl, rfl, rfl⟩, ⟨_, rfl, rfl, rfl⟩, trivial⟩, ⟨⟨_, _, rfl, rfl, rfl, rfl⟩, trivial⟩, by rw [hk]; decide⟩⟩
       ·
        refine ⟨by rw [List.length_drop]; omega, by rw [List.length_append, List.length_singleton]; omega, by rw [List.length_drop]; omega, by intro _; rw [List.length_append, List.length_singleton]; omega, fun y hy => ?_⟩
        rcases List.mem_append.1 hy with h | h
        · exact hsm y h
        · have h := List.mem_singleton.1 h; subst h; rw [List.length_take]; omega
       · rw [List.length_drop]; omega
     ·
      have g1' := g1
      try simp only [sB] at g1'
      refine rn hnt rfl rfl rfl g1 ?_
      refine qo hnt rfl (s_pick_f rfl g1 rfl ?_)
      refine r_end ?_
      refine q_then ?_
      refine w_if rfl (fun e => absurd e (by decide)) (fun _ => ?_)
      refine w_skip ?_
      refine q_then ?_
      refine w_seq ?_
      refine w_R ?_
      refine qm hnt rfl rfl ?_
      refine qm hnt rfl rfl ?_
      refine qm hnt rfl rfl ?_
      refine qo hnt rfl (s_cutM_hi (b := rest.length) (f := enc8) (l := rest) tab_27 rfl tab_5 ⟨rfl, by decide⟩ rfl (bound_some rfl (by omega)) (by omega) ?_)
      refine qo hnt rfl (s_mkM (f := (encS 1 enc8)) [rest.take rest.length] tab_23 rfl tab_27 ⟨rfl, by decide⟩ (by decide) rfl rfl rfl rfl ?_)
      refine qo hnt rfl (s_appR0 (f := (encS 1 enc8)) (l := os) (xs := [rest.take rest.length]) tab_23 rfl tab_27 ⟨rfl, by decide, by decide⟩ (srcM tab_23 rfl (hM_ref0 (f := (encS 1 enc8)) rfl rfl)) rfl rfl (by first | omega | (simp; omega)) ?_)
      refine qa hnt rfl rfl ?_
      refine r_set [(1, pS 1 cl_ns encI ns), (6, pS 1 false enc8 rest), (8, PV.ref 2 0 none), (9, pN k), (10, pN rest.length)] [(2, oB true 1 (encS 1 enc8) (os ++ [rest.take rest.length])), (1, oB true 1 (encS 1 enc8) [rest.take rest.length])] 3 ⟨rfl, rfl, rfl, rfl, rfl, trivial⟩ rfl rfl ?_
      refine r_end ?_
      refine q_then ?_
      refine w_R ?_
      refine qm hnt rfl rfl ?_
      refine qm hnt rfl rfl ?_
      refine qo hnt rfl (s_cutM_lo (a := rest.length) (f := enc8) (l := rest) tab_27 rfl tab_5 ⟨rfl, by decide⟩ rfl (bound_some rfl (by omega)) (by omega) ?_)
      refine qa hnt rfl rfl ?_
      refine r_end ?_
      refine q_block ?_
      refine q_then ?_
      refine w_R ?_
      refine qm hnt rfl rfl ?_
      refine qo hnt rfl (s_addN (a := k) (b := 1) rfl rfl (by omega) (by omega) (by omega) ?_)
      refine qa hnt rfl rfl ?_
      refine r_end ?_
      refine q_then ?_
      refine ⟨(rest.drop rest.length), (os ++ [rest.take rest.length]), (k + 1), ?_, ?_, ⟨[(0, 2)], by rw [hk]; decide, ⟨⟨_, rfl, rfl, rfl⟩, ⟨_, rfl, rfl, rfl⟩, ⟨_, rfl, rfl, rfl⟩, ⟨_, rfl, rfl, rfl⟩, trivial⟩, ⟨⟨_, _, rfl, rfl, rfl, rfl⟩, trivial⟩, by rw [hk]; decide⟩⟩
      ·
       refine ⟨by rw [List.length_drop]; omega, by rw [List.length_append, List.length_singleton]; omega, by rw [List.length_drop]; omega, by intro _; rw [List.length_append, List.length_singleton]; omega, fun y hy => ?_⟩
       rcases List.mem_append.1 hy with h | h
       · exact hsm y h
       · have h := List.mem_singleton.1 h; subst h; rw [List.length_take]; omega
      · rw [List.length_drop]; omega
    ·
     have c2_ := c2
     try simp only [sB] at c2
     refine w_exit ?_
     refine q_then_exit ?_
     refine q_then_exit ?_
     refine q_block_exit ?_
     refine q_then ?_
     refine w_seq ?_
     refine w_R ?_
     refine qm hnt rfl rfl ?_
     refine qa hnt rfl rfl ?_
     refine r_end ?_
     refine q_then ?_
     refine w_frzM (s := 4) (f := (encS 1 enc8)) rfl rfl view_0 ?_
     refine w_ret ?_
     have hex : 1 ≤ os.length ∧ os.length ≤ 40 ∧ ∀ y ∈ os, y.length ≤ 2000 := by
       exact ⟨by omega, by omega, hsm⟩
     exact fin_plain (ret_tmp rfl ret_nil) rfl rfl ⟨(os), hex, rfl, rfl, rfl⟩
theorem w_burgagelaw6_tape (k : Int) (hk1 : 0 ≤ k ∧ k ≤ 1000) :
    T Try.prog 16 [pI k] 0 [] (fun ra rb rc => ∃ q : List Int, (q.length = 900) ∧ (Ret (pS 1 false encI q) 0 []) ra rb rc) := by
 refine t_fun tabOk (n := 25) (rs := [.tmp 2]) Try.func16 rfl rfl rfl rfl (Nat.le_of_ble_eq_true rfl) ?_
 intro c hnt hk
 refine w_seq ?_
 refine w_R ?_
 refine qa hnt rfl rfl ?_
 refine r_end ?_
 refine q_then ?_
 refine w_seq ?_
 refine w_R ?_
 refine qa hnt rfl rfl ?_
 refine r_end ?_
 refine q_then ?_
 refine w_seq ?_
 refine w_seq ?_
 refine w_R ?_
 refine qa hnt rfl rfl ?_
 refine r_end ?_
 refine q_then ?_
 refine w_block ?_
 refine w_adopt (s := 3) (sz := 1) rfl ?_
 refine loop2 (fun (os : List Int) (i : Nat) => i ≤ 900 ∧ os.length = i) (fun (os : List Int) (i : Nat) => [(0, pI k), (3, PV.ref 0 0 none), (4, pN i)]) 1 (fun (os : List Int) (i : Nat) => [(0, oB true 1 encI os)]) (fun (os : List Int) (i : Nat) => 900 - i) (([] : List Int)) (0) ?_ ⟨[(0, 0)], by rw [hk]; decide, ⟨⟨_, rfl, rfl, rfl⟩, ⟨_, rfl, rfl, rfl⟩, ⟨_, rfl, rfl, rfl⟩, trivial⟩, ⟨⟨_, _, rfl, rfl, rfl, rfl⟩, trivial⟩, by rw [hk]; decide⟩ ?_
 · simp
 ·
  intro os i hI
  obtain ⟨hi, hol⟩ := hI
  have hii : i * i ≤ 900 * 900 := Nat.mul_le_mul hi hi
  have hik0 : 0 ≤ (i : Int) * k := Int.mul_nonneg (by omega) (by omega)
  have hik : (i : Int) * k ≤ 900 * 1000 := Int.mul_le_mul (by omega) (by omega) (by omega) (by omega)
  refine w_seq ?_
  refine w_seq ?_
  refine w_R ?_
  refine qm hnt rfl rfl ?_
  refine qo hnt rfl (s_lss rfl rfl ?_)
  refine r_end ?_
  refine q_then ?_
  refine w_if rfl (fun c1 => ?_) (fun c1 => ?_)
  ·
   have c1_ := c1
   try simp only [sB] at c1
   refine w_skip ?_
   refine q_then ?_
   refine w_seq ?_
   refine w_block ?_
   refine w_R ?_
   refine qm hnt rfl rfl ?_
   refine qm hnt rfl rfl ?_
   refine qm hnt rfl rfl ?_
   refine qo hnt rfl (s_mulN (a := i) (b := i) rfl rfl (by omega) (by omega) (by omega) ?_)
   refine qo hnt rfl (s_mulN (a := i * i) (b := 7) rfl rfl (by omega) (by omega) (by omega) ?_)
   refine qm hnt rfl rfl ?_
   refine qo hnt rfl (s_muli (r := k * 41) rfl rfl rfl (by omega) ?_)
   refine qo hnt rfl (s_addi (r := (((i * i) * 7 : Nat) : Int) + (k * 41)) rfl rfl rfl (by omega) ?_)
   refine qm hnt rfl rfl ?_
   refine qm hnt rfl rfl ?_
   refine qo hnt rfl (s_muli (r := ((i : Nat) : Int) * k) rfl rfl rfl (by omega) ?_)
   refine qo hnt rfl (s_addi (r := ((((i * i) * 7 : Nat) : Int) + (k * 41)) + (((i : Nat) : Int) * k)) rfl rfl rfl (by omega) ?_)
   refine qo hnt rfl (s_rem rfl rfl (by first | decide | omega) ?_)
   refine qo hnt rfl (s_mkM (f := encI) [Int.tmod (((((i * i) * 7 : Nat) : Int) + (k * 41)) + (((i : Nat) : Int) * k)) 211] tab_22 rfl tab_3 ⟨rfl, by decide⟩ (by decide) rfl rfl rfl rfl ?_)
   refine qo hnt rfl (s_appR0 (f := encI) (l := os) (xs := [Int.tmod (((((i * i) * 7 : Nat) : Int) + (k * 41)) + (((i : Nat) : Int) * k)) 211]) tab_22 rfl tab_3 ⟨rfl, by decide, by decide⟩ (srcM tab_22 rfl (hM_ref0 (f := encI) rfl rfl)) rfl rfl (by first | omega | (simp; omega)) ?_)
   refine qa hnt rfl rfl ?_
   refine r_set [(0, pI k), (3, PV.ref 2 0 none), (4, pN i)] [(2, oB true 1 encI (os ++ [Int.tmod (((((i * i) * 7 : Nat) : Int) + (k * 41)) + (((i : Nat) : Int) * k)) 211])), (1, oB true 1 encI [Int.tmod (((((i * i) * 7 : Nat) : Int) + (k * 41)) + (((i : Nat) : Int) * k)) 211])] 3 ⟨rfl, rfl, rfl, trivial⟩ rfl rfl ?_
   refine r_end ?_
   refine q_block ?_
   refine q_then ?_
   refine w_R ?_
   refine qm hnt rfl rfl ?_
   refine qo hnt rfl (s_addN (a := i) (b := 1) rfl rfl (by omega) (by omega) (by omega) ?_)
   refine qa hnt rfl rfl ?_
   refine r_end ?_
   refine q_then ?_
   refine ⟨(os ++ [Int.tmod (((((i * i) * 7 : Nat) : Int) + (k * 41)) + (((i : Nat) : Int) * k)) 211]), (i + 1), ?_, ?_, ⟨[(0, 2)], by rw [hk]; decide, ⟨⟨_, rfl, rfl, rfl⟩, ⟨_, rfl, rfl, rfl⟩, ⟨_, rfl, rfl, rfl⟩, trivial⟩, ⟨⟨_, _, rfl, rfl, rfl, rfl⟩, trivial⟩, by rw [hk]; decide⟩⟩
   ·
    exact ⟨by omega, by simp [hol]⟩
   · omega
  ·
   have c1_ := c1
   try simp only [sB] at c1
   refine w_exit ?_
   refine q_then_exit ?_
   refine q_then_exit ?_
   refine q_block_exit ?_
   refine q_then ?_
   refine w_seq ?_
   refine w_R ?_
   refine qm hnt rfl rfl ?_
   refine qa hnt rfl rfl ?_
   refine r_end ?_
   refine q_then ?_
   refine w_frzM (s := 2) (f := encI) rfl rfl view_0 ?_
   refine w_ret ?_
   have hex : os.length = 900 := by
     omega
   exact fin_plain (ret_tmp rfl ret_nil) rfl rfl ⟨(os), hex, rfl, rfl, rfl⟩
theorem w_mbap_Bytes_l (m : TMsg) (hm : m.pdu.length ≤ 140737488351232) :
    T Try.prog 18 [PV.f (eMsg m)] 0 [] (Ret (pS 1 false enc8 (bytesM m)) 0 []) := by
 refine t_fun tabOk (n := 31) (rs := [.tmp 2]) Try.func18 rfl rfl rfl rfl (Nat.le_of_ble_eq_true rfl) ?_
 intro c hnt hk
 refine w_seq ?_
 refine w_R ?_
 refine qo hnt rfl (s_box rfl rfl ?_)
 refine qa hnt rfl rfl ?_
 refine r_set [(1, PV.ptr 0 0)] [(0, .obj [pI m.id, pI m.unit, pS 1 false enc8 m.pdu])] 1 ⟨rfl, trivial⟩ rfl rfl ?_
 refine r_end ?_
 refine q_then ?_
 refine w_seq ?_
 refine w_R ?_
 refine qo hnt rfl (s_fa_ptr tab_30 rfl rfl tab_27 (by decide) rfl ?_)
 refine qo hnt rfl (s_load_ptr1 tab_27 rfl rfl rfl rfl rfl ?_)
 refine qo hnt rfl (s_lenM (l := m.pdu) tab_27 rfl (hM_sl (f := enc8) rfl) ?_)
 refine qo hnt rfl (s_addN (a := m.pdu.length) (b := 1) rfl rfl (by omega) (by omega) (by omega) ?_)
 refine qa hnt rfl rfl ?_
 refine r_end ?_
 refine q_then ?_
 refine w_seq ?_
 refine w_seq ?_
 refine w_R ?_
 refine qm hnt rfl rfl ?_
 refine qo hnt rfl (s_lss rfl rfl ?_)
 refine qm hnt rfl rfl ?_
 refine r_if tabOk hnt rfl rfl rfl (fun g1 => ?_) (fun g1 => ?_)
 ·
  have g1' := g1
  try simp only [sB] at g1'
  refine qm hnt rfl rfl ?_
  refine ry hnt rfl rfl rfl g1 ?_
  refine qo hnt rfl (s_gtr rfl rfl ?_)
  refine qo hnt rfl (s_pick_f rfl g1 rfl ?_)
  refine r_end ?_
  refine q_then ?_
  refine w_if rfl (fun c1 => ?_) (fun c1 => ?_)
  ·
   have c1_ := c1
   try simp only [sB] at c1
   refine w_seq ?_
   have hbm : bytesM m = [] := bytesM_none (by omega)
   refine w_R ?_
   refine qa hnt rfl rfl ?_
   refine r_end ?_
   refine q_then ?_
   refine w_le (s := 2) (y := pS 1 false enc8 []) rfl (le_nilS 1 false) ?_
   refine w_le (s := 2) (y := pS 1 false enc8 (bytesM m)) rfl (le_of_eq (congrArg (fun z => pS 1 false enc8 z) (show [] = (bytesM m) by first | (rw [hbm]; done) | (rw [hbm]; rfl) | simp [hbm]))) ?_
   refine w_ret ?_
   refine q_then_ret ?_
   exact fin_plain (ret_tmp rfl ret_nil) rfl rfl ⟨rfl, rfl, rfl⟩
  ·
   have c1_ := c1
   try simp only [sB] at c1
   have hbm := bytesM_some (m := m) (by omega)
   refine w_skip ?_
   refine q_then ?_
   refine w_seq ?_
   refine w_R ?_
   refine qo hnt rfl (s_fa_ptr tab_30 rfl rfl tab_3 (by decide) rfl ?_)
   refine qo hnt rfl (s_load_ptr1 tab_3 rfl rfl rfl rfl rfl ?_)
   refine qo hnt rfl (s_callX (r2 := PV.ref 1 0 none) (nx1 := 2) (H2 := [(0, .obj [pI m.id, pI m.unit, pS 1 false enc8 m.pdu])]) (H3 := [(1, oB true 1 enc8 ([] ++ put2 m.id)), (0, .obj [pI m.id, pI m.unit, pS 1 false enc8 m.pdu])]) [] [] rfl rfl rfl (handed_of (by decide) trivial) rfl rfl rfl rfl rfl rfl (T.leL (args := [pNil, pI m.id]) (args' := [pS 1 false enc8 [], pI m.id]) ⟨le_F (FLe.nil 1 false), ⟨le_refl _, trivial⟩⟩ (w_octet_Put [] false m.id (by first | omega | assumption | (simp; omega) | decide | (simp; done)))) rfl (dist_of rfl) rfl rfl rfl rfl ?_)
   refine qo hnt rfl (s_callX (r2 := PV.ref 2 0 none) (nx1 := 3) (H2 := [(1, oB false 1 enc8 ([] ++ put2 m.id)), (0, .obj [pI m.id, pI m.unit, pS 1 false enc8 m.pdu])]) (H3 := [(2, oB true 1 enc8 (([] ++ put2 m.id) ++ put2 0)), (1, oB false 1 enc8 ([] ++ put2 m.id)), (0, .obj [pI m.id, pI m.unit, pS 1 false enc8 m.pdu])]) [] [] rfl rfl rfl (handed_of (by decide) trivial) rfl rfl rfl rfl rfl rfl (w_octet_Put ([] ++ put2 m.id) false 0 (by first | omega | assumption | (simp; omega) | decide | (simp; done))) rfl (dist_of rfl) rfl rfl rfl rfl ?_)
   refine qm hnt rfl rfl ?_
   refine qo hnt rfl (s_callX (r2 := PV.ref 3 0 none) (nx1 := 4) (H2 := [(2, oB false 1 enc8 (([] ++ put2 m.id) ++ put2 0)), (1, oB false 1 enc8 ([] ++ put2 m.id)), (0, .obj [pI m.id, pI m.unit, pS 1 false enc8 m.pdu])]) (H3 := [(3, oB true 1 enc8 ((([] ++ put2 m.id) ++ put2 0) ++ put2 ((m.pdu.length + 1 : Nat) : Int))), (2, oB false 1 enc8 (([] ++ put2 m.id) ++ put2 0)), (1, oB false 1 enc8 ([] ++ put2 m.id)), (0, .obj [pI m.id, pI m.unit, pS 1 false enc8 m.pdu])]) [] [] rfl rfl rfl (handed_of (by decide) trivial) rfl rfl rfl rfl rfl rfl (w_octet_Put (([] ++ put2 m.id) ++ put2 0) false ((m.pdu.length + 1 : Nat) : Int) (by first | omega | assumption | (simp; omega) | decide | (simp; done))) rfl (dist_of rfl) rfl rfl rfl rfl ?_)
   refine qa hnt rfl rfl ?_
   refine r_set [(1, PV.ptr 0 0), (4, PV.ref 3 0 none)] [(3, oB true 1 enc8 ((([] ++ put2 m.id) ++ put2 0) ++ put2 ((m.pdu.length + 1 : Nat) : Int))), (2, oB false 1 enc8 (([] ++ put2 m.id) ++ put2 0)), (1, oB false 1 enc8 ([] ++ put2 m.id)), (0, .obj [pI m.id, pI m.unit, pS 1 false enc8 m.pdu])] 4 ⟨rfl, rfl, trivial⟩ rfl rfl ?_
   refine r_end ?_
   refine q_then ?_
   refine w_seq ?_
   refine W_drawn tabOk mixed hnt [[], [], [1], [1, 2], [1, 2, 3], [0, 1, 2, 3, 4], [], [6], [0, 1, 2, 3, 4, 5, 6, 7], [0, 1, 2, 3, 4, 5, 6, 7, 8], [0, 1, 2, 3, 4, 5, 6, 7, 8, 9]] (by kernel_rfl) ?_
   refine d_op ?_
   refine x_run0 [(4, PV.ref 3 0 none)] [] rfl rfl rfl rfl (s_move rfl ⟨rfl, rfl, rfl⟩) ?_
   refine d_op ?_
   refine x_run0 [(1, PV.ptr 0 0)] [] rfl rfl rfl rfl (s_fa_ptr tab_30 rfl rfl tab_3 (by decide) rfl ⟨rfl, rfl, rfl⟩) ?_
   refine d_op ?_
   refine x_run [(22, PV.ptr 0 1)] [1] [(0, .obj [pI m.id, pI m.unit, pS 1 false enc8 m.pdu])] [] [(0, .obj [pI m.id, pI m.unit, pS 1 false enc8 m.pdu])] [] [(3, oB true 1 enc8 ((([] ++ put2 m.id) ++ put2 0) ++ put2 ((m.pdu.length + 1 : Nat) : Int))), (2, oB false 1 enc8 (([] ++ put2 m.id) ++ put2 0)), (1, oB false 1 enc8 ([] ++ put2 m.id)), (0, .obj [pI m.id, pI m.unit, pS 1 false enc8 m.pdu])] rfl rfl rfl rfl rfl rfl (s_load_ptr1 tab_3 rfl rfl rfl rfl rfl ⟨rfl, rfl, rfl⟩) rfl ⟨rfl, trivial⟩ rfl rfl ?_
   refine d_op ?_
   refine x_run0 [(23, pI m.unit)] [1, 2] rfl rfl rfl rfl (s_cv8 tab_3 tab_5 rfl rfl rfl ⟨rfl, rfl, rfl⟩) ?_
   refine d_op ?_
   refine x_run [(24, p8 (u8I m.unit))] [1, 2, 3] [] [] [(4, oB true 1 enc8 [u8I m.unit])] [(4, oB true 1 enc8 [u8I m.unit])] [(4, oB true 1 enc8 [u8I m.unit]), (3, oB true 1 enc8 ((([] ++ put2 m.id) ++ put2 0) ++ put2 ((m.pdu.length + 1 : Nat) : Int))), (2, oB false 1 enc8 (([] ++ put2 m.id) ++ put2 0)), (1, oB false 1 enc8 ([] ++ put2 m.id)), (0, .obj [pI m.id, pI m.unit, pS 1 false enc8 m.pdu])] rfl rfl rfl rfl rfl rfl (s_mkM (f := enc8) [u8I m.unit] tab_27 rfl tab_5 ⟨rfl, by decide⟩ (by decide) rfl rfl rfl rfl ⟨rfl, rfl, rfl⟩) rfl trivial rfl rfl ?_
   refine d_op ?_
   refine x_run [(21, PV.ref 3 0 none), (25, PV.ref 4 0 none)] [0, 1, 2, 3, 4] [(4, oB true 1 enc8 [u8I m.unit])] [(3, oB true 1 enc8 ((([] ++ put2 m.id) ++ put2 0) ++ put2 ((m.pdu.length + 1 : Nat) : Int)))] [(5, oB true 1 enc8 (((([] ++ put2 m.id) ++ put2 0) ++ put2 ((m.pdu.length + 1 : Nat) : Int)) ++ [u8I m.unit])), (4, oB true 1 enc8 [u8I m.unit])] [(5, oB true 1 enc8 (((([] ++ put2 m.id) ++ put2 0) ++ put2 ((m.pdu.length + 1 : Nat) : Int)) ++ [u8I m.unit]))] [(5, oB true 1 enc8 (((([] ++ put2 m.id) ++ put2 0) ++ put2 ((m.pdu.length + 1 : Nat) : Int)) ++ [u8I m.unit])), (4, oB true 1 enc8 [u8I m.unit]), (2, oB false 1 enc8 (([] ++ put2 m.id) ++ put2 0)), (1, oB false 1 enc8 ([] ++ put2 m.id)), (0, .obj [pI m.id, pI m.unit, pS 1 false enc8 m.pdu])] rfl rfl rfl rfl rfl rfl (s_appR0 (f := enc8) (l := (([] ++ put2 m.id) ++ put2 0) ++ put2 ((m.pdu.length + 1 : Nat) : Int)) (xs := [u8I m.unit]) tab_27 rfl tab_5 ⟨rfl, by decide, by decide⟩ (srcM tab_27 rfl (hM_ref0 (f := enc8) rfl rfl)) rfl rfl (by first | omega | (simp; done) | (simp; omega)) ⟨rfl, rfl, rfl⟩) rfl ⟨rfl, trivial⟩ rfl rfl ?_
   refine d_op ?_
   refine x_run0 [(1, PV.ptr 0 0)] [] rfl rfl rfl rfl (s_fa_ptr tab_30 rfl rfl tab_27 (by decide) rfl ⟨rfl, rfl, rfl⟩) ?_
   refine d_op ?_
   refine x_run [(27, PV.ptr 0 2)] [6] [(0, .obj [pI m.id, pI m.unit, pS 1 false enc8 m.pdu])] [] [(0, .obj [pI m.id, pI m.unit, pS 1 false enc8 m.pdu])] [] [(5, oB true 1 enc8 (((([] ++ put2 m.id) ++ put2 0) ++ put2 ((m.pdu.length + 1 : Nat) : Int)) ++ [u8I m.unit])), (4, oB true 1 enc8 [u8I m.unit]), (2, oB false 1 enc8 (([] ++ put2 m.id) ++ put2 0)), (1, oB false 1 enc8 ([] ++ put2 m.id)), (0, .obj [pI m.id, pI m.unit, pS 1 false enc8 m.pdu])] rfl rfl rfl rfl rfl rfl (s_load_ptr1 tab_27 rfl rfl rfl rfl rfl ⟨rfl, rfl, rfl⟩) rfl ⟨rfl, trivial⟩ rfl rfl ?_
   refine d_op ?_
   refine x_run [(26, PV.ref 5 0 none), (28, pS 1 false enc8 m.pdu)] [0, 1, 2, 3, 4, 5, 6, 7] [] [(5, oB true 1 enc8 (((([] ++ put2 m.id) ++ put2 0) ++ put2 ((m.pdu.length + 1 : Nat) : Int)) ++ [u8I m.unit]))] [(6, oB true 1 enc8 ((((([] ++ put2 m.id) ++ put2 0) ++ put2 ((m.pdu.length + 1 : Nat) : Int)) ++ [u8I m.unit]) ++ m.pdu))] [(6, oB true 1 enc8 ((((([] ++ put2 m.id) ++ put2 0) ++ put2 ((m.pdu.length + 1 : Nat) : Int)) ++ [u8I m.unit]) ++ m.pdu))] [(6, oB true 1 enc8 ((((([] ++ put2 m.id) ++ put2 0) ++ put2 ((m.pdu.length + 1 : Nat) : Int)) ++ [u8I m.unit]) ++ m.pdu)), (4, oB true 1 enc8 [u8I m.unit]), (2, oB false 1 enc8 (([] ++ put2 m.id) ++ put2 0)), (1, oB false 1 enc8 ([] ++ put2 m.id)), (0, .obj [pI m.id, pI m.unit, pS 1 false enc8 m.pdu])] rfl rfl rfl rfl rfl rfl (s_appR0 (f := enc8) (l := ((([] ++ put2 m.id) ++ put2 0) ++ put2 ((m.pdu.length + 1 : Nat) : Int)) ++ [u8I m.unit]) (xs := m.pdu) tab_27 rfl tab_5 ⟨rfl, by decide, by decide⟩ (srcM tab_27 rfl (hM_sl (f := enc8) rfl)) rfl rfl (by first | omega | (simp; done) | (simp; omega)) ⟨rfl, rfl, rfl⟩) rfl trivial rfl rfl ?_
   refine d_op ?_
   refine x_run [(29, PV.ref 6 0 none)] [0, 1, 2, 3, 4, 5, 6, 7, 8] [] [(6, oB true 1 enc8 ((((([] ++ put2 m.id) ++ put2 0) ++ put2 ((m.pdu.length + 1 : Nat) : Int)) ++ [u8I m.unit]) ++ m.pdu))] [(6, oB false 1 enc8 ((((([] ++ put2 m.id) ++ put2 0) ++ put2 ((m.pdu.length + 1 : Nat) : Int)) ++ [u8I m.unit]) ++ m.pdu))] [(6, oB false 1 enc8 ((((([] ++ put2 m.id) ++ put2 0) ++ put2 ((m.pdu.length + 1 : Nat) : Int)) ++ [u8I m.unit]) ++ m.pdu))] [(6, oB false 1 enc8 ((((([] ++ put2 m.id) ++ put2 0) ++ put2 ((m.pdu.length + 1 : Nat) : Int)) ++ [u8I m.unit]) ++ m.pdu)), (4, oB true 1 enc8 [u8I m.unit]), (2, oB false 1 enc8 (([] ++ put2 m.id) ++ put2 0)), (1, oB false 1 enc8 ([] ++ put2 m.id)), (0, .obj [pI m.id, pI m.unit, pS 1 false enc8 m.pdu])] rfl rfl rfl rfl rfl rfl (s_callX (r2 := pS 1 true enc8 ((((([] ++ put2 m.id) ++ put2 0) ++ put2 ((m.pdu.length + 1 : Nat) : Int)) ++ [u8I m.unit]) ++ m.pdu)) (nx1 := 7) (H2 := [(6, oB false 1 enc8 ((((([] ++ put2 m.id) ++ put2 0) ++ put2 ((m.pdu.length + 1 : Nat) : Int)) ++ [u8I m.unit]) ++ m.pdu))]) (H3 := [(6, oB false 1 enc8 ((((([] ++ put2 m.id) ++ put2 0) ++ put2 ((m.pdu.length + 1 : Nat) : Int)) ++ [u8I m.unit]) ++ m.pdu))]) [] [] rfl rfl rfl (handed_of (by decide) trivial) rfl rfl rfl rfl rfl rfl (w_slices_Clip_byte_byte ((((([] ++ put2 m.id) ++ put2 0) ++ put2 ((m.pdu.length + 1 : Nat) : Int)) ++ [u8I m.unit]) ++ m.pdu) false) rfl (dist_of rfl) rfl rfl rfl rfl ⟨rfl, rfl, rfl⟩) rfl trivial rfl rfl ?_
   refine d_op ?_
   refine x_run0 [(30, pS 1 true enc8 ((((([] ++ put2 m.id) ++ put2 0) ++ put2 ((m.pdu.length + 1 : Nat) : Int)) ++ [u8I m.unit]) ++ m.pdu))] [0, 1, 2, 3, 4, 5, 6, 7, 8, 9] rfl rfl rfl rfl (s_assign rfl ⟨rfl, rfl, rfl⟩) ?_
   refine d_end ⟨by kernel_rfl, ?_⟩
   refine q_then ?_
   refine w_le (s := 2) (y := pS 1 false enc8 ((((([] ++ put2 m.id) ++ put2 0) ++ put2 ((m.pdu.length + 1 : Nat) : Int)) ++ [u8I m.unit]) ++ m.pdu)) rfl (le_loose) ?_
   refine w_le (s := 2) (y := pS 1 false enc8 (bytesM m)) rfl (le_of_eq (congrArg (fun z => pS 1 false enc8 z) (show ((((([] ++ put2 m.id) ++ put2 0) ++ put2 ((m.pdu.length + 1 : Nat) : Int)) ++ [u8I m.unit]) ++ m.pdu) = (bytesM m) by first | (rw [hbm]; done) | (rw [hbm]; rfl) | simp [hbm]))) ?_
   refine w_ret ?_
   exact fin_plain (ret_tmp rfl ret_nil) rfl rfl ⟨rfl, rfl, rfl⟩
 ·
  have g1' := g1
  try simp only [sB] at g1'
  refine rn hnt rfl rfl rfl g1 ?_
  refine qo hnt rfl (s_pick_t rfl g1 rfl ?_)
  refine r_end ?_
  refine q_then ?_
  refine w_if rfl (fun _ => ?_) (fun e => absurd e (by decide))
  refine w_seq ?_
  have hbm : bytesM m = [] := bytesM_none (by omega)
  refine w_R ?_
  refine qa hnt rfl rfl ?_
  refine r_end ?_
  refine q_then ?_
  refine w_le (s := 2) (y := pS 1 false enc8 []) rfl (le_nilS 1 false) ?_
  refine w_le (s := 2) (y := pS 1 false enc8 (bytesM m)) rfl (le_of_eq (congrArg (fun z => pS 1 false enc8 z) (show [] = (bytesM m) by first | (rw [hbm]; done) | (rw [hbm]; rfl) | simp [hbm]))) ?_
  refine w_ret ?_
  refine q_then_ret ?_
  exact fin_plain (ret_tmp rfl ret_nil) rfl rfl ⟨rfl, rfl, rfl⟩
theorem w_burgagelaw6_MbapNumbers   :
    T Try.prog 3 [] 0 [] (Ret (pB true) 0 []) := by
 refine t_fun tabOk (n := 97) (rs := [.tmp 0]) Try.func3 rfl rfl rfl rfl (Nat.le_of_ble_eq_true rfl) ?_
 intro c hnt hk
 refine w_seq ?_
 refine w_R ?_
 refine qa hnt rfl rfl ?_
 refine r_end ?_
 refine q_then ?_
 refine w_seq ?_
 refine w_seq ?_
 refine w_R ?_
 refine qa hnt rfl rfl ?_
 refine r_end ?_
 refine q_then ?_
 refine w_block ?_
 refine loop1 (fun (k : Nat) => k ≤ 40) (fun (k : Nat) => [(1, pN k)]) 0 (fun (k : Nat) => []) (fun (k : Nat) => 40 - k) (0) ?_ ⟨[], rfl, ⟨⟨_, rfl, rfl, rfl⟩, trivial⟩, trivial, by rw [hk]; decide⟩ ?_
 · omega
 ·
  intro k hI
  refine w_seq ?_
  refine w_seq ?_
  refine w_R ?_
  refine qm hnt rfl rfl ?_
  refine qo hnt rfl (s_lss rfl rfl ?_)
  refine r_end ?_
  refine q_then ?_
  refine w_if rfl (fun c1 => ?_) (fun c1 => ?_)
  ·
   have c1_ := c1
   try simp only [sB] at c1
   refine w_skip ?_
   refine q_then ?_
   refine w_seq ?_
   refine w_block ?_
   refine w_seq ?_
   refine w_R ?_
   refine qa hnt rfl rfl ?_
   refine r_end ?_
   refine q_then ?_
   refine w_seq ?_
   refine w_seq ?_
   refine w_R ?_
   refine qa hnt rfl rfl ?_
   refine r_end ?_
   refine q_then ?_
   refine w_block ?_
   refine w_adopt (s := 2) (sz := 1) rfl ?_
   refine loop2 (fun (nm : List Int) (i : Nat) => i ≤ 30 ∧ nm.length = i) (fun (nm : List Int) (i : Nat) => [(1, pN k), (2, PV.ref 0 0 none), (3, pN i)]) 1 (fun (nm : List Int) (i : Nat) => [(0, oB true 1 encI nm)]) (fun (nm : List Int) (i : Nat) => 30 - i) (([] : List Int)) (0) ?_ ⟨[(0, 0)], by rw [hk]; decide, ⟨⟨_, rfl, rfl, rfl⟩, ⟨_, rfl, rfl, rfl⟩, ⟨_, rfl, rfl, rfl⟩, trivial⟩, ⟨⟨_, _, rfl, rfl, rfl, rfl⟩, trivial⟩, by rw [hk]; decide⟩ ?_
   · simp
   ·
    intro nm i hJ
    obtain ⟨hi, hnl⟩ := hJ
    have hik : i * k ≤ 30 * 40 := Nat.mul_le_mul hi (by omega)
    refine w_seq ?_
    refine w_seq ?_
    refine w_R ?_
    refine qm hnt rfl rfl ?_
    refine qo hnt rfl (s_lss rfl rfl ?_)
    refine r_end ?_
    refine q_then ?_
    refine w_if rfl (fun c2 => ?_) (fun c2 => ?_)
    ·
     have c2_ := c2
     try simp only [sB] at c2
     refine w_skip ?_
     refine q_then ?_
     refine w_seq ?_
     refine w_block ?_
     refine w_R ?_
     refine qm hnt rfl rfl ?_
     refine qm hnt rfl rfl ?_
     refine qm hnt rfl rfl ?_
     refine qo hnt rfl (s_mulN (a := i) (b := k) rfl rfl (by omega) (by omega) (by omega) ?_)
     refine qm hnt rfl rfl ?_
     refine qo hnt rfl (s_addN (a := i * k) (b := k) rfl rfl (by omega) (by omega) (by omega) ?_)
     refine qo hnt rfl (s_remN (a := i * k + k) (b := 21) rfl rfl (by omega) (by omega) (by omega) ?_)
     refine qo hnt rfl (s_mkM (f := encI) [(((i * k + k) % 21 : Nat) : Int)] tab_22 rfl tab_3 ⟨rfl, by decide⟩ (by decide) rfl rfl rfl rfl ?_)
     refine qo hnt rfl (s_appR0 (f := encI) (l := nm) (xs := [(((i * k + k) % 21 : Nat) : Int)]) tab_22 rfl tab_3 ⟨rfl, by decide, by decide⟩ (srcM tab_22 rfl (hM_ref0 (f := encI) rfl rfl)) rfl rfl (by first | omega | (simp; omega)) ?_)
     refine qa hnt rfl rfl ?_
     refine r_set [(1, pN k), (2, PV.ref 2 0 none), (3, pN i)] [(2, oB true 1 encI (nm ++ [(((i * k + k) % 21 : Nat) : Int)])), (1, oB true 1 encI [(((i * k + k) % 21 : Nat) : Int)])] 3 ⟨rfl, rfl, rfl, trivial⟩ rfl rfl ?_
     refine r_end ?_
     refine q_block ?_
     refine q_then ?_
     refine w_R ?_
     refine qm hnt rfl rfl ?_
     refine qo hnt rfl (s_addN (a := i) (b := 1) rfl rfl (by omega) (by omega) (by omega) ?_)
     refine qa hnt rfl rfl ?_
     refine r_end ?_
     refine q_then ?_
     refine ⟨(nm ++ [(((i * k + k) % 21 : Nat) : Int)]), (i + 1), ?_, ?_, ⟨[(0, 2)], by rw [hk]; decide, ⟨⟨_, rfl, rfl, rfl⟩, ⟨_, rfl, rfl, rfl⟩, ⟨_, rfl, rfl, rfl⟩, trivial⟩, ⟨⟨_, _, rfl, rfl, rfl, rfl⟩, trivial⟩, by rw [hk]; decide⟩⟩
     ·
      exact ⟨by omega, by simp [hnl]⟩
     · omega
    ·
     have c2_ := c2
     try simp only [sB] at c2
     refine w_exit ?_
     refine q_then_exit ?_
     refine q_then_exit ?_
     refine q_block_exit ?_
     refine q_then ?_
     refine w_seq ?_
     refine w_R ?_
     refine qm hnt rfl rfl ?_
     refine qo hnt rfl (s_callX1 (p := fun (q1 : List Int) => q1.length = 900) (r2 := fun q1 => pS 1 false encI q1) (nx1 := 1) (H2 := [(0, oB true 1 encI nm)]) (H3 := fun q1 => [(0, oB true 1 encI nm)]) [] [] rfl rfl rfl (handed_of (by decide) trivial) rfl rfl rfl rfl rfl rfl (w_burgagelaw6_tape ((k : Nat) : Int) (by first | omega | assumption | (simp; omega) | decide | (simp; done))) (fun q1 => rfl) (fun q1 => dist_of rfl) (fun q1 => rfl) (fun q1 => rfl) rfl (fun q1 => rfl) (fun q1 hq1 => ?_))
     refine qm hnt rfl rfl ?_
     refine qo hnt rfl (s_callX1 (p := fun (q2 : List (List UInt8)) => 1 ≤ q2.length ∧ q2.length ≤ 40 ∧ ∀ y ∈ q2, y.length ≤ 2000) (r2 := fun q2 => pS 1 false (encS 1 enc8) q2) (nx1 := 1) (H2 := [(0, oB false 1 encI nm)]) (H3 := fun q2 => [(0, oB false 1 encI nm)]) [] [] rfl rfl rfl (handed_of (by decide) trivial) rfl rfl rfl rfl rfl rfl (w_burgagelaw6_cuts q1 false nm false (by first | omega | assumption | (simp; omega) | decide | (simp; done)) (by first | omega | assumption | (simp; omega) | decide | (simp; done))) (fun q2 => rfl) (fun q2 => dist_of rfl) (fun q2 => rfl) (fun q2 => rfl) rfl (fun q2 => rfl) (fun q2 hq2 => ?_))
     refine qa hnt rfl rfl ?_
     refine r_set [(1, pN k), (4, pS 1 false (encS 1 enc8) q2)] [(0, oB false 1 encI nm)] 1 ⟨rfl, rfl, trivial⟩ rfl rfl ?_
     refine r_end ?_
     refine q_then ?_
     refine w_seq ?_
     refine w_seq ?_
     obtain ⟨hq0, hq2, hqs⟩ := hq2
     refine w_R ?_
     refine qm hnt rfl rfl ?_
     refine qo hnt rfl (s_callF rfl rfl rfl (w_burgagelaw6_play q2 false (by omega) (by intro y hy; have := hqs y hy; omega)) rfl ?_)
     refine qo hnt rfl (s_not rfl ?_)
     refine r_end ?_
     refine q_then ?_
     refine w_if rfl (fun e => absurd e (by decide)) (fun _ => ?_)
     refine w_skip ?_
     refine q_then ?_
     refine w_seq ?_
     refine w_R ?_
     refine qo hnt rfl (s_mkM (f := enc8) ([] : List UInt8) tab_27 rfl tab_5 ⟨rfl, by decide⟩ (by decide) rfl rfl rfl rfl ?_)
     refine qm hnt rfl rfl ?_
     obtain ⟨e1, he1⟩ := get_of_lt q2 (i := 0) (by omega)
     refine qo hnt rfl (s_iaM (q := 0) (b := e1) (f := (encS 1 enc8)) tab_23 rfl tab_27 rfl rfl (by omega) rfl he1 ?_)
     refine qo hnt rfl (s_load_ro1 tab_27 rfl rfl rfl rfl ?_)
     have hx1 := hqs e1 (List.mem_of_getElem? he1)
     refine qo hnt rfl (s_appR0 (f := enc8) (l := ([] : List UInt8)) (xs := e1) tab_27 rfl tab_5 ⟨rfl, by decide, by decide⟩ (srcM tab_27 rfl (hM_sl (f := enc8) rfl)) rfl rfl (by first | omega | (simp; omega)) ?_)
     refine qa hnt rfl rfl ?_
     refine r_set [(1, pN k), (4, pS 1 false (encS 1 enc8) q2), (5, PV.ref 2 0 none)] [(2, oB true 1 enc8 e1), (0, oB false 1 encI nm)] 3 ⟨rfl, rfl, rfl, trivial⟩ rfl rfl ?_
     refine r_end ?_
     refine q_then ?_
     refine w_seq ?_
     refine w_seq ?_
     refine w_R ?_
     refine qm hnt rfl rfl ?_
     refine qo hnt rfl (s_lenM (l := e1) tab_27 rfl (hM_ref0 (f := enc8) rfl rfl) ?_)
     refine qo hnt rfl (s_gtr rfl rfl ?_)
     refine r_end ?_
     refine q_then ?_
     refine w_if rfl (fun c3 => ?_) (fun c3 => ?_)
     ·
      have c3_ := c3
      try simp only [sB] at c3
      refine w_R ?_
      refine qm hnt rfl rfl ?_
      refine qm hnt rfl rfl ?_
      refine qm hnt rfl rfl ?_
      refine qo hnt rfl (s_lenM (l := e1) tab_27 rfl (hM_ref0 (f := enc8) rfl rfl) ?_)
      refine qo hnt rfl (s_remN (a := k) (b := e1.length) rfl rfl (by omega) (by omega) (by omega) ?_)
      have hmod := Nat.mod_lt k (show 0 < e1.length by omega)
      refine qo hnt rfl (s_iaR0 (q := k % e1.length) (f := enc8) (l := e1) tab_27 rfl tab_5 rfl rfl (by omega) rfl rfl (by omega) ?_)
      obtain ⟨e2, he2⟩ := get_of_lt e1 (i := k % e1.length) (by omega)
      refine qo hnt rfl (s_ldM (b := e2) (f := enc8) tab_5 rfl rfl rfl rfl he2 rfl ?_)
      refine qm hnt rfl rfl ?_
      refine qo hnt rfl (s_remN (a := k) (b := 8) rfl rfl (by omega) (by omega) (by omega) ?_)
      refine qo hnt rfl (s_cvK tab_3 tab_28 rfl rfl rfl rfl (by exact ⟨by omega, by show _ < (18446744073709551616 : Int); omega⟩) ?_)
      refine qo hnt rfl (s_shl8 (a := 1) (k % 8) rfl rfl (by first | rfl | omega) (by first | decide | omega) ?_)
      refine qo hnt rfl (s_xor8 (a := e2) (b := 1 <<< UInt8.ofNat (k % 8)) rfl rfl ?_)
      refine qo hnt rfl (s_iaR0 (q := k % e1.length) (f := enc8) (l := e1) tab_27 rfl tab_5 rfl rfl (by omega) rfl rfl (by omega) ?_)
      refine qo hnt rfl (s_stM (y0 := e2) (z := e2 ^^^ (1 <<< UInt8.ofNat (k % 8))) (f := enc8) tab_5 rfl rfl rfl rfl rfl he2 (Nat.le_of_ble_eq_true rfl) rfl rfl (by simp) rfl ?_)
      refine r_set [(1, pN k), (4, pS 1 false (encS 1 enc8) q2), (5, PV.ref 2 0 none)] [(2, oB true 1 enc8 (e1.set (k % e1.length) (e2 ^^^ (1 <<< UInt8.ofNat (k % 8))))), (0, oB false 1 encI nm)] 3 ⟨rfl, rfl, rfl, trivial⟩ rfl rfl ?_
      refine r_end ?_
      refine q_then ?_
      refine w_seq ?_
      refine w_R ?_
      refine qm hnt rfl rfl ?_
      refine qo hnt rfl (s_mkM (f := (encS 1 enc8)) [e1.set (k % e1.length) (e2 ^^^ (1 <<< UInt8.ofNat (k % 8)))] tab_23 rfl tab_27 ⟨rfl, by decide⟩ (by decide) rfl rfl rfl rfl ?_)
      refine qm hnt rfl rfl ?_
      refine qo hnt rfl (s_cutM_lo (a := 1) (f := (encS 1 enc8)) (l := q2) tab_23 rfl tab_27 ⟨rfl, by decide⟩ rfl (bound_some rfl (by omega)) (by omega) ?_)
      refine qo hnt rfl (s_appR0 (f := (encS 1 enc8)) (l := [e1.set (k % e1.length) (e2 ^^^ (1 <<< UInt8.ofNat (k % 8)))]) (xs := q2.drop 1) tab_23 rfl tab_27 ⟨rfl, by decide, by decide⟩ (srcM tab_23 rfl (hM_sl (f := (encS 1 enc8)) rfl)) rfl rfl (by first | omega | (simp; omega)) ?_)
      refine qo hnt rfl (s_callX (r2 := pB true) (nx1 := 5) (H2 := [(4, oB false 1 (encS 1 enc8) ([e1.set (k % e1.length) (e2 ^^^ (1 <<< UInt8.ofNat (k % 8)))] ++ (q2.drop 1))), (2, oB false 1 enc8 (e1.set (k % e1.length) (e2 ^^^ (1 <<< UInt8.ofNat (k % 8))))), (0, oB false 1 encI nm)]) (H3 := [(4, oB false 1 (encS 1 enc8) ([e1.set (k % e1.length) (e2 ^^^ (1 <<< UInt8.ofNat (k % 8)))] ++ (q2.drop 1))), (2, oB false 1 enc8 (e1.set (k % e1.length) (e2 ^^^ (1 <<< UInt8.ofNat (k % 8))))), (0, oB false 1 encI nm)]) [] [] rfl rfl rfl (handed_of (by decide) trivial) rfl rfl rfl rfl rfl rfl (w_burgagelaw6_play ([e1.set (k % e1.length) (e2 ^^^ (1 <<< UInt8.ofNat (k % 8)))] ++ (q2.drop 1)) false (by simp; omega) (by intro y hy; rcases List.mem_append.1 hy with h | h; (have h := List.mem_singleton.1 h; subst h; first | omega | (rw [List.length_set]; omega)); (have := hqs y (List.mem_of_mem_drop h); omega))) rfl (dist_of rfl) rfl rfl rfl rfl ?_)
      refine qo hnt rfl (s_not rfl ?_)
      refine r_set [(1, pN k), (59, pB (!true))] [(4, oB false 1 (encS 1 enc8) ([e1.set (k % e1.length) (e2 ^^^ (1 <<< UInt8.ofNat (k % 8)))] ++ (q2.drop 1))), (2, oB false 1 enc8 (e1.set (k % e1.length) (e2 ^^^ (1 <<< UInt8.ofNat (k % 8))))), (0, oB false 1 encI nm)] 5 ⟨rfl, rfl, trivial⟩ rfl rfl ?_
      refine r_end ?_
      refine q_then ?_
      refine w_if rfl (fun e => absurd e (by decide)) (fun _ => ?_)
      refine w_skip ?_
      refine q_block ?_
      refine q_then ?_
      refine w_R ?_
      refine qm hnt rfl rfl ?_
      refine qo hnt rfl (s_addN (a := k) (b := 1) rfl rfl (by omega) (by omega) (by omega) ?_)
      refine qa hnt rfl rfl ?_
      refine r_end ?_
      refine q_then ?_
      refine ⟨(k + 1), ?_, ?_, ⟨[], rfl, ⟨⟨_, rfl, rfl, rfl⟩, trivial⟩, trivial, by rw [hk]; decide⟩⟩
      ·
       omega
      · omega
     ·
      have c3_ := c3
      try simp only [sB] at c3
      refine w_skip ?_
      refine q_then ?_
      refine w_seq ?_
      refine w_R ?_
      refine qm hnt rfl rfl ?_
      refine qo hnt rfl (s_mkM (f := (encS 1 enc8)) [e1] tab_23 rfl tab_27 ⟨rfl, by decide⟩ (by decide) rfl rfl rfl rfl ?_)
      refine qm hnt rfl rfl ?_
      refine qo hnt rfl (s_cutM_lo (a := 1) (f := (encS 1 enc8)) (l := q2) tab_23 rfl tab_27 ⟨rfl, by decide⟩ rfl (bound_some rfl (by omega)) (by omega) ?_)
      refine qo hnt rfl (s_appR0 (f := (encS 1 enc8)) (l := [e1]) (xs := q2.drop 1) tab_23 rfl tab_27 ⟨rfl, by decide, by decide⟩ (srcM tab_23 rfl (hM_sl (f := (encS 1 enc8)) rfl)) rfl rfl (by first | omega | (simp; omega)) ?_)
      refine qo hnt rfl (s_callX (r2 := pB true) (nx1 := 5) (H2 := [(4, oB false 1 (encS 1 enc8) ([e1] ++ (q2.drop 1))), (2, oB false 1 enc8 e1), (0, oB false 1 encI nm)]) (H3 := [(4, oB false 1 (encS 1 enc8) ([e1] ++ (q2.drop 1))), (2, oB false 1 enc8 e1), (0, oB false 1 encI nm)]) [] [] rfl rfl rfl (handed_of (by decide) trivial) rfl rfl rfl rfl rfl rfl (w_burgagelaw6_play ([e1] ++ (q2.drop 1)) false (by simp; omega) (by intro y hy; rcases List.mem_append.1 hy with h | h; (have h := List.mem_singleton.1 h; subst h; first | omega | (rw [List.length_set]; omega)); (have := hqs y (List.mem_of_mem_drop h); omega))) rfl (dist_of rfl) rfl rfl rfl rfl ?_)
      refine qo hnt rfl (s_not rfl ?_)
      refine r_set [(1, pN k), (59, pB (!true))] [(4, oB false 1 (encS 1 enc8) ([e1] ++ (q2.drop 1))), (2, oB false 1 enc8 e1), (0, oB false 1 encI nm)] 5 ⟨rfl, rfl, trivial⟩ rfl rfl ?_
      refine r_end ?_
      refine q_then ?_
      refine w_if rfl (fun e => absurd e (by decide)) (fun _ => ?_)
      refine w_skip ?_
      refine q_block ?_
      refine q_then ?_
      refine w_R ?_
      refine qm hnt rfl rfl ?_
      refine qo hnt rfl (s_addN (a := k) (b := 1) rfl rfl (by omega) (by omega) (by omega) ?_)
      refine qa hnt rfl rfl ?_
      refine r_end ?_
      refine q_then ?_
      refine ⟨(k + 1), ?_, ?_, ⟨[], rfl, ⟨⟨_, rfl, rfl, rfl⟩, trivial⟩, trivial, by rw [hk]; decide⟩⟩
      ·
       omega
      · omega
  ·
   have c1_ := c1
   try simp only [sB] at c1
   refine w_exit ?_
   refine q_then_exit ?_
   refine q_then_exit ?_
   refine q_block_exit ?_
   refine q_then ?_
   refine w_seq ?_
   refine w_seq ?_
   refine w_R ?_
   refine qa hnt rfl rfl ?_
   refine r_end ?_
   refine q_then ?_
   refine w_block ?_
   refine loop1 (fun (m : Nat) => m ≤ 400) (fun (m : Nat) => [(6, pN m)]) 0 (fun (m : Nat) => []) (fun (m : Nat) => 400 - m) (0) ?_ ⟨[], rfl, ⟨⟨_, rfl, rfl, rfl⟩, trivial⟩, trivial, by rw [hk]; decide⟩ ?_
   · omega
   ·
    intro m hM
    refine w_seq ?_
    refine w_seq ?_
    refine w_R ?_
    refine qm hnt rfl rfl ?_
    refine qo hnt rfl (s_lss rfl rfl ?_)
    refine r_end ?_
    refine q_then ?_
    refine w_if rfl (fun c4 => ?_) (fun c4 => ?_)
    ·
     have c4_ := c4
     try simp only [sB] at c4
     refine w_skip ?_
     refine q_then ?_
     refine w_seq ?_
     refine w_block ?_
     refine w_seq ?_
     refine w_R ?_
     refine qm hnt rfl rfl ?_
     refine qo hnt rfl (s_mulN (a := m) (b := 999) rfl rfl (by omega) (by omega) (by omega) ?_)
     refine qm hnt rfl rfl ?_
     refine qm hnt rfl rfl ?_
     refine qo hnt rfl (s_makeM (f := enc8) (bt := 1) tab_one (0 : UInt8) m (fun j hj => by cases hj; rfl) tab_27 rfl tab_5 ⟨rfl, by decide⟩ rfl rfl rfl (by omega) (by refine ⟨?_, ?_, ?_⟩ <;> omega) ?_)
     refine qo hnt rfl (s_build tab_30 rfl rfl (b_cons rfl tab_3 rfl rfl rfl (Nat.le_of_ble_eq_true rfl) (b_cons rfl tab_3 rfl rfl rfl (Nat.le_of_ble_eq_true rfl) (b_cons rfl tab_27 rfl rfl rfl (Nat.le_of_ble_eq_true rfl) (b_nil ?_)))))
     refine qo hnt rfl (s_alloc tab_30 ?_)
     refine qo hnt rfl (s_store_ptr tab_30 rfl rfl rfl rfl rfl (Nat.le_of_ble_eq_true rfl) ?_)
     refine r_set [(6, pN m), (7, PV.ptr 1 0)] [(1, .obj [pN (m * 999), pN m, PV.ref 0 0 none]), (0, oB true 1 enc8 (List.replicate m (0 : UInt8)))] 2 ⟨rfl, rfl, trivial⟩ rfl rfl ?_
     refine r_end ?_
     refine q_then ?_
     refine w_seq ?_
     refine W_drawn tabOk mixed hnt [[], [0], [0, 1], [], [3], [], [5], [], [7], [3, 4, 5, 6, 7, 8], [0, 1, 3, 4, 5, 6, 7, 8, 9], [0, 1, 3, 4, 5, 6, 7, 8, 9, 10], [0, 1, 2, 3, 4, 5, 6, 7, 8, 9, 10, 11], [0, 1, 2, 3, 4, 5, 6, 7, 8, 9, 10, 11, 12], [0, 1, 2, 3, 4, 5, 6, 7, 8, 9, 10, 11, 12, 13], [0, 1, 2, 3, 4, 5, 6, 7, 8, 9, 10, 11, 12, 13, 14], [0, 1, 2, 3, 4, 5, 6, 7, 8, 9, 10, 11, 12, 13, 14, 15], [0, 1, 2, 3, 4, 5, 6, 7, 8, 9, 10, 11, 12, 13], [0, 1, 2, 3, 4, 5, 6, 7, 8, 9, 10, 11, 12, 13, 17], [0, 1, 2, 3, 4, 5, 6, 7, 8, 9, 10, 11, 12, 13, 14, 15, 16, 17, 18], [0, 1, 2, 3, 4, 5, 6, 7, 8, 9, 10, 11, 12, 13], [0, 1, 2, 3, 4, 5, 6, 7, 8, 9, 10, 11, 12, 13, 20], [0, 1, 2, 3, 4, 5, 6, 7, 8, 9, 10, 11, 12, 13, 14, 15, 16, 17, 18, 19, 20, 21], [0, 1, 2, 3, 4, 5, 6, 7, 8, 9, 10, 11, 12, 13, 14, 15, 16, 17, 18, 19, 20, 21, 22], [0, 1, 2, 3, 4, 5, 6, 7, 8, 9, 10, 11, 12, 13, 14, 15, 16, 17, 18, 19, 20, 21, 22, 23], [0, 1, 2, 3, 4, 5, 6, 7, 8, 9, 10, 11, 12, 13, 14, 15, 16, 17, 18, 19, 20, 21, 22, 23, 24]] (by kernel_rfl) ?_
     refine d_op ?_
     refine x_run [(7, PV.ptr 1 0)] [] [(1, .obj [pN (m * 999), pN m, PV.ref 0 0 none])] [] [(1, .obj [pN (m * 999), pN m, PV.ref 0 0 none])] [] [(1, .obj [pN (m * 999), pN m, PV.ref 0 0 none]), (0, oB true 1 enc8 (List.replicate m (0 : UInt8)))] rfl rfl rfl rfl rfl rfl (s_load_ptr tab_30 rfl rfl rfl (Nat.le_of_ble_eq_true rfl) ⟨rfl, rfl, rfl⟩) rfl ⟨rfl, trivial⟩ rfl rfl ?_
     refine d_op ?_
     refine x_run [(70, PV.agg [pN (m * 999), pN m, PV.ref 0 0 none])] [0] [] [(0, oB true 1 enc8 (List.replicate m (0 : UInt8)))] [(0, oB false 1 enc8 (List.replicate m (0 : UInt8)))] [(0, oB false 1 enc8 (List.replicate m (0 : UInt8)))] [(0, oB false 1 enc8 (List.replicate m (0 : UInt8))), (1, .obj [pN (m * 999), pN m, PV.ref 0 0 none])] rfl rfl rfl rfl rfl rfl (s_callX (r2 := pS 1 true enc8 (bytesM (⟨((m * 999 : Nat) : Int), ((m : Nat) : Int), List.replicate m (0 : UInt8)⟩ : TMsg))) (nx1 := 2) (H2 := [(0, oB false 1 enc8 (List.replicate m (0 : UInt8)))]) (H3 := [(0, oB false 1 enc8 (List.replicate m (0 : UInt8)))]) [] [] rfl rfl rfl (handed_of (by decide) trivial) rfl rfl rfl rfl rfl rfl (w_mbap_Bytes (⟨((m * 999 : Nat) : Int), ((m : Nat) : Int), List.replicate m (0 : UInt8)⟩ : TMsg) (by first | omega | assumption | (simp; omega) | decide | (simp; done))) rfl (dist_of rfl) rfl rfl rfl rfl ⟨rfl, rfl, rfl⟩) rfl trivial rfl rfl ?_
     refine d_op ?_
     refine x_run0 [(71, pS 1 true enc8 (bytesM (⟨((m * 999 : Nat) : Int), ((m : Nat) : Int), List.replicate m (0 : UInt8)⟩ : TMsg)))] [0, 1] rfl rfl rfl rfl (s_cvT tab_27 tab_9 rfl tab_5 rfl rfl (hM_sl (f := enc8) rfl) ⟨rfl, rfl, rfl⟩) ?_
     refine d_op ?_
     refine x_run0 [(7, PV.ptr 1 0)] [] rfl rfl rfl rfl (s_fa_ptr tab_30 rfl rfl tab_3 (by decide) rfl ⟨rfl, rfl, rfl⟩) ?_
     refine d_op ?_
     refine x_run [(73, PV.ptr 1 0)] [3] [(1, .obj [pN (m * 999), pN m, PV.ref 0 0 none])] [] [(1, .obj [pN (m * 999), pN m, PV.ref 0 0 none])] [] [(0, oB false 1 enc8 (List.replicate m (0 : UInt8))), (1, .obj [pN (m * 999), pN m, PV.ref 0 0 none])] rfl rfl rfl rfl rfl rfl (s_load_ptr1 tab_3 rfl rfl rfl rfl rfl ⟨rfl, rfl, rfl⟩) rfl ⟨rfl, trivial⟩ rfl rfl ?_
     refine d_op ?_
     refine x_run0 [(7, PV.ptr 1 0)] [] rfl rfl rfl rfl (s_fa_ptr tab_30 rfl rfl tab_3 (by decide) rfl ⟨rfl, rfl, rfl⟩) ?_
     refine d_op ?_
     refine x_run [(75, PV.ptr 1 1)] [5] [(1, .obj [pN (m * 999), pN m, PV.ref 0 0 none])] [] [(1, .obj [pN (m * 999), pN m, PV.ref 0 0 none])] [] [(0, oB false 1 enc8 (List.replicate m (0 : UInt8))), (1, .obj [pN (m * 999), pN m, PV.ref 0 0 none])] rfl rfl rfl rfl rfl rfl (s_load_ptr1 tab_3 rfl rfl rfl rfl rfl ⟨rfl, rfl, rfl⟩) rfl ⟨rfl, trivial⟩ rfl rfl ?_
     refine d_op ?_
     refine x_run0 [(7, PV.ptr 1 0)] [] rfl rfl rfl rfl (s_fa_ptr tab_30 rfl rfl tab_27 (by decide) rfl ⟨rfl, rfl, rfl⟩) ?_
     refine d_op ?_
     refine x_run [(77, PV.ptr 1 2)] [7] [(1, .obj [pN (m * 999), pN m, PV.ref 0 0 none])] [] [(1, .obj [pN (m * 999), pN m, PV.ref 0 0 none])] [] [(0, oB false 1 enc8 (List.replicate m (0 : UInt8))), (1, .obj [pN (m * 999), pN m, PV.ref 0 0 none])] rfl rfl rfl rfl rfl rfl (s_load_ptr1 tab_27 rfl rfl rfl rfl rfl ⟨rfl, rfl, rfl⟩) rfl ⟨rfl, trivial⟩ rfl rfl ?_
     refine d_op ?_
     refine x_run0 [(74, pN (m * 999)), (76, pN m), (78, PV.ref 0 0 none)] [3, 4, 5, 6, 7, 8] rfl rfl rfl rfl (s_build tab_33 rfl rfl (b_cons rfl tab_3 rfl rfl rfl (Nat.le_of_ble_eq_true rfl) (b_cons rfl tab_3 rfl rfl rfl (Nat.le_of_ble_eq_true rfl) (b_cons rfl tab_27 rfl rfl rfl (Nat.le_of_ble_eq_true rfl) (b_nil ⟨rfl, rfl, rfl⟩))))) ?_
     refine d_op ?_
     refine x_run [(79, PV.agg [pN (m * 999), pN m, PV.ref 0 0 none])] [0, 1, 3, 4, 5, 6, 7, 8, 9] [] [(0, oB false 1 enc8 (List.replicate m (0 : UInt8)))] [(0, oB false 1 enc8 (List.replicate m (0 : UInt8)))] [(0, oB false 1 enc8 (List.replicate m (0 : UInt8)))] [(0, oB false 1 enc8 (List.replicate m (0 : UInt8))), (1, .obj [pN (m * 999), pN m, PV.ref 0 0 none])] rfl rfl rfl rfl rfl rfl (s_callX (r2 := pS 1 false enc8 (bytesM (⟨((m * 999 : Nat) : Int), ((m : Nat) : Int), List.replicate m (0 : UInt8)⟩ : TMsg))) (nx1 := 2) (H2 := [(0, oB false 1 enc8 (List.replicate m (0 : UInt8)))]) (H3 := [(0, oB false 1 enc8 (List.replicate m (0 : UInt8)))]) [] [] rfl rfl rfl (handed_of (by decide) trivial) rfl rfl rfl rfl rfl rfl (w_burgageref5_Bytes (⟨((m * 999 : Nat) : Int), ((m : Nat) : Int), List.replicate m (0 : UInt8)⟩ : TMsg) (by first | omega | assumption | (simp; omega) | decide | (simp; done))) rfl (dist_of rfl) rfl rfl rfl rfl ⟨rfl, rfl, rfl⟩) rfl trivial rfl rfl ?_
     refine d_op ?_
     refine x_run0 [(80, pS 1 false enc8 (bytesM (⟨((m * 999 : Nat) : Int), ((m : Nat) : Int), List.replicate m (0 : UInt8)⟩ : TMsg)))] [0, 1, 3, 4, 5, 6, 7, 8, 9, 10] rfl rfl rfl rfl (s_cvT tab_27 tab_9 rfl tab_5 rfl rfl (hM_sl (f := enc8) rfl) ⟨rfl, rfl, rfl⟩) ?_
     refine d_op ?_
     refine x_run0 [(72, pT (bytesM (⟨((m * 999 : Nat) : Int), ((m : Nat) : Int), List.replicate m (0 : UInt8)⟩ : TMsg))), (81, pT (bytesM (⟨((m * 999 : Nat) : Int), ((m : Nat) : Int), List.replicate m (0 : UInt8)⟩ : TMsg)))] [0, 1, 2, 3, 4, 5, 6, 7, 8, 9, 10, 11] rfl rfl rfl rfl (s_netext (l := bytesM (⟨((m * 999 : Nat) : Int), ((m : Nat) : Int), List.replicate m (0 : UInt8)⟩ : TMsg)) (m := bytesM (⟨((m * 999 : Nat) : Int), ((m : Nat) : Int), List.replicate m (0 : UInt8)⟩ : TMsg)) rfl rfl ⟨rfl, rfl, rfl⟩) ?_
     refine d_op ?_
     refine x_run0 [(82, pB (!decide (bytesM (⟨((m * 999 : Nat) : Int), ((m : Nat) : Int), List.replicate m (0 : UInt8)⟩ : TMsg) = bytesM (⟨((m * 999 : Nat) : Int), ((m : Nat) : Int), List.replicate m (0 : UInt8)⟩ : TMsg))))] [0, 1, 2, 3, 4, 5, 6, 7, 8, 9, 10, 11, 12] rfl rfl rfl rfl (s_move rfl ⟨rfl, rfl, rfl⟩) ?_
     refine x_if [(83, pB (!decide (bytesM (⟨((m * 999 : Nat) : Int), ((m : Nat) : Int), List.replicate m (0 : UInt8)⟩ : TMsg) = bytesM (⟨((m * 999 : Nat) : Int), ((m : Nat) : Int), List.replicate m (0 : UInt8)⟩ : TMsg)))), (6, pN m)] [0, 1, 2, 3, 4, 5, 6, 7, 8, 9, 10, 11, 12, 13] rfl rfl rfl rfl (fun g1 => ?_) (fun g1 => ?_)
     ·
      have g1' := g1
      try simp only [sB] at g1'
      refine x_run0 [(83, pB (!decide (bytesM (⟨((m * 999 : Nat) : Int), ((m : Nat) : Int), List.replicate m (0 : UInt8)⟩ : TMsg) = bytesM (⟨((m * 999 : Nat) : Int), ((m : Nat) : Int), List.replicate m (0 : UInt8)⟩ : TMsg)))), (6, pN m)] [0, 1, 2, 3, 4, 5, 6, 7, 8, 9, 10, 11, 12, 13] rfl rfl rfl rfl (s_move rfl ⟨rfl, rfl, rfl⟩) ?_
      refine xy [(83, pB (!decide (bytesM (⟨((m * 999 : Nat) : Int), ((m : Nat) : Int), List.replicate m (0 : UInt8)⟩ : TMsg) = bytesM (⟨((m * 999 : Nat) : Int), ((m : Nat) : Int), List.replicate m (0 : UInt8)⟩ : TMsg)))), (84, pN m)] [0, 1, 2, 3, 4, 5, 6, 7, 8, 9, 10, 11, 12, 13, 14] rfl rfl rfl rfl g1 ?_
      refine x_run0 [(83, pB (!decide (bytesM (⟨((m * 999 : Nat) : Int), ((m : Nat) : Int), List.replicate m (0 : UInt8)⟩ : TMsg) = bytesM (⟨((m * 999 : Nat) : Int), ((m : Nat) : Int), List.replicate m (0 : UInt8)⟩ : TMsg)))), (84, pN m)] [0, 1, 2, 3, 4, 5, 6, 7, 8, 9, 10, 11, 12, 13, 14] rfl rfl rfl rfl (s_shrN (a := m) 8 rfl (by omega) rfl (by decide) ⟨rfl, rfl, rfl⟩) ?_
      refine xy [(83, pB (!decide (bytesM (⟨((m * 999 : Nat) : Int), ((m : Nat) : Int), List.replicate m (0 : UInt8)⟩ : TMsg) = bytesM (⟨((m * 999 : Nat) : Int), ((m : Nat) : Int), List.replicate m (0 : UInt8)⟩ : TMsg)))), (85, pN (m / 2 ^ 8))] [0, 1, 2, 3, 4, 5, 6, 7, 8, 9, 10, 11, 12, 13, 14, 15] rfl rfl rfl rfl g1 ?_
      refine x_run0 [(83, pB (!decide (bytesM (⟨((m * 999 : Nat) : Int), ((m : Nat) : Int), List.replicate m (0 : UInt8)⟩ : TMsg) = bytesM (⟨((m * 999 : Nat) : Int), ((m : Nat) : Int), List.replicate m (0 : UInt8)⟩ : TMsg)))), (85, pN (m / 2 ^ 8))] [0, 1, 2, 3, 4, 5, 6, 7, 8, 9, 10, 11, 12, 13, 14, 15] rfl rfl rfl rfl (s_cv8N (a := m / 2 ^ 8) tab_3 tab_5 rfl rfl rfl (by omega) ⟨rfl, rfl, rfl⟩) ?_
      refine xy [(83, pB (!decide (bytesM (⟨((m * 999 : Nat) : Int), ((m : Nat) : Int), List.replicate m (0 : UInt8)⟩ : TMsg) = bytesM (⟨((m * 999 : Nat) : Int), ((m : Nat) : Int), List.replicate m (0 : UInt8)⟩ : TMsg)))), (6, pN m)] [0, 1, 2, 3, 4, 5, 6, 7, 8, 9, 10, 11, 12, 13] rfl rfl rfl rfl g1 ?_
      refine x_run0 [(83, pB (!decide (bytesM (⟨((m * 999 : Nat) : Int), ((m : Nat) : Int), List.replicate m (0 : UInt8)⟩ : TMsg) = bytesM (⟨((m * 999 : Nat) : Int), ((m : Nat) : Int), List.replicate m (0 : UInt8)⟩ : TMsg)))), (6, pN m)] [0, 1, 2, 3, 4, 5, 6, 7, 8, 9, 10, 11, 12, 13] rfl rfl rfl rfl (s_move rfl ⟨rfl, rfl, rfl⟩) ?_
      refine xy [(83, pB (!decide (bytesM (⟨((m * 999 : Nat) : Int), ((m : Nat) : Int), List.replicate m (0 : UInt8)⟩ : TMsg) = bytesM (⟨((m * 999 : Nat) : Int), ((m : Nat) : Int), List.replicate m (0 : UInt8)⟩ : TMsg)))), (87, pN m)] [0, 1, 2, 3, 4, 5, 6, 7, 8, 9, 10, 11, 12, 13, 17] rfl rfl rfl rfl g1 ?_
      refine x_run0 [(83, pB (!decide (bytesM (⟨((m * 999 : Nat) : Int), ((m : Nat) : Int), List.replicate m (0 : UInt8)⟩ : TMsg) = bytesM (⟨((m * 999 : Nat) : Int), ((m : Nat) : Int), List.replicate m (0 : UInt8)⟩ : TMsg)))), (87, pN m)] [0, 1, 2, 3, 4, 5, 6, 7, 8, 9, 10, 11, 12, 13, 17] rfl rfl rfl rfl (s_cv8N (a := m) tab_3 tab_5 rfl rfl rfl (by omega) ⟨rfl, rfl, rfl⟩) ?_
      refine xy [(83, pB (!decide (bytesM (⟨((m * 999 : Nat) : Int), ((m : Nat) : Int), List.replicate m (0 : UInt8)⟩ : TMsg) = bytesM (⟨((m * 999 : Nat) : Int), ((m : Nat) : Int), List.replicate m (0 : UInt8)⟩ : TMsg)))), (86, p8 (UInt8.ofNat (m / 2 ^ 8))), (88, p8 (UInt8.ofNat m))] [0, 1, 2, 3, 4, 5, 6, 7, 8, 9, 10, 11, 12, 13, 14, 15, 16, 17, 18] rfl rfl rfl rfl g1 ?_
      refine x_run [(83, pB (!decide (bytesM (⟨((m * 999 : Nat) : Int), ((m : Nat) : Int), List.replicate m (0 : UInt8)⟩ : TMsg) = bytesM (⟨((m * 999 : Nat) : Int), ((m : Nat) : Int), List.replicate m (0 : UInt8)⟩ : TMsg)))), (86, p8 (UInt8.ofNat (m / 2 ^ 8))), (88, p8 (UInt8.ofNat m))] [0, 1, 2, 3, 4, 5, 6, 7, 8, 9, 10, 11, 12, 13, 14, 15, 16, 17, 18] [] [] [(2, oB true 1 enc8 [0, 1, 0, 0, UInt8.ofNat (m / 2 ^ 8), UInt8.ofNat m])] [(2, oB true 1 enc8 [0, 1, 0, 0, UInt8.ofNat (m / 2 ^ 8), UInt8.ofNat m])] [(2, oB true 1 enc8 [0, 1, 0, 0, UInt8.ofNat (m / 2 ^ 8), UInt8.ofNat m]), (0, oB false 1 enc8 (List.replicate m (0 : UInt8))), (1, .obj [pN (m * 999), pN m, PV.ref 0 0 none])] rfl rfl rfl rfl rfl rfl (s_mkM (f := enc8) [0, 1, 0, 0, UInt8.ofNat (m / 2 ^ 8), UInt8.ofNat m] tab_27 rfl tab_5 ⟨rfl, by decide⟩ (by decide) rfl rfl rfl rfl ⟨rfl, rfl, rfl⟩) rfl trivial rfl rfl ?_
      refine xy [(83, pB (!decide (bytesM (⟨((m * 999 : Nat) : Int), ((m : Nat) : Int), List.replicate m (0 : UInt8)⟩ : TMsg) = bytesM (⟨((m * 999 : Nat) : Int), ((m : Nat) : Int), List.replicate m (0 : UInt8)⟩ : TMsg)))), (7, PV.ptr 1 0)] [0, 1, 2, 3, 4, 5, 6, 7, 8, 9, 10, 11, 12, 13] rfl rfl rfl rfl g1 ?_
      refine x_run [(83, pB (!decide (bytesM (⟨((m * 999 : Nat) : Int), ((m : Nat) : Int), List.replicate m (0 : UInt8)⟩ : TMsg) = bytesM (⟨((m * 999 : Nat) : Int), ((m : Nat) : Int), List.replicate m (0 : UInt8)⟩ : TMsg)))), (7, PV.ptr 1 0)] [0, 1, 2, 3, 4, 5, 6, 7, 8, 9, 10, 11, 12, 13] [(1, .obj [pN (m * 999), pN m, PV.ref 0 0 none])] [] [(1, .obj [pN (m * 999), pN m, PV.ref 0 0 none])] [] [(2, oB true 1 enc8 [0, 1, 0, 0, UInt8.ofNat (m / 2 ^ 8), UInt8.ofNat m]), (0, oB false 1 enc8 (List.replicate m (0 : UInt8))), (1, .obj [pN (m * 999), pN m, PV.ref 0 0 none])] rfl rfl rfl rfl rfl rfl (s_load_ptr tab_30 rfl rfl rfl (Nat.le_of_ble_eq_true rfl) ⟨rfl, rfl, rfl⟩) rfl ⟨rfl, trivial⟩ rfl rfl ?_
      refine xy [(83, pB (!decide (bytesM (⟨((m * 999 : Nat) : Int), ((m : Nat) : Int), List.replicate m (0 : UInt8)⟩ : TMsg) = bytesM (⟨((m * 999 : Nat) : Int), ((m : Nat) : Int), List.replicate m (0 : UInt8)⟩ : TMsg)))), (90, PV.agg [pN (m * 999), pN m, PV.ref 0 0 none])] [0, 1, 2, 3, 4, 5, 6, 7, 8, 9, 10, 11, 12, 13, 20] rfl rfl rfl rfl g1 ?_
      refine x_run [(83, pB (!decide (bytesM (⟨((m * 999 : Nat) : Int), ((m : Nat) : Int), List.replicate m (0 : UInt8)⟩ : TMsg) = bytesM (⟨((m * 999 : Nat) : Int), ((m : Nat) : Int), List.replicate m (0 : UInt8)⟩ : TMsg)))), (90, PV.agg [pN (m * 999), pN m, PV.ref 0 0 none])] [0, 1, 2, 3, 4, 5, 6, 7, 8, 9, 10, 11, 12, 13, 20] [] [(0, oB false 1 enc8 (List.replicate m (0 : UInt8)))] [(0, oB false 1 enc8 (List.replicate m (0 : UInt8)))] [(0, oB false 1 enc8 (List.replicate m (0 : UInt8)))] [(0, oB false 1 enc8 (List.replicate m (0 : UInt8))), (2, oB true 1 enc8 [0, 1, 0, 0, UInt8.ofNat (m / 2 ^ 8), UInt8.ofNat m]), (1, .obj [pN (m * 999), pN m, PV.ref 0 0 none])] rfl rfl rfl rfl rfl rfl (s_callX (r2 := pS 1 false enc8 (bytesM (⟨((m * 999 : Nat) : Int), ((m : Nat) : Int), List.replicate m (0 : UInt8)⟩ : TMsg))) (nx1 := 3) (H2 := [(0, oB false 1 enc8 (List.replicate m (0 : UInt8)))]) (H3 := [(0, oB false 1 enc8 (List.replicate m (0 : UInt8)))]) [] [] rfl rfl rfl (handed_of (by decide) trivial) rfl rfl rfl rfl rfl rfl (w_mbap_Bytes_l (⟨((m * 999 : Nat) : Int), ((m : Nat) : Int), List.replicate m (0 : UInt8)⟩ : TMsg) (by first | omega | assumption | (simp; omega) | decide | (simp; done))) rfl (dist_of rfl) rfl rfl rfl rfl ⟨rfl, rfl, rfl⟩) rfl trivial rfl rfl ?_
      refine xy [(83, pB (!decide (bytesM (⟨((m * 999 : Nat) : Int), ((m : Nat) : Int), List.replicate m (0 : UInt8)⟩ : TMsg) = bytesM (⟨((m * 999 : Nat) : Int), ((m : Nat) : Int), List.replicate m (0 : UInt8)⟩ : TMsg)))), (89, PV.ref 2 0 none), (91, pS 1 false enc8 (bytesM (⟨((m * 999 : Nat) : Int), ((m : Nat) : Int), List.replicate m (0 : UInt8)⟩ : TMsg)))] [0, 1, 2, 3, 4, 5, 6, 7, 8, 9, 10, 11, 12, 13, 14, 15, 16, 17, 18, 19, 20, 21] rfl rfl rfl rfl g1 ?_
      refine x_run [(83, pB (!decide (bytesM (⟨((m * 999 : Nat) : Int), ((m : Nat) : Int), List.replicate m (0 : UInt8)⟩ : TMsg) = bytesM (⟨((m * 999 : Nat) : Int), ((m : Nat) : Int), List.replicate m (0 : UInt8)⟩ : TMsg)))), (89, PV.ref 2 0 none), (91, pS 1 false enc8 (bytesM (⟨((m * 999 : Nat) : Int), ((m : Nat) : Int), List.replicate m (0 : UInt8)⟩ : TMsg)))] [0, 1, 2, 3, 4, 5, 6, 7, 8, 9, 10, 11, 12, 13, 14, 15, 16, 17, 18, 19, 20, 21] [] [(2, oB true 1 enc8 [0, 1, 0, 0, UInt8.ofNat (m / 2 ^ 8), UInt8.ofNat m])] [(3, oB true 1 (encS 1 enc8) ([[0, 1, 0, 0, UInt8.ofNat (m / 2 ^ 8), UInt8.ofNat m], bytesM (⟨((m * 999 : Nat) : Int), ((m : Nat) : Int), List.replicate m (0 : UInt8)⟩ : TMsg)])), (2, oB false 1 enc8 [0, 1, 0, 0, UInt8.ofNat (m / 2 ^ 8), UInt8.ofNat m])] [(3, oB true 1 (encS 1 enc8) ([[0, 1, 0, 0, UInt8.ofNat (m / 2 ^ 8), UInt8.ofNat m], bytesM (⟨((m * 999 : Nat) : Int), ((m : Nat) : Int), List.replicate m (0 : UInt8)⟩ : TMsg)])), (2, oB false 1 enc8 [0, 1, 0, 0, UInt8.ofNat (m / 2 ^ 8), UInt8.ofNat m])] [(3, oB true 1 (encS 1 enc8) ([[0, 1, 0, 0, UInt8.ofNat (m / 2 ^ 8), UInt8.ofNat m], bytesM (⟨((m * 999 : Nat) : Int), ((m : Nat) : Int), List.replicate m (0 : UInt8)⟩ : TMsg)])), (2, oB false 1 enc8 [0, 1, 0, 0, UInt8.ofNat (m / 2 ^ 8), UInt8.ofNat m]), (0, oB false 1 enc8 (List.replicate m (0 : UInt8))), (1, .obj [pN (m * 999), pN m, PV.ref 0 0 none])] rfl rfl rfl rfl rfl rfl (s_mkM (f := (encS 1 enc8)) [[0, 1, 0, 0, UInt8.ofNat (m / 2 ^ 8), UInt8.ofNat m], bytesM (⟨((m * 999 : Nat) : Int), ((m : Nat) : Int), List.replicate m (0 : UInt8)⟩ : TMsg)] tab_23 rfl tab_27 ⟨rfl, by decide⟩ (by decide) rfl rfl rfl rfl ⟨rfl, rfl, rfl⟩) rfl trivial rfl rfl ?_
      refine xy [(83, pB (!decide (bytesM (⟨((m * 999 : Nat) : Int), ((m : Nat) : Int), List.replicate m (0 : UInt8)⟩ : TMsg) = bytesM (⟨((m * 999 : Nat) : Int), ((m : Nat) : Int), List.replicate m (0 : UInt8)⟩ : TMsg)))), (92, PV.ref 3 0 none)] [0, 1, 2, 3, 4, 5, 6, 7, 8, 9, 10, 11, 12, 13, 14, 15, 16, 17, 18, 19, 20, 21, 22] rfl rfl rfl rfl g1 ?_
      refine x_run [(83, pB (!decide (bytesM (⟨((m * 999 : Nat) : Int), ((m : Nat) : Int), List.replicate m (0 : UInt8)⟩ : TMsg) = bytesM (⟨((m * 999 : Nat) : Int), ((m : Nat) : Int), List.replicate m (0 : UInt8)⟩ : TMsg)))), (92, PV.ref 3 0 none)] [0, 1, 2, 3, 4, 5, 6, 7, 8, 9, 10, 11, 12, 13, 14, 15, 16, 17, 18, 19, 20, 21, 22] [] [(3, oB true 1 (encS 1 enc8) ([[0, 1, 0, 0, UInt8.ofNat (m / 2 ^ 8), UInt8.ofNat m], bytesM (⟨((m * 999 : Nat) : Int), ((m : Nat) : Int), List.replicate m (0 : UInt8)⟩ : TMsg)]))] [(3, oB false 1 (encS 1 enc8) ([[0, 1, 0, 0, UInt8.ofNat (m / 2 ^ 8), UInt8.ofNat m], bytesM (⟨((m * 999 : Nat) : Int), ((m : Nat) : Int), List.replicate m (0 : UInt8)⟩ : TMsg)]))] [(3, oB false 1 (encS 1 enc8) ([[0, 1, 0, 0, UInt8.ofNat (m / 2 ^ 8), UInt8.ofNat m], bytesM (⟨((m * 999 : Nat) : Int), ((m : Nat) : Int), List.replicate m (0 : UInt8)⟩ : TMsg)]))] [(3, oB false 1 (encS 1 enc8) ([[0, 1, 0, 0, UInt8.ofNat (m / 2 ^ 8), UInt8.ofNat m], bytesM (⟨((m * 999 : Nat) : Int), ((m : Nat) : Int), List.replicate m (0 : UInt8)⟩ : TMsg)])), (2, oB false 1 enc8 [0, 1, 0, 0, UInt8.ofNat (m / 2 ^ 8), UInt8.ofNat m]), (0, oB false 1 enc8 (List.replicate m (0 : UInt8))), (1, .obj [pN (m * 999), pN m, PV.ref 0 0 none])] rfl rfl rfl rfl rfl rfl (s_callX (r2 := pB true) (nx1 := 4) (H2 := [(3, oB false 1 (encS 1 enc8) ([[0, 1, 0, 0, UInt8.ofNat (m / 2 ^ 8), UInt8.ofNat m], bytesM (⟨((m * 999 : Nat) : Int), ((m : Nat) : Int), List.replicate m (0 : UInt8)⟩ : TMsg)]))]) (H3 := [(3, oB false 1 (encS 1 enc8) ([[0, 1, 0, 0, UInt8.ofNat (m / 2 ^ 8), UInt8.ofNat m], bytesM (⟨((m * 999 : Nat) : Int), ((m : Nat) : Int), List.replicate m (0 : UInt8)⟩ : TMsg)]))]) [] [] rfl rfl rfl (handed_of (by decide) trivial) rfl rfl rfl rfl rfl rfl (w_burgagelaw6_play ([[0, 1, 0, 0, UInt8.ofNat (m / 2 ^ 8), UInt8.ofNat m], bytesM (⟨((m * 999 : Nat) : Int), ((m : Nat) : Int), List.replicate m (0 : UInt8)⟩ : TMsg)]) false (by simp) (by intro y hy; simp only [List.mem_cons, List.not_mem_nil, or_false] at hy; rcases hy with h | h; (subst h; simp); (subst h; exact Nat.le_trans (bytesM_le _) (by omega)))) rfl (dist_of rfl) rfl rfl rfl rfl ⟨rfl, rfl, rfl⟩) rfl trivial rfl rfl ?_
      refine xy [(83, pB (!decide (bytesM (⟨((m * 999 : Nat) : Int), ((m : Nat) : Int), List.replicate m (0 : UInt8)⟩ : TMsg) = bytesM (⟨((m * 999 : Nat) : Int), ((m : Nat) : Int), List.replicate m (0 : UInt8)⟩ : TMsg)))), (93, pB true)] [0, 1, 2, 3, 4, 5, 6, 7, 8, 9, 10, 11, 12, 13, 14, 15, 16, 17, 18, 19, 20, 21, 22, 23] rfl rfl rfl rfl g1 ?_
      refine x_run0 [(83, pB (!decide (bytesM (⟨((m * 999 : Nat) : Int), ((m : Nat) : Int), List.replicate m (0 : UInt8)⟩ : TMsg) = bytesM (⟨((m * 999 : Nat) : Int), ((m : Nat) : Int), List.replicate m (0 : UInt8)⟩ : TMsg)))), (93, pB true)] [0, 1, 2, 3, 4, 5, 6, 7, 8, 9, 10, 11, 12, 13, 14, 15, 16, 17, 18, 19, 20, 21, 22, 23] rfl rfl rfl rfl (s_not rfl ⟨rfl, rfl, rfl⟩) ?_
      refine d_op ?_
      refine x_run0 [(83, pB (!decide (bytesM (⟨((m * 999 : Nat) : Int), ((m : Nat) : Int), List.replicate m (0 : UInt8)⟩ : TMsg) = bytesM (⟨((m * 999 : Nat) : Int), ((m : Nat) : Int), List.replicate m (0 : UInt8)⟩ : TMsg)))), (94, pB (!true))] [0, 1, 2, 3, 4, 5, 6, 7, 8, 9, 10, 11, 12, 13, 14, 15, 16, 17, 18, 19, 20, 21, 22, 23, 24] rfl rfl rfl rfl (s_pick_f rfl g1 rfl ⟨rfl, rfl, rfl⟩) ?_
      refine d_end ⟨by kernel_rfl, ?_⟩
      refine q_then ?_
      refine w_if rfl (fun e => absurd e (by decide)) (fun _ => ?_)
      refine w_skip ?_
      refine q_block ?_
      refine q_then ?_
      refine w_R ?_
      refine qm hnt rfl rfl ?_
      refine qo hnt rfl (s_addN (a := m) (b := 7) rfl rfl (by omega) (by omega) (by omega) ?_)
      refine qa hnt rfl rfl ?_
      refine r_end ?_
      refine q_then ?_
      refine ⟨(m + 7), ?_, ?_, ⟨[], rfl, ⟨⟨_, rfl, rfl, rfl⟩, trivial⟩, trivial, by rw [hk]; decide⟩⟩
      ·
       omega
      · omega
     ·
      exact absurd g1 (by simp)
    ·
     have c4_ := c4
     try simp only [sB] at c4
     refine w_exit ?_
     refine q_then_exit ?_
     refine q_then_exit ?_
     refine q_block_exit ?_
     refine q_then ?_
     refine w_seq ?_
     refine w_R ?_
     refine qo hnt rfl (s_callF rfl rfl rfl (w_burgagelaw6_known) rfl ?_)
     refine qa hnt rfl rfl ?_
     refine r_end ?_
     refine q_then ?_
     refine w_ret ?_
     exact fin_plain (ret_tmp rfl ret_nil) rfl rfl ⟨rfl, rfl, rfl⟩
end Go.Proofs.Ytfbmlnajnlekbaa
