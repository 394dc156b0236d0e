/- Walks: printed by a program of this session (wip/tools/walk2.py) out of its notes. -/
import Derived.Test.YtfbmlnajnlekbaaWMbapPut
set_option linter.unusedVariables false
set_option linter.unusedSimpArgs false
set_option maxRecDepth 10000
set_option maxHeartbeats 1000000
namespace Go.Proofs.Ytfbmlnajnlekbaa
open Go Go.Proofs.Ytfbmlnajnlekbaa.Pv

theorem w_mbap_Stream_Put_c (b : List UInt8) (cl_b : Bool) (x : List UInt8) (cl_x : Bool)  :
    T Try.prog 23 [PV.ptr 0 0, pS 1 cl_x enc8 x] 1 [(0, .obj [pS 1 cl_b enc8 b, pB true])] (Ret (pS 3 true eMsg ([] : List TMsg)) 1 [(0, .obj [pS 1 false enc8 b, pB true])]) := by
  refine t_fun tabOk (n := 113) (rs := [.tmp 4]) Try.func23 rfl rfl rfl rfl (Nat.le_of_ble_eq_true rfl) ?_
  intro c hnt hk
  refine w_seq ?_
  refine w_R ?_
  refine r_op tabOk hnt rfl (s_assign rfl ?_) 
  refine r_end ?_
  refine q_then ?_
  refine w_seq ?_
  refine w_seq ?_
  refine w_R ?_
  refine r_op tabOk hnt rfl (s_move rfl ?_) 
  refine r_op tabOk hnt rfl (s_nilCheck rfl trivial ?_) 
  refine r_op tabOk hnt rfl (s_fa_ptr tab_87 rfl rfl tab_4 (by decide) rfl ?_) 
  refine r_op tabOk hnt rfl (s_load_ptr1 tab_4 rfl rfl rfl rfl rfl ?_) 
  refine r_end ?_
  refine q_then ?_
  refine w_if rfl (fun _ => ?_) (fun e => absurd e (by decide))
  refine w_seq ?_
  refine w_R ?_
  refine r_op tabOk hnt rfl (s_assign rfl ?_) 
  refine r_end ?_
  refine q_then ?_
  refine w_le (s := 4) (y := pS 3 true eMsg []) rfl (le_nilS 3 true) ?_
  refine w_le (s := 4) (y := pS 3 true eMsg ([] : List TMsg)) rfl (le_of_eq (congrArg (fun z => pS 3 true eMsg z) (show [] = ([] : List TMsg) by simp [*]))) ?_
  refine w_leC (n := 0) (j := 0) (y := pS 1 false enc8 b) rfl rfl (le_loose) ?_
  refine w_ret ?_
  refine q_then_ret ?_
  exact fin_names (nx1 := 1) (H1 := [(0, .obj [pS 1 false enc8 b, pB true])]) [(0, 0)] (ret_tmp rfl ret_nil) rfl (by decide) ⟨⟨_, _, rfl, rfl, rfl, rfl⟩, trivial⟩ (by decide) rfl ⟨rfl, rfl, rfl⟩

theorem w_burgagelaw6_known   :
    T Try.prog 20 [] 0 [] (Ret (pB true) 0 []) := by
  refine t_fun tabOk (n := 118) (rs := [.tmp 0]) Try.func20 rfl rfl rfl rfl (Nat.le_of_ble_eq_true rfl) ?_
  intro c hnt hk
  refine w_seq ?_
  refine w_R ?_
  refine r_op tabOk hnt rfl (s_assign rfl ?_) 
  refine r_end ?_
  refine q_then ?_
  refine w_seq ?_
  refine w_R ?_
  refine r_op tabOk hnt rfl (s_callX (r2 := PV.ptr 0 0) (nx1 := 1) (H2 := []) (H3 := [(0, .obj [pS 1 false enc8 ([] : List UInt8), pB false])]) [] [] rfl rfl rfl (handed_of (by decide) trivial) rfl rfl rfl rfl rfl rfl (w_mbap_New) rfl (dist_of rfl) rfl rfl rfl rfl ?_) 
  refine r_op tabOk hnt rfl (s_assign rfl ?_) 
  refine r_set [(1, PV.ptr 0 0)] [(0, .obj [pS 1 false enc8 ([] : List UInt8), pB false])] 1 ⟨rfl, trivial⟩ rfl rfl ?_
  refine r_end ?_
  refine q_then ?_
  refine w_seq ?_
  refine w_seq ?_
  refine w_R ?_
  refine r_op tabOk hnt rfl (s_move rfl ?_) 
  refine r_op tabOk hnt rfl (s_ptrnil tab_37 rfl rfl trivial ?_) 
  refine r_end ?_
  refine q_then ?_
  refine w_if rfl (fun e => absurd e (by decide)) (fun _ => ?_)
  refine w_skip ?_
  refine q_then ?_
  refine w_seq ?_
  refine w_R ?_
  refine r_op tabOk hnt rfl (s_mkM (f := enc8) ([3, 0] : List UInt8) tab_27 rfl tab_5 ⟨rfl, by decide⟩ (by decide) rfl rfl rfl rfl ?_) 
  refine r_op tabOk hnt rfl (s_build tab_30 rfl rfl (b_cons rfl tab_3 rfl rfl rfl (Nat.le_of_ble_eq_true rfl) (b_cons rfl tab_3 rfl rfl rfl (Nat.le_of_ble_eq_true rfl) (b_cons rfl tab_27 rfl rfl rfl (Nat.le_of_ble_eq_true rfl) (b_nil ?_))))) 
  refine r_op tabOk hnt rfl (s_callX (r2 := pS 1 true enc8 (bytesM (⟨65538, 17, ([3, 0] : List UInt8)⟩ : TMsg))) (nx1 := 2) (H2 := [(1, oB false 1 enc8 ([3, 0] : List UInt8)), (0, .obj [pS 1 false enc8 ([] : List UInt8), pB false])]) (H3 := [(1, oB false 1 enc8 ([3, 0] : List UInt8)), (0, .obj [pS 1 false enc8 ([] : List UInt8), pB false])]) [] [] rfl rfl rfl (handed_of (by decide) trivial) rfl rfl rfl rfl rfl rfl (w_mbap_Bytes (⟨65538, 17, ([3, 0] : List UInt8)⟩ : TMsg) (by first | omega | assumption | (simp; omega) | decide | (simp; done))) rfl (dist_of rfl) rfl rfl rfl rfl ?_) 
  refine r_op tabOk hnt rfl (s_assign rfl ?_) 
  refine r_set [(1, PV.ptr 0 0), (2, pS 1 true enc8 (bytesM (⟨65538, 17, ([3, 0] : List UInt8)⟩ : TMsg)))] [(1, oB false 1 enc8 ([3, 0] : List UInt8)), (0, .obj [pS 1 false enc8 ([] : List UInt8), pB false])] 2 ⟨rfl, rfl, trivial⟩ rfl rfl ?_
  refine r_end ?_
  refine q_then ?_
  refine w_seq ?_
  refine w_eq (s := 2) (y := pS 1 true enc8 kB) rfl (congrArg (fun z => pS 1 true enc8 z) (show (bytesM (⟨65538, 17, ([3, 0] : List UInt8)⟩ : TMsg)) = kB by exact kb)) ?_
  refine w_R ?_
  refine r_op tabOk hnt rfl (s_move rfl ?_) 
  refine r_op tabOk hnt rfl (s_move rfl ?_) 
  refine r_op tabOk hnt rfl (s_move rfl ?_) 
  refine r_op tabOk hnt rfl (s_lenM (l := kB) tab_27 rfl (hM_sl (f := enc8) rfl) ?_) 
  refine r_op tabOk hnt rfl (s_minN (a := kB.length) (b := 5) rfl (by omega) (by omega) ?_) 
  refine r_op tabOk hnt rfl (s_cutM_hi (b := min kB.length 5) (f := enc8) (l := kB) tab_27 rfl tab_5 ⟨rfl, by decide⟩ rfl (bound_some rfl (by omega)) (by omega) ?_) 
  refine r_op tabOk hnt rfl (s_callX (r2 := pS 3 true eMsg ((putV ([] : List UInt8) false (kB.take (min kB.length 5))).1)) (nx1 := 2) (H2 := [(1, oB false 1 enc8 ([3, 0] : List UInt8)), (0, .obj [pS 1 false enc8 ([] : List UInt8), pB false])]) (H3 := [(0, .obj [pS 1 false enc8 ((putV ([] : List UInt8) false (kB.take (min kB.length 5))).2.1), pB ((putV ([] : List UInt8) false (kB.take (min kB.length 5))).2.2)]), (1, oB false 1 enc8 ([3, 0] : List UInt8))]) [0] [.obj [pS 1 false enc8 ([] : List UInt8), pB false]] rfl rfl rfl (handed_of (by decide) ⟨rfl, trivial⟩) rfl rfl rfl rfl rfl rfl (w_mbap_Stream_Put ([] : List UInt8) false false (kB.take (min kB.length 5)) false (by first | omega | assumption | (simp; omega) | decide | (simp; done))) rfl (dist_of rfl) rfl rfl rfl rfl ?_) 
  refine r_op tabOk hnt rfl (s_assign rfl ?_) 
  refine r_set [(1, PV.ptr 0 0), (2, pS 1 true enc8 kB), (3, pS 3 true eMsg ((putV ([] : List UInt8) false (kB.take (min kB.length 5))).1))] [(0, .obj [pS 1 false enc8 ((putV ([] : List UInt8) false (kB.take (min kB.length 5))).2.1), pB ((putV ([] : List UInt8) false (kB.take (min kB.length 5))).2.2)]), (1, oB false 1 enc8 ([3, 0] : List UInt8))] 2 ⟨rfl, rfl, rfl, trivial⟩ rfl rfl ?_
  refine r_end ?_
  refine q_then ?_
  refine w_seq ?_
  refine w_eq (s := 3) (y := pS 3 true eMsg ([] : List TMsg)) rfl (congrArg (fun z => pS 3 true eMsg z) (show ((putV ([] : List UInt8) false (kB.take (min kB.length 5))).1) = ([] : List TMsg) by rw [kp1])) ?_
  refine w_leC (n := 0) (j := 0) (y := pS 1 false enc8 ([0, 2, 0, 0, 0] : List UInt8)) rfl rfl (le_of_eq (congrArg (fun z => pS 1 false enc8 z) (show ((putV ([] : List UInt8) false (kB.take (min kB.length 5))).2.1) = ([0, 2, 0, 0, 0] : List UInt8) by rw [kp1]))) ?_
  refine w_leC (n := 0) (j := 1) (y := pB false) rfl rfl (le_of_eq (congrArg (fun z : Bool => pB z) (show ((putV ([] : List UInt8) false (kB.take (min kB.length 5))).2.2) = false by rw [kp1]))) ?_
  refine w_R ?_
  refine r_op tabOk hnt rfl (s_move rfl ?_) 
  refine r_op tabOk hnt rfl (s_move rfl ?_) 
  refine r_op tabOk hnt rfl (s_move rfl ?_) 
  refine r_op tabOk hnt rfl (s_lenM (l := kB) tab_27 rfl (hM_sl (f := enc8) rfl) ?_) 
  refine r_op tabOk hnt rfl (s_minN (a := kB.length) (b := 5) rfl (by omega) (by omega) ?_) 
  refine r_op tabOk hnt rfl (s_cutM_lo (a := min kB.length 5) (f := enc8) (l := kB) tab_27 rfl tab_5 ⟨rfl, by decide⟩ rfl (bound_some rfl (by omega)) (by omega) ?_) 
  refine r_op tabOk hnt rfl (s_callX (r2 := pS 3 true eMsg ((putV ([0, 2, 0, 0, 0] : List UInt8) false (kB.drop (min kB.length 5))).1)) (nx1 := 2) (H2 := [(0, .obj [pS 1 false enc8 ([0, 2, 0, 0, 0] : List UInt8), pB false]), (1, oB false 1 enc8 ([3, 0] : List UInt8))]) (H3 := [(0, .obj [pS 1 false enc8 ((putV ([0, 2, 0, 0, 0] : List UInt8) false (kB.drop (min kB.length 5))).2.1), pB ((putV ([0, 2, 0, 0, 0] : List UInt8) false (kB.drop (min kB.length 5))).2.2)]), (1, oB false 1 enc8 ([3, 0] : List UInt8))]) [0] [.obj [pS 1 false enc8 ([0, 2, 0, 0, 0] : List UInt8), pB false]] rfl rfl rfl (handed_of (by decide) ⟨rfl, trivial⟩) rfl rfl rfl rfl rfl rfl (w_mbap_Stream_Put ([0, 2, 0, 0, 0] : List UInt8) false false (kB.drop (min kB.length 5)) true (by first | omega | assumption | (simp; omega) | decide | (simp; done))) rfl (dist_of rfl) rfl rfl rfl rfl ?_) 
  refine r_op tabOk hnt rfl (s_assign rfl ?_) 
  refine r_set [(1, PV.ptr 0 0), (2, pS 1 true enc8 kB), (3, pS 3 true eMsg ([] : List TMsg)), (4, pS 3 true eMsg ((putV ([0, 2, 0, 0, 0] : List UInt8) false (kB.drop (min kB.length 5))).1))] [(0, .obj [pS 1 false enc8 ((putV ([0, 2, 0, 0, 0] : List UInt8) false (kB.drop (min kB.length 5))).2.1), pB ((putV ([0, 2, 0, 0, 0] : List UInt8) false (kB.drop (min kB.length 5))).2.2)]), (1, oB false 1 enc8 ([3, 0] : List UInt8))] 2 ⟨rfl, rfl, rfl, rfl, trivial⟩ rfl rfl ?_
  refine r_end ?_
  refine q_then ?_
  refine w_seq ?_
  refine w_eq (s := 4) (y := pS 3 true eMsg kY) rfl (congrArg (fun z => pS 3 true eMsg z) (show ((putV ([0, 2, 0, 0, 0] : List UInt8) false (kB.drop (min kB.length 5))).1) = kY by rw [kp2])) ?_
  refine w_leC (n := 0) (j := 0) (y := pS 1 false enc8 ([] : List UInt8)) rfl rfl (le_of_eq (congrArg (fun z => pS 1 false enc8 z) (show ((putV ([0, 2, 0, 0, 0] : List UInt8) false (kB.drop (min kB.length 5))).2.1) = ([] : List UInt8) by rw [kp2]))) ?_
  refine w_leC (n := 0) (j := 1) (y := pB false) rfl rfl (le_of_eq (congrArg (fun z : Bool => pB z) (show ((putV ([0, 2, 0, 0, 0] : List UInt8) false (kB.drop (min kB.length 5))).2.2) = false by rw [kp2]))) ?_
  refine w_R ?_
  refine r_op tabOk hnt rfl (s_move rfl ?_) 
  refine r_op tabOk hnt rfl (s_mkM (f := enc8) ([0, 0, 0, 1, 0, 2] : List UInt8) tab_27 rfl tab_5 ⟨rfl, by decide⟩ (by decide) rfl rfl rfl rfl ?_) 
  refine r_op tabOk hnt rfl (s_callX (r2 := pS 3 true eMsg ((putV ([] : List UInt8) false ([0, 0, 0, 1, 0, 2] : List UInt8)).1)) (nx1 := 3) (H2 := [(2, oB false 1 enc8 ([0, 0, 0, 1, 0, 2] : List UInt8)), (0, .obj [pS 1 false enc8 ([] : List UInt8), pB false]), (1, oB false 1 enc8 ([3, 0] : List UInt8))]) (H3 := [(0, .obj [pS 1 false enc8 ((putV ([] : List UInt8) false ([0, 0, 0, 1, 0, 2] : List UInt8)).2.1), pB ((putV ([] : List UInt8) false ([0, 0, 0, 1, 0, 2] : List UInt8)).2.2)]), (2, oB false 1 enc8 ([0, 0, 0, 1, 0, 2] : List UInt8)), (1, oB false 1 enc8 ([3, 0] : List UInt8))]) [0] [.obj [pS 1 false enc8 ([] : List UInt8), pB false]] rfl rfl rfl (handed_of (by decide) ⟨rfl, trivial⟩) rfl rfl rfl rfl rfl rfl (w_mbap_Stream_Put ([] : List UInt8) false false ([0, 0, 0, 1, 0, 2] : List UInt8) false (by first | omega | assumption | (simp; omega) | decide | (simp; done))) rfl (dist_of rfl) rfl rfl rfl rfl ?_) 
  refine r_op tabOk hnt rfl (s_assign rfl ?_) 
  refine r_set [(1, PV.ptr 0 0), (2, pS 1 true enc8 kB), (3, pS 3 true eMsg ([] : List TMsg)), (4, pS 3 true eMsg kY), (5, pS 3 true eMsg ((putV ([] : List UInt8) false ([0, 0, 0, 1, 0, 2] : List UInt8)).1))] [(0, .obj [pS 1 false enc8 ((putV ([] : List UInt8) false ([0, 0, 0, 1, 0, 2] : List UInt8)).2.1), pB ((putV ([] : List UInt8) false ([0, 0, 0, 1, 0, 2] : List UInt8)).2.2)]), (2, oB false 1 enc8 ([0, 0, 0, 1, 0, 2] : List UInt8)), (1, oB false 1 enc8 ([3, 0] : List UInt8))] 3 ⟨rfl, rfl, rfl, rfl, rfl, trivial⟩ rfl rfl ?_
  refine r_end ?_
  refine q_then ?_
  refine w_seq ?_
  refine w_eq (s := 5) (y := pS 3 true eMsg ([] : List TMsg)) rfl (congrArg (fun z => pS 3 true eMsg z) (show ((putV ([] : List UInt8) false ([0, 0, 0, 1, 0, 2] : List UInt8)).1) = ([] : List TMsg) by rw [kp3])) ?_
  refine w_leC (n := 0) (j := 0) (y := pS 1 false enc8 ([] : List UInt8)) rfl rfl (le_of_eq (congrArg (fun z => pS 1 false enc8 z) (show ((putV ([] : List UInt8) false ([0, 0, 0, 1, 0, 2] : List UInt8)).2.1) = ([] : List UInt8) by rw [kp3]))) ?_
  refine w_leC (n := 0) (j := 1) (y := pB true) rfl rfl (le_of_eq (congrArg (fun z : Bool => pB z) (show ((putV ([] : List UInt8) false ([0, 0, 0, 1, 0, 2] : List UInt8)).2.2) = true by rw [kp3]))) ?_
  refine w_R ?_
  refine r_op tabOk hnt rfl (s_move rfl ?_) 
  refine r_op tabOk hnt rfl (s_callX (r2 := pB true) (nx1 := 3) (H2 := [(0, .obj [pS 1 false enc8 ([] : List UInt8), pB true]), (2, oB false 1 enc8 ([0, 0, 0, 1, 0, 2] : List UInt8)), (1, oB false 1 enc8 ([3, 0] : List UInt8))]) (H3 := [(0, .obj [pS 1 false enc8 ([] : List UInt8), pB true]), (2, oB false 1 enc8 ([0, 0, 0, 1, 0, 2] : List UInt8)), (1, oB false 1 enc8 ([3, 0] : List UInt8))]) [0] [.obj [pS 1 false enc8 ([] : List UInt8), pB true]] rfl rfl rfl (handed_of (by decide) ⟨rfl, trivial⟩) rfl rfl rfl rfl rfl rfl (w_mbap_Stream_Closed ([] : List UInt8) false true) rfl (dist_of rfl) rfl rfl rfl rfl ?_) 
  refine r_op tabOk hnt rfl (s_assign rfl ?_) 
  refine r_set [(1, PV.ptr 0 0), (2, pS 1 true enc8 kB), (3, pS 3 true eMsg ([] : List TMsg)), (4, pS 3 true eMsg kY), (5, pS 3 true eMsg ([] : List TMsg)), (6, pB true)] [(0, .obj [pS 1 false enc8 ([] : List UInt8), pB true]), (2, oB false 1 enc8 ([0, 0, 0, 1, 0, 2] : List UInt8)), (1, oB false 1 enc8 ([3, 0] : List UInt8))] 3 ⟨rfl, rfl, rfl, rfl, rfl, rfl, trivial⟩ rfl rfl ?_
  refine r_end ?_
  refine q_then ?_
  refine w_seq ?_
  refine w_R ?_
  refine r_op tabOk hnt rfl (s_move rfl ?_) 
  refine r_op tabOk hnt rfl (s_move rfl ?_) 
  refine r_op tabOk hnt rfl (s_callX (r2 := pS 3 true eMsg ((putV ([] : List UInt8) true kB).1)) (nx1 := 3) (H2 := [(0, .obj [pS 1 false enc8 ([] : List UInt8), pB true]), (2, oB false 1 enc8 ([0, 0, 0, 1, 0, 2] : List UInt8)), (1, oB false 1 enc8 ([3, 0] : List UInt8))]) (H3 := [(0, .obj [pS 1 false enc8 ((putV ([] : List UInt8) true kB).2.1), pB ((putV ([] : List UInt8) true kB).2.2)]), (2, oB false 1 enc8 ([0, 0, 0, 1, 0, 2] : List UInt8)), (1, oB false 1 enc8 ([3, 0] : List UInt8))]) [0] [.obj [pS 1 false enc8 ([] : List UInt8), pB true]] rfl rfl rfl (handed_of (by decide) ⟨rfl, trivial⟩) rfl rfl rfl rfl rfl rfl (w_mbap_Stream_Put ([] : List UInt8) false true kB true (by first | omega | assumption | (simp; omega) | decide | (simp; done))) rfl (dist_of rfl) rfl rfl rfl rfl ?_) 
  refine r_op tabOk hnt rfl (s_assign rfl ?_) 
  refine r_set [(1, PV.ptr 0 0), (2, pS 1 true enc8 kB), (3, pS 3 true eMsg ([] : List TMsg)), (4, pS 3 true eMsg kY), (5, pS 3 true eMsg ([] : List TMsg)), (6, pB true), (7, pS 3 true eMsg ((putV ([] : List UInt8) true kB).1))] [(0, .obj [pS 1 false enc8 ((putV ([] : List UInt8) true kB).2.1), pB ((putV ([] : List UInt8) true kB).2.2)]), (2, oB false 1 enc8 ([0, 0, 0, 1, 0, 2] : List UInt8)), (1, oB false 1 enc8 ([3, 0] : List UInt8))] 3 ⟨rfl, rfl, rfl, rfl, rfl, rfl, rfl, trivial⟩ rfl rfl ?_
  refine r_end ?_
  refine q_then ?_
  refine w_seq ?_
  refine w_eq (s := 7) (y := pS 3 true eMsg ([] : List TMsg)) rfl (congrArg (fun z => pS 3 true eMsg z) (show ((putV ([] : List UInt8) true kB).1) = ([] : List TMsg) by rw [kp4])) ?_
  refine w_leC (n := 0) (j := 0) (y := pS 1 false enc8 ([] : List UInt8)) rfl rfl (le_of_eq (congrArg (fun z => pS 1 false enc8 z) (show ((putV ([] : List UInt8) true kB).2.1) = ([] : List UInt8) by rw [kp4]))) ?_
  refine w_leC (n := 0) (j := 1) (y := pB true) rfl rfl (le_of_eq (congrArg (fun z : Bool => pB z) (show ((putV ([] : List UInt8) true kB).2.2) = true by rw [kp4]))) ?_
  refine w_R ?_
  refine r_op tabOk hnt rfl (s_move rfl ?_) 
  refine r_op tabOk hnt rfl (s_callX (r2 := PV.tup []) (nx1 := 3) (H2 := [(0, .obj [pS 1 false enc8 ([] : List UInt8), pB true]), (2, oB false 1 enc8 ([0, 0, 0, 1, 0, 2] : List UInt8)), (1, oB false 1 enc8 ([3, 0] : List UInt8))]) (H3 := [(0, .obj [pS 1 false enc8 ([] : List UInt8), pB false]), (2, oB false 1 enc8 ([0, 0, 0, 1, 0, 2] : List UInt8)), (1, oB false 1 enc8 ([3, 0] : List UInt8))]) [0] [.obj [pS 1 false enc8 ([] : List UInt8), pB true]] rfl rfl rfl (handed_of (by decide) ⟨rfl, trivial⟩) rfl rfl rfl rfl rfl rfl (w_mbap_Stream_Open ([] : List UInt8) false true) rfl (dist_of rfl) rfl rfl rfl rfl ?_) 
  refine r_set [(1, PV.ptr 0 0), (2, pS 1 true enc8 kB), (3, pS 3 true eMsg ([] : List TMsg)), (4, pS 3 true eMsg kY), (5, pS 3 true eMsg ([] : List TMsg)), (6, pB true), (7, pS 3 true eMsg ([] : List TMsg))] [(0, .obj [pS 1 false enc8 ([] : List UInt8), pB false]), (2, oB false 1 enc8 ([0, 0, 0, 1, 0, 2] : List UInt8)), (1, oB false 1 enc8 ([3, 0] : List UInt8))] 3 ⟨rfl, rfl, rfl, rfl, rfl, rfl, rfl, trivial⟩ rfl rfl ?_
  refine r_end ?_
  refine q_then ?_
  refine w_seq ?_
  refine w_R ?_
  refine r_op tabOk hnt rfl (s_move rfl ?_) 
  refine r_op tabOk hnt rfl (s_move rfl ?_) 
  refine r_op tabOk hnt rfl (s_callX (r2 := pS 3 true eMsg ((putV ([] : List UInt8) false kB).1)) (nx1 := 3) (H2 := [(0, .obj [pS 1 false enc8 ([] : List UInt8), pB false]), (2, oB false 1 enc8 ([0, 0, 0, 1, 0, 2] : List UInt8)), (1, oB false 1 enc8 ([3, 0] : List UInt8))]) (H3 := [(0, .obj [pS 1 false enc8 ((putV ([] : List UInt8) false kB).2.1), pB ((putV ([] : List UInt8) false kB).2.2)]), (2, oB false 1 enc8 ([0, 0, 0, 1, 0, 2] : List UInt8)), (1, oB false 1 enc8 ([3, 0] : List UInt8))]) [0] [.obj [pS 1 false enc8 ([] : List UInt8), pB false]] rfl rfl rfl (handed_of (by decide) ⟨rfl, trivial⟩) rfl rfl rfl rfl rfl rfl (w_mbap_Stream_Put ([] : List UInt8) false false kB true (by first | omega | assumption | (simp; omega) | decide | (simp; done))) rfl (dist_of rfl) rfl rfl rfl rfl ?_) 
  refine r_op tabOk hnt rfl (s_assign rfl ?_) 
  refine r_set [(1, PV.ptr 0 0), (2, pS 1 true enc8 kB), (3, pS 3 true eMsg ([] : List TMsg)), (4, pS 3 true eMsg kY), (5, pS 3 true eMsg ([] : List TMsg)), (6, pB true), (7, pS 3 true eMsg ([] : List TMsg)), (8, pS 3 true eMsg ((putV ([] : List UInt8) false kB).1))] [(0, .obj [pS 1 false enc8 ((putV ([] : List UInt8) false kB).2.1), pB ((putV ([] : List UInt8) false kB).2.2)]), (2, oB false 1 enc8 ([0, 0, 0, 1, 0, 2] : List UInt8)), (1, oB false 1 enc8 ([3, 0] : List UInt8))] 3 ⟨rfl, rfl, rfl, rfl, rfl, rfl, rfl, rfl, trivial⟩ rfl rfl ?_
  refine r_end ?_
  refine q_then ?_
  refine w_seq ?_
  refine w_eq (s := 8) (y := pS 3 true eMsg kY) rfl (congrArg (fun z => pS 3 true eMsg z) (show ((putV ([] : List UInt8) false kB).1) = kY by rw [kp5])) ?_
  refine w_leC (n := 0) (j := 0) (y := pS 1 false enc8 ([] : List UInt8)) rfl rfl (le_of_eq (congrArg (fun z => pS 1 false enc8 z) (show ((putV ([] : List UInt8) false kB).2.1) = ([] : List UInt8) by rw [kp5]))) ?_
  refine w_leC (n := 0) (j := 1) (y := pB false) rfl rfl (le_of_eq (congrArg (fun z : Bool => pB z) (show ((putV ([] : List UInt8) false kB).2.2) = false by rw [kp5]))) ?_
  refine w_R ?_
  refine r_op tabOk hnt rfl (s_move rfl ?_) 
  refine r_op tabOk hnt rfl (s_cvT tab_27 tab_9 rfl tab_5 rfl rfl (hM_sl (f := enc8) rfl) ?_) 
  refine r_op tabOk hnt rfl (s_eqtext (l := kB) (m := ([0, 2, 0, 0, 0, 3, 17, 3, 0] : List UInt8)) rfl rfl ?_) 
  refine r_op tabOk hnt rfl (s_move rfl ?_) 
  refine r_if tabOk hnt rfl rfl rfl (fun g1 => ?_) (fun g1 => ?_)
  ·
    have g1' := g1
    try simp only [decide_eq_true_eq, decide_eq_false_iff_not, Bool.not_eq_true', Bool.not_eq_false', Bool.not_true, Bool.not_false, Bool.not_eq_eq_eq_not, Int.not_lt, Int.not_le] at g1'
    refine r_op tabOk hnt rfl (s_move rfl ?_) 
    refine r_if tabOk hnt rfl rfl rfl (fun _ => ?_) (fun e => absurd (e.symm.trans g1) (by decide))
    refine r_op tabOk hnt rfl (s_lenM (l := ([] : List TMsg)) tab_39 rfl (hM_sl (f := eMsg) rfl) ?_) 
    refine r_if tabOk hnt rfl rfl rfl (fun _ => ?_) (fun e => absurd (e.symm.trans g1) (by decide))
    refine r_op tabOk hnt rfl (s_eql rfl rfl ?_) 
    refine r_op tabOk hnt rfl (s_pick_t rfl g1 rfl ?_) 
    refine r_op tabOk hnt rfl (s_move rfl ?_) 
    refine r_if tabOk hnt rfl rfl rfl (fun g2 => ?_) (fun g2 => ?_)
    ·
      have g2' := g2
      try simp only [decide_eq_true_eq, decide_eq_false_iff_not, Bool.not_eq_true', Bool.not_eq_false', Bool.not_true, Bool.not_false, Bool.not_eq_eq_eq_not, Int.not_lt, Int.not_le] at g2'
      refine r_op tabOk hnt rfl (s_move rfl ?_) 
      refine r_if tabOk hnt rfl rfl rfl (fun _ => ?_) (fun e => absurd (e.symm.trans g2) (by decide))
      refine r_op tabOk hnt rfl (s_lenM (l := kY) tab_39 rfl (hM_sl (f := eMsg) rfl) ?_) 
      refine r_if tabOk hnt rfl rfl rfl (fun _ => ?_) (fun e => absurd (e.symm.trans g2) (by decide))
      refine r_op tabOk hnt rfl (s_eql rfl rfl ?_) 
      refine r_op tabOk hnt rfl (s_pick_t rfl g2 rfl ?_) 
      refine r_op tabOk hnt rfl (s_move rfl ?_) 
      refine r_if tabOk hnt rfl rfl rfl (fun g3 => ?_) (fun g3 => ?_)
      ·
        have g3' := g3
        try simp only [decide_eq_true_eq, decide_eq_false_iff_not, Bool.not_eq_true', Bool.not_eq_false', Bool.not_true, Bool.not_false, Bool.not_eq_eq_eq_not, Int.not_lt, Int.not_le] at g3'
        refine r_op tabOk hnt rfl (s_move rfl ?_) 
        refine r_if tabOk hnt rfl rfl rfl (fun _ => ?_) (fun e => absurd (e.symm.trans g3) (by decide))
        obtain ⟨e1, he1⟩ := get_of_lt kY (i := 0) (by omega)
        refine r_op tabOk hnt rfl (s_iaM (q := 0) (b := e1) (f := eMsg) tab_39 rfl tab_30 rfl rfl (by omega) rfl he1 ?_) 
        refine r_if tabOk hnt rfl rfl rfl (fun _ => ?_) (fun e => absurd (e.symm.trans g3) (by decide))
        refine r_op tabOk hnt rfl (s_fa_ro tab_30 rfl rfl tab_3 (by decide) rfl (Nat.le_of_ble_eq_true rfl) (by intro _; rfl) ?_) 
        refine r_if tabOk hnt rfl rfl rfl (fun _ => ?_) (fun e => absurd (e.symm.trans g3) (by decide))
        refine r_op tabOk hnt rfl (s_load_ro1 tab_3 rfl rfl rfl rfl ?_) 
        refine r_if tabOk hnt rfl rfl rfl (fun _ => ?_) (fun e => absurd (e.symm.trans g3) (by decide))
        refine r_op tabOk hnt rfl (s_eql rfl rfl ?_) 
        refine r_op tabOk hnt rfl (s_pick_t rfl g3 rfl ?_) 
        refine r_op tabOk hnt rfl (s_move rfl ?_) 
        refine r_if tabOk hnt rfl rfl rfl (fun g4 => ?_) (fun g4 => ?_)
        ·
          have g4' := g4
          try simp only [decide_eq_true_eq, decide_eq_false_iff_not, Bool.not_eq_true', Bool.not_eq_false', Bool.not_true, Bool.not_false, Bool.not_eq_eq_eq_not, Int.not_lt, Int.not_le] at g4'
          refine r_op tabOk hnt rfl (s_move rfl ?_) 
          refine r_if tabOk hnt rfl rfl rfl (fun _ => ?_) (fun e => absurd (e.symm.trans g4) (by decide))
          refine r_op tabOk hnt rfl (s_iaM (q := 0) (b := e1) (f := eMsg) tab_39 rfl tab_30 rfl rfl (by omega) rfl he1 ?_) 
          refine r_if tabOk hnt rfl rfl rfl (fun _ => ?_) (fun e => absurd (e.symm.trans g4) (by decide))
          refine r_op tabOk hnt rfl (s_fa_ro tab_30 rfl rfl tab_3 (by decide) rfl (Nat.le_of_ble_eq_true rfl) (by intro _; rfl) ?_) 
          refine r_if tabOk hnt rfl rfl rfl (fun _ => ?_) (fun e => absurd (e.symm.trans g4) (by decide))
          refine r_op tabOk hnt rfl (s_load_ro1 tab_3 rfl rfl rfl rfl ?_) 
          refine r_if tabOk hnt rfl rfl rfl (fun _ => ?_) (fun e => absurd (e.symm.trans g4) (by decide))
          refine r_op tabOk hnt rfl (s_eql rfl rfl ?_) 
          refine r_op tabOk hnt rfl (s_pick_t rfl g4 rfl ?_) 
          refine r_op tabOk hnt rfl (s_move rfl ?_) 
          refine r_if tabOk hnt rfl rfl rfl (fun g5 => ?_) (fun g5 => ?_)
          ·
            have g5' := g5
            try simp only [decide_eq_true_eq, decide_eq_false_iff_not, Bool.not_eq_true', Bool.not_eq_false', Bool.not_true, Bool.not_false, Bool.not_eq_eq_eq_not, Int.not_lt, Int.not_le] at g5'
            refine r_op tabOk hnt rfl (s_move rfl ?_) 
            refine r_if tabOk hnt rfl rfl rfl (fun _ => ?_) (fun e => absurd (e.symm.trans g5) (by decide))
            refine r_op tabOk hnt rfl (s_iaM (q := 0) (b := e1) (f := eMsg) tab_39 rfl tab_30 rfl rfl (by omega) rfl he1 ?_) 
            refine r_if tabOk hnt rfl rfl rfl (fun _ => ?_) (fun e => absurd (e.symm.trans g5) (by decide))
            refine r_op tabOk hnt rfl (s_fa_ro tab_30 rfl rfl tab_27 (by decide) rfl (Nat.le_of_ble_eq_true rfl) (by intro _; rfl) ?_) 
            refine r_if tabOk hnt rfl rfl rfl (fun _ => ?_) (fun e => absurd (e.symm.trans g5) (by decide))
            refine r_op tabOk hnt rfl (s_load_ro1 tab_27 rfl rfl rfl rfl ?_) 
            refine r_if tabOk hnt rfl rfl rfl (fun _ => ?_) (fun e => absurd (e.symm.trans g5) (by decide))
            refine r_op tabOk hnt rfl (s_cvT tab_27 tab_9 rfl tab_5 rfl rfl (hM_sl (f := enc8) rfl) ?_) 
            refine r_if tabOk hnt rfl rfl rfl (fun _ => ?_) (fun e => absurd (e.symm.trans g5) (by decide))
            refine r_op tabOk hnt rfl (s_eqtext (l := e1.pdu) (m := ([3, 0] : List UInt8)) rfl rfl ?_) 
            refine r_op tabOk hnt rfl (s_pick_t rfl g5 rfl ?_) 
            refine r_op tabOk hnt rfl (s_move rfl ?_) 
            refine r_if tabOk hnt rfl rfl rfl (fun g6 => ?_) (fun g6 => ?_)
            ·
              have g6' := g6
              try simp only [decide_eq_true_eq, decide_eq_false_iff_not, Bool.not_eq_true', Bool.not_eq_false', Bool.not_true, Bool.not_false, Bool.not_eq_eq_eq_not, Int.not_lt, Int.not_le] at g6'
              refine r_op tabOk hnt rfl (s_move rfl ?_) 
              refine r_if tabOk hnt rfl rfl rfl (fun _ => ?_) (fun e => absurd (e.symm.trans g6) (by decide))
              refine r_op tabOk hnt rfl (s_lenM (l := ([] : List TMsg)) tab_39 rfl (hM_sl (f := eMsg) rfl) ?_) 
              refine r_if tabOk hnt rfl rfl rfl (fun _ => ?_) (fun e => absurd (e.symm.trans g6) (by decide))
              refine r_op tabOk hnt rfl (s_eql rfl rfl ?_) 
              refine r_op tabOk hnt rfl (s_pick_t rfl g6 rfl ?_) 
              refine r_op tabOk hnt rfl (s_move rfl ?_) 
              refine r_if tabOk hnt rfl rfl rfl (fun _ => ?_) (fun e => absurd (e.symm.trans g2) (by decide))
              refine r_op tabOk hnt rfl (s_move rfl ?_) 
              refine r_op tabOk hnt rfl (s_pick_t rfl g2 rfl ?_) 
              refine r_op tabOk hnt rfl (s_move rfl ?_) 
              refine r_if tabOk hnt rfl rfl rfl (fun g7 => ?_) (fun g7 => ?_)
              ·
                have g7' := g7
                try simp only [decide_eq_true_eq, decide_eq_false_iff_not, Bool.not_eq_true', Bool.not_eq_false', Bool.not_true, Bool.not_false, Bool.not_eq_eq_eq_not, Int.not_lt, Int.not_le] at g7'
                refine r_op tabOk hnt rfl (s_move rfl ?_) 
                refine r_if tabOk hnt rfl rfl rfl (fun _ => ?_) (fun e => absurd (e.symm.trans g7) (by decide))
                refine r_op tabOk hnt rfl (s_lenM (l := ([] : List TMsg)) tab_39 rfl (hM_sl (f := eMsg) rfl) ?_) 
                refine r_if tabOk hnt rfl rfl rfl (fun _ => ?_) (fun e => absurd (e.symm.trans g7) (by decide))
                refine r_op tabOk hnt rfl (s_eql rfl rfl ?_) 
                refine r_op tabOk hnt rfl (s_pick_t rfl g7 rfl ?_) 
                refine r_op tabOk hnt rfl (s_move rfl ?_) 
                refine r_if tabOk hnt rfl rfl rfl (fun _ => ?_) (fun e => absurd (e.symm.trans g2) (by decide))
                refine r_op tabOk hnt rfl (s_move rfl ?_) 
                refine r_if tabOk hnt rfl rfl rfl (fun _ => ?_) (fun e => absurd (e.symm.trans g2) (by decide))
                refine r_op tabOk hnt rfl (s_lenM (l := kY) tab_39 rfl (hM_sl (f := eMsg) rfl) ?_) 
                refine r_if tabOk hnt rfl rfl rfl (fun _ => ?_) (fun e => absurd (e.symm.trans g2) (by decide))
                refine r_op tabOk hnt rfl (s_eql rfl rfl ?_) 
                refine r_op tabOk hnt rfl (s_pick_t rfl g2 rfl ?_) 
                refine r_op tabOk hnt rfl (s_move rfl ?_) 
                refine r_if tabOk hnt rfl rfl rfl (fun _ => ?_) (fun e => absurd (e.symm.trans g3) (by decide))
                refine r_op tabOk hnt rfl (s_move rfl ?_) 
                refine r_if tabOk hnt rfl rfl rfl (fun _ => ?_) (fun e => absurd (e.symm.trans g3) (by decide))
                refine r_op tabOk hnt rfl (s_callX (r2 := pN (([] : List UInt8).length)) (nx1 := 3) (H2 := [(0, .obj [pS 1 false enc8 ([] : List UInt8), pB false]), (2, oB false 1 enc8 ([0, 0, 0, 1, 0, 2] : List UInt8)), (1, oB false 1 enc8 ([3, 0] : List UInt8))]) (H3 := [(0, .obj [pS 1 false enc8 ([] : List UInt8), pB false]), (2, oB false 1 enc8 ([0, 0, 0, 1, 0, 2] : List UInt8)), (1, oB false 1 enc8 ([3, 0] : List UInt8))]) [0] [.obj [pS 1 false enc8 ([] : List UInt8), pB false]] rfl rfl rfl (handed_of (by decide) ⟨rfl, trivial⟩) rfl rfl rfl rfl rfl rfl (w_mbap_Stream_Len ([] : List UInt8) false false) rfl (dist_of rfl) rfl rfl rfl rfl ?_) 
                refine r_if tabOk hnt rfl rfl rfl (fun _ => ?_) (fun e => absurd (e.symm.trans g3) (by decide))
                refine r_op tabOk hnt rfl (s_eql rfl rfl ?_) 
                refine r_op tabOk hnt rfl (s_pick_t rfl g3 rfl ?_) 
                refine r_op tabOk hnt rfl (s_move rfl ?_) 
                refine r_if tabOk hnt rfl rfl rfl (fun g8 => ?_) (fun g8 => ?_)
                ·
                  have g8' := g8
                  try simp only [decide_eq_true_eq, decide_eq_false_iff_not, Bool.not_eq_true', Bool.not_eq_false', Bool.not_true, Bool.not_false, Bool.not_eq_eq_eq_not, Int.not_lt, Int.not_le] at g8'
                  refine r_op tabOk hnt rfl (s_move rfl ?_) 
                  refine r_if tabOk hnt rfl rfl rfl (fun _ => ?_) (fun e => absurd (e.symm.trans g8) (by decide))
                  refine r_op tabOk hnt rfl (s_callX (r2 := pB false) (nx1 := 3) (H2 := [(0, .obj [pS 1 false enc8 ([] : List UInt8), pB false]), (2, oB false 1 enc8 ([0, 0, 0, 1, 0, 2] : List UInt8)), (1, oB false 1 enc8 ([3, 0] : List UInt8))]) (H3 := [(0, .obj [pS 1 false enc8 ([] : List UInt8), pB false]), (2, oB false 1 enc8 ([0, 0, 0, 1, 0, 2] : List UInt8)), (1, oB false 1 enc8 ([3, 0] : List UInt8))]) [0] [.obj [pS 1 false enc8 ([] : List UInt8), pB false]] rfl rfl rfl (handed_of (by decide) ⟨rfl, trivial⟩) rfl rfl rfl rfl rfl rfl (w_mbap_Stream_Closed ([] : List UInt8) false false) rfl (dist_of rfl) rfl rfl rfl rfl ?_) 
                  refine r_if tabOk hnt rfl rfl rfl (fun _ => ?_) (fun e => absurd (e.symm.trans g8) (by decide))
                  refine r_op tabOk hnt rfl (s_not rfl ?_) 
                  refine r_op tabOk hnt rfl (s_pick_t rfl g8 rfl ?_) 
                  refine r_op tabOk hnt rfl (s_move rfl ?_) 
                  refine r_if tabOk hnt rfl rfl rfl (fun g9 => ?_) (fun g9 => ?_)
                  ·
                    have g9' := g9
                    try simp only [decide_eq_true_eq, decide_eq_false_iff_not, Bool.not_eq_true', Bool.not_eq_false', Bool.not_true, Bool.not_false, Bool.not_eq_eq_eq_not, Int.not_lt, Int.not_le] at g9'
                    refine r_op tabOk hnt rfl (s_build tab_30 rfl rfl (b_nil ?_)) 
                    refine r_if tabOk hnt rfl rfl rfl (fun _ => ?_) (fun e => absurd (e.symm.trans g9) (by decide))
                    refine r_op tabOk hnt rfl (s_callF rfl rfl rfl (T.leL (args := [PV.f (.agg [encI 0, encI 0, FV.v (.slice none 0 0)])]) (args' := [PV.f (eMsg (⟨0, 0, []⟩ : TMsg))]) ⟨le_F (FLe.agg ⟨FLe.refl _, FLe.refl _, FLe.nil 1 false, trivial⟩), trivial⟩ (w_mbap_Bytes (⟨0, 0, []⟩ : TMsg) (by first | omega | assumption | (simp; omega) | decide | (simp; done)))) rfl ?_) 
                    refine r_if tabOk hnt rfl rfl rfl (fun _ => ?_) (fun e => absurd (e.symm.trans g9) (by decide))
                    refine r_op tabOk hnt rfl (s_lenM (l := bytesM (⟨0, 0, []⟩ : TMsg)) tab_27 rfl (hM_sl (f := enc8) rfl) ?_) 
                    refine r_if tabOk hnt rfl rfl rfl (fun _ => ?_) (fun e => absurd (e.symm.trans g9) (by decide))
                    refine r_op tabOk hnt rfl (s_eql rfl rfl ?_) 
                    refine r_op tabOk hnt rfl (s_pick_t rfl g9 rfl ?_) 
                    refine r_op tabOk hnt rfl (s_move rfl ?_) 
                    refine r_if tabOk hnt rfl rfl rfl (fun g10 => ?_) (fun g10 => ?_)
                    ·
                      have g10' := g10
                      try simp only [decide_eq_true_eq, decide_eq_false_iff_not, Bool.not_eq_true', Bool.not_eq_false', Bool.not_true, Bool.not_false, Bool.not_eq_eq_eq_not, Int.not_lt, Int.not_le] at g10'
                      refine r_op tabOk hnt rfl (s_makeM (f := enc8) (bt := 1) tab_one (0 : UInt8) 254 (fun j hj => by cases hj; rfl) tab_27 rfl tab_5 ⟨rfl, by decide⟩ rfl rfl rfl (by omega) (by refine ⟨?_, ?_, ?_⟩ <;> omega) ?_) 
                      refine r_if tabOk hnt rfl rfl rfl (fun _ => ?_) (fun e => absurd (e.symm.trans g10) (by decide))
                      refine r_op tabOk hnt rfl (s_build tab_30 rfl rfl (b_cons rfl tab_27 rfl rfl rfl (Nat.le_of_ble_eq_true rfl) (b_nil ?_))) 
                      refine r_if tabOk hnt rfl rfl rfl (fun _ => ?_) (fun e => absurd (e.symm.trans g10) (by decide))
                      refine r_op tabOk hnt rfl (s_callX (r2 := pS 1 true enc8 (bytesM (⟨0, 0, List.replicate 254 (0 : UInt8)⟩ : TMsg))) (nx1 := 4) (H2 := [(3, oB false 1 enc8 (List.replicate 254 (0 : UInt8))), (0, .obj [pS 1 false enc8 ([] : List UInt8), pB false]), (2, oB false 1 enc8 ([0, 0, 0, 1, 0, 2] : List UInt8)), (1, oB false 1 enc8 ([3, 0] : List UInt8))]) (H3 := [(3, oB false 1 enc8 (List.replicate 254 (0 : UInt8))), (0, .obj [pS 1 false enc8 ([] : List UInt8), pB false]), (2, oB false 1 enc8 ([0, 0, 0, 1, 0, 2] : List UInt8)), (1, oB false 1 enc8 ([3, 0] : List UInt8))]) [] [] rfl rfl rfl (handed_of (by decide) trivial) rfl rfl rfl rfl rfl rfl (w_mbap_Bytes (⟨0, 0, List.replicate 254 (0 : UInt8)⟩ : TMsg) (by first | omega | assumption | (simp; omega) | decide | (simp; done))) rfl (dist_of rfl) rfl rfl rfl rfl ?_) 
                      refine r_if tabOk hnt rfl rfl rfl (fun _ => ?_) (fun e => absurd (e.symm.trans g10) (by decide))
                      refine r_op tabOk hnt rfl (s_lenM (l := bytesM (⟨0, 0, List.replicate 254 (0 : UInt8)⟩ : TMsg)) tab_27 rfl (hM_sl (f := enc8) rfl) ?_) 
                      refine r_if tabOk hnt rfl rfl rfl (fun _ => ?_) (fun e => absurd (e.symm.trans g10) (by decide))
                      refine r_op tabOk hnt rfl (s_eql rfl rfl ?_) 
                      refine r_op tabOk hnt rfl (s_pick_t rfl g10 rfl ?_) 
                      refine r_op tabOk hnt rfl (s_assign rfl ?_) 
                      refine r_set [(0, pB (decide ((((bytesM (⟨0, 0, List.replicate 254 (0 : UInt8)⟩ : TMsg)).length : Nat) : Int) = 0)))] [(3, oB false 1 enc8 (List.replicate 254 (0 : UInt8))), (0, .obj [pS 1 false enc8 ([] : List UInt8), pB false]), (2, oB false 1 enc8 ([0, 0, 0, 1, 0, 2] : List UInt8)), (1, oB false 1 enc8 ([3, 0] : List UInt8))] 4 ⟨rfl, trivial⟩ rfl rfl ?_
                      refine r_end ?_
                      refine q_then ?_
                      refine w_le (s := 0) (y := pB true) rfl (le_of_eq (congrArg (fun z : Bool => pB z) (show (decide ((((bytesM (⟨0, 0, List.replicate 254 (0 : UInt8)⟩ : TMsg)).length : Nat) : Int) = 0)) = true by first | (simp; done) | (simp [bytesM]; done)))) ?_
                      refine w_ret ?_
                      exact fin_plain (ret_tmp rfl ret_nil) rfl rfl ⟨rfl, rfl, rfl⟩
                    ·
                      exact absurd g10 (by first | (simp; done) | (simp [kB]; done) | (simp [kY]; done) | (simp [kY] at he1; subst he1; simp; done) | (simp [bytesM]; done))
                  ·
                    exact absurd g9 (by first | (simp; done) | (simp [kB]; done) | (simp [kY]; done) | (simp [kY] at he1; subst he1; simp; done) | (simp [bytesM]; done))
                ·
                  exact absurd g8 (by first | (simp; done) | (simp [kB]; done) | (simp [kY]; done) | (simp [kY] at he1; subst he1; simp; done) | (simp [bytesM]; done))
              ·
                exact absurd g7 (by first | (simp; done) | (simp [kB]; done) | (simp [kY]; done) | (simp [kY] at he1; subst he1; simp; done) | (simp [bytesM]; done))
            ·
              exact absurd g6 (by first | (simp; done) | (simp [kB]; done) | (simp [kY]; done) | (simp [kY] at he1; subst he1; simp; done) | (simp [bytesM]; done))
          ·
            exact absurd g5 (by first | (simp; done) | (simp [kB]; done) | (simp [kY]; done) | (simp [kY] at he1; subst he1; simp; done) | (simp [bytesM]; done))
        ·
          exact absurd g4 (by first | (simp; done) | (simp [kB]; done) | (simp [kY]; done) | (simp [kY] at he1; subst he1; simp; done) | (simp [bytesM]; done))
      ·
        exact absurd g3 (by first | (simp; done) | (simp [kB]; done) | (simp [kY]; done) | (simp [kY] at he1; subst he1; simp; done) | (simp [bytesM]; done))
    ·
      exact absurd g2 (by first | (simp; done) | (simp [kB]; done) | (simp [kY]; done) | (simp [kY] at he1; subst he1; simp; done) | (simp [bytesM]; done))
  ·
    exact absurd g1 (by first | (simp; done) | (simp [kB]; done) | (simp [kY]; done) | (simp [kY] at he1; subst he1; simp; done) | (simp [bytesM]; done))

theorem w_burgagelaw6_MbapShut (rows : List (List UInt8)) (cl_rows : Bool) (h : List UInt8) (cl_h : Bool) (hr : rows.length * 24 ≤ 140737488351232) (hh : h.length ≤ 140737488351232) :
    T Try.prog 6 [pS 1 cl_rows (encS 1 enc8) rows, pS 1 cl_h enc8 h] 0 [] (Ret (pB true) 0 []) := by
  refine t_fun tabOk (n := 101) (rs := [.tmp 4]) Try.func6 rfl rfl rfl rfl (Nat.le_of_ble_eq_true rfl) ?_
  intro c hnt hk
  refine w_seq ?_
  refine w_R ?_
  refine r_op tabOk hnt rfl (s_assign rfl ?_) 
  refine r_end ?_
  refine q_then ?_
  refine w_seq ?_
  refine w_R ?_
  refine r_op tabOk hnt rfl (s_callX (r2 := PV.ptr 0 0) (nx1 := 1) (H2 := []) (H3 := [(0, .obj [pS 1 false enc8 ([] : List UInt8), pB false])]) [] [] rfl rfl rfl (handed_of (by decide) trivial) rfl rfl rfl rfl rfl rfl (w_mbap_New) rfl (dist_of rfl) rfl rfl rfl rfl ?_) 
  refine r_op tabOk hnt rfl (s_assign rfl ?_) 
  refine r_set [(0, pS 1 cl_rows (encS 1 enc8) rows), (1, pS 1 cl_h enc8 h), (5, PV.ptr 0 0)] [(0, .obj [pS 1 false enc8 ([] : List UInt8), pB false])] 1 ⟨rfl, rfl, rfl, trivial⟩ rfl rfl ?_
  refine r_end ?_
  refine q_then ?_
  refine w_seq ?_
  refine w_seq ?_
  refine w_R ?_
  refine r_op tabOk hnt rfl (s_move rfl ?_) 
  refine r_op tabOk hnt rfl (s_ptrnil tab_37 rfl rfl trivial ?_) 
  refine r_end ?_
  refine q_then ?_
  refine w_if rfl (fun e => absurd e (by decide)) (fun _ => ?_)
  refine w_skip ?_
  refine q_then ?_
  refine w_seq ?_
  refine w_R ?_
  refine r_op tabOk hnt rfl (s_move rfl ?_) 
  refine r_op tabOk hnt rfl (s_mkM (f := enc8) ([0, 1, 0, 0, 0, 255] : List UInt8) tab_27 rfl tab_5 ⟨rfl, by decide⟩ (by decide) rfl rfl rfl rfl ?_) 
  refine r_op tabOk hnt rfl (s_callX (r2 := pS 3 true eMsg ((putV ([] : List UInt8) false ([0, 1, 0, 0, 0, 255] : List UInt8)).1)) (nx1 := 2) (H2 := [(1, oB false 1 enc8 ([0, 1, 0, 0, 0, 255] : List UInt8)), (0, .obj [pS 1 false enc8 ([] : List UInt8), pB false])]) (H3 := [(0, .obj [pS 1 false enc8 ((putV ([] : List UInt8) false ([0, 1, 0, 0, 0, 255] : List UInt8)).2.1), pB ((putV ([] : List UInt8) false ([0, 1, 0, 0, 0, 255] : List UInt8)).2.2)]), (1, oB false 1 enc8 ([0, 1, 0, 0, 0, 255] : List UInt8))]) [0] [.obj [pS 1 false enc8 ([] : List UInt8), pB false]] rfl rfl rfl (handed_of (by decide) ⟨rfl, trivial⟩) rfl rfl rfl rfl rfl rfl (w_mbap_Stream_Put ([] : List UInt8) false false ([0, 1, 0, 0, 0, 255] : List UInt8) false (by first | omega | assumption | (simp; omega) | decide | (simp; done))) rfl (dist_of rfl) rfl rfl rfl rfl ?_) 
  refine r_set [(0, pS 1 cl_rows (encS 1 enc8) rows), (1, pS 1 cl_h enc8 h), (5, PV.ptr 0 0)] [(0, .obj [pS 1 false enc8 ((putV ([] : List UInt8) false ([0, 1, 0, 0, 0, 255] : List UInt8)).2.1), pB ((putV ([] : List UInt8) false ([0, 1, 0, 0, 0, 255] : List UInt8)).2.2)]), (1, oB false 1 enc8 ([0, 1, 0, 0, 0, 255] : List UInt8))] 2 ⟨rfl, rfl, rfl, trivial⟩ rfl rfl ?_
  refine r_end ?_
  refine q_then ?_
  refine w_seq ?_
  refine w_seq ?_
  refine w_leC (n := 0) (j := 0) (y := pS 1 false enc8 ([] : List UInt8)) rfl rfl (le_of_eq (congrArg (fun z => pS 1 false enc8 z) (show ((putV ([] : List UInt8) false ([0, 1, 0, 0, 0, 255] : List UInt8)).2.1) = ([] : List UInt8) by rw [kp6]))) ?_
  refine w_leC (n := 0) (j := 1) (y := pB true) rfl rfl (le_of_eq (congrArg (fun z : Bool => pB z) (show ((putV ([] : List UInt8) false ([0, 1, 0, 0, 0, 255] : List UInt8)).2.2) = true by rw [kp6]))) ?_
  refine w_R ?_
  refine r_op tabOk hnt rfl (s_move rfl ?_) 
  refine r_op tabOk hnt rfl (s_callX (r2 := pB true) (nx1 := 2) (H2 := [(0, .obj [pS 1 false enc8 ([] : List UInt8), pB true]), (1, oB false 1 enc8 ([0, 1, 0, 0, 0, 255] : List UInt8))]) (H3 := [(0, .obj [pS 1 false enc8 ([] : List UInt8), pB true]), (1, oB false 1 enc8 ([0, 1, 0, 0, 0, 255] : List UInt8))]) [0] [.obj [pS 1 false enc8 ([] : List UInt8), pB true]] rfl rfl rfl (handed_of (by decide) ⟨rfl, trivial⟩) rfl rfl rfl rfl rfl rfl (w_mbap_Stream_Closed ([] : List UInt8) false true) rfl (dist_of rfl) rfl rfl rfl rfl ?_) 
  refine r_op tabOk hnt rfl (s_not rfl ?_) 
  refine r_set [(0, pS 1 cl_rows (encS 1 enc8) rows), (1, pS 1 cl_h enc8 h), (5, PV.ptr 0 0), (17, pB (!true))] [(0, .obj [pS 1 false enc8 ([] : List UInt8), pB true]), (1, oB false 1 enc8 ([0, 1, 0, 0, 0, 255] : List UInt8))] 2 ⟨rfl, rfl, rfl, rfl, trivial⟩ rfl rfl ?_
  refine r_end ?_
  refine q_then ?_
  refine w_if rfl (fun c1 => ?_) (fun c1 => ?_)
  ·
    have c1_ := c1
    exact absurd c1 (by simp)
  ·
    have c1_ := c1
    try simp only [decide_eq_true_eq, decide_eq_false_iff_not, Bool.not_eq_true', Bool.not_eq_false', Bool.not_true, Bool.not_false, Bool.not_eq_eq_eq_not, Int.not_lt, Int.not_le] at c1
    refine w_skip ?_
    refine q_then ?_
    refine w_seq ?_
    refine w_seq ?_
    refine w_R ?_
    refine r_op tabOk hnt rfl (s_assign rfl ?_) 
    refine r_end ?_
    refine q_then ?_
    refine w_block ?_
    refine loop1 (fun (i : Nat) => i ≤ rows.length ∧ i ≤ 20) (fun (i : Nat) => [(0, pS 1 cl_rows (encS 1 enc8) rows), (1, pS 1 cl_h enc8 h), (5, PV.ptr 0 0), (6, pN i)]) 1 (fun (i : Nat) => [(0, .obj [pS 1 false enc8 ([] : List UInt8), pB true])]) (fun (i : Nat) => rows.length - i) (0) ?_ ⟨[(0, 0)], by rw [hk]; decide, ⟨⟨_, rfl, rfl, rfl⟩, ⟨_, rfl, rfl, rfl⟩, ⟨_, rfl, rfl, rfl⟩, ⟨_, rfl, rfl, rfl⟩, trivial⟩, ⟨⟨_, _, rfl, rfl, rfl, rfl⟩, trivial⟩, by rw [hk]; decide⟩ ?_
    · omega
    ·
      intro i hI
      refine w_seq ?_
      refine w_seq ?_
      refine w_R ?_
      refine r_op tabOk hnt rfl (s_move rfl ?_) 
      refine r_op tabOk hnt rfl (s_move rfl ?_) 
      refine r_op tabOk hnt rfl (s_lenM (l := rows) tab_23 rfl (hM_sl (f := (encS 1 enc8)) rfl) ?_) 
      refine r_op tabOk hnt rfl (s_lss rfl rfl ?_) 
      refine r_op tabOk hnt rfl (s_move rfl ?_) 
      refine r_if tabOk hnt rfl rfl rfl (fun g1 => ?_) (fun g1 => ?_)
      ·
        have g1' := g1
        try simp only [decide_eq_true_eq, decide_eq_false_iff_not, Bool.not_eq_true', Bool.not_eq_false', Bool.not_true, Bool.not_false, Bool.not_eq_eq_eq_not, Int.not_lt, Int.not_le] at g1'
        refine r_op tabOk hnt rfl (s_move rfl ?_) 
        refine r_if tabOk hnt rfl rfl rfl (fun _ => ?_) (fun e => absurd (e.symm.trans g1) (by decide))
        refine r_op tabOk hnt rfl (s_lss rfl rfl ?_) 
        refine r_op tabOk hnt rfl (s_pick_t rfl g1 rfl ?_) 
        refine r_end ?_
        refine q_then ?_
        refine w_if rfl (fun c2 => ?_) (fun c2 => ?_)
        ·
          have c2_ := c2
          try simp only [decide_eq_true_eq, decide_eq_false_iff_not, Bool.not_eq_true', Bool.not_eq_false', Bool.not_true, Bool.not_false, Bool.not_eq_eq_eq_not, Int.not_lt, Int.not_le] at c2
          refine w_skip ?_
          refine q_then ?_
          refine w_seq ?_
          refine w_block ?_
          refine w_seq ?_
          refine w_R ?_
          refine r_op tabOk hnt rfl (s_move rfl ?_) 
          refine r_op tabOk hnt rfl (s_move rfl ?_) 
          refine r_op tabOk hnt rfl (s_move rfl ?_) 
          obtain ⟨e1, he1⟩ := get_of_lt rows (i := i) (by omega)
          refine r_op tabOk hnt rfl (s_iaM (q := i) (b := e1) (f := (encS 1 enc8)) tab_23 rfl tab_27 rfl rfl (by omega) rfl he1 ?_) 
          refine r_op tabOk hnt rfl (s_load_ro1 tab_27 rfl rfl rfl rfl ?_) 
          refine r_op tabOk hnt rfl (s_callX (r2 := pS 3 true eMsg ([] : List TMsg)) (nx1 := 1) (H2 := [(0, .obj [pS 1 false enc8 ([] : List UInt8), pB true])]) (H3 := [(0, .obj [pS 1 false enc8 ([] : List UInt8), pB true])]) [0] [.obj [pS 1 false enc8 ([] : List UInt8), pB true]] rfl rfl rfl (handed_of (by decide) ⟨rfl, trivial⟩) rfl rfl rfl rfl rfl rfl (w_mbap_Stream_Put_c ([] : List UInt8) false e1 false) rfl (dist_of rfl) rfl rfl rfl rfl ?_) 
          refine r_op tabOk hnt rfl (s_lenM (l := ([] : List TMsg)) tab_39 rfl (hM_sl (f := eMsg) rfl) ?_) 
          refine r_op tabOk hnt rfl (s_gtr rfl rfl ?_) 
          refine r_op tabOk hnt rfl (s_move rfl ?_) 
          refine r_if tabOk hnt rfl rfl rfl (fun g2 => ?_) (fun g2 => ?_)
          ·
            have g2' := g2
            try simp only [decide_eq_true_eq, decide_eq_false_iff_not, Bool.not_eq_true', Bool.not_eq_false', Bool.not_true, Bool.not_false, Bool.not_eq_eq_eq_not, Int.not_lt, Int.not_le] at g2'
            refine r_op tabOk hnt rfl (s_move rfl ?_) 
            refine r_if tabOk hnt rfl rfl rfl (fun _ => ?_) (fun e => absurd (e.symm.trans g2) (by decide))
            refine r_op tabOk hnt rfl (s_callX (r2 := pN (([] : List UInt8).length)) (nx1 := 1) (H2 := [(0, .obj [pS 1 false enc8 ([] : List UInt8), pB true])]) (H3 := [(0, .obj [pS 1 false enc8 ([] : List UInt8), pB true])]) [0] [.obj [pS 1 false enc8 ([] : List UInt8), pB true]] rfl rfl rfl (handed_of (by decide) ⟨rfl, trivial⟩) rfl rfl rfl rfl rfl rfl (w_mbap_Stream_Len ([] : List UInt8) false true) rfl (dist_of rfl) rfl rfl rfl rfl ?_) 
            refine r_if tabOk hnt rfl rfl rfl (fun _ => ?_) (fun e => absurd (e.symm.trans g2) (by decide))
            refine r_op tabOk hnt rfl (s_neq rfl rfl ?_) 
            refine r_op tabOk hnt rfl (s_pick_f rfl g2 rfl ?_) 
            refine r_op tabOk hnt rfl (s_move rfl ?_) 
            refine r_if tabOk hnt rfl rfl rfl (fun g3 => ?_) (fun g3 => ?_)
            ·
              have g3' := g3
              try simp only [decide_eq_true_eq, decide_eq_false_iff_not, Bool.not_eq_true', Bool.not_eq_false', Bool.not_true, Bool.not_false, Bool.not_eq_eq_eq_not, Int.not_lt, Int.not_le] at g3'
              refine r_op tabOk hnt rfl (s_move rfl ?_) 
              refine r_if tabOk hnt rfl rfl rfl (fun _ => ?_) (fun e => absurd (e.symm.trans g3) (by decide))
              refine r_op tabOk hnt rfl (s_callX (r2 := pB true) (nx1 := 1) (H2 := [(0, .obj [pS 1 false enc8 ([] : List UInt8), pB true])]) (H3 := [(0, .obj [pS 1 false enc8 ([] : List UInt8), pB true])]) [0] [.obj [pS 1 false enc8 ([] : List UInt8), pB true]] rfl rfl rfl (handed_of (by decide) ⟨rfl, trivial⟩) rfl rfl rfl rfl rfl rfl (w_mbap_Stream_Closed ([] : List UInt8) false true) rfl (dist_of rfl) rfl rfl rfl rfl ?_) 
              refine r_if tabOk hnt rfl rfl rfl (fun _ => ?_) (fun e => absurd (e.symm.trans g3) (by decide))
              refine r_op tabOk hnt rfl (s_not rfl ?_) 
              refine r_op tabOk hnt rfl (s_pick_f rfl g3 rfl ?_) 
              refine r_set [(0, pS 1 cl_rows (encS 1 enc8) rows), (1, pS 1 cl_h enc8 h), (5, PV.ptr 0 0), (6, pN i), (23, pN i), (24, pB (decide (((i : Nat) : Int) < 20))), (37, PV.ptr 0 0), (38, pN (([] : List UInt8).length)), (39, pB (!decide (((([] : List UInt8).length : Nat) : Int) = 0))), (42, PV.ptr 0 0), (43, pB true), (44, pB (!true)), (45, pB (!true))] [(0, .obj [pS 1 false enc8 ([] : List UInt8), pB true])] 1 ⟨rfl, rfl, rfl, rfl, rfl, rfl, rfl, rfl, rfl, rfl, rfl, rfl, rfl, trivial⟩ rfl rfl ?_
              refine r_end ?_
              refine q_then ?_
              refine w_if rfl (fun c3 => ?_) (fun c3 => ?_)
              ·
                have c3_ := c3
                exact absurd c3 (by simp)
              ·
                have c3_ := c3
                try simp only [decide_eq_true_eq, decide_eq_false_iff_not, Bool.not_eq_true', Bool.not_eq_false', Bool.not_true, Bool.not_false, Bool.not_eq_eq_eq_not, Int.not_lt, Int.not_le] at c3
                refine w_skip ?_
                refine q_block ?_
                refine q_then ?_
                refine w_R ?_
                refine r_op tabOk hnt rfl (s_move rfl ?_) 
                refine r_op tabOk hnt rfl (s_addN (a := i) (b := 1) rfl rfl (by omega) (by omega) (by omega) ?_) 
                refine r_op tabOk hnt rfl (s_assign rfl ?_) 
                refine r_end ?_
                refine q_then ?_
                refine ⟨(i + 1), ?_, ?_, ⟨[(0, 0)], by rw [hk]; decide, ⟨⟨_, rfl, rfl, rfl⟩, ⟨_, rfl, rfl, rfl⟩, ⟨_, rfl, rfl, rfl⟩, ⟨_, rfl, rfl, rfl⟩, trivial⟩, ⟨⟨_, _, rfl, rfl, rfl, rfl⟩, trivial⟩, by rw [hk]; decide⟩⟩
                ·
                  omega
                · omega
            ·
              exact absurd g3 (by simp)
          ·
            exact absurd g2 (by simp)
        ·
          have c2_ := c2
          try simp only [decide_eq_true_eq, decide_eq_false_iff_not, Bool.not_eq_true', Bool.not_eq_false', Bool.not_true, Bool.not_false, Bool.not_eq_eq_eq_not, Int.not_lt, Int.not_le] at c2
          refine w_exit ?_
          refine q_then_exit ?_
          refine q_then_exit ?_
          refine q_block_exit ?_
          refine q_then ?_
          refine w_seq ?_
          refine w_R ?_
          refine r_op tabOk hnt rfl (s_move rfl ?_) 
          refine r_op tabOk hnt rfl (s_callX (r2 := PV.tup []) (nx1 := 1) (H2 := [(0, .obj [pS 1 false enc8 ([] : List UInt8), pB true])]) (H3 := [(0, .obj [pS 1 false enc8 ([] : List UInt8), pB false])]) [0] [.obj [pS 1 false enc8 ([] : List UInt8), pB true]] rfl rfl rfl (handed_of (by decide) ⟨rfl, trivial⟩) rfl rfl rfl rfl rfl rfl (w_mbap_Stream_Open ([] : List UInt8) false true) rfl (dist_of rfl) rfl rfl rfl rfl ?_) 
          refine r_set [(1, pS 1 cl_h enc8 h), (5, PV.ptr 0 0)] [(0, .obj [pS 1 false enc8 ([] : List UInt8), pB false])] 1 ⟨rfl, rfl, trivial⟩ rfl rfl ?_
          refine r_end ?_
          refine q_then ?_
          refine w_seq ?_
          refine w_R ?_
          refine r_op tabOk hnt rfl (s_mkM (f := enc8) ([1] : List UInt8) tab_27 rfl tab_5 ⟨rfl, by decide⟩ (by decide) rfl rfl rfl rfl ?_) 
          refine r_op tabOk hnt rfl (s_move rfl ?_) 
          refine r_op tabOk hnt rfl (s_move rfl ?_) 
          refine r_op tabOk hnt rfl (s_lenM (l := h) tab_27 rfl (hM_sl (f := enc8) rfl) ?_) 
          refine r_op tabOk hnt rfl (s_minN (a := h.length) (b := 60) rfl (by omega) (by omega) ?_) 
          refine r_op tabOk hnt rfl (s_cutM_hi (b := min h.length 60) (f := enc8) (l := h) tab_27 rfl tab_5 ⟨rfl, by decide⟩ rfl (bound_some rfl (by omega)) (by omega) ?_) 
          refine r_op tabOk hnt rfl (s_appR0 (f := enc8) (l := ([1] : List UInt8)) (xs := h.take (min h.length 60)) tab_27 rfl tab_5 ⟨rfl, by decide, by decide⟩ (srcM tab_27 rfl (hM_sl (f := enc8) rfl)) rfl rfl (by first | omega | (simp; omega)) ?_) 
          refine r_op tabOk hnt rfl (s_build tab_30 rfl rfl (b_cons rfl tab_3 rfl rfl rfl (Nat.le_of_ble_eq_true rfl) (b_cons rfl tab_3 rfl rfl rfl (Nat.le_of_ble_eq_true rfl) (b_cons rfl tab_27 rfl rfl rfl (Nat.le_of_ble_eq_true rfl) (b_nil ?_))))) 
          refine r_op tabOk hnt rfl (s_alloc tab_30 ?_) 
          refine r_op tabOk hnt rfl (s_store_ptr tab_30 rfl rfl rfl rfl rfl (Nat.le_of_ble_eq_true rfl) ?_) 
          refine r_set [(5, PV.ptr 0 0), (7, PV.ptr 3 0)] [(3, .obj [pI 5, pI 9, PV.ref 2 0 none]), (2, oB true 1 enc8 (([1] : List UInt8) ++ (h.take (min h.length 60)))), (0, .obj [pS 1 false enc8 ([] : List UInt8), pB false])] 4 ⟨rfl, rfl, trivial⟩ rfl rfl ?_
          refine r_end ?_
          refine q_then ?_
          refine w_seq ?_
          refine w_R ?_
          refine r_op tabOk hnt rfl (s_move rfl ?_) 
          refine r_op tabOk hnt rfl (s_load_ptr tab_30 rfl rfl rfl (Nat.le_of_ble_eq_true rfl) ?_) 
          refine r_op tabOk hnt rfl (s_callX (r2 := pS 1 true enc8 (bytesM (⟨5, 9, ([1] : List UInt8) ++ (h.take (min h.length 60))⟩ : TMsg))) (nx1 := 4) (H2 := [(2, oB false 1 enc8 (([1] : List UInt8) ++ (h.take (min h.length 60)))), (3, .obj [pI 5, pI 9, PV.ref 2 0 none]), (0, .obj [pS 1 false enc8 ([] : List UInt8), pB false])]) (H3 := [(2, oB false 1 enc8 (([1] : List UInt8) ++ (h.take (min h.length 60)))), (3, .obj [pI 5, pI 9, PV.ref 2 0 none]), (0, .obj [pS 1 false enc8 ([] : List UInt8), pB false])]) [] [] rfl rfl rfl (handed_of (by decide) trivial) rfl rfl rfl rfl rfl rfl (w_mbap_Bytes (⟨5, 9, ([1] : List UInt8) ++ (h.take (min h.length 60))⟩ : TMsg) (by first | omega | assumption | (simp; omega) | decide | (simp; done))) rfl (dist_of rfl) rfl rfl rfl rfl ?_) 
          refine r_op tabOk hnt rfl (s_callX (r2 := pS 3 true eMsg ((putV ([] : List UInt8) false (bytesM (⟨5, 9, ([1] : List UInt8) ++ (h.take (min h.length 60))⟩ : TMsg))).1)) (nx1 := 4) (H2 := [(2, oB false 1 enc8 (([1] : List UInt8) ++ (h.take (min h.length 60)))), (3, .obj [pI 5, pI 9, PV.ref 2 0 none]), (0, .obj [pS 1 false enc8 ([] : List UInt8), pB false])]) (H3 := [(0, .obj [pS 1 false enc8 ((putV ([] : List UInt8) false (bytesM (⟨5, 9, ([1] : List UInt8) ++ (h.take (min h.length 60))⟩ : TMsg))).2.1), pB ((putV ([] : List UInt8) false (bytesM (⟨5, 9, ([1] : List UInt8) ++ (h.take (min h.length 60))⟩ : TMsg))).2.2)]), (2, oB false 1 enc8 (([1] : List UInt8) ++ (h.take (min h.length 60)))), (3, .obj [pI 5, pI 9, PV.ref 2 0 none])]) [0] [.obj [pS 1 false enc8 ([] : List UInt8), pB false]] rfl rfl rfl (handed_of (by decide) ⟨rfl, trivial⟩) rfl rfl rfl rfl rfl rfl (w_mbap_Stream_Put ([] : List UInt8) false false (bytesM (⟨5, 9, ([1] : List UInt8) ++ (h.take (min h.length 60))⟩ : TMsg)) true (by have := bytesM_le (⟨5, 9, [1] ++ h.take (min h.length 60)⟩ : TMsg); simp only [List.length_nil]; omega)) rfl (dist_of rfl) rfl rfl rfl rfl ?_) 
          refine r_op tabOk hnt rfl (s_assign rfl ?_) 
          refine r_set [(5, PV.ptr 0 0), (7, PV.ptr 3 0), (8, pS 3 true eMsg ((putV ([] : List UInt8) false (bytesM (⟨5, 9, ([1] : List UInt8) ++ (h.take (min h.length 60))⟩ : TMsg))).1))] [(0, .obj [pS 1 false enc8 ((putV ([] : List UInt8) false (bytesM (⟨5, 9, ([1] : List UInt8) ++ (h.take (min h.length 60))⟩ : TMsg))).2.1), pB ((putV ([] : List UInt8) false (bytesM (⟨5, 9, ([1] : List UInt8) ++ (h.take (min h.length 60))⟩ : TMsg))).2.2)]), (2, oB false 1 enc8 (([1] : List UInt8) ++ (h.take (min h.length 60)))), (3, .obj [pI 5, pI 9, PV.ref 2 0 none])] 4 ⟨rfl, rfl, rfl, trivial⟩ rfl rfl ?_
          refine r_end ?_
          refine q_then ?_
          refine w_seq ?_
          have hwh := put_whole (m := (⟨5, 9, [1] ++ h.take (min h.length 60)⟩ : TMsg)) (by simp only; omega) (by simp only; omega) (by simp; omega)
          refine w_eq (s := 8) (y := pS 3 true eMsg ([(⟨5, 9, [1] ++ h.take (min h.length 60)⟩ : TMsg)])) rfl (congrArg (fun z => pS 3 true eMsg z) (show ((putV ([] : List UInt8) false (bytesM (⟨5, 9, ([1] : List UInt8) ++ (h.take (min h.length 60))⟩ : TMsg))).1) = ([(⟨5, 9, [1] ++ h.take (min h.length 60)⟩ : TMsg)]) by rw [hwh])) ?_
          refine w_leC (n := 0) (j := 0) (y := pS 1 false enc8 ([] : List UInt8)) rfl rfl (le_of_eq (congrArg (fun z => pS 1 false enc8 z) (show ((putV ([] : List UInt8) false (bytesM (⟨5, 9, ([1] : List UInt8) ++ (h.take (min h.length 60))⟩ : TMsg))).2.1) = ([] : List UInt8) by rw [hwh]))) ?_
          refine w_leC (n := 0) (j := 1) (y := pB false) rfl rfl (le_of_eq (congrArg (fun z : Bool => pB z) (show ((putV ([] : List UInt8) false (bytesM (⟨5, 9, ([1] : List UInt8) ++ (h.take (min h.length 60))⟩ : TMsg))).2.2) = false by rw [hwh]))) ?_
          refine W_drawn tabOk mixed hnt [[], [0], [0, 1], [0, 1, 2], [0, 1, 2, 3], [0, 1, 2, 3, 4], [0, 1, 2, 3, 4, 5], [0, 1, 2, 3, 4, 5, 6], [0, 1, 2, 3, 4, 5, 6, 7], [0, 1, 2, 3, 4, 5, 6, 7, 8], [0, 1, 2, 3, 4, 5, 6, 7, 8, 9], [0, 1, 2, 3, 4, 5, 6, 7, 8, 9, 10], [0, 1, 2, 3, 4, 5, 6, 7, 8, 9, 10, 11], [0, 1, 2, 3, 4, 5, 6, 7, 8, 9, 10, 11, 12], [0, 1, 2, 3, 4, 5, 6, 7, 8, 9, 10, 11, 12, 13], [0, 1, 2, 3, 4, 5, 6, 7, 8, 9, 10, 11, 12, 13, 14], [0, 1, 2, 3, 4, 5, 6, 7, 8, 9, 10, 11, 12, 13, 14, 15], [0, 1, 2, 3, 4, 5, 6, 7, 8, 9, 10, 11, 12, 13, 14, 15, 16], [0, 1, 2, 3, 4, 5, 6, 7, 8, 9, 10, 11, 12, 13, 14, 15, 16, 17], [0, 1, 2, 3, 4, 5, 6, 7, 8, 9, 10, 11, 12, 13, 14, 15, 16, 17, 18], [0, 1, 2, 3, 4, 5, 6, 7, 8, 9, 10, 11, 12, 13, 14, 15, 16, 17, 18, 19], [0, 1, 2, 3, 4, 5, 6, 7, 8, 9, 10, 11, 12, 13, 14, 15, 16, 17, 18, 19, 20], [0, 1, 2, 3, 4, 5, 6, 7, 8, 9, 10, 11, 12, 13, 14, 15, 16, 17, 18, 19, 20, 21], [0, 1, 2, 3, 4, 5, 6, 7, 8, 9, 10, 11, 12, 13, 14, 15, 16, 17], [0, 1, 2, 3, 4, 5, 6, 7, 8, 9, 10, 11, 12, 13, 14, 15, 16, 17, 23], [0, 1, 2, 3, 4, 5, 6, 7, 8, 9, 10, 11, 12, 13, 14, 15, 16, 17, 23, 24], [0, 1, 2, 3, 4, 5, 6, 7, 8, 9, 10, 11, 12, 13, 14, 15, 16, 17, 18, 19, 20, 21, 22, 23, 24, 25], [0, 1, 2, 3, 4, 5, 6, 7, 8, 9, 10, 11, 12, 13, 14, 15, 16, 17, 18, 19, 20, 21, 22, 23, 24, 25, 26], [0, 1, 2, 3, 4, 5, 6, 7, 8, 9, 10, 11, 12, 13, 14, 15, 16, 17, 18, 19, 20, 21, 22, 23, 24, 25, 26, 27], [0, 1, 2, 3, 4, 5, 6, 7, 8, 9, 10, 11, 12, 13, 14, 15, 16, 17, 18, 19, 20, 21, 22, 23, 24, 25, 26, 27, 28], [0, 1, 2, 3, 4, 5, 6, 7, 8, 9, 10, 11, 12, 13, 14, 15, 16, 17, 18, 19, 20, 21, 22, 23, 24, 25, 26, 27, 28, 29], [0, 1, 2, 3, 4, 5, 6, 7, 8, 9, 10, 11, 12, 13, 14, 15, 16, 17, 18, 19, 20, 21, 22, 23, 24, 25, 26, 27, 28, 29, 30], [0, 1, 2, 3, 4, 5, 6, 7, 8, 9, 10, 11, 12, 13, 14, 15, 16, 17, 18, 19, 20, 21, 22, 23, 24, 25, 26, 27, 28, 29, 30, 31], [0, 1, 2, 3, 4, 5, 6, 7, 8, 9, 10, 11, 12, 13, 14, 15, 16, 17, 18, 19, 20, 21, 22, 23, 24, 25, 26, 27, 28, 29, 30, 31, 32], [0, 1, 2, 3, 4, 5, 6, 7, 8, 9, 10, 11, 12, 13, 14, 15, 16, 17, 18, 19, 20, 21, 22, 23, 24, 25, 26, 27, 28, 29, 30, 31, 32, 33], [0, 1, 2, 3, 4, 5, 6, 7, 8, 9, 10, 11, 12, 13, 14, 15, 16, 17, 18, 19, 20, 21, 22, 23, 24, 25, 26, 27, 28, 29, 30, 31, 32, 33, 34], [0, 1, 2, 3, 4, 5, 6, 7, 8, 9, 10, 11, 12, 13, 14, 15, 16, 17, 18, 19, 20, 21, 22, 23, 24, 25, 26, 27, 28, 29, 30, 31, 32, 33, 34, 35], [0, 1, 2, 3, 4, 5, 6, 7, 8, 9, 10, 11, 12, 13, 14, 15, 16, 17, 18, 19, 20, 21, 22, 23, 24, 25, 26, 27, 28, 29, 30, 31, 32, 33, 34, 35, 36], [0, 1, 2, 3, 4, 5, 6, 7, 8, 9, 10, 11, 12, 13, 14, 15, 16, 17, 18, 19, 20, 21, 22, 23, 24, 25, 26, 27, 28, 29, 30, 31, 32, 33, 34, 35, 36, 37], [0, 1, 2, 3, 4, 5, 6, 7, 8, 9, 10, 11, 12, 13, 14, 15, 16, 17, 18, 19, 20, 21, 22, 23, 24, 25, 26, 27, 28, 29, 30, 31, 32, 33, 34, 35, 36, 37, 38], [0, 1, 2, 3, 4, 5, 6, 7, 8, 9, 10, 11, 12, 13, 14, 15, 16, 17, 18, 19, 20, 21, 22, 23, 24, 25, 26, 27, 28, 29, 30, 31, 32, 33, 34, 35, 36, 37, 38, 39], [0, 1, 2, 3, 4, 5, 6, 7, 8, 9, 10, 11, 12, 13, 14, 15, 16, 17, 18, 19, 20, 21, 22, 23, 24, 25, 26, 27, 28, 29, 30, 31, 32, 33, 34, 35, 36, 37, 38, 39, 40]] (by kernel_rfl) ?_
          refine d_op ?_
          refine x_run0 [(8, pS 3 true eMsg ([(⟨5, 9, [1] ++ h.take (min h.length 60)⟩ : TMsg)]))] [] rfl rfl rfl rfl (s_move rfl ⟨rfl, rfl, rfl⟩) ?_
          refine d_op ?_
          refine x_run0 [(60, pS 3 true eMsg ([(⟨5, 9, [1] ++ h.take (min h.length 60)⟩ : TMsg)]))] [0] rfl rfl rfl rfl (s_lenM (l := [(⟨5, 9, [1] ++ h.take (min h.length 60)⟩ : TMsg)]) tab_39 rfl (hM_sl (f := eMsg) rfl) ⟨rfl, rfl, rfl⟩) ?_
          refine d_op ?_
          refine x_run0 [(61, pN (([(⟨5, 9, [1] ++ h.take (min h.length 60)⟩ : TMsg)]).length))] [0, 1] rfl rfl rfl rfl (s_eql rfl rfl ⟨rfl, rfl, rfl⟩) ?_
          refine d_op ?_
          refine x_run0 [(62, pB (decide (((([(⟨5, 9, [1] ++ h.take (min h.length 60)⟩ : TMsg)]).length : Nat) : Int) = 1)))] [0, 1, 2] rfl rfl rfl rfl (s_move rfl ⟨rfl, rfl, rfl⟩) ?_
          refine x_if [(63, pB (decide (((([(⟨5, 9, [1] ++ h.take (min h.length 60)⟩ : TMsg)]).length : Nat) : Int) = 1))), (8, pS 3 true eMsg ([(⟨5, 9, [1] ++ h.take (min h.length 60)⟩ : TMsg)]))] [0, 1, 2, 3] rfl rfl rfl rfl (fun g4 => ?_) (fun g4 => ?_)
          ·
            have g4' := g4
            try simp only [decide_eq_true_eq, decide_eq_false_iff_not, Bool.not_eq_true', Bool.not_eq_false', Bool.not_true, Bool.not_false, Bool.not_eq_eq_eq_not, Int.not_lt, Int.not_le] at g4'
            refine x_run0 [(63, pB (decide (((([(⟨5, 9, [1] ++ h.take (min h.length 60)⟩ : TMsg)]).length : Nat) : Int) = 1))), (8, pS 3 true eMsg ([(⟨5, 9, [1] ++ h.take (min h.length 60)⟩ : TMsg)]))] [0, 1, 2, 3] rfl rfl rfl rfl (s_move rfl ⟨rfl, rfl, rfl⟩) ?_
            refine x_if [(63, pB (decide (((([(⟨5, 9, [1] ++ h.take (min h.length 60)⟩ : TMsg)]).length : Nat) : Int) = 1))), (64, pS 3 true eMsg ([(⟨5, 9, [1] ++ h.take (min h.length 60)⟩ : TMsg)]))] [0, 1, 2, 3, 4] rfl rfl rfl rfl (fun _ => ?_) (fun e => absurd (e.symm.trans g4) (by decide))
            obtain ⟨e2, he2⟩ := get_of_lt ([(⟨5, 9, [1] ++ h.take (min h.length 60)⟩ : TMsg)]) (i := 0) (by omega)
            refine x_run0 [(63, pB (decide (((([(⟨5, 9, [1] ++ h.take (min h.length 60)⟩ : TMsg)]).length : Nat) : Int) = 1))), (64, pS 3 true eMsg ([(⟨5, 9, [1] ++ h.take (min h.length 60)⟩ : TMsg)]))] [0, 1, 2, 3, 4] rfl rfl rfl rfl (s_iaM (q := 0) (b := e2) (f := eMsg) tab_39 rfl tab_30 rfl rfl (by omega) rfl he2 ⟨rfl, rfl, rfl⟩) ?_
            refine x_if [(63, pB (decide (((([(⟨5, 9, [1] ++ h.take (min h.length 60)⟩ : TMsg)]).length : Nat) : Int) = 1))), (65, PV.f (.ro (eMsg e2)))] [0, 1, 2, 3, 4, 5] rfl rfl rfl rfl (fun _ => ?_) (fun e => absurd (e.symm.trans g4) (by decide))
            refine x_run0 [(63, pB (decide (((([(⟨5, 9, [1] ++ h.take (min h.length 60)⟩ : TMsg)]).length : Nat) : Int) = 1))), (65, PV.f (.ro (eMsg e2)))] [0, 1, 2, 3, 4, 5] rfl rfl rfl rfl (s_fa_ro tab_30 rfl rfl tab_3 (by decide) rfl (Nat.le_of_ble_eq_true rfl) (by intro _; rfl) ⟨rfl, rfl, rfl⟩) ?_
            refine x_if [(63, pB (decide (((([(⟨5, 9, [1] ++ h.take (min h.length 60)⟩ : TMsg)]).length : Nat) : Int) = 1))), (66, PV.f (.ro (encI e2.id)))] [0, 1, 2, 3, 4, 5, 6] rfl rfl rfl rfl (fun _ => ?_) (fun e => absurd (e.symm.trans g4) (by decide))
            refine x_run0 [(63, pB (decide (((([(⟨5, 9, [1] ++ h.take (min h.length 60)⟩ : TMsg)]).length : Nat) : Int) = 1))), (66, PV.f (.ro (encI e2.id)))] [0, 1, 2, 3, 4, 5, 6] rfl rfl rfl rfl (s_load_ro1 tab_3 rfl rfl rfl rfl ⟨rfl, rfl, rfl⟩) ?_
            refine x_if [(63, pB (decide (((([(⟨5, 9, [1] ++ h.take (min h.length 60)⟩ : TMsg)]).length : Nat) : Int) = 1))), (67, pI e2.id)] [0, 1, 2, 3, 4, 5, 6, 7] rfl rfl rfl rfl (fun _ => ?_) (fun e => absurd (e.symm.trans g4) (by decide))
            refine x_run0 [(63, pB (decide (((([(⟨5, 9, [1] ++ h.take (min h.length 60)⟩ : TMsg)]).length : Nat) : Int) = 1))), (67, pI e2.id)] [0, 1, 2, 3, 4, 5, 6, 7] rfl rfl rfl rfl (s_eql rfl rfl ⟨rfl, rfl, rfl⟩) ?_
            refine d_op ?_
            refine x_run0 [(63, pB (decide (((([(⟨5, 9, [1] ++ h.take (min h.length 60)⟩ : TMsg)]).length : Nat) : Int) = 1))), (68, pB (decide (e2.id = 5)))] [0, 1, 2, 3, 4, 5, 6, 7, 8] rfl rfl rfl rfl (s_pick_t rfl g4 rfl ⟨rfl, rfl, rfl⟩) ?_
            refine d_op ?_
            refine x_run0 [(69, pB (decide (e2.id = 5)))] [0, 1, 2, 3, 4, 5, 6, 7, 8, 9] rfl rfl rfl rfl (s_move rfl ⟨rfl, rfl, rfl⟩) ?_
            refine x_if [(70, pB (decide (e2.id = 5))), (8, pS 3 true eMsg ([(⟨5, 9, [1] ++ h.take (min h.length 60)⟩ : TMsg)]))] [0, 1, 2, 3, 4, 5, 6, 7, 8, 9, 10] rfl rfl rfl rfl (fun g5 => ?_) (fun g5 => ?_)
            ·
              have g5' := g5
              try simp only [decide_eq_true_eq, decide_eq_false_iff_not, Bool.not_eq_true', Bool.not_eq_false', Bool.not_true, Bool.not_false, Bool.not_eq_eq_eq_not, Int.not_lt, Int.not_le] at g5'
              refine x_run0 [(70, pB (decide (e2.id = 5))), (8, pS 3 true eMsg ([(⟨5, 9, [1] ++ h.take (min h.length 60)⟩ : TMsg)]))] [0, 1, 2, 3, 4, 5, 6, 7, 8, 9, 10] rfl rfl rfl rfl (s_move rfl ⟨rfl, rfl, rfl⟩) ?_
              refine x_if [(70, pB (decide (e2.id = 5))), (71, pS 3 true eMsg ([(⟨5, 9, [1] ++ h.take (min h.length 60)⟩ : TMsg)]))] [0, 1, 2, 3, 4, 5, 6, 7, 8, 9, 10, 11] rfl rfl rfl rfl (fun _ => ?_) (fun e => absurd (e.symm.trans g5) (by decide))
              refine x_run0 [(70, pB (decide (e2.id = 5))), (71, pS 3 true eMsg ([(⟨5, 9, [1] ++ h.take (min h.length 60)⟩ : TMsg)]))] [0, 1, 2, 3, 4, 5, 6, 7, 8, 9, 10, 11] rfl rfl rfl rfl (s_iaM (q := 0) (b := e2) (f := eMsg) tab_39 rfl tab_30 rfl rfl (by omega) rfl he2 ⟨rfl, rfl, rfl⟩) ?_
              refine x_if [(70, pB (decide (e2.id = 5))), (72, PV.f (.ro (eMsg e2)))] [0, 1, 2, 3, 4, 5, 6, 7, 8, 9, 10, 11, 12] rfl rfl rfl rfl (fun _ => ?_) (fun e => absurd (e.symm.trans g5) (by decide))
              refine x_run0 [(70, pB (decide (e2.id = 5))), (72, PV.f (.ro (eMsg e2)))] [0, 1, 2, 3, 4, 5, 6, 7, 8, 9, 10, 11, 12] rfl rfl rfl rfl (s_fa_ro tab_30 rfl rfl tab_3 (by decide) rfl (Nat.le_of_ble_eq_true rfl) (by intro _; rfl) ⟨rfl, rfl, rfl⟩) ?_
              refine x_if [(70, pB (decide (e2.id = 5))), (73, PV.f (.ro (encI e2.unit)))] [0, 1, 2, 3, 4, 5, 6, 7, 8, 9, 10, 11, 12, 13] rfl rfl rfl rfl (fun _ => ?_) (fun e => absurd (e.symm.trans g5) (by decide))
              refine x_run0 [(70, pB (decide (e2.id = 5))), (73, PV.f (.ro (encI e2.unit)))] [0, 1, 2, 3, 4, 5, 6, 7, 8, 9, 10, 11, 12, 13] rfl rfl rfl rfl (s_load_ro1 tab_3 rfl rfl rfl rfl ⟨rfl, rfl, rfl⟩) ?_
              refine x_if [(70, pB (decide (e2.id = 5))), (74, pI e2.unit)] [0, 1, 2, 3, 4, 5, 6, 7, 8, 9, 10, 11, 12, 13, 14] rfl rfl rfl rfl (fun _ => ?_) (fun e => absurd (e.symm.trans g5) (by decide))
              refine x_run0 [(70, pB (decide (e2.id = 5))), (74, pI e2.unit)] [0, 1, 2, 3, 4, 5, 6, 7, 8, 9, 10, 11, 12, 13, 14] rfl rfl rfl rfl (s_eql rfl rfl ⟨rfl, rfl, rfl⟩) ?_
              refine d_op ?_
              refine x_run0 [(70, pB (decide (e2.id = 5))), (75, pB (decide (e2.unit = 9)))] [0, 1, 2, 3, 4, 5, 6, 7, 8, 9, 10, 11, 12, 13, 14, 15] rfl rfl rfl rfl (s_pick_t rfl g5 rfl ⟨rfl, rfl, rfl⟩) ?_
              refine d_op ?_
              refine x_run0 [(76, pB (decide (e2.unit = 9)))] [0, 1, 2, 3, 4, 5, 6, 7, 8, 9, 10, 11, 12, 13, 14, 15, 16] rfl rfl rfl rfl (s_move rfl ⟨rfl, rfl, rfl⟩) ?_
              refine x_if [(77, pB (decide (e2.unit = 9))), (8, pS 3 true eMsg ([(⟨5, 9, [1] ++ h.take (min h.length 60)⟩ : TMsg)]))] [0, 1, 2, 3, 4, 5, 6, 7, 8, 9, 10, 11, 12, 13, 14, 15, 16, 17] rfl rfl rfl rfl (fun g6 => ?_) (fun g6 => ?_)
              ·
                have g6' := g6
                try simp only [decide_eq_true_eq, decide_eq_false_iff_not, Bool.not_eq_true', Bool.not_eq_false', Bool.not_true, Bool.not_false, Bool.not_eq_eq_eq_not, Int.not_lt, Int.not_le] at g6'
                refine x_run0 [(77, pB (decide (e2.unit = 9))), (8, pS 3 true eMsg ([(⟨5, 9, [1] ++ h.take (min h.length 60)⟩ : TMsg)]))] [0, 1, 2, 3, 4, 5, 6, 7, 8, 9, 10, 11, 12, 13, 14, 15, 16, 17] rfl rfl rfl rfl (s_move rfl ⟨rfl, rfl, rfl⟩) ?_
                refine x_if [(77, pB (decide (e2.unit = 9))), (78, pS 3 true eMsg ([(⟨5, 9, [1] ++ h.take (min h.length 60)⟩ : TMsg)]))] [0, 1, 2, 3, 4, 5, 6, 7, 8, 9, 10, 11, 12, 13, 14, 15, 16, 17, 18] rfl rfl rfl rfl (fun _ => ?_) (fun e => absurd (e.symm.trans g6) (by decide))
                refine x_run0 [(77, pB (decide (e2.unit = 9))), (78, pS 3 true eMsg ([(⟨5, 9, [1] ++ h.take (min h.length 60)⟩ : TMsg)]))] [0, 1, 2, 3, 4, 5, 6, 7, 8, 9, 10, 11, 12, 13, 14, 15, 16, 17, 18] rfl rfl rfl rfl (s_iaM (q := 0) (b := e2) (f := eMsg) tab_39 rfl tab_30 rfl rfl (by omega) rfl he2 ⟨rfl, rfl, rfl⟩) ?_
                refine x_if [(77, pB (decide (e2.unit = 9))), (79, PV.f (.ro (eMsg e2)))] [0, 1, 2, 3, 4, 5, 6, 7, 8, 9, 10, 11, 12, 13, 14, 15, 16, 17, 18, 19] rfl rfl rfl rfl (fun _ => ?_) (fun e => absurd (e.symm.trans g6) (by decide))
                refine x_run0 [(77, pB (decide (e2.unit = 9))), (79, PV.f (.ro (eMsg e2)))] [0, 1, 2, 3, 4, 5, 6, 7, 8, 9, 10, 11, 12, 13, 14, 15, 16, 17, 18, 19] rfl rfl rfl rfl (s_fa_ro tab_30 rfl rfl tab_27 (by decide) rfl (Nat.le_of_ble_eq_true rfl) (by intro _; rfl) ⟨rfl, rfl, rfl⟩) ?_
                refine x_if [(77, pB (decide (e2.unit = 9))), (80, PV.f (.ro (FV.sl 1 false (List.map enc8 e2.pdu))))] [0, 1, 2, 3, 4, 5, 6, 7, 8, 9, 10, 11, 12, 13, 14, 15, 16, 17, 18, 19, 20] rfl rfl rfl rfl (fun _ => ?_) (fun e => absurd (e.symm.trans g6) (by decide))
                refine x_run0 [(77, pB (decide (e2.unit = 9))), (80, PV.f (.ro (FV.sl 1 false (List.map enc8 e2.pdu))))] [0, 1, 2, 3, 4, 5, 6, 7, 8, 9, 10, 11, 12, 13, 14, 15, 16, 17, 18, 19, 20] rfl rfl rfl rfl (s_load_ro1 tab_27 rfl rfl rfl rfl ⟨rfl, rfl, rfl⟩) ?_
                refine x_if [(77, pB (decide (e2.unit = 9))), (81, pS 1 false enc8 e2.pdu)] [0, 1, 2, 3, 4, 5, 6, 7, 8, 9, 10, 11, 12, 13, 14, 15, 16, 17, 18, 19, 20, 21] rfl rfl rfl rfl (fun _ => ?_) (fun e => absurd (e.symm.trans g6) (by decide))
                refine x_run0 [(77, pB (decide (e2.unit = 9))), (81, pS 1 false enc8 e2.pdu)] [0, 1, 2, 3, 4, 5, 6, 7, 8, 9, 10, 11, 12, 13, 14, 15, 16, 17, 18, 19, 20, 21] rfl rfl rfl rfl (s_cvT tab_27 tab_9 rfl tab_5 rfl rfl (hM_sl (f := enc8) rfl) ⟨rfl, rfl, rfl⟩) ?_
                refine x_if [(77, pB (decide (e2.unit = 9))), (7, PV.ptr 3 0)] [0, 1, 2, 3, 4, 5, 6, 7, 8, 9, 10, 11, 12, 13, 14, 15, 16, 17] rfl rfl rfl rfl (fun _ => ?_) (fun e => absurd (e.symm.trans g6) (by decide))
                refine x_run0 [(77, pB (decide (e2.unit = 9))), (7, PV.ptr 3 0)] [0, 1, 2, 3, 4, 5, 6, 7, 8, 9, 10, 11, 12, 13, 14, 15, 16, 17] rfl rfl rfl rfl (s_fa_ptr tab_30 rfl rfl tab_27 (by decide) rfl ⟨rfl, rfl, rfl⟩) ?_
                refine x_if [(77, pB (decide (e2.unit = 9))), (83, PV.ptr 3 2)] [0, 1, 2, 3, 4, 5, 6, 7, 8, 9, 10, 11, 12, 13, 14, 15, 16, 17, 23] rfl rfl rfl rfl (fun _ => ?_) (fun e => absurd (e.symm.trans g6) (by decide))
                refine x_run [(77, pB (decide (e2.unit = 9))), (83, PV.ptr 3 2)] [0, 1, 2, 3, 4, 5, 6, 7, 8, 9, 10, 11, 12, 13, 14, 15, 16, 17, 23] [(3, .obj [pI 5, pI 9, PV.ref 2 0 none])] [] [(3, .obj [pI 5, pI 9, PV.ref 2 0 none])] [] [(0, .obj [pS 1 false enc8 ([] : List UInt8), pB false]), (2, oB false 1 enc8 (([1] : List UInt8) ++ (h.take (min h.length 60)))), (3, .obj [pI 5, pI 9, PV.ref 2 0 none])] rfl rfl rfl rfl rfl rfl (s_load_ptr1 tab_27 rfl rfl rfl rfl rfl ⟨rfl, rfl, rfl⟩) rfl ⟨rfl, trivial⟩ rfl rfl ?_
                refine x_if [(77, pB (decide (e2.unit = 9))), (84, PV.ref 2 0 none)] [0, 1, 2, 3, 4, 5, 6, 7, 8, 9, 10, 11, 12, 13, 14, 15, 16, 17, 23, 24] rfl rfl rfl rfl (fun _ => ?_) (fun e => absurd (e.symm.trans g6) (by decide))
                refine x_run [(77, pB (decide (e2.unit = 9))), (84, PV.ref 2 0 none)] [0, 1, 2, 3, 4, 5, 6, 7, 8, 9, 10, 11, 12, 13, 14, 15, 16, 17, 23, 24] [(2, oB false 1 enc8 (([1] : List UInt8) ++ (h.take (min h.length 60))))] [] [(2, oB false 1 enc8 (([1] : List UInt8) ++ (h.take (min h.length 60))))] [] [(0, .obj [pS 1 false enc8 ([] : List UInt8), pB false]), (2, oB false 1 enc8 (([1] : List UInt8) ++ (h.take (min h.length 60)))), (3, .obj [pI 5, pI 9, PV.ref 2 0 none])] rfl rfl rfl rfl rfl rfl (s_cvT tab_27 tab_9 rfl tab_5 rfl rfl (hM_ref0 (f := enc8) rfl rfl) ⟨rfl, rfl, rfl⟩) rfl ⟨rfl, trivial⟩ rfl rfl ?_
                refine x_if [(77, pB (decide (e2.unit = 9))), (82, pT e2.pdu), (85, pT (([1] : List UInt8) ++ (h.take (min h.length 60))))] [0, 1, 2, 3, 4, 5, 6, 7, 8, 9, 10, 11, 12, 13, 14, 15, 16, 17, 18, 19, 20, 21, 22, 23, 24, 25] rfl rfl rfl rfl (fun _ => ?_) (fun e => absurd (e.symm.trans g6) (by decide))
                refine x_run0 [(77, pB (decide (e2.unit = 9))), (82, pT e2.pdu), (85, pT (([1] : List UInt8) ++ (h.take (min h.length 60))))] [0, 1, 2, 3, 4, 5, 6, 7, 8, 9, 10, 11, 12, 13, 14, 15, 16, 17, 18, 19, 20, 21, 22, 23, 24, 25] rfl rfl rfl rfl (s_eqtext (l := e2.pdu) (m := ([1] : List UInt8) ++ (h.take (min h.length 60))) rfl rfl ⟨rfl, rfl, rfl⟩) ?_
                refine d_op ?_
                refine x_run0 [(77, pB (decide (e2.unit = 9))), (86, pB (decide (e2.pdu = ([1] : List UInt8) ++ (h.take (min h.length 60)))))] [0, 1, 2, 3, 4, 5, 6, 7, 8, 9, 10, 11, 12, 13, 14, 15, 16, 17, 18, 19, 20, 21, 22, 23, 24, 25, 26] rfl rfl rfl rfl (s_pick_t rfl g6 rfl ⟨rfl, rfl, rfl⟩) ?_
                refine d_op ?_
                refine x_run0 [(87, pB (decide (e2.pdu = ([1] : List UInt8) ++ (h.take (min h.length 60)))))] [0, 1, 2, 3, 4, 5, 6, 7, 8, 9, 10, 11, 12, 13, 14, 15, 16, 17, 18, 19, 20, 21, 22, 23, 24, 25, 26, 27] rfl rfl rfl rfl (s_move rfl ⟨rfl, rfl, rfl⟩) ?_
                refine x_if [(88, pB (decide (e2.pdu = ([1] : List UInt8) ++ (h.take (min h.length 60))))), (5, PV.ptr 0 0)] [0, 1, 2, 3, 4, 5, 6, 7, 8, 9, 10, 11, 12, 13, 14, 15, 16, 17, 18, 19, 20, 21, 22, 23, 24, 25, 26, 27, 28] rfl rfl rfl rfl (fun g7 => ?_) (fun g7 => ?_)
                ·
                  have g7' := g7
                  try simp only [decide_eq_true_eq, decide_eq_false_iff_not, Bool.not_eq_true', Bool.not_eq_false', Bool.not_true, Bool.not_false, Bool.not_eq_eq_eq_not, Int.not_lt, Int.not_le] at g7'
                  refine x_run0 [(88, pB (decide (e2.pdu = ([1] : List UInt8) ++ (h.take (min h.length 60))))), (5, PV.ptr 0 0)] [0, 1, 2, 3, 4, 5, 6, 7, 8, 9, 10, 11, 12, 13, 14, 15, 16, 17, 18, 19, 20, 21, 22, 23, 24, 25, 26, 27, 28] rfl rfl rfl rfl (s_move rfl ⟨rfl, rfl, rfl⟩) ?_
                  refine x_if [(88, pB (decide (e2.pdu = ([1] : List UInt8) ++ (h.take (min h.length 60))))), (89, PV.ptr 0 0)] [0, 1, 2, 3, 4, 5, 6, 7, 8, 9, 10, 11, 12, 13, 14, 15, 16, 17, 18, 19, 20, 21, 22, 23, 24, 25, 26, 27, 28, 29] rfl rfl rfl rfl (fun _ => ?_) (fun e => absurd (e.symm.trans g7) (by decide))
                  refine x_run [(88, pB (decide (e2.pdu = ([1] : List UInt8) ++ (h.take (min h.length 60))))), (89, PV.ptr 0 0)] [0, 1, 2, 3, 4, 5, 6, 7, 8, 9, 10, 11, 12, 13, 14, 15, 16, 17, 18, 19, 20, 21, 22, 23, 24, 25, 26, 27, 28, 29] [] [(0, .obj [pS 1 false enc8 ([] : List UInt8), pB false])] [(0, .obj [pS 1 false enc8 ([] : List UInt8), pB false])] [(0, .obj [pS 1 false enc8 ([] : List UInt8), pB false])] [(0, .obj [pS 1 false enc8 ([] : List UInt8), pB false]), (2, oB false 1 enc8 (([1] : List UInt8) ++ (h.take (min h.length 60)))), (3, .obj [pI 5, pI 9, PV.ref 2 0 none])] rfl rfl rfl rfl rfl rfl (s_callX (r2 := pB false) (nx1 := 4) (H2 := [(0, .obj [pS 1 false enc8 ([] : List UInt8), pB false])]) (H3 := [(0, .obj [pS 1 false enc8 ([] : List UInt8), pB false])]) [0] [.obj [pS 1 false enc8 ([] : List UInt8), pB false]] rfl rfl rfl (handed_of (by decide) ⟨rfl, trivial⟩) rfl rfl rfl rfl rfl rfl (w_mbap_Stream_Closed ([] : List UInt8) false false) rfl (dist_of rfl) rfl rfl rfl rfl ⟨rfl, rfl, rfl⟩) rfl trivial rfl rfl ?_
                  refine x_if [(88, pB (decide (e2.pdu = ([1] : List UInt8) ++ (h.take (min h.length 60))))), (90, pB false)] [0, 1, 2, 3, 4, 5, 6, 7, 8, 9, 10, 11, 12, 13, 14, 15, 16, 17, 18, 19, 20, 21, 22, 23, 24, 25, 26, 27, 28, 29, 30] rfl rfl rfl rfl (fun _ => ?_) (fun e => absurd (e.symm.trans g7) (by decide))
                  refine x_run0 [(88, pB (decide (e2.pdu = ([1] : List UInt8) ++ (h.take (min h.length 60))))), (90, pB false)] [0, 1, 2, 3, 4, 5, 6, 7, 8, 9, 10, 11, 12, 13, 14, 15, 16, 17, 18, 19, 20, 21, 22, 23, 24, 25, 26, 27, 28, 29, 30] rfl rfl rfl rfl (s_not rfl ⟨rfl, rfl, rfl⟩) ?_
                  refine d_op ?_
                  refine x_run0 [(88, pB (decide (e2.pdu = ([1] : List UInt8) ++ (h.take (min h.length 60))))), (91, pB (!false))] [0, 1, 2, 3, 4, 5, 6, 7, 8, 9, 10, 11, 12, 13, 14, 15, 16, 17, 18, 19, 20, 21, 22, 23, 24, 25, 26, 27, 28, 29, 30, 31] rfl rfl rfl rfl (s_pick_t rfl g7 rfl ⟨rfl, rfl, rfl⟩) ?_
                  refine d_op ?_
                  refine x_run0 [(92, pB (!false))] [0, 1, 2, 3, 4, 5, 6, 7, 8, 9, 10, 11, 12, 13, 14, 15, 16, 17, 18, 19, 20, 21, 22, 23, 24, 25, 26, 27, 28, 29, 30, 31, 32] rfl rfl rfl rfl (s_move rfl ⟨rfl, rfl, rfl⟩) ?_
                  refine x_if [(93, pB (!false)), (5, PV.ptr 0 0)] [0, 1, 2, 3, 4, 5, 6, 7, 8, 9, 10, 11, 12, 13, 14, 15, 16, 17, 18, 19, 20, 21, 22, 23, 24, 25, 26, 27, 28, 29, 30, 31, 32, 33] rfl rfl rfl rfl (fun g8 => ?_) (fun g8 => ?_)
                  ·
                    have g8' := g8
                    try simp only [decide_eq_true_eq, decide_eq_false_iff_not, Bool.not_eq_true', Bool.not_eq_false', Bool.not_true, Bool.not_false, Bool.not_eq_eq_eq_not, Int.not_lt, Int.not_le] at g8'
                    refine x_run0 [(93, pB (!false)), (5, PV.ptr 0 0)] [0, 1, 2, 3, 4, 5, 6, 7, 8, 9, 10, 11, 12, 13, 14, 15, 16, 17, 18, 19, 20, 21, 22, 23, 24, 25, 26, 27, 28, 29, 30, 31, 32, 33] rfl rfl rfl rfl (s_move rfl ⟨rfl, rfl, rfl⟩) ?_
                    refine x_if [(93, pB (!false)), (94, PV.ptr 0 0)] [0, 1, 2, 3, 4, 5, 6, 7, 8, 9, 10, 11, 12, 13, 14, 15, 16, 17, 18, 19, 20, 21, 22, 23, 24, 25, 26, 27, 28, 29, 30, 31, 32, 33, 34] rfl rfl rfl rfl (fun _ => ?_) (fun e => absurd (e.symm.trans g8) (by decide))
                    refine x_run [(93, pB (!false)), (94, PV.ptr 0 0)] [0, 1, 2, 3, 4, 5, 6, 7, 8, 9, 10, 11, 12, 13, 14, 15, 16, 17, 18, 19, 20, 21, 22, 23, 24, 25, 26, 27, 28, 29, 30, 31, 32, 33, 34] [] [(0, .obj [pS 1 false enc8 ([] : List UInt8), pB false])] [(0, .obj [pS 1 false enc8 ([] : List UInt8), pB false])] [(0, .obj [pS 1 false enc8 ([] : List UInt8), pB false])] [(0, .obj [pS 1 false enc8 ([] : List UInt8), pB false]), (2, oB false 1 enc8 (([1] : List UInt8) ++ (h.take (min h.length 60)))), (3, .obj [pI 5, pI 9, PV.ref 2 0 none])] rfl rfl rfl rfl rfl rfl (s_callX (r2 := pN (([] : List UInt8).length)) (nx1 := 4) (H2 := [(0, .obj [pS 1 false enc8 ([] : List UInt8), pB false])]) (H3 := [(0, .obj [pS 1 false enc8 ([] : List UInt8), pB false])]) [0] [.obj [pS 1 false enc8 ([] : List UInt8), pB false]] rfl rfl rfl (handed_of (by decide) ⟨rfl, trivial⟩) rfl rfl rfl rfl rfl rfl (w_mbap_Stream_Len ([] : List UInt8) false false) rfl (dist_of rfl) rfl rfl rfl rfl ⟨rfl, rfl, rfl⟩) rfl trivial rfl rfl ?_
                    refine x_if [(93, pB (!false)), (95, pN (([] : List UInt8).length))] [0, 1, 2, 3, 4, 5, 6, 7, 8, 9, 10, 11, 12, 13, 14, 15, 16, 17, 18, 19, 20, 21, 22, 23, 24, 25, 26, 27, 28, 29, 30, 31, 32, 33, 34, 35] rfl rfl rfl rfl (fun _ => ?_) (fun e => absurd (e.symm.trans g8) (by decide))
                    refine x_run0 [(93, pB (!false)), (95, pN (([] : List UInt8).length))] [0, 1, 2, 3, 4, 5, 6, 7, 8, 9, 10, 11, 12, 13, 14, 15, 16, 17, 18, 19, 20, 21, 22, 23, 24, 25, 26, 27, 28, 29, 30, 31, 32, 33, 34, 35] rfl rfl rfl rfl (s_eql rfl rfl ⟨rfl, rfl, rfl⟩) ?_
                    refine d_op ?_
                    refine x_run0 [(93, pB (!false)), (96, pB (decide (((([] : List UInt8).length : Nat) : Int) = 0)))] [0, 1, 2, 3, 4, 5, 6, 7, 8, 9, 10, 11, 12, 13, 14, 15, 16, 17, 18, 19, 20, 21, 22, 23, 24, 25, 26, 27, 28, 29, 30, 31, 32, 33, 34, 35, 36] rfl rfl rfl rfl (s_pick_t rfl g8 rfl ⟨rfl, rfl, rfl⟩) ?_
                    refine d_op ?_
                    refine x_run0 [(97, pB (decide (((([] : List UInt8).length : Nat) : Int) = 0)))] [0, 1, 2, 3, 4, 5, 6, 7, 8, 9, 10, 11, 12, 13, 14, 15, 16, 17, 18, 19, 20, 21, 22, 23, 24, 25, 26, 27, 28, 29, 30, 31, 32, 33, 34, 35, 36, 37] rfl rfl rfl rfl (s_move rfl ⟨rfl, rfl, rfl⟩) ?_
                    refine x_if [(98, pB (decide (((([] : List UInt8).length : Nat) : Int) = 0)))] [0, 1, 2, 3, 4, 5, 6, 7, 8, 9, 10, 11, 12, 13, 14, 15, 16, 17, 18, 19, 20, 21, 22, 23, 24, 25, 26, 27, 28, 29, 30, 31, 32, 33, 34, 35, 36, 37, 38] rfl rfl rfl rfl (fun g9 => ?_) (fun g9 => ?_)
                    ·
                      have g9' := g9
                      try simp only [decide_eq_true_eq, decide_eq_false_iff_not, Bool.not_eq_true', Bool.not_eq_false', Bool.not_true, Bool.not_false, Bool.not_eq_eq_eq_not, Int.not_lt, Int.not_le] at g9'
                      refine x_run0 [(98, pB (decide (((([] : List UInt8).length : Nat) : Int) = 0)))] [0, 1, 2, 3, 4, 5, 6, 7, 8, 9, 10, 11, 12, 13, 14, 15, 16, 17, 18, 19, 20, 21, 22, 23, 24, 25, 26, 27, 28, 29, 30, 31, 32, 33, 34, 35, 36, 37, 38] rfl rfl rfl rfl (s_callF rfl rfl rfl (w_burgagelaw6_known) rfl ⟨rfl, rfl, rfl⟩) ?_
                      refine d_op ?_
                      refine x_run0 [(98, pB (decide (((([] : List UInt8).length : Nat) : Int) = 0))), (99, pB true)] [0, 1, 2, 3, 4, 5, 6, 7, 8, 9, 10, 11, 12, 13, 14, 15, 16, 17, 18, 19, 20, 21, 22, 23, 24, 25, 26, 27, 28, 29, 30, 31, 32, 33, 34, 35, 36, 37, 38, 39] rfl rfl rfl rfl (s_pick_t rfl g9 rfl ⟨rfl, rfl, rfl⟩) ?_
                      refine d_op ?_
                      refine x_run0 [(100, pB true)] [0, 1, 2, 3, 4, 5, 6, 7, 8, 9, 10, 11, 12, 13, 14, 15, 16, 17, 18, 19, 20, 21, 22, 23, 24, 25, 26, 27, 28, 29, 30, 31, 32, 33, 34, 35, 36, 37, 38, 39, 40] rfl rfl rfl rfl (s_assign rfl ⟨rfl, rfl, rfl⟩) ?_
                      refine d_end ⟨by kernel_rfl, ?_⟩
                      refine q_then ?_
                      refine w_ret ?_
                      exact fin_plain (ret_tmp rfl ret_nil) rfl rfl ⟨rfl, rfl, rfl⟩
                    ·
                      exact absurd g9 (by first | (simp; done) | (simp at he2; subst he2; simp; done) | (simp at he3; subst he3; simp; done))
                  ·
                    exact absurd g8 (by first | (simp; done) | (simp at he2; subst he2; simp; done) | (simp at he3; subst he3; simp; done))
                ·
                  exact absurd g7 (by first | (simp; done) | (simp at he2; subst he2; simp; done) | (simp at he3; subst he3; simp; done))
              ·
                exact absurd g6 (by first | (simp; done) | (simp at he2; subst he2; simp; done) | (simp at he3; subst he3; simp; done))
            ·
              exact absurd g5 (by first | (simp; done) | (simp at he2; subst he2; simp; done) | (simp at he3; subst he3; simp; done))
          ·
            exact absurd g4 (by first | (simp; done) | (simp at he2; subst he2; simp; done) | (simp at he3; subst he3; simp; done))
      ·
        have g1' := g1
        try simp only [decide_eq_true_eq, decide_eq_false_iff_not, Bool.not_eq_true', Bool.not_eq_false', Bool.not_true, Bool.not_false, Bool.not_eq_eq_eq_not, Int.not_lt, Int.not_le] at g1'
        refine r_if tabOk hnt rfl rfl rfl (fun e => absurd (e.symm.trans g1) (by decide)) (fun _ => ?_)
        refine r_op tabOk hnt rfl (s_pick_f rfl g1 rfl ?_) 
        refine r_end ?_
        refine q_then ?_
        refine w_if rfl (fun e => absurd e (by decide)) (fun _ => ?_)
        refine w_exit ?_
        refine q_then_exit ?_
        refine q_then_exit ?_
        refine q_block_exit ?_
        refine q_then ?_
        refine w_seq ?_
        refine w_R ?_
        refine r_op tabOk hnt rfl (s_move rfl ?_) 
        refine r_op tabOk hnt rfl (s_callX (r2 := PV.tup []) (nx1 := 1) (H2 := [(0, .obj [pS 1 false enc8 ([] : List UInt8), pB true])]) (H3 := [(0, .obj [pS 1 false enc8 ([] : List UInt8), pB false])]) [0] [.obj [pS 1 false enc8 ([] : List UInt8), pB true]] rfl rfl rfl (handed_of (by decide) ⟨rfl, trivial⟩) rfl rfl rfl rfl rfl rfl (w_mbap_Stream_Open ([] : List UInt8) false true) rfl (dist_of rfl) rfl rfl rfl rfl ?_) 
        refine r_set [(1, pS 1 cl_h enc8 h), (5, PV.ptr 0 0)] [(0, .obj [pS 1 false enc8 ([] : List UInt8), pB false])] 1 ⟨rfl, rfl, trivial⟩ rfl rfl ?_
        refine r_end ?_
        refine q_then ?_
        refine w_seq ?_
        refine w_R ?_
        refine r_op tabOk hnt rfl (s_mkM (f := enc8) ([1] : List UInt8) tab_27 rfl tab_5 ⟨rfl, by decide⟩ (by decide) rfl rfl rfl rfl ?_) 
        refine r_op tabOk hnt rfl (s_move rfl ?_) 
        refine r_op tabOk hnt rfl (s_move rfl ?_) 
        refine r_op tabOk hnt rfl (s_lenM (l := h) tab_27 rfl (hM_sl (f := enc8) rfl) ?_) 
        refine r_op tabOk hnt rfl (s_minN (a := h.length) (b := 60) rfl (by omega) (by omega) ?_) 
        refine r_op tabOk hnt rfl (s_cutM_hi (b := min h.length 60) (f := enc8) (l := h) tab_27 rfl tab_5 ⟨rfl, by decide⟩ rfl (bound_some rfl (by omega)) (by omega) ?_) 
        refine r_op tabOk hnt rfl (s_appR0 (f := enc8) (l := ([1] : List UInt8)) (xs := h.take (min h.length 60)) tab_27 rfl tab_5 ⟨rfl, by decide, by decide⟩ (srcM tab_27 rfl (hM_sl (f := enc8) rfl)) rfl rfl (by first | omega | (simp; omega)) ?_) 
        refine r_op tabOk hnt rfl (s_build tab_30 rfl rfl (b_cons rfl tab_3 rfl rfl rfl (Nat.le_of_ble_eq_true rfl) (b_cons rfl tab_3 rfl rfl rfl (Nat.le_of_ble_eq_true rfl) (b_cons rfl tab_27 rfl rfl rfl (Nat.le_of_ble_eq_true rfl) (b_nil ?_))))) 
        refine r_op tabOk hnt rfl (s_alloc tab_30 ?_) 
        refine r_op tabOk hnt rfl (s_store_ptr tab_30 rfl rfl rfl rfl rfl (Nat.le_of_ble_eq_true rfl) ?_) 
        refine r_set [(5, PV.ptr 0 0), (7, PV.ptr 3 0)] [(3, .obj [pI 5, pI 9, PV.ref 2 0 none]), (2, oB true 1 enc8 (([1] : List UInt8) ++ (h.take (min h.length 60)))), (0, .obj [pS 1 false enc8 ([] : List UInt8), pB false])] 4 ⟨rfl, rfl, trivial⟩ rfl rfl ?_
        refine r_end ?_
        refine q_then ?_
        refine w_seq ?_
        refine w_R ?_
        refine r_op tabOk hnt rfl (s_move rfl ?_) 
        refine r_op tabOk hnt rfl (s_load_ptr tab_30 rfl rfl rfl (Nat.le_of_ble_eq_true rfl) ?_) 
        refine r_op tabOk hnt rfl (s_callX (r2 := pS 1 true enc8 (bytesM (⟨5, 9, ([1] : List UInt8) ++ (h.take (min h.length 60))⟩ : TMsg))) (nx1 := 4) (H2 := [(2, oB false 1 enc8 (([1] : List UInt8) ++ (h.take (min h.length 60)))), (3, .obj [pI 5, pI 9, PV.ref 2 0 none]), (0, .obj [pS 1 false enc8 ([] : List UInt8), pB false])]) (H3 := [(2, oB false 1 enc8 (([1] : List UInt8) ++ (h.take (min h.length 60)))), (3, .obj [pI 5, pI 9, PV.ref 2 0 none]), (0, .obj [pS 1 false enc8 ([] : List UInt8), pB false])]) [] [] rfl rfl rfl (handed_of (by decide) trivial) rfl rfl rfl rfl rfl rfl (w_mbap_Bytes (⟨5, 9, ([1] : List UInt8) ++ (h.take (min h.length 60))⟩ : TMsg) (by first | omega | assumption | (simp; omega) | decide | (simp; done))) rfl (dist_of rfl) rfl rfl rfl rfl ?_) 
        refine r_op tabOk hnt rfl (s_callX (r2 := pS 3 true eMsg ((putV ([] : List UInt8) false (bytesM (⟨5, 9, ([1] : List UInt8) ++ (h.take (min h.length 60))⟩ : TMsg))).1)) (nx1 := 4) (H2 := [(2, oB false 1 enc8 (([1] : List UInt8) ++ (h.take (min h.length 60)))), (3, .obj [pI 5, pI 9, PV.ref 2 0 none]), (0, .obj [pS 1 false enc8 ([] : List UInt8), pB false])]) (H3 := [(0, .obj [pS 1 false enc8 ((putV ([] : List UInt8) false (bytesM (⟨5, 9, ([1] : List UInt8) ++ (h.take (min h.length 60))⟩ : TMsg))).2.1), pB ((putV ([] : List UInt8) false (bytesM (⟨5, 9, ([1] : List UInt8) ++ (h.take (min h.length 60))⟩ : TMsg))).2.2)]), (2, oB false 1 enc8 (([1] : List UInt8) ++ (h.take (min h.length 60)))), (3, .obj [pI 5, pI 9, PV.ref 2 0 none])]) [0] [.obj [pS 1 false enc8 ([] : List UInt8), pB false]] rfl rfl rfl (handed_of (by decide) ⟨rfl, trivial⟩) rfl rfl rfl rfl rfl rfl (w_mbap_Stream_Put ([] : List UInt8) false false (bytesM (⟨5, 9, ([1] : List UInt8) ++ (h.take (min h.length 60))⟩ : TMsg)) true (by have := bytesM_le (⟨5, 9, [1] ++ h.take (min h.length 60)⟩ : TMsg); simp only [List.length_nil]; omega)) rfl (dist_of rfl) rfl rfl rfl rfl ?_) 
        refine r_op tabOk hnt rfl (s_assign rfl ?_) 
        refine r_set [(5, PV.ptr 0 0), (7, PV.ptr 3 0), (8, pS 3 true eMsg ((putV ([] : List UInt8) false (bytesM (⟨5, 9, ([1] : List UInt8) ++ (h.take (min h.length 60))⟩ : TMsg))).1))] [(0, .obj [pS 1 false enc8 ((putV ([] : List UInt8) false (bytesM (⟨5, 9, ([1] : List UInt8) ++ (h.take (min h.length 60))⟩ : TMsg))).2.1), pB ((putV ([] : List UInt8) false (bytesM (⟨5, 9, ([1] : List UInt8) ++ (h.take (min h.length 60))⟩ : TMsg))).2.2)]), (2, oB false 1 enc8 (([1] : List UInt8) ++ (h.take (min h.length 60)))), (3, .obj [pI 5, pI 9, PV.ref 2 0 none])] 4 ⟨rfl, rfl, rfl, trivial⟩ rfl rfl ?_
        refine r_end ?_
        refine q_then ?_
        refine w_seq ?_
        have hwh := put_whole (m := (⟨5, 9, [1] ++ h.take (min h.length 60)⟩ : TMsg)) (by simp only; omega) (by simp only; omega) (by simp; omega)
        refine w_eq (s := 8) (y := pS 3 true eMsg ([(⟨5, 9, [1] ++ h.take (min h.length 60)⟩ : TMsg)])) rfl (congrArg (fun z => pS 3 true eMsg z) (show ((putV ([] : List UInt8) false (bytesM (⟨5, 9, ([1] : List UInt8) ++ (h.take (min h.length 60))⟩ : TMsg))).1) = ([(⟨5, 9, [1] ++ h.take (min h.length 60)⟩ : TMsg)]) by rw [hwh])) ?_
        refine w_leC (n := 0) (j := 0) (y := pS 1 false enc8 ([] : List UInt8)) rfl rfl (le_of_eq (congrArg (fun z => pS 1 false enc8 z) (show ((putV ([] : List UInt8) false (bytesM (⟨5, 9, ([1] : List UInt8) ++ (h.take (min h.length 60))⟩ : TMsg))).2.1) = ([] : List UInt8) by rw [hwh]))) ?_
        refine w_leC (n := 0) (j := 1) (y := pB false) rfl rfl (le_of_eq (congrArg (fun z : Bool => pB z) (show ((putV ([] : List UInt8) false (bytesM (⟨5, 9, ([1] : List UInt8) ++ (h.take (min h.length 60))⟩ : TMsg))).2.2) = false by rw [hwh]))) ?_
        refine W_drawn tabOk mixed hnt [[], [0], [0, 1], [0, 1, 2], [0, 1, 2, 3], [0, 1, 2, 3, 4], [0, 1, 2, 3, 4, 5], [0, 1, 2, 3, 4, 5, 6], [0, 1, 2, 3, 4, 5, 6, 7], [0, 1, 2, 3, 4, 5, 6, 7, 8], [0, 1, 2, 3, 4, 5, 6, 7, 8, 9], [0, 1, 2, 3, 4, 5, 6, 7, 8, 9, 10], [0, 1, 2, 3, 4, 5, 6, 7, 8, 9, 10, 11], [0, 1, 2, 3, 4, 5, 6, 7, 8, 9, 10, 11, 12], [0, 1, 2, 3, 4, 5, 6, 7, 8, 9, 10, 11, 12, 13], [0, 1, 2, 3, 4, 5, 6, 7, 8, 9, 10, 11, 12, 13, 14], [0, 1, 2, 3, 4, 5, 6, 7, 8, 9, 10, 11, 12, 13, 14, 15], [0, 1, 2, 3, 4, 5, 6, 7, 8, 9, 10, 11, 12, 13, 14, 15, 16], [0, 1, 2, 3, 4, 5, 6, 7, 8, 9, 10, 11, 12, 13, 14, 15, 16, 17], [0, 1, 2, 3, 4, 5, 6, 7, 8, 9, 10, 11, 12, 13, 14, 15, 16, 17, 18], [0, 1, 2, 3, 4, 5, 6, 7, 8, 9, 10, 11, 12, 13, 14, 15, 16, 17, 18, 19], [0, 1, 2, 3, 4, 5, 6, 7, 8, 9, 10, 11, 12, 13, 14, 15, 16, 17, 18, 19, 20], [0, 1, 2, 3, 4, 5, 6, 7, 8, 9, 10, 11, 12, 13, 14, 15, 16, 17, 18, 19, 20, 21], [0, 1, 2, 3, 4, 5, 6, 7, 8, 9, 10, 11, 12, 13, 14, 15, 16, 17], [0, 1, 2, 3, 4, 5, 6, 7, 8, 9, 10, 11, 12, 13, 14, 15, 16, 17, 23], [0, 1, 2, 3, 4, 5, 6, 7, 8, 9, 10, 11, 12, 13, 14, 15, 16, 17, 23, 24], [0, 1, 2, 3, 4, 5, 6, 7, 8, 9, 10, 11, 12, 13, 14, 15, 16, 17, 18, 19, 20, 21, 22, 23, 24, 25], [0, 1, 2, 3, 4, 5, 6, 7, 8, 9, 10, 11, 12, 13, 14, 15, 16, 17, 18, 19, 20, 21, 22, 23, 24, 25, 26], [0, 1, 2, 3, 4, 5, 6, 7, 8, 9, 10, 11, 12, 13, 14, 15, 16, 17, 18, 19, 20, 21, 22, 23, 24, 25, 26, 27], [0, 1, 2, 3, 4, 5, 6, 7, 8, 9, 10, 11, 12, 13, 14, 15, 16, 17, 18, 19, 20, 21, 22, 23, 24, 25, 26, 27, 28], [0, 1, 2, 3, 4, 5, 6, 7, 8, 9, 10, 11, 12, 13, 14, 15, 16, 17, 18, 19, 20, 21, 22, 23, 24, 25, 26, 27, 28, 29], [0, 1, 2, 3, 4, 5, 6, 7, 8, 9, 10, 11, 12, 13, 14, 15, 16, 17, 18, 19, 20, 21, 22, 23, 24, 25, 26, 27, 28, 29, 30], [0, 1, 2, 3, 4, 5, 6, 7, 8, 9, 10, 11, 12, 13, 14, 15, 16, 17, 18, 19, 20, 21, 22, 23, 24, 25, 26, 27, 28, 29, 30, 31], [0, 1, 2, 3, 4, 5, 6, 7, 8, 9, 10, 11, 12, 13, 14, 15, 16, 17, 18, 19, 20, 21, 22, 23, 24, 25, 26, 27, 28, 29, 30, 31, 32], [0, 1, 2, 3, 4, 5, 6, 7, 8, 9, 10, 11, 12, 13, 14, 15, 16, 17, 18, 19, 20, 21, 22, 23, 24, 25, 26, 27, 28, 29, 30, 31, 32, 33], [0, 1, 2, 3, 4, 5, 6, 7, 8, 9, 10, 11, 12, 13, 14, 15, 16, 17, 18, 19, 20, 21, 22, 23, 24, 25, 26, 27, 28, 29, 30, 31, 32, 33, 34], [0, 1, 2, 3, 4, 5, 6, 7, 8, 9, 10, 11, 12, 13, 14, 15, 16, 17, 18, 19, 20, 21, 22, 23, 24, 25, 26, 27, 28, 29, 30, 31, 32, 33, 34, 35], [0, 1, 2, 3, 4, 5, 6, 7, 8, 9, 10, 11, 12, 13, 14, 15, 16, 17, 18, 19, 20, 21, 22, 23, 24, 25, 26, 27, 28, 29, 30, 31, 32, 33, 34, 35, 36], [0, 1, 2, 3, 4, 5, 6, 7, 8, 9, 10, 11, 12, 13, 14, 15, 16, 17, 18, 19, 20, 21, 22, 23, 24, 25, 26, 27, 28, 29, 30, 31, 32, 33, 34, 35, 36, 37], [0, 1, 2, 3, 4, 5, 6, 7, 8, 9, 10, 11, 12, 13, 14, 15, 16, 17, 18, 19, 20, 21, 22, 23, 24, 25, 26, 27, 28, 29, 30, 31, 32, 33, 34, 35, 36, 37, 38], [0, 1, 2, 3, 4, 5, 6, 7, 8, 9, 10, 11, 12, 13, 14, 15, 16, 17, 18, 19, 20, 21, 22, 23, 24, 25, 26, 27, 28, 29, 30, 31, 32, 33, 34, 35, 36, 37, 38, 39], [0, 1, 2, 3, 4, 5, 6, 7, 8, 9, 10, 11, 12, 13, 14, 15, 16, 17, 18, 19, 20, 21, 22, 23, 24, 25, 26, 27, 28, 29, 30, 31, 32, 33, 34, 35, 36, 37, 38, 39, 40]] (by kernel_rfl) ?_
        refine d_op ?_
        refine x_run0 [(8, pS 3 true eMsg ([(⟨5, 9, [1] ++ h.take (min h.length 60)⟩ : TMsg)]))] [] rfl rfl rfl rfl (s_move rfl ⟨rfl, rfl, rfl⟩) ?_
        refine d_op ?_
        refine x_run0 [(60, pS 3 true eMsg ([(⟨5, 9, [1] ++ h.take (min h.length 60)⟩ : TMsg)]))] [0] rfl rfl rfl rfl (s_lenM (l := [(⟨5, 9, [1] ++ h.take (min h.length 60)⟩ : TMsg)]) tab_39 rfl (hM_sl (f := eMsg) rfl) ⟨rfl, rfl, rfl⟩) ?_
        refine d_op ?_
        refine x_run0 [(61, pN (([(⟨5, 9, [1] ++ h.take (min h.length 60)⟩ : TMsg)]).length))] [0, 1] rfl rfl rfl rfl (s_eql rfl rfl ⟨rfl, rfl, rfl⟩) ?_
        refine d_op ?_
        refine x_run0 [(62, pB (decide (((([(⟨5, 9, [1] ++ h.take (min h.length 60)⟩ : TMsg)]).length : Nat) : Int) = 1)))] [0, 1, 2] rfl rfl rfl rfl (s_move rfl ⟨rfl, rfl, rfl⟩) ?_
        refine x_if [(63, pB (decide (((([(⟨5, 9, [1] ++ h.take (min h.length 60)⟩ : TMsg)]).length : Nat) : Int) = 1))), (8, pS 3 true eMsg ([(⟨5, 9, [1] ++ h.take (min h.length 60)⟩ : TMsg)]))] [0, 1, 2, 3] rfl rfl rfl rfl (fun g10 => ?_) (fun g10 => ?_)
        ·
          have g10' := g10
          try simp only [decide_eq_true_eq, decide_eq_false_iff_not, Bool.not_eq_true', Bool.not_eq_false', Bool.not_true, Bool.not_false, Bool.not_eq_eq_eq_not, Int.not_lt, Int.not_le] at g10'
          refine x_run0 [(63, pB (decide (((([(⟨5, 9, [1] ++ h.take (min h.length 60)⟩ : TMsg)]).length : Nat) : Int) = 1))), (8, pS 3 true eMsg ([(⟨5, 9, [1] ++ h.take (min h.length 60)⟩ : TMsg)]))] [0, 1, 2, 3] rfl rfl rfl rfl (s_move rfl ⟨rfl, rfl, rfl⟩) ?_
          refine x_if [(63, pB (decide (((([(⟨5, 9, [1] ++ h.take (min h.length 60)⟩ : TMsg)]).length : Nat) : Int) = 1))), (64, pS 3 true eMsg ([(⟨5, 9, [1] ++ h.take (min h.length 60)⟩ : TMsg)]))] [0, 1, 2, 3, 4] rfl rfl rfl rfl (fun _ => ?_) (fun e => absurd (e.symm.trans g10) (by decide))
          obtain ⟨e3, he3⟩ := get_of_lt ([(⟨5, 9, [1] ++ h.take (min h.length 60)⟩ : TMsg)]) (i := 0) (by omega)
          refine x_run0 [(63, pB (decide (((([(⟨5, 9, [1] ++ h.take (min h.length 60)⟩ : TMsg)]).length : Nat) : Int) = 1))), (64, pS 3 true eMsg ([(⟨5, 9, [1] ++ h.take (min h.length 60)⟩ : TMsg)]))] [0, 1, 2, 3, 4] rfl rfl rfl rfl (s_iaM (q := 0) (b := e3) (f := eMsg) tab_39 rfl tab_30 rfl rfl (by omega) rfl he3 ⟨rfl, rfl, rfl⟩) ?_
          refine x_if [(63, pB (decide (((([(⟨5, 9, [1] ++ h.take (min h.length 60)⟩ : TMsg)]).length : Nat) : Int) = 1))), (65, PV.f (.ro (eMsg e3)))] [0, 1, 2, 3, 4, 5] rfl rfl rfl rfl (fun _ => ?_) (fun e => absurd (e.symm.trans g10) (by decide))
          refine x_run0 [(63, pB (decide (((([(⟨5, 9, [1] ++ h.take (min h.length 60)⟩ : TMsg)]).length : Nat) : Int) = 1))), (65, PV.f (.ro (eMsg e3)))] [0, 1, 2, 3, 4, 5] rfl rfl rfl rfl (s_fa_ro tab_30 rfl rfl tab_3 (by decide) rfl (Nat.le_of_ble_eq_true rfl) (by intro _; rfl) ⟨rfl, rfl, rfl⟩) ?_
          refine x_if [(63, pB (decide (((([(⟨5, 9, [1] ++ h.take (min h.length 60)⟩ : TMsg)]).length : Nat) : Int) = 1))), (66, PV.f (.ro (encI e3.id)))] [0, 1, 2, 3, 4, 5, 6] rfl rfl rfl rfl (fun _ => ?_) (fun e => absurd (e.symm.trans g10) (by decide))
          refine x_run0 [(63, pB (decide (((([(⟨5, 9, [1] ++ h.take (min h.length 60)⟩ : TMsg)]).length : Nat) : Int) = 1))), (66, PV.f (.ro (encI e3.id)))] [0, 1, 2, 3, 4, 5, 6] rfl rfl rfl rfl (s_load_ro1 tab_3 rfl rfl rfl rfl ⟨rfl, rfl, rfl⟩) ?_
          refine x_if [(63, pB (decide (((([(⟨5, 9, [1] ++ h.take (min h.length 60)⟩ : TMsg)]).length : Nat) : Int) = 1))), (67, pI e3.id)] [0, 1, 2, 3, 4, 5, 6, 7] rfl rfl rfl rfl (fun _ => ?_) (fun e => absurd (e.symm.trans g10) (by decide))
          refine x_run0 [(63, pB (decide (((([(⟨5, 9, [1] ++ h.take (min h.length 60)⟩ : TMsg)]).length : Nat) : Int) = 1))), (67, pI e3.id)] [0, 1, 2, 3, 4, 5, 6, 7] rfl rfl rfl rfl (s_eql rfl rfl ⟨rfl, rfl, rfl⟩) ?_
          refine d_op ?_
          refine x_run0 [(63, pB (decide (((([(⟨5, 9, [1] ++ h.take (min h.length 60)⟩ : TMsg)]).length : Nat) : Int) = 1))), (68, pB (decide (e3.id = 5)))] [0, 1, 2, 3, 4, 5, 6, 7, 8] rfl rfl rfl rfl (s_pick_t rfl g10 rfl ⟨rfl, rfl, rfl⟩) ?_
          refine d_op ?_
          refine x_run0 [(69, pB (decide (e3.id = 5)))] [0, 1, 2, 3, 4, 5, 6, 7, 8, 9] rfl rfl rfl rfl (s_move rfl ⟨rfl, rfl, rfl⟩) ?_
          refine x_if [(70, pB (decide (e3.id = 5))), (8, pS 3 true eMsg ([(⟨5, 9, [1] ++ h.take (min h.length 60)⟩ : TMsg)]))] [0, 1, 2, 3, 4, 5, 6, 7, 8, 9, 10] rfl rfl rfl rfl (fun g11 => ?_) (fun g11 => ?_)
          ·
            have g11' := g11
            try simp only [decide_eq_true_eq, decide_eq_false_iff_not, Bool.not_eq_true', Bool.not_eq_false', Bool.not_true, Bool.not_false, Bool.not_eq_eq_eq_not, Int.not_lt, Int.not_le] at g11'
            refine x_run0 [(70, pB (decide (e3.id = 5))), (8, pS 3 true eMsg ([(⟨5, 9, [1] ++ h.take (min h.length 60)⟩ : TMsg)]))] [0, 1, 2, 3, 4, 5, 6, 7, 8, 9, 10] rfl rfl rfl rfl (s_move rfl ⟨rfl, rfl, rfl⟩) ?_
            refine x_if [(70, pB (decide (e3.id = 5))), (71, pS 3 true eMsg ([(⟨5, 9, [1] ++ h.take (min h.length 60)⟩ : TMsg)]))] [0, 1, 2, 3, 4, 5, 6, 7, 8, 9, 10, 11] rfl rfl rfl rfl (fun _ => ?_) (fun e => absurd (e.symm.trans g11) (by decide))
            refine x_run0 [(70, pB (decide (e3.id = 5))), (71, pS 3 true eMsg ([(⟨5, 9, [1] ++ h.take (min h.length 60)⟩ : TMsg)]))] [0, 1, 2, 3, 4, 5, 6, 7, 8, 9, 10, 11] rfl rfl rfl rfl (s_iaM (q := 0) (b := e3) (f := eMsg) tab_39 rfl tab_30 rfl rfl (by omega) rfl he3 ⟨rfl, rfl, rfl⟩) ?_
            refine x_if [(70, pB (decide (e3.id = 5))), (72, PV.f (.ro (eMsg e3)))] [0, 1, 2, 3, 4, 5, 6, 7, 8, 9, 10, 11, 12] rfl rfl rfl rfl (fun _ => ?_) (fun e => absurd (e.symm.trans g11) (by decide))
            refine x_run0 [(70, pB (decide (e3.id = 5))), (72, PV.f (.ro (eMsg e3)))] [0, 1, 2, 3, 4, 5, 6, 7, 8, 9, 10, 11, 12] rfl rfl rfl rfl (s_fa_ro tab_30 rfl rfl tab_3 (by decide) rfl (Nat.le_of_ble_eq_true rfl) (by intro _; rfl) ⟨rfl, rfl, rfl⟩) ?_
            refine x_if [(70, pB (decide (e3.id = 5))), (73, PV.f (.ro (encI e3.unit)))] [0, 1, 2, 3, 4, 5, 6, 7, 8, 9, 10, 11, 12, 13] rfl rfl rfl rfl (fun _ => ?_) (fun e => absurd (e.symm.trans g11) (by decide))
            refine x_run0 [(70, pB (decide (e3.id = 5))), (73, PV.f (.ro (encI e3.unit)))] [0, 1, 2, 3, 4, 5, 6, 7, 8, 9, 10, 11, 12, 13] rfl rfl rfl rfl (s_load_ro1 tab_3 rfl rfl rfl rfl ⟨rfl, rfl, rfl⟩) ?_
            refine x_if [(70, pB (decide (e3.id = 5))), (74, pI e3.unit)] [0, 1, 2, 3, 4, 5, 6, 7, 8, 9, 10, 11, 12, 13, 14] rfl rfl rfl rfl (fun _ => ?_) (fun e => absurd (e.symm.trans g11) (by decide))
            refine x_run0 [(70, pB (decide (e3.id = 5))), (74, pI e3.unit)] [0, 1, 2, 3, 4, 5, 6, 7, 8, 9, 10, 11, 12, 13, 14] rfl rfl rfl rfl (s_eql rfl rfl ⟨rfl, rfl, rfl⟩) ?_
            refine d_op ?_
            refine x_run0 [(70, pB (decide (e3.id = 5))), (75, pB (decide (e3.unit = 9)))] [0, 1, 2, 3, 4, 5, 6, 7, 8, 9, 10, 11, 12, 13, 14, 15] rfl rfl rfl rfl (s_pick_t rfl g11 rfl ⟨rfl, rfl, rfl⟩) ?_
            refine d_op ?_
            refine x_run0 [(76, pB (decide (e3.unit = 9)))] [0, 1, 2, 3, 4, 5, 6, 7, 8, 9, 10, 11, 12, 13, 14, 15, 16] rfl rfl rfl rfl (s_move rfl ⟨rfl, rfl, rfl⟩) ?_
            refine x_if [(77, pB (decide (e3.unit = 9))), (8, pS 3 true eMsg ([(⟨5, 9, [1] ++ h.take (min h.length 60)⟩ : TMsg)]))] [0, 1, 2, 3, 4, 5, 6, 7, 8, 9, 10, 11, 12, 13, 14, 15, 16, 17] rfl rfl rfl rfl (fun g12 => ?_) (fun g12 => ?_)
            ·
              have g12' := g12
              try simp only [decide_eq_true_eq, decide_eq_false_iff_not, Bool.not_eq_true', Bool.not_eq_false', Bool.not_true, Bool.not_false, Bool.not_eq_eq_eq_not, Int.not_lt, Int.not_le] at g12'
              refine x_run0 [(77, pB (decide (e3.unit = 9))), (8, pS 3 true eMsg ([(⟨5, 9, [1] ++ h.take (min h.length 60)⟩ : TMsg)]))] [0, 1, 2, 3, 4, 5, 6, 7, 8, 9, 10, 11, 12, 13, 14, 15, 16, 17] rfl rfl rfl rfl (s_move rfl ⟨rfl, rfl, rfl⟩) ?_
              refine x_if [(77, pB (decide (e3.unit = 9))), (78, pS 3 true eMsg ([(⟨5, 9, [1] ++ h.take (min h.length 60)⟩ : TMsg)]))] [0, 1, 2, 3, 4, 5, 6, 7, 8, 9, 10, 11, 12, 13, 14, 15, 16, 17, 18] rfl rfl rfl rfl (fun _ => ?_) (fun e => absurd (e.symm.trans g12) (by decide))
              refine x_run0 [(77, pB (decide (e3.unit = 9))), (78, pS 3 true eMsg ([(⟨5, 9, [1] ++ h.take (min h.length 60)⟩ : TMsg)]))] [0, 1, 2, 3, 4, 5, 6, 7, 8, 9, 10, 11, 12, 13, 14, 15, 16, 17, 18] rfl rfl rfl rfl (s_iaM (q := 0) (b := e3) (f := eMsg) tab_39 rfl tab_30 rfl rfl (by omega) rfl he3 ⟨rfl, rfl, rfl⟩) ?_
              refine x_if [(77, pB (decide (e3.unit = 9))), (79, PV.f (.ro (eMsg e3)))] [0, 1, 2, 3, 4, 5, 6, 7, 8, 9, 10, 11, 12, 13, 14, 15, 16, 17, 18, 19] rfl rfl rfl rfl (fun _ => ?_) (fun e => absurd (e.symm.trans g12) (by decide))
              refine x_run0 [(77, pB (decide (e3.unit = 9))), (79, PV.f (.ro (eMsg e3)))] [0, 1, 2, 3, 4, 5, 6, 7, 8, 9, 10, 11, 12, 13, 14, 15, 16, 17, 18, 19] rfl rfl rfl rfl (s_fa_ro tab_30 rfl rfl tab_27 (by decide) rfl (Nat.le_of_ble_eq_true rfl) (by intro _; rfl) ⟨rfl, rfl, rfl⟩) ?_
              refine x_if [(77, pB (decide (e3.unit = 9))), (80, PV.f (.ro (FV.sl 1 false (List.map enc8 e3.pdu))))] [0, 1, 2, 3, 4, 5, 6, 7, 8, 9, 10, 11, 12, 13, 14, 15, 16, 17, 18, 19, 20] rfl rfl rfl rfl (fun _ => ?_) (fun e => absurd (e.symm.trans g12) (by decide))
              refine x_run0 [(77, pB (decide (e3.unit = 9))), (80, PV.f (.ro (FV.sl 1 false (List.map enc8 e3.pdu))))] [0, 1, 2, 3, 4, 5, 6, 7, 8, 9, 10, 11, 12, 13, 14, 15, 16, 17, 18, 19, 20] rfl rfl rfl rfl (s_load_ro1 tab_27 rfl rfl rfl rfl ⟨rfl, rfl, rfl⟩) ?_
              refine x_if [(77, pB (decide (e3.unit = 9))), (81, pS 1 false enc8 e3.pdu)] [0, 1, 2, 3, 4, 5, 6, 7, 8, 9, 10, 11, 12, 13, 14, 15, 16, 17, 18, 19, 20, 21] rfl rfl rfl rfl (fun _ => ?_) (fun e => absurd (e.symm.trans g12) (by decide))
              refine x_run0 [(77, pB (decide (e3.unit = 9))), (81, pS 1 false enc8 e3.pdu)] [0, 1, 2, 3, 4, 5, 6, 7, 8, 9, 10, 11, 12, 13, 14, 15, 16, 17, 18, 19, 20, 21] rfl rfl rfl rfl (s_cvT tab_27 tab_9 rfl tab_5 rfl rfl (hM_sl (f := enc8) rfl) ⟨rfl, rfl, rfl⟩) ?_
              refine x_if [(77, pB (decide (e3.unit = 9))), (7, PV.ptr 3 0)] [0, 1, 2, 3, 4, 5, 6, 7, 8, 9, 10, 11, 12, 13, 14, 15, 16, 17] rfl rfl rfl rfl (fun _ => ?_) (fun e => absurd (e.symm.trans g12) (by decide))
              refine x_run0 [(77, pB (decide (e3.unit = 9))), (7, PV.ptr 3 0)] [0, 1, 2, 3, 4, 5, 6, 7, 8, 9, 10, 11, 12, 13, 14, 15, 16, 17] rfl rfl rfl rfl (s_fa_ptr tab_30 rfl rfl tab_27 (by decide) rfl ⟨rfl, rfl, rfl⟩) ?_
              refine x_if [(77, pB (decide (e3.unit = 9))), (83, PV.ptr 3 2)] [0, 1, 2, 3, 4, 5, 6, 7, 8, 9, 10, 11, 12, 13, 14, 15, 16, 17, 23] rfl rfl rfl rfl (fun _ => ?_) (fun e => absurd (e.symm.trans g12) (by decide))
              refine x_run [(77, pB (decide (e3.unit = 9))), (83, PV.ptr 3 2)] [0, 1, 2, 3, 4, 5, 6, 7, 8, 9, 10, 11, 12, 13, 14, 15, 16, 17, 23] [(3, .obj [pI 5, pI 9, PV.ref 2 0 none])] [] [(3, .obj [pI 5, pI 9, PV.ref 2 0 none])] [] [(0, .obj [pS 1 false enc8 ([] : List UInt8), pB false]), (2, oB false 1 enc8 (([1] : List UInt8) ++ (h.take (min h.length 60)))), (3, .obj [pI 5, pI 9, PV.ref 2 0 none])] rfl rfl rfl rfl rfl rfl (s_load_ptr1 tab_27 rfl rfl rfl rfl rfl ⟨rfl, rfl, rfl⟩) rfl ⟨rfl, trivial⟩ rfl rfl ?_
              refine x_if [(77, pB (decide (e3.unit = 9))), (84, PV.ref 2 0 none)] [0, 1, 2, 3, 4, 5, 6, 7, 8, 9, 10, 11, 12, 13, 14, 15, 16, 17, 23, 24] rfl rfl rfl rfl (fun _ => ?_) (fun e => absurd (e.symm.trans g12) (by decide))
              refine x_run [(77, pB (decide (e3.unit = 9))), (84, PV.ref 2 0 none)] [0, 1, 2, 3, 4, 5, 6, 7, 8, 9, 10, 11, 12, 13, 14, 15, 16, 17, 23, 24] [(2, oB false 1 enc8 (([1] : List UInt8) ++ (h.take (min h.length 60))))] [] [(2, oB false 1 enc8 (([1] : List UInt8) ++ (h.take (min h.length 60))))] [] [(0, .obj [pS 1 false enc8 ([] : List UInt8), pB false]), (2, oB false 1 enc8 (([1] : List UInt8) ++ (h.take (min h.length 60)))), (3, .obj [pI 5, pI 9, PV.ref 2 0 none])] rfl rfl rfl rfl rfl rfl (s_cvT tab_27 tab_9 rfl tab_5 rfl rfl (hM_ref0 (f := enc8) rfl rfl) ⟨rfl, rfl, rfl⟩) rfl ⟨rfl, trivial⟩ rfl rfl ?_
              refine x_if [(77, pB (decide (e3.unit = 9))), (82, pT e3.pdu), (85, pT (([1] : List UInt8) ++ (h.take (min h.length 60))))] [0, 1, 2, 3, 4, 5, 6, 7, 8, 9, 10, 11, 12, 13, 14, 15, 16, 17, 18, 19, 20, 21, 22, 23, 24, 25] rfl rfl rfl rfl (fun _ => ?_) (fun e => absurd (e.symm.trans g12) (by decide))
              refine x_run0 [(77, pB (decide (e3.unit = 9))), (82, pT e3.pdu), (85, pT (([1] : List UInt8) ++ (h.take (min h.length 60))))] [0, 1, 2, 3, 4, 5, 6, 7, 8, 9, 10, 11, 12, 13, 14, 15, 16, 17, 18, 19, 20, 21, 22, 23, 24, 25] rfl rfl rfl rfl (s_eqtext (l := e3.pdu) (m := ([1] : List UInt8) ++ (h.take (min h.length 60))) rfl rfl ⟨rfl, rfl, rfl⟩) ?_
              refine d_op ?_
              refine x_run0 [(77, pB (decide (e3.unit = 9))), (86, pB (decide (e3.pdu = ([1] : List UInt8) ++ (h.take (min h.length 60)))))] [0, 1, 2, 3, 4, 5, 6, 7, 8, 9, 10, 11, 12, 13, 14, 15, 16, 17, 18, 19, 20, 21, 22, 23, 24, 25, 26] rfl rfl rfl rfl (s_pick_t rfl g12 rfl ⟨rfl, rfl, rfl⟩) ?_
              refine d_op ?_
              refine x_run0 [(87, pB (decide (e3.pdu = ([1] : List UInt8) ++ (h.take (min h.length 60)))))] [0, 1, 2, 3, 4, 5, 6, 7, 8, 9, 10, 11, 12, 13, 14, 15, 16, 17, 18, 19, 20, 21, 22, 23, 24, 25, 26, 27] rfl rfl rfl rfl (s_move rfl ⟨rfl, rfl, rfl⟩) ?_
              refine x_if [(88, pB (decide (e3.pdu = ([1] : List UInt8) ++ (h.take (min h.length 60))))), (5, PV.ptr 0 0)] [0, 1, 2, 3, 4, 5, 6, 7, 8, 9, 10, 11, 12, 13, 14, 15, 16, 17, 18, 19, 20, 21, 22, 23, 24, 25, 26, 27, 28] rfl rfl rfl rfl (fun g13 => ?_) (fun g13 => ?_)
              ·
                have g13' := g13
                try simp only [decide_eq_true_eq, decide_eq_false_iff_not, Bool.not_eq_true', Bool.not_eq_false', Bool.not_true, Bool.not_false, Bool.not_eq_eq_eq_not, Int.not_lt, Int.not_le] at g13'
                refine x_run0 [(88, pB (decide (e3.pdu = ([1] : List UInt8) ++ (h.take (min h.length 60))))), (5, PV.ptr 0 0)] [0, 1, 2, 3, 4, 5, 6, 7, 8, 9, 10, 11, 12, 13, 14, 15, 16, 17, 18, 19, 20, 21, 22, 23, 24, 25, 26, 27, 28] rfl rfl rfl rfl (s_move rfl ⟨rfl, rfl, rfl⟩) ?_
                refine x_if [(88, pB (decide (e3.pdu = ([1] : List UInt8) ++ (h.take (min h.length 60))))), (89, PV.ptr 0 0)] [0, 1, 2, 3, 4, 5, 6, 7, 8, 9, 10, 11, 12, 13, 14, 15, 16, 17, 18, 19, 20, 21, 22, 23, 24, 25, 26, 27, 28, 29] rfl rfl rfl rfl (fun _ => ?_) (fun e => absurd (e.symm.trans g13) (by decide))
                refine x_run [(88, pB (decide (e3.pdu = ([1] : List UInt8) ++ (h.take (min h.length 60))))), (89, PV.ptr 0 0)] [0, 1, 2, 3, 4, 5, 6, 7, 8, 9, 10, 11, 12, 13, 14, 15, 16, 17, 18, 19, 20, 21, 22, 23, 24, 25, 26, 27, 28, 29] [] [(0, .obj [pS 1 false enc8 ([] : List UInt8), pB false])] [(0, .obj [pS 1 false enc8 ([] : List UInt8), pB false])] [(0, .obj [pS 1 false enc8 ([] : List UInt8), pB false])] [(0, .obj [pS 1 false enc8 ([] : List UInt8), pB false]), (2, oB false 1 enc8 (([1] : List UInt8) ++ (h.take (min h.length 60)))), (3, .obj [pI 5, pI 9, PV.ref 2 0 none])] rfl rfl rfl rfl rfl rfl (s_callX (r2 := pB false) (nx1 := 4) (H2 := [(0, .obj [pS 1 false enc8 ([] : List UInt8), pB false])]) (H3 := [(0, .obj [pS 1 false enc8 ([] : List UInt8), pB false])]) [0] [.obj [pS 1 false enc8 ([] : List UInt8), pB false]] rfl rfl rfl (handed_of (by decide) ⟨rfl, trivial⟩) rfl rfl rfl rfl rfl rfl (w_mbap_Stream_Closed ([] : List UInt8) false false) rfl (dist_of rfl) rfl rfl rfl rfl ⟨rfl, rfl, rfl⟩) rfl trivial rfl rfl ?_
                refine x_if [(88, pB (decide (e3.pdu = ([1] : List UInt8) ++ (h.take (min h.length 60))))), (90, pB false)] [0, 1, 2, 3, 4, 5, 6, 7, 8, 9, 10, 11, 12, 13, 14, 15, 16, 17, 18, 19, 20, 21, 22, 23, 24, 25, 26, 27, 28, 29, 30] rfl rfl rfl rfl (fun _ => ?_) (fun e => absurd (e.symm.trans g13) (by decide))
                refine x_run0 [(88, pB (decide (e3.pdu = ([1] : List UInt8) ++ (h.take (min h.length 60))))), (90, pB false)] [0, 1, 2, 3, 4, 5, 6, 7, 8, 9, 10, 11, 12, 13, 14, 15, 16, 17, 18, 19, 20, 21, 22, 23, 24, 25, 26, 27, 28, 29, 30] rfl rfl rfl rfl (s_not rfl ⟨rfl, rfl, rfl⟩) ?_
                refine d_op ?_
                refine x_run0 [(88, pB (decide (e3.pdu = ([1] : List UInt8) ++ (h.take (min h.length 60))))), (91, pB (!false))] [0, 1, 2, 3, 4, 5, 6, 7, 8, 9, 10, 11, 12, 13, 14, 15, 16, 17, 18, 19, 20, 21, 22, 23, 24, 25, 26, 27, 28, 29, 30, 31] rfl rfl rfl rfl (s_pick_t rfl g13 rfl ⟨rfl, rfl, rfl⟩) ?_
                refine d_op ?_
                refine x_run0 [(92, pB (!false))] [0, 1, 2, 3, 4, 5, 6, 7, 8, 9, 10, 11, 12, 13, 14, 15, 16, 17, 18, 19, 20, 21, 22, 23, 24, 25, 26, 27, 28, 29, 30, 31, 32] rfl rfl rfl rfl (s_move rfl ⟨rfl, rfl, rfl⟩) ?_
                refine x_if [(93, pB (!false)), (5, PV.ptr 0 0)] [0, 1, 2, 3, 4, 5, 6, 7, 8, 9, 10, 11, 12, 13, 14, 15, 16, 17, 18, 19, 20, 21, 22, 23, 24, 25, 26, 27, 28, 29, 30, 31, 32, 33] rfl rfl rfl rfl (fun g14 => ?_) (fun g14 => ?_)
                ·
                  have g14' := g14
                  try simp only [decide_eq_true_eq, decide_eq_false_iff_not, Bool.not_eq_true', Bool.not_eq_false', Bool.not_true, Bool.not_false, Bool.not_eq_eq_eq_not, Int.not_lt, Int.not_le] at g14'
                  refine x_run0 [(93, pB (!false)), (5, PV.ptr 0 0)] [0, 1, 2, 3, 4, 5, 6, 7, 8, 9, 10, 11, 12, 13, 14, 15, 16, 17, 18, 19, 20, 21, 22, 23, 24, 25, 26, 27, 28, 29, 30, 31, 32, 33] rfl rfl rfl rfl (s_move rfl ⟨rfl, rfl, rfl⟩) ?_
                  refine x_if [(93, pB (!false)), (94, PV.ptr 0 0)] [0, 1, 2, 3, 4, 5, 6, 7, 8, 9, 10, 11, 12, 13, 14, 15, 16, 17, 18, 19, 20, 21, 22, 23, 24, 25, 26, 27, 28, 29, 30, 31, 32, 33, 34] rfl rfl rfl rfl (fun _ => ?_) (fun e => absurd (e.symm.trans g14) (by decide))
                  refine x_run [(93, pB (!false)), (94, PV.ptr 0 0)] [0, 1, 2, 3, 4, 5, 6, 7, 8, 9, 10, 11, 12, 13, 14, 15, 16, 17, 18, 19, 20, 21, 22, 23, 24, 25, 26, 27, 28, 29, 30, 31, 32, 33, 34] [] [(0, .obj [pS 1 false enc8 ([] : List UInt8), pB false])] [(0, .obj [pS 1 false enc8 ([] : List UInt8), pB false])] [(0, .obj [pS 1 false enc8 ([] : List UInt8), pB false])] [(0, .obj [pS 1 false enc8 ([] : List UInt8), pB false]), (2, oB false 1 enc8 (([1] : List UInt8) ++ (h.take (min h.length 60)))), (3, .obj [pI 5, pI 9, PV.ref 2 0 none])] rfl rfl rfl rfl rfl rfl (s_callX (r2 := pN (([] : List UInt8).length)) (nx1 := 4) (H2 := [(0, .obj [pS 1 false enc8 ([] : List UInt8), pB false])]) (H3 := [(0, .obj [pS 1 false enc8 ([] : List UInt8), pB false])]) [0] [.obj [pS 1 false enc8 ([] : List UInt8), pB false]] rfl rfl rfl (handed_of (by decide) ⟨rfl, trivial⟩) rfl rfl rfl rfl rfl rfl (w_mbap_Stream_Len ([] : List UInt8) false false) rfl (dist_of rfl) rfl rfl rfl rfl ⟨rfl, rfl, rfl⟩) rfl trivial rfl rfl ?_
                  refine x_if [(93, pB (!false)), (95, pN (([] : List UInt8).length))] [0, 1, 2, 3, 4, 5, 6, 7, 8, 9, 10, 11, 12, 13, 14, 15, 16, 17, 18, 19, 20, 21, 22, 23, 24, 25, 26, 27, 28, 29, 30, 31, 32, 33, 34, 35] rfl rfl rfl rfl (fun _ => ?_) (fun e => absurd (e.symm.trans g14) (by decide))
                  refine x_run0 [(93, pB (!false)), (95, pN (([] : List UInt8).length))] [0, 1, 2, 3, 4, 5, 6, 7, 8, 9, 10, 11, 12, 13, 14, 15, 16, 17, 18, 19, 20, 21, 22, 23, 24, 25, 26, 27, 28, 29, 30, 31, 32, 33, 34, 35] rfl rfl rfl rfl (s_eql rfl rfl ⟨rfl, rfl, rfl⟩) ?_
                  refine d_op ?_
                  refine x_run0 [(93, pB (!false)), (96, pB (decide (((([] : List UInt8).length : Nat) : Int) = 0)))] [0, 1, 2, 3, 4, 5, 6, 7, 8, 9, 10, 11, 12, 13, 14, 15, 16, 17, 18, 19, 20, 21, 22, 23, 24, 25, 26, 27, 28, 29, 30, 31, 32, 33, 34, 35, 36] rfl rfl rfl rfl (s_pick_t rfl g14 rfl ⟨rfl, rfl, rfl⟩) ?_
                  refine d_op ?_
                  refine x_run0 [(97, pB (decide (((([] : List UInt8).length : Nat) : Int) = 0)))] [0, 1, 2, 3, 4, 5, 6, 7, 8, 9, 10, 11, 12, 13, 14, 15, 16, 17, 18, 19, 20, 21, 22, 23, 24, 25, 26, 27, 28, 29, 30, 31, 32, 33, 34, 35, 36, 37] rfl rfl rfl rfl (s_move rfl ⟨rfl, rfl, rfl⟩) ?_
                  refine x_if [(98, pB (decide (((([] : List UInt8).length : Nat) : Int) = 0)))] [0, 1, 2, 3, 4, 5, 6, 7, 8, 9, 10, 11, 12, 13, 14, 15, 16, 17, 18, 19, 20, 21, 22, 23, 24, 25, 26, 27, 28, 29, 30, 31, 32, 33, 34, 35, 36, 37, 38] rfl rfl rfl rfl (fun g15 => ?_) (fun g15 => ?_)
                  ·
                    have g15' := g15
                    try simp only [decide_eq_true_eq, decide_eq_false_iff_not, Bool.not_eq_true', Bool.not_eq_false', Bool.not_true, Bool.not_false, Bool.not_eq_eq_eq_not, Int.not_lt, Int.not_le] at g15'
                    refine x_run0 [(98, pB (decide (((([] : List UInt8).length : Nat) : Int) = 0)))] [0, 1, 2, 3, 4, 5, 6, 7, 8, 9, 10, 11, 12, 13, 14, 15, 16, 17, 18, 19, 20, 21, 22, 23, 24, 25, 26, 27, 28, 29, 30, 31, 32, 33, 34, 35, 36, 37, 38] rfl rfl rfl rfl (s_callF rfl rfl rfl (w_burgagelaw6_known) rfl ⟨rfl, rfl, rfl⟩) ?_
                    refine d_op ?_
                    refine x_run0 [(98, pB (decide (((([] : List UInt8).length : Nat) : Int) = 0))), (99, pB true)] [0, 1, 2, 3, 4, 5, 6, 7, 8, 9, 10, 11, 12, 13, 14, 15, 16, 17, 18, 19, 20, 21, 22, 23, 24, 25, 26, 27, 28, 29, 30, 31, 32, 33, 34, 35, 36, 37, 38, 39] rfl rfl rfl rfl (s_pick_t rfl g15 rfl ⟨rfl, rfl, rfl⟩) ?_
                    refine d_op ?_
                    refine x_run0 [(100, pB true)] [0, 1, 2, 3, 4, 5, 6, 7, 8, 9, 10, 11, 12, 13, 14, 15, 16, 17, 18, 19, 20, 21, 22, 23, 24, 25, 26, 27, 28, 29, 30, 31, 32, 33, 34, 35, 36, 37, 38, 39, 40] rfl rfl rfl rfl (s_assign rfl ⟨rfl, rfl, rfl⟩) ?_
                    refine d_end ⟨by kernel_rfl, ?_⟩
                    refine q_then ?_
                    refine w_ret ?_
                    exact fin_plain (ret_tmp rfl ret_nil) rfl rfl ⟨rfl, rfl, rfl⟩
                  ·
                    exact absurd g15 (by first | (simp; done) | (simp at he2; subst he2; simp; done) | (simp at he3; subst he3; simp; done))
                ·
                  exact absurd g14 (by first | (simp; done) | (simp at he2; subst he2; simp; done) | (simp at he3; subst he3; simp; done))
              ·
                exact absurd g13 (by first | (simp; done) | (simp at he2; subst he2; simp; done) | (simp at he3; subst he3; simp; done))
            ·
              exact absurd g12 (by first | (simp; done) | (simp at he2; subst he2; simp; done) | (simp at he3; subst he3; simp; done))
          ·
            exact absurd g11 (by first | (simp; done) | (simp at he2; subst he2; simp; done) | (simp at he3; subst he3; simp; done))
        ·
          exact absurd g10 (by first | (simp; done) | (simp at he2; subst he2; simp; done) | (simp at he3; subst he3; simp; done))

end Go.Proofs.Ytfbmlnajnlekbaa
