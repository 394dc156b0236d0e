/- Walks: printed by a program of this session (wip/tools/walk2.py) out of its notes. -/
import Derived.Test.YteedhlgdbankiaaWQuota
set_option linter.unusedVariables false
set_option linter.unusedSimpArgs false
set_option maxRecDepth 10000
set_option maxHeartbeats 1000000
namespace Go.Proofs.Yteedhlgdbankiaa
open Go Go.Proofs.Yteedhlgdbankiaa.Pv

theorem w_burgagelaw20_known   :
    T Try.prog 16 [] 0 [] (Ret (pB true) 0 []) := by
  refine t_fun tabOk (n := 94) (rs := [.tmp 0]) Try.func16 rfl rfl rfl rfl (Nat.le_of_ble_eq_true rfl) ?_
  intro c hnt hk
  refine w_seq ?_
  refine w_R ?_
  refine r_op tabOk hnt rfl (s_assign rfl ?_) 
  refine r_end ?_
  refine q_then ?_
  refine w_seq ?_
  refine w_R ?_
  refine r_op tabOk hnt rfl (s_callX (r2 := PV.ptr 0 0) (nx1 := 2) (H2 := []) (H3 := [(0, .obj [PV.ref 1 0 none, pI (max 1 (min 1 64)), pI 0]), (1, oB false 3 eMsg ([] : List TMsg))]) [] [] rfl rfl rfl (handed_of (by decide) trivial) rfl rfl rfl rfl rfl rfl (w_quota_New 1) rfl (dist_of rfl) rfl rfl rfl rfl ?_) 
  refine r_op tabOk hnt rfl (s_assign rfl ?_) 
  refine r_set [(1, PV.ptr 0 0)] [(0, .obj [PV.ref 1 0 none, pI (max 1 (min 1 64)), pI 0]), (1, oB false 3 eMsg ([] : List TMsg))] 2 ⟨rfl, trivial⟩ rfl rfl ?_
  refine r_end ?_
  refine q_then ?_
  refine w_seq ?_
  refine w_seq ?_
  refine w_R ?_
  refine r_op tabOk hnt rfl (s_move rfl ?_) 
  refine r_op tabOk hnt rfl (s_ptrnil tab_30 rfl rfl trivial ?_) 
  refine r_end ?_
  refine q_then ?_
  refine w_if rfl (fun e => absurd e (by decide)) (fun _ => ?_)
  refine w_skip ?_
  refine q_then ?_
  refine w_seq ?_
  refine w_H (H' := [(0, .obj [PV.ref 1 0 none, pI (max 1 (min 1 64)), pI 0]), (1, oB false 3 eMsg ([] : List TMsg))]) (congrArg (fun z => ([(0, .obj [PV.ref 1 0 none, pI (max 1 (min 1 64)), pI 0]), (1, oB false 3 eMsg z)] : Heap)) (show ([] : List TMsg) = ([] : List TMsg) by decide)) ?_
  refine w_leC (n := 0) (j := 1) (y := pI 1) rfl rfl (le_of_eq (congrArg (fun z : Int => pI z) (show max 1 (min 1 64) = 1 by decide))) ?_
  refine w_leC (n := 0) (j := 2) (y := pI 0) rfl rfl (le_of_eq (congrArg (fun z : Int => pI z) (show 0 = 0 by decide))) ?_
  refine w_R ?_
  refine r_op tabOk hnt rfl (s_move rfl ?_) 
  refine r_op tabOk hnt rfl (s_mkM (f := enc8) [5] tab_23 rfl tab_5 ⟨rfl, by decide⟩ (by decide) rfl rfl rfl rfl ?_) 
  refine r_op tabOk hnt rfl (s_build tab_33 rfl rfl (b_cons rfl tab_3 rfl rfl rfl (Nat.le_of_ble_eq_true rfl) (b_cons rfl tab_23 rfl rfl rfl (Nat.le_of_ble_eq_true rfl) (b_nil ?_)))) 
  refine r_op tabOk hnt rfl (s_callX (r2 := pB (decide ((([] : List TMsg).length : Int) < 1))) (nx1 := 4) (H2 := [(2, oB false 1 enc8 [5]), (0, .obj [PV.ref 1 0 none, pI 1, pI 0]), (1, oB false 3 eMsg ([] : List TMsg))]) (H3 := [(0, .obj [PV.ref 3 0 none, pI 1, pI (qR ([] : List TMsg) 1 0)]), (3, oB false 3 eMsg (qL ([] : List TMsg) 1 (⟨1, 0, [5]⟩ : TMsg))), (2, oB false 1 enc8 [5])]) [0, 1] [.obj [PV.ref 1 0 none, pI 1, pI 0], oB false 3 eMsg ([] : List TMsg)] rfl rfl rfl (handed_of (by decide) ⟨rfl, rfl, trivial⟩) rfl rfl rfl rfl rfl rfl (w_quota_Queue_Put ([] : List TMsg) 1 0 (⟨1, 0, [5]⟩ : TMsg) (by first | omega | assumption | (simp; omega) | decide | (simp; done)) (by first | omega | assumption | (simp; omega) | decide | (simp; done)) (by first | omega | assumption | (simp; omega) | decide | (simp; done))) rfl (dist_of rfl) rfl rfl rfl rfl ?_) 
  refine r_op tabOk hnt rfl (s_move rfl ?_) 
  refine r_op tabOk hnt rfl (s_build tab_33 rfl rfl (b_cons rfl tab_3 rfl rfl rfl (Nat.le_of_ble_eq_true rfl) (b_nil ?_))) 
  refine r_op tabOk hnt rfl (s_callX (r2 := pB (decide (((qL ([] : List TMsg) 1 (⟨1, 0, [5]⟩ : TMsg)).length : Int) < 1))) (nx1 := 5) (H2 := [(0, .obj [PV.ref 3 0 none, pI 1, pI (qR ([] : List TMsg) 1 0)]), (3, oB false 3 eMsg (qL ([] : List TMsg) 1 (⟨1, 0, [5]⟩ : TMsg))), (2, oB false 1 enc8 [5])]) (H3 := [(0, .obj [PV.ref 4 0 none, pI 1, pI (qR (qL ([] : List TMsg) 1 (⟨1, 0, [5]⟩ : TMsg)) 1 (qR ([] : List TMsg) 1 0))]), (4, oB false 3 eMsg (qL (qL ([] : List TMsg) 1 (⟨1, 0, [5]⟩ : TMsg)) 1 (⟨2, 0, []⟩ : TMsg))), (2, oB false 1 enc8 [5])]) [0, 3] [.obj [PV.ref 3 0 none, pI 1, pI (qR ([] : List TMsg) 1 0)], oB false 3 eMsg (qL ([] : List TMsg) 1 (⟨1, 0, [5]⟩ : TMsg))] rfl rfl rfl (handed_of (by decide) ⟨rfl, rfl, trivial⟩) rfl rfl rfl rfl rfl rfl (T.leL (args := [PV.ptr 0 0, PV.f (.agg [encI 2, encI 0, FV.v (.slice none 0 0)])]) (args' := [PV.ptr 0 0, PV.f (eMsg (⟨2, 0, []⟩ : TMsg))]) ⟨le_refl _, ⟨le_F (FLe.agg ⟨FLe.refl _, FLe.refl _, FLe.nil 1 false, trivial⟩), trivial⟩⟩ (w_quota_Queue_Put (qL ([] : List TMsg) 1 (⟨1, 0, [5]⟩ : TMsg)) 1 (qR ([] : List TMsg) 1 0) (⟨2, 0, []⟩ : TMsg) (by first | omega | assumption | (simp; omega) | decide | (simp; done)) (by first | omega | assumption | (simp; omega) | decide | (simp; done)) (by first | omega | assumption | (simp; omega) | decide | (simp; done)))) rfl (dist_of rfl) rfl rfl rfl rfl ?_) 
  refine r_op tabOk hnt rfl (s_assign rfl ?_) 
  refine r_op tabOk hnt rfl (s_assign rfl ?_) 
  refine r_set [(1, PV.ptr 0 0), (2, pB (decide ((([] : List TMsg).length : Int) < 1))), (3, pB (decide (((qL ([] : List TMsg) 1 (⟨1, 0, [5]⟩ : TMsg)).length : Int) < 1)))] [(0, .obj [PV.ref 4 0 none, pI 1, pI (qR (qL ([] : List TMsg) 1 (⟨1, 0, [5]⟩ : TMsg)) 1 (qR ([] : List TMsg) 1 0))]), (4, oB false 3 eMsg (qL (qL ([] : List TMsg) 1 (⟨1, 0, [5]⟩ : TMsg)) 1 (⟨2, 0, []⟩ : TMsg))), (2, oB false 1 enc8 [5])] 5 ⟨rfl, rfl, rfl, trivial⟩ rfl rfl ?_
  refine r_end ?_
  refine q_then ?_
  refine w_seq ?_
  refine w_H (H' := [(0, .obj [PV.ref 4 0 none, pI 1, pI (qR (qL ([] : List TMsg) 1 (⟨1, 0, [5]⟩ : TMsg)) 1 (qR ([] : List TMsg) 1 0))]), (4, oB false 3 eMsg ([⟨1, 0, [5]⟩] : List TMsg)), (2, oB false 1 enc8 [5])]) (congrArg (fun z => ([(0, .obj [PV.ref 4 0 none, pI 1, pI (qR (qL ([] : List TMsg) 1 (⟨1, 0, [5]⟩ : TMsg)) 1 (qR ([] : List TMsg) 1 0))]), (4, oB false 3 eMsg z), (2, oB false 1 enc8 [5])] : Heap)) (show qL (qL ([] : List TMsg) 1 (⟨1, 0, [5]⟩ : TMsg)) 1 (⟨2, 0, []⟩ : TMsg) = ([⟨1, 0, [5]⟩] : List TMsg) by decide)) ?_
  refine w_leC (n := 0) (j := 2) (y := pI 1) rfl rfl (le_of_eq (congrArg (fun z : Int => pI z) (show qR (qL ([] : List TMsg) 1 (⟨1, 0, [5]⟩ : TMsg)) 1 (qR ([] : List TMsg) 1 0) = 1 by decide))) ?_
  refine w_R ?_
  refine r_op tabOk hnt rfl (s_move rfl ?_) 
  refine r_op tabOk hnt rfl (s_callX (r2 := pS 3 true eMsg ([⟨1, 0, [5]⟩] : List TMsg)) (nx1 := 6) (H2 := [(0, .obj [PV.ref 4 0 none, pI 1, pI 1]), (4, oB false 3 eMsg ([⟨1, 0, [5]⟩] : List TMsg)), (2, oB false 1 enc8 [5])]) (H3 := [(0, .obj [PV.ref 5 0 none, pI 1, pI 1]), (5, oB false 3 eMsg ([⟨1, 0, [5]⟩] : List TMsg)), (2, oB false 1 enc8 [5])]) [0, 4] [.obj [PV.ref 4 0 none, pI 1, pI 1], oB false 3 eMsg ([⟨1, 0, [5]⟩] : List TMsg)] rfl rfl rfl (handed_of (by decide) ⟨rfl, rfl, trivial⟩) rfl rfl rfl rfl rfl rfl (w_quota_Queue_All ([⟨1, 0, [5]⟩] : List TMsg) 1 1 (by first | omega | assumption | (simp; omega) | decide | (simp; done)) (by first | omega | assumption | (simp; omega) | decide | (simp; done))) rfl (dist_of rfl) rfl rfl rfl rfl ?_) 
  refine r_op tabOk hnt rfl (s_assign rfl ?_) 
  refine r_set [(1, PV.ptr 0 0), (2, pB (decide ((([] : List TMsg).length : Int) < 1))), (3, pB (decide (((qL ([] : List TMsg) 1 (⟨1, 0, [5]⟩ : TMsg)).length : Int) < 1))), (4, pS 3 true eMsg ([⟨1, 0, [5]⟩] : List TMsg))] [(0, .obj [PV.ref 5 0 none, pI 1, pI 1]), (5, oB false 3 eMsg ([⟨1, 0, [5]⟩] : List TMsg)), (2, oB false 1 enc8 [5])] 6 ⟨rfl, rfl, rfl, rfl, trivial⟩ rfl rfl ?_
  refine r_end ?_
  refine q_then ?_
  refine w_seq ?_
  refine w_R ?_
  refine r_op tabOk hnt rfl (s_move rfl ?_) 
  refine r_op tabOk hnt rfl (s_callX (r2 := pN (([⟨1, 0, [5]⟩] : List TMsg).length)) (nx1 := 7) (H2 := [(0, .obj [PV.ref 5 0 none, pI 1, pI 1]), (5, oB false 3 eMsg ([⟨1, 0, [5]⟩] : List TMsg)), (2, oB false 1 enc8 [5])]) (H3 := [(0, .obj [PV.ref 6 0 none, pI 1, pI 1]), (6, oB false 3 eMsg ([⟨1, 0, [5]⟩] : List TMsg)), (2, oB false 1 enc8 [5])]) [0, 5] [.obj [PV.ref 5 0 none, pI 1, pI 1], oB false 3 eMsg ([⟨1, 0, [5]⟩] : List TMsg)] rfl rfl rfl (handed_of (by decide) ⟨rfl, rfl, trivial⟩) rfl rfl rfl rfl rfl rfl (w_quota_Queue_Len ([⟨1, 0, [5]⟩] : List TMsg) 1 1) rfl (dist_of rfl) rfl rfl rfl rfl ?_) 
  refine r_op tabOk hnt rfl (s_assign rfl ?_) 
  refine r_set [(1, PV.ptr 0 0), (2, pB (decide ((([] : List TMsg).length : Int) < 1))), (3, pB (decide (((qL ([] : List TMsg) 1 (⟨1, 0, [5]⟩ : TMsg)).length : Int) < 1))), (4, pS 3 true eMsg ([⟨1, 0, [5]⟩] : List TMsg)), (5, pN (([⟨1, 0, [5]⟩] : List TMsg).length))] [(0, .obj [PV.ref 6 0 none, pI 1, pI 1]), (6, oB false 3 eMsg ([⟨1, 0, [5]⟩] : List TMsg)), (2, oB false 1 enc8 [5])] 7 ⟨rfl, rfl, rfl, rfl, rfl, trivial⟩ rfl rfl ?_
  refine r_end ?_
  refine q_then ?_
  refine w_seq ?_
  refine w_R ?_
  refine r_op tabOk hnt rfl (s_move rfl ?_) 
  refine r_op tabOk hnt rfl (s_callX (r2 := PV.tup [PV.f (eMsg (headM ([⟨1, 0, [5]⟩] : List TMsg))), pB (decide (0 < ([⟨1, 0, [5]⟩] : List TMsg).length))]) (nx1 := 8) (H2 := [(0, .obj [PV.ref 6 0 none, pI 1, pI 1]), (6, oB false 3 eMsg ([⟨1, 0, [5]⟩] : List TMsg)), (2, oB false 1 enc8 [5])]) (H3 := [(0, .obj [PV.ref 7 0 none, pI 1, pI 1]), (7, oB false 3 eMsg (([⟨1, 0, [5]⟩] : List TMsg).tail)), (2, oB false 1 enc8 [5])]) [0, 6] [.obj [PV.ref 6 0 none, pI 1, pI 1], oB false 3 eMsg ([⟨1, 0, [5]⟩] : List TMsg)] rfl rfl rfl (handed_of (by decide) ⟨rfl, rfl, trivial⟩) rfl rfl rfl rfl rfl rfl (w_quota_Queue_Take ([⟨1, 0, [5]⟩] : List TMsg) 1 1 (by first | omega | assumption | (simp; omega) | decide | (simp; done))) rfl (dist_of rfl) rfl rfl rfl rfl ?_) 
  refine r_op tabOk hnt rfl (s_move rfl ?_) 
  refine r_op tabOk hnt rfl (s_extract rfl rfl ?_) 
  refine r_op tabOk hnt rfl (s_extract rfl rfl ?_) 
  refine r_op tabOk hnt rfl (s_alloc tab_33 ?_) 
  refine r_op tabOk hnt rfl (s_store_ptr tab_33 rfl rfl rfl rfl rfl (Nat.le_of_ble_eq_true rfl) ?_) 
  refine r_op tabOk hnt rfl (s_assign rfl ?_) 
  refine r_set [(1, PV.ptr 0 0), (2, pB (decide ((([] : List TMsg).length : Int) < 1))), (3, pB (decide (((qL ([] : List TMsg) 1 (⟨1, 0, [5]⟩ : TMsg)).length : Int) < 1))), (4, pS 3 true eMsg ([⟨1, 0, [5]⟩] : List TMsg)), (5, pN (([⟨1, 0, [5]⟩] : List TMsg).length)), (6, PV.ptr 8 0), (7, pB (decide (0 < ([⟨1, 0, [5]⟩] : List TMsg).length)))] [(8, .obj [pI ((headM ([⟨1, 0, [5]⟩] : List TMsg)).id), pI ((headM ([⟨1, 0, [5]⟩] : List TMsg)).unit), pS 1 false enc8 ((headM ([⟨1, 0, [5]⟩] : List TMsg)).pdu)]), (0, .obj [PV.ref 7 0 none, pI 1, pI 1]), (7, oB false 3 eMsg (([⟨1, 0, [5]⟩] : List TMsg).tail)), (2, oB false 1 enc8 [5])] 9 ⟨rfl, rfl, rfl, rfl, rfl, rfl, rfl, trivial⟩ rfl rfl ?_
  refine r_end ?_
  refine q_then ?_
  refine w_seq ?_
  refine w_R ?_
  refine r_op tabOk hnt rfl (s_move rfl ?_) 
  refine r_op tabOk hnt rfl (s_callX (r2 := PV.tup [PV.f (eMsg (headM (([⟨1, 0, [5]⟩] : List TMsg).tail))), pB (decide (0 < (([⟨1, 0, [5]⟩] : List TMsg).tail).length))]) (nx1 := 10) (H2 := [(8, .obj [pI ((headM ([⟨1, 0, [5]⟩] : List TMsg)).id), pI ((headM ([⟨1, 0, [5]⟩] : List TMsg)).unit), pS 1 false enc8 ((headM ([⟨1, 0, [5]⟩] : List TMsg)).pdu)]), (0, .obj [PV.ref 7 0 none, pI 1, pI 1]), (7, oB false 3 eMsg (([⟨1, 0, [5]⟩] : List TMsg).tail)), (2, oB false 1 enc8 [5])]) (H3 := [(0, .obj [PV.ref 9 0 none, pI 1, pI 1]), (9, oB false 3 eMsg ((([⟨1, 0, [5]⟩] : List TMsg).tail).tail)), (8, .obj [pI ((headM ([⟨1, 0, [5]⟩] : List TMsg)).id), pI ((headM ([⟨1, 0, [5]⟩] : List TMsg)).unit), pS 1 false enc8 ((headM ([⟨1, 0, [5]⟩] : List TMsg)).pdu)]), (2, oB false 1 enc8 [5])]) [0, 7] [.obj [PV.ref 7 0 none, pI 1, pI 1], oB false 3 eMsg (([⟨1, 0, [5]⟩] : List TMsg).tail)] rfl rfl rfl (handed_of (by decide) ⟨rfl, rfl, trivial⟩) rfl rfl rfl rfl rfl rfl (w_quota_Queue_Take (([⟨1, 0, [5]⟩] : List TMsg).tail) 1 1 (by first | omega | assumption | (simp; omega) | decide | (simp; done))) rfl (dist_of rfl) rfl rfl rfl rfl ?_) 
  refine r_op tabOk hnt rfl (s_move rfl ?_) 
  refine r_op tabOk hnt rfl (s_extract rfl rfl ?_) 
  refine r_op tabOk hnt rfl (s_extract rfl rfl ?_) 
  refine r_op tabOk hnt rfl (s_alloc tab_33 ?_) 
  refine r_op tabOk hnt rfl (s_store_ptr tab_33 rfl rfl rfl rfl rfl (Nat.le_of_ble_eq_true rfl) ?_) 
  refine r_op tabOk hnt rfl (s_assign rfl ?_) 
  refine r_set [(1, PV.ptr 0 0), (2, pB (decide ((([] : List TMsg).length : Int) < 1))), (3, pB (decide (((qL ([] : List TMsg) 1 (⟨1, 0, [5]⟩ : TMsg)).length : Int) < 1))), (4, pS 3 true eMsg ([⟨1, 0, [5]⟩] : List TMsg)), (5, pN (([⟨1, 0, [5]⟩] : List TMsg).length)), (6, PV.ptr 8 0), (7, pB (decide (0 < ([⟨1, 0, [5]⟩] : List TMsg).length))), (9, pB (decide (0 < (([⟨1, 0, [5]⟩] : List TMsg).tail).length)))] [(10, .obj [pI ((headM (([⟨1, 0, [5]⟩] : List TMsg).tail)).id), pI ((headM (([⟨1, 0, [5]⟩] : List TMsg).tail)).unit), pS 1 false enc8 ((headM (([⟨1, 0, [5]⟩] : List TMsg).tail)).pdu)]), (0, .obj [PV.ref 9 0 none, pI 1, pI 1]), (9, oB false 3 eMsg ((([⟨1, 0, [5]⟩] : List TMsg).tail).tail)), (8, .obj [pI ((headM ([⟨1, 0, [5]⟩] : List TMsg)).id), pI ((headM ([⟨1, 0, [5]⟩] : List TMsg)).unit), pS 1 false enc8 ((headM ([⟨1, 0, [5]⟩] : List TMsg)).pdu)]), (2, oB false 1 enc8 [5])] 11 ⟨rfl, rfl, rfl, rfl, rfl, rfl, rfl, rfl, trivial⟩ rfl rfl ?_
  refine r_end ?_
  refine q_then ?_
  refine w_seq ?_
  refine w_H (H' := [(10, .obj [pI ((headM (([⟨1, 0, [5]⟩] : List TMsg).tail)).id), pI ((headM (([⟨1, 0, [5]⟩] : List TMsg).tail)).unit), pS 1 false enc8 ((headM (([⟨1, 0, [5]⟩] : List TMsg).tail)).pdu)]), (0, .obj [PV.ref 9 0 none, pI 1, pI 1]), (9, oB false 3 eMsg ([] : List TMsg)), (8, .obj [pI ((headM ([⟨1, 0, [5]⟩] : List TMsg)).id), pI ((headM ([⟨1, 0, [5]⟩] : List TMsg)).unit), pS 1 false enc8 ((headM ([⟨1, 0, [5]⟩] : List TMsg)).pdu)]), (2, oB false 1 enc8 [5])]) (congrArg (fun z => ([(10, .obj [pI ((headM (([⟨1, 0, [5]⟩] : List TMsg).tail)).id), pI ((headM (([⟨1, 0, [5]⟩] : List TMsg).tail)).unit), pS 1 false enc8 ((headM (([⟨1, 0, [5]⟩] : List TMsg).tail)).pdu)]), (0, .obj [PV.ref 9 0 none, pI 1, pI 1]), (9, oB false 3 eMsg z), (8, .obj [pI ((headM ([⟨1, 0, [5]⟩] : List TMsg)).id), pI ((headM ([⟨1, 0, [5]⟩] : List TMsg)).unit), pS 1 false enc8 ((headM ([⟨1, 0, [5]⟩] : List TMsg)).pdu)]), (2, oB false 1 enc8 [5])] : Heap)) (show (([⟨1, 0, [5]⟩] : List TMsg).tail).tail = ([] : List TMsg) by decide)) ?_
  refine w_R ?_
  refine r_op tabOk hnt rfl (s_move rfl ?_) 
  refine r_op tabOk hnt rfl (s_build tab_33 rfl rfl (b_cons rfl tab_3 rfl rfl rfl (Nat.le_of_ble_eq_true rfl) (b_nil ?_))) 
  refine r_op tabOk hnt rfl (s_callX (r2 := pB (decide ((([] : List TMsg).length : Int) < 1))) (nx1 := 12) (H2 := [(10, .obj [pI ((headM (([⟨1, 0, [5]⟩] : List TMsg).tail)).id), pI ((headM (([⟨1, 0, [5]⟩] : List TMsg).tail)).unit), pS 1 false enc8 ((headM (([⟨1, 0, [5]⟩] : List TMsg).tail)).pdu)]), (0, .obj [PV.ref 9 0 none, pI 1, pI 1]), (9, oB false 3 eMsg ([] : List TMsg)), (8, .obj [pI ((headM ([⟨1, 0, [5]⟩] : List TMsg)).id), pI ((headM ([⟨1, 0, [5]⟩] : List TMsg)).unit), pS 1 false enc8 ((headM ([⟨1, 0, [5]⟩] : List TMsg)).pdu)]), (2, oB false 1 enc8 [5])]) (H3 := [(0, .obj [PV.ref 11 0 none, pI 1, pI (qR ([] : List TMsg) 1 1)]), (11, oB false 3 eMsg (qL ([] : List TMsg) 1 (⟨3, 0, []⟩ : TMsg))), (10, .obj [pI ((headM (([⟨1, 0, [5]⟩] : List TMsg).tail)).id), pI ((headM (([⟨1, 0, [5]⟩] : List TMsg).tail)).unit), pS 1 false enc8 ((headM (([⟨1, 0, [5]⟩] : List TMsg).tail)).pdu)]), (8, .obj [pI ((headM ([⟨1, 0, [5]⟩] : List TMsg)).id), pI ((headM ([⟨1, 0, [5]⟩] : List TMsg)).unit), pS 1 false enc8 ((headM ([⟨1, 0, [5]⟩] : List TMsg)).pdu)]), (2, oB false 1 enc8 [5])]) [0, 9] [.obj [PV.ref 9 0 none, pI 1, pI 1], oB false 3 eMsg ([] : List TMsg)] rfl rfl rfl (handed_of (by decide) ⟨rfl, rfl, trivial⟩) rfl rfl rfl rfl rfl rfl (T.leL (args := [PV.ptr 0 0, PV.f (.agg [encI 3, encI 0, FV.v (.slice none 0 0)])]) (args' := [PV.ptr 0 0, PV.f (eMsg (⟨3, 0, []⟩ : TMsg))]) ⟨le_refl _, ⟨le_F (FLe.agg ⟨FLe.refl _, FLe.refl _, FLe.nil 1 false, trivial⟩), trivial⟩⟩ (w_quota_Queue_Put ([] : List TMsg) 1 1 (⟨3, 0, []⟩ : TMsg) (by first | omega | assumption | (simp; omega) | decide | (simp; done)) (by first | omega | assumption | (simp; omega) | decide | (simp; done)) (by first | omega | assumption | (simp; omega) | decide | (simp; done)))) rfl (dist_of rfl) rfl rfl rfl rfl ?_) 
  refine r_set [(1, PV.ptr 0 0), (2, pB (decide ((([] : List TMsg).length : Int) < 1))), (3, pB (decide (((qL ([] : List TMsg) 1 (⟨1, 0, [5]⟩ : TMsg)).length : Int) < 1))), (4, pS 3 true eMsg ([⟨1, 0, [5]⟩] : List TMsg)), (5, pN (([⟨1, 0, [5]⟩] : List TMsg).length)), (6, PV.ptr 8 0), (7, pB (decide (0 < ([⟨1, 0, [5]⟩] : List TMsg).length))), (9, pB (decide (0 < (([⟨1, 0, [5]⟩] : List TMsg).tail).length)))] [(0, .obj [PV.ref 11 0 none, pI 1, pI (qR ([] : List TMsg) 1 1)]), (11, oB false 3 eMsg (qL ([] : List TMsg) 1 (⟨3, 0, []⟩ : TMsg))), (10, .obj [pI ((headM (([⟨1, 0, [5]⟩] : List TMsg).tail)).id), pI ((headM (([⟨1, 0, [5]⟩] : List TMsg).tail)).unit), pS 1 false enc8 ((headM (([⟨1, 0, [5]⟩] : List TMsg).tail)).pdu)]), (8, .obj [pI ((headM ([⟨1, 0, [5]⟩] : List TMsg)).id), pI ((headM ([⟨1, 0, [5]⟩] : List TMsg)).unit), pS 1 false enc8 ((headM ([⟨1, 0, [5]⟩] : List TMsg)).pdu)]), (2, oB false 1 enc8 [5])] 12 ⟨rfl, rfl, rfl, rfl, rfl, rfl, rfl, rfl, trivial⟩ rfl rfl ?_
  refine r_end ?_
  refine q_then ?_
  refine w_seq ?_
  refine w_H (H' := [(0, .obj [PV.ref 11 0 none, pI 1, pI (qR ([] : List TMsg) 1 1)]), (11, oB false 3 eMsg ([⟨3, 0, []⟩] : List TMsg)), (10, .obj [pI ((headM (([⟨1, 0, [5]⟩] : List TMsg).tail)).id), pI ((headM (([⟨1, 0, [5]⟩] : List TMsg).tail)).unit), pS 1 false enc8 ((headM (([⟨1, 0, [5]⟩] : List TMsg).tail)).pdu)]), (8, .obj [pI ((headM ([⟨1, 0, [5]⟩] : List TMsg)).id), pI ((headM ([⟨1, 0, [5]⟩] : List TMsg)).unit), pS 1 false enc8 ((headM ([⟨1, 0, [5]⟩] : List TMsg)).pdu)]), (2, oB false 1 enc8 [5])]) (congrArg (fun z => ([(0, .obj [PV.ref 11 0 none, pI 1, pI (qR ([] : List TMsg) 1 1)]), (11, oB false 3 eMsg z), (10, .obj [pI ((headM (([⟨1, 0, [5]⟩] : List TMsg).tail)).id), pI ((headM (([⟨1, 0, [5]⟩] : List TMsg).tail)).unit), pS 1 false enc8 ((headM (([⟨1, 0, [5]⟩] : List TMsg).tail)).pdu)]), (8, .obj [pI ((headM ([⟨1, 0, [5]⟩] : List TMsg)).id), pI ((headM ([⟨1, 0, [5]⟩] : List TMsg)).unit), pS 1 false enc8 ((headM ([⟨1, 0, [5]⟩] : List TMsg)).pdu)]), (2, oB false 1 enc8 [5])] : Heap)) (show qL ([] : List TMsg) 1 (⟨3, 0, []⟩ : TMsg) = ([⟨3, 0, []⟩] : List TMsg) by decide)) ?_
  refine w_leC (n := 0) (j := 2) (y := pI 1) rfl rfl (le_of_eq (congrArg (fun z : Int => pI z) (show qR ([] : List TMsg) 1 1 = 1 by decide))) ?_
  refine w_R ?_
  refine r_op tabOk hnt rfl (s_move rfl ?_) 
  refine r_op tabOk hnt rfl (s_callX (r2 := pS 3 true eMsg ([⟨3, 0, []⟩] : List TMsg)) (nx1 := 13) (H2 := [(0, .obj [PV.ref 11 0 none, pI 1, pI 1]), (11, oB false 3 eMsg ([⟨3, 0, []⟩] : List TMsg)), (10, .obj [pI ((headM (([⟨1, 0, [5]⟩] : List TMsg).tail)).id), pI ((headM (([⟨1, 0, [5]⟩] : List TMsg).tail)).unit), pS 1 false enc8 ((headM (([⟨1, 0, [5]⟩] : List TMsg).tail)).pdu)]), (8, .obj [pI ((headM ([⟨1, 0, [5]⟩] : List TMsg)).id), pI ((headM ([⟨1, 0, [5]⟩] : List TMsg)).unit), pS 1 false enc8 ((headM ([⟨1, 0, [5]⟩] : List TMsg)).pdu)]), (2, oB false 1 enc8 [5])]) (H3 := [(0, .obj [PV.ref 12 0 none, pI 1, pI 1]), (12, oB false 3 eMsg ([] : List TMsg)), (10, .obj [pI ((headM (([⟨1, 0, [5]⟩] : List TMsg).tail)).id), pI ((headM (([⟨1, 0, [5]⟩] : List TMsg).tail)).unit), pS 1 false enc8 ((headM (([⟨1, 0, [5]⟩] : List TMsg).tail)).pdu)]), (8, .obj [pI ((headM ([⟨1, 0, [5]⟩] : List TMsg)).id), pI ((headM ([⟨1, 0, [5]⟩] : List TMsg)).unit), pS 1 false enc8 ((headM ([⟨1, 0, [5]⟩] : List TMsg)).pdu)]), (2, oB false 1 enc8 [5])]) [0, 11] [.obj [PV.ref 11 0 none, pI 1, pI 1], oB false 3 eMsg ([⟨3, 0, []⟩] : List TMsg)] rfl rfl rfl (handed_of (by decide) ⟨rfl, rfl, trivial⟩) rfl rfl rfl rfl rfl rfl (w_quota_Queue_Clear ([⟨3, 0, []⟩] : List TMsg) 1 1 (by first | omega | assumption | (simp; omega) | decide | (simp; done)) (by first | omega | assumption | (simp; omega) | decide | (simp; done))) rfl (dist_of rfl) rfl rfl rfl rfl ?_) 
  refine r_op tabOk hnt rfl (s_assign rfl ?_) 
  refine r_set [(1, PV.ptr 0 0), (2, pB (decide ((([] : List TMsg).length : Int) < 1))), (3, pB (decide (((qL ([] : List TMsg) 1 (⟨1, 0, [5]⟩ : TMsg)).length : Int) < 1))), (4, pS 3 true eMsg ([⟨1, 0, [5]⟩] : List TMsg)), (5, pN (([⟨1, 0, [5]⟩] : List TMsg).length)), (6, PV.ptr 8 0), (7, pB (decide (0 < ([⟨1, 0, [5]⟩] : List TMsg).length))), (9, pB (decide (0 < (([⟨1, 0, [5]⟩] : List TMsg).tail).length))), (10, pS 3 true eMsg ([⟨3, 0, []⟩] : List TMsg))] [(0, .obj [PV.ref 12 0 none, pI 1, pI 1]), (12, oB false 3 eMsg ([] : List TMsg)), (10, .obj [pI ((headM (([⟨1, 0, [5]⟩] : List TMsg).tail)).id), pI ((headM (([⟨1, 0, [5]⟩] : List TMsg).tail)).unit), pS 1 false enc8 ((headM (([⟨1, 0, [5]⟩] : List TMsg).tail)).pdu)]), (8, .obj [pI ((headM ([⟨1, 0, [5]⟩] : List TMsg)).id), pI ((headM ([⟨1, 0, [5]⟩] : List TMsg)).unit), pS 1 false enc8 ((headM ([⟨1, 0, [5]⟩] : List TMsg)).pdu)]), (2, oB false 1 enc8 [5])] 13 ⟨rfl, rfl, rfl, rfl, rfl, rfl, rfl, rfl, rfl, trivial⟩ rfl rfl ?_
  refine r_end ?_
  refine q_then ?_
  refine w_seq ?_
  refine w_H (H' := [(0, .obj [PV.ref 12 0 none, pI 1, pI 1]), (12, oB false 3 eMsg ([] : List TMsg)), (10, .obj [pI ((headM (([⟨1, 0, [5]⟩] : List TMsg).tail)).id), pI ((headM (([⟨1, 0, [5]⟩] : List TMsg).tail)).unit), pS 1 false enc8 ((headM (([⟨1, 0, [5]⟩] : List TMsg).tail)).pdu)]), (8, .obj [pI ((headM ([⟨1, 0, [5]⟩] : List TMsg)).id), pI ((headM ([⟨1, 0, [5]⟩] : List TMsg)).unit), pS 1 false enc8 ((headM ([⟨1, 0, [5]⟩] : List TMsg)).pdu)]), (2, oB false 1 enc8 [5])]) (congrArg (fun z => ([(0, .obj [PV.ref 12 0 none, pI 1, pI 1]), (12, oB false 3 eMsg z), (10, .obj [pI ((headM (([⟨1, 0, [5]⟩] : List TMsg).tail)).id), pI ((headM (([⟨1, 0, [5]⟩] : List TMsg).tail)).unit), pS 1 false enc8 ((headM (([⟨1, 0, [5]⟩] : List TMsg).tail)).pdu)]), (8, .obj [pI ((headM ([⟨1, 0, [5]⟩] : List TMsg)).id), pI ((headM ([⟨1, 0, [5]⟩] : List TMsg)).unit), pS 1 false enc8 ((headM ([⟨1, 0, [5]⟩] : List TMsg)).pdu)]), (2, oB false 1 enc8 [5])] : Heap)) (show ([] : List TMsg) = ([] : List TMsg) by decide)) ?_
  refine w_R ?_
  refine r_op tabOk hnt rfl (s_move rfl ?_) 
  refine r_op tabOk hnt rfl (s_move rfl ?_) 
  refine r_if tabOk hnt rfl rfl rfl (fun g1 => ?_) (fun g1 => ?_)
  ·
    have g1' := g1
    try simp only [decide_eq_true_eq, decide_eq_false_iff_not, Bool.not_eq_true', Bool.not_eq_false', Bool.not_true, Bool.not_false, Bool.not_eq_eq_eq_not, Int.not_lt, Int.not_le] at g1'
    refine r_op tabOk hnt rfl (s_move rfl ?_) 
    refine r_if tabOk hnt rfl rfl rfl (fun _ => ?_) (fun e => absurd (e.symm.trans g1) (by decide))
    refine r_op tabOk hnt rfl (s_not rfl ?_) 
    refine r_op tabOk hnt rfl (s_pick_t rfl g1 rfl ?_) 
    refine r_op tabOk hnt rfl (s_move rfl ?_) 
    refine r_if tabOk hnt rfl rfl rfl (fun g2 => ?_) (fun g2 => ?_)
    ·
      have g2' := g2
      try simp only [decide_eq_true_eq, decide_eq_false_iff_not, Bool.not_eq_true', Bool.not_eq_false', Bool.not_true, Bool.not_false, Bool.not_eq_eq_eq_not, Int.not_lt, Int.not_le] at g2'
      refine r_op tabOk hnt rfl (s_move rfl ?_) 
      refine r_if tabOk hnt rfl rfl rfl (fun _ => ?_) (fun e => absurd (e.symm.trans g2) (by decide))
      refine r_op tabOk hnt rfl (s_callX (r2 := pI 1) (nx1 := 14) (H2 := [(0, .obj [PV.ref 12 0 none, pI 1, pI 1]), (12, oB false 3 eMsg ([] : List TMsg)), (10, .obj [pI ((headM (([⟨1, 0, [5]⟩] : List TMsg).tail)).id), pI ((headM (([⟨1, 0, [5]⟩] : List TMsg).tail)).unit), pS 1 false enc8 ((headM (([⟨1, 0, [5]⟩] : List TMsg).tail)).pdu)]), (8, .obj [pI ((headM ([⟨1, 0, [5]⟩] : List TMsg)).id), pI ((headM ([⟨1, 0, [5]⟩] : List TMsg)).unit), pS 1 false enc8 ((headM ([⟨1, 0, [5]⟩] : List TMsg)).pdu)]), (2, oB false 1 enc8 [5])]) (H3 := [(0, .obj [PV.ref 13 0 none, pI 1, pI 1]), (13, oB false 3 eMsg ([] : List TMsg)), (10, .obj [pI ((headM (([⟨1, 0, [5]⟩] : List TMsg).tail)).id), pI ((headM (([⟨1, 0, [5]⟩] : List TMsg).tail)).unit), pS 1 false enc8 ((headM (([⟨1, 0, [5]⟩] : List TMsg).tail)).pdu)]), (8, .obj [pI ((headM ([⟨1, 0, [5]⟩] : List TMsg)).id), pI ((headM ([⟨1, 0, [5]⟩] : List TMsg)).unit), pS 1 false enc8 ((headM ([⟨1, 0, [5]⟩] : List TMsg)).pdu)]), (2, oB false 1 enc8 [5])]) [0, 12] [.obj [PV.ref 12 0 none, pI 1, pI 1], oB false 3 eMsg ([] : List TMsg)] rfl rfl rfl (handed_of (by decide) ⟨rfl, rfl, trivial⟩) rfl rfl rfl rfl rfl rfl (w_quota_Queue_Refused ([] : List TMsg) 1 1) rfl (dist_of rfl) rfl rfl rfl rfl ?_) 
      refine r_if tabOk hnt rfl rfl rfl (fun _ => ?_) (fun e => absurd (e.symm.trans g2) (by decide))
      refine r_op tabOk hnt rfl (s_eql rfl rfl ?_) 
      refine r_op tabOk hnt rfl (s_pick_t rfl g2 rfl ?_) 
      refine r_op tabOk hnt rfl (s_move rfl ?_) 
      refine r_if tabOk hnt rfl rfl rfl (fun g3 => ?_) (fun g3 => ?_)
      ·
        have g3' := g3
        try simp only [decide_eq_true_eq, decide_eq_false_iff_not, Bool.not_eq_true', Bool.not_eq_false', Bool.not_true, Bool.not_false, Bool.not_eq_eq_eq_not, Int.not_lt, Int.not_le] at g3'
        refine r_op tabOk hnt rfl (s_move rfl ?_) 
        refine r_if tabOk hnt rfl rfl rfl (fun _ => ?_) (fun e => absurd (e.symm.trans g3) (by decide))
        refine r_op tabOk hnt rfl (s_lenM (l := ([⟨1, 0, [5]⟩] : List TMsg)) tab_39 rfl (hM_sl (f := eMsg) rfl) ?_) 
        refine r_if tabOk hnt rfl rfl rfl (fun _ => ?_) (fun e => absurd (e.symm.trans g3) (by decide))
        refine r_op tabOk hnt rfl (s_eql rfl rfl ?_) 
        refine r_op tabOk hnt rfl (s_pick_t rfl g3 rfl ?_) 
        refine r_op tabOk hnt rfl (s_move rfl ?_) 
        refine r_if tabOk hnt rfl rfl rfl (fun g4 => ?_) (fun g4 => ?_)
        ·
          have g4' := g4
          try simp only [decide_eq_true_eq, decide_eq_false_iff_not, Bool.not_eq_true', Bool.not_eq_false', Bool.not_true, Bool.not_false, Bool.not_eq_eq_eq_not, Int.not_lt, Int.not_le] at g4'
          refine r_op tabOk hnt rfl (s_move rfl ?_) 
          refine r_if tabOk hnt rfl rfl rfl (fun _ => ?_) (fun e => absurd (e.symm.trans g4) (by decide))
          refine r_op tabOk hnt rfl (s_eql rfl rfl ?_) 
          refine r_op tabOk hnt rfl (s_pick_t rfl g4 rfl ?_) 
          refine r_op tabOk hnt rfl (s_move rfl ?_) 
          refine r_if tabOk hnt rfl rfl rfl (fun _ => ?_) (fun e => absurd (e.symm.trans g4) (by decide))
          refine r_op tabOk hnt rfl (s_fa_ptr tab_33 rfl rfl tab_3 (by decide) rfl ?_) 
          refine r_if tabOk hnt rfl rfl rfl (fun _ => ?_) (fun e => absurd (e.symm.trans g4) (by decide))
          refine r_op tabOk hnt rfl (s_load_ptr1 tab_3 rfl rfl rfl rfl rfl ?_) 
          refine r_if tabOk hnt rfl rfl rfl (fun _ => ?_) (fun e => absurd (e.symm.trans g4) (by decide))
          refine r_op tabOk hnt rfl (s_eql rfl rfl ?_) 
          refine r_op tabOk hnt rfl (s_pick_t rfl g4 rfl ?_) 
          refine r_op tabOk hnt rfl (s_move rfl ?_) 
          refine r_if tabOk hnt rfl rfl rfl (fun g5 => ?_) (fun g5 => ?_)
          ·
            have g5' := g5
            try simp only [decide_eq_true_eq, decide_eq_false_iff_not, Bool.not_eq_true', Bool.not_eq_false', Bool.not_true, Bool.not_false, Bool.not_eq_eq_eq_not, Int.not_lt, Int.not_le] at g5'
            refine r_op tabOk hnt rfl (s_fa_ptr tab_33 rfl rfl tab_23 (by decide) rfl ?_) 
            refine r_if tabOk hnt rfl rfl rfl (fun _ => ?_) (fun e => absurd (e.symm.trans g5) (by decide))
            refine r_op tabOk hnt rfl (s_load_ptr1 tab_23 rfl rfl rfl rfl rfl ?_) 
            refine r_if tabOk hnt rfl rfl rfl (fun _ => ?_) (fun e => absurd (e.symm.trans g5) (by decide))
            refine r_op tabOk hnt rfl (s_cvT tab_23 tab_9 rfl tab_5 rfl rfl (hM_sl (f := enc8) rfl) ?_) 
            refine r_if tabOk hnt rfl rfl rfl (fun _ => ?_) (fun e => absurd (e.symm.trans g5) (by decide))
            refine r_op tabOk hnt rfl (s_eqtext (l := (headM ([⟨1, 0, [5]⟩] : List TMsg)).pdu) (m := ([5] : List UInt8)) rfl rfl ?_) 
            refine r_op tabOk hnt rfl (s_pick_t rfl g5 rfl ?_) 
            refine r_op tabOk hnt rfl (s_move rfl ?_) 
            refine r_if tabOk hnt rfl rfl rfl (fun g6 => ?_) (fun g6 => ?_)
            ·
              have g6' := g6
              try simp only [decide_eq_true_eq, decide_eq_false_iff_not, Bool.not_eq_true', Bool.not_eq_false', Bool.not_true, Bool.not_false, Bool.not_eq_eq_eq_not, Int.not_lt, Int.not_le] at g6'
              refine r_op tabOk hnt rfl (s_move rfl ?_) 
              refine r_op tabOk hnt rfl (s_pick_t rfl g6 rfl ?_) 
              refine r_op tabOk hnt rfl (s_move rfl ?_) 
              refine r_if tabOk hnt rfl rfl rfl (fun g7 => ?_) (fun g7 => ?_)
              ·
                have g7' := g7
                try simp only [decide_eq_true_eq, decide_eq_false_iff_not, Bool.not_eq_true', Bool.not_eq_false', Bool.not_true, Bool.not_false, Bool.not_eq_eq_eq_not, Int.not_lt, Int.not_le] at g7'
                refine r_op tabOk hnt rfl (s_move rfl ?_) 
                refine r_if tabOk hnt rfl rfl rfl (fun _ => ?_) (fun e => absurd (e.symm.trans g7) (by decide))
                refine r_op tabOk hnt rfl (s_not rfl ?_) 
                refine r_op tabOk hnt rfl (s_pick_t rfl g7 rfl ?_) 
                refine r_op tabOk hnt rfl (s_move rfl ?_) 
                refine r_if tabOk hnt rfl rfl rfl (fun g8 => ?_) (fun g8 => ?_)
                ·
                  have g8' := g8
                  try simp only [decide_eq_true_eq, decide_eq_false_iff_not, Bool.not_eq_true', Bool.not_eq_false', Bool.not_true, Bool.not_false, Bool.not_eq_eq_eq_not, Int.not_lt, Int.not_le] at g8'
                  refine r_op tabOk hnt rfl (s_move rfl ?_) 
                  refine r_if tabOk hnt rfl rfl rfl (fun _ => ?_) (fun e => absurd (e.symm.trans g8) (by decide))
                  refine r_op tabOk hnt rfl (s_lenM (l := ([⟨3, 0, []⟩] : List TMsg)) tab_39 rfl (hM_sl (f := eMsg) rfl) ?_) 
                  refine r_if tabOk hnt rfl rfl rfl (fun _ => ?_) (fun e => absurd (e.symm.trans g8) (by decide))
                  refine r_op tabOk hnt rfl (s_eql rfl rfl ?_) 
                  refine r_op tabOk hnt rfl (s_pick_t rfl g8 rfl ?_) 
                  refine r_op tabOk hnt rfl (s_move rfl ?_) 
                  refine r_if tabOk hnt rfl rfl rfl (fun g9 => ?_) (fun g9 => ?_)
                  ·
                    have g9' := g9
                    try simp only [decide_eq_true_eq, decide_eq_false_iff_not, Bool.not_eq_true', Bool.not_eq_false', Bool.not_true, Bool.not_false, Bool.not_eq_eq_eq_not, Int.not_lt, Int.not_le] at g9'
                    refine r_op tabOk hnt rfl (s_move rfl ?_) 
                    refine r_if tabOk hnt rfl rfl rfl (fun _ => ?_) (fun e => absurd (e.symm.trans g9) (by decide))
                    obtain ⟨e1, he1⟩ := get_of_lt ([⟨3, 0, []⟩] : List TMsg) (i := 0) (by decide)
                    refine r_op tabOk hnt rfl (s_iaM (q := 0) (b := e1) (f := eMsg) tab_39 rfl tab_33 rfl rfl (by omega) rfl he1 ?_) 
                    refine r_if tabOk hnt rfl rfl rfl (fun _ => ?_) (fun e => absurd (e.symm.trans g9) (by decide))
                    refine r_op tabOk hnt rfl (s_fa_ro tab_33 rfl rfl tab_3 (by decide) rfl (Nat.le_of_ble_eq_true rfl) (by intro _; rfl) ?_) 
                    refine r_if tabOk hnt rfl rfl rfl (fun _ => ?_) (fun e => absurd (e.symm.trans g9) (by decide))
                    refine r_op tabOk hnt rfl (s_load_ro1 tab_3 rfl rfl rfl rfl ?_) 
                    refine r_if tabOk hnt rfl rfl rfl (fun _ => ?_) (fun e => absurd (e.symm.trans g9) (by decide))
                    refine r_op tabOk hnt rfl (s_eql rfl rfl ?_) 
                    refine r_op tabOk hnt rfl (s_pick_t rfl g9 rfl ?_) 
                    refine r_op tabOk hnt rfl (s_move rfl ?_) 
                    refine r_if tabOk hnt rfl rfl rfl (fun g10 => ?_) (fun g10 => ?_)
                    ·
                      have g10' := g10
                      try simp only [decide_eq_true_eq, decide_eq_false_iff_not, Bool.not_eq_true', Bool.not_eq_false', Bool.not_true, Bool.not_false, Bool.not_eq_eq_eq_not, Int.not_lt, Int.not_le] at g10'
                      refine r_op tabOk hnt rfl (s_move rfl ?_) 
                      refine r_if tabOk hnt rfl rfl rfl (fun _ => ?_) (fun e => absurd (e.symm.trans g10) (by decide))
                      refine r_op tabOk hnt rfl (s_callX (r2 := pN (([] : List TMsg).length)) (nx1 := 15) (H2 := [(0, .obj [PV.ref 13 0 none, pI 1, pI 1]), (13, oB false 3 eMsg ([] : List TMsg)), (10, .obj [pI ((headM (([⟨1, 0, [5]⟩] : List TMsg).tail)).id), pI ((headM (([⟨1, 0, [5]⟩] : List TMsg).tail)).unit), pS 1 false enc8 ((headM (([⟨1, 0, [5]⟩] : List TMsg).tail)).pdu)]), (8, .obj [pI ((headM ([⟨1, 0, [5]⟩] : List TMsg)).id), pI ((headM ([⟨1, 0, [5]⟩] : List TMsg)).unit), pS 1 false enc8 ((headM ([⟨1, 0, [5]⟩] : List TMsg)).pdu)]), (2, oB false 1 enc8 [5])]) (H3 := [(0, .obj [PV.ref 14 0 none, pI 1, pI 1]), (14, oB false 3 eMsg ([] : List TMsg)), (10, .obj [pI ((headM (([⟨1, 0, [5]⟩] : List TMsg).tail)).id), pI ((headM (([⟨1, 0, [5]⟩] : List TMsg).tail)).unit), pS 1 false enc8 ((headM (([⟨1, 0, [5]⟩] : List TMsg).tail)).pdu)]), (8, .obj [pI ((headM ([⟨1, 0, [5]⟩] : List TMsg)).id), pI ((headM ([⟨1, 0, [5]⟩] : List TMsg)).unit), pS 1 false enc8 ((headM ([⟨1, 0, [5]⟩] : List TMsg)).pdu)]), (2, oB false 1 enc8 [5])]) [0, 13] [.obj [PV.ref 13 0 none, pI 1, pI 1], oB false 3 eMsg ([] : List TMsg)] rfl rfl rfl (handed_of (by decide) ⟨rfl, rfl, trivial⟩) rfl rfl rfl rfl rfl rfl (w_quota_Queue_Len ([] : List TMsg) 1 1) rfl (dist_of rfl) rfl rfl rfl rfl ?_) 
                      refine r_if tabOk hnt rfl rfl rfl (fun _ => ?_) (fun e => absurd (e.symm.trans g10) (by decide))
                      refine r_op tabOk hnt rfl (s_eql rfl rfl ?_) 
                      refine r_op tabOk hnt rfl (s_pick_t rfl g10 rfl ?_) 
                      refine r_op tabOk hnt rfl (s_assign rfl ?_) 
                      refine r_set [(0, pB (decide (((([] : List TMsg).length : Nat) : Int) = 0)))] [(0, .obj [PV.ref 14 0 none, pI 1, pI 1]), (14, oB false 3 eMsg ([] : List TMsg)), (10, .obj [pI ((headM (([⟨1, 0, [5]⟩] : List TMsg).tail)).id), pI ((headM (([⟨1, 0, [5]⟩] : List TMsg).tail)).unit), pS 1 false enc8 ((headM (([⟨1, 0, [5]⟩] : List TMsg).tail)).pdu)]), (8, .obj [pI ((headM ([⟨1, 0, [5]⟩] : List TMsg)).id), pI ((headM ([⟨1, 0, [5]⟩] : List TMsg)).unit), pS 1 false enc8 ((headM ([⟨1, 0, [5]⟩] : List TMsg)).pdu)]), (2, oB false 1 enc8 [5])] 15 ⟨rfl, trivial⟩ rfl rfl ?_
                      refine r_end ?_
                      refine q_then ?_
                      refine w_le (s := 0) (y := pB true) rfl (le_of_eq (congrArg (fun z : Bool => pB z) (show decide (((([] : List TMsg).length : Nat) : Int) = 0) = true by decide))) ?_
                      refine w_ret ?_
                      exact fin_plain (ret_tmp rfl ret_nil) rfl rfl ⟨rfl, rfl, rfl⟩
                    ·
                      exact absurd g10 (by first | decide | (simp at he1; subst he1; decide))
                  ·
                    exact absurd g9 (by first | decide | (simp at he1; subst he1; decide))
                ·
                  exact absurd g8 (by first | decide | (simp at he1; subst he1; decide))
              ·
                exact absurd g7 (by first | decide | (simp at he1; subst he1; decide))
            ·
              exact absurd g6 (by first | decide | (simp at he1; subst he1; decide))
          ·
            exact absurd g5 (by first | decide | (simp at he1; subst he1; decide))
        ·
          exact absurd g4 (by first | decide | (simp at he1; subst he1; decide))
      ·
        exact absurd g3 (by first | decide | (simp at he1; subst he1; decide))
    ·
      exact absurd g2 (by first | decide | (simp at he1; subst he1; decide))
  ·
    exact absurd g1 (by first | decide | (simp at he1; subst he1; decide))

theorem w_burgagelaw20_play (most : Int) (l : List TAsk) (cl_l : Bool) (hl : l.length ≤ 140737488351232) (hs : ∀ a ∈ l, a.pdu.length ≤ 140737488351232) :
    T Try.prog 15 [pI most, pS 3 cl_l eAsk l] 0 [] (Ret (pB true) 0 []) := by
  refine t_fun tabOk (n := 111) (rs := [.tmp 4]) Try.func15 rfl rfl rfl rfl (Nat.le_of_ble_eq_true rfl) ?_
  intro c hnt hk
  obtain ⟨K, hK⟩ : ∃ K : Int, K = max 1 (min most 64) := ⟨_, rfl⟩
  have hk1 : 1 ≤ K ∧ K ≤ 64 := by omega
  have hk3 : max (min most 64) 1 = K := by omega
  refine w_seq ?_
  refine w_R ?_
  refine r_op tabOk hnt rfl (s_assign rfl ?_) 
  refine r_end ?_
  refine q_then ?_
  refine w_seq ?_
  refine w_R ?_
  refine r_op tabOk hnt rfl (s_move rfl ?_) 
  refine r_op tabOk hnt rfl (s_callX (r2 := PV.ptr 0 0) (nx1 := 2) (H2 := []) (H3 := [(0, .obj [PV.ref 1 0 none, pI (max 1 (min most 64)), pI 0]), (1, oB false 3 eMsg ([] : List TMsg))]) [] [] rfl rfl rfl (handed_of (by decide) trivial) rfl rfl rfl rfl rfl rfl (w_quota_New most) rfl (dist_of rfl) rfl rfl rfl rfl ?_) 
  refine r_op tabOk hnt rfl (s_assign rfl ?_) 
  refine r_set [(0, pI most), (1, pS 3 cl_l eAsk l), (5, PV.ptr 0 0)] [(0, .obj [PV.ref 1 0 none, pI (max 1 (min most 64)), pI 0]), (1, oB false 3 eMsg ([] : List TMsg))] 2 ⟨rfl, rfl, rfl, trivial⟩ rfl rfl ?_
  refine r_end ?_
  refine q_then ?_
  refine w_seq ?_
  refine w_leC (n := 0) (j := 1) (y := pI K) rfl rfl (le_of_eq (congrArg (fun z : Int => pI z) (show max 1 (min most 64) = K by exact hK.symm))) ?_
  refine w_R ?_
  refine r_op tabOk hnt rfl (s_move rfl ?_) 
  refine r_op tabOk hnt rfl (s_minI rfl ?_) 
  refine r_op tabOk hnt rfl (s_maxI rfl ?_) 
  refine r_op tabOk hnt rfl (s_assign rfl ?_) 
  refine r_end ?_
  refine q_then ?_
  refine w_seq ?_
  refine w_R ?_
  refine r_op tabOk hnt rfl (s_assign rfl ?_) 
  refine r_end ?_
  refine q_then ?_
  refine w_seq ?_
  refine w_R ?_
  refine r_op tabOk hnt rfl (s_assign rfl ?_) 
  refine r_end ?_
  refine q_then ?_
  refine w_seq ?_
  refine w_seq ?_
  refine w_R ?_
  refine r_op tabOk hnt rfl (s_assign rfl ?_) 
  refine r_end ?_
  refine q_then ?_
  refine w_block ?_
  refine w_adopt (s := 7) (sz := 3) rfl ?_
  refine w_low (n := 2) rfl ?_
  refine loop6 (fun (ms : List TMsg) (rf : Int) (ws : List TAsk) (wl : Nat) (rg : Nat) (i : Nat) => i ≤ 200 ∧ PlayI K i ms rf ws wl rg) (fun (ms : List TMsg) (rf : Int) (ws : List TAsk) (wl : Nat) (rg : Nat) (i : Nat) => [(1, pS 3 cl_l eAsk l), (5, PV.ptr 0 0), (6, pI (max (min most 64) 1)), (7, PV.ref 2 wl none), (8, pN rg), (9, pN i)]) 3 (fun (ms : List TMsg) (rf : Int) (ws : List TAsk) (wl : Nat) (rg : Nat) (i : Nat) => [(0, .obj [PV.ref 1 0 none, pI K, pI rf]), (1, oB false 3 eMsg ms), (2, oB false 3 eAsk ws)]) (fun (ms : List TMsg) (rf : Int) (ws : List TAsk) (wl : Nat) (rg : Nat) (i : Nat) => 200 - i) (([] : List TMsg)) (0) (([] : List TAsk)) (0) (0) (0) ?_ ⟨[(0, 0), (1, 1), (2, 2)], by rw [hk]; decide, ⟨⟨_, rfl, rfl, rfl⟩, ⟨_, rfl, rfl, rfl⟩, ⟨_, rfl, rfl, rfl⟩, ⟨_, rfl, rfl, rfl⟩, ⟨_, rfl, rfl, rfl⟩, ⟨_, rfl, rfl, rfl⟩, trivial⟩, ⟨⟨_, _, rfl, rfl, rfl, rfl⟩, ⟨_, _, rfl, rfl, rfl, rfl⟩, ⟨_, _, rfl, rfl, rfl, rfl⟩, trivial⟩, by rw [hk]; decide⟩ ?_
  · exact ⟨by omega, PlayI.nil (by omega)⟩
  ·
    intro ms rf ws wl rg i hI
    obtain ⟨hi, hI⟩ := hI
    have hlen := hI.len
    have hroom := hI.room
    have hrf := hI.refd
    have hrle := hI.rle
    have hwle := hI.wle
    have hwsl := hI.wsl
    have hfine := hI.fine
    refine w_seq ?_
    refine w_seq ?_
    refine w_R ?_
    refine r_op tabOk hnt rfl (s_move rfl ?_) 
    refine r_op tabOk hnt rfl (s_move rfl ?_) 
    refine r_op tabOk hnt rfl (s_lenM (l := l) tab_22 rfl (hM_sl (f := eAsk) rfl) ?_) 
    refine r_op tabOk hnt rfl (s_lss rfl rfl ?_) 
    refine r_op tabOk hnt rfl (s_move rfl ?_) 
    refine r_if tabOk hnt rfl rfl rfl (fun g1 => ?_) (fun g1 => ?_)
    ·
      have g1' := g1
      try simp only [decide_eq_true_eq, decide_eq_false_iff_not, Bool.not_eq_true', Bool.not_eq_false', Bool.not_true, Bool.not_false, Bool.not_eq_eq_eq_not, Int.not_lt, Int.not_le] at g1'
      refine r_op tabOk hnt rfl (s_move rfl ?_) 
      refine r_if tabOk hnt rfl rfl rfl (fun _ => ?_) (fun e => absurd (e.symm.trans g1) (by decide))
      refine r_op tabOk hnt rfl (s_lss rfl rfl ?_) 
      refine r_op tabOk hnt rfl (s_pick_t rfl g1 rfl ?_) 
      refine r_end ?_
      refine q_then ?_
      refine w_if rfl (fun c1 => ?_) (fun c1 => ?_)
      ·
        have c1_ := c1
        try simp only [decide_eq_true_eq, decide_eq_false_iff_not, Bool.not_eq_true', Bool.not_eq_false', Bool.not_true, Bool.not_false, Bool.not_eq_eq_eq_not, Int.not_lt, Int.not_le] at c1
        refine w_skip ?_
        refine q_then ?_
        refine w_seq ?_
        refine w_block ?_
        refine w_seq ?_
        refine w_R ?_
        refine r_op tabOk hnt rfl (s_move rfl ?_) 
        refine r_op tabOk hnt rfl (s_move rfl ?_) 
        obtain ⟨e1, he1⟩ := get_of_lt l (i := i) (by omega)
        refine r_op tabOk hnt rfl (s_iaM (q := i) (b := e1) (f := eAsk) tab_22 rfl tab_25 rfl rfl (by omega) rfl he1 ?_) 
        refine r_op tabOk hnt rfl (s_load_ro tab_25 rfl rfl rfl ?_) 
        refine r_op tabOk hnt rfl (s_alloc tab_25 ?_) 
        refine r_op tabOk hnt rfl (s_store_ptr tab_25 rfl rfl rfl rfl rfl (Nat.le_of_ble_eq_true rfl) ?_) 
        refine r_set [(1, pS 3 cl_l eAsk l), (5, PV.ptr 0 0), (6, pI (max (min most 64) 1)), (7, PV.ref 2 wl none), (8, pN rg), (9, pN i), (10, PV.ptr 3 0), (23, pN i), (24, pB (decide (((i : Nat) : Int) < 200)))] [(3, .obj [pI e1.kind, pI e1.id, pS 1 false enc8 e1.pdu]), (0, .obj [PV.ref 1 0 none, pI K, pI rf]), (1, oB false 3 eMsg ms), (2, oB false 3 eAsk ws)] 4 ⟨rfl, rfl, rfl, rfl, rfl, rfl, rfl, rfl, rfl, trivial⟩ rfl rfl ?_
        refine r_end ?_
        refine q_then ?_
        refine w_seq ?_
        refine w_seq ?_
        refine w_R ?_
        refine r_op tabOk hnt rfl (s_move rfl ?_) 
        refine r_op tabOk hnt rfl (s_ptrnil tab_30 rfl rfl trivial ?_) 
        refine r_end ?_
        refine q_then ?_
        refine w_if rfl (fun e => absurd e (by decide)) (fun _ => ?_)
        refine w_skip ?_
        refine q_then ?_
        refine join5 (fun (ms : List TMsg) (rf : Int) (ws : List TAsk) (wl : Nat) (rg : Nat) => PlayI K (i + 1) ms rf ws wl rg) (fun (ms : List TMsg) (rf : Int) (ws : List TAsk) (wl : Nat) (rg : Nat) => [(1, pS 3 cl_l eAsk l), (5, PV.ptr 0 0), (6, pI (max (min most 64) 1)), (7, PV.ref 2 wl none), (8, pN rg), (9, pN i), (23, pN i), (24, pB (decide (((i : Nat) : Int) < 200)))]) 3 (fun (ms : List TMsg) (rf : Int) (ws : List TAsk) (wl : Nat) (rg : Nat) => [(0, .obj [PV.ref 1 0 none, pI K, pI rf]), (1, oB false 3 eMsg ms), (2, oB false 3 eAsk ws)]) ?_ ?_
        ·
          refine w_seq ?_
          have hel := hs e1 (List.mem_of_getElem? he1)
          refine w_R ?_
          refine r_op tabOk hnt rfl (s_fa_ptr tab_25 rfl rfl tab_3 (by decide) rfl ?_) 
          refine r_op tabOk hnt rfl (s_load_ptr1 tab_3 rfl rfl rfl rfl rfl ?_) 
          refine r_end ?_
          refine q_then ?_
          refine w_block ?_
          refine w_seq ?_
          refine w_R ?_
          refine r_op tabOk hnt rfl (s_eql rfl rfl ?_) 
          refine r_op tabOk hnt rfl (s_assign rfl ?_) 
          refine r_end ?_
          refine q_then ?_
          refine w_if rfl (fun c2 => ?_) (fun c2 => ?_)
          ·
            have c2_ := c2
            try simp only [decide_eq_true_eq, decide_eq_false_iff_not, Bool.not_eq_true', Bool.not_eq_false', Bool.not_true, Bool.not_false, Bool.not_eq_eq_eq_not, Int.not_lt, Int.not_le] at c2
            refine w_seq ?_
            refine w_R ?_
            refine r_op tabOk hnt rfl (s_move rfl ?_) 
            refine r_op tabOk hnt rfl (s_callX (r2 := PV.tup [PV.f (eMsg (headM ms)), pB (decide (0 < ms.length))]) (nx1 := 5) (H2 := [(3, .obj [pI e1.kind, pI e1.id, pS 1 false enc8 e1.pdu]), (0, .obj [PV.ref 1 0 none, pI K, pI rf]), (1, oB false 3 eMsg ms), (2, oB false 3 eAsk ws)]) (H3 := [(0, .obj [PV.ref 4 0 none, pI K, pI rf]), (4, oB false 3 eMsg ms.tail), (3, .obj [pI e1.kind, pI e1.id, pS 1 false enc8 e1.pdu]), (2, oB false 3 eAsk ws)]) [0, 1] [.obj [PV.ref 1 0 none, pI K, pI rf], oB false 3 eMsg ms] rfl rfl rfl (handed_of (by decide) ⟨rfl, rfl, trivial⟩) rfl rfl rfl rfl rfl rfl (w_quota_Queue_Take ms K rf (by first | omega | assumption | (simp; omega) | decide | (simp; done))) rfl (dist_of rfl) rfl rfl rfl rfl ?_) 
            refine r_op tabOk hnt rfl (s_move rfl ?_) 
            refine r_op tabOk hnt rfl (s_extract rfl rfl ?_) 
            refine r_op tabOk hnt rfl (s_extract rfl rfl ?_) 
            refine r_op tabOk hnt rfl (s_alloc tab_33 ?_) 
            refine r_op tabOk hnt rfl (s_store_ptr tab_33 rfl rfl rfl rfl rfl (Nat.le_of_ble_eq_true rfl) ?_) 
            refine r_op tabOk hnt rfl (s_assign rfl ?_) 
            refine r_set [(1, pS 3 cl_l eAsk l), (5, PV.ptr 0 0), (6, pI (max (min most 64) 1)), (7, PV.ref 2 wl none), (8, pN rg), (9, pN i), (11, PV.ptr 5 0), (12, pB (decide (0 < ms.length))), (23, pN i), (24, pB (decide (((i : Nat) : Int) < 200)))] [(5, .obj [pI ((headM ms).id), pI ((headM ms).unit), pS 1 false enc8 ((headM ms).pdu)]), (0, .obj [PV.ref 4 0 none, pI K, pI rf]), (4, oB false 3 eMsg ms.tail), (3, .obj [pI e1.kind, pI e1.id, pS 1 false enc8 e1.pdu]), (2, oB false 3 eAsk ws)] 6 ⟨rfl, rfl, rfl, rfl, rfl, rfl, rfl, rfl, rfl, rfl, trivial⟩ rfl rfl ?_
            refine r_end ?_
            refine q_then ?_
            refine w_seq ?_
            refine w_seq ?_
            refine W_drawn tabOk mixed hnt [[], [], [1], [1, 2], [0, 1, 2, 3], [0, 1, 2, 3, 4], [0, 1, 2, 3, 4, 5], [0, 1, 2, 3, 4, 5, 6], [0, 1, 2, 3, 4, 5, 6, 7], [0, 1, 2, 3, 4, 5, 6, 7], [0, 1, 2, 3, 4, 5, 6, 7, 9], [0, 1, 2, 3, 4, 5, 6, 7, 9, 10], [0, 1, 2, 3, 4, 5, 6, 7, 8, 9, 10, 11], [0, 1, 2, 3, 4, 5, 6, 7, 8, 9, 10, 11, 12], [0, 1, 2, 3, 4, 5, 6, 7, 8, 9, 10, 11, 12, 13], [0, 1, 2, 3, 4, 5, 6, 7, 8, 9, 10, 11, 12, 13, 14]] (by kernel_rfl) ?_
            refine d_op ?_
            refine x_run0 [(12, pB (decide (0 < ms.length)))] [] rfl rfl rfl rfl (s_move rfl ⟨rfl, rfl, rfl⟩) ?_
            refine d_op ?_
            refine x_run0 [(7, PV.ref 2 wl none)] [] rfl rfl rfl rfl (s_move rfl ⟨rfl, rfl, rfl⟩) ?_
            refine d_op ?_
            refine x_run [(66, PV.ref 2 wl none)] [1] [(2, oB false 3 eAsk ws)] [] [(2, oB false 3 eAsk ws)] [] [(5, .obj [pI ((headM ms).id), pI ((headM ms).unit), pS 1 false enc8 ((headM ms).pdu)]), (0, .obj [PV.ref 4 0 none, pI K, pI rf]), (4, oB false 3 eMsg ms.tail), (3, .obj [pI e1.kind, pI e1.id, pS 1 false enc8 e1.pdu]), (2, oB false 3 eAsk ws)] rfl rfl rfl rfl rfl rfl (s_lenM (l := ws.drop wl) tab_22 rfl (hM_refl (f := eAsk) rfl rfl) ⟨rfl, rfl, rfl⟩) rfl ⟨rfl, trivial⟩ rfl rfl ?_
            refine d_op ?_
            refine x_run0 [(67, pN ((ws.drop wl).length))] [1, 2] rfl rfl rfl rfl (s_gtr rfl rfl ⟨rfl, rfl, rfl⟩) ?_
            refine d_op ?_
            refine x_run0 [(65, pB (decide (0 < ms.length))), (68, pB (decide (0 < (((ws.drop wl).length : Nat) : Int))))] [0, 1, 2, 3] rfl rfl rfl rfl (s_nebool tab_4 rfl rfl rfl ⟨rfl, rfl, rfl⟩) ?_
            refine d_op ?_
            refine x_run0 [(69, pB (!((decide (0 < ms.length)) == (decide (0 < (((ws.drop wl).length : Nat) : Int))))))] [0, 1, 2, 3, 4] rfl rfl rfl rfl (s_move rfl ⟨rfl, rfl, rfl⟩) ?_
            refine x_if [(70, pB (!((decide (0 < ms.length)) == (decide (0 < (((ws.drop wl).length : Nat) : Int)))))), (12, pB (decide (0 < ms.length)))] [0, 1, 2, 3, 4, 5] rfl rfl rfl rfl (fun g2 => ?_) (fun g2 => ?_)
            ·
              have g2' := g2
              try simp only [decide_eq_true_eq, decide_eq_false_iff_not, Bool.not_eq_true', Bool.not_eq_false', Bool.not_true, Bool.not_false, Bool.not_eq_eq_eq_not, Int.not_lt, Int.not_le] at g2'
              refine x_run0 [(70, pB (!((decide (0 < ms.length)) == (decide (0 < (((ws.drop wl).length : Nat) : Int)))))), (12, pB (decide (0 < ms.length)))] [0, 1, 2, 3, 4, 5] rfl rfl rfl rfl (s_move rfl ⟨rfl, rfl, rfl⟩) ?_
              refine x_if [(70, pB (!((decide (0 < ms.length)) == (decide (0 < (((ws.drop wl).length : Nat) : Int)))))), (71, pB (decide (0 < ms.length)))] [0, 1, 2, 3, 4, 5, 6] rfl rfl rfl rfl (fun _ => ?_) (fun e => absurd (e.symm.trans g2) (by decide))
              refine x_run0 [(70, pB (!((decide (0 < ms.length)) == (decide (0 < (((ws.drop wl).length : Nat) : Int)))))), (71, pB (decide (0 < ms.length)))] [0, 1, 2, 3, 4, 5, 6] rfl rfl rfl rfl (s_move rfl ⟨rfl, rfl, rfl⟩) ?_
              refine x_if [(72, pB (decide (0 < ms.length))), (11, PV.ptr 5 0)] [0, 1, 2, 3, 4, 5, 6, 7] rfl rfl rfl rfl (fun g3 => ?_) (fun g3 => ?_)
              ·
                have g3' := g3
                try simp only [decide_eq_true_eq, decide_eq_false_iff_not, Bool.not_eq_true', Bool.not_eq_false', Bool.not_true, Bool.not_false, Bool.not_eq_eq_eq_not, Int.not_lt, Int.not_le] at g3'
                refine x_run [(72, pB (decide (0 < ms.length))), (11, PV.ptr 5 0)] [0, 1, 2, 3, 4, 5, 6, 7] [(5, .obj [pI ((headM ms).id), pI ((headM ms).unit), pS 1 false enc8 ((headM ms).pdu)])] [] [(5, .obj [pI ((headM ms).id), pI ((headM ms).unit), pS 1 false enc8 ((headM ms).pdu)])] [] [(5, .obj [pI ((headM ms).id), pI ((headM ms).unit), pS 1 false enc8 ((headM ms).pdu)]), (0, .obj [PV.ref 4 0 none, pI K, pI rf]), (4, oB false 3 eMsg ms.tail), (3, .obj [pI e1.kind, pI e1.id, pS 1 false enc8 e1.pdu]), (2, oB false 3 eAsk ws)] rfl rfl rfl rfl rfl rfl (s_load_ptr tab_33 rfl rfl rfl (Nat.le_of_ble_eq_true rfl) ⟨rfl, rfl, rfl⟩) rfl ⟨rfl, trivial⟩ rfl rfl ?_
                refine x_if [(72, pB (decide (0 < ms.length))), (7, PV.ref 2 wl none)] [0, 1, 2, 3, 4, 5, 6, 7] rfl rfl rfl rfl (fun _ => ?_) (fun e => absurd (e.symm.trans g3) (by decide))
                refine x_run0 [(72, pB (decide (0 < ms.length))), (7, PV.ref 2 wl none)] [0, 1, 2, 3, 4, 5, 6, 7] rfl rfl rfl rfl (s_move rfl ⟨rfl, rfl, rfl⟩) ?_
                refine x_if [(72, pB (decide (0 < ms.length))), (74, PV.ref 2 wl none)] [0, 1, 2, 3, 4, 5, 6, 7, 9] rfl rfl rfl rfl (fun _ => ?_) (fun e => absurd (e.symm.trans g3) (by decide))
                refine x_run [(72, pB (decide (0 < ms.length))), (74, PV.ref 2 wl none)] [0, 1, 2, 3, 4, 5, 6, 7, 9] [(2, oB false 3 eAsk ws)] [] [(2, oB false 3 eAsk ws)] [] [(5, .obj [pI ((headM ms).id), pI ((headM ms).unit), pS 1 false enc8 ((headM ms).pdu)]), (0, .obj [PV.ref 4 0 none, pI K, pI rf]), (4, oB false 3 eMsg ms.tail), (3, .obj [pI e1.kind, pI e1.id, pS 1 false enc8 e1.pdu]), (2, oB false 3 eAsk ws)] rfl rfl rfl rfl rfl rfl (s_iaR (q := 0) (f := eAsk) (l := ws) tab_22 rfl tab_25 rfl rfl (by omega) rfl rfl (by omega) ⟨rfl, rfl, rfl⟩) rfl ⟨rfl, trivial⟩ rfl rfl ?_
                refine x_if [(72, pB (decide (0 < ms.length))), (75, PV.ep 2 (wl + 0) 0)] [0, 1, 2, 3, 4, 5, 6, 7, 9, 10] rfl rfl rfl rfl (fun _ => ?_) (fun e => absurd (e.symm.trans g3) (by decide))
                obtain ⟨e2, he2⟩ := get_of_lt ws (i := wl + 0) (by omega)
                refine x_run [(72, pB (decide (0 < ms.length))), (75, PV.ep 2 (wl + 0) 0)] [0, 1, 2, 3, 4, 5, 6, 7, 9, 10] [(2, oB false 3 eAsk ws)] [] [(2, oB false 3 eAsk ws)] [] [(5, .obj [pI ((headM ms).id), pI ((headM ms).unit), pS 1 false enc8 ((headM ms).pdu)]), (0, .obj [PV.ref 4 0 none, pI K, pI rf]), (4, oB false 3 eMsg ms.tail), (3, .obj [pI e1.kind, pI e1.id, pS 1 false enc8 e1.pdu]), (2, oB false 3 eAsk ws)] rfl rfl rfl rfl rfl rfl (s_ldA (b := e2) tab_25 rfl rfl rfl he2 rfl rfl ⟨rfl, rfl, rfl⟩) rfl ⟨rfl, trivial⟩ rfl rfl ?_
                refine x_if [(72, pB (decide (0 < ms.length))), (73, PV.f (.agg [encI ((headM ms).id), encI ((headM ms).unit), FV.sl 1 false (List.map enc8 ((headM ms).pdu))])), (76, PV.f (eAsk e2))] [0, 1, 2, 3, 4, 5, 6, 7, 8, 9, 10, 11] rfl rfl rfl rfl (fun _ => ?_) (fun e => absurd (e.symm.trans g3) (by decide))
                refine x_run0 [(72, pB (decide (0 < ms.length))), (73, PV.f (.agg [encI ((headM ms).id), encI ((headM ms).unit), FV.sl 1 false (List.map enc8 ((headM ms).pdu))])), (76, PV.f (eAsk e2))] [0, 1, 2, 3, 4, 5, 6, 7, 8, 9, 10, 11] rfl rfl rfl rfl (s_callF rfl rfl rfl (w_burgagelaw20_same (⟨(headM ms).id, (headM ms).unit, (headM ms).pdu⟩ : TMsg) e2) rfl ⟨rfl, rfl, rfl⟩) ?_
                refine x_if [(72, pB (decide (0 < ms.length))), (77, pB (decide (mKey (⟨(headM ms).id, (headM ms).unit, (headM ms).pdu⟩ : TMsg) = aKey e2)))] [0, 1, 2, 3, 4, 5, 6, 7, 8, 9, 10, 11, 12] rfl rfl rfl rfl (fun _ => ?_) (fun e => absurd (e.symm.trans g3) (by decide))
                refine x_run0 [(72, pB (decide (0 < ms.length))), (77, pB (decide (mKey (⟨(headM ms).id, (headM ms).unit, (headM ms).pdu⟩ : TMsg) = aKey e2)))] [0, 1, 2, 3, 4, 5, 6, 7, 8, 9, 10, 11, 12] rfl rfl rfl rfl (s_not rfl ⟨rfl, rfl, rfl⟩) ?_
                refine x_if [(70, pB (!((decide (0 < ms.length)) == (decide (0 < (((ws.drop wl).length : Nat) : Int)))))), (72, pB (decide (0 < ms.length))), (78, pB (!(decide (mKey (⟨(headM ms).id, (headM ms).unit, (headM ms).pdu⟩ : TMsg) = aKey e2))))] [0, 1, 2, 3, 4, 5, 6, 7, 8, 9, 10, 11, 12, 13] rfl rfl rfl rfl (fun _ => ?_) (fun e => absurd (e.symm.trans g2) (by decide))
                refine x_run0 [(70, pB (!((decide (0 < ms.length)) == (decide (0 < (((ws.drop wl).length : Nat) : Int)))))), (72, pB (decide (0 < ms.length))), (78, pB (!(decide (mKey (⟨(headM ms).id, (headM ms).unit, (headM ms).pdu⟩ : TMsg) = aKey e2))))] [0, 1, 2, 3, 4, 5, 6, 7, 8, 9, 10, 11, 12, 13] rfl rfl rfl rfl (s_pick_t rfl g3 rfl ⟨rfl, rfl, rfl⟩) ?_
                refine d_op ?_
                refine x_run0 [(70, pB (!((decide (0 < ms.length)) == (decide (0 < (((ws.drop wl).length : Nat) : Int)))))), (79, pB (!(decide (mKey (⟨(headM ms).id, (headM ms).unit, (headM ms).pdu⟩ : TMsg) = aKey e2))))] [0, 1, 2, 3, 4, 5, 6, 7, 8, 9, 10, 11, 12, 13, 14] rfl rfl rfl rfl (s_pick_f rfl g2 rfl ⟨rfl, rfl, rfl⟩) ?_
                refine d_end ⟨by kernel_rfl, ?_⟩
                refine q_then ?_
                refine w_if rfl (fun c3 => ?_) (fun c3 => ?_)
                ·
                  have c3_ := c3
                  exact absurd c3 (by exact not_dec1 (hI.head (by simpa using g3) he2))
                ·
                  have c3_ := c3
                  try simp only [decide_eq_true_eq, decide_eq_false_iff_not, Bool.not_eq_true', Bool.not_eq_false', Bool.not_true, Bool.not_false, Bool.not_eq_eq_eq_not, Int.not_lt, Int.not_le] at c3
                  refine w_skip ?_
                  refine q_then ?_
                  refine w_seq ?_
                  refine w_R ?_
                  refine r_op tabOk hnt rfl (s_move rfl ?_) 
                  refine r_end ?_
                  refine q_then ?_
                  refine w_if rfl (fun _ => ?_) (fun e => absurd (e.symm.trans g3) (by decide))
                  refine w_R ?_
                  refine r_op tabOk hnt rfl (s_move rfl ?_) 
                  refine r_op tabOk hnt rfl (s_cutR_lo (a := 1) (f := eAsk) (l := ws) tab_22 rfl tab_25 rfl rfl rfl (bound_some rfl (by omega)) (by omega) ?_) 
                  refine r_op tabOk hnt rfl (s_assign rfl ?_) 
                  refine r_end ?_
                  refine q_block ?_
                  refine q_then ?_
                  refine ⟨(ms.tail), (rf), (ws), (wl + 1), (rg), ?_, ⟨[(0, 0), (1, 4), (2, 2)], by rw [hk]; decide, ⟨⟨_, rfl, rfl, rfl⟩, ⟨_, rfl, rfl, rfl⟩, ⟨_, rfl, rfl, rfl⟩, ⟨_, rfl, rfl, rfl⟩, ⟨_, rfl, rfl, rfl⟩, ⟨_, rfl, rfl, rfl⟩, ⟨_, rfl, rfl, rfl⟩, ⟨_, rfl, rfl, rfl⟩, trivial⟩, ⟨⟨_, _, rfl, rfl, rfl, rfl⟩, ⟨_, _, rfl, rfl, rfl, rfl⟩, ⟨_, _, rfl, rfl, rfl, rfl⟩, trivial⟩, by rw [hk]; decide⟩⟩
                  exact (hI.take (by simpa using g3)).up
              ·
                have g3' := g3
                try simp only [decide_eq_true_eq, decide_eq_false_iff_not, Bool.not_eq_true', Bool.not_eq_false', Bool.not_true, Bool.not_false, Bool.not_eq_eq_eq_not, Int.not_lt, Int.not_le] at g3'
                refine x_if [(72, pB (decide (0 < ms.length))), (7, PV.ref 2 wl none)] [0, 1, 2, 3, 4, 5, 6, 7] rfl rfl rfl rfl (fun e => absurd (e.symm.trans g3) (by decide)) (fun _ => ?_)
                refine x_if [(72, pB (decide (0 < ms.length))), (74, undefP)] [0, 1, 2, 3, 4, 5, 6, 7, 9] rfl rfl rfl rfl (fun e => absurd (e.symm.trans g3) (by decide)) (fun _ => ?_)
                refine x_if [(72, pB (decide (0 < ms.length))), (75, undefP)] [0, 1, 2, 3, 4, 5, 6, 7, 9, 10] rfl rfl rfl rfl (fun e => absurd (e.symm.trans g3) (by decide)) (fun _ => ?_)
                refine x_if [(72, pB (decide (0 < ms.length))), (73, undefP), (76, undefP)] [0, 1, 2, 3, 4, 5, 6, 7, 8, 9, 10, 11] rfl rfl rfl rfl (fun e => absurd (e.symm.trans g3) (by decide)) (fun _ => ?_)
                refine x_if [(72, pB (decide (0 < ms.length))), (77, undefP)] [0, 1, 2, 3, 4, 5, 6, 7, 8, 9, 10, 11, 12] rfl rfl rfl rfl (fun e => absurd (e.symm.trans g3) (by decide)) (fun _ => ?_)
                refine x_if [(70, pB (!((decide (0 < ms.length)) == (decide (0 < (((ws.drop wl).length : Nat) : Int)))))), (72, pB (decide (0 < ms.length))), (78, undefP)] [0, 1, 2, 3, 4, 5, 6, 7, 8, 9, 10, 11, 12, 13] rfl rfl rfl rfl (fun _ => ?_) (fun e => absurd (e.symm.trans g2) (by decide))
                refine x_run0 [(70, pB (!((decide (0 < ms.length)) == (decide (0 < (((ws.drop wl).length : Nat) : Int)))))), (72, pB (decide (0 < ms.length))), (78, undefP)] [0, 1, 2, 3, 4, 5, 6, 7, 8, 9, 10, 11, 12, 13] rfl rfl rfl rfl (s_pick_f rfl g3 rfl ⟨rfl, rfl, rfl⟩) ?_
                refine d_op ?_
                refine x_run0 [(70, pB (!((decide (0 < ms.length)) == (decide (0 < (((ws.drop wl).length : Nat) : Int)))))), (79, pB false)] [0, 1, 2, 3, 4, 5, 6, 7, 8, 9, 10, 11, 12, 13, 14] rfl rfl rfl rfl (s_pick_f rfl g2 rfl ⟨rfl, rfl, rfl⟩) ?_
                refine d_end ⟨by kernel_rfl, ?_⟩
                refine q_then ?_
                refine w_if rfl (fun e => absurd e (by decide)) (fun _ => ?_)
                refine w_skip ?_
                refine q_then ?_
                refine w_seq ?_
                refine w_R ?_
                refine r_op tabOk hnt rfl (s_move rfl ?_) 
                refine r_end ?_
                refine q_then ?_
                refine w_if rfl (fun e => absurd (e.symm.trans g3) (by decide)) (fun _ => ?_)
                refine w_skip ?_
                refine q_block ?_
                refine q_then ?_
                refine ⟨(ms.tail), (rf), (ws), (wl), (rg), ?_, ⟨[(0, 0), (1, 4), (2, 2)], by rw [hk]; decide, ⟨⟨_, rfl, rfl, rfl⟩, ⟨_, rfl, rfl, rfl⟩, ⟨_, rfl, rfl, rfl⟩, ⟨_, rfl, rfl, rfl⟩, ⟨_, rfl, rfl, rfl⟩, ⟨_, rfl, rfl, rfl⟩, ⟨_, rfl, rfl, rfl⟩, ⟨_, rfl, rfl, rfl⟩, trivial⟩, ⟨⟨_, _, rfl, rfl, rfl, rfl⟩, ⟨_, _, rfl, rfl, rfl, rfl⟩, ⟨_, _, rfl, rfl, rfl, rfl⟩, trivial⟩, by rw [hk]; decide⟩⟩
                exact (hI.none (by simpa using g3)).up
            ·
              exact absurd g2 (by exact not_dec (by simp; omega))
          ·
            have c2_ := c2
            try simp only [decide_eq_true_eq, decide_eq_false_iff_not, Bool.not_eq_true', Bool.not_eq_false', Bool.not_true, Bool.not_false, Bool.not_eq_eq_eq_not, Int.not_lt, Int.not_le] at c2
            refine w_seq ?_
            refine w_R ?_
            refine r_op tabOk hnt rfl (s_eql rfl rfl ?_) 
            refine r_op tabOk hnt rfl (s_assign rfl ?_) 
            refine r_end ?_
            refine q_then ?_
            refine w_if rfl (fun c4 => ?_) (fun c4 => ?_)
            ·
              have c4_ := c4
              try simp only [decide_eq_true_eq, decide_eq_false_iff_not, Bool.not_eq_true', Bool.not_eq_false', Bool.not_true, Bool.not_false, Bool.not_eq_eq_eq_not, Int.not_lt, Int.not_le] at c4
              refine w_seq ?_
              refine w_seq ?_
              refine w_R ?_
              refine r_op tabOk hnt rfl (s_move rfl ?_) 
              refine r_op tabOk hnt rfl (s_callX (r2 := pS 3 true eMsg ms) (nx1 := 5) (H2 := [(3, .obj [pI e1.kind, pI e1.id, pS 1 false enc8 e1.pdu]), (0, .obj [PV.ref 1 0 none, pI K, pI rf]), (1, oB false 3 eMsg ms), (2, oB false 3 eAsk ws)]) (H3 := [(0, .obj [PV.ref 4 0 none, pI K, pI rf]), (4, oB false 3 eMsg ([] : List TMsg)), (3, .obj [pI e1.kind, pI e1.id, pS 1 false enc8 e1.pdu]), (2, oB false 3 eAsk ws)]) [0, 1] [.obj [PV.ref 1 0 none, pI K, pI rf], oB false 3 eMsg ms] rfl rfl rfl (handed_of (by decide) ⟨rfl, rfl, trivial⟩) rfl rfl rfl rfl rfl rfl (w_quota_Queue_Clear ms K rf (by first | omega | assumption | (simp; omega) | decide | (simp; done)) (by first | omega | assumption | (simp; omega) | decide | (simp; done))) rfl (dist_of rfl) rfl rfl rfl rfl ?_) 
              refine r_op tabOk hnt rfl (s_move rfl ?_) 
              refine r_frzM (s := 88) (f := eAsk) rfl rfl view_lo ?_
              refine r_op tabOk hnt rfl (s_callF rfl rfl rfl (w_burgagelaw20_rows ms true (ws.drop wl) false (by first | omega | assumption | (simp; omega) | decide | (simp; done))) rfl ?_) 
              refine r_op tabOk hnt rfl (s_not rfl ?_) 
              refine r_set [(1, pS 3 cl_l eAsk l), (5, PV.ptr 0 0), (6, pI (max (min most 64) 1)), (8, pN rg), (9, pN i), (23, pN i), (24, pB (decide (((i : Nat) : Int) < 200))), (90, pB (!(decide (ms.map mKey = (ws.drop wl).map aKey))))] [(2, oB false 3 eAsk ws), (0, .obj [PV.ref 4 0 none, pI K, pI rf]), (4, oB false 3 eMsg ([] : List TMsg)), (3, .obj [pI e1.kind, pI e1.id, pS 1 false enc8 e1.pdu])] 5 ⟨rfl, rfl, rfl, rfl, rfl, rfl, rfl, rfl, trivial⟩ rfl rfl ?_
              refine r_end ?_
              refine q_then ?_
              refine w_if rfl (fun c5 => ?_) (fun c5 => ?_)
              ·
                have c5_ := c5
                exact absurd c5 (by exact not_dec1 hI.same)
              ·
                have c5_ := c5
                try simp only [decide_eq_true_eq, decide_eq_false_iff_not, Bool.not_eq_true', Bool.not_eq_false', Bool.not_true, Bool.not_false, Bool.not_eq_eq_eq_not, Int.not_lt, Int.not_le] at c5
                refine w_skip ?_
                refine q_then ?_
                refine w_R ?_
                refine r_op tabOk hnt rfl (s_assign rfl ?_) 
                refine r_adopt (s := 7) (sz := 3) rfl ?_
                refine r_low (n := 5) rfl ?_
                refine r_end ?_
                refine q_block ?_
                refine q_then ?_
                refine ⟨(([] : List TMsg)), (rf), (([] : List TAsk)), (0), (rg), ?_, ⟨[(0, 0), (1, 4), (2, 5)], by rw [hk]; decide, ⟨⟨_, rfl, rfl, rfl⟩, ⟨_, rfl, rfl, rfl⟩, ⟨_, rfl, rfl, rfl⟩, ⟨_, rfl, rfl, rfl⟩, ⟨_, rfl, rfl, rfl⟩, ⟨_, rfl, rfl, rfl⟩, ⟨_, rfl, rfl, rfl⟩, ⟨_, rfl, rfl, rfl⟩, trivial⟩, ⟨⟨_, _, rfl, rfl, rfl, rfl⟩, ⟨_, _, rfl, rfl, rfl, rfl⟩, ⟨_, _, rfl, rfl, rfl, rfl⟩, trivial⟩, by rw [hk]; decide⟩⟩
                exact hI.clear.up
            ·
              have c4_ := c4
              try simp only [decide_eq_true_eq, decide_eq_false_iff_not, Bool.not_eq_true', Bool.not_eq_false', Bool.not_true, Bool.not_false, Bool.not_eq_eq_eq_not, Int.not_lt, Int.not_le] at c4
              refine w_seq ?_
              refine w_seq ?_
              refine w_R ?_
              refine r_op tabOk hnt rfl (s_move rfl ?_) 
              refine r_op tabOk hnt rfl (s_fa_ptr tab_25 rfl rfl tab_3 (by decide) rfl ?_) 
              refine r_op tabOk hnt rfl (s_load_ptr1 tab_3 rfl rfl rfl rfl rfl ?_) 
              refine r_op tabOk hnt rfl (s_fa_ptr tab_25 rfl rfl tab_23 (by decide) rfl ?_) 
              refine r_op tabOk hnt rfl (s_load_ptr1 tab_23 rfl rfl rfl rfl rfl ?_) 
              refine r_op tabOk hnt rfl (s_build tab_33 rfl rfl (b_cons rfl tab_3 rfl rfl rfl (Nat.le_of_ble_eq_true rfl) (b_cons rfl tab_23 rfl rfl rfl (Nat.le_of_ble_eq_true rfl) (b_nil ?_)))) 
              refine r_op tabOk hnt rfl (s_callX (r2 := pB (decide ((ms.length : Int) < K))) (nx1 := 5) (H2 := [(3, .obj [pI e1.kind, pI e1.id, pS 1 false enc8 e1.pdu]), (0, .obj [PV.ref 1 0 none, pI K, pI rf]), (1, oB false 3 eMsg ms), (2, oB false 3 eAsk ws)]) (H3 := [(0, .obj [PV.ref 4 0 none, pI K, pI (qR ms K rf)]), (4, oB false 3 eMsg (qL ms K (⟨e1.id, 0, e1.pdu⟩ : TMsg))), (3, .obj [pI e1.kind, pI e1.id, pS 1 false enc8 e1.pdu]), (2, oB false 3 eAsk ws)]) [0, 1] [.obj [PV.ref 1 0 none, pI K, pI rf], oB false 3 eMsg ms] rfl rfl rfl (handed_of (by decide) ⟨rfl, rfl, trivial⟩) rfl rfl rfl rfl rfl rfl (w_quota_Queue_Put ms K rf (⟨e1.id, 0, e1.pdu⟩ : TMsg) (by first | omega | assumption | (simp; omega) | decide | (simp; done)) (by first | omega | assumption | (simp; omega) | decide | (simp; done)) (by first | omega | assumption | (simp; omega) | decide | (simp; done))) rfl (dist_of rfl) rfl rfl rfl rfl ?_) 
              refine r_op tabOk hnt rfl (s_move rfl ?_) 
              refine r_op tabOk hnt rfl (s_lenM (l := ws.drop wl) tab_22 rfl (hM_refl (f := eAsk) rfl rfl) ?_) 
              refine r_op tabOk hnt rfl (s_move rfl ?_) 
              refine r_op tabOk hnt rfl (s_lss rfl rfl ?_) 
              refine r_op tabOk hnt rfl (s_nebool tab_4 rfl rfl rfl ?_) 
              refine r_set [(1, pS 3 cl_l eAsk l), (5, PV.ptr 0 0), (6, pI (max (min most 64) 1)), (7, PV.ref 2 wl none), (8, pN rg), (9, pN i), (10, PV.ptr 3 0), (23, pN i), (24, pB (decide (((i : Nat) : Int) < 200))), (47, pB (!((decide ((ms.length : Int) < K)) == (decide ((((ws.drop wl).length : Nat) : Int) < max (min most 64) 1)))))] [(0, .obj [PV.ref 4 0 none, pI K, pI (qR ms K rf)]), (4, oB false 3 eMsg (qL ms K (⟨e1.id, 0, e1.pdu⟩ : TMsg))), (3, .obj [pI e1.kind, pI e1.id, pS 1 false enc8 e1.pdu]), (2, oB false 3 eAsk ws)] 5 ⟨rfl, rfl, rfl, rfl, rfl, rfl, rfl, rfl, rfl, rfl, trivial⟩ rfl rfl ?_
              refine r_end ?_
              refine q_then ?_
              refine w_if rfl (fun c6 => ?_) (fun c6 => ?_)
              ·
                have c6_ := c6
                exact absurd c6 (by exact not_dec (by rw [List.length_drop]; omega))
              ·
                have c6_ := c6
                try simp only [decide_eq_true_eq, decide_eq_false_iff_not, Bool.not_eq_true', Bool.not_eq_false', Bool.not_true, Bool.not_false, Bool.not_eq_eq_eq_not, Int.not_lt, Int.not_le] at c6
                refine w_skip ?_
                refine q_then ?_
                refine w_seq ?_
                refine w_R ?_
                refine r_op tabOk hnt rfl (s_move rfl ?_) 
                refine r_op tabOk hnt rfl (s_lenM (l := ws.drop wl) tab_22 rfl (hM_refl (f := eAsk) rfl rfl) ?_) 
                refine r_op tabOk hnt rfl (s_move rfl ?_) 
                refine r_op tabOk hnt rfl (s_lss rfl rfl ?_) 
                refine r_end ?_
                refine q_then ?_
                refine w_if rfl (fun c7 => ?_) (fun c7 => ?_)
                ·
                  have c7_ := c7
                  try simp only [decide_eq_true_eq, decide_eq_false_iff_not, Bool.not_eq_true', Bool.not_eq_false', Bool.not_true, Bool.not_false, Bool.not_eq_eq_eq_not, Int.not_lt, Int.not_le] at c7
                  refine w_R ?_
                  refine r_op tabOk hnt rfl (s_move rfl ?_) 
                  refine r_op tabOk hnt rfl (s_load_ptr tab_25 rfl rfl rfl (Nat.le_of_ble_eq_true rfl) ?_) 
                  refine r_op tabOk hnt rfl (s_mkM (f := eAsk) [(⟨e1.kind, e1.id, e1.pdu⟩ : TAsk)] tab_22 rfl tab_25 ⟨rfl, by decide⟩ (by decide) rfl rfl rfl rfl ?_) 
                  refine r_op tabOk hnt rfl (s_appR (f := eAsk) (l := ws) (xs := [(⟨e1.kind, e1.id, e1.pdu⟩ : TAsk)]) tab_22 rfl tab_25 ⟨rfl, by decide, by decide⟩ (srcM tab_22 rfl (hM_ref0 (f := eAsk) rfl rfl)) rfl rfl (by first | omega | (simp; omega)) ?_) 
                  refine r_op tabOk hnt rfl (s_assign rfl ?_) 
                  refine r_end ?_
                  refine q_block ?_
                  refine q_then ?_
                  refine ⟨(qL ms K (⟨e1.id, 0, e1.pdu⟩ : TMsg)), (qR ms K rf), (ws.drop wl ++ [(⟨e1.kind, e1.id, e1.pdu⟩ : TAsk)]), (0), (rg), ?_, ⟨[(0, 0), (1, 4), (2, 6)], by rw [hk]; decide, ⟨⟨_, rfl, rfl, rfl⟩, ⟨_, rfl, rfl, rfl⟩, ⟨_, rfl, rfl, rfl⟩, ⟨_, rfl, rfl, rfl⟩, ⟨_, rfl, rfl, rfl⟩, ⟨_, rfl, rfl, rfl⟩, ⟨_, rfl, rfl, rfl⟩, ⟨_, rfl, rfl, rfl⟩, trivial⟩, ⟨⟨_, _, rfl, rfl, rfl, rfl⟩, ⟨_, _, rfl, rfl, rfl, rfl⟩, ⟨_, _, rfl, rfl, rfl, rfl⟩, trivial⟩, by rw [hk]; decide⟩⟩
                  rw [List.length_drop] at c7
                  exact hI.put (by omega) (hs _ (List.mem_of_getElem? he1))
                ·
                  have c7_ := c7
                  try simp only [decide_eq_true_eq, decide_eq_false_iff_not, Bool.not_eq_true', Bool.not_eq_false', Bool.not_true, Bool.not_false, Bool.not_eq_eq_eq_not, Int.not_lt, Int.not_le] at c7
                  refine w_R ?_
                  refine r_op tabOk hnt rfl (s_move rfl ?_) 
                  refine r_op tabOk hnt rfl (s_addN (a := rg) (b := 1) rfl rfl (by omega) (by omega) (by omega) ?_) 
                  refine r_op tabOk hnt rfl (s_assign rfl ?_) 
                  refine r_end ?_
                  refine q_block ?_
                  refine q_then ?_
                  refine ⟨(qL ms K (⟨e1.id, 0, e1.pdu⟩ : TMsg)), (qR ms K rf), (ws), (wl), (rg + 1), ?_, ⟨[(0, 0), (1, 4), (2, 2)], by rw [hk]; decide, ⟨⟨_, rfl, rfl, rfl⟩, ⟨_, rfl, rfl, rfl⟩, ⟨_, rfl, rfl, rfl⟩, ⟨_, rfl, rfl, rfl⟩, ⟨_, rfl, rfl, rfl⟩, ⟨_, rfl, rfl, rfl⟩, ⟨_, rfl, rfl, rfl⟩, ⟨_, rfl, rfl, rfl⟩, trivial⟩, ⟨⟨_, _, rfl, rfl, rfl, rfl⟩, ⟨_, _, rfl, rfl, rfl, rfl⟩, ⟨_, _, rfl, rfl, rfl, rfl⟩, trivial⟩, by rw [hk]; decide⟩⟩
                  rw [List.length_drop] at c7
                  exact hI.full (by omega)
        ·
          intro ms rf ws wl rg hJ
          have hlen2 := hJ.len
          have hsame2 := hJ.same
          have hroom2 := hJ.room
          have hfine2 := hJ.fine
          have hrf2 := hJ.refd
          refine w_seq ?_
          refine w_R ?_
          refine r_op tabOk hnt rfl (s_move rfl ?_) 
          refine r_op tabOk hnt rfl (s_callX (r2 := pN ms.length) (nx1 := 4) (H2 := [(0, .obj [PV.ref 1 0 none, pI K, pI rf]), (1, oB false 3 eMsg ms), (2, oB false 3 eAsk ws)]) (H3 := [(0, .obj [PV.ref 3 0 none, pI K, pI rf]), (3, oB false 3 eMsg ms), (2, oB false 3 eAsk ws)]) [0, 1] [.obj [PV.ref 1 0 none, pI K, pI rf], oB false 3 eMsg ms] rfl rfl rfl (handed_of (by decide) ⟨rfl, rfl, trivial⟩) rfl rfl rfl rfl rfl rfl (w_quota_Queue_Len ms K rf) rfl (dist_of rfl) rfl rfl rfl rfl ?_) 
          refine r_op tabOk hnt rfl (s_move rfl ?_) 
          refine r_op tabOk hnt rfl (s_lenM (l := ws.drop wl) tab_22 rfl (hM_refl (f := eAsk) rfl rfl) ?_) 
          refine r_op tabOk hnt rfl (s_neq rfl rfl ?_) 
          refine r_op tabOk hnt rfl (s_move rfl ?_) 
          refine r_if tabOk hnt rfl rfl rfl (fun g4 => ?_) (fun g4 => ?_)
          ·
            have g4' := g4
            try simp only [decide_eq_true_eq, decide_eq_false_iff_not, Bool.not_eq_true', Bool.not_eq_false', Bool.not_true, Bool.not_false, Bool.not_eq_eq_eq_not, Int.not_lt, Int.not_le] at g4'
            refine r_op tabOk hnt rfl (s_move rfl ?_) 
            refine r_if tabOk hnt rfl rfl rfl (fun _ => ?_) (fun e => absurd (e.symm.trans g4) (by decide))
            refine r_op tabOk hnt rfl (s_callX (r2 := pI rf) (nx1 := 5) (H2 := [(0, .obj [PV.ref 3 0 none, pI K, pI rf]), (3, oB false 3 eMsg ms), (2, oB false 3 eAsk ws)]) (H3 := [(0, .obj [PV.ref 4 0 none, pI K, pI rf]), (4, oB false 3 eMsg ms), (2, oB false 3 eAsk ws)]) [0, 3] [.obj [PV.ref 3 0 none, pI K, pI rf], oB false 3 eMsg ms] rfl rfl rfl (handed_of (by decide) ⟨rfl, rfl, trivial⟩) rfl rfl rfl rfl rfl rfl (w_quota_Queue_Refused ms K rf) rfl (dist_of rfl) rfl rfl rfl rfl ?_) 
            refine r_if tabOk hnt rfl rfl rfl (fun _ => ?_) (fun e => absurd (e.symm.trans g4) (by decide))
            refine r_op tabOk hnt rfl (s_move rfl ?_) 
            refine r_if tabOk hnt rfl rfl rfl (fun _ => ?_) (fun e => absurd (e.symm.trans g4) (by decide))
            refine r_op tabOk hnt rfl (s_neq rfl rfl ?_) 
            refine r_op tabOk hnt rfl (s_pick_f rfl g4 rfl ?_) 
            refine r_op tabOk hnt rfl (s_move rfl ?_) 
            refine r_if tabOk hnt rfl rfl rfl (fun g5 => ?_) (fun g5 => ?_)
            ·
              have g5' := g5
              try simp only [decide_eq_true_eq, decide_eq_false_iff_not, Bool.not_eq_true', Bool.not_eq_false', Bool.not_true, Bool.not_false, Bool.not_eq_eq_eq_not, Int.not_lt, Int.not_le] at g5'
              refine r_op tabOk hnt rfl (s_move rfl ?_) 
              refine r_if tabOk hnt rfl rfl rfl (fun _ => ?_) (fun e => absurd (e.symm.trans g5) (by decide))
              refine r_op tabOk hnt rfl (s_callX (r2 := pS 3 true eMsg ms) (nx1 := 6) (H2 := [(0, .obj [PV.ref 4 0 none, pI K, pI rf]), (4, oB false 3 eMsg ms), (2, oB false 3 eAsk ws)]) (H3 := [(0, .obj [PV.ref 5 0 none, pI K, pI rf]), (5, oB false 3 eMsg ms), (2, oB false 3 eAsk ws)]) [0, 4] [.obj [PV.ref 4 0 none, pI K, pI rf], oB false 3 eMsg ms] rfl rfl rfl (handed_of (by decide) ⟨rfl, rfl, trivial⟩) rfl rfl rfl rfl rfl rfl (w_quota_Queue_All ms K rf (by first | omega | assumption | (simp; omega) | decide | (simp; done)) (by first | omega | assumption | (simp; omega) | decide | (simp; done))) rfl (dist_of rfl) rfl rfl rfl rfl ?_) 
              refine r_if tabOk hnt rfl rfl rfl (fun _ => ?_) (fun e => absurd (e.symm.trans g5) (by decide))
              refine r_op tabOk hnt rfl (s_move rfl ?_) 
              refine r_if tabOk hnt rfl rfl rfl (fun _ => ?_) (fun e => absurd (e.symm.trans g5) (by decide))
              refine r_frzM (s := 105) (f := eAsk) rfl rfl view_lo ?_
              refine r_op tabOk hnt rfl (s_callF rfl rfl rfl (w_burgagelaw20_rows ms true (ws.drop wl) false (by first | omega | assumption | (simp; omega) | decide | (simp; done))) rfl ?_) 
              refine r_if tabOk hnt rfl rfl rfl (fun _ => ?_) (fun e => absurd (e.symm.trans g5) (by decide))
              refine r_op tabOk hnt rfl (s_not rfl ?_) 
              refine r_op tabOk hnt rfl (s_pick_f rfl g5 rfl ?_) 
              refine r_set [(1, pS 3 cl_l eAsk l), (5, PV.ptr 0 0), (6, pI (max (min most 64) 1)), (7, PV.ref 2 wl none), (8, pN rg), (9, pN i), (23, pN i), (24, pB (decide (((i : Nat) : Int) < 200))), (108, pB (!(decide (ms.map mKey = (ws.drop wl).map aKey))))] [(2, oB false 3 eAsk ws), (0, .obj [PV.ref 5 0 none, pI K, pI rf]), (5, oB false 3 eMsg ms)] 6 ⟨rfl, rfl, rfl, rfl, rfl, rfl, rfl, rfl, rfl, trivial⟩ rfl rfl ?_
              refine r_end ?_
              refine q_then ?_
              refine w_if rfl (fun c8 => ?_) (fun c8 => ?_)
              ·
                have c8_ := c8
                exact absurd c8 (by exact not_dec1 hsame2)
              ·
                have c8_ := c8
                try simp only [decide_eq_true_eq, decide_eq_false_iff_not, Bool.not_eq_true', Bool.not_eq_false', Bool.not_true, Bool.not_false, Bool.not_eq_eq_eq_not, Int.not_lt, Int.not_le] at c8
                refine w_skip ?_
                refine q_block ?_
                refine q_then ?_
                refine w_R ?_
                refine r_op tabOk hnt rfl (s_move rfl ?_) 
                refine r_op tabOk hnt rfl (s_addN (a := i) (b := 1) rfl rfl (by omega) (by omega) (by omega) ?_) 
                refine r_op tabOk hnt rfl (s_assign rfl ?_) 
                refine r_end ?_
                refine q_then ?_
                refine ⟨(ms), (rf), (ws), (wl), (rg), (i + 1), ?_, ?_, ⟨[(0, 0), (1, 5), (2, 2)], by rw [hk]; decide, ⟨⟨_, rfl, rfl, rfl⟩, ⟨_, rfl, rfl, rfl⟩, ⟨_, rfl, rfl, rfl⟩, ⟨_, rfl, rfl, rfl⟩, ⟨_, rfl, rfl, rfl⟩, ⟨_, rfl, rfl, rfl⟩, trivial⟩, ⟨⟨_, _, rfl, rfl, rfl, rfl⟩, ⟨_, _, rfl, rfl, rfl, rfl⟩, ⟨_, _, rfl, rfl, rfl, rfl⟩, trivial⟩, by rw [hk]; decide⟩⟩
                ·
                  exact ⟨by omega, hJ⟩
                · omega
            ·
              exact absurd g5 (by exact not_dec1 (by omega))
          ·
            exact absurd g4 (by exact not_dec1 (by simp; omega))
      ·
        have c1_ := c1
        try simp only [decide_eq_true_eq, decide_eq_false_iff_not, Bool.not_eq_true', Bool.not_eq_false', Bool.not_true, Bool.not_false, Bool.not_eq_eq_eq_not, Int.not_lt, Int.not_le] at c1
        refine w_exit ?_
        refine q_then_exit ?_
        refine q_then_exit ?_
        refine q_block_exit ?_
        refine q_then ?_
        refine w_seq ?_
        refine w_R ?_
        refine r_op tabOk hnt rfl (s_move rfl ?_) 
        refine r_op tabOk hnt rfl (s_ptrnot tab_30 rfl rfl trivial ?_) 
        refine r_op tabOk hnt rfl (s_assign rfl ?_) 
        refine r_end ?_
        refine q_then ?_
        refine w_ret ?_
        exact fin_plain (ret_tmp rfl ret_nil) rfl rfl ⟨rfl, rfl, rfl⟩
    ·
      have g1' := g1
      try simp only [decide_eq_true_eq, decide_eq_false_iff_not, Bool.not_eq_true', Bool.not_eq_false', Bool.not_true, Bool.not_false, Bool.not_eq_eq_eq_not, Int.not_lt, Int.not_le] at g1'
      refine r_if tabOk hnt rfl rfl rfl (fun e => absurd (e.symm.trans g1) (by decide)) (fun _ => ?_)
      refine r_op tabOk hnt rfl (s_pick_f rfl g1 rfl ?_) 
      refine r_end ?_
      refine q_then ?_
      refine w_if rfl (fun e => absurd e (by decide)) (fun _ => ?_)
      refine w_exit ?_
      refine q_then_exit ?_
      refine q_then_exit ?_
      refine q_block_exit ?_
      refine q_then ?_
      refine w_seq ?_
      refine w_R ?_
      refine r_op tabOk hnt rfl (s_move rfl ?_) 
      refine r_op tabOk hnt rfl (s_ptrnot tab_30 rfl rfl trivial ?_) 
      refine r_op tabOk hnt rfl (s_assign rfl ?_) 
      refine r_end ?_
      refine q_then ?_
      refine w_ret ?_
      exact fin_plain (ret_tmp rfl ret_nil) rfl rfl ⟨rfl, rfl, rfl⟩

theorem w_burgagelaw20_QuotaPlays (most : Int) (l : List TAsk) (cl_l : Bool) (hm : -9223372036854775808 ≤ most ∧ most ≤ 9223372036854775807) (hl : l.length * 40 ≤ 140737488351232) (hs : ∀ a ∈ l, a.pdu.length ≤ 140737488351232) :
    T Try.prog 4 [pI most, pS 3 cl_l eAsk l] 0 [] (Ret (pB true) 0 []) := by
  refine t_fun tabOk (n := 39) (rs := [.tmp 4]) Try.func4 rfl rfl rfl rfl (Nat.le_of_ble_eq_true rfl) ?_
  intro c hnt hk
  refine w_seq ?_
  refine w_R ?_
  refine r_op tabOk hnt rfl (s_assign rfl ?_) 
  refine r_end ?_
  refine q_then ?_
  refine w_seq ?_
  refine w_R ?_
  refine r_op tabOk hnt rfl (s_assign rfl ?_) 
  refine r_end ?_
  refine q_then ?_
  refine w_seq ?_
  refine w_seq ?_
  refine w_R ?_
  refine r_op tabOk hnt rfl (s_move rfl ?_) 
  refine r_op tabOk hnt rfl (s_lenM (l := l) tab_22 rfl (hM_sl (f := eAsk) rfl) ?_) 
  refine r_op tabOk hnt rfl (s_move rfl ?_) 
  refine r_end ?_
  refine q_then ?_
  refine w_block ?_
  refine w_adopt (s := 5) (sz := 3) rfl ?_
  refine loop2 (fun (sm : List TAsk) (i : Nat) => i ≤ l.length ∧ sm.length = i ∧ ∀ a ∈ sm, a.pdu.length ≤ 140737488351232) (fun (sm : List TAsk) (i : Nat) => [(0, pI most), (1, pS 3 cl_l eAsk l), (5, PV.ref 0 0 none), (9, pN l.length), (10, pN i)]) 1 (fun (sm : List TAsk) (i : Nat) => [(0, oB true 3 eAsk sm)]) (fun (sm : List TAsk) (i : Nat) => l.length - i) (([] : List TAsk)) (0) ?_ ⟨[(0, 0)], by rw [hk]; decide, ⟨⟨_, rfl, rfl, rfl⟩, ⟨_, rfl, rfl, rfl⟩, ⟨_, rfl, rfl, rfl⟩, ⟨_, rfl, rfl, rfl⟩, ⟨_, rfl, rfl, rfl⟩, trivial⟩, ⟨⟨_, _, rfl, rfl, rfl, rfl⟩, trivial⟩, by rw [hk]; decide⟩ ?_
  · simp
  ·
    intro sm i hI
    obtain ⟨hi, hsl, hsm⟩ := hI
    refine w_seq ?_
    refine w_R ?_
    refine r_op tabOk hnt rfl (s_lss rfl rfl ?_) 
    refine r_end ?_
    refine q_then ?_
    refine w_seq ?_
    refine w_if rfl (fun c1 => ?_) (fun c1 => ?_)
    ·
      have c1_ := c1
      try simp only [decide_eq_true_eq, decide_eq_false_iff_not, Bool.not_eq_true', Bool.not_eq_false', Bool.not_true, Bool.not_false, Bool.not_eq_eq_eq_not, Int.not_lt, Int.not_le] at c1
      refine w_skip ?_
      refine q_then ?_
      refine w_seq ?_
      refine w_block ?_
      refine w_seq ?_
      refine w_R ?_
      refine r_op tabOk hnt rfl (s_move rfl ?_) 
      refine r_op tabOk hnt rfl (s_assign rfl ?_) 
      refine r_end ?_
      refine q_then ?_
      refine w_seq ?_
      refine w_R ?_
      refine r_op tabOk hnt rfl (s_move rfl ?_) 
      refine r_op tabOk hnt rfl (s_move rfl ?_) 
      obtain ⟨e1, he1⟩ := get_of_lt l (i := i) (by omega)
      refine r_op tabOk hnt rfl (s_iaM (q := i) (b := e1) (f := eAsk) tab_22 rfl tab_25 rfl rfl (by omega) rfl he1 ?_) 
      refine r_op tabOk hnt rfl (s_load_ro tab_25 rfl rfl rfl ?_) 
      refine r_op tabOk hnt rfl (s_alloc tab_25 ?_) 
      refine r_op tabOk hnt rfl (s_store_ptr tab_25 rfl rfl rfl rfl rfl (Nat.le_of_ble_eq_true rfl) ?_) 
      refine r_set [(0, pI most), (1, pS 3 cl_l eAsk l), (5, PV.ref 0 0 none), (7, PV.ptr 1 0), (9, pN l.length), (10, pN i)] [(1, .obj [pI e1.kind, pI e1.id, pS 1 false enc8 e1.pdu]), (0, oB true 3 eAsk sm)] 2 ⟨rfl, rfl, rfl, rfl, rfl, rfl, trivial⟩ rfl rfl ?_
      refine r_end ?_
      refine q_then ?_
      refine w_seq ?_
      refine w_R ?_
      refine r_op tabOk hnt rfl (s_fa_ptr tab_25 rfl rfl tab_3 (by decide) rfl ?_) 
      refine r_op tabOk hnt rfl (s_load_ptr1 tab_3 rfl rfl rfl rfl rfl ?_) 
      refine r_op tabOk hnt rfl (s_callF rfl rfl rfl (w_burgagebook_Within e1.kind 0 4 (by first | omega | assumption | (simp; omega) | decide | (simp; done))) rfl ?_) 
      refine r_op tabOk hnt rfl (s_fa_ptr tab_25 rfl rfl tab_3 (by decide) rfl ?_) 
      refine r_op tabOk hnt rfl (s_store_ptr tab_3 rfl rfl rfl rfl rfl (Nat.le_of_ble_eq_true rfl) ?_) 
      refine r_set [(0, pI most), (1, pS 3 cl_l eAsk l), (5, PV.ref 0 0 none), (7, PV.ptr 1 0), (9, pN l.length), (10, pN i)] [(1, .obj [pI (within e1.kind 0 4), pI e1.id, pS 1 false enc8 e1.pdu]), (0, oB true 3 eAsk sm)] 2 ⟨rfl, rfl, rfl, rfl, rfl, rfl, trivial⟩ rfl rfl ?_
      refine r_end ?_
      refine q_then ?_
      refine w_R ?_
      refine r_op tabOk hnt rfl (s_move rfl ?_) 
      refine r_op tabOk hnt rfl (s_load_ptr tab_25 rfl rfl rfl (Nat.le_of_ble_eq_true rfl) ?_) 
      refine r_op tabOk hnt rfl (s_mkM (f := eAsk) [(⟨within e1.kind 0 4, e1.id, e1.pdu⟩ : TAsk)] tab_22 rfl tab_25 ⟨rfl, by decide⟩ (by decide) rfl rfl rfl rfl ?_) 
      refine r_op tabOk hnt rfl (s_appR0 (f := eAsk) (l := sm) (xs := [(⟨within e1.kind 0 4, e1.id, e1.pdu⟩ : TAsk)]) tab_22 rfl tab_25 ⟨rfl, by decide, by decide⟩ (srcM tab_22 rfl (hM_ref0 (f := eAsk) rfl rfl)) rfl rfl (by first | omega | (simp; omega)) ?_) 
      refine r_op tabOk hnt rfl (s_assign rfl ?_) 
      refine r_set [(0, pI most), (1, pS 3 cl_l eAsk l), (5, PV.ref 3 0 none), (9, pN l.length), (10, pN i)] [(3, oB true 3 eAsk (sm ++ [(⟨within e1.kind 0 4, e1.id, e1.pdu⟩ : TAsk)])), (2, oB true 3 eAsk [(⟨within e1.kind 0 4, e1.id, e1.pdu⟩ : TAsk)]), (1, .obj [pI (within e1.kind 0 4), pI e1.id, pS 1 false enc8 e1.pdu])] 4 ⟨rfl, rfl, rfl, rfl, rfl, trivial⟩ rfl rfl ?_
      refine r_end ?_
      refine q_block ?_
      refine q_then ?_
      refine w_R ?_
      refine r_op tabOk hnt rfl (s_addN (a := i) (b := 1) rfl rfl (by omega) (by omega) (by omega) ?_) 
      refine r_op tabOk hnt rfl (s_move rfl ?_) 
      refine r_end ?_
      refine q_then ?_
      refine ⟨(sm ++ [(⟨within e1.kind 0 4, e1.id, e1.pdu⟩ : TAsk)]), (i + 1), ?_, ?_, ⟨[(0, 3)], by rw [hk]; decide, ⟨⟨_, rfl, rfl, rfl⟩, ⟨_, rfl, rfl, rfl⟩, ⟨_, rfl, rfl, rfl⟩, ⟨_, rfl, rfl, rfl⟩, ⟨_, rfl, rfl, rfl⟩, trivial⟩, ⟨⟨_, _, rfl, rfl, rfl, rfl⟩, trivial⟩, by rw [hk]; decide⟩⟩
      ·
        refine ⟨by omega, by simp [hsl], fun a ha => ?_⟩
        rcases List.mem_append.1 ha with h | h
        · exact hsm a h
        · simp at h; subst h; exact hs e1 (List.mem_of_getElem? he1)
      · omega
    ·
      have c1_ := c1
      try simp only [decide_eq_true_eq, decide_eq_false_iff_not, Bool.not_eq_true', Bool.not_eq_false', Bool.not_true, Bool.not_false, Bool.not_eq_eq_eq_not, Int.not_lt, Int.not_le] at c1
      refine w_exit ?_
      refine q_then_exit ?_
      refine q_then_exit ?_
      refine q_block_exit ?_
      refine q_then ?_
      refine w_seq ?_
      refine w_R ?_
      refine r_op tabOk hnt rfl (s_move rfl ?_) 
      refine r_op tabOk hnt rfl (s_move rfl ?_) 
      refine r_op tabOk hnt rfl (s_callF rfl rfl rfl (w_burgagelaw20_play most l cl_l (by first | omega | assumption | (simp; omega) | decide | (simp; done)) (by first | omega | assumption | (simp; omega) | decide | (simp; done))) rfl ?_) 
      refine r_op tabOk hnt rfl (s_move rfl ?_) 
      refine r_if tabOk hnt rfl rfl rfl (fun _ => ?_) (fun e => absurd e (by decide))
      refine r_op tabOk hnt rfl (s_move rfl ?_) 
      refine r_if tabOk hnt rfl rfl rfl (fun _ => ?_) (fun e => absurd e (by decide))
      refine r_op tabOk hnt rfl (s_maskI 3 (by decide) rfl rfl (by decide) ?_) 
      refine r_if tabOk hnt rfl rfl rfl (fun _ => ?_) (fun e => absurd e (by decide))
      refine r_op tabOk hnt rfl (s_addN (a := 1) (b := (most % 2 ^ 3).toNat) rfl rfl (by omega) (by omega) (by omega) ?_) 
      refine r_if tabOk hnt rfl rfl rfl (fun _ => ?_) (fun e => absurd e (by decide))
      refine r_op tabOk hnt rfl (s_move rfl ?_) 
      refine r_if tabOk hnt rfl rfl rfl (fun _ => ?_) (fun e => absurd e (by decide))
      refine r_op tabOk hnt rfl (s_callX (r2 := pB true) (nx1 := 1) (H2 := [(0, oB false 3 eAsk sm)]) (H3 := [(0, oB false 3 eAsk sm)]) [] [] rfl rfl rfl (handed_of (by decide) trivial) rfl rfl rfl rfl rfl rfl (w_burgagelaw20_play ((1 + ((most % 2 ^ 3).toNat) : Nat) : Int) sm false (by first | omega | assumption | (simp; omega) | decide | (simp; done)) (by first | omega | assumption | (simp; omega) | decide | (simp; done))) rfl (dist_of rfl) rfl rfl rfl rfl ?_) 
      refine r_op tabOk hnt rfl (s_pick_t rfl rfl rfl ?_) 
      refine r_op tabOk hnt rfl (s_move rfl ?_) 
      refine r_if tabOk hnt rfl rfl rfl (fun _ => ?_) (fun e => absurd e (by decide))
      refine r_op tabOk hnt rfl (s_callF rfl rfl rfl (w_burgagelaw20_known) rfl ?_) 
      refine r_op tabOk hnt rfl (s_pick_t rfl rfl rfl ?_) 
      refine r_op tabOk hnt rfl (s_assign rfl ?_) 
      refine r_set [(4, pB true)] [(0, oB false 3 eAsk sm)] 1 ⟨rfl, trivial⟩ rfl rfl ?_
      refine r_end ?_
      refine q_then ?_
      refine w_ret ?_
      exact fin_plain (ret_tmp rfl ret_nil) rfl rfl ⟨rfl, rfl, rfl⟩

theorem w_burgagelaw20_QuotaOrder (most : Int) (takes : List Bool) (cl_takes : Bool) (hl : takes.length ≤ 140737488351232) :
    T Try.prog 5 [pI most, pS 1 cl_takes encBo takes] 0 [] (Ret (pB true) 0 []) := by
  refine t_fun tabOk (n := 72) (rs := [.tmp 4]) Try.func5 rfl rfl rfl rfl (Nat.le_of_ble_eq_true rfl) ?_
  intro c hnt hk
  have hk0 : (most % 2 ^ 4).toNat < 16 := by omega
  refine w_seq ?_
  refine w_R ?_
  refine r_op tabOk hnt rfl (s_assign rfl ?_) 
  refine r_end ?_
  refine q_then ?_
  refine w_seq ?_
  refine w_R ?_
  refine r_op tabOk hnt rfl (s_move rfl ?_) 
  refine r_op tabOk hnt rfl (s_maskI 4 (by decide) rfl rfl (by decide) ?_) 
  refine r_op tabOk hnt rfl (s_addN (a := 1) (b := (most % 2 ^ 4).toNat) rfl rfl (by omega) (by omega) (by omega) ?_) 
  refine r_op tabOk hnt rfl (s_callX (r2 := PV.ptr 0 0) (nx1 := 2) (H2 := []) (H3 := [(0, .obj [PV.ref 1 0 none, pI (max 1 (min ((1 + ((most % 2 ^ 4).toNat) : Nat) : Int) 64)), pI 0]), (1, oB false 3 eMsg ([] : List TMsg))]) [] [] rfl rfl rfl (handed_of (by decide) trivial) rfl rfl rfl rfl rfl rfl (w_quota_New ((1 + ((most % 2 ^ 4).toNat) : Nat) : Int)) rfl (dist_of rfl) rfl rfl rfl rfl ?_) 
  refine r_op tabOk hnt rfl (s_assign rfl ?_) 
  refine r_set [(0, pI most), (1, pS 1 cl_takes encBo takes), (5, PV.ptr 0 0)] [(0, .obj [PV.ref 1 0 none, pI (max 1 (min ((1 + ((most % 2 ^ 4).toNat) : Nat) : Int) 64)), pI 0]), (1, oB false 3 eMsg ([] : List TMsg))] 2 ⟨rfl, rfl, rfl, trivial⟩ rfl rfl ?_
  refine r_end ?_
  refine q_then ?_
  refine w_seq ?_
  refine w_seq ?_
  obtain ⟨K, hK⟩ : ∃ K : Int, K = max 1 (min ((1 + (most % 2 ^ 4).toNat : Nat) : Int) 64) := ⟨_, rfl⟩
  have hK1 : 1 ≤ K ∧ K ≤ 64 := by omega
  have hK2 : K = ((1 + (most % 2 ^ 4).toNat : Nat) : Int) := by omega
  refine w_leC (n := 0) (j := 1) (y := pI K) rfl rfl (le_of_eq (congrArg (fun z : Int => pI z) (show max 1 (min ((1 + ((most % 2 ^ 4).toNat) : Nat) : Int) 64) = K by exact hK.symm))) ?_
  refine w_R ?_
  refine r_op tabOk hnt rfl (s_move rfl ?_) 
  refine r_op tabOk hnt rfl (s_ptrnil tab_30 rfl rfl trivial ?_) 
  refine r_end ?_
  refine q_then ?_
  refine w_if rfl (fun e => absurd e (by decide)) (fun _ => ?_)
  refine w_skip ?_
  refine q_then ?_
  refine w_seq ?_
  clear hK
  refine w_R ?_
  refine r_op tabOk hnt rfl (s_assign rfl ?_) 
  refine r_op tabOk hnt rfl (s_assign rfl ?_) 
  refine r_end ?_
  refine q_then ?_
  refine w_seq ?_
  refine w_seq ?_
  refine w_R ?_
  refine r_op tabOk hnt rfl (s_assign rfl ?_) 
  refine r_end ?_
  refine q_then ?_
  refine w_block ?_
  refine loop5 (fun (ms : List TMsg) (rf : Int) (la : Int) (wt : Nat) (i : Nat) => i ≤ 100 ∧ OrderI K i ms la wt ∧ 0 ≤ rf ∧ rf ≤ i) (fun (ms : List TMsg) (rf : Int) (la : Int) (wt : Nat) (i : Nat) => [(0, pI most), (1, pS 1 cl_takes encBo takes), (5, PV.ptr 0 0), (6, pI la), (7, pN wt), (8, pN i)]) 2 (fun (ms : List TMsg) (rf : Int) (la : Int) (wt : Nat) (i : Nat) => [(0, .obj [PV.ref 1 0 none, pI K, pI rf]), (1, oB false 3 eMsg ms)]) (fun (ms : List TMsg) (rf : Int) (la : Int) (wt : Nat) (i : Nat) => 100 - i) (([] : List TMsg)) (0) ((-1)) (0) (0) ?_ ⟨[(0, 0), (1, 1)], by rw [hk]; decide, ⟨⟨_, rfl, rfl, rfl⟩, ⟨_, rfl, rfl, rfl⟩, ⟨_, rfl, rfl, rfl⟩, ⟨_, rfl, rfl, rfl⟩, ⟨_, rfl, rfl, rfl⟩, ⟨_, rfl, rfl, rfl⟩, trivial⟩, ⟨⟨_, _, rfl, rfl, rfl, rfl⟩, ⟨_, _, rfl, rfl, rfl, rfl⟩, trivial⟩, by rw [hk]; decide⟩ ?_
  · exact ⟨by omega, OrderI.nil (by omega), by omega, by omega⟩
  ·
    intro ms rf la wt i hI
    obtain ⟨hi, hI, hr0, hr1⟩ := hI
    have hroom := hI.room
    have hcnt := hI.cnt
    have hfine := hI.fine
    have hlow := hI.low
    have hml : ms.length ≤ 16 := by omega
    refine w_seq ?_
    refine w_seq ?_
    refine w_R ?_
    refine r_op tabOk hnt rfl (s_move rfl ?_) 
    refine r_op tabOk hnt rfl (s_move rfl ?_) 
    refine r_op tabOk hnt rfl (s_lenM (l := takes) tab_29 rfl (hM_sl (f := encBo) rfl) ?_) 
    refine r_op tabOk hnt rfl (s_lss rfl rfl ?_) 
    refine r_op tabOk hnt rfl (s_move rfl ?_) 
    refine r_if tabOk hnt rfl rfl rfl (fun g1 => ?_) (fun g1 => ?_)
    ·
      have g1' := g1
      try simp only [decide_eq_true_eq, decide_eq_false_iff_not, Bool.not_eq_true', Bool.not_eq_false', Bool.not_true, Bool.not_false, Bool.not_eq_eq_eq_not, Int.not_lt, Int.not_le] at g1'
      refine r_op tabOk hnt rfl (s_move rfl ?_) 
      refine r_if tabOk hnt rfl rfl rfl (fun _ => ?_) (fun e => absurd (e.symm.trans g1) (by decide))
      refine r_op tabOk hnt rfl (s_lss rfl rfl ?_) 
      refine r_op tabOk hnt rfl (s_pick_t rfl g1 rfl ?_) 
      refine r_end ?_
      refine q_then ?_
      refine w_if rfl (fun c1 => ?_) (fun c1 => ?_)
      ·
        have c1_ := c1
        try simp only [decide_eq_true_eq, decide_eq_false_iff_not, Bool.not_eq_true', Bool.not_eq_false', Bool.not_true, Bool.not_false, Bool.not_eq_eq_eq_not, Int.not_lt, Int.not_le] at c1
        refine w_skip ?_
        refine q_then ?_
        refine w_seq ?_
        refine w_block ?_
        refine w_seq ?_
        refine w_seq ?_
        refine w_R ?_
        refine r_op tabOk hnt rfl (s_move rfl ?_) 
        refine r_op tabOk hnt rfl (s_move rfl ?_) 
        obtain ⟨e1, he1⟩ := get_of_lt takes (i := i) (by omega)
        refine r_op tabOk hnt rfl (s_iaM (q := i) (b := e1) (f := encBo) tab_29 rfl tab_4 rfl rfl (by omega) rfl he1 ?_) 
        refine r_op tabOk hnt rfl (s_load_ro1 tab_4 rfl rfl rfl rfl ?_) 
        refine r_end ?_
        refine q_then ?_
        refine w_if rfl (fun c2 => ?_) (fun c2 => ?_)
        ·
          have c2_ := c2
          try simp only [decide_eq_true_eq, decide_eq_false_iff_not, Bool.not_eq_true', Bool.not_eq_false', Bool.not_true, Bool.not_false, Bool.not_eq_eq_eq_not, Int.not_lt, Int.not_le] at c2
          refine w_seq ?_
          refine w_R ?_
          refine r_op tabOk hnt rfl (s_move rfl ?_) 
          refine r_op tabOk hnt rfl (s_callX (r2 := PV.tup [PV.f (eMsg (headM ms)), pB (decide (0 < ms.length))]) (nx1 := 3) (H2 := [(0, .obj [PV.ref 1 0 none, pI K, pI rf]), (1, oB false 3 eMsg ms)]) (H3 := [(0, .obj [PV.ref 2 0 none, pI K, pI rf]), (2, oB false 3 eMsg ms.tail)]) [0, 1] [.obj [PV.ref 1 0 none, pI K, pI rf], oB false 3 eMsg ms] rfl rfl rfl (handed_of (by decide) ⟨rfl, rfl, trivial⟩) rfl rfl rfl rfl rfl rfl (w_quota_Queue_Take ms K rf (by first | omega | assumption | (simp; omega) | decide | (simp; done))) rfl (dist_of rfl) rfl rfl rfl rfl ?_) 
          refine r_op tabOk hnt rfl (s_move rfl ?_) 
          refine r_op tabOk hnt rfl (s_extract rfl rfl ?_) 
          refine r_op tabOk hnt rfl (s_extract rfl rfl ?_) 
          refine r_op tabOk hnt rfl (s_alloc tab_33 ?_) 
          refine r_op tabOk hnt rfl (s_store_ptr tab_33 rfl rfl rfl rfl rfl (Nat.le_of_ble_eq_true rfl) ?_) 
          refine r_op tabOk hnt rfl (s_assign rfl ?_) 
          refine r_set [(0, pI most), (1, pS 1 cl_takes encBo takes), (5, PV.ptr 0 0), (6, pI la), (7, pN wt), (8, pN i), (9, PV.ptr 3 0), (10, pB (decide (0 < ms.length))), (22, pN i), (23, pB (decide (((i : Nat) : Int) < 100)))] [(3, .obj [pI ((headM ms).id), pI ((headM ms).unit), pS 1 false enc8 ((headM ms).pdu)]), (0, .obj [PV.ref 2 0 none, pI K, pI rf]), (2, oB false 3 eMsg ms.tail)] 4 ⟨rfl, rfl, rfl, rfl, rfl, rfl, rfl, rfl, rfl, rfl, trivial⟩ rfl rfl ?_
          refine r_end ?_
          refine q_then ?_
          refine w_seq ?_
          refine w_seq ?_
          refine w_R ?_
          refine r_op tabOk hnt rfl (s_move rfl ?_) 
          refine r_op tabOk hnt rfl (s_move rfl ?_) 
          refine r_op tabOk hnt rfl (s_gtr rfl rfl ?_) 
          refine r_op tabOk hnt rfl (s_nebool tab_4 rfl rfl rfl ?_) 
          refine r_op tabOk hnt rfl (s_move rfl ?_) 
          refine r_if tabOk hnt rfl rfl rfl (fun g2 => ?_) (fun g2 => ?_)
          ·
            have g2' := g2
            try simp only [decide_eq_true_eq, decide_eq_false_iff_not, Bool.not_eq_true', Bool.not_eq_false', Bool.not_true, Bool.not_false, Bool.not_eq_eq_eq_not, Int.not_lt, Int.not_le] at g2'
            refine r_op tabOk hnt rfl (s_move rfl ?_) 
            refine r_if tabOk hnt rfl rfl rfl (fun _ => ?_) (fun e => absurd (e.symm.trans g2) (by decide))
            refine r_op tabOk hnt rfl (s_move rfl ?_) 
            refine r_if tabOk hnt rfl rfl rfl (fun g3 => ?_) (fun g3 => ?_)
            ·
              have g3' := g3
              try simp only [decide_eq_true_eq, decide_eq_false_iff_not, Bool.not_eq_true', Bool.not_eq_false', Bool.not_true, Bool.not_false, Bool.not_eq_eq_eq_not, Int.not_lt, Int.not_le] at g3'
              refine r_op tabOk hnt rfl (s_fa_ptr tab_33 rfl rfl tab_3 (by decide) rfl ?_) 
              refine r_if tabOk hnt rfl rfl rfl (fun _ => ?_) (fun e => absurd (e.symm.trans g3) (by decide))
              refine r_op tabOk hnt rfl (s_load_ptr1 tab_3 rfl rfl rfl rfl rfl ?_) 
              refine r_if tabOk hnt rfl rfl rfl (fun _ => ?_) (fun e => absurd (e.symm.trans g3) (by decide))
              refine r_op tabOk hnt rfl (s_move rfl ?_) 
              refine r_if tabOk hnt rfl rfl rfl (fun _ => ?_) (fun e => absurd (e.symm.trans g3) (by decide))
              refine r_op tabOk hnt rfl (s_leq rfl rfl ?_) 
              refine r_if tabOk hnt rfl rfl rfl (fun _ => ?_) (fun e => absurd (e.symm.trans g2) (by decide))
              refine r_op tabOk hnt rfl (s_pick_t rfl g3 rfl ?_) 
              refine r_op tabOk hnt rfl (s_pick_f rfl g2 rfl ?_) 
              refine r_end ?_
              refine q_then ?_
              refine w_if rfl (fun c3 => ?_) (fun c3 => ?_)
              ·
                have c3_ := c3
                exact absurd c3 (by exact not_dec2 (by have := hI.headI (by simpa using g3); omega))
              ·
                have c3_ := c3
                try simp only [decide_eq_true_eq, decide_eq_false_iff_not, Bool.not_eq_true', Bool.not_eq_false', Bool.not_true, Bool.not_false, Bool.not_eq_eq_eq_not, Int.not_lt, Int.not_le] at c3
                refine w_skip ?_
                refine q_then ?_
                refine w_seq ?_
                refine w_seq ?_
                refine w_R ?_
                refine r_op tabOk hnt rfl (s_move rfl ?_) 
                refine r_end ?_
                refine q_then ?_
                refine w_if rfl (fun _ => ?_) (fun e => absurd (e.symm.trans g3) (by decide))
                refine w_seq ?_
                refine w_R ?_
                refine r_op tabOk hnt rfl (s_fa_ptr tab_33 rfl rfl tab_3 (by decide) rfl ?_) 
                refine r_op tabOk hnt rfl (s_load_ptr1 tab_3 rfl rfl rfl rfl rfl ?_) 
                refine r_op tabOk hnt rfl (s_assign rfl ?_) 
                refine r_end ?_
                refine q_then ?_
                refine w_R ?_
                refine r_op tabOk hnt rfl (s_move rfl ?_) 
                refine r_op tabOk hnt rfl (s_subN (a := wt) (b := 1) rfl rfl (by omega) (by omega) (by omega) ?_) 
                refine r_op tabOk hnt rfl (s_assign rfl ?_) 
                refine r_end ?_
                refine q_then ?_
                refine w_exit ?_
                refine q_then_exit ?_
                refine q_block_exit ?_
                refine q_then ?_
                refine w_R ?_
                refine r_op tabOk hnt rfl (s_move rfl ?_) 
                refine r_op tabOk hnt rfl (s_addN (a := i) (b := 1) rfl rfl (by omega) (by omega) (by omega) ?_) 
                refine r_op tabOk hnt rfl (s_assign rfl ?_) 
                refine r_end ?_
                refine q_then ?_
                refine ⟨(ms.tail), (rf), ((headM ms).id), (wt - 1), (i + 1), ?_, ?_, ⟨[(0, 0), (1, 2)], by rw [hk]; decide, ⟨⟨_, rfl, rfl, rfl⟩, ⟨_, rfl, rfl, rfl⟩, ⟨_, rfl, rfl, rfl⟩, ⟨_, rfl, rfl, rfl⟩, ⟨_, rfl, rfl, rfl⟩, ⟨_, rfl, rfl, rfl⟩, trivial⟩, ⟨⟨_, _, rfl, rfl, rfl, rfl⟩, ⟨_, _, rfl, rfl, rfl, rfl⟩, trivial⟩, by rw [hk]; decide⟩⟩
                ·
                  have hq := qR_le ms K rf
                  refine ⟨by omega, ?_, by omega, by omega⟩
                  first | exact hI.take (by omega) | exact hI.none (by omega) | exact hI.put (by omega) | exact hI.full (by omega)
                · omega
            ·
              have g3' := g3
              try simp only [decide_eq_true_eq, decide_eq_false_iff_not, Bool.not_eq_true', Bool.not_eq_false', Bool.not_true, Bool.not_false, Bool.not_eq_eq_eq_not, Int.not_lt, Int.not_le] at g3'
              refine r_if tabOk hnt rfl rfl rfl (fun e => absurd (e.symm.trans g3) (by decide)) (fun _ => ?_)
              refine r_if tabOk hnt rfl rfl rfl (fun e => absurd (e.symm.trans g3) (by decide)) (fun _ => ?_)
              refine r_if tabOk hnt rfl rfl rfl (fun e => absurd (e.symm.trans g3) (by decide)) (fun _ => ?_)
              refine r_if tabOk hnt rfl rfl rfl (fun _ => ?_) (fun e => absurd (e.symm.trans g2) (by decide))
              refine r_op tabOk hnt rfl (s_pick_f rfl g3 rfl ?_) 
              refine r_op tabOk hnt rfl (s_pick_f rfl g2 rfl ?_) 
              refine r_end ?_
              refine q_then ?_
              refine w_if rfl (fun e => absurd e (by decide)) (fun _ => ?_)
              refine w_skip ?_
              refine q_then ?_
              refine w_seq ?_
              refine w_seq ?_
              refine w_R ?_
              refine r_op tabOk hnt rfl (s_move rfl ?_) 
              refine r_end ?_
              refine q_then ?_
              refine w_if rfl (fun e => absurd (e.symm.trans g3) (by decide)) (fun _ => ?_)
              refine w_skip ?_
              refine q_then ?_
              refine w_exit ?_
              refine q_then_exit ?_
              refine q_block_exit ?_
              refine q_then ?_
              refine w_R ?_
              refine r_op tabOk hnt rfl (s_move rfl ?_) 
              refine r_op tabOk hnt rfl (s_addN (a := i) (b := 1) rfl rfl (by omega) (by omega) (by omega) ?_) 
              refine r_op tabOk hnt rfl (s_assign rfl ?_) 
              refine r_end ?_
              refine q_then ?_
              refine ⟨(ms.tail), (rf), (la), (wt), (i + 1), ?_, ?_, ⟨[(0, 0), (1, 2)], by rw [hk]; decide, ⟨⟨_, rfl, rfl, rfl⟩, ⟨_, rfl, rfl, rfl⟩, ⟨_, rfl, rfl, rfl⟩, ⟨_, rfl, rfl, rfl⟩, ⟨_, rfl, rfl, rfl⟩, ⟨_, rfl, rfl, rfl⟩, trivial⟩, ⟨⟨_, _, rfl, rfl, rfl, rfl⟩, ⟨_, _, rfl, rfl, rfl, rfl⟩, trivial⟩, by rw [hk]; decide⟩⟩
              ·
                have hq := qR_le ms K rf
                refine ⟨by omega, ?_, by omega, by omega⟩
                first | exact hI.take (by omega) | exact hI.none (by omega) | exact hI.put (by omega) | exact hI.full (by omega)
              · omega
          ·
            exact absurd g2 (by exact not_dec (by omega))
        ·
          have c2_ := c2
          try simp only [decide_eq_true_eq, decide_eq_false_iff_not, Bool.not_eq_true', Bool.not_eq_false', Bool.not_true, Bool.not_false, Bool.not_eq_eq_eq_not, Int.not_lt, Int.not_le] at c2
          refine w_skip ?_
          refine q_then ?_
          refine w_seq ?_
          refine w_seq ?_
          refine w_R ?_
          refine r_op tabOk hnt rfl (s_move rfl ?_) 
          refine r_op tabOk hnt rfl (s_move rfl ?_) 
          refine r_op tabOk hnt rfl (s_build tab_33 rfl rfl (b_cons rfl tab_3 rfl rfl rfl (Nat.le_of_ble_eq_true rfl) (b_nil ?_))) 
          refine r_op tabOk hnt rfl (s_callX (r2 := pB (decide ((ms.length : Int) < K))) (nx1 := 3) (H2 := [(0, .obj [PV.ref 1 0 none, pI K, pI rf]), (1, oB false 3 eMsg ms)]) (H3 := [(0, .obj [PV.ref 2 0 none, pI K, pI (qR ms K rf)]), (2, oB false 3 eMsg (qL ms K (⟨((i : Nat) : Int), 0, []⟩ : TMsg)))]) [0, 1] [.obj [PV.ref 1 0 none, pI K, pI rf], oB false 3 eMsg ms] rfl rfl rfl (handed_of (by decide) ⟨rfl, rfl, trivial⟩) rfl rfl rfl rfl rfl rfl (T.leL (args := [PV.ptr 0 0, PV.f (.agg [encI ((i : Nat) : Int), encI 0, FV.v (.slice none 0 0)])]) (args' := [PV.ptr 0 0, PV.f (eMsg (⟨((i : Nat) : Int), 0, []⟩ : TMsg))]) ⟨le_refl _, ⟨le_F (FLe.agg ⟨FLe.refl _, FLe.refl _, FLe.nil 1 false, trivial⟩), trivial⟩⟩ (w_quota_Queue_Put ms K rf (⟨((i : Nat) : Int), 0, []⟩ : TMsg) (by first | omega | assumption | (simp; omega) | decide | (simp; done)) (by first | omega | assumption | (simp; omega) | decide | (simp; done)) (by first | omega | assumption | (simp; omega) | decide | (simp; done)))) rfl (dist_of rfl) rfl rfl rfl rfl ?_) 
          refine r_set [(0, pI most), (1, pS 1 cl_takes encBo takes), (5, PV.ptr 0 0), (6, pI la), (7, pN wt), (8, pN i), (22, pN i), (23, pB (decide (((i : Nat) : Int) < 100))), (57, pB (decide ((ms.length : Int) < K)))] [(0, .obj [PV.ref 2 0 none, pI K, pI (qR ms K rf)]), (2, oB false 3 eMsg (qL ms K (⟨((i : Nat) : Int), 0, []⟩ : TMsg)))] 3 ⟨rfl, rfl, rfl, rfl, rfl, rfl, rfl, rfl, rfl, trivial⟩ rfl rfl ?_
          refine r_end ?_
          refine q_then ?_
          refine w_if rfl (fun c4 => ?_) (fun c4 => ?_)
          ·
            have c4_ := c4
            try simp only [decide_eq_true_eq, decide_eq_false_iff_not, Bool.not_eq_true', Bool.not_eq_false', Bool.not_true, Bool.not_false, Bool.not_eq_eq_eq_not, Int.not_lt, Int.not_le] at c4
            refine w_R ?_
            refine r_op tabOk hnt rfl (s_move rfl ?_) 
            refine r_op tabOk hnt rfl (s_addN (a := wt) (b := 1) rfl rfl (by omega) (by omega) (by omega) ?_) 
            refine r_op tabOk hnt rfl (s_assign rfl ?_) 
            refine r_end ?_
            refine q_then ?_
            refine w_seq ?_
            refine w_R ?_
            refine r_op tabOk hnt rfl (s_move rfl ?_) 
            refine r_op tabOk hnt rfl (s_move rfl ?_) 
            refine r_op tabOk hnt rfl (s_maskI 4 (by decide) rfl rfl (by decide) ?_) 
            refine r_op tabOk hnt rfl (s_addN (a := 1) (b := (most % 2 ^ 4).toNat) rfl rfl (by omega) (by omega) (by omega) ?_) 
            refine r_op tabOk hnt rfl (s_gtr rfl rfl ?_) 
            refine r_end ?_
            refine q_then ?_
            refine w_if rfl (fun c5 => ?_) (fun c5 => ?_)
            ·
              have c5_ := c5
              exact absurd c5 (by exact not_dec2 (by omega))
            ·
              have c5_ := c5
              try simp only [decide_eq_true_eq, decide_eq_false_iff_not, Bool.not_eq_true', Bool.not_eq_false', Bool.not_true, Bool.not_false, Bool.not_eq_eq_eq_not, Int.not_lt, Int.not_le] at c5
              refine w_skip ?_
              refine q_block ?_
              refine q_then ?_
              refine w_R ?_
              refine r_op tabOk hnt rfl (s_move rfl ?_) 
              refine r_op tabOk hnt rfl (s_addN (a := i) (b := 1) rfl rfl (by omega) (by omega) (by omega) ?_) 
              refine r_op tabOk hnt rfl (s_assign rfl ?_) 
              refine r_end ?_
              refine q_then ?_
              refine ⟨(qL ms K (⟨((i : Nat) : Int), 0, []⟩ : TMsg)), (qR ms K rf), (la), (wt + 1), (i + 1), ?_, ?_, ⟨[(0, 0), (1, 2)], by rw [hk]; decide, ⟨⟨_, rfl, rfl, rfl⟩, ⟨_, rfl, rfl, rfl⟩, ⟨_, rfl, rfl, rfl⟩, ⟨_, rfl, rfl, rfl⟩, ⟨_, rfl, rfl, rfl⟩, ⟨_, rfl, rfl, rfl⟩, trivial⟩, ⟨⟨_, _, rfl, rfl, rfl, rfl⟩, ⟨_, _, rfl, rfl, rfl, rfl⟩, trivial⟩, by rw [hk]; decide⟩⟩
              ·
                have hq := qR_le ms K rf
                refine ⟨by omega, ?_, by omega, by omega⟩
                first | exact hI.take (by omega) | exact hI.none (by omega) | exact hI.put (by omega) | exact hI.full (by omega)
              · omega
          ·
            have c4_ := c4
            try simp only [decide_eq_true_eq, decide_eq_false_iff_not, Bool.not_eq_true', Bool.not_eq_false', Bool.not_true, Bool.not_false, Bool.not_eq_eq_eq_not, Int.not_lt, Int.not_le] at c4
            refine w_skip ?_
            refine q_then ?_
            refine w_seq ?_
            refine w_R ?_
            refine r_op tabOk hnt rfl (s_move rfl ?_) 
            refine r_op tabOk hnt rfl (s_move rfl ?_) 
            refine r_op tabOk hnt rfl (s_maskI 4 (by decide) rfl rfl (by decide) ?_) 
            refine r_op tabOk hnt rfl (s_addN (a := 1) (b := (most % 2 ^ 4).toNat) rfl rfl (by omega) (by omega) (by omega) ?_) 
            refine r_op tabOk hnt rfl (s_gtr rfl rfl ?_) 
            refine r_end ?_
            refine q_then ?_
            refine w_if rfl (fun c6 => ?_) (fun c6 => ?_)
            ·
              have c6_ := c6
              exact absurd c6 (by exact not_dec2 (by omega))
            ·
              have c6_ := c6
              try simp only [decide_eq_true_eq, decide_eq_false_iff_not, Bool.not_eq_true', Bool.not_eq_false', Bool.not_true, Bool.not_false, Bool.not_eq_eq_eq_not, Int.not_lt, Int.not_le] at c6
              refine w_skip ?_
              refine q_block ?_
              refine q_then ?_
              refine w_R ?_
              refine r_op tabOk hnt rfl (s_move rfl ?_) 
              refine r_op tabOk hnt rfl (s_addN (a := i) (b := 1) rfl rfl (by omega) (by omega) (by omega) ?_) 
              refine r_op tabOk hnt rfl (s_assign rfl ?_) 
              refine r_end ?_
              refine q_then ?_
              refine ⟨(qL ms K (⟨((i : Nat) : Int), 0, []⟩ : TMsg)), (qR ms K rf), (la), (wt), (i + 1), ?_, ?_, ⟨[(0, 0), (1, 2)], by rw [hk]; decide, ⟨⟨_, rfl, rfl, rfl⟩, ⟨_, rfl, rfl, rfl⟩, ⟨_, rfl, rfl, rfl⟩, ⟨_, rfl, rfl, rfl⟩, ⟨_, rfl, rfl, rfl⟩, ⟨_, rfl, rfl, rfl⟩, trivial⟩, ⟨⟨_, _, rfl, rfl, rfl, rfl⟩, ⟨_, _, rfl, rfl, rfl, rfl⟩, trivial⟩, by rw [hk]; decide⟩⟩
              ·
                have hq := qR_le ms K rf
                refine ⟨by omega, ?_, by omega, by omega⟩
                first | exact hI.take (by omega) | exact hI.none (by omega) | exact hI.put (by omega) | exact hI.full (by omega)
              · omega
      ·
        have c1_ := c1
        try simp only [decide_eq_true_eq, decide_eq_false_iff_not, Bool.not_eq_true', Bool.not_eq_false', Bool.not_true, Bool.not_false, Bool.not_eq_eq_eq_not, Int.not_lt, Int.not_le] at c1
        refine w_exit ?_
        refine q_then_exit ?_
        refine q_then_exit ?_
        refine q_block_exit ?_
        refine q_then ?_
        refine w_seq ?_
        refine w_R ?_
        refine r_op tabOk hnt rfl (s_move rfl ?_) 
        refine r_op tabOk hnt rfl (s_callX (r2 := pN ms.length) (nx1 := 3) (H2 := [(0, .obj [PV.ref 1 0 none, pI K, pI rf]), (1, oB false 3 eMsg ms)]) (H3 := [(0, .obj [PV.ref 2 0 none, pI K, pI rf]), (2, oB false 3 eMsg ms)]) [0, 1] [.obj [PV.ref 1 0 none, pI K, pI rf], oB false 3 eMsg ms] rfl rfl rfl (handed_of (by decide) ⟨rfl, rfl, trivial⟩) rfl rfl rfl rfl rfl rfl (w_quota_Queue_Len ms K rf) rfl (dist_of rfl) rfl rfl rfl rfl ?_) 
        refine r_op tabOk hnt rfl (s_move rfl ?_) 
        refine r_op tabOk hnt rfl (s_eql rfl rfl ?_) 
        refine r_op tabOk hnt rfl (s_move rfl ?_) 
        refine r_if tabOk hnt rfl rfl rfl (fun g4 => ?_) (fun g4 => ?_)
        ·
          have g4' := g4
          try simp only [decide_eq_true_eq, decide_eq_false_iff_not, Bool.not_eq_true', Bool.not_eq_false', Bool.not_true, Bool.not_false, Bool.not_eq_eq_eq_not, Int.not_lt, Int.not_le] at g4'
          refine r_op tabOk hnt rfl (s_callF rfl rfl rfl (w_burgagelaw20_known) rfl ?_) 
          refine r_op tabOk hnt rfl (s_pick_t rfl g4 rfl ?_) 
          refine r_op tabOk hnt rfl (s_assign rfl ?_) 
          refine r_set [(4, pB true)] [(0, .obj [PV.ref 2 0 none, pI K, pI rf]), (2, oB false 3 eMsg ms)] 3 ⟨rfl, trivial⟩ rfl rfl ?_
          refine r_end ?_
          refine q_then ?_
          refine w_ret ?_
          exact fin_plain (ret_tmp rfl ret_nil) rfl rfl ⟨rfl, rfl, rfl⟩
        ·
          exact absurd g4 (by exact not_dec3 (by omega))
    ·
      have g1' := g1
      try simp only [decide_eq_true_eq, decide_eq_false_iff_not, Bool.not_eq_true', Bool.not_eq_false', Bool.not_true, Bool.not_false, Bool.not_eq_eq_eq_not, Int.not_lt, Int.not_le] at g1'
      refine r_if tabOk hnt rfl rfl rfl (fun e => absurd (e.symm.trans g1) (by decide)) (fun _ => ?_)
      refine r_op tabOk hnt rfl (s_pick_f rfl g1 rfl ?_) 
      refine r_end ?_
      refine q_then ?_
      refine w_if rfl (fun e => absurd e (by decide)) (fun _ => ?_)
      refine w_exit ?_
      refine q_then_exit ?_
      refine q_then_exit ?_
      refine q_block_exit ?_
      refine q_then ?_
      refine w_seq ?_
      refine w_R ?_
      refine r_op tabOk hnt rfl (s_move rfl ?_) 
      refine r_op tabOk hnt rfl (s_callX (r2 := pN ms.length) (nx1 := 3) (H2 := [(0, .obj [PV.ref 1 0 none, pI K, pI rf]), (1, oB false 3 eMsg ms)]) (H3 := [(0, .obj [PV.ref 2 0 none, pI K, pI rf]), (2, oB false 3 eMsg ms)]) [0, 1] [.obj [PV.ref 1 0 none, pI K, pI rf], oB false 3 eMsg ms] rfl rfl rfl (handed_of (by decide) ⟨rfl, rfl, trivial⟩) rfl rfl rfl rfl rfl rfl (w_quota_Queue_Len ms K rf) rfl (dist_of rfl) rfl rfl rfl rfl ?_) 
      refine r_op tabOk hnt rfl (s_move rfl ?_) 
      refine r_op tabOk hnt rfl (s_eql rfl rfl ?_) 
      refine r_op tabOk hnt rfl (s_move rfl ?_) 
      refine r_if tabOk hnt rfl rfl rfl (fun g5 => ?_) (fun g5 => ?_)
      ·
        have g5' := g5
        try simp only [decide_eq_true_eq, decide_eq_false_iff_not, Bool.not_eq_true', Bool.not_eq_false', Bool.not_true, Bool.not_false, Bool.not_eq_eq_eq_not, Int.not_lt, Int.not_le] at g5'
        refine r_op tabOk hnt rfl (s_callF rfl rfl rfl (w_burgagelaw20_known) rfl ?_) 
        refine r_op tabOk hnt rfl (s_pick_t rfl g5 rfl ?_) 
        refine r_op tabOk hnt rfl (s_assign rfl ?_) 
        refine r_set [(4, pB true)] [(0, .obj [PV.ref 2 0 none, pI K, pI rf]), (2, oB false 3 eMsg ms)] 3 ⟨rfl, trivial⟩ rfl rfl ?_
        refine r_end ?_
        refine q_then ?_
        refine w_ret ?_
        exact fin_plain (ret_tmp rfl ret_nil) rfl rfl ⟨rfl, rfl, rfl⟩
      ·
        exact absurd g5 (by exact not_dec3 (by omega))

theorem w_burgagelaw20_QuotaAll (most : Int) (l : List TAsk) (cl_l : Bool) (hl : l.length ≤ 140737488351232) :
    T Try.prog 6 [pI most, pS 3 cl_l eAsk l] 0 [] (Ret (pB true) 0 []) := by
  refine t_fun tabOk (n := 126) (rs := [.tmp 4]) Try.func6 rfl rfl rfl rfl (Nat.le_of_ble_eq_true rfl) ?_
  intro c hnt hk
  have hk0 : (most % 2 ^ 5).toNat < 32 := by omega
  refine w_seq ?_
  refine w_R ?_
  refine r_op tabOk hnt rfl (s_assign rfl ?_) 
  refine r_end ?_
  refine q_then ?_
  refine w_seq ?_
  refine w_R ?_
  refine r_op tabOk hnt rfl (s_move rfl ?_) 
  refine r_op tabOk hnt rfl (s_maskI 5 (by decide) rfl rfl (by decide) ?_) 
  refine r_op tabOk hnt rfl (s_addN (a := 1) (b := (most % 2 ^ 5).toNat) rfl rfl (by omega) (by omega) (by omega) ?_) 
  refine r_op tabOk hnt rfl (s_callX (r2 := PV.ptr 0 0) (nx1 := 2) (H2 := []) (H3 := [(0, .obj [PV.ref 1 0 none, pI (max 1 (min ((1 + ((most % 2 ^ 5).toNat) : Nat) : Int) 64)), pI 0]), (1, oB false 3 eMsg ([] : List TMsg))]) [] [] rfl rfl rfl (handed_of (by decide) trivial) rfl rfl rfl rfl rfl rfl (w_quota_New ((1 + ((most % 2 ^ 5).toNat) : Nat) : Int)) rfl (dist_of rfl) rfl rfl rfl rfl ?_) 
  refine r_op tabOk hnt rfl (s_assign rfl ?_) 
  refine r_set [(1, pS 3 cl_l eAsk l), (5, PV.ptr 0 0)] [(0, .obj [PV.ref 1 0 none, pI (max 1 (min ((1 + ((most % 2 ^ 5).toNat) : Nat) : Int) 64)), pI 0]), (1, oB false 3 eMsg ([] : List TMsg))] 2 ⟨rfl, rfl, trivial⟩ rfl rfl ?_
  refine r_end ?_
  refine q_then ?_
  refine w_seq ?_
  refine w_seq ?_
  obtain ⟨K, hK⟩ : ∃ K : Int, K = max 1 (min ((1 + (most % 2 ^ 5).toNat : Nat) : Int) 64) := ⟨_, rfl⟩
  have hK1 : 1 ≤ K ∧ K ≤ 64 := by omega
  have hK2 : K = ((1 + (most % 2 ^ 5).toNat : Nat) : Int) := by omega
  refine w_leC (n := 0) (j := 1) (y := pI K) rfl rfl (le_of_eq (congrArg (fun z : Int => pI z) (show max 1 (min ((1 + ((most % 2 ^ 5).toNat) : Nat) : Int) 64) = K by exact hK.symm))) ?_
  refine w_R ?_
  refine r_op tabOk hnt rfl (s_move rfl ?_) 
  refine r_op tabOk hnt rfl (s_ptrnil tab_30 rfl rfl trivial ?_) 
  refine r_end ?_
  refine q_then ?_
  refine w_if rfl (fun e => absurd e (by decide)) (fun _ => ?_)
  refine w_skip ?_
  refine q_then ?_
  refine w_seq ?_
  clear hK hK2 hk0
  refine w_R ?_
  refine r_op tabOk hnt rfl (s_assign rfl ?_) 
  refine r_op tabOk hnt rfl (s_assign rfl ?_) 
  refine r_end ?_
  refine q_then ?_
  refine w_seq ?_
  refine w_seq ?_
  refine w_R ?_
  refine r_op tabOk hnt rfl (s_assign rfl ?_) 
  refine r_end ?_
  refine q_then ?_
  refine w_block ?_
  refine loop5 (fun (ms : List TMsg) (rf : Int) (ic : Nat) (oc : Nat) (i : Nat) => i ≤ 80 ∧ AllI K i ms ic oc ∧ 0 ≤ rf ∧ rf ≤ i) (fun (ms : List TMsg) (rf : Int) (ic : Nat) (oc : Nat) (i : Nat) => [(1, pS 3 cl_l eAsk l), (5, PV.ptr 0 0), (6, pN ic), (7, pN oc), (8, pN i)]) 2 (fun (ms : List TMsg) (rf : Int) (ic : Nat) (oc : Nat) (i : Nat) => [(0, .obj [PV.ref 1 0 none, pI K, pI rf]), (1, oB false 3 eMsg ms)]) (fun (ms : List TMsg) (rf : Int) (ic : Nat) (oc : Nat) (i : Nat) => 80 - i) (([] : List TMsg)) (0) (0) (0) (0) ?_ ⟨[(0, 0), (1, 1)], by rw [hk]; decide, ⟨⟨_, rfl, rfl, rfl⟩, ⟨_, rfl, rfl, rfl⟩, ⟨_, rfl, rfl, rfl⟩, ⟨_, rfl, rfl, rfl⟩, ⟨_, rfl, rfl, rfl⟩, trivial⟩, ⟨⟨_, _, rfl, rfl, rfl, rfl⟩, ⟨_, _, rfl, rfl, rfl, rfl⟩, trivial⟩, by rw [hk]; decide⟩ ?_
  · exact ⟨by omega, AllI.nil (by omega), by omega, by omega⟩
  ·
    intro ms rf ic oc i hI
    obtain ⟨hi, hI, hr0, hr1⟩ := hI
    have hroom := hI.room
    have hcnt := hI.cnt
    have hfine := hI.fine
    have hle := hI.le
    have hasc := hI.asc
    have hml : ms.length ≤ 64 := by omega
    refine w_seq ?_
    refine w_seq ?_
    refine w_R ?_
    refine r_op tabOk hnt rfl (s_move rfl ?_) 
    refine r_op tabOk hnt rfl (s_move rfl ?_) 
    refine r_op tabOk hnt rfl (s_lenM (l := l) tab_22 rfl (hM_sl (f := eAsk) rfl) ?_) 
    refine r_op tabOk hnt rfl (s_lss rfl rfl ?_) 
    refine r_op tabOk hnt rfl (s_move rfl ?_) 
    refine r_if tabOk hnt rfl rfl rfl (fun g1 => ?_) (fun g1 => ?_)
    ·
      have g1' := g1
      try simp only [decide_eq_true_eq, decide_eq_false_iff_not, Bool.not_eq_true', Bool.not_eq_false', Bool.not_true, Bool.not_false, Bool.not_eq_eq_eq_not, Int.not_lt, Int.not_le] at g1'
      refine r_op tabOk hnt rfl (s_move rfl ?_) 
      refine r_if tabOk hnt rfl rfl rfl (fun _ => ?_) (fun e => absurd (e.symm.trans g1) (by decide))
      refine r_op tabOk hnt rfl (s_lss rfl rfl ?_) 
      refine r_op tabOk hnt rfl (s_pick_t rfl g1 rfl ?_) 
      refine r_end ?_
      refine q_then ?_
      refine w_if rfl (fun c1 => ?_) (fun c1 => ?_)
      ·
        have c1_ := c1
        try simp only [decide_eq_true_eq, decide_eq_false_iff_not, Bool.not_eq_true', Bool.not_eq_false', Bool.not_true, Bool.not_false, Bool.not_eq_eq_eq_not, Int.not_lt, Int.not_le] at c1
        refine w_skip ?_
        refine q_then ?_
        refine w_seq ?_
        refine w_block ?_
        refine w_seq ?_
        refine w_R ?_
        refine r_op tabOk hnt rfl (s_move rfl ?_) 
        refine r_op tabOk hnt rfl (s_move rfl ?_) 
        obtain ⟨e1, he1⟩ := get_of_lt l (i := i) (by omega)
        refine r_op tabOk hnt rfl (s_iaM (q := i) (b := e1) (f := eAsk) tab_22 rfl tab_25 rfl rfl (by omega) rfl he1 ?_) 
        refine r_op tabOk hnt rfl (s_fa_ro tab_25 rfl rfl tab_3 (by decide) rfl (Nat.le_of_ble_eq_true rfl) (by intro _; rfl) ?_) 
        refine r_op tabOk hnt rfl (s_load_ro1 tab_3 rfl rfl rfl rfl ?_) 
        refine r_op tabOk hnt rfl (s_maskI 2 (by decide) rfl rfl (by decide) ?_) 
        refine r_op tabOk hnt rfl (s_eql rfl rfl ?_) 
        refine r_end ?_
        refine q_then ?_
        refine w_if rfl (fun c2 => ?_) (fun c2 => ?_)
        ·
          have c2_ := c2
          try simp only [decide_eq_true_eq, decide_eq_false_iff_not, Bool.not_eq_true', Bool.not_eq_false', Bool.not_true, Bool.not_false, Bool.not_eq_eq_eq_not, Int.not_lt, Int.not_le] at c2
          refine w_seq ?_
          refine w_R ?_
          refine r_op tabOk hnt rfl (s_move rfl ?_) 
          refine r_op tabOk hnt rfl (s_callX (r2 := PV.tup [PV.f (eMsg (headM ms)), pB (decide (0 < ms.length))]) (nx1 := 3) (H2 := [(0, .obj [PV.ref 1 0 none, pI K, pI rf]), (1, oB false 3 eMsg ms)]) (H3 := [(0, .obj [PV.ref 2 0 none, pI K, pI rf]), (2, oB false 3 eMsg ms.tail)]) [0, 1] [.obj [PV.ref 1 0 none, pI K, pI rf], oB false 3 eMsg ms] rfl rfl rfl (handed_of (by decide) ⟨rfl, rfl, trivial⟩) rfl rfl rfl rfl rfl rfl (w_quota_Queue_Take ms K rf (by first | omega | assumption | (simp; omega) | decide | (simp; done))) rfl (dist_of rfl) rfl rfl rfl rfl ?_) 
          refine r_op tabOk hnt rfl (s_move rfl ?_) 
          refine r_op tabOk hnt rfl (s_extract rfl rfl ?_) 
          refine r_op tabOk hnt rfl (s_extract rfl rfl ?_) 
          refine r_op tabOk hnt rfl (s_alloc tab_33 ?_) 
          refine r_op tabOk hnt rfl (s_store_ptr tab_33 rfl rfl rfl rfl rfl (Nat.le_of_ble_eq_true rfl) ?_) 
          refine r_op tabOk hnt rfl (s_assign rfl ?_) 
          refine r_set [(1, pS 3 cl_l eAsk l), (5, PV.ptr 0 0), (6, pN ic), (7, pN oc), (8, pN i), (10, pB (decide (0 < ms.length))), (26, pN i), (27, pB (decide (((i : Nat) : Int) < 80)))] [(3, .obj [pI ((headM ms).id), pI ((headM ms).unit), pS 1 false enc8 ((headM ms).pdu)]), (0, .obj [PV.ref 2 0 none, pI K, pI rf]), (2, oB false 3 eMsg ms.tail)] 4 ⟨rfl, rfl, rfl, rfl, rfl, rfl, rfl, rfl, trivial⟩ rfl rfl ?_
          refine r_end ?_
          refine q_then ?_
          refine w_seq ?_
          refine w_R ?_
          refine r_op tabOk hnt rfl (s_move rfl ?_) 
          refine r_end ?_
          refine q_then ?_
          refine w_if rfl (fun c3 => ?_) (fun c3 => ?_)
          ·
            have c3_ := c3
            try simp only [decide_eq_true_eq, decide_eq_false_iff_not, Bool.not_eq_true', Bool.not_eq_false', Bool.not_true, Bool.not_false, Bool.not_eq_eq_eq_not, Int.not_lt, Int.not_le] at c3
            refine w_R ?_
            refine r_op tabOk hnt rfl (s_move rfl ?_) 
            refine r_op tabOk hnt rfl (s_addN (a := oc) (b := 1) rfl rfl (by omega) (by omega) (by omega) ?_) 
            refine r_op tabOk hnt rfl (s_assign rfl ?_) 
            refine r_end ?_
            refine q_block ?_
            refine q_then ?_
            refine w_R ?_
            refine r_op tabOk hnt rfl (s_move rfl ?_) 
            refine r_op tabOk hnt rfl (s_addN (a := i) (b := 1) rfl rfl (by omega) (by omega) (by omega) ?_) 
            refine r_op tabOk hnt rfl (s_assign rfl ?_) 
            refine r_end ?_
            refine q_then ?_
            refine ⟨(ms.tail), (rf), (ic), (oc + 1), (i + 1), ?_, ?_, ⟨[(0, 0), (1, 2)], by rw [hk]; decide, ⟨⟨_, rfl, rfl, rfl⟩, ⟨_, rfl, rfl, rfl⟩, ⟨_, rfl, rfl, rfl⟩, ⟨_, rfl, rfl, rfl⟩, ⟨_, rfl, rfl, rfl⟩, trivial⟩, ⟨⟨_, _, rfl, rfl, rfl, rfl⟩, ⟨_, _, rfl, rfl, rfl, rfl⟩, trivial⟩, by rw [hk]; decide⟩⟩
            ·
              have hq := qR_le ms K rf
              refine ⟨by omega, ?_, by omega, by omega⟩
              first | exact hI.take (by omega) | exact hI.none (by omega) | exact hI.put (by omega) | exact hI.full (by omega)
            · omega
          ·
            have c3_ := c3
            try simp only [decide_eq_true_eq, decide_eq_false_iff_not, Bool.not_eq_true', Bool.not_eq_false', Bool.not_true, Bool.not_false, Bool.not_eq_eq_eq_not, Int.not_lt, Int.not_le] at c3
            refine w_skip ?_
            refine q_block ?_
            refine q_then ?_
            refine w_R ?_
            refine r_op tabOk hnt rfl (s_move rfl ?_) 
            refine r_op tabOk hnt rfl (s_addN (a := i) (b := 1) rfl rfl (by omega) (by omega) (by omega) ?_) 
            refine r_op tabOk hnt rfl (s_assign rfl ?_) 
            refine r_end ?_
            refine q_then ?_
            refine ⟨(ms.tail), (rf), (ic), (oc), (i + 1), ?_, ?_, ⟨[(0, 0), (1, 2)], by rw [hk]; decide, ⟨⟨_, rfl, rfl, rfl⟩, ⟨_, rfl, rfl, rfl⟩, ⟨_, rfl, rfl, rfl⟩, ⟨_, rfl, rfl, rfl⟩, ⟨_, rfl, rfl, rfl⟩, trivial⟩, ⟨⟨_, _, rfl, rfl, rfl, rfl⟩, ⟨_, _, rfl, rfl, rfl, rfl⟩, trivial⟩, by rw [hk]; decide⟩⟩
            ·
              have hq := qR_le ms K rf
              refine ⟨by omega, ?_, by omega, by omega⟩
              first | exact hI.take (by omega) | exact hI.none (by omega) | exact hI.put (by omega) | exact hI.full (by omega)
            · omega
        ·
          have c2_ := c2
          try simp only [decide_eq_true_eq, decide_eq_false_iff_not, Bool.not_eq_true', Bool.not_eq_false', Bool.not_true, Bool.not_false, Bool.not_eq_eq_eq_not, Int.not_lt, Int.not_le] at c2
          refine w_seq ?_
          refine w_R ?_
          refine r_op tabOk hnt rfl (s_move rfl ?_) 
          refine r_op tabOk hnt rfl (s_move rfl ?_) 
          refine r_op tabOk hnt rfl (s_build tab_33 rfl rfl (b_cons rfl tab_3 rfl rfl rfl (Nat.le_of_ble_eq_true rfl) (b_nil ?_))) 
          refine r_op tabOk hnt rfl (s_callX (r2 := pB (decide ((ms.length : Int) < K))) (nx1 := 3) (H2 := [(0, .obj [PV.ref 1 0 none, pI K, pI rf]), (1, oB false 3 eMsg ms)]) (H3 := [(0, .obj [PV.ref 2 0 none, pI K, pI (qR ms K rf)]), (2, oB false 3 eMsg (qL ms K (⟨((i : Nat) : Int), 0, []⟩ : TMsg)))]) [0, 1] [.obj [PV.ref 1 0 none, pI K, pI rf], oB false 3 eMsg ms] rfl rfl rfl (handed_of (by decide) ⟨rfl, rfl, trivial⟩) rfl rfl rfl rfl rfl rfl (T.leL (args := [PV.ptr 0 0, PV.f (.agg [encI ((i : Nat) : Int), encI 0, FV.v (.slice none 0 0)])]) (args' := [PV.ptr 0 0, PV.f (eMsg (⟨((i : Nat) : Int), 0, []⟩ : TMsg))]) ⟨le_refl _, ⟨le_F (FLe.agg ⟨FLe.refl _, FLe.refl _, FLe.nil 1 false, trivial⟩), trivial⟩⟩ (w_quota_Queue_Put ms K rf (⟨((i : Nat) : Int), 0, []⟩ : TMsg) (by first | omega | assumption | (simp; omega) | decide | (simp; done)) (by first | omega | assumption | (simp; omega) | decide | (simp; done)) (by first | omega | assumption | (simp; omega) | decide | (simp; done)))) rfl (dist_of rfl) rfl rfl rfl rfl ?_) 
          refine r_set [(1, pS 3 cl_l eAsk l), (5, PV.ptr 0 0), (6, pN ic), (7, pN oc), (8, pN i), (26, pN i), (27, pB (decide (((i : Nat) : Int) < 80))), (49, pB (decide ((ms.length : Int) < K)))] [(0, .obj [PV.ref 2 0 none, pI K, pI (qR ms K rf)]), (2, oB false 3 eMsg (qL ms K (⟨((i : Nat) : Int), 0, []⟩ : TMsg)))] 3 ⟨rfl, rfl, rfl, rfl, rfl, rfl, rfl, rfl, trivial⟩ rfl rfl ?_
          refine r_end ?_
          refine q_then ?_
          refine w_if rfl (fun c4 => ?_) (fun c4 => ?_)
          ·
            have c4_ := c4
            try simp only [decide_eq_true_eq, decide_eq_false_iff_not, Bool.not_eq_true', Bool.not_eq_false', Bool.not_true, Bool.not_false, Bool.not_eq_eq_eq_not, Int.not_lt, Int.not_le] at c4
            refine w_R ?_
            refine r_op tabOk hnt rfl (s_move rfl ?_) 
            refine r_op tabOk hnt rfl (s_addN (a := ic) (b := 1) rfl rfl (by omega) (by omega) (by omega) ?_) 
            refine r_op tabOk hnt rfl (s_assign rfl ?_) 
            refine r_end ?_
            refine q_block ?_
            refine q_then ?_
            refine w_R ?_
            refine r_op tabOk hnt rfl (s_move rfl ?_) 
            refine r_op tabOk hnt rfl (s_addN (a := i) (b := 1) rfl rfl (by omega) (by omega) (by omega) ?_) 
            refine r_op tabOk hnt rfl (s_assign rfl ?_) 
            refine r_end ?_
            refine q_then ?_
            refine ⟨(qL ms K (⟨((i : Nat) : Int), 0, []⟩ : TMsg)), (qR ms K rf), (ic + 1), (oc), (i + 1), ?_, ?_, ⟨[(0, 0), (1, 2)], by rw [hk]; decide, ⟨⟨_, rfl, rfl, rfl⟩, ⟨_, rfl, rfl, rfl⟩, ⟨_, rfl, rfl, rfl⟩, ⟨_, rfl, rfl, rfl⟩, ⟨_, rfl, rfl, rfl⟩, trivial⟩, ⟨⟨_, _, rfl, rfl, rfl, rfl⟩, ⟨_, _, rfl, rfl, rfl, rfl⟩, trivial⟩, by rw [hk]; decide⟩⟩
            ·
              have hq := qR_le ms K rf
              refine ⟨by omega, ?_, by omega, by omega⟩
              first | exact hI.take (by omega) | exact hI.none (by omega) | exact hI.put (by omega) | exact hI.full (by omega)
            · omega
          ·
            have c4_ := c4
            try simp only [decide_eq_true_eq, decide_eq_false_iff_not, Bool.not_eq_true', Bool.not_eq_false', Bool.not_true, Bool.not_false, Bool.not_eq_eq_eq_not, Int.not_lt, Int.not_le] at c4
            refine w_skip ?_
            refine q_block ?_
            refine q_then ?_
            refine w_R ?_
            refine r_op tabOk hnt rfl (s_move rfl ?_) 
            refine r_op tabOk hnt rfl (s_addN (a := i) (b := 1) rfl rfl (by omega) (by omega) (by omega) ?_) 
            refine r_op tabOk hnt rfl (s_assign rfl ?_) 
            refine r_end ?_
            refine q_then ?_
            refine ⟨(qL ms K (⟨((i : Nat) : Int), 0, []⟩ : TMsg)), (qR ms K rf), (ic), (oc), (i + 1), ?_, ?_, ⟨[(0, 0), (1, 2)], by rw [hk]; decide, ⟨⟨_, rfl, rfl, rfl⟩, ⟨_, rfl, rfl, rfl⟩, ⟨_, rfl, rfl, rfl⟩, ⟨_, rfl, rfl, rfl⟩, ⟨_, rfl, rfl, rfl⟩, trivial⟩, ⟨⟨_, _, rfl, rfl, rfl, rfl⟩, ⟨_, _, rfl, rfl, rfl, rfl⟩, trivial⟩, by rw [hk]; decide⟩⟩
            ·
              have hq := qR_le ms K rf
              refine ⟨by omega, ?_, by omega, by omega⟩
              first | exact hI.take (by omega) | exact hI.none (by omega) | exact hI.put (by omega) | exact hI.full (by omega)
            · omega
      ·
        have c1_ := c1
        try simp only [decide_eq_true_eq, decide_eq_false_iff_not, Bool.not_eq_true', Bool.not_eq_false', Bool.not_true, Bool.not_false, Bool.not_eq_eq_eq_not, Int.not_lt, Int.not_le] at c1
        refine w_exit ?_
        refine q_then_exit ?_
        refine q_then_exit ?_
        refine q_block_exit ?_
        refine q_then ?_
        refine w_seq ?_
        refine w_R ?_
        refine r_op tabOk hnt rfl (s_move rfl ?_) 
        refine r_op tabOk hnt rfl (s_callX (r2 := pS 3 true eMsg ms) (nx1 := 3) (H2 := [(0, .obj [PV.ref 1 0 none, pI K, pI rf]), (1, oB false 3 eMsg ms)]) (H3 := [(0, .obj [PV.ref 2 0 none, pI K, pI rf]), (2, oB false 3 eMsg ms)]) [0, 1] [.obj [PV.ref 1 0 none, pI K, pI rf], oB false 3 eMsg ms] rfl rfl rfl (handed_of (by decide) ⟨rfl, rfl, trivial⟩) rfl rfl rfl rfl rfl rfl (w_quota_Queue_All ms K rf (by first | omega | assumption | (simp; omega) | decide | (simp; done)) (by first | omega | assumption | (simp; omega) | decide | (simp; done))) rfl (dist_of rfl) rfl rfl rfl rfl ?_) 
        refine r_op tabOk hnt rfl (s_assign rfl ?_) 
        refine r_set [(5, PV.ptr 0 0), (6, pN ic), (7, pN oc), (11, pS 3 true eMsg ms)] [(0, .obj [PV.ref 2 0 none, pI K, pI rf]), (2, oB false 3 eMsg ms)] 3 ⟨rfl, rfl, rfl, rfl, trivial⟩ rfl rfl ?_
        refine r_end ?_
        refine q_then ?_
        refine w_seq ?_
        refine w_R ?_
        refine r_op tabOk hnt rfl (s_move rfl ?_) 
        refine r_op tabOk hnt rfl (s_callX (r2 := pN ms.length) (nx1 := 4) (H2 := [(0, .obj [PV.ref 2 0 none, pI K, pI rf]), (2, oB false 3 eMsg ms)]) (H3 := [(0, .obj [PV.ref 3 0 none, pI K, pI rf]), (3, oB false 3 eMsg ms)]) [0, 2] [.obj [PV.ref 2 0 none, pI K, pI rf], oB false 3 eMsg ms] rfl rfl rfl (handed_of (by decide) ⟨rfl, rfl, trivial⟩) rfl rfl rfl rfl rfl rfl (w_quota_Queue_Len ms K rf) rfl (dist_of rfl) rfl rfl rfl rfl ?_) 
        refine r_op tabOk hnt rfl (s_assign rfl ?_) 
        refine r_set [(5, PV.ptr 0 0), (6, pN ic), (7, pN oc), (11, pS 3 true eMsg ms), (12, pN ms.length)] [(0, .obj [PV.ref 3 0 none, pI K, pI rf]), (3, oB false 3 eMsg ms)] 4 ⟨rfl, rfl, rfl, rfl, rfl, trivial⟩ rfl rfl ?_
        refine r_end ?_
        refine q_then ?_
        refine w_seq ?_
        refine w_R ?_
        refine r_op tabOk hnt rfl (s_move rfl ?_) 
        refine r_op tabOk hnt rfl (s_callX (r2 := pS 3 true eMsg ms) (nx1 := 5) (H2 := [(0, .obj [PV.ref 3 0 none, pI K, pI rf]), (3, oB false 3 eMsg ms)]) (H3 := [(0, .obj [PV.ref 4 0 none, pI K, pI rf]), (4, oB false 3 eMsg ([] : List TMsg))]) [0, 3] [.obj [PV.ref 3 0 none, pI K, pI rf], oB false 3 eMsg ms] rfl rfl rfl (handed_of (by decide) ⟨rfl, rfl, trivial⟩) rfl rfl rfl rfl rfl rfl (w_quota_Queue_Clear ms K rf (by first | omega | assumption | (simp; omega) | decide | (simp; done)) (by first | omega | assumption | (simp; omega) | decide | (simp; done))) rfl (dist_of rfl) rfl rfl rfl rfl ?_) 
        refine r_op tabOk hnt rfl (s_assign rfl ?_) 
        refine r_set [(5, PV.ptr 0 0), (6, pN ic), (7, pN oc), (11, pS 3 true eMsg ms), (12, pN ms.length), (13, pS 3 true eMsg ms)] [(0, .obj [PV.ref 4 0 none, pI K, pI rf]), (4, oB false 3 eMsg ([] : List TMsg))] 5 ⟨rfl, rfl, rfl, rfl, rfl, rfl, trivial⟩ rfl rfl ?_
        refine r_end ?_
        refine q_then ?_
        refine w_seq ?_
        refine w_seq ?_
        refine w_R ?_
        refine r_op tabOk hnt rfl (s_move rfl ?_) 
        refine r_op tabOk hnt rfl (s_lenM (l := ms) tab_39 rfl (hM_sl (f := eMsg) rfl) ?_) 
        refine r_op tabOk hnt rfl (s_move rfl ?_) 
        refine r_op tabOk hnt rfl (s_move rfl ?_) 
        refine r_op tabOk hnt rfl (s_subi (r := ((ic : Nat) : Int) - ((oc : Nat) : Int)) rfl rfl rfl (by omega) ?_) 
        refine r_op tabOk hnt rfl (s_neq rfl rfl ?_) 
        refine r_op tabOk hnt rfl (s_move rfl ?_) 
        refine r_if tabOk hnt rfl rfl rfl (fun g2 => ?_) (fun g2 => ?_)
        ·
          have g2' := g2
          try simp only [decide_eq_true_eq, decide_eq_false_iff_not, Bool.not_eq_true', Bool.not_eq_false', Bool.not_true, Bool.not_false, Bool.not_eq_eq_eq_not, Int.not_lt, Int.not_le] at g2'
          refine r_op tabOk hnt rfl (s_move rfl ?_) 
          refine r_if tabOk hnt rfl rfl rfl (fun _ => ?_) (fun e => absurd (e.symm.trans g2) (by decide))
          refine r_op tabOk hnt rfl (s_move rfl ?_) 
          refine r_if tabOk hnt rfl rfl rfl (fun _ => ?_) (fun e => absurd (e.symm.trans g2) (by decide))
          refine r_op tabOk hnt rfl (s_move rfl ?_) 
          refine r_if tabOk hnt rfl rfl rfl (fun _ => ?_) (fun e => absurd (e.symm.trans g2) (by decide))
          refine r_op tabOk hnt rfl (s_subi (r := ((ic : Nat) : Int) - ((oc : Nat) : Int)) rfl rfl rfl (by omega) ?_) 
          refine r_if tabOk hnt rfl rfl rfl (fun _ => ?_) (fun e => absurd (e.symm.trans g2) (by decide))
          refine r_op tabOk hnt rfl (s_neq rfl rfl ?_) 
          refine r_op tabOk hnt rfl (s_pick_f rfl g2 rfl ?_) 
          refine r_op tabOk hnt rfl (s_move rfl ?_) 
          refine r_if tabOk hnt rfl rfl rfl (fun _ => ?_) (fun e => absurd (e.symm.trans g2) (by decide))
          refine r_op tabOk hnt rfl (s_move rfl ?_) 
          refine r_if tabOk hnt rfl rfl rfl (fun _ => ?_) (fun e => absurd (e.symm.trans g2) (by decide))
          refine r_op tabOk hnt rfl (s_lenM (l := ms) tab_39 rfl (hM_sl (f := eMsg) rfl) ?_) 
          refine r_if tabOk hnt rfl rfl rfl (fun _ => ?_) (fun e => absurd (e.symm.trans g2) (by decide))
          refine r_op tabOk hnt rfl (s_move rfl ?_) 
          refine r_if tabOk hnt rfl rfl rfl (fun _ => ?_) (fun e => absurd (e.symm.trans g2) (by decide))
          refine r_op tabOk hnt rfl (s_move rfl ?_) 
          refine r_if tabOk hnt rfl rfl rfl (fun _ => ?_) (fun e => absurd (e.symm.trans g2) (by decide))
          refine r_op tabOk hnt rfl (s_subi (r := ((ic : Nat) : Int) - ((oc : Nat) : Int)) rfl rfl rfl (by omega) ?_) 
          refine r_if tabOk hnt rfl rfl rfl (fun _ => ?_) (fun e => absurd (e.symm.trans g2) (by decide))
          refine r_op tabOk hnt rfl (s_neq rfl rfl ?_) 
          refine r_op tabOk hnt rfl (s_pick_f rfl g2 rfl ?_) 
          refine r_op tabOk hnt rfl (s_move rfl ?_) 
          refine r_if tabOk hnt rfl rfl rfl (fun _ => ?_) (fun e => absurd (e.symm.trans g2) (by decide))
          refine r_op tabOk hnt rfl (s_move rfl ?_) 
          refine r_if tabOk hnt rfl rfl rfl (fun _ => ?_) (fun e => absurd (e.symm.trans g2) (by decide))
          refine r_op tabOk hnt rfl (s_callX (r2 := pN (([] : List TMsg).length)) (nx1 := 6) (H2 := [(0, .obj [PV.ref 4 0 none, pI K, pI rf]), (4, oB false 3 eMsg ([] : List TMsg))]) (H3 := [(0, .obj [PV.ref 5 0 none, pI K, pI rf]), (5, oB false 3 eMsg ([] : List TMsg))]) [0, 4] [.obj [PV.ref 4 0 none, pI K, pI rf], oB false 3 eMsg ([] : List TMsg)] rfl rfl rfl (handed_of (by decide) ⟨rfl, rfl, trivial⟩) rfl rfl rfl rfl rfl rfl (w_quota_Queue_Len ([] : List TMsg) K rf) rfl (dist_of rfl) rfl rfl rfl rfl ?_) 
          refine r_if tabOk hnt rfl rfl rfl (fun _ => ?_) (fun e => absurd (e.symm.trans g2) (by decide))
          refine r_op tabOk hnt rfl (s_neq rfl rfl ?_) 
          refine r_op tabOk hnt rfl (s_pick_f rfl g2 rfl ?_) 
          refine r_op tabOk hnt rfl (s_move rfl ?_) 
          refine r_if tabOk hnt rfl rfl rfl (fun g3 => ?_) (fun g3 => ?_)
          ·
            have g3' := g3
            try simp only [decide_eq_true_eq, decide_eq_false_iff_not, Bool.not_eq_true', Bool.not_eq_false', Bool.not_true, Bool.not_false, Bool.not_eq_eq_eq_not, Int.not_lt, Int.not_le] at g3'
            refine r_op tabOk hnt rfl (s_move rfl ?_) 
            refine r_if tabOk hnt rfl rfl rfl (fun _ => ?_) (fun e => absurd (e.symm.trans g3) (by decide))
            refine r_op tabOk hnt rfl (s_callX (r2 := pS 3 true eMsg ([] : List TMsg)) (nx1 := 7) (H2 := [(0, .obj [PV.ref 5 0 none, pI K, pI rf]), (5, oB false 3 eMsg ([] : List TMsg))]) (H3 := [(0, .obj [PV.ref 6 0 none, pI K, pI rf]), (6, oB false 3 eMsg ([] : List TMsg))]) [0, 5] [.obj [PV.ref 5 0 none, pI K, pI rf], oB false 3 eMsg ([] : List TMsg)] rfl rfl rfl (handed_of (by decide) ⟨rfl, rfl, trivial⟩) rfl rfl rfl rfl rfl rfl (w_quota_Queue_All ([] : List TMsg) K rf (by first | omega | assumption | (simp; omega) | decide | (simp; done)) (by first | omega | assumption | (simp; omega) | decide | (simp; done))) rfl (dist_of rfl) rfl rfl rfl rfl ?_) 
            refine r_if tabOk hnt rfl rfl rfl (fun _ => ?_) (fun e => absurd (e.symm.trans g3) (by decide))
            refine r_op tabOk hnt rfl (s_lenM (l := ([] : List TMsg)) tab_39 rfl (hM_sl (f := eMsg) rfl) ?_) 
            refine r_if tabOk hnt rfl rfl rfl (fun _ => ?_) (fun e => absurd (e.symm.trans g3) (by decide))
            refine r_op tabOk hnt rfl (s_neq rfl rfl ?_) 
            refine r_op tabOk hnt rfl (s_pick_f rfl g3 rfl ?_) 
            refine r_set [(11, pS 3 true eMsg ms), (13, pS 3 true eMsg ms), (89, pB (!decide (((([] : List TMsg).length : Nat) : Int) = 0)))] [(0, .obj [PV.ref 6 0 none, pI K, pI rf]), (6, oB false 3 eMsg ([] : List TMsg))] 7 ⟨rfl, rfl, rfl, trivial⟩ rfl rfl ?_
            refine r_end ?_
            refine q_then ?_
            refine w_if rfl (fun e => absurd (e.symm.trans g3) (by decide)) (fun _ => ?_)
            refine w_skip ?_
            refine q_then ?_
            refine w_seq ?_
            refine w_seq ?_
            refine w_R ?_
            refine r_op tabOk hnt rfl (s_move rfl ?_) 
            refine r_op tabOk hnt rfl (s_lenM (l := ms) tab_39 rfl (hM_sl (f := eMsg) rfl) ?_) 
            refine r_op tabOk hnt rfl (s_move rfl ?_) 
            refine r_end ?_
            refine q_then ?_
            refine w_block ?_
            refine loop1 (fun (z : Nat) => z ≤ ms.length) (fun (z : Nat) => [(11, pS 3 true eMsg ms), (13, pS 3 true eMsg ms), (91, pN ms.length), (92, pN z)]) 0 (fun (z : Nat) => []) (fun (z : Nat) => ms.length - z) (0) ?_ ⟨[], rfl, ⟨⟨_, rfl, rfl, rfl⟩, ⟨_, rfl, rfl, rfl⟩, ⟨_, rfl, rfl, rfl⟩, ⟨_, rfl, rfl, rfl⟩, trivial⟩, trivial, by rw [hk]; decide⟩ ?_
            · omega
            ·
              intro z hI
              refine w_seq ?_
              refine w_R ?_
              refine r_op tabOk hnt rfl (s_lss rfl rfl ?_) 
              refine r_end ?_
              refine q_then ?_
              refine w_seq ?_
              refine w_if rfl (fun c5 => ?_) (fun c5 => ?_)
              ·
                have c5_ := c5
                try simp only [decide_eq_true_eq, decide_eq_false_iff_not, Bool.not_eq_true', Bool.not_eq_false', Bool.not_true, Bool.not_false, Bool.not_eq_eq_eq_not, Int.not_lt, Int.not_le] at c5
                refine w_skip ?_
                refine q_then ?_
                refine w_seq ?_
                refine w_block ?_
                refine w_seq ?_
                refine w_R ?_
                refine r_op tabOk hnt rfl (s_move rfl ?_) 
                refine r_op tabOk hnt rfl (s_assign rfl ?_) 
                refine r_end ?_
                refine q_then ?_
                refine w_seq ?_
                refine W_drawn tabOk mixed hnt [[], [], [0, 1], [0, 1, 2], [0, 1, 2, 3], [], [], [5, 6], [5, 6, 7], [5, 6, 7, 8], [0, 1, 2, 3, 4, 5, 6, 7, 8, 9], [0, 1, 2, 3, 4, 5, 6, 7, 8, 9, 10], [0, 1, 2, 3, 4, 5, 6, 7, 8, 9, 10, 11], [0, 1, 2, 3, 4, 5, 6, 7, 8, 9, 10, 11, 12], [0, 1, 2, 3, 4, 5, 6, 7, 8, 9, 10, 11, 12, 13], [0, 1, 2, 3, 4, 5, 6, 7, 8, 9, 10, 11, 12, 13, 14], [0, 1, 2, 3, 4, 5, 6, 7, 8, 9, 10, 11, 12, 13, 14], [0, 1, 2, 3, 4, 5, 6, 7, 8, 9, 10, 11, 12, 13, 14, 15, 16], [0, 1, 2, 3, 4, 5, 6, 7, 8, 9, 10, 11, 12, 13, 14, 15, 16, 17], [0, 1, 2, 3, 4, 5, 6, 7, 8, 9, 10, 11, 12, 13, 14, 15, 16, 17, 18], [0, 1, 2, 3, 4, 5, 6, 7, 8, 9, 10, 11, 12, 13, 14], [0, 1, 2, 3, 4, 5, 6, 7, 8, 9, 10, 11, 12, 13, 14], [0, 1, 2, 3, 4, 5, 6, 7, 8, 9, 10, 11, 12, 13, 14, 21], [0, 1, 2, 3, 4, 5, 6, 7, 8, 9, 10, 11, 12, 13, 14, 20, 21, 22], [0, 1, 2, 3, 4, 5, 6, 7, 8, 9, 10, 11, 12, 13, 14, 20, 21, 22, 23], [0, 1, 2, 3, 4, 5, 6, 7, 8, 9, 10, 11, 12, 13, 14, 20, 21, 22, 23, 24], [0, 1, 2, 3, 4, 5, 6, 7, 8, 9, 10, 11, 12, 13, 14, 15, 16, 17, 18, 19, 20, 21, 22, 23, 24, 25], [0, 1, 2, 3, 4, 5, 6, 7, 8, 9, 10, 11, 12, 13, 14, 15, 16, 17, 18, 19, 20, 21, 22, 23, 24, 25, 26], [0, 1, 2, 3, 4, 5, 6, 7, 8, 9, 10, 11, 12, 13, 14, 15, 16, 17, 18, 19, 20, 21, 22, 23, 24, 25, 26, 27]] (by kernel_rfl) ?_
                refine d_op ?_
                refine x_run0 [(11, pS 3 true eMsg ms)] [] rfl rfl rfl rfl (s_move rfl ⟨rfl, rfl, rfl⟩) ?_
                refine d_op ?_
                refine x_run0 [(14, pN z)] [] rfl rfl rfl rfl (s_move rfl ⟨rfl, rfl, rfl⟩) ?_
                refine d_op ?_
                obtain ⟨e2, he2⟩ := get_of_lt ms (i := z) (by omega)
                refine x_run0 [(95, pS 3 true eMsg ms), (96, pN z)] [0, 1] rfl rfl rfl rfl (s_iaM (q := z) (b := e2) (f := eMsg) tab_39 rfl tab_33 rfl rfl (by omega) rfl he2 ⟨rfl, rfl, rfl⟩) ?_
                refine d_op ?_
                refine x_run0 [(97, PV.f (.ro (eMsg e2)))] [0, 1, 2] rfl rfl rfl rfl (s_fa_ro tab_33 rfl rfl tab_3 (by decide) rfl (Nat.le_of_ble_eq_true rfl) (by intro _; rfl) ⟨rfl, rfl, rfl⟩) ?_
                refine d_op ?_
                refine x_run0 [(98, PV.f (.ro (encI e2.id)))] [0, 1, 2, 3] rfl rfl rfl rfl (s_load_ro1 tab_3 rfl rfl rfl rfl ⟨rfl, rfl, rfl⟩) ?_
                refine d_op ?_
                refine x_run0 [(13, pS 3 true eMsg ms)] [] rfl rfl rfl rfl (s_move rfl ⟨rfl, rfl, rfl⟩) ?_
                refine d_op ?_
                refine x_run0 [(14, pN z)] [] rfl rfl rfl rfl (s_move rfl ⟨rfl, rfl, rfl⟩) ?_
                refine d_op ?_
                refine x_run0 [(100, pS 3 true eMsg ms), (101, pN z)] [5, 6] rfl rfl rfl rfl (s_iaM (q := z) (b := e2) (f := eMsg) tab_39 rfl tab_33 rfl rfl (by omega) rfl he2 ⟨rfl, rfl, rfl⟩) ?_
                refine d_op ?_
                refine x_run0 [(102, PV.f (.ro (eMsg e2)))] [5, 6, 7] rfl rfl rfl rfl (s_fa_ro tab_33 rfl rfl tab_3 (by decide) rfl (Nat.le_of_ble_eq_true rfl) (by intro _; rfl) ⟨rfl, rfl, rfl⟩) ?_
                refine d_op ?_
                refine x_run0 [(103, PV.f (.ro (encI e2.id)))] [5, 6, 7, 8] rfl rfl rfl rfl (s_load_ro1 tab_3 rfl rfl rfl rfl ⟨rfl, rfl, rfl⟩) ?_
                refine d_op ?_
                refine x_run0 [(99, pI e2.id), (104, pI e2.id)] [0, 1, 2, 3, 4, 5, 6, 7, 8, 9] rfl rfl rfl rfl (s_neq rfl rfl ⟨rfl, rfl, rfl⟩) ?_
                refine d_op ?_
                refine x_run0 [(105, pB (!decide (e2.id = e2.id)))] [0, 1, 2, 3, 4, 5, 6, 7, 8, 9, 10] rfl rfl rfl rfl (s_move rfl ⟨rfl, rfl, rfl⟩) ?_
                refine x_if [(106, pB (!decide (e2.id = e2.id))), (14, pN z)] [0, 1, 2, 3, 4, 5, 6, 7, 8, 9, 10, 11] rfl rfl rfl rfl (fun g4 => ?_) (fun g4 => ?_)
                ·
                  have g4' := g4
                  try simp only [decide_eq_true_eq, decide_eq_false_iff_not, Bool.not_eq_true', Bool.not_eq_false', Bool.not_true, Bool.not_false, Bool.not_eq_eq_eq_not, Int.not_lt, Int.not_le] at g4'
                  refine x_run0 [(106, pB (!decide (e2.id = e2.id))), (14, pN z)] [0, 1, 2, 3, 4, 5, 6, 7, 8, 9, 10, 11] rfl rfl rfl rfl (s_move rfl ⟨rfl, rfl, rfl⟩) ?_
                  refine x_if [(106, pB (!decide (e2.id = e2.id))), (107, pN z)] [0, 1, 2, 3, 4, 5, 6, 7, 8, 9, 10, 11, 12] rfl rfl rfl rfl (fun _ => ?_) (fun e => absurd (e.symm.trans g4) (by decide))
                  refine x_run0 [(106, pB (!decide (e2.id = e2.id))), (107, pN z)] [0, 1, 2, 3, 4, 5, 6, 7, 8, 9, 10, 11, 12] rfl rfl rfl rfl (s_gtr rfl rfl ⟨rfl, rfl, rfl⟩) ?_
                  refine x_if [(106, pB (!decide (e2.id = e2.id))), (108, pB (decide (0 < ((z : Nat) : Int))))] [0, 1, 2, 3, 4, 5, 6, 7, 8, 9, 10, 11, 12, 13] rfl rfl rfl rfl (fun _ => ?_) (fun e => absurd (e.symm.trans g4) (by decide))
                  refine x_run0 [(106, pB (!decide (e2.id = e2.id))), (108, pB (decide (0 < ((z : Nat) : Int))))] [0, 1, 2, 3, 4, 5, 6, 7, 8, 9, 10, 11, 12, 13] rfl rfl rfl rfl (s_move rfl ⟨rfl, rfl, rfl⟩) ?_
                  refine x_if [(109, pB (decide (0 < ((z : Nat) : Int)))), (11, pS 3 true eMsg ms)] [0, 1, 2, 3, 4, 5, 6, 7, 8, 9, 10, 11, 12, 13, 14] rfl rfl rfl rfl (fun g5 => ?_) (fun g5 => ?_)
                  ·
                    have g5' := g5
                    try simp only [decide_eq_true_eq, decide_eq_false_iff_not, Bool.not_eq_true', Bool.not_eq_false', Bool.not_true, Bool.not_false, Bool.not_eq_eq_eq_not, Int.not_lt, Int.not_le] at g5'
                    refine x_run0 [(109, pB (decide (0 < ((z : Nat) : Int)))), (11, pS 3 true eMsg ms)] [0, 1, 2, 3, 4, 5, 6, 7, 8, 9, 10, 11, 12, 13, 14] rfl rfl rfl rfl (s_move rfl ⟨rfl, rfl, rfl⟩) ?_
                    refine x_if [(109, pB (decide (0 < ((z : Nat) : Int)))), (14, pN z)] [0, 1, 2, 3, 4, 5, 6, 7, 8, 9, 10, 11, 12, 13, 14] rfl rfl rfl rfl (fun _ => ?_) (fun e => absurd (e.symm.trans g5) (by decide))
                    refine x_run0 [(109, pB (decide (0 < ((z : Nat) : Int)))), (14, pN z)] [0, 1, 2, 3, 4, 5, 6, 7, 8, 9, 10, 11, 12, 13, 14] rfl rfl rfl rfl (s_move rfl ⟨rfl, rfl, rfl⟩) ?_
                    refine x_if [(109, pB (decide (0 < ((z : Nat) : Int)))), (110, pS 3 true eMsg ms), (111, pN z)] [0, 1, 2, 3, 4, 5, 6, 7, 8, 9, 10, 11, 12, 13, 14, 15, 16] rfl rfl rfl rfl (fun _ => ?_) (fun e => absurd (e.symm.trans g5) (by decide))
                    refine x_run0 [(109, pB (decide (0 < ((z : Nat) : Int)))), (110, pS 3 true eMsg ms), (111, pN z)] [0, 1, 2, 3, 4, 5, 6, 7, 8, 9, 10, 11, 12, 13, 14, 15, 16] rfl rfl rfl rfl (s_iaM (q := z) (b := e2) (f := eMsg) tab_39 rfl tab_33 rfl rfl (by omega) rfl he2 ⟨rfl, rfl, rfl⟩) ?_
                    refine x_if [(109, pB (decide (0 < ((z : Nat) : Int)))), (112, PV.f (.ro (eMsg e2)))] [0, 1, 2, 3, 4, 5, 6, 7, 8, 9, 10, 11, 12, 13, 14, 15, 16, 17] rfl rfl rfl rfl (fun _ => ?_) (fun e => absurd (e.symm.trans g5) (by decide))
                    refine x_run0 [(109, pB (decide (0 < ((z : Nat) : Int)))), (112, PV.f (.ro (eMsg e2)))] [0, 1, 2, 3, 4, 5, 6, 7, 8, 9, 10, 11, 12, 13, 14, 15, 16, 17] rfl rfl rfl rfl (s_fa_ro tab_33 rfl rfl tab_3 (by decide) rfl (Nat.le_of_ble_eq_true rfl) (by intro _; rfl) ⟨rfl, rfl, rfl⟩) ?_
                    refine x_if [(109, pB (decide (0 < ((z : Nat) : Int)))), (113, PV.f (.ro (encI e2.id)))] [0, 1, 2, 3, 4, 5, 6, 7, 8, 9, 10, 11, 12, 13, 14, 15, 16, 17, 18] rfl rfl rfl rfl (fun _ => ?_) (fun e => absurd (e.symm.trans g5) (by decide))
                    refine x_run0 [(109, pB (decide (0 < ((z : Nat) : Int)))), (113, PV.f (.ro (encI e2.id)))] [0, 1, 2, 3, 4, 5, 6, 7, 8, 9, 10, 11, 12, 13, 14, 15, 16, 17, 18] rfl rfl rfl rfl (s_load_ro1 tab_3 rfl rfl rfl rfl ⟨rfl, rfl, rfl⟩) ?_
                    refine x_if [(109, pB (decide (0 < ((z : Nat) : Int)))), (11, pS 3 true eMsg ms)] [0, 1, 2, 3, 4, 5, 6, 7, 8, 9, 10, 11, 12, 13, 14] rfl rfl rfl rfl (fun _ => ?_) (fun e => absurd (e.symm.trans g5) (by decide))
                    refine x_run0 [(109, pB (decide (0 < ((z : Nat) : Int)))), (11, pS 3 true eMsg ms)] [0, 1, 2, 3, 4, 5, 6, 7, 8, 9, 10, 11, 12, 13, 14] rfl rfl rfl rfl (s_move rfl ⟨rfl, rfl, rfl⟩) ?_
                    refine x_if [(109, pB (decide (0 < ((z : Nat) : Int)))), (14, pN z)] [0, 1, 2, 3, 4, 5, 6, 7, 8, 9, 10, 11, 12, 13, 14] rfl rfl rfl rfl (fun _ => ?_) (fun e => absurd (e.symm.trans g5) (by decide))
                    refine x_run0 [(109, pB (decide (0 < ((z : Nat) : Int)))), (14, pN z)] [0, 1, 2, 3, 4, 5, 6, 7, 8, 9, 10, 11, 12, 13, 14] rfl rfl rfl rfl (s_move rfl ⟨rfl, rfl, rfl⟩) ?_
                    refine x_if [(109, pB (decide (0 < ((z : Nat) : Int)))), (116, pN z)] [0, 1, 2, 3, 4, 5, 6, 7, 8, 9, 10, 11, 12, 13, 14, 21] rfl rfl rfl rfl (fun _ => ?_) (fun e => absurd (e.symm.trans g5) (by decide))
                    refine x_run0 [(109, pB (decide (0 < ((z : Nat) : Int)))), (116, pN z)] [0, 1, 2, 3, 4, 5, 6, 7, 8, 9, 10, 11, 12, 13, 14, 21] rfl rfl rfl rfl (s_subN (a := z) (b := 1) rfl rfl (by omega) (by omega) (by omega) ⟨rfl, rfl, rfl⟩) ?_
                    refine x_if [(109, pB (decide (0 < ((z : Nat) : Int)))), (115, pS 3 true eMsg ms), (117, pN (z - 1))] [0, 1, 2, 3, 4, 5, 6, 7, 8, 9, 10, 11, 12, 13, 14, 20, 21, 22] rfl rfl rfl rfl (fun _ => ?_) (fun e => absurd (e.symm.trans g5) (by decide))
                    obtain ⟨e3, he3⟩ := get_of_lt ms (i := z - 1) (by omega)
                    refine x_run0 [(109, pB (decide (0 < ((z : Nat) : Int)))), (115, pS 3 true eMsg ms), (117, pN (z - 1))] [0, 1, 2, 3, 4, 5, 6, 7, 8, 9, 10, 11, 12, 13, 14, 20, 21, 22] rfl rfl rfl rfl (s_iaM (q := z - 1) (b := e3) (f := eMsg) tab_39 rfl tab_33 rfl rfl (by omega) rfl he3 ⟨rfl, rfl, rfl⟩) ?_
                    refine x_if [(109, pB (decide (0 < ((z : Nat) : Int)))), (118, PV.f (.ro (eMsg e3)))] [0, 1, 2, 3, 4, 5, 6, 7, 8, 9, 10, 11, 12, 13, 14, 20, 21, 22, 23] rfl rfl rfl rfl (fun _ => ?_) (fun e => absurd (e.symm.trans g5) (by decide))
                    refine x_run0 [(109, pB (decide (0 < ((z : Nat) : Int)))), (118, PV.f (.ro (eMsg e3)))] [0, 1, 2, 3, 4, 5, 6, 7, 8, 9, 10, 11, 12, 13, 14, 20, 21, 22, 23] rfl rfl rfl rfl (s_fa_ro tab_33 rfl rfl tab_3 (by decide) rfl (Nat.le_of_ble_eq_true rfl) (by intro _; rfl) ⟨rfl, rfl, rfl⟩) ?_
                    refine x_if [(109, pB (decide (0 < ((z : Nat) : Int)))), (119, PV.f (.ro (encI e3.id)))] [0, 1, 2, 3, 4, 5, 6, 7, 8, 9, 10, 11, 12, 13, 14, 20, 21, 22, 23, 24] rfl rfl rfl rfl (fun _ => ?_) (fun e => absurd (e.symm.trans g5) (by decide))
                    refine x_run0 [(109, pB (decide (0 < ((z : Nat) : Int)))), (119, PV.f (.ro (encI e3.id)))] [0, 1, 2, 3, 4, 5, 6, 7, 8, 9, 10, 11, 12, 13, 14, 20, 21, 22, 23, 24] rfl rfl rfl rfl (s_load_ro1 tab_3 rfl rfl rfl rfl ⟨rfl, rfl, rfl⟩) ?_
                    refine x_if [(109, pB (decide (0 < ((z : Nat) : Int)))), (114, pI e2.id), (120, pI e3.id)] [0, 1, 2, 3, 4, 5, 6, 7, 8, 9, 10, 11, 12, 13, 14, 15, 16, 17, 18, 19, 20, 21, 22, 23, 24, 25] rfl rfl rfl rfl (fun _ => ?_) (fun e => absurd (e.symm.trans g5) (by decide))
                    refine x_run0 [(109, pB (decide (0 < ((z : Nat) : Int)))), (114, pI e2.id), (120, pI e3.id)] [0, 1, 2, 3, 4, 5, 6, 7, 8, 9, 10, 11, 12, 13, 14, 15, 16, 17, 18, 19, 20, 21, 22, 23, 24, 25] rfl rfl rfl rfl (s_leq rfl rfl ⟨rfl, rfl, rfl⟩) ?_
                    refine x_if [(106, pB (!decide (e2.id = e2.id))), (109, pB (decide (0 < ((z : Nat) : Int)))), (121, pB (decide (e2.id ≤ e3.id)))] [0, 1, 2, 3, 4, 5, 6, 7, 8, 9, 10, 11, 12, 13, 14, 15, 16, 17, 18, 19, 20, 21, 22, 23, 24, 25, 26] rfl rfl rfl rfl (fun _ => ?_) (fun e => absurd (e.symm.trans g4) (by decide))
                    refine x_run0 [(106, pB (!decide (e2.id = e2.id))), (109, pB (decide (0 < ((z : Nat) : Int)))), (121, pB (decide (e2.id ≤ e3.id)))] [0, 1, 2, 3, 4, 5, 6, 7, 8, 9, 10, 11, 12, 13, 14, 15, 16, 17, 18, 19, 20, 21, 22, 23, 24, 25, 26] rfl rfl rfl rfl (s_pick_t rfl g5 rfl ⟨rfl, rfl, rfl⟩) ?_
                    refine d_op ?_
                    refine x_run0 [(106, pB (!decide (e2.id = e2.id))), (122, pB (decide (e2.id ≤ e3.id)))] [0, 1, 2, 3, 4, 5, 6, 7, 8, 9, 10, 11, 12, 13, 14, 15, 16, 17, 18, 19, 20, 21, 22, 23, 24, 25, 26, 27] rfl rfl rfl rfl (s_pick_f rfl g4 rfl ⟨rfl, rfl, rfl⟩) ?_
                    refine d_end ⟨by kernel_rfl, ?_⟩
                    refine q_then ?_
                    refine w_if rfl (fun c6 => ?_) (fun c6 => ?_)
                    ·
                      have c6_ := c6
                      exact absurd c6 (by exact not_dec2 (by have := pair_lt hasc (i := z - 1) (by assumption) (by rw [Nat.sub_add_cancel (by omega)]; assumption); omega))
                    ·
                      have c6_ := c6
                      try simp only [decide_eq_true_eq, decide_eq_false_iff_not, Bool.not_eq_true', Bool.not_eq_false', Bool.not_true, Bool.not_false, Bool.not_eq_eq_eq_not, Int.not_lt, Int.not_le] at c6
                      refine w_skip ?_
                      refine q_block ?_
                      refine q_then ?_
                      refine w_R ?_
                      refine r_op tabOk hnt rfl (s_addN (a := z) (b := 1) rfl rfl (by omega) (by omega) (by omega) ?_) 
                      refine r_op tabOk hnt rfl (s_move rfl ?_) 
                      refine r_end ?_
                      refine q_then ?_
                      refine ⟨(z + 1), ?_, ?_, ⟨[], rfl, ⟨⟨_, rfl, rfl, rfl⟩, ⟨_, rfl, rfl, rfl⟩, ⟨_, rfl, rfl, rfl⟩, ⟨_, rfl, rfl, rfl⟩, trivial⟩, trivial, by rw [hk]; decide⟩⟩
                      ·
                        omega
                      · omega
                  ·
                    have g5' := g5
                    try simp only [decide_eq_true_eq, decide_eq_false_iff_not, Bool.not_eq_true', Bool.not_eq_false', Bool.not_true, Bool.not_false, Bool.not_eq_eq_eq_not, Int.not_lt, Int.not_le] at g5'
                    refine x_if [(109, pB (decide (0 < ((z : Nat) : Int)))), (14, pN z)] [0, 1, 2, 3, 4, 5, 6, 7, 8, 9, 10, 11, 12, 13, 14] rfl rfl rfl rfl (fun e => absurd (e.symm.trans g5) (by decide)) (fun _ => ?_)
                    refine x_if [(109, pB (decide (0 < ((z : Nat) : Int)))), (110, undefP), (111, undefP)] [0, 1, 2, 3, 4, 5, 6, 7, 8, 9, 10, 11, 12, 13, 14, 15, 16] rfl rfl rfl rfl (fun e => absurd (e.symm.trans g5) (by decide)) (fun _ => ?_)
                    refine x_if [(109, pB (decide (0 < ((z : Nat) : Int)))), (112, undefP)] [0, 1, 2, 3, 4, 5, 6, 7, 8, 9, 10, 11, 12, 13, 14, 15, 16, 17] rfl rfl rfl rfl (fun e => absurd (e.symm.trans g5) (by decide)) (fun _ => ?_)
                    refine x_if [(109, pB (decide (0 < ((z : Nat) : Int)))), (113, undefP)] [0, 1, 2, 3, 4, 5, 6, 7, 8, 9, 10, 11, 12, 13, 14, 15, 16, 17, 18] rfl rfl rfl rfl (fun e => absurd (e.symm.trans g5) (by decide)) (fun _ => ?_)
                    refine x_if [(109, pB (decide (0 < ((z : Nat) : Int)))), (11, pS 3 true eMsg ms)] [0, 1, 2, 3, 4, 5, 6, 7, 8, 9, 10, 11, 12, 13, 14] rfl rfl rfl rfl (fun e => absurd (e.symm.trans g5) (by decide)) (fun _ => ?_)
                    refine x_if [(109, pB (decide (0 < ((z : Nat) : Int)))), (14, pN z)] [0, 1, 2, 3, 4, 5, 6, 7, 8, 9, 10, 11, 12, 13, 14] rfl rfl rfl rfl (fun e => absurd (e.symm.trans g5) (by decide)) (fun _ => ?_)
                    refine x_if [(109, pB (decide (0 < ((z : Nat) : Int)))), (116, undefP)] [0, 1, 2, 3, 4, 5, 6, 7, 8, 9, 10, 11, 12, 13, 14, 21] rfl rfl rfl rfl (fun e => absurd (e.symm.trans g5) (by decide)) (fun _ => ?_)
                    refine x_if [(109, pB (decide (0 < ((z : Nat) : Int)))), (115, undefP), (117, undefP)] [0, 1, 2, 3, 4, 5, 6, 7, 8, 9, 10, 11, 12, 13, 14, 20, 21, 22] rfl rfl rfl rfl (fun e => absurd (e.symm.trans g5) (by decide)) (fun _ => ?_)
                    refine x_if [(109, pB (decide (0 < ((z : Nat) : Int)))), (118, undefP)] [0, 1, 2, 3, 4, 5, 6, 7, 8, 9, 10, 11, 12, 13, 14, 20, 21, 22, 23] rfl rfl rfl rfl (fun e => absurd (e.symm.trans g5) (by decide)) (fun _ => ?_)
                    refine x_if [(109, pB (decide (0 < ((z : Nat) : Int)))), (119, undefP)] [0, 1, 2, 3, 4, 5, 6, 7, 8, 9, 10, 11, 12, 13, 14, 20, 21, 22, 23, 24] rfl rfl rfl rfl (fun e => absurd (e.symm.trans g5) (by decide)) (fun _ => ?_)
                    refine x_if [(109, pB (decide (0 < ((z : Nat) : Int)))), (114, undefP), (120, undefP)] [0, 1, 2, 3, 4, 5, 6, 7, 8, 9, 10, 11, 12, 13, 14, 15, 16, 17, 18, 19, 20, 21, 22, 23, 24, 25] rfl rfl rfl rfl (fun e => absurd (e.symm.trans g5) (by decide)) (fun _ => ?_)
                    refine x_if [(106, pB (!decide (e2.id = e2.id))), (109, pB (decide (0 < ((z : Nat) : Int)))), (121, undefP)] [0, 1, 2, 3, 4, 5, 6, 7, 8, 9, 10, 11, 12, 13, 14, 15, 16, 17, 18, 19, 20, 21, 22, 23, 24, 25, 26] rfl rfl rfl rfl (fun _ => ?_) (fun e => absurd (e.symm.trans g4) (by decide))
                    refine x_run0 [(106, pB (!decide (e2.id = e2.id))), (109, pB (decide (0 < ((z : Nat) : Int)))), (121, undefP)] [0, 1, 2, 3, 4, 5, 6, 7, 8, 9, 10, 11, 12, 13, 14, 15, 16, 17, 18, 19, 20, 21, 22, 23, 24, 25, 26] rfl rfl rfl rfl (s_pick_f rfl g5 rfl ⟨rfl, rfl, rfl⟩) ?_
                    refine d_op ?_
                    refine x_run0 [(106, pB (!decide (e2.id = e2.id))), (122, pB false)] [0, 1, 2, 3, 4, 5, 6, 7, 8, 9, 10, 11, 12, 13, 14, 15, 16, 17, 18, 19, 20, 21, 22, 23, 24, 25, 26, 27] rfl rfl rfl rfl (s_pick_f rfl g4 rfl ⟨rfl, rfl, rfl⟩) ?_
                    refine d_end ⟨by kernel_rfl, ?_⟩
                    refine q_then ?_
                    refine w_if rfl (fun e => absurd e (by decide)) (fun _ => ?_)
                    refine w_skip ?_
                    refine q_block ?_
                    refine q_then ?_
                    refine w_R ?_
                    refine r_op tabOk hnt rfl (s_addN (a := z) (b := 1) rfl rfl (by omega) (by omega) (by omega) ?_) 
                    refine r_op tabOk hnt rfl (s_move rfl ?_) 
                    refine r_end ?_
                    refine q_then ?_
                    refine ⟨(z + 1), ?_, ?_, ⟨[], rfl, ⟨⟨_, rfl, rfl, rfl⟩, ⟨_, rfl, rfl, rfl⟩, ⟨_, rfl, rfl, rfl⟩, ⟨_, rfl, rfl, rfl⟩, trivial⟩, trivial, by rw [hk]; decide⟩⟩
                    ·
                      omega
                    · omega
                ·
                  exact absurd g4 (by exact not_dec1 rfl)
              ·
                have c5_ := c5
                try simp only [decide_eq_true_eq, decide_eq_false_iff_not, Bool.not_eq_true', Bool.not_eq_false', Bool.not_true, Bool.not_false, Bool.not_eq_eq_eq_not, Int.not_lt, Int.not_le] at c5
                refine w_exit ?_
                refine q_then_exit ?_
                refine q_then_exit ?_
                refine q_block_exit ?_
                refine q_then ?_
                refine w_seq ?_
                refine w_R ?_
                refine r_op tabOk hnt rfl (s_callF rfl rfl rfl (w_burgagelaw20_known) rfl ?_) 
                refine r_op tabOk hnt rfl (s_assign rfl ?_) 
                refine r_end ?_
                refine q_then ?_
                refine w_ret ?_
                exact fin_plain (ret_tmp rfl ret_nil) rfl rfl ⟨rfl, rfl, rfl⟩
          ·
            exact absurd g3 (by exact not_dec1 rfl)
        ·
          exact absurd g2 (by exact not_dec1 (by omega))
    ·
      have g1' := g1
      try simp only [decide_eq_true_eq, decide_eq_false_iff_not, Bool.not_eq_true', Bool.not_eq_false', Bool.not_true, Bool.not_false, Bool.not_eq_eq_eq_not, Int.not_lt, Int.not_le] at g1'
      refine r_if tabOk hnt rfl rfl rfl (fun e => absurd (e.symm.trans g1) (by decide)) (fun _ => ?_)
      refine r_op tabOk hnt rfl (s_pick_f rfl g1 rfl ?_) 
      refine r_end ?_
      refine q_then ?_
      refine w_if rfl (fun e => absurd e (by decide)) (fun _ => ?_)
      refine w_exit ?_
      refine q_then_exit ?_
      refine q_then_exit ?_
      refine q_block_exit ?_
      refine q_then ?_
      refine w_seq ?_
      refine w_R ?_
      refine r_op tabOk hnt rfl (s_move rfl ?_) 
      refine r_op tabOk hnt rfl (s_callX (r2 := pS 3 true eMsg ms) (nx1 := 3) (H2 := [(0, .obj [PV.ref 1 0 none, pI K, pI rf]), (1, oB false 3 eMsg ms)]) (H3 := [(0, .obj [PV.ref 2 0 none, pI K, pI rf]), (2, oB false 3 eMsg ms)]) [0, 1] [.obj [PV.ref 1 0 none, pI K, pI rf], oB false 3 eMsg ms] rfl rfl rfl (handed_of (by decide) ⟨rfl, rfl, trivial⟩) rfl rfl rfl rfl rfl rfl (w_quota_Queue_All ms K rf (by first | omega | assumption | (simp; omega) | decide | (simp; done)) (by first | omega | assumption | (simp; omega) | decide | (simp; done))) rfl (dist_of rfl) rfl rfl rfl rfl ?_) 
      refine r_op tabOk hnt rfl (s_assign rfl ?_) 
      refine r_set [(5, PV.ptr 0 0), (6, pN ic), (7, pN oc), (11, pS 3 true eMsg ms)] [(0, .obj [PV.ref 2 0 none, pI K, pI rf]), (2, oB false 3 eMsg ms)] 3 ⟨rfl, rfl, rfl, rfl, trivial⟩ rfl rfl ?_
      refine r_end ?_
      refine q_then ?_
      refine w_seq ?_
      refine w_R ?_
      refine r_op tabOk hnt rfl (s_move rfl ?_) 
      refine r_op tabOk hnt rfl (s_callX (r2 := pN ms.length) (nx1 := 4) (H2 := [(0, .obj [PV.ref 2 0 none, pI K, pI rf]), (2, oB false 3 eMsg ms)]) (H3 := [(0, .obj [PV.ref 3 0 none, pI K, pI rf]), (3, oB false 3 eMsg ms)]) [0, 2] [.obj [PV.ref 2 0 none, pI K, pI rf], oB false 3 eMsg ms] rfl rfl rfl (handed_of (by decide) ⟨rfl, rfl, trivial⟩) rfl rfl rfl rfl rfl rfl (w_quota_Queue_Len ms K rf) rfl (dist_of rfl) rfl rfl rfl rfl ?_) 
      refine r_op tabOk hnt rfl (s_assign rfl ?_) 
      refine r_set [(5, PV.ptr 0 0), (6, pN ic), (7, pN oc), (11, pS 3 true eMsg ms), (12, pN ms.length)] [(0, .obj [PV.ref 3 0 none, pI K, pI rf]), (3, oB false 3 eMsg ms)] 4 ⟨rfl, rfl, rfl, rfl, rfl, trivial⟩ rfl rfl ?_
      refine r_end ?_
      refine q_then ?_
      refine w_seq ?_
      refine w_R ?_
      refine r_op tabOk hnt rfl (s_move rfl ?_) 
      refine r_op tabOk hnt rfl (s_callX (r2 := pS 3 true eMsg ms) (nx1 := 5) (H2 := [(0, .obj [PV.ref 3 0 none, pI K, pI rf]), (3, oB false 3 eMsg ms)]) (H3 := [(0, .obj [PV.ref 4 0 none, pI K, pI rf]), (4, oB false 3 eMsg ([] : List TMsg))]) [0, 3] [.obj [PV.ref 3 0 none, pI K, pI rf], oB false 3 eMsg ms] rfl rfl rfl (handed_of (by decide) ⟨rfl, rfl, trivial⟩) rfl rfl rfl rfl rfl rfl (w_quota_Queue_Clear ms K rf (by first | omega | assumption | (simp; omega) | decide | (simp; done)) (by first | omega | assumption | (simp; omega) | decide | (simp; done))) rfl (dist_of rfl) rfl rfl rfl rfl ?_) 
      refine r_op tabOk hnt rfl (s_assign rfl ?_) 
      refine r_set [(5, PV.ptr 0 0), (6, pN ic), (7, pN oc), (11, pS 3 true eMsg ms), (12, pN ms.length), (13, pS 3 true eMsg ms)] [(0, .obj [PV.ref 4 0 none, pI K, pI rf]), (4, oB false 3 eMsg ([] : List TMsg))] 5 ⟨rfl, rfl, rfl, rfl, rfl, rfl, trivial⟩ rfl rfl ?_
      refine r_end ?_
      refine q_then ?_
      refine w_seq ?_
      refine w_seq ?_
      refine w_R ?_
      refine r_op tabOk hnt rfl (s_move rfl ?_) 
      refine r_op tabOk hnt rfl (s_lenM (l := ms) tab_39 rfl (hM_sl (f := eMsg) rfl) ?_) 
      refine r_op tabOk hnt rfl (s_move rfl ?_) 
      refine r_op tabOk hnt rfl (s_move rfl ?_) 
      refine r_op tabOk hnt rfl (s_subi (r := ((ic : Nat) : Int) - ((oc : Nat) : Int)) rfl rfl rfl (by omega) ?_) 
      refine r_op tabOk hnt rfl (s_neq rfl rfl ?_) 
      refine r_op tabOk hnt rfl (s_move rfl ?_) 
      refine r_if tabOk hnt rfl rfl rfl (fun g6 => ?_) (fun g6 => ?_)
      ·
        have g6' := g6
        try simp only [decide_eq_true_eq, decide_eq_false_iff_not, Bool.not_eq_true', Bool.not_eq_false', Bool.not_true, Bool.not_false, Bool.not_eq_eq_eq_not, Int.not_lt, Int.not_le] at g6'
        refine r_op tabOk hnt rfl (s_move rfl ?_) 
        refine r_if tabOk hnt rfl rfl rfl (fun _ => ?_) (fun e => absurd (e.symm.trans g6) (by decide))
        refine r_op tabOk hnt rfl (s_move rfl ?_) 
        refine r_if tabOk hnt rfl rfl rfl (fun _ => ?_) (fun e => absurd (e.symm.trans g6) (by decide))
        refine r_op tabOk hnt rfl (s_move rfl ?_) 
        refine r_if tabOk hnt rfl rfl rfl (fun _ => ?_) (fun e => absurd (e.symm.trans g6) (by decide))
        refine r_op tabOk hnt rfl (s_subi (r := ((ic : Nat) : Int) - ((oc : Nat) : Int)) rfl rfl rfl (by omega) ?_) 
        refine r_if tabOk hnt rfl rfl rfl (fun _ => ?_) (fun e => absurd (e.symm.trans g6) (by decide))
        refine r_op tabOk hnt rfl (s_neq rfl rfl ?_) 
        refine r_op tabOk hnt rfl (s_pick_f rfl g6 rfl ?_) 
        refine r_op tabOk hnt rfl (s_move rfl ?_) 
        refine r_if tabOk hnt rfl rfl rfl (fun _ => ?_) (fun e => absurd (e.symm.trans g6) (by decide))
        refine r_op tabOk hnt rfl (s_move rfl ?_) 
        refine r_if tabOk hnt rfl rfl rfl (fun _ => ?_) (fun e => absurd (e.symm.trans g6) (by decide))
        refine r_op tabOk hnt rfl (s_lenM (l := ms) tab_39 rfl (hM_sl (f := eMsg) rfl) ?_) 
        refine r_if tabOk hnt rfl rfl rfl (fun _ => ?_) (fun e => absurd (e.symm.trans g6) (by decide))
        refine r_op tabOk hnt rfl (s_move rfl ?_) 
        refine r_if tabOk hnt rfl rfl rfl (fun _ => ?_) (fun e => absurd (e.symm.trans g6) (by decide))
        refine r_op tabOk hnt rfl (s_move rfl ?_) 
        refine r_if tabOk hnt rfl rfl rfl (fun _ => ?_) (fun e => absurd (e.symm.trans g6) (by decide))
        refine r_op tabOk hnt rfl (s_subi (r := ((ic : Nat) : Int) - ((oc : Nat) : Int)) rfl rfl rfl (by omega) ?_) 
        refine r_if tabOk hnt rfl rfl rfl (fun _ => ?_) (fun e => absurd (e.symm.trans g6) (by decide))
        refine r_op tabOk hnt rfl (s_neq rfl rfl ?_) 
        refine r_op tabOk hnt rfl (s_pick_f rfl g6 rfl ?_) 
        refine r_op tabOk hnt rfl (s_move rfl ?_) 
        refine r_if tabOk hnt rfl rfl rfl (fun _ => ?_) (fun e => absurd (e.symm.trans g6) (by decide))
        refine r_op tabOk hnt rfl (s_move rfl ?_) 
        refine r_if tabOk hnt rfl rfl rfl (fun _ => ?_) (fun e => absurd (e.symm.trans g6) (by decide))
        refine r_op tabOk hnt rfl (s_callX (r2 := pN (([] : List TMsg).length)) (nx1 := 6) (H2 := [(0, .obj [PV.ref 4 0 none, pI K, pI rf]), (4, oB false 3 eMsg ([] : List TMsg))]) (H3 := [(0, .obj [PV.ref 5 0 none, pI K, pI rf]), (5, oB false 3 eMsg ([] : List TMsg))]) [0, 4] [.obj [PV.ref 4 0 none, pI K, pI rf], oB false 3 eMsg ([] : List TMsg)] rfl rfl rfl (handed_of (by decide) ⟨rfl, rfl, trivial⟩) rfl rfl rfl rfl rfl rfl (w_quota_Queue_Len ([] : List TMsg) K rf) rfl (dist_of rfl) rfl rfl rfl rfl ?_) 
        refine r_if tabOk hnt rfl rfl rfl (fun _ => ?_) (fun e => absurd (e.symm.trans g6) (by decide))
        refine r_op tabOk hnt rfl (s_neq rfl rfl ?_) 
        refine r_op tabOk hnt rfl (s_pick_f rfl g6 rfl ?_) 
        refine r_op tabOk hnt rfl (s_move rfl ?_) 
        refine r_if tabOk hnt rfl rfl rfl (fun g7 => ?_) (fun g7 => ?_)
        ·
          have g7' := g7
          try simp only [decide_eq_true_eq, decide_eq_false_iff_not, Bool.not_eq_true', Bool.not_eq_false', Bool.not_true, Bool.not_false, Bool.not_eq_eq_eq_not, Int.not_lt, Int.not_le] at g7'
          refine r_op tabOk hnt rfl (s_move rfl ?_) 
          refine r_if tabOk hnt rfl rfl rfl (fun _ => ?_) (fun e => absurd (e.symm.trans g7) (by decide))
          refine r_op tabOk hnt rfl (s_callX (r2 := pS 3 true eMsg ([] : List TMsg)) (nx1 := 7) (H2 := [(0, .obj [PV.ref 5 0 none, pI K, pI rf]), (5, oB false 3 eMsg ([] : List TMsg))]) (H3 := [(0, .obj [PV.ref 6 0 none, pI K, pI rf]), (6, oB false 3 eMsg ([] : List TMsg))]) [0, 5] [.obj [PV.ref 5 0 none, pI K, pI rf], oB false 3 eMsg ([] : List TMsg)] rfl rfl rfl (handed_of (by decide) ⟨rfl, rfl, trivial⟩) rfl rfl rfl rfl rfl rfl (w_quota_Queue_All ([] : List TMsg) K rf (by first | omega | assumption | (simp; omega) | decide | (simp; done)) (by first | omega | assumption | (simp; omega) | decide | (simp; done))) rfl (dist_of rfl) rfl rfl rfl rfl ?_) 
          refine r_if tabOk hnt rfl rfl rfl (fun _ => ?_) (fun e => absurd (e.symm.trans g7) (by decide))
          refine r_op tabOk hnt rfl (s_lenM (l := ([] : List TMsg)) tab_39 rfl (hM_sl (f := eMsg) rfl) ?_) 
          refine r_if tabOk hnt rfl rfl rfl (fun _ => ?_) (fun e => absurd (e.symm.trans g7) (by decide))
          refine r_op tabOk hnt rfl (s_neq rfl rfl ?_) 
          refine r_op tabOk hnt rfl (s_pick_f rfl g7 rfl ?_) 
          refine r_set [(11, pS 3 true eMsg ms), (13, pS 3 true eMsg ms), (89, pB (!decide (((([] : List TMsg).length : Nat) : Int) = 0)))] [(0, .obj [PV.ref 6 0 none, pI K, pI rf]), (6, oB false 3 eMsg ([] : List TMsg))] 7 ⟨rfl, rfl, rfl, trivial⟩ rfl rfl ?_
          refine r_end ?_
          refine q_then ?_
          refine w_if rfl (fun e => absurd (e.symm.trans g7) (by decide)) (fun _ => ?_)
          refine w_skip ?_
          refine q_then ?_
          refine w_seq ?_
          refine w_seq ?_
          refine w_R ?_
          refine r_op tabOk hnt rfl (s_move rfl ?_) 
          refine r_op tabOk hnt rfl (s_lenM (l := ms) tab_39 rfl (hM_sl (f := eMsg) rfl) ?_) 
          refine r_op tabOk hnt rfl (s_move rfl ?_) 
          refine r_end ?_
          refine q_then ?_
          refine w_block ?_
          refine loop1 (fun (z : Nat) => z ≤ ms.length) (fun (z : Nat) => [(11, pS 3 true eMsg ms), (13, pS 3 true eMsg ms), (91, pN ms.length), (92, pN z)]) 0 (fun (z : Nat) => []) (fun (z : Nat) => ms.length - z) (0) ?_ ⟨[], rfl, ⟨⟨_, rfl, rfl, rfl⟩, ⟨_, rfl, rfl, rfl⟩, ⟨_, rfl, rfl, rfl⟩, ⟨_, rfl, rfl, rfl⟩, trivial⟩, trivial, by rw [hk]; decide⟩ ?_
          · omega
          ·
            intro z hI
            refine w_seq ?_
            refine w_R ?_
            refine r_op tabOk hnt rfl (s_lss rfl rfl ?_) 
            refine r_end ?_
            refine q_then ?_
            refine w_seq ?_
            refine w_if rfl (fun c7 => ?_) (fun c7 => ?_)
            ·
              have c7_ := c7
              try simp only [decide_eq_true_eq, decide_eq_false_iff_not, Bool.not_eq_true', Bool.not_eq_false', Bool.not_true, Bool.not_false, Bool.not_eq_eq_eq_not, Int.not_lt, Int.not_le] at c7
              refine w_skip ?_
              refine q_then ?_
              refine w_seq ?_
              refine w_block ?_
              refine w_seq ?_
              refine w_R ?_
              refine r_op tabOk hnt rfl (s_move rfl ?_) 
              refine r_op tabOk hnt rfl (s_assign rfl ?_) 
              refine r_end ?_
              refine q_then ?_
              refine w_seq ?_
              refine W_drawn tabOk mixed hnt [[], [], [0, 1], [0, 1, 2], [0, 1, 2, 3], [], [], [5, 6], [5, 6, 7], [5, 6, 7, 8], [0, 1, 2, 3, 4, 5, 6, 7, 8, 9], [0, 1, 2, 3, 4, 5, 6, 7, 8, 9, 10], [0, 1, 2, 3, 4, 5, 6, 7, 8, 9, 10, 11], [0, 1, 2, 3, 4, 5, 6, 7, 8, 9, 10, 11, 12], [0, 1, 2, 3, 4, 5, 6, 7, 8, 9, 10, 11, 12, 13], [0, 1, 2, 3, 4, 5, 6, 7, 8, 9, 10, 11, 12, 13, 14], [0, 1, 2, 3, 4, 5, 6, 7, 8, 9, 10, 11, 12, 13, 14], [0, 1, 2, 3, 4, 5, 6, 7, 8, 9, 10, 11, 12, 13, 14, 15, 16], [0, 1, 2, 3, 4, 5, 6, 7, 8, 9, 10, 11, 12, 13, 14, 15, 16, 17], [0, 1, 2, 3, 4, 5, 6, 7, 8, 9, 10, 11, 12, 13, 14, 15, 16, 17, 18], [0, 1, 2, 3, 4, 5, 6, 7, 8, 9, 10, 11, 12, 13, 14], [0, 1, 2, 3, 4, 5, 6, 7, 8, 9, 10, 11, 12, 13, 14], [0, 1, 2, 3, 4, 5, 6, 7, 8, 9, 10, 11, 12, 13, 14, 21], [0, 1, 2, 3, 4, 5, 6, 7, 8, 9, 10, 11, 12, 13, 14, 20, 21, 22], [0, 1, 2, 3, 4, 5, 6, 7, 8, 9, 10, 11, 12, 13, 14, 20, 21, 22, 23], [0, 1, 2, 3, 4, 5, 6, 7, 8, 9, 10, 11, 12, 13, 14, 20, 21, 22, 23, 24], [0, 1, 2, 3, 4, 5, 6, 7, 8, 9, 10, 11, 12, 13, 14, 15, 16, 17, 18, 19, 20, 21, 22, 23, 24, 25], [0, 1, 2, 3, 4, 5, 6, 7, 8, 9, 10, 11, 12, 13, 14, 15, 16, 17, 18, 19, 20, 21, 22, 23, 24, 25, 26], [0, 1, 2, 3, 4, 5, 6, 7, 8, 9, 10, 11, 12, 13, 14, 15, 16, 17, 18, 19, 20, 21, 22, 23, 24, 25, 26, 27]] (by kernel_rfl) ?_
              refine d_op ?_
              refine x_run0 [(11, pS 3 true eMsg ms)] [] rfl rfl rfl rfl (s_move rfl ⟨rfl, rfl, rfl⟩) ?_
              refine d_op ?_
              refine x_run0 [(14, pN z)] [] rfl rfl rfl rfl (s_move rfl ⟨rfl, rfl, rfl⟩) ?_
              refine d_op ?_
              obtain ⟨e4, he4⟩ := get_of_lt ms (i := z) (by omega)
              refine x_run0 [(95, pS 3 true eMsg ms), (96, pN z)] [0, 1] rfl rfl rfl rfl (s_iaM (q := z) (b := e4) (f := eMsg) tab_39 rfl tab_33 rfl rfl (by omega) rfl he4 ⟨rfl, rfl, rfl⟩) ?_
              refine d_op ?_
              refine x_run0 [(97, PV.f (.ro (eMsg e4)))] [0, 1, 2] rfl rfl rfl rfl (s_fa_ro tab_33 rfl rfl tab_3 (by decide) rfl (Nat.le_of_ble_eq_true rfl) (by intro _; rfl) ⟨rfl, rfl, rfl⟩) ?_
              refine d_op ?_
              refine x_run0 [(98, PV.f (.ro (encI e4.id)))] [0, 1, 2, 3] rfl rfl rfl rfl (s_load_ro1 tab_3 rfl rfl rfl rfl ⟨rfl, rfl, rfl⟩) ?_
              refine d_op ?_
              refine x_run0 [(13, pS 3 true eMsg ms)] [] rfl rfl rfl rfl (s_move rfl ⟨rfl, rfl, rfl⟩) ?_
              refine d_op ?_
              refine x_run0 [(14, pN z)] [] rfl rfl rfl rfl (s_move rfl ⟨rfl, rfl, rfl⟩) ?_
              refine d_op ?_
              refine x_run0 [(100, pS 3 true eMsg ms), (101, pN z)] [5, 6] rfl rfl rfl rfl (s_iaM (q := z) (b := e4) (f := eMsg) tab_39 rfl tab_33 rfl rfl (by omega) rfl he4 ⟨rfl, rfl, rfl⟩) ?_
              refine d_op ?_
              refine x_run0 [(102, PV.f (.ro (eMsg e4)))] [5, 6, 7] rfl rfl rfl rfl (s_fa_ro tab_33 rfl rfl tab_3 (by decide) rfl (Nat.le_of_ble_eq_true rfl) (by intro _; rfl) ⟨rfl, rfl, rfl⟩) ?_
              refine d_op ?_
              refine x_run0 [(103, PV.f (.ro (encI e4.id)))] [5, 6, 7, 8] rfl rfl rfl rfl (s_load_ro1 tab_3 rfl rfl rfl rfl ⟨rfl, rfl, rfl⟩) ?_
              refine d_op ?_
              refine x_run0 [(99, pI e4.id), (104, pI e4.id)] [0, 1, 2, 3, 4, 5, 6, 7, 8, 9] rfl rfl rfl rfl (s_neq rfl rfl ⟨rfl, rfl, rfl⟩) ?_
              refine d_op ?_
              refine x_run0 [(105, pB (!decide (e4.id = e4.id)))] [0, 1, 2, 3, 4, 5, 6, 7, 8, 9, 10] rfl rfl rfl rfl (s_move rfl ⟨rfl, rfl, rfl⟩) ?_
              refine x_if [(106, pB (!decide (e4.id = e4.id))), (14, pN z)] [0, 1, 2, 3, 4, 5, 6, 7, 8, 9, 10, 11] rfl rfl rfl rfl (fun g8 => ?_) (fun g8 => ?_)
              ·
                have g8' := g8
                try simp only [decide_eq_true_eq, decide_eq_false_iff_not, Bool.not_eq_true', Bool.not_eq_false', Bool.not_true, Bool.not_false, Bool.not_eq_eq_eq_not, Int.not_lt, Int.not_le] at g8'
                refine x_run0 [(106, pB (!decide (e4.id = e4.id))), (14, pN z)] [0, 1, 2, 3, 4, 5, 6, 7, 8, 9, 10, 11] rfl rfl rfl rfl (s_move rfl ⟨rfl, rfl, rfl⟩) ?_
                refine x_if [(106, pB (!decide (e4.id = e4.id))), (107, pN z)] [0, 1, 2, 3, 4, 5, 6, 7, 8, 9, 10, 11, 12] rfl rfl rfl rfl (fun _ => ?_) (fun e => absurd (e.symm.trans g8) (by decide))
                refine x_run0 [(106, pB (!decide (e4.id = e4.id))), (107, pN z)] [0, 1, 2, 3, 4, 5, 6, 7, 8, 9, 10, 11, 12] rfl rfl rfl rfl (s_gtr rfl rfl ⟨rfl, rfl, rfl⟩) ?_
                refine x_if [(106, pB (!decide (e4.id = e4.id))), (108, pB (decide (0 < ((z : Nat) : Int))))] [0, 1, 2, 3, 4, 5, 6, 7, 8, 9, 10, 11, 12, 13] rfl rfl rfl rfl (fun _ => ?_) (fun e => absurd (e.symm.trans g8) (by decide))
                refine x_run0 [(106, pB (!decide (e4.id = e4.id))), (108, pB (decide (0 < ((z : Nat) : Int))))] [0, 1, 2, 3, 4, 5, 6, 7, 8, 9, 10, 11, 12, 13] rfl rfl rfl rfl (s_move rfl ⟨rfl, rfl, rfl⟩) ?_
                refine x_if [(109, pB (decide (0 < ((z : Nat) : Int)))), (11, pS 3 true eMsg ms)] [0, 1, 2, 3, 4, 5, 6, 7, 8, 9, 10, 11, 12, 13, 14] rfl rfl rfl rfl (fun g9 => ?_) (fun g9 => ?_)
                ·
                  have g9' := g9
                  try simp only [decide_eq_true_eq, decide_eq_false_iff_not, Bool.not_eq_true', Bool.not_eq_false', Bool.not_true, Bool.not_false, Bool.not_eq_eq_eq_not, Int.not_lt, Int.not_le] at g9'
                  refine x_run0 [(109, pB (decide (0 < ((z : Nat) : Int)))), (11, pS 3 true eMsg ms)] [0, 1, 2, 3, 4, 5, 6, 7, 8, 9, 10, 11, 12, 13, 14] rfl rfl rfl rfl (s_move rfl ⟨rfl, rfl, rfl⟩) ?_
                  refine x_if [(109, pB (decide (0 < ((z : Nat) : Int)))), (14, pN z)] [0, 1, 2, 3, 4, 5, 6, 7, 8, 9, 10, 11, 12, 13, 14] rfl rfl rfl rfl (fun _ => ?_) (fun e => absurd (e.symm.trans g9) (by decide))
                  refine x_run0 [(109, pB (decide (0 < ((z : Nat) : Int)))), (14, pN z)] [0, 1, 2, 3, 4, 5, 6, 7, 8, 9, 10, 11, 12, 13, 14] rfl rfl rfl rfl (s_move rfl ⟨rfl, rfl, rfl⟩) ?_
                  refine x_if [(109, pB (decide (0 < ((z : Nat) : Int)))), (110, pS 3 true eMsg ms), (111, pN z)] [0, 1, 2, 3, 4, 5, 6, 7, 8, 9, 10, 11, 12, 13, 14, 15, 16] rfl rfl rfl rfl (fun _ => ?_) (fun e => absurd (e.symm.trans g9) (by decide))
                  refine x_run0 [(109, pB (decide (0 < ((z : Nat) : Int)))), (110, pS 3 true eMsg ms), (111, pN z)] [0, 1, 2, 3, 4, 5, 6, 7, 8, 9, 10, 11, 12, 13, 14, 15, 16] rfl rfl rfl rfl (s_iaM (q := z) (b := e4) (f := eMsg) tab_39 rfl tab_33 rfl rfl (by omega) rfl he4 ⟨rfl, rfl, rfl⟩) ?_
                  refine x_if [(109, pB (decide (0 < ((z : Nat) : Int)))), (112, PV.f (.ro (eMsg e4)))] [0, 1, 2, 3, 4, 5, 6, 7, 8, 9, 10, 11, 12, 13, 14, 15, 16, 17] rfl rfl rfl rfl (fun _ => ?_) (fun e => absurd (e.symm.trans g9) (by decide))
                  refine x_run0 [(109, pB (decide (0 < ((z : Nat) : Int)))), (112, PV.f (.ro (eMsg e4)))] [0, 1, 2, 3, 4, 5, 6, 7, 8, 9, 10, 11, 12, 13, 14, 15, 16, 17] rfl rfl rfl rfl (s_fa_ro tab_33 rfl rfl tab_3 (by decide) rfl (Nat.le_of_ble_eq_true rfl) (by intro _; rfl) ⟨rfl, rfl, rfl⟩) ?_
                  refine x_if [(109, pB (decide (0 < ((z : Nat) : Int)))), (113, PV.f (.ro (encI e4.id)))] [0, 1, 2, 3, 4, 5, 6, 7, 8, 9, 10, 11, 12, 13, 14, 15, 16, 17, 18] rfl rfl rfl rfl (fun _ => ?_) (fun e => absurd (e.symm.trans g9) (by decide))
                  refine x_run0 [(109, pB (decide (0 < ((z : Nat) : Int)))), (113, PV.f (.ro (encI e4.id)))] [0, 1, 2, 3, 4, 5, 6, 7, 8, 9, 10, 11, 12, 13, 14, 15, 16, 17, 18] rfl rfl rfl rfl (s_load_ro1 tab_3 rfl rfl rfl rfl ⟨rfl, rfl, rfl⟩) ?_
                  refine x_if [(109, pB (decide (0 < ((z : Nat) : Int)))), (11, pS 3 true eMsg ms)] [0, 1, 2, 3, 4, 5, 6, 7, 8, 9, 10, 11, 12, 13, 14] rfl rfl rfl rfl (fun _ => ?_) (fun e => absurd (e.symm.trans g9) (by decide))
                  refine x_run0 [(109, pB (decide (0 < ((z : Nat) : Int)))), (11, pS 3 true eMsg ms)] [0, 1, 2, 3, 4, 5, 6, 7, 8, 9, 10, 11, 12, 13, 14] rfl rfl rfl rfl (s_move rfl ⟨rfl, rfl, rfl⟩) ?_
                  refine x_if [(109, pB (decide (0 < ((z : Nat) : Int)))), (14, pN z)] [0, 1, 2, 3, 4, 5, 6, 7, 8, 9, 10, 11, 12, 13, 14] rfl rfl rfl rfl (fun _ => ?_) (fun e => absurd (e.symm.trans g9) (by decide))
                  refine x_run0 [(109, pB (decide (0 < ((z : Nat) : Int)))), (14, pN z)] [0, 1, 2, 3, 4, 5, 6, 7, 8, 9, 10, 11, 12, 13, 14] rfl rfl rfl rfl (s_move rfl ⟨rfl, rfl, rfl⟩) ?_
                  refine x_if [(109, pB (decide (0 < ((z : Nat) : Int)))), (116, pN z)] [0, 1, 2, 3, 4, 5, 6, 7, 8, 9, 10, 11, 12, 13, 14, 21] rfl rfl rfl rfl (fun _ => ?_) (fun e => absurd (e.symm.trans g9) (by decide))
                  refine x_run0 [(109, pB (decide (0 < ((z : Nat) : Int)))), (116, pN z)] [0, 1, 2, 3, 4, 5, 6, 7, 8, 9, 10, 11, 12, 13, 14, 21] rfl rfl rfl rfl (s_subN (a := z) (b := 1) rfl rfl (by omega) (by omega) (by omega) ⟨rfl, rfl, rfl⟩) ?_
                  refine x_if [(109, pB (decide (0 < ((z : Nat) : Int)))), (115, pS 3 true eMsg ms), (117, pN (z - 1))] [0, 1, 2, 3, 4, 5, 6, 7, 8, 9, 10, 11, 12, 13, 14, 20, 21, 22] rfl rfl rfl rfl (fun _ => ?_) (fun e => absurd (e.symm.trans g9) (by decide))
                  obtain ⟨e5, he5⟩ := get_of_lt ms (i := z - 1) (by omega)
                  refine x_run0 [(109, pB (decide (0 < ((z : Nat) : Int)))), (115, pS 3 true eMsg ms), (117, pN (z - 1))] [0, 1, 2, 3, 4, 5, 6, 7, 8, 9, 10, 11, 12, 13, 14, 20, 21, 22] rfl rfl rfl rfl (s_iaM (q := z - 1) (b := e5) (f := eMsg) tab_39 rfl tab_33 rfl rfl (by omega) rfl he5 ⟨rfl, rfl, rfl⟩) ?_
                  refine x_if [(109, pB (decide (0 < ((z : Nat) : Int)))), (118, PV.f (.ro (eMsg e5)))] [0, 1, 2, 3, 4, 5, 6, 7, 8, 9, 10, 11, 12, 13, 14, 20, 21, 22, 23] rfl rfl rfl rfl (fun _ => ?_) (fun e => absurd (e.symm.trans g9) (by decide))
                  refine x_run0 [(109, pB (decide (0 < ((z : Nat) : Int)))), (118, PV.f (.ro (eMsg e5)))] [0, 1, 2, 3, 4, 5, 6, 7, 8, 9, 10, 11, 12, 13, 14, 20, 21, 22, 23] rfl rfl rfl rfl (s_fa_ro tab_33 rfl rfl tab_3 (by decide) rfl (Nat.le_of_ble_eq_true rfl) (by intro _; rfl) ⟨rfl, rfl, rfl⟩) ?_
                  refine x_if [(109, pB (decide (0 < ((z : Nat) : Int)))), (119, PV.f (.ro (encI e5.id)))] [0, 1, 2, 3, 4, 5, 6, 7, 8, 9, 10, 11, 12, 13, 14, 20, 21, 22, 23, 24] rfl rfl rfl rfl (fun _ => ?_) (fun e => absurd (e.symm.trans g9) (by decide))
                  refine x_run0 [(109, pB (decide (0 < ((z : Nat) : Int)))), (119, PV.f (.ro (encI e5.id)))] [0, 1, 2, 3, 4, 5, 6, 7, 8, 9, 10, 11, 12, 13, 14, 20, 21, 22, 23, 24] rfl rfl rfl rfl (s_load_ro1 tab_3 rfl rfl rfl rfl ⟨rfl, rfl, rfl⟩) ?_
                  refine x_if [(109, pB (decide (0 < ((z : Nat) : Int)))), (114, pI e4.id), (120, pI e5.id)] [0, 1, 2, 3, 4, 5, 6, 7, 8, 9, 10, 11, 12, 13, 14, 15, 16, 17, 18, 19, 20, 21, 22, 23, 24, 25] rfl rfl rfl rfl (fun _ => ?_) (fun e => absurd (e.symm.trans g9) (by decide))
                  refine x_run0 [(109, pB (decide (0 < ((z : Nat) : Int)))), (114, pI e4.id), (120, pI e5.id)] [0, 1, 2, 3, 4, 5, 6, 7, 8, 9, 10, 11, 12, 13, 14, 15, 16, 17, 18, 19, 20, 21, 22, 23, 24, 25] rfl rfl rfl rfl (s_leq rfl rfl ⟨rfl, rfl, rfl⟩) ?_
                  refine x_if [(106, pB (!decide (e4.id = e4.id))), (109, pB (decide (0 < ((z : Nat) : Int)))), (121, pB (decide (e4.id ≤ e5.id)))] [0, 1, 2, 3, 4, 5, 6, 7, 8, 9, 10, 11, 12, 13, 14, 15, 16, 17, 18, 19, 20, 21, 22, 23, 24, 25, 26] rfl rfl rfl rfl (fun _ => ?_) (fun e => absurd (e.symm.trans g8) (by decide))
                  refine x_run0 [(106, pB (!decide (e4.id = e4.id))), (109, pB (decide (0 < ((z : Nat) : Int)))), (121, pB (decide (e4.id ≤ e5.id)))] [0, 1, 2, 3, 4, 5, 6, 7, 8, 9, 10, 11, 12, 13, 14, 15, 16, 17, 18, 19, 20, 21, 22, 23, 24, 25, 26] rfl rfl rfl rfl (s_pick_t rfl g9 rfl ⟨rfl, rfl, rfl⟩) ?_
                  refine d_op ?_
                  refine x_run0 [(106, pB (!decide (e4.id = e4.id))), (122, pB (decide (e4.id ≤ e5.id)))] [0, 1, 2, 3, 4, 5, 6, 7, 8, 9, 10, 11, 12, 13, 14, 15, 16, 17, 18, 19, 20, 21, 22, 23, 24, 25, 26, 27] rfl rfl rfl rfl (s_pick_f rfl g8 rfl ⟨rfl, rfl, rfl⟩) ?_
                  refine d_end ⟨by kernel_rfl, ?_⟩
                  refine q_then ?_
                  refine w_if rfl (fun c8 => ?_) (fun c8 => ?_)
                  ·
                    have c8_ := c8
                    exact absurd c8 (by exact not_dec2 (by have := pair_lt hasc (i := z - 1) (by assumption) (by rw [Nat.sub_add_cancel (by omega)]; assumption); omega))
                  ·
                    have c8_ := c8
                    try simp only [decide_eq_true_eq, decide_eq_false_iff_not, Bool.not_eq_true', Bool.not_eq_false', Bool.not_true, Bool.not_false, Bool.not_eq_eq_eq_not, Int.not_lt, Int.not_le] at c8
                    refine w_skip ?_
                    refine q_block ?_
                    refine q_then ?_
                    refine w_R ?_
                    refine r_op tabOk hnt rfl (s_addN (a := z) (b := 1) rfl rfl (by omega) (by omega) (by omega) ?_) 
                    refine r_op tabOk hnt rfl (s_move rfl ?_) 
                    refine r_end ?_
                    refine q_then ?_
                    refine ⟨(z + 1), ?_, ?_, ⟨[], rfl, ⟨⟨_, rfl, rfl, rfl⟩, ⟨_, rfl, rfl, rfl⟩, ⟨_, rfl, rfl, rfl⟩, ⟨_, rfl, rfl, rfl⟩, trivial⟩, trivial, by rw [hk]; decide⟩⟩
                    ·
                      omega
                    · omega
                ·
                  have g9' := g9
                  try simp only [decide_eq_true_eq, decide_eq_false_iff_not, Bool.not_eq_true', Bool.not_eq_false', Bool.not_true, Bool.not_false, Bool.not_eq_eq_eq_not, Int.not_lt, Int.not_le] at g9'
                  refine x_if [(109, pB (decide (0 < ((z : Nat) : Int)))), (14, pN z)] [0, 1, 2, 3, 4, 5, 6, 7, 8, 9, 10, 11, 12, 13, 14] rfl rfl rfl rfl (fun e => absurd (e.symm.trans g9) (by decide)) (fun _ => ?_)
                  refine x_if [(109, pB (decide (0 < ((z : Nat) : Int)))), (110, undefP), (111, undefP)] [0, 1, 2, 3, 4, 5, 6, 7, 8, 9, 10, 11, 12, 13, 14, 15, 16] rfl rfl rfl rfl (fun e => absurd (e.symm.trans g9) (by decide)) (fun _ => ?_)
                  refine x_if [(109, pB (decide (0 < ((z : Nat) : Int)))), (112, undefP)] [0, 1, 2, 3, 4, 5, 6, 7, 8, 9, 10, 11, 12, 13, 14, 15, 16, 17] rfl rfl rfl rfl (fun e => absurd (e.symm.trans g9) (by decide)) (fun _ => ?_)
                  refine x_if [(109, pB (decide (0 < ((z : Nat) : Int)))), (113, undefP)] [0, 1, 2, 3, 4, 5, 6, 7, 8, 9, 10, 11, 12, 13, 14, 15, 16, 17, 18] rfl rfl rfl rfl (fun e => absurd (e.symm.trans g9) (by decide)) (fun _ => ?_)
                  refine x_if [(109, pB (decide (0 < ((z : Nat) : Int)))), (11, pS 3 true eMsg ms)] [0, 1, 2, 3, 4, 5, 6, 7, 8, 9, 10, 11, 12, 13, 14] rfl rfl rfl rfl (fun e => absurd (e.symm.trans g9) (by decide)) (fun _ => ?_)
                  refine x_if [(109, pB (decide (0 < ((z : Nat) : Int)))), (14, pN z)] [0, 1, 2, 3, 4, 5, 6, 7, 8, 9, 10, 11, 12, 13, 14] rfl rfl rfl rfl (fun e => absurd (e.symm.trans g9) (by decide)) (fun _ => ?_)
                  refine x_if [(109, pB (decide (0 < ((z : Nat) : Int)))), (116, undefP)] [0, 1, 2, 3, 4, 5, 6, 7, 8, 9, 10, 11, 12, 13, 14, 21] rfl rfl rfl rfl (fun e => absurd (e.symm.trans g9) (by decide)) (fun _ => ?_)
                  refine x_if [(109, pB (decide (0 < ((z : Nat) : Int)))), (115, undefP), (117, undefP)] [0, 1, 2, 3, 4, 5, 6, 7, 8, 9, 10, 11, 12, 13, 14, 20, 21, 22] rfl rfl rfl rfl (fun e => absurd (e.symm.trans g9) (by decide)) (fun _ => ?_)
                  refine x_if [(109, pB (decide (0 < ((z : Nat) : Int)))), (118, undefP)] [0, 1, 2, 3, 4, 5, 6, 7, 8, 9, 10, 11, 12, 13, 14, 20, 21, 22, 23] rfl rfl rfl rfl (fun e => absurd (e.symm.trans g9) (by decide)) (fun _ => ?_)
                  refine x_if [(109, pB (decide (0 < ((z : Nat) : Int)))), (119, undefP)] [0, 1, 2, 3, 4, 5, 6, 7, 8, 9, 10, 11, 12, 13, 14, 20, 21, 22, 23, 24] rfl rfl rfl rfl (fun e => absurd (e.symm.trans g9) (by decide)) (fun _ => ?_)
                  refine x_if [(109, pB (decide (0 < ((z : Nat) : Int)))), (114, undefP), (120, undefP)] [0, 1, 2, 3, 4, 5, 6, 7, 8, 9, 10, 11, 12, 13, 14, 15, 16, 17, 18, 19, 20, 21, 22, 23, 24, 25] rfl rfl rfl rfl (fun e => absurd (e.symm.trans g9) (by decide)) (fun _ => ?_)
                  refine x_if [(106, pB (!decide (e4.id = e4.id))), (109, pB (decide (0 < ((z : Nat) : Int)))), (121, undefP)] [0, 1, 2, 3, 4, 5, 6, 7, 8, 9, 10, 11, 12, 13, 14, 15, 16, 17, 18, 19, 20, 21, 22, 23, 24, 25, 26] rfl rfl rfl rfl (fun _ => ?_) (fun e => absurd (e.symm.trans g8) (by decide))
                  refine x_run0 [(106, pB (!decide (e4.id = e4.id))), (109, pB (decide (0 < ((z : Nat) : Int)))), (121, undefP)] [0, 1, 2, 3, 4, 5, 6, 7, 8, 9, 10, 11, 12, 13, 14, 15, 16, 17, 18, 19, 20, 21, 22, 23, 24, 25, 26] rfl rfl rfl rfl (s_pick_f rfl g9 rfl ⟨rfl, rfl, rfl⟩) ?_
                  refine d_op ?_
                  refine x_run0 [(106, pB (!decide (e4.id = e4.id))), (122, pB false)] [0, 1, 2, 3, 4, 5, 6, 7, 8, 9, 10, 11, 12, 13, 14, 15, 16, 17, 18, 19, 20, 21, 22, 23, 24, 25, 26, 27] rfl rfl rfl rfl (s_pick_f rfl g8 rfl ⟨rfl, rfl, rfl⟩) ?_
                  refine d_end ⟨by kernel_rfl, ?_⟩
                  refine q_then ?_
                  refine w_if rfl (fun e => absurd e (by decide)) (fun _ => ?_)
                  refine w_skip ?_
                  refine q_block ?_
                  refine q_then ?_
                  refine w_R ?_
                  refine r_op tabOk hnt rfl (s_addN (a := z) (b := 1) rfl rfl (by omega) (by omega) (by omega) ?_) 
                  refine r_op tabOk hnt rfl (s_move rfl ?_) 
                  refine r_end ?_
                  refine q_then ?_
                  refine ⟨(z + 1), ?_, ?_, ⟨[], rfl, ⟨⟨_, rfl, rfl, rfl⟩, ⟨_, rfl, rfl, rfl⟩, ⟨_, rfl, rfl, rfl⟩, ⟨_, rfl, rfl, rfl⟩, trivial⟩, trivial, by rw [hk]; decide⟩⟩
                  ·
                    omega
                  · omega
              ·
                exact absurd g8 (by exact not_dec1 rfl)
            ·
              have c7_ := c7
              try simp only [decide_eq_true_eq, decide_eq_false_iff_not, Bool.not_eq_true', Bool.not_eq_false', Bool.not_true, Bool.not_false, Bool.not_eq_eq_eq_not, Int.not_lt, Int.not_le] at c7
              refine w_exit ?_
              refine q_then_exit ?_
              refine q_then_exit ?_
              refine q_block_exit ?_
              refine q_then ?_
              refine w_seq ?_
              refine w_R ?_
              refine r_op tabOk hnt rfl (s_callF rfl rfl rfl (w_burgagelaw20_known) rfl ?_) 
              refine r_op tabOk hnt rfl (s_assign rfl ?_) 
              refine r_end ?_
              refine q_then ?_
              refine w_ret ?_
              exact fin_plain (ret_tmp rfl ret_nil) rfl rfl ⟨rfl, rfl, rfl⟩
        ·
          exact absurd g7 (by exact not_dec1 rfl)
      ·
        exact absurd g6 (by exact not_dec1 (by omega))

theorem w_burgagelaw20_QuotaNumbers   :
    T Try.prog 3 [] 0 [] (Ret (pB true) 0 []) := by
  refine t_fun tabOk (n := 56) (rs := [.tmp 0]) Try.func3 rfl rfl rfl rfl (Nat.le_of_ble_eq_true rfl) ?_
  intro c hnt hk
  refine w_seq ?_
  refine w_R ?_
  refine r_op tabOk hnt rfl (s_assign rfl ?_) 
  refine r_end ?_
  refine q_then ?_
  refine w_seq ?_
  refine w_seq ?_
  refine w_R ?_
  refine r_op tabOk hnt rfl (s_assign rfl ?_) 
  refine r_end ?_
  refine q_then ?_
  refine w_block ?_
  refine loop1 (fun (k : Int) => -1 ≤ k ∧ k ≤ 30) (fun (k : Int) => [(1, pI k)]) 0 (fun (k : Int) => []) (fun (k : Int) => (30 - k).toNat) ((-1)) ?_ ⟨[], rfl, ⟨⟨_, rfl, rfl, rfl⟩, trivial⟩, trivial, by rw [hk]; decide⟩ ?_
  · omega
  ·
    intro k hI
    refine w_seq ?_
    refine w_seq ?_
    refine w_R ?_
    refine r_op tabOk hnt rfl (s_move rfl ?_) 
    refine r_op tabOk hnt rfl (s_lss rfl rfl ?_) 
    refine r_end ?_
    refine q_then ?_
    refine w_if rfl (fun c1 => ?_) (fun c1 => ?_)
    ·
      have c1_ := c1
      try simp only [decide_eq_true_eq, decide_eq_false_iff_not, Bool.not_eq_true', Bool.not_eq_false', Bool.not_true, Bool.not_false, Bool.not_eq_eq_eq_not, Int.not_lt, Int.not_le] at c1
      refine w_skip ?_
      refine q_then ?_
      refine w_seq ?_
      refine w_block ?_
      refine w_seq ?_
      refine w_R ?_
      refine r_op tabOk hnt rfl (s_assign rfl ?_) 
      refine r_op tabOk hnt rfl (s_assign rfl ?_) 
      refine r_end ?_
      refine q_then ?_
      refine w_seq ?_
      refine w_seq ?_
      refine w_R ?_
      refine r_op tabOk hnt rfl (s_assign rfl ?_) 
      refine r_end ?_
      refine q_then ?_
      refine w_block ?_
      refine w_adopt (s := 2) (sz := 3) rfl ?_
      refine w_adopt (s := 3) (sz := 3) rfl ?_
      refine loop3 (fun (lm : List TAsk) (mm : List TAsk) (i : Nat) => i ≤ 90 ∧ lm.length = i ∧ mm.length = i ∧ (∀ a ∈ lm, a.pdu.length ≤ 1) ∧ ∀ a ∈ mm, a.pdu.length ≤ 1) (fun (lm : List TAsk) (mm : List TAsk) (i : Nat) => [(1, pI k), (2, PV.ref 0 0 none), (3, PV.ref 1 0 none), (4, pN i)]) 2 (fun (lm : List TAsk) (mm : List TAsk) (i : Nat) => [(0, oB true 3 eAsk lm), (1, oB true 3 eAsk mm)]) (fun (lm : List TAsk) (mm : List TAsk) (i : Nat) => 90 - i) (([] : List TAsk)) (([] : List TAsk)) (0) ?_ ⟨[(0, 0), (1, 1)], by rw [hk]; decide, ⟨⟨_, rfl, rfl, rfl⟩, ⟨_, rfl, rfl, rfl⟩, ⟨_, rfl, rfl, rfl⟩, ⟨_, rfl, rfl, rfl⟩, trivial⟩, ⟨⟨_, _, rfl, rfl, rfl, rfl⟩, ⟨_, _, rfl, rfl, rfl, rfl⟩, trivial⟩, by rw [hk]; decide⟩ ?_
      · simp
      ·
        intro lm mm i hI
        obtain ⟨hi, hl1, hl2, hp1, hp2⟩ := hI
        refine w_seq ?_
        refine w_seq ?_
        refine w_R ?_
        refine r_op tabOk hnt rfl (s_move rfl ?_) 
        refine r_op tabOk hnt rfl (s_lss rfl rfl ?_) 
        refine r_end ?_
        refine q_then ?_
        refine w_if rfl (fun c2 => ?_) (fun c2 => ?_)
        ·
          have c2_ := c2
          try simp only [decide_eq_true_eq, decide_eq_false_iff_not, Bool.not_eq_true', Bool.not_eq_false', Bool.not_true, Bool.not_false, Bool.not_eq_eq_eq_not, Int.not_lt, Int.not_le] at c2
          refine w_skip ?_
          refine q_then ?_
          refine w_seq ?_
          refine w_block ?_
          refine w_seq ?_
          have hk1 : k * (i : Int) ≤ 30 * i := Int.mul_le_mul_of_nonneg_right (by omega) (by omega)
          have hk2 : (-1) * (i : Int) ≤ k * i := Int.mul_le_mul_of_nonneg_right (by omega) (by omega)
          have hii : i * i ≤ 90 * 90 := Nat.mul_le_mul (by omega) (by omega)
          have hiz : ((i * i : Nat) : Int) ≤ 8100 := by omega
          refine w_R ?_
          refine r_op tabOk hnt rfl (s_move rfl ?_) 
          refine r_op tabOk hnt rfl (s_move rfl ?_) 
          refine r_op tabOk hnt rfl (s_move rfl ?_) 
          refine r_op tabOk hnt rfl (s_mulN (a := i) (b := i) rfl rfl (by omega) (by omega) (by omega) ?_) 
          refine r_op tabOk hnt rfl (s_move rfl ?_) 
          refine r_op tabOk hnt rfl (s_move rfl ?_) 
          refine r_op tabOk hnt rfl (s_muli (r := k * ((i : Nat) : Int)) rfl rfl rfl (by omega) ?_) 
          refine r_op tabOk hnt rfl (s_addi (r := ((i * i : Nat) : Int) + (k * ((i : Nat) : Int))) rfl rfl rfl (by omega) ?_) 
          refine r_op tabOk hnt rfl (s_addi (r := (((i * i : Nat) : Int) + (k * ((i : Nat) : Int))) + 7) rfl rfl rfl (by omega) ?_) 
          refine r_op tabOk hnt rfl (s_rem rfl rfl (by first | decide | omega) ?_) 
          refine r_op tabOk hnt rfl (s_move rfl ?_) 
          refine r_op tabOk hnt rfl (s_move rfl ?_) 
          refine r_op tabOk hnt rfl (s_cv8N (a := i) tab_3 tab_5 rfl rfl rfl (by omega) ?_) 
          refine r_op tabOk hnt rfl (s_mkM (f := enc8) [UInt8.ofNat i] tab_23 rfl tab_5 ⟨rfl, by decide⟩ (by decide) rfl rfl rfl rfl ?_) 
          refine r_op tabOk hnt rfl (s_build tab_25 rfl rfl (b_cons rfl tab_3 rfl rfl rfl (Nat.le_of_ble_eq_true rfl) (b_cons rfl tab_3 rfl rfl rfl (Nat.le_of_ble_eq_true rfl) (b_cons rfl tab_23 rfl rfl rfl (Nat.le_of_ble_eq_true rfl) (b_nil ?_))))) 
          refine r_op tabOk hnt rfl (s_mkM (f := eAsk) [(⟨Int.tmod ((((i * i : Nat) : Int) + (k * ((i : Nat) : Int))) + 7) 5, ((i : Nat) : Int), [UInt8.ofNat i]⟩ : TAsk)] tab_22 rfl tab_25 ⟨rfl, by decide⟩ (by decide) rfl rfl rfl rfl ?_) 
          refine r_op tabOk hnt rfl (s_appR0 (f := eAsk) (l := lm) (xs := [(⟨Int.tmod ((((i * i : Nat) : Int) + (k * ((i : Nat) : Int))) + 7) 5, ((i : Nat) : Int), [UInt8.ofNat i]⟩ : TAsk)]) tab_22 rfl tab_25 ⟨rfl, by decide, by decide⟩ (srcM tab_22 rfl (hM_ref0 (f := eAsk) rfl rfl)) rfl rfl (by first | omega | (simp; omega)) ?_) 
          refine r_op tabOk hnt rfl (s_assign rfl ?_) 
          refine r_set [(1, pI k), (2, PV.ref 4 0 none), (3, PV.ref 1 0 none), (4, pN i)] [(4, oB true 3 eAsk (lm ++ ([(⟨Int.tmod ((((i * i : Nat) : Int) + (k * ((i : Nat) : Int))) + 7) 5, ((i : Nat) : Int), [UInt8.ofNat i]⟩ : TAsk)]))), (3, oB true 3 eAsk ([(⟨Int.tmod ((((i * i : Nat) : Int) + (k * ((i : Nat) : Int))) + 7) 5, ((i : Nat) : Int), [UInt8.ofNat i]⟩ : TAsk)])), (2, oB false 1 enc8 [UInt8.ofNat i]), (1, oB true 3 eAsk mm)] 5 ⟨rfl, rfl, rfl, rfl, trivial⟩ rfl rfl ?_
          refine r_end ?_
          refine q_then ?_
          refine w_R ?_
          refine r_op tabOk hnt rfl (s_move rfl ?_) 
          refine r_op tabOk hnt rfl (s_move rfl ?_) 
          refine r_op tabOk hnt rfl (s_build tab_25 rfl rfl (b_cons rfl tab_3 rfl rfl rfl (Nat.le_of_ble_eq_true rfl) (b_nil ?_))) 
          refine r_le (s := 32) (y := PV.f (eAsk (⟨0, ((i : Nat) : Int), []⟩ : TAsk))) rfl (le_F (FLe.agg ⟨FLe.refl _, FLe.refl _, FLe.nil 1 false, trivial⟩)) ?_
          refine r_op tabOk hnt rfl (s_mkM (f := eAsk) [(⟨0, ((i : Nat) : Int), []⟩ : TAsk)] tab_22 rfl tab_25 ⟨rfl, by decide⟩ (by decide) rfl rfl rfl rfl ?_) 
          refine r_op tabOk hnt rfl (s_appR0 (f := eAsk) (l := mm) (xs := [(⟨0, ((i : Nat) : Int), []⟩ : TAsk)]) tab_22 rfl tab_25 ⟨rfl, by decide, by decide⟩ (srcM tab_22 rfl (hM_ref0 (f := eAsk) rfl rfl)) rfl rfl (by first | omega | (simp; omega)) ?_) 
          refine r_op tabOk hnt rfl (s_assign rfl ?_) 
          refine r_set [(1, pI k), (2, PV.ref 4 0 none), (3, PV.ref 6 0 none), (4, pN i)] [(6, oB true 3 eAsk (mm ++ ([(⟨0, ((i : Nat) : Int), []⟩ : TAsk)]))), (5, oB true 3 eAsk ([(⟨0, ((i : Nat) : Int), []⟩ : TAsk)])), (4, oB true 3 eAsk (lm ++ ([(⟨Int.tmod ((((i * i : Nat) : Int) + (k * ((i : Nat) : Int))) + 7) 5, ((i : Nat) : Int), [UInt8.ofNat i]⟩ : TAsk)]))), (3, oB true 3 eAsk ([(⟨Int.tmod ((((i * i : Nat) : Int) + (k * ((i : Nat) : Int))) + 7) 5, ((i : Nat) : Int), [UInt8.ofNat i]⟩ : TAsk)])), (2, oB false 1 enc8 [UInt8.ofNat i])] 7 ⟨rfl, rfl, rfl, rfl, trivial⟩ rfl rfl ?_
          refine r_end ?_
          refine q_block ?_
          refine q_then ?_
          refine w_R ?_
          refine r_op tabOk hnt rfl (s_move rfl ?_) 
          refine r_op tabOk hnt rfl (s_addN (a := i) (b := 1) rfl rfl (by omega) (by omega) (by omega) ?_) 
          refine r_op tabOk hnt rfl (s_assign rfl ?_) 
          refine r_end ?_
          refine q_then ?_
          refine ⟨(lm ++ ([(⟨Int.tmod ((((i * i : Nat) : Int) + (k * ((i : Nat) : Int))) + 7) 5, ((i : Nat) : Int), [UInt8.ofNat i]⟩ : TAsk)])), (mm ++ ([(⟨0, ((i : Nat) : Int), []⟩ : TAsk)])), (i + 1), ?_, ?_, ⟨[(0, 4), (1, 6)], by rw [hk]; decide, ⟨⟨_, rfl, rfl, rfl⟩, ⟨_, rfl, rfl, rfl⟩, ⟨_, rfl, rfl, rfl⟩, ⟨_, rfl, rfl, rfl⟩, trivial⟩, ⟨⟨_, _, rfl, rfl, rfl, rfl⟩, ⟨_, _, rfl, rfl, rfl, rfl⟩, trivial⟩, by rw [hk]; decide⟩⟩
          ·
            refine ⟨by omega, by simp [hl1], by simp [hl2], fun a ha => ?_, fun a ha => ?_⟩
            · rcases List.mem_append.1 ha with h | h
              · exact hp1 a h
              · simp at h; subst h; simp
            · rcases List.mem_append.1 ha with h | h
              · exact hp2 a h
              · simp at h; subst h; simp
          · omega
        ·
          have c2_ := c2
          try simp only [decide_eq_true_eq, decide_eq_false_iff_not, Bool.not_eq_true', Bool.not_eq_false', Bool.not_true, Bool.not_false, Bool.not_eq_eq_eq_not, Int.not_lt, Int.not_le] at c2
          refine w_exit ?_
          refine q_then_exit ?_
          refine q_then_exit ?_
          refine q_block_exit ?_
          refine q_then ?_
          refine w_seq ?_
          refine w_R ?_
          refine r_op tabOk hnt rfl (s_move rfl ?_) 
          refine r_op tabOk hnt rfl (s_move rfl ?_) 
          refine r_op tabOk hnt rfl (s_callX (r2 := pB true) (nx1 := 2) (H2 := [(0, oB false 3 eAsk lm), (1, oB true 3 eAsk mm)]) (H3 := [(0, oB false 3 eAsk lm), (1, oB true 3 eAsk mm)]) [] [] rfl rfl rfl (handed_of (by decide) trivial) rfl rfl rfl rfl rfl rfl (w_burgagelaw20_play k lm false (by omega) (by intro a ha; have := hp1 a ha; omega)) rfl (dist_of rfl) rfl rfl rfl rfl ?_) 
          refine r_op tabOk hnt rfl (s_not rfl ?_) 
          refine r_op tabOk hnt rfl (s_move rfl ?_) 
          refine r_if tabOk hnt rfl rfl rfl (fun _ => ?_) (fun e => absurd e (by decide))
          refine r_op tabOk hnt rfl (s_move rfl ?_) 
          refine r_if tabOk hnt rfl rfl rfl (fun _ => ?_) (fun e => absurd e (by decide))
          refine r_op tabOk hnt rfl (s_muli (r := k * 3) rfl rfl rfl (by omega) ?_) 
          refine r_if tabOk hnt rfl rfl rfl (fun _ => ?_) (fun e => absurd e (by decide))
          refine r_op tabOk hnt rfl (s_move rfl ?_) 
          refine r_if tabOk hnt rfl rfl rfl (fun _ => ?_) (fun e => absurd e (by decide))
          refine r_op tabOk hnt rfl (s_callX (r2 := pB true) (nx1 := 2) (H2 := [(1, oB false 3 eAsk mm), (0, oB false 3 eAsk lm)]) (H3 := [(1, oB false 3 eAsk mm), (0, oB false 3 eAsk lm)]) [] [] rfl rfl rfl (handed_of (by decide) trivial) rfl rfl rfl rfl rfl rfl (w_burgagelaw20_play (k * 3) mm false (by omega) (by intro a ha; have := hp2 a ha; omega)) rfl (dist_of rfl) rfl rfl rfl rfl ?_) 
          refine r_if tabOk hnt rfl rfl rfl (fun _ => ?_) (fun e => absurd e (by decide))
          refine r_op tabOk hnt rfl (s_not rfl ?_) 
          refine r_op tabOk hnt rfl (s_pick_f rfl rfl rfl ?_) 
          refine r_set [(1, pI k), (45, pB (!true))] [(1, oB false 3 eAsk mm), (0, oB false 3 eAsk lm)] 2 ⟨rfl, rfl, trivial⟩ rfl rfl ?_
          refine r_end ?_
          refine q_then ?_
          refine w_if rfl (fun e => absurd e (by decide)) (fun _ => ?_)
          refine w_skip ?_
          refine q_block ?_
          refine q_then ?_
          refine w_R ?_
          refine r_op tabOk hnt rfl (s_move rfl ?_) 
          refine r_op tabOk hnt rfl (s_addi (r := k + 1) rfl rfl rfl (by omega) ?_) 
          refine r_op tabOk hnt rfl (s_assign rfl ?_) 
          refine r_end ?_
          refine q_then ?_
          refine ⟨(k + 1), ?_, ?_, ⟨[], rfl, ⟨⟨_, rfl, rfl, rfl⟩, trivial⟩, trivial, by rw [hk]; decide⟩⟩
          ·
            omega
          · omega
    ·
      have c1_ := c1
      try simp only [decide_eq_true_eq, decide_eq_false_iff_not, Bool.not_eq_true', Bool.not_eq_false', Bool.not_true, Bool.not_false, Bool.not_eq_eq_eq_not, Int.not_lt, Int.not_le] at c1
      refine w_exit ?_
      refine q_then_exit ?_
      refine q_then_exit ?_
      refine q_block_exit ?_
      refine q_then ?_
      refine w_seq ?_
      refine w_R ?_
      refine r_op tabOk hnt rfl (s_callF rfl rfl rfl (T.leL (args := [pI 9223372036854775807, pNil]) (args' := [pI 9223372036854775807, pS 3 false eAsk []]) ⟨le_refl _, ⟨le_F (FLe.nil 3 false), trivial⟩⟩ (w_burgagelaw20_play 9223372036854775807 [] false (by first | omega | assumption | (simp; omega) | decide | (simp; done)) (by first | omega | assumption | (simp; omega) | decide | (simp; done)))) rfl ?_) 
      refine r_op tabOk hnt rfl (s_move rfl ?_) 
      refine r_if tabOk hnt rfl rfl rfl (fun _ => ?_) (fun e => absurd e (by decide))
      refine r_op tabOk hnt rfl (s_build tab_25 rfl rfl (b_nil ?_)) 
      refine r_if tabOk hnt rfl rfl rfl (fun _ => ?_) (fun e => absurd e (by decide))
      refine r_op tabOk hnt rfl (s_build tab_25 rfl rfl (b_nil ?_)) 
      refine r_if tabOk hnt rfl rfl rfl (fun _ => ?_) (fun e => absurd e (by decide))
      refine r_le (s := 48) (y := PV.f (eAsk (⟨0, 0, []⟩ : TAsk))) rfl (le_F (FLe.agg ⟨FLe.refl _, FLe.refl _, FLe.nil 1 false, trivial⟩)) ?_
      refine r_le (s := 49) (y := PV.f (eAsk (⟨0, 0, []⟩ : TAsk))) rfl (le_F (FLe.agg ⟨FLe.refl _, FLe.refl _, FLe.nil 1 false, trivial⟩)) ?_
      refine r_op tabOk hnt rfl (s_mkM (f := eAsk) [(⟨0, 0, []⟩ : TAsk), (⟨0, 0, []⟩ : TAsk)] tab_22 rfl tab_25 ⟨rfl, by decide⟩ (by decide) rfl rfl rfl rfl ?_) 
      refine r_if tabOk hnt rfl rfl rfl (fun _ => ?_) (fun e => absurd e (by decide))
      refine r_op tabOk hnt rfl (s_callX (r2 := pB true) (nx1 := 1) (H2 := [(0, oB false 3 eAsk ([(⟨0, 0, []⟩ : TAsk), (⟨0, 0, []⟩ : TAsk)]))]) (H3 := [(0, oB false 3 eAsk ([(⟨0, 0, []⟩ : TAsk), (⟨0, 0, []⟩ : TAsk)]))]) [] [] rfl rfl rfl (handed_of (by decide) trivial) rfl rfl rfl rfl rfl rfl (w_burgagelaw20_play (-9223372036854775808) ([(⟨0, 0, []⟩ : TAsk), (⟨0, 0, []⟩ : TAsk)]) false (by first | omega | assumption | (simp; omega) | decide | (simp; done)) (by first | omega | assumption | (simp; omega) | decide | (simp; done))) rfl (dist_of rfl) rfl rfl rfl rfl ?_) 
      refine r_op tabOk hnt rfl (s_pick_t rfl rfl rfl ?_) 
      refine r_op tabOk hnt rfl (s_move rfl ?_) 
      refine r_if tabOk hnt rfl rfl rfl (fun _ => ?_) (fun e => absurd e (by decide))
      refine r_op tabOk hnt rfl (s_callF rfl rfl rfl (w_burgagelaw20_known) rfl ?_) 
      refine r_op tabOk hnt rfl (s_pick_t rfl rfl rfl ?_) 
      refine r_op tabOk hnt rfl (s_assign rfl ?_) 
      refine r_set [(0, pB true)] [(0, oB false 3 eAsk ([(⟨0, 0, []⟩ : TAsk), (⟨0, 0, []⟩ : TAsk)]))] 1 ⟨rfl, trivial⟩ rfl rfl ?_
      refine r_end ?_
      refine q_then ?_
      refine w_ret ?_
      exact fin_plain (ret_tmp rfl ret_nil) rfl rfl ⟨rfl, rfl, rfl⟩

end Go.Proofs.Yteedhlgdbankiaa
