/- Walks: printed by a program of this session (wip/tools/walk2.py) out of its notes. -/
import Derived.Test.YteedhlgdbankiaaWBase
import Derived.Test.YteedhlgdbankiaaSpecQ
set_option linter.unusedVariables false
set_option linter.unusedSimpArgs false
set_option maxRecDepth 10000
set_option maxHeartbeats 1000000
namespace Go.Proofs.Yteedhlgdbankiaa
open Go Go.Proofs.Yteedhlgdbankiaa.Pv

theorem w_quota_own (m : TMsg) (hm : m.pdu.length ≤ 140737488351232) :
    T Try.prog 40 [PV.f (eMsg m)] 0 [] (Ret (PV.f (eMsg m)) 0 []) := by
  refine t_fun tabOk (n := 9) (rs := [.cell 2 33]) Try.func40 rfl rfl rfl rfl (Nat.le_of_ble_eq_true rfl) ?_
  intro c hnt hk
  refine w_seq ?_
  refine w_R ?_
  refine r_op tabOk hnt rfl (s_box rfl rfl ?_) 
  refine r_op tabOk hnt rfl (s_alloc tab_33 ?_) 
  refine r_set [(1, PV.ptr 0 0), (2, PV.ptr 1 0)] [(1, .obj [pI 0, pI 0, pNil]), (0, .obj [pI m.id, pI m.unit, pS 1 false enc8 m.pdu])] 2 ⟨rfl, rfl, trivial⟩ rfl rfl ?_
  refine r_end ?_
  refine q_then ?_
  refine w_seq ?_
  refine w_R ?_
  refine r_op tabOk hnt rfl (s_fa_ptr tab_33 rfl rfl tab_23 (by decide) rfl ?_) 
  refine r_op tabOk hnt rfl (s_load_ptr1 tab_23 rfl rfl rfl rfl rfl ?_) 
  refine r_op tabOk hnt rfl (s_callX (r2 := PV.ref 2 0 none) (nx1 := 3) (H2 := [(1, .obj [pI 0, pI 0, pNil]), (0, .obj [pI m.id, pI m.unit, pS 1 false enc8 m.pdu])]) (H3 := [(2, oB true 1 enc8 m.pdu), (1, .obj [pI 0, pI 0, pNil]), (0, .obj [pI m.id, pI m.unit, pS 1 false enc8 m.pdu])]) [] [] rfl rfl rfl (handed_of (by decide) trivial) rfl rfl rfl rfl rfl rfl (w_slices_Clone_byte_byte m.pdu false (by first | omega | assumption | (simp; omega) | decide | (simp; done))) rfl (dist_of rfl) rfl rfl rfl rfl ?_) 
  refine r_op tabOk hnt rfl (s_callX (r2 := pS 1 true enc8 m.pdu) (nx1 := 3) (H2 := [(2, oB false 1 enc8 m.pdu), (1, .obj [pI 0, pI 0, pNil]), (0, .obj [pI m.id, pI m.unit, pS 1 false enc8 m.pdu])]) (H3 := [(2, oB false 1 enc8 m.pdu), (1, .obj [pI 0, pI 0, pNil]), (0, .obj [pI m.id, pI m.unit, pS 1 false enc8 m.pdu])]) [] [] rfl rfl rfl (handed_of (by decide) trivial) rfl rfl rfl rfl rfl rfl (w_slices_Clip_byte_byte m.pdu false) rfl (dist_of rfl) rfl rfl rfl rfl ?_) 
  refine r_op tabOk hnt rfl (s_fa_ptr tab_33 rfl rfl tab_23 (by decide) rfl ?_) 
  refine r_op tabOk hnt rfl (s_store_ptr tab_23 rfl rfl rfl rfl rfl (Nat.le_of_ble_eq_true rfl) ?_) 
  refine r_set [(1, PV.ptr 0 0), (2, PV.ptr 1 0)] [(0, .obj [pI m.id, pI m.unit, pS 1 true enc8 m.pdu]), (2, oB false 1 enc8 m.pdu), (1, .obj [pI 0, pI 0, pNil])] 3 ⟨rfl, rfl, trivial⟩ rfl rfl ?_
  refine r_end ?_
  refine q_then ?_
  refine w_seq ?_
  refine w_R ?_
  refine r_op tabOk hnt rfl (s_load_ptr tab_33 rfl rfl rfl (Nat.le_of_ble_eq_true rfl) ?_) 
  refine r_op tabOk hnt rfl (s_store_ptr tab_33 rfl rfl rfl rfl rfl (Nat.le_of_ble_eq_true rfl) ?_) 
  refine r_set [(2, PV.ptr 1 0)] [(1, .obj [pI m.id, pI m.unit, pS 1 true enc8 m.pdu]), (0, .obj [pI m.id, pI m.unit, pS 1 true enc8 m.pdu]), (2, oB false 1 enc8 m.pdu)] 3 ⟨rfl, trivial⟩ rfl rfl ?_
  refine r_end ?_
  refine q_then ?_
  refine w_leC (n := 1) (j := 2) (y := pS 1 false enc8 m.pdu) rfl rfl (le_loose) ?_
  refine w_ret ?_
  exact fin_plain (ret_cell tab_33 (by decide) rfl rfl (Nat.le_of_ble_eq_true rfl) rfl ret_nil) rfl rfl ⟨rfl, rfl, rfl⟩

theorem w_quota_New (n : Int)  :
    T Try.prog 18 [pI n] 0 [] (Ret (PV.ptr 0 0) 2 [(0, .obj [PV.ref 1 0 none, pI (max 1 (min n 64)), pI 0]), (1, oB false 3 eMsg ([] : List TMsg))]) := by
  refine t_fun tabOk (n := 8) (rs := [.tmp 2]) Try.func18 rfl rfl rfl rfl (Nat.le_of_ble_eq_true rfl) ?_
  intro c hnt hk
  refine w_seq ?_
  refine w_R ?_
  refine r_op tabOk hnt rfl (s_assign rfl ?_) 
  refine r_end ?_
  refine q_then ?_
  refine w_seq ?_
  refine w_R ?_
  refine r_op tabOk hnt rfl (s_move rfl ?_) 
  refine r_op tabOk hnt rfl (s_minI rfl ?_) 
  refine r_op tabOk hnt rfl (s_maxI rfl ?_) 
  refine r_op tabOk hnt rfl (s_build tab_68 rfl rfl (b_cons rfl tab_3 rfl rfl rfl (Nat.le_of_ble_eq_true rfl) (b_nil ?_))) 
  refine r_op tabOk hnt rfl (s_box rfl rfl ?_) 
  refine r_op tabOk hnt rfl (s_assign rfl ?_) 
  refine r_set [(2, PV.ptr 0 0)] [(0, .obj [pNil, pI (max 1 (min n 64)), pI 0])] 1 ⟨rfl, trivial⟩ rfl rfl ?_
  refine r_end ?_
  refine q_then ?_
  refine w_adoptC (n := 0) (j := 0) (sz := 3) rfl rfl rfl ?_
  refine w_low (n := 1) rfl ?_
  refine w_ret ?_
  exact fin_names (nx1 := 2) (H1 := [(0, .obj [PV.ref 1 0 none, pI (max 1 (min n 64)), pI 0]), (1, oB false 3 eMsg ([] : List TMsg))]) [(0, 0), (1, 1)] (ret_tmp rfl ret_nil) rfl (by decide) ⟨⟨_, _, rfl, rfl, rfl, rfl⟩, ⟨_, _, rfl, rfl, rfl, rfl⟩, trivial⟩ (by decide) rfl ⟨rfl, rfl, rfl⟩

theorem w_quota_Queue_Take (l : List TMsg) (k : Int) (r : Int) (hl : l.length ≤ 1000) :
    T Try.prog 19 [PV.ptr 0 0] 2 [(0, .obj [PV.ref 1 0 none, pI k, pI r]), (1, oB false 3 eMsg l)] (Ret (PV.tup [PV.f (eMsg (headM l)), pB (decide (0 < l.length))]) 3 [(0, .obj [PV.ref 2 0 none, pI k, pI r]), (2, oB false 3 eMsg l.tail)]) := by
  refine t_fun tabOk (n := 28) (rs := [.cell 2 33, .tmp 3]) Try.func19 rfl rfl rfl rfl (Nat.le_of_ble_eq_true rfl) ?_
  intro c hnt hk
  refine w_seq ?_
  refine w_R ?_
  refine r_op tabOk hnt rfl (s_alloc tab_33 ?_) 
  refine r_op tabOk hnt rfl (s_assign rfl ?_) 
  refine r_set [(0, PV.ptr 0 0), (2, PV.ptr 2 0)] [(2, .obj [pI 0, pI 0, pNil]), (0, .obj [PV.ref 1 0 none, pI k, pI r]), (1, oB false 3 eMsg l)] 3 ⟨rfl, rfl, trivial⟩ rfl rfl ?_
  refine r_end ?_
  refine q_then ?_
  refine w_seq ?_
  refine w_seq ?_
  refine w_R ?_
  refine r_op tabOk hnt rfl (s_move rfl ?_) 
  refine r_op tabOk hnt rfl (s_nilCheck rfl trivial ?_) 
  refine r_op tabOk hnt rfl (s_fa_ptr tab_68 rfl rfl tab_39 (by decide) rfl ?_) 
  refine r_op tabOk hnt rfl (s_load_ptr1 tab_39 rfl rfl rfl rfl rfl ?_) 
  refine r_op tabOk hnt rfl (s_lenM (l := l) tab_39 rfl (hM_ref0 (f := eMsg) rfl rfl) ?_) 
  refine r_op tabOk hnt rfl (s_eql rfl rfl ?_) 
  refine r_end ?_
  refine q_then ?_
  refine w_if rfl (fun c1 => ?_) (fun c1 => ?_)
  ·
    have c1_ := c1
    try simp only [decide_eq_true_eq, decide_eq_false_iff_not, Bool.not_eq_true', Bool.not_eq_false', Bool.not_true, Bool.not_false, Bool.not_eq_eq_eq_not, Int.not_lt, Int.not_le] at c1
    have e : l = [] := List.eq_nil_of_length_eq_zero (by omega)
    refine w_seq ?_
    refine w_R ?_
    refine r_op tabOk hnt rfl (s_build tab_33 rfl rfl (b_nil ?_)) 
    refine r_op tabOk hnt rfl (s_store_ptr tab_33 rfl rfl rfl rfl rfl (Nat.le_of_ble_eq_true rfl) ?_) 
    refine r_op tabOk hnt rfl (s_assign rfl ?_) 
    refine r_set [(2, PV.ptr 2 0), (3, pB false)] [(2, .obj [pI 0, pI 0, pNil]), (0, .obj [PV.ref 1 0 none, pI k, pI r]), (1, oB false 3 eMsg l)] 3 ⟨rfl, rfl, trivial⟩ rfl rfl ?_
    refine r_end ?_
    refine q_then ?_
    refine w_leC (n := 2) (j := 0) (y := pI ((headM l).id)) rfl rfl (le_of_eq (congrArg (fun z : Int => pI z) (show 0 = (headM l).id by simp [e, headM]))) ?_
    refine w_leC (n := 2) (j := 1) (y := pI ((headM l).unit)) rfl rfl (le_of_eq (congrArg (fun z : Int => pI z) (show 0 = (headM l).unit by simp [e, headM]))) ?_
    refine w_leC (n := 2) (j := 2) (y := pS 1 false enc8 []) rfl rfl (le_nilS 1 false) ?_
    refine w_leC (n := 2) (j := 2) (y := pS 1 false enc8 ((headM l).pdu)) rfl rfl (le_of_eq (congrArg (fun z => pS 1 false enc8 z) (show [] = (headM l).pdu by simp [e, headM]))) ?_
    refine w_le (s := 3) (y := pB (decide (0 < l.length))) rfl (le_of_eq (congrArg (fun z : Bool => pB z) (show false = decide (0 < l.length) by simp [e, headM]))) ?_
    refine w_H (H' := [(2, .obj [pI ((headM l).id), pI ((headM l).unit), pS 1 false enc8 ((headM l).pdu)]), (0, .obj [PV.ref 1 0 none, pI k, pI r]), (1, oB false 3 eMsg l.tail)]) (congrArg (fun z => ([(2, .obj [pI ((headM l).id), pI ((headM l).unit), pS 1 false enc8 ((headM l).pdu)]), (0, .obj [PV.ref 1 0 none, pI k, pI r]), (1, oB false 3 eMsg z)] : Heap)) (show l = l.tail by simp [e, headM])) ?_
    refine w_ret ?_
    refine q_then_ret ?_
    exact fin_names (nx1 := 3) (H1 := [(0, .obj [PV.ref 2 0 none, pI k, pI r]), (2, oB false 3 eMsg l.tail)]) [(0, 0), (2, 1)] (ret_cell tab_33 (by decide) rfl rfl (Nat.le_of_ble_eq_true rfl) rfl (ret_tmp rfl ret_nil)) rfl (by decide) ⟨⟨_, _, rfl, rfl, rfl, rfl⟩, ⟨_, _, rfl, rfl, rfl, rfl⟩, trivial⟩ (by decide) rfl ⟨rfl, rfl, rfl⟩
  ·
    have c1_ := c1
    try simp only [decide_eq_true_eq, decide_eq_false_iff_not, Bool.not_eq_true', Bool.not_eq_false', Bool.not_true, Bool.not_false, Bool.not_eq_eq_eq_not, Int.not_lt, Int.not_le] at c1
    have hp : 0 < l.length := by omega
    refine w_skip ?_
    refine q_then ?_
    refine w_seq ?_
    refine w_R ?_
    refine r_op tabOk hnt rfl (s_move rfl ?_) 
    refine r_op tabOk hnt rfl (s_nilCheck rfl trivial ?_) 
    refine r_op tabOk hnt rfl (s_fa_ptr tab_68 rfl rfl tab_39 (by decide) rfl ?_) 
    refine r_op tabOk hnt rfl (s_load_ptr1 tab_39 rfl rfl rfl rfl rfl ?_) 
    refine r_op tabOk hnt rfl (s_iaR0 (q := 0) (f := eMsg) (l := l) tab_39 rfl tab_33 rfl rfl (by omega) rfl rfl (by omega) ?_) 
    obtain ⟨e1, he1⟩ := get_of_lt l (i := 0) (by omega)
    refine r_op tabOk hnt rfl (s_ldA (b := e1) tab_33 rfl rfl rfl he1 rfl rfl ?_) 
    refine r_op tabOk hnt rfl (s_alloc tab_33 ?_) 
    refine r_op tabOk hnt rfl (s_store_ptr tab_33 rfl rfl rfl rfl rfl (Nat.le_of_ble_eq_true rfl) ?_) 
    refine r_set [(0, PV.ptr 0 0), (2, PV.ptr 2 0), (4, PV.ptr 3 0)] [(3, .obj [pI e1.id, pI e1.unit, pS 1 false enc8 e1.pdu]), (2, .obj [pI 0, pI 0, pNil]), (0, .obj [PV.ref 1 0 none, pI k, pI r]), (1, oB false 3 eMsg l)] 4 ⟨rfl, rfl, rfl, trivial⟩ rfl rfl ?_
    refine r_end ?_
    refine q_then ?_
    refine w_seq ?_
    refine w_R ?_
    refine r_op tabOk hnt rfl (s_move rfl ?_) 
    refine r_op tabOk hnt rfl (s_move rfl ?_) 
    refine r_op tabOk hnt rfl (s_nilCheck rfl trivial ?_) 
    refine r_op tabOk hnt rfl (s_fa_ptr tab_68 rfl rfl tab_39 (by decide) rfl ?_) 
    refine r_op tabOk hnt rfl (s_load_ptr1 tab_39 rfl rfl rfl rfl rfl ?_) 
    refine r_op tabOk hnt rfl (s_cutR_lo (a := 1) (f := eMsg) (l := l) tab_39 rfl tab_33 rfl rfl rfl (bound_some rfl (by omega)) (by omega) ?_) 
    refine r_frzM (s := 23) (f := eMsg) rfl rfl view_lo ?_
    refine r_op tabOk hnt rfl (s_callX (r2 := PV.ref 4 0 none) (nx1 := 5) (H2 := [(1, oB false 3 eMsg l), (3, .obj [pI e1.id, pI e1.unit, pS 1 false enc8 e1.pdu]), (2, .obj [pI 0, pI 0, pNil]), (0, .obj [PV.ref 1 0 none, pI k, pI r])]) (H3 := [(4, oB true 3 eMsg (l.drop (0 + 1))), (1, oB false 3 eMsg l), (3, .obj [pI e1.id, pI e1.unit, pS 1 false enc8 e1.pdu]), (2, .obj [pI 0, pI 0, pNil]), (0, .obj [PV.ref 1 0 none, pI k, pI r])]) [] [] rfl rfl rfl (handed_of (by decide) trivial) rfl rfl rfl rfl rfl rfl (w_slices_Clone_mbap_Msg_mbap_Msg (l.drop (0 + 1)) false (by first | omega | assumption | (simp; omega) | decide | (simp; done))) rfl (dist_of rfl) rfl rfl rfl rfl ?_) 
    refine r_op tabOk hnt rfl (s_nilCheck rfl trivial ?_) 
    refine r_op tabOk hnt rfl (s_fa_ptr tab_68 rfl rfl tab_39 (by decide) rfl ?_) 
    refine r_op tabOk hnt rfl (s_store_ptr tab_39 rfl rfl rfl rfl rfl (Nat.le_of_ble_eq_true rfl) ?_) 
    refine r_set [(2, PV.ptr 2 0), (4, PV.ptr 3 0)] [(0, .obj [PV.ref 4 0 none, pI k, pI r]), (4, oB true 3 eMsg (l.drop (0 + 1))), (1, oB false 3 eMsg l), (3, .obj [pI e1.id, pI e1.unit, pS 1 false enc8 e1.pdu]), (2, .obj [pI 0, pI 0, pNil])] 5 ⟨rfl, rfl, trivial⟩ rfl rfl ?_
    refine r_end ?_
    refine q_then ?_
    refine w_seq ?_
    refine w_R ?_
    refine r_op tabOk hnt rfl (s_load_ptr tab_33 rfl rfl rfl (Nat.le_of_ble_eq_true rfl) ?_) 
    refine r_op tabOk hnt rfl (s_store_ptr tab_33 rfl rfl rfl rfl rfl (Nat.le_of_ble_eq_true rfl) ?_) 
    refine r_op tabOk hnt rfl (s_assign rfl ?_) 
    refine r_set [(2, PV.ptr 2 0), (3, pB true)] [(2, .obj [pI e1.id, pI e1.unit, pS 1 false enc8 e1.pdu]), (0, .obj [PV.ref 4 0 none, pI k, pI r]), (4, oB true 3 eMsg (l.drop (0 + 1))), (1, oB false 3 eMsg l), (3, .obj [pI e1.id, pI e1.unit, pS 1 false enc8 e1.pdu])] 5 ⟨rfl, rfl, trivial⟩ rfl rfl ?_
    refine r_end ?_
    refine q_then ?_
    refine w_leC (n := 2) (j := 0) (y := pI ((headM l).id)) rfl rfl (le_of_eq (congrArg (fun z : Int => pI z) (show e1.id = (headM l).id by first | rw [headM_of he1] | simp [hp] | simp))) ?_
    refine w_leC (n := 2) (j := 1) (y := pI ((headM l).unit)) rfl rfl (le_of_eq (congrArg (fun z : Int => pI z) (show e1.unit = (headM l).unit by first | rw [headM_of he1] | simp [hp] | simp))) ?_
    refine w_leC (n := 2) (j := 2) (y := pS 1 false enc8 ((headM l).pdu)) rfl rfl (le_of_eq (congrArg (fun z => pS 1 false enc8 z) (show e1.pdu = (headM l).pdu by first | rw [headM_of he1] | simp [hp] | simp))) ?_
    refine w_le (s := 3) (y := pB (decide (0 < l.length))) rfl (le_of_eq (congrArg (fun z : Bool => pB z) (show true = decide (0 < l.length) by first | rw [headM_of he1] | simp [hp] | simp))) ?_
    refine w_low (n := 4) rfl ?_
    refine w_H (H' := [(4, oB false 3 eMsg l.tail), (2, .obj [pI ((headM l).id), pI ((headM l).unit), pS 1 false enc8 ((headM l).pdu)]), (0, .obj [PV.ref 4 0 none, pI k, pI r]), (1, oB false 3 eMsg l), (3, .obj [pI e1.id, pI e1.unit, pS 1 false enc8 e1.pdu])]) (congrArg (fun z => ([(4, oB false 3 eMsg z), (2, .obj [pI ((headM l).id), pI ((headM l).unit), pS 1 false enc8 ((headM l).pdu)]), (0, .obj [PV.ref 4 0 none, pI k, pI r]), (1, oB false 3 eMsg l), (3, .obj [pI e1.id, pI e1.unit, pS 1 false enc8 e1.pdu])] : Heap)) (show (l.drop (0 + 1)) = l.tail by first | rw [headM_of he1] | simp [hp] | simp)) ?_
    refine w_ret ?_
    exact fin_names (nx1 := 3) (H1 := [(0, .obj [PV.ref 2 0 none, pI k, pI r]), (2, oB false 3 eMsg l.tail)]) [(0, 0), (2, 4)] (ret_cell tab_33 (by decide) rfl rfl (Nat.le_of_ble_eq_true rfl) rfl (ret_tmp rfl ret_nil)) rfl (by decide) ⟨⟨_, _, rfl, rfl, rfl, rfl⟩, ⟨_, _, rfl, rfl, rfl, rfl⟩, trivial⟩ (by decide) rfl ⟨rfl, rfl, rfl⟩

theorem w_quota_Queue_Put (l : List TMsg) (k : Int) (r : Int) (m : TMsg) (hl : l.length ≤ 1000) (hm : m.pdu.length ≤ 140737488351232) (hr : 0 ≤ r ∧ r < 9223372036854775807) :
    T Try.prog 20 [PV.ptr 0 0, PV.f (eMsg m)] 2 [(0, .obj [PV.ref 1 0 none, pI k, pI r]), (1, oB false 3 eMsg l)] (Ret (pB (decide ((l.length : Int) < k))) 3 [(0, .obj [PV.ref 2 0 none, pI k, pI (qR l k r)]), (2, oB false 3 eMsg (qL l k m))]) := by
  refine t_fun tabOk (n := 33) (rs := [.tmp 4]) Try.func20 rfl rfl rfl rfl (Nat.le_of_ble_eq_true rfl) ?_
  intro c hnt hk
  refine w_seq ?_
  refine w_R ?_
  refine r_op tabOk hnt rfl (s_box rfl rfl ?_) 
  refine r_op tabOk hnt rfl (s_assign rfl ?_) 
  refine r_set [(0, PV.ptr 0 0), (3, PV.ptr 2 0)] [(2, .obj [pI m.id, pI m.unit, pS 1 false enc8 m.pdu]), (0, .obj [PV.ref 1 0 none, pI k, pI r]), (1, oB false 3 eMsg l)] 3 ⟨rfl, rfl, trivial⟩ rfl rfl ?_
  refine r_end ?_
  refine q_then ?_
  refine w_seq ?_
  refine w_seq ?_
  refine W_drawn tabOk mixed hnt [[], [0], [0, 1], [0, 1, 2], [0, 1, 2, 3], [], [5], [5, 6], [5, 6, 7], [0, 1, 2, 3, 4, 5, 6, 7, 8]] (by kernel_rfl) ?_
  refine d_op ?_
  refine x_run0 [(0, PV.ptr 0 0)] [] rfl rfl rfl rfl (s_move rfl ⟨rfl, rfl, rfl⟩) ?_
  refine d_op ?_
  refine x_run0 [(5, PV.ptr 0 0)] [0] rfl rfl rfl rfl (s_nilCheck rfl trivial ⟨rfl, rfl, rfl⟩) ?_
  refine d_op ?_
  refine x_run0 [(6, PV.ptr 0 0)] [0, 1] rfl rfl rfl rfl (s_fa_ptr tab_68 rfl rfl tab_39 (by decide) rfl ⟨rfl, rfl, rfl⟩) ?_
  refine d_op ?_
  refine x_run [(7, PV.ptr 0 0)] [0, 1, 2] [(0, .obj [PV.ref 1 0 none, pI k, pI r])] [] [(0, .obj [PV.ref 1 0 none, pI k, pI r])] [] [(2, .obj [pI m.id, pI m.unit, pS 1 false enc8 m.pdu]), (0, .obj [PV.ref 1 0 none, pI k, pI r]), (1, oB false 3 eMsg l)] rfl rfl rfl rfl rfl rfl (s_load_ptr1 tab_39 rfl rfl rfl rfl rfl ⟨rfl, rfl, rfl⟩) rfl ⟨rfl, trivial⟩ rfl rfl ?_
  refine d_op ?_
  refine x_run [(8, PV.ref 1 0 none)] [0, 1, 2, 3] [(1, oB false 3 eMsg l)] [] [(1, oB false 3 eMsg l)] [] [(2, .obj [pI m.id, pI m.unit, pS 1 false enc8 m.pdu]), (0, .obj [PV.ref 1 0 none, pI k, pI r]), (1, oB false 3 eMsg l)] rfl rfl rfl rfl rfl rfl (s_lenM (l := l) tab_39 rfl (hM_ref0 (f := eMsg) rfl rfl) ⟨rfl, rfl, rfl⟩) rfl ⟨rfl, trivial⟩ rfl rfl ?_
  refine d_op ?_
  refine x_run0 [(0, PV.ptr 0 0)] [] rfl rfl rfl rfl (s_move rfl ⟨rfl, rfl, rfl⟩) ?_
  refine d_op ?_
  refine x_run0 [(10, PV.ptr 0 0)] [5] rfl rfl rfl rfl (s_nilCheck rfl trivial ⟨rfl, rfl, rfl⟩) ?_
  refine d_op ?_
  refine x_run0 [(11, PV.ptr 0 0)] [5, 6] rfl rfl rfl rfl (s_fa_ptr tab_68 rfl rfl tab_3 (by decide) rfl ⟨rfl, rfl, rfl⟩) ?_
  refine d_op ?_
  refine x_run [(12, PV.ptr 0 1)] [5, 6, 7] [(0, .obj [PV.ref 1 0 none, pI k, pI r])] [] [(0, .obj [PV.ref 1 0 none, pI k, pI r])] [] [(2, .obj [pI m.id, pI m.unit, pS 1 false enc8 m.pdu]), (0, .obj [PV.ref 1 0 none, pI k, pI r]), (1, oB false 3 eMsg l)] rfl rfl rfl rfl rfl rfl (s_load_ptr1 tab_3 rfl rfl rfl rfl rfl ⟨rfl, rfl, rfl⟩) rfl ⟨rfl, trivial⟩ rfl rfl ?_
  refine d_op ?_
  refine x_run0 [(9, pN l.length), (13, pI k)] [0, 1, 2, 3, 4, 5, 6, 7, 8] rfl rfl rfl rfl (s_geq rfl rfl ⟨rfl, rfl, rfl⟩) ?_
  refine d_end ⟨by kernel_rfl, ?_⟩
  refine q_then ?_
  refine w_if rfl (fun c1 => ?_) (fun c1 => ?_)
  ·
    have c1_ := c1
    try simp only [decide_eq_true_eq, decide_eq_false_iff_not, Bool.not_eq_true', Bool.not_eq_false', Bool.not_true, Bool.not_false, Bool.not_eq_eq_eq_not, Int.not_lt, Int.not_le] at c1
    have hn : ¬ ((l.length : Int) < k) := by omega
    refine w_seq ?_
    refine w_R ?_
    refine r_op tabOk hnt rfl (s_move rfl ?_) 
    refine r_op tabOk hnt rfl (s_nilCheck rfl trivial ?_) 
    refine r_op tabOk hnt rfl (s_fa_ptr tab_68 rfl rfl tab_3 (by decide) rfl ?_) 
    refine r_op tabOk hnt rfl (s_load_ptr1 tab_3 rfl rfl rfl rfl rfl ?_) 
    refine r_op tabOk hnt rfl (s_addi (r := r + 1) rfl rfl rfl (by omega) ?_) 
    refine r_op tabOk hnt rfl (s_nilCheck rfl trivial ?_) 
    refine r_op tabOk hnt rfl (s_fa_ptr tab_68 rfl rfl tab_3 (by decide) rfl ?_) 
    refine r_op tabOk hnt rfl (s_store_ptr tab_3 rfl rfl rfl rfl rfl (Nat.le_of_ble_eq_true rfl) ?_) 
    refine r_set [] [(0, .obj [PV.ref 1 0 none, pI k, pI (r + 1)]), (2, .obj [pI m.id, pI m.unit, pS 1 false enc8 m.pdu]), (1, oB false 3 eMsg l)] 3 trivial rfl rfl ?_
    refine r_end ?_
    refine q_then ?_
    refine w_seq ?_
    refine w_R ?_
    refine r_op tabOk hnt rfl (s_assign rfl ?_) 
    refine r_end ?_
    refine q_then ?_
    refine w_le (s := 4) (y := pB (decide ((l.length : Int) < k))) rfl (le_of_eq (congrArg (fun z : Bool => pB z) (show false = decide ((l.length : Int) < k) by simp [hn, qL, qR]))) ?_
    refine w_leC (n := 0) (j := 2) (y := pI (qR l k r)) rfl rfl (le_of_eq (congrArg (fun z : Int => pI z) (show r + 1 = qR l k r by simp [hn, qL, qR]))) ?_
    refine w_H (H' := [(0, .obj [PV.ref 1 0 none, pI k, pI (qR l k r)]), (2, .obj [pI m.id, pI m.unit, pS 1 false enc8 m.pdu]), (1, oB false 3 eMsg (qL l k m))]) (congrArg (fun z => ([(0, .obj [PV.ref 1 0 none, pI k, pI (qR l k r)]), (2, .obj [pI m.id, pI m.unit, pS 1 false enc8 m.pdu]), (1, oB false 3 eMsg z)] : Heap)) (show l = qL l k m by simp [hn, qL, qR])) ?_
    refine w_ret ?_
    refine q_then_ret ?_
    exact fin_names (nx1 := 3) (H1 := [(0, .obj [PV.ref 2 0 none, pI k, pI (qR l k r)]), (2, oB false 3 eMsg (qL l k m))]) [(0, 0), (2, 1)] (ret_tmp rfl ret_nil) rfl (by decide) ⟨⟨_, _, rfl, rfl, rfl, rfl⟩, ⟨_, _, rfl, rfl, rfl, rfl⟩, trivial⟩ (by decide) rfl ⟨rfl, rfl, rfl⟩
  ·
    have c1_ := c1
    try simp only [decide_eq_true_eq, decide_eq_false_iff_not, Bool.not_eq_true', Bool.not_eq_false', Bool.not_true, Bool.not_false, Bool.not_eq_eq_eq_not, Int.not_lt, Int.not_le] at c1
    have hn : (l.length : Int) < k := by omega
    refine w_skip ?_
    refine q_then ?_
    refine w_seq ?_
    refine W_drawn tabOk mixed hnt [[], [], [1], [1, 2], [1, 2, 3], [], [5], [5, 6], [1, 2, 3, 4, 5, 6, 7], [0, 1, 2, 3, 4, 5, 6, 7, 8], [0, 1, 2, 3, 4, 5, 6, 7, 8, 9], [0, 1, 2, 3, 4, 5, 6, 7, 8, 9, 10]] (by kernel_rfl) ?_
    refine d_op ?_
    refine x_run0 [(0, PV.ptr 0 0)] [] rfl rfl rfl rfl (s_move rfl ⟨rfl, rfl, rfl⟩) ?_
    refine d_op ?_
    refine x_run0 [(0, PV.ptr 0 0)] [] rfl rfl rfl rfl (s_move rfl ⟨rfl, rfl, rfl⟩) ?_
    refine d_op ?_
    refine x_run0 [(23, PV.ptr 0 0)] [1] rfl rfl rfl rfl (s_nilCheck rfl trivial ⟨rfl, rfl, rfl⟩) ?_
    refine d_op ?_
    refine x_run0 [(24, PV.ptr 0 0)] [1, 2] rfl rfl rfl rfl (s_fa_ptr tab_68 rfl rfl tab_39 (by decide) rfl ⟨rfl, rfl, rfl⟩) ?_
    refine d_op ?_
    refine x_run [(25, PV.ptr 0 0)] [1, 2, 3] [(0, .obj [PV.ref 1 0 none, pI k, pI r])] [] [(0, .obj [PV.ref 1 0 none, pI k, pI r])] [] [(2, .obj [pI m.id, pI m.unit, pS 1 false enc8 m.pdu]), (0, .obj [PV.ref 1 0 none, pI k, pI r]), (1, oB false 3 eMsg l)] rfl rfl rfl rfl rfl rfl (s_load_ptr1 tab_39 rfl rfl rfl rfl rfl ⟨rfl, rfl, rfl⟩) rfl ⟨rfl, trivial⟩ rfl rfl ?_
    refine d_op ?_
    refine x_run [(3, PV.ptr 2 0)] [] [(2, .obj [pI m.id, pI m.unit, pS 1 false enc8 m.pdu])] [] [(2, .obj [pI m.id, pI m.unit, pS 1 false enc8 m.pdu])] [] [(2, .obj [pI m.id, pI m.unit, pS 1 false enc8 m.pdu]), (0, .obj [PV.ref 1 0 none, pI k, pI r]), (1, oB false 3 eMsg l)] rfl rfl rfl rfl rfl rfl (s_load_ptr tab_33 rfl rfl rfl (Nat.le_of_ble_eq_true rfl) ⟨rfl, rfl, rfl⟩) rfl ⟨rfl, trivial⟩ rfl rfl ?_
    refine d_op ?_
    refine x_run0 [(27, PV.f (.agg [encI m.id, encI m.unit, FV.sl 1 false (List.map enc8 m.pdu)]))] [5] rfl rfl rfl rfl (s_callF rfl rfl rfl (w_quota_own (⟨m.id, m.unit, m.pdu⟩ : TMsg) (by first | omega | assumption | (simp; omega) | decide | (simp; done))) rfl ⟨rfl, rfl, rfl⟩) ?_
    refine d_op ?_
    refine x_run [(28, PV.f (eMsg (⟨m.id, m.unit, m.pdu⟩ : TMsg)))] [5, 6] [] [] [(3, oB true 3 eMsg [(⟨m.id, m.unit, m.pdu⟩ : TMsg)])] [(3, oB true 3 eMsg [(⟨m.id, m.unit, m.pdu⟩ : TMsg)])] [(3, oB true 3 eMsg [(⟨m.id, m.unit, m.pdu⟩ : TMsg)]), (2, .obj [pI m.id, pI m.unit, pS 1 false enc8 m.pdu]), (0, .obj [PV.ref 1 0 none, pI k, pI r]), (1, oB false 3 eMsg l)] rfl rfl rfl rfl rfl rfl (s_mkM (f := eMsg) [(⟨m.id, m.unit, m.pdu⟩ : TMsg)] tab_39 rfl tab_33 ⟨rfl, by decide⟩ (by decide) rfl rfl rfl rfl ⟨rfl, rfl, rfl⟩) rfl trivial rfl rfl ?_
    refine d_op ?_
    refine x_run [(26, PV.ref 1 0 none), (29, PV.ref 3 0 none)] [1, 2, 3, 4, 5, 6, 7] [(3, oB true 3 eMsg [(⟨m.id, m.unit, m.pdu⟩ : TMsg)])] [(1, oB false 3 eMsg l)] [(4, oB false 3 eMsg (l ++ [(⟨m.id, m.unit, m.pdu⟩ : TMsg)])), (3, oB true 3 eMsg [(⟨m.id, m.unit, m.pdu⟩ : TMsg)])] [(4, oB false 3 eMsg (l ++ [(⟨m.id, m.unit, m.pdu⟩ : TMsg)]))] [(4, oB false 3 eMsg (l ++ [(⟨m.id, m.unit, m.pdu⟩ : TMsg)])), (3, oB true 3 eMsg [(⟨m.id, m.unit, m.pdu⟩ : TMsg)]), (2, .obj [pI m.id, pI m.unit, pS 1 false enc8 m.pdu]), (0, .obj [PV.ref 1 0 none, pI k, pI r])] rfl rfl rfl rfl rfl rfl (s_appR0 (f := eMsg) (l := l) (xs := [(⟨m.id, m.unit, m.pdu⟩ : TMsg)]) tab_39 rfl tab_33 ⟨rfl, by decide, by decide⟩ (srcM tab_39 rfl (hM_ref0 (f := eMsg) rfl rfl)) rfl rfl (by first | omega | (simp; omega)) ⟨rfl, rfl, rfl⟩) rfl ⟨rfl, trivial⟩ rfl rfl ?_
    refine d_op ?_
    refine x_run0 [(22, PV.ptr 0 0)] [0, 1, 2, 3, 4, 5, 6, 7, 8] rfl rfl rfl rfl (s_nilCheck rfl trivial ⟨rfl, rfl, rfl⟩) ?_
    refine d_op ?_
    refine x_run0 [(31, PV.ptr 0 0)] [0, 1, 2, 3, 4, 5, 6, 7, 8, 9] rfl rfl rfl rfl (s_fa_ptr tab_68 rfl rfl tab_39 (by decide) rfl ⟨rfl, rfl, rfl⟩) ?_
    refine d_op ?_
    refine x_run [(32, PV.ptr 0 0), (30, PV.ref 4 0 none)] [0, 1, 2, 3, 4, 5, 6, 7, 8, 9, 10] [] [(0, .obj [PV.ref 1 0 none, pI k, pI r])] [(0, .obj [PV.ref 4 0 none, pI k, pI r])] [(0, .obj [PV.ref 4 0 none, pI k, pI r])] [(0, .obj [PV.ref 4 0 none, pI k, pI r]), (4, oB false 3 eMsg (l ++ [(⟨m.id, m.unit, m.pdu⟩ : TMsg)])), (3, oB true 3 eMsg [(⟨m.id, m.unit, m.pdu⟩ : TMsg)]), (2, .obj [pI m.id, pI m.unit, pS 1 false enc8 m.pdu])] rfl rfl rfl rfl rfl rfl (s_store_ptr tab_39 rfl rfl rfl rfl rfl (Nat.le_of_ble_eq_true rfl) ⟨rfl, rfl, rfl⟩) rfl trivial rfl rfl ?_
    refine d_end ⟨by kernel_rfl, ?_⟩
    refine q_then ?_
    refine w_seq ?_
    refine w_R ?_
    refine r_op tabOk hnt rfl (s_assign rfl ?_) 
    refine r_end ?_
    refine q_then ?_
    refine w_le (s := 4) (y := pB (decide ((l.length : Int) < k))) rfl (le_of_eq (congrArg (fun z : Bool => pB z) (show true = decide ((l.length : Int) < k) by simp [hn, qL, qR]))) ?_
    refine w_leC (n := 0) (j := 2) (y := pI (qR l k r)) rfl rfl (le_of_eq (congrArg (fun z : Int => pI z) (show r = qR l k r by simp [hn, qL, qR]))) ?_
    refine w_H (H' := [(0, .obj [PV.ref 4 0 none, pI k, pI (qR l k r)]), (4, oB false 3 eMsg (qL l k m)), (3, oB true 3 eMsg [(⟨m.id, m.unit, m.pdu⟩ : TMsg)]), (2, .obj [pI m.id, pI m.unit, pS 1 false enc8 m.pdu])]) (congrArg (fun z => ([(0, .obj [PV.ref 4 0 none, pI k, pI (qR l k r)]), (4, oB false 3 eMsg z), (3, oB true 3 eMsg [(⟨m.id, m.unit, m.pdu⟩ : TMsg)]), (2, .obj [pI m.id, pI m.unit, pS 1 false enc8 m.pdu])] : Heap)) (show l ++ [(⟨m.id, m.unit, m.pdu⟩ : TMsg)] = qL l k m by simp [hn, qL, qR])) ?_
    refine w_ret ?_
    exact fin_names (nx1 := 3) (H1 := [(0, .obj [PV.ref 2 0 none, pI k, pI (qR l k r)]), (2, oB false 3 eMsg (qL l k m))]) [(0, 0), (2, 4)] (ret_tmp rfl ret_nil) rfl (by decide) ⟨⟨_, _, rfl, rfl, rfl, rfl⟩, ⟨_, _, rfl, rfl, rfl, rfl⟩, trivial⟩ (by decide) rfl ⟨rfl, rfl, rfl⟩

theorem w_quota_Queue_Len (l : List TMsg) (k : Int) (r : Int)  :
    T Try.prog 21 [PV.ptr 0 0] 2 [(0, .obj [PV.ref 1 0 none, pI k, pI r]), (1, oB false 3 eMsg l)] (Ret (pN l.length) 3 [(0, .obj [PV.ref 2 0 none, pI k, pI r]), (2, oB false 3 eMsg l)]) := by
  refine t_fun tabOk (n := 8) (rs := [.tmp 2]) Try.func21 rfl rfl rfl rfl (Nat.le_of_ble_eq_true rfl) ?_
  intro c hnt hk
  refine w_seq ?_
  refine w_R ?_
  refine r_op tabOk hnt rfl (s_assign rfl ?_) 
  refine r_end ?_
  refine q_then ?_
  refine w_seq ?_
  refine w_R ?_
  refine r_op tabOk hnt rfl (s_move rfl ?_) 
  refine r_op tabOk hnt rfl (s_nilCheck rfl trivial ?_) 
  refine r_op tabOk hnt rfl (s_fa_ptr tab_68 rfl rfl tab_39 (by decide) rfl ?_) 
  refine r_op tabOk hnt rfl (s_load_ptr1 tab_39 rfl rfl rfl rfl rfl ?_) 
  refine r_op tabOk hnt rfl (s_lenM (l := l) tab_39 rfl (hM_ref0 (f := eMsg) rfl rfl) ?_) 
  refine r_op tabOk hnt rfl (s_assign rfl ?_) 
  refine r_end ?_
  refine q_then ?_
  refine w_ret ?_
  exact fin_names (nx1 := 3) (H1 := [(0, .obj [PV.ref 2 0 none, pI k, pI r]), (2, oB false 3 eMsg l)]) [(0, 0), (2, 1)] (ret_tmp rfl ret_nil) rfl (by decide) ⟨⟨_, _, rfl, rfl, rfl, rfl⟩, ⟨_, _, rfl, rfl, rfl, rfl⟩, trivial⟩ (by decide) rfl ⟨rfl, rfl, rfl⟩

theorem w_quota_Queue_Refused (l : List TMsg) (k : Int) (r : Int)  :
    T Try.prog 38 [PV.ptr 0 0] 2 [(0, .obj [PV.ref 1 0 none, pI k, pI r]), (1, oB false 3 eMsg l)] (Ret (pI r) 3 [(0, .obj [PV.ref 2 0 none, pI k, pI r]), (2, oB false 3 eMsg l)]) := by
  refine t_fun tabOk (n := 7) (rs := [.tmp 2]) Try.func38 rfl rfl rfl rfl (Nat.le_of_ble_eq_true rfl) ?_
  intro c hnt hk
  refine w_seq ?_
  refine w_R ?_
  refine r_op tabOk hnt rfl (s_assign rfl ?_) 
  refine r_end ?_
  refine q_then ?_
  refine w_seq ?_
  refine w_R ?_
  refine r_op tabOk hnt rfl (s_move rfl ?_) 
  refine r_op tabOk hnt rfl (s_nilCheck rfl trivial ?_) 
  refine r_op tabOk hnt rfl (s_fa_ptr tab_68 rfl rfl tab_3 (by decide) rfl ?_) 
  refine r_op tabOk hnt rfl (s_load_ptr1 tab_3 rfl rfl rfl rfl rfl ?_) 
  refine r_op tabOk hnt rfl (s_assign rfl ?_) 
  refine r_end ?_
  refine q_then ?_
  refine w_ret ?_
  exact fin_names (nx1 := 3) (H1 := [(0, .obj [PV.ref 2 0 none, pI k, pI r]), (2, oB false 3 eMsg l)]) [(0, 0), (2, 1)] (ret_tmp rfl ret_nil) rfl (by decide) ⟨⟨_, _, rfl, rfl, rfl, rfl⟩, ⟨_, _, rfl, rfl, rfl, rfl⟩, trivial⟩ (by decide) rfl ⟨rfl, rfl, rfl⟩

theorem w_quota_Queue_All (l : List TMsg) (k : Int) (r : Int) (hl : l.length ≤ 1000) (hs : ∀ m ∈ l, m.pdu.length ≤ 140737488351232) :
    T Try.prog 22 [PV.ptr 0 0] 2 [(0, .obj [PV.ref 1 0 none, pI k, pI r]), (1, oB false 3 eMsg l)] (Ret (pS 3 true eMsg l) 3 [(0, .obj [PV.ref 2 0 none, pI k, pI r]), (2, oB false 3 eMsg l)]) := by
  refine t_fun tabOk (n := 23) (rs := [.tmp 2]) Try.func22 rfl rfl rfl rfl (Nat.le_of_ble_eq_true rfl) ?_
  intro c hnt hk
  refine w_seq ?_
  refine w_R ?_
  refine r_op tabOk hnt rfl (s_assign rfl ?_) 
  refine r_end ?_
  refine q_then ?_
  refine w_seq ?_
  refine w_R ?_
  refine r_op tabOk hnt rfl (s_assign rfl ?_) 
  refine r_end ?_
  refine q_then ?_
  refine w_seq ?_
  refine w_seq ?_
  refine w_R ?_
  refine r_op tabOk hnt rfl (s_move rfl ?_) 
  refine r_op tabOk hnt rfl (s_nilCheck rfl trivial ?_) 
  refine r_op tabOk hnt rfl (s_fa_ptr tab_68 rfl rfl tab_39 (by decide) rfl ?_) 
  refine r_op tabOk hnt rfl (s_load_ptr1 tab_39 rfl rfl rfl rfl rfl ?_) 
  refine r_op tabOk hnt rfl (s_lenM (l := l) tab_39 rfl (hM_ref0 (f := eMsg) rfl rfl) ?_) 
  refine r_op tabOk hnt rfl (s_move rfl ?_) 
  refine r_end ?_
  refine q_then ?_
  refine w_block ?_
  refine w_adopt (s := 3) (sz := 3) rfl ?_
  refine loop2 (fun (os : List TMsg) (i : Nat) => i ≤ l.length ∧ os = l.take i) (fun (os : List TMsg) (i : Nat) => [(3, PV.ref 2 0 none), (9, PV.ref 1 0 none), (10, pN l.length), (11, pN i)]) 3 (fun (os : List TMsg) (i : Nat) => [(0, .obj [PV.ref 1 0 none, pI k, pI r]), (1, oB false 3 eMsg l), (2, oB true 3 eMsg os)]) (fun (os : List TMsg) (i : Nat) => l.length - i) (([] : List TMsg)) (0) ?_ ⟨[(0, 0), (1, 1), (2, 2)], by rw [hk]; decide, ⟨⟨_, rfl, rfl, rfl⟩, ⟨_, rfl, rfl, rfl⟩, ⟨_, rfl, rfl, rfl⟩, ⟨_, rfl, rfl, rfl⟩, trivial⟩, ⟨⟨_, _, rfl, rfl, rfl, rfl⟩, ⟨_, _, rfl, rfl, rfl, rfl⟩, ⟨_, _, rfl, rfl, rfl, rfl⟩, trivial⟩, by rw [hk]; decide⟩ ?_
  · exact ⟨Nat.zero_le _, rfl⟩
  ·
    intro os i hI
    obtain ⟨hi, ho⟩ := hI
    have hol : os.length = i := by rw [ho]; simp; omega
    refine w_seq ?_
    refine w_R ?_
    refine r_op tabOk hnt rfl (s_lss rfl rfl ?_) 
    refine r_end ?_
    refine q_then ?_
    refine w_seq ?_
    refine w_if rfl (fun c1 => ?_) (fun c1 => ?_)
    ·
      have c1_ := c1
      try simp only [decide_eq_true_eq, decide_eq_false_iff_not, Bool.not_eq_true', Bool.not_eq_false', Bool.not_true, Bool.not_false, Bool.not_eq_eq_eq_not, Int.not_lt, Int.not_le] at c1
      refine w_skip ?_
      refine q_then ?_
      refine w_seq ?_
      refine w_block ?_
      refine w_seq ?_
      refine w_R ?_
      refine r_op tabOk hnt rfl (s_iaR0 (q := i) (f := eMsg) (l := l) tab_39 rfl tab_33 rfl rfl (by omega) rfl rfl (by omega) ?_) 
      obtain ⟨e1, he1⟩ := get_of_lt l (i := i) (by omega)
      refine r_op tabOk hnt rfl (s_ldA (b := e1) tab_33 rfl rfl rfl he1 rfl rfl ?_) 
      refine r_op tabOk hnt rfl (s_alloc tab_33 ?_) 
      refine r_op tabOk hnt rfl (s_store_ptr tab_33 rfl rfl rfl rfl rfl (Nat.le_of_ble_eq_true rfl) ?_) 
      refine r_set [(3, PV.ref 2 0 none), (5, PV.ptr 3 0), (9, PV.ref 1 0 none), (10, pN l.length), (11, pN i)] [(3, .obj [pI e1.id, pI e1.unit, pS 1 false enc8 e1.pdu]), (0, .obj [PV.ref 1 0 none, pI k, pI r]), (1, oB false 3 eMsg l), (2, oB true 3 eMsg os)] 4 ⟨rfl, rfl, rfl, rfl, rfl, trivial⟩ rfl rfl ?_
      refine r_end ?_
      refine q_then ?_
      have hm1 := hs e1 (List.mem_of_getElem? he1)
      refine w_R ?_
      refine r_op tabOk hnt rfl (s_move rfl ?_) 
      refine r_op tabOk hnt rfl (s_load_ptr tab_33 rfl rfl rfl (Nat.le_of_ble_eq_true rfl) ?_) 
      refine r_op tabOk hnt rfl (s_callF rfl rfl rfl (w_quota_own (⟨e1.id, e1.unit, e1.pdu⟩ : TMsg) (by first | omega | assumption | (simp; omega) | decide | (simp; done))) rfl ?_) 
      refine r_op tabOk hnt rfl (s_mkM (f := eMsg) [(⟨e1.id, e1.unit, e1.pdu⟩ : TMsg)] tab_39 rfl tab_33 ⟨rfl, by decide⟩ (by decide) rfl rfl rfl rfl ?_) 
      refine r_op tabOk hnt rfl (s_appR0 (f := eMsg) (l := os) (xs := [(⟨e1.id, e1.unit, e1.pdu⟩ : TMsg)]) tab_39 rfl tab_33 ⟨rfl, by decide, by decide⟩ (srcM tab_39 rfl (hM_ref0 (f := eMsg) rfl rfl)) rfl rfl (by first | omega | (simp; omega)) ?_) 
      refine r_op tabOk hnt rfl (s_assign rfl ?_) 
      refine r_set [(3, PV.ref 5 0 none), (9, PV.ref 1 0 none), (10, pN l.length), (11, pN i)] [(5, oB true 3 eMsg (os ++ [(⟨e1.id, e1.unit, e1.pdu⟩ : TMsg)])), (4, oB true 3 eMsg [(⟨e1.id, e1.unit, e1.pdu⟩ : TMsg)]), (3, .obj [pI e1.id, pI e1.unit, pS 1 false enc8 e1.pdu]), (0, .obj [PV.ref 1 0 none, pI k, pI r]), (1, oB false 3 eMsg l)] 6 ⟨rfl, rfl, rfl, rfl, trivial⟩ rfl rfl ?_
      refine r_end ?_
      refine q_block ?_
      refine q_then ?_
      refine w_R ?_
      refine r_op tabOk hnt rfl (s_addN (a := i) (b := 1) rfl rfl (by omega) (by omega) (by omega) ?_) 
      refine r_op tabOk hnt rfl (s_move rfl ?_) 
      refine r_end ?_
      refine q_then ?_
      refine ⟨(os ++ [(⟨e1.id, e1.unit, e1.pdu⟩ : TMsg)]), (i + 1), ?_, ?_, ⟨[(0, 0), (1, 1), (2, 5)], by rw [hk]; decide, ⟨⟨_, rfl, rfl, rfl⟩, ⟨_, rfl, rfl, rfl⟩, ⟨_, rfl, rfl, rfl⟩, ⟨_, rfl, rfl, rfl⟩, trivial⟩, ⟨⟨_, _, rfl, rfl, rfl, rfl⟩, ⟨_, _, rfl, rfl, rfl, rfl⟩, ⟨_, _, rfl, rfl, rfl, rfl⟩, trivial⟩, by rw [hk]; decide⟩⟩
      ·
        exact ⟨by omega, by rw [List.take_add_one, he1, ho]; rfl⟩
      · omega
    ·
      have c1_ := c1
      try simp only [decide_eq_true_eq, decide_eq_false_iff_not, Bool.not_eq_true', Bool.not_eq_false', Bool.not_true, Bool.not_false, Bool.not_eq_eq_eq_not, Int.not_lt, Int.not_le] at c1
      refine w_exit ?_
      refine q_then_exit ?_
      refine q_then_exit ?_
      refine q_block_exit ?_
      refine q_then ?_
      refine w_seq ?_
      refine w_R ?_
      refine r_op tabOk hnt rfl (s_move rfl ?_) 
      refine r_op tabOk hnt rfl (s_callX (r2 := pS 3 true eMsg os) (nx1 := 3) (H2 := [(2, oB false 3 eMsg os), (0, .obj [PV.ref 1 0 none, pI k, pI r]), (1, oB false 3 eMsg l)]) (H3 := [(2, oB false 3 eMsg os), (0, .obj [PV.ref 1 0 none, pI k, pI r]), (1, oB false 3 eMsg l)]) [] [] rfl rfl rfl (handed_of (by decide) trivial) rfl rfl rfl rfl rfl rfl (w_slices_Clip_mbap_Msg_mbap_Msg os false) rfl (dist_of rfl) rfl rfl rfl rfl ?_) 
      refine r_op tabOk hnt rfl (s_assign rfl ?_) 
      refine r_set [(2, pS 3 true eMsg os)] [(2, oB false 3 eMsg os), (0, .obj [PV.ref 1 0 none, pI k, pI r]), (1, oB false 3 eMsg l)] 3 ⟨rfl, trivial⟩ rfl rfl ?_
      refine r_end ?_
      refine q_then ?_
      refine w_le (s := 2) (y := pS 3 true eMsg l) rfl (le_of_eq (congrArg (fun z => pS 3 true eMsg z) (show os = l by rw [ho, List.take_of_length_le (by omega)]))) ?_
      refine w_ret ?_
      exact fin_names (nx1 := 3) (H1 := [(0, .obj [PV.ref 2 0 none, pI k, pI r]), (2, oB false 3 eMsg l)]) [(0, 0), (2, 1)] (ret_tmp rfl ret_nil) rfl (by decide) ⟨⟨_, _, rfl, rfl, rfl, rfl⟩, ⟨_, _, rfl, rfl, rfl, rfl⟩, trivial⟩ (by decide) rfl ⟨rfl, rfl, rfl⟩

theorem w_quota_Queue_Clear (l : List TMsg) (k : Int) (r : Int) (hl : l.length ≤ 1000) (hs : ∀ m ∈ l, m.pdu.length ≤ 140737488351232) :
    T Try.prog 23 [PV.ptr 0 0] 2 [(0, .obj [PV.ref 1 0 none, pI k, pI r]), (1, oB false 3 eMsg l)] (Ret (pS 3 true eMsg l) 3 [(0, .obj [PV.ref 2 0 none, pI k, pI r]), (2, oB false 3 eMsg ([] : List TMsg))]) := by
  refine t_fun tabOk (n := 10) (rs := [.tmp 2]) Try.func23 rfl rfl rfl rfl (Nat.le_of_ble_eq_true rfl) ?_
  intro c hnt hk
  refine w_seq ?_
  refine w_R ?_
  refine r_op tabOk hnt rfl (s_assign rfl ?_) 
  refine r_end ?_
  refine q_then ?_
  refine w_seq ?_
  refine w_R ?_
  refine r_op tabOk hnt rfl (s_move rfl ?_) 
  refine r_op tabOk hnt rfl (s_callX (r2 := pS 3 true eMsg l) (nx1 := 3) (H2 := [(0, .obj [PV.ref 1 0 none, pI k, pI r]), (1, oB false 3 eMsg l)]) (H3 := [(0, .obj [PV.ref 2 0 none, pI k, pI r]), (2, oB false 3 eMsg l)]) [0, 1] [.obj [PV.ref 1 0 none, pI k, pI r], oB false 3 eMsg l] rfl rfl rfl (handed_of (by decide) ⟨rfl, rfl, trivial⟩) rfl rfl rfl rfl rfl rfl (w_quota_Queue_All l k r (by first | omega | assumption | (simp; omega) | decide | (simp; done)) (by first | omega | assumption | (simp; omega) | decide | (simp; done))) rfl (dist_of rfl) rfl rfl rfl rfl ?_) 
  refine r_op tabOk hnt rfl (s_assign rfl ?_) 
  refine r_set [(0, PV.ptr 0 0), (3, pS 3 true eMsg l)] [(0, .obj [PV.ref 2 0 none, pI k, pI r]), (2, oB false 3 eMsg l)] 3 ⟨rfl, rfl, trivial⟩ rfl rfl ?_
  refine r_end ?_
  refine q_then ?_
  refine w_seq ?_
  refine w_R ?_
  refine r_op tabOk hnt rfl (s_move rfl ?_) 
  refine r_op tabOk hnt rfl (s_nilCheck rfl trivial ?_) 
  refine r_op tabOk hnt rfl (s_fa_ptr tab_68 rfl rfl tab_39 (by decide) rfl ?_) 
  refine r_op tabOk hnt rfl (s_store_ptr tab_39 rfl rfl rfl rfl rfl (Nat.le_of_ble_eq_true rfl) ?_) 
  refine r_set [(3, pS 3 true eMsg l)] [(0, .obj [pNil, pI k, pI r]), (2, oB false 3 eMsg l)] 3 ⟨rfl, trivial⟩ rfl rfl ?_
  refine r_end ?_
  refine q_then ?_
  refine w_seq ?_
  refine w_R ?_
  refine r_op tabOk hnt rfl (s_move rfl ?_) 
  refine r_op tabOk hnt rfl (s_assign rfl ?_) 
  refine r_end ?_
  refine q_then ?_
  refine w_adoptC (n := 0) (j := 0) (sz := 3) rfl rfl rfl ?_
  refine w_low (n := 3) rfl ?_
  refine w_ret ?_
  exact fin_names (nx1 := 3) (H1 := [(0, .obj [PV.ref 2 0 none, pI k, pI r]), (2, oB false 3 eMsg ([] : List TMsg))]) [(0, 0), (2, 3)] (ret_tmp rfl ret_nil) rfl (by decide) ⟨⟨_, _, rfl, rfl, rfl, rfl⟩, ⟨_, _, rfl, rfl, rfl, rfl⟩, trivial⟩ (by decide) rfl ⟨rfl, rfl, rfl⟩

theorem w_burgagelaw20_same (a : TMsg) (b : TAsk)  :
    T Try.prog 36 [PV.f (eMsg a), PV.f (eAsk b)] 0 [] (Ret (pB (decide (mKey a = aKey b))) 0 []) := by
  refine t_fun tabOk (n := 19) (rs := [.tmp 4]) Try.func36 rfl rfl rfl rfl (Nat.le_of_ble_eq_true rfl) ?_
  intro c hnt hk
  refine w_seq ?_
  refine w_R ?_
  refine r_op tabOk hnt rfl (s_box rfl rfl ?_) 
  refine r_op tabOk hnt rfl (s_box rfl rfl ?_) 
  refine r_op tabOk hnt rfl (s_assign rfl ?_) 
  refine r_set [(2, PV.ptr 0 0), (3, PV.ptr 1 0)] [(1, .obj [pI b.kind, pI b.id, pS 1 false enc8 b.pdu]), (0, .obj [pI a.id, pI a.unit, pS 1 false enc8 a.pdu])] 2 ⟨rfl, rfl, trivial⟩ rfl rfl ?_
  refine r_end ?_
  refine q_then ?_
  refine w_seq ?_
  refine w_R ?_
  refine r_op tabOk hnt rfl (s_fa_ptr tab_33 rfl rfl tab_3 (by decide) rfl ?_) 
  refine r_op tabOk hnt rfl (s_load_ptr1 tab_3 rfl rfl rfl rfl rfl ?_) 
  refine r_op tabOk hnt rfl (s_fa_ptr tab_25 rfl rfl tab_3 (by decide) rfl ?_) 
  refine r_op tabOk hnt rfl (s_load_ptr1 tab_3 rfl rfl rfl rfl rfl ?_) 
  refine r_op tabOk hnt rfl (s_eql rfl rfl ?_) 
  refine r_op tabOk hnt rfl (s_move rfl ?_) 
  refine r_if tabOk hnt rfl rfl rfl (fun g1 => ?_) (fun g1 => ?_)
  ·
    have g1' := g1
    try simp only [decide_eq_true_eq, decide_eq_false_iff_not, Bool.not_eq_true', Bool.not_eq_false', Bool.not_true, Bool.not_false, Bool.not_eq_eq_eq_not, Int.not_lt, Int.not_le] at g1'
    have e1 : a.id = b.id := by simpa using g1
    refine r_op tabOk hnt rfl (s_fa_ptr tab_33 rfl rfl tab_23 (by decide) rfl ?_) 
    refine r_if tabOk hnt rfl rfl rfl (fun _ => ?_) (fun e => absurd (e.symm.trans g1) (by decide))
    refine r_op tabOk hnt rfl (s_load_ptr1 tab_23 rfl rfl rfl rfl rfl ?_) 
    refine r_if tabOk hnt rfl rfl rfl (fun _ => ?_) (fun e => absurd (e.symm.trans g1) (by decide))
    refine r_op tabOk hnt rfl (s_cvT tab_23 tab_9 rfl tab_5 rfl rfl (hM_sl (f := enc8) rfl) ?_) 
    refine r_if tabOk hnt rfl rfl rfl (fun _ => ?_) (fun e => absurd (e.symm.trans g1) (by decide))
    refine r_op tabOk hnt rfl (s_fa_ptr tab_25 rfl rfl tab_23 (by decide) rfl ?_) 
    refine r_if tabOk hnt rfl rfl rfl (fun _ => ?_) (fun e => absurd (e.symm.trans g1) (by decide))
    refine r_op tabOk hnt rfl (s_load_ptr1 tab_23 rfl rfl rfl rfl rfl ?_) 
    refine r_if tabOk hnt rfl rfl rfl (fun _ => ?_) (fun e => absurd (e.symm.trans g1) (by decide))
    refine r_op tabOk hnt rfl (s_cvT tab_23 tab_9 rfl tab_5 rfl rfl (hM_sl (f := enc8) rfl) ?_) 
    refine r_if tabOk hnt rfl rfl rfl (fun _ => ?_) (fun e => absurd (e.symm.trans g1) (by decide))
    refine r_op tabOk hnt rfl (s_eqtext (l := a.pdu) (m := b.pdu) rfl rfl ?_) 
    refine r_op tabOk hnt rfl (s_pick_t rfl g1 rfl ?_) 
    refine r_op tabOk hnt rfl (s_assign rfl ?_) 
    refine r_end ?_
    refine q_then ?_
    refine w_le (s := 4) (y := pB (decide (mKey a = aKey b))) rfl (le_of_eq (congrArg (fun z : Bool => pB z) (show decide (a.pdu = b.pdu) = decide (mKey a = aKey b) by simp [mKey, aKey, e1]))) ?_
    refine w_ret ?_
    exact fin_plain (ret_tmp rfl ret_nil) rfl rfl ⟨rfl, rfl, rfl⟩
  ·
    have g1' := g1
    try simp only [decide_eq_true_eq, decide_eq_false_iff_not, Bool.not_eq_true', Bool.not_eq_false', Bool.not_true, Bool.not_false, Bool.not_eq_eq_eq_not, Int.not_lt, Int.not_le] at g1'
    have e1 : a.id ≠ b.id := by simpa using g1
    refine r_if tabOk hnt rfl rfl rfl (fun e => absurd (e.symm.trans g1) (by decide)) (fun _ => ?_)
    refine r_if tabOk hnt rfl rfl rfl (fun e => absurd (e.symm.trans g1) (by decide)) (fun _ => ?_)
    refine r_if tabOk hnt rfl rfl rfl (fun e => absurd (e.symm.trans g1) (by decide)) (fun _ => ?_)
    refine r_if tabOk hnt rfl rfl rfl (fun e => absurd (e.symm.trans g1) (by decide)) (fun _ => ?_)
    refine r_if tabOk hnt rfl rfl rfl (fun e => absurd (e.symm.trans g1) (by decide)) (fun _ => ?_)
    refine r_if tabOk hnt rfl rfl rfl (fun e => absurd (e.symm.trans g1) (by decide)) (fun _ => ?_)
    refine r_op tabOk hnt rfl (s_pick_f rfl g1 rfl ?_) 
    refine r_op tabOk hnt rfl (s_assign rfl ?_) 
    refine r_end ?_
    refine q_then ?_
    refine w_le (s := 4) (y := pB (decide (mKey a = aKey b))) rfl (le_of_eq (congrArg (fun z : Bool => pB z) (show false = decide (mKey a = aKey b) by simp [mKey, aKey, e1]))) ?_
    refine w_ret ?_
    exact fin_plain (ret_tmp rfl ret_nil) rfl rfl ⟨rfl, rfl, rfl⟩

theorem w_burgagelaw20_rows (a : List TMsg) (cl_a : Bool) (b : List TAsk) (cl_b : Bool) (ha : a.length ≤ 1000000) :
    T Try.prog 37 [pS 3 cl_a eMsg a, pS 3 cl_b eAsk b] 0 [] (Ret (pB (decide (a.map mKey = b.map aKey))) 0 []) := by
  refine t_fun tabOk (n := 27) (rs := [.tmp 4]) Try.func37 rfl rfl rfl rfl (Nat.le_of_ble_eq_true rfl) ?_
  intro c hnt hk
  refine w_seq ?_
  refine w_R ?_
  refine r_op tabOk hnt rfl (s_assign rfl ?_) 
  refine r_end ?_
  refine q_then ?_
  refine w_seq ?_
  refine w_seq ?_
  refine w_R ?_
  refine r_op tabOk hnt rfl (s_move rfl ?_) 
  refine r_op tabOk hnt rfl (s_lenM (l := a) tab_39 rfl (hM_sl (f := eMsg) rfl) ?_) 
  refine r_op tabOk hnt rfl (s_move rfl ?_) 
  refine r_op tabOk hnt rfl (s_lenM (l := b) tab_22 rfl (hM_sl (f := eAsk) rfl) ?_) 
  refine r_op tabOk hnt rfl (s_neq rfl rfl ?_) 
  refine r_end ?_
  refine q_then ?_
  refine w_if rfl (fun c1 => ?_) (fun c1 => ?_)
  ·
    have c1_ := c1
    try simp only [decide_eq_true_eq, decide_eq_false_iff_not, Bool.not_eq_true', Bool.not_eq_false', Bool.not_true, Bool.not_false, Bool.not_eq_eq_eq_not, Int.not_lt, Int.not_le] at c1
    have hne : a.map mKey ≠ b.map aKey := fun e => by have := congrArg List.length e; simp at this; omega
    refine w_seq ?_
    refine w_R ?_
    refine r_op tabOk hnt rfl (s_assign rfl ?_) 
    refine r_end ?_
    refine q_then ?_
    refine w_le (s := 4) (y := pB (decide (a.map mKey = b.map aKey))) rfl (le_of_eq (congrArg (fun z : Bool => pB z) (show false = decide (a.map mKey = b.map aKey) by simp [hne]))) ?_
    refine w_ret ?_
    refine q_then_ret ?_
    exact fin_plain (ret_tmp rfl ret_nil) rfl rfl ⟨rfl, rfl, rfl⟩
  ·
    have c1_ := c1
    try simp only [decide_eq_true_eq, decide_eq_false_iff_not, Bool.not_eq_true', Bool.not_eq_false', Bool.not_true, Bool.not_false, Bool.not_eq_eq_eq_not, Int.not_lt, Int.not_le] at c1
    have hlm : a.length = b.length := by omega
    refine w_skip ?_
    refine q_then ?_
    refine w_seq ?_
    refine w_seq ?_
    refine w_R ?_
    refine r_op tabOk hnt rfl (s_move rfl ?_) 
    refine r_op tabOk hnt rfl (s_lenM (l := a) tab_39 rfl (hM_sl (f := eMsg) rfl) ?_) 
    refine r_op tabOk hnt rfl (s_move rfl ?_) 
    refine r_end ?_
    refine q_then ?_
    refine w_block ?_
    refine loop1 (fun (i : Nat) => i ≤ a.length ∧ (a.take i).map mKey = (b.take i).map aKey) (fun (i : Nat) => [(0, pS 3 cl_a eMsg a), (1, pS 3 cl_b eAsk b), (12, pN a.length), (13, pN i)]) 0 (fun (i : Nat) => []) (fun (i : Nat) => a.length - i) (0) ?_ ⟨[], rfl, ⟨⟨_, rfl, rfl, rfl⟩, ⟨_, rfl, rfl, rfl⟩, ⟨_, rfl, rfl, rfl⟩, ⟨_, rfl, rfl, rfl⟩, trivial⟩, trivial, by rw [hk]; decide⟩ ?_
    · exact ⟨Nat.zero_le _, by simp⟩
    ·
      intro i hI
      obtain ⟨hi, ht⟩ := hI
      refine w_seq ?_
      refine w_R ?_
      refine r_op tabOk hnt rfl (s_lss rfl rfl ?_) 
      refine r_end ?_
      refine q_then ?_
      refine w_seq ?_
      refine w_if rfl (fun c2 => ?_) (fun c2 => ?_)
      ·
        have c2_ := c2
        try simp only [decide_eq_true_eq, decide_eq_false_iff_not, Bool.not_eq_true', Bool.not_eq_false', Bool.not_true, Bool.not_false, Bool.not_eq_eq_eq_not, Int.not_lt, Int.not_le] at c2
        refine w_skip ?_
        refine q_then ?_
        refine w_seq ?_
        refine w_block ?_
        refine w_seq ?_
        refine w_R ?_
        refine r_op tabOk hnt rfl (s_move rfl ?_) 
        refine r_op tabOk hnt rfl (s_assign rfl ?_) 
        refine r_end ?_
        refine q_then ?_
        refine w_seq ?_
        refine W_drawn tabOk mixed hnt [[], [], [0, 1], [0, 1, 2], [], [], [4, 5], [4, 5, 6], [0, 1, 2, 3, 4, 5, 6, 7], [0, 1, 2, 3, 4, 5, 6, 7, 8]] (by kernel_rfl) ?_
        refine d_op ?_
        refine x_run0 [(0, pS 3 cl_a eMsg a)] [] rfl rfl rfl rfl (s_move rfl ⟨rfl, rfl, rfl⟩) ?_
        refine d_op ?_
        refine x_run0 [(5, pN i)] [] rfl rfl rfl rfl (s_move rfl ⟨rfl, rfl, rfl⟩) ?_
        refine d_op ?_
        obtain ⟨e1, he1⟩ := get_of_lt a (i := i) (by omega)
        refine x_run0 [(16, pS 3 cl_a eMsg a), (17, pN i)] [0, 1] rfl rfl rfl rfl (s_iaM (q := i) (b := e1) (f := eMsg) tab_39 rfl tab_33 rfl rfl (by omega) rfl he1 ⟨rfl, rfl, rfl⟩) ?_
        refine d_op ?_
        refine x_run0 [(18, PV.f (.ro (eMsg e1)))] [0, 1, 2] rfl rfl rfl rfl (s_load_ro tab_33 rfl rfl rfl ⟨rfl, rfl, rfl⟩) ?_
        refine d_op ?_
        refine x_run0 [(1, pS 3 cl_b eAsk b)] [] rfl rfl rfl rfl (s_move rfl ⟨rfl, rfl, rfl⟩) ?_
        refine d_op ?_
        refine x_run0 [(5, pN i)] [] rfl rfl rfl rfl (s_move rfl ⟨rfl, rfl, rfl⟩) ?_
        refine d_op ?_
        obtain ⟨e2, he2⟩ := get_of_lt b (i := i) (by omega)
        refine x_run0 [(20, pS 3 cl_b eAsk b), (21, pN i)] [4, 5] rfl rfl rfl rfl (s_iaM (q := i) (b := e2) (f := eAsk) tab_22 rfl tab_25 rfl rfl (by omega) rfl he2 ⟨rfl, rfl, rfl⟩) ?_
        refine d_op ?_
        refine x_run0 [(22, PV.f (.ro (eAsk e2)))] [4, 5, 6] rfl rfl rfl rfl (s_load_ro tab_25 rfl rfl rfl ⟨rfl, rfl, rfl⟩) ?_
        refine d_op ?_
        refine x_run0 [(19, PV.f (eMsg e1)), (23, PV.f (eAsk e2))] [0, 1, 2, 3, 4, 5, 6, 7] rfl rfl rfl rfl (s_callF rfl rfl rfl (w_burgagelaw20_same e1 e2) rfl ⟨rfl, rfl, rfl⟩) ?_
        refine d_op ?_
        refine x_run0 [(24, pB (decide (mKey e1 = aKey e2)))] [0, 1, 2, 3, 4, 5, 6, 7, 8] rfl rfl rfl rfl (s_not rfl ⟨rfl, rfl, rfl⟩) ?_
        refine d_end ⟨by kernel_rfl, ?_⟩
        refine q_then ?_
        refine w_if rfl (fun c3 => ?_) (fun c3 => ?_)
        ·
          have c3_ := c3
          try simp only [decide_eq_true_eq, decide_eq_false_iff_not, Bool.not_eq_true', Bool.not_eq_false', Bool.not_true, Bool.not_false, Bool.not_eq_eq_eq_not, Int.not_lt, Int.not_le] at c3
          have hne : a.map mKey ≠ b.map aKey := fun e => by have := congrArg (fun z => z[i]?) e; simp [he1, he2] at this; simp [this] at c3
          refine w_seq ?_
          refine w_R ?_
          refine r_op tabOk hnt rfl (s_assign rfl ?_) 
          refine r_end ?_
          refine q_then ?_
          refine w_le (s := 4) (y := pB (decide (a.map mKey = b.map aKey))) rfl (le_of_eq (congrArg (fun z : Bool => pB z) (show false = decide (a.map mKey = b.map aKey) by simp [hne]))) ?_
          refine w_ret ?_
          refine q_block_ret ?_
          refine q_then_ret ?_
          refine q_then_ret ?_
          refine q_block_ret ?_
          refine q_then_ret ?_
          exact fin_plain (ret_tmp rfl ret_nil) rfl rfl ⟨rfl, rfl, rfl⟩
        ·
          have c3_ := c3
          try simp only [decide_eq_true_eq, decide_eq_false_iff_not, Bool.not_eq_true', Bool.not_eq_false', Bool.not_true, Bool.not_false, Bool.not_eq_eq_eq_not, Int.not_lt, Int.not_le] at c3
          have c3 : mKey e1 = aKey e2 := by simpa using c3
          refine w_skip ?_
          refine q_block ?_
          refine q_then ?_
          refine w_R ?_
          refine r_op tabOk hnt rfl (s_addN (a := i) (b := 1) rfl rfl (by omega) (by omega) (by omega) ?_) 
          refine r_op tabOk hnt rfl (s_move rfl ?_) 
          refine r_end ?_
          refine q_then ?_
          refine ⟨(i + 1), ?_, ?_, ⟨[], rfl, ⟨⟨_, rfl, rfl, rfl⟩, ⟨_, rfl, rfl, rfl⟩, ⟨_, rfl, rfl, rfl⟩, ⟨_, rfl, rfl, rfl⟩, trivial⟩, trivial, by rw [hk]; decide⟩⟩
          ·
            refine ⟨by omega, ?_⟩
            rw [List.take_add_one, List.take_add_one, he1, he2, List.map_append, List.map_append, ht]
            simp [c3]
          · omega
      ·
        have c2_ := c2
        try simp only [decide_eq_true_eq, decide_eq_false_iff_not, Bool.not_eq_true', Bool.not_eq_false', Bool.not_true, Bool.not_false, Bool.not_eq_eq_eq_not, Int.not_lt, Int.not_le] at c2
        have he : a.map mKey = b.map aKey := by rw [← List.take_of_length_le (l := a) (i := i) (by omega), ← List.take_of_length_le (l := b) (i := i) (by omega), ht]
        refine w_exit ?_
        refine q_then_exit ?_
        refine q_then_exit ?_
        refine q_block_exit ?_
        refine q_then ?_
        refine w_seq ?_
        refine w_R ?_
        refine r_op tabOk hnt rfl (s_assign rfl ?_) 
        refine r_end ?_
        refine q_then ?_
        refine w_le (s := 4) (y := pB (decide (a.map mKey = b.map aKey))) rfl (le_of_eq (congrArg (fun z : Bool => pB z) (show true = decide (a.map mKey = b.map aKey) by simp [he]))) ?_
        refine w_ret ?_
        exact fin_plain (ret_tmp rfl ret_nil) rfl rfl ⟨rfl, rfl, rfl⟩

end Go.Proofs.Yteedhlgdbankiaa
