/- Walks: printed by a program of this session (wip/tools/walk2.py) out of its notes. -/
import Derived.Test.YtmcgjmpcfiefgaaWCount
set_option linter.unusedVariables false
set_option linter.unusedSimpArgs false
set_option maxRecDepth 10000
set_option maxHeartbeats 1000000
namespace Go.Proofs.Ytmcgjmpcfiefgaa
open Go Go.Proofs.Ytmcgjmpcfiefgaa.Pv

theorem w_burgagelaw19_known   :
    T Try.prog 15 [] 0 [] (Ret (pB true) 0 []) := by
 refine t_fun tabOk (n := 152) (rs := [.tmp 0]) Try.func15 rfl rfl rfl rfl (Nat.le_of_ble_eq_true rfl) ?_
 intro c hnt hk
 refine w_seq ?_
 refine w_R ?_
 refine qa hnt rfl rfl ?_
 refine r_end ?_
 refine q_then ?_
 refine w_seq ?_
 refine w_R ?_
 refine qo hnt rfl (s_callX (r2 := PV.ptr 0 0) (nx1 := 1) (H2 := []) (H3 := [(0, .obj [pI 0, pI 0, pI 0])]) [] [] rfl rfl rfl (handed_of (by decide) trivial) rfl rfl rfl rfl rfl rfl (w_count_New) rfl (dist_of rfl) rfl rfl rfl rfl ?_)
 refine qa hnt rfl rfl ?_
 refine r_set [(1, PV.ptr 0 0)] [(0, .obj [pI 0, pI 0, pI 0])] 1 ⟨rfl, trivial⟩ rfl rfl ?_
 refine r_end ?_
 refine q_then ?_
 refine w_seq ?_
 refine w_seq ?_
 refine w_R ?_
 refine qm hnt rfl rfl ?_
 refine qo hnt rfl (s_ptrnil tab_38 rfl rfl trivial ?_)
 refine r_end ?_
 refine q_then ?_
 refine w_if rfl (fun e => absurd e (by decide)) (fun _ => ?_)
 refine w_skip ?_
 refine q_then ?_
 refine w_seq ?_
 refine w_R ?_
 refine qm hnt rfl rfl ?_
 refine qo hnt rfl (s_callX (r2 := PV.tup [p16 (cntGet 0 0 0 11), pB (cntOk 11)]) (nx1 := 1) (H2 := [(0, .obj [pI 0, pI 0, pI 0])]) (H3 := [(0, .obj [pI 0, pI 0, pI 0])]) [0] [.obj [pI 0, pI 0, pI 0]] rfl rfl rfl (handed_of (by decide) ⟨rfl, trivial⟩) rfl rfl rfl rfl rfl rfl (w_count_Count_Get 0 0 0 11) rfl (dist_of rfl) rfl rfl rfl rfl ?_)
 refine qm hnt rfl rfl ?_
 refine qo hnt rfl (s_extract rfl rfl ?_)
 refine qo hnt rfl (s_extract rfl rfl ?_)
 refine qa hnt rfl rfl ?_
 refine qa hnt rfl rfl ?_
 refine r_set [(1, PV.ptr 0 0), (2, p16 (cntGet 0 0 0 11)), (3, pB (cntOk 11))] [(0, .obj [pI 0, pI 0, pI 0])] 1 ⟨rfl, rfl, rfl, trivial⟩ rfl rfl ?_
 refine r_end ?_
 refine q_then ?_
 refine w_seq ?_
 refine w_R ?_
 refine qm hnt rfl rfl ?_
 refine qo hnt rfl (s_callX (r2 := PV.tup []) (nx1 := 1) (H2 := [(0, .obj [pI 0, pI 0, pI 0])]) (H3 := [(0, .obj [pI (min (0 + 1) 1073741824), pI 0, pI 0])]) [0] [.obj [pI 0, pI 0, pI 0]] rfl rfl rfl (handed_of (by decide) ⟨rfl, trivial⟩) rfl rfl rfl rfl rfl rfl (w_count_Count_Message 0 0 0 (by first | omega | assumption | (simp; omega) | decide | (simp; done))) rfl (dist_of rfl) rfl rfl rfl rfl ?_)
 refine r_set [(1, PV.ptr 0 0), (2, p16 (cntGet 0 0 0 11)), (3, pB (cntOk 11))] [(0, .obj [pI (min (0 + 1) 1073741824), pI 0, pI 0])] 1 ⟨rfl, rfl, rfl, trivial⟩ rfl rfl ?_
 refine r_end ?_
 refine q_then ?_
 refine w_seq ?_
 refine w_leC (n := 0) (j := 0) (y := pI 1) rfl rfl (le_of_eq (congrArg (fun z : Int => pI z) (show (min (0 + 1) 1073741824) = 1 by decide))) ?_
 refine w_R ?_
 refine qm hnt rfl rfl ?_
 refine qo hnt rfl (s_callX (r2 := PV.tup []) (nx1 := 1) (H2 := [(0, .obj [pI 1, pI 0, pI 0])]) (H3 := [(0, .obj [pI (min (1 + 1) 1073741824), pI 0, pI 0])]) [0] [.obj [pI 1, pI 0, pI 0]] rfl rfl rfl (handed_of (by decide) ⟨rfl, trivial⟩) rfl rfl rfl rfl rfl rfl (w_count_Count_Message 1 0 0 (by first | omega | assumption | (simp; omega) | decide | (simp; done))) rfl (dist_of rfl) rfl rfl rfl rfl ?_)
 refine r_set [(1, PV.ptr 0 0), (2, p16 (cntGet 0 0 0 11)), (3, pB (cntOk 11))] [(0, .obj [pI (min (1 + 1) 1073741824), pI 0, pI 0])] 1 ⟨rfl, rfl, rfl, trivial⟩ rfl rfl ?_
 refine r_end ?_
 refine q_then ?_
 refine w_seq ?_
 refine w_leC (n := 0) (j := 0) (y := pI 2) rfl rfl (le_of_eq (congrArg (fun z : Int => pI z) (show (min (1 + 1) 1073741824) = 2 by decide))) ?_
 refine w_R ?_
 refine qm hnt rfl rfl ?_
 refine qo hnt rfl (s_callX (r2 := PV.tup []) (nx1 := 1) (H2 := [(0, .obj [pI 2, pI 0, pI 0])]) (H3 := [(0, .obj [pI 2, pI (min (0 + 1) 1073741824), pI 0])]) [0] [.obj [pI 2, pI 0, pI 0]] rfl rfl rfl (handed_of (by decide) ⟨rfl, trivial⟩) rfl rfl rfl rfl rfl rfl (w_count_Count_Exception 2 0 0 (by first | omega | assumption | (simp; omega) | decide | (simp; done))) rfl (dist_of rfl) rfl rfl rfl rfl ?_)
 refine r_set [(1, PV.ptr 0 0), (2, p16 (cntGet 0 0 0 11)), (3, pB (cntOk 11))] [(0, .obj [pI 2, pI (min (0 + 1) 1073741824), pI 0])] 1 ⟨rfl, rfl, rfl, trivial⟩ rfl rfl ?_
 refine r_end ?_
 refine q_then ?_
 refine w_seq ?_
 refine w_leC (n := 0) (j := 1) (y := pI 1) rfl rfl (le_of_eq (congrArg (fun z : Int => pI z) (show (min (0 + 1) 1073741824) = 1 by decide))) ?_
 refine w_R ?_
 refine qm hnt rfl rfl ?_
 refine qo hnt rfl (s_callX (r2 := PV.tup []) (nx1 := 1) (H2 := [(0, .obj [pI 2, pI 1, pI 0])]) (H3 := [(0, .obj [pI 2, pI 1, pI (0 + (max 0 (min 5 (1073741824 - 0))))])]) [0] [.obj [pI 2, pI 1, pI 0]] rfl rfl rfl (handed_of (by decide) ⟨rfl, trivial⟩) rfl rfl rfl rfl rfl rfl (w_count_Count_Bad 2 1 0 5 (by first | omega | assumption | (simp; omega) | decide | (simp; done)) (by first | omega | assumption | (simp; omega) | decide | (simp; done))) rfl (dist_of rfl) rfl rfl rfl rfl ?_)
 refine r_set [(1, PV.ptr 0 0), (2, p16 (cntGet 0 0 0 11)), (3, pB (cntOk 11))] [(0, .obj [pI 2, pI 1, pI (0 + (max 0 (min 5 (1073741824 - 0))))])] 1 ⟨rfl, rfl, rfl, trivial⟩ rfl rfl ?_
 refine r_end ?_
 refine q_then ?_
 refine w_seq ?_
 refine w_leC (n := 0) (j := 2) (y := pI 5) rfl rfl (le_of_eq (congrArg (fun z : Int => pI z) (show (0 + (max 0 (min 5 (1073741824 - 0)))) = 5 by decide))) ?_
 refine w_R ?_
 refine qm hnt rfl rfl ?_
 refine qo hnt rfl (s_callX (r2 := PV.tup []) (nx1 := 1) (H2 := [(0, .obj [pI 2, pI 1, pI 5])]) (H3 := [(0, .obj [pI 2, pI 1, pI (5 + (max 0 (min (-5) (1073741824 - 5))))])]) [0] [.obj [pI 2, pI 1, pI 5]] rfl rfl rfl (handed_of (by decide) ⟨rfl, trivial⟩) rfl rfl rfl rfl rfl rfl (w_count_Count_Bad 2 1 5 (-5) (by first | omega | assumption | (simp; omega) | decide | (simp; done)) (by first | omega | assumption | (simp; omega) | decide | (simp; done))) rfl (dist_of rfl) rfl rfl rfl rfl ?_)
 refine r_set [(1, PV.ptr 0 0), (2, p16 (cntGet 0 0 0 11)), (3, pB (cntOk 11))] [(0, .obj [pI 2, pI 1, pI (5 + (max 0 (min (-5) (1073741824 - 5))))])] 1 ⟨rfl, rfl, rfl, trivial⟩ rfl rfl ?_
 refine r_end ?_
 refine q_then ?_
 refine w_seq ?_
 refine w_leC (n := 0) (j := 2) (y := pI 5) rfl rfl (le_of_eq (congrArg (fun z : Int => pI z) (show (5 + (max 0 (min (-5) (1073741824 - 5)))) = 5 by decide))) ?_
 refine w_R ?_
 refine qm hnt rfl rfl ?_
 refine qo hnt rfl (s_callX (r2 := PV.tup [p16 (cntGet 2 1 5 14), pB (cntOk 14)]) (nx1 := 1) (H2 := [(0, .obj [pI 2, pI 1, pI 5])]) (H3 := [(0, .obj [pI 2, pI 1, pI 5])]) [0] [.obj [pI 2, pI 1, pI 5]] rfl rfl rfl (handed_of (by decide) ⟨rfl, trivial⟩) rfl rfl rfl rfl rfl rfl (w_count_Count_Get 2 1 5 14) rfl (dist_of rfl) rfl rfl rfl rfl ?_)
 refine qm hnt rfl rfl ?_
 refine qo hnt rfl (s_extract rfl rfl ?_)
 refine qo hnt rfl (s_extract rfl rfl ?_)
 refine qa hnt rfl rfl ?_
 refine qa hnt rfl rfl ?_
 refine r_set [(1, PV.ptr 0 0), (2, p16 (cntGet 0 0 0 11)), (3, pB (cntOk 11)), (4, p16 (cntGet 2 1 5 14))] [(0, .obj [pI 2, pI 1, pI 5])] 1 ⟨rfl, rfl, rfl, rfl, trivial⟩ rfl rfl ?_
 refine r_end ?_
 refine q_then ?_
 refine w_seq ?_
 refine w_R ?_
 refine qm hnt rfl rfl ?_
 refine qo hnt rfl (s_callX (r2 := PV.tup [p16 (cntGet 2 1 5 12), pB (cntOk 12)]) (nx1 := 1) (H2 := [(0, .obj [pI 2, pI 1, pI 5])]) (H3 := [(0, .obj [pI 2, pI 1, pI 5])]) [0] [.obj [pI 2, pI 1, pI 5]] rfl rfl rfl (handed_of (by decide) ⟨rfl, trivial⟩) rfl rfl rfl rfl rfl rfl (w_count_Count_Get 2 1 5 12) rfl (dist_of rfl) rfl rfl rfl rfl ?_)
 refine qm hnt rfl rfl ?_
 refine qo hnt rfl (s_extract rfl rfl ?_)
 refine qo hnt rfl (s_extract rfl rfl ?_)
 refine qa hnt rfl rfl ?_
 refine qa hnt rfl rfl ?_
 refine r_set [(1, PV.ptr 0 0), (2, p16 (cntGet 0 0 0 11)), (3, pB (cntOk 11)), (4, p16 (cntGet 2 1 5 14)), (6, p16 (cntGet 2 1 5 12))] [(0, .obj [pI 2, pI 1, pI 5])] 1 ⟨rfl, rfl, rfl, rfl, rfl, trivial⟩ rfl rfl ?_
 refine r_end ?_
 refine q_then ?_
 refine w_seq ?_
 refine w_R ?_
 refine qm hnt rfl rfl ?_
 refine qo hnt rfl (s_callX (r2 := PV.tup [p16 (cntGet 2 1 5 13), pB (cntOk 13)]) (nx1 := 1) (H2 := [(0, .obj [pI 2, pI 1, pI 5])]) (H3 := [(0, .obj [pI 2, pI 1, pI 5])]) [0] [.obj [pI 2, pI 1, pI 5]] rfl rfl rfl (handed_of (by decide) ⟨rfl, trivial⟩) rfl rfl rfl rfl rfl rfl (w_count_Count_Get 2 1 5 13) rfl (dist_of rfl) rfl rfl rfl rfl ?_)
 refine qm hnt rfl rfl ?_
 refine qo hnt rfl (s_extract rfl rfl ?_)
 refine qo hnt rfl (s_extract rfl rfl ?_)
 refine qa hnt rfl rfl ?_
 refine qa hnt rfl rfl ?_
 refine r_set [(1, PV.ptr 0 0), (2, p16 (cntGet 0 0 0 11)), (3, pB (cntOk 11)), (4, p16 (cntGet 2 1 5 14)), (6, p16 (cntGet 2 1 5 12)), (8, p16 (cntGet 2 1 5 13))] [(0, .obj [pI 2, pI 1, pI 5])] 1 ⟨rfl, rfl, rfl, rfl, rfl, rfl, trivial⟩ rfl rfl ?_
 refine r_end ?_
 refine q_then ?_
 refine w_seq ?_
 refine w_R ?_
 refine qm hnt rfl rfl ?_
 refine qo hnt rfl (s_callX (r2 := PV.tup [p16 (cntGet 2 1 5 10), pB (cntOk 10)]) (nx1 := 1) (H2 := [(0, .obj [pI 2, pI 1, pI 5])]) (H3 := [(0, .obj [pI 2, pI 1, pI 5])]) [0] [.obj [pI 2, pI 1, pI 5]] rfl rfl rfl (handed_of (by decide) ⟨rfl, trivial⟩) rfl rfl rfl rfl rfl rfl (w_count_Count_Get 2 1 5 10) rfl (dist_of rfl) rfl rfl rfl rfl ?_)
 refine qm hnt rfl rfl ?_
 refine qo hnt rfl (s_extract rfl rfl ?_)
 refine qo hnt rfl (s_extract rfl rfl ?_)
 refine qa hnt rfl rfl ?_
 refine qa hnt rfl rfl ?_
 refine r_set [(1, PV.ptr 0 0), (2, p16 (cntGet 0 0 0 11)), (3, pB (cntOk 11)), (4, p16 (cntGet 2 1 5 14)), (6, p16 (cntGet 2 1 5 12)), (8, p16 (cntGet 2 1 5 13)), (11, pB (cntOk 10))] [(0, .obj [pI 2, pI 1, pI 5])] 1 ⟨rfl, rfl, rfl, rfl, rfl, rfl, rfl, trivial⟩ rfl rfl ?_
 refine r_end ?_
 refine q_then ?_
 refine w_seq ?_
 refine w_R ?_
 refine qm hnt rfl rfl ?_
 refine qo hnt rfl (s_mkM (f := enc16) ([0] : List UInt16) tab_29 rfl tab_30 ⟨rfl, by decide⟩ (by decide) rfl rfl rfl rfl ?_)
 refine qo hnt rfl (s_build tab_32 rfl rfl (b_cons rfl tab_3 rfl rfl rfl (Nat.le_of_ble_eq_true rfl) (b_cons rfl tab_3 rfl rfl rfl (Nat.le_of_ble_eq_true rfl) (b_cons rfl tab_29 rfl rfl rfl (Nat.le_of_ble_eq_true rfl) (b_nil ?_)))))
 obtain ⟨D1, hD1⟩ : ∃ z : TReply × Bool, z = cntDo 2 1 5 (⟨8, 0, 0, 0, 12, [], ([0] : List UInt16), 0, 0⟩ : TRequest) 1 := ⟨_, rfl⟩
 refine qo hnt rfl (s_callX (r2 := PV.f (eReply D1.1)) (nx1 := 2) (H2 := [(1, oB false 1 enc16 ([0] : List UInt16)), (0, .obj [pI 2, pI 1, pI 5])]) (H3 := [(0, .obj [pI (cC 2 D1.2), pI (cC 1 D1.2), pI (cC 5 D1.2)]), (1, oB false 1 enc16 ([0] : List UInt16))]) [0] [.obj [pI 2, pI 1, pI 5]] rfl rfl rfl (handed_of (by decide) ⟨rfl, trivial⟩) rfl rfl rfl rfl rfl rfl (T.leL (args := [PV.ptr 0 0, PV.f (.agg [encI 8, encI 0, encI 0, encI 0, encI 12, FV.v (.slice none 0 0), FV.sl 1 false (List.map enc16 ([0] : List UInt16)), enc16 0, enc16 0]), pI 1]) (args' := [PV.ptr 0 0, PV.f (eRequest (⟨8, 0, 0, 0, 12, [], ([0] : List UInt16), 0, 0⟩ : TRequest)), pI 1]) ⟨le_refl _, ⟨le_F (FLe.agg ⟨FLe.refl _, FLe.refl _, FLe.refl _, FLe.refl _, FLe.refl _, FLe.nil 1 false, FLe.refl _, FLe.refl _, FLe.refl _, trivial⟩), ⟨le_refl _, trivial⟩⟩⟩ (w_count_Count_Do 2 1 5 (⟨8, 0, 0, 0, 12, [], ([0] : List UInt16), 0, 0⟩ : TRequest) 1 D1 hD1 (by first | omega | assumption | (simp; omega) | decide | (simp; done)) (by first | omega | assumption | (simp; omega) | decide | (simp; done)))) rfl (dist_of rfl) rfl rfl rfl rfl ?_)
 refine qo hnt rfl (s_alloc tab_43 ?_)
 refine qo hnt rfl (s_store_ptr tab_43 rfl rfl rfl rfl rfl (Nat.le_of_ble_eq_true rfl) ?_)
 refine r_set [(1, PV.ptr 0 0), (2, p16 (cntGet 0 0 0 11)), (3, pB (cntOk 11)), (4, p16 (cntGet 2 1 5 14)), (6, p16 (cntGet 2 1 5 12)), (8, p16 (cntGet 2 1 5 13)), (11, pB (cntOk 10)), (12, PV.ptr 2 0)] [(2, .obj [pI D1.1.fn, pI D1.1.code, pI D1.1.at_, pI D1.1.count, pI D1.1.sub, pS 1 false encBo D1.1.bits, pS 1 false enc16 D1.1.vals, p16 D1.1.and_, p16 D1.1.or_, pS 1 false enc8 D1.1.data]), (0, .obj [pI (cC 2 D1.2), pI (cC 1 D1.2), pI (cC 5 D1.2)]), (1, oB false 1 enc16 ([0] : List UInt16))] 3 ⟨rfl, rfl, rfl, rfl, rfl, rfl, rfl, rfl, trivial⟩ rfl rfl ?_
 refine r_end ?_
 refine q_then ?_
 refine w_seq ?_
 have hd1 : D1 = (⟨8, 0, 0, 0, 12, [], [5], 0, 0, []⟩, false) := by rw [hD1]; decide +kernel
 refine w_leC (n := 0) (j := 0) (y := pI 2) rfl rfl (le_of_eq (congrArg (fun z : Int => pI z) (show (cC 2 D1.2) = 2 by rw [hd1]; rfl))) ?_
 refine w_leC (n := 0) (j := 1) (y := pI 1) rfl rfl (le_of_eq (congrArg (fun z : Int => pI z) (show (cC 1 D1.2) = 1 by rw [hd1]; rfl))) ?_
 refine w_leC (n := 0) (j := 2) (y := pI 5) rfl rfl (le_of_eq (congrArg (fun z : Int => pI z) (show (cC 5 D1.2) = 5 by rw [hd1]; rfl))) ?_
 refine w_R ?_
 refine qm hnt rfl rfl ?_
 refine qo hnt rfl (s_mkM (f := enc16) ([1] : List UInt16) tab_29 rfl tab_30 ⟨rfl, by decide⟩ (by decide) rfl rfl rfl rfl ?_)
 refine qo hnt rfl (s_build tab_32 rfl rfl (b_cons rfl tab_3 rfl rfl rfl (Nat.le_of_ble_eq_true rfl) (b_cons rfl tab_3 rfl rfl rfl (Nat.le_of_ble_eq_true rfl) (b_cons rfl tab_29 rfl rfl rfl (Nat.le_of_ble_eq_true rfl) (b_nil ?_)))))
 obtain ⟨D2, hD2⟩ : ∃ z : TReply × Bool, z = cntDo 2 1 5 (⟨8, 0, 0, 0, 12, [], ([1] : List UInt16), 0, 0⟩ : TRequest) 1 := ⟨_, rfl⟩
 refine qo hnt rfl (s_callX (r2 := PV.f (eReply D2.1)) (nx1 := 4) (H2 := [(3, oB false 1 enc16 ([1] : List UInt16)), (0, .obj [pI 2, pI 1, pI 5]), (2, .obj [pI D1.1.fn, pI D1.1.code, pI D1.1.at_, pI D1.1.count, pI D1.1.sub, pS 1 false encBo D1.1.bits, pS 1 false enc16 D1.1.vals, p16 D1.1.and_, p16 D1.1.or_, pS 1 false enc8 D1.1.data]), (1, oB false 1 enc16 ([0] : List UInt16))]) (H3 := [(0, .obj [pI (cC 2 D2.2), pI (cC 1 D2.2), pI (cC 5 D2.2)]), (3, oB false 1 enc16 ([1] : List UInt16)), (2, .obj [pI D1.1.fn, pI D1.1.code, pI D1.1.at_, pI D1.1.count, pI D1.1.sub, pS 1 false encBo D1.1.bits, pS 1 false enc16 D1.1.vals, p16 D1.1.and_, p16 D1.1.or_, pS 1 false enc8 D1.1.data]), (1, oB false 1 enc16 ([0] : List UInt16))]) [0] [.obj [pI 2, pI 1, pI 5]] rfl rfl rfl (handed_of (by decide) ⟨rfl, trivial⟩) rfl rfl rfl rfl rfl rfl (T.leL (args := [PV.ptr 0 0, PV.f (.agg [encI 8, encI 0, encI 0, encI 0, encI 12, FV.v (.slice none 0 0), FV.sl 1 false (List.map enc16 ([1] : List UInt16)), enc16 0, enc16 0]), pI 1]) (args' := [PV.ptr 0 0, PV.f (eRequest (⟨8, 0, 0, 0, 12, [], ([1] : List UInt16), 0, 0⟩ : TRequest)), pI 1]) ⟨le_refl _, ⟨le_F (FLe.agg ⟨FLe.refl _, FLe.refl _, FLe.refl _, FLe.refl _, FLe.refl _, FLe.nil 1 false, FLe.refl _, FLe.refl _, FLe.refl _, trivial⟩), ⟨le_refl _, trivial⟩⟩⟩ (w_count_Count_Do 2 1 5 (⟨8, 0, 0, 0, 12, [], ([1] : List UInt16), 0, 0⟩ : TRequest) 1 D2 hD2 (by first | omega | assumption | (simp; omega) | decide | (simp; done)) (by first | omega | assumption | (simp; omega) | decide | (simp; done)))) rfl (dist_of rfl) rfl rfl rfl rfl ?_)
 refine qo hnt rfl (s_alloc tab_43 ?_)
 refine qo hnt rfl (s_store_ptr tab_43 rfl rfl rfl rfl rfl (Nat.le_of_ble_eq_true rfl) ?_)
 refine r_set [(1, PV.ptr 0 0), (2, p16 (cntGet 0 0 0 11)), (3, pB (cntOk 11)), (4, p16 (cntGet 2 1 5 14)), (6, p16 (cntGet 2 1 5 12)), (8, p16 (cntGet 2 1 5 13)), (11, pB (cntOk 10)), (12, PV.ptr 2 0), (13, PV.ptr 4 0)] [(4, .obj [pI D2.1.fn, pI D2.1.code, pI D2.1.at_, pI D2.1.count, pI D2.1.sub, pS 1 false encBo D2.1.bits, pS 1 false enc16 D2.1.vals, p16 D2.1.and_, p16 D2.1.or_, pS 1 false enc8 D2.1.data]), (0, .obj [pI (cC 2 D2.2), pI (cC 1 D2.2), pI (cC 5 D2.2)]), (3, oB false 1 enc16 ([1] : List UInt16)), (2, .obj [pI D1.1.fn, pI D1.1.code, pI D1.1.at_, pI D1.1.count, pI D1.1.sub, pS 1 false encBo D1.1.bits, pS 1 false enc16 D1.1.vals, p16 D1.1.and_, p16 D1.1.or_, pS 1 false enc8 D1.1.data]), (1, oB false 1 enc16 ([0] : List UInt16))] 5 ⟨rfl, rfl, rfl, rfl, rfl, rfl, rfl, rfl, rfl, trivial⟩ rfl rfl ?_
 refine r_end ?_
 refine q_then ?_
 refine w_seq ?_
 have hd2 : D2 = (refuseR 8 3, false) := by rw [hD2]; decide +kernel
 refine w_leC (n := 0) (j := 0) (y := pI 2) rfl rfl (le_of_eq (congrArg (fun z : Int => pI z) (show (cC 2 D2.2) = 2 by rw [hd2]; rfl))) ?_
 refine w_leC (n := 0) (j := 1) (y := pI 1) rfl rfl (le_of_eq (congrArg (fun z : Int => pI z) (show (cC 1 D2.2) = 1 by rw [hd2]; rfl))) ?_
 refine w_leC (n := 0) (j := 2) (y := pI 5) rfl rfl (le_of_eq (congrArg (fun z : Int => pI z) (show (cC 5 D2.2) = 5 by rw [hd2]; rfl))) ?_
 refine w_R ?_
 refine qm hnt rfl rfl ?_
 refine qo hnt rfl (s_build tab_32 rfl rfl (b_cons rfl tab_3 rfl rfl rfl (Nat.le_of_ble_eq_true rfl) (b_nil ?_)))
 obtain ⟨D3, hD3⟩ : ∃ z : TReply × Bool, z = cntDo 2 1 5 (⟨17, 0, 0, 0, 0, [], [], 0, 0⟩ : TRequest) 259 := ⟨_, rfl⟩
 refine qo hnt rfl (s_callX (r2 := PV.f (eReply D3.1)) (nx1 := 5) (H2 := [(0, .obj [pI 2, pI 1, pI 5]), (4, .obj [pI D2.1.fn, pI D2.1.code, pI D2.1.at_, pI D2.1.count, pI D2.1.sub, pS 1 false encBo D2.1.bits, pS 1 false enc16 D2.1.vals, p16 D2.1.and_, p16 D2.1.or_, pS 1 false enc8 D2.1.data]), (3, oB false 1 enc16 ([1] : List UInt16)), (2, .obj [pI D1.1.fn, pI D1.1.code, pI D1.1.at_, pI D1.1.count, pI D1.1.sub, pS 1 false encBo D1.1.bits, pS 1 false enc16 D1.1.vals, p16 D1.1.and_, p16 D1.1.or_, pS 1 false enc8 D1.1.data]), (1, oB false 1 enc16 ([0] : List UInt16))]) (H3 := [(0, .obj [pI (cC 2 D3.2), pI (cC 1 D3.2), pI (cC 5 D3.2)]), (4, .obj [pI D2.1.fn, pI D2.1.code, pI D2.1.at_, pI D2.1.count, pI D2.1.sub, pS 1 false encBo D2.1.bits, pS 1 false enc16 D2.1.vals, p16 D2.1.and_, p16 D2.1.or_, pS 1 false enc8 D2.1.data]), (3, oB false 1 enc16 ([1] : List UInt16)), (2, .obj [pI D1.1.fn, pI D1.1.code, pI D1.1.at_, pI D1.1.count, pI D1.1.sub, pS 1 false encBo D1.1.bits, pS 1 false enc16 D1.1.vals, p16 D1.1.and_, p16 D1.1.or_, pS 1 false enc8 D1.1.data]), (1, oB false 1 enc16 ([0] : List UInt16))]) [0] [.obj [pI 2, pI 1, pI 5]] rfl rfl rfl (handed_of (by decide) ⟨rfl, trivial⟩) rfl rfl rfl rfl rfl rfl (T.leL (args := [PV.ptr 0 0, PV.f (.agg [encI 17, encI 0, encI 0, encI 0, encI 0, FV.v (.slice none 0 0), FV.v (.slice none 0 0), enc16 0, enc16 0]), pI 259]) (args' := [PV.ptr 0 0, PV.f (eRequest (⟨17, 0, 0, 0, 0, [], [], 0, 0⟩ : TRequest)), pI 259]) ⟨le_refl _, ⟨le_F (FLe.agg ⟨FLe.refl _, FLe.refl _, FLe.refl _, FLe.refl _, FLe.refl _, FLe.nil 1 false, FLe.nil 1 false, FLe.refl _, FLe.refl _, trivial⟩), ⟨le_refl _, trivial⟩⟩⟩ (w_count_Count_Do 2 1 5 (⟨17, 0, 0, 0, 0, [], [], 0, 0⟩ : TRequest) 259 D3 hD3 (by first | omega | assumption | (simp; omega) | decide | (simp; done)) (by first | omega | assumption | (simp; omega) | decide | (simp; done)))) rfl (dist_of rfl) rfl rfl rfl rfl ?_)
 refine qo hnt rfl (s_alloc tab_43 ?_)
 refine qo hnt rfl (s_store_ptr tab_43 rfl rfl rfl rfl rfl (Nat.le_of_ble_eq_true rfl) ?_)
 refine r_set [(1, PV.ptr 0 0), (2, p16 (cntGet 0 0 0 11)), (3, pB (cntOk 11)), (4, p16 (cntGet 2 1 5 14)), (6, p16 (cntGet 2 1 5 12)), (8, p16 (cntGet 2 1 5 13)), (11, pB (cntOk 10)), (12, PV.ptr 2 0), (13, PV.ptr 4 0), (14, PV.ptr 5 0)] [(5, .obj [pI D3.1.fn, pI D3.1.code, pI D3.1.at_, pI D3.1.count, pI D3.1.sub, pS 1 false encBo D3.1.bits, pS 1 false enc16 D3.1.vals, p16 D3.1.and_, p16 D3.1.or_, pS 1 false enc8 D3.1.data]), (0, .obj [pI (cC 2 D3.2), pI (cC 1 D3.2), pI (cC 5 D3.2)]), (4, .obj [pI D2.1.fn, pI D2.1.code, pI D2.1.at_, pI D2.1.count, pI D2.1.sub, pS 1 false encBo D2.1.bits, pS 1 false enc16 D2.1.vals, p16 D2.1.and_, p16 D2.1.or_, pS 1 false enc8 D2.1.data]), (3, oB false 1 enc16 ([1] : List UInt16)), (2, .obj [pI D1.1.fn, pI D1.1.code, pI D1.1.at_, pI D1.1.count, pI D1.1.sub, pS 1 false encBo D1.1.bits, pS 1 false enc16 D1.1.vals, p16 D1.1.and_, p16 D1.1.or_, pS 1 false enc8 D1.1.data]), (1, oB false 1 enc16 ([0] : List UInt16))] 6 ⟨rfl, rfl, rfl, rfl, rfl, rfl, rfl, rfl, rfl, rfl, trivial⟩ rfl rfl ?_
 refine r_end ?_
 refine q_then ?_
 refine w_seq ?_
 have hd3 : D3 = (⟨17, 0, 0, 0, 0, [], [], 0, 0, [3, 255]⟩, false) := by rw [hD3]; decide +kernel
 refine w_leC (n := 0) (j := 0) (y := pI 2) rfl rfl (le_of_eq (congrArg (fun z : Int => pI z) (show (cC 2 D3.2) = 2 by rw [hd3]; rfl))) ?_
 refine w_leC (n := 0) (j := 1) (y := pI 1) rfl rfl (le_of_eq (congrArg (fun z : Int => pI z) (show (cC 1 D3.2) = 1 by rw [hd3]; rfl))) ?_
 refine w_leC (n := 0) (j := 2) (y := pI 5) rfl rfl (le_of_eq (congrArg (fun z : Int => pI z) (show (cC 5 D3.2) = 5 by rw [hd3]; rfl))) ?_
 refine w_R ?_
 refine qm hnt rfl rfl ?_
 refine qo hnt rfl (s_build tab_32 rfl rfl (b_nil ?_))
 obtain ⟨D4, hD4⟩ : ∃ z : TReply × Bool, z = cntDo 2 1 5 (⟨0, 0, 0, 0, 0, [], [], 0, 0⟩ : TRequest) 1 := ⟨_, rfl⟩
 refine qo hnt rfl (s_callX (r2 := PV.f (eReply D4.1)) (nx1 := 6) (H2 := [(0, .obj [pI 2, pI 1, pI 5]), (5, .obj [pI D3.1.fn, pI D3.1.code, pI D3.1.at_, pI D3.1.count, pI D3.1.sub, pS 1 false encBo D3.1.bits, pS 1 false enc16 D3.1.vals, p16 D3.1.and_, p16 D3.1.or_, pS 1 false enc8 D3.1.data]), (4, .obj [pI D2.1.fn, pI D2.1.code, pI D2.1.at_, pI D2.1.count, pI D2.1.sub, pS 1 false encBo D2.1.bits, pS 1 false enc16 D2.1.vals, p16 D2.1.and_, p16 D2.1.or_, pS 1 false enc8 D2.1.data]), (3, oB false 1 enc16 ([1] : List UInt16)), (2, .obj [pI D1.1.fn, pI D1.1.code, pI D1.1.at_, pI D1.1.count, pI D1.1.sub, pS 1 false encBo D1.1.bits, pS 1 false enc16 D1.1.vals, p16 D1.1.and_, p16 D1.1.or_, pS 1 false enc8 D1.1.data]), (1, oB false 1 enc16 ([0] : List UInt16))]) (H3 := [(0, .obj [pI (cC 2 D4.2), pI (cC 1 D4.2), pI (cC 5 D4.2)]), (5, .obj [pI D3.1.fn, pI D3.1.code, pI D3.1.at_, pI D3.1.count, pI D3.1.sub, pS 1 false encBo D3.1.bits, pS 1 false enc16 D3.1.vals, p16 D3.1.and_, p16 D3.1.or_, pS 1 false enc8 D3.1.data]), (4, .obj [pI D2.1.fn, pI D2.1.code, pI D2.1.at_, pI D2.1.count, pI D2.1.sub, pS 1 false encBo D2.1.bits, pS 1 false enc16 D2.1.vals, p16 D2.1.and_, p16 D2.1.or_, pS 1 false enc8 D2.1.data]), (3, oB false 1 enc16 ([1] : List UInt16)), (2, .obj [pI D1.1.fn, pI D1.1.code, pI D1.1.at_, pI D1.1.count, pI D1.1.sub, pS 1 false encBo D1.1.bits, pS 1 false enc16 D1.1.vals, p16 D1.1.and_, p16 D1.1.or_, pS 1 false enc8 D1.1.data]), (1, oB false 1 enc16 ([0] : List UInt16))]) [0] [.obj [pI 2, pI 1, pI 5]] rfl rfl rfl (handed_of (by decide) ⟨rfl, trivial⟩) rfl rfl rfl rfl rfl rfl (T.leL (args := [PV.ptr 0 0, PV.f (.agg [encI 0, encI 0, encI 0, encI 0, encI 0, FV.v (.slice none 0 0), FV.v (.slice none 0 0), enc16 0, enc16 0]), pI 1]) (args' := [PV.ptr 0 0, PV.f (eRequest (⟨0, 0, 0, 0, 0, [], [], 0, 0⟩ : TRequest)), pI 1]) ⟨le_refl _, ⟨le_F (FLe.agg ⟨FLe.refl _, FLe.refl _, FLe.refl _, FLe.refl _, FLe.refl _, FLe.nil 1 false, FLe.nil 1 false, FLe.refl _, FLe.refl _, trivial⟩), ⟨le_refl _, trivial⟩⟩⟩ (w_count_Count_Do 2 1 5 (⟨0, 0, 0, 0, 0, [], [], 0, 0⟩ : TRequest) 1 D4 hD4 (by first | omega | assumption | (simp; omega) | decide | (simp; done)) (by first | omega | assumption | (simp; omega) | decide | (simp; done)))) rfl (dist_of rfl) rfl rfl rfl rfl ?_)
 refine qo hnt rfl (s_alloc tab_43 ?_)
 refine qo hnt rfl (s_store_ptr tab_43 rfl rfl rfl rfl rfl (Nat.le_of_ble_eq_true rfl) ?_)
 refine r_set [(1, PV.ptr 0 0), (2, p16 (cntGet 0 0 0 11)), (3, pB (cntOk 11)), (4, p16 (cntGet 2 1 5 14)), (6, p16 (cntGet 2 1 5 12)), (8, p16 (cntGet 2 1 5 13)), (11, pB (cntOk 10)), (12, PV.ptr 2 0), (13, PV.ptr 4 0), (14, PV.ptr 5 0), (15, PV.ptr 6 0)] [(6, .obj [pI D4.1.fn, pI D4.1.code, pI D4.1.at_, pI D4.1.count, pI D4.1.sub, pS 1 false encBo D4.1.bits, pS 1 false enc16 D4.1.vals, p16 D4.1.and_, p16 D4.1.or_, pS 1 false enc8 D4.1.data]), (0, .obj [pI (cC 2 D4.2), pI (cC 1 D4.2), pI (cC 5 D4.2)]), (5, .obj [pI D3.1.fn, pI D3.1.code, pI D3.1.at_, pI D3.1.count, pI D3.1.sub, pS 1 false encBo D3.1.bits, pS 1 false enc16 D3.1.vals, p16 D3.1.and_, p16 D3.1.or_, pS 1 false enc8 D3.1.data]), (4, .obj [pI D2.1.fn, pI D2.1.code, pI D2.1.at_, pI D2.1.count, pI D2.1.sub, pS 1 false encBo D2.1.bits, pS 1 false enc16 D2.1.vals, p16 D2.1.and_, p16 D2.1.or_, pS 1 false enc8 D2.1.data]), (3, oB false 1 enc16 ([1] : List UInt16)), (2, .obj [pI D1.1.fn, pI D1.1.code, pI D1.1.at_, pI D1.1.count, pI D1.1.sub, pS 1 false encBo D1.1.bits, pS 1 false enc16 D1.1.vals, p16 D1.1.and_, p16 D1.1.or_, pS 1 false enc8 D1.1.data]), (1, oB false 1 enc16 ([0] : List UInt16))] 7 ⟨rfl, rfl, rfl, rfl, rfl, rfl, rfl, rfl, rfl, rfl, rfl, trivial⟩ rfl rfl ?_
 refine r_end ?_
 refine q_then ?_
 refine w_seq ?_
 have hd4 : D4 = (refuseR 0 1, false) := by rw [hD4]; decide +kernel
 refine w_leC (n := 0) (j := 0) (y := pI 2) rfl rfl (le_of_eq (congrArg (fun z : Int => pI z) (show (cC 2 D4.2) = 2 by rw [hd4]; rfl))) ?_
 refine w_leC (n := 0) (j := 1) (y := pI 1) rfl rfl (le_of_eq (congrArg (fun z : Int => pI z) (show (cC 1 D4.2) = 1 by rw [hd4]; rfl))) ?_
 refine w_leC (n := 0) (j := 2) (y := pI 5) rfl rfl (le_of_eq (congrArg (fun z : Int => pI z) (show (cC 5 D4.2) = 5 by rw [hd4]; rfl))) ?_
 refine w_R ?_
 refine qm hnt rfl rfl ?_
 refine qo hnt rfl (s_mkM (f := enc16) ([4] : List UInt16) tab_29 rfl tab_30 ⟨rfl, by decide⟩ (by decide) rfl rfl rfl rfl ?_)
 refine qo hnt rfl (s_build tab_32 rfl rfl (b_cons rfl tab_3 rfl rfl rfl (Nat.le_of_ble_eq_true rfl) (b_cons rfl tab_3 rfl rfl rfl (Nat.le_of_ble_eq_true rfl) (b_cons rfl tab_29 rfl rfl rfl (Nat.le_of_ble_eq_true rfl) (b_nil ?_)))))
 obtain ⟨D5, hD5⟩ : ∃ z : TReply × Bool, z = cntDo 2 1 5 (⟨8, 0, 0, 0, 10, [], ([4] : List UInt16), 0, 0⟩ : TRequest) 1 := ⟨_, rfl⟩
 refine qo hnt rfl (s_callX (r2 := PV.f (eReply D5.1)) (nx1 := 8) (H2 := [(7, oB false 1 enc16 ([4] : List UInt16)), (0, .obj [pI 2, pI 1, pI 5]), (6, .obj [pI D4.1.fn, pI D4.1.code, pI D4.1.at_, pI D4.1.count, pI D4.1.sub, pS 1 false encBo D4.1.bits, pS 1 false enc16 D4.1.vals, p16 D4.1.and_, p16 D4.1.or_, pS 1 false enc8 D4.1.data]), (5, .obj [pI D3.1.fn, pI D3.1.code, pI D3.1.at_, pI D3.1.count, pI D3.1.sub, pS 1 false encBo D3.1.bits, pS 1 false enc16 D3.1.vals, p16 D3.1.and_, p16 D3.1.or_, pS 1 false enc8 D3.1.data]), (4, .obj [pI D2.1.fn, pI D2.1.code, pI D2.1.at_, pI D2.1.count, pI D2.1.sub, pS 1 false encBo D2.1.bits, pS 1 false enc16 D2.1.vals, p16 D2.1.and_, p16 D2.1.or_, pS 1 false enc8 D2.1.data]), (3, oB false 1 enc16 ([1] : List UInt16)), (2, .obj [pI D1.1.fn, pI D1.1.code, pI D1.1.at_, pI D1.1.count, pI D1.1.sub, pS 1 false encBo D1.1.bits, pS 1 false enc16 D1.1.vals, p16 D1.1.and_, p16 D1.1.or_, pS 1 false enc8 D1.1.data]), (1, oB false 1 enc16 ([0] : List UInt16))]) (H3 := [(0, .obj [pI (cC 2 D5.2), pI (cC 1 D5.2), pI (cC 5 D5.2)]), (7, oB false 1 enc16 ([4] : List UInt16)), (6, .obj [pI D4.1.fn, pI D4.1.code, pI D4.1.at_, pI D4.1.count, pI D4.1.sub, pS 1 false encBo D4.1.bits, pS 1 false enc16 D4.1.vals, p16 D4.1.and_, p16 D4.1.or_, pS 1 false enc8 D4.1.data]), (5, .obj [pI D3.1.fn, pI D3.1.code, pI D3.1.at_, pI D3.1.count, pI D3.1.sub, pS 1 false encBo D3.1.bits, pS 1 false enc16 D3.1.vals, p16 D3.1.and_, p16 D3.1.or_, pS 1 false enc8 D3.1.data]), (4, .obj [pI D2.1.fn, pI D2.1.code, pI D2.1.at_, pI D2.1.count, pI D2.1.sub, pS 1 false encBo D2.1.bits, pS 1 false enc16 D2.1.vals, p16 D2.1.and_, p16 D2.1.or_, pS 1 false enc8 D2.1.data]), (3, oB false 1 enc16 ([1] : List UInt16)), (2, .obj [pI D1.1.fn, pI D1.1.code, pI D1.1.at_, pI D1.1.count, pI D1.1.sub, pS 1 false encBo D1.1.bits, pS 1 false enc16 D1.1.vals, p16 D1.1.and_, p16 D1.1.or_, pS 1 false enc8 D1.1.data]), (1, oB false 1 enc16 ([0] : List UInt16))]) [0] [.obj [pI 2, pI 1, pI 5]] rfl rfl rfl (handed_of (by decide) ⟨rfl, trivial⟩) rfl rfl rfl rfl rfl rfl (T.leL (args := [PV.ptr 0 0, PV.f (.agg [encI 8, encI 0, encI 0, encI 0, encI 10, FV.v (.slice none 0 0), FV.sl 1 false (List.map enc16 ([4] : List UInt16)), enc16 0, enc16 0]), pI 1]) (args' := [PV.ptr 0 0, PV.f (eRequest (⟨8, 0, 0, 0, 10, [], ([4] : List UInt16), 0, 0⟩ : TRequest)), pI 1]) ⟨le_refl _, ⟨le_F (FLe.agg ⟨FLe.refl _, FLe.refl _, FLe.refl _, FLe.refl _, FLe.refl _, FLe.nil 1 false, FLe.refl _, FLe.refl _, FLe.refl _, trivial⟩), ⟨le_refl _, trivial⟩⟩⟩ (w_count_Count_Do 2 1 5 (⟨8, 0, 0, 0, 10, [], ([4] : List UInt16), 0, 0⟩ : TRequest) 1 D5 hD5 (by first | omega | assumption | (simp; omega) | decide | (simp; done)) (by first | omega | assumption | (simp; omega) | decide | (simp; done)))) rfl (dist_of rfl) rfl rfl rfl rfl ?_)
 refine qo hnt rfl (s_alloc tab_43 ?_)
 refine qo hnt rfl (s_store_ptr tab_43 rfl rfl rfl rfl rfl (Nat.le_of_ble_eq_true rfl) ?_)
 refine r_set [(1, PV.ptr 0 0), (2, p16 (cntGet 0 0 0 11)), (3, pB (cntOk 11)), (4, p16 (cntGet 2 1 5 14)), (6, p16 (cntGet 2 1 5 12)), (8, p16 (cntGet 2 1 5 13)), (11, pB (cntOk 10)), (12, PV.ptr 2 0), (13, PV.ptr 4 0), (14, PV.ptr 5 0), (15, PV.ptr 6 0), (16, PV.ptr 8 0)] [(8, .obj [pI D5.1.fn, pI D5.1.code, pI D5.1.at_, pI D5.1.count, pI D5.1.sub, pS 1 false encBo D5.1.bits, pS 1 false enc16 D5.1.vals, p16 D5.1.and_, p16 D5.1.or_, pS 1 false enc8 D5.1.data]), (0, .obj [pI (cC 2 D5.2), pI (cC 1 D5.2), pI (cC 5 D5.2)]), (7, oB false 1 enc16 ([4] : List UInt16)), (6, .obj [pI D4.1.fn, pI D4.1.code, pI D4.1.at_, pI D4.1.count, pI D4.1.sub, pS 1 false encBo D4.1.bits, pS 1 false enc16 D4.1.vals, p16 D4.1.and_, p16 D4.1.or_, pS 1 false enc8 D4.1.data]), (5, .obj [pI D3.1.fn, pI D3.1.code, pI D3.1.at_, pI D3.1.count, pI D3.1.sub, pS 1 false encBo D3.1.bits, pS 1 false enc16 D3.1.vals, p16 D3.1.and_, p16 D3.1.or_, pS 1 false enc8 D3.1.data]), (4, .obj [pI D2.1.fn, pI D2.1.code, pI D2.1.at_, pI D2.1.count, pI D2.1.sub, pS 1 false encBo D2.1.bits, pS 1 false enc16 D2.1.vals, p16 D2.1.and_, p16 D2.1.or_, pS 1 false enc8 D2.1.data]), (3, oB false 1 enc16 ([1] : List UInt16)), (2, .obj [pI D1.1.fn, pI D1.1.code, pI D1.1.at_, pI D1.1.count, pI D1.1.sub, pS 1 false encBo D1.1.bits, pS 1 false enc16 D1.1.vals, p16 D1.1.and_, p16 D1.1.or_, pS 1 false enc8 D1.1.data]), (1, oB false 1 enc16 ([0] : List UInt16))] 9 ⟨rfl, rfl, rfl, rfl, rfl, rfl, rfl, rfl, rfl, rfl, rfl, rfl, trivial⟩ rfl rfl ?_
 refine r_end ?_
 refine q_then ?_
 refine w_seq ?_
 have hd5 : D5 = (⟨8, 0, 0, 0, 10, [], [4], 0, 0, []⟩, true) := by rw [hD5]; decide +kernel
 refine w_leC (n := 0) (j := 0) (y := pI 0) rfl rfl (le_of_eq (congrArg (fun z : Int => pI z) (show (cC 2 D5.2) = 0 by rw [hd5]; rfl))) ?_
 refine w_leC (n := 0) (j := 1) (y := pI 0) rfl rfl (le_of_eq (congrArg (fun z : Int => pI z) (show (cC 1 D5.2) = 0 by rw [hd5]; rfl))) ?_
 refine w_leC (n := 0) (j := 2) (y := pI 0) rfl rfl (le_of_eq (congrArg (fun z : Int => pI z) (show (cC 5 D5.2) = 0 by rw [hd5]; rfl))) ?_
 refine w_R ?_
 refine qm hnt rfl rfl ?_
 refine qo hnt rfl (s_callX (r2 := PV.tup [p16 (cntGet 0 0 0 11), pB (cntOk 11)]) (nx1 := 9) (H2 := [(0, .obj [pI 0, pI 0, pI 0]), (8, .obj [pI D5.1.fn, pI D5.1.code, pI D5.1.at_, pI D5.1.count, pI D5.1.sub, pS 1 false encBo D5.1.bits, pS 1 false enc16 D5.1.vals, p16 D5.1.and_, p16 D5.1.or_, pS 1 false enc8 D5.1.data]), (7, oB false 1 enc16 ([4] : List UInt16)), (6, .obj [pI D4.1.fn, pI D4.1.code, pI D4.1.at_, pI D4.1.count, pI D4.1.sub, pS 1 false encBo D4.1.bits, pS 1 false enc16 D4.1.vals, p16 D4.1.and_, p16 D4.1.or_, pS 1 false enc8 D4.1.data]), (5, .obj [pI D3.1.fn, pI D3.1.code, pI D3.1.at_, pI D3.1.count, pI D3.1.sub, pS 1 false encBo D3.1.bits, pS 1 false enc16 D3.1.vals, p16 D3.1.and_, p16 D3.1.or_, pS 1 false enc8 D3.1.data]), (4, .obj [pI D2.1.fn, pI D2.1.code, pI D2.1.at_, pI D2.1.count, pI D2.1.sub, pS 1 false encBo D2.1.bits, pS 1 false enc16 D2.1.vals, p16 D2.1.and_, p16 D2.1.or_, pS 1 false enc8 D2.1.data]), (3, oB false 1 enc16 ([1] : List UInt16)), (2, .obj [pI D1.1.fn, pI D1.1.code, pI D1.1.at_, pI D1.1.count, pI D1.1.sub, pS 1 false encBo D1.1.bits, pS 1 false enc16 D1.1.vals, p16 D1.1.and_, p16 D1.1.or_, pS 1 false enc8 D1.1.data]), (1, oB false 1 enc16 ([0] : List UInt16))]) (H3 := [(0, .obj [pI 0, pI 0, pI 0]), (8, .obj [pI D5.1.fn, pI D5.1.code, pI D5.1.at_, pI D5.1.count, pI D5.1.sub, pS 1 false encBo D5.1.bits, pS 1 false enc16 D5.1.vals, p16 D5.1.and_, p16 D5.1.or_, pS 1 false enc8 D5.1.data]), (7, oB false 1 enc16 ([4] : List UInt16)), (6, .obj [pI D4.1.fn, pI D4.1.code, pI D4.1.at_, pI D4.1.count, pI D4.1.sub, pS 1 false encBo D4.1.bits, pS 1 false enc16 D4.1.vals, p16 D4.1.and_, p16 D4.1.or_, pS 1 false enc8 D4.1.data]), (5, .obj [pI D3.1.fn, pI D3.1.code, pI D3.1.at_, pI D3.1.count, pI D3.1.sub, pS 1 false encBo D3.1.bits, pS 1 false enc16 D3.1.vals, p16 D3.1.and_, p16 D3.1.or_, pS 1 false enc8 D3.1.data]), (4, .obj [pI D2.1.fn, pI D2.1.code, pI D2.1.at_, pI D2.1.count, pI D2.1.sub, pS 1 false encBo D2.1.bits, pS 1 false enc16 D2.1.vals, p16 D2.1.and_, p16 D2.1.or_, pS 1 false enc8 D2.1.data]), (3, oB false 1 enc16 ([1] : List UInt16)), (2, .obj [pI D1.1.fn, pI D1.1.code, pI D1.1.at_, pI D1.1.count, pI D1.1.sub, pS 1 false encBo D1.1.bits, pS 1 false enc16 D1.1.vals, p16 D1.1.and_, p16 D1.1.or_, pS 1 false enc8 D1.1.data]), (1, oB false 1 enc16 ([0] : List UInt16))]) [0] [.obj [pI 0, pI 0, pI 0]] rfl rfl rfl (handed_of (by decide) ⟨rfl, trivial⟩) rfl rfl rfl rfl rfl rfl (w_count_Count_Get 0 0 0 11) rfl (dist_of rfl) rfl rfl rfl rfl ?_)
 refine qm hnt rfl rfl ?_
 refine qo hnt rfl (s_extract rfl rfl ?_)
 refine qo hnt rfl (s_extract rfl rfl ?_)
 refine qa hnt rfl rfl ?_
 refine qa hnt rfl rfl ?_
 refine r_set [(2, p16 (cntGet 0 0 0 11)), (3, pB (cntOk 11)), (4, p16 (cntGet 2 1 5 14)), (6, p16 (cntGet 2 1 5 12)), (8, p16 (cntGet 2 1 5 13)), (11, pB (cntOk 10)), (12, PV.ptr 2 0), (13, PV.ptr 4 0), (14, PV.ptr 5 0), (15, PV.ptr 6 0), (16, PV.ptr 8 0), (17, p16 (cntGet 0 0 0 11))] [(0, .obj [pI 0, pI 0, pI 0]), (8, .obj [pI D5.1.fn, pI D5.1.code, pI D5.1.at_, pI D5.1.count, pI D5.1.sub, pS 1 false encBo D5.1.bits, pS 1 false enc16 D5.1.vals, p16 D5.1.and_, p16 D5.1.or_, pS 1 false enc8 D5.1.data]), (7, oB false 1 enc16 ([4] : List UInt16)), (6, .obj [pI D4.1.fn, pI D4.1.code, pI D4.1.at_, pI D4.1.count, pI D4.1.sub, pS 1 false encBo D4.1.bits, pS 1 false enc16 D4.1.vals, p16 D4.1.and_, p16 D4.1.or_, pS 1 false enc8 D4.1.data]), (5, .obj [pI D3.1.fn, pI D3.1.code, pI D3.1.at_, pI D3.1.count, pI D3.1.sub, pS 1 false encBo D3.1.bits, pS 1 false enc16 D3.1.vals, p16 D3.1.and_, p16 D3.1.or_, pS 1 false enc8 D3.1.data]), (4, .obj [pI D2.1.fn, pI D2.1.code, pI D2.1.at_, pI D2.1.count, pI D2.1.sub, pS 1 false encBo D2.1.bits, pS 1 false enc16 D2.1.vals, p16 D2.1.and_, p16 D2.1.or_, pS 1 false enc8 D2.1.data]), (3, oB false 1 enc16 ([1] : List UInt16)), (2, .obj [pI D1.1.fn, pI D1.1.code, pI D1.1.at_, pI D1.1.count, pI D1.1.sub, pS 1 false encBo D1.1.bits, pS 1 false enc16 D1.1.vals, p16 D1.1.and_, p16 D1.1.or_, pS 1 false enc8 D1.1.data]), (1, oB false 1 enc16 ([0] : List UInt16))] 9 ⟨rfl, rfl, rfl, rfl, rfl, rfl, rfl, rfl, rfl, rfl, rfl, rfl, trivial⟩ rfl rfl ?_
 refine r_end ?_
 refine q_then ?_
 refine w_seq ?_
 refine w_R ?_
 refine qm hnt rfl rfl ?_
 refine qo hnt rfl (s_eql16 (a := cntGet 0 0 0 11) (b := 0) rfl rfl ?_)
 refine qm hnt rfl rfl ?_
 refine r_if tabOk hnt rfl rfl rfl (fun g1 => ?_) (fun g1 => ?_)
 ·
  have g1' := g1
  try simp only [sB] at g1'
  refine qm hnt rfl rfl ?_
  refine qo hnt rfl (s_pick_t rfl g1 rfl ?_)
  refine qm hnt rfl rfl ?_
  refine r_if tabOk hnt rfl rfl rfl (fun g2 => ?_) (fun g2 => ?_)
  ·
   have g2' := g2
   try simp only [sB] at g2'
   refine qm hnt rfl rfl ?_
   refine ry hnt rfl rfl rfl g2 ?_
   refine qo hnt rfl (s_eql16 (a := cntGet 2 1 5 14) (b := 2) rfl rfl ?_)
   refine qo hnt rfl (s_pick_t rfl g2 rfl ?_)
   refine qm hnt rfl rfl ?_
   refine r_if tabOk hnt rfl rfl rfl (fun g3 => ?_) (fun g3 => ?_)
   ·
    have g3' := g3
    try simp only [sB] at g3'
    refine qm hnt rfl rfl ?_
    refine ry hnt rfl rfl rfl g3 ?_
    refine qo hnt rfl (s_eql16 (a := cntGet 2 1 5 12) (b := 5) rfl rfl ?_)
    refine qo hnt rfl (s_pick_t rfl g3 rfl ?_)
    refine qm hnt rfl rfl ?_
    refine r_if tabOk hnt rfl rfl rfl (fun g4 => ?_) (fun g4 => ?_)
    ·
     have g4' := g4
     try simp only [sB] at g4'
     refine qm hnt rfl rfl ?_
     refine ry hnt rfl rfl rfl g4 ?_
     refine qo hnt rfl (s_eql16 (a := cntGet 2 1 5 13) (b := 1) rfl rfl ?_)
     refine qo hnt rfl (s_pick_t rfl g4 rfl ?_)
     refine qm hnt rfl rfl ?_
     refine r_if tabOk hnt rfl rfl rfl (fun g5 => ?_) (fun g5 => ?_)
     ·
      have g5' := g5
      try simp only [sB] at g5'
      refine qm hnt rfl rfl ?_
      refine ry hnt rfl rfl rfl g5 ?_
      refine qo hnt rfl (s_not rfl ?_)
      refine qo hnt rfl (s_pick_t rfl g5 rfl ?_)
      refine qm hnt rfl rfl ?_
      refine r_if tabOk hnt rfl rfl rfl (fun g6 => ?_) (fun g6 => ?_)
      ·
       have g6' := g6
       try simp only [sB] at g6'
       refine qo hnt rfl (s_fa_ptr tab_43 rfl rfl tab_29 (by decide) rfl ?_)
       refine ry hnt rfl rfl rfl g6 ?_
       refine qo hnt rfl (s_load_ptr1 tab_29 rfl rfl rfl rfl rfl ?_)
       refine ry hnt rfl rfl rfl g6 ?_
       refine qo hnt rfl (s_lenM (l := D1.1.vals) tab_29 rfl (hM_sl (f := enc16) rfl) ?_)
       refine ry hnt rfl rfl rfl g6 ?_
       refine qo hnt rfl (s_eql rfl rfl ?_)
       refine qo hnt rfl (s_pick_t rfl g6 rfl ?_)
       refine qm hnt rfl rfl ?_
       refine r_if tabOk hnt rfl rfl rfl (fun g7 => ?_) (fun g7 => ?_)
       ·
        have g7' := g7
        try simp only [sB] at g7'
        refine qo hnt rfl (s_fa_ptr tab_43 rfl rfl tab_29 (by decide) rfl ?_)
        refine ry hnt rfl rfl rfl g7 ?_
        refine qo hnt rfl (s_load_ptr1 tab_29 rfl rfl rfl rfl rfl ?_)
        refine ry hnt rfl rfl rfl g7 ?_
        obtain ⟨e1, he1⟩ := get_of_lt D1.1.vals (i := 0) (by rw [hd1]; decide)
        refine qo hnt rfl (s_iaM (q := 0) (b := e1) (f := enc16) tab_29 rfl tab_30 rfl rfl (by omega) rfl he1 ?_)
        refine ry hnt rfl rfl rfl g7 ?_
        refine qo hnt rfl (s_load_ro1 tab_30 rfl rfl rfl rfl ?_)
        refine ry hnt rfl rfl rfl g7 ?_
        refine qo hnt rfl (s_eql16 (a := e1) (b := 5) rfl rfl ?_)
        refine qo hnt rfl (s_pick_t rfl g7 rfl ?_)
        refine qm hnt rfl rfl ?_
        refine r_if tabOk hnt rfl rfl rfl (fun g8 => ?_) (fun g8 => ?_)
        ·
         have g8' := g8
         try simp only [sB] at g8'
         refine qo hnt rfl (s_fa_ptr tab_43 rfl rfl tab_3 (by decide) rfl ?_)
         refine ry hnt rfl rfl rfl g8 ?_
         refine qo hnt rfl (s_load_ptr1 tab_3 rfl rfl rfl rfl rfl ?_)
         refine ry hnt rfl rfl rfl g8 ?_
         refine qo hnt rfl (s_eql rfl rfl ?_)
         refine qo hnt rfl (s_pick_t rfl g8 rfl ?_)
         refine qm hnt rfl rfl ?_
         refine r_if tabOk hnt rfl rfl rfl (fun g9 => ?_) (fun g9 => ?_)
         ·
          have g9' := g9
          try simp only [sB] at g9'
          refine qo hnt rfl (s_fa_ptr tab_43 rfl rfl tab_41 (by decide) rfl ?_)
          refine ry hnt rfl rfl rfl g9 ?_
          refine qo hnt rfl (s_load_ptr1 tab_41 rfl rfl rfl rfl rfl ?_)
          refine ry hnt rfl rfl rfl g9 ?_
          refine qo hnt rfl (s_cvT tab_41 tab_9 rfl tab_5 rfl rfl (hM_sl (f := enc8) rfl) ?_)
          refine ry hnt rfl rfl rfl g9 ?_
          refine qo hnt rfl (s_eqtext (l := D3.1.data) (m := ([3, 255] : List UInt8)) rfl rfl ?_)
          refine qo hnt rfl (s_pick_t rfl g9 rfl ?_)
          refine qm hnt rfl rfl ?_
          refine r_if tabOk hnt rfl rfl rfl (fun g10 => ?_) (fun g10 => ?_)
          ·
           have g10' := g10
           try simp only [sB] at g10'
           refine qo hnt rfl (s_fa_ptr tab_43 rfl rfl tab_3 (by decide) rfl ?_)
           refine ry hnt rfl rfl rfl g10 ?_
           refine qo hnt rfl (s_load_ptr1 tab_3 rfl rfl rfl rfl rfl ?_)
           refine ry hnt rfl rfl rfl g10 ?_
           refine qo hnt rfl (s_eql rfl rfl ?_)
           refine qo hnt rfl (s_pick_t rfl g10 rfl ?_)
           refine qm hnt rfl rfl ?_
           refine r_if tabOk hnt rfl rfl rfl (fun g11 => ?_) (fun g11 => ?_)
           ·
            have g11' := g11
            try simp only [sB] at g11'
            refine qo hnt rfl (s_fa_ptr tab_43 rfl rfl tab_29 (by decide) rfl ?_)
            refine ry hnt rfl rfl rfl g11 ?_
            refine qo hnt rfl (s_load_ptr1 tab_29 rfl rfl rfl rfl rfl ?_)
            refine ry hnt rfl rfl rfl g11 ?_
            refine qo hnt rfl (s_lenM (l := D5.1.vals) tab_29 rfl (hM_sl (f := enc16) rfl) ?_)
            refine ry hnt rfl rfl rfl g11 ?_
            refine qo hnt rfl (s_eql rfl rfl ?_)
            refine qo hnt rfl (s_pick_t rfl g11 rfl ?_)
            refine qm hnt rfl rfl ?_
            refine r_if tabOk hnt rfl rfl rfl (fun g12 => ?_) (fun g12 => ?_)
            ·
             have g12' := g12
             try simp only [sB] at g12'
             refine qo hnt rfl (s_fa_ptr tab_43 rfl rfl tab_29 (by decide) rfl ?_)
             refine ry hnt rfl rfl rfl g12 ?_
             refine qo hnt rfl (s_load_ptr1 tab_29 rfl rfl rfl rfl rfl ?_)
             refine ry hnt rfl rfl rfl g12 ?_
             obtain ⟨e2, he2⟩ := get_of_lt D5.1.vals (i := 0) (by rw [hd5]; decide)
             refine qo hnt rfl (s_iaM (q := 0) (b := e2) (f := enc16) tab_29 rfl tab_30 rfl rfl (by omega) rfl he2 ?_)
             refine ry hnt rfl rfl rfl g12 ?_
             refine qo hnt rfl (s_load_ro1 tab_30 rfl rfl rfl rfl ?_)
             refine ry hnt rfl rfl rfl g12 ?_
             refine qo hnt rfl (s_eql16 (a := e2) (b := 4) rfl rfl ?_)
             refine qo hnt rfl (s_pick_t rfl g12 rfl ?_)
             refine qm hnt rfl rfl ?_
             refine r_if tabOk hnt rfl rfl rfl (fun g13 => ?_) (fun g13 => ?_)
             ·
              have g13' := g13
              try simp only [sB] at g13'
              refine qo hnt rfl (s_fa_ptr tab_43 rfl rfl tab_3 (by decide) rfl ?_)
              refine ry hnt rfl rfl rfl g13 ?_
              refine qo hnt rfl (s_load_ptr1 tab_3 rfl rfl rfl rfl rfl ?_)
              refine ry hnt rfl rfl rfl g13 ?_
              refine qo hnt rfl (s_eql rfl rfl ?_)
              refine qo hnt rfl (s_pick_t rfl g13 rfl ?_)
              refine qm hnt rfl rfl ?_
              refine r_if tabOk hnt rfl rfl rfl (fun g14 => ?_) (fun g14 => ?_)
              ·
               have g14' := g14
               try simp only [sB] at g14'
               refine qm hnt rfl rfl ?_
               refine ry hnt rfl rfl rfl g14 ?_
               refine qo hnt rfl (s_eql16 (a := cntGet 0 0 0 11) (b := 0) rfl rfl ?_)
               refine qo hnt rfl (s_pick_t rfl g14 rfl ?_)
               refine qa hnt rfl rfl ?_
               refine r_set [(0, pB (decide (cntGet 0 0 0 11 = 0)))] [(0, .obj [pI 0, pI 0, pI 0]), (8, .obj [pI D5.1.fn, pI D5.1.code, pI D5.1.at_, pI D5.1.count, pI D5.1.sub, pS 1 false encBo D5.1.bits, pS 1 false enc16 D5.1.vals, p16 D5.1.and_, p16 D5.1.or_, pS 1 false enc8 D5.1.data]), (7, oB false 1 enc16 ([4] : List UInt16)), (6, .obj [pI D4.1.fn, pI D4.1.code, pI D4.1.at_, pI D4.1.count, pI D4.1.sub, pS 1 false encBo D4.1.bits, pS 1 false enc16 D4.1.vals, p16 D4.1.and_, p16 D4.1.or_, pS 1 false enc8 D4.1.data]), (5, .obj [pI D3.1.fn, pI D3.1.code, pI D3.1.at_, pI D3.1.count, pI D3.1.sub, pS 1 false encBo D3.1.bits, pS 1 false enc16 D3.1.vals, p16 D3.1.and_, p16 D3.1.or_, pS 1 false enc8 D3.1.data]), (4, .obj [pI D2.1.fn, pI D2.1.code, pI D2.1.at_, pI D2.1.count, pI D2.1.sub, pS 1 false encBo D2.1.bits, pS 1 false enc16 D2.1.vals, p16 D2.1.and_, p16 D2.1.or_, pS 1 false enc8 D2.1.data]), (3, oB false 1 enc16 ([1] : List UInt16)), (2, .obj [pI D1.1.fn, pI D1.1.code, pI D1.1.at_, pI D1.1.count, pI D1.1.sub, pS 1 false encBo D1.1.bits, pS 1 false enc16 D1.1.vals, p16 D1.1.and_, p16 D1.1.or_, pS 1 false enc8 D1.1.data]), (1, oB false 1 enc16 ([0] : List UInt16))] 9 ⟨rfl, trivial⟩ rfl rfl ?_
               refine r_end ?_
               refine q_then ?_
               refine w_le (s := 0) (y := pB true) rfl (le_of_eq (congrArg (fun z : Bool => pB z) (show (decide (cntGet 0 0 0 11 = 0)) = true by first | (simp; done) | decide | (rw [hd1]; decide) | (rw [hd2]; decide) | (rw [hd3]; decide) | (rw [hd4]; decide) | (rw [hd5]; decide) | (have h9 := he1; rw [hd1] at h9; cases h9; decide) | (have h9 := he2; rw [hd5] at h9; cases h9; decide)))) ?_
               refine w_ret ?_
               exact fin_plain (ret_tmp rfl ret_nil) rfl rfl ⟨rfl, rfl, rfl⟩
              ·
               exact absurd g14 (by first | (simp; done) | decide | (rw [hd1]; decide) | (rw [hd2]; decide) | (rw [hd3]; decide) | (rw [hd4]; decide) | (rw [hd5]; decide) | (have h9 := he1; rw [hd1] at h9; cases h9; decide) | (have h9 := he2; rw [hd5] at h9; cases h9; decide))
             ·
              exact absurd g13 (by first | (simp; done) | decide | (rw [hd1]; decide) | (rw [hd2]; decide) | (rw [hd3]; decide) | (rw [hd4]; decide) | (rw [hd5]; decide) | (have h9 := he1; rw [hd1] at h9; cases h9; decide) | (have h9 := he2; rw [hd5] at h9; cases h9; decide))
            ·
             exact absurd g12 (by first | (simp; done) | decide | (rw [hd1]; decide) | (rw [hd2]; decide) | (rw [hd3]; decide) | (rw [hd4]; decide) | (rw [hd5]; decide) | (have h9 := he1; rw [hd1] at h9; cases h9; decide) | (have h9 := he2; rw [hd5] at h9; cases h9; decide))
           ·
            exact absurd g11 (by first | (simp; done) | decide | (rw [hd1]; decide) | (rw [hd2]; decide) | (rw [hd3]; decide) | (rw [hd4]; decide) | (rw [hd5]; decide) | (have h9 := he1; rw [hd1] at h9; cases h9; decide) | (have h9 := he2; rw [hd5] at h9; cases h9; decide))
          ·
           exact absurd g10 (by first | (simp; done) | decide | (rw [hd1]; decide) | (rw [hd2]; decide) | (rw [hd3]; decide) | (rw [hd4]; decide) | (rw [hd5]; decide) | (have h9 := he1; rw [hd1] at h9; cases h9; decide) | (have h9 := he2; rw [hd5] at h9; cases h9; decide))
         ·
          exact absurd g9 (by first | (simp; done) | decide | (rw [hd1]; decide) | (rw [hd2]; decide) | (rw [hd3]; decide) | (rw [hd4]; decide) | (rw [hd5]; decide) | (have h9 := he1; rw [hd1] at h9; cases h9; decide) | (have h9 := he2; rw [hd5] at h9; cases h9; decide))
        ·
         exact absurd g8 (by first | (simp; done) | decide | (rw [hd1]; decide) | (rw [hd2]; decide) | (rw [hd3]; decide) | (rw [hd4]; decide) | (rw [hd5]; decide) | (have h9 := he1; rw [hd1] at h9; cases h9; decide) | (have h9 := he2; rw [hd5] at h9; cases h9; decide))
       ·
        exact absurd g7 (by first | (simp; done) | decide | (rw [hd1]; decide) | (rw [hd2]; decide) | (rw [hd3]; decide) | (rw [hd4]; decide) | (rw [hd5]; decide) | (have h9 := he1; rw [hd1] at h9; cases h9; decide) | (have h9 := he2; rw [hd5] at h9; cases h9; decide))
      ·
       exact absurd g6 (by first | (simp; done) | decide | (rw [hd1]; decide) | (rw [hd2]; decide) | (rw [hd3]; decide) | (rw [hd4]; decide) | (rw [hd5]; decide) | (have h9 := he1; rw [hd1] at h9; cases h9; decide) | (have h9 := he2; rw [hd5] at h9; cases h9; decide))
     ·
      exact absurd g5 (by first | (simp; done) | decide | (rw [hd1]; decide) | (rw [hd2]; decide) | (rw [hd3]; decide) | (rw [hd4]; decide) | (rw [hd5]; decide) | (have h9 := he1; rw [hd1] at h9; cases h9; decide) | (have h9 := he2; rw [hd5] at h9; cases h9; decide))
    ·
     exact absurd g4 (by first | (simp; done) | decide | (rw [hd1]; decide) | (rw [hd2]; decide) | (rw [hd3]; decide) | (rw [hd4]; decide) | (rw [hd5]; decide) | (have h9 := he1; rw [hd1] at h9; cases h9; decide) | (have h9 := he2; rw [hd5] at h9; cases h9; decide))
   ·
    exact absurd g3 (by first | (simp; done) | decide | (rw [hd1]; decide) | (rw [hd2]; decide) | (rw [hd3]; decide) | (rw [hd4]; decide) | (rw [hd5]; decide) | (have h9 := he1; rw [hd1] at h9; cases h9; decide) | (have h9 := he2; rw [hd5] at h9; cases h9; decide))
  ·
   exact absurd g2 (by first | (simp; done) | decide | (rw [hd1]; decide) | (rw [hd2]; decide) | (rw [hd3]; decide) | (rw [hd4]; decide) | (rw [hd5]; decide) | (have h9 := he1; rw [hd1] at h9; cases h9; decide) | (have h9 := he2; rw [hd5] at h9; cases h9; decide))
 ·
  exact absurd g1 (by first | (simp; done) | decide | (rw [hd1]; decide) | (rw [hd2]; decide) | (rw [hd3]; decide) | (rw [hd4]; decide) | (rw [hd5]; decide) | (have h9 := he1; rw [hd1] at h9; cases h9; decide) | (have h9 := he2; rw [hd5] at h9; cases h9; decide))

theorem w_burgagelaw19_play (l : List TAsk) (cl_l : Bool) (hl : l.length ≤ 1300000000000) (hs : ∀ a ∈ l, (-9223372036854775808 ≤ a.n ∧ a.n ≤ 9223372036854775807) ∧ a.q.bits.length ≤ 140737488351232 ∧ a.q.vals.length ≤ 140737488351232) :
    T Try.prog 14 [pS 11 cl_l eAsk l] 0 [] (Ret (pB true) 0 []) := by
 refine t_fun tabOk (n := 119) (rs := [.tmp 2]) Try.func14 rfl rfl rfl rfl (Nat.le_of_ble_eq_true rfl) ?_
 intro c hnt hk
 refine w_seq ?_
 refine w_R ?_
 refine qa hnt rfl rfl ?_
 refine r_end ?_
 refine q_then ?_
 refine w_seq ?_
 refine w_R ?_
 refine qo hnt rfl (s_callX (r2 := PV.ptr 0 0) (nx1 := 1) (H2 := []) (H3 := [(0, .obj [pI 0, pI 0, pI 0])]) [] [] rfl rfl rfl (handed_of (by decide) trivial) rfl rfl rfl rfl rfl rfl (w_count_New) rfl (dist_of rfl) rfl rfl rfl rfl ?_)
 refine qo hnt rfl (s_build tab_71 rfl rfl (b_nil ?_))
 refine qo hnt rfl (s_box rfl rfl ?_)
 refine qa hnt rfl rfl ?_
 refine qa hnt rfl rfl ?_
 refine r_set [(0, pS 11 cl_l eAsk l), (3, PV.ptr 0 0), (4, PV.ptr 1 0)] [(1, .obj [pI 0, pI 0, pI 0]), (0, .obj [pI 0, pI 0, pI 0])] 2 ⟨rfl, rfl, rfl, trivial⟩ rfl rfl ?_
 refine r_end ?_
 refine q_then ?_
 refine w_seq ?_
 refine w_seq ?_
 refine w_R ?_
 refine qa hnt rfl rfl ?_
 refine r_end ?_
 refine q_then ?_
 refine w_block ?_
 refine loop4 (fun (m : Int) (e : Int) (b : Int) (i : Nat) => i ≤ l.length ∧ i ≤ 100 ∧ 0 ≤ m ∧ m ≤ 1073741824 ∧ 0 ≤ e ∧ e ≤ 1073741824 ∧ 0 ≤ b ∧ b ≤ 1073741824) (fun (m : Int) (e : Int) (b : Int) (i : Nat) => [(0, pS 11 cl_l eAsk l), (3, PV.ptr 0 0), (4, PV.ptr 1 0), (5, pN i)]) 2 (fun (m : Int) (e : Int) (b : Int) (i : Nat) => [(0, .obj [pI m, pI e, pI b]), (1, .obj [pI m, pI e, pI b])]) (fun (m : Int) (e : Int) (b : Int) (i : Nat) => l.length - i) (0) (0) (0) (0) ?_ ⟨[(0, 0), (1, 1)], by rw [hk]; decide, ⟨⟨_, rfl, rfl, rfl⟩, ⟨_, rfl, rfl, rfl⟩, ⟨_, rfl, rfl, rfl⟩, ⟨_, rfl, rfl, rfl⟩, trivial⟩, ⟨⟨_, _, rfl, rfl, rfl, rfl⟩, ⟨_, _, rfl, rfl, rfl, rfl⟩, trivial⟩, by rw [hk]; decide⟩ ?_
 · exact ⟨by omega, by omega, by omega⟩
 ·
  intro m e b i hI
  obtain ⟨hi, hi1, hbd⟩ := hI
  refine w_seq ?_
  refine w_seq ?_
  refine w_R ?_
  refine qm hnt rfl rfl ?_
  refine qm hnt rfl rfl ?_
  refine qo hnt rfl (s_lenM (l := l) tab_27 rfl (hM_sl (f := eAsk) rfl) ?_)
  refine qo hnt rfl (s_lss rfl rfl ?_)
  refine qm hnt rfl rfl ?_
  refine r_if tabOk hnt rfl rfl rfl (fun g1 => ?_) (fun g1 => ?_)
  ·
   have g1' := g1
   try simp only [sB] at g1'
   refine qm hnt rfl rfl ?_
   refine ry hnt rfl rfl rfl g1 ?_
   refine qo hnt rfl (s_lss rfl rfl ?_)
   refine qo hnt rfl (s_pick_t rfl g1 rfl ?_)
   refine r_end ?_
   refine q_then ?_
   refine w_if rfl (fun c1 => ?_) (fun c1 => ?_)
   ·
    have c1_ := c1
    try simp only [sB] at c1
    refine w_skip ?_
    refine q_then ?_
    refine w_seq ?_
    refine w_block ?_
    refine w_seq ?_
    refine w_R ?_
    refine qm hnt rfl rfl ?_
    refine qm hnt rfl rfl ?_
    obtain ⟨e1, he1⟩ := get_of_lt l (i := i) (by omega)
    refine qo hnt rfl (s_iaM (q := i) (b := e1) (f := eAsk) tab_27 rfl tab_35 rfl rfl (by omega) rfl he1 ?_)
    refine qo hnt rfl (s_load_ro tab_35 rfl rfl rfl ?_)
    refine qo hnt rfl (s_alloc tab_35 ?_)
    refine qo hnt rfl (s_store_ptr tab_35 rfl rfl rfl rfl rfl (Nat.le_of_ble_eq_true rfl) ?_)
    refine r_set [(0, pS 11 cl_l eAsk l), (3, PV.ptr 0 0), (4, PV.ptr 1 0), (5, pN i), (6, PV.ptr 2 0), (21, pN i), (22, pB (decide (((i : Nat) : Int) < 100)))] [(2, .obj [pI e1.kind, pI e1.n, pI e1.q.fn, pI e1.q.at_, pI e1.q.count, pI e1.q.wAt, pI e1.q.sub, pS 1 false encBo e1.q.bits, pS 1 false enc16 e1.q.vals, p16 e1.q.and_, p16 e1.q.or_]), (0, .obj [pI m, pI e, pI b]), (1, .obj [pI m, pI e, pI b])] 3 ⟨rfl, rfl, rfl, rfl, rfl, rfl, rfl, trivial⟩ rfl rfl ?_
    refine r_end ?_
    refine q_then ?_
    refine w_seq ?_
    refine w_seq ?_
    have hx := hs e1 (List.mem_of_getElem? he1)
    refine w_R ?_
    refine qm hnt rfl rfl ?_
    refine qo hnt rfl (s_ptrnil tab_38 rfl rfl trivial ?_)
    refine r_end ?_
    refine q_then ?_
    refine w_if rfl (fun e => absurd e (by decide)) (fun _ => ?_)
    refine w_skip ?_
    refine q_then ?_
    refine join3 (fun (m : Int) (e : Int) (b : Int) => 0 ≤ m ∧ m ≤ 1073741824 ∧ 0 ≤ e ∧ e ≤ 1073741824 ∧ 0 ≤ b ∧ b ≤ 1073741824) (fun (m : Int) (e : Int) (b : Int) => [(0, pS 11 cl_l eAsk l), (3, PV.ptr 0 0), (4, PV.ptr 1 0), (5, pN i), (21, pN i), (22, pB (decide (((i : Nat) : Int) < 100)))]) 2 (fun (m : Int) (e : Int) (b : Int) => [(0, .obj [pI m, pI e, pI b]), (1, .obj [pI m, pI e, pI b])]) ?_ ?_
    ·
     refine w_seq ?_
     refine w_R ?_
     refine qo hnt rfl (s_fa_ptr tab_35 rfl rfl tab_3 (by decide) rfl ?_)
     refine qo hnt rfl (s_load_ptr1 tab_3 rfl rfl rfl rfl rfl ?_)
     refine r_end ?_
     refine q_then ?_
     refine w_block ?_
     refine w_seq ?_
     refine w_seq ?_
     refine w_R ?_
     refine qo hnt rfl (s_eql rfl rfl ?_)
     refine qa hnt rfl rfl ?_
     refine r_end ?_
     refine q_then ?_
     refine w_if rfl (fun c2 => ?_) (fun c2 => ?_)
     ·
      have c2_ := c2
      try simp only [sB] at c2
      refine w_skip ?_
      refine q_then ?_
      refine w_if rfl (fun _ => ?_) (fun e => absurd (e.symm.trans c2_) (by decide))
      refine w_seq ?_
      refine w_R ?_
      refine qm hnt rfl rfl ?_
      refine qo hnt rfl (s_callX (r2 := PV.tup []) (nx1 := 3) (H2 := [(2, .obj [pI e1.kind, pI e1.n, pI e1.q.fn, pI e1.q.at_, pI e1.q.count, pI e1.q.wAt, pI e1.q.sub, pS 1 false encBo e1.q.bits, pS 1 false enc16 e1.q.vals, p16 e1.q.and_, p16 e1.q.or_]), (0, .obj [pI m, pI e, pI b]), (1, .obj [pI m, pI e, pI b])]) (H3 := [(0, .obj [pI (min (m + 1) 1073741824), pI e, pI b]), (2, .obj [pI e1.kind, pI e1.n, pI e1.q.fn, pI e1.q.at_, pI e1.q.count, pI e1.q.wAt, pI e1.q.sub, pS 1 false encBo e1.q.bits, pS 1 false enc16 e1.q.vals, p16 e1.q.and_, p16 e1.q.or_]), (1, .obj [pI m, pI e, pI b])]) [0] [.obj [pI m, pI e, pI b]] rfl rfl rfl (handed_of (by decide) ⟨rfl, trivial⟩) rfl rfl rfl rfl rfl rfl (w_count_Count_Message m e b (by first | omega | assumption | (simp; omega) | decide | (simp; done))) rfl (dist_of rfl) rfl rfl rfl rfl ?_)
      refine r_set [(0, pS 11 cl_l eAsk l), (3, PV.ptr 0 0), (4, PV.ptr 1 0), (5, pN i), (21, pN i), (22, pB (decide (((i : Nat) : Int) < 100)))] [(0, .obj [pI (min (m + 1) 1073741824), pI e, pI b]), (2, .obj [pI e1.kind, pI e1.n, pI e1.q.fn, pI e1.q.at_, pI e1.q.count, pI e1.q.wAt, pI e1.q.sub, pS 1 false encBo e1.q.bits, pS 1 false enc16 e1.q.vals, p16 e1.q.and_, p16 e1.q.or_]), (1, .obj [pI m, pI e, pI b])] 3 ⟨rfl, rfl, rfl, rfl, rfl, rfl, trivial⟩ rfl rfl ?_
      refine r_end ?_
      refine q_then ?_
      refine w_R ?_
      refine qm hnt rfl rfl ?_
      refine qo hnt rfl (s_callX (r2 := PV.tup []) (nx1 := 3) (H2 := [(0, .obj [pI (min (m + 1) 1073741824), pI e, pI b]), (2, .obj [pI e1.kind, pI e1.n, pI e1.q.fn, pI e1.q.at_, pI e1.q.count, pI e1.q.wAt, pI e1.q.sub, pS 1 false encBo e1.q.bits, pS 1 false enc16 e1.q.vals, p16 e1.q.and_, p16 e1.q.or_]), (1, .obj [pI m, pI e, pI b])]) (H3 := [(1, .obj [pI (min (m + 1) 1073741824), pI e, pI b]), (0, .obj [pI (min (m + 1) 1073741824), pI e, pI b]), (2, .obj [pI e1.kind, pI e1.n, pI e1.q.fn, pI e1.q.at_, pI e1.q.count, pI e1.q.wAt, pI e1.q.sub, pS 1 false encBo e1.q.bits, pS 1 false enc16 e1.q.vals, p16 e1.q.and_, p16 e1.q.or_])]) [1] [.obj [pI m, pI e, pI b]] rfl rfl rfl (handed_of (by decide) ⟨rfl, trivial⟩) rfl rfl rfl rfl rfl rfl (w_burgageref17_Count_Message m e b (by first | omega | assumption | (simp; omega) | decide | (simp; done))) rfl (dist_of rfl) rfl rfl rfl rfl ?_)
      refine r_end ?_
      refine q_block ?_
      refine q_then ?_
      refine ⟨(min (m + 1) 1073741824), (e), (b), ?_, ⟨[(0, 0), (1, 1)], by rw [hk]; decide, ⟨⟨_, rfl, rfl, rfl⟩, ⟨_, rfl, rfl, rfl⟩, ⟨_, rfl, rfl, rfl⟩, ⟨_, rfl, rfl, rfl⟩, ⟨_, rfl, rfl, rfl⟩, ⟨_, rfl, rfl, rfl⟩, trivial⟩, ⟨⟨_, _, rfl, rfl, rfl, rfl⟩, ⟨_, _, rfl, rfl, rfl, rfl⟩, trivial⟩, by rw [hk]; decide⟩⟩
      first | omega | (have h7 := cC_or m D1.2; have h8 := cC_or e D1.2; have h9 := cC_or b D1.2; omega)
     ·
      have c2_ := c2
      try simp only [sB] at c2
      refine w_R ?_
      refine qo hnt rfl (s_eql rfl rfl ?_)
      refine qa hnt rfl rfl ?_
      refine r_end ?_
      refine q_then ?_
      refine w_if rfl (fun c3 => ?_) (fun c3 => ?_)
      ·
       have c3_ := c3
       try simp only [sB] at c3
       refine w_seq ?_
       refine w_R ?_
       refine qm hnt rfl rfl ?_
       refine qo hnt rfl (s_callX (r2 := PV.tup []) (nx1 := 3) (H2 := [(2, .obj [pI e1.kind, pI e1.n, pI e1.q.fn, pI e1.q.at_, pI e1.q.count, pI e1.q.wAt, pI e1.q.sub, pS 1 false encBo e1.q.bits, pS 1 false enc16 e1.q.vals, p16 e1.q.and_, p16 e1.q.or_]), (0, .obj [pI m, pI e, pI b]), (1, .obj [pI m, pI e, pI b])]) (H3 := [(0, .obj [pI (min (m + 1) 1073741824), pI e, pI b]), (2, .obj [pI e1.kind, pI e1.n, pI e1.q.fn, pI e1.q.at_, pI e1.q.count, pI e1.q.wAt, pI e1.q.sub, pS 1 false encBo e1.q.bits, pS 1 false enc16 e1.q.vals, p16 e1.q.and_, p16 e1.q.or_]), (1, .obj [pI m, pI e, pI b])]) [0] [.obj [pI m, pI e, pI b]] rfl rfl rfl (handed_of (by decide) ⟨rfl, trivial⟩) rfl rfl rfl rfl rfl rfl (w_count_Count_Message m e b (by first | omega | assumption | (simp; omega) | decide | (simp; done))) rfl (dist_of rfl) rfl rfl rfl rfl ?_)
       refine r_set [(0, pS 11 cl_l eAsk l), (3, PV.ptr 0 0), (4, PV.ptr 1 0), (5, pN i), (21, pN i), (22, pB (decide (((i : Nat) : Int) < 100)))] [(0, .obj [pI (min (m + 1) 1073741824), pI e, pI b]), (2, .obj [pI e1.kind, pI e1.n, pI e1.q.fn, pI e1.q.at_, pI e1.q.count, pI e1.q.wAt, pI e1.q.sub, pS 1 false encBo e1.q.bits, pS 1 false enc16 e1.q.vals, p16 e1.q.and_, p16 e1.q.or_]), (1, .obj [pI m, pI e, pI b])] 3 ⟨rfl, rfl, rfl, rfl, rfl, rfl, trivial⟩ rfl rfl ?_
       refine r_end ?_
       refine q_then ?_
       refine w_R ?_
       refine qm hnt rfl rfl ?_
       refine qo hnt rfl (s_callX (r2 := PV.tup []) (nx1 := 3) (H2 := [(0, .obj [pI (min (m + 1) 1073741824), pI e, pI b]), (2, .obj [pI e1.kind, pI e1.n, pI e1.q.fn, pI e1.q.at_, pI e1.q.count, pI e1.q.wAt, pI e1.q.sub, pS 1 false encBo e1.q.bits, pS 1 false enc16 e1.q.vals, p16 e1.q.and_, p16 e1.q.or_]), (1, .obj [pI m, pI e, pI b])]) (H3 := [(1, .obj [pI (min (m + 1) 1073741824), pI e, pI b]), (0, .obj [pI (min (m + 1) 1073741824), pI e, pI b]), (2, .obj [pI e1.kind, pI e1.n, pI e1.q.fn, pI e1.q.at_, pI e1.q.count, pI e1.q.wAt, pI e1.q.sub, pS 1 false encBo e1.q.bits, pS 1 false enc16 e1.q.vals, p16 e1.q.and_, p16 e1.q.or_])]) [1] [.obj [pI m, pI e, pI b]] rfl rfl rfl (handed_of (by decide) ⟨rfl, trivial⟩) rfl rfl rfl rfl rfl rfl (w_burgageref17_Count_Message m e b (by first | omega | assumption | (simp; omega) | decide | (simp; done))) rfl (dist_of rfl) rfl rfl rfl rfl ?_)
       refine r_end ?_
       refine q_block ?_
       refine q_then ?_
       refine ⟨(min (m + 1) 1073741824), (e), (b), ?_, ⟨[(0, 0), (1, 1)], by rw [hk]; decide, ⟨⟨_, rfl, rfl, rfl⟩, ⟨_, rfl, rfl, rfl⟩, ⟨_, rfl, rfl, rfl⟩, ⟨_, rfl, rfl, rfl⟩, ⟨_, rfl, rfl, rfl⟩, ⟨_, rfl, rfl, rfl⟩, trivial⟩, ⟨⟨_, _, rfl, rfl, rfl, rfl⟩, ⟨_, _, rfl, rfl, rfl, rfl⟩, trivial⟩, by rw [hk]; decide⟩⟩
       first | omega | (have h7 := cC_or m D1.2; have h8 := cC_or e D1.2; have h9 := cC_or b D1.2; omega)
      ·
       have c3_ := c3
       try simp only [sB] at c3
       refine w_seq ?_
       refine w_R ?_
       refine qo hnt rfl (s_eql rfl rfl ?_)
       refine qa hnt rfl rfl ?_
       refine r_end ?_
       refine q_then ?_
       refine w_if rfl (fun c4 => ?_) (fun c4 => ?_)
       ·
        have c4_ := c4
        try simp only [sB] at c4
        refine w_seq ?_
        refine w_R ?_
        refine qm hnt rfl rfl ?_
        refine qo hnt rfl (s_callX (r2 := PV.tup []) (nx1 := 3) (H2 := [(2, .obj [pI e1.kind, pI e1.n, pI e1.q.fn, pI e1.q.at_, pI e1.q.count, pI e1.q.wAt, pI e1.q.sub, pS 1 false encBo e1.q.bits, pS 1 false enc16 e1.q.vals, p16 e1.q.and_, p16 e1.q.or_]), (0, .obj [pI m, pI e, pI b]), (1, .obj [pI m, pI e, pI b])]) (H3 := [(0, .obj [pI m, pI (min (e + 1) 1073741824), pI b]), (2, .obj [pI e1.kind, pI e1.n, pI e1.q.fn, pI e1.q.at_, pI e1.q.count, pI e1.q.wAt, pI e1.q.sub, pS 1 false encBo e1.q.bits, pS 1 false enc16 e1.q.vals, p16 e1.q.and_, p16 e1.q.or_]), (1, .obj [pI m, pI e, pI b])]) [0] [.obj [pI m, pI e, pI b]] rfl rfl rfl (handed_of (by decide) ⟨rfl, trivial⟩) rfl rfl rfl rfl rfl rfl (w_count_Count_Exception m e b (by first | omega | assumption | (simp; omega) | decide | (simp; done))) rfl (dist_of rfl) rfl rfl rfl rfl ?_)
        refine r_set [(0, pS 11 cl_l eAsk l), (3, PV.ptr 0 0), (4, PV.ptr 1 0), (5, pN i), (21, pN i), (22, pB (decide (((i : Nat) : Int) < 100)))] [(0, .obj [pI m, pI (min (e + 1) 1073741824), pI b]), (2, .obj [pI e1.kind, pI e1.n, pI e1.q.fn, pI e1.q.at_, pI e1.q.count, pI e1.q.wAt, pI e1.q.sub, pS 1 false encBo e1.q.bits, pS 1 false enc16 e1.q.vals, p16 e1.q.and_, p16 e1.q.or_]), (1, .obj [pI m, pI e, pI b])] 3 ⟨rfl, rfl, rfl, rfl, rfl, rfl, trivial⟩ rfl rfl ?_
        refine r_end ?_
        refine q_then ?_
        refine w_R ?_
        refine qm hnt rfl rfl ?_
        refine qo hnt rfl (s_callX (r2 := PV.tup []) (nx1 := 3) (H2 := [(0, .obj [pI m, pI (min (e + 1) 1073741824), pI b]), (2, .obj [pI e1.kind, pI e1.n, pI e1.q.fn, pI e1.q.at_, pI e1.q.count, pI e1.q.wAt, pI e1.q.sub, pS 1 false encBo e1.q.bits, pS 1 false enc16 e1.q.vals, p16 e1.q.and_, p16 e1.q.or_]), (1, .obj [pI m, pI e, pI b])]) (H3 := [(1, .obj [pI m, pI (min (e + 1) 1073741824), pI b]), (0, .obj [pI m, pI (min (e + 1) 1073741824), pI b]), (2, .obj [pI e1.kind, pI e1.n, pI e1.q.fn, pI e1.q.at_, pI e1.q.count, pI e1.q.wAt, pI e1.q.sub, pS 1 false encBo e1.q.bits, pS 1 false enc16 e1.q.vals, p16 e1.q.and_, p16 e1.q.or_])]) [1] [.obj [pI m, pI e, pI b]] rfl rfl rfl (handed_of (by decide) ⟨rfl, trivial⟩) rfl rfl rfl rfl rfl rfl (w_burgageref17_Count_Exception m e b (by first | omega | assumption | (simp; omega) | decide | (simp; done))) rfl (dist_of rfl) rfl rfl rfl rfl ?_)
        refine r_end ?_
        refine q_block ?_
        refine q_then ?_
        refine ⟨(m), (min (e + 1) 1073741824), (b), ?_, ⟨[(0, 0), (1, 1)], by rw [hk]; decide, ⟨⟨_, rfl, rfl, rfl⟩, ⟨_, rfl, rfl, rfl⟩, ⟨_, rfl, rfl, rfl⟩, ⟨_, rfl, rfl, rfl⟩, ⟨_, rfl, rfl, rfl⟩, ⟨_, rfl, rfl, rfl⟩, trivial⟩, ⟨⟨_, _, rfl, rfl, rfl, rfl⟩, ⟨_, _, rfl, rfl, rfl, rfl⟩, trivial⟩, by rw [hk]; decide⟩⟩
        first | omega | (have h7 := cC_or m D1.2; have h8 := cC_or e D1.2; have h9 := cC_or b D1.2; omega)
       ·
        have c4_ := c4
        try simp only [sB] at c4
        refine w_seq ?_
        refine w_R ?_
        refine qo hnt rfl (s_eql rfl rfl ?_)
        refine qa hnt rfl rfl ?_
        refine r_end ?_
        refine q_then ?_
        refine w_if rfl (fun c5 => ?_) (fun c5 => ?_)
        ·
         have c5_ := c5
         try simp only [sB] at c5
         refine w_seq ?_
         refine w_R ?_
         refine qm hnt rfl rfl ?_
         refine qo hnt rfl (s_fa_ptr tab_35 rfl rfl tab_3 (by decide) rfl ?_)
         refine qo hnt rfl (s_load_ptr1 tab_3 rfl rfl rfl rfl rfl ?_)
         refine qo hnt rfl (s_callX (r2 := PV.tup []) (nx1 := 3) (H2 := [(2, .obj [pI e1.kind, pI e1.n, pI e1.q.fn, pI e1.q.at_, pI e1.q.count, pI e1.q.wAt, pI e1.q.sub, pS 1 false encBo e1.q.bits, pS 1 false enc16 e1.q.vals, p16 e1.q.and_, p16 e1.q.or_]), (0, .obj [pI m, pI e, pI b]), (1, .obj [pI m, pI e, pI b])]) (H3 := [(0, .obj [pI m, pI e, pI (b + (max 0 (min e1.n (1073741824 - b))))]), (2, .obj [pI e1.kind, pI e1.n, pI e1.q.fn, pI e1.q.at_, pI e1.q.count, pI e1.q.wAt, pI e1.q.sub, pS 1 false encBo e1.q.bits, pS 1 false enc16 e1.q.vals, p16 e1.q.and_, p16 e1.q.or_]), (1, .obj [pI m, pI e, pI b])]) [0] [.obj [pI m, pI e, pI b]] rfl rfl rfl (handed_of (by decide) ⟨rfl, trivial⟩) rfl rfl rfl rfl rfl rfl (w_count_Count_Bad m e b e1.n (by first | omega | assumption | (simp; omega) | decide | (simp; done)) (by first | omega | assumption | (simp; omega) | decide | (simp; done))) rfl (dist_of rfl) rfl rfl rfl rfl ?_)
         refine r_set [(0, pS 11 cl_l eAsk l), (3, PV.ptr 0 0), (4, PV.ptr 1 0), (5, pN i), (6, PV.ptr 2 0), (21, pN i), (22, pB (decide (((i : Nat) : Int) < 100)))] [(0, .obj [pI m, pI e, pI (b + (max 0 (min e1.n (1073741824 - b))))]), (2, .obj [pI e1.kind, pI e1.n, pI e1.q.fn, pI e1.q.at_, pI e1.q.count, pI e1.q.wAt, pI e1.q.sub, pS 1 false encBo e1.q.bits, pS 1 false enc16 e1.q.vals, p16 e1.q.and_, p16 e1.q.or_]), (1, .obj [pI m, pI e, pI b])] 3 ⟨rfl, rfl, rfl, rfl, rfl, rfl, rfl, trivial⟩ rfl rfl ?_
         refine r_end ?_
         refine q_then ?_
         refine w_R ?_
         refine qm hnt rfl rfl ?_
         refine qo hnt rfl (s_fa_ptr tab_35 rfl rfl tab_3 (by decide) rfl ?_)
         refine qo hnt rfl (s_load_ptr1 tab_3 rfl rfl rfl rfl rfl ?_)
         refine qo hnt rfl (s_callX (r2 := PV.tup []) (nx1 := 3) (H2 := [(0, .obj [pI m, pI e, pI (b + (max 0 (min e1.n (1073741824 - b))))]), (2, .obj [pI e1.kind, pI e1.n, pI e1.q.fn, pI e1.q.at_, pI e1.q.count, pI e1.q.wAt, pI e1.q.sub, pS 1 false encBo e1.q.bits, pS 1 false enc16 e1.q.vals, p16 e1.q.and_, p16 e1.q.or_]), (1, .obj [pI m, pI e, pI b])]) (H3 := [(1, .obj [pI m, pI e, pI (heldN (b + (heldN e1.n)))]), (0, .obj [pI m, pI e, pI (b + (max 0 (min e1.n (1073741824 - b))))]), (2, .obj [pI e1.kind, pI e1.n, pI e1.q.fn, pI e1.q.at_, pI e1.q.count, pI e1.q.wAt, pI e1.q.sub, pS 1 false encBo e1.q.bits, pS 1 false enc16 e1.q.vals, p16 e1.q.and_, p16 e1.q.or_])]) [1] [.obj [pI m, pI e, pI b]] rfl rfl rfl (handed_of (by decide) ⟨rfl, trivial⟩) rfl rfl rfl rfl rfl rfl (w_burgageref17_Count_Bad m e b e1.n (by first | omega | assumption | (simp; omega) | decide | (simp; done)) (by first | omega | assumption | (simp; omega) | decide | (simp; done))) rfl (dist_of rfl) rfl rfl rfl rfl ?_)
         refine r_leC (n := 1) (j := 2) (y := pI (b + (max 0 (min e1.n (1073741824 - b))))) rfl rfl (le_of_eq (congrArg (fun z : Int => pI z) (show (heldN (b + (heldN e1.n))) = (b + (max 0 (min e1.n (1073741824 - b)))) by first | (simp only [heldN]; omega) | rw [hD2, ← hD1] | omega))) ?_
         refine r_end ?_
         refine q_block ?_
         refine q_then ?_
         refine ⟨(m), (e), (b + (max 0 (min e1.n (1073741824 - b)))), ?_, ⟨[(0, 0), (1, 1)], by rw [hk]; decide, ⟨⟨_, rfl, rfl, rfl⟩, ⟨_, rfl, rfl, rfl⟩, ⟨_, rfl, rfl, rfl⟩, ⟨_, rfl, rfl, rfl⟩, ⟨_, rfl, rfl, rfl⟩, ⟨_, rfl, rfl, rfl⟩, trivial⟩, ⟨⟨_, _, rfl, rfl, rfl, rfl⟩, ⟨_, _, rfl, rfl, rfl, rfl⟩, trivial⟩, by rw [hk]; decide⟩⟩
         first | omega | (have h7 := cC_or m D1.2; have h8 := cC_or e D1.2; have h9 := cC_or b D1.2; omega)
        ·
         have c5_ := c5
         try simp only [sB] at c5
         refine w_seq ?_
         refine w_R ?_
         refine qo hnt rfl (s_eql rfl rfl ?_)
         refine qa hnt rfl rfl ?_
         refine r_end ?_
         refine q_then ?_
         refine w_if rfl (fun c6 => ?_) (fun c6 => ?_)
         ·
          have c6_ := c6
          try simp only [sB] at c6
          refine w_seq ?_
          refine w_R ?_
          refine qm hnt rfl rfl ?_
          refine qo hnt rfl (s_callX (r2 := PV.tup []) (nx1 := 3) (H2 := [(2, .obj [pI e1.kind, pI e1.n, pI e1.q.fn, pI e1.q.at_, pI e1.q.count, pI e1.q.wAt, pI e1.q.sub, pS 1 false encBo e1.q.bits, pS 1 false enc16 e1.q.vals, p16 e1.q.and_, p16 e1.q.or_]), (0, .obj [pI m, pI e, pI b]), (1, .obj [pI m, pI e, pI b])]) (H3 := [(0, .obj [pI 0, pI 0, pI 0]), (2, .obj [pI e1.kind, pI e1.n, pI e1.q.fn, pI e1.q.at_, pI e1.q.count, pI e1.q.wAt, pI e1.q.sub, pS 1 false encBo e1.q.bits, pS 1 false enc16 e1.q.vals, p16 e1.q.and_, p16 e1.q.or_]), (1, .obj [pI m, pI e, pI b])]) [0] [.obj [pI m, pI e, pI b]] rfl rfl rfl (handed_of (by decide) ⟨rfl, trivial⟩) rfl rfl rfl rfl rfl rfl (w_count_Count_Clear m e b) rfl (dist_of rfl) rfl rfl rfl rfl ?_)
          refine r_set [(0, pS 11 cl_l eAsk l), (3, PV.ptr 0 0), (5, pN i), (21, pN i), (22, pB (decide (((i : Nat) : Int) < 100)))] [(0, .obj [pI 0, pI 0, pI 0]), (2, .obj [pI e1.kind, pI e1.n, pI e1.q.fn, pI e1.q.at_, pI e1.q.count, pI e1.q.wAt, pI e1.q.sub, pS 1 false encBo e1.q.bits, pS 1 false enc16 e1.q.vals, p16 e1.q.and_, p16 e1.q.or_]), (1, .obj [pI m, pI e, pI b])] 3 ⟨rfl, rfl, rfl, rfl, rfl, trivial⟩ rfl rfl ?_
          refine r_end ?_
          refine q_then ?_
          refine w_R ?_
          refine qo hnt rfl (s_build tab_71 rfl rfl (b_nil ?_))
          refine qo hnt rfl (s_box rfl rfl ?_)
          refine qa hnt rfl rfl ?_
          refine r_end ?_
          refine q_block ?_
          refine q_then ?_
          refine ⟨(0), (0), (0), ?_, ⟨[(0, 0), (1, 3)], by rw [hk]; decide, ⟨⟨_, rfl, rfl, rfl⟩, ⟨_, rfl, rfl, rfl⟩, ⟨_, rfl, rfl, rfl⟩, ⟨_, rfl, rfl, rfl⟩, ⟨_, rfl, rfl, rfl⟩, ⟨_, rfl, rfl, rfl⟩, trivial⟩, ⟨⟨_, _, rfl, rfl, rfl, rfl⟩, ⟨_, _, rfl, rfl, rfl, rfl⟩, trivial⟩, by rw [hk]; decide⟩⟩
          first | omega | (have h7 := cC_or m D1.2; have h8 := cC_or e D1.2; have h9 := cC_or b D1.2; omega)
         ·
          have c6_ := c6
          try simp only [sB] at c6
          refine w_seq ?_
          refine w_R ?_
          refine qo hnt rfl (s_fa_ptr tab_35 rfl rfl tab_32 (by decide) rfl ?_)
          refine qo hnt rfl (s_load_ptr tab_32 rfl rfl rfl (Nat.le_of_ble_eq_true rfl) ?_)
          refine qo hnt rfl (s_alloc tab_32 ?_)
          refine qo hnt rfl (s_store_ptr tab_32 rfl rfl rfl rfl rfl (Nat.le_of_ble_eq_true rfl) ?_)
          refine r_set [(0, pS 11 cl_l eAsk l), (3, PV.ptr 0 0), (4, PV.ptr 1 0), (5, pN i), (6, PV.ptr 2 0), (7, PV.ptr 3 0), (21, pN i), (22, pB (decide (((i : Nat) : Int) < 100)))] [(3, .obj [pI e1.q.fn, pI e1.q.at_, pI e1.q.count, pI e1.q.wAt, pI e1.q.sub, pS 1 false encBo e1.q.bits, pS 1 false enc16 e1.q.vals, p16 e1.q.and_, p16 e1.q.or_]), (2, .obj [pI e1.kind, pI e1.n, pI e1.q.fn, pI e1.q.at_, pI e1.q.count, pI e1.q.wAt, pI e1.q.sub, pS 1 false encBo e1.q.bits, pS 1 false enc16 e1.q.vals, p16 e1.q.and_, p16 e1.q.or_]), (0, .obj [pI m, pI e, pI b]), (1, .obj [pI m, pI e, pI b])] 4 ⟨rfl, rfl, rfl, rfl, rfl, rfl, rfl, rfl, trivial⟩ rfl rfl ?_
          refine r_end ?_
          refine q_then ?_
          refine w_seq ?_
          refine W_drawn tabOk mixed hnt [[], [0], [], [2], [2, 3], [2, 3, 4], [0, 1, 2, 3, 4, 5], [], [7], [], [9], [9, 10], [9, 10, 11], [7, 8, 9, 10, 11, 12], [0, 1, 2, 3, 4, 5, 6, 7, 8, 9, 10], [0, 1, 2, 3, 4, 5, 6, 7, 8, 9, 10, 14], [0, 1, 2, 3, 4, 5, 6, 7, 8, 9, 10, 11, 12, 13, 14, 15], [0, 1, 2, 3, 4, 5, 6, 7, 8, 9, 10, 11, 12, 13, 14, 15, 16]] (by kernel_rfl) ?_
          refine d_op ?_
          refine x_run0 [(7, PV.ptr 3 0)] [] rfl rfl rfl rfl (s_fa_ptr tab_32 rfl rfl tab_28 (by decide) rfl ⟨rfl, rfl, rfl⟩) ?_
          refine d_op ?_
          refine x_run [(36, PV.ptr 3 5)] [0] [(3, .obj [pI e1.q.fn, pI e1.q.at_, pI e1.q.count, pI e1.q.wAt, pI e1.q.sub, pS 1 false encBo e1.q.bits, pS 1 false enc16 e1.q.vals, p16 e1.q.and_, p16 e1.q.or_])] [] [(3, .obj [pI e1.q.fn, pI e1.q.at_, pI e1.q.count, pI e1.q.wAt, pI e1.q.sub, pS 1 false encBo e1.q.bits, pS 1 false enc16 e1.q.vals, p16 e1.q.and_, p16 e1.q.or_])] [] [(3, .obj [pI e1.q.fn, pI e1.q.at_, pI e1.q.count, pI e1.q.wAt, pI e1.q.sub, pS 1 false encBo e1.q.bits, pS 1 false enc16 e1.q.vals, p16 e1.q.and_, p16 e1.q.or_]), (2, .obj [pI e1.kind, pI e1.n, pI e1.q.fn, pI e1.q.at_, pI e1.q.count, pI e1.q.wAt, pI e1.q.sub, pS 1 false encBo e1.q.bits, pS 1 false enc16 e1.q.vals, p16 e1.q.and_, p16 e1.q.or_]), (0, .obj [pI m, pI e, pI b]), (1, .obj [pI m, pI e, pI b])] rfl rfl rfl rfl rfl rfl (s_load_ptr1 tab_28 rfl rfl rfl rfl rfl ⟨rfl, rfl, rfl⟩) rfl ⟨rfl, trivial⟩ rfl rfl ?_
          refine d_op ?_
          refine x_run0 [(7, PV.ptr 3 0)] [] rfl rfl rfl rfl (s_fa_ptr tab_32 rfl rfl tab_28 (by decide) rfl ⟨rfl, rfl, rfl⟩) ?_
          refine d_op ?_
          refine x_run [(38, PV.ptr 3 5)] [2] [(3, .obj [pI e1.q.fn, pI e1.q.at_, pI e1.q.count, pI e1.q.wAt, pI e1.q.sub, pS 1 false encBo e1.q.bits, pS 1 false enc16 e1.q.vals, p16 e1.q.and_, p16 e1.q.or_])] [] [(3, .obj [pI e1.q.fn, pI e1.q.at_, pI e1.q.count, pI e1.q.wAt, pI e1.q.sub, pS 1 false encBo e1.q.bits, pS 1 false enc16 e1.q.vals, p16 e1.q.and_, p16 e1.q.or_])] [] [(3, .obj [pI e1.q.fn, pI e1.q.at_, pI e1.q.count, pI e1.q.wAt, pI e1.q.sub, pS 1 false encBo e1.q.bits, pS 1 false enc16 e1.q.vals, p16 e1.q.and_, p16 e1.q.or_]), (2, .obj [pI e1.kind, pI e1.n, pI e1.q.fn, pI e1.q.at_, pI e1.q.count, pI e1.q.wAt, pI e1.q.sub, pS 1 false encBo e1.q.bits, pS 1 false enc16 e1.q.vals, p16 e1.q.and_, p16 e1.q.or_]), (0, .obj [pI m, pI e, pI b]), (1, .obj [pI m, pI e, pI b])] rfl rfl rfl rfl rfl rfl (s_load_ptr1 tab_28 rfl rfl rfl rfl rfl ⟨rfl, rfl, rfl⟩) rfl ⟨rfl, trivial⟩ rfl rfl ?_
          refine d_op ?_
          refine x_run0 [(39, pS 1 false encBo e1.q.bits)] [2, 3] rfl rfl rfl rfl (s_lenM (l := e1.q.bits) tab_28 rfl (hM_sl (f := encBo) rfl) ⟨rfl, rfl, rfl⟩) ?_
          refine d_op ?_
          refine x_run0 [(40, pN e1.q.bits.length)] [2, 3, 4] rfl rfl rfl rfl (s_minN (a := e1.q.bits.length) (b := 20) rfl (by omega) (by omega) ⟨rfl, rfl, rfl⟩) ?_
          refine d_op ?_
          refine x_run0 [(37, pS 1 false encBo e1.q.bits), (41, pN (min e1.q.bits.length 20))] [0, 1, 2, 3, 4, 5] rfl rfl rfl rfl (s_cutM_hi (b := min e1.q.bits.length 20) (f := encBo) (l := e1.q.bits) tab_28 rfl tab_4 ⟨rfl, by decide⟩ rfl (bound_some rfl (by omega)) (by omega) ⟨rfl, rfl, rfl⟩) ?_
          refine d_op ?_
          refine x_run0 [(7, PV.ptr 3 0)] [] rfl rfl rfl rfl (s_fa_ptr tab_32 rfl rfl tab_29 (by decide) rfl ⟨rfl, rfl, rfl⟩) ?_
          refine d_op ?_
          refine x_run [(43, PV.ptr 3 6)] [7] [(3, .obj [pI e1.q.fn, pI e1.q.at_, pI e1.q.count, pI e1.q.wAt, pI e1.q.sub, pS 1 false encBo e1.q.bits, pS 1 false enc16 e1.q.vals, p16 e1.q.and_, p16 e1.q.or_])] [] [(3, .obj [pI e1.q.fn, pI e1.q.at_, pI e1.q.count, pI e1.q.wAt, pI e1.q.sub, pS 1 false encBo e1.q.bits, pS 1 false enc16 e1.q.vals, p16 e1.q.and_, p16 e1.q.or_])] [] [(3, .obj [pI e1.q.fn, pI e1.q.at_, pI e1.q.count, pI e1.q.wAt, pI e1.q.sub, pS 1 false encBo e1.q.bits, pS 1 false enc16 e1.q.vals, p16 e1.q.and_, p16 e1.q.or_]), (2, .obj [pI e1.kind, pI e1.n, pI e1.q.fn, pI e1.q.at_, pI e1.q.count, pI e1.q.wAt, pI e1.q.sub, pS 1 false encBo e1.q.bits, pS 1 false enc16 e1.q.vals, p16 e1.q.and_, p16 e1.q.or_]), (0, .obj [pI m, pI e, pI b]), (1, .obj [pI m, pI e, pI b])] rfl rfl rfl rfl rfl rfl (s_load_ptr1 tab_29 rfl rfl rfl rfl rfl ⟨rfl, rfl, rfl⟩) rfl ⟨rfl, trivial⟩ rfl rfl ?_
          refine d_op ?_
          refine x_run0 [(7, PV.ptr 3 0)] [] rfl rfl rfl rfl (s_fa_ptr tab_32 rfl rfl tab_29 (by decide) rfl ⟨rfl, rfl, rfl⟩) ?_
          refine d_op ?_
          refine x_run [(45, PV.ptr 3 6)] [9] [(3, .obj [pI e1.q.fn, pI e1.q.at_, pI e1.q.count, pI e1.q.wAt, pI e1.q.sub, pS 1 false encBo e1.q.bits, pS 1 false enc16 e1.q.vals, p16 e1.q.and_, p16 e1.q.or_])] [] [(3, .obj [pI e1.q.fn, pI e1.q.at_, pI e1.q.count, pI e1.q.wAt, pI e1.q.sub, pS 1 false encBo e1.q.bits, pS 1 false enc16 e1.q.vals, p16 e1.q.and_, p16 e1.q.or_])] [] [(3, .obj [pI e1.q.fn, pI e1.q.at_, pI e1.q.count, pI e1.q.wAt, pI e1.q.sub, pS 1 false encBo e1.q.bits, pS 1 false enc16 e1.q.vals, p16 e1.q.and_, p16 e1.q.or_]), (2, .obj [pI e1.kind, pI e1.n, pI e1.q.fn, pI e1.q.at_, pI e1.q.count, pI e1.q.wAt, pI e1.q.sub, pS 1 false encBo e1.q.bits, pS 1 false enc16 e1.q.vals, p16 e1.q.and_, p16 e1.q.or_]), (0, .obj [pI m, pI e, pI b]), (1, .obj [pI m, pI e, pI b])] rfl rfl rfl rfl rfl rfl (s_load_ptr1 tab_29 rfl rfl rfl rfl rfl ⟨rfl, rfl, rfl⟩) rfl ⟨rfl, trivial⟩ rfl rfl ?_
          refine d_op ?_
          refine x_run0 [(46, pS 1 false enc16 e1.q.vals)] [9, 10] rfl rfl rfl rfl (s_lenM (l := e1.q.vals) tab_29 rfl (hM_sl (f := enc16) rfl) ⟨rfl, rfl, rfl⟩) ?_
          refine d_op ?_
          refine x_run0 [(47, pN e1.q.vals.length)] [9, 10, 11] rfl rfl rfl rfl (s_minN (a := e1.q.vals.length) (b := 20) rfl (by omega) (by omega) ⟨rfl, rfl, rfl⟩) ?_
          refine d_op ?_
          refine x_run0 [(44, pS 1 false enc16 e1.q.vals), (48, pN (min e1.q.vals.length 20))] [7, 8, 9, 10, 11, 12] rfl rfl rfl rfl (s_cutM_hi (b := min e1.q.vals.length 20) (f := enc16) (l := e1.q.vals) tab_29 rfl tab_30 ⟨rfl, by decide⟩ rfl (bound_some rfl (by omega)) (by omega) ⟨rfl, rfl, rfl⟩) ?_
          refine d_op ?_
          refine x_run0 [(7, PV.ptr 3 0)] [0, 1, 2, 3, 4, 5, 6, 7, 8, 9, 10] rfl rfl rfl rfl (s_fa_ptr tab_32 rfl rfl tab_28 (by decide) rfl ⟨rfl, rfl, rfl⟩) ?_
          refine d_op ?_
          refine x_run [(50, PV.ptr 3 5), (42, pS 1 false encBo (e1.q.bits.take (min e1.q.bits.length 20)))] [0, 1, 2, 3, 4, 5, 6, 7, 8, 9, 10, 14] [] [(3, .obj [pI e1.q.fn, pI e1.q.at_, pI e1.q.count, pI e1.q.wAt, pI e1.q.sub, pS 1 false encBo e1.q.bits, pS 1 false enc16 e1.q.vals, p16 e1.q.and_, p16 e1.q.or_])] [(3, .obj [pI e1.q.fn, pI e1.q.at_, pI e1.q.count, pI e1.q.wAt, pI e1.q.sub, pS 1 false encBo (e1.q.bits.take (min e1.q.bits.length 20)), pS 1 false enc16 e1.q.vals, p16 e1.q.and_, p16 e1.q.or_])] [(3, .obj [pI e1.q.fn, pI e1.q.at_, pI e1.q.count, pI e1.q.wAt, pI e1.q.sub, pS 1 false encBo (e1.q.bits.take (min e1.q.bits.length 20)), pS 1 false enc16 e1.q.vals, p16 e1.q.and_, p16 e1.q.or_])] [(3, .obj [pI e1.q.fn, pI e1.q.at_, pI e1.q.count, pI e1.q.wAt, pI e1.q.sub, pS 1 false encBo (e1.q.bits.take (min e1.q.bits.length 20)), pS 1 false enc16 e1.q.vals, p16 e1.q.and_, p16 e1.q.or_]), (2, .obj [pI e1.kind, pI e1.n, pI e1.q.fn, pI e1.q.at_, pI e1.q.count, pI e1.q.wAt, pI e1.q.sub, pS 1 false encBo e1.q.bits, pS 1 false enc16 e1.q.vals, p16 e1.q.and_, p16 e1.q.or_]), (0, .obj [pI m, pI e, pI b]), (1, .obj [pI m, pI e, pI b])] rfl rfl rfl rfl rfl rfl (s_store_ptr tab_28 rfl rfl rfl rfl rfl (Nat.le_of_ble_eq_true rfl) ⟨rfl, rfl, rfl⟩) rfl trivial rfl rfl ?_
          refine d_op ?_
          refine x_run0 [(7, PV.ptr 3 0)] [0, 1, 2, 3, 4, 5, 6, 7, 8, 9, 10, 11, 12, 13, 14, 15] rfl rfl rfl rfl (s_fa_ptr tab_32 rfl rfl tab_29 (by decide) rfl ⟨rfl, rfl, rfl⟩) ?_
          refine d_op ?_
          refine x_run [(51, PV.ptr 3 6), (49, pS 1 false enc16 (e1.q.vals.take (min e1.q.vals.length 20)))] [0, 1, 2, 3, 4, 5, 6, 7, 8, 9, 10, 11, 12, 13, 14, 15, 16] [] [(3, .obj [pI e1.q.fn, pI e1.q.at_, pI e1.q.count, pI e1.q.wAt, pI e1.q.sub, pS 1 false encBo (e1.q.bits.take (min e1.q.bits.length 20)), pS 1 false enc16 e1.q.vals, p16 e1.q.and_, p16 e1.q.or_])] [(3, .obj [pI e1.q.fn, pI e1.q.at_, pI e1.q.count, pI e1.q.wAt, pI e1.q.sub, pS 1 false encBo (e1.q.bits.take (min e1.q.bits.length 20)), pS 1 false enc16 (e1.q.vals.take (min e1.q.vals.length 20)), p16 e1.q.and_, p16 e1.q.or_])] [(3, .obj [pI e1.q.fn, pI e1.q.at_, pI e1.q.count, pI e1.q.wAt, pI e1.q.sub, pS 1 false encBo (e1.q.bits.take (min e1.q.bits.length 20)), pS 1 false enc16 (e1.q.vals.take (min e1.q.vals.length 20)), p16 e1.q.and_, p16 e1.q.or_])] [(3, .obj [pI e1.q.fn, pI e1.q.at_, pI e1.q.count, pI e1.q.wAt, pI e1.q.sub, pS 1 false encBo (e1.q.bits.take (min e1.q.bits.length 20)), pS 1 false enc16 (e1.q.vals.take (min e1.q.vals.length 20)), p16 e1.q.and_, p16 e1.q.or_]), (2, .obj [pI e1.kind, pI e1.n, pI e1.q.fn, pI e1.q.at_, pI e1.q.count, pI e1.q.wAt, pI e1.q.sub, pS 1 false encBo e1.q.bits, pS 1 false enc16 e1.q.vals, p16 e1.q.and_, p16 e1.q.or_]), (0, .obj [pI m, pI e, pI b]), (1, .obj [pI m, pI e, pI b])] rfl rfl rfl rfl rfl rfl (s_store_ptr tab_29 rfl rfl rfl rfl rfl (Nat.le_of_ble_eq_true rfl) ⟨rfl, rfl, rfl⟩) rfl trivial rfl rfl ?_
          refine d_end ⟨by kernel_rfl, ?_⟩
          refine q_then ?_
          refine w_seq ?_
          refine W_drawn tabOk mixed hnt [[], [], [], [2], [0, 1, 2, 3], [], [], [], [7], [0, 1, 2, 3, 4, 5, 6, 7, 8], [0, 1, 2, 3, 4, 5, 6, 7, 8, 9], [0, 1, 2, 3, 4, 5, 6, 7, 8, 9, 10]] (by kernel_rfl) ?_
          refine d_op ?_
          refine x_run0 [(3, PV.ptr 0 0)] [] rfl rfl rfl rfl (s_move rfl ⟨rfl, rfl, rfl⟩) ?_
          refine d_op ?_
          refine x_run [(7, PV.ptr 3 0)] [] [(3, .obj [pI e1.q.fn, pI e1.q.at_, pI e1.q.count, pI e1.q.wAt, pI e1.q.sub, pS 1 false encBo (e1.q.bits.take (min e1.q.bits.length 20)), pS 1 false enc16 (e1.q.vals.take (min e1.q.vals.length 20)), p16 e1.q.and_, p16 e1.q.or_])] [] [(3, .obj [pI e1.q.fn, pI e1.q.at_, pI e1.q.count, pI e1.q.wAt, pI e1.q.sub, pS 1 false encBo (e1.q.bits.take (min e1.q.bits.length 20)), pS 1 false enc16 (e1.q.vals.take (min e1.q.vals.length 20)), p16 e1.q.and_, p16 e1.q.or_])] [] [(3, .obj [pI e1.q.fn, pI e1.q.at_, pI e1.q.count, pI e1.q.wAt, pI e1.q.sub, pS 1 false encBo (e1.q.bits.take (min e1.q.bits.length 20)), pS 1 false enc16 (e1.q.vals.take (min e1.q.vals.length 20)), p16 e1.q.and_, p16 e1.q.or_]), (2, .obj [pI e1.kind, pI e1.n, pI e1.q.fn, pI e1.q.at_, pI e1.q.count, pI e1.q.wAt, pI e1.q.sub, pS 1 false encBo e1.q.bits, pS 1 false enc16 e1.q.vals, p16 e1.q.and_, p16 e1.q.or_]), (0, .obj [pI m, pI e, pI b]), (1, .obj [pI m, pI e, pI b])] rfl rfl rfl rfl rfl rfl (s_load_ptr tab_32 rfl rfl rfl (Nat.le_of_ble_eq_true rfl) ⟨rfl, rfl, rfl⟩) rfl ⟨rfl, trivial⟩ rfl rfl ?_
          refine d_op ?_
          refine x_run0 [(6, PV.ptr 2 0)] [] rfl rfl rfl rfl (s_fa_ptr tab_35 rfl rfl tab_3 (by decide) rfl ⟨rfl, rfl, rfl⟩) ?_
          refine d_op ?_
          refine x_run [(54, PV.ptr 2 1)] [2] [(2, .obj [pI e1.kind, pI e1.n, pI e1.q.fn, pI e1.q.at_, pI e1.q.count, pI e1.q.wAt, pI e1.q.sub, pS 1 false encBo e1.q.bits, pS 1 false enc16 e1.q.vals, p16 e1.q.and_, p16 e1.q.or_])] [] [(2, .obj [pI e1.kind, pI e1.n, pI e1.q.fn, pI e1.q.at_, pI e1.q.count, pI e1.q.wAt, pI e1.q.sub, pS 1 false encBo e1.q.bits, pS 1 false enc16 e1.q.vals, p16 e1.q.and_, p16 e1.q.or_])] [] [(3, .obj [pI e1.q.fn, pI e1.q.at_, pI e1.q.count, pI e1.q.wAt, pI e1.q.sub, pS 1 false encBo (e1.q.bits.take (min e1.q.bits.length 20)), pS 1 false enc16 (e1.q.vals.take (min e1.q.vals.length 20)), p16 e1.q.and_, p16 e1.q.or_]), (2, .obj [pI e1.kind, pI e1.n, pI e1.q.fn, pI e1.q.at_, pI e1.q.count, pI e1.q.wAt, pI e1.q.sub, pS 1 false encBo e1.q.bits, pS 1 false enc16 e1.q.vals, p16 e1.q.and_, p16 e1.q.or_]), (0, .obj [pI m, pI e, pI b]), (1, .obj [pI m, pI e, pI b])] rfl rfl rfl rfl rfl rfl (s_load_ptr1 tab_3 rfl rfl rfl rfl rfl ⟨rfl, rfl, rfl⟩) rfl ⟨rfl, trivial⟩ rfl rfl ?_
          refine d_op ?_
          obtain ⟨D1, hD1⟩ : ∃ z : TReply × Bool, z = cntDo m e b (⟨e1.q.fn, e1.q.at_, e1.q.count, e1.q.wAt, e1.q.sub, e1.q.bits.take (min e1.q.bits.length 20), e1.q.vals.take (min e1.q.vals.length 20), e1.q.and_, e1.q.or_⟩ : TRequest) e1.n := ⟨_, rfl⟩
          refine x_run [(52, PV.ptr 0 0), (53, PV.f (.agg [encI e1.q.fn, encI e1.q.at_, encI e1.q.count, encI e1.q.wAt, encI e1.q.sub, FV.sl 1 false (List.map encBo (e1.q.bits.take (min e1.q.bits.length 20))), FV.sl 1 false (List.map enc16 (e1.q.vals.take (min e1.q.vals.length 20))), enc16 e1.q.and_, enc16 e1.q.or_])), (55, pI e1.n)] [0, 1, 2, 3] [] [(0, .obj [pI m, pI e, pI b])] [(0, .obj [pI (cC m D1.2), pI (cC e D1.2), pI (cC b D1.2)])] [(0, .obj [pI (cC m D1.2), pI (cC e D1.2), pI (cC b D1.2)])] [(0, .obj [pI (cC m D1.2), pI (cC e D1.2), pI (cC b D1.2)]), (3, .obj [pI e1.q.fn, pI e1.q.at_, pI e1.q.count, pI e1.q.wAt, pI e1.q.sub, pS 1 false encBo (e1.q.bits.take (min e1.q.bits.length 20)), pS 1 false enc16 (e1.q.vals.take (min e1.q.vals.length 20)), p16 e1.q.and_, p16 e1.q.or_]), (2, .obj [pI e1.kind, pI e1.n, pI e1.q.fn, pI e1.q.at_, pI e1.q.count, pI e1.q.wAt, pI e1.q.sub, pS 1 false encBo e1.q.bits, pS 1 false enc16 e1.q.vals, p16 e1.q.and_, p16 e1.q.or_]), (1, .obj [pI m, pI e, pI b])] rfl rfl rfl rfl rfl rfl (s_callX (r2 := PV.f (eReply D1.1)) (nx1 := 4) (H2 := [(0, .obj [pI m, pI e, pI b])]) (H3 := [(0, .obj [pI (cC m D1.2), pI (cC e D1.2), pI (cC b D1.2)])]) [0] [.obj [pI m, pI e, pI b]] rfl rfl rfl (handed_of (by decide) ⟨rfl, trivial⟩) rfl rfl rfl rfl rfl rfl (w_count_Count_Do m e b (⟨e1.q.fn, e1.q.at_, e1.q.count, e1.q.wAt, e1.q.sub, e1.q.bits.take (min e1.q.bits.length 20), e1.q.vals.take (min e1.q.vals.length 20), e1.q.and_, e1.q.or_⟩ : TRequest) e1.n D1 hD1 (by simp; omega) (by simp; omega)) rfl (dist_of rfl) rfl rfl rfl rfl ⟨rfl, rfl, rfl⟩) rfl trivial rfl rfl ?_
          refine d_op ?_
          refine x_run0 [(4, PV.ptr 1 0)] [] rfl rfl rfl rfl (s_move rfl ⟨rfl, rfl, rfl⟩) ?_
          refine d_op ?_
          refine x_run [(7, PV.ptr 3 0)] [] [(3, .obj [pI e1.q.fn, pI e1.q.at_, pI e1.q.count, pI e1.q.wAt, pI e1.q.sub, pS 1 false encBo (e1.q.bits.take (min e1.q.bits.length 20)), pS 1 false enc16 (e1.q.vals.take (min e1.q.vals.length 20)), p16 e1.q.and_, p16 e1.q.or_])] [] [(3, .obj [pI e1.q.fn, pI e1.q.at_, pI e1.q.count, pI e1.q.wAt, pI e1.q.sub, pS 1 false encBo (e1.q.bits.take (min e1.q.bits.length 20)), pS 1 false enc16 (e1.q.vals.take (min e1.q.vals.length 20)), p16 e1.q.and_, p16 e1.q.or_])] [] [(0, .obj [pI (cC m D1.2), pI (cC e D1.2), pI (cC b D1.2)]), (3, .obj [pI e1.q.fn, pI e1.q.at_, pI e1.q.count, pI e1.q.wAt, pI e1.q.sub, pS 1 false encBo (e1.q.bits.take (min e1.q.bits.length 20)), pS 1 false enc16 (e1.q.vals.take (min e1.q.vals.length 20)), p16 e1.q.and_, p16 e1.q.or_]), (2, .obj [pI e1.kind, pI e1.n, pI e1.q.fn, pI e1.q.at_, pI e1.q.count, pI e1.q.wAt, pI e1.q.sub, pS 1 false encBo e1.q.bits, pS 1 false enc16 e1.q.vals, p16 e1.q.and_, p16 e1.q.or_]), (1, .obj [pI m, pI e, pI b])] rfl rfl rfl rfl rfl rfl (s_load_ptr tab_32 rfl rfl rfl (Nat.le_of_ble_eq_true rfl) ⟨rfl, rfl, rfl⟩) rfl ⟨rfl, trivial⟩ rfl rfl ?_
          refine d_op ?_
          refine x_run0 [(6, PV.ptr 2 0)] [] rfl rfl rfl rfl (s_fa_ptr tab_35 rfl rfl tab_3 (by decide) rfl ⟨rfl, rfl, rfl⟩) ?_
          refine d_op ?_
          refine x_run [(59, PV.ptr 2 1)] [7] [(2, .obj [pI e1.kind, pI e1.n, pI e1.q.fn, pI e1.q.at_, pI e1.q.count, pI e1.q.wAt, pI e1.q.sub, pS 1 false encBo e1.q.bits, pS 1 false enc16 e1.q.vals, p16 e1.q.and_, p16 e1.q.or_])] [] [(2, .obj [pI e1.kind, pI e1.n, pI e1.q.fn, pI e1.q.at_, pI e1.q.count, pI e1.q.wAt, pI e1.q.sub, pS 1 false encBo e1.q.bits, pS 1 false enc16 e1.q.vals, p16 e1.q.and_, p16 e1.q.or_])] [] [(0, .obj [pI (cC m D1.2), pI (cC e D1.2), pI (cC b D1.2)]), (3, .obj [pI e1.q.fn, pI e1.q.at_, pI e1.q.count, pI e1.q.wAt, pI e1.q.sub, pS 1 false encBo (e1.q.bits.take (min e1.q.bits.length 20)), pS 1 false enc16 (e1.q.vals.take (min e1.q.vals.length 20)), p16 e1.q.and_, p16 e1.q.or_]), (2, .obj [pI e1.kind, pI e1.n, pI e1.q.fn, pI e1.q.at_, pI e1.q.count, pI e1.q.wAt, pI e1.q.sub, pS 1 false encBo e1.q.bits, pS 1 false enc16 e1.q.vals, p16 e1.q.and_, p16 e1.q.or_]), (1, .obj [pI m, pI e, pI b])] rfl rfl rfl rfl rfl rfl (s_load_ptr1 tab_3 rfl rfl rfl rfl rfl ⟨rfl, rfl, rfl⟩) rfl ⟨rfl, trivial⟩ rfl rfl ?_
          refine d_op ?_
          obtain ⟨D2, hD2⟩ : ∃ z : TReply × Bool, z = cntDo m e b (⟨e1.q.fn, e1.q.at_, e1.q.count, e1.q.wAt, e1.q.sub, e1.q.bits.take (min e1.q.bits.length 20), e1.q.vals.take (min e1.q.vals.length 20), e1.q.and_, e1.q.or_⟩ : TRequest) e1.n := ⟨_, rfl⟩
          refine x_run [(57, PV.ptr 1 0), (58, PV.f (.agg [encI e1.q.fn, encI e1.q.at_, encI e1.q.count, encI e1.q.wAt, encI e1.q.sub, FV.sl 1 false (List.map encBo (e1.q.bits.take (min e1.q.bits.length 20))), FV.sl 1 false (List.map enc16 (e1.q.vals.take (min e1.q.vals.length 20))), enc16 e1.q.and_, enc16 e1.q.or_])), (60, pI e1.n)] [0, 1, 2, 3, 4, 5, 6, 7, 8] [] [(1, .obj [pI m, pI e, pI b])] [(1, .obj [pI (cC m D2.2), pI (cC e D2.2), pI (cC b D2.2)])] [(1, .obj [pI (cC m D2.2), pI (cC e D2.2), pI (cC b D2.2)])] [(1, .obj [pI (cC m D2.2), pI (cC e D2.2), pI (cC b D2.2)]), (0, .obj [pI (cC m D1.2), pI (cC e D1.2), pI (cC b D1.2)]), (3, .obj [pI e1.q.fn, pI e1.q.at_, pI e1.q.count, pI e1.q.wAt, pI e1.q.sub, pS 1 false encBo (e1.q.bits.take (min e1.q.bits.length 20)), pS 1 false enc16 (e1.q.vals.take (min e1.q.vals.length 20)), p16 e1.q.and_, p16 e1.q.or_]), (2, .obj [pI e1.kind, pI e1.n, pI e1.q.fn, pI e1.q.at_, pI e1.q.count, pI e1.q.wAt, pI e1.q.sub, pS 1 false encBo e1.q.bits, pS 1 false enc16 e1.q.vals, p16 e1.q.and_, p16 e1.q.or_])] rfl rfl rfl rfl rfl rfl (s_callX (r2 := PV.f (eReply D2.1)) (nx1 := 4) (H2 := [(1, .obj [pI m, pI e, pI b])]) (H3 := [(1, .obj [pI (cC m D2.2), pI (cC e D2.2), pI (cC b D2.2)])]) [1] [.obj [pI m, pI e, pI b]] rfl rfl rfl (handed_of (by decide) ⟨rfl, trivial⟩) rfl rfl rfl rfl rfl rfl (w_burgageref17_Count_Do m e b (⟨e1.q.fn, e1.q.at_, e1.q.count, e1.q.wAt, e1.q.sub, e1.q.bits.take (min e1.q.bits.length 20), e1.q.vals.take (min e1.q.vals.length 20), e1.q.and_, e1.q.or_⟩ : TRequest) e1.n D2 hD2 (by simp; omega) (by simp; omega)) rfl (dist_of rfl) rfl rfl rfl rfl ⟨rfl, rfl, rfl⟩) rfl trivial rfl rfl ?_
          have hdl := cntDo_len hD1
          simp only [List.length_take] at hdl
          refine d_op ?_
          refine x_run0 [(56, PV.f (eReply D1.1)), (61, PV.f (eReply D2.1))] [0, 1, 2, 3, 4, 5, 6, 7, 8, 9] rfl rfl rfl rfl (s_callF rfl rfl rfl (w_burgageref3_Alike D1.1 D2.1 (by omega)) rfl ⟨rfl, rfl, rfl⟩) ?_
          refine d_op ?_
          refine x_run0 [(62, pB (decide (D1.1 = D2.1)))] [0, 1, 2, 3, 4, 5, 6, 7, 8, 9, 10] rfl rfl rfl rfl (s_not rfl ⟨rfl, rfl, rfl⟩) ?_
          refine d_end ⟨by kernel_rfl, ?_⟩
          refine q_then ?_
          refine w_if rfl (fun c7 => ?_) (fun c7 => ?_)
          ·
           have c7_ := c7
           exact absurd c7 (by have hDD : D1 = D2 := hD1.trans hD2.symm; rw [hDD]; simp)
          ·
           have c7_ := c7
           try simp only [sB] at c7
           refine w_leC (n := 1) (j := 0) (y := pI (cC m D1.2)) rfl rfl (le_of_eq (congrArg (fun z : Int => pI z) (show (cC m D2.2) = (cC m D1.2) by first | (simp only [heldN]; omega) | rw [hD2, ← hD1] | omega))) ?_
           refine w_leC (n := 1) (j := 1) (y := pI (cC e D1.2)) rfl rfl (le_of_eq (congrArg (fun z : Int => pI z) (show (cC e D2.2) = (cC e D1.2) by first | (simp only [heldN]; omega) | rw [hD2, ← hD1] | omega))) ?_
           refine w_leC (n := 1) (j := 2) (y := pI (cC b D1.2)) rfl rfl (le_of_eq (congrArg (fun z : Int => pI z) (show (cC b D2.2) = (cC b D1.2) by first | (simp only [heldN]; omega) | rw [hD2, ← hD1] | omega))) ?_
           refine w_skip ?_
           refine q_block ?_
           refine q_then ?_
           refine ⟨(cC m D1.2), (cC e D1.2), (cC b D1.2), ?_, ⟨[(0, 0), (1, 1)], by rw [hk]; decide, ⟨⟨_, rfl, rfl, rfl⟩, ⟨_, rfl, rfl, rfl⟩, ⟨_, rfl, rfl, rfl⟩, ⟨_, rfl, rfl, rfl⟩, ⟨_, rfl, rfl, rfl⟩, ⟨_, rfl, rfl, rfl⟩, trivial⟩, ⟨⟨_, _, rfl, rfl, rfl, rfl⟩, ⟨_, _, rfl, rfl, rfl, rfl⟩, trivial⟩, by rw [hk]; decide⟩⟩
           first | omega | (have h7 := cC_or m D1.2; have h8 := cC_or e D1.2; have h9 := cC_or b D1.2; omega)
    ·
     intro m e b hbj
     refine w_seq ?_
     refine w_R ?_
     refine qa hnt rfl rfl ?_
     refine r_end ?_
     refine q_then ?_
     refine w_block ?_
     refine loop1 (fun (s : Nat) => s ≤ 16) (fun (s : Nat) => [(0, pS 11 cl_l eAsk l), (3, PV.ptr 0 0), (4, PV.ptr 1 0), (5, pN i), (8, pN s), (21, pN i), (22, pB (decide (((i : Nat) : Int) < 100)))]) 2 (fun (s : Nat) => [(0, .obj [pI m, pI e, pI b]), (1, .obj [pI m, pI e, pI b])]) (fun (s : Nat) => 16 - s) (9) ?_ ⟨[(0, 0), (1, 1)], by rw [hk]; decide, ⟨⟨_, rfl, rfl, rfl⟩, ⟨_, rfl, rfl, rfl⟩, ⟨_, rfl, rfl, rfl⟩, ⟨_, rfl, rfl, rfl⟩, ⟨_, rfl, rfl, rfl⟩, ⟨_, rfl, rfl, rfl⟩, ⟨_, rfl, rfl, rfl⟩, trivial⟩, ⟨⟨_, _, rfl, rfl, rfl, rfl⟩, ⟨_, _, rfl, rfl, rfl, rfl⟩, trivial⟩, by rw [hk]; decide⟩ ?_
     · omega
     ·
      intro s hS
      refine w_seq ?_
      refine w_seq ?_
      refine w_R ?_
      refine qm hnt rfl rfl ?_
      refine qo hnt rfl (s_lss rfl rfl ?_)
      refine r_end ?_
      refine q_then ?_
      refine w_if rfl (fun c8 => ?_) (fun c8 => ?_)
      ·
       have c8_ := c8
       try simp only [sB] at c8
       refine w_skip ?_
       refine q_then ?_
       refine w_seq ?_
       refine w_block ?_
       refine w_seq ?_
       refine w_R ?_
       refine qm hnt rfl rfl ?_
       refine qm hnt rfl rfl ?_
       refine qo hnt rfl (s_callX (r2 := PV.tup [p16 (cntGet m e b ((s : Nat) : Int)), pB (cntOk ((s : Nat) : Int))]) (nx1 := 2) (H2 := [(0, .obj [pI m, pI e, pI b]), (1, .obj [pI m, pI e, pI b])]) (H3 := [(0, .obj [pI m, pI e, pI b]), (1, .obj [pI m, pI e, pI b])]) [0] [.obj [pI m, pI e, pI b]] rfl rfl rfl (handed_of (by decide) ⟨rfl, trivial⟩) rfl rfl rfl rfl rfl rfl (w_count_Count_Get m e b ((s : Nat) : Int)) rfl (dist_of rfl) rfl rfl rfl rfl ?_)
       refine qm hnt rfl rfl ?_
       refine qo hnt rfl (s_extract rfl rfl ?_)
       refine qo hnt rfl (s_extract rfl rfl ?_)
       refine qa hnt rfl rfl ?_
       refine qa hnt rfl rfl ?_
       refine r_set [(0, pS 11 cl_l eAsk l), (3, PV.ptr 0 0), (4, PV.ptr 1 0), (5, pN i), (8, pN s), (9, p16 (cntGet m e b ((s : Nat) : Int))), (10, pB (cntOk ((s : Nat) : Int))), (21, pN i), (22, pB (decide (((i : Nat) : Int) < 100)))] [(0, .obj [pI m, pI e, pI b]), (1, .obj [pI m, pI e, pI b])] 2 ⟨rfl, rfl, rfl, rfl, rfl, rfl, rfl, rfl, rfl, trivial⟩ rfl rfl ?_
       refine r_end ?_
       refine q_then ?_
       refine w_seq ?_
       refine w_R ?_
       refine qm hnt rfl rfl ?_
       refine qm hnt rfl rfl ?_
       refine qo hnt rfl (s_callX (r2 := PV.tup [p16 (cntGet m e b ((s : Nat) : Int)), pB (cntOk ((s : Nat) : Int))]) (nx1 := 2) (H2 := [(0, .obj [pI m, pI e, pI b]), (1, .obj [pI m, pI e, pI b])]) (H3 := [(1, .obj [pI m, pI e, pI b]), (0, .obj [pI m, pI e, pI b])]) [1] [.obj [pI m, pI e, pI b]] rfl rfl rfl (handed_of (by decide) ⟨rfl, trivial⟩) rfl rfl rfl rfl rfl rfl (w_burgageref17_Count_Get m e b ((s : Nat) : Int)) rfl (dist_of rfl) rfl rfl rfl rfl ?_)
       refine qm hnt rfl rfl ?_
       refine qo hnt rfl (s_extract rfl rfl ?_)
       refine qo hnt rfl (s_extract rfl rfl ?_)
       refine qa hnt rfl rfl ?_
       refine qa hnt rfl rfl ?_
       refine r_set [(0, pS 11 cl_l eAsk l), (3, PV.ptr 0 0), (4, PV.ptr 1 0), (5, pN i), (8, pN s), (9, p16 (cntGet m e b ((s : Nat) : Int))), (10, pB (cntOk ((s : Nat) : Int))), (11, p16 (cntGet m e b ((s : Nat) : Int))), (12, pB (cntOk ((s : Nat) : Int))), (21, pN i), (22, pB (decide (((i : Nat) : Int) < 100)))] [(1, .obj [pI m, pI e, pI b]), (0, .obj [pI m, pI e, pI b])] 2 ⟨rfl, rfl, rfl, rfl, rfl, rfl, rfl, rfl, rfl, rfl, rfl, trivial⟩ rfl rfl ?_
       refine r_end ?_
       refine q_then ?_
       refine w_seq ?_
       refine w_R ?_
       refine qm hnt rfl rfl ?_
       refine qm hnt rfl rfl ?_
       refine qo hnt rfl (s_neq16 (a := cntGet m e b ((s : Nat) : Int)) (b := cntGet m e b ((s : Nat) : Int)) rfl rfl ?_)
       refine qm hnt rfl rfl ?_
       refine r_if tabOk hnt rfl rfl rfl (fun g2 => ?_) (fun g2 => ?_)
       ·
        have g2' := g2
        try simp only [sB] at g2'
        refine qm hnt rfl rfl ?_
        refine ry hnt rfl rfl rfl g2 ?_
        refine qm hnt rfl rfl ?_
        refine ry hnt rfl rfl rfl g2 ?_
        refine qo hnt rfl (s_nebool tab_4 rfl rfl rfl ?_)
        refine qo hnt rfl (s_pick_f rfl g2 rfl ?_)
        refine r_end ?_
        refine q_then ?_
        refine w_if rfl (fun c9 => ?_) (fun c9 => ?_)
        ·
         have c9_ := c9
         exact absurd c9 (by simp)
        ·
         have c9_ := c9
         try simp only [sB] at c9
         refine w_skip ?_
         refine q_block ?_
         refine q_then ?_
         refine w_R ?_
         refine qm hnt rfl rfl ?_
         refine qo hnt rfl (s_addN (a := s) (b := 1) rfl rfl (by omega) (by omega) (by omega) ?_)
         refine qa hnt rfl rfl ?_
         refine r_end ?_
         refine q_then ?_
         refine ⟨(s + 1), ?_, ?_, ⟨[(0, 0), (1, 1)], by rw [hk]; decide, ⟨⟨_, rfl, rfl, rfl⟩, ⟨_, rfl, rfl, rfl⟩, ⟨_, rfl, rfl, rfl⟩, ⟨_, rfl, rfl, rfl⟩, ⟨_, rfl, rfl, rfl⟩, ⟨_, rfl, rfl, rfl⟩, ⟨_, rfl, rfl, rfl⟩, trivial⟩, ⟨⟨_, _, rfl, rfl, rfl, rfl⟩, ⟨_, _, rfl, rfl, rfl, rfl⟩, trivial⟩, by rw [hk]; decide⟩⟩
         ·
          omega
         · omega
       ·
        exact absurd g2 (by simp)
      ·
       have c8_ := c8
       try simp only [sB] at c8
       refine w_exit ?_
       refine q_then_exit ?_
       refine q_then_exit ?_
       refine q_block_exit ?_
       refine q_block ?_
       refine q_then ?_
       refine w_R ?_
       refine qm hnt rfl rfl ?_
       refine qo hnt rfl (s_addN (a := i) (b := 1) rfl rfl (by omega) (by omega) (by omega) ?_)
       refine qa hnt rfl rfl ?_
       refine r_end ?_
       refine q_then ?_
       refine ⟨(m), (e), (b), (i + 1), ?_, ?_, ⟨[(0, 0), (1, 1)], by rw [hk]; decide, ⟨⟨_, rfl, rfl, rfl⟩, ⟨_, rfl, rfl, rfl⟩, ⟨_, rfl, rfl, rfl⟩, ⟨_, rfl, rfl, rfl⟩, trivial⟩, ⟨⟨_, _, rfl, rfl, rfl, rfl⟩, ⟨_, _, rfl, rfl, rfl, rfl⟩, trivial⟩, by rw [hk]; decide⟩⟩
       ·
        exact ⟨by omega, by omega, hbj⟩
       · omega
   ·
    have c1_ := c1
    try simp only [sB] at c1
    refine w_exit ?_
    refine q_then_exit ?_
    refine q_then_exit ?_
    refine q_block_exit ?_
    refine q_then ?_
    refine w_seq ?_
    refine w_R ?_
    refine qm hnt rfl rfl ?_
    refine qo hnt rfl (s_ptrnot tab_38 rfl rfl trivial ?_)
    refine qa hnt rfl rfl ?_
    refine r_end ?_
    refine q_then ?_
    refine w_ret ?_
    exact fin_plain (ret_tmp rfl ret_nil) rfl rfl ⟨rfl, rfl, rfl⟩
  ·
   have g1' := g1
   try simp only [sB] at g1'
   refine rn hnt rfl rfl rfl g1 ?_
   refine qo hnt rfl (s_pick_f rfl g1 rfl ?_)
   refine r_end ?_
   refine q_then ?_
   refine w_if rfl (fun e => absurd e (by decide)) (fun _ => ?_)
   refine w_exit ?_
   refine q_then_exit ?_
   refine q_then_exit ?_
   refine q_block_exit ?_
   refine q_then ?_
   refine w_seq ?_
   refine w_R ?_
   refine qm hnt rfl rfl ?_
   refine qo hnt rfl (s_ptrnot tab_38 rfl rfl trivial ?_)
   refine qa hnt rfl rfl ?_
   refine r_end ?_
   refine q_then ?_
   refine w_ret ?_
   exact fin_plain (ret_tmp rfl ret_nil) rfl rfl ⟨rfl, rfl, rfl⟩

theorem w_burgagelaw19_CountPlays (l : List TAsk) (cl_l : Bool) (hl : l.length * 112 ≤ 140737488351232) (hs : ∀ a ∈ l, (-9223372036854775808 ≤ a.n ∧ a.n ≤ 9223372036854775807) ∧ a.q.bits.length ≤ 140737488351232 ∧ a.q.vals.length ≤ 140737488351232) :
    T Try.prog 4 [pS 11 cl_l eAsk l] 0 [] (Ret (pB true) 0 []) := by
 refine t_fun tabOk (n := 48) (rs := [.tmp 2]) Try.func4 rfl rfl rfl rfl (Nat.le_of_ble_eq_true rfl) ?_
 intro c hnt hk
 refine w_seq ?_
 refine w_R ?_
 refine qa hnt rfl rfl ?_
 refine r_end ?_
 refine q_then ?_
 refine w_seq ?_
 refine w_R ?_
 refine qa hnt rfl rfl ?_
 refine r_end ?_
 refine q_then ?_
 refine w_seq ?_
 refine w_seq ?_
 refine w_R ?_
 refine qm hnt rfl rfl ?_
 refine qo hnt rfl (s_lenM (l := l) tab_27 rfl (hM_sl (f := eAsk) rfl) ?_)
 refine qm hnt rfl rfl ?_
 refine r_end ?_
 refine q_then ?_
 refine w_block ?_
 refine w_adopt (s := 3) (sz := 11) rfl ?_
 refine loop2 (fun (sm : List TAsk) (i : Nat) => i ≤ l.length ∧ sm.length = i ∧ ∀ a ∈ sm, (-9223372036854775808 ≤ a.n ∧ a.n ≤ 9223372036854775807) ∧ a.q.bits.length ≤ 140737488351232 ∧ a.q.vals.length ≤ 140737488351232) (fun (sm : List TAsk) (i : Nat) => [(0, pS 11 cl_l eAsk l), (3, PV.ref 0 0 none), (7, pN l.length), (8, pN i)]) 1 (fun (sm : List TAsk) (i : Nat) => [(0, oB true 11 eAsk sm)]) (fun (sm : List TAsk) (i : Nat) => l.length - i) (([] : List TAsk)) (0) ?_ ⟨[(0, 0)], by rw [hk]; decide, ⟨⟨_, rfl, rfl, rfl⟩, ⟨_, rfl, rfl, rfl⟩, ⟨_, rfl, rfl, rfl⟩, ⟨_, rfl, rfl, rfl⟩, trivial⟩, ⟨⟨_, _, rfl, rfl, rfl, rfl⟩, trivial⟩, by rw [hk]; decide⟩ ?_
 · simp
 ·
  intro sm i hI
  obtain ⟨hi, hsl, hsm⟩ := hI
  refine w_seq ?_
  refine w_R ?_
  refine qo hnt rfl (s_lss rfl rfl ?_)
  refine r_end ?_
  refine q_then ?_
  refine w_seq ?_
  refine w_if rfl (fun c1 => ?_) (fun c1 => ?_)
  ·
   have c1_ := c1
   try simp only [sB] at c1
   refine w_skip ?_
   refine q_then ?_
   refine w_seq ?_
   refine w_block ?_
   refine w_seq ?_
   refine w_R ?_
   refine qm hnt rfl rfl ?_
   refine qa hnt rfl rfl ?_
   refine r_end ?_
   refine q_then ?_
   refine w_seq ?_
   refine w_R ?_
   refine qm hnt rfl rfl ?_
   refine qm hnt rfl rfl ?_
   obtain ⟨e1, he1⟩ := get_of_lt l (i := i) (by omega)
   refine qo hnt rfl (s_iaM (q := i) (b := e1) (f := eAsk) tab_27 rfl tab_35 rfl rfl (by omega) rfl he1 ?_)
   refine qo hnt rfl (s_load_ro tab_35 rfl rfl rfl ?_)
   refine qo hnt rfl (s_alloc tab_35 ?_)
   refine qo hnt rfl (s_store_ptr tab_35 rfl rfl rfl rfl rfl (Nat.le_of_ble_eq_true rfl) ?_)
   refine r_set [(0, pS 11 cl_l eAsk l), (3, PV.ref 0 0 none), (5, PV.ptr 1 0), (7, pN l.length), (8, pN i)] [(1, .obj [pI e1.kind, pI e1.n, pI e1.q.fn, pI e1.q.at_, pI e1.q.count, pI e1.q.wAt, pI e1.q.sub, pS 1 false encBo e1.q.bits, pS 1 false enc16 e1.q.vals, p16 e1.q.and_, p16 e1.q.or_]), (0, oB true 11 eAsk sm)] 2 ⟨rfl, rfl, rfl, rfl, rfl, trivial⟩ rfl rfl ?_
   refine r_end ?_
   refine q_then ?_
   refine w_seq ?_
   refine w_R ?_
   refine qo hnt rfl (s_fa_ptr tab_35 rfl rfl tab_3 (by decide) rfl ?_)
   refine qo hnt rfl (s_load_ptr1 tab_3 rfl rfl rfl rfl rfl ?_)
   refine qo hnt rfl (s_maskI 3 (by decide) rfl rfl (by decide) ?_)
   refine qo hnt rfl (s_fa_ptr tab_35 rfl rfl tab_3 (by decide) rfl ?_)
   refine qo hnt rfl (s_load_ptr1 tab_3 rfl rfl rfl rfl rfl ?_)
   refine qo hnt rfl (s_maskI 8 (by decide) rfl rfl (by decide) ?_)
   refine qo hnt rfl (s_fa_ptr tab_35 rfl rfl tab_3 (by decide) rfl ?_)
   refine qo hnt rfl (s_load_ptr1 tab_3 rfl rfl rfl rfl rfl ?_)
   refine qo hnt rfl (s_maskI 3 (by decide) rfl rfl (by decide) ?_)
   refine qo hnt rfl (s_addN (a := 9) (b := (e1.n % 2 ^ 3).toNat) rfl rfl (by omega) (by omega) (by omega) ?_)
   refine qo hnt rfl (s_fa_ptr tab_35 rfl rfl tab_3 (by decide) rfl ?_)
   refine qo hnt rfl (s_load_ptr1 tab_3 rfl rfl rfl rfl rfl ?_)
   refine qo hnt rfl (s_maskI 1 (by decide) rfl rfl (by decide) ?_)
   refine qo hnt rfl (s_cv16N (a := (e1.n % 2 ^ 1).toNat) tab_3 tab_30 rfl rfl rfl (by omega) ?_)
   refine qo hnt rfl (s_mkM (f := enc16) [UInt16.ofNat ((e1.n % 2 ^ 1).toNat)] tab_29 rfl tab_30 ⟨rfl, by decide⟩ (by decide) rfl rfl rfl rfl ?_)
   refine qo hnt rfl (s_build tab_32 rfl rfl (b_cons rfl tab_3 rfl rfl rfl (Nat.le_of_ble_eq_true rfl) (b_cons rfl tab_3 rfl rfl rfl (Nat.le_of_ble_eq_true rfl) (b_cons rfl tab_29 rfl rfl rfl (Nat.le_of_ble_eq_true rfl) (b_nil ?_)))))
   refine qo hnt rfl (s_fa_ptr tab_35 rfl rfl tab_3 (by decide) rfl ?_)
   refine qo hnt rfl (s_store_ptr tab_3 rfl rfl rfl rfl rfl (Nat.le_of_ble_eq_true rfl) ?_)
   refine qo hnt rfl (s_fa_ptr tab_35 rfl rfl tab_3 (by decide) rfl ?_)
   refine qo hnt rfl (s_store_ptr tab_3 rfl rfl rfl rfl rfl (Nat.le_of_ble_eq_true rfl) ?_)
   refine qo hnt rfl (s_fa_ptr tab_35 rfl rfl tab_32 (by decide) rfl ?_)
   refine qo hnt rfl (s_store_ptr tab_32 rfl rfl rfl rfl rfl (Nat.le_of_ble_eq_true rfl) ?_)
   refine r_set [(0, pS 11 cl_l eAsk l), (3, PV.ref 0 0 none), (5, PV.ptr 1 0), (7, pN l.length), (8, pN i)] [(1, .obj [pN ((e1.kind % 2 ^ 3).toNat), pN ((e1.n % 2 ^ 8).toNat), pI 8, pI 0, pI 0, pI 0, pN (9 + ((e1.n % 2 ^ 3).toNat)), pNil, PV.ref 2 0 none, p16 0, p16 0]), (2, oB true 1 enc16 [UInt16.ofNat ((e1.n % 2 ^ 1).toNat)]), (0, oB true 11 eAsk sm)] 3 ⟨rfl, rfl, rfl, rfl, rfl, trivial⟩ rfl rfl ?_
   refine r_end ?_
   refine q_then ?_
   refine w_R ?_
   refine qm hnt rfl rfl ?_
   refine qo hnt rfl (s_load_ptr tab_35 rfl rfl rfl (Nat.le_of_ble_eq_true rfl) ?_)
   refine r_frz (s := 35) rfl rfl ?_
   refine r_le (s := 35) (y := PV.f (eAsk (⟨(((e1.kind % 2 ^ 3).toNat : Nat) : Int), (((e1.n % 2 ^ 8).toNat : Nat) : Int), (⟨8, 0, 0, 0, ((9 + ((e1.n % 2 ^ 3).toNat) : Nat) : Int), [], [UInt16.ofNat ((e1.n % 2 ^ 1).toNat)], 0, 0⟩ : TRequest)⟩ : TAsk))) rfl (le_F (FLe.agg ⟨FLe.refl _, FLe.refl _, FLe.refl _, FLe.refl _, FLe.refl _, FLe.refl _, FLe.refl _, FLe.nil 1 false, FLe.refl _, FLe.refl _, FLe.refl _, trivial⟩)) ?_
   refine qo hnt rfl (s_mkM (f := eAsk) [(⟨(((e1.kind % 2 ^ 3).toNat : Nat) : Int), (((e1.n % 2 ^ 8).toNat : Nat) : Int), (⟨8, 0, 0, 0, ((9 + ((e1.n % 2 ^ 3).toNat) : Nat) : Int), [], [UInt16.ofNat ((e1.n % 2 ^ 1).toNat)], 0, 0⟩ : TRequest)⟩ : TAsk)] tab_27 rfl tab_35 ⟨rfl, by decide⟩ (by decide) rfl rfl rfl rfl ?_)
   refine qo hnt rfl (s_appR0 (f := eAsk) (l := sm) (xs := [(⟨(((e1.kind % 2 ^ 3).toNat : Nat) : Int), (((e1.n % 2 ^ 8).toNat : Nat) : Int), (⟨8, 0, 0, 0, ((9 + ((e1.n % 2 ^ 3).toNat) : Nat) : Int), [], [UInt16.ofNat ((e1.n % 2 ^ 1).toNat)], 0, 0⟩ : TRequest)⟩ : TAsk)]) tab_27 rfl tab_35 ⟨rfl, by decide, by decide⟩ (srcM tab_27 rfl (hM_ref0 (f := eAsk) rfl rfl)) rfl rfl (by first | omega | (simp; omega)) ?_)
   refine qa hnt rfl rfl ?_
   refine r_set [(0, pS 11 cl_l eAsk l), (3, PV.ref 4 0 none), (7, pN l.length), (8, pN i)] [(4, oB true 11 eAsk (sm ++ ([(⟨(((e1.kind % 2 ^ 3).toNat : Nat) : Int), (((e1.n % 2 ^ 8).toNat : Nat) : Int), (⟨8, 0, 0, 0, ((9 + ((e1.n % 2 ^ 3).toNat) : Nat) : Int), [], [UInt16.ofNat ((e1.n % 2 ^ 1).toNat)], 0, 0⟩ : TRequest)⟩ : TAsk)]))), (3, oB true 11 eAsk ([(⟨(((e1.kind % 2 ^ 3).toNat : Nat) : Int), (((e1.n % 2 ^ 8).toNat : Nat) : Int), (⟨8, 0, 0, 0, ((9 + ((e1.n % 2 ^ 3).toNat) : Nat) : Int), [], [UInt16.ofNat ((e1.n % 2 ^ 1).toNat)], 0, 0⟩ : TRequest)⟩ : TAsk)])), (2, oB false 1 enc16 [UInt16.ofNat ((e1.n % 2 ^ 1).toNat)]), (1, .obj [pN ((e1.kind % 2 ^ 3).toNat), pN ((e1.n % 2 ^ 8).toNat), pI 8, pI 0, pI 0, pI 0, pN (9 + ((e1.n % 2 ^ 3).toNat)), pNil, PV.ref 2 0 none, p16 0, p16 0])] 5 ⟨rfl, rfl, rfl, rfl, trivial⟩ rfl rfl ?_
   refine r_end ?_
   refine q_block ?_
   refine q_then ?_
   refine w_R ?_
   refine qo hnt rfl (s_addN (a := i) (b := 1) rfl rfl (by omega) (by omega) (by omega) ?_)
   refine qm hnt rfl rfl ?_
   refine r_end ?_
   refine q_then ?_
   refine ⟨(sm ++ ([(⟨(((e1.kind % 2 ^ 3).toNat : Nat) : Int), (((e1.n % 2 ^ 8).toNat : Nat) : Int), (⟨8, 0, 0, 0, ((9 + ((e1.n % 2 ^ 3).toNat) : Nat) : Int), [], [UInt16.ofNat ((e1.n % 2 ^ 1).toNat)], 0, 0⟩ : TRequest)⟩ : TAsk)])), (i + 1), ?_, ?_, ⟨[(0, 4)], by rw [hk]; decide, ⟨⟨_, rfl, rfl, rfl⟩, ⟨_, rfl, rfl, rfl⟩, ⟨_, rfl, rfl, rfl⟩, ⟨_, rfl, rfl, rfl⟩, trivial⟩, ⟨⟨_, _, rfl, rfl, rfl, rfl⟩, trivial⟩, by rw [hk]; decide⟩⟩
   ·
    refine ⟨by omega, by simp [hsl], fun a ha => ?_⟩
    rcases List.mem_append.1 ha with h | h
    · exact hsm a h
    · have h := List.mem_singleton.1 h; subst h; exact ⟨by simp only; omega, by simp, by simp⟩
   · omega
  ·
   have c1_ := c1
   try simp only [sB] at c1
   refine w_exit ?_
   refine q_then_exit ?_
   refine q_then_exit ?_
   refine q_block_exit ?_
   refine q_then ?_
   refine w_seq ?_
   refine w_R ?_
   refine qm hnt rfl rfl ?_
   refine qo hnt rfl (s_callF rfl rfl rfl (w_burgagelaw19_play l cl_l (by omega) (by exact hs)) rfl ?_)
   refine qm hnt rfl rfl ?_
   refine ry hnt rfl rfl rfl rfl ?_
   refine qm hnt rfl rfl ?_
   refine ry hnt rfl rfl rfl rfl ?_
   refine qo hnt rfl (s_callX (r2 := pB true) (nx1 := 1) (H2 := [(0, oB false 11 eAsk sm)]) (H3 := [(0, oB false 11 eAsk sm)]) [] [] rfl rfl rfl (handed_of (by decide) trivial) rfl rfl rfl rfl rfl rfl (w_burgagelaw19_play sm false (by omega) (by exact hsm)) rfl (dist_of rfl) rfl rfl rfl rfl ?_)
   refine qo hnt rfl (s_pick_t rfl rfl rfl ?_)
   refine qm hnt rfl rfl ?_
   refine ry hnt rfl rfl rfl rfl ?_
   refine qo hnt rfl (s_callF rfl rfl rfl (w_burgagelaw19_known) rfl ?_)
   refine qo hnt rfl (s_pick_t rfl rfl rfl ?_)
   refine qa hnt rfl rfl ?_
   refine r_set [(2, pB true)] [(0, oB false 11 eAsk sm)] 1 ⟨rfl, trivial⟩ rfl rfl ?_
   refine r_end ?_
   refine q_then ?_
   refine w_ret ?_
   exact fin_plain (ret_tmp rfl ret_nil) rfl rfl ⟨rfl, rfl, rfl⟩

theorem w_burgagelaw19_CountSums (ms : List Bool) (cl_ms : Bool) (es : List Bool) (cl_es : Bool) (bs : List Bool) (cl_bs : Bool) (cl : Int) (h1 : ms.length ≤ 140737488351232) (h2 : es.length ≤ 140737488351232) (h3 : bs.length ≤ 140737488351232) :
    T Try.prog 5 [pS 1 cl_ms encBo ms, pS 1 cl_es encBo es, pS 1 cl_bs encBo bs, pI cl] 0 [] (Ret (pB true) 0 []) := by
 refine t_fun tabOk (n := 114) (rs := [.tmp 8]) Try.func5 rfl rfl rfl rfl (Nat.le_of_ble_eq_true rfl) ?_
 intro c hnt hk
 refine w_seq ?_
 refine w_R ?_
 refine qa hnt rfl rfl ?_
 refine r_end ?_
 refine q_then ?_
 refine w_seq ?_
 refine w_R ?_
 refine qo hnt rfl (s_callX (r2 := PV.ptr 0 0) (nx1 := 1) (H2 := []) (H3 := [(0, .obj [pI 0, pI 0, pI 0])]) [] [] rfl rfl rfl (handed_of (by decide) trivial) rfl rfl rfl rfl rfl rfl (w_count_New) rfl (dist_of rfl) rfl rfl rfl rfl ?_)
 refine qa hnt rfl rfl ?_
 refine r_set [(0, pS 1 cl_ms encBo ms), (1, pS 1 cl_es encBo es), (2, pS 1 cl_bs encBo bs), (3, pI cl), (9, PV.ptr 0 0)] [(0, .obj [pI 0, pI 0, pI 0])] 1 ⟨rfl, rfl, rfl, rfl, rfl, trivial⟩ rfl rfl ?_
 refine r_end ?_
 refine q_then ?_
 refine w_seq ?_
 refine w_seq ?_
 refine w_R ?_
 refine qm hnt rfl rfl ?_
 refine qo hnt rfl (s_ptrnil tab_38 rfl rfl trivial ?_)
 refine r_end ?_
 refine q_then ?_
 refine w_if rfl (fun e => absurd e (by decide)) (fun _ => ?_)
 refine w_skip ?_
 refine q_then ?_
 refine w_seq ?_
 refine w_R ?_
 refine qa hnt rfl rfl ?_
 refine qa hnt rfl rfl ?_
 refine qa hnt rfl rfl ?_
 refine r_end ?_
 refine q_then ?_
 refine w_seq ?_
 refine w_seq ?_
 refine w_R ?_
 refine qa hnt rfl rfl ?_
 refine r_end ?_
 refine q_then ?_
 refine w_block ?_
 refine loop4 (fun (m : Int) (e : Int) (b : Int) (i : Nat) => i ≤ 60 ∧ 0 ≤ m ∧ m ≤ i ∧ 0 ≤ e ∧ e ≤ i ∧ 0 ≤ b ∧ b ≤ 2 * i) (fun (m : Int) (e : Int) (b : Int) (i : Nat) => [(0, pS 1 cl_ms encBo ms), (1, pS 1 cl_es encBo es), (2, pS 1 cl_bs encBo bs), (3, pI cl), (9, PV.ptr 0 0), (10, pI m), (11, pI e), (12, pI b), (13, pN i)]) 1 (fun (m : Int) (e : Int) (b : Int) (i : Nat) => [(0, .obj [pI m, pI e, pI b])]) (fun (m : Int) (e : Int) (b : Int) (i : Nat) => 60 - i) (0) (0) (0) (0) ?_ ⟨[(0, 0)], by rw [hk]; decide, ⟨⟨_, rfl, rfl, rfl⟩, ⟨_, rfl, rfl, rfl⟩, ⟨_, rfl, rfl, rfl⟩, ⟨_, rfl, rfl, rfl⟩, ⟨_, rfl, rfl, rfl⟩, ⟨_, rfl, rfl, rfl⟩, ⟨_, rfl, rfl, rfl⟩, ⟨_, rfl, rfl, rfl⟩, ⟨_, rfl, rfl, rfl⟩, trivial⟩, ⟨⟨_, _, rfl, rfl, rfl, rfl⟩, trivial⟩, by rw [hk]; decide⟩ ?_
 · omega
 ·
  intro m e b i hI
  obtain ⟨hi, hbd⟩ := hI
  refine w_seq ?_
  refine w_seq ?_
  refine w_R ?_
  refine qm hnt rfl rfl ?_
  refine qm hnt rfl rfl ?_
  refine qo hnt rfl (s_lenM (l := ms) tab_28 rfl (hM_sl (f := encBo) rfl) ?_)
  refine qo hnt rfl (s_lss rfl rfl ?_)
  refine qm hnt rfl rfl ?_
  refine r_if tabOk hnt rfl rfl rfl (fun g1 => ?_) (fun g1 => ?_)
  ·
   have g1' := g1
   try simp only [sB] at g1'
   refine qm hnt rfl rfl ?_
   refine ry hnt rfl rfl rfl g1 ?_
   refine qm hnt rfl rfl ?_
   refine ry hnt rfl rfl rfl g1 ?_
   refine qo hnt rfl (s_lenM (l := es) tab_28 rfl (hM_sl (f := encBo) rfl) ?_)
   refine ry hnt rfl rfl rfl g1 ?_
   refine qo hnt rfl (s_lss rfl rfl ?_)
   refine qo hnt rfl (s_pick_t rfl g1 rfl ?_)
   refine qm hnt rfl rfl ?_
   refine r_if tabOk hnt rfl rfl rfl (fun g2 => ?_) (fun g2 => ?_)
   ·
    have g2' := g2
    try simp only [sB] at g2'
    refine qm hnt rfl rfl ?_
    refine ry hnt rfl rfl rfl g2 ?_
    refine qm hnt rfl rfl ?_
    refine ry hnt rfl rfl rfl g2 ?_
    refine qo hnt rfl (s_lenM (l := bs) tab_28 rfl (hM_sl (f := encBo) rfl) ?_)
    refine ry hnt rfl rfl rfl g2 ?_
    refine qo hnt rfl (s_lss rfl rfl ?_)
    refine qo hnt rfl (s_pick_t rfl g2 rfl ?_)
    refine qm hnt rfl rfl ?_
    refine r_if tabOk hnt rfl rfl rfl (fun g3 => ?_) (fun g3 => ?_)
    ·
     have g3' := g3
     try simp only [sB] at g3'
     refine qm hnt rfl rfl ?_
     refine ry hnt rfl rfl rfl g3 ?_
     refine qo hnt rfl (s_lss rfl rfl ?_)
     refine qo hnt rfl (s_pick_t rfl g3 rfl ?_)
     refine r_end ?_
     refine q_then ?_
     refine w_if rfl (fun c1 => ?_) (fun c1 => ?_)
     ·
      have c1_ := c1
      try simp only [sB] at c1
      refine w_skip ?_
      refine q_then ?_
      refine w_seq ?_
      refine w_block ?_
      refine join3 (fun (m : Int) (e : Int) (b : Int) => 0 ≤ m ∧ m ≤ (i + 1) ∧ 0 ≤ e ∧ e ≤ i ∧ 0 ≤ b ∧ b ≤ 2 * i) (fun (m : Int) (e : Int) (b : Int) => [(0, pS 1 cl_ms encBo ms), (1, pS 1 cl_es encBo es), (2, pS 1 cl_bs encBo bs), (3, pI cl), (9, PV.ptr 0 0), (10, pI m), (11, pI e), (12, pI b), (13, pN i), (28, pN i), (29, pS 1 cl_es encBo es), (30, pN es.length), (31, pB (decide (((i : Nat) : Int) < ((es.length : Nat) : Int)))), (34, pN i), (35, pS 1 cl_bs encBo bs), (36, pN bs.length), (37, pB (decide (((i : Nat) : Int) < ((bs.length : Nat) : Int)))), (40, pN i), (41, pB (decide (((i : Nat) : Int) < 60)))]) 1 (fun (m : Int) (e : Int) (b : Int) => [(0, .obj [pI m, pI e, pI b])]) ?_ ?_
      ·
       refine w_seq ?_
       refine w_R ?_
       refine qm hnt rfl rfl ?_
       refine qm hnt rfl rfl ?_
       obtain ⟨e1, he1⟩ := get_of_lt ms (i := i) (by omega)
       refine qo hnt rfl (s_iaM (q := i) (b := e1) (f := encBo) tab_28 rfl tab_4 rfl rfl (by omega) rfl he1 ?_)
       refine qo hnt rfl (s_load_ro1 tab_4 rfl rfl rfl rfl ?_)
       refine r_set [(0, pS 1 cl_ms encBo ms), (1, pS 1 cl_es encBo es), (2, pS 1 cl_bs encBo bs), (3, pI cl), (9, PV.ptr 0 0), (10, pI m), (11, pI e), (12, pI b), (13, pN i), (28, pN i), (29, pS 1 cl_es encBo es), (30, pN es.length), (31, pB (decide (((i : Nat) : Int) < ((es.length : Nat) : Int)))), (34, pN i), (35, pS 1 cl_bs encBo bs), (36, pN bs.length), (37, pB (decide (((i : Nat) : Int) < ((bs.length : Nat) : Int)))), (40, pN i), (41, pB (decide (((i : Nat) : Int) < 60))), (48, pB e1)] [(0, .obj [pI m, pI e, pI b])] 1 ⟨rfl, rfl, rfl, rfl, rfl, rfl, rfl, rfl, rfl, rfl, rfl, rfl, rfl, rfl, rfl, rfl, rfl, rfl, rfl, rfl, trivial⟩ rfl rfl ?_
       refine r_end ?_
       refine q_then ?_
       refine w_if rfl (fun c2 => ?_) (fun c2 => ?_)
       ·
        have c2_ := c2
        try simp only [sB] at c2
        refine w_seq ?_
        refine w_R ?_
        refine qm hnt rfl rfl ?_
        refine qo hnt rfl (s_callX (r2 := PV.tup []) (nx1 := 1) (H2 := [(0, .obj [pI m, pI e, pI b])]) (H3 := [(0, .obj [pI (min (m + 1) 1073741824), pI e, pI b])]) [0] [.obj [pI m, pI e, pI b]] rfl rfl rfl (handed_of (by decide) ⟨rfl, trivial⟩) rfl rfl rfl rfl rfl rfl (w_count_Count_Message m e b (by first | omega | assumption | (simp; omega) | decide | (simp; done))) rfl (dist_of rfl) rfl rfl rfl rfl ?_)
        refine r_set [(0, pS 1 cl_ms encBo ms), (1, pS 1 cl_es encBo es), (2, pS 1 cl_bs encBo bs), (3, pI cl), (9, PV.ptr 0 0), (10, pI m), (11, pI e), (12, pI b), (13, pN i), (28, pN i), (29, pS 1 cl_es encBo es), (30, pN es.length), (31, pB (decide (((i : Nat) : Int) < ((es.length : Nat) : Int)))), (34, pN i), (35, pS 1 cl_bs encBo bs), (36, pN bs.length), (37, pB (decide (((i : Nat) : Int) < ((bs.length : Nat) : Int)))), (40, pN i), (41, pB (decide (((i : Nat) : Int) < 60)))] [(0, .obj [pI (min (m + 1) 1073741824), pI e, pI b])] 1 ⟨rfl, rfl, rfl, rfl, rfl, rfl, rfl, rfl, rfl, rfl, rfl, rfl, rfl, rfl, rfl, rfl, rfl, rfl, rfl, trivial⟩ rfl rfl ?_
        refine r_end ?_
        refine q_then ?_
        refine w_R ?_
        refine qm hnt rfl rfl ?_
        refine qo hnt rfl (s_addi (r := m + 1) rfl rfl rfl (by omega) ?_)
        refine qa hnt rfl rfl ?_
        refine r_leC (n := 0) (j := 0) (y := pI (m + 1)) rfl rfl (le_of_eq (congrArg (fun z : Int => pI z) (show (min (m + 1) 1073741824) = (m + 1) by first | omega | (rw [cnt_11 hD1]; rfl) | (rw [cnt_10 hD2]; rfl)))) ?_
        refine r_end ?_
        refine q_then ?_
        refine ⟨(m + 1), (e), (b), ?_, ⟨[(0, 0)], by rw [hk]; decide, ⟨⟨_, rfl, rfl, rfl⟩, ⟨_, rfl, rfl, rfl⟩, ⟨_, rfl, rfl, rfl⟩, ⟨_, rfl, rfl, rfl⟩, ⟨_, rfl, rfl, rfl⟩, ⟨_, rfl, rfl, rfl⟩, ⟨_, rfl, rfl, rfl⟩, ⟨_, rfl, rfl, rfl⟩, ⟨_, rfl, rfl, rfl⟩, ⟨_, rfl, rfl, rfl⟩, ⟨_, rfl, rfl, rfl⟩, ⟨_, rfl, rfl, rfl⟩, ⟨_, rfl, rfl, rfl⟩, ⟨_, rfl, rfl, rfl⟩, ⟨_, rfl, rfl, rfl⟩, ⟨_, rfl, rfl, rfl⟩, ⟨_, rfl, rfl, rfl⟩, ⟨_, rfl, rfl, rfl⟩, ⟨_, rfl, rfl, rfl⟩, trivial⟩, ⟨⟨_, _, rfl, rfl, rfl, rfl⟩, trivial⟩, by rw [hk]; decide⟩⟩
        omega
       ·
        have c2_ := c2
        try simp only [sB] at c2
        refine w_skip ?_
        refine q_then ?_
        refine ⟨(m), (e), (b), ?_, ⟨[(0, 0)], by rw [hk]; decide, ⟨⟨_, rfl, rfl, rfl⟩, ⟨_, rfl, rfl, rfl⟩, ⟨_, rfl, rfl, rfl⟩, ⟨_, rfl, rfl, rfl⟩, ⟨_, rfl, rfl, rfl⟩, ⟨_, rfl, rfl, rfl⟩, ⟨_, rfl, rfl, rfl⟩, ⟨_, rfl, rfl, rfl⟩, ⟨_, rfl, rfl, rfl⟩, ⟨_, rfl, rfl, rfl⟩, ⟨_, rfl, rfl, rfl⟩, ⟨_, rfl, rfl, rfl⟩, ⟨_, rfl, rfl, rfl⟩, ⟨_, rfl, rfl, rfl⟩, ⟨_, rfl, rfl, rfl⟩, ⟨_, rfl, rfl, rfl⟩, ⟨_, rfl, rfl, rfl⟩, ⟨_, rfl, rfl, rfl⟩, ⟨_, rfl, rfl, rfl⟩, trivial⟩, ⟨⟨_, _, rfl, rfl, rfl, rfl⟩, trivial⟩, by rw [hk]; decide⟩⟩
        omega
      ·
       intro m e b hJ
       refine join3 (fun (m : Int) (e : Int) (b : Int) => 0 ≤ m ∧ m ≤ (i + 1) ∧ 0 ≤ e ∧ e ≤ (i + 1) ∧ 0 ≤ b ∧ b ≤ 2 * i) (fun (m : Int) (e : Int) (b : Int) => [(0, pS 1 cl_ms encBo ms), (1, pS 1 cl_es encBo es), (2, pS 1 cl_bs encBo bs), (3, pI cl), (9, PV.ptr 0 0), (10, pI m), (11, pI e), (12, pI b), (13, pN i), (28, pN i), (29, pS 1 cl_es encBo es), (30, pN es.length), (31, pB (decide (((i : Nat) : Int) < ((es.length : Nat) : Int)))), (34, pN i), (35, pS 1 cl_bs encBo bs), (36, pN bs.length), (37, pB (decide (((i : Nat) : Int) < ((bs.length : Nat) : Int)))), (40, pN i), (41, pB (decide (((i : Nat) : Int) < 60)))]) 1 (fun (m : Int) (e : Int) (b : Int) => [(0, .obj [pI m, pI e, pI b])]) ?_ ?_
       ·
        refine w_seq ?_
        refine w_R ?_
        refine qm hnt rfl rfl ?_
        refine qm hnt rfl rfl ?_
        obtain ⟨e2, he2⟩ := get_of_lt es (i := i) (by omega)
        refine qo hnt rfl (s_iaM (q := i) (b := e2) (f := encBo) tab_28 rfl tab_4 rfl rfl (by omega) rfl he2 ?_)
        refine qo hnt rfl (s_load_ro1 tab_4 rfl rfl rfl rfl ?_)
        refine r_end ?_
        refine q_then ?_
        refine w_if rfl (fun c3 => ?_) (fun c3 => ?_)
        ·
         have c3_ := c3
         try simp only [sB] at c3
         refine w_seq ?_
         refine w_R ?_
         refine qm hnt rfl rfl ?_
         refine qo hnt rfl (s_callX (r2 := PV.tup []) (nx1 := 1) (H2 := [(0, .obj [pI m, pI e, pI b])]) (H3 := [(0, .obj [pI m, pI (min (e + 1) 1073741824), pI b])]) [0] [.obj [pI m, pI e, pI b]] rfl rfl rfl (handed_of (by decide) ⟨rfl, trivial⟩) rfl rfl rfl rfl rfl rfl (w_count_Count_Exception m e b (by first | omega | assumption | (simp; omega) | decide | (simp; done))) rfl (dist_of rfl) rfl rfl rfl rfl ?_)
         refine r_set [(0, pS 1 cl_ms encBo ms), (1, pS 1 cl_es encBo es), (2, pS 1 cl_bs encBo bs), (3, pI cl), (9, PV.ptr 0 0), (10, pI m), (11, pI e), (12, pI b), (13, pN i), (28, pN i), (29, pS 1 cl_es encBo es), (30, pN es.length), (31, pB (decide (((i : Nat) : Int) < ((es.length : Nat) : Int)))), (34, pN i), (35, pS 1 cl_bs encBo bs), (36, pN bs.length), (37, pB (decide (((i : Nat) : Int) < ((bs.length : Nat) : Int)))), (40, pN i), (41, pB (decide (((i : Nat) : Int) < 60)))] [(0, .obj [pI m, pI (min (e + 1) 1073741824), pI b])] 1 ⟨rfl, rfl, rfl, rfl, rfl, rfl, rfl, rfl, rfl, rfl, rfl, rfl, rfl, rfl, rfl, rfl, rfl, rfl, rfl, trivial⟩ rfl rfl ?_
         refine r_end ?_
         refine q_then ?_
         refine w_R ?_
         refine qm hnt rfl rfl ?_
         refine qo hnt rfl (s_addi (r := e + 1) rfl rfl rfl (by omega) ?_)
         refine qa hnt rfl rfl ?_
         refine r_leC (n := 0) (j := 1) (y := pI (e + 1)) rfl rfl (le_of_eq (congrArg (fun z : Int => pI z) (show (min (e + 1) 1073741824) = (e + 1) by first | omega | (rw [cnt_11 hD1]; rfl) | (rw [cnt_10 hD2]; rfl)))) ?_
         refine r_end ?_
         refine q_then ?_
         refine ⟨(m), (e + 1), (b), ?_, ⟨[(0, 0)], by rw [hk]; decide, ⟨⟨_, rfl, rfl, rfl⟩, ⟨_, rfl, rfl, rfl⟩, ⟨_, rfl, rfl, rfl⟩, ⟨_, rfl, rfl, rfl⟩, ⟨_, rfl, rfl, rfl⟩, ⟨_, rfl, rfl, rfl⟩, ⟨_, rfl, rfl, rfl⟩, ⟨_, rfl, rfl, rfl⟩, ⟨_, rfl, rfl, rfl⟩, ⟨_, rfl, rfl, rfl⟩, ⟨_, rfl, rfl, rfl⟩, ⟨_, rfl, rfl, rfl⟩, ⟨_, rfl, rfl, rfl⟩, ⟨_, rfl, rfl, rfl⟩, ⟨_, rfl, rfl, rfl⟩, ⟨_, rfl, rfl, rfl⟩, ⟨_, rfl, rfl, rfl⟩, ⟨_, rfl, rfl, rfl⟩, ⟨_, rfl, rfl, rfl⟩, trivial⟩, ⟨⟨_, _, rfl, rfl, rfl, rfl⟩, trivial⟩, by rw [hk]; decide⟩⟩
         omega
        ·
         have c3_ := c3
         try simp only [sB] at c3
         refine w_skip ?_
         refine q_then ?_
         refine ⟨(m), (e), (b), ?_, ⟨[(0, 0)], by rw [hk]; decide, ⟨⟨_, rfl, rfl, rfl⟩, ⟨_, rfl, rfl, rfl⟩, ⟨_, rfl, rfl, rfl⟩, ⟨_, rfl, rfl, rfl⟩, ⟨_, rfl, rfl, rfl⟩, ⟨_, rfl, rfl, rfl⟩, ⟨_, rfl, rfl, rfl⟩, ⟨_, rfl, rfl, rfl⟩, ⟨_, rfl, rfl, rfl⟩, ⟨_, rfl, rfl, rfl⟩, ⟨_, rfl, rfl, rfl⟩, ⟨_, rfl, rfl, rfl⟩, ⟨_, rfl, rfl, rfl⟩, ⟨_, rfl, rfl, rfl⟩, ⟨_, rfl, rfl, rfl⟩, ⟨_, rfl, rfl, rfl⟩, ⟨_, rfl, rfl, rfl⟩, ⟨_, rfl, rfl, rfl⟩, ⟨_, rfl, rfl, rfl⟩, trivial⟩, ⟨⟨_, _, rfl, rfl, rfl, rfl⟩, trivial⟩, by rw [hk]; decide⟩⟩
         omega
       ·
        intro m e b hJ
        refine join3 (fun (m : Int) (e : Int) (b : Int) => 0 ≤ m ∧ m ≤ (i + 1) ∧ 0 ≤ e ∧ e ≤ (i + 1) ∧ 0 ≤ b ∧ b ≤ 2 * (i + 1)) (fun (m : Int) (e : Int) (b : Int) => [(0, pS 1 cl_ms encBo ms), (1, pS 1 cl_es encBo es), (2, pS 1 cl_bs encBo bs), (3, pI cl), (9, PV.ptr 0 0), (10, pI m), (11, pI e), (12, pI b), (13, pN i), (28, pN i), (29, pS 1 cl_es encBo es), (30, pN es.length), (31, pB (decide (((i : Nat) : Int) < ((es.length : Nat) : Int)))), (34, pN i), (35, pS 1 cl_bs encBo bs), (36, pN bs.length), (37, pB (decide (((i : Nat) : Int) < ((bs.length : Nat) : Int)))), (40, pN i), (41, pB (decide (((i : Nat) : Int) < 60)))]) 1 (fun (m : Int) (e : Int) (b : Int) => [(0, .obj [pI m, pI e, pI b])]) ?_ ?_
        ·
         refine w_seq ?_
         refine w_R ?_
         refine qm hnt rfl rfl ?_
         refine qm hnt rfl rfl ?_
         obtain ⟨e3, he3⟩ := get_of_lt bs (i := i) (by omega)
         refine qo hnt rfl (s_iaM (q := i) (b := e3) (f := encBo) tab_28 rfl tab_4 rfl rfl (by omega) rfl he3 ?_)
         refine qo hnt rfl (s_load_ro1 tab_4 rfl rfl rfl rfl ?_)
         refine r_end ?_
         refine q_then ?_
         refine w_if rfl (fun c4 => ?_) (fun c4 => ?_)
         ·
          have c4_ := c4
          try simp only [sB] at c4
          refine w_seq ?_
          refine w_R ?_
          refine qm hnt rfl rfl ?_
          refine qo hnt rfl (s_callX (r2 := PV.tup []) (nx1 := 1) (H2 := [(0, .obj [pI m, pI e, pI b])]) (H3 := [(0, .obj [pI m, pI e, pI (b + (max 0 (min 2 (1073741824 - b))))])]) [0] [.obj [pI m, pI e, pI b]] rfl rfl rfl (handed_of (by decide) ⟨rfl, trivial⟩) rfl rfl rfl rfl rfl rfl (w_count_Count_Bad m e b 2 (by first | omega | assumption | (simp; omega) | decide | (simp; done)) (by first | omega | assumption | (simp; omega) | decide | (simp; done))) rfl (dist_of rfl) rfl rfl rfl rfl ?_)
          refine r_set [(0, pS 1 cl_ms encBo ms), (1, pS 1 cl_es encBo es), (2, pS 1 cl_bs encBo bs), (3, pI cl), (9, PV.ptr 0 0), (10, pI m), (11, pI e), (12, pI b), (13, pN i), (28, pN i), (29, pS 1 cl_es encBo es), (30, pN es.length), (31, pB (decide (((i : Nat) : Int) < ((es.length : Nat) : Int)))), (34, pN i), (35, pS 1 cl_bs encBo bs), (36, pN bs.length), (37, pB (decide (((i : Nat) : Int) < ((bs.length : Nat) : Int)))), (40, pN i), (41, pB (decide (((i : Nat) : Int) < 60)))] [(0, .obj [pI m, pI e, pI (b + (max 0 (min 2 (1073741824 - b))))])] 1 ⟨rfl, rfl, rfl, rfl, rfl, rfl, rfl, rfl, rfl, rfl, rfl, rfl, rfl, rfl, rfl, rfl, rfl, rfl, rfl, trivial⟩ rfl rfl ?_
          refine r_end ?_
          refine q_then ?_
          refine w_R ?_
          refine qm hnt rfl rfl ?_
          refine qo hnt rfl (s_addi (r := b + 2) rfl rfl rfl (by omega) ?_)
          refine qa hnt rfl rfl ?_
          refine r_leC (n := 0) (j := 2) (y := pI (b + 2)) rfl rfl (le_of_eq (congrArg (fun z : Int => pI z) (show (b + (max 0 (min 2 (1073741824 - b)))) = (b + 2) by first | omega | (rw [cnt_11 hD1]; rfl) | (rw [cnt_10 hD2]; rfl)))) ?_
          refine r_end ?_
          refine q_then ?_
          refine ⟨(m), (e), (b + 2), ?_, ⟨[(0, 0)], by rw [hk]; decide, ⟨⟨_, rfl, rfl, rfl⟩, ⟨_, rfl, rfl, rfl⟩, ⟨_, rfl, rfl, rfl⟩, ⟨_, rfl, rfl, rfl⟩, ⟨_, rfl, rfl, rfl⟩, ⟨_, rfl, rfl, rfl⟩, ⟨_, rfl, rfl, rfl⟩, ⟨_, rfl, rfl, rfl⟩, ⟨_, rfl, rfl, rfl⟩, ⟨_, rfl, rfl, rfl⟩, ⟨_, rfl, rfl, rfl⟩, ⟨_, rfl, rfl, rfl⟩, ⟨_, rfl, rfl, rfl⟩, ⟨_, rfl, rfl, rfl⟩, ⟨_, rfl, rfl, rfl⟩, ⟨_, rfl, rfl, rfl⟩, ⟨_, rfl, rfl, rfl⟩, ⟨_, rfl, rfl, rfl⟩, ⟨_, rfl, rfl, rfl⟩, trivial⟩, ⟨⟨_, _, rfl, rfl, rfl, rfl⟩, trivial⟩, by rw [hk]; decide⟩⟩
          omega
         ·
          have c4_ := c4
          try simp only [sB] at c4
          refine w_skip ?_
          refine q_then ?_
          refine ⟨(m), (e), (b), ?_, ⟨[(0, 0)], by rw [hk]; decide, ⟨⟨_, rfl, rfl, rfl⟩, ⟨_, rfl, rfl, rfl⟩, ⟨_, rfl, rfl, rfl⟩, ⟨_, rfl, rfl, rfl⟩, ⟨_, rfl, rfl, rfl⟩, ⟨_, rfl, rfl, rfl⟩, ⟨_, rfl, rfl, rfl⟩, ⟨_, rfl, rfl, rfl⟩, ⟨_, rfl, rfl, rfl⟩, ⟨_, rfl, rfl, rfl⟩, ⟨_, rfl, rfl, rfl⟩, ⟨_, rfl, rfl, rfl⟩, ⟨_, rfl, rfl, rfl⟩, ⟨_, rfl, rfl, rfl⟩, ⟨_, rfl, rfl, rfl⟩, ⟨_, rfl, rfl, rfl⟩, ⟨_, rfl, rfl, rfl⟩, ⟨_, rfl, rfl, rfl⟩, ⟨_, rfl, rfl, rfl⟩, trivial⟩, ⟨⟨_, _, rfl, rfl, rfl, rfl⟩, trivial⟩, by rw [hk]; decide⟩⟩
          omega
        ·
         intro m e b hJ
         refine w_seq ?_
         refine w_R ?_
         refine qm hnt rfl rfl ?_
         refine qo hnt rfl (s_mkM (f := enc16) ([0] : List UInt16) tab_29 rfl tab_30 ⟨rfl, by decide⟩ (by decide) rfl rfl rfl rfl ?_)
         refine qo hnt rfl (s_build tab_32 rfl rfl (b_cons rfl tab_3 rfl rfl rfl (Nat.le_of_ble_eq_true rfl) (b_cons rfl tab_3 rfl rfl rfl (Nat.le_of_ble_eq_true rfl) (b_cons rfl tab_29 rfl rfl rfl (Nat.le_of_ble_eq_true rfl) (b_nil ?_)))))
         obtain ⟨D1, hD1⟩ : ∃ z : TReply × Bool, z = cntDo m e b (⟨8, 0, 0, 0, 11, [], ([0] : List UInt16), 0, 0⟩ : TRequest) 1 := ⟨_, rfl⟩
         refine qo hnt rfl (s_callX (r2 := PV.f (eReply D1.1)) (nx1 := 2) (H2 := [(1, oB false 1 enc16 ([0] : List UInt16)), (0, .obj [pI m, pI e, pI b])]) (H3 := [(0, .obj [pI (cC m D1.2), pI (cC e D1.2), pI (cC b D1.2)]), (1, oB false 1 enc16 ([0] : List UInt16))]) [0] [.obj [pI m, pI e, pI b]] rfl rfl rfl (handed_of (by decide) ⟨rfl, trivial⟩) rfl rfl rfl rfl rfl rfl (T.leL (args := [PV.ptr 0 0, PV.f (.agg [encI 8, encI 0, encI 0, encI 0, encI 11, FV.v (.slice none 0 0), FV.sl 1 false (List.map enc16 ([0] : List UInt16)), enc16 0, enc16 0]), pI 1]) (args' := [PV.ptr 0 0, PV.f (eRequest (⟨8, 0, 0, 0, 11, [], ([0] : List UInt16), 0, 0⟩ : TRequest)), pI 1]) ⟨le_refl _, ⟨le_F (FLe.agg ⟨FLe.refl _, FLe.refl _, FLe.refl _, FLe.refl _, FLe.refl _, FLe.nil 1 false, FLe.refl _, FLe.refl _, FLe.refl _, trivial⟩), ⟨le_refl _, trivial⟩⟩⟩ (w_count_Count_Do m e b (⟨8, 0, 0, 0, 11, [], ([0] : List UInt16), 0, 0⟩ : TRequest) 1 D1 hD1 (by first | omega | assumption | (simp; omega) | decide | (simp; done)) (by first | omega | assumption | (simp; omega) | decide | (simp; done)))) rfl (dist_of rfl) rfl rfl rfl rfl ?_)
         refine r_set [(0, pS 1 cl_ms encBo ms), (1, pS 1 cl_es encBo es), (2, pS 1 cl_bs encBo bs), (3, pI cl), (9, PV.ptr 0 0), (10, pI m), (11, pI e), (12, pI b), (13, pN i), (28, pN i), (29, pS 1 cl_es encBo es), (30, pN es.length), (31, pB (decide (((i : Nat) : Int) < ((es.length : Nat) : Int)))), (34, pN i), (35, pS 1 cl_bs encBo bs), (36, pN bs.length), (37, pB (decide (((i : Nat) : Int) < ((bs.length : Nat) : Int)))), (40, pN i), (41, pB (decide (((i : Nat) : Int) < 60)))] [(0, .obj [pI (cC m D1.2), pI (cC e D1.2), pI (cC b D1.2)]), (1, oB false 1 enc16 ([0] : List UInt16))] 2 ⟨rfl, rfl, rfl, rfl, rfl, rfl, rfl, rfl, rfl, rfl, rfl, rfl, rfl, rfl, rfl, rfl, rfl, rfl, rfl, trivial⟩ rfl rfl ?_
         refine r_end ?_
         refine q_then ?_
         refine w_seq ?_
         refine w_leC (n := 0) (j := 0) (y := pI m) rfl rfl (le_of_eq (congrArg (fun z : Int => pI z) (show (cC m D1.2) = m by first | omega | (rw [cnt_11 hD1]; rfl) | (rw [cnt_10 hD2]; rfl)))) ?_
         refine w_leC (n := 0) (j := 1) (y := pI e) rfl rfl (le_of_eq (congrArg (fun z : Int => pI z) (show (cC e D1.2) = e by first | omega | (rw [cnt_11 hD1]; rfl) | (rw [cnt_10 hD2]; rfl)))) ?_
         refine w_leC (n := 0) (j := 2) (y := pI b) rfl rfl (le_of_eq (congrArg (fun z : Int => pI z) (show (cC b D1.2) = b by first | omega | (rw [cnt_11 hD1]; rfl) | (rw [cnt_10 hD2]; rfl)))) ?_
         refine w_R ?_
         refine qm hnt rfl rfl ?_
         refine qm hnt rfl rfl ?_
         refine qo hnt rfl (s_eql rfl rfl ?_)
         refine r_end ?_
         refine q_then ?_
         refine w_if rfl (fun c5 => ?_) (fun c5 => ?_)
         ·
          have c5_ := c5
          try simp only [sB] at c5
          refine w_seq ?_
          refine w_R ?_
          refine qm hnt rfl rfl ?_
          refine qo hnt rfl (s_mkM (f := enc16) ([0] : List UInt16) tab_29 rfl tab_30 ⟨rfl, by decide⟩ (by decide) rfl rfl rfl rfl ?_)
          refine qo hnt rfl (s_build tab_32 rfl rfl (b_cons rfl tab_3 rfl rfl rfl (Nat.le_of_ble_eq_true rfl) (b_cons rfl tab_3 rfl rfl rfl (Nat.le_of_ble_eq_true rfl) (b_cons rfl tab_29 rfl rfl rfl (Nat.le_of_ble_eq_true rfl) (b_nil ?_)))))
          obtain ⟨D2, hD2⟩ : ∃ z : TReply × Bool, z = cntDo m e b (⟨8, 0, 0, 0, 10, [], ([0] : List UInt16), 0, 0⟩ : TRequest) 1 := ⟨_, rfl⟩
          refine qo hnt rfl (s_callX (r2 := PV.f (eReply D2.1)) (nx1 := 3) (H2 := [(2, oB false 1 enc16 ([0] : List UInt16)), (0, .obj [pI m, pI e, pI b]), (1, oB false 1 enc16 ([0] : List UInt16))]) (H3 := [(0, .obj [pI (cC m D2.2), pI (cC e D2.2), pI (cC b D2.2)]), (2, oB false 1 enc16 ([0] : List UInt16)), (1, oB false 1 enc16 ([0] : List UInt16))]) [0] [.obj [pI m, pI e, pI b]] rfl rfl rfl (handed_of (by decide) ⟨rfl, trivial⟩) rfl rfl rfl rfl rfl rfl (T.leL (args := [PV.ptr 0 0, PV.f (.agg [encI 8, encI 0, encI 0, encI 0, encI 10, FV.v (.slice none 0 0), FV.sl 1 false (List.map enc16 ([0] : List UInt16)), enc16 0, enc16 0]), pI 1]) (args' := [PV.ptr 0 0, PV.f (eRequest (⟨8, 0, 0, 0, 10, [], ([0] : List UInt16), 0, 0⟩ : TRequest)), pI 1]) ⟨le_refl _, ⟨le_F (FLe.agg ⟨FLe.refl _, FLe.refl _, FLe.refl _, FLe.refl _, FLe.refl _, FLe.nil 1 false, FLe.refl _, FLe.refl _, FLe.refl _, trivial⟩), ⟨le_refl _, trivial⟩⟩⟩ (w_count_Count_Do m e b (⟨8, 0, 0, 0, 10, [], ([0] : List UInt16), 0, 0⟩ : TRequest) 1 D2 hD2 (by first | omega | assumption | (simp; omega) | decide | (simp; done)) (by first | omega | assumption | (simp; omega) | decide | (simp; done)))) rfl (dist_of rfl) rfl rfl rfl rfl ?_)
          refine r_set [(0, pS 1 cl_ms encBo ms), (1, pS 1 cl_es encBo es), (2, pS 1 cl_bs encBo bs), (3, pI cl), (9, PV.ptr 0 0), (13, pN i), (28, pN i), (29, pS 1 cl_es encBo es), (30, pN es.length), (31, pB (decide (((i : Nat) : Int) < ((es.length : Nat) : Int)))), (34, pN i), (35, pS 1 cl_bs encBo bs), (36, pN bs.length), (37, pB (decide (((i : Nat) : Int) < ((bs.length : Nat) : Int)))), (40, pN i), (41, pB (decide (((i : Nat) : Int) < 60)))] [(0, .obj [pI (cC m D2.2), pI (cC e D2.2), pI (cC b D2.2)]), (2, oB false 1 enc16 ([0] : List UInt16)), (1, oB false 1 enc16 ([0] : List UInt16))] 3 ⟨rfl, rfl, rfl, rfl, rfl, rfl, rfl, rfl, rfl, rfl, rfl, rfl, rfl, rfl, rfl, rfl, trivial⟩ rfl rfl ?_
          refine r_end ?_
          refine q_then ?_
          refine w_R ?_
          refine qa hnt rfl rfl ?_
          refine qa hnt rfl rfl ?_
          refine qa hnt rfl rfl ?_
          refine r_end ?_
          refine q_block ?_
          refine q_then ?_
          refine w_R ?_
          refine qm hnt rfl rfl ?_
          refine qo hnt rfl (s_addN (a := i) (b := 1) rfl rfl (by omega) (by omega) (by omega) ?_)
          refine qa hnt rfl rfl ?_
          refine r_leC (n := 0) (j := 0) (y := pI 0) rfl rfl (le_of_eq (congrArg (fun z : Int => pI z) (show (cC m D2.2) = 0 by first | omega | (rw [cnt_11 hD1]; rfl) | (rw [cnt_10 hD2]; rfl)))) ?_
          refine r_leC (n := 0) (j := 1) (y := pI 0) rfl rfl (le_of_eq (congrArg (fun z : Int => pI z) (show (cC e D2.2) = 0 by first | omega | (rw [cnt_11 hD1]; rfl) | (rw [cnt_10 hD2]; rfl)))) ?_
          refine r_leC (n := 0) (j := 2) (y := pI 0) rfl rfl (le_of_eq (congrArg (fun z : Int => pI z) (show (cC b D2.2) = 0 by first | omega | (rw [cnt_11 hD1]; rfl) | (rw [cnt_10 hD2]; rfl)))) ?_
          refine r_end ?_
          refine q_then ?_
          refine ⟨(0), (0), (0), (i + 1), ?_, ?_, ⟨[(0, 0)], by rw [hk]; decide, ⟨⟨_, rfl, rfl, rfl⟩, ⟨_, rfl, rfl, rfl⟩, ⟨_, rfl, rfl, rfl⟩, ⟨_, rfl, rfl, rfl⟩, ⟨_, rfl, rfl, rfl⟩, ⟨_, rfl, rfl, rfl⟩, ⟨_, rfl, rfl, rfl⟩, ⟨_, rfl, rfl, rfl⟩, ⟨_, rfl, rfl, rfl⟩, trivial⟩, ⟨⟨_, _, rfl, rfl, rfl, rfl⟩, trivial⟩, by rw [hk]; decide⟩⟩
          ·
           omega
          · omega
         ·
          have c5_ := c5
          try simp only [sB] at c5
          refine w_skip ?_
          refine q_block ?_
          refine q_then ?_
          refine w_R ?_
          refine qm hnt rfl rfl ?_
          refine qo hnt rfl (s_addN (a := i) (b := 1) rfl rfl (by omega) (by omega) (by omega) ?_)
          refine qa hnt rfl rfl ?_
          refine r_end ?_
          refine q_then ?_
          refine ⟨(m), (e), (b), (i + 1), ?_, ?_, ⟨[(0, 0)], by rw [hk]; decide, ⟨⟨_, rfl, rfl, rfl⟩, ⟨_, rfl, rfl, rfl⟩, ⟨_, rfl, rfl, rfl⟩, ⟨_, rfl, rfl, rfl⟩, ⟨_, rfl, rfl, rfl⟩, ⟨_, rfl, rfl, rfl⟩, ⟨_, rfl, rfl, rfl⟩, ⟨_, rfl, rfl, rfl⟩, ⟨_, rfl, rfl, rfl⟩, trivial⟩, ⟨⟨_, _, rfl, rfl, rfl, rfl⟩, trivial⟩, by rw [hk]; decide⟩⟩
          ·
           omega
          · omega
     ·
      have c1_ := c1
      try simp only [sB] at c1
      refine w_exit ?_
      refine q_then_exit ?_
      refine q_then_exit ?_
      refine q_block_exit ?_
      refine q_then ?_
      refine w_seq ?_
      refine w_R ?_
      refine qm hnt rfl rfl ?_
      refine qo hnt rfl (s_callX (r2 := PV.tup [p16 (cntGet m e b 11), pB (cntOk 11)]) (nx1 := 1) (H2 := [(0, .obj [pI m, pI e, pI b])]) (H3 := [(0, .obj [pI m, pI e, pI b])]) [0] [.obj [pI m, pI e, pI b]] rfl rfl rfl (handed_of (by decide) ⟨rfl, trivial⟩) rfl rfl rfl rfl rfl rfl (w_count_Count_Get m e b 11) rfl (dist_of rfl) rfl rfl rfl rfl ?_)
      refine qm hnt rfl rfl ?_
      refine qo hnt rfl (s_extract rfl rfl ?_)
      refine qo hnt rfl (s_extract rfl rfl ?_)
      refine qa hnt rfl rfl ?_
      refine qa hnt rfl rfl ?_
      refine r_set [(9, PV.ptr 0 0), (10, pI m), (11, pI e), (12, pI b), (14, p16 (cntGet m e b 11))] [(0, .obj [pI m, pI e, pI b])] 1 ⟨rfl, rfl, rfl, rfl, rfl, trivial⟩ rfl rfl ?_
      refine r_end ?_
      refine q_then ?_
      refine w_seq ?_
      refine w_R ?_
      refine qm hnt rfl rfl ?_
      refine qo hnt rfl (s_callX (r2 := PV.tup [p16 (cntGet m e b 13), pB (cntOk 13)]) (nx1 := 1) (H2 := [(0, .obj [pI m, pI e, pI b])]) (H3 := [(0, .obj [pI m, pI e, pI b])]) [0] [.obj [pI m, pI e, pI b]] rfl rfl rfl (handed_of (by decide) ⟨rfl, trivial⟩) rfl rfl rfl rfl rfl rfl (w_count_Count_Get m e b 13) rfl (dist_of rfl) rfl rfl rfl rfl ?_)
      refine qm hnt rfl rfl ?_
      refine qo hnt rfl (s_extract rfl rfl ?_)
      refine qo hnt rfl (s_extract rfl rfl ?_)
      refine qa hnt rfl rfl ?_
      refine qa hnt rfl rfl ?_
      refine r_set [(9, PV.ptr 0 0), (10, pI m), (11, pI e), (12, pI b), (14, p16 (cntGet m e b 11)), (16, p16 (cntGet m e b 13))] [(0, .obj [pI m, pI e, pI b])] 1 ⟨rfl, rfl, rfl, rfl, rfl, rfl, trivial⟩ rfl rfl ?_
      refine r_end ?_
      refine q_then ?_
      refine w_seq ?_
      refine w_R ?_
      refine qm hnt rfl rfl ?_
      refine qo hnt rfl (s_callX (r2 := PV.tup [p16 (cntGet m e b 12), pB (cntOk 12)]) (nx1 := 1) (H2 := [(0, .obj [pI m, pI e, pI b])]) (H3 := [(0, .obj [pI m, pI e, pI b])]) [0] [.obj [pI m, pI e, pI b]] rfl rfl rfl (handed_of (by decide) ⟨rfl, trivial⟩) rfl rfl rfl rfl rfl rfl (w_count_Count_Get m e b 12) rfl (dist_of rfl) rfl rfl rfl rfl ?_)
      refine qm hnt rfl rfl ?_
      refine qo hnt rfl (s_extract rfl rfl ?_)
      refine qo hnt rfl (s_extract rfl rfl ?_)
      refine qa hnt rfl rfl ?_
      refine qa hnt rfl rfl ?_
      refine r_set [(10, pI m), (11, pI e), (12, pI b), (14, p16 (cntGet m e b 11)), (16, p16 (cntGet m e b 13)), (18, p16 (cntGet m e b 12))] [(0, .obj [pI m, pI e, pI b])] 1 ⟨rfl, rfl, rfl, rfl, rfl, rfl, trivial⟩ rfl rfl ?_
      refine r_end ?_
      refine q_then ?_
      refine w_seq ?_
      refine w_R ?_
      refine qm hnt rfl rfl ?_
      refine qo hnt rfl (s_cvN (a := UInt16.toNat (cntGet m e b 11)) tab_30 tab_3 rfl rfl rfl (by omega) (by have := lt16 (cntGet m e b 11); omega) ?_)
      refine qm hnt rfl rfl ?_
      refine qo hnt rfl (s_eql rfl rfl ?_)
      refine qm hnt rfl rfl ?_
      refine r_if tabOk hnt rfl rfl rfl (fun g4 => ?_) (fun g4 => ?_)
      ·
       have g4' := g4
       try simp only [sB] at g4'
       refine qm hnt rfl rfl ?_
       refine ry hnt rfl rfl rfl g4 ?_
       refine qo hnt rfl (s_cvN (a := UInt16.toNat (cntGet m e b 13)) tab_30 tab_3 rfl rfl rfl (by omega) (by have := lt16 (cntGet m e b 13); omega) ?_)
       refine ry hnt rfl rfl rfl g4 ?_
       refine qm hnt rfl rfl ?_
       refine ry hnt rfl rfl rfl g4 ?_
       refine qo hnt rfl (s_eql rfl rfl ?_)
       refine qo hnt rfl (s_pick_t rfl g4 rfl ?_)
       refine qm hnt rfl rfl ?_
       refine r_if tabOk hnt rfl rfl rfl (fun g5 => ?_) (fun g5 => ?_)
       ·
        have g5' := g5
        try simp only [sB] at g5'
        refine qm hnt rfl rfl ?_
        refine ry hnt rfl rfl rfl g5 ?_
        refine qo hnt rfl (s_cvN (a := UInt16.toNat (cntGet m e b 12)) tab_30 tab_3 rfl rfl rfl (by omega) (by have := lt16 (cntGet m e b 12); omega) ?_)
        refine ry hnt rfl rfl rfl g5 ?_
        refine qm hnt rfl rfl ?_
        refine ry hnt rfl rfl rfl g5 ?_
        refine qo hnt rfl (s_eql rfl rfl ?_)
        refine qo hnt rfl (s_pick_t rfl g5 rfl ?_)
        refine qm hnt rfl rfl ?_
        refine r_if tabOk hnt rfl rfl rfl (fun g6 => ?_) (fun g6 => ?_)
        ·
         have g6' := g6
         try simp only [sB] at g6'
         refine qo hnt rfl (s_callF rfl rfl rfl (w_burgagelaw19_known) rfl ?_)
         refine qo hnt rfl (s_pick_t rfl g6 rfl ?_)
         refine qa hnt rfl rfl ?_
         refine r_end ?_
         refine q_then ?_
         refine w_ret ?_
         exact fin_plain (ret_tmp rfl ret_nil) rfl rfl ⟨rfl, rfl, rfl⟩
        ·
         exact absurd g6 (by exact not_dec3 (u16_nat _ (by omega)))
       ·
        exact absurd g5 (by exact not_dec3 (u16_nat _ (by omega)))
      ·
       exact absurd g4 (by exact not_dec3 (u16_nat _ (by omega)))
    ·
     have g3' := g3
     try simp only [sB] at g3'
     refine rn hnt rfl rfl rfl g3 ?_
     refine qo hnt rfl (s_pick_f rfl g3 rfl ?_)
     refine r_end ?_
     refine q_then ?_
     refine w_if rfl (fun e => absurd e (by decide)) (fun _ => ?_)
     refine w_exit ?_
     refine q_then_exit ?_
     refine q_then_exit ?_
     refine q_block_exit ?_
     refine q_then ?_
     refine w_seq ?_
     refine w_R ?_
     refine qm hnt rfl rfl ?_
     refine qo hnt rfl (s_callX (r2 := PV.tup [p16 (cntGet m e b 11), pB (cntOk 11)]) (nx1 := 1) (H2 := [(0, .obj [pI m, pI e, pI b])]) (H3 := [(0, .obj [pI m, pI e, pI b])]) [0] [.obj [pI m, pI e, pI b]] rfl rfl rfl (handed_of (by decide) ⟨rfl, trivial⟩) rfl rfl rfl rfl rfl rfl (w_count_Count_Get m e b 11) rfl (dist_of rfl) rfl rfl rfl rfl ?_)
     refine qm hnt rfl rfl ?_
     refine qo hnt rfl (s_extract rfl rfl ?_)
     refine qo hnt rfl (s_extract rfl rfl ?_)
     refine qa hnt rfl rfl ?_
     refine qa hnt rfl rfl ?_
     refine r_set [(9, PV.ptr 0 0), (10, pI m), (11, pI e), (12, pI b), (14, p16 (cntGet m e b 11))] [(0, .obj [pI m, pI e, pI b])] 1 ⟨rfl, rfl, rfl, rfl, rfl, trivial⟩ rfl rfl ?_
     refine r_end ?_
     refine q_then ?_
     refine w_seq ?_
     refine w_R ?_
     refine qm hnt rfl rfl ?_
     refine qo hnt rfl (s_callX (r2 := PV.tup [p16 (cntGet m e b 13), pB (cntOk 13)]) (nx1 := 1) (H2 := [(0, .obj [pI m, pI e, pI b])]) (H3 := [(0, .obj [pI m, pI e, pI b])]) [0] [.obj [pI m, pI e, pI b]] rfl rfl rfl (handed_of (by decide) ⟨rfl, trivial⟩) rfl rfl rfl rfl rfl rfl (w_count_Count_Get m e b 13) rfl (dist_of rfl) rfl rfl rfl rfl ?_)
     refine qm hnt rfl rfl ?_
     refine qo hnt rfl (s_extract rfl rfl ?_)
     refine qo hnt rfl (s_extract rfl rfl ?_)
     refine qa hnt rfl rfl ?_
     refine qa hnt rfl rfl ?_
     refine r_set [(9, PV.ptr 0 0), (10, pI m), (11, pI e), (12, pI b), (14, p16 (cntGet m e b 11)), (16, p16 (cntGet m e b 13))] [(0, .obj [pI m, pI e, pI b])] 1 ⟨rfl, rfl, rfl, rfl, rfl, rfl, trivial⟩ rfl rfl ?_
     refine r_end ?_
     refine q_then ?_
     refine w_seq ?_
     refine w_R ?_
     refine qm hnt rfl rfl ?_
     refine qo hnt rfl (s_callX (r2 := PV.tup [p16 (cntGet m e b 12), pB (cntOk 12)]) (nx1 := 1) (H2 := [(0, .obj [pI m, pI e, pI b])]) (H3 := [(0, .obj [pI m, pI e, pI b])]) [0] [.obj [pI m, pI e, pI b]] rfl rfl rfl (handed_of (by decide) ⟨rfl, trivial⟩) rfl rfl rfl rfl rfl rfl (w_count_Count_Get m e b 12) rfl (dist_of rfl) rfl rfl rfl rfl ?_)
     refine qm hnt rfl rfl ?_
     refine qo hnt rfl (s_extract rfl rfl ?_)
     refine qo hnt rfl (s_extract rfl rfl ?_)
     refine qa hnt rfl rfl ?_
     refine qa hnt rfl rfl ?_
     refine r_set [(10, pI m), (11, pI e), (12, pI b), (14, p16 (cntGet m e b 11)), (16, p16 (cntGet m e b 13)), (18, p16 (cntGet m e b 12))] [(0, .obj [pI m, pI e, pI b])] 1 ⟨rfl, rfl, rfl, rfl, rfl, rfl, trivial⟩ rfl rfl ?_
     refine r_end ?_
     refine q_then ?_
     refine w_seq ?_
     refine w_R ?_
     refine qm hnt rfl rfl ?_
     refine qo hnt rfl (s_cvN (a := UInt16.toNat (cntGet m e b 11)) tab_30 tab_3 rfl rfl rfl (by omega) (by have := lt16 (cntGet m e b 11); omega) ?_)
     refine qm hnt rfl rfl ?_
     refine qo hnt rfl (s_eql rfl rfl ?_)
     refine qm hnt rfl rfl ?_
     refine r_if tabOk hnt rfl rfl rfl (fun g7 => ?_) (fun g7 => ?_)
     ·
      have g7' := g7
      try simp only [sB] at g7'
      refine qm hnt rfl rfl ?_
      refine ry hnt rfl rfl rfl g7 ?_
      refine qo hnt rfl (s_cvN (a := UInt16.toNat (cntGet m e b 13)) tab_30 tab_3 rfl rfl rfl (by omega) (by have := lt16 (cntGet m e b 13); omega) ?_)
      refine ry hnt rfl rfl rfl g7 ?_
      refine qm hnt rfl rfl ?_
      refine ry hnt rfl rfl rfl g7 ?_
      refine qo hnt rfl (s_eql rfl rfl ?_)
      refine qo hnt rfl (s_pick_t rfl g7 rfl ?_)
      refine qm hnt rfl rfl ?_
      refine r_if tabOk hnt rfl rfl rfl (fun g8 => ?_) (fun g8 => ?_)
      ·
       have g8' := g8
       try simp only [sB] at g8'
       refine qm hnt rfl rfl ?_
       refine ry hnt rfl rfl rfl g8 ?_
       refine qo hnt rfl (s_cvN (a := UInt16.toNat (cntGet m e b 12)) tab_30 tab_3 rfl rfl rfl (by omega) (by have := lt16 (cntGet m e b 12); omega) ?_)
       refine ry hnt rfl rfl rfl g8 ?_
       refine qm hnt rfl rfl ?_
       refine ry hnt rfl rfl rfl g8 ?_
       refine qo hnt rfl (s_eql rfl rfl ?_)
       refine qo hnt rfl (s_pick_t rfl g8 rfl ?_)
       refine qm hnt rfl rfl ?_
       refine r_if tabOk hnt rfl rfl rfl (fun g9 => ?_) (fun g9 => ?_)
       ·
        have g9' := g9
        try simp only [sB] at g9'
        refine qo hnt rfl (s_callF rfl rfl rfl (w_burgagelaw19_known) rfl ?_)
        refine qo hnt rfl (s_pick_t rfl g9 rfl ?_)
        refine qa hnt rfl rfl ?_
        refine r_end ?_
        refine q_then ?_
        refine w_ret ?_
        exact fin_plain (ret_tmp rfl ret_nil) rfl rfl ⟨rfl, rfl, rfl⟩
       ·
        exact absurd g9 (by exact not_dec3 (u16_nat _ (by omega)))
      ·
       exact absurd g8 (by exact not_dec3 (u16_nat _ (by omega)))
     ·
      exact absurd g7 (by exact not_dec3 (u16_nat _ (by omega)))
   ·
    have g2' := g2
    try simp only [sB] at g2'
    refine rn hnt rfl rfl rfl g2 ?_
    refine rn hnt rfl rfl rfl g2 ?_
    refine rn hnt rfl rfl rfl g2 ?_
    refine qo hnt rfl (s_pick_f rfl g2 rfl ?_)
    refine qm hnt rfl rfl ?_
    refine rn hnt rfl rfl rfl rfl ?_
    refine rn hnt rfl rfl rfl rfl ?_
    refine qo hnt rfl (s_pick_f rfl rfl rfl ?_)
    refine r_end ?_
    refine q_then ?_
    refine w_if rfl (fun e => absurd e (by decide)) (fun _ => ?_)
    refine w_exit ?_
    refine q_then_exit ?_
    refine q_then_exit ?_
    refine q_block_exit ?_
    refine q_then ?_
    refine w_seq ?_
    refine w_R ?_
    refine qm hnt rfl rfl ?_
    refine qo hnt rfl (s_callX (r2 := PV.tup [p16 (cntGet m e b 11), pB (cntOk 11)]) (nx1 := 1) (H2 := [(0, .obj [pI m, pI e, pI b])]) (H3 := [(0, .obj [pI m, pI e, pI b])]) [0] [.obj [pI m, pI e, pI b]] rfl rfl rfl (handed_of (by decide) ⟨rfl, trivial⟩) rfl rfl rfl rfl rfl rfl (w_count_Count_Get m e b 11) rfl (dist_of rfl) rfl rfl rfl rfl ?_)
    refine qm hnt rfl rfl ?_
    refine qo hnt rfl (s_extract rfl rfl ?_)
    refine qo hnt rfl (s_extract rfl rfl ?_)
    refine qa hnt rfl rfl ?_
    refine qa hnt rfl rfl ?_
    refine r_set [(9, PV.ptr 0 0), (10, pI m), (11, pI e), (12, pI b), (14, p16 (cntGet m e b 11))] [(0, .obj [pI m, pI e, pI b])] 1 ⟨rfl, rfl, rfl, rfl, rfl, trivial⟩ rfl rfl ?_
    refine r_end ?_
    refine q_then ?_
    refine w_seq ?_
    refine w_R ?_
    refine qm hnt rfl rfl ?_
    refine qo hnt rfl (s_callX (r2 := PV.tup [p16 (cntGet m e b 13), pB (cntOk 13)]) (nx1 := 1) (H2 := [(0, .obj [pI m, pI e, pI b])]) (H3 := [(0, .obj [pI m, pI e, pI b])]) [0] [.obj [pI m, pI e, pI b]] rfl rfl rfl (handed_of (by decide) ⟨rfl, trivial⟩) rfl rfl rfl rfl rfl rfl (w_count_Count_Get m e b 13) rfl (dist_of rfl) rfl rfl rfl rfl ?_)
    refine qm hnt rfl rfl ?_
    refine qo hnt rfl (s_extract rfl rfl ?_)
    refine qo hnt rfl (s_extract rfl rfl ?_)
    refine qa hnt rfl rfl ?_
    refine qa hnt rfl rfl ?_
    refine r_set [(9, PV.ptr 0 0), (10, pI m), (11, pI e), (12, pI b), (14, p16 (cntGet m e b 11)), (16, p16 (cntGet m e b 13))] [(0, .obj [pI m, pI e, pI b])] 1 ⟨rfl, rfl, rfl, rfl, rfl, rfl, trivial⟩ rfl rfl ?_
    refine r_end ?_
    refine q_then ?_
    refine w_seq ?_
    refine w_R ?_
    refine qm hnt rfl rfl ?_
    refine qo hnt rfl (s_callX (r2 := PV.tup [p16 (cntGet m e b 12), pB (cntOk 12)]) (nx1 := 1) (H2 := [(0, .obj [pI m, pI e, pI b])]) (H3 := [(0, .obj [pI m, pI e, pI b])]) [0] [.obj [pI m, pI e, pI b]] rfl rfl rfl (handed_of (by decide) ⟨rfl, trivial⟩) rfl rfl rfl rfl rfl rfl (w_count_Count_Get m e b 12) rfl (dist_of rfl) rfl rfl rfl rfl ?_)
    refine qm hnt rfl rfl ?_
    refine qo hnt rfl (s_extract rfl rfl ?_)
    refine qo hnt rfl (s_extract rfl rfl ?_)
    refine qa hnt rfl rfl ?_
    refine qa hnt rfl rfl ?_
    refine r_set [(10, pI m), (11, pI e), (12, pI b), (14, p16 (cntGet m e b 11)), (16, p16 (cntGet m e b 13)), (18, p16 (cntGet m e b 12))] [(0, .obj [pI m, pI e, pI b])] 1 ⟨rfl, rfl, rfl, rfl, rfl, rfl, trivial⟩ rfl rfl ?_
    refine r_end ?_
    refine q_then ?_
    refine w_seq ?_
    refine w_R ?_
    refine qm hnt rfl rfl ?_
    refine qo hnt rfl (s_cvN (a := UInt16.toNat (cntGet m e b 11)) tab_30 tab_3 rfl rfl rfl (by omega) (by have := lt16 (cntGet m e b 11); omega) ?_)
    refine qm hnt rfl rfl ?_
    refine qo hnt rfl (s_eql rfl rfl ?_)
    refine qm hnt rfl rfl ?_
    refine r_if tabOk hnt rfl rfl rfl (fun g10 => ?_) (fun g10 => ?_)
    ·
     have g10' := g10
     try simp only [sB] at g10'
     refine qm hnt rfl rfl ?_
     refine ry hnt rfl rfl rfl g10 ?_
     refine qo hnt rfl (s_cvN (a := UInt16.toNat (cntGet m e b 13)) tab_30 tab_3 rfl rfl rfl (by omega) (by have := lt16 (cntGet m e b 13); omega) ?_)
     refine ry hnt rfl rfl rfl g10 ?_
     refine qm hnt rfl rfl ?_
     refine ry hnt rfl rfl rfl g10 ?_
     refine qo hnt rfl (s_eql rfl rfl ?_)
     refine qo hnt rfl (s_pick_t rfl g10 rfl ?_)
     refine qm hnt rfl rfl ?_
     refine r_if tabOk hnt rfl rfl rfl (fun g11 => ?_) (fun g11 => ?_)
     ·
      have g11' := g11
      try simp only [sB] at g11'
      refine qm hnt rfl rfl ?_
      refine ry hnt rfl rfl rfl g11 ?_
      refine qo hnt rfl (s_cvN (a := UInt16.toNat (cntGet m e b 12)) tab_30 tab_3 rfl rfl rfl (by omega) (by have := lt16 (cntGet m e b 12); omega) ?_)
      refine ry hnt rfl rfl rfl g11 ?_
      refine qm hnt rfl rfl ?_
      refine ry hnt rfl rfl rfl g11 ?_
      refine qo hnt rfl (s_eql rfl rfl ?_)
      refine qo hnt rfl (s_pick_t rfl g11 rfl ?_)
      refine qm hnt rfl rfl ?_
      refine r_if tabOk hnt rfl rfl rfl (fun g12 => ?_) (fun g12 => ?_)
      ·
       have g12' := g12
       try simp only [sB] at g12'
       refine qo hnt rfl (s_callF rfl rfl rfl (w_burgagelaw19_known) rfl ?_)
       refine qo hnt rfl (s_pick_t rfl g12 rfl ?_)
       refine qa hnt rfl rfl ?_
       refine r_end ?_
       refine q_then ?_
       refine w_ret ?_
       exact fin_plain (ret_tmp rfl ret_nil) rfl rfl ⟨rfl, rfl, rfl⟩
      ·
       exact absurd g12 (by exact not_dec3 (u16_nat _ (by omega)))
     ·
      exact absurd g11 (by exact not_dec3 (u16_nat _ (by omega)))
    ·
     exact absurd g10 (by exact not_dec3 (u16_nat _ (by omega)))
  ·
   have g1' := g1
   try simp only [sB] at g1'
   refine rn hnt rfl rfl rfl g1 ?_
   refine rn hnt rfl rfl rfl g1 ?_
   refine rn hnt rfl rfl rfl g1 ?_
   refine qo hnt rfl (s_pick_f rfl g1 rfl ?_)
   refine qm hnt rfl rfl ?_
   refine rn hnt rfl rfl rfl rfl ?_
   refine rn hnt rfl rfl rfl rfl ?_
   refine rn hnt rfl rfl rfl rfl ?_
   refine rn hnt rfl rfl rfl rfl ?_
   refine qo hnt rfl (s_pick_f rfl rfl rfl ?_)
   refine qm hnt rfl rfl ?_
   refine rn hnt rfl rfl rfl rfl ?_
   refine rn hnt rfl rfl rfl rfl ?_
   refine qo hnt rfl (s_pick_f rfl rfl rfl ?_)
   refine r_end ?_
   refine q_then ?_
   refine w_if rfl (fun e => absurd e (by decide)) (fun _ => ?_)
   refine w_exit ?_
   refine q_then_exit ?_
   refine q_then_exit ?_
   refine q_block_exit ?_
   refine q_then ?_
   refine w_seq ?_
   refine w_R ?_
   refine qm hnt rfl rfl ?_
   refine qo hnt rfl (s_callX (r2 := PV.tup [p16 (cntGet m e b 11), pB (cntOk 11)]) (nx1 := 1) (H2 := [(0, .obj [pI m, pI e, pI b])]) (H3 := [(0, .obj [pI m, pI e, pI b])]) [0] [.obj [pI m, pI e, pI b]] rfl rfl rfl (handed_of (by decide) ⟨rfl, trivial⟩) rfl rfl rfl rfl rfl rfl (w_count_Count_Get m e b 11) rfl (dist_of rfl) rfl rfl rfl rfl ?_)
   refine qm hnt rfl rfl ?_
   refine qo hnt rfl (s_extract rfl rfl ?_)
   refine qo hnt rfl (s_extract rfl rfl ?_)
   refine qa hnt rfl rfl ?_
   refine qa hnt rfl rfl ?_
   refine r_set [(9, PV.ptr 0 0), (10, pI m), (11, pI e), (12, pI b), (14, p16 (cntGet m e b 11))] [(0, .obj [pI m, pI e, pI b])] 1 ⟨rfl, rfl, rfl, rfl, rfl, trivial⟩ rfl rfl ?_
   refine r_end ?_
   refine q_then ?_
   refine w_seq ?_
   refine w_R ?_
   refine qm hnt rfl rfl ?_
   refine qo hnt rfl (s_callX (r2 := PV.tup [p16 (cntGet m e b 13), pB (cntOk 13)]) (nx1 := 1) (H2 := [(0, .obj [pI m, pI e, pI b])]) (H3 := [(0, .obj [pI m, pI e, pI b])]) [0] [.obj [pI m, pI e, pI b]] rfl rfl rfl (handed_of (by decide) ⟨rfl, trivial⟩) rfl rfl rfl rfl rfl rfl (w_count_Count_Get m e b 13) rfl (dist_of rfl) rfl rfl rfl rfl ?_)
   refine qm hnt rfl rfl ?_
   refine qo hnt rfl (s_extract rfl rfl ?_)
   refine qo hnt rfl (s_extract rfl rfl ?_)
   refine qa hnt rfl rfl ?_
   refine qa hnt rfl rfl ?_
   refine r_set [(9, PV.ptr 0 0), (10, pI m), (11, pI e), (12, pI b), (14, p16 (cntGet m e b 11)), (16, p16 (cntGet m e b 13))] [(0, .obj [pI m, pI e, pI b])] 1 ⟨rfl, rfl, rfl, rfl, rfl, rfl, trivial⟩ rfl rfl ?_
   refine r_end ?_
   refine q_then ?_
   refine w_seq ?_
   refine w_R ?_
   refine qm hnt rfl rfl ?_
   refine qo hnt rfl (s_callX (r2 := PV.tup [p16 (cntGet m e b 12), pB (cntOk 12)]) (nx1 := 1) (H2 := [(0, .obj [pI m, pI e, pI b])]) (H3 := [(0, .obj [pI m, pI e, pI b])]) [0] [.obj [pI m, pI e, pI b]] rfl rfl rfl (handed_of (by decide) ⟨rfl, trivial⟩) rfl rfl rfl rfl rfl rfl (w_count_Count_Get m e b 12) rfl (dist_of rfl) rfl rfl rfl rfl ?_)
   refine qm hnt rfl rfl ?_
   refine qo hnt rfl (s_extract rfl rfl ?_)
   refine qo hnt rfl (s_extract rfl rfl ?_)
   refine qa hnt rfl rfl ?_
   refine qa hnt rfl rfl ?_
   refine r_set [(10, pI m), (11, pI e), (12, pI b), (14, p16 (cntGet m e b 11)), (16, p16 (cntGet m e b 13)), (18, p16 (cntGet m e b 12))] [(0, .obj [pI m, pI e, pI b])] 1 ⟨rfl, rfl, rfl, rfl, rfl, rfl, trivial⟩ rfl rfl ?_
   refine r_end ?_
   refine q_then ?_
   refine w_seq ?_
   refine w_R ?_
   refine qm hnt rfl rfl ?_
   refine qo hnt rfl (s_cvN (a := UInt16.toNat (cntGet m e b 11)) tab_30 tab_3 rfl rfl rfl (by omega) (by have := lt16 (cntGet m e b 11); omega) ?_)
   refine qm hnt rfl rfl ?_
   refine qo hnt rfl (s_eql rfl rfl ?_)
   refine qm hnt rfl rfl ?_
   refine r_if tabOk hnt rfl rfl rfl (fun g13 => ?_) (fun g13 => ?_)
   ·
    have g13' := g13
    try simp only [sB] at g13'
    refine qm hnt rfl rfl ?_
    refine ry hnt rfl rfl rfl g13 ?_
    refine qo hnt rfl (s_cvN (a := UInt16.toNat (cntGet m e b 13)) tab_30 tab_3 rfl rfl rfl (by omega) (by have := lt16 (cntGet m e b 13); omega) ?_)
    refine ry hnt rfl rfl rfl g13 ?_
    refine qm hnt rfl rfl ?_
    refine ry hnt rfl rfl rfl g13 ?_
    refine qo hnt rfl (s_eql rfl rfl ?_)
    refine qo hnt rfl (s_pick_t rfl g13 rfl ?_)
    refine qm hnt rfl rfl ?_
    refine r_if tabOk hnt rfl rfl rfl (fun g14 => ?_) (fun g14 => ?_)
    ·
     have g14' := g14
     try simp only [sB] at g14'
     refine qm hnt rfl rfl ?_
     refine ry hnt rfl rfl rfl g14 ?_
     refine qo hnt rfl (s_cvN (a := UInt16.toNat (cntGet m e b 12)) tab_30 tab_3 rfl rfl rfl (by omega) (by have := lt16 (cntGet m e b 12); omega) ?_)
     refine ry hnt rfl rfl rfl g14 ?_
     refine qm hnt rfl rfl ?_
     refine ry hnt rfl rfl rfl g14 ?_
     refine qo hnt rfl (s_eql rfl rfl ?_)
     refine qo hnt rfl (s_pick_t rfl g14 rfl ?_)
     refine qm hnt rfl rfl ?_
     refine r_if tabOk hnt rfl rfl rfl (fun g15 => ?_) (fun g15 => ?_)
     ·
      have g15' := g15
      try simp only [sB] at g15'
      refine qo hnt rfl (s_callF rfl rfl rfl (w_burgagelaw19_known) rfl ?_)
      refine qo hnt rfl (s_pick_t rfl g15 rfl ?_)
      refine qa hnt rfl rfl ?_
      refine r_end ?_
      refine q_then ?_
      refine w_ret ?_
      exact fin_plain (ret_tmp rfl ret_nil) rfl rfl ⟨rfl, rfl, rfl⟩
     ·
      exact absurd g15 (by exact not_dec3 (u16_nat _ (by omega)))
    ·
     exact absurd g14 (by exact not_dec3 (u16_nat _ (by omega)))
   ·
    exact absurd g13 (by exact not_dec3 (u16_nat _ (by omega)))

theorem w_burgagelaw19_CountHolds (n : Int) (k : Int) (hn : -9223372036854775808 ≤ n ∧ n ≤ 9223372036854775807) :
    T Try.prog 6 [pI n, pI k] 0 [] (Ret (pB true) 0 []) := by
 refine t_fun tabOk (n := 73) (rs := [.tmp 4]) Try.func6 rfl rfl rfl rfl (Nat.le_of_ble_eq_true rfl) ?_
 intro c hnt hk
 refine w_seq ?_
 refine w_R ?_
 refine qa hnt rfl rfl ?_
 refine r_end ?_
 refine q_then ?_
 refine w_seq ?_
 refine w_R ?_
 refine qo hnt rfl (s_callX (r2 := PV.ptr 0 0) (nx1 := 1) (H2 := []) (H3 := [(0, .obj [pI 0, pI 0, pI 0])]) [] [] rfl rfl rfl (handed_of (by decide) trivial) rfl rfl rfl rfl rfl rfl (w_count_New) rfl (dist_of rfl) rfl rfl rfl rfl ?_)
 refine qa hnt rfl rfl ?_
 refine r_set [(0, pI n), (1, pI k), (5, PV.ptr 0 0)] [(0, .obj [pI 0, pI 0, pI 0])] 1 ⟨rfl, rfl, rfl, trivial⟩ rfl rfl ?_
 refine r_end ?_
 refine q_then ?_
 refine w_seq ?_
 refine w_seq ?_
 refine w_R ?_
 refine qm hnt rfl rfl ?_
 refine qo hnt rfl (s_ptrnil tab_38 rfl rfl trivial ?_)
 refine r_end ?_
 refine q_then ?_
 refine w_if rfl (fun e => absurd e (by decide)) (fun _ => ?_)
 refine w_skip ?_
 refine q_then ?_
 refine w_seq ?_
 refine w_R ?_
 refine qm hnt rfl rfl ?_
 refine qo hnt rfl (s_maskI 16 (by decide) rfl rfl (by decide) ?_)
 refine qm hnt rfl rfl ?_
 refine qo hnt rfl (s_maskI 16 (by decide) rfl rfl (by decide) ?_)
 refine qa hnt rfl rfl ?_
 refine qa hnt rfl rfl ?_
 refine r_end ?_
 refine q_then ?_
 refine w_seq ?_
 refine w_R ?_
 refine qm hnt rfl rfl ?_
 refine qm hnt rfl rfl ?_
 refine qo hnt rfl (s_callX (r2 := PV.tup []) (nx1 := 1) (H2 := [(0, .obj [pI 0, pI 0, pI 0])]) (H3 := [(0, .obj [pI 0, pI 0, pI (0 + (max 0 (min (((n % 2 ^ 16).toNat : Nat) : Int) (1073741824 - 0))))])]) [0] [.obj [pI 0, pI 0, pI 0]] rfl rfl rfl (handed_of (by decide) ⟨rfl, trivial⟩) rfl rfl rfl rfl rfl rfl (w_count_Count_Bad 0 0 0 (((n % 2 ^ 16).toNat : Nat) : Int) (by first | omega | assumption | (simp; omega) | decide | (simp; done)) (by first | omega | assumption | (simp; omega) | decide | (simp; done))) rfl (dist_of rfl) rfl rfl rfl rfl ?_)
 refine r_set [(5, PV.ptr 0 0), (6, pN ((n % 2 ^ 16).toNat)), (7, pN ((k % 2 ^ 16).toNat))] [(0, .obj [pI 0, pI 0, pI (0 + (max 0 (min (((n % 2 ^ 16).toNat : Nat) : Int) (1073741824 - 0))))])] 1 ⟨rfl, rfl, rfl, trivial⟩ rfl rfl ?_
 refine r_end ?_
 refine q_then ?_
 refine w_seq ?_
 refine w_leC (n := 0) (j := 2) (y := pI ((n % 2 ^ 16).toNat)) rfl rfl (le_of_eq (congrArg (fun z : Int => pI z) (show (0 + (max 0 (min (((n % 2 ^ 16).toNat : Nat) : Int) (1073741824 - 0)))) = ((n % 2 ^ 16).toNat) by omega))) ?_
 refine w_R ?_
 refine qm hnt rfl rfl ?_
 refine qm hnt rfl rfl ?_
 refine qo hnt rfl (s_subi (r := (-1) - (((k % 2 ^ 16).toNat : Nat) : Int)) rfl rfl rfl (by omega) ?_)
 refine qo hnt rfl (s_callX (r2 := PV.tup []) (nx1 := 1) (H2 := [(0, .obj [pI 0, pI 0, pI ((n % 2 ^ 16).toNat)])]) (H3 := [(0, .obj [pI 0, pI 0, pI (((n % 2 ^ 16).toNat) + (max 0 (min ((-1) - (((k % 2 ^ 16).toNat : Nat) : Int)) (1073741824 - ((n % 2 ^ 16).toNat)))))])]) [0] [.obj [pI 0, pI 0, pI ((n % 2 ^ 16).toNat)]] rfl rfl rfl (handed_of (by decide) ⟨rfl, trivial⟩) rfl rfl rfl rfl rfl rfl (w_count_Count_Bad 0 0 ((n % 2 ^ 16).toNat) ((-1) - (((k % 2 ^ 16).toNat : Nat) : Int)) (by first | omega | assumption | (simp; omega) | decide | (simp; done)) (by first | omega | assumption | (simp; omega) | decide | (simp; done))) rfl (dist_of rfl) rfl rfl rfl rfl ?_)
 refine r_set [(5, PV.ptr 0 0), (6, pN ((n % 2 ^ 16).toNat)), (7, pN ((k % 2 ^ 16).toNat))] [(0, .obj [pI 0, pI 0, pI (((n % 2 ^ 16).toNat) + (max 0 (min ((-1) - (((k % 2 ^ 16).toNat : Nat) : Int)) (1073741824 - ((n % 2 ^ 16).toNat)))))])] 1 ⟨rfl, rfl, rfl, trivial⟩ rfl rfl ?_
 refine r_end ?_
 refine q_then ?_
 refine w_seq ?_
 refine w_leC (n := 0) (j := 2) (y := pI ((n % 2 ^ 16).toNat)) rfl rfl (le_of_eq (congrArg (fun z : Int => pI z) (show (((n % 2 ^ 16).toNat) + (max 0 (min ((-1) - (((k % 2 ^ 16).toNat : Nat) : Int)) (1073741824 - ((n % 2 ^ 16).toNat))))) = ((n % 2 ^ 16).toNat) by omega))) ?_
 refine w_R ?_
 refine qm hnt rfl rfl ?_
 refine qm hnt rfl rfl ?_
 refine qo hnt rfl (s_callX (r2 := PV.tup []) (nx1 := 1) (H2 := [(0, .obj [pI 0, pI 0, pI ((n % 2 ^ 16).toNat)])]) (H3 := [(0, .obj [pI 0, pI 0, pI (((n % 2 ^ 16).toNat) + (max 0 (min (((k % 2 ^ 16).toNat : Nat) : Int) (1073741824 - ((n % 2 ^ 16).toNat)))))])]) [0] [.obj [pI 0, pI 0, pI ((n % 2 ^ 16).toNat)]] rfl rfl rfl (handed_of (by decide) ⟨rfl, trivial⟩) rfl rfl rfl rfl rfl rfl (w_count_Count_Bad 0 0 ((n % 2 ^ 16).toNat) (((k % 2 ^ 16).toNat : Nat) : Int) (by first | omega | assumption | (simp; omega) | decide | (simp; done)) (by first | omega | assumption | (simp; omega) | decide | (simp; done))) rfl (dist_of rfl) rfl rfl rfl rfl ?_)
 refine r_set [(5, PV.ptr 0 0), (6, pN ((n % 2 ^ 16).toNat)), (7, pN ((k % 2 ^ 16).toNat))] [(0, .obj [pI 0, pI 0, pI (((n % 2 ^ 16).toNat) + (max 0 (min (((k % 2 ^ 16).toNat : Nat) : Int) (1073741824 - ((n % 2 ^ 16).toNat)))))])] 1 ⟨rfl, rfl, rfl, trivial⟩ rfl rfl ?_
 refine r_end ?_
 refine q_then ?_
 refine w_seq ?_
 refine w_leC (n := 0) (j := 2) (y := pI ((n % 2 ^ 16).toNat + (k % 2 ^ 16).toNat)) rfl rfl (le_of_eq (congrArg (fun z : Int => pI z) (show (((n % 2 ^ 16).toNat) + (max 0 (min (((k % 2 ^ 16).toNat : Nat) : Int) (1073741824 - ((n % 2 ^ 16).toNat))))) = ((n % 2 ^ 16).toNat + (k % 2 ^ 16).toNat) by omega))) ?_
 refine w_R ?_
 refine qm hnt rfl rfl ?_
 refine qo hnt rfl (s_callX (r2 := PV.tup [p16 (cntGet 0 0 ((n % 2 ^ 16).toNat + (k % 2 ^ 16).toNat) 12), pB (cntOk 12)]) (nx1 := 1) (H2 := [(0, .obj [pI 0, pI 0, pI ((n % 2 ^ 16).toNat + (k % 2 ^ 16).toNat)])]) (H3 := [(0, .obj [pI 0, pI 0, pI ((n % 2 ^ 16).toNat + (k % 2 ^ 16).toNat)])]) [0] [.obj [pI 0, pI 0, pI ((n % 2 ^ 16).toNat + (k % 2 ^ 16).toNat)]] rfl rfl rfl (handed_of (by decide) ⟨rfl, trivial⟩) rfl rfl rfl rfl rfl rfl (w_count_Count_Get 0 0 ((n % 2 ^ 16).toNat + (k % 2 ^ 16).toNat) 12) rfl (dist_of rfl) rfl rfl rfl rfl ?_)
 refine qm hnt rfl rfl ?_
 refine qo hnt rfl (s_extract rfl rfl ?_)
 refine qo hnt rfl (s_extract rfl rfl ?_)
 refine qa hnt rfl rfl ?_
 refine qa hnt rfl rfl ?_
 refine r_set [(5, PV.ptr 0 0), (6, pN ((n % 2 ^ 16).toNat)), (7, pN ((k % 2 ^ 16).toNat)), (8, p16 (cntGet 0 0 ((n % 2 ^ 16).toNat + (k % 2 ^ 16).toNat) 12))] [(0, .obj [pI 0, pI 0, pI ((n % 2 ^ 16).toNat + (k % 2 ^ 16).toNat)])] 1 ⟨rfl, rfl, rfl, rfl, trivial⟩ rfl rfl ?_
 refine r_end ?_
 refine q_then ?_
 refine w_seq ?_
 refine w_R ?_
 refine qm hnt rfl rfl ?_
 refine qo hnt rfl (s_callX (r2 := PV.tup []) (nx1 := 1) (H2 := [(0, .obj [pI 0, pI 0, pI ((n % 2 ^ 16).toNat + (k % 2 ^ 16).toNat)])]) (H3 := [(0, .obj [pI 0, pI 0, pI 0])]) [0] [.obj [pI 0, pI 0, pI ((n % 2 ^ 16).toNat + (k % 2 ^ 16).toNat)]] rfl rfl rfl (handed_of (by decide) ⟨rfl, trivial⟩) rfl rfl rfl rfl rfl rfl (w_count_Count_Clear 0 0 ((n % 2 ^ 16).toNat + (k % 2 ^ 16).toNat)) rfl (dist_of rfl) rfl rfl rfl rfl ?_)
 refine r_set [(5, PV.ptr 0 0), (6, pN ((n % 2 ^ 16).toNat)), (7, pN ((k % 2 ^ 16).toNat)), (8, p16 (cntGet 0 0 ((n % 2 ^ 16).toNat + (k % 2 ^ 16).toNat) 12))] [(0, .obj [pI 0, pI 0, pI 0])] 1 ⟨rfl, rfl, rfl, rfl, trivial⟩ rfl rfl ?_
 refine r_end ?_
 refine q_then ?_
 refine w_seq ?_
 refine w_R ?_
 refine qm hnt rfl rfl ?_
 refine qo hnt rfl (s_callX (r2 := PV.tup [p16 (cntGet 0 0 0 12), pB (cntOk 12)]) (nx1 := 1) (H2 := [(0, .obj [pI 0, pI 0, pI 0])]) (H3 := [(0, .obj [pI 0, pI 0, pI 0])]) [0] [.obj [pI 0, pI 0, pI 0]] rfl rfl rfl (handed_of (by decide) ⟨rfl, trivial⟩) rfl rfl rfl rfl rfl rfl (w_count_Count_Get 0 0 0 12) rfl (dist_of rfl) rfl rfl rfl rfl ?_)
 refine qm hnt rfl rfl ?_
 refine qo hnt rfl (s_extract rfl rfl ?_)
 refine qo hnt rfl (s_extract rfl rfl ?_)
 refine qa hnt rfl rfl ?_
 refine qa hnt rfl rfl ?_
 refine r_set [(5, PV.ptr 0 0), (6, pN ((n % 2 ^ 16).toNat)), (7, pN ((k % 2 ^ 16).toNat)), (8, p16 (cntGet 0 0 ((n % 2 ^ 16).toNat + (k % 2 ^ 16).toNat) 12)), (10, p16 (cntGet 0 0 0 12)), (11, pB (cntOk 12))] [(0, .obj [pI 0, pI 0, pI 0])] 1 ⟨rfl, rfl, rfl, rfl, rfl, rfl, trivial⟩ rfl rfl ?_
 refine r_end ?_
 refine q_then ?_
 refine w_seq ?_
 refine w_R ?_
 refine qm hnt rfl rfl ?_
 refine qo hnt rfl (s_callX (r2 := PV.tup []) (nx1 := 1) (H2 := [(0, .obj [pI 0, pI 0, pI 0])]) (H3 := [(0, .obj [pI 0, pI 0, pI (0 + (max 0 (min 9223372036854775807 (1073741824 - 0))))])]) [0] [.obj [pI 0, pI 0, pI 0]] rfl rfl rfl (handed_of (by decide) ⟨rfl, trivial⟩) rfl rfl rfl rfl rfl rfl (w_count_Count_Bad 0 0 0 9223372036854775807 (by first | omega | assumption | (simp; omega) | decide | (simp; done)) (by first | omega | assumption | (simp; omega) | decide | (simp; done))) rfl (dist_of rfl) rfl rfl rfl rfl ?_)
 refine r_set [(5, PV.ptr 0 0), (6, pN ((n % 2 ^ 16).toNat)), (7, pN ((k % 2 ^ 16).toNat)), (8, p16 (cntGet 0 0 ((n % 2 ^ 16).toNat + (k % 2 ^ 16).toNat) 12)), (10, p16 (cntGet 0 0 0 12)), (11, pB (cntOk 12))] [(0, .obj [pI 0, pI 0, pI (0 + (max 0 (min 9223372036854775807 (1073741824 - 0))))])] 1 ⟨rfl, rfl, rfl, rfl, rfl, rfl, trivial⟩ rfl rfl ?_
 refine r_end ?_
 refine q_then ?_
 refine w_seq ?_
 refine w_leC (n := 0) (j := 2) (y := pI 1073741824) rfl rfl (le_of_eq (congrArg (fun z : Int => pI z) (show (0 + (max 0 (min 9223372036854775807 (1073741824 - 0)))) = 1073741824 by omega))) ?_
 refine w_R ?_
 refine qm hnt rfl rfl ?_
 refine qo hnt rfl (s_callX (r2 := PV.tup []) (nx1 := 1) (H2 := [(0, .obj [pI 0, pI 0, pI 1073741824])]) (H3 := [(0, .obj [pI 0, pI 0, pI (1073741824 + (max 0 (min 5 (1073741824 - 1073741824))))])]) [0] [.obj [pI 0, pI 0, pI 1073741824]] rfl rfl rfl (handed_of (by decide) ⟨rfl, trivial⟩) rfl rfl rfl rfl rfl rfl (w_count_Count_Bad 0 0 1073741824 5 (by first | omega | assumption | (simp; omega) | decide | (simp; done)) (by first | omega | assumption | (simp; omega) | decide | (simp; done))) rfl (dist_of rfl) rfl rfl rfl rfl ?_)
 refine r_set [(5, PV.ptr 0 0), (6, pN ((n % 2 ^ 16).toNat)), (7, pN ((k % 2 ^ 16).toNat)), (8, p16 (cntGet 0 0 ((n % 2 ^ 16).toNat + (k % 2 ^ 16).toNat) 12)), (10, p16 (cntGet 0 0 0 12)), (11, pB (cntOk 12))] [(0, .obj [pI 0, pI 0, pI (1073741824 + (max 0 (min 5 (1073741824 - 1073741824))))])] 1 ⟨rfl, rfl, rfl, rfl, rfl, rfl, trivial⟩ rfl rfl ?_
 refine r_end ?_
 refine q_then ?_
 refine w_seq ?_
 refine w_leC (n := 0) (j := 2) (y := pI 1073741824) rfl rfl (le_of_eq (congrArg (fun z : Int => pI z) (show (1073741824 + (max 0 (min 5 (1073741824 - 1073741824)))) = 1073741824 by omega))) ?_
 refine w_R ?_
 refine qm hnt rfl rfl ?_
 refine qo hnt rfl (s_callX (r2 := PV.tup [p16 (cntGet 0 0 1073741824 12), pB (cntOk 12)]) (nx1 := 1) (H2 := [(0, .obj [pI 0, pI 0, pI 1073741824])]) (H3 := [(0, .obj [pI 0, pI 0, pI 1073741824])]) [0] [.obj [pI 0, pI 0, pI 1073741824]] rfl rfl rfl (handed_of (by decide) ⟨rfl, trivial⟩) rfl rfl rfl rfl rfl rfl (w_count_Count_Get 0 0 1073741824 12) rfl (dist_of rfl) rfl rfl rfl rfl ?_)
 refine qm hnt rfl rfl ?_
 refine qo hnt rfl (s_extract rfl rfl ?_)
 refine qo hnt rfl (s_extract rfl rfl ?_)
 refine qa hnt rfl rfl ?_
 refine qa hnt rfl rfl ?_
 refine r_set [(6, pN ((n % 2 ^ 16).toNat)), (7, pN ((k % 2 ^ 16).toNat)), (8, p16 (cntGet 0 0 ((n % 2 ^ 16).toNat + (k % 2 ^ 16).toNat) 12)), (10, p16 (cntGet 0 0 0 12)), (11, pB (cntOk 12)), (12, p16 (cntGet 0 0 1073741824 12))] [(0, .obj [pI 0, pI 0, pI 1073741824])] 1 ⟨rfl, rfl, rfl, rfl, rfl, rfl, trivial⟩ rfl rfl ?_
 refine r_end ?_
 refine q_then ?_
 refine w_seq ?_
 refine w_R ?_
 refine qm hnt rfl rfl ?_
 refine qo hnt rfl (s_cvN (a := UInt16.toNat (cntGet 0 0 ((n % 2 ^ 16).toNat + (k % 2 ^ 16).toNat) 12)) tab_30 tab_3 rfl rfl rfl (by omega) (by have := lt16 (cntGet 0 0 ((n % 2 ^ 16).toNat + (k % 2 ^ 16).toNat) 12); omega) ?_)
 refine qm hnt rfl rfl ?_
 refine qm hnt rfl rfl ?_
 refine qo hnt rfl (s_addN (a := (n % 2 ^ 16).toNat) (b := (k % 2 ^ 16).toNat) rfl rfl (by omega) (by omega) (by omega) ?_)
 refine qo hnt rfl (s_maskN (a := (n % 2 ^ 16).toNat + ((k % 2 ^ 16).toNat)) 16 (by decide) rfl rfl (by omega) (by decide) ?_)
 refine qo hnt rfl (s_eql rfl rfl ?_)
 refine qm hnt rfl rfl ?_
 refine r_if tabOk hnt rfl rfl rfl (fun g1 => ?_) (fun g1 => ?_)
 ·
  have g1' := g1
  try simp only [sB] at g1'
  refine qm hnt rfl rfl ?_
  refine ry hnt rfl rfl rfl g1 ?_
  refine qo hnt rfl (s_eql16 (a := cntGet 0 0 0 12) (b := 0) rfl rfl ?_)
  refine qo hnt rfl (s_pick_t rfl g1 rfl ?_)
  refine qm hnt rfl rfl ?_
  refine r_if tabOk hnt rfl rfl rfl (fun g2 => ?_) (fun g2 => ?_)
  ·
   have g2' := g2
   try simp only [sB] at g2'
   refine qm hnt rfl rfl ?_
   refine qo hnt rfl (s_pick_t rfl g2 rfl ?_)
   refine qm hnt rfl rfl ?_
   refine r_if tabOk hnt rfl rfl rfl (fun g3 => ?_) (fun g3 => ?_)
   ·
    have g3' := g3
    try simp only [sB] at g3'
    refine qm hnt rfl rfl ?_
    refine ry hnt rfl rfl rfl g3 ?_
    refine qo hnt rfl (s_eql16 (a := cntGet 0 0 1073741824 12) (b := 0) rfl rfl ?_)
    refine qo hnt rfl (s_pick_t rfl g3 rfl ?_)
    refine qm hnt rfl rfl ?_
    refine r_if tabOk hnt rfl rfl rfl (fun g4 => ?_) (fun g4 => ?_)
    ·
     have g4' := g4
     try simp only [sB] at g4'
     refine qo hnt rfl (s_callF rfl rfl rfl (w_burgagelaw19_known) rfl ?_)
     refine qo hnt rfl (s_pick_t rfl g4 rfl ?_)
     refine qa hnt rfl rfl ?_
     refine r_end ?_
     refine q_then ?_
     refine w_ret ?_
     exact fin_plain (ret_tmp rfl ret_nil) rfl rfl ⟨rfl, rfl, rfl⟩
    ·
     exact absurd g4 (by first | (simp; done) | decide)
   ·
    exact absurd g3 (by first | (simp; done) | decide)
  ·
   exact absurd g2 (by first | (simp; done) | decide)
 ·
  exact absurd g1 (by exact not_dec3 (by rw [cntGet_2 rfl, u16I_ofNat]; omega))

theorem w_burgagelaw19_tape (k : Int) (hk1 : 0 ≤ k ∧ k ≤ 1000) :
    T Try.prog 12 [pI k] 0 [] (fun ra rb rc => ∃ q : List Int, (q.length = 900) ∧ (Ret (pS 1 false encI q) 0 []) ra rb rc) := by
 refine t_fun tabOk (n := 25) (rs := [.tmp 2]) Try.func12 rfl rfl rfl rfl (Nat.le_of_ble_eq_true rfl) ?_
 intro c hnt hk
 refine w_seq ?_
 refine w_R ?_
 refine qa hnt rfl rfl ?_
 refine r_end ?_
 refine q_then ?_
 refine w_seq ?_
 refine w_R ?_
 refine qa hnt rfl rfl ?_
 refine r_end ?_
 refine q_then ?_
 refine w_seq ?_
 refine w_seq ?_
 refine w_R ?_
 refine qa hnt rfl rfl ?_
 refine r_end ?_
 refine q_then ?_
 refine w_block ?_
 refine w_adopt (s := 3) (sz := 1) rfl ?_
 refine loop2 (fun (os : List Int) (i : Nat) => i ≤ 900 ∧ os.length = i) (fun (os : List Int) (i : Nat) => [(0, pI k), (3, PV.ref 0 0 none), (4, pN i)]) 1 (fun (os : List Int) (i : Nat) => [(0, oB true 1 encI os)]) (fun (os : List Int) (i : Nat) => 900 - i) (([] : List Int)) (0) ?_ ⟨[(0, 0)], by rw [hk]; decide, ⟨⟨_, rfl, rfl, rfl⟩, ⟨_, rfl, rfl, rfl⟩, ⟨_, rfl, rfl, rfl⟩, trivial⟩, ⟨⟨_, _, rfl, rfl, rfl, rfl⟩, trivial⟩, by rw [hk]; decide⟩ ?_
 · simp
 ·
  intro os i hI
  obtain ⟨hi, hol⟩ := hI
  have hii : i * i ≤ 900 * 900 := Nat.mul_le_mul hi hi
  have hik0 : 0 ≤ (i : Int) * k := Int.mul_nonneg (by omega) (by omega)
  have hik : (i : Int) * k ≤ 900 * 1000 := Int.mul_le_mul (by omega) (by omega) (by omega) (by omega)
  refine w_seq ?_
  refine w_seq ?_
  refine w_R ?_
  refine qm hnt rfl rfl ?_
  refine qo hnt rfl (s_lss rfl rfl ?_)
  refine r_end ?_
  refine q_then ?_
  refine w_if rfl (fun c1 => ?_) (fun c1 => ?_)
  ·
   have c1_ := c1
   try simp only [sB] at c1
   refine w_skip ?_
   refine q_then ?_
   refine w_seq ?_
   refine w_block ?_
   refine w_R ?_
   refine qm hnt rfl rfl ?_
   refine qm hnt rfl rfl ?_
   refine qm hnt rfl rfl ?_
   refine qo hnt rfl (s_mulN (a := i) (b := i) rfl rfl (by omega) (by omega) (by omega) ?_)
   refine qo hnt rfl (s_mulN (a := i * i) (b := 7) rfl rfl (by omega) (by omega) (by omega) ?_)
   refine qm hnt rfl rfl ?_
   refine qo hnt rfl (s_muli (r := k * 83) rfl rfl rfl (by omega) ?_)
   refine qo hnt rfl (s_addi (r := (((i * i) * 7 : Nat) : Int) + (k * 83)) rfl rfl rfl (by omega) ?_)
   refine qm hnt rfl rfl ?_
   refine qm hnt rfl rfl ?_
   refine qo hnt rfl (s_muli (r := ((i : Nat) : Int) * k) rfl rfl rfl (by omega) ?_)
   refine qo hnt rfl (s_addi (r := ((((i * i) * 7 : Nat) : Int) + (k * 83)) + (((i : Nat) : Int) * k)) rfl rfl rfl (by omega) ?_)
   refine qo hnt rfl (s_rem rfl rfl (by first | decide | omega) ?_)
   refine qo hnt rfl (s_mkM (f := encI) [Int.tmod (((((i * i) * 7 : Nat) : Int) + (k * 83)) + (((i : Nat) : Int) * k)) 211] tab_23 rfl tab_3 ⟨rfl, by decide⟩ (by decide) rfl rfl rfl rfl ?_)
   refine qo hnt rfl (s_appR0 (f := encI) (l := os) (xs := [Int.tmod (((((i * i) * 7 : Nat) : Int) + (k * 83)) + (((i : Nat) : Int) * k)) 211]) tab_23 rfl tab_3 ⟨rfl, by decide, by decide⟩ (srcM tab_23 rfl (hM_ref0 (f := encI) rfl rfl)) rfl rfl (by first | omega | (simp; omega)) ?_)
   refine qa hnt rfl rfl ?_
   refine r_set [(0, pI k), (3, PV.ref 2 0 none), (4, pN i)] [(2, oB true 1 encI (os ++ [Int.tmod (((((i * i) * 7 : Nat) : Int) + (k * 83)) + (((i : Nat) : Int) * k)) 211])), (1, oB true 1 encI [Int.tmod (((((i * i) * 7 : Nat) : Int) + (k * 83)) + (((i : Nat) : Int) * k)) 211])] 3 ⟨rfl, rfl, rfl, trivial⟩ rfl rfl ?_
   refine r_end ?_
   refine q_block ?_
   refine q_then ?_
   refine w_R ?_
   refine qm hnt rfl rfl ?_
   refine qo hnt rfl (s_addN (a := i) (b := 1) rfl rfl (by omega) (by omega) (by omega) ?_)
   refine qa hnt rfl rfl ?_
   refine r_end ?_
   refine q_then ?_
   refine ⟨(os ++ [Int.tmod (((((i * i) * 7 : Nat) : Int) + (k * 83)) + (((i : Nat) : Int) * k)) 211]), (i + 1), ?_, ?_, ⟨[(0, 2)], by rw [hk]; decide, ⟨⟨_, rfl, rfl, rfl⟩, ⟨_, rfl, rfl, rfl⟩, ⟨_, rfl, rfl, rfl⟩, trivial⟩, ⟨⟨_, _, rfl, rfl, rfl, rfl⟩, trivial⟩, by rw [hk]; decide⟩⟩
   ·
    exact ⟨by omega, by simp [hol]⟩
   · omega
  ·
   have c1_ := c1
   try simp only [sB] at c1
   refine w_exit ?_
   refine q_then_exit ?_
   refine q_then_exit ?_
   refine q_block_exit ?_
   refine q_then ?_
   refine w_seq ?_
   refine w_R ?_
   refine qm hnt rfl rfl ?_
   refine qa hnt rfl rfl ?_
   refine r_end ?_
   refine q_then ?_
   refine w_frzM (s := 2) (f := encI) rfl rfl view_0 ?_
   refine w_ret ?_
   have hex : os.length = 900 := by
     omega
   exact fin_plain (ret_tmp rfl ret_nil) rfl rfl ⟨(os), hex, rfl, rfl, rfl⟩

theorem w_burgagelaw19_CountNumbers   :
    T Try.prog 3 [] 0 [] (Ret (pB true) 0 []) := by
 refine t_fun tabOk (n := 64) (rs := [.tmp 0]) Try.func3 rfl rfl rfl rfl (Nat.le_of_ble_eq_true rfl) ?_
 intro c hnt hk
 refine w_seq ?_
 refine w_R ?_
 refine qa hnt rfl rfl ?_
 refine r_end ?_
 refine q_then ?_
 refine w_seq ?_
 refine w_seq ?_
 refine w_R ?_
 refine qa hnt rfl rfl ?_
 refine r_end ?_
 refine q_then ?_
 refine w_block ?_
 refine loop1 (fun (k : Nat) => k ≤ 30) (fun (k : Nat) => [(1, pN k)]) 0 (fun (k : Nat) => []) (fun (k : Nat) => 30 - k) (0) ?_ ⟨[], rfl, ⟨⟨_, rfl, rfl, rfl⟩, trivial⟩, trivial, by rw [hk]; decide⟩ ?_
 · omega
 ·
  intro k hI
  refine w_seq ?_
  refine w_seq ?_
  refine w_R ?_
  refine qm hnt rfl rfl ?_
  refine qo hnt rfl (s_lss rfl rfl ?_)
  refine r_end ?_
  refine q_then ?_
  refine w_if rfl (fun c1 => ?_) (fun c1 => ?_)
  ·
   have c1_ := c1
   try simp only [sB] at c1
   refine w_skip ?_
   refine q_then ?_
   refine w_seq ?_
   refine w_block ?_
   refine w_seq ?_
   refine w_R ?_
   refine qm hnt rfl rfl ?_
   refine qo hnt rfl (s_callX1 (p := fun (q1 : List Int) => q1.length = 900) (r2 := fun q1 => pS 1 false encI q1) (nx1 := 0) (H2 := []) (H3 := fun q1 => []) [] [] rfl rfl rfl (handed_of (by decide) trivial) rfl rfl rfl rfl rfl rfl (w_burgagelaw19_tape ((k : Nat) : Int) (by first | omega | assumption | (simp; omega) | decide | (simp; done))) (fun q1 => rfl) (fun q1 => dist_of rfl) (fun q1 => rfl) (fun q1 => rfl) rfl (fun q1 => rfl) (fun q1 hq1 => ?_))
   refine qo hnt rfl (s_build tab_26 rfl rfl (b_cons rfl tab_23 rfl rfl rfl (Nat.le_of_ble_eq_true rfl) (b_nil ?_)))
   refine qo hnt rfl (s_box rfl rfl ?_)
   refine qa hnt rfl rfl ?_
   refine r_set [(1, pN k), (2, PV.ptr 0 0)] [(0, .obj [pS 1 false encI q1, pI 0])] 1 ⟨rfl, rfl, trivial⟩ rfl rfl ?_
   refine r_end ?_
   refine q_then ?_
   refine w_seq ?_
   refine w_R ?_
   refine qa hnt rfl rfl ?_
   refine r_end ?_
   refine q_then ?_
   refine w_seq ?_
   refine w_seq ?_
   refine w_R ?_
   refine qa hnt rfl rfl ?_
   refine r_end ?_
   refine q_then ?_
   refine w_block ?_
   refine w_adopt (s := 3) (sz := 11) rfl ?_
   refine loop3 (fun (ap : Nat) (sm : List TAsk) (i : Nat) => i ≤ 70 ∧ sm.length = i ∧ ∀ a ∈ sm, (-9223372036854775808 ≤ a.n ∧ a.n ≤ 9223372036854775807) ∧ a.q.bits.length ≤ 140737488351232 ∧ a.q.vals.length ≤ 140737488351232) (fun (ap : Nat) (sm : List TAsk) (i : Nat) => [(1, pN k), (2, PV.ptr 0 0), (3, PV.ref 1 0 none), (4, pN i)]) 2 (fun (ap : Nat) (sm : List TAsk) (i : Nat) => [(0, .obj [pS 1 false encI q1, pN ap]), (1, oB true 11 eAsk sm)]) (fun (ap : Nat) (sm : List TAsk) (i : Nat) => 70 - i) (0) (([] : List TAsk)) (0) ?_ ⟨[(0, 0), (1, 1)], by rw [hk]; decide, ⟨⟨_, rfl, rfl, rfl⟩, ⟨_, rfl, rfl, rfl⟩, ⟨_, rfl, rfl, rfl⟩, ⟨_, rfl, rfl, rfl⟩, trivial⟩, ⟨⟨_, _, rfl, rfl, rfl, rfl⟩, ⟨_, _, rfl, rfl, rfl, rfl⟩, trivial⟩, by rw [hk]; decide⟩ ?_
   · simp
   ·
    intro ap sm i hJ
    obtain ⟨hi, hsl, hsm⟩ := hJ
    have hii : i * i ≤ 70 * 70 := Nat.mul_le_mul hi hi
    have hik : i * k ≤ 70 * 30 := Nat.mul_le_mul hi (by omega)
    refine w_seq ?_
    refine w_seq ?_
    refine w_R ?_
    refine qm hnt rfl rfl ?_
    refine qo hnt rfl (s_lss rfl rfl ?_)
    refine r_end ?_
    refine q_then ?_
    refine w_if rfl (fun c2 => ?_) (fun c2 => ?_)
    ·
     have c2_ := c2
     try simp only [sB] at c2
     refine w_skip ?_
     refine q_then ?_
     refine w_seq ?_
     refine w_block ?_
     refine w_seq ?_
     refine w_R ?_
     refine qm hnt rfl rfl ?_
     refine qm hnt rfl rfl ?_
     refine qo hnt rfl (s_mulN (a := i) (b := i) rfl rfl (by omega) (by omega) (by omega) ?_)
     refine qm hnt rfl rfl ?_
     refine qo hnt rfl (s_addN (a := i * i) (b := k) rfl rfl (by omega) (by omega) (by omega) ?_)
     refine qo hnt rfl (s_remN (a := i * i + k) (b := 8) rfl rfl (by omega) (by omega) (by omega) ?_)
     refine qm hnt rfl rfl ?_
     refine qm hnt rfl rfl ?_
     refine qo hnt rfl (s_mulN (a := i) (b := k) rfl rfl (by omega) (by omega) (by omega) ?_)
     refine qo hnt rfl (s_subi (r := ((i * k : Nat) : Int) - 40) rfl rfl rfl (by omega) ?_)
     refine qm hnt rfl rfl ?_
     refine qo hnt rfl (s_callX2 (p := fun (q2 : TRequest) (b1 : Nat) => rightR q2 = 0 ∧ q2.bits.length ≤ 25 ∧ q2.vals.length ≤ 25 ∧ 0 ≤ q2.count ∧ q2.count ≤ 25) (r2 := fun q2 b1 => PV.f (eRequest q2)) (nx1 := 2) (H2 := [(0, .obj [pS 1 false encI q1, pN ap]), (1, oB true 11 eAsk sm)]) (H3 := fun q2 b1 => [(0, .obj [pS 1 false encI q1, pN b1]), (1, oB true 11 eAsk sm)]) [0] [.obj [pS 1 false encI q1, pN ap]] rfl rfl rfl (handed_of (by decide) ⟨rfl, trivial⟩) rfl rfl rfl rfl rfl rfl (w_burgagekeep_Tape_Request q1 false ap (by first | omega | assumption | (simp; omega) | decide | (simp; done))) (fun q2 b1 => rfl) (fun q2 b1 => dist_of rfl) (fun q2 b1 => rfl) (fun q2 b1 => rfl) rfl (fun q2 b1 => rfl) (fun q2 b1 hq2 => ?_))
     refine qo hnt rfl (s_build tab_35 rfl rfl (b_cons rfl tab_3 rfl rfl rfl (Nat.le_of_ble_eq_true rfl) (b_cons rfl tab_3 rfl rfl rfl (Nat.le_of_ble_eq_true rfl) (b_cons rfl tab_32 rfl rfl rfl (Nat.le_of_ble_eq_true rfl) (b_nil ?_)))))
     refine qo hnt rfl (s_alloc tab_35 ?_)
     refine qo hnt rfl (s_store_ptr tab_35 rfl rfl rfl rfl rfl (Nat.le_of_ble_eq_true rfl) ?_)
     refine r_set [(1, pN k), (2, PV.ptr 0 0), (3, PV.ref 1 0 none), (4, pN i), (5, PV.ptr 2 0)] [(2, .obj [pN ((i * i + k) % 8), pI (((i * k : Nat) : Int) - 40), pI q2.fn, pI q2.at_, pI q2.count, pI q2.wAt, pI q2.sub, pS 1 false encBo q2.bits, pS 1 false enc16 q2.vals, p16 q2.and_, p16 q2.or_]), (0, .obj [pS 1 false encI q1, pN b1]), (1, oB true 11 eAsk sm)] 3 ⟨rfl, rfl, rfl, rfl, rfl, trivial⟩ rfl rfl ?_
     refine r_end ?_
     refine q_then ?_
     refine w_seq ?_
     refine w_seq ?_
     refine w_R ?_
     refine qm hnt rfl rfl ?_
     refine qo hnt rfl (s_remN (a := i) (b := 2) rfl rfl (by omega) (by omega) (by omega) ?_)
     refine qo hnt rfl (s_eql rfl rfl ?_)
     refine r_end ?_
     refine q_then ?_
     refine w_if rfl (fun c3 => ?_) (fun c3 => ?_)
     ·
      have c3_ := c3
      try simp only [sB] at c3
      refine w_R ?_
      refine qm hnt rfl rfl ?_
      refine qo hnt rfl (s_remN (a := i) (b := 8) rfl rfl (by omega) (by omega) (by omega) ?_)
      refine qo hnt rfl (s_addN (a := 9) (b := i % 8) rfl rfl (by omega) (by omega) (by omega) ?_)
      refine qm hnt rfl rfl ?_
      refine qo hnt rfl (s_quoN (a := i) (b := 2) rfl rfl (by omega) (by omega) (by omega) ?_)
      refine qo hnt rfl (s_remN (a := i / 2) (b := 2) rfl rfl (by omega) (by omega) (by omega) ?_)
      refine qo hnt rfl (s_cv16N (a := (i / 2) % 2) tab_3 tab_30 rfl rfl rfl (by omega) ?_)
      refine qo hnt rfl (s_mkM (f := enc16) [UInt16.ofNat ((i / 2) % 2)] tab_29 rfl tab_30 ⟨rfl, by decide⟩ (by decide) rfl rfl rfl rfl ?_)
      refine qo hnt rfl (s_build tab_32 rfl rfl (b_cons rfl tab_3 rfl rfl rfl (Nat.le_of_ble_eq_true rfl) (b_cons rfl tab_3 rfl rfl rfl (Nat.le_of_ble_eq_true rfl) (b_cons rfl tab_29 rfl rfl rfl (Nat.le_of_ble_eq_true rfl) (b_nil ?_)))))
      refine qo hnt rfl (s_fa_ptr tab_35 rfl rfl tab_32 (by decide) rfl ?_)
      refine qo hnt rfl (s_store_ptr tab_32 rfl rfl rfl rfl rfl (Nat.le_of_ble_eq_true rfl) ?_)
      refine r_set [(1, pN k), (2, PV.ptr 0 0), (3, PV.ref 1 0 none), (4, pN i), (5, PV.ptr 2 0)] [(2, .obj [pN ((i * i + k) % 8), pI (((i * k : Nat) : Int) - 40), pI 8, pI 0, pI 0, pI 0, pN (9 + (i % 8)), pNil, PV.ref 3 0 none, p16 0, p16 0]), (3, oB true 1 enc16 [UInt16.ofNat ((i / 2) % 2)]), (0, .obj [pS 1 false encI q1, pN b1]), (1, oB true 11 eAsk sm)] 4 ⟨rfl, rfl, rfl, rfl, rfl, trivial⟩ rfl rfl ?_
      refine r_end ?_
      refine q_then ?_
      refine w_R ?_
      refine qm hnt rfl rfl ?_
      refine qo hnt rfl (s_load_ptr tab_35 rfl rfl rfl (Nat.le_of_ble_eq_true rfl) ?_)
      refine r_frz (s := 45) rfl rfl ?_
      refine r_le (s := 45) (y := PV.f (eAsk (⟨(((i * i + k) % 8 : Nat) : Int), ((i * k : Nat) : Int) - 40, (⟨8, 0, 0, 0, ((9 + (i % 8) : Nat) : Int), [], [UInt16.ofNat ((i / 2) % 2)], 0, 0⟩ : TRequest)⟩ : TAsk))) rfl (le_F (FLe.agg ⟨FLe.refl _, FLe.refl _, FLe.refl _, FLe.refl _, FLe.refl _, FLe.refl _, FLe.refl _, FLe.nil 1 false, FLe.refl _, FLe.refl _, FLe.refl _, trivial⟩)) ?_
      refine qo hnt rfl (s_mkM (f := eAsk) [(⟨(((i * i + k) % 8 : Nat) : Int), ((i * k : Nat) : Int) - 40, (⟨8, 0, 0, 0, ((9 + (i % 8) : Nat) : Int), [], [UInt16.ofNat ((i / 2) % 2)], 0, 0⟩ : TRequest)⟩ : TAsk)] tab_27 rfl tab_35 ⟨rfl, by decide⟩ (by decide) rfl rfl rfl rfl ?_)
      refine qo hnt rfl (s_appR0 (f := eAsk) (l := sm) (xs := [(⟨(((i * i + k) % 8 : Nat) : Int), ((i * k : Nat) : Int) - 40, (⟨8, 0, 0, 0, ((9 + (i % 8) : Nat) : Int), [], [UInt16.ofNat ((i / 2) % 2)], 0, 0⟩ : TRequest)⟩ : TAsk)]) tab_27 rfl tab_35 ⟨rfl, by decide, by decide⟩ (srcM tab_27 rfl (hM_ref0 (f := eAsk) rfl rfl)) rfl rfl (by first | omega | (simp; omega)) ?_)
      refine qa hnt rfl rfl ?_
      refine r_set [(1, pN k), (2, PV.ptr 0 0), (3, PV.ref 5 0 none), (4, pN i)] [(5, oB true 11 eAsk (sm ++ ([(⟨(((i * i + k) % 8 : Nat) : Int), ((i * k : Nat) : Int) - 40, (⟨8, 0, 0, 0, ((9 + (i % 8) : Nat) : Int), [], [UInt16.ofNat ((i / 2) % 2)], 0, 0⟩ : TRequest)⟩ : TAsk)]))), (4, oB true 11 eAsk ([(⟨(((i * i + k) % 8 : Nat) : Int), ((i * k : Nat) : Int) - 40, (⟨8, 0, 0, 0, ((9 + (i % 8) : Nat) : Int), [], [UInt16.ofNat ((i / 2) % 2)], 0, 0⟩ : TRequest)⟩ : TAsk)])), (3, oB false 1 enc16 [UInt16.ofNat ((i / 2) % 2)]), (2, .obj [pN ((i * i + k) % 8), pI (((i * k : Nat) : Int) - 40), pI 8, pI 0, pI 0, pI 0, pN (9 + (i % 8)), pNil, PV.ref 3 0 none, p16 0, p16 0]), (0, .obj [pS 1 false encI q1, pN b1])] 6 ⟨rfl, rfl, rfl, rfl, trivial⟩ rfl rfl ?_
      refine r_end ?_
      refine q_block ?_
      refine q_then ?_
      refine w_R ?_
      refine qm hnt rfl rfl ?_
      refine qo hnt rfl (s_addN (a := i) (b := 1) rfl rfl (by omega) (by omega) (by omega) ?_)
      refine qa hnt rfl rfl ?_
      refine r_end ?_
      refine q_then ?_
      refine ⟨(b1), (sm ++ ([(⟨(((i * i + k) % 8 : Nat) : Int), ((i * k : Nat) : Int) - 40, (⟨8, 0, 0, 0, ((9 + (i % 8) : Nat) : Int), [], [UInt16.ofNat ((i / 2) % 2)], 0, 0⟩ : TRequest)⟩ : TAsk)])), (i + 1), ?_, ?_, ⟨[(0, 0), (1, 5)], by rw [hk]; decide, ⟨⟨_, rfl, rfl, rfl⟩, ⟨_, rfl, rfl, rfl⟩, ⟨_, rfl, rfl, rfl⟩, ⟨_, rfl, rfl, rfl⟩, trivial⟩, ⟨⟨_, _, rfl, rfl, rfl, rfl⟩, ⟨_, _, rfl, rfl, rfl, rfl⟩, trivial⟩, by rw [hk]; decide⟩⟩
      ·
       refine ⟨by omega, by simp [hsl], fun a ha => ?_⟩
       rcases List.mem_append.1 ha with h | h
       · exact hsm a h
       · have h := List.mem_singleton.1 h; subst h; first | exact ⟨by simp only; omega, by simp only; omega, by simp only; omega⟩ | exact ⟨by simp only; omega, by simp, by simp⟩
      · omega
     ·
      have c3_ := c3
      try simp only [sB] at c3
      refine w_skip ?_
      refine q_then ?_
      refine w_R ?_
      refine qm hnt rfl rfl ?_
      refine qo hnt rfl (s_load_ptr tab_35 rfl rfl rfl (Nat.le_of_ble_eq_true rfl) ?_)
      refine qo hnt rfl (s_mkM (f := eAsk) [(⟨(((i * i + k) % 8 : Nat) : Int), ((i * k : Nat) : Int) - 40, (⟨q2.fn, q2.at_, q2.count, q2.wAt, q2.sub, q2.bits, q2.vals, q2.and_, q2.or_⟩ : TRequest)⟩ : TAsk)] tab_27 rfl tab_35 ⟨rfl, by decide⟩ (by decide) rfl rfl rfl rfl ?_)
      refine qo hnt rfl (s_appR0 (f := eAsk) (l := sm) (xs := [(⟨(((i * i + k) % 8 : Nat) : Int), ((i * k : Nat) : Int) - 40, (⟨q2.fn, q2.at_, q2.count, q2.wAt, q2.sub, q2.bits, q2.vals, q2.and_, q2.or_⟩ : TRequest)⟩ : TAsk)]) tab_27 rfl tab_35 ⟨rfl, by decide, by decide⟩ (srcM tab_27 rfl (hM_ref0 (f := eAsk) rfl rfl)) rfl rfl (by first | omega | (simp; omega)) ?_)
      refine qa hnt rfl rfl ?_
      refine r_set [(1, pN k), (2, PV.ptr 0 0), (3, PV.ref 4 0 none), (4, pN i)] [(4, oB true 11 eAsk (sm ++ [(⟨(((i * i + k) % 8 : Nat) : Int), ((i * k : Nat) : Int) - 40, (⟨q2.fn, q2.at_, q2.count, q2.wAt, q2.sub, q2.bits, q2.vals, q2.and_, q2.or_⟩ : TRequest)⟩ : TAsk)])), (3, oB true 11 eAsk [(⟨(((i * i + k) % 8 : Nat) : Int), ((i * k : Nat) : Int) - 40, (⟨q2.fn, q2.at_, q2.count, q2.wAt, q2.sub, q2.bits, q2.vals, q2.and_, q2.or_⟩ : TRequest)⟩ : TAsk)]), (2, .obj [pN ((i * i + k) % 8), pI (((i * k : Nat) : Int) - 40), pI q2.fn, pI q2.at_, pI q2.count, pI q2.wAt, pI q2.sub, pS 1 false encBo q2.bits, pS 1 false enc16 q2.vals, p16 q2.and_, p16 q2.or_]), (0, .obj [pS 1 false encI q1, pN b1])] 5 ⟨rfl, rfl, rfl, rfl, trivial⟩ rfl rfl ?_
      refine r_end ?_
      refine q_block ?_
      refine q_then ?_
      refine w_R ?_
      refine qm hnt rfl rfl ?_
      refine qo hnt rfl (s_addN (a := i) (b := 1) rfl rfl (by omega) (by omega) (by omega) ?_)
      refine qa hnt rfl rfl ?_
      refine r_end ?_
      refine q_then ?_
      refine ⟨(b1), (sm ++ [(⟨(((i * i + k) % 8 : Nat) : Int), ((i * k : Nat) : Int) - 40, (⟨q2.fn, q2.at_, q2.count, q2.wAt, q2.sub, q2.bits, q2.vals, q2.and_, q2.or_⟩ : TRequest)⟩ : TAsk)]), (i + 1), ?_, ?_, ⟨[(0, 0), (1, 4)], by rw [hk]; decide, ⟨⟨_, rfl, rfl, rfl⟩, ⟨_, rfl, rfl, rfl⟩, ⟨_, rfl, rfl, rfl⟩, ⟨_, rfl, rfl, rfl⟩, trivial⟩, ⟨⟨_, _, rfl, rfl, rfl, rfl⟩, ⟨_, _, rfl, rfl, rfl, rfl⟩, trivial⟩, by rw [hk]; decide⟩⟩
      ·
       refine ⟨by omega, by simp [hsl], fun a ha => ?_⟩
       rcases List.mem_append.1 ha with h | h
       · exact hsm a h
       · have h := List.mem_singleton.1 h; subst h; first | exact ⟨by simp only; omega, by simp only; omega, by simp only; omega⟩ | exact ⟨by simp only; omega, by simp, by simp⟩
      · omega
    ·
     have c2_ := c2
     try simp only [sB] at c2
     refine w_exit ?_
     refine q_then_exit ?_
     refine q_then_exit ?_
     refine q_block_exit ?_
     refine q_then ?_
     refine w_seq ?_
     refine w_R ?_
     refine qm hnt rfl rfl ?_
     refine qo hnt rfl (s_callX (r2 := pB true) (nx1 := 2) (H2 := [(1, oB false 11 eAsk sm), (0, .obj [pS 1 false encI q1, pN ap])]) (H3 := [(1, oB false 11 eAsk sm), (0, .obj [pS 1 false encI q1, pN ap])]) [] [] rfl rfl rfl (handed_of (by decide) trivial) rfl rfl rfl rfl rfl rfl (w_burgagelaw19_play sm false (by first | omega | assumption | (simp; omega) | decide | (simp; done)) (by first | omega | assumption | (simp; omega) | decide | (simp; done))) rfl (dist_of rfl) rfl rfl rfl rfl ?_)
     refine qo hnt rfl (s_not rfl ?_)
     refine r_set [(1, pN k), (50, pB (!true))] [(1, oB false 11 eAsk sm), (0, .obj [pS 1 false encI q1, pN ap])] 2 ⟨rfl, rfl, trivial⟩ rfl rfl ?_
     refine r_end ?_
     refine q_then ?_
     refine w_if rfl (fun e => absurd e (by decide)) (fun _ => ?_)
     refine w_skip ?_
     refine q_block ?_
     refine q_then ?_
     refine w_R ?_
     refine qm hnt rfl rfl ?_
     refine qo hnt rfl (s_addN (a := k) (b := 1) rfl rfl (by omega) (by omega) (by omega) ?_)
     refine qa hnt rfl rfl ?_
     refine r_end ?_
     refine q_then ?_
     refine ⟨(k + 1), ?_, ?_, ⟨[], rfl, ⟨⟨_, rfl, rfl, rfl⟩, trivial⟩, trivial, by rw [hk]; decide⟩⟩
     ·
      omega
     · omega
  ·
   have c1_ := c1
   try simp only [sB] at c1
   refine w_exit ?_
   refine q_then_exit ?_
   refine q_then_exit ?_
   refine q_block_exit ?_
   refine q_then ?_
   refine w_seq ?_
   refine w_R ?_
   refine qo hnt rfl (s_build tab_35 rfl rfl (b_cons rfl tab_3 rfl rfl rfl (Nat.le_of_ble_eq_true rfl) (b_cons rfl tab_3 rfl rfl rfl (Nat.le_of_ble_eq_true rfl) (b_nil ?_))))
   refine qo hnt rfl (s_build tab_35 rfl rfl (b_cons rfl tab_3 rfl rfl rfl (Nat.le_of_ble_eq_true rfl) (b_cons rfl tab_3 rfl rfl rfl (Nat.le_of_ble_eq_true rfl) (b_nil ?_))))
   refine qo hnt rfl (s_build tab_35 rfl rfl (b_cons rfl tab_3 rfl rfl rfl (Nat.le_of_ble_eq_true rfl) (b_cons rfl tab_3 rfl rfl rfl (Nat.le_of_ble_eq_true rfl) (b_nil ?_))))
   refine qo hnt rfl (s_mkM (f := enc16) ([0] : List UInt16) tab_29 rfl tab_30 ⟨rfl, by decide⟩ (by decide) rfl rfl rfl rfl ?_)
   refine qo hnt rfl (s_build tab_32 rfl rfl (b_cons rfl tab_3 rfl rfl rfl (Nat.le_of_ble_eq_true rfl) (b_cons rfl tab_3 rfl rfl rfl (Nat.le_of_ble_eq_true rfl) (b_cons rfl tab_29 rfl rfl rfl (Nat.le_of_ble_eq_true rfl) (b_nil ?_)))))
   refine qo hnt rfl (s_build tab_35 rfl rfl (b_cons rfl tab_3 rfl rfl rfl (Nat.le_of_ble_eq_true rfl) (b_cons rfl tab_32 rfl rfl rfl (Nat.le_of_ble_eq_true rfl) (b_nil ?_))))
   refine qo hnt rfl (s_build tab_32 rfl rfl (b_cons rfl tab_3 rfl rfl rfl (Nat.le_of_ble_eq_true rfl) (b_nil ?_)))
   refine qo hnt rfl (s_build tab_35 rfl rfl (b_cons rfl tab_3 rfl rfl rfl (Nat.le_of_ble_eq_true rfl) (b_cons rfl tab_3 rfl rfl rfl (Nat.le_of_ble_eq_true rfl) (b_cons rfl tab_32 rfl rfl rfl (Nat.le_of_ble_eq_true rfl) (b_nil ?_)))))
   refine r_le (s := 51) (y := PV.f (eAsk (⟨3, 9223372036854775807, (⟨0, 0, 0, 0, 0, [], [], 0, 0⟩ : TRequest)⟩ : TAsk))) rfl (le_F (FLe.agg ⟨FLe.refl _, FLe.refl _, FLe.refl _, FLe.refl _, FLe.refl _, FLe.refl _, FLe.refl _, FLe.nil 1 false, FLe.nil 1 false, FLe.refl _, FLe.refl _, trivial⟩)) ?_
   refine r_le (s := 52) (y := PV.f (eAsk (⟨3, 9223372036854775807, (⟨0, 0, 0, 0, 0, [], [], 0, 0⟩ : TRequest)⟩ : TAsk))) rfl (le_F (FLe.agg ⟨FLe.refl _, FLe.refl _, FLe.refl _, FLe.refl _, FLe.refl _, FLe.refl _, FLe.refl _, FLe.nil 1 false, FLe.nil 1 false, FLe.refl _, FLe.refl _, trivial⟩)) ?_
   refine r_le (s := 53) (y := PV.f (eAsk (⟨3, (-9223372036854775808), (⟨0, 0, 0, 0, 0, [], [], 0, 0⟩ : TRequest)⟩ : TAsk))) rfl (le_F (FLe.agg ⟨FLe.refl _, FLe.refl _, FLe.refl _, FLe.refl _, FLe.refl _, FLe.refl _, FLe.refl _, FLe.nil 1 false, FLe.nil 1 false, FLe.refl _, FLe.refl _, trivial⟩)) ?_
   refine r_frz (s := 56) rfl rfl ?_
   refine r_le (s := 56) (y := PV.f (eAsk (⟨5, 0, (⟨8, 0, 0, 0, 12, [], ([0] : List UInt16), 0, 0⟩ : TRequest)⟩ : TAsk))) rfl (le_F (FLe.agg ⟨FLe.refl _, FLe.refl _, FLe.refl _, FLe.refl _, FLe.refl _, FLe.refl _, FLe.refl _, FLe.nil 1 false, FLe.refl _, FLe.refl _, FLe.refl _, trivial⟩)) ?_
   refine r_le (s := 58) (y := PV.f (eAsk (⟨5, (-1), (⟨17, 0, 0, 0, 0, [], [], 0, 0⟩ : TRequest)⟩ : TAsk))) rfl (le_F (FLe.agg ⟨FLe.refl _, FLe.refl _, FLe.refl _, FLe.refl _, FLe.refl _, FLe.refl _, FLe.refl _, FLe.nil 1 false, FLe.nil 1 false, FLe.refl _, FLe.refl _, trivial⟩)) ?_
   refine qo hnt rfl (s_mkM (f := eAsk) [(⟨3, 9223372036854775807, (⟨0, 0, 0, 0, 0, [], [], 0, 0⟩ : TRequest)⟩ : TAsk), (⟨3, 9223372036854775807, (⟨0, 0, 0, 0, 0, [], [], 0, 0⟩ : TRequest)⟩ : TAsk), (⟨3, (-9223372036854775808), (⟨0, 0, 0, 0, 0, [], [], 0, 0⟩ : TRequest)⟩ : TAsk), (⟨5, 0, (⟨8, 0, 0, 0, 12, [], ([0] : List UInt16), 0, 0⟩ : TRequest)⟩ : TAsk), (⟨5, (-1), (⟨17, 0, 0, 0, 0, [], [], 0, 0⟩ : TRequest)⟩ : TAsk)] tab_27 rfl tab_35 ⟨rfl, by decide⟩ (by decide) rfl rfl rfl rfl ?_)
   refine qo hnt rfl (s_callX (r2 := pB true) (nx1 := 2) (H2 := [(1, oB false 11 eAsk ([(⟨3, 9223372036854775807, (⟨0, 0, 0, 0, 0, [], [], 0, 0⟩ : TRequest)⟩ : TAsk), (⟨3, 9223372036854775807, (⟨0, 0, 0, 0, 0, [], [], 0, 0⟩ : TRequest)⟩ : TAsk), (⟨3, (-9223372036854775808), (⟨0, 0, 0, 0, 0, [], [], 0, 0⟩ : TRequest)⟩ : TAsk), (⟨5, 0, (⟨8, 0, 0, 0, 12, [], ([0] : List UInt16), 0, 0⟩ : TRequest)⟩ : TAsk), (⟨5, (-1), (⟨17, 0, 0, 0, 0, [], [], 0, 0⟩ : TRequest)⟩ : TAsk)])), (0, oB false 1 enc16 ([0] : List UInt16))]) (H3 := [(1, oB false 11 eAsk ([(⟨3, 9223372036854775807, (⟨0, 0, 0, 0, 0, [], [], 0, 0⟩ : TRequest)⟩ : TAsk), (⟨3, 9223372036854775807, (⟨0, 0, 0, 0, 0, [], [], 0, 0⟩ : TRequest)⟩ : TAsk), (⟨3, (-9223372036854775808), (⟨0, 0, 0, 0, 0, [], [], 0, 0⟩ : TRequest)⟩ : TAsk), (⟨5, 0, (⟨8, 0, 0, 0, 12, [], ([0] : List UInt16), 0, 0⟩ : TRequest)⟩ : TAsk), (⟨5, (-1), (⟨17, 0, 0, 0, 0, [], [], 0, 0⟩ : TRequest)⟩ : TAsk)])), (0, oB false 1 enc16 ([0] : List UInt16))]) [] [] rfl rfl rfl (handed_of (by decide) trivial) rfl rfl rfl rfl rfl rfl (w_burgagelaw19_play ([(⟨3, 9223372036854775807, (⟨0, 0, 0, 0, 0, [], [], 0, 0⟩ : TRequest)⟩ : TAsk), (⟨3, 9223372036854775807, (⟨0, 0, 0, 0, 0, [], [], 0, 0⟩ : TRequest)⟩ : TAsk), (⟨3, (-9223372036854775808), (⟨0, 0, 0, 0, 0, [], [], 0, 0⟩ : TRequest)⟩ : TAsk), (⟨5, 0, (⟨8, 0, 0, 0, 12, [], ([0] : List UInt16), 0, 0⟩ : TRequest)⟩ : TAsk), (⟨5, (-1), (⟨17, 0, 0, 0, 0, [], [], 0, 0⟩ : TRequest)⟩ : TAsk)]) false (by first | omega | assumption | (simp; omega) | decide | (simp; done)) (by first | omega | assumption | (simp; omega) | decide | (simp; done))) rfl (dist_of rfl) rfl rfl rfl rfl ?_)
   refine qm hnt rfl rfl ?_
   refine ry hnt rfl rfl rfl rfl ?_
   refine qo hnt rfl (s_callF rfl rfl rfl (w_burgagelaw19_known) rfl ?_)
   refine qo hnt rfl (s_pick_t rfl rfl rfl ?_)
   refine qa hnt rfl rfl ?_
   refine r_set [(0, pB true)] [(1, oB false 11 eAsk ([(⟨3, 9223372036854775807, (⟨0, 0, 0, 0, 0, [], [], 0, 0⟩ : TRequest)⟩ : TAsk), (⟨3, 9223372036854775807, (⟨0, 0, 0, 0, 0, [], [], 0, 0⟩ : TRequest)⟩ : TAsk), (⟨3, (-9223372036854775808), (⟨0, 0, 0, 0, 0, [], [], 0, 0⟩ : TRequest)⟩ : TAsk), (⟨5, 0, (⟨8, 0, 0, 0, 12, [], ([0] : List UInt16), 0, 0⟩ : TRequest)⟩ : TAsk), (⟨5, (-1), (⟨17, 0, 0, 0, 0, [], [], 0, 0⟩ : TRequest)⟩ : TAsk)])), (0, oB false 1 enc16 ([0] : List UInt16))] 2 ⟨rfl, trivial⟩ rfl rfl ?_
   refine r_end ?_
   refine q_then ?_
   refine w_ret ?_
   exact fin_plain (ret_tmp rfl ret_nil) rfl rfl ⟨rfl, rfl, rfl⟩

end Go.Proofs.Ytmcgjmpcfiefgaa
