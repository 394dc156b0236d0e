/- What the law PduCounts needs, and no more: merged out of texts of this session by a program of it (wip/tools/prune.py). -/
import Derived.Test.YtigpfkcjpjhflaaQPduCounts3
set_option linter.unusedVariables false
set_option linter.unusedSimpArgs false
set_option maxRecDepth 10000
set_option maxHeartbeats 1000000
namespace Go.Proofs.Ytigpfkcjpjhflaa
open Go Go.Proofs.Ytigpfkcjpjhflaa.Pv
theorem w_burgagelaw3_known   :
    T Try.prog 15 [] 0 [] (Ret (pB true) 0 []) := by
 refine t_fun tabOk (n := 102) (rs := [.tmp 0]) Try.func15 rfl rfl rfl rfl (Nat.le_of_ble_eq_true rfl) ?_
 intro c hnt hk
 refine w_seq ?_
 refine w_R ?_
 refine qa hnt rfl rfl ?_
 refine r_end ?_
 refine q_then ?_
 refine w_seq ?_
 refine w_R ?_
 refine qo hnt rfl (s_mkM (f := enc16) ([255, 1] : List UInt16) tab_24 rfl tab_25 ⟨rfl, by decide⟩ (by decide) rfl rfl rfl rfl ?_)
 refine qo hnt rfl (s_build tab_27 rfl rfl (b_cons rfl tab_3 rfl rfl rfl (Nat.le_of_ble_eq_true rfl) (b_cons rfl tab_3 rfl rfl rfl (Nat.le_of_ble_eq_true rfl) (b_cons rfl tab_3 rfl rfl rfl (Nat.le_of_ble_eq_true rfl) (b_cons rfl tab_3 rfl rfl rfl (Nat.le_of_ble_eq_true rfl) (b_cons rfl tab_24 rfl rfl rfl (Nat.le_of_ble_eq_true rfl) (b_nil ?_)))))))
 refine qo hnt rfl (s_alloc tab_27 ?_)
 refine qo hnt rfl (s_store_ptr tab_27 rfl rfl rfl rfl rfl (Nat.le_of_ble_eq_true rfl) ?_)
 refine r_set [(1, PV.ptr 1 0)] [(1, .obj [pI 23, pI 3, pI 6, pI 14, pI 0, pNil, PV.ref 0 0 none, p16 0, p16 0]), (0, oB true 1 enc16 ([255, 1] : List UInt16))] 2 ⟨rfl, trivial⟩ rfl rfl ?_
 refine r_end ?_
 refine q_then ?_
 refine w_seq ?_
 refine w_R ?_
 refine qo hnt rfl (s_load_ptr tab_27 rfl rfl rfl (Nat.le_of_ble_eq_true rfl) ?_)
 refine qo hnt rfl (s_callX (r2 := PV.tup [pS 1 false enc8 (bytesR (⟨23, 3, 6, 14, 0, [], ([255, 1] : List UInt16), 0, 0⟩ : TRequest)), pI (rightR (⟨23, 3, 6, 14, 0, [], ([255, 1] : List UInt16), 0, 0⟩ : TRequest))]) (nx1 := 2) (H2 := [(0, oB false 1 enc16 ([255, 1] : List UInt16)), (1, .obj [pI 23, pI 3, pI 6, pI 14, pI 0, pNil, PV.ref 0 0 none, p16 0, p16 0])]) (H3 := [(0, oB false 1 enc16 ([255, 1] : List UInt16)), (1, .obj [pI 23, pI 3, pI 6, pI 14, pI 0, pNil, PV.ref 0 0 none, p16 0, p16 0])]) [] [] rfl rfl rfl (handed_of (by decide) trivial) rfl rfl rfl rfl rfl rfl (T.leL (args := [PV.f (.agg [encI 23, encI 3, encI 6, encI 14, encI 0, FV.v (.slice none 0 0), FV.sl 1 false (List.map enc16 ([255, 1] : List UInt16)), enc16 0, enc16 0])]) (args' := [PV.f (eRequest (⟨23, 3, 6, 14, 0, [], ([255, 1] : List UInt16), 0, 0⟩ : TRequest))]) ⟨le_F (FLe.agg ⟨FLe.refl _, FLe.refl _, FLe.refl _, FLe.refl _, FLe.refl _, FLe.nil 1 false, FLe.refl _, FLe.refl _, FLe.refl _, trivial⟩), trivial⟩ (w_pdu_Bytes (⟨23, 3, 6, 14, 0, [], ([255, 1] : List UInt16), 0, 0⟩ : TRequest) (by first | omega | assumption | (simp; omega) | decide | (simp; done)) (by first | omega | assumption | (simp; omega) | decide | (simp; done)))) rfl (dist_of rfl) rfl rfl rfl rfl ?_)
 refine qm hnt rfl rfl ?_
 refine qo hnt rfl (s_extract rfl rfl ?_)
 refine qo hnt rfl (s_extract rfl rfl ?_)
 refine qa hnt rfl rfl ?_
 refine qa hnt rfl rfl ?_
 refine r_set [(1, PV.ptr 1 0), (2, pS 1 false enc8 (bytesR (⟨23, 3, 6, 14, 0, [], ([255, 1] : List UInt16), 0, 0⟩ : TRequest))), (3, pI (rightR (⟨23, 3, 6, 14, 0, [], ([255, 1] : List UInt16), 0, 0⟩ : TRequest)))] [(0, oB false 1 enc16 ([255, 1] : List UInt16)), (1, .obj [pI 23, pI 3, pI 6, pI 14, pI 0, pNil, PV.ref 0 0 none, p16 0, p16 0])] 2 ⟨rfl, rfl, rfl, trivial⟩ rfl rfl ?_
 refine r_end ?_
 refine q_then ?_
 refine w_seq ?_
 refine w_R ?_
 refine qm hnt rfl rfl ?_
 obtain ⟨R1, hR1⟩ : ∃ z : TRequest × Int, z = readWith guessP (bytesR (⟨23, 3, 6, 14, 0, [], ([255, 1] : List UInt16), 0, 0⟩ : TRequest)) := ⟨_, rfl⟩
 refine qo hnt rfl (s_callF rfl rfl rfl (w_pdu_Read (bytesR (⟨23, 3, 6, 14, 0, [], ([255, 1] : List UInt16), 0, 0⟩ : TRequest)) false R1 hR1 (by first | omega | assumption | (simp; omega) | decide | (simp; done))) rfl ?_)
 refine qm hnt rfl rfl ?_
 refine qo hnt rfl (s_extract rfl rfl ?_)
 refine qo hnt rfl (s_extract rfl rfl ?_)
 refine qo hnt rfl (s_alloc tab_27 ?_)
 refine qo hnt rfl (s_store_ptr tab_27 rfl rfl rfl rfl rfl (Nat.le_of_ble_eq_true rfl) ?_)
 refine qa hnt rfl rfl ?_
 refine r_set [(1, PV.ptr 1 0), (2, pS 1 false enc8 (bytesR (⟨23, 3, 6, 14, 0, [], ([255, 1] : List UInt16), 0, 0⟩ : TRequest))), (3, pI (rightR (⟨23, 3, 6, 14, 0, [], ([255, 1] : List UInt16), 0, 0⟩ : TRequest))), (4, PV.ptr 2 0), (5, pI R1.2)] [(2, .obj [pI R1.1.fn, pI R1.1.at_, pI R1.1.count, pI R1.1.wAt, pI R1.1.sub, pS 1 false encBo R1.1.bits, pS 1 false enc16 R1.1.vals, p16 R1.1.and_, p16 R1.1.or_]), (0, oB false 1 enc16 ([255, 1] : List UInt16)), (1, .obj [pI 23, pI 3, pI 6, pI 14, pI 0, pNil, PV.ref 0 0 none, p16 0, p16 0])] 3 ⟨rfl, rfl, rfl, rfl, rfl, trivial⟩ rfl rfl ?_
 refine r_end ?_
 refine q_then ?_
 refine w_seq ?_
 have hr1 : R1 = (⟨23, 3, 6, 14, 0, [], [255, 1], 0, 0⟩, 0) := by rw [hR1]; decide +kernel
 refine w_R ?_
 obtain ⟨R2, hR2⟩ : ∃ z : TRequest × Int, z = readWith guessP [] := ⟨_, rfl⟩
 refine qo hnt rfl (s_callF rfl rfl rfl (T.leL (args := [pNil]) (args' := [pS 1 false enc8 []]) ⟨le_F (FLe.nil 1 false), trivial⟩ (w_pdu_Read [] false R2 hR2 (by first | omega | assumption | (simp; omega) | decide | (simp; done)))) rfl ?_)
 refine qm hnt rfl rfl ?_
 refine qo hnt rfl (s_extract rfl rfl ?_)
 refine qo hnt rfl (s_extract rfl rfl ?_)
 refine qo hnt rfl (s_alloc tab_27 ?_)
 refine qo hnt rfl (s_store_ptr tab_27 rfl rfl rfl rfl rfl (Nat.le_of_ble_eq_true rfl) ?_)
 refine qa hnt rfl rfl ?_
 refine r_set [(1, PV.ptr 1 0), (2, pS 1 false enc8 (bytesR (⟨23, 3, 6, 14, 0, [], ([255, 1] : List UInt16), 0, 0⟩ : TRequest))), (3, pI (rightR (⟨23, 3, 6, 14, 0, [], ([255, 1] : List UInt16), 0, 0⟩ : TRequest))), (4, PV.ptr 2 0), (5, pI R1.2), (7, pI R2.2)] [(3, .obj [pI R2.1.fn, pI R2.1.at_, pI R2.1.count, pI R2.1.wAt, pI R2.1.sub, pS 1 false encBo R2.1.bits, pS 1 false enc16 R2.1.vals, p16 R2.1.and_, p16 R2.1.or_]), (2, .obj [pI R1.1.fn, pI R1.1.at_, pI R1.1.count, pI R1.1.wAt, pI R1.1.sub, pS 1 false encBo R1.1.bits, pS 1 false enc16 R1.1.vals, p16 R1.1.and_, p16 R1.1.or_]), (0, oB false 1 enc16 ([255, 1] : List UInt16)), (1, .obj [pI 23, pI 3, pI 6, pI 14, pI 0, pNil, PV.ref 0 0 none, p16 0, p16 0])] 4 ⟨rfl, rfl, rfl, rfl, rfl, rfl, trivial⟩ rfl rfl ?_
 refine r_end ?_
 refine q_then ?_
 refine w_seq ?_
 have hr2 : R2 = (zeroQ, 13) := by rw [hR2]; decide +kernel
 refine w_R ?_
 refine qo hnt rfl (s_mkM (f := enc8) ([7] : List UInt8) tab_34 rfl tab_5 ⟨rfl, by decide⟩ (by decide) rfl rfl rfl rfl ?_)
 obtain ⟨R3, hR3⟩ : ∃ z : TRequest × Int, z = readWith guessP ([7] : List UInt8) := ⟨_, rfl⟩
 refine qo hnt rfl (s_callX (r2 := PV.tup [PV.f (eRequest R3.1), pI R3.2]) (nx1 := 5) (H2 := [(4, oB false 1 enc8 ([7] : List UInt8)), (3, .obj [pI R2.1.fn, pI R2.1.at_, pI R2.1.count, pI R2.1.wAt, pI R2.1.sub, pS 1 false encBo R2.1.bits, pS 1 false enc16 R2.1.vals, p16 R2.1.and_, p16 R2.1.or_]), (2, .obj [pI R1.1.fn, pI R1.1.at_, pI R1.1.count, pI R1.1.wAt, pI R1.1.sub, pS 1 false encBo R1.1.bits, pS 1 false enc16 R1.1.vals, p16 R1.1.and_, p16 R1.1.or_]), (0, oB false 1 enc16 ([255, 1] : List UInt16)), (1, .obj [pI 23, pI 3, pI 6, pI 14, pI 0, pNil, PV.ref 0 0 none, p16 0, p16 0])]) (H3 := [(4, oB false 1 enc8 ([7] : List UInt8)), (3, .obj [pI R2.1.fn, pI R2.1.at_, pI R2.1.count, pI R2.1.wAt, pI R2.1.sub, pS 1 false encBo R2.1.bits, pS 1 false enc16 R2.1.vals, p16 R2.1.and_, p16 R2.1.or_]), (2, .obj [pI R1.1.fn, pI R1.1.at_, pI R1.1.count, pI R1.1.wAt, pI R1.1.sub, pS 1 false encBo R1.1.bits, pS 1 false enc16 R1.1.vals, p16 R1.1.and_, p16 R1.1.or_]), (0, oB false 1 enc16 ([255, 1] : List UInt16)), (1, .obj [pI 23, pI 3, pI 6, pI 14, pI 0, pNil, PV.ref 0 0 none, p16 0, p16 0])]) [] [] rfl rfl rfl (handed_of (by decide) trivial) rfl rfl rfl rfl rfl rfl (w_pdu_Read ([7] : List UInt8) false R3 hR3 (by first | omega | assumption | (simp; omega) | decide | (simp; done))) rfl (dist_of rfl) rfl rfl rfl rfl ?_)
 refine qm hnt rfl rfl ?_
 refine qo hnt rfl (s_extract rfl rfl ?_)
 refine qo hnt rfl (s_extract rfl rfl ?_)
 refine qo hnt rfl (s_alloc tab_27 ?_)
 refine qo hnt rfl (s_store_ptr tab_27 rfl rfl rfl rfl rfl (Nat.le_of_ble_eq_true rfl) ?_)
 refine qa hnt rfl rfl ?_
 refine r_set [(1, PV.ptr 1 0), (2, pS 1 false enc8 (bytesR (⟨23, 3, 6, 14, 0, [], ([255, 1] : List UInt16), 0, 0⟩ : TRequest))), (3, pI (rightR (⟨23, 3, 6, 14, 0, [], ([255, 1] : List UInt16), 0, 0⟩ : TRequest))), (4, PV.ptr 2 0), (5, pI R1.2), (7, pI R2.2), (9, pI R3.2)] [(5, .obj [pI R3.1.fn, pI R3.1.at_, pI R3.1.count, pI R3.1.wAt, pI R3.1.sub, pS 1 false encBo R3.1.bits, pS 1 false enc16 R3.1.vals, p16 R3.1.and_, p16 R3.1.or_]), (4, oB false 1 enc8 ([7] : List UInt8)), (3, .obj [pI R2.1.fn, pI R2.1.at_, pI R2.1.count, pI R2.1.wAt, pI R2.1.sub, pS 1 false encBo R2.1.bits, pS 1 false enc16 R2.1.vals, p16 R2.1.and_, p16 R2.1.or_]), (2, .obj [pI R1.1.fn, pI R1.1.at_, pI R1.1.count, pI R1.1.wAt, pI R1.1.sub, pS 1 false encBo R1.1.bits, pS 1 false enc16 R1.1.vals, p16 R1.1.and_, p16 R1.1.or_]), (0, oB false 1 enc16 ([255, 1] : List UInt16)), (1, .obj [pI 23, pI 3, pI 6, pI 14, pI 0, pNil, PV.ref 0 0 none, p16 0, p16 0])] 6 ⟨rfl, rfl, rfl, rfl, rfl, rfl, rfl, trivial⟩ rfl rfl ?_
 refine r_end ?_
 refine q_then ?_
 refine w_seq ?_
 have hr3 : R3 = (zeroQ, 15) := by rw [hR3]; decide +kernel
 refine w_R ?_
 refine qo hnt rfl (s_mkM (f := enc8) ([1, 0, 0, 0] : List UInt8) tab_34 rfl tab_5 ⟨rfl, by decide⟩ (by decide) rfl rfl rfl rfl ?_)
 obtain ⟨R4, hR4⟩ : ∃ z : TRequest × Int, z = readWith guessP ([1, 0, 0, 0] : List UInt8) := ⟨_, rfl⟩
 refine qo hnt rfl (s_callX (r2 := PV.tup [PV.f (eRequest R4.1), pI R4.2]) (nx1 := 7) (H2 := [(6, oB false 1 enc8 ([1, 0, 0, 0] : List UInt8)), (5, .obj [pI R3.1.fn, pI R3.1.at_, pI R3.1.count, pI R3.1.wAt, pI R3.1.sub, pS 1 false encBo R3.1.bits, pS 1 false enc16 R3.1.vals, p16 R3.1.and_, p16 R3.1.or_]), (4, oB false 1 enc8 ([7] : List UInt8)), (3, .obj [pI R2.1.fn, pI R2.1.at_, pI R2.1.count, pI R2.1.wAt, pI R2.1.sub, pS 1 false encBo R2.1.bits, pS 1 false enc16 R2.1.vals, p16 R2.1.and_, p16 R2.1.or_]), (2, .obj [pI R1.1.fn, pI R1.1.at_, pI R1.1.count, pI R1.1.wAt, pI R1.1.sub, pS 1 false encBo R1.1.bits, pS 1 false enc16 R1.1.vals, p16 R1.1.and_, p16 R1.1.or_]), (0, oB false 1 enc16 ([255, 1] : List UInt16)), (1, .obj [pI 23, pI 3, pI 6, pI 14, pI 0, pNil, PV.ref 0 0 none, p16 0, p16 0])]) (H3 := [(6, oB false 1 enc8 ([1, 0, 0, 0] : List UInt8)), (5, .obj [pI R3.1.fn, pI R3.1.at_, pI R3.1.count, pI R3.1.wAt, pI R3.1.sub, pS 1 false encBo R3.1.bits, pS 1 false enc16 R3.1.vals, p16 R3.1.and_, p16 R3.1.or_]), (4, oB false 1 enc8 ([7] : List UInt8)), (3, .obj [pI R2.1.fn, pI R2.1.at_, pI R2.1.count, pI R2.1.wAt, pI R2.1.sub, pS 1 false encBo R2.1.bits, pS 1 false enc16 R2.1.vals, p16 R2.1.and_, p16 R2.1.or_]), (2, .obj [pI R1.1.fn, pI R1.1.at_, pI R1.1.count, pI R1.1.wAt, pI R1.1.sub, pS 1 false encBo R1.1.bits, pS 1 false enc16 R1.1.vals, p16 R1.1.and_, p16 R1.1.or_]), (0, oB false 1 enc16 ([255, 1] : List UInt16)), (1, .obj [pI 23, pI 3, pI 6, pI 14, pI 0, pNil, PV.ref 0 0 none, p16 0, p16 0])]) [] [] rfl rfl rfl (handed_of (by decide) trivial) rfl rfl rfl rfl rfl rfl (w_pdu_Read ([1, 0, 0, 0] : List UInt8) false R4 hR4 (by first | omega | assumption | (simp; omega) | decide | (simp; done))) rfl (dist_of rfl) rfl rfl rfl rfl ?_)
 refine qm hnt rfl rfl ?_
 refine qo hnt rfl (s_extract rfl rfl ?_)
 refine qo hnt rfl (s_extract rfl rfl ?_)
 refine qo hnt rfl (s_alloc tab_27 ?_)
 refine qo hnt rfl (s_store_ptr tab_27 rfl rfl rfl rfl rfl (Nat.le_of_ble_eq_true rfl) ?_)
 refine qa hnt rfl rfl ?_
 refine r_set [(1, PV.ptr 1 0), (2, pS 1 false enc8 (bytesR (⟨23, 3, 6, 14, 0, [], ([255, 1] : List UInt16), 0, 0⟩ : TRequest))), (3, pI (rightR (⟨23, 3, 6, 14, 0, [], ([255, 1] : List UInt16), 0, 0⟩ : TRequest))), (4, PV.ptr 2 0), (5, pI R1.2), (7, pI R2.2), (9, pI R3.2), (11, pI R4.2)] [(7, .obj [pI R4.1.fn, pI R4.1.at_, pI R4.1.count, pI R4.1.wAt, pI R4.1.sub, pS 1 false encBo R4.1.bits, pS 1 false enc16 R4.1.vals, p16 R4.1.and_, p16 R4.1.or_]), (6, oB false 1 enc8 ([1, 0, 0, 0] : List UInt8)), (5, .obj [pI R3.1.fn, pI R3.1.at_, pI R3.1.count, pI R3.1.wAt, pI R3.1.sub, pS 1 false encBo R3.1.bits, pS 1 false enc16 R3.1.vals, p16 R3.1.and_, p16 R3.1.or_]), (4, oB false 1 enc8 ([7] : List UInt8)), (3, .obj [pI R2.1.fn, pI R2.1.at_, pI R2.1.count, pI R2.1.wAt, pI R2.1.sub, pS 1 false encBo R2.1.bits, pS 1 false enc16 R2.1.vals, p16 R2.1.and_, p16 R2.1.or_]), (2, .obj [pI R1.1.fn, pI R1.1.at_, pI R1.1.count, pI R1.1.wAt, pI R1.1.sub, pS 1 false encBo R1.1.bits, pS 1 false enc16 R1.1.vals, p16 R1.1.and_, p16 R1.1.or_]), (0, oB false 1 enc16 ([255, 1] : List UInt16)), (1, .obj [pI 23, pI 3, pI 6, pI 14, pI 0, pNil, PV.ref 0 0 none, p16 0, p16 0])] 8 ⟨rfl, rfl, rfl, rfl, rfl, rfl, rfl, rfl, trivial⟩ rfl rfl ?_
 refine r_end ?_
 refine q_then ?_
 refine w_seq ?_
 have hr4 : R4 = (zeroQ, 12) := by rw [hR4]; decide +kernel
 refine w_R ?_
 refine qo hnt rfl (s_mkM (f := encBo) [true] tab_23 rfl tab_4 ⟨rfl, by decide⟩ (by decide) rfl rfl rfl rfl ?_)
 refine qo hnt rfl (s_build tab_27 rfl rfl (b_cons rfl tab_3 rfl rfl rfl (Nat.le_of_ble_eq_true rfl) (b_cons rfl tab_3 rfl rfl rfl (Nat.le_of_ble_eq_true rfl) (b_cons rfl tab_23 rfl rfl rfl (Nat.le_of_ble_eq_true rfl) (b_nil ?_)))))
 refine qo hnt rfl (s_callX (r2 := PV.tup [pS 1 false enc8 (bytesR (⟨5, 172, 0, 0, 0, [true], [], 0, 0⟩ : TRequest)), pI (rightR (⟨5, 172, 0, 0, 0, [true], [], 0, 0⟩ : TRequest))]) (nx1 := 9) (H2 := [(8, oB false 1 encBo [true]), (7, .obj [pI R4.1.fn, pI R4.1.at_, pI R4.1.count, pI R4.1.wAt, pI R4.1.sub, pS 1 false encBo R4.1.bits, pS 1 false enc16 R4.1.vals, p16 R4.1.and_, p16 R4.1.or_]), (6, oB false 1 enc8 ([1, 0, 0, 0] : List UInt8)), (5, .obj [pI R3.1.fn, pI R3.1.at_, pI R3.1.count, pI R3.1.wAt, pI R3.1.sub, pS 1 false encBo R3.1.bits, pS 1 false enc16 R3.1.vals, p16 R3.1.and_, p16 R3.1.or_]), (4, oB false 1 enc8 ([7] : List UInt8)), (3, .obj [pI R2.1.fn, pI R2.1.at_, pI R2.1.count, pI R2.1.wAt, pI R2.1.sub, pS 1 false encBo R2.1.bits, pS 1 false enc16 R2.1.vals, p16 R2.1.and_, p16 R2.1.or_]), (2, .obj [pI R1.1.fn, pI R1.1.at_, pI R1.1.count, pI R1.1.wAt, pI R1.1.sub, pS 1 false encBo R1.1.bits, pS 1 false enc16 R1.1.vals, p16 R1.1.and_, p16 R1.1.or_]), (0, oB false 1 enc16 ([255, 1] : List UInt16)), (1, .obj [pI 23, pI 3, pI 6, pI 14, pI 0, pNil, PV.ref 0 0 none, p16 0, p16 0])]) (H3 := [(8, oB false 1 encBo [true]), (7, .obj [pI R4.1.fn, pI R4.1.at_, pI R4.1.count, pI R4.1.wAt, pI R4.1.sub, pS 1 false encBo R4.1.bits, pS 1 false enc16 R4.1.vals, p16 R4.1.and_, p16 R4.1.or_]), (6, oB false 1 enc8 ([1, 0, 0, 0] : List UInt8)), (5, .obj [pI R3.1.fn, pI R3.1.at_, pI R3.1.count, pI R3.1.wAt, pI R3.1.sub, pS 1 false encBo R3.1.bits, pS 1 false enc16 R3.1.vals, p16 R3.1.and_, p16 R3.1.or_]), (4, oB false 1 enc8 ([7] : List UInt8)), (3, .obj [pI R2.1.fn, pI R2.1.at_, pI R2.1.count, pI R2.1.wAt, pI R2.1.sub, pS 1 false encBo R2.1.bits, pS 1 false enc16 R2.1.vals, p16 R2.1.and_, p16 R2.1.or_]), (2, .obj [pI R1.1.fn, pI R1.1.at_, pI R1.1.count, pI R1.1.wAt, pI R1.1.sub, pS 1 false encBo R1.1.bits, pS 1 false enc16 R1.1.vals, p16 R1.1.and_, p16 R1.1.or_]), (0, oB false 1 enc16 ([255, 1] : List UInt16)), (1, .obj [pI 23, pI 3, pI 6, pI 14, pI 0, pNil, PV.ref 0 0 none, p16 0, p16 0])]) [] [] rfl rfl rfl (handed_of (by decide) trivial) rfl rfl rfl rfl rfl rfl (T.leL (args := [PV.f (.agg [encI 5, encI 172, encI 0, encI 0, encI 0, FV.sl 1 false (List.map encBo [true]), FV.v (.slice none 0 0), enc16 0, enc16 0])]) (args' := [PV.f (eRequest (⟨5, 172, 0, 0, 0, [true], [], 0, 0⟩ : TRequest))]) ⟨le_F (FLe.agg ⟨FLe.refl _, FLe.refl _, FLe.refl _, FLe.refl _, FLe.refl _, FLe.refl _, FLe.nil 1 false, FLe.refl _, FLe.refl _, trivial⟩), trivial⟩ (w_pdu_Bytes (⟨5, 172, 0, 0, 0, [true], [], 0, 0⟩ : TRequest) (by first | omega | assumption | (simp; omega) | decide | (simp; done)) (by first | omega | assumption | (simp; omega) | decide | (simp; done)))) rfl (dist_of rfl) rfl rfl rfl rfl ?_)
 refine qm hnt rfl rfl ?_
 refine qo hnt rfl (s_extract rfl rfl ?_)
 refine qo hnt rfl (s_extract rfl rfl ?_)
 refine qa hnt rfl rfl ?_
 refine qa hnt rfl rfl ?_
 refine r_set [(1, PV.ptr 1 0), (2, pS 1 false enc8 (bytesR (⟨23, 3, 6, 14, 0, [], ([255, 1] : List UInt16), 0, 0⟩ : TRequest))), (3, pI (rightR (⟨23, 3, 6, 14, 0, [], ([255, 1] : List UInt16), 0, 0⟩ : TRequest))), (4, PV.ptr 2 0), (5, pI R1.2), (7, pI R2.2), (9, pI R3.2), (11, pI R4.2), (12, pS 1 false enc8 (bytesR (⟨5, 172, 0, 0, 0, [true], [], 0, 0⟩ : TRequest))), (13, pI (rightR (⟨5, 172, 0, 0, 0, [true], [], 0, 0⟩ : TRequest)))] [(8, oB false 1 encBo [true]), (7, .obj [pI R4.1.fn, pI R4.1.at_, pI R4.1.count, pI R4.1.wAt, pI R4.1.sub, pS 1 false encBo R4.1.bits, pS 1 false enc16 R4.1.vals, p16 R4.1.and_, p16 R4.1.or_]), (6, oB false 1 enc8 ([1, 0, 0, 0] : List UInt8)), (5, .obj [pI R3.1.fn, pI R3.1.at_, pI R3.1.count, pI R3.1.wAt, pI R3.1.sub, pS 1 false encBo R3.1.bits, pS 1 false enc16 R3.1.vals, p16 R3.1.and_, p16 R3.1.or_]), (4, oB false 1 enc8 ([7] : List UInt8)), (3, .obj [pI R2.1.fn, pI R2.1.at_, pI R2.1.count, pI R2.1.wAt, pI R2.1.sub, pS 1 false encBo R2.1.bits, pS 1 false enc16 R2.1.vals, p16 R2.1.and_, p16 R2.1.or_]), (2, .obj [pI R1.1.fn, pI R1.1.at_, pI R1.1.count, pI R1.1.wAt, pI R1.1.sub, pS 1 false encBo R1.1.bits, pS 1 false enc16 R1.1.vals, p16 R1.1.and_, p16 R1.1.or_]), (0, oB false 1 enc16 ([255, 1] : List UInt16)), (1, .obj [pI 23, pI 3, pI 6, pI 14, pI 0, pNil, PV.ref 0 0 none, p16 0, p16 0])] 9 ⟨rfl, rfl, rfl, rfl, rfl, rfl, rfl, rfl, rfl, rfl, trivial⟩ rfl rfl ?_
 refine r_end ?_
 refine q_then ?_
 refine w_seq ?_
 refine w_R ?_
 refine qm hnt rfl rfl ?_
 refine qo hnt rfl (s_eql rfl rfl ?_)
 refine qm hnt rfl rfl ?_
 refine r_if tabOk hnt rfl rfl rfl (fun g1 => ?_) (fun g1 => ?_)
 ·
  have g1' := g1
  try simp only [sB] at g1'
  refine qm hnt rfl rfl ?_
  refine ry hnt rfl rfl rfl g1 ?_
  refine qo hnt rfl (s_cvT tab_34 tab_9 rfl tab_5 rfl rfl (hM_sl (f := enc8) rfl) ?_)
  refine ry hnt rfl rfl rfl g1 ?_
  refine qo hnt rfl (s_eqtext (l := bytesR (⟨23, 3, 6, 14, 0, [], ([255, 1] : List UInt16), 0, 0⟩ : TRequest)) (m := ([23, 0, 3, 0, 6, 0, 14, 0, 2, 4, 0, 255, 0, 1] : List UInt8)) rfl rfl ?_)
  refine qo hnt rfl (s_pick_t rfl g1 rfl ?_)
  refine qm hnt rfl rfl ?_
  refine r_if tabOk hnt rfl rfl rfl (fun g2 => ?_) (fun g2 => ?_)
  ·
   have g2' := g2
   try simp only [sB] at g2'
   refine qm hnt rfl rfl ?_
   refine ry hnt rfl rfl rfl g2 ?_
   refine qo hnt rfl (s_eql rfl rfl ?_)
   refine qo hnt rfl (s_pick_t rfl g2 rfl ?_)
   refine qm hnt rfl rfl ?_
   refine r_if tabOk hnt rfl rfl rfl (fun g3 => ?_) (fun g3 => ?_)
   ·
    have g3' := g3
    try simp only [sB] at g3'
    refine qo hnt rfl (s_load_ptr tab_27 rfl rfl rfl (Nat.le_of_ble_eq_true rfl) ?_)
    refine ry hnt rfl rfl rfl g3 ?_
    refine qo hnt rfl (s_load_ptr tab_27 rfl rfl rfl (Nat.le_of_ble_eq_true rfl) ?_)
    refine ry hnt rfl rfl rfl g3 ?_
    refine qo hnt rfl (s_callX (r2 := pB (decide ((⟨23, 3, 6, 14, 0, [], ([255, 1] : List UInt16), 0, 0⟩ : TRequest) = (⟨R1.1.fn, R1.1.at_, R1.1.count, R1.1.wAt, R1.1.sub, R1.1.bits, R1.1.vals, R1.1.and_, R1.1.or_⟩ : TRequest)))) (nx1 := 9) (H2 := [(0, oB false 1 enc16 ([255, 1] : List UInt16)), (8, oB false 1 encBo [true]), (7, .obj [pI R4.1.fn, pI R4.1.at_, pI R4.1.count, pI R4.1.wAt, pI R4.1.sub, pS 1 false encBo R4.1.bits, pS 1 false enc16 R4.1.vals, p16 R4.1.and_, p16 R4.1.or_]), (6, oB false 1 enc8 ([1, 0, 0, 0] : List UInt8)), (5, .obj [pI R3.1.fn, pI R3.1.at_, pI R3.1.count, pI R3.1.wAt, pI R3.1.sub, pS 1 false encBo R3.1.bits, pS 1 false enc16 R3.1.vals, p16 R3.1.and_, p16 R3.1.or_]), (4, oB false 1 enc8 ([7] : List UInt8)), (3, .obj [pI R2.1.fn, pI R2.1.at_, pI R2.1.count, pI R2.1.wAt, pI R2.1.sub, pS 1 false encBo R2.1.bits, pS 1 false enc16 R2.1.vals, p16 R2.1.and_, p16 R2.1.or_]), (2, .obj [pI R1.1.fn, pI R1.1.at_, pI R1.1.count, pI R1.1.wAt, pI R1.1.sub, pS 1 false encBo R1.1.bits, pS 1 false enc16 R1.1.vals, p16 R1.1.and_, p16 R1.1.or_]), (1, .obj [pI 23, pI 3, pI 6, pI 14, pI 0, pNil, PV.ref 0 0 none, p16 0, p16 0])]) (H3 := [(0, oB false 1 enc16 ([255, 1] : List UInt16)), (8, oB false 1 encBo [true]), (7, .obj [pI R4.1.fn, pI R4.1.at_, pI R4.1.count, pI R4.1.wAt, pI R4.1.sub, pS 1 false encBo R4.1.bits, pS 1 false enc16 R4.1.vals, p16 R4.1.and_, p16 R4.1.or_]), (6, oB false 1 enc8 ([1, 0, 0, 0] : List UInt8)), (5, .obj [pI R3.1.fn, pI R3.1.at_, pI R3.1.count, pI R3.1.wAt, pI R3.1.sub, pS 1 false encBo R3.1.bits, pS 1 false enc16 R3.1.vals, p16 R3.1.and_, p16 R3.1.or_]), (4, oB false 1 enc8 ([7] : List UInt8)), (3, .obj [pI R2.1.fn, pI R2.1.at_, pI R2.1.count, pI R2.1.wAt, pI R2.1.sub, pS 1 false encBo R2.1.bits, pS 1 false enc16 R2.1.vals, p16 R2.1.and_, p16 R2.1.or_]), (2, .obj [pI R1.1.fn, pI R1.1.at_, pI R1.1.count, pI R1.1.wAt, pI R1.1.sub, pS 1 false encBo R1.1.bits, pS 1 false enc16 R1.1.vals, p16 R1.1.and_, p16 R1.1.or_]), (1, .obj [pI 23, pI 3, pI 6, pI 14, pI 0, pNil, PV.ref 0 0 none, p16 0, p16 0])]) [] [] rfl rfl rfl (handed_of (by decide) trivial) rfl rfl rfl rfl rfl rfl (T.leL (args := [PV.f (.agg [encI 23, encI 3, encI 6, encI 14, encI 0, FV.v (.slice none 0 0), FV.sl 1 false (List.map enc16 ([255, 1] : List UInt16)), enc16 0, enc16 0]), PV.f (.agg [encI R1.1.fn, encI R1.1.at_, encI R1.1.count, encI R1.1.wAt, encI R1.1.sub, FV.sl 1 false (List.map encBo R1.1.bits), FV.sl 1 false (List.map enc16 R1.1.vals), enc16 R1.1.and_, enc16 R1.1.or_])]) (args' := [PV.f (eRequest (⟨23, 3, 6, 14, 0, [], ([255, 1] : List UInt16), 0, 0⟩ : TRequest)), PV.f (eRequest (⟨R1.1.fn, R1.1.at_, R1.1.count, R1.1.wAt, R1.1.sub, R1.1.bits, R1.1.vals, R1.1.and_, R1.1.or_⟩ : TRequest))]) ⟨le_F (FLe.agg ⟨FLe.refl _, FLe.refl _, FLe.refl _, FLe.refl _, FLe.refl _, FLe.nil 1 false, FLe.refl _, FLe.refl _, FLe.refl _, trivial⟩), ⟨le_refl _, trivial⟩⟩ (w_burgageref3_Same (⟨23, 3, 6, 14, 0, [], ([255, 1] : List UInt16), 0, 0⟩ : TRequest) (⟨R1.1.fn, R1.1.at_, R1.1.count, R1.1.wAt, R1.1.sub, R1.1.bits, R1.1.vals, R1.1.and_, R1.1.or_⟩ : TRequest) (by first | omega | assumption | (simp; omega) | decide | (simp; done)))) rfl (dist_of rfl) rfl rfl rfl rfl ?_)
    refine qo hnt rfl (s_pick_t rfl g3 rfl ?_)
    refine qm hnt rfl rfl ?_
    refine r_if tabOk hnt rfl rfl rfl (fun g4 => ?_) (fun g4 => ?_)
    ·
     have g4' := g4
     try simp only [sB] at g4'
     refine qm hnt rfl rfl ?_
     refine ry hnt rfl rfl rfl g4 ?_
     refine qo hnt rfl (s_eql rfl rfl ?_)
     refine qo hnt rfl (s_pick_t rfl g4 rfl ?_)
     refine qm hnt rfl rfl ?_
     refine r_if tabOk hnt rfl rfl rfl (fun g5 => ?_) (fun g5 => ?_)
     ·
      have g5' := g5
      try simp only [sB] at g5'
      refine qm hnt rfl rfl ?_
      refine ry hnt rfl rfl rfl g5 ?_
      refine qo hnt rfl (s_eql rfl rfl ?_)
      refine qo hnt rfl (s_pick_t rfl g5 rfl ?_)
      refine qm hnt rfl rfl ?_
      refine r_if tabOk hnt rfl rfl rfl (fun g6 => ?_) (fun g6 => ?_)
      ·
       have g6' := g6
       try simp only [sB] at g6'
       refine qm hnt rfl rfl ?_
       refine ry hnt rfl rfl rfl g6 ?_
       refine qo hnt rfl (s_eql rfl rfl ?_)
       refine qo hnt rfl (s_pick_t rfl g6 rfl ?_)
       refine qm hnt rfl rfl ?_
       refine r_if tabOk hnt rfl rfl rfl (fun g7 => ?_) (fun g7 => ?_)
       ·
        have g7' := g7
        try simp only [sB] at g7'
        refine qm hnt rfl rfl ?_
        refine ry hnt rfl rfl rfl g7 ?_
        refine qo hnt rfl (s_eql rfl rfl ?_)
        refine qo hnt rfl (s_pick_t rfl g7 rfl ?_)
        refine qm hnt rfl rfl ?_
        refine r_if tabOk hnt rfl rfl rfl (fun g8 => ?_) (fun g8 => ?_)
        ·
         have g8' := g8
         try simp only [sB] at g8'
         refine qm hnt rfl rfl ?_
         refine ry hnt rfl rfl rfl g8 ?_
         refine qo hnt rfl (s_cvT tab_34 tab_9 rfl tab_5 rfl rfl (hM_sl (f := enc8) rfl) ?_)
         refine ry hnt rfl rfl rfl g8 ?_
         refine qo hnt rfl (s_eqtext (l := bytesR (⟨5, 172, 0, 0, 0, [true], [], 0, 0⟩ : TRequest)) (m := ([5, 0, 172, 255, 0] : List UInt8)) rfl rfl ?_)
         refine qo hnt rfl (s_pick_t rfl g8 rfl ?_)
         refine qm hnt rfl rfl ?_
         refine r_if tabOk hnt rfl rfl rfl (fun g9 => ?_) (fun g9 => ?_)
         ·
          have g9' := g9
          try simp only [sB] at g9'
          refine qo hnt rfl (s_load_ptr tab_27 rfl rfl rfl (Nat.le_of_ble_eq_true rfl) ?_)
          refine ry hnt rfl rfl rfl g9 ?_
          refine qo hnt rfl (s_callX (r2 := pB (countsR (⟨23, 3, 6, 14, 0, [], ([255, 1] : List UInt16), 0, 0⟩ : TRequest))) (nx1 := 9) (H2 := [(0, oB false 1 enc16 ([255, 1] : List UInt16)), (8, oB false 1 encBo [true]), (7, .obj [pI R4.1.fn, pI R4.1.at_, pI R4.1.count, pI R4.1.wAt, pI R4.1.sub, pS 1 false encBo R4.1.bits, pS 1 false enc16 R4.1.vals, p16 R4.1.and_, p16 R4.1.or_]), (6, oB false 1 enc8 ([1, 0, 0, 0] : List UInt8)), (5, .obj [pI R3.1.fn, pI R3.1.at_, pI R3.1.count, pI R3.1.wAt, pI R3.1.sub, pS 1 false encBo R3.1.bits, pS 1 false enc16 R3.1.vals, p16 R3.1.and_, p16 R3.1.or_]), (4, oB false 1 enc8 ([7] : List UInt8)), (3, .obj [pI R2.1.fn, pI R2.1.at_, pI R2.1.count, pI R2.1.wAt, pI R2.1.sub, pS 1 false encBo R2.1.bits, pS 1 false enc16 R2.1.vals, p16 R2.1.and_, p16 R2.1.or_]), (2, .obj [pI R1.1.fn, pI R1.1.at_, pI R1.1.count, pI R1.1.wAt, pI R1.1.sub, pS 1 false encBo R1.1.bits, pS 1 false enc16 R1.1.vals, p16 R1.1.and_, p16 R1.1.or_]), (1, .obj [pI 23, pI 3, pI 6, pI 14, pI 0, pNil, PV.ref 0 0 none, p16 0, p16 0])]) (H3 := [(0, oB false 1 enc16 ([255, 1] : List UInt16)), (8, oB false 1 encBo [true]), (7, .obj [pI R4.1.fn, pI R4.1.at_, pI R4.1.count, pI R4.1.wAt, pI R4.1.sub, pS 1 false encBo R4.1.bits, pS 1 false enc16 R4.1.vals, p16 R4.1.and_, p16 R4.1.or_]), (6, oB false 1 enc8 ([1, 0, 0, 0] : List UInt8)), (5, .obj [pI R3.1.fn, pI R3.1.at_, pI R3.1.count, pI R3.1.wAt, pI R3.1.sub, pS 1 false encBo R3.1.bits, pS 1 false enc16 R3.1.vals, p16 R3.1.and_, p16 R3.1.or_]), (4, oB false 1 enc8 ([7] : List UInt8)), (3, .obj [pI R2.1.fn, pI R2.1.at_, pI R2.1.count, pI R2.1.wAt, pI R2.1.sub, pS 1 false encBo R2.1.bits, pS 1 false enc16 R2.1.vals, p16 R2.1.and_, p16 R2.1.or_]), (2, .obj [pI R1.1.fn, pI R1.1.at_, pI R1.1.count, pI R1.1.wAt, pI R1.1.sub, pS 1 false encBo R1.1.bits, pS 1 false enc16 R1.1.vals, p16 R1.1.and_, p16 R1.1.or_]), (1, .obj [pI 23, pI 3, pI 6, pI 14, pI 0, pNil, PV.ref 0 0 none, p16 0, p16 0])]) [] [] rfl rfl rfl (handed_of (by decide) trivial) rfl rfl rfl rfl rfl rfl (T.leL (args := [PV.f (.agg [encI 23, encI 3, encI 6, encI 14, encI 0, FV.v (.slice none 0 0), FV.sl 1 false (List.map enc16 ([255, 1] : List UInt16)), enc16 0, enc16 0])]) (args' := [PV.f (eRequest (⟨23, 3, 6, 14, 0, [], ([255, 1] : List UInt16), 0, 0⟩ : TRequest))]) ⟨le_F (FLe.agg ⟨FLe.refl _, FLe.refl _, FLe.refl _, FLe.refl _, FLe.refl _, FLe.nil 1 false, FLe.refl _, FLe.refl _, FLe.refl _, trivial⟩), trivial⟩ (w_pdu_Counts (⟨23, 3, 6, 14, 0, [], ([255, 1] : List UInt16), 0, 0⟩ : TRequest) (by first | omega | assumption | (simp; omega) | decide | (simp; done)) (by first | omega | assumption | (simp; omega) | decide | (simp; done)))) rfl (dist_of rfl) rfl rfl rfl rfl ?_)
          refine qo hnt rfl (s_pick_t rfl g9 rfl ?_)
          refine qm hnt rfl rfl ?_
          refine r_if tabOk hnt rfl rfl rfl (fun g10 => ?_) (fun g10 => ?_)
          ·
           have g10' := g10
           try simp only [sB] at g10'
           refine qo hnt rfl (s_build tab_27 rfl rfl (b_cons rfl tab_3 rfl rfl rfl (Nat.le_of_ble_eq_true rfl) (b_nil ?_)))
           refine ry hnt rfl rfl rfl g10 ?_
           refine qo hnt rfl (s_callF rfl rfl rfl (T.leL (args := [PV.f (.agg [encI 1, encI 0, encI 0, encI 0, encI 0, FV.v (.slice none 0 0), FV.v (.slice none 0 0), enc16 0, enc16 0])]) (args' := [PV.f (eRequest (⟨1, 0, 0, 0, 0, [], [], 0, 0⟩ : TRequest))]) ⟨le_F (FLe.agg ⟨FLe.refl _, FLe.refl _, FLe.refl _, FLe.refl _, FLe.refl _, FLe.nil 1 false, FLe.nil 1 false, FLe.refl _, FLe.refl _, trivial⟩), trivial⟩ (w_pdu_Counts (⟨1, 0, 0, 0, 0, [], [], 0, 0⟩ : TRequest) (by first | omega | assumption | (simp; omega) | decide | (simp; done)) (by first | omega | assumption | (simp; omega) | decide | (simp; done)))) rfl ?_)
           refine ry hnt rfl rfl rfl g10 ?_
           refine qo hnt rfl (s_not rfl ?_)
           refine qo hnt rfl (s_pick_t rfl g10 rfl ?_)
           refine qm hnt rfl rfl ?_
           refine r_if tabOk hnt rfl rfl rfl (fun g11 => ?_) (fun g11 => ?_)
           ·
            have g11' := g11
            try simp only [sB] at g11'
            refine qo hnt rfl (s_build tab_27 rfl rfl (b_nil ?_))
            refine ry hnt rfl rfl rfl g11 ?_
            refine qo hnt rfl (s_callF rfl rfl rfl (T.leL (args := [PV.f (.agg [encI 0, encI 0, encI 0, encI 0, encI 0, FV.v (.slice none 0 0), FV.v (.slice none 0 0), enc16 0, enc16 0])]) (args' := [PV.f (eRequest (⟨0, 0, 0, 0, 0, [], [], 0, 0⟩ : TRequest))]) ⟨le_F (FLe.agg ⟨FLe.refl _, FLe.refl _, FLe.refl _, FLe.refl _, FLe.refl _, FLe.nil 1 false, FLe.nil 1 false, FLe.refl _, FLe.refl _, trivial⟩), trivial⟩ (w_pdu_Counts (⟨0, 0, 0, 0, 0, [], [], 0, 0⟩ : TRequest) (by first | omega | assumption | (simp; omega) | decide | (simp; done)) (by first | omega | assumption | (simp; omega) | decide | (simp; done)))) rfl ?_)
            refine ry hnt rfl rfl rfl g11 ?_
            refine qo hnt rfl (s_not rfl ?_)
            refine qo hnt rfl (s_pick_t rfl g11 rfl ?_)
            refine qm hnt rfl rfl ?_
            refine r_if tabOk hnt rfl rfl rfl (fun g12 => ?_) (fun g12 => ?_)
            ·
             have g12' := g12
             try simp only [sB] at g12'
             refine qo hnt rfl (s_build tab_27 rfl rfl (b_cons rfl tab_3 rfl rfl rfl (Nat.le_of_ble_eq_true rfl) (b_cons rfl tab_3 rfl rfl rfl (Nat.le_of_ble_eq_true rfl) (b_nil ?_))))
             refine ry hnt rfl rfl rfl g12 ?_
             refine qo hnt rfl (s_callF rfl rfl rfl (T.leL (args := [PV.f (.agg [encI 17, encI 1, encI 0, encI 0, encI 0, FV.v (.slice none 0 0), FV.v (.slice none 0 0), enc16 0, enc16 0])]) (args' := [PV.f (eRequest (⟨17, 1, 0, 0, 0, [], [], 0, 0⟩ : TRequest))]) ⟨le_F (FLe.agg ⟨FLe.refl _, FLe.refl _, FLe.refl _, FLe.refl _, FLe.refl _, FLe.nil 1 false, FLe.nil 1 false, FLe.refl _, FLe.refl _, trivial⟩), trivial⟩ (w_pdu_Right (⟨17, 1, 0, 0, 0, [], [], 0, 0⟩ : TRequest) (by first | omega | assumption | (simp; omega) | decide | (simp; done)) (by first | omega | assumption | (simp; omega) | decide | (simp; done)))) rfl ?_)
             refine ry hnt rfl rfl rfl g12 ?_
             refine qo hnt rfl (s_eql rfl rfl ?_)
             refine qo hnt rfl (s_pick_t rfl g12 rfl ?_)
             refine qa hnt rfl rfl ?_
             refine r_set [(0, pB (decide (rightR (⟨17, 1, 0, 0, 0, [], [], 0, 0⟩ : TRequest) = 12)))] [(0, oB false 1 enc16 ([255, 1] : List UInt16)), (8, oB false 1 encBo [true]), (7, .obj [pI R4.1.fn, pI R4.1.at_, pI R4.1.count, pI R4.1.wAt, pI R4.1.sub, pS 1 false encBo R4.1.bits, pS 1 false enc16 R4.1.vals, p16 R4.1.and_, p16 R4.1.or_]), (6, oB false 1 enc8 ([1, 0, 0, 0] : List UInt8)), (5, .obj [pI R3.1.fn, pI R3.1.at_, pI R3.1.count, pI R3.1.wAt, pI R3.1.sub, pS 1 false encBo R3.1.bits, pS 1 false enc16 R3.1.vals, p16 R3.1.and_, p16 R3.1.or_]), (4, oB false 1 enc8 ([7] : List UInt8)), (3, .obj [pI R2.1.fn, pI R2.1.at_, pI R2.1.count, pI R2.1.wAt, pI R2.1.sub, pS 1 false encBo R2.1.bits, pS 1 false enc16 R2.1.vals, p16 R2.1.and_, p16 R2.1.or_]), (2, .obj [pI R1.1.fn, pI R1.1.at_, pI R1.1.count, pI R1.1.wAt, pI R1.1.sub, pS 1 false encBo R1.1.bits, pS 1 false enc16 R1.1.vals, p16 R1.1.and_, p16 R1.1.or_]), (1, .obj [pI 23, pI 3, pI 6, pI 14, pI 0, pNil, PV.ref 0 0 none, p16 0, p16 0])] 9 ⟨rfl, trivial⟩ rfl rfl ?_
             refine r_end ?_
             refine q_then ?_
             refine w_le (s := 0) (y := pB true) rfl (le_of_eq (congrArg (fun z : Bool => pB z) (show (decide (rightR (⟨17, 1, 0, 0, 0, [], [], 0, 0⟩ : TRequest) = 12)) = true by first | decide +kernel | (rw [hr1]; decide +kernel) | (rw [hr2]; decide +kernel) | (rw [hr3]; decide +kernel) | (rw [hr4]; decide +kernel) | (simp; done)))) ?_
             refine w_ret ?_
             exact fin_plain (ret_tmp rfl ret_nil) rfl rfl ⟨rfl, rfl, rfl⟩
            ·
             exact absurd g12 (by first | decide +kernel | (rw [hr1]; decide +kernel) | (rw [hr2]; decide +kernel) | (rw [hr3]; decide +kernel) | (rw [hr4]; decide +kernel) | (simp; done))
           ·
            exact absurd g11 (by first | decide +kernel | (rw [hr1]; decide +kernel) | (rw [hr2]; decide +kernel) | (rw [hr3]; decide +kernel) | (rw [hr4]; decide +kernel) | (simp; done))
          ·
           exact absurd g10 (by first | decide +kernel | (rw [hr1]; decide +kernel) | (rw [hr2]; decide +kernel) | (rw [hr3]; decide +kernel) | (rw [hr4]; decide +kernel) | (simp; done))
         ·
          exact absurd g9 (by first | decide +kernel | (rw [hr1]; decide +kernel) | (rw [hr2]; decide +kernel) | (rw [hr3]; decide +kernel) | (rw [hr4]; decide +kernel) | (simp; done))
        ·
         exact absurd g8 (by first | decide +kernel | (rw [hr1]; decide +kernel) | (rw [hr2]; decide +kernel) | (rw [hr3]; decide +kernel) | (rw [hr4]; decide +kernel) | (simp; done))
       ·
        exact absurd g7 (by first | decide +kernel | (rw [hr1]; decide +kernel) | (rw [hr2]; decide +kernel) | (rw [hr3]; decide +kernel) | (rw [hr4]; decide +kernel) | (simp; done))
      ·
       exact absurd g6 (by first | decide +kernel | (rw [hr1]; decide +kernel) | (rw [hr2]; decide +kernel) | (rw [hr3]; decide +kernel) | (rw [hr4]; decide +kernel) | (simp; done))
     ·
      exact absurd g5 (by first | decide +kernel | (rw [hr1]; decide +kernel) | (rw [hr2]; decide +kernel) | (rw [hr3]; decide +kernel) | (rw [hr4]; decide +kernel) | (simp; done))
    ·
     exact absurd g4 (by first | decide +kernel | (rw [hr1]; decide +kernel) | (rw [hr2]; decide +kernel) | (rw [hr3]; decide +kernel) | (rw [hr4]; decide +kernel) | (simp; done))
   ·
    exact absurd g3 (by first | decide +kernel | (rw [hr1]; decide +kernel) | (rw [hr2]; decide +kernel) | (rw [hr3]; decide +kernel) | (rw [hr4]; decide +kernel) | (simp; done))
  ·
   exact absurd g2 (by first | decide +kernel | (rw [hr1]; decide +kernel) | (rw [hr2]; decide +kernel) | (rw [hr3]; decide +kernel) | (rw [hr4]; decide +kernel) | (simp; done))
 ·
  exact absurd g1 (by first | decide +kernel | (rw [hr1]; decide +kernel) | (rw [hr2]; decide +kernel) | (rw [hr3]; decide +kernel) | (rw [hr4]; decide +kernel) | (simp; done))
theorem w_burgagelaw3_PduCounts (t : List Int) (cl_t : Bool) (n : Int) (ht : t.length ≤ 70000000000000) (hn : -9223372036854775808 ≤ n ∧ n ≤ 9223372036854775807) :
    T Try.prog 3 [pS 1 cl_t encI t, pI n] 0 [] (Ret (pB true) 0 []) := by
 refine t_fun tabOk (n := 91) (rs := [.tmp 4]) Try.func3 rfl rfl rfl rfl (Nat.le_of_ble_eq_true rfl) ?_
 intro c hnt hk
 refine w_seq ?_
 refine w_R ?_
 refine qa hnt rfl rfl ?_
 refine r_end ?_
 refine q_then ?_
 refine w_seq ?_
 refine w_R ?_
 refine qm hnt rfl rfl ?_
 refine qo hnt rfl (s_build tab_30 rfl rfl (b_cons rfl tab_22 rfl rfl rfl (Nat.le_of_ble_eq_true rfl) (b_nil ?_)))
 refine qo hnt rfl (s_box rfl rfl ?_)
 refine qo hnt rfl (s_callX2 (p := fun (q1 : TRequest) (b1 : Nat) => rightR q1 = 0 ∧ q1.bits.length ≤ 25 ∧ q1.vals.length ≤ 25 ∧ 0 ≤ q1.count ∧ q1.count ≤ 25) (r2 := fun q1 b1 => PV.f (eRequest q1)) (nx1 := 1) (H2 := [(0, .obj [pS 1 cl_t encI t, pI 0])]) (H3 := fun q1 b1 => [(0, .obj [pS 1 false encI t, pN b1])]) [0] [.obj [pS 1 cl_t encI t, pI 0]] rfl rfl rfl (handed_of (by decide) ⟨rfl, trivial⟩) rfl rfl rfl rfl rfl rfl (w_burgagekeep_Tape_Request t cl_t 0 (by first | omega | assumption | (simp; omega) | decide | (simp; done))) (fun q1 b1 => rfl) (fun q1 b1 => dist_of rfl) (fun q1 b1 => rfl) (fun q1 b1 => rfl) rfl (fun q1 b1 => rfl) (fun q1 b1 hq1 => ?_))
 refine qo hnt rfl (s_alloc tab_27 ?_)
 refine qo hnt rfl (s_store_ptr tab_27 rfl rfl rfl rfl rfl (Nat.le_of_ble_eq_true rfl) ?_)
 refine r_set [(1, pI n), (5, PV.ptr 1 0)] [(1, .obj [pI q1.fn, pI q1.at_, pI q1.count, pI q1.wAt, pI q1.sub, pS 1 false encBo q1.bits, pS 1 false enc16 q1.vals, p16 q1.and_, p16 q1.or_]), (0, .obj [pS 1 false encI t, pN b1])] 2 ⟨rfl, rfl, trivial⟩ rfl rfl ?_
 refine r_end ?_
 refine q_then ?_
 refine w_seq ?_
 obtain ⟨hr1, hqb1, hqv1, hqc1, hqd1⟩ := hq1
 have hbp1 := bytes_pos hr1
 have hbl1 := bytesR_len q1
 refine w_R ?_
 refine qm hnt rfl rfl ?_
 refine qo hnt rfl (s_maskI 11 (by decide) rfl rfl (by decide) ?_)
 refine qa hnt rfl rfl ?_
 refine r_end ?_
 refine q_then ?_
 refine w_seq ?_
 refine w_seq ?_
 obtain ⟨nm, hnm⟩ : ∃ z : Nat, z = (n % 2 ^ 11).toNat := ⟨_, rfl⟩
 refine w_eq (s := 6) (y := pN nm) rfl (congrArg (fun z : Nat => pN z) (show ((n % 2 ^ 11).toNat) = nm by exact hnm.symm)) ?_
 have hnm2 : nm < 2048 := by omega
 refine w_R ?_
 refine qo hnt rfl (s_fa_ptr tab_27 rfl rfl tab_3 (by decide) rfl ?_)
 refine qo hnt rfl (s_load_ptr1 tab_3 rfl rfl rfl rfl rfl ?_)
 refine r_end ?_
 refine q_then ?_
 refine w_block ?_
 refine w_seq ?_
 refine w_seq ?_
 refine w_R ?_
 refine qo hnt rfl (s_eql rfl rfl ?_)
 refine qa hnt rfl rfl ?_
 refine r_end ?_
 refine q_then ?_
 refine w_if rfl (fun c1 => ?_) (fun c1 => ?_)
 ·
  have c1_ := c1
  try simp only [sB] at c1
  refine w_skip ?_
  refine q_then ?_
  refine w_if rfl (fun _ => ?_) (fun e => absurd (e.symm.trans c1_) (by decide))
  refine w_R ?_
  refine qm hnt rfl rfl ?_
  refine qo hnt rfl (s_fa_ptr tab_27 rfl rfl tab_3 (by decide) rfl ?_)
  refine qo hnt rfl (s_store_ptr tab_3 rfl rfl rfl rfl rfl (Nat.le_of_ble_eq_true rfl) ?_)
  refine r_set [(5, PV.ptr 1 0)] [(1, .obj [pI q1.fn, pI q1.at_, pN nm, pI q1.wAt, pI q1.sub, pS 1 false encBo q1.bits, pS 1 false enc16 q1.vals, p16 q1.and_, p16 q1.or_]), (0, .obj [pS 1 false encI t, pN b1])] 2 ⟨rfl, trivial⟩ rfl rfl ?_
  refine r_end ?_
  refine q_block ?_
  refine q_then ?_
  refine w_seq ?_
  refine w_seq ?_
  refine w_R ?_
  refine qo hnt rfl (s_load_ptr tab_27 rfl rfl rfl (Nat.le_of_ble_eq_true rfl) ?_)
  refine qo hnt rfl (s_callF rfl rfl rfl (w_pdu_Counts (⟨q1.fn, q1.at_, ((nm : Nat) : Int), q1.wAt, q1.sub, q1.bits, q1.vals, q1.and_, q1.or_⟩ : TRequest) (by first | omega | assumption | (simp; omega) | decide | (simp; done)) (by first | omega | assumption | (simp; omega) | decide | (simp; done))) rfl ?_)
  refine qo hnt rfl (s_not rfl ?_)
  refine r_end ?_
  refine q_then ?_
  refine w_if rfl (fun c2 => ?_) (fun c2 => ?_)
  ·
   have c2_ := c2
   try simp only [sB] at c2
   refine w_seq ?_
   refine w_R ?_
   refine qo hnt rfl (s_callF rfl rfl rfl (w_burgagelaw3_known) rfl ?_)
   refine qa hnt rfl rfl ?_
   refine r_end ?_
   refine q_then ?_
   refine w_ret ?_
   refine q_then_ret ?_
   exact fin_plain (ret_tmp rfl ret_nil) rfl rfl ⟨rfl, rfl, rfl⟩
  ·
   have c2_ := c2
   try simp only [sB] at c2
   have hcl := counts_len c2
   try simp only at hcl
   obtain ⟨hcr, hcw, hc0, hc6, hc12, hc34⟩ := hcl
   have hbl9 := bytesR_yes hcr
   refine w_skip ?_
   refine q_then ?_
   refine w_seq ?_
   refine w_R ?_
   refine qo hnt rfl (s_load_ptr tab_27 rfl rfl rfl (Nat.le_of_ble_eq_true rfl) ?_)
   refine qo hnt rfl (s_callF rfl rfl rfl (w_pdu_Bytes (⟨q1.fn, q1.at_, ((nm : Nat) : Int), q1.wAt, q1.sub, q1.bits, q1.vals, q1.and_, q1.or_⟩ : TRequest) (by first | omega | assumption | (simp; omega) | decide | (simp; done)) (by first | omega | assumption | (simp; omega) | decide | (simp; done))) rfl ?_)
   refine qm hnt rfl rfl ?_
   refine qo hnt rfl (s_extract rfl rfl ?_)
   refine qo hnt rfl (s_extract rfl rfl ?_)
   refine qa hnt rfl rfl ?_
   refine qa hnt rfl rfl ?_
   refine r_end ?_
   refine q_then ?_
   refine w_seq ?_
   refine w_R ?_
   refine qa hnt rfl rfl ?_
   refine r_end ?_
   refine q_then ?_
   refine w_seq ?_
   refine w_seq ?_
   refine w_R ?_
   refine qo hnt rfl (s_fa_ptr tab_27 rfl rfl tab_3 (by decide) rfl ?_)
   refine qo hnt rfl (s_load_ptr1 tab_3 rfl rfl rfl rfl rfl ?_)
   refine r_end ?_
   refine q_then ?_
   refine w_block ?_
   refine w_seq ?_
   refine w_seq ?_
   refine w_R ?_
   refine qo hnt rfl (s_eql rfl rfl ?_)
   refine qa hnt rfl rfl ?_
   refine r_end ?_
   refine q_then ?_
   refine w_if rfl (fun _ => ?_) (fun e => absurd (e.symm.trans c1_) (by decide))
   refine w_skip ?_
   refine q_then ?_
   refine w_if rfl (fun _ => ?_) (fun e => absurd (e.symm.trans c1_) (by decide))
   refine w_R ?_
   refine qo hnt rfl (s_fa_ptr tab_27 rfl rfl tab_3 (by decide) rfl ?_)
   refine qo hnt rfl (s_load_ptr1 tab_3 rfl rfl rfl rfl rfl ?_)
   refine qo hnt rfl (s_addN (a := nm) (b := 7) rfl rfl (by omega) (by omega) (by omega) ?_)
   refine qo hnt rfl (s_quoN (a := nm + 7) (b := 8) rfl rfl (by omega) (by omega) (by omega) ?_)
   refine qo hnt rfl (s_addN (a := 2) (b := (nm + 7) / 8) rfl rfl (by omega) (by omega) (by omega) ?_)
   refine qa hnt rfl rfl ?_
   refine r_end ?_
   refine q_block ?_
   refine q_then ?_
   refine w_seq ?_
   refine w_R ?_
   refine qm hnt rfl rfl ?_
   refine qo hnt rfl (s_eql rfl rfl ?_)
   refine qm hnt rfl rfl ?_
   refine r_if tabOk hnt rfl rfl rfl (fun g1 => ?_) (fun g1 => ?_)
   ·
    have g1' := g1
    try simp only [sB] at g1'
    refine qm hnt rfl rfl ?_
    refine ry hnt rfl rfl rfl g1 ?_
    refine qo hnt rfl (s_lenM (l := bytesR (⟨q1.fn, q1.at_, ((nm : Nat) : Int), q1.wAt, q1.sub, q1.bits, q1.vals, q1.and_, q1.or_⟩ : TRequest)) tab_34 rfl (hM_sl (f := enc8) rfl) ?_)
    refine ry hnt rfl rfl rfl g1 ?_
    refine qo hnt rfl (s_leq rfl rfl ?_)
    refine qo hnt rfl (s_pick_t rfl g1 rfl ?_)
    refine qm hnt rfl rfl ?_
    refine r_if tabOk hnt rfl rfl rfl (fun g2 => ?_) (fun g2 => ?_)
    ·
     have g2' := g2
     try simp only [sB] at g2'
     refine qm hnt rfl rfl ?_
     refine ry hnt rfl rfl rfl g2 ?_
     refine qo hnt rfl (s_leq rfl rfl ?_)
     refine qo hnt rfl (s_pick_t rfl g2 rfl ?_)
     refine qm hnt rfl rfl ?_
     refine r_if tabOk hnt rfl rfl rfl (fun g3 => ?_) (fun g3 => ?_)
     ·
      have g3' := g3
      try simp only [sB] at g3'
      refine qo hnt rfl (s_callF rfl rfl rfl (w_burgagelaw3_known) rfl ?_)
      refine qo hnt rfl (s_pick_t rfl g3 rfl ?_)
      refine qa hnt rfl rfl ?_
      refine r_set [(4, pB true)] [(1, .obj [pI q1.fn, pI q1.at_, pN nm, pI q1.wAt, pI q1.sub, pS 1 false encBo q1.bits, pS 1 false enc16 q1.vals, p16 q1.and_, p16 q1.or_]), (0, .obj [pS 1 false encI t, pN b1])] 2 ⟨rfl, trivial⟩ rfl rfl ?_
      refine r_end ?_
      refine q_then ?_
      refine w_ret ?_
      exact fin_plain (ret_tmp rfl ret_nil) rfl rfl ⟨rfl, rfl, rfl⟩
     ·
      exact absurd g3 (by first | exact not_dec3 hcr | exact not_dec3 (by rw [hbl9]; omega) | exact not_dec3 (by omega) | (simp; done) | (simp; omega))
    ·
     exact absurd g2 (by first | exact not_dec3 hcr | exact not_dec3 (by rw [hbl9]; omega) | exact not_dec3 (by omega) | (simp; done) | (simp; omega))
   ·
    exact absurd g1 (by first | exact not_dec3 hcr | exact not_dec3 (by rw [hbl9]; omega) | exact not_dec3 (by omega) | (simp; done) | (simp; omega))
 ·
  have c1_ := c1
  try simp only [sB] at c1
  refine w_seq ?_
  refine w_R ?_
  refine qo hnt rfl (s_eql rfl rfl ?_)
  refine qa hnt rfl rfl ?_
  refine r_end ?_
  refine q_then ?_
  refine w_if rfl (fun c3 => ?_) (fun c3 => ?_)
  ·
   have c3_ := c3
   try simp only [sB] at c3
   refine w_skip ?_
   refine q_then ?_
   refine w_if rfl (fun _ => ?_) (fun e => absurd (e.symm.trans c3_) (by decide))
   refine w_R ?_
   refine qm hnt rfl rfl ?_
   refine qo hnt rfl (s_fa_ptr tab_27 rfl rfl tab_3 (by decide) rfl ?_)
   refine qo hnt rfl (s_store_ptr tab_3 rfl rfl rfl rfl rfl (Nat.le_of_ble_eq_true rfl) ?_)
   refine r_set [(5, PV.ptr 1 0)] [(1, .obj [pI q1.fn, pI q1.at_, pN nm, pI q1.wAt, pI q1.sub, pS 1 false encBo q1.bits, pS 1 false enc16 q1.vals, p16 q1.and_, p16 q1.or_]), (0, .obj [pS 1 false encI t, pN b1])] 2 ⟨rfl, trivial⟩ rfl rfl ?_
   refine r_end ?_
   refine q_block ?_
   refine q_then ?_
   refine w_seq ?_
   refine w_seq ?_
   refine w_R ?_
   refine qo hnt rfl (s_load_ptr tab_27 rfl rfl rfl (Nat.le_of_ble_eq_true rfl) ?_)
   refine qo hnt rfl (s_callF rfl rfl rfl (w_pdu_Counts (⟨q1.fn, q1.at_, ((nm : Nat) : Int), q1.wAt, q1.sub, q1.bits, q1.vals, q1.and_, q1.or_⟩ : TRequest) (by first | omega | assumption | (simp; omega) | decide | (simp; done)) (by first | omega | assumption | (simp; omega) | decide | (simp; done))) rfl ?_)
   refine qo hnt rfl (s_not rfl ?_)
   refine r_end ?_
   refine q_then ?_
   refine w_if rfl (fun c4 => ?_) (fun c4 => ?_)
   ·
    have c4_ := c4
    try simp only [sB] at c4
    refine w_seq ?_
    refine w_R ?_
    refine qo hnt rfl (s_callF rfl rfl rfl (w_burgagelaw3_known) rfl ?_)
    refine qa hnt rfl rfl ?_
    refine r_end ?_
    refine q_then ?_
    refine w_ret ?_
    refine q_then_ret ?_
    exact fin_plain (ret_tmp rfl ret_nil) rfl rfl ⟨rfl, rfl, rfl⟩
   ·
    have c4_ := c4
    try simp only [sB] at c4
    have hcl := counts_len c4
    try simp only at hcl
    obtain ⟨hcr, hcw, hc0, hc6, hc12, hc34⟩ := hcl
    have hbl9 := bytesR_yes hcr
    refine w_skip ?_
    refine q_then ?_
    refine w_seq ?_
    refine w_R ?_
    refine qo hnt rfl (s_load_ptr tab_27 rfl rfl rfl (Nat.le_of_ble_eq_true rfl) ?_)
    refine qo hnt rfl (s_callF rfl rfl rfl (w_pdu_Bytes (⟨q1.fn, q1.at_, ((nm : Nat) : Int), q1.wAt, q1.sub, q1.bits, q1.vals, q1.and_, q1.or_⟩ : TRequest) (by first | omega | assumption | (simp; omega) | decide | (simp; done)) (by first | omega | assumption | (simp; omega) | decide | (simp; done))) rfl ?_)
    refine qm hnt rfl rfl ?_
    refine qo hnt rfl (s_extract rfl rfl ?_)
    refine qo hnt rfl (s_extract rfl rfl ?_)
    refine qa hnt rfl rfl ?_
    refine qa hnt rfl rfl ?_
    refine r_end ?_
    refine q_then ?_
    refine w_seq ?_
    refine w_R ?_
    refine qa hnt rfl rfl ?_
    refine r_end ?_
    refine q_then ?_
    refine w_seq ?_
    refine w_seq ?_
    refine w_R ?_
    refine qo hnt rfl (s_fa_ptr tab_27 rfl rfl tab_3 (by decide) rfl ?_)
    refine qo hnt rfl (s_load_ptr1 tab_3 rfl rfl rfl rfl rfl ?_)
    refine r_end ?_
    refine q_then ?_
    refine w_block ?_
    refine w_seq ?_
    refine w_seq ?_
    refine w_R ?_
    refine qo hnt rfl (s_eql rfl rfl ?_)
    refine qa hnt rfl rfl ?_
    refine r_end ?_
    refine q_then ?_
    refine w_if rfl (fun e => absurd (e.symm.trans c1_) (by decide)) (fun _ => ?_)
    refine w_R ?_
    refine qo hnt rfl (s_eql rfl rfl ?_)
    refine qa hnt rfl rfl ?_
    refine r_end ?_
    refine q_then ?_
    refine w_if rfl (fun _ => ?_) (fun e => absurd (e.symm.trans c3_) (by decide))
    refine w_R ?_
    refine qo hnt rfl (s_fa_ptr tab_27 rfl rfl tab_3 (by decide) rfl ?_)
    refine qo hnt rfl (s_load_ptr1 tab_3 rfl rfl rfl rfl rfl ?_)
    refine qo hnt rfl (s_addN (a := nm) (b := 7) rfl rfl (by omega) (by omega) (by omega) ?_)
    refine qo hnt rfl (s_quoN (a := nm + 7) (b := 8) rfl rfl (by omega) (by omega) (by omega) ?_)
    refine qo hnt rfl (s_addN (a := 2) (b := (nm + 7) / 8) rfl rfl (by omega) (by omega) (by omega) ?_)
    refine qa hnt rfl rfl ?_
    refine r_end ?_
    refine q_block ?_
    refine q_then ?_
    refine w_seq ?_
    refine w_R ?_
    refine qm hnt rfl rfl ?_
    refine qo hnt rfl (s_eql rfl rfl ?_)
    refine qm hnt rfl rfl ?_
    refine r_if tabOk hnt rfl rfl rfl (fun g4 => ?_) (fun g4 => ?_)
    ·
     have g4' := g4
     try simp only [sB] at g4'
     refine qm hnt rfl rfl ?_
     refine ry hnt rfl rfl rfl g4 ?_
     refine qo hnt rfl (s_lenM (l := bytesR (⟨q1.fn, q1.at_, ((nm : Nat) : Int), q1.wAt, q1.sub, q1.bits, q1.vals, q1.and_, q1.or_⟩ : TRequest)) tab_34 rfl (hM_sl (f := enc8) rfl) ?_)
     refine ry hnt rfl rfl rfl g4 ?_
     refine qo hnt rfl (s_leq rfl rfl ?_)
     refine qo hnt rfl (s_pick_t rfl g4 rfl ?_)
     refine qm hnt rfl rfl ?_
     refine r_if tabOk hnt rfl rfl rfl (fun g5 => ?_) (fun g5 => ?_)
     ·
      have g5' := g5
      try simp only [sB] at g5'
      refine qm hnt rfl rfl ?_
      refine ry hnt rfl rfl rfl g5 ?_
      refine qo hnt rfl (s_leq rfl rfl ?_)
      refine qo hnt rfl (s_pick_t rfl g5 rfl ?_)
      refine qm hnt rfl rfl ?_
      refine r_if tabOk hnt rfl rfl rfl (fun g6 => ?_) (fun g6 => ?_)
      ·
       have g6' := g6
       try simp only [sB] at g6'
       refine qo hnt rfl (s_callF rfl rfl rfl (w_burgagelaw3_known) rfl ?_)
       refine qo hnt rfl (s_pick_t rfl g6 rfl ?_)
       refine qa hnt rfl rfl ?_
       refine r_set [(4, pB true)] [(1, .obj [pI q1.fn, pI q1.at_, pN nm, pI q1.wAt, pI q1.sub, pS 1 false encBo q1.bits, pS 1 false enc16 q1.vals, p16 q1.and_, p16 q1.or_]), (0, .obj [pS 1 false encI t, pN b1])] 2 ⟨rfl, trivial⟩ rfl rfl ?_
       refine r_end ?_
       refine q_then ?_
       refine w_ret ?_
       exact fin_plain (ret_tmp rfl ret_nil) rfl rfl ⟨rfl, rfl, rfl⟩
      ·
       exact absurd g6 (by first | exact not_dec3 hcr | exact not_dec3 (by rw [hbl9]; omega) | exact not_dec3 (by omega) | (simp; done) | (simp; omega))
     ·
      exact absurd g5 (by first | exact not_dec3 hcr | exact not_dec3 (by rw [hbl9]; omega) | exact not_dec3 (by omega) | (simp; done) | (simp; omega))
    ·
     exact absurd g4 (by first | exact not_dec3 hcr | exact not_dec3 (by rw [hbl9]; omega) | exact not_dec3 (by omega) | (simp; done) | (simp; omega))
  ·
   have c3_ := c3
   try simp only [sB] at c3
   refine w_seq ?_
   refine w_R ?_
   refine qo hnt rfl (s_eql rfl rfl ?_)
   refine qa hnt rfl rfl ?_
   refine r_end ?_
   refine q_then ?_
   refine w_if rfl (fun c5 => ?_) (fun c5 => ?_)
   ·
    have c5_ := c5
    try simp only [sB] at c5
    refine w_skip ?_
    refine q_then ?_
    refine w_if rfl (fun _ => ?_) (fun e => absurd (e.symm.trans c5_) (by decide))
    refine w_R ?_
    refine qm hnt rfl rfl ?_
    refine qo hnt rfl (s_fa_ptr tab_27 rfl rfl tab_3 (by decide) rfl ?_)
    refine qo hnt rfl (s_store_ptr tab_3 rfl rfl rfl rfl rfl (Nat.le_of_ble_eq_true rfl) ?_)
    refine r_set [(5, PV.ptr 1 0)] [(1, .obj [pI q1.fn, pI q1.at_, pN nm, pI q1.wAt, pI q1.sub, pS 1 false encBo q1.bits, pS 1 false enc16 q1.vals, p16 q1.and_, p16 q1.or_]), (0, .obj [pS 1 false encI t, pN b1])] 2 ⟨rfl, trivial⟩ rfl rfl ?_
    refine r_end ?_
    refine q_block ?_
    refine q_then ?_
    refine w_seq ?_
    refine w_seq ?_
    refine w_R ?_
    refine qo hnt rfl (s_load_ptr tab_27 rfl rfl rfl (Nat.le_of_ble_eq_true rfl) ?_)
    refine qo hnt rfl (s_callF rfl rfl rfl (w_pdu_Counts (⟨q1.fn, q1.at_, ((nm : Nat) : Int), q1.wAt, q1.sub, q1.bits, q1.vals, q1.and_, q1.or_⟩ : TRequest) (by first | omega | assumption | (simp; omega) | decide | (simp; done)) (by first | omega | assumption | (simp; omega) | decide | (simp; done))) rfl ?_)
    refine qo hnt rfl (s_not rfl ?_)
    refine r_end ?_
    refine q_then ?_
    refine w_if rfl (fun c6 => ?_) (fun c6 => ?_)
    ·
     have c6_ := c6
     try simp only [sB] at c6
     refine w_seq ?_
     refine w_R ?_
     refine qo hnt rfl (s_callF rfl rfl rfl (w_burgagelaw3_known) rfl ?_)
     refine qa hnt rfl rfl ?_
     refine r_end ?_
     refine q_then ?_
     refine w_ret ?_
     refine q_then_ret ?_
     exact fin_plain (ret_tmp rfl ret_nil) rfl rfl ⟨rfl, rfl, rfl⟩
    ·
     have c6_ := c6
     try simp only [sB] at c6
     have hcl := counts_len c6
     try simp only at hcl
     obtain ⟨hcr, hcw, hc0, hc6, hc12, hc34⟩ := hcl
     have hbl9 := bytesR_yes hcr
     refine w_skip ?_
     refine q_then ?_
     refine w_seq ?_
     refine w_R ?_
     refine qo hnt rfl (s_load_ptr tab_27 rfl rfl rfl (Nat.le_of_ble_eq_true rfl) ?_)
     refine qo hnt rfl (s_callF rfl rfl rfl (w_pdu_Bytes (⟨q1.fn, q1.at_, ((nm : Nat) : Int), q1.wAt, q1.sub, q1.bits, q1.vals, q1.and_, q1.or_⟩ : TRequest) (by first | omega | assumption | (simp; omega) | decide | (simp; done)) (by first | omega | assumption | (simp; omega) | decide | (simp; done))) rfl ?_)
     refine qm hnt rfl rfl ?_
     refine qo hnt rfl (s_extract rfl rfl ?_)
     refine qo hnt rfl (s_extract rfl rfl ?_)
     refine qa hnt rfl rfl ?_
     refine qa hnt rfl rfl ?_
     refine r_end ?_
     refine q_then ?_
     refine w_seq ?_
     refine w_R ?_
     refine qa hnt rfl rfl ?_
     refine r_end ?_
     refine q_then ?_
     refine w_seq ?_
     refine w_seq ?_
     refine w_R ?_
     refine qo hnt rfl (s_fa_ptr tab_27 rfl rfl tab_3 (by decide) rfl ?_)
     refine qo hnt rfl (s_load_ptr1 tab_3 rfl rfl rfl rfl rfl ?_)
     refine r_end ?_
     refine q_then ?_
     refine w_block ?_
     refine w_seq ?_
     refine w_seq ?_
     refine w_R ?_
     refine qo hnt rfl (s_eql rfl rfl ?_)
     refine qa hnt rfl rfl ?_
     refine r_end ?_
     refine q_then ?_
     refine w_if rfl (fun e => absurd (e.symm.trans c1_) (by decide)) (fun _ => ?_)
     refine w_R ?_
     refine qo hnt rfl (s_eql rfl rfl ?_)
     refine qa hnt rfl rfl ?_
     refine r_end ?_
     refine q_then ?_
     refine w_if rfl (fun e => absurd (e.symm.trans c3_) (by decide)) (fun _ => ?_)
     refine w_seq ?_
     refine w_seq ?_
     refine w_R ?_
     refine qo hnt rfl (s_eql rfl rfl ?_)
     refine qa hnt rfl rfl ?_
     refine r_end ?_
     refine q_then ?_
     refine w_if rfl (fun _ => ?_) (fun e => absurd (e.symm.trans c5_) (by decide))
     refine w_skip ?_
     refine q_then ?_
     refine w_if rfl (fun _ => ?_) (fun e => absurd (e.symm.trans c5_) (by decide))
     refine w_R ?_
     refine qo hnt rfl (s_fa_ptr tab_27 rfl rfl tab_3 (by decide) rfl ?_)
     refine qo hnt rfl (s_load_ptr1 tab_3 rfl rfl rfl rfl rfl ?_)
     refine qo hnt rfl (s_mulN (a := 2) (b := nm) rfl rfl (by omega) (by omega) (by omega) ?_)
     refine qo hnt rfl (s_addN (a := 2) (b := 2 * nm) rfl rfl (by omega) (by omega) (by omega) ?_)
     refine qa hnt rfl rfl ?_
     refine r_end ?_
     refine q_block ?_
     refine q_then ?_
     refine w_seq ?_
     refine w_R ?_
     refine qm hnt rfl rfl ?_
     refine qo hnt rfl (s_eql rfl rfl ?_)
     refine qm hnt rfl rfl ?_
     refine r_if tabOk hnt rfl rfl rfl (fun g7 => ?_) (fun g7 => ?_)
     ·
      have g7' := g7
      try simp only [sB] at g7'
      refine qm hnt rfl rfl ?_
      refine ry hnt rfl rfl rfl g7 ?_
      refine qo hnt rfl (s_lenM (l := bytesR (⟨q1.fn, q1.at_, ((nm : Nat) : Int), q1.wAt, q1.sub, q1.bits, q1.vals, q1.and_, q1.or_⟩ : TRequest)) tab_34 rfl (hM_sl (f := enc8) rfl) ?_)
      refine ry hnt rfl rfl rfl g7 ?_
      refine qo hnt rfl (s_leq rfl rfl ?_)
      refine qo hnt rfl (s_pick_t rfl g7 rfl ?_)
      refine qm hnt rfl rfl ?_
      refine r_if tabOk hnt rfl rfl rfl (fun g8 => ?_) (fun g8 => ?_)
      ·
       have g8' := g8
       try simp only [sB] at g8'
       refine qm hnt rfl rfl ?_
       refine ry hnt rfl rfl rfl g8 ?_
       refine qo hnt rfl (s_leq rfl rfl ?_)
       refine qo hnt rfl (s_pick_t rfl g8 rfl ?_)
       refine qm hnt rfl rfl ?_
       refine r_if tabOk hnt rfl rfl rfl (fun g9 => ?_) (fun g9 => ?_)
       ·
        have g9' := g9
        try simp only [sB] at g9'
        refine qo hnt rfl (s_callF rfl rfl rfl (w_burgagelaw3_known) rfl ?_)
        refine qo hnt rfl (s_pick_t rfl g9 rfl ?_)
        refine qa hnt rfl rfl ?_
        refine r_set [(4, pB true)] [(1, .obj [pI q1.fn, pI q1.at_, pN nm, pI q1.wAt, pI q1.sub, pS 1 false encBo q1.bits, pS 1 false enc16 q1.vals, p16 q1.and_, p16 q1.or_]), (0, .obj [pS 1 false encI t, pN b1])] 2 ⟨rfl, trivial⟩ rfl rfl ?_
        refine r_end ?_
        refine q_then ?_
        refine w_ret ?_
        exact fin_plain (ret_tmp rfl ret_nil) rfl rfl ⟨rfl, rfl, rfl⟩
       ·
        exact absurd g9 (by first | exact not_dec3 hcr | exact not_dec3 (by rw [hbl9]; omega) | exact not_dec3 (by omega) | (simp; done) | (simp; omega))
      ·
       exact absurd g8 (by first | exact not_dec3 hcr | exact not_dec3 (by rw [hbl9]; omega) | exact not_dec3 (by omega) | (simp; done) | (simp; omega))
     ·
      exact absurd g7 (by first | exact not_dec3 hcr | exact not_dec3 (by rw [hbl9]; omega) | exact not_dec3 (by omega) | (simp; done) | (simp; omega))
   ·
    have c5_ := c5
    try simp only [sB] at c5
    refine w_R ?_
    refine qo hnt rfl (s_eql rfl rfl ?_)
    refine qa hnt rfl rfl ?_
    refine r_end ?_
    refine q_then ?_
    refine w_if rfl (fun c7 => ?_) (fun c7 => ?_)
    ·
     have c7_ := c7
     try simp only [sB] at c7
     refine w_R ?_
     refine qm hnt rfl rfl ?_
     refine qo hnt rfl (s_fa_ptr tab_27 rfl rfl tab_3 (by decide) rfl ?_)
     refine qo hnt rfl (s_store_ptr tab_3 rfl rfl rfl rfl rfl (Nat.le_of_ble_eq_true rfl) ?_)
     refine r_set [(5, PV.ptr 1 0)] [(1, .obj [pI q1.fn, pI q1.at_, pN nm, pI q1.wAt, pI q1.sub, pS 1 false encBo q1.bits, pS 1 false enc16 q1.vals, p16 q1.and_, p16 q1.or_]), (0, .obj [pS 1 false encI t, pN b1])] 2 ⟨rfl, trivial⟩ rfl rfl ?_
     refine r_end ?_
     refine q_block ?_
     refine q_then ?_
     refine w_seq ?_
     refine w_seq ?_
     refine w_R ?_
     refine qo hnt rfl (s_load_ptr tab_27 rfl rfl rfl (Nat.le_of_ble_eq_true rfl) ?_)
     refine qo hnt rfl (s_callF rfl rfl rfl (w_pdu_Counts (⟨q1.fn, q1.at_, ((nm : Nat) : Int), q1.wAt, q1.sub, q1.bits, q1.vals, q1.and_, q1.or_⟩ : TRequest) (by first | omega | assumption | (simp; omega) | decide | (simp; done)) (by first | omega | assumption | (simp; omega) | decide | (simp; done))) rfl ?_)
     refine qo hnt rfl (s_not rfl ?_)
     refine r_end ?_
     refine q_then ?_
     refine w_if rfl (fun c8 => ?_) (fun c8 => ?_)
     ·
      have c8_ := c8
      try simp only [sB] at c8
      refine w_seq ?_
      refine w_R ?_
      refine qo hnt rfl (s_callF rfl rfl rfl (w_burgagelaw3_known) rfl ?_)
      refine qa hnt rfl rfl ?_
      refine r_end ?_
      refine q_then ?_
      refine w_ret ?_
      refine q_then_ret ?_
      exact fin_plain (ret_tmp rfl ret_nil) rfl rfl ⟨rfl, rfl, rfl⟩
     ·
      have c8_ := c8
      try simp only [sB] at c8
      have hcl := counts_len c8
      try simp only at hcl
      obtain ⟨hcr, hcw, hc0, hc6, hc12, hc34⟩ := hcl
      have hbl9 := bytesR_yes hcr
      refine w_skip ?_
      refine q_then ?_
      refine w_seq ?_
      refine w_R ?_
      refine qo hnt rfl (s_load_ptr tab_27 rfl rfl rfl (Nat.le_of_ble_eq_true rfl) ?_)
      refine qo hnt rfl (s_callF rfl rfl rfl (w_pdu_Bytes (⟨q1.fn, q1.at_, ((nm : Nat) : Int), q1.wAt, q1.sub, q1.bits, q1.vals, q1.and_, q1.or_⟩ : TRequest) (by first | omega | assumption | (simp; omega) | decide | (simp; done)) (by first | omega | assumption | (simp; omega) | decide | (simp; done))) rfl ?_)
      refine qm hnt rfl rfl ?_
      refine qo hnt rfl (s_extract rfl rfl ?_)
      refine qo hnt rfl (s_extract rfl rfl ?_)
      refine qa hnt rfl rfl ?_
      refine qa hnt rfl rfl ?_
      refine r_end ?_
      refine q_then ?_
      refine w_seq ?_
      refine w_R ?_
      refine qa hnt rfl rfl ?_
      refine r_end ?_
      refine q_then ?_
      refine w_seq ?_
      refine w_seq ?_
      refine w_R ?_
      refine qo hnt rfl (s_fa_ptr tab_27 rfl rfl tab_3 (by decide) rfl ?_)
      refine qo hnt rfl (s_load_ptr1 tab_3 rfl rfl rfl rfl rfl ?_)
      refine r_end ?_
      refine q_then ?_
      refine w_block ?_
      refine w_seq ?_
      refine w_seq ?_
      refine w_R ?_
      refine qo hnt rfl (s_eql rfl rfl ?_)
      refine qa hnt rfl rfl ?_
      refine r_end ?_
      refine q_then ?_
      refine w_if rfl (fun e => absurd (e.symm.trans c1_) (by decide)) (fun _ => ?_)
      refine w_R ?_
      refine qo hnt rfl (s_eql rfl rfl ?_)
      refine qa hnt rfl rfl ?_
      refine r_end ?_
      refine q_then ?_
      refine w_if rfl (fun e => absurd (e.symm.trans c3_) (by decide)) (fun _ => ?_)
      refine w_seq ?_
      refine w_seq ?_
      refine w_R ?_
      refine qo hnt rfl (s_eql rfl rfl ?_)
      refine qa hnt rfl rfl ?_
      refine r_end ?_
      refine q_then ?_
      refine w_if rfl (fun e => absurd (e.symm.trans c5_) (by decide)) (fun _ => ?_)
      refine w_seq ?_
      refine w_R ?_
      refine qo hnt rfl (s_eql rfl rfl ?_)
      refine qa hnt rfl rfl ?_
      refine r_end ?_
      refine q_then ?_
      refine w_if rfl (fun _ => ?_) (fun e => absurd (e.symm.trans c7_) (by decide))
      refine w_skip ?_
      refine q_then ?_
      refine w_if rfl (fun _ => ?_) (fun e => absurd (e.symm.trans c7_) (by decide))
      refine w_R ?_
      refine qo hnt rfl (s_fa_ptr tab_27 rfl rfl tab_3 (by decide) rfl ?_)
      refine qo hnt rfl (s_load_ptr1 tab_3 rfl rfl rfl rfl rfl ?_)
      refine qo hnt rfl (s_mulN (a := 2) (b := nm) rfl rfl (by omega) (by omega) (by omega) ?_)
      refine qo hnt rfl (s_addN (a := 2) (b := 2 * nm) rfl rfl (by omega) (by omega) (by omega) ?_)
      refine qa hnt rfl rfl ?_
      refine r_end ?_
      refine q_block ?_
      refine q_then ?_
      refine w_seq ?_
      refine w_R ?_
      refine qm hnt rfl rfl ?_
      refine qo hnt rfl (s_eql rfl rfl ?_)
      refine qm hnt rfl rfl ?_
      refine r_if tabOk hnt rfl rfl rfl (fun g10 => ?_) (fun g10 => ?_)
      ·
       have g10' := g10
       try simp only [sB] at g10'
       refine qm hnt rfl rfl ?_
       refine ry hnt rfl rfl rfl g10 ?_
       refine qo hnt rfl (s_lenM (l := bytesR (⟨q1.fn, q1.at_, ((nm : Nat) : Int), q1.wAt, q1.sub, q1.bits, q1.vals, q1.and_, q1.or_⟩ : TRequest)) tab_34 rfl (hM_sl (f := enc8) rfl) ?_)
       refine ry hnt rfl rfl rfl g10 ?_
       refine qo hnt rfl (s_leq rfl rfl ?_)
       refine qo hnt rfl (s_pick_t rfl g10 rfl ?_)
       refine qm hnt rfl rfl ?_
       refine r_if tabOk hnt rfl rfl rfl (fun g11 => ?_) (fun g11 => ?_)
       ·
        have g11' := g11
        try simp only [sB] at g11'
        refine qm hnt rfl rfl ?_
        refine ry hnt rfl rfl rfl g11 ?_
        refine qo hnt rfl (s_leq rfl rfl ?_)
        refine qo hnt rfl (s_pick_t rfl g11 rfl ?_)
        refine qm hnt rfl rfl ?_
        refine r_if tabOk hnt rfl rfl rfl (fun g12 => ?_) (fun g12 => ?_)
        ·
         have g12' := g12
         try simp only [sB] at g12'
         refine qo hnt rfl (s_callF rfl rfl rfl (w_burgagelaw3_known) rfl ?_)
         refine qo hnt rfl (s_pick_t rfl g12 rfl ?_)
         refine qa hnt rfl rfl ?_
         refine r_set [(4, pB true)] [(1, .obj [pI q1.fn, pI q1.at_, pN nm, pI q1.wAt, pI q1.sub, pS 1 false encBo q1.bits, pS 1 false enc16 q1.vals, p16 q1.and_, p16 q1.or_]), (0, .obj [pS 1 false encI t, pN b1])] 2 ⟨rfl, trivial⟩ rfl rfl ?_
         refine r_end ?_
         refine q_then ?_
         refine w_ret ?_
         exact fin_plain (ret_tmp rfl ret_nil) rfl rfl ⟨rfl, rfl, rfl⟩
        ·
         exact absurd g12 (by first | exact not_dec3 hcr | exact not_dec3 (by rw [hbl9]; omega) | exact not_dec3 (by omega) | (simp; done) | (simp; omega))
       ·
        exact absurd g11 (by first | exact not_dec3 hcr | exact not_dec3 (by rw [hbl9]; omega) | exact not_dec3 (by omega) | (simp; done) | (simp; omega))
      ·
       exact absurd g10 (by first | exact not_dec3 hcr | exact not_dec3 (by rw [hbl9]; omega) | exact not_dec3 (by omega) | (simp; done) | (simp; omega))
    ·
     have c7_ := c7
     try simp only [sB] at c7
     refine w_seq ?_
     refine w_R ?_
     refine qo hnt rfl (s_eql rfl rfl ?_)
     refine qa hnt rfl rfl ?_
     refine r_end ?_
     refine q_then ?_
     refine w_if rfl (fun c9 => ?_) (fun c9 => ?_)
     ·
      have c9_ := c9
      try simp only [sB] at c9
      refine W_drawn tabOk mixed hnt [[], [], [1], [0], [0, 3], [0, 1, 2, 3, 4], [0, 1, 2, 3, 4, 5]] (by kernel_rfl) ?_
      refine d_op ?_
      refine x_run0 [(6, pN nm)] [] rfl rfl rfl rfl (s_move rfl ⟨rfl, rfl, rfl⟩) ?_
      refine d_op ?_
      refine x_run0 [(6, pN nm)] [] rfl rfl rfl rfl (s_move rfl ⟨rfl, rfl, rfl⟩) ?_
      refine d_op ?_
      refine x_run [(28, pN nm), (28, pN nm)] [1] [] [] [(2, oB true 1 encBo (List.replicate nm false))] [(2, oB true 1 encBo (List.replicate nm false))] [(2, oB true 1 encBo (List.replicate nm false)), (1, .obj [pI q1.fn, pI q1.at_, pI q1.count, pI q1.wAt, pI q1.sub, pS 1 false encBo q1.bits, pS 1 false enc16 q1.vals, p16 q1.and_, p16 q1.or_]), (0, .obj [pS 1 false encI t, pN b1])] rfl rfl rfl rfl rfl rfl (s_makeM (f := encBo) (bt := 1) tab_one false nm (fun j hj => by cases hj; rfl) tab_23 rfl tab_4 ⟨rfl, by decide⟩ rfl rfl rfl (by omega) (by refine ⟨?_, ?_, ?_⟩ <;> omega) ⟨rfl, rfl, rfl⟩) rfl trivial rfl rfl ?_
      refine d_op ?_
      refine x_run0 [(5, PV.ptr 1 0)] [0] rfl rfl rfl rfl (s_fa_ptr tab_27 rfl rfl tab_3 (by decide) rfl ⟨rfl, rfl, rfl⟩) ?_
      refine d_op ?_
      refine x_run [(30, PV.ptr 1 2), (27, pN nm)] [0, 3] [] [(1, .obj [pI q1.fn, pI q1.at_, pI q1.count, pI q1.wAt, pI q1.sub, pS 1 false encBo q1.bits, pS 1 false enc16 q1.vals, p16 q1.and_, p16 q1.or_])] [(1, .obj [pI q1.fn, pI q1.at_, pN nm, pI q1.wAt, pI q1.sub, pS 1 false encBo q1.bits, pS 1 false enc16 q1.vals, p16 q1.and_, p16 q1.or_])] [(1, .obj [pI q1.fn, pI q1.at_, pN nm, pI q1.wAt, pI q1.sub, pS 1 false encBo q1.bits, pS 1 false enc16 q1.vals, p16 q1.and_, p16 q1.or_])] [(1, .obj [pI q1.fn, pI q1.at_, pN nm, pI q1.wAt, pI q1.sub, pS 1 false encBo q1.bits, pS 1 false enc16 q1.vals, p16 q1.and_, p16 q1.or_]), (2, oB true 1 encBo (List.replicate nm false)), (0, .obj [pS 1 false encI t, pN b1])] rfl rfl rfl rfl rfl rfl (s_store_ptr tab_3 rfl rfl rfl rfl rfl (Nat.le_of_ble_eq_true rfl) ⟨rfl, rfl, rfl⟩) rfl trivial rfl rfl ?_
      refine d_op ?_
      refine x_run0 [(5, PV.ptr 1 0)] [0, 1, 2, 3, 4] rfl rfl rfl rfl (s_fa_ptr tab_27 rfl rfl tab_23 (by decide) rfl ⟨rfl, rfl, rfl⟩) ?_
      refine d_op ?_
      refine x_run [(31, PV.ptr 1 5), (29, PV.ref 2 0 none)] [0, 1, 2, 3, 4, 5] [] [(1, .obj [pI q1.fn, pI q1.at_, pN nm, pI q1.wAt, pI q1.sub, pS 1 false encBo q1.bits, pS 1 false enc16 q1.vals, p16 q1.and_, p16 q1.or_])] [(1, .obj [pI q1.fn, pI q1.at_, pN nm, pI q1.wAt, pI q1.sub, PV.ref 2 0 none, pS 1 false enc16 q1.vals, p16 q1.and_, p16 q1.or_])] [(1, .obj [pI q1.fn, pI q1.at_, pN nm, pI q1.wAt, pI q1.sub, PV.ref 2 0 none, pS 1 false enc16 q1.vals, p16 q1.and_, p16 q1.or_])] [(1, .obj [pI q1.fn, pI q1.at_, pN nm, pI q1.wAt, pI q1.sub, PV.ref 2 0 none, pS 1 false enc16 q1.vals, p16 q1.and_, p16 q1.or_]), (2, oB true 1 encBo (List.replicate nm false)), (0, .obj [pS 1 false encI t, pN b1])] rfl rfl rfl rfl rfl rfl (s_store_ptr tab_23 rfl rfl rfl rfl rfl (Nat.le_of_ble_eq_true rfl) ⟨rfl, rfl, rfl⟩) rfl trivial rfl rfl ?_
      refine d_end ⟨by kernel_rfl, ?_⟩
      refine q_block ?_
      refine q_then ?_
      refine w_seq ?_
      refine w_seq ?_
      refine w_R ?_
      refine qo hnt rfl (s_load_ptr tab_27 rfl rfl rfl (Nat.le_of_ble_eq_true rfl) ?_)
      refine qo hnt rfl (s_callX (r2 := pB (countsR (⟨q1.fn, q1.at_, ((nm : Nat) : Int), q1.wAt, q1.sub, List.replicate nm false, q1.vals, q1.and_, q1.or_⟩ : TRequest))) (nx1 := 3) (H2 := [(2, oB false 1 encBo (List.replicate nm false)), (1, .obj [pI q1.fn, pI q1.at_, pN nm, pI q1.wAt, pI q1.sub, PV.ref 2 0 none, pS 1 false enc16 q1.vals, p16 q1.and_, p16 q1.or_]), (0, .obj [pS 1 false encI t, pN b1])]) (H3 := [(2, oB false 1 encBo (List.replicate nm false)), (1, .obj [pI q1.fn, pI q1.at_, pN nm, pI q1.wAt, pI q1.sub, PV.ref 2 0 none, pS 1 false enc16 q1.vals, p16 q1.and_, p16 q1.or_]), (0, .obj [pS 1 false encI t, pN b1])]) [] [] rfl rfl rfl (handed_of (by decide) trivial) rfl rfl rfl rfl rfl rfl (w_pdu_Counts (⟨q1.fn, q1.at_, ((nm : Nat) : Int), q1.wAt, q1.sub, List.replicate nm false, q1.vals, q1.and_, q1.or_⟩ : TRequest) (by first | omega | assumption | (simp; omega) | decide | (simp; done)) (by first | omega | assumption | (simp; omega) | decide | (simp; done))) rfl (dist_of rfl) rfl rfl rfl rfl ?_)
      refine qo hnt rfl (s_not rfl ?_)
      refine r_set [(5, PV.ptr 1 0), (52, pB (!(countsR (⟨q1.fn, q1.at_, ((nm : Nat) : Int), q1.wAt, q1.sub, List.replicate nm false, q1.vals, q1.and_, q1.or_⟩ : TRequest))))] [(2, oB false 1 encBo (List.replicate nm false)), (1, .obj [pI q1.fn, pI q1.at_, pN nm, pI q1.wAt, pI q1.sub, PV.ref 2 0 none, pS 1 false enc16 q1.vals, p16 q1.and_, p16 q1.or_]), (0, .obj [pS 1 false encI t, pN b1])] 3 ⟨rfl, rfl, trivial⟩ rfl rfl ?_
      refine r_end ?_
      refine q_then ?_
      refine w_if rfl (fun c10 => ?_) (fun c10 => ?_)
      ·
       have c10_ := c10
       try simp only [sB] at c10
       refine w_seq ?_
       refine w_R ?_
       refine qo hnt rfl (s_callF rfl rfl rfl (w_burgagelaw3_known) rfl ?_)
       refine qa hnt rfl rfl ?_
       refine r_end ?_
       refine q_then ?_
       refine w_ret ?_
       refine q_then_ret ?_
       exact fin_plain (ret_tmp rfl ret_nil) rfl rfl ⟨rfl, rfl, rfl⟩
      ·
       have c10_ := c10
       try simp only [sB] at c10
       have hcl := counts_len c10
       try simp only at hcl
       obtain ⟨hcr, hcw, hc0, hc6, hc12, hc34⟩ := hcl
       have hbl9 := bytesR_yes hcr
       refine w_skip ?_
       refine q_then ?_
       refine w_seq ?_
       refine w_R ?_
       refine qo hnt rfl (s_load_ptr tab_27 rfl rfl rfl (Nat.le_of_ble_eq_true rfl) ?_)
       refine qo hnt rfl (s_callX (r2 := PV.tup [pS 1 false enc8 (bytesR (⟨q1.fn, q1.at_, ((nm : Nat) : Int), q1.wAt, q1.sub, List.replicate nm false, q1.vals, q1.and_, q1.or_⟩ : TRequest)), pI (rightR (⟨q1.fn, q1.at_, ((nm : Nat) : Int), q1.wAt, q1.sub, List.replicate nm false, q1.vals, q1.and_, q1.or_⟩ : TRequest))]) (nx1 := 3) (H2 := [(2, oB false 1 encBo (List.replicate nm false)), (1, .obj [pI q1.fn, pI q1.at_, pN nm, pI q1.wAt, pI q1.sub, PV.ref 2 0 none, pS 1 false enc16 q1.vals, p16 q1.and_, p16 q1.or_]), (0, .obj [pS 1 false encI t, pN b1])]) (H3 := [(2, oB false 1 encBo (List.replicate nm false)), (1, .obj [pI q1.fn, pI q1.at_, pN nm, pI q1.wAt, pI q1.sub, PV.ref 2 0 none, pS 1 false enc16 q1.vals, p16 q1.and_, p16 q1.or_]), (0, .obj [pS 1 false encI t, pN b1])]) [] [] rfl rfl rfl (handed_of (by decide) trivial) rfl rfl rfl rfl rfl rfl (w_pdu_Bytes (⟨q1.fn, q1.at_, ((nm : Nat) : Int), q1.wAt, q1.sub, List.replicate nm false, q1.vals, q1.and_, q1.or_⟩ : TRequest) (by first | omega | assumption | (simp; omega) | decide | (simp; done)) (by first | omega | assumption | (simp; omega) | decide | (simp; done))) rfl (dist_of rfl) rfl rfl rfl rfl ?_)
       refine qm hnt rfl rfl ?_
       refine qo hnt rfl (s_extract rfl rfl ?_)
       refine qo hnt rfl (s_extract rfl rfl ?_)
       refine qa hnt rfl rfl ?_
       refine qa hnt rfl rfl ?_
       refine r_set [(5, PV.ptr 1 0), (7, pS 1 false enc8 (bytesR (⟨q1.fn, q1.at_, ((nm : Nat) : Int), q1.wAt, q1.sub, List.replicate nm false, q1.vals, q1.and_, q1.or_⟩ : TRequest))), (8, pI (rightR (⟨q1.fn, q1.at_, ((nm : Nat) : Int), q1.wAt, q1.sub, List.replicate nm false, q1.vals, q1.and_, q1.or_⟩ : TRequest)))] [(2, oB false 1 encBo (List.replicate nm false)), (1, .obj [pI q1.fn, pI q1.at_, pN nm, pI q1.wAt, pI q1.sub, PV.ref 2 0 none, pS 1 false enc16 q1.vals, p16 q1.and_, p16 q1.or_]), (0, .obj [pS 1 false encI t, pN b1])] 3 ⟨rfl, rfl, rfl, trivial⟩ rfl rfl ?_
       refine r_end ?_
       refine q_then ?_
       refine w_seq ?_
       refine w_R ?_
       refine qa hnt rfl rfl ?_
       refine r_end ?_
       refine q_then ?_
       refine w_seq ?_
       refine w_seq ?_
       refine w_R ?_
       refine qo hnt rfl (s_fa_ptr tab_27 rfl rfl tab_3 (by decide) rfl ?_)
       refine qo hnt rfl (s_load_ptr1 tab_3 rfl rfl rfl rfl rfl ?_)
       refine r_end ?_
       refine q_then ?_
       refine w_block ?_
       refine w_seq ?_
       refine w_seq ?_
       refine w_R ?_
       refine qo hnt rfl (s_eql rfl rfl ?_)
       refine qa hnt rfl rfl ?_
       refine r_end ?_
       refine q_then ?_
       refine w_if rfl (fun e => absurd (e.symm.trans c1_) (by decide)) (fun _ => ?_)
       refine w_R ?_
       refine qo hnt rfl (s_eql rfl rfl ?_)
       refine qa hnt rfl rfl ?_
       refine r_end ?_
       refine q_then ?_
       refine w_if rfl (fun e => absurd (e.symm.trans c3_) (by decide)) (fun _ => ?_)
       refine w_seq ?_
       refine w_seq ?_
       refine w_R ?_
       refine qo hnt rfl (s_eql rfl rfl ?_)
       refine qa hnt rfl rfl ?_
       refine r_end ?_
       refine q_then ?_
       refine w_if rfl (fun e => absurd (e.symm.trans c5_) (by decide)) (fun _ => ?_)
       refine w_seq ?_
       refine w_R ?_
       refine qo hnt rfl (s_eql rfl rfl ?_)
       refine qa hnt rfl rfl ?_
       refine r_end ?_
       refine q_then ?_
       refine w_if rfl (fun e => absurd (e.symm.trans c7_) (by decide)) (fun _ => ?_)
       refine w_R ?_
       refine qo hnt rfl (s_eql rfl rfl ?_)
       refine qa hnt rfl rfl ?_
       refine r_end ?_
       refine q_then ?_
       refine w_if rfl (fun c11 => ?_) (fun c11 => ?_)
       ·
        have c11_ := c11
        try simp only [sB] at c11
        refine w_R ?_
        refine qo hnt rfl (s_fa_ptr tab_27 rfl rfl tab_3 (by decide) rfl ?_)
        refine qo hnt rfl (s_load_ptr1 tab_3 rfl rfl rfl rfl rfl ?_)
        refine qo hnt rfl (s_mulN (a := 2) (b := nm) rfl rfl (by omega) (by omega) (by omega) ?_)
        refine qo hnt rfl (s_addN (a := 2) (b := 2 * nm) rfl rfl (by omega) (by omega) (by omega) ?_)
        refine qa hnt rfl rfl ?_
        refine r_end ?_
        refine q_block ?_
        refine q_then ?_
        refine w_seq ?_
        refine w_R ?_
        refine qm hnt rfl rfl ?_
        refine qo hnt rfl (s_eql rfl rfl ?_)
        refine qm hnt rfl rfl ?_
        refine r_if tabOk hnt rfl rfl rfl (fun g13 => ?_) (fun g13 => ?_)
        ·
         have g13' := g13
         try simp only [sB] at g13'
         refine qm hnt rfl rfl ?_
         refine ry hnt rfl rfl rfl g13 ?_
         refine qo hnt rfl (s_lenM (l := bytesR (⟨q1.fn, q1.at_, ((nm : Nat) : Int), q1.wAt, q1.sub, List.replicate nm false, q1.vals, q1.and_, q1.or_⟩ : TRequest)) tab_34 rfl (hM_sl (f := enc8) rfl) ?_)
         refine ry hnt rfl rfl rfl g13 ?_
         refine qo hnt rfl (s_leq rfl rfl ?_)
         refine qo hnt rfl (s_pick_t rfl g13 rfl ?_)
         refine qm hnt rfl rfl ?_
         refine r_if tabOk hnt rfl rfl rfl (fun g14 => ?_) (fun g14 => ?_)
         ·
          have g14' := g14
          try simp only [sB] at g14'
          refine qm hnt rfl rfl ?_
          refine ry hnt rfl rfl rfl g14 ?_
          refine qo hnt rfl (s_leq rfl rfl ?_)
          refine qo hnt rfl (s_pick_t rfl g14 rfl ?_)
          refine qm hnt rfl rfl ?_
          refine r_if tabOk hnt rfl rfl rfl (fun g15 => ?_) (fun g15 => ?_)
          ·
           have g15' := g15
           try simp only [sB] at g15'
           refine qo hnt rfl (s_callF rfl rfl rfl (w_burgagelaw3_known) rfl ?_)
           refine qo hnt rfl (s_pick_t rfl g15 rfl ?_)
           refine qa hnt rfl rfl ?_
           refine r_set [(4, pB true)] [(2, oB false 1 encBo (List.replicate nm false)), (1, .obj [pI q1.fn, pI q1.at_, pN nm, pI q1.wAt, pI q1.sub, PV.ref 2 0 none, pS 1 false enc16 q1.vals, p16 q1.and_, p16 q1.or_]), (0, .obj [pS 1 false encI t, pN b1])] 3 ⟨rfl, trivial⟩ rfl rfl ?_
           refine r_end ?_
           refine q_then ?_
           refine w_ret ?_
           exact fin_plain (ret_tmp rfl ret_nil) rfl rfl ⟨rfl, rfl, rfl⟩
          ·
           exact absurd g15 (by first | exact not_dec3 hcr | exact not_dec3 (by rw [hbl9]; omega) | exact not_dec3 (by omega) | (simp; done) | (simp; omega))
         ·
          exact absurd g14 (by first | exact not_dec3 hcr | exact not_dec3 (by rw [hbl9]; omega) | exact not_dec3 (by omega) | (simp; done) | (simp; omega))
        ·
         exact absurd g13 (by first | exact not_dec3 hcr | exact not_dec3 (by rw [hbl9]; omega) | exact not_dec3 (by omega) | (simp; done) | (simp; omega))
       ·
        have c11_ := c11
        try simp only [sB] at c11
        refine w_skip ?_
        refine q_block ?_
        refine q_then ?_
        refine w_seq ?_
        refine w_R ?_
        refine qm hnt rfl rfl ?_
        refine qo hnt rfl (s_eql rfl rfl ?_)
        refine qm hnt rfl rfl ?_
        refine r_if tabOk hnt rfl rfl rfl (fun g16 => ?_) (fun g16 => ?_)
        ·
         have g16' := g16
         try simp only [sB] at g16'
         refine qm hnt rfl rfl ?_
         refine ry hnt rfl rfl rfl g16 ?_
         refine qo hnt rfl (s_lenM (l := bytesR (⟨q1.fn, q1.at_, ((nm : Nat) : Int), q1.wAt, q1.sub, List.replicate nm false, q1.vals, q1.and_, q1.or_⟩ : TRequest)) tab_34 rfl (hM_sl (f := enc8) rfl) ?_)
         refine ry hnt rfl rfl rfl g16 ?_
         refine qo hnt rfl (s_leq rfl rfl ?_)
         refine qo hnt rfl (s_pick_t rfl g16 rfl ?_)
         refine qm hnt rfl rfl ?_
         refine r_if tabOk hnt rfl rfl rfl (fun g17 => ?_) (fun g17 => ?_)
         ·
          have g17' := g17
          try simp only [sB] at g17'
          refine qm hnt rfl rfl ?_
          refine ry hnt rfl rfl rfl g17 ?_
          refine qo hnt rfl (s_leq rfl rfl ?_)
          refine qo hnt rfl (s_pick_t rfl g17 rfl ?_)
          refine qm hnt rfl rfl ?_
          refine ry hnt rfl rfl rfl (by decide) ?_
          refine qo hnt rfl (s_callF rfl rfl rfl (w_burgagelaw3_known) rfl ?_)
          refine qo hnt rfl (s_pick_t rfl (by decide) rfl ?_)
          refine qa hnt rfl rfl ?_
          refine r_end ?_
          refine q_then ?_
          refine w_ret ?_
          exact fin_plain (ret_tmp rfl ret_nil) rfl rfl ⟨rfl, rfl, rfl⟩
         ·
          exact absurd g17 (by first | exact not_dec3 hcr | exact not_dec3 (by rw [hbl9]; omega) | exact not_dec3 (by omega) | (simp; done) | (simp; omega))
        ·
         exact absurd g16 (by first | exact not_dec3 hcr | exact not_dec3 (by rw [hbl9]; omega) | exact not_dec3 (by omega) | (simp; done) | (simp; omega))
     ·
      have c9_ := c9
      try simp only [sB] at c9
      refine w_seq ?_
      refine w_R ?_
      refine qo hnt rfl (s_eql rfl rfl ?_)
      refine qa hnt rfl rfl ?_
      refine r_end ?_
      refine q_then ?_
      refine w_if rfl (fun c12 => ?_) (fun c12 => ?_)
      ·
       have c12_ := c12
       try simp only [sB] at c12
       refine W_drawn tabOk mixed hnt [[], [0], [], [2], [2, 3], [0, 1], [0, 1, 5], [0, 1, 2, 3, 4, 5, 6], [0, 1, 2, 3, 4, 5, 6, 7]] (by kernel_rfl) ?_
       refine d_op ?_
       refine x_run0 [(6, pN nm)] [] rfl rfl rfl rfl (s_move rfl ⟨rfl, rfl, rfl⟩) ?_
       refine d_op ?_
       refine x_run0 [(34, pN nm)] [0] rfl rfl rfl rfl (s_maskN (a := nm) 7 (by decide) rfl rfl (by omega) (by decide) ⟨rfl, rfl, rfl⟩) ?_
       refine d_op ?_
       refine x_run0 [(6, pN nm)] [] rfl rfl rfl rfl (s_move rfl ⟨rfl, rfl, rfl⟩) ?_
       refine d_op ?_
       refine x_run0 [(36, pN nm)] [2] rfl rfl rfl rfl (s_maskN (a := nm) 7 (by decide) rfl rfl (by omega) (by decide) ⟨rfl, rfl, rfl⟩) ?_
       refine d_op ?_
       refine x_run [(37, pN (nm % 2 ^ 7)), (37, pN (nm % 2 ^ 7))] [2, 3] [] [] [(2, oB true 1 enc16 (List.replicate (nm % 2 ^ 7) (0 : UInt16)))] [(2, oB true 1 enc16 (List.replicate (nm % 2 ^ 7) (0 : UInt16)))] [(2, oB true 1 enc16 (List.replicate (nm % 2 ^ 7) (0 : UInt16))), (1, .obj [pI q1.fn, pI q1.at_, pI q1.count, pI q1.wAt, pI q1.sub, pS 1 false encBo q1.bits, pS 1 false enc16 q1.vals, p16 q1.and_, p16 q1.or_]), (0, .obj [pS 1 false encI t, pN b1])] rfl rfl rfl rfl rfl rfl (s_makeM (f := enc16) (bt := 2) tab_one (0 : UInt16) (nm % 2 ^ 7) (fun j hj => by cases hj; rfl) tab_24 rfl tab_25 ⟨rfl, by decide⟩ rfl rfl rfl (by omega) (by refine ⟨?_, ?_, ?_⟩ <;> omega) ⟨rfl, rfl, rfl⟩) rfl trivial rfl rfl ?_
       refine d_op ?_
       refine x_run0 [(5, PV.ptr 1 0)] [0, 1] rfl rfl rfl rfl (s_fa_ptr tab_27 rfl rfl tab_3 (by decide) rfl ⟨rfl, rfl, rfl⟩) ?_
       refine d_op ?_
       refine x_run [(39, PV.ptr 1 2), (35, pN (nm % 2 ^ 7))] [0, 1, 5] [] [(1, .obj [pI q1.fn, pI q1.at_, pI q1.count, pI q1.wAt, pI q1.sub, pS 1 false encBo q1.bits, pS 1 false enc16 q1.vals, p16 q1.and_, p16 q1.or_])] [(1, .obj [pI q1.fn, pI q1.at_, pN (nm % 2 ^ 7), pI q1.wAt, pI q1.sub, pS 1 false encBo q1.bits, pS 1 false enc16 q1.vals, p16 q1.and_, p16 q1.or_])] [(1, .obj [pI q1.fn, pI q1.at_, pN (nm % 2 ^ 7), pI q1.wAt, pI q1.sub, pS 1 false encBo q1.bits, pS 1 false enc16 q1.vals, p16 q1.and_, p16 q1.or_])] [(1, .obj [pI q1.fn, pI q1.at_, pN (nm % 2 ^ 7), pI q1.wAt, pI q1.sub, pS 1 false encBo q1.bits, pS 1 false enc16 q1.vals, p16 q1.and_, p16 q1.or_]), (2, oB true 1 enc16 (List.replicate (nm % 2 ^ 7) (0 : UInt16))), (0, .obj [pS 1 false encI t, pN b1])] rfl rfl rfl rfl rfl rfl (s_store_ptr tab_3 rfl rfl rfl rfl rfl (Nat.le_of_ble_eq_true rfl) ⟨rfl, rfl, rfl⟩) rfl trivial rfl rfl ?_
       refine d_op ?_
       refine x_run0 [(5, PV.ptr 1 0)] [0, 1, 2, 3, 4, 5, 6] rfl rfl rfl rfl (s_fa_ptr tab_27 rfl rfl tab_24 (by decide) rfl ⟨rfl, rfl, rfl⟩) ?_
       refine d_op ?_
       refine x_run [(40, PV.ptr 1 6), (38, PV.ref 2 0 none)] [0, 1, 2, 3, 4, 5, 6, 7] [] [(1, .obj [pI q1.fn, pI q1.at_, pN (nm % 2 ^ 7), pI q1.wAt, pI q1.sub, pS 1 false encBo q1.bits, pS 1 false enc16 q1.vals, p16 q1.and_, p16 q1.or_])] [(1, .obj [pI q1.fn, pI q1.at_, pN (nm % 2 ^ 7), pI q1.wAt, pI q1.sub, pS 1 false encBo q1.bits, PV.ref 2 0 none, p16 q1.and_, p16 q1.or_])] [(1, .obj [pI q1.fn, pI q1.at_, pN (nm % 2 ^ 7), pI q1.wAt, pI q1.sub, pS 1 false encBo q1.bits, PV.ref 2 0 none, p16 q1.and_, p16 q1.or_])] [(1, .obj [pI q1.fn, pI q1.at_, pN (nm % 2 ^ 7), pI q1.wAt, pI q1.sub, pS 1 false encBo q1.bits, PV.ref 2 0 none, p16 q1.and_, p16 q1.or_]), (2, oB true 1 enc16 (List.replicate (nm % 2 ^ 7) (0 : UInt16))), (0, .obj [pS 1 false encI t, pN b1])] rfl rfl rfl rfl rfl rfl (s_store_ptr tab_24 rfl rfl rfl rfl rfl (Nat.le_of_ble_eq_true rfl) ⟨rfl, rfl, rfl⟩) rfl trivial rfl rfl ?_
       refine d_end ⟨by kernel_rfl, ?_⟩
       refine q_block ?_
       refine q_then ?_
       refine w_seq ?_
       refine w_seq ?_
       refine w_R ?_
       refine qo hnt rfl (s_load_ptr tab_27 rfl rfl rfl (Nat.le_of_ble_eq_true rfl) ?_)
       refine qo hnt rfl (s_callX (r2 := pB (countsR (⟨q1.fn, q1.at_, ((nm % 2 ^ 7 : Nat) : Int), q1.wAt, q1.sub, q1.bits, List.replicate (nm % 2 ^ 7) (0 : UInt16), q1.and_, q1.or_⟩ : TRequest))) (nx1 := 3) (H2 := [(2, oB false 1 enc16 (List.replicate (nm % 2 ^ 7) (0 : UInt16))), (1, .obj [pI q1.fn, pI q1.at_, pN (nm % 2 ^ 7), pI q1.wAt, pI q1.sub, pS 1 false encBo q1.bits, PV.ref 2 0 none, p16 q1.and_, p16 q1.or_]), (0, .obj [pS 1 false encI t, pN b1])]) (H3 := [(2, oB false 1 enc16 (List.replicate (nm % 2 ^ 7) (0 : UInt16))), (1, .obj [pI q1.fn, pI q1.at_, pN (nm % 2 ^ 7), pI q1.wAt, pI q1.sub, pS 1 false encBo q1.bits, PV.ref 2 0 none, p16 q1.and_, p16 q1.or_]), (0, .obj [pS 1 false encI t, pN b1])]) [] [] rfl rfl rfl (handed_of (by decide) trivial) rfl rfl rfl rfl rfl rfl (w_pdu_Counts (⟨q1.fn, q1.at_, ((nm % 2 ^ 7 : Nat) : Int), q1.wAt, q1.sub, q1.bits, List.replicate (nm % 2 ^ 7) (0 : UInt16), q1.and_, q1.or_⟩ : TRequest) (by first | omega | assumption | (simp; omega) | decide | (simp; done)) (by first | omega | assumption | (simp; omega) | decide | (simp; done))) rfl (dist_of rfl) rfl rfl rfl rfl ?_)
       refine qo hnt rfl (s_not rfl ?_)
       refine r_set [(5, PV.ptr 1 0), (52, pB (!(countsR (⟨q1.fn, q1.at_, ((nm % 2 ^ 7 : Nat) : Int), q1.wAt, q1.sub, q1.bits, List.replicate (nm % 2 ^ 7) (0 : UInt16), q1.and_, q1.or_⟩ : TRequest))))] [(2, oB false 1 enc16 (List.replicate (nm % 2 ^ 7) (0 : UInt16))), (1, .obj [pI q1.fn, pI q1.at_, pN (nm % 2 ^ 7), pI q1.wAt, pI q1.sub, pS 1 false encBo q1.bits, PV.ref 2 0 none, p16 q1.and_, p16 q1.or_]), (0, .obj [pS 1 false encI t, pN b1])] 3 ⟨rfl, rfl, trivial⟩ rfl rfl ?_
       refine r_end ?_
       refine q_then ?_
       refine w_if rfl (fun c13 => ?_) (fun c13 => ?_)
       ·
        have c13_ := c13
        try simp only [sB] at c13
        refine w_seq ?_
        refine w_R ?_
        refine qo hnt rfl (s_callF rfl rfl rfl (w_burgagelaw3_known) rfl ?_)
        refine qa hnt rfl rfl ?_
        refine r_end ?_
        refine q_then ?_
        refine w_ret ?_
        refine q_then_ret ?_
        exact fin_plain (ret_tmp rfl ret_nil) rfl rfl ⟨rfl, rfl, rfl⟩
       ·
        have c13_ := c13
        try simp only [sB] at c13
        have hcl := counts_len c13
        try simp only at hcl
        obtain ⟨hcr, hcw, hc0, hc6, hc12, hc34⟩ := hcl
        have hbl9 := bytesR_yes hcr
        refine w_skip ?_
        refine q_then ?_
        refine w_seq ?_
        refine w_R ?_
        refine qo hnt rfl (s_load_ptr tab_27 rfl rfl rfl (Nat.le_of_ble_eq_true rfl) ?_)
        refine qo hnt rfl (s_callX (r2 := PV.tup [pS 1 false enc8 (bytesR (⟨q1.fn, q1.at_, ((nm % 2 ^ 7 : Nat) : Int), q1.wAt, q1.sub, q1.bits, List.replicate (nm % 2 ^ 7) (0 : UInt16), q1.and_, q1.or_⟩ : TRequest)), pI (rightR (⟨q1.fn, q1.at_, ((nm % 2 ^ 7 : Nat) : Int), q1.wAt, q1.sub, q1.bits, List.replicate (nm % 2 ^ 7) (0 : UInt16), q1.and_, q1.or_⟩ : TRequest))]) (nx1 := 3) (H2 := [(2, oB false 1 enc16 (List.replicate (nm % 2 ^ 7) (0 : UInt16))), (1, .obj [pI q1.fn, pI q1.at_, pN (nm % 2 ^ 7), pI q1.wAt, pI q1.sub, pS 1 false encBo q1.bits, PV.ref 2 0 none, p16 q1.and_, p16 q1.or_]), (0, .obj [pS 1 false encI t, pN b1])]) (H3 := [(2, oB false 1 enc16 (List.replicate (nm % 2 ^ 7) (0 : UInt16))), (1, .obj [pI q1.fn, pI q1.at_, pN (nm % 2 ^ 7), pI q1.wAt, pI q1.sub, pS 1 false encBo q1.bits, PV.ref 2 0 none, p16 q1.and_, p16 q1.or_]), (0, .obj [pS 1 false encI t, pN b1])]) [] [] rfl rfl rfl (handed_of (by decide) trivial) rfl rfl rfl rfl rfl rfl (w_pdu_Bytes (⟨q1.fn, q1.at_, ((nm % 2 ^ 7 : Nat) : Int), q1.wAt, q1.sub, q1.bits, List.replicate (nm % 2 ^ 7) (0 : UInt16), q1.and_, q1.or_⟩ : TRequest) (by first | omega | assumption | (simp; omega) | decide | (simp; done)) (by first | omega | assumption | (simp; omega) | decide | (simp; done))) rfl (dist_of rfl) rfl rfl rfl rfl ?_)
        refine qm hnt rfl rfl ?_
        refine qo hnt rfl (s_extract rfl rfl ?_)
        refine qo hnt rfl (s_extract rfl rfl ?_)
        refine qa hnt rfl rfl ?_
        refine qa hnt rfl rfl ?_
        refine r_set [(5, PV.ptr 1 0), (7, pS 1 false enc8 (bytesR (⟨q1.fn, q1.at_, ((nm % 2 ^ 7 : Nat) : Int), q1.wAt, q1.sub, q1.bits, List.replicate (nm % 2 ^ 7) (0 : UInt16), q1.and_, q1.or_⟩ : TRequest))), (8, pI (rightR (⟨q1.fn, q1.at_, ((nm % 2 ^ 7 : Nat) : Int), q1.wAt, q1.sub, q1.bits, List.replicate (nm % 2 ^ 7) (0 : UInt16), q1.and_, q1.or_⟩ : TRequest)))] [(2, oB false 1 enc16 (List.replicate (nm % 2 ^ 7) (0 : UInt16))), (1, .obj [pI q1.fn, pI q1.at_, pN (nm % 2 ^ 7), pI q1.wAt, pI q1.sub, pS 1 false encBo q1.bits, PV.ref 2 0 none, p16 q1.and_, p16 q1.or_]), (0, .obj [pS 1 false encI t, pN b1])] 3 ⟨rfl, rfl, rfl, trivial⟩ rfl rfl ?_
        refine r_end ?_
        refine q_then ?_
        refine w_seq ?_
        refine w_R ?_
        refine qa hnt rfl rfl ?_
        refine r_end ?_
        refine q_then ?_
        refine w_seq ?_
        refine w_seq ?_
        refine w_R ?_
        refine qo hnt rfl (s_fa_ptr tab_27 rfl rfl tab_3 (by decide) rfl ?_)
        refine qo hnt rfl (s_load_ptr1 tab_3 rfl rfl rfl rfl rfl ?_)
        refine r_end ?_
        refine q_then ?_
        refine w_block ?_
        refine w_seq ?_
        refine w_seq ?_
        refine w_R ?_
        refine qo hnt rfl (s_eql rfl rfl ?_)
        refine qa hnt rfl rfl ?_
        refine r_end ?_
        refine q_then ?_
        refine w_if rfl (fun e => absurd (e.symm.trans c1_) (by decide)) (fun _ => ?_)
        refine w_R ?_
        refine qo hnt rfl (s_eql rfl rfl ?_)
        refine qa hnt rfl rfl ?_
        refine r_end ?_
        refine q_then ?_
        refine w_if rfl (fun e => absurd (e.symm.trans c3_) (by decide)) (fun _ => ?_)
        refine w_seq ?_
        refine w_seq ?_
        refine w_R ?_
        refine qo hnt rfl (s_eql rfl rfl ?_)
        refine qa hnt rfl rfl ?_
        refine r_end ?_
        refine q_then ?_
        refine w_if rfl (fun e => absurd (e.symm.trans c5_) (by decide)) (fun _ => ?_)
        refine w_seq ?_
        refine w_R ?_
        refine qo hnt rfl (s_eql rfl rfl ?_)
        refine qa hnt rfl rfl ?_
        refine r_end ?_
        refine q_then ?_
        refine w_if rfl (fun e => absurd (e.symm.trans c7_) (by decide)) (fun _ => ?_)
        refine w_R ?_
        refine qo hnt rfl (s_eql rfl rfl ?_)
        refine qa hnt rfl rfl ?_
        refine r_end ?_
        refine q_then ?_
        refine w_if rfl (fun c14 => ?_) (fun c14 => ?_)
        ·
         have c14_ := c14
         try simp only [sB] at c14
         refine w_R ?_
         refine qo hnt rfl (s_fa_ptr tab_27 rfl rfl tab_3 (by decide) rfl ?_)
         refine qo hnt rfl (s_load_ptr1 tab_3 rfl rfl rfl rfl rfl ?_)
         refine qo hnt rfl (s_mulN (a := 2) (b := nm % 2 ^ 7) rfl rfl (by omega) (by omega) (by omega) ?_)
         refine qo hnt rfl (s_addN (a := 2) (b := 2 * (nm % 2 ^ 7)) rfl rfl (by omega) (by omega) (by omega) ?_)
         refine qa hnt rfl rfl ?_
         refine r_end ?_
         refine q_block ?_
         refine q_then ?_
         refine w_seq ?_
         refine w_R ?_
         refine qm hnt rfl rfl ?_
         refine qo hnt rfl (s_eql rfl rfl ?_)
         refine qm hnt rfl rfl ?_
         refine r_if tabOk hnt rfl rfl rfl (fun g18 => ?_) (fun g18 => ?_)
         ·
          have g18' := g18
          try simp only [sB] at g18'
          refine qm hnt rfl rfl ?_
          refine ry hnt rfl rfl rfl g18 ?_
          refine qo hnt rfl (s_lenM (l := bytesR (⟨q1.fn, q1.at_, ((nm % 2 ^ 7 : Nat) : Int), q1.wAt, q1.sub, q1.bits, List.replicate (nm % 2 ^ 7) (0 : UInt16), q1.and_, q1.or_⟩ : TRequest)) tab_34 rfl (hM_sl (f := enc8) rfl) ?_)
          refine ry hnt rfl rfl rfl g18 ?_
          refine qo hnt rfl (s_leq rfl rfl ?_)
          refine qo hnt rfl (s_pick_t rfl g18 rfl ?_)
          refine qm hnt rfl rfl ?_
          refine r_if tabOk hnt rfl rfl rfl (fun g19 => ?_) (fun g19 => ?_)
          ·
           have g19' := g19
           try simp only [sB] at g19'
           refine qm hnt rfl rfl ?_
           refine ry hnt rfl rfl rfl g19 ?_
           refine qo hnt rfl (s_leq rfl rfl ?_)
           refine qo hnt rfl (s_pick_t rfl g19 rfl ?_)
           refine qm hnt rfl rfl ?_
           refine r_if tabOk hnt rfl rfl rfl (fun g20 => ?_) (fun g20 => ?_)
           ·
            have g20' := g20
            try simp only [sB] at g20'
            refine qo hnt rfl (s_callF rfl rfl rfl (w_burgagelaw3_known) rfl ?_)
            refine qo hnt rfl (s_pick_t rfl g20 rfl ?_)
            refine qa hnt rfl rfl ?_
            refine r_set [(4, pB true)] [(2, oB false 1 enc16 (List.replicate (nm % 2 ^ 7) (0 : UInt16))), (1, .obj [pI q1.fn, pI q1.at_, pN (nm % 2 ^ 7), pI q1.wAt, pI q1.sub, pS 1 false encBo q1.bits, PV.ref 2 0 none, p16 q1.and_, p16 q1.or_]), (0, .obj [pS 1 false encI t, pN b1])] 3 ⟨rfl, trivial⟩ rfl rfl ?_
            refine r_end ?_
            refine q_then ?_
            refine w_ret ?_
            exact fin_plain (ret_tmp rfl ret_nil) rfl rfl ⟨rfl, rfl, rfl⟩
           ·
            exact absurd g20 (by first | exact not_dec3 hcr | exact not_dec3 (by rw [hbl9]; omega) | exact not_dec3 (by omega) | (simp; done) | (simp; omega))
          ·
           exact absurd g19 (by first | exact not_dec3 hcr | exact not_dec3 (by rw [hbl9]; omega) | exact not_dec3 (by omega) | (simp; done) | (simp; omega))
         ·
          exact absurd g18 (by first | exact not_dec3 hcr | exact not_dec3 (by rw [hbl9]; omega) | exact not_dec3 (by omega) | (simp; done) | (simp; omega))
        ·
         have c14_ := c14
         try simp only [sB] at c14
         refine w_skip ?_
         refine q_block ?_
         refine q_then ?_
         refine w_seq ?_
         refine w_R ?_
         refine qm hnt rfl rfl ?_
         refine qo hnt rfl (s_eql rfl rfl ?_)
         refine qm hnt rfl rfl ?_
         refine r_if tabOk hnt rfl rfl rfl (fun g21 => ?_) (fun g21 => ?_)
         ·
          have g21' := g21
          try simp only [sB] at g21'
          refine qm hnt rfl rfl ?_
          refine ry hnt rfl rfl rfl g21 ?_
          refine qo hnt rfl (s_lenM (l := bytesR (⟨q1.fn, q1.at_, ((nm % 2 ^ 7 : Nat) : Int), q1.wAt, q1.sub, q1.bits, List.replicate (nm % 2 ^ 7) (0 : UInt16), q1.and_, q1.or_⟩ : TRequest)) tab_34 rfl (hM_sl (f := enc8) rfl) ?_)
          refine ry hnt rfl rfl rfl g21 ?_
          refine qo hnt rfl (s_leq rfl rfl ?_)
          refine qo hnt rfl (s_pick_t rfl g21 rfl ?_)
          refine qm hnt rfl rfl ?_
          refine r_if tabOk hnt rfl rfl rfl (fun g22 => ?_) (fun g22 => ?_)
          ·
           have g22' := g22
           try simp only [sB] at g22'
           refine qm hnt rfl rfl ?_
           refine ry hnt rfl rfl rfl g22 ?_
           refine qo hnt rfl (s_leq rfl rfl ?_)
           refine qo hnt rfl (s_pick_t rfl g22 rfl ?_)
           refine qm hnt rfl rfl ?_
           refine ry hnt rfl rfl rfl (by decide) ?_
           refine qo hnt rfl (s_callF rfl rfl rfl (w_burgagelaw3_known) rfl ?_)
           refine qo hnt rfl (s_pick_t rfl (by decide) rfl ?_)
           refine qa hnt rfl rfl ?_
           refine r_end ?_
           refine q_then ?_
           refine w_ret ?_
           exact fin_plain (ret_tmp rfl ret_nil) rfl rfl ⟨rfl, rfl, rfl⟩
          ·
           exact absurd g22 (by first | exact not_dec3 hcr | exact not_dec3 (by rw [hbl9]; omega) | exact not_dec3 (by omega) | (simp; done) | (simp; omega))
         ·
          exact absurd g21 (by first | exact not_dec3 hcr | exact not_dec3 (by rw [hbl9]; omega) | exact not_dec3 (by omega) | (simp; done) | (simp; omega))
      ·
       have c12_ := c12
       try simp only [sB] at c12
       refine w_seq ?_
       refine w_R ?_
       refine qo hnt rfl (s_eql rfl rfl ?_)
       refine qa hnt rfl rfl ?_
       refine r_end ?_
       refine q_then ?_
       refine w_if rfl (fun c15 => ?_) (fun c15 => ?_)
       ·
        have c15_ := c15
        try simp only [sB] at c15
        refine W_drawn tabOk mixed hnt [[], [0], [], [2], [2, 3], [0, 1], [0, 1, 5], [0, 1, 2, 3, 4, 5, 6], [0, 1, 2, 3, 4, 5, 6, 7]] (by kernel_rfl) ?_
        refine d_op ?_
        refine x_run0 [(6, pN nm)] [] rfl rfl rfl rfl (s_move rfl ⟨rfl, rfl, rfl⟩) ?_
        refine d_op ?_
        refine x_run0 [(43, pN nm)] [0] rfl rfl rfl rfl (s_maskN (a := nm) 8 (by decide) rfl rfl (by omega) (by decide) ⟨rfl, rfl, rfl⟩) ?_
        refine d_op ?_
        refine x_run0 [(6, pN nm)] [] rfl rfl rfl rfl (s_move rfl ⟨rfl, rfl, rfl⟩) ?_
        refine d_op ?_
        refine x_run0 [(45, pN nm)] [2] rfl rfl rfl rfl (s_maskN (a := nm) 7 (by decide) rfl rfl (by omega) (by decide) ⟨rfl, rfl, rfl⟩) ?_
        refine d_op ?_
        refine x_run [(46, pN (nm % 2 ^ 7)), (46, pN (nm % 2 ^ 7))] [2, 3] [] [] [(2, oB true 1 enc16 (List.replicate (nm % 2 ^ 7) (0 : UInt16)))] [(2, oB true 1 enc16 (List.replicate (nm % 2 ^ 7) (0 : UInt16)))] [(2, oB true 1 enc16 (List.replicate (nm % 2 ^ 7) (0 : UInt16))), (1, .obj [pI q1.fn, pI q1.at_, pI q1.count, pI q1.wAt, pI q1.sub, pS 1 false encBo q1.bits, pS 1 false enc16 q1.vals, p16 q1.and_, p16 q1.or_]), (0, .obj [pS 1 false encI t, pN b1])] rfl rfl rfl rfl rfl rfl (s_makeM (f := enc16) (bt := 2) tab_one (0 : UInt16) (nm % 2 ^ 7) (fun j hj => by cases hj; rfl) tab_24 rfl tab_25 ⟨rfl, by decide⟩ rfl rfl rfl (by omega) (by refine ⟨?_, ?_, ?_⟩ <;> omega) ⟨rfl, rfl, rfl⟩) rfl trivial rfl rfl ?_
        refine d_op ?_
        refine x_run0 [(5, PV.ptr 1 0)] [0, 1] rfl rfl rfl rfl (s_fa_ptr tab_27 rfl rfl tab_3 (by decide) rfl ⟨rfl, rfl, rfl⟩) ?_
        refine d_op ?_
        refine x_run [(48, PV.ptr 1 2), (44, pN (nm % 2 ^ 8))] [0, 1, 5] [] [(1, .obj [pI q1.fn, pI q1.at_, pI q1.count, pI q1.wAt, pI q1.sub, pS 1 false encBo q1.bits, pS 1 false enc16 q1.vals, p16 q1.and_, p16 q1.or_])] [(1, .obj [pI q1.fn, pI q1.at_, pN (nm % 2 ^ 8), pI q1.wAt, pI q1.sub, pS 1 false encBo q1.bits, pS 1 false enc16 q1.vals, p16 q1.and_, p16 q1.or_])] [(1, .obj [pI q1.fn, pI q1.at_, pN (nm % 2 ^ 8), pI q1.wAt, pI q1.sub, pS 1 false encBo q1.bits, pS 1 false enc16 q1.vals, p16 q1.and_, p16 q1.or_])] [(1, .obj [pI q1.fn, pI q1.at_, pN (nm % 2 ^ 8), pI q1.wAt, pI q1.sub, pS 1 false encBo q1.bits, pS 1 false enc16 q1.vals, p16 q1.and_, p16 q1.or_]), (2, oB true 1 enc16 (List.replicate (nm % 2 ^ 7) (0 : UInt16))), (0, .obj [pS 1 false encI t, pN b1])] rfl rfl rfl rfl rfl rfl (s_store_ptr tab_3 rfl rfl rfl rfl rfl (Nat.le_of_ble_eq_true rfl) ⟨rfl, rfl, rfl⟩) rfl trivial rfl rfl ?_
        refine d_op ?_
        refine x_run0 [(5, PV.ptr 1 0)] [0, 1, 2, 3, 4, 5, 6] rfl rfl rfl rfl (s_fa_ptr tab_27 rfl rfl tab_24 (by decide) rfl ⟨rfl, rfl, rfl⟩) ?_
        refine d_op ?_
        refine x_run [(49, PV.ptr 1 6), (47, PV.ref 2 0 none)] [0, 1, 2, 3, 4, 5, 6, 7] [] [(1, .obj [pI q1.fn, pI q1.at_, pN (nm % 2 ^ 8), pI q1.wAt, pI q1.sub, pS 1 false encBo q1.bits, pS 1 false enc16 q1.vals, p16 q1.and_, p16 q1.or_])] [(1, .obj [pI q1.fn, pI q1.at_, pN (nm % 2 ^ 8), pI q1.wAt, pI q1.sub, pS 1 false encBo q1.bits, PV.ref 2 0 none, p16 q1.and_, p16 q1.or_])] [(1, .obj [pI q1.fn, pI q1.at_, pN (nm % 2 ^ 8), pI q1.wAt, pI q1.sub, pS 1 false encBo q1.bits, PV.ref 2 0 none, p16 q1.and_, p16 q1.or_])] [(1, .obj [pI q1.fn, pI q1.at_, pN (nm % 2 ^ 8), pI q1.wAt, pI q1.sub, pS 1 false encBo q1.bits, PV.ref 2 0 none, p16 q1.and_, p16 q1.or_]), (2, oB true 1 enc16 (List.replicate (nm % 2 ^ 7) (0 : UInt16))), (0, .obj [pS 1 false encI t, pN b1])] rfl rfl rfl rfl rfl rfl (s_store_ptr tab_24 rfl rfl rfl rfl rfl (Nat.le_of_ble_eq_true rfl) ⟨rfl, rfl, rfl⟩) rfl trivial rfl rfl ?_
        refine d_end ⟨by kernel_rfl, ?_⟩
        refine q_block ?_
        refine q_then ?_
        refine w_seq ?_
        refine w_seq ?_
        refine w_R ?_
        refine qo hnt rfl (s_load_ptr tab_27 rfl rfl rfl (Nat.le_of_ble_eq_true rfl) ?_)
        refine qo hnt rfl (s_callX (r2 := pB (countsR (⟨q1.fn, q1.at_, ((nm % 2 ^ 8 : Nat) : Int), q1.wAt, q1.sub, q1.bits, List.replicate (nm % 2 ^ 7) (0 : UInt16), q1.and_, q1.or_⟩ : TRequest))) (nx1 := 3) (H2 := [(2, oB false 1 enc16 (List.replicate (nm % 2 ^ 7) (0 : UInt16))), (1, .obj [pI q1.fn, pI q1.at_, pN (nm % 2 ^ 8), pI q1.wAt, pI q1.sub, pS 1 false encBo q1.bits, PV.ref 2 0 none, p16 q1.and_, p16 q1.or_]), (0, .obj [pS 1 false encI t, pN b1])]) (H3 := [(2, oB false 1 enc16 (List.replicate (nm % 2 ^ 7) (0 : UInt16))), (1, .obj [pI q1.fn, pI q1.at_, pN (nm % 2 ^ 8), pI q1.wAt, pI q1.sub, pS 1 false encBo q1.bits, PV.ref 2 0 none, p16 q1.and_, p16 q1.or_]), (0, .obj [pS 1 false encI t, pN b1])]) [] [] rfl rfl rfl (handed_of (by decide) trivial) rfl rfl rfl rfl rfl rfl (w_pdu_Counts (⟨q1.fn, q1.at_, ((nm % 2 ^ 8 : Nat) : Int), q1.wAt, q1.sub, q1.bits, List.replicate (nm % 2 ^ 7) (0 : UInt16), q1.and_, q1.or_⟩ : TRequest) (by first | omega | assumption | (simp; omega) | decide | (simp; done)) (by first | omega | assumption | (simp; omega) | decide | (simp; done))) rfl (dist_of rfl) rfl rfl rfl rfl ?_)
        refine qo hnt rfl (s_not rfl ?_)
        refine r_set [(5, PV.ptr 1 0), (52, pB (!(countsR (⟨q1.fn, q1.at_, ((nm % 2 ^ 8 : Nat) : Int), q1.wAt, q1.sub, q1.bits, List.replicate (nm % 2 ^ 7) (0 : UInt16), q1.and_, q1.or_⟩ : TRequest))))] [(2, oB false 1 enc16 (List.replicate (nm % 2 ^ 7) (0 : UInt16))), (1, .obj [pI q1.fn, pI q1.at_, pN (nm % 2 ^ 8), pI q1.wAt, pI q1.sub, pS 1 false encBo q1.bits, PV.ref 2 0 none, p16 q1.and_, p16 q1.or_]), (0, .obj [pS 1 false encI t, pN b1])] 3 ⟨rfl, rfl, trivial⟩ rfl rfl ?_
        refine r_end ?_
        refine q_then ?_
        refine w_if rfl (fun c16 => ?_) (fun c16 => ?_)
        ·
         have c16_ := c16
         try simp only [sB] at c16
         refine w_seq ?_
         refine w_R ?_
         refine qo hnt rfl (s_callF rfl rfl rfl (w_burgagelaw3_known) rfl ?_)
         refine qa hnt rfl rfl ?_
         refine r_end ?_
         refine q_then ?_
         refine w_ret ?_
         refine q_then_ret ?_
         exact fin_plain (ret_tmp rfl ret_nil) rfl rfl ⟨rfl, rfl, rfl⟩
        ·
         have c16_ := c16
         try simp only [sB] at c16
         have hcl := counts_len c16
         try simp only at hcl
         obtain ⟨hcr, hcw, hc0, hc6, hc12, hc34⟩ := hcl
         have hbl9 := bytesR_yes hcr
         refine w_skip ?_
         refine q_then ?_
         refine w_seq ?_
         refine w_R ?_
         refine qo hnt rfl (s_load_ptr tab_27 rfl rfl rfl (Nat.le_of_ble_eq_true rfl) ?_)
         refine qo hnt rfl (s_callX (r2 := PV.tup [pS 1 false enc8 (bytesR (⟨q1.fn, q1.at_, ((nm % 2 ^ 8 : Nat) : Int), q1.wAt, q1.sub, q1.bits, List.replicate (nm % 2 ^ 7) (0 : UInt16), q1.and_, q1.or_⟩ : TRequest)), pI (rightR (⟨q1.fn, q1.at_, ((nm % 2 ^ 8 : Nat) : Int), q1.wAt, q1.sub, q1.bits, List.replicate (nm % 2 ^ 7) (0 : UInt16), q1.and_, q1.or_⟩ : TRequest))]) (nx1 := 3) (H2 := [(2, oB false 1 enc16 (List.replicate (nm % 2 ^ 7) (0 : UInt16))), (1, .obj [pI q1.fn, pI q1.at_, pN (nm % 2 ^ 8), pI q1.wAt, pI q1.sub, pS 1 false encBo q1.bits, PV.ref 2 0 none, p16 q1.and_, p16 q1.or_]), (0, .obj [pS 1 false encI t, pN b1])]) (H3 := [(2, oB false 1 enc16 (List.replicate (nm % 2 ^ 7) (0 : UInt16))), (1, .obj [pI q1.fn, pI q1.at_, pN (nm % 2 ^ 8), pI q1.wAt, pI q1.sub, pS 1 false encBo q1.bits, PV.ref 2 0 none, p16 q1.and_, p16 q1.or_]), (0, .obj [pS 1 false encI t, pN b1])]) [] [] rfl rfl rfl (handed_of (by decide) trivial) rfl rfl rfl rfl rfl rfl (w_pdu_Bytes (⟨q1.fn, q1.at_, ((nm % 2 ^ 8 : Nat) : Int), q1.wAt, q1.sub, q1.bits, List.replicate (nm % 2 ^ 7) (0 : UInt16), q1.and_, q1.or_⟩ : TRequest) (by first | omega | assumption | (simp; omega) | decide | (simp; done)) (by first | omega | assumption | (simp; omega) | decide | (simp; done))) rfl (dist_of rfl) rfl rfl rfl rfl ?_)
         refine qm hnt rfl rfl ?_
         refine qo hnt rfl (s_extract rfl rfl ?_)
         refine qo hnt rfl (s_extract rfl rfl ?_)
         refine qa hnt rfl rfl ?_
         refine qa hnt rfl rfl ?_
         refine r_set [(5, PV.ptr 1 0), (7, pS 1 false enc8 (bytesR (⟨q1.fn, q1.at_, ((nm % 2 ^ 8 : Nat) : Int), q1.wAt, q1.sub, q1.bits, List.replicate (nm % 2 ^ 7) (0 : UInt16), q1.and_, q1.or_⟩ : TRequest))), (8, pI (rightR (⟨q1.fn, q1.at_, ((nm % 2 ^ 8 : Nat) : Int), q1.wAt, q1.sub, q1.bits, List.replicate (nm % 2 ^ 7) (0 : UInt16), q1.and_, q1.or_⟩ : TRequest)))] [(2, oB false 1 enc16 (List.replicate (nm % 2 ^ 7) (0 : UInt16))), (1, .obj [pI q1.fn, pI q1.at_, pN (nm % 2 ^ 8), pI q1.wAt, pI q1.sub, pS 1 false encBo q1.bits, PV.ref 2 0 none, p16 q1.and_, p16 q1.or_]), (0, .obj [pS 1 false encI t, pN b1])] 3 ⟨rfl, rfl, rfl, trivial⟩ rfl rfl ?_
         refine r_end ?_
         refine q_then ?_
         refine w_seq ?_
         refine w_R ?_
         refine qa hnt rfl rfl ?_
         refine r_end ?_
         refine q_then ?_
         refine w_seq ?_
         refine w_seq ?_
         refine w_R ?_
         refine qo hnt rfl (s_fa_ptr tab_27 rfl rfl tab_3 (by decide) rfl ?_)
         refine qo hnt rfl (s_load_ptr1 tab_3 rfl rfl rfl rfl rfl ?_)
         refine r_end ?_
         refine q_then ?_
         refine w_block ?_
         refine w_seq ?_
         refine w_seq ?_
         refine w_R ?_
         refine qo hnt rfl (s_eql rfl rfl ?_)
         refine qa hnt rfl rfl ?_
         refine r_end ?_
         refine q_then ?_
         refine w_if rfl (fun e => absurd (e.symm.trans c1_) (by decide)) (fun _ => ?_)
         refine w_R ?_
         refine qo hnt rfl (s_eql rfl rfl ?_)
         refine qa hnt rfl rfl ?_
         refine r_end ?_
         refine q_then ?_
         refine w_if rfl (fun e => absurd (e.symm.trans c3_) (by decide)) (fun _ => ?_)
         refine w_seq ?_
         refine w_seq ?_
         refine w_R ?_
         refine qo hnt rfl (s_eql rfl rfl ?_)
         refine qa hnt rfl rfl ?_
         refine r_end ?_
         refine q_then ?_
         refine w_if rfl (fun e => absurd (e.symm.trans c5_) (by decide)) (fun _ => ?_)
         refine w_seq ?_
         refine w_R ?_
         refine qo hnt rfl (s_eql rfl rfl ?_)
         refine qa hnt rfl rfl ?_
         refine r_end ?_
         refine q_then ?_
         refine w_if rfl (fun e => absurd (e.symm.trans c7_) (by decide)) (fun _ => ?_)
         refine w_R ?_
         refine qo hnt rfl (s_eql rfl rfl ?_)
         refine qa hnt rfl rfl ?_
         refine r_end ?_
         refine q_then ?_
         refine w_if rfl (fun _ => ?_) (fun e => absurd (e.symm.trans c15_) (by decide))
         refine w_R ?_
         refine qo hnt rfl (s_fa_ptr tab_27 rfl rfl tab_3 (by decide) rfl ?_)
         refine qo hnt rfl (s_load_ptr1 tab_3 rfl rfl rfl rfl rfl ?_)
         refine qo hnt rfl (s_mulN (a := 2) (b := nm % 2 ^ 8) rfl rfl (by omega) (by omega) (by omega) ?_)
         refine qo hnt rfl (s_addN (a := 2) (b := 2 * (nm % 2 ^ 8)) rfl rfl (by omega) (by omega) (by omega) ?_)
         refine qa hnt rfl rfl ?_
         refine r_end ?_
         refine q_block ?_
         refine q_then ?_
         refine w_seq ?_
         refine w_R ?_
         refine qm hnt rfl rfl ?_
         refine qo hnt rfl (s_eql rfl rfl ?_)
         refine qm hnt rfl rfl ?_
         refine r_if tabOk hnt rfl rfl rfl (fun g23 => ?_) (fun g23 => ?_)
         ·
          have g23' := g23
          try simp only [sB] at g23'
          refine qm hnt rfl rfl ?_
          refine ry hnt rfl rfl rfl g23 ?_
          refine qo hnt rfl (s_lenM (l := bytesR (⟨q1.fn, q1.at_, ((nm % 2 ^ 8 : Nat) : Int), q1.wAt, q1.sub, q1.bits, List.replicate (nm % 2 ^ 7) (0 : UInt16), q1.and_, q1.or_⟩ : TRequest)) tab_34 rfl (hM_sl (f := enc8) rfl) ?_)
          refine ry hnt rfl rfl rfl g23 ?_
          refine qo hnt rfl (s_leq rfl rfl ?_)
          refine qo hnt rfl (s_pick_t rfl g23 rfl ?_)
          refine qm hnt rfl rfl ?_
          refine r_if tabOk hnt rfl rfl rfl (fun g24 => ?_) (fun g24 => ?_)
          ·
           have g24' := g24
           try simp only [sB] at g24'
           refine qm hnt rfl rfl ?_
           refine ry hnt rfl rfl rfl g24 ?_
           refine qo hnt rfl (s_leq rfl rfl ?_)
           refine qo hnt rfl (s_pick_t rfl g24 rfl ?_)
           refine qm hnt rfl rfl ?_
           refine r_if tabOk hnt rfl rfl rfl (fun g25 => ?_) (fun g25 => ?_)
           ·
            have g25' := g25
            try simp only [sB] at g25'
            refine qo hnt rfl (s_callF rfl rfl rfl (w_burgagelaw3_known) rfl ?_)
            refine qo hnt rfl (s_pick_t rfl g25 rfl ?_)
            refine qa hnt rfl rfl ?_
            refine r_set [(4, pB true)] [(2, oB false 1 enc16 (List.replicate (nm % 2 ^ 7) (0 : UInt16))), (1, .obj [pI q1.fn, pI q1.at_, pN (nm % 2 ^ 8), pI q1.wAt, pI q1.sub, pS 1 false encBo q1.bits, PV.ref 2 0 none, p16 q1.and_, p16 q1.or_]), (0, .obj [pS 1 false encI t, pN b1])] 3 ⟨rfl, trivial⟩ rfl rfl ?_
            refine r_end ?_
            refine q_then ?_
            refine w_ret ?_
            exact fin_plain (ret_tmp rfl ret_nil) rfl rfl ⟨rfl, rfl, rfl⟩
           ·
            exact absurd g25 (by first | exact not_dec3 hcr | exact not_dec3 (by rw [hbl9]; omega) | exact not_dec3 (by omega) | (simp; done) | (simp; omega))
          ·
           exact absurd g24 (by first | exact not_dec3 hcr | exact not_dec3 (by rw [hbl9]; omega) | exact not_dec3 (by omega) | (simp; done) | (simp; omega))
         ·
          exact absurd g23 (by first | exact not_dec3 hcr | exact not_dec3 (by rw [hbl9]; omega) | exact not_dec3 (by omega) | (simp; done) | (simp; omega))
       ·
        have c15_ := c15
        try simp only [sB] at c15
        refine w_skip ?_
        refine q_block ?_
        refine q_then ?_
        refine w_seq ?_
        refine w_seq ?_
        refine w_R ?_
        refine qo hnt rfl (s_load_ptr tab_27 rfl rfl rfl (Nat.le_of_ble_eq_true rfl) ?_)
        refine qo hnt rfl (s_callF rfl rfl rfl (w_pdu_Counts q1 (by first | omega | assumption | (simp; omega) | decide | (simp; done)) (by first | omega | assumption | (simp; omega) | decide | (simp; done))) rfl ?_)
        refine qo hnt rfl (s_not rfl ?_)
        refine r_end ?_
        refine q_then ?_
        refine w_if rfl (fun c17 => ?_) (fun c17 => ?_)
        ·
         have c17_ := c17
         try simp only [sB] at c17
         refine w_seq ?_
         refine w_R ?_
         refine qo hnt rfl (s_callF rfl rfl rfl (w_burgagelaw3_known) rfl ?_)
         refine qa hnt rfl rfl ?_
         refine r_end ?_
         refine q_then ?_
         refine w_ret ?_
         refine q_then_ret ?_
         exact fin_plain (ret_tmp rfl ret_nil) rfl rfl ⟨rfl, rfl, rfl⟩
        ·
         have c17_ := c17
         try simp only [sB] at c17
         have hcl := counts_len c17
         try simp only at hcl
         obtain ⟨hcr, hcw, hc0, hc6, hc12, hc34⟩ := hcl
         have hbl9 := bytesR_yes hcr
         refine w_skip ?_
         refine q_then ?_
         refine w_seq ?_
         refine w_R ?_
         refine qo hnt rfl (s_load_ptr tab_27 rfl rfl rfl (Nat.le_of_ble_eq_true rfl) ?_)
         refine qo hnt rfl (s_callF rfl rfl rfl (w_pdu_Bytes q1 (by first | omega | assumption | (simp; omega) | decide | (simp; done)) (by first | omega | assumption | (simp; omega) | decide | (simp; done))) rfl ?_)
         refine qm hnt rfl rfl ?_
         refine qo hnt rfl (s_extract rfl rfl ?_)
         refine qo hnt rfl (s_extract rfl rfl ?_)
         refine qa hnt rfl rfl ?_
         refine qa hnt rfl rfl ?_
         refine r_end ?_
         refine q_then ?_
         refine w_seq ?_
         refine w_R ?_
         refine qa hnt rfl rfl ?_
         refine r_end ?_
         refine q_then ?_
         refine w_seq ?_
         refine w_seq ?_
         refine w_R ?_
         refine qo hnt rfl (s_fa_ptr tab_27 rfl rfl tab_3 (by decide) rfl ?_)
         refine qo hnt rfl (s_load_ptr1 tab_3 rfl rfl rfl rfl rfl ?_)
         refine r_set [(5, PV.ptr 1 0), (7, pS 1 false enc8 (bytesR q1)), (8, pI (rightR q1)), (9, pI 0), (60, pI q1.fn)] [(1, .obj [pI q1.fn, pI q1.at_, pI q1.count, pI q1.wAt, pI q1.sub, pS 1 false encBo q1.bits, pS 1 false enc16 q1.vals, p16 q1.and_, p16 q1.or_]), (0, .obj [pS 1 false encI t, pN b1])] 2 ⟨rfl, rfl, rfl, rfl, rfl, trivial⟩ rfl rfl ?_
         refine r_end ?_
         refine q_then ?_
         refine w_block ?_
         refine w_seq ?_
         refine w_seq ?_
         refine w_R ?_
         refine qo hnt rfl (s_eql rfl rfl ?_)
         refine qa hnt rfl rfl ?_
         refine r_end ?_
         refine q_then ?_
         refine w_if rfl (fun e => absurd (e.symm.trans c1_) (by decide)) (fun _ => ?_)
         refine w_R ?_
         refine qo hnt rfl (s_eql rfl rfl ?_)
         refine qa hnt rfl rfl ?_
         refine r_end ?_
         refine q_then ?_
         refine w_if rfl (fun e => absurd (e.symm.trans c3_) (by decide)) (fun _ => ?_)
         refine w_seq ?_
         refine w_seq ?_
         refine w_R ?_
         refine qo hnt rfl (s_eql rfl rfl ?_)
         refine qa hnt rfl rfl ?_
         refine r_end ?_
         refine q_then ?_
         refine w_if rfl (fun e => absurd (e.symm.trans c5_) (by decide)) (fun _ => ?_)
         refine w_seq ?_
         refine w_R ?_
         refine qo hnt rfl (s_eql rfl rfl ?_)
         refine qa hnt rfl rfl ?_
         refine r_end ?_
         refine q_then ?_
         refine w_if rfl (fun e => absurd (e.symm.trans c7_) (by decide)) (fun _ => ?_)
         refine w_R ?_
         refine qo hnt rfl (s_eql rfl rfl ?_)
         refine qa hnt rfl rfl ?_
         refine r_end ?_
         refine q_then ?_
         refine w_if rfl (fun e => absurd (e.symm.trans c15_) (by decide)) (fun _ => ?_)
         refine w_skip ?_
         refine q_block ?_
         refine q_then ?_
         refine w_seq ?_
         refine w_R ?_
         refine qm hnt rfl rfl ?_
         refine qo hnt rfl (s_eql rfl rfl ?_)
         refine qm hnt rfl rfl ?_
         refine r_if tabOk hnt rfl rfl rfl (fun g26 => ?_) (fun g26 => ?_)
         ·
          have g26' := g26
          try simp only [sB] at g26'
          refine qm hnt rfl rfl ?_
          refine ry hnt rfl rfl rfl g26 ?_
          refine qo hnt rfl (s_lenM (l := bytesR q1) tab_34 rfl (hM_sl (f := enc8) rfl) ?_)
          refine ry hnt rfl rfl rfl g26 ?_
          refine qo hnt rfl (s_leq rfl rfl ?_)
          refine qo hnt rfl (s_pick_t rfl g26 rfl ?_)
          refine qm hnt rfl rfl ?_
          refine r_if tabOk hnt rfl rfl rfl (fun g27 => ?_) (fun g27 => ?_)
          ·
           have g27' := g27
           try simp only [sB] at g27'
           refine qm hnt rfl rfl ?_
           refine ry hnt rfl rfl rfl g27 ?_
           refine qo hnt rfl (s_leq rfl rfl ?_)
           refine qo hnt rfl (s_pick_t rfl g27 rfl ?_)
           refine qm hnt rfl rfl ?_
           refine ry hnt rfl rfl rfl (by decide) ?_
           refine qo hnt rfl (s_callF rfl rfl rfl (w_burgagelaw3_known) rfl ?_)
           refine qo hnt rfl (s_pick_t rfl (by decide) rfl ?_)
           refine qa hnt rfl rfl ?_
           refine r_end ?_
           refine q_then ?_
           refine w_ret ?_
           exact fin_plain (ret_tmp rfl ret_nil) rfl rfl ⟨rfl, rfl, rfl⟩
          ·
           exact absurd g27 (by first | exact not_dec3 hcr | exact not_dec3 (by rw [hbl9]; omega) | exact not_dec3 (by omega) | (simp; done) | (simp; omega))
         ·
          exact absurd g26 (by first | exact not_dec3 hcr | exact not_dec3 (by rw [hbl9]; omega) | exact not_dec3 (by omega) | (simp; done) | (simp; omega))
end Go.Proofs.Ytigpfkcjpjhflaa
