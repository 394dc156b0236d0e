/- What the law PduFields needs, and no more: merged out of texts of this session by a program of it (wip/tools/prune.py). -/
import Derived.Test.YtigpfkcjpjhflaaQPduFields3
set_option linter.unusedVariables false
namespace Go.Proofs.Ytigpfkcjpjhflaa
open Go Go.Proofs.Ytigpfkcjpjhflaa.Pv
theorem bytesR_len (q : TRequest) : (bytesR q).length ≤ 264 := by
  unfold bytesR; split
  · rename_i h; exact (writeR_len (rightR_zero h).2).2
  · simp
theorem bytes_pos {q : TRequest} (h : rightR q = 0) : 1 ≤ (bytesR q).length := by
  rw [bytesR_yes h]; exact (writeR_len (rightR_zero h).2).1
section
variable {q : TRequest} (h : rightR q = 0) {k : Int} (hk : 1 ≤ k ∧ k ≤ 256)
include h hk
theorem field_wAt : rightR ⟨q.fn, q.at_, q.count, k, q.sub, q.bits, q.vals, q.and_, q.or_⟩ = 0 ↔ q.fn = 23 := by
  obtain ⟨hf, hs⟩ := rightR_zero h
  refine (shapeR_iff (q := ⟨q.fn, q.at_, q.count, k, q.sub, q.bits, q.vals, q.and_, q.or_⟩) hf).trans ?_
  obtain ⟨wa, wc, ww, ws, za, zc, zw, zs, zm, hb, hv⟩ := hs
  constructor
  · intro hs2
    have h2 := hs2.zw
    simp only at h2
    omega
  · intro h23
    exact ⟨wa, wc, ⟨by simp only; omega, by simp only; omega⟩, ws, za, zc, fun h => absurd h23 h, zs, zm, hb, hv⟩
theorem field_sub : rightR ⟨q.fn, q.at_, q.count, q.wAt, k, q.bits, q.vals, q.and_, q.or_⟩ = 0 ↔ q.fn = 8 := by
  obtain ⟨hf, hs⟩ := rightR_zero h
  refine (shapeR_iff (q := ⟨q.fn, q.at_, q.count, q.wAt, k, q.bits, q.vals, q.and_, q.or_⟩) hf).trans ?_
  obtain ⟨wa, wc, ww, ws, za, zc, zw, zs, zm, hb, hv⟩ := hs
  constructor
  · intro hs2
    have h2 := hs2.zs
    simp only at h2
    omega
  · intro h23
    exact ⟨wa, wc, ww, ⟨by simp only; omega, by simp only; omega⟩, za, zc, zw, fun h => absurd h23 h, zm, hb, hv⟩
end
theorem field_andN {q : TRequest} (h : rightR q = 0) {u : UInt16} (hu : u.toNat ≠ 0) : rightR ⟨q.fn, q.at_, q.count, q.wAt, q.sub, q.bits, q.vals, u, q.or_⟩ = 0 ↔ q.fn = 22 := by
  obtain ⟨hf, hs⟩ := rightR_zero h
  refine (shapeR_iff (q := ⟨q.fn, q.at_, q.count, q.wAt, q.sub, q.bits, q.vals, u, q.or_⟩) hf).trans ?_
  obtain ⟨wa, wc, ww, ws, za, zc, zw, zs, zm, hb, hv⟩ := hs
  constructor
  · intro hs2
    have h2 := hs2.zm
    simp only at h2
    omega
  · intro h23
    exact ⟨wa, wc, ww, ws, za, zc, zw, zs, fun h => absurd h23 h, hb, hv⟩
theorem field_bits {q : TRequest} (h : rightR q = 0) {l : List Bool} (hl : l.length = q.bits.length + 1) : rightR ⟨q.fn, q.at_, q.count, q.wAt, q.sub, l, q.vals, q.and_, q.or_⟩ = 12 := by
  obtain ⟨hf, hs⟩ := rightR_zero h
  refine rightR_form hf fun hs2 => ?_
  have h1 := hs.bits
  have h2 := hs2.bits
  simp only at h2
  repeat' split at h1
  all_goals (repeat' split at h2) <;> omega
end Go.Proofs.Ytigpfkcjpjhflaa
set_option linter.unusedVariables false
set_option linter.unusedSimpArgs false
set_option maxRecDepth 10000
set_option maxHeartbeats 1000000
namespace Go.Proofs.Ytigpfkcjpjhflaa
open Go Go.Proofs.Ytigpfkcjpjhflaa.Pv
theorem w_burgagelaw3_known   :
    T Try.prog 15 [] 0 [] (Ret (pB true) 0 []) := by
 refine t_fun tabOk (n := 102) (rs := [.tmp 0]) Try.func15 rfl rfl rfl rfl (Nat.le_of_ble_eq_true rfl) ?_
 intro c hnt hk
 refine w_seq ?_
 refine w_R ?_
 refine qa hnt rfl rfl ?_
 refine r_end ?_
 refine q_then ?_
 refine w_seq ?_
 refine w_R ?_
 refine qo hnt rfl (s_mkM (f := enc16) ([255, 1] : List UInt16) tab_24 rfl tab_25 ⟨rfl, by decide⟩ (by decide) rfl rfl rfl rfl ?_)
 refine qo hnt rfl (s_build tab_27 rfl rfl (b_cons rfl tab_3 rfl rfl rfl (Nat.le_of_ble_eq_true rfl) (b_cons rfl tab_3 rfl rfl rfl (Nat.le_of_ble_eq_true rfl) (b_cons rfl tab_3 rfl rfl rfl (Nat.le_of_ble_eq_true rfl) (b_cons rfl tab_3 rfl rfl rfl (Nat.le_of_ble_eq_true rfl) (b_cons rfl tab_24 rfl rfl rfl (Nat.le_of_ble_eq_true rfl) (b_nil ?_)))))))
 refine qo hnt rfl (s_alloc tab_27 ?_)
 refine qo hnt rfl (s_store_ptr tab_27 rfl rfl rfl rfl rfl (Nat.le_of_ble_eq_true rfl) ?_)
 refine r_set [(1, PV.ptr 1 0)] [(1, .obj [pI 23, pI 3, pI 6, pI 14, pI 0, pNil, PV.ref 0 0 none, p16 0, p16 0]), (0, oB true 1 enc16 ([255, 1] : List UInt16))] 2 ⟨rfl, trivial⟩ rfl rfl ?_
 refine r_end ?_
 refine q_then ?_
 refine w_seq ?_
 refine w_R ?_
 refine qo hnt rfl (s_load_ptr tab_27 rfl rfl rfl (Nat.le_of_ble_eq_true rfl) ?_)
 refine qo hnt rfl (s_callX (r2 := PV.tup [pS 1 false enc8 (bytesR (⟨23, 3, 6, 14, 0, [], ([255, 1] : List UInt16), 0, 0⟩ : TRequest)), pI (rightR (⟨23, 3, 6, 14, 0, [], ([255, 1] : List UInt16), 0, 0⟩ : TRequest))]) (nx1 := 2) (H2 := [(0, oB false 1 enc16 ([255, 1] : List UInt16)), (1, .obj [pI 23, pI 3, pI 6, pI 14, pI 0, pNil, PV.ref 0 0 none, p16 0, p16 0])]) (H3 := [(0, oB false 1 enc16 ([255, 1] : List UInt16)), (1, .obj [pI 23, pI 3, pI 6, pI 14, pI 0, pNil, PV.ref 0 0 none, p16 0, p16 0])]) [] [] rfl rfl rfl (handed_of (by decide) trivial) rfl rfl rfl rfl rfl rfl (T.leL (args := [PV.f (.agg [encI 23, encI 3, encI 6, encI 14, encI 0, FV.v (.slice none 0 0), FV.sl 1 false (List.map enc16 ([255, 1] : List UInt16)), enc16 0, enc16 0])]) (args' := [PV.f (eRequest (⟨23, 3, 6, 14, 0, [], ([255, 1] : List UInt16), 0, 0⟩ : TRequest))]) ⟨le_F (FLe.agg ⟨FLe.refl _, FLe.refl _, FLe.refl _, FLe.refl _, FLe.refl _, FLe.nil 1 false, FLe.refl _, FLe.refl _, FLe.refl _, trivial⟩), trivial⟩ (w_pdu_Bytes (⟨23, 3, 6, 14, 0, [], ([255, 1] : List UInt16), 0, 0⟩ : TRequest) (by first | omega | assumption | (simp; omega) | decide | (simp; done)) (by first | omega | assumption | (simp; omega) | decide | (simp; done)))) rfl (dist_of rfl) rfl rfl rfl rfl ?_)
 refine qm hnt rfl rfl ?_
 refine qo hnt rfl (s_extract rfl rfl ?_)
 refine qo hnt rfl (s_extract rfl rfl ?_)
 refine qa hnt rfl rfl ?_
 refine qa hnt rfl rfl ?_
 refine r_set [(1, PV.ptr 1 0), (2, pS 1 false enc8 (bytesR (⟨23, 3, 6, 14, 0, [], ([255, 1] : List UInt16), 0, 0⟩ : TRequest))), (3, pI (rightR (⟨23, 3, 6, 14, 0, [], ([255, 1] : List UInt16), 0, 0⟩ : TRequest)))] [(0, oB false 1 enc16 ([255, 1] : List UInt16)), (1, .obj [pI 23, pI 3, pI 6, pI 14, pI 0, pNil, PV.ref 0 0 none, p16 0, p16 0])] 2 ⟨rfl, rfl, rfl, trivial⟩ rfl rfl ?_
 refine r_end ?_
 refine q_then ?_
 refine w_seq ?_
 refine w_R ?_
 refine qm hnt rfl rfl ?_
 obtain ⟨R1, hR1⟩ : ∃ z : TRequest × Int, z = readWith guessP (bytesR (⟨23, 3, 6, 14, 0, [], ([255, 1] : List UInt16), 0, 0⟩ : TRequest)) := ⟨_, rfl⟩
 refine qo hnt rfl (s_callF rfl rfl rfl (w_pdu_Read (bytesR (⟨23, 3, 6, 14, 0, [], ([255, 1] : List UInt16), 0, 0⟩ : TRequest)) false R1 hR1 (by first | omega | assumption | (simp; omega) | decide | (simp; done))) rfl ?_)
 refine qm hnt rfl rfl ?_
 refine qo hnt rfl (s_extract rfl rfl ?_)
 refine qo hnt rfl (s_extract rfl rfl ?_)
 refine qo hnt rfl (s_alloc tab_27 ?_)
 refine qo hnt rfl (s_store_ptr tab_27 rfl rfl rfl rfl rfl (Nat.le_of_ble_eq_true rfl) ?_)
 refine qa hnt rfl rfl ?_
 refine r_set [(1, PV.ptr 1 0), (2, pS 1 false enc8 (bytesR (⟨23, 3, 6, 14, 0, [], ([255, 1] : List UInt16), 0, 0⟩ : TRequest))), (3, pI (rightR (⟨23, 3, 6, 14, 0, [], ([255, 1] : List UInt16), 0, 0⟩ : TRequest))), (4, PV.ptr 2 0), (5, pI R1.2)] [(2, .obj [pI R1.1.fn, pI R1.1.at_, pI R1.1.count, pI R1.1.wAt, pI R1.1.sub, pS 1 false encBo R1.1.bits, pS 1 false enc16 R1.1.vals, p16 R1.1.and_, p16 R1.1.or_]), (0, oB false 1 enc16 ([255, 1] : List UInt16)), (1, .obj [pI 23, pI 3, pI 6, pI 14, pI 0, pNil, PV.ref 0 0 none, p16 0, p16 0])] 3 ⟨rfl, rfl, rfl, rfl, rfl, trivial⟩ rfl rfl ?_
 refine r_end ?_
 refine q_then ?_
 refine w_seq ?_
 have hr1 : R1 = (⟨23, 3, 6, 14, 0, [], [255, 1], 0, 0⟩, 0) := by rw [hR1]; decide +kernel
 refine w_R ?_
 obtain ⟨R2, hR2⟩ : ∃ z : TRequest × Int, z = readWith guessP [] := ⟨_, rfl⟩
 refine qo hnt rfl (s_callF rfl rfl rfl (T.leL (args := [pNil]) (args' := [pS 1 false enc8 []]) ⟨le_F (FLe.nil 1 false), trivial⟩ (w_pdu_Read [] false R2 hR2 (by first | omega | assumption | (simp; omega) | decide | (simp; done)))) rfl ?_)
 refine qm hnt rfl rfl ?_
 refine qo hnt rfl (s_extract rfl rfl ?_)
 refine qo hnt rfl (s_extract rfl rfl ?_)
 refine qo hnt rfl (s_alloc tab_27 ?_)
 refine qo hnt rfl (s_store_ptr tab_27 rfl rfl rfl rfl rfl (Nat.le_of_ble_eq_true rfl) ?_)
 refine qa hnt rfl rfl ?_
 refine r_set [(1, PV.ptr 1 0), (2, pS 1 false enc8 (bytesR (⟨23, 3, 6, 14, 0, [], ([255, 1] : List UInt16), 0, 0⟩ : TRequest))), (3, pI (rightR (⟨23, 3, 6, 14, 0, [], ([255, 1] : List UInt16), 0, 0⟩ : TRequest))), (4, PV.ptr 2 0), (5, pI R1.2), (7, pI R2.2)] [(3, .obj [pI R2.1.fn, pI R2.1.at_, pI R2.1.count, pI R2.1.wAt, pI R2.1.sub, pS 1 false encBo R2.1.bits, pS 1 false enc16 R2.1.vals, p16 R2.1.and_, p16 R2.1.or_]), (2, .obj [pI R1.1.fn, pI R1.1.at_, pI R1.1.count, pI R1.1.wAt, pI R1.1.sub, pS 1 false encBo R1.1.bits, pS 1 false enc16 R1.1.vals, p16 R1.1.and_, p16 R1.1.or_]), (0, oB false 1 enc16 ([255, 1] : List UInt16)), (1, .obj [pI 23, pI 3, pI 6, pI 14, pI 0, pNil, PV.ref 0 0 none, p16 0, p16 0])] 4 ⟨rfl, rfl, rfl, rfl, rfl, rfl, trivial⟩ rfl rfl ?_
 refine r_end ?_
 refine q_then ?_
 refine w_seq ?_
 have hr2 : R2 = (zeroQ, 13) := by rw [hR2]; decide +kernel
 refine w_R ?_
 refine qo hnt rfl (s_mkM (f := enc8) ([7] : List UInt8) tab_34 rfl tab_5 ⟨rfl, by decide⟩ (by decide) rfl rfl rfl rfl ?_)
 obtain ⟨R3, hR3⟩ : ∃ z : TRequest × Int, z = readWith guessP ([7] : List UInt8) := ⟨_, rfl⟩
 refine qo hnt rfl (s_callX (r2 := PV.tup [PV.f (eRequest R3.1), pI R3.2]) (nx1 := 5) (H2 := [(4, oB false 1 enc8 ([7] : List UInt8)), (3, .obj [pI R2.1.fn, pI R2.1.at_, pI R2.1.count, pI R2.1.wAt, pI R2.1.sub, pS 1 false encBo R2.1.bits, pS 1 false enc16 R2.1.vals, p16 R2.1.and_, p16 R2.1.or_]), (2, .obj [pI R1.1.fn, pI R1.1.at_, pI R1.1.count, pI R1.1.wAt, pI R1.1.sub, pS 1 false encBo R1.1.bits, pS 1 false enc16 R1.1.vals, p16 R1.1.and_, p16 R1.1.or_]), (0, oB false 1 enc16 ([255, 1] : List UInt16)), (1, .obj [pI 23, pI 3, pI 6, pI 14, pI 0, pNil, PV.ref 0 0 none, p16 0, p16 0])]) (H3 := [(4, oB false 1 enc8 ([7] : List UInt8)), (3, .obj [pI R2.1.fn, pI R2.1.at_, pI R2.1.count, pI R2.1.wAt, pI R2.1.sub, pS 1 false encBo R2.1.bits, pS 1 false enc16 R2.1.vals, p16 R2.1.and_, p16 R2.1.or_]), (2, .obj [pI R1.1.fn, pI R1.1.at_, pI R1.1.count, pI R1.1.wAt, pI R1.1.sub, pS 1 false encBo R1.1.bits, pS 1 false enc16 R1.1.vals, p16 R1.1.and_, p16 R1.1.or_]), (0, oB false 1 enc16 ([255, 1] : List UInt16)), (1, .obj [pI 23, pI 3, pI 6, pI 14, pI 0, pNil, PV.ref 0 0 none, p16 0, p16 0])]) [] [] rfl rfl rfl (handed_of (by decide) trivial) rfl rfl rfl rfl rfl rfl (w_pdu_Read ([7] : List UInt8) false R3 hR3 (by first | omega | assumption | (simp; omega) | decide | (simp; done))) rfl (dist_of rfl) rfl rfl rfl rfl ?_)
 refine qm hnt rfl rfl ?_
 refine qo hnt rfl (s_extract rfl rfl ?_)
 refine qo hnt rfl (s_extract rfl rfl ?_)
 refine qo hnt rfl (s_alloc tab_27 ?_)
 refine qo hnt rfl (s_store_ptr tab_27 rfl rfl rfl rfl rfl (Nat.le_of_ble_eq_true rfl) ?_)
 refine qa hnt rfl rfl ?_
 refine r_set [(1, PV.ptr 1 0), (2, pS 1 false enc8 (bytesR (⟨23, 3, 6, 14, 0, [], ([255, 1] : List UInt16), 0, 0⟩ : TRequest))), (3, pI (rightR (⟨23, 3, 6, 14, 0, [], ([255, 1] : List UInt16), 0, 0⟩ : TRequest))), (4, PV.ptr 2 0), (5, pI R1.2), (7, pI R2.2), (9, pI R3.2)] [(5, .obj [pI R3.1.fn, pI R3.1.at_, pI R3.1.count, pI R3.1.wAt, pI R3.1.sub, pS 1 false encBo R3.1.bits, pS 1 false enc16 R3.1.vals, p16 R3.1.and_, p16 R3.1.or_]), (4, oB false 1 enc8 ([7] : List UInt8)), (3, .obj [pI R2.1.fn, pI R2.1.at_, pI R2.1.count, pI R2.1.wAt, pI R2.1.sub, pS 1 false encBo R2.1.bits, pS 1 false enc16 R2.1.vals, p16 R2.1.and_, p16 R2.1.or_]), (2, .obj [pI R1.1.fn, pI R1.1.at_, pI R1.1.count, pI R1.1.wAt, pI R1.1.sub, pS 1 false encBo R1.1.bits, pS 1 false enc16 R1.1.vals, p16 R1.1.and_, p16 R1.1.or_]), (0, oB false 1 enc16 ([255, 1] : List UInt16)), (1, .obj [pI 23, pI 3, pI 6, pI 14, pI 0, pNil, PV.ref 0 0 none, p16 0, p16 0])] 6 ⟨rfl, rfl, rfl, rfl, rfl, rfl, rfl, trivial⟩ rfl rfl ?_
 refine r_end ?_
 refine q_then ?_
 refine w_seq ?_
 have hr3 : R3 = (zeroQ, 15) := by rw [hR3]; decide +kernel
 refine w_R ?_
 refine qo hnt rfl (s_mkM (f := enc8) ([1, 0, 0, 0] : List UInt8) tab_34 rfl tab_5 ⟨rfl, by decide⟩ (by decide) rfl rfl rfl rfl ?_)
 obtain ⟨R4, hR4⟩ : ∃ z : TRequest × Int, z = readWith guessP ([1, 0, 0, 0] : List UInt8) := ⟨_, rfl⟩
 refine qo hnt rfl (s_callX (r2 := PV.tup [PV.f (eRequest R4.1), pI R4.2]) (nx1 := 7) (H2 := [(6, oB false 1 enc8 ([1, 0, 0, 0] : List UInt8)), (5, .obj [pI R3.1.fn, pI R3.1.at_, pI R3.1.count, pI R3.1.wAt, pI R3.1.sub, pS 1 false encBo R3.1.bits, pS 1 false enc16 R3.1.vals, p16 R3.1.and_, p16 R3.1.or_]), (4, oB false 1 enc8 ([7] : List UInt8)), (3, .obj [pI R2.1.fn, pI R2.1.at_, pI R2.1.count, pI R2.1.wAt, pI R2.1.sub, pS 1 false encBo R2.1.bits, pS 1 false enc16 R2.1.vals, p16 R2.1.and_, p16 R2.1.or_]), (2, .obj [pI R1.1.fn, pI R1.1.at_, pI R1.1.count, pI R1.1.wAt, pI R1.1.sub, pS 1 false encBo R1.1.bits, pS 1 false enc16 R1.1.vals, p16 R1.1.and_, p16 R1.1.or_]), (0, oB false 1 enc16 ([255, 1] : List UInt16)), (1, .obj [pI 23, pI 3, pI 6, pI 14, pI 0, pNil, PV.ref 0 0 none, p16 0, p16 0])]) (H3 := [(6, oB false 1 enc8 ([1, 0, 0, 0] : List UInt8)), (5, .obj [pI R3.1.fn, pI R3.1.at_, pI R3.1.count, pI R3.1.wAt, pI R3.1.sub, pS 1 false encBo R3.1.bits, pS 1 false enc16 R3.1.vals, p16 R3.1.and_, p16 R3.1.or_]), (4, oB false 1 enc8 ([7] : List UInt8)), (3, .obj [pI R2.1.fn, pI R2.1.at_, pI R2.1.count, pI R2.1.wAt, pI R2.1.sub, pS 1 false encBo R2.1.bits, pS 1 false enc16 R2.1.vals, p16 R2.1.and_, p16 R2.1.or_]), (2, .obj [pI R1.1.fn, pI R1.1.at_, pI R1.1.count, pI R1.1.wAt, pI R1.1.sub, pS 1 false encBo R1.1.bits, pS 1 false enc16 R1.1.vals, p16 R1.1.and_, p16 R1.1.or_]), (0, oB false 1 enc16 ([255, 1] : List UInt16)), (1, .obj [pI 23, pI 3, pI 6, pI 14, pI 0, pNil, PV.ref 0 0 none, p16 0, p16 0])]) [] [] rfl rfl rfl (handed_of (by decide) trivial) rfl rfl rfl rfl rfl rfl (w_pdu_Read ([1, 0, 0, 0] : List UInt8) false R4 hR4 (by first | omega | assumption | (simp; omega) | decide | (simp; done))) rfl (dist_of rfl) rfl rfl rfl rfl ?_)
 refine qm hnt rfl rfl ?_
 refine qo hnt rfl (s_extract rfl rfl ?_)
 refine qo hnt rfl (s_extract rfl rfl ?_)
 refine qo hnt rfl (s_alloc tab_27 ?_)
 refine qo hnt rfl (s_store_ptr tab_27 rfl rfl rfl rfl rfl (Nat.le_of_ble_eq_true rfl) ?_)
 refine qa hnt rfl rfl ?_
 refine r_set [(1, PV.ptr 1 0), (2, pS 1 false enc8 (bytesR (⟨23, 3, 6, 14, 0, [], ([255, 1] : List UInt16), 0, 0⟩ : TRequest))), (3, pI (rightR (⟨23, 3, 6, 14, 0, [], ([255, 1] : List UInt16), 0, 0⟩ : TRequest))), (4, PV.ptr 2 0), (5, pI R1.2), (7, pI R2.2), (9, pI R3.2), (11, pI R4.2)] [(7, .obj [pI R4.1.fn, pI R4.1.at_, pI R4.1.count, pI R4.1.wAt, pI R4.1.sub, pS 1 false encBo R4.1.bits, pS 1 false enc16 R4.1.vals, p16 R4.1.and_, p16 R4.1.or_]), (6, oB false 1 enc8 ([1, 0, 0, 0] : List UInt8)), (5, .obj [pI R3.1.fn, pI R3.1.at_, pI R3.1.count, pI R3.1.wAt, pI R3.1.sub, pS 1 false encBo R3.1.bits, pS 1 false enc16 R3.1.vals, p16 R3.1.and_, p16 R3.1.or_]), (4, oB false 1 enc8 ([7] : List UInt8)), (3, .obj [pI R2.1.fn, pI R2.1.at_, pI R2.1.count, pI R2.1.wAt, pI R2.1.sub, pS 1 false encBo R2.1.bits, pS 1 false enc16 R2.1.vals, p16 R2.1.and_, p16 R2.1.or_]), (2, .obj [pI R1.1.fn, pI R1.1.at_, pI R1.1.count, pI R1.1.wAt, pI R1.1.sub, pS 1 false encBo R1.1.bits, pS 1 false enc16 R1.1.vals, p16 R1.1.and_, p16 R1.1.or_]), (0, oB false 1 enc16 ([255, 1] : List UInt16)), (1, .obj [pI 23, pI 3, pI 6, pI 14, pI 0, pNil, PV.ref 0 0 none, p16 0, p16 0])] 8 ⟨rfl, rfl, rfl, rfl, rfl, rfl, rfl, rfl, trivial⟩ rfl rfl ?_
 refine r_end ?_
 refine q_then ?_
 refine w_seq ?_
 have hr4 : R4 = (zeroQ, 12) := by rw [hR4]; decide +kernel
 refine w_R ?_
 refine qo hnt rfl (s_mkM (f := encBo) [true] tab_23 rfl tab_4 ⟨rfl, by decide⟩ (by decide) rfl rfl rfl rfl ?_)
 refine qo hnt rfl (s_build tab_27 rfl rfl (b_cons rfl tab_3 rfl rfl rfl (Nat.le_of_ble_eq_true rfl) (b_cons rfl tab_3 rfl rfl rfl (Nat.le_of_ble_eq_true rfl) (b_cons rfl tab_23 rfl rfl rfl (Nat.le_of_ble_eq_true rfl) (b_nil ?_)))))
 refine qo hnt rfl (s_callX (r2 := PV.tup [pS 1 false enc8 (bytesR (⟨5, 172, 0, 0, 0, [true], [], 0, 0⟩ : TRequest)), pI (rightR (⟨5, 172, 0, 0, 0, [true], [], 0, 0⟩ : TRequest))]) (nx1 := 9) (H2 := [(8, oB false 1 encBo [true]), (7, .obj [pI R4.1.fn, pI R4.1.at_, pI R4.1.count, pI R4.1.wAt, pI R4.1.sub, pS 1 false encBo R4.1.bits, pS 1 false enc16 R4.1.vals, p16 R4.1.and_, p16 R4.1.or_]), (6, oB false 1 enc8 ([1, 0, 0, 0] : List UInt8)), (5, .obj [pI R3.1.fn, pI R3.1.at_, pI R3.1.count, pI R3.1.wAt, pI R3.1.sub, pS 1 false encBo R3.1.bits, pS 1 false enc16 R3.1.vals, p16 R3.1.and_, p16 R3.1.or_]), (4, oB false 1 enc8 ([7] : List UInt8)), (3, .obj [pI R2.1.fn, pI R2.1.at_, pI R2.1.count, pI R2.1.wAt, pI R2.1.sub, pS 1 false encBo R2.1.bits, pS 1 false enc16 R2.1.vals, p16 R2.1.and_, p16 R2.1.or_]), (2, .obj [pI R1.1.fn, pI R1.1.at_, pI R1.1.count, pI R1.1.wAt, pI R1.1.sub, pS 1 false encBo R1.1.bits, pS 1 false enc16 R1.1.vals, p16 R1.1.and_, p16 R1.1.or_]), (0, oB false 1 enc16 ([255, 1] : List UInt16)), (1, .obj [pI 23, pI 3, pI 6, pI 14, pI 0, pNil, PV.ref 0 0 none, p16 0, p16 0])]) (H3 := [(8, oB false 1 encBo [true]), (7, .obj [pI R4.1.fn, pI R4.1.at_, pI R4.1.count, pI R4.1.wAt, pI R4.1.sub, pS 1 false encBo R4.1.bits, pS 1 false enc16 R4.1.vals, p16 R4.1.and_, p16 R4.1.or_]), (6, oB false 1 enc8 ([1, 0, 0, 0] : List UInt8)), (5, .obj [pI R3.1.fn, pI R3.1.at_, pI R3.1.count, pI R3.1.wAt, pI R3.1.sub, pS 1 false encBo R3.1.bits, pS 1 false enc16 R3.1.vals, p16 R3.1.and_, p16 R3.1.or_]), (4, oB false 1 enc8 ([7] : List UInt8)), (3, .obj [pI R2.1.fn, pI R2.1.at_, pI R2.1.count, pI R2.1.wAt, pI R2.1.sub, pS 1 false encBo R2.1.bits, pS 1 false enc16 R2.1.vals, p16 R2.1.and_, p16 R2.1.or_]), (2, .obj [pI R1.1.fn, pI R1.1.at_, pI R1.1.count, pI R1.1.wAt, pI R1.1.sub, pS 1 false encBo R1.1.bits, pS 1 false enc16 R1.1.vals, p16 R1.1.and_, p16 R1.1.or_]), (0, oB false 1 enc16 ([255, 1] : List UInt16)), (1, .obj [pI 23, pI 3, pI 6, pI 14, pI 0, pNil, PV.ref 0 0 none, p16 0, p16 0])]) [] [] rfl rfl rfl (handed_of (by decide) trivial) rfl rfl rfl rfl rfl rfl (T.leL (args := [PV.f (.agg [encI 5, encI 172, encI 0, encI 0, encI 0, FV.sl 1 false (List.map encBo [true]), FV.v (.slice none 0 0), enc16 0, enc16 0])]) (args' := [PV.f (eRequest (⟨5, 172, 0, 0, 0, [true], [], 0, 0⟩ : TRequest))]) ⟨le_F (FLe.agg ⟨FLe.refl _, FLe.refl _, FLe.refl _, FLe.refl _, FLe.refl _, FLe.refl _, FLe.nil 1 false, FLe.refl _, FLe.refl _, trivial⟩), trivial⟩ (w_pdu_Bytes (⟨5, 172, 0, 0, 0, [true], [], 0, 0⟩ : TRequest) (by first | omega | assumption | (simp; omega) | decide | (simp; done)) (by first | omega | assumption | (simp; omega) | decide | (simp; done)))) rfl (dist_of rfl) rfl rfl rfl rfl ?_)
 refine qm hnt rfl rfl ?_
 refine qo hnt rfl (s_extract rfl rfl ?_)
 refine qo hnt rfl (s_extract rfl rfl ?_)
 refine qa hnt rfl rfl ?_
 refine qa hnt rfl rfl ?_
 refine r_set [(1, PV.ptr 1 0), (2, pS 1 false enc8 (bytesR (⟨23, 3, 6, 14, 0, [], ([255, 1] : List UInt16), 0, 0⟩ : TRequest))), (3, pI (rightR (⟨23, 3, 6, 14, 0, [], ([255, 1] : List UInt16), 0, 0⟩ : TRequest))), (4, PV.ptr 2 0), (5, pI R1.2), (7, pI R2.2), (9, pI R3.2), (11, pI R4.2), (12, pS 1 false enc8 (bytesR (⟨5, 172, 0, 0, 0, [true], [], 0, 0⟩ : TRequest))), (13, pI (rightR (⟨5, 172, 0, 0, 0, [true], [], 0, 0⟩ : TRequest)))] [(8, oB false 1 encBo [true]), (7, .obj [pI R4.1.fn, pI R4.1.at_, pI R4.1.count, pI R4.1.wAt, pI R4.1.sub, pS 1 false encBo R4.1.bits, pS 1 false enc16 R4.1.vals, p16 R4.1.and_, p16 R4.1.or_]), (6, oB false 1 enc8 ([1, 0, 0, 0] : List UInt8)), (5, .obj [pI R3.1.fn, pI R3.1.at_, pI R3.1.count, pI R3.1.wAt, pI R3.1.sub, pS 1 false encBo R3.1.bits, pS 1 false enc16 R3.1.vals, p16 R3.1.and_, p16 R3.1.or_]), (4, oB false 1 enc8 ([7] : List UInt8)), (3, .obj [pI R2.1.fn, pI R2.1.at_, pI R2.1.count, pI R2.1.wAt, pI R2.1.sub, pS 1 false encBo R2.1.bits, pS 1 false enc16 R2.1.vals, p16 R2.1.and_, p16 R2.1.or_]), (2, .obj [pI R1.1.fn, pI R1.1.at_, pI R1.1.count, pI R1.1.wAt, pI R1.1.sub, pS 1 false encBo R1.1.bits, pS 1 false enc16 R1.1.vals, p16 R1.1.and_, p16 R1.1.or_]), (0, oB false 1 enc16 ([255, 1] : List UInt16)), (1, .obj [pI 23, pI 3, pI 6, pI 14, pI 0, pNil, PV.ref 0 0 none, p16 0, p16 0])] 9 ⟨rfl, rfl, rfl, rfl, rfl, rfl, rfl, rfl, rfl, rfl, trivial⟩ rfl rfl ?_
 refine r_end ?_
 refine q_then ?_
 refine w_seq ?_
 refine w_R ?_
 refine qm hnt rfl rfl ?_
 refine qo hnt rfl (s_eql rfl rfl ?_)
 refine qm hnt rfl rfl ?_
 refine r_if tabOk hnt rfl rfl rfl (fun g1 => ?_) (fun g1 => ?_)
 ·
  have g1' := g1
  try simp only [sB] at g1'
  refine qm hnt rfl rfl ?_
  refine ry hnt rfl rfl rfl g1 ?_
  refine qo hnt rfl (s_cvT tab_34 tab_9 rfl tab_5 rfl rfl (hM_sl (f := enc8) rfl) ?_)
  refine ry hnt rfl rfl rfl g1 ?_
  refine qo hnt rfl (s_eqtext (l := bytesR (⟨23, 3, 6, 14, 0, [], ([255, 1] : List UInt16), 0, 0⟩ : TRequest)) (m := ([23, 0, 3, 0, 6, 0, 14, 0, 2, 4, 0, 255, 0, 1] : List UInt8)) rfl rfl ?_)
  refine qo hnt rfl (s_pick_t rfl g1 rfl ?_)
  refine qm hnt rfl rfl ?_
  refine r_if tabOk hnt rfl rfl rfl (fun g2 => ?_) (fun g2 => ?_)
  ·
   have g2' := g2
   try simp only [sB] at g2'
   refine qm hnt rfl rfl ?_
   refine ry hnt rfl rfl rfl g2 ?_
   refine qo hnt rfl (s_eql rfl rfl ?_)
   refine qo hnt rfl (s_pick_t rfl g2 rfl ?_)
   refine qm hnt rfl rfl ?_
   refine r_if tabOk hnt rfl rfl rfl (fun g3 => ?_) (fun g3 => ?_)
   ·
    have g3' := g3
    try simp only [sB] at g3'
    refine qo hnt rfl (s_load_ptr tab_27 rfl rfl rfl (Nat.le_of_ble_eq_true rfl) ?_)
    refine ry hnt rfl rfl rfl g3 ?_
    refine qo hnt rfl (s_load_ptr tab_27 rfl rfl rfl (Nat.le_of_ble_eq_true rfl) ?_)
    refine ry hnt rfl rfl rfl g3 ?_
    refine qo hnt rfl (s_callX (r2 := pB (decide ((⟨23, 3, 6, 14, 0, [], ([255, 1] : List UInt16), 0, 0⟩ : TRequest) = (⟨R1.1.fn, R1.1.at_, R1.1.count, R1.1.wAt, R1.1.sub, R1.1.bits, R1.1.vals, R1.1.and_, R1.1.or_⟩ : TRequest)))) (nx1 := 9) (H2 := [(0, oB false 1 enc16 ([255, 1] : List UInt16)), (8, oB false 1 encBo [true]), (7, .obj [pI R4.1.fn, pI R4.1.at_, pI R4.1.count, pI R4.1.wAt, pI R4.1.sub, pS 1 false encBo R4.1.bits, pS 1 false enc16 R4.1.vals, p16 R4.1.and_, p16 R4.1.or_]), (6, oB false 1 enc8 ([1, 0, 0, 0] : List UInt8)), (5, .obj [pI R3.1.fn, pI R3.1.at_, pI R3.1.count, pI R3.1.wAt, pI R3.1.sub, pS 1 false encBo R3.1.bits, pS 1 false enc16 R3.1.vals, p16 R3.1.and_, p16 R3.1.or_]), (4, oB false 1 enc8 ([7] : List UInt8)), (3, .obj [pI R2.1.fn, pI R2.1.at_, pI R2.1.count, pI R2.1.wAt, pI R2.1.sub, pS 1 false encBo R2.1.bits, pS 1 false enc16 R2.1.vals, p16 R2.1.and_, p16 R2.1.or_]), (2, .obj [pI R1.1.fn, pI R1.1.at_, pI R1.1.count, pI R1.1.wAt, pI R1.1.sub, pS 1 false encBo R1.1.bits, pS 1 false enc16 R1.1.vals, p16 R1.1.and_, p16 R1.1.or_]), (1, .obj [pI 23, pI 3, pI 6, pI 14, pI 0, pNil, PV.ref 0 0 none, p16 0, p16 0])]) (H3 := [(0, oB false 1 enc16 ([255, 1] : List UInt16)), (8, oB false 1 encBo [true]), (7, .obj [pI R4.1.fn, pI R4.1.at_, pI R4.1.count, pI R4.1.wAt, pI R4.1.sub, pS 1 false encBo R4.1.bits, pS 1 false enc16 R4.1.vals, p16 R4.1.and_, p16 R4.1.or_]), (6, oB false 1 enc8 ([1, 0, 0, 0] : List UInt8)), (5, .obj [pI R3.1.fn, pI R3.1.at_, pI R3.1.count, pI R3.1.wAt, pI R3.1.sub, pS 1 false encBo R3.1.bits, pS 1 false enc16 R3.1.vals, p16 R3.1.and_, p16 R3.1.or_]), (4, oB false 1 enc8 ([7] : List UInt8)), (3, .obj [pI R2.1.fn, pI R2.1.at_, pI R2.1.count, pI R2.1.wAt, pI R2.1.sub, pS 1 false encBo R2.1.bits, pS 1 false enc16 R2.1.vals, p16 R2.1.and_, p16 R2.1.or_]), (2, .obj [pI R1.1.fn, pI R1.1.at_, pI R1.1.count, pI R1.1.wAt, pI R1.1.sub, pS 1 false encBo R1.1.bits, pS 1 false enc16 R1.1.vals, p16 R1.1.and_, p16 R1.1.or_]), (1, .obj [pI 23, pI 3, pI 6, pI 14, pI 0, pNil, PV.ref 0 0 none, p16 0, p16 0])]) [] [] rfl rfl rfl (handed_of (by decide) trivial) rfl rfl rfl rfl rfl rfl (T.leL (args := [PV.f (.agg [encI 23, encI 3, encI 6, encI 14, encI 0, FV.v (.slice none 0 0), FV.sl 1 false (List.map enc16 ([255, 1] : List UInt16)), enc16 0, enc16 0]), PV.f (.agg [encI R1.1.fn, encI R1.1.at_, encI R1.1.count, encI R1.1.wAt, encI R1.1.sub, FV.sl 1 false (List.map encBo R1.1.bits), FV.sl 1 false (List.map enc16 R1.1.vals), enc16 R1.1.and_, enc16 R1.1.or_])]) (args' := [PV.f (eRequest (⟨23, 3, 6, 14, 0, [], ([255, 1] : List UInt16), 0, 0⟩ : TRequest)), PV.f (eRequest (⟨R1.1.fn, R1.1.at_, R1.1.count, R1.1.wAt, R1.1.sub, R1.1.bits, R1.1.vals, R1.1.and_, R1.1.or_⟩ : TRequest))]) ⟨le_F (FLe.agg ⟨FLe.refl _, FLe.refl _, FLe.refl _, FLe.refl _, FLe.refl _, FLe.nil 1 false, FLe.refl _, FLe.refl _, FLe.refl _, trivial⟩), ⟨le_refl _, trivial⟩⟩ (w_burgageref3_Same (⟨23, 3, 6, 14, 0, [], ([255, 1] : List UInt16), 0, 0⟩ : TRequest) (⟨R1.1.fn, R1.1.at_, R1.1.count, R1.1.wAt, R1.1.sub, R1.1.bits, R1.1.vals, R1.1.and_, R1.1.or_⟩ : TRequest) (by first | omega | assumption | (simp; omega) | decide | (simp; done)))) rfl (dist_of rfl) rfl rfl rfl rfl ?_)
    refine qo hnt rfl (s_pick_t rfl g3 rfl ?_)
    refine qm hnt rfl rfl ?_
    refine r_if tabOk hnt rfl rfl rfl (fun g4 => ?_) (fun g4 => ?_)
    ·
     have g4' := g4
     try simp only [sB] at g4'
     refine qm hnt rfl rfl ?_
     refine ry hnt rfl rfl rfl g4 ?_
     refine qo hnt rfl (s_eql rfl rfl ?_)
     refine qo hnt rfl (s_pick_t rfl g4 rfl ?_)
     refine qm hnt rfl rfl ?_
     refine r_if tabOk hnt rfl rfl rfl (fun g5 => ?_) (fun g5 => ?_)
     ·
      have g5' := g5
      try simp only [sB] at g5'
      refine qm hnt rfl rfl ?_
      refine ry hnt rfl rfl rfl g5 ?_
      refine qo hnt rfl (s_eql rfl rfl ?_)
      refine qo hnt rfl (s_pick_t rfl g5 rfl ?_)
      refine qm hnt rfl rfl ?_
      refine r_if tabOk hnt rfl rfl rfl (fun g6 => ?_) (fun g6 => ?_)
      ·
       have g6' := g6
       try simp only [sB] at g6'
       refine qm hnt rfl rfl ?_
       refine ry hnt rfl rfl rfl g6 ?_
       refine qo hnt rfl (s_eql rfl rfl ?_)
       refine qo hnt rfl (s_pick_t rfl g6 rfl ?_)
       refine qm hnt rfl rfl ?_
       refine r_if tabOk hnt rfl rfl rfl (fun g7 => ?_) (fun g7 => ?_)
       ·
        have g7' := g7
        try simp only [sB] at g7'
        refine qm hnt rfl rfl ?_
        refine ry hnt rfl rfl rfl g7 ?_
        refine qo hnt rfl (s_eql rfl rfl ?_)
        refine qo hnt rfl (s_pick_t rfl g7 rfl ?_)
        refine qm hnt rfl rfl ?_
        refine r_if tabOk hnt rfl rfl rfl (fun g8 => ?_) (fun g8 => ?_)
        ·
         have g8' := g8
         try simp only [sB] at g8'
         refine qm hnt rfl rfl ?_
         refine ry hnt rfl rfl rfl g8 ?_
         refine qo hnt rfl (s_cvT tab_34 tab_9 rfl tab_5 rfl rfl (hM_sl (f := enc8) rfl) ?_)
         refine ry hnt rfl rfl rfl g8 ?_
         refine qo hnt rfl (s_eqtext (l := bytesR (⟨5, 172, 0, 0, 0, [true], [], 0, 0⟩ : TRequest)) (m := ([5, 0, 172, 255, 0] : List UInt8)) rfl rfl ?_)
         refine qo hnt rfl (s_pick_t rfl g8 rfl ?_)
         refine qm hnt rfl rfl ?_
         refine r_if tabOk hnt rfl rfl rfl (fun g9 => ?_) (fun g9 => ?_)
         ·
          have g9' := g9
          try simp only [sB] at g9'
          refine qo hnt rfl (s_load_ptr tab_27 rfl rfl rfl (Nat.le_of_ble_eq_true rfl) ?_)
          refine ry hnt rfl rfl rfl g9 ?_
          refine qo hnt rfl (s_callX (r2 := pB (countsR (⟨23, 3, 6, 14, 0, [], ([255, 1] : List UInt16), 0, 0⟩ : TRequest))) (nx1 := 9) (H2 := [(0, oB false 1 enc16 ([255, 1] : List UInt16)), (8, oB false 1 encBo [true]), (7, .obj [pI R4.1.fn, pI R4.1.at_, pI R4.1.count, pI R4.1.wAt, pI R4.1.sub, pS 1 false encBo R4.1.bits, pS 1 false enc16 R4.1.vals, p16 R4.1.and_, p16 R4.1.or_]), (6, oB false 1 enc8 ([1, 0, 0, 0] : List UInt8)), (5, .obj [pI R3.1.fn, pI R3.1.at_, pI R3.1.count, pI R3.1.wAt, pI R3.1.sub, pS 1 false encBo R3.1.bits, pS 1 false enc16 R3.1.vals, p16 R3.1.and_, p16 R3.1.or_]), (4, oB false 1 enc8 ([7] : List UInt8)), (3, .obj [pI R2.1.fn, pI R2.1.at_, pI R2.1.count, pI R2.1.wAt, pI R2.1.sub, pS 1 false encBo R2.1.bits, pS 1 false enc16 R2.1.vals, p16 R2.1.and_, p16 R2.1.or_]), (2, .obj [pI R1.1.fn, pI R1.1.at_, pI R1.1.count, pI R1.1.wAt, pI R1.1.sub, pS 1 false encBo R1.1.bits, pS 1 false enc16 R1.1.vals, p16 R1.1.and_, p16 R1.1.or_]), (1, .obj [pI 23, pI 3, pI 6, pI 14, pI 0, pNil, PV.ref 0 0 none, p16 0, p16 0])]) (H3 := [(0, oB false 1 enc16 ([255, 1] : List UInt16)), (8, oB false 1 encBo [true]), (7, .obj [pI R4.1.fn, pI R4.1.at_, pI R4.1.count, pI R4.1.wAt, pI R4.1.sub, pS 1 false encBo R4.1.bits, pS 1 false enc16 R4.1.vals, p16 R4.1.and_, p16 R4.1.or_]), (6, oB false 1 enc8 ([1, 0, 0, 0] : List UInt8)), (5, .obj [pI R3.1.fn, pI R3.1.at_, pI R3.1.count, pI R3.1.wAt, pI R3.1.sub, pS 1 false encBo R3.1.bits, pS 1 false enc16 R3.1.vals, p16 R3.1.and_, p16 R3.1.or_]), (4, oB false 1 enc8 ([7] : List UInt8)), (3, .obj [pI R2.1.fn, pI R2.1.at_, pI R2.1.count, pI R2.1.wAt, pI R2.1.sub, pS 1 false encBo R2.1.bits, pS 1 false enc16 R2.1.vals, p16 R2.1.and_, p16 R2.1.or_]), (2, .obj [pI R1.1.fn, pI R1.1.at_, pI R1.1.count, pI R1.1.wAt, pI R1.1.sub, pS 1 false encBo R1.1.bits, pS 1 false enc16 R1.1.vals, p16 R1.1.and_, p16 R1.1.or_]), (1, .obj [pI 23, pI 3, pI 6, pI 14, pI 0, pNil, PV.ref 0 0 none, p16 0, p16 0])]) [] [] rfl rfl rfl (handed_of (by decide) trivial) rfl rfl rfl rfl rfl rfl (T.leL (args := [PV.f (.agg [encI 23, encI 3, encI 6, encI 14, encI 0, FV.v (.slice none 0 0), FV.sl 1 false (List.map enc16 ([255, 1] : List UInt16)), enc16 0, enc16 0])]) (args' := [PV.f (eRequest (⟨23, 3, 6, 14, 0, [], ([255, 1] : List UInt16), 0, 0⟩ : TRequest))]) ⟨le_F (FLe.agg ⟨FLe.refl _, FLe.refl _, FLe.refl _, FLe.refl _, FLe.refl _, FLe.nil 1 false, FLe.refl _, FLe.refl _, FLe.refl _, trivial⟩), trivial⟩ (w_pdu_Counts (⟨23, 3, 6, 14, 0, [], ([255, 1] : List UInt16), 0, 0⟩ : TRequest) (by first | omega | assumption | (simp; omega) | decide | (simp; done)) (by first | omega | assumption | (simp; omega) | decide | (simp; done)))) rfl (dist_of rfl) rfl rfl rfl rfl ?_)
          refine qo hnt rfl (s_pick_t rfl g9 rfl ?_)
          refine qm hnt rfl rfl ?_
          refine r_if tabOk hnt rfl rfl rfl (fun g10 => ?_) (fun g10 => ?_)
          ·
           have g10' := g10
           try simp only [sB] at g10'
           refine qo hnt rfl (s_build tab_27 rfl rfl (b_cons rfl tab_3 rfl rfl rfl (Nat.le_of_ble_eq_true rfl) (b_nil ?_)))
           refine ry hnt rfl rfl rfl g10 ?_
           refine qo hnt rfl (s_callF rfl rfl rfl (T.leL (args := [PV.f (.agg [encI 1, encI 0, encI 0, encI 0, encI 0, FV.v (.slice none 0 0), FV.v (.slice none 0 0), enc16 0, enc16 0])]) (args' := [PV.f (eRequest (⟨1, 0, 0, 0, 0, [], [], 0, 0⟩ : TRequest))]) ⟨le_F (FLe.agg ⟨FLe.refl _, FLe.refl _, FLe.refl _, FLe.refl _, FLe.refl _, FLe.nil 1 false, FLe.nil 1 false, FLe.refl _, FLe.refl _, trivial⟩), trivial⟩ (w_pdu_Counts (⟨1, 0, 0, 0, 0, [], [], 0, 0⟩ : TRequest) (by first | omega | assumption | (simp; omega) | decide | (simp; done)) (by first | omega | assumption | (simp; omega) | decide | (simp; done)))) rfl ?_)
           refine ry hnt rfl rfl rfl g10 ?_
           refine qo hnt rfl (s_not rfl ?_)
           refine qo hnt rfl (s_pick_t rfl g10 rfl ?_)
           refine qm hnt rfl rfl ?_
           refine r_if tabOk hnt rfl rfl rfl (fun g11 => ?_) (fun g11 => ?_)
           ·
            have g11' := g11
            try simp only [sB] at g11'
            refine qo hnt rfl (s_build tab_27 rfl rfl (b_nil ?_))
            refine ry hnt rfl rfl rfl g11 ?_
            refine qo hnt rfl (s_callF rfl rfl rfl (T.leL (args := [PV.f (.agg [encI 0, encI 0, encI 0, encI 0, encI 0, FV.v (.slice none 0 0), FV.v (.slice none 0 0), enc16 0, enc16 0])]) (args' := [PV.f (eRequest (⟨0, 0, 0, 0, 0, [], [], 0, 0⟩ : TRequest))]) ⟨le_F (FLe.agg ⟨FLe.refl _, FLe.refl _, FLe.refl _, FLe.refl _, FLe.refl _, FLe.nil 1 false, FLe.nil 1 false, FLe.refl _, FLe.refl _, trivial⟩), trivial⟩ (w_pdu_Counts (⟨0, 0, 0, 0, 0, [], [], 0, 0⟩ : TRequest) (by first | omega | assumption | (simp; omega) | decide | (simp; done)) (by first | omega | assumption | (simp; omega) | decide | (simp; done)))) rfl ?_)
            refine ry hnt rfl rfl rfl g11 ?_
            refine qo hnt rfl (s_not rfl ?_)
            refine qo hnt rfl (s_pick_t rfl g11 rfl ?_)
            refine qm hnt rfl rfl ?_
            refine r_if tabOk hnt rfl rfl rfl (fun g12 => ?_) (fun g12 => ?_)
            ·
             have g12' := g12
             try simp only [sB] at g12'
             refine qo hnt rfl (s_build tab_27 rfl rfl (b_cons rfl tab_3 rfl rfl rfl (Nat.le_of_ble_eq_true rfl) (b_cons rfl tab_3 rfl rfl rfl (Nat.le_of_ble_eq_true rfl) (b_nil ?_))))
             refine ry hnt rfl rfl rfl g12 ?_
             refine qo hnt rfl (s_callF rfl rfl rfl (T.leL (args := [PV.f (.agg [encI 17, encI 1, encI 0, encI 0, encI 0, FV.v (.slice none 0 0), FV.v (.slice none 0 0), enc16 0, enc16 0])]) (args' := [PV.f (eRequest (⟨17, 1, 0, 0, 0, [], [], 0, 0⟩ : TRequest))]) ⟨le_F (FLe.agg ⟨FLe.refl _, FLe.refl _, FLe.refl _, FLe.refl _, FLe.refl _, FLe.nil 1 false, FLe.nil 1 false, FLe.refl _, FLe.refl _, trivial⟩), trivial⟩ (w_pdu_Right (⟨17, 1, 0, 0, 0, [], [], 0, 0⟩ : TRequest) (by first | omega | assumption | (simp; omega) | decide | (simp; done)) (by first | omega | assumption | (simp; omega) | decide | (simp; done)))) rfl ?_)
             refine ry hnt rfl rfl rfl g12 ?_
             refine qo hnt rfl (s_eql rfl rfl ?_)
             refine qo hnt rfl (s_pick_t rfl g12 rfl ?_)
             refine qa hnt rfl rfl ?_
             refine r_set [(0, pB (decide (rightR (⟨17, 1, 0, 0, 0, [], [], 0, 0⟩ : TRequest) = 12)))] [(0, oB false 1 enc16 ([255, 1] : List UInt16)), (8, oB false 1 encBo [true]), (7, .obj [pI R4.1.fn, pI R4.1.at_, pI R4.1.count, pI R4.1.wAt, pI R4.1.sub, pS 1 false encBo R4.1.bits, pS 1 false enc16 R4.1.vals, p16 R4.1.and_, p16 R4.1.or_]), (6, oB false 1 enc8 ([1, 0, 0, 0] : List UInt8)), (5, .obj [pI R3.1.fn, pI R3.1.at_, pI R3.1.count, pI R3.1.wAt, pI R3.1.sub, pS 1 false encBo R3.1.bits, pS 1 false enc16 R3.1.vals, p16 R3.1.and_, p16 R3.1.or_]), (4, oB false 1 enc8 ([7] : List UInt8)), (3, .obj [pI R2.1.fn, pI R2.1.at_, pI R2.1.count, pI R2.1.wAt, pI R2.1.sub, pS 1 false encBo R2.1.bits, pS 1 false enc16 R2.1.vals, p16 R2.1.and_, p16 R2.1.or_]), (2, .obj [pI R1.1.fn, pI R1.1.at_, pI R1.1.count, pI R1.1.wAt, pI R1.1.sub, pS 1 false encBo R1.1.bits, pS 1 false enc16 R1.1.vals, p16 R1.1.and_, p16 R1.1.or_]), (1, .obj [pI 23, pI 3, pI 6, pI 14, pI 0, pNil, PV.ref 0 0 none, p16 0, p16 0])] 9 ⟨rfl, trivial⟩ rfl rfl ?_
             refine r_end ?_
             refine q_then ?_
             refine w_le (s := 0) (y := pB true) rfl (le_of_eq (congrArg (fun z : Bool => pB z) (show (decide (rightR (⟨17, 1, 0, 0, 0, [], [], 0, 0⟩ : TRequest) = 12)) = true by first | decide +kernel | (rw [hr1]; decide +kernel) | (rw [hr2]; decide +kernel) | (rw [hr3]; decide +kernel) | (rw [hr4]; decide +kernel) | (simp; done)))) ?_
             refine w_ret ?_
             exact fin_plain (ret_tmp rfl ret_nil) rfl rfl ⟨rfl, rfl, rfl⟩
            ·
             exact absurd g12 (by first | decide +kernel | (rw [hr1]; decide +kernel) | (rw [hr2]; decide +kernel) | (rw [hr3]; decide +kernel) | (rw [hr4]; decide +kernel) | (simp; done))
           ·
            exact absurd g11 (by first | decide +kernel | (rw [hr1]; decide +kernel) | (rw [hr2]; decide +kernel) | (rw [hr3]; decide +kernel) | (rw [hr4]; decide +kernel) | (simp; done))
          ·
           exact absurd g10 (by first | decide +kernel | (rw [hr1]; decide +kernel) | (rw [hr2]; decide +kernel) | (rw [hr3]; decide +kernel) | (rw [hr4]; decide +kernel) | (simp; done))
         ·
          exact absurd g9 (by first | decide +kernel | (rw [hr1]; decide +kernel) | (rw [hr2]; decide +kernel) | (rw [hr3]; decide +kernel) | (rw [hr4]; decide +kernel) | (simp; done))
        ·
         exact absurd g8 (by first | decide +kernel | (rw [hr1]; decide +kernel) | (rw [hr2]; decide +kernel) | (rw [hr3]; decide +kernel) | (rw [hr4]; decide +kernel) | (simp; done))
       ·
        exact absurd g7 (by first | decide +kernel | (rw [hr1]; decide +kernel) | (rw [hr2]; decide +kernel) | (rw [hr3]; decide +kernel) | (rw [hr4]; decide +kernel) | (simp; done))
      ·
       exact absurd g6 (by first | decide +kernel | (rw [hr1]; decide +kernel) | (rw [hr2]; decide +kernel) | (rw [hr3]; decide +kernel) | (rw [hr4]; decide +kernel) | (simp; done))
     ·
      exact absurd g5 (by first | decide +kernel | (rw [hr1]; decide +kernel) | (rw [hr2]; decide +kernel) | (rw [hr3]; decide +kernel) | (rw [hr4]; decide +kernel) | (simp; done))
    ·
     exact absurd g4 (by first | decide +kernel | (rw [hr1]; decide +kernel) | (rw [hr2]; decide +kernel) | (rw [hr3]; decide +kernel) | (rw [hr4]; decide +kernel) | (simp; done))
   ·
    exact absurd g3 (by first | decide +kernel | (rw [hr1]; decide +kernel) | (rw [hr2]; decide +kernel) | (rw [hr3]; decide +kernel) | (rw [hr4]; decide +kernel) | (simp; done))
  ·
   exact absurd g2 (by first | decide +kernel | (rw [hr1]; decide +kernel) | (rw [hr2]; decide +kernel) | (rw [hr3]; decide +kernel) | (rw [hr4]; decide +kernel) | (simp; done))
 ·
  exact absurd g1 (by first | decide +kernel | (rw [hr1]; decide +kernel) | (rw [hr2]; decide +kernel) | (rw [hr3]; decide +kernel) | (rw [hr4]; decide +kernel) | (simp; done))
theorem w_burgagelaw3_PduFields (t : List Int) (cl_t : Bool) (n : Int) (ht : t.length ≤ 70000000000000) (hn : -9223372036854775808 ≤ n ∧ n ≤ 9223372036854775807) :
    T Try.prog 4 [pS 1 cl_t encI t, pI n] 0 [] (Ret (pB true) 0 []) := by
 refine t_fun tabOk (n := 72) (rs := [.tmp 4]) Try.func4 rfl rfl rfl rfl (Nat.le_of_ble_eq_true rfl) ?_
 intro c hnt hk
 refine w_seq ?_
 refine w_R ?_
 refine qa hnt rfl rfl ?_
 refine r_end ?_
 refine q_then ?_
 refine w_seq ?_
 refine w_R ?_
 refine qm hnt rfl rfl ?_
 refine qo hnt rfl (s_build tab_30 rfl rfl (b_cons rfl tab_22 rfl rfl rfl (Nat.le_of_ble_eq_true rfl) (b_nil ?_)))
 refine qo hnt rfl (s_box rfl rfl ?_)
 refine qo hnt rfl (s_callX2 (p := fun (q1 : TRequest) (b1 : Nat) => rightR q1 = 0 ∧ q1.bits.length ≤ 25 ∧ q1.vals.length ≤ 25 ∧ 0 ≤ q1.count ∧ q1.count ≤ 25) (r2 := fun q1 b1 => PV.f (eRequest q1)) (nx1 := 1) (H2 := [(0, .obj [pS 1 cl_t encI t, pI 0])]) (H3 := fun q1 b1 => [(0, .obj [pS 1 false encI t, pN b1])]) [0] [.obj [pS 1 cl_t encI t, pI 0]] rfl rfl rfl (handed_of (by decide) ⟨rfl, trivial⟩) rfl rfl rfl rfl rfl rfl (w_burgagekeep_Tape_Request t cl_t 0 (by first | omega | assumption | (simp; omega) | decide | (simp; done))) (fun q1 b1 => rfl) (fun q1 b1 => dist_of rfl) (fun q1 b1 => rfl) (fun q1 b1 => rfl) rfl (fun q1 b1 => rfl) (fun q1 b1 hq1 => ?_))
 refine qo hnt rfl (s_alloc tab_27 ?_)
 refine qo hnt rfl (s_store_ptr tab_27 rfl rfl rfl rfl rfl (Nat.le_of_ble_eq_true rfl) ?_)
 refine r_set [(1, pI n), (5, PV.ptr 1 0)] [(1, .obj [pI q1.fn, pI q1.at_, pI q1.count, pI q1.wAt, pI q1.sub, pS 1 false encBo q1.bits, pS 1 false enc16 q1.vals, p16 q1.and_, p16 q1.or_]), (0, .obj [pS 1 false encI t, pN b1])] 2 ⟨rfl, rfl, trivial⟩ rfl rfl ?_
 refine r_end ?_
 refine q_then ?_
 refine w_seq ?_
 refine w_seq ?_
 obtain ⟨hr1, hqb1, hqv1, hqc1, hqd1⟩ := hq1
 have hbp1 := bytes_pos hr1
 have hbl1 := bytesR_len q1
 refine w_R ?_
 refine qo hnt rfl (s_load_ptr tab_27 rfl rfl rfl (Nat.le_of_ble_eq_true rfl) ?_)
 refine qo hnt rfl (s_callF rfl rfl rfl (w_pdu_Right q1 (by first | omega | assumption | (simp; omega) | decide | (simp; done)) (by first | omega | assumption | (simp; omega) | decide | (simp; done))) rfl ?_)
 refine qo hnt rfl (s_neq rfl rfl ?_)
 refine r_end ?_
 refine q_then ?_
 refine w_if rfl (fun c1 => ?_) (fun c1 => ?_)
 ·
  have c1_ := c1
  exact absurd c1 (by simp [hr1])
 ·
  have c1_ := c1
  try simp only [sB] at c1
  refine w_skip ?_
  refine q_then ?_
  refine w_seq ?_
  refine w_R ?_
  refine qm hnt rfl rfl ?_
  refine qo hnt rfl (s_maskI 8 (by decide) rfl rfl (by decide) ?_)
  refine qo hnt rfl (s_addN (a := 1) (b := (n % 2 ^ 8).toNat) rfl rfl (by omega) (by omega) (by omega) ?_)
  refine qa hnt rfl rfl ?_
  refine r_end ?_
  refine q_then ?_
  refine w_seq ?_
  obtain ⟨kk, hkk⟩ : ∃ z : Nat, z = 1 + (n % 2 ^ 8).toNat := ⟨_, rfl⟩
  refine w_eq (s := 6) (y := pN kk) rfl (congrArg (fun z : Nat => pN z) (show (1 + ((n % 2 ^ 8).toNat)) = kk by exact hkk.symm)) ?_
  have hkk2 : 1 ≤ kk ∧ kk ≤ 256 := by omega
  refine W_drawn tabOk mixed hnt [[], [], [], [], [], [], [0, 3, 4, 5], [0, 1, 3, 4, 5, 6], [0, 1, 2, 3, 4, 5, 6, 7]] (by kernel_rfl) ?_
  refine d_op ?_
  refine x_run [(5, PV.ptr 1 0)] [] [(1, .obj [pI q1.fn, pI q1.at_, pI q1.count, pI q1.wAt, pI q1.sub, pS 1 false encBo q1.bits, pS 1 false enc16 q1.vals, p16 q1.and_, p16 q1.or_])] [] [(1, .obj [pI q1.fn, pI q1.at_, pI q1.count, pI q1.wAt, pI q1.sub, pS 1 false encBo q1.bits, pS 1 false enc16 q1.vals, p16 q1.and_, p16 q1.or_])] [] [(1, .obj [pI q1.fn, pI q1.at_, pI q1.count, pI q1.wAt, pI q1.sub, pS 1 false encBo q1.bits, pS 1 false enc16 q1.vals, p16 q1.and_, p16 q1.or_]), (0, .obj [pS 1 false encI t, pN b1])] rfl rfl rfl rfl rfl rfl (s_load_ptr tab_27 rfl rfl rfl (Nat.le_of_ble_eq_true rfl) ⟨rfl, rfl, rfl⟩) rfl ⟨rfl, trivial⟩ rfl rfl ?_
  refine d_op ?_
  refine x_run [(5, PV.ptr 1 0)] [] [(1, .obj [pI q1.fn, pI q1.at_, pI q1.count, pI q1.wAt, pI q1.sub, pS 1 false encBo q1.bits, pS 1 false enc16 q1.vals, p16 q1.and_, p16 q1.or_])] [] [(1, .obj [pI q1.fn, pI q1.at_, pI q1.count, pI q1.wAt, pI q1.sub, pS 1 false encBo q1.bits, pS 1 false enc16 q1.vals, p16 q1.and_, p16 q1.or_])] [] [(1, .obj [pI q1.fn, pI q1.at_, pI q1.count, pI q1.wAt, pI q1.sub, pS 1 false encBo q1.bits, pS 1 false enc16 q1.vals, p16 q1.and_, p16 q1.or_]), (0, .obj [pS 1 false encI t, pN b1])] rfl rfl rfl rfl rfl rfl (s_load_ptr tab_27 rfl rfl rfl (Nat.le_of_ble_eq_true rfl) ⟨rfl, rfl, rfl⟩) rfl ⟨rfl, trivial⟩ rfl rfl ?_
  refine d_op ?_
  refine x_run [(5, PV.ptr 1 0)] [] [(1, .obj [pI q1.fn, pI q1.at_, pI q1.count, pI q1.wAt, pI q1.sub, pS 1 false encBo q1.bits, pS 1 false enc16 q1.vals, p16 q1.and_, p16 q1.or_])] [] [(1, .obj [pI q1.fn, pI q1.at_, pI q1.count, pI q1.wAt, pI q1.sub, pS 1 false encBo q1.bits, pS 1 false enc16 q1.vals, p16 q1.and_, p16 q1.or_])] [] [(1, .obj [pI q1.fn, pI q1.at_, pI q1.count, pI q1.wAt, pI q1.sub, pS 1 false encBo q1.bits, pS 1 false enc16 q1.vals, p16 q1.and_, p16 q1.or_]), (0, .obj [pS 1 false encI t, pN b1])] rfl rfl rfl rfl rfl rfl (s_load_ptr tab_27 rfl rfl rfl (Nat.le_of_ble_eq_true rfl) ⟨rfl, rfl, rfl⟩) rfl ⟨rfl, trivial⟩ rfl rfl ?_
  refine d_op ?_
  refine x_run [] [] [] [] [(2, .obj [pI 0, pI 0, pI 0, pI 0, pI 0, pNil, pNil, p16 0, p16 0])] [(2, .obj [pI 0, pI 0, pI 0, pI 0, pI 0, pNil, pNil, p16 0, p16 0])] [(2, .obj [pI 0, pI 0, pI 0, pI 0, pI 0, pNil, pNil, p16 0, p16 0]), (1, .obj [pI q1.fn, pI q1.at_, pI q1.count, pI q1.wAt, pI q1.sub, pS 1 false encBo q1.bits, pS 1 false enc16 q1.vals, p16 q1.and_, p16 q1.or_]), (0, .obj [pS 1 false encI t, pN b1])] rfl rfl rfl rfl rfl rfl (s_alloc tab_27 ⟨rfl, rfl, rfl⟩) rfl trivial rfl rfl ?_
  refine d_op ?_
  refine x_run [] [] [] [] [(3, .obj [pI 0, pI 0, pI 0, pI 0, pI 0, pNil, pNil, p16 0, p16 0])] [(3, .obj [pI 0, pI 0, pI 0, pI 0, pI 0, pNil, pNil, p16 0, p16 0])] [(3, .obj [pI 0, pI 0, pI 0, pI 0, pI 0, pNil, pNil, p16 0, p16 0]), (2, .obj [pI 0, pI 0, pI 0, pI 0, pI 0, pNil, pNil, p16 0, p16 0]), (1, .obj [pI q1.fn, pI q1.at_, pI q1.count, pI q1.wAt, pI q1.sub, pS 1 false encBo q1.bits, pS 1 false enc16 q1.vals, p16 q1.and_, p16 q1.or_]), (0, .obj [pS 1 false encI t, pN b1])] rfl rfl rfl rfl rfl rfl (s_alloc tab_27 ⟨rfl, rfl, rfl⟩) rfl trivial rfl rfl ?_
  refine d_op ?_
  refine x_run [] [] [] [] [(4, .obj [pI 0, pI 0, pI 0, pI 0, pI 0, pNil, pNil, p16 0, p16 0])] [(4, .obj [pI 0, pI 0, pI 0, pI 0, pI 0, pNil, pNil, p16 0, p16 0])] [(4, .obj [pI 0, pI 0, pI 0, pI 0, pI 0, pNil, pNil, p16 0, p16 0]), (3, .obj [pI 0, pI 0, pI 0, pI 0, pI 0, pNil, pNil, p16 0, p16 0]), (2, .obj [pI 0, pI 0, pI 0, pI 0, pI 0, pNil, pNil, p16 0, p16 0]), (1, .obj [pI q1.fn, pI q1.at_, pI q1.count, pI q1.wAt, pI q1.sub, pS 1 false encBo q1.bits, pS 1 false enc16 q1.vals, p16 q1.and_, p16 q1.or_]), (0, .obj [pS 1 false encI t, pN b1])] rfl rfl rfl rfl rfl rfl (s_alloc tab_27 ⟨rfl, rfl, rfl⟩) rfl trivial rfl rfl ?_
  refine d_op ?_
  refine x_run [(7, PV.ptr 2 0), (21, PV.f (.agg [encI q1.fn, encI q1.at_, encI q1.count, encI q1.wAt, encI q1.sub, FV.sl 1 false (List.map encBo q1.bits), FV.sl 1 false (List.map enc16 q1.vals), enc16 q1.and_, enc16 q1.or_]))] [0, 3, 4, 5] [] [(2, .obj [pI 0, pI 0, pI 0, pI 0, pI 0, pNil, pNil, p16 0, p16 0])] [(2, .obj [pI q1.fn, pI q1.at_, pI q1.count, pI q1.wAt, pI q1.sub, pS 1 false encBo q1.bits, pS 1 false enc16 q1.vals, p16 q1.and_, p16 q1.or_])] [(2, .obj [pI q1.fn, pI q1.at_, pI q1.count, pI q1.wAt, pI q1.sub, pS 1 false encBo q1.bits, pS 1 false enc16 q1.vals, p16 q1.and_, p16 q1.or_])] [(2, .obj [pI q1.fn, pI q1.at_, pI q1.count, pI q1.wAt, pI q1.sub, pS 1 false encBo q1.bits, pS 1 false enc16 q1.vals, p16 q1.and_, p16 q1.or_]), (4, .obj [pI 0, pI 0, pI 0, pI 0, pI 0, pNil, pNil, p16 0, p16 0]), (3, .obj [pI 0, pI 0, pI 0, pI 0, pI 0, pNil, pNil, p16 0, p16 0]), (1, .obj [pI q1.fn, pI q1.at_, pI q1.count, pI q1.wAt, pI q1.sub, pS 1 false encBo q1.bits, pS 1 false enc16 q1.vals, p16 q1.and_, p16 q1.or_]), (0, .obj [pS 1 false encI t, pN b1])] rfl rfl rfl rfl rfl rfl (s_store_ptr tab_27 rfl rfl rfl rfl rfl (Nat.le_of_ble_eq_true rfl) ⟨rfl, rfl, rfl⟩) rfl trivial rfl rfl ?_
  refine d_op ?_
  refine x_run [(8, PV.ptr 3 0), (22, PV.f (.agg [encI q1.fn, encI q1.at_, encI q1.count, encI q1.wAt, encI q1.sub, FV.sl 1 false (List.map encBo q1.bits), FV.sl 1 false (List.map enc16 q1.vals), enc16 q1.and_, enc16 q1.or_]))] [0, 1, 3, 4, 5, 6] [] [(3, .obj [pI 0, pI 0, pI 0, pI 0, pI 0, pNil, pNil, p16 0, p16 0])] [(3, .obj [pI q1.fn, pI q1.at_, pI q1.count, pI q1.wAt, pI q1.sub, pS 1 false encBo q1.bits, pS 1 false enc16 q1.vals, p16 q1.and_, p16 q1.or_])] [(3, .obj [pI q1.fn, pI q1.at_, pI q1.count, pI q1.wAt, pI q1.sub, pS 1 false encBo q1.bits, pS 1 false enc16 q1.vals, p16 q1.and_, p16 q1.or_])] [(3, .obj [pI q1.fn, pI q1.at_, pI q1.count, pI q1.wAt, pI q1.sub, pS 1 false encBo q1.bits, pS 1 false enc16 q1.vals, p16 q1.and_, p16 q1.or_]), (2, .obj [pI q1.fn, pI q1.at_, pI q1.count, pI q1.wAt, pI q1.sub, pS 1 false encBo q1.bits, pS 1 false enc16 q1.vals, p16 q1.and_, p16 q1.or_]), (4, .obj [pI 0, pI 0, pI 0, pI 0, pI 0, pNil, pNil, p16 0, p16 0]), (1, .obj [pI q1.fn, pI q1.at_, pI q1.count, pI q1.wAt, pI q1.sub, pS 1 false encBo q1.bits, pS 1 false enc16 q1.vals, p16 q1.and_, p16 q1.or_]), (0, .obj [pS 1 false encI t, pN b1])] rfl rfl rfl rfl rfl rfl (s_store_ptr tab_27 rfl rfl rfl rfl rfl (Nat.le_of_ble_eq_true rfl) ⟨rfl, rfl, rfl⟩) rfl trivial rfl rfl ?_
  refine d_op ?_
  refine x_run [(9, PV.ptr 4 0), (23, PV.f (.agg [encI q1.fn, encI q1.at_, encI q1.count, encI q1.wAt, encI q1.sub, FV.sl 1 false (List.map encBo q1.bits), FV.sl 1 false (List.map enc16 q1.vals), enc16 q1.and_, enc16 q1.or_]))] [0, 1, 2, 3, 4, 5, 6, 7] [] [(4, .obj [pI 0, pI 0, pI 0, pI 0, pI 0, pNil, pNil, p16 0, p16 0])] [(4, .obj [pI q1.fn, pI q1.at_, pI q1.count, pI q1.wAt, pI q1.sub, pS 1 false encBo q1.bits, pS 1 false enc16 q1.vals, p16 q1.and_, p16 q1.or_])] [(4, .obj [pI q1.fn, pI q1.at_, pI q1.count, pI q1.wAt, pI q1.sub, pS 1 false encBo q1.bits, pS 1 false enc16 q1.vals, p16 q1.and_, p16 q1.or_])] [(4, .obj [pI q1.fn, pI q1.at_, pI q1.count, pI q1.wAt, pI q1.sub, pS 1 false encBo q1.bits, pS 1 false enc16 q1.vals, p16 q1.and_, p16 q1.or_]), (3, .obj [pI q1.fn, pI q1.at_, pI q1.count, pI q1.wAt, pI q1.sub, pS 1 false encBo q1.bits, pS 1 false enc16 q1.vals, p16 q1.and_, p16 q1.or_]), (2, .obj [pI q1.fn, pI q1.at_, pI q1.count, pI q1.wAt, pI q1.sub, pS 1 false encBo q1.bits, pS 1 false enc16 q1.vals, p16 q1.and_, p16 q1.or_]), (1, .obj [pI q1.fn, pI q1.at_, pI q1.count, pI q1.wAt, pI q1.sub, pS 1 false encBo q1.bits, pS 1 false enc16 q1.vals, p16 q1.and_, p16 q1.or_]), (0, .obj [pS 1 false encI t, pN b1])] rfl rfl rfl rfl rfl rfl (s_store_ptr tab_27 rfl rfl rfl rfl rfl (Nat.le_of_ble_eq_true rfl) ⟨rfl, rfl, rfl⟩) rfl trivial rfl rfl ?_
  refine d_end ⟨by kernel_rfl, ?_⟩
  refine q_then ?_
  refine w_seq ?_
  refine w_R ?_
  refine qm hnt rfl rfl ?_
  refine qm hnt rfl rfl ?_
  refine qm hnt rfl rfl ?_
  refine qo hnt rfl (s_cv16N (a := kk) tab_3 tab_25 rfl rfl rfl (by omega) ?_)
  refine qo hnt rfl (s_fa_ptr tab_27 rfl rfl tab_3 (by decide) rfl ?_)
  refine qo hnt rfl (s_store_ptr tab_3 rfl rfl rfl rfl rfl (Nat.le_of_ble_eq_true rfl) ?_)
  refine qo hnt rfl (s_fa_ptr tab_27 rfl rfl tab_3 (by decide) rfl ?_)
  refine qo hnt rfl (s_store_ptr tab_3 rfl rfl rfl rfl rfl (Nat.le_of_ble_eq_true rfl) ?_)
  refine qo hnt rfl (s_fa_ptr tab_27 rfl rfl tab_25 (by decide) rfl ?_)
  refine qo hnt rfl (s_store_ptr tab_25 rfl rfl rfl rfl rfl (Nat.le_of_ble_eq_true rfl) ?_)
  refine r_set [(5, PV.ptr 1 0), (7, PV.ptr 2 0), (8, PV.ptr 3 0), (9, PV.ptr 4 0)] [(4, .obj [pI q1.fn, pI q1.at_, pI q1.count, pI q1.wAt, pI q1.sub, pS 1 false encBo q1.bits, pS 1 false enc16 q1.vals, p16 (UInt16.ofNat kk), p16 q1.or_]), (3, .obj [pI q1.fn, pI q1.at_, pI q1.count, pI q1.wAt, pN kk, pS 1 false encBo q1.bits, pS 1 false enc16 q1.vals, p16 q1.and_, p16 q1.or_]), (2, .obj [pI q1.fn, pI q1.at_, pI q1.count, pN kk, pI q1.sub, pS 1 false encBo q1.bits, pS 1 false enc16 q1.vals, p16 q1.and_, p16 q1.or_]), (1, .obj [pI q1.fn, pI q1.at_, pI q1.count, pI q1.wAt, pI q1.sub, pS 1 false encBo q1.bits, pS 1 false enc16 q1.vals, p16 q1.and_, p16 q1.or_]), (0, .obj [pS 1 false encI t, pN b1])] 5 ⟨rfl, rfl, rfl, rfl, trivial⟩ rfl rfl ?_
  refine r_end ?_
  refine q_then ?_
  refine w_seq ?_
  refine w_R ?_
  refine qo hnt rfl (s_load_ptr tab_27 rfl rfl rfl (Nat.le_of_ble_eq_true rfl) ?_)
  refine qo hnt rfl (s_alloc tab_27 ?_)
  refine qo hnt rfl (s_store_ptr tab_27 rfl rfl rfl rfl rfl (Nat.le_of_ble_eq_true rfl) ?_)
  refine r_set [(5, PV.ptr 1 0), (7, PV.ptr 2 0), (8, PV.ptr 3 0), (9, PV.ptr 4 0), (10, PV.ptr 5 0)] [(5, .obj [pI q1.fn, pI q1.at_, pI q1.count, pI q1.wAt, pI q1.sub, pS 1 false encBo q1.bits, pS 1 false enc16 q1.vals, p16 q1.and_, p16 q1.or_]), (4, .obj [pI q1.fn, pI q1.at_, pI q1.count, pI q1.wAt, pI q1.sub, pS 1 false encBo q1.bits, pS 1 false enc16 q1.vals, p16 (UInt16.ofNat kk), p16 q1.or_]), (3, .obj [pI q1.fn, pI q1.at_, pI q1.count, pI q1.wAt, pN kk, pS 1 false encBo q1.bits, pS 1 false enc16 q1.vals, p16 q1.and_, p16 q1.or_]), (2, .obj [pI q1.fn, pI q1.at_, pI q1.count, pN kk, pI q1.sub, pS 1 false encBo q1.bits, pS 1 false enc16 q1.vals, p16 q1.and_, p16 q1.or_]), (1, .obj [pI q1.fn, pI q1.at_, pI q1.count, pI q1.wAt, pI q1.sub, pS 1 false encBo q1.bits, pS 1 false enc16 q1.vals, p16 q1.and_, p16 q1.or_]), (0, .obj [pS 1 false encI t, pN b1])] 6 ⟨rfl, rfl, rfl, rfl, rfl, trivial⟩ rfl rfl ?_
  refine r_end ?_
  refine q_then ?_
  refine w_seq ?_
  refine w_R ?_
  refine qo hnt rfl (s_mkM (f := encBo) ([] : List Bool) tab_23 rfl tab_4 ⟨rfl, by decide⟩ (by decide) rfl rfl rfl rfl ?_)
  refine qo hnt rfl (s_fa_ptr tab_27 rfl rfl tab_23 (by decide) rfl ?_)
  refine qo hnt rfl (s_load_ptr1 tab_23 rfl rfl rfl rfl rfl ?_)
  refine qo hnt rfl (s_appR0 (f := encBo) (l := ([] : List Bool)) (xs := q1.bits) tab_23 rfl tab_4 ⟨rfl, by decide, by decide⟩ (srcM tab_23 rfl (hM_sl (f := encBo) rfl)) rfl rfl (by first | omega | (simp; omega)) ?_)
  refine qo hnt rfl (s_mkM (f := encBo) [true] tab_23 rfl tab_4 ⟨rfl, by decide⟩ (by decide) rfl rfl rfl rfl ?_)
  refine qo hnt rfl (s_appR0 (f := encBo) (l := q1.bits) (xs := [true]) tab_23 rfl tab_4 ⟨rfl, by decide, by decide⟩ (srcM tab_23 rfl (hM_ref0 (f := encBo) rfl rfl)) rfl rfl (by first | omega | (simp; omega)) ?_)
  refine qo hnt rfl (s_fa_ptr tab_27 rfl rfl tab_23 (by decide) rfl ?_)
  refine qo hnt rfl (s_store_ptr tab_23 rfl rfl rfl rfl rfl (Nat.le_of_ble_eq_true rfl) ?_)
  refine r_set [(5, PV.ptr 1 0), (7, PV.ptr 2 0), (8, PV.ptr 3 0), (9, PV.ptr 4 0), (10, PV.ptr 5 0)] [(5, .obj [pI q1.fn, pI q1.at_, pI q1.count, pI q1.wAt, pI q1.sub, PV.ref 9 0 none, pS 1 false enc16 q1.vals, p16 q1.and_, p16 q1.or_]), (9, oB true 1 encBo (q1.bits ++ [true])), (8, oB true 1 encBo [true]), (4, .obj [pI q1.fn, pI q1.at_, pI q1.count, pI q1.wAt, pI q1.sub, pS 1 false encBo q1.bits, pS 1 false enc16 q1.vals, p16 (UInt16.ofNat kk), p16 q1.or_]), (3, .obj [pI q1.fn, pI q1.at_, pI q1.count, pI q1.wAt, pN kk, pS 1 false encBo q1.bits, pS 1 false enc16 q1.vals, p16 q1.and_, p16 q1.or_]), (2, .obj [pI q1.fn, pI q1.at_, pI q1.count, pN kk, pI q1.sub, pS 1 false encBo q1.bits, pS 1 false enc16 q1.vals, p16 q1.and_, p16 q1.or_]), (1, .obj [pI q1.fn, pI q1.at_, pI q1.count, pI q1.wAt, pI q1.sub, pS 1 false encBo q1.bits, pS 1 false enc16 q1.vals, p16 q1.and_, p16 q1.or_]), (0, .obj [pS 1 false encI t, pN b1])] 10 ⟨rfl, rfl, rfl, rfl, rfl, trivial⟩ rfl rfl ?_
  refine r_end ?_
  refine q_then ?_
  refine w_seq ?_
  refine W_drawn tabOk mixed hnt [[], [0], [0, 1], [], [3], [3, 4], [0, 1, 2, 3, 4, 5], [0, 1, 2, 3, 4, 5, 6], [0, 1, 2, 3, 4, 5, 6, 7], [0, 1, 2, 3, 4, 5, 6, 7, 8], [0, 1, 2, 3, 4, 5, 6, 7, 8, 9], [0, 1, 2, 3, 4, 5, 6, 7], [0, 1, 2, 3, 4, 5, 6, 7, 11], [0, 1, 2, 3, 4, 5, 6, 7, 11, 12], [0, 1, 2, 3, 4, 5, 6, 7, 8, 9, 10, 11, 12, 13], [0, 1, 2, 3, 4, 5, 6, 7, 8, 9, 10, 11, 12, 13, 14], [0, 1, 2, 3, 4, 5, 6, 7, 8, 9, 10, 11, 12, 13, 14, 15], [0, 1, 2, 3, 4, 5, 6, 7, 8, 9, 10, 11, 12, 13, 14, 15, 16], [0, 1, 2, 3, 4, 5, 6, 7, 8, 9, 10, 11, 12, 13, 14, 15, 16, 17], [0, 1, 2, 3, 4, 5, 6, 7, 8, 9, 10, 11, 12, 13, 14, 15, 16, 17, 18], [0, 1, 2, 3, 4, 5, 6, 7, 8, 9, 10, 11, 12, 13, 14, 15, 16], [0, 1, 2, 3, 4, 5, 6, 7, 8, 9, 10, 11, 12, 13, 14, 15, 16, 20], [0, 1, 2, 3, 4, 5, 6, 7, 8, 9, 10, 11, 12, 13, 14, 15, 16, 20, 21], [0, 1, 2, 3, 4, 5, 6, 7, 8, 9, 10, 11, 12, 13, 14, 15, 16, 17, 18, 19, 20, 21, 22], [0, 1, 2, 3, 4, 5, 6, 7, 8, 9, 10, 11, 12, 13, 14, 15, 16, 17, 18, 19, 20, 21, 22, 23], [0, 1, 2, 3, 4, 5, 6, 7, 8, 9, 10, 11, 12, 13, 14, 15, 16, 17, 18, 19, 20, 21, 22, 23, 24], [0, 1, 2, 3, 4, 5, 6, 7, 8, 9, 10, 11, 12, 13, 14, 15, 16, 17, 18, 19, 20, 21, 22, 23, 24, 25], [0, 1, 2, 3, 4, 5, 6, 7, 8, 9, 10, 11, 12, 13, 14, 15, 16, 17, 18, 19, 20, 21, 22, 23, 24, 25, 26], [0, 1, 2, 3, 4, 5, 6, 7, 8, 9, 10, 11, 12, 13, 14, 15, 16, 17, 18, 19, 20, 21, 22, 23, 24, 25, 26, 27], [0, 1, 2, 3, 4, 5, 6, 7, 8, 9, 10, 11, 12, 13, 14, 15, 16, 17, 18, 19, 20, 21, 22, 23, 24, 25, 26, 27, 28], [0, 1, 2, 3, 4, 5, 6, 7, 8, 9, 10, 11, 12, 13, 14, 15, 16, 17, 18, 19, 20, 21, 22, 23, 24, 25, 26, 27, 28, 29], [0, 1, 2, 3, 4, 5, 6, 7, 8, 9, 10, 11, 12, 13, 14, 15, 16, 17, 18, 19, 20, 21, 22, 23, 24, 25, 26, 27, 28, 29, 30], [0, 1, 2, 3, 4, 5, 6, 7, 8, 9, 10, 11, 12, 13, 14, 15, 16, 17, 18, 19, 20, 21, 22, 23, 24, 25, 26, 27, 28, 29, 30, 31], [0, 1, 2, 3, 4, 5, 6, 7, 8, 9, 10, 11, 12, 13, 14, 15, 16, 17, 18, 19, 20, 21, 22, 23, 24, 25, 26, 27, 28, 29, 30, 31, 32]] (by kernel_rfl) ?_
  refine d_op ?_
  refine x_run [(7, PV.ptr 2 0)] [] [(2, .obj [pI q1.fn, pI q1.at_, pI q1.count, pN kk, pI q1.sub, pS 1 false encBo q1.bits, pS 1 false enc16 q1.vals, p16 q1.and_, p16 q1.or_])] [] [(2, .obj [pI q1.fn, pI q1.at_, pI q1.count, pN kk, pI q1.sub, pS 1 false encBo q1.bits, pS 1 false enc16 q1.vals, p16 q1.and_, p16 q1.or_])] [] [(5, .obj [pI q1.fn, pI q1.at_, pI q1.count, pI q1.wAt, pI q1.sub, PV.ref 9 0 none, pS 1 false enc16 q1.vals, p16 q1.and_, p16 q1.or_]), (9, oB true 1 encBo (q1.bits ++ [true])), (8, oB true 1 encBo [true]), (4, .obj [pI q1.fn, pI q1.at_, pI q1.count, pI q1.wAt, pI q1.sub, pS 1 false encBo q1.bits, pS 1 false enc16 q1.vals, p16 (UInt16.ofNat kk), p16 q1.or_]), (3, .obj [pI q1.fn, pI q1.at_, pI q1.count, pI q1.wAt, pN kk, pS 1 false encBo q1.bits, pS 1 false enc16 q1.vals, p16 q1.and_, p16 q1.or_]), (2, .obj [pI q1.fn, pI q1.at_, pI q1.count, pN kk, pI q1.sub, pS 1 false encBo q1.bits, pS 1 false enc16 q1.vals, p16 q1.and_, p16 q1.or_]), (1, .obj [pI q1.fn, pI q1.at_, pI q1.count, pI q1.wAt, pI q1.sub, pS 1 false encBo q1.bits, pS 1 false enc16 q1.vals, p16 q1.and_, p16 q1.or_]), (0, .obj [pS 1 false encI t, pN b1])] rfl rfl rfl rfl rfl rfl (s_load_ptr tab_27 rfl rfl rfl (Nat.le_of_ble_eq_true rfl) ⟨rfl, rfl, rfl⟩) rfl ⟨rfl, trivial⟩ rfl rfl ?_
  refine d_op ?_
  refine x_run0 [(39, PV.f (.agg [encI q1.fn, encI q1.at_, encI q1.count, encI ((kk : Nat) : Int), encI q1.sub, FV.sl 1 false (List.map encBo q1.bits), FV.sl 1 false (List.map enc16 q1.vals), enc16 q1.and_, enc16 q1.or_]))] [0] rfl rfl rfl rfl (s_callF rfl rfl rfl (w_pdu_Right (⟨q1.fn, q1.at_, q1.count, ((kk : Nat) : Int), q1.sub, q1.bits, q1.vals, q1.and_, q1.or_⟩ : TRequest) (by first | omega | assumption | (simp; omega) | decide | (simp; done)) (by first | omega | assumption | (simp; omega) | decide | (simp; done))) rfl ⟨rfl, rfl, rfl⟩) ?_
  refine d_op ?_
  refine x_run0 [(40, pI (rightR (⟨q1.fn, q1.at_, q1.count, ((kk : Nat) : Int), q1.sub, q1.bits, q1.vals, q1.and_, q1.or_⟩ : TRequest)))] [0, 1] rfl rfl rfl rfl (s_eql rfl rfl ⟨rfl, rfl, rfl⟩) ?_
  refine d_op ?_
  refine x_run0 [(5, PV.ptr 1 0)] [] rfl rfl rfl rfl (s_fa_ptr tab_27 rfl rfl tab_3 (by decide) rfl ⟨rfl, rfl, rfl⟩) ?_
  refine d_op ?_
  refine x_run [(42, PV.ptr 1 0)] [3] [(1, .obj [pI q1.fn, pI q1.at_, pI q1.count, pI q1.wAt, pI q1.sub, pS 1 false encBo q1.bits, pS 1 false enc16 q1.vals, p16 q1.and_, p16 q1.or_])] [] [(1, .obj [pI q1.fn, pI q1.at_, pI q1.count, pI q1.wAt, pI q1.sub, pS 1 false encBo q1.bits, pS 1 false enc16 q1.vals, p16 q1.and_, p16 q1.or_])] [] [(5, .obj [pI q1.fn, pI q1.at_, pI q1.count, pI q1.wAt, pI q1.sub, PV.ref 9 0 none, pS 1 false enc16 q1.vals, p16 q1.and_, p16 q1.or_]), (9, oB true 1 encBo (q1.bits ++ [true])), (8, oB true 1 encBo [true]), (4, .obj [pI q1.fn, pI q1.at_, pI q1.count, pI q1.wAt, pI q1.sub, pS 1 false encBo q1.bits, pS 1 false enc16 q1.vals, p16 (UInt16.ofNat kk), p16 q1.or_]), (3, .obj [pI q1.fn, pI q1.at_, pI q1.count, pI q1.wAt, pN kk, pS 1 false encBo q1.bits, pS 1 false enc16 q1.vals, p16 q1.and_, p16 q1.or_]), (2, .obj [pI q1.fn, pI q1.at_, pI q1.count, pN kk, pI q1.sub, pS 1 false encBo q1.bits, pS 1 false enc16 q1.vals, p16 q1.and_, p16 q1.or_]), (1, .obj [pI q1.fn, pI q1.at_, pI q1.count, pI q1.wAt, pI q1.sub, pS 1 false encBo q1.bits, pS 1 false enc16 q1.vals, p16 q1.and_, p16 q1.or_]), (0, .obj [pS 1 false encI t, pN b1])] rfl rfl rfl rfl rfl rfl (s_load_ptr1 tab_3 rfl rfl rfl rfl rfl ⟨rfl, rfl, rfl⟩) rfl ⟨rfl, trivial⟩ rfl rfl ?_
  refine d_op ?_
  refine x_run0 [(43, pI q1.fn)] [3, 4] rfl rfl rfl rfl (s_eql rfl rfl ⟨rfl, rfl, rfl⟩) ?_
  refine d_op ?_
  refine x_run0 [(41, pB (decide (rightR (⟨q1.fn, q1.at_, q1.count, ((kk : Nat) : Int), q1.sub, q1.bits, q1.vals, q1.and_, q1.or_⟩ : TRequest) = 0))), (44, pB (decide (q1.fn = 23)))] [0, 1, 2, 3, 4, 5] rfl rfl rfl rfl (s_eqbool tab_4 rfl rfl rfl ⟨rfl, rfl, rfl⟩) ?_
  refine d_op ?_
  refine x_run0 [(45, pB ((decide (rightR (⟨q1.fn, q1.at_, q1.count, ((kk : Nat) : Int), q1.sub, q1.bits, q1.vals, q1.and_, q1.or_⟩ : TRequest) = 0)) == (decide (q1.fn = 23))))] [0, 1, 2, 3, 4, 5, 6] rfl rfl rfl rfl (s_move rfl ⟨rfl, rfl, rfl⟩) ?_
  refine x_if [(46, pB ((decide (rightR (⟨q1.fn, q1.at_, q1.count, ((kk : Nat) : Int), q1.sub, q1.bits, q1.vals, q1.and_, q1.or_⟩ : TRequest) = 0)) == (decide (q1.fn = 23)))), (8, PV.ptr 3 0)] [0, 1, 2, 3, 4, 5, 6, 7] rfl rfl rfl rfl (fun g1 => ?_) (fun g1 => ?_)
  ·
   have g1' := g1
   try simp only [sB] at g1'
   refine x_run [(46, pB ((decide (rightR (⟨q1.fn, q1.at_, q1.count, ((kk : Nat) : Int), q1.sub, q1.bits, q1.vals, q1.and_, q1.or_⟩ : TRequest) = 0)) == (decide (q1.fn = 23)))), (8, PV.ptr 3 0)] [0, 1, 2, 3, 4, 5, 6, 7] [(3, .obj [pI q1.fn, pI q1.at_, pI q1.count, pI q1.wAt, pN kk, pS 1 false encBo q1.bits, pS 1 false enc16 q1.vals, p16 q1.and_, p16 q1.or_])] [] [(3, .obj [pI q1.fn, pI q1.at_, pI q1.count, pI q1.wAt, pN kk, pS 1 false encBo q1.bits, pS 1 false enc16 q1.vals, p16 q1.and_, p16 q1.or_])] [] [(5, .obj [pI q1.fn, pI q1.at_, pI q1.count, pI q1.wAt, pI q1.sub, PV.ref 9 0 none, pS 1 false enc16 q1.vals, p16 q1.and_, p16 q1.or_]), (9, oB true 1 encBo (q1.bits ++ [true])), (8, oB true 1 encBo [true]), (4, .obj [pI q1.fn, pI q1.at_, pI q1.count, pI q1.wAt, pI q1.sub, pS 1 false encBo q1.bits, pS 1 false enc16 q1.vals, p16 (UInt16.ofNat kk), p16 q1.or_]), (3, .obj [pI q1.fn, pI q1.at_, pI q1.count, pI q1.wAt, pN kk, pS 1 false encBo q1.bits, pS 1 false enc16 q1.vals, p16 q1.and_, p16 q1.or_]), (2, .obj [pI q1.fn, pI q1.at_, pI q1.count, pN kk, pI q1.sub, pS 1 false encBo q1.bits, pS 1 false enc16 q1.vals, p16 q1.and_, p16 q1.or_]), (1, .obj [pI q1.fn, pI q1.at_, pI q1.count, pI q1.wAt, pI q1.sub, pS 1 false encBo q1.bits, pS 1 false enc16 q1.vals, p16 q1.and_, p16 q1.or_]), (0, .obj [pS 1 false encI t, pN b1])] rfl rfl rfl rfl rfl rfl (s_load_ptr tab_27 rfl rfl rfl (Nat.le_of_ble_eq_true rfl) ⟨rfl, rfl, rfl⟩) rfl ⟨rfl, trivial⟩ rfl rfl ?_
   refine xy [(46, pB ((decide (rightR (⟨q1.fn, q1.at_, q1.count, ((kk : Nat) : Int), q1.sub, q1.bits, q1.vals, q1.and_, q1.or_⟩ : TRequest) = 0)) == (decide (q1.fn = 23)))), (47, PV.f (.agg [encI q1.fn, encI q1.at_, encI q1.count, encI q1.wAt, encI ((kk : Nat) : Int), FV.sl 1 false (List.map encBo q1.bits), FV.sl 1 false (List.map enc16 q1.vals), enc16 q1.and_, enc16 q1.or_]))] [0, 1, 2, 3, 4, 5, 6, 7, 8] rfl rfl rfl rfl g1 ?_
   refine x_run0 [(46, pB ((decide (rightR (⟨q1.fn, q1.at_, q1.count, ((kk : Nat) : Int), q1.sub, q1.bits, q1.vals, q1.and_, q1.or_⟩ : TRequest) = 0)) == (decide (q1.fn = 23)))), (47, PV.f (.agg [encI q1.fn, encI q1.at_, encI q1.count, encI q1.wAt, encI ((kk : Nat) : Int), FV.sl 1 false (List.map encBo q1.bits), FV.sl 1 false (List.map enc16 q1.vals), enc16 q1.and_, enc16 q1.or_]))] [0, 1, 2, 3, 4, 5, 6, 7, 8] rfl rfl rfl rfl (s_callF rfl rfl rfl (w_pdu_Right (⟨q1.fn, q1.at_, q1.count, q1.wAt, ((kk : Nat) : Int), q1.bits, q1.vals, q1.and_, q1.or_⟩ : TRequest) (by first | omega | assumption | (simp; omega) | decide | (simp; done)) (by first | omega | assumption | (simp; omega) | decide | (simp; done))) rfl ⟨rfl, rfl, rfl⟩) ?_
   refine xy [(46, pB ((decide (rightR (⟨q1.fn, q1.at_, q1.count, ((kk : Nat) : Int), q1.sub, q1.bits, q1.vals, q1.and_, q1.or_⟩ : TRequest) = 0)) == (decide (q1.fn = 23)))), (48, pI (rightR (⟨q1.fn, q1.at_, q1.count, q1.wAt, ((kk : Nat) : Int), q1.bits, q1.vals, q1.and_, q1.or_⟩ : TRequest)))] [0, 1, 2, 3, 4, 5, 6, 7, 8, 9] rfl rfl rfl rfl g1 ?_
   refine x_run0 [(46, pB ((decide (rightR (⟨q1.fn, q1.at_, q1.count, ((kk : Nat) : Int), q1.sub, q1.bits, q1.vals, q1.and_, q1.or_⟩ : TRequest) = 0)) == (decide (q1.fn = 23)))), (48, pI (rightR (⟨q1.fn, q1.at_, q1.count, q1.wAt, ((kk : Nat) : Int), q1.bits, q1.vals, q1.and_, q1.or_⟩ : TRequest)))] [0, 1, 2, 3, 4, 5, 6, 7, 8, 9] rfl rfl rfl rfl (s_eql rfl rfl ⟨rfl, rfl, rfl⟩) ?_
   refine xy [(46, pB ((decide (rightR (⟨q1.fn, q1.at_, q1.count, ((kk : Nat) : Int), q1.sub, q1.bits, q1.vals, q1.and_, q1.or_⟩ : TRequest) = 0)) == (decide (q1.fn = 23)))), (5, PV.ptr 1 0)] [0, 1, 2, 3, 4, 5, 6, 7] rfl rfl rfl rfl g1 ?_
   refine x_run0 [(46, pB ((decide (rightR (⟨q1.fn, q1.at_, q1.count, ((kk : Nat) : Int), q1.sub, q1.bits, q1.vals, q1.and_, q1.or_⟩ : TRequest) = 0)) == (decide (q1.fn = 23)))), (5, PV.ptr 1 0)] [0, 1, 2, 3, 4, 5, 6, 7] rfl rfl rfl rfl (s_fa_ptr tab_27 rfl rfl tab_3 (by decide) rfl ⟨rfl, rfl, rfl⟩) ?_
   refine xy [(46, pB ((decide (rightR (⟨q1.fn, q1.at_, q1.count, ((kk : Nat) : Int), q1.sub, q1.bits, q1.vals, q1.and_, q1.or_⟩ : TRequest) = 0)) == (decide (q1.fn = 23)))), (50, PV.ptr 1 0)] [0, 1, 2, 3, 4, 5, 6, 7, 11] rfl rfl rfl rfl g1 ?_
   refine x_run [(46, pB ((decide (rightR (⟨q1.fn, q1.at_, q1.count, ((kk : Nat) : Int), q1.sub, q1.bits, q1.vals, q1.and_, q1.or_⟩ : TRequest) = 0)) == (decide (q1.fn = 23)))), (50, PV.ptr 1 0)] [0, 1, 2, 3, 4, 5, 6, 7, 11] [(1, .obj [pI q1.fn, pI q1.at_, pI q1.count, pI q1.wAt, pI q1.sub, pS 1 false encBo q1.bits, pS 1 false enc16 q1.vals, p16 q1.and_, p16 q1.or_])] [] [(1, .obj [pI q1.fn, pI q1.at_, pI q1.count, pI q1.wAt, pI q1.sub, pS 1 false encBo q1.bits, pS 1 false enc16 q1.vals, p16 q1.and_, p16 q1.or_])] [] [(5, .obj [pI q1.fn, pI q1.at_, pI q1.count, pI q1.wAt, pI q1.sub, PV.ref 9 0 none, pS 1 false enc16 q1.vals, p16 q1.and_, p16 q1.or_]), (9, oB true 1 encBo (q1.bits ++ [true])), (8, oB true 1 encBo [true]), (4, .obj [pI q1.fn, pI q1.at_, pI q1.count, pI q1.wAt, pI q1.sub, pS 1 false encBo q1.bits, pS 1 false enc16 q1.vals, p16 (UInt16.ofNat kk), p16 q1.or_]), (3, .obj [pI q1.fn, pI q1.at_, pI q1.count, pI q1.wAt, pN kk, pS 1 false encBo q1.bits, pS 1 false enc16 q1.vals, p16 q1.and_, p16 q1.or_]), (2, .obj [pI q1.fn, pI q1.at_, pI q1.count, pN kk, pI q1.sub, pS 1 false encBo q1.bits, pS 1 false enc16 q1.vals, p16 q1.and_, p16 q1.or_]), (1, .obj [pI q1.fn, pI q1.at_, pI q1.count, pI q1.wAt, pI q1.sub, pS 1 false encBo q1.bits, pS 1 false enc16 q1.vals, p16 q1.and_, p16 q1.or_]), (0, .obj [pS 1 false encI t, pN b1])] rfl rfl rfl rfl rfl rfl (s_load_ptr1 tab_3 rfl rfl rfl rfl rfl ⟨rfl, rfl, rfl⟩) rfl ⟨rfl, trivial⟩ rfl rfl ?_
   refine xy [(46, pB ((decide (rightR (⟨q1.fn, q1.at_, q1.count, ((kk : Nat) : Int), q1.sub, q1.bits, q1.vals, q1.and_, q1.or_⟩ : TRequest) = 0)) == (decide (q1.fn = 23)))), (51, pI q1.fn)] [0, 1, 2, 3, 4, 5, 6, 7, 11, 12] rfl rfl rfl rfl g1 ?_
   refine x_run0 [(46, pB ((decide (rightR (⟨q1.fn, q1.at_, q1.count, ((kk : Nat) : Int), q1.sub, q1.bits, q1.vals, q1.and_, q1.or_⟩ : TRequest) = 0)) == (decide (q1.fn = 23)))), (51, pI q1.fn)] [0, 1, 2, 3, 4, 5, 6, 7, 11, 12] rfl rfl rfl rfl (s_eql rfl rfl ⟨rfl, rfl, rfl⟩) ?_
   refine xy [(46, pB ((decide (rightR (⟨q1.fn, q1.at_, q1.count, ((kk : Nat) : Int), q1.sub, q1.bits, q1.vals, q1.and_, q1.or_⟩ : TRequest) = 0)) == (decide (q1.fn = 23)))), (49, pB (decide (rightR (⟨q1.fn, q1.at_, q1.count, q1.wAt, ((kk : Nat) : Int), q1.bits, q1.vals, q1.and_, q1.or_⟩ : TRequest) = 0))), (52, pB (decide (q1.fn = 8)))] [0, 1, 2, 3, 4, 5, 6, 7, 8, 9, 10, 11, 12, 13] rfl rfl rfl rfl g1 ?_
   refine x_run0 [(46, pB ((decide (rightR (⟨q1.fn, q1.at_, q1.count, ((kk : Nat) : Int), q1.sub, q1.bits, q1.vals, q1.and_, q1.or_⟩ : TRequest) = 0)) == (decide (q1.fn = 23)))), (49, pB (decide (rightR (⟨q1.fn, q1.at_, q1.count, q1.wAt, ((kk : Nat) : Int), q1.bits, q1.vals, q1.and_, q1.or_⟩ : TRequest) = 0))), (52, pB (decide (q1.fn = 8)))] [0, 1, 2, 3, 4, 5, 6, 7, 8, 9, 10, 11, 12, 13] rfl rfl rfl rfl (s_eqbool tab_4 rfl rfl rfl ⟨rfl, rfl, rfl⟩) ?_
   refine d_op ?_
   refine x_run0 [(46, pB ((decide (rightR (⟨q1.fn, q1.at_, q1.count, ((kk : Nat) : Int), q1.sub, q1.bits, q1.vals, q1.and_, q1.or_⟩ : TRequest) = 0)) == (decide (q1.fn = 23)))), (53, pB ((decide (rightR (⟨q1.fn, q1.at_, q1.count, q1.wAt, ((kk : Nat) : Int), q1.bits, q1.vals, q1.and_, q1.or_⟩ : TRequest) = 0)) == (decide (q1.fn = 8))))] [0, 1, 2, 3, 4, 5, 6, 7, 8, 9, 10, 11, 12, 13, 14] rfl rfl rfl rfl (s_pick_t rfl g1 rfl ⟨rfl, rfl, rfl⟩) ?_
   refine d_op ?_
   refine x_run0 [(54, pB ((decide (rightR (⟨q1.fn, q1.at_, q1.count, q1.wAt, ((kk : Nat) : Int), q1.bits, q1.vals, q1.and_, q1.or_⟩ : TRequest) = 0)) == (decide (q1.fn = 8))))] [0, 1, 2, 3, 4, 5, 6, 7, 8, 9, 10, 11, 12, 13, 14, 15] rfl rfl rfl rfl (s_move rfl ⟨rfl, rfl, rfl⟩) ?_
   refine x_if [(55, pB ((decide (rightR (⟨q1.fn, q1.at_, q1.count, q1.wAt, ((kk : Nat) : Int), q1.bits, q1.vals, q1.and_, q1.or_⟩ : TRequest) = 0)) == (decide (q1.fn = 8)))), (9, PV.ptr 4 0)] [0, 1, 2, 3, 4, 5, 6, 7, 8, 9, 10, 11, 12, 13, 14, 15, 16] rfl rfl rfl rfl (fun g2 => ?_) (fun g2 => ?_)
   ·
    have g2' := g2
    try simp only [sB] at g2'
    refine x_run [(55, pB ((decide (rightR (⟨q1.fn, q1.at_, q1.count, q1.wAt, ((kk : Nat) : Int), q1.bits, q1.vals, q1.and_, q1.or_⟩ : TRequest) = 0)) == (decide (q1.fn = 8)))), (9, PV.ptr 4 0)] [0, 1, 2, 3, 4, 5, 6, 7, 8, 9, 10, 11, 12, 13, 14, 15, 16] [(4, .obj [pI q1.fn, pI q1.at_, pI q1.count, pI q1.wAt, pI q1.sub, pS 1 false encBo q1.bits, pS 1 false enc16 q1.vals, p16 (UInt16.ofNat kk), p16 q1.or_])] [] [(4, .obj [pI q1.fn, pI q1.at_, pI q1.count, pI q1.wAt, pI q1.sub, pS 1 false encBo q1.bits, pS 1 false enc16 q1.vals, p16 (UInt16.ofNat kk), p16 q1.or_])] [] [(5, .obj [pI q1.fn, pI q1.at_, pI q1.count, pI q1.wAt, pI q1.sub, PV.ref 9 0 none, pS 1 false enc16 q1.vals, p16 q1.and_, p16 q1.or_]), (9, oB true 1 encBo (q1.bits ++ [true])), (8, oB true 1 encBo [true]), (4, .obj [pI q1.fn, pI q1.at_, pI q1.count, pI q1.wAt, pI q1.sub, pS 1 false encBo q1.bits, pS 1 false enc16 q1.vals, p16 (UInt16.ofNat kk), p16 q1.or_]), (3, .obj [pI q1.fn, pI q1.at_, pI q1.count, pI q1.wAt, pN kk, pS 1 false encBo q1.bits, pS 1 false enc16 q1.vals, p16 q1.and_, p16 q1.or_]), (2, .obj [pI q1.fn, pI q1.at_, pI q1.count, pN kk, pI q1.sub, pS 1 false encBo q1.bits, pS 1 false enc16 q1.vals, p16 q1.and_, p16 q1.or_]), (1, .obj [pI q1.fn, pI q1.at_, pI q1.count, pI q1.wAt, pI q1.sub, pS 1 false encBo q1.bits, pS 1 false enc16 q1.vals, p16 q1.and_, p16 q1.or_]), (0, .obj [pS 1 false encI t, pN b1])] rfl rfl rfl rfl rfl rfl (s_load_ptr tab_27 rfl rfl rfl (Nat.le_of_ble_eq_true rfl) ⟨rfl, rfl, rfl⟩) rfl ⟨rfl, trivial⟩ rfl rfl ?_
    refine xy [(55, pB ((decide (rightR (⟨q1.fn, q1.at_, q1.count, q1.wAt, ((kk : Nat) : Int), q1.bits, q1.vals, q1.and_, q1.or_⟩ : TRequest) = 0)) == (decide (q1.fn = 8)))), (56, PV.f (.agg [encI q1.fn, encI q1.at_, encI q1.count, encI q1.wAt, encI q1.sub, FV.sl 1 false (List.map encBo q1.bits), FV.sl 1 false (List.map enc16 q1.vals), enc16 (UInt16.ofNat kk), enc16 q1.or_]))] [0, 1, 2, 3, 4, 5, 6, 7, 8, 9, 10, 11, 12, 13, 14, 15, 16, 17] rfl rfl rfl rfl g2 ?_
    refine x_run0 [(55, pB ((decide (rightR (⟨q1.fn, q1.at_, q1.count, q1.wAt, ((kk : Nat) : Int), q1.bits, q1.vals, q1.and_, q1.or_⟩ : TRequest) = 0)) == (decide (q1.fn = 8)))), (56, PV.f (.agg [encI q1.fn, encI q1.at_, encI q1.count, encI q1.wAt, encI q1.sub, FV.sl 1 false (List.map encBo q1.bits), FV.sl 1 false (List.map enc16 q1.vals), enc16 (UInt16.ofNat kk), enc16 q1.or_]))] [0, 1, 2, 3, 4, 5, 6, 7, 8, 9, 10, 11, 12, 13, 14, 15, 16, 17] rfl rfl rfl rfl (s_callF rfl rfl rfl (w_pdu_Right (⟨q1.fn, q1.at_, q1.count, q1.wAt, q1.sub, q1.bits, q1.vals, UInt16.ofNat kk, q1.or_⟩ : TRequest) (by first | omega | assumption | (simp; omega) | decide | (simp; done)) (by first | omega | assumption | (simp; omega) | decide | (simp; done))) rfl ⟨rfl, rfl, rfl⟩) ?_
    refine xy [(55, pB ((decide (rightR (⟨q1.fn, q1.at_, q1.count, q1.wAt, ((kk : Nat) : Int), q1.bits, q1.vals, q1.and_, q1.or_⟩ : TRequest) = 0)) == (decide (q1.fn = 8)))), (57, pI (rightR (⟨q1.fn, q1.at_, q1.count, q1.wAt, q1.sub, q1.bits, q1.vals, UInt16.ofNat kk, q1.or_⟩ : TRequest)))] [0, 1, 2, 3, 4, 5, 6, 7, 8, 9, 10, 11, 12, 13, 14, 15, 16, 17, 18] rfl rfl rfl rfl g2 ?_
    refine x_run0 [(55, pB ((decide (rightR (⟨q1.fn, q1.at_, q1.count, q1.wAt, ((kk : Nat) : Int), q1.bits, q1.vals, q1.and_, q1.or_⟩ : TRequest) = 0)) == (decide (q1.fn = 8)))), (57, pI (rightR (⟨q1.fn, q1.at_, q1.count, q1.wAt, q1.sub, q1.bits, q1.vals, UInt16.ofNat kk, q1.or_⟩ : TRequest)))] [0, 1, 2, 3, 4, 5, 6, 7, 8, 9, 10, 11, 12, 13, 14, 15, 16, 17, 18] rfl rfl rfl rfl (s_eql rfl rfl ⟨rfl, rfl, rfl⟩) ?_
    refine xy [(55, pB ((decide (rightR (⟨q1.fn, q1.at_, q1.count, q1.wAt, ((kk : Nat) : Int), q1.bits, q1.vals, q1.and_, q1.or_⟩ : TRequest) = 0)) == (decide (q1.fn = 8)))), (5, PV.ptr 1 0)] [0, 1, 2, 3, 4, 5, 6, 7, 8, 9, 10, 11, 12, 13, 14, 15, 16] rfl rfl rfl rfl g2 ?_
    refine x_run0 [(55, pB ((decide (rightR (⟨q1.fn, q1.at_, q1.count, q1.wAt, ((kk : Nat) : Int), q1.bits, q1.vals, q1.and_, q1.or_⟩ : TRequest) = 0)) == (decide (q1.fn = 8)))), (5, PV.ptr 1 0)] [0, 1, 2, 3, 4, 5, 6, 7, 8, 9, 10, 11, 12, 13, 14, 15, 16] rfl rfl rfl rfl (s_fa_ptr tab_27 rfl rfl tab_3 (by decide) rfl ⟨rfl, rfl, rfl⟩) ?_
    refine xy [(55, pB ((decide (rightR (⟨q1.fn, q1.at_, q1.count, q1.wAt, ((kk : Nat) : Int), q1.bits, q1.vals, q1.and_, q1.or_⟩ : TRequest) = 0)) == (decide (q1.fn = 8)))), (59, PV.ptr 1 0)] [0, 1, 2, 3, 4, 5, 6, 7, 8, 9, 10, 11, 12, 13, 14, 15, 16, 20] rfl rfl rfl rfl g2 ?_
    refine x_run [(55, pB ((decide (rightR (⟨q1.fn, q1.at_, q1.count, q1.wAt, ((kk : Nat) : Int), q1.bits, q1.vals, q1.and_, q1.or_⟩ : TRequest) = 0)) == (decide (q1.fn = 8)))), (59, PV.ptr 1 0)] [0, 1, 2, 3, 4, 5, 6, 7, 8, 9, 10, 11, 12, 13, 14, 15, 16, 20] [(1, .obj [pI q1.fn, pI q1.at_, pI q1.count, pI q1.wAt, pI q1.sub, pS 1 false encBo q1.bits, pS 1 false enc16 q1.vals, p16 q1.and_, p16 q1.or_])] [] [(1, .obj [pI q1.fn, pI q1.at_, pI q1.count, pI q1.wAt, pI q1.sub, pS 1 false encBo q1.bits, pS 1 false enc16 q1.vals, p16 q1.and_, p16 q1.or_])] [] [(5, .obj [pI q1.fn, pI q1.at_, pI q1.count, pI q1.wAt, pI q1.sub, PV.ref 9 0 none, pS 1 false enc16 q1.vals, p16 q1.and_, p16 q1.or_]), (9, oB true 1 encBo (q1.bits ++ [true])), (8, oB true 1 encBo [true]), (4, .obj [pI q1.fn, pI q1.at_, pI q1.count, pI q1.wAt, pI q1.sub, pS 1 false encBo q1.bits, pS 1 false enc16 q1.vals, p16 (UInt16.ofNat kk), p16 q1.or_]), (3, .obj [pI q1.fn, pI q1.at_, pI q1.count, pI q1.wAt, pN kk, pS 1 false encBo q1.bits, pS 1 false enc16 q1.vals, p16 q1.and_, p16 q1.or_]), (2, .obj [pI q1.fn, pI q1.at_, pI q1.count, pN kk, pI q1.sub, pS 1 false encBo q1.bits, pS 1 false enc16 q1.vals, p16 q1.and_, p16 q1.or_]), (1, .obj [pI q1.fn, pI q1.at_, pI q1.count, pI q1.wAt, pI q1.sub, pS 1 false encBo q1.bits, pS 1 false enc16 q1.vals, p16 q1.and_, p16 q1.or_]), (0, .obj [pS 1 false encI t, pN b1])] rfl rfl rfl rfl rfl rfl (s_load_ptr1 tab_3 rfl rfl rfl rfl rfl ⟨rfl, rfl, rfl⟩) rfl ⟨rfl, trivial⟩ rfl rfl ?_
    refine xy [(55, pB ((decide (rightR (⟨q1.fn, q1.at_, q1.count, q1.wAt, ((kk : Nat) : Int), q1.bits, q1.vals, q1.and_, q1.or_⟩ : TRequest) = 0)) == (decide (q1.fn = 8)))), (60, pI q1.fn)] [0, 1, 2, 3, 4, 5, 6, 7, 8, 9, 10, 11, 12, 13, 14, 15, 16, 20, 21] rfl rfl rfl rfl g2 ?_
    refine x_run0 [(55, pB ((decide (rightR (⟨q1.fn, q1.at_, q1.count, q1.wAt, ((kk : Nat) : Int), q1.bits, q1.vals, q1.and_, q1.or_⟩ : TRequest) = 0)) == (decide (q1.fn = 8)))), (60, pI q1.fn)] [0, 1, 2, 3, 4, 5, 6, 7, 8, 9, 10, 11, 12, 13, 14, 15, 16, 20, 21] rfl rfl rfl rfl (s_eql rfl rfl ⟨rfl, rfl, rfl⟩) ?_
    refine xy [(55, pB ((decide (rightR (⟨q1.fn, q1.at_, q1.count, q1.wAt, ((kk : Nat) : Int), q1.bits, q1.vals, q1.and_, q1.or_⟩ : TRequest) = 0)) == (decide (q1.fn = 8)))), (58, pB (decide (rightR (⟨q1.fn, q1.at_, q1.count, q1.wAt, q1.sub, q1.bits, q1.vals, UInt16.ofNat kk, q1.or_⟩ : TRequest) = 0))), (61, pB (decide (q1.fn = 22)))] [0, 1, 2, 3, 4, 5, 6, 7, 8, 9, 10, 11, 12, 13, 14, 15, 16, 17, 18, 19, 20, 21, 22] rfl rfl rfl rfl g2 ?_
    refine x_run0 [(55, pB ((decide (rightR (⟨q1.fn, q1.at_, q1.count, q1.wAt, ((kk : Nat) : Int), q1.bits, q1.vals, q1.and_, q1.or_⟩ : TRequest) = 0)) == (decide (q1.fn = 8)))), (58, pB (decide (rightR (⟨q1.fn, q1.at_, q1.count, q1.wAt, q1.sub, q1.bits, q1.vals, UInt16.ofNat kk, q1.or_⟩ : TRequest) = 0))), (61, pB (decide (q1.fn = 22)))] [0, 1, 2, 3, 4, 5, 6, 7, 8, 9, 10, 11, 12, 13, 14, 15, 16, 17, 18, 19, 20, 21, 22] rfl rfl rfl rfl (s_eqbool tab_4 rfl rfl rfl ⟨rfl, rfl, rfl⟩) ?_
    refine d_op ?_
    refine x_run0 [(55, pB ((decide (rightR (⟨q1.fn, q1.at_, q1.count, q1.wAt, ((kk : Nat) : Int), q1.bits, q1.vals, q1.and_, q1.or_⟩ : TRequest) = 0)) == (decide (q1.fn = 8)))), (62, pB ((decide (rightR (⟨q1.fn, q1.at_, q1.count, q1.wAt, q1.sub, q1.bits, q1.vals, UInt16.ofNat kk, q1.or_⟩ : TRequest) = 0)) == (decide (q1.fn = 22))))] [0, 1, 2, 3, 4, 5, 6, 7, 8, 9, 10, 11, 12, 13, 14, 15, 16, 17, 18, 19, 20, 21, 22, 23] rfl rfl rfl rfl (s_pick_t rfl g2 rfl ⟨rfl, rfl, rfl⟩) ?_
    refine d_op ?_
    refine x_run0 [(63, pB ((decide (rightR (⟨q1.fn, q1.at_, q1.count, q1.wAt, q1.sub, q1.bits, q1.vals, UInt16.ofNat kk, q1.or_⟩ : TRequest) = 0)) == (decide (q1.fn = 22))))] [0, 1, 2, 3, 4, 5, 6, 7, 8, 9, 10, 11, 12, 13, 14, 15, 16, 17, 18, 19, 20, 21, 22, 23, 24] rfl rfl rfl rfl (s_move rfl ⟨rfl, rfl, rfl⟩) ?_
    refine x_if [(64, pB ((decide (rightR (⟨q1.fn, q1.at_, q1.count, q1.wAt, q1.sub, q1.bits, q1.vals, UInt16.ofNat kk, q1.or_⟩ : TRequest) = 0)) == (decide (q1.fn = 22)))), (10, PV.ptr 5 0)] [0, 1, 2, 3, 4, 5, 6, 7, 8, 9, 10, 11, 12, 13, 14, 15, 16, 17, 18, 19, 20, 21, 22, 23, 24, 25] rfl rfl rfl rfl (fun g3 => ?_) (fun g3 => ?_)
    ·
     have g3' := g3
     try simp only [sB] at g3'
     refine x_run [(64, pB ((decide (rightR (⟨q1.fn, q1.at_, q1.count, q1.wAt, q1.sub, q1.bits, q1.vals, UInt16.ofNat kk, q1.or_⟩ : TRequest) = 0)) == (decide (q1.fn = 22)))), (10, PV.ptr 5 0)] [0, 1, 2, 3, 4, 5, 6, 7, 8, 9, 10, 11, 12, 13, 14, 15, 16, 17, 18, 19, 20, 21, 22, 23, 24, 25] [(5, .obj [pI q1.fn, pI q1.at_, pI q1.count, pI q1.wAt, pI q1.sub, PV.ref 9 0 none, pS 1 false enc16 q1.vals, p16 q1.and_, p16 q1.or_])] [] [(5, .obj [pI q1.fn, pI q1.at_, pI q1.count, pI q1.wAt, pI q1.sub, PV.ref 9 0 none, pS 1 false enc16 q1.vals, p16 q1.and_, p16 q1.or_])] [] [(5, .obj [pI q1.fn, pI q1.at_, pI q1.count, pI q1.wAt, pI q1.sub, PV.ref 9 0 none, pS 1 false enc16 q1.vals, p16 q1.and_, p16 q1.or_]), (9, oB true 1 encBo (q1.bits ++ [true])), (8, oB true 1 encBo [true]), (4, .obj [pI q1.fn, pI q1.at_, pI q1.count, pI q1.wAt, pI q1.sub, pS 1 false encBo q1.bits, pS 1 false enc16 q1.vals, p16 (UInt16.ofNat kk), p16 q1.or_]), (3, .obj [pI q1.fn, pI q1.at_, pI q1.count, pI q1.wAt, pN kk, pS 1 false encBo q1.bits, pS 1 false enc16 q1.vals, p16 q1.and_, p16 q1.or_]), (2, .obj [pI q1.fn, pI q1.at_, pI q1.count, pN kk, pI q1.sub, pS 1 false encBo q1.bits, pS 1 false enc16 q1.vals, p16 q1.and_, p16 q1.or_]), (1, .obj [pI q1.fn, pI q1.at_, pI q1.count, pI q1.wAt, pI q1.sub, pS 1 false encBo q1.bits, pS 1 false enc16 q1.vals, p16 q1.and_, p16 q1.or_]), (0, .obj [pS 1 false encI t, pN b1])] rfl rfl rfl rfl rfl rfl (s_load_ptr tab_27 rfl rfl rfl (Nat.le_of_ble_eq_true rfl) ⟨rfl, rfl, rfl⟩) rfl ⟨rfl, trivial⟩ rfl rfl ?_
     refine xy [(64, pB ((decide (rightR (⟨q1.fn, q1.at_, q1.count, q1.wAt, q1.sub, q1.bits, q1.vals, UInt16.ofNat kk, q1.or_⟩ : TRequest) = 0)) == (decide (q1.fn = 22)))), (65, PV.agg [pI q1.fn, pI q1.at_, pI q1.count, pI q1.wAt, pI q1.sub, PV.ref 9 0 none, pS 1 false enc16 q1.vals, p16 q1.and_, p16 q1.or_])] [0, 1, 2, 3, 4, 5, 6, 7, 8, 9, 10, 11, 12, 13, 14, 15, 16, 17, 18, 19, 20, 21, 22, 23, 24, 25, 26] rfl rfl rfl rfl g3 ?_
     refine x_run [(64, pB ((decide (rightR (⟨q1.fn, q1.at_, q1.count, q1.wAt, q1.sub, q1.bits, q1.vals, UInt16.ofNat kk, q1.or_⟩ : TRequest) = 0)) == (decide (q1.fn = 22)))), (65, PV.agg [pI q1.fn, pI q1.at_, pI q1.count, pI q1.wAt, pI q1.sub, PV.ref 9 0 none, pS 1 false enc16 q1.vals, p16 q1.and_, p16 q1.or_])] [0, 1, 2, 3, 4, 5, 6, 7, 8, 9, 10, 11, 12, 13, 14, 15, 16, 17, 18, 19, 20, 21, 22, 23, 24, 25, 26] [] [(9, oB true 1 encBo (q1.bits ++ [true]))] [(9, oB false 1 encBo (q1.bits ++ [true]))] [(9, oB false 1 encBo (q1.bits ++ [true]))] [(9, oB false 1 encBo (q1.bits ++ [true])), (5, .obj [pI q1.fn, pI q1.at_, pI q1.count, pI q1.wAt, pI q1.sub, PV.ref 9 0 none, pS 1 false enc16 q1.vals, p16 q1.and_, p16 q1.or_]), (8, oB true 1 encBo [true]), (4, .obj [pI q1.fn, pI q1.at_, pI q1.count, pI q1.wAt, pI q1.sub, pS 1 false encBo q1.bits, pS 1 false enc16 q1.vals, p16 (UInt16.ofNat kk), p16 q1.or_]), (3, .obj [pI q1.fn, pI q1.at_, pI q1.count, pI q1.wAt, pN kk, pS 1 false encBo q1.bits, pS 1 false enc16 q1.vals, p16 q1.and_, p16 q1.or_]), (2, .obj [pI q1.fn, pI q1.at_, pI q1.count, pN kk, pI q1.sub, pS 1 false encBo q1.bits, pS 1 false enc16 q1.vals, p16 q1.and_, p16 q1.or_]), (1, .obj [pI q1.fn, pI q1.at_, pI q1.count, pI q1.wAt, pI q1.sub, pS 1 false encBo q1.bits, pS 1 false enc16 q1.vals, p16 q1.and_, p16 q1.or_]), (0, .obj [pS 1 false encI t, pN b1])] rfl rfl rfl rfl rfl rfl (s_callX (r2 := pI (rightR (⟨q1.fn, q1.at_, q1.count, q1.wAt, q1.sub, q1.bits ++ [true], q1.vals, q1.and_, q1.or_⟩ : TRequest))) (nx1 := 10) (H2 := [(9, oB false 1 encBo (q1.bits ++ [true]))]) (H3 := [(9, oB false 1 encBo (q1.bits ++ [true]))]) [] [] rfl rfl rfl (handed_of (by decide) trivial) rfl rfl rfl rfl rfl rfl (w_pdu_Right (⟨q1.fn, q1.at_, q1.count, q1.wAt, q1.sub, q1.bits ++ [true], q1.vals, q1.and_, q1.or_⟩ : TRequest) (by first | omega | assumption | (simp; omega) | decide | (simp; done)) (by first | omega | assumption | (simp; omega) | decide | (simp; done))) rfl (dist_of rfl) rfl rfl rfl rfl ⟨rfl, rfl, rfl⟩) rfl trivial rfl rfl ?_
     refine xy [(64, pB ((decide (rightR (⟨q1.fn, q1.at_, q1.count, q1.wAt, q1.sub, q1.bits, q1.vals, UInt16.ofNat kk, q1.or_⟩ : TRequest) = 0)) == (decide (q1.fn = 22)))), (66, pI (rightR (⟨q1.fn, q1.at_, q1.count, q1.wAt, q1.sub, q1.bits ++ [true], q1.vals, q1.and_, q1.or_⟩ : TRequest)))] [0, 1, 2, 3, 4, 5, 6, 7, 8, 9, 10, 11, 12, 13, 14, 15, 16, 17, 18, 19, 20, 21, 22, 23, 24, 25, 26, 27] rfl rfl rfl rfl g3 ?_
     refine x_run0 [(64, pB ((decide (rightR (⟨q1.fn, q1.at_, q1.count, q1.wAt, q1.sub, q1.bits, q1.vals, UInt16.ofNat kk, q1.or_⟩ : TRequest) = 0)) == (decide (q1.fn = 22)))), (66, pI (rightR (⟨q1.fn, q1.at_, q1.count, q1.wAt, q1.sub, q1.bits ++ [true], q1.vals, q1.and_, q1.or_⟩ : TRequest)))] [0, 1, 2, 3, 4, 5, 6, 7, 8, 9, 10, 11, 12, 13, 14, 15, 16, 17, 18, 19, 20, 21, 22, 23, 24, 25, 26, 27] rfl rfl rfl rfl (s_eql rfl rfl ⟨rfl, rfl, rfl⟩) ?_
     refine d_op ?_
     refine x_run0 [(64, pB ((decide (rightR (⟨q1.fn, q1.at_, q1.count, q1.wAt, q1.sub, q1.bits, q1.vals, UInt16.ofNat kk, q1.or_⟩ : TRequest) = 0)) == (decide (q1.fn = 22)))), (67, pB (decide (rightR (⟨q1.fn, q1.at_, q1.count, q1.wAt, q1.sub, q1.bits ++ [true], q1.vals, q1.and_, q1.or_⟩ : TRequest) = 12)))] [0, 1, 2, 3, 4, 5, 6, 7, 8, 9, 10, 11, 12, 13, 14, 15, 16, 17, 18, 19, 20, 21, 22, 23, 24, 25, 26, 27, 28] rfl rfl rfl rfl (s_pick_t rfl g3 rfl ⟨rfl, rfl, rfl⟩) ?_
     refine d_op ?_
     refine x_run0 [(68, pB (decide (rightR (⟨q1.fn, q1.at_, q1.count, q1.wAt, q1.sub, q1.bits ++ [true], q1.vals, q1.and_, q1.or_⟩ : TRequest) = 12)))] [0, 1, 2, 3, 4, 5, 6, 7, 8, 9, 10, 11, 12, 13, 14, 15, 16, 17, 18, 19, 20, 21, 22, 23, 24, 25, 26, 27, 28, 29] rfl rfl rfl rfl (s_move rfl ⟨rfl, rfl, rfl⟩) ?_
     refine x_if [(69, pB (decide (rightR (⟨q1.fn, q1.at_, q1.count, q1.wAt, q1.sub, q1.bits ++ [true], q1.vals, q1.and_, q1.or_⟩ : TRequest) = 12)))] [0, 1, 2, 3, 4, 5, 6, 7, 8, 9, 10, 11, 12, 13, 14, 15, 16, 17, 18, 19, 20, 21, 22, 23, 24, 25, 26, 27, 28, 29, 30] rfl rfl rfl rfl (fun g4 => ?_) (fun g4 => ?_)
     ·
      have g4' := g4
      try simp only [sB] at g4'
      refine x_run0 [(69, pB (decide (rightR (⟨q1.fn, q1.at_, q1.count, q1.wAt, q1.sub, q1.bits ++ [true], q1.vals, q1.and_, q1.or_⟩ : TRequest) = 12)))] [0, 1, 2, 3, 4, 5, 6, 7, 8, 9, 10, 11, 12, 13, 14, 15, 16, 17, 18, 19, 20, 21, 22, 23, 24, 25, 26, 27, 28, 29, 30] rfl rfl rfl rfl (s_callF rfl rfl rfl (w_burgagelaw3_known) rfl ⟨rfl, rfl, rfl⟩) ?_
      refine d_op ?_
      refine x_run0 [(69, pB (decide (rightR (⟨q1.fn, q1.at_, q1.count, q1.wAt, q1.sub, q1.bits ++ [true], q1.vals, q1.and_, q1.or_⟩ : TRequest) = 12))), (70, pB true)] [0, 1, 2, 3, 4, 5, 6, 7, 8, 9, 10, 11, 12, 13, 14, 15, 16, 17, 18, 19, 20, 21, 22, 23, 24, 25, 26, 27, 28, 29, 30, 31] rfl rfl rfl rfl (s_pick_t rfl g4 rfl ⟨rfl, rfl, rfl⟩) ?_
      refine d_op ?_
      refine x_run0 [(71, pB true)] [0, 1, 2, 3, 4, 5, 6, 7, 8, 9, 10, 11, 12, 13, 14, 15, 16, 17, 18, 19, 20, 21, 22, 23, 24, 25, 26, 27, 28, 29, 30, 31, 32] rfl rfl rfl rfl (s_assign rfl ⟨rfl, rfl, rfl⟩) ?_
      refine d_end ⟨by kernel_rfl, ?_⟩
      refine q_then ?_
      refine w_ret ?_
      exact fin_plain (ret_tmp rfl ret_nil) rfl rfl ⟨rfl, rfl, rfl⟩
     ·
      exact absurd g4 (by first | exact not_deq (field_wAt hr1 (by omega)) | exact not_deq (field_sub hr1 (by omega)) | exact not_deq (field_andN hr1 (by rw [UInt16.toNat_ofNat']; omega)) | exact not_dec3 (field_bits hr1 (by simp)) | simp)
    ·
     exact absurd g3 (by first | exact not_deq (field_wAt hr1 (by omega)) | exact not_deq (field_sub hr1 (by omega)) | exact not_deq (field_andN hr1 (by rw [UInt16.toNat_ofNat']; omega)) | exact not_dec3 (field_bits hr1 (by simp)) | simp)
   ·
    exact absurd g2 (by first | exact not_deq (field_wAt hr1 (by omega)) | exact not_deq (field_sub hr1 (by omega)) | exact not_deq (field_andN hr1 (by rw [UInt16.toNat_ofNat']; omega)) | exact not_dec3 (field_bits hr1 (by simp)) | simp)
  ·
   exact absurd g1 (by first | exact not_deq (field_wAt hr1 (by omega)) | exact not_deq (field_sub hr1 (by omega)) | exact not_deq (field_andN hr1 (by rw [UInt16.toNat_ofNat']; omega)) | exact not_dec3 (field_bits hr1 (by simp)) | simp)
end Go.Proofs.Ytigpfkcjpjhflaa
