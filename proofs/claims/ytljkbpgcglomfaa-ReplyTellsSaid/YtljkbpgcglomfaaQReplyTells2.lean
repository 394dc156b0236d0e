/- What the law ReplyTells needs, and no more: merged out of texts of this session by a program of it (wip/tools/prune.py). -/
import Derived.Test.YtljkbpgcglomfaaQReplyTells1
set_option linter.unusedVariables false
set_option linter.unusedSimpArgs false
set_option maxRecDepth 10000
set_option maxHeartbeats 1000000
namespace Go.Proofs.Ytljkbpgcglomfaa
open Go Go.Proofs.Ytljkbpgcglomfaa.Pv
theorem w_octet_Put (b : List UInt8) (cl_b : Bool) (n : Int) (hb : b.length ≤ 140737488351232) :
    T Try.prog 64 [pS 1 cl_b enc8 b,pI n] 0 [] (Ret (PV.ref 0 0 none) 1 [(0,oB true 1 enc8 (b ++ put2 n))]) := by
 refine t_fun tabOk (n := 14) (rs := [.tmp 4]) Try.func64 rfl rfl rfl rfl (Nat.le_of_ble_eq_true rfl) ?_
 intro c hnt hk
 refine w_seq (w_R (qa hnt rfl rfl (r_end (q_then (w_seq ?_)))))
 refine w_R (qm hnt rfl rfl (qo hnt rfl (s_callX (r2 := PV.ref 0 0 none) (nx1 := 1) (H2 := []) (H3 := [(0,oB true 1 enc8 b)]) [] [] rfl rfl rfl (handed_of (by decide) trivial) rfl rfl rfl rfl rfl rfl (w_slices_Clone_byte_byte b cl_b (by omega)) rfl (dist_of rfl) rfl rfl rfl rfl ?_)))
 refine qm hnt rfl rfl (qo hnt rfl (s_shrI 8 rfl rfl (by decide) ?_))
 refine qo hnt rfl (s_cv8 tab_3 tab_5 rfl rfl rfl ?_)
 refine qm hnt rfl rfl (qo hnt rfl (s_cv8 tab_3 tab_5 rfl rfl rfl ?_))
 refine qo hnt rfl (s_mkM (f := enc8) [u8I (n / 2 ^ 8),u8I n] tab_51 rfl tab_5 ⟨rfl,by decide⟩ (by decide) rfl rfl rfl rfl ?_)
 refine qo hnt rfl (s_appR0 (f := enc8) (l := b) (xs := [u8I (n / 2 ^ 8),u8I n]) tab_51 rfl tab_5 ⟨rfl,by decide,by decide⟩ (srcM tab_51 rfl (hM_ref0 (f := enc8) rfl rfl)) rfl rfl (by (simp; omega)) ?_)
 refine qa hnt rfl rfl (r_set [(4,PV.ref 2 0 none)] [(2,oB true 1 enc8 (b ++ [u8I (n / 2 ^ 8),u8I n])),(1,oB true 1 enc8 [u8I (n / 2 ^ 8),u8I n])] 3 ⟨rfl,trivial⟩ rfl rfl (r_end (q_then (w_H (H' := [(2,oB true 1 enc8 (b ++ put2 n)),(1,oB true 1 enc8 [u8I (n / 2 ^ 8),u8I n])]) (congrArg (fun z => ([(2,oB true 1 enc8 z),(1,oB true 1 enc8 [u8I (n / 2 ^ 8),u8I n])] : Heap)) (show b ++ [u8I (n / 2 ^ 8),u8I n] = b ++ put2 n by rfl)) (w_ret ?_)))))
 exact fin_names (nx1 := 1) (H1 := [(0,oB true 1 enc8 (b ++ put2 n))]) [(0,2)] (ret_tmp rfl ret_nil) rfl (by decide) ⟨⟨_,_,rfl,rfl,rfl,rfl⟩,trivial⟩ (by decide) rfl ⟨rfl,rfl,rfl⟩
theorem w_burgageref1_Put (b : List UInt8) (cl_b : Bool) (n : Int) (hb : b.length ≤ 140737488351232) :
    T Try.prog 93 [pS 1 cl_b enc8 b,pI n] 0 [] (Ret (PV.ref 0 0 none) 1 [(0,oB true 1 enc8 (b ++ put2 n))]) := by
 refine t_fun tabOk (n := 16) (rs := [.tmp 4]) Try.func93 rfl rfl rfl rfl (Nat.le_of_ble_eq_true rfl) ?_
 intro c hnt hk
 refine w_seq (w_R (qa hnt rfl rfl (r_end (q_then (w_seq ?_)))))
 refine w_R (qo hnt rfl (s_mkM (f := enc8) ([] : List UInt8) tab_51 rfl tab_5 ⟨rfl,by decide⟩ (by decide) rfl rfl rfl rfl ?_))
 refine qm hnt rfl rfl (qo hnt rfl (s_appR0 (f := enc8) (l := ([] : List UInt8)) (xs := b) tab_51 rfl tab_5 ⟨rfl,by decide,by decide⟩ (srcM tab_51 rfl (hM_sl (f := enc8) rfl)) rfl rfl (by (simp; omega)) ?_))
 refine qm hnt rfl rfl (qo hnt rfl (s_conv tab_3 tab_62 rfl rfl rfl ?_))
 refine qo hnt rfl (s_shrK 8 rfl rfl (by decide) ?_)
 refine qo hnt rfl (s_cv8 tab_62 tab_5 rfl rfl rfl ?_)
 refine qm hnt rfl rfl (qo hnt rfl (s_cv8 tab_3 tab_5 rfl rfl rfl ?_))
 refine qo hnt rfl (s_mkM (f := enc8) [u8I ((IntKind.u64.wrap n) / 2 ^ 8),u8I n] tab_51 rfl tab_5 ⟨rfl,by decide⟩ (by decide) rfl rfl rfl rfl ?_)
 refine qo hnt rfl (s_appR0 (f := enc8) (l := b) (xs := [u8I ((IntKind.u64.wrap n) / 2 ^ 8),u8I n]) tab_51 rfl tab_5 ⟨rfl,by decide,by decide⟩ (srcM tab_51 rfl (hM_ref0 (f := enc8) rfl rfl)) rfl rfl (by (simp; omega)) ?_)
 refine qa hnt rfl rfl (r_set [(4,PV.ref 3 0 none)] [(3,oB true 1 enc8 (b ++ [u8I ((IntKind.u64.wrap n) / 2 ^ 8),u8I n])),(2,oB true 1 enc8 [u8I ((IntKind.u64.wrap n) / 2 ^ 8),u8I n])] 4 ⟨rfl,trivial⟩ rfl rfl (r_end (q_then (w_H (H' := [(3,oB true 1 enc8 (b ++ put2 n)),(2,oB true 1 enc8 [u8I ((IntKind.u64.wrap n) / 2 ^ 8),u8I n])]) (congrArg (fun z => ([(3,oB true 1 enc8 z),(2,oB true 1 enc8 [u8I ((IntKind.u64.wrap n) / 2 ^ 8),u8I n])] : Heap)) (show b ++ [u8I ((IntKind.u64.wrap n) / 2 ^ 8),u8I n] = b ++ put2 n by (rw [put2,← u8I_u64 n]; done))) (w_ret ?_)))))
 exact fin_names (nx1 := 1) (H1 := [(0,oB true 1 enc8 (b ++ put2 n))]) [(0,3)] (ret_tmp rfl ret_nil) rfl (by decide) ⟨⟨_,_,rfl,rfl,rfl,rfl⟩,trivial⟩ (by decide) rfl ⟨rfl,rfl,rfl⟩
theorem w_octet_Get (b : List UInt8) (cl_b : Bool) (k : Int) (hb : b.length ≤ 140737488355328) (hk0 : k ≤ 9223372036854775807) :
    T Try.prog 109 [pS 1 cl_b enc8 b,pI k] 0 [] (Ret (PV.tup [pI (getV b k),pB (getOk b k)]) 0 []) := by
 refine t_fun tabOk (n := 28) (rs := [.tmp 4,.tmp 5]) Try.func109 rfl rfl rfl rfl (Nat.le_of_ble_eq_true rfl) ?_
 intro c hnt hk
 refine w_seq (w_R (qa hnt rfl rfl (qa hnt rfl rfl (r_end (q_then ?_)))))
 refine w_seq (w_seq (w_R (qm hnt rfl rfl (qo hnt rfl (s_lss rfl rfl ?_)))))
 refine qm hnt rfl rfl (r_if tabOk hnt rfl rfl rfl (fun g1 => ?_) (fun g1 => ?_))
 ·have g1' := g1
  try simp only [sB] at g1'
  refine qm hnt rfl rfl (ry hnt rfl rfl rfl g1 (qm hnt rfl rfl (ry hnt rfl rfl rfl g1 (qo hnt rfl (s_lenM (l := b) tab_51 rfl (hM_sl (f := enc8) rfl) ?_)))))
  refine ry hnt rfl rfl rfl g1 (qo hnt rfl (s_subi (r := ((b.length : Nat) : Int) - 2) rfl rfl rfl (by omega) ?_))
  refine ry hnt rfl rfl rfl g1 (qo hnt rfl (s_gtr rfl rfl ?_))
  refine qo hnt rfl (s_pick_f rfl g1 rfl ?_)
  refine r_end (q_then (w_if rfl (fun c1 => ?_) (fun c1 => ?_)))
  ·try simp only [sB] at c1
   have eo : getOk b k = false := by unfold getOk; apply decide_eq_false; omega
   refine w_seq (w_R (qa hnt rfl rfl (qa hnt rfl rfl (r_end (q_then ?_)))))
   refine w_le (s := 4) (y := pI (getV b k)) rfl (le_of_eq (congrArg pI (show 0 = (getV b k) by (simp [getV,eo]; done)))) (w_le (s := 5) (y := pB (getOk b k)) rfl (le_of_eq (congrArg pB (show false = (getOk b k) by (simp [getV,eo]; done)))) (w_ret (q_then_ret ?_)))
   exact fin_plain (ret_tmp rfl (ret_tmp rfl ret_nil)) rfl rfl ⟨rfl,rfl,rfl⟩
  try simp only [sB] at c1
  refine w_skip (q_then (w_seq ?_))
  have eo : getOk b k = true := by unfold getOk; apply decide_eq_true; omega
  obtain ⟨kn,hkn⟩ : ∃ kn : Nat,k = (kn : Int) := ⟨k.toNat,by omega⟩
  refine w_eq (s := 1) (y := pN kn) rfl (congrArg pI (show k = ((kn : Nat) : Int) by exact hkn)) (W_drawn tabOk mixed hnt [[],[],[0,1],[0,1,2],[0,1,2,3],[0,1,2,3,4],[],[],[7],[6,7,8],[6,7,8,9],[6,7,8,9,10],(.range 12),(.range 13),(.range 14)] (by kernel_rfl) (d_op (x_run0 [(0,pS 1 cl_b enc8 b)] [] rfl rfl rfl rfl (s_move rfl ⟨rfl,rfl,rfl⟩) (d_op (x_run0 [(1,pN kn)] [] rfl rfl rfl rfl (s_move rfl ⟨rfl,rfl,rfl⟩) ?_)))))
  refine d_op ?_
  obtain ⟨e1,he1⟩ := get_of_lt b (i := kn) (by omega)
  refine x_run0 [(15,pS 1 cl_b enc8 b),(16,pN kn)] [0,1] rfl rfl rfl rfl (s_iaM (q := kn) (b := e1) (f := enc8) tab_51 rfl tab_5 rfl rfl (by omega) rfl he1 ⟨rfl,rfl,rfl⟩) (d_op (x_run0 [(17,PV.f (.ro (enc8 e1)))] [0,1,2] rfl rfl rfl rfl (s_load_ro1 tab_5 rfl rfl rfl rfl ⟨rfl,rfl,rfl⟩) (d_op (x_run0 [(18,p8 e1)] [0,1,2,3] rfl rfl rfl rfl (s_cvN (a := UInt8.toNat e1) tab_5 tab_3 rfl rfl rfl (by omega) (by have := lt8 e1; omega) ⟨rfl,rfl,rfl⟩) (d_op ?_)))))
  refine x_run0 [(19,pN (UInt8.toNat e1))] [0,1,2,3,4] rfl rfl rfl rfl (s_shlN (a := UInt8.toNat e1) 8 rfl (by omega) rfl (by decide) (by have := lt8 e1; omega) ⟨rfl,rfl,rfl⟩) (d_op (x_run0 [(0,pS 1 cl_b enc8 b)] [] rfl rfl rfl rfl (s_move rfl ⟨rfl,rfl,rfl⟩) (d_op (x_run0 [(1,pN kn)] [] rfl rfl rfl rfl (s_move rfl ⟨rfl,rfl,rfl⟩) (d_op ?_)))))
  refine x_run0 [(22,pN kn)] [7] rfl rfl rfl rfl (s_addN (a := kn) (b := 1) rfl rfl (by omega) (by omega) (by omega) ⟨rfl,rfl,rfl⟩) (d_op ?_)
  obtain ⟨e2,he2⟩ := get_of_lt b (i := kn + 1) (by omega)
  refine x_run0 [(21,pS 1 cl_b enc8 b),(23,pN (kn + 1))] [6,7,8] rfl rfl rfl rfl (s_iaM (q := kn + 1) (b := e2) (f := enc8) tab_51 rfl tab_5 rfl rfl (by omega) rfl he2 ⟨rfl,rfl,rfl⟩) (d_op (x_run0 [(24,PV.f (.ro (enc8 e2)))] [6,7,8,9] rfl rfl rfl rfl (s_load_ro1 tab_5 rfl rfl rfl rfl ⟨rfl,rfl,rfl⟩) (d_op (x_run0 [(25,p8 e2)] [6,7,8,9,10] rfl rfl rfl rfl (s_cvN (a := UInt8.toNat e2) tab_5 tab_3 rfl rfl rfl (by omega) (by have := lt8 e2; omega) ⟨rfl,rfl,rfl⟩) (d_op ?_)))))
  refine x_run0 [(20,pN ((UInt8.toNat e1) * 2 ^ 8)),(26,pN (UInt8.toNat e2))] (.range 12) rfl rfl rfl rfl (s_orN (a := (UInt8.toNat e1) * 2 ^ 8) (b := UInt8.toNat e2) rfl rfl (by omega) (by omega) (by have := lt8 e1; have := lt8 e2; omega) ⟨rfl,rfl,rfl⟩) (d_op (x_run0 [(27,pN (((UInt8.toNat e1) * 2 ^ 8) ||| (UInt8.toNat e2)))] (.range 13) rfl rfl rfl rfl (s_assign rfl ⟨rfl,rfl,rfl⟩) (d_op (x_run0 [] (.range 14) rfl rfl rfl rfl (s_assign rfl ⟨rfl,rfl,rfl⟩) (d_end ⟨by kernel_rfl, ?_⟩)))))
  refine q_then (w_le (s := 4) (y := pI (getV b k)) rfl (le_of_eq (congrArg pI (show ((((UInt8.toNat e1) * 2 ^ 8) ||| (UInt8.toNat e2) : Nat) : Int) = (getV b k) by rw [getV,if_pos eo,hkn,Int.toNat_natCast,getN_of he1 he2,or_word _ _ (lt8 _)]))) (w_le (s := 5) (y := pB (getOk b k)) rfl (le_of_eq (congrArg pB (show true = (getOk b k) by (simp [getV,eo]; done)))) (w_ret ?_)))
  exact fin_plain (ret_tmp rfl (ret_tmp rfl ret_nil)) rfl rfl ⟨rfl,rfl,rfl⟩
 have g1' := g1
 try simp only [sB] at g1'
 have eo : getOk b k = false := by unfold getOk; apply decide_eq_false; omega
 refine rn hnt rfl rfl rfl g1 (rn hnt rfl rfl rfl g1 (rn hnt rfl rfl rfl g1 (rn hnt rfl rfl rfl g1 (qo hnt rfl (s_pick_t rfl g1 rfl ?_)))))
 refine r_end (q_then (w_if rfl (fun _ => ?_) (fun e => absurd e (by decide))))
 refine w_seq (w_R (qa hnt rfl rfl (qa hnt rfl rfl (r_end (q_then ?_)))))
 refine w_le (s := 4) (y := pI (getV b k)) rfl (le_of_eq (congrArg pI (show 0 = (getV b k) by (simp [getV,eo]; done)))) (w_le (s := 5) (y := pB (getOk b k)) rfl (le_of_eq (congrArg pB (show false = (getOk b k) by (simp [getV,eo]; done)))) (w_ret (q_then_ret ?_)))
 exact fin_plain (ret_tmp rfl (ret_tmp rfl ret_nil)) rfl rfl ⟨rfl,rfl,rfl⟩
theorem w_burgageref1_Get (b : List UInt8) (cl_b : Bool) (k : Int) (hb : b.length ≤ 140737488355328) (hk0 : k ≤ 9223372036854775807) :
    T Try.prog 106 [pS 1 cl_b enc8 b,pI k] 0 [] (Ret (PV.tup [pI (getV b k),pB (getOk b k)]) 0 []) := by
 refine t_fun tabOk (n := 28) (rs := [.tmp 4,.tmp 5]) Try.func106 rfl rfl rfl rfl (Nat.le_of_ble_eq_true rfl) ?_
 intro c hnt hk
 refine w_seq (w_R (qa hnt rfl rfl (qa hnt rfl rfl (r_end (q_then ?_)))))
 refine w_seq (w_seq (w_R (qm hnt rfl rfl (qo hnt rfl (s_lss rfl rfl ?_)))))
 refine qm hnt rfl rfl (r_if tabOk hnt rfl rfl rfl (fun g1 => ?_) (fun g1 => ?_))
 ·have g1' := g1
  try simp only [sB] at g1'
  refine qm hnt rfl rfl (ry hnt rfl rfl rfl g1 (qm hnt rfl rfl (ry hnt rfl rfl rfl g1 (qo hnt rfl (s_lenM (l := b) tab_51 rfl (hM_sl (f := enc8) rfl) ?_)))))
  refine ry hnt rfl rfl rfl g1 (qo hnt rfl (s_subi (r := ((b.length : Nat) : Int) - 2) rfl rfl rfl (by omega) ?_))
  refine ry hnt rfl rfl rfl g1 (qo hnt rfl (s_gtr rfl rfl ?_))
  refine qo hnt rfl (s_pick_f rfl g1 rfl ?_)
  refine r_end (q_then (w_if rfl (fun c1 => ?_) (fun c1 => ?_)))
  ·try simp only [sB] at c1
   have eo : getOk b k = false := by unfold getOk; apply decide_eq_false; omega
   refine w_seq (w_R (qa hnt rfl rfl (qa hnt rfl rfl (r_end (q_then ?_)))))
   refine w_le (s := 4) (y := pI (getV b k)) rfl (le_of_eq (congrArg pI (show 0 = (getV b k) by (simp [getV,eo]; done)))) (w_le (s := 5) (y := pB (getOk b k)) rfl (le_of_eq (congrArg pB (show false = (getOk b k) by (simp [getV,eo]; done)))) (w_ret (q_then_ret ?_)))
   exact fin_plain (ret_tmp rfl (ret_tmp rfl ret_nil)) rfl rfl ⟨rfl,rfl,rfl⟩
  try simp only [sB] at c1
  refine w_skip (q_then (w_seq ?_))
  have eo : getOk b k = true := by unfold getOk; apply decide_eq_true; omega
  obtain ⟨kn,hkn⟩ : ∃ kn : Nat,k = (kn : Int) := ⟨k.toNat,by omega⟩
  refine w_eq (s := 1) (y := pN kn) rfl (congrArg pI (show k = ((kn : Nat) : Int) by exact hkn)) (W_drawn tabOk mixed hnt [[],[],[0,1],[0,1,2],[0,1,2,3],[0,1,2,3,4],[],[],[7],[6,7,8],[6,7,8,9],[6,7,8,9,10],(.range 12),(.range 13),(.range 14)] (by kernel_rfl) (d_op (x_run0 [(0,pS 1 cl_b enc8 b)] [] rfl rfl rfl rfl (s_move rfl ⟨rfl,rfl,rfl⟩) (d_op (x_run0 [(1,pN kn)] [] rfl rfl rfl rfl (s_move rfl ⟨rfl,rfl,rfl⟩) ?_)))))
  refine d_op ?_
  obtain ⟨e1,he1⟩ := get_of_lt b (i := kn) (by omega)
  refine x_run0 [(15,pS 1 cl_b enc8 b),(16,pN kn)] [0,1] rfl rfl rfl rfl (s_iaM (q := kn) (b := e1) (f := enc8) tab_51 rfl tab_5 rfl rfl (by omega) rfl he1 ⟨rfl,rfl,rfl⟩) (d_op (x_run0 [(17,PV.f (.ro (enc8 e1)))] [0,1,2] rfl rfl rfl rfl (s_load_ro1 tab_5 rfl rfl rfl rfl ⟨rfl,rfl,rfl⟩) (d_op (x_run0 [(18,p8 e1)] [0,1,2,3] rfl rfl rfl rfl (s_cvN (a := UInt8.toNat e1) tab_5 tab_3 rfl rfl rfl (by omega) (by have := lt8 e1; omega) ⟨rfl,rfl,rfl⟩) (d_op ?_)))))
  refine x_run0 [(19,pN (UInt8.toNat e1))] [0,1,2,3,4] rfl rfl rfl rfl (s_shlN (a := UInt8.toNat e1) 8 rfl (by omega) rfl (by decide) (by have := lt8 e1; omega) ⟨rfl,rfl,rfl⟩) (d_op (x_run0 [(0,pS 1 cl_b enc8 b)] [] rfl rfl rfl rfl (s_move rfl ⟨rfl,rfl,rfl⟩) (d_op (x_run0 [(1,pN kn)] [] rfl rfl rfl rfl (s_move rfl ⟨rfl,rfl,rfl⟩) (d_op ?_)))))
  refine x_run0 [(22,pN kn)] [7] rfl rfl rfl rfl (s_addN (a := kn) (b := 1) rfl rfl (by omega) (by omega) (by omega) ⟨rfl,rfl,rfl⟩) (d_op ?_)
  obtain ⟨e2,he2⟩ := get_of_lt b (i := kn + 1) (by omega)
  refine x_run0 [(21,pS 1 cl_b enc8 b),(23,pN (kn + 1))] [6,7,8] rfl rfl rfl rfl (s_iaM (q := kn + 1) (b := e2) (f := enc8) tab_51 rfl tab_5 rfl rfl (by omega) rfl he2 ⟨rfl,rfl,rfl⟩) (d_op (x_run0 [(24,PV.f (.ro (enc8 e2)))] [6,7,8,9] rfl rfl rfl rfl (s_load_ro1 tab_5 rfl rfl rfl rfl ⟨rfl,rfl,rfl⟩) (d_op (x_run0 [(25,p8 e2)] [6,7,8,9,10] rfl rfl rfl rfl (s_cvN (a := UInt8.toNat e2) tab_5 tab_3 rfl rfl rfl (by omega) (by have := lt8 e2; omega) ⟨rfl,rfl,rfl⟩) (d_op ?_)))))
  refine x_run0 [(20,pN ((UInt8.toNat e1) * 2 ^ 8)),(26,pN (UInt8.toNat e2))] (.range 12) rfl rfl rfl rfl (s_orN (a := (UInt8.toNat e1) * 2 ^ 8) (b := UInt8.toNat e2) rfl rfl (by omega) (by omega) (by have := lt8 e1; have := lt8 e2; omega) ⟨rfl,rfl,rfl⟩) (d_op (x_run0 [(27,pN (((UInt8.toNat e1) * 2 ^ 8) ||| (UInt8.toNat e2)))] (.range 13) rfl rfl rfl rfl (s_assign rfl ⟨rfl,rfl,rfl⟩) (d_op (x_run0 [] (.range 14) rfl rfl rfl rfl (s_assign rfl ⟨rfl,rfl,rfl⟩) (d_end ⟨by kernel_rfl, ?_⟩)))))
  refine q_then (w_le (s := 4) (y := pI (getV b k)) rfl (le_of_eq (congrArg pI (show ((((UInt8.toNat e1) * 2 ^ 8) ||| (UInt8.toNat e2) : Nat) : Int) = (getV b k) by rw [getV,if_pos eo,hkn,Int.toNat_natCast,getN_of he1 he2,or_word _ _ (lt8 _)]))) (w_le (s := 5) (y := pB (getOk b k)) rfl (le_of_eq (congrArg pB (show true = (getOk b k) by (simp [getV,eo]; done)))) (w_ret ?_)))
  exact fin_plain (ret_tmp rfl (ret_tmp rfl ret_nil)) rfl rfl ⟨rfl,rfl,rfl⟩
 have g1' := g1
 try simp only [sB] at g1'
 have eo : getOk b k = false := by unfold getOk; apply decide_eq_false; omega
 refine rn hnt rfl rfl rfl g1 (rn hnt rfl rfl rfl g1 (rn hnt rfl rfl rfl g1 (rn hnt rfl rfl rfl g1 (qo hnt rfl (s_pick_t rfl g1 rfl ?_)))))
 refine r_end (q_then (w_if rfl (fun _ => ?_) (fun e => absurd e (by decide))))
 refine w_seq (w_R (qa hnt rfl rfl (qa hnt rfl rfl (r_end (q_then ?_)))))
 refine w_le (s := 4) (y := pI (getV b k)) rfl (le_of_eq (congrArg pI (show 0 = (getV b k) by (simp [getV,eo]; done)))) (w_le (s := 5) (y := pB (getOk b k)) rfl (le_of_eq (congrArg pB (show false = (getOk b k) by (simp [getV,eo]; done)))) (w_ret (q_then_ret ?_)))
 exact fin_plain (ret_tmp rfl (ret_tmp rfl ret_nil)) rfl rfl ⟨rfl,rfl,rfl⟩
theorem w_octet_Pack (l : List Bool) (cl_l : Bool) (hl : l.length ≤ 140737488351232) :
    T Try.prog 62 [pS 1 cl_l encBo l] 0 [] (Ret (PV.ref 0 0 none) 1 [(0,oB true 1 enc8 (packL l))]) := by
 refine t_fun tabOk (n := 32) (rs := [.tmp 2]) Try.func62 rfl rfl rfl rfl (Nat.le_of_ble_eq_true rfl) ?_
 intro c hnt hk
 refine w_seq (w_R (qa hnt rfl rfl (r_end (q_then (w_seq ?_)))))
 refine w_R (qm hnt rfl rfl (qo hnt rfl (s_lenM (l := l) tab_42 rfl (hM_sl (f := encBo) rfl) ?_)))
 refine qo hnt rfl (s_addN (a := l.length) (b := 8) rfl rfl (by omega) (by omega) (by omega) ?_)
 refine qo hnt rfl (s_subN (a := l.length + 8) (b := 1) rfl rfl (by omega) (by omega) (by omega) ?_)
 refine qo hnt rfl (s_quoN (a := l.length + 8 - 1) (b := 8) rfl rfl (by omega) (by omega) (by omega) ?_)
 refine qo hnt rfl (s_makeM (f := enc8) (bt := 1) tab_one (0 : UInt8) ((l.length + 8 - 1) / 8) (fun j hj => by cases hj; rfl) tab_51 rfl tab_5 ⟨rfl,by decide⟩ rfl rfl rfl (by omega) (by refine ⟨?_, ?_, ?_⟩ <;> omega) ?_)
 refine qa hnt rfl rfl (r_set [(0,pS 1 cl_l encBo l),(3,PV.ref 0 0 none)] [(0,oB true 1 enc8 (List.replicate ((l.length + 8 - 1) / 8) (0 : UInt8)))] 1 ⟨rfl,rfl,trivial⟩ rfl rfl (r_end (q_then (w_seq (w_seq ?_)))))
 refine w_R (qm hnt rfl rfl (qo hnt rfl (s_lenM (l := l) tab_42 rfl (hM_sl (f := encBo) rfl) ?_)))
 refine qm hnt rfl rfl (r_end (q_then (w_block (loop2 (fun (os : List UInt8) (i : Nat) => i ≤ l.length ∧ os = packT l i) (fun (os : List UInt8) (i : Nat) => [(3,PV.ref 0 0 none),(12,pS 1 cl_l encBo l),(13,pN l.length),(14,pN i)]) 1 (fun (os : List UInt8) (i : Nat) => [(0,oB true 1 enc8 os)]) (fun (os : List UInt8) (i : Nat) => l.length - i) (List.replicate ((l.length + 8 - 1) / 8) (0 : UInt8)) (0) ?_ ⟨[(0,0)],by rw [hk]; decide,⟨⟨_,rfl,rfl,rfl⟩,⟨_,rfl,rfl,rfl⟩,⟨_,rfl,rfl,rfl⟩,⟨_,rfl,rfl,rfl⟩,trivial⟩,⟨⟨_,_,rfl,rfl,rfl,rfl⟩,trivial⟩,by rw [hk]; decide⟩ ?_))))
 · exact ⟨Nat.zero_le _,by (rw [packT_zero]; rfl)⟩
 ·intro os i hI
  obtain ⟨hi,ho⟩ := hI
  have hol : os.length = (l.length + 7) / 8 := by rw [ho]; exact packT_length l i
  refine w_seq (w_R (qo hnt rfl (s_lss rfl rfl ?_)))
  refine r_end (q_then (w_seq (w_if rfl (fun c1 => ?_) (fun c1 => ?_))))
  ·try simp only [sB] at c1
   refine w_skip (q_then (w_seq (w_block (w_seq (w_R ?_)))))
   refine qm hnt rfl rfl ?_
   obtain ⟨e1,he1⟩ := get_of_lt l (i := i) (by omega)
   refine qo hnt rfl (s_iaM (q := i) (b := e1) (f := encBo) tab_42 rfl tab_4 rfl rfl (by omega) rfl he1 ?_)
   refine qo hnt rfl (s_load_ro1 tab_4 rfl rfl rfl rfl ?_)
   refine qa hnt rfl rfl (qa hnt rfl rfl (r_end (q_then (w_seq (w_R ?_)))))
   refine qm hnt rfl rfl (r_end (q_then (w_if rfl (fun c2 => ?_) (fun c2 => ?_))))
   ·try simp only [sB] at c2
    refine W_drawn tabOk mixed hnt [[],[],[1],[0,1,2],[0,1,2,3],[],[5],[5,6],(.range 8),(.range 9),(.range 10)] (by kernel_rfl) (d_op (x_run0 [(3,PV.ref 0 0 none)] [] rfl rfl rfl rfl (s_move rfl ⟨rfl,rfl,rfl⟩) (d_op (x_run0 [(4,pN i)] [] rfl rfl rfl rfl (s_move rfl ⟨rfl,rfl,rfl⟩) (d_op ?_)))))
    refine x_run0 [(21,pN i)] [1] rfl rfl rfl rfl (s_quoN (a := i) (b := 8) rfl rfl (by omega) (by omega) (by omega) ⟨rfl,rfl,rfl⟩) (d_op (xL [(20,PV.ref 0 0 none),(22,pN (i / 8))] [0,1,2] [(0,oB true 1 enc8 os)] rfl rfl rfl rfl rfl (s_iaR0 (q := i / 8) (f := enc8) (l := os) tab_51 rfl tab_5 rfl rfl (by omega) rfl rfl (by omega) ⟨rfl,rfl,rfl⟩) ⟨rfl,trivial⟩ rfl (d_op ?_)))
    obtain ⟨e2,he2⟩ := get_of_lt os (i := i / 8) (by omega)
    refine xL [(23,PV.ep 0 (i / 8) 0)] [0,1,2,3] [(0,oB true 1 enc8 os)] rfl rfl rfl rfl rfl (s_ldM (b := e2) (f := enc8) tab_5 rfl rfl rfl rfl he2 rfl ⟨rfl,rfl,rfl⟩) ⟨rfl,trivial⟩ rfl (d_op (x_run0 [(4,pN i)] [] rfl rfl rfl rfl (s_move rfl ⟨rfl,rfl,rfl⟩) (d_op (x_run0 [(25,pN i)] [5] rfl rfl rfl rfl (s_remN (a := i) (b := 8) rfl rfl (by omega) (by omega) (by omega) ⟨rfl,rfl,rfl⟩) (d_op ?_)))))
    refine x_run0 [(26,pN (i % 8))] [5,6] rfl rfl rfl rfl (s_shl8 (a := 1) (i % 8) rfl rfl (by rfl) (by omega) ⟨rfl,rfl,rfl⟩) (d_op (x_run0 [(24,p8 e2),(27,p8 (1 <<< UInt8.ofNat (i % 8)))] (.range 8) rfl rfl rfl rfl (s_or8 (a := e2) (b := 1 <<< UInt8.ofNat (i % 8)) rfl rfl ⟨rfl,rfl,rfl⟩) (d_op (xL [(20,PV.ref 0 0 none),(22,pN (i / 8))] (.range 9) [(0,oB true 1 enc8 os)] rfl rfl rfl rfl rfl (s_iaR0 (q := i / 8) (f := enc8) (l := os) tab_51 rfl tab_5 rfl rfl (by omega) rfl rfl (by omega) ⟨rfl,rfl,rfl⟩) ⟨rfl,trivial⟩ rfl (d_op ?_)))))
    refine xT [(29,PV.ep 0 (i / 8) 0),(28,p8 (e2 ||| (1 <<< UInt8.ofNat (i % 8))))] (.range 10) [(0,oB true 1 enc8 os)] [(0,oB true 1 enc8 (os.set (i / 8) (e2 ||| (1 <<< UInt8.ofNat (i % 8)))))] [] rfl rfl rfl rfl rfl (s_stM (y0 := e2) (z := e2 ||| (1 <<< UInt8.ofNat (i % 8))) (f := enc8) tab_5 rfl rfl rfl rfl rfl he2 (Nat.le_of_ble_eq_true rfl) rfl rfl (by simp) rfl ⟨rfl,rfl,rfl⟩) rfl rfl (d_end ⟨by kernel_rfl, ?_⟩)
    refine q_block (q_then (w_R (qo hnt rfl (s_addN (a := i) (b := 1) rfl rfl (by omega) (by omega) (by omega) ?_))))
    refine qm hnt rfl rfl (r_end (q_then (⟨(os.set (i / 8) (e2 ||| (1 <<< UInt8.ofNat (i % 8)))),(i + 1), ?_, ?_,⟨[(0,0)],by rw [hk]; decide,⟨⟨_,rfl,rfl,rfl⟩,⟨_,rfl,rfl,rfl⟩,⟨_,rfl,rfl,rfl⟩,⟨_,rfl,rfl,rfl⟩,trivial⟩,⟨⟨_,_,rfl,rfl,rfl,rfl⟩,trivial⟩,by rw [hk]; decide⟩⟩)))
    ·refine ⟨by omega, ?_⟩
     (subst ho; exact packT_yes (by rw [he1,c2]) he2)
    · omega
   try simp only [sB] at c2
   refine w_skip (q_block (q_then (w_R (qo hnt rfl (s_addN (a := i) (b := 1) rfl rfl (by omega) (by omega) (by omega) ?_)))))
   refine qm hnt rfl rfl (r_end (q_then (⟨(os),(i + 1), ?_, ?_,⟨[(0,0)],by rw [hk]; decide,⟨⟨_,rfl,rfl,rfl⟩,⟨_,rfl,rfl,rfl⟩,⟨_,rfl,rfl,rfl⟩,⟨_,rfl,rfl,rfl⟩,trivial⟩,⟨⟨_,_,rfl,rfl,rfl,rfl⟩,trivial⟩,by rw [hk]; decide⟩⟩)))
   ·refine ⟨by omega, ?_⟩
    (rw [packT_no (by rw [he1,c2]),ho]; done)
   · omega
  try simp only [sB] at c1
  refine w_exit (q_then_exit (q_then_exit (q_block_exit (q_then (w_seq ?_)))))
  refine w_R (qm hnt rfl rfl (qa hnt rfl rfl (r_end (q_then (w_H (H' := [(0,oB true 1 enc8 (packL l))]) (congrArg (fun z => ([(0,oB true 1 enc8 z)] : Heap)) (show os = packL l by rw [ho,show i = l.length by omega,packT_end])) ?_)))))
  refine w_ret ?_
  exact fin_names (nx1 := 1) (H1 := [(0,oB true 1 enc8 (packL l))]) [(0,0)] (ret_tmp rfl ret_nil) rfl (by decide) ⟨⟨_,_,rfl,rfl,rfl,rfl⟩,trivial⟩ (by decide) rfl ⟨rfl,rfl,rfl⟩
theorem w_burgageref1_Pack (l : List Bool) (cl_l : Bool) (hl : l.length ≤ 140737488351232) :
    T Try.prog 91 [pS 1 cl_l encBo l] 0 [] (Ret (PV.ref 0 0 none) 1 [(0,oB true 1 enc8 (packL l))]) := by
 refine t_fun tabOk (n := 32) (rs := [.tmp 2]) Try.func91 rfl rfl rfl rfl (Nat.le_of_ble_eq_true rfl) ?_
 intro c hnt hk
 refine w_seq (w_R (qa hnt rfl rfl (r_end (q_then (w_seq ?_)))))
 refine w_R (qm hnt rfl rfl (qo hnt rfl (s_lenM (l := l) tab_42 rfl (hM_sl (f := encBo) rfl) ?_)))
 refine qo hnt rfl (s_addN (a := l.length) (b := 7) rfl rfl (by omega) (by omega) (by omega) ?_)
 refine qo hnt rfl (s_quoN (a := l.length + 7) (b := 8) rfl rfl (by omega) (by omega) (by omega) ?_)
 refine qo hnt rfl (s_makeM (f := enc8) (bt := 1) tab_one (0 : UInt8) ((l.length + 7) / 8) (fun j hj => by cases hj; rfl) tab_51 rfl tab_5 ⟨rfl,by decide⟩ rfl rfl rfl (by omega) (by refine ⟨?_, ?_, ?_⟩ <;> omega) ?_)
 refine qa hnt rfl rfl (r_set [(0,pS 1 cl_l encBo l),(3,PV.ref 0 0 none)] [(0,oB true 1 enc8 (List.replicate ((l.length + 7) / 8) (0 : UInt8)))] 1 ⟨rfl,rfl,trivial⟩ rfl rfl (r_end (q_then (w_seq (w_seq ?_)))))
 refine w_R (qm hnt rfl rfl (qo hnt rfl (s_lenM (l := l) tab_42 rfl (hM_sl (f := encBo) rfl) ?_)))
 refine qm hnt rfl rfl (r_end (q_then (w_block (loop2 (fun (os : List UInt8) (i : Nat) => i ≤ l.length ∧ os = packT l i) (fun (os : List UInt8) (i : Nat) => [(3,PV.ref 0 0 none),(11,pS 1 cl_l encBo l),(12,pN l.length),(13,pN i)]) 1 (fun (os : List UInt8) (i : Nat) => [(0,oB true 1 enc8 os)]) (fun (os : List UInt8) (i : Nat) => l.length - i) (List.replicate ((l.length + 7) / 8) (0 : UInt8)) (0) ?_ ⟨[(0,0)],by rw [hk]; decide,⟨⟨_,rfl,rfl,rfl⟩,⟨_,rfl,rfl,rfl⟩,⟨_,rfl,rfl,rfl⟩,⟨_,rfl,rfl,rfl⟩,trivial⟩,⟨⟨_,_,rfl,rfl,rfl,rfl⟩,trivial⟩,by rw [hk]; decide⟩ ?_))))
 · exact ⟨Nat.zero_le _,by (rw [packT_zero]; done)⟩
 ·intro os i hI
  obtain ⟨hi,ho⟩ := hI
  have hol : os.length = (l.length + 7) / 8 := by rw [ho]; exact packT_length l i
  refine w_seq (w_R (qo hnt rfl (s_lss rfl rfl ?_)))
  refine r_end (q_then (w_seq (w_if rfl (fun c1 => ?_) (fun c1 => ?_))))
  ·try simp only [sB] at c1
   refine w_skip (q_then (w_seq (w_block (w_seq (w_R ?_)))))
   refine qm hnt rfl rfl ?_
   obtain ⟨e1,he1⟩ := get_of_lt l (i := i) (by omega)
   refine qo hnt rfl (s_iaM (q := i) (b := e1) (f := encBo) tab_42 rfl tab_4 rfl rfl (by omega) rfl he1 ?_)
   refine qo hnt rfl (s_load_ro1 tab_4 rfl rfl rfl rfl ?_)
   refine qa hnt rfl rfl (qa hnt rfl rfl (r_end (q_then (w_seq (w_R ?_)))))
   refine qm hnt rfl rfl (r_end (q_then (w_if rfl (fun c2 => ?_) (fun c2 => ?_))))
   ·try simp only [sB] at c2
    refine w_R (qm hnt rfl rfl (qm hnt rfl rfl (qo hnt rfl (s_quoN (a := i) (b := 8) rfl rfl (by omega) (by omega) (by omega) ?_))))
    refine qo hnt rfl (s_iaR0 (q := i / 8) (f := enc8) (l := os) tab_51 rfl tab_5 rfl rfl (by omega) rfl rfl (by omega) ?_)
    obtain ⟨e2,he2⟩ := get_of_lt os (i := i / 8) (by omega)
    refine qo hnt rfl (s_ldM (b := e2) (f := enc8) tab_5 rfl rfl rfl rfl he2 rfl ?_)
    refine qm hnt rfl rfl (qo hnt rfl (s_remN (a := i) (b := 8) rfl rfl (by omega) (by omega) (by omega) ?_))
    refine qo hnt rfl (s_cvK tab_3 tab_62 rfl rfl rfl rfl (by exact ⟨by omega,by show _ < (18446744073709551616 : Int); omega⟩) ?_)
    refine qo hnt rfl (s_shl8 (a := 1) (i % 8) rfl rfl (by rfl) (by omega) ?_)
    refine qo hnt rfl (s_or8 (a := e2) (b := 1 <<< UInt8.ofNat (i % 8)) rfl rfl ?_)
    refine qo hnt rfl (s_iaR0 (q := i / 8) (f := enc8) (l := os) tab_51 rfl tab_5 rfl rfl (by omega) rfl rfl (by omega) ?_)
    refine qo hnt rfl (s_stM (y0 := e2) (z := e2 ||| (1 <<< UInt8.ofNat (i % 8))) (f := enc8) tab_5 rfl rfl rfl rfl rfl he2 (Nat.le_of_ble_eq_true rfl) rfl rfl (by simp) rfl ?_)
    refine r_set [(3,PV.ref 0 0 none),(11,pS 1 cl_l encBo l),(12,pN l.length),(13,pN i)] [(0,oB true 1 enc8 (os.set (i / 8) (e2 ||| (1 <<< UInt8.ofNat (i % 8)))))] 1 ⟨rfl,rfl,rfl,rfl,trivial⟩ rfl rfl (r_end (q_block (q_then (w_R (qo hnt rfl (s_addN (a := i) (b := 1) rfl rfl (by omega) (by omega) (by omega) ?_))))))
    refine qm hnt rfl rfl (r_end (q_then (⟨(os.set (i / 8) (e2 ||| (1 <<< UInt8.ofNat (i % 8)))),(i + 1), ?_, ?_,⟨[(0,0)],by rw [hk]; decide,⟨⟨_,rfl,rfl,rfl⟩,⟨_,rfl,rfl,rfl⟩,⟨_,rfl,rfl,rfl⟩,⟨_,rfl,rfl,rfl⟩,trivial⟩,⟨⟨_,_,rfl,rfl,rfl,rfl⟩,trivial⟩,by rw [hk]; decide⟩⟩)))
    ·refine ⟨by omega, ?_⟩
     (subst ho; exact packT_yes (by rw [he1,c2]) he2)
    · omega
   try simp only [sB] at c2
   refine w_skip (q_block (q_then (w_R (qo hnt rfl (s_addN (a := i) (b := 1) rfl rfl (by omega) (by omega) (by omega) ?_)))))
   refine qm hnt rfl rfl (r_end (q_then (⟨(os),(i + 1), ?_, ?_,⟨[(0,0)],by rw [hk]; decide,⟨⟨_,rfl,rfl,rfl⟩,⟨_,rfl,rfl,rfl⟩,⟨_,rfl,rfl,rfl⟩,⟨_,rfl,rfl,rfl⟩,trivial⟩,⟨⟨_,_,rfl,rfl,rfl,rfl⟩,trivial⟩,by rw [hk]; decide⟩⟩)))
   ·refine ⟨by omega, ?_⟩
    (rw [packT_no (by rw [he1,c2]),ho]; done)
   · omega
  try simp only [sB] at c1
  refine w_exit (q_then_exit (q_then_exit (q_block_exit (q_then (w_seq ?_)))))
  refine w_R (qm hnt rfl rfl (qa hnt rfl rfl (r_end (q_then (w_H (H' := [(0,oB true 1 enc8 (packL l))]) (congrArg (fun z => ([(0,oB true 1 enc8 z)] : Heap)) (show os = packL l by rw [ho,show i = l.length by omega,packT_end])) ?_)))))
  refine w_ret ?_
  exact fin_names (nx1 := 1) (H1 := [(0,oB true 1 enc8 (packL l))]) [(0,0)] (ret_tmp rfl ret_nil) rfl (by decide) ⟨⟨_,_,rfl,rfl,rfl,rfl⟩,trivial⟩ (by decide) rfl ⟨rfl,rfl,rfl⟩
theorem w_octet_Bytes (l : List UInt16) (cl_l : Bool) (hl : l.length * 2 ≤ 140737488351232) :
    T Try.prog 63 [pS 1 cl_l enc16 l] 0 [] (Ret (PV.ref 0 0 none) 1 [(0,oB true 1 enc8 (bytesL l))]) := by
 refine t_fun tabOk (n := 26) (rs := [.tmp 2]) Try.func63 rfl rfl rfl rfl (Nat.le_of_ble_eq_true rfl) ?_
 intro c hnt hk
 refine w_seq (w_R (qa hnt rfl rfl (r_end (q_then (w_seq ?_)))))
 refine w_R (qm hnt rfl rfl (qo hnt rfl (s_lenM (l := l) tab_43 rfl (hM_sl (f := enc16) rfl) ?_)))
 refine qo hnt rfl (s_mulN (a := 2) (b := l.length) rfl rfl (by omega) (by omega) (by omega) ?_)
 refine qo hnt rfl (s_makeM (f := enc8) (bt := 1) tab_one (0 : UInt8) 0 (fun j hj => by cases hj; rfl) tab_51 rfl tab_5 ⟨rfl,by decide⟩ rfl rfl rfl (by omega) (by refine ⟨?_, ?_, ?_⟩ <;> omega) ?_)
 refine qa hnt rfl rfl (r_set [(0,pS 1 cl_l enc16 l),(3,PV.ref 0 0 none)] [(0,oB true 1 enc8 (List.replicate 0 (0 : UInt8)))] 1 ⟨rfl,rfl,trivial⟩ rfl rfl (r_end (q_then (w_seq (w_seq ?_)))))
 refine w_R (qm hnt rfl rfl (qo hnt rfl (s_lenM (l := l) tab_43 rfl (hM_sl (f := enc16) rfl) ?_)))
 refine qm hnt rfl rfl (r_end (q_then (w_block (loop2 (fun (os : List UInt8) (i : Nat) => i ≤ l.length ∧ os = bytesL (l.take i)) (fun (os : List UInt8) (i : Nat) => [(3,PV.ref 0 0 none),(10,pS 1 cl_l enc16 l),(11,pN l.length),(12,pN i)]) 1 (fun (os : List UInt8) (i : Nat) => [(0,oB true 1 enc8 os)]) (fun (os : List UInt8) (i : Nat) => l.length - i) (List.replicate 0 (0 : UInt8)) (0) ?_ ⟨[(0,0)],by rw [hk]; decide,⟨⟨_,rfl,rfl,rfl⟩,⟨_,rfl,rfl,rfl⟩,⟨_,rfl,rfl,rfl⟩,⟨_,rfl,rfl,rfl⟩,trivial⟩,⟨⟨_,_,rfl,rfl,rfl,rfl⟩,trivial⟩,by rw [hk]; decide⟩ ?_))))
 · exact ⟨Nat.zero_le _,rfl⟩
 ·intro os i hI
  obtain ⟨hi,ho⟩ := hI
  have hol : os.length = 2 * i := by rw [ho,bytesL_length,List.length_take]; omega
  refine w_seq (w_R (qo hnt rfl (s_lss rfl rfl ?_)))
  refine r_end (q_then (w_seq (w_if rfl (fun c1 => ?_) (fun c1 => ?_))))
  ·try simp only [sB] at c1
   refine w_skip (q_then (w_seq (w_block (w_seq (w_R ?_)))))
   obtain ⟨e1,he1⟩ := get_of_lt l (i := i) (by omega)
   refine qo hnt rfl (s_iaM (q := i) (b := e1) (f := enc16) tab_43 rfl tab_44 rfl rfl (by omega) rfl he1 ?_)
   refine qo hnt rfl (s_load_ro1 tab_44 rfl rfl rfl rfl ?_)
   refine qa hnt rfl rfl (r_end (q_then (w_R (qm hnt rfl rfl (qm hnt rfl rfl ?_)))))
   refine qo hnt rfl (s_shr16 (a := e1) 8 rfl rfl (by decide) ?_)
   refine qo hnt rfl (s_conv168 (a := e1 >>> UInt16.ofNat 8) tab_44 tab_5 rfl rfl rfl ?_)
   refine qm hnt rfl rfl (qo hnt rfl (s_conv168 (a := e1) tab_44 tab_5 rfl rfl rfl ?_))
   refine qo hnt rfl (s_mkM (f := enc8) [(e1 >>> UInt16.ofNat 8).toUInt8,e1.toUInt8] tab_51 rfl tab_5 ⟨rfl,by decide⟩ (by decide) rfl rfl rfl rfl ?_)
   refine qo hnt rfl (s_appR0 (f := enc8) (l := os) (xs := [(e1 >>> UInt16.ofNat 8).toUInt8,e1.toUInt8]) tab_51 rfl tab_5 ⟨rfl,by decide,by decide⟩ (srcM tab_51 rfl (hM_ref0 (f := enc8) rfl rfl)) rfl rfl (by (simp; omega)) ?_)
   refine qa hnt rfl rfl (r_set [(3,PV.ref 2 0 none),(10,pS 1 cl_l enc16 l),(11,pN l.length),(12,pN i)] [(2,oB true 1 enc8 (os ++ [(e1 >>> UInt16.ofNat 8).toUInt8,e1.toUInt8])),(1,oB true 1 enc8 [(e1 >>> UInt16.ofNat 8).toUInt8,e1.toUInt8])] 3 ⟨rfl,rfl,rfl,rfl,trivial⟩ rfl rfl (r_end (q_block (q_then (w_R ?_)))))
   refine qo hnt rfl (s_addN (a := i) (b := 1) rfl rfl (by omega) (by omega) (by omega) ?_)
   refine qm hnt rfl rfl (r_end (q_then (⟨(os ++ [(e1 >>> UInt16.ofNat 8).toUInt8,e1.toUInt8]),(i + 1), ?_, ?_,⟨[(0,2)],by rw [hk]; decide,⟨⟨_,rfl,rfl,rfl⟩,⟨_,rfl,rfl,rfl⟩,⟨_,rfl,rfl,rfl⟩,⟨_,rfl,rfl,rfl⟩,trivial⟩,⟨⟨_,_,rfl,rfl,rfl,rfl⟩,trivial⟩,by rw [hk]; decide⟩⟩)))
   ·exact ⟨by omega,by rw [bytesL_take he1,ho]⟩
   · omega
  try simp only [sB] at c1
  refine w_exit (q_then_exit (q_then_exit (q_block_exit (q_then (w_seq ?_)))))
  refine w_R (qm hnt rfl rfl (qa hnt rfl rfl (r_end (q_then (w_H (H' := [(0,oB true 1 enc8 (bytesL l))]) (congrArg (fun z => ([(0,oB true 1 enc8 z)] : Heap)) (show os = bytesL l by rw [ho,List.take_of_length_le (by omega)])) ?_)))))
  refine w_ret ?_
  exact fin_names (nx1 := 1) (H1 := [(0,oB true 1 enc8 (bytesL l))]) [(0,0)] (ret_tmp rfl ret_nil) rfl (by decide) ⟨⟨_,_,rfl,rfl,rfl,rfl⟩,trivial⟩ (by decide) rfl ⟨rfl,rfl,rfl⟩
theorem w_burgageref1_Bytes (l : List UInt16) (cl_l : Bool) (hl : l.length * 2 ≤ 140737488351232) :
    T Try.prog 92 [pS 1 cl_l enc16 l] 0 [] (Ret (PV.ref 0 0 none) 1 [(0,oB true 1 enc8 (bytesL l))]) := by
 refine t_fun tabOk (n := 22) (rs := [.tmp 2]) Try.func92 rfl rfl rfl rfl (Nat.le_of_ble_eq_true rfl) ?_
 intro c hnt hk
 refine w_seq (w_R (qa hnt rfl rfl (r_end (q_then (w_seq ?_)))))
 refine w_R (qa hnt rfl rfl (r_end (q_then (w_seq (w_seq ?_)))))
 refine w_R (qm hnt rfl rfl (qo hnt rfl (s_lenM (l := l) tab_43 rfl (hM_sl (f := enc16) rfl) ?_)))
 refine qm hnt rfl rfl (r_end (q_then (w_block (w_adopt (s := 3) (sz := 1) rfl (loop2 (fun (os : List UInt8) (i : Nat) => i ≤ l.length ∧ os = bytesL (l.take i)) (fun (os : List UInt8) (i : Nat) => [(3,PV.ref 0 0 none),(6,pS 1 cl_l enc16 l),(7,pN l.length),(8,pN i)]) 1 (fun (os : List UInt8) (i : Nat) => [(0,oB true 1 enc8 os)]) (fun (os : List UInt8) (i : Nat) => l.length - i) (([] : List UInt8)) (0) ?_ ⟨[(0,0)],by rw [hk]; decide,⟨⟨_,rfl,rfl,rfl⟩,⟨_,rfl,rfl,rfl⟩,⟨_,rfl,rfl,rfl⟩,⟨_,rfl,rfl,rfl⟩,trivial⟩,⟨⟨_,_,rfl,rfl,rfl,rfl⟩,trivial⟩,by rw [hk]; decide⟩ ?_)))))
 · exact ⟨Nat.zero_le _,rfl⟩
 ·intro os i hI
  obtain ⟨hi,ho⟩ := hI
  have hol : os.length = 2 * i := by rw [ho,bytesL_length,List.length_take]; omega
  refine w_seq (w_R (qo hnt rfl (s_lss rfl rfl ?_)))
  refine r_end (q_then (w_seq (w_if rfl (fun c1 => ?_) (fun c1 => ?_))))
  ·try simp only [sB] at c1
   refine w_skip (q_then (w_seq (w_block (w_seq (w_R ?_)))))
   obtain ⟨e1,he1⟩ := get_of_lt l (i := i) (by omega)
   refine qo hnt rfl (s_iaM (q := i) (b := e1) (f := enc16) tab_43 rfl tab_44 rfl rfl (by omega) rfl he1 ?_)
   refine qo hnt rfl (s_load_ro1 tab_44 rfl rfl rfl rfl ?_)
   refine qa hnt rfl rfl (r_end (q_then (w_R (qm hnt rfl rfl (qm hnt rfl rfl ?_)))))
   refine qo hnt rfl (s_shr16 (a := e1) 8 rfl rfl (by decide) ?_)
   refine qo hnt rfl (s_conv168 (a := e1 >>> UInt16.ofNat 8) tab_44 tab_5 rfl rfl rfl ?_)
   refine qm hnt rfl rfl (qo hnt rfl (s_conv168 (a := e1) tab_44 tab_5 rfl rfl rfl ?_))
   refine qo hnt rfl (s_mkM (f := enc8) [(e1 >>> UInt16.ofNat 8).toUInt8,e1.toUInt8] tab_51 rfl tab_5 ⟨rfl,by decide⟩ (by decide) rfl rfl rfl rfl ?_)
   refine qo hnt rfl (s_appR0 (f := enc8) (l := os) (xs := [(e1 >>> UInt16.ofNat 8).toUInt8,e1.toUInt8]) tab_51 rfl tab_5 ⟨rfl,by decide,by decide⟩ (srcM tab_51 rfl (hM_ref0 (f := enc8) rfl rfl)) rfl rfl (by (simp; omega)) ?_)
   refine qa hnt rfl rfl (r_set [(3,PV.ref 2 0 none),(6,pS 1 cl_l enc16 l),(7,pN l.length),(8,pN i)] [(2,oB true 1 enc8 (os ++ [(e1 >>> UInt16.ofNat 8).toUInt8,e1.toUInt8])),(1,oB true 1 enc8 [(e1 >>> UInt16.ofNat 8).toUInt8,e1.toUInt8])] 3 ⟨rfl,rfl,rfl,rfl,trivial⟩ rfl rfl (r_end (q_block (q_then (w_R ?_)))))
   refine qo hnt rfl (s_addN (a := i) (b := 1) rfl rfl (by omega) (by omega) (by omega) ?_)
   refine qm hnt rfl rfl (r_end (q_then (⟨(os ++ [(e1 >>> UInt16.ofNat 8).toUInt8,e1.toUInt8]),(i + 1), ?_, ?_,⟨[(0,2)],by rw [hk]; decide,⟨⟨_,rfl,rfl,rfl⟩,⟨_,rfl,rfl,rfl⟩,⟨_,rfl,rfl,rfl⟩,⟨_,rfl,rfl,rfl⟩,trivial⟩,⟨⟨_,_,rfl,rfl,rfl,rfl⟩,trivial⟩,by rw [hk]; decide⟩⟩)))
   ·exact ⟨by omega,by rw [bytesL_take he1,ho]⟩
   · omega
  try simp only [sB] at c1
  refine w_exit (q_then_exit (q_then_exit (q_block_exit (q_then (w_seq ?_)))))
  refine w_R (qm hnt rfl rfl (qa hnt rfl rfl (r_end (q_then (w_H (H' := [(0,oB true 1 enc8 (bytesL l))]) (congrArg (fun z => ([(0,oB true 1 enc8 z)] : Heap)) (show os = bytesL l by rw [ho,List.take_of_length_le (by omega)])) ?_)))))
  refine w_ret ?_
  exact fin_names (nx1 := 1) (H1 := [(0,oB true 1 enc8 (bytesL l))]) [(0,0)] (ret_tmp rfl ret_nil) rfl (by decide) ⟨⟨_,_,rfl,rfl,rfl,rfl⟩,trivial⟩ (by decide) rfl ⟨rfl,rfl,rfl⟩
theorem w_octet_Words (b : List UInt8) (cl_b : Bool) (hb : b.length ≤ 140737488351232) :
    T Try.prog 103 [pS 1 cl_b enc8 b] 0 [] (Ret (PV.tup [pS 1 false enc16 (wordsV b),pB (wordsOk b)]) 0 []) := by
 refine t_fun tabOk (n := 34) (rs := [.tmp 2,.tmp 3]) Try.func103 rfl rfl rfl rfl (Nat.le_of_ble_eq_true rfl) ?_
 intro c hnt hk
 refine w_seq (w_R (qa hnt rfl rfl (qa hnt rfl rfl (r_end (q_then ?_)))))
 refine w_seq (w_seq (w_R (qm hnt rfl rfl (qo hnt rfl (s_lenM (l := b) tab_51 rfl (hM_sl (f := enc8) rfl) ?_)))))
 refine qo hnt rfl (s_remN (a := b.length) (b := 2) rfl rfl (by omega) (by omega) (by omega) ?_)
 refine qo hnt rfl (s_neq rfl rfl ?_)
 refine r_end (q_then (w_if rfl (fun c1 => ?_) (fun c1 => ?_)))
 ·try simp only [sB] at c1
  have eo : wordsOk b = false := by unfold wordsOk; apply decide_eq_false; omega
  refine w_seq (w_R (qa hnt rfl rfl (qa hnt rfl rfl (r_end (q_then ?_)))))
  refine w_le (s := 2) (y := pS 1 false enc16 []) rfl (le_nilS 1 false) (w_le (s := 2) (y := pS 1 false enc16 (wordsV b)) rfl (le_of_eq (congrArg (fun z => pS 1 false enc16 z) (show ([] : List UInt16) = (wordsV b) by (simp [wordsV,eo]; done)))) (w_le (s := 3) (y := pB (wordsOk b)) rfl (le_of_eq (congrArg pB (show false = (wordsOk b) by exact eo.symm))) (w_ret (q_then_ret ?_))))
  exact fin_plain (ret_tmp rfl (ret_tmp rfl ret_nil)) rfl rfl ⟨rfl,rfl,rfl⟩
 try simp only [sB] at c1
 have hev : b.length % 2 = 0 := by omega
 have eo : wordsOk b = true := by unfold wordsOk; exact decide_eq_true hev
 refine w_skip (q_then (w_seq (w_R (qm hnt rfl rfl (qo hnt rfl (s_lenM (l := b) tab_51 rfl (hM_sl (f := enc8) rfl) ?_))))))
 refine qo hnt rfl (s_quoN (a := b.length) (b := 2) rfl rfl (by omega) (by omega) (by omega) ?_)
 refine qo hnt rfl (s_makeM (f := enc16) (bt := 2) tab_one (0 : UInt16) 0 (fun j hj => by cases hj; rfl) tab_43 rfl tab_44 ⟨rfl,by decide⟩ rfl rfl rfl (by omega) (by refine ⟨?_, ?_, ?_⟩ <;> omega) ?_)
 refine qa hnt rfl rfl (r_set [(0,pS 1 cl_b enc8 b),(4,PV.ref 0 0 none)] [(0,oB true 1 enc16 (List.replicate 0 (0 : UInt16)))] 1 ⟨rfl,rfl,trivial⟩ rfl rfl (r_end (q_then (w_seq (w_seq ?_)))))
 refine w_R (qa hnt rfl rfl (r_end (q_then (w_block (loop2 (fun (os : List UInt16) (i : Nat) => i ≤ b.length ∧ i % 2 = 0 ∧ os = wordsL (b.take i)) (fun (os : List UInt16) (i : Nat) => [(0,pS 1 cl_b enc8 b),(4,PV.ref 0 0 none),(5,pN i)]) 1 (fun (os : List UInt16) (i : Nat) => [(0,oB true 1 enc16 os)]) (fun (os : List UInt16) (i : Nat) => b.length - i) (List.replicate 0 (0 : UInt16)) (0) ?_ ⟨[(0,0)],by rw [hk]; decide,⟨⟨_,rfl,rfl,rfl⟩,⟨_,rfl,rfl,rfl⟩,⟨_,rfl,rfl,rfl⟩,trivial⟩,⟨⟨_,_,rfl,rfl,rfl,rfl⟩,trivial⟩,by rw [hk]; decide⟩ ?_)))))
 · exact ⟨Nat.zero_le _,rfl,rfl⟩
 ·intro os i hI
  obtain ⟨hi,hi2,ho⟩ := hI
  have hol : os.length = i / 2 := by rw [ho,wordsL_length,List.length_take]; omega
  refine w_seq (w_seq (w_R (qm hnt rfl rfl (qm hnt rfl rfl (qo hnt rfl (s_lenM (l := b) tab_51 rfl (hM_sl (f := enc8) rfl) ?_))))))
  refine qo hnt rfl (s_lss rfl rfl ?_)
  refine r_end (q_then (w_if rfl (fun c2 => ?_) (fun c2 => ?_)))
  ·try simp only [sB] at c2
   refine w_skip (q_then (w_seq (w_block (w_seq (w_R ?_)))))
   refine qm hnt rfl rfl (qm hnt rfl rfl (qo hnt rfl (s_callF rfl rfl rfl (w_octet_Get b cl_b ((i : Nat) : Int) (by omega) (by omega)) rfl ?_)))
   refine qm hnt rfl rfl (qo hnt rfl (s_extract rfl rfl ?_))
   refine qo hnt rfl (s_extract rfl rfl ?_)
   refine qa hnt rfl rfl (qa hnt rfl rfl (r_end (q_then ?_)))
   have hgo : getOk b (i : Int) = true := by unfold getOk; apply decide_eq_true; omega
   have hgv0 : getV b (i : Int) = (getN b i : Int) := by rw [getV,if_pos hgo,Int.toNat_natCast]
   refine w_eq (s := 6) (y := pN (getN b i)) rfl (congrArg pI (show (getV b ((i : Nat) : Int)) = ((getN b i : Nat) : Int) by exact hgv0)) ?_
   have hgv : UInt16.ofNat (getN b i) = UInt16.ofNat (getN b i) := rfl
   refine w_R (qm hnt rfl rfl (qm hnt rfl rfl (qo hnt rfl (s_cv16N (a := getN b i) tab_3 tab_44 rfl rfl rfl (by omega) ?_))))
   refine qo hnt rfl (s_mkM (f := enc16) [UInt16.ofNat (getN b i)] tab_43 rfl tab_44 ⟨rfl,by decide⟩ (by decide) rfl rfl rfl rfl ?_)
   refine qo hnt rfl (s_appR0 (f := enc16) (l := os) (xs := [UInt16.ofNat (getN b i)]) tab_43 rfl tab_44 ⟨rfl,by decide,by decide⟩ (srcM tab_43 rfl (hM_ref0 (f := enc16) rfl rfl)) rfl rfl (by (simp; omega)) ?_)
   refine qa hnt rfl rfl (r_set [(0,pS 1 cl_b enc8 b),(4,PV.ref 2 0 none),(5,pN i)] [(2,oB true 1 enc16 (os ++ [UInt16.ofNat (getN b i)])),(1,oB true 1 enc16 [UInt16.ofNat (getN b i)])] 3 ⟨rfl,rfl,rfl,trivial⟩ rfl rfl (r_end (q_block (q_then (w_R ?_)))))
   refine qm hnt rfl rfl (qo hnt rfl (s_addN (a := i) (b := 2) rfl rfl (by omega) (by omega) (by omega) ?_))
   refine qa hnt rfl rfl (r_end (q_then (⟨(os ++ [UInt16.ofNat (getN b i)]),(i + 2), ?_, ?_,⟨[(0,2)],by rw [hk]; decide,⟨⟨_,rfl,rfl,rfl⟩,⟨_,rfl,rfl,rfl⟩,⟨_,rfl,rfl,rfl⟩,trivial⟩,⟨⟨_,_,rfl,rfl,rfl,rfl⟩,trivial⟩,by rw [hk]; decide⟩⟩)))
   ·obtain ⟨x,hx⟩ := get_of_lt b (i := i) (by omega)
    obtain ⟨y,hy⟩ := get_of_lt b (i := i + 1) (by omega)
    refine ⟨by omega,by omega, ?_⟩
    rw [wordsL_take hi2 hx hy,ho,← w16_of,← getN_of hx hy,hgv]
   · omega
  try simp only [sB] at c2
  refine w_exit (q_then_exit (q_then_exit (q_block_exit (q_then (w_seq ?_)))))
  refine w_R (qm hnt rfl rfl (qa hnt rfl rfl (qa hnt rfl rfl (r_end (q_then ?_)))))
  refine w_frzM (s := 2) (f := enc16) rfl rfl view_0 (w_le (s := 2) (y := pS 1 false enc16 (wordsV b)) rfl (le_of_eq (congrArg (fun z => pS 1 false enc16 z) (show os = (wordsV b) by rw [wordsV,if_pos eo,ho,List.take_of_length_le (by omega)]))) (w_le (s := 3) (y := pB (wordsOk b)) rfl (le_of_eq (congrArg pB (show true = (wordsOk b) by exact eo.symm))) (w_ret ?_)))
  exact fin_plain (ret_tmp rfl (ret_tmp rfl ret_nil)) rfl rfl ⟨rfl,rfl,rfl⟩
theorem w_burgageref1_Words (b : List UInt8) (cl_b : Bool) (hb : b.length ≤ 140737488351232) :
    T Try.prog 107 [pS 1 cl_b enc8 b] 0 [] (Ret (PV.tup [pS 1 false enc16 (wordsV b),pB (wordsOk b)]) 0 []) := by
 refine t_fun tabOk (n := 33) (rs := [.tmp 2,.tmp 3]) Try.func107 rfl rfl rfl rfl (Nat.le_of_ble_eq_true rfl) ?_
 intro c hnt hk
 refine w_seq (w_R (qa hnt rfl rfl (qa hnt rfl rfl (r_end (q_then ?_)))))
 refine w_seq (w_seq (w_R (qm hnt rfl rfl (qo hnt rfl (s_lenM (l := b) tab_51 rfl (hM_sl (f := enc8) rfl) ?_)))))
 refine qo hnt rfl (s_remN (a := b.length) (b := 2) rfl rfl (by omega) (by omega) (by omega) ?_)
 refine qo hnt rfl (s_neq rfl rfl ?_)
 refine r_end (q_then (w_if rfl (fun c1 => ?_) (fun c1 => ?_)))
 ·try simp only [sB] at c1
  have eo : wordsOk b = false := by unfold wordsOk; apply decide_eq_false; omega
  refine w_seq (w_R (qa hnt rfl rfl (qa hnt rfl rfl (r_end (q_then ?_)))))
  refine w_le (s := 2) (y := pS 1 false enc16 []) rfl (le_nilS 1 false) (w_le (s := 2) (y := pS 1 false enc16 (wordsV b)) rfl (le_of_eq (congrArg (fun z => pS 1 false enc16 z) (show ([] : List UInt16) = (wordsV b) by (simp [wordsV,eo]; done)))) (w_le (s := 3) (y := pB (wordsOk b)) rfl (le_of_eq (congrArg pB (show false = (wordsOk b) by exact eo.symm))) (w_ret (q_then_ret ?_))))
  exact fin_plain (ret_tmp rfl (ret_tmp rfl ret_nil)) rfl rfl ⟨rfl,rfl,rfl⟩
 try simp only [sB] at c1
 have hev : b.length % 2 = 0 := by omega
 have eo : wordsOk b = true := by unfold wordsOk; exact decide_eq_true hev
 refine w_skip (q_then (w_seq (w_R (qa hnt rfl rfl (r_end ?_)))))
 refine q_then (w_seq (w_seq (w_R (qa hnt rfl rfl (r_end ?_)))))
 refine q_then (w_block (w_adopt (s := 4) (sz := 1) rfl (loop2 (fun (os : List UInt16) (i : Nat) => i ≤ b.length ∧ i % 2 = 0 ∧ os = wordsL (b.take i)) (fun (os : List UInt16) (i : Nat) => [(0,pS 1 cl_b enc8 b),(4,PV.ref 0 0 none),(5,pN i)]) 1 (fun (os : List UInt16) (i : Nat) => [(0,oB true 1 enc16 os)]) (fun (os : List UInt16) (i : Nat) => b.length - i) (([] : List UInt16)) (0) ?_ ⟨[(0,0)],by rw [hk]; decide,⟨⟨_,rfl,rfl,rfl⟩,⟨_,rfl,rfl,rfl⟩,⟨_,rfl,rfl,rfl⟩,trivial⟩,⟨⟨_,_,rfl,rfl,rfl,rfl⟩,trivial⟩,by rw [hk]; decide⟩ ?_)))
 · exact ⟨Nat.zero_le _,rfl,rfl⟩
 ·intro os i hI
  obtain ⟨hi,hi2,ho⟩ := hI
  have hol : os.length = i / 2 := by rw [ho,wordsL_length,List.length_take]; omega
  refine w_seq (w_seq (w_R (qm hnt rfl rfl (qm hnt rfl rfl (qo hnt rfl (s_lenM (l := b) tab_51 rfl (hM_sl (f := enc8) rfl) ?_))))))
  refine qo hnt rfl (s_lss rfl rfl ?_)
  refine r_end (q_then (w_if rfl (fun c2 => ?_) (fun c2 => ?_)))
  ·try simp only [sB] at c2
   refine w_skip (q_then (w_seq (w_block (W_drawn tabOk mixed hnt [[],[],[],[1,2],[1,2,3],[1,2,3,4],[1,2,3,4,5],[],[],[8],[7,8,9],[7,8,9,10],[7,8,9,10,11],[1,2,3,4,5,6,7,8,9,10,11,12],[1,2,3,4,5,6,7,8,9,10,11,12,13],(.range 15),(.range 16)] (by kernel_rfl) (d_op ?_)))))
   refine x_run0 [(4,PV.ref 0 0 none)] [] rfl rfl rfl rfl (s_move rfl ⟨rfl,rfl,rfl⟩) (d_op (x_run0 [(0,pS 1 cl_b enc8 b)] [] rfl rfl rfl rfl (s_move rfl ⟨rfl,rfl,rfl⟩) (d_op (x_run0 [(5,pN i)] [] rfl rfl rfl rfl (s_move rfl ⟨rfl,rfl,rfl⟩) (d_op ?_)))))
   obtain ⟨e1,he1⟩ := get_of_lt b (i := i) (by omega)
   refine x_run0 [(17,pS 1 cl_b enc8 b),(18,pN i)] [1,2] rfl rfl rfl rfl (s_iaM (q := i) (b := e1) (f := enc8) tab_51 rfl tab_5 rfl rfl (by omega) rfl he1 ⟨rfl,rfl,rfl⟩) (d_op (x_run0 [(19,PV.f (.ro (enc8 e1)))] [1,2,3] rfl rfl rfl rfl (s_load_ro1 tab_5 rfl rfl rfl rfl ⟨rfl,rfl,rfl⟩) (d_op (x_run0 [(20,p8 e1)] [1,2,3,4] rfl rfl rfl rfl (s_conv816 (a := e1) tab_5 tab_44 rfl rfl rfl ⟨rfl,rfl,rfl⟩) (d_op ?_)))))
   refine x_run0 [(21,p16 e1.toUInt16)] [1,2,3,4,5] rfl rfl rfl rfl (s_shl16 (a := e1.toUInt16) 8 rfl rfl (by decide) ⟨rfl,rfl,rfl⟩) (d_op (x_run0 [(0,pS 1 cl_b enc8 b)] [] rfl rfl rfl rfl (s_move rfl ⟨rfl,rfl,rfl⟩) (d_op (x_run0 [(5,pN i)] [] rfl rfl rfl rfl (s_move rfl ⟨rfl,rfl,rfl⟩) (d_op ?_)))))
   refine x_run0 [(24,pN i)] [8] rfl rfl rfl rfl (s_addN (a := i) (b := 1) rfl rfl (by omega) (by omega) (by omega) ⟨rfl,rfl,rfl⟩) (d_op ?_)
   obtain ⟨e2,he2⟩ := get_of_lt b (i := i + 1) (by omega)
   refine x_run0 [(23,pS 1 cl_b enc8 b),(25,pN (i + 1))] [7,8,9] rfl rfl rfl rfl (s_iaM (q := i + 1) (b := e2) (f := enc8) tab_51 rfl tab_5 rfl rfl (by omega) rfl he2 ⟨rfl,rfl,rfl⟩) (d_op (x_run0 [(26,PV.f (.ro (enc8 e2)))] [7,8,9,10] rfl rfl rfl rfl (s_load_ro1 tab_5 rfl rfl rfl rfl ⟨rfl,rfl,rfl⟩) (d_op (x_run0 [(27,p8 e2)] [7,8,9,10,11] rfl rfl rfl rfl (s_conv816 (a := e2) tab_5 tab_44 rfl rfl rfl ⟨rfl,rfl,rfl⟩) (d_op ?_)))))
   refine x_run0 [(22,p16 (e1.toUInt16 <<< UInt16.ofNat 8)),(28,p16 e2.toUInt16)] [1,2,3,4,5,6,7,8,9,10,11,12] rfl rfl rfl rfl (s_or16 (a := e1.toUInt16 <<< UInt16.ofNat 8) (b := e2.toUInt16) rfl rfl ⟨rfl,rfl,rfl⟩) (d_op (xT [(29,p16 ((e1.toUInt16 <<< UInt16.ofNat 8) ||| e2.toUInt16))] [1,2,3,4,5,6,7,8,9,10,11,12,13] [] [(1,oB true 1 enc16 [(e1.toUInt16 <<< UInt16.ofNat 8) ||| e2.toUInt16])] [(0,oB true 1 enc16 os)] rfl rfl rfl rfl rfl (s_mkM (f := enc16) [(e1.toUInt16 <<< UInt16.ofNat 8) ||| e2.toUInt16] tab_43 rfl tab_44 ⟨rfl,by decide⟩ (by decide) rfl rfl rfl rfl ⟨rfl,rfl,rfl⟩) rfl rfl (d_op (x_run [(16,PV.ref 0 0 none),(30,PV.ref 1 0 none)] (.range 15) [(1,oB true 1 enc16 [(e1.toUInt16 <<< UInt16.ofNat 8) ||| e2.toUInt16])] [(0,oB true 1 enc16 os)] [(2,oB true 1 enc16 (os ++ [(e1.toUInt16 <<< UInt16.ofNat 8) ||| e2.toUInt16])),(1,oB true 1 enc16 [(e1.toUInt16 <<< UInt16.ofNat 8) ||| e2.toUInt16])] [(2,oB true 1 enc16 (os ++ [(e1.toUInt16 <<< UInt16.ofNat 8) ||| e2.toUInt16]))] [(2,oB true 1 enc16 (os ++ [(e1.toUInt16 <<< UInt16.ofNat 8) ||| e2.toUInt16])),(1,oB true 1 enc16 [(e1.toUInt16 <<< UInt16.ofNat 8) ||| e2.toUInt16])] rfl rfl rfl rfl rfl rfl (s_appR0 (f := enc16) (l := os) (xs := [(e1.toUInt16 <<< UInt16.ofNat 8) ||| e2.toUInt16]) tab_43 rfl tab_44 ⟨rfl,by decide,by decide⟩ (srcM tab_43 rfl (hM_ref0 (f := enc16) rfl rfl)) rfl rfl (by (simp; omega)) ⟨rfl,rfl,rfl⟩) rfl ⟨rfl,trivial⟩ rfl rfl (d_op ?_)))))
   refine x_run0 [(31,PV.ref 2 0 none)] (.range 16) rfl rfl rfl rfl (s_assign rfl ⟨rfl,rfl,rfl⟩) (d_end ⟨by kernel_rfl, ?_⟩)
   refine q_block (q_then (w_R (qm hnt rfl rfl (qo hnt rfl (s_addN (a := i) (b := 2) rfl rfl (by omega) (by omega) (by omega) ?_)))))
   refine qa hnt rfl rfl (r_end (q_then (⟨(os ++ [(e1.toUInt16 <<< UInt16.ofNat 8) ||| e2.toUInt16]),(i + 2), ?_, ?_,⟨[(0,2)],by rw [hk]; decide,⟨⟨_,rfl,rfl,rfl⟩,⟨_,rfl,rfl,rfl⟩,⟨_,rfl,rfl,rfl⟩,trivial⟩,⟨⟨_,_,rfl,rfl,rfl,rfl⟩,trivial⟩,by rw [hk]; decide⟩⟩)))
   ·refine ⟨by omega,by omega, ?_⟩
    rw [wordsL_take hi2 he1 he2,ho]; rfl
   · omega
  try simp only [sB] at c2
  refine w_exit (q_then_exit (q_then_exit (q_block_exit (q_then (w_seq ?_)))))
  refine w_R (qm hnt rfl rfl (qa hnt rfl rfl (qa hnt rfl rfl (r_end (q_then ?_)))))
  refine w_frzM (s := 2) (f := enc16) rfl rfl view_0 (w_le (s := 2) (y := pS 1 false enc16 (wordsV b)) rfl (le_of_eq (congrArg (fun z => pS 1 false enc16 z) (show os = (wordsV b) by rw [wordsV,if_pos eo,ho,List.take_of_length_le (by omega)]))) (w_le (s := 3) (y := pB (wordsOk b)) rfl (le_of_eq (congrArg pB (show true = (wordsOk b) by exact eo.symm))) (w_ret ?_)))
  exact fin_plain (ret_tmp rfl (ret_tmp rfl ret_nil)) rfl rfl ⟨rfl,rfl,rfl⟩
theorem w_burgageref1_Open_s (b : List UInt8) (cl_b : Bool) (n : Int) (hb : b.length ≤ 140737488355328) (hn : n ≤ 140737488351232) :
    T Try.prog 98 [pS 1 cl_b enc8 b,pI n] 0 [] (Ret (PV.tup [pS 1 false encBo (bopV b n),pB (bopOk b n)]) 0 []) := by
 refine t_fun tabOk (n := 53) (rs := [.tmp 4,.tmp 5]) Try.func98 rfl rfl rfl rfl (Nat.le_of_ble_eq_true rfl) ?_
 intro c hnt hk
 refine w_seq (w_R (qa hnt rfl rfl (qa hnt rfl rfl (r_end (q_then ?_)))))
 refine w_seq (w_seq (w_R (qm hnt rfl rfl (qo hnt rfl (s_lss rfl rfl ?_)))))
 refine qm hnt rfl rfl (r_if tabOk hnt rfl rfl rfl (fun g1 => ?_) (fun g1 => ?_))
 ·have g1' := g1
  try simp only [sB] at g1'
  obtain ⟨kn,hkn⟩ : ∃ kn : Nat,n = (kn : Int) := ⟨n.toNat,by omega⟩
  refine r_eq (s := 1) (y := pN kn) rfl (congrArg pI (show n = ((kn : Nat) : Int) by exact hkn)) (qm hnt rfl rfl (ry hnt rfl rfl rfl g1 (qm hnt rfl rfl (ry hnt rfl rfl rfl g1 (qo hnt rfl (s_lenM (l := b) tab_51 rfl (hM_sl (f := enc8) rfl) ?_))))))
  refine ry hnt rfl rfl rfl g1 (qo hnt rfl (s_mulN (a := 8) (b := b.length) rfl rfl (by omega) (by omega) (by omega) ?_))
  refine ry hnt rfl rfl rfl g1 (qo hnt rfl (s_gtr rfl rfl ?_))
  refine qo hnt rfl (s_pick_f rfl g1 rfl ?_)
  refine qm hnt rfl rfl (r_if tabOk hnt rfl rfl rfl (fun g2 => ?_) (fun g2 => ?_))
  ·have g2' := g2
   try simp only [sB] at g2'
   refine qm hnt rfl rfl (ry hnt rfl rfl rfl g2 (qo hnt rfl (s_lenM (l := b) tab_51 rfl (hM_sl (f := enc8) rfl) ?_)))
   refine ry hnt rfl rfl rfl g2 (qm hnt rfl rfl (ry hnt rfl rfl rfl g2 (qo hnt rfl (s_addN (a := kn) (b := 7) rfl rfl (by omega) (by omega) (by omega) ?_))))
   refine ry hnt rfl rfl rfl g2 (qo hnt rfl (s_quoN (a := kn + 7) (b := 8) rfl rfl (by omega) (by omega) (by omega) ?_))
   refine ry hnt rfl rfl rfl g2 (qo hnt rfl (s_neq rfl rfl ?_))
   refine qo hnt rfl (s_pick_f rfl g2 rfl ?_)
   refine r_end (q_then (w_if rfl (fun c1 => ?_) (fun c1 => ?_)))
   ·try simp only [sB] at c1
    have eo : bopOk b n = false := bopOk_no (by omega)
    refine w_seq (w_R (qa hnt rfl rfl (qa hnt rfl rfl (r_end (q_then ?_)))))
    refine w_le (s := 4) (y := pS 1 false encBo []) rfl (le_nilS 1 false) (w_le (s := 4) (y := pS 1 false encBo (bopV b n)) rfl (le_of_eq (congrArg (fun z => pS 1 false encBo z) (show ([] : List Bool) = (bopV b n) by (simp [bopV,eo]; done)))) (w_le (s := 5) (y := pB (bopOk b n)) rfl (le_of_eq (congrArg pB (show false = (bopOk b n) by exact eo.symm))) (w_ret (q_then_ret ?_))))
    exact fin_plain (ret_tmp rfl (ret_tmp rfl ret_nil)) rfl rfl ⟨rfl,rfl,rfl⟩
   try simp only [sB] at c1
   have hlen : (kn + 7) / 8 = b.length := by omega
   have hbd : kn ≤ 8 * b.length := by omega
   refine w_skip (q_then (w_seq (w_R (qa hnt rfl rfl (r_end ?_)))))
   refine q_then (w_seq (w_seq (w_R (qa hnt rfl rfl (r_end ?_)))))
   refine q_then (w_block (w_adopt (s := 6) (sz := 1) rfl (loop2 (fun (os : List Bool) (i : Nat) => i ≤ 8 * b.length ∧ os = (List.range (min i kn)).map (bitOf b) ∧ ∀ j,j < i → kn ≤ j → bitOf b j = false) (fun (os : List Bool) (i : Nat) => [(0,pS 1 cl_b enc8 b),(1,pN kn),(6,PV.ref 0 0 none),(7,pN i)]) 1 (fun (os : List Bool) (i : Nat) => [(0,oB true 1 encBo os)]) (fun (os : List Bool) (i : Nat) => 8 * b.length - i) (([] : List Bool)) (0) ?_ ⟨[(0,0)],by rw [hk]; decide,⟨⟨_,rfl,rfl,rfl⟩,⟨_,rfl,rfl,rfl⟩,⟨_,rfl,rfl,rfl⟩,⟨_,rfl,rfl,rfl⟩,trivial⟩,⟨⟨_,_,rfl,rfl,rfl,rfl⟩,trivial⟩,by rw [hk]; decide⟩ ?_)))
   · exact ⟨Nat.zero_le _,by simp,fun j hj => by omega⟩
   ·intro os i hI
    obtain ⟨hi,ho,hz⟩ := hI
    have hol : os.length ≤ i := by rw [ho]; simp; omega
    refine w_seq (w_seq (w_R (qm hnt rfl rfl (qm hnt rfl rfl (qo hnt rfl (s_lenM (l := b) tab_51 rfl (hM_sl (f := enc8) rfl) ?_))))))
    refine qo hnt rfl (s_mulN (a := 8) (b := b.length) rfl rfl (by omega) (by omega) (by omega) ?_)
    refine qo hnt rfl (s_lss rfl rfl ?_)
    refine r_end (q_then (w_if rfl (fun c2 => ?_) (fun c2 => ?_)))
    ·try simp only [sB] at c2
     refine w_skip (q_then (w_seq (w_block (w_seq (w_R ?_)))))
     refine qm hnt rfl rfl (qm hnt rfl rfl (qo hnt rfl (s_quoN (a := i) (b := 8) rfl rfl (by omega) (by omega) (by omega) ?_)))
     obtain ⟨e1,he1⟩ := get_of_lt b (i := i / 8) (by omega)
     refine qo hnt rfl (s_iaM (q := i / 8) (b := e1) (f := enc8) tab_51 rfl tab_5 rfl rfl (by omega) rfl he1 ?_)
     refine qo hnt rfl (s_load_ro1 tab_5 rfl rfl rfl rfl ?_)
     refine qm hnt rfl rfl (qo hnt rfl (s_remN (a := i) (b := 8) rfl rfl (by omega) (by omega) (by omega) ?_))
     refine qo hnt rfl (s_cvK tab_3 tab_62 rfl rfl rfl rfl (by exact ⟨by omega,by show _ < (18446744073709551616 : Int); omega⟩) ?_)
     refine qo hnt rfl (s_shr8 (a := e1) (i % 8) rfl rfl (by rfl) (by omega) ?_)
     refine qo hnt rfl (s_and8 (a := e1 >>> UInt8.ofNat (i % 8)) (b := 1) rfl rfl ?_)
     refine qo hnt rfl (s_eql8 (a := (e1 >>> UInt8.ofNat (i % 8)) &&& 1) (b := 1) rfl rfl ?_)
     refine qa hnt rfl rfl (r_end (q_then (w_seq (w_R (qm hnt rfl rfl ?_)))))
     refine qm hnt rfl rfl (qo hnt rfl (s_lss rfl rfl ?_))
     refine r_end (q_then (w_if rfl (fun c3 => ?_) (fun c3 => ?_)))
     ·try simp only [sB] at c3
      refine w_R (qm hnt rfl rfl (qm hnt rfl rfl (qo hnt rfl (s_mkM (f := encBo) [decide ((e1 >>> UInt8.ofNat (i % 8)) &&& 1 = 1)] tab_42 rfl tab_4 ⟨rfl,by decide⟩ (by decide) rfl rfl rfl rfl ?_))))
      refine qo hnt rfl (s_appR0 (f := encBo) (l := os) (xs := [decide ((e1 >>> UInt8.ofNat (i % 8)) &&& 1 = 1)]) tab_42 rfl tab_4 ⟨rfl,by decide,by decide⟩ (srcM tab_42 rfl (hM_ref0 (f := encBo) rfl rfl)) rfl rfl (by (simp; omega)) ?_)
      refine qa hnt rfl rfl (r_set [(0,pS 1 cl_b enc8 b),(1,pN kn),(6,PV.ref 2 0 none),(7,pN i)] [(2,oB true 1 encBo (os ++ [decide ((e1 >>> UInt8.ofNat (i % 8)) &&& 1 = 1)])),(1,oB true 1 encBo [decide ((e1 >>> UInt8.ofNat (i % 8)) &&& 1 = 1)])] 3 ⟨rfl,rfl,rfl,rfl,trivial⟩ rfl rfl (r_end (q_block (q_then (w_R ?_)))))
      refine qm hnt rfl rfl (qo hnt rfl (s_addN (a := i) (b := 1) rfl rfl (by omega) (by omega) (by omega) ?_))
      refine qa hnt rfl rfl (r_end (q_then (⟨(os ++ [decide ((e1 >>> UInt8.ofNat (i % 8)) &&& 1 = 1)]),(i + 1), ?_, ?_,⟨[(0,2)],by rw [hk]; decide,⟨⟨_,rfl,rfl,rfl⟩,⟨_,rfl,rfl,rfl⟩,⟨_,rfl,rfl,rfl⟩,⟨_,rfl,rfl,rfl⟩,trivial⟩,⟨⟨_,_,rfl,rfl,rfl,rfl⟩,trivial⟩,by rw [hk]; decide⟩⟩)))
      ·(refine ⟨by omega, ?_,fun j hj hn => hz j (by omega) hn⟩; rw [show min (i + 1) kn = i + 1 by omega,bits_snoc,bitOf_of he1,ho,show min i kn = i by omega])
      · omega
     try simp only [sB] at c3
     refine w_seq (w_R (qm hnt rfl rfl (r_end (q_then (w_if rfl (fun c4 => ?_) (fun c4 => ?_))))))
     ·have c4_ := c4
      try simp only [sB] at c4
      have hbi : bitOf b i = true := by rw [bitOf_of he1]; simpa using c4_
      have eo : bopOk b n = false := by rw [hkn,bopOk_nat ⟨hbd,hlen⟩]; exact decide_eq_false fun h => by rw [h i (by omega) (by omega)] at hbi; cases hbi
      refine w_seq (w_R (qa hnt rfl rfl (qa hnt rfl rfl (r_end (q_then ?_)))))
      refine w_le (s := 4) (y := pS 1 false encBo []) rfl (le_nilS 1 false) (w_le (s := 4) (y := pS 1 false encBo (bopV b n)) rfl (le_of_eq (congrArg (fun z => pS 1 false encBo z) (show ([] : List Bool) = (bopV b n) by (simp [bopV,eo]; done)))) (w_le (s := 5) (y := pB (bopOk b n)) rfl (le_of_eq (congrArg pB (show false = (bopOk b n) by exact eo.symm))) (w_ret (q_block_ret (q_then_ret ?_)))))
      refine q_then_ret (q_block_ret (q_then_ret ?_))
      exact fin_plain (ret_tmp rfl (ret_tmp rfl ret_nil)) rfl rfl ⟨rfl,rfl,rfl⟩
     have c4_ := c4
     try simp only [sB] at c4
     have hbi : bitOf b i = false := by rw [bitOf_of he1]; simpa using c4_
     refine w_skip (q_block (q_then (w_R (qm hnt rfl rfl (qo hnt rfl (s_addN (a := i) (b := 1) rfl rfl (by omega) (by omega) (by omega) ?_))))))
     refine qa hnt rfl rfl (r_end (q_then (⟨(os),(i + 1), ?_, ?_,⟨[(0,0)],by rw [hk]; decide,⟨⟨_,rfl,rfl,rfl⟩,⟨_,rfl,rfl,rfl⟩,⟨_,rfl,rfl,rfl⟩,⟨_,rfl,rfl,rfl⟩,trivial⟩,⟨⟨_,_,rfl,rfl,rfl,rfl⟩,trivial⟩,by rw [hk]; decide⟩⟩)))
     ·(refine ⟨by omega,by rw [ho,show min (i + 1) kn = min i kn by omega],fun j hj hn => ?_⟩; by_cases hji : j < i; exact hz j hji hn; obtain rfl : j = i := (by omega); exact hbi)
     · omega
    try simp only [sB] at c2
    have hoe : os = (List.range kn).map (bitOf b) := by rw [ho,show min i kn = kn by omega]
    have eo : bopOk b n = true := by rw [hkn,bopOk_nat ⟨hbd,hlen⟩]; exact decide_eq_true fun j hj hn => hz j (by omega) hn
    refine w_exit (q_then_exit (q_then_exit (q_block_exit (q_then (w_seq ?_)))))
    refine w_R (qm hnt rfl rfl (qa hnt rfl rfl (qa hnt rfl rfl (r_end (q_then ?_)))))
    refine w_frzM (s := 4) (f := encBo) rfl rfl view_0 (w_le (s := 4) (y := pS 1 false encBo (bopV b n)) rfl (le_of_eq (congrArg (fun z => pS 1 false encBo z) (show os = (bopV b n) by (rw [hkn,bopV_nat (by rw [← hkn]; exact eo),hoe])))) (w_le (s := 5) (y := pB (bopOk b n)) rfl (le_of_eq (congrArg pB (show true = (bopOk b n) by exact eo.symm))) (w_ret ?_)))
    exact fin_plain (ret_tmp rfl (ret_tmp rfl ret_nil)) rfl rfl ⟨rfl,rfl,rfl⟩
  have g2' := g2
  try simp only [sB] at g2'
  have eo : bopOk b n = false := bopOk_no (by omega)
  refine rn hnt rfl rfl rfl g2 (rn hnt rfl rfl rfl g2 (rn hnt rfl rfl rfl g2 (rn hnt rfl rfl rfl g2 (rn hnt rfl rfl rfl g2 (qo hnt rfl (s_pick_t rfl g2 rfl ?_))))))
  refine r_end (q_then (w_if rfl (fun _ => ?_) (fun e => absurd e (by decide))))
  refine w_seq (w_R (qa hnt rfl rfl (qa hnt rfl rfl (r_end (q_then ?_)))))
  refine w_le (s := 4) (y := pS 1 false encBo []) rfl (le_nilS 1 false) (w_le (s := 4) (y := pS 1 false encBo (bopV b n)) rfl (le_of_eq (congrArg (fun z => pS 1 false encBo z) (show ([] : List Bool) = (bopV b n) by (simp [bopV,eo]; done)))) (w_le (s := 5) (y := pB (bopOk b n)) rfl (le_of_eq (congrArg pB (show false = (bopOk b n) by exact eo.symm))) (w_ret (q_then_ret ?_))))
  exact fin_plain (ret_tmp rfl (ret_tmp rfl ret_nil)) rfl rfl ⟨rfl,rfl,rfl⟩
 have g1' := g1
 try simp only [sB] at g1'
 have eo : bopOk b n = false := bopOk_no (by omega)
 refine rn hnt rfl rfl rfl g1 (rn hnt rfl rfl rfl g1 (rn hnt rfl rfl rfl g1 (rn hnt rfl rfl rfl g1 (qo hnt rfl (s_pick_t rfl g1 rfl ?_)))))
 refine qm hnt rfl rfl (rn hnt rfl rfl rfl rfl (rn hnt rfl rfl rfl rfl (rn hnt rfl rfl rfl rfl (rn hnt rfl rfl rfl rfl (rn hnt rfl rfl rfl rfl ?_)))))
 refine rn hnt rfl rfl rfl rfl (qo hnt rfl (s_pick_t rfl rfl rfl ?_))
 refine r_end (q_then (w_if rfl (fun _ => ?_) (fun e => absurd e (by decide))))
 refine w_seq (w_R (qa hnt rfl rfl (qa hnt rfl rfl (r_end (q_then ?_)))))
 refine w_le (s := 4) (y := pS 1 false encBo []) rfl (le_nilS 1 false) (w_le (s := 4) (y := pS 1 false encBo (bopV b n)) rfl (le_of_eq (congrArg (fun z => pS 1 false encBo z) (show ([] : List Bool) = (bopV b n) by (simp [bopV,eo]; done)))) (w_le (s := 5) (y := pB (bopOk b n)) rfl (le_of_eq (congrArg pB (show false = (bopOk b n) by exact eo.symm))) (w_ret (q_then_ret ?_))))
 exact fin_plain (ret_tmp rfl (ret_tmp rfl ret_nil)) rfl rfl ⟨rfl,rfl,rfl⟩
end Go.Proofs.Ytljkbpgcglomfaa
set_option linter.unusedVariables false
namespace Go.Proofs.Ytljkbpgcglomfaa
open Go Go.Proofs.Ytljkbpgcglomfaa.Pv
def hasF (n : Int) : Bool := decide ((1 ≤ n ∧ n ≤ 6) ∨ n = 8 ∨ n = 15 ∨ n = 16 ∨ n = 17 ∨ n = 22 ∨ n = 23)
theorem hasF_of {n : Int} (h : hasF n = true) : n = 1 ∨ n = 2 ∨ n = 3 ∨ n = 4 ∨ n = 5 ∨ n = 6 ∨ n = 8 ∨ n = 15 ∨ n = 16 ∨ n = 17 ∨ n = 22 ∨ n = 23 := by
  have := of_decide_eq_true h; omega
def wordOk (n : Int) : Bool := decide (0 ≤ n ∧ n ≤ 65535)
def usesS (n : Int) : List UInt8 := if n = 1 ∨ n = 2 ∨ n = 3 ∨ n = 4 then [97,99] else if n = 5 then [97,98] else if n = 6 then [97,118] else if n = 8 then [115,118] else if n = 15 then [97,99,98] else if n = 16 then [97,99,118] else if n = 22 then [97,109] else if n = 23 then [97,99,119,118] else []
theorem usesS_len (n : Int) : (usesS n).length ≤ 4 := by
  unfold usesS
  repeat' split
  all_goals simp
def inS (s : List UInt8) (c : UInt8) : Bool := decide (c ∈ s)
def listsR (q : TRequest) : Bool :=
  if q.fn = 5 then decide (q.bits.length = 1) else if q.fn = 6 ∨ q.fn = 8 then decide (q.vals.length = 1) else if q.fn = 15 then decide ((q.bits.length : Int) = q.count ∧ q.bits.length ≤ 2040)
  else if q.fn = 16 then decide ((q.vals.length : Int) = q.count ∧ q.vals.length ≤ 127) else if q.fn = 23 then decide (q.vals.length ≤ 127) else true
def badA (r : TRequest) : Bool := (((((((!(inS (usesS r.fn) 97)) && (!decide (r.at_ = 0))) || ((!(inS (usesS r.fn) 99)) && (!decide (r.count = 0)))) || ((!(inS (usesS r.fn) 119)) && (!decide (r.wAt = 0)))) || ((!(inS (usesS r.fn) 115)) && (!decide (r.sub = 0)))) || ((!(inS (usesS r.fn) 98)) && (decide (0 < ((r.bits.length : Nat) : Int))))) || ((!(inS (usesS r.fn) 118)) && (decide (0 < ((r.vals.length : Nat) : Int))))) || ((!(inS (usesS r.fn) 109)) && ((!decide (r.and_ = 0)) || (!decide (r.or_ = 0))))
def badB (r : TRequest) : Bool := ((((!(wordOk r.at_)) || (!(wordOk r.count))) || (!(wordOk r.wAt))) || (!(wordOk r.sub))) || (!(listsR r))
def rightR (q : TRequest) : Int := if (!(hasF q.fn)) = true then 15 else if badA q = true then 12 else if badB q = true then 12 else 0
theorem rightR_1 {q : TRequest} (h : (!(hasF q.fn)) = true) : rightR q = 15 := by unfold rightR; rw [if_pos h]
theorem rightR_2 {q : TRequest} (h : (!(hasF q.fn)) = false) (h2 : badA q = true) : rightR q = 12 := by unfold rightR; rw [if_neg (by simp [h]),if_pos h2]
theorem rightR_3 {q : TRequest} (h : (!(hasF q.fn)) = false) (h2 : badA q = false) (h3 : badB q = true) : rightR q = 12 := by unfold rightR; rw [if_neg (by simp [h]),if_neg (by simp [h2]),if_pos h3]
theorem rightR_4 {q : TRequest} (h : (!(hasF q.fn)) = false) (h2 : badA q = false) (h3 : badB q = false) : rightR q = 0 := by unfold rightR; rw [if_neg (by simp [h]),if_neg (by simp [h2]),if_neg (by simp [h3])]
theorem in_all {n : Int} (h : hasF n = true) : inS (usesS n) 97 = decide (n ≠ 8 ∧ n ≠ 17) ∧ inS (usesS n) 99 = decide (n ≤ 4 ∨ n = 15 ∨ n = 16 ∨ n = 23) ∧ inS (usesS n) 119 = decide (n = 23) ∧ inS (usesS n) 115 = decide (n = 8) ∧
    inS (usesS n) 98 = decide (n = 5 ∨ n = 15) ∧ inS (usesS n) 118 = decide (n = 6 ∨ n = 8 ∨ n = 16 ∨ n = 23) ∧ inS (usesS n) 109 = decide (n = 22) := by
  rcases hasF_of h with h|h|h|h|h|h|h|h|h|h|h|h <;> subst h <;> decide
theorem u16z {x : UInt16} : x = 0 ↔ x.toNat = 0 := ⟨fun h => by rw [h]; rfl,fun h => UInt16.toNat_inj.1 h⟩
structure ShapeR (q : TRequest) : Prop where
  wa : 0 ≤ q.at_ ∧ q.at_ ≤ 65535
  wc : 0 ≤ q.count ∧ q.count ≤ 65535
  ww : 0 ≤ q.wAt ∧ q.wAt ≤ 65535
  ws : 0 ≤ q.sub ∧ q.sub ≤ 65535
  za : (q.fn = 8 ∨ q.fn = 17) → q.at_ = 0
  zc : ¬ (q.fn ≤ 4 ∨ q.fn = 15 ∨ q.fn = 16 ∨ q.fn = 23) → q.count = 0
  zw : q.fn ≠ 23 → q.wAt = 0
  zs : q.fn ≠ 8 → q.sub = 0
  zm : q.fn ≠ 22 → q.and_.toNat = 0 ∧ q.or_.toNat = 0
  bits : if q.fn = 5 then q.bits.length = 1 else if q.fn = 15 then (q.bits.length : Int) = q.count ∧ q.bits.length ≤ 2040 else q.bits.length = 0
  vals : if q.fn = 6 ∨ q.fn = 8 then q.vals.length = 1 else if q.fn = 16 then (q.vals.length : Int) = q.count ∧ q.vals.length ≤ 127 else if q.fn = 23 then q.vals.length ≤ 127 else q.vals.length = 0
theorem shapeR_iff {q : TRequest} (h : hasF q.fn = true) : rightR q = 0 ↔ ShapeR q := by
  obtain ⟨ia,ic,iw,is,ib,iv,im⟩ := in_all h
  have h0 : (!(hasF q.fn)) = false := by simp [h]
  have e : rightR q = 0 ↔ badA q = false ∧ badB q = false := by
    cases ha : badA q with
    | true => rw [rightR_2 h0 ha]; simp
    | false =>
      cases hb : badB q with
      | true => rw [rightR_3 h0 ha hb]; simp
      | false => rw [rightR_4 h0 ha hb]; simp
  rw [e]
  unfold badA badB
  rw [ia,ic,iw,is,ib,iv,im]
  have hz := @u16z q.and_
  have hz2 := @u16z q.or_
  have hf := hasF_of h
  simp only [Bool.or_eq_false_iff,Bool.and_eq_false_iff,Bool.not_eq_false',decide_eq_true_eq,decide_eq_false_iff_not,wordOk,hz,hz2]
  constructor
  · rintro ⟨⟨⟨⟨⟨⟨⟨a1,a2⟩,a3⟩,a4⟩,a5⟩,a6⟩,a7⟩,⟨⟨⟨b1,b2⟩,b3⟩,b4⟩,b5⟩
    unfold listsR at b5
    refine ⟨b1,b2,b3,b4,by omega,by omega,by omega,by omega,by omega, ?_, ?_⟩
    · repeat' split
      all_goals (repeat' split at b5) <;> first|omega|(simp only [decide_eq_true_eq] at b5; omega)
    · repeat' split
      all_goals (repeat' split at b5) <;> first|omega|(simp only [decide_eq_true_eq] at b5; omega)
  · rintro ⟨wa,wc,ww,ws,za,zc,zw,zs,zm,hb,hv⟩
    refine ⟨⟨⟨⟨⟨⟨⟨by omega,by omega⟩,by omega⟩,by omega⟩, ?_⟩, ?_⟩,by omega⟩,⟨⟨⟨wa,wc⟩,ww⟩,ws⟩, ?_⟩
    · repeat' split at hb
      all_goals omega
    · repeat' split at hv
      all_goals omega
    · unfold listsR
      repeat' split
      all_goals first|rfl|(apply decide_eq_true; (repeat' split at hb) <;> (repeat' split at hv) <;> omega)
theorem rightR_zero {q : TRequest} (h : rightR q = 0) : hasF q.fn = true ∧ ShapeR q := by
  cases hf : hasF q.fn with
  | true => exact ⟨rfl,(shapeR_iff hf).1 h⟩
  | false => rw [rightR_1 (by simp [hf])] at h; cases h
def rowX (x : List UInt8) : List UInt8 := UInt8.ofNat x.length :: x
def writeT (q : TRequest) : List UInt8 :=
  if q.fn = 1 ∨ q.fn = 2 ∨ q.fn = 3 ∨ q.fn = 4 then put2 q.at_ ++ put2 q.count
  else if q.fn = 5 then put2 q.at_ ++ put2 (if q.bits.getD 0 false = true then 65280 else 0)
  else if q.fn = 6 then put2 q.at_ ++ put2 (((q.vals.getD 0 0).toNat : Nat) : Int)
  else if q.fn = 8 then put2 q.sub ++ put2 (((q.vals.getD 0 0).toNat : Nat) : Int)
  else if q.fn = 15 then put2 q.at_ ++ (put2 q.count ++ rowX (packL q.bits))
  else if q.fn = 16 then put2 q.at_ ++ (put2 q.count ++ rowX (bytesL q.vals))
  else if q.fn = 22 then put2 q.at_ ++ (put2 ((q.and_.toNat : Nat) : Int) ++ put2 ((q.or_.toNat : Nat) : Int))
  else if q.fn = 23 then put2 q.at_ ++ (put2 q.count ++ (put2 q.wAt ++ (put2 ((q.vals.length : Nat) : Int) ++ rowX (bytesL q.vals))))
  else []
def writeR (q : TRequest) : List UInt8 := u8I q.fn :: writeT q
theorem writeR_1 {q : TRequest} (h : q.fn = 1 ∨ q.fn = 2 ∨ q.fn = 3 ∨ q.fn = 4) : writeR q = u8I q.fn :: (put2 q.at_ ++ put2 q.count) := by
  unfold writeR writeT; rw [if_pos h]
theorem writeR_5 {q : TRequest} (h : q.fn = 5) {e : Bool} (he : q.bits[0]? = some e) : writeR q = u8I q.fn :: (put2 q.at_ ++ put2 (if e = true then 65280 else 0)) := by
  unfold writeR writeT; rw [if_neg (by omega),if_pos h,List.getD_eq_getElem?_getD,he]; rfl
theorem writeR_6 {q : TRequest} (h : q.fn = 6) {e : UInt16} (he : q.vals[0]? = some e) : writeR q = u8I q.fn :: (put2 q.at_ ++ put2 ((e.toNat : Nat) : Int)) := by
  unfold writeR writeT; rw [if_neg (by omega),if_neg (by omega),if_pos h,List.getD_eq_getElem?_getD,he]; rfl
theorem writeR_8 {q : TRequest} (h : q.fn = 8) {e : UInt16} (he : q.vals[0]? = some e) : writeR q = u8I q.fn :: (put2 q.sub ++ put2 ((e.toNat : Nat) : Int)) := by
  unfold writeR writeT; rw [if_neg (by omega),if_neg (by omega),if_neg (by omega),if_pos h,List.getD_eq_getElem?_getD,he]; rfl
theorem writeR_15 {q : TRequest} (h : q.fn = 15) : writeR q = u8I q.fn :: (put2 q.at_ ++ (put2 q.count ++ rowX (packL q.bits))) := by
  unfold writeR writeT; rw [if_neg (by omega),if_neg (by omega),if_neg (by omega),if_neg (by omega),if_pos h]
theorem writeR_16 {q : TRequest} (h : q.fn = 16) : writeR q = u8I q.fn :: (put2 q.at_ ++ (put2 q.count ++ rowX (bytesL q.vals))) := by
  unfold writeR writeT; rw [if_neg (by omega),if_neg (by omega),if_neg (by omega),if_neg (by omega),if_neg (by omega),if_pos h]
theorem writeR_22 {q : TRequest} (h : q.fn = 22) : writeR q = u8I q.fn :: (put2 q.at_ ++ (put2 ((q.and_.toNat : Nat) : Int) ++ put2 ((q.or_.toNat : Nat) : Int))) := by
  unfold writeR writeT; rw [if_neg (by omega),if_neg (by omega),if_neg (by omega),if_neg (by omega),if_neg (by omega),if_neg (by omega),if_pos h]
theorem writeR_23 {q : TRequest} (h : q.fn = 23) : writeR q = u8I q.fn :: (put2 q.at_ ++ (put2 q.count ++ (put2 q.wAt ++ (put2 ((q.vals.length : Nat) : Int) ++ rowX (bytesL q.vals))))) := by
  unfold writeR writeT; rw [if_neg (by omega),if_neg (by omega),if_neg (by omega),if_neg (by omega),if_neg (by omega),if_neg (by omega),if_neg (by omega),if_pos h]
theorem writeR_no {q : TRequest} (h : ¬ (q.fn = 1 ∨ q.fn = 2 ∨ q.fn = 3 ∨ q.fn = 4) ∧ q.fn ≠ 5 ∧ q.fn ≠ 6 ∧ q.fn ≠ 8 ∧ q.fn ≠ 15 ∧ q.fn ≠ 16 ∧ q.fn ≠ 22 ∧ q.fn ≠ 23) : writeR q = [u8I q.fn] := by
  unfold writeR writeT; rw [if_neg (by omega),if_neg (by omega),if_neg (by omega),if_neg (by omega),if_neg (by omega),if_neg (by omega),if_neg (by omega),if_neg (by omega)]
@[simp] theorem rowX_length (x : List UInt8) : (rowX x).length = x.length + 1 := by simp [rowX]
theorem shape_small {q : TRequest} (h : ShapeR q) : q.bits.length ≤ 2040 ∧ q.vals.length ≤ 127 := by
  obtain ⟨wa,wc,ww,ws,za,zc,zw,zs,zm,hb,hv⟩ := h
  constructor
  · repeat' split at hb
    all_goals omega
  · repeat' split at hv
    all_goals omega
end Go.Proofs.Ytljkbpgcglomfaa
set_option linter.unusedVariables false
set_option linter.unusedSimpArgs false
set_option maxRecDepth 10000
set_option maxHeartbeats 1000000
namespace Go.Proofs.Ytljkbpgcglomfaa
open Go Go.Proofs.Ytljkbpgcglomfaa.Pv
theorem w_burgageref3_Has (n : Int)  :
    T Try.prog 86 [pI n] 0 [] (Ret (pB (hasF n)) 0 []) := by
 refine t_fun tabOk (n := 33) (rs := [.tmp 2]) Try.func86 rfl rfl rfl rfl (Nat.le_of_ble_eq_true rfl) ?_
 intro c hnt hk
 refine w_seq (w_R (qa hnt rfl rfl (r_end (q_then (w_seq ?_)))))
 refine w_R (qm hnt rfl rfl (qo hnt rfl (s_geq rfl rfl ?_)))
 refine qm hnt rfl rfl (r_cut0 3 [(0,pI n),(2,pB false),(8,pB ((decide (1 ≤ n)) && (decide (n ≤ 6))))] ?_ ?_)
 ·refine r_if tabOk hnt rfl rfl rfl (fun g1 => ?_) (fun g1 => ?_)
  ·have g1' := g1
   try simp only [sB] at g1'
   refine qm hnt rfl rfl (ry hnt rfl rfl rfl g1 (qo hnt rfl (s_leq rfl rfl ?_)))
   refine qo hnt rfl (s_pick_t rfl g1 rfl ?_)
   refine r_eq (s := 8) (y := pB ((decide (1 ≤ n)) && (decide (n ≤ 6)))) rfl (mix_at g1) ?_
   exact r_mid ⟨⟨rfl,rfl,rfl,trivial⟩,rfl,rfl⟩
  ·have g1' := g1
   try simp only [sB] at g1'
   refine rn hnt rfl rfl rfl g1 (qo hnt rfl (s_pick_f rfl g1 rfl ?_))
   refine r_eq (s := 8) (y := pB ((decide (1 ≤ n)) && (decide (n ≤ 6)))) rfl (mix_af _ g1) ?_
   exact r_mid ⟨⟨rfl,rfl,rfl,trivial⟩,rfl,rfl⟩
 ·refine qm hnt rfl rfl (r_cut0 3 [(0,pI n),(2,pB false),(12,pB (((decide (1 ≤ n)) && (decide (n ≤ 6))) || (decide (n = 8))))] ?_ ?_)
  ·refine r_if tabOk hnt rfl rfl rfl (fun g2 => ?_) (fun g2 => ?_)
   ·have g2' := g2
    try simp only [sB] at g2'
    refine qm hnt rfl rfl (ry hnt rfl rfl rfl g2 (qo hnt rfl (s_eql rfl rfl ?_)))
    refine qo hnt rfl (s_pick_f rfl g2 rfl ?_)
    refine r_eq (s := 12) (y := pB (((decide (1 ≤ n)) && (decide (n ≤ 6))) || (decide (n = 8)))) rfl (mix_of g2) ?_
    exact r_mid ⟨⟨rfl,rfl,rfl,trivial⟩,rfl,rfl⟩
   ·have g2' := g2
    try simp only [sB] at g2'
    refine rn hnt rfl rfl rfl g2 (qo hnt rfl (s_pick_t rfl g2 rfl ?_))
    refine r_eq (s := 12) (y := pB (((decide (1 ≤ n)) && (decide (n ≤ 6))) || (decide (n = 8)))) rfl (mix_ot _ g2) ?_
    exact r_mid ⟨⟨rfl,rfl,rfl,trivial⟩,rfl,rfl⟩
  ·refine qm hnt rfl rfl (r_cut0 3 [(0,pI n),(2,pB false),(16,pB ((((decide (1 ≤ n)) && (decide (n ≤ 6))) || (decide (n = 8))) || (decide (n = 15))))] ?_ ?_)
   ·refine r_if tabOk hnt rfl rfl rfl (fun g3 => ?_) (fun g3 => ?_)
    ·have g3' := g3
     try simp only [sB] at g3'
     refine qm hnt rfl rfl (ry hnt rfl rfl rfl g3 (qo hnt rfl (s_eql rfl rfl ?_)))
     refine qo hnt rfl (s_pick_f rfl g3 rfl ?_)
     refine r_eq (s := 16) (y := pB ((((decide (1 ≤ n)) && (decide (n ≤ 6))) || (decide (n = 8))) || (decide (n = 15)))) rfl (mix_of g3) ?_
     exact r_mid ⟨⟨rfl,rfl,rfl,trivial⟩,rfl,rfl⟩
    ·have g3' := g3
     try simp only [sB] at g3'
     refine rn hnt rfl rfl rfl g3 (qo hnt rfl (s_pick_t rfl g3 rfl ?_))
     refine r_eq (s := 16) (y := pB ((((decide (1 ≤ n)) && (decide (n ≤ 6))) || (decide (n = 8))) || (decide (n = 15)))) rfl (mix_ot _ g3) ?_
     exact r_mid ⟨⟨rfl,rfl,rfl,trivial⟩,rfl,rfl⟩
   ·refine qm hnt rfl rfl (r_cut0 3 [(0,pI n),(2,pB false),(20,pB (((((decide (1 ≤ n)) && (decide (n ≤ 6))) || (decide (n = 8))) || (decide (n = 15))) || (decide (n = 16))))] ?_ ?_)
    ·refine r_if tabOk hnt rfl rfl rfl (fun g4 => ?_) (fun g4 => ?_)
     ·have g4' := g4
      try simp only [sB] at g4'
      refine qm hnt rfl rfl (ry hnt rfl rfl rfl g4 (qo hnt rfl (s_eql rfl rfl ?_)))
      refine qo hnt rfl (s_pick_f rfl g4 rfl ?_)
      refine r_eq (s := 20) (y := pB (((((decide (1 ≤ n)) && (decide (n ≤ 6))) || (decide (n = 8))) || (decide (n = 15))) || (decide (n = 16)))) rfl (mix_of g4) ?_
      exact r_mid ⟨⟨rfl,rfl,rfl,trivial⟩,rfl,rfl⟩
     ·have g4' := g4
      try simp only [sB] at g4'
      refine rn hnt rfl rfl rfl g4 (qo hnt rfl (s_pick_t rfl g4 rfl ?_))
      refine r_eq (s := 20) (y := pB (((((decide (1 ≤ n)) && (decide (n ≤ 6))) || (decide (n = 8))) || (decide (n = 15))) || (decide (n = 16)))) rfl (mix_ot _ g4) ?_
      exact r_mid ⟨⟨rfl,rfl,rfl,trivial⟩,rfl,rfl⟩
    ·refine qm hnt rfl rfl (r_cut0 3 [(0,pI n),(2,pB false),(24,pB ((((((decide (1 ≤ n)) && (decide (n ≤ 6))) || (decide (n = 8))) || (decide (n = 15))) || (decide (n = 16))) || (decide (n = 17))))] ?_ ?_)
     ·refine r_if tabOk hnt rfl rfl rfl (fun g5 => ?_) (fun g5 => ?_)
      ·have g5' := g5
       try simp only [sB] at g5'
       refine qm hnt rfl rfl (ry hnt rfl rfl rfl g5 (qo hnt rfl (s_eql rfl rfl ?_)))
       refine qo hnt rfl (s_pick_f rfl g5 rfl ?_)
       refine r_eq (s := 24) (y := pB ((((((decide (1 ≤ n)) && (decide (n ≤ 6))) || (decide (n = 8))) || (decide (n = 15))) || (decide (n = 16))) || (decide (n = 17)))) rfl (mix_of g5) ?_
       exact r_mid ⟨⟨rfl,rfl,rfl,trivial⟩,rfl,rfl⟩
      ·have g5' := g5
       try simp only [sB] at g5'
       refine rn hnt rfl rfl rfl g5 (qo hnt rfl (s_pick_t rfl g5 rfl ?_))
       refine r_eq (s := 24) (y := pB ((((((decide (1 ≤ n)) && (decide (n ≤ 6))) || (decide (n = 8))) || (decide (n = 15))) || (decide (n = 16))) || (decide (n = 17)))) rfl (mix_ot _ g5) ?_
       exact r_mid ⟨⟨rfl,rfl,rfl,trivial⟩,rfl,rfl⟩
     ·refine qm hnt rfl rfl (r_cut0 3 [(0,pI n),(2,pB false),(28,pB (((((((decide (1 ≤ n)) && (decide (n ≤ 6))) || (decide (n = 8))) || (decide (n = 15))) || (decide (n = 16))) || (decide (n = 17))) || (decide (n = 22))))] ?_ ?_)
      ·refine r_if tabOk hnt rfl rfl rfl (fun g6 => ?_) (fun g6 => ?_)
       ·have g6' := g6
        try simp only [sB] at g6'
        refine qm hnt rfl rfl (ry hnt rfl rfl rfl g6 (qo hnt rfl (s_eql rfl rfl ?_)))
        refine qo hnt rfl (s_pick_f rfl g6 rfl ?_)
        refine r_eq (s := 28) (y := pB (((((((decide (1 ≤ n)) && (decide (n ≤ 6))) || (decide (n = 8))) || (decide (n = 15))) || (decide (n = 16))) || (decide (n = 17))) || (decide (n = 22)))) rfl (mix_of g6) ?_
        exact r_mid ⟨⟨rfl,rfl,rfl,trivial⟩,rfl,rfl⟩
       ·have g6' := g6
        try simp only [sB] at g6'
        refine rn hnt rfl rfl rfl g6 (qo hnt rfl (s_pick_t rfl g6 rfl ?_))
        refine r_eq (s := 28) (y := pB (((((((decide (1 ≤ n)) && (decide (n ≤ 6))) || (decide (n = 8))) || (decide (n = 15))) || (decide (n = 16))) || (decide (n = 17))) || (decide (n = 22)))) rfl (mix_ot _ g6) ?_
        exact r_mid ⟨⟨rfl,rfl,rfl,trivial⟩,rfl,rfl⟩
      ·refine qm hnt rfl rfl (r_cut0 3 [(2,pB false),(32,pB ((((((((decide (1 ≤ n)) && (decide (n ≤ 6))) || (decide (n = 8))) || (decide (n = 15))) || (decide (n = 16))) || (decide (n = 17))) || (decide (n = 22))) || (decide (n = 23))))] ?_ ?_)
       ·refine r_if tabOk hnt rfl rfl rfl (fun g7 => ?_) (fun g7 => ?_)
        ·have g7' := g7
         try simp only [sB] at g7'
         refine qm hnt rfl rfl (ry hnt rfl rfl rfl g7 (qo hnt rfl (s_eql rfl rfl ?_)))
         refine qo hnt rfl (s_pick_f rfl g7 rfl ?_)
         refine r_eq (s := 32) (y := pB ((((((((decide (1 ≤ n)) && (decide (n ≤ 6))) || (decide (n = 8))) || (decide (n = 15))) || (decide (n = 16))) || (decide (n = 17))) || (decide (n = 22))) || (decide (n = 23)))) rfl (mix_of g7) ?_
         exact r_mid ⟨⟨rfl,rfl,trivial⟩,rfl,rfl⟩
        ·have g7' := g7
         try simp only [sB] at g7'
         refine rn hnt rfl rfl rfl g7 (qo hnt rfl (s_pick_t rfl g7 rfl ?_))
         refine r_eq (s := 32) (y := pB ((((((((decide (1 ≤ n)) && (decide (n ≤ 6))) || (decide (n = 8))) || (decide (n = 15))) || (decide (n = 16))) || (decide (n = 17))) || (decide (n = 22))) || (decide (n = 23)))) rfl (mix_ot _ g7) ?_
         exact r_mid ⟨⟨rfl,rfl,trivial⟩,rfl,rfl⟩
       ·refine qa hnt rfl rfl (r_end (q_then (w_le (s := 2) (y := pB (hasF n)) rfl (le_of_eq (congrArg pB (show ((((((((decide (1 ≤ n)) && (decide (n ≤ 6))) || (decide (n = 8))) || (decide (n = 15))) || (decide (n = 16))) || (decide (n = 17))) || (decide (n = 22))) || (decide (n = 23))) = (hasF n) by unfold hasF; apply Bool.eq_iff_iff.2; simp only [Bool.and_eq_true,Bool.or_eq_true,decide_eq_true_eq]; try omega))) (w_ret ?_))))
        exact fin_plain (ret_tmp rfl ret_nil) rfl rfl ⟨rfl,rfl,rfl⟩
theorem w_burgageref3_word (n : Int)  :
    T Try.prog 89 [pI n] 0 [] (Ret (pB (wordOk n)) 0 []) := by
 refine t_fun tabOk (n := 9) (rs := [.tmp 2]) Try.func89 rfl rfl rfl rfl (Nat.le_of_ble_eq_true rfl) ?_
 intro c hnt hk
 refine w_seq (w_R (qa hnt rfl rfl (r_end (q_then (w_seq ?_)))))
 refine w_R (qm hnt rfl rfl (qo hnt rfl (s_geq rfl rfl ?_)))
 refine qm hnt rfl rfl (r_cut0 3 [(2,pB false),(8,pB ((decide (0 ≤ n)) && (decide (n ≤ 65535))))] ?_ ?_)
 ·refine r_if tabOk hnt rfl rfl rfl (fun g1 => ?_) (fun g1 => ?_)
  ·have g1' := g1
   try simp only [sB] at g1'
   refine qm hnt rfl rfl (ry hnt rfl rfl rfl g1 (qo hnt rfl (s_leq rfl rfl ?_)))
   refine qo hnt rfl (s_pick_t rfl g1 rfl ?_)
   refine r_eq (s := 8) (y := pB ((decide (0 ≤ n)) && (decide (n ≤ 65535)))) rfl (mix_at g1) ?_
   exact r_mid ⟨⟨rfl,rfl,trivial⟩,rfl,rfl⟩
  ·have g1' := g1
   try simp only [sB] at g1'
   refine rn hnt rfl rfl rfl g1 (qo hnt rfl (s_pick_f rfl g1 rfl ?_))
   refine r_eq (s := 8) (y := pB ((decide (0 ≤ n)) && (decide (n ≤ 65535)))) rfl (mix_af _ g1) ?_
   exact r_mid ⟨⟨rfl,rfl,trivial⟩,rfl,rfl⟩
 ·refine qa hnt rfl rfl (r_end (q_then (w_le (s := 2) (y := pB (wordOk n)) rfl (le_of_eq (congrArg pB (show ((decide (0 ≤ n)) && (decide (n ≤ 65535))) = (wordOk n) by unfold wordOk; apply Bool.eq_iff_iff.2; simp only [Bool.and_eq_true,Bool.or_eq_true,decide_eq_true_eq]; try omega))) (w_ret ?_))))
  exact fin_plain (ret_tmp rfl ret_nil) rfl rfl ⟨rfl,rfl,rfl⟩
theorem w_burgageref3_uses (n : Int)  :
    T Try.prog 108 [pI n] 0 [] (Ret (pT (usesS n)) 0 []) := by
 refine t_fun tabOk (n := 23) (rs := [.tmp 2]) Try.func108 rfl rfl rfl rfl (Nat.le_of_ble_eq_true rfl) ?_
 intro c hnt hk
 refine w_seq (w_R (qa hnt rfl rfl (r_end (q_then (w_seq ?_)))))
 refine w_seq (w_R (qm hnt rfl rfl (r_end (q_then (w_block ?_)))))
 refine w_seq (w_seq (w_R (qo hnt rfl (s_eql rfl rfl ?_))))
 refine qa hnt rfl rfl (r_end (q_then (w_if rfl (fun c1 => ?_) (fun c1 => ?_))))
 ·have c1_ := c1
  try simp only [sB] at c1
  refine w_skip (q_then (w_if rfl (fun _ => ?_) (fun e => absurd (e.symm.trans c1_) (by decide))))
  refine w_seq (w_R (qa hnt rfl rfl (r_end (q_then (w_le (s := 2) (y := pT (usesS n)) rfl (le_of_eq (congrArg (fun z : List UInt8 => pT z) (show ([97,99] : List UInt8) = (usesS n) by (simp [usesS, *]; done)))) ?_)))))
  refine w_ret (q_block_ret (q_then_ret ?_))
  exact fin_plain (ret_tmp rfl ret_nil) rfl rfl ⟨rfl,rfl,rfl⟩
 have c1_ := c1
 try simp only [sB] at c1
 refine w_seq (w_R (qo hnt rfl (s_eql rfl rfl ?_)))
 refine qa hnt rfl rfl (r_end (q_then (w_if rfl (fun c2 => ?_) (fun c2 => ?_))))
 ·have c2_ := c2
  try simp only [sB] at c2
  refine w_skip (q_then (w_if rfl (fun _ => ?_) (fun e => absurd (e.symm.trans c2_) (by decide))))
  refine w_seq (w_R (qa hnt rfl rfl (r_end (q_then (w_le (s := 2) (y := pT (usesS n)) rfl (le_of_eq (congrArg (fun z : List UInt8 => pT z) (show ([97,99] : List UInt8) = (usesS n) by (simp [usesS, *]; done)))) ?_)))))
  refine w_ret (q_block_ret (q_then_ret ?_))
  exact fin_plain (ret_tmp rfl ret_nil) rfl rfl ⟨rfl,rfl,rfl⟩
 have c2_ := c2
 try simp only [sB] at c2
 refine w_seq (w_R (qo hnt rfl (s_eql rfl rfl ?_)))
 refine qa hnt rfl rfl (r_end (q_then (w_if rfl (fun c3 => ?_) (fun c3 => ?_))))
 ·have c3_ := c3
  try simp only [sB] at c3
  refine w_skip (q_then (w_if rfl (fun _ => ?_) (fun e => absurd (e.symm.trans c3_) (by decide))))
  refine w_seq (w_R (qa hnt rfl rfl (r_end (q_then (w_le (s := 2) (y := pT (usesS n)) rfl (le_of_eq (congrArg (fun z : List UInt8 => pT z) (show ([97,99] : List UInt8) = (usesS n) by (simp [usesS, *]; done)))) ?_)))))
  refine w_ret (q_block_ret (q_then_ret ?_))
  exact fin_plain (ret_tmp rfl ret_nil) rfl rfl ⟨rfl,rfl,rfl⟩
 have c3_ := c3
 try simp only [sB] at c3
 refine w_R (qo hnt rfl (s_eql rfl rfl ?_))
 refine qa hnt rfl rfl (r_end (q_then (w_if rfl (fun c4 => ?_) (fun c4 => ?_))))
 ·try simp only [sB] at c4
  refine w_seq (w_R (qa hnt rfl rfl (r_end (q_then (w_le (s := 2) (y := pT (usesS n)) rfl (le_of_eq (congrArg (fun z : List UInt8 => pT z) (show ([97,99] : List UInt8) = (usesS n) by (simp [usesS, *]; done)))) ?_)))))
  refine w_ret (q_block_ret (q_then_ret ?_))
  exact fin_plain (ret_tmp rfl ret_nil) rfl rfl ⟨rfl,rfl,rfl⟩
 try simp only [sB] at c4
 refine w_seq (w_R (qo hnt rfl (s_eql rfl rfl ?_)))
 refine qa hnt rfl rfl (r_end (q_then (w_if rfl (fun c5 => ?_) (fun c5 => ?_))))
 ·try simp only [sB] at c5
  refine w_seq (w_R (qa hnt rfl rfl (r_end (q_then (w_le (s := 2) (y := pT (usesS n)) rfl (le_of_eq (congrArg (fun z : List UInt8 => pT z) (show ([97,98] : List UInt8) = (usesS n) by (simp [usesS, *]; done)))) ?_)))))
  refine w_ret (q_block_ret (q_then_ret ?_))
  exact fin_plain (ret_tmp rfl ret_nil) rfl rfl ⟨rfl,rfl,rfl⟩
 try simp only [sB] at c5
 refine w_seq (w_R (qo hnt rfl (s_eql rfl rfl ?_)))
 refine qa hnt rfl rfl (r_end (q_then (w_if rfl (fun c6 => ?_) (fun c6 => ?_))))
 ·try simp only [sB] at c6
  refine w_seq (w_R (qa hnt rfl rfl (r_end (q_then (w_le (s := 2) (y := pT (usesS n)) rfl (le_of_eq (congrArg (fun z : List UInt8 => pT z) (show ([97,118] : List UInt8) = (usesS n) by (simp [usesS, *]; done)))) ?_)))))
  refine w_ret (q_block_ret (q_then_ret ?_))
  exact fin_plain (ret_tmp rfl ret_nil) rfl rfl ⟨rfl,rfl,rfl⟩
 try simp only [sB] at c6
 refine w_seq (w_R (qo hnt rfl (s_eql rfl rfl ?_)))
 refine qa hnt rfl rfl (r_end (q_then (w_if rfl (fun c7 => ?_) (fun c7 => ?_))))
 ·try simp only [sB] at c7
  refine w_seq (w_R (qa hnt rfl rfl (r_end (q_then (w_le (s := 2) (y := pT (usesS n)) rfl (le_of_eq (congrArg (fun z : List UInt8 => pT z) (show ([115,118] : List UInt8) = (usesS n) by (simp [usesS, *]; done)))) ?_)))))
  refine w_ret (q_block_ret (q_then_ret ?_))
  exact fin_plain (ret_tmp rfl ret_nil) rfl rfl ⟨rfl,rfl,rfl⟩
 try simp only [sB] at c7
 refine w_seq (w_R (qo hnt rfl (s_eql rfl rfl ?_)))
 refine qa hnt rfl rfl (r_end (q_then (w_if rfl (fun c8 => ?_) (fun c8 => ?_))))
 ·try simp only [sB] at c8
  refine w_seq (w_R (qa hnt rfl rfl (r_end (q_then (w_le (s := 2) (y := pT (usesS n)) rfl (le_of_eq (congrArg (fun z : List UInt8 => pT z) (show ([97,99,98] : List UInt8) = (usesS n) by (simp [usesS, *]; done)))) ?_)))))
  refine w_ret (q_block_ret (q_then_ret ?_))
  exact fin_plain (ret_tmp rfl ret_nil) rfl rfl ⟨rfl,rfl,rfl⟩
 try simp only [sB] at c8
 refine w_seq (w_R (qo hnt rfl (s_eql rfl rfl ?_)))
 refine qa hnt rfl rfl (r_end (q_then (w_if rfl (fun c9 => ?_) (fun c9 => ?_))))
 ·try simp only [sB] at c9
  refine w_seq (w_R (qa hnt rfl rfl (r_end (q_then (w_le (s := 2) (y := pT (usesS n)) rfl (le_of_eq (congrArg (fun z : List UInt8 => pT z) (show ([97,99,118] : List UInt8) = (usesS n) by (simp [usesS, *]; done)))) ?_)))))
  refine w_ret (q_block_ret (q_then_ret ?_))
  exact fin_plain (ret_tmp rfl ret_nil) rfl rfl ⟨rfl,rfl,rfl⟩
 try simp only [sB] at c9
 refine w_seq (w_R (qo hnt rfl (s_eql rfl rfl ?_)))
 refine qa hnt rfl rfl (r_end (q_then (w_if rfl (fun c10 => ?_) (fun c10 => ?_))))
 ·try simp only [sB] at c10
  refine w_seq (w_R (qa hnt rfl rfl (r_end (q_then (w_le (s := 2) (y := pT (usesS n)) rfl (le_of_eq (congrArg (fun z : List UInt8 => pT z) (show ([97,109] : List UInt8) = (usesS n) by (simp [usesS, *]; done)))) ?_)))))
  refine w_ret (q_block_ret (q_then_ret ?_))
  exact fin_plain (ret_tmp rfl ret_nil) rfl rfl ⟨rfl,rfl,rfl⟩
 try simp only [sB] at c10
 refine w_seq (w_R (qo hnt rfl (s_eql rfl rfl ?_)))
 refine qa hnt rfl rfl (r_end (q_then (w_if rfl (fun c11 => ?_) (fun c11 => ?_))))
 ·try simp only [sB] at c11
  refine w_seq (w_R (qa hnt rfl rfl (r_end (q_then (w_le (s := 2) (y := pT (usesS n)) rfl (le_of_eq (congrArg (fun z : List UInt8 => pT z) (show ([97,99,119,118] : List UInt8) = (usesS n) by (simp [usesS, *]; done)))) ?_)))))
  refine w_ret (q_block_ret (q_then_ret ?_))
  exact fin_plain (ret_tmp rfl ret_nil) rfl rfl ⟨rfl,rfl,rfl⟩
 try simp only [sB] at c11
 refine w_skip (q_block (q_then (w_seq (w_R (qa hnt rfl rfl ?_)))))
 refine r_end (q_then (w_le (s := 2) (y := pT (usesS n)) rfl (le_of_eq (congrArg (fun z : List UInt8 => pT z) (show ([] : List UInt8) = (usesS n) by (simp [usesS, *]; done)))) (w_ret ?_)))
 exact fin_plain (ret_tmp rfl ret_nil) rfl rfl ⟨rfl,rfl,rfl⟩
theorem w_burgageref3_in (s : List UInt8) (ch : UInt8) (hs : s.length ≤ 140737488351232) :
    T Try.prog 88 [pT s,p8 ch] 0 [] (Ret (pB (inS s ch)) 0 []) := by
 refine t_fun tabOk (n := 17) (rs := [.tmp 4]) Try.func88 rfl rfl rfl rfl (Nat.le_of_ble_eq_true rfl) ?_
 intro c hnt hk
 refine w_seq (w_R (qa hnt rfl rfl (r_end (q_then (w_seq ?_)))))
 refine w_seq (w_R (qa hnt rfl rfl (r_end (q_then (w_block ?_)))))
 refine loop1 (fun (i : Nat) => i ≤ s.length ∧ ∀ x ∈ s.take i,x ≠ ch) (fun (i : Nat) => [(0,pT s),(1,p8 ch),(5,pN i)]) 0 (fun (i : Nat) => []) (fun (i : Nat) => s.length - i) (0) ?_ ⟨[],rfl,⟨⟨_,rfl,rfl,rfl⟩,⟨_,rfl,rfl,rfl⟩,⟨_,rfl,rfl,rfl⟩,trivial⟩,trivial,by rw [hk]; decide⟩ ?_
 · exact ⟨Nat.zero_le _,by simp⟩
 ·intro i hI
  obtain ⟨hi,hn⟩ := hI
  refine w_seq (w_seq (w_R (qm hnt rfl rfl (qm hnt rfl rfl (qo hnt rfl (s_lenT (l := s) tab_9 rfl rfl ?_))))))
  refine qo hnt rfl (s_lss rfl rfl ?_)
  refine r_end (q_then (w_if rfl (fun c1 => ?_) (fun c1 => ?_)))
  ·try simp only [sB] at c1
   refine w_skip (q_then (w_seq (w_block (w_seq (w_R ?_)))))
   refine qm hnt rfl rfl (qm hnt rfl rfl ?_)
   obtain ⟨e1,he1⟩ := get_of_lt s (i := i) (by omega)
   refine qo hnt rfl (s_idxM (q := i) (b := e1) (s := s) tab_9 rfl rfl (by omega) rfl he1 ?_)
   refine qm hnt rfl rfl (qo hnt rfl (s_eql8 (a := e1) (b := ch) rfl rfl ?_))
   refine r_end (q_then (w_if rfl (fun c2 => ?_) (fun c2 => ?_)))
   ·try simp only [sB] at c2
    refine w_seq (w_R (qa hnt rfl rfl (r_end (q_then (w_le (s := 4) (y := pB (inS s ch)) rfl (le_of_eq (congrArg pB (show true = (inS s ch) by unfold inS; exact (decide_eq_true (by rw [← (by simpa using c2 : e1 = ch)]; exact List.mem_of_getElem? he1)).symm))) ?_)))))
    refine w_ret (q_block_ret (q_then_ret (q_then_ret (q_block_ret (q_then_ret ?_)))))
    exact fin_plain (ret_tmp rfl ret_nil) rfl rfl ⟨rfl,rfl,rfl⟩
   try simp only [sB] at c2
   refine w_skip (q_block (q_then (w_R (qm hnt rfl rfl (qo hnt rfl (s_addN (a := i) (b := 1) rfl rfl (by omega) (by omega) (by omega) ?_))))))
   refine qa hnt rfl rfl (r_end (q_then (⟨(i + 1), ?_, ?_,⟨[],rfl,⟨⟨_,rfl,rfl,rfl⟩,⟨_,rfl,rfl,rfl⟩,⟨_,rfl,rfl,rfl⟩,trivial⟩,trivial,by rw [hk]; decide⟩⟩)))
   ·refine ⟨by omega,fun x hx => ?_⟩
    rw [List.take_add_one,he1] at hx
    rcases List.mem_append.1 hx with h|h
    · exact hn x h
    · simp at h; subst h; simpa using c2
   · omega
  try simp only [sB] at c1
  have hn2 : ∀ x ∈ s,x ≠ ch := by rw [List.take_of_length_le (by omega)] at hn; exact hn
  refine w_exit (q_then_exit (q_then_exit (q_block_exit (q_then (w_seq ?_)))))
  refine w_R (qa hnt rfl rfl (r_end (q_then (w_le (s := 4) (y := pB (inS s ch)) rfl (le_of_eq (congrArg pB (show false = (inS s ch) by unfold inS; exact (decide_eq_false (fun h => hn2 _ h rfl)).symm))) (w_ret ?_)))))
  exact fin_plain (ret_tmp rfl ret_nil) rfl rfl ⟨rfl,rfl,rfl⟩
theorem w_burgageref3_row (b : List UInt8) (wr : Bool) (x : List UInt8) (cl_x : Bool) (hb : b.length ≤ 1000) (hx : x.length ≤ 70000000000000) :
    T Try.prog 90 [PV.ref 0 0 none,pS 1 cl_x enc8 x] 1 [(0,oB wr 1 enc8 b)] (Ret (PV.ref 1 0 none) 2 [(1,oB wr 1 enc8 (b ++ rowX x))]) := by
 refine t_fun tabOk (n := 13) (rs := [.tmp 4]) Try.func90 rfl rfl rfl rfl (Nat.le_of_ble_eq_true rfl) ?_
 intro c hnt hk
 refine w_seq (w_R (qa hnt rfl rfl (r_end (q_then (w_seq ?_)))))
 refine w_R (qm hnt rfl rfl (qm hnt rfl rfl (qo hnt rfl (s_lenM (l := x) tab_51 rfl (hM_sl (f := enc8) rfl) ?_))))
 refine qo hnt rfl (s_cv8N (a := x.length) tab_3 tab_5 rfl rfl rfl (by omega) ?_)
 refine qo hnt rfl (s_mkM (f := enc8) [UInt8.ofNat x.length] tab_51 rfl tab_5 ⟨rfl,by decide⟩ (by decide) rfl rfl rfl rfl ?_)
 refine qo hnt rfl (s_appR0 (f := enc8) (l := b) (xs := [UInt8.ofNat x.length]) tab_51 rfl tab_5 ⟨rfl,by decide,by decide⟩ (srcM tab_51 rfl (hM_ref0 (f := enc8) rfl rfl)) rfl rfl (by (simp; omega)) ?_)
 refine qm hnt rfl rfl (qo hnt rfl (s_appR0 (f := enc8) (l := b ++ [UInt8.ofNat x.length]) (xs := x) tab_51 rfl tab_5 ⟨rfl,by decide,by decide⟩ (srcM tab_51 rfl (hM_sl (f := enc8) rfl)) rfl rfl (by (simp; omega)) ?_))
 refine qa hnt rfl rfl (r_set [(4,PV.ref 3 0 none)] [(3,oB wr 1 enc8 ((b ++ [UInt8.ofNat x.length]) ++ x)),(1,oB true 1 enc8 [UInt8.ofNat x.length])] 4 ⟨rfl,trivial⟩ rfl rfl (r_end (q_then (w_H (H' := [(3,oB wr 1 enc8 (b ++ rowX x)),(1,oB true 1 enc8 [UInt8.ofNat x.length])]) (congrArg (fun z => ([(3,oB wr 1 enc8 z),(1,oB true 1 enc8 [UInt8.ofNat x.length])] : Heap)) (show (b ++ [UInt8.ofNat x.length]) ++ x = b ++ rowX x by simp [rowX])) (w_ret ?_)))))
 exact fin_names (nx1 := 2) (H1 := [(1,oB wr 1 enc8 (b ++ rowX x))]) [(1,3)] (ret_tmp rfl ret_nil) rfl (by decide) ⟨⟨_,_,rfl,rfl,rfl,rfl⟩,trivial⟩ (by decide) rfl ⟨rfl,rfl,rfl⟩
theorem w_burgageref3_write (r : TRequest) (hb : r.bits.length ≤ 140737488351232) (hv : r.vals.length ≤ 1000000) (h5 : r.fn = 5 → 1 ≤ r.bits.length) (h6 : (r.fn = 6 ∨ r.fn = 8) → 1 ≤ r.vals.length) :
    T Try.prog 94 [PV.f (eRequest r)] 0 [] (Ret (PV.ref 0 0 none) 1 [(0,oB false 1 enc8 (writeR r))]) := by
 refine t_fun tabOk (n := 106) (rs := [.tmp 2]) Try.func94 rfl rfl rfl rfl (Nat.le_of_ble_eq_true rfl) ?_
 intro c hnt hk
 refine w_seq (w_R (qo hnt rfl (s_box rfl rfl ?_)))
 refine qa hnt rfl rfl (r_set [(1,PV.ptr 0 0)] [(0,.obj (cRequest r))] 1 ⟨rfl,trivial⟩ rfl rfl (r_end (q_then (w_seq (w_R ?_)))))
 refine qo hnt rfl (s_fa_ptr tab_46 rfl rfl tab_3 (by decide) rfl ?_)
 refine qo hnt rfl (s_load_ptr1 tab_3 rfl rfl rfl rfl rfl ?_)
 refine qo hnt rfl (s_cv8 tab_3 tab_5 rfl rfl rfl ?_)
 refine qo hnt rfl (s_mkM (f := enc8) [u8I r.fn] tab_51 rfl tab_5 ⟨rfl,by decide⟩ (by decide) rfl rfl rfl rfl ?_)
 refine qa hnt rfl rfl (r_set [(1,PV.ptr 0 0),(3,PV.ref 1 0 none)] [(1,oB true 1 enc8 [u8I r.fn]),(0,.obj (cRequest r))] 2 ⟨rfl,rfl,trivial⟩ rfl rfl (r_end (q_then (w_seq (w_R ?_)))))
 refine qm hnt rfl rfl (qo hnt rfl (s_fa_ptr tab_46 rfl rfl tab_3 (by decide) rfl ?_))
 refine qo hnt rfl (s_load_ptr1 tab_3 rfl rfl rfl rfl rfl ?_)
 refine qo hnt rfl (s_callX (r2 := PV.ref 2 0 none) (nx1 := 3) (H2 := [(1,oB false 1 enc8 [u8I r.fn]),(0,.obj (cRequest r))]) (H3 := [(2,oB true 1 enc8 ([u8I r.fn] ++ put2 r.at_)),(1,oB false 1 enc8 [u8I r.fn]),(0,.obj (cRequest r))]) [] [] rfl rfl rfl (handed_of (by decide) trivial) rfl rfl rfl rfl rfl rfl (w_burgageref1_Put [u8I r.fn] false r.at_ (by (simp; done))) rfl (dist_of rfl) rfl rfl rfl rfl ?_)
 refine qa hnt rfl rfl (r_set [(1,PV.ptr 0 0),(3,PV.ref 1 0 none),(4,PV.ref 2 0 none)] [(2,oB true 1 enc8 ([u8I r.fn] ++ put2 r.at_)),(1,oB false 1 enc8 [u8I r.fn]),(0,.obj (cRequest r))] 3 ⟨rfl,rfl,rfl,trivial⟩ rfl rfl (r_end (q_then (w_seq (w_seq ?_)))))
 refine w_R (qo hnt rfl (s_fa_ptr tab_46 rfl rfl tab_3 (by decide) rfl ?_))
 refine qo hnt rfl (s_load_ptr1 tab_3 rfl rfl rfl rfl rfl ?_)
 refine r_end (q_then (w_block (join1 (fun (bb1 : Bool) => bb1 = ((decide (r.fn = 1)) || ((decide (r.fn = 2)) || ((decide (r.fn = 3)) || (decide (r.fn = 4)))))) (fun (bb1 : Bool) => [(1,PV.ptr 0 0),(3,PV.ref 1 0 none),(4,PV.ref 2 0 none),(15,pI r.fn),(16,pB bb1)]) 3 (fun (bb1 : Bool) => [(0,.obj (cRequest r)),(1,oB false 1 enc8 [u8I r.fn]),(2,oB true 1 enc8 ([u8I r.fn] ++ put2 r.at_))]) ?_ ?_)))
 ·refine w_seq (w_R (qo hnt rfl (s_eql rfl rfl ?_)))
  refine qa hnt rfl rfl (r_end (q_then (w_if rfl (fun c1 => ?_) (fun c1 => ?_))))
  ·have c1_ := c1
   try simp only [sB] at c1
   refine w_skip (q_then (⟨(decide (r.fn = 1)), ?_,⟨[(0,0),(1,1),(2,2)],by rw [hk]; decide,⟨⟨_,rfl,rfl,rfl⟩,⟨_,rfl,rfl,rfl⟩,⟨_,rfl,rfl,rfl⟩,⟨_,rfl,rfl,rfl⟩,⟨_,rfl,rfl,rfl⟩,trivial⟩,⟨⟨_,_,rfl,rfl,rfl,rfl⟩,⟨_,_,rfl,rfl,rfl,rfl⟩,⟨_,_,rfl,rfl,rfl,rfl⟩,trivial⟩,by rw [hk]; decide⟩⟩))
   simp only [c1_,Bool.true_or,Bool.false_or]
  have c1_ := c1
  try simp only [sB] at c1
  refine w_seq (w_R (qo hnt rfl (s_eql rfl rfl ?_)))
  refine qa hnt rfl rfl (r_end (q_then (w_if rfl (fun c2 => ?_) (fun c2 => ?_))))
  ·have c2_ := c2
   try simp only [sB] at c2
   refine w_skip (q_then (⟨(decide (r.fn = 2)), ?_,⟨[(0,0),(1,1),(2,2)],by rw [hk]; decide,⟨⟨_,rfl,rfl,rfl⟩,⟨_,rfl,rfl,rfl⟩,⟨_,rfl,rfl,rfl⟩,⟨_,rfl,rfl,rfl⟩,⟨_,rfl,rfl,rfl⟩,trivial⟩,⟨⟨_,_,rfl,rfl,rfl,rfl⟩,⟨_,_,rfl,rfl,rfl,rfl⟩,⟨_,_,rfl,rfl,rfl,rfl⟩,trivial⟩,by rw [hk]; decide⟩⟩))
   simp only [c1_,c2_,Bool.true_or,Bool.false_or]
  have c2_ := c2
  try simp only [sB] at c2
  refine w_seq (w_R (qo hnt rfl (s_eql rfl rfl ?_)))
  refine qa hnt rfl rfl (r_end (q_then (w_if rfl (fun c3 => ?_) (fun c3 => ?_))))
  ·have c3_ := c3
   try simp only [sB] at c3
   refine w_skip (q_then (⟨(decide (r.fn = 3)), ?_,⟨[(0,0),(1,1),(2,2)],by rw [hk]; decide,⟨⟨_,rfl,rfl,rfl⟩,⟨_,rfl,rfl,rfl⟩,⟨_,rfl,rfl,rfl⟩,⟨_,rfl,rfl,rfl⟩,⟨_,rfl,rfl,rfl⟩,trivial⟩,⟨⟨_,_,rfl,rfl,rfl,rfl⟩,⟨_,_,rfl,rfl,rfl,rfl⟩,⟨_,_,rfl,rfl,rfl,rfl⟩,trivial⟩,by rw [hk]; decide⟩⟩))
   simp only [c1_,c2_,c3_,Bool.true_or,Bool.false_or]
  have c3_ := c3
  try simp only [sB] at c3
  refine w_R (qo hnt rfl (s_eql rfl rfl ?_))
  refine qa hnt rfl rfl (r_end (q_then (⟨(decide (r.fn = 4)), ?_,⟨[(0,0),(1,1),(2,2)],by rw [hk]; decide,⟨⟨_,rfl,rfl,rfl⟩,⟨_,rfl,rfl,rfl⟩,⟨_,rfl,rfl,rfl⟩,⟨_,rfl,rfl,rfl⟩,⟨_,rfl,rfl,rfl⟩,trivial⟩,⟨⟨_,_,rfl,rfl,rfl,rfl⟩,⟨_,_,rfl,rfl,rfl,rfl⟩,⟨_,_,rfl,rfl,rfl,rfl⟩,trivial⟩,by rw [hk]; decide⟩⟩)))
  simp only [c1_,c2_,c3_,Bool.true_or,Bool.false_or]
 intro bb1 hbb1
 subst hbb1
 refine w_if rfl (fun c4 => ?_) (fun c4 => ?_)
 ·have c4_ := c4
  try simp only [sB,Bool.or_eq_true,Bool.or_eq_false_iff] at c4
  refine w_seq (w_R (qm hnt rfl rfl (qo hnt rfl (s_fa_ptr tab_46 rfl rfl tab_3 (by decide) rfl ?_))))
  refine qo hnt rfl (s_load_ptr1 tab_3 rfl rfl rfl rfl rfl ?_)
  refine qo hnt rfl (s_callX (r2 := PV.ref 3 0 none) (nx1 := 4) (H2 := [(2,oB false 1 enc8 ([u8I r.fn] ++ put2 r.at_)),(0,.obj (cRequest r)),(1,oB false 1 enc8 [u8I r.fn])]) (H3 := [(3,oB true 1 enc8 (([u8I r.fn] ++ put2 r.at_) ++ put2 r.count)),(2,oB false 1 enc8 ([u8I r.fn] ++ put2 r.at_)),(0,.obj (cRequest r)),(1,oB false 1 enc8 [u8I r.fn])]) [] [] rfl rfl rfl (handed_of (by decide) trivial) rfl rfl rfl rfl rfl rfl (w_burgageref1_Put ([u8I r.fn] ++ put2 r.at_) false r.count (by (simp; done))) rfl (dist_of rfl) rfl rfl rfl rfl ?_)
  refine qa hnt rfl rfl (r_set [(2,PV.ref 3 0 none)] [(3,oB true 1 enc8 (([u8I r.fn] ++ put2 r.at_) ++ put2 r.count)),(2,oB false 1 enc8 ([u8I r.fn] ++ put2 r.at_)),(0,.obj (cRequest r)),(1,oB false 1 enc8 [u8I r.fn])] 4 ⟨rfl,trivial⟩ rfl rfl (r_end (q_then (w_low (n := 3) rfl (w_H (H' := [(3,oB false 1 enc8 (writeR r)),(2,oB false 1 enc8 ([u8I r.fn] ++ put2 r.at_)),(0,.obj (cRequest r)),(1,oB false 1 enc8 [u8I r.fn])]) (congrArg (fun z => ([(3,oB false 1 enc8 z),(2,oB false 1 enc8 ([u8I r.fn] ++ put2 r.at_)),(0,.obj (cRequest r)),(1,oB false 1 enc8 [u8I r.fn])] : Heap)) (show ([u8I r.fn] ++ put2 r.at_) ++ put2 r.count = writeR r by (rw [writeR_1 (by omega)]; simp; done))) ?_)))))
  refine w_ret (q_block_ret (q_then_ret ?_))
  exact fin_names (nx1 := 1) (H1 := [(0,oB false 1 enc8 (writeR r))]) [(0,3)] (ret_tmp rfl ret_nil) rfl (by decide) ⟨⟨_,_,rfl,rfl,rfl,rfl⟩,trivial⟩ (by decide) rfl ⟨rfl,rfl,rfl⟩
 have c4_ := c4
 try simp only [sB,Bool.or_eq_true,Bool.or_eq_false_iff] at c4
 refine w_seq (w_R (qo hnt rfl (s_eql rfl rfl ?_)))
 refine qa hnt rfl rfl (r_end (q_then (w_if rfl (fun c5 => ?_) (fun c5 => ?_))))
 ·have c5_ := c5
  try simp only [sB] at c5
  refine w_seq (w_seq (w_R (qo hnt rfl (s_fa_ptr tab_46 rfl rfl tab_42 (by decide) rfl ?_))))
  refine qo hnt rfl (s_load_ptr1 tab_42 rfl rfl rfl rfl rfl ?_)
  obtain ⟨e1,he1⟩ := get_of_lt r.bits (i := 0) (by omega)
  refine qo hnt rfl (s_iaM (q := 0) (b := e1) (f := encBo) tab_42 rfl tab_4 rfl rfl (by omega) rfl he1 ?_)
  refine qo hnt rfl (s_load_ro1 tab_4 rfl rfl rfl rfl ?_)
  refine r_end (q_then (w_if rfl (fun c6 => ?_) (fun c6 => ?_)))
  ·have c6_ := c6
   try simp only [sB] at c6
   refine w_seq (w_R (qm hnt rfl rfl (qo hnt rfl (s_callX (r2 := PV.ref 3 0 none) (nx1 := 4) (H2 := [(2,oB false 1 enc8 ([u8I r.fn] ++ put2 r.at_)),(0,.obj (cRequest r)),(1,oB false 1 enc8 [u8I r.fn])]) (H3 := [(3,oB true 1 enc8 (([u8I r.fn] ++ put2 r.at_) ++ put2 65280)),(2,oB false 1 enc8 ([u8I r.fn] ++ put2 r.at_)),(0,.obj (cRequest r)),(1,oB false 1 enc8 [u8I r.fn])]) [] [] rfl rfl rfl (handed_of (by decide) trivial) rfl rfl rfl rfl rfl rfl (w_burgageref1_Put ([u8I r.fn] ++ put2 r.at_) false 65280 (by (simp; done))) rfl (dist_of rfl) rfl rfl rfl rfl ?_))))
   refine qa hnt rfl rfl (r_set [(2,PV.ref 3 0 none)] [(3,oB true 1 enc8 (([u8I r.fn] ++ put2 r.at_) ++ put2 65280)),(2,oB false 1 enc8 ([u8I r.fn] ++ put2 r.at_)),(0,.obj (cRequest r)),(1,oB false 1 enc8 [u8I r.fn])] 4 ⟨rfl,trivial⟩ rfl rfl (r_end (q_then (w_low (n := 3) rfl (w_H (H' := [(3,oB false 1 enc8 (writeR r)),(2,oB false 1 enc8 ([u8I r.fn] ++ put2 r.at_)),(0,.obj (cRequest r)),(1,oB false 1 enc8 [u8I r.fn])]) (congrArg (fun z => ([(3,oB false 1 enc8 z),(2,oB false 1 enc8 ([u8I r.fn] ++ put2 r.at_)),(0,.obj (cRequest r)),(1,oB false 1 enc8 [u8I r.fn])] : Heap)) (show ([u8I r.fn] ++ put2 r.at_) ++ put2 65280 = writeR r by (rw [writeR_5 (by omega) (by assumption)]; simp [*]; done))) ?_)))))
   refine w_ret (q_then_ret (q_block_ret (q_then_ret ?_)))
   exact fin_names (nx1 := 1) (H1 := [(0,oB false 1 enc8 (writeR r))]) [(0,3)] (ret_tmp rfl ret_nil) rfl (by decide) ⟨⟨_,_,rfl,rfl,rfl,rfl⟩,trivial⟩ (by decide) rfl ⟨rfl,rfl,rfl⟩
  have c6_ := c6
  try simp only [sB] at c6
  refine w_skip (q_then (w_seq (w_R (qm hnt rfl rfl (qo hnt rfl (s_callX (r2 := PV.ref 3 0 none) (nx1 := 4) (H2 := [(2,oB false 1 enc8 ([u8I r.fn] ++ put2 r.at_)),(0,.obj (cRequest r)),(1,oB false 1 enc8 [u8I r.fn])]) (H3 := [(3,oB true 1 enc8 (([u8I r.fn] ++ put2 r.at_) ++ put2 0)),(2,oB false 1 enc8 ([u8I r.fn] ++ put2 r.at_)),(0,.obj (cRequest r)),(1,oB false 1 enc8 [u8I r.fn])]) [] [] rfl rfl rfl (handed_of (by decide) trivial) rfl rfl rfl rfl rfl rfl (w_burgageref1_Put ([u8I r.fn] ++ put2 r.at_) false 0 (by (simp; done))) rfl (dist_of rfl) rfl rfl rfl rfl ?_))))))
  refine qa hnt rfl rfl (r_set [(2,PV.ref 3 0 none)] [(3,oB true 1 enc8 (([u8I r.fn] ++ put2 r.at_) ++ put2 0)),(2,oB false 1 enc8 ([u8I r.fn] ++ put2 r.at_)),(0,.obj (cRequest r)),(1,oB false 1 enc8 [u8I r.fn])] 4 ⟨rfl,trivial⟩ rfl rfl (r_end (q_then (w_low (n := 3) rfl (w_H (H' := [(3,oB false 1 enc8 (writeR r)),(2,oB false 1 enc8 ([u8I r.fn] ++ put2 r.at_)),(0,.obj (cRequest r)),(1,oB false 1 enc8 [u8I r.fn])]) (congrArg (fun z => ([(3,oB false 1 enc8 z),(2,oB false 1 enc8 ([u8I r.fn] ++ put2 r.at_)),(0,.obj (cRequest r)),(1,oB false 1 enc8 [u8I r.fn])] : Heap)) (show ([u8I r.fn] ++ put2 r.at_) ++ put2 0 = writeR r by (rw [writeR_5 (by omega) (by assumption)]; simp [*]; done))) ?_)))))
  refine w_ret (q_block_ret (q_then_ret ?_))
  exact fin_names (nx1 := 1) (H1 := [(0,oB false 1 enc8 (writeR r))]) [(0,3)] (ret_tmp rfl ret_nil) rfl (by decide) ⟨⟨_,_,rfl,rfl,rfl,rfl⟩,trivial⟩ (by decide) rfl ⟨rfl,rfl,rfl⟩
 have c5_ := c5
 try simp only [sB] at c5
 refine w_seq (w_R (qo hnt rfl (s_eql rfl rfl ?_)))
 refine qa hnt rfl rfl (r_end (q_then (w_if rfl (fun c7 => ?_) (fun c7 => ?_))))
 ·have c7_ := c7
  try simp only [sB] at c7
  refine w_seq (w_R (qm hnt rfl rfl (qo hnt rfl (s_fa_ptr tab_46 rfl rfl tab_43 (by decide) rfl ?_))))
  refine qo hnt rfl (s_load_ptr1 tab_43 rfl rfl rfl rfl rfl ?_)
  obtain ⟨e2,he2⟩ := get_of_lt r.vals (i := 0) (by omega)
  refine qo hnt rfl (s_iaM (q := 0) (b := e2) (f := enc16) tab_43 rfl tab_44 rfl rfl (by omega) rfl he2 ?_)
  refine qo hnt rfl (s_load_ro1 tab_44 rfl rfl rfl rfl ?_)
  refine qo hnt rfl (s_cvN (a := UInt16.toNat e2) tab_44 tab_3 rfl rfl rfl (by omega) (by have := lt16 e2; omega) ?_)
  refine qo hnt rfl (s_callX (r2 := PV.ref 3 0 none) (nx1 := 4) (H2 := [(2,oB false 1 enc8 ([u8I r.fn] ++ put2 r.at_)),(0,.obj (cRequest r)),(1,oB false 1 enc8 [u8I r.fn])]) (H3 := [(3,oB true 1 enc8 (([u8I r.fn] ++ put2 r.at_) ++ put2 ((UInt16.toNat e2 : Nat) : Int))),(2,oB false 1 enc8 ([u8I r.fn] ++ put2 r.at_)),(0,.obj (cRequest r)),(1,oB false 1 enc8 [u8I r.fn])]) [] [] rfl rfl rfl (handed_of (by decide) trivial) rfl rfl rfl rfl rfl rfl (w_burgageref1_Put ([u8I r.fn] ++ put2 r.at_) false ((UInt16.toNat e2 : Nat) : Int) (by (simp; done))) rfl (dist_of rfl) rfl rfl rfl rfl ?_)
  refine qa hnt rfl rfl (r_set [(2,PV.ref 3 0 none)] [(3,oB true 1 enc8 (([u8I r.fn] ++ put2 r.at_) ++ put2 ((UInt16.toNat e2 : Nat) : Int))),(2,oB false 1 enc8 ([u8I r.fn] ++ put2 r.at_)),(0,.obj (cRequest r)),(1,oB false 1 enc8 [u8I r.fn])] 4 ⟨rfl,trivial⟩ rfl rfl (r_end (q_then (w_low (n := 3) rfl (w_H (H' := [(3,oB false 1 enc8 (writeR r)),(2,oB false 1 enc8 ([u8I r.fn] ++ put2 r.at_)),(0,.obj (cRequest r)),(1,oB false 1 enc8 [u8I r.fn])]) (congrArg (fun z => ([(3,oB false 1 enc8 z),(2,oB false 1 enc8 ([u8I r.fn] ++ put2 r.at_)),(0,.obj (cRequest r)),(1,oB false 1 enc8 [u8I r.fn])] : Heap)) (show ([u8I r.fn] ++ put2 r.at_) ++ put2 ((UInt16.toNat e2 : Nat) : Int) = writeR r by (rw [writeR_6 (by omega) (by assumption)]; simp; done))) ?_)))))
  refine w_ret (q_block_ret (q_then_ret ?_))
  exact fin_names (nx1 := 1) (H1 := [(0,oB false 1 enc8 (writeR r))]) [(0,3)] (ret_tmp rfl ret_nil) rfl (by decide) ⟨⟨_,_,rfl,rfl,rfl,rfl⟩,trivial⟩ (by decide) rfl ⟨rfl,rfl,rfl⟩
 have c7_ := c7
 try simp only [sB] at c7
 refine w_seq (w_R (qo hnt rfl (s_eql rfl rfl ?_)))
 refine qa hnt rfl rfl (r_end (q_then (w_if rfl (fun c8 => ?_) (fun c8 => ?_))))
 ·have c8_ := c8
  try simp only [sB] at c8
  refine w_seq (W_drawn tabOk mixed hnt [[],[],[1],[0,1,2],[],[4],[4,5],[4,5,6],[4,5,6,7],(.range 9),(.range 10)] (by kernel_rfl) (d_op (x_run0 [(3,PV.ref 1 0 none)] [] rfl rfl rfl rfl (s_move rfl ⟨rfl,rfl,rfl⟩) (d_op (x_run0 [(1,PV.ptr 0 0)] [] rfl rfl rfl rfl (s_fa_ptr tab_46 rfl rfl tab_3 (by decide) rfl ⟨rfl,rfl,rfl⟩) ?_)))))
  refine d_op (xL [(47,PV.ptr 0 4)] [1] [(0,.obj (cRequest r))] rfl rfl rfl rfl rfl (s_load_ptr1 tab_3 rfl rfl rfl rfl rfl ⟨rfl,rfl,rfl⟩) ⟨rfl,trivial⟩ rfl (d_op (xT [(46,PV.ref 1 0 none),(48,pI r.sub)] [0,1,2] [(1,oB false 1 enc8 [u8I r.fn])] [(3,oB true 1 enc8 ([u8I r.fn] ++ put2 r.sub)),(1,oB false 1 enc8 [u8I r.fn])] [(0,.obj (cRequest r)),(2,oB true 1 enc8 ([u8I r.fn] ++ put2 r.at_))] rfl rfl rfl rfl rfl (s_callX (r2 := PV.ref 3 0 none) (nx1 := 4) (H2 := [(1,oB false 1 enc8 [u8I r.fn])]) (H3 := [(3,oB true 1 enc8 ([u8I r.fn] ++ put2 r.sub)),(1,oB false 1 enc8 [u8I r.fn])]) [] [] rfl rfl rfl (handed_of (by decide) trivial) rfl rfl rfl rfl rfl rfl (w_burgageref1_Put [u8I r.fn] false r.sub (by (simp; done))) rfl (dist_of rfl) rfl rfl rfl rfl ⟨rfl,rfl,rfl⟩) rfl rfl (d_op (x_run0 [(1,PV.ptr 0 0)] [] rfl rfl rfl rfl (s_fa_ptr tab_46 rfl rfl tab_43 (by decide) rfl ⟨rfl,rfl,rfl⟩) ?_)))))
  refine d_op (xL [(50,PV.ptr 0 6)] [4] [(0,.obj (cRequest r))] rfl rfl rfl rfl rfl (s_load_ptr1 tab_43 rfl rfl rfl rfl rfl ⟨rfl,rfl,rfl⟩) ⟨rfl,trivial⟩ rfl (d_op ?_))
  obtain ⟨e3,he3⟩ := get_of_lt r.vals (i := 0) (by omega)
  refine x_run0 [(51,pS 1 false enc16 r.vals)] [4,5] rfl rfl rfl rfl (s_iaM (q := 0) (b := e3) (f := enc16) tab_43 rfl tab_44 rfl rfl (by omega) rfl he3 ⟨rfl,rfl,rfl⟩) (d_op (x_run0 [(52,PV.f (.ro (enc16 e3)))] [4,5,6] rfl rfl rfl rfl (s_load_ro1 tab_44 rfl rfl rfl rfl ⟨rfl,rfl,rfl⟩) (d_op (x_run0 [(53,p16 e3)] [4,5,6,7] rfl rfl rfl rfl (s_cvN (a := UInt16.toNat e3) tab_44 tab_3 rfl rfl rfl (by omega) (by have := lt16 e3; omega) ⟨rfl,rfl,rfl⟩) (d_op ?_)))))
  refine xT [(49,PV.ref 3 0 none),(54,pN (UInt16.toNat e3))] (.range 9) [(3,oB true 1 enc8 ([u8I r.fn] ++ put2 r.sub))] [(4,oB true 1 enc8 (([u8I r.fn] ++ put2 r.sub) ++ put2 ((UInt16.toNat e3 : Nat) : Int))),(3,oB false 1 enc8 ([u8I r.fn] ++ put2 r.sub))] [(1,oB false 1 enc8 [u8I r.fn]),(0,.obj (cRequest r)),(2,oB true 1 enc8 ([u8I r.fn] ++ put2 r.at_))] rfl rfl rfl rfl rfl (s_callX (r2 := PV.ref 4 0 none) (nx1 := 5) (H2 := [(3,oB false 1 enc8 ([u8I r.fn] ++ put2 r.sub))]) (H3 := [(4,oB true 1 enc8 (([u8I r.fn] ++ put2 r.sub) ++ put2 ((UInt16.toNat e3 : Nat) : Int))),(3,oB false 1 enc8 ([u8I r.fn] ++ put2 r.sub))]) [] [] rfl rfl rfl (handed_of (by decide) trivial) rfl rfl rfl rfl rfl rfl (w_burgageref1_Put ([u8I r.fn] ++ put2 r.sub) false ((UInt16.toNat e3 : Nat) : Int) (by (simp; done))) rfl (dist_of rfl) rfl rfl rfl rfl ⟨rfl,rfl,rfl⟩) rfl rfl (d_op (x_run0 [(55,PV.ref 4 0 none)] (.range 10) rfl rfl rfl rfl (s_assign rfl ⟨rfl,rfl,rfl⟩) (d_end ⟨by kernel_rfl, ?_⟩)))
  refine q_then (w_low (n := 4) rfl (w_H (H' := [(4,oB false 1 enc8 (writeR r)),(3,oB false 1 enc8 ([u8I r.fn] ++ put2 r.sub)),(1,oB false 1 enc8 [u8I r.fn]),(0,.obj (cRequest r)),(2,oB true 1 enc8 ([u8I r.fn] ++ put2 r.at_))]) (congrArg (fun z => ([(4,oB false 1 enc8 z),(3,oB false 1 enc8 ([u8I r.fn] ++ put2 r.sub)),(1,oB false 1 enc8 [u8I r.fn]),(0,.obj (cRequest r)),(2,oB true 1 enc8 ([u8I r.fn] ++ put2 r.at_))] : Heap)) (show ([u8I r.fn] ++ put2 r.sub) ++ put2 ((UInt16.toNat e3 : Nat) : Int) = writeR r by (rw [writeR_8 (by omega) (by assumption)]; simp; done))) (w_ret (q_block_ret (q_then_ret ?_)))))
  exact fin_names (nx1 := 1) (H1 := [(0,oB false 1 enc8 (writeR r))]) [(0,4)] (ret_tmp rfl ret_nil) rfl (by decide) ⟨⟨_,_,rfl,rfl,rfl,rfl⟩,trivial⟩ (by decide) rfl ⟨rfl,rfl,rfl⟩
 have c8_ := c8
 try simp only [sB] at c8
 refine w_seq (w_R (qo hnt rfl (s_eql rfl rfl ?_)))
 refine qa hnt rfl rfl (r_end (q_then (w_if rfl (fun c9 => ?_) (fun c9 => ?_))))
 ·have c9_ := c9
  try simp only [sB] at c9
  refine w_seq (W_drawn tabOk mixed hnt [[],[],[1],[0,1,2],[],[4],[0,1,2,3,4,5],[0,1,2,3,4,5,6],(.range 8)] (by kernel_rfl) (d_op (x_run0 [(4,PV.ref 2 0 none)] [] rfl rfl rfl rfl (s_move rfl ⟨rfl,rfl,rfl⟩) (d_op (x_run0 [(1,PV.ptr 0 0)] [] rfl rfl rfl rfl (s_fa_ptr tab_46 rfl rfl tab_3 (by decide) rfl ⟨rfl,rfl,rfl⟩) ?_)))))
  refine d_op (xL [(59,PV.ptr 0 2)] [1] [(0,.obj (cRequest r))] rfl rfl rfl rfl rfl (s_load_ptr1 tab_3 rfl rfl rfl rfl rfl ⟨rfl,rfl,rfl⟩) ⟨rfl,trivial⟩ rfl (d_op (xT [(58,PV.ref 2 0 none),(60,pI r.count)] [0,1,2] [(2,oB true 1 enc8 ([u8I r.fn] ++ put2 r.at_))] [(3,oB true 1 enc8 (([u8I r.fn] ++ put2 r.at_) ++ put2 r.count)),(2,oB false 1 enc8 ([u8I r.fn] ++ put2 r.at_))] [(0,.obj (cRequest r)),(1,oB false 1 enc8 [u8I r.fn])] rfl rfl rfl rfl rfl (s_callX (r2 := PV.ref 3 0 none) (nx1 := 4) (H2 := [(2,oB false 1 enc8 ([u8I r.fn] ++ put2 r.at_))]) (H3 := [(3,oB true 1 enc8 (([u8I r.fn] ++ put2 r.at_) ++ put2 r.count)),(2,oB false 1 enc8 ([u8I r.fn] ++ put2 r.at_))]) [] [] rfl rfl rfl (handed_of (by decide) trivial) rfl rfl rfl rfl rfl rfl (w_burgageref1_Put ([u8I r.fn] ++ put2 r.at_) false r.count (by (simp; done))) rfl (dist_of rfl) rfl rfl rfl rfl ⟨rfl,rfl,rfl⟩) rfl rfl (d_op (x_run0 [(1,PV.ptr 0 0)] [] rfl rfl rfl rfl (s_fa_ptr tab_46 rfl rfl tab_42 (by decide) rfl ⟨rfl,rfl,rfl⟩) ?_)))))
  refine d_op (xL [(62,PV.ptr 0 5)] [4] [(0,.obj (cRequest r))] rfl rfl rfl rfl rfl (s_load_ptr1 tab_42 rfl rfl rfl rfl rfl ⟨rfl,rfl,rfl⟩) ⟨rfl,trivial⟩ rfl (d_op (xT [(63,pS 1 false encBo r.bits)] [0,1,2,3,4,5] [] [(4,oB true 1 enc8 (packL r.bits))] [(3,oB true 1 enc8 (([u8I r.fn] ++ put2 r.at_) ++ put2 r.count)),(2,oB false 1 enc8 ([u8I r.fn] ++ put2 r.at_)),(0,.obj (cRequest r)),(1,oB false 1 enc8 [u8I r.fn])] rfl rfl rfl rfl rfl (s_callX (r2 := PV.ref 4 0 none) (nx1 := 5) (H2 := []) (H3 := [(4,oB true 1 enc8 (packL r.bits))]) [] [] rfl rfl rfl (handed_of (by decide) trivial) rfl rfl rfl rfl rfl rfl (w_burgageref1_Pack r.bits false (by omega)) rfl (dist_of rfl) rfl rfl rfl rfl ⟨rfl,rfl,rfl⟩) rfl rfl (d_op (xT [(61,PV.ref 3 0 none),(64,PV.ref 4 0 none)] [0,1,2,3,4,5,6] [(3,oB true 1 enc8 (([u8I r.fn] ++ put2 r.at_) ++ put2 r.count)),(4,oB true 1 enc8 (packL r.bits))] [(5,oB true 1 enc8 ((([u8I r.fn] ++ put2 r.at_) ++ put2 r.count) ++ rowX (packL r.bits))),(4,oB false 1 enc8 (packL r.bits))] [(2,oB false 1 enc8 ([u8I r.fn] ++ put2 r.at_)),(0,.obj (cRequest r)),(1,oB false 1 enc8 [u8I r.fn])] rfl rfl rfl rfl rfl (s_callX (r2 := PV.ref 5 0 none) (nx1 := 6) (H2 := [(4,oB false 1 enc8 (packL r.bits)),(3,oB true 1 enc8 (([u8I r.fn] ++ put2 r.at_) ++ put2 r.count))]) (H3 := [(5,oB true 1 enc8 ((([u8I r.fn] ++ put2 r.at_) ++ put2 r.count) ++ rowX (packL r.bits))),(4,oB false 1 enc8 (packL r.bits))]) [3] [oB true 1 enc8 (([u8I r.fn] ++ put2 r.at_) ++ put2 r.count)] rfl rfl rfl (handed_of (by decide) ⟨rfl,trivial⟩) rfl rfl rfl rfl rfl rfl (w_burgageref3_row (([u8I r.fn] ++ put2 r.at_) ++ put2 r.count) true (packL r.bits) false (by (simp; done)) (by (simp; omega))) rfl (dist_of rfl) rfl rfl rfl rfl ⟨rfl,rfl,rfl⟩) rfl rfl ?_)))))
  refine d_op (x_run0 [(65,PV.ref 5 0 none)] (.range 8) rfl rfl rfl rfl (s_assign rfl ⟨rfl,rfl,rfl⟩) (d_end ⟨by kernel_rfl, ?_⟩))
  refine q_then (w_low (n := 5) rfl (w_H (H' := [(5,oB false 1 enc8 (writeR r)),(4,oB false 1 enc8 (packL r.bits)),(2,oB false 1 enc8 ([u8I r.fn] ++ put2 r.at_)),(0,.obj (cRequest r)),(1,oB false 1 enc8 [u8I r.fn])]) (congrArg (fun z => ([(5,oB false 1 enc8 z),(4,oB false 1 enc8 (packL r.bits)),(2,oB false 1 enc8 ([u8I r.fn] ++ put2 r.at_)),(0,.obj (cRequest r)),(1,oB false 1 enc8 [u8I r.fn])] : Heap)) (show (([u8I r.fn] ++ put2 r.at_) ++ put2 r.count) ++ rowX (packL r.bits) = writeR r by (rw [writeR_15 (by omega)]; simp; done))) (w_ret (q_block_ret (q_then_ret ?_)))))
  exact fin_names (nx1 := 1) (H1 := [(0,oB false 1 enc8 (writeR r))]) [(0,5)] (ret_tmp rfl ret_nil) rfl (by decide) ⟨⟨_,_,rfl,rfl,rfl,rfl⟩,trivial⟩ (by decide) rfl ⟨rfl,rfl,rfl⟩
 have c9_ := c9
 try simp only [sB] at c9
 refine w_seq (w_R (qo hnt rfl (s_eql rfl rfl ?_)))
 refine qa hnt rfl rfl (r_end (q_then (w_if rfl (fun c10 => ?_) (fun c10 => ?_))))
 ·have c10_ := c10
  try simp only [sB] at c10
  refine w_seq (W_drawn tabOk mixed hnt [[],[],[1],[0,1,2],[],[4],[0,1,2,3,4,5],[0,1,2,3,4,5,6],(.range 8)] (by kernel_rfl) (d_op (x_run0 [(4,PV.ref 2 0 none)] [] rfl rfl rfl rfl (s_move rfl ⟨rfl,rfl,rfl⟩) (d_op (x_run0 [(1,PV.ptr 0 0)] [] rfl rfl rfl rfl (s_fa_ptr tab_46 rfl rfl tab_3 (by decide) rfl ⟨rfl,rfl,rfl⟩) ?_)))))
  refine d_op (xL [(69,PV.ptr 0 2)] [1] [(0,.obj (cRequest r))] rfl rfl rfl rfl rfl (s_load_ptr1 tab_3 rfl rfl rfl rfl rfl ⟨rfl,rfl,rfl⟩) ⟨rfl,trivial⟩ rfl (d_op (xT [(68,PV.ref 2 0 none),(70,pI r.count)] [0,1,2] [(2,oB true 1 enc8 ([u8I r.fn] ++ put2 r.at_))] [(3,oB true 1 enc8 (([u8I r.fn] ++ put2 r.at_) ++ put2 r.count)),(2,oB false 1 enc8 ([u8I r.fn] ++ put2 r.at_))] [(0,.obj (cRequest r)),(1,oB false 1 enc8 [u8I r.fn])] rfl rfl rfl rfl rfl (s_callX (r2 := PV.ref 3 0 none) (nx1 := 4) (H2 := [(2,oB false 1 enc8 ([u8I r.fn] ++ put2 r.at_))]) (H3 := [(3,oB true 1 enc8 (([u8I r.fn] ++ put2 r.at_) ++ put2 r.count)),(2,oB false 1 enc8 ([u8I r.fn] ++ put2 r.at_))]) [] [] rfl rfl rfl (handed_of (by decide) trivial) rfl rfl rfl rfl rfl rfl (w_burgageref1_Put ([u8I r.fn] ++ put2 r.at_) false r.count (by (simp; done))) rfl (dist_of rfl) rfl rfl rfl rfl ⟨rfl,rfl,rfl⟩) rfl rfl (d_op (x_run0 [(1,PV.ptr 0 0)] [] rfl rfl rfl rfl (s_fa_ptr tab_46 rfl rfl tab_43 (by decide) rfl ⟨rfl,rfl,rfl⟩) ?_)))))
  refine d_op (xL [(72,PV.ptr 0 6)] [4] [(0,.obj (cRequest r))] rfl rfl rfl rfl rfl (s_load_ptr1 tab_43 rfl rfl rfl rfl rfl ⟨rfl,rfl,rfl⟩) ⟨rfl,trivial⟩ rfl (d_op (xT [(73,pS 1 false enc16 r.vals)] [0,1,2,3,4,5] [] [(4,oB true 1 enc8 (bytesL r.vals))] [(3,oB true 1 enc8 (([u8I r.fn] ++ put2 r.at_) ++ put2 r.count)),(2,oB false 1 enc8 ([u8I r.fn] ++ put2 r.at_)),(0,.obj (cRequest r)),(1,oB false 1 enc8 [u8I r.fn])] rfl rfl rfl rfl rfl (s_callX (r2 := PV.ref 4 0 none) (nx1 := 5) (H2 := []) (H3 := [(4,oB true 1 enc8 (bytesL r.vals))]) [] [] rfl rfl rfl (handed_of (by decide) trivial) rfl rfl rfl rfl rfl rfl (w_burgageref1_Bytes r.vals false (by omega)) rfl (dist_of rfl) rfl rfl rfl rfl ⟨rfl,rfl,rfl⟩) rfl rfl (d_op (xT [(71,PV.ref 3 0 none),(74,PV.ref 4 0 none)] [0,1,2,3,4,5,6] [(3,oB true 1 enc8 (([u8I r.fn] ++ put2 r.at_) ++ put2 r.count)),(4,oB true 1 enc8 (bytesL r.vals))] [(5,oB true 1 enc8 ((([u8I r.fn] ++ put2 r.at_) ++ put2 r.count) ++ rowX (bytesL r.vals))),(4,oB false 1 enc8 (bytesL r.vals))] [(2,oB false 1 enc8 ([u8I r.fn] ++ put2 r.at_)),(0,.obj (cRequest r)),(1,oB false 1 enc8 [u8I r.fn])] rfl rfl rfl rfl rfl (s_callX (r2 := PV.ref 5 0 none) (nx1 := 6) (H2 := [(4,oB false 1 enc8 (bytesL r.vals)),(3,oB true 1 enc8 (([u8I r.fn] ++ put2 r.at_) ++ put2 r.count))]) (H3 := [(5,oB true 1 enc8 ((([u8I r.fn] ++ put2 r.at_) ++ put2 r.count) ++ rowX (bytesL r.vals))),(4,oB false 1 enc8 (bytesL r.vals))]) [3] [oB true 1 enc8 (([u8I r.fn] ++ put2 r.at_) ++ put2 r.count)] rfl rfl rfl (handed_of (by decide) ⟨rfl,trivial⟩) rfl rfl rfl rfl rfl rfl (w_burgageref3_row (([u8I r.fn] ++ put2 r.at_) ++ put2 r.count) true (bytesL r.vals) false (by (simp; done)) (by (simp; omega))) rfl (dist_of rfl) rfl rfl rfl rfl ⟨rfl,rfl,rfl⟩) rfl rfl ?_)))))
  refine d_op (x_run0 [(75,PV.ref 5 0 none)] (.range 8) rfl rfl rfl rfl (s_assign rfl ⟨rfl,rfl,rfl⟩) (d_end ⟨by kernel_rfl, ?_⟩))
  refine q_then (w_low (n := 5) rfl (w_H (H' := [(5,oB false 1 enc8 (writeR r)),(4,oB false 1 enc8 (bytesL r.vals)),(2,oB false 1 enc8 ([u8I r.fn] ++ put2 r.at_)),(0,.obj (cRequest r)),(1,oB false 1 enc8 [u8I r.fn])]) (congrArg (fun z => ([(5,oB false 1 enc8 z),(4,oB false 1 enc8 (bytesL r.vals)),(2,oB false 1 enc8 ([u8I r.fn] ++ put2 r.at_)),(0,.obj (cRequest r)),(1,oB false 1 enc8 [u8I r.fn])] : Heap)) (show (([u8I r.fn] ++ put2 r.at_) ++ put2 r.count) ++ rowX (bytesL r.vals) = writeR r by (rw [writeR_16 (by omega)]; simp; done))) (w_ret (q_block_ret (q_then_ret ?_)))))
  exact fin_names (nx1 := 1) (H1 := [(0,oB false 1 enc8 (writeR r))]) [(0,5)] (ret_tmp rfl ret_nil) rfl (by decide) ⟨⟨_,_,rfl,rfl,rfl,rfl⟩,trivial⟩ (by decide) rfl ⟨rfl,rfl,rfl⟩
 have c10_ := c10
 try simp only [sB] at c10
 refine w_seq (w_R (qo hnt rfl (s_eql rfl rfl ?_)))
 refine qa hnt rfl rfl (r_end (q_then (w_if rfl (fun c11 => ?_) (fun c11 => ?_))))
 ·have c11_ := c11
  try simp only [sB] at c11
  refine w_seq (W_drawn tabOk mixed hnt [[],[],[1],[1,2],[0,1,2,3],[],[5],[5,6],(.range 8),(.range 9)] (by kernel_rfl) (d_op (x_run0 [(4,PV.ref 2 0 none)] [] rfl rfl rfl rfl (s_move rfl ⟨rfl,rfl,rfl⟩) (d_op (x_run0 [(1,PV.ptr 0 0)] [] rfl rfl rfl rfl (s_fa_ptr tab_46 rfl rfl tab_44 (by decide) rfl ⟨rfl,rfl,rfl⟩) ?_)))))
  refine d_op (xL [(79,PV.ptr 0 7)] [1] [(0,.obj (cRequest r))] rfl rfl rfl rfl rfl (s_load_ptr1 tab_44 rfl rfl rfl rfl rfl ⟨rfl,rfl,rfl⟩) ⟨rfl,trivial⟩ rfl (d_op (x_run0 [(80,p16 r.and_)] [1,2] rfl rfl rfl rfl (s_cvN (a := UInt16.toNat r.and_) tab_44 tab_3 rfl rfl rfl (by omega) (by have := lt16 r.and_; omega) ⟨rfl,rfl,rfl⟩) (d_op (xT [(78,PV.ref 2 0 none),(81,pN (UInt16.toNat r.and_))] [0,1,2,3] [(2,oB true 1 enc8 ([u8I r.fn] ++ put2 r.at_))] [(3,oB true 1 enc8 (([u8I r.fn] ++ put2 r.at_) ++ put2 ((UInt16.toNat r.and_ : Nat) : Int))),(2,oB false 1 enc8 ([u8I r.fn] ++ put2 r.at_))] [(0,.obj (cRequest r)),(1,oB false 1 enc8 [u8I r.fn])] rfl rfl rfl rfl rfl (s_callX (r2 := PV.ref 3 0 none) (nx1 := 4) (H2 := [(2,oB false 1 enc8 ([u8I r.fn] ++ put2 r.at_))]) (H3 := [(3,oB true 1 enc8 (([u8I r.fn] ++ put2 r.at_) ++ put2 ((UInt16.toNat r.and_ : Nat) : Int))),(2,oB false 1 enc8 ([u8I r.fn] ++ put2 r.at_))]) [] [] rfl rfl rfl (handed_of (by decide) trivial) rfl rfl rfl rfl rfl rfl (w_burgageref1_Put ([u8I r.fn] ++ put2 r.at_) false ((UInt16.toNat r.and_ : Nat) : Int) (by (simp; done))) rfl (dist_of rfl) rfl rfl rfl rfl ⟨rfl,rfl,rfl⟩) rfl rfl ?_)))))
  refine d_op (x_run0 [(1,PV.ptr 0 0)] [] rfl rfl rfl rfl (s_fa_ptr tab_46 rfl rfl tab_44 (by decide) rfl ⟨rfl,rfl,rfl⟩) (d_op (xL [(83,PV.ptr 0 8)] [5] [(0,.obj (cRequest r))] rfl rfl rfl rfl rfl (s_load_ptr1 tab_44 rfl rfl rfl rfl rfl ⟨rfl,rfl,rfl⟩) ⟨rfl,trivial⟩ rfl (d_op (x_run0 [(84,p16 r.or_)] [5,6] rfl rfl rfl rfl (s_cvN (a := UInt16.toNat r.or_) tab_44 tab_3 rfl rfl rfl (by omega) (by have := lt16 r.or_; omega) ⟨rfl,rfl,rfl⟩) ?_)))))
  refine d_op (xT [(82,PV.ref 3 0 none),(85,pN (UInt16.toNat r.or_))] (.range 8) [(3,oB true 1 enc8 (([u8I r.fn] ++ put2 r.at_) ++ put2 ((UInt16.toNat r.and_ : Nat) : Int)))] [(4,oB true 1 enc8 ((([u8I r.fn] ++ put2 r.at_) ++ put2 ((UInt16.toNat r.and_ : Nat) : Int)) ++ put2 ((UInt16.toNat r.or_ : Nat) : Int))),(3,oB false 1 enc8 (([u8I r.fn] ++ put2 r.at_) ++ put2 ((UInt16.toNat r.and_ : Nat) : Int)))] [(2,oB false 1 enc8 ([u8I r.fn] ++ put2 r.at_)),(0,.obj (cRequest r)),(1,oB false 1 enc8 [u8I r.fn])] rfl rfl rfl rfl rfl (s_callX (r2 := PV.ref 4 0 none) (nx1 := 5) (H2 := [(3,oB false 1 enc8 (([u8I r.fn] ++ put2 r.at_) ++ put2 ((UInt16.toNat r.and_ : Nat) : Int)))]) (H3 := [(4,oB true 1 enc8 ((([u8I r.fn] ++ put2 r.at_) ++ put2 ((UInt16.toNat r.and_ : Nat) : Int)) ++ put2 ((UInt16.toNat r.or_ : Nat) : Int))),(3,oB false 1 enc8 (([u8I r.fn] ++ put2 r.at_) ++ put2 ((UInt16.toNat r.and_ : Nat) : Int)))]) [] [] rfl rfl rfl (handed_of (by decide) trivial) rfl rfl rfl rfl rfl rfl (w_burgageref1_Put (([u8I r.fn] ++ put2 r.at_) ++ put2 ((UInt16.toNat r.and_ : Nat) : Int)) false ((UInt16.toNat r.or_ : Nat) : Int) (by (simp; done))) rfl (dist_of rfl) rfl rfl rfl rfl ⟨rfl,rfl,rfl⟩) rfl rfl (d_op (x_run0 [(86,PV.ref 4 0 none)] (.range 9) rfl rfl rfl rfl (s_assign rfl ⟨rfl,rfl,rfl⟩) (d_end ⟨by kernel_rfl, ?_⟩))))
  refine q_then (w_low (n := 4) rfl (w_H (H' := [(4,oB false 1 enc8 (writeR r)),(3,oB false 1 enc8 (([u8I r.fn] ++ put2 r.at_) ++ put2 ((UInt16.toNat r.and_ : Nat) : Int))),(2,oB false 1 enc8 ([u8I r.fn] ++ put2 r.at_)),(0,.obj (cRequest r)),(1,oB false 1 enc8 [u8I r.fn])]) (congrArg (fun z => ([(4,oB false 1 enc8 z),(3,oB false 1 enc8 (([u8I r.fn] ++ put2 r.at_) ++ put2 ((UInt16.toNat r.and_ : Nat) : Int))),(2,oB false 1 enc8 ([u8I r.fn] ++ put2 r.at_)),(0,.obj (cRequest r)),(1,oB false 1 enc8 [u8I r.fn])] : Heap)) (show (([u8I r.fn] ++ put2 r.at_) ++ put2 ((UInt16.toNat r.and_ : Nat) : Int)) ++ put2 ((UInt16.toNat r.or_ : Nat) : Int) = writeR r by (rw [writeR_22 (by omega)]; simp; done))) (w_ret (q_block_ret (q_then_ret ?_)))))
  exact fin_names (nx1 := 1) (H1 := [(0,oB false 1 enc8 (writeR r))]) [(0,4)] (ret_tmp rfl ret_nil) rfl (by decide) ⟨⟨_,_,rfl,rfl,rfl,rfl⟩,trivial⟩ (by decide) rfl ⟨rfl,rfl,rfl⟩
 have c11_ := c11
 try simp only [sB] at c11
 refine w_seq (w_R (qo hnt rfl (s_eql rfl rfl ?_)))
 refine qa hnt rfl rfl (r_end (q_then (w_if rfl (fun c12 => ?_) (fun c12 => ?_))))
 ·have c12_ := c12
  try simp only [sB] at c12
  refine w_seq (W_drawn tabOk mixed hnt [[],[],[1],[0,1,2],[],[4],[0,1,2,3,4,5],[],[7],[7,8],(.range 10),(.range 11)] (by kernel_rfl) (d_op (x_run0 [(4,PV.ref 2 0 none)] [] rfl rfl rfl rfl (s_move rfl ⟨rfl,rfl,rfl⟩) (d_op (x_run0 [(1,PV.ptr 0 0)] [] rfl rfl rfl rfl (s_fa_ptr tab_46 rfl rfl tab_3 (by decide) rfl ⟨rfl,rfl,rfl⟩) ?_)))))
  refine d_op (xL [(90,PV.ptr 0 2)] [1] [(0,.obj (cRequest r))] rfl rfl rfl rfl rfl (s_load_ptr1 tab_3 rfl rfl rfl rfl rfl ⟨rfl,rfl,rfl⟩) ⟨rfl,trivial⟩ rfl (d_op (xT [(89,PV.ref 2 0 none),(91,pI r.count)] [0,1,2] [(2,oB true 1 enc8 ([u8I r.fn] ++ put2 r.at_))] [(3,oB true 1 enc8 (([u8I r.fn] ++ put2 r.at_) ++ put2 r.count)),(2,oB false 1 enc8 ([u8I r.fn] ++ put2 r.at_))] [(0,.obj (cRequest r)),(1,oB false 1 enc8 [u8I r.fn])] rfl rfl rfl rfl rfl (s_callX (r2 := PV.ref 3 0 none) (nx1 := 4) (H2 := [(2,oB false 1 enc8 ([u8I r.fn] ++ put2 r.at_))]) (H3 := [(3,oB true 1 enc8 (([u8I r.fn] ++ put2 r.at_) ++ put2 r.count)),(2,oB false 1 enc8 ([u8I r.fn] ++ put2 r.at_))]) [] [] rfl rfl rfl (handed_of (by decide) trivial) rfl rfl rfl rfl rfl rfl (w_burgageref1_Put ([u8I r.fn] ++ put2 r.at_) false r.count (by (simp; done))) rfl (dist_of rfl) rfl rfl rfl rfl ⟨rfl,rfl,rfl⟩) rfl rfl (d_op (x_run0 [(1,PV.ptr 0 0)] [] rfl rfl rfl rfl (s_fa_ptr tab_46 rfl rfl tab_3 (by decide) rfl ⟨rfl,rfl,rfl⟩) ?_)))))
  refine d_op (xL [(93,PV.ptr 0 3)] [4] [(0,.obj (cRequest r))] rfl rfl rfl rfl rfl (s_load_ptr1 tab_3 rfl rfl rfl rfl rfl ⟨rfl,rfl,rfl⟩) ⟨rfl,trivial⟩ rfl (d_op (xT [(92,PV.ref 3 0 none),(94,pI r.wAt)] [0,1,2,3,4,5] [(3,oB true 1 enc8 (([u8I r.fn] ++ put2 r.at_) ++ put2 r.count))] [(4,oB true 1 enc8 ((([u8I r.fn] ++ put2 r.at_) ++ put2 r.count) ++ put2 r.wAt)),(3,oB false 1 enc8 (([u8I r.fn] ++ put2 r.at_) ++ put2 r.count))] [(2,oB false 1 enc8 ([u8I r.fn] ++ put2 r.at_)),(0,.obj (cRequest r)),(1,oB false 1 enc8 [u8I r.fn])] rfl rfl rfl rfl rfl (s_callX (r2 := PV.ref 4 0 none) (nx1 := 5) (H2 := [(3,oB false 1 enc8 (([u8I r.fn] ++ put2 r.at_) ++ put2 r.count))]) (H3 := [(4,oB true 1 enc8 ((([u8I r.fn] ++ put2 r.at_) ++ put2 r.count) ++ put2 r.wAt)),(3,oB false 1 enc8 (([u8I r.fn] ++ put2 r.at_) ++ put2 r.count))]) [] [] rfl rfl rfl (handed_of (by decide) trivial) rfl rfl rfl rfl rfl rfl (w_burgageref1_Put (([u8I r.fn] ++ put2 r.at_) ++ put2 r.count) false r.wAt (by (simp; done))) rfl (dist_of rfl) rfl rfl rfl rfl ⟨rfl,rfl,rfl⟩) rfl rfl (d_op (x_run0 [(1,PV.ptr 0 0)] [] rfl rfl rfl rfl (s_fa_ptr tab_46 rfl rfl tab_43 (by decide) rfl ⟨rfl,rfl,rfl⟩) ?_)))))
  refine d_op (xL [(96,PV.ptr 0 6)] [7] [(0,.obj (cRequest r))] rfl rfl rfl rfl rfl (s_load_ptr1 tab_43 rfl rfl rfl rfl rfl ⟨rfl,rfl,rfl⟩) ⟨rfl,trivial⟩ rfl (d_op (x_run0 [(97,pS 1 false enc16 r.vals)] [7,8] rfl rfl rfl rfl (s_lenM (l := r.vals) tab_43 rfl (hM_sl (f := enc16) rfl) ⟨rfl,rfl,rfl⟩) (d_op (xT [(95,PV.ref 4 0 none),(98,pN r.vals.length)] (.range 10) [(4,oB true 1 enc8 ((([u8I r.fn] ++ put2 r.at_) ++ put2 r.count) ++ put2 r.wAt))] [(5,oB true 1 enc8 (((([u8I r.fn] ++ put2 r.at_) ++ put2 r.count) ++ put2 r.wAt) ++ put2 ((r.vals.length : Nat) : Int))),(4,oB false 1 enc8 ((([u8I r.fn] ++ put2 r.at_) ++ put2 r.count) ++ put2 r.wAt))] [(3,oB false 1 enc8 (([u8I r.fn] ++ put2 r.at_) ++ put2 r.count)),(2,oB false 1 enc8 ([u8I r.fn] ++ put2 r.at_)),(0,.obj (cRequest r)),(1,oB false 1 enc8 [u8I r.fn])] rfl rfl rfl rfl rfl (s_callX (r2 := PV.ref 5 0 none) (nx1 := 6) (H2 := [(4,oB false 1 enc8 ((([u8I r.fn] ++ put2 r.at_) ++ put2 r.count) ++ put2 r.wAt))]) (H3 := [(5,oB true 1 enc8 (((([u8I r.fn] ++ put2 r.at_) ++ put2 r.count) ++ put2 r.wAt) ++ put2 ((r.vals.length : Nat) : Int))),(4,oB false 1 enc8 ((([u8I r.fn] ++ put2 r.at_) ++ put2 r.count) ++ put2 r.wAt))]) [] [] rfl rfl rfl (handed_of (by decide) trivial) rfl rfl rfl rfl rfl rfl (w_burgageref1_Put ((([u8I r.fn] ++ put2 r.at_) ++ put2 r.count) ++ put2 r.wAt) false ((r.vals.length : Nat) : Int) (by (simp; done))) rfl (dist_of rfl) rfl rfl rfl rfl ⟨rfl,rfl,rfl⟩) rfl rfl ?_)))))
  refine d_op (x_run0 [(99,PV.ref 5 0 none)] (.range 11) rfl rfl rfl rfl (s_assign rfl ⟨rfl,rfl,rfl⟩) (d_end ⟨by kernel_rfl, ?_⟩))
  refine q_then (w_seq (w_R (qm hnt rfl rfl (qo hnt rfl (s_fa_ptr tab_46 rfl rfl tab_43 (by decide) rfl ?_)))))
  refine qo hnt rfl (s_load_ptr1 tab_43 rfl rfl rfl rfl rfl ?_)
  refine qo hnt rfl (s_callX (r2 := PV.ref 6 0 none) (nx1 := 7) (H2 := [(5,oB true 1 enc8 (((([u8I r.fn] ++ put2 r.at_) ++ put2 r.count) ++ put2 r.wAt) ++ put2 ((r.vals.length : Nat) : Int))),(4,oB false 1 enc8 ((([u8I r.fn] ++ put2 r.at_) ++ put2 r.count) ++ put2 r.wAt)),(3,oB false 1 enc8 (([u8I r.fn] ++ put2 r.at_) ++ put2 r.count)),(2,oB false 1 enc8 ([u8I r.fn] ++ put2 r.at_)),(0,.obj (cRequest r)),(1,oB false 1 enc8 [u8I r.fn])]) (H3 := [(6,oB true 1 enc8 (bytesL r.vals)),(5,oB true 1 enc8 (((([u8I r.fn] ++ put2 r.at_) ++ put2 r.count) ++ put2 r.wAt) ++ put2 ((r.vals.length : Nat) : Int))),(4,oB false 1 enc8 ((([u8I r.fn] ++ put2 r.at_) ++ put2 r.count) ++ put2 r.wAt)),(3,oB false 1 enc8 (([u8I r.fn] ++ put2 r.at_) ++ put2 r.count)),(2,oB false 1 enc8 ([u8I r.fn] ++ put2 r.at_)),(0,.obj (cRequest r)),(1,oB false 1 enc8 [u8I r.fn])]) [] [] rfl rfl rfl (handed_of (by decide) trivial) rfl rfl rfl rfl rfl rfl (w_burgageref1_Bytes r.vals false (by omega)) rfl (dist_of rfl) rfl rfl rfl rfl ?_)
  refine qo hnt rfl (s_callX (r2 := PV.ref 7 0 none) (nx1 := 8) (H2 := [(6,oB false 1 enc8 (bytesL r.vals)),(5,oB true 1 enc8 (((([u8I r.fn] ++ put2 r.at_) ++ put2 r.count) ++ put2 r.wAt) ++ put2 ((r.vals.length : Nat) : Int))),(4,oB false 1 enc8 ((([u8I r.fn] ++ put2 r.at_) ++ put2 r.count) ++ put2 r.wAt)),(3,oB false 1 enc8 (([u8I r.fn] ++ put2 r.at_) ++ put2 r.count)),(2,oB false 1 enc8 ([u8I r.fn] ++ put2 r.at_)),(0,.obj (cRequest r)),(1,oB false 1 enc8 [u8I r.fn])]) (H3 := [(7,oB true 1 enc8 ((((([u8I r.fn] ++ put2 r.at_) ++ put2 r.count) ++ put2 r.wAt) ++ put2 ((r.vals.length : Nat) : Int)) ++ rowX (bytesL r.vals))),(6,oB false 1 enc8 (bytesL r.vals)),(4,oB false 1 enc8 ((([u8I r.fn] ++ put2 r.at_) ++ put2 r.count) ++ put2 r.wAt)),(3,oB false 1 enc8 (([u8I r.fn] ++ put2 r.at_) ++ put2 r.count)),(2,oB false 1 enc8 ([u8I r.fn] ++ put2 r.at_)),(0,.obj (cRequest r)),(1,oB false 1 enc8 [u8I r.fn])]) [5] [oB true 1 enc8 (((([u8I r.fn] ++ put2 r.at_) ++ put2 r.count) ++ put2 r.wAt) ++ put2 ((r.vals.length : Nat) : Int))] rfl rfl rfl (handed_of (by decide) ⟨rfl,trivial⟩) rfl rfl rfl rfl rfl rfl (w_burgageref3_row (((([u8I r.fn] ++ put2 r.at_) ++ put2 r.count) ++ put2 r.wAt) ++ put2 ((r.vals.length : Nat) : Int)) true (bytesL r.vals) false (by (simp; done)) (by (simp; omega))) rfl (dist_of rfl) rfl rfl rfl rfl ?_)
  refine qa hnt rfl rfl (r_set [(2,PV.ref 7 0 none)] [(7,oB true 1 enc8 ((((([u8I r.fn] ++ put2 r.at_) ++ put2 r.count) ++ put2 r.wAt) ++ put2 ((r.vals.length : Nat) : Int)) ++ rowX (bytesL r.vals))),(6,oB false 1 enc8 (bytesL r.vals)),(4,oB false 1 enc8 ((([u8I r.fn] ++ put2 r.at_) ++ put2 r.count) ++ put2 r.wAt)),(3,oB false 1 enc8 (([u8I r.fn] ++ put2 r.at_) ++ put2 r.count)),(2,oB false 1 enc8 ([u8I r.fn] ++ put2 r.at_)),(0,.obj (cRequest r)),(1,oB false 1 enc8 [u8I r.fn])] 8 ⟨rfl,trivial⟩ rfl rfl (r_end (q_then (w_low (n := 7) rfl (w_H (H' := [(7,oB false 1 enc8 (writeR r)),(6,oB false 1 enc8 (bytesL r.vals)),(4,oB false 1 enc8 ((([u8I r.fn] ++ put2 r.at_) ++ put2 r.count) ++ put2 r.wAt)),(3,oB false 1 enc8 (([u8I r.fn] ++ put2 r.at_) ++ put2 r.count)),(2,oB false 1 enc8 ([u8I r.fn] ++ put2 r.at_)),(0,.obj (cRequest r)),(1,oB false 1 enc8 [u8I r.fn])]) (congrArg (fun z => ([(7,oB false 1 enc8 z),(6,oB false 1 enc8 (bytesL r.vals)),(4,oB false 1 enc8 ((([u8I r.fn] ++ put2 r.at_) ++ put2 r.count) ++ put2 r.wAt)),(3,oB false 1 enc8 (([u8I r.fn] ++ put2 r.at_) ++ put2 r.count)),(2,oB false 1 enc8 ([u8I r.fn] ++ put2 r.at_)),(0,.obj (cRequest r)),(1,oB false 1 enc8 [u8I r.fn])] : Heap)) (show (((([u8I r.fn] ++ put2 r.at_) ++ put2 r.count) ++ put2 r.wAt) ++ put2 ((r.vals.length : Nat) : Int)) ++ rowX (bytesL r.vals) = writeR r by (rw [writeR_23 (by omega)]; simp; done))) ?_)))))
  refine w_ret (q_block_ret (q_then_ret ?_))
  exact fin_names (nx1 := 1) (H1 := [(0,oB false 1 enc8 (writeR r))]) [(0,7)] (ret_tmp rfl ret_nil) rfl (by decide) ⟨⟨_,_,rfl,rfl,rfl,rfl⟩,trivial⟩ (by decide) rfl ⟨rfl,rfl,rfl⟩
 have c12_ := c12
 try simp only [sB] at c12
 refine w_skip (q_block (q_then (w_seq (w_R (qm hnt rfl rfl ?_)))))
 refine qa hnt rfl rfl (r_end (q_then (w_H (H' := [(0,.obj (cRequest r)),(1,oB false 1 enc8 (writeR r)),(2,oB true 1 enc8 ([u8I r.fn] ++ put2 r.at_))]) (congrArg (fun z => ([(0,.obj (cRequest r)),(1,oB false 1 enc8 z),(2,oB true 1 enc8 ([u8I r.fn] ++ put2 r.at_))] : Heap)) (show [u8I r.fn] = writeR r by (rw [writeR_no (by omega)]; done))) (w_ret ?_))))
 exact fin_names (nx1 := 1) (H1 := [(0,oB false 1 enc8 (writeR r))]) [(0,1)] (ret_tmp rfl ret_nil) rfl (by decide) ⟨⟨_,_,rfl,rfl,rfl,rfl⟩,trivial⟩ (by decide) rfl ⟨rfl,rfl,rfl⟩
end Go.Proofs.Ytljkbpgcglomfaa
set_option linter.unusedVariables false
namespace Go.Proofs.Ytljkbpgcglomfaa
open Go Go.Proofs.Ytljkbpgcglomfaa.Pv
def tNext (L : List Int) (a : Nat) (n : Int) : Int := if L.length ≤ a ∨ n < 1 then 0 else (within (L.getD a 0) 0 1073741824).tmod n
def tStep (L : List Int) (a : Nat) (n : Int) : Nat := if L.length ≤ a ∨ n < 1 then a else a + 1
theorem tNext_lt (L : List Int) (a : Nat) {n : Int} (h : 1 ≤ n) : 0 ≤ tNext L a n ∧ tNext L a n < n := by
  unfold tNext
  split
  · omega
  · have := within_between (L.getD a 0) (lo := 0) (hi := 1073741824) (by decide)
    exact ⟨Int.tmod_nonneg _ this.1,Int.tmod_lt_of_pos _ (by omega)⟩
def tRow {α : Type} (f : Int → α) (n : Int) (L : List Int) (a : Nat) : Nat → List α × Nat
  | 0 => ([],a)
  | k + 1 => ((tRow f n L a k).1 ++ [f (tNext L (tRow f n L a k).2 n)],tStep L (tRow f n L a k).2 n)
theorem tRow_length {α : Type} (f : Int → α) (n : Int) (L : List Int) (a : Nat) : ∀ k,(tRow f n L a k).1.length = k
  | 0 => rfl
  | k + 1 => by simp [tRow,tRow_length f n L a k]
def fnsL : List Int := [1,2,3,4,5,6,8,15,16,17,22,23]
def isOne (n : Int) : Bool := decide (n = 1)
section
variable {L : List Int} {f w : Int} {a : Nat}
theorem u16I_ofNat {x : Int} : (u16I x).toNat = (x % 65536).toNat := by
  simp only [u16I]
  rw [UInt16.toNat_ofNat']; omega
end
theorem fns_has {i : Nat} {f : Int} (h : fnsL[i]? = some f) : hasF f = true := by
  have hz := List.mem_of_getElem? h
  simp only [fnsL,List.mem_cons,List.not_mem_nil,or_false] at hz
  unfold hasF
  exact decide_eq_true (by omega)
end Go.Proofs.Ytljkbpgcglomfaa
set_option linter.unusedVariables false
set_option linter.unusedSimpArgs false
set_option maxRecDepth 10000
set_option maxHeartbeats 1000000
namespace Go.Proofs.Ytljkbpgcglomfaa
open Go Go.Proofs.Ytljkbpgcglomfaa.Pv
theorem w_reply_within (n : Int)  :
    T Try.prog 96 [pI n] 0 [] (Ret (pB (wordOk n)) 0 []) := by
 refine t_fun tabOk (n := 9) (rs := [.tmp 2]) Try.func96 rfl rfl rfl rfl (Nat.le_of_ble_eq_true rfl) ?_
 intro c hnt hk
 refine w_seq (w_R (qa hnt rfl rfl (r_end (q_then (w_seq ?_)))))
 refine w_R (qm hnt rfl rfl (qo hnt rfl (s_geq rfl rfl ?_)))
 refine qm hnt rfl rfl (r_cut0 3 [(2,pB false),(8,pB ((decide (0 ≤ n)) && (decide (n ≤ 65535))))] ?_ ?_)
 ·refine r_if tabOk hnt rfl rfl rfl (fun g1 => ?_) (fun g1 => ?_)
  ·have g1' := g1
   try simp only [sB] at g1'
   refine qm hnt rfl rfl (ry hnt rfl rfl rfl g1 (qo hnt rfl (s_leq rfl rfl ?_)))
   refine qo hnt rfl (s_pick_t rfl g1 rfl ?_)
   refine r_eq (s := 8) (y := pB ((decide (0 ≤ n)) && (decide (n ≤ 65535)))) rfl (mix_at g1) ?_
   exact r_mid ⟨⟨rfl,rfl,trivial⟩,rfl,rfl⟩
  ·have g1' := g1
   try simp only [sB] at g1'
   refine rn hnt rfl rfl rfl g1 (qo hnt rfl (s_pick_f rfl g1 rfl ?_))
   refine r_eq (s := 8) (y := pB ((decide (0 ≤ n)) && (decide (n ≤ 65535)))) rfl (mix_af _ g1) ?_
   exact r_mid ⟨⟨rfl,rfl,trivial⟩,rfl,rfl⟩
 ·refine qa hnt rfl rfl (r_end (q_then (w_le (s := 2) (y := pB (wordOk n)) rfl (le_of_eq (congrArg pB (show ((decide (0 ≤ n)) && (decide (n ≤ 65535))) = (wordOk n) by unfold wordOk; apply Bool.eq_iff_iff.2; simp only [Bool.and_eq_true,Bool.or_eq_true,Bool.not_eq_true',decide_eq_true_eq,decide_eq_false_iff_not,u16z]; try omega))) (w_ret ?_))))
  exact fin_plain (ret_tmp rfl ret_nil) rfl rfl ⟨rfl,rfl,rfl⟩
theorem w_burgageref3_bits (s : List Bool) (cl_s : Bool) (m : List Bool) (cl_m : Bool) (hs : s.length ≤ 140737488355328) :
    T Try.prog 59 [pS 1 cl_s encBo s,pS 1 cl_m encBo m] 0 [] (Ret (pB (decide (s = m))) 0 []) := by
 refine t_fun tabOk (n := 26) (rs := [.tmp 4]) Try.func59 rfl rfl rfl rfl (Nat.le_of_ble_eq_true rfl) ?_
 intro c hnt hk
 refine w_seq (w_R (qa hnt rfl rfl (r_end (q_then (w_seq ?_)))))
 refine w_seq (w_R (qm hnt rfl rfl (qo hnt rfl (s_lenM (l := s) tab_42 rfl (hM_sl (f := encBo) rfl) ?_))))
 refine qm hnt rfl rfl (qo hnt rfl (s_lenM (l := m) tab_42 rfl (hM_sl (f := encBo) rfl) ?_))
 refine qo hnt rfl (s_neq rfl rfl ?_)
 refine r_end (q_then (w_if rfl (fun c1 => ?_) (fun c1 => ?_)))
 ·try simp only [sB] at c1
  have hne : s ≠ m := fun e => by subst e; simp at c1
  refine w_seq (w_R (qa hnt rfl rfl (r_end (q_then (w_le (s := 4) (y := pB (decide (s = m))) rfl (le_of_eq (congrArg pB (show false = (decide (s = m)) by simp [hne]))) ?_)))))
  refine w_ret (q_then_ret ?_)
  exact fin_plain (ret_tmp rfl ret_nil) rfl rfl ⟨rfl,rfl,rfl⟩
 try simp only [sB] at c1
 have hlm : s.length = m.length := by omega
 refine w_skip (q_then (w_seq (w_seq (w_R (qm hnt rfl rfl ?_)))))
 refine qo hnt rfl (s_lenM (l := s) tab_42 rfl (hM_sl (f := encBo) rfl) ?_)
 refine qm hnt rfl rfl (r_end (q_then (w_block (loop1 (fun (i : Nat) => i ≤ s.length ∧ s.take i = m.take i) (fun (i : Nat) => [(0,pS 1 cl_s encBo s),(1,pS 1 cl_m encBo m),(12,pN s.length),(13,pN i)]) 0 (fun (i : Nat) => []) (fun (i : Nat) => s.length - i) (0) ?_ ⟨[],rfl,⟨⟨_,rfl,rfl,rfl⟩,⟨_,rfl,rfl,rfl⟩,⟨_,rfl,rfl,rfl⟩,⟨_,rfl,rfl,rfl⟩,trivial⟩,trivial,by rw [hk]; decide⟩ ?_))))
 · exact ⟨Nat.zero_le _,by simp⟩
 ·intro i hI
  obtain ⟨hi,ht⟩ := hI
  refine w_seq (w_R (qo hnt rfl (s_lss rfl rfl ?_)))
  refine r_end (q_then (w_seq (w_if rfl (fun c2 => ?_) (fun c2 => ?_))))
  ·try simp only [sB] at c2
   refine w_skip (q_then (w_seq (w_block (w_seq (w_R ?_)))))
   refine qm hnt rfl rfl (qa hnt rfl rfl (r_end (q_then (w_seq (W_drawn tabOk mixed hnt [[],[],[0,1],[0,1,2],[],[],[4,5],[4,5,6],(.range 8)] (by kernel_rfl) ?_)))))
   refine d_op (x_run0 [(0,pS 1 cl_s encBo s)] [] rfl rfl rfl rfl (s_move rfl ⟨rfl,rfl,rfl⟩) (d_op (x_run0 [(5,pN i)] [] rfl rfl rfl rfl (s_move rfl ⟨rfl,rfl,rfl⟩) (d_op ?_))))
   obtain ⟨e1,he1⟩ := get_of_lt s (i := i) (by omega)
   refine x_run0 [(16,pS 1 cl_s encBo s),(17,pN i)] [0,1] rfl rfl rfl rfl (s_iaM (q := i) (b := e1) (f := encBo) tab_42 rfl tab_4 rfl rfl (by omega) rfl he1 ⟨rfl,rfl,rfl⟩) (d_op (x_run0 [(18,PV.f (.ro (encBo e1)))] [0,1,2] rfl rfl rfl rfl (s_load_ro1 tab_4 rfl rfl rfl rfl ⟨rfl,rfl,rfl⟩) (d_op (x_run0 [(1,pS 1 cl_m encBo m)] [] rfl rfl rfl rfl (s_move rfl ⟨rfl,rfl,rfl⟩) (d_op ?_)))))
   refine x_run0 [(5,pN i)] [] rfl rfl rfl rfl (s_move rfl ⟨rfl,rfl,rfl⟩) (d_op ?_)
   obtain ⟨e2,he2⟩ := get_of_lt m (i := i) (by omega)
   refine x_run0 [(20,pS 1 cl_m encBo m),(21,pN i)] [4,5] rfl rfl rfl rfl (s_iaM (q := i) (b := e2) (f := encBo) tab_42 rfl tab_4 rfl rfl (by omega) rfl he2 ⟨rfl,rfl,rfl⟩) (d_op (x_run0 [(22,PV.f (.ro (encBo e2)))] [4,5,6] rfl rfl rfl rfl (s_load_ro1 tab_4 rfl rfl rfl rfl ⟨rfl,rfl,rfl⟩) (d_op (x_run0 [(19,pB e1),(23,pB e2)] (.range 8) rfl rfl rfl rfl (s_nebool tab_4 rfl rfl rfl ⟨rfl,rfl,rfl⟩) (d_end ⟨by kernel_rfl, ?_⟩)))))
   refine q_then (w_if rfl (fun c3 => ?_) (fun c3 => ?_))
   ·try simp only [sB] at c3
    have hne : s ≠ m := fun e => by subst e; rw [he1] at he2; cases he2; simp at c3
    refine w_seq (w_R (qa hnt rfl rfl (r_end (q_then (w_le (s := 4) (y := pB (decide (s = m))) rfl (le_of_eq (congrArg pB (show false = (decide (s = m)) by simp [hne]))) ?_)))))
    refine w_ret (q_block_ret (q_then_ret (q_then_ret (q_block_ret (q_then_ret ?_)))))
    exact fin_plain (ret_tmp rfl ret_nil) rfl rfl ⟨rfl,rfl,rfl⟩
   try simp only [sB] at c3
   have c3e : e1 = e2 := by simpa using c3
   refine w_skip (q_block (q_then (w_R (qo hnt rfl (s_addN (a := i) (b := 1) rfl rfl (by omega) (by omega) (by omega) ?_)))))
   refine qm hnt rfl rfl (r_end (q_then (⟨(i + 1), ?_, ?_,⟨[],rfl,⟨⟨_,rfl,rfl,rfl⟩,⟨_,rfl,rfl,rfl⟩,⟨_,rfl,rfl,rfl⟩,⟨_,rfl,rfl,rfl⟩,trivial⟩,trivial,by rw [hk]; decide⟩⟩)))
   ·refine ⟨by omega, ?_⟩
    rw [List.take_add_one,List.take_add_one,he1,he2,ht,c3e]
   · omega
  try simp only [sB] at c2
  have h1 : s.take i = s := List.take_of_length_le (by omega)
  have h2 : m.take i = m := List.take_of_length_le (by omega)
  have he : s = m := by rw [← h1,← h2,ht]
  refine w_exit (q_then_exit (q_then_exit (q_block_exit (q_then (w_seq ?_)))))
  refine w_R (qa hnt rfl rfl (r_end (q_then (w_le (s := 4) (y := pB (decide (s = m))) rfl (le_of_eq (congrArg pB (show true = (decide (s = m)) by simp [he]))) (w_ret ?_)))))
  exact fin_plain (ret_tmp rfl ret_nil) rfl rfl ⟨rfl,rfl,rfl⟩
theorem w_burgageref3_vals (s : List UInt16) (cl_s : Bool) (m : List UInt16) (cl_m : Bool) (hs : s.length ≤ 140737488355328) :
    T Try.prog 60 [pS 1 cl_s enc16 s,pS 1 cl_m enc16 m] 0 [] (Ret (pB (decide (s = m))) 0 []) := by
 refine t_fun tabOk (n := 26) (rs := [.tmp 4]) Try.func60 rfl rfl rfl rfl (Nat.le_of_ble_eq_true rfl) ?_
 intro c hnt hk
 refine w_seq (w_R (qa hnt rfl rfl (r_end (q_then (w_seq ?_)))))
 refine w_seq (w_R (qm hnt rfl rfl (qo hnt rfl (s_lenM (l := s) tab_43 rfl (hM_sl (f := enc16) rfl) ?_))))
 refine qm hnt rfl rfl (qo hnt rfl (s_lenM (l := m) tab_43 rfl (hM_sl (f := enc16) rfl) ?_))
 refine qo hnt rfl (s_neq rfl rfl ?_)
 refine r_end (q_then (w_if rfl (fun c1 => ?_) (fun c1 => ?_)))
 ·try simp only [sB] at c1
  have hne : s ≠ m := fun e => by subst e; simp at c1
  refine w_seq (w_R (qa hnt rfl rfl (r_end (q_then (w_le (s := 4) (y := pB (decide (s = m))) rfl (le_of_eq (congrArg pB (show false = (decide (s = m)) by simp [hne]))) ?_)))))
  refine w_ret (q_then_ret ?_)
  exact fin_plain (ret_tmp rfl ret_nil) rfl rfl ⟨rfl,rfl,rfl⟩
 try simp only [sB] at c1
 have hlm : s.length = m.length := by omega
 refine w_skip (q_then (w_seq (w_seq (w_R (qm hnt rfl rfl ?_)))))
 refine qo hnt rfl (s_lenM (l := s) tab_43 rfl (hM_sl (f := enc16) rfl) ?_)
 refine qm hnt rfl rfl (r_end (q_then (w_block (loop1 (fun (i : Nat) => i ≤ s.length ∧ s.take i = m.take i) (fun (i : Nat) => [(0,pS 1 cl_s enc16 s),(1,pS 1 cl_m enc16 m),(12,pN s.length),(13,pN i)]) 0 (fun (i : Nat) => []) (fun (i : Nat) => s.length - i) (0) ?_ ⟨[],rfl,⟨⟨_,rfl,rfl,rfl⟩,⟨_,rfl,rfl,rfl⟩,⟨_,rfl,rfl,rfl⟩,⟨_,rfl,rfl,rfl⟩,trivial⟩,trivial,by rw [hk]; decide⟩ ?_))))
 · exact ⟨Nat.zero_le _,by simp⟩
 ·intro i hI
  obtain ⟨hi,ht⟩ := hI
  refine w_seq (w_R (qo hnt rfl (s_lss rfl rfl ?_)))
  refine r_end (q_then (w_seq (w_if rfl (fun c2 => ?_) (fun c2 => ?_))))
  ·try simp only [sB] at c2
   refine w_skip (q_then (w_seq (w_block (w_seq (w_R ?_)))))
   refine qm hnt rfl rfl (qa hnt rfl rfl (r_end (q_then (w_seq (W_drawn tabOk mixed hnt [[],[],[0,1],[0,1,2],[],[],[4,5],[4,5,6],(.range 8)] (by kernel_rfl) ?_)))))
   refine d_op (x_run0 [(0,pS 1 cl_s enc16 s)] [] rfl rfl rfl rfl (s_move rfl ⟨rfl,rfl,rfl⟩) (d_op (x_run0 [(5,pN i)] [] rfl rfl rfl rfl (s_move rfl ⟨rfl,rfl,rfl⟩) (d_op ?_))))
   obtain ⟨e1,he1⟩ := get_of_lt s (i := i) (by omega)
   refine x_run0 [(16,pS 1 cl_s enc16 s),(17,pN i)] [0,1] rfl rfl rfl rfl (s_iaM (q := i) (b := e1) (f := enc16) tab_43 rfl tab_44 rfl rfl (by omega) rfl he1 ⟨rfl,rfl,rfl⟩) (d_op (x_run0 [(18,PV.f (.ro (enc16 e1)))] [0,1,2] rfl rfl rfl rfl (s_load_ro1 tab_44 rfl rfl rfl rfl ⟨rfl,rfl,rfl⟩) (d_op (x_run0 [(1,pS 1 cl_m enc16 m)] [] rfl rfl rfl rfl (s_move rfl ⟨rfl,rfl,rfl⟩) (d_op ?_)))))
   refine x_run0 [(5,pN i)] [] rfl rfl rfl rfl (s_move rfl ⟨rfl,rfl,rfl⟩) (d_op ?_)
   obtain ⟨e2,he2⟩ := get_of_lt m (i := i) (by omega)
   refine x_run0 [(20,pS 1 cl_m enc16 m),(21,pN i)] [4,5] rfl rfl rfl rfl (s_iaM (q := i) (b := e2) (f := enc16) tab_43 rfl tab_44 rfl rfl (by omega) rfl he2 ⟨rfl,rfl,rfl⟩) (d_op (x_run0 [(22,PV.f (.ro (enc16 e2)))] [4,5,6] rfl rfl rfl rfl (s_load_ro1 tab_44 rfl rfl rfl rfl ⟨rfl,rfl,rfl⟩) (d_op (x_run0 [(19,p16 e1),(23,p16 e2)] (.range 8) rfl rfl rfl rfl (s_neq16 (a := e1) (b := e2) rfl rfl ⟨rfl,rfl,rfl⟩) (d_end ⟨by kernel_rfl, ?_⟩)))))
   refine q_then (w_if rfl (fun c3 => ?_) (fun c3 => ?_))
   ·try simp only [sB] at c3
    have hne : s ≠ m := fun e => by subst e; rw [he1] at he2; cases he2; simp at c3
    refine w_seq (w_R (qa hnt rfl rfl (r_end (q_then (w_le (s := 4) (y := pB (decide (s = m))) rfl (le_of_eq (congrArg pB (show false = (decide (s = m)) by simp [hne]))) ?_)))))
    refine w_ret (q_block_ret (q_then_ret (q_then_ret (q_block_ret (q_then_ret ?_)))))
    exact fin_plain (ret_tmp rfl ret_nil) rfl rfl ⟨rfl,rfl,rfl⟩
   try simp only [sB] at c3
   have c3e : e1 = e2 := by simpa using c3
   refine w_skip (q_block (q_then (w_R (qo hnt rfl (s_addN (a := i) (b := 1) rfl rfl (by omega) (by omega) (by omega) ?_)))))
   refine qm hnt rfl rfl (r_end (q_then (⟨(i + 1), ?_, ?_,⟨[],rfl,⟨⟨_,rfl,rfl,rfl⟩,⟨_,rfl,rfl,rfl⟩,⟨_,rfl,rfl,rfl⟩,⟨_,rfl,rfl,rfl⟩,trivial⟩,trivial,by rw [hk]; decide⟩⟩)))
   ·refine ⟨by omega, ?_⟩
    rw [List.take_add_one,List.take_add_one,he1,he2,ht,c3e]
   · omega
  try simp only [sB] at c2
  have h1 : s.take i = s := List.take_of_length_le (by omega)
  have h2 : m.take i = m := List.take_of_length_le (by omega)
  have he : s = m := by rw [← h1,← h2,ht]
  refine w_exit (q_then_exit (q_then_exit (q_block_exit (q_then (w_seq ?_)))))
  refine w_R (qa hnt rfl rfl (r_end (q_then (w_le (s := 4) (y := pB (decide (s = m))) rfl (le_of_eq (congrArg pB (show true = (decide (s = m)) by simp [he]))) (w_ret ?_)))))
  exact fin_plain (ret_tmp rfl ret_nil) rfl rfl ⟨rfl,rfl,rfl⟩
end Go.Proofs.Ytljkbpgcglomfaa
set_option linter.unusedVariables false
set_option linter.unusedSimpArgs false
namespace Go.Proofs.Ytljkbpgcglomfaa
open Go Go.Proofs.Ytljkbpgcglomfaa.Pv
theorem in_any (n : Int) : inS (usesS n) 97 = decide (n = 1 ∨ n = 2 ∨ n = 3 ∨ n = 4 ∨ n = 5 ∨ n = 6 ∨ n = 15 ∨ n = 16 ∨ n = 22 ∨ n = 23) ∧ inS (usesS n) 99 = decide (n = 1 ∨ n = 2 ∨ n = 3 ∨ n = 4 ∨ n = 15 ∨ n = 16 ∨ n = 23) := by
  by_cases h : n = 1 ∨ n = 2 ∨ n = 3 ∨ n = 4 ∨ n = 5 ∨ n = 6 ∨ n = 8 ∨ n = 15 ∨ n = 16 ∨ n = 22 ∨ n = 23
  · rcases h with h|h|h|h|h|h|h|h|h|h|h <;> subst h <;> decide
  · have e : usesS n = [] := by
      unfold usesS
      rw [if_neg (by omega),if_neg (by omega),if_neg (by omega),if_neg (by omega),if_neg (by omega),if_neg (by omega),if_neg (by omega),if_neg (by omega)]
    have i0 : ∀ c,inS [] c = false := fun c => rfl
    rw [e,i0,i0]
    exact ⟨(decide_eq_false (by omega)).symm,(decide_eq_false (by omega)).symm⟩
def wordsAt (b : List UInt8) (k : Nat) : List UInt16 := if b.length ≤ k then [] else wordsV (b.drop k)
def wordsAtP (b : List UInt8) (k : Nat) : List UInt16 := if b.length ≤ k then [] else wordsV ((b.take (b.length - (b.length - k) % 2)).drop k)
def gAt (f : Int) (b : List UInt8) : Int := if f = 1 ∨ f = 2 ∨ f = 3 ∨ f = 4 ∨ f = 5 ∨ f = 6 ∨ f = 15 ∨ f = 16 ∨ f = 22 ∨ f = 23 then getV b 1 else 0
def gCount (f : Int) (b : List UInt8) : Int := if f = 1 ∨ f = 2 ∨ f = 3 ∨ f = 4 ∨ f = 15 ∨ f = 16 ∨ f = 23 then getV b 3 else 0
def guessR (b : List UInt8) : TRequest :=
  let f : Int := (((b.getD 0 0).toNat : Nat) : Int)
  if f = 5 then ⟨f,gAt f b,gCount f b,0,0,[!decide (getV b 3 = 0)],[],0,0⟩
  else if f = 6 then ⟨f,gAt f b,gCount f b,0,0,[],wordsAt b 3,0,0⟩
  else if f = 8 then ⟨f,gAt f b,gCount f b,0,getV b 1,[],wordsAt b 3,0,0⟩
  else if f = 15 then ⟨f,gAt f b,gCount f b,0,0,(if 6 < b.length then bopV (b.drop 6) (gCount f b) else []),[],0,0⟩
  else if f = 16 then ⟨f,gAt f b,gCount f b,0,0,[],wordsAt b 6,0,0⟩
  else if f = 22 then ⟨f,gAt f b,gCount f b,0,0,[],[],u16I (getV b 3),u16I (getV b 5)⟩
  else if f = 23 then ⟨f,gAt f b,gCount f b,getV b 5,0,[],wordsAt b 10,0,0⟩
  else ⟨f,gAt f b,gCount f b,0,0,[],[],0,0⟩
def guessP (b : List UInt8) : TRequest :=
  let f : Int := (((b.getD 0 0).toNat : Nat) : Int)
  if f = 17 then ⟨f,0,0,0,0,[],[],0,0⟩
  else if f = 8 then ⟨f,0,0,0,getV b 1,[],wordsAtP b 3,0,0⟩
  else if f = 5 then ⟨f,getV b 1,0,0,0,[decide (getV b 3 = 65280)],[],0,0⟩
  else if f = 6 then ⟨f,getV b 1,0,0,0,[],wordsAtP b 3,0,0⟩
  else if f = 22 then ⟨f,getV b 1,0,0,0,[],[],u16I (getV b 3),u16I (getV b 5)⟩
  else if f = 15 then ⟨f,getV b 1,getV b 3,0,0,(if 6 ≤ b.length then bopV (b.drop 6) (getV b 3) else []),[],0,0⟩
  else if f = 16 then ⟨f,getV b 1,getV b 3,0,0,[],wordsAtP b 6,0,0⟩
  else if f = 23 then ⟨f,getV b 1,getV b 3,getV b 5,0,[],wordsAtP b 10,0,0⟩
  else ⟨f,getV b 1,getV b 3,0,0,[],[],0,0⟩
theorem put2_nat {a : Int} (h : 0 ≤ a ∧ a ≤ 65535) : (u8I (a / 2 ^ 8)).toNat * 256 + (u8I a).toNat = a.toNat := by
  rw [u8I_lt,u8I_lt]; omega
theorem getV_1 {x : UInt8} {a : Int} {r : List UInt8} (h : 0 ≤ a ∧ a ≤ 65535) : getV (x :: (put2 a ++ r)) 1 = a := by
  unfold getV
  rw [if_pos (by unfold getOk; simp; omega)]
  have e : getN (x :: (put2 a ++ r)) (Int.toNat 1) = (u8I (a / 2 ^ 8)).toNat * 256 + (u8I a).toNat := rfl
  rw [e,put2_nat h]; omega
theorem getV_3 {x : UInt8} {a c : Int} {r : List UInt8} (h : 0 ≤ c ∧ c ≤ 65535) : getV (x :: (put2 a ++ (put2 c ++ r))) 3 = c := by
  unfold getV
  rw [if_pos (by unfold getOk; simp; omega)]
  have e : getN (x :: (put2 a ++ (put2 c ++ r))) (Int.toNat 3) = (u8I (c / 2 ^ 8)).toNat * 256 + (u8I c).toNat := rfl
  rw [e,put2_nat h]; omega
theorem getV_5 {x : UInt8} {a c d : Int} {r : List UInt8} (h : 0 ≤ d ∧ d ≤ 65535) : getV (x :: (put2 a ++ (put2 c ++ (put2 d ++ r)))) 5 = d := by
  unfold getV
  rw [if_pos (by unfold getOk; simp; omega)]
  have e : getN (x :: (put2 a ++ (put2 c ++ (put2 d ++ r)))) (Int.toNat 5) = (u8I (d / 2 ^ 8)).toNat * 256 + (u8I d).toNat := rfl
  rw [e,put2_nat h]; omega
theorem bytes_one (v : UInt16) : bytesL [v] = put2 ((v.toNat : Nat) : Int) := by
  have hv := v.toNat_lt
  have e1 : (v >>> UInt16.ofNat 8).toUInt8 = u8I (((v.toNat : Nat) : Int) / 2 ^ 8) := by
    apply UInt8.toNat_inj.1
    rw [UInt16.toNat_toUInt8,UInt16.toNat_shiftRight,u8I_lt]
    have : (UInt16.ofNat 8).toNat % 16 = 8 := rfl
    rw [this,Nat.shiftRight_eq_div_pow]; omega
  have e2 : v.toUInt8 = u8I ((v.toNat : Nat) : Int) := by
    apply UInt8.toNat_inj.1
    rw [UInt16.toNat_toUInt8,u8I_lt]; omega
  have e0 : bytesL [v] = [(v >>> UInt16.ofNat 8).toUInt8,v.toUInt8] := rfl
  rw [e0,e1,e2]; rfl
theorem words_of {b : List UInt8} {k : Nat} {l : List UInt16} (h : b.drop k = bytesL l) (hb : b.length = k + 2 * l.length) (hl : 0 < l.length ∨ b.length ≤ k) : wordsAt b k = l ∧ wordsAtP b k = l := by
  have w := wordsV_back l
  unfold wordsAt wordsAtP
  by_cases h0 : b.length ≤ k
  · rw [if_pos h0,if_pos h0]
    have : l = [] := List.eq_nil_of_length_eq_zero (by omega)
    rw [this]; exact ⟨rfl,rfl⟩
  · rw [if_neg h0,if_neg h0]
    have e : b.length - (b.length - k) % 2 = b.length := by omega
    rw [e,List.take_length,h]
    exact ⟨w.2,w.2⟩
theorem fn_byte {f : Int} (h : hasF f = true) : (((u8I f).toNat : Nat) : Int) = f := by
  have := hasF_of h
  rw [u8I_lt]; omega
theorem vals_one {l : List UInt16} (h : l.length = 1) : ∃ v,l = [v] := by
  match l,h with
  | [v],_ => exact ⟨v,rfl⟩
theorem bits_one {l : List Bool} (h : l.length = 1) : ∃ v,l = [v] := by
  match l,h with
  | [v],_ => exact ⟨v,rfl⟩
theorem u16I_back (v : UInt16) : u16I ((v.toNat : Nat) : Int) = v := by
  apply UInt16.toNat_inj.1
  have := v.toNat_lt
  rw [u16I_ofNat]; omega
theorem gs_get (x : UInt8) (r : List UInt8) : (x :: r).getD 0 0 = x := rfl
theorem guess_write {q : TRequest} (h : rightR q = 0) : guessR (writeR q) = q ∧ guessP (writeR q) = q := by
  obtain ⟨hf,hs⟩ := rightR_zero h
  obtain ⟨wa,wc,ww,ws,za,zc,zw,zs,zm,hb,hv⟩ := hs
  have hfb := fn_byte hf
  have hc := hasF_of hf
  obtain ⟨f,at_,count,wAt,sub,bits,vals,and_,or_⟩ := q
  simp only at *
  have z0 : ∀ x : UInt16,x.toNat = 0 → x = 0 := fun x hx => UInt16.toNat_inj.1 hx
  have nb : bits.length = 0 → bits = [] := List.eq_nil_of_length_eq_zero
  have nv : vals.length = 0 → vals = [] := List.eq_nil_of_length_eq_zero
  by_cases k1 : f = 1 ∨ f = 2 ∨ f = 3 ∨ f = 4
  · rw [writeR_1 (by exact k1)]
    rw [if_neg (by omega),if_neg (by omega)] at hb
    rw [if_neg (by omega),if_neg (by omega),if_neg (by omega)] at hv
    have e1 : getV (u8I f :: (put2 at_ ++ put2 count)) 1 = at_ := getV_1 wa
    have e3 : getV (u8I f :: (put2 at_ ++ put2 count)) 3 = count := by have := getV_3 (x := u8I f) (a := at_) (r := []) wc; rwa [List.append_nil] at this
    have m := zm (by omega)
    unfold guessR guessP gAt gCount
    simp only [gs_get,hfb,e1,e3]
    constructor
    · repeat rw [if_neg (by omega)]
      rw [if_pos (by omega),if_pos (by omega),zw (by omega),zs (by omega),nb hb,nv hv,z0 _ m.1,z0 _ m.2]
    · repeat rw [if_neg (by omega)]
      rw [zw (by omega),zs (by omega),nb hb,nv hv,z0 _ m.1,z0 _ m.2]
  have hc2 : f = 5 ∨ f = 6 ∨ f = 8 ∨ f = 15 ∨ f = 16 ∨ f = 17 ∨ f = 22 ∨ f = 23 := by omega
  clear hc
  rcases hc2 with k|k|k|k|k|k|k|k <;> subst k
  · obtain ⟨e,he⟩ := bits_one (by simpa using hb)
    have hv0 := nv (by simpa using hv)
    have m := zm (by decide)
    rw [writeR_5 rfl (e := e) (by simp [he])]
    have c0 := zc (by decide)
    subst he; subst hv0
    have e1 : getV (u8I 5 :: (put2 at_ ++ put2 (if e = true then 65280 else 0))) 1 = at_ := getV_1 wa
    have e3 : getV (u8I 5 :: (put2 at_ ++ put2 (if e = true then 65280 else 0))) 3 = (if e = true then 65280 else 0) := by have := getV_3 (x := u8I 5) (a := at_) (c := if e = true then 65280 else 0) (r := []) (by split <;> decide); rwa [List.append_nil] at this
    unfold guessR guessP gAt gCount
    simp only [gs_get,hfb,e1,e3]
    rw [c0,zw (by decide),zs (by decide),z0 _ m.1,z0 _ m.2]
    cases e <;> exact ⟨rfl,rfl⟩
  · obtain ⟨e,he⟩ := vals_one (by simpa using hv)
    have hb0 := nb (by simpa using hb)
    have m := zm (by decide)
    rw [writeR_6 rfl (e := e) (by simp [he])]
    have c0 := zc (by decide)
    subst he; subst hb0
    have e1 : getV (u8I 6 :: (put2 at_ ++ put2 ((e.toNat : Nat) : Int))) 1 = at_ := getV_1 wa
    obtain ⟨w1,w2⟩ := words_of (b := u8I 6 :: (put2 at_ ++ put2 ((e.toNat : Nat) : Int))) (k := 3) (l := [e]) (by rw [bytes_one]; rfl) rfl (.inl (by simp))
    unfold guessR guessP gAt gCount
    simp only [gs_get,hfb,e1,w1,w2]
    rw [c0,zw (by decide),zs (by decide),z0 _ m.1,z0 _ m.2]
    exact ⟨rfl,rfl⟩
  · obtain ⟨e,he⟩ := vals_one (by simpa using hv)
    have hb0 := nb (by simpa using hb)
    have m := zm (by decide)
    rw [writeR_8 rfl (e := e) (by simp [he])]
    have c0 := zc (by decide)
    subst he; subst hb0
    have e1 : getV (u8I 8 :: (put2 sub ++ put2 ((e.toNat : Nat) : Int))) 1 = sub := getV_1 ws
    obtain ⟨w1,w2⟩ := words_of (b := u8I 8 :: (put2 sub ++ put2 ((e.toNat : Nat) : Int))) (k := 3) (l := [e]) (by rw [bytes_one]; rfl) rfl (.inl (by simp))
    unfold guessR guessP gAt gCount
    simp only [gs_get,hfb,e1,w1,w2]
    rw [c0,zw (by decide),za (by decide),z0 _ m.1,z0 _ m.2]
    exact ⟨rfl,rfl⟩
  · have hb1 : (bits.length : Int) = count ∧ bits.length ≤ 2040 := by simpa using hb
    have hv0 := nv (by simpa using hv)
    have m := zm (by decide)
    rw [writeR_15 rfl]
    subst hv0
    have e1 : getV (u8I 15 :: (put2 at_ ++ (put2 count ++ rowX (packL bits)))) 1 = at_ := getV_1 wa
    have e3 : getV (u8I 15 :: (put2 at_ ++ (put2 count ++ rowX (packL bits)))) 3 = count := getV_3 wc
    have d6 : (u8I 15 :: (put2 at_ ++ (put2 count ++ rowX (packL bits)))).drop 6 = packL bits := rfl
    have hl : (u8I 15 :: (put2 at_ ++ (put2 count ++ rowX (packL bits)))).length = 6 + (bits.length + 7) / 8 := by simp; omega
    have ob := (open_pack bits).2
    rw [hb1.1] at ob
    have ea : gAt 15 (u8I 15 :: (put2 at_ ++ (put2 count ++ rowX (packL bits)))) = at_ := by unfold gAt; rw [if_pos (by simp),e1]
    have ec : gCount 15 (u8I 15 :: (put2 at_ ++ (put2 count ++ rowX (packL bits)))) = count := by unfold gCount; rw [if_pos (by simp),e3]
    unfold guessR guessP
    simp only [gs_get,hfb,e1,e3,d6,ea,ec,ob]
    rw [hl,zw (by decide),zs (by decide),z0 _ m.1,z0 _ m.2]
    constructor
    · by_cases h6 : 6 < 6 + (bits.length + 7) / 8
      · rw [if_pos h6]; rfl
      · rw [if_neg h6,nb (by omega)]; rfl
    · rw [if_pos (show 6 ≤ 6 + (bits.length + 7) / 8 by omega)]; rfl
  · have hv1 : (vals.length : Int) = count ∧ vals.length ≤ 127 := by simpa using hv
    have hb0 := nb (by simpa using hb)
    have m := zm (by decide)
    rw [writeR_16 rfl]
    subst hb0
    have e1 : getV (u8I 16 :: (put2 at_ ++ (put2 count ++ rowX (bytesL vals)))) 1 = at_ := getV_1 wa
    have e3 : getV (u8I 16 :: (put2 at_ ++ (put2 count ++ rowX (bytesL vals)))) 3 = count := getV_3 wc
    have hl : (u8I 16 :: (put2 at_ ++ (put2 count ++ rowX (bytesL vals)))).length = 6 + 2 * vals.length := by simp; omega
    obtain ⟨w1,w2⟩ := words_of (b := u8I 16 :: (put2 at_ ++ (put2 count ++ rowX (bytesL vals)))) (k := 6) (l := vals) rfl hl (by omega)
    unfold guessR guessP gAt gCount
    simp only [gs_get,hfb,e1,e3,w1,w2]
    rw [zw (by decide),zs (by decide),z0 _ m.1,z0 _ m.2]
    exact ⟨rfl,rfl⟩
  · have hv0 := nv (by simpa using hv)
    have hb0 := nb (by simpa using hb)
    have m := zm (by decide)
    rw [writeR_no (by simp)]
    subst hb0; subst hv0
    unfold guessR guessP gAt gCount
    simp only [gs_get,hfb]
    rw [za (by decide),zc (by decide),zw (by decide),zs (by decide),z0 _ m.1,z0 _ m.2]
    exact ⟨rfl,rfl⟩
  · have hv0 := nv (by simpa using hv)
    have hb0 := nb (by simpa using hb)
    rw [writeR_22 rfl]
    subst hb0; subst hv0
    have ha := and_.toNat_lt
    have ho := or_.toNat_lt
    have e1 : getV (u8I 22 :: (put2 at_ ++ (put2 ((and_.toNat : Nat) : Int) ++ put2 ((or_.toNat : Nat) : Int)))) 1 = at_ := getV_1 wa
    have e3 : getV (u8I 22 :: (put2 at_ ++ (put2 ((and_.toNat : Nat) : Int) ++ put2 ((or_.toNat : Nat) : Int)))) 3 = ((and_.toNat : Nat) : Int) := getV_3 (by omega)
    have e5 : getV (u8I 22 :: (put2 at_ ++ (put2 ((and_.toNat : Nat) : Int) ++ put2 ((or_.toNat : Nat) : Int)))) 5 = ((or_.toNat : Nat) : Int) := by have := getV_5 (x := u8I 22) (a := at_) (c := ((and_.toNat : Nat) : Int)) (d := ((or_.toNat : Nat) : Int)) (r := []) (by omega); rwa [List.append_nil] at this
    unfold guessR guessP gAt gCount
    simp only [gs_get,hfb,e1,e3,e5,u16I_back]
    rw [zc (by decide),zw (by decide),zs (by decide)]
    exact ⟨rfl,rfl⟩
  · have hv1 : vals.length ≤ 127 := by simpa using hv
    have hb0 := nb (by simpa using hb)
    have m := zm (by decide)
    rw [writeR_23 rfl]
    subst hb0
    have e1 : getV (u8I 23 :: (put2 at_ ++ (put2 count ++ (put2 wAt ++ (put2 ((vals.length : Nat) : Int) ++ rowX (bytesL vals)))))) 1 = at_ := getV_1 wa
    have e3 : getV (u8I 23 :: (put2 at_ ++ (put2 count ++ (put2 wAt ++ (put2 ((vals.length : Nat) : Int) ++ rowX (bytesL vals)))))) 3 = count := getV_3 wc
    have e5 : getV (u8I 23 :: (put2 at_ ++ (put2 count ++ (put2 wAt ++ (put2 ((vals.length : Nat) : Int) ++ rowX (bytesL vals)))))) 5 = wAt := getV_5 ww
    have hl : (u8I 23 :: (put2 at_ ++ (put2 count ++ (put2 wAt ++ (put2 ((vals.length : Nat) : Int) ++ rowX (bytesL vals)))))).length = 10 + 2 * vals.length := by simp; omega
    obtain ⟨w1,w2⟩ := words_of (b := u8I 23 :: (put2 at_ ++ (put2 count ++ (put2 wAt ++ (put2 ((vals.length : Nat) : Int) ++ rowX (bytesL vals)))))) (k := 10) (l := vals) rfl hl (by omega)
    unfold guessR guessP gAt gCount
    simp only [gs_get,hfb,e1,e3,e5,w1,w2]
    rw [zs (by decide),z0 _ m.1,z0 _ m.2]
    exact ⟨rfl,rfl⟩
theorem guessR_5 {b : List UInt8} {e : UInt8} (h0 : b.getD 0 0 = e) (h : ((e.toNat : Nat) : Int) = 5) : guessR b = ⟨((e.toNat : Nat) : Int),gAt ((e.toNat : Nat) : Int) b,gCount ((e.toNat : Nat) : Int) b,0,0,[!decide (getV b 3 = 0)],[],0,0⟩ := by
  unfold guessR; simp only [h0]; rw [if_pos h]
theorem guessR_6 {b : List UInt8} {e : UInt8} (h0 : b.getD 0 0 = e) (h : ((e.toNat : Nat) : Int) = 6) : guessR b = ⟨((e.toNat : Nat) : Int),gAt ((e.toNat : Nat) : Int) b,gCount ((e.toNat : Nat) : Int) b,0,0,[],wordsAt b 3,0,0⟩ := by
  unfold guessR; simp only [h0]; rw [if_neg (by omega),if_pos h]
theorem guessR_8 {b : List UInt8} {e : UInt8} (h0 : b.getD 0 0 = e) (h : ((e.toNat : Nat) : Int) = 8) : guessR b = ⟨((e.toNat : Nat) : Int),gAt ((e.toNat : Nat) : Int) b,gCount ((e.toNat : Nat) : Int) b,0,getV b 1,[],wordsAt b 3,0,0⟩ := by
  unfold guessR; simp only [h0]; rw [if_neg (by omega),if_neg (by omega),if_pos h]
theorem guessR_15 {b : List UInt8} {e : UInt8} (h0 : b.getD 0 0 = e) (h : ((e.toNat : Nat) : Int) = 15) : guessR b = ⟨((e.toNat : Nat) : Int),gAt ((e.toNat : Nat) : Int) b,gCount ((e.toNat : Nat) : Int) b,0,0,(if 6 < b.length then bopV (b.drop 6) (gCount ((e.toNat : Nat) : Int) b) else []),[],0,0⟩ := by
  unfold guessR; simp only [h0]; rw [if_neg (by omega),if_neg (by omega),if_neg (by omega),if_pos h]
theorem guessR_16 {b : List UInt8} {e : UInt8} (h0 : b.getD 0 0 = e) (h : ((e.toNat : Nat) : Int) = 16) : guessR b = ⟨((e.toNat : Nat) : Int),gAt ((e.toNat : Nat) : Int) b,gCount ((e.toNat : Nat) : Int) b,0,0,[],wordsAt b 6,0,0⟩ := by
  unfold guessR; simp only [h0]; rw [if_neg (by omega),if_neg (by omega),if_neg (by omega),if_neg (by omega),if_pos h]
theorem guessR_22 {b : List UInt8} {e : UInt8} (h0 : b.getD 0 0 = e) (h : ((e.toNat : Nat) : Int) = 22) : guessR b = ⟨((e.toNat : Nat) : Int),gAt ((e.toNat : Nat) : Int) b,gCount ((e.toNat : Nat) : Int) b,0,0,[],[],u16I (getV b 3),u16I (getV b 5)⟩ := by
  unfold guessR; simp only [h0]; rw [if_neg (by omega),if_neg (by omega),if_neg (by omega),if_neg (by omega),if_neg (by omega),if_pos h]
theorem guessR_23 {b : List UInt8} {e : UInt8} (h0 : b.getD 0 0 = e) (h : ((e.toNat : Nat) : Int) = 23) : guessR b = ⟨((e.toNat : Nat) : Int),gAt ((e.toNat : Nat) : Int) b,gCount ((e.toNat : Nat) : Int) b,getV b 5,0,[],wordsAt b 10,0,0⟩ := by
  unfold guessR; simp only [h0]; rw [if_neg (by omega),if_neg (by omega),if_neg (by omega),if_neg (by omega),if_neg (by omega),if_neg (by omega),if_pos h]
theorem guessR_no {b : List UInt8} {e : UInt8} (h0 : b.getD 0 0 = e) (h : ((e.toNat : Nat) : Int) ≠ 5 ∧ ((e.toNat : Nat) : Int) ≠ 6 ∧ ((e.toNat : Nat) : Int) ≠ 8 ∧ ((e.toNat : Nat) : Int) ≠ 15 ∧ ((e.toNat : Nat) : Int) ≠ 16 ∧ ((e.toNat : Nat) : Int) ≠ 22 ∧ ((e.toNat : Nat) : Int) ≠ 23) : guessR b = ⟨((e.toNat : Nat) : Int),gAt ((e.toNat : Nat) : Int) b,gCount ((e.toNat : Nat) : Int) b,0,0,[],[],0,0⟩ := by
  unfold guessR; simp only [h0]; rw [if_neg (by omega),if_neg (by omega),if_neg (by omega),if_neg (by omega),if_neg (by omega),if_neg (by omega),if_neg (by omega)]
theorem guessP_8 {b : List UInt8} {e : UInt8} (h0 : b.getD 0 0 = e) (h : ((e.toNat : Nat) : Int) = 8) : guessP b = ⟨((e.toNat : Nat) : Int),0,0,0,getV b 1,[],wordsAtP b 3,0,0⟩ := by
  unfold guessP; simp only [h0]; rw [if_neg (by omega),if_pos h]
theorem guessP_5 {b : List UInt8} {e : UInt8} (h0 : b.getD 0 0 = e) (h : ((e.toNat : Nat) : Int) = 5) : guessP b = ⟨((e.toNat : Nat) : Int),getV b 1,0,0,0,[decide (getV b 3 = 65280)],[],0,0⟩ := by
  unfold guessP; simp only [h0]; rw [if_neg (by omega),if_neg (by omega),if_pos h]
theorem guessP_6 {b : List UInt8} {e : UInt8} (h0 : b.getD 0 0 = e) (h : ((e.toNat : Nat) : Int) = 6) : guessP b = ⟨((e.toNat : Nat) : Int),getV b 1,0,0,0,[],wordsAtP b 3,0,0⟩ := by
  unfold guessP; simp only [h0]; rw [if_neg (by omega),if_neg (by omega),if_neg (by omega),if_pos h]
theorem guessP_22 {b : List UInt8} {e : UInt8} (h0 : b.getD 0 0 = e) (h : ((e.toNat : Nat) : Int) = 22) : guessP b = ⟨((e.toNat : Nat) : Int),getV b 1,0,0,0,[],[],u16I (getV b 3),u16I (getV b 5)⟩ := by
  unfold guessP; simp only [h0]; rw [if_neg (by omega),if_neg (by omega),if_neg (by omega),if_neg (by omega),if_pos h]
theorem getV_le (b : List UInt8) (k : Int) : 0 ≤ getV b k ∧ getV b k ≤ 65535 := by
  unfold getV; split
  · have := getN_lt b k.toNat; omega
  · omega
theorem bopV_len (b : List UInt8) (n : Int) : (bopV b n).length ≤ n.toNat := by unfold bopV; split <;> simp
theorem wordsV_len (b : List UInt8) : (wordsV b).length ≤ b.length := by
  unfold wordsV; split
  · rw [wordsL_length]; omega
  · simp
theorem wordsAt_len (b : List UInt8) (k : Nat) : (wordsAt b k).length ≤ b.length ∧ (wordsAtP b k).length ≤ b.length := by
  unfold wordsAt wordsAtP
  split
  · simp
  · have h1 := wordsV_len (b.drop k)
    have h2 := wordsV_len ((b.take (b.length - (b.length - k) % 2)).drop k)
    rw [List.length_drop] at h1 h2
    rw [List.length_take] at h2
    exact ⟨by omega,by omega⟩
theorem gCount_le (f : Int) (b : List UInt8) : 0 ≤ gCount f b ∧ gCount f b ≤ 65535 := by
  unfold gCount; split
  · exact getV_le b 3
  · omega
theorem guessR_len (b : List UInt8) : (guessR b).bits.length ≤ 65536 ∧ (guessR b).vals.length ≤ b.length := by
  have w := fun k => (wordsAt_len b k).1
  have g := gCount_le (((b.getD 0 0).toNat : Nat) : Int) b
  have v := bopV_len (b.drop 6) (gCount (((b.getD 0 0).toNat : Nat) : Int) b)
  unfold guessR
  simp only
  repeat' split
  all_goals first|exact ⟨Nat.zero_le _,w _⟩|exact ⟨by simp only; omega,Nat.zero_le _⟩|exact ⟨Nat.zero_le _,Nat.zero_le _⟩|exact ⟨by simp,Nat.zero_le _⟩
section
variable {g : List UInt8 → TRequest} {b : List UInt8}
end
end Go.Proofs.Ytljkbpgcglomfaa
set_option linter.unusedVariables false
set_option linter.unusedSimpArgs false
set_option maxRecDepth 10000
set_option maxHeartbeats 1000000
namespace Go.Proofs.Ytljkbpgcglomfaa
open Go Go.Proofs.Ytljkbpgcglomfaa.Pv
theorem w_burgageref3_num (b : List UInt8) (cl_b : Bool) (k : Int) (hb : b.length ≤ 140737488351232) (hk0 : k ≤ 9223372036854775807) :
    T Try.prog 97 [pS 1 cl_b enc8 b,pI k] 0 [] (Ret (pI (getV b k)) 0 []) := by
 refine t_fun tabOk (n := 14) (rs := [.tmp 4]) Try.func97 rfl rfl rfl rfl (Nat.le_of_ble_eq_true rfl) ?_
 intro c hnt hk
 refine w_seq (w_R (qa hnt rfl rfl (r_end (q_then (w_seq ?_)))))
 refine w_R (qm hnt rfl rfl (qm hnt rfl rfl (qo hnt rfl (s_callF rfl rfl rfl (w_burgageref1_Get b cl_b k (by omega) (by omega)) rfl ?_))))
 refine qm hnt rfl rfl (qo hnt rfl (s_extract rfl rfl ?_))
 refine qo hnt rfl (s_extract rfl rfl ?_)
 refine qa hnt rfl rfl (qa hnt rfl rfl (r_end (q_then (w_seq (w_R ?_)))))
 refine qm hnt rfl rfl (qa hnt rfl rfl (r_end (q_then (w_ret ?_))))
 exact fin_plain (ret_tmp rfl ret_nil) rfl rfl ⟨rfl,rfl,rfl⟩
theorem w_burgageref3_words (b : List UInt8) (cl_b : Bool) (k : Nat) (hb : b.length ≤ 140737488351232) (hk : k ≤ 100) :
    T Try.prog 99 [pS 1 cl_b enc8 b,pN k] 0 [] (Ret (pS 1 false enc16 (wordsAt b k)) 0 []) := by
 refine t_fun tabOk (n := 19) (rs := [.tmp 4]) Try.func99 rfl rfl rfl rfl (Nat.le_of_ble_eq_true rfl) ?_
 intro c hnt hk
 refine w_seq (w_R (qa hnt rfl rfl (r_end (q_then (w_seq ?_)))))
 refine w_seq (w_R (qm hnt rfl rfl (qm hnt rfl rfl (qo hnt rfl (s_lenM (l := b) tab_51 rfl (hM_sl (f := enc8) rfl) ?_)))))
 refine qo hnt rfl (s_geq rfl rfl ?_)
 refine r_end (q_then (w_if rfl (fun c1 => ?_) (fun c1 => ?_)))
 ·try simp only [sB] at c1
  refine w_seq (w_R (qa hnt rfl rfl (r_end (q_then (w_le (s := 4) (y := pS 1 false enc16 []) rfl (le_nilS 1 false) ?_)))))
  refine w_le (s := 4) (y := pS 1 false enc16 (wordsAt b k)) rfl (le_of_eq (congrArg (fun z => pS 1 false enc16 z) (show ([] : List UInt16) = (wordsAt b k) by (unfold wordsAt; rw [if_pos (by omega)]; done)))) (w_ret (q_then_ret ?_))
  exact fin_plain (ret_tmp rfl ret_nil) rfl rfl ⟨rfl,rfl,rfl⟩
 try simp only [sB] at c1
 refine w_skip (q_then (w_seq (w_R (qm hnt rfl rfl (qm hnt rfl rfl ?_)))))
 refine qo hnt rfl (s_cutM_lo (a := k) (f := enc8) (l := b) tab_51 rfl tab_5 ⟨rfl,by decide⟩ rfl (bound_some rfl (by omega)) (by omega) ?_)
 refine qo hnt rfl (s_callF rfl rfl rfl (w_burgageref1_Words (b.drop k) cl_b (by (simp; omega))) rfl ?_)
 refine qm hnt rfl rfl (qo hnt rfl (s_extract rfl rfl ?_))
 refine qo hnt rfl (s_extract rfl rfl ?_)
 refine qa hnt rfl rfl (qa hnt rfl rfl (r_end (q_then (w_seq (w_R ?_)))))
 refine qm hnt rfl rfl (qa hnt rfl rfl (r_end (q_then (w_le (s := 4) (y := pS 1 false enc16 (wordsAt b k)) rfl (le_of_eq (congrArg (fun z => pS 1 false enc16 z) (show (wordsV (b.drop k)) = (wordsAt b k) by (unfold wordsAt; rw [if_neg (by omega)]; done)))) (w_ret ?_)))))
 exact fin_plain (ret_tmp rfl ret_nil) rfl rfl ⟨rfl,rfl,rfl⟩
theorem w_burgageref3_guess (b : List UInt8) (cl_b : Bool) (G : TRequest) (hG : G = guessR b) (hb : b.length ≤ 140737488351232) (h1 : 1 ≤ b.length) :
    T Try.prog 100 [pS 1 cl_b enc8 b] 0 [] (Ret (PV.f (eRequest G)) 0 []) := by
 refine t_fun tabOk (n := 83) (rs := [.cell 2 46]) Try.func100 rfl rfl rfl rfl (Nat.le_of_ble_eq_true rfl) ?_
 intro c hnt hk
 refine w_seq (w_R (qo hnt rfl (s_alloc tab_46 ?_)))
 refine r_set [(0,pS 1 cl_b enc8 b),(2,PV.ptr 0 0)] [(0,.obj [pI 0,pI 0,pI 0,pI 0,pI 0,pNil,pNil,p16 0,p16 0])] 1 ⟨rfl,rfl,trivial⟩ rfl rfl (r_end (q_then (w_seq (w_R (qm hnt rfl rfl ?_)))))
 obtain ⟨e1,he1⟩ := get_of_lt b (i := 0) (by omega)
 refine qo hnt rfl (s_iaM (q := 0) (b := e1) (f := enc8) tab_51 rfl tab_5 rfl rfl (by omega) rfl he1 ?_)
 refine qo hnt rfl (s_load_ro1 tab_5 rfl rfl rfl rfl ?_)
 refine qo hnt rfl (s_cvN (a := UInt8.toNat e1) tab_5 tab_3 rfl rfl rfl (by omega) (by have := lt8 e1; omega) ?_)
 refine qo hnt rfl (s_build tab_46 rfl rfl (b_cons rfl tab_3 rfl rfl rfl (Nat.le_of_ble_eq_true rfl) (b_nil ?_)))
 refine qo hnt rfl (s_alloc tab_46 ?_)
 refine qo hnt rfl (s_store_ptr tab_46 rfl rfl rfl rfl rfl (Nat.le_of_ble_eq_true rfl) ?_)
 refine r_set [(0,pS 1 cl_b enc8 b),(2,PV.ptr 0 0),(3,PV.ptr 1 0)] [(1,.obj [pN (UInt8.toNat e1),pI 0,pI 0,pI 0,pI 0,pNil,pNil,p16 0,p16 0]),(0,.obj [pI 0,pI 0,pI 0,pI 0,pI 0,pNil,pNil,p16 0,p16 0])] 2 ⟨rfl,rfl,rfl,trivial⟩ rfl rfl (r_end (q_then (w_seq ?_)))
 have hb0 : b.getD 0 0 = e1 := by rw [List.getD_eq_getElem?_getD,he1]; rfl
 have ia := in_any ((UInt8.toNat e1 : Nat) : Int)
 refine w_R (qo hnt rfl (s_fa_ptr tab_46 rfl rfl tab_3 (by decide) rfl ?_))
 refine qo hnt rfl (s_load_ptr1 tab_3 rfl rfl rfl rfl rfl ?_)
 refine qo hnt rfl (s_callF rfl rfl rfl (w_burgageref3_uses ((UInt8.toNat e1 : Nat) : Int)) rfl ?_)
 refine qa hnt rfl rfl (r_end (q_then (join1 (fun (va : Int) => va = gAt ((e1.toNat : Nat) : Int) b) (fun (va : Int) => [(0,pS 1 cl_b enc8 b),(2,PV.ptr 1 0),(3,PV.ptr 0 0),(4,pT (usesS ((UInt8.toNat e1 : Nat) : Int)))]) 2 (fun (va : Int) => [(0,.obj [pN (UInt8.toNat e1),pI va,pI 0,pI 0,pI 0,pNil,pNil,p16 0,p16 0]),(1,.obj [pI 0,pI 0,pI 0,pI 0,pI 0,pNil,pNil,p16 0,p16 0])]) ?_ ?_)))
 ·refine w_seq (w_R (qm hnt rfl rfl (qo hnt rfl (s_callF rfl rfl rfl (w_burgageref3_in (usesS ((UInt8.toNat e1 : Nat) : Int)) 97 (by have := usesS_len ((e1.toNat : Nat) : Int); omega)) rfl ?_))))
  refine r_end (q_then (w_if rfl (fun c1 => ?_) (fun c1 => ?_)))
  ·try simp only [sB] at c1
   refine w_R (qm hnt rfl rfl (qo hnt rfl (s_callF rfl rfl rfl (w_burgageref3_num b cl_b 1 (by omega) (by omega)) rfl ?_)))
   refine qo hnt rfl (s_fa_ptr tab_46 rfl rfl tab_3 (by decide) rfl ?_)
   refine qo hnt rfl (s_store_ptr tab_3 rfl rfl rfl rfl rfl (Nat.le_of_ble_eq_true rfl) ?_)
   refine r_end (q_then (⟨(getV b 1), ?_,⟨[(0,1),(1,0)],by rw [hk]; decide,⟨⟨_,rfl,rfl,rfl⟩,⟨_,rfl,rfl,rfl⟩,⟨_,rfl,rfl,rfl⟩,⟨_,rfl,rfl,rfl⟩,trivial⟩,⟨⟨_,_,rfl,rfl,rfl,rfl⟩,⟨_,_,rfl,rfl,rfl,rfl⟩,trivial⟩,by rw [hk]; decide⟩⟩))
   (unfold gAt; rw [if_pos (by have := ia.1; rw [c1] at this; exact of_decide_eq_true this.symm)]; done)
  try simp only [sB] at c1
  refine w_skip (q_then (⟨(0), ?_,⟨[(0,1),(1,0)],by rw [hk]; decide,⟨⟨_,rfl,rfl,rfl⟩,⟨_,rfl,rfl,rfl⟩,⟨_,rfl,rfl,rfl⟩,⟨_,rfl,rfl,rfl⟩,trivial⟩,⟨⟨_,_,rfl,rfl,rfl,rfl⟩,⟨_,_,rfl,rfl,rfl,rfl⟩,trivial⟩,by rw [hk]; decide⟩⟩))
  (unfold gAt; rw [if_neg (by have := ia.1; rw [c1] at this; exact of_decide_eq_false this.symm)]; done)
 intro va hva
 refine join2 (fun (vb : Int) (vc : Int) => vb = gAt ((e1.toNat : Nat) : Int) b ∧ vc = gCount ((e1.toNat : Nat) : Int) b) (fun (vb : Int) (vc : Int) => [(0,pS 1 cl_b enc8 b),(2,PV.ptr 1 0),(3,PV.ptr 0 0)]) 2 (fun (vb : Int) (vc : Int) => [(0,.obj [pN (UInt8.toNat e1),pI vb,pI vc,pI 0,pI 0,pNil,pNil,p16 0,p16 0]),(1,.obj [pI 0,pI 0,pI 0,pI 0,pI 0,pNil,pNil,p16 0,p16 0])]) ?_ ?_
 ·refine w_seq (w_R (qm hnt rfl rfl (qo hnt rfl (s_callF rfl rfl rfl (w_burgageref3_in (usesS ((UInt8.toNat e1 : Nat) : Int)) 99 (by have := usesS_len ((e1.toNat : Nat) : Int); omega)) rfl ?_))))
  refine r_end (q_then (w_if rfl (fun c2 => ?_) (fun c2 => ?_)))
  ·try simp only [sB] at c2
   refine w_R (qm hnt rfl rfl (qo hnt rfl (s_callF rfl rfl rfl (w_burgageref3_num b cl_b 3 (by omega) (by omega)) rfl ?_)))
   refine qo hnt rfl (s_fa_ptr tab_46 rfl rfl tab_3 (by decide) rfl ?_)
   refine qo hnt rfl (s_store_ptr tab_3 rfl rfl rfl rfl rfl (Nat.le_of_ble_eq_true rfl) ?_)
   refine r_end (q_then (⟨(va),(getV b 3), ?_,⟨[(0,0),(1,1)],by rw [hk]; decide,⟨⟨_,rfl,rfl,rfl⟩,⟨_,rfl,rfl,rfl⟩,⟨_,rfl,rfl,rfl⟩,trivial⟩,⟨⟨_,_,rfl,rfl,rfl,rfl⟩,⟨_,_,rfl,rfl,rfl,rfl⟩,trivial⟩,by rw [hk]; decide⟩⟩))
   (exact ⟨hva,by unfold gCount; rw [if_pos (by have := ia.2; rw [c2] at this; exact of_decide_eq_true this.symm)]⟩)
  try simp only [sB] at c2
  refine w_skip (q_then (⟨(va),(0), ?_,⟨[(0,0),(1,1)],by rw [hk]; decide,⟨⟨_,rfl,rfl,rfl⟩,⟨_,rfl,rfl,rfl⟩,⟨_,rfl,rfl,rfl⟩,trivial⟩,⟨⟨_,_,rfl,rfl,rfl,rfl⟩,⟨_,_,rfl,rfl,rfl,rfl⟩,trivial⟩,by rw [hk]; decide⟩⟩))
  (exact ⟨hva,by unfold gCount; rw [if_neg (by have := ia.2; rw [c2] at this; exact of_decide_eq_false this.symm)]⟩)
 intro vb vc hvc
 refine w_seq (w_seq (w_R (qo hnt rfl (s_fa_ptr tab_46 rfl rfl tab_3 (by decide) rfl ?_))))
 refine qo hnt rfl (s_load_ptr1 tab_3 rfl rfl rfl rfl rfl ?_)
 refine r_end (q_then (w_block (w_seq ?_)))
 obtain ⟨hvb,hvd⟩ := hvc
 have hcl := gCount_le ((e1.toNat : Nat) : Int) b
 refine w_R (qo hnt rfl (s_eql rfl rfl ?_))
 refine qa hnt rfl rfl (r_end (q_then (w_if rfl (fun c3 => ?_) (fun c3 => ?_))))
 ·try simp only [sB] at c3
  rw [guessR_5 hb0 (by omega)] at hG
  refine w_R (qm hnt rfl rfl (qo hnt rfl (s_callF rfl rfl rfl (w_burgageref3_num b cl_b 3 (by omega) (by omega)) rfl ?_)))
  refine qo hnt rfl (s_neq rfl rfl ?_)
  refine qo hnt rfl (s_mkM (f := encBo) [!decide (getV b 3 = 0)] tab_42 rfl tab_4 ⟨rfl,by decide⟩ (by decide) rfl rfl rfl rfl ?_)
  refine qo hnt rfl (s_fa_ptr tab_46 rfl rfl tab_42 (by decide) rfl ?_)
  refine qo hnt rfl (s_store_ptr tab_42 rfl rfl rfl rfl rfl (Nat.le_of_ble_eq_true rfl) ?_)
  refine r_set [(2,PV.ptr 1 0),(3,PV.ptr 0 0)] [(0,.obj [pN (UInt8.toNat e1),pI vb,pI vc,pI 0,pI 0,PV.ref 2 0 none,pNil,p16 0,p16 0]),(2,oB true 1 encBo [!decide (getV b 3 = 0)]),(1,.obj [pI 0,pI 0,pI 0,pI 0,pI 0,pNil,pNil,p16 0,p16 0])] 3 ⟨rfl,rfl,trivial⟩ rfl rfl (r_end (q_block (q_then (w_seq (w_R ?_)))))
  refine qo hnt rfl (s_load_ptr tab_46 rfl rfl rfl (Nat.le_of_ble_eq_true rfl) ?_)
  refine qo hnt rfl (s_store_ptr tab_46 rfl rfl rfl rfl rfl (Nat.le_of_ble_eq_true rfl) ?_)
  refine r_set [(2,PV.ptr 1 0)] [(1,.obj [pN (UInt8.toNat e1),pI vb,pI vc,pI 0,pI 0,PV.ref 2 0 none,pNil,p16 0,p16 0]),(0,.obj [pN (UInt8.toNat e1),pI vb,pI vc,pI 0,pI 0,PV.ref 2 0 none,pNil,p16 0,p16 0]),(2,oB true 1 encBo [!decide (getV b 3 = 0)])] 3 ⟨rfl,trivial⟩ rfl rfl (r_end (q_then (w_frzC (n := 1) (j := 5) rfl rfl rfl rfl ?_)))
  have hz1 : ([!decide (getV b 3 = 0)] : List Bool) = G.bits := by ((rw [hG]; done))
  refine w_leO (n := 1) (ds := [pN (UInt8.toNat e1),pI vb,pI vc,pI 0,pI 0,pS 1 false encBo G.bits,pNil,p16 0,p16 0]) rfl ⟨le_refl _,le_refl _,le_refl _,le_refl _,le_refl _,le_of_eq (congrArg (fun z => pS 1 false encBo z) hz1),le_refl _,le_refl _,le_refl _,trivial⟩ ?_
  have hz2 : ((UInt8.toNat e1 : Nat) : Int) = G.fn ∧ vb = G.at_ ∧ vc = G.count ∧ 0 = G.wAt ∧ 0 = G.sub ∧ ([] : List UInt16) = G.vals ∧ 0 = G.and_ ∧ 0 = G.or_ := by and_intros <;> (first|(rw [hG]; done)|(rw [hG]; exact hvb)|(rw [hG]; exact hvd))
  refine w_leO (n := 1) (ds := cRequest G) rfl ⟨le_of_eq (congrArg pI hz2.1),le_of_eq (congrArg pI hz2.2.1),le_of_eq (congrArg pI hz2.2.2.1),le_of_eq (congrArg pI hz2.2.2.2.1),le_of_eq (congrArg pI hz2.2.2.2.2.1),le_refl _,le_tr (le_nilS 1 false) (le_of_eq (congrArg (fun z => pS 1 false enc16 z) hz2.2.2.2.2.2.1)),le_of_eq (congrArg p16 hz2.2.2.2.2.2.2.1),le_of_eq (congrArg p16 hz2.2.2.2.2.2.2.2),trivial⟩ (w_ret ?_)
  exact fin_plain (ret_cell tab_46 (by decide) rfl rfl (Nat.le_of_ble_eq_true rfl) rfl ret_nil) rfl rfl ⟨rfl,rfl,rfl⟩
 try simp only [sB] at c3
 refine w_seq (w_R (qo hnt rfl (s_eql rfl rfl ?_)))
 refine qa hnt rfl rfl (r_end (q_then (w_if rfl (fun c4 => ?_) (fun c4 => ?_))))
 ·try simp only [sB] at c4
  rw [guessR_6 hb0 (by omega)] at hG
  refine w_R (qm hnt rfl rfl (qo hnt rfl (s_callF rfl rfl rfl (w_burgageref3_words b cl_b 3 (by omega) (by omega)) rfl ?_)))
  refine qo hnt rfl (s_fa_ptr tab_46 rfl rfl tab_43 (by decide) rfl ?_)
  refine qo hnt rfl (s_store_ptr tab_43 rfl rfl rfl rfl rfl (Nat.le_of_ble_eq_true rfl) ?_)
  refine r_set [(2,PV.ptr 1 0),(3,PV.ptr 0 0)] [(0,.obj [pN (UInt8.toNat e1),pI vb,pI vc,pI 0,pI 0,pNil,pS 1 false enc16 (wordsAt b 3),p16 0,p16 0]),(1,.obj [pI 0,pI 0,pI 0,pI 0,pI 0,pNil,pNil,p16 0,p16 0])] 2 ⟨rfl,rfl,trivial⟩ rfl rfl (r_end (q_block (q_then (w_seq (w_R ?_)))))
  refine qo hnt rfl (s_load_ptr tab_46 rfl rfl rfl (Nat.le_of_ble_eq_true rfl) ?_)
  refine qo hnt rfl (s_store_ptr tab_46 rfl rfl rfl rfl rfl (Nat.le_of_ble_eq_true rfl) ?_)
  refine r_set [(2,PV.ptr 1 0)] [(1,.obj [pN (UInt8.toNat e1),pI vb,pI vc,pI 0,pI 0,pNil,pS 1 false enc16 (wordsAt b 3),p16 0,p16 0]),(0,.obj [pN (UInt8.toNat e1),pI vb,pI vc,pI 0,pI 0,pNil,pS 1 false enc16 (wordsAt b 3),p16 0,p16 0])] 2 ⟨rfl,trivial⟩ rfl rfl (r_end (q_then ?_))
  have hz3 : ((UInt8.toNat e1 : Nat) : Int) = G.fn ∧ vb = G.at_ ∧ vc = G.count ∧ 0 = G.wAt ∧ 0 = G.sub ∧ ([] : List Bool) = G.bits ∧ (wordsAt b 3) = G.vals ∧ 0 = G.and_ ∧ 0 = G.or_ := by and_intros <;> (first|(rw [hG]; done)|(rw [hG]; exact hvb)|(rw [hG]; exact hvd))
  refine w_leO (n := 1) (ds := cRequest G) rfl ⟨le_of_eq (congrArg pI hz3.1),le_of_eq (congrArg pI hz3.2.1),le_of_eq (congrArg pI hz3.2.2.1),le_of_eq (congrArg pI hz3.2.2.2.1),le_of_eq (congrArg pI hz3.2.2.2.2.1),le_tr (le_nilS 1 false) (le_of_eq (congrArg (fun z => pS 1 false encBo z) hz3.2.2.2.2.2.1)),le_of_eq (congrArg (fun z => pS 1 false enc16 z) hz3.2.2.2.2.2.2.1),le_of_eq (congrArg p16 hz3.2.2.2.2.2.2.2.1),le_of_eq (congrArg p16 hz3.2.2.2.2.2.2.2.2),trivial⟩ (w_ret ?_)
  exact fin_plain (ret_cell tab_46 (by decide) rfl rfl (Nat.le_of_ble_eq_true rfl) rfl ret_nil) rfl rfl ⟨rfl,rfl,rfl⟩
 try simp only [sB] at c4
 refine w_seq (w_R (qo hnt rfl (s_eql rfl rfl ?_)))
 refine qa hnt rfl rfl (r_end (q_then (w_if rfl (fun c5 => ?_) (fun c5 => ?_))))
 ·try simp only [sB] at c5
  rw [guessR_8 hb0 (by omega)] at hG
  refine w_R (qm hnt rfl rfl (qo hnt rfl (s_callF rfl rfl rfl (w_burgageref3_num b cl_b 1 (by omega) (by omega)) rfl ?_)))
  refine qm hnt rfl rfl (qo hnt rfl (s_callF rfl rfl rfl (w_burgageref3_words b cl_b 3 (by omega) (by omega)) rfl ?_))
  refine qo hnt rfl (s_fa_ptr tab_46 rfl rfl tab_3 (by decide) rfl ?_)
  refine qo hnt rfl (s_store_ptr tab_3 rfl rfl rfl rfl rfl (Nat.le_of_ble_eq_true rfl) ?_)
  refine qo hnt rfl (s_fa_ptr tab_46 rfl rfl tab_43 (by decide) rfl ?_)
  refine qo hnt rfl (s_store_ptr tab_43 rfl rfl rfl rfl rfl (Nat.le_of_ble_eq_true rfl) ?_)
  refine r_set [(2,PV.ptr 1 0),(3,PV.ptr 0 0)] [(0,.obj [pN (UInt8.toNat e1),pI vb,pI vc,pI 0,pI (getV b 1),pNil,pS 1 false enc16 (wordsAt b 3),p16 0,p16 0]),(1,.obj [pI 0,pI 0,pI 0,pI 0,pI 0,pNil,pNil,p16 0,p16 0])] 2 ⟨rfl,rfl,trivial⟩ rfl rfl (r_end (q_block (q_then (w_seq (w_R ?_)))))
  refine qo hnt rfl (s_load_ptr tab_46 rfl rfl rfl (Nat.le_of_ble_eq_true rfl) ?_)
  refine qo hnt rfl (s_store_ptr tab_46 rfl rfl rfl rfl rfl (Nat.le_of_ble_eq_true rfl) ?_)
  refine r_set [(2,PV.ptr 1 0)] [(1,.obj [pN (UInt8.toNat e1),pI vb,pI vc,pI 0,pI (getV b 1),pNil,pS 1 false enc16 (wordsAt b 3),p16 0,p16 0]),(0,.obj [pN (UInt8.toNat e1),pI vb,pI vc,pI 0,pI (getV b 1),pNil,pS 1 false enc16 (wordsAt b 3),p16 0,p16 0])] 2 ⟨rfl,trivial⟩ rfl rfl (r_end (q_then ?_))
  have hz4 : ((UInt8.toNat e1 : Nat) : Int) = G.fn ∧ vb = G.at_ ∧ vc = G.count ∧ 0 = G.wAt ∧ (getV b 1) = G.sub ∧ ([] : List Bool) = G.bits ∧ (wordsAt b 3) = G.vals ∧ 0 = G.and_ ∧ 0 = G.or_ := by and_intros <;> (first|(rw [hG]; done)|(rw [hG]; exact hvb)|(rw [hG]; exact hvd))
  refine w_leO (n := 1) (ds := cRequest G) rfl ⟨le_of_eq (congrArg pI hz4.1),le_of_eq (congrArg pI hz4.2.1),le_of_eq (congrArg pI hz4.2.2.1),le_of_eq (congrArg pI hz4.2.2.2.1),le_of_eq (congrArg pI hz4.2.2.2.2.1),le_tr (le_nilS 1 false) (le_of_eq (congrArg (fun z => pS 1 false encBo z) hz4.2.2.2.2.2.1)),le_of_eq (congrArg (fun z => pS 1 false enc16 z) hz4.2.2.2.2.2.2.1),le_of_eq (congrArg p16 hz4.2.2.2.2.2.2.2.1),le_of_eq (congrArg p16 hz4.2.2.2.2.2.2.2.2),trivial⟩ (w_ret ?_)
  exact fin_plain (ret_cell tab_46 (by decide) rfl rfl (Nat.le_of_ble_eq_true rfl) rfl ret_nil) rfl rfl ⟨rfl,rfl,rfl⟩
 try simp only [sB] at c5
 refine w_seq (w_R (qo hnt rfl (s_eql rfl rfl ?_)))
 refine qa hnt rfl rfl (r_end (q_then (w_if rfl (fun c6 => ?_) (fun c6 => ?_))))
 ·try simp only [sB] at c6
  rw [guessR_15 hb0 (by omega)] at hG
  refine w_seq (w_R (qm hnt rfl rfl (qo hnt rfl (s_lenM (l := b) tab_51 rfl (hM_sl (f := enc8) rfl) ?_))))
  refine qo hnt rfl (s_gtr rfl rfl ?_)
  refine r_end (q_then (w_if rfl (fun c7 => ?_) (fun c7 => ?_)))
  ·try simp only [sB] at c7
   rw [if_pos (by omega)] at hG
   refine W_drawn tabOk mixed hnt [[],[0],[],[2],[0,1,2,3],[0,1,2,3,4],[0,1,2,3,4,5],[0,1,2,3,4,5],[0,1,2,3,4,5,6],[0,1,2,3,4,5,6,8]] (by kernel_rfl) (d_op (x_run0 [(0,pS 1 cl_b enc8 b)] [] rfl rfl rfl rfl (s_move rfl ⟨rfl,rfl,rfl⟩) (d_op (x_run0 [(51,pS 1 cl_b enc8 b)] [0] rfl rfl rfl rfl (s_cutM_lo (a := 6) (f := enc8) (l := b) tab_51 rfl tab_5 ⟨rfl,by decide⟩ rfl (bound_some rfl (by omega)) (by omega) ⟨rfl,rfl,rfl⟩) (d_op ?_)))))
   refine x_run0 [(3,PV.ptr 0 0)] [] rfl rfl rfl rfl (s_fa_ptr tab_46 rfl rfl tab_3 (by decide) rfl ⟨rfl,rfl,rfl⟩) (d_op (xL [(53,PV.ptr 0 2)] [2] [(0,.obj [pN (UInt8.toNat e1),pI vb,pI vc,pI 0,pI 0,pNil,pNil,p16 0,p16 0])] rfl rfl rfl rfl rfl (s_load_ptr1 tab_3 rfl rfl rfl rfl rfl ⟨rfl,rfl,rfl⟩) ⟨rfl,trivial⟩ rfl (d_op (x_run0 [(52,pS 1 cl_b enc8 (b.drop 6)),(54,pI vc)] [0,1,2,3] rfl rfl rfl rfl (s_callF rfl rfl rfl (w_burgageref1_Open_s (b.drop 6) cl_b vc (by rw [List.length_drop]; omega) (by omega)) rfl ⟨rfl,rfl,rfl⟩) (d_op ?_)))))
   refine x_run0 [(55,PV.tup [pS 1 false encBo (bopV (b.drop 6) vc),pB (bopOk (b.drop 6) vc)])] [0,1,2,3,4] rfl rfl rfl rfl (s_move rfl ⟨rfl,rfl,rfl⟩) (d_op (x_run0 [(50,PV.tup [pS 1 false encBo (bopV (b.drop 6) vc),pB (bopOk (b.drop 6) vc)])] [0,1,2,3,4,5] rfl rfl rfl rfl (s_extract rfl rfl ⟨rfl,rfl,rfl⟩) (d_op (x_run0 [(50,PV.tup [pS 1 false encBo (bopV (b.drop 6) vc),pB (bopOk (b.drop 6) vc)])] [0,1,2,3,4,5] rfl rfl rfl rfl (s_extract rfl rfl ⟨rfl,rfl,rfl⟩) (d_op ?_)))))
   refine x_run0 [(3,PV.ptr 0 0)] [0,1,2,3,4,5,6] rfl rfl rfl rfl (s_fa_ptr tab_46 rfl rfl tab_42 (by decide) rfl ⟨rfl,rfl,rfl⟩) (d_op (xT [(58,PV.ptr 0 5),(56,pS 1 false encBo (bopV (b.drop 6) vc))] [0,1,2,3,4,5,6,8] [(0,.obj [pN (UInt8.toNat e1),pI vb,pI vc,pI 0,pI 0,pNil,pNil,p16 0,p16 0])] [(0,.obj [pN (UInt8.toNat e1),pI vb,pI vc,pI 0,pI 0,pS 1 false encBo (bopV (b.drop 6) vc),pNil,p16 0,p16 0])] [(1,.obj [pI 0,pI 0,pI 0,pI 0,pI 0,pNil,pNil,p16 0,p16 0])] rfl rfl rfl rfl rfl (s_store_ptr tab_42 rfl rfl rfl rfl rfl (Nat.le_of_ble_eq_true rfl) ⟨rfl,rfl,rfl⟩) rfl rfl (d_end ⟨by kernel_rfl, ?_⟩)))
   refine q_block (q_then (w_seq (w_R (qo hnt rfl (s_load_ptr tab_46 rfl rfl rfl (Nat.le_of_ble_eq_true rfl) ?_)))))
   refine qo hnt rfl (s_store_ptr tab_46 rfl rfl rfl rfl rfl (Nat.le_of_ble_eq_true rfl) ?_)
   refine r_set [(2,PV.ptr 1 0)] [(1,.obj [pN (UInt8.toNat e1),pI vb,pI vc,pI 0,pI 0,pS 1 false encBo (bopV (b.drop 6) vc),pNil,p16 0,p16 0]),(0,.obj [pN (UInt8.toNat e1),pI vb,pI vc,pI 0,pI 0,pS 1 false encBo (bopV (b.drop 6) vc),pNil,p16 0,p16 0])] 2 ⟨rfl,trivial⟩ rfl rfl (r_end (q_then ?_))
   have hz5 : ((UInt8.toNat e1 : Nat) : Int) = G.fn ∧ vb = G.at_ ∧ vc = G.count ∧ 0 = G.wAt ∧ 0 = G.sub ∧ (bopV (b.drop 6) vc) = G.bits ∧ ([] : List UInt16) = G.vals ∧ 0 = G.and_ ∧ 0 = G.or_ := by and_intros <;> (first|(rw [hG]; done)|(rw [hG]; exact hvb)|(rw [hG]; exact hvd)|(rw [hG,hvd]; done))
   refine w_leO (n := 1) (ds := cRequest G) rfl ⟨le_of_eq (congrArg pI hz5.1),le_of_eq (congrArg pI hz5.2.1),le_of_eq (congrArg pI hz5.2.2.1),le_of_eq (congrArg pI hz5.2.2.2.1),le_of_eq (congrArg pI hz5.2.2.2.2.1),le_of_eq (congrArg (fun z => pS 1 false encBo z) hz5.2.2.2.2.2.1),le_tr (le_nilS 1 false) (le_of_eq (congrArg (fun z => pS 1 false enc16 z) hz5.2.2.2.2.2.2.1)),le_of_eq (congrArg p16 hz5.2.2.2.2.2.2.2.1),le_of_eq (congrArg p16 hz5.2.2.2.2.2.2.2.2),trivial⟩ (w_ret ?_)
   exact fin_plain (ret_cell tab_46 (by decide) rfl rfl (Nat.le_of_ble_eq_true rfl) rfl ret_nil) rfl rfl ⟨rfl,rfl,rfl⟩
  try simp only [sB] at c7
  rw [if_neg (by omega)] at hG
  refine w_skip (q_block (q_then (w_seq (w_R (qo hnt rfl (s_load_ptr tab_46 rfl rfl rfl (Nat.le_of_ble_eq_true rfl) ?_))))))
  refine qo hnt rfl (s_store_ptr tab_46 rfl rfl rfl rfl rfl (Nat.le_of_ble_eq_true rfl) ?_)
  refine r_set [(2,PV.ptr 1 0)] [(1,.obj [pN (UInt8.toNat e1),pI vb,pI vc,pI 0,pI 0,pNil,pNil,p16 0,p16 0]),(0,.obj [pN (UInt8.toNat e1),pI vb,pI vc,pI 0,pI 0,pNil,pNil,p16 0,p16 0])] 2 ⟨rfl,trivial⟩ rfl rfl (r_end (q_then ?_))
  have hz6 : ((UInt8.toNat e1 : Nat) : Int) = G.fn ∧ vb = G.at_ ∧ vc = G.count ∧ 0 = G.wAt ∧ 0 = G.sub ∧ ([] : List Bool) = G.bits ∧ ([] : List UInt16) = G.vals ∧ 0 = G.and_ ∧ 0 = G.or_ := by and_intros <;> (first|(rw [hG]; done)|(rw [hG]; exact hvb)|(rw [hG]; exact hvd))
  refine w_leO (n := 1) (ds := cRequest G) rfl ⟨le_of_eq (congrArg pI hz6.1),le_of_eq (congrArg pI hz6.2.1),le_of_eq (congrArg pI hz6.2.2.1),le_of_eq (congrArg pI hz6.2.2.2.1),le_of_eq (congrArg pI hz6.2.2.2.2.1),le_tr (le_nilS 1 false) (le_of_eq (congrArg (fun z => pS 1 false encBo z) hz6.2.2.2.2.2.1)),le_tr (le_nilS 1 false) (le_of_eq (congrArg (fun z => pS 1 false enc16 z) hz6.2.2.2.2.2.2.1)),le_of_eq (congrArg p16 hz6.2.2.2.2.2.2.2.1),le_of_eq (congrArg p16 hz6.2.2.2.2.2.2.2.2),trivial⟩ (w_ret ?_)
  exact fin_plain (ret_cell tab_46 (by decide) rfl rfl (Nat.le_of_ble_eq_true rfl) rfl ret_nil) rfl rfl ⟨rfl,rfl,rfl⟩
 try simp only [sB] at c6
 refine w_seq (w_R (qo hnt rfl (s_eql rfl rfl ?_)))
 refine qa hnt rfl rfl (r_end (q_then (w_if rfl (fun c8 => ?_) (fun c8 => ?_))))
 ·try simp only [sB] at c8
  rw [guessR_16 hb0 (by omega)] at hG
  refine w_R (qm hnt rfl rfl (qo hnt rfl (s_callF rfl rfl rfl (w_burgageref3_words b cl_b 6 (by omega) (by omega)) rfl ?_)))
  refine qo hnt rfl (s_fa_ptr tab_46 rfl rfl tab_43 (by decide) rfl ?_)
  refine qo hnt rfl (s_store_ptr tab_43 rfl rfl rfl rfl rfl (Nat.le_of_ble_eq_true rfl) ?_)
  refine r_set [(2,PV.ptr 1 0),(3,PV.ptr 0 0)] [(0,.obj [pN (UInt8.toNat e1),pI vb,pI vc,pI 0,pI 0,pNil,pS 1 false enc16 (wordsAt b 6),p16 0,p16 0]),(1,.obj [pI 0,pI 0,pI 0,pI 0,pI 0,pNil,pNil,p16 0,p16 0])] 2 ⟨rfl,rfl,trivial⟩ rfl rfl (r_end (q_block (q_then (w_seq (w_R ?_)))))
  refine qo hnt rfl (s_load_ptr tab_46 rfl rfl rfl (Nat.le_of_ble_eq_true rfl) ?_)
  refine qo hnt rfl (s_store_ptr tab_46 rfl rfl rfl rfl rfl (Nat.le_of_ble_eq_true rfl) ?_)
  refine r_set [(2,PV.ptr 1 0)] [(1,.obj [pN (UInt8.toNat e1),pI vb,pI vc,pI 0,pI 0,pNil,pS 1 false enc16 (wordsAt b 6),p16 0,p16 0]),(0,.obj [pN (UInt8.toNat e1),pI vb,pI vc,pI 0,pI 0,pNil,pS 1 false enc16 (wordsAt b 6),p16 0,p16 0])] 2 ⟨rfl,trivial⟩ rfl rfl (r_end (q_then ?_))
  have hz7 : ((UInt8.toNat e1 : Nat) : Int) = G.fn ∧ vb = G.at_ ∧ vc = G.count ∧ 0 = G.wAt ∧ 0 = G.sub ∧ ([] : List Bool) = G.bits ∧ (wordsAt b 6) = G.vals ∧ 0 = G.and_ ∧ 0 = G.or_ := by and_intros <;> (first|(rw [hG]; done)|(rw [hG]; exact hvb)|(rw [hG]; exact hvd))
  refine w_leO (n := 1) (ds := cRequest G) rfl ⟨le_of_eq (congrArg pI hz7.1),le_of_eq (congrArg pI hz7.2.1),le_of_eq (congrArg pI hz7.2.2.1),le_of_eq (congrArg pI hz7.2.2.2.1),le_of_eq (congrArg pI hz7.2.2.2.2.1),le_tr (le_nilS 1 false) (le_of_eq (congrArg (fun z => pS 1 false encBo z) hz7.2.2.2.2.2.1)),le_of_eq (congrArg (fun z => pS 1 false enc16 z) hz7.2.2.2.2.2.2.1),le_of_eq (congrArg p16 hz7.2.2.2.2.2.2.2.1),le_of_eq (congrArg p16 hz7.2.2.2.2.2.2.2.2),trivial⟩ (w_ret ?_)
  exact fin_plain (ret_cell tab_46 (by decide) rfl rfl (Nat.le_of_ble_eq_true rfl) rfl ret_nil) rfl rfl ⟨rfl,rfl,rfl⟩
 try simp only [sB] at c8
 refine w_seq (w_R (qo hnt rfl (s_eql rfl rfl ?_)))
 refine qa hnt rfl rfl (r_end (q_then (w_if rfl (fun c9 => ?_) (fun c9 => ?_))))
 ·try simp only [sB] at c9
  rw [guessR_22 hb0 (by omega)] at hG
  refine w_R (qm hnt rfl rfl (qo hnt rfl (s_callF rfl rfl rfl (w_burgageref3_num b cl_b 3 (by omega) (by omega)) rfl ?_)))
  refine qo hnt rfl (s_cv16 tab_3 tab_44 rfl rfl rfl ?_)
  refine qm hnt rfl rfl (qo hnt rfl (s_callF rfl rfl rfl (w_burgageref3_num b cl_b 5 (by omega) (by omega)) rfl ?_))
  refine qo hnt rfl (s_cv16 tab_3 tab_44 rfl rfl rfl ?_)
  refine qo hnt rfl (s_fa_ptr tab_46 rfl rfl tab_44 (by decide) rfl ?_)
  refine qo hnt rfl (s_store_ptr tab_44 rfl rfl rfl rfl rfl (Nat.le_of_ble_eq_true rfl) ?_)
  refine qo hnt rfl (s_fa_ptr tab_46 rfl rfl tab_44 (by decide) rfl ?_)
  refine qo hnt rfl (s_store_ptr tab_44 rfl rfl rfl rfl rfl (Nat.le_of_ble_eq_true rfl) ?_)
  refine r_set [(2,PV.ptr 1 0),(3,PV.ptr 0 0)] [(0,.obj [pN (UInt8.toNat e1),pI vb,pI vc,pI 0,pI 0,pNil,pNil,p16 (u16I (getV b 3)),p16 (u16I (getV b 5))]),(1,.obj [pI 0,pI 0,pI 0,pI 0,pI 0,pNil,pNil,p16 0,p16 0])] 2 ⟨rfl,rfl,trivial⟩ rfl rfl (r_end (q_block (q_then (w_seq (w_R ?_)))))
  refine qo hnt rfl (s_load_ptr tab_46 rfl rfl rfl (Nat.le_of_ble_eq_true rfl) ?_)
  refine qo hnt rfl (s_store_ptr tab_46 rfl rfl rfl rfl rfl (Nat.le_of_ble_eq_true rfl) ?_)
  refine r_set [(2,PV.ptr 1 0)] [(1,.obj [pN (UInt8.toNat e1),pI vb,pI vc,pI 0,pI 0,pNil,pNil,p16 (u16I (getV b 3)),p16 (u16I (getV b 5))]),(0,.obj [pN (UInt8.toNat e1),pI vb,pI vc,pI 0,pI 0,pNil,pNil,p16 (u16I (getV b 3)),p16 (u16I (getV b 5))])] 2 ⟨rfl,trivial⟩ rfl rfl (r_end (q_then ?_))
  have hz8 : ((UInt8.toNat e1 : Nat) : Int) = G.fn ∧ vb = G.at_ ∧ vc = G.count ∧ 0 = G.wAt ∧ 0 = G.sub ∧ ([] : List Bool) = G.bits ∧ ([] : List UInt16) = G.vals ∧ (u16I (getV b 3)) = G.and_ ∧ (u16I (getV b 5)) = G.or_ := by and_intros <;> (first|(rw [hG]; done)|(rw [hG]; exact hvb)|(rw [hG]; exact hvd))
  refine w_leO (n := 1) (ds := cRequest G) rfl ⟨le_of_eq (congrArg pI hz8.1),le_of_eq (congrArg pI hz8.2.1),le_of_eq (congrArg pI hz8.2.2.1),le_of_eq (congrArg pI hz8.2.2.2.1),le_of_eq (congrArg pI hz8.2.2.2.2.1),le_tr (le_nilS 1 false) (le_of_eq (congrArg (fun z => pS 1 false encBo z) hz8.2.2.2.2.2.1)),le_tr (le_nilS 1 false) (le_of_eq (congrArg (fun z => pS 1 false enc16 z) hz8.2.2.2.2.2.2.1)),le_of_eq (congrArg p16 hz8.2.2.2.2.2.2.2.1),le_of_eq (congrArg p16 hz8.2.2.2.2.2.2.2.2),trivial⟩ (w_ret ?_)
  exact fin_plain (ret_cell tab_46 (by decide) rfl rfl (Nat.le_of_ble_eq_true rfl) rfl ret_nil) rfl rfl ⟨rfl,rfl,rfl⟩
 try simp only [sB] at c9
 refine w_seq (w_R (qo hnt rfl (s_eql rfl rfl ?_)))
 refine qa hnt rfl rfl (r_end (q_then (w_if rfl (fun c10 => ?_) (fun c10 => ?_))))
 ·try simp only [sB] at c10
  rw [guessR_23 hb0 (by omega)] at hG
  refine w_R (qm hnt rfl rfl (qo hnt rfl (s_callF rfl rfl rfl (w_burgageref3_num b cl_b 5 (by omega) (by omega)) rfl ?_)))
  refine qm hnt rfl rfl (qo hnt rfl (s_callF rfl rfl rfl (w_burgageref3_words b cl_b 10 (by omega) (by omega)) rfl ?_))
  refine qo hnt rfl (s_fa_ptr tab_46 rfl rfl tab_3 (by decide) rfl ?_)
  refine qo hnt rfl (s_store_ptr tab_3 rfl rfl rfl rfl rfl (Nat.le_of_ble_eq_true rfl) ?_)
  refine qo hnt rfl (s_fa_ptr tab_46 rfl rfl tab_43 (by decide) rfl ?_)
  refine qo hnt rfl (s_store_ptr tab_43 rfl rfl rfl rfl rfl (Nat.le_of_ble_eq_true rfl) ?_)
  refine r_set [(2,PV.ptr 1 0),(3,PV.ptr 0 0)] [(0,.obj [pN (UInt8.toNat e1),pI vb,pI vc,pI (getV b 5),pI 0,pNil,pS 1 false enc16 (wordsAt b 10),p16 0,p16 0]),(1,.obj [pI 0,pI 0,pI 0,pI 0,pI 0,pNil,pNil,p16 0,p16 0])] 2 ⟨rfl,rfl,trivial⟩ rfl rfl (r_end (q_block (q_then (w_seq (w_R ?_)))))
  refine qo hnt rfl (s_load_ptr tab_46 rfl rfl rfl (Nat.le_of_ble_eq_true rfl) ?_)
  refine qo hnt rfl (s_store_ptr tab_46 rfl rfl rfl rfl rfl (Nat.le_of_ble_eq_true rfl) ?_)
  refine r_set [(2,PV.ptr 1 0)] [(1,.obj [pN (UInt8.toNat e1),pI vb,pI vc,pI (getV b 5),pI 0,pNil,pS 1 false enc16 (wordsAt b 10),p16 0,p16 0]),(0,.obj [pN (UInt8.toNat e1),pI vb,pI vc,pI (getV b 5),pI 0,pNil,pS 1 false enc16 (wordsAt b 10),p16 0,p16 0])] 2 ⟨rfl,trivial⟩ rfl rfl (r_end (q_then ?_))
  have hz9 : ((UInt8.toNat e1 : Nat) : Int) = G.fn ∧ vb = G.at_ ∧ vc = G.count ∧ (getV b 5) = G.wAt ∧ 0 = G.sub ∧ ([] : List Bool) = G.bits ∧ (wordsAt b 10) = G.vals ∧ 0 = G.and_ ∧ 0 = G.or_ := by and_intros <;> (first|(rw [hG]; done)|(rw [hG]; exact hvb)|(rw [hG]; exact hvd))
  refine w_leO (n := 1) (ds := cRequest G) rfl ⟨le_of_eq (congrArg pI hz9.1),le_of_eq (congrArg pI hz9.2.1),le_of_eq (congrArg pI hz9.2.2.1),le_of_eq (congrArg pI hz9.2.2.2.1),le_of_eq (congrArg pI hz9.2.2.2.2.1),le_tr (le_nilS 1 false) (le_of_eq (congrArg (fun z => pS 1 false encBo z) hz9.2.2.2.2.2.1)),le_of_eq (congrArg (fun z => pS 1 false enc16 z) hz9.2.2.2.2.2.2.1),le_of_eq (congrArg p16 hz9.2.2.2.2.2.2.2.1),le_of_eq (congrArg p16 hz9.2.2.2.2.2.2.2.2),trivial⟩ (w_ret ?_)
  exact fin_plain (ret_cell tab_46 (by decide) rfl rfl (Nat.le_of_ble_eq_true rfl) rfl ret_nil) rfl rfl ⟨rfl,rfl,rfl⟩
 try simp only [sB] at c10
 rw [guessR_no hb0 (by omega)] at hG
 refine w_skip (q_block (q_then (w_seq (w_R (qo hnt rfl (s_load_ptr tab_46 rfl rfl rfl (Nat.le_of_ble_eq_true rfl) ?_))))))
 refine qo hnt rfl (s_store_ptr tab_46 rfl rfl rfl rfl rfl (Nat.le_of_ble_eq_true rfl) ?_)
 refine r_set [(2,PV.ptr 1 0)] [(1,.obj [pN (UInt8.toNat e1),pI vb,pI vc,pI 0,pI 0,pNil,pNil,p16 0,p16 0]),(0,.obj [pN (UInt8.toNat e1),pI vb,pI vc,pI 0,pI 0,pNil,pNil,p16 0,p16 0])] 2 ⟨rfl,trivial⟩ rfl rfl (r_end (q_then ?_))
 have hz10 : ((UInt8.toNat e1 : Nat) : Int) = G.fn ∧ vb = G.at_ ∧ vc = G.count ∧ 0 = G.wAt ∧ 0 = G.sub ∧ ([] : List Bool) = G.bits ∧ ([] : List UInt16) = G.vals ∧ 0 = G.and_ ∧ 0 = G.or_ := by and_intros <;> (first|(rw [hG]; done)|(rw [hG]; exact hvb)|(rw [hG]; exact hvd))
 refine w_leO (n := 1) (ds := cRequest G) rfl ⟨le_of_eq (congrArg pI hz10.1),le_of_eq (congrArg pI hz10.2.1),le_of_eq (congrArg pI hz10.2.2.1),le_of_eq (congrArg pI hz10.2.2.2.1),le_of_eq (congrArg pI hz10.2.2.2.2.1),le_tr (le_nilS 1 false) (le_of_eq (congrArg (fun z => pS 1 false encBo z) hz10.2.2.2.2.2.1)),le_tr (le_nilS 1 false) (le_of_eq (congrArg (fun z => pS 1 false enc16 z) hz10.2.2.2.2.2.2.1)),le_of_eq (congrArg p16 hz10.2.2.2.2.2.2.2.1),le_of_eq (congrArg p16 hz10.2.2.2.2.2.2.2.2),trivial⟩ (w_ret ?_)
 exact fin_plain (ret_cell tab_46 (by decide) rfl rfl (Nat.le_of_ble_eq_true rfl) rfl ret_nil) rfl rfl ⟨rfl,rfl,rfl⟩
end Go.Proofs.Ytljkbpgcglomfaa
set_option linter.unusedVariables false
namespace Go.Proofs.Ytljkbpgcglomfaa
open Go Go.Proofs.Ytljkbpgcglomfaa.Pv
def refuseR (fn code : Int) : TReply := ⟨((fn % 2 ^ 7).toNat : Int),((code % 2 ^ 8).toNat : Int),0,0,0,[],[],0,0,[]⟩
section
variable {m e b u : Int} {q : TRequest}
end
end Go.Proofs.Ytljkbpgcglomfaa
set_option linter.unusedVariables false
set_option linter.unusedSimpArgs false
set_option maxRecDepth 10000
set_option maxHeartbeats 1000000
namespace Go.Proofs.Ytljkbpgcglomfaa
open Go Go.Proofs.Ytljkbpgcglomfaa.Pv
theorem w_reply_Refuse (n : Int) (k : Int)  :
    T Try.prog 26 [pI n,pI k] 0 [] (Ret (PV.f (eReply (refuseR n k))) 0 []) := by
 refine t_fun tabOk (n := 10) (rs := [.cell 4 53]) Try.func26 rfl rfl rfl rfl (Nat.le_of_ble_eq_true rfl) ?_
 intro c hnt hk
 refine w_seq (w_R (qo hnt rfl (s_alloc tab_53 ?_)))
 refine r_set [(0,pI n),(1,pI k),(4,PV.ptr 0 0)] [(0,.obj [pI 0,pI 0,pI 0,pI 0,pI 0,pNil,pNil,p16 0,p16 0,pNil])] 1 ⟨rfl,rfl,rfl,trivial⟩ rfl rfl (r_end (q_then (w_seq (w_R (qm hnt rfl rfl ?_)))))
 refine qo hnt rfl (s_maskI 7 (by decide) rfl rfl (by decide) ?_)
 refine qm hnt rfl rfl (qo hnt rfl (s_maskI 8 (by decide) rfl rfl (by decide) ?_))
 refine qo hnt rfl (s_build tab_53 rfl rfl (b_cons rfl tab_3 rfl rfl rfl (Nat.le_of_ble_eq_true rfl) (b_cons rfl tab_3 rfl rfl rfl (Nat.le_of_ble_eq_true rfl) (b_nil ?_))))
 refine qo hnt rfl (s_store_ptr tab_53 rfl rfl rfl rfl rfl (Nat.le_of_ble_eq_true rfl) ?_)
 refine r_set [(4,PV.ptr 0 0)] [(0,.obj [pN ((n % 2 ^ 7).toNat),pN ((k % 2 ^ 8).toNat),pI 0,pI 0,pI 0,pNil,pNil,p16 0,p16 0,pNil])] 1 ⟨rfl,trivial⟩ rfl rfl (r_end (q_then (w_leO (n := 0) (ds := cReply (refuseR n k)) rfl ⟨le_of_eq (congrArg pI (show (((n % 2 ^ 7).toNat : Nat) : Int) = ((refuseR n k).fn) by rfl)),le_of_eq (congrArg pI (show (((k % 2 ^ 8).toNat : Nat) : Int) = ((refuseR n k).code) by rfl)),le_of_eq (congrArg pI (show 0 = ((refuseR n k).at_) by rfl)),le_of_eq (congrArg pI (show 0 = ((refuseR n k).count) by rfl)),le_of_eq (congrArg pI (show 0 = ((refuseR n k).sub) by rfl)),le_tr (le_nilS 1 false) (le_of_eq (congrArg (fun z => pS 1 false encBo z) (show ([] : List Bool) = ((refuseR n k).bits) by rfl))),le_tr (le_nilS 1 false) (le_of_eq (congrArg (fun z => pS 1 false enc16 z) (show ([] : List UInt16) = ((refuseR n k).vals) by rfl))),le_of_eq (congrArg p16 (show 0 = ((refuseR n k).and_) by rfl)),le_of_eq (congrArg p16 (show 0 = ((refuseR n k).or_) by rfl)),le_tr (le_nilS 1 false) (le_of_eq (congrArg (fun z => pS 1 false enc8 z) (show ([] : List UInt8) = ((refuseR n k).data) by rfl))),trivial⟩ (w_ret ?_))))
 exact fin_plain (ret_cell tab_53 (by decide) rfl rfl (Nat.le_of_ble_eq_true rfl) rfl ret_nil) rfl rfl ⟨rfl,rfl,rfl⟩
theorem w_burgageref3_Refuse (n : Int) (k : Int)  :
    T Try.prog 30 [pI n,pI k] 0 [] (Ret (PV.f (eReply (refuseR n k))) 0 []) := by
 refine t_fun tabOk (n := 10) (rs := [.cell 4 53]) Try.func30 rfl rfl rfl rfl (Nat.le_of_ble_eq_true rfl) ?_
 intro c hnt hk
 refine w_seq (w_R (qo hnt rfl (s_alloc tab_53 ?_)))
 refine r_set [(0,pI n),(1,pI k),(4,PV.ptr 0 0)] [(0,.obj [pI 0,pI 0,pI 0,pI 0,pI 0,pNil,pNil,p16 0,p16 0,pNil])] 1 ⟨rfl,rfl,rfl,trivial⟩ rfl rfl (r_end (q_then (w_seq (w_R (qm hnt rfl rfl ?_)))))
 refine qo hnt rfl (s_maskI 7 (by decide) rfl rfl (by decide) ?_)
 refine qm hnt rfl rfl (qo hnt rfl (s_maskI 8 (by decide) rfl rfl (by decide) ?_))
 refine qo hnt rfl (s_build tab_53 rfl rfl (b_cons rfl tab_3 rfl rfl rfl (Nat.le_of_ble_eq_true rfl) (b_cons rfl tab_3 rfl rfl rfl (Nat.le_of_ble_eq_true rfl) (b_nil ?_))))
 refine qo hnt rfl (s_store_ptr tab_53 rfl rfl rfl rfl rfl (Nat.le_of_ble_eq_true rfl) ?_)
 refine r_set [(4,PV.ptr 0 0)] [(0,.obj [pN ((n % 2 ^ 7).toNat),pN ((k % 2 ^ 8).toNat),pI 0,pI 0,pI 0,pNil,pNil,p16 0,p16 0,pNil])] 1 ⟨rfl,trivial⟩ rfl rfl (r_end (q_then (w_leO (n := 0) (ds := cReply (refuseR n k)) rfl ⟨le_of_eq (congrArg pI (show (((n % 2 ^ 7).toNat : Nat) : Int) = ((refuseR n k).fn) by rfl)),le_of_eq (congrArg pI (show (((k % 2 ^ 8).toNat : Nat) : Int) = ((refuseR n k).code) by rfl)),le_of_eq (congrArg pI (show 0 = ((refuseR n k).at_) by rfl)),le_of_eq (congrArg pI (show 0 = ((refuseR n k).count) by rfl)),le_of_eq (congrArg pI (show 0 = ((refuseR n k).sub) by rfl)),le_tr (le_nilS 1 false) (le_of_eq (congrArg (fun z => pS 1 false encBo z) (show ([] : List Bool) = ((refuseR n k).bits) by rfl))),le_tr (le_nilS 1 false) (le_of_eq (congrArg (fun z => pS 1 false enc16 z) (show ([] : List UInt16) = ((refuseR n k).vals) by rfl))),le_of_eq (congrArg p16 (show 0 = ((refuseR n k).and_) by rfl)),le_of_eq (congrArg p16 (show 0 = ((refuseR n k).or_) by rfl)),le_tr (le_nilS 1 false) (le_of_eq (congrArg (fun z => pS 1 false enc8 z) (show ([] : List UInt8) = ((refuseR n k).data) by rfl))),trivial⟩ (w_ret ?_))))
 exact fin_plain (ret_cell tab_53 (by decide) rfl rfl (Nat.le_of_ble_eq_true rfl) rfl ret_nil) rfl rfl ⟨rfl,rfl,rfl⟩
theorem w_burgageref3_Alike (a : TReply) (b : TReply) (ha : a.bits.length ≤ 140737488351232 ∧ a.vals.length ≤ 140737488351232 ∧ a.data.length ≤ 140737488351232) :
    T Try.prog 29 [PV.f (eReply a),PV.f (eReply b)] 0 [] (Ret (pB (decide (a = b))) 0 []) := by
 refine t_fun tabOk (n := 75) (rs := [.tmp 4]) Try.func29 rfl rfl rfl rfl (Nat.le_of_ble_eq_true rfl) ?_
 intro c hnt hk
 refine w_seq (w_R (qo hnt rfl (s_box rfl rfl ?_)))
 refine qo hnt rfl (s_box rfl rfl ?_)
 refine qa hnt rfl rfl (r_set [(2,PV.ptr 0 0),(3,PV.ptr 1 0)] [(1,.obj (cReply b)),(0,.obj (cReply a))] 2 ⟨rfl,rfl,trivial⟩ rfl rfl (r_end (q_then (w_seq (w_R ?_)))))
 refine qo hnt rfl (s_fa_ptr tab_53 rfl rfl tab_3 (by decide) rfl ?_)
 refine qo hnt rfl (s_load_ptr1 tab_3 rfl rfl rfl rfl rfl ?_)
 refine qo hnt rfl (s_fa_ptr tab_53 rfl rfl tab_3 (by decide) rfl ?_)
 refine qo hnt rfl (s_load_ptr1 tab_3 rfl rfl rfl rfl rfl ?_)
 refine qo hnt rfl (s_eql rfl rfl ?_)
 refine qm hnt rfl rfl (r_cut0 6 [(2,PV.ptr 0 0),(3,PV.ptr 1 0),(16,pB ((decide (a.fn = b.fn)) && (decide (a.code = b.code))))] ?_ ?_)
 ·refine r_if tabOk hnt rfl rfl rfl (fun g1 => ?_) (fun g1 => ?_)
  ·have g1' := g1
   try simp only [sB] at g1'
   refine qo hnt rfl (s_fa_ptr tab_53 rfl rfl tab_3 (by decide) rfl ?_)
   refine ry hnt rfl rfl rfl g1 (qo hnt rfl (s_load_ptr1 tab_3 rfl rfl rfl rfl rfl ?_))
   refine ry hnt rfl rfl rfl g1 (qo hnt rfl (s_fa_ptr tab_53 rfl rfl tab_3 (by decide) rfl ?_))
   refine ry hnt rfl rfl rfl g1 (qo hnt rfl (s_load_ptr1 tab_3 rfl rfl rfl rfl rfl ?_))
   refine ry hnt rfl rfl rfl g1 (qo hnt rfl (s_eql rfl rfl ?_))
   refine qo hnt rfl (s_pick_t rfl g1 rfl ?_)
   refine r_eq (s := 16) (y := pB ((decide (a.fn = b.fn)) && (decide (a.code = b.code)))) rfl (mix_at g1) ?_
   exact r_mid ⟨⟨rfl,rfl,rfl,trivial⟩,rfl,rfl⟩
  ·have g1' := g1
   try simp only [sB] at g1'
   refine rn hnt rfl rfl rfl g1 (rn hnt rfl rfl rfl g1 (rn hnt rfl rfl rfl g1 (rn hnt rfl rfl rfl g1 (qo hnt rfl (s_pick_f rfl g1 rfl ?_)))))
   refine r_eq (s := 16) (y := pB ((decide (a.fn = b.fn)) && (decide (a.code = b.code)))) rfl (mix_af _ g1) ?_
   exact r_mid ⟨⟨rfl,rfl,rfl,trivial⟩,rfl,rfl⟩
 ·refine qm hnt rfl rfl (r_cut0 6 [(2,PV.ptr 0 0),(3,PV.ptr 1 0),(23,pB (((decide (a.fn = b.fn)) && (decide (a.code = b.code))) && (decide (a.at_ = b.at_))))] ?_ ?_)
  ·refine r_if tabOk hnt rfl rfl rfl (fun g2 => ?_) (fun g2 => ?_)
   ·have g2' := g2
    try simp only [sB] at g2'
    refine qo hnt rfl (s_fa_ptr tab_53 rfl rfl tab_3 (by decide) rfl ?_)
    refine ry hnt rfl rfl rfl g2 (qo hnt rfl (s_load_ptr1 tab_3 rfl rfl rfl rfl rfl ?_))
    refine ry hnt rfl rfl rfl g2 (qo hnt rfl (s_fa_ptr tab_53 rfl rfl tab_3 (by decide) rfl ?_))
    refine ry hnt rfl rfl rfl g2 (qo hnt rfl (s_load_ptr1 tab_3 rfl rfl rfl rfl rfl ?_))
    refine ry hnt rfl rfl rfl g2 (qo hnt rfl (s_eql rfl rfl ?_))
    refine qo hnt rfl (s_pick_t rfl g2 rfl ?_)
    refine r_eq (s := 23) (y := pB (((decide (a.fn = b.fn)) && (decide (a.code = b.code))) && (decide (a.at_ = b.at_)))) rfl (mix_at g2) ?_
    exact r_mid ⟨⟨rfl,rfl,rfl,trivial⟩,rfl,rfl⟩
   ·have g2' := g2
    try simp only [sB] at g2'
    refine rn hnt rfl rfl rfl g2 (rn hnt rfl rfl rfl g2 (rn hnt rfl rfl rfl g2 (rn hnt rfl rfl rfl g2 (qo hnt rfl (s_pick_f rfl g2 rfl ?_)))))
    refine r_eq (s := 23) (y := pB (((decide (a.fn = b.fn)) && (decide (a.code = b.code))) && (decide (a.at_ = b.at_)))) rfl (mix_af _ g2) ?_
    exact r_mid ⟨⟨rfl,rfl,rfl,trivial⟩,rfl,rfl⟩
  ·refine qm hnt rfl rfl (r_cut0 6 [(2,PV.ptr 0 0),(3,PV.ptr 1 0),(30,pB ((((decide (a.fn = b.fn)) && (decide (a.code = b.code))) && (decide (a.at_ = b.at_))) && (decide (a.count = b.count))))] ?_ ?_)
   ·refine r_if tabOk hnt rfl rfl rfl (fun g3 => ?_) (fun g3 => ?_)
    ·have g3' := g3
     try simp only [sB] at g3'
     refine qo hnt rfl (s_fa_ptr tab_53 rfl rfl tab_3 (by decide) rfl ?_)
     refine ry hnt rfl rfl rfl g3 (qo hnt rfl (s_load_ptr1 tab_3 rfl rfl rfl rfl rfl ?_))
     refine ry hnt rfl rfl rfl g3 (qo hnt rfl (s_fa_ptr tab_53 rfl rfl tab_3 (by decide) rfl ?_))
     refine ry hnt rfl rfl rfl g3 (qo hnt rfl (s_load_ptr1 tab_3 rfl rfl rfl rfl rfl ?_))
     refine ry hnt rfl rfl rfl g3 (qo hnt rfl (s_eql rfl rfl ?_))
     refine qo hnt rfl (s_pick_t rfl g3 rfl ?_)
     refine r_eq (s := 30) (y := pB ((((decide (a.fn = b.fn)) && (decide (a.code = b.code))) && (decide (a.at_ = b.at_))) && (decide (a.count = b.count)))) rfl (mix_at g3) ?_
     exact r_mid ⟨⟨rfl,rfl,rfl,trivial⟩,rfl,rfl⟩
    ·have g3' := g3
     try simp only [sB] at g3'
     refine rn hnt rfl rfl rfl g3 (rn hnt rfl rfl rfl g3 (rn hnt rfl rfl rfl g3 (rn hnt rfl rfl rfl g3 (qo hnt rfl (s_pick_f rfl g3 rfl ?_)))))
     refine r_eq (s := 30) (y := pB ((((decide (a.fn = b.fn)) && (decide (a.code = b.code))) && (decide (a.at_ = b.at_))) && (decide (a.count = b.count)))) rfl (mix_af _ g3) ?_
     exact r_mid ⟨⟨rfl,rfl,rfl,trivial⟩,rfl,rfl⟩
   ·refine qm hnt rfl rfl (r_cut0 6 [(2,PV.ptr 0 0),(3,PV.ptr 1 0),(37,pB (((((decide (a.fn = b.fn)) && (decide (a.code = b.code))) && (decide (a.at_ = b.at_))) && (decide (a.count = b.count))) && (decide (a.sub = b.sub))))] ?_ ?_)
    ·refine r_if tabOk hnt rfl rfl rfl (fun g4 => ?_) (fun g4 => ?_)
     ·have g4' := g4
      try simp only [sB] at g4'
      refine qo hnt rfl (s_fa_ptr tab_53 rfl rfl tab_3 (by decide) rfl ?_)
      refine ry hnt rfl rfl rfl g4 (qo hnt rfl (s_load_ptr1 tab_3 rfl rfl rfl rfl rfl ?_))
      refine ry hnt rfl rfl rfl g4 (qo hnt rfl (s_fa_ptr tab_53 rfl rfl tab_3 (by decide) rfl ?_))
      refine ry hnt rfl rfl rfl g4 (qo hnt rfl (s_load_ptr1 tab_3 rfl rfl rfl rfl rfl ?_))
      refine ry hnt rfl rfl rfl g4 (qo hnt rfl (s_eql rfl rfl ?_))
      refine qo hnt rfl (s_pick_t rfl g4 rfl ?_)
      refine r_eq (s := 37) (y := pB (((((decide (a.fn = b.fn)) && (decide (a.code = b.code))) && (decide (a.at_ = b.at_))) && (decide (a.count = b.count))) && (decide (a.sub = b.sub)))) rfl (mix_at g4) ?_
      exact r_mid ⟨⟨rfl,rfl,rfl,trivial⟩,rfl,rfl⟩
     ·have g4' := g4
      try simp only [sB] at g4'
      refine rn hnt rfl rfl rfl g4 (rn hnt rfl rfl rfl g4 (rn hnt rfl rfl rfl g4 (rn hnt rfl rfl rfl g4 (qo hnt rfl (s_pick_f rfl g4 rfl ?_)))))
      refine r_eq (s := 37) (y := pB (((((decide (a.fn = b.fn)) && (decide (a.code = b.code))) && (decide (a.at_ = b.at_))) && (decide (a.count = b.count))) && (decide (a.sub = b.sub)))) rfl (mix_af _ g4) ?_
      exact r_mid ⟨⟨rfl,rfl,rfl,trivial⟩,rfl,rfl⟩
    ·refine qm hnt rfl rfl (r_cut0 6 [(2,PV.ptr 0 0),(3,PV.ptr 1 0),(44,pB ((((((decide (a.fn = b.fn)) && (decide (a.code = b.code))) && (decide (a.at_ = b.at_))) && (decide (a.count = b.count))) && (decide (a.sub = b.sub))) && (decide (a.and_ = b.and_))))] ?_ ?_)
     ·refine r_if tabOk hnt rfl rfl rfl (fun g5 => ?_) (fun g5 => ?_)
      ·have g5' := g5
       try simp only [sB] at g5'
       refine qo hnt rfl (s_fa_ptr tab_53 rfl rfl tab_44 (by decide) rfl ?_)
       refine ry hnt rfl rfl rfl g5 (qo hnt rfl (s_load_ptr1 tab_44 rfl rfl rfl rfl rfl ?_))
       refine ry hnt rfl rfl rfl g5 (qo hnt rfl (s_fa_ptr tab_53 rfl rfl tab_44 (by decide) rfl ?_))
       refine ry hnt rfl rfl rfl g5 (qo hnt rfl (s_load_ptr1 tab_44 rfl rfl rfl rfl rfl ?_))
       refine ry hnt rfl rfl rfl g5 (qo hnt rfl (s_eql16 (a := a.and_) (b := b.and_) rfl rfl ?_))
       refine qo hnt rfl (s_pick_t rfl g5 rfl ?_)
       refine r_eq (s := 44) (y := pB ((((((decide (a.fn = b.fn)) && (decide (a.code = b.code))) && (decide (a.at_ = b.at_))) && (decide (a.count = b.count))) && (decide (a.sub = b.sub))) && (decide (a.and_ = b.and_)))) rfl (mix_at g5) ?_
       exact r_mid ⟨⟨rfl,rfl,rfl,trivial⟩,rfl,rfl⟩
      ·have g5' := g5
       try simp only [sB] at g5'
       refine rn hnt rfl rfl rfl g5 (rn hnt rfl rfl rfl g5 (rn hnt rfl rfl rfl g5 (rn hnt rfl rfl rfl g5 (qo hnt rfl (s_pick_f rfl g5 rfl ?_)))))
       refine r_eq (s := 44) (y := pB ((((((decide (a.fn = b.fn)) && (decide (a.code = b.code))) && (decide (a.at_ = b.at_))) && (decide (a.count = b.count))) && (decide (a.sub = b.sub))) && (decide (a.and_ = b.and_)))) rfl (mix_af _ g5) ?_
       exact r_mid ⟨⟨rfl,rfl,rfl,trivial⟩,rfl,rfl⟩
     ·refine qm hnt rfl rfl (r_cut0 6 [(2,PV.ptr 0 0),(3,PV.ptr 1 0),(51,pB (((((((decide (a.fn = b.fn)) && (decide (a.code = b.code))) && (decide (a.at_ = b.at_))) && (decide (a.count = b.count))) && (decide (a.sub = b.sub))) && (decide (a.and_ = b.and_))) && (decide (a.or_ = b.or_))))] ?_ ?_)
      ·refine r_if tabOk hnt rfl rfl rfl (fun g6 => ?_) (fun g6 => ?_)
       ·have g6' := g6
        try simp only [sB] at g6'
        refine qo hnt rfl (s_fa_ptr tab_53 rfl rfl tab_44 (by decide) rfl ?_)
        refine ry hnt rfl rfl rfl g6 (qo hnt rfl (s_load_ptr1 tab_44 rfl rfl rfl rfl rfl ?_))
        refine ry hnt rfl rfl rfl g6 (qo hnt rfl (s_fa_ptr tab_53 rfl rfl tab_44 (by decide) rfl ?_))
        refine ry hnt rfl rfl rfl g6 (qo hnt rfl (s_load_ptr1 tab_44 rfl rfl rfl rfl rfl ?_))
        refine ry hnt rfl rfl rfl g6 (qo hnt rfl (s_eql16 (a := a.or_) (b := b.or_) rfl rfl ?_))
        refine qo hnt rfl (s_pick_t rfl g6 rfl ?_)
        refine r_eq (s := 51) (y := pB (((((((decide (a.fn = b.fn)) && (decide (a.code = b.code))) && (decide (a.at_ = b.at_))) && (decide (a.count = b.count))) && (decide (a.sub = b.sub))) && (decide (a.and_ = b.and_))) && (decide (a.or_ = b.or_)))) rfl (mix_at g6) ?_
        exact r_mid ⟨⟨rfl,rfl,rfl,trivial⟩,rfl,rfl⟩
       ·have g6' := g6
        try simp only [sB] at g6'
        refine rn hnt rfl rfl rfl g6 (rn hnt rfl rfl rfl g6 (rn hnt rfl rfl rfl g6 (rn hnt rfl rfl rfl g6 (qo hnt rfl (s_pick_f rfl g6 rfl ?_)))))
        refine r_eq (s := 51) (y := pB (((((((decide (a.fn = b.fn)) && (decide (a.code = b.code))) && (decide (a.at_ = b.at_))) && (decide (a.count = b.count))) && (decide (a.sub = b.sub))) && (decide (a.and_ = b.and_))) && (decide (a.or_ = b.or_)))) rfl (mix_af _ g6) ?_
        exact r_mid ⟨⟨rfl,rfl,rfl,trivial⟩,rfl,rfl⟩
      ·refine qm hnt rfl rfl (r_cut0 6 [(2,PV.ptr 0 0),(3,PV.ptr 1 0),(58,pB ((((((((decide (a.fn = b.fn)) && (decide (a.code = b.code))) && (decide (a.at_ = b.at_))) && (decide (a.count = b.count))) && (decide (a.sub = b.sub))) && (decide (a.and_ = b.and_))) && (decide (a.or_ = b.or_))) && (decide (a.bits = b.bits))))] ?_ ?_)
       ·refine r_if tabOk hnt rfl rfl rfl (fun g7 => ?_) (fun g7 => ?_)
        ·have g7' := g7
         try simp only [sB] at g7'
         refine qo hnt rfl (s_fa_ptr tab_53 rfl rfl tab_42 (by decide) rfl ?_)
         refine ry hnt rfl rfl rfl g7 (qo hnt rfl (s_load_ptr1 tab_42 rfl rfl rfl rfl rfl ?_))
         refine ry hnt rfl rfl rfl g7 (qo hnt rfl (s_fa_ptr tab_53 rfl rfl tab_42 (by decide) rfl ?_))
         refine ry hnt rfl rfl rfl g7 (qo hnt rfl (s_load_ptr1 tab_42 rfl rfl rfl rfl rfl ?_))
         refine ry hnt rfl rfl rfl g7 (qo hnt rfl (s_callF rfl rfl rfl (w_burgageref3_bits a.bits false b.bits false (by omega)) rfl ?_))
         refine qo hnt rfl (s_pick_t rfl g7 rfl ?_)
         refine r_eq (s := 58) (y := pB ((((((((decide (a.fn = b.fn)) && (decide (a.code = b.code))) && (decide (a.at_ = b.at_))) && (decide (a.count = b.count))) && (decide (a.sub = b.sub))) && (decide (a.and_ = b.and_))) && (decide (a.or_ = b.or_))) && (decide (a.bits = b.bits)))) rfl (mix_at g7) ?_
         exact r_mid ⟨⟨rfl,rfl,rfl,trivial⟩,rfl,rfl⟩
        ·have g7' := g7
         try simp only [sB] at g7'
         refine rn hnt rfl rfl rfl g7 (rn hnt rfl rfl rfl g7 (rn hnt rfl rfl rfl g7 (rn hnt rfl rfl rfl g7 (qo hnt rfl (s_pick_f rfl g7 rfl ?_)))))
         refine r_eq (s := 58) (y := pB ((((((((decide (a.fn = b.fn)) && (decide (a.code = b.code))) && (decide (a.at_ = b.at_))) && (decide (a.count = b.count))) && (decide (a.sub = b.sub))) && (decide (a.and_ = b.and_))) && (decide (a.or_ = b.or_))) && (decide (a.bits = b.bits)))) rfl (mix_af _ g7) ?_
         exact r_mid ⟨⟨rfl,rfl,rfl,trivial⟩,rfl,rfl⟩
       ·refine qm hnt rfl rfl (r_cut0 6 [(2,PV.ptr 0 0),(3,PV.ptr 1 0),(65,pB (((((((((decide (a.fn = b.fn)) && (decide (a.code = b.code))) && (decide (a.at_ = b.at_))) && (decide (a.count = b.count))) && (decide (a.sub = b.sub))) && (decide (a.and_ = b.and_))) && (decide (a.or_ = b.or_))) && (decide (a.bits = b.bits))) && (decide (a.vals = b.vals))))] ?_ ?_)
        ·refine r_if tabOk hnt rfl rfl rfl (fun g8 => ?_) (fun g8 => ?_)
         ·have g8' := g8
          try simp only [sB] at g8'
          refine qo hnt rfl (s_fa_ptr tab_53 rfl rfl tab_43 (by decide) rfl ?_)
          refine ry hnt rfl rfl rfl g8 (qo hnt rfl (s_load_ptr1 tab_43 rfl rfl rfl rfl rfl ?_))
          refine ry hnt rfl rfl rfl g8 (qo hnt rfl (s_fa_ptr tab_53 rfl rfl tab_43 (by decide) rfl ?_))
          refine ry hnt rfl rfl rfl g8 (qo hnt rfl (s_load_ptr1 tab_43 rfl rfl rfl rfl rfl ?_))
          refine ry hnt rfl rfl rfl g8 (qo hnt rfl (s_callF rfl rfl rfl (w_burgageref3_vals a.vals false b.vals false (by omega)) rfl ?_))
          refine qo hnt rfl (s_pick_t rfl g8 rfl ?_)
          refine r_eq (s := 65) (y := pB (((((((((decide (a.fn = b.fn)) && (decide (a.code = b.code))) && (decide (a.at_ = b.at_))) && (decide (a.count = b.count))) && (decide (a.sub = b.sub))) && (decide (a.and_ = b.and_))) && (decide (a.or_ = b.or_))) && (decide (a.bits = b.bits))) && (decide (a.vals = b.vals)))) rfl (mix_at g8) ?_
          exact r_mid ⟨⟨rfl,rfl,rfl,trivial⟩,rfl,rfl⟩
         ·have g8' := g8
          try simp only [sB] at g8'
          refine rn hnt rfl rfl rfl g8 (rn hnt rfl rfl rfl g8 (rn hnt rfl rfl rfl g8 (rn hnt rfl rfl rfl g8 (qo hnt rfl (s_pick_f rfl g8 rfl ?_)))))
          refine r_eq (s := 65) (y := pB (((((((((decide (a.fn = b.fn)) && (decide (a.code = b.code))) && (decide (a.at_ = b.at_))) && (decide (a.count = b.count))) && (decide (a.sub = b.sub))) && (decide (a.and_ = b.and_))) && (decide (a.or_ = b.or_))) && (decide (a.bits = b.bits))) && (decide (a.vals = b.vals)))) rfl (mix_af _ g8) ?_
          exact r_mid ⟨⟨rfl,rfl,rfl,trivial⟩,rfl,rfl⟩
        ·refine qm hnt rfl rfl (r_cut0 8 [(74,pB ((((((((((decide (a.fn = b.fn)) && (decide (a.code = b.code))) && (decide (a.at_ = b.at_))) && (decide (a.count = b.count))) && (decide (a.sub = b.sub))) && (decide (a.and_ = b.and_))) && (decide (a.or_ = b.or_))) && (decide (a.bits = b.bits))) && (decide (a.vals = b.vals))) && (decide (a.data = b.data))))] ?_ ?_)
         ·refine r_if tabOk hnt rfl rfl rfl (fun g9 => ?_) (fun g9 => ?_)
          ·have g9' := g9
           try simp only [sB] at g9'
           refine qo hnt rfl (s_fa_ptr tab_53 rfl rfl tab_51 (by decide) rfl ?_)
           refine ry hnt rfl rfl rfl g9 (qo hnt rfl (s_load_ptr1 tab_51 rfl rfl rfl rfl rfl ?_))
           refine ry hnt rfl rfl rfl g9 (qo hnt rfl (s_cvT tab_51 tab_9 rfl tab_5 rfl rfl (hM_sl (f := enc8) rfl) ?_))
           refine ry hnt rfl rfl rfl g9 (qo hnt rfl (s_fa_ptr tab_53 rfl rfl tab_51 (by decide) rfl ?_))
           refine ry hnt rfl rfl rfl g9 (qo hnt rfl (s_load_ptr1 tab_51 rfl rfl rfl rfl rfl ?_))
           refine ry hnt rfl rfl rfl g9 (qo hnt rfl (s_cvT tab_51 tab_9 rfl tab_5 rfl rfl (hM_sl (f := enc8) rfl) ?_))
           refine ry hnt rfl rfl rfl g9 (qo hnt rfl (s_eqtext (l := a.data) (m := b.data) rfl rfl ?_))
           refine qo hnt rfl (s_pick_t rfl g9 rfl ?_)
           refine r_eq (s := 74) (y := pB ((((((((((decide (a.fn = b.fn)) && (decide (a.code = b.code))) && (decide (a.at_ = b.at_))) && (decide (a.count = b.count))) && (decide (a.sub = b.sub))) && (decide (a.and_ = b.and_))) && (decide (a.or_ = b.or_))) && (decide (a.bits = b.bits))) && (decide (a.vals = b.vals))) && (decide (a.data = b.data)))) rfl (mix_at g9) ?_
           exact r_mid ⟨⟨rfl,trivial⟩,rfl,rfl⟩
          ·have g9' := g9
           try simp only [sB] at g9'
           refine rn hnt rfl rfl rfl g9 (rn hnt rfl rfl rfl g9 (rn hnt rfl rfl rfl g9 (rn hnt rfl rfl rfl g9 (rn hnt rfl rfl rfl g9 (rn hnt rfl rfl rfl g9 ?_)))))
           refine qo hnt rfl (s_pick_f rfl g9 rfl ?_)
           refine r_eq (s := 74) (y := pB ((((((((((decide (a.fn = b.fn)) && (decide (a.code = b.code))) && (decide (a.at_ = b.at_))) && (decide (a.count = b.count))) && (decide (a.sub = b.sub))) && (decide (a.and_ = b.and_))) && (decide (a.or_ = b.or_))) && (decide (a.bits = b.bits))) && (decide (a.vals = b.vals))) && (decide (a.data = b.data)))) rfl (mix_af _ g9) ?_
           exact r_mid ⟨⟨rfl,trivial⟩,rfl,rfl⟩
         ·refine qa hnt rfl rfl (r_end (q_then (w_le (s := 4) (y := pB (decide (a = b))) rfl (le_of_eq (congrArg pB (show ((((((((((decide (a.fn = b.fn)) && (decide (a.code = b.code))) && (decide (a.at_ = b.at_))) && (decide (a.count = b.count))) && (decide (a.sub = b.sub))) && (decide (a.and_ = b.and_))) && (decide (a.or_ = b.or_))) && (decide (a.bits = b.bits))) && (decide (a.vals = b.vals))) && (decide (a.data = b.data))) = (decide (a = b)) by apply Bool.eq_iff_iff.2; simp only [Bool.and_eq_true,decide_eq_true_eq]; cases a; cases b; simp only [TReply.mk.injEq]; constructor <;> (intro h; simp_all)))) (w_ret ?_))))
          exact fin_plain (ret_tmp rfl ret_nil) rfl rfl ⟨rfl,rfl,rfl⟩
end Go.Proofs.Ytljkbpgcglomfaa
set_option linter.unusedVariables false
set_option linter.unusedSimpArgs false
namespace Go.Proofs.Ytljkbpgcglomfaa
open Go Go.Proofs.Ytljkbpgcglomfaa.Pv
structure CodeA (r : TReply) : Prop where
  code : 1 ≤ r.code ∧ r.code ≤ 255
  fn : 0 ≤ r.fn ∧ r.fn ≤ 127
  rest : r = ⟨r.fn,r.code,0,0,0,[],[],0,0,[]⟩
structure ShapeA (r : TReply) : Prop where
  wa : 0 ≤ r.at_ ∧ r.at_ ≤ 65535
  wc : 0 ≤ r.count ∧ r.count ≤ 65535
  ws : 0 ≤ r.sub ∧ r.sub ≤ 65535
  za : ¬ (r.fn = 5 ∨ r.fn = 6 ∨ r.fn = 15 ∨ r.fn = 16 ∨ r.fn = 22) → r.at_ = 0
  zc : ¬ (r.fn = 15 ∨ r.fn = 16) → r.count = 0
  zs : r.fn ≠ 8 → r.sub = 0
  zm : r.fn ≠ 22 → r.and_.toNat = 0 ∧ r.or_.toNat = 0
  zb : ¬ (r.fn = 1 ∨ r.fn = 2 ∨ r.fn = 5) → r.bits.length = 0
  zv : ¬ (r.fn = 3 ∨ r.fn = 4 ∨ r.fn = 23 ∨ r.fn = 6 ∨ r.fn = 8) → r.vals.length = 0
  zd : r.fn ≠ 17 → r.data.length = 0
  ob : r.fn = 5 → r.bits.length = 1
  ov : r.fn = 6 ∨ r.fn = 8 → r.vals.length = 1
  lb : r.bits.length ≤ 2040
  lv : r.vals.length ≤ 127
  ld : r.data.length ≤ 250
instance (r : TReply) : Decidable (CodeA r) := decidable_of_iff ((1 ≤ r.code ∧ r.code ≤ 255) ∧ (0 ≤ r.fn ∧ r.fn ≤ 127) ∧ r = ⟨r.fn,r.code,0,0,0,[],[],0,0,[]⟩) ⟨fun h => ⟨h.1,h.2.1,h.2.2⟩,fun h => ⟨h.1,h.2,h.3⟩⟩
instance (r : TReply) : Decidable (ShapeA r) := decidable_of_iff ((0 ≤ r.at_ ∧ r.at_ ≤ 65535) ∧ (0 ≤ r.count ∧ r.count ≤ 65535) ∧ (0 ≤ r.sub ∧ r.sub ≤ 65535) ∧ (¬ (r.fn = 5 ∨ r.fn = 6 ∨ r.fn = 15 ∨ r.fn = 16 ∨ r.fn = 22) → r.at_ = 0) ∧ (¬ (r.fn = 15 ∨ r.fn = 16) → r.count = 0) ∧ (r.fn ≠ 8 → r.sub = 0) ∧
    (r.fn ≠ 22 → r.and_.toNat = 0 ∧ r.or_.toNat = 0) ∧ (¬ (r.fn = 1 ∨ r.fn = 2 ∨ r.fn = 5) → r.bits.length = 0) ∧ (¬ (r.fn = 3 ∨ r.fn = 4 ∨ r.fn = 23 ∨ r.fn = 6 ∨ r.fn = 8) → r.vals.length = 0) ∧ (r.fn ≠ 17 → r.data.length = 0) ∧ (r.fn = 5 → r.bits.length = 1) ∧ (r.fn = 6 ∨ r.fn = 8 → r.vals.length = 1) ∧
    r.bits.length ≤ 2040 ∧ r.vals.length ≤ 127 ∧ r.data.length ≤ 250)
  ⟨fun ⟨a,b,c,d,e,f,g,h,i,j,k,l,m,n,o⟩ => ⟨a,b,c,d,e,f,g,h,i,j,k,l,m,n,o⟩,fun ⟨a,b,c,d,e,f,g,h,i,j,k,l,m,n,o⟩ => ⟨a,b,c,d,e,f,g,h,i,j,k,l,m,n,o⟩⟩
def goodR (r : TReply) : Int := if r.code ≠ 0 then (if CodeA r then 0 else 12) else if hasF r.fn = false then 15 else if ShapeA r then 0 else 12
theorem goodR_1 {r : TReply} (h : r.code ≠ 0) (h2 : CodeA r) : goodR r = 0 := by unfold goodR; rw [if_pos h,if_pos h2]
theorem goodR_2 {r : TReply} (h : r.code ≠ 0) (h2 : ¬ CodeA r) : goodR r = 12 := by unfold goodR; rw [if_pos h,if_neg h2]
theorem goodR_3 {r : TReply} (h : r.code = 0) (h2 : hasF r.fn = false) : goodR r = 15 := by unfold goodR; rw [if_neg (by omega),if_pos h2]
theorem goodR_4 {r : TReply} (h : r.code = 0) (h2 : hasF r.fn = true) (h3 : ShapeA r) : goodR r = 0 := by unfold goodR; rw [if_neg (by omega),if_neg (by simp [h2]),if_pos h3]
theorem goodR_5 {r : TReply} (h : r.code = 0) (h2 : hasF r.fn = true) (h3 : ¬ ShapeA r) : goodR r = 12 := by unfold goodR; rw [if_neg (by omega),if_neg (by simp [h2]),if_neg h3]
theorem goodR_zero {r : TReply} (h : goodR r = 0) : (r.code ≠ 0 ∧ CodeA r) ∨ (r.code = 0 ∧ hasF r.fn = true ∧ ShapeA r) := by
  by_cases h0 : r.code = 0
  · cases hf : hasF r.fn with
    | false => rw [goodR_3 h0 hf] at h; cases h
    | true =>
      by_cases hs : ShapeA r
      · exact .inr ⟨h0,rfl,hs⟩
      · rw [goodR_5 h0 hf hs] at h; cases h
  · by_cases hs : CodeA r
    · exact .inl ⟨h0,hs⟩
    · rw [goodR_2 h0 hs] at h; cases h
def layT (r : TReply) : List UInt8 :=
  if r.fn = 1 ∨ r.fn = 2 then rowX (packL r.bits)
  else if r.fn = 3 ∨ r.fn = 4 ∨ r.fn = 23 then rowX (bytesL r.vals)
  else if r.fn = 5 then put2 r.at_ ++ put2 (if r.bits.getD 0 false = true then 65280 else 0)
  else if r.fn = 6 then put2 r.at_ ++ put2 (((r.vals.getD 0 0).toNat : Nat) : Int)
  else if r.fn = 8 then put2 r.sub ++ put2 (((r.vals.getD 0 0).toNat : Nat) : Int)
  else if r.fn = 15 ∨ r.fn = 16 then put2 r.at_ ++ put2 r.count
  else if r.fn = 17 then rowX r.data
  else if r.fn = 22 then put2 r.at_ ++ (put2 ((r.and_.toNat : Nat) : Int) ++ put2 ((r.or_.toNat : Nat) : Int))
  else []
def layR (r : TReply) : List UInt8 := if r.code ≠ 0 then [UInt8.ofNat (r.fn.toNat ||| 128),u8I r.code] else u8I r.fn :: layT r
def layE (r : TReply) : List UInt8 := if goodR r = 0 then layR r else []
theorem or128 : ∀ n : Fin 128,n.val ||| 128 = n.val + 128 := by decide
theorem or_128 {x : Int} (h : 0 ≤ x ∧ x ≤ 127) : x.toNat ||| 128 = x.toNat + 128 := or128 ⟨x.toNat,by omega⟩
def countOk (r : TReply) (q : TRequest) : Prop := r.code = 0 → ((r.fn = 1 ∨ r.fn = 2) → (r.bits.length : Int) = q.count) ∧ ((r.fn = 3 ∨ r.fn = 4 ∨ r.fn = 23) → (r.vals.length : Int) = q.count)
instance (r : TReply) (q : TRequest) : Decidable (countOk r q) := by unfold countOk; infer_instance
def zeroA : TReply := ⟨0,0,0,0,0,[],[],0,0,[]⟩
def askedOk (b : List UInt8) (f : Int) : Prop := 0 ≤ f ∧ ((((b.getD 0 0).toNat : Nat) : Int) = f ∨ f < 128 ∧ (((b.getD 0 0).toNat : Nat) : Int) = f + 128)
instance (b : List UInt8) (f : Int) : Decidable (askedOk b f) := by unfold askedOk; infer_instance
def takeWith (g : List UInt8 → TRequest → TReply) (b : List UInt8) (q : TRequest) : TReply × Int :=
  if b.length = 0 then (zeroA,13) else if ¬ askedOk b q.fn then (zeroA,12)
  else if goodR (g b q) = 0 ∧ layR (g b q) = b ∧ countOk (g b q) q then (g b q,0) else (zeroA,12)
def codeG (b : List UInt8) : Int := if 1 < b.length then (((b.getD 1 0).toNat : Nat) : Int) else 0
def takeG (b : List UInt8) (q : TRequest) : TReply :=
  let f : Int := (((b.getD 0 0).toNat : Nat) : Int)
  if 128 ≤ f then ⟨(((b.getD 0 0).toNat % 2 ^ 7 : Nat) : Int),codeG b,0,0,0,[],[],0,0,[]⟩
  else if f = 1 ∨ f = 2 then ⟨f,0,0,0,0,(if 1 < b.length then bopV (b.drop 2) q.count else []),[],0,0,[]⟩
  else if f = 3 ∨ f = 4 ∨ f = 23 then ⟨f,0,0,0,0,[],wordsAt b 2,0,0,[]⟩
  else if f = 15 ∨ f = 16 then ⟨f,0,getV b 1,getV b 3,0,[],[],0,0,[]⟩
  else if f = 17 then ⟨f,0,0,0,0,[],[],0,0,(if 1 < b.length then b.drop 2 else [])⟩
  else ⟨f,0,(if f = 8 then 0 else getV b 1),0,(guessR b).sub,(guessR b).bits,(guessR b).vals,(guessR b).and_,(guessR b).or_,[]⟩
def takeP (b : List UInt8) (q : TRequest) : TReply :=
  let f : Int := (((b.getD 0 0).toNat : Nat) : Int)
  if 128 ≤ f then ⟨f - 128,codeG b,0,0,0,[],[],0,0,[]⟩
  else if f = 1 ∨ f = 2 then ⟨f,0,0,0,0,bopV (b.drop (min b.length 2)) q.count,[],0,0,[]⟩
  else if f = 3 ∨ f = 4 ∨ f = 23 then ⟨f,0,0,0,0,[],wordsV (b.drop (min b.length 2)),0,0,[]⟩
  else if f = 5 then ⟨f,0,getV b 1,0,0,[decide (getV b 3 = 65280)],[],0,0,[]⟩
  else if f = 6 then ⟨f,0,getV b 1,0,0,[],[u16I (getV b 3)],0,0,[]⟩
  else if f = 8 then ⟨f,0,0,0,getV b 1,[],[u16I (getV b 3)],0,0,[]⟩
  else if f = 15 ∨ f = 16 then ⟨f,0,getV b 1,getV b 3,0,[],[],0,0,[]⟩
  else if f = 22 then ⟨f,0,getV b 1,0,0,[],[],u16I (getV b 3),u16I (getV b 5),[]⟩
  else if f = 17 then ⟨f,0,0,0,0,[],[],0,0,b.drop (min b.length 2)⟩
  else ⟨f,0,0,0,0,[],[],0,0,[]⟩
theorem data_drop {x y : UInt8} {r : List UInt8} : (x :: y :: r).drop 2 = r := rfl
theorem take_code {r : TReply} {q : TRequest} (h0 : r.code ≠ 0) (h : CodeA r) : takeG (layR r) q = r ∧ takeP (layR r) q = r := by
  obtain ⟨hc,hf,hr⟩ := h
  obtain ⟨f,c,at_,count,sub,bits,vals,and_,or_,data⟩ := r
  simp only at *
  injection hr with e1 e2 e3 e4 e5 e6 e7 e8 e9 e10
  subst e3; subst e4; subst e5; subst e6; subst e7; subst e8; subst e9; subst e10
  have hl : layR (⟨f,c,0,0,0,[],[],0,0,[]⟩ : TReply) = [UInt8.ofNat (f.toNat ||| 128),u8I c] := by unfold layR; rw [if_pos h0]
  rw [hl,or_128 hf]
  have h1 : (UInt8.ofNat (f.toNat + 128)).toNat = f.toNat + 128 := by rw [UInt8.toNat_ofNat']; omega
  have h2 : codeG [UInt8.ofNat (f.toNat + 128),u8I c] = c := by
    unfold codeG
    rw [if_pos (by simp)]
    have : ((([UInt8.ofNat (f.toNat + 128),u8I c] : List UInt8).getD 1 0).toNat : Int) = ((u8I c).toNat : Int) := rfl
    rw [this,u8I_lt]; omega
  unfold takeG takeP
  simp only [gs_get,h1,h2]
  rw [if_pos (by omega),if_pos (by omega)]
  have h3 : (((f.toNat + 128) % 2 ^ 7 : Nat) : Int) = f := by omega
  have h4 : (((f.toNat + 128 : Nat)) : Int) - 128 = f := by omega
  rw [h3,h4]
  exact ⟨rfl,rfl⟩
theorem take_lay {r : TReply} {q : TRequest} (h : goodR r = 0) (hq : countOk r q) : takeG (layR r) q = r ∧ takeP (layR r) q = r := by
  rcases goodR_zero h with ⟨h0,hs⟩|⟨h0,hf,hs⟩
  · exact take_code h0 hs
  have hfb := fn_byte hf
  have hc := hasF_of hf
  obtain ⟨cb,cv⟩ := hq h0
  obtain ⟨wa,wc,ws,za,zc,zs,zm,zb,zv,zd,ob,ov,lb,lv,ld⟩ := hs
  obtain ⟨f,c,at_,count,sub,bits,vals,and_,or_,data⟩ := r
  simp only at *
  subst h0
  have z0 : ∀ x : UInt16,x.toNat = 0 → x = 0 := fun x hx => UInt16.toNat_inj.1 hx
  have hl : layR (⟨f,0,at_,count,sub,bits,vals,and_,or_,data⟩ : TReply) = u8I f :: layT ⟨f,0,at_,count,sub,bits,vals,and_,or_,data⟩ := by unfold layR; rw [if_neg (by simp)]
  rw [hl]
  by_cases k1 : f = 1 ∨ f = 2
  · have hv0 := List.eq_nil_of_length_eq_zero (zv (by omega))
    have hd0 := List.eq_nil_of_length_eq_zero (zd (by omega))
    have m := zm (by omega)
    subst hv0; subst hd0
    rw [za (by omega),zc (by omega),zs (by omega),z0 _ m.1,z0 _ m.2]
    have e : layT (⟨f,0,0,0,0,bits,[],0,0,[]⟩ : TReply) = UInt8.ofNat (packL bits).length :: packL bits := by unfold layT; rw [if_pos k1]; rfl
    rw [e]
    have ob2 := (open_pack bits).2
    rw [cb k1] at ob2
    unfold takeG takeP
    simp only [gs_get,hfb,List.length_cons]
    constructor
    · rw [if_neg (by omega),if_pos k1,if_pos (show 1 < (packL bits).length + 1 + 1 by omega),data_drop,ob2]
    · rw [if_neg (by omega),if_pos k1,show min ((packL bits).length + 1 + 1) 2 = 2 by omega,data_drop,ob2]
  by_cases k3 : f = 3 ∨ f = 4 ∨ f = 23
  · have hb0 := List.eq_nil_of_length_eq_zero (zb (by omega))
    have hd0 := List.eq_nil_of_length_eq_zero (zd (by omega))
    have m := zm (by omega)
    subst hb0; subst hd0
    rw [za (by omega),zc (by omega),zs (by omega),z0 _ m.1,z0 _ m.2]
    have e : layT (⟨f,0,0,0,0,[],vals,0,0,[]⟩ : TReply) = UInt8.ofNat (bytesL vals).length :: bytesL vals := by unfold layT; rw [if_neg k1,if_pos k3]; rfl
    rw [e]
    obtain ⟨w1,w2⟩ := words_of (b := u8I f :: UInt8.ofNat (bytesL vals).length :: bytesL vals) (k := 2) (l := vals) rfl (by simp; omega) (by simp; omega)
    have w3 := (wordsV_back vals).2
    unfold takeG takeP
    simp only [gs_get,hfb,w1]
    constructor
    · rw [if_neg (by omega),if_neg k1,if_pos k3]
    · rw [if_neg (by omega),if_neg k1,if_pos k3,show min (u8I f :: UInt8.ofNat (bytesL vals).length :: bytesL vals).length 2 = 2 by simp,data_drop,w3]
  by_cases k15 : f = 15 ∨ f = 16
  · have hb0 := List.eq_nil_of_length_eq_zero (zb (by omega))
    have hv0 := List.eq_nil_of_length_eq_zero (zv (by omega))
    have hd0 := List.eq_nil_of_length_eq_zero (zd (by omega))
    have m := zm (by omega)
    subst hb0; subst hv0; subst hd0
    rw [zs (by omega),z0 _ m.1,z0 _ m.2]
    have e : layT (⟨f,0,at_,count,0,[],[],0,0,[]⟩ : TReply) = put2 at_ ++ put2 count := by
      unfold layT; rw [if_neg k1,if_neg k3,if_neg (show ¬ f = 5 by omega),if_neg (show ¬ f = 6 by omega),if_neg (show ¬ f = 8 by omega),if_pos k15]
    rw [e]
    have e1 : getV (u8I f :: (put2 at_ ++ put2 count)) 1 = at_ := getV_1 wa
    have e3 : getV (u8I f :: (put2 at_ ++ put2 count)) 3 = count := by have := getV_3 (x := u8I f) (a := at_) (r := []) wc; rwa [List.append_nil] at this
    unfold takeG takeP
    simp only [gs_get,hfb,e1,e3]
    constructor
    · rw [if_neg (by omega),if_neg k1,if_neg k3,if_pos k15]
    · rw [if_neg (by omega),if_neg k1,if_neg k3,if_neg (by omega),if_neg (by omega),if_neg (by omega),if_pos k15]
  by_cases k17 : f = 17
  · subst k17
    have hb0 := List.eq_nil_of_length_eq_zero (zb (by omega))
    have hv0 := List.eq_nil_of_length_eq_zero (zv (by omega))
    have m := zm (by omega)
    subst hb0; subst hv0
    rw [za (by omega),zc (by omega),zs (by omega),z0 _ m.1,z0 _ m.2]
    have e : layT (⟨17,0,0,0,0,[],[],0,0,data⟩ : TReply) = UInt8.ofNat data.length :: data := rfl
    rw [e]
    unfold takeG takeP
    simp only [gs_get,hfb,List.length_cons]
    rw [if_pos (show 1 < data.length + 1 + 1 by omega),show min (data.length + 1 + 1) 2 = 2 by omega,data_drop]
    exact ⟨rfl,rfl⟩
  have hd0 := List.eq_nil_of_length_eq_zero (zd (by omega))
  have hc0 := zc (by omega)
  subst hd0; subst hc0
  have hR : rightR (⟨f,at_,0,0,sub,bits,vals,and_,or_⟩ : TRequest) = 0 := by
    refine (shapeR_iff (q := ⟨f,at_,0,0,sub,bits,vals,and_,or_⟩) hf).2 ⟨wa,wc,wc,ws,fun h => za (by simp only at h; omega),fun _ => rfl,fun _ => rfl,zs,zm, ?_, ?_⟩
    · simp only
      by_cases k : f = 5
      · rw [if_pos k]; exact ob k
      · rw [if_neg k,if_neg (by omega)]; exact zb (by omega)
    · simp only
      by_cases k : f = 6 ∨ f = 8
      · rw [if_pos k]; exact ov k
      · rw [if_neg k,if_neg (by omega),if_neg (by omega)]; exact zv (by omega)
  have hW : u8I f :: layT (⟨f,0,at_,0,sub,bits,vals,and_,or_,[]⟩ : TReply) = writeR (⟨f,at_,0,0,sub,bits,vals,and_,or_⟩ : TRequest) := by
    unfold layT writeR writeT
    simp only
    rw [if_neg k1,if_neg k3,if_neg (by omega : ¬ (f = 1 ∨ f = 2 ∨ f = 3 ∨ f = 4))]
    have k22 : f = 5 ∨ f = 6 ∨ f = 8 ∨ f = 22 := by omega
    rcases k22 with k|k|k|k <;> subst k <;> rfl
  obtain ⟨g1,g2⟩ := guess_write hR
  rw [← hW] at g1 g2
  obtain ⟨X,hX⟩ : ∃ z,z = u8I f :: layT (⟨f,0,at_,0,sub,bits,vals,and_,or_,[]⟩ : TReply) := ⟨_,rfl⟩
  rw [← hX] at g1 g2 ⊢
  have hX0 : X.getD 0 0 = u8I f := by rw [hX]; rfl
  have k22 : f = 5 ∨ f = 6 ∨ f = 8 ∨ f = 22 := by omega
  have hXa : f ≠ 8 → getV X 1 = at_ := fun h8 => by
    have hg := g2
    rcases k22 with k|k|k|k
    · rw [guessP_5 hX0 (by omega)] at hg; injection hg
    · rw [guessP_6 hX0 (by omega)] at hg; injection hg
    · exact absurd k h8
    · rw [guessP_22 hX0 (by omega)] at hg; injection hg
  constructor
  · unfold takeG
    simp only [hX0,hfb,g1]
    rw [if_neg (by omega),if_neg k1,if_neg k3,if_neg k15,if_neg k17]
    by_cases k8 : f = 8
    · rw [if_pos k8,za (by omega)]
    · rw [if_neg k8,hXa k8]
  · unfold takeP
    simp only [hX0,hfb]
    rw [if_neg (by omega),if_neg k1,if_neg k3]
    have hg := g2
    rcases k22 with k|k|k|k <;> subst k
    · rw [guessP_5 hX0 (by omega)] at hg; injection hg with i1 i2 i3 i4 i5 i6 i7 i8 i9
      rw [if_pos rfl,i2,i6,← i5,← i7,← i8,← i9]
    · obtain ⟨e,he⟩ := vals_one (ov (by omega))
      rw [guessP_6 hX0 (by omega)] at hg; injection hg with i1 i2 i3 i4 i5 i6 i7 i8 i9
      have hx : X = u8I 6 :: (put2 at_ ++ (put2 ((e.toNat : Nat) : Int) ++ [])) := by rw [hX,he,List.append_nil]; rfl
      have he2 := e.toNat_lt
      have e3 : getV X 3 = ((e.toNat : Nat) : Int) := by rw [hx]; exact getV_3 (by omega)
      rw [if_neg (by decide),if_pos rfl,i2,e3,u16I_back,← i5,← i6,← i8,← i9,he]
    · obtain ⟨e,he⟩ := vals_one (ov (by omega))
      rw [guessP_8 hX0 (by omega)] at hg; injection hg with i1 i2 i3 i4 i5 i6 i7 i8 i9
      have hx : X = u8I 8 :: (put2 sub ++ (put2 ((e.toNat : Nat) : Int) ++ [])) := by rw [hX,he,List.append_nil]; rfl
      have he2 := e.toNat_lt
      have e3 : getV X 3 = ((e.toNat : Nat) : Int) := by rw [hx]; exact getV_3 (by omega)
      rw [if_neg (by decide),if_neg (by decide),if_pos rfl,i5,e3,u16I_back,← i2,← i6,← i8,← i9,he]
    · rw [guessP_22 hX0 (by omega)] at hg; injection hg with i1 i2 i3 i4 i5 i6 i7 i8 i9
      rw [if_neg (by decide),if_neg (by decide),if_neg (by decide),if_neg (by decide),if_pos rfl,i2,i8,i9,← i5,← i6,← i7]
theorem take_same (b : List UInt8) (q : TRequest) : takeWith takeP b q = takeWith takeG b q := by
  unfold takeWith
  split
  · rfl
  · split
    · rfl
    · by_cases h : goodR (takeG b q) = 0 ∧ layR (takeG b q) = b ∧ countOk (takeG b q) q
      · have e := (take_lay h.1 h.2.2).2
        rw [h.2.1] at e
        rw [if_pos h,e,if_pos h]
      · by_cases h2 : goodR (takeP b q) = 0 ∧ layR (takeP b q) = b ∧ countOk (takeP b q) q
        · have e := (take_lay h2.1 h2.2.2).1
          rw [h2.2.1] at e
          rw [e] at h
          exact absurd h2 h
        · rw [if_neg h,if_neg h2]
end Go.Proofs.Ytljkbpgcglomfaa
set_option linter.unusedVariables false
set_option linter.unusedSimpArgs false
namespace Go.Proofs.Ytljkbpgcglomfaa
open Go Go.Proofs.Ytljkbpgcglomfaa.Pv
def hasA (r : TReply) : TReply :=
  if r.fn = 1 ∨ r.fn = 2 then ⟨r.fn,0,0,0,0,r.bits,[],0,0,[]⟩
  else if r.fn = 3 ∨ r.fn = 4 ∨ r.fn = 23 then ⟨r.fn,0,0,0,0,[],r.vals,0,0,[]⟩
  else if r.fn = 5 then ⟨r.fn,0,r.at_,0,0,r.bits,[],0,0,[]⟩
  else if r.fn = 6 then ⟨r.fn,0,r.at_,0,0,[],r.vals,0,0,[]⟩
  else if r.fn = 8 then ⟨r.fn,0,0,0,r.sub,[],r.vals,0,0,[]⟩
  else if r.fn = 15 ∨ r.fn = 16 then ⟨r.fn,0,r.at_,r.count,0,[],[],0,0,[]⟩
  else if r.fn = 22 then ⟨r.fn,0,r.at_,0,0,[],[],r.and_,r.or_,[]⟩
  else if r.fn = 17 then ⟨r.fn,0,0,0,0,[],[],0,0,r.data⟩
  else zeroA
theorem shapeA_has {r : TReply} (hf : hasF r.fn = true) (h0 : r.code = 0) : ShapeA r ↔ r = hasA r ∧ (0 ≤ r.at_ ∧ r.at_ ≤ 65535) ∧ (0 ≤ r.sub ∧ r.sub ≤ 65535) ∧ (0 ≤ r.count ∧ r.count ≤ 65535) ∧ (r.fn = 5 → r.bits.length = 1) ∧ (r.fn = 6 ∨ r.fn = 8 → r.vals.length = 1) ∧ r.bits.length ≤ 2040 ∧ r.vals.length ≤ 127 ∧ r.data.length ≤ 250 := by
  have hc := hasF_of hf
  obtain ⟨f,c,at_,count,sub,bits,vals,and_,or_,data⟩ := r
  simp only at *
  subst h0
  have z0 : ∀ x : UInt16,x.toNat = 0 → x = 0 := fun x hx => UInt16.toNat_inj.1 hx
  constructor
  · rintro ⟨wa,wc,ws,za,zc,zs,zm,zb,zv,zd,ob,ov,lb,lv,ld⟩
    refine ⟨?_,wa,ws,wc,ob,ov,lb,lv,ld⟩
    simp only at za zc zs zm zb zv zd
    have zm1 : f ≠ 22 → and_ = 0 := fun h => z0 _ (zm h).1
    have zm2 : f ≠ 22 → or_ = 0 := fun h => z0 _ (zm h).2
    have zb1 : ¬ (f = 1 ∨ f = 2 ∨ f = 5) → bits = [] := fun h => List.eq_nil_of_length_eq_zero (zb h)
    have zv1 : ¬ (f = 3 ∨ f = 4 ∨ f = 23 ∨ f = 6 ∨ f = 8) → vals = [] := fun h => List.eq_nil_of_length_eq_zero (zv h)
    have zd1 : f ≠ 17 → data = [] := fun h => List.eq_nil_of_length_eq_zero (zd h)
    clear zm zb zv zd
    rcases hc with h|h|h|h|h|h|h|h|h|h|h|h <;> subst h <;> simp_all [hasA]
  · rintro ⟨he,wa,ws,wc,ob,ov,lb,lv,ld⟩
    rcases hc with h|h|h|h|h|h|h|h|h|h|h|h <;> subst h <;> simp [hasA] at he <;> (obtain ⟨rfl,he⟩ := he <;> skip) <;> exact ⟨wa,wc,ws,by simp_all,by simp_all,by simp_all,by simp_all,by simp_all,by simp_all,by simp_all,ob,ov,lb,lv,ld⟩
def usesA (n : Int) : List UInt8 := if n = 1 ∨ n = 2 then [98] else if n = 3 ∨ n = 4 ∨ n = 23 then [118] else if n = 5 then [97,98] else if n = 6 then [97,118] else if n = 8 then [115,118] else if n = 15 ∨ n = 16 then [97,99] else if n = 17 then [100] else [97,109]
theorem usesA_len (n : Int) : (usesA n).length ≤ 4 := by
  unfold usesA
  repeat' split
  all_goals simp
theorem in_A {n : Int} (h : hasF n = true) : inS (usesA n) 97 = decide (n = 5 ∨ n = 6 ∨ n = 15 ∨ n = 16 ∨ n = 22) ∧ inS (usesA n) 99 = decide (n = 15 ∨ n = 16) ∧ inS (usesA n) 115 = decide (n = 8) ∧ inS (usesA n) 98 = decide (n = 1 ∨ n = 2 ∨ n = 5) ∧
    inS (usesA n) 118 = decide (n = 3 ∨ n = 4 ∨ n = 23 ∨ n = 6 ∨ n = 8) ∧ inS (usesA n) 109 = decide (n = 22) ∧ inS (usesA n) 100 = decide (n = 17) := by
  rcases hasF_of h with h|h|h|h|h|h|h|h|h|h|h|h <;> subst h <;> decide
theorem in_A97 (n : Int) : inS (usesA n) 97 = decide (¬ (n = 1 ∨ n = 2 ∨ n = 3 ∨ n = 4 ∨ n = 23 ∨ n = 8 ∨ n = 17)) := by
  by_cases h : n = 1 ∨ n = 2 ∨ n = 3 ∨ n = 4 ∨ n = 23 ∨ n = 8 ∨ n = 17 ∨ n = 5 ∨ n = 6 ∨ n = 15 ∨ n = 16
  · rcases h with h|h|h|h|h|h|h|h|h|h|h <;> subst h <;> decide
  · have e : usesA n = [97,109] := by
      unfold usesA
      rw [if_neg (by omega),if_neg (by omega),if_neg (by omega),if_neg (by omega),if_neg (by omega),if_neg (by omega),if_neg (by omega)]
    rw [e,decide_eq_true (by omega)]
    rfl
def badG (r : TReply) : Bool := (((((((!(inS (usesA r.fn) 97)) && (!decide (r.at_ = 0))) || ((!(inS (usesA r.fn) 99)) && (!decide (r.count = 0)))) || ((!(inS (usesA r.fn) 115)) && (!decide (r.sub = 0)))) || ((!(inS (usesA r.fn) 98)) && decide (0 < ((r.bits.length : Nat) : Int)))) || ((!(inS (usesA r.fn) 118)) && decide (0 < ((r.vals.length : Nat) : Int)))) ||
  ((!(inS (usesA r.fn) 109)) && ((!decide (r.and_ = 0)) || (!decide (r.or_ = 0))))) || ((!(inS (usesA r.fn) 100)) && decide (0 < ((r.data.length : Nat) : Int)))
def badH (r : TReply) : Bool := (((((((!(wordOk r.at_)) || (!(wordOk r.count))) || (!(wordOk r.sub))) || (decide (r.fn = 5) && (!decide (((r.bits.length : Nat) : Int) = 1)))) || ((decide (r.fn = 6) || decide (r.fn = 8)) && (!decide (((r.vals.length : Nat) : Int) = 1)))) || decide (2040 < ((r.bits.length : Nat) : Int))) || decide (127 < ((r.vals.length : Nat) : Int))) || decide (250 < ((r.data.length : Nat) : Int))
theorem shapeA_bad {r : TReply} (hf : hasF r.fn = true) : ShapeA r ↔ badG r = false ∧ badH r = false := by
  have hc := hasF_of hf
  obtain ⟨ia,ic,is,ib,iv,im,id⟩ := in_A hf
  have hz := @u16z r.and_
  have hz2 := @u16z r.or_
  unfold badG badH
  rw [ia,ic,is,ib,iv,im,id]
  simp only [Bool.or_eq_false_iff,Bool.and_eq_false_iff,Bool.not_eq_false',decide_eq_true_eq,decide_eq_false_iff_not,wordOk,hz,hz2]
  constructor
  · rintro ⟨wa,wc,ws,za,zc,zs,zm,zb,zv,zd,ob,ov,lb,lv,ld⟩
    refine ⟨⟨⟨⟨⟨⟨⟨by omega,by omega⟩,by omega⟩,by omega⟩,by omega⟩,by omega⟩,by omega⟩,⟨⟨⟨⟨⟨⟨⟨wa,wc⟩,ws⟩,by omega⟩,by omega⟩,by omega⟩,by omega⟩,by omega⟩⟩
  · rintro ⟨⟨⟨⟨⟨⟨⟨a1,a2⟩,a3⟩,a4⟩,a5⟩,a6⟩,a7⟩,⟨⟨⟨⟨⟨⟨⟨wa,wc⟩,ws⟩,b4⟩,b5⟩,b6⟩,b7⟩,b8⟩⟩
    exact ⟨wa,wc,ws,by omega,by omega,by omega,by omega,by omega,by omega,by omega,by omega,by omega,by omega,by omega,by omega⟩
theorem goodG_2 {r : TReply} (h0 : r.code = 0) (hf : hasF r.fn = true) (h : badG r = true) : goodR r = 12 := goodR_5 h0 hf fun hs => by rw [((shapeA_bad hf).1 hs).1] at h; cases h
theorem goodG_3 {r : TReply} (h0 : r.code = 0) (hf : hasF r.fn = true) (h : badH r = true) : goodR r = 12 := goodR_5 h0 hf fun hs => by rw [((shapeA_bad hf).1 hs).2] at h; cases h
theorem goodG_4 {r : TReply} (h0 : r.code = 0) (hf : hasF r.fn = true) (h : badG r = false) (h2 : badH r = false) : goodR r = 0 := goodR_4 h0 hf ((shapeA_bad hf).2 ⟨h,h2⟩)
theorem good_fn {r : TReply} (h : goodR r = 0) : 0 ≤ r.fn ∧ r.fn ≤ 127 := by
  rcases goodR_zero h with ⟨_,hs⟩|⟨_,hf,_⟩
  · exact hs.fn
  · have := hasF_of hf; omega
theorem layR_len {r : TReply} (h : goodR r = 0) : 1 ≤ (layR r).length ∧ (layR r).length ≤ 257 := by
  rcases goodR_zero h with ⟨h0,hs⟩|⟨h0,hf,hs⟩
  · unfold layR; rw [if_pos h0]; simp
  · obtain ⟨wa,wc,ws,za,zc,zs,zm,zb,zv,zd,ob,ov,lb,lv,ld⟩ := hs
    unfold layR layT
    rw [if_neg (by simp [h0])]
    refine ⟨by simp, ?_⟩
    repeat' split
    all_goals simp only [List.length_cons,List.length_append,put2_length,rowX_length,packL_length,bytesL_length,List.length_nil]
    all_goals omega
theorem layE_yes {r : TReply} (h : goodR r = 0) : layE r = layR r := by unfold layE; rw [if_pos h]
theorem layE_no {r : TReply} (h : ¬ goodR r = 0) : layE r = [] := by unfold layE; rw [if_neg h]
theorem layE_len (r : TReply) : (layE r).length ≤ 257 := by
  by_cases h : goodR r = 0
  · rw [layE_yes h]; exact (layR_len h).2
  · rw [layE_no h]; simp
theorem head_lay {r : TReply} (h : goodR r = 0) : ((((layR r).getD 0 0).toNat : Nat) : Int) = if r.code ≠ 0 then r.fn + 128 else r.fn := by
  rcases goodR_zero h with ⟨h0,hs⟩|⟨h0,hf,hs⟩
  · have hf := hs.fn
    rw [if_pos h0]; unfold layR; rw [if_pos h0,gs_get,or_128 hf,UInt8.toNat_ofNat']; omega
  · rw [if_neg (by simp [h0])]; unfold layR; rw [if_neg (by simp [h0]),gs_get]; exact fn_byte hf
section
variable {g : List UInt8 → TRequest → TReply} {b : List UInt8} {q : TRequest}
theorem takeW_1 (h : b.length = 0) : takeWith g b q = (zeroA,13) := by unfold takeWith; rw [if_pos h]
theorem takeW_2 (h : ¬ b.length = 0) {e : UInt8} (h0 : b.getD 0 0 = e) (h2 : ¬ (0 ≤ q.fn ∧ (((e.toNat : Nat) : Int) = q.fn ∨ q.fn < 128 ∧ ((e.toNat : Nat) : Int) = q.fn + 128))) : takeWith g b q = (zeroA,12) := by
  subst h0; unfold takeWith; rw [if_neg h,if_pos (show ¬ askedOk b q.fn from h2)]
theorem takeW_3 (h : ¬ b.length = 0) {e : UInt8} (h0 : b.getD 0 0 = e) (h2 : 0 ≤ q.fn ∧ (((e.toNat : Nat) : Int) = q.fn ∨ q.fn < 128 ∧ ((e.toNat : Nat) : Int) = q.fn + 128)) {G : TReply} (hG : G = g b q) (h3 : goodR G = 0 → layR G = b → ¬ countOk G q) : takeWith g b q = (zeroA,12) := by
  subst h0; subst hG; unfold takeWith; rw [if_neg h,if_neg (show ¬ ¬ askedOk b q.fn from fun hn => hn h2),if_neg (fun h => h3 h.1 h.2.1 h.2.2)]
theorem takeW_4 (h : ¬ b.length = 0) {e : UInt8} (h0 : b.getD 0 0 = e) (h2 : 0 ≤ q.fn ∧ (((e.toNat : Nat) : Int) = q.fn ∨ q.fn < 128 ∧ ((e.toNat : Nat) : Int) = q.fn + 128)) {G : TReply} (hG : G = g b q) (h3 : goodR G = 0) (h4 : layR G = b) (h5 : countOk G q) : takeWith g b q = (G,0) := by
  subst h0; subst hG; unfold takeWith; rw [if_neg h,if_neg (show ¬ ¬ askedOk b q.fn from fun hn => hn h2),if_pos ⟨h3,h4,h5⟩]
end
end Go.Proofs.Ytljkbpgcglomfaa
set_option linter.unusedVariables false
set_option linter.unusedSimpArgs false
namespace Go.Proofs.Ytljkbpgcglomfaa
open Go Go.Proofs.Ytljkbpgcglomfaa.Pv
section
variable {q : TRequest} (hq : rightR q = 0)
include hq
theorem made_fn : 0 ≤ q.fn ∧ q.fn ≤ 127 := by
  have := hasF_of (rightR_zero hq).1; omega
theorem made_no {c : Int} (hc : 1 ≤ c ∧ c ≤ 255) : goodR (refuseR q.fn c) = 0 ∧ countOk (refuseR q.fn c) q ∧ (refuseR q.fn c).fn = q.fn := by
  have hf := made_fn hq
  have e : refuseR q.fn c = ⟨q.fn,c,0,0,0,[],[],0,0,[]⟩ := by
    unfold refuseR
    have e1 : (((q.fn % 2 ^ 7).toNat : Nat) : Int) = q.fn := by omega
    have e2 : (((c % 2 ^ 8).toNat : Nat) : Int) = c := by omega
    rw [e1,e2]
  rw [e]
  exact ⟨goodR_1 (by simp only; omega) ⟨by simp only; omega,by simp only; omega,rfl⟩,fun h => absurd h (by simp only; omega),rfl⟩
theorem made_1 {os : List Bool} (hf : q.fn = 1 ∨ q.fn = 2) (hl : (os.length : Int) = q.count) (hs : os.length ≤ 2040) : goodR ⟨q.fn,0,0,0,0,os,[],0,0,[]⟩ = 0 ∧ countOk ⟨q.fn,0,0,0,0,os,[],0,0,[]⟩ q := by
  refine ⟨goodR_4 rfl (rightR_zero hq).1 ⟨by simp,by simp,by simp,fun _ => rfl,fun _ => rfl,fun _ => rfl,fun _ => ⟨rfl,rfl⟩,fun h => ?_,fun _ => rfl,fun _ => rfl,fun h => ?_,fun h => ?_,hs,by simp,by simp⟩,fun _ => ⟨fun _ => hl,fun h => ?_⟩⟩
  all_goals (simp only at h; omega)
theorem made_3 {os : List UInt16} (hf : q.fn = 3 ∨ q.fn = 4 ∨ q.fn = 23) (hl : (os.length : Int) = q.count) (hs : os.length ≤ 127) : goodR ⟨q.fn,0,0,0,0,[],os,0,0,[]⟩ = 0 ∧ countOk ⟨q.fn,0,0,0,0,[],os,0,0,[]⟩ q := by
  refine ⟨goodR_4 rfl (rightR_zero hq).1 ⟨by simp,by simp,by simp,fun _ => rfl,fun _ => rfl,fun _ => rfl,fun _ => ⟨rfl,rfl⟩,fun _ => rfl,fun h => ?_,fun _ => rfl,fun h => ?_,fun h => ?_,by simp,hs,by simp⟩,fun _ => ⟨fun h => ?_,fun _ => hl⟩⟩
  all_goals (simp only at h; omega)
theorem made_15 (hf : q.fn = 15 ∨ q.fn = 16) : goodR ⟨q.fn,0,q.at_,q.count,0,[],[],0,0,[]⟩ = 0 ∧ countOk ⟨q.fn,0,q.at_,q.count,0,[],[],0,0,[]⟩ q := by
  obtain ⟨_,hs⟩ := rightR_zero hq
  refine ⟨goodR_4 rfl (rightR_zero hq).1 ⟨hs.wa,hs.wc,by simp,fun h => ?_,fun h => ?_,fun _ => rfl,fun _ => ⟨rfl,rfl⟩,fun _ => rfl,fun _ => rfl,fun _ => rfl,fun h => ?_,fun h => ?_,by simp,by simp,by simp⟩,fun _ => ⟨fun h => ?_,fun h => ?_⟩⟩
  all_goals (simp only at h; omega)
theorem made_17 {d : List UInt8} (hf : q.fn = 17) (hs : d.length ≤ 250) : goodR ⟨q.fn,0,0,0,0,[],[],0,0,d⟩ = 0 ∧ countOk ⟨q.fn,0,0,0,0,[],[],0,0,d⟩ q := by
  refine ⟨goodR_4 rfl (rightR_zero hq).1 ⟨by simp,by simp,by simp,fun _ => rfl,fun _ => rfl,fun _ => rfl,fun _ => ⟨rfl,rfl⟩,fun _ => rfl,fun _ => rfl,fun h => ?_,fun h => ?_,fun h => ?_,by simp,by simp,hs⟩,fun _ => ⟨fun h => ?_,fun h => ?_⟩⟩
  all_goals (simp only at h; omega)
theorem made_5 (hf : ¬ (q.fn = 1 ∨ q.fn = 2 ∨ q.fn = 3 ∨ q.fn = 4 ∨ q.fn = 23 ∨ q.fn = 15 ∨ q.fn = 16 ∨ q.fn = 17)) : goodR ⟨q.fn,0,q.at_,0,q.sub,q.bits,q.vals,q.and_,q.or_,[]⟩ = 0 ∧ countOk ⟨q.fn,0,q.at_,0,q.sub,q.bits,q.vals,q.and_,q.or_,[]⟩ q := by
  obtain ⟨hh,hs⟩ := rightR_zero hq
  have hc := hasF_of hh
  have hsm := shape_small hs
  obtain ⟨wa,wc,ww,ws,za,zc,zw,zs,zm,hb,hv⟩ := hs
  refine ⟨goodR_4 rfl hh ⟨wa,by simp,ws,fun h => za (by simp only at h; omega),fun _ => rfl,zs,zm,fun h => ?_,fun h => ?_,fun _ => rfl,fun h => ?_,fun h => ?_,hsm.1,hsm.2,by simp⟩,fun _ => ⟨fun h => ?_,fun h => ?_⟩⟩
  · simp only at h; rw [if_neg (by omega),if_neg (by omega)] at hb; exact hb
  · simp only at h; rw [if_neg (by omega),if_neg (by omega),if_neg (by omega)] at hv; exact hv
  · simp only at h; rw [if_pos (by omega)] at hb; exact hb
  · simp only at h; rw [if_pos (by omega)] at hv; exact hv
  all_goals (simp only at h; omega)
end
end Go.Proofs.Ytljkbpgcglomfaa
set_option linter.unusedVariables false
namespace Go.Proofs.Ytljkbpgcglomfaa
open Go Go.Proofs.Ytljkbpgcglomfaa.Pv
def badC (r : TReply) (lo : Int) : Bool := ((((decide (r.code < lo)) || (decide (255 < r.code))) || (decide (r.fn < 0))) || (decide (127 < r.fn))) || (!(decide (r = (⟨r.fn,r.code,0,0,0,[],[],0,0,[]⟩ : TReply))))
def badP4 (r : TReply) : Bool := (((!(decide (r = (hasA r)))) || (!(wordOk r.at_))) || (!(wordOk r.sub))) || (!(wordOk r.count))
def badP5 (r : TReply) : Bool := ((decide (r.fn = 5)) && (!decide (((r.bits.length : Nat) : Int) = 1))) || (((decide (r.fn = 6)) || (decide (r.fn = 8))) && (!decide (((r.vals.length : Nat) : Int) = 1)))
def badP6 (r : TReply) : Bool := ((decide (2040 < ((r.bits.length : Nat) : Int))) || (decide (127 < ((r.vals.length : Nat) : Int)))) || (decide (250 < ((r.data.length : Nat) : Int)))
section
variable {r : TReply} {lo : Int}
theorem badC_iff (hlo : lo = 0 ∨ lo = 1) (h0 : r.code ≠ 0) : badC r lo = false ↔ CodeA r := by
  unfold badC
  simp only [Bool.or_eq_false_iff,Bool.not_eq_false',decide_eq_true_eq,decide_eq_false_iff_not]
  constructor
  · rintro ⟨⟨⟨⟨a,b⟩,c⟩,d⟩,e⟩
    exact ⟨⟨by omega,by omega⟩,⟨by omega,by omega⟩,e⟩
  · rintro ⟨a,b,c⟩
    exact ⟨⟨⟨⟨by omega,by omega⟩,by omega⟩,by omega⟩,c⟩
theorem goodC_1 (hlo : lo = 0 ∨ lo = 1) (h1 : (!decide (r.code = 0)) = true) (h2 : badC r lo = true) : goodR r = 12 := by
  have h0 : r.code ≠ 0 := by simpa using h1
  exact goodR_2 h0 fun h => by rw [(badC_iff hlo h0).2 h] at h2; cases h2
theorem goodC_2 (hlo : lo = 0 ∨ lo = 1) (h1 : (!decide (r.code = 0)) = true) (h2 : badC r lo = false) : goodR r = 0 := by
  have h0 : r.code ≠ 0 := by simpa using h1
  exact goodR_1 h0 ((badC_iff hlo h0).1 h2)
theorem goodP_3 (h1 : (!decide (r.code = 0)) = false) (h3 : (!(hasF r.fn)) = true) : goodR r = 15 := goodR_3 (by simpa using h1) (by simpa using h3)
theorem badP_iff (h0 : r.code = 0) (hf : hasF r.fn = true) : ShapeA r ↔ badP4 r = false ∧ badP5 r = false ∧ badP6 r = false := by
  rw [shapeA_has hf h0]
  unfold badP4 badP5 badP6
  simp only [Bool.or_eq_false_iff,Bool.and_eq_false_iff,Bool.not_eq_false',decide_eq_true_eq,decide_eq_false_iff_not,wordOk]
  constructor
  · rintro ⟨a,b,c,d,e,f,g,h,i⟩
    exact ⟨⟨⟨⟨a,b⟩,c⟩,d⟩,⟨by omega,by omega⟩,⟨⟨by omega,by omega⟩,by omega⟩⟩
  · rintro ⟨⟨⟨⟨a,b⟩,c⟩,d⟩,⟨e,f⟩,⟨⟨g,h⟩,i⟩⟩
    exact ⟨a,b,c,d,by omega,by omega,by omega,by omega,by omega⟩
theorem goodP_4 (h1 : (!decide (r.code = 0)) = false) (h3 : (!(hasF r.fn)) = false) (h4 : badP4 r = true) : goodR r = 12 := by
  have h0 : r.code = 0 := by simpa using h1
  have hf : hasF r.fn = true := by simpa using h3
  exact goodR_5 h0 hf fun hs => by rw [((badP_iff h0 hf).1 hs).1] at h4; cases h4
theorem goodP_5 (h1 : (!decide (r.code = 0)) = false) (h3 : (!(hasF r.fn)) = false) (h4 : badP5 r = true) : goodR r = 12 := by
  have h0 : r.code = 0 := by simpa using h1
  have hf : hasF r.fn = true := by simpa using h3
  exact goodR_5 h0 hf fun hs => by rw [((badP_iff h0 hf).1 hs).2.1] at h4; cases h4
theorem goodP_6 (h1 : (!decide (r.code = 0)) = false) (h3 : (!(hasF r.fn)) = false) (h4 : badP6 r = true) : goodR r = 12 := by
  have h0 : r.code = 0 := by simpa using h1
  have hf : hasF r.fn = true := by simpa using h3
  exact goodR_5 h0 hf fun hs => by rw [((badP_iff h0 hf).1 hs).2.2] at h4; cases h4
theorem goodP_7 (h1 : (!decide (r.code = 0)) = false) (h3 : (!(hasF r.fn)) = false) (h4 : badP4 r = false) (h5 : badP5 r = false) (h6 : badP6 r = false) : goodR r = 0 := by
  have h0 : r.code = 0 := by simpa using h1
  have hf : hasF r.fn = true := by simpa using h3
  exact goodR_4 h0 hf ((badP_iff h0 hf).2 ⟨h4,h5,h6⟩)
theorem goodQ_2 (h1 : (!decide (r.code = 0)) = false) (h3 : (!(hasF r.fn)) = false) (h4 : badG r = true) : goodR r = 12 := goodG_2 (by simpa using h1) (by simpa using h3) h4
theorem goodQ_3 (h1 : (!decide (r.code = 0)) = false) (h3 : (!(hasF r.fn)) = false) (h4 : badH r = true) : goodR r = 12 := goodG_3 (by simpa using h1) (by simpa using h3) h4
theorem goodQ_4 (h1 : (!decide (r.code = 0)) = false) (h3 : (!(hasF r.fn)) = false) (h4 : badG r = false) (h5 : badH r = false) : goodR r = 0 := goodG_4 (by simpa using h1) (by simpa using h3) h4 h5
theorem lay_code (h : r.code ≠ 0) : layR r = [UInt8.ofNat (r.fn.toNat ||| 128),u8I r.code] := by unfold layR; rw [if_pos h]
theorem lay_fn (h : r.code = 0) : layR r = u8I r.fn :: layT r := by unfold layR; rw [if_neg (by simp [h])]
theorem layT_1 (h : r.fn = 1 ∨ r.fn = 2) : layT r = rowX (packL r.bits) := by unfold layT; rw [if_pos h]
theorem layT_3 (h : r.fn = 3 ∨ r.fn = 4 ∨ r.fn = 23) : layT r = rowX (bytesL r.vals) := by unfold layT; rw [if_neg (by omega),if_pos h]
theorem layT_5 (h : r.fn = 5) {e : Bool} (he : r.bits[0]? = some e) : layT r = put2 r.at_ ++ put2 (if e = true then 65280 else 0) := by unfold layT; rw [if_neg (by omega),if_neg (by omega),if_pos h,List.getD_eq_getElem?_getD,he]; rfl
theorem layT_6 (h : r.fn = 6) {e : UInt16} (he : r.vals = [e]) : layT r = put2 r.at_ ++ bytesL r.vals := by unfold layT; rw [if_neg (by omega),if_neg (by omega),if_neg (by omega),if_pos h,he,bytes_one]; rfl
theorem layT_8 (h : r.fn = 8) {e : UInt16} (he : r.vals = [e]) : layT r = put2 r.sub ++ bytesL r.vals := by unfold layT; rw [if_neg (by omega),if_neg (by omega),if_neg (by omega),if_neg (by omega),if_pos h,he,bytes_one]; rfl
theorem layT_15 (h : r.fn = 15 ∨ r.fn = 16) : layT r = put2 r.at_ ++ put2 r.count := by unfold layT; rw [if_neg (by omega),if_neg (by omega),if_neg (by omega),if_neg (by omega),if_neg (by omega),if_pos h]
theorem layT_17 (h : r.fn = 17) : layT r = rowX r.data := by unfold layT; rw [if_neg (by omega),if_neg (by omega),if_neg (by omega),if_neg (by omega),if_neg (by omega),if_neg (by omega),if_pos h]
theorem layT_22 (h : r.fn = 22) : layT r = put2 r.at_ ++ (put2 ((r.and_.toNat : Nat) : Int) ++ put2 ((r.or_.toNat : Nat) : Int)) := by unfold layT; rw [if_neg (by omega),if_neg (by omega),if_neg (by omega),if_neg (by omega),if_neg (by omega),if_neg (by omega),if_neg (by omega),if_pos h]
end
theorem lay_write {r : TReply} (h : goodR r = 0) (h0 : r.code = 0) (hk : ¬ (r.fn = 1 ∨ r.fn = 2 ∨ r.fn = 3 ∨ r.fn = 4 ∨ r.fn = 23 ∨ r.fn = 15 ∨ r.fn = 16 ∨ r.fn = 17)) : layR r = writeR (⟨r.fn,r.at_,0,0,r.sub,r.bits,r.vals,r.and_,r.or_⟩ : TRequest) := by
  rcases goodR_zero h with ⟨hn,_⟩|⟨_,hf,_⟩
  · exact absurd h0 hn
  have hc := hasF_of hf
  obtain ⟨f,c,at_,count,sub,bits,vals,and_,or_,data⟩ := r
  simp only at *
  have k22 : f = 5 ∨ f = 6 ∨ f = 8 ∨ f = 22 := by omega
  rw [lay_fn h0]
  unfold layT writeR writeT
  rcases k22 with k|k|k|k <;> subst k <;> rfl
end Go.Proofs.Ytljkbpgcglomfaa
