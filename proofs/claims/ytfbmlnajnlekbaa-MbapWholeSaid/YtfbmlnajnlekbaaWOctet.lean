/- Walks: printed by a program of this session (wip/tools/walk2.py) out of its notes. -/
import Derived.Test.YtfbmlnajnlekbaaWBase
import Derived.Test.YtfbmlnajnlekbaaSpecO
set_option linter.unusedVariables false
set_option linter.unusedSimpArgs false
set_option maxRecDepth 10000
set_option maxHeartbeats 1000000
namespace Go.Proofs.Ytfbmlnajnlekbaa
open Go Go.Proofs.Ytfbmlnajnlekbaa.Pv

theorem w_octet_Put (b : List UInt8) (cl_b : Bool) (n : Int) (hb : b.length ≤ 140737488351232) :
    T Try.prog 31 [pS 1 cl_b enc8 b, pI n] 0 [] (Ret (PV.ref 0 0 none) 1 [(0, oB true 1 enc8 (b ++ put2 n))]) := by
  refine t_fun tabOk (n := 14) (rs := [.tmp 4]) Try.func31 rfl rfl rfl rfl (Nat.le_of_ble_eq_true rfl) ?_
  intro c hnt hk
  refine w_seq ?_
  refine w_R ?_
  refine r_op tabOk hnt rfl (s_assign rfl ?_) 
  refine r_end ?_
  refine q_then ?_
  refine w_seq ?_
  refine w_R ?_
  refine r_op tabOk hnt rfl (s_move rfl ?_) 
  refine r_op tabOk hnt rfl (s_callX (r2 := PV.ref 0 0 none) (nx1 := 1) (H2 := []) (H3 := [(0, oB true 1 enc8 b)]) [] [] rfl rfl rfl (handed_of (by decide) trivial) rfl rfl rfl rfl rfl rfl (w_slices_Clone_byte_byte b cl_b (by first | omega | assumption | (simp; omega) | decide | (simp; done))) rfl (dist_of rfl) rfl rfl rfl rfl ?_) 
  refine r_op tabOk hnt rfl (s_move rfl ?_) 
  refine r_op tabOk hnt rfl (s_shrI 8 rfl rfl (by decide) ?_) 
  refine r_op tabOk hnt rfl (s_cv8 tab_3 tab_5 rfl rfl rfl ?_) 
  refine r_op tabOk hnt rfl (s_move rfl ?_) 
  refine r_op tabOk hnt rfl (s_cv8 tab_3 tab_5 rfl rfl rfl ?_) 
  refine r_op tabOk hnt rfl (s_mkM (f := enc8) [u8I (n / 2 ^ 8), u8I n] tab_27 rfl tab_5 ⟨rfl, by decide⟩ (by decide) rfl rfl rfl rfl ?_) 
  refine r_op tabOk hnt rfl (s_appR0 (f := enc8) (l := b) (xs := [u8I (n / 2 ^ 8), u8I n]) tab_27 rfl tab_5 ⟨rfl, by decide, by decide⟩ (srcM tab_27 rfl (hM_ref0 (f := enc8) rfl rfl)) rfl rfl (by first | omega | (simp; omega)) ?_) 
  refine r_op tabOk hnt rfl (s_assign rfl ?_) 
  refine r_set [(4, PV.ref 2 0 none)] [(2, oB true 1 enc8 (b ++ [u8I (n / 2 ^ 8), u8I n])), (1, oB true 1 enc8 [u8I (n / 2 ^ 8), u8I n])] 3 ⟨rfl, trivial⟩ rfl rfl ?_
  refine r_end ?_
  refine q_then ?_
  refine w_H (H' := [(2, oB true 1 enc8 (b ++ put2 n)), (1, oB true 1 enc8 [u8I (n / 2 ^ 8), u8I n])]) (congrArg (fun z => ([(2, oB true 1 enc8 z), (1, oB true 1 enc8 [u8I (n / 2 ^ 8), u8I n])] : Heap)) (show b ++ [u8I (n / 2 ^ 8), u8I n] = b ++ put2 n by rfl)) ?_
  refine w_ret ?_
  exact fin_names (nx1 := 1) (H1 := [(0, oB true 1 enc8 (b ++ put2 n))]) [(0, 2)] (ret_tmp rfl ret_nil) rfl (by decide) ⟨⟨_, _, rfl, rfl, rfl, rfl⟩, trivial⟩ (by decide) rfl ⟨rfl, rfl, rfl⟩

theorem w_burgageref1_Put (b : List UInt8) (cl_b : Bool) (n : Int) (hb : b.length ≤ 140737488351232) :
    T Try.prog 52 [pS 1 cl_b enc8 b, pI n] 0 [] (Ret (PV.ref 0 0 none) 1 [(0, oB true 1 enc8 (b ++ put2 n))]) := by
  refine t_fun tabOk (n := 16) (rs := [.tmp 4]) Try.func52 rfl rfl rfl rfl (Nat.le_of_ble_eq_true rfl) ?_
  intro c hnt hk
  refine w_seq ?_
  refine w_R ?_
  refine r_op tabOk hnt rfl (s_assign rfl ?_) 
  refine r_end ?_
  refine q_then ?_
  refine w_seq ?_
  refine w_R ?_
  refine r_op tabOk hnt rfl (s_mkM (f := enc8) ([] : List UInt8) tab_27 rfl tab_5 ⟨rfl, by decide⟩ (by decide) rfl rfl rfl rfl ?_) 
  refine r_op tabOk hnt rfl (s_move rfl ?_) 
  refine r_op tabOk hnt rfl (s_appR0 (f := enc8) (l := ([] : List UInt8)) (xs := b) tab_27 rfl tab_5 ⟨rfl, by decide, by decide⟩ (srcM tab_27 rfl (hM_sl (f := enc8) rfl)) rfl rfl (by first | omega | (simp; omega)) ?_) 
  refine r_op tabOk hnt rfl (s_move rfl ?_) 
  refine r_op tabOk hnt rfl (s_conv tab_3 tab_28 rfl rfl rfl ?_) 
  refine r_op tabOk hnt rfl (s_shrK 8 rfl rfl (by decide) ?_) 
  refine r_op tabOk hnt rfl (s_cv8 tab_28 tab_5 rfl rfl rfl ?_) 
  refine r_op tabOk hnt rfl (s_move rfl ?_) 
  refine r_op tabOk hnt rfl (s_cv8 tab_3 tab_5 rfl rfl rfl ?_) 
  refine r_op tabOk hnt rfl (s_mkM (f := enc8) [u8I ((IntKind.u64.wrap n) / 2 ^ 8), u8I n] tab_27 rfl tab_5 ⟨rfl, by decide⟩ (by decide) rfl rfl rfl rfl ?_) 
  refine r_op tabOk hnt rfl (s_appR0 (f := enc8) (l := b) (xs := [u8I ((IntKind.u64.wrap n) / 2 ^ 8), u8I n]) tab_27 rfl tab_5 ⟨rfl, by decide, by decide⟩ (srcM tab_27 rfl (hM_ref0 (f := enc8) rfl rfl)) rfl rfl (by first | omega | (simp; omega)) ?_) 
  refine r_op tabOk hnt rfl (s_assign rfl ?_) 
  refine r_set [(4, PV.ref 3 0 none)] [(3, oB true 1 enc8 (b ++ [u8I ((IntKind.u64.wrap n) / 2 ^ 8), u8I n])), (2, oB true 1 enc8 [u8I ((IntKind.u64.wrap n) / 2 ^ 8), u8I n])] 4 ⟨rfl, trivial⟩ rfl rfl ?_
  refine r_end ?_
  refine q_then ?_
  refine w_H (H' := [(3, oB true 1 enc8 (b ++ put2 n)), (2, oB true 1 enc8 [u8I ((IntKind.u64.wrap n) / 2 ^ 8), u8I n])]) (congrArg (fun z => ([(3, oB true 1 enc8 z), (2, oB true 1 enc8 [u8I ((IntKind.u64.wrap n) / 2 ^ 8), u8I n])] : Heap)) (show b ++ [u8I ((IntKind.u64.wrap n) / 2 ^ 8), u8I n] = b ++ put2 n by first | (rw [put2, ← u8I_u64 n]; done) | (rw [put2, ← u8I_u64 n]; simp))) ?_
  refine w_ret ?_
  exact fin_names (nx1 := 1) (H1 := [(0, oB true 1 enc8 (b ++ put2 n))]) [(0, 3)] (ret_tmp rfl ret_nil) rfl (by decide) ⟨⟨_, _, rfl, rfl, rfl, rfl⟩, trivial⟩ (by decide) rfl ⟨rfl, rfl, rfl⟩

theorem w_octet_Get (b : List UInt8) (cl_b : Bool) (k : Int) (hb : b.length ≤ 140737488355328) (hk0 : k ≤ 9223372036854775807) :
    T Try.prog 30 [pS 1 cl_b enc8 b, pI k] 0 [] (Ret (PV.tup [pI (getV b k), pB (getOk b k)]) 0 []) := by
  refine t_fun tabOk (n := 28) (rs := [.tmp 4, .tmp 5]) Try.func30 rfl rfl rfl rfl (Nat.le_of_ble_eq_true rfl) ?_
  intro c hnt hk
  refine w_seq ?_
  refine w_R ?_
  refine r_op tabOk hnt rfl (s_assign rfl ?_) 
  refine r_op tabOk hnt rfl (s_assign rfl ?_) 
  refine r_end ?_
  refine q_then ?_
  refine w_seq ?_
  refine w_seq ?_
  refine w_R ?_
  refine r_op tabOk hnt rfl (s_move rfl ?_) 
  refine r_op tabOk hnt rfl (s_lss rfl rfl ?_) 
  refine r_op tabOk hnt rfl (s_move rfl ?_) 
  refine r_if tabOk hnt rfl rfl rfl (fun g1 => ?_) (fun g1 => ?_)
  ·
    have g1' := g1
    try simp only [decide_eq_true_eq, decide_eq_false_iff_not, Bool.not_eq_true', Bool.not_eq_false', Bool.not_true, Bool.not_false, Bool.not_eq_eq_eq_not, Int.not_lt, Int.not_le] at g1'
    refine r_op tabOk hnt rfl (s_move rfl ?_) 
    refine r_if tabOk hnt rfl rfl rfl (fun _ => ?_) (fun e => absurd (e.symm.trans g1) (by decide))
    refine r_op tabOk hnt rfl (s_move rfl ?_) 
    refine r_if tabOk hnt rfl rfl rfl (fun _ => ?_) (fun e => absurd (e.symm.trans g1) (by decide))
    refine r_op tabOk hnt rfl (s_lenM (l := b) tab_27 rfl (hM_sl (f := enc8) rfl) ?_) 
    refine r_if tabOk hnt rfl rfl rfl (fun _ => ?_) (fun e => absurd (e.symm.trans g1) (by decide))
    refine r_op tabOk hnt rfl (s_subi (r := ((b.length : Nat) : Int) - 2) rfl rfl rfl (by omega) ?_) 
    refine r_if tabOk hnt rfl rfl rfl (fun _ => ?_) (fun e => absurd (e.symm.trans g1) (by decide))
    refine r_op tabOk hnt rfl (s_gtr rfl rfl ?_) 
    refine r_op tabOk hnt rfl (s_pick_f rfl g1 rfl ?_) 
    refine r_end ?_
    refine q_then ?_
    refine w_if rfl (fun c1 => ?_) (fun c1 => ?_)
    ·
      have c1_ := c1
      try simp only [decide_eq_true_eq, decide_eq_false_iff_not, Bool.not_eq_true', Bool.not_eq_false', Bool.not_true, Bool.not_false, Bool.not_eq_eq_eq_not, Int.not_lt, Int.not_le] at c1
      have eo : getOk b k = false := by unfold getOk; apply decide_eq_false; omega
      refine w_seq ?_
      refine w_R ?_
      refine r_op tabOk hnt rfl (s_assign rfl ?_) 
      refine r_op tabOk hnt rfl (s_assign rfl ?_) 
      refine r_end ?_
      refine q_then ?_
      refine w_le (s := 4) (y := pI (getV b k)) rfl (le_of_eq (congrArg (fun z : Int => pI z) (show 0 = (getV b k) by first | (simp [getV, eo]; done) | exact eo.symm | (rw [getV, if_pos eo, hkn, Int.toNat_natCast, getN_of he1 he2, or_word _ _ (lt8 _)])))) ?_
      refine w_le (s := 5) (y := pB (getOk b k)) rfl (le_of_eq (congrArg (fun z : Bool => pB z) (show false = (getOk b k) by first | (simp [getV, eo]; done) | exact eo.symm | (rw [getV, if_pos eo, hkn, Int.toNat_natCast, getN_of he1 he2, or_word _ _ (lt8 _)])))) ?_
      refine w_ret ?_
      refine q_then_ret ?_
      exact fin_plain (ret_tmp rfl (ret_tmp rfl ret_nil)) rfl rfl ⟨rfl, rfl, rfl⟩
    ·
      have c1_ := c1
      try simp only [decide_eq_true_eq, decide_eq_false_iff_not, Bool.not_eq_true', Bool.not_eq_false', Bool.not_true, Bool.not_false, Bool.not_eq_eq_eq_not, Int.not_lt, Int.not_le] at c1
      refine w_skip ?_
      refine q_then ?_
      refine w_seq ?_
      have eo : getOk b k = true := by unfold getOk; apply decide_eq_true; omega
      obtain ⟨kn, hkn⟩ : ∃ kn : Nat, k = (kn : Int) := ⟨k.toNat, by omega⟩
      refine w_eq (s := 1) (y := pN kn) rfl (congrArg (fun z : Int => pI z) (show k = ((kn : Nat) : Int) by exact hkn)) ?_
      refine W_drawn tabOk mixed hnt [[], [], [0, 1], [0, 1, 2], [0, 1, 2, 3], [0, 1, 2, 3, 4], [], [], [7], [6, 7, 8], [6, 7, 8, 9], [6, 7, 8, 9, 10], [0, 1, 2, 3, 4, 5, 6, 7, 8, 9, 10, 11], [0, 1, 2, 3, 4, 5, 6, 7, 8, 9, 10, 11, 12], [0, 1, 2, 3, 4, 5, 6, 7, 8, 9, 10, 11, 12, 13]] (by kernel_rfl) ?_
      refine d_op ?_
      refine x_run0 [(0, pS 1 cl_b enc8 b)] [] rfl rfl rfl rfl (s_move rfl ⟨rfl, rfl, rfl⟩) ?_
      refine d_op ?_
      refine x_run0 [(1, pN kn)] [] rfl rfl rfl rfl (s_move rfl ⟨rfl, rfl, rfl⟩) ?_
      refine d_op ?_
      obtain ⟨e1, he1⟩ := get_of_lt b (i := kn) (by omega)
      refine x_run0 [(15, pS 1 cl_b enc8 b), (16, pN kn)] [0, 1] rfl rfl rfl rfl (s_iaM (q := kn) (b := e1) (f := enc8) tab_27 rfl tab_5 rfl rfl (by omega) rfl he1 ⟨rfl, rfl, rfl⟩) ?_
      refine d_op ?_
      refine x_run0 [(17, PV.f (.ro (enc8 e1)))] [0, 1, 2] rfl rfl rfl rfl (s_load_ro1 tab_5 rfl rfl rfl rfl ⟨rfl, rfl, rfl⟩) ?_
      refine d_op ?_
      refine x_run0 [(18, p8 e1)] [0, 1, 2, 3] rfl rfl rfl rfl (s_cvN (a := UInt8.toNat e1) tab_5 tab_3 rfl rfl rfl (by omega) (by have := lt8 e1; omega) ⟨rfl, rfl, rfl⟩) ?_
      refine d_op ?_
      refine x_run0 [(19, pN (UInt8.toNat e1))] [0, 1, 2, 3, 4] rfl rfl rfl rfl (s_shlN (a := UInt8.toNat e1) 8 rfl (by omega) rfl (by decide) (by have := lt8 e1; omega) ⟨rfl, rfl, rfl⟩) ?_
      refine d_op ?_
      refine x_run0 [(0, pS 1 cl_b enc8 b)] [] rfl rfl rfl rfl (s_move rfl ⟨rfl, rfl, rfl⟩) ?_
      refine d_op ?_
      refine x_run0 [(1, pN kn)] [] rfl rfl rfl rfl (s_move rfl ⟨rfl, rfl, rfl⟩) ?_
      refine d_op ?_
      refine x_run0 [(22, pN kn)] [7] rfl rfl rfl rfl (s_addN (a := kn) (b := 1) rfl rfl (by omega) (by omega) (by omega) ⟨rfl, rfl, rfl⟩) ?_
      refine d_op ?_
      obtain ⟨e2, he2⟩ := get_of_lt b (i := kn + 1) (by omega)
      refine x_run0 [(21, pS 1 cl_b enc8 b), (23, pN (kn + 1))] [6, 7, 8] rfl rfl rfl rfl (s_iaM (q := kn + 1) (b := e2) (f := enc8) tab_27 rfl tab_5 rfl rfl (by omega) rfl he2 ⟨rfl, rfl, rfl⟩) ?_
      refine d_op ?_
      refine x_run0 [(24, PV.f (.ro (enc8 e2)))] [6, 7, 8, 9] rfl rfl rfl rfl (s_load_ro1 tab_5 rfl rfl rfl rfl ⟨rfl, rfl, rfl⟩) ?_
      refine d_op ?_
      refine x_run0 [(25, p8 e2)] [6, 7, 8, 9, 10] rfl rfl rfl rfl (s_cvN (a := UInt8.toNat e2) tab_5 tab_3 rfl rfl rfl (by omega) (by have := lt8 e2; omega) ⟨rfl, rfl, rfl⟩) ?_
      refine d_op ?_
      refine x_run0 [(20, pN ((UInt8.toNat e1) * 2 ^ 8)), (26, pN (UInt8.toNat e2))] [0, 1, 2, 3, 4, 5, 6, 7, 8, 9, 10, 11] rfl rfl rfl rfl (s_orN (a := (UInt8.toNat e1) * 2 ^ 8) (b := UInt8.toNat e2) rfl rfl (by omega) (by omega) (by have := lt8 e1; have := lt8 e2; omega) ⟨rfl, rfl, rfl⟩) ?_
      refine d_op ?_
      refine x_run0 [(27, pN (((UInt8.toNat e1) * 2 ^ 8) ||| (UInt8.toNat e2)))] [0, 1, 2, 3, 4, 5, 6, 7, 8, 9, 10, 11, 12] rfl rfl rfl rfl (s_assign rfl ⟨rfl, rfl, rfl⟩) ?_
      refine d_op ?_
      refine x_run0 [] [0, 1, 2, 3, 4, 5, 6, 7, 8, 9, 10, 11, 12, 13] rfl rfl rfl rfl (s_assign rfl ⟨rfl, rfl, rfl⟩) ?_
      refine d_end ⟨by kernel_rfl, ?_⟩
      refine q_then ?_
      refine w_le (s := 4) (y := pI (getV b k)) rfl (le_of_eq (congrArg (fun z : Int => pI z) (show ((((UInt8.toNat e1) * 2 ^ 8) ||| (UInt8.toNat e2) : Nat) : Int) = (getV b k) by first | (simp [getV, eo]; done) | exact eo.symm | (rw [getV, if_pos eo, hkn, Int.toNat_natCast, getN_of he1 he2, or_word _ _ (lt8 _)])))) ?_
      refine w_le (s := 5) (y := pB (getOk b k)) rfl (le_of_eq (congrArg (fun z : Bool => pB z) (show true = (getOk b k) by first | (simp [getV, eo]; done) | exact eo.symm | (rw [getV, if_pos eo, hkn, Int.toNat_natCast, getN_of he1 he2, or_word _ _ (lt8 _)])))) ?_
      refine w_ret ?_
      exact fin_plain (ret_tmp rfl (ret_tmp rfl ret_nil)) rfl rfl ⟨rfl, rfl, rfl⟩
  ·
    have g1' := g1
    try simp only [decide_eq_true_eq, decide_eq_false_iff_not, Bool.not_eq_true', Bool.not_eq_false', Bool.not_true, Bool.not_false, Bool.not_eq_eq_eq_not, Int.not_lt, Int.not_le] at g1'
    have eo : getOk b k = false := by unfold getOk; apply decide_eq_false; omega
    refine r_if tabOk hnt rfl rfl rfl (fun e => absurd (e.symm.trans g1) (by decide)) (fun _ => ?_)
    refine r_if tabOk hnt rfl rfl rfl (fun e => absurd (e.symm.trans g1) (by decide)) (fun _ => ?_)
    refine r_if tabOk hnt rfl rfl rfl (fun e => absurd (e.symm.trans g1) (by decide)) (fun _ => ?_)
    refine r_if tabOk hnt rfl rfl rfl (fun e => absurd (e.symm.trans g1) (by decide)) (fun _ => ?_)
    refine r_op tabOk hnt rfl (s_pick_t rfl g1 rfl ?_) 
    refine r_end ?_
    refine q_then ?_
    refine w_if rfl (fun _ => ?_) (fun e => absurd e (by decide))
    refine w_seq ?_
    refine w_R ?_
    refine r_op tabOk hnt rfl (s_assign rfl ?_) 
    refine r_op tabOk hnt rfl (s_assign rfl ?_) 
    refine r_end ?_
    refine q_then ?_
    refine w_le (s := 4) (y := pI (getV b k)) rfl (le_of_eq (congrArg (fun z : Int => pI z) (show 0 = (getV b k) by first | (simp [getV, eo]; done) | exact eo.symm | (rw [getV, if_pos eo, hkn, Int.toNat_natCast, getN_of he1 he2, or_word _ _ (lt8 _)])))) ?_
    refine w_le (s := 5) (y := pB (getOk b k)) rfl (le_of_eq (congrArg (fun z : Bool => pB z) (show false = (getOk b k) by first | (simp [getV, eo]; done) | exact eo.symm | (rw [getV, if_pos eo, hkn, Int.toNat_natCast, getN_of he1 he2, or_word _ _ (lt8 _)])))) ?_
    refine w_ret ?_
    refine q_then_ret ?_
    exact fin_plain (ret_tmp rfl (ret_tmp rfl ret_nil)) rfl rfl ⟨rfl, rfl, rfl⟩

theorem w_burgageref1_Get (b : List UInt8) (cl_b : Bool) (k : Int) (hb : b.length ≤ 140737488355328) (hk0 : k ≤ 9223372036854775807) :
    T Try.prog 55 [pS 1 cl_b enc8 b, pI k] 0 [] (Ret (PV.tup [pI (getV b k), pB (getOk b k)]) 0 []) := by
  refine t_fun tabOk (n := 28) (rs := [.tmp 4, .tmp 5]) Try.func55 rfl rfl rfl rfl (Nat.le_of_ble_eq_true rfl) ?_
  intro c hnt hk
  refine w_seq ?_
  refine w_R ?_
  refine r_op tabOk hnt rfl (s_assign rfl ?_) 
  refine r_op tabOk hnt rfl (s_assign rfl ?_) 
  refine r_end ?_
  refine q_then ?_
  refine w_seq ?_
  refine w_seq ?_
  refine w_R ?_
  refine r_op tabOk hnt rfl (s_move rfl ?_) 
  refine r_op tabOk hnt rfl (s_lss rfl rfl ?_) 
  refine r_op tabOk hnt rfl (s_move rfl ?_) 
  refine r_if tabOk hnt rfl rfl rfl (fun g1 => ?_) (fun g1 => ?_)
  ·
    have g1' := g1
    try simp only [decide_eq_true_eq, decide_eq_false_iff_not, Bool.not_eq_true', Bool.not_eq_false', Bool.not_true, Bool.not_false, Bool.not_eq_eq_eq_not, Int.not_lt, Int.not_le] at g1'
    refine r_op tabOk hnt rfl (s_move rfl ?_) 
    refine r_if tabOk hnt rfl rfl rfl (fun _ => ?_) (fun e => absurd (e.symm.trans g1) (by decide))
    refine r_op tabOk hnt rfl (s_move rfl ?_) 
    refine r_if tabOk hnt rfl rfl rfl (fun _ => ?_) (fun e => absurd (e.symm.trans g1) (by decide))
    refine r_op tabOk hnt rfl (s_lenM (l := b) tab_27 rfl (hM_sl (f := enc8) rfl) ?_) 
    refine r_if tabOk hnt rfl rfl rfl (fun _ => ?_) (fun e => absurd (e.symm.trans g1) (by decide))
    refine r_op tabOk hnt rfl (s_subi (r := ((b.length : Nat) : Int) - 2) rfl rfl rfl (by omega) ?_) 
    refine r_if tabOk hnt rfl rfl rfl (fun _ => ?_) (fun e => absurd (e.symm.trans g1) (by decide))
    refine r_op tabOk hnt rfl (s_gtr rfl rfl ?_) 
    refine r_op tabOk hnt rfl (s_pick_f rfl g1 rfl ?_) 
    refine r_end ?_
    refine q_then ?_
    refine w_if rfl (fun c1 => ?_) (fun c1 => ?_)
    ·
      have c1_ := c1
      try simp only [decide_eq_true_eq, decide_eq_false_iff_not, Bool.not_eq_true', Bool.not_eq_false', Bool.not_true, Bool.not_false, Bool.not_eq_eq_eq_not, Int.not_lt, Int.not_le] at c1
      have eo : getOk b k = false := by unfold getOk; apply decide_eq_false; omega
      refine w_seq ?_
      refine w_R ?_
      refine r_op tabOk hnt rfl (s_assign rfl ?_) 
      refine r_op tabOk hnt rfl (s_assign rfl ?_) 
      refine r_end ?_
      refine q_then ?_
      refine w_le (s := 4) (y := pI (getV b k)) rfl (le_of_eq (congrArg (fun z : Int => pI z) (show 0 = (getV b k) by first | (simp [getV, eo]; done) | exact eo.symm | (rw [getV, if_pos eo, hkn, Int.toNat_natCast, getN_of he1 he2, or_word _ _ (lt8 _)])))) ?_
      refine w_le (s := 5) (y := pB (getOk b k)) rfl (le_of_eq (congrArg (fun z : Bool => pB z) (show false = (getOk b k) by first | (simp [getV, eo]; done) | exact eo.symm | (rw [getV, if_pos eo, hkn, Int.toNat_natCast, getN_of he1 he2, or_word _ _ (lt8 _)])))) ?_
      refine w_ret ?_
      refine q_then_ret ?_
      exact fin_plain (ret_tmp rfl (ret_tmp rfl ret_nil)) rfl rfl ⟨rfl, rfl, rfl⟩
    ·
      have c1_ := c1
      try simp only [decide_eq_true_eq, decide_eq_false_iff_not, Bool.not_eq_true', Bool.not_eq_false', Bool.not_true, Bool.not_false, Bool.not_eq_eq_eq_not, Int.not_lt, Int.not_le] at c1
      refine w_skip ?_
      refine q_then ?_
      refine w_seq ?_
      have eo : getOk b k = true := by unfold getOk; apply decide_eq_true; omega
      obtain ⟨kn, hkn⟩ : ∃ kn : Nat, k = (kn : Int) := ⟨k.toNat, by omega⟩
      refine w_eq (s := 1) (y := pN kn) rfl (congrArg (fun z : Int => pI z) (show k = ((kn : Nat) : Int) by exact hkn)) ?_
      refine W_drawn tabOk mixed hnt [[], [], [0, 1], [0, 1, 2], [0, 1, 2, 3], [0, 1, 2, 3, 4], [], [], [7], [6, 7, 8], [6, 7, 8, 9], [6, 7, 8, 9, 10], [0, 1, 2, 3, 4, 5, 6, 7, 8, 9, 10, 11], [0, 1, 2, 3, 4, 5, 6, 7, 8, 9, 10, 11, 12], [0, 1, 2, 3, 4, 5, 6, 7, 8, 9, 10, 11, 12, 13]] (by kernel_rfl) ?_
      refine d_op ?_
      refine x_run0 [(0, pS 1 cl_b enc8 b)] [] rfl rfl rfl rfl (s_move rfl ⟨rfl, rfl, rfl⟩) ?_
      refine d_op ?_
      refine x_run0 [(1, pN kn)] [] rfl rfl rfl rfl (s_move rfl ⟨rfl, rfl, rfl⟩) ?_
      refine d_op ?_
      obtain ⟨e1, he1⟩ := get_of_lt b (i := kn) (by omega)
      refine x_run0 [(15, pS 1 cl_b enc8 b), (16, pN kn)] [0, 1] rfl rfl rfl rfl (s_iaM (q := kn) (b := e1) (f := enc8) tab_27 rfl tab_5 rfl rfl (by omega) rfl he1 ⟨rfl, rfl, rfl⟩) ?_
      refine d_op ?_
      refine x_run0 [(17, PV.f (.ro (enc8 e1)))] [0, 1, 2] rfl rfl rfl rfl (s_load_ro1 tab_5 rfl rfl rfl rfl ⟨rfl, rfl, rfl⟩) ?_
      refine d_op ?_
      refine x_run0 [(18, p8 e1)] [0, 1, 2, 3] rfl rfl rfl rfl (s_cvN (a := UInt8.toNat e1) tab_5 tab_3 rfl rfl rfl (by omega) (by have := lt8 e1; omega) ⟨rfl, rfl, rfl⟩) ?_
      refine d_op ?_
      refine x_run0 [(19, pN (UInt8.toNat e1))] [0, 1, 2, 3, 4] rfl rfl rfl rfl (s_shlN (a := UInt8.toNat e1) 8 rfl (by omega) rfl (by decide) (by have := lt8 e1; omega) ⟨rfl, rfl, rfl⟩) ?_
      refine d_op ?_
      refine x_run0 [(0, pS 1 cl_b enc8 b)] [] rfl rfl rfl rfl (s_move rfl ⟨rfl, rfl, rfl⟩) ?_
      refine d_op ?_
      refine x_run0 [(1, pN kn)] [] rfl rfl rfl rfl (s_move rfl ⟨rfl, rfl, rfl⟩) ?_
      refine d_op ?_
      refine x_run0 [(22, pN kn)] [7] rfl rfl rfl rfl (s_addN (a := kn) (b := 1) rfl rfl (by omega) (by omega) (by omega) ⟨rfl, rfl, rfl⟩) ?_
      refine d_op ?_
      obtain ⟨e2, he2⟩ := get_of_lt b (i := kn + 1) (by omega)
      refine x_run0 [(21, pS 1 cl_b enc8 b), (23, pN (kn + 1))] [6, 7, 8] rfl rfl rfl rfl (s_iaM (q := kn + 1) (b := e2) (f := enc8) tab_27 rfl tab_5 rfl rfl (by omega) rfl he2 ⟨rfl, rfl, rfl⟩) ?_
      refine d_op ?_
      refine x_run0 [(24, PV.f (.ro (enc8 e2)))] [6, 7, 8, 9] rfl rfl rfl rfl (s_load_ro1 tab_5 rfl rfl rfl rfl ⟨rfl, rfl, rfl⟩) ?_
      refine d_op ?_
      refine x_run0 [(25, p8 e2)] [6, 7, 8, 9, 10] rfl rfl rfl rfl (s_cvN (a := UInt8.toNat e2) tab_5 tab_3 rfl rfl rfl (by omega) (by have := lt8 e2; omega) ⟨rfl, rfl, rfl⟩) ?_
      refine d_op ?_
      refine x_run0 [(20, pN ((UInt8.toNat e1) * 2 ^ 8)), (26, pN (UInt8.toNat e2))] [0, 1, 2, 3, 4, 5, 6, 7, 8, 9, 10, 11] rfl rfl rfl rfl (s_orN (a := (UInt8.toNat e1) * 2 ^ 8) (b := UInt8.toNat e2) rfl rfl (by omega) (by omega) (by have := lt8 e1; have := lt8 e2; omega) ⟨rfl, rfl, rfl⟩) ?_
      refine d_op ?_
      refine x_run0 [(27, pN (((UInt8.toNat e1) * 2 ^ 8) ||| (UInt8.toNat e2)))] [0, 1, 2, 3, 4, 5, 6, 7, 8, 9, 10, 11, 12] rfl rfl rfl rfl (s_assign rfl ⟨rfl, rfl, rfl⟩) ?_
      refine d_op ?_
      refine x_run0 [] [0, 1, 2, 3, 4, 5, 6, 7, 8, 9, 10, 11, 12, 13] rfl rfl rfl rfl (s_assign rfl ⟨rfl, rfl, rfl⟩) ?_
      refine d_end ⟨by kernel_rfl, ?_⟩
      refine q_then ?_
      refine w_le (s := 4) (y := pI (getV b k)) rfl (le_of_eq (congrArg (fun z : Int => pI z) (show ((((UInt8.toNat e1) * 2 ^ 8) ||| (UInt8.toNat e2) : Nat) : Int) = (getV b k) by first | (simp [getV, eo]; done) | exact eo.symm | (rw [getV, if_pos eo, hkn, Int.toNat_natCast, getN_of he1 he2, or_word _ _ (lt8 _)])))) ?_
      refine w_le (s := 5) (y := pB (getOk b k)) rfl (le_of_eq (congrArg (fun z : Bool => pB z) (show true = (getOk b k) by first | (simp [getV, eo]; done) | exact eo.symm | (rw [getV, if_pos eo, hkn, Int.toNat_natCast, getN_of he1 he2, or_word _ _ (lt8 _)])))) ?_
      refine w_ret ?_
      exact fin_plain (ret_tmp rfl (ret_tmp rfl ret_nil)) rfl rfl ⟨rfl, rfl, rfl⟩
  ·
    have g1' := g1
    try simp only [decide_eq_true_eq, decide_eq_false_iff_not, Bool.not_eq_true', Bool.not_eq_false', Bool.not_true, Bool.not_false, Bool.not_eq_eq_eq_not, Int.not_lt, Int.not_le] at g1'
    have eo : getOk b k = false := by unfold getOk; apply decide_eq_false; omega
    refine r_if tabOk hnt rfl rfl rfl (fun e => absurd (e.symm.trans g1) (by decide)) (fun _ => ?_)
    refine r_if tabOk hnt rfl rfl rfl (fun e => absurd (e.symm.trans g1) (by decide)) (fun _ => ?_)
    refine r_if tabOk hnt rfl rfl rfl (fun e => absurd (e.symm.trans g1) (by decide)) (fun _ => ?_)
    refine r_if tabOk hnt rfl rfl rfl (fun e => absurd (e.symm.trans g1) (by decide)) (fun _ => ?_)
    refine r_op tabOk hnt rfl (s_pick_t rfl g1 rfl ?_) 
    refine r_end ?_
    refine q_then ?_
    refine w_if rfl (fun _ => ?_) (fun e => absurd e (by decide))
    refine w_seq ?_
    refine w_R ?_
    refine r_op tabOk hnt rfl (s_assign rfl ?_) 
    refine r_op tabOk hnt rfl (s_assign rfl ?_) 
    refine r_end ?_
    refine q_then ?_
    refine w_le (s := 4) (y := pI (getV b k)) rfl (le_of_eq (congrArg (fun z : Int => pI z) (show 0 = (getV b k) by first | (simp [getV, eo]; done) | exact eo.symm | (rw [getV, if_pos eo, hkn, Int.toNat_natCast, getN_of he1 he2, or_word _ _ (lt8 _)])))) ?_
    refine w_le (s := 5) (y := pB (getOk b k)) rfl (le_of_eq (congrArg (fun z : Bool => pB z) (show false = (getOk b k) by first | (simp [getV, eo]; done) | exact eo.symm | (rw [getV, if_pos eo, hkn, Int.toNat_natCast, getN_of he1 he2, or_word _ _ (lt8 _)])))) ?_
    refine w_ret ?_
    refine q_then_ret ?_
    exact fin_plain (ret_tmp rfl (ret_tmp rfl ret_nil)) rfl rfl ⟨rfl, rfl, rfl⟩

theorem w_octet_Pack (l : List Bool) (cl_l : Bool) (hl : l.length ≤ 140737488351232) :
    T Try.prog 33 [pS 1 cl_l encBo l] 0 [] (Ret (PV.ref 0 0 none) 1 [(0, oB true 1 enc8 (packL l))]) := by
  refine t_fun tabOk (n := 32) (rs := [.tmp 2]) Try.func33 rfl rfl rfl rfl (Nat.le_of_ble_eq_true rfl) ?_
  intro c hnt hk
  refine w_seq ?_
  refine w_R ?_
  refine r_op tabOk hnt rfl (s_assign rfl ?_) 
  refine r_end ?_
  refine q_then ?_
  refine w_seq ?_
  refine w_R ?_
  refine r_op tabOk hnt rfl (s_move rfl ?_) 
  refine r_op tabOk hnt rfl (s_lenM (l := l) tab_44 rfl (hM_sl (f := encBo) rfl) ?_) 
  refine r_op tabOk hnt rfl (s_addN (a := l.length) (b := 8) rfl rfl (by omega) (by omega) (by omega) ?_) 
  refine r_op tabOk hnt rfl (s_subN (a := l.length + 8) (b := 1) rfl rfl (by omega) (by omega) (by omega) ?_) 
  refine r_op tabOk hnt rfl (s_quoN (a := l.length + 8 - 1) (b := 8) rfl rfl (by omega) (by omega) (by omega) ?_) 
  refine r_op tabOk hnt rfl (s_makeM (f := enc8) (bt := 1) tab_one (0 : UInt8) ((l.length + 8 - 1) / 8) (fun j hj => by cases hj; rfl) tab_27 rfl tab_5 ⟨rfl, by decide⟩ rfl rfl rfl (by omega) (by refine ⟨?_, ?_, ?_⟩ <;> omega) ?_) 
  refine r_op tabOk hnt rfl (s_assign rfl ?_) 
  refine r_set [(0, pS 1 cl_l encBo l), (3, PV.ref 0 0 none)] [(0, oB true 1 enc8 (List.replicate ((l.length + 8 - 1) / 8) (0 : UInt8)))] 1 ⟨rfl, rfl, trivial⟩ rfl rfl ?_
  refine r_end ?_
  refine q_then ?_
  refine w_seq ?_
  refine w_seq ?_
  refine w_R ?_
  refine r_op tabOk hnt rfl (s_move rfl ?_) 
  refine r_op tabOk hnt rfl (s_lenM (l := l) tab_44 rfl (hM_sl (f := encBo) rfl) ?_) 
  refine r_op tabOk hnt rfl (s_move rfl ?_) 
  refine r_end ?_
  refine q_then ?_
  refine w_block ?_
  refine loop2 (fun (os : List UInt8) (i : Nat) => i ≤ l.length ∧ os = packT l i) (fun (os : List UInt8) (i : Nat) => [(3, PV.ref 0 0 none), (12, pS 1 cl_l encBo l), (13, pN l.length), (14, pN i)]) 1 (fun (os : List UInt8) (i : Nat) => [(0, oB true 1 enc8 os)]) (fun (os : List UInt8) (i : Nat) => l.length - i) (List.replicate ((l.length + 8 - 1) / 8) (0 : UInt8)) (0) ?_ ⟨[(0, 0)], by rw [hk]; decide, ⟨⟨_, rfl, rfl, rfl⟩, ⟨_, rfl, rfl, rfl⟩, ⟨_, rfl, rfl, rfl⟩, ⟨_, rfl, rfl, rfl⟩, trivial⟩, ⟨⟨_, _, rfl, rfl, rfl, rfl⟩, trivial⟩, by rw [hk]; decide⟩ ?_
  · exact ⟨Nat.zero_le _, by first | (rw [packT_zero]; done) | (rw [packT_zero]; rfl)⟩
  ·
    intro os i hI
    obtain ⟨hi, ho⟩ := hI
    have hol : os.length = (l.length + 7) / 8 := by rw [ho]; exact packT_length l i
    refine w_seq ?_
    refine w_R ?_
    refine r_op tabOk hnt rfl (s_lss rfl rfl ?_) 
    refine r_end ?_
    refine q_then ?_
    refine w_seq ?_
    refine w_if rfl (fun c1 => ?_) (fun c1 => ?_)
    ·
      have c1_ := c1
      try simp only [decide_eq_true_eq, decide_eq_false_iff_not, Bool.not_eq_true', Bool.not_eq_false', Bool.not_true, Bool.not_false, Bool.not_eq_eq_eq_not, Int.not_lt, Int.not_le] at c1
      refine w_skip ?_
      refine q_then ?_
      refine w_seq ?_
      refine w_block ?_
      refine w_seq ?_
      refine w_R ?_
      refine r_op tabOk hnt rfl (s_move rfl ?_) 
      obtain ⟨e1, he1⟩ := get_of_lt l (i := i) (by omega)
      refine r_op tabOk hnt rfl (s_iaM (q := i) (b := e1) (f := encBo) tab_44 rfl tab_4 rfl rfl (by omega) rfl he1 ?_) 
      refine r_op tabOk hnt rfl (s_load_ro1 tab_4 rfl rfl rfl rfl ?_) 
      refine r_op tabOk hnt rfl (s_assign rfl ?_) 
      refine r_op tabOk hnt rfl (s_assign rfl ?_) 
      refine r_end ?_
      refine q_then ?_
      refine w_seq ?_
      refine w_R ?_
      refine r_op tabOk hnt rfl (s_move rfl ?_) 
      refine r_end ?_
      refine q_then ?_
      refine w_if rfl (fun c2 => ?_) (fun c2 => ?_)
      ·
        have c2_ := c2
        try simp only [decide_eq_true_eq, decide_eq_false_iff_not, Bool.not_eq_true', Bool.not_eq_false', Bool.not_true, Bool.not_false, Bool.not_eq_eq_eq_not, Int.not_lt, Int.not_le] at c2
        refine W_drawn tabOk mixed hnt [[], [], [1], [0, 1, 2], [0, 1, 2, 3], [], [5], [5, 6], [0, 1, 2, 3, 4, 5, 6, 7], [0, 1, 2, 3, 4, 5, 6, 7, 8], [0, 1, 2, 3, 4, 5, 6, 7, 8, 9]] (by kernel_rfl) ?_
        refine d_op ?_
        refine x_run0 [(3, PV.ref 0 0 none)] [] rfl rfl rfl rfl (s_move rfl ⟨rfl, rfl, rfl⟩) ?_
        refine d_op ?_
        refine x_run0 [(4, pN i)] [] rfl rfl rfl rfl (s_move rfl ⟨rfl, rfl, rfl⟩) ?_
        refine d_op ?_
        refine x_run0 [(21, pN i)] [1] rfl rfl rfl rfl (s_quoN (a := i) (b := 8) rfl rfl (by omega) (by omega) (by omega) ⟨rfl, rfl, rfl⟩) ?_
        refine d_op ?_
        refine x_run [(20, PV.ref 0 0 none), (22, pN (i / 8))] [0, 1, 2] [(0, oB true 1 enc8 os)] [] [(0, oB true 1 enc8 os)] [] [(0, oB true 1 enc8 os)] rfl rfl rfl rfl rfl rfl (s_iaR0 (q := i / 8) (f := enc8) (l := os) tab_27 rfl tab_5 rfl rfl (by omega) rfl rfl (by omega) ⟨rfl, rfl, rfl⟩) rfl ⟨rfl, trivial⟩ rfl rfl ?_
        refine d_op ?_
        obtain ⟨e2, he2⟩ := get_of_lt os (i := i / 8) (by omega)
        refine x_run [(23, PV.ep 0 (i / 8) 0)] [0, 1, 2, 3] [(0, oB true 1 enc8 os)] [] [(0, oB true 1 enc8 os)] [] [(0, oB true 1 enc8 os)] rfl rfl rfl rfl rfl rfl (s_ldM (b := e2) (f := enc8) tab_5 rfl rfl rfl rfl he2 rfl ⟨rfl, rfl, rfl⟩) rfl ⟨rfl, trivial⟩ rfl rfl ?_
        refine d_op ?_
        refine x_run0 [(4, pN i)] [] rfl rfl rfl rfl (s_move rfl ⟨rfl, rfl, rfl⟩) ?_
        refine d_op ?_
        refine x_run0 [(25, pN i)] [5] rfl rfl rfl rfl (s_remN (a := i) (b := 8) rfl rfl (by omega) (by omega) (by omega) ⟨rfl, rfl, rfl⟩) ?_
        refine d_op ?_
        refine x_run0 [(26, pN (i % 8))] [5, 6] rfl rfl rfl rfl (s_shl8 (a := 1) (i % 8) rfl rfl (by first | rfl | omega) (by first | decide | omega) ⟨rfl, rfl, rfl⟩) ?_
        refine d_op ?_
        refine x_run0 [(24, p8 e2), (27, p8 (1 <<< UInt8.ofNat (i % 8)))] [0, 1, 2, 3, 4, 5, 6, 7] rfl rfl rfl rfl (s_or8 (a := e2) (b := 1 <<< UInt8.ofNat (i % 8)) rfl rfl ⟨rfl, rfl, rfl⟩) ?_
        refine d_op ?_
        refine x_run [(20, PV.ref 0 0 none), (22, pN (i / 8))] [0, 1, 2, 3, 4, 5, 6, 7, 8] [(0, oB true 1 enc8 os)] [] [(0, oB true 1 enc8 os)] [] [(0, oB true 1 enc8 os)] rfl rfl rfl rfl rfl rfl (s_iaR0 (q := i / 8) (f := enc8) (l := os) tab_27 rfl tab_5 rfl rfl (by omega) rfl rfl (by omega) ⟨rfl, rfl, rfl⟩) rfl ⟨rfl, trivial⟩ rfl rfl ?_
        refine d_op ?_
        refine x_run [(29, PV.ep 0 (i / 8) 0), (28, p8 (e2 ||| (1 <<< UInt8.ofNat (i % 8))))] [0, 1, 2, 3, 4, 5, 6, 7, 8, 9] [] [(0, oB true 1 enc8 os)] [(0, oB true 1 enc8 (os.set (i / 8) (e2 ||| (1 <<< UInt8.ofNat (i % 8)))))] [(0, oB true 1 enc8 (os.set (i / 8) (e2 ||| (1 <<< UInt8.ofNat (i % 8)))))] [(0, oB true 1 enc8 (os.set (i / 8) (e2 ||| (1 <<< UInt8.ofNat (i % 8)))))] rfl rfl rfl rfl rfl rfl (s_stM (y0 := e2) (z := e2 ||| (1 <<< UInt8.ofNat (i % 8))) (f := enc8) tab_5 rfl rfl rfl rfl rfl he2 (Nat.le_of_ble_eq_true rfl) rfl rfl (by simp) rfl ⟨rfl, rfl, rfl⟩) rfl trivial rfl rfl ?_
        refine d_end ⟨by kernel_rfl, ?_⟩
        refine q_block ?_
        refine q_then ?_
        refine w_R ?_
        refine r_op tabOk hnt rfl (s_addN (a := i) (b := 1) rfl rfl (by omega) (by omega) (by omega) ?_) 
        refine r_op tabOk hnt rfl (s_move rfl ?_) 
        refine r_end ?_
        refine q_then ?_
        refine ⟨(os.set (i / 8) (e2 ||| (1 <<< UInt8.ofNat (i % 8)))), (i + 1), ?_, ?_, ⟨[(0, 0)], by rw [hk]; decide, ⟨⟨_, rfl, rfl, rfl⟩, ⟨_, rfl, rfl, rfl⟩, ⟨_, rfl, rfl, rfl⟩, ⟨_, rfl, rfl, rfl⟩, trivial⟩, ⟨⟨_, _, rfl, rfl, rfl, rfl⟩, trivial⟩, by rw [hk]; decide⟩⟩
        ·
          refine ⟨by omega, ?_⟩
          first | (rw [packT_no (by rw [he1, c2]), ho]; done) | (subst ho; exact packT_yes (by rw [he1, c2]) he2)
        · omega
      ·
        have c2_ := c2
        try simp only [decide_eq_true_eq, decide_eq_false_iff_not, Bool.not_eq_true', Bool.not_eq_false', Bool.not_true, Bool.not_false, Bool.not_eq_eq_eq_not, Int.not_lt, Int.not_le] at c2
        refine w_skip ?_
        refine q_block ?_
        refine q_then ?_
        refine w_R ?_
        refine r_op tabOk hnt rfl (s_addN (a := i) (b := 1) rfl rfl (by omega) (by omega) (by omega) ?_) 
        refine r_op tabOk hnt rfl (s_move rfl ?_) 
        refine r_end ?_
        refine q_then ?_
        refine ⟨(os), (i + 1), ?_, ?_, ⟨[(0, 0)], by rw [hk]; decide, ⟨⟨_, rfl, rfl, rfl⟩, ⟨_, rfl, rfl, rfl⟩, ⟨_, rfl, rfl, rfl⟩, ⟨_, rfl, rfl, rfl⟩, trivial⟩, ⟨⟨_, _, rfl, rfl, rfl, rfl⟩, trivial⟩, by rw [hk]; decide⟩⟩
        ·
          refine ⟨by omega, ?_⟩
          first | (rw [packT_no (by rw [he1, c2]), ho]; done) | (subst ho; exact packT_yes (by rw [he1, c2]) he2)
        · omega
    ·
      have c1_ := c1
      try simp only [decide_eq_true_eq, decide_eq_false_iff_not, Bool.not_eq_true', Bool.not_eq_false', Bool.not_true, Bool.not_false, Bool.not_eq_eq_eq_not, Int.not_lt, Int.not_le] at c1
      refine w_exit ?_
      refine q_then_exit ?_
      refine q_then_exit ?_
      refine q_block_exit ?_
      refine q_then ?_
      refine w_seq ?_
      refine w_R ?_
      refine r_op tabOk hnt rfl (s_move rfl ?_) 
      refine r_op tabOk hnt rfl (s_assign rfl ?_) 
      refine r_end ?_
      refine q_then ?_
      refine w_H (H' := [(0, oB true 1 enc8 (packL l))]) (congrArg (fun z => ([(0, oB true 1 enc8 z)] : Heap)) (show os = packL l by rw [ho, show i = l.length by omega, packT_end])) ?_
      refine w_ret ?_
      exact fin_names (nx1 := 1) (H1 := [(0, oB true 1 enc8 (packL l))]) [(0, 0)] (ret_tmp rfl ret_nil) rfl (by decide) ⟨⟨_, _, rfl, rfl, rfl, rfl⟩, trivial⟩ (by decide) rfl ⟨rfl, rfl, rfl⟩

theorem w_burgageref1_Pack (l : List Bool) (cl_l : Bool) (hl : l.length ≤ 140737488351232) :
    T Try.prog 29 [pS 1 cl_l encBo l] 0 [] (Ret (PV.ref 0 0 none) 1 [(0, oB true 1 enc8 (packL l))]) := by
  refine t_fun tabOk (n := 32) (rs := [.tmp 2]) Try.func29 rfl rfl rfl rfl (Nat.le_of_ble_eq_true rfl) ?_
  intro c hnt hk
  refine w_seq ?_
  refine w_R ?_
  refine r_op tabOk hnt rfl (s_assign rfl ?_) 
  refine r_end ?_
  refine q_then ?_
  refine w_seq ?_
  refine w_R ?_
  refine r_op tabOk hnt rfl (s_move rfl ?_) 
  refine r_op tabOk hnt rfl (s_lenM (l := l) tab_44 rfl (hM_sl (f := encBo) rfl) ?_) 
  refine r_op tabOk hnt rfl (s_addN (a := l.length) (b := 7) rfl rfl (by omega) (by omega) (by omega) ?_) 
  refine r_op tabOk hnt rfl (s_quoN (a := l.length + 7) (b := 8) rfl rfl (by omega) (by omega) (by omega) ?_) 
  refine r_op tabOk hnt rfl (s_makeM (f := enc8) (bt := 1) tab_one (0 : UInt8) ((l.length + 7) / 8) (fun j hj => by cases hj; rfl) tab_27 rfl tab_5 ⟨rfl, by decide⟩ rfl rfl rfl (by omega) (by refine ⟨?_, ?_, ?_⟩ <;> omega) ?_) 
  refine r_op tabOk hnt rfl (s_assign rfl ?_) 
  refine r_set [(0, pS 1 cl_l encBo l), (3, PV.ref 0 0 none)] [(0, oB true 1 enc8 (List.replicate ((l.length + 7) / 8) (0 : UInt8)))] 1 ⟨rfl, rfl, trivial⟩ rfl rfl ?_
  refine r_end ?_
  refine q_then ?_
  refine w_seq ?_
  refine w_seq ?_
  refine w_R ?_
  refine r_op tabOk hnt rfl (s_move rfl ?_) 
  refine r_op tabOk hnt rfl (s_lenM (l := l) tab_44 rfl (hM_sl (f := encBo) rfl) ?_) 
  refine r_op tabOk hnt rfl (s_move rfl ?_) 
  refine r_end ?_
  refine q_then ?_
  refine w_block ?_
  refine loop2 (fun (os : List UInt8) (i : Nat) => i ≤ l.length ∧ os = packT l i) (fun (os : List UInt8) (i : Nat) => [(3, PV.ref 0 0 none), (11, pS 1 cl_l encBo l), (12, pN l.length), (13, pN i)]) 1 (fun (os : List UInt8) (i : Nat) => [(0, oB true 1 enc8 os)]) (fun (os : List UInt8) (i : Nat) => l.length - i) (List.replicate ((l.length + 7) / 8) (0 : UInt8)) (0) ?_ ⟨[(0, 0)], by rw [hk]; decide, ⟨⟨_, rfl, rfl, rfl⟩, ⟨_, rfl, rfl, rfl⟩, ⟨_, rfl, rfl, rfl⟩, ⟨_, rfl, rfl, rfl⟩, trivial⟩, ⟨⟨_, _, rfl, rfl, rfl, rfl⟩, trivial⟩, by rw [hk]; decide⟩ ?_
  · exact ⟨Nat.zero_le _, by first | (rw [packT_zero]; done) | (rw [packT_zero]; rfl)⟩
  ·
    intro os i hI
    obtain ⟨hi, ho⟩ := hI
    have hol : os.length = (l.length + 7) / 8 := by rw [ho]; exact packT_length l i
    refine w_seq ?_
    refine w_R ?_
    refine r_op tabOk hnt rfl (s_lss rfl rfl ?_) 
    refine r_end ?_
    refine q_then ?_
    refine w_seq ?_
    refine w_if rfl (fun c1 => ?_) (fun c1 => ?_)
    ·
      have c1_ := c1
      try simp only [decide_eq_true_eq, decide_eq_false_iff_not, Bool.not_eq_true', Bool.not_eq_false', Bool.not_true, Bool.not_false, Bool.not_eq_eq_eq_not, Int.not_lt, Int.not_le] at c1
      refine w_skip ?_
      refine q_then ?_
      refine w_seq ?_
      refine w_block ?_
      refine w_seq ?_
      refine w_R ?_
      refine r_op tabOk hnt rfl (s_move rfl ?_) 
      obtain ⟨e1, he1⟩ := get_of_lt l (i := i) (by omega)
      refine r_op tabOk hnt rfl (s_iaM (q := i) (b := e1) (f := encBo) tab_44 rfl tab_4 rfl rfl (by omega) rfl he1 ?_) 
      refine r_op tabOk hnt rfl (s_load_ro1 tab_4 rfl rfl rfl rfl ?_) 
      refine r_op tabOk hnt rfl (s_assign rfl ?_) 
      refine r_op tabOk hnt rfl (s_assign rfl ?_) 
      refine r_end ?_
      refine q_then ?_
      refine w_seq ?_
      refine w_R ?_
      refine r_op tabOk hnt rfl (s_move rfl ?_) 
      refine r_end ?_
      refine q_then ?_
      refine w_if rfl (fun c2 => ?_) (fun c2 => ?_)
      ·
        have c2_ := c2
        try simp only [decide_eq_true_eq, decide_eq_false_iff_not, Bool.not_eq_true', Bool.not_eq_false', Bool.not_true, Bool.not_false, Bool.not_eq_eq_eq_not, Int.not_lt, Int.not_le] at c2
        refine w_R ?_
        refine r_op tabOk hnt rfl (s_move rfl ?_) 
        refine r_op tabOk hnt rfl (s_move rfl ?_) 
        refine r_op tabOk hnt rfl (s_quoN (a := i) (b := 8) rfl rfl (by omega) (by omega) (by omega) ?_) 
        refine r_op tabOk hnt rfl (s_iaR0 (q := i / 8) (f := enc8) (l := os) tab_27 rfl tab_5 rfl rfl (by omega) rfl rfl (by omega) ?_) 
        obtain ⟨e2, he2⟩ := get_of_lt os (i := i / 8) (by omega)
        refine r_op tabOk hnt rfl (s_ldM (b := e2) (f := enc8) tab_5 rfl rfl rfl rfl he2 rfl ?_) 
        refine r_op tabOk hnt rfl (s_move rfl ?_) 
        refine r_op tabOk hnt rfl (s_remN (a := i) (b := 8) rfl rfl (by omega) (by omega) (by omega) ?_) 
        refine r_op tabOk hnt rfl (s_cvK tab_3 tab_28 rfl rfl rfl rfl (by exact ⟨by omega, by show _ < (18446744073709551616 : Int); omega⟩) ?_) 
        refine r_op tabOk hnt rfl (s_shl8 (a := 1) (i % 8) rfl rfl (by first | rfl | omega) (by first | decide | omega) ?_) 
        refine r_op tabOk hnt rfl (s_or8 (a := e2) (b := 1 <<< UInt8.ofNat (i % 8)) rfl rfl ?_) 
        refine r_op tabOk hnt rfl (s_iaR0 (q := i / 8) (f := enc8) (l := os) tab_27 rfl tab_5 rfl rfl (by omega) rfl rfl (by omega) ?_) 
        refine r_op tabOk hnt rfl (s_stM (y0 := e2) (z := e2 ||| (1 <<< UInt8.ofNat (i % 8))) (f := enc8) tab_5 rfl rfl rfl rfl rfl he2 (Nat.le_of_ble_eq_true rfl) rfl rfl (by simp) rfl ?_) 
        refine r_set [(3, PV.ref 0 0 none), (11, pS 1 cl_l encBo l), (12, pN l.length), (13, pN i)] [(0, oB true 1 enc8 (os.set (i / 8) (e2 ||| (1 <<< UInt8.ofNat (i % 8)))))] 1 ⟨rfl, rfl, rfl, rfl, trivial⟩ rfl rfl ?_
        refine r_end ?_
        refine q_block ?_
        refine q_then ?_
        refine w_R ?_
        refine r_op tabOk hnt rfl (s_addN (a := i) (b := 1) rfl rfl (by omega) (by omega) (by omega) ?_) 
        refine r_op tabOk hnt rfl (s_move rfl ?_) 
        refine r_end ?_
        refine q_then ?_
        refine ⟨(os.set (i / 8) (e2 ||| (1 <<< UInt8.ofNat (i % 8)))), (i + 1), ?_, ?_, ⟨[(0, 0)], by rw [hk]; decide, ⟨⟨_, rfl, rfl, rfl⟩, ⟨_, rfl, rfl, rfl⟩, ⟨_, rfl, rfl, rfl⟩, ⟨_, rfl, rfl, rfl⟩, trivial⟩, ⟨⟨_, _, rfl, rfl, rfl, rfl⟩, trivial⟩, by rw [hk]; decide⟩⟩
        ·
          refine ⟨by omega, ?_⟩
          first | (rw [packT_no (by rw [he1, c2]), ho]; done) | (subst ho; exact packT_yes (by rw [he1, c2]) he2)
        · omega
      ·
        have c2_ := c2
        try simp only [decide_eq_true_eq, decide_eq_false_iff_not, Bool.not_eq_true', Bool.not_eq_false', Bool.not_true, Bool.not_false, Bool.not_eq_eq_eq_not, Int.not_lt, Int.not_le] at c2
        refine w_skip ?_
        refine q_block ?_
        refine q_then ?_
        refine w_R ?_
        refine r_op tabOk hnt rfl (s_addN (a := i) (b := 1) rfl rfl (by omega) (by omega) (by omega) ?_) 
        refine r_op tabOk hnt rfl (s_move rfl ?_) 
        refine r_end ?_
        refine q_then ?_
        refine ⟨(os), (i + 1), ?_, ?_, ⟨[(0, 0)], by rw [hk]; decide, ⟨⟨_, rfl, rfl, rfl⟩, ⟨_, rfl, rfl, rfl⟩, ⟨_, rfl, rfl, rfl⟩, ⟨_, rfl, rfl, rfl⟩, trivial⟩, ⟨⟨_, _, rfl, rfl, rfl, rfl⟩, trivial⟩, by rw [hk]; decide⟩⟩
        ·
          refine ⟨by omega, ?_⟩
          first | (rw [packT_no (by rw [he1, c2]), ho]; done) | (subst ho; exact packT_yes (by rw [he1, c2]) he2)
        · omega
    ·
      have c1_ := c1
      try simp only [decide_eq_true_eq, decide_eq_false_iff_not, Bool.not_eq_true', Bool.not_eq_false', Bool.not_true, Bool.not_false, Bool.not_eq_eq_eq_not, Int.not_lt, Int.not_le] at c1
      refine w_exit ?_
      refine q_then_exit ?_
      refine q_then_exit ?_
      refine q_block_exit ?_
      refine q_then ?_
      refine w_seq ?_
      refine w_R ?_
      refine r_op tabOk hnt rfl (s_move rfl ?_) 
      refine r_op tabOk hnt rfl (s_assign rfl ?_) 
      refine r_end ?_
      refine q_then ?_
      refine w_H (H' := [(0, oB true 1 enc8 (packL l))]) (congrArg (fun z => ([(0, oB true 1 enc8 z)] : Heap)) (show os = packL l by rw [ho, show i = l.length by omega, packT_end])) ?_
      refine w_ret ?_
      exact fin_names (nx1 := 1) (H1 := [(0, oB true 1 enc8 (packL l))]) [(0, 0)] (ret_tmp rfl ret_nil) rfl (by decide) ⟨⟨_, _, rfl, rfl, rfl, rfl⟩, trivial⟩ (by decide) rfl ⟨rfl, rfl, rfl⟩

theorem w_octet_Bytes (l : List UInt16) (cl_l : Bool) (hl : l.length * 2 ≤ 140737488351232) :
    T Try.prog 35 [pS 1 cl_l enc16 l] 0 [] (Ret (PV.ref 0 0 none) 1 [(0, oB true 1 enc8 (bytesL l))]) := by
  refine t_fun tabOk (n := 26) (rs := [.tmp 2]) Try.func35 rfl rfl rfl rfl (Nat.le_of_ble_eq_true rfl) ?_
  intro c hnt hk
  refine w_seq ?_
  refine w_R ?_
  refine r_op tabOk hnt rfl (s_assign rfl ?_) 
  refine r_end ?_
  refine q_then ?_
  refine w_seq ?_
  refine w_R ?_
  refine r_op tabOk hnt rfl (s_move rfl ?_) 
  refine r_op tabOk hnt rfl (s_lenM (l := l) tab_45 rfl (hM_sl (f := enc16) rfl) ?_) 
  refine r_op tabOk hnt rfl (s_mulN (a := 2) (b := l.length) rfl rfl (by omega) (by omega) (by omega) ?_) 
  refine r_op tabOk hnt rfl (s_makeM (f := enc8) (bt := 1) tab_one (0 : UInt8) 0 (fun j hj => by cases hj; rfl) tab_27 rfl tab_5 ⟨rfl, by decide⟩ rfl rfl rfl (by omega) (by refine ⟨?_, ?_, ?_⟩ <;> omega) ?_) 
  refine r_op tabOk hnt rfl (s_assign rfl ?_) 
  refine r_set [(0, pS 1 cl_l enc16 l), (3, PV.ref 0 0 none)] [(0, oB true 1 enc8 (List.replicate 0 (0 : UInt8)))] 1 ⟨rfl, rfl, trivial⟩ rfl rfl ?_
  refine r_end ?_
  refine q_then ?_
  refine w_seq ?_
  refine w_seq ?_
  refine w_R ?_
  refine r_op tabOk hnt rfl (s_move rfl ?_) 
  refine r_op tabOk hnt rfl (s_lenM (l := l) tab_45 rfl (hM_sl (f := enc16) rfl) ?_) 
  refine r_op tabOk hnt rfl (s_move rfl ?_) 
  refine r_end ?_
  refine q_then ?_
  refine w_block ?_
  refine loop2 (fun (os : List UInt8) (i : Nat) => i ≤ l.length ∧ os = bytesL (l.take i)) (fun (os : List UInt8) (i : Nat) => [(3, PV.ref 0 0 none), (10, pS 1 cl_l enc16 l), (11, pN l.length), (12, pN i)]) 1 (fun (os : List UInt8) (i : Nat) => [(0, oB true 1 enc8 os)]) (fun (os : List UInt8) (i : Nat) => l.length - i) (List.replicate 0 (0 : UInt8)) (0) ?_ ⟨[(0, 0)], by rw [hk]; decide, ⟨⟨_, rfl, rfl, rfl⟩, ⟨_, rfl, rfl, rfl⟩, ⟨_, rfl, rfl, rfl⟩, ⟨_, rfl, rfl, rfl⟩, trivial⟩, ⟨⟨_, _, rfl, rfl, rfl, rfl⟩, trivial⟩, by rw [hk]; decide⟩ ?_
  · exact ⟨Nat.zero_le _, rfl⟩
  ·
    intro os i hI
    obtain ⟨hi, ho⟩ := hI
    have hol : os.length = 2 * i := by rw [ho, bytesL_length, List.length_take]; omega
    refine w_seq ?_
    refine w_R ?_
    refine r_op tabOk hnt rfl (s_lss rfl rfl ?_) 
    refine r_end ?_
    refine q_then ?_
    refine w_seq ?_
    refine w_if rfl (fun c1 => ?_) (fun c1 => ?_)
    ·
      have c1_ := c1
      try simp only [decide_eq_true_eq, decide_eq_false_iff_not, Bool.not_eq_true', Bool.not_eq_false', Bool.not_true, Bool.not_false, Bool.not_eq_eq_eq_not, Int.not_lt, Int.not_le] at c1
      refine w_skip ?_
      refine q_then ?_
      refine w_seq ?_
      refine w_block ?_
      refine w_seq ?_
      refine w_R ?_
      obtain ⟨e1, he1⟩ := get_of_lt l (i := i) (by omega)
      refine r_op tabOk hnt rfl (s_iaM (q := i) (b := e1) (f := enc16) tab_45 rfl tab_47 rfl rfl (by omega) rfl he1 ?_) 
      refine r_op tabOk hnt rfl (s_load_ro1 tab_47 rfl rfl rfl rfl ?_) 
      refine r_op tabOk hnt rfl (s_assign rfl ?_) 
      refine r_end ?_
      refine q_then ?_
      refine w_R ?_
      refine r_op tabOk hnt rfl (s_move rfl ?_) 
      refine r_op tabOk hnt rfl (s_move rfl ?_) 
      refine r_op tabOk hnt rfl (s_shr16 (a := e1) 8 rfl rfl (by first | decide | omega) ?_) 
      refine r_op tabOk hnt rfl (s_conv168 (a := e1 >>> UInt16.ofNat 8) tab_47 tab_5 rfl rfl rfl ?_) 
      refine r_op tabOk hnt rfl (s_move rfl ?_) 
      refine r_op tabOk hnt rfl (s_conv168 (a := e1) tab_47 tab_5 rfl rfl rfl ?_) 
      refine r_op tabOk hnt rfl (s_mkM (f := enc8) [(e1 >>> UInt16.ofNat 8).toUInt8, e1.toUInt8] tab_27 rfl tab_5 ⟨rfl, by decide⟩ (by decide) rfl rfl rfl rfl ?_) 
      refine r_op tabOk hnt rfl (s_appR0 (f := enc8) (l := os) (xs := [(e1 >>> UInt16.ofNat 8).toUInt8, e1.toUInt8]) tab_27 rfl tab_5 ⟨rfl, by decide, by decide⟩ (srcM tab_27 rfl (hM_ref0 (f := enc8) rfl rfl)) rfl rfl (by first | omega | (simp; omega)) ?_) 
      refine r_op tabOk hnt rfl (s_assign rfl ?_) 
      refine r_set [(3, PV.ref 2 0 none), (10, pS 1 cl_l enc16 l), (11, pN l.length), (12, pN i)] [(2, oB true 1 enc8 (os ++ [(e1 >>> UInt16.ofNat 8).toUInt8, e1.toUInt8])), (1, oB true 1 enc8 [(e1 >>> UInt16.ofNat 8).toUInt8, e1.toUInt8])] 3 ⟨rfl, rfl, rfl, rfl, trivial⟩ rfl rfl ?_
      refine r_end ?_
      refine q_block ?_
      refine q_then ?_
      refine w_R ?_
      refine r_op tabOk hnt rfl (s_addN (a := i) (b := 1) rfl rfl (by omega) (by omega) (by omega) ?_) 
      refine r_op tabOk hnt rfl (s_move rfl ?_) 
      refine r_end ?_
      refine q_then ?_
      refine ⟨(os ++ [(e1 >>> UInt16.ofNat 8).toUInt8, e1.toUInt8]), (i + 1), ?_, ?_, ⟨[(0, 2)], by rw [hk]; decide, ⟨⟨_, rfl, rfl, rfl⟩, ⟨_, rfl, rfl, rfl⟩, ⟨_, rfl, rfl, rfl⟩, ⟨_, rfl, rfl, rfl⟩, trivial⟩, ⟨⟨_, _, rfl, rfl, rfl, rfl⟩, trivial⟩, by rw [hk]; decide⟩⟩
      ·
        exact ⟨by omega, by rw [bytesL_take he1, ho]⟩
      · omega
    ·
      have c1_ := c1
      try simp only [decide_eq_true_eq, decide_eq_false_iff_not, Bool.not_eq_true', Bool.not_eq_false', Bool.not_true, Bool.not_false, Bool.not_eq_eq_eq_not, Int.not_lt, Int.not_le] at c1
      refine w_exit ?_
      refine q_then_exit ?_
      refine q_then_exit ?_
      refine q_block_exit ?_
      refine q_then ?_
      refine w_seq ?_
      refine w_R ?_
      refine r_op tabOk hnt rfl (s_move rfl ?_) 
      refine r_op tabOk hnt rfl (s_assign rfl ?_) 
      refine r_end ?_
      refine q_then ?_
      refine w_H (H' := [(0, oB true 1 enc8 (bytesL l))]) (congrArg (fun z => ([(0, oB true 1 enc8 z)] : Heap)) (show os = bytesL l by rw [ho, List.take_of_length_le (by omega)])) ?_
      refine w_ret ?_
      exact fin_names (nx1 := 1) (H1 := [(0, oB true 1 enc8 (bytesL l))]) [(0, 0)] (ret_tmp rfl ret_nil) rfl (by decide) ⟨⟨_, _, rfl, rfl, rfl, rfl⟩, trivial⟩ (by decide) rfl ⟨rfl, rfl, rfl⟩

theorem w_burgageref1_Bytes (l : List UInt16) (cl_l : Bool) (hl : l.length * 2 ≤ 140737488351232) :
    T Try.prog 58 [pS 1 cl_l enc16 l] 0 [] (Ret (PV.ref 0 0 none) 1 [(0, oB true 1 enc8 (bytesL l))]) := by
  refine t_fun tabOk (n := 22) (rs := [.tmp 2]) Try.func58 rfl rfl rfl rfl (Nat.le_of_ble_eq_true rfl) ?_
  intro c hnt hk
  refine w_seq ?_
  refine w_R ?_
  refine r_op tabOk hnt rfl (s_assign rfl ?_) 
  refine r_end ?_
  refine q_then ?_
  refine w_seq ?_
  refine w_R ?_
  refine r_op tabOk hnt rfl (s_assign rfl ?_) 
  refine r_end ?_
  refine q_then ?_
  refine w_seq ?_
  refine w_seq ?_
  refine w_R ?_
  refine r_op tabOk hnt rfl (s_move rfl ?_) 
  refine r_op tabOk hnt rfl (s_lenM (l := l) tab_45 rfl (hM_sl (f := enc16) rfl) ?_) 
  refine r_op tabOk hnt rfl (s_move rfl ?_) 
  refine r_end ?_
  refine q_then ?_
  refine w_block ?_
  refine w_adopt (s := 3) (sz := 1) rfl ?_
  refine loop2 (fun (os : List UInt8) (i : Nat) => i ≤ l.length ∧ os = bytesL (l.take i)) (fun (os : List UInt8) (i : Nat) => [(3, PV.ref 0 0 none), (6, pS 1 cl_l enc16 l), (7, pN l.length), (8, pN i)]) 1 (fun (os : List UInt8) (i : Nat) => [(0, oB true 1 enc8 os)]) (fun (os : List UInt8) (i : Nat) => l.length - i) (([] : List UInt8)) (0) ?_ ⟨[(0, 0)], by rw [hk]; decide, ⟨⟨_, rfl, rfl, rfl⟩, ⟨_, rfl, rfl, rfl⟩, ⟨_, rfl, rfl, rfl⟩, ⟨_, rfl, rfl, rfl⟩, trivial⟩, ⟨⟨_, _, rfl, rfl, rfl, rfl⟩, trivial⟩, by rw [hk]; decide⟩ ?_
  · exact ⟨Nat.zero_le _, rfl⟩
  ·
    intro os i hI
    obtain ⟨hi, ho⟩ := hI
    have hol : os.length = 2 * i := by rw [ho, bytesL_length, List.length_take]; omega
    refine w_seq ?_
    refine w_R ?_
    refine r_op tabOk hnt rfl (s_lss rfl rfl ?_) 
    refine r_end ?_
    refine q_then ?_
    refine w_seq ?_
    refine w_if rfl (fun c1 => ?_) (fun c1 => ?_)
    ·
      have c1_ := c1
      try simp only [decide_eq_true_eq, decide_eq_false_iff_not, Bool.not_eq_true', Bool.not_eq_false', Bool.not_true, Bool.not_false, Bool.not_eq_eq_eq_not, Int.not_lt, Int.not_le] at c1
      refine w_skip ?_
      refine q_then ?_
      refine w_seq ?_
      refine w_block ?_
      refine w_seq ?_
      refine w_R ?_
      obtain ⟨e1, he1⟩ := get_of_lt l (i := i) (by omega)
      refine r_op tabOk hnt rfl (s_iaM (q := i) (b := e1) (f := enc16) tab_45 rfl tab_47 rfl rfl (by omega) rfl he1 ?_) 
      refine r_op tabOk hnt rfl (s_load_ro1 tab_47 rfl rfl rfl rfl ?_) 
      refine r_op tabOk hnt rfl (s_assign rfl ?_) 
      refine r_end ?_
      refine q_then ?_
      refine w_R ?_
      refine r_op tabOk hnt rfl (s_move rfl ?_) 
      refine r_op tabOk hnt rfl (s_move rfl ?_) 
      refine r_op tabOk hnt rfl (s_shr16 (a := e1) 8 rfl rfl (by first | decide | omega) ?_) 
      refine r_op tabOk hnt rfl (s_conv168 (a := e1 >>> UInt16.ofNat 8) tab_47 tab_5 rfl rfl rfl ?_) 
      refine r_op tabOk hnt rfl (s_move rfl ?_) 
      refine r_op tabOk hnt rfl (s_conv168 (a := e1) tab_47 tab_5 rfl rfl rfl ?_) 
      refine r_op tabOk hnt rfl (s_mkM (f := enc8) [(e1 >>> UInt16.ofNat 8).toUInt8, e1.toUInt8] tab_27 rfl tab_5 ⟨rfl, by decide⟩ (by decide) rfl rfl rfl rfl ?_) 
      refine r_op tabOk hnt rfl (s_appR0 (f := enc8) (l := os) (xs := [(e1 >>> UInt16.ofNat 8).toUInt8, e1.toUInt8]) tab_27 rfl tab_5 ⟨rfl, by decide, by decide⟩ (srcM tab_27 rfl (hM_ref0 (f := enc8) rfl rfl)) rfl rfl (by first | omega | (simp; omega)) ?_) 
      refine r_op tabOk hnt rfl (s_assign rfl ?_) 
      refine r_set [(3, PV.ref 2 0 none), (6, pS 1 cl_l enc16 l), (7, pN l.length), (8, pN i)] [(2, oB true 1 enc8 (os ++ [(e1 >>> UInt16.ofNat 8).toUInt8, e1.toUInt8])), (1, oB true 1 enc8 [(e1 >>> UInt16.ofNat 8).toUInt8, e1.toUInt8])] 3 ⟨rfl, rfl, rfl, rfl, trivial⟩ rfl rfl ?_
      refine r_end ?_
      refine q_block ?_
      refine q_then ?_
      refine w_R ?_
      refine r_op tabOk hnt rfl (s_addN (a := i) (b := 1) rfl rfl (by omega) (by omega) (by omega) ?_) 
      refine r_op tabOk hnt rfl (s_move rfl ?_) 
      refine r_end ?_
      refine q_then ?_
      refine ⟨(os ++ [(e1 >>> UInt16.ofNat 8).toUInt8, e1.toUInt8]), (i + 1), ?_, ?_, ⟨[(0, 2)], by rw [hk]; decide, ⟨⟨_, rfl, rfl, rfl⟩, ⟨_, rfl, rfl, rfl⟩, ⟨_, rfl, rfl, rfl⟩, ⟨_, rfl, rfl, rfl⟩, trivial⟩, ⟨⟨_, _, rfl, rfl, rfl, rfl⟩, trivial⟩, by rw [hk]; decide⟩⟩
      ·
        exact ⟨by omega, by rw [bytesL_take he1, ho]⟩
      · omega
    ·
      have c1_ := c1
      try simp only [decide_eq_true_eq, decide_eq_false_iff_not, Bool.not_eq_true', Bool.not_eq_false', Bool.not_true, Bool.not_false, Bool.not_eq_eq_eq_not, Int.not_lt, Int.not_le] at c1
      refine w_exit ?_
      refine q_then_exit ?_
      refine q_then_exit ?_
      refine q_block_exit ?_
      refine q_then ?_
      refine w_seq ?_
      refine w_R ?_
      refine r_op tabOk hnt rfl (s_move rfl ?_) 
      refine r_op tabOk hnt rfl (s_assign rfl ?_) 
      refine r_end ?_
      refine q_then ?_
      refine w_H (H' := [(0, oB true 1 enc8 (bytesL l))]) (congrArg (fun z => ([(0, oB true 1 enc8 z)] : Heap)) (show os = bytesL l by rw [ho, List.take_of_length_le (by omega)])) ?_
      refine w_ret ?_
      exact fin_names (nx1 := 1) (H1 := [(0, oB true 1 enc8 (bytesL l))]) [(0, 0)] (ret_tmp rfl ret_nil) rfl (by decide) ⟨⟨_, _, rfl, rfl, rfl, rfl⟩, trivial⟩ (by decide) rfl ⟨rfl, rfl, rfl⟩

theorem w_octet_Words (b : List UInt8) (cl_b : Bool) (hb : b.length ≤ 140737488351232) :
    T Try.prog 34 [pS 1 cl_b enc8 b] 0 [] (Ret (PV.tup [pS 1 false enc16 (wordsV b), pB (wordsOk b)]) 0 []) := by
  refine t_fun tabOk (n := 34) (rs := [.tmp 2, .tmp 3]) Try.func34 rfl rfl rfl rfl (Nat.le_of_ble_eq_true rfl) ?_
  intro c hnt hk
  refine w_seq ?_
  refine w_R ?_
  refine r_op tabOk hnt rfl (s_assign rfl ?_) 
  refine r_op tabOk hnt rfl (s_assign rfl ?_) 
  refine r_end ?_
  refine q_then ?_
  refine w_seq ?_
  refine w_seq ?_
  refine w_R ?_
  refine r_op tabOk hnt rfl (s_move rfl ?_) 
  refine r_op tabOk hnt rfl (s_lenM (l := b) tab_27 rfl (hM_sl (f := enc8) rfl) ?_) 
  refine r_op tabOk hnt rfl (s_remN (a := b.length) (b := 2) rfl rfl (by omega) (by omega) (by omega) ?_) 
  refine r_op tabOk hnt rfl (s_neq rfl rfl ?_) 
  refine r_end ?_
  refine q_then ?_
  refine w_if rfl (fun c1 => ?_) (fun c1 => ?_)
  ·
    have c1_ := c1
    try simp only [decide_eq_true_eq, decide_eq_false_iff_not, Bool.not_eq_true', Bool.not_eq_false', Bool.not_true, Bool.not_false, Bool.not_eq_eq_eq_not, Int.not_lt, Int.not_le] at c1
    have eo : wordsOk b = false := by unfold wordsOk; apply decide_eq_false; omega
    refine w_seq ?_
    refine w_R ?_
    refine r_op tabOk hnt rfl (s_assign rfl ?_) 
    refine r_op tabOk hnt rfl (s_assign rfl ?_) 
    refine r_end ?_
    refine q_then ?_
    refine w_le (s := 2) (y := pS 1 false enc16 []) rfl (le_nilS 1 false) ?_
    refine w_le (s := 2) (y := pS 1 false enc16 (wordsV b)) rfl (le_of_eq (congrArg (fun z => pS 1 false enc16 z) (show [] = (wordsV b) by first | exact eo.symm | (simp [wordsV, eo]; done) | (rw [wordsV, if_pos eo, ho, List.take_of_length_le (by omega)])))) ?_
    refine w_le (s := 3) (y := pB (wordsOk b)) rfl (le_of_eq (congrArg (fun z : Bool => pB z) (show false = (wordsOk b) by first | exact eo.symm | (simp [wordsV, eo]; done) | (rw [wordsV, if_pos eo, ho, List.take_of_length_le (by omega)])))) ?_
    refine w_ret ?_
    refine q_then_ret ?_
    exact fin_plain (ret_tmp rfl (ret_tmp rfl ret_nil)) rfl rfl ⟨rfl, rfl, rfl⟩
  ·
    have c1_ := c1
    try simp only [decide_eq_true_eq, decide_eq_false_iff_not, Bool.not_eq_true', Bool.not_eq_false', Bool.not_true, Bool.not_false, Bool.not_eq_eq_eq_not, Int.not_lt, Int.not_le] at c1
    have hev : b.length % 2 = 0 := by omega
    have eo : wordsOk b = true := by unfold wordsOk; exact decide_eq_true hev
    refine w_skip ?_
    refine q_then ?_
    refine w_seq ?_
    refine w_R ?_
    refine r_op tabOk hnt rfl (s_move rfl ?_) 
    refine r_op tabOk hnt rfl (s_lenM (l := b) tab_27 rfl (hM_sl (f := enc8) rfl) ?_) 
    refine r_op tabOk hnt rfl (s_quoN (a := b.length) (b := 2) rfl rfl (by omega) (by omega) (by omega) ?_) 
    refine r_op tabOk hnt rfl (s_makeM (f := enc16) (bt := 2) tab_one (0 : UInt16) 0 (fun j hj => by cases hj; rfl) tab_45 rfl tab_47 ⟨rfl, by decide⟩ rfl rfl rfl (by omega) (by refine ⟨?_, ?_, ?_⟩ <;> omega) ?_) 
    refine r_op tabOk hnt rfl (s_assign rfl ?_) 
    refine r_set [(0, pS 1 cl_b enc8 b), (4, PV.ref 0 0 none)] [(0, oB true 1 enc16 (List.replicate 0 (0 : UInt16)))] 1 ⟨rfl, rfl, trivial⟩ rfl rfl ?_
    refine r_end ?_
    refine q_then ?_
    refine w_seq ?_
    refine w_seq ?_
    refine w_R ?_
    refine r_op tabOk hnt rfl (s_assign rfl ?_) 
    refine r_end ?_
    refine q_then ?_
    refine w_block ?_
    refine loop2 (fun (os : List UInt16) (i : Nat) => i ≤ b.length ∧ i % 2 = 0 ∧ os = wordsL (b.take i)) (fun (os : List UInt16) (i : Nat) => [(0, pS 1 cl_b enc8 b), (4, PV.ref 0 0 none), (5, pN i)]) 1 (fun (os : List UInt16) (i : Nat) => [(0, oB true 1 enc16 os)]) (fun (os : List UInt16) (i : Nat) => b.length - i) (List.replicate 0 (0 : UInt16)) (0) ?_ ⟨[(0, 0)], by rw [hk]; decide, ⟨⟨_, rfl, rfl, rfl⟩, ⟨_, rfl, rfl, rfl⟩, ⟨_, rfl, rfl, rfl⟩, trivial⟩, ⟨⟨_, _, rfl, rfl, rfl, rfl⟩, trivial⟩, by rw [hk]; decide⟩ ?_
    · exact ⟨Nat.zero_le _, rfl, rfl⟩
    ·
      intro os i hI
      obtain ⟨hi, hi2, ho⟩ := hI
      have hol : os.length = i / 2 := by rw [ho, wordsL_length, List.length_take]; omega
      refine w_seq ?_
      refine w_seq ?_
      refine w_R ?_
      refine r_op tabOk hnt rfl (s_move rfl ?_) 
      refine r_op tabOk hnt rfl (s_move rfl ?_) 
      refine r_op tabOk hnt rfl (s_lenM (l := b) tab_27 rfl (hM_sl (f := enc8) rfl) ?_) 
      refine r_op tabOk hnt rfl (s_lss rfl rfl ?_) 
      refine r_end ?_
      refine q_then ?_
      refine w_if rfl (fun c2 => ?_) (fun c2 => ?_)
      ·
        have c2_ := c2
        try simp only [decide_eq_true_eq, decide_eq_false_iff_not, Bool.not_eq_true', Bool.not_eq_false', Bool.not_true, Bool.not_false, Bool.not_eq_eq_eq_not, Int.not_lt, Int.not_le] at c2
        refine w_skip ?_
        refine q_then ?_
        refine w_seq ?_
        refine w_block ?_
        refine w_seq ?_
        refine w_R ?_
        refine r_op tabOk hnt rfl (s_move rfl ?_) 
        refine r_op tabOk hnt rfl (s_move rfl ?_) 
        refine r_op tabOk hnt rfl (s_callF rfl rfl rfl (w_octet_Get b cl_b ((i : Nat) : Int) (by first | omega | assumption | (simp; omega) | decide | (simp; done)) (by first | omega | assumption | (simp; omega) | decide | (simp; done))) rfl ?_) 
        refine r_op tabOk hnt rfl (s_move rfl ?_) 
        refine r_op tabOk hnt rfl (s_extract rfl rfl ?_) 
        refine r_op tabOk hnt rfl (s_extract rfl rfl ?_) 
        refine r_op tabOk hnt rfl (s_assign rfl ?_) 
        refine r_op tabOk hnt rfl (s_assign rfl ?_) 
        refine r_end ?_
        refine q_then ?_
        have hgo : getOk b (i : Int) = true := by unfold getOk; apply decide_eq_true; omega
        have hgv0 : getV b (i : Int) = (getN b i : Int) := by rw [getV, if_pos hgo, Int.toNat_natCast]
        refine w_eq (s := 6) (y := pN (getN b i)) rfl (congrArg (fun z : Int => pI z) (show (getV b ((i : Nat) : Int)) = ((getN b i : Nat) : Int) by exact hgv0)) ?_
        have hgv : UInt16.ofNat (getN b i) = UInt16.ofNat (getN b i) := rfl
        refine w_R ?_
        refine r_op tabOk hnt rfl (s_move rfl ?_) 
        refine r_op tabOk hnt rfl (s_move rfl ?_) 
        refine r_op tabOk hnt rfl (s_cv16N (a := getN b i) tab_3 tab_47 rfl rfl rfl (by omega) ?_) 
        refine r_op tabOk hnt rfl (s_mkM (f := enc16) [UInt16.ofNat (getN b i)] tab_45 rfl tab_47 ⟨rfl, by decide⟩ (by decide) rfl rfl rfl rfl ?_) 
        refine r_op tabOk hnt rfl (s_appR0 (f := enc16) (l := os) (xs := [UInt16.ofNat (getN b i)]) tab_45 rfl tab_47 ⟨rfl, by decide, by decide⟩ (srcM tab_45 rfl (hM_ref0 (f := enc16) rfl rfl)) rfl rfl (by first | omega | (simp; omega)) ?_) 
        refine r_op tabOk hnt rfl (s_assign rfl ?_) 
        refine r_set [(0, pS 1 cl_b enc8 b), (4, PV.ref 2 0 none), (5, pN i)] [(2, oB true 1 enc16 (os ++ [UInt16.ofNat (getN b i)])), (1, oB true 1 enc16 [UInt16.ofNat (getN b i)])] 3 ⟨rfl, rfl, rfl, trivial⟩ rfl rfl ?_
        refine r_end ?_
        refine q_block ?_
        refine q_then ?_
        refine w_R ?_
        refine r_op tabOk hnt rfl (s_move rfl ?_) 
        refine r_op tabOk hnt rfl (s_addN (a := i) (b := 2) rfl rfl (by omega) (by omega) (by omega) ?_) 
        refine r_op tabOk hnt rfl (s_assign rfl ?_) 
        refine r_end ?_
        refine q_then ?_
        refine ⟨(os ++ [UInt16.ofNat (getN b i)]), (i + 2), ?_, ?_, ⟨[(0, 2)], by rw [hk]; decide, ⟨⟨_, rfl, rfl, rfl⟩, ⟨_, rfl, rfl, rfl⟩, ⟨_, rfl, rfl, rfl⟩, trivial⟩, ⟨⟨_, _, rfl, rfl, rfl, rfl⟩, trivial⟩, by rw [hk]; decide⟩⟩
        ·
          obtain ⟨x, hx⟩ := get_of_lt b (i := i) (by omega)
          obtain ⟨y, hy⟩ := get_of_lt b (i := i + 1) (by omega)
          refine ⟨by omega, by omega, ?_⟩
          rw [wordsL_take hi2 hx hy, ho, ← w16_of, ← getN_of hx hy, hgv]
        · omega
      ·
        have c2_ := c2
        try simp only [decide_eq_true_eq, decide_eq_false_iff_not, Bool.not_eq_true', Bool.not_eq_false', Bool.not_true, Bool.not_false, Bool.not_eq_eq_eq_not, Int.not_lt, Int.not_le] at c2
        refine w_exit ?_
        refine q_then_exit ?_
        refine q_then_exit ?_
        refine q_block_exit ?_
        refine q_then ?_
        refine w_seq ?_
        refine w_R ?_
        refine r_op tabOk hnt rfl (s_move rfl ?_) 
        refine r_op tabOk hnt rfl (s_assign rfl ?_) 
        refine r_op tabOk hnt rfl (s_assign rfl ?_) 
        refine r_end ?_
        refine q_then ?_
        refine w_frzM (s := 2) (f := enc16) rfl rfl view_0 ?_
        refine w_le (s := 2) (y := pS 1 false enc16 (wordsV b)) rfl (le_of_eq (congrArg (fun z => pS 1 false enc16 z) (show os = (wordsV b) by first | exact eo.symm | (simp [wordsV, eo]; done) | (rw [wordsV, if_pos eo, ho, List.take_of_length_le (by omega)])))) ?_
        refine w_le (s := 3) (y := pB (wordsOk b)) rfl (le_of_eq (congrArg (fun z : Bool => pB z) (show true = (wordsOk b) by first | exact eo.symm | (simp [wordsV, eo]; done) | (rw [wordsV, if_pos eo, ho, List.take_of_length_le (by omega)])))) ?_
        refine w_ret ?_
        exact fin_plain (ret_tmp rfl (ret_tmp rfl ret_nil)) rfl rfl ⟨rfl, rfl, rfl⟩

theorem w_burgageref1_Words (b : List UInt8) (cl_b : Bool) (hb : b.length ≤ 140737488351232) :
    T Try.prog 57 [pS 1 cl_b enc8 b] 0 [] (Ret (PV.tup [pS 1 false enc16 (wordsV b), pB (wordsOk b)]) 0 []) := by
  refine t_fun tabOk (n := 33) (rs := [.tmp 2, .tmp 3]) Try.func57 rfl rfl rfl rfl (Nat.le_of_ble_eq_true rfl) ?_
  intro c hnt hk
  refine w_seq ?_
  refine w_R ?_
  refine r_op tabOk hnt rfl (s_assign rfl ?_) 
  refine r_op tabOk hnt rfl (s_assign rfl ?_) 
  refine r_end ?_
  refine q_then ?_
  refine w_seq ?_
  refine w_seq ?_
  refine w_R ?_
  refine r_op tabOk hnt rfl (s_move rfl ?_) 
  refine r_op tabOk hnt rfl (s_lenM (l := b) tab_27 rfl (hM_sl (f := enc8) rfl) ?_) 
  refine r_op tabOk hnt rfl (s_remN (a := b.length) (b := 2) rfl rfl (by omega) (by omega) (by omega) ?_) 
  refine r_op tabOk hnt rfl (s_neq rfl rfl ?_) 
  refine r_end ?_
  refine q_then ?_
  refine w_if rfl (fun c1 => ?_) (fun c1 => ?_)
  ·
    have c1_ := c1
    try simp only [decide_eq_true_eq, decide_eq_false_iff_not, Bool.not_eq_true', Bool.not_eq_false', Bool.not_true, Bool.not_false, Bool.not_eq_eq_eq_not, Int.not_lt, Int.not_le] at c1
    have eo : wordsOk b = false := by unfold wordsOk; apply decide_eq_false; omega
    refine w_seq ?_
    refine w_R ?_
    refine r_op tabOk hnt rfl (s_assign rfl ?_) 
    refine r_op tabOk hnt rfl (s_assign rfl ?_) 
    refine r_end ?_
    refine q_then ?_
    refine w_le (s := 2) (y := pS 1 false enc16 []) rfl (le_nilS 1 false) ?_
    refine w_le (s := 2) (y := pS 1 false enc16 (wordsV b)) rfl (le_of_eq (congrArg (fun z => pS 1 false enc16 z) (show [] = (wordsV b) by first | exact eo.symm | (simp [wordsV, eo]; done) | (rw [wordsV, if_pos eo, ho, List.take_of_length_le (by omega)])))) ?_
    refine w_le (s := 3) (y := pB (wordsOk b)) rfl (le_of_eq (congrArg (fun z : Bool => pB z) (show false = (wordsOk b) by first | exact eo.symm | (simp [wordsV, eo]; done) | (rw [wordsV, if_pos eo, ho, List.take_of_length_le (by omega)])))) ?_
    refine w_ret ?_
    refine q_then_ret ?_
    exact fin_plain (ret_tmp rfl (ret_tmp rfl ret_nil)) rfl rfl ⟨rfl, rfl, rfl⟩
  ·
    have c1_ := c1
    try simp only [decide_eq_true_eq, decide_eq_false_iff_not, Bool.not_eq_true', Bool.not_eq_false', Bool.not_true, Bool.not_false, Bool.not_eq_eq_eq_not, Int.not_lt, Int.not_le] at c1
    have hev : b.length % 2 = 0 := by omega
    have eo : wordsOk b = true := by unfold wordsOk; exact decide_eq_true hev
    refine w_skip ?_
    refine q_then ?_
    refine w_seq ?_
    refine w_R ?_
    refine r_op tabOk hnt rfl (s_assign rfl ?_) 
    refine r_end ?_
    refine q_then ?_
    refine w_seq ?_
    refine w_seq ?_
    refine w_R ?_
    refine r_op tabOk hnt rfl (s_assign rfl ?_) 
    refine r_end ?_
    refine q_then ?_
    refine w_block ?_
    refine w_adopt (s := 4) (sz := 1) rfl ?_
    refine loop2 (fun (os : List UInt16) (i : Nat) => i ≤ b.length ∧ i % 2 = 0 ∧ os = wordsL (b.take i)) (fun (os : List UInt16) (i : Nat) => [(0, pS 1 cl_b enc8 b), (4, PV.ref 0 0 none), (5, pN i)]) 1 (fun (os : List UInt16) (i : Nat) => [(0, oB true 1 enc16 os)]) (fun (os : List UInt16) (i : Nat) => b.length - i) (([] : List UInt16)) (0) ?_ ⟨[(0, 0)], by rw [hk]; decide, ⟨⟨_, rfl, rfl, rfl⟩, ⟨_, rfl, rfl, rfl⟩, ⟨_, rfl, rfl, rfl⟩, trivial⟩, ⟨⟨_, _, rfl, rfl, rfl, rfl⟩, trivial⟩, by rw [hk]; decide⟩ ?_
    · exact ⟨Nat.zero_le _, rfl, rfl⟩
    ·
      intro os i hI
      obtain ⟨hi, hi2, ho⟩ := hI
      have hol : os.length = i / 2 := by rw [ho, wordsL_length, List.length_take]; omega
      refine w_seq ?_
      refine w_seq ?_
      refine w_R ?_
      refine r_op tabOk hnt rfl (s_move rfl ?_) 
      refine r_op tabOk hnt rfl (s_move rfl ?_) 
      refine r_op tabOk hnt rfl (s_lenM (l := b) tab_27 rfl (hM_sl (f := enc8) rfl) ?_) 
      refine r_op tabOk hnt rfl (s_lss rfl rfl ?_) 
      refine r_end ?_
      refine q_then ?_
      refine w_if rfl (fun c2 => ?_) (fun c2 => ?_)
      ·
        have c2_ := c2
        try simp only [decide_eq_true_eq, decide_eq_false_iff_not, Bool.not_eq_true', Bool.not_eq_false', Bool.not_true, Bool.not_false, Bool.not_eq_eq_eq_not, Int.not_lt, Int.not_le] at c2
        refine w_skip ?_
        refine q_then ?_
        refine w_seq ?_
        refine w_block ?_
        refine W_drawn tabOk mixed hnt [[], [], [], [1, 2], [1, 2, 3], [1, 2, 3, 4], [1, 2, 3, 4, 5], [], [], [8], [7, 8, 9], [7, 8, 9, 10], [7, 8, 9, 10, 11], [1, 2, 3, 4, 5, 6, 7, 8, 9, 10, 11, 12], [1, 2, 3, 4, 5, 6, 7, 8, 9, 10, 11, 12, 13], [0, 1, 2, 3, 4, 5, 6, 7, 8, 9, 10, 11, 12, 13, 14], [0, 1, 2, 3, 4, 5, 6, 7, 8, 9, 10, 11, 12, 13, 14, 15]] (by kernel_rfl) ?_
        refine d_op ?_
        refine x_run0 [(4, PV.ref 0 0 none)] [] rfl rfl rfl rfl (s_move rfl ⟨rfl, rfl, rfl⟩) ?_
        refine d_op ?_
        refine x_run0 [(0, pS 1 cl_b enc8 b)] [] rfl rfl rfl rfl (s_move rfl ⟨rfl, rfl, rfl⟩) ?_
        refine d_op ?_
        refine x_run0 [(5, pN i)] [] rfl rfl rfl rfl (s_move rfl ⟨rfl, rfl, rfl⟩) ?_
        refine d_op ?_
        obtain ⟨e1, he1⟩ := get_of_lt b (i := i) (by omega)
        refine x_run0 [(17, pS 1 cl_b enc8 b), (18, pN i)] [1, 2] rfl rfl rfl rfl (s_iaM (q := i) (b := e1) (f := enc8) tab_27 rfl tab_5 rfl rfl (by omega) rfl he1 ⟨rfl, rfl, rfl⟩) ?_
        refine d_op ?_
        refine x_run0 [(19, PV.f (.ro (enc8 e1)))] [1, 2, 3] rfl rfl rfl rfl (s_load_ro1 tab_5 rfl rfl rfl rfl ⟨rfl, rfl, rfl⟩) ?_
        refine d_op ?_
        refine x_run0 [(20, p8 e1)] [1, 2, 3, 4] rfl rfl rfl rfl (s_conv816 (a := e1) tab_5 tab_47 rfl rfl rfl ⟨rfl, rfl, rfl⟩) ?_
        refine d_op ?_
        refine x_run0 [(21, p16 e1.toUInt16)] [1, 2, 3, 4, 5] rfl rfl rfl rfl (s_shl16 (a := e1.toUInt16) 8 rfl rfl (by first | decide | omega) ⟨rfl, rfl, rfl⟩) ?_
        refine d_op ?_
        refine x_run0 [(0, pS 1 cl_b enc8 b)] [] rfl rfl rfl rfl (s_move rfl ⟨rfl, rfl, rfl⟩) ?_
        refine d_op ?_
        refine x_run0 [(5, pN i)] [] rfl rfl rfl rfl (s_move rfl ⟨rfl, rfl, rfl⟩) ?_
        refine d_op ?_
        refine x_run0 [(24, pN i)] [8] rfl rfl rfl rfl (s_addN (a := i) (b := 1) rfl rfl (by omega) (by omega) (by omega) ⟨rfl, rfl, rfl⟩) ?_
        refine d_op ?_
        obtain ⟨e2, he2⟩ := get_of_lt b (i := i + 1) (by omega)
        refine x_run0 [(23, pS 1 cl_b enc8 b), (25, pN (i + 1))] [7, 8, 9] rfl rfl rfl rfl (s_iaM (q := i + 1) (b := e2) (f := enc8) tab_27 rfl tab_5 rfl rfl (by omega) rfl he2 ⟨rfl, rfl, rfl⟩) ?_
        refine d_op ?_
        refine x_run0 [(26, PV.f (.ro (enc8 e2)))] [7, 8, 9, 10] rfl rfl rfl rfl (s_load_ro1 tab_5 rfl rfl rfl rfl ⟨rfl, rfl, rfl⟩) ?_
        refine d_op ?_
        refine x_run0 [(27, p8 e2)] [7, 8, 9, 10, 11] rfl rfl rfl rfl (s_conv816 (a := e2) tab_5 tab_47 rfl rfl rfl ⟨rfl, rfl, rfl⟩) ?_
        refine d_op ?_
        refine x_run0 [(22, p16 (e1.toUInt16 <<< UInt16.ofNat 8)), (28, p16 e2.toUInt16)] [1, 2, 3, 4, 5, 6, 7, 8, 9, 10, 11, 12] rfl rfl rfl rfl (s_or16 (a := e1.toUInt16 <<< UInt16.ofNat 8) (b := e2.toUInt16) rfl rfl ⟨rfl, rfl, rfl⟩) ?_
        refine d_op ?_
        refine x_run [(29, p16 ((e1.toUInt16 <<< UInt16.ofNat 8) ||| e2.toUInt16))] [1, 2, 3, 4, 5, 6, 7, 8, 9, 10, 11, 12, 13] [] [] [(1, oB true 1 enc16 [(e1.toUInt16 <<< UInt16.ofNat 8) ||| e2.toUInt16])] [(1, oB true 1 enc16 [(e1.toUInt16 <<< UInt16.ofNat 8) ||| e2.toUInt16])] [(1, oB true 1 enc16 [(e1.toUInt16 <<< UInt16.ofNat 8) ||| e2.toUInt16]), (0, oB true 1 enc16 os)] rfl rfl rfl rfl rfl rfl (s_mkM (f := enc16) [(e1.toUInt16 <<< UInt16.ofNat 8) ||| e2.toUInt16] tab_45 rfl tab_47 ⟨rfl, by decide⟩ (by decide) rfl rfl rfl rfl ⟨rfl, rfl, rfl⟩) rfl trivial rfl rfl ?_
        refine d_op ?_
        refine x_run [(16, PV.ref 0 0 none), (30, PV.ref 1 0 none)] [0, 1, 2, 3, 4, 5, 6, 7, 8, 9, 10, 11, 12, 13, 14] [(1, oB true 1 enc16 [(e1.toUInt16 <<< UInt16.ofNat 8) ||| e2.toUInt16])] [(0, oB true 1 enc16 os)] [(2, oB true 1 enc16 (os ++ [(e1.toUInt16 <<< UInt16.ofNat 8) ||| e2.toUInt16])), (1, oB true 1 enc16 [(e1.toUInt16 <<< UInt16.ofNat 8) ||| e2.toUInt16])] [(2, oB true 1 enc16 (os ++ [(e1.toUInt16 <<< UInt16.ofNat 8) ||| e2.toUInt16]))] [(2, oB true 1 enc16 (os ++ [(e1.toUInt16 <<< UInt16.ofNat 8) ||| e2.toUInt16])), (1, oB true 1 enc16 [(e1.toUInt16 <<< UInt16.ofNat 8) ||| e2.toUInt16])] rfl rfl rfl rfl rfl rfl (s_appR0 (f := enc16) (l := os) (xs := [(e1.toUInt16 <<< UInt16.ofNat 8) ||| e2.toUInt16]) tab_45 rfl tab_47 ⟨rfl, by decide, by decide⟩ (srcM tab_45 rfl (hM_ref0 (f := enc16) rfl rfl)) rfl rfl (by first | omega | (simp; omega)) ⟨rfl, rfl, rfl⟩) rfl ⟨rfl, trivial⟩ rfl rfl ?_
        refine d_op ?_
        refine x_run0 [(31, PV.ref 2 0 none)] [0, 1, 2, 3, 4, 5, 6, 7, 8, 9, 10, 11, 12, 13, 14, 15] rfl rfl rfl rfl (s_assign rfl ⟨rfl, rfl, rfl⟩) ?_
        refine d_end ⟨by kernel_rfl, ?_⟩
        refine q_block ?_
        refine q_then ?_
        refine w_R ?_
        refine r_op tabOk hnt rfl (s_move rfl ?_) 
        refine r_op tabOk hnt rfl (s_addN (a := i) (b := 2) rfl rfl (by omega) (by omega) (by omega) ?_) 
        refine r_op tabOk hnt rfl (s_assign rfl ?_) 
        refine r_end ?_
        refine q_then ?_
        refine ⟨(os ++ [(e1.toUInt16 <<< UInt16.ofNat 8) ||| e2.toUInt16]), (i + 2), ?_, ?_, ⟨[(0, 2)], by rw [hk]; decide, ⟨⟨_, rfl, rfl, rfl⟩, ⟨_, rfl, rfl, rfl⟩, ⟨_, rfl, rfl, rfl⟩, trivial⟩, ⟨⟨_, _, rfl, rfl, rfl, rfl⟩, trivial⟩, by rw [hk]; decide⟩⟩
        ·
          refine ⟨by omega, by omega, ?_⟩
          rw [wordsL_take hi2 he1 he2, ho]; rfl
        · omega
      ·
        have c2_ := c2
        try simp only [decide_eq_true_eq, decide_eq_false_iff_not, Bool.not_eq_true', Bool.not_eq_false', Bool.not_true, Bool.not_false, Bool.not_eq_eq_eq_not, Int.not_lt, Int.not_le] at c2
        refine w_exit ?_
        refine q_then_exit ?_
        refine q_then_exit ?_
        refine q_block_exit ?_
        refine q_then ?_
        refine w_seq ?_
        refine w_R ?_
        refine r_op tabOk hnt rfl (s_move rfl ?_) 
        refine r_op tabOk hnt rfl (s_assign rfl ?_) 
        refine r_op tabOk hnt rfl (s_assign rfl ?_) 
        refine r_end ?_
        refine q_then ?_
        refine w_frzM (s := 2) (f := enc16) rfl rfl view_0 ?_
        refine w_le (s := 2) (y := pS 1 false enc16 (wordsV b)) rfl (le_of_eq (congrArg (fun z => pS 1 false enc16 z) (show os = (wordsV b) by first | exact eo.symm | (simp [wordsV, eo]; done) | (rw [wordsV, if_pos eo, ho, List.take_of_length_le (by omega)])))) ?_
        refine w_le (s := 3) (y := pB (wordsOk b)) rfl (le_of_eq (congrArg (fun z : Bool => pB z) (show true = (wordsOk b) by first | exact eo.symm | (simp [wordsV, eo]; done) | (rw [wordsV, if_pos eo, ho, List.take_of_length_le (by omega)])))) ?_
        refine w_ret ?_
        exact fin_plain (ret_tmp rfl (ret_tmp rfl ret_nil)) rfl rfl ⟨rfl, rfl, rfl⟩

theorem w_octet_Open (b : List UInt8) (cl_b : Bool) (n : Int) (hb : b.length ≤ 17592186043904) (hn : n ≤ 9223372036854775807) :
    T Try.prog 32 [pS 1 cl_b enc8 b, pI n] 0 [] (Ret (PV.tup [pS 1 false encBo (bopV b n), pB (bopOk b n)]) 0 []) := by
  refine t_fun tabOk (n := 53) (rs := [.tmp 4, .tmp 5]) Try.func32 rfl rfl rfl rfl (Nat.le_of_ble_eq_true rfl) ?_
  intro c hnt hk
  refine w_seq ?_
  refine w_R ?_
  refine r_op tabOk hnt rfl (s_assign rfl ?_) 
  refine r_op tabOk hnt rfl (s_assign rfl ?_) 
  refine r_end ?_
  refine q_then ?_
  refine w_seq ?_
  refine w_seq ?_
  refine w_R ?_
  refine r_op tabOk hnt rfl (s_move rfl ?_) 
  refine r_op tabOk hnt rfl (s_lss rfl rfl ?_) 
  refine r_op tabOk hnt rfl (s_move rfl ?_) 
  refine r_if tabOk hnt rfl rfl rfl (fun g1 => ?_) (fun g1 => ?_)
  ·
    have g1' := g1
    try simp only [decide_eq_true_eq, decide_eq_false_iff_not, Bool.not_eq_true', Bool.not_eq_false', Bool.not_true, Bool.not_false, Bool.not_eq_eq_eq_not, Int.not_lt, Int.not_le] at g1'
    obtain ⟨kn, hkn⟩ : ∃ kn : Nat, n = (kn : Int) := ⟨n.toNat, by omega⟩
    refine r_eq (s := 1) (y := pN kn) rfl (congrArg (fun z : Int => pI z) (show n = ((kn : Nat) : Int) by exact hkn)) ?_
    refine r_op tabOk hnt rfl (s_move rfl ?_) 
    refine r_if tabOk hnt rfl rfl rfl (fun _ => ?_) (fun e => absurd (e.symm.trans g1) (by decide))
    refine r_op tabOk hnt rfl (s_move rfl ?_) 
    refine r_if tabOk hnt rfl rfl rfl (fun _ => ?_) (fun e => absurd (e.symm.trans g1) (by decide))
    refine r_op tabOk hnt rfl (s_lenM (l := b) tab_27 rfl (hM_sl (f := enc8) rfl) ?_) 
    refine r_if tabOk hnt rfl rfl rfl (fun _ => ?_) (fun e => absurd (e.symm.trans g1) (by decide))
    refine r_op tabOk hnt rfl (s_mulN (a := b.length) (b := 8) rfl rfl (by omega) (by omega) (by omega) ?_) 
    refine r_if tabOk hnt rfl rfl rfl (fun _ => ?_) (fun e => absurd (e.symm.trans g1) (by decide))
    refine r_op tabOk hnt rfl (s_gtr rfl rfl ?_) 
    refine r_op tabOk hnt rfl (s_pick_f rfl g1 rfl ?_) 
    refine r_op tabOk hnt rfl (s_move rfl ?_) 
    refine r_if tabOk hnt rfl rfl rfl (fun g2 => ?_) (fun g2 => ?_)
    ·
      have g2' := g2
      try simp only [decide_eq_true_eq, decide_eq_false_iff_not, Bool.not_eq_true', Bool.not_eq_false', Bool.not_true, Bool.not_false, Bool.not_eq_eq_eq_not, Int.not_lt, Int.not_le] at g2'
      refine r_op tabOk hnt rfl (s_move rfl ?_) 
      refine r_if tabOk hnt rfl rfl rfl (fun _ => ?_) (fun e => absurd (e.symm.trans g2) (by decide))
      refine r_op tabOk hnt rfl (s_addN (a := kn) (b := 8) rfl rfl (by omega) (by omega) (by omega) ?_) 
      refine r_if tabOk hnt rfl rfl rfl (fun _ => ?_) (fun e => absurd (e.symm.trans g2) (by decide))
      refine r_op tabOk hnt rfl (s_subN (a := kn + 8) (b := 1) rfl rfl (by omega) (by omega) (by omega) ?_) 
      refine r_if tabOk hnt rfl rfl rfl (fun _ => ?_) (fun e => absurd (e.symm.trans g2) (by decide))
      refine r_op tabOk hnt rfl (s_quoN (a := kn + 8 - 1) (b := 8) rfl rfl (by omega) (by omega) (by omega) ?_) 
      refine r_if tabOk hnt rfl rfl rfl (fun _ => ?_) (fun e => absurd (e.symm.trans g2) (by decide))
      refine r_op tabOk hnt rfl (s_move rfl ?_) 
      refine r_if tabOk hnt rfl rfl rfl (fun _ => ?_) (fun e => absurd (e.symm.trans g2) (by decide))
      refine r_op tabOk hnt rfl (s_lenM (l := b) tab_27 rfl (hM_sl (f := enc8) rfl) ?_) 
      refine r_if tabOk hnt rfl rfl rfl (fun _ => ?_) (fun e => absurd (e.symm.trans g2) (by decide))
      refine r_op tabOk hnt rfl (s_neq rfl rfl ?_) 
      refine r_op tabOk hnt rfl (s_pick_f rfl g2 rfl ?_) 
      refine r_end ?_
      refine q_then ?_
      refine w_if rfl (fun c1 => ?_) (fun c1 => ?_)
      ·
        have c1_ := c1
        try simp only [decide_eq_true_eq, decide_eq_false_iff_not, Bool.not_eq_true', Bool.not_eq_false', Bool.not_true, Bool.not_false, Bool.not_eq_eq_eq_not, Int.not_lt, Int.not_le] at c1
        have eo : bopOk b n = false := bopOk_no (by omega)
        refine w_seq ?_
        refine w_R ?_
        refine r_op tabOk hnt rfl (s_assign rfl ?_) 
        refine r_op tabOk hnt rfl (s_assign rfl ?_) 
        refine r_end ?_
        refine q_then ?_
        refine w_le (s := 4) (y := pS 1 false encBo []) rfl (le_nilS 1 false) ?_
        refine w_le (s := 4) (y := pS 1 false encBo (bopV b n)) rfl (le_of_eq (congrArg (fun z => pS 1 false encBo z) (show [] = (bopV b n) by first | exact eo.symm | (simp [bopV, eo]; done) | (rw [hkn, bopV_nat (by rw [← hkn]; exact eo), hoe])))) ?_
        refine w_le (s := 5) (y := pB (bopOk b n)) rfl (le_of_eq (congrArg (fun z : Bool => pB z) (show false = (bopOk b n) by first | exact eo.symm | (simp [bopV, eo]; done) | (rw [hkn, bopV_nat (by rw [← hkn]; exact eo), hoe])))) ?_
        refine w_ret ?_
        refine q_then_ret ?_
        exact fin_plain (ret_tmp rfl (ret_tmp rfl ret_nil)) rfl rfl ⟨rfl, rfl, rfl⟩
      ·
        have c1_ := c1
        try simp only [decide_eq_true_eq, decide_eq_false_iff_not, Bool.not_eq_true', Bool.not_eq_false', Bool.not_true, Bool.not_false, Bool.not_eq_eq_eq_not, Int.not_lt, Int.not_le] at c1
        have hlen : (kn + 7) / 8 = b.length := by omega
        have hbd : kn ≤ 8 * b.length := by omega
        refine w_skip ?_
        refine q_then ?_
        refine w_seq ?_
        refine w_R ?_
        refine r_op tabOk hnt rfl (s_move rfl ?_) 
        refine r_op tabOk hnt rfl (s_makeM (f := encBo) (bt := 1) tab_one false kn (fun j hj => by cases hj; rfl) tab_44 rfl tab_4 ⟨rfl, by decide⟩ rfl rfl rfl (by omega) (by refine ⟨?_, ?_, ?_⟩ <;> omega) ?_) 
        refine r_op tabOk hnt rfl (s_assign rfl ?_) 
        refine r_set [(0, pS 1 cl_b enc8 b), (6, PV.ref 0 0 none)] [(0, oB true 1 encBo (List.replicate kn false))] 1 ⟨rfl, rfl, trivial⟩ rfl rfl ?_
        refine r_end ?_
        refine q_then ?_
        refine w_seq ?_
        refine w_seq ?_
        refine w_R ?_
        refine r_op tabOk hnt rfl (s_move rfl ?_) 
        refine r_op tabOk hnt rfl (s_lenM (l := List.replicate kn false) tab_44 rfl (hM_ref0 (f := encBo) rfl rfl) ?_) 
        refine r_op tabOk hnt rfl (s_move rfl ?_) 
        refine r_end ?_
        refine q_then ?_
        refine w_block ?_
        refine loop2 (fun (os : List Bool) (i : Nat) => i ≤ kn ∧ os = openT b kn i) (fun (os : List Bool) (i : Nat) => [(0, pS 1 cl_b enc8 b), (6, PV.ref 0 0 none), (29, pN ((List.replicate kn false).length)), (30, pN i)]) 1 (fun (os : List Bool) (i : Nat) => [(0, oB true 1 encBo os)]) (fun (os : List Bool) (i : Nat) => kn - i) (List.replicate kn false) (0) ?_ ⟨[(0, 0)], by rw [hk]; decide, ⟨⟨_, rfl, rfl, rfl⟩, ⟨_, rfl, rfl, rfl⟩, ⟨_, rfl, rfl, rfl⟩, ⟨_, rfl, rfl, rfl⟩, trivial⟩, ⟨⟨_, _, rfl, rfl, rfl, rfl⟩, trivial⟩, by rw [hk]; decide⟩ ?_
        · exact ⟨Nat.zero_le _, by rw [openT_zero]⟩
        ·
          intro os i hI
          obtain ⟨hi, ho⟩ := hI
          have hol : os.length = kn := by rw [ho, openT_length]
          refine w_seq ?_
          refine w_R ?_
          refine r_op tabOk hnt rfl (s_lss rfl rfl ?_) 
          refine r_end ?_
          refine q_then ?_
          refine w_seq ?_
          refine w_if rfl (fun c2 => ?_) (fun c2 => ?_)
          ·
            have c2_ := c2
            try simp only [decide_eq_true_eq, decide_eq_false_iff_not, Bool.not_eq_true', Bool.not_eq_false', Bool.not_true, Bool.not_false, Bool.not_eq_eq_eq_not, Int.not_lt, Int.not_le] at c2
            rw [List.length_replicate] at c2
            refine w_skip ?_
            refine q_then ?_
            refine w_seq ?_
            refine w_block ?_
            refine w_seq ?_
            refine w_R ?_
            refine r_op tabOk hnt rfl (s_move rfl ?_) 
            refine r_op tabOk hnt rfl (s_assign rfl ?_) 
            refine r_end ?_
            refine q_then ?_
            refine w_R ?_
            refine r_op tabOk hnt rfl (s_move rfl ?_) 
            refine r_op tabOk hnt rfl (s_move rfl ?_) 
            refine r_op tabOk hnt rfl (s_move rfl ?_) 
            refine r_op tabOk hnt rfl (s_move rfl ?_) 
            refine r_op tabOk hnt rfl (s_quoN (a := i) (b := 8) rfl rfl (by omega) (by omega) (by omega) ?_) 
            obtain ⟨e1, he1⟩ := get_of_lt b (i := i / 8) (by omega)
            refine r_op tabOk hnt rfl (s_iaM (q := i / 8) (b := e1) (f := enc8) tab_27 rfl tab_5 rfl rfl (by omega) rfl he1 ?_) 
            refine r_op tabOk hnt rfl (s_load_ro1 tab_5 rfl rfl rfl rfl ?_) 
            refine r_op tabOk hnt rfl (s_move rfl ?_) 
            refine r_op tabOk hnt rfl (s_remN (a := i) (b := 8) rfl rfl (by omega) (by omega) (by omega) ?_) 
            refine r_op tabOk hnt rfl (s_shr8 (a := e1) (i % 8) rfl rfl (by first | rfl | omega) (by first | decide | omega) ?_) 
            refine r_op tabOk hnt rfl (s_and8 (a := e1 >>> UInt8.ofNat (i % 8)) (b := 1) rfl rfl ?_) 
            refine r_op tabOk hnt rfl (s_eql8 (a := (e1 >>> UInt8.ofNat (i % 8)) &&& 1) (b := 1) rfl rfl ?_) 
            refine r_op tabOk hnt rfl (s_iaR0 (q := i) (f := encBo) (l := os) tab_44 rfl tab_4 rfl rfl (by omega) rfl rfl (by omega) ?_) 
            obtain ⟨e2, he2⟩ := get_of_lt os (i := i) (by omega)
            refine r_op tabOk hnt rfl (s_stM (y0 := e2) (z := decide ((e1 >>> UInt8.ofNat (i % 8)) &&& 1 = 1)) (f := encBo) tab_4 rfl rfl rfl rfl rfl he2 (Nat.le_of_ble_eq_true rfl) rfl rfl (by simp) rfl ?_) 
            refine r_set [(0, pS 1 cl_b enc8 b), (6, PV.ref 0 0 none), (29, pN ((List.replicate kn false).length)), (30, pN i)] [(0, oB true 1 encBo (os.set i (decide ((e1 >>> UInt8.ofNat (i % 8)) &&& 1 = 1))))] 1 ⟨rfl, rfl, rfl, rfl, trivial⟩ rfl rfl ?_
            refine r_end ?_
            refine q_block ?_
            refine q_then ?_
            refine w_R ?_
            refine r_op tabOk hnt rfl (s_addN (a := i) (b := 1) rfl rfl (by omega) (by omega) (by omega) ?_) 
            refine r_op tabOk hnt rfl (s_move rfl ?_) 
            refine r_end ?_
            refine q_then ?_
            refine ⟨(os.set i (decide ((e1 >>> UInt8.ofNat (i % 8)) &&& 1 = 1))), (i + 1), ?_, ?_, ⟨[(0, 0)], by rw [hk]; decide, ⟨⟨_, rfl, rfl, rfl⟩, ⟨_, rfl, rfl, rfl⟩, ⟨_, rfl, rfl, rfl⟩, ⟨_, rfl, rfl, rfl⟩, trivial⟩, ⟨⟨_, _, rfl, rfl, rfl, rfl⟩, trivial⟩, by rw [hk]; decide⟩⟩
            ·
              refine ⟨by omega, ?_⟩
              rw [← bitOf_of he1, ho, openT_set]
            · omega
          ·
            have c2_ := c2
            try simp only [decide_eq_true_eq, decide_eq_false_iff_not, Bool.not_eq_true', Bool.not_eq_false', Bool.not_true, Bool.not_false, Bool.not_eq_eq_eq_not, Int.not_lt, Int.not_le] at c2
            rw [List.length_replicate] at c2
            have hoe : os = (List.range kn).map (bitOf b) := by rw [ho, show i = kn by omega, openT_end]
            refine w_exit ?_
            refine q_then_exit ?_
            refine q_then_exit ?_
            refine q_block_exit ?_
            refine q_then ?_
            refine w_seq ?_
            refine w_seq ?_
            refine w_R ?_
            refine r_op tabOk hnt rfl (s_move rfl ?_) 
            refine r_op tabOk hnt rfl (s_callX (r2 := PV.ref 1 0 none) (nx1 := 2) (H2 := [(0, oB false 1 encBo os)]) (H3 := [(1, oB true 1 enc8 (packL os)), (0, oB false 1 encBo os)]) [] [] rfl rfl rfl (handed_of (by decide) trivial) rfl rfl rfl rfl rfl rfl (w_octet_Pack os false (by first | omega | assumption | (simp; omega) | decide | (simp; done))) rfl (dist_of rfl) rfl rfl rfl rfl ?_) 
            refine r_op tabOk hnt rfl (s_move rfl ?_) 
            refine r_op tabOk hnt rfl (s_callX (r2 := pB (decide ((packL os) = b))) (nx1 := 2) (H2 := [(1, oB false 1 enc8 (packL os)), (0, oB false 1 encBo os)]) (H3 := [(1, oB false 1 enc8 (packL os)), (0, oB false 1 encBo os)]) [] [] rfl rfl rfl (handed_of (by decide) trivial) rfl rfl rfl rfl rfl rfl (w_slices_Equal_byte_byte (packL os) false b cl_b (by first | omega | assumption | (simp; omega) | decide | (simp; done))) rfl (dist_of rfl) rfl rfl rfl rfl ?_) 
            refine r_op tabOk hnt rfl (s_not rfl ?_) 
            refine r_set [(6, PV.ref 0 0 none), (51, pB (!(decide ((packL os) = b))))] [(1, oB false 1 enc8 (packL os)), (0, oB false 1 encBo os)] 2 ⟨rfl, rfl, trivial⟩ rfl rfl ?_
            refine r_end ?_
            refine q_then ?_
            refine w_if rfl (fun c3 => ?_) (fun c3 => ?_)
            ·
              have c3_ := c3
              try simp only [decide_eq_true_eq, decide_eq_false_iff_not, Bool.not_eq_true', Bool.not_eq_false', Bool.not_true, Bool.not_false, Bool.not_eq_eq_eq_not, Int.not_lt, Int.not_le] at c3
              have eo : bopOk b n = false := by rw [hkn, bopOk_nat ⟨hbd, hlen⟩]; exact decide_eq_false fun h => c3 (by rw [hoe]; exact (pack_bits hlen).2 h)
              refine w_seq ?_
              refine w_R ?_
              refine r_op tabOk hnt rfl (s_assign rfl ?_) 
              refine r_op tabOk hnt rfl (s_assign rfl ?_) 
              refine r_end ?_
              refine q_then ?_
              refine w_le (s := 4) (y := pS 1 false encBo []) rfl (le_nilS 1 false) ?_
              refine w_le (s := 4) (y := pS 1 false encBo (bopV b n)) rfl (le_of_eq (congrArg (fun z => pS 1 false encBo z) (show [] = (bopV b n) by first | exact eo.symm | (simp [bopV, eo]; done) | (rw [hkn, bopV_nat (by rw [← hkn]; exact eo), hoe])))) ?_
              refine w_le (s := 5) (y := pB (bopOk b n)) rfl (le_of_eq (congrArg (fun z : Bool => pB z) (show false = (bopOk b n) by first | exact eo.symm | (simp [bopV, eo]; done) | (rw [hkn, bopV_nat (by rw [← hkn]; exact eo), hoe])))) ?_
              refine w_ret ?_
              refine q_then_ret ?_
              exact fin_plain (ret_tmp rfl (ret_tmp rfl ret_nil)) rfl rfl ⟨rfl, rfl, rfl⟩
            ·
              have c3_ := c3
              try simp only [decide_eq_true_eq, decide_eq_false_iff_not, Bool.not_eq_true', Bool.not_eq_false', Bool.not_true, Bool.not_false, Bool.not_eq_eq_eq_not, Int.not_lt, Int.not_le] at c3
              have eo : bopOk b n = true := by rw [hkn, bopOk_nat ⟨hbd, hlen⟩]; exact decide_eq_true ((pack_bits hlen).1 (by rw [← hoe]; simpa using c3))
              refine w_skip ?_
              refine q_then ?_
              refine w_seq ?_
              refine w_R ?_
              refine r_op tabOk hnt rfl (s_move rfl ?_) 
              refine r_op tabOk hnt rfl (s_assign rfl ?_) 
              refine r_op tabOk hnt rfl (s_assign rfl ?_) 
              refine r_end ?_
              refine q_then ?_
              refine w_frzM (s := 4) (f := encBo) rfl rfl view_0 ?_
              refine w_le (s := 4) (y := pS 1 false encBo (bopV b n)) rfl (le_of_eq (congrArg (fun z => pS 1 false encBo z) (show os = (bopV b n) by first | exact eo.symm | (simp [bopV, eo]; done) | (rw [hkn, bopV_nat (by rw [← hkn]; exact eo), hoe])))) ?_
              refine w_le (s := 5) (y := pB (bopOk b n)) rfl (le_of_eq (congrArg (fun z : Bool => pB z) (show true = (bopOk b n) by first | exact eo.symm | (simp [bopV, eo]; done) | (rw [hkn, bopV_nat (by rw [← hkn]; exact eo), hoe])))) ?_
              refine w_ret ?_
              exact fin_plain (ret_tmp rfl (ret_tmp rfl ret_nil)) rfl rfl ⟨rfl, rfl, rfl⟩
    ·
      have g2' := g2
      try simp only [decide_eq_true_eq, decide_eq_false_iff_not, Bool.not_eq_true', Bool.not_eq_false', Bool.not_true, Bool.not_false, Bool.not_eq_eq_eq_not, Int.not_lt, Int.not_le] at g2'
      have eo : bopOk b n = false := bopOk_no (by omega)
      refine r_if tabOk hnt rfl rfl rfl (fun e => absurd (e.symm.trans g2) (by decide)) (fun _ => ?_)
      refine r_if tabOk hnt rfl rfl rfl (fun e => absurd (e.symm.trans g2) (by decide)) (fun _ => ?_)
      refine r_if tabOk hnt rfl rfl rfl (fun e => absurd (e.symm.trans g2) (by decide)) (fun _ => ?_)
      refine r_if tabOk hnt rfl rfl rfl (fun e => absurd (e.symm.trans g2) (by decide)) (fun _ => ?_)
      refine r_if tabOk hnt rfl rfl rfl (fun e => absurd (e.symm.trans g2) (by decide)) (fun _ => ?_)
      refine r_if tabOk hnt rfl rfl rfl (fun e => absurd (e.symm.trans g2) (by decide)) (fun _ => ?_)
      refine r_op tabOk hnt rfl (s_pick_t rfl g2 rfl ?_) 
      refine r_end ?_
      refine q_then ?_
      refine w_if rfl (fun _ => ?_) (fun e => absurd e (by decide))
      refine w_seq ?_
      refine w_R ?_
      refine r_op tabOk hnt rfl (s_assign rfl ?_) 
      refine r_op tabOk hnt rfl (s_assign rfl ?_) 
      refine r_end ?_
      refine q_then ?_
      refine w_le (s := 4) (y := pS 1 false encBo []) rfl (le_nilS 1 false) ?_
      refine w_le (s := 4) (y := pS 1 false encBo (bopV b n)) rfl (le_of_eq (congrArg (fun z => pS 1 false encBo z) (show [] = (bopV b n) by first | exact eo.symm | (simp [bopV, eo]; done) | (rw [hkn, bopV_nat (by rw [← hkn]; exact eo), hoe])))) ?_
      refine w_le (s := 5) (y := pB (bopOk b n)) rfl (le_of_eq (congrArg (fun z : Bool => pB z) (show false = (bopOk b n) by first | exact eo.symm | (simp [bopV, eo]; done) | (rw [hkn, bopV_nat (by rw [← hkn]; exact eo), hoe])))) ?_
      refine w_ret ?_
      refine q_then_ret ?_
      exact fin_plain (ret_tmp rfl (ret_tmp rfl ret_nil)) rfl rfl ⟨rfl, rfl, rfl⟩
  ·
    have g1' := g1
    try simp only [decide_eq_true_eq, decide_eq_false_iff_not, Bool.not_eq_true', Bool.not_eq_false', Bool.not_true, Bool.not_false, Bool.not_eq_eq_eq_not, Int.not_lt, Int.not_le] at g1'
    have eo : bopOk b n = false := bopOk_no (by omega)
    refine r_if tabOk hnt rfl rfl rfl (fun e => absurd (e.symm.trans g1) (by decide)) (fun _ => ?_)
    refine r_if tabOk hnt rfl rfl rfl (fun e => absurd (e.symm.trans g1) (by decide)) (fun _ => ?_)
    refine r_if tabOk hnt rfl rfl rfl (fun e => absurd (e.symm.trans g1) (by decide)) (fun _ => ?_)
    refine r_if tabOk hnt rfl rfl rfl (fun e => absurd (e.symm.trans g1) (by decide)) (fun _ => ?_)
    refine r_op tabOk hnt rfl (s_pick_t rfl g1 rfl ?_) 
    refine r_op tabOk hnt rfl (s_move rfl ?_) 
    refine r_if tabOk hnt rfl rfl rfl (fun e => absurd e (by decide)) (fun _ => ?_)
    refine r_if tabOk hnt rfl rfl rfl (fun e => absurd e (by decide)) (fun _ => ?_)
    refine r_if tabOk hnt rfl rfl rfl (fun e => absurd e (by decide)) (fun _ => ?_)
    refine r_if tabOk hnt rfl rfl rfl (fun e => absurd e (by decide)) (fun _ => ?_)
    refine r_if tabOk hnt rfl rfl rfl (fun e => absurd e (by decide)) (fun _ => ?_)
    refine r_if tabOk hnt rfl rfl rfl (fun e => absurd e (by decide)) (fun _ => ?_)
    refine r_if tabOk hnt rfl rfl rfl (fun e => absurd e (by decide)) (fun _ => ?_)
    refine r_op tabOk hnt rfl (s_pick_t rfl rfl rfl ?_) 
    refine r_end ?_
    refine q_then ?_
    refine w_if rfl (fun _ => ?_) (fun e => absurd e (by decide))
    refine w_seq ?_
    refine w_R ?_
    refine r_op tabOk hnt rfl (s_assign rfl ?_) 
    refine r_op tabOk hnt rfl (s_assign rfl ?_) 
    refine r_end ?_
    refine q_then ?_
    refine w_le (s := 4) (y := pS 1 false encBo []) rfl (le_nilS 1 false) ?_
    refine w_le (s := 4) (y := pS 1 false encBo (bopV b n)) rfl (le_of_eq (congrArg (fun z => pS 1 false encBo z) (show [] = (bopV b n) by first | exact eo.symm | (simp [bopV, eo]; done) | (rw [hkn, bopV_nat (by rw [← hkn]; exact eo), hoe])))) ?_
    refine w_le (s := 5) (y := pB (bopOk b n)) rfl (le_of_eq (congrArg (fun z : Bool => pB z) (show false = (bopOk b n) by first | exact eo.symm | (simp [bopV, eo]; done) | (rw [hkn, bopV_nat (by rw [← hkn]; exact eo), hoe])))) ?_
    refine w_ret ?_
    refine q_then_ret ?_
    exact fin_plain (ret_tmp rfl (ret_tmp rfl ret_nil)) rfl rfl ⟨rfl, rfl, rfl⟩

theorem w_burgageref1_Open (b : List UInt8) (cl_b : Bool) (n : Int) (hb : b.length ≤ 17592186043904) (hn : n ≤ 9223372036854775807) :
    T Try.prog 56 [pS 1 cl_b enc8 b, pI n] 0 [] (Ret (PV.tup [pS 1 false encBo (bopV b n), pB (bopOk b n)]) 0 []) := by
  refine t_fun tabOk (n := 53) (rs := [.tmp 4, .tmp 5]) Try.func56 rfl rfl rfl rfl (Nat.le_of_ble_eq_true rfl) ?_
  intro c hnt hk
  refine w_seq ?_
  refine w_R ?_
  refine r_op tabOk hnt rfl (s_assign rfl ?_) 
  refine r_op tabOk hnt rfl (s_assign rfl ?_) 
  refine r_end ?_
  refine q_then ?_
  refine w_seq ?_
  refine w_seq ?_
  refine w_R ?_
  refine r_op tabOk hnt rfl (s_move rfl ?_) 
  refine r_op tabOk hnt rfl (s_lss rfl rfl ?_) 
  refine r_op tabOk hnt rfl (s_move rfl ?_) 
  refine r_if tabOk hnt rfl rfl rfl (fun g1 => ?_) (fun g1 => ?_)
  ·
    have g1' := g1
    try simp only [decide_eq_true_eq, decide_eq_false_iff_not, Bool.not_eq_true', Bool.not_eq_false', Bool.not_true, Bool.not_false, Bool.not_eq_eq_eq_not, Int.not_lt, Int.not_le] at g1'
    obtain ⟨kn, hkn⟩ : ∃ kn : Nat, n = (kn : Int) := ⟨n.toNat, by omega⟩
    refine r_eq (s := 1) (y := pN kn) rfl (congrArg (fun z : Int => pI z) (show n = ((kn : Nat) : Int) by exact hkn)) ?_
    refine r_op tabOk hnt rfl (s_move rfl ?_) 
    refine r_if tabOk hnt rfl rfl rfl (fun _ => ?_) (fun e => absurd (e.symm.trans g1) (by decide))
    refine r_op tabOk hnt rfl (s_move rfl ?_) 
    refine r_if tabOk hnt rfl rfl rfl (fun _ => ?_) (fun e => absurd (e.symm.trans g1) (by decide))
    refine r_op tabOk hnt rfl (s_lenM (l := b) tab_27 rfl (hM_sl (f := enc8) rfl) ?_) 
    refine r_if tabOk hnt rfl rfl rfl (fun _ => ?_) (fun e => absurd (e.symm.trans g1) (by decide))
    refine r_op tabOk hnt rfl (s_mulN (a := 8) (b := b.length) rfl rfl (by omega) (by omega) (by omega) ?_) 
    refine r_if tabOk hnt rfl rfl rfl (fun _ => ?_) (fun e => absurd (e.symm.trans g1) (by decide))
    refine r_op tabOk hnt rfl (s_gtr rfl rfl ?_) 
    refine r_op tabOk hnt rfl (s_pick_f rfl g1 rfl ?_) 
    refine r_op tabOk hnt rfl (s_move rfl ?_) 
    refine r_if tabOk hnt rfl rfl rfl (fun g2 => ?_) (fun g2 => ?_)
    ·
      have g2' := g2
      try simp only [decide_eq_true_eq, decide_eq_false_iff_not, Bool.not_eq_true', Bool.not_eq_false', Bool.not_true, Bool.not_false, Bool.not_eq_eq_eq_not, Int.not_lt, Int.not_le] at g2'
      refine r_op tabOk hnt rfl (s_move rfl ?_) 
      refine r_if tabOk hnt rfl rfl rfl (fun _ => ?_) (fun e => absurd (e.symm.trans g2) (by decide))
      refine r_op tabOk hnt rfl (s_lenM (l := b) tab_27 rfl (hM_sl (f := enc8) rfl) ?_) 
      refine r_if tabOk hnt rfl rfl rfl (fun _ => ?_) (fun e => absurd (e.symm.trans g2) (by decide))
      refine r_op tabOk hnt rfl (s_move rfl ?_) 
      refine r_if tabOk hnt rfl rfl rfl (fun _ => ?_) (fun e => absurd (e.symm.trans g2) (by decide))
      refine r_op tabOk hnt rfl (s_addN (a := kn) (b := 7) rfl rfl (by omega) (by omega) (by omega) ?_) 
      refine r_if tabOk hnt rfl rfl rfl (fun _ => ?_) (fun e => absurd (e.symm.trans g2) (by decide))
      refine r_op tabOk hnt rfl (s_quoN (a := kn + 7) (b := 8) rfl rfl (by omega) (by omega) (by omega) ?_) 
      refine r_if tabOk hnt rfl rfl rfl (fun _ => ?_) (fun e => absurd (e.symm.trans g2) (by decide))
      refine r_op tabOk hnt rfl (s_neq rfl rfl ?_) 
      refine r_op tabOk hnt rfl (s_pick_f rfl g2 rfl ?_) 
      refine r_end ?_
      refine q_then ?_
      refine w_if rfl (fun c1 => ?_) (fun c1 => ?_)
      ·
        have c1_ := c1
        try simp only [decide_eq_true_eq, decide_eq_false_iff_not, Bool.not_eq_true', Bool.not_eq_false', Bool.not_true, Bool.not_false, Bool.not_eq_eq_eq_not, Int.not_lt, Int.not_le] at c1
        have eo : bopOk b n = false := bopOk_no (by omega)
        refine w_seq ?_
        refine w_R ?_
        refine r_op tabOk hnt rfl (s_assign rfl ?_) 
        refine r_op tabOk hnt rfl (s_assign rfl ?_) 
        refine r_end ?_
        refine q_then ?_
        refine w_le (s := 4) (y := pS 1 false encBo []) rfl (le_nilS 1 false) ?_
        refine w_le (s := 4) (y := pS 1 false encBo (bopV b n)) rfl (le_of_eq (congrArg (fun z => pS 1 false encBo z) (show [] = (bopV b n) by first | exact eo.symm | (simp [bopV, eo]; done) | (rw [hkn, bopV_nat (by rw [← hkn]; exact eo), hoe])))) ?_
        refine w_le (s := 5) (y := pB (bopOk b n)) rfl (le_of_eq (congrArg (fun z : Bool => pB z) (show false = (bopOk b n) by first | exact eo.symm | (simp [bopV, eo]; done) | (rw [hkn, bopV_nat (by rw [← hkn]; exact eo), hoe])))) ?_
        refine w_ret ?_
        refine q_then_ret ?_
        exact fin_plain (ret_tmp rfl (ret_tmp rfl ret_nil)) rfl rfl ⟨rfl, rfl, rfl⟩
      ·
        have c1_ := c1
        try simp only [decide_eq_true_eq, decide_eq_false_iff_not, Bool.not_eq_true', Bool.not_eq_false', Bool.not_true, Bool.not_false, Bool.not_eq_eq_eq_not, Int.not_lt, Int.not_le] at c1
        have hlen : (kn + 7) / 8 = b.length := by omega
        have hbd : kn ≤ 8 * b.length := by omega
        refine w_skip ?_
        refine q_then ?_
        refine w_seq ?_
        refine w_R ?_
        refine r_op tabOk hnt rfl (s_assign rfl ?_) 
        refine r_end ?_
        refine q_then ?_
        refine w_seq ?_
        refine w_seq ?_
        refine w_R ?_
        refine r_op tabOk hnt rfl (s_assign rfl ?_) 
        refine r_end ?_
        refine q_then ?_
        refine w_block ?_
        refine w_adopt (s := 6) (sz := 1) rfl ?_
        refine loop2 (fun (os : List Bool) (i : Nat) => i ≤ 8 * b.length ∧ os = (List.range (min i kn)).map (bitOf b) ∧ ∀ j, j < i → kn ≤ j → bitOf b j = false) (fun (os : List Bool) (i : Nat) => [(0, pS 1 cl_b enc8 b), (1, pN kn), (6, PV.ref 0 0 none), (7, pN i)]) 1 (fun (os : List Bool) (i : Nat) => [(0, oB true 1 encBo os)]) (fun (os : List Bool) (i : Nat) => 8 * b.length - i) (([] : List Bool)) (0) ?_ ⟨[(0, 0)], by rw [hk]; decide, ⟨⟨_, rfl, rfl, rfl⟩, ⟨_, rfl, rfl, rfl⟩, ⟨_, rfl, rfl, rfl⟩, ⟨_, rfl, rfl, rfl⟩, trivial⟩, ⟨⟨_, _, rfl, rfl, rfl, rfl⟩, trivial⟩, by rw [hk]; decide⟩ ?_
        · exact ⟨Nat.zero_le _, by simp, fun j hj => by omega⟩
        ·
          intro os i hI
          obtain ⟨hi, ho, hz⟩ := hI
          have hol : os.length ≤ i := by rw [ho]; simp; omega
          refine w_seq ?_
          refine w_seq ?_
          refine w_R ?_
          refine r_op tabOk hnt rfl (s_move rfl ?_) 
          refine r_op tabOk hnt rfl (s_move rfl ?_) 
          refine r_op tabOk hnt rfl (s_lenM (l := b) tab_27 rfl (hM_sl (f := enc8) rfl) ?_) 
          refine r_op tabOk hnt rfl (s_mulN (a := 8) (b := b.length) rfl rfl (by omega) (by omega) (by omega) ?_) 
          refine r_op tabOk hnt rfl (s_lss rfl rfl ?_) 
          refine r_end ?_
          refine q_then ?_
          refine w_if rfl (fun c2 => ?_) (fun c2 => ?_)
          ·
            have c2_ := c2
            try simp only [decide_eq_true_eq, decide_eq_false_iff_not, Bool.not_eq_true', Bool.not_eq_false', Bool.not_true, Bool.not_false, Bool.not_eq_eq_eq_not, Int.not_lt, Int.not_le] at c2
            refine w_skip ?_
            refine q_then ?_
            refine w_seq ?_
            refine w_block ?_
            refine w_seq ?_
            refine w_R ?_
            refine r_op tabOk hnt rfl (s_move rfl ?_) 
            refine r_op tabOk hnt rfl (s_move rfl ?_) 
            refine r_op tabOk hnt rfl (s_quoN (a := i) (b := 8) rfl rfl (by omega) (by omega) (by omega) ?_) 
            obtain ⟨e1, he1⟩ := get_of_lt b (i := i / 8) (by omega)
            refine r_op tabOk hnt rfl (s_iaM (q := i / 8) (b := e1) (f := enc8) tab_27 rfl tab_5 rfl rfl (by omega) rfl he1 ?_) 
            refine r_op tabOk hnt rfl (s_load_ro1 tab_5 rfl rfl rfl rfl ?_) 
            refine r_op tabOk hnt rfl (s_move rfl ?_) 
            refine r_op tabOk hnt rfl (s_remN (a := i) (b := 8) rfl rfl (by omega) (by omega) (by omega) ?_) 
            refine r_op tabOk hnt rfl (s_cvK tab_3 tab_28 rfl rfl rfl rfl (by exact ⟨by omega, by show _ < (18446744073709551616 : Int); omega⟩) ?_) 
            refine r_op tabOk hnt rfl (s_shr8 (a := e1) (i % 8) rfl rfl (by first | rfl | omega) (by first | decide | omega) ?_) 
            refine r_op tabOk hnt rfl (s_and8 (a := e1 >>> UInt8.ofNat (i % 8)) (b := 1) rfl rfl ?_) 
            refine r_op tabOk hnt rfl (s_eql8 (a := (e1 >>> UInt8.ofNat (i % 8)) &&& 1) (b := 1) rfl rfl ?_) 
            refine r_op tabOk hnt rfl (s_assign rfl ?_) 
            refine r_end ?_
            refine q_then ?_
            refine w_seq ?_
            refine w_R ?_
            refine r_op tabOk hnt rfl (s_move rfl ?_) 
            refine r_op tabOk hnt rfl (s_move rfl ?_) 
            refine r_op tabOk hnt rfl (s_lss rfl rfl ?_) 
            refine r_end ?_
            refine q_then ?_
            refine w_if rfl (fun c3 => ?_) (fun c3 => ?_)
            ·
              have c3_ := c3
              try simp only [decide_eq_true_eq, decide_eq_false_iff_not, Bool.not_eq_true', Bool.not_eq_false', Bool.not_true, Bool.not_false, Bool.not_eq_eq_eq_not, Int.not_lt, Int.not_le] at c3
              refine w_R ?_
              refine r_op tabOk hnt rfl (s_move rfl ?_) 
              refine r_op tabOk hnt rfl (s_move rfl ?_) 
              refine r_op tabOk hnt rfl (s_mkM (f := encBo) [decide ((e1 >>> UInt8.ofNat (i % 8)) &&& 1 = 1)] tab_44 rfl tab_4 ⟨rfl, by decide⟩ (by decide) rfl rfl rfl rfl ?_) 
              refine r_op tabOk hnt rfl (s_appR0 (f := encBo) (l := os) (xs := [decide ((e1 >>> UInt8.ofNat (i % 8)) &&& 1 = 1)]) tab_44 rfl tab_4 ⟨rfl, by decide, by decide⟩ (srcM tab_44 rfl (hM_ref0 (f := encBo) rfl rfl)) rfl rfl (by first | omega | (simp; omega)) ?_) 
              refine r_op tabOk hnt rfl (s_assign rfl ?_) 
              refine r_set [(0, pS 1 cl_b enc8 b), (1, pN kn), (6, PV.ref 2 0 none), (7, pN i)] [(2, oB true 1 encBo (os ++ [decide ((e1 >>> UInt8.ofNat (i % 8)) &&& 1 = 1)])), (1, oB true 1 encBo [decide ((e1 >>> UInt8.ofNat (i % 8)) &&& 1 = 1)])] 3 ⟨rfl, rfl, rfl, rfl, trivial⟩ rfl rfl ?_
              refine r_end ?_
              refine q_block ?_
              refine q_then ?_
              refine w_R ?_
              refine r_op tabOk hnt rfl (s_move rfl ?_) 
              refine r_op tabOk hnt rfl (s_addN (a := i) (b := 1) rfl rfl (by omega) (by omega) (by omega) ?_) 
              refine r_op tabOk hnt rfl (s_assign rfl ?_) 
              refine r_end ?_
              refine q_then ?_
              refine ⟨(os ++ [decide ((e1 >>> UInt8.ofNat (i % 8)) &&& 1 = 1)]), (i + 1), ?_, ?_, ⟨[(0, 2)], by rw [hk]; decide, ⟨⟨_, rfl, rfl, rfl⟩, ⟨_, rfl, rfl, rfl⟩, ⟨_, rfl, rfl, rfl⟩, ⟨_, rfl, rfl, rfl⟩, trivial⟩, ⟨⟨_, _, rfl, rfl, rfl, rfl⟩, trivial⟩, by rw [hk]; decide⟩⟩
              ·
                first | (refine ⟨by omega, ?_, fun j hj hn => hz j (by omega) hn⟩; rw [show min (i + 1) kn = i + 1 by omega, bits_snoc, bitOf_of he1, ho, show min i kn = i by omega]) | (refine ⟨by omega, by rw [ho, show min (i + 1) kn = min i kn by omega], fun j hj hn => ?_⟩; by_cases hji : j < i; exact hz j hji hn; obtain rfl : j = i := (by omega); exact hbi)
              · omega
            ·
              have c3_ := c3
              try simp only [decide_eq_true_eq, decide_eq_false_iff_not, Bool.not_eq_true', Bool.not_eq_false', Bool.not_true, Bool.not_false, Bool.not_eq_eq_eq_not, Int.not_lt, Int.not_le] at c3
              refine w_seq ?_
              refine w_R ?_
              refine r_op tabOk hnt rfl (s_move rfl ?_) 
              refine r_end ?_
              refine q_then ?_
              refine w_if rfl (fun c4 => ?_) (fun c4 => ?_)
              ·
                have c4_ := c4
                try simp only [decide_eq_true_eq, decide_eq_false_iff_not, Bool.not_eq_true', Bool.not_eq_false', Bool.not_true, Bool.not_false, Bool.not_eq_eq_eq_not, Int.not_lt, Int.not_le] at c4
                have hbi : bitOf b i = true := by rw [bitOf_of he1]; simpa using c4_
                have eo : bopOk b n = false := by rw [hkn, bopOk_nat ⟨hbd, hlen⟩]; exact decide_eq_false fun h => by rw [h i (by omega) (by omega)] at hbi; cases hbi
                refine w_seq ?_
                refine w_R ?_
                refine r_op tabOk hnt rfl (s_assign rfl ?_) 
                refine r_op tabOk hnt rfl (s_assign rfl ?_) 
                refine r_end ?_
                refine q_then ?_
                refine w_le (s := 4) (y := pS 1 false encBo []) rfl (le_nilS 1 false) ?_
                refine w_le (s := 4) (y := pS 1 false encBo (bopV b n)) rfl (le_of_eq (congrArg (fun z => pS 1 false encBo z) (show [] = (bopV b n) by first | exact eo.symm | (simp [bopV, eo]; done) | (rw [hkn, bopV_nat (by rw [← hkn]; exact eo), hoe])))) ?_
                refine w_le (s := 5) (y := pB (bopOk b n)) rfl (le_of_eq (congrArg (fun z : Bool => pB z) (show false = (bopOk b n) by first | exact eo.symm | (simp [bopV, eo]; done) | (rw [hkn, bopV_nat (by rw [← hkn]; exact eo), hoe])))) ?_
                refine w_ret ?_
                refine q_block_ret ?_
                refine q_then_ret ?_
                refine q_then_ret ?_
                refine q_block_ret ?_
                refine q_then_ret ?_
                exact fin_plain (ret_tmp rfl (ret_tmp rfl ret_nil)) rfl rfl ⟨rfl, rfl, rfl⟩
              ·
                have c4_ := c4
                try simp only [decide_eq_true_eq, decide_eq_false_iff_not, Bool.not_eq_true', Bool.not_eq_false', Bool.not_true, Bool.not_false, Bool.not_eq_eq_eq_not, Int.not_lt, Int.not_le] at c4
                have hbi : bitOf b i = false := by rw [bitOf_of he1]; simpa using c4_
                refine w_skip ?_
                refine q_block ?_
                refine q_then ?_
                refine w_R ?_
                refine r_op tabOk hnt rfl (s_move rfl ?_) 
                refine r_op tabOk hnt rfl (s_addN (a := i) (b := 1) rfl rfl (by omega) (by omega) (by omega) ?_) 
                refine r_op tabOk hnt rfl (s_assign rfl ?_) 
                refine r_end ?_
                refine q_then ?_
                refine ⟨(os), (i + 1), ?_, ?_, ⟨[(0, 0)], by rw [hk]; decide, ⟨⟨_, rfl, rfl, rfl⟩, ⟨_, rfl, rfl, rfl⟩, ⟨_, rfl, rfl, rfl⟩, ⟨_, rfl, rfl, rfl⟩, trivial⟩, ⟨⟨_, _, rfl, rfl, rfl, rfl⟩, trivial⟩, by rw [hk]; decide⟩⟩
                ·
                  first | (refine ⟨by omega, ?_, fun j hj hn => hz j (by omega) hn⟩; rw [show min (i + 1) kn = i + 1 by omega, bits_snoc, bitOf_of he1, ho, show min i kn = i by omega]) | (refine ⟨by omega, by rw [ho, show min (i + 1) kn = min i kn by omega], fun j hj hn => ?_⟩; by_cases hji : j < i; exact hz j hji hn; obtain rfl : j = i := (by omega); exact hbi)
                · omega
          ·
            have c2_ := c2
            try simp only [decide_eq_true_eq, decide_eq_false_iff_not, Bool.not_eq_true', Bool.not_eq_false', Bool.not_true, Bool.not_false, Bool.not_eq_eq_eq_not, Int.not_lt, Int.not_le] at c2
            have hoe : os = (List.range kn).map (bitOf b) := by rw [ho, show min i kn = kn by omega]
            have eo : bopOk b n = true := by rw [hkn, bopOk_nat ⟨hbd, hlen⟩]; exact decide_eq_true fun j hj hn => hz j (by omega) hn
            refine w_exit ?_
            refine q_then_exit ?_
            refine q_then_exit ?_
            refine q_block_exit ?_
            refine q_then ?_
            refine w_seq ?_
            refine w_R ?_
            refine r_op tabOk hnt rfl (s_move rfl ?_) 
            refine r_op tabOk hnt rfl (s_assign rfl ?_) 
            refine r_op tabOk hnt rfl (s_assign rfl ?_) 
            refine r_end ?_
            refine q_then ?_
            refine w_frzM (s := 4) (f := encBo) rfl rfl view_0 ?_
            refine w_le (s := 4) (y := pS 1 false encBo (bopV b n)) rfl (le_of_eq (congrArg (fun z => pS 1 false encBo z) (show os = (bopV b n) by first | exact eo.symm | (simp [bopV, eo]; done) | (rw [hkn, bopV_nat (by rw [← hkn]; exact eo), hoe])))) ?_
            refine w_le (s := 5) (y := pB (bopOk b n)) rfl (le_of_eq (congrArg (fun z : Bool => pB z) (show true = (bopOk b n) by first | exact eo.symm | (simp [bopV, eo]; done) | (rw [hkn, bopV_nat (by rw [← hkn]; exact eo), hoe])))) ?_
            refine w_ret ?_
            exact fin_plain (ret_tmp rfl (ret_tmp rfl ret_nil)) rfl rfl ⟨rfl, rfl, rfl⟩
    ·
      have g2' := g2
      try simp only [decide_eq_true_eq, decide_eq_false_iff_not, Bool.not_eq_true', Bool.not_eq_false', Bool.not_true, Bool.not_false, Bool.not_eq_eq_eq_not, Int.not_lt, Int.not_le] at g2'
      have eo : bopOk b n = false := bopOk_no (by omega)
      refine r_if tabOk hnt rfl rfl rfl (fun e => absurd (e.symm.trans g2) (by decide)) (fun _ => ?_)
      refine r_if tabOk hnt rfl rfl rfl (fun e => absurd (e.symm.trans g2) (by decide)) (fun _ => ?_)
      refine r_if tabOk hnt rfl rfl rfl (fun e => absurd (e.symm.trans g2) (by decide)) (fun _ => ?_)
      refine r_if tabOk hnt rfl rfl rfl (fun e => absurd (e.symm.trans g2) (by decide)) (fun _ => ?_)
      refine r_if tabOk hnt rfl rfl rfl (fun e => absurd (e.symm.trans g2) (by decide)) (fun _ => ?_)
      refine r_op tabOk hnt rfl (s_pick_t rfl g2 rfl ?_) 
      refine r_end ?_
      refine q_then ?_
      refine w_if rfl (fun _ => ?_) (fun e => absurd e (by decide))
      refine w_seq ?_
      refine w_R ?_
      refine r_op tabOk hnt rfl (s_assign rfl ?_) 
      refine r_op tabOk hnt rfl (s_assign rfl ?_) 
      refine r_end ?_
      refine q_then ?_
      refine w_le (s := 4) (y := pS 1 false encBo []) rfl (le_nilS 1 false) ?_
      refine w_le (s := 4) (y := pS 1 false encBo (bopV b n)) rfl (le_of_eq (congrArg (fun z => pS 1 false encBo z) (show [] = (bopV b n) by first | exact eo.symm | (simp [bopV, eo]; done) | (rw [hkn, bopV_nat (by rw [← hkn]; exact eo), hoe])))) ?_
      refine w_le (s := 5) (y := pB (bopOk b n)) rfl (le_of_eq (congrArg (fun z : Bool => pB z) (show false = (bopOk b n) by first | exact eo.symm | (simp [bopV, eo]; done) | (rw [hkn, bopV_nat (by rw [← hkn]; exact eo), hoe])))) ?_
      refine w_ret ?_
      refine q_then_ret ?_
      exact fin_plain (ret_tmp rfl (ret_tmp rfl ret_nil)) rfl rfl ⟨rfl, rfl, rfl⟩
  ·
    have g1' := g1
    try simp only [decide_eq_true_eq, decide_eq_false_iff_not, Bool.not_eq_true', Bool.not_eq_false', Bool.not_true, Bool.not_false, Bool.not_eq_eq_eq_not, Int.not_lt, Int.not_le] at g1'
    have eo : bopOk b n = false := bopOk_no (by omega)
    refine r_if tabOk hnt rfl rfl rfl (fun e => absurd (e.symm.trans g1) (by decide)) (fun _ => ?_)
    refine r_if tabOk hnt rfl rfl rfl (fun e => absurd (e.symm.trans g1) (by decide)) (fun _ => ?_)
    refine r_if tabOk hnt rfl rfl rfl (fun e => absurd (e.symm.trans g1) (by decide)) (fun _ => ?_)
    refine r_if tabOk hnt rfl rfl rfl (fun e => absurd (e.symm.trans g1) (by decide)) (fun _ => ?_)
    refine r_op tabOk hnt rfl (s_pick_t rfl g1 rfl ?_) 
    refine r_op tabOk hnt rfl (s_move rfl ?_) 
    refine r_if tabOk hnt rfl rfl rfl (fun e => absurd e (by decide)) (fun _ => ?_)
    refine r_if tabOk hnt rfl rfl rfl (fun e => absurd e (by decide)) (fun _ => ?_)
    refine r_if tabOk hnt rfl rfl rfl (fun e => absurd e (by decide)) (fun _ => ?_)
    refine r_if tabOk hnt rfl rfl rfl (fun e => absurd e (by decide)) (fun _ => ?_)
    refine r_if tabOk hnt rfl rfl rfl (fun e => absurd e (by decide)) (fun _ => ?_)
    refine r_if tabOk hnt rfl rfl rfl (fun e => absurd e (by decide)) (fun _ => ?_)
    refine r_op tabOk hnt rfl (s_pick_t rfl rfl rfl ?_) 
    refine r_end ?_
    refine q_then ?_
    refine w_if rfl (fun _ => ?_) (fun e => absurd e (by decide))
    refine w_seq ?_
    refine w_R ?_
    refine r_op tabOk hnt rfl (s_assign rfl ?_) 
    refine r_op tabOk hnt rfl (s_assign rfl ?_) 
    refine r_end ?_
    refine q_then ?_
    refine w_le (s := 4) (y := pS 1 false encBo []) rfl (le_nilS 1 false) ?_
    refine w_le (s := 4) (y := pS 1 false encBo (bopV b n)) rfl (le_of_eq (congrArg (fun z => pS 1 false encBo z) (show [] = (bopV b n) by first | exact eo.symm | (simp [bopV, eo]; done) | (rw [hkn, bopV_nat (by rw [← hkn]; exact eo), hoe])))) ?_
    refine w_le (s := 5) (y := pB (bopOk b n)) rfl (le_of_eq (congrArg (fun z : Bool => pB z) (show false = (bopOk b n) by first | exact eo.symm | (simp [bopV, eo]; done) | (rw [hkn, bopV_nat (by rw [← hkn]; exact eo), hoe])))) ?_
    refine w_ret ?_
    refine q_then_ret ?_
    exact fin_plain (ret_tmp rfl (ret_tmp rfl ret_nil)) rfl rfl ⟨rfl, rfl, rfl⟩

end Go.Proofs.Ytfbmlnajnlekbaa
