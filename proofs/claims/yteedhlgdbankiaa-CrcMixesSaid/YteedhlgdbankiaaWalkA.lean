/- Walks: printed by a program of this session (wip/tools/walk.py). -/
import Derived.Test.YteedhlgdbankiaaTab
import Derived.Test.YteedhlgdbankiaaSpecA
set_option linter.unusedVariables false
set_option linter.unusedSimpArgs false
set_option maxRecDepth 10000
set_option maxHeartbeats 1000000
namespace Go.Proofs.Yteedhlgdbankiaa
open Go Go.Proofs.Yteedhlgdbankiaa.Pv

theorem w44 (cl : Bool) (l : List UInt8):
    T Try.prog 44 [.f (.sl 1 cl (bytesU l))] 0 [] (Ret (.f (.sl 1 true (bytesU l))) 0 []) := by
  refine t_fun tabOk (n := 9) (rs := [.tmp 2]) Try.func44 rfl rfl rfl rfl (Nat.le_of_ble_eq_true rfl) ?_
  intro c hnt hk
  refine w_seq ?_
  refine w_reg tabOk hnt ?_
  refine o_op rfl (s_assign rfl ?_)
  refine o_end ?_
  refine q_then ?_
  refine w_seq ?_
  refine w_reg tabOk hnt ?_
  refine o_op rfl (s_move rfl ?_)
  refine o_op rfl (s_move rfl ?_)
  first | refine o_op rfl (s_lenU tab_23 rfl (by first | exact holdsU_sl rfl | exact holdsU_nil rfl | exact holdsU_ref rfl rfl) ?_) | refine o_op rfl (s_len tab_23 rfl (by first | exact holds_sl rfl | exact holds_nil rfl | exact holds_ref rfl rfl rfl) ?_)
  refine o_op rfl (s_move rfl ?_)
  first | refine o_op rfl (s_lenU tab_23 rfl (by first | exact holdsU_sl rfl | exact holdsU_nil rfl | exact holdsU_ref rfl rfl) ?_) | refine o_op rfl (s_len tab_23 rfl (by first | exact holds_sl rfl | exact holds_nil rfl | exact holds_ref rfl rfl rfl) ?_)
  first | refine o_op rfl (s_slice_U3 tab_23 rfl tab_5 rfl rfl bound_none (bound_some rfl (by first | rfl | omega)) (bound_some rfl (by first | rfl | omega)) (by constructor <;> first | omega | (simp; omega)) ?_) | refine o_op rfl (s_slice_sl3 tab_23 rfl tab_5 (by decide) rfl bound_none (bound_some rfl (by first | rfl | omega)) (bound_some rfl (by first | rfl | omega)) (by constructor <;> first | omega | (simp; omega)) ?_) | refine o_op rfl (s_slice_nil tab_23 rfl tab_5 rfl bound_none (bound_some rfl (by first | rfl | omega)) (bound_some rfl (by first | rfl | omega)) (by simp) ?_)
  refine o_op rfl (s_assign rfl ?_)
  refine o_end ?_
  refine q_then ?_
  refine W_eq (s := 2) rfl (y := .f (.sl 1 true (bytesU l))) (by rw [cut_all]) ?_
  refine w_ret ?_
  exact fin_plain (ret_tmp rfl ret_nil) rfl rfl ⟨rfl, rfl, rfl⟩

theorem w46 (cl : Bool) (l : List UInt8) (hl : l.length ≤ 140737488355328):
    T Try.prog 46 [.f (.sl 1 cl (bytesU l))] 0 [] (Ret (.f (.sl 1 false (bytesU l))) 0 []) := by
  refine t_fun tabOk (n := 8) (rs := [.tmp 2]) Try.func46 rfl rfl rfl rfl (Nat.le_of_ble_eq_true rfl) ?_
  intro c hnt hk
  refine w_seq ?_
  refine w_reg tabOk hnt ?_
  refine o_op rfl (s_assign rfl ?_)
  refine o_end ?_
  refine q_then ?_
  refine w_seq ?_
  refine w_seq ?_
  refine w_reg tabOk hnt ?_
  refine o_op rfl (s_move rfl ?_)
  first | refine o_op rfl (s_isnil tab_23 rfl rfl (by first | trivial | exact ⟨_, _, _, rfl⟩) (fun bn hbn => ?_)) | refine o_op rfl (s_bin rfl rfl ?_)
  refine o_end ?_
  refine q_then ?_
  refine w_if rfl (fun c1 => ?_) (fun c1 => ?_)
  ·
    have c1_ := c1
    try simp only [decide_eq_true_eq, decide_eq_false_iff_not, Bool.not_eq_true', Bool.not_eq_false', Int.not_lt, Int.not_le] at c1
    refine w_seq ?_
    refine w_reg tabOk hnt ?_
    refine o_op rfl (s_assign rfl ?_)
    refine o_end ?_
    refine q_then ?_
    have e : bytesU l = [] := Classical.byContradiction fun h => by rw [hbn h] at c1; cases c1
    refine W_le (s := 2) rfl (y := .f (.sl 1 false (bytesU l))) (by rw [e]; exact le_nil 1 false) ?_
    refine w_ret ?_
    refine q_then_ret ?_
    exact fin_plain (ret_tmp rfl ret_nil) rfl rfl ⟨rfl, rfl, rfl⟩
  ·
    have c1_ := c1
    try simp only [decide_eq_true_eq, decide_eq_false_iff_not, Bool.not_eq_true', Bool.not_eq_false', Int.not_lt, Int.not_le] at c1
    refine w_skip ?_
    refine q_then ?_
    refine w_seq ?_
    refine w_reg tabOk hnt ?_
    refine o_op rfl (s_buildSliceU [] tab_23 rfl tab_5 rfl (by decide) rfl rfl ?_)
    refine o_op rfl (s_move rfl ?_)
    first | refine o_op rfl (s_append_refU tab_23 rfl tab_5 ⟨rfl, rfl⟩ (srcU tab_23 rfl (by first | exact holdsU_sl rfl | exact holdsU_nil rfl | exact holdsU_ref rfl rfl)) rfl rfl (by simp [view] <;> omega) ?_) | refine o_op rfl (s_append_nilU tab_23 rfl tab_5 ⟨rfl, rfl⟩ (srcU tab_23 rfl (by first | exact holdsU_sl rfl | exact holdsU_nil rfl | exact holdsU_ref rfl rfl)) rfl (by simp [view] <;> omega) ?_) | refine o_op rfl (s_append_clipU tab_23 rfl tab_5 ⟨rfl, rfl⟩ (srcU tab_23 rfl (by first | exact holdsU_sl rfl | exact holdsU_nil rfl | exact holdsU_ref rfl rfl)) rfl (by simp [view] <;> omega) (by simp [view]) ?_)
    refine o_op rfl (s_assign rfl ?_)
    refine o_end ?_
    refine q_then ?_
    refine W_frz (s := 2) rfl rfl ?_
    refine w_ret ?_
    exact fin_plain (ret_tmp rfl ret_nil) rfl rfl ⟨rfl, rfl, rfl⟩

theorem w29 (cl : Bool) (l : List UInt8) (hl : l.length ≤ 140737488355328):
    T Try.prog 29 [.f (.sl 1 cl (bytesU l))] 0 [] (Ret (PV.f (.v (.int .u16 (UInt16.toNat (crcSum l))))) 0 []) := by
  refine t_fun tabOk (n := 30) (rs := [.tmp 2]) Try.func29 rfl rfl rfl rfl (Nat.le_of_ble_eq_true rfl) ?_
  intro c hnt hk
  refine w_seq ?_
  refine w_reg tabOk hnt ?_
  refine o_op rfl (s_assign rfl ?_)
  refine o_end ?_
  refine q_then ?_
  refine w_seq ?_
  refine w_reg tabOk hnt ?_
  refine o_op rfl (s_assign rfl ?_)
  refine o_end ?_
  refine q_then ?_
  refine w_seq ?_
  refine w_seq ?_
  refine w_reg tabOk hnt ?_
  refine o_op rfl (s_move rfl ?_)
  first | refine o_op rfl (s_lenU tab_23 rfl (by first | exact holdsU_sl rfl | exact holdsU_nil rfl | exact holdsU_ref rfl rfl) ?_) | refine o_op rfl (s_len tab_23 rfl (by first | exact holds_sl rfl | exact holds_nil rfl | exact holds_ref rfl rfl rfl) ?_)
  refine o_op rfl (s_move rfl ?_)
  refine o_end ?_
  refine q_then ?_
  refine w_block ?_
  refine w_loop (α := Nat) (fun i => i ≤ l.length) (fun i => [(3, PV.f (.v (.int .u16 (UInt16.toNat (crcSum (l.take i)))))), (7, .f (.sl 1 cl (bytesU l))), (8, PV.f (.v (.int .i64 l.length))), (9, PV.f (.v (.int .i64 i)))]) (fun _ => 0) (fun _ => []) (fun i => l.length - i) 0 ?_ ?_ ?_
  · exact Nat.zero_le _
  · exact ⟨[], rfl, ⟨⟨_, rfl, rfl, rfl⟩, ⟨_, rfl, rfl, rfl⟩, ⟨_, rfl, rfl, rfl⟩, ⟨_, rfl, rfl, rfl⟩, trivial⟩, trivial, by rw [hk]; decide⟩
  ·
    intro i hi
    refine w_seq ?_
    refine w_reg tabOk hnt ?_
    refine o_op rfl (s_lss rfl rfl ?_)
    refine o_end ?_
    refine q_then ?_
    refine w_seq ?_
    refine w_if rfl (fun c1 => ?_) (fun c1 => ?_)
    ·
      have c1_ := c1
      try simp only [decide_eq_true_eq, decide_eq_false_iff_not, Bool.not_eq_true', Bool.not_eq_false', Int.not_lt, Int.not_le] at c1
      have c1' : i < l.length := by omega
      obtain ⟨b, hb⟩ : ∃ b, l[i]? = some b := ⟨l[i], by simp [c1']⟩
      refine w_skip ?_
      refine q_then ?_
      refine w_seq ?_
      refine w_block ?_
      refine w_seq ?_
      refine w_reg tabOk hnt ?_
      first | refine o_op rfl (s_ia_U tab_23 rfl tab_5 rfl rfl rfl (by omega) (by assumption) ?_) | refine o_op rfl (s_ia_refU0 tab_23 rfl tab_5 rfl rfl rfl rfl (by omega) (by first | assumption | omega | (simp [view]; omega)) ?_) | refine o_op rfl (s_ia_refU tab_23 rfl tab_5 rfl rfl rfl rfl (by omega) (by first | assumption | omega | (simp [view]; omega)) ?_) | refine o_op rfl (s_ia_sl tab_23 rfl tab_5 rfl rfl (by omega) (by first | rfl | assumption | (exact bytesU_get (by assumption))) ?_) | refine o_op rfl (s_ia_ref0 tab_23 rfl tab_5 rfl rfl rfl (by omega) (by first | assumption | (simp [view]; omega)) ?_) | refine o_op rfl (s_ia_ref tab_23 rfl tab_5 rfl rfl rfl (by omega) (by first | assumption | (simp; omega)) ?_)
      first | refine o_op rfl (s_load_epU tab_5 rfl rfl rfl rfl (by assumption) ?_) | refine o_op rfl (s_load_ptr1 tab_5 rfl rfl rfl rfl rfl ?_) | refine o_op rfl (s_load_ro1 tab_5 rfl rfl rfl rfl ?_) | refine o_op rfl (s_load_ep1 tab_5 rfl rfl rfl rfl (by first | rfl | assumption) rfl ?_)
      refine o_op rfl (s_assign rfl ?_)
      refine o_end ?_
      refine q_then ?_
      refine w_seq ?_
      refine w_reg tabOk hnt ?_
      refine o_op rfl (s_move rfl ?_)
      refine o_op rfl (s_move rfl ?_)
      first | refine o_op rfl (s_conv816 tab_5 tab_44 rfl rfl rfl ?_) | refine o_op rfl (s_conv tab_5 tab_44 rfl rfl rfl ?_)
      first | refine o_op rfl (s_xor16 rfl rfl ?_) | refine o_op rfl (s_xor rfl rfl ?_)
      refine o_op rfl (s_assign rfl ?_)
      refine o_end ?_
      refine q_then ?_
      refine w_seq ?_
      refine w_reg tabOk hnt ?_
      refine o_op rfl (s_move rfl ?_)
      refine o_end ?_
      refine q_then ?_
      refine w_block ?_
      refine w_loop (α := Nat) (fun j => j ≤ 8) (fun j => [(3, PV.f (.v (.int .u16 (UInt16.toNat (times crcBit j (crcSum (l.take i) ^^^ b.toUInt16)))))), (7, .f (.sl 1 cl (bytesU l))), (8, PV.f (.v (.int .i64 l.length))), (9, PV.f (.v (.int .i64 i))), (17, PV.f (.v (.int .i64 j)))]) (fun _ => 0) (fun _ => []) (fun j => 8 - j) 0 ?_ ?_ ?_
      · exact Nat.zero_le _
      · exact ⟨[], rfl, ⟨⟨_, rfl, rfl, rfl⟩, ⟨_, rfl, rfl, rfl⟩, ⟨_, rfl, rfl, rfl⟩, ⟨_, rfl, rfl, rfl⟩, ⟨_, rfl, rfl, rfl⟩, trivial⟩, trivial, by rw [hk]; decide⟩
      ·
        intro j hj
        refine w_seq ?_
        refine w_reg tabOk hnt ?_
        refine o_op rfl (s_lss rfl rfl ?_)
        refine o_end ?_
        refine q_then ?_
        refine w_seq ?_
        refine w_if rfl (fun c2 => ?_) (fun c2 => ?_)
        ·
          have c2_ := c2
          try simp only [decide_eq_true_eq, decide_eq_false_iff_not, Bool.not_eq_true', Bool.not_eq_false', Int.not_lt, Int.not_le] at c2
          refine w_skip ?_
          refine q_then ?_
          refine w_seq ?_
          refine w_block ?_
          refine w_seq ?_
          refine w_reg tabOk hnt ?_
          refine o_op rfl (s_move rfl ?_)
          first | refine o_op rfl (s_and16 (b := 1) rfl rfl ?_) | refine o_op rfl (s_and rfl rfl ?_)
          refine o_op rfl (s_assign rfl ?_)
          refine o_end ?_
          refine q_then ?_
          refine w_seq ?_
          refine w_reg tabOk hnt ?_
          refine o_op rfl (s_move rfl ?_)
          refine o_op rfl (s_shr16 1 rfl rfl (by decide) ?_)
          refine o_op rfl (s_assign rfl ?_)
          refine o_end ?_
          refine q_then ?_
          refine w_seq ?_
          refine w_reg tabOk hnt ?_
          refine o_op rfl (s_move rfl ?_)
          first | refine o_op rfl (s_eql16 (b := 1) rfl rfl ?_) | refine o_op rfl (s_eql rfl rfl ?_)
          refine o_end ?_
          refine q_then ?_
          refine w_if rfl (fun c3 => ?_) (fun c3 => ?_)
          ·
            have c3_ := c3
            try simp only [decide_eq_true_eq, decide_eq_false_iff_not, Bool.not_eq_true', Bool.not_eq_false', Int.not_lt, Int.not_le] at c3
            refine w_reg tabOk hnt ?_
            refine o_op rfl (s_move rfl ?_)
            first | refine o_op rfl (s_xor16 (b := 40961) rfl rfl ?_) | refine o_op rfl (s_xor rfl rfl ?_)
            refine o_op rfl (s_assign rfl ?_)
            refine o_end ?_
            refine q_block ?_
            refine q_then ?_
            refine w_reg tabOk hnt ?_
            first | refine o_op rfl (s_addi rfl rfl rfl (by omega) ?_) | refine o_op rfl (s_add rfl rfl ?_)
            refine o_op rfl (s_move rfl ?_)
            refine o_end ?_
            refine q_then ?_
            refine ⟨j + 1, by omega, by omega, ?_⟩
            exact ⟨[], rfl, ⟨⟨_, rfl, rfl, by simp only [times, crcBit, c3, if_true, if_false]; rfl⟩, ⟨_, rfl, rfl, rfl⟩, ⟨_, rfl, rfl, rfl⟩, ⟨_, rfl, rfl, rfl⟩, ⟨_, rfl, rfl, rfl⟩, trivial⟩, trivial, by rw [hk]; decide⟩
          ·
            have c3_ := c3
            try simp only [decide_eq_true_eq, decide_eq_false_iff_not, Bool.not_eq_true', Bool.not_eq_false', Int.not_lt, Int.not_le] at c3
            refine w_skip ?_
            refine q_block ?_
            refine q_then ?_
            refine w_reg tabOk hnt ?_
            first | refine o_op rfl (s_addi rfl rfl rfl (by omega) ?_) | refine o_op rfl (s_add rfl rfl ?_)
            refine o_op rfl (s_move rfl ?_)
            refine o_end ?_
            refine q_then ?_
            refine ⟨j + 1, by omega, by omega, ?_⟩
            exact ⟨[], rfl, ⟨⟨_, rfl, rfl, by simp only [times, crcBit, c3, if_true, if_false]; rfl⟩, ⟨_, rfl, rfl, rfl⟩, ⟨_, rfl, rfl, rfl⟩, ⟨_, rfl, rfl, rfl⟩, ⟨_, rfl, rfl, rfl⟩, trivial⟩, trivial, by rw [hk]; decide⟩
        ·
          have c2_ := c2
          try simp only [decide_eq_true_eq, decide_eq_false_iff_not, Bool.not_eq_true', Bool.not_eq_false', Int.not_lt, Int.not_le] at c2
          obtain rfl : j = 8 := by omega
          refine w_exit ?_
          refine q_then_exit ?_
          refine q_then_exit ?_
          refine q_block_exit ?_
          refine q_block ?_
          refine q_then ?_
          refine w_reg tabOk hnt ?_
          first | refine o_op rfl (s_addi rfl rfl rfl (by omega) ?_) | refine o_op rfl (s_add rfl rfl ?_)
          refine o_op rfl (s_move rfl ?_)
          refine o_end ?_
          refine q_then ?_
          refine ⟨i + 1, by omega, by omega, ?_⟩
          exact ⟨[], rfl, ⟨⟨_, rfl, rfl, by rw [crcSum_snoc hb]; rfl⟩, ⟨_, rfl, rfl, rfl⟩, ⟨_, rfl, rfl, rfl⟩, ⟨_, rfl, rfl, rfl⟩, trivial⟩, trivial, by rw [hk]; decide⟩
    ·
      have c1_ := c1
      try simp only [decide_eq_true_eq, decide_eq_false_iff_not, Bool.not_eq_true', Bool.not_eq_false', Int.not_lt, Int.not_le] at c1
      have e : l.take i = l := List.take_of_length_le (by omega)
      refine w_exit ?_
      refine q_then_exit ?_
      refine q_then_exit ?_
      refine q_block_exit ?_
      refine q_then ?_
      refine w_seq ?_
      refine w_reg tabOk hnt ?_
      refine o_op rfl (s_move rfl ?_)
      refine o_op rfl (s_assign rfl ?_)
      refine o_end ?_
      refine q_then ?_
      refine W_eq (s := 2) rfl (y := PV.f (.v (.int .u16 (UInt16.toNat (crcSum l))))) (by rw [e]) ?_
      refine w_ret ?_
      exact fin_plain (ret_tmp rfl ret_nil) rfl rfl ⟨rfl, rfl, rfl⟩

theorem w43 (cl : Bool) (l : List UInt8) (hl : l.length ≤ 140737488355328):
    T Try.prog 43 [.f (.sl 1 cl (bytesU l))] 0 [] (Ret (PV.f (.v (.int .u16 (UInt16.toNat (crcSum l))))) 0 []) := by
  refine t_fun tabOk (n := 32) (rs := [.tmp 2]) Try.func43 rfl rfl rfl rfl (Nat.le_of_ble_eq_true rfl) ?_
  intro c hnt hk
  refine w_seq ?_
  refine w_reg tabOk hnt ?_
  refine o_op rfl (s_assign rfl ?_)
  refine o_end ?_
  refine q_then ?_
  refine w_seq ?_
  refine w_reg tabOk hnt ?_
  refine o_op rfl (s_assign rfl ?_)
  refine o_end ?_
  refine q_then ?_
  refine w_seq ?_
  refine w_seq ?_
  refine w_reg tabOk hnt ?_
  refine o_op rfl (s_move rfl ?_)
  first | refine o_op rfl (s_lenU tab_23 rfl (by first | exact holdsU_sl rfl | exact holdsU_nil rfl | exact holdsU_ref rfl rfl) ?_) | refine o_op rfl (s_len tab_23 rfl (by first | exact holds_sl rfl | exact holds_nil rfl | exact holds_ref rfl rfl rfl) ?_)
  refine o_op rfl (s_move rfl ?_)
  refine o_end ?_
  refine q_then ?_
  refine w_block ?_
  refine w_loop (α := Nat) (fun i => i ≤ l.length) (fun i => [(3, PV.f (.v (.int .u16 (UInt16.toNat (crcSum (l.take i)))))), (8, .f (.sl 1 cl (bytesU l))), (9, PV.f (.v (.int .i64 l.length))), (10, PV.f (.v (.int .i64 i)))]) (fun _ => 0) (fun _ => []) (fun i => l.length - i) 0 ?_ ?_ ?_
  · exact Nat.zero_le _
  · exact ⟨[], rfl, ⟨⟨_, rfl, rfl, rfl⟩, ⟨_, rfl, rfl, rfl⟩, ⟨_, rfl, rfl, rfl⟩, ⟨_, rfl, rfl, rfl⟩, trivial⟩, trivial, by rw [hk]; decide⟩
  ·
    intro i hi
    refine w_seq ?_
    refine w_reg tabOk hnt ?_
    refine o_op rfl (s_lss rfl rfl ?_)
    refine o_end ?_
    refine q_then ?_
    refine w_seq ?_
    refine w_if rfl (fun c1 => ?_) (fun c1 => ?_)
    ·
      have c1_ := c1
      try simp only [decide_eq_true_eq, decide_eq_false_iff_not, Bool.not_eq_true', Bool.not_eq_false', Int.not_lt, Int.not_le] at c1
      have c1' : i < l.length := by omega
      obtain ⟨b, hb⟩ : ∃ b, l[i]? = some b := ⟨l[i], by simp [c1']⟩
      refine w_skip ?_
      refine q_then ?_
      refine w_seq ?_
      refine w_block ?_
      refine w_seq ?_
      refine w_reg tabOk hnt ?_
      first | refine o_op rfl (s_ia_U tab_23 rfl tab_5 rfl rfl rfl (by omega) (by assumption) ?_) | refine o_op rfl (s_ia_refU0 tab_23 rfl tab_5 rfl rfl rfl rfl (by omega) (by first | assumption | omega | (simp [view]; omega)) ?_) | refine o_op rfl (s_ia_refU tab_23 rfl tab_5 rfl rfl rfl rfl (by omega) (by first | assumption | omega | (simp [view]; omega)) ?_) | refine o_op rfl (s_ia_sl tab_23 rfl tab_5 rfl rfl (by omega) (by first | rfl | assumption | (exact bytesU_get (by assumption))) ?_) | refine o_op rfl (s_ia_ref0 tab_23 rfl tab_5 rfl rfl rfl (by omega) (by first | assumption | (simp [view]; omega)) ?_) | refine o_op rfl (s_ia_ref tab_23 rfl tab_5 rfl rfl rfl (by omega) (by first | assumption | (simp; omega)) ?_)
      first | refine o_op rfl (s_load_epU tab_5 rfl rfl rfl rfl (by assumption) ?_) | refine o_op rfl (s_load_ptr1 tab_5 rfl rfl rfl rfl rfl ?_) | refine o_op rfl (s_load_ro1 tab_5 rfl rfl rfl rfl ?_) | refine o_op rfl (s_load_ep1 tab_5 rfl rfl rfl rfl (by first | rfl | assumption) rfl ?_)
      refine o_op rfl (s_assign rfl ?_)
      refine o_end ?_
      refine q_then ?_
      refine w_seq ?_
      refine w_reg tabOk hnt ?_
      refine o_op rfl (s_move rfl ?_)
      refine o_op rfl (s_move rfl ?_)
      first | refine o_op rfl (s_conv816 tab_5 tab_44 rfl rfl rfl ?_) | refine o_op rfl (s_conv tab_5 tab_44 rfl rfl rfl ?_)
      first | refine o_op rfl (s_xor16 rfl rfl ?_) | refine o_op rfl (s_xor rfl rfl ?_)
      refine o_op rfl (s_assign rfl ?_)
      refine o_end ?_
      refine q_then ?_
      refine w_seq ?_
      refine w_reg tabOk hnt ?_
      refine o_op rfl (s_assign rfl ?_)
      refine o_end ?_
      refine q_then ?_
      refine w_block ?_
      refine w_loop (α := Nat) (fun j => j ≤ 8) (fun j => [(3, PV.f (.v (.int .u16 (UInt16.toNat (times crcBit j (crcSum (l.take i) ^^^ b.toUInt16)))))), (8, .f (.sl 1 cl (bytesU l))), (9, PV.f (.v (.int .i64 l.length))), (10, PV.f (.v (.int .i64 i))), (6, PV.f (.v (.int .i64 j)))]) (fun _ => 0) (fun _ => []) (fun j => 8 - j) 0 ?_ ?_ ?_
      · exact Nat.zero_le _
      · exact ⟨[], rfl, ⟨⟨_, rfl, rfl, rfl⟩, ⟨_, rfl, rfl, rfl⟩, ⟨_, rfl, rfl, rfl⟩, ⟨_, rfl, rfl, rfl⟩, ⟨_, rfl, rfl, rfl⟩, trivial⟩, trivial, by rw [hk]; decide⟩
      ·
        intro j hj
        refine w_seq ?_
        refine w_seq ?_
        refine w_reg tabOk hnt ?_
        refine o_op rfl (s_move rfl ?_)
        refine o_op rfl (s_lss rfl rfl ?_)
        refine o_end ?_
        refine q_then ?_
        refine w_if rfl (fun c2 => ?_) (fun c2 => ?_)
        ·
          have c2_ := c2
          try simp only [decide_eq_true_eq, decide_eq_false_iff_not, Bool.not_eq_true', Bool.not_eq_false', Int.not_lt, Int.not_le] at c2
          refine w_skip ?_
          refine q_then ?_
          refine w_seq ?_
          refine w_block ?_
          refine w_seq ?_
          refine w_reg tabOk hnt ?_
          refine o_op rfl (s_move rfl ?_)
          first | refine o_op rfl (s_and16 (b := 1) rfl rfl ?_) | refine o_op rfl (s_and rfl rfl ?_)
          refine o_op rfl (s_assign rfl ?_)
          refine o_end ?_
          refine q_then ?_
          refine w_seq ?_
          refine w_reg tabOk hnt ?_
          refine o_op rfl (s_move rfl ?_)
          refine o_op rfl (s_shr16 1 rfl rfl (by decide) ?_)
          refine o_op rfl (s_assign rfl ?_)
          refine o_end ?_
          refine q_then ?_
          refine w_seq ?_
          refine w_reg tabOk hnt ?_
          refine o_op rfl (s_move rfl ?_)
          first | refine o_op rfl (s_eql16 (b := 1) rfl rfl ?_) | refine o_op rfl (s_eql rfl rfl ?_)
          refine o_end ?_
          refine q_then ?_
          refine w_if rfl (fun c3 => ?_) (fun c3 => ?_)
          ·
            have c3_ := c3
            try simp only [decide_eq_true_eq, decide_eq_false_iff_not, Bool.not_eq_true', Bool.not_eq_false', Int.not_lt, Int.not_le] at c3
            refine w_reg tabOk hnt ?_
            refine o_op rfl (s_move rfl ?_)
            first | refine o_op rfl (s_xor16 (b := 40961) rfl rfl ?_) | refine o_op rfl (s_xor rfl rfl ?_)
            refine o_op rfl (s_assign rfl ?_)
            refine o_end ?_
            refine q_block ?_
            refine q_then ?_
            refine w_reg tabOk hnt ?_
            refine o_op rfl (s_move rfl ?_)
            first | refine o_op rfl (s_addi rfl rfl rfl (by omega) ?_) | refine o_op rfl (s_add rfl rfl ?_)
            refine o_op rfl (s_assign rfl ?_)
            refine o_end ?_
            refine q_then ?_
            refine ⟨j + 1, by omega, by omega, ?_⟩
            exact ⟨[], rfl, ⟨⟨_, rfl, rfl, by simp only [times, crcBit, c3, if_true, if_false]; rfl⟩, ⟨_, rfl, rfl, rfl⟩, ⟨_, rfl, rfl, rfl⟩, ⟨_, rfl, rfl, rfl⟩, ⟨_, rfl, rfl, rfl⟩, trivial⟩, trivial, by rw [hk]; decide⟩
          ·
            have c3_ := c3
            try simp only [decide_eq_true_eq, decide_eq_false_iff_not, Bool.not_eq_true', Bool.not_eq_false', Int.not_lt, Int.not_le] at c3
            refine w_skip ?_
            refine q_block ?_
            refine q_then ?_
            refine w_reg tabOk hnt ?_
            refine o_op rfl (s_move rfl ?_)
            first | refine o_op rfl (s_addi rfl rfl rfl (by omega) ?_) | refine o_op rfl (s_add rfl rfl ?_)
            refine o_op rfl (s_assign rfl ?_)
            refine o_end ?_
            refine q_then ?_
            refine ⟨j + 1, by omega, by omega, ?_⟩
            exact ⟨[], rfl, ⟨⟨_, rfl, rfl, by simp only [times, crcBit, c3, if_true, if_false]; rfl⟩, ⟨_, rfl, rfl, rfl⟩, ⟨_, rfl, rfl, rfl⟩, ⟨_, rfl, rfl, rfl⟩, ⟨_, rfl, rfl, rfl⟩, trivial⟩, trivial, by rw [hk]; decide⟩
        ·
          have c2_ := c2
          try simp only [decide_eq_true_eq, decide_eq_false_iff_not, Bool.not_eq_true', Bool.not_eq_false', Int.not_lt, Int.not_le] at c2
          obtain rfl : j = 8 := by omega
          refine w_exit ?_
          refine q_then_exit ?_
          refine q_then_exit ?_
          refine q_block_exit ?_
          refine q_block ?_
          refine q_then ?_
          refine w_reg tabOk hnt ?_
          first | refine o_op rfl (s_addi rfl rfl rfl (by omega) ?_) | refine o_op rfl (s_add rfl rfl ?_)
          refine o_op rfl (s_move rfl ?_)
          refine o_end ?_
          refine q_then ?_
          refine ⟨i + 1, by omega, by omega, ?_⟩
          exact ⟨[], rfl, ⟨⟨_, rfl, rfl, by rw [crcSum_snoc hb]; rfl⟩, ⟨_, rfl, rfl, rfl⟩, ⟨_, rfl, rfl, rfl⟩, ⟨_, rfl, rfl, rfl⟩, trivial⟩, trivial, by rw [hk]; decide⟩
    ·
      have c1_ := c1
      try simp only [decide_eq_true_eq, decide_eq_false_iff_not, Bool.not_eq_true', Bool.not_eq_false', Int.not_lt, Int.not_le] at c1
      have e : l.take i = l := List.take_of_length_le (by omega)
      refine w_exit ?_
      refine q_then_exit ?_
      refine q_then_exit ?_
      refine q_block_exit ?_
      refine q_then ?_
      refine w_seq ?_
      refine w_reg tabOk hnt ?_
      refine o_op rfl (s_move rfl ?_)
      refine o_op rfl (s_assign rfl ?_)
      refine o_end ?_
      refine q_then ?_
      refine W_eq (s := 2) rfl (y := PV.f (.v (.int .u16 (UInt16.toNat (crcSum l))))) (by rw [e]) ?_
      refine w_ret ?_
      exact fin_plain (ret_tmp rfl ret_nil) rfl rfl ⟨rfl, rfl, rfl⟩

theorem w17 (n lo hi : Int) (h : -4611686018427387904 ≤ lo ∧ lo ≤ hi ∧ hi ≤ 4611686018427387902):
    T Try.prog 17 [PV.f (.v (.int .i64 n)), PV.f (.v (.int .i64 lo)), PV.f (.v (.int .i64 hi))] 0 [] (Ret (PV.f (.v (.int .i64 (within n lo hi)))) 0 []) := by
  refine t_fun tabOk (n := 33) (rs := [.tmp 6]) Try.func17 rfl rfl rfl rfl (Nat.le_of_ble_eq_true rfl) ?_
  intro c hnt hk
  refine w_seq ?_
  refine w_reg tabOk hnt ?_
  refine o_op rfl (s_assign rfl ?_)
  refine o_end ?_
  refine q_then ?_
  refine w_seq ?_
  refine w_seq ?_
  refine w_reg tabOk hnt ?_
  refine o_op rfl (s_move rfl ?_)
  refine o_op rfl (s_move rfl ?_)
  refine o_op rfl (s_geq rfl rfl ?_)
  refine o_op rfl (s_move rfl ?_)
  refine o_if rfl rfl rfl (fun g1 => ?_) (fun g1 => ?_)
  ·
    have g1' := g1
    try simp only [decide_eq_true_eq, decide_eq_false_iff_not, Bool.not_eq_true', Bool.not_eq_false', Bool.not_true, Bool.not_false, Int.not_lt, Int.not_le] at g1'
    refine o_op rfl (s_move rfl ?_)
    refine o_if rfl rfl rfl (fun _ => ?_) (fun e => absurd (e.symm.trans g1) (by decide))
    refine o_op rfl (s_move rfl ?_)
    refine o_if rfl rfl rfl (fun _ => ?_) (fun e => absurd (e.symm.trans g1) (by decide))
    refine o_op rfl (s_leq rfl rfl ?_)
    refine o_op rfl (s_pick_t rfl g1 rfl ?_)
    refine o_end ?_
    refine q_then ?_
    refine w_if rfl (fun c1 => ?_) (fun c1 => ?_)
    ·
      have c1_ := c1
      try simp only [decide_eq_true_eq, decide_eq_false_iff_not, Bool.not_eq_true', Bool.not_eq_false', Int.not_lt, Int.not_le] at c1
      have hy : lo ≤ n ∧ n ≤ hi := by omega
      refine w_seq ?_
      refine w_reg tabOk hnt ?_
      refine o_op rfl (s_move rfl ?_)
      refine o_op rfl (s_assign rfl ?_)
      refine o_end ?_
      refine q_then ?_
      refine W_eq (s := 6) rfl (y := PV.f (.v (.int .i64 (within n lo hi)))) (by rw [within, if_pos (by omega)]) ?_
      refine w_ret ?_
      refine q_then_ret ?_
      exact fin_plain (ret_tmp rfl ret_nil) rfl rfl ⟨rfl, rfl, rfl⟩
    ·
      have c1_ := c1
      try simp only [decide_eq_true_eq, decide_eq_false_iff_not, Bool.not_eq_true', Bool.not_eq_false', Int.not_lt, Int.not_le] at c1
      have hy : ¬ (lo ≤ n ∧ n ≤ hi) := by omega
      refine w_skip ?_
      refine q_then ?_
      refine w_seq ?_
      refine w_reg tabOk hnt ?_
      refine o_op rfl (s_move rfl ?_)
      refine o_op rfl (s_move rfl ?_)
      refine o_op rfl (s_move rfl ?_)
      first | refine o_op rfl (s_subi rfl rfl rfl (by omega) ?_) | refine o_op rfl (s_sub rfl rfl ?_)
      first | refine o_op rfl (s_addi rfl rfl rfl (by omega) ?_) | refine o_op rfl (s_add rfl rfl ?_)
      refine o_op rfl (s_rem rfl rfl (by first | decide | omega) ?_)
      refine o_op rfl (s_assign rfl ?_)
      refine o_end ?_
      refine q_then ?_
      refine w_seq ?_
      refine w_seq ?_
      have hm := tmod_between n (m := hi - lo + 1) (by omega)
      refine w_reg tabOk hnt ?_
      refine o_op rfl (s_move rfl ?_)
      refine o_op rfl (s_lss rfl rfl ?_)
      refine o_end ?_
      refine q_then ?_
      refine w_if rfl (fun c2 => ?_) (fun c2 => ?_)
      ·
        have c2_ := c2
        try simp only [decide_eq_true_eq, decide_eq_false_iff_not, Bool.not_eq_true', Bool.not_eq_false', Int.not_lt, Int.not_le] at c2
        refine w_reg tabOk hnt ?_
        refine o_op rfl (s_move rfl ?_)
        refine o_op rfl (s_move rfl ?_)
        first | refine o_op rfl (s_addi rfl rfl rfl (by omega) ?_) | refine o_op rfl (s_add rfl rfl ?_)
        refine o_op rfl (s_move rfl ?_)
        first | refine o_op rfl (s_subi rfl rfl rfl (by omega) ?_) | refine o_op rfl (s_sub rfl rfl ?_)
        first | refine o_op rfl (s_addi rfl rfl rfl (by omega) ?_) | refine o_op rfl (s_add rfl rfl ?_)
        refine o_op rfl (s_assign rfl ?_)
        refine o_end ?_
        refine q_then ?_
        refine w_seq ?_
        refine w_reg tabOk hnt ?_
        refine o_op rfl (s_move rfl ?_)
        refine o_op rfl (s_move rfl ?_)
        first | refine o_op rfl (s_addi rfl rfl rfl (by omega) ?_) | refine o_op rfl (s_add rfl rfl ?_)
        refine o_op rfl (s_assign rfl ?_)
        refine o_end ?_
        refine q_then ?_
        refine W_eq (s := 6) rfl (y := PV.f (.v (.int .i64 (within n lo hi)))) (by rw [within, if_neg (by omega), if_pos (by assumption)]) ?_
        refine w_ret ?_
        exact fin_plain (ret_tmp rfl ret_nil) rfl rfl ⟨rfl, rfl, rfl⟩
      ·
        have c2_ := c2
        try simp only [decide_eq_true_eq, decide_eq_false_iff_not, Bool.not_eq_true', Bool.not_eq_false', Int.not_lt, Int.not_le] at c2
        refine w_skip ?_
        refine q_then ?_
        refine w_seq ?_
        refine w_reg tabOk hnt ?_
        refine o_op rfl (s_move rfl ?_)
        refine o_op rfl (s_move rfl ?_)
        first | refine o_op rfl (s_addi rfl rfl rfl (by omega) ?_) | refine o_op rfl (s_add rfl rfl ?_)
        refine o_op rfl (s_assign rfl ?_)
        refine o_end ?_
        refine q_then ?_
        refine W_eq (s := 6) rfl (y := PV.f (.v (.int .i64 (within n lo hi)))) (by rw [within, if_neg (by omega), if_neg (by omega)]) ?_
        refine w_ret ?_
        exact fin_plain (ret_tmp rfl ret_nil) rfl rfl ⟨rfl, rfl, rfl⟩
  ·
    have g1' := g1
    try simp only [decide_eq_true_eq, decide_eq_false_iff_not, Bool.not_eq_true', Bool.not_eq_false', Bool.not_true, Bool.not_false, Int.not_lt, Int.not_le] at g1'
    refine o_if rfl rfl rfl (fun e => absurd (e.symm.trans g1) (by decide)) (fun _ => ?_)
    refine o_if rfl rfl rfl (fun e => absurd (e.symm.trans g1) (by decide)) (fun _ => ?_)
    refine o_op rfl (s_pick_f rfl g1 rfl ?_)
    refine o_end ?_
    refine q_then ?_
    refine w_if rfl (fun e => absurd e (by decide)) (fun _ => ?_)
    refine w_skip ?_
    refine q_then ?_
    refine w_seq ?_
    refine w_reg tabOk hnt ?_
    refine o_op rfl (s_move rfl ?_)
    refine o_op rfl (s_move rfl ?_)
    refine o_op rfl (s_move rfl ?_)
    first | refine o_op rfl (s_subi rfl rfl rfl (by omega) ?_) | refine o_op rfl (s_sub rfl rfl ?_)
    first | refine o_op rfl (s_addi rfl rfl rfl (by omega) ?_) | refine o_op rfl (s_add rfl rfl ?_)
    refine o_op rfl (s_rem rfl rfl (by first | decide | omega) ?_)
    refine o_op rfl (s_assign rfl ?_)
    refine o_end ?_
    refine q_then ?_
    refine w_seq ?_
    refine w_seq ?_
    have hm := tmod_between n (m := hi - lo + 1) (by omega)
    refine w_reg tabOk hnt ?_
    refine o_op rfl (s_move rfl ?_)
    refine o_op rfl (s_lss rfl rfl ?_)
    refine o_end ?_
    refine q_then ?_
    refine w_if rfl (fun c4 => ?_) (fun c4 => ?_)
    ·
      have c4_ := c4
      try simp only [decide_eq_true_eq, decide_eq_false_iff_not, Bool.not_eq_true', Bool.not_eq_false', Int.not_lt, Int.not_le] at c4
      refine w_reg tabOk hnt ?_
      refine o_op rfl (s_move rfl ?_)
      refine o_op rfl (s_move rfl ?_)
      first | refine o_op rfl (s_addi rfl rfl rfl (by omega) ?_) | refine o_op rfl (s_add rfl rfl ?_)
      refine o_op rfl (s_move rfl ?_)
      first | refine o_op rfl (s_subi rfl rfl rfl (by omega) ?_) | refine o_op rfl (s_sub rfl rfl ?_)
      first | refine o_op rfl (s_addi rfl rfl rfl (by omega) ?_) | refine o_op rfl (s_add rfl rfl ?_)
      refine o_op rfl (s_assign rfl ?_)
      refine o_end ?_
      refine q_then ?_
      refine w_seq ?_
      refine w_reg tabOk hnt ?_
      refine o_op rfl (s_move rfl ?_)
      refine o_op rfl (s_move rfl ?_)
      first | refine o_op rfl (s_addi rfl rfl rfl (by omega) ?_) | refine o_op rfl (s_add rfl rfl ?_)
      refine o_op rfl (s_assign rfl ?_)
      refine o_end ?_
      refine q_then ?_
      refine W_eq (s := 6) rfl (y := PV.f (.v (.int .i64 (within n lo hi)))) (by rw [within, if_neg (by omega), if_pos (by assumption)]) ?_
      refine w_ret ?_
      exact fin_plain (ret_tmp rfl ret_nil) rfl rfl ⟨rfl, rfl, rfl⟩
    ·
      have c4_ := c4
      try simp only [decide_eq_true_eq, decide_eq_false_iff_not, Bool.not_eq_true', Bool.not_eq_false', Int.not_lt, Int.not_le] at c4
      refine w_skip ?_
      refine q_then ?_
      refine w_seq ?_
      refine w_reg tabOk hnt ?_
      refine o_op rfl (s_move rfl ?_)
      refine o_op rfl (s_move rfl ?_)
      first | refine o_op rfl (s_addi rfl rfl rfl (by omega) ?_) | refine o_op rfl (s_add rfl rfl ?_)
      refine o_op rfl (s_assign rfl ?_)
      refine o_end ?_
      refine q_then ?_
      refine W_eq (s := 6) rfl (y := PV.f (.v (.int .i64 (within n lo hi)))) (by rw [within, if_neg (by omega), if_neg (by omega)]) ?_
      refine w_ret ?_
      exact fin_plain (ret_tmp rfl ret_nil) rfl rfl ⟨rfl, rfl, rfl⟩

end Go.Proofs.Yteedhlgdbankiaa
