/- Walks: printed by a program of this session (wip/tools/walk2.py) out of its notes. -/
import Derived.Test.YtmcgjmpcfiefgaaWBase
set_option linter.unusedVariables false
set_option linter.unusedSimpArgs false
set_option maxRecDepth 10000
set_option maxHeartbeats 1000000
namespace Go.Proofs.Ytmcgjmpcfiefgaa
open Go Go.Proofs.Ytmcgjmpcfiefgaa.Pv

theorem w_crc_Of (l : List UInt8) (cl_l : Bool) (hl : l.length ≤ 140737488355328) :
    T Try.prog 63 [pS 1 cl_l enc8 l] 0 [] (Ret (p16 (crcSum l)) 0 []) := by
  refine t_fun tabOk (n := 30) (rs := [.tmp 2]) Try.func63 rfl rfl rfl rfl (Nat.le_of_ble_eq_true rfl) ?_
  intro c hnt hk
  refine w_seq ?_
  refine w_R ?_
  refine r_op tabOk hnt rfl (s_assign rfl ?_) 
  refine r_end ?_
  refine q_then ?_
  refine w_seq ?_
  refine w_R ?_
  refine r_op tabOk hnt rfl (s_assign rfl ?_) 
  refine r_end ?_
  refine q_then ?_
  refine w_seq ?_
  refine w_seq ?_
  refine w_R ?_
  refine r_op tabOk hnt rfl (s_move rfl ?_) 
  refine r_op tabOk hnt rfl (s_lenM (l := l) tab_41 rfl (hM_sl (f := enc8) rfl) ?_) 
  refine r_op tabOk hnt rfl (s_move rfl ?_) 
  refine r_end ?_
  refine q_then ?_
  refine w_block ?_
  refine loop2 (fun (n : UInt16) (i : Nat) => i ≤ l.length ∧ n = crcSum (l.take i)) (fun (n : UInt16) (i : Nat) => [(3, p16 n), (7, pS 1 cl_l enc8 l), (8, pN l.length), (9, pN i)]) 0 (fun (n : UInt16) (i : Nat) => []) (fun (n : UInt16) (i : Nat) => l.length - i) (65535) (0) ?_ ⟨[], rfl, ⟨⟨_, rfl, rfl, rfl⟩, ⟨_, rfl, rfl, rfl⟩, ⟨_, rfl, rfl, rfl⟩, ⟨_, rfl, rfl, rfl⟩, trivial⟩, trivial, by rw [hk]; decide⟩ ?_
  · exact ⟨Nat.zero_le _, rfl⟩
  ·
    intro n i hI
    obtain ⟨hi, hn⟩ := hI
    refine w_seq ?_
    refine w_R ?_
    refine r_op tabOk hnt rfl (s_lss rfl rfl ?_) 
    refine r_end ?_
    refine q_then ?_
    refine w_seq ?_
    refine w_if rfl (fun c1 => ?_) (fun c1 => ?_)
    ·
      have c1_ := c1
      try simp only [decide_eq_true_eq, decide_eq_false_iff_not, Bool.not_eq_true', Bool.not_eq_false', Bool.not_true, Bool.not_false, Bool.not_eq_eq_eq_not, Int.not_lt, Int.not_le] at c1
      refine w_skip ?_
      refine q_then ?_
      refine w_seq ?_
      refine w_block ?_
      refine w_seq ?_
      refine w_R ?_
      obtain ⟨e1, he1⟩ := get_of_lt l (i := i) (by omega)
      refine r_op tabOk hnt rfl (s_iaM (q := i) (b := e1) (f := enc8) tab_41 rfl tab_5 rfl rfl (by omega) rfl he1 ?_) 
      refine r_op tabOk hnt rfl (s_load_ro1 tab_5 rfl rfl rfl rfl ?_) 
      refine r_op tabOk hnt rfl (s_assign rfl ?_) 
      refine r_end ?_
      refine q_then ?_
      refine w_seq ?_
      refine w_R ?_
      refine r_op tabOk hnt rfl (s_move rfl ?_) 
      refine r_op tabOk hnt rfl (s_move rfl ?_) 
      refine r_op tabOk hnt rfl (s_conv816 (a := e1) tab_5 tab_30 rfl rfl rfl ?_) 
      refine r_op tabOk hnt rfl (s_xor16 (a := n) (b := e1.toUInt16) rfl rfl ?_) 
      refine r_op tabOk hnt rfl (s_assign rfl ?_) 
      refine r_end ?_
      refine q_then ?_
      refine w_seq ?_
      refine w_R ?_
      refine r_op tabOk hnt rfl (s_move rfl ?_) 
      refine r_end ?_
      refine q_then ?_
      refine w_block ?_
      refine loop2 (fun (m : UInt16) (j : Nat) => j ≤ 8 ∧ m = times crcBit j (n ^^^ e1.toUInt16)) (fun (m : UInt16) (j : Nat) => [(3, p16 m), (7, pS 1 cl_l enc8 l), (8, pN l.length), (9, pN i), (17, pN j)]) 0 (fun (m : UInt16) (j : Nat) => []) (fun (m : UInt16) (j : Nat) => 8 - j) (n ^^^ e1.toUInt16) (0) ?_ ⟨[], rfl, ⟨⟨_, rfl, rfl, rfl⟩, ⟨_, rfl, rfl, rfl⟩, ⟨_, rfl, rfl, rfl⟩, ⟨_, rfl, rfl, rfl⟩, ⟨_, rfl, rfl, rfl⟩, trivial⟩, trivial, by rw [hk]; decide⟩ ?_
      · exact ⟨by omega, rfl⟩
      ·
        intro m j hI
        obtain ⟨hj, hm⟩ := hI
        refine w_seq ?_
        refine w_R ?_
        refine r_op tabOk hnt rfl (s_lss rfl rfl ?_) 
        refine r_end ?_
        refine q_then ?_
        refine w_seq ?_
        refine w_if rfl (fun c2 => ?_) (fun c2 => ?_)
        ·
          have c2_ := c2
          try simp only [decide_eq_true_eq, decide_eq_false_iff_not, Bool.not_eq_true', Bool.not_eq_false', Bool.not_true, Bool.not_false, Bool.not_eq_eq_eq_not, Int.not_lt, Int.not_le] at c2
          refine w_skip ?_
          refine q_then ?_
          refine w_seq ?_
          refine w_block ?_
          refine w_seq ?_
          refine w_R ?_
          refine r_op tabOk hnt rfl (s_move rfl ?_) 
          refine r_op tabOk hnt rfl (s_and16 (a := m) (b := 1) rfl rfl ?_) 
          refine r_op tabOk hnt rfl (s_assign rfl ?_) 
          refine r_end ?_
          refine q_then ?_
          refine w_seq ?_
          refine w_R ?_
          refine r_op tabOk hnt rfl (s_move rfl ?_) 
          refine r_op tabOk hnt rfl (s_shr16 (a := m) 1 rfl rfl (by first | decide | omega) ?_) 
          refine r_op tabOk hnt rfl (s_assign rfl ?_) 
          refine r_end ?_
          refine q_then ?_
          refine w_seq ?_
          refine w_R ?_
          refine r_op tabOk hnt rfl (s_move rfl ?_) 
          refine r_op tabOk hnt rfl (s_eql16 (a := m &&& 1) (b := 1) rfl rfl ?_) 
          refine r_end ?_
          refine q_then ?_
          refine w_if rfl (fun c3 => ?_) (fun c3 => ?_)
          ·
            have c3_ := c3
            try simp only [decide_eq_true_eq, decide_eq_false_iff_not, Bool.not_eq_true', Bool.not_eq_false', Bool.not_true, Bool.not_false, Bool.not_eq_eq_eq_not, Int.not_lt, Int.not_le] at c3
            refine w_R ?_
            refine r_op tabOk hnt rfl (s_move rfl ?_) 
            refine r_op tabOk hnt rfl (s_xor16 (a := m >>> UInt16.ofNat 1) (b := 40961) rfl rfl ?_) 
            refine r_op tabOk hnt rfl (s_assign rfl ?_) 
            refine r_end ?_
            refine q_block ?_
            refine q_then ?_
            refine w_R ?_
            refine r_op tabOk hnt rfl (s_addN (a := j) (b := 1) rfl rfl (by omega) (by omega) (by omega) ?_) 
            refine r_op tabOk hnt rfl (s_move rfl ?_) 
            refine r_end ?_
            refine q_then ?_
            refine ⟨((m >>> UInt16.ofNat 1) ^^^ 40961), (j + 1), ?_, ?_, ⟨[], rfl, ⟨⟨_, rfl, rfl, rfl⟩, ⟨_, rfl, rfl, rfl⟩, ⟨_, rfl, rfl, rfl⟩, ⟨_, rfl, rfl, rfl⟩, ⟨_, rfl, rfl, rfl⟩, trivial⟩, trivial, by rw [hk]; decide⟩⟩
            ·
              refine ⟨by omega, ?_⟩
              simp only [times, crcBit, ← hm, c3, if_true, if_false]
            · omega
          ·
            have c3_ := c3
            try simp only [decide_eq_true_eq, decide_eq_false_iff_not, Bool.not_eq_true', Bool.not_eq_false', Bool.not_true, Bool.not_false, Bool.not_eq_eq_eq_not, Int.not_lt, Int.not_le] at c3
            refine w_skip ?_
            refine q_block ?_
            refine q_then ?_
            refine w_R ?_
            refine r_op tabOk hnt rfl (s_addN (a := j) (b := 1) rfl rfl (by omega) (by omega) (by omega) ?_) 
            refine r_op tabOk hnt rfl (s_move rfl ?_) 
            refine r_end ?_
            refine q_then ?_
            refine ⟨(m >>> UInt16.ofNat 1), (j + 1), ?_, ?_, ⟨[], rfl, ⟨⟨_, rfl, rfl, rfl⟩, ⟨_, rfl, rfl, rfl⟩, ⟨_, rfl, rfl, rfl⟩, ⟨_, rfl, rfl, rfl⟩, ⟨_, rfl, rfl, rfl⟩, trivial⟩, trivial, by rw [hk]; decide⟩⟩
            ·
              refine ⟨by omega, ?_⟩
              simp only [times, crcBit, ← hm, c3, if_true, if_false]
            · omega
        ·
          have c2_ := c2
          try simp only [decide_eq_true_eq, decide_eq_false_iff_not, Bool.not_eq_true', Bool.not_eq_false', Bool.not_true, Bool.not_false, Bool.not_eq_eq_eq_not, Int.not_lt, Int.not_le] at c2
          obtain rfl : j = 8 := by omega
          have hm : m = crcByte (crcSum (l.take i)) e1 := by rw [hm, hn]; rfl
          refine w_exit ?_
          refine q_then_exit ?_
          refine q_then_exit ?_
          refine q_block_exit ?_
          refine q_block ?_
          refine q_then ?_
          refine w_R ?_
          refine r_op tabOk hnt rfl (s_addN (a := i) (b := 1) rfl rfl (by omega) (by omega) (by omega) ?_) 
          refine r_op tabOk hnt rfl (s_move rfl ?_) 
          refine r_end ?_
          refine q_then ?_
          refine ⟨(m), (i + 1), ?_, ?_, ⟨[], rfl, ⟨⟨_, rfl, rfl, rfl⟩, ⟨_, rfl, rfl, rfl⟩, ⟨_, rfl, rfl, rfl⟩, ⟨_, rfl, rfl, rfl⟩, trivial⟩, trivial, by rw [hk]; decide⟩⟩
          ·
            exact ⟨by omega, by rw [crcSum_snoc he1]; exact hm⟩
          · omega
    ·
      have c1_ := c1
      try simp only [decide_eq_true_eq, decide_eq_false_iff_not, Bool.not_eq_true', Bool.not_eq_false', Bool.not_true, Bool.not_false, Bool.not_eq_eq_eq_not, Int.not_lt, Int.not_le] at c1
      refine w_exit ?_
      refine q_then_exit ?_
      refine q_then_exit ?_
      refine q_block_exit ?_
      refine q_then ?_
      refine w_seq ?_
      refine w_R ?_
      refine r_op tabOk hnt rfl (s_move rfl ?_) 
      refine r_op tabOk hnt rfl (s_assign rfl ?_) 
      refine r_end ?_
      refine q_then ?_
      refine w_le (s := 2) (y := p16 (crcSum l)) rfl (le_of_eq (congrArg (fun z : UInt16 => p16 z) (show n = (crcSum l) by rw [hn, List.take_of_length_le (by omega)]))) ?_
      refine w_ret ?_
      exact fin_plain (ret_tmp rfl ret_nil) rfl rfl ⟨rfl, rfl, rfl⟩

theorem w_burgageref1_Sum (l : List UInt8) (cl_l : Bool) (hl : l.length ≤ 140737488355328) :
    T Try.prog 45 [pS 1 cl_l enc8 l] 0 [] (Ret (p16 (crcSum l)) 0 []) := by
  refine t_fun tabOk (n := 32) (rs := [.tmp 2]) Try.func45 rfl rfl rfl rfl (Nat.le_of_ble_eq_true rfl) ?_
  intro c hnt hk
  refine w_seq ?_
  refine w_R ?_
  refine r_op tabOk hnt rfl (s_assign rfl ?_) 
  refine r_end ?_
  refine q_then ?_
  refine w_seq ?_
  refine w_R ?_
  refine r_op tabOk hnt rfl (s_assign rfl ?_) 
  refine r_end ?_
  refine q_then ?_
  refine w_seq ?_
  refine w_seq ?_
  refine w_R ?_
  refine r_op tabOk hnt rfl (s_move rfl ?_) 
  refine r_op tabOk hnt rfl (s_lenM (l := l) tab_41 rfl (hM_sl (f := enc8) rfl) ?_) 
  refine r_op tabOk hnt rfl (s_move rfl ?_) 
  refine r_end ?_
  refine q_then ?_
  refine w_block ?_
  refine loop2 (fun (n : UInt16) (i : Nat) => i ≤ l.length ∧ n = crcSum (l.take i)) (fun (n : UInt16) (i : Nat) => [(3, p16 n), (8, pS 1 cl_l enc8 l), (9, pN l.length), (10, pN i)]) 0 (fun (n : UInt16) (i : Nat) => []) (fun (n : UInt16) (i : Nat) => l.length - i) (65535) (0) ?_ ⟨[], rfl, ⟨⟨_, rfl, rfl, rfl⟩, ⟨_, rfl, rfl, rfl⟩, ⟨_, rfl, rfl, rfl⟩, ⟨_, rfl, rfl, rfl⟩, trivial⟩, trivial, by rw [hk]; decide⟩ ?_
  · exact ⟨Nat.zero_le _, rfl⟩
  ·
    intro n i hI
    obtain ⟨hi, hn⟩ := hI
    refine w_seq ?_
    refine w_R ?_
    refine r_op tabOk hnt rfl (s_lss rfl rfl ?_) 
    refine r_end ?_
    refine q_then ?_
    refine w_seq ?_
    refine w_if rfl (fun c1 => ?_) (fun c1 => ?_)
    ·
      have c1_ := c1
      try simp only [decide_eq_true_eq, decide_eq_false_iff_not, Bool.not_eq_true', Bool.not_eq_false', Bool.not_true, Bool.not_false, Bool.not_eq_eq_eq_not, Int.not_lt, Int.not_le] at c1
      refine w_skip ?_
      refine q_then ?_
      refine w_seq ?_
      refine w_block ?_
      refine w_seq ?_
      refine w_R ?_
      obtain ⟨e1, he1⟩ := get_of_lt l (i := i) (by omega)
      refine r_op tabOk hnt rfl (s_iaM (q := i) (b := e1) (f := enc8) tab_41 rfl tab_5 rfl rfl (by omega) rfl he1 ?_) 
      refine r_op tabOk hnt rfl (s_load_ro1 tab_5 rfl rfl rfl rfl ?_) 
      refine r_op tabOk hnt rfl (s_assign rfl ?_) 
      refine r_end ?_
      refine q_then ?_
      refine w_seq ?_
      refine w_R ?_
      refine r_op tabOk hnt rfl (s_move rfl ?_) 
      refine r_op tabOk hnt rfl (s_move rfl ?_) 
      refine r_op tabOk hnt rfl (s_conv816 (a := e1) tab_5 tab_30 rfl rfl rfl ?_) 
      refine r_op tabOk hnt rfl (s_xor16 (a := n) (b := e1.toUInt16) rfl rfl ?_) 
      refine r_op tabOk hnt rfl (s_assign rfl ?_) 
      refine r_end ?_
      refine q_then ?_
      refine w_seq ?_
      refine w_R ?_
      refine r_op tabOk hnt rfl (s_assign rfl ?_) 
      refine r_end ?_
      refine q_then ?_
      refine w_block ?_
      refine loop2 (fun (m : UInt16) (j : Nat) => j ≤ 8 ∧ m = times crcBit j (n ^^^ e1.toUInt16)) (fun (m : UInt16) (j : Nat) => [(3, p16 m), (6, pN j), (8, pS 1 cl_l enc8 l), (9, pN l.length), (10, pN i)]) 0 (fun (m : UInt16) (j : Nat) => []) (fun (m : UInt16) (j : Nat) => 8 - j) (n ^^^ e1.toUInt16) (0) ?_ ⟨[], rfl, ⟨⟨_, rfl, rfl, rfl⟩, ⟨_, rfl, rfl, rfl⟩, ⟨_, rfl, rfl, rfl⟩, ⟨_, rfl, rfl, rfl⟩, ⟨_, rfl, rfl, rfl⟩, trivial⟩, trivial, by rw [hk]; decide⟩ ?_
      · exact ⟨by omega, rfl⟩
      ·
        intro m j hI
        obtain ⟨hj, hm⟩ := hI
        refine w_seq ?_
        refine w_seq ?_
        refine w_R ?_
        refine r_op tabOk hnt rfl (s_move rfl ?_) 
        refine r_op tabOk hnt rfl (s_lss rfl rfl ?_) 
        refine r_end ?_
        refine q_then ?_
        refine w_if rfl (fun c2 => ?_) (fun c2 => ?_)
        ·
          have c2_ := c2
          try simp only [decide_eq_true_eq, decide_eq_false_iff_not, Bool.not_eq_true', Bool.not_eq_false', Bool.not_true, Bool.not_false, Bool.not_eq_eq_eq_not, Int.not_lt, Int.not_le] at c2
          refine w_skip ?_
          refine q_then ?_
          refine w_seq ?_
          refine w_block ?_
          refine w_seq ?_
          refine w_R ?_
          refine r_op tabOk hnt rfl (s_move rfl ?_) 
          refine r_op tabOk hnt rfl (s_and16 (a := m) (b := 1) rfl rfl ?_) 
          refine r_op tabOk hnt rfl (s_assign rfl ?_) 
          refine r_end ?_
          refine q_then ?_
          refine w_seq ?_
          refine w_R ?_
          refine r_op tabOk hnt rfl (s_move rfl ?_) 
          refine r_op tabOk hnt rfl (s_shr16 (a := m) 1 rfl rfl (by first | decide | omega) ?_) 
          refine r_op tabOk hnt rfl (s_assign rfl ?_) 
          refine r_end ?_
          refine q_then ?_
          refine w_seq ?_
          refine w_R ?_
          refine r_op tabOk hnt rfl (s_move rfl ?_) 
          refine r_op tabOk hnt rfl (s_eql16 (a := m &&& 1) (b := 1) rfl rfl ?_) 
          refine r_end ?_
          refine q_then ?_
          refine w_if rfl (fun c3 => ?_) (fun c3 => ?_)
          ·
            have c3_ := c3
            try simp only [decide_eq_true_eq, decide_eq_false_iff_not, Bool.not_eq_true', Bool.not_eq_false', Bool.not_true, Bool.not_false, Bool.not_eq_eq_eq_not, Int.not_lt, Int.not_le] at c3
            refine w_R ?_
            refine r_op tabOk hnt rfl (s_move rfl ?_) 
            refine r_op tabOk hnt rfl (s_xor16 (a := m >>> UInt16.ofNat 1) (b := 40961) rfl rfl ?_) 
            refine r_op tabOk hnt rfl (s_assign rfl ?_) 
            refine r_end ?_
            refine q_block ?_
            refine q_then ?_
            refine w_R ?_
            refine r_op tabOk hnt rfl (s_move rfl ?_) 
            refine r_op tabOk hnt rfl (s_addN (a := j) (b := 1) rfl rfl (by omega) (by omega) (by omega) ?_) 
            refine r_op tabOk hnt rfl (s_assign rfl ?_) 
            refine r_end ?_
            refine q_then ?_
            refine ⟨((m >>> UInt16.ofNat 1) ^^^ 40961), (j + 1), ?_, ?_, ⟨[], rfl, ⟨⟨_, rfl, rfl, rfl⟩, ⟨_, rfl, rfl, rfl⟩, ⟨_, rfl, rfl, rfl⟩, ⟨_, rfl, rfl, rfl⟩, ⟨_, rfl, rfl, rfl⟩, trivial⟩, trivial, by rw [hk]; decide⟩⟩
            ·
              refine ⟨by omega, ?_⟩
              simp only [times, crcBit, ← hm, c3, if_true, if_false]
            · omega
          ·
            have c3_ := c3
            try simp only [decide_eq_true_eq, decide_eq_false_iff_not, Bool.not_eq_true', Bool.not_eq_false', Bool.not_true, Bool.not_false, Bool.not_eq_eq_eq_not, Int.not_lt, Int.not_le] at c3
            refine w_skip ?_
            refine q_block ?_
            refine q_then ?_
            refine w_R ?_
            refine r_op tabOk hnt rfl (s_move rfl ?_) 
            refine r_op tabOk hnt rfl (s_addN (a := j) (b := 1) rfl rfl (by omega) (by omega) (by omega) ?_) 
            refine r_op tabOk hnt rfl (s_assign rfl ?_) 
            refine r_end ?_
            refine q_then ?_
            refine ⟨(m >>> UInt16.ofNat 1), (j + 1), ?_, ?_, ⟨[], rfl, ⟨⟨_, rfl, rfl, rfl⟩, ⟨_, rfl, rfl, rfl⟩, ⟨_, rfl, rfl, rfl⟩, ⟨_, rfl, rfl, rfl⟩, ⟨_, rfl, rfl, rfl⟩, trivial⟩, trivial, by rw [hk]; decide⟩⟩
            ·
              refine ⟨by omega, ?_⟩
              simp only [times, crcBit, ← hm, c3, if_true, if_false]
            · omega
        ·
          have c2_ := c2
          try simp only [decide_eq_true_eq, decide_eq_false_iff_not, Bool.not_eq_true', Bool.not_eq_false', Bool.not_true, Bool.not_false, Bool.not_eq_eq_eq_not, Int.not_lt, Int.not_le] at c2
          obtain rfl : j = 8 := by omega
          have hm : m = crcByte (crcSum (l.take i)) e1 := by rw [hm, hn]; rfl
          refine w_exit ?_
          refine q_then_exit ?_
          refine q_then_exit ?_
          refine q_block_exit ?_
          refine q_block ?_
          refine q_then ?_
          refine w_R ?_
          refine r_op tabOk hnt rfl (s_addN (a := i) (b := 1) rfl rfl (by omega) (by omega) (by omega) ?_) 
          refine r_op tabOk hnt rfl (s_move rfl ?_) 
          refine r_end ?_
          refine q_then ?_
          refine ⟨(m), (i + 1), ?_, ?_, ⟨[], rfl, ⟨⟨_, rfl, rfl, rfl⟩, ⟨_, rfl, rfl, rfl⟩, ⟨_, rfl, rfl, rfl⟩, ⟨_, rfl, rfl, rfl⟩, trivial⟩, trivial, by rw [hk]; decide⟩⟩
          ·
            exact ⟨by omega, by rw [crcSum_snoc he1]; exact hm⟩
          · omega
    ·
      have c1_ := c1
      try simp only [decide_eq_true_eq, decide_eq_false_iff_not, Bool.not_eq_true', Bool.not_eq_false', Bool.not_true, Bool.not_false, Bool.not_eq_eq_eq_not, Int.not_lt, Int.not_le] at c1
      refine w_exit ?_
      refine q_then_exit ?_
      refine q_then_exit ?_
      refine q_block_exit ?_
      refine q_then ?_
      refine w_seq ?_
      refine w_R ?_
      refine r_op tabOk hnt rfl (s_move rfl ?_) 
      refine r_op tabOk hnt rfl (s_assign rfl ?_) 
      refine r_end ?_
      refine q_then ?_
      refine w_le (s := 2) (y := p16 (crcSum l)) rfl (le_of_eq (congrArg (fun z : UInt16 => p16 z) (show n = (crcSum l) by rw [hn, List.take_of_length_le (by omega)]))) ?_
      refine w_ret ?_
      exact fin_plain (ret_tmp rfl ret_nil) rfl rfl ⟨rfl, rfl, rfl⟩

theorem w_crc_Seal (l : List UInt8) (cl_l : Bool) (hl : l.length ≤ 140737488355326) :
    T Try.prog 47 [pS 1 cl_l enc8 l] 0 [] (Ret (PV.ref 0 0 none) 1 [(0, oB true 1 enc8 (sealL l))]) := by
  refine t_fun tabOk (n := 15) (rs := [.tmp 2]) Try.func47 rfl rfl rfl rfl (Nat.le_of_ble_eq_true rfl) ?_
  intro c hnt hk
  refine w_seq ?_
  refine w_R ?_
  refine r_op tabOk hnt rfl (s_assign rfl ?_) 
  refine r_end ?_
  refine q_then ?_
  refine w_seq ?_
  refine w_R ?_
  refine r_op tabOk hnt rfl (s_move rfl ?_) 
  refine r_op tabOk hnt rfl (s_callF rfl rfl rfl (w_crc_Of l cl_l (by first | omega | assumption | (simp; omega) | decide | (simp; done))) rfl ?_) 
  refine r_op tabOk hnt rfl (s_assign rfl ?_) 
  refine r_end ?_
  refine q_then ?_
  refine w_seq ?_
  refine w_R ?_
  refine r_op tabOk hnt rfl (s_move rfl ?_) 
  refine r_op tabOk hnt rfl (s_callF rfl rfl rfl (w_slices_Clip_byte_byte l cl_l) rfl ?_) 
  refine r_op tabOk hnt rfl (s_move rfl ?_) 
  refine r_op tabOk hnt rfl (s_conv168 (a := crcSum l) tab_30 tab_5 rfl rfl rfl ?_) 
  refine r_op tabOk hnt rfl (s_move rfl ?_) 
  refine r_op tabOk hnt rfl (s_shr16 (a := crcSum l) 8 rfl rfl (by first | decide | omega) ?_) 
  refine r_op tabOk hnt rfl (s_conv168 (a := (crcSum l) >>> UInt16.ofNat 8) tab_30 tab_5 rfl rfl rfl ?_) 
  refine r_op tabOk hnt rfl (s_mkM (f := enc8) [(crcSum l).toUInt8, ((crcSum l) >>> UInt16.ofNat 8).toUInt8] tab_41 rfl tab_5 ⟨rfl, by decide⟩ (by decide) rfl rfl rfl rfl ?_) 
  refine r_op tabOk hnt rfl (s_appC (f := enc8) (l := l) (xs := [(crcSum l).toUInt8, ((crcSum l) >>> UInt16.ofNat 8).toUInt8]) tab_41 rfl tab_5 ⟨rfl, by decide, by decide⟩ (srcM tab_41 rfl (hM_ref0 (f := enc8) rfl rfl)) rfl (by first | omega | (simp; omega)) (by simp) ?_) 
  refine r_op tabOk hnt rfl (s_assign rfl ?_) 
  refine r_set [(2, PV.ref 1 0 none)] [(1, oB true 1 enc8 (l ++ [(crcSum l).toUInt8, ((crcSum l) >>> UInt16.ofNat 8).toUInt8])), (0, oB true 1 enc8 [(crcSum l).toUInt8, ((crcSum l) >>> UInt16.ofNat 8).toUInt8])] 2 ⟨rfl, trivial⟩ rfl rfl ?_
  refine r_end ?_
  refine q_then ?_
  refine w_H (H' := [(1, oB true 1 enc8 (sealL l)), (0, oB true 1 enc8 [(crcSum l).toUInt8, ((crcSum l) >>> UInt16.ofNat 8).toUInt8])]) (congrArg (fun z => ([(1, oB true 1 enc8 z), (0, oB true 1 enc8 [(crcSum l).toUInt8, ((crcSum l) >>> UInt16.ofNat 8).toUInt8])] : Heap)) (show l ++ [(crcSum l).toUInt8, ((crcSum l) >>> UInt16.ofNat 8).toUInt8] = sealL l by first | rfl | (simp [sealL]; done) | simp [sealL])) ?_
  refine w_ret ?_
  exact fin_names (nx1 := 1) (H1 := [(0, oB true 1 enc8 (sealL l))]) [(0, 1)] (ret_tmp rfl ret_nil) rfl (by decide) ⟨⟨_, _, rfl, rfl, rfl, rfl⟩, trivial⟩ (by decide) rfl ⟨rfl, rfl, rfl⟩

theorem w_burgageref1_Seal (l : List UInt8) (cl_l : Bool) (hl : l.length ≤ 140737488355326) :
    T Try.prog 25 [pS 1 cl_l enc8 l] 0 [] (Ret (PV.ref 0 0 none) 1 [(0, oB true 1 enc8 (sealL l))]) := by
  refine t_fun tabOk (n := 16) (rs := [.tmp 2]) Try.func25 rfl rfl rfl rfl (Nat.le_of_ble_eq_true rfl) ?_
  intro c hnt hk
  refine w_seq ?_
  refine w_R ?_
  refine r_op tabOk hnt rfl (s_assign rfl ?_) 
  refine r_end ?_
  refine q_then ?_
  refine w_seq ?_
  refine w_R ?_
  refine r_op tabOk hnt rfl (s_move rfl ?_) 
  refine r_op tabOk hnt rfl (s_callF rfl rfl rfl (w_burgageref1_Sum l cl_l (by first | omega | assumption | (simp; omega) | decide | (simp; done))) rfl ?_) 
  refine r_op tabOk hnt rfl (s_assign rfl ?_) 
  refine r_end ?_
  refine q_then ?_
  refine w_seq ?_
  refine w_R ?_
  refine r_op tabOk hnt rfl (s_mkM (f := enc8) ([] : List UInt8) tab_41 rfl tab_5 ⟨rfl, by decide⟩ (by decide) rfl rfl rfl rfl ?_) 
  refine r_op tabOk hnt rfl (s_move rfl ?_) 
  refine r_op tabOk hnt rfl (s_appR0 (f := enc8) (l := ([] : List UInt8)) (xs := l) tab_41 rfl tab_5 ⟨rfl, by decide, by decide⟩ (srcM tab_41 rfl (hM_sl (f := enc8) rfl)) rfl rfl (by first | omega | (simp; omega)) ?_) 
  refine r_op tabOk hnt rfl (s_move rfl ?_) 
  refine r_op tabOk hnt rfl (s_conv168 (a := crcSum l) tab_30 tab_5 rfl rfl rfl ?_) 
  refine r_op tabOk hnt rfl (s_move rfl ?_) 
  refine r_op tabOk hnt rfl (s_shr16 (a := crcSum l) 8 rfl rfl (by first | decide | omega) ?_) 
  refine r_op tabOk hnt rfl (s_conv168 (a := (crcSum l) >>> UInt16.ofNat 8) tab_30 tab_5 rfl rfl rfl ?_) 
  refine r_op tabOk hnt rfl (s_mkM (f := enc8) [(crcSum l).toUInt8, ((crcSum l) >>> UInt16.ofNat 8).toUInt8] tab_41 rfl tab_5 ⟨rfl, by decide⟩ (by decide) rfl rfl rfl rfl ?_) 
  refine r_op tabOk hnt rfl (s_appR0 (f := enc8) (l := l) (xs := [(crcSum l).toUInt8, ((crcSum l) >>> UInt16.ofNat 8).toUInt8]) tab_41 rfl tab_5 ⟨rfl, by decide, by decide⟩ (srcM tab_41 rfl (hM_ref0 (f := enc8) rfl rfl)) rfl rfl (by first | omega | (simp; omega)) ?_) 
  refine r_op tabOk hnt rfl (s_assign rfl ?_) 
  refine r_set [(2, PV.ref 3 0 none)] [(3, oB true 1 enc8 (l ++ [(crcSum l).toUInt8, ((crcSum l) >>> UInt16.ofNat 8).toUInt8])), (2, oB true 1 enc8 [(crcSum l).toUInt8, ((crcSum l) >>> UInt16.ofNat 8).toUInt8])] 4 ⟨rfl, trivial⟩ rfl rfl ?_
  refine r_end ?_
  refine q_then ?_
  refine w_H (H' := [(3, oB true 1 enc8 (sealL l)), (2, oB true 1 enc8 [(crcSum l).toUInt8, ((crcSum l) >>> UInt16.ofNat 8).toUInt8])]) (congrArg (fun z => ([(3, oB true 1 enc8 z), (2, oB true 1 enc8 [(crcSum l).toUInt8, ((crcSum l) >>> UInt16.ofNat 8).toUInt8])] : Heap)) (show l ++ [(crcSum l).toUInt8, ((crcSum l) >>> UInt16.ofNat 8).toUInt8] = sealL l by first | rfl | (simp [sealL]; done) | simp [sealL])) ?_
  refine w_ret ?_
  exact fin_names (nx1 := 1) (H1 := [(0, oB true 1 enc8 (sealL l))]) [(0, 3)] (ret_tmp rfl ret_nil) rfl (by decide) ⟨⟨_, _, rfl, rfl, rfl, rfl⟩, trivial⟩ (by decide) rfl ⟨rfl, rfl, rfl⟩

theorem w_crc_Open (l : List UInt8) (cl_l : Bool) (hl : l.length ≤ 140737488355328) :
    T Try.prog 48 [pS 1 cl_l enc8 l] 0 [] (Ret (PV.tup [pS 1 false enc8 (openL l), pB (openOk l)]) 0 []) := by
  refine t_fun tabOk (n := 23) (rs := [.tmp 2, .tmp 3]) Try.func48 rfl rfl rfl rfl (Nat.le_of_ble_eq_true rfl) ?_
  intro c hnt hk
  refine w_seq ?_
  refine w_R ?_
  refine r_op tabOk hnt rfl (s_assign rfl ?_) 
  refine r_op tabOk hnt rfl (s_assign rfl ?_) 
  refine r_end ?_
  refine q_then ?_
  refine w_seq ?_
  refine w_R ?_
  refine r_op tabOk hnt rfl (s_move rfl ?_) 
  refine r_op tabOk hnt rfl (s_lenM (l := l) tab_41 rfl (hM_sl (f := enc8) rfl) ?_) 
  refine r_op tabOk hnt rfl (s_subi (r := ((l.length : Nat) : Int) - 2) rfl rfl rfl (by omega) ?_) 
  refine r_op tabOk hnt rfl (s_assign rfl ?_) 
  refine r_end ?_
  refine q_then ?_
  refine w_seq ?_
  refine w_seq ?_
  refine w_R ?_
  refine r_op tabOk hnt rfl (s_move rfl ?_) 
  refine r_op tabOk hnt rfl (s_lss rfl rfl ?_) 
  refine r_op tabOk hnt rfl (s_move rfl ?_) 
  refine r_if tabOk hnt rfl rfl rfl (fun g1 => ?_) (fun g1 => ?_)
  ·
    have g1' := g1
    try simp only [decide_eq_true_eq, decide_eq_false_iff_not, Bool.not_eq_true', Bool.not_eq_false', Bool.not_true, Bool.not_false, Bool.not_eq_eq_eq_not, Int.not_lt, Int.not_le] at g1'
    refine r_eq (s := 4) (y := pN (l.length - 2)) rfl (congrArg (fun z : Int => pI z) (show (((l.length : Nat) : Int) - 2) = ((l.length - 2 : Nat) : Int) by omega)) ?_
    refine r_op tabOk hnt rfl (s_move rfl ?_) 
    refine r_if tabOk hnt rfl rfl rfl (fun _ => ?_) (fun e => absurd (e.symm.trans g1) (by decide))
    refine r_op tabOk hnt rfl (s_move rfl ?_) 
    refine r_if tabOk hnt rfl rfl rfl (fun _ => ?_) (fun e => absurd (e.symm.trans g1) (by decide))
    refine r_op tabOk hnt rfl (s_cutM_hi (b := l.length - 2) (f := enc8) (l := l) tab_41 rfl tab_5 ⟨rfl, by decide⟩ rfl (bound_some rfl (by omega)) (by omega) ?_) 
    refine r_if tabOk hnt rfl rfl rfl (fun _ => ?_) (fun e => absurd (e.symm.trans g1) (by decide))
    refine r_op tabOk hnt rfl (s_callX (r2 := PV.ref 0 0 none) (nx1 := 1) (H2 := []) (H3 := [(0, oB true 1 enc8 (sealL (l.take (l.length - 2))))]) [] [] rfl rfl rfl (handed_of (by decide) trivial) rfl rfl rfl rfl rfl rfl (w_crc_Seal (l.take (l.length - 2)) false (by first | omega | assumption | (simp; omega) | decide | (simp; done))) rfl (dist_of rfl) rfl rfl rfl rfl ?_) 
    refine r_if tabOk hnt rfl rfl rfl (fun _ => ?_) (fun e => absurd (e.symm.trans g1) (by decide))
    refine r_op tabOk hnt rfl (s_move rfl ?_) 
    refine r_if tabOk hnt rfl rfl rfl (fun _ => ?_) (fun e => absurd (e.symm.trans g1) (by decide))
    refine r_op tabOk hnt rfl (s_callX (r2 := pB (decide ((sealL (l.take (l.length - 2))) = l))) (nx1 := 1) (H2 := [(0, oB false 1 enc8 (sealL (l.take (l.length - 2))))]) (H3 := [(0, oB false 1 enc8 (sealL (l.take (l.length - 2))))]) [] [] rfl rfl rfl (handed_of (by decide) trivial) rfl rfl rfl rfl rfl rfl (w_slices_Equal_byte_byte (sealL (l.take (l.length - 2))) false l cl_l (by first | omega | assumption | (simp; omega) | decide | (simp; done))) rfl (dist_of rfl) rfl rfl rfl rfl ?_) 
    refine r_if tabOk hnt rfl rfl rfl (fun _ => ?_) (fun e => absurd (e.symm.trans g1) (by decide))
    refine r_op tabOk hnt rfl (s_not rfl ?_) 
    refine r_op tabOk hnt rfl (s_pick_f rfl g1 rfl ?_) 
    refine r_set [(0, pS 1 cl_l enc8 l), (4, pN (l.length - 2)), (18, pB (!(decide ((sealL (l.take (l.length - 2))) = l))))] [(0, oB false 1 enc8 (sealL (l.take (l.length - 2))))] 1 ⟨rfl, rfl, rfl, trivial⟩ rfl rfl ?_
    refine r_end ?_
    refine q_then ?_
    refine w_if rfl (fun c1 => ?_) (fun c1 => ?_)
    ·
      have c1_ := c1
      try simp only [decide_eq_true_eq, decide_eq_false_iff_not, Bool.not_eq_true', Bool.not_eq_false', Bool.not_true, Bool.not_false, Bool.not_eq_eq_eq_not, Int.not_lt, Int.not_le] at c1
      have hb : sealL (l.take (l.length - 2)) ≠ l := by first | simpa using c1_ | simpa using c1 | simpa [hn2] using c1_
      have e : openOk l = false := by simp [openOk]; intro _; simpa using hb
      have e2 : openL l = [] := by simp [openL, e]
      refine w_seq ?_
      refine w_R ?_
      refine r_op tabOk hnt rfl (s_assign rfl ?_) 
      refine r_op tabOk hnt rfl (s_assign rfl ?_) 
      refine r_end ?_
      refine q_then ?_
      refine w_le (s := 2) (y := pS 1 false enc8 []) rfl (le_nilS 1 false) ?_
      refine w_le (s := 2) (y := pS 1 false enc8 (openL l)) rfl (le_of_eq (congrArg (fun z => pS 1 false enc8 z) (show [] = (openL l) by first | (rw [e]; done) | (rw [e2]; done) | (simp [e2]; done) | (simp [e2, hn2]; done)))) ?_
      refine w_le (s := 3) (y := pB (openOk l)) rfl (le_of_eq (congrArg (fun z : Bool => pB z) (show false = (openOk l) by first | (rw [e]; done) | (rw [e2]; done) | (simp [e2]; done) | (simp [e2, hn2]; done)))) ?_
      refine w_ret ?_
      refine q_then_ret ?_
      exact fin_plain (ret_tmp rfl (ret_tmp rfl ret_nil)) rfl rfl ⟨rfl, rfl, rfl⟩
    ·
      have c1_ := c1
      try simp only [decide_eq_true_eq, decide_eq_false_iff_not, Bool.not_eq_true', Bool.not_eq_false', Bool.not_true, Bool.not_false, Bool.not_eq_eq_eq_not, Int.not_lt, Int.not_le] at c1
      have hb : sealL (l.take (l.length - 2)) = l := by first | simpa using c1_ | simpa using c1 | simpa [hn2] using c1_
      have e : openOk l = true := by simp [openOk]; exact ⟨by omega, by simpa using hb⟩
      have e2 : openL l = l.take (l.length - 2) := by simp [openL, e]
      refine w_skip ?_
      refine q_then ?_
      refine w_seq ?_
      refine w_R ?_
      refine r_op tabOk hnt rfl (s_move rfl ?_) 
      refine r_op tabOk hnt rfl (s_move rfl ?_) 
      refine r_op tabOk hnt rfl (s_cutM_hi (b := l.length - 2) (f := enc8) (l := l) tab_41 rfl tab_5 ⟨rfl, by decide⟩ rfl (bound_some rfl (by omega)) (by omega) ?_) 
      refine r_op tabOk hnt rfl (s_callX (r2 := PV.ref 1 0 none) (nx1 := 2) (H2 := [(0, oB false 1 enc8 (sealL (l.take (l.length - 2))))]) (H3 := [(1, oB true 1 enc8 (l.take (l.length - 2))), (0, oB false 1 enc8 (sealL (l.take (l.length - 2))))]) [] [] rfl rfl rfl (handed_of (by decide) trivial) rfl rfl rfl rfl rfl rfl (w_slices_Clone_byte_byte (l.take (l.length - 2)) false (by first | omega | assumption | (simp; omega) | decide | (simp; done))) rfl (dist_of rfl) rfl rfl rfl rfl ?_) 
      refine r_op tabOk hnt rfl (s_assign rfl ?_) 
      refine r_op tabOk hnt rfl (s_assign rfl ?_) 
      refine r_set [(2, PV.ref 1 0 none), (3, pB true)] [(1, oB true 1 enc8 (l.take (l.length - 2))), (0, oB false 1 enc8 (sealL (l.take (l.length - 2))))] 2 ⟨rfl, rfl, trivial⟩ rfl rfl ?_
      refine r_end ?_
      refine q_then ?_
      refine w_frzM (s := 2) (f := enc8) rfl rfl view_0 ?_
      refine w_le (s := 2) (y := pS 1 false enc8 (openL l)) rfl (le_of_eq (congrArg (fun z => pS 1 false enc8 z) (show (l.take (l.length - 2)) = (openL l) by first | (rw [e]; done) | (rw [e2]; done) | (simp [e2]; done) | (simp [e2, hn2]; done)))) ?_
      refine w_le (s := 3) (y := pB (openOk l)) rfl (le_of_eq (congrArg (fun z : Bool => pB z) (show true = (openOk l) by first | (rw [e]; done) | (rw [e2]; done) | (simp [e2]; done) | (simp [e2, hn2]; done)))) ?_
      refine w_ret ?_
      exact fin_plain (ret_tmp rfl (ret_tmp rfl ret_nil)) rfl rfl ⟨rfl, rfl, rfl⟩
  ·
    have g1' := g1
    try simp only [decide_eq_true_eq, decide_eq_false_iff_not, Bool.not_eq_true', Bool.not_eq_false', Bool.not_true, Bool.not_false, Bool.not_eq_eq_eq_not, Int.not_lt, Int.not_le] at g1'
    have e0 : ¬ 2 ≤ l.length := by omega
    have e : openOk l = false := by simp [openOk, e0]
    have e2 : openL l = [] := by simp [openL, e]
    refine r_if tabOk hnt rfl rfl rfl (fun e => absurd (e.symm.trans g1) (by decide)) (fun _ => ?_)
    refine r_if tabOk hnt rfl rfl rfl (fun e => absurd (e.symm.trans g1) (by decide)) (fun _ => ?_)
    refine r_if tabOk hnt rfl rfl rfl (fun e => absurd (e.symm.trans g1) (by decide)) (fun _ => ?_)
    refine r_if tabOk hnt rfl rfl rfl (fun e => absurd (e.symm.trans g1) (by decide)) (fun _ => ?_)
    refine r_if tabOk hnt rfl rfl rfl (fun e => absurd (e.symm.trans g1) (by decide)) (fun _ => ?_)
    refine r_if tabOk hnt rfl rfl rfl (fun e => absurd (e.symm.trans g1) (by decide)) (fun _ => ?_)
    refine r_op tabOk hnt rfl (s_pick_t rfl g1 rfl ?_) 
    refine r_end ?_
    refine q_then ?_
    refine w_if rfl (fun _ => ?_) (fun e => absurd e (by decide))
    refine w_seq ?_
    refine w_R ?_
    refine r_op tabOk hnt rfl (s_assign rfl ?_) 
    refine r_op tabOk hnt rfl (s_assign rfl ?_) 
    refine r_end ?_
    refine q_then ?_
    refine w_le (s := 2) (y := pS 1 false enc8 []) rfl (le_nilS 1 false) ?_
    refine w_le (s := 2) (y := pS 1 false enc8 (openL l)) rfl (le_of_eq (congrArg (fun z => pS 1 false enc8 z) (show [] = (openL l) by first | (rw [e]; done) | (rw [e2]; done) | (simp [e2]; done) | (simp [e2, hn2]; done)))) ?_
    refine w_le (s := 3) (y := pB (openOk l)) rfl (le_of_eq (congrArg (fun z : Bool => pB z) (show false = (openOk l) by first | (rw [e]; done) | (rw [e2]; done) | (simp [e2]; done) | (simp [e2, hn2]; done)))) ?_
    refine w_ret ?_
    refine q_then_ret ?_
    exact fin_plain (ret_tmp rfl (ret_tmp rfl ret_nil)) rfl rfl ⟨rfl, rfl, rfl⟩

theorem w_burgageref1_Unseal (l : List UInt8) (cl_l : Bool) (hl : l.length ≤ 140737488355328) :
    T Try.prog 62 [pS 1 cl_l enc8 l] 0 [] (Ret (PV.tup [pS 1 false enc8 (openL l), pB (openOk l)]) 0 []) := by
  refine t_fun tabOk (n := 25) (rs := [.tmp 2, .tmp 3]) Try.func62 rfl rfl rfl rfl (Nat.le_of_ble_eq_true rfl) ?_
  intro c hnt hk
  refine w_seq ?_
  refine w_R ?_
  refine r_op tabOk hnt rfl (s_assign rfl ?_) 
  refine r_op tabOk hnt rfl (s_assign rfl ?_) 
  refine r_end ?_
  refine q_then ?_
  refine w_seq ?_
  refine w_R ?_
  refine r_op tabOk hnt rfl (s_move rfl ?_) 
  refine r_op tabOk hnt rfl (s_lenM (l := l) tab_41 rfl (hM_sl (f := enc8) rfl) ?_) 
  refine r_op tabOk hnt rfl (s_subi (r := ((l.length : Nat) : Int) - 2) rfl rfl rfl (by omega) ?_) 
  refine r_op tabOk hnt rfl (s_assign rfl ?_) 
  refine r_end ?_
  refine q_then ?_
  refine w_seq ?_
  refine w_seq ?_
  refine W_drawn tabOk mixed hnt [[], [0], [0, 1], [0, 1, 2], [0, 1, 2], [0, 1, 2, 3, 4], [0, 1, 2, 3, 4, 5], [0, 1, 2, 3, 4, 5, 6], [0, 1, 2], [0, 1, 2, 8], [0, 1, 2, 3, 4, 5, 6, 7, 8, 9], [0, 1, 2, 3, 4, 5, 6, 7, 8, 9, 10]] (by kernel_rfl) ?_
  refine d_op ?_
  refine x_run0 [(4, pI (((l.length : Nat) : Int) - 2))] [] rfl rfl rfl rfl (s_move rfl ⟨rfl, rfl, rfl⟩) ?_
  refine d_op ?_
  refine x_run0 [(8, pI (((l.length : Nat) : Int) - 2))] [0] rfl rfl rfl rfl (s_lss rfl rfl ⟨rfl, rfl, rfl⟩) ?_
  refine d_op ?_
  refine x_run0 [(9, pB (decide (((l.length : Nat) : Int) - 2 < 0)))] [0, 1] rfl rfl rfl rfl (s_move rfl ⟨rfl, rfl, rfl⟩) ?_
  refine x_if [(10, pB (decide (((l.length : Nat) : Int) - 2 < 0))), (0, pS 1 cl_l enc8 l)] [0, 1, 2] rfl rfl rfl rfl (fun g1 => ?_) (fun g1 => ?_)
  ·
    have g1' := g1
    try simp only [decide_eq_true_eq, decide_eq_false_iff_not, Bool.not_eq_true', Bool.not_eq_false', Bool.not_true, Bool.not_false, Bool.not_eq_eq_eq_not, Int.not_lt, Int.not_le] at g1'
    have hn2 : Int.toNat (((l.length : Nat) : Int) - 2) = l.length - 2 := by omega
    refine x_run0 [(10, pB (decide (((l.length : Nat) : Int) - 2 < 0))), (0, pS 1 cl_l enc8 l)] [0, 1, 2] rfl rfl rfl rfl (s_move rfl ⟨rfl, rfl, rfl⟩) ?_
    refine x_if [(10, pB (decide (((l.length : Nat) : Int) - 2 < 0))), (4, pI (((l.length : Nat) : Int) - 2))] [0, 1, 2] rfl rfl rfl rfl (fun _ => ?_) (fun e => absurd (e.symm.trans g1) (by decide))
    refine x_run0 [(10, pB (decide (((l.length : Nat) : Int) - 2 < 0))), (4, pI (((l.length : Nat) : Int) - 2))] [0, 1, 2] rfl rfl rfl rfl (s_move rfl ⟨rfl, rfl, rfl⟩) ?_
    refine x_if [(10, pB (decide (((l.length : Nat) : Int) - 2 < 0))), (11, pS 1 cl_l enc8 l), (12, pI (((l.length : Nat) : Int) - 2))] [0, 1, 2, 3, 4] rfl rfl rfl rfl (fun _ => ?_) (fun e => absurd (e.symm.trans g1) (by decide))
    refine x_run0 [(10, pB (decide (((l.length : Nat) : Int) - 2 < 0))), (11, pS 1 cl_l enc8 l), (12, pI (((l.length : Nat) : Int) - 2))] [0, 1, 2, 3, 4] rfl rfl rfl rfl (s_cutM_hi (b := Int.toNat (((l.length : Nat) : Int) - 2)) (f := enc8) (l := l) tab_41 rfl tab_5 ⟨rfl, by decide⟩ rfl (bound_some rfl (by omega)) (by omega) ⟨rfl, rfl, rfl⟩) ?_
    refine x_if [(10, pB (decide (((l.length : Nat) : Int) - 2 < 0))), (13, pS 1 false enc8 (l.take (Int.toNat (((l.length : Nat) : Int) - 2))))] [0, 1, 2, 3, 4, 5] rfl rfl rfl rfl (fun _ => ?_) (fun e => absurd (e.symm.trans g1) (by decide))
    refine x_run [(10, pB (decide (((l.length : Nat) : Int) - 2 < 0))), (13, pS 1 false enc8 (l.take (Int.toNat (((l.length : Nat) : Int) - 2))))] [0, 1, 2, 3, 4, 5] [] [] [(0, oB true 1 enc8 (sealL (l.take (Int.toNat (((l.length : Nat) : Int) - 2)))))] [(0, oB true 1 enc8 (sealL (l.take (Int.toNat (((l.length : Nat) : Int) - 2)))))] [(0, oB true 1 enc8 (sealL (l.take (Int.toNat (((l.length : Nat) : Int) - 2)))))] rfl rfl rfl rfl rfl rfl (s_callX (r2 := PV.ref 0 0 none) (nx1 := 1) (H2 := []) (H3 := [(0, oB true 1 enc8 (sealL (l.take (Int.toNat (((l.length : Nat) : Int) - 2)))))]) [] [] rfl rfl rfl (handed_of (by decide) trivial) rfl rfl rfl rfl rfl rfl (w_burgageref1_Seal (l.take (Int.toNat (((l.length : Nat) : Int) - 2))) false (by first | omega | assumption | (simp; omega) | decide | (simp; done))) rfl (dist_of rfl) rfl rfl rfl rfl ⟨rfl, rfl, rfl⟩) rfl trivial rfl rfl ?_
    refine x_if [(10, pB (decide (((l.length : Nat) : Int) - 2 < 0))), (14, PV.ref 0 0 none)] [0, 1, 2, 3, 4, 5, 6] rfl rfl rfl rfl (fun _ => ?_) (fun e => absurd (e.symm.trans g1) (by decide))
    refine x_run [(10, pB (decide (((l.length : Nat) : Int) - 2 < 0))), (14, PV.ref 0 0 none)] [0, 1, 2, 3, 4, 5, 6] [(0, oB true 1 enc8 (sealL (l.take (Int.toNat (((l.length : Nat) : Int) - 2)))))] [] [(0, oB true 1 enc8 (sealL (l.take (Int.toNat (((l.length : Nat) : Int) - 2)))))] [] [(0, oB true 1 enc8 (sealL (l.take (Int.toNat (((l.length : Nat) : Int) - 2)))))] rfl rfl rfl rfl rfl rfl (s_cvT tab_41 tab_9 rfl tab_5 rfl rfl (hM_ref0 (f := enc8) rfl rfl) ⟨rfl, rfl, rfl⟩) rfl ⟨rfl, trivial⟩ rfl rfl ?_
    refine x_if [(10, pB (decide (((l.length : Nat) : Int) - 2 < 0))), (0, pS 1 cl_l enc8 l)] [0, 1, 2] rfl rfl rfl rfl (fun _ => ?_) (fun e => absurd (e.symm.trans g1) (by decide))
    refine x_run0 [(10, pB (decide (((l.length : Nat) : Int) - 2 < 0))), (0, pS 1 cl_l enc8 l)] [0, 1, 2] rfl rfl rfl rfl (s_move rfl ⟨rfl, rfl, rfl⟩) ?_
    refine x_if [(10, pB (decide (((l.length : Nat) : Int) - 2 < 0))), (16, pS 1 cl_l enc8 l)] [0, 1, 2, 8] rfl rfl rfl rfl (fun _ => ?_) (fun e => absurd (e.symm.trans g1) (by decide))
    refine x_run0 [(10, pB (decide (((l.length : Nat) : Int) - 2 < 0))), (16, pS 1 cl_l enc8 l)] [0, 1, 2, 8] rfl rfl rfl rfl (s_cvT tab_41 tab_9 rfl tab_5 rfl rfl (hM_sl (f := enc8) rfl) ⟨rfl, rfl, rfl⟩) ?_
    refine x_if [(10, pB (decide (((l.length : Nat) : Int) - 2 < 0))), (15, pT (sealL (l.take (Int.toNat (((l.length : Nat) : Int) - 2))))), (17, pT l)] [0, 1, 2, 3, 4, 5, 6, 7, 8, 9] rfl rfl rfl rfl (fun _ => ?_) (fun e => absurd (e.symm.trans g1) (by decide))
    refine x_run0 [(10, pB (decide (((l.length : Nat) : Int) - 2 < 0))), (15, pT (sealL (l.take (Int.toNat (((l.length : Nat) : Int) - 2))))), (17, pT l)] [0, 1, 2, 3, 4, 5, 6, 7, 8, 9] rfl rfl rfl rfl (s_netext (l := sealL (l.take (Int.toNat (((l.length : Nat) : Int) - 2)))) (m := l) rfl rfl ⟨rfl, rfl, rfl⟩) ?_
    refine d_op ?_
    refine x_run0 [(10, pB (decide (((l.length : Nat) : Int) - 2 < 0))), (18, pB (!decide (sealL (l.take (Int.toNat (((l.length : Nat) : Int) - 2))) = l)))] [0, 1, 2, 3, 4, 5, 6, 7, 8, 9, 10] rfl rfl rfl rfl (s_pick_f rfl g1 rfl ⟨rfl, rfl, rfl⟩) ?_
    refine d_end ⟨by kernel_rfl, ?_⟩
    refine q_then ?_
    refine w_if rfl (fun c1 => ?_) (fun c1 => ?_)
    ·
      have c1_ := c1
      try simp only [decide_eq_true_eq, decide_eq_false_iff_not, Bool.not_eq_true', Bool.not_eq_false', Bool.not_true, Bool.not_false, Bool.not_eq_eq_eq_not, Int.not_lt, Int.not_le] at c1
      have hb : sealL (l.take (l.length - 2)) ≠ l := by first | simpa using c1_ | simpa using c1 | simpa [hn2] using c1_
      have e : openOk l = false := by simp [openOk]; intro _; simpa using hb
      have e2 : openL l = [] := by simp [openL, e]
      refine w_seq ?_
      refine w_R ?_
      refine r_op tabOk hnt rfl (s_assign rfl ?_) 
      refine r_op tabOk hnt rfl (s_assign rfl ?_) 
      refine r_end ?_
      refine q_then ?_
      refine w_le (s := 2) (y := pS 1 false enc8 []) rfl (le_nilS 1 false) ?_
      refine w_le (s := 2) (y := pS 1 false enc8 (openL l)) rfl (le_of_eq (congrArg (fun z => pS 1 false enc8 z) (show [] = (openL l) by first | (rw [e]; done) | (rw [e2]; done) | (simp [e2]; done) | (simp [e2, hn2]; done)))) ?_
      refine w_le (s := 3) (y := pB (openOk l)) rfl (le_of_eq (congrArg (fun z : Bool => pB z) (show false = (openOk l) by first | (rw [e]; done) | (rw [e2]; done) | (simp [e2]; done) | (simp [e2, hn2]; done)))) ?_
      refine w_ret ?_
      refine q_then_ret ?_
      exact fin_plain (ret_tmp rfl (ret_tmp rfl ret_nil)) rfl rfl ⟨rfl, rfl, rfl⟩
    ·
      have c1_ := c1
      try simp only [decide_eq_true_eq, decide_eq_false_iff_not, Bool.not_eq_true', Bool.not_eq_false', Bool.not_true, Bool.not_false, Bool.not_eq_eq_eq_not, Int.not_lt, Int.not_le] at c1
      have hb : sealL (l.take (l.length - 2)) = l := by first | simpa using c1_ | simpa using c1 | simpa [hn2] using c1_
      have e : openOk l = true := by simp [openOk]; exact ⟨by omega, by simpa using hb⟩
      have e2 : openL l = l.take (l.length - 2) := by simp [openL, e]
      refine w_skip ?_
      refine q_then ?_
      refine w_seq ?_
      refine w_R ?_
      refine r_op tabOk hnt rfl (s_mkM (f := enc8) ([] : List UInt8) tab_41 rfl tab_5 ⟨rfl, by decide⟩ (by decide) rfl rfl rfl rfl ?_) 
      refine r_op tabOk hnt rfl (s_move rfl ?_) 
      refine r_op tabOk hnt rfl (s_move rfl ?_) 
      refine r_op tabOk hnt rfl (s_cutM_hi (b := Int.toNat (((l.length : Nat) : Int) - 2)) (f := enc8) (l := l) tab_41 rfl tab_5 ⟨rfl, by decide⟩ rfl (bound_some rfl (by omega)) (by omega) ?_) 
      refine r_op tabOk hnt rfl (s_appR0 (f := enc8) (l := ([] : List UInt8)) (xs := l.take (Int.toNat (((l.length : Nat) : Int) - 2))) tab_41 rfl tab_5 ⟨rfl, by decide, by decide⟩ (srcM tab_41 rfl (hM_sl (f := enc8) rfl)) rfl rfl (by first | omega | (simp; omega)) ?_) 
      refine r_op tabOk hnt rfl (s_assign rfl ?_) 
      refine r_op tabOk hnt rfl (s_assign rfl ?_) 
      refine r_set [(2, PV.ref 2 0 none), (3, pB true)] [(2, oB true 1 enc8 (l.take (Int.toNat (((l.length : Nat) : Int) - 2)))), (0, oB true 1 enc8 (sealL (l.take (Int.toNat (((l.length : Nat) : Int) - 2)))))] 3 ⟨rfl, rfl, trivial⟩ rfl rfl ?_
      refine r_end ?_
      refine q_then ?_
      refine w_frzM (s := 2) (f := enc8) rfl rfl view_0 ?_
      refine w_le (s := 2) (y := pS 1 false enc8 (openL l)) rfl (le_of_eq (congrArg (fun z => pS 1 false enc8 z) (show (l.take (Int.toNat (((l.length : Nat) : Int) - 2))) = (openL l) by first | (rw [e]; done) | (rw [e2]; done) | (simp [e2]; done) | (simp [e2, hn2]; done)))) ?_
      refine w_le (s := 3) (y := pB (openOk l)) rfl (le_of_eq (congrArg (fun z : Bool => pB z) (show true = (openOk l) by first | (rw [e]; done) | (rw [e2]; done) | (simp [e2]; done) | (simp [e2, hn2]; done)))) ?_
      refine w_ret ?_
      exact fin_plain (ret_tmp rfl (ret_tmp rfl ret_nil)) rfl rfl ⟨rfl, rfl, rfl⟩
  ·
    have g1' := g1
    try simp only [decide_eq_true_eq, decide_eq_false_iff_not, Bool.not_eq_true', Bool.not_eq_false', Bool.not_true, Bool.not_false, Bool.not_eq_eq_eq_not, Int.not_lt, Int.not_le] at g1'
    have e0 : ¬ 2 ≤ l.length := by omega
    have e : openOk l = false := by simp [openOk, e0]
    have e2 : openL l = [] := by simp [openL, e]
    refine x_if [(10, pB (decide (((l.length : Nat) : Int) - 2 < 0))), (4, pI (((l.length : Nat) : Int) - 2))] [0, 1, 2] rfl rfl rfl rfl (fun e => absurd (e.symm.trans g1) (by decide)) (fun _ => ?_)
    refine x_if [(10, pB (decide (((l.length : Nat) : Int) - 2 < 0))), (11, undefP), (12, undefP)] [0, 1, 2, 3, 4] rfl rfl rfl rfl (fun e => absurd (e.symm.trans g1) (by decide)) (fun _ => ?_)
    refine x_if [(10, pB (decide (((l.length : Nat) : Int) - 2 < 0))), (13, undefP)] [0, 1, 2, 3, 4, 5] rfl rfl rfl rfl (fun e => absurd (e.symm.trans g1) (by decide)) (fun _ => ?_)
    refine x_if [(10, pB (decide (((l.length : Nat) : Int) - 2 < 0))), (14, undefP)] [0, 1, 2, 3, 4, 5, 6] rfl rfl rfl rfl (fun e => absurd (e.symm.trans g1) (by decide)) (fun _ => ?_)
    refine x_if [(10, pB (decide (((l.length : Nat) : Int) - 2 < 0))), (0, pS 1 cl_l enc8 l)] [0, 1, 2] rfl rfl rfl rfl (fun e => absurd (e.symm.trans g1) (by decide)) (fun _ => ?_)
    refine x_if [(10, pB (decide (((l.length : Nat) : Int) - 2 < 0))), (16, undefP)] [0, 1, 2, 8] rfl rfl rfl rfl (fun e => absurd (e.symm.trans g1) (by decide)) (fun _ => ?_)
    refine x_if [(10, pB (decide (((l.length : Nat) : Int) - 2 < 0))), (15, undefP), (17, undefP)] [0, 1, 2, 3, 4, 5, 6, 7, 8, 9] rfl rfl rfl rfl (fun e => absurd (e.symm.trans g1) (by decide)) (fun _ => ?_)
    refine d_op ?_
    refine x_run0 [(10, pB (decide (((l.length : Nat) : Int) - 2 < 0))), (18, undefP)] [0, 1, 2, 3, 4, 5, 6, 7, 8, 9, 10] rfl rfl rfl rfl (s_pick_t rfl g1 rfl ⟨rfl, rfl, rfl⟩) ?_
    refine d_end ⟨by kernel_rfl, ?_⟩
    refine q_then ?_
    refine w_if rfl (fun _ => ?_) (fun e => absurd e (by decide))
    refine w_seq ?_
    refine w_R ?_
    refine r_op tabOk hnt rfl (s_assign rfl ?_) 
    refine r_op tabOk hnt rfl (s_assign rfl ?_) 
    refine r_end ?_
    refine q_then ?_
    refine w_le (s := 2) (y := pS 1 false enc8 []) rfl (le_nilS 1 false) ?_
    refine w_le (s := 2) (y := pS 1 false enc8 (openL l)) rfl (le_of_eq (congrArg (fun z => pS 1 false enc8 z) (show [] = (openL l) by first | (rw [e]; done) | (rw [e2]; done) | (simp [e2]; done) | (simp [e2, hn2]; done)))) ?_
    refine w_le (s := 3) (y := pB (openOk l)) rfl (le_of_eq (congrArg (fun z : Bool => pB z) (show false = (openOk l) by first | (rw [e]; done) | (rw [e2]; done) | (simp [e2]; done) | (simp [e2, hn2]; done)))) ?_
    refine w_ret ?_
    refine q_then_ret ?_
    exact fin_plain (ret_tmp rfl (ret_tmp rfl ret_nil)) rfl rfl ⟨rfl, rfl, rfl⟩

end Go.Proofs.Ytmcgjmpcfiefgaa
