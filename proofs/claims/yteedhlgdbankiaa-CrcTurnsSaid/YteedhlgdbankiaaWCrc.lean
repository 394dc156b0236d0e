/- Walks: printed by a program of this session (wip/tools/walk2.py) out of its notes. -/
import Derived.Test.YteedhlgdbankiaaWBase
set_option linter.unusedVariables false
set_option linter.unusedSimpArgs false
set_option maxRecDepth 10000
set_option maxHeartbeats 1000000
namespace Go.Proofs.Yteedhlgdbankiaa
open Go Go.Proofs.Yteedhlgdbankiaa.Pv

theorem w_crc_Of (l : List UInt8) (cl_l : Bool) (hl : l.length ≤ 140737488355328) :
    T Try.prog 29 [pS 1 cl_l enc8 l] 0 [] (Ret (p16 (crcSum l)) 0 []) := by
 refine t_fun tabOk (n := 30) (rs := [.tmp 2]) Try.func29 rfl rfl rfl rfl (Nat.le_of_ble_eq_true rfl) ?_
 intro c hnt hk
 refine w_seq ?_
 refine w_R ?_
 refine qa hnt rfl rfl ?_
 refine r_end ?_
 refine q_then ?_
 refine w_seq ?_
 refine w_R ?_
 refine qa hnt rfl rfl ?_
 refine r_end ?_
 refine q_then ?_
 refine w_seq ?_
 refine w_seq ?_
 refine w_R ?_
 refine qm hnt rfl rfl ?_
 refine qo hnt rfl (s_lenM (l := l) tab_23 rfl (hM_sl (f := enc8) rfl) ?_)
 refine qm hnt rfl rfl ?_
 refine r_end ?_
 refine q_then ?_
 refine w_block ?_
 refine loop2 (fun (n : UInt16) (i : Nat) => i ≤ l.length ∧ n = crcSum (l.take i)) (fun (n : UInt16) (i : Nat) => [(3, p16 n), (7, pS 1 cl_l enc8 l), (8, pN l.length), (9, pN i)]) 0 (fun (n : UInt16) (i : Nat) => []) (fun (n : UInt16) (i : Nat) => l.length - i) (65535) (0) ?_ ⟨[], rfl, ⟨⟨_, rfl, rfl, rfl⟩, ⟨_, rfl, rfl, rfl⟩, ⟨_, rfl, rfl, rfl⟩, ⟨_, rfl, rfl, rfl⟩, trivial⟩, trivial, by rw [hk]; decide⟩ ?_
 · exact ⟨Nat.zero_le _, rfl⟩
 ·
  intro n i hI
  obtain ⟨hi, hn⟩ := hI
  refine w_seq ?_
  refine w_R ?_
  refine qo hnt rfl (s_lss rfl rfl ?_)
  refine r_end ?_
  refine q_then ?_
  refine w_seq ?_
  refine w_if rfl (fun c1 => ?_) (fun c1 => ?_)
  ·
   have c1_ := c1
   try simp only [sB] at c1
   refine w_skip ?_
   refine q_then ?_
   refine w_seq ?_
   refine w_block ?_
   refine w_seq ?_
   refine w_R ?_
   obtain ⟨e1, he1⟩ := get_of_lt l (i := i) (by omega)
   refine qo hnt rfl (s_iaM (q := i) (b := e1) (f := enc8) tab_23 rfl tab_5 rfl rfl (by omega) rfl he1 ?_)
   refine qo hnt rfl (s_load_ro1 tab_5 rfl rfl rfl rfl ?_)
   refine qa hnt rfl rfl ?_
   refine r_end ?_
   refine q_then ?_
   refine w_seq ?_
   refine w_R ?_
   refine qm hnt rfl rfl ?_
   refine qm hnt rfl rfl ?_
   refine qo hnt rfl (s_conv816 (a := e1) tab_5 tab_44 rfl rfl rfl ?_)
   refine qo hnt rfl (s_xor16 (a := n) (b := e1.toUInt16) rfl rfl ?_)
   refine qa hnt rfl rfl ?_
   refine r_end ?_
   refine q_then ?_
   refine w_seq ?_
   refine w_R ?_
   refine qm hnt rfl rfl ?_
   refine r_end ?_
   refine q_then ?_
   refine w_block ?_
   refine loop2 (fun (m : UInt16) (j : Nat) => j ≤ 8 ∧ m = times crcBit j (n ^^^ e1.toUInt16)) (fun (m : UInt16) (j : Nat) => [(3, p16 m), (7, pS 1 cl_l enc8 l), (8, pN l.length), (9, pN i), (17, pN j)]) 0 (fun (m : UInt16) (j : Nat) => []) (fun (m : UInt16) (j : Nat) => 8 - j) (n ^^^ e1.toUInt16) (0) ?_ ⟨[], rfl, ⟨⟨_, rfl, rfl, rfl⟩, ⟨_, rfl, rfl, rfl⟩, ⟨_, rfl, rfl, rfl⟩, ⟨_, rfl, rfl, rfl⟩, ⟨_, rfl, rfl, rfl⟩, trivial⟩, trivial, by rw [hk]; decide⟩ ?_
   · exact ⟨by omega, rfl⟩
   ·
    intro m j hI
    obtain ⟨hj, hm⟩ := hI
    refine w_seq ?_
    refine w_R ?_
    refine qo hnt rfl (s_lss rfl rfl ?_)
    refine r_end ?_
    refine q_then ?_
    refine w_seq ?_
    refine w_if rfl (fun c2 => ?_) (fun c2 => ?_)
    ·
     have c2_ := c2
     try simp only [sB] at c2
     refine w_skip ?_
     refine q_then ?_
     refine w_seq ?_
     refine w_block ?_
     refine w_seq ?_
     refine w_R ?_
     refine qm hnt rfl rfl ?_
     refine qo hnt rfl (s_and16 (a := m) (b := 1) rfl rfl ?_)
     refine qa hnt rfl rfl ?_
     refine r_end ?_
     refine q_then ?_
     refine w_seq ?_
     refine w_R ?_
     refine qm hnt rfl rfl ?_
     refine qo hnt rfl (s_shr16 (a := m) 1 rfl rfl (by first | decide | omega) ?_)
     refine qa hnt rfl rfl ?_
     refine r_end ?_
     refine q_then ?_
     refine w_seq ?_
     refine w_R ?_
     refine qm hnt rfl rfl ?_
     refine qo hnt rfl (s_eql16 (a := m &&& 1) (b := 1) rfl rfl ?_)
     refine r_end ?_
     refine q_then ?_
     refine w_if rfl (fun c3 => ?_) (fun c3 => ?_)
     ·
      have c3_ := c3
      try simp only [sB] at c3
      refine w_R ?_
      refine qm hnt rfl rfl ?_
      refine qo hnt rfl (s_xor16 (a := m >>> UInt16.ofNat 1) (b := 40961) rfl rfl ?_)
      refine qa hnt rfl rfl ?_
      refine r_end ?_
      refine q_block ?_
      refine q_then ?_
      refine w_R ?_
      refine qo hnt rfl (s_addN (a := j) (b := 1) rfl rfl (by omega) (by omega) (by omega) ?_)
      refine qm hnt rfl rfl ?_
      refine r_end ?_
      refine q_then ?_
      refine ⟨((m >>> UInt16.ofNat 1) ^^^ 40961), (j + 1), ?_, ?_, ⟨[], rfl, ⟨⟨_, rfl, rfl, rfl⟩, ⟨_, rfl, rfl, rfl⟩, ⟨_, rfl, rfl, rfl⟩, ⟨_, rfl, rfl, rfl⟩, ⟨_, rfl, rfl, rfl⟩, trivial⟩, trivial, by rw [hk]; decide⟩⟩
      ·
       refine ⟨by omega, ?_⟩
       simp only [times, crcBit, ← hm, c3, if_true, if_false]
      · omega
     ·
      have c3_ := c3
      try simp only [sB] at c3
      refine w_skip ?_
      refine q_block ?_
      refine q_then ?_
      refine w_R ?_
      refine qo hnt rfl (s_addN (a := j) (b := 1) rfl rfl (by omega) (by omega) (by omega) ?_)
      refine qm hnt rfl rfl ?_
      refine r_end ?_
      refine q_then ?_
      refine ⟨(m >>> UInt16.ofNat 1), (j + 1), ?_, ?_, ⟨[], rfl, ⟨⟨_, rfl, rfl, rfl⟩, ⟨_, rfl, rfl, rfl⟩, ⟨_, rfl, rfl, rfl⟩, ⟨_, rfl, rfl, rfl⟩, ⟨_, rfl, rfl, rfl⟩, trivial⟩, trivial, by rw [hk]; decide⟩⟩
      ·
       refine ⟨by omega, ?_⟩
       simp only [times, crcBit, ← hm, c3, if_true, if_false]
      · omega
    ·
     have c2_ := c2
     try simp only [sB] at c2
     obtain rfl : j = 8 := by omega
     have hm : m = crcByte (crcSum (l.take i)) e1 := by rw [hm, hn]; rfl
     refine w_exit ?_
     refine q_then_exit ?_
     refine q_then_exit ?_
     refine q_block_exit ?_
     refine q_block ?_
     refine q_then ?_
     refine w_R ?_
     refine qo hnt rfl (s_addN (a := i) (b := 1) rfl rfl (by omega) (by omega) (by omega) ?_)
     refine qm hnt rfl rfl ?_
     refine r_end ?_
     refine q_then ?_
     refine ⟨(m), (i + 1), ?_, ?_, ⟨[], rfl, ⟨⟨_, rfl, rfl, rfl⟩, ⟨_, rfl, rfl, rfl⟩, ⟨_, rfl, rfl, rfl⟩, ⟨_, rfl, rfl, rfl⟩, trivial⟩, trivial, by rw [hk]; decide⟩⟩
     ·
      exact ⟨by omega, by rw [crcSum_snoc he1]; exact hm⟩
     · omega
  ·
   have c1_ := c1
   try simp only [sB] at c1
   refine w_exit ?_
   refine q_then_exit ?_
   refine q_then_exit ?_
   refine q_block_exit ?_
   refine q_then ?_
   refine w_seq ?_
   refine w_R ?_
   refine qm hnt rfl rfl ?_
   refine qa hnt rfl rfl ?_
   refine r_end ?_
   refine q_then ?_
   refine w_le (s := 2) (y := p16 (crcSum l)) rfl (le_of_eq (congrArg (fun z : UInt16 => p16 z) (show n = (crcSum l) by rw [hn, List.take_of_length_le (by omega)]))) ?_
   refine w_ret ?_
   exact fin_plain (ret_tmp rfl ret_nil) rfl rfl ⟨rfl, rfl, rfl⟩

theorem w_burgageref1_Sum (l : List UInt8) (cl_l : Bool) (hl : l.length ≤ 140737488355328) :
    T Try.prog 43 [pS 1 cl_l enc8 l] 0 [] (Ret (p16 (crcSum l)) 0 []) := by
 refine t_fun tabOk (n := 32) (rs := [.tmp 2]) Try.func43 rfl rfl rfl rfl (Nat.le_of_ble_eq_true rfl) ?_
 intro c hnt hk
 refine w_seq ?_
 refine w_R ?_
 refine qa hnt rfl rfl ?_
 refine r_end ?_
 refine q_then ?_
 refine w_seq ?_
 refine w_R ?_
 refine qa hnt rfl rfl ?_
 refine r_end ?_
 refine q_then ?_
 refine w_seq ?_
 refine w_seq ?_
 refine w_R ?_
 refine qm hnt rfl rfl ?_
 refine qo hnt rfl (s_lenM (l := l) tab_23 rfl (hM_sl (f := enc8) rfl) ?_)
 refine qm hnt rfl rfl ?_
 refine r_end ?_
 refine q_then ?_
 refine w_block ?_
 refine loop2 (fun (n : UInt16) (i : Nat) => i ≤ l.length ∧ n = crcSum (l.take i)) (fun (n : UInt16) (i : Nat) => [(3, p16 n), (8, pS 1 cl_l enc8 l), (9, pN l.length), (10, pN i)]) 0 (fun (n : UInt16) (i : Nat) => []) (fun (n : UInt16) (i : Nat) => l.length - i) (65535) (0) ?_ ⟨[], rfl, ⟨⟨_, rfl, rfl, rfl⟩, ⟨_, rfl, rfl, rfl⟩, ⟨_, rfl, rfl, rfl⟩, ⟨_, rfl, rfl, rfl⟩, trivial⟩, trivial, by rw [hk]; decide⟩ ?_
 · exact ⟨Nat.zero_le _, rfl⟩
 ·
  intro n i hI
  obtain ⟨hi, hn⟩ := hI
  refine w_seq ?_
  refine w_R ?_
  refine qo hnt rfl (s_lss rfl rfl ?_)
  refine r_end ?_
  refine q_then ?_
  refine w_seq ?_
  refine w_if rfl (fun c1 => ?_) (fun c1 => ?_)
  ·
   have c1_ := c1
   try simp only [sB] at c1
   refine w_skip ?_
   refine q_then ?_
   refine w_seq ?_
   refine w_block ?_
   refine w_seq ?_
   refine w_R ?_
   obtain ⟨e1, he1⟩ := get_of_lt l (i := i) (by omega)
   refine qo hnt rfl (s_iaM (q := i) (b := e1) (f := enc8) tab_23 rfl tab_5 rfl rfl (by omega) rfl he1 ?_)
   refine qo hnt rfl (s_load_ro1 tab_5 rfl rfl rfl rfl ?_)
   refine qa hnt rfl rfl ?_
   refine r_end ?_
   refine q_then ?_
   refine w_seq ?_
   refine w_R ?_
   refine qm hnt rfl rfl ?_
   refine qm hnt rfl rfl ?_
   refine qo hnt rfl (s_conv816 (a := e1) tab_5 tab_44 rfl rfl rfl ?_)
   refine qo hnt rfl (s_xor16 (a := n) (b := e1.toUInt16) rfl rfl ?_)
   refine qa hnt rfl rfl ?_
   refine r_end ?_
   refine q_then ?_
   refine w_seq ?_
   refine w_R ?_
   refine qa hnt rfl rfl ?_
   refine r_end ?_
   refine q_then ?_
   refine w_block ?_
   refine loop2 (fun (m : UInt16) (j : Nat) => j ≤ 8 ∧ m = times crcBit j (n ^^^ e1.toUInt16)) (fun (m : UInt16) (j : Nat) => [(3, p16 m), (6, pN j), (8, pS 1 cl_l enc8 l), (9, pN l.length), (10, pN i)]) 0 (fun (m : UInt16) (j : Nat) => []) (fun (m : UInt16) (j : Nat) => 8 - j) (n ^^^ e1.toUInt16) (0) ?_ ⟨[], rfl, ⟨⟨_, rfl, rfl, rfl⟩, ⟨_, rfl, rfl, rfl⟩, ⟨_, rfl, rfl, rfl⟩, ⟨_, rfl, rfl, rfl⟩, ⟨_, rfl, rfl, rfl⟩, trivial⟩, trivial, by rw [hk]; decide⟩ ?_
   · exact ⟨by omega, rfl⟩
   ·
    intro m j hI
    obtain ⟨hj, hm⟩ := hI
    refine w_seq ?_
    refine w_seq ?_
    refine w_R ?_
    refine qm hnt rfl rfl ?_
    refine qo hnt rfl (s_lss rfl rfl ?_)
    refine r_end ?_
    refine q_then ?_
    refine w_if rfl (fun c2 => ?_) (fun c2 => ?_)
    ·
     have c2_ := c2
     try simp only [sB] at c2
     refine w_skip ?_
     refine q_then ?_
     refine w_seq ?_
     refine w_block ?_
     refine w_seq ?_
     refine w_R ?_
     refine qm hnt rfl rfl ?_
     refine qo hnt rfl (s_and16 (a := m) (b := 1) rfl rfl ?_)
     refine qa hnt rfl rfl ?_
     refine r_end ?_
     refine q_then ?_
     refine w_seq ?_
     refine w_R ?_
     refine qm hnt rfl rfl ?_
     refine qo hnt rfl (s_shr16 (a := m) 1 rfl rfl (by first | decide | omega) ?_)
     refine qa hnt rfl rfl ?_
     refine r_end ?_
     refine q_then ?_
     refine w_seq ?_
     refine w_R ?_
     refine qm hnt rfl rfl ?_
     refine qo hnt rfl (s_eql16 (a := m &&& 1) (b := 1) rfl rfl ?_)
     refine r_end ?_
     refine q_then ?_
     refine w_if rfl (fun c3 => ?_) (fun c3 => ?_)
     ·
      have c3_ := c3
      try simp only [sB] at c3
      refine w_R ?_
      refine qm hnt rfl rfl ?_
      refine qo hnt rfl (s_xor16 (a := m >>> UInt16.ofNat 1) (b := 40961) rfl rfl ?_)
      refine qa hnt rfl rfl ?_
      refine r_end ?_
      refine q_block ?_
      refine q_then ?_
      refine w_R ?_
      refine qm hnt rfl rfl ?_
      refine qo hnt rfl (s_addN (a := j) (b := 1) rfl rfl (by omega) (by omega) (by omega) ?_)
      refine qa hnt rfl rfl ?_
      refine r_end ?_
      refine q_then ?_
      refine ⟨((m >>> UInt16.ofNat 1) ^^^ 40961), (j + 1), ?_, ?_, ⟨[], rfl, ⟨⟨_, rfl, rfl, rfl⟩, ⟨_, rfl, rfl, rfl⟩, ⟨_, rfl, rfl, rfl⟩, ⟨_, rfl, rfl, rfl⟩, ⟨_, rfl, rfl, rfl⟩, trivial⟩, trivial, by rw [hk]; decide⟩⟩
      ·
       refine ⟨by omega, ?_⟩
       simp only [times, crcBit, ← hm, c3, if_true, if_false]
      · omega
     ·
      have c3_ := c3
      try simp only [sB] at c3
      refine w_skip ?_
      refine q_block ?_
      refine q_then ?_
      refine w_R ?_
      refine qm hnt rfl rfl ?_
      refine qo hnt rfl (s_addN (a := j) (b := 1) rfl rfl (by omega) (by omega) (by omega) ?_)
      refine qa hnt rfl rfl ?_
      refine r_end ?_
      refine q_then ?_
      refine ⟨(m >>> UInt16.ofNat 1), (j + 1), ?_, ?_, ⟨[], rfl, ⟨⟨_, rfl, rfl, rfl⟩, ⟨_, rfl, rfl, rfl⟩, ⟨_, rfl, rfl, rfl⟩, ⟨_, rfl, rfl, rfl⟩, ⟨_, rfl, rfl, rfl⟩, trivial⟩, trivial, by rw [hk]; decide⟩⟩
      ·
       refine ⟨by omega, ?_⟩
       simp only [times, crcBit, ← hm, c3, if_true, if_false]
      · omega
    ·
     have c2_ := c2
     try simp only [sB] at c2
     obtain rfl : j = 8 := by omega
     have hm : m = crcByte (crcSum (l.take i)) e1 := by rw [hm, hn]; rfl
     refine w_exit ?_
     refine q_then_exit ?_
     refine q_then_exit ?_
     refine q_block_exit ?_
     refine q_block ?_
     refine q_then ?_
     refine w_R ?_
     refine qo hnt rfl (s_addN (a := i) (b := 1) rfl rfl (by omega) (by omega) (by omega) ?_)
     refine qm hnt rfl rfl ?_
     refine r_end ?_
     refine q_then ?_
     refine ⟨(m), (i + 1), ?_, ?_, ⟨[], rfl, ⟨⟨_, rfl, rfl, rfl⟩, ⟨_, rfl, rfl, rfl⟩, ⟨_, rfl, rfl, rfl⟩, ⟨_, rfl, rfl, rfl⟩, trivial⟩, trivial, by rw [hk]; decide⟩⟩
     ·
      exact ⟨by omega, by rw [crcSum_snoc he1]; exact hm⟩
     · omega
  ·
   have c1_ := c1
   try simp only [sB] at c1
   refine w_exit ?_
   refine q_then_exit ?_
   refine q_then_exit ?_
   refine q_block_exit ?_
   refine q_then ?_
   refine w_seq ?_
   refine w_R ?_
   refine qm hnt rfl rfl ?_
   refine qa hnt rfl rfl ?_
   refine r_end ?_
   refine q_then ?_
   refine w_le (s := 2) (y := p16 (crcSum l)) rfl (le_of_eq (congrArg (fun z : UInt16 => p16 z) (show n = (crcSum l) by rw [hn, List.take_of_length_le (by omega)]))) ?_
   refine w_ret ?_
   exact fin_plain (ret_tmp rfl ret_nil) rfl rfl ⟨rfl, rfl, rfl⟩

theorem w_crc_Seal (l : List UInt8) (cl_l : Bool) (hl : l.length ≤ 140737488355326) :
    T Try.prog 27 [pS 1 cl_l enc8 l] 0 [] (Ret (PV.ref 0 0 none) 1 [(0, oB true 1 enc8 (sealL l))]) := by
 refine t_fun tabOk (n := 15) (rs := [.tmp 2]) Try.func27 rfl rfl rfl rfl (Nat.le_of_ble_eq_true rfl) ?_
 intro c hnt hk
 refine w_seq ?_
 refine w_R ?_
 refine qa hnt rfl rfl ?_
 refine r_end ?_
 refine q_then ?_
 refine w_seq ?_
 refine w_R ?_
 refine qm hnt rfl rfl ?_
 refine qo hnt rfl (s_callF rfl rfl rfl (w_crc_Of l cl_l (by first | omega | assumption | (simp; omega) | decide | (simp; done))) rfl ?_)
 refine qa hnt rfl rfl ?_
 refine r_end ?_
 refine q_then ?_
 refine w_seq ?_
 refine w_R ?_
 refine qm hnt rfl rfl ?_
 refine qo hnt rfl (s_callF rfl rfl rfl (w_slices_Clip_byte_byte l cl_l) rfl ?_)
 refine qm hnt rfl rfl ?_
 refine qo hnt rfl (s_conv168 (a := crcSum l) tab_44 tab_5 rfl rfl rfl ?_)
 refine qm hnt rfl rfl ?_
 refine qo hnt rfl (s_shr16 (a := crcSum l) 8 rfl rfl (by first | decide | omega) ?_)
 refine qo hnt rfl (s_conv168 (a := (crcSum l) >>> UInt16.ofNat 8) tab_44 tab_5 rfl rfl rfl ?_)
 refine qo hnt rfl (s_mkM (f := enc8) [(crcSum l).toUInt8, ((crcSum l) >>> UInt16.ofNat 8).toUInt8] tab_23 rfl tab_5 ⟨rfl, by decide⟩ (by decide) rfl rfl rfl rfl ?_)
 refine qo hnt rfl (s_appC (f := enc8) (l := l) (xs := [(crcSum l).toUInt8, ((crcSum l) >>> UInt16.ofNat 8).toUInt8]) tab_23 rfl tab_5 ⟨rfl, by decide, by decide⟩ (srcM tab_23 rfl (hM_ref0 (f := enc8) rfl rfl)) rfl (by first | omega | (simp; omega)) (by simp) ?_)
 refine qa hnt rfl rfl ?_
 refine r_set [(2, PV.ref 1 0 none)] [(1, oB true 1 enc8 (l ++ [(crcSum l).toUInt8, ((crcSum l) >>> UInt16.ofNat 8).toUInt8])), (0, oB true 1 enc8 [(crcSum l).toUInt8, ((crcSum l) >>> UInt16.ofNat 8).toUInt8])] 2 ⟨rfl, trivial⟩ rfl rfl ?_
 refine r_end ?_
 refine q_then ?_
 refine w_H (H' := [(1, oB true 1 enc8 (sealL l)), (0, oB true 1 enc8 [(crcSum l).toUInt8, ((crcSum l) >>> UInt16.ofNat 8).toUInt8])]) (congrArg (fun z => ([(1, oB true 1 enc8 z), (0, oB true 1 enc8 [(crcSum l).toUInt8, ((crcSum l) >>> UInt16.ofNat 8).toUInt8])] : Heap)) (show l ++ [(crcSum l).toUInt8, ((crcSum l) >>> UInt16.ofNat 8).toUInt8] = sealL l by first | rfl | (simp [sealL]; done) | simp [sealL])) ?_
 refine w_ret ?_
 exact fin_names (nx1 := 1) (H1 := [(0, oB true 1 enc8 (sealL l))]) [(0, 1)] (ret_tmp rfl ret_nil) rfl (by decide) ⟨⟨_, _, rfl, rfl, rfl, rfl⟩, trivial⟩ (by decide) rfl ⟨rfl, rfl, rfl⟩

theorem w_burgageref1_Seal (l : List UInt8) (cl_l : Bool) (hl : l.length ≤ 140737488355326) :
    T Try.prog 25 [pS 1 cl_l enc8 l] 0 [] (Ret (PV.ref 0 0 none) 1 [(0, oB true 1 enc8 (sealL l))]) := by
 refine t_fun tabOk (n := 16) (rs := [.tmp 2]) Try.func25 rfl rfl rfl rfl (Nat.le_of_ble_eq_true rfl) ?_
 intro c hnt hk
 refine w_seq ?_
 refine w_R ?_
 refine qa hnt rfl rfl ?_
 refine r_end ?_
 refine q_then ?_
 refine w_seq ?_
 refine w_R ?_
 refine qm hnt rfl rfl ?_
 refine qo hnt rfl (s_callF rfl rfl rfl (w_burgageref1_Sum l cl_l (by first | omega | assumption | (simp; omega) | decide | (simp; done))) rfl ?_)
 refine qa hnt rfl rfl ?_
 refine r_end ?_
 refine q_then ?_
 refine w_seq ?_
 refine w_R ?_
 refine qo hnt rfl (s_mkM (f := enc8) ([] : List UInt8) tab_23 rfl tab_5 ⟨rfl, by decide⟩ (by decide) rfl rfl rfl rfl ?_)
 refine qm hnt rfl rfl ?_
 refine qo hnt rfl (s_appR0 (f := enc8) (l := ([] : List UInt8)) (xs := l) tab_23 rfl tab_5 ⟨rfl, by decide, by decide⟩ (srcM tab_23 rfl (hM_sl (f := enc8) rfl)) rfl rfl (by first | omega | (simp; omega)) ?_)
 refine qm hnt rfl rfl ?_
 refine qo hnt rfl (s_conv168 (a := crcSum l) tab_44 tab_5 rfl rfl rfl ?_)
 refine qm hnt rfl rfl ?_
 refine qo hnt rfl (s_shr16 (a := crcSum l) 8 rfl rfl (by first | decide | omega) ?_)
 refine qo hnt rfl (s_conv168 (a := (crcSum l) >>> UInt16.ofNat 8) tab_44 tab_5 rfl rfl rfl ?_)
 refine qo hnt rfl (s_mkM (f := enc8) [(crcSum l).toUInt8, ((crcSum l) >>> UInt16.ofNat 8).toUInt8] tab_23 rfl tab_5 ⟨rfl, by decide⟩ (by decide) rfl rfl rfl rfl ?_)
 refine qo hnt rfl (s_appR0 (f := enc8) (l := l) (xs := [(crcSum l).toUInt8, ((crcSum l) >>> UInt16.ofNat 8).toUInt8]) tab_23 rfl tab_5 ⟨rfl, by decide, by decide⟩ (srcM tab_23 rfl (hM_ref0 (f := enc8) rfl rfl)) rfl rfl (by first | omega | (simp; omega)) ?_)
 refine qa hnt rfl rfl ?_
 refine r_set [(2, PV.ref 3 0 none)] [(3, oB true 1 enc8 (l ++ [(crcSum l).toUInt8, ((crcSum l) >>> UInt16.ofNat 8).toUInt8])), (2, oB true 1 enc8 [(crcSum l).toUInt8, ((crcSum l) >>> UInt16.ofNat 8).toUInt8])] 4 ⟨rfl, trivial⟩ rfl rfl ?_
 refine r_end ?_
 refine q_then ?_
 refine w_H (H' := [(3, oB true 1 enc8 (sealL l)), (2, oB true 1 enc8 [(crcSum l).toUInt8, ((crcSum l) >>> UInt16.ofNat 8).toUInt8])]) (congrArg (fun z => ([(3, oB true 1 enc8 z), (2, oB true 1 enc8 [(crcSum l).toUInt8, ((crcSum l) >>> UInt16.ofNat 8).toUInt8])] : Heap)) (show l ++ [(crcSum l).toUInt8, ((crcSum l) >>> UInt16.ofNat 8).toUInt8] = sealL l by first | rfl | (simp [sealL]; done) | simp [sealL])) ?_
 refine w_ret ?_
 exact fin_names (nx1 := 1) (H1 := [(0, oB true 1 enc8 (sealL l))]) [(0, 3)] (ret_tmp rfl ret_nil) rfl (by decide) ⟨⟨_, _, rfl, rfl, rfl, rfl⟩, trivial⟩ (by decide) rfl ⟨rfl, rfl, rfl⟩

theorem w_crc_Open (l : List UInt8) (cl_l : Bool) (hl : l.length ≤ 140737488355328) :
    T Try.prog 28 [pS 1 cl_l enc8 l] 0 [] (Ret (PV.tup [pS 1 false enc8 (openL l), pB (openOk l)]) 0 []) := by
 refine t_fun tabOk (n := 23) (rs := [.tmp 2, .tmp 3]) Try.func28 rfl rfl rfl rfl (Nat.le_of_ble_eq_true rfl) ?_
 intro c hnt hk
 refine w_seq ?_
 refine w_R ?_
 refine qa hnt rfl rfl ?_
 refine qa hnt rfl rfl ?_
 refine r_end ?_
 refine q_then ?_
 refine w_seq ?_
 refine w_R ?_
 refine qm hnt rfl rfl ?_
 refine qo hnt rfl (s_lenM (l := l) tab_23 rfl (hM_sl (f := enc8) rfl) ?_)
 refine qo hnt rfl (s_subi (r := ((l.length : Nat) : Int) - 2) rfl rfl rfl (by omega) ?_)
 refine qa hnt rfl rfl ?_
 refine r_end ?_
 refine q_then ?_
 refine w_seq ?_
 refine w_seq ?_
 refine w_R ?_
 refine qm hnt rfl rfl ?_
 refine qo hnt rfl (s_lss rfl rfl ?_)
 refine qm hnt rfl rfl ?_
 refine r_if tabOk hnt rfl rfl rfl (fun g1 => ?_) (fun g1 => ?_)
 ·
  have g1' := g1
  try simp only [sB] at g1'
  refine r_eq (s := 4) (y := pN (l.length - 2)) rfl (congrArg (fun z : Int => pI z) (show (((l.length : Nat) : Int) - 2) = ((l.length - 2 : Nat) : Int) by omega)) ?_
  refine qm hnt rfl rfl ?_
  refine ry hnt rfl rfl rfl g1 ?_
  refine qm hnt rfl rfl ?_
  refine ry hnt rfl rfl rfl g1 ?_
  refine qo hnt rfl (s_cutM_hi (b := l.length - 2) (f := enc8) (l := l) tab_23 rfl tab_5 ⟨rfl, by decide⟩ rfl (bound_some rfl (by omega)) (by omega) ?_)
  refine ry hnt rfl rfl rfl g1 ?_
  refine qo hnt rfl (s_callX (r2 := PV.ref 0 0 none) (nx1 := 1) (H2 := []) (H3 := [(0, oB true 1 enc8 (sealL (l.take (l.length - 2))))]) [] [] rfl rfl rfl (handed_of (by decide) trivial) rfl rfl rfl rfl rfl rfl (w_crc_Seal (l.take (l.length - 2)) false (by first | omega | assumption | (simp; omega) | decide | (simp; done))) rfl (dist_of rfl) rfl rfl rfl rfl ?_)
  refine ry hnt rfl rfl rfl g1 ?_
  refine qm hnt rfl rfl ?_
  refine ry hnt rfl rfl rfl g1 ?_
  refine qo hnt rfl (s_callX (r2 := pB (decide ((sealL (l.take (l.length - 2))) = l))) (nx1 := 1) (H2 := [(0, oB false 1 enc8 (sealL (l.take (l.length - 2))))]) (H3 := [(0, oB false 1 enc8 (sealL (l.take (l.length - 2))))]) [] [] rfl rfl rfl (handed_of (by decide) trivial) rfl rfl rfl rfl rfl rfl (w_slices_Equal_byte_byte (sealL (l.take (l.length - 2))) false l cl_l (by first | omega | assumption | (simp; omega) | decide | (simp; done))) rfl (dist_of rfl) rfl rfl rfl rfl ?_)
  refine ry hnt rfl rfl rfl g1 ?_
  refine qo hnt rfl (s_not rfl ?_)
  refine qo hnt rfl (s_pick_f rfl g1 rfl ?_)
  refine r_set [(0, pS 1 cl_l enc8 l), (4, pN (l.length - 2)), (18, pB (!(decide ((sealL (l.take (l.length - 2))) = l))))] [(0, oB false 1 enc8 (sealL (l.take (l.length - 2))))] 1 ⟨rfl, rfl, rfl, trivial⟩ rfl rfl ?_
  refine r_end ?_
  refine q_then ?_
  refine w_if rfl (fun c1 => ?_) (fun c1 => ?_)
  ·
   have c1_ := c1
   try simp only [sB] at c1
   have hb : sealL (l.take (l.length - 2)) ≠ l := by first | simpa using c1_ | simpa using c1 | simpa [hn2] using c1_
   have e : openOk l = false := by simp [openOk]; intro _; simpa using hb
   have e2 : openL l = [] := by simp [openL, e]
   refine w_seq ?_
   refine w_R ?_
   refine qa hnt rfl rfl ?_
   refine qa hnt rfl rfl ?_
   refine r_end ?_
   refine q_then ?_
   refine w_le (s := 2) (y := pS 1 false enc8 []) rfl (le_nilS 1 false) ?_
   refine w_le (s := 2) (y := pS 1 false enc8 (openL l)) rfl (le_of_eq (congrArg (fun z => pS 1 false enc8 z) (show [] = (openL l) by first | (rw [e]; done) | (rw [e2]; done) | (simp [e2]; done) | (simp [e2, hn2]; done)))) ?_
   refine w_le (s := 3) (y := pB (openOk l)) rfl (le_of_eq (congrArg (fun z : Bool => pB z) (show false = (openOk l) by first | (rw [e]; done) | (rw [e2]; done) | (simp [e2]; done) | (simp [e2, hn2]; done)))) ?_
   refine w_ret ?_
   refine q_then_ret ?_
   exact fin_plain (ret_tmp rfl (ret_tmp rfl ret_nil)) rfl rfl ⟨rfl, rfl, rfl⟩
  ·
   have c1_ := c1
   try simp only [sB] at c1
   have hb : sealL (l.take (l.length - 2)) = l := by first | simpa using c1_ | simpa using c1 | simpa [hn2] using c1_
   have e : openOk l = true := by simp [openOk]; exact ⟨by omega, by simpa using hb⟩
   have e2 : openL l = l.take (l.length - 2) := by simp [openL, e]
   refine w_skip ?_
   refine q_then ?_
   refine w_seq ?_
   refine w_R ?_
   refine qm hnt rfl rfl ?_
   refine qm hnt rfl rfl ?_
   refine qo hnt rfl (s_cutM_hi (b := l.length - 2) (f := enc8) (l := l) tab_23 rfl tab_5 ⟨rfl, by decide⟩ rfl (bound_some rfl (by omega)) (by omega) ?_)
   refine qo hnt rfl (s_callX (r2 := PV.ref 1 0 none) (nx1 := 2) (H2 := [(0, oB false 1 enc8 (sealL (l.take (l.length - 2))))]) (H3 := [(1, oB true 1 enc8 (l.take (l.length - 2))), (0, oB false 1 enc8 (sealL (l.take (l.length - 2))))]) [] [] rfl rfl rfl (handed_of (by decide) trivial) rfl rfl rfl rfl rfl rfl (w_slices_Clone_byte_byte (l.take (l.length - 2)) false (by first | omega | assumption | (simp; omega) | decide | (simp; done))) rfl (dist_of rfl) rfl rfl rfl rfl ?_)
   refine qa hnt rfl rfl ?_
   refine qa hnt rfl rfl ?_
   refine r_set [(2, PV.ref 1 0 none), (3, pB true)] [(1, oB true 1 enc8 (l.take (l.length - 2))), (0, oB false 1 enc8 (sealL (l.take (l.length - 2))))] 2 ⟨rfl, rfl, trivial⟩ rfl rfl ?_
   refine r_end ?_
   refine q_then ?_
   refine w_frzM (s := 2) (f := enc8) rfl rfl view_0 ?_
   refine w_le (s := 2) (y := pS 1 false enc8 (openL l)) rfl (le_of_eq (congrArg (fun z => pS 1 false enc8 z) (show (l.take (l.length - 2)) = (openL l) by first | (rw [e]; done) | (rw [e2]; done) | (simp [e2]; done) | (simp [e2, hn2]; done)))) ?_
   refine w_le (s := 3) (y := pB (openOk l)) rfl (le_of_eq (congrArg (fun z : Bool => pB z) (show true = (openOk l) by first | (rw [e]; done) | (rw [e2]; done) | (simp [e2]; done) | (simp [e2, hn2]; done)))) ?_
   refine w_ret ?_
   exact fin_plain (ret_tmp rfl (ret_tmp rfl ret_nil)) rfl rfl ⟨rfl, rfl, rfl⟩
 ·
  have g1' := g1
  try simp only [sB] at g1'
  have e0 : ¬ 2 ≤ l.length := by omega
  have e : openOk l = false := by simp [openOk, e0]
  have e2 : openL l = [] := by simp [openL, e]
  refine rn hnt rfl rfl rfl g1 ?_
  refine rn hnt rfl rfl rfl g1 ?_
  refine rn hnt rfl rfl rfl g1 ?_
  refine rn hnt rfl rfl rfl g1 ?_
  refine rn hnt rfl rfl rfl g1 ?_
  refine rn hnt rfl rfl rfl g1 ?_
  refine qo hnt rfl (s_pick_t rfl g1 rfl ?_)
  refine r_end ?_
  refine q_then ?_
  refine w_if rfl (fun _ => ?_) (fun e => absurd e (by decide))
  refine w_seq ?_
  refine w_R ?_
  refine qa hnt rfl rfl ?_
  refine qa hnt rfl rfl ?_
  refine r_end ?_
  refine q_then ?_
  refine w_le (s := 2) (y := pS 1 false enc8 []) rfl (le_nilS 1 false) ?_
  refine w_le (s := 2) (y := pS 1 false enc8 (openL l)) rfl (le_of_eq (congrArg (fun z => pS 1 false enc8 z) (show [] = (openL l) by first | (rw [e]; done) | (rw [e2]; done) | (simp [e2]; done) | (simp [e2, hn2]; done)))) ?_
  refine w_le (s := 3) (y := pB (openOk l)) rfl (le_of_eq (congrArg (fun z : Bool => pB z) (show false = (openOk l) by first | (rw [e]; done) | (rw [e2]; done) | (simp [e2]; done) | (simp [e2, hn2]; done)))) ?_
  refine w_ret ?_
  refine q_then_ret ?_
  exact fin_plain (ret_tmp rfl (ret_tmp rfl ret_nil)) rfl rfl ⟨rfl, rfl, rfl⟩

theorem w_burgageref1_Unseal (l : List UInt8) (cl_l : Bool) (hl : l.length ≤ 140737488355328) :
    T Try.prog 42 [pS 1 cl_l enc8 l] 0 [] (Ret (PV.tup [pS 1 false enc8 (openL l), pB (openOk l)]) 0 []) := by
 refine t_fun tabOk (n := 25) (rs := [.tmp 2, .tmp 3]) Try.func42 rfl rfl rfl rfl (Nat.le_of_ble_eq_true rfl) ?_
 intro c hnt hk
 refine w_seq ?_
 refine w_R ?_
 refine qa hnt rfl rfl ?_
 refine qa hnt rfl rfl ?_
 refine r_end ?_
 refine q_then ?_
 refine w_seq ?_
 refine w_R ?_
 refine qm hnt rfl rfl ?_
 refine qo hnt rfl (s_lenM (l := l) tab_23 rfl (hM_sl (f := enc8) rfl) ?_)
 refine qo hnt rfl (s_subi (r := ((l.length : Nat) : Int) - 2) rfl rfl rfl (by omega) ?_)
 refine qa hnt rfl rfl ?_
 refine r_end ?_
 refine q_then ?_
 refine w_seq ?_
 refine w_seq ?_
 refine W_drawn tabOk mixed hnt [[], [0], [0, 1], [0, 1, 2], [0, 1, 2], [0, 1, 2, 3, 4], [0, 1, 2, 3, 4, 5], [0, 1, 2, 3, 4, 5, 6], [0, 1, 2], [0, 1, 2, 8], [0, 1, 2, 3, 4, 5, 6, 7, 8, 9], [0, 1, 2, 3, 4, 5, 6, 7, 8, 9, 10]] (by kernel_rfl) ?_
 refine d_op ?_
 refine x_run0 [(4, pI (((l.length : Nat) : Int) - 2))] [] rfl rfl rfl rfl (s_move rfl ⟨rfl, rfl, rfl⟩) ?_
 refine d_op ?_
 refine x_run0 [(8, pI (((l.length : Nat) : Int) - 2))] [0] rfl rfl rfl rfl (s_lss rfl rfl ⟨rfl, rfl, rfl⟩) ?_
 refine d_op ?_
 refine x_run0 [(9, pB (decide (((l.length : Nat) : Int) - 2 < 0)))] [0, 1] rfl rfl rfl rfl (s_move rfl ⟨rfl, rfl, rfl⟩) ?_
 refine x_if [(10, pB (decide (((l.length : Nat) : Int) - 2 < 0))), (0, pS 1 cl_l enc8 l)] [0, 1, 2] rfl rfl rfl rfl (fun g1 => ?_) (fun g1 => ?_)
 ·
  have g1' := g1
  try simp only [sB] at g1'
  have hn2 : Int.toNat (((l.length : Nat) : Int) - 2) = l.length - 2 := by omega
  refine x_run0 [(10, pB (decide (((l.length : Nat) : Int) - 2 < 0))), (0, pS 1 cl_l enc8 l)] [0, 1, 2] rfl rfl rfl rfl (s_move rfl ⟨rfl, rfl, rfl⟩) ?_
  refine xy [(10, pB (decide (((l.length : Nat) : Int) - 2 < 0))), (4, pI (((l.length : Nat) : Int) - 2))] [0, 1, 2] rfl rfl rfl rfl g1 ?_
  refine x_run0 [(10, pB (decide (((l.length : Nat) : Int) - 2 < 0))), (4, pI (((l.length : Nat) : Int) - 2))] [0, 1, 2] rfl rfl rfl rfl (s_move rfl ⟨rfl, rfl, rfl⟩) ?_
  refine xy [(10, pB (decide (((l.length : Nat) : Int) - 2 < 0))), (11, pS 1 cl_l enc8 l), (12, pI (((l.length : Nat) : Int) - 2))] [0, 1, 2, 3, 4] rfl rfl rfl rfl g1 ?_
  refine x_run0 [(10, pB (decide (((l.length : Nat) : Int) - 2 < 0))), (11, pS 1 cl_l enc8 l), (12, pI (((l.length : Nat) : Int) - 2))] [0, 1, 2, 3, 4] rfl rfl rfl rfl (s_cutM_hi (b := Int.toNat (((l.length : Nat) : Int) - 2)) (f := enc8) (l := l) tab_23 rfl tab_5 ⟨rfl, by decide⟩ rfl (bound_some rfl (by omega)) (by omega) ⟨rfl, rfl, rfl⟩) ?_
  refine xy [(10, pB (decide (((l.length : Nat) : Int) - 2 < 0))), (13, pS 1 false enc8 (l.take (Int.toNat (((l.length : Nat) : Int) - 2))))] [0, 1, 2, 3, 4, 5] rfl rfl rfl rfl g1 ?_
  refine x_run [(10, pB (decide (((l.length : Nat) : Int) - 2 < 0))), (13, pS 1 false enc8 (l.take (Int.toNat (((l.length : Nat) : Int) - 2))))] [0, 1, 2, 3, 4, 5] [] [] [(0, oB true 1 enc8 (sealL (l.take (Int.toNat (((l.length : Nat) : Int) - 2)))))] [(0, oB true 1 enc8 (sealL (l.take (Int.toNat (((l.length : Nat) : Int) - 2)))))] [(0, oB true 1 enc8 (sealL (l.take (Int.toNat (((l.length : Nat) : Int) - 2)))))] rfl rfl rfl rfl rfl rfl (s_callX (r2 := PV.ref 0 0 none) (nx1 := 1) (H2 := []) (H3 := [(0, oB true 1 enc8 (sealL (l.take (Int.toNat (((l.length : Nat) : Int) - 2)))))]) [] [] rfl rfl rfl (handed_of (by decide) trivial) rfl rfl rfl rfl rfl rfl (w_burgageref1_Seal (l.take (Int.toNat (((l.length : Nat) : Int) - 2))) false (by first | omega | assumption | (simp; omega) | decide | (simp; done))) rfl (dist_of rfl) rfl rfl rfl rfl ⟨rfl, rfl, rfl⟩) rfl trivial rfl rfl ?_
  refine xy [(10, pB (decide (((l.length : Nat) : Int) - 2 < 0))), (14, PV.ref 0 0 none)] [0, 1, 2, 3, 4, 5, 6] rfl rfl rfl rfl g1 ?_
  refine x_run [(10, pB (decide (((l.length : Nat) : Int) - 2 < 0))), (14, PV.ref 0 0 none)] [0, 1, 2, 3, 4, 5, 6] [(0, oB true 1 enc8 (sealL (l.take (Int.toNat (((l.length : Nat) : Int) - 2)))))] [] [(0, oB true 1 enc8 (sealL (l.take (Int.toNat (((l.length : Nat) : Int) - 2)))))] [] [(0, oB true 1 enc8 (sealL (l.take (Int.toNat (((l.length : Nat) : Int) - 2)))))] rfl rfl rfl rfl rfl rfl (s_cvT tab_23 tab_9 rfl tab_5 rfl rfl (hM_ref0 (f := enc8) rfl rfl) ⟨rfl, rfl, rfl⟩) rfl ⟨rfl, trivial⟩ rfl rfl ?_
  refine xy [(10, pB (decide (((l.length : Nat) : Int) - 2 < 0))), (0, pS 1 cl_l enc8 l)] [0, 1, 2] rfl rfl rfl rfl g1 ?_
  refine x_run0 [(10, pB (decide (((l.length : Nat) : Int) - 2 < 0))), (0, pS 1 cl_l enc8 l)] [0, 1, 2] rfl rfl rfl rfl (s_move rfl ⟨rfl, rfl, rfl⟩) ?_
  refine xy [(10, pB (decide (((l.length : Nat) : Int) - 2 < 0))), (16, pS 1 cl_l enc8 l)] [0, 1, 2, 8] rfl rfl rfl rfl g1 ?_
  refine x_run0 [(10, pB (decide (((l.length : Nat) : Int) - 2 < 0))), (16, pS 1 cl_l enc8 l)] [0, 1, 2, 8] rfl rfl rfl rfl (s_cvT tab_23 tab_9 rfl tab_5 rfl rfl (hM_sl (f := enc8) rfl) ⟨rfl, rfl, rfl⟩) ?_
  refine xy [(10, pB (decide (((l.length : Nat) : Int) - 2 < 0))), (15, pT (sealL (l.take (Int.toNat (((l.length : Nat) : Int) - 2))))), (17, pT l)] [0, 1, 2, 3, 4, 5, 6, 7, 8, 9] rfl rfl rfl rfl g1 ?_
  refine x_run0 [(10, pB (decide (((l.length : Nat) : Int) - 2 < 0))), (15, pT (sealL (l.take (Int.toNat (((l.length : Nat) : Int) - 2))))), (17, pT l)] [0, 1, 2, 3, 4, 5, 6, 7, 8, 9] rfl rfl rfl rfl (s_netext (l := sealL (l.take (Int.toNat (((l.length : Nat) : Int) - 2)))) (m := l) rfl rfl ⟨rfl, rfl, rfl⟩) ?_
  refine d_op ?_
  refine x_run0 [(10, pB (decide (((l.length : Nat) : Int) - 2 < 0))), (18, pB (!decide (sealL (l.take (Int.toNat (((l.length : Nat) : Int) - 2))) = l)))] [0, 1, 2, 3, 4, 5, 6, 7, 8, 9, 10] rfl rfl rfl rfl (s_pick_f rfl g1 rfl ⟨rfl, rfl, rfl⟩) ?_
  refine d_end ⟨by kernel_rfl, ?_⟩
  refine q_then ?_
  refine w_if rfl (fun c1 => ?_) (fun c1 => ?_)
  ·
   have c1_ := c1
   try simp only [sB] at c1
   have hb : sealL (l.take (l.length - 2)) ≠ l := by first | simpa using c1_ | simpa using c1 | simpa [hn2] using c1_
   have e : openOk l = false := by simp [openOk]; intro _; simpa using hb
   have e2 : openL l = [] := by simp [openL, e]
   refine w_seq ?_
   refine w_R ?_
   refine qa hnt rfl rfl ?_
   refine qa hnt rfl rfl ?_
   refine r_end ?_
   refine q_then ?_
   refine w_le (s := 2) (y := pS 1 false enc8 []) rfl (le_nilS 1 false) ?_
   refine w_le (s := 2) (y := pS 1 false enc8 (openL l)) rfl (le_of_eq (congrArg (fun z => pS 1 false enc8 z) (show [] = (openL l) by first | (rw [e]; done) | (rw [e2]; done) | (simp [e2]; done) | (simp [e2, hn2]; done)))) ?_
   refine w_le (s := 3) (y := pB (openOk l)) rfl (le_of_eq (congrArg (fun z : Bool => pB z) (show false = (openOk l) by first | (rw [e]; done) | (rw [e2]; done) | (simp [e2]; done) | (simp [e2, hn2]; done)))) ?_
   refine w_ret ?_
   refine q_then_ret ?_
   exact fin_plain (ret_tmp rfl (ret_tmp rfl ret_nil)) rfl rfl ⟨rfl, rfl, rfl⟩
  ·
   have c1_ := c1
   try simp only [sB] at c1
   have hb : sealL (l.take (l.length - 2)) = l := by first | simpa using c1_ | simpa using c1 | simpa [hn2] using c1_
   have e : openOk l = true := by simp [openOk]; exact ⟨by omega, by simpa using hb⟩
   have e2 : openL l = l.take (l.length - 2) := by simp [openL, e]
   refine w_skip ?_
   refine q_then ?_
   refine w_seq ?_
   refine w_R ?_
   refine qo hnt rfl (s_mkM (f := enc8) ([] : List UInt8) tab_23 rfl tab_5 ⟨rfl, by decide⟩ (by decide) rfl rfl rfl rfl ?_)
   refine qm hnt rfl rfl ?_
   refine qm hnt rfl rfl ?_
   refine qo hnt rfl (s_cutM_hi (b := Int.toNat (((l.length : Nat) : Int) - 2)) (f := enc8) (l := l) tab_23 rfl tab_5 ⟨rfl, by decide⟩ rfl (bound_some rfl (by omega)) (by omega) ?_)
   refine qo hnt rfl (s_appR0 (f := enc8) (l := ([] : List UInt8)) (xs := l.take (Int.toNat (((l.length : Nat) : Int) - 2))) tab_23 rfl tab_5 ⟨rfl, by decide, by decide⟩ (srcM tab_23 rfl (hM_sl (f := enc8) rfl)) rfl rfl (by first | omega | (simp; omega)) ?_)
   refine qa hnt rfl rfl ?_
   refine qa hnt rfl rfl ?_
   refine r_set [(2, PV.ref 2 0 none), (3, pB true)] [(2, oB true 1 enc8 (l.take (Int.toNat (((l.length : Nat) : Int) - 2)))), (0, oB true 1 enc8 (sealL (l.take (Int.toNat (((l.length : Nat) : Int) - 2)))))] 3 ⟨rfl, rfl, trivial⟩ rfl rfl ?_
   refine r_end ?_
   refine q_then ?_
   refine w_frzM (s := 2) (f := enc8) rfl rfl view_0 ?_
   refine w_le (s := 2) (y := pS 1 false enc8 (openL l)) rfl (le_of_eq (congrArg (fun z => pS 1 false enc8 z) (show (l.take (Int.toNat (((l.length : Nat) : Int) - 2))) = (openL l) by first | (rw [e]; done) | (rw [e2]; done) | (simp [e2]; done) | (simp [e2, hn2]; done)))) ?_
   refine w_le (s := 3) (y := pB (openOk l)) rfl (le_of_eq (congrArg (fun z : Bool => pB z) (show true = (openOk l) by first | (rw [e]; done) | (rw [e2]; done) | (simp [e2]; done) | (simp [e2, hn2]; done)))) ?_
   refine w_ret ?_
   exact fin_plain (ret_tmp rfl (ret_tmp rfl ret_nil)) rfl rfl ⟨rfl, rfl, rfl⟩
 ·
  have g1' := g1
  try simp only [sB] at g1'
  have e0 : ¬ 2 ≤ l.length := by omega
  have e : openOk l = false := by simp [openOk, e0]
  have e2 : openL l = [] := by simp [openL, e]
  refine xn [(10, pB (decide (((l.length : Nat) : Int) - 2 < 0))), (4, pI (((l.length : Nat) : Int) - 2))] [0, 1, 2] rfl rfl rfl rfl g1 ?_
  refine xn [(10, pB (decide (((l.length : Nat) : Int) - 2 < 0))), (11, undefP), (12, undefP)] [0, 1, 2, 3, 4] rfl rfl rfl rfl g1 ?_
  refine xn [(10, pB (decide (((l.length : Nat) : Int) - 2 < 0))), (13, undefP)] [0, 1, 2, 3, 4, 5] rfl rfl rfl rfl g1 ?_
  refine xn [(10, pB (decide (((l.length : Nat) : Int) - 2 < 0))), (14, undefP)] [0, 1, 2, 3, 4, 5, 6] rfl rfl rfl rfl g1 ?_
  refine xn [(10, pB (decide (((l.length : Nat) : Int) - 2 < 0))), (0, pS 1 cl_l enc8 l)] [0, 1, 2] rfl rfl rfl rfl g1 ?_
  refine xn [(10, pB (decide (((l.length : Nat) : Int) - 2 < 0))), (16, undefP)] [0, 1, 2, 8] rfl rfl rfl rfl g1 ?_
  refine xn [(10, pB (decide (((l.length : Nat) : Int) - 2 < 0))), (15, undefP), (17, undefP)] [0, 1, 2, 3, 4, 5, 6, 7, 8, 9] rfl rfl rfl rfl g1 ?_
  refine d_op ?_
  refine x_run0 [(10, pB (decide (((l.length : Nat) : Int) - 2 < 0))), (18, undefP)] [0, 1, 2, 3, 4, 5, 6, 7, 8, 9, 10] rfl rfl rfl rfl (s_pick_t rfl g1 rfl ⟨rfl, rfl, rfl⟩) ?_
  refine d_end ⟨by kernel_rfl, ?_⟩
  refine q_then ?_
  refine w_if rfl (fun _ => ?_) (fun e => absurd e (by decide))
  refine w_seq ?_
  refine w_R ?_
  refine qa hnt rfl rfl ?_
  refine qa hnt rfl rfl ?_
  refine r_end ?_
  refine q_then ?_
  refine w_le (s := 2) (y := pS 1 false enc8 []) rfl (le_nilS 1 false) ?_
  refine w_le (s := 2) (y := pS 1 false enc8 (openL l)) rfl (le_of_eq (congrArg (fun z => pS 1 false enc8 z) (show [] = (openL l) by first | (rw [e]; done) | (rw [e2]; done) | (simp [e2]; done) | (simp [e2, hn2]; done)))) ?_
  refine w_le (s := 3) (y := pB (openOk l)) rfl (le_of_eq (congrArg (fun z : Bool => pB z) (show false = (openOk l) by first | (rw [e]; done) | (rw [e2]; done) | (simp [e2]; done) | (simp [e2, hn2]; done)))) ?_
  refine w_ret ?_
  refine q_then_ret ?_
  exact fin_plain (ret_tmp rfl (ret_tmp rfl ret_nil)) rfl rfl ⟨rfl, rfl, rfl⟩

theorem w_burgagelaw2_same (l : List UInt8) (cl_l : Bool) (hl : l.length ≤ 140737488355326) :
    T Try.prog 24 [pS 1 cl_l enc8 l] 0 [] (Ret (pB true) 0 []) := by
 refine t_fun tabOk (n := 43) (rs := [.tmp 2]) Try.func24 rfl rfl rfl rfl (Nat.le_of_ble_eq_true rfl) ?_
 intro c hnt hk
 refine w_seq ?_
 refine w_R ?_
 refine qa hnt rfl rfl ?_
 refine r_end ?_
 refine q_then ?_
 refine w_seq ?_
 refine w_R ?_
 refine qm hnt rfl rfl ?_
 refine qo hnt rfl (s_callF rfl rfl rfl (w_crc_Open l cl_l (by first | omega | assumption | (simp; omega) | decide | (simp; done))) rfl ?_)
 refine qm hnt rfl rfl ?_
 refine qo hnt rfl (s_extract rfl rfl ?_)
 refine qo hnt rfl (s_extract rfl rfl ?_)
 refine qa hnt rfl rfl ?_
 refine qa hnt rfl rfl ?_
 refine r_end ?_
 refine q_then ?_
 refine w_seq ?_
 refine w_R ?_
 refine qm hnt rfl rfl ?_
 refine qo hnt rfl (s_callF rfl rfl rfl (w_burgageref1_Unseal l cl_l (by first | omega | assumption | (simp; omega) | decide | (simp; done))) rfl ?_)
 refine qm hnt rfl rfl ?_
 refine qo hnt rfl (s_extract rfl rfl ?_)
 refine qo hnt rfl (s_extract rfl rfl ?_)
 refine qa hnt rfl rfl ?_
 refine qa hnt rfl rfl ?_
 refine r_end ?_
 refine q_then ?_
 refine w_seq ?_
 refine W_drawn tabOk mixed hnt [[], [0], [], [0, 1, 2], [0, 1, 2, 3], [0, 1, 2, 3, 4], [0, 1, 2, 3, 4, 5], [0, 1, 2, 3, 4, 5, 6], [0, 1, 2, 3, 4, 5, 6, 7], [0, 1, 2, 3, 4, 5], [0, 1, 2, 3, 4, 5, 6, 7, 9], [0, 1, 2, 3, 4, 5, 6, 7, 9, 10], [0, 1, 2, 3, 4, 5, 6, 7, 8, 9, 10, 11], [0, 1, 2, 3, 4, 5, 6, 7, 8, 9, 10, 11, 12], [0, 1, 2, 3, 4, 5, 6, 7, 8, 9, 10, 11, 12, 13], [0, 1, 2, 3, 4, 5, 6, 7, 8, 9, 10, 11, 12, 13, 14], [0, 1, 2, 3, 4, 5, 6, 7, 8, 9, 10, 11, 12, 13, 14, 15], [0, 1, 2, 3, 4, 5, 6, 7, 8, 9, 10, 11, 12, 13, 14], [0, 1, 2, 3, 4, 5, 6, 7, 8, 9, 10, 11, 12, 13, 14, 17], [0, 1, 2, 3, 4, 5, 6, 7, 8, 9, 10, 11, 12, 13, 14, 15, 16, 17, 18], [0, 1, 2, 3, 4, 5, 6, 7, 8, 9, 10, 11, 12, 13, 14, 15, 16, 17, 18, 19], [0, 1, 2, 3, 4, 5, 6, 7, 8, 9, 10, 11, 12, 13, 14, 15, 16, 17, 18, 19, 20], [0, 1, 2, 3, 4, 5, 6, 7, 8, 9, 10, 11, 12, 13, 14, 15, 16, 17, 18, 19, 20, 21], [0, 1, 2, 3, 4, 5, 6, 7, 8, 9, 10, 11, 12, 13, 14, 15, 16, 17, 18, 19, 20, 21], [0, 1, 2, 3, 4, 5, 6, 7, 8, 9, 10, 11, 12, 13, 14, 15, 16, 17, 18, 19, 20, 21, 22, 23], [0, 1, 2, 3, 4, 5, 6, 7, 8, 9, 10, 11, 12, 13, 14, 15, 16, 17, 18, 19, 20, 21, 22, 23, 24], [0, 1, 2, 3, 4, 5, 6, 7, 8, 9, 10, 11, 12, 13, 14, 15, 16, 17, 18, 19, 20, 21, 22, 23, 24, 25]] (by kernel_rfl) ?_
 refine d_op ?_
 refine x_run0 [(0, pS 1 cl_l enc8 l)] [] rfl rfl rfl rfl (s_move rfl ⟨rfl, rfl, rfl⟩) ?_
 refine d_op ?_
 refine x_run0 [(17, pS 1 cl_l enc8 l)] [0] rfl rfl rfl rfl (s_callF rfl rfl rfl (w_crc_Of l cl_l (by first | omega | assumption | (simp; omega) | decide | (simp; done))) rfl ⟨rfl, rfl, rfl⟩) ?_
 refine d_op ?_
 refine x_run0 [(0, pS 1 cl_l enc8 l)] [] rfl rfl rfl rfl (s_move rfl ⟨rfl, rfl, rfl⟩) ?_
 refine d_op ?_
 refine x_run0 [(19, pS 1 cl_l enc8 l)] [0, 1, 2] rfl rfl rfl rfl (s_callF rfl rfl rfl (w_burgageref1_Sum l cl_l (by first | omega | assumption | (simp; omega) | decide | (simp; done))) rfl ⟨rfl, rfl, rfl⟩) ?_
 refine d_op ?_
 refine x_run0 [(18, p16 (crcSum l)), (20, p16 (crcSum l))] [0, 1, 2, 3] rfl rfl rfl rfl (s_eql16 (a := crcSum l) (b := crcSum l) rfl rfl ⟨rfl, rfl, rfl⟩) ?_
 refine d_op ?_
 refine x_run0 [(21, pB (decide (crcSum l = crcSum l)))] [0, 1, 2, 3, 4] rfl rfl rfl rfl (s_move rfl ⟨rfl, rfl, rfl⟩) ?_
 refine x_if [(22, pB (decide (crcSum l = crcSum l))), (0, pS 1 cl_l enc8 l)] [0, 1, 2, 3, 4, 5] rfl rfl rfl rfl (fun g1 => ?_) (fun g1 => ?_)
 ·
  have g1' := g1
  try simp only [sB] at g1'
  refine x_run0 [(22, pB (decide (crcSum l = crcSum l))), (0, pS 1 cl_l enc8 l)] [0, 1, 2, 3, 4, 5] rfl rfl rfl rfl (s_move rfl ⟨rfl, rfl, rfl⟩) ?_
  refine xy [(22, pB (decide (crcSum l = crcSum l))), (23, pS 1 cl_l enc8 l)] [0, 1, 2, 3, 4, 5, 6] rfl rfl rfl rfl g1 ?_
  refine x_run [(22, pB (decide (crcSum l = crcSum l))), (23, pS 1 cl_l enc8 l)] [0, 1, 2, 3, 4, 5, 6] [] [] [(0, oB true 1 enc8 (sealL l))] [(0, oB true 1 enc8 (sealL l))] [(0, oB true 1 enc8 (sealL l))] rfl rfl rfl rfl rfl rfl (s_callX (r2 := PV.ref 0 0 none) (nx1 := 1) (H2 := []) (H3 := [(0, oB true 1 enc8 (sealL l))]) [] [] rfl rfl rfl (handed_of (by decide) trivial) rfl rfl rfl rfl rfl rfl (w_crc_Seal l cl_l (by first | omega | assumption | (simp; omega) | decide | (simp; done))) rfl (dist_of rfl) rfl rfl rfl rfl ⟨rfl, rfl, rfl⟩) rfl trivial rfl rfl ?_
  refine xy [(22, pB (decide (crcSum l = crcSum l))), (24, PV.ref 0 0 none)] [0, 1, 2, 3, 4, 5, 6, 7] rfl rfl rfl rfl g1 ?_
  refine x_run [(22, pB (decide (crcSum l = crcSum l))), (24, PV.ref 0 0 none)] [0, 1, 2, 3, 4, 5, 6, 7] [(0, oB true 1 enc8 (sealL l))] [] [(0, oB true 1 enc8 (sealL l))] [] [(0, oB true 1 enc8 (sealL l))] rfl rfl rfl rfl rfl rfl (s_cvT tab_23 tab_9 rfl tab_5 rfl rfl (hM_ref0 (f := enc8) rfl rfl) ⟨rfl, rfl, rfl⟩) rfl ⟨rfl, trivial⟩ rfl rfl ?_
  refine xy [(22, pB (decide (crcSum l = crcSum l))), (0, pS 1 cl_l enc8 l)] [0, 1, 2, 3, 4, 5] rfl rfl rfl rfl g1 ?_
  refine x_run0 [(22, pB (decide (crcSum l = crcSum l))), (0, pS 1 cl_l enc8 l)] [0, 1, 2, 3, 4, 5] rfl rfl rfl rfl (s_move rfl ⟨rfl, rfl, rfl⟩) ?_
  refine xy [(22, pB (decide (crcSum l = crcSum l))), (26, pS 1 cl_l enc8 l)] [0, 1, 2, 3, 4, 5, 6, 7, 9] rfl rfl rfl rfl g1 ?_
  refine x_run [(22, pB (decide (crcSum l = crcSum l))), (26, pS 1 cl_l enc8 l)] [0, 1, 2, 3, 4, 5, 6, 7, 9] [] [] [(1, oB true 1 enc8 (sealL l))] [(1, oB true 1 enc8 (sealL l))] [(1, oB true 1 enc8 (sealL l)), (0, oB true 1 enc8 (sealL l))] rfl rfl rfl rfl rfl rfl (s_callX (r2 := PV.ref 1 0 none) (nx1 := 2) (H2 := []) (H3 := [(1, oB true 1 enc8 (sealL l))]) [] [] rfl rfl rfl (handed_of (by decide) trivial) rfl rfl rfl rfl rfl rfl (w_burgageref1_Seal l cl_l (by first | omega | assumption | (simp; omega) | decide | (simp; done))) rfl (dist_of rfl) rfl rfl rfl rfl ⟨rfl, rfl, rfl⟩) rfl trivial rfl rfl ?_
  refine xy [(22, pB (decide (crcSum l = crcSum l))), (27, PV.ref 1 0 none)] [0, 1, 2, 3, 4, 5, 6, 7, 9, 10] rfl rfl rfl rfl g1 ?_
  refine x_run [(22, pB (decide (crcSum l = crcSum l))), (27, PV.ref 1 0 none)] [0, 1, 2, 3, 4, 5, 6, 7, 9, 10] [(1, oB true 1 enc8 (sealL l))] [] [(1, oB true 1 enc8 (sealL l))] [] [(1, oB true 1 enc8 (sealL l)), (0, oB true 1 enc8 (sealL l))] rfl rfl rfl rfl rfl rfl (s_cvT tab_23 tab_9 rfl tab_5 rfl rfl (hM_ref0 (f := enc8) rfl rfl) ⟨rfl, rfl, rfl⟩) rfl ⟨rfl, trivial⟩ rfl rfl ?_
  refine xy [(22, pB (decide (crcSum l = crcSum l))), (25, pT (sealL l)), (28, pT (sealL l))] [0, 1, 2, 3, 4, 5, 6, 7, 8, 9, 10, 11] rfl rfl rfl rfl g1 ?_
  refine x_run0 [(22, pB (decide (crcSum l = crcSum l))), (25, pT (sealL l)), (28, pT (sealL l))] [0, 1, 2, 3, 4, 5, 6, 7, 8, 9, 10, 11] rfl rfl rfl rfl (s_eqtext (l := sealL l) (m := sealL l) rfl rfl ⟨rfl, rfl, rfl⟩) ?_
  refine d_op ?_
  refine x_run0 [(22, pB (decide (crcSum l = crcSum l))), (29, pB (decide (sealL l = sealL l)))] [0, 1, 2, 3, 4, 5, 6, 7, 8, 9, 10, 11, 12] rfl rfl rfl rfl (s_pick_t rfl g1 rfl ⟨rfl, rfl, rfl⟩) ?_
  refine d_op ?_
  refine x_run0 [(30, pB (decide (sealL l = sealL l)))] [0, 1, 2, 3, 4, 5, 6, 7, 8, 9, 10, 11, 12, 13] rfl rfl rfl rfl (s_move rfl ⟨rfl, rfl, rfl⟩) ?_
  refine x_if [(31, pB (decide (sealL l = sealL l))), (3, pS 1 false enc8 (openL l))] [0, 1, 2, 3, 4, 5, 6, 7, 8, 9, 10, 11, 12, 13, 14] rfl rfl rfl rfl (fun g2 => ?_) (fun g2 => ?_)
  ·
   have g2' := g2
   try simp only [sB] at g2'
   refine x_run0 [(31, pB (decide (sealL l = sealL l))), (3, pS 1 false enc8 (openL l))] [0, 1, 2, 3, 4, 5, 6, 7, 8, 9, 10, 11, 12, 13, 14] rfl rfl rfl rfl (s_move rfl ⟨rfl, rfl, rfl⟩) ?_
   refine xy [(31, pB (decide (sealL l = sealL l))), (32, pS 1 false enc8 (openL l))] [0, 1, 2, 3, 4, 5, 6, 7, 8, 9, 10, 11, 12, 13, 14, 15] rfl rfl rfl rfl g2 ?_
   refine x_run0 [(31, pB (decide (sealL l = sealL l))), (32, pS 1 false enc8 (openL l))] [0, 1, 2, 3, 4, 5, 6, 7, 8, 9, 10, 11, 12, 13, 14, 15] rfl rfl rfl rfl (s_cvT tab_23 tab_9 rfl tab_5 rfl rfl (hM_sl (f := enc8) rfl) ⟨rfl, rfl, rfl⟩) ?_
   refine xy [(31, pB (decide (sealL l = sealL l))), (5, pS 1 false enc8 (openL l))] [0, 1, 2, 3, 4, 5, 6, 7, 8, 9, 10, 11, 12, 13, 14] rfl rfl rfl rfl g2 ?_
   refine x_run0 [(31, pB (decide (sealL l = sealL l))), (5, pS 1 false enc8 (openL l))] [0, 1, 2, 3, 4, 5, 6, 7, 8, 9, 10, 11, 12, 13, 14] rfl rfl rfl rfl (s_move rfl ⟨rfl, rfl, rfl⟩) ?_
   refine xy [(31, pB (decide (sealL l = sealL l))), (34, pS 1 false enc8 (openL l))] [0, 1, 2, 3, 4, 5, 6, 7, 8, 9, 10, 11, 12, 13, 14, 17] rfl rfl rfl rfl g2 ?_
   refine x_run0 [(31, pB (decide (sealL l = sealL l))), (34, pS 1 false enc8 (openL l))] [0, 1, 2, 3, 4, 5, 6, 7, 8, 9, 10, 11, 12, 13, 14, 17] rfl rfl rfl rfl (s_cvT tab_23 tab_9 rfl tab_5 rfl rfl (hM_sl (f := enc8) rfl) ⟨rfl, rfl, rfl⟩) ?_
   refine xy [(31, pB (decide (sealL l = sealL l))), (33, pT (openL l)), (35, pT (openL l))] [0, 1, 2, 3, 4, 5, 6, 7, 8, 9, 10, 11, 12, 13, 14, 15, 16, 17, 18] rfl rfl rfl rfl g2 ?_
   refine x_run0 [(31, pB (decide (sealL l = sealL l))), (33, pT (openL l)), (35, pT (openL l))] [0, 1, 2, 3, 4, 5, 6, 7, 8, 9, 10, 11, 12, 13, 14, 15, 16, 17, 18] rfl rfl rfl rfl (s_eqtext (l := openL l) (m := openL l) rfl rfl ⟨rfl, rfl, rfl⟩) ?_
   refine d_op ?_
   refine x_run0 [(31, pB (decide (sealL l = sealL l))), (36, pB (decide (openL l = openL l)))] [0, 1, 2, 3, 4, 5, 6, 7, 8, 9, 10, 11, 12, 13, 14, 15, 16, 17, 18, 19] rfl rfl rfl rfl (s_pick_t rfl g2 rfl ⟨rfl, rfl, rfl⟩) ?_
   refine d_op ?_
   refine x_run0 [(37, pB (decide (openL l = openL l)))] [0, 1, 2, 3, 4, 5, 6, 7, 8, 9, 10, 11, 12, 13, 14, 15, 16, 17, 18, 19, 20] rfl rfl rfl rfl (s_move rfl ⟨rfl, rfl, rfl⟩) ?_
   refine x_if [(38, pB (decide (openL l = openL l))), (4, pB (openOk l))] [0, 1, 2, 3, 4, 5, 6, 7, 8, 9, 10, 11, 12, 13, 14, 15, 16, 17, 18, 19, 20, 21] rfl rfl rfl rfl (fun g3 => ?_) (fun g3 => ?_)
   ·
    have g3' := g3
    try simp only [sB] at g3'
    refine x_run0 [(38, pB (decide (openL l = openL l))), (4, pB (openOk l))] [0, 1, 2, 3, 4, 5, 6, 7, 8, 9, 10, 11, 12, 13, 14, 15, 16, 17, 18, 19, 20, 21] rfl rfl rfl rfl (s_move rfl ⟨rfl, rfl, rfl⟩) ?_
    refine xy [(38, pB (decide (openL l = openL l))), (6, pB (openOk l))] [0, 1, 2, 3, 4, 5, 6, 7, 8, 9, 10, 11, 12, 13, 14, 15, 16, 17, 18, 19, 20, 21] rfl rfl rfl rfl g3 ?_
    refine x_run0 [(38, pB (decide (openL l = openL l))), (6, pB (openOk l))] [0, 1, 2, 3, 4, 5, 6, 7, 8, 9, 10, 11, 12, 13, 14, 15, 16, 17, 18, 19, 20, 21] rfl rfl rfl rfl (s_move rfl ⟨rfl, rfl, rfl⟩) ?_
    refine xy [(38, pB (decide (openL l = openL l))), (39, pB (openOk l)), (40, pB (openOk l))] [0, 1, 2, 3, 4, 5, 6, 7, 8, 9, 10, 11, 12, 13, 14, 15, 16, 17, 18, 19, 20, 21, 22, 23] rfl rfl rfl rfl g3 ?_
    refine x_run0 [(38, pB (decide (openL l = openL l))), (39, pB (openOk l)), (40, pB (openOk l))] [0, 1, 2, 3, 4, 5, 6, 7, 8, 9, 10, 11, 12, 13, 14, 15, 16, 17, 18, 19, 20, 21, 22, 23] rfl rfl rfl rfl (s_eqbool tab_4 rfl rfl rfl ⟨rfl, rfl, rfl⟩) ?_
    refine d_op ?_
    refine x_run0 [(38, pB (decide (openL l = openL l))), (41, pB ((openOk l) == (openOk l)))] [0, 1, 2, 3, 4, 5, 6, 7, 8, 9, 10, 11, 12, 13, 14, 15, 16, 17, 18, 19, 20, 21, 22, 23, 24] rfl rfl rfl rfl (s_pick_t rfl g3 rfl ⟨rfl, rfl, rfl⟩) ?_
    refine d_op ?_
    refine x_run0 [(42, pB ((openOk l) == (openOk l)))] [0, 1, 2, 3, 4, 5, 6, 7, 8, 9, 10, 11, 12, 13, 14, 15, 16, 17, 18, 19, 20, 21, 22, 23, 24, 25] rfl rfl rfl rfl (s_assign rfl ⟨rfl, rfl, rfl⟩) ?_
    refine d_end ⟨by kernel_rfl, ?_⟩
    refine q_then ?_
    refine w_le (s := 2) (y := pB true) rfl (le_of_eq (congrArg (fun z : Bool => pB z) (show ((openOk l) == (openOk l)) = true by simp))) ?_
    refine w_ret ?_
    exact fin_plain (ret_tmp rfl ret_nil) rfl rfl ⟨rfl, rfl, rfl⟩
   ·
    exact absurd g3 (by simp)
  ·
   exact absurd g2 (by simp)
 ·
  exact absurd g1 (by simp)

theorem w_burgagelaw2_known   :
    T Try.prog 26 [] 0 [] (Ret (pB true) 0 []) := by
 refine t_fun tabOk (n := 43) (rs := [.tmp 0]) Try.func26 rfl rfl rfl rfl (Nat.le_of_ble_eq_true rfl) ?_
 intro c hnt hk
 refine w_seq ?_
 refine w_R ?_
 refine qa hnt rfl rfl ?_
 refine r_end ?_
 refine q_then ?_
 refine w_seq ?_
 refine w_R ?_
 refine qo hnt rfl (s_mkM (f := enc8) ([97, 98] : List UInt8) tab_23 rfl tab_5 ⟨rfl, by decide⟩ (by decide) rfl rfl rfl rfl ?_)
 refine qo hnt rfl (s_markU tab_23 rfl tab_5 rfl rfl rfl (by first | exact List.cons_ne_nil _ _ | simp) ?_)
 refine qo hnt rfl (s_callX (r2 := PV.ref 1 0 none) (nx1 := 2) (H2 := []) (H3 := [(1, oB true 1 enc8 (sealL ([97, 98] : List UInt8)))]) [] [] rfl rfl rfl (handed_of (by decide) trivial) rfl rfl rfl rfl rfl rfl (w_crc_Seal ([97, 98] : List UInt8) false (by first | omega | assumption | (simp; omega) | decide | (simp; done))) rfl (dist_of rfl) rfl rfl rfl rfl ?_)
 refine qo hnt rfl (s_callX (r2 := PV.tup [pS 1 false enc8 (openL (sealL ([97, 98] : List UInt8))), pB (openOk (sealL ([97, 98] : List UInt8)))]) (nx1 := 2) (H2 := [(1, oB false 1 enc8 (sealL ([97, 98] : List UInt8)))]) (H3 := [(1, oB false 1 enc8 (sealL ([97, 98] : List UInt8)))]) [] [] rfl rfl rfl (handed_of (by decide) trivial) rfl rfl rfl rfl rfl rfl (w_crc_Open (sealL ([97, 98] : List UInt8)) false (by first | omega | assumption | (simp; omega) | decide | (simp; done))) rfl (dist_of rfl) rfl rfl rfl rfl ?_)
 refine qm hnt rfl rfl ?_
 refine qo hnt rfl (s_extract rfl rfl ?_)
 refine qo hnt rfl (s_extract rfl rfl ?_)
 refine qa hnt rfl rfl ?_
 refine qa hnt rfl rfl ?_
 refine r_set [(1, pS 1 false enc8 (openL (sealL ([97, 98] : List UInt8)))), (2, pB (openOk (sealL ([97, 98] : List UInt8))))] [(1, oB false 1 enc8 (sealL ([97, 98] : List UInt8)))] 2 ⟨rfl, rfl, trivial⟩ rfl rfl ?_
 refine r_end ?_
 refine q_then ?_
 refine w_seq ?_
 refine w_R ?_
 refine qo hnt rfl (s_callF rfl rfl rfl (T.leL (args := [pNil]) (args' := [pS 1 false enc8 []]) ⟨le_F (FLe.nil 1 false), trivial⟩ (w_crc_Open [] false (by first | omega | assumption | (simp; omega) | decide | (simp; done)))) rfl ?_)
 refine qm hnt rfl rfl ?_
 refine qo hnt rfl (s_extract rfl rfl ?_)
 refine qo hnt rfl (s_extract rfl rfl ?_)
 refine qa hnt rfl rfl ?_
 refine qa hnt rfl rfl ?_
 refine r_end ?_
 refine q_then ?_
 refine w_seq ?_
 refine w_R ?_
 refine qo hnt rfl (s_callF rfl rfl rfl (T.leL (args := [pNil]) (args' := [pS 1 false enc8 []]) ⟨le_F (FLe.nil 1 false), trivial⟩ (w_crc_Of [] false (by first | omega | assumption | (simp; omega) | decide | (simp; done)))) rfl ?_)
 refine qo hnt rfl (s_eql16 (a := crcSum []) (b := 65535) rfl rfl ?_)
 refine qm hnt rfl rfl ?_
 refine r_if tabOk hnt rfl rfl rfl (fun g1 => ?_) (fun g1 => ?_)
 ·
  have g1' := g1
  try simp only [sB] at g1'
  refine qo hnt rfl (s_mkM (f := enc8) ([49, 50, 51, 52, 53, 54, 55, 56, 57] : List UInt8) tab_23 rfl tab_5 ⟨rfl, by decide⟩ (by decide) rfl rfl rfl rfl ?_)
  refine ry hnt rfl rfl rfl g1 ?_
  refine qo hnt rfl (s_markU tab_23 rfl tab_5 rfl rfl rfl (by first | exact List.cons_ne_nil _ _ | simp) ?_)
  refine ry hnt rfl rfl rfl g1 ?_
  refine qo hnt rfl (s_callF rfl rfl rfl (w_crc_Of ([49, 50, 51, 52, 53, 54, 55, 56, 57] : List UInt8) false (by first | omega | assumption | (simp; omega) | decide | (simp; done))) rfl ?_)
  refine ry hnt rfl rfl rfl g1 ?_
  refine qo hnt rfl (s_eql16 (a := crcSum ([49, 50, 51, 52, 53, 54, 55, 56, 57] : List UInt8)) (b := 19255) rfl rfl ?_)
  refine qo hnt rfl (s_pick_t rfl g1 rfl ?_)
  refine qm hnt rfl rfl ?_
  refine r_if tabOk hnt rfl rfl rfl (fun g2 => ?_) (fun g2 => ?_)
  ·
   have g2' := g2
   try simp only [sB] at g2'
   refine qm hnt rfl rfl ?_
   refine qo hnt rfl (s_pick_t rfl g2 rfl ?_)
   refine qm hnt rfl rfl ?_
   refine r_if tabOk hnt rfl rfl rfl (fun g3 => ?_) (fun g3 => ?_)
   ·
    have g3' := g3
    try simp only [sB] at g3'
    refine qm hnt rfl rfl ?_
    refine ry hnt rfl rfl rfl g3 ?_
    refine qo hnt rfl (s_cvT tab_23 tab_9 rfl tab_5 rfl rfl (hM_sl (f := enc8) rfl) ?_)
    refine ry hnt rfl rfl rfl g3 ?_
    refine qo hnt rfl (s_eqtext (l := openL (sealL ([97, 98] : List UInt8))) (m := ([97, 98] : List UInt8)) rfl rfl ?_)
    refine qo hnt rfl (s_pick_t rfl g3 rfl ?_)
    refine qm hnt rfl rfl ?_
    refine r_if tabOk hnt rfl rfl rfl (fun g4 => ?_) (fun g4 => ?_)
    ·
     have g4' := g4
     try simp only [sB] at g4'
     refine qm hnt rfl rfl ?_
     refine ry hnt rfl rfl rfl g4 ?_
     refine qo hnt rfl (s_not rfl ?_)
     refine qo hnt rfl (s_pick_t rfl g4 rfl ?_)
     refine qm hnt rfl rfl ?_
     refine r_if tabOk hnt rfl rfl rfl (fun g5 => ?_) (fun g5 => ?_)
     ·
      have g5' := g5
      try simp only [sB] at g5'
      refine qo hnt rfl (s_mkM (f := enc8) ([49, 50, 51, 52, 53, 54, 55, 56, 57] : List UInt8) tab_23 rfl tab_5 ⟨rfl, by decide⟩ (by decide) rfl rfl rfl rfl ?_)
      refine ry hnt rfl rfl rfl g5 ?_
      refine qo hnt rfl (s_markU tab_23 rfl tab_5 rfl rfl rfl (by first | exact List.cons_ne_nil _ _ | simp) ?_)
      refine ry hnt rfl rfl rfl g5 ?_
      refine qo hnt rfl (s_callX (r2 := PV.ref 4 0 none) (nx1 := 5) (H2 := [(1, oB false 1 enc8 (sealL ([97, 98] : List UInt8)))]) (H3 := [(4, oB true 1 enc8 (sealL ([49, 50, 51, 52, 53, 54, 55, 56, 57] : List UInt8))), (1, oB false 1 enc8 (sealL ([97, 98] : List UInt8)))]) [] [] rfl rfl rfl (handed_of (by decide) trivial) rfl rfl rfl rfl rfl rfl (w_crc_Seal ([49, 50, 51, 52, 53, 54, 55, 56, 57] : List UInt8) false (by first | omega | assumption | (simp; omega) | decide | (simp; done))) rfl (dist_of rfl) rfl rfl rfl rfl ?_)
      refine ry hnt rfl rfl rfl g5 ?_
      refine qo hnt rfl (s_cvT tab_23 tab_9 rfl tab_5 rfl rfl (hM_ref0 (f := enc8) rfl rfl) ?_)
      refine ry hnt rfl rfl rfl g5 ?_
      refine qo hnt rfl (s_eqtext (l := sealL ([49, 50, 51, 52, 53, 54, 55, 56, 57] : List UInt8)) (m := ([49, 50, 51, 52, 53, 54, 55, 56, 57, 55, 75] : List UInt8)) rfl rfl ?_)
      refine qo hnt rfl (s_pick_t rfl g5 rfl ?_)
      refine qa hnt rfl rfl ?_
      refine r_set [(0, pB (decide (sealL ([49, 50, 51, 52, 53, 54, 55, 56, 57] : List UInt8) = ([49, 50, 51, 52, 53, 54, 55, 56, 57, 55, 75] : List UInt8))))] [(4, oB true 1 enc8 (sealL ([49, 50, 51, 52, 53, 54, 55, 56, 57] : List UInt8))), (1, oB false 1 enc8 (sealL ([97, 98] : List UInt8)))] 5 ⟨rfl, trivial⟩ rfl rfl ?_
      refine r_end ?_
      refine q_then ?_
      refine w_le (s := 0) (y := pB true) rfl (le_of_eq (congrArg (fun z : Bool => pB z) (show (decide (sealL ([49, 50, 51, 52, 53, 54, 55, 56, 57] : List UInt8) = ([49, 50, 51, 52, 53, 54, 55, 56, 57, 55, 75] : List UInt8))) = true by decide +kernel))) ?_
      refine w_ret ?_
      exact fin_plain (ret_tmp rfl ret_nil) rfl rfl ⟨rfl, rfl, rfl⟩
     ·
      exact absurd g5 (by first | decide | decide +kernel | (simp at he1; subst he1; decide))
    ·
     exact absurd g4 (by first | decide | decide +kernel | (simp at he1; subst he1; decide))
   ·
    exact absurd g3 (by first | decide | decide +kernel | (simp at he1; subst he1; decide))
  ·
   exact absurd g2 (by first | decide | decide +kernel | (simp at he1; subst he1; decide))
 ·
  exact absurd g1 (by first | decide | decide +kernel | (simp at he1; subst he1; decide))

theorem w_burgagelaw2_CrcNumbers   :
    T Try.prog 7 [] 0 [] (Ret (pB true) 0 []) := by
 refine t_fun tabOk (n := 50) (rs := [.tmp 0]) Try.func7 rfl rfl rfl rfl (Nat.le_of_ble_eq_true rfl) ?_
 intro c hnt hk
 refine w_seq ?_
 refine w_R ?_
 refine qa hnt rfl rfl ?_
 refine r_end ?_
 refine q_then ?_
 refine w_seq ?_
 refine w_R ?_
 refine qa hnt rfl rfl ?_
 refine r_end ?_
 refine q_then ?_
 refine w_seq ?_
 refine w_seq ?_
 refine w_R ?_
 refine qa hnt rfl rfl ?_
 refine r_end ?_
 refine q_then ?_
 refine w_block ?_
 refine w_adopt (s := 1) (sz := 1) rfl ?_
 refine w_low (n := 0) rfl ?_
 refine loop2 (fun (bs : List UInt8) (i : Nat) => i ≤ 256 ∧ bs.length = i) (fun (bs : List UInt8) (i : Nat) => [(1, PV.ref 0 0 none), (2, pN i)]) 1 (fun (bs : List UInt8) (i : Nat) => [(0, oB false 1 enc8 bs)]) (fun (bs : List UInt8) (i : Nat) => 256 - i) (([] : List UInt8)) (0) ?_ ⟨[(0, 0)], by rw [hk]; decide, ⟨⟨_, rfl, rfl, rfl⟩, ⟨_, rfl, rfl, rfl⟩, trivial⟩, ⟨⟨_, _, rfl, rfl, rfl, rfl⟩, trivial⟩, by rw [hk]; decide⟩ ?_
 · simp
 ·
  intro bs i hI
  obtain ⟨hi, hb⟩ := hI
  have hii : i * i ≤ 256 * 256 := Nat.mul_le_mul (by omega) (by omega)
  refine w_seq ?_
  refine w_seq ?_
  refine w_R ?_
  refine qm hnt rfl rfl ?_
  refine qo hnt rfl (s_lss rfl rfl ?_)
  refine r_end ?_
  refine q_then ?_
  refine w_if rfl (fun c1 => ?_) (fun c1 => ?_)
  ·
   have c1_ := c1
   try simp only [sB] at c1
   refine w_skip ?_
   refine q_then ?_
   refine w_seq ?_
   refine w_block ?_
   refine w_seq ?_
   refine w_seq ?_
   refine w_R ?_
   refine qm hnt rfl rfl ?_
   refine qo hnt rfl (s_cv8N (a := i) tab_3 tab_5 rfl rfl rfl (by omega) ?_)
   refine qo hnt rfl (s_mkM (f := enc8) [UInt8.ofNat i] tab_23 rfl tab_5 ⟨rfl, by decide⟩ (by decide) rfl rfl rfl rfl ?_)
   refine qo hnt rfl (s_callX (r2 := pB true) (nx1 := 2) (H2 := [(1, oB false 1 enc8 [UInt8.ofNat i]), (0, oB false 1 enc8 bs)]) (H3 := [(1, oB false 1 enc8 [UInt8.ofNat i]), (0, oB false 1 enc8 bs)]) [] [] rfl rfl rfl (handed_of (by decide) trivial) rfl rfl rfl rfl rfl rfl (w_burgagelaw2_same [UInt8.ofNat i] false (by first | omega | assumption | (simp; omega) | decide | (simp; done))) rfl (dist_of rfl) rfl rfl rfl rfl ?_)
   refine qo hnt rfl (s_not rfl ?_)
   refine qm hnt rfl rfl ?_
   refine ry hnt rfl rfl rfl rfl ?_
   refine qm hnt rfl rfl ?_
   refine ry hnt rfl rfl rfl rfl ?_
   refine qo hnt rfl (s_cv8N (a := i) tab_3 tab_5 rfl rfl rfl (by omega) ?_)
   refine ry hnt rfl rfl rfl rfl ?_
   refine qo hnt rfl (s_mkM (f := enc8) [0, UInt8.ofNat i, 255] tab_23 rfl tab_5 ⟨rfl, by decide⟩ (by decide) rfl rfl rfl rfl ?_)
   refine ry hnt rfl rfl rfl rfl ?_
   refine qo hnt rfl (s_callX (r2 := pB true) (nx1 := 3) (H2 := [(2, oB false 1 enc8 [0, UInt8.ofNat i, 255]), (1, oB false 1 enc8 [UInt8.ofNat i]), (0, oB false 1 enc8 bs)]) (H3 := [(2, oB false 1 enc8 [0, UInt8.ofNat i, 255]), (1, oB false 1 enc8 [UInt8.ofNat i]), (0, oB false 1 enc8 bs)]) [] [] rfl rfl rfl (handed_of (by decide) trivial) rfl rfl rfl rfl rfl rfl (w_burgagelaw2_same [0, UInt8.ofNat i, 255] false (by first | omega | assumption | (simp; omega) | decide | (simp; done))) rfl (dist_of rfl) rfl rfl rfl rfl ?_)
   refine ry hnt rfl rfl rfl rfl ?_
   refine qo hnt rfl (s_not rfl ?_)
   refine qo hnt rfl (s_pick_f rfl rfl rfl ?_)
   refine qm hnt rfl rfl ?_
   refine ry hnt rfl rfl rfl rfl ?_
   refine qm hnt rfl rfl ?_
   refine ry hnt rfl rfl rfl rfl ?_
   refine qo hnt rfl (s_cv8N (a := i) tab_3 tab_5 rfl rfl rfl (by omega) ?_)
   refine ry hnt rfl rfl rfl rfl ?_
   refine qo hnt rfl (s_mkM (f := enc8) [UInt8.ofNat i] tab_23 rfl tab_5 ⟨rfl, by decide⟩ (by decide) rfl rfl rfl rfl ?_)
   refine ry hnt rfl rfl rfl rfl ?_
   refine qo hnt rfl (s_callX (r2 := PV.ref 4 0 none) (nx1 := 5) (H2 := [(3, oB false 1 enc8 [UInt8.ofNat i]), (2, oB false 1 enc8 [0, UInt8.ofNat i, 255]), (1, oB false 1 enc8 [UInt8.ofNat i]), (0, oB false 1 enc8 bs)]) (H3 := [(4, oB true 1 enc8 (sealL [UInt8.ofNat i])), (3, oB false 1 enc8 [UInt8.ofNat i]), (2, oB false 1 enc8 [0, UInt8.ofNat i, 255]), (1, oB false 1 enc8 [UInt8.ofNat i]), (0, oB false 1 enc8 bs)]) [] [] rfl rfl rfl (handed_of (by decide) trivial) rfl rfl rfl rfl rfl rfl (w_burgageref1_Seal [UInt8.ofNat i] false (by first | omega | assumption | (simp; omega) | decide | (simp; done))) rfl (dist_of rfl) rfl rfl rfl rfl ?_)
   refine ry hnt rfl rfl rfl rfl ?_
   refine qo hnt rfl (s_callX (r2 := pB true) (nx1 := 5) (H2 := [(4, oB false 1 enc8 (sealL [UInt8.ofNat i])), (3, oB false 1 enc8 [UInt8.ofNat i]), (2, oB false 1 enc8 [0, UInt8.ofNat i, 255]), (1, oB false 1 enc8 [UInt8.ofNat i]), (0, oB false 1 enc8 bs)]) (H3 := [(4, oB false 1 enc8 (sealL [UInt8.ofNat i])), (3, oB false 1 enc8 [UInt8.ofNat i]), (2, oB false 1 enc8 [0, UInt8.ofNat i, 255]), (1, oB false 1 enc8 [UInt8.ofNat i]), (0, oB false 1 enc8 bs)]) [] [] rfl rfl rfl (handed_of (by decide) trivial) rfl rfl rfl rfl rfl rfl (w_burgagelaw2_same (sealL [UInt8.ofNat i]) false (by first | omega | assumption | (simp; omega) | decide | (simp; done))) rfl (dist_of rfl) rfl rfl rfl rfl ?_)
   refine ry hnt rfl rfl rfl rfl ?_
   refine qo hnt rfl (s_not rfl ?_)
   refine qo hnt rfl (s_pick_f rfl rfl rfl ?_)
   refine r_set [(1, PV.ref 0 0 none), (2, pN i), (13, pN i), (14, p8 (UInt8.ofNat i)), (15, PV.ref 2 0 none), (16, pB true), (17, pB (!true)), (20, pN i), (21, p8 (UInt8.ofNat i)), (22, PV.ref 3 0 none), (23, PV.ref 4 0 none), (24, pB true), (25, pB (!true)), (26, pB (!true))] [(4, oB false 1 enc8 (sealL [UInt8.ofNat i])), (3, oB false 1 enc8 [UInt8.ofNat i]), (2, oB false 1 enc8 [0, UInt8.ofNat i, 255]), (1, oB false 1 enc8 [UInt8.ofNat i]), (0, oB false 1 enc8 bs)] 5 ⟨rfl, rfl, rfl, rfl, rfl, rfl, rfl, rfl, rfl, rfl, rfl, rfl, rfl, rfl, trivial⟩ rfl rfl ?_
   refine r_end ?_
   refine q_then ?_
   refine w_if rfl (fun e => absurd e (by decide)) (fun _ => ?_)
   refine w_skip ?_
   refine q_then ?_
   refine w_seq ?_
   refine w_R ?_
   refine qm hnt rfl rfl ?_
   refine qm hnt rfl rfl ?_
   refine qm hnt rfl rfl ?_
   refine qo hnt rfl (s_mulN (a := i) (b := i) rfl rfl (by omega) (by omega) (by omega) ?_)
   refine qo hnt rfl (s_addN (a := i * i) (b := 3) rfl rfl (by omega) (by omega) (by omega) ?_)
   refine qo hnt rfl (s_cv8N (a := i * i + 3) tab_3 tab_5 rfl rfl rfl (by omega) ?_)
   refine qo hnt rfl (s_mkM (f := enc8) [UInt8.ofNat (i * i + 3)] tab_23 rfl tab_5 ⟨rfl, by decide⟩ (by decide) rfl rfl rfl rfl ?_)
   refine qo hnt rfl (s_appR0 (f := enc8) (l := bs) (xs := [UInt8.ofNat (i * i + 3)]) tab_23 rfl tab_5 ⟨rfl, by decide, by decide⟩ (srcM tab_23 rfl (hM_ref0 (f := enc8) rfl rfl)) rfl rfl (by first | omega | (simp; omega)) ?_)
   refine qa hnt rfl rfl ?_
   refine r_set [(1, PV.ref 6 0 none), (2, pN i), (13, pN i), (14, p8 (UInt8.ofNat i)), (15, PV.ref 2 0 none), (16, pB true), (17, pB (!true)), (20, pN i), (21, p8 (UInt8.ofNat i)), (22, PV.ref 3 0 none), (23, PV.ref 4 0 none), (24, pB true), (25, pB (!true))] [(6, oB false 1 enc8 (bs ++ [UInt8.ofNat (i * i + 3)])), (5, oB true 1 enc8 [UInt8.ofNat (i * i + 3)]), (4, oB false 1 enc8 (sealL [UInt8.ofNat i])), (3, oB false 1 enc8 [UInt8.ofNat i]), (2, oB false 1 enc8 [0, UInt8.ofNat i, 255]), (1, oB false 1 enc8 [UInt8.ofNat i])] 7 ⟨rfl, rfl, rfl, rfl, rfl, rfl, rfl, rfl, rfl, rfl, rfl, rfl, rfl, trivial⟩ rfl rfl ?_
   refine r_end ?_
   refine q_then ?_
   refine w_seq ?_
   refine w_R ?_
   refine qm hnt rfl rfl ?_
   refine qo hnt rfl (s_remN (a := i) (b := 17) rfl rfl (by omega) (by omega) (by omega) ?_)
   refine qo hnt rfl (s_eql rfl rfl ?_)
   refine qm hnt rfl rfl ?_
   refine r_if tabOk hnt rfl rfl rfl (fun g1 => ?_) (fun g1 => ?_)
   ·
    have g1' := g1
    try simp only [sB] at g1'
    refine qm hnt rfl rfl ?_
    refine ry hnt rfl rfl rfl g1 ?_
    refine qo hnt rfl (s_callX (r2 := pB true) (nx1 := 7) (H2 := [(6, oB false 1 enc8 (bs ++ [UInt8.ofNat (i * i + 3)])), (5, oB true 1 enc8 [UInt8.ofNat (i * i + 3)]), (4, oB false 1 enc8 (sealL [UInt8.ofNat i])), (3, oB false 1 enc8 [UInt8.ofNat i]), (2, oB false 1 enc8 [0, UInt8.ofNat i, 255]), (1, oB false 1 enc8 [UInt8.ofNat i])]) (H3 := [(6, oB false 1 enc8 (bs ++ [UInt8.ofNat (i * i + 3)])), (5, oB true 1 enc8 [UInt8.ofNat (i * i + 3)]), (4, oB false 1 enc8 (sealL [UInt8.ofNat i])), (3, oB false 1 enc8 [UInt8.ofNat i]), (2, oB false 1 enc8 [0, UInt8.ofNat i, 255]), (1, oB false 1 enc8 [UInt8.ofNat i])]) [] [] rfl rfl rfl (handed_of (by decide) trivial) rfl rfl rfl rfl rfl rfl (w_burgagelaw2_same (bs ++ [UInt8.ofNat (i * i + 3)]) false (by first | omega | assumption | (simp; omega) | decide | (simp; done))) rfl (dist_of rfl) rfl rfl rfl rfl ?_)
    refine ry hnt rfl rfl rfl g1 ?_
    refine qo hnt rfl (s_not rfl ?_)
    refine ry hnt rfl rfl rfl g1 ?_
    refine qm hnt rfl rfl ?_
    refine ry hnt rfl rfl rfl rfl ?_
    refine qm hnt rfl rfl ?_
    refine ry hnt rfl rfl rfl rfl ?_
    refine qo hnt rfl (s_callX (r2 := PV.ref 7 0 none) (nx1 := 8) (H2 := [(6, oB false 1 enc8 (bs ++ [UInt8.ofNat (i * i + 3)])), (5, oB true 1 enc8 [UInt8.ofNat (i * i + 3)]), (4, oB false 1 enc8 (sealL [UInt8.ofNat i])), (3, oB false 1 enc8 [UInt8.ofNat i]), (2, oB false 1 enc8 [0, UInt8.ofNat i, 255]), (1, oB false 1 enc8 [UInt8.ofNat i])]) (H3 := [(7, oB true 1 enc8 (sealL (bs ++ [UInt8.ofNat (i * i + 3)]))), (6, oB false 1 enc8 (bs ++ [UInt8.ofNat (i * i + 3)])), (5, oB true 1 enc8 [UInt8.ofNat (i * i + 3)]), (4, oB false 1 enc8 (sealL [UInt8.ofNat i])), (3, oB false 1 enc8 [UInt8.ofNat i]), (2, oB false 1 enc8 [0, UInt8.ofNat i, 255]), (1, oB false 1 enc8 [UInt8.ofNat i])]) [] [] rfl rfl rfl (handed_of (by decide) trivial) rfl rfl rfl rfl rfl rfl (w_burgageref1_Seal (bs ++ [UInt8.ofNat (i * i + 3)]) false (by first | omega | assumption | (simp; omega) | decide | (simp; done))) rfl (dist_of rfl) rfl rfl rfl rfl ?_)
    refine ry hnt rfl rfl rfl rfl ?_
    refine qo hnt rfl (s_callX (r2 := pB true) (nx1 := 8) (H2 := [(7, oB false 1 enc8 (sealL (bs ++ [UInt8.ofNat (i * i + 3)]))), (6, oB false 1 enc8 (bs ++ [UInt8.ofNat (i * i + 3)])), (5, oB true 1 enc8 [UInt8.ofNat (i * i + 3)]), (4, oB false 1 enc8 (sealL [UInt8.ofNat i])), (3, oB false 1 enc8 [UInt8.ofNat i]), (2, oB false 1 enc8 [0, UInt8.ofNat i, 255]), (1, oB false 1 enc8 [UInt8.ofNat i])]) (H3 := [(7, oB false 1 enc8 (sealL (bs ++ [UInt8.ofNat (i * i + 3)]))), (6, oB false 1 enc8 (bs ++ [UInt8.ofNat (i * i + 3)])), (5, oB true 1 enc8 [UInt8.ofNat (i * i + 3)]), (4, oB false 1 enc8 (sealL [UInt8.ofNat i])), (3, oB false 1 enc8 [UInt8.ofNat i]), (2, oB false 1 enc8 [0, UInt8.ofNat i, 255]), (1, oB false 1 enc8 [UInt8.ofNat i])]) [] [] rfl rfl rfl (handed_of (by decide) trivial) rfl rfl rfl rfl rfl rfl (w_burgagelaw2_same (sealL (bs ++ [UInt8.ofNat (i * i + 3)])) false (by first | omega | assumption | (simp; omega) | decide | (simp; done))) rfl (dist_of rfl) rfl rfl rfl rfl ?_)
    refine ry hnt rfl rfl rfl rfl ?_
    refine qo hnt rfl (s_not rfl ?_)
    refine ry hnt rfl rfl rfl g1 ?_
    refine qo hnt rfl (s_pick_f rfl rfl rfl ?_)
    refine qo hnt rfl (s_pick_t rfl g1 rfl ?_)
    refine r_set [(1, PV.ref 6 0 none), (2, pN i), (13, pN i), (14, p8 (UInt8.ofNat i)), (15, PV.ref 2 0 none), (16, pB true), (17, pB (!true)), (20, pN i), (21, p8 (UInt8.ofNat i)), (22, PV.ref 3 0 none), (23, PV.ref 4 0 none), (24, pB true), (25, pB (!true)), (39, PV.ref 6 0 none), (40, pB true), (41, pB (!true)), (42, pB (!true)), (43, PV.ref 6 0 none), (44, PV.ref 7 0 none), (45, pB true), (46, pB (!true)), (47, pB (!true)), (48, pB (!true))] [(7, oB false 1 enc8 (sealL (bs ++ [UInt8.ofNat (i * i + 3)]))), (6, oB false 1 enc8 (bs ++ [UInt8.ofNat (i * i + 3)])), (5, oB true 1 enc8 [UInt8.ofNat (i * i + 3)]), (4, oB false 1 enc8 (sealL [UInt8.ofNat i])), (3, oB false 1 enc8 [UInt8.ofNat i]), (2, oB false 1 enc8 [0, UInt8.ofNat i, 255]), (1, oB false 1 enc8 [UInt8.ofNat i])] 8 ⟨rfl, rfl, rfl, rfl, rfl, rfl, rfl, rfl, rfl, rfl, rfl, rfl, rfl, rfl, rfl, rfl, rfl, rfl, rfl, rfl, rfl, rfl, rfl, trivial⟩ rfl rfl ?_
    refine r_end ?_
    refine q_then ?_
    refine w_if rfl (fun e => absurd e (by decide)) (fun _ => ?_)
    refine w_skip ?_
    refine q_block ?_
    refine q_then ?_
    refine w_R ?_
    refine qm hnt rfl rfl ?_
    refine qo hnt rfl (s_addN (a := i) (b := 1) rfl rfl (by omega) (by omega) (by omega) ?_)
    refine qa hnt rfl rfl ?_
    refine r_end ?_
    refine q_then ?_
    refine ⟨(bs ++ [UInt8.ofNat (i * i + 3)]), (i + 1), ?_, ?_, ⟨[(0, 6)], by rw [hk]; decide, ⟨⟨_, rfl, rfl, rfl⟩, ⟨_, rfl, rfl, rfl⟩, trivial⟩, ⟨⟨_, _, rfl, rfl, rfl, rfl⟩, trivial⟩, by rw [hk]; decide⟩⟩
    ·
     exact ⟨by omega, by simp [hb]⟩
    · omega
   ·
    have g1' := g1
    try simp only [sB] at g1'
    refine rn hnt rfl rfl rfl g1 ?_
    refine rn hnt rfl rfl rfl g1 ?_
    refine rn hnt rfl rfl rfl g1 ?_
    refine ru hnt rfl rfl rfl ?_
    refine ru hnt rfl rfl rfl ?_
    refine ru hnt rfl rfl rfl ?_
    refine ru hnt rfl rfl rfl ?_
    refine rn hnt rfl rfl rfl g1 ?_
    refine qo hnt rfl (s_pick_f rfl g1 rfl ?_)
    refine r_end ?_
    refine q_then ?_
    refine w_if rfl (fun e => absurd e (by decide)) (fun _ => ?_)
    refine w_skip ?_
    refine q_block ?_
    refine q_then ?_
    refine w_R ?_
    refine qm hnt rfl rfl ?_
    refine qo hnt rfl (s_addN (a := i) (b := 1) rfl rfl (by omega) (by omega) (by omega) ?_)
    refine qa hnt rfl rfl ?_
    refine r_end ?_
    refine q_then ?_
    refine ⟨(bs ++ [UInt8.ofNat (i * i + 3)]), (i + 1), ?_, ?_, ⟨[(0, 6)], by rw [hk]; decide, ⟨⟨_, rfl, rfl, rfl⟩, ⟨_, rfl, rfl, rfl⟩, trivial⟩, ⟨⟨_, _, rfl, rfl, rfl, rfl⟩, trivial⟩, by rw [hk]; decide⟩⟩
    ·
     exact ⟨by omega, by simp [hb]⟩
    · omega
  ·
   have c1_ := c1
   try simp only [sB] at c1
   refine w_exit ?_
   refine q_then_exit ?_
   refine q_then_exit ?_
   refine q_block_exit ?_
   refine q_then ?_
   refine w_seq ?_
   refine w_R ?_
   refine qo hnt rfl (s_callF rfl rfl rfl (w_burgagelaw2_known) rfl ?_)
   refine qa hnt rfl rfl ?_
   refine r_end ?_
   refine q_then ?_
   refine w_ret ?_
   exact fin_plain (ret_tmp rfl ret_nil) rfl rfl ⟨rfl, rfl, rfl⟩

end Go.Proofs.Yteedhlgdbankiaa
