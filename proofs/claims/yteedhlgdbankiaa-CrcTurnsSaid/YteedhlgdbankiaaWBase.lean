/- Walks: printed by a program of this session (wip/tools/walk2.py) out of its notes. -/
import Derived.Test.YteedhlgdbankiaaTab
import Derived.Test.YteedhlgdbankiaaSpecA
set_option linter.unusedVariables false
set_option linter.unusedSimpArgs false
set_option maxRecDepth 10000
set_option maxHeartbeats 1000000
namespace Go.Proofs.Yteedhlgdbankiaa
open Go Go.Proofs.Yteedhlgdbankiaa.Pv

theorem w_slices_Clip_mbap_Msg_mbap_Msg (s : List TMsg) (cl_s : Bool)  :
    T Try.prog 41 [pS 3 cl_s eMsg s] 0 [] (Ret (pS 3 true eMsg s) 0 []) := by
 refine t_fun tabOk (n := 9) (rs := [.tmp 2]) Try.func41 rfl rfl rfl rfl (Nat.le_of_ble_eq_true rfl) ?_
 intro c hnt hk
 refine w_seq ?_
 refine w_R ?_
 refine qa hnt rfl rfl ?_
 refine r_end ?_
 refine q_then ?_
 refine w_seq ?_
 refine w_R ?_
 refine qm hnt rfl rfl ?_
 refine qm hnt rfl rfl ?_
 refine qo hnt rfl (s_lenM (l := s) tab_39 rfl (hM_sl (f := eMsg) rfl) ?_)
 refine qm hnt rfl rfl ?_
 refine qo hnt rfl (s_lenM (l := s) tab_39 rfl (hM_sl (f := eMsg) rfl) ?_)
 refine qo hnt rfl (s_clipM (f := eMsg) (l := s) tab_39 rfl tab_33 ⟨rfl, by decide⟩ rfl (bound_some rfl (by omega)) (bound_some rfl (by omega)) ?_)
 refine qa hnt rfl rfl ?_
 refine r_end ?_
 refine q_then ?_
 refine w_ret ?_
 exact fin_plain (ret_tmp rfl ret_nil) rfl rfl ⟨rfl, rfl, rfl⟩

theorem w_slices_Clip_byte_byte (s : List UInt8) (cl_s : Bool)  :
    T Try.prog 44 [pS 1 cl_s enc8 s] 0 [] (Ret (pS 1 true enc8 s) 0 []) := by
 refine t_fun tabOk (n := 9) (rs := [.tmp 2]) Try.func44 rfl rfl rfl rfl (Nat.le_of_ble_eq_true rfl) ?_
 intro c hnt hk
 refine w_seq ?_
 refine w_R ?_
 refine qa hnt rfl rfl ?_
 refine r_end ?_
 refine q_then ?_
 refine w_seq ?_
 refine w_R ?_
 refine qm hnt rfl rfl ?_
 refine qm hnt rfl rfl ?_
 refine qo hnt rfl (s_lenM (l := s) tab_23 rfl (hM_sl (f := enc8) rfl) ?_)
 refine qm hnt rfl rfl ?_
 refine qo hnt rfl (s_lenM (l := s) tab_23 rfl (hM_sl (f := enc8) rfl) ?_)
 refine qo hnt rfl (s_clipM (f := enc8) (l := s) tab_23 rfl tab_5 ⟨rfl, by decide⟩ rfl (bound_some rfl (by omega)) (bound_some rfl (by omega)) ?_)
 refine qa hnt rfl rfl ?_
 refine r_end ?_
 refine q_then ?_
 refine w_ret ?_
 exact fin_plain (ret_tmp rfl ret_nil) rfl rfl ⟨rfl, rfl, rfl⟩

theorem w_slices_Clip_span_Span_span_Span (s : List TSpan) (cl_s : Bool)  :
    T Try.prog 59 [pS 2 cl_s eSpan s] 0 [] (Ret (pS 2 true eSpan s) 0 []) := by
 refine t_fun tabOk (n := 9) (rs := [.tmp 2]) Try.func59 rfl rfl rfl rfl (Nat.le_of_ble_eq_true rfl) ?_
 intro c hnt hk
 refine w_seq ?_
 refine w_R ?_
 refine qa hnt rfl rfl ?_
 refine r_end ?_
 refine q_then ?_
 refine w_seq ?_
 refine w_R ?_
 refine qm hnt rfl rfl ?_
 refine qm hnt rfl rfl ?_
 refine qo hnt rfl (s_lenM (l := s) tab_56 rfl (hM_sl (f := eSpan) rfl) ?_)
 refine qm hnt rfl rfl ?_
 refine qo hnt rfl (s_lenM (l := s) tab_56 rfl (hM_sl (f := eSpan) rfl) ?_)
 refine qo hnt rfl (s_clipM (f := eSpan) (l := s) tab_56 rfl tab_53 ⟨rfl, by decide⟩ rfl (bound_some rfl (by omega)) (bound_some rfl (by omega)) ?_)
 refine qa hnt rfl rfl ?_
 refine r_end ?_
 refine q_then ?_
 refine w_ret ?_
 exact fin_plain (ret_tmp rfl ret_nil) rfl rfl ⟨rfl, rfl, rfl⟩

theorem w_slices_Clip_mbap_Msg_mbap_Msg_o (s : List TMsg) (wr : Bool)  :
    T Try.prog 41 [PV.ref 0 0 none] 1 [(0, oB wr 3 eMsg s)] (Ret (PV.ref 1 0 none) 2 [(1, oB wr 3 eMsg s)]) := by
 refine t_fun tabOk (n := 9) (rs := [.tmp 2]) Try.func41 rfl rfl rfl rfl (Nat.le_of_ble_eq_true rfl) ?_
 intro c hnt hk
 refine w_seq ?_
 refine w_R ?_
 refine qa hnt rfl rfl ?_
 refine r_end ?_
 refine q_then ?_
 refine w_seq ?_
 refine w_R ?_
 refine qm hnt rfl rfl ?_
 refine qm hnt rfl rfl ?_
 refine qo hnt rfl (s_lenM (l := s) tab_39 rfl (hM_ref0 (f := eMsg) rfl rfl) ?_)
 refine qm hnt rfl rfl ?_
 refine qo hnt rfl (s_lenM (l := s) tab_39 rfl (hM_ref0 (f := eMsg) rfl rfl) ?_)
 refine r_clipM (f := eMsg) (l := s) tabOk hnt rfl tab_39 rfl tab_33 ⟨rfl, by decide⟩ rfl rfl (bound_some rfl (by omega)) (bound_some rfl (by omega)) ?_
 refine qa hnt rfl rfl ?_
 refine r_set [(2, PV.ref 1 0 none)] [(1, oB wr 3 eMsg s)] 2 ⟨rfl, trivial⟩ rfl rfl ?_
 refine r_end ?_
 refine q_then ?_
 refine w_ret ?_
 exact fin_names (nx1 := 2) (H1 := [(1, oB wr 3 eMsg s)]) [(1, 1)] (ret_tmp rfl ret_nil) rfl (by decide) ⟨⟨_, _, rfl, rfl, rfl, rfl⟩, trivial⟩ (by decide) rfl ⟨rfl, rfl, rfl⟩

theorem w_slices_Clip_byte_byte_o (s : List UInt8) (wr : Bool)  :
    T Try.prog 44 [PV.ref 0 0 none] 1 [(0, oB wr 1 enc8 s)] (Ret (PV.ref 1 0 none) 2 [(1, oB wr 1 enc8 s)]) := by
 refine t_fun tabOk (n := 9) (rs := [.tmp 2]) Try.func44 rfl rfl rfl rfl (Nat.le_of_ble_eq_true rfl) ?_
 intro c hnt hk
 refine w_seq ?_
 refine w_R ?_
 refine qa hnt rfl rfl ?_
 refine r_end ?_
 refine q_then ?_
 refine w_seq ?_
 refine w_R ?_
 refine qm hnt rfl rfl ?_
 refine qm hnt rfl rfl ?_
 refine qo hnt rfl (s_lenM (l := s) tab_23 rfl (hM_ref0 (f := enc8) rfl rfl) ?_)
 refine qm hnt rfl rfl ?_
 refine qo hnt rfl (s_lenM (l := s) tab_23 rfl (hM_ref0 (f := enc8) rfl rfl) ?_)
 refine r_clipM (f := enc8) (l := s) tabOk hnt rfl tab_23 rfl tab_5 ⟨rfl, by decide⟩ rfl rfl (bound_some rfl (by omega)) (bound_some rfl (by omega)) ?_
 refine qa hnt rfl rfl ?_
 refine r_set [(2, PV.ref 1 0 none)] [(1, oB wr 1 enc8 s)] 2 ⟨rfl, trivial⟩ rfl rfl ?_
 refine r_end ?_
 refine q_then ?_
 refine w_ret ?_
 exact fin_names (nx1 := 2) (H1 := [(1, oB wr 1 enc8 s)]) [(1, 1)] (ret_tmp rfl ret_nil) rfl (by decide) ⟨⟨_, _, rfl, rfl, rfl, rfl⟩, trivial⟩ (by decide) rfl ⟨rfl, rfl, rfl⟩

theorem w_slices_Clip_span_Span_span_Span_o (s : List TSpan) (wr : Bool)  :
    T Try.prog 59 [PV.ref 0 0 none] 1 [(0, oB wr 2 eSpan s)] (Ret (PV.ref 1 0 none) 2 [(1, oB wr 2 eSpan s)]) := by
 refine t_fun tabOk (n := 9) (rs := [.tmp 2]) Try.func59 rfl rfl rfl rfl (Nat.le_of_ble_eq_true rfl) ?_
 intro c hnt hk
 refine w_seq ?_
 refine w_R ?_
 refine qa hnt rfl rfl ?_
 refine r_end ?_
 refine q_then ?_
 refine w_seq ?_
 refine w_R ?_
 refine qm hnt rfl rfl ?_
 refine qm hnt rfl rfl ?_
 refine qo hnt rfl (s_lenM (l := s) tab_56 rfl (hM_ref0 (f := eSpan) rfl rfl) ?_)
 refine qm hnt rfl rfl ?_
 refine qo hnt rfl (s_lenM (l := s) tab_56 rfl (hM_ref0 (f := eSpan) rfl rfl) ?_)
 refine r_clipM (f := eSpan) (l := s) tabOk hnt rfl tab_56 rfl tab_53 ⟨rfl, by decide⟩ rfl rfl (bound_some rfl (by omega)) (bound_some rfl (by omega)) ?_
 refine qa hnt rfl rfl ?_
 refine r_set [(2, PV.ref 1 0 none)] [(1, oB wr 2 eSpan s)] 2 ⟨rfl, trivial⟩ rfl rfl ?_
 refine r_end ?_
 refine q_then ?_
 refine w_ret ?_
 exact fin_names (nx1 := 2) (H1 := [(1, oB wr 2 eSpan s)]) [(1, 1)] (ret_tmp rfl ret_nil) rfl (by decide) ⟨⟨_, _, rfl, rfl, rfl, rfl⟩, trivial⟩ (by decide) rfl ⟨rfl, rfl, rfl⟩

theorem w_slices_Clone_mbap_Msg_mbap_Msg (s : List TMsg) (cl_s : Bool) (hs : s.length * 40 ≤ 140737488355328) :
    T Try.prog 39 [pS 3 cl_s eMsg s] 0 [] (Ret (PV.ref 0 0 none) 1 [(0, oB true 3 eMsg s)]) := by
 refine t_fun tabOk (n := 8) (rs := [.tmp 2]) Try.func39 rfl rfl rfl rfl (Nat.le_of_ble_eq_true rfl) ?_
 intro c hnt hk
 refine w_seq ?_
 refine w_R ?_
 refine qa hnt rfl rfl ?_
 refine r_end ?_
 refine q_then ?_
 refine w_seq ?_
 refine w_seq ?_
 refine w_R ?_
 refine qm hnt rfl rfl ?_
 refine qo hnt rfl (s_isnil tab_39 rfl rfl (by first | trivial | exact ⟨_, _, _, rfl⟩) (fun bn1 hbn1 => ?_))
 refine r_end ?_
 refine q_then ?_
 refine w_if rfl (fun c1 => ?_) (fun c1 => ?_)
 ·
  have c1_ := c1
  try simp only [sB] at c1
  have e : s = [] := Classical.byContradiction fun h => by rw [hbn1 (by simp [h])] at c1_; cases c1_
  refine w_seq ?_
  refine w_R ?_
  refine qa hnt rfl rfl ?_
  refine r_end ?_
  refine q_then ?_
  refine w_adopt (s := 2) (sz := 3) rfl ?_
  refine w_H (H' := [(0, oB true 3 eMsg s)]) (congrArg (fun z => ([(0, oB true 3 eMsg z)] : Heap)) (show ([] : List TMsg) = s by rw [e])) ?_
  refine w_ret ?_
  refine q_then_ret ?_
  exact fin_names (nx1 := 1) (H1 := [(0, oB true 3 eMsg s)]) [(0, 0)] (ret_tmp rfl ret_nil) rfl (by decide) ⟨⟨_, _, rfl, rfl, rfl, rfl⟩, trivial⟩ (by decide) rfl ⟨rfl, rfl, rfl⟩
 ·
  have c1_ := c1
  try simp only [sB] at c1
  refine w_skip ?_
  refine q_then ?_
  refine w_seq ?_
  refine w_R ?_
  refine qo hnt rfl (s_mkM (f := eMsg) ([] : List TMsg) tab_39 rfl tab_33 ⟨rfl, by decide⟩ (by decide) rfl rfl rfl rfl ?_)
  refine qm hnt rfl rfl ?_
  refine qo hnt rfl (s_appR0 (f := eMsg) (l := ([] : List TMsg)) (xs := s) tab_39 rfl tab_33 ⟨rfl, by decide, by decide⟩ (srcM tab_39 rfl (hM_sl (f := eMsg) rfl)) rfl rfl (by first | omega | (simp; omega)) ?_)
  refine qa hnt rfl rfl ?_
  refine r_set [(2, PV.ref 1 0 none)] [(1, oB true 3 eMsg s)] 2 ⟨rfl, trivial⟩ rfl rfl ?_
  refine r_end ?_
  refine q_then ?_
  refine w_ret ?_
  exact fin_names (nx1 := 1) (H1 := [(0, oB true 3 eMsg s)]) [(0, 1)] (ret_tmp rfl ret_nil) rfl (by decide) ⟨⟨_, _, rfl, rfl, rfl, rfl⟩, trivial⟩ (by decide) rfl ⟨rfl, rfl, rfl⟩

theorem w_slices_Clone_byte_byte (s : List UInt8) (cl_s : Bool) (hs : s.length ≤ 140737488355328) :
    T Try.prog 46 [pS 1 cl_s enc8 s] 0 [] (Ret (PV.ref 0 0 none) 1 [(0, oB true 1 enc8 s)]) := by
 refine t_fun tabOk (n := 8) (rs := [.tmp 2]) Try.func46 rfl rfl rfl rfl (Nat.le_of_ble_eq_true rfl) ?_
 intro c hnt hk
 refine w_seq ?_
 refine w_R ?_
 refine qa hnt rfl rfl ?_
 refine r_end ?_
 refine q_then ?_
 refine w_seq ?_
 refine w_seq ?_
 refine w_R ?_
 refine qm hnt rfl rfl ?_
 refine qo hnt rfl (s_isnil tab_23 rfl rfl (by first | trivial | exact ⟨_, _, _, rfl⟩) (fun bn1 hbn1 => ?_))
 refine r_end ?_
 refine q_then ?_
 refine w_if rfl (fun c1 => ?_) (fun c1 => ?_)
 ·
  have c1_ := c1
  try simp only [sB] at c1
  have e : s = [] := Classical.byContradiction fun h => by rw [hbn1 (by simp [h])] at c1_; cases c1_
  refine w_seq ?_
  refine w_R ?_
  refine qa hnt rfl rfl ?_
  refine r_end ?_
  refine q_then ?_
  refine w_adopt (s := 2) (sz := 1) rfl ?_
  refine w_H (H' := [(0, oB true 1 enc8 s)]) (congrArg (fun z => ([(0, oB true 1 enc8 z)] : Heap)) (show ([] : List UInt8) = s by rw [e])) ?_
  refine w_ret ?_
  refine q_then_ret ?_
  exact fin_names (nx1 := 1) (H1 := [(0, oB true 1 enc8 s)]) [(0, 0)] (ret_tmp rfl ret_nil) rfl (by decide) ⟨⟨_, _, rfl, rfl, rfl, rfl⟩, trivial⟩ (by decide) rfl ⟨rfl, rfl, rfl⟩
 ·
  have c1_ := c1
  try simp only [sB] at c1
  refine w_skip ?_
  refine q_then ?_
  refine w_seq ?_
  refine w_R ?_
  refine qo hnt rfl (s_mkM (f := enc8) ([] : List UInt8) tab_23 rfl tab_5 ⟨rfl, by decide⟩ (by decide) rfl rfl rfl rfl ?_)
  refine qm hnt rfl rfl ?_
  refine qo hnt rfl (s_appR0 (f := enc8) (l := ([] : List UInt8)) (xs := s) tab_23 rfl tab_5 ⟨rfl, by decide, by decide⟩ (srcM tab_23 rfl (hM_sl (f := enc8) rfl)) rfl rfl (by first | omega | (simp; omega)) ?_)
  refine qa hnt rfl rfl ?_
  refine r_set [(2, PV.ref 1 0 none)] [(1, oB true 1 enc8 s)] 2 ⟨rfl, trivial⟩ rfl rfl ?_
  refine r_end ?_
  refine q_then ?_
  refine w_ret ?_
  exact fin_names (nx1 := 1) (H1 := [(0, oB true 1 enc8 s)]) [(0, 1)] (ret_tmp rfl ret_nil) rfl (by decide) ⟨⟨_, _, rfl, rfl, rfl, rfl⟩, trivial⟩ (by decide) rfl ⟨rfl, rfl, rfl⟩

theorem w_slices_Equal_byte_byte (s : List UInt8) (cl_s : Bool) (m : List UInt8) (cl_m : Bool) (hs : s.length ≤ 140737488355328) :
    T Try.prog 45 [pS 1 cl_s enc8 s, pS 1 cl_m enc8 m] 0 [] (Ret (pB (decide (s = m))) 0 []) := by
 refine t_fun tabOk (n := 26) (rs := [.tmp 4]) Try.func45 rfl rfl rfl rfl (Nat.le_of_ble_eq_true rfl) ?_
 intro c hnt hk
 refine w_seq ?_
 refine w_R ?_
 refine qa hnt rfl rfl ?_
 refine r_end ?_
 refine q_then ?_
 refine w_seq ?_
 refine w_seq ?_
 refine w_R ?_
 refine qm hnt rfl rfl ?_
 refine qo hnt rfl (s_lenM (l := s) tab_23 rfl (hM_sl (f := enc8) rfl) ?_)
 refine qm hnt rfl rfl ?_
 refine qo hnt rfl (s_lenM (l := m) tab_23 rfl (hM_sl (f := enc8) rfl) ?_)
 refine qo hnt rfl (s_neq rfl rfl ?_)
 refine r_end ?_
 refine q_then ?_
 refine w_if rfl (fun c1 => ?_) (fun c1 => ?_)
 ·
  have c1_ := c1
  try simp only [sB] at c1
  have hne : s ≠ m := fun e => by subst e; simp at c1
  refine w_seq ?_
  refine w_R ?_
  refine qa hnt rfl rfl ?_
  refine r_end ?_
  refine q_then ?_
  refine w_le (s := 4) (y := pB (decide (s = m))) rfl (le_of_eq (congrArg (fun z : Bool => pB z) (show false = (decide (s = m)) by simp [hne]))) ?_
  refine w_ret ?_
  refine q_then_ret ?_
  exact fin_plain (ret_tmp rfl ret_nil) rfl rfl ⟨rfl, rfl, rfl⟩
 ·
  have c1_ := c1
  try simp only [sB] at c1
  have hlm : s.length = m.length := by omega
  refine w_skip ?_
  refine q_then ?_
  refine w_seq ?_
  refine w_seq ?_
  refine w_R ?_
  refine qm hnt rfl rfl ?_
  refine qo hnt rfl (s_lenM (l := s) tab_23 rfl (hM_sl (f := enc8) rfl) ?_)
  refine qm hnt rfl rfl ?_
  refine r_end ?_
  refine q_then ?_
  refine w_block ?_
  refine loop1 (fun (i : Nat) => i ≤ s.length ∧ s.take i = m.take i) (fun (i : Nat) => [(0, pS 1 cl_s enc8 s), (1, pS 1 cl_m enc8 m), (12, pN s.length), (13, pN i)]) 0 (fun (i : Nat) => []) (fun (i : Nat) => s.length - i) (0) ?_ ⟨[], rfl, ⟨⟨_, rfl, rfl, rfl⟩, ⟨_, rfl, rfl, rfl⟩, ⟨_, rfl, rfl, rfl⟩, ⟨_, rfl, rfl, rfl⟩, trivial⟩, trivial, by rw [hk]; decide⟩ ?_
  · exact ⟨Nat.zero_le _, by simp⟩
  ·
   intro i hI
   obtain ⟨hi, ht⟩ := hI
   refine w_seq ?_
   refine w_R ?_
   refine qo hnt rfl (s_lss rfl rfl ?_)
   refine r_end ?_
   refine q_then ?_
   refine w_seq ?_
   refine w_if rfl (fun c2 => ?_) (fun c2 => ?_)
   ·
    have c2_ := c2
    try simp only [sB] at c2
    refine w_skip ?_
    refine q_then ?_
    refine w_seq ?_
    refine w_block ?_
    refine w_seq ?_
    refine w_R ?_
    refine qm hnt rfl rfl ?_
    refine qa hnt rfl rfl ?_
    refine r_end ?_
    refine q_then ?_
    refine w_seq ?_
    refine W_drawn tabOk mixed hnt [[], [], [0, 1], [0, 1, 2], [], [], [4, 5], [4, 5, 6], [0, 1, 2, 3, 4, 5, 6, 7]] (by kernel_rfl) ?_
    refine d_op ?_
    refine x_run0 [(0, pS 1 cl_s enc8 s)] [] rfl rfl rfl rfl (s_move rfl ⟨rfl, rfl, rfl⟩) ?_
    refine d_op ?_
    refine x_run0 [(5, pN i)] [] rfl rfl rfl rfl (s_move rfl ⟨rfl, rfl, rfl⟩) ?_
    refine d_op ?_
    obtain ⟨e1, he1⟩ := get_of_lt s (i := i) (by omega)
    refine x_run0 [(16, pS 1 cl_s enc8 s), (17, pN i)] [0, 1] rfl rfl rfl rfl (s_iaM (q := i) (b := e1) (f := enc8) tab_23 rfl tab_5 rfl rfl (by omega) rfl he1 ⟨rfl, rfl, rfl⟩) ?_
    refine d_op ?_
    refine x_run0 [(18, PV.f (.ro (enc8 e1)))] [0, 1, 2] rfl rfl rfl rfl (s_load_ro1 tab_5 rfl rfl rfl rfl ⟨rfl, rfl, rfl⟩) ?_
    refine d_op ?_
    refine x_run0 [(1, pS 1 cl_m enc8 m)] [] rfl rfl rfl rfl (s_move rfl ⟨rfl, rfl, rfl⟩) ?_
    refine d_op ?_
    refine x_run0 [(5, pN i)] [] rfl rfl rfl rfl (s_move rfl ⟨rfl, rfl, rfl⟩) ?_
    refine d_op ?_
    obtain ⟨e2, he2⟩ := get_of_lt m (i := i) (by omega)
    refine x_run0 [(20, pS 1 cl_m enc8 m), (21, pN i)] [4, 5] rfl rfl rfl rfl (s_iaM (q := i) (b := e2) (f := enc8) tab_23 rfl tab_5 rfl rfl (by omega) rfl he2 ⟨rfl, rfl, rfl⟩) ?_
    refine d_op ?_
    refine x_run0 [(22, PV.f (.ro (enc8 e2)))] [4, 5, 6] rfl rfl rfl rfl (s_load_ro1 tab_5 rfl rfl rfl rfl ⟨rfl, rfl, rfl⟩) ?_
    refine d_op ?_
    refine x_run0 [(19, p8 e1), (23, p8 e2)] [0, 1, 2, 3, 4, 5, 6, 7] rfl rfl rfl rfl (s_neq8 (a := e1) (b := e2) rfl rfl ⟨rfl, rfl, rfl⟩) ?_
    refine d_end ⟨by kernel_rfl, ?_⟩
    refine q_then ?_
    refine w_if rfl (fun c3 => ?_) (fun c3 => ?_)
    ·
     have c3_ := c3
     try simp only [sB] at c3
     have hne : s ≠ m := fun e => by subst e; rw [he1] at he2; cases he2; simp at c3
     refine w_seq ?_
     refine w_R ?_
     refine qa hnt rfl rfl ?_
     refine r_end ?_
     refine q_then ?_
     refine w_le (s := 4) (y := pB (decide (s = m))) rfl (le_of_eq (congrArg (fun z : Bool => pB z) (show false = (decide (s = m)) by simp [hne]))) ?_
     refine w_ret ?_
     refine q_block_ret ?_
     refine q_then_ret ?_
     refine q_then_ret ?_
     refine q_block_ret ?_
     refine q_then_ret ?_
     exact fin_plain (ret_tmp rfl ret_nil) rfl rfl ⟨rfl, rfl, rfl⟩
    ·
     have c3_ := c3
     try simp only [sB] at c3
     have c3 : e1 = e2 := by simpa using c3
     refine w_skip ?_
     refine q_block ?_
     refine q_then ?_
     refine w_R ?_
     refine qo hnt rfl (s_addN (a := i) (b := 1) rfl rfl (by omega) (by omega) (by omega) ?_)
     refine qm hnt rfl rfl ?_
     refine r_end ?_
     refine q_then ?_
     refine ⟨(i + 1), ?_, ?_, ⟨[], rfl, ⟨⟨_, rfl, rfl, rfl⟩, ⟨_, rfl, rfl, rfl⟩, ⟨_, rfl, rfl, rfl⟩, ⟨_, rfl, rfl, rfl⟩, trivial⟩, trivial, by rw [hk]; decide⟩⟩
     ·
      refine ⟨by omega, ?_⟩
      rw [List.take_add_one, List.take_add_one, he1, he2, ht, c3]
     · omega
   ·
    have c2_ := c2
    try simp only [sB] at c2
    have h1 : s.take i = s := List.take_of_length_le (by omega)
    have h2 : m.take i = m := List.take_of_length_le (by omega)
    have he : s = m := by rw [← h1, ← h2, ht]
    refine w_exit ?_
    refine q_then_exit ?_
    refine q_then_exit ?_
    refine q_block_exit ?_
    refine q_then ?_
    refine w_seq ?_
    refine w_R ?_
    refine qa hnt rfl rfl ?_
    refine r_end ?_
    refine q_then ?_
    refine w_le (s := 4) (y := pB (decide (s = m))) rfl (le_of_eq (congrArg (fun z : Bool => pB z) (show true = (decide (s = m)) by simp [he]))) ?_
    refine w_ret ?_
    exact fin_plain (ret_tmp rfl ret_nil) rfl rfl ⟨rfl, rfl, rfl⟩

theorem w_burgagebook_Within (n : Int) (lo : Int) (hi : Int) (h : -4611686018427387904 ≤ lo ∧ lo ≤ hi ∧ hi ≤ 4611686018427387902) :
    T Try.prog 17 [pI n, pI lo, pI hi] 0 [] (Ret (pI (within n lo hi)) 0 []) := by
 refine t_fun tabOk (n := 33) (rs := [.tmp 6]) Try.func17 rfl rfl rfl rfl (Nat.le_of_ble_eq_true rfl) ?_
 intro c hnt hk
 refine w_seq ?_
 refine w_R ?_
 refine qa hnt rfl rfl ?_
 refine r_end ?_
 refine q_then ?_
 refine w_seq ?_
 refine w_seq ?_
 refine w_R ?_
 refine qm hnt rfl rfl ?_
 refine qm hnt rfl rfl ?_
 refine qo hnt rfl (s_geq rfl rfl ?_)
 refine qm hnt rfl rfl ?_
 refine r_if tabOk hnt rfl rfl rfl (fun g1 => ?_) (fun g1 => ?_)
 ·
  have g1' := g1
  try simp only [sB] at g1'
  refine qm hnt rfl rfl ?_
  refine ry hnt rfl rfl rfl g1 ?_
  refine qm hnt rfl rfl ?_
  refine ry hnt rfl rfl rfl g1 ?_
  refine qo hnt rfl (s_leq rfl rfl ?_)
  refine qo hnt rfl (s_pick_t rfl g1 rfl ?_)
  refine r_end ?_
  refine q_then ?_
  refine w_if rfl (fun c1 => ?_) (fun c1 => ?_)
  ·
   have c1_ := c1
   try simp only [sB] at c1
   refine w_seq ?_
   refine w_R ?_
   refine qm hnt rfl rfl ?_
   refine qa hnt rfl rfl ?_
   refine r_end ?_
   refine q_then ?_
   refine w_le (s := 6) (y := pI (within n lo hi)) rfl (le_of_eq (congrArg (fun z : Int => pI z) (show n = (within n lo hi) by (unfold within; repeat' split) <;> omega))) ?_
   refine w_ret ?_
   refine q_then_ret ?_
   exact fin_plain (ret_tmp rfl ret_nil) rfl rfl ⟨rfl, rfl, rfl⟩
  ·
   have c1_ := c1
   try simp only [sB] at c1
   refine w_skip ?_
   refine q_then ?_
   refine w_seq ?_
   have hm := tmod_between n (m := hi - lo + 1) (by omega)
   refine w_R ?_
   refine qm hnt rfl rfl ?_
   refine qm hnt rfl rfl ?_
   refine qm hnt rfl rfl ?_
   refine qo hnt rfl (s_subi (r := hi - lo) rfl rfl rfl (by omega) ?_)
   refine qo hnt rfl (s_addi (r := (hi - lo) + 1) rfl rfl rfl (by omega) ?_)
   refine qo hnt rfl (s_rem rfl rfl (by first | decide | omega) ?_)
   refine qa hnt rfl rfl ?_
   refine r_end ?_
   refine q_then ?_
   refine w_seq ?_
   refine w_seq ?_
   refine w_R ?_
   refine qm hnt rfl rfl ?_
   refine qo hnt rfl (s_lss rfl rfl ?_)
   refine r_end ?_
   refine q_then ?_
   refine w_if rfl (fun c2 => ?_) (fun c2 => ?_)
   ·
    have c2_ := c2
    try simp only [sB] at c2
    refine w_R ?_
    refine qm hnt rfl rfl ?_
    refine qm hnt rfl rfl ?_
    refine qo hnt rfl (s_addi (r := (Int.tmod n ((hi - lo) + 1)) + hi) rfl rfl rfl (by omega) ?_)
    refine qm hnt rfl rfl ?_
    refine qo hnt rfl (s_subi (r := ((Int.tmod n ((hi - lo) + 1)) + hi) - lo) rfl rfl rfl (by omega) ?_)
    refine qo hnt rfl (s_addi (r := (((Int.tmod n ((hi - lo) + 1)) + hi) - lo) + 1) rfl rfl rfl (by omega) ?_)
    refine qa hnt rfl rfl ?_
    refine r_end ?_
    refine q_then ?_
    refine w_seq ?_
    refine w_R ?_
    refine qm hnt rfl rfl ?_
    refine qm hnt rfl rfl ?_
    refine qo hnt rfl (s_addi (r := lo + ((((Int.tmod n ((hi - lo) + 1)) + hi) - lo) + 1)) rfl rfl rfl (by omega) ?_)
    refine qa hnt rfl rfl ?_
    refine r_end ?_
    refine q_then ?_
    refine w_le (s := 6) (y := pI (within n lo hi)) rfl (le_of_eq (congrArg (fun z : Int => pI z) (show (lo + ((((Int.tmod n ((hi - lo) + 1)) + hi) - lo) + 1)) = (within n lo hi) by (unfold within; repeat' split) <;> omega))) ?_
    refine w_ret ?_
    exact fin_plain (ret_tmp rfl ret_nil) rfl rfl ⟨rfl, rfl, rfl⟩
   ·
    have c2_ := c2
    try simp only [sB] at c2
    refine w_skip ?_
    refine q_then ?_
    refine w_seq ?_
    refine w_R ?_
    refine qm hnt rfl rfl ?_
    refine qm hnt rfl rfl ?_
    refine qo hnt rfl (s_addi (r := lo + (Int.tmod n ((hi - lo) + 1))) rfl rfl rfl (by omega) ?_)
    refine qa hnt rfl rfl ?_
    refine r_end ?_
    refine q_then ?_
    refine w_le (s := 6) (y := pI (within n lo hi)) rfl (le_of_eq (congrArg (fun z : Int => pI z) (show (lo + (Int.tmod n ((hi - lo) + 1))) = (within n lo hi) by (unfold within; repeat' split) <;> omega))) ?_
    refine w_ret ?_
    exact fin_plain (ret_tmp rfl ret_nil) rfl rfl ⟨rfl, rfl, rfl⟩
 ·
  have g1' := g1
  try simp only [sB] at g1'
  refine rn hnt rfl rfl rfl g1 ?_
  refine rn hnt rfl rfl rfl g1 ?_
  refine qo hnt rfl (s_pick_f rfl g1 rfl ?_)
  refine r_end ?_
  refine q_then ?_
  refine w_if rfl (fun e => absurd e (by decide)) (fun _ => ?_)
  refine w_skip ?_
  refine q_then ?_
  refine w_seq ?_
  have hm := tmod_between n (m := hi - lo + 1) (by omega)
  refine w_R ?_
  refine qm hnt rfl rfl ?_
  refine qm hnt rfl rfl ?_
  refine qm hnt rfl rfl ?_
  refine qo hnt rfl (s_subi (r := hi - lo) rfl rfl rfl (by omega) ?_)
  refine qo hnt rfl (s_addi (r := (hi - lo) + 1) rfl rfl rfl (by omega) ?_)
  refine qo hnt rfl (s_rem rfl rfl (by first | decide | omega) ?_)
  refine qa hnt rfl rfl ?_
  refine r_end ?_
  refine q_then ?_
  refine w_seq ?_
  refine w_seq ?_
  refine w_R ?_
  refine qm hnt rfl rfl ?_
  refine qo hnt rfl (s_lss rfl rfl ?_)
  refine r_end ?_
  refine q_then ?_
  refine w_if rfl (fun c3 => ?_) (fun c3 => ?_)
  ·
   have c3_ := c3
   try simp only [sB] at c3
   refine w_R ?_
   refine qm hnt rfl rfl ?_
   refine qm hnt rfl rfl ?_
   refine qo hnt rfl (s_addi (r := (Int.tmod n ((hi - lo) + 1)) + hi) rfl rfl rfl (by omega) ?_)
   refine qm hnt rfl rfl ?_
   refine qo hnt rfl (s_subi (r := ((Int.tmod n ((hi - lo) + 1)) + hi) - lo) rfl rfl rfl (by omega) ?_)
   refine qo hnt rfl (s_addi (r := (((Int.tmod n ((hi - lo) + 1)) + hi) - lo) + 1) rfl rfl rfl (by omega) ?_)
   refine qa hnt rfl rfl ?_
   refine r_end ?_
   refine q_then ?_
   refine w_seq ?_
   refine w_R ?_
   refine qm hnt rfl rfl ?_
   refine qm hnt rfl rfl ?_
   refine qo hnt rfl (s_addi (r := lo + ((((Int.tmod n ((hi - lo) + 1)) + hi) - lo) + 1)) rfl rfl rfl (by omega) ?_)
   refine qa hnt rfl rfl ?_
   refine r_end ?_
   refine q_then ?_
   refine w_le (s := 6) (y := pI (within n lo hi)) rfl (le_of_eq (congrArg (fun z : Int => pI z) (show (lo + ((((Int.tmod n ((hi - lo) + 1)) + hi) - lo) + 1)) = (within n lo hi) by (unfold within; repeat' split) <;> omega))) ?_
   refine w_ret ?_
   exact fin_plain (ret_tmp rfl ret_nil) rfl rfl ⟨rfl, rfl, rfl⟩
  ·
   have c3_ := c3
   try simp only [sB] at c3
   refine w_skip ?_
   refine q_then ?_
   refine w_seq ?_
   refine w_R ?_
   refine qm hnt rfl rfl ?_
   refine qm hnt rfl rfl ?_
   refine qo hnt rfl (s_addi (r := lo + (Int.tmod n ((hi - lo) + 1))) rfl rfl rfl (by omega) ?_)
   refine qa hnt rfl rfl ?_
   refine r_end ?_
   refine q_then ?_
   refine w_le (s := 6) (y := pI (within n lo hi)) rfl (le_of_eq (congrArg (fun z : Int => pI z) (show (lo + (Int.tmod n ((hi - lo) + 1))) = (within n lo hi) by (unfold within; repeat' split) <;> omega))) ?_
   refine w_ret ?_
   exact fin_plain (ret_tmp rfl ret_nil) rfl rfl ⟨rfl, rfl, rfl⟩

theorem w_burgagebook_Same_span_Span (s : List TSpan) (cl_s : Bool) (m : List TSpan) (cl_m : Bool) (hs : s.length ≤ 140737488355328) :
    T Try.prog 52 [pS 2 cl_s eSpan s, pS 2 cl_m eSpan m] 0 [] (Ret (pB (decide (s = m))) 0 []) := by
 refine t_fun tabOk (n := 26) (rs := [.tmp 4]) Try.func52 rfl rfl rfl rfl (Nat.le_of_ble_eq_true rfl) ?_
 intro c hnt hk
 refine w_seq ?_
 refine w_R ?_
 refine qa hnt rfl rfl ?_
 refine r_end ?_
 refine q_then ?_
 refine w_seq ?_
 refine w_seq ?_
 refine w_R ?_
 refine qm hnt rfl rfl ?_
 refine qo hnt rfl (s_lenM (l := s) tab_56 rfl (hM_sl (f := eSpan) rfl) ?_)
 refine qm hnt rfl rfl ?_
 refine qo hnt rfl (s_lenM (l := m) tab_56 rfl (hM_sl (f := eSpan) rfl) ?_)
 refine qo hnt rfl (s_neq rfl rfl ?_)
 refine r_end ?_
 refine q_then ?_
 refine w_if rfl (fun c1 => ?_) (fun c1 => ?_)
 ·
  have c1_ := c1
  try simp only [sB] at c1
  have hne : s ≠ m := fun e => by subst e; simp at c1
  refine w_seq ?_
  refine w_R ?_
  refine qa hnt rfl rfl ?_
  refine r_end ?_
  refine q_then ?_
  refine w_le (s := 4) (y := pB (decide (s = m))) rfl (le_of_eq (congrArg (fun z : Bool => pB z) (show false = (decide (s = m)) by simp [hne]))) ?_
  refine w_ret ?_
  refine q_then_ret ?_
  exact fin_plain (ret_tmp rfl ret_nil) rfl rfl ⟨rfl, rfl, rfl⟩
 ·
  have c1_ := c1
  try simp only [sB] at c1
  have hlm : s.length = m.length := by omega
  refine w_skip ?_
  refine q_then ?_
  refine w_seq ?_
  refine w_seq ?_
  refine w_R ?_
  refine qa hnt rfl rfl ?_
  refine r_end ?_
  refine q_then ?_
  refine w_block ?_
  refine loop1 (fun (i : Nat) => i ≤ s.length ∧ s.take i = m.take i) (fun (i : Nat) => [(0, pS 2 cl_s eSpan s), (1, pS 2 cl_m eSpan m), (5, pN i)]) 0 (fun (i : Nat) => []) (fun (i : Nat) => s.length - i) (0) ?_ ⟨[], rfl, ⟨⟨_, rfl, rfl, rfl⟩, ⟨_, rfl, rfl, rfl⟩, ⟨_, rfl, rfl, rfl⟩, trivial⟩, trivial, by rw [hk]; decide⟩ ?_
  · exact ⟨Nat.zero_le _, by simp⟩
  ·
   intro i hI
   obtain ⟨hi, ht⟩ := hI
   refine w_seq ?_
   refine w_seq ?_
   refine w_R ?_
   refine qm hnt rfl rfl ?_
   refine qm hnt rfl rfl ?_
   refine qo hnt rfl (s_lenM (l := s) tab_56 rfl (hM_sl (f := eSpan) rfl) ?_)
   refine qo hnt rfl (s_lss rfl rfl ?_)
   refine r_end ?_
   refine q_then ?_
   refine w_if rfl (fun c2 => ?_) (fun c2 => ?_)
   ·
    have c2_ := c2
    try simp only [sB] at c2
    refine w_skip ?_
    refine q_then ?_
    refine w_seq ?_
    refine w_block ?_
    refine w_seq ?_
    refine W_drawn tabOk mixed hnt [[], [], [0, 1], [0, 1, 2], [], [], [4, 5], [4, 5, 6], [0, 1, 2, 3, 4, 5, 6, 7]] (by kernel_rfl) ?_
    refine d_op ?_
    refine x_run0 [(0, pS 2 cl_s eSpan s)] [] rfl rfl rfl rfl (s_move rfl ⟨rfl, rfl, rfl⟩) ?_
    refine d_op ?_
    refine x_run0 [(5, pN i)] [] rfl rfl rfl rfl (s_move rfl ⟨rfl, rfl, rfl⟩) ?_
    refine d_op ?_
    obtain ⟨e1, he1⟩ := get_of_lt s (i := i) (by omega)
    refine x_run0 [(17, pS 2 cl_s eSpan s), (18, pN i)] [0, 1] rfl rfl rfl rfl (s_iaM (q := i) (b := e1) (f := eSpan) tab_56 rfl tab_53 rfl rfl (by omega) rfl he1 ⟨rfl, rfl, rfl⟩) ?_
    refine d_op ?_
    refine x_run0 [(19, PV.f (.ro (eSpan e1)))] [0, 1, 2] rfl rfl rfl rfl (s_load_ro tab_53 rfl rfl rfl ⟨rfl, rfl, rfl⟩) ?_
    refine d_op ?_
    refine x_run0 [(1, pS 2 cl_m eSpan m)] [] rfl rfl rfl rfl (s_move rfl ⟨rfl, rfl, rfl⟩) ?_
    refine d_op ?_
    refine x_run0 [(5, pN i)] [] rfl rfl rfl rfl (s_move rfl ⟨rfl, rfl, rfl⟩) ?_
    refine d_op ?_
    obtain ⟨e2, he2⟩ := get_of_lt m (i := i) (by omega)
    refine x_run0 [(21, pS 2 cl_m eSpan m), (22, pN i)] [4, 5] rfl rfl rfl rfl (s_iaM (q := i) (b := e2) (f := eSpan) tab_56 rfl tab_53 rfl rfl (by omega) rfl he2 ⟨rfl, rfl, rfl⟩) ?_
    refine d_op ?_
    refine x_run0 [(23, PV.f (.ro (eSpan e2)))] [4, 5, 6] rfl rfl rfl rfl (s_load_ro tab_53 rfl rfl rfl ⟨rfl, rfl, rfl⟩) ?_
    refine d_op ?_
    refine x_run0 [(20, PV.f (eSpan e1)), (24, PV.f (eSpan e2))] [0, 1, 2, 3, 4, 5, 6, 7] rfl rfl rfl rfl (s_nestruct (r := decide (e1.at_ = e2.at_) && (decide (e1.count = e2.count) && true)) seq_53 rfl rfl rfl rfl (by rfl) ⟨rfl, rfl, rfl⟩) ?_
    refine d_end ⟨by kernel_rfl, ?_⟩
    refine q_then ?_
    refine w_if rfl (fun c3 => ?_) (fun c3 => ?_)
    ·
     have c3_ := c3
     try simp only [sB] at c3
     have hne : s ≠ m := fun e => by subst e; rw [he1] at he2; cases he2; simp at c3
     refine w_seq ?_
     refine w_R ?_
     refine qa hnt rfl rfl ?_
     refine r_end ?_
     refine q_then ?_
     refine w_le (s := 4) (y := pB (decide (s = m))) rfl (le_of_eq (congrArg (fun z : Bool => pB z) (show false = (decide (s = m)) by simp [hne]))) ?_
     refine w_ret ?_
     refine q_block_ret ?_
     refine q_then_ret ?_
     refine q_then_ret ?_
     refine q_block_ret ?_
     refine q_then_ret ?_
     exact fin_plain (ret_tmp rfl ret_nil) rfl rfl ⟨rfl, rfl, rfl⟩
    ·
     have c3_ := c3
     try simp only [sB] at c3
     have c3e : e1 = e2 := by cases e1; cases e2; simpa [TSpan.mk.injEq] using c3_
     refine w_skip ?_
     refine q_block ?_
     refine q_then ?_
     refine w_R ?_
     refine qm hnt rfl rfl ?_
     refine qo hnt rfl (s_addN (a := i) (b := 1) rfl rfl (by omega) (by omega) (by omega) ?_)
     refine qa hnt rfl rfl ?_
     refine r_end ?_
     refine q_then ?_
     refine ⟨(i + 1), ?_, ?_, ⟨[], rfl, ⟨⟨_, rfl, rfl, rfl⟩, ⟨_, rfl, rfl, rfl⟩, ⟨_, rfl, rfl, rfl⟩, trivial⟩, trivial, by rw [hk]; decide⟩⟩
     ·
      refine ⟨by omega, ?_⟩
      rw [List.take_add_one, List.take_add_one, he1, he2, ht, c3e]
     · omega
   ·
    have c2_ := c2
    try simp only [sB] at c2
    have h1 : s.take i = s := List.take_of_length_le (by omega)
    have h2 : m.take i = m := List.take_of_length_le (by omega)
    have he : s = m := by rw [← h1, ← h2, ht]
    refine w_exit ?_
    refine q_then_exit ?_
    refine q_then_exit ?_
    refine q_block_exit ?_
    refine q_then ?_
    refine w_seq ?_
    refine w_R ?_
    refine qa hnt rfl rfl ?_
    refine r_end ?_
    refine q_then ?_
    refine w_le (s := 4) (y := pB (decide (s = m))) rfl (le_of_eq (congrArg (fun z : Bool => pB z) (show true = (decide (s = m)) by simp [he]))) ?_
    refine w_ret ?_
    exact fin_plain (ret_tmp rfl ret_nil) rfl rfl ⟨rfl, rfl, rfl⟩

end Go.Proofs.Yteedhlgdbankiaa
