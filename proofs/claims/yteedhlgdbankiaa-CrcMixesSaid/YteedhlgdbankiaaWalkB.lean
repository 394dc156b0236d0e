/- Walks: printed by a program of this session (wip/tools/walk.py). -/
import Derived.Test.YteedhlgdbankiaaWalkA
set_option linter.unusedVariables false
set_option linter.unusedSimpArgs false
set_option maxRecDepth 10000
set_option maxHeartbeats 1000000
namespace Go.Proofs.Yteedhlgdbankiaa
open Go Go.Proofs.Yteedhlgdbankiaa.Pv

theorem w45 (cl dl : Bool) (l m : List UInt8) (hl : l.length ≤ 140737488355328):
    T Try.prog 45 [.f (.sl 1 cl (bytesU l)), .f (.sl 1 dl (bytesU m))] 0 [] (Ret (PV.f (.v (.bool (decide (l = m))))) 0 []) := by
  refine t_fun tabOk (n := 26) (rs := [.tmp 4]) Try.func45 rfl rfl rfl rfl (Nat.le_of_ble_eq_true rfl) ?_
  intro c hnt hk
  refine w_seq ?_
  refine w_reg tabOk hnt ?_
  refine o_op rfl (s_assign rfl ?_)
  refine o_end ?_
  refine q_then ?_
  refine w_seq ?_
  refine w_seq ?_
  refine w_reg tabOk hnt ?_
  refine o_op rfl (s_move rfl ?_)
  first | refine o_op rfl (s_lenU tab_23 rfl (by first | exact holdsU_sl rfl | exact holdsU_nil rfl | exact holdsU_ref rfl rfl) ?_) | refine o_op rfl (s_len tab_23 rfl (by first | exact holds_sl rfl | exact holds_nil rfl | exact holds_ref rfl rfl rfl) ?_)
  refine o_op rfl (s_move rfl ?_)
  first | refine o_op rfl (s_lenU tab_23 rfl (by first | exact holdsU_sl rfl | exact holdsU_nil rfl | exact holdsU_ref rfl rfl) ?_) | refine o_op rfl (s_len tab_23 rfl (by first | exact holds_sl rfl | exact holds_nil rfl | exact holds_ref rfl rfl rfl) ?_)
  refine o_op rfl (s_neq rfl rfl ?_)
  refine o_end ?_
  refine q_then ?_
  refine w_if rfl (fun c1 => ?_) (fun c1 => ?_)
  ·
    have c1_ := c1
    try simp only [decide_eq_true_eq, decide_eq_false_iff_not, Bool.not_eq_true', Bool.not_eq_false', Int.not_lt, Int.not_le] at c1
    refine w_seq ?_
    refine w_reg tabOk hnt ?_
    refine o_op rfl (s_assign rfl ?_)
    refine o_end ?_
    refine q_then ?_
    have hne : l ≠ m := fun e => by rw [e] at c1; exact c1 rfl
    refine W_eq (s := 4) rfl (y := PV.f (.v (.bool (decide (l = m))))) (by simp [hne]) ?_
    refine w_ret ?_
    refine q_then_ret ?_
    exact fin_plain (ret_tmp rfl ret_nil) rfl rfl ⟨rfl, rfl, rfl⟩
  ·
    have c1_ := c1
    try simp only [decide_eq_true_eq, decide_eq_false_iff_not, Bool.not_eq_true', Bool.not_eq_false', Int.not_lt, Int.not_le] at c1
    have hlm : l.length = m.length := by omega
    refine w_skip ?_
    refine q_then ?_
    refine w_seq ?_
    refine w_seq ?_
    refine w_reg tabOk hnt ?_
    refine o_op rfl (s_move rfl ?_)
    first | refine o_op rfl (s_lenU tab_23 rfl (by first | exact holdsU_sl rfl | exact holdsU_nil rfl | exact holdsU_ref rfl rfl) ?_) | refine o_op rfl (s_len tab_23 rfl (by first | exact holds_sl rfl | exact holds_nil rfl | exact holds_ref rfl rfl rfl) ?_)
    refine o_op rfl (s_move rfl ?_)
    refine o_end ?_
    refine q_then ?_
    refine w_block ?_
    refine w_loop (α := Nat) (fun i => i ≤ l.length ∧ l.take i = m.take i) (fun i => [(0, .f (.sl 1 cl (bytesU l))), (1, .f (.sl 1 dl (bytesU m))), (11, .f (.sl 1 cl (bytesU l))), (12, PV.f (.v (.int .i64 l.length))), (13, PV.f (.v (.int .i64 i)))]) (fun _ => 0) (fun _ => []) (fun i => l.length - i) 0 ?_ ?_ ?_
    · exact ⟨Nat.zero_le _, by simp⟩
    · exact ⟨[], rfl, ⟨⟨_, rfl, rfl, rfl⟩, ⟨_, rfl, rfl, rfl⟩, ⟨_, rfl, rfl, rfl⟩, ⟨_, rfl, rfl, rfl⟩, ⟨_, rfl, rfl, rfl⟩, trivial⟩, trivial, by rw [hk]; decide⟩
    ·
      intro i hi
      refine w_seq ?_
      refine w_reg tabOk hnt ?_
      refine o_op rfl (s_lss rfl rfl ?_)
      refine o_end ?_
      refine q_then ?_
      refine w_seq ?_
      refine w_if rfl (fun c2 => ?_) (fun c2 => ?_)
      ·
        have c2_ := c2
        try simp only [decide_eq_true_eq, decide_eq_false_iff_not, Bool.not_eq_true', Bool.not_eq_false', Int.not_lt, Int.not_le] at c2
        obtain ⟨b, hb⟩ : ∃ b, l[i]? = some b := ⟨l[i]'(by omega), by simp⟩
        obtain ⟨d, hd⟩ : ∃ d, m[i]? = some d := ⟨m[i]'(by omega), by simp⟩
        refine w_skip ?_
        refine q_then ?_
        refine w_seq ?_
        refine w_block ?_
        refine w_seq ?_
        refine w_reg tabOk hnt ?_
        refine o_op rfl (s_move rfl ?_)
        refine o_op rfl (s_assign rfl ?_)
        refine o_end ?_
        refine q_then ?_
        refine w_seq ?_
        refine W_drawn tabOk mixed hnt [[], [], [0, 1], [0, 1, 2], [], [], [4, 5], [4, 5, 6], [0, 1, 2, 3, 4, 5, 6, 7]] (by kernel_rfl) ?_
        refine d_op ?_
        refine d_run0 rfl rfl (s_move rfl ⟨rfl, rfl, rfl⟩) ?_
        refine d_op ?_
        refine d_run0 rfl rfl (s_move rfl ⟨rfl, rfl, rfl⟩) ?_
        refine d_op ?_
        first | refine d_run0 rfl rfl (s_ia_U tab_23 rfl tab_5 rfl rfl rfl (by omega) (by assumption) ⟨rfl, rfl, rfl⟩) ?_ | refine d_run0 rfl rfl (s_ia_refU0 tab_23 rfl tab_5 rfl rfl rfl rfl (by omega) (by first | assumption | omega | (simp [view]; omega)) ⟨rfl, rfl, rfl⟩) ?_ | refine d_run0 rfl rfl (s_ia_refU tab_23 rfl tab_5 rfl rfl rfl rfl (by omega) (by first | assumption | omega | (simp [view]; omega)) ⟨rfl, rfl, rfl⟩) ?_ | refine d_run0 rfl rfl (s_ia_sl tab_23 rfl tab_5 rfl rfl (by omega) (by first | rfl | assumption | (exact bytesU_get (by assumption))) ⟨rfl, rfl, rfl⟩) ?_ | refine d_run0 rfl rfl (s_ia_ref0 tab_23 rfl tab_5 rfl rfl rfl (by omega) (by first | assumption | (simp [view]; omega)) ⟨rfl, rfl, rfl⟩) ?_ | refine d_run0 rfl rfl (s_ia_ref tab_23 rfl tab_5 rfl rfl rfl (by omega) (by first | assumption | (simp; omega)) ⟨rfl, rfl, rfl⟩) ?_ | refine d_runR rfl rfl rfl (s_ia_U tab_23 rfl tab_5 rfl rfl rfl (by omega) (by assumption) ⟨rfl, rfl, rfl⟩) ?_ | refine d_runR rfl rfl rfl (s_ia_refU0 tab_23 rfl tab_5 rfl rfl rfl rfl (by omega) (by first | assumption | omega | (simp [view]; omega)) ⟨rfl, rfl, rfl⟩) ?_ | refine d_runR rfl rfl rfl (s_ia_refU tab_23 rfl tab_5 rfl rfl rfl rfl (by omega) (by first | assumption | omega | (simp [view]; omega)) ⟨rfl, rfl, rfl⟩) ?_ | refine d_runR rfl rfl rfl (s_ia_sl tab_23 rfl tab_5 rfl rfl (by omega) (by first | rfl | assumption | (exact bytesU_get (by assumption))) ⟨rfl, rfl, rfl⟩) ?_ | refine d_runR rfl rfl rfl (s_ia_ref0 tab_23 rfl tab_5 rfl rfl rfl (by omega) (by first | assumption | (simp [view]; omega)) ⟨rfl, rfl, rfl⟩) ?_ | refine d_runR rfl rfl rfl (s_ia_ref tab_23 rfl tab_5 rfl rfl rfl (by omega) (by first | assumption | (simp; omega)) ⟨rfl, rfl, rfl⟩) ?_ | refine d_runG rfl rfl rfl (s_ia_U tab_23 rfl tab_5 rfl rfl rfl (by omega) (by assumption) ⟨rfl, rfl, rfl⟩) rfl ?_ | refine d_runG rfl rfl rfl (s_ia_refU0 tab_23 rfl tab_5 rfl rfl rfl rfl (by omega) (by first | assumption | omega | (simp [view]; omega)) ⟨rfl, rfl, rfl⟩) rfl ?_ | refine d_runG rfl rfl rfl (s_ia_refU tab_23 rfl tab_5 rfl rfl rfl rfl (by omega) (by first | assumption | omega | (simp [view]; omega)) ⟨rfl, rfl, rfl⟩) rfl ?_ | refine d_runG rfl rfl rfl (s_ia_sl tab_23 rfl tab_5 rfl rfl (by omega) (by first | rfl | assumption | (exact bytesU_get (by assumption))) ⟨rfl, rfl, rfl⟩) rfl ?_ | refine d_runG rfl rfl rfl (s_ia_ref0 tab_23 rfl tab_5 rfl rfl rfl (by omega) (by first | assumption | (simp [view]; omega)) ⟨rfl, rfl, rfl⟩) rfl ?_ | refine d_runG rfl rfl rfl (s_ia_ref tab_23 rfl tab_5 rfl rfl rfl (by omega) (by first | assumption | (simp; omega)) ⟨rfl, rfl, rfl⟩) rfl ?_ | refine d_run (s_ia_U tab_23 rfl tab_5 rfl rfl rfl (by omega) (by assumption) ⟨rfl, rfl, rfl⟩) rfl (by first | exact trivial | exact ⟨rfl, trivial⟩ | exact ⟨rfl, rfl, trivial⟩) ?_ | refine d_run (s_ia_refU0 tab_23 rfl tab_5 rfl rfl rfl rfl (by omega) (by first | assumption | omega | (simp [view]; omega)) ⟨rfl, rfl, rfl⟩) rfl (by first | exact trivial | exact ⟨rfl, trivial⟩ | exact ⟨rfl, rfl, trivial⟩) ?_ | refine d_run (s_ia_refU tab_23 rfl tab_5 rfl rfl rfl rfl (by omega) (by first | assumption | omega | (simp [view]; omega)) ⟨rfl, rfl, rfl⟩) rfl (by first | exact trivial | exact ⟨rfl, trivial⟩ | exact ⟨rfl, rfl, trivial⟩) ?_ | refine d_run (s_ia_sl tab_23 rfl tab_5 rfl rfl (by omega) (by first | rfl | assumption | (exact bytesU_get (by assumption))) ⟨rfl, rfl, rfl⟩) rfl (by first | exact trivial | exact ⟨rfl, trivial⟩ | exact ⟨rfl, rfl, trivial⟩) ?_ | refine d_run (s_ia_ref0 tab_23 rfl tab_5 rfl rfl rfl (by omega) (by first | assumption | (simp [view]; omega)) ⟨rfl, rfl, rfl⟩) rfl (by first | exact trivial | exact ⟨rfl, trivial⟩ | exact ⟨rfl, rfl, trivial⟩) ?_ | refine d_run (s_ia_ref tab_23 rfl tab_5 rfl rfl rfl (by omega) (by first | assumption | (simp; omega)) ⟨rfl, rfl, rfl⟩) rfl (by first | exact trivial | exact ⟨rfl, trivial⟩ | exact ⟨rfl, rfl, trivial⟩) ?_
        refine d_op ?_
        first | refine d_run0 rfl rfl (s_load_epU tab_5 rfl rfl rfl rfl (by assumption) ⟨rfl, rfl, rfl⟩) ?_ | refine d_run0 rfl rfl (s_load_ptr1 tab_5 rfl rfl rfl rfl rfl ⟨rfl, rfl, rfl⟩) ?_ | refine d_run0 rfl rfl (s_load_ro1 tab_5 rfl rfl rfl rfl ⟨rfl, rfl, rfl⟩) ?_ | refine d_run0 rfl rfl (s_load_ep1 tab_5 rfl rfl rfl rfl (by first | rfl | assumption) rfl ⟨rfl, rfl, rfl⟩) ?_ | refine d_runR rfl rfl rfl (s_load_epU tab_5 rfl rfl rfl rfl (by assumption) ⟨rfl, rfl, rfl⟩) ?_ | refine d_runR rfl rfl rfl (s_load_ptr1 tab_5 rfl rfl rfl rfl rfl ⟨rfl, rfl, rfl⟩) ?_ | refine d_runR rfl rfl rfl (s_load_ro1 tab_5 rfl rfl rfl rfl ⟨rfl, rfl, rfl⟩) ?_ | refine d_runR rfl rfl rfl (s_load_ep1 tab_5 rfl rfl rfl rfl (by first | rfl | assumption) rfl ⟨rfl, rfl, rfl⟩) ?_ | refine d_runG rfl rfl rfl (s_load_epU tab_5 rfl rfl rfl rfl (by assumption) ⟨rfl, rfl, rfl⟩) rfl ?_ | refine d_runG rfl rfl rfl (s_load_ptr1 tab_5 rfl rfl rfl rfl rfl ⟨rfl, rfl, rfl⟩) rfl ?_ | refine d_runG rfl rfl rfl (s_load_ro1 tab_5 rfl rfl rfl rfl ⟨rfl, rfl, rfl⟩) rfl ?_ | refine d_runG rfl rfl rfl (s_load_ep1 tab_5 rfl rfl rfl rfl (by first | rfl | assumption) rfl ⟨rfl, rfl, rfl⟩) rfl ?_ | refine d_run (s_load_epU tab_5 rfl rfl rfl rfl (by assumption) ⟨rfl, rfl, rfl⟩) rfl (by first | exact trivial | exact ⟨rfl, trivial⟩ | exact ⟨rfl, rfl, trivial⟩) ?_ | refine d_run (s_load_ptr1 tab_5 rfl rfl rfl rfl rfl ⟨rfl, rfl, rfl⟩) rfl (by first | exact trivial | exact ⟨rfl, trivial⟩ | exact ⟨rfl, rfl, trivial⟩) ?_ | refine d_run (s_load_ro1 tab_5 rfl rfl rfl rfl ⟨rfl, rfl, rfl⟩) rfl (by first | exact trivial | exact ⟨rfl, trivial⟩ | exact ⟨rfl, rfl, trivial⟩) ?_ | refine d_run (s_load_ep1 tab_5 rfl rfl rfl rfl (by first | rfl | assumption) rfl ⟨rfl, rfl, rfl⟩) rfl (by first | exact trivial | exact ⟨rfl, trivial⟩ | exact ⟨rfl, rfl, trivial⟩) ?_
        refine d_op ?_
        refine d_run0 rfl rfl (s_move rfl ⟨rfl, rfl, rfl⟩) ?_
        refine d_op ?_
        refine d_run0 rfl rfl (s_move rfl ⟨rfl, rfl, rfl⟩) ?_
        refine d_op ?_
        first | refine d_run0 rfl rfl (s_ia_U tab_23 rfl tab_5 rfl rfl rfl (by omega) (by assumption) ⟨rfl, rfl, rfl⟩) ?_ | refine d_run0 rfl rfl (s_ia_refU0 tab_23 rfl tab_5 rfl rfl rfl rfl (by omega) (by first | assumption | omega | (simp [view]; omega)) ⟨rfl, rfl, rfl⟩) ?_ | refine d_run0 rfl rfl (s_ia_refU tab_23 rfl tab_5 rfl rfl rfl rfl (by omega) (by first | assumption | omega | (simp [view]; omega)) ⟨rfl, rfl, rfl⟩) ?_ | refine d_run0 rfl rfl (s_ia_sl tab_23 rfl tab_5 rfl rfl (by omega) (by first | rfl | assumption | (exact bytesU_get (by assumption))) ⟨rfl, rfl, rfl⟩) ?_ | refine d_run0 rfl rfl (s_ia_ref0 tab_23 rfl tab_5 rfl rfl rfl (by omega) (by first | assumption | (simp [view]; omega)) ⟨rfl, rfl, rfl⟩) ?_ | refine d_run0 rfl rfl (s_ia_ref tab_23 rfl tab_5 rfl rfl rfl (by omega) (by first | assumption | (simp; omega)) ⟨rfl, rfl, rfl⟩) ?_ | refine d_runR rfl rfl rfl (s_ia_U tab_23 rfl tab_5 rfl rfl rfl (by omega) (by assumption) ⟨rfl, rfl, rfl⟩) ?_ | refine d_runR rfl rfl rfl (s_ia_refU0 tab_23 rfl tab_5 rfl rfl rfl rfl (by omega) (by first | assumption | omega | (simp [view]; omega)) ⟨rfl, rfl, rfl⟩) ?_ | refine d_runR rfl rfl rfl (s_ia_refU tab_23 rfl tab_5 rfl rfl rfl rfl (by omega) (by first | assumption | omega | (simp [view]; omega)) ⟨rfl, rfl, rfl⟩) ?_ | refine d_runR rfl rfl rfl (s_ia_sl tab_23 rfl tab_5 rfl rfl (by omega) (by first | rfl | assumption | (exact bytesU_get (by assumption))) ⟨rfl, rfl, rfl⟩) ?_ | refine d_runR rfl rfl rfl (s_ia_ref0 tab_23 rfl tab_5 rfl rfl rfl (by omega) (by first | assumption | (simp [view]; omega)) ⟨rfl, rfl, rfl⟩) ?_ | refine d_runR rfl rfl rfl (s_ia_ref tab_23 rfl tab_5 rfl rfl rfl (by omega) (by first | assumption | (simp; omega)) ⟨rfl, rfl, rfl⟩) ?_ | refine d_runG rfl rfl rfl (s_ia_U tab_23 rfl tab_5 rfl rfl rfl (by omega) (by assumption) ⟨rfl, rfl, rfl⟩) rfl ?_ | refine d_runG rfl rfl rfl (s_ia_refU0 tab_23 rfl tab_5 rfl rfl rfl rfl (by omega) (by first | assumption | omega | (simp [view]; omega)) ⟨rfl, rfl, rfl⟩) rfl ?_ | refine d_runG rfl rfl rfl (s_ia_refU tab_23 rfl tab_5 rfl rfl rfl rfl (by omega) (by first | assumption | omega | (simp [view]; omega)) ⟨rfl, rfl, rfl⟩) rfl ?_ | refine d_runG rfl rfl rfl (s_ia_sl tab_23 rfl tab_5 rfl rfl (by omega) (by first | rfl | assumption | (exact bytesU_get (by assumption))) ⟨rfl, rfl, rfl⟩) rfl ?_ | refine d_runG rfl rfl rfl (s_ia_ref0 tab_23 rfl tab_5 rfl rfl rfl (by omega) (by first | assumption | (simp [view]; omega)) ⟨rfl, rfl, rfl⟩) rfl ?_ | refine d_runG rfl rfl rfl (s_ia_ref tab_23 rfl tab_5 rfl rfl rfl (by omega) (by first | assumption | (simp; omega)) ⟨rfl, rfl, rfl⟩) rfl ?_ | refine d_run (s_ia_U tab_23 rfl tab_5 rfl rfl rfl (by omega) (by assumption) ⟨rfl, rfl, rfl⟩) rfl (by first | exact trivial | exact ⟨rfl, trivial⟩ | exact ⟨rfl, rfl, trivial⟩) ?_ | refine d_run (s_ia_refU0 tab_23 rfl tab_5 rfl rfl rfl rfl (by omega) (by first | assumption | omega | (simp [view]; omega)) ⟨rfl, rfl, rfl⟩) rfl (by first | exact trivial | exact ⟨rfl, trivial⟩ | exact ⟨rfl, rfl, trivial⟩) ?_ | refine d_run (s_ia_refU tab_23 rfl tab_5 rfl rfl rfl rfl (by omega) (by first | assumption | omega | (simp [view]; omega)) ⟨rfl, rfl, rfl⟩) rfl (by first | exact trivial | exact ⟨rfl, trivial⟩ | exact ⟨rfl, rfl, trivial⟩) ?_ | refine d_run (s_ia_sl tab_23 rfl tab_5 rfl rfl (by omega) (by first | rfl | assumption | (exact bytesU_get (by assumption))) ⟨rfl, rfl, rfl⟩) rfl (by first | exact trivial | exact ⟨rfl, trivial⟩ | exact ⟨rfl, rfl, trivial⟩) ?_ | refine d_run (s_ia_ref0 tab_23 rfl tab_5 rfl rfl rfl (by omega) (by first | assumption | (simp [view]; omega)) ⟨rfl, rfl, rfl⟩) rfl (by first | exact trivial | exact ⟨rfl, trivial⟩ | exact ⟨rfl, rfl, trivial⟩) ?_ | refine d_run (s_ia_ref tab_23 rfl tab_5 rfl rfl rfl (by omega) (by first | assumption | (simp; omega)) ⟨rfl, rfl, rfl⟩) rfl (by first | exact trivial | exact ⟨rfl, trivial⟩ | exact ⟨rfl, rfl, trivial⟩) ?_
        refine d_op ?_
        first | refine d_run0 rfl rfl (s_load_epU tab_5 rfl rfl rfl rfl (by assumption) ⟨rfl, rfl, rfl⟩) ?_ | refine d_run0 rfl rfl (s_load_ptr1 tab_5 rfl rfl rfl rfl rfl ⟨rfl, rfl, rfl⟩) ?_ | refine d_run0 rfl rfl (s_load_ro1 tab_5 rfl rfl rfl rfl ⟨rfl, rfl, rfl⟩) ?_ | refine d_run0 rfl rfl (s_load_ep1 tab_5 rfl rfl rfl rfl (by first | rfl | assumption) rfl ⟨rfl, rfl, rfl⟩) ?_ | refine d_runR rfl rfl rfl (s_load_epU tab_5 rfl rfl rfl rfl (by assumption) ⟨rfl, rfl, rfl⟩) ?_ | refine d_runR rfl rfl rfl (s_load_ptr1 tab_5 rfl rfl rfl rfl rfl ⟨rfl, rfl, rfl⟩) ?_ | refine d_runR rfl rfl rfl (s_load_ro1 tab_5 rfl rfl rfl rfl ⟨rfl, rfl, rfl⟩) ?_ | refine d_runR rfl rfl rfl (s_load_ep1 tab_5 rfl rfl rfl rfl (by first | rfl | assumption) rfl ⟨rfl, rfl, rfl⟩) ?_ | refine d_runG rfl rfl rfl (s_load_epU tab_5 rfl rfl rfl rfl (by assumption) ⟨rfl, rfl, rfl⟩) rfl ?_ | refine d_runG rfl rfl rfl (s_load_ptr1 tab_5 rfl rfl rfl rfl rfl ⟨rfl, rfl, rfl⟩) rfl ?_ | refine d_runG rfl rfl rfl (s_load_ro1 tab_5 rfl rfl rfl rfl ⟨rfl, rfl, rfl⟩) rfl ?_ | refine d_runG rfl rfl rfl (s_load_ep1 tab_5 rfl rfl rfl rfl (by first | rfl | assumption) rfl ⟨rfl, rfl, rfl⟩) rfl ?_ | refine d_run (s_load_epU tab_5 rfl rfl rfl rfl (by assumption) ⟨rfl, rfl, rfl⟩) rfl (by first | exact trivial | exact ⟨rfl, trivial⟩ | exact ⟨rfl, rfl, trivial⟩) ?_ | refine d_run (s_load_ptr1 tab_5 rfl rfl rfl rfl rfl ⟨rfl, rfl, rfl⟩) rfl (by first | exact trivial | exact ⟨rfl, trivial⟩ | exact ⟨rfl, rfl, trivial⟩) ?_ | refine d_run (s_load_ro1 tab_5 rfl rfl rfl rfl ⟨rfl, rfl, rfl⟩) rfl (by first | exact trivial | exact ⟨rfl, trivial⟩ | exact ⟨rfl, rfl, trivial⟩) ?_ | refine d_run (s_load_ep1 tab_5 rfl rfl rfl rfl (by first | rfl | assumption) rfl ⟨rfl, rfl, rfl⟩) rfl (by first | exact trivial | exact ⟨rfl, trivial⟩ | exact ⟨rfl, rfl, trivial⟩) ?_
        refine d_op ?_
        first | refine d_run0 rfl rfl (s_neq8 rfl rfl ⟨rfl, rfl, rfl⟩) ?_ | refine d_run0 rfl rfl (s_neq rfl rfl ⟨rfl, rfl, rfl⟩) ?_ | refine d_runR rfl rfl rfl (s_neq8 rfl rfl ⟨rfl, rfl, rfl⟩) ?_ | refine d_runR rfl rfl rfl (s_neq rfl rfl ⟨rfl, rfl, rfl⟩) ?_ | refine d_runG rfl rfl rfl (s_neq8 rfl rfl ⟨rfl, rfl, rfl⟩) rfl ?_ | refine d_runG rfl rfl rfl (s_neq rfl rfl ⟨rfl, rfl, rfl⟩) rfl ?_ | refine d_run (s_neq8 rfl rfl ⟨rfl, rfl, rfl⟩) rfl (by first | exact trivial | exact ⟨rfl, trivial⟩ | exact ⟨rfl, rfl, trivial⟩) ?_ | refine d_run (s_neq rfl rfl ⟨rfl, rfl, rfl⟩) rfl (by first | exact trivial | exact ⟨rfl, trivial⟩ | exact ⟨rfl, rfl, trivial⟩) ?_
        refine d_end ⟨by kernel_rfl, ?_⟩
        refine q_then ?_
        refine w_if rfl (fun c3 => ?_) (fun c3 => ?_)
        ·
          have c3_ := c3
          try simp only [decide_eq_true_eq, decide_eq_false_iff_not, Bool.not_eq_true', Bool.not_eq_false', Int.not_lt, Int.not_le] at c3
          refine w_seq ?_
          refine w_reg tabOk hnt ?_
          refine o_op rfl (s_assign rfl ?_)
          refine o_end ?_
          refine q_then ?_
          have hne : l ≠ m := fun e => by rw [e] at hb; rw [hb] at hd; simp at hd; exact c3 hd
          refine W_eq (s := 4) rfl (y := PV.f (.v (.bool (decide (l = m))))) (by simp [hne]) ?_
          refine w_ret ?_
          refine q_block_ret ?_
          refine q_then_ret ?_
          refine q_then_ret ?_
          refine q_block_ret ?_
          refine q_then_ret ?_
          exact fin_plain (ret_tmp rfl ret_nil) rfl rfl ⟨rfl, rfl, rfl⟩
        ·
          have c3_ := c3
          try simp only [decide_eq_true_eq, decide_eq_false_iff_not, Bool.not_eq_true', Bool.not_eq_false', Int.not_lt, Int.not_le] at c3
          have c3 : b = d := by simpa using c3
          refine w_skip ?_
          refine q_block ?_
          refine q_then ?_
          refine w_reg tabOk hnt ?_
          first | refine o_op rfl (s_addi rfl rfl rfl (by omega) ?_) | refine o_op rfl (s_add rfl rfl ?_)
          refine o_op rfl (s_move rfl ?_)
          refine o_end ?_
          refine q_then ?_
          refine ⟨i + 1, ⟨by omega, ?_⟩, by omega, ?_⟩
          · rw [List.take_add_one, List.take_add_one, hb, hd, hi.2, c3]
          exact ⟨[], rfl, ⟨⟨_, rfl, rfl, rfl⟩, ⟨_, rfl, rfl, rfl⟩, ⟨_, rfl, rfl, rfl⟩, ⟨_, rfl, rfl, rfl⟩, ⟨_, rfl, rfl, rfl⟩, trivial⟩, trivial, by rw [hk]; decide⟩
      ·
        have c2_ := c2
        try simp only [decide_eq_true_eq, decide_eq_false_iff_not, Bool.not_eq_true', Bool.not_eq_false', Int.not_lt, Int.not_le] at c2
        refine w_exit ?_
        refine q_then_exit ?_
        refine q_then_exit ?_
        refine q_block_exit ?_
        refine q_then ?_
        refine w_seq ?_
        refine w_reg tabOk hnt ?_
        refine o_op rfl (s_assign rfl ?_)
        refine o_end ?_
        refine q_then ?_
        have h1 : l.take i = l := List.take_of_length_le (by omega)
        have h2 : m.take i = m := List.take_of_length_le (by omega)
        have he : l = m := by rw [← h1, ← h2, hi.2]
        refine W_eq (s := 4) rfl (y := PV.f (.v (.bool (decide (l = m))))) (by simp [he]) ?_
        refine w_ret ?_
        exact fin_plain (ret_tmp rfl ret_nil) rfl rfl ⟨rfl, rfl, rfl⟩

theorem w27 (cl : Bool) (l : List UInt8) (hl : l.length ≤ 140737488355326):
    T Try.prog 27 [.f (.sl 1 cl (bytesU l))] 0 [] (Ret (.f (.sl 1 false (bytesU (sealL l)))) 0 []) := by
  refine t_fun tabOk (n := 15) (rs := [.tmp 2]) Try.func27 rfl rfl rfl rfl (Nat.le_of_ble_eq_true rfl) ?_
  intro c hnt hk
  refine w_seq ?_
  refine w_reg tabOk hnt ?_
  refine o_op rfl (s_assign rfl ?_)
  refine o_end ?_
  refine q_then ?_
  refine w_seq ?_
  refine w_reg tabOk hnt ?_
  refine o_op rfl (s_move rfl ?_)
  first | refine o_op rfl (s_call0 rfl rfl rfl (w29 _ _ (by first | omega | (simp <;> omega) | (simp [view] <;> omega) | decide)) rfl ?_) | refine o_op rfl (s_call rfl rfl rfl rfl (w29 _ _ (by first | omega | (simp <;> omega) | (simp [view] <;> omega) | decide)) rfl ?_)
  refine o_op rfl (s_assign rfl ?_)
  refine o_end ?_
  refine q_then ?_
  refine w_seq ?_
  refine w_reg tabOk hnt ?_
  refine o_op rfl (s_move rfl ?_)
  first | refine o_op rfl (s_call0 rfl rfl rfl (w44 _ _) rfl ?_) | refine o_op rfl (s_call rfl rfl rfl rfl (w44 _ _) rfl ?_)
  refine o_op rfl (s_move rfl ?_)
  first | refine o_op rfl (s_conv168 tab_44 tab_5 rfl rfl rfl ?_) | refine o_op rfl (s_conv tab_44 tab_5 rfl rfl rfl ?_)
  refine o_op rfl (s_move rfl ?_)
  refine o_op rfl (s_shr16 8 rfl rfl (by decide) ?_)
  first | refine o_op rfl (s_conv168 tab_44 tab_5 rfl rfl rfl ?_) | refine o_op rfl (s_conv tab_44 tab_5 rfl rfl rfl ?_)
  refine o_op rfl (s_buildSliceU [_, _] tab_23 rfl tab_5 rfl (by decide) rfl rfl ?_)
  first | refine o_op rfl (s_append_refU tab_23 rfl tab_5 ⟨rfl, rfl⟩ (srcU tab_23 rfl (by first | exact holdsU_sl rfl | exact holdsU_nil rfl | exact holdsU_ref rfl rfl)) rfl rfl (by simp [view] <;> omega) ?_) | refine o_op rfl (s_append_nilU tab_23 rfl tab_5 ⟨rfl, rfl⟩ (srcU tab_23 rfl (by first | exact holdsU_sl rfl | exact holdsU_nil rfl | exact holdsU_ref rfl rfl)) rfl (by simp [view] <;> omega) ?_) | refine o_op rfl (s_append_clipU tab_23 rfl tab_5 ⟨rfl, rfl⟩ (srcU tab_23 rfl (by first | exact holdsU_sl rfl | exact holdsU_nil rfl | exact holdsU_ref rfl rfl)) rfl (by simp [view] <;> omega) (by simp [view]) ?_)
  refine o_op rfl (s_assign rfl ?_)
  refine o_end ?_
  refine q_then ?_
  refine W_frz (s := 2) rfl rfl ?_
  refine w_ret ?_
  exact fin_plain (ret_tmp rfl ret_nil) rfl rfl ⟨rfl, rfl, rfl⟩

theorem w25 (cl : Bool) (l : List UInt8) (hl : l.length ≤ 140737488355326):
    T Try.prog 25 [.f (.sl 1 cl (bytesU l))] 0 [] (Ret (.f (.sl 1 false (bytesU (sealL l)))) 0 []) := by
  refine t_fun tabOk (n := 16) (rs := [.tmp 2]) Try.func25 rfl rfl rfl rfl (Nat.le_of_ble_eq_true rfl) ?_
  intro c hnt hk
  refine w_seq ?_
  refine w_reg tabOk hnt ?_
  refine o_op rfl (s_assign rfl ?_)
  refine o_end ?_
  refine q_then ?_
  refine w_seq ?_
  refine w_reg tabOk hnt ?_
  refine o_op rfl (s_move rfl ?_)
  first | refine o_op rfl (s_call0 rfl rfl rfl (w43 _ _ (by first | omega | (simp <;> omega) | (simp [view] <;> omega) | decide)) rfl ?_) | refine o_op rfl (s_call rfl rfl rfl rfl (w43 _ _ (by first | omega | (simp <;> omega) | (simp [view] <;> omega) | decide)) rfl ?_)
  refine o_op rfl (s_assign rfl ?_)
  refine o_end ?_
  refine q_then ?_
  refine w_seq ?_
  refine w_reg tabOk hnt ?_
  refine o_op rfl (s_buildSliceU [] tab_23 rfl tab_5 rfl (by decide) rfl rfl ?_)
  refine o_op rfl (s_move rfl ?_)
  first | refine o_op rfl (s_append_refU tab_23 rfl tab_5 ⟨rfl, rfl⟩ (srcU tab_23 rfl (by first | exact holdsU_sl rfl | exact holdsU_nil rfl | exact holdsU_ref rfl rfl)) rfl rfl (by simp [view] <;> omega) ?_) | refine o_op rfl (s_append_nilU tab_23 rfl tab_5 ⟨rfl, rfl⟩ (srcU tab_23 rfl (by first | exact holdsU_sl rfl | exact holdsU_nil rfl | exact holdsU_ref rfl rfl)) rfl (by simp [view] <;> omega) ?_) | refine o_op rfl (s_append_clipU tab_23 rfl tab_5 ⟨rfl, rfl⟩ (srcU tab_23 rfl (by first | exact holdsU_sl rfl | exact holdsU_nil rfl | exact holdsU_ref rfl rfl)) rfl (by simp [view] <;> omega) (by simp [view]) ?_)
  refine o_op rfl (s_move rfl ?_)
  first | refine o_op rfl (s_conv168 tab_44 tab_5 rfl rfl rfl ?_) | refine o_op rfl (s_conv tab_44 tab_5 rfl rfl rfl ?_)
  refine o_op rfl (s_move rfl ?_)
  refine o_op rfl (s_shr16 8 rfl rfl (by decide) ?_)
  first | refine o_op rfl (s_conv168 tab_44 tab_5 rfl rfl rfl ?_) | refine o_op rfl (s_conv tab_44 tab_5 rfl rfl rfl ?_)
  refine o_op rfl (s_buildSliceU [_, _] tab_23 rfl tab_5 rfl (by decide) rfl rfl ?_)
  first | refine o_op rfl (s_append_refU tab_23 rfl tab_5 ⟨rfl, rfl⟩ (srcU tab_23 rfl (by first | exact holdsU_sl rfl | exact holdsU_nil rfl | exact holdsU_ref rfl rfl)) rfl rfl (by simp [view] <;> omega) ?_) | refine o_op rfl (s_append_nilU tab_23 rfl tab_5 ⟨rfl, rfl⟩ (srcU tab_23 rfl (by first | exact holdsU_sl rfl | exact holdsU_nil rfl | exact holdsU_ref rfl rfl)) rfl (by simp [view] <;> omega) ?_) | refine o_op rfl (s_append_clipU tab_23 rfl tab_5 ⟨rfl, rfl⟩ (srcU tab_23 rfl (by first | exact holdsU_sl rfl | exact holdsU_nil rfl | exact holdsU_ref rfl rfl)) rfl (by simp [view] <;> omega) (by simp [view]) ?_)
  refine o_op rfl (s_assign rfl ?_)
  refine o_end ?_
  refine q_then ?_
  refine W_frz (s := 2) rfl rfl ?_
  refine w_ret ?_
  exact fin_plain (ret_tmp rfl ret_nil) rfl rfl ⟨rfl, rfl, rfl⟩

theorem w28 (cl : Bool) (l : List UInt8) (hl : l.length ≤ 140737488355328):
    T Try.prog 28 [.f (.sl 1 cl (bytesU l))] 0 [] (Ret (PV.tup [.f (.sl 1 false (bytesU (openL l))), .f (.v (.bool (openOk l)))]) 0 []) := by
  refine t_fun tabOk (n := 23) (rs := [.tmp 2, .tmp 3]) Try.func28 rfl rfl rfl rfl (Nat.le_of_ble_eq_true rfl) ?_
  intro c hnt hk
  refine w_seq ?_
  refine w_reg tabOk hnt ?_
  refine o_op rfl (s_assign rfl ?_)
  refine o_op rfl (s_assign rfl ?_)
  refine o_end ?_
  refine q_then ?_
  refine w_seq ?_
  refine w_reg tabOk hnt ?_
  refine o_op rfl (s_move rfl ?_)
  first | refine o_op rfl (s_lenU tab_23 rfl (by first | exact holdsU_sl rfl | exact holdsU_nil rfl | exact holdsU_ref rfl rfl) ?_) | refine o_op rfl (s_len tab_23 rfl (by first | exact holds_sl rfl | exact holds_nil rfl | exact holds_ref rfl rfl rfl) ?_)
  first | refine o_op rfl (s_subi rfl rfl rfl (by omega) ?_) | refine o_op rfl (s_sub rfl rfl ?_)
  refine o_op rfl (s_assign rfl ?_)
  refine o_end ?_
  refine q_then ?_
  refine w_seq ?_
  refine w_seq ?_
  refine w_reg tabOk hnt ?_
  refine o_op rfl (s_move rfl ?_)
  refine o_op rfl (s_lss rfl rfl ?_)
  refine o_op rfl (s_move rfl ?_)
  refine o_if rfl rfl rfl (fun g1 => ?_) (fun g1 => ?_)
  ·
    have g1' := g1
    try simp only [decide_eq_true_eq, decide_eq_false_iff_not, Bool.not_eq_true', Bool.not_eq_false', Bool.not_true, Bool.not_false, Int.not_lt, Int.not_le] at g1'
    refine o_op rfl (s_move rfl ?_)
    refine o_if rfl rfl rfl (fun _ => ?_) (fun e => absurd (e.symm.trans g1) (by decide))
    refine o_op rfl (s_move rfl ?_)
    refine o_if rfl rfl rfl (fun _ => ?_) (fun e => absurd (e.symm.trans g1) (by decide))
    refine o_op rfl (s_slice_U (a := 0) (b := l.length - 2) tab_23 rfl tab_5 rfl rfl bound_none (bound_some rfl (by omega)) (by omega) ?_)
    refine o_if rfl rfl rfl (fun _ => ?_) (fun e => absurd (e.symm.trans g1) (by decide))
    first | refine o_op rfl (s_call0 rfl rfl rfl (w27 _ _ (by first | omega | (simp <;> omega) | (simp [view] <;> omega) | decide)) rfl ?_) | refine o_op rfl (s_call rfl rfl rfl rfl (w27 _ _ (by first | omega | (simp <;> omega) | (simp [view] <;> omega) | decide)) rfl ?_)
    refine o_if rfl rfl rfl (fun _ => ?_) (fun e => absurd (e.symm.trans g1) (by decide))
    refine o_op rfl (s_move rfl ?_)
    refine o_if rfl rfl rfl (fun _ => ?_) (fun e => absurd (e.symm.trans g1) (by decide))
    first | refine o_op rfl (s_call0 rfl rfl rfl (w45 _ _ _ _ (by first | omega | (simp <;> omega) | (simp [view] <;> omega) | decide)) rfl ?_) | refine o_op rfl (s_call rfl rfl rfl rfl (w45 _ _ _ _ (by first | omega | (simp <;> omega) | (simp [view] <;> omega) | decide)) rfl ?_)
    refine o_if rfl rfl rfl (fun _ => ?_) (fun e => absurd (e.symm.trans g1) (by decide))
    refine o_op rfl (s_not rfl ?_)
    refine o_op rfl (s_pick_f rfl g1 rfl ?_)
    refine o_end ?_
    refine q_then ?_
    refine w_if rfl (fun c1 => ?_) (fun c1 => ?_)
    ·
      have c1_ := c1
      try simp only [decide_eq_true_eq, decide_eq_false_iff_not, Bool.not_eq_true', Bool.not_eq_false', Int.not_lt, Int.not_le] at c1
      refine w_seq ?_
      refine w_reg tabOk hnt ?_
      refine o_op rfl (s_assign rfl ?_)
      refine o_op rfl (s_assign rfl ?_)
      refine o_end ?_
      refine q_then ?_
      have hb : sealL ((l.take (l.length - 2)).drop 0) ≠ l := by simpa using c1
      have e : openOk l = false := by simp [openOk]; intro _; simpa using hb
      have e2 : openL l = [] := by simp [openL, e]
      refine W_eq (s := 3) rfl (y := PV.f (.v (.bool (openOk l)))) (by rw [e]) ?_
      refine W_le (s := 2) rfl (y := .f (.sl 1 false (bytesU (openL l)))) (by rw [e2]; exact le_nil 1 false) ?_
      refine w_ret ?_
      refine q_then_ret ?_
      exact fin_plain (ret_tmp rfl (ret_tmp rfl ret_nil)) rfl rfl ⟨rfl, rfl, rfl⟩
    ·
      have c1_ := c1
      try simp only [decide_eq_true_eq, decide_eq_false_iff_not, Bool.not_eq_true', Bool.not_eq_false', Int.not_lt, Int.not_le] at c1
      refine w_skip ?_
      refine q_then ?_
      refine w_seq ?_
      refine w_reg tabOk hnt ?_
      refine o_op rfl (s_move rfl ?_)
      refine o_op rfl (s_move rfl ?_)
      refine o_op rfl (s_slice_U (a := 0) (b := l.length - 2) tab_23 rfl tab_5 rfl rfl bound_none (bound_some rfl (by omega)) (by omega) ?_)
      first | refine o_op rfl (s_call0 rfl rfl rfl (w46 _ _ (by first | omega | (simp <;> omega) | (simp [view] <;> omega) | decide)) rfl ?_) | refine o_op rfl (s_call rfl rfl rfl rfl (w46 _ _ (by first | omega | (simp <;> omega) | (simp [view] <;> omega) | decide)) rfl ?_)
      refine o_op rfl (s_assign rfl ?_)
      refine o_op rfl (s_assign rfl ?_)
      refine o_end ?_
      refine q_then ?_
      have hb : sealL ((l.take (l.length - 2)).drop 0) = l := by simpa using c1
      have e : openOk l = true := by simp [openOk]; exact ⟨by omega, by simpa using hb⟩
      have e2 : openL l = (l.take (l.length - 2)).drop 0 := by simp [openL, e]
      refine W_eq (s := 3) rfl (y := PV.f (.v (.bool (openOk l)))) (by rw [e]) ?_
      refine W_eq (s := 2) rfl (y := .f (.sl 1 false (bytesU (openL l)))) (by simp [e2, view]) ?_
      refine w_ret ?_
      exact fin_plain (ret_tmp rfl (ret_tmp rfl ret_nil)) rfl rfl ⟨rfl, rfl, rfl⟩
  ·
    have g1' := g1
    try simp only [decide_eq_true_eq, decide_eq_false_iff_not, Bool.not_eq_true', Bool.not_eq_false', Bool.not_true, Bool.not_false, Int.not_lt, Int.not_le] at g1'
    refine o_if rfl rfl rfl (fun e => absurd (e.symm.trans g1) (by decide)) (fun _ => ?_)
    refine o_if rfl rfl rfl (fun e => absurd (e.symm.trans g1) (by decide)) (fun _ => ?_)
    refine o_if rfl rfl rfl (fun e => absurd (e.symm.trans g1) (by decide)) (fun _ => ?_)
    refine o_if rfl rfl rfl (fun e => absurd (e.symm.trans g1) (by decide)) (fun _ => ?_)
    refine o_if rfl rfl rfl (fun e => absurd (e.symm.trans g1) (by decide)) (fun _ => ?_)
    refine o_if rfl rfl rfl (fun e => absurd (e.symm.trans g1) (by decide)) (fun _ => ?_)
    refine o_op rfl (s_pick_t rfl g1 rfl ?_)
    refine o_end ?_
    refine q_then ?_
    refine w_if rfl (fun _ => ?_) (fun e => absurd e (by decide))
    refine w_seq ?_
    refine w_reg tabOk hnt ?_
    refine o_op rfl (s_assign rfl ?_)
    refine o_op rfl (s_assign rfl ?_)
    refine o_end ?_
    refine q_then ?_
    have e0 : ¬ 2 ≤ l.length := by omega
    have e : openOk l = false := by simp [openOk, e0]
    have e2 : openL l = [] := by simp [openL, e]
    refine W_eq (s := 3) rfl (y := PV.f (.v (.bool (openOk l)))) (by rw [e]) ?_
    refine W_le (s := 2) rfl (y := .f (.sl 1 false (bytesU (openL l)))) (by rw [e2]; exact le_nil 1 false) ?_
    refine w_ret ?_
    refine q_then_ret ?_
    exact fin_plain (ret_tmp rfl (ret_tmp rfl ret_nil)) rfl rfl ⟨rfl, rfl, rfl⟩

theorem w42 (cl : Bool) (l : List UInt8) (hl : l.length ≤ 140737488355328):
    T Try.prog 42 [.f (.sl 1 cl (bytesU l))] 0 [] (Ret (PV.tup [.f (.sl 1 false (bytesU (openL l))), .f (.v (.bool (openOk l)))]) 0 []) := by
  refine t_fun tabOk (n := 25) (rs := [.tmp 2, .tmp 3]) Try.func42 rfl rfl rfl rfl (Nat.le_of_ble_eq_true rfl) ?_
  intro c hnt hk
  refine w_seq ?_
  refine w_reg tabOk hnt ?_
  refine o_op rfl (s_assign rfl ?_)
  refine o_op rfl (s_assign rfl ?_)
  refine o_end ?_
  refine q_then ?_
  refine w_seq ?_
  refine w_reg tabOk hnt ?_
  refine o_op rfl (s_move rfl ?_)
  first | refine o_op rfl (s_lenU tab_23 rfl (by first | exact holdsU_sl rfl | exact holdsU_nil rfl | exact holdsU_ref rfl rfl) ?_) | refine o_op rfl (s_len tab_23 rfl (by first | exact holds_sl rfl | exact holds_nil rfl | exact holds_ref rfl rfl rfl) ?_)
  first | refine o_op rfl (s_subi rfl rfl rfl (by omega) ?_) | refine o_op rfl (s_sub rfl rfl ?_)
  refine o_op rfl (s_assign rfl ?_)
  refine o_end ?_
  refine q_then ?_
  refine w_seq ?_
  refine w_seq ?_
  refine W_drawn tabOk mixed hnt [[], [0], [0, 1], [0, 1, 2], [0, 1, 2], [0, 1, 2, 3, 4], [0, 1, 2, 3, 4, 5], [0, 1, 2, 3, 4, 5, 6], [0, 1, 2], [0, 1, 2, 8], [0, 1, 2, 3, 4, 5, 6, 7, 8, 9], [0, 1, 2, 3, 4, 5, 6, 7, 8, 9, 10]] (by kernel_rfl) ?_
  refine d_op ?_
  refine d_run0 rfl rfl (s_move rfl ⟨rfl, rfl, rfl⟩) ?_
  refine d_op ?_
  first | refine d_run0 rfl rfl (s_lss rfl rfl ⟨rfl, rfl, rfl⟩) ?_ | refine d_runR rfl rfl rfl (s_lss rfl rfl ⟨rfl, rfl, rfl⟩) ?_ | refine d_runG rfl rfl rfl (s_lss rfl rfl ⟨rfl, rfl, rfl⟩) rfl ?_ | refine d_run (s_lss rfl rfl ⟨rfl, rfl, rfl⟩) rfl (by first | exact trivial | exact ⟨rfl, trivial⟩ | exact ⟨rfl, rfl, trivial⟩) ?_
  refine d_op ?_
  refine d_run0 rfl rfl (s_move rfl ⟨rfl, rfl, rfl⟩) ?_
  refine d_if rfl rfl (fun g1 => ?_) (fun g1 => ?_)
  ·
    have g1' := g1
    try simp only [decide_eq_true_eq, decide_eq_false_iff_not, Bool.not_eq_true', Bool.not_eq_false', Bool.not_true, Bool.not_false, Int.not_lt, Int.not_le] at g1'
    refine d_run0 rfl rfl (s_move rfl ⟨rfl, rfl, rfl⟩) ?_
    refine d_if rfl rfl (fun _ => ?_) (fun e => absurd (e.symm.trans g1) (by decide))
    refine d_run0 rfl rfl (s_move rfl ⟨rfl, rfl, rfl⟩) ?_
    refine d_if rfl rfl (fun _ => ?_) (fun e => absurd (e.symm.trans g1) (by decide))
    first | refine d_run0 rfl rfl (s_slice_U (a := 0) (b := l.length - 2) tab_23 rfl tab_5 rfl rfl bound_none (bound_some rfl (by omega)) (by omega) ⟨rfl, rfl, rfl⟩) ?_ | refine d_runR rfl rfl rfl (s_slice_U (a := 0) (b := l.length - 2) tab_23 rfl tab_5 rfl rfl bound_none (bound_some rfl (by omega)) (by omega) ⟨rfl, rfl, rfl⟩) ?_ | refine d_runG rfl rfl rfl (s_slice_U (a := 0) (b := l.length - 2) tab_23 rfl tab_5 rfl rfl bound_none (bound_some rfl (by omega)) (by omega) ⟨rfl, rfl, rfl⟩) rfl ?_ | refine d_run (s_slice_U (a := 0) (b := l.length - 2) tab_23 rfl tab_5 rfl rfl bound_none (bound_some rfl (by omega)) (by omega) ⟨rfl, rfl, rfl⟩) rfl (by first | exact trivial | exact ⟨rfl, trivial⟩ | exact ⟨rfl, rfl, trivial⟩) ?_
    refine d_if rfl rfl (fun _ => ?_) (fun e => absurd (e.symm.trans g1) (by decide))
    first | refine d_run0 rfl rfl (s_call0 rfl rfl rfl (w25 _ _ (by first | omega | (simp <;> omega) | (simp [view] <;> omega) | decide)) rfl ⟨rfl, rfl, rfl⟩) ?_ | refine d_run0 rfl rfl (s_call rfl rfl rfl rfl (w25 _ _ (by first | omega | (simp <;> omega) | (simp [view] <;> omega) | decide)) rfl ⟨rfl, rfl, rfl⟩) ?_ | refine d_runG rfl rfl rfl (s_call0 rfl rfl rfl (w25 _ _ (by first | omega | (simp <;> omega) | (simp [view] <;> omega) | decide)) rfl ⟨rfl, rfl, rfl⟩) rfl ?_ | refine d_runG rfl rfl rfl (s_call rfl rfl rfl rfl (w25 _ _ (by first | omega | (simp <;> omega) | (simp [view] <;> omega) | decide)) rfl ⟨rfl, rfl, rfl⟩) rfl ?_ | refine d_run (s_call0 rfl rfl rfl (w25 _ _ (by first | omega | (simp <;> omega) | (simp [view] <;> omega) | decide)) rfl ⟨rfl, rfl, rfl⟩) rfl (by first | exact trivial | exact ⟨rfl, trivial⟩ | exact ⟨rfl, rfl, trivial⟩) ?_ | refine d_run (s_call rfl rfl rfl rfl (w25 _ _ (by first | omega | (simp <;> omega) | (simp [view] <;> omega) | decide)) rfl ⟨rfl, rfl, rfl⟩) rfl (by first | exact trivial | exact ⟨rfl, trivial⟩ | exact ⟨rfl, rfl, trivial⟩) ?_
    refine d_if rfl rfl (fun _ => ?_) (fun e => absurd (e.symm.trans g1) (by decide))
    first | refine d_run0 rfl rfl (s_textU tab_23 tab_9 rfl tab_5 rfl rfl (by first | exact holdsU_sl rfl | exact holdsU_nil rfl | exact holdsU_ref rfl rfl) ⟨rfl, rfl, rfl⟩) ?_ | refine d_run0 rfl rfl (s_text tab_23 tab_9 rfl tab_5 rfl rfl (by first | exact holds_sl rfl | exact holds_nil rfl | exact holds_ref rfl rfl rfl) ⟨rfl, rfl, rfl⟩) ?_ | refine d_runR rfl rfl rfl (s_textU tab_23 tab_9 rfl tab_5 rfl rfl (by first | exact holdsU_sl rfl | exact holdsU_nil rfl | exact holdsU_ref rfl rfl) ⟨rfl, rfl, rfl⟩) ?_ | refine d_runR rfl rfl rfl (s_text tab_23 tab_9 rfl tab_5 rfl rfl (by first | exact holds_sl rfl | exact holds_nil rfl | exact holds_ref rfl rfl rfl) ⟨rfl, rfl, rfl⟩) ?_ | refine d_runG rfl rfl rfl (s_textU tab_23 tab_9 rfl tab_5 rfl rfl (by first | exact holdsU_sl rfl | exact holdsU_nil rfl | exact holdsU_ref rfl rfl) ⟨rfl, rfl, rfl⟩) rfl ?_ | refine d_runG rfl rfl rfl (s_text tab_23 tab_9 rfl tab_5 rfl rfl (by first | exact holds_sl rfl | exact holds_nil rfl | exact holds_ref rfl rfl rfl) ⟨rfl, rfl, rfl⟩) rfl ?_ | refine d_run (s_textU tab_23 tab_9 rfl tab_5 rfl rfl (by first | exact holdsU_sl rfl | exact holdsU_nil rfl | exact holdsU_ref rfl rfl) ⟨rfl, rfl, rfl⟩) rfl (by first | exact trivial | exact ⟨rfl, trivial⟩ | exact ⟨rfl, rfl, trivial⟩) ?_ | refine d_run (s_text tab_23 tab_9 rfl tab_5 rfl rfl (by first | exact holds_sl rfl | exact holds_nil rfl | exact holds_ref rfl rfl rfl) ⟨rfl, rfl, rfl⟩) rfl (by first | exact trivial | exact ⟨rfl, trivial⟩ | exact ⟨rfl, rfl, trivial⟩) ?_
    refine d_if rfl rfl (fun _ => ?_) (fun e => absurd (e.symm.trans g1) (by decide))
    refine d_run0 rfl rfl (s_move rfl ⟨rfl, rfl, rfl⟩) ?_
    refine d_if rfl rfl (fun _ => ?_) (fun e => absurd (e.symm.trans g1) (by decide))
    first | refine d_run0 rfl rfl (s_textU tab_23 tab_9 rfl tab_5 rfl rfl (by first | exact holdsU_sl rfl | exact holdsU_nil rfl | exact holdsU_ref rfl rfl) ⟨rfl, rfl, rfl⟩) ?_ | refine d_run0 rfl rfl (s_text tab_23 tab_9 rfl tab_5 rfl rfl (by first | exact holds_sl rfl | exact holds_nil rfl | exact holds_ref rfl rfl rfl) ⟨rfl, rfl, rfl⟩) ?_ | refine d_runR rfl rfl rfl (s_textU tab_23 tab_9 rfl tab_5 rfl rfl (by first | exact holdsU_sl rfl | exact holdsU_nil rfl | exact holdsU_ref rfl rfl) ⟨rfl, rfl, rfl⟩) ?_ | refine d_runR rfl rfl rfl (s_text tab_23 tab_9 rfl tab_5 rfl rfl (by first | exact holds_sl rfl | exact holds_nil rfl | exact holds_ref rfl rfl rfl) ⟨rfl, rfl, rfl⟩) ?_ | refine d_runG rfl rfl rfl (s_textU tab_23 tab_9 rfl tab_5 rfl rfl (by first | exact holdsU_sl rfl | exact holdsU_nil rfl | exact holdsU_ref rfl rfl) ⟨rfl, rfl, rfl⟩) rfl ?_ | refine d_runG rfl rfl rfl (s_text tab_23 tab_9 rfl tab_5 rfl rfl (by first | exact holds_sl rfl | exact holds_nil rfl | exact holds_ref rfl rfl rfl) ⟨rfl, rfl, rfl⟩) rfl ?_ | refine d_run (s_textU tab_23 tab_9 rfl tab_5 rfl rfl (by first | exact holdsU_sl rfl | exact holdsU_nil rfl | exact holdsU_ref rfl rfl) ⟨rfl, rfl, rfl⟩) rfl (by first | exact trivial | exact ⟨rfl, trivial⟩ | exact ⟨rfl, rfl, trivial⟩) ?_ | refine d_run (s_text tab_23 tab_9 rfl tab_5 rfl rfl (by first | exact holds_sl rfl | exact holds_nil rfl | exact holds_ref rfl rfl rfl) ⟨rfl, rfl, rfl⟩) rfl (by first | exact trivial | exact ⟨rfl, trivial⟩ | exact ⟨rfl, rfl, trivial⟩) ?_
    refine d_if rfl rfl (fun _ => ?_) (fun e => absurd (e.symm.trans g1) (by decide))
    first | refine d_run0 rfl rfl (s_netext rfl rfl ⟨rfl, rfl, rfl⟩) ?_ | refine d_run0 rfl rfl (s_nestr rfl rfl ⟨rfl, rfl, rfl⟩) ?_ | refine d_runR rfl rfl rfl (s_netext rfl rfl ⟨rfl, rfl, rfl⟩) ?_ | refine d_runR rfl rfl rfl (s_nestr rfl rfl ⟨rfl, rfl, rfl⟩) ?_ | refine d_runG rfl rfl rfl (s_netext rfl rfl ⟨rfl, rfl, rfl⟩) rfl ?_ | refine d_runG rfl rfl rfl (s_nestr rfl rfl ⟨rfl, rfl, rfl⟩) rfl ?_ | refine d_run (s_netext rfl rfl ⟨rfl, rfl, rfl⟩) rfl (by first | exact trivial | exact ⟨rfl, trivial⟩ | exact ⟨rfl, rfl, trivial⟩) ?_ | refine d_run (s_nestr rfl rfl ⟨rfl, rfl, rfl⟩) rfl (by first | exact trivial | exact ⟨rfl, trivial⟩ | exact ⟨rfl, rfl, trivial⟩) ?_
    refine d_op ?_
    refine d_run0 rfl rfl (s_pick_f rfl g1 rfl ⟨rfl, rfl, rfl⟩) ?_
    refine d_end ⟨by kernel_rfl, ?_⟩
    refine q_then ?_
    refine w_if rfl (fun c1 => ?_) (fun c1 => ?_)
    ·
      have c1_ := c1
      try simp only [decide_eq_true_eq, decide_eq_false_iff_not, Bool.not_eq_true', Bool.not_eq_false', Int.not_lt, Int.not_le] at c1
      refine w_seq ?_
      refine w_reg tabOk hnt ?_
      refine o_op rfl (s_assign rfl ?_)
      refine o_op rfl (s_assign rfl ?_)
      refine o_end ?_
      refine q_then ?_
      have hb : sealL ((l.take (l.length - 2)).drop 0) ≠ l := by simpa using c1
      have e : openOk l = false := by simp [openOk]; intro _; simpa using hb
      have e2 : openL l = [] := by simp [openL, e]
      refine W_eq (s := 3) rfl (y := PV.f (.v (.bool (openOk l)))) (by rw [e]) ?_
      refine W_le (s := 2) rfl (y := .f (.sl 1 false (bytesU (openL l)))) (by rw [e2]; exact le_nil 1 false) ?_
      refine w_ret ?_
      refine q_then_ret ?_
      exact fin_plain (ret_tmp rfl (ret_tmp rfl ret_nil)) rfl rfl ⟨rfl, rfl, rfl⟩
    ·
      have c1_ := c1
      try simp only [decide_eq_true_eq, decide_eq_false_iff_not, Bool.not_eq_true', Bool.not_eq_false', Int.not_lt, Int.not_le] at c1
      refine w_skip ?_
      refine q_then ?_
      refine w_seq ?_
      refine w_reg tabOk hnt ?_
      refine o_op rfl (s_buildSliceU [] tab_23 rfl tab_5 rfl (by decide) rfl rfl ?_)
      refine o_op rfl (s_move rfl ?_)
      refine o_op rfl (s_move rfl ?_)
      refine o_op rfl (s_slice_U (a := 0) (b := l.length - 2) tab_23 rfl tab_5 rfl rfl bound_none (bound_some rfl (by omega)) (by omega) ?_)
      first | refine o_op rfl (s_append_refU tab_23 rfl tab_5 ⟨rfl, rfl⟩ (srcU tab_23 rfl (by first | exact holdsU_sl rfl | exact holdsU_nil rfl | exact holdsU_ref rfl rfl)) rfl rfl (by simp [view] <;> omega) ?_) | refine o_op rfl (s_append_nilU tab_23 rfl tab_5 ⟨rfl, rfl⟩ (srcU tab_23 rfl (by first | exact holdsU_sl rfl | exact holdsU_nil rfl | exact holdsU_ref rfl rfl)) rfl (by simp [view] <;> omega) ?_) | refine o_op rfl (s_append_clipU tab_23 rfl tab_5 ⟨rfl, rfl⟩ (srcU tab_23 rfl (by first | exact holdsU_sl rfl | exact holdsU_nil rfl | exact holdsU_ref rfl rfl)) rfl (by simp [view] <;> omega) (by simp [view]) ?_)
      refine o_op rfl (s_assign rfl ?_)
      refine o_op rfl (s_assign rfl ?_)
      refine o_end ?_
      refine q_then ?_
      have hb : sealL ((l.take (l.length - 2)).drop 0) = l := by simpa using c1
      have e : openOk l = true := by simp [openOk]; exact ⟨by omega, by simpa using hb⟩
      have e2 : openL l = (l.take (l.length - 2)).drop 0 := by simp [openL, e]
      refine W_frz (s := 2) rfl rfl ?_
      refine W_eq (s := 3) rfl (y := PV.f (.v (.bool (openOk l)))) (by rw [e]) ?_
      refine W_eq (s := 2) rfl (y := .f (.sl 1 false (bytesU (openL l)))) (by simp [e2, view]) ?_
      refine w_ret ?_
      exact fin_plain (ret_tmp rfl (ret_tmp rfl ret_nil)) rfl rfl ⟨rfl, rfl, rfl⟩
  ·
    have g1' := g1
    try simp only [decide_eq_true_eq, decide_eq_false_iff_not, Bool.not_eq_true', Bool.not_eq_false', Bool.not_true, Bool.not_false, Int.not_lt, Int.not_le] at g1'
    refine d_if rfl rfl (fun e => absurd (e.symm.trans g1) (by decide)) (fun _ => ?_)
    refine d_if rfl rfl (fun e => absurd (e.symm.trans g1) (by decide)) (fun _ => ?_)
    refine d_if rfl rfl (fun e => absurd (e.symm.trans g1) (by decide)) (fun _ => ?_)
    refine d_if rfl rfl (fun e => absurd (e.symm.trans g1) (by decide)) (fun _ => ?_)
    refine d_if rfl rfl (fun e => absurd (e.symm.trans g1) (by decide)) (fun _ => ?_)
    refine d_if rfl rfl (fun e => absurd (e.symm.trans g1) (by decide)) (fun _ => ?_)
    refine d_if rfl rfl (fun e => absurd (e.symm.trans g1) (by decide)) (fun _ => ?_)
    refine d_op ?_
    refine d_run0 rfl rfl (s_pick_t rfl g1 rfl ⟨rfl, rfl, rfl⟩) ?_
    refine d_end ⟨by kernel_rfl, ?_⟩
    refine q_then ?_
    refine w_if rfl (fun _ => ?_) (fun e => absurd e (by decide))
    refine w_seq ?_
    refine w_reg tabOk hnt ?_
    refine o_op rfl (s_assign rfl ?_)
    refine o_op rfl (s_assign rfl ?_)
    refine o_end ?_
    refine q_then ?_
    have e0 : ¬ 2 ≤ l.length := by omega
    have e : openOk l = false := by simp [openOk, e0]
    have e2 : openL l = [] := by simp [openL, e]
    refine W_eq (s := 3) rfl (y := PV.f (.v (.bool (openOk l)))) (by rw [e]) ?_
    refine W_le (s := 2) rfl (y := .f (.sl 1 false (bytesU (openL l)))) (by rw [e2]; exact le_nil 1 false) ?_
    refine w_ret ?_
    refine q_then_ret ?_
    exact fin_plain (ret_tmp rfl (ret_tmp rfl ret_nil)) rfl rfl ⟨rfl, rfl, rfl⟩

theorem w24 (cl : Bool) (l : List UInt8) (hl : l.length ≤ 140737488355326):
    T Try.prog 24 [.f (.sl 1 cl (bytesU l))] 0 [] (Ret (PV.f (.v (.bool true))) 0 []) := by
  refine t_fun tabOk (n := 43) (rs := [.tmp 2]) Try.func24 rfl rfl rfl rfl (Nat.le_of_ble_eq_true rfl) ?_
  intro c hnt hk
  refine w_seq ?_
  refine w_reg tabOk hnt ?_
  refine o_op rfl (s_assign rfl ?_)
  refine o_end ?_
  refine q_then ?_
  refine w_seq ?_
  refine w_reg tabOk hnt ?_
  refine o_op rfl (s_move rfl ?_)
  first | refine o_op rfl (s_call0 rfl rfl rfl (w28 _ _ (by first | omega | (simp <;> omega) | (simp [view] <;> omega) | decide)) rfl ?_) | refine o_op rfl (s_call rfl rfl rfl rfl (w28 _ _ (by first | omega | (simp <;> omega) | (simp [view] <;> omega) | decide)) rfl ?_)
  refine o_op rfl (s_move rfl ?_)
  refine o_op rfl (s_extract rfl rfl ?_)
  refine o_op rfl (s_extract rfl rfl ?_)
  refine o_op rfl (s_assign rfl ?_)
  refine o_op rfl (s_assign rfl ?_)
  refine o_end ?_
  refine q_then ?_
  refine w_seq ?_
  refine w_reg tabOk hnt ?_
  refine o_op rfl (s_move rfl ?_)
  first | refine o_op rfl (s_call0 rfl rfl rfl (w42 _ _ (by first | omega | (simp <;> omega) | (simp [view] <;> omega) | decide)) rfl ?_) | refine o_op rfl (s_call rfl rfl rfl rfl (w42 _ _ (by first | omega | (simp <;> omega) | (simp [view] <;> omega) | decide)) rfl ?_)
  refine o_op rfl (s_move rfl ?_)
  refine o_op rfl (s_extract rfl rfl ?_)
  refine o_op rfl (s_extract rfl rfl ?_)
  refine o_op rfl (s_assign rfl ?_)
  refine o_op rfl (s_assign rfl ?_)
  refine o_end ?_
  refine q_then ?_
  refine w_seq ?_
  refine W_drawn tabOk mixed hnt [[], [0], [], [0, 1, 2], [0, 1, 2, 3], [0, 1, 2, 3, 4], [0, 1, 2, 3, 4, 5], [0, 1, 2, 3, 4, 5, 6], [0, 1, 2, 3, 4, 5, 6, 7], [0, 1, 2, 3, 4, 5], [0, 1, 2, 3, 4, 5, 6, 7, 9], [0, 1, 2, 3, 4, 5, 6, 7, 9, 10], [0, 1, 2, 3, 4, 5, 6, 7, 8, 9, 10, 11], [0, 1, 2, 3, 4, 5, 6, 7, 8, 9, 10, 11, 12], [0, 1, 2, 3, 4, 5, 6, 7, 8, 9, 10, 11, 12, 13], [0, 1, 2, 3, 4, 5, 6, 7, 8, 9, 10, 11, 12, 13, 14], [0, 1, 2, 3, 4, 5, 6, 7, 8, 9, 10, 11, 12, 13, 14, 15], [0, 1, 2, 3, 4, 5, 6, 7, 8, 9, 10, 11, 12, 13, 14], [0, 1, 2, 3, 4, 5, 6, 7, 8, 9, 10, 11, 12, 13, 14, 17], [0, 1, 2, 3, 4, 5, 6, 7, 8, 9, 10, 11, 12, 13, 14, 15, 16, 17, 18], [0, 1, 2, 3, 4, 5, 6, 7, 8, 9, 10, 11, 12, 13, 14, 15, 16, 17, 18, 19], [0, 1, 2, 3, 4, 5, 6, 7, 8, 9, 10, 11, 12, 13, 14, 15, 16, 17, 18, 19, 20], [0, 1, 2, 3, 4, 5, 6, 7, 8, 9, 10, 11, 12, 13, 14, 15, 16, 17, 18, 19, 20, 21], [0, 1, 2, 3, 4, 5, 6, 7, 8, 9, 10, 11, 12, 13, 14, 15, 16, 17, 18, 19, 20, 21], [0, 1, 2, 3, 4, 5, 6, 7, 8, 9, 10, 11, 12, 13, 14, 15, 16, 17, 18, 19, 20, 21, 22, 23], [0, 1, 2, 3, 4, 5, 6, 7, 8, 9, 10, 11, 12, 13, 14, 15, 16, 17, 18, 19, 20, 21, 22, 23, 24], [0, 1, 2, 3, 4, 5, 6, 7, 8, 9, 10, 11, 12, 13, 14, 15, 16, 17, 18, 19, 20, 21, 22, 23, 24, 25]] (by kernel_rfl) ?_
  refine d_op ?_
  refine d_run0 rfl rfl (s_move rfl ⟨rfl, rfl, rfl⟩) ?_
  refine d_op ?_
  first | refine d_run0 rfl rfl (s_call0 rfl rfl rfl (w29 _ _ (by first | omega | (simp <;> omega) | (simp [view] <;> omega) | decide)) rfl ⟨rfl, rfl, rfl⟩) ?_ | refine d_run0 rfl rfl (s_call rfl rfl rfl rfl (w29 _ _ (by first | omega | (simp <;> omega) | (simp [view] <;> omega) | decide)) rfl ⟨rfl, rfl, rfl⟩) ?_ | refine d_runG rfl rfl rfl (s_call0 rfl rfl rfl (w29 _ _ (by first | omega | (simp <;> omega) | (simp [view] <;> omega) | decide)) rfl ⟨rfl, rfl, rfl⟩) rfl ?_ | refine d_runG rfl rfl rfl (s_call rfl rfl rfl rfl (w29 _ _ (by first | omega | (simp <;> omega) | (simp [view] <;> omega) | decide)) rfl ⟨rfl, rfl, rfl⟩) rfl ?_ | refine d_run (s_call0 rfl rfl rfl (w29 _ _ (by first | omega | (simp <;> omega) | (simp [view] <;> omega) | decide)) rfl ⟨rfl, rfl, rfl⟩) rfl (by first | exact trivial | exact ⟨rfl, trivial⟩ | exact ⟨rfl, rfl, trivial⟩) ?_ | refine d_run (s_call rfl rfl rfl rfl (w29 _ _ (by first | omega | (simp <;> omega) | (simp [view] <;> omega) | decide)) rfl ⟨rfl, rfl, rfl⟩) rfl (by first | exact trivial | exact ⟨rfl, trivial⟩ | exact ⟨rfl, rfl, trivial⟩) ?_
  refine d_op ?_
  refine d_run0 rfl rfl (s_move rfl ⟨rfl, rfl, rfl⟩) ?_
  refine d_op ?_
  first | refine d_run0 rfl rfl (s_call0 rfl rfl rfl (w43 _ _ (by first | omega | (simp <;> omega) | (simp [view] <;> omega) | decide)) rfl ⟨rfl, rfl, rfl⟩) ?_ | refine d_run0 rfl rfl (s_call rfl rfl rfl rfl (w43 _ _ (by first | omega | (simp <;> omega) | (simp [view] <;> omega) | decide)) rfl ⟨rfl, rfl, rfl⟩) ?_ | refine d_runG rfl rfl rfl (s_call0 rfl rfl rfl (w43 _ _ (by first | omega | (simp <;> omega) | (simp [view] <;> omega) | decide)) rfl ⟨rfl, rfl, rfl⟩) rfl ?_ | refine d_runG rfl rfl rfl (s_call rfl rfl rfl rfl (w43 _ _ (by first | omega | (simp <;> omega) | (simp [view] <;> omega) | decide)) rfl ⟨rfl, rfl, rfl⟩) rfl ?_ | refine d_run (s_call0 rfl rfl rfl (w43 _ _ (by first | omega | (simp <;> omega) | (simp [view] <;> omega) | decide)) rfl ⟨rfl, rfl, rfl⟩) rfl (by first | exact trivial | exact ⟨rfl, trivial⟩ | exact ⟨rfl, rfl, trivial⟩) ?_ | refine d_run (s_call rfl rfl rfl rfl (w43 _ _ (by first | omega | (simp <;> omega) | (simp [view] <;> omega) | decide)) rfl ⟨rfl, rfl, rfl⟩) rfl (by first | exact trivial | exact ⟨rfl, trivial⟩ | exact ⟨rfl, rfl, trivial⟩) ?_
  refine d_op ?_
  first | refine d_run0 rfl rfl (s_eql16 rfl rfl ⟨rfl, rfl, rfl⟩) ?_ | refine d_run0 rfl rfl (s_eql rfl rfl ⟨rfl, rfl, rfl⟩) ?_ | refine d_runR rfl rfl rfl (s_eql16 rfl rfl ⟨rfl, rfl, rfl⟩) ?_ | refine d_runR rfl rfl rfl (s_eql rfl rfl ⟨rfl, rfl, rfl⟩) ?_ | refine d_runG rfl rfl rfl (s_eql16 rfl rfl ⟨rfl, rfl, rfl⟩) rfl ?_ | refine d_runG rfl rfl rfl (s_eql rfl rfl ⟨rfl, rfl, rfl⟩) rfl ?_ | refine d_run (s_eql16 rfl rfl ⟨rfl, rfl, rfl⟩) rfl (by first | exact trivial | exact ⟨rfl, trivial⟩ | exact ⟨rfl, rfl, trivial⟩) ?_ | refine d_run (s_eql rfl rfl ⟨rfl, rfl, rfl⟩) rfl (by first | exact trivial | exact ⟨rfl, trivial⟩ | exact ⟨rfl, rfl, trivial⟩) ?_
  refine d_op ?_
  refine d_run0 rfl rfl (s_move rfl ⟨rfl, rfl, rfl⟩) ?_
  refine d_if rfl rfl (fun g1 => ?_) (fun g1 => ?_)
  ·
    have g1' := g1
    try simp only [decide_eq_true_eq, decide_eq_false_iff_not, Bool.not_eq_true', Bool.not_eq_false', Bool.not_true, Bool.not_false, Int.not_lt, Int.not_le] at g1'
    refine d_run0 rfl rfl (s_move rfl ⟨rfl, rfl, rfl⟩) ?_
    refine d_if rfl rfl (fun _ => ?_) (fun e => absurd (e.symm.trans g1) (by decide))
    first | refine d_run0 rfl rfl (s_call0 rfl rfl rfl (w27 _ _ (by first | omega | (simp <;> omega) | (simp [view] <;> omega) | decide)) rfl ⟨rfl, rfl, rfl⟩) ?_ | refine d_run0 rfl rfl (s_call rfl rfl rfl rfl (w27 _ _ (by first | omega | (simp <;> omega) | (simp [view] <;> omega) | decide)) rfl ⟨rfl, rfl, rfl⟩) ?_ | refine d_runG rfl rfl rfl (s_call0 rfl rfl rfl (w27 _ _ (by first | omega | (simp <;> omega) | (simp [view] <;> omega) | decide)) rfl ⟨rfl, rfl, rfl⟩) rfl ?_ | refine d_runG rfl rfl rfl (s_call rfl rfl rfl rfl (w27 _ _ (by first | omega | (simp <;> omega) | (simp [view] <;> omega) | decide)) rfl ⟨rfl, rfl, rfl⟩) rfl ?_ | refine d_run (s_call0 rfl rfl rfl (w27 _ _ (by first | omega | (simp <;> omega) | (simp [view] <;> omega) | decide)) rfl ⟨rfl, rfl, rfl⟩) rfl (by first | exact trivial | exact ⟨rfl, trivial⟩ | exact ⟨rfl, rfl, trivial⟩) ?_ | refine d_run (s_call rfl rfl rfl rfl (w27 _ _ (by first | omega | (simp <;> omega) | (simp [view] <;> omega) | decide)) rfl ⟨rfl, rfl, rfl⟩) rfl (by first | exact trivial | exact ⟨rfl, trivial⟩ | exact ⟨rfl, rfl, trivial⟩) ?_
    refine d_if rfl rfl (fun _ => ?_) (fun e => absurd (e.symm.trans g1) (by decide))
    first | refine d_run0 rfl rfl (s_textU tab_23 tab_9 rfl tab_5 rfl rfl (by first | exact holdsU_sl rfl | exact holdsU_nil rfl | exact holdsU_ref rfl rfl) ⟨rfl, rfl, rfl⟩) ?_ | refine d_run0 rfl rfl (s_text tab_23 tab_9 rfl tab_5 rfl rfl (by first | exact holds_sl rfl | exact holds_nil rfl | exact holds_ref rfl rfl rfl) ⟨rfl, rfl, rfl⟩) ?_ | refine d_runR rfl rfl rfl (s_textU tab_23 tab_9 rfl tab_5 rfl rfl (by first | exact holdsU_sl rfl | exact holdsU_nil rfl | exact holdsU_ref rfl rfl) ⟨rfl, rfl, rfl⟩) ?_ | refine d_runR rfl rfl rfl (s_text tab_23 tab_9 rfl tab_5 rfl rfl (by first | exact holds_sl rfl | exact holds_nil rfl | exact holds_ref rfl rfl rfl) ⟨rfl, rfl, rfl⟩) ?_ | refine d_runG rfl rfl rfl (s_textU tab_23 tab_9 rfl tab_5 rfl rfl (by first | exact holdsU_sl rfl | exact holdsU_nil rfl | exact holdsU_ref rfl rfl) ⟨rfl, rfl, rfl⟩) rfl ?_ | refine d_runG rfl rfl rfl (s_text tab_23 tab_9 rfl tab_5 rfl rfl (by first | exact holds_sl rfl | exact holds_nil rfl | exact holds_ref rfl rfl rfl) ⟨rfl, rfl, rfl⟩) rfl ?_ | refine d_run (s_textU tab_23 tab_9 rfl tab_5 rfl rfl (by first | exact holdsU_sl rfl | exact holdsU_nil rfl | exact holdsU_ref rfl rfl) ⟨rfl, rfl, rfl⟩) rfl (by first | exact trivial | exact ⟨rfl, trivial⟩ | exact ⟨rfl, rfl, trivial⟩) ?_ | refine d_run (s_text tab_23 tab_9 rfl tab_5 rfl rfl (by first | exact holds_sl rfl | exact holds_nil rfl | exact holds_ref rfl rfl rfl) ⟨rfl, rfl, rfl⟩) rfl (by first | exact trivial | exact ⟨rfl, trivial⟩ | exact ⟨rfl, rfl, trivial⟩) ?_
    refine d_if rfl rfl (fun _ => ?_) (fun e => absurd (e.symm.trans g1) (by decide))
    refine d_run0 rfl rfl (s_move rfl ⟨rfl, rfl, rfl⟩) ?_
    refine d_if rfl rfl (fun _ => ?_) (fun e => absurd (e.symm.trans g1) (by decide))
    first | refine d_run0 rfl rfl (s_call0 rfl rfl rfl (w25 _ _ (by first | omega | (simp <;> omega) | (simp [view] <;> omega) | decide)) rfl ⟨rfl, rfl, rfl⟩) ?_ | refine d_run0 rfl rfl (s_call rfl rfl rfl rfl (w25 _ _ (by first | omega | (simp <;> omega) | (simp [view] <;> omega) | decide)) rfl ⟨rfl, rfl, rfl⟩) ?_ | refine d_runG rfl rfl rfl (s_call0 rfl rfl rfl (w25 _ _ (by first | omega | (simp <;> omega) | (simp [view] <;> omega) | decide)) rfl ⟨rfl, rfl, rfl⟩) rfl ?_ | refine d_runG rfl rfl rfl (s_call rfl rfl rfl rfl (w25 _ _ (by first | omega | (simp <;> omega) | (simp [view] <;> omega) | decide)) rfl ⟨rfl, rfl, rfl⟩) rfl ?_ | refine d_run (s_call0 rfl rfl rfl (w25 _ _ (by first | omega | (simp <;> omega) | (simp [view] <;> omega) | decide)) rfl ⟨rfl, rfl, rfl⟩) rfl (by first | exact trivial | exact ⟨rfl, trivial⟩ | exact ⟨rfl, rfl, trivial⟩) ?_ | refine d_run (s_call rfl rfl rfl rfl (w25 _ _ (by first | omega | (simp <;> omega) | (simp [view] <;> omega) | decide)) rfl ⟨rfl, rfl, rfl⟩) rfl (by first | exact trivial | exact ⟨rfl, trivial⟩ | exact ⟨rfl, rfl, trivial⟩) ?_
    refine d_if rfl rfl (fun _ => ?_) (fun e => absurd (e.symm.trans g1) (by decide))
    first | refine d_run0 rfl rfl (s_textU tab_23 tab_9 rfl tab_5 rfl rfl (by first | exact holdsU_sl rfl | exact holdsU_nil rfl | exact holdsU_ref rfl rfl) ⟨rfl, rfl, rfl⟩) ?_ | refine d_run0 rfl rfl (s_text tab_23 tab_9 rfl tab_5 rfl rfl (by first | exact holds_sl rfl | exact holds_nil rfl | exact holds_ref rfl rfl rfl) ⟨rfl, rfl, rfl⟩) ?_ | refine d_runR rfl rfl rfl (s_textU tab_23 tab_9 rfl tab_5 rfl rfl (by first | exact holdsU_sl rfl | exact holdsU_nil rfl | exact holdsU_ref rfl rfl) ⟨rfl, rfl, rfl⟩) ?_ | refine d_runR rfl rfl rfl (s_text tab_23 tab_9 rfl tab_5 rfl rfl (by first | exact holds_sl rfl | exact holds_nil rfl | exact holds_ref rfl rfl rfl) ⟨rfl, rfl, rfl⟩) ?_ | refine d_runG rfl rfl rfl (s_textU tab_23 tab_9 rfl tab_5 rfl rfl (by first | exact holdsU_sl rfl | exact holdsU_nil rfl | exact holdsU_ref rfl rfl) ⟨rfl, rfl, rfl⟩) rfl ?_ | refine d_runG rfl rfl rfl (s_text tab_23 tab_9 rfl tab_5 rfl rfl (by first | exact holds_sl rfl | exact holds_nil rfl | exact holds_ref rfl rfl rfl) ⟨rfl, rfl, rfl⟩) rfl ?_ | refine d_run (s_textU tab_23 tab_9 rfl tab_5 rfl rfl (by first | exact holdsU_sl rfl | exact holdsU_nil rfl | exact holdsU_ref rfl rfl) ⟨rfl, rfl, rfl⟩) rfl (by first | exact trivial | exact ⟨rfl, trivial⟩ | exact ⟨rfl, rfl, trivial⟩) ?_ | refine d_run (s_text tab_23 tab_9 rfl tab_5 rfl rfl (by first | exact holds_sl rfl | exact holds_nil rfl | exact holds_ref rfl rfl rfl) ⟨rfl, rfl, rfl⟩) rfl (by first | exact trivial | exact ⟨rfl, trivial⟩ | exact ⟨rfl, rfl, trivial⟩) ?_
    refine d_if rfl rfl (fun _ => ?_) (fun e => absurd (e.symm.trans g1) (by decide))
    first | refine d_run0 rfl rfl (s_eqtext rfl rfl ⟨rfl, rfl, rfl⟩) ?_ | refine d_run0 rfl rfl (s_eqstr rfl rfl ⟨rfl, rfl, rfl⟩) ?_ | refine d_runR rfl rfl rfl (s_eqtext rfl rfl ⟨rfl, rfl, rfl⟩) ?_ | refine d_runR rfl rfl rfl (s_eqstr rfl rfl ⟨rfl, rfl, rfl⟩) ?_ | refine d_runG rfl rfl rfl (s_eqtext rfl rfl ⟨rfl, rfl, rfl⟩) rfl ?_ | refine d_runG rfl rfl rfl (s_eqstr rfl rfl ⟨rfl, rfl, rfl⟩) rfl ?_ | refine d_run (s_eqtext rfl rfl ⟨rfl, rfl, rfl⟩) rfl (by first | exact trivial | exact ⟨rfl, trivial⟩ | exact ⟨rfl, rfl, trivial⟩) ?_ | refine d_run (s_eqstr rfl rfl ⟨rfl, rfl, rfl⟩) rfl (by first | exact trivial | exact ⟨rfl, trivial⟩ | exact ⟨rfl, rfl, trivial⟩) ?_
    refine d_op ?_
    refine d_run0 rfl rfl (s_pick_t rfl g1 rfl ⟨rfl, rfl, rfl⟩) ?_
    refine d_op ?_
    refine d_run0 rfl rfl (s_move rfl ⟨rfl, rfl, rfl⟩) ?_
    refine d_if rfl rfl (fun g2 => ?_) (fun g2 => ?_)
    ·
      have g2' := g2
      try simp only [decide_eq_true_eq, decide_eq_false_iff_not, Bool.not_eq_true', Bool.not_eq_false', Bool.not_true, Bool.not_false, Int.not_lt, Int.not_le] at g2'
      refine d_run0 rfl rfl (s_move rfl ⟨rfl, rfl, rfl⟩) ?_
      refine d_if rfl rfl (fun _ => ?_) (fun e => absurd (e.symm.trans g2) (by decide))
      first | refine d_run0 rfl rfl (s_textU tab_23 tab_9 rfl tab_5 rfl rfl (by first | exact holdsU_sl rfl | exact holdsU_nil rfl | exact holdsU_ref rfl rfl) ⟨rfl, rfl, rfl⟩) ?_ | refine d_run0 rfl rfl (s_text tab_23 tab_9 rfl tab_5 rfl rfl (by first | exact holds_sl rfl | exact holds_nil rfl | exact holds_ref rfl rfl rfl) ⟨rfl, rfl, rfl⟩) ?_ | refine d_runR rfl rfl rfl (s_textU tab_23 tab_9 rfl tab_5 rfl rfl (by first | exact holdsU_sl rfl | exact holdsU_nil rfl | exact holdsU_ref rfl rfl) ⟨rfl, rfl, rfl⟩) ?_ | refine d_runR rfl rfl rfl (s_text tab_23 tab_9 rfl tab_5 rfl rfl (by first | exact holds_sl rfl | exact holds_nil rfl | exact holds_ref rfl rfl rfl) ⟨rfl, rfl, rfl⟩) ?_ | refine d_runG rfl rfl rfl (s_textU tab_23 tab_9 rfl tab_5 rfl rfl (by first | exact holdsU_sl rfl | exact holdsU_nil rfl | exact holdsU_ref rfl rfl) ⟨rfl, rfl, rfl⟩) rfl ?_ | refine d_runG rfl rfl rfl (s_text tab_23 tab_9 rfl tab_5 rfl rfl (by first | exact holds_sl rfl | exact holds_nil rfl | exact holds_ref rfl rfl rfl) ⟨rfl, rfl, rfl⟩) rfl ?_ | refine d_run (s_textU tab_23 tab_9 rfl tab_5 rfl rfl (by first | exact holdsU_sl rfl | exact holdsU_nil rfl | exact holdsU_ref rfl rfl) ⟨rfl, rfl, rfl⟩) rfl (by first | exact trivial | exact ⟨rfl, trivial⟩ | exact ⟨rfl, rfl, trivial⟩) ?_ | refine d_run (s_text tab_23 tab_9 rfl tab_5 rfl rfl (by first | exact holds_sl rfl | exact holds_nil rfl | exact holds_ref rfl rfl rfl) ⟨rfl, rfl, rfl⟩) rfl (by first | exact trivial | exact ⟨rfl, trivial⟩ | exact ⟨rfl, rfl, trivial⟩) ?_
      refine d_if rfl rfl (fun _ => ?_) (fun e => absurd (e.symm.trans g2) (by decide))
      refine d_run0 rfl rfl (s_move rfl ⟨rfl, rfl, rfl⟩) ?_
      refine d_if rfl rfl (fun _ => ?_) (fun e => absurd (e.symm.trans g2) (by decide))
      first | refine d_run0 rfl rfl (s_textU tab_23 tab_9 rfl tab_5 rfl rfl (by first | exact holdsU_sl rfl | exact holdsU_nil rfl | exact holdsU_ref rfl rfl) ⟨rfl, rfl, rfl⟩) ?_ | refine d_run0 rfl rfl (s_text tab_23 tab_9 rfl tab_5 rfl rfl (by first | exact holds_sl rfl | exact holds_nil rfl | exact holds_ref rfl rfl rfl) ⟨rfl, rfl, rfl⟩) ?_ | refine d_runR rfl rfl rfl (s_textU tab_23 tab_9 rfl tab_5 rfl rfl (by first | exact holdsU_sl rfl | exact holdsU_nil rfl | exact holdsU_ref rfl rfl) ⟨rfl, rfl, rfl⟩) ?_ | refine d_runR rfl rfl rfl (s_text tab_23 tab_9 rfl tab_5 rfl rfl (by first | exact holds_sl rfl | exact holds_nil rfl | exact holds_ref rfl rfl rfl) ⟨rfl, rfl, rfl⟩) ?_ | refine d_runG rfl rfl rfl (s_textU tab_23 tab_9 rfl tab_5 rfl rfl (by first | exact holdsU_sl rfl | exact holdsU_nil rfl | exact holdsU_ref rfl rfl) ⟨rfl, rfl, rfl⟩) rfl ?_ | refine d_runG rfl rfl rfl (s_text tab_23 tab_9 rfl tab_5 rfl rfl (by first | exact holds_sl rfl | exact holds_nil rfl | exact holds_ref rfl rfl rfl) ⟨rfl, rfl, rfl⟩) rfl ?_ | refine d_run (s_textU tab_23 tab_9 rfl tab_5 rfl rfl (by first | exact holdsU_sl rfl | exact holdsU_nil rfl | exact holdsU_ref rfl rfl) ⟨rfl, rfl, rfl⟩) rfl (by first | exact trivial | exact ⟨rfl, trivial⟩ | exact ⟨rfl, rfl, trivial⟩) ?_ | refine d_run (s_text tab_23 tab_9 rfl tab_5 rfl rfl (by first | exact holds_sl rfl | exact holds_nil rfl | exact holds_ref rfl rfl rfl) ⟨rfl, rfl, rfl⟩) rfl (by first | exact trivial | exact ⟨rfl, trivial⟩ | exact ⟨rfl, rfl, trivial⟩) ?_
      refine d_if rfl rfl (fun _ => ?_) (fun e => absurd (e.symm.trans g2) (by decide))
      first | refine d_run0 rfl rfl (s_eqtext rfl rfl ⟨rfl, rfl, rfl⟩) ?_ | refine d_run0 rfl rfl (s_eqstr rfl rfl ⟨rfl, rfl, rfl⟩) ?_ | refine d_runR rfl rfl rfl (s_eqtext rfl rfl ⟨rfl, rfl, rfl⟩) ?_ | refine d_runR rfl rfl rfl (s_eqstr rfl rfl ⟨rfl, rfl, rfl⟩) ?_ | refine d_runG rfl rfl rfl (s_eqtext rfl rfl ⟨rfl, rfl, rfl⟩) rfl ?_ | refine d_runG rfl rfl rfl (s_eqstr rfl rfl ⟨rfl, rfl, rfl⟩) rfl ?_ | refine d_run (s_eqtext rfl rfl ⟨rfl, rfl, rfl⟩) rfl (by first | exact trivial | exact ⟨rfl, trivial⟩ | exact ⟨rfl, rfl, trivial⟩) ?_ | refine d_run (s_eqstr rfl rfl ⟨rfl, rfl, rfl⟩) rfl (by first | exact trivial | exact ⟨rfl, trivial⟩ | exact ⟨rfl, rfl, trivial⟩) ?_
      refine d_op ?_
      refine d_run0 rfl rfl (s_pick_t rfl g2 rfl ⟨rfl, rfl, rfl⟩) ?_
      refine d_op ?_
      refine d_run0 rfl rfl (s_move rfl ⟨rfl, rfl, rfl⟩) ?_
      refine d_if rfl rfl (fun g3 => ?_) (fun g3 => ?_)
      ·
        have g3' := g3
        try simp only [decide_eq_true_eq, decide_eq_false_iff_not, Bool.not_eq_true', Bool.not_eq_false', Bool.not_true, Bool.not_false, Int.not_lt, Int.not_le] at g3'
        refine d_run0 rfl rfl (s_move rfl ⟨rfl, rfl, rfl⟩) ?_
        refine d_if rfl rfl (fun _ => ?_) (fun e => absurd (e.symm.trans g3) (by decide))
        refine d_run0 rfl rfl (s_move rfl ⟨rfl, rfl, rfl⟩) ?_
        refine d_if rfl rfl (fun _ => ?_) (fun e => absurd (e.symm.trans g3) (by decide))
        first | refine d_run0 rfl rfl (s_eqbool tab_4 rfl rfl rfl ⟨rfl, rfl, rfl⟩) ?_ | refine d_runR rfl rfl rfl (s_eqbool tab_4 rfl rfl rfl ⟨rfl, rfl, rfl⟩) ?_ | refine d_runG rfl rfl rfl (s_eqbool tab_4 rfl rfl rfl ⟨rfl, rfl, rfl⟩) rfl ?_ | refine d_run (s_eqbool tab_4 rfl rfl rfl ⟨rfl, rfl, rfl⟩) rfl (by first | exact trivial | exact ⟨rfl, trivial⟩ | exact ⟨rfl, rfl, trivial⟩) ?_
        refine d_op ?_
        refine d_run0 rfl rfl (s_pick_t rfl g3 rfl ⟨rfl, rfl, rfl⟩) ?_
        refine d_op ?_
        refine d_run0 rfl rfl (s_assign rfl ⟨rfl, rfl, rfl⟩) ?_
        refine d_end ⟨by kernel_rfl, ?_⟩
        refine q_then ?_
        refine W_eq (s := 2) rfl (y := PV.f (.v (.bool true))) (by simp) ?_
        refine w_ret ?_
        exact fin_plain (ret_tmp rfl ret_nil) rfl rfl ⟨rfl, rfl, rfl⟩
      ·
        exact absurd g3 (by simp)
    ·
      exact absurd g2 (by simp)
  ·
    exact absurd g1 (by simp)

theorem w26 :
    T Try.prog 26 [] 0 [] (Ret (PV.f (.v (.bool true))) 0 []) := by
  refine t_fun tabOk (n := 43) (rs := [.tmp 0]) Try.func26 rfl rfl rfl rfl (Nat.le_of_ble_eq_true rfl) ?_
  intro c hnt hk
  refine w_seq ?_
  refine w_reg tabOk hnt ?_
  refine o_op rfl (s_assign rfl ?_)
  refine o_end ?_
  refine q_then ?_
  refine w_seq ?_
  refine w_reg tabOk hnt ?_
  refine o_op rfl (s_buildSliceU [97, 98] tab_23 rfl tab_5 rfl (by decide) rfl rfl ?_)
  refine o_op rfl (s_markU tab_23 rfl tab_5 rfl rfl rfl (List.cons_ne_nil _ _) ?_)
  first | refine o_op rfl (s_call0 rfl rfl rfl (w27 _ _ (by first | omega | (simp <;> omega) | (simp [view] <;> omega) | decide)) rfl ?_) | refine o_op rfl (s_call rfl rfl rfl rfl (w27 _ _ (by first | omega | (simp <;> omega) | (simp [view] <;> omega) | decide)) rfl ?_)
  first | refine o_op rfl (s_call0 rfl rfl rfl (w28 _ _ (by first | omega | (simp <;> omega) | (simp [view] <;> omega) | decide)) rfl ?_) | refine o_op rfl (s_call rfl rfl rfl rfl (w28 _ _ (by first | omega | (simp <;> omega) | (simp [view] <;> omega) | decide)) rfl ?_)
  refine o_op rfl (s_move rfl ?_)
  refine o_op rfl (s_extract rfl rfl ?_)
  refine o_op rfl (s_extract rfl rfl ?_)
  refine o_op rfl (s_assign rfl ?_)
  refine o_op rfl (s_assign rfl ?_)
  refine o_end ?_
  refine q_then ?_
  refine w_seq ?_
  refine w_reg tabOk hnt ?_
  first | refine o_op rfl (s_call0 rfl rfl rfl (T.le (w28 false [] (by simp)) rfl (by intro i x y hx hy; cases i with | zero => (cases hx; cases hy; exact le_nil 1 false) | succ i => simp at hx)) rfl ?_) | refine o_op rfl (s_call rfl rfl rfl rfl (T.le (w28 false [] (by simp)) rfl (by intro i x y hx hy; cases i with | zero => (cases hx; cases hy; exact le_nil 1 false) | succ i => simp at hx)) rfl ?_)
  refine o_op rfl (s_move rfl ?_)
  refine o_op rfl (s_extract rfl rfl ?_)
  refine o_op rfl (s_extract rfl rfl ?_)
  refine o_op rfl (s_assign rfl ?_)
  refine o_op rfl (s_assign rfl ?_)
  refine o_end ?_
  refine q_then ?_
  refine w_seq ?_
  refine w_reg tabOk hnt ?_
  first | refine o_op rfl (s_call0 rfl rfl rfl (T.le (w29 false [] (by simp)) rfl (by intro i x y hx hy; cases i with | zero => (cases hx; cases hy; exact le_nil 1 false) | succ i => simp at hx)) rfl ?_) | refine o_op rfl (s_call rfl rfl rfl rfl (T.le (w29 false [] (by simp)) rfl (by intro i x y hx hy; cases i with | zero => (cases hx; cases hy; exact le_nil 1 false) | succ i => simp at hx)) rfl ?_)
  first | refine o_op rfl (s_eql16 (b := 65535) rfl rfl ?_) | refine o_op rfl (s_eql rfl rfl ?_)
  refine o_op rfl (s_move rfl ?_)
  refine o_if rfl rfl rfl (fun g1 => ?_) (fun g1 => ?_)
  ·
    have g1' := g1
    try simp only [decide_eq_true_eq, decide_eq_false_iff_not, Bool.not_eq_true', Bool.not_eq_false', Bool.not_true, Bool.not_false, Int.not_lt, Int.not_le] at g1'
    refine o_op rfl (s_buildSliceU [49, 50, 51, 52, 53, 54, 55, 56, 57] tab_23 rfl tab_5 rfl (by decide) rfl rfl ?_)
    refine o_if rfl rfl rfl (fun _ => ?_) (fun e => absurd (e.symm.trans g1) (by decide))
    refine o_op rfl (s_markU tab_23 rfl tab_5 rfl rfl rfl (List.cons_ne_nil _ _) ?_)
    refine o_if rfl rfl rfl (fun _ => ?_) (fun e => absurd (e.symm.trans g1) (by decide))
    first | refine o_op rfl (s_call0 rfl rfl rfl (w29 _ _ (by first | omega | (simp <;> omega) | (simp [view] <;> omega) | decide)) rfl ?_) | refine o_op rfl (s_call rfl rfl rfl rfl (w29 _ _ (by first | omega | (simp <;> omega) | (simp [view] <;> omega) | decide)) rfl ?_)
    refine o_if rfl rfl rfl (fun _ => ?_) (fun e => absurd (e.symm.trans g1) (by decide))
    first | refine o_op rfl (s_eql16 (b := 19255) rfl rfl ?_) | refine o_op rfl (s_eql rfl rfl ?_)
    refine o_op rfl (s_pick_t rfl g1 rfl ?_)
    refine o_op rfl (s_move rfl ?_)
    refine o_if rfl rfl rfl (fun g2 => ?_) (fun g2 => ?_)
    ·
      have g2' := g2
      try simp only [decide_eq_true_eq, decide_eq_false_iff_not, Bool.not_eq_true', Bool.not_eq_false', Bool.not_true, Bool.not_false, Int.not_lt, Int.not_le] at g2'
      refine o_op rfl (s_move rfl ?_)
      refine o_op rfl (s_pick_t rfl g2 rfl ?_)
      refine o_op rfl (s_move rfl ?_)
      refine o_if rfl rfl rfl (fun g3 => ?_) (fun g3 => ?_)
      ·
        have g3' := g3
        try simp only [decide_eq_true_eq, decide_eq_false_iff_not, Bool.not_eq_true', Bool.not_eq_false', Bool.not_true, Bool.not_false, Int.not_lt, Int.not_le] at g3'
        refine o_op rfl (s_move rfl ?_)
        refine o_if rfl rfl rfl (fun _ => ?_) (fun e => absurd (e.symm.trans g3) (by decide))
        first | refine o_op rfl (s_textU tab_23 tab_9 rfl tab_5 rfl rfl (by first | exact holdsU_sl rfl | exact holdsU_nil rfl | exact holdsU_ref rfl rfl) ?_) | refine o_op rfl (s_text tab_23 tab_9 rfl tab_5 rfl rfl (by first | exact holds_sl rfl | exact holds_nil rfl | exact holds_ref rfl rfl rfl) ?_)
        refine o_if rfl rfl rfl (fun _ => ?_) (fun e => absurd (e.symm.trans g3) (by decide))
        first | refine o_op rfl (s_eqtext rfl rfl ?_) | refine o_op rfl (s_eqstr rfl rfl ?_)
        refine o_op rfl (s_pick_t rfl g3 rfl ?_)
        refine o_op rfl (s_move rfl ?_)
        refine o_if rfl rfl rfl (fun g4 => ?_) (fun g4 => ?_)
        ·
          have g4' := g4
          try simp only [decide_eq_true_eq, decide_eq_false_iff_not, Bool.not_eq_true', Bool.not_eq_false', Bool.not_true, Bool.not_false, Int.not_lt, Int.not_le] at g4'
          refine o_op rfl (s_move rfl ?_)
          refine o_if rfl rfl rfl (fun _ => ?_) (fun e => absurd (e.symm.trans g4) (by decide))
          refine o_op rfl (s_not rfl ?_)
          refine o_op rfl (s_pick_t rfl g4 rfl ?_)
          refine o_op rfl (s_move rfl ?_)
          refine o_if rfl rfl rfl (fun g5 => ?_) (fun g5 => ?_)
          ·
            have g5' := g5
            try simp only [decide_eq_true_eq, decide_eq_false_iff_not, Bool.not_eq_true', Bool.not_eq_false', Bool.not_true, Bool.not_false, Int.not_lt, Int.not_le] at g5'
            refine o_op rfl (s_buildSliceU [49, 50, 51, 52, 53, 54, 55, 56, 57] tab_23 rfl tab_5 rfl (by decide) rfl rfl ?_)
            refine o_if rfl rfl rfl (fun _ => ?_) (fun e => absurd (e.symm.trans g5) (by decide))
            refine o_op rfl (s_markU tab_23 rfl tab_5 rfl rfl rfl (List.cons_ne_nil _ _) ?_)
            refine o_if rfl rfl rfl (fun _ => ?_) (fun e => absurd (e.symm.trans g5) (by decide))
            first | refine o_op rfl (s_call0 rfl rfl rfl (w27 _ _ (by first | omega | (simp <;> omega) | (simp [view] <;> omega) | decide)) rfl ?_) | refine o_op rfl (s_call rfl rfl rfl rfl (w27 _ _ (by first | omega | (simp <;> omega) | (simp [view] <;> omega) | decide)) rfl ?_)
            refine o_if rfl rfl rfl (fun _ => ?_) (fun e => absurd (e.symm.trans g5) (by decide))
            first | refine o_op rfl (s_textU tab_23 tab_9 rfl tab_5 rfl rfl (by first | exact holdsU_sl rfl | exact holdsU_nil rfl | exact holdsU_ref rfl rfl) ?_) | refine o_op rfl (s_text tab_23 tab_9 rfl tab_5 rfl rfl (by first | exact holds_sl rfl | exact holds_nil rfl | exact holds_ref rfl rfl rfl) ?_)
            refine o_if rfl rfl rfl (fun _ => ?_) (fun e => absurd (e.symm.trans g5) (by decide))
            first | refine o_op rfl (s_eqtext rfl rfl ?_) | refine o_op rfl (s_eqstr rfl rfl ?_)
            refine o_op rfl (s_pick_t rfl g5 rfl ?_)
            refine o_op rfl (s_assign rfl ?_)
            refine o_end ?_
            refine q_then ?_
            refine W_eq (s := 0) rfl (y := PV.f (.v (.bool true))) (congrArg (fun b => PV.f (.v (.bool b))) (by decide +kernel)) ?_
            refine w_ret ?_
            exact fin_plain (ret_tmp rfl ret_nil) rfl rfl ⟨rfl, rfl, rfl⟩
          ·
            exact absurd g5 (by first | decide | decide +kernel)
        ·
          exact absurd g4 (by first | decide | decide +kernel)
      ·
        exact absurd g3 (by first | decide | decide +kernel)
    ·
      exact absurd g2 (by first | decide | decide +kernel)
  ·
    exact absurd g1 (by first | decide | decide +kernel)

end Go.Proofs.Yteedhlgdbankiaa
