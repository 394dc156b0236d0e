/- Walks: printed by a program of this session (wip/tools/walk.py). -/
import Derived.Test.YteedhlgdbankiaaWalkB
import Derived.Test.YteedhlgdbankiaaSpecM
set_option linter.unusedVariables false
set_option linter.unusedSimpArgs false
set_option maxRecDepth 10000
set_option maxHeartbeats 1000000
namespace Go.Proofs.Yteedhlgdbankiaa
open Go Go.Proofs.Yteedhlgdbankiaa.Pv

theorem w10 (cl dl : Bool) (l m : List UInt8) (hl : l.length ≤ 140737488351232) (hm : m.length ≤ 140737488351232):
    T Try.prog 10 [.f (.sl 1 cl (bytesU l)), .f (.sl 1 dl (bytesU m))] 0 [] (Ret (PV.f (.v (.bool true))) 0 []) := by
  refine t_fun tabOk (n := 53) (rs := [.tmp 4]) Try.func10 rfl rfl rfl rfl (Nat.le_of_ble_eq_true rfl) ?_
  intro c hnt hk
  refine w_seq ?_
  refine w_reg tabOk hnt ?_
  refine o_op rfl (s_assign rfl ?_)
  refine o_end ?_
  refine q_then ?_
  refine w_seq ?_
  refine w_reg tabOk hnt ?_
  refine o_op rfl (s_move rfl ?_)
  first | refine o_op rfl (s_lenU tab_23 rfl (by first | exact holdsU_sl rfl | exact holdsU_nil rfl | exact holdsU_ref rfl rfl) ?_) | refine o_op rfl (s_len tab_23 rfl (by first | exact holds_sl rfl | exact holds_nil rfl | exact holds_ref rfl rfl rfl) ?_)
  refine o_op rfl (s_move rfl ?_)
  first | refine o_op rfl (s_lenU tab_23 rfl (by first | exact holdsU_sl rfl | exact holdsU_nil rfl | exact holdsU_ref rfl rfl) ?_) | refine o_op rfl (s_len tab_23 rfl (by first | exact holds_sl rfl | exact holds_nil rfl | exact holds_ref rfl rfl rfl) ?_)
  refine o_op rfl (s_min rfl rfl rfl ?_)
  refine o_op rfl (s_assign rfl ?_)
  refine o_end ?_
  refine q_then ?_
  refine w_seq ?_
  obtain ⟨k, hkk⟩ : ∃ k : Nat, k = min l.length m.length := ⟨_, rfl⟩
  refine W_eq (s := 5) rfl (y := PV.f (.v (.int .i64 (k : Nat)))) (by simp only [List.foldl]; congr 3; omega) ?_
  refine W_drawn tabOk mixed hnt [[], [0], [], [2], [0, 1], [0, 1, 2, 3, 4]] (by kernel_rfl) ?_
  refine d_op ?_
  refine d_run0 rfl rfl (s_move rfl ⟨rfl, rfl, rfl⟩) ?_
  refine d_op ?_
  first | refine d_runG rfl rfl rfl (s_makeSliceU tab_one tab_23 rfl tab_5 ⟨rfl, rfl, rfl, rfl⟩ rfl rfl (by refine ⟨?_, ?_, ?_⟩ <;> omega) ⟨rfl, rfl, rfl⟩) rfl ?_ | refine d_runG rfl rfl rfl (s_makeSlice tab_one tab_23 rfl tab_5 (by decide) rfl rfl (by refine ⟨?_, ?_, ?_, ?_⟩ <;> omega) ⟨rfl, rfl, rfl⟩) rfl ?_ | refine d_run (s_makeSliceU tab_one tab_23 rfl tab_5 ⟨rfl, rfl, rfl, rfl⟩ rfl rfl (by refine ⟨?_, ?_, ?_⟩ <;> omega) ⟨rfl, rfl, rfl⟩) rfl (by first | exact trivial | exact ⟨rfl, trivial⟩ | exact ⟨rfl, rfl, trivial⟩) ?_ | refine d_run (s_makeSlice tab_one tab_23 rfl tab_5 (by decide) rfl rfl (by refine ⟨?_, ?_, ?_, ?_⟩ <;> omega) ⟨rfl, rfl, rfl⟩) rfl (by first | exact trivial | exact ⟨rfl, trivial⟩ | exact ⟨rfl, rfl, trivial⟩) ?_
  refine d_op ?_
  refine d_run0 rfl rfl (s_move rfl ⟨rfl, rfl, rfl⟩) ?_
  refine d_op ?_
  first | refine d_runG rfl rfl rfl (s_makeSliceU tab_one tab_23 rfl tab_5 ⟨rfl, rfl, rfl, rfl⟩ rfl rfl (by refine ⟨?_, ?_, ?_⟩ <;> omega) ⟨rfl, rfl, rfl⟩) rfl ?_ | refine d_runG rfl rfl rfl (s_makeSlice tab_one tab_23 rfl tab_5 (by decide) rfl rfl (by refine ⟨?_, ?_, ?_, ?_⟩ <;> omega) ⟨rfl, rfl, rfl⟩) rfl ?_ | refine d_run (s_makeSliceU tab_one tab_23 rfl tab_5 ⟨rfl, rfl, rfl, rfl⟩ rfl rfl (by refine ⟨?_, ?_, ?_⟩ <;> omega) ⟨rfl, rfl, rfl⟩) rfl (by first | exact trivial | exact ⟨rfl, trivial⟩ | exact ⟨rfl, rfl, trivial⟩) ?_ | refine d_run (s_makeSlice tab_one tab_23 rfl tab_5 (by decide) rfl rfl (by refine ⟨?_, ?_, ?_, ?_⟩ <;> omega) ⟨rfl, rfl, rfl⟩) rfl (by first | exact trivial | exact ⟨rfl, trivial⟩ | exact ⟨rfl, rfl, trivial⟩) ?_
  refine d_op ?_
  refine d_run0 rfl rfl (s_assign rfl ⟨rfl, rfl, rfl⟩) ?_
  refine d_op ?_
  refine d_run0 rfl rfl (s_assign rfl ⟨rfl, rfl, rfl⟩) ?_
  refine d_end ⟨by kernel_rfl, ?_⟩
  refine q_then ?_
  refine w_seq ?_
  refine w_seq ?_
  refine w_reg tabOk hnt ?_
  refine o_op rfl (s_assign rfl ?_)
  refine o_end ?_
  refine q_then ?_
  refine w_block ?_
  refine w_loop (α := Nat) (fun i => i ≤ k) (fun i => [(0, .f (.sl 1 cl (bytesU l))), (1, .f (.sl 1 dl (bytesU m))), (5, PV.f (.v (.int .i64 (k : Nat)))), (6, .ref 0 0 none), (7, .ref 1 0 none), (8, PV.f (.v (.int .i64 (i : Nat))))]) (fun _ => 2) (fun i => [(0, Obj.buf true 1 (bytesU (mixT l m k i))), (1, Obj.buf true 1 (bytesU (List.replicate k 0)))]) (fun i => k - i) 0 ?_ ?_ ?_
  · exact Nat.zero_le _
  · exact ⟨[(0, 0), (1, 1)], by rw [hk]; decide, ⟨⟨_, rfl, rfl, rfl⟩, ⟨_, rfl, rfl, rfl⟩, ⟨_, rfl, rfl, rfl⟩, ⟨_, rfl, rfl, rfl⟩, ⟨_, rfl, rfl, rfl⟩, ⟨_, rfl, rfl, rfl⟩, trivial⟩, ⟨⟨_, _, rfl, rfl, rfl, by rw [mixT_zero]; rfl⟩, ⟨_, _, rfl, rfl, rfl, rfl⟩, trivial⟩, by rw [hk]; decide⟩
  ·
    intro i hi
    have hlen := mixT_length l m hi (by omega) (by omega)
    refine w_seq ?_
    refine w_seq ?_
    refine w_reg tabOk hnt ?_
    refine o_op rfl (s_move rfl ?_)
    refine o_op rfl (s_move rfl ?_)
    refine o_op rfl (s_lss rfl rfl ?_)
    refine o_end ?_
    refine q_then ?_
    refine w_if rfl (fun c1 => ?_) (fun c1 => ?_)
    ·
      have c1_ := c1
      try simp only [decide_eq_true_eq, decide_eq_false_iff_not, Bool.not_eq_true', Bool.not_eq_false', Int.not_lt, Int.not_le] at c1
      have hil : i < (mixT l m k i).length := by omega
      obtain ⟨a, ha⟩ : ∃ a, l[i]? = some a := ⟨l[i]'(by omega), by simp⟩
      obtain ⟨b, hb⟩ : ∃ b, m[i]? = some b := ⟨m[i]'(by omega), by simp⟩
      refine w_skip ?_
      refine q_then ?_
      refine w_seq ?_
      refine w_block ?_
      refine W_drawn tabOk mixed hnt [[], [], [], [], [2, 3], [2, 3, 4], [], [], [6, 7], [6, 7, 8], [2, 3, 4, 5, 6, 7, 8, 9], [0, 1, 2, 3, 4, 5, 6, 7, 8, 9, 10], [0, 1, 2, 3, 4, 5, 6, 7, 8, 9, 10, 11]] (by kernel_rfl) ?_
      refine d_op ?_
      refine d_run0 rfl rfl (s_move rfl ⟨rfl, rfl, rfl⟩) ?_
      refine d_op ?_
      refine d_run0 rfl rfl (s_move rfl ⟨rfl, rfl, rfl⟩) ?_
      refine d_op ?_
      refine d_run0 rfl rfl (s_move rfl ⟨rfl, rfl, rfl⟩) ?_
      refine d_op ?_
      refine d_run0 rfl rfl (s_move rfl ⟨rfl, rfl, rfl⟩) ?_
      refine d_op ?_
      first | refine d_run0 rfl rfl (s_ia_U tab_23 rfl tab_5 rfl rfl rfl (by omega) (by assumption) ⟨rfl, rfl, rfl⟩) ?_ | refine d_run0 rfl rfl (s_ia_refU0 tab_23 rfl tab_5 rfl rfl rfl rfl (by omega) (by first | assumption | omega | (simp [view]; omega)) ⟨rfl, rfl, rfl⟩) ?_ | refine d_run0 rfl rfl (s_ia_refU tab_23 rfl tab_5 rfl rfl rfl rfl (by omega) (by first | assumption | omega | (simp [view]; omega)) ⟨rfl, rfl, rfl⟩) ?_ | refine d_run0 rfl rfl (s_ia_sl tab_23 rfl tab_5 rfl rfl (by omega) (by first | rfl | assumption | (exact bytesU_get (by assumption))) ⟨rfl, rfl, rfl⟩) ?_ | refine d_run0 rfl rfl (s_ia_ref0 tab_23 rfl tab_5 rfl rfl rfl (by omega) (by first | assumption | (simp [view]; omega)) ⟨rfl, rfl, rfl⟩) ?_ | refine d_run0 rfl rfl (s_ia_ref tab_23 rfl tab_5 rfl rfl rfl (by omega) (by first | assumption | (simp; omega)) ⟨rfl, rfl, rfl⟩) ?_ | refine d_runR rfl rfl rfl (s_ia_U tab_23 rfl tab_5 rfl rfl rfl (by omega) (by assumption) ⟨rfl, rfl, rfl⟩) ?_ | refine d_runR rfl rfl rfl (s_ia_refU0 tab_23 rfl tab_5 rfl rfl rfl rfl (by omega) (by first | assumption | omega | (simp [view]; omega)) ⟨rfl, rfl, rfl⟩) ?_ | refine d_runR rfl rfl rfl (s_ia_refU tab_23 rfl tab_5 rfl rfl rfl rfl (by omega) (by first | assumption | omega | (simp [view]; omega)) ⟨rfl, rfl, rfl⟩) ?_ | refine d_runR rfl rfl rfl (s_ia_sl tab_23 rfl tab_5 rfl rfl (by omega) (by first | rfl | assumption | (exact bytesU_get (by assumption))) ⟨rfl, rfl, rfl⟩) ?_ | refine d_runR rfl rfl rfl (s_ia_ref0 tab_23 rfl tab_5 rfl rfl rfl (by omega) (by first | assumption | (simp [view]; omega)) ⟨rfl, rfl, rfl⟩) ?_ | refine d_runR rfl rfl rfl (s_ia_ref tab_23 rfl tab_5 rfl rfl rfl (by omega) (by first | assumption | (simp; omega)) ⟨rfl, rfl, rfl⟩) ?_ | refine d_runG rfl rfl rfl (s_ia_U tab_23 rfl tab_5 rfl rfl rfl (by omega) (by assumption) ⟨rfl, rfl, rfl⟩) rfl ?_ | refine d_runG rfl rfl rfl (s_ia_refU0 tab_23 rfl tab_5 rfl rfl rfl rfl (by omega) (by first | assumption | omega | (simp [view]; omega)) ⟨rfl, rfl, rfl⟩) rfl ?_ | refine d_runG rfl rfl rfl (s_ia_refU tab_23 rfl tab_5 rfl rfl rfl rfl (by omega) (by first | assumption | omega | (simp [view]; omega)) ⟨rfl, rfl, rfl⟩) rfl ?_ | refine d_runG rfl rfl rfl (s_ia_sl tab_23 rfl tab_5 rfl rfl (by omega) (by first | rfl | assumption | (exact bytesU_get (by assumption))) ⟨rfl, rfl, rfl⟩) rfl ?_ | refine d_runG rfl rfl rfl (s_ia_ref0 tab_23 rfl tab_5 rfl rfl rfl (by omega) (by first | assumption | (simp [view]; omega)) ⟨rfl, rfl, rfl⟩) rfl ?_ | refine d_runG rfl rfl rfl (s_ia_ref tab_23 rfl tab_5 rfl rfl rfl (by omega) (by first | assumption | (simp; omega)) ⟨rfl, rfl, rfl⟩) rfl ?_ | refine d_run (s_ia_U tab_23 rfl tab_5 rfl rfl rfl (by omega) (by assumption) ⟨rfl, rfl, rfl⟩) rfl (by first | exact trivial | exact ⟨rfl, trivial⟩ | exact ⟨rfl, rfl, trivial⟩) ?_ | refine d_run (s_ia_refU0 tab_23 rfl tab_5 rfl rfl rfl rfl (by omega) (by first | assumption | omega | (simp [view]; omega)) ⟨rfl, rfl, rfl⟩) rfl (by first | exact trivial | exact ⟨rfl, trivial⟩ | exact ⟨rfl, rfl, trivial⟩) ?_ | refine d_run (s_ia_refU tab_23 rfl tab_5 rfl rfl rfl rfl (by omega) (by first | assumption | omega | (simp [view]; omega)) ⟨rfl, rfl, rfl⟩) rfl (by first | exact trivial | exact ⟨rfl, trivial⟩ | exact ⟨rfl, rfl, trivial⟩) ?_ | refine d_run (s_ia_sl tab_23 rfl tab_5 rfl rfl (by omega) (by first | rfl | assumption | (exact bytesU_get (by assumption))) ⟨rfl, rfl, rfl⟩) rfl (by first | exact trivial | exact ⟨rfl, trivial⟩ | exact ⟨rfl, rfl, trivial⟩) ?_ | refine d_run (s_ia_ref0 tab_23 rfl tab_5 rfl rfl rfl (by omega) (by first | assumption | (simp [view]; omega)) ⟨rfl, rfl, rfl⟩) rfl (by first | exact trivial | exact ⟨rfl, trivial⟩ | exact ⟨rfl, rfl, trivial⟩) ?_ | refine d_run (s_ia_ref tab_23 rfl tab_5 rfl rfl rfl (by omega) (by first | assumption | (simp; omega)) ⟨rfl, rfl, rfl⟩) rfl (by first | exact trivial | exact ⟨rfl, trivial⟩ | exact ⟨rfl, rfl, trivial⟩) ?_
      refine d_op ?_
      first | refine d_run0 rfl rfl (s_load_epU tab_5 rfl rfl rfl rfl (by assumption) ⟨rfl, rfl, rfl⟩) ?_ | refine d_run0 rfl rfl (s_load_ptr1 tab_5 rfl rfl rfl rfl rfl ⟨rfl, rfl, rfl⟩) ?_ | refine d_run0 rfl rfl (s_load_ro1 tab_5 rfl rfl rfl rfl ⟨rfl, rfl, rfl⟩) ?_ | refine d_run0 rfl rfl (s_load_ep1 tab_5 rfl rfl rfl rfl (by first | rfl | assumption) rfl ⟨rfl, rfl, rfl⟩) ?_ | refine d_runR rfl rfl rfl (s_load_epU tab_5 rfl rfl rfl rfl (by assumption) ⟨rfl, rfl, rfl⟩) ?_ | refine d_runR rfl rfl rfl (s_load_ptr1 tab_5 rfl rfl rfl rfl rfl ⟨rfl, rfl, rfl⟩) ?_ | refine d_runR rfl rfl rfl (s_load_ro1 tab_5 rfl rfl rfl rfl ⟨rfl, rfl, rfl⟩) ?_ | refine d_runR rfl rfl rfl (s_load_ep1 tab_5 rfl rfl rfl rfl (by first | rfl | assumption) rfl ⟨rfl, rfl, rfl⟩) ?_ | refine d_runG rfl rfl rfl (s_load_epU tab_5 rfl rfl rfl rfl (by assumption) ⟨rfl, rfl, rfl⟩) rfl ?_ | refine d_runG rfl rfl rfl (s_load_ptr1 tab_5 rfl rfl rfl rfl rfl ⟨rfl, rfl, rfl⟩) rfl ?_ | refine d_runG rfl rfl rfl (s_load_ro1 tab_5 rfl rfl rfl rfl ⟨rfl, rfl, rfl⟩) rfl ?_ | refine d_runG rfl rfl rfl (s_load_ep1 tab_5 rfl rfl rfl rfl (by first | rfl | assumption) rfl ⟨rfl, rfl, rfl⟩) rfl ?_ | refine d_run (s_load_epU tab_5 rfl rfl rfl rfl (by assumption) ⟨rfl, rfl, rfl⟩) rfl (by first | exact trivial | exact ⟨rfl, trivial⟩ | exact ⟨rfl, rfl, trivial⟩) ?_ | refine d_run (s_load_ptr1 tab_5 rfl rfl rfl rfl rfl ⟨rfl, rfl, rfl⟩) rfl (by first | exact trivial | exact ⟨rfl, trivial⟩ | exact ⟨rfl, rfl, trivial⟩) ?_ | refine d_run (s_load_ro1 tab_5 rfl rfl rfl rfl ⟨rfl, rfl, rfl⟩) rfl (by first | exact trivial | exact ⟨rfl, trivial⟩ | exact ⟨rfl, rfl, trivial⟩) ?_ | refine d_run (s_load_ep1 tab_5 rfl rfl rfl rfl (by first | rfl | assumption) rfl ⟨rfl, rfl, rfl⟩) rfl (by first | exact trivial | exact ⟨rfl, trivial⟩ | exact ⟨rfl, rfl, trivial⟩) ?_
      refine d_op ?_
      refine d_run0 rfl rfl (s_move rfl ⟨rfl, rfl, rfl⟩) ?_
      refine d_op ?_
      refine d_run0 rfl rfl (s_move rfl ⟨rfl, rfl, rfl⟩) ?_
      refine d_op ?_
      first | refine d_run0 rfl rfl (s_ia_U tab_23 rfl tab_5 rfl rfl rfl (by omega) (by assumption) ⟨rfl, rfl, rfl⟩) ?_ | refine d_run0 rfl rfl (s_ia_refU0 tab_23 rfl tab_5 rfl rfl rfl rfl (by omega) (by first | assumption | omega | (simp [view]; omega)) ⟨rfl, rfl, rfl⟩) ?_ | refine d_run0 rfl rfl (s_ia_refU tab_23 rfl tab_5 rfl rfl rfl rfl (by omega) (by first | assumption | omega | (simp [view]; omega)) ⟨rfl, rfl, rfl⟩) ?_ | refine d_run0 rfl rfl (s_ia_sl tab_23 rfl tab_5 rfl rfl (by omega) (by first | rfl | assumption | (exact bytesU_get (by assumption))) ⟨rfl, rfl, rfl⟩) ?_ | refine d_run0 rfl rfl (s_ia_ref0 tab_23 rfl tab_5 rfl rfl rfl (by omega) (by first | assumption | (simp [view]; omega)) ⟨rfl, rfl, rfl⟩) ?_ | refine d_run0 rfl rfl (s_ia_ref tab_23 rfl tab_5 rfl rfl rfl (by omega) (by first | assumption | (simp; omega)) ⟨rfl, rfl, rfl⟩) ?_ | refine d_runR rfl rfl rfl (s_ia_U tab_23 rfl tab_5 rfl rfl rfl (by omega) (by assumption) ⟨rfl, rfl, rfl⟩) ?_ | refine d_runR rfl rfl rfl (s_ia_refU0 tab_23 rfl tab_5 rfl rfl rfl rfl (by omega) (by first | assumption | omega | (simp [view]; omega)) ⟨rfl, rfl, rfl⟩) ?_ | refine d_runR rfl rfl rfl (s_ia_refU tab_23 rfl tab_5 rfl rfl rfl rfl (by omega) (by first | assumption | omega | (simp [view]; omega)) ⟨rfl, rfl, rfl⟩) ?_ | refine d_runR rfl rfl rfl (s_ia_sl tab_23 rfl tab_5 rfl rfl (by omega) (by first | rfl | assumption | (exact bytesU_get (by assumption))) ⟨rfl, rfl, rfl⟩) ?_ | refine d_runR rfl rfl rfl (s_ia_ref0 tab_23 rfl tab_5 rfl rfl rfl (by omega) (by first | assumption | (simp [view]; omega)) ⟨rfl, rfl, rfl⟩) ?_ | refine d_runR rfl rfl rfl (s_ia_ref tab_23 rfl tab_5 rfl rfl rfl (by omega) (by first | assumption | (simp; omega)) ⟨rfl, rfl, rfl⟩) ?_ | refine d_runG rfl rfl rfl (s_ia_U tab_23 rfl tab_5 rfl rfl rfl (by omega) (by assumption) ⟨rfl, rfl, rfl⟩) rfl ?_ | refine d_runG rfl rfl rfl (s_ia_refU0 tab_23 rfl tab_5 rfl rfl rfl rfl (by omega) (by first | assumption | omega | (simp [view]; omega)) ⟨rfl, rfl, rfl⟩) rfl ?_ | refine d_runG rfl rfl rfl (s_ia_refU tab_23 rfl tab_5 rfl rfl rfl rfl (by omega) (by first | assumption | omega | (simp [view]; omega)) ⟨rfl, rfl, rfl⟩) rfl ?_ | refine d_runG rfl rfl rfl (s_ia_sl tab_23 rfl tab_5 rfl rfl (by omega) (by first | rfl | assumption | (exact bytesU_get (by assumption))) ⟨rfl, rfl, rfl⟩) rfl ?_ | refine d_runG rfl rfl rfl (s_ia_ref0 tab_23 rfl tab_5 rfl rfl rfl (by omega) (by first | assumption | (simp [view]; omega)) ⟨rfl, rfl, rfl⟩) rfl ?_ | refine d_runG rfl rfl rfl (s_ia_ref tab_23 rfl tab_5 rfl rfl rfl (by omega) (by first | assumption | (simp; omega)) ⟨rfl, rfl, rfl⟩) rfl ?_ | refine d_run (s_ia_U tab_23 rfl tab_5 rfl rfl rfl (by omega) (by assumption) ⟨rfl, rfl, rfl⟩) rfl (by first | exact trivial | exact ⟨rfl, trivial⟩ | exact ⟨rfl, rfl, trivial⟩) ?_ | refine d_run (s_ia_refU0 tab_23 rfl tab_5 rfl rfl rfl rfl (by omega) (by first | assumption | omega | (simp [view]; omega)) ⟨rfl, rfl, rfl⟩) rfl (by first | exact trivial | exact ⟨rfl, trivial⟩ | exact ⟨rfl, rfl, trivial⟩) ?_ | refine d_run (s_ia_refU tab_23 rfl tab_5 rfl rfl rfl rfl (by omega) (by first | assumption | omega | (simp [view]; omega)) ⟨rfl, rfl, rfl⟩) rfl (by first | exact trivial | exact ⟨rfl, trivial⟩ | exact ⟨rfl, rfl, trivial⟩) ?_ | refine d_run (s_ia_sl tab_23 rfl tab_5 rfl rfl (by omega) (by first | rfl | assumption | (exact bytesU_get (by assumption))) ⟨rfl, rfl, rfl⟩) rfl (by first | exact trivial | exact ⟨rfl, trivial⟩ | exact ⟨rfl, rfl, trivial⟩) ?_ | refine d_run (s_ia_ref0 tab_23 rfl tab_5 rfl rfl rfl (by omega) (by first | assumption | (simp [view]; omega)) ⟨rfl, rfl, rfl⟩) rfl (by first | exact trivial | exact ⟨rfl, trivial⟩ | exact ⟨rfl, rfl, trivial⟩) ?_ | refine d_run (s_ia_ref tab_23 rfl tab_5 rfl rfl rfl (by omega) (by first | assumption | (simp; omega)) ⟨rfl, rfl, rfl⟩) rfl (by first | exact trivial | exact ⟨rfl, trivial⟩ | exact ⟨rfl, rfl, trivial⟩) ?_
      refine d_op ?_
      first | refine d_run0 rfl rfl (s_load_epU tab_5 rfl rfl rfl rfl (by assumption) ⟨rfl, rfl, rfl⟩) ?_ | refine d_run0 rfl rfl (s_load_ptr1 tab_5 rfl rfl rfl rfl rfl ⟨rfl, rfl, rfl⟩) ?_ | refine d_run0 rfl rfl (s_load_ro1 tab_5 rfl rfl rfl rfl ⟨rfl, rfl, rfl⟩) ?_ | refine d_run0 rfl rfl (s_load_ep1 tab_5 rfl rfl rfl rfl (by first | rfl | assumption) rfl ⟨rfl, rfl, rfl⟩) ?_ | refine d_runR rfl rfl rfl (s_load_epU tab_5 rfl rfl rfl rfl (by assumption) ⟨rfl, rfl, rfl⟩) ?_ | refine d_runR rfl rfl rfl (s_load_ptr1 tab_5 rfl rfl rfl rfl rfl ⟨rfl, rfl, rfl⟩) ?_ | refine d_runR rfl rfl rfl (s_load_ro1 tab_5 rfl rfl rfl rfl ⟨rfl, rfl, rfl⟩) ?_ | refine d_runR rfl rfl rfl (s_load_ep1 tab_5 rfl rfl rfl rfl (by first | rfl | assumption) rfl ⟨rfl, rfl, rfl⟩) ?_ | refine d_runG rfl rfl rfl (s_load_epU tab_5 rfl rfl rfl rfl (by assumption) ⟨rfl, rfl, rfl⟩) rfl ?_ | refine d_runG rfl rfl rfl (s_load_ptr1 tab_5 rfl rfl rfl rfl rfl ⟨rfl, rfl, rfl⟩) rfl ?_ | refine d_runG rfl rfl rfl (s_load_ro1 tab_5 rfl rfl rfl rfl ⟨rfl, rfl, rfl⟩) rfl ?_ | refine d_runG rfl rfl rfl (s_load_ep1 tab_5 rfl rfl rfl rfl (by first | rfl | assumption) rfl ⟨rfl, rfl, rfl⟩) rfl ?_ | refine d_run (s_load_epU tab_5 rfl rfl rfl rfl (by assumption) ⟨rfl, rfl, rfl⟩) rfl (by first | exact trivial | exact ⟨rfl, trivial⟩ | exact ⟨rfl, rfl, trivial⟩) ?_ | refine d_run (s_load_ptr1 tab_5 rfl rfl rfl rfl rfl ⟨rfl, rfl, rfl⟩) rfl (by first | exact trivial | exact ⟨rfl, trivial⟩ | exact ⟨rfl, rfl, trivial⟩) ?_ | refine d_run (s_load_ro1 tab_5 rfl rfl rfl rfl ⟨rfl, rfl, rfl⟩) rfl (by first | exact trivial | exact ⟨rfl, trivial⟩ | exact ⟨rfl, rfl, trivial⟩) ?_ | refine d_run (s_load_ep1 tab_5 rfl rfl rfl rfl (by first | rfl | assumption) rfl ⟨rfl, rfl, rfl⟩) rfl (by first | exact trivial | exact ⟨rfl, trivial⟩ | exact ⟨rfl, rfl, trivial⟩) ?_
      refine d_op ?_
      first | refine d_run0 rfl rfl (s_xor8 rfl rfl ⟨rfl, rfl, rfl⟩) ?_ | refine d_run0 rfl rfl (s_xor rfl rfl ⟨rfl, rfl, rfl⟩) ?_ | refine d_runR rfl rfl rfl (s_xor8 rfl rfl ⟨rfl, rfl, rfl⟩) ?_ | refine d_runR rfl rfl rfl (s_xor rfl rfl ⟨rfl, rfl, rfl⟩) ?_ | refine d_runG rfl rfl rfl (s_xor8 rfl rfl ⟨rfl, rfl, rfl⟩) rfl ?_ | refine d_runG rfl rfl rfl (s_xor rfl rfl ⟨rfl, rfl, rfl⟩) rfl ?_ | refine d_run (s_xor8 rfl rfl ⟨rfl, rfl, rfl⟩) rfl (by first | exact trivial | exact ⟨rfl, trivial⟩ | exact ⟨rfl, rfl, trivial⟩) ?_ | refine d_run (s_xor rfl rfl ⟨rfl, rfl, rfl⟩) rfl (by first | exact trivial | exact ⟨rfl, trivial⟩ | exact ⟨rfl, rfl, trivial⟩) ?_
      refine d_op ?_
      first | refine d_run0 rfl rfl (s_ia_U tab_23 rfl tab_5 rfl rfl rfl (by omega) (by assumption) ⟨rfl, rfl, rfl⟩) ?_ | refine d_run0 rfl rfl (s_ia_refU0 tab_23 rfl tab_5 rfl rfl rfl rfl (by omega) (by first | assumption | omega | (simp [view]; omega)) ⟨rfl, rfl, rfl⟩) ?_ | refine d_run0 rfl rfl (s_ia_refU tab_23 rfl tab_5 rfl rfl rfl rfl (by omega) (by first | assumption | omega | (simp [view]; omega)) ⟨rfl, rfl, rfl⟩) ?_ | refine d_run0 rfl rfl (s_ia_sl tab_23 rfl tab_5 rfl rfl (by omega) (by first | rfl | assumption | (exact bytesU_get (by assumption))) ⟨rfl, rfl, rfl⟩) ?_ | refine d_run0 rfl rfl (s_ia_ref0 tab_23 rfl tab_5 rfl rfl rfl (by omega) (by first | assumption | (simp [view]; omega)) ⟨rfl, rfl, rfl⟩) ?_ | refine d_run0 rfl rfl (s_ia_ref tab_23 rfl tab_5 rfl rfl rfl (by omega) (by first | assumption | (simp; omega)) ⟨rfl, rfl, rfl⟩) ?_ | refine d_runR rfl rfl rfl (s_ia_U tab_23 rfl tab_5 rfl rfl rfl (by omega) (by assumption) ⟨rfl, rfl, rfl⟩) ?_ | refine d_runR rfl rfl rfl (s_ia_refU0 tab_23 rfl tab_5 rfl rfl rfl rfl (by omega) (by first | assumption | omega | (simp [view]; omega)) ⟨rfl, rfl, rfl⟩) ?_ | refine d_runR rfl rfl rfl (s_ia_refU tab_23 rfl tab_5 rfl rfl rfl rfl (by omega) (by first | assumption | omega | (simp [view]; omega)) ⟨rfl, rfl, rfl⟩) ?_ | refine d_runR rfl rfl rfl (s_ia_sl tab_23 rfl tab_5 rfl rfl (by omega) (by first | rfl | assumption | (exact bytesU_get (by assumption))) ⟨rfl, rfl, rfl⟩) ?_ | refine d_runR rfl rfl rfl (s_ia_ref0 tab_23 rfl tab_5 rfl rfl rfl (by omega) (by first | assumption | (simp [view]; omega)) ⟨rfl, rfl, rfl⟩) ?_ | refine d_runR rfl rfl rfl (s_ia_ref tab_23 rfl tab_5 rfl rfl rfl (by omega) (by first | assumption | (simp; omega)) ⟨rfl, rfl, rfl⟩) ?_ | refine d_runG rfl rfl rfl (s_ia_U tab_23 rfl tab_5 rfl rfl rfl (by omega) (by assumption) ⟨rfl, rfl, rfl⟩) rfl ?_ | refine d_runG rfl rfl rfl (s_ia_refU0 tab_23 rfl tab_5 rfl rfl rfl rfl (by omega) (by first | assumption | omega | (simp [view]; omega)) ⟨rfl, rfl, rfl⟩) rfl ?_ | refine d_runG rfl rfl rfl (s_ia_refU tab_23 rfl tab_5 rfl rfl rfl rfl (by omega) (by first | assumption | omega | (simp [view]; omega)) ⟨rfl, rfl, rfl⟩) rfl ?_ | refine d_runG rfl rfl rfl (s_ia_sl tab_23 rfl tab_5 rfl rfl (by omega) (by first | rfl | assumption | (exact bytesU_get (by assumption))) ⟨rfl, rfl, rfl⟩) rfl ?_ | refine d_runG rfl rfl rfl (s_ia_ref0 tab_23 rfl tab_5 rfl rfl rfl (by omega) (by first | assumption | (simp [view]; omega)) ⟨rfl, rfl, rfl⟩) rfl ?_ | refine d_runG rfl rfl rfl (s_ia_ref tab_23 rfl tab_5 rfl rfl rfl (by omega) (by first | assumption | (simp; omega)) ⟨rfl, rfl, rfl⟩) rfl ?_ | refine d_run (s_ia_U tab_23 rfl tab_5 rfl rfl rfl (by omega) (by assumption) ⟨rfl, rfl, rfl⟩) rfl (by first | exact trivial | exact ⟨rfl, trivial⟩ | exact ⟨rfl, rfl, trivial⟩) ?_ | refine d_run (s_ia_refU0 tab_23 rfl tab_5 rfl rfl rfl rfl (by omega) (by first | assumption | omega | (simp [view]; omega)) ⟨rfl, rfl, rfl⟩) rfl (by first | exact trivial | exact ⟨rfl, trivial⟩ | exact ⟨rfl, rfl, trivial⟩) ?_ | refine d_run (s_ia_refU tab_23 rfl tab_5 rfl rfl rfl rfl (by omega) (by first | assumption | omega | (simp [view]; omega)) ⟨rfl, rfl, rfl⟩) rfl (by first | exact trivial | exact ⟨rfl, trivial⟩ | exact ⟨rfl, rfl, trivial⟩) ?_ | refine d_run (s_ia_sl tab_23 rfl tab_5 rfl rfl (by omega) (by first | rfl | assumption | (exact bytesU_get (by assumption))) ⟨rfl, rfl, rfl⟩) rfl (by first | exact trivial | exact ⟨rfl, trivial⟩ | exact ⟨rfl, rfl, trivial⟩) ?_ | refine d_run (s_ia_ref0 tab_23 rfl tab_5 rfl rfl rfl (by omega) (by first | assumption | (simp [view]; omega)) ⟨rfl, rfl, rfl⟩) rfl (by first | exact trivial | exact ⟨rfl, trivial⟩ | exact ⟨rfl, rfl, trivial⟩) ?_ | refine d_run (s_ia_ref tab_23 rfl tab_5 rfl rfl rfl (by omega) (by first | assumption | (simp; omega)) ⟨rfl, rfl, rfl⟩) rfl (by first | exact trivial | exact ⟨rfl, trivial⟩ | exact ⟨rfl, rfl, trivial⟩) ?_
      refine d_op ?_
      first | refine d_runG rfl rfl rfl (s_storeU tab_5 rfl rfl rfl rfl (by first | assumption | omega) ⟨rfl, rfl, rfl⟩) rfl ?_ | refine d_runG rfl rfl rfl (s_store_ptr tab_5 rfl rfl rfl rfl rfl (Nat.le_of_ble_eq_true rfl) ⟨rfl, rfl, rfl⟩) rfl ?_ | refine d_runG rfl rfl rfl (s_store_ep tab_5 rfl rfl rfl rfl rfl (by first | rfl | assumption) (Nat.le_of_ble_eq_true rfl) rfl rfl (by simp) ⟨rfl, rfl, rfl⟩) rfl ?_ | refine d_run (s_storeU tab_5 rfl rfl rfl rfl (by first | assumption | omega) ⟨rfl, rfl, rfl⟩) rfl (by first | exact trivial | exact ⟨rfl, trivial⟩ | exact ⟨rfl, rfl, trivial⟩) ?_ | refine d_run (s_store_ptr tab_5 rfl rfl rfl rfl rfl (Nat.le_of_ble_eq_true rfl) ⟨rfl, rfl, rfl⟩) rfl (by first | exact trivial | exact ⟨rfl, trivial⟩ | exact ⟨rfl, rfl, trivial⟩) ?_ | refine d_run (s_store_ep tab_5 rfl rfl rfl rfl rfl (by first | rfl | assumption) (Nat.le_of_ble_eq_true rfl) rfl rfl (by simp) ⟨rfl, rfl, rfl⟩) rfl (by first | exact trivial | exact ⟨rfl, trivial⟩ | exact ⟨rfl, rfl, trivial⟩) ?_
      refine d_end ⟨by kernel_rfl, ?_⟩
      refine q_block ?_
      refine q_then ?_
      refine w_reg tabOk hnt ?_
      refine o_op rfl (s_move rfl ?_)
      first | refine o_op rfl (s_addi rfl rfl rfl (by omega) ?_) | refine o_op rfl (s_add rfl rfl ?_)
      refine o_op rfl (s_assign rfl ?_)
      refine o_end ?_
      refine q_then ?_
      refine ⟨i + 1, by omega, by omega, ?_⟩
      exact ⟨[(0, 0), (1, 1)], by rw [hk]; decide, ⟨⟨_, rfl, rfl, rfl⟩, ⟨_, rfl, rfl, rfl⟩, ⟨_, rfl, rfl, rfl⟩, ⟨_, rfl, rfl, rfl⟩, ⟨_, rfl, rfl, rfl⟩, ⟨_, rfl, rfl, rfl⟩, trivial⟩, ⟨⟨_, _, rfl, rfl, rfl, by rw [← mixT_set (by omega) ha hb]; rfl⟩, ⟨_, _, rfl, rfl, rfl, rfl⟩, trivial⟩, by rw [hk]; decide⟩
    ·
      have c1_ := c1
      try simp only [decide_eq_true_eq, decide_eq_false_iff_not, Bool.not_eq_true', Bool.not_eq_false', Int.not_lt, Int.not_le] at c1
      refine w_exit ?_
      refine q_then_exit ?_
      refine q_then_exit ?_
      refine q_block_exit ?_
      refine q_then ?_
      refine w_seq ?_
      obtain rfl : i = k := by omega
      refine W_drawn tabOk mixed hnt [[], [0], [], [], [2, 3], [0, 1, 2, 3, 4], [], [], [6, 7], [0, 1, 2, 3, 4, 5, 6, 7, 8], [0, 1, 2, 3, 4, 5, 6, 7, 8, 9], [], [0, 1, 2, 3, 4, 5, 6, 7, 8, 9, 11], [0, 1, 2, 3, 4, 5, 6, 7, 8, 9, 10, 11, 12], [0, 1, 2, 3, 4, 5, 6, 7, 8, 9, 10, 11, 12, 13], [0, 1, 2, 3, 4, 5, 6, 7, 8, 9, 10, 11, 12, 13, 14], [0, 1, 2, 3, 4, 5, 6, 7, 8, 9, 10, 11, 12, 13, 14, 15], [0, 1, 2, 3, 4, 5, 6, 7, 8, 9, 10, 11, 12, 13, 14, 15, 16], [0, 1, 2, 3, 4, 5, 6, 7, 8, 9, 10, 11, 12, 13, 14, 15, 16, 17]] (by kernel_rfl) ?_
      refine d_op ?_
      refine d_run0 rfl rfl (s_move rfl ⟨rfl, rfl, rfl⟩) ?_
      refine d_op ?_
      first | refine d_run0 rfl rfl (s_call0 rfl rfl rfl (w29 _ _ (by first | omega | (simp <;> omega) | (simp [view] <;> omega) | decide)) rfl ⟨rfl, rfl, rfl⟩) ?_ | refine d_run0 rfl rfl (s_call rfl rfl rfl rfl (w29 _ _ (by first | omega | (simp <;> omega) | (simp [view] <;> omega) | decide)) rfl ⟨rfl, rfl, rfl⟩) ?_ | refine d_runG rfl rfl rfl (s_call0 rfl rfl rfl (w29 _ _ (by first | omega | (simp <;> omega) | (simp [view] <;> omega) | decide)) rfl ⟨rfl, rfl, rfl⟩) rfl ?_ | refine d_runG rfl rfl rfl (s_call rfl rfl rfl rfl (w29 _ _ (by first | omega | (simp <;> omega) | (simp [view] <;> omega) | decide)) rfl ⟨rfl, rfl, rfl⟩) rfl ?_ | refine d_run (s_call0 rfl rfl rfl (w29 _ _ (by first | omega | (simp <;> omega) | (simp [view] <;> omega) | decide)) rfl ⟨rfl, rfl, rfl⟩) rfl (by first | exact trivial | exact ⟨rfl, trivial⟩ | exact ⟨rfl, rfl, trivial⟩) ?_ | refine d_run (s_call rfl rfl rfl rfl (w29 _ _ (by first | omega | (simp <;> omega) | (simp [view] <;> omega) | decide)) rfl ⟨rfl, rfl, rfl⟩) rfl (by first | exact trivial | exact ⟨rfl, trivial⟩ | exact ⟨rfl, rfl, trivial⟩) ?_
      refine d_op ?_
      refine d_run0 rfl rfl (s_move rfl ⟨rfl, rfl, rfl⟩) ?_
      refine d_op ?_
      refine d_run0 rfl rfl (s_move rfl ⟨rfl, rfl, rfl⟩) ?_
      refine d_op ?_
      first | refine d_run0 rfl rfl (s_slice_U (a := 0) (b := i) tab_23 rfl tab_5 rfl rfl bound_none (bound_some rfl rfl) (by omega) ⟨rfl, rfl, rfl⟩) ?_ | refine d_runR rfl rfl rfl (s_slice_U (a := 0) (b := i) tab_23 rfl tab_5 rfl rfl bound_none (bound_some rfl rfl) (by omega) ⟨rfl, rfl, rfl⟩) ?_ | refine d_runG rfl rfl rfl (s_slice_U (a := 0) (b := i) tab_23 rfl tab_5 rfl rfl bound_none (bound_some rfl rfl) (by omega) ⟨rfl, rfl, rfl⟩) rfl ?_ | refine d_run (s_slice_U (a := 0) (b := i) tab_23 rfl tab_5 rfl rfl bound_none (bound_some rfl rfl) (by omega) ⟨rfl, rfl, rfl⟩) rfl (by first | exact trivial | exact ⟨rfl, trivial⟩ | exact ⟨rfl, rfl, trivial⟩) ?_
      refine d_op ?_
      first | refine d_run0 rfl rfl (s_call0 rfl rfl rfl (w29 _ _ (by first | omega | (simp <;> omega) | (simp [view] <;> omega) | decide)) rfl ⟨rfl, rfl, rfl⟩) ?_ | refine d_run0 rfl rfl (s_call rfl rfl rfl rfl (w29 _ _ (by first | omega | (simp <;> omega) | (simp [view] <;> omega) | decide)) rfl ⟨rfl, rfl, rfl⟩) ?_ | refine d_runG rfl rfl rfl (s_call0 rfl rfl rfl (w29 _ _ (by first | omega | (simp <;> omega) | (simp [view] <;> omega) | decide)) rfl ⟨rfl, rfl, rfl⟩) rfl ?_ | refine d_runG rfl rfl rfl (s_call rfl rfl rfl rfl (w29 _ _ (by first | omega | (simp <;> omega) | (simp [view] <;> omega) | decide)) rfl ⟨rfl, rfl, rfl⟩) rfl ?_ | refine d_run (s_call0 rfl rfl rfl (w29 _ _ (by first | omega | (simp <;> omega) | (simp [view] <;> omega) | decide)) rfl ⟨rfl, rfl, rfl⟩) rfl (by first | exact trivial | exact ⟨rfl, trivial⟩ | exact ⟨rfl, rfl, trivial⟩) ?_ | refine d_run (s_call rfl rfl rfl rfl (w29 _ _ (by first | omega | (simp <;> omega) | (simp [view] <;> omega) | decide)) rfl ⟨rfl, rfl, rfl⟩) rfl (by first | exact trivial | exact ⟨rfl, trivial⟩ | exact ⟨rfl, rfl, trivial⟩) ?_
      refine d_op ?_
      refine d_run0 rfl rfl (s_move rfl ⟨rfl, rfl, rfl⟩) ?_
      refine d_op ?_
      refine d_run0 rfl rfl (s_move rfl ⟨rfl, rfl, rfl⟩) ?_
      refine d_op ?_
      first | refine d_run0 rfl rfl (s_slice_U (a := 0) (b := i) tab_23 rfl tab_5 rfl rfl bound_none (bound_some rfl rfl) (by omega) ⟨rfl, rfl, rfl⟩) ?_ | refine d_runR rfl rfl rfl (s_slice_U (a := 0) (b := i) tab_23 rfl tab_5 rfl rfl bound_none (bound_some rfl rfl) (by omega) ⟨rfl, rfl, rfl⟩) ?_ | refine d_runG rfl rfl rfl (s_slice_U (a := 0) (b := i) tab_23 rfl tab_5 rfl rfl bound_none (bound_some rfl rfl) (by omega) ⟨rfl, rfl, rfl⟩) rfl ?_ | refine d_run (s_slice_U (a := 0) (b := i) tab_23 rfl tab_5 rfl rfl bound_none (bound_some rfl rfl) (by omega) ⟨rfl, rfl, rfl⟩) rfl (by first | exact trivial | exact ⟨rfl, trivial⟩ | exact ⟨rfl, rfl, trivial⟩) ?_
      refine d_op ?_
      first | refine d_run0 rfl rfl (s_call0 rfl rfl rfl (w29 _ _ (by first | omega | (simp <;> omega) | (simp [view] <;> omega) | decide)) rfl ⟨rfl, rfl, rfl⟩) ?_ | refine d_run0 rfl rfl (s_call rfl rfl rfl rfl (w29 _ _ (by first | omega | (simp <;> omega) | (simp [view] <;> omega) | decide)) rfl ⟨rfl, rfl, rfl⟩) ?_ | refine d_runG rfl rfl rfl (s_call0 rfl rfl rfl (w29 _ _ (by first | omega | (simp <;> omega) | (simp [view] <;> omega) | decide)) rfl ⟨rfl, rfl, rfl⟩) rfl ?_ | refine d_runG rfl rfl rfl (s_call rfl rfl rfl rfl (w29 _ _ (by first | omega | (simp <;> omega) | (simp [view] <;> omega) | decide)) rfl ⟨rfl, rfl, rfl⟩) rfl ?_ | refine d_run (s_call0 rfl rfl rfl (w29 _ _ (by first | omega | (simp <;> omega) | (simp [view] <;> omega) | decide)) rfl ⟨rfl, rfl, rfl⟩) rfl (by first | exact trivial | exact ⟨rfl, trivial⟩ | exact ⟨rfl, rfl, trivial⟩) ?_ | refine d_run (s_call rfl rfl rfl rfl (w29 _ _ (by first | omega | (simp <;> omega) | (simp [view] <;> omega) | decide)) rfl ⟨rfl, rfl, rfl⟩) rfl (by first | exact trivial | exact ⟨rfl, trivial⟩ | exact ⟨rfl, rfl, trivial⟩) ?_
      refine d_op ?_
      first | refine d_run0 rfl rfl (s_xor16 rfl rfl ⟨rfl, rfl, rfl⟩) ?_ | refine d_run0 rfl rfl (s_xor rfl rfl ⟨rfl, rfl, rfl⟩) ?_ | refine d_runR rfl rfl rfl (s_xor16 rfl rfl ⟨rfl, rfl, rfl⟩) ?_ | refine d_runR rfl rfl rfl (s_xor rfl rfl ⟨rfl, rfl, rfl⟩) ?_ | refine d_runG rfl rfl rfl (s_xor16 rfl rfl ⟨rfl, rfl, rfl⟩) rfl ?_ | refine d_runG rfl rfl rfl (s_xor rfl rfl ⟨rfl, rfl, rfl⟩) rfl ?_ | refine d_run (s_xor16 rfl rfl ⟨rfl, rfl, rfl⟩) rfl (by first | exact trivial | exact ⟨rfl, trivial⟩ | exact ⟨rfl, rfl, trivial⟩) ?_ | refine d_run (s_xor rfl rfl ⟨rfl, rfl, rfl⟩) rfl (by first | exact trivial | exact ⟨rfl, trivial⟩ | exact ⟨rfl, rfl, trivial⟩) ?_
      refine d_op ?_
      refine d_run0 rfl rfl (s_move rfl ⟨rfl, rfl, rfl⟩) ?_
      refine d_op ?_
      first | refine d_run0 rfl rfl (s_call0 rfl rfl rfl (w29 _ _ (by first | omega | (simp <;> omega) | (simp [view] <;> omega) | decide)) rfl ⟨rfl, rfl, rfl⟩) ?_ | refine d_run0 rfl rfl (s_call rfl rfl rfl rfl (w29 _ _ (by first | omega | (simp <;> omega) | (simp [view] <;> omega) | decide)) rfl ⟨rfl, rfl, rfl⟩) ?_ | refine d_runG rfl rfl rfl (s_call0 rfl rfl rfl (w29 _ _ (by first | omega | (simp <;> omega) | (simp [view] <;> omega) | decide)) rfl ⟨rfl, rfl, rfl⟩) rfl ?_ | refine d_runG rfl rfl rfl (s_call rfl rfl rfl rfl (w29 _ _ (by first | omega | (simp <;> omega) | (simp [view] <;> omega) | decide)) rfl ⟨rfl, rfl, rfl⟩) rfl ?_ | refine d_run (s_call0 rfl rfl rfl (w29 _ _ (by first | omega | (simp <;> omega) | (simp [view] <;> omega) | decide)) rfl ⟨rfl, rfl, rfl⟩) rfl (by first | exact trivial | exact ⟨rfl, trivial⟩ | exact ⟨rfl, rfl, trivial⟩) ?_ | refine d_run (s_call rfl rfl rfl rfl (w29 _ _ (by first | omega | (simp <;> omega) | (simp [view] <;> omega) | decide)) rfl ⟨rfl, rfl, rfl⟩) rfl (by first | exact trivial | exact ⟨rfl, trivial⟩ | exact ⟨rfl, rfl, trivial⟩) ?_
      refine d_op ?_
      first | refine d_run0 rfl rfl (s_xor16 rfl rfl ⟨rfl, rfl, rfl⟩) ?_ | refine d_run0 rfl rfl (s_xor rfl rfl ⟨rfl, rfl, rfl⟩) ?_ | refine d_runR rfl rfl rfl (s_xor16 rfl rfl ⟨rfl, rfl, rfl⟩) ?_ | refine d_runR rfl rfl rfl (s_xor rfl rfl ⟨rfl, rfl, rfl⟩) ?_ | refine d_runG rfl rfl rfl (s_xor16 rfl rfl ⟨rfl, rfl, rfl⟩) rfl ?_ | refine d_runG rfl rfl rfl (s_xor rfl rfl ⟨rfl, rfl, rfl⟩) rfl ?_ | refine d_run (s_xor16 rfl rfl ⟨rfl, rfl, rfl⟩) rfl (by first | exact trivial | exact ⟨rfl, trivial⟩ | exact ⟨rfl, rfl, trivial⟩) ?_ | refine d_run (s_xor rfl rfl ⟨rfl, rfl, rfl⟩) rfl (by first | exact trivial | exact ⟨rfl, trivial⟩ | exact ⟨rfl, rfl, trivial⟩) ?_
      refine d_op ?_
      first | refine d_run0 rfl rfl (s_eql16 rfl rfl ⟨rfl, rfl, rfl⟩) ?_ | refine d_run0 rfl rfl (s_eql rfl rfl ⟨rfl, rfl, rfl⟩) ?_ | refine d_runR rfl rfl rfl (s_eql16 rfl rfl ⟨rfl, rfl, rfl⟩) ?_ | refine d_runR rfl rfl rfl (s_eql rfl rfl ⟨rfl, rfl, rfl⟩) ?_ | refine d_runG rfl rfl rfl (s_eql16 rfl rfl ⟨rfl, rfl, rfl⟩) rfl ?_ | refine d_runG rfl rfl rfl (s_eql rfl rfl ⟨rfl, rfl, rfl⟩) rfl ?_ | refine d_run (s_eql16 rfl rfl ⟨rfl, rfl, rfl⟩) rfl (by first | exact trivial | exact ⟨rfl, trivial⟩ | exact ⟨rfl, rfl, trivial⟩) ?_ | refine d_run (s_eql rfl rfl ⟨rfl, rfl, rfl⟩) rfl (by first | exact trivial | exact ⟨rfl, trivial⟩ | exact ⟨rfl, rfl, trivial⟩) ?_
      refine d_op ?_
      refine d_run0 rfl rfl (s_move rfl ⟨rfl, rfl, rfl⟩) ?_
      refine d_if rfl rfl (fun g1 => ?_) (fun g1 => ?_)
      ·
        have g1' := g1
        try simp only [decide_eq_true_eq, decide_eq_false_iff_not, Bool.not_eq_true', Bool.not_eq_false', Bool.not_true, Bool.not_false, Int.not_lt, Int.not_le] at g1'
        first | refine d_run0 rfl rfl (s_call0 rfl rfl rfl (w26) rfl ⟨rfl, rfl, rfl⟩) ?_ | refine d_run0 rfl rfl (s_call rfl rfl rfl rfl (w26) rfl ⟨rfl, rfl, rfl⟩) ?_ | refine d_runG rfl rfl rfl (s_call0 rfl rfl rfl (w26) rfl ⟨rfl, rfl, rfl⟩) rfl ?_ | refine d_runG rfl rfl rfl (s_call rfl rfl rfl rfl (w26) rfl ⟨rfl, rfl, rfl⟩) rfl ?_ | refine d_run (s_call0 rfl rfl rfl (w26) rfl ⟨rfl, rfl, rfl⟩) rfl (by first | exact trivial | exact ⟨rfl, trivial⟩ | exact ⟨rfl, rfl, trivial⟩) ?_ | refine d_run (s_call rfl rfl rfl rfl (w26) rfl ⟨rfl, rfl, rfl⟩) rfl (by first | exact trivial | exact ⟨rfl, trivial⟩ | exact ⟨rfl, rfl, trivial⟩) ?_
        refine d_op ?_
        refine d_run0 rfl rfl (s_pick_t rfl g1 rfl ⟨rfl, rfl, rfl⟩) ?_
        refine d_op ?_
        refine d_run0 rfl rfl (s_assign rfl ⟨rfl, rfl, rfl⟩) ?_
        refine d_end ⟨by kernel_rfl, ?_⟩
        refine q_then ?_
        refine W_eq (s := 4) rfl (y := PV.f (.v (.bool true))) rfl ?_
        refine w_ret ?_
        exact fin_plain (ret_tmp rfl ret_nil) rfl rfl ⟨rfl, rfl, rfl⟩
      ·
        exact absurd g1 (by intro h; exact absurd (h.symm.trans (decide_eq_true (crc_mixes l m (k := i) (by omega) (by omega)))) (by decide))

end Go.Proofs.Yteedhlgdbankiaa
