/- Walks: printed by a program of this session (wip/tools/walk2.py) out of its notes. -/
import Derived.Test.YteedhlgdbankiaaWBase
import Derived.Test.YteedhlgdbankiaaSpecS
set_option linter.unusedVariables false
set_option linter.unusedSimpArgs false
set_option maxRecDepth 10000
set_option maxHeartbeats 1000000
namespace Go.Proofs.Yteedhlgdbankiaa
open Go Go.Proofs.Yteedhlgdbankiaa.Pv

theorem w_span_Right (s : TSpan) (m : Int) (hm : m ≤ 9223372036854775807) :
    T Try.prog 49 [PV.f (eSpan s), pI m] 0 [] (Ret (pB (spRight s m)) 0 []) := by
  refine t_fun tabOk (n := 28) (rs := [.tmp 4]) Try.func49 rfl rfl rfl rfl (Nat.le_of_ble_eq_true rfl) ?_
  intro c hnt hk
  refine w_seq ?_
  refine w_R ?_
  refine r_op tabOk hnt rfl (s_box rfl rfl ?_) 
  refine r_op tabOk hnt rfl (s_assign rfl ?_) 
  refine r_set [(1, pI m), (2, PV.ptr 0 0)] [(0, .obj [pI s.at_, pI s.count])] 1 ⟨rfl, rfl, trivial⟩ rfl rfl ?_
  refine r_end ?_
  refine q_then ?_
  refine w_seq ?_
  refine w_R ?_
  refine r_op tabOk hnt rfl (s_fa_ptr tab_53 rfl rfl tab_3 (by decide) rfl ?_) 
  refine r_op tabOk hnt rfl (s_load_ptr1 tab_3 rfl rfl rfl rfl rfl ?_) 
  refine r_op tabOk hnt rfl (s_geq rfl rfl ?_) 
  refine r_op tabOk hnt rfl (s_move rfl ?_) 
  refine r_if tabOk hnt rfl rfl rfl (fun g1 => ?_) (fun g1 => ?_)
  ·
    have g1' := g1
    try simp only [decide_eq_true_eq, decide_eq_false_iff_not, Bool.not_eq_true', Bool.not_eq_false', Bool.not_true, Bool.not_false, Bool.not_eq_eq_eq_not, Int.not_lt, Int.not_le] at g1'
    refine r_op tabOk hnt rfl (s_fa_ptr tab_53 rfl rfl tab_3 (by decide) rfl ?_) 
    refine r_if tabOk hnt rfl rfl rfl (fun _ => ?_) (fun e => absurd (e.symm.trans g1) (by decide))
    refine r_op tabOk hnt rfl (s_load_ptr1 tab_3 rfl rfl rfl rfl rfl ?_) 
    refine r_if tabOk hnt rfl rfl rfl (fun _ => ?_) (fun e => absurd (e.symm.trans g1) (by decide))
    refine r_op tabOk hnt rfl (s_geq rfl rfl ?_) 
    refine r_op tabOk hnt rfl (s_pick_t rfl g1 rfl ?_) 
    refine r_op tabOk hnt rfl (s_move rfl ?_) 
    refine r_if tabOk hnt rfl rfl rfl (fun g2 => ?_) (fun g2 => ?_)
    ·
      have g2' := g2
      try simp only [decide_eq_true_eq, decide_eq_false_iff_not, Bool.not_eq_true', Bool.not_eq_false', Bool.not_true, Bool.not_false, Bool.not_eq_eq_eq_not, Int.not_lt, Int.not_le] at g2'
      refine r_op tabOk hnt rfl (s_fa_ptr tab_53 rfl rfl tab_3 (by decide) rfl ?_) 
      refine r_if tabOk hnt rfl rfl rfl (fun _ => ?_) (fun e => absurd (e.symm.trans g2) (by decide))
      refine r_op tabOk hnt rfl (s_load_ptr1 tab_3 rfl rfl rfl rfl rfl ?_) 
      refine r_if tabOk hnt rfl rfl rfl (fun _ => ?_) (fun e => absurd (e.symm.trans g2) (by decide))
      refine r_op tabOk hnt rfl (s_move rfl ?_) 
      refine r_if tabOk hnt rfl rfl rfl (fun _ => ?_) (fun e => absurd (e.symm.trans g2) (by decide))
      refine r_op tabOk hnt rfl (s_leq rfl rfl ?_) 
      refine r_op tabOk hnt rfl (s_pick_t rfl g2 rfl ?_) 
      refine r_op tabOk hnt rfl (s_move rfl ?_) 
      refine r_if tabOk hnt rfl rfl rfl (fun g3 => ?_) (fun g3 => ?_)
      ·
        have g3' := g3
        try simp only [decide_eq_true_eq, decide_eq_false_iff_not, Bool.not_eq_true', Bool.not_eq_false', Bool.not_true, Bool.not_false, Bool.not_eq_eq_eq_not, Int.not_lt, Int.not_le] at g3'
        refine r_op tabOk hnt rfl (s_fa_ptr tab_53 rfl rfl tab_3 (by decide) rfl ?_) 
        refine r_if tabOk hnt rfl rfl rfl (fun _ => ?_) (fun e => absurd (e.symm.trans g3) (by decide))
        refine r_op tabOk hnt rfl (s_load_ptr1 tab_3 rfl rfl rfl rfl rfl ?_) 
        refine r_if tabOk hnt rfl rfl rfl (fun _ => ?_) (fun e => absurd (e.symm.trans g3) (by decide))
        refine r_op tabOk hnt rfl (s_move rfl ?_) 
        refine r_if tabOk hnt rfl rfl rfl (fun _ => ?_) (fun e => absurd (e.symm.trans g3) (by decide))
        refine r_op tabOk hnt rfl (s_fa_ptr tab_53 rfl rfl tab_3 (by decide) rfl ?_) 
        refine r_if tabOk hnt rfl rfl rfl (fun _ => ?_) (fun e => absurd (e.symm.trans g3) (by decide))
        refine r_op tabOk hnt rfl (s_load_ptr1 tab_3 rfl rfl rfl rfl rfl ?_) 
        refine r_if tabOk hnt rfl rfl rfl (fun _ => ?_) (fun e => absurd (e.symm.trans g3) (by decide))
        refine r_op tabOk hnt rfl (s_subi (r := m - s.at_) rfl rfl rfl (by omega) ?_) 
        refine r_if tabOk hnt rfl rfl rfl (fun _ => ?_) (fun e => absurd (e.symm.trans g3) (by decide))
        refine r_op tabOk hnt rfl (s_leq rfl rfl ?_) 
        refine r_op tabOk hnt rfl (s_pick_t rfl g3 rfl ?_) 
        refine r_op tabOk hnt rfl (s_assign rfl ?_) 
        refine r_end ?_
        refine q_then ?_
        refine w_le (s := 4) (y := pB (spRight s m)) rfl (le_of_eq (congrArg (fun z : Bool => pB z) (show (decide (s.count ≤ m - s.at_)) = (spRight s m) by unfold spRight; first | (apply decide_eq_decide.2; omega) | (symm; apply decide_eq_false; omega) | (symm; apply decide_eq_true; omega)))) ?_
        refine w_ret ?_
        exact fin_plain (ret_tmp rfl ret_nil) rfl rfl ⟨rfl, rfl, rfl⟩
      ·
        have g3' := g3
        try simp only [decide_eq_true_eq, decide_eq_false_iff_not, Bool.not_eq_true', Bool.not_eq_false', Bool.not_true, Bool.not_false, Bool.not_eq_eq_eq_not, Int.not_lt, Int.not_le] at g3'
        refine r_if tabOk hnt rfl rfl rfl (fun e => absurd (e.symm.trans g3) (by decide)) (fun _ => ?_)
        refine r_if tabOk hnt rfl rfl rfl (fun e => absurd (e.symm.trans g3) (by decide)) (fun _ => ?_)
        refine r_if tabOk hnt rfl rfl rfl (fun e => absurd (e.symm.trans g3) (by decide)) (fun _ => ?_)
        refine r_if tabOk hnt rfl rfl rfl (fun e => absurd (e.symm.trans g3) (by decide)) (fun _ => ?_)
        refine r_if tabOk hnt rfl rfl rfl (fun e => absurd (e.symm.trans g3) (by decide)) (fun _ => ?_)
        refine r_if tabOk hnt rfl rfl rfl (fun e => absurd (e.symm.trans g3) (by decide)) (fun _ => ?_)
        refine r_op tabOk hnt rfl (s_pick_f rfl g3 rfl ?_) 
        refine r_op tabOk hnt rfl (s_assign rfl ?_) 
        refine r_end ?_
        refine q_then ?_
        refine w_le (s := 4) (y := pB (spRight s m)) rfl (le_of_eq (congrArg (fun z : Bool => pB z) (show false = (spRight s m) by unfold spRight; first | (apply decide_eq_decide.2; omega) | (symm; apply decide_eq_false; omega) | (symm; apply decide_eq_true; omega)))) ?_
        refine w_ret ?_
        exact fin_plain (ret_tmp rfl ret_nil) rfl rfl ⟨rfl, rfl, rfl⟩
    ·
      have g2' := g2
      try simp only [decide_eq_true_eq, decide_eq_false_iff_not, Bool.not_eq_true', Bool.not_eq_false', Bool.not_true, Bool.not_false, Bool.not_eq_eq_eq_not, Int.not_lt, Int.not_le] at g2'
      refine r_if tabOk hnt rfl rfl rfl (fun e => absurd (e.symm.trans g2) (by decide)) (fun _ => ?_)
      refine r_if tabOk hnt rfl rfl rfl (fun e => absurd (e.symm.trans g2) (by decide)) (fun _ => ?_)
      refine r_if tabOk hnt rfl rfl rfl (fun e => absurd (e.symm.trans g2) (by decide)) (fun _ => ?_)
      refine r_op tabOk hnt rfl (s_pick_f rfl g2 rfl ?_) 
      refine r_op tabOk hnt rfl (s_move rfl ?_) 
      refine r_if tabOk hnt rfl rfl rfl (fun e => absurd e (by decide)) (fun _ => ?_)
      refine r_if tabOk hnt rfl rfl rfl (fun e => absurd e (by decide)) (fun _ => ?_)
      refine r_if tabOk hnt rfl rfl rfl (fun e => absurd e (by decide)) (fun _ => ?_)
      refine r_if tabOk hnt rfl rfl rfl (fun e => absurd e (by decide)) (fun _ => ?_)
      refine r_if tabOk hnt rfl rfl rfl (fun e => absurd e (by decide)) (fun _ => ?_)
      refine r_if tabOk hnt rfl rfl rfl (fun e => absurd e (by decide)) (fun _ => ?_)
      refine r_if tabOk hnt rfl rfl rfl (fun e => absurd e (by decide)) (fun _ => ?_)
      refine r_op tabOk hnt rfl (s_pick_f rfl rfl rfl ?_) 
      refine r_op tabOk hnt rfl (s_assign rfl ?_) 
      refine r_end ?_
      refine q_then ?_
      refine w_le (s := 4) (y := pB (spRight s m)) rfl (le_of_eq (congrArg (fun z : Bool => pB z) (show false = (spRight s m) by unfold spRight; first | (apply decide_eq_decide.2; omega) | (symm; apply decide_eq_false; omega) | (symm; apply decide_eq_true; omega)))) ?_
      refine w_ret ?_
      exact fin_plain (ret_tmp rfl ret_nil) rfl rfl ⟨rfl, rfl, rfl⟩
  ·
    have g1' := g1
    try simp only [decide_eq_true_eq, decide_eq_false_iff_not, Bool.not_eq_true', Bool.not_eq_false', Bool.not_true, Bool.not_false, Bool.not_eq_eq_eq_not, Int.not_lt, Int.not_le] at g1'
    refine r_if tabOk hnt rfl rfl rfl (fun e => absurd (e.symm.trans g1) (by decide)) (fun _ => ?_)
    refine r_if tabOk hnt rfl rfl rfl (fun e => absurd (e.symm.trans g1) (by decide)) (fun _ => ?_)
    refine r_op tabOk hnt rfl (s_pick_f rfl g1 rfl ?_) 
    refine r_op tabOk hnt rfl (s_move rfl ?_) 
    refine r_if tabOk hnt rfl rfl rfl (fun e => absurd e (by decide)) (fun _ => ?_)
    refine r_if tabOk hnt rfl rfl rfl (fun e => absurd e (by decide)) (fun _ => ?_)
    refine r_if tabOk hnt rfl rfl rfl (fun e => absurd e (by decide)) (fun _ => ?_)
    refine r_if tabOk hnt rfl rfl rfl (fun e => absurd e (by decide)) (fun _ => ?_)
    refine r_op tabOk hnt rfl (s_pick_f rfl rfl rfl ?_) 
    refine r_op tabOk hnt rfl (s_move rfl ?_) 
    refine r_if tabOk hnt rfl rfl rfl (fun e => absurd e (by decide)) (fun _ => ?_)
    refine r_if tabOk hnt rfl rfl rfl (fun e => absurd e (by decide)) (fun _ => ?_)
    refine r_if tabOk hnt rfl rfl rfl (fun e => absurd e (by decide)) (fun _ => ?_)
    refine r_if tabOk hnt rfl rfl rfl (fun e => absurd e (by decide)) (fun _ => ?_)
    refine r_if tabOk hnt rfl rfl rfl (fun e => absurd e (by decide)) (fun _ => ?_)
    refine r_if tabOk hnt rfl rfl rfl (fun e => absurd e (by decide)) (fun _ => ?_)
    refine r_if tabOk hnt rfl rfl rfl (fun e => absurd e (by decide)) (fun _ => ?_)
    refine r_op tabOk hnt rfl (s_pick_f rfl rfl rfl ?_) 
    refine r_op tabOk hnt rfl (s_assign rfl ?_) 
    refine r_end ?_
    refine q_then ?_
    refine w_le (s := 4) (y := pB (spRight s m)) rfl (le_of_eq (congrArg (fun z : Bool => pB z) (show false = (spRight s m) by unfold spRight; first | (apply decide_eq_decide.2; omega) | (symm; apply decide_eq_false; omega) | (symm; apply decide_eq_true; omega)))) ?_
    refine w_ret ?_
    exact fin_plain (ret_tmp rfl ret_nil) rfl rfl ⟨rfl, rfl, rfl⟩

theorem w_burgageref7_Right (s : TSpan) (m : Int) (hm : m ≤ 9223372036854775807) :
    T Try.prog 50 [PV.f (eSpan s), pI m] 0 [] (Ret (pB (spRight s m)) 0 []) := by
  refine t_fun tabOk (n := 28) (rs := [.tmp 4]) Try.func50 rfl rfl rfl rfl (Nat.le_of_ble_eq_true rfl) ?_
  intro c hnt hk
  refine w_seq ?_
  refine w_R ?_
  refine r_op tabOk hnt rfl (s_box rfl rfl ?_) 
  refine r_op tabOk hnt rfl (s_assign rfl ?_) 
  refine r_set [(1, pI m), (2, PV.ptr 0 0)] [(0, .obj [pI s.at_, pI s.count])] 1 ⟨rfl, rfl, trivial⟩ rfl rfl ?_
  refine r_end ?_
  refine q_then ?_
  refine w_seq ?_
  refine w_R ?_
  refine r_op tabOk hnt rfl (s_fa_ptr tab_71 rfl rfl tab_3 (by decide) rfl ?_) 
  refine r_op tabOk hnt rfl (s_load_ptr1 tab_3 rfl rfl rfl rfl rfl ?_) 
  refine r_op tabOk hnt rfl (s_geq rfl rfl ?_) 
  refine r_op tabOk hnt rfl (s_move rfl ?_) 
  refine r_if tabOk hnt rfl rfl rfl (fun g1 => ?_) (fun g1 => ?_)
  ·
    have g1' := g1
    try simp only [decide_eq_true_eq, decide_eq_false_iff_not, Bool.not_eq_true', Bool.not_eq_false', Bool.not_true, Bool.not_false, Bool.not_eq_eq_eq_not, Int.not_lt, Int.not_le] at g1'
    refine r_op tabOk hnt rfl (s_fa_ptr tab_71 rfl rfl tab_3 (by decide) rfl ?_) 
    refine r_if tabOk hnt rfl rfl rfl (fun _ => ?_) (fun e => absurd (e.symm.trans g1) (by decide))
    refine r_op tabOk hnt rfl (s_load_ptr1 tab_3 rfl rfl rfl rfl rfl ?_) 
    refine r_if tabOk hnt rfl rfl rfl (fun _ => ?_) (fun e => absurd (e.symm.trans g1) (by decide))
    refine r_op tabOk hnt rfl (s_geq rfl rfl ?_) 
    refine r_op tabOk hnt rfl (s_pick_t rfl g1 rfl ?_) 
    refine r_op tabOk hnt rfl (s_move rfl ?_) 
    refine r_if tabOk hnt rfl rfl rfl (fun g2 => ?_) (fun g2 => ?_)
    ·
      have g2' := g2
      try simp only [decide_eq_true_eq, decide_eq_false_iff_not, Bool.not_eq_true', Bool.not_eq_false', Bool.not_true, Bool.not_false, Bool.not_eq_eq_eq_not, Int.not_lt, Int.not_le] at g2'
      refine r_op tabOk hnt rfl (s_fa_ptr tab_71 rfl rfl tab_3 (by decide) rfl ?_) 
      refine r_if tabOk hnt rfl rfl rfl (fun _ => ?_) (fun e => absurd (e.symm.trans g2) (by decide))
      refine r_op tabOk hnt rfl (s_load_ptr1 tab_3 rfl rfl rfl rfl rfl ?_) 
      refine r_if tabOk hnt rfl rfl rfl (fun _ => ?_) (fun e => absurd (e.symm.trans g2) (by decide))
      refine r_op tabOk hnt rfl (s_move rfl ?_) 
      refine r_if tabOk hnt rfl rfl rfl (fun _ => ?_) (fun e => absurd (e.symm.trans g2) (by decide))
      refine r_op tabOk hnt rfl (s_leq rfl rfl ?_) 
      refine r_op tabOk hnt rfl (s_pick_t rfl g2 rfl ?_) 
      refine r_op tabOk hnt rfl (s_move rfl ?_) 
      refine r_if tabOk hnt rfl rfl rfl (fun g3 => ?_) (fun g3 => ?_)
      ·
        have g3' := g3
        try simp only [decide_eq_true_eq, decide_eq_false_iff_not, Bool.not_eq_true', Bool.not_eq_false', Bool.not_true, Bool.not_false, Bool.not_eq_eq_eq_not, Int.not_lt, Int.not_le] at g3'
        refine r_op tabOk hnt rfl (s_fa_ptr tab_71 rfl rfl tab_3 (by decide) rfl ?_) 
        refine r_if tabOk hnt rfl rfl rfl (fun _ => ?_) (fun e => absurd (e.symm.trans g3) (by decide))
        refine r_op tabOk hnt rfl (s_load_ptr1 tab_3 rfl rfl rfl rfl rfl ?_) 
        refine r_if tabOk hnt rfl rfl rfl (fun _ => ?_) (fun e => absurd (e.symm.trans g3) (by decide))
        refine r_op tabOk hnt rfl (s_move rfl ?_) 
        refine r_if tabOk hnt rfl rfl rfl (fun _ => ?_) (fun e => absurd (e.symm.trans g3) (by decide))
        refine r_op tabOk hnt rfl (s_fa_ptr tab_71 rfl rfl tab_3 (by decide) rfl ?_) 
        refine r_if tabOk hnt rfl rfl rfl (fun _ => ?_) (fun e => absurd (e.symm.trans g3) (by decide))
        refine r_op tabOk hnt rfl (s_load_ptr1 tab_3 rfl rfl rfl rfl rfl ?_) 
        refine r_if tabOk hnt rfl rfl rfl (fun _ => ?_) (fun e => absurd (e.symm.trans g3) (by decide))
        refine r_op tabOk hnt rfl (s_subi (r := m - s.at_) rfl rfl rfl (by omega) ?_) 
        refine r_if tabOk hnt rfl rfl rfl (fun _ => ?_) (fun e => absurd (e.symm.trans g3) (by decide))
        refine r_op tabOk hnt rfl (s_leq rfl rfl ?_) 
        refine r_op tabOk hnt rfl (s_pick_t rfl g3 rfl ?_) 
        refine r_op tabOk hnt rfl (s_assign rfl ?_) 
        refine r_end ?_
        refine q_then ?_
        refine w_le (s := 4) (y := pB (spRight s m)) rfl (le_of_eq (congrArg (fun z : Bool => pB z) (show (decide (s.count ≤ m - s.at_)) = (spRight s m) by unfold spRight; first | (apply decide_eq_decide.2; omega) | (symm; apply decide_eq_false; omega) | (symm; apply decide_eq_true; omega)))) ?_
        refine w_ret ?_
        exact fin_plain (ret_tmp rfl ret_nil) rfl rfl ⟨rfl, rfl, rfl⟩
      ·
        have g3' := g3
        try simp only [decide_eq_true_eq, decide_eq_false_iff_not, Bool.not_eq_true', Bool.not_eq_false', Bool.not_true, Bool.not_false, Bool.not_eq_eq_eq_not, Int.not_lt, Int.not_le] at g3'
        refine r_if tabOk hnt rfl rfl rfl (fun e => absurd (e.symm.trans g3) (by decide)) (fun _ => ?_)
        refine r_if tabOk hnt rfl rfl rfl (fun e => absurd (e.symm.trans g3) (by decide)) (fun _ => ?_)
        refine r_if tabOk hnt rfl rfl rfl (fun e => absurd (e.symm.trans g3) (by decide)) (fun _ => ?_)
        refine r_if tabOk hnt rfl rfl rfl (fun e => absurd (e.symm.trans g3) (by decide)) (fun _ => ?_)
        refine r_if tabOk hnt rfl rfl rfl (fun e => absurd (e.symm.trans g3) (by decide)) (fun _ => ?_)
        refine r_if tabOk hnt rfl rfl rfl (fun e => absurd (e.symm.trans g3) (by decide)) (fun _ => ?_)
        refine r_op tabOk hnt rfl (s_pick_f rfl g3 rfl ?_) 
        refine r_op tabOk hnt rfl (s_assign rfl ?_) 
        refine r_end ?_
        refine q_then ?_
        refine w_le (s := 4) (y := pB (spRight s m)) rfl (le_of_eq (congrArg (fun z : Bool => pB z) (show false = (spRight s m) by unfold spRight; first | (apply decide_eq_decide.2; omega) | (symm; apply decide_eq_false; omega) | (symm; apply decide_eq_true; omega)))) ?_
        refine w_ret ?_
        exact fin_plain (ret_tmp rfl ret_nil) rfl rfl ⟨rfl, rfl, rfl⟩
    ·
      have g2' := g2
      try simp only [decide_eq_true_eq, decide_eq_false_iff_not, Bool.not_eq_true', Bool.not_eq_false', Bool.not_true, Bool.not_false, Bool.not_eq_eq_eq_not, Int.not_lt, Int.not_le] at g2'
      refine r_if tabOk hnt rfl rfl rfl (fun e => absurd (e.symm.trans g2) (by decide)) (fun _ => ?_)
      refine r_if tabOk hnt rfl rfl rfl (fun e => absurd (e.symm.trans g2) (by decide)) (fun _ => ?_)
      refine r_if tabOk hnt rfl rfl rfl (fun e => absurd (e.symm.trans g2) (by decide)) (fun _ => ?_)
      refine r_op tabOk hnt rfl (s_pick_f rfl g2 rfl ?_) 
      refine r_op tabOk hnt rfl (s_move rfl ?_) 
      refine r_if tabOk hnt rfl rfl rfl (fun e => absurd e (by decide)) (fun _ => ?_)
      refine r_if tabOk hnt rfl rfl rfl (fun e => absurd e (by decide)) (fun _ => ?_)
      refine r_if tabOk hnt rfl rfl rfl (fun e => absurd e (by decide)) (fun _ => ?_)
      refine r_if tabOk hnt rfl rfl rfl (fun e => absurd e (by decide)) (fun _ => ?_)
      refine r_if tabOk hnt rfl rfl rfl (fun e => absurd e (by decide)) (fun _ => ?_)
      refine r_if tabOk hnt rfl rfl rfl (fun e => absurd e (by decide)) (fun _ => ?_)
      refine r_if tabOk hnt rfl rfl rfl (fun e => absurd e (by decide)) (fun _ => ?_)
      refine r_op tabOk hnt rfl (s_pick_f rfl rfl rfl ?_) 
      refine r_op tabOk hnt rfl (s_assign rfl ?_) 
      refine r_end ?_
      refine q_then ?_
      refine w_le (s := 4) (y := pB (spRight s m)) rfl (le_of_eq (congrArg (fun z : Bool => pB z) (show false = (spRight s m) by unfold spRight; first | (apply decide_eq_decide.2; omega) | (symm; apply decide_eq_false; omega) | (symm; apply decide_eq_true; omega)))) ?_
      refine w_ret ?_
      exact fin_plain (ret_tmp rfl ret_nil) rfl rfl ⟨rfl, rfl, rfl⟩
  ·
    have g1' := g1
    try simp only [decide_eq_true_eq, decide_eq_false_iff_not, Bool.not_eq_true', Bool.not_eq_false', Bool.not_true, Bool.not_false, Bool.not_eq_eq_eq_not, Int.not_lt, Int.not_le] at g1'
    refine r_if tabOk hnt rfl rfl rfl (fun e => absurd (e.symm.trans g1) (by decide)) (fun _ => ?_)
    refine r_if tabOk hnt rfl rfl rfl (fun e => absurd (e.symm.trans g1) (by decide)) (fun _ => ?_)
    refine r_op tabOk hnt rfl (s_pick_f rfl g1 rfl ?_) 
    refine r_op tabOk hnt rfl (s_move rfl ?_) 
    refine r_if tabOk hnt rfl rfl rfl (fun e => absurd e (by decide)) (fun _ => ?_)
    refine r_if tabOk hnt rfl rfl rfl (fun e => absurd e (by decide)) (fun _ => ?_)
    refine r_if tabOk hnt rfl rfl rfl (fun e => absurd e (by decide)) (fun _ => ?_)
    refine r_if tabOk hnt rfl rfl rfl (fun e => absurd e (by decide)) (fun _ => ?_)
    refine r_op tabOk hnt rfl (s_pick_f rfl rfl rfl ?_) 
    refine r_op tabOk hnt rfl (s_move rfl ?_) 
    refine r_if tabOk hnt rfl rfl rfl (fun e => absurd e (by decide)) (fun _ => ?_)
    refine r_if tabOk hnt rfl rfl rfl (fun e => absurd e (by decide)) (fun _ => ?_)
    refine r_if tabOk hnt rfl rfl rfl (fun e => absurd e (by decide)) (fun _ => ?_)
    refine r_if tabOk hnt rfl rfl rfl (fun e => absurd e (by decide)) (fun _ => ?_)
    refine r_if tabOk hnt rfl rfl rfl (fun e => absurd e (by decide)) (fun _ => ?_)
    refine r_if tabOk hnt rfl rfl rfl (fun e => absurd e (by decide)) (fun _ => ?_)
    refine r_if tabOk hnt rfl rfl rfl (fun e => absurd e (by decide)) (fun _ => ?_)
    refine r_op tabOk hnt rfl (s_pick_f rfl rfl rfl ?_) 
    refine r_op tabOk hnt rfl (s_assign rfl ?_) 
    refine r_end ?_
    refine q_then ?_
    refine w_le (s := 4) (y := pB (spRight s m)) rfl (le_of_eq (congrArg (fun z : Bool => pB z) (show false = (spRight s m) by unfold spRight; first | (apply decide_eq_decide.2; omega) | (symm; apply decide_eq_false; omega) | (symm; apply decide_eq_true; omega)))) ?_
    refine w_ret ?_
    exact fin_plain (ret_tmp rfl ret_nil) rfl rfl ⟨rfl, rfl, rfl⟩

theorem w_span_right (s : TSpan)  :
    T Try.prog 53 [PV.f (eSpan s)] 0 [] (Ret (pB (spOk s)) 0 []) := by
  refine t_fun tabOk (n := 5) (rs := [.tmp 2]) Try.func53 rfl rfl rfl rfl (Nat.le_of_ble_eq_true rfl) ?_
  intro c hnt hk
  refine w_seq ?_
  refine w_R ?_
  refine r_op tabOk hnt rfl (s_box rfl rfl ?_) 
  refine r_op tabOk hnt rfl (s_assign rfl ?_) 
  refine r_set [(1, PV.ptr 0 0)] [(0, .obj [pI s.at_, pI s.count])] 1 ⟨rfl, trivial⟩ rfl rfl ?_
  refine r_end ?_
  refine q_then ?_
  refine w_seq ?_
  refine w_R ?_
  refine r_op tabOk hnt rfl (s_load_ptr tab_53 rfl rfl rfl (Nat.le_of_ble_eq_true rfl) ?_) 
  refine r_op tabOk hnt rfl (s_callF rfl rfl rfl (w_span_Right s 2147483648 (by first | omega | assumption | (simp; omega) | decide | (simp; done))) rfl ?_) 
  refine r_op tabOk hnt rfl (s_assign rfl ?_) 
  refine r_end ?_
  refine q_then ?_
  refine w_le (s := 2) (y := pB (spOk s)) rfl (le_of_eq (congrArg (fun z : Bool => pB z) (show (spRight s 2147483648) = (spOk s) by simp [*]))) ?_
  refine w_ret ?_
  exact fin_plain (ret_tmp rfl ret_nil) rfl rfl ⟨rfl, rfl, rfl⟩

theorem w_span_Span_end (s : TSpan) (hs : spOk s = true) :
    T Try.prog 54 [PV.f (eSpan s)] 0 [] (Ret (pI (s.at_ + s.count)) 0 []) := by
  refine t_fun tabOk (n := 8) (rs := [.tmp 2]) Try.func54 rfl rfl rfl rfl (Nat.le_of_ble_eq_true rfl) ?_
  intro c hnt hk
  have hs2 := (spOk_iff s).1 hs
  refine w_seq ?_
  refine w_R ?_
  refine r_op tabOk hnt rfl (s_box rfl rfl ?_) 
  refine r_op tabOk hnt rfl (s_assign rfl ?_) 
  refine r_set [(1, PV.ptr 0 0)] [(0, .obj [pI s.at_, pI s.count])] 1 ⟨rfl, trivial⟩ rfl rfl ?_
  refine r_end ?_
  refine q_then ?_
  refine w_seq ?_
  refine w_R ?_
  refine r_op tabOk hnt rfl (s_fa_ptr tab_53 rfl rfl tab_3 (by decide) rfl ?_) 
  refine r_op tabOk hnt rfl (s_load_ptr1 tab_3 rfl rfl rfl rfl rfl ?_) 
  refine r_op tabOk hnt rfl (s_fa_ptr tab_53 rfl rfl tab_3 (by decide) rfl ?_) 
  refine r_op tabOk hnt rfl (s_load_ptr1 tab_3 rfl rfl rfl rfl rfl ?_) 
  refine r_op tabOk hnt rfl (s_addi (r := s.at_ + s.count) rfl rfl rfl (by omega) ?_) 
  refine r_op tabOk hnt rfl (s_assign rfl ?_) 
  refine r_end ?_
  refine q_then ?_
  refine w_ret ?_
  exact fin_plain (ret_tmp rfl ret_nil) rfl rfl ⟨rfl, rfl, rfl⟩

theorem w_span_Meet (a : TSpan) (b : TSpan)  :
    T Try.prog 33 [PV.f (eSpan a), PV.f (eSpan b)] 0 [] (Ret (PV.tup [PV.f (eSpan (meetV a b)), pB (meetOk a b)]) 0 []) := by
  refine t_fun tabOk (n := 36) (rs := [.cell 4 53, .tmp 5]) Try.func33 rfl rfl rfl rfl (Nat.le_of_ble_eq_true rfl) ?_
  intro c hnt hk
  refine w_seq ?_
  refine w_R ?_
  refine r_op tabOk hnt rfl (s_box rfl rfl ?_) 
  refine r_op tabOk hnt rfl (s_box rfl rfl ?_) 
  refine r_op tabOk hnt rfl (s_alloc tab_53 ?_) 
  refine r_op tabOk hnt rfl (s_assign rfl ?_) 
  refine r_set [(2, PV.ptr 0 0), (3, PV.ptr 1 0), (4, PV.ptr 2 0)] [(2, .obj [pI 0, pI 0]), (1, .obj [pI b.at_, pI b.count]), (0, .obj [pI a.at_, pI a.count])] 3 ⟨rfl, rfl, rfl, trivial⟩ rfl rfl ?_
  refine r_end ?_
  refine q_then ?_
  refine w_seq ?_
  refine w_R ?_
  refine r_op tabOk hnt rfl (s_fa_ptr tab_53 rfl rfl tab_3 (by decide) rfl ?_) 
  refine r_op tabOk hnt rfl (s_load_ptr1 tab_3 rfl rfl rfl rfl rfl ?_) 
  refine r_op tabOk hnt rfl (s_fa_ptr tab_53 rfl rfl tab_3 (by decide) rfl ?_) 
  refine r_op tabOk hnt rfl (s_load_ptr1 tab_3 rfl rfl rfl rfl rfl ?_) 
  refine r_op tabOk hnt rfl (s_maxI rfl ?_) 
  refine r_op tabOk hnt rfl (s_assign rfl ?_) 
  refine r_op tabOk hnt rfl (s_assign rfl ?_) 
  refine r_end ?_
  refine q_then ?_
  refine w_seq ?_
  refine w_seq ?_
  refine w_R ?_
  refine r_op tabOk hnt rfl (s_load_ptr tab_53 rfl rfl rfl (Nat.le_of_ble_eq_true rfl) ?_) 
  refine r_op tabOk hnt rfl (s_callF rfl rfl rfl (w_span_right a) rfl ?_) 
  refine r_op tabOk hnt rfl (s_not rfl ?_) 
  refine r_op tabOk hnt rfl (s_move rfl ?_) 
  refine r_if tabOk hnt rfl rfl rfl (fun g1 => ?_) (fun g1 => ?_)
  ·
    have g1' := g1
    try simp only [decide_eq_true_eq, decide_eq_false_iff_not, Bool.not_eq_true', Bool.not_eq_false', Bool.not_true, Bool.not_false, Bool.not_eq_eq_eq_not, Int.not_lt, Int.not_le] at g1'
    have ea : spOk a = true := by simpa using g1
    have ha := (spOk_iff a).1 ea
    refine r_op tabOk hnt rfl (s_load_ptr tab_53 rfl rfl rfl (Nat.le_of_ble_eq_true rfl) ?_) 
    refine r_if tabOk hnt rfl rfl rfl (fun _ => ?_) (fun e => absurd (e.symm.trans g1) (by decide))
    refine r_op tabOk hnt rfl (s_callF rfl rfl rfl (w_span_right b) rfl ?_) 
    refine r_if tabOk hnt rfl rfl rfl (fun _ => ?_) (fun e => absurd (e.symm.trans g1) (by decide))
    refine r_op tabOk hnt rfl (s_not rfl ?_) 
    refine r_op tabOk hnt rfl (s_pick_f rfl g1 rfl ?_) 
    refine r_end ?_
    refine q_then ?_
    refine w_if rfl (fun c1 => ?_) (fun c1 => ?_)
    ·
      have c1_ := c1
      try simp only [decide_eq_true_eq, decide_eq_false_iff_not, Bool.not_eq_true', Bool.not_eq_false', Bool.not_true, Bool.not_false, Bool.not_eq_eq_eq_not, Int.not_lt, Int.not_le] at c1
      have eb : spOk b = false := by simpa using c1
      have em : meetOk a b = false := by simp [meetOk, eb]
      refine w_seq ?_
      refine w_R ?_
      refine r_op tabOk hnt rfl (s_build tab_53 rfl rfl (b_nil ?_)) 
      refine r_op tabOk hnt rfl (s_store_ptr tab_53 rfl rfl rfl rfl rfl (Nat.le_of_ble_eq_true rfl) ?_) 
      refine r_op tabOk hnt rfl (s_assign rfl ?_) 
      refine r_set [(4, PV.ptr 2 0), (5, pB false)] [(2, .obj [pI 0, pI 0]), (1, .obj [pI b.at_, pI b.count]), (0, .obj [pI a.at_, pI a.count])] 3 ⟨rfl, rfl, trivial⟩ rfl rfl ?_
      refine r_end ?_
      refine q_then ?_
      refine w_leC (n := 2) (j := 0) (y := pI ((meetV a b).at_)) rfl rfl (le_of_eq (congrArg (fun z : Int => pI z) (show 0 = ((meetV a b).at_) by simp [em, meetV]))) ?_
      refine w_leC (n := 2) (j := 1) (y := pI ((meetV a b).count)) rfl rfl (le_of_eq (congrArg (fun z : Int => pI z) (show 0 = ((meetV a b).count) by simp [em, meetV]))) ?_
      refine w_le (s := 5) (y := pB (meetOk a b)) rfl (le_of_eq (congrArg (fun z : Bool => pB z) (show false = (meetOk a b) by simp [em, meetV]))) ?_
      refine w_ret ?_
      refine q_then_ret ?_
      exact fin_plain (ret_cell tab_53 (by decide) rfl rfl (Nat.le_of_ble_eq_true rfl) rfl (ret_tmp rfl ret_nil)) rfl rfl ⟨rfl, rfl, rfl⟩
    ·
      have c1_ := c1
      try simp only [decide_eq_true_eq, decide_eq_false_iff_not, Bool.not_eq_true', Bool.not_eq_false', Bool.not_true, Bool.not_false, Bool.not_eq_eq_eq_not, Int.not_lt, Int.not_le] at c1
      have eb : spOk b = true := by simpa using c1
      have hb := (spOk_iff b).1 eb
      refine w_skip ?_
      refine q_then ?_
      refine w_seq ?_
      refine w_seq ?_
      refine W_drawn tabOk mixed hnt [[], [0], [], [0, 1, 2], [0, 1, 2, 3], [0, 1, 2, 3, 4]] (by kernel_rfl) ?_
      refine d_op ?_
      refine x_run [(2, PV.ptr 0 0)] [] [(0, .obj [pI a.at_, pI a.count])] [] [(0, .obj [pI a.at_, pI a.count])] [] [(2, .obj [pI 0, pI 0]), (1, .obj [pI b.at_, pI b.count]), (0, .obj [pI a.at_, pI a.count])] rfl rfl rfl rfl rfl rfl (s_load_ptr tab_53 rfl rfl rfl (Nat.le_of_ble_eq_true rfl) ⟨rfl, rfl, rfl⟩) rfl ⟨rfl, trivial⟩ rfl rfl ?_
      refine d_op ?_
      refine x_run0 [(22, PV.f (.agg [encI a.at_, encI a.count]))] [0] rfl rfl rfl rfl (s_callF rfl rfl rfl (w_span_Span_end a (by first | omega | assumption | (simp; omega) | decide | (simp; done))) rfl ⟨rfl, rfl, rfl⟩) ?_
      refine d_op ?_
      refine x_run [(3, PV.ptr 1 0)] [] [(1, .obj [pI b.at_, pI b.count])] [] [(1, .obj [pI b.at_, pI b.count])] [] [(2, .obj [pI 0, pI 0]), (1, .obj [pI b.at_, pI b.count]), (0, .obj [pI a.at_, pI a.count])] rfl rfl rfl rfl rfl rfl (s_load_ptr tab_53 rfl rfl rfl (Nat.le_of_ble_eq_true rfl) ⟨rfl, rfl, rfl⟩) rfl ⟨rfl, trivial⟩ rfl rfl ?_
      refine d_op ?_
      refine x_run0 [(24, PV.f (.agg [encI b.at_, encI b.count]))] [0, 1, 2] rfl rfl rfl rfl (s_callF rfl rfl rfl (w_span_Span_end b (by first | omega | assumption | (simp; omega) | decide | (simp; done))) rfl ⟨rfl, rfl, rfl⟩) ?_
      refine d_op ?_
      refine x_run0 [(23, pI (a.at_ + a.count)), (25, pI (b.at_ + b.count))] [0, 1, 2, 3] rfl rfl rfl rfl (s_minI rfl ⟨rfl, rfl, rfl⟩) ?_
      refine d_op ?_
      refine x_run0 [(26, pI (min (a.at_ + a.count) (b.at_ + b.count)))] [0, 1, 2, 3, 4] rfl rfl rfl rfl (s_assign rfl ⟨rfl, rfl, rfl⟩) ?_
      refine d_end ⟨by kernel_rfl, ?_⟩
      refine q_then ?_
      refine w_seq ?_
      refine w_R ?_
      refine r_op tabOk hnt rfl (s_move rfl ?_) 
      refine r_op tabOk hnt rfl (s_move rfl ?_) 
      refine r_op tabOk hnt rfl (s_geq rfl rfl ?_) 
      refine r_end ?_
      refine q_then ?_
      refine w_if rfl (fun c2 => ?_) (fun c2 => ?_)
      ·
        have c2_ := c2
        try simp only [decide_eq_true_eq, decide_eq_false_iff_not, Bool.not_eq_true', Bool.not_eq_false', Bool.not_true, Bool.not_false, Bool.not_eq_eq_eq_not, Int.not_lt, Int.not_le] at c2
        have em : meetOk a b = false := by simp only [meetOk, ea, eb, Bool.true_and]; apply decide_eq_false; omega
        refine w_seq ?_
        refine w_R ?_
        refine r_op tabOk hnt rfl (s_build tab_53 rfl rfl (b_nil ?_)) 
        refine r_op tabOk hnt rfl (s_store_ptr tab_53 rfl rfl rfl rfl rfl (Nat.le_of_ble_eq_true rfl) ?_) 
        refine r_op tabOk hnt rfl (s_assign rfl ?_) 
        refine r_set [(4, PV.ptr 2 0), (5, pB false)] [(2, .obj [pI 0, pI 0]), (1, .obj [pI b.at_, pI b.count]), (0, .obj [pI a.at_, pI a.count])] 3 ⟨rfl, rfl, trivial⟩ rfl rfl ?_
        refine r_end ?_
        refine q_then ?_
        refine w_leC (n := 2) (j := 0) (y := pI ((meetV a b).at_)) rfl rfl (le_of_eq (congrArg (fun z : Int => pI z) (show 0 = ((meetV a b).at_) by simp [em, meetV]))) ?_
        refine w_leC (n := 2) (j := 1) (y := pI ((meetV a b).count)) rfl rfl (le_of_eq (congrArg (fun z : Int => pI z) (show 0 = ((meetV a b).count) by simp [em, meetV]))) ?_
        refine w_le (s := 5) (y := pB (meetOk a b)) rfl (le_of_eq (congrArg (fun z : Bool => pB z) (show false = (meetOk a b) by simp [em, meetV]))) ?_
        refine w_ret ?_
        refine q_then_ret ?_
        exact fin_plain (ret_cell tab_53 (by decide) rfl rfl (Nat.le_of_ble_eq_true rfl) rfl (ret_tmp rfl ret_nil)) rfl rfl ⟨rfl, rfl, rfl⟩
      ·
        have c2_ := c2
        try simp only [decide_eq_true_eq, decide_eq_false_iff_not, Bool.not_eq_true', Bool.not_eq_false', Bool.not_true, Bool.not_false, Bool.not_eq_eq_eq_not, Int.not_lt, Int.not_le] at c2
        have em : meetOk a b = true := by simp only [meetOk, ea, eb, Bool.true_and]; apply decide_eq_true; omega
        refine w_skip ?_
        refine q_then ?_
        refine w_seq ?_
        refine w_R ?_
        refine r_op tabOk hnt rfl (s_move rfl ?_) 
        refine r_op tabOk hnt rfl (s_move rfl ?_) 
        refine r_op tabOk hnt rfl (s_move rfl ?_) 
        refine r_op tabOk hnt rfl (s_subi (r := (min (a.at_ + a.count) (b.at_ + b.count)) - (max a.at_ b.at_)) rfl rfl rfl (by omega) ?_) 
        refine r_op tabOk hnt rfl (s_build tab_53 rfl rfl (b_cons rfl tab_3 rfl rfl rfl (Nat.le_of_ble_eq_true rfl) (b_cons rfl tab_3 rfl rfl rfl (Nat.le_of_ble_eq_true rfl) (b_nil ?_)))) 
        refine r_op tabOk hnt rfl (s_store_ptr tab_53 rfl rfl rfl rfl rfl (Nat.le_of_ble_eq_true rfl) ?_) 
        refine r_op tabOk hnt rfl (s_assign rfl ?_) 
        refine r_set [(4, PV.ptr 2 0), (5, pB true)] [(2, .obj [pI (max a.at_ b.at_), pI ((min (a.at_ + a.count) (b.at_ + b.count)) - (max a.at_ b.at_))]), (1, .obj [pI b.at_, pI b.count]), (0, .obj [pI a.at_, pI a.count])] 3 ⟨rfl, rfl, trivial⟩ rfl rfl ?_
        refine r_end ?_
        refine q_then ?_
        refine w_leC (n := 2) (j := 0) (y := pI ((meetV a b).at_)) rfl rfl (le_of_eq (congrArg (fun z : Int => pI z) (show (max a.at_ b.at_) = ((meetV a b).at_) by simp [em, meetV]))) ?_
        refine w_leC (n := 2) (j := 1) (y := pI ((meetV a b).count)) rfl rfl (le_of_eq (congrArg (fun z : Int => pI z) (show ((min (a.at_ + a.count) (b.at_ + b.count)) - (max a.at_ b.at_)) = ((meetV a b).count) by simp [em, meetV]))) ?_
        refine w_le (s := 5) (y := pB (meetOk a b)) rfl (le_of_eq (congrArg (fun z : Bool => pB z) (show true = (meetOk a b) by simp [em, meetV]))) ?_
        refine w_ret ?_
        exact fin_plain (ret_cell tab_53 (by decide) rfl rfl (Nat.le_of_ble_eq_true rfl) rfl (ret_tmp rfl ret_nil)) rfl rfl ⟨rfl, rfl, rfl⟩
  ·
    have g1' := g1
    try simp only [decide_eq_true_eq, decide_eq_false_iff_not, Bool.not_eq_true', Bool.not_eq_false', Bool.not_true, Bool.not_false, Bool.not_eq_eq_eq_not, Int.not_lt, Int.not_le] at g1'
    have ea : spOk a = false := by simpa using g1
    have em : meetOk a b = false := by simp [meetOk, ea]
    refine r_if tabOk hnt rfl rfl rfl (fun e => absurd (e.symm.trans g1) (by decide)) (fun _ => ?_)
    refine r_if tabOk hnt rfl rfl rfl (fun e => absurd (e.symm.trans g1) (by decide)) (fun _ => ?_)
    refine r_op tabOk hnt rfl (s_pick_t rfl g1 rfl ?_) 
    refine r_end ?_
    refine q_then ?_
    refine w_if rfl (fun _ => ?_) (fun e => absurd e (by decide))
    refine w_seq ?_
    refine w_R ?_
    refine r_op tabOk hnt rfl (s_build tab_53 rfl rfl (b_nil ?_)) 
    refine r_op tabOk hnt rfl (s_store_ptr tab_53 rfl rfl rfl rfl rfl (Nat.le_of_ble_eq_true rfl) ?_) 
    refine r_op tabOk hnt rfl (s_assign rfl ?_) 
    refine r_set [(4, PV.ptr 2 0), (5, pB false)] [(2, .obj [pI 0, pI 0]), (1, .obj [pI b.at_, pI b.count]), (0, .obj [pI a.at_, pI a.count])] 3 ⟨rfl, rfl, trivial⟩ rfl rfl ?_
    refine r_end ?_
    refine q_then ?_
    refine w_leC (n := 2) (j := 0) (y := pI ((meetV a b).at_)) rfl rfl (le_of_eq (congrArg (fun z : Int => pI z) (show 0 = ((meetV a b).at_) by simp [em, meetV]))) ?_
    refine w_leC (n := 2) (j := 1) (y := pI ((meetV a b).count)) rfl rfl (le_of_eq (congrArg (fun z : Int => pI z) (show 0 = ((meetV a b).count) by simp [em, meetV]))) ?_
    refine w_le (s := 5) (y := pB (meetOk a b)) rfl (le_of_eq (congrArg (fun z : Bool => pB z) (show false = (meetOk a b) by simp [em, meetV]))) ?_
    refine w_ret ?_
    refine q_then_ret ?_
    exact fin_plain (ret_cell tab_53 (by decide) rfl rfl (Nat.le_of_ble_eq_true rfl) rfl (ret_tmp rfl ret_nil)) rfl rfl ⟨rfl, rfl, rfl⟩

theorem w_burgageref7_Meet (a : TSpan) (b : TSpan)  :
    T Try.prog 47 [PV.f (eSpan a), PV.f (eSpan b)] 0 [] (Ret (PV.tup [PV.f (eSpan (meetV a b)), pB (meetOk a b)]) 0 []) := by
  refine t_fun tabOk (n := 42) (rs := [.cell 4 71, .tmp 5]) Try.func47 rfl rfl rfl rfl (Nat.le_of_ble_eq_true rfl) ?_
  intro c hnt hk
  refine w_seq ?_
  refine w_R ?_
  refine r_op tabOk hnt rfl (s_box rfl rfl ?_) 
  refine r_op tabOk hnt rfl (s_box rfl rfl ?_) 
  refine r_op tabOk hnt rfl (s_alloc tab_71 ?_) 
  refine r_op tabOk hnt rfl (s_assign rfl ?_) 
  refine r_set [(2, PV.ptr 0 0), (3, PV.ptr 1 0), (4, PV.ptr 2 0)] [(2, .obj [pI 0, pI 0]), (1, .obj [pI b.at_, pI b.count]), (0, .obj [pI a.at_, pI a.count])] 3 ⟨rfl, rfl, rfl, trivial⟩ rfl rfl ?_
  refine r_end ?_
  refine q_then ?_
  refine w_seq ?_
  refine w_seq ?_
  refine w_R ?_
  refine r_op tabOk hnt rfl (s_load_ptr tab_71 rfl rfl rfl (Nat.le_of_ble_eq_true rfl) ?_) 
  refine r_op tabOk hnt rfl (s_callF rfl rfl rfl (w_burgageref7_Right a 2147483648 (by first | omega | assumption | (simp; omega) | decide | (simp; done))) rfl ?_) 
  refine r_op tabOk hnt rfl (s_not rfl ?_) 
  refine r_op tabOk hnt rfl (s_move rfl ?_) 
  refine r_if tabOk hnt rfl rfl rfl (fun g1 => ?_) (fun g1 => ?_)
  ·
    have g1' := g1
    try simp only [decide_eq_true_eq, decide_eq_false_iff_not, Bool.not_eq_true', Bool.not_eq_false', Bool.not_true, Bool.not_false, Bool.not_eq_eq_eq_not, Int.not_lt, Int.not_le] at g1'
    have ea : spOk a = true := by simpa using g1
    have ha := (spOk_iff a).1 ea
    refine r_op tabOk hnt rfl (s_load_ptr tab_71 rfl rfl rfl (Nat.le_of_ble_eq_true rfl) ?_) 
    refine r_if tabOk hnt rfl rfl rfl (fun _ => ?_) (fun e => absurd (e.symm.trans g1) (by decide))
    refine r_op tabOk hnt rfl (s_callF rfl rfl rfl (w_burgageref7_Right b 2147483648 (by first | omega | assumption | (simp; omega) | decide | (simp; done))) rfl ?_) 
    refine r_if tabOk hnt rfl rfl rfl (fun _ => ?_) (fun e => absurd (e.symm.trans g1) (by decide))
    refine r_op tabOk hnt rfl (s_not rfl ?_) 
    refine r_op tabOk hnt rfl (s_pick_f rfl g1 rfl ?_) 
    refine r_end ?_
    refine q_then ?_
    refine w_if rfl (fun c1 => ?_) (fun c1 => ?_)
    ·
      have c1_ := c1
      try simp only [decide_eq_true_eq, decide_eq_false_iff_not, Bool.not_eq_true', Bool.not_eq_false', Bool.not_true, Bool.not_false, Bool.not_eq_eq_eq_not, Int.not_lt, Int.not_le] at c1
      have eb : spOk b = false := by simpa using c1
      have em : meetOk a b = false := by simp [meetOk, eb]
      refine w_seq ?_
      refine w_R ?_
      refine r_op tabOk hnt rfl (s_build tab_71 rfl rfl (b_nil ?_)) 
      refine r_op tabOk hnt rfl (s_store_ptr tab_71 rfl rfl rfl rfl rfl (Nat.le_of_ble_eq_true rfl) ?_) 
      refine r_op tabOk hnt rfl (s_assign rfl ?_) 
      refine r_set [(4, PV.ptr 2 0), (5, pB false)] [(2, .obj [pI 0, pI 0]), (1, .obj [pI b.at_, pI b.count]), (0, .obj [pI a.at_, pI a.count])] 3 ⟨rfl, rfl, trivial⟩ rfl rfl ?_
      refine r_end ?_
      refine q_then ?_
      refine w_leC (n := 2) (j := 0) (y := pI ((meetV a b).at_)) rfl rfl (le_of_eq (congrArg (fun z : Int => pI z) (show 0 = ((meetV a b).at_) by simp [em, meetV]))) ?_
      refine w_leC (n := 2) (j := 1) (y := pI ((meetV a b).count)) rfl rfl (le_of_eq (congrArg (fun z : Int => pI z) (show 0 = ((meetV a b).count) by simp [em, meetV]))) ?_
      refine w_le (s := 5) (y := pB (meetOk a b)) rfl (le_of_eq (congrArg (fun z : Bool => pB z) (show false = (meetOk a b) by simp [em, meetV]))) ?_
      refine w_ret ?_
      refine q_then_ret ?_
      exact fin_plain (ret_cell tab_71 (by decide) rfl rfl (Nat.le_of_ble_eq_true rfl) rfl (ret_tmp rfl ret_nil)) rfl rfl ⟨rfl, rfl, rfl⟩
    ·
      have c1_ := c1
      try simp only [decide_eq_true_eq, decide_eq_false_iff_not, Bool.not_eq_true', Bool.not_eq_false', Bool.not_true, Bool.not_false, Bool.not_eq_eq_eq_not, Int.not_lt, Int.not_le] at c1
      have eb : spOk b = true := by simpa using c1
      have hb := (spOk_iff b).1 eb
      refine w_skip ?_
      refine q_then ?_
      refine w_seq ?_
      refine W_drawn tabOk mixed hnt [[], [0], [], [2], [0, 1, 2, 3], [], [5], [], [7], [5, 6, 7, 8], [], [10], [], [12], [10, 11, 12, 13], [5, 6, 7, 8, 9, 10, 11, 12, 13, 14], [0, 1, 2, 3, 4], [0, 1, 2, 3, 4, 5, 6, 7, 8, 9, 10, 11, 12, 13, 14, 15, 16]] (by kernel_rfl) ?_
      refine d_op ?_
      refine x_run0 [(2, PV.ptr 0 0)] [] rfl rfl rfl rfl (s_fa_ptr tab_71 rfl rfl tab_3 (by decide) rfl ⟨rfl, rfl, rfl⟩) ?_
      refine d_op ?_
      refine x_run [(17, PV.ptr 0 0)] [0] [(0, .obj [pI a.at_, pI a.count])] [] [(0, .obj [pI a.at_, pI a.count])] [] [(2, .obj [pI 0, pI 0]), (1, .obj [pI b.at_, pI b.count]), (0, .obj [pI a.at_, pI a.count])] rfl rfl rfl rfl rfl rfl (s_load_ptr1 tab_3 rfl rfl rfl rfl rfl ⟨rfl, rfl, rfl⟩) rfl ⟨rfl, trivial⟩ rfl rfl ?_
      refine d_op ?_
      refine x_run0 [(3, PV.ptr 1 0)] [] rfl rfl rfl rfl (s_fa_ptr tab_71 rfl rfl tab_3 (by decide) rfl ⟨rfl, rfl, rfl⟩) ?_
      refine d_op ?_
      refine x_run [(19, PV.ptr 1 0)] [2] [(1, .obj [pI b.at_, pI b.count])] [] [(1, .obj [pI b.at_, pI b.count])] [] [(2, .obj [pI 0, pI 0]), (1, .obj [pI b.at_, pI b.count]), (0, .obj [pI a.at_, pI a.count])] rfl rfl rfl rfl rfl rfl (s_load_ptr1 tab_3 rfl rfl rfl rfl rfl ⟨rfl, rfl, rfl⟩) rfl ⟨rfl, trivial⟩ rfl rfl ?_
      refine d_op ?_
      refine x_run0 [(18, pI a.at_), (20, pI b.at_)] [0, 1, 2, 3] rfl rfl rfl rfl (s_maxI rfl ⟨rfl, rfl, rfl⟩) ?_
      refine d_op ?_
      refine x_run0 [(2, PV.ptr 0 0)] [] rfl rfl rfl rfl (s_fa_ptr tab_71 rfl rfl tab_3 (by decide) rfl ⟨rfl, rfl, rfl⟩) ?_
      refine d_op ?_
      refine x_run [(22, PV.ptr 0 0)] [5] [(0, .obj [pI a.at_, pI a.count])] [] [(0, .obj [pI a.at_, pI a.count])] [] [(2, .obj [pI 0, pI 0]), (1, .obj [pI b.at_, pI b.count]), (0, .obj [pI a.at_, pI a.count])] rfl rfl rfl rfl rfl rfl (s_load_ptr1 tab_3 rfl rfl rfl rfl rfl ⟨rfl, rfl, rfl⟩) rfl ⟨rfl, trivial⟩ rfl rfl ?_
      refine d_op ?_
      refine x_run0 [(2, PV.ptr 0 0)] [] rfl rfl rfl rfl (s_fa_ptr tab_71 rfl rfl tab_3 (by decide) rfl ⟨rfl, rfl, rfl⟩) ?_
      refine d_op ?_
      refine x_run [(24, PV.ptr 0 1)] [7] [(0, .obj [pI a.at_, pI a.count])] [] [(0, .obj [pI a.at_, pI a.count])] [] [(2, .obj [pI 0, pI 0]), (1, .obj [pI b.at_, pI b.count]), (0, .obj [pI a.at_, pI a.count])] rfl rfl rfl rfl rfl rfl (s_load_ptr1 tab_3 rfl rfl rfl rfl rfl ⟨rfl, rfl, rfl⟩) rfl ⟨rfl, trivial⟩ rfl rfl ?_
      refine d_op ?_
      refine x_run0 [(23, pI a.at_), (25, pI a.count)] [5, 6, 7, 8] rfl rfl rfl rfl (s_addi (r := a.at_ + a.count) rfl rfl rfl (by omega) ⟨rfl, rfl, rfl⟩) ?_
      refine d_op ?_
      refine x_run0 [(3, PV.ptr 1 0)] [] rfl rfl rfl rfl (s_fa_ptr tab_71 rfl rfl tab_3 (by decide) rfl ⟨rfl, rfl, rfl⟩) ?_
      refine d_op ?_
      refine x_run [(27, PV.ptr 1 0)] [10] [(1, .obj [pI b.at_, pI b.count])] [] [(1, .obj [pI b.at_, pI b.count])] [] [(2, .obj [pI 0, pI 0]), (1, .obj [pI b.at_, pI b.count]), (0, .obj [pI a.at_, pI a.count])] rfl rfl rfl rfl rfl rfl (s_load_ptr1 tab_3 rfl rfl rfl rfl rfl ⟨rfl, rfl, rfl⟩) rfl ⟨rfl, trivial⟩ rfl rfl ?_
      refine d_op ?_
      refine x_run0 [(3, PV.ptr 1 0)] [] rfl rfl rfl rfl (s_fa_ptr tab_71 rfl rfl tab_3 (by decide) rfl ⟨rfl, rfl, rfl⟩) ?_
      refine d_op ?_
      refine x_run [(29, PV.ptr 1 1)] [12] [(1, .obj [pI b.at_, pI b.count])] [] [(1, .obj [pI b.at_, pI b.count])] [] [(2, .obj [pI 0, pI 0]), (1, .obj [pI b.at_, pI b.count]), (0, .obj [pI a.at_, pI a.count])] rfl rfl rfl rfl rfl rfl (s_load_ptr1 tab_3 rfl rfl rfl rfl rfl ⟨rfl, rfl, rfl⟩) rfl ⟨rfl, trivial⟩ rfl rfl ?_
      refine d_op ?_
      refine x_run0 [(28, pI b.at_), (30, pI b.count)] [10, 11, 12, 13] rfl rfl rfl rfl (s_addi (r := b.at_ + b.count) rfl rfl rfl (by omega) ⟨rfl, rfl, rfl⟩) ?_
      refine d_op ?_
      refine x_run0 [(26, pI (a.at_ + a.count)), (31, pI (b.at_ + b.count))] [5, 6, 7, 8, 9, 10, 11, 12, 13, 14] rfl rfl rfl rfl (s_minI rfl ⟨rfl, rfl, rfl⟩) ?_
      refine d_op ?_
      refine x_run0 [(21, pI (max a.at_ b.at_))] [0, 1, 2, 3, 4] rfl rfl rfl rfl (s_assign rfl ⟨rfl, rfl, rfl⟩) ?_
      refine d_op ?_
      refine x_run0 [(32, pI (min (a.at_ + a.count) (b.at_ + b.count)))] [0, 1, 2, 3, 4, 5, 6, 7, 8, 9, 10, 11, 12, 13, 14, 15, 16] rfl rfl rfl rfl (s_assign rfl ⟨rfl, rfl, rfl⟩) ?_
      refine d_end ⟨by kernel_rfl, ?_⟩
      refine q_then ?_
      refine w_seq ?_
      refine w_seq ?_
      refine w_R ?_
      refine r_op tabOk hnt rfl (s_move rfl ?_) 
      refine r_op tabOk hnt rfl (s_move rfl ?_) 
      refine r_op tabOk hnt rfl (s_geq rfl rfl ?_) 
      refine r_set [(4, PV.ptr 2 0), (6, pI (max a.at_ b.at_)), (7, pI (min (a.at_ + a.count) (b.at_ + b.count))), (35, pB (decide (min (a.at_ + a.count) (b.at_ + b.count) ≤ max a.at_ b.at_)))] [(2, .obj [pI 0, pI 0]), (1, .obj [pI b.at_, pI b.count]), (0, .obj [pI a.at_, pI a.count])] 3 ⟨rfl, rfl, rfl, rfl, trivial⟩ rfl rfl ?_
      refine r_end ?_
      refine q_then ?_
      refine w_if rfl (fun c2 => ?_) (fun c2 => ?_)
      ·
        have c2_ := c2
        try simp only [decide_eq_true_eq, decide_eq_false_iff_not, Bool.not_eq_true', Bool.not_eq_false', Bool.not_true, Bool.not_false, Bool.not_eq_eq_eq_not, Int.not_lt, Int.not_le] at c2
        have em : meetOk a b = false := by simp only [meetOk, ea, eb, Bool.true_and]; apply decide_eq_false; omega
        refine w_seq ?_
        refine w_R ?_
        refine r_op tabOk hnt rfl (s_build tab_71 rfl rfl (b_nil ?_)) 
        refine r_op tabOk hnt rfl (s_store_ptr tab_71 rfl rfl rfl rfl rfl (Nat.le_of_ble_eq_true rfl) ?_) 
        refine r_op tabOk hnt rfl (s_assign rfl ?_) 
        refine r_set [(4, PV.ptr 2 0), (5, pB false)] [(2, .obj [pI 0, pI 0]), (1, .obj [pI b.at_, pI b.count]), (0, .obj [pI a.at_, pI a.count])] 3 ⟨rfl, rfl, trivial⟩ rfl rfl ?_
        refine r_end ?_
        refine q_then ?_
        refine w_leC (n := 2) (j := 0) (y := pI ((meetV a b).at_)) rfl rfl (le_of_eq (congrArg (fun z : Int => pI z) (show 0 = ((meetV a b).at_) by simp [em, meetV]))) ?_
        refine w_leC (n := 2) (j := 1) (y := pI ((meetV a b).count)) rfl rfl (le_of_eq (congrArg (fun z : Int => pI z) (show 0 = ((meetV a b).count) by simp [em, meetV]))) ?_
        refine w_le (s := 5) (y := pB (meetOk a b)) rfl (le_of_eq (congrArg (fun z : Bool => pB z) (show false = (meetOk a b) by simp [em, meetV]))) ?_
        refine w_ret ?_
        refine q_then_ret ?_
        exact fin_plain (ret_cell tab_71 (by decide) rfl rfl (Nat.le_of_ble_eq_true rfl) rfl (ret_tmp rfl ret_nil)) rfl rfl ⟨rfl, rfl, rfl⟩
      ·
        have c2_ := c2
        try simp only [decide_eq_true_eq, decide_eq_false_iff_not, Bool.not_eq_true', Bool.not_eq_false', Bool.not_true, Bool.not_false, Bool.not_eq_eq_eq_not, Int.not_lt, Int.not_le] at c2
        have em : meetOk a b = true := by simp only [meetOk, ea, eb, Bool.true_and]; apply decide_eq_true; omega
        refine w_skip ?_
        refine q_then ?_
        refine w_seq ?_
        refine w_R ?_
        refine r_op tabOk hnt rfl (s_move rfl ?_) 
        refine r_op tabOk hnt rfl (s_move rfl ?_) 
        refine r_op tabOk hnt rfl (s_move rfl ?_) 
        refine r_op tabOk hnt rfl (s_subi (r := (min (a.at_ + a.count) (b.at_ + b.count)) - (max a.at_ b.at_)) rfl rfl rfl (by omega) ?_) 
        refine r_op tabOk hnt rfl (s_build tab_71 rfl rfl (b_cons rfl tab_3 rfl rfl rfl (Nat.le_of_ble_eq_true rfl) (b_cons rfl tab_3 rfl rfl rfl (Nat.le_of_ble_eq_true rfl) (b_nil ?_)))) 
        refine r_op tabOk hnt rfl (s_store_ptr tab_71 rfl rfl rfl rfl rfl (Nat.le_of_ble_eq_true rfl) ?_) 
        refine r_op tabOk hnt rfl (s_assign rfl ?_) 
        refine r_set [(4, PV.ptr 2 0), (5, pB true)] [(2, .obj [pI (max a.at_ b.at_), pI ((min (a.at_ + a.count) (b.at_ + b.count)) - (max a.at_ b.at_))]), (1, .obj [pI b.at_, pI b.count]), (0, .obj [pI a.at_, pI a.count])] 3 ⟨rfl, rfl, trivial⟩ rfl rfl ?_
        refine r_end ?_
        refine q_then ?_
        refine w_leC (n := 2) (j := 0) (y := pI ((meetV a b).at_)) rfl rfl (le_of_eq (congrArg (fun z : Int => pI z) (show (max a.at_ b.at_) = ((meetV a b).at_) by simp [em, meetV]))) ?_
        refine w_leC (n := 2) (j := 1) (y := pI ((meetV a b).count)) rfl rfl (le_of_eq (congrArg (fun z : Int => pI z) (show ((min (a.at_ + a.count) (b.at_ + b.count)) - (max a.at_ b.at_)) = ((meetV a b).count) by simp [em, meetV]))) ?_
        refine w_le (s := 5) (y := pB (meetOk a b)) rfl (le_of_eq (congrArg (fun z : Bool => pB z) (show true = (meetOk a b) by simp [em, meetV]))) ?_
        refine w_ret ?_
        exact fin_plain (ret_cell tab_71 (by decide) rfl rfl (Nat.le_of_ble_eq_true rfl) rfl (ret_tmp rfl ret_nil)) rfl rfl ⟨rfl, rfl, rfl⟩
  ·
    have g1' := g1
    try simp only [decide_eq_true_eq, decide_eq_false_iff_not, Bool.not_eq_true', Bool.not_eq_false', Bool.not_true, Bool.not_false, Bool.not_eq_eq_eq_not, Int.not_lt, Int.not_le] at g1'
    have ea : spOk a = false := by simpa using g1
    have em : meetOk a b = false := by simp [meetOk, ea]
    refine r_if tabOk hnt rfl rfl rfl (fun e => absurd (e.symm.trans g1) (by decide)) (fun _ => ?_)
    refine r_if tabOk hnt rfl rfl rfl (fun e => absurd (e.symm.trans g1) (by decide)) (fun _ => ?_)
    refine r_op tabOk hnt rfl (s_pick_t rfl g1 rfl ?_) 
    refine r_end ?_
    refine q_then ?_
    refine w_if rfl (fun _ => ?_) (fun e => absurd e (by decide))
    refine w_seq ?_
    refine w_R ?_
    refine r_op tabOk hnt rfl (s_build tab_71 rfl rfl (b_nil ?_)) 
    refine r_op tabOk hnt rfl (s_store_ptr tab_71 rfl rfl rfl rfl rfl (Nat.le_of_ble_eq_true rfl) ?_) 
    refine r_op tabOk hnt rfl (s_assign rfl ?_) 
    refine r_set [(4, PV.ptr 2 0), (5, pB false)] [(2, .obj [pI 0, pI 0]), (1, .obj [pI b.at_, pI b.count]), (0, .obj [pI a.at_, pI a.count])] 3 ⟨rfl, rfl, trivial⟩ rfl rfl ?_
    refine r_end ?_
    refine q_then ?_
    refine w_leC (n := 2) (j := 0) (y := pI ((meetV a b).at_)) rfl rfl (le_of_eq (congrArg (fun z : Int => pI z) (show 0 = ((meetV a b).at_) by simp [em, meetV]))) ?_
    refine w_leC (n := 2) (j := 1) (y := pI ((meetV a b).count)) rfl rfl (le_of_eq (congrArg (fun z : Int => pI z) (show 0 = ((meetV a b).count) by simp [em, meetV]))) ?_
    refine w_le (s := 5) (y := pB (meetOk a b)) rfl (le_of_eq (congrArg (fun z : Bool => pB z) (show false = (meetOk a b) by simp [em, meetV]))) ?_
    refine w_ret ?_
    refine q_then_ret ?_
    exact fin_plain (ret_cell tab_71 (by decide) rfl rfl (Nat.le_of_ble_eq_true rfl) rfl (ret_tmp rfl ret_nil)) rfl rfl ⟨rfl, rfl, rfl⟩

theorem w_span_In (a : TSpan) (b : TSpan)  :
    T Try.prog 35 [PV.f (eSpan a), PV.f (eSpan b)] 0 [] (Ret (pB (spIn a b)) 0 []) := by
  refine t_fun tabOk (n := 19) (rs := [.tmp 4]) Try.func35 rfl rfl rfl rfl (Nat.le_of_ble_eq_true rfl) ?_
  intro c hnt hk
  refine w_seq ?_
  refine w_R ?_
  refine r_op tabOk hnt rfl (s_box rfl rfl ?_) 
  refine r_op tabOk hnt rfl (s_box rfl rfl ?_) 
  refine r_op tabOk hnt rfl (s_assign rfl ?_) 
  refine r_set [(2, PV.ptr 0 0), (3, PV.ptr 1 0)] [(1, .obj [pI b.at_, pI b.count]), (0, .obj [pI a.at_, pI a.count])] 2 ⟨rfl, rfl, trivial⟩ rfl rfl ?_
  refine r_end ?_
  refine q_then ?_
  refine w_seq ?_
  refine w_R ?_
  refine r_op tabOk hnt rfl (s_load_ptr tab_53 rfl rfl rfl (Nat.le_of_ble_eq_true rfl) ?_) 
  refine r_op tabOk hnt rfl (s_load_ptr tab_53 rfl rfl rfl (Nat.le_of_ble_eq_true rfl) ?_) 
  refine r_op tabOk hnt rfl (s_callF rfl rfl rfl (w_span_Meet a b) rfl ?_) 
  refine r_op tabOk hnt rfl (s_move rfl ?_) 
  refine r_op tabOk hnt rfl (s_extract rfl rfl ?_) 
  refine r_op tabOk hnt rfl (s_extract rfl rfl ?_) 
  refine r_op tabOk hnt rfl (s_alloc tab_53 ?_) 
  refine r_op tabOk hnt rfl (s_store_ptr tab_53 rfl rfl rfl rfl rfl (Nat.le_of_ble_eq_true rfl) ?_) 
  refine r_op tabOk hnt rfl (s_assign rfl ?_) 
  refine r_set [(2, PV.ptr 0 0), (5, PV.ptr 2 0), (6, pB (meetOk a b))] [(2, .obj [pI ((meetV a b).at_), pI ((meetV a b).count)]), (1, .obj [pI b.at_, pI b.count]), (0, .obj [pI a.at_, pI a.count])] 3 ⟨rfl, rfl, rfl, trivial⟩ rfl rfl ?_
  refine r_end ?_
  refine q_then ?_
  refine w_seq ?_
  refine w_R ?_
  refine r_op tabOk hnt rfl (s_move rfl ?_) 
  refine r_op tabOk hnt rfl (s_move rfl ?_) 
  refine r_if tabOk hnt rfl rfl rfl (fun g1 => ?_) (fun g1 => ?_)
  ·
    have g1' := g1
    try simp only [decide_eq_true_eq, decide_eq_false_iff_not, Bool.not_eq_true', Bool.not_eq_false', Bool.not_true, Bool.not_false, Bool.not_eq_eq_eq_not, Int.not_lt, Int.not_le] at g1'
    have em := g1
    refine r_op tabOk hnt rfl (s_load_ptr tab_53 rfl rfl rfl (Nat.le_of_ble_eq_true rfl) ?_) 
    refine r_if tabOk hnt rfl rfl rfl (fun _ => ?_) (fun e => absurd (e.symm.trans g1) (by decide))
    refine r_op tabOk hnt rfl (s_load_ptr tab_53 rfl rfl rfl (Nat.le_of_ble_eq_true rfl) ?_) 
    refine r_if tabOk hnt rfl rfl rfl (fun _ => ?_) (fun e => absurd (e.symm.trans g1) (by decide))
    refine r_op tabOk hnt rfl (s_eqstruct (r := decide ((meetV a b).at_ = a.at_) && (decide ((meetV a b).count = a.count) && true)) seq_53 rfl rfl rfl rfl (by rfl) ?_) 
    refine r_op tabOk hnt rfl (s_pick_t rfl g1 rfl ?_) 
    refine r_op tabOk hnt rfl (s_assign rfl ?_) 
    refine r_end ?_
    refine q_then ?_
    refine w_le (s := 4) (y := pB (spIn a b)) rfl (le_of_eq (congrArg (fun z : Bool => pB z) (show (decide ((meetV a b).at_ = a.at_) && (decide ((meetV a b).count = a.count) && true)) = (spIn a b) by first | (unfold spIn; rw [em]; simp; done) | (unfold spIn; rw [em, ← spEq]; rfl)))) ?_
    refine w_ret ?_
    exact fin_plain (ret_tmp rfl ret_nil) rfl rfl ⟨rfl, rfl, rfl⟩
  ·
    have g1' := g1
    try simp only [decide_eq_true_eq, decide_eq_false_iff_not, Bool.not_eq_true', Bool.not_eq_false', Bool.not_true, Bool.not_false, Bool.not_eq_eq_eq_not, Int.not_lt, Int.not_le] at g1'
    have em := g1
    refine r_if tabOk hnt rfl rfl rfl (fun e => absurd (e.symm.trans g1) (by decide)) (fun _ => ?_)
    refine r_if tabOk hnt rfl rfl rfl (fun e => absurd (e.symm.trans g1) (by decide)) (fun _ => ?_)
    refine r_op tabOk hnt rfl (s_pick_f rfl g1 rfl ?_) 
    refine r_op tabOk hnt rfl (s_assign rfl ?_) 
    refine r_end ?_
    refine q_then ?_
    refine w_le (s := 4) (y := pB (spIn a b)) rfl (le_of_eq (congrArg (fun z : Bool => pB z) (show false = (spIn a b) by first | (unfold spIn; rw [em]; simp; done) | (unfold spIn; rw [em, ← spEq]; rfl)))) ?_
    refine w_ret ?_
    exact fin_plain (ret_tmp rfl ret_nil) rfl rfl ⟨rfl, rfl, rfl⟩

theorem w_burgageref7_In (a : TSpan) (b : TSpan)  :
    T Try.prog 48 [PV.f (eSpan a), PV.f (eSpan b)] 0 [] (Ret (pB (spIn a b)) 0 []) := by
  refine t_fun tabOk (n := 19) (rs := [.tmp 4]) Try.func48 rfl rfl rfl rfl (Nat.le_of_ble_eq_true rfl) ?_
  intro c hnt hk
  refine w_seq ?_
  refine w_R ?_
  refine r_op tabOk hnt rfl (s_box rfl rfl ?_) 
  refine r_op tabOk hnt rfl (s_box rfl rfl ?_) 
  refine r_op tabOk hnt rfl (s_assign rfl ?_) 
  refine r_set [(2, PV.ptr 0 0), (3, PV.ptr 1 0)] [(1, .obj [pI b.at_, pI b.count]), (0, .obj [pI a.at_, pI a.count])] 2 ⟨rfl, rfl, trivial⟩ rfl rfl ?_
  refine r_end ?_
  refine q_then ?_
  refine w_seq ?_
  refine w_R ?_
  refine r_op tabOk hnt rfl (s_load_ptr tab_71 rfl rfl rfl (Nat.le_of_ble_eq_true rfl) ?_) 
  refine r_op tabOk hnt rfl (s_load_ptr tab_71 rfl rfl rfl (Nat.le_of_ble_eq_true rfl) ?_) 
  refine r_op tabOk hnt rfl (s_callF rfl rfl rfl (w_burgageref7_Meet a b) rfl ?_) 
  refine r_op tabOk hnt rfl (s_move rfl ?_) 
  refine r_op tabOk hnt rfl (s_extract rfl rfl ?_) 
  refine r_op tabOk hnt rfl (s_extract rfl rfl ?_) 
  refine r_op tabOk hnt rfl (s_alloc tab_71 ?_) 
  refine r_op tabOk hnt rfl (s_store_ptr tab_71 rfl rfl rfl rfl rfl (Nat.le_of_ble_eq_true rfl) ?_) 
  refine r_op tabOk hnt rfl (s_assign rfl ?_) 
  refine r_set [(2, PV.ptr 0 0), (5, PV.ptr 2 0), (6, pB (meetOk a b))] [(2, .obj [pI ((meetV a b).at_), pI ((meetV a b).count)]), (1, .obj [pI b.at_, pI b.count]), (0, .obj [pI a.at_, pI a.count])] 3 ⟨rfl, rfl, rfl, trivial⟩ rfl rfl ?_
  refine r_end ?_
  refine q_then ?_
  refine w_seq ?_
  refine w_R ?_
  refine r_op tabOk hnt rfl (s_move rfl ?_) 
  refine r_op tabOk hnt rfl (s_move rfl ?_) 
  refine r_if tabOk hnt rfl rfl rfl (fun g1 => ?_) (fun g1 => ?_)
  ·
    have g1' := g1
    try simp only [decide_eq_true_eq, decide_eq_false_iff_not, Bool.not_eq_true', Bool.not_eq_false', Bool.not_true, Bool.not_false, Bool.not_eq_eq_eq_not, Int.not_lt, Int.not_le] at g1'
    have em := g1
    refine r_op tabOk hnt rfl (s_load_ptr tab_71 rfl rfl rfl (Nat.le_of_ble_eq_true rfl) ?_) 
    refine r_if tabOk hnt rfl rfl rfl (fun _ => ?_) (fun e => absurd (e.symm.trans g1) (by decide))
    refine r_op tabOk hnt rfl (s_load_ptr tab_71 rfl rfl rfl (Nat.le_of_ble_eq_true rfl) ?_) 
    refine r_if tabOk hnt rfl rfl rfl (fun _ => ?_) (fun e => absurd (e.symm.trans g1) (by decide))
    refine r_op tabOk hnt rfl (s_eqstruct (r := decide ((meetV a b).at_ = a.at_) && (decide ((meetV a b).count = a.count) && true)) seq_71 rfl rfl rfl rfl (by rfl) ?_) 
    refine r_op tabOk hnt rfl (s_pick_t rfl g1 rfl ?_) 
    refine r_op tabOk hnt rfl (s_assign rfl ?_) 
    refine r_end ?_
    refine q_then ?_
    refine w_le (s := 4) (y := pB (spIn a b)) rfl (le_of_eq (congrArg (fun z : Bool => pB z) (show (decide ((meetV a b).at_ = a.at_) && (decide ((meetV a b).count = a.count) && true)) = (spIn a b) by first | (unfold spIn; rw [em]; simp; done) | (unfold spIn; rw [em, ← spEq]; rfl)))) ?_
    refine w_ret ?_
    exact fin_plain (ret_tmp rfl ret_nil) rfl rfl ⟨rfl, rfl, rfl⟩
  ·
    have g1' := g1
    try simp only [decide_eq_true_eq, decide_eq_false_iff_not, Bool.not_eq_true', Bool.not_eq_false', Bool.not_true, Bool.not_false, Bool.not_eq_eq_eq_not, Int.not_lt, Int.not_le] at g1'
    have em := g1
    refine r_if tabOk hnt rfl rfl rfl (fun e => absurd (e.symm.trans g1) (by decide)) (fun _ => ?_)
    refine r_if tabOk hnt rfl rfl rfl (fun e => absurd (e.symm.trans g1) (by decide)) (fun _ => ?_)
    refine r_op tabOk hnt rfl (s_pick_f rfl g1 rfl ?_) 
    refine r_op tabOk hnt rfl (s_assign rfl ?_) 
    refine r_end ?_
    refine q_then ?_
    refine w_le (s := 4) (y := pB (spIn a b)) rfl (le_of_eq (congrArg (fun z : Bool => pB z) (show false = (spIn a b) by first | (unfold spIn; rw [em]; simp; done) | (unfold spIn; rw [em, ← spEq]; rfl)))) ?_
    refine w_ret ?_
    exact fin_plain (ret_tmp rfl ret_nil) rfl rfl ⟨rfl, rfl, rfl⟩

theorem w_span_Cover_1 (x : TSpan)  :
    T Try.prog 56 [PV.f (eSpan x)] 0 [] (Ret (pB (!(spOk x))) 0 []) := by
  refine t_fun tabOk (n := 6) (rs := [.tmp 2]) Try.func56 rfl rfl rfl rfl (Nat.le_of_ble_eq_true rfl) ?_
  intro c hnt hk
  refine w_seq ?_
  refine w_R ?_
  refine r_op tabOk hnt rfl (s_box rfl rfl ?_) 
  refine r_op tabOk hnt rfl (s_assign rfl ?_) 
  refine r_set [(1, PV.ptr 0 0)] [(0, .obj [pI x.at_, pI x.count])] 1 ⟨rfl, trivial⟩ rfl rfl ?_
  refine r_end ?_
  refine q_then ?_
  refine w_seq ?_
  refine w_R ?_
  refine r_op tabOk hnt rfl (s_load_ptr tab_53 rfl rfl rfl (Nat.le_of_ble_eq_true rfl) ?_) 
  refine r_op tabOk hnt rfl (s_callF rfl rfl rfl (w_span_right x) rfl ?_) 
  refine r_op tabOk hnt rfl (s_not rfl ?_) 
  refine r_op tabOk hnt rfl (s_assign rfl ?_) 
  refine r_end ?_
  refine q_then ?_
  refine w_ret ?_
  exact fin_plain (ret_tmp rfl ret_nil) rfl rfl ⟨rfl, rfl, rfl⟩

theorem w_span_Cover_2 (x : TSpan) (v : Int) (hx : spOk x = true) :
    T Try.prog 58 [PV.f (eSpan x), PV.ptr 0 0] 1 [(0, .obj [pI v])] (Ret (pB (decide (x.at_ ≤ v) && decide (v < x.at_ + x.count))) 1 [(0, .obj [pI v])]) := by
  refine t_fun tabOk (n := 14) (rs := [.tmp 3]) Try.func58 rfl rfl rfl rfl (Nat.le_of_ble_eq_true rfl) ?_
  intro c hnt hk
  refine w_seq ?_
  refine w_R ?_
  refine r_op tabOk hnt rfl (s_box rfl rfl ?_) 
  refine r_op tabOk hnt rfl (s_assign rfl ?_) 
  refine r_set [(1, PV.ptr 0 0), (2, PV.ptr 1 0)] [(1, .obj [pI x.at_, pI x.count]), (0, .obj [pI v])] 2 ⟨rfl, rfl, trivial⟩ rfl rfl ?_
  refine r_end ?_
  refine q_then ?_
  refine w_seq ?_
  refine W_drawn tabOk mixed hnt [[], [], [1], [0, 1, 2], [0, 1, 2, 3], [0, 1, 2, 3, 4], [0, 1, 2, 3, 4], [0, 1, 2, 3, 4, 6], [0, 1, 2, 3, 4, 5, 6, 7], [0, 1, 2, 3, 4, 5, 6, 7, 8], [0, 1, 2, 3, 4, 5, 6, 7, 8, 9]] (by kernel_rfl) ?_
  refine d_op ?_
  refine x_run [(1, PV.ptr 0 0)] [] [(0, .obj [pI v])] [] [(0, .obj [pI v])] [] [(1, .obj [pI x.at_, pI x.count]), (0, .obj [pI v])] rfl rfl rfl rfl rfl rfl (s_load_ptr1 tab_3 rfl rfl rfl rfl rfl ⟨rfl, rfl, rfl⟩) rfl ⟨rfl, trivial⟩ rfl rfl ?_
  refine d_op ?_
  refine x_run0 [(2, PV.ptr 1 0)] [] rfl rfl rfl rfl (s_fa_ptr tab_53 rfl rfl tab_3 (by decide) rfl ⟨rfl, rfl, rfl⟩) ?_
  refine d_op ?_
  refine x_run [(5, PV.ptr 1 0)] [1] [(1, .obj [pI x.at_, pI x.count])] [] [(1, .obj [pI x.at_, pI x.count])] [] [(1, .obj [pI x.at_, pI x.count]), (0, .obj [pI v])] rfl rfl rfl rfl rfl rfl (s_load_ptr1 tab_3 rfl rfl rfl rfl rfl ⟨rfl, rfl, rfl⟩) rfl ⟨rfl, trivial⟩ rfl rfl ?_
  refine d_op ?_
  refine x_run0 [(4, pI v), (6, pI x.at_)] [0, 1, 2] rfl rfl rfl rfl (s_geq rfl rfl ⟨rfl, rfl, rfl⟩) ?_
  refine d_op ?_
  refine x_run0 [(7, pB (decide (x.at_ ≤ v)))] [0, 1, 2, 3] rfl rfl rfl rfl (s_move rfl ⟨rfl, rfl, rfl⟩) ?_
  refine x_if [(8, pB (decide (x.at_ ≤ v))), (1, PV.ptr 0 0)] [0, 1, 2, 3, 4] rfl rfl rfl rfl (fun g1 => ?_) (fun g1 => ?_)
  ·
    have g1' := g1
    try simp only [decide_eq_true_eq, decide_eq_false_iff_not, Bool.not_eq_true', Bool.not_eq_false', Bool.not_true, Bool.not_false, Bool.not_eq_eq_eq_not, Int.not_lt, Int.not_le] at g1'
    refine x_run [(8, pB (decide (x.at_ ≤ v))), (1, PV.ptr 0 0)] [0, 1, 2, 3, 4] [(0, .obj [pI v])] [] [(0, .obj [pI v])] [] [(1, .obj [pI x.at_, pI x.count]), (0, .obj [pI v])] rfl rfl rfl rfl rfl rfl (s_load_ptr1 tab_3 rfl rfl rfl rfl rfl ⟨rfl, rfl, rfl⟩) rfl ⟨rfl, trivial⟩ rfl rfl ?_
    refine x_if [(8, pB (decide (x.at_ ≤ v))), (2, PV.ptr 1 0)] [0, 1, 2, 3, 4] rfl rfl rfl rfl (fun _ => ?_) (fun e => absurd (e.symm.trans g1) (by decide))
    refine x_run [(8, pB (decide (x.at_ ≤ v))), (2, PV.ptr 1 0)] [0, 1, 2, 3, 4] [(1, .obj [pI x.at_, pI x.count])] [] [(1, .obj [pI x.at_, pI x.count])] [] [(1, .obj [pI x.at_, pI x.count]), (0, .obj [pI v])] rfl rfl rfl rfl rfl rfl (s_load_ptr tab_53 rfl rfl rfl (Nat.le_of_ble_eq_true rfl) ⟨rfl, rfl, rfl⟩) rfl ⟨rfl, trivial⟩ rfl rfl ?_
    refine x_if [(8, pB (decide (x.at_ ≤ v))), (10, PV.f (.agg [encI x.at_, encI x.count]))] [0, 1, 2, 3, 4, 6] rfl rfl rfl rfl (fun _ => ?_) (fun e => absurd (e.symm.trans g1) (by decide))
    refine x_run0 [(8, pB (decide (x.at_ ≤ v))), (10, PV.f (.agg [encI x.at_, encI x.count]))] [0, 1, 2, 3, 4, 6] rfl rfl rfl rfl (s_callF rfl rfl rfl (w_span_Span_end x (by first | omega | assumption | (simp; omega) | decide | (simp; done))) rfl ⟨rfl, rfl, rfl⟩) ?_
    refine x_if [(8, pB (decide (x.at_ ≤ v))), (9, pI v), (11, pI (x.at_ + x.count))] [0, 1, 2, 3, 4, 5, 6, 7] rfl rfl rfl rfl (fun _ => ?_) (fun e => absurd (e.symm.trans g1) (by decide))
    refine x_run0 [(8, pB (decide (x.at_ ≤ v))), (9, pI v), (11, pI (x.at_ + x.count))] [0, 1, 2, 3, 4, 5, 6, 7] rfl rfl rfl rfl (s_lss rfl rfl ⟨rfl, rfl, rfl⟩) ?_
    refine d_op ?_
    refine x_run0 [(8, pB (decide (x.at_ ≤ v))), (12, pB (decide (v < x.at_ + x.count)))] [0, 1, 2, 3, 4, 5, 6, 7, 8] rfl rfl rfl rfl (s_pick_t rfl g1 rfl ⟨rfl, rfl, rfl⟩) ?_
    refine d_op ?_
    refine x_run0 [(13, pB (decide (v < x.at_ + x.count)))] [0, 1, 2, 3, 4, 5, 6, 7, 8, 9] rfl rfl rfl rfl (s_assign rfl ⟨rfl, rfl, rfl⟩) ?_
    refine d_end ⟨by kernel_rfl, ?_⟩
    refine q_then ?_
    refine w_le (s := 3) (y := pB (decide (x.at_ ≤ v) && decide (v < x.at_ + x.count))) rfl (le_of_eq (congrArg (fun z : Bool => pB z) (show (decide (v < x.at_ + x.count)) = (decide (x.at_ ≤ v) && decide (v < x.at_ + x.count)) by first | rfl | (simp_all; done) | (simp_all; omega)))) ?_
    refine w_ret ?_
    exact fin_names (nx1 := 1) (H1 := [(0, .obj [pI v])]) [(0, 0)] (ret_tmp rfl ret_nil) rfl (by decide) ⟨⟨_, _, rfl, rfl, rfl, rfl⟩, trivial⟩ (by decide) rfl ⟨rfl, rfl, rfl⟩
  ·
    have g1' := g1
    try simp only [decide_eq_true_eq, decide_eq_false_iff_not, Bool.not_eq_true', Bool.not_eq_false', Bool.not_true, Bool.not_false, Bool.not_eq_eq_eq_not, Int.not_lt, Int.not_le] at g1'
    refine x_if [(8, pB (decide (x.at_ ≤ v))), (2, PV.ptr 1 0)] [0, 1, 2, 3, 4] rfl rfl rfl rfl (fun e => absurd (e.symm.trans g1) (by decide)) (fun _ => ?_)
    refine x_if [(8, pB (decide (x.at_ ≤ v))), (10, undefP)] [0, 1, 2, 3, 4, 6] rfl rfl rfl rfl (fun e => absurd (e.symm.trans g1) (by decide)) (fun _ => ?_)
    refine x_if [(8, pB (decide (x.at_ ≤ v))), (9, undefP), (11, undefP)] [0, 1, 2, 3, 4, 5, 6, 7] rfl rfl rfl rfl (fun e => absurd (e.symm.trans g1) (by decide)) (fun _ => ?_)
    refine d_op ?_
    refine x_run0 [(8, pB (decide (x.at_ ≤ v))), (12, undefP)] [0, 1, 2, 3, 4, 5, 6, 7, 8] rfl rfl rfl rfl (s_pick_f rfl g1 rfl ⟨rfl, rfl, rfl⟩) ?_
    refine d_op ?_
    refine x_run0 [(13, pB false)] [0, 1, 2, 3, 4, 5, 6, 7, 8, 9] rfl rfl rfl rfl (s_assign rfl ⟨rfl, rfl, rfl⟩) ?_
    refine d_end ⟨by kernel_rfl, ?_⟩
    refine q_then ?_
    refine w_le (s := 3) (y := pB (decide (x.at_ ≤ v) && decide (v < x.at_ + x.count))) rfl (le_of_eq (congrArg (fun z : Bool => pB z) (show false = (decide (x.at_ ≤ v) && decide (v < x.at_ + x.count)) by first | rfl | (simp_all; done) | (simp_all; omega)))) ?_
    refine w_ret ?_
    exact fin_names (nx1 := 1) (H1 := [(0, .obj [pI v])]) [(0, 0)] (ret_tmp rfl ret_nil) rfl (by decide) ⟨⟨_, _, rfl, rfl, rfl, rfl⟩, trivial⟩ (by decide) rfl ⟨rfl, rfl, rfl⟩

theorem w_slices_IndexFunc_span_Span_span_Span_c1 (s : List TSpan) (cl_s : Bool) (hs : s.length ≤ 140737488351232) :
    T Try.prog 57 [pS 2 cl_s eSpan s, PV.clo (.func 56) []] 0 [] (Ret (pI (idxI (s.findIdx? fun x => !(spOk x)))) 0 []) := by
  refine t_fun tabOk (n := 19) (rs := [.tmp 4]) Try.func57 rfl rfl rfl rfl (Nat.le_of_ble_eq_true rfl) ?_
  intro c hnt hk
  refine w_seq ?_
  refine w_R ?_
  refine r_op tabOk hnt rfl (s_assign rfl ?_) 
  refine r_end ?_
  refine q_then ?_
  refine w_seq ?_
  refine w_seq ?_
  refine w_R ?_
  refine r_op tabOk hnt rfl (s_move rfl ?_) 
  refine r_op tabOk hnt rfl (s_lenM (l := s) tab_56 rfl (hM_sl (f := eSpan) rfl) ?_) 
  refine r_op tabOk hnt rfl (s_move rfl ?_) 
  refine r_end ?_
  refine q_then ?_
  refine w_block ?_
  refine loop1 (fun (i : Nat) => i ≤ s.length ∧ ∀ j x, j < i → s[j]? = some x → (!(spOk x)) = false) (fun (i : Nat) => [(0, pS 2 cl_s eSpan s), (1, PV.clo (.func 56) []), (7, pN s.length), (8, pN i)]) 0 (fun (i : Nat) => []) (fun (i : Nat) => s.length - i) (0) ?_ ⟨[], rfl, ⟨⟨_, rfl, rfl, rfl⟩, ⟨_, rfl, rfl, rfl⟩, ⟨_, rfl, rfl, rfl⟩, ⟨_, rfl, rfl, rfl⟩, trivial⟩, trivial, by rw [hk]; decide⟩ ?_
  · exact ⟨Nat.zero_le _, fun j x hj => by omega⟩
  ·
    intro i hI
    obtain ⟨hi, ht⟩ := hI
    refine w_seq ?_
    refine w_R ?_
    refine r_op tabOk hnt rfl (s_lss rfl rfl ?_) 
    refine r_end ?_
    refine q_then ?_
    refine w_seq ?_
    refine w_if rfl (fun c1 => ?_) (fun c1 => ?_)
    ·
      have c1_ := c1
      try simp only [decide_eq_true_eq, decide_eq_false_iff_not, Bool.not_eq_true', Bool.not_eq_false', Bool.not_true, Bool.not_false, Bool.not_eq_eq_eq_not, Int.not_lt, Int.not_le] at c1
      refine w_skip ?_
      refine q_then ?_
      refine w_seq ?_
      refine w_block ?_
      refine w_seq ?_
      refine w_R ?_
      refine r_op tabOk hnt rfl (s_move rfl ?_) 
      refine r_op tabOk hnt rfl (s_assign rfl ?_) 
      refine r_end ?_
      refine q_then ?_
      refine w_seq ?_
      refine w_R ?_
      refine r_op tabOk hnt rfl (s_move rfl ?_) 
      refine r_op tabOk hnt rfl (s_move rfl ?_) 
      refine r_op tabOk hnt rfl (s_move rfl ?_) 
      obtain ⟨e1, he1⟩ := get_of_lt s (i := i) (by omega)
      refine r_op tabOk hnt rfl (s_iaM (q := i) (b := e1) (f := eSpan) tab_56 rfl tab_53 rfl rfl (by omega) rfl he1 ?_) 
      refine r_op tabOk hnt rfl (s_load_ro tab_53 rfl rfl rfl ?_) 
      refine r_op tabOk hnt rfl (s_callF rfl rfl rfl (w_span_Cover_1 e1) rfl ?_) 
      refine r_end ?_
      refine q_then ?_
      refine w_if rfl (fun c2 => ?_) (fun c2 => ?_)
      ·
        have c2_ := c2
        try simp only [decide_eq_true_eq, decide_eq_false_iff_not, Bool.not_eq_true', Bool.not_eq_false', Bool.not_true, Bool.not_false, Bool.not_eq_eq_eq_not, Int.not_lt, Int.not_le] at c2
        refine w_seq ?_
        refine w_R ?_
        refine r_op tabOk hnt rfl (s_move rfl ?_) 
        refine r_op tabOk hnt rfl (s_assign rfl ?_) 
        refine r_end ?_
        refine q_then ?_
        refine w_le (s := 4) (y := pI (idxI (s.findIdx? fun x => !(spOk x)))) rfl (le_of_eq (congrArg (fun z : Int => pI z) (show ((i : Nat) : Int) = (idxI (s.findIdx? fun x => !(spOk x))) by rw [find_step (p := fun x => !(spOk x)) ht he1 c2_]))) ?_
        refine w_ret ?_
        refine q_block_ret ?_
        refine q_then_ret ?_
        refine q_then_ret ?_
        refine q_block_ret ?_
        refine q_then_ret ?_
        exact fin_plain (ret_tmp rfl ret_nil) rfl rfl ⟨rfl, rfl, rfl⟩
      ·
        have c2_ := c2
        try simp only [decide_eq_true_eq, decide_eq_false_iff_not, Bool.not_eq_true', Bool.not_eq_false', Bool.not_true, Bool.not_false, Bool.not_eq_eq_eq_not, Int.not_lt, Int.not_le] at c2
        refine w_skip ?_
        refine q_block ?_
        refine q_then ?_
        refine w_R ?_
        refine r_op tabOk hnt rfl (s_addN (a := i) (b := 1) rfl rfl (by omega) (by omega) (by omega) ?_) 
        refine r_op tabOk hnt rfl (s_move rfl ?_) 
        refine r_end ?_
        refine q_then ?_
        refine ⟨(i + 1), ?_, ?_, ⟨[], rfl, ⟨⟨_, rfl, rfl, rfl⟩, ⟨_, rfl, rfl, rfl⟩, ⟨_, rfl, rfl, rfl⟩, ⟨_, rfl, rfl, rfl⟩, trivial⟩, trivial, by rw [hk]; decide⟩⟩
        ·
          refine ⟨by omega, fun j x hj hx => ?_⟩
          by_cases hji : j < i
          · exact ht j x hji hx
          · obtain rfl : j = i := by omega
            rw [he1] at hx; cases hx; first | exact c2_ | simpa using c2_
        · omega
    ·
      have c1_ := c1
      try simp only [decide_eq_true_eq, decide_eq_false_iff_not, Bool.not_eq_true', Bool.not_eq_false', Bool.not_true, Bool.not_false, Bool.not_eq_eq_eq_not, Int.not_lt, Int.not_le] at c1
      refine w_exit ?_
      refine q_then_exit ?_
      refine q_then_exit ?_
      refine q_block_exit ?_
      refine q_then ?_
      refine w_seq ?_
      refine w_R ?_
      refine r_op tabOk hnt rfl (s_assign rfl ?_) 
      refine r_end ?_
      refine q_then ?_
      refine w_le (s := 4) (y := pI (idxI (s.findIdx? fun x => !(spOk x)))) rfl (le_of_eq (congrArg (fun z : Int => pI z) (show (-1) = (idxI (s.findIdx? fun x => !(spOk x))) by rw [find_none (p := fun x => !(spOk x)) (fun j x hj hx => ht j x (by omega) hx)]))) ?_
      refine w_ret ?_
      exact fin_plain (ret_tmp rfl ret_nil) rfl rfl ⟨rfl, rfl, rfl⟩

theorem w_slices_IndexFunc_span_Span_span_Span_c2 (s : List TSpan) (cl_s : Bool) (v : Int) (hs : s.length ≤ 140737488351232) (hg : ∀ x ∈ s, spOk x = true) :
    T Try.prog 57 [pS 2 cl_s eSpan s, PV.clo (.func 58) [PV.ptr 0 0]] 1 [(0, .obj [pI v])] (Ret (pI (idxI (idxAt s v))) 1 [(0, .obj [pI v])]) := by
  refine t_fun tabOk (n := 19) (rs := [.tmp 4]) Try.func57 rfl rfl rfl rfl (Nat.le_of_ble_eq_true rfl) ?_
  intro c hnt hk
  refine w_seq ?_
  refine w_R ?_
  refine r_op tabOk hnt rfl (s_assign rfl ?_) 
  refine r_end ?_
  refine q_then ?_
  refine w_seq ?_
  refine w_seq ?_
  refine w_R ?_
  refine r_op tabOk hnt rfl (s_move rfl ?_) 
  refine r_op tabOk hnt rfl (s_lenM (l := s) tab_56 rfl (hM_sl (f := eSpan) rfl) ?_) 
  refine r_op tabOk hnt rfl (s_move rfl ?_) 
  refine r_end ?_
  refine q_then ?_
  refine w_block ?_
  refine loop1 (fun (i : Nat) => i ≤ s.length ∧ ∀ j x, j < i → s[j]? = some x → (decide (x.at_ ≤ v) && decide (v < x.at_ + x.count)) = false) (fun (i : Nat) => [(0, pS 2 cl_s eSpan s), (1, PV.clo (.func 58) [PV.ptr 0 0]), (7, pN s.length), (8, pN i)]) 1 (fun (i : Nat) => [(0, .obj [pI v])]) (fun (i : Nat) => s.length - i) (0) ?_ ⟨[(0, 0)], by rw [hk]; decide, ⟨⟨_, rfl, rfl, rfl⟩, ⟨_, rfl, rfl, rfl⟩, ⟨_, rfl, rfl, rfl⟩, ⟨_, rfl, rfl, rfl⟩, trivial⟩, ⟨⟨_, _, rfl, rfl, rfl, rfl⟩, trivial⟩, by rw [hk]; decide⟩ ?_
  · exact ⟨Nat.zero_le _, fun j x hj => by omega⟩
  ·
    intro i hI
    obtain ⟨hi, ht⟩ := hI
    refine w_seq ?_
    refine w_R ?_
    refine r_op tabOk hnt rfl (s_lss rfl rfl ?_) 
    refine r_end ?_
    refine q_then ?_
    refine w_seq ?_
    refine w_if rfl (fun c1 => ?_) (fun c1 => ?_)
    ·
      have c1_ := c1
      try simp only [decide_eq_true_eq, decide_eq_false_iff_not, Bool.not_eq_true', Bool.not_eq_false', Bool.not_true, Bool.not_false, Bool.not_eq_eq_eq_not, Int.not_lt, Int.not_le] at c1
      refine w_skip ?_
      refine q_then ?_
      refine w_seq ?_
      refine w_block ?_
      refine w_seq ?_
      refine w_R ?_
      refine r_op tabOk hnt rfl (s_move rfl ?_) 
      refine r_op tabOk hnt rfl (s_assign rfl ?_) 
      refine r_end ?_
      refine q_then ?_
      refine w_seq ?_
      have hge := hg
      refine w_R ?_
      refine r_op tabOk hnt rfl (s_move rfl ?_) 
      refine r_op tabOk hnt rfl (s_move rfl ?_) 
      refine r_op tabOk hnt rfl (s_move rfl ?_) 
      obtain ⟨e1, he1⟩ := get_of_lt s (i := i) (by omega)
      refine r_op tabOk hnt rfl (s_iaM (q := i) (b := e1) (f := eSpan) tab_56 rfl tab_53 rfl rfl (by omega) rfl he1 ?_) 
      refine r_op tabOk hnt rfl (s_load_ro tab_53 rfl rfl rfl ?_) 
      refine r_op tabOk hnt rfl (s_callX (r2 := pB (decide (e1.at_ ≤ v) && decide (v < e1.at_ + e1.count))) (nx1 := 1) (H2 := [(0, .obj [pI v])]) (H3 := [(0, .obj [pI v])]) [0] [.obj [pI v]] rfl rfl rfl (handed_of (by decide) ⟨rfl, trivial⟩) rfl rfl rfl rfl rfl rfl (w_span_Cover_2 e1 v (by exact hg e1 (List.mem_of_getElem? he1))) rfl (dist_of rfl) rfl rfl rfl rfl ?_) 
      refine r_set [(0, pS 2 cl_s eSpan s), (1, PV.clo (.func 58) [PV.ptr 0 0]), (5, pN i), (7, pN s.length), (8, pN i), (16, pB (decide (e1.at_ ≤ v) && decide (v < e1.at_ + e1.count)))] [(0, .obj [pI v])] 1 ⟨rfl, rfl, rfl, rfl, rfl, rfl, trivial⟩ rfl rfl ?_
      refine r_end ?_
      refine q_then ?_
      refine w_if rfl (fun c2 => ?_) (fun c2 => ?_)
      ·
        have c2_ := c2
        try simp only [decide_eq_true_eq, decide_eq_false_iff_not, Bool.not_eq_true', Bool.not_eq_false', Bool.not_true, Bool.not_false, Bool.not_eq_eq_eq_not, Int.not_lt, Int.not_le] at c2
        refine w_seq ?_
        refine w_R ?_
        refine r_op tabOk hnt rfl (s_move rfl ?_) 
        refine r_op tabOk hnt rfl (s_assign rfl ?_) 
        refine r_end ?_
        refine q_then ?_
        refine w_le (s := 4) (y := pI (idxI (idxAt s v))) rfl (le_of_eq (congrArg (fun z : Int => pI z) (show ((i : Nat) : Int) = (idxI (idxAt s v)) by unfold idxAt; rw [find_step (p := fun x => decide (x.at_ ≤ v) && decide (v < x.at_ + x.count)) ht he1 c2_]))) ?_
        refine w_ret ?_
        refine q_block_ret ?_
        refine q_then_ret ?_
        refine q_then_ret ?_
        refine q_block_ret ?_
        refine q_then_ret ?_
        exact fin_names (nx1 := 1) (H1 := [(0, .obj [pI v])]) [(0, 0)] (ret_tmp rfl ret_nil) rfl (by decide) ⟨⟨_, _, rfl, rfl, rfl, rfl⟩, trivial⟩ (by decide) rfl ⟨rfl, rfl, rfl⟩
      ·
        have c2_ := c2
        try simp only [decide_eq_true_eq, decide_eq_false_iff_not, Bool.not_eq_true', Bool.not_eq_false', Bool.not_true, Bool.not_false, Bool.not_eq_eq_eq_not, Int.not_lt, Int.not_le] at c2
        refine w_skip ?_
        refine q_block ?_
        refine q_then ?_
        refine w_R ?_
        refine r_op tabOk hnt rfl (s_addN (a := i) (b := 1) rfl rfl (by omega) (by omega) (by omega) ?_) 
        refine r_op tabOk hnt rfl (s_move rfl ?_) 
        refine r_end ?_
        refine q_then ?_
        refine ⟨(i + 1), ?_, ?_, ⟨[(0, 0)], by rw [hk]; decide, ⟨⟨_, rfl, rfl, rfl⟩, ⟨_, rfl, rfl, rfl⟩, ⟨_, rfl, rfl, rfl⟩, ⟨_, rfl, rfl, rfl⟩, trivial⟩, ⟨⟨_, _, rfl, rfl, rfl, rfl⟩, trivial⟩, by rw [hk]; decide⟩⟩
        ·
          refine ⟨by omega, fun j x hj hx => ?_⟩
          by_cases hji : j < i
          · exact ht j x hji hx
          · obtain rfl : j = i := by omega
            rw [he1] at hx; cases hx; first | exact c2_ | simpa using c2_
        · omega
    ·
      have c1_ := c1
      try simp only [decide_eq_true_eq, decide_eq_false_iff_not, Bool.not_eq_true', Bool.not_eq_false', Bool.not_true, Bool.not_false, Bool.not_eq_eq_eq_not, Int.not_lt, Int.not_le] at c1
      refine w_exit ?_
      refine q_then_exit ?_
      refine q_then_exit ?_
      refine q_block_exit ?_
      refine q_then ?_
      refine w_seq ?_
      refine w_R ?_
      refine r_op tabOk hnt rfl (s_assign rfl ?_) 
      refine r_end ?_
      refine q_then ?_
      refine w_le (s := 4) (y := pI (idxI (idxAt s v))) rfl (le_of_eq (congrArg (fun z : Int => pI z) (show (-1) = (idxI (idxAt s v)) by unfold idxAt; rw [find_none (p := fun x => decide (x.at_ ≤ v) && decide (v < x.at_ + x.count)) (fun j x hj hx => ht j x (by omega) hx)]))) ?_
      refine w_ret ?_
      exact fin_names (nx1 := 1) (H1 := [(0, .obj [pI v])]) [(0, 0)] (ret_tmp rfl ret_nil) rfl (by decide) ⟨⟨_, _, rfl, rfl, rfl, rfl⟩, trivial⟩ (by decide) rfl ⟨rfl, rfl, rfl⟩

theorem w_slices_ContainsFunc_span_Span_span_Span_c1 (s : List TSpan) (cl_s : Bool) (hs : s.length ≤ 140737488351232) :
    T Try.prog 55 [pS 2 cl_s eSpan s, PV.clo (.func 56) []] 0 [] (Ret (pB (decide (∃ x ∈ s, spOk x = false))) 0 []) := by
  refine t_fun tabOk (n := 9) (rs := [.tmp 4]) Try.func55 rfl rfl rfl rfl (Nat.le_of_ble_eq_true rfl) ?_
  intro c hnt hk
  refine w_seq ?_
  refine w_R ?_
  refine r_op tabOk hnt rfl (s_assign rfl ?_) 
  refine r_end ?_
  refine q_then ?_
  refine w_seq ?_
  refine w_R ?_
  refine r_op tabOk hnt rfl (s_move rfl ?_) 
  refine r_op tabOk hnt rfl (s_move rfl ?_) 
  refine r_op tabOk hnt rfl (s_callX (r2 := pI (idxI (s.findIdx? fun x => !(spOk x)))) (nx1 := 0) (H2 := []) (H3 := []) [] [] rfl rfl rfl (handed_of (by decide) trivial) rfl rfl rfl rfl rfl rfl (w_slices_IndexFunc_span_Span_span_Span_c1 s cl_s (by first | omega | assumption | (simp; omega) | decide | (simp; done))) rfl (dist_of rfl) rfl rfl rfl rfl ?_) 
  refine r_op tabOk hnt rfl (s_geq rfl rfl ?_) 
  refine r_op tabOk hnt rfl (s_assign rfl ?_) 
  refine r_end ?_
  refine q_then ?_
  refine w_le (s := 4) (y := pB (decide (∃ x ∈ s, spOk x = false))) rfl (le_of_eq (congrArg (fun z : Bool => pB z) (show (decide (0 ≤ idxI (s.findIdx? fun x => !(spOk x)))) = (decide (∃ x ∈ s, spOk x = false)) by exact contains_idx s))) ?_
  refine w_ret ?_
  exact fin_plain (ret_tmp rfl ret_nil) rfl rfl ⟨rfl, rfl, rfl⟩

theorem w_span_Cover (l : List TSpan) (cl_l : Bool) (s : TSpan) (hl : l.length ≤ 140737488351232) :
    T Try.prog 34 [pS 2 cl_l eSpan l, PV.f (eSpan s)] 0 [] (Ret (PV.tup [pS 2 false eSpan (coverV l s), pB (coverOk l s)]) 0 []) := by
  refine t_fun tabOk (n := 48) (rs := [.tmp 4, .tmp 5]) Try.func34 rfl rfl rfl rfl (Nat.le_of_ble_eq_true rfl) ?_
  intro c hnt hk
  refine w_seq ?_
  refine w_R ?_
  refine r_op tabOk hnt rfl (s_box rfl rfl ?_) 
  refine r_op tabOk hnt rfl (s_assign rfl ?_) 
  refine r_op tabOk hnt rfl (s_assign rfl ?_) 
  refine r_set [(0, pS 2 cl_l eSpan l), (3, PV.ptr 0 0)] [(0, .obj [pI s.at_, pI s.count])] 1 ⟨rfl, rfl, trivial⟩ rfl rfl ?_
  refine r_end ?_
  refine q_then ?_
  refine w_seq ?_
  refine w_seq ?_
  refine w_R ?_
  refine r_op tabOk hnt rfl (s_load_ptr tab_53 rfl rfl rfl (Nat.le_of_ble_eq_true rfl) ?_) 
  refine r_op tabOk hnt rfl (s_callF rfl rfl rfl (w_span_right s) rfl ?_) 
  refine r_op tabOk hnt rfl (s_not rfl ?_) 
  refine r_op tabOk hnt rfl (s_move rfl ?_) 
  refine r_if tabOk hnt rfl rfl rfl (fun g1 => ?_) (fun g1 => ?_)
  ·
    have g1' := g1
    try simp only [decide_eq_true_eq, decide_eq_false_iff_not, Bool.not_eq_true', Bool.not_eq_false', Bool.not_true, Bool.not_false, Bool.not_eq_eq_eq_not, Int.not_lt, Int.not_le] at g1'
    have es : spOk s = true := by simpa using g1
    have hs := (spOk_iff s).1 es
    refine r_op tabOk hnt rfl (s_move rfl ?_) 
    refine r_if tabOk hnt rfl rfl rfl (fun _ => ?_) (fun e => absurd (e.symm.trans g1) (by decide))
    refine r_op tabOk hnt rfl (s_callX (r2 := pB (decide (∃ x ∈ l, spOk x = false))) (nx1 := 1) (H2 := [(0, .obj [pI s.at_, pI s.count])]) (H3 := [(0, .obj [pI s.at_, pI s.count])]) [] [] rfl rfl rfl (handed_of (by decide) trivial) rfl rfl rfl rfl rfl rfl (w_slices_ContainsFunc_span_Span_span_Span_c1 l cl_l (by first | omega | assumption | (simp; omega) | decide | (simp; done))) rfl (dist_of rfl) rfl rfl rfl rfl ?_) 
    refine r_op tabOk hnt rfl (s_pick_f rfl g1 rfl ?_) 
    refine r_end ?_
    refine q_then ?_
    refine w_if rfl (fun c1 => ?_) (fun c1 => ?_)
    ·
      have c1_ := c1
      try simp only [decide_eq_true_eq, decide_eq_false_iff_not, Bool.not_eq_true', Bool.not_eq_false', Bool.not_true, Bool.not_false, Bool.not_eq_eq_eq_not, Int.not_lt, Int.not_le] at c1
      have ec : coverL l s = none := by unfold coverL; rw [if_neg]; rintro ⟨_, h⟩; obtain ⟨x, hx, hf⟩ := c1; rw [h x hx] at hf; cases hf
      refine w_seq ?_
      refine w_R ?_
      refine r_op tabOk hnt rfl (s_assign rfl ?_) 
      refine r_op tabOk hnt rfl (s_assign rfl ?_) 
      refine r_end ?_
      refine q_then ?_
      refine w_le (s := 4) (y := pS 2 false eSpan []) rfl (le_nilS 2 false) ?_
      refine w_le (s := 4) (y := pS 2 false eSpan (coverV l s)) rfl (le_of_eq (congrArg (fun z => pS 2 false eSpan z) (show [] = (coverV l s) by first | (simp [coverV, coverOk, ec]; done) | (simp [coverV, coverOk, en]; done) | simp [coverV, coverOk, ee]))) ?_
      refine w_le (s := 5) (y := pB (coverOk l s)) rfl (le_of_eq (congrArg (fun z : Bool => pB z) (show false = (coverOk l s) by first | (simp [coverV, coverOk, ec]; done) | (simp [coverV, coverOk, en]; done) | simp [coverV, coverOk, ee]))) ?_
      refine w_ret ?_
      refine q_then_ret ?_
      exact fin_plain (ret_tmp rfl (ret_tmp rfl ret_nil)) rfl rfl ⟨rfl, rfl, rfl⟩
    ·
      have c1_ := c1
      try simp only [decide_eq_true_eq, decide_eq_false_iff_not, Bool.not_eq_true', Bool.not_eq_false', Bool.not_true, Bool.not_false, Bool.not_eq_eq_eq_not, Int.not_lt, Int.not_le] at c1
      have hg : ∀ x ∈ l, spOk x = true := by intro x hx; cases hq : spOk x with | true => rfl | false => exact absurd ⟨x, hx, hq⟩ c1
      have ec : coverL l s = covGo l (s.at_ + s.count) s.at_ := by unfold coverL; rw [if_pos ⟨es, hg⟩]
      refine w_skip ?_
      refine q_then ?_
      refine w_seq ?_
      refine w_R ?_
      refine r_op tabOk hnt rfl (s_assign rfl ?_) 
      refine r_end ?_
      refine q_then ?_
      refine w_seq ?_
      refine w_seq ?_
      refine w_R ?_
      refine r_op tabOk hnt rfl (s_fa_ptr tab_53 rfl rfl tab_3 (by decide) rfl ?_) 
      refine r_op tabOk hnt rfl (s_load_ptr1 tab_3 rfl rfl rfl rfl rfl ?_) 
      refine r_op tabOk hnt rfl (s_alloc tab_3 ?_) 
      refine r_op tabOk hnt rfl (s_store_ptr tab_3 rfl rfl rfl rfl rfl (Nat.le_of_ble_eq_true rfl) ?_) 
      refine r_set [(0, pS 2 cl_l eSpan l), (3, PV.ptr 0 0), (6, pNil), (7, PV.ptr 1 0)] [(1, .obj [pI s.at_]), (0, .obj [pI s.at_, pI s.count])] 2 ⟨rfl, rfl, rfl, rfl, trivial⟩ rfl rfl ?_
      refine r_end ?_
      refine q_then ?_
      refine w_block ?_
      refine w_adopt (s := 6) (sz := 2) rfl ?_
      refine loop2 (fun (os : List TSpan) (v : Int) => s.at_ ≤ v ∧ v ≤ s.at_ + s.count ∧ (os.length : Int) ≤ v - s.at_ ∧ covGo l (s.at_ + s.count) s.at_ = (covGo l (s.at_ + s.count) v).map (os ++ ·)) (fun (os : List TSpan) (v : Int) => [(0, pS 2 cl_l eSpan l), (3, PV.ptr 2 0), (6, PV.ref 0 0 none), (7, PV.ptr 1 0)]) 3 (fun (os : List TSpan) (v : Int) => [(0, oB true 2 eSpan os), (1, .obj [pI v]), (2, .obj [pI s.at_, pI s.count])]) (fun (os : List TSpan) (v : Int) => (s.at_ + s.count - v).toNat) (([] : List TSpan)) (s.at_) ?_ ⟨[(0, 2), (1, 1), (2, 0)], by rw [hk]; decide, ⟨⟨_, rfl, rfl, rfl⟩, ⟨_, rfl, rfl, rfl⟩, ⟨_, rfl, rfl, rfl⟩, ⟨_, rfl, rfl, rfl⟩, trivial⟩, ⟨⟨_, _, rfl, rfl, rfl, rfl⟩, ⟨_, _, rfl, rfl, rfl, rfl⟩, ⟨_, _, rfl, rfl, rfl, rfl⟩, trivial⟩, by rw [hk]; decide⟩ ?_
      · exact ⟨by omega, by omega, by simp, by simp⟩
      ·
        intro os v hI
        obtain ⟨hv1, hv2, hol, hcov⟩ := hI
        refine w_seq ?_
        refine w_seq ?_
        refine W_drawn tabOk mixed hnt [[], [], [1], [0, 1, 2]] (by kernel_rfl) ?_
        refine d_op ?_
        refine x_run [(7, PV.ptr 1 0)] [] [(1, .obj [pI v])] [] [(1, .obj [pI v])] [] [(0, oB true 2 eSpan os), (1, .obj [pI v]), (2, .obj [pI s.at_, pI s.count])] rfl rfl rfl rfl rfl rfl (s_load_ptr1 tab_3 rfl rfl rfl rfl rfl ⟨rfl, rfl, rfl⟩) rfl ⟨rfl, trivial⟩ rfl rfl ?_
        refine d_op ?_
        refine x_run [(3, PV.ptr 2 0)] [] [(2, .obj [pI s.at_, pI s.count])] [] [(2, .obj [pI s.at_, pI s.count])] [] [(0, oB true 2 eSpan os), (1, .obj [pI v]), (2, .obj [pI s.at_, pI s.count])] rfl rfl rfl rfl rfl rfl (s_load_ptr tab_53 rfl rfl rfl (Nat.le_of_ble_eq_true rfl) ⟨rfl, rfl, rfl⟩) rfl ⟨rfl, trivial⟩ rfl rfl ?_
        refine d_op ?_
        refine x_run0 [(20, PV.f (.agg [encI s.at_, encI s.count]))] [1] rfl rfl rfl rfl (s_callF rfl rfl rfl (w_span_Span_end s (by first | omega | assumption | (simp; omega) | decide | (simp; done))) rfl ⟨rfl, rfl, rfl⟩) ?_
        refine d_op ?_
        refine x_run0 [(19, pI v), (21, pI (s.at_ + s.count))] [0, 1, 2] rfl rfl rfl rfl (s_lss rfl rfl ⟨rfl, rfl, rfl⟩) ?_
        refine d_end ⟨by kernel_rfl, ?_⟩
        refine q_then ?_
        refine w_if rfl (fun c2 => ?_) (fun c2 => ?_)
        ·
          have c2_ := c2
          try simp only [decide_eq_true_eq, decide_eq_false_iff_not, Bool.not_eq_true', Bool.not_eq_false', Bool.not_true, Bool.not_false, Bool.not_eq_eq_eq_not, Int.not_lt, Int.not_le] at c2
          refine w_skip ?_
          refine q_then ?_
          refine w_seq ?_
          refine w_block ?_
          refine w_seq ?_
          refine w_R ?_
          refine r_op tabOk hnt rfl (s_move rfl ?_) 
          refine r_op tabOk hnt rfl (s_makeFunc rfl rfl ?_) 
          refine r_op tabOk hnt rfl (s_callX (r2 := pI (idxI (idxAt l v))) (nx1 := 3) (H2 := [(0, oB true 2 eSpan os), (1, .obj [pI v]), (2, .obj [pI s.at_, pI s.count])]) (H3 := [(1, .obj [pI v]), (0, oB true 2 eSpan os), (2, .obj [pI s.at_, pI s.count])]) [1] [.obj [pI v]] rfl rfl rfl (handed_of (by decide) ⟨rfl, trivial⟩) rfl rfl rfl rfl rfl rfl (w_slices_IndexFunc_span_Span_span_Span_c2 l cl_l v (by first | omega | assumption | (simp; omega) | decide | (simp; done)) (by first | omega | assumption | (simp; omega) | decide | (simp; done))) rfl (dist_of rfl) rfl rfl rfl rfl ?_) 
          refine r_op tabOk hnt rfl (s_assign rfl ?_) 
          refine r_set [(0, pS 2 cl_l eSpan l), (3, PV.ptr 2 0), (6, PV.ref 0 0 none), (7, PV.ptr 1 0), (8, pI (idxI (idxAt l v)))] [(1, .obj [pI v]), (0, oB true 2 eSpan os), (2, .obj [pI s.at_, pI s.count])] 3 ⟨rfl, rfl, rfl, rfl, rfl, trivial⟩ rfl rfl ?_
          refine r_end ?_
          refine q_then ?_
          refine w_seq ?_
          refine w_seq ?_
          refine w_R ?_
          refine r_op tabOk hnt rfl (s_move rfl ?_) 
          refine r_op tabOk hnt rfl (s_lss rfl rfl ?_) 
          refine r_end ?_
          refine q_then ?_
          refine w_if rfl (fun c3 => ?_) (fun c3 => ?_)
          ·
            have c3_ := c3
            try simp only [decide_eq_true_eq, decide_eq_false_iff_not, Bool.not_eq_true', Bool.not_eq_false', Bool.not_true, Bool.not_false, Bool.not_eq_eq_eq_not, Int.not_lt, Int.not_le] at c3
            have en : coverL l s = none := by rw [ec, hcov, covGo_none c2 (idx_none c3)]; rfl
            refine w_seq ?_
            refine w_R ?_
            refine r_op tabOk hnt rfl (s_assign rfl ?_) 
            refine r_op tabOk hnt rfl (s_assign rfl ?_) 
            refine r_end ?_
            refine q_then ?_
            refine w_le (s := 4) (y := pS 2 false eSpan []) rfl (le_nilS 2 false) ?_
            refine w_le (s := 4) (y := pS 2 false eSpan (coverV l s)) rfl (le_of_eq (congrArg (fun z => pS 2 false eSpan z) (show [] = (coverV l s) by first | (simp [coverV, coverOk, ec]; done) | (simp [coverV, coverOk, en]; done) | simp [coverV, coverOk, ee]))) ?_
            refine w_le (s := 5) (y := pB (coverOk l s)) rfl (le_of_eq (congrArg (fun z : Bool => pB z) (show false = (coverOk l s) by first | (simp [coverV, coverOk, ec]; done) | (simp [coverV, coverOk, en]; done) | simp [coverV, coverOk, ee]))) ?_
            refine w_ret ?_
            refine q_then_ret ?_
            refine q_block_ret ?_
            refine q_then_ret ?_
            refine q_then_ret ?_
            refine q_block_ret ?_
            refine q_then_ret ?_
            exact fin_plain (ret_tmp rfl (ret_tmp rfl ret_nil)) rfl rfl ⟨rfl, rfl, rfl⟩
          ·
            have c3_ := c3
            try simp only [decide_eq_true_eq, decide_eq_false_iff_not, Bool.not_eq_true', Bool.not_eq_false', Bool.not_true, Bool.not_false, Bool.not_eq_eq_eq_not, Int.not_lt, Int.not_le] at c3
            obtain ⟨ii, e0, hxa, hxi, he0, hxl, hxh⟩ := idx_some (l := l) (v := v) (by omega)
            refine w_eq (s := 8) (y := pN ii) rfl (congrArg (fun z : Int => pI z) (show (idxI (idxAt l v)) = ((ii : Nat) : Int) by exact hxi)) ?_
            have eg := hg e0 (List.mem_of_getElem? he0)
            have heg := (spOk_iff e0).1 eg
            refine w_skip ?_
            refine q_then ?_
            refine w_seq ?_
            refine W_drawn tabOk mixed hnt [[], [], [0, 1], [0, 1, 2], [0, 1, 2, 3], [], [0, 1, 2, 3, 4, 5], [0, 1, 2, 3, 4, 5, 6], [0, 1, 2, 3, 4, 5, 6, 7]] (by kernel_rfl) ?_
            refine d_op ?_
            refine x_run0 [(0, pS 2 cl_l eSpan l)] [] rfl rfl rfl rfl (s_move rfl ⟨rfl, rfl, rfl⟩) ?_
            refine d_op ?_
            refine x_run0 [(8, pN ii)] [] rfl rfl rfl rfl (s_move rfl ⟨rfl, rfl, rfl⟩) ?_
            refine d_op ?_
            refine x_run0 [(28, pS 2 cl_l eSpan l), (29, pN ii)] [0, 1] rfl rfl rfl rfl (s_iaM (q := ii) (b := e0) (f := eSpan) tab_56 rfl tab_53 rfl rfl (by omega) rfl he0 ⟨rfl, rfl, rfl⟩) ?_
            refine d_op ?_
            refine x_run0 [(30, PV.f (.ro (eSpan e0)))] [0, 1, 2] rfl rfl rfl rfl (s_load_ro tab_53 rfl rfl rfl ⟨rfl, rfl, rfl⟩) ?_
            refine d_op ?_
            refine x_run0 [(31, PV.f (eSpan e0))] [0, 1, 2, 3] rfl rfl rfl rfl (s_callF rfl rfl rfl (w_span_Span_end e0 (by first | omega | assumption | (simp; omega) | decide | (simp; done))) rfl ⟨rfl, rfl, rfl⟩) ?_
            refine d_op ?_
            refine x_run [(3, PV.ptr 2 0)] [] [(2, .obj [pI s.at_, pI s.count])] [] [(2, .obj [pI s.at_, pI s.count])] [] [(1, .obj [pI v]), (0, oB true 2 eSpan os), (2, .obj [pI s.at_, pI s.count])] rfl rfl rfl rfl rfl rfl (s_load_ptr tab_53 rfl rfl rfl (Nat.le_of_ble_eq_true rfl) ⟨rfl, rfl, rfl⟩) rfl ⟨rfl, trivial⟩ rfl rfl ?_
            refine d_op ?_
            refine x_run0 [(33, PV.f (.agg [encI s.at_, encI s.count]))] [0, 1, 2, 3, 4, 5] rfl rfl rfl rfl (s_callF rfl rfl rfl (w_span_Span_end s (by first | omega | assumption | (simp; omega) | decide | (simp; done))) rfl ⟨rfl, rfl, rfl⟩) ?_
            refine d_op ?_
            refine x_run0 [(32, pI (e0.at_ + e0.count)), (34, pI (s.at_ + s.count))] [0, 1, 2, 3, 4, 5, 6] rfl rfl rfl rfl (s_minI rfl ⟨rfl, rfl, rfl⟩) ?_
            refine d_op ?_
            refine x_run0 [(35, pI (min (e0.at_ + e0.count) (s.at_ + s.count)))] [0, 1, 2, 3, 4, 5, 6, 7] rfl rfl rfl rfl (s_assign rfl ⟨rfl, rfl, rfl⟩) ?_
            refine d_end ⟨by kernel_rfl, ?_⟩
            refine q_then ?_
            refine w_seq ?_
            refine w_R ?_
            refine r_op tabOk hnt rfl (s_move rfl ?_) 
            refine r_op tabOk hnt rfl (s_load_ptr1 tab_3 rfl rfl rfl rfl rfl ?_) 
            refine r_op tabOk hnt rfl (s_move rfl ?_) 
            refine r_op tabOk hnt rfl (s_load_ptr1 tab_3 rfl rfl rfl rfl rfl ?_) 
            refine r_op tabOk hnt rfl (s_subi (r := (min (e0.at_ + e0.count) (s.at_ + s.count)) - v) rfl rfl rfl (by omega) ?_) 
            refine r_op tabOk hnt rfl (s_build tab_53 rfl rfl (b_cons rfl tab_3 rfl rfl rfl (Nat.le_of_ble_eq_true rfl) (b_cons rfl tab_3 rfl rfl rfl (Nat.le_of_ble_eq_true rfl) (b_nil ?_)))) 
            refine r_op tabOk hnt rfl (s_mkM (f := eSpan) [(⟨v, (min (e0.at_ + e0.count) (s.at_ + s.count)) - v⟩ : TSpan)] tab_56 rfl tab_53 ⟨rfl, by decide⟩ (by decide) rfl rfl rfl rfl ?_) 
            refine r_op tabOk hnt rfl (s_appR0 (f := eSpan) (l := os) (xs := [(⟨v, (min (e0.at_ + e0.count) (s.at_ + s.count)) - v⟩ : TSpan)]) tab_56 rfl tab_53 ⟨rfl, by decide, by decide⟩ (srcM tab_56 rfl (hM_ref0 (f := eSpan) rfl rfl)) rfl rfl (by first | omega | (simp; omega)) ?_) 
            refine r_op tabOk hnt rfl (s_assign rfl ?_) 
            refine r_set [(0, pS 2 cl_l eSpan l), (3, PV.ptr 2 0), (6, PV.ref 4 0 none), (7, PV.ptr 1 0), (9, pI (min (e0.at_ + e0.count) (s.at_ + s.count)))] [(4, oB true 2 eSpan (os ++ [(⟨v, (min (e0.at_ + e0.count) (s.at_ + s.count)) - v⟩ : TSpan)])), (3, oB true 2 eSpan [(⟨v, (min (e0.at_ + e0.count) (s.at_ + s.count)) - v⟩ : TSpan)]), (1, .obj [pI v]), (2, .obj [pI s.at_, pI s.count])] 5 ⟨rfl, rfl, rfl, rfl, rfl, trivial⟩ rfl rfl ?_
            refine r_end ?_
            refine q_then ?_
            refine w_R ?_
            refine r_op tabOk hnt rfl (s_move rfl ?_) 
            refine r_op tabOk hnt rfl (s_store_ptr tab_3 rfl rfl rfl rfl rfl (Nat.le_of_ble_eq_true rfl) ?_) 
            refine r_set [(0, pS 2 cl_l eSpan l), (3, PV.ptr 2 0), (6, PV.ref 4 0 none), (7, PV.ptr 1 0)] [(1, .obj [pI (min (e0.at_ + e0.count) (s.at_ + s.count))]), (4, oB true 2 eSpan (os ++ [(⟨v, (min (e0.at_ + e0.count) (s.at_ + s.count)) - v⟩ : TSpan)])), (3, oB true 2 eSpan [(⟨v, (min (e0.at_ + e0.count) (s.at_ + s.count)) - v⟩ : TSpan)]), (2, .obj [pI s.at_, pI s.count])] 5 ⟨rfl, rfl, rfl, rfl, trivial⟩ rfl rfl ?_
            refine r_end ?_
            refine q_block ?_
            refine q_then ?_
            refine w_seq ?_
            refine w_R ?_
            refine r_op tabOk hnt rfl (s_load_ptr1 tab_3 rfl rfl rfl rfl rfl ?_) 
            refine r_end ?_
            refine q_then ?_
            refine w_R ?_
            refine r_op tabOk hnt rfl (s_alloc tab_3 ?_) 
            refine r_op tabOk hnt rfl (s_store_ptr tab_3 rfl rfl rfl rfl rfl (Nat.le_of_ble_eq_true rfl) ?_) 
            refine r_end ?_
            refine q_then ?_
            refine ⟨(os ++ [(⟨v, (min (e0.at_ + e0.count) (s.at_ + s.count)) - v⟩ : TSpan)]), (min (e0.at_ + e0.count) (s.at_ + s.count)), ?_, ?_, ⟨[(0, 4), (1, 5), (2, 2)], by rw [hk]; decide, ⟨⟨_, rfl, rfl, rfl⟩, ⟨_, rfl, rfl, rfl⟩, ⟨_, rfl, rfl, rfl⟩, ⟨_, rfl, rfl, rfl⟩, trivial⟩, ⟨⟨_, _, rfl, rfl, rfl, rfl⟩, ⟨_, _, rfl, rfl, rfl, rfl⟩, ⟨_, _, rfl, rfl, rfl, rfl⟩, trivial⟩, by rw [hk]; decide⟩⟩
            ·
              refine ⟨by omega, by omega, by simp; omega, ?_⟩
              rw [hcov, covGo_step c2 hxa he0 hxh, map_snoc]
            · omega
        ·
          have c2_ := c2
          try simp only [decide_eq_true_eq, decide_eq_false_iff_not, Bool.not_eq_true', Bool.not_eq_false', Bool.not_true, Bool.not_false, Bool.not_eq_eq_eq_not, Int.not_lt, Int.not_le] at c2
          have ee : coverL l s = some os := by rw [ec, hcov, covGo_end (by omega)]; simp
          refine w_exit ?_
          refine q_then_exit ?_
          refine q_then_exit ?_
          refine q_block_exit ?_
          refine q_then ?_
          refine w_seq ?_
          refine w_R ?_
          refine r_op tabOk hnt rfl (s_move rfl ?_) 
          refine r_op tabOk hnt rfl (s_callX (r2 := pS 2 true eSpan os) (nx1 := 3) (H2 := [(0, oB false 2 eSpan os), (1, .obj [pI v]), (2, .obj [pI s.at_, pI s.count])]) (H3 := [(0, oB false 2 eSpan os), (1, .obj [pI v]), (2, .obj [pI s.at_, pI s.count])]) [] [] rfl rfl rfl (handed_of (by decide) trivial) rfl rfl rfl rfl rfl rfl (w_slices_Clip_span_Span_span_Span os false) rfl (dist_of rfl) rfl rfl rfl rfl ?_) 
          refine r_op tabOk hnt rfl (s_assign rfl ?_) 
          refine r_op tabOk hnt rfl (s_assign rfl ?_) 
          refine r_set [(4, pS 2 true eSpan os), (5, pB true)] [(0, oB false 2 eSpan os), (1, .obj [pI v]), (2, .obj [pI s.at_, pI s.count])] 3 ⟨rfl, rfl, trivial⟩ rfl rfl ?_
          refine r_end ?_
          refine q_then ?_
          refine w_le (s := 4) (y := pS 2 false eSpan os) rfl (le_loose) ?_
          refine w_le (s := 4) (y := pS 2 false eSpan (coverV l s)) rfl (le_of_eq (congrArg (fun z => pS 2 false eSpan z) (show os = (coverV l s) by first | (simp [coverV, coverOk, ec]; done) | (simp [coverV, coverOk, en]; done) | simp [coverV, coverOk, ee]))) ?_
          refine w_le (s := 5) (y := pB (coverOk l s)) rfl (le_of_eq (congrArg (fun z : Bool => pB z) (show true = (coverOk l s) by first | (simp [coverV, coverOk, ec]; done) | (simp [coverV, coverOk, en]; done) | simp [coverV, coverOk, ee]))) ?_
          refine w_ret ?_
          exact fin_plain (ret_tmp rfl (ret_tmp rfl ret_nil)) rfl rfl ⟨rfl, rfl, rfl⟩
  ·
    have g1' := g1
    try simp only [decide_eq_true_eq, decide_eq_false_iff_not, Bool.not_eq_true', Bool.not_eq_false', Bool.not_true, Bool.not_false, Bool.not_eq_eq_eq_not, Int.not_lt, Int.not_le] at g1'
    have es : spOk s = false := by simpa using g1
    have ec : coverL l s = none := by simp [coverL, es]
    refine r_if tabOk hnt rfl rfl rfl (fun e => absurd (e.symm.trans g1) (by decide)) (fun _ => ?_)
    refine r_op tabOk hnt rfl (s_pick_t rfl g1 rfl ?_) 
    refine r_end ?_
    refine q_then ?_
    refine w_if rfl (fun _ => ?_) (fun e => absurd e (by decide))
    refine w_seq ?_
    refine w_R ?_
    refine r_op tabOk hnt rfl (s_assign rfl ?_) 
    refine r_op tabOk hnt rfl (s_assign rfl ?_) 
    refine r_end ?_
    refine q_then ?_
    refine w_le (s := 4) (y := pS 2 false eSpan []) rfl (le_nilS 2 false) ?_
    refine w_le (s := 4) (y := pS 2 false eSpan (coverV l s)) rfl (le_of_eq (congrArg (fun z => pS 2 false eSpan z) (show [] = (coverV l s) by first | (simp [coverV, coverOk, ec]; done) | (simp [coverV, coverOk, en]; done) | simp [coverV, coverOk, ee]))) ?_
    refine w_le (s := 5) (y := pB (coverOk l s)) rfl (le_of_eq (congrArg (fun z : Bool => pB z) (show false = (coverOk l s) by first | (simp [coverV, coverOk, ec]; done) | (simp [coverV, coverOk, en]; done) | simp [coverV, coverOk, ee]))) ?_
    refine w_ret ?_
    refine q_then_ret ?_
    exact fin_plain (ret_tmp rfl (ret_tmp rfl ret_nil)) rfl rfl ⟨rfl, rfl, rfl⟩

theorem w_burgageref7_Cover (l : List TSpan) (cl_l : Bool) (s : TSpan) (hl : l.length ≤ 140737488351232) :
    T Try.prog 51 [pS 2 cl_l eSpan l, PV.f (eSpan s)] 0 [] (Ret (PV.tup [pS 2 false eSpan (coverV l s), pB (coverOk l s)]) 0 []) := by
  refine t_fun tabOk (n := 71) (rs := [.tmp 4, .tmp 5]) Try.func51 rfl rfl rfl rfl (Nat.le_of_ble_eq_true rfl) ?_
  intro c hnt hk
  refine w_seq ?_
  refine w_R ?_
  refine r_op tabOk hnt rfl (s_box rfl rfl ?_) 
  refine r_op tabOk hnt rfl (s_assign rfl ?_) 
  refine r_op tabOk hnt rfl (s_assign rfl ?_) 
  refine r_set [(0, pS 2 cl_l eSpan l), (3, PV.ptr 0 0)] [(0, .obj [pI s.at_, pI s.count])] 1 ⟨rfl, rfl, trivial⟩ rfl rfl ?_
  refine r_end ?_
  refine q_then ?_
  refine w_seq ?_
  refine w_seq ?_
  refine w_R ?_
  refine r_op tabOk hnt rfl (s_load_ptr tab_71 rfl rfl rfl (Nat.le_of_ble_eq_true rfl) ?_) 
  refine r_op tabOk hnt rfl (s_callF rfl rfl rfl (w_burgageref7_Right s 2147483648 (by first | omega | assumption | (simp; omega) | decide | (simp; done))) rfl ?_) 
  refine r_op tabOk hnt rfl (s_not rfl ?_) 
  refine r_end ?_
  refine q_then ?_
  refine w_if rfl (fun c1 => ?_) (fun c1 => ?_)
  ·
    have c1_ := c1
    try simp only [decide_eq_true_eq, decide_eq_false_iff_not, Bool.not_eq_true', Bool.not_eq_false', Bool.not_true, Bool.not_false, Bool.not_eq_eq_eq_not, Int.not_lt, Int.not_le] at c1
    have es : spOk s = false := by simpa using c1
    have ec : coverL l s = none := by simp [coverL, es]
    refine w_seq ?_
    refine w_R ?_
    refine r_op tabOk hnt rfl (s_assign rfl ?_) 
    refine r_op tabOk hnt rfl (s_assign rfl ?_) 
    refine r_end ?_
    refine q_then ?_
    refine w_le (s := 4) (y := pS 2 false eSpan []) rfl (le_nilS 2 false) ?_
    refine w_le (s := 4) (y := pS 2 false eSpan (coverV l s)) rfl (le_of_eq (congrArg (fun z => pS 2 false eSpan z) (show [] = (coverV l s) by first | (simp [coverV, coverOk, ec]; done) | (simp [coverV, coverOk, en]; done) | simp [coverV, coverOk, ee]))) ?_
    refine w_le (s := 5) (y := pB (coverOk l s)) rfl (le_of_eq (congrArg (fun z : Bool => pB z) (show false = (coverOk l s) by first | (simp [coverV, coverOk, ec]; done) | (simp [coverV, coverOk, en]; done) | simp [coverV, coverOk, ee]))) ?_
    refine w_ret ?_
    refine q_then_ret ?_
    exact fin_plain (ret_tmp rfl (ret_tmp rfl ret_nil)) rfl rfl ⟨rfl, rfl, rfl⟩
  ·
    have c1_ := c1
    try simp only [decide_eq_true_eq, decide_eq_false_iff_not, Bool.not_eq_true', Bool.not_eq_false', Bool.not_true, Bool.not_false, Bool.not_eq_eq_eq_not, Int.not_lt, Int.not_le] at c1
    have es : spOk s = true := by simpa using c1
    have hs := (spOk_iff s).1 es
    refine w_skip ?_
    refine q_then ?_
    refine w_seq ?_
    refine w_seq ?_
    refine w_R ?_
    refine r_op tabOk hnt rfl (s_move rfl ?_) 
    refine r_op tabOk hnt rfl (s_lenM (l := l) tab_77 rfl (hM_sl (f := eSpan) rfl) ?_) 
    refine r_op tabOk hnt rfl (s_move rfl ?_) 
    refine r_end ?_
    refine q_then ?_
    refine w_block ?_
    refine loop1 (fun (i : Nat) => i ≤ l.length ∧ ∀ j x, j < i → l[j]? = some x → spOk x = true) (fun (i : Nat) => [(0, pS 2 cl_l eSpan l), (3, PV.ptr 0 0), (18, pS 2 cl_l eSpan l), (19, pN l.length), (20, pN i)]) 1 (fun (i : Nat) => [(0, .obj [pI s.at_, pI s.count])]) (fun (i : Nat) => l.length - i) (0) ?_ ⟨[(0, 0)], by rw [hk]; decide, ⟨⟨_, rfl, rfl, rfl⟩, ⟨_, rfl, rfl, rfl⟩, ⟨_, rfl, rfl, rfl⟩, ⟨_, rfl, rfl, rfl⟩, ⟨_, rfl, rfl, rfl⟩, trivial⟩, ⟨⟨_, _, rfl, rfl, rfl, rfl⟩, trivial⟩, by rw [hk]; decide⟩ ?_
    · exact ⟨Nat.zero_le _, fun j x hj => by omega⟩
    ·
      intro i hI
      obtain ⟨hi, hall⟩ := hI
      refine w_seq ?_
      refine w_R ?_
      refine r_op tabOk hnt rfl (s_lss rfl rfl ?_) 
      refine r_end ?_
      refine q_then ?_
      refine w_seq ?_
      refine w_if rfl (fun c2 => ?_) (fun c2 => ?_)
      ·
        have c2_ := c2
        try simp only [decide_eq_true_eq, decide_eq_false_iff_not, Bool.not_eq_true', Bool.not_eq_false', Bool.not_true, Bool.not_false, Bool.not_eq_eq_eq_not, Int.not_lt, Int.not_le] at c2
        refine w_skip ?_
        refine q_then ?_
        refine w_seq ?_
        refine w_block ?_
        refine w_seq ?_
        refine w_R ?_
        obtain ⟨e1, he1⟩ := get_of_lt l (i := i) (by omega)
        refine r_op tabOk hnt rfl (s_iaM (q := i) (b := e1) (f := eSpan) tab_77 rfl tab_71 rfl rfl (by omega) rfl he1 ?_) 
        refine r_op tabOk hnt rfl (s_load_ro tab_71 rfl rfl rfl ?_) 
        refine r_op tabOk hnt rfl (s_alloc tab_71 ?_) 
        refine r_op tabOk hnt rfl (s_store_ptr tab_71 rfl rfl rfl rfl rfl (Nat.le_of_ble_eq_true rfl) ?_) 
        refine r_set [(0, pS 2 cl_l eSpan l), (3, PV.ptr 0 0), (7, PV.ptr 1 0), (18, pS 2 cl_l eSpan l), (19, pN l.length), (20, pN i)] [(1, .obj [pI e1.at_, pI e1.count]), (0, .obj [pI s.at_, pI s.count])] 2 ⟨rfl, rfl, rfl, rfl, rfl, rfl, trivial⟩ rfl rfl ?_
        refine r_end ?_
        refine q_then ?_
        refine w_seq ?_
        refine w_R ?_
        refine r_op tabOk hnt rfl (s_load_ptr tab_71 rfl rfl rfl (Nat.le_of_ble_eq_true rfl) ?_) 
        refine r_op tabOk hnt rfl (s_callF rfl rfl rfl (w_burgageref7_Right e1 2147483648 (by first | omega | assumption | (simp; omega) | decide | (simp; done))) rfl ?_) 
        refine r_op tabOk hnt rfl (s_not rfl ?_) 
        refine r_end ?_
        refine q_then ?_
        refine w_if rfl (fun c3 => ?_) (fun c3 => ?_)
        ·
          have c3_ := c3
          try simp only [decide_eq_true_eq, decide_eq_false_iff_not, Bool.not_eq_true', Bool.not_eq_false', Bool.not_true, Bool.not_false, Bool.not_eq_eq_eq_not, Int.not_lt, Int.not_le] at c3
          have ec : coverL l s = none := by unfold coverL; rw [if_neg]; rintro ⟨_, h⟩; exact absurd (h e1 (List.mem_of_getElem? he1)) (by simpa using c3)
          refine w_seq ?_
          refine w_R ?_
          refine r_op tabOk hnt rfl (s_assign rfl ?_) 
          refine r_op tabOk hnt rfl (s_assign rfl ?_) 
          refine r_end ?_
          refine q_then ?_
          refine w_le (s := 4) (y := pS 2 false eSpan []) rfl (le_nilS 2 false) ?_
          refine w_le (s := 4) (y := pS 2 false eSpan (coverV l s)) rfl (le_of_eq (congrArg (fun z => pS 2 false eSpan z) (show [] = (coverV l s) by first | (simp [coverV, coverOk, ec]; done) | (simp [coverV, coverOk, en]; done) | simp [coverV, coverOk, ee]))) ?_
          refine w_le (s := 5) (y := pB (coverOk l s)) rfl (le_of_eq (congrArg (fun z : Bool => pB z) (show false = (coverOk l s) by first | (simp [coverV, coverOk, ec]; done) | (simp [coverV, coverOk, en]; done) | simp [coverV, coverOk, ee]))) ?_
          refine w_ret ?_
          refine q_block_ret ?_
          refine q_then_ret ?_
          refine q_then_ret ?_
          refine q_block_ret ?_
          refine q_then_ret ?_
          exact fin_plain (ret_tmp rfl (ret_tmp rfl ret_nil)) rfl rfl ⟨rfl, rfl, rfl⟩
        ·
          have c3_ := c3
          try simp only [decide_eq_true_eq, decide_eq_false_iff_not, Bool.not_eq_true', Bool.not_eq_false', Bool.not_true, Bool.not_false, Bool.not_eq_eq_eq_not, Int.not_lt, Int.not_le] at c3
          refine w_skip ?_
          refine q_block ?_
          refine q_then ?_
          refine w_R ?_
          refine r_op tabOk hnt rfl (s_addN (a := i) (b := 1) rfl rfl (by omega) (by omega) (by omega) ?_) 
          refine r_op tabOk hnt rfl (s_move rfl ?_) 
          refine r_end ?_
          refine q_then ?_
          refine ⟨(i + 1), ?_, ?_, ⟨[(0, 0)], by rw [hk]; decide, ⟨⟨_, rfl, rfl, rfl⟩, ⟨_, rfl, rfl, rfl⟩, ⟨_, rfl, rfl, rfl⟩, ⟨_, rfl, rfl, rfl⟩, ⟨_, rfl, rfl, rfl⟩, trivial⟩, ⟨⟨_, _, rfl, rfl, rfl, rfl⟩, trivial⟩, by rw [hk]; decide⟩⟩
          ·
            refine ⟨by omega, fun j x hj hx => ?_⟩
            by_cases hji : j < i
            · exact hall j x hji hx
            · obtain rfl : j = i := by omega
              rw [he1] at hx; cases hx; simpa using c3
          · omega
      ·
        have c2_ := c2
        try simp only [decide_eq_true_eq, decide_eq_false_iff_not, Bool.not_eq_true', Bool.not_eq_false', Bool.not_true, Bool.not_false, Bool.not_eq_eq_eq_not, Int.not_lt, Int.not_le] at c2
        have hg : ∀ x ∈ l, spOk x = true := by intro x hx; obtain ⟨j, hj⟩ := List.getElem?_of_mem hx; exact hall j x (by have := get_lt hj; omega) hj
        have ec : coverL l s = covGo l (s.at_ + s.count) s.at_ := by unfold coverL; rw [if_pos ⟨es, hg⟩]
        refine w_exit ?_
        refine q_then_exit ?_
        refine q_then_exit ?_
        refine q_block_exit ?_
        refine q_then ?_
        refine w_seq ?_
        refine w_R ?_
        refine r_op tabOk hnt rfl (s_assign rfl ?_) 
        refine r_end ?_
        refine q_then ?_
        refine w_seq ?_
        refine w_block ?_
        refine w_adopt (s := 8) (sz := 2) rfl ?_
        refine loop3 (fun (ua : Int) (uc : Int) (os : List TSpan) => s.at_ ≤ ua ∧ ua + uc = s.at_ + s.count ∧ 0 ≤ uc ∧ (os.length : Int) ≤ ua - s.at_ ∧ covGo l (s.at_ + s.count) s.at_ = (covGo l (s.at_ + s.count) ua).map (os ++ ·)) (fun (ua : Int) (uc : Int) (os : List TSpan) => [(0, pS 2 cl_l eSpan l), (3, PV.ptr 0 0), (8, PV.ref 1 0 none)]) 2 (fun (ua : Int) (uc : Int) (os : List TSpan) => [(0, .obj [pI ua, pI uc]), (1, oB true 2 eSpan os)]) (fun (ua : Int) (uc : Int) (os : List TSpan) => uc.toNat) (s.at_) (s.count) (([] : List TSpan)) ?_ ⟨[(0, 0), (1, 1)], by rw [hk]; decide, ⟨⟨_, rfl, rfl, rfl⟩, ⟨_, rfl, rfl, rfl⟩, ⟨_, rfl, rfl, rfl⟩, trivial⟩, ⟨⟨_, _, rfl, rfl, rfl, rfl⟩, ⟨_, _, rfl, rfl, rfl, rfl⟩, trivial⟩, by rw [hk]; decide⟩ ?_
        · exact ⟨by omega, by omega, by omega, by simp, by simp⟩
        ·
          intro ua uc os hI
          obtain ⟨hv1, hv2, hv3, hol, hcov⟩ := hI
          refine w_seq ?_
          refine w_seq ?_
          refine w_R ?_
          refine r_op tabOk hnt rfl (s_fa_ptr tab_71 rfl rfl tab_3 (by decide) rfl ?_) 
          refine r_op tabOk hnt rfl (s_load_ptr1 tab_3 rfl rfl rfl rfl rfl ?_) 
          refine r_op tabOk hnt rfl (s_gtr rfl rfl ?_) 
          refine r_end ?_
          refine q_then ?_
          refine w_if rfl (fun c4 => ?_) (fun c4 => ?_)
          ·
            have c4_ := c4
            try simp only [decide_eq_true_eq, decide_eq_false_iff_not, Bool.not_eq_true', Bool.not_eq_false', Bool.not_true, Bool.not_false, Bool.not_eq_eq_eq_not, Int.not_lt, Int.not_le] at c4
            refine w_skip ?_
            refine q_then ?_
            refine w_block ?_
            refine w_seq ?_
            refine w_R ?_
            refine r_op tabOk hnt rfl (s_alloc tab_71 ?_) 
            refine r_set [(0, pS 2 cl_l eSpan l), (3, PV.ptr 0 0), (8, PV.ref 1 0 none), (9, PV.ptr 2 0)] [(2, .obj [pI 0, pI 0]), (0, .obj [pI ua, pI uc]), (1, oB true 2 eSpan os)] 3 ⟨rfl, rfl, rfl, rfl, trivial⟩ rfl rfl ?_
            refine r_end ?_
            refine q_then ?_
            refine w_seq ?_
            refine w_R ?_
            refine r_op tabOk hnt rfl (s_assign rfl ?_) 
            refine r_end ?_
            refine q_then ?_
            refine w_seq ?_
            refine w_seq ?_
            refine w_R ?_
            refine r_op tabOk hnt rfl (s_move rfl ?_) 
            refine r_op tabOk hnt rfl (s_lenM (l := l) tab_77 rfl (hM_sl (f := eSpan) rfl) ?_) 
            refine r_op tabOk hnt rfl (s_move rfl ?_) 
            refine r_end ?_
            refine q_then ?_
            refine w_block ?_
            refine loop1 (fun (j : Nat) => j ≤ l.length ∧ ∀ k x, k < j → l[k]? = some x → (meetOk x ⟨ua, uc⟩ && decide ((meetV x ⟨ua, uc⟩).at_ = ua)) = false) (fun (j : Nat) => [(0, pS 2 cl_l eSpan l), (3, PV.ptr 0 0), (8, PV.ref 1 0 none), (9, PV.ptr 2 0), (10, pB false), (31, pS 2 cl_l eSpan l), (32, pN l.length), (33, pN j)]) 3 (fun (j : Nat) => [(0, .obj [pI ua, pI uc]), (1, oB true 2 eSpan os), (2, .obj [pI 0, pI 0])]) (fun (j : Nat) => l.length - j) (0) ?_ ⟨[(0, 0), (1, 1), (2, 2)], by rw [hk]; decide, ⟨⟨_, rfl, rfl, rfl⟩, ⟨_, rfl, rfl, rfl⟩, ⟨_, rfl, rfl, rfl⟩, ⟨_, rfl, rfl, rfl⟩, ⟨_, rfl, rfl, rfl⟩, ⟨_, rfl, rfl, rfl⟩, ⟨_, rfl, rfl, rfl⟩, ⟨_, rfl, rfl, rfl⟩, trivial⟩, ⟨⟨_, _, rfl, rfl, rfl, rfl⟩, ⟨_, _, rfl, rfl, rfl, rfl⟩, ⟨_, _, rfl, rfl, rfl, rfl⟩, trivial⟩, by rw [hk]; decide⟩ ?_
            · exact ⟨Nat.zero_le _, fun k x hk => by omega⟩
            ·
              intro j hI
              obtain ⟨hj, hno⟩ := hI
              refine w_seq ?_
              refine w_R ?_
              refine r_op tabOk hnt rfl (s_lss rfl rfl ?_) 
              refine r_end ?_
              refine q_then ?_
              refine w_seq ?_
              refine w_if rfl (fun c5 => ?_) (fun c5 => ?_)
              ·
                have c5_ := c5
                try simp only [decide_eq_true_eq, decide_eq_false_iff_not, Bool.not_eq_true', Bool.not_eq_false', Bool.not_true, Bool.not_false, Bool.not_eq_eq_eq_not, Int.not_lt, Int.not_le] at c5
                refine w_skip ?_
                refine q_then ?_
                refine w_seq ?_
                refine w_block ?_
                refine w_seq ?_
                refine w_R ?_
                obtain ⟨e2, he2⟩ := get_of_lt l (i := j) (by omega)
                refine r_op tabOk hnt rfl (s_iaM (q := j) (b := e2) (f := eSpan) tab_77 rfl tab_71 rfl rfl (by omega) rfl he2 ?_) 
                refine r_op tabOk hnt rfl (s_load_ro tab_71 rfl rfl rfl ?_) 
                refine r_op tabOk hnt rfl (s_alloc tab_71 ?_) 
                refine r_op tabOk hnt rfl (s_store_ptr tab_71 rfl rfl rfl rfl rfl (Nat.le_of_ble_eq_true rfl) ?_) 
                refine r_set [(0, pS 2 cl_l eSpan l), (3, PV.ptr 0 0), (8, PV.ref 1 0 none), (9, PV.ptr 2 0), (10, pB false), (12, PV.ptr 3 0), (31, pS 2 cl_l eSpan l), (32, pN l.length), (33, pN j)] [(3, .obj [pI e2.at_, pI e2.count]), (0, .obj [pI ua, pI uc]), (1, oB true 2 eSpan os), (2, .obj [pI 0, pI 0])] 4 ⟨rfl, rfl, rfl, rfl, rfl, rfl, rfl, rfl, rfl, trivial⟩ rfl rfl ?_
                refine r_end ?_
                refine q_then ?_
                refine w_seq ?_
                refine w_R ?_
                refine r_op tabOk hnt rfl (s_load_ptr tab_71 rfl rfl rfl (Nat.le_of_ble_eq_true rfl) ?_) 
                refine r_op tabOk hnt rfl (s_load_ptr tab_71 rfl rfl rfl (Nat.le_of_ble_eq_true rfl) ?_) 
                refine r_op tabOk hnt rfl (s_callF rfl rfl rfl (w_burgageref7_Meet e2 (⟨ua, uc⟩ : TSpan)) rfl ?_) 
                refine r_op tabOk hnt rfl (s_move rfl ?_) 
                refine r_op tabOk hnt rfl (s_extract rfl rfl ?_) 
                refine r_op tabOk hnt rfl (s_extract rfl rfl ?_) 
                refine r_op tabOk hnt rfl (s_alloc tab_71 ?_) 
                refine r_op tabOk hnt rfl (s_store_ptr tab_71 rfl rfl rfl rfl rfl (Nat.le_of_ble_eq_true rfl) ?_) 
                refine r_op tabOk hnt rfl (s_assign rfl ?_) 
                refine r_set [(0, pS 2 cl_l eSpan l), (3, PV.ptr 0 0), (8, PV.ref 1 0 none), (9, PV.ptr 2 0), (10, pB false), (13, PV.ptr 4 0), (14, pB (meetOk e2 (⟨ua, uc⟩ : TSpan))), (31, pS 2 cl_l eSpan l), (32, pN l.length), (33, pN j)] [(4, .obj [pI ((meetV e2 (⟨ua, uc⟩ : TSpan)).at_), pI ((meetV e2 (⟨ua, uc⟩ : TSpan)).count)]), (3, .obj [pI e2.at_, pI e2.count]), (0, .obj [pI ua, pI uc]), (1, oB true 2 eSpan os), (2, .obj [pI 0, pI 0])] 5 ⟨rfl, rfl, rfl, rfl, rfl, rfl, rfl, rfl, rfl, rfl, trivial⟩ rfl rfl ?_
                refine r_end ?_
                refine q_then ?_
                refine w_seq ?_
                refine w_R ?_
                refine r_op tabOk hnt rfl (s_move rfl ?_) 
                refine r_op tabOk hnt rfl (s_move rfl ?_) 
                refine r_if tabOk hnt rfl rfl rfl (fun g1 => ?_) (fun g1 => ?_)
                ·
                  have g1' := g1
                  try simp only [decide_eq_true_eq, decide_eq_false_iff_not, Bool.not_eq_true', Bool.not_eq_false', Bool.not_true, Bool.not_false, Bool.not_eq_eq_eq_not, Int.not_lt, Int.not_le] at g1'
                  refine r_op tabOk hnt rfl (s_fa_ptr tab_71 rfl rfl tab_3 (by decide) rfl ?_) 
                  refine r_if tabOk hnt rfl rfl rfl (fun _ => ?_) (fun e => absurd (e.symm.trans g1) (by decide))
                  refine r_op tabOk hnt rfl (s_load_ptr1 tab_3 rfl rfl rfl rfl rfl ?_) 
                  refine r_if tabOk hnt rfl rfl rfl (fun _ => ?_) (fun e => absurd (e.symm.trans g1) (by decide))
                  refine r_op tabOk hnt rfl (s_fa_ptr tab_71 rfl rfl tab_3 (by decide) rfl ?_) 
                  refine r_if tabOk hnt rfl rfl rfl (fun _ => ?_) (fun e => absurd (e.symm.trans g1) (by decide))
                  refine r_op tabOk hnt rfl (s_load_ptr1 tab_3 rfl rfl rfl rfl rfl ?_) 
                  refine r_if tabOk hnt rfl rfl rfl (fun _ => ?_) (fun e => absurd (e.symm.trans g1) (by decide))
                  refine r_op tabOk hnt rfl (s_eql rfl rfl ?_) 
                  refine r_op tabOk hnt rfl (s_pick_t rfl g1 rfl ?_) 
                  refine r_end ?_
                  refine q_then ?_
                  refine w_if rfl (fun c6 => ?_) (fun c6 => ?_)
                  ·
                    have c6_ := c6
                    try simp only [decide_eq_true_eq, decide_eq_false_iff_not, Bool.not_eq_true', Bool.not_eq_false', Bool.not_true, Bool.not_false, Bool.not_eq_eq_eq_not, Int.not_lt, Int.not_le] at c6
                    have hg2 := hg e2 (List.mem_of_getElem? he2)
                    have eu : spOk ⟨ua, uc⟩ = true := (spOk_iff _).2 (by simp only; omega)
                    have hp : (meetOk e2 ⟨ua, uc⟩ && decide ((meetV e2 ⟨ua, uc⟩).at_ = ua)) = true := by simp [g1, c6]
                    have hpv := meet_piece hg2 eu hp
                    have hcount : (meetV e2 ⟨ua, uc⟩).count = min (e2.at_ + e2.count) (ua + uc) - ua := by rw [hpv]
                    have hp2 := hp
                    rw [meet_at hg2 eu] at hp2
                    have hp3 := hp2
                    simp only [Bool.and_eq_true, decide_eq_true_eq] at hp3
                    have hxh : ua < e2.at_ + e2.count := hp3.2
                    have hxa : idxAt l ua = some j := find_step (fun k x hk hx => by rw [← meet_at (hg x (List.mem_of_getElem? hx)) eu]; exact hno k x hk hx) he2 hp2
                    have hmn : min (e2.at_ + e2.count) (ua + uc) = min (e2.at_ + e2.count) (s.at_ + s.count) := by omega
                    have hq1 : ua + (meetV e2 ⟨ua, uc⟩).count = min (e2.at_ + e2.count) (s.at_ + s.count) := by omega
                    have hq2 : meetV e2 ⟨ua, uc⟩ = ⟨ua, min (e2.at_ + e2.count) (s.at_ + s.count) - ua⟩ := by rw [hpv, hmn]
                    refine w_seq ?_
                    refine w_R ?_
                    refine r_op tabOk hnt rfl (s_load_ptr tab_71 rfl rfl rfl (Nat.le_of_ble_eq_true rfl) ?_) 
                    refine r_op tabOk hnt rfl (s_store_ptr tab_71 rfl rfl rfl rfl rfl (Nat.le_of_ble_eq_true rfl) ?_) 
                    refine r_op tabOk hnt rfl (s_assign rfl ?_) 
                    refine r_set [(0, pS 2 cl_l eSpan l), (3, PV.ptr 0 0), (8, PV.ref 1 0 none), (9, PV.ptr 2 0), (10, pB true), (45, PV.ptr 4 0), (46, pI ((meetV e2 (⟨ua, uc⟩ : TSpan)).at_)), (47, PV.ptr 0 0), (48, pI ua), (49, pB (decide ((meetV e2 (⟨ua, uc⟩ : TSpan)).at_ = ua)))] [(2, .obj [pI ((meetV e2 (⟨ua, uc⟩ : TSpan)).at_), pI ((meetV e2 (⟨ua, uc⟩ : TSpan)).count)]), (4, .obj [pI ((meetV e2 (⟨ua, uc⟩ : TSpan)).at_), pI ((meetV e2 (⟨ua, uc⟩ : TSpan)).count)]), (3, .obj [pI e2.at_, pI e2.count]), (0, .obj [pI ua, pI uc]), (1, oB true 2 eSpan os)] 5 ⟨rfl, rfl, rfl, rfl, rfl, rfl, rfl, rfl, rfl, rfl, trivial⟩ rfl rfl ?_
                    refine r_end ?_
                    refine q_then ?_
                    refine w_exit ?_
                    refine q_block_pass (by decide) ?_
                    refine q_then_exit ?_
                    refine q_then_exit ?_
                    refine q_block_exit ?_
                    refine q_then ?_
                    refine w_seq ?_
                    refine w_seq ?_
                    refine w_R ?_
                    refine r_op tabOk hnt rfl (s_move rfl ?_) 
                    refine r_op tabOk hnt rfl (s_not rfl ?_) 
                    refine r_end ?_
                    refine q_then ?_
                    refine w_if rfl (fun e => absurd e (by decide)) (fun _ => ?_)
                    refine w_skip ?_
                    refine q_then ?_
                    refine w_seq ?_
                    refine w_R ?_
                    refine r_op tabOk hnt rfl (s_move rfl ?_) 
                    refine r_op tabOk hnt rfl (s_load_ptr tab_71 rfl rfl rfl (Nat.le_of_ble_eq_true rfl) ?_) 
                    refine r_op tabOk hnt rfl (s_mkM (f := eSpan) [(meetV e2 (⟨ua, uc⟩ : TSpan))] tab_77 rfl tab_71 ⟨rfl, by decide⟩ (by decide) rfl rfl rfl rfl ?_) 
                    refine r_op tabOk hnt rfl (s_appR0 (f := eSpan) (l := os) (xs := [(meetV e2 (⟨ua, uc⟩ : TSpan))]) tab_77 rfl tab_71 ⟨rfl, by decide, by decide⟩ (srcM tab_77 rfl (hM_ref0 (f := eSpan) rfl rfl)) rfl rfl (by first | omega | (simp; omega)) ?_) 
                    refine r_op tabOk hnt rfl (s_assign rfl ?_) 
                    refine r_set [(0, pS 2 cl_l eSpan l), (3, PV.ptr 0 0), (8, PV.ref 6 0 none), (9, PV.ptr 2 0), (45, PV.ptr 4 0), (46, pI ((meetV e2 (⟨ua, uc⟩ : TSpan)).at_)), (47, PV.ptr 0 0), (48, pI ua), (49, pB (decide ((meetV e2 (⟨ua, uc⟩ : TSpan)).at_ = ua)))] [(6, oB true 2 eSpan (os ++ [(meetV e2 (⟨ua, uc⟩ : TSpan))])), (5, oB true 2 eSpan [(meetV e2 (⟨ua, uc⟩ : TSpan))]), (2, .obj [pI ((meetV e2 (⟨ua, uc⟩ : TSpan)).at_), pI ((meetV e2 (⟨ua, uc⟩ : TSpan)).count)]), (4, .obj [pI ((meetV e2 (⟨ua, uc⟩ : TSpan)).at_), pI ((meetV e2 (⟨ua, uc⟩ : TSpan)).count)]), (3, .obj [pI e2.at_, pI e2.count]), (0, .obj [pI ua, pI uc])] 7 ⟨rfl, rfl, rfl, rfl, rfl, rfl, rfl, rfl, rfl, trivial⟩ rfl rfl ?_
                    refine r_end ?_
                    refine q_then ?_
                    refine w_R ?_
                    refine r_op tabOk hnt rfl (s_fa_ptr tab_71 rfl rfl tab_3 (by decide) rfl ?_) 
                    refine r_op tabOk hnt rfl (s_load_ptr1 tab_3 rfl rfl rfl rfl rfl ?_) 
                    refine r_op tabOk hnt rfl (s_fa_ptr tab_71 rfl rfl tab_3 (by decide) rfl ?_) 
                    refine r_op tabOk hnt rfl (s_load_ptr1 tab_3 rfl rfl rfl rfl rfl ?_) 
                    refine r_op tabOk hnt rfl (s_addi (r := ua + ((meetV e2 (⟨ua, uc⟩ : TSpan)).count)) rfl rfl rfl (by omega) ?_) 
                    refine r_op tabOk hnt rfl (s_fa_ptr tab_71 rfl rfl tab_3 (by decide) rfl ?_) 
                    refine r_op tabOk hnt rfl (s_load_ptr1 tab_3 rfl rfl rfl rfl rfl ?_) 
                    refine r_op tabOk hnt rfl (s_fa_ptr tab_71 rfl rfl tab_3 (by decide) rfl ?_) 
                    refine r_op tabOk hnt rfl (s_load_ptr1 tab_3 rfl rfl rfl rfl rfl ?_) 
                    refine r_op tabOk hnt rfl (s_subi (r := uc - ((meetV e2 (⟨ua, uc⟩ : TSpan)).count)) rfl rfl rfl (by omega) ?_) 
                    refine r_op tabOk hnt rfl (s_build tab_71 rfl rfl (b_cons rfl tab_3 rfl rfl rfl (Nat.le_of_ble_eq_true rfl) (b_cons rfl tab_3 rfl rfl rfl (Nat.le_of_ble_eq_true rfl) (b_nil ?_)))) 
                    refine r_op tabOk hnt rfl (s_store_ptr tab_71 rfl rfl rfl rfl rfl (Nat.le_of_ble_eq_true rfl) ?_) 
                    refine r_end ?_
                    refine q_block ?_
                    refine q_then ?_
                    refine ⟨(ua + ((meetV e2 (⟨ua, uc⟩ : TSpan)).count)), (uc - ((meetV e2 (⟨ua, uc⟩ : TSpan)).count)), (os ++ [(meetV e2 (⟨ua, uc⟩ : TSpan))]), ?_, ?_, ⟨[(0, 0), (1, 6)], by rw [hk]; decide, ⟨⟨_, rfl, rfl, rfl⟩, ⟨_, rfl, rfl, rfl⟩, ⟨_, rfl, rfl, rfl⟩, trivial⟩, ⟨⟨_, _, rfl, rfl, rfl, rfl⟩, ⟨_, _, rfl, rfl, rfl, rfl⟩, trivial⟩, by rw [hk]; decide⟩⟩
                    ·
                      refine ⟨by omega, by omega, by omega, by simp; omega, ?_⟩
                      rw [hcov, covGo_step (e := s.at_ + s.count) (by omega) hxa he2 hxh, map_snoc, hq1, hq2]
                    · omega
                  ·
                    have c6_ := c6
                    try simp only [decide_eq_true_eq, decide_eq_false_iff_not, Bool.not_eq_true', Bool.not_eq_false', Bool.not_true, Bool.not_false, Bool.not_eq_eq_eq_not, Int.not_lt, Int.not_le] at c6
                    refine w_skip ?_
                    refine q_block ?_
                    refine q_then ?_
                    refine w_R ?_
                    refine r_op tabOk hnt rfl (s_addN (a := j) (b := 1) rfl rfl (by omega) (by omega) (by omega) ?_) 
                    refine r_op tabOk hnt rfl (s_move rfl ?_) 
                    refine r_end ?_
                    refine q_then ?_
                    refine ⟨(j + 1), ?_, ?_, ⟨[(0, 0), (1, 1), (2, 2)], by rw [hk]; decide, ⟨⟨_, rfl, rfl, rfl⟩, ⟨_, rfl, rfl, rfl⟩, ⟨_, rfl, rfl, rfl⟩, ⟨_, rfl, rfl, rfl⟩, ⟨_, rfl, rfl, rfl⟩, ⟨_, rfl, rfl, rfl⟩, ⟨_, rfl, rfl, rfl⟩, ⟨_, rfl, rfl, rfl⟩, trivial⟩, ⟨⟨_, _, rfl, rfl, rfl, rfl⟩, ⟨_, _, rfl, rfl, rfl, rfl⟩, ⟨_, _, rfl, rfl, rfl, rfl⟩, trivial⟩, by rw [hk]; decide⟩⟩
                    ·
                      refine ⟨by omega, fun k x hk hx => ?_⟩
                      by_cases hkj : k < j
                      · exact hno k x hkj hx
                      · obtain rfl : k = j := by omega
                        rw [he2] at hx; cases hx; simp_all
                    · omega
                ·
                  have g1' := g1
                  try simp only [decide_eq_true_eq, decide_eq_false_iff_not, Bool.not_eq_true', Bool.not_eq_false', Bool.not_true, Bool.not_false, Bool.not_eq_eq_eq_not, Int.not_lt, Int.not_le] at g1'
                  refine r_if tabOk hnt rfl rfl rfl (fun e => absurd (e.symm.trans g1) (by decide)) (fun _ => ?_)
                  refine r_if tabOk hnt rfl rfl rfl (fun e => absurd (e.symm.trans g1) (by decide)) (fun _ => ?_)
                  refine r_if tabOk hnt rfl rfl rfl (fun e => absurd (e.symm.trans g1) (by decide)) (fun _ => ?_)
                  refine r_if tabOk hnt rfl rfl rfl (fun e => absurd (e.symm.trans g1) (by decide)) (fun _ => ?_)
                  refine r_op tabOk hnt rfl (s_pick_f rfl g1 rfl ?_) 
                  refine r_end ?_
                  refine q_then ?_
                  refine w_if rfl (fun e => absurd e (by decide)) (fun _ => ?_)
                  refine w_skip ?_
                  refine q_block ?_
                  refine q_then ?_
                  refine w_R ?_
                  refine r_op tabOk hnt rfl (s_addN (a := j) (b := 1) rfl rfl (by omega) (by omega) (by omega) ?_) 
                  refine r_op tabOk hnt rfl (s_move rfl ?_) 
                  refine r_end ?_
                  refine q_then ?_
                  refine ⟨(j + 1), ?_, ?_, ⟨[(0, 0), (1, 1), (2, 2)], by rw [hk]; decide, ⟨⟨_, rfl, rfl, rfl⟩, ⟨_, rfl, rfl, rfl⟩, ⟨_, rfl, rfl, rfl⟩, ⟨_, rfl, rfl, rfl⟩, ⟨_, rfl, rfl, rfl⟩, ⟨_, rfl, rfl, rfl⟩, ⟨_, rfl, rfl, rfl⟩, ⟨_, rfl, rfl, rfl⟩, trivial⟩, ⟨⟨_, _, rfl, rfl, rfl, rfl⟩, ⟨_, _, rfl, rfl, rfl, rfl⟩, ⟨_, _, rfl, rfl, rfl, rfl⟩, trivial⟩, by rw [hk]; decide⟩⟩
                  ·
                    refine ⟨by omega, fun k x hk hx => ?_⟩
                    by_cases hkj : k < j
                    · exact hno k x hkj hx
                    · obtain rfl : k = j := by omega
                      rw [he2] at hx; cases hx; simp_all
                  · omega
              ·
                have c5_ := c5
                try simp only [decide_eq_true_eq, decide_eq_false_iff_not, Bool.not_eq_true', Bool.not_eq_false', Bool.not_true, Bool.not_false, Bool.not_eq_eq_eq_not, Int.not_lt, Int.not_le] at c5
                have eu : spOk ⟨ua, uc⟩ = true := (spOk_iff _).2 (by simp only; omega)
                have hnone : idxAt l ua = none := find_none (fun k x hk hx => by rw [← meet_at (hg x (List.mem_of_getElem? hx)) eu]; exact hno k x (by omega) hx)
                have en : coverL l s = none := by rw [ec, hcov, covGo_none (by omega) hnone]; rfl
                refine w_exit ?_
                refine q_then_exit ?_
                refine q_then_exit ?_
                refine q_block_exit ?_
                refine q_then ?_
                refine w_seq ?_
                refine w_seq ?_
                refine w_R ?_
                refine r_op tabOk hnt rfl (s_move rfl ?_) 
                refine r_op tabOk hnt rfl (s_not rfl ?_) 
                refine r_end ?_
                refine q_then ?_
                refine w_if rfl (fun _ => ?_) (fun e => absurd e (by decide))
                refine w_seq ?_
                refine w_R ?_
                refine r_op tabOk hnt rfl (s_assign rfl ?_) 
                refine r_op tabOk hnt rfl (s_assign rfl ?_) 
                refine r_end ?_
                refine q_then ?_
                refine w_le (s := 4) (y := pS 2 false eSpan []) rfl (le_nilS 2 false) ?_
                refine w_le (s := 4) (y := pS 2 false eSpan (coverV l s)) rfl (le_of_eq (congrArg (fun z => pS 2 false eSpan z) (show [] = (coverV l s) by first | (simp [coverV, coverOk, ec]; done) | (simp [coverV, coverOk, en]; done) | simp [coverV, coverOk, ee]))) ?_
                refine w_le (s := 5) (y := pB (coverOk l s)) rfl (le_of_eq (congrArg (fun z : Bool => pB z) (show false = (coverOk l s) by first | (simp [coverV, coverOk, ec]; done) | (simp [coverV, coverOk, en]; done) | simp [coverV, coverOk, ee]))) ?_
                refine w_ret ?_
                refine q_then_ret ?_
                refine q_block_ret ?_
                refine q_then_ret ?_
                refine q_block_ret ?_
                refine q_then_ret ?_
                exact fin_plain (ret_tmp rfl (ret_tmp rfl ret_nil)) rfl rfl ⟨rfl, rfl, rfl⟩
          ·
            have c4_ := c4
            try simp only [decide_eq_true_eq, decide_eq_false_iff_not, Bool.not_eq_true', Bool.not_eq_false', Bool.not_true, Bool.not_false, Bool.not_eq_eq_eq_not, Int.not_lt, Int.not_le] at c4
            have ee : coverL l s = some os := by rw [ec, hcov, covGo_end (by omega)]; simp
            refine w_exit ?_
            refine q_then_exit ?_
            refine q_then_exit ?_
            refine q_block_exit ?_
            refine q_then ?_
            refine w_seq ?_
            refine w_R ?_
            refine r_op tabOk hnt rfl (s_move rfl ?_) 
            refine r_op tabOk hnt rfl (s_assign rfl ?_) 
            refine r_op tabOk hnt rfl (s_assign rfl ?_) 
            refine r_end ?_
            refine q_then ?_
            refine w_frzM (s := 4) (f := eSpan) rfl rfl view_0 ?_
            refine w_le (s := 4) (y := pS 2 false eSpan (coverV l s)) rfl (le_of_eq (congrArg (fun z => pS 2 false eSpan z) (show os = (coverV l s) by first | (simp [coverV, coverOk, ec]; done) | (simp [coverV, coverOk, en]; done) | simp [coverV, coverOk, ee]))) ?_
            refine w_le (s := 5) (y := pB (coverOk l s)) rfl (le_of_eq (congrArg (fun z : Bool => pB z) (show true = (coverOk l s) by first | (simp [coverV, coverOk, ec]; done) | (simp [coverV, coverOk, en]; done) | simp [coverV, coverOk, ee]))) ?_
            refine w_ret ?_
            exact fin_plain (ret_tmp rfl (ret_tmp rfl ret_nil)) rfl rfl ⟨rfl, rfl, rfl⟩

end Go.Proofs.Yteedhlgdbankiaa
