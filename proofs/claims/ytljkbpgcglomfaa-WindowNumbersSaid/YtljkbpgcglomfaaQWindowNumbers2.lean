/- What the law WindowNumbers needs, and no more: merged out of texts of this session by a program of it (wip/tools/prune.py). -/
import Derived.Test.YtljkbpgcglomfaaQWindowNumbers1
set_option linter.unusedVariables false
set_option linter.unusedSimpArgs false
set_option maxRecDepth 10000
set_option maxHeartbeats 1000000
namespace Go.Proofs.Ytljkbpgcglomfaa
open Go Go.Proofs.Ytljkbpgcglomfaa.Pv
theorem w_span_Right (s : TSpan) (m : Int) (hm : m ≤ 9223372036854775807) :
    T Try.prog 74 [PV.f (eSpan s),pI m] 0 [] (Ret (pB (spRight s m)) 0 []) := by
 refine t_fun tabOk (n := 28) (rs := [.tmp 4]) Try.func74 rfl rfl rfl rfl (Nat.le_of_ble_eq_true rfl) ?_
 intro c hnt hk
 refine w_seq ?_
 refine w_R ?_
 refine qo hnt rfl (s_box rfl rfl ?_)
 refine qa hnt rfl rfl ?_
 refine r_set [(1,pI m),(2,PV.ptr 0 0)] [(0,.obj (cSpan s))] 1 ⟨rfl,rfl,trivial⟩ rfl rfl ?_
 refine r_end ?_
 refine q_then ?_
 refine w_seq ?_
 refine w_R ?_
 refine qo hnt rfl (s_fa_ptr tab_89 rfl rfl tab_3 (by decide) rfl ?_)
 refine qo hnt rfl (s_load_ptr1 tab_3 rfl rfl rfl rfl rfl ?_)
 refine qo hnt rfl (s_geq rfl rfl ?_)
 refine qm hnt rfl rfl ?_
 refine r_if tabOk hnt rfl rfl rfl (fun g1 => ?_) (fun g1 => ?_)
 ·
  have g1' := g1
  try simp only [sB] at g1'
  refine qo hnt rfl (s_fa_ptr tab_89 rfl rfl tab_3 (by decide) rfl ?_)
  refine ry hnt rfl rfl rfl g1 ?_
  refine qo hnt rfl (s_load_ptr1 tab_3 rfl rfl rfl rfl rfl ?_)
  refine ry hnt rfl rfl rfl g1 ?_
  refine qo hnt rfl (s_geq rfl rfl ?_)
  refine qo hnt rfl (s_pick_t rfl g1 rfl ?_)
  refine qm hnt rfl rfl ?_
  refine r_if tabOk hnt rfl rfl rfl (fun g2 => ?_) (fun g2 => ?_)
  ·
   have g2' := g2
   try simp only [sB] at g2'
   refine qo hnt rfl (s_fa_ptr tab_89 rfl rfl tab_3 (by decide) rfl ?_)
   refine ry hnt rfl rfl rfl g2 ?_
   refine qo hnt rfl (s_load_ptr1 tab_3 rfl rfl rfl rfl rfl ?_)
   refine ry hnt rfl rfl rfl g2 ?_
   refine qm hnt rfl rfl ?_
   refine ry hnt rfl rfl rfl g2 ?_
   refine qo hnt rfl (s_leq rfl rfl ?_)
   refine qo hnt rfl (s_pick_t rfl g2 rfl ?_)
   refine qm hnt rfl rfl ?_
   refine r_if tabOk hnt rfl rfl rfl (fun g3 => ?_) (fun g3 => ?_)
   ·
    have g3' := g3
    try simp only [sB] at g3'
    refine qo hnt rfl (s_fa_ptr tab_89 rfl rfl tab_3 (by decide) rfl ?_)
    refine ry hnt rfl rfl rfl g3 ?_
    refine qo hnt rfl (s_load_ptr1 tab_3 rfl rfl rfl rfl rfl ?_)
    refine ry hnt rfl rfl rfl g3 ?_
    refine qm hnt rfl rfl ?_
    refine ry hnt rfl rfl rfl g3 ?_
    refine qo hnt rfl (s_fa_ptr tab_89 rfl rfl tab_3 (by decide) rfl ?_)
    refine ry hnt rfl rfl rfl g3 ?_
    refine qo hnt rfl (s_load_ptr1 tab_3 rfl rfl rfl rfl rfl ?_)
    refine ry hnt rfl rfl rfl g3 ?_
    refine qo hnt rfl (s_subi (r := m - s.at_) rfl rfl rfl (by omega) ?_)
    refine ry hnt rfl rfl rfl g3 ?_
    refine qo hnt rfl (s_leq rfl rfl ?_)
    refine qo hnt rfl (s_pick_t rfl g3 rfl ?_)
    refine qa hnt rfl rfl ?_
    refine r_end ?_
    refine q_then ?_
    refine w_le (s := 4) (y := pB (spRight s m)) rfl (le_of_eq (congrArg (fun z : Bool => pB z) (show (decide (s.count ≤ m - s.at_)) = (spRight s m) by unfold spRight; (apply decide_eq_decide.2; omega)))) ?_
    refine w_ret ?_
    exact fin_plain (ret_tmp rfl ret_nil) rfl rfl ⟨rfl,rfl,rfl⟩
   have g3' := g3
   try simp only [sB] at g3'
   refine rn hnt rfl rfl rfl g3 ?_
   refine rn hnt rfl rfl rfl g3 ?_
   refine rn hnt rfl rfl rfl g3 ?_
   refine rn hnt rfl rfl rfl g3 ?_
   refine rn hnt rfl rfl rfl g3 ?_
   refine rn hnt rfl rfl rfl g3 ?_
   refine qo hnt rfl (s_pick_f rfl g3 rfl ?_)
   refine qa hnt rfl rfl ?_
   refine r_end ?_
   refine q_then ?_
   refine w_le (s := 4) (y := pB (spRight s m)) rfl (le_of_eq (congrArg (fun z : Bool => pB z) (show false = (spRight s m) by unfold spRight; (symm; apply decide_eq_false; omega)))) ?_
   refine w_ret ?_
   exact fin_plain (ret_tmp rfl ret_nil) rfl rfl ⟨rfl,rfl,rfl⟩
  have g2' := g2
  try simp only [sB] at g2'
  refine rn hnt rfl rfl rfl g2 ?_
  refine rn hnt rfl rfl rfl g2 ?_
  refine rn hnt rfl rfl rfl g2 ?_
  refine qo hnt rfl (s_pick_f rfl g2 rfl ?_)
  refine qm hnt rfl rfl ?_
  refine rn hnt rfl rfl rfl rfl ?_
  refine rn hnt rfl rfl rfl rfl ?_
  refine rn hnt rfl rfl rfl rfl ?_
  refine rn hnt rfl rfl rfl rfl ?_
  refine rn hnt rfl rfl rfl rfl ?_
  refine rn hnt rfl rfl rfl rfl ?_
  refine rn hnt rfl rfl rfl rfl ?_
  refine qo hnt rfl (s_pick_f rfl rfl rfl ?_)
  refine qa hnt rfl rfl ?_
  refine r_end ?_
  refine q_then ?_
  refine w_le (s := 4) (y := pB (spRight s m)) rfl (le_of_eq (congrArg (fun z : Bool => pB z) (show false = (spRight s m) by unfold spRight; (symm; apply decide_eq_false; omega)))) ?_
  refine w_ret ?_
  exact fin_plain (ret_tmp rfl ret_nil) rfl rfl ⟨rfl,rfl,rfl⟩
 have g1' := g1
 try simp only [sB] at g1'
 refine rn hnt rfl rfl rfl g1 ?_
 refine rn hnt rfl rfl rfl g1 ?_
 refine qo hnt rfl (s_pick_f rfl g1 rfl ?_)
 refine qm hnt rfl rfl ?_
 refine rn hnt rfl rfl rfl rfl ?_
 refine rn hnt rfl rfl rfl rfl ?_
 refine rn hnt rfl rfl rfl rfl ?_
 refine rn hnt rfl rfl rfl rfl ?_
 refine qo hnt rfl (s_pick_f rfl rfl rfl ?_)
 refine qm hnt rfl rfl ?_
 refine rn hnt rfl rfl rfl rfl ?_
 refine rn hnt rfl rfl rfl rfl ?_
 refine rn hnt rfl rfl rfl rfl ?_
 refine rn hnt rfl rfl rfl rfl ?_
 refine rn hnt rfl rfl rfl rfl ?_
 refine rn hnt rfl rfl rfl rfl ?_
 refine rn hnt rfl rfl rfl rfl ?_
 refine qo hnt rfl (s_pick_f rfl rfl rfl ?_)
 refine qa hnt rfl rfl ?_
 refine r_end ?_
 refine q_then ?_
 refine w_le (s := 4) (y := pB (spRight s m)) rfl (le_of_eq (congrArg (fun z : Bool => pB z) (show false = (spRight s m) by unfold spRight; (symm; apply decide_eq_false; omega)))) ?_
 refine w_ret ?_
 exact fin_plain (ret_tmp rfl ret_nil) rfl rfl ⟨rfl,rfl,rfl⟩
theorem w_burgageref7_Right (s : TSpan) (m : Int) (hm : m ≤ 9223372036854775807) :
    T Try.prog 76 [PV.f (eSpan s),pI m] 0 [] (Ret (pB (spRight s m)) 0 []) := by
 refine t_fun tabOk (n := 28) (rs := [.tmp 4]) Try.func76 rfl rfl rfl rfl (Nat.le_of_ble_eq_true rfl) ?_
 intro c hnt hk
 refine w_seq ?_
 refine w_R ?_
 refine qo hnt rfl (s_box rfl rfl ?_)
 refine qa hnt rfl rfl ?_
 refine r_set [(1,pI m),(2,PV.ptr 0 0)] [(0,.obj (cSpan s))] 1 ⟨rfl,rfl,trivial⟩ rfl rfl ?_
 refine r_end ?_
 refine q_then ?_
 refine w_seq ?_
 refine w_R ?_
 refine qo hnt rfl (s_fa_ptr tab_119 rfl rfl tab_3 (by decide) rfl ?_)
 refine qo hnt rfl (s_load_ptr1 tab_3 rfl rfl rfl rfl rfl ?_)
 refine qo hnt rfl (s_geq rfl rfl ?_)
 refine qm hnt rfl rfl ?_
 refine r_if tabOk hnt rfl rfl rfl (fun g1 => ?_) (fun g1 => ?_)
 ·
  have g1' := g1
  try simp only [sB] at g1'
  refine qo hnt rfl (s_fa_ptr tab_119 rfl rfl tab_3 (by decide) rfl ?_)
  refine ry hnt rfl rfl rfl g1 ?_
  refine qo hnt rfl (s_load_ptr1 tab_3 rfl rfl rfl rfl rfl ?_)
  refine ry hnt rfl rfl rfl g1 ?_
  refine qo hnt rfl (s_geq rfl rfl ?_)
  refine qo hnt rfl (s_pick_t rfl g1 rfl ?_)
  refine qm hnt rfl rfl ?_
  refine r_if tabOk hnt rfl rfl rfl (fun g2 => ?_) (fun g2 => ?_)
  ·
   have g2' := g2
   try simp only [sB] at g2'
   refine qo hnt rfl (s_fa_ptr tab_119 rfl rfl tab_3 (by decide) rfl ?_)
   refine ry hnt rfl rfl rfl g2 ?_
   refine qo hnt rfl (s_load_ptr1 tab_3 rfl rfl rfl rfl rfl ?_)
   refine ry hnt rfl rfl rfl g2 ?_
   refine qm hnt rfl rfl ?_
   refine ry hnt rfl rfl rfl g2 ?_
   refine qo hnt rfl (s_leq rfl rfl ?_)
   refine qo hnt rfl (s_pick_t rfl g2 rfl ?_)
   refine qm hnt rfl rfl ?_
   refine r_if tabOk hnt rfl rfl rfl (fun g3 => ?_) (fun g3 => ?_)
   ·
    have g3' := g3
    try simp only [sB] at g3'
    refine qo hnt rfl (s_fa_ptr tab_119 rfl rfl tab_3 (by decide) rfl ?_)
    refine ry hnt rfl rfl rfl g3 ?_
    refine qo hnt rfl (s_load_ptr1 tab_3 rfl rfl rfl rfl rfl ?_)
    refine ry hnt rfl rfl rfl g3 ?_
    refine qm hnt rfl rfl ?_
    refine ry hnt rfl rfl rfl g3 ?_
    refine qo hnt rfl (s_fa_ptr tab_119 rfl rfl tab_3 (by decide) rfl ?_)
    refine ry hnt rfl rfl rfl g3 ?_
    refine qo hnt rfl (s_load_ptr1 tab_3 rfl rfl rfl rfl rfl ?_)
    refine ry hnt rfl rfl rfl g3 ?_
    refine qo hnt rfl (s_subi (r := m - s.at_) rfl rfl rfl (by omega) ?_)
    refine ry hnt rfl rfl rfl g3 ?_
    refine qo hnt rfl (s_leq rfl rfl ?_)
    refine qo hnt rfl (s_pick_t rfl g3 rfl ?_)
    refine qa hnt rfl rfl ?_
    refine r_end ?_
    refine q_then ?_
    refine w_le (s := 4) (y := pB (spRight s m)) rfl (le_of_eq (congrArg (fun z : Bool => pB z) (show (decide (s.count ≤ m - s.at_)) = (spRight s m) by unfold spRight; (apply decide_eq_decide.2; omega)))) ?_
    refine w_ret ?_
    exact fin_plain (ret_tmp rfl ret_nil) rfl rfl ⟨rfl,rfl,rfl⟩
   have g3' := g3
   try simp only [sB] at g3'
   refine rn hnt rfl rfl rfl g3 ?_
   refine rn hnt rfl rfl rfl g3 ?_
   refine rn hnt rfl rfl rfl g3 ?_
   refine rn hnt rfl rfl rfl g3 ?_
   refine rn hnt rfl rfl rfl g3 ?_
   refine rn hnt rfl rfl rfl g3 ?_
   refine qo hnt rfl (s_pick_f rfl g3 rfl ?_)
   refine qa hnt rfl rfl ?_
   refine r_end ?_
   refine q_then ?_
   refine w_le (s := 4) (y := pB (spRight s m)) rfl (le_of_eq (congrArg (fun z : Bool => pB z) (show false = (spRight s m) by unfold spRight; (symm; apply decide_eq_false; omega)))) ?_
   refine w_ret ?_
   exact fin_plain (ret_tmp rfl ret_nil) rfl rfl ⟨rfl,rfl,rfl⟩
  have g2' := g2
  try simp only [sB] at g2'
  refine rn hnt rfl rfl rfl g2 ?_
  refine rn hnt rfl rfl rfl g2 ?_
  refine rn hnt rfl rfl rfl g2 ?_
  refine qo hnt rfl (s_pick_f rfl g2 rfl ?_)
  refine qm hnt rfl rfl ?_
  refine rn hnt rfl rfl rfl rfl ?_
  refine rn hnt rfl rfl rfl rfl ?_
  refine rn hnt rfl rfl rfl rfl ?_
  refine rn hnt rfl rfl rfl rfl ?_
  refine rn hnt rfl rfl rfl rfl ?_
  refine rn hnt rfl rfl rfl rfl ?_
  refine rn hnt rfl rfl rfl rfl ?_
  refine qo hnt rfl (s_pick_f rfl rfl rfl ?_)
  refine qa hnt rfl rfl ?_
  refine r_end ?_
  refine q_then ?_
  refine w_le (s := 4) (y := pB (spRight s m)) rfl (le_of_eq (congrArg (fun z : Bool => pB z) (show false = (spRight s m) by unfold spRight; (symm; apply decide_eq_false; omega)))) ?_
  refine w_ret ?_
  exact fin_plain (ret_tmp rfl ret_nil) rfl rfl ⟨rfl,rfl,rfl⟩
 have g1' := g1
 try simp only [sB] at g1'
 refine rn hnt rfl rfl rfl g1 ?_
 refine rn hnt rfl rfl rfl g1 ?_
 refine qo hnt rfl (s_pick_f rfl g1 rfl ?_)
 refine qm hnt rfl rfl ?_
 refine rn hnt rfl rfl rfl rfl ?_
 refine rn hnt rfl rfl rfl rfl ?_
 refine rn hnt rfl rfl rfl rfl ?_
 refine rn hnt rfl rfl rfl rfl ?_
 refine qo hnt rfl (s_pick_f rfl rfl rfl ?_)
 refine qm hnt rfl rfl ?_
 refine rn hnt rfl rfl rfl rfl ?_
 refine rn hnt rfl rfl rfl rfl ?_
 refine rn hnt rfl rfl rfl rfl ?_
 refine rn hnt rfl rfl rfl rfl ?_
 refine rn hnt rfl rfl rfl rfl ?_
 refine rn hnt rfl rfl rfl rfl ?_
 refine rn hnt rfl rfl rfl rfl ?_
 refine qo hnt rfl (s_pick_f rfl rfl rfl ?_)
 refine qa hnt rfl rfl ?_
 refine r_end ?_
 refine q_then ?_
 refine w_le (s := 4) (y := pB (spRight s m)) rfl (le_of_eq (congrArg (fun z : Bool => pB z) (show false = (spRight s m) by unfold spRight; (symm; apply decide_eq_false; omega)))) ?_
 refine w_ret ?_
 exact fin_plain (ret_tmp rfl ret_nil) rfl rfl ⟨rfl,rfl,rfl⟩
theorem w_span_right (s : TSpan)  :
    T Try.prog 80 [PV.f (eSpan s)] 0 [] (Ret (pB (spOk s)) 0 []) := by
 refine t_fun tabOk (n := 5) (rs := [.tmp 2]) Try.func80 rfl rfl rfl rfl (Nat.le_of_ble_eq_true rfl) ?_
 intro c hnt hk
 refine w_seq ?_
 refine w_R ?_
 refine qo hnt rfl (s_box rfl rfl ?_)
 refine qa hnt rfl rfl ?_
 refine r_set [(1,PV.ptr 0 0)] [(0,.obj (cSpan s))] 1 ⟨rfl,trivial⟩ rfl rfl ?_
 refine r_end ?_
 refine q_then ?_
 refine w_seq ?_
 refine w_R ?_
 refine qo hnt rfl (s_load_ptr tab_89 rfl rfl rfl (Nat.le_of_ble_eq_true rfl) ?_)
 refine qo hnt rfl (s_callF rfl rfl rfl (w_span_Right s 2147483648 (by omega)) rfl ?_)
 refine qa hnt rfl rfl ?_
 refine r_end ?_
 refine q_then ?_
 refine w_le (s := 2) (y := pB (spOk s)) rfl (le_of_eq (congrArg (fun z : Bool => pB z) (show (spRight s 2147483648) = (spOk s) by simp [*]))) ?_
 refine w_ret ?_
 exact fin_plain (ret_tmp rfl ret_nil) rfl rfl ⟨rfl,rfl,rfl⟩
theorem w_span_Span_end (s : TSpan) (hs : spOk s = true) :
    T Try.prog 83 [PV.f (eSpan s)] 0 [] (Ret (pI (s.at_ + s.count)) 0 []) := by
 refine t_fun tabOk (n := 8) (rs := [.tmp 2]) Try.func83 rfl rfl rfl rfl (Nat.le_of_ble_eq_true rfl) ?_
 intro c hnt hk
 have hs2 := (spOk_iff s).1 hs
 refine w_seq ?_
 refine w_R ?_
 refine qo hnt rfl (s_box rfl rfl ?_)
 refine qa hnt rfl rfl ?_
 refine r_set [(1,PV.ptr 0 0)] [(0,.obj (cSpan s))] 1 ⟨rfl,trivial⟩ rfl rfl ?_
 refine r_end ?_
 refine q_then ?_
 refine w_seq ?_
 refine w_R ?_
 refine qo hnt rfl (s_fa_ptr tab_89 rfl rfl tab_3 (by decide) rfl ?_)
 refine qo hnt rfl (s_load_ptr1 tab_3 rfl rfl rfl rfl rfl ?_)
 refine qo hnt rfl (s_fa_ptr tab_89 rfl rfl tab_3 (by decide) rfl ?_)
 refine qo hnt rfl (s_load_ptr1 tab_3 rfl rfl rfl rfl rfl ?_)
 refine qo hnt rfl (s_addi (r := s.at_ + s.count) rfl rfl rfl (by omega) ?_)
 refine qa hnt rfl rfl ?_
 refine r_end ?_
 refine q_then ?_
 refine w_ret ?_
 exact fin_plain (ret_tmp rfl ret_nil) rfl rfl ⟨rfl,rfl,rfl⟩
theorem w_span_Meet (a : TSpan) (b : TSpan)  :
    T Try.prog 50 [PV.f (eSpan a),PV.f (eSpan b)] 0 [] (Ret (PV.tup [PV.f (eSpan (meetV a b)),pB (meetOk a b)]) 0 []) := by
 refine t_fun tabOk (n := 36) (rs := [.cell 4 89,.tmp 5]) Try.func50 rfl rfl rfl rfl (Nat.le_of_ble_eq_true rfl) ?_
 intro c hnt hk
 refine w_seq ?_
 refine w_R ?_
 refine qo hnt rfl (s_box rfl rfl ?_)
 refine qo hnt rfl (s_box rfl rfl ?_)
 refine qo hnt rfl (s_alloc tab_89 ?_)
 refine qa hnt rfl rfl ?_
 refine r_set [(2,PV.ptr 0 0),(3,PV.ptr 1 0),(4,PV.ptr 2 0)] [(2,.obj [pI 0,pI 0]),(1,.obj (cSpan b)),(0,.obj (cSpan a))] 3 ⟨rfl,rfl,rfl,trivial⟩ rfl rfl ?_
 refine r_end ?_
 refine q_then ?_
 refine w_seq ?_
 refine w_R ?_
 refine qo hnt rfl (s_fa_ptr tab_89 rfl rfl tab_3 (by decide) rfl ?_)
 refine qo hnt rfl (s_load_ptr1 tab_3 rfl rfl rfl rfl rfl ?_)
 refine qo hnt rfl (s_fa_ptr tab_89 rfl rfl tab_3 (by decide) rfl ?_)
 refine qo hnt rfl (s_load_ptr1 tab_3 rfl rfl rfl rfl rfl ?_)
 refine qo hnt rfl (s_maxI rfl ?_)
 refine qa hnt rfl rfl ?_
 refine qa hnt rfl rfl ?_
 refine r_end ?_
 refine q_then ?_
 refine w_seq ?_
 refine w_seq ?_
 refine w_R ?_
 refine qo hnt rfl (s_load_ptr tab_89 rfl rfl rfl (Nat.le_of_ble_eq_true rfl) ?_)
 refine qo hnt rfl (s_callF rfl rfl rfl (w_span_right a) rfl ?_)
 refine qo hnt rfl (s_not rfl ?_)
 refine qm hnt rfl rfl ?_
 refine r_if tabOk hnt rfl rfl rfl (fun g1 => ?_) (fun g1 => ?_)
 ·
  have g1' := g1
  try simp only [sB] at g1'
  have ea : spOk a = true := by simpa using g1
  have ha := (spOk_iff a).1 ea
  refine qo hnt rfl (s_load_ptr tab_89 rfl rfl rfl (Nat.le_of_ble_eq_true rfl) ?_)
  refine ry hnt rfl rfl rfl g1 ?_
  refine qo hnt rfl (s_callF rfl rfl rfl (w_span_right b) rfl ?_)
  refine ry hnt rfl rfl rfl g1 ?_
  refine qo hnt rfl (s_not rfl ?_)
  refine qo hnt rfl (s_pick_f rfl g1 rfl ?_)
  refine r_end ?_
  refine q_then ?_
  refine w_if rfl (fun c1 => ?_) (fun c1 => ?_)
  ·
   have c1_ := c1
   try simp only [sB] at c1
   have eb : spOk b = false := by simpa using c1
   have em : meetOk a b = false := by simp [meetOk,eb]
   refine w_seq ?_
   refine w_R ?_
   refine qo hnt rfl (s_build tab_89 rfl rfl (b_nil ?_))
   refine qo hnt rfl (s_store_ptr tab_89 rfl rfl rfl rfl rfl (Nat.le_of_ble_eq_true rfl) ?_)
   refine qa hnt rfl rfl ?_
   refine r_set [(4,PV.ptr 2 0),(5,pB false)] [(2,.obj [pI 0,pI 0]),(1,.obj (cSpan b)),(0,.obj (cSpan a))] 3 ⟨rfl,rfl,trivial⟩ rfl rfl ?_
   refine r_end ?_
   refine q_then ?_
   refine w_leO (n := 2) (ds := cSpan (meetV a b)) rfl ⟨le_of_eq (congrArg (fun z : Int => pI z) (show 0 = ((meetV a b).at_) by simp [em,meetV])),le_of_eq (congrArg (fun z : Int => pI z) (show 0 = ((meetV a b).count) by simp [em,meetV])),trivial⟩ ?_
   refine w_le (s := 5) (y := pB (meetOk a b)) rfl (le_of_eq (congrArg (fun z : Bool => pB z) (show false = (meetOk a b) by simp [em,meetV]))) ?_
   refine w_ret ?_
   refine q_then_ret ?_
   exact fin_plain (ret_cell tab_89 (by decide) rfl rfl (Nat.le_of_ble_eq_true rfl) rfl (ret_tmp rfl ret_nil)) rfl rfl ⟨rfl,rfl,rfl⟩
  have c1_ := c1
  try simp only [sB] at c1
  have eb : spOk b = true := by simpa using c1
  have hb := (spOk_iff b).1 eb
  refine w_skip ?_
  refine q_then ?_
  refine w_seq ?_
  refine w_seq ?_
  refine W_drawn tabOk mixed hnt [[],[0],[],[0,1,2],[0,1,2,3],[0,1,2,3,4]] (by kernel_rfl) ?_
  refine d_op ?_
  refine xL [(2,PV.ptr 0 0)] [] [(0,.obj (cSpan a))] rfl rfl rfl rfl rfl (s_load_ptr tab_89 rfl rfl rfl (Nat.le_of_ble_eq_true rfl) ⟨rfl,rfl,rfl⟩) ⟨rfl,trivial⟩ rfl ?_
  refine d_op ?_
  refine x_run0 [(22,PV.f (eSpan a))] [0] rfl rfl rfl rfl (s_callF rfl rfl rfl (w_span_Span_end a (by omega)) rfl ⟨rfl,rfl,rfl⟩) ?_
  refine d_op ?_
  refine xL [(3,PV.ptr 1 0)] [] [(1,.obj (cSpan b))] rfl rfl rfl rfl rfl (s_load_ptr tab_89 rfl rfl rfl (Nat.le_of_ble_eq_true rfl) ⟨rfl,rfl,rfl⟩) ⟨rfl,trivial⟩ rfl ?_
  refine d_op ?_
  refine x_run0 [(24,PV.f (eSpan b))] [0,1,2] rfl rfl rfl rfl (s_callF rfl rfl rfl (w_span_Span_end b (by omega)) rfl ⟨rfl,rfl,rfl⟩) ?_
  refine d_op ?_
  refine x_run0 [(23,pI (a.at_ + a.count)),(25,pI (b.at_ + b.count))] [0,1,2,3] rfl rfl rfl rfl (s_minI rfl ⟨rfl,rfl,rfl⟩) ?_
  refine d_op ?_
  refine x_run0 [(26,pI (min (a.at_ + a.count) (b.at_ + b.count)))] [0,1,2,3,4] rfl rfl rfl rfl (s_assign rfl ⟨rfl,rfl,rfl⟩) ?_
  refine d_end ⟨by kernel_rfl, ?_⟩
  refine q_then ?_
  refine w_seq ?_
  refine w_R ?_
  refine qm hnt rfl rfl ?_
  refine qm hnt rfl rfl ?_
  refine qo hnt rfl (s_geq rfl rfl ?_)
  refine r_end ?_
  refine q_then ?_
  refine w_if rfl (fun c2 => ?_) (fun c2 => ?_)
  ·
   have c2_ := c2
   try simp only [sB] at c2
   have em : meetOk a b = false := by simp only [meetOk,ea,eb,Bool.true_and]; apply decide_eq_false; omega
   refine w_seq ?_
   refine w_R ?_
   refine qo hnt rfl (s_build tab_89 rfl rfl (b_nil ?_))
   refine qo hnt rfl (s_store_ptr tab_89 rfl rfl rfl rfl rfl (Nat.le_of_ble_eq_true rfl) ?_)
   refine qa hnt rfl rfl ?_
   refine r_set [(4,PV.ptr 2 0),(5,pB false)] [(2,.obj [pI 0,pI 0]),(1,.obj (cSpan b)),(0,.obj (cSpan a))] 3 ⟨rfl,rfl,trivial⟩ rfl rfl ?_
   refine r_end ?_
   refine q_then ?_
   refine w_leO (n := 2) (ds := cSpan (meetV a b)) rfl ⟨le_of_eq (congrArg (fun z : Int => pI z) (show 0 = ((meetV a b).at_) by simp [em,meetV])),le_of_eq (congrArg (fun z : Int => pI z) (show 0 = ((meetV a b).count) by simp [em,meetV])),trivial⟩ ?_
   refine w_le (s := 5) (y := pB (meetOk a b)) rfl (le_of_eq (congrArg (fun z : Bool => pB z) (show false = (meetOk a b) by simp [em,meetV]))) ?_
   refine w_ret ?_
   refine q_then_ret ?_
   exact fin_plain (ret_cell tab_89 (by decide) rfl rfl (Nat.le_of_ble_eq_true rfl) rfl (ret_tmp rfl ret_nil)) rfl rfl ⟨rfl,rfl,rfl⟩
  have c2_ := c2
  try simp only [sB] at c2
  have em : meetOk a b = true := by simp only [meetOk,ea,eb,Bool.true_and]; apply decide_eq_true; omega
  refine w_skip ?_
  refine q_then ?_
  refine w_seq ?_
  refine w_R ?_
  refine qm hnt rfl rfl ?_
  refine qm hnt rfl rfl ?_
  refine qm hnt rfl rfl ?_
  refine qo hnt rfl (s_subi (r := (min (a.at_ + a.count) (b.at_ + b.count)) - (max a.at_ b.at_)) rfl rfl rfl (by omega) ?_)
  refine qo hnt rfl (s_build tab_89 rfl rfl (b_cons rfl tab_3 rfl rfl rfl (Nat.le_of_ble_eq_true rfl) (b_cons rfl tab_3 rfl rfl rfl (Nat.le_of_ble_eq_true rfl) (b_nil ?_))))
  refine qo hnt rfl (s_store_ptr tab_89 rfl rfl rfl rfl rfl (Nat.le_of_ble_eq_true rfl) ?_)
  refine qa hnt rfl rfl ?_
  refine r_set [(4,PV.ptr 2 0),(5,pB true)] [(2,.obj [pI (max a.at_ b.at_),pI ((min (a.at_ + a.count) (b.at_ + b.count)) - (max a.at_ b.at_))]),(1,.obj (cSpan b)),(0,.obj (cSpan a))] 3 ⟨rfl,rfl,trivial⟩ rfl rfl ?_
  refine r_end ?_
  refine q_then ?_
  refine w_leO (n := 2) (ds := cSpan (meetV a b)) rfl ⟨le_of_eq (congrArg (fun z : Int => pI z) (show (max a.at_ b.at_) = ((meetV a b).at_) by simp [em,meetV])),le_of_eq (congrArg (fun z : Int => pI z) (show ((min (a.at_ + a.count) (b.at_ + b.count)) - (max a.at_ b.at_)) = ((meetV a b).count) by simp [em,meetV])),trivial⟩ ?_
  refine w_le (s := 5) (y := pB (meetOk a b)) rfl (le_of_eq (congrArg (fun z : Bool => pB z) (show true = (meetOk a b) by simp [em,meetV]))) ?_
  refine w_ret ?_
  exact fin_plain (ret_cell tab_89 (by decide) rfl rfl (Nat.le_of_ble_eq_true rfl) rfl (ret_tmp rfl ret_nil)) rfl rfl ⟨rfl,rfl,rfl⟩
 have g1' := g1
 try simp only [sB] at g1'
 have ea : spOk a = false := by simpa using g1
 have em : meetOk a b = false := by simp [meetOk,ea]
 refine rn hnt rfl rfl rfl g1 ?_
 refine rn hnt rfl rfl rfl g1 ?_
 refine qo hnt rfl (s_pick_t rfl g1 rfl ?_)
 refine r_end ?_
 refine q_then ?_
 refine w_if rfl (fun _ => ?_) (fun e => absurd e (by decide))
 refine w_seq ?_
 refine w_R ?_
 refine qo hnt rfl (s_build tab_89 rfl rfl (b_nil ?_))
 refine qo hnt rfl (s_store_ptr tab_89 rfl rfl rfl rfl rfl (Nat.le_of_ble_eq_true rfl) ?_)
 refine qa hnt rfl rfl ?_
 refine r_set [(4,PV.ptr 2 0),(5,pB false)] [(2,.obj [pI 0,pI 0]),(1,.obj (cSpan b)),(0,.obj (cSpan a))] 3 ⟨rfl,rfl,trivial⟩ rfl rfl ?_
 refine r_end ?_
 refine q_then ?_
 refine w_leO (n := 2) (ds := cSpan (meetV a b)) rfl ⟨le_of_eq (congrArg (fun z : Int => pI z) (show 0 = ((meetV a b).at_) by simp [em,meetV])),le_of_eq (congrArg (fun z : Int => pI z) (show 0 = ((meetV a b).count) by simp [em,meetV])),trivial⟩ ?_
 refine w_le (s := 5) (y := pB (meetOk a b)) rfl (le_of_eq (congrArg (fun z : Bool => pB z) (show false = (meetOk a b) by simp [em,meetV]))) ?_
 refine w_ret ?_
 refine q_then_ret ?_
 exact fin_plain (ret_cell tab_89 (by decide) rfl rfl (Nat.le_of_ble_eq_true rfl) rfl (ret_tmp rfl ret_nil)) rfl rfl ⟨rfl,rfl,rfl⟩
theorem w_burgageref7_Meet (a : TSpan) (b : TSpan)  :
    T Try.prog 79 [PV.f (eSpan a),PV.f (eSpan b)] 0 [] (Ret (PV.tup [PV.f (eSpan (meetV a b)),pB (meetOk a b)]) 0 []) := by
 refine t_fun tabOk (n := 42) (rs := [.cell 4 119,.tmp 5]) Try.func79 rfl rfl rfl rfl (Nat.le_of_ble_eq_true rfl) ?_
 intro c hnt hk
 refine w_seq ?_
 refine w_R ?_
 refine qo hnt rfl (s_box rfl rfl ?_)
 refine qo hnt rfl (s_box rfl rfl ?_)
 refine qo hnt rfl (s_alloc tab_119 ?_)
 refine qa hnt rfl rfl ?_
 refine r_set [(2,PV.ptr 0 0),(3,PV.ptr 1 0),(4,PV.ptr 2 0)] [(2,.obj [pI 0,pI 0]),(1,.obj (cSpan b)),(0,.obj (cSpan a))] 3 ⟨rfl,rfl,rfl,trivial⟩ rfl rfl ?_
 refine r_end ?_
 refine q_then ?_
 refine w_seq ?_
 refine w_seq ?_
 refine w_R ?_
 refine qo hnt rfl (s_load_ptr tab_119 rfl rfl rfl (Nat.le_of_ble_eq_true rfl) ?_)
 refine qo hnt rfl (s_callF rfl rfl rfl (w_burgageref7_Right a 2147483648 (by omega)) rfl ?_)
 refine qo hnt rfl (s_not rfl ?_)
 refine qm hnt rfl rfl ?_
 refine r_if tabOk hnt rfl rfl rfl (fun g1 => ?_) (fun g1 => ?_)
 ·
  have g1' := g1
  try simp only [sB] at g1'
  have ea : spOk a = true := by simpa using g1
  have ha := (spOk_iff a).1 ea
  refine qo hnt rfl (s_load_ptr tab_119 rfl rfl rfl (Nat.le_of_ble_eq_true rfl) ?_)
  refine ry hnt rfl rfl rfl g1 ?_
  refine qo hnt rfl (s_callF rfl rfl rfl (w_burgageref7_Right b 2147483648 (by omega)) rfl ?_)
  refine ry hnt rfl rfl rfl g1 ?_
  refine qo hnt rfl (s_not rfl ?_)
  refine qo hnt rfl (s_pick_f rfl g1 rfl ?_)
  refine r_end ?_
  refine q_then ?_
  refine w_if rfl (fun c1 => ?_) (fun c1 => ?_)
  ·
   have c1_ := c1
   try simp only [sB] at c1
   have eb : spOk b = false := by simpa using c1
   have em : meetOk a b = false := by simp [meetOk,eb]
   refine w_seq ?_
   refine w_R ?_
   refine qo hnt rfl (s_build tab_119 rfl rfl (b_nil ?_))
   refine qo hnt rfl (s_store_ptr tab_119 rfl rfl rfl rfl rfl (Nat.le_of_ble_eq_true rfl) ?_)
   refine qa hnt rfl rfl ?_
   refine r_set [(4,PV.ptr 2 0),(5,pB false)] [(2,.obj [pI 0,pI 0]),(1,.obj (cSpan b)),(0,.obj (cSpan a))] 3 ⟨rfl,rfl,trivial⟩ rfl rfl ?_
   refine r_end ?_
   refine q_then ?_
   refine w_leO (n := 2) (ds := cSpan (meetV a b)) rfl ⟨le_of_eq (congrArg (fun z : Int => pI z) (show 0 = ((meetV a b).at_) by simp [em,meetV])),le_of_eq (congrArg (fun z : Int => pI z) (show 0 = ((meetV a b).count) by simp [em,meetV])),trivial⟩ ?_
   refine w_le (s := 5) (y := pB (meetOk a b)) rfl (le_of_eq (congrArg (fun z : Bool => pB z) (show false = (meetOk a b) by simp [em,meetV]))) ?_
   refine w_ret ?_
   refine q_then_ret ?_
   exact fin_plain (ret_cell tab_119 (by decide) rfl rfl (Nat.le_of_ble_eq_true rfl) rfl (ret_tmp rfl ret_nil)) rfl rfl ⟨rfl,rfl,rfl⟩
  have c1_ := c1
  try simp only [sB] at c1
  have eb : spOk b = true := by simpa using c1
  have hb := (spOk_iff b).1 eb
  refine w_skip ?_
  refine q_then ?_
  refine w_seq ?_
  refine W_drawn tabOk mixed hnt [[],[0],[],[2],[0,1,2,3],[],[5],[],[7],[5,6,7,8],[],[10],[],[12],[10,11,12,13],[5,6,7,8,9,10,11,12,13,14],[0,1,2,3,4],[0,1,2,3,4,5,6,7,8,9,10,11,12,13,14,15,16]] (by kernel_rfl) ?_
  refine d_op ?_
  refine x_run0 [(2,PV.ptr 0 0)] [] rfl rfl rfl rfl (s_fa_ptr tab_119 rfl rfl tab_3 (by decide) rfl ⟨rfl,rfl,rfl⟩) ?_
  refine d_op ?_
  refine xL [(17,PV.ptr 0 0)] [0] [(0,.obj (cSpan a))] rfl rfl rfl rfl rfl (s_load_ptr1 tab_3 rfl rfl rfl rfl rfl ⟨rfl,rfl,rfl⟩) ⟨rfl,trivial⟩ rfl ?_
  refine d_op ?_
  refine x_run0 [(3,PV.ptr 1 0)] [] rfl rfl rfl rfl (s_fa_ptr tab_119 rfl rfl tab_3 (by decide) rfl ⟨rfl,rfl,rfl⟩) ?_
  refine d_op ?_
  refine xL [(19,PV.ptr 1 0)] [2] [(1,.obj (cSpan b))] rfl rfl rfl rfl rfl (s_load_ptr1 tab_3 rfl rfl rfl rfl rfl ⟨rfl,rfl,rfl⟩) ⟨rfl,trivial⟩ rfl ?_
  refine d_op ?_
  refine x_run0 [(18,pI a.at_),(20,pI b.at_)] [0,1,2,3] rfl rfl rfl rfl (s_maxI rfl ⟨rfl,rfl,rfl⟩) ?_
  refine d_op ?_
  refine x_run0 [(2,PV.ptr 0 0)] [] rfl rfl rfl rfl (s_fa_ptr tab_119 rfl rfl tab_3 (by decide) rfl ⟨rfl,rfl,rfl⟩) ?_
  refine d_op ?_
  refine xL [(22,PV.ptr 0 0)] [5] [(0,.obj (cSpan a))] rfl rfl rfl rfl rfl (s_load_ptr1 tab_3 rfl rfl rfl rfl rfl ⟨rfl,rfl,rfl⟩) ⟨rfl,trivial⟩ rfl ?_
  refine d_op ?_
  refine x_run0 [(2,PV.ptr 0 0)] [] rfl rfl rfl rfl (s_fa_ptr tab_119 rfl rfl tab_3 (by decide) rfl ⟨rfl,rfl,rfl⟩) ?_
  refine d_op ?_
  refine xL [(24,PV.ptr 0 1)] [7] [(0,.obj (cSpan a))] rfl rfl rfl rfl rfl (s_load_ptr1 tab_3 rfl rfl rfl rfl rfl ⟨rfl,rfl,rfl⟩) ⟨rfl,trivial⟩ rfl ?_
  refine d_op ?_
  refine x_run0 [(23,pI a.at_),(25,pI a.count)] [5,6,7,8] rfl rfl rfl rfl (s_addi (r := a.at_ + a.count) rfl rfl rfl (by omega) ⟨rfl,rfl,rfl⟩) ?_
  refine d_op ?_
  refine x_run0 [(3,PV.ptr 1 0)] [] rfl rfl rfl rfl (s_fa_ptr tab_119 rfl rfl tab_3 (by decide) rfl ⟨rfl,rfl,rfl⟩) ?_
  refine d_op ?_
  refine xL [(27,PV.ptr 1 0)] [10] [(1,.obj (cSpan b))] rfl rfl rfl rfl rfl (s_load_ptr1 tab_3 rfl rfl rfl rfl rfl ⟨rfl,rfl,rfl⟩) ⟨rfl,trivial⟩ rfl ?_
  refine d_op ?_
  refine x_run0 [(3,PV.ptr 1 0)] [] rfl rfl rfl rfl (s_fa_ptr tab_119 rfl rfl tab_3 (by decide) rfl ⟨rfl,rfl,rfl⟩) ?_
  refine d_op ?_
  refine xL [(29,PV.ptr 1 1)] [12] [(1,.obj (cSpan b))] rfl rfl rfl rfl rfl (s_load_ptr1 tab_3 rfl rfl rfl rfl rfl ⟨rfl,rfl,rfl⟩) ⟨rfl,trivial⟩ rfl ?_
  refine d_op ?_
  refine x_run0 [(28,pI b.at_),(30,pI b.count)] [10,11,12,13] rfl rfl rfl rfl (s_addi (r := b.at_ + b.count) rfl rfl rfl (by omega) ⟨rfl,rfl,rfl⟩) ?_
  refine d_op ?_
  refine x_run0 [(26,pI (a.at_ + a.count)),(31,pI (b.at_ + b.count))] [5,6,7,8,9,10,11,12,13,14] rfl rfl rfl rfl (s_minI rfl ⟨rfl,rfl,rfl⟩) ?_
  refine d_op ?_
  refine x_run0 [(21,pI (max a.at_ b.at_))] [0,1,2,3,4] rfl rfl rfl rfl (s_assign rfl ⟨rfl,rfl,rfl⟩) ?_
  refine d_op ?_
  refine x_run0 [(32,pI (min (a.at_ + a.count) (b.at_ + b.count)))] [0,1,2,3,4,5,6,7,8,9,10,11,12,13,14,15,16] rfl rfl rfl rfl (s_assign rfl ⟨rfl,rfl,rfl⟩) ?_
  refine d_end ⟨by kernel_rfl, ?_⟩
  refine q_then ?_
  refine w_seq ?_
  refine w_seq ?_
  refine w_R ?_
  refine qm hnt rfl rfl ?_
  refine qm hnt rfl rfl ?_
  refine qo hnt rfl (s_geq rfl rfl ?_)
  refine r_set [(4,PV.ptr 2 0),(6,pI (max a.at_ b.at_)),(7,pI (min (a.at_ + a.count) (b.at_ + b.count))),(35,pB (decide (min (a.at_ + a.count) (b.at_ + b.count) ≤ max a.at_ b.at_)))] [(2,.obj [pI 0,pI 0]),(1,.obj (cSpan b)),(0,.obj (cSpan a))] 3 ⟨rfl,rfl,rfl,rfl,trivial⟩ rfl rfl ?_
  refine r_end ?_
  refine q_then ?_
  refine w_if rfl (fun c2 => ?_) (fun c2 => ?_)
  ·
   have c2_ := c2
   try simp only [sB] at c2
   have em : meetOk a b = false := by simp only [meetOk,ea,eb,Bool.true_and]; apply decide_eq_false; omega
   refine w_seq ?_
   refine w_R ?_
   refine qo hnt rfl (s_build tab_119 rfl rfl (b_nil ?_))
   refine qo hnt rfl (s_store_ptr tab_119 rfl rfl rfl rfl rfl (Nat.le_of_ble_eq_true rfl) ?_)
   refine qa hnt rfl rfl ?_
   refine r_set [(4,PV.ptr 2 0),(5,pB false)] [(2,.obj [pI 0,pI 0]),(1,.obj (cSpan b)),(0,.obj (cSpan a))] 3 ⟨rfl,rfl,trivial⟩ rfl rfl ?_
   refine r_end ?_
   refine q_then ?_
   refine w_leO (n := 2) (ds := cSpan (meetV a b)) rfl ⟨le_of_eq (congrArg (fun z : Int => pI z) (show 0 = ((meetV a b).at_) by simp [em,meetV])),le_of_eq (congrArg (fun z : Int => pI z) (show 0 = ((meetV a b).count) by simp [em,meetV])),trivial⟩ ?_
   refine w_le (s := 5) (y := pB (meetOk a b)) rfl (le_of_eq (congrArg (fun z : Bool => pB z) (show false = (meetOk a b) by simp [em,meetV]))) ?_
   refine w_ret ?_
   refine q_then_ret ?_
   exact fin_plain (ret_cell tab_119 (by decide) rfl rfl (Nat.le_of_ble_eq_true rfl) rfl (ret_tmp rfl ret_nil)) rfl rfl ⟨rfl,rfl,rfl⟩
  have c2_ := c2
  try simp only [sB] at c2
  have em : meetOk a b = true := by simp only [meetOk,ea,eb,Bool.true_and]; apply decide_eq_true; omega
  refine w_skip ?_
  refine q_then ?_
  refine w_seq ?_
  refine w_R ?_
  refine qm hnt rfl rfl ?_
  refine qm hnt rfl rfl ?_
  refine qm hnt rfl rfl ?_
  refine qo hnt rfl (s_subi (r := (min (a.at_ + a.count) (b.at_ + b.count)) - (max a.at_ b.at_)) rfl rfl rfl (by omega) ?_)
  refine qo hnt rfl (s_build tab_119 rfl rfl (b_cons rfl tab_3 rfl rfl rfl (Nat.le_of_ble_eq_true rfl) (b_cons rfl tab_3 rfl rfl rfl (Nat.le_of_ble_eq_true rfl) (b_nil ?_))))
  refine qo hnt rfl (s_store_ptr tab_119 rfl rfl rfl rfl rfl (Nat.le_of_ble_eq_true rfl) ?_)
  refine qa hnt rfl rfl ?_
  refine r_set [(4,PV.ptr 2 0),(5,pB true)] [(2,.obj [pI (max a.at_ b.at_),pI ((min (a.at_ + a.count) (b.at_ + b.count)) - (max a.at_ b.at_))]),(1,.obj (cSpan b)),(0,.obj (cSpan a))] 3 ⟨rfl,rfl,trivial⟩ rfl rfl ?_
  refine r_end ?_
  refine q_then ?_
  refine w_leO (n := 2) (ds := cSpan (meetV a b)) rfl ⟨le_of_eq (congrArg (fun z : Int => pI z) (show (max a.at_ b.at_) = ((meetV a b).at_) by simp [em,meetV])),le_of_eq (congrArg (fun z : Int => pI z) (show ((min (a.at_ + a.count) (b.at_ + b.count)) - (max a.at_ b.at_)) = ((meetV a b).count) by simp [em,meetV])),trivial⟩ ?_
  refine w_le (s := 5) (y := pB (meetOk a b)) rfl (le_of_eq (congrArg (fun z : Bool => pB z) (show true = (meetOk a b) by simp [em,meetV]))) ?_
  refine w_ret ?_
  exact fin_plain (ret_cell tab_119 (by decide) rfl rfl (Nat.le_of_ble_eq_true rfl) rfl (ret_tmp rfl ret_nil)) rfl rfl ⟨rfl,rfl,rfl⟩
 have g1' := g1
 try simp only [sB] at g1'
 have ea : spOk a = false := by simpa using g1
 have em : meetOk a b = false := by simp [meetOk,ea]
 refine rn hnt rfl rfl rfl g1 ?_
 refine rn hnt rfl rfl rfl g1 ?_
 refine qo hnt rfl (s_pick_t rfl g1 rfl ?_)
 refine r_end ?_
 refine q_then ?_
 refine w_if rfl (fun _ => ?_) (fun e => absurd e (by decide))
 refine w_seq ?_
 refine w_R ?_
 refine qo hnt rfl (s_build tab_119 rfl rfl (b_nil ?_))
 refine qo hnt rfl (s_store_ptr tab_119 rfl rfl rfl rfl rfl (Nat.le_of_ble_eq_true rfl) ?_)
 refine qa hnt rfl rfl ?_
 refine r_set [(4,PV.ptr 2 0),(5,pB false)] [(2,.obj [pI 0,pI 0]),(1,.obj (cSpan b)),(0,.obj (cSpan a))] 3 ⟨rfl,rfl,trivial⟩ rfl rfl ?_
 refine r_end ?_
 refine q_then ?_
 refine w_leO (n := 2) (ds := cSpan (meetV a b)) rfl ⟨le_of_eq (congrArg (fun z : Int => pI z) (show 0 = ((meetV a b).at_) by simp [em,meetV])),le_of_eq (congrArg (fun z : Int => pI z) (show 0 = ((meetV a b).count) by simp [em,meetV])),trivial⟩ ?_
 refine w_le (s := 5) (y := pB (meetOk a b)) rfl (le_of_eq (congrArg (fun z : Bool => pB z) (show false = (meetOk a b) by simp [em,meetV]))) ?_
 refine w_ret ?_
 refine q_then_ret ?_
 exact fin_plain (ret_cell tab_119 (by decide) rfl rfl (Nat.le_of_ble_eq_true rfl) rfl (ret_tmp rfl ret_nil)) rfl rfl ⟨rfl,rfl,rfl⟩
theorem w_span_In (a : TSpan) (b : TSpan)  :
    T Try.prog 48 [PV.f (eSpan a),PV.f (eSpan b)] 0 [] (Ret (pB (spIn a b)) 0 []) := by
 refine t_fun tabOk (n := 19) (rs := [.tmp 4]) Try.func48 rfl rfl rfl rfl (Nat.le_of_ble_eq_true rfl) ?_
 intro c hnt hk
 refine w_seq ?_
 refine w_R ?_
 refine qo hnt rfl (s_box rfl rfl ?_)
 refine qo hnt rfl (s_box rfl rfl ?_)
 refine qa hnt rfl rfl ?_
 refine r_set [(2,PV.ptr 0 0),(3,PV.ptr 1 0)] [(1,.obj (cSpan b)),(0,.obj (cSpan a))] 2 ⟨rfl,rfl,trivial⟩ rfl rfl ?_
 refine r_end ?_
 refine q_then ?_
 refine w_seq ?_
 refine w_R ?_
 refine qo hnt rfl (s_load_ptr tab_89 rfl rfl rfl (Nat.le_of_ble_eq_true rfl) ?_)
 refine qo hnt rfl (s_load_ptr tab_89 rfl rfl rfl (Nat.le_of_ble_eq_true rfl) ?_)
 refine qo hnt rfl (s_callF rfl rfl rfl (w_span_Meet a b) rfl ?_)
 refine qm hnt rfl rfl ?_
 refine qo hnt rfl (s_extract rfl rfl ?_)
 refine qo hnt rfl (s_extract rfl rfl ?_)
 refine qo hnt rfl (s_alloc tab_89 ?_)
 refine qo hnt rfl (s_store_ptr tab_89 rfl rfl rfl rfl rfl (Nat.le_of_ble_eq_true rfl) ?_)
 refine qa hnt rfl rfl ?_
 refine r_set [(2,PV.ptr 0 0),(5,PV.ptr 2 0),(6,pB (meetOk a b))] [(2,.obj (cSpan (meetV a b))),(1,.obj (cSpan b)),(0,.obj (cSpan a))] 3 ⟨rfl,rfl,rfl,trivial⟩ rfl rfl ?_
 refine r_end ?_
 refine q_then ?_
 refine w_seq ?_
 refine w_R ?_
 refine qm hnt rfl rfl ?_
 refine qm hnt rfl rfl ?_
 refine r_if tabOk hnt rfl rfl rfl (fun g1 => ?_) (fun g1 => ?_)
 ·
  have g1' := g1
  try simp only [sB] at g1'
  have em := g1
  refine qo hnt rfl (s_load_ptr tab_89 rfl rfl rfl (Nat.le_of_ble_eq_true rfl) ?_)
  refine ry hnt rfl rfl rfl g1 ?_
  refine qo hnt rfl (s_load_ptr tab_89 rfl rfl rfl (Nat.le_of_ble_eq_true rfl) ?_)
  refine ry hnt rfl rfl rfl g1 ?_
  refine qo hnt rfl (s_eqstruct (r := decide ((meetV a b).at_ = a.at_) && (decide ((meetV a b).count = a.count) && true)) seq_89 rfl rfl rfl rfl (by rfl) ?_)
  refine qo hnt rfl (s_pick_t rfl g1 rfl ?_)
  refine qa hnt rfl rfl ?_
  refine r_end ?_
  refine q_then ?_
  refine w_le (s := 4) (y := pB (spIn a b)) rfl (le_of_eq (congrArg (fun z : Bool => pB z) (show (decide ((meetV a b).at_ = a.at_) && (decide ((meetV a b).count = a.count) && true)) = (spIn a b) by (unfold spIn; rw [em,← spEq]; rfl)))) ?_
  refine w_ret ?_
  exact fin_plain (ret_tmp rfl ret_nil) rfl rfl ⟨rfl,rfl,rfl⟩
 have g1' := g1
 try simp only [sB] at g1'
 have em := g1
 refine rn hnt rfl rfl rfl g1 ?_
 refine rn hnt rfl rfl rfl g1 ?_
 refine qo hnt rfl (s_pick_f rfl g1 rfl ?_)
 refine qa hnt rfl rfl ?_
 refine r_end ?_
 refine q_then ?_
 refine w_le (s := 4) (y := pB (spIn a b)) rfl (le_of_eq (congrArg (fun z : Bool => pB z) (show false = (spIn a b) by (unfold spIn; rw [em]; simp; done)))) ?_
 refine w_ret ?_
 exact fin_plain (ret_tmp rfl ret_nil) rfl rfl ⟨rfl,rfl,rfl⟩
theorem w_burgageref7_In (a : TSpan) (b : TSpan)  :
    T Try.prog 73 [PV.f (eSpan a),PV.f (eSpan b)] 0 [] (Ret (pB (spIn a b)) 0 []) := by
 refine t_fun tabOk (n := 19) (rs := [.tmp 4]) Try.func73 rfl rfl rfl rfl (Nat.le_of_ble_eq_true rfl) ?_
 intro c hnt hk
 refine w_seq ?_
 refine w_R ?_
 refine qo hnt rfl (s_box rfl rfl ?_)
 refine qo hnt rfl (s_box rfl rfl ?_)
 refine qa hnt rfl rfl ?_
 refine r_set [(2,PV.ptr 0 0),(3,PV.ptr 1 0)] [(1,.obj (cSpan b)),(0,.obj (cSpan a))] 2 ⟨rfl,rfl,trivial⟩ rfl rfl ?_
 refine r_end ?_
 refine q_then ?_
 refine w_seq ?_
 refine w_R ?_
 refine qo hnt rfl (s_load_ptr tab_119 rfl rfl rfl (Nat.le_of_ble_eq_true rfl) ?_)
 refine qo hnt rfl (s_load_ptr tab_119 rfl rfl rfl (Nat.le_of_ble_eq_true rfl) ?_)
 refine qo hnt rfl (s_callF rfl rfl rfl (w_burgageref7_Meet a b) rfl ?_)
 refine qm hnt rfl rfl ?_
 refine qo hnt rfl (s_extract rfl rfl ?_)
 refine qo hnt rfl (s_extract rfl rfl ?_)
 refine qo hnt rfl (s_alloc tab_119 ?_)
 refine qo hnt rfl (s_store_ptr tab_119 rfl rfl rfl rfl rfl (Nat.le_of_ble_eq_true rfl) ?_)
 refine qa hnt rfl rfl ?_
 refine r_set [(2,PV.ptr 0 0),(5,PV.ptr 2 0),(6,pB (meetOk a b))] [(2,.obj (cSpan (meetV a b))),(1,.obj (cSpan b)),(0,.obj (cSpan a))] 3 ⟨rfl,rfl,rfl,trivial⟩ rfl rfl ?_
 refine r_end ?_
 refine q_then ?_
 refine w_seq ?_
 refine w_R ?_
 refine qm hnt rfl rfl ?_
 refine qm hnt rfl rfl ?_
 refine r_if tabOk hnt rfl rfl rfl (fun g1 => ?_) (fun g1 => ?_)
 ·
  have g1' := g1
  try simp only [sB] at g1'
  have em := g1
  refine qo hnt rfl (s_load_ptr tab_119 rfl rfl rfl (Nat.le_of_ble_eq_true rfl) ?_)
  refine ry hnt rfl rfl rfl g1 ?_
  refine qo hnt rfl (s_load_ptr tab_119 rfl rfl rfl (Nat.le_of_ble_eq_true rfl) ?_)
  refine ry hnt rfl rfl rfl g1 ?_
  refine qo hnt rfl (s_eqstruct (r := decide ((meetV a b).at_ = a.at_) && (decide ((meetV a b).count = a.count) && true)) seq_119 rfl rfl rfl rfl (by rfl) ?_)
  refine qo hnt rfl (s_pick_t rfl g1 rfl ?_)
  refine qa hnt rfl rfl ?_
  refine r_end ?_
  refine q_then ?_
  refine w_le (s := 4) (y := pB (spIn a b)) rfl (le_of_eq (congrArg (fun z : Bool => pB z) (show (decide ((meetV a b).at_ = a.at_) && (decide ((meetV a b).count = a.count) && true)) = (spIn a b) by (unfold spIn; rw [em,← spEq]; rfl)))) ?_
  refine w_ret ?_
  exact fin_plain (ret_tmp rfl ret_nil) rfl rfl ⟨rfl,rfl,rfl⟩
 have g1' := g1
 try simp only [sB] at g1'
 have em := g1
 refine rn hnt rfl rfl rfl g1 ?_
 refine rn hnt rfl rfl rfl g1 ?_
 refine qo hnt rfl (s_pick_f rfl g1 rfl ?_)
 refine qa hnt rfl rfl ?_
 refine r_end ?_
 refine q_then ?_
 refine w_le (s := 4) (y := pB (spIn a b)) rfl (le_of_eq (congrArg (fun z : Bool => pB z) (show false = (spIn a b) by (unfold spIn; rw [em]; simp; done)))) ?_
 refine w_ret ?_
 exact fin_plain (ret_tmp rfl ret_nil) rfl rfl ⟨rfl,rfl,rfl⟩
theorem w_span_Cover_1 (x : TSpan)  :
    T Try.prog 82 [PV.f (eSpan x)] 0 [] (Ret (pB (!(spOk x))) 0 []) := by
 refine t_fun tabOk (n := 6) (rs := [.tmp 2]) Try.func82 rfl rfl rfl rfl (Nat.le_of_ble_eq_true rfl) ?_
 intro c hnt hk
 refine w_seq ?_
 refine w_R ?_
 refine qo hnt rfl (s_box rfl rfl ?_)
 refine qa hnt rfl rfl ?_
 refine r_set [(1,PV.ptr 0 0)] [(0,.obj (cSpan x))] 1 ⟨rfl,trivial⟩ rfl rfl ?_
 refine r_end ?_
 refine q_then ?_
 refine w_seq ?_
 refine w_R ?_
 refine qo hnt rfl (s_load_ptr tab_89 rfl rfl rfl (Nat.le_of_ble_eq_true rfl) ?_)
 refine qo hnt rfl (s_callF rfl rfl rfl (w_span_right x) rfl ?_)
 refine qo hnt rfl (s_not rfl ?_)
 refine qa hnt rfl rfl ?_
 refine r_end ?_
 refine q_then ?_
 refine w_ret ?_
 exact fin_plain (ret_tmp rfl ret_nil) rfl rfl ⟨rfl,rfl,rfl⟩
theorem w_span_Cover_2 (x : TSpan) (v : Int) (hx : spOk x = true) :
    T Try.prog 84 [PV.f (eSpan x),PV.ptr 0 0] 1 [(0,.obj [pI v])] (Ret (pB (decide (x.at_ ≤ v) && decide (v < x.at_ + x.count))) 1 [(0,.obj [pI v])]) := by
 refine t_fun tabOk (n := 14) (rs := [.tmp 3]) Try.func84 rfl rfl rfl rfl (Nat.le_of_ble_eq_true rfl) ?_
 intro c hnt hk
 refine w_seq ?_
 refine w_R ?_
 refine qo hnt rfl (s_box rfl rfl ?_)
 refine qa hnt rfl rfl ?_
 refine r_set [(1,PV.ptr 0 0),(2,PV.ptr 1 0)] [(1,.obj (cSpan x)),(0,.obj [pI v])] 2 ⟨rfl,rfl,trivial⟩ rfl rfl ?_
 refine r_end ?_
 refine q_then ?_
 refine w_seq ?_
 refine W_drawn tabOk mixed hnt [[],[],[1],[0,1,2],[0,1,2,3],[0,1,2,3,4],[0,1,2,3,4],[0,1,2,3,4,6],[0,1,2,3,4,5,6,7],[0,1,2,3,4,5,6,7,8],[0,1,2,3,4,5,6,7,8,9]] (by kernel_rfl) ?_
 refine d_op ?_
 refine xL [(1,PV.ptr 0 0)] [] [(0,.obj [pI v])] rfl rfl rfl rfl rfl (s_load_ptr1 tab_3 rfl rfl rfl rfl rfl ⟨rfl,rfl,rfl⟩) ⟨rfl,trivial⟩ rfl ?_
 refine d_op ?_
 refine x_run0 [(2,PV.ptr 1 0)] [] rfl rfl rfl rfl (s_fa_ptr tab_89 rfl rfl tab_3 (by decide) rfl ⟨rfl,rfl,rfl⟩) ?_
 refine d_op ?_
 refine xL [(5,PV.ptr 1 0)] [1] [(1,.obj (cSpan x))] rfl rfl rfl rfl rfl (s_load_ptr1 tab_3 rfl rfl rfl rfl rfl ⟨rfl,rfl,rfl⟩) ⟨rfl,trivial⟩ rfl ?_
 refine d_op ?_
 refine x_run0 [(4,pI v),(6,pI x.at_)] [0,1,2] rfl rfl rfl rfl (s_geq rfl rfl ⟨rfl,rfl,rfl⟩) ?_
 refine d_op ?_
 refine x_run0 [(7,pB (decide (x.at_ ≤ v)))] [0,1,2,3] rfl rfl rfl rfl (s_move rfl ⟨rfl,rfl,rfl⟩) ?_
 refine x_if [(8,pB (decide (x.at_ ≤ v))),(1,PV.ptr 0 0)] [0,1,2,3,4] rfl rfl rfl rfl (fun g1 => ?_) (fun g1 => ?_)
 ·
  have g1' := g1
  try simp only [sB] at g1'
  refine xL [(8,pB (decide (x.at_ ≤ v))),(1,PV.ptr 0 0)] [0,1,2,3,4] [(0,.obj [pI v])] rfl rfl rfl rfl rfl (s_load_ptr1 tab_3 rfl rfl rfl rfl rfl ⟨rfl,rfl,rfl⟩) ⟨rfl,trivial⟩ rfl ?_
  refine xy [(8,pB (decide (x.at_ ≤ v))),(2,PV.ptr 1 0)] [0,1,2,3,4] rfl rfl rfl rfl g1 ?_
  refine xL [(8,pB (decide (x.at_ ≤ v))),(2,PV.ptr 1 0)] [0,1,2,3,4] [(1,.obj (cSpan x))] rfl rfl rfl rfl rfl (s_load_ptr tab_89 rfl rfl rfl (Nat.le_of_ble_eq_true rfl) ⟨rfl,rfl,rfl⟩) ⟨rfl,trivial⟩ rfl ?_
  refine xy [(8,pB (decide (x.at_ ≤ v))),(10,PV.f (eSpan x))] [0,1,2,3,4,6] rfl rfl rfl rfl g1 ?_
  refine x_run0 [(8,pB (decide (x.at_ ≤ v))),(10,PV.f (eSpan x))] [0,1,2,3,4,6] rfl rfl rfl rfl (s_callF rfl rfl rfl (w_span_Span_end x (by omega)) rfl ⟨rfl,rfl,rfl⟩) ?_
  refine xy [(8,pB (decide (x.at_ ≤ v))),(9,pI v),(11,pI (x.at_ + x.count))] [0,1,2,3,4,5,6,7] rfl rfl rfl rfl g1 ?_
  refine x_run0 [(8,pB (decide (x.at_ ≤ v))),(9,pI v),(11,pI (x.at_ + x.count))] [0,1,2,3,4,5,6,7] rfl rfl rfl rfl (s_lss rfl rfl ⟨rfl,rfl,rfl⟩) ?_
  refine d_op ?_
  refine x_run0 [(8,pB (decide (x.at_ ≤ v))),(12,pB (decide (v < x.at_ + x.count)))] [0,1,2,3,4,5,6,7,8] rfl rfl rfl rfl (s_pick_t rfl g1 rfl ⟨rfl,rfl,rfl⟩) ?_
  refine d_op ?_
  refine x_run0 [(13,pB (decide (v < x.at_ + x.count)))] [0,1,2,3,4,5,6,7,8,9] rfl rfl rfl rfl (s_assign rfl ⟨rfl,rfl,rfl⟩) ?_
  refine d_end ⟨by kernel_rfl, ?_⟩
  refine q_then ?_
  refine w_le (s := 3) (y := pB (decide (x.at_ ≤ v) && decide (v < x.at_ + x.count))) rfl (le_of_eq (congrArg (fun z : Bool => pB z) (show (decide (v < x.at_ + x.count)) = (decide (x.at_ ≤ v) && decide (v < x.at_ + x.count)) by (simp_all; done)))) ?_
  refine w_ret ?_
  exact fin_names (nx1 := 1) (H1 := [(0,.obj [pI v])]) [(0,0)] (ret_tmp rfl ret_nil) rfl (by decide) ⟨⟨_,_,rfl,rfl,rfl,rfl⟩,trivial⟩ (by decide) rfl ⟨rfl,rfl,rfl⟩
 have g1' := g1
 try simp only [sB] at g1'
 refine xn [(8,pB (decide (x.at_ ≤ v))),(2,PV.ptr 1 0)] [0,1,2,3,4] rfl rfl rfl rfl g1 ?_
 refine xn [(8,pB (decide (x.at_ ≤ v))),(10,undefP)] [0,1,2,3,4,6] rfl rfl rfl rfl g1 ?_
 refine xn [(8,pB (decide (x.at_ ≤ v))),(9,undefP),(11,undefP)] [0,1,2,3,4,5,6,7] rfl rfl rfl rfl g1 ?_
 refine d_op ?_
 refine x_run0 [(8,pB (decide (x.at_ ≤ v))),(12,undefP)] [0,1,2,3,4,5,6,7,8] rfl rfl rfl rfl (s_pick_f rfl g1 rfl ⟨rfl,rfl,rfl⟩) ?_
 refine d_op ?_
 refine x_run0 [(13,pB false)] [0,1,2,3,4,5,6,7,8,9] rfl rfl rfl rfl (s_assign rfl ⟨rfl,rfl,rfl⟩) ?_
 refine d_end ⟨by kernel_rfl, ?_⟩
 refine q_then ?_
 refine w_le (s := 3) (y := pB (decide (x.at_ ≤ v) && decide (v < x.at_ + x.count))) rfl (le_of_eq (congrArg (fun z : Bool => pB z) (show false = (decide (x.at_ ≤ v) && decide (v < x.at_ + x.count)) by (simp_all; omega)))) ?_
 refine w_ret ?_
 exact fin_names (nx1 := 1) (H1 := [(0,.obj [pI v])]) [(0,0)] (ret_tmp rfl ret_nil) rfl (by decide) ⟨⟨_,_,rfl,rfl,rfl,rfl⟩,trivial⟩ (by decide) rfl ⟨rfl,rfl,rfl⟩
theorem w_slices_IndexFunc_span_Span_span_Span_c1 (s : List TSpan) (cl_s : Bool) (hs : s.length ≤ 140737488351232) :
    T Try.prog 46 [pS 2 cl_s eSpan s,PV.clo (.func 82) []] 0 [] (Ret (pI (idxI (s.findIdx? fun x => !(spOk x)))) 0 []) := by
 refine t_fun tabOk (n := 19) (rs := [.tmp 4]) Try.func46 rfl rfl rfl rfl (Nat.le_of_ble_eq_true rfl) ?_
 intro c hnt hk
 refine w_seq ?_
 refine w_R ?_
 refine qa hnt rfl rfl ?_
 refine r_end ?_
 refine q_then ?_
 refine w_seq ?_
 refine w_seq ?_
 refine w_R ?_
 refine qm hnt rfl rfl ?_
 refine qo hnt rfl (s_lenM (l := s) tab_87 rfl (hM_sl (f := eSpan) rfl) ?_)
 refine qm hnt rfl rfl ?_
 refine r_end ?_
 refine q_then ?_
 refine w_block ?_
 refine loop1 (fun (i : Nat) => i ≤ s.length ∧ ∀ j x,j < i → s[j]? = some x → (!(spOk x)) = false) (fun (i : Nat) => [(0,pS 2 cl_s eSpan s),(1,PV.clo (.func 82) []),(7,pN s.length),(8,pN i)]) 0 (fun (i : Nat) => []) (fun (i : Nat) => s.length - i) (0) ?_ ⟨[],rfl,⟨⟨_,rfl,rfl,rfl⟩,⟨_,rfl,rfl,rfl⟩,⟨_,rfl,rfl,rfl⟩,⟨_,rfl,rfl,rfl⟩,trivial⟩,trivial,by rw [hk]; decide⟩ ?_
 · exact ⟨Nat.zero_le _,fun j x hj => by omega⟩
 ·
  intro i hI
  obtain ⟨hi,ht⟩ := hI
  refine w_seq ?_
  refine w_R ?_
  refine qo hnt rfl (s_lss rfl rfl ?_)
  refine r_end ?_
  refine q_then ?_
  refine w_seq ?_
  refine w_if rfl (fun c1 => ?_) (fun c1 => ?_)
  ·
   have c1_ := c1
   try simp only [sB] at c1
   refine w_skip ?_
   refine q_then ?_
   refine w_seq ?_
   refine w_block ?_
   refine w_seq ?_
   refine w_R ?_
   refine qm hnt rfl rfl ?_
   refine qa hnt rfl rfl ?_
   refine r_end ?_
   refine q_then ?_
   refine w_seq ?_
   refine w_R ?_
   refine qm hnt rfl rfl ?_
   refine qm hnt rfl rfl ?_
   refine qm hnt rfl rfl ?_
   obtain ⟨e1,he1⟩ := get_of_lt s (i := i) (by omega)
   refine qo hnt rfl (s_iaM (q := i) (b := e1) (f := eSpan) tab_87 rfl tab_89 rfl rfl (by omega) rfl he1 ?_)
   refine qo hnt rfl (s_load_ro tab_89 rfl rfl rfl ?_)
   refine qo hnt rfl (s_callF rfl rfl rfl (w_span_Cover_1 e1) rfl ?_)
   refine r_end ?_
   refine q_then ?_
   refine w_if rfl (fun c2 => ?_) (fun c2 => ?_)
   ·
    have c2_ := c2
    try simp only [sB] at c2
    refine w_seq ?_
    refine w_R ?_
    refine qm hnt rfl rfl ?_
    refine qa hnt rfl rfl ?_
    refine r_end ?_
    refine q_then ?_
    refine w_le (s := 4) (y := pI (idxI (s.findIdx? fun x => !(spOk x)))) rfl (le_of_eq (congrArg (fun z : Int => pI z) (show ((i : Nat) : Int) = (idxI (s.findIdx? fun x => !(spOk x))) by rw [find_step (p := fun x => !(spOk x)) ht he1 c2_]))) ?_
    refine w_ret ?_
    refine q_block_ret ?_
    refine q_then_ret ?_
    refine q_then_ret ?_
    refine q_block_ret ?_
    refine q_then_ret ?_
    exact fin_plain (ret_tmp rfl ret_nil) rfl rfl ⟨rfl,rfl,rfl⟩
   have c2_ := c2
   try simp only [sB] at c2
   refine w_skip ?_
   refine q_block ?_
   refine q_then ?_
   refine w_R ?_
   refine qo hnt rfl (s_addN (a := i) (b := 1) rfl rfl (by omega) (by omega) (by omega) ?_)
   refine qm hnt rfl rfl ?_
   refine r_end ?_
   refine q_then ?_
   refine ⟨(i + 1), ?_, ?_,⟨[],rfl,⟨⟨_,rfl,rfl,rfl⟩,⟨_,rfl,rfl,rfl⟩,⟨_,rfl,rfl,rfl⟩,⟨_,rfl,rfl,rfl⟩,trivial⟩,trivial,by rw [hk]; decide⟩⟩
   ·
    refine ⟨by omega,fun j x hj hx => ?_⟩
    by_cases hji : j < i
    · exact ht j x hji hx
    · obtain rfl : j = i := by omega
      rw [he1] at hx; cases hx; exact c2_
   · omega
  have c1_ := c1
  try simp only [sB] at c1
  refine w_exit ?_
  refine q_then_exit ?_
  refine q_then_exit ?_
  refine q_block_exit ?_
  refine q_then ?_
  refine w_seq ?_
  refine w_R ?_
  refine qa hnt rfl rfl ?_
  refine r_end ?_
  refine q_then ?_
  refine w_le (s := 4) (y := pI (idxI (s.findIdx? fun x => !(spOk x)))) rfl (le_of_eq (congrArg (fun z : Int => pI z) (show (-1) = (idxI (s.findIdx? fun x => !(spOk x))) by rw [find_none (p := fun x => !(spOk x)) (fun j x hj hx => ht j x (by omega) hx)]))) ?_
  refine w_ret ?_
  exact fin_plain (ret_tmp rfl ret_nil) rfl rfl ⟨rfl,rfl,rfl⟩
theorem w_slices_IndexFunc_span_Span_span_Span_c2 (s : List TSpan) (cl_s : Bool) (v : Int) (hs : s.length ≤ 140737488351232) (hg : ∀ x ∈ s,spOk x = true) :
    T Try.prog 46 [pS 2 cl_s eSpan s,PV.clo (.func 84) [PV.ptr 0 0]] 1 [(0,.obj [pI v])] (Ret (pI (idxI (idxAt s v))) 1 [(0,.obj [pI v])]) := by
 refine t_fun tabOk (n := 19) (rs := [.tmp 4]) Try.func46 rfl rfl rfl rfl (Nat.le_of_ble_eq_true rfl) ?_
 intro c hnt hk
 refine w_seq ?_
 refine w_R ?_
 refine qa hnt rfl rfl ?_
 refine r_end ?_
 refine q_then ?_
 refine w_seq ?_
 refine w_seq ?_
 refine w_R ?_
 refine qm hnt rfl rfl ?_
 refine qo hnt rfl (s_lenM (l := s) tab_87 rfl (hM_sl (f := eSpan) rfl) ?_)
 refine qm hnt rfl rfl ?_
 refine r_end ?_
 refine q_then ?_
 refine w_block ?_
 refine loop1 (fun (i : Nat) => i ≤ s.length ∧ ∀ j x,j < i → s[j]? = some x → (decide (x.at_ ≤ v) && decide (v < x.at_ + x.count)) = false) (fun (i : Nat) => [(0,pS 2 cl_s eSpan s),(1,PV.clo (.func 84) [PV.ptr 0 0]),(7,pN s.length),(8,pN i)]) 1 (fun (i : Nat) => [(0,.obj [pI v])]) (fun (i : Nat) => s.length - i) (0) ?_ ⟨[(0,0)],by rw [hk]; decide,⟨⟨_,rfl,rfl,rfl⟩,⟨_,rfl,rfl,rfl⟩,⟨_,rfl,rfl,rfl⟩,⟨_,rfl,rfl,rfl⟩,trivial⟩,⟨⟨_,_,rfl,rfl,rfl,rfl⟩,trivial⟩,by rw [hk]; decide⟩ ?_
 · exact ⟨Nat.zero_le _,fun j x hj => by omega⟩
 ·
  intro i hI
  obtain ⟨hi,ht⟩ := hI
  refine w_seq ?_
  refine w_R ?_
  refine qo hnt rfl (s_lss rfl rfl ?_)
  refine r_end ?_
  refine q_then ?_
  refine w_seq ?_
  refine w_if rfl (fun c1 => ?_) (fun c1 => ?_)
  ·
   have c1_ := c1
   try simp only [sB] at c1
   refine w_skip ?_
   refine q_then ?_
   refine w_seq ?_
   refine w_block ?_
   refine w_seq ?_
   refine w_R ?_
   refine qm hnt rfl rfl ?_
   refine qa hnt rfl rfl ?_
   refine r_end ?_
   refine q_then ?_
   refine w_seq ?_
   have hge := hg
   refine w_R ?_
   refine qm hnt rfl rfl ?_
   refine qm hnt rfl rfl ?_
   refine qm hnt rfl rfl ?_
   obtain ⟨e1,he1⟩ := get_of_lt s (i := i) (by omega)
   refine qo hnt rfl (s_iaM (q := i) (b := e1) (f := eSpan) tab_87 rfl tab_89 rfl rfl (by omega) rfl he1 ?_)
   refine qo hnt rfl (s_load_ro tab_89 rfl rfl rfl ?_)
   refine qo hnt rfl (s_callX (r2 := pB (decide (e1.at_ ≤ v) && decide (v < e1.at_ + e1.count))) (nx1 := 1) (H2 := [(0,.obj [pI v])]) (H3 := [(0,.obj [pI v])]) [0] [.obj [pI v]] rfl rfl rfl (handed_of (by decide) ⟨rfl,trivial⟩) rfl rfl rfl rfl rfl rfl (w_span_Cover_2 e1 v (by exact hg e1 (List.mem_of_getElem? he1))) rfl (dist_of rfl) rfl rfl rfl rfl ?_)
   refine r_set [(0,pS 2 cl_s eSpan s),(1,PV.clo (.func 84) [PV.ptr 0 0]),(5,pN i),(7,pN s.length),(8,pN i),(16,pB (decide (e1.at_ ≤ v) && decide (v < e1.at_ + e1.count)))] [(0,.obj [pI v])] 1 ⟨rfl,rfl,rfl,rfl,rfl,rfl,trivial⟩ rfl rfl ?_
   refine r_end ?_
   refine q_then ?_
   refine w_if rfl (fun c2 => ?_) (fun c2 => ?_)
   ·
    have c2_ := c2
    try simp only [sB] at c2
    refine w_seq ?_
    refine w_R ?_
    refine qm hnt rfl rfl ?_
    refine qa hnt rfl rfl ?_
    refine r_end ?_
    refine q_then ?_
    refine w_le (s := 4) (y := pI (idxI (idxAt s v))) rfl (le_of_eq (congrArg (fun z : Int => pI z) (show ((i : Nat) : Int) = (idxI (idxAt s v)) by unfold idxAt; rw [find_step (p := fun x => decide (x.at_ ≤ v) && decide (v < x.at_ + x.count)) ht he1 c2_]))) ?_
    refine w_ret ?_
    refine q_block_ret ?_
    refine q_then_ret ?_
    refine q_then_ret ?_
    refine q_block_ret ?_
    refine q_then_ret ?_
    exact fin_names (nx1 := 1) (H1 := [(0,.obj [pI v])]) [(0,0)] (ret_tmp rfl ret_nil) rfl (by decide) ⟨⟨_,_,rfl,rfl,rfl,rfl⟩,trivial⟩ (by decide) rfl ⟨rfl,rfl,rfl⟩
   have c2_ := c2
   try simp only [sB] at c2
   refine w_skip ?_
   refine q_block ?_
   refine q_then ?_
   refine w_R ?_
   refine qo hnt rfl (s_addN (a := i) (b := 1) rfl rfl (by omega) (by omega) (by omega) ?_)
   refine qm hnt rfl rfl ?_
   refine r_end ?_
   refine q_then ?_
   refine ⟨(i + 1), ?_, ?_,⟨[(0,0)],by rw [hk]; decide,⟨⟨_,rfl,rfl,rfl⟩,⟨_,rfl,rfl,rfl⟩,⟨_,rfl,rfl,rfl⟩,⟨_,rfl,rfl,rfl⟩,trivial⟩,⟨⟨_,_,rfl,rfl,rfl,rfl⟩,trivial⟩,by rw [hk]; decide⟩⟩
   ·
    refine ⟨by omega,fun j x hj hx => ?_⟩
    by_cases hji : j < i
    · exact ht j x hji hx
    · obtain rfl : j = i := by omega
      rw [he1] at hx; cases hx; exact c2_
   · omega
  have c1_ := c1
  try simp only [sB] at c1
  refine w_exit ?_
  refine q_then_exit ?_
  refine q_then_exit ?_
  refine q_block_exit ?_
  refine q_then ?_
  refine w_seq ?_
  refine w_R ?_
  refine qa hnt rfl rfl ?_
  refine r_end ?_
  refine q_then ?_
  refine w_le (s := 4) (y := pI (idxI (idxAt s v))) rfl (le_of_eq (congrArg (fun z : Int => pI z) (show (-1) = (idxI (idxAt s v)) by unfold idxAt; rw [find_none (p := fun x => decide (x.at_ ≤ v) && decide (v < x.at_ + x.count)) (fun j x hj hx => ht j x (by omega) hx)]))) ?_
  refine w_ret ?_
  exact fin_names (nx1 := 1) (H1 := [(0,.obj [pI v])]) [(0,0)] (ret_tmp rfl ret_nil) rfl (by decide) ⟨⟨_,_,rfl,rfl,rfl,rfl⟩,trivial⟩ (by decide) rfl ⟨rfl,rfl,rfl⟩
theorem w_slices_ContainsFunc_span_Span_span_Span_c1 (s : List TSpan) (cl_s : Bool) (hs : s.length ≤ 140737488351232) :
    T Try.prog 81 [pS 2 cl_s eSpan s,PV.clo (.func 82) []] 0 [] (Ret (pB (decide (∃ x ∈ s,spOk x = false))) 0 []) := by
 refine t_fun tabOk (n := 9) (rs := [.tmp 4]) Try.func81 rfl rfl rfl rfl (Nat.le_of_ble_eq_true rfl) ?_
 intro c hnt hk
 refine w_seq ?_
 refine w_R ?_
 refine qa hnt rfl rfl ?_
 refine r_end ?_
 refine q_then ?_
 refine w_seq ?_
 refine w_R ?_
 refine qm hnt rfl rfl ?_
 refine qm hnt rfl rfl ?_
 refine qo hnt rfl (s_callX (r2 := pI (idxI (s.findIdx? fun x => !(spOk x)))) (nx1 := 0) (H2 := []) (H3 := []) [] [] rfl rfl rfl (handed_of (by decide) trivial) rfl rfl rfl rfl rfl rfl (w_slices_IndexFunc_span_Span_span_Span_c1 s cl_s (by omega)) rfl (dist_of rfl) rfl rfl rfl rfl ?_)
 refine qo hnt rfl (s_geq rfl rfl ?_)
 refine qa hnt rfl rfl ?_
 refine r_end ?_
 refine q_then ?_
 refine w_le (s := 4) (y := pB (decide (∃ x ∈ s,spOk x = false))) rfl (le_of_eq (congrArg (fun z : Bool => pB z) (show (decide (0 ≤ idxI (s.findIdx? fun x => !(spOk x)))) = (decide (∃ x ∈ s,spOk x = false)) by exact contains_idx s))) ?_
 refine w_ret ?_
 exact fin_plain (ret_tmp rfl ret_nil) rfl rfl ⟨rfl,rfl,rfl⟩
theorem w_span_Cover (l : List TSpan) (cl_l : Bool) (s : TSpan) (hl : l.length ≤ 140737488351232) :
    T Try.prog 45 [pS 2 cl_l eSpan l,PV.f (eSpan s)] 0 [] (Ret (PV.tup [pS 2 false eSpan (coverV l s),pB (coverOk l s)]) 0 []) := by
 refine t_fun tabOk (n := 48) (rs := [.tmp 4,.tmp 5]) Try.func45 rfl rfl rfl rfl (Nat.le_of_ble_eq_true rfl) ?_
 intro c hnt hk
 refine w_seq ?_
 refine w_R ?_
 refine qo hnt rfl (s_box rfl rfl ?_)
 refine qa hnt rfl rfl ?_
 refine qa hnt rfl rfl ?_
 refine r_set [(0,pS 2 cl_l eSpan l),(3,PV.ptr 0 0)] [(0,.obj (cSpan s))] 1 ⟨rfl,rfl,trivial⟩ rfl rfl ?_
 refine r_end ?_
 refine q_then ?_
 refine w_seq ?_
 refine w_seq ?_
 refine w_R ?_
 refine qo hnt rfl (s_load_ptr tab_89 rfl rfl rfl (Nat.le_of_ble_eq_true rfl) ?_)
 refine qo hnt rfl (s_callF rfl rfl rfl (w_span_right s) rfl ?_)
 refine qo hnt rfl (s_not rfl ?_)
 refine qm hnt rfl rfl ?_
 refine r_if tabOk hnt rfl rfl rfl (fun g1 => ?_) (fun g1 => ?_)
 ·
  have g1' := g1
  try simp only [sB] at g1'
  have es : spOk s = true := by simpa using g1
  have hs := (spOk_iff s).1 es
  refine qm hnt rfl rfl ?_
  refine ry hnt rfl rfl rfl g1 ?_
  refine qo hnt rfl (s_callX (r2 := pB (decide (∃ x ∈ l,spOk x = false))) (nx1 := 1) (H2 := [(0,.obj (cSpan s))]) (H3 := [(0,.obj (cSpan s))]) [] [] rfl rfl rfl (handed_of (by decide) trivial) rfl rfl rfl rfl rfl rfl (w_slices_ContainsFunc_span_Span_span_Span_c1 l cl_l (by omega)) rfl (dist_of rfl) rfl rfl rfl rfl ?_)
  refine qo hnt rfl (s_pick_f rfl g1 rfl ?_)
  refine r_end ?_
  refine q_then ?_
  refine w_if rfl (fun c1 => ?_) (fun c1 => ?_)
  ·
   have c1_ := c1
   try simp only [sB] at c1
   have ec : coverL l s = none := by unfold coverL; rw [if_neg]; rintro ⟨_,h⟩; obtain ⟨x,hx,hf⟩ := c1; rw [h x hx] at hf; cases hf
   refine w_seq ?_
   refine w_R ?_
   refine qa hnt rfl rfl ?_
   refine qa hnt rfl rfl ?_
   refine r_end ?_
   refine q_then ?_
   refine w_le (s := 4) (y := pS 2 false eSpan []) rfl (le_nilS 2 false) ?_
   refine w_le (s := 4) (y := pS 2 false eSpan (coverV l s)) rfl (le_of_eq (congrArg (fun z => pS 2 false eSpan z) (show ([] : List TSpan) = (coverV l s) by (simp [coverV,coverOk,ec]; done)))) ?_
   refine w_le (s := 5) (y := pB (coverOk l s)) rfl (le_of_eq (congrArg (fun z : Bool => pB z) (show false = (coverOk l s) by (simp [coverV,coverOk,ec]; done)))) ?_
   refine w_ret ?_
   refine q_then_ret ?_
   exact fin_plain (ret_tmp rfl (ret_tmp rfl ret_nil)) rfl rfl ⟨rfl,rfl,rfl⟩
  have c1_ := c1
  try simp only [sB] at c1
  have hg : ∀ x ∈ l,spOk x = true := by intro x hx; cases hq : spOk x with|true => rfl|false => exact absurd ⟨x,hx,hq⟩ c1
  have ec : coverL l s = covGo l (s.at_ + s.count) s.at_ := by unfold coverL; rw [if_pos ⟨es,hg⟩]
  refine w_skip ?_
  refine q_then ?_
  refine w_seq ?_
  refine w_R ?_
  refine qa hnt rfl rfl ?_
  refine r_end ?_
  refine q_then ?_
  refine w_seq ?_
  refine w_seq ?_
  refine w_R ?_
  refine qo hnt rfl (s_fa_ptr tab_89 rfl rfl tab_3 (by decide) rfl ?_)
  refine qo hnt rfl (s_load_ptr1 tab_3 rfl rfl rfl rfl rfl ?_)
  refine qo hnt rfl (s_alloc tab_3 ?_)
  refine qo hnt rfl (s_store_ptr tab_3 rfl rfl rfl rfl rfl (Nat.le_of_ble_eq_true rfl) ?_)
  refine r_set [(0,pS 2 cl_l eSpan l),(3,PV.ptr 0 0),(6,pNil),(7,PV.ptr 1 0)] [(1,.obj [pI s.at_]),(0,.obj (cSpan s))] 2 ⟨rfl,rfl,rfl,rfl,trivial⟩ rfl rfl ?_
  refine r_end ?_
  refine q_then ?_
  refine w_block ?_
  refine w_adopt (s := 6) (sz := 2) rfl ?_
  refine loop2 (fun (os : List TSpan) (v : Int) => s.at_ ≤ v ∧ v ≤ s.at_ + s.count ∧ (os.length : Int) ≤ v - s.at_ ∧ covGo l (s.at_ + s.count) s.at_ = (covGo l (s.at_ + s.count) v).map (os ++ ·)) (fun (os : List TSpan) (v : Int) => [(0,pS 2 cl_l eSpan l),(3,PV.ptr 2 0),(6,PV.ref 0 0 none),(7,PV.ptr 1 0)]) 3 (fun (os : List TSpan) (v : Int) => [(0,oB true 2 eSpan os),(1,.obj [pI v]),(2,.obj (cSpan s))]) (fun (os : List TSpan) (v : Int) => (s.at_ + s.count - v).toNat) (([] : List TSpan)) (s.at_) ?_ ⟨[(0,2),(1,1),(2,0)],by rw [hk]; decide,⟨⟨_,rfl,rfl,rfl⟩,⟨_,rfl,rfl,rfl⟩,⟨_,rfl,rfl,rfl⟩,⟨_,rfl,rfl,rfl⟩,trivial⟩,⟨⟨_,_,rfl,rfl,rfl,rfl⟩,⟨_,_,rfl,rfl,rfl,rfl⟩,⟨_,_,rfl,rfl,rfl,rfl⟩,trivial⟩,by rw [hk]; decide⟩ ?_
  · exact ⟨by omega,by omega,by simp,by simp⟩
  ·
   intro os v hI
   obtain ⟨hv1,hv2,hol,hcov⟩ := hI
   refine w_seq ?_
   refine w_seq ?_
   refine W_drawn tabOk mixed hnt [[],[],[1],[0,1,2]] (by kernel_rfl) ?_
   refine d_op ?_
   refine xL [(7,PV.ptr 1 0)] [] [(1,.obj [pI v])] rfl rfl rfl rfl rfl (s_load_ptr1 tab_3 rfl rfl rfl rfl rfl ⟨rfl,rfl,rfl⟩) ⟨rfl,trivial⟩ rfl ?_
   refine d_op ?_
   refine xL [(3,PV.ptr 2 0)] [] [(2,.obj (cSpan s))] rfl rfl rfl rfl rfl (s_load_ptr tab_89 rfl rfl rfl (Nat.le_of_ble_eq_true rfl) ⟨rfl,rfl,rfl⟩) ⟨rfl,trivial⟩ rfl ?_
   refine d_op ?_
   refine x_run0 [(20,PV.f (eSpan s))] [1] rfl rfl rfl rfl (s_callF rfl rfl rfl (w_span_Span_end s (by omega)) rfl ⟨rfl,rfl,rfl⟩) ?_
   refine d_op ?_
   refine x_run0 [(19,pI v),(21,pI (s.at_ + s.count))] [0,1,2] rfl rfl rfl rfl (s_lss rfl rfl ⟨rfl,rfl,rfl⟩) ?_
   refine d_end ⟨by kernel_rfl, ?_⟩
   refine q_then ?_
   refine w_if rfl (fun c2 => ?_) (fun c2 => ?_)
   ·
    have c2_ := c2
    try simp only [sB] at c2
    refine w_skip ?_
    refine q_then ?_
    refine w_seq ?_
    refine w_block ?_
    refine w_seq ?_
    refine w_R ?_
    refine qm hnt rfl rfl ?_
    refine qo hnt rfl (s_makeFunc rfl rfl ?_)
    refine qo hnt rfl (s_callX (r2 := pI (idxI (idxAt l v))) (nx1 := 3) (H2 := [(0,oB true 2 eSpan os),(1,.obj [pI v]),(2,.obj (cSpan s))]) (H3 := [(1,.obj [pI v]),(0,oB true 2 eSpan os),(2,.obj (cSpan s))]) [1] [.obj [pI v]] rfl rfl rfl (handed_of (by decide) ⟨rfl,trivial⟩) rfl rfl rfl rfl rfl rfl (w_slices_IndexFunc_span_Span_span_Span_c2 l cl_l v (by omega) (by omega)) rfl (dist_of rfl) rfl rfl rfl rfl ?_)
    refine qa hnt rfl rfl ?_
    refine r_set [(0,pS 2 cl_l eSpan l),(3,PV.ptr 2 0),(6,PV.ref 0 0 none),(7,PV.ptr 1 0),(8,pI (idxI (idxAt l v)))] [(1,.obj [pI v]),(0,oB true 2 eSpan os),(2,.obj (cSpan s))] 3 ⟨rfl,rfl,rfl,rfl,rfl,trivial⟩ rfl rfl ?_
    refine r_end ?_
    refine q_then ?_
    refine w_seq ?_
    refine w_seq ?_
    refine w_R ?_
    refine qm hnt rfl rfl ?_
    refine qo hnt rfl (s_lss rfl rfl ?_)
    refine r_end ?_
    refine q_then ?_
    refine w_if rfl (fun c3 => ?_) (fun c3 => ?_)
    ·
     have c3_ := c3
     try simp only [sB] at c3
     have en : coverL l s = none := by rw [ec,hcov,covGo_none c2 (idx_none c3)]; rfl
     refine w_seq ?_
     refine w_R ?_
     refine qa hnt rfl rfl ?_
     refine qa hnt rfl rfl ?_
     refine r_end ?_
     refine q_then ?_
     refine w_le (s := 4) (y := pS 2 false eSpan []) rfl (le_nilS 2 false) ?_
     refine w_le (s := 4) (y := pS 2 false eSpan (coverV l s)) rfl (le_of_eq (congrArg (fun z => pS 2 false eSpan z) (show ([] : List TSpan) = (coverV l s) by (simp [coverV,coverOk,en]; done)))) ?_
     refine w_le (s := 5) (y := pB (coverOk l s)) rfl (le_of_eq (congrArg (fun z : Bool => pB z) (show false = (coverOk l s) by (simp [coverV,coverOk,en]; done)))) ?_
     refine w_ret ?_
     refine q_then_ret ?_
     refine q_block_ret ?_
     refine q_then_ret ?_
     refine q_then_ret ?_
     refine q_block_ret ?_
     refine q_then_ret ?_
     exact fin_plain (ret_tmp rfl (ret_tmp rfl ret_nil)) rfl rfl ⟨rfl,rfl,rfl⟩
    have c3_ := c3
    try simp only [sB] at c3
    obtain ⟨ii,e0,hxa,hxi,he0,hxl,hxh⟩ := idx_some (l := l) (v := v) (by omega)
    refine w_eq (s := 8) (y := pN ii) rfl (congrArg (fun z : Int => pI z) (show (idxI (idxAt l v)) = ((ii : Nat) : Int) by exact hxi)) ?_
    have eg := hg e0 (List.mem_of_getElem? he0)
    have heg := (spOk_iff e0).1 eg
    refine w_skip ?_
    refine q_then ?_
    refine w_seq ?_
    refine W_drawn tabOk mixed hnt [[],[],[0,1],[0,1,2],[0,1,2,3],[],[0,1,2,3,4,5],[0,1,2,3,4,5,6],[0,1,2,3,4,5,6,7]] (by kernel_rfl) ?_
    refine d_op ?_
    refine x_run0 [(0,pS 2 cl_l eSpan l)] [] rfl rfl rfl rfl (s_move rfl ⟨rfl,rfl,rfl⟩) ?_
    refine d_op ?_
    refine x_run0 [(8,pN ii)] [] rfl rfl rfl rfl (s_move rfl ⟨rfl,rfl,rfl⟩) ?_
    refine d_op ?_
    refine x_run0 [(28,pS 2 cl_l eSpan l),(29,pN ii)] [0,1] rfl rfl rfl rfl (s_iaM (q := ii) (b := e0) (f := eSpan) tab_87 rfl tab_89 rfl rfl (by omega) rfl he0 ⟨rfl,rfl,rfl⟩) ?_
    refine d_op ?_
    refine x_run0 [(30,PV.f (.ro (eSpan e0)))] [0,1,2] rfl rfl rfl rfl (s_load_ro tab_89 rfl rfl rfl ⟨rfl,rfl,rfl⟩) ?_
    refine d_op ?_
    refine x_run0 [(31,PV.f (eSpan e0))] [0,1,2,3] rfl rfl rfl rfl (s_callF rfl rfl rfl (w_span_Span_end e0 (by omega)) rfl ⟨rfl,rfl,rfl⟩) ?_
    refine d_op ?_
    refine xL [(3,PV.ptr 2 0)] [] [(2,.obj (cSpan s))] rfl rfl rfl rfl rfl (s_load_ptr tab_89 rfl rfl rfl (Nat.le_of_ble_eq_true rfl) ⟨rfl,rfl,rfl⟩) ⟨rfl,trivial⟩ rfl ?_
    refine d_op ?_
    refine x_run0 [(33,PV.f (eSpan s))] [0,1,2,3,4,5] rfl rfl rfl rfl (s_callF rfl rfl rfl (w_span_Span_end s (by omega)) rfl ⟨rfl,rfl,rfl⟩) ?_
    refine d_op ?_
    refine x_run0 [(32,pI (e0.at_ + e0.count)),(34,pI (s.at_ + s.count))] [0,1,2,3,4,5,6] rfl rfl rfl rfl (s_minI rfl ⟨rfl,rfl,rfl⟩) ?_
    refine d_op ?_
    refine x_run0 [(35,pI (min (e0.at_ + e0.count) (s.at_ + s.count)))] [0,1,2,3,4,5,6,7] rfl rfl rfl rfl (s_assign rfl ⟨rfl,rfl,rfl⟩) ?_
    refine d_end ⟨by kernel_rfl, ?_⟩
    refine q_then ?_
    refine w_seq ?_
    refine w_R ?_
    refine qm hnt rfl rfl ?_
    refine qo hnt rfl (s_load_ptr1 tab_3 rfl rfl rfl rfl rfl ?_)
    refine qm hnt rfl rfl ?_
    refine qo hnt rfl (s_load_ptr1 tab_3 rfl rfl rfl rfl rfl ?_)
    refine qo hnt rfl (s_subi (r := (min (e0.at_ + e0.count) (s.at_ + s.count)) - v) rfl rfl rfl (by omega) ?_)
    refine qo hnt rfl (s_build tab_89 rfl rfl (b_cons rfl tab_3 rfl rfl rfl (Nat.le_of_ble_eq_true rfl) (b_cons rfl tab_3 rfl rfl rfl (Nat.le_of_ble_eq_true rfl) (b_nil ?_))))
    refine qo hnt rfl (s_mkM (f := eSpan) [(⟨v,(min (e0.at_ + e0.count) (s.at_ + s.count)) - v⟩ : TSpan)] tab_87 rfl tab_89 ⟨rfl,by decide⟩ (by decide) rfl rfl rfl rfl ?_)
    refine qo hnt rfl (s_appR0 (f := eSpan) (l := os) (xs := [(⟨v,(min (e0.at_ + e0.count) (s.at_ + s.count)) - v⟩ : TSpan)]) tab_87 rfl tab_89 ⟨rfl,by decide,by decide⟩ (srcM tab_87 rfl (hM_ref0 (f := eSpan) rfl rfl)) rfl rfl (by (simp; omega)) ?_)
    refine qa hnt rfl rfl ?_
    refine r_set [(0,pS 2 cl_l eSpan l),(3,PV.ptr 2 0),(6,PV.ref 4 0 none),(7,PV.ptr 1 0),(9,pI (min (e0.at_ + e0.count) (s.at_ + s.count)))] [(4,oB true 2 eSpan (os ++ [(⟨v,(min (e0.at_ + e0.count) (s.at_ + s.count)) - v⟩ : TSpan)])),(3,oB true 2 eSpan [(⟨v,(min (e0.at_ + e0.count) (s.at_ + s.count)) - v⟩ : TSpan)]),(1,.obj [pI v]),(2,.obj (cSpan s))] 5 ⟨rfl,rfl,rfl,rfl,rfl,trivial⟩ rfl rfl ?_
    refine r_end ?_
    refine q_then ?_
    refine w_R ?_
    refine qm hnt rfl rfl ?_
    refine qo hnt rfl (s_store_ptr tab_3 rfl rfl rfl rfl rfl (Nat.le_of_ble_eq_true rfl) ?_)
    refine r_set [(0,pS 2 cl_l eSpan l),(3,PV.ptr 2 0),(6,PV.ref 4 0 none),(7,PV.ptr 1 0)] [(1,.obj [pI (min (e0.at_ + e0.count) (s.at_ + s.count))]),(4,oB true 2 eSpan (os ++ [(⟨v,(min (e0.at_ + e0.count) (s.at_ + s.count)) - v⟩ : TSpan)])),(3,oB true 2 eSpan [(⟨v,(min (e0.at_ + e0.count) (s.at_ + s.count)) - v⟩ : TSpan)]),(2,.obj (cSpan s))] 5 ⟨rfl,rfl,rfl,rfl,trivial⟩ rfl rfl ?_
    refine r_end ?_
    refine q_block ?_
    refine q_then ?_
    refine w_seq ?_
    refine w_R ?_
    refine qo hnt rfl (s_load_ptr1 tab_3 rfl rfl rfl rfl rfl ?_)
    refine r_end ?_
    refine q_then ?_
    refine w_R ?_
    refine qo hnt rfl (s_alloc tab_3 ?_)
    refine qo hnt rfl (s_store_ptr tab_3 rfl rfl rfl rfl rfl (Nat.le_of_ble_eq_true rfl) ?_)
    refine r_end ?_
    refine q_then ?_
    refine ⟨(os ++ [(⟨v,(min (e0.at_ + e0.count) (s.at_ + s.count)) - v⟩ : TSpan)]),(min (e0.at_ + e0.count) (s.at_ + s.count)), ?_, ?_,⟨[(0,4),(1,5),(2,2)],by rw [hk]; decide,⟨⟨_,rfl,rfl,rfl⟩,⟨_,rfl,rfl,rfl⟩,⟨_,rfl,rfl,rfl⟩,⟨_,rfl,rfl,rfl⟩,trivial⟩,⟨⟨_,_,rfl,rfl,rfl,rfl⟩,⟨_,_,rfl,rfl,rfl,rfl⟩,⟨_,_,rfl,rfl,rfl,rfl⟩,trivial⟩,by rw [hk]; decide⟩⟩
    ·
     refine ⟨by omega,by omega,by simp; omega, ?_⟩
     rw [hcov,covGo_step c2 hxa he0 hxh,map_snoc]
    · omega
   have c2_ := c2
   try simp only [sB] at c2
   have ee : coverL l s = some os := by rw [ec,hcov,covGo_end (by omega)]; simp
   refine w_exit ?_
   refine q_then_exit ?_
   refine q_then_exit ?_
   refine q_block_exit ?_
   refine q_then ?_
   refine w_seq ?_
   refine w_R ?_
   refine qm hnt rfl rfl ?_
   refine qo hnt rfl (s_callX (r2 := pS 2 true eSpan os) (nx1 := 3) (H2 := [(0,oB false 2 eSpan os),(1,.obj [pI v]),(2,.obj (cSpan s))]) (H3 := [(0,oB false 2 eSpan os),(1,.obj [pI v]),(2,.obj (cSpan s))]) [] [] rfl rfl rfl (handed_of (by decide) trivial) rfl rfl rfl rfl rfl rfl (w_slices_Clip_span_Span_span_Span os false) rfl (dist_of rfl) rfl rfl rfl rfl ?_)
   refine qa hnt rfl rfl ?_
   refine qa hnt rfl rfl ?_
   refine r_set [(4,pS 2 true eSpan os),(5,pB true)] [(0,oB false 2 eSpan os),(1,.obj [pI v]),(2,.obj (cSpan s))] 3 ⟨rfl,rfl,trivial⟩ rfl rfl ?_
   refine r_end ?_
   refine q_then ?_
   refine w_le (s := 4) (y := pS 2 false eSpan os) rfl (le_loose) ?_
   refine w_le (s := 4) (y := pS 2 false eSpan (coverV l s)) rfl (le_of_eq (congrArg (fun z => pS 2 false eSpan z) (show os = (coverV l s) by simp [coverV,coverOk,ee]))) ?_
   refine w_le (s := 5) (y := pB (coverOk l s)) rfl (le_of_eq (congrArg (fun z : Bool => pB z) (show true = (coverOk l s) by simp [coverV,coverOk,ee]))) ?_
   refine w_ret ?_
   exact fin_plain (ret_tmp rfl (ret_tmp rfl ret_nil)) rfl rfl ⟨rfl,rfl,rfl⟩
 have g1' := g1
 try simp only [sB] at g1'
 have es : spOk s = false := by simpa using g1
 have ec : coverL l s = none := by simp [coverL,es]
 refine rn hnt rfl rfl rfl g1 ?_
 refine qo hnt rfl (s_pick_t rfl g1 rfl ?_)
 refine r_end ?_
 refine q_then ?_
 refine w_if rfl (fun _ => ?_) (fun e => absurd e (by decide))
 refine w_seq ?_
 refine w_R ?_
 refine qa hnt rfl rfl ?_
 refine qa hnt rfl rfl ?_
 refine r_end ?_
 refine q_then ?_
 refine w_le (s := 4) (y := pS 2 false eSpan []) rfl (le_nilS 2 false) ?_
 refine w_le (s := 4) (y := pS 2 false eSpan (coverV l s)) rfl (le_of_eq (congrArg (fun z => pS 2 false eSpan z) (show ([] : List TSpan) = (coverV l s) by (simp [coverV,coverOk,ec]; done)))) ?_
 refine w_le (s := 5) (y := pB (coverOk l s)) rfl (le_of_eq (congrArg (fun z : Bool => pB z) (show false = (coverOk l s) by (simp [coverV,coverOk,ec]; done)))) ?_
 refine w_ret ?_
 refine q_then_ret ?_
 exact fin_plain (ret_tmp rfl (ret_tmp rfl ret_nil)) rfl rfl ⟨rfl,rfl,rfl⟩
theorem w_burgageref7_Cover (l : List TSpan) (cl_l : Bool) (s : TSpan) (hl : l.length ≤ 140737488351232) :
    T Try.prog 72 [pS 2 cl_l eSpan l,PV.f (eSpan s)] 0 [] (Ret (PV.tup [pS 2 false eSpan (coverV l s),pB (coverOk l s)]) 0 []) := by
 refine t_fun tabOk (n := 71) (rs := [.tmp 4,.tmp 5]) Try.func72 rfl rfl rfl rfl (Nat.le_of_ble_eq_true rfl) ?_
 intro c hnt hk
 refine w_seq ?_
 refine w_R ?_
 refine qo hnt rfl (s_box rfl rfl ?_)
 refine qa hnt rfl rfl ?_
 refine qa hnt rfl rfl ?_
 refine r_set [(0,pS 2 cl_l eSpan l),(3,PV.ptr 0 0)] [(0,.obj (cSpan s))] 1 ⟨rfl,rfl,trivial⟩ rfl rfl ?_
 refine r_end ?_
 refine q_then ?_
 refine w_seq ?_
 refine w_seq ?_
 refine w_R ?_
 refine qo hnt rfl (s_load_ptr tab_119 rfl rfl rfl (Nat.le_of_ble_eq_true rfl) ?_)
 refine qo hnt rfl (s_callF rfl rfl rfl (w_burgageref7_Right s 2147483648 (by omega)) rfl ?_)
 refine qo hnt rfl (s_not rfl ?_)
 refine r_end ?_
 refine q_then ?_
 refine w_if rfl (fun c1 => ?_) (fun c1 => ?_)
 ·
  have c1_ := c1
  try simp only [sB] at c1
  have es : spOk s = false := by simpa using c1
  have ec : coverL l s = none := by simp [coverL,es]
  refine w_seq ?_
  refine w_R ?_
  refine qa hnt rfl rfl ?_
  refine qa hnt rfl rfl ?_
  refine r_end ?_
  refine q_then ?_
  refine w_le (s := 4) (y := pS 2 false eSpan []) rfl (le_nilS 2 false) ?_
  refine w_le (s := 4) (y := pS 2 false eSpan (coverV l s)) rfl (le_of_eq (congrArg (fun z => pS 2 false eSpan z) (show ([] : List TSpan) = (coverV l s) by (simp [coverV,coverOk,ec]; done)))) ?_
  refine w_le (s := 5) (y := pB (coverOk l s)) rfl (le_of_eq (congrArg (fun z : Bool => pB z) (show false = (coverOk l s) by (simp [coverV,coverOk,ec]; done)))) ?_
  refine w_ret ?_
  refine q_then_ret ?_
  exact fin_plain (ret_tmp rfl (ret_tmp rfl ret_nil)) rfl rfl ⟨rfl,rfl,rfl⟩
 have c1_ := c1
 try simp only [sB] at c1
 have es : spOk s = true := by simpa using c1
 have hs := (spOk_iff s).1 es
 refine w_skip ?_
 refine q_then ?_
 refine w_seq ?_
 refine w_seq ?_
 refine w_R ?_
 refine qm hnt rfl rfl ?_
 refine qo hnt rfl (s_lenM (l := l) tab_118 rfl (hM_sl (f := eSpan) rfl) ?_)
 refine qm hnt rfl rfl ?_
 refine r_end ?_
 refine q_then ?_
 refine w_block ?_
 refine loop1 (fun (i : Nat) => i ≤ l.length ∧ ∀ j x,j < i → l[j]? = some x → spOk x = true) (fun (i : Nat) => [(0,pS 2 cl_l eSpan l),(3,PV.ptr 0 0),(18,pS 2 cl_l eSpan l),(19,pN l.length),(20,pN i)]) 1 (fun (i : Nat) => [(0,.obj (cSpan s))]) (fun (i : Nat) => l.length - i) (0) ?_ ⟨[(0,0)],by rw [hk]; decide,⟨⟨_,rfl,rfl,rfl⟩,⟨_,rfl,rfl,rfl⟩,⟨_,rfl,rfl,rfl⟩,⟨_,rfl,rfl,rfl⟩,⟨_,rfl,rfl,rfl⟩,trivial⟩,⟨⟨_,_,rfl,rfl,rfl,rfl⟩,trivial⟩,by rw [hk]; decide⟩ ?_
 · exact ⟨Nat.zero_le _,fun j x hj => by omega⟩
 ·
  intro i hI
  obtain ⟨hi,hall⟩ := hI
  refine w_seq ?_
  refine w_R ?_
  refine qo hnt rfl (s_lss rfl rfl ?_)
  refine r_end ?_
  refine q_then ?_
  refine w_seq ?_
  refine w_if rfl (fun c2 => ?_) (fun c2 => ?_)
  ·
   have c2_ := c2
   try simp only [sB] at c2
   refine w_skip ?_
   refine q_then ?_
   refine w_seq ?_
   refine w_block ?_
   refine w_seq ?_
   refine w_R ?_
   obtain ⟨e1,he1⟩ := get_of_lt l (i := i) (by omega)
   refine qo hnt rfl (s_iaM (q := i) (b := e1) (f := eSpan) tab_118 rfl tab_119 rfl rfl (by omega) rfl he1 ?_)
   refine qo hnt rfl (s_load_ro tab_119 rfl rfl rfl ?_)
   refine qo hnt rfl (s_alloc tab_119 ?_)
   refine qo hnt rfl (s_store_ptr tab_119 rfl rfl rfl rfl rfl (Nat.le_of_ble_eq_true rfl) ?_)
   refine r_set [(0,pS 2 cl_l eSpan l),(3,PV.ptr 0 0),(7,PV.ptr 1 0),(18,pS 2 cl_l eSpan l),(19,pN l.length),(20,pN i)] [(1,.obj (cSpan e1)),(0,.obj (cSpan s))] 2 ⟨rfl,rfl,rfl,rfl,rfl,rfl,trivial⟩ rfl rfl ?_
   refine r_end ?_
   refine q_then ?_
   refine w_seq ?_
   refine w_R ?_
   refine qo hnt rfl (s_load_ptr tab_119 rfl rfl rfl (Nat.le_of_ble_eq_true rfl) ?_)
   refine qo hnt rfl (s_callF rfl rfl rfl (w_burgageref7_Right e1 2147483648 (by omega)) rfl ?_)
   refine qo hnt rfl (s_not rfl ?_)
   refine r_end ?_
   refine q_then ?_
   refine w_if rfl (fun c3 => ?_) (fun c3 => ?_)
   ·
    have c3_ := c3
    try simp only [sB] at c3
    have ec : coverL l s = none := by unfold coverL; rw [if_neg]; rintro ⟨_,h⟩; exact absurd (h e1 (List.mem_of_getElem? he1)) (by simpa using c3)
    refine w_seq ?_
    refine w_R ?_
    refine qa hnt rfl rfl ?_
    refine qa hnt rfl rfl ?_
    refine r_end ?_
    refine q_then ?_
    refine w_le (s := 4) (y := pS 2 false eSpan []) rfl (le_nilS 2 false) ?_
    refine w_le (s := 4) (y := pS 2 false eSpan (coverV l s)) rfl (le_of_eq (congrArg (fun z => pS 2 false eSpan z) (show ([] : List TSpan) = (coverV l s) by (simp [coverV,coverOk,ec]; done)))) ?_
    refine w_le (s := 5) (y := pB (coverOk l s)) rfl (le_of_eq (congrArg (fun z : Bool => pB z) (show false = (coverOk l s) by (simp [coverV,coverOk,ec]; done)))) ?_
    refine w_ret ?_
    refine q_block_ret ?_
    refine q_then_ret ?_
    refine q_then_ret ?_
    refine q_block_ret ?_
    refine q_then_ret ?_
    exact fin_plain (ret_tmp rfl (ret_tmp rfl ret_nil)) rfl rfl ⟨rfl,rfl,rfl⟩
   have c3_ := c3
   try simp only [sB] at c3
   refine w_skip ?_
   refine q_block ?_
   refine q_then ?_
   refine w_R ?_
   refine qo hnt rfl (s_addN (a := i) (b := 1) rfl rfl (by omega) (by omega) (by omega) ?_)
   refine qm hnt rfl rfl ?_
   refine r_end ?_
   refine q_then ?_
   refine ⟨(i + 1), ?_, ?_,⟨[(0,0)],by rw [hk]; decide,⟨⟨_,rfl,rfl,rfl⟩,⟨_,rfl,rfl,rfl⟩,⟨_,rfl,rfl,rfl⟩,⟨_,rfl,rfl,rfl⟩,⟨_,rfl,rfl,rfl⟩,trivial⟩,⟨⟨_,_,rfl,rfl,rfl,rfl⟩,trivial⟩,by rw [hk]; decide⟩⟩
   ·
    refine ⟨by omega,fun j x hj hx => ?_⟩
    by_cases hji : j < i
    · exact hall j x hji hx
    · obtain rfl : j = i := by omega
      rw [he1] at hx; cases hx; simpa using c3
   · omega
  have c2_ := c2
  try simp only [sB] at c2
  have hg : ∀ x ∈ l,spOk x = true := by intro x hx; obtain ⟨j,hj⟩ := List.getElem?_of_mem hx; exact hall j x (by have := get_lt hj; omega) hj
  have ec : coverL l s = covGo l (s.at_ + s.count) s.at_ := by unfold coverL; rw [if_pos ⟨es,hg⟩]
  refine w_exit ?_
  refine q_then_exit ?_
  refine q_then_exit ?_
  refine q_block_exit ?_
  refine q_then ?_
  refine w_seq ?_
  refine w_R ?_
  refine qa hnt rfl rfl ?_
  refine r_end ?_
  refine q_then ?_
  refine w_seq ?_
  refine w_block ?_
  refine w_adopt (s := 8) (sz := 2) rfl ?_
  refine loop3 (fun (ua : Int) (uc : Int) (os : List TSpan) => s.at_ ≤ ua ∧ ua + uc = s.at_ + s.count ∧ 0 ≤ uc ∧ (os.length : Int) ≤ ua - s.at_ ∧ covGo l (s.at_ + s.count) s.at_ = (covGo l (s.at_ + s.count) ua).map (os ++ ·)) (fun (ua : Int) (uc : Int) (os : List TSpan) => [(0,pS 2 cl_l eSpan l),(3,PV.ptr 0 0),(8,PV.ref 1 0 none)]) 2 (fun (ua : Int) (uc : Int) (os : List TSpan) => [(0,.obj [pI ua,pI uc]),(1,oB true 2 eSpan os)]) (fun (ua : Int) (uc : Int) (os : List TSpan) => uc.toNat) (s.at_) (s.count) (([] : List TSpan)) ?_ ⟨[(0,0),(1,1)],by rw [hk]; decide,⟨⟨_,rfl,rfl,rfl⟩,⟨_,rfl,rfl,rfl⟩,⟨_,rfl,rfl,rfl⟩,trivial⟩,⟨⟨_,_,rfl,rfl,rfl,rfl⟩,⟨_,_,rfl,rfl,rfl,rfl⟩,trivial⟩,by rw [hk]; decide⟩ ?_
  · exact ⟨by omega,by omega,by omega,by simp,by simp⟩
  ·
   intro ua uc os hI
   obtain ⟨hv1,hv2,hv3,hol,hcov⟩ := hI
   refine w_seq ?_
   refine w_seq ?_
   refine w_R ?_
   refine qo hnt rfl (s_fa_ptr tab_119 rfl rfl tab_3 (by decide) rfl ?_)
   refine qo hnt rfl (s_load_ptr1 tab_3 rfl rfl rfl rfl rfl ?_)
   refine qo hnt rfl (s_gtr rfl rfl ?_)
   refine r_end ?_
   refine q_then ?_
   refine w_if rfl (fun c4 => ?_) (fun c4 => ?_)
   ·
    have c4_ := c4
    try simp only [sB] at c4
    refine w_skip ?_
    refine q_then ?_
    refine w_block ?_
    refine w_seq ?_
    refine w_R ?_
    refine qo hnt rfl (s_alloc tab_119 ?_)
    refine r_set [(0,pS 2 cl_l eSpan l),(3,PV.ptr 0 0),(8,PV.ref 1 0 none),(9,PV.ptr 2 0)] [(2,.obj [pI 0,pI 0]),(0,.obj [pI ua,pI uc]),(1,oB true 2 eSpan os)] 3 ⟨rfl,rfl,rfl,rfl,trivial⟩ rfl rfl ?_
    refine r_end ?_
    refine q_then ?_
    refine w_seq ?_
    refine w_R ?_
    refine qa hnt rfl rfl ?_
    refine r_end ?_
    refine q_then ?_
    refine w_seq ?_
    refine w_seq ?_
    refine w_R ?_
    refine qm hnt rfl rfl ?_
    refine qo hnt rfl (s_lenM (l := l) tab_118 rfl (hM_sl (f := eSpan) rfl) ?_)
    refine qm hnt rfl rfl ?_
    refine r_end ?_
    refine q_then ?_
    refine w_block ?_
    refine loop1 (fun (j : Nat) => j ≤ l.length ∧ ∀ k x,k < j → l[k]? = some x → (meetOk x ⟨ua,uc⟩ && decide ((meetV x ⟨ua,uc⟩).at_ = ua)) = false) (fun (j : Nat) => [(0,pS 2 cl_l eSpan l),(3,PV.ptr 0 0),(8,PV.ref 1 0 none),(9,PV.ptr 2 0),(10,pB false),(31,pS 2 cl_l eSpan l),(32,pN l.length),(33,pN j)]) 3 (fun (j : Nat) => [(0,.obj [pI ua,pI uc]),(1,oB true 2 eSpan os),(2,.obj [pI 0,pI 0])]) (fun (j : Nat) => l.length - j) (0) ?_ ⟨[(0,0),(1,1),(2,2)],by rw [hk]; decide,⟨⟨_,rfl,rfl,rfl⟩,⟨_,rfl,rfl,rfl⟩,⟨_,rfl,rfl,rfl⟩,⟨_,rfl,rfl,rfl⟩,⟨_,rfl,rfl,rfl⟩,⟨_,rfl,rfl,rfl⟩,⟨_,rfl,rfl,rfl⟩,⟨_,rfl,rfl,rfl⟩,trivial⟩,⟨⟨_,_,rfl,rfl,rfl,rfl⟩,⟨_,_,rfl,rfl,rfl,rfl⟩,⟨_,_,rfl,rfl,rfl,rfl⟩,trivial⟩,by rw [hk]; decide⟩ ?_
    · exact ⟨Nat.zero_le _,fun k x hk => by omega⟩
    ·
     intro j hI
     obtain ⟨hj,hno⟩ := hI
     refine w_seq ?_
     refine w_R ?_
     refine qo hnt rfl (s_lss rfl rfl ?_)
     refine r_end ?_
     refine q_then ?_
     refine w_seq ?_
     refine w_if rfl (fun c5 => ?_) (fun c5 => ?_)
     ·
      have c5_ := c5
      try simp only [sB] at c5
      refine w_skip ?_
      refine q_then ?_
      refine w_seq ?_
      refine w_block ?_
      refine w_seq ?_
      refine w_R ?_
      obtain ⟨e2,he2⟩ := get_of_lt l (i := j) (by omega)
      refine qo hnt rfl (s_iaM (q := j) (b := e2) (f := eSpan) tab_118 rfl tab_119 rfl rfl (by omega) rfl he2 ?_)
      refine qo hnt rfl (s_load_ro tab_119 rfl rfl rfl ?_)
      refine qo hnt rfl (s_alloc tab_119 ?_)
      refine qo hnt rfl (s_store_ptr tab_119 rfl rfl rfl rfl rfl (Nat.le_of_ble_eq_true rfl) ?_)
      refine r_set [(0,pS 2 cl_l eSpan l),(3,PV.ptr 0 0),(8,PV.ref 1 0 none),(9,PV.ptr 2 0),(10,pB false),(12,PV.ptr 3 0),(31,pS 2 cl_l eSpan l),(32,pN l.length),(33,pN j)] [(3,.obj (cSpan e2)),(0,.obj [pI ua,pI uc]),(1,oB true 2 eSpan os),(2,.obj [pI 0,pI 0])] 4 ⟨rfl,rfl,rfl,rfl,rfl,rfl,rfl,rfl,rfl,trivial⟩ rfl rfl ?_
      refine r_end ?_
      refine q_then ?_
      refine w_seq ?_
      refine w_R ?_
      refine qo hnt rfl (s_load_ptr tab_119 rfl rfl rfl (Nat.le_of_ble_eq_true rfl) ?_)
      refine qo hnt rfl (s_load_ptr tab_119 rfl rfl rfl (Nat.le_of_ble_eq_true rfl) ?_)
      refine qo hnt rfl (s_callF rfl rfl rfl (w_burgageref7_Meet e2 (⟨ua,uc⟩ : TSpan)) rfl ?_)
      refine qm hnt rfl rfl ?_
      refine qo hnt rfl (s_extract rfl rfl ?_)
      refine qo hnt rfl (s_extract rfl rfl ?_)
      refine qo hnt rfl (s_alloc tab_119 ?_)
      refine qo hnt rfl (s_store_ptr tab_119 rfl rfl rfl rfl rfl (Nat.le_of_ble_eq_true rfl) ?_)
      refine qa hnt rfl rfl ?_
      refine r_set [(0,pS 2 cl_l eSpan l),(3,PV.ptr 0 0),(8,PV.ref 1 0 none),(9,PV.ptr 2 0),(10,pB false),(13,PV.ptr 4 0),(14,pB (meetOk e2 (⟨ua,uc⟩ : TSpan))),(31,pS 2 cl_l eSpan l),(32,pN l.length),(33,pN j)] [(4,.obj [pI ((meetV e2 (⟨ua,uc⟩ : TSpan)).at_),pI ((meetV e2 (⟨ua,uc⟩ : TSpan)).count)]),(3,.obj (cSpan e2)),(0,.obj [pI ua,pI uc]),(1,oB true 2 eSpan os),(2,.obj [pI 0,pI 0])] 5 ⟨rfl,rfl,rfl,rfl,rfl,rfl,rfl,rfl,rfl,rfl,trivial⟩ rfl rfl ?_
      refine r_end ?_
      refine q_then ?_
      refine w_seq ?_
      refine w_R ?_
      refine qm hnt rfl rfl ?_
      refine qm hnt rfl rfl ?_
      refine r_if tabOk hnt rfl rfl rfl (fun g1 => ?_) (fun g1 => ?_)
      ·
       have g1' := g1
       try simp only [sB] at g1'
       refine qo hnt rfl (s_fa_ptr tab_119 rfl rfl tab_3 (by decide) rfl ?_)
       refine ry hnt rfl rfl rfl g1 ?_
       refine qo hnt rfl (s_load_ptr1 tab_3 rfl rfl rfl rfl rfl ?_)
       refine ry hnt rfl rfl rfl g1 ?_
       refine qo hnt rfl (s_fa_ptr tab_119 rfl rfl tab_3 (by decide) rfl ?_)
       refine ry hnt rfl rfl rfl g1 ?_
       refine qo hnt rfl (s_load_ptr1 tab_3 rfl rfl rfl rfl rfl ?_)
       refine ry hnt rfl rfl rfl g1 ?_
       refine qo hnt rfl (s_eql rfl rfl ?_)
       refine qo hnt rfl (s_pick_t rfl g1 rfl ?_)
       refine r_end ?_
       refine q_then ?_
       refine w_if rfl (fun c6 => ?_) (fun c6 => ?_)
       ·
        have c6_ := c6
        try simp only [sB] at c6
        have hg2 := hg e2 (List.mem_of_getElem? he2)
        have eu : spOk ⟨ua,uc⟩ = true := (spOk_iff _).2 (by simp only; omega)
        have hp : (meetOk e2 ⟨ua,uc⟩ && decide ((meetV e2 ⟨ua,uc⟩).at_ = ua)) = true := by simp [g1,c6]
        have hpv := meet_piece hg2 eu hp
        have hcount : (meetV e2 ⟨ua,uc⟩).count = min (e2.at_ + e2.count) (ua + uc) - ua := by rw [hpv]
        have hp2 := hp
        rw [meet_at hg2 eu] at hp2
        have hp3 := hp2
        simp only [Bool.and_eq_true,decide_eq_true_eq] at hp3
        have hxh : ua < e2.at_ + e2.count := hp3.2
        have hxa : idxAt l ua = some j := find_step (fun k x hk hx => by rw [← meet_at (hg x (List.mem_of_getElem? hx)) eu]; exact hno k x hk hx) he2 hp2
        have hmn : min (e2.at_ + e2.count) (ua + uc) = min (e2.at_ + e2.count) (s.at_ + s.count) := by omega
        have hq1 : ua + (meetV e2 ⟨ua,uc⟩).count = min (e2.at_ + e2.count) (s.at_ + s.count) := by omega
        have hq2 : meetV e2 ⟨ua,uc⟩ = ⟨ua,min (e2.at_ + e2.count) (s.at_ + s.count) - ua⟩ := by rw [hpv,hmn]
        refine w_seq ?_
        refine w_R ?_
        refine qo hnt rfl (s_load_ptr tab_119 rfl rfl rfl (Nat.le_of_ble_eq_true rfl) ?_)
        refine qo hnt rfl (s_store_ptr tab_119 rfl rfl rfl rfl rfl (Nat.le_of_ble_eq_true rfl) ?_)
        refine qa hnt rfl rfl ?_
        refine r_set [(0,pS 2 cl_l eSpan l),(3,PV.ptr 0 0),(8,PV.ref 1 0 none),(9,PV.ptr 2 0),(10,pB true),(45,PV.ptr 4 0),(46,pI ((meetV e2 (⟨ua,uc⟩ : TSpan)).at_)),(47,PV.ptr 0 0),(48,pI ua),(49,pB (decide ((meetV e2 (⟨ua,uc⟩ : TSpan)).at_ = ua)))] [(2,.obj [pI ((meetV e2 (⟨ua,uc⟩ : TSpan)).at_),pI ((meetV e2 (⟨ua,uc⟩ : TSpan)).count)]),(4,.obj [pI ((meetV e2 (⟨ua,uc⟩ : TSpan)).at_),pI ((meetV e2 (⟨ua,uc⟩ : TSpan)).count)]),(3,.obj (cSpan e2)),(0,.obj [pI ua,pI uc]),(1,oB true 2 eSpan os)] 5 ⟨rfl,rfl,rfl,rfl,rfl,rfl,rfl,rfl,rfl,rfl,trivial⟩ rfl rfl ?_
        refine r_end ?_
        refine q_then ?_
        refine w_exit ?_
        refine q_block_pass (by decide) ?_
        refine q_then_exit ?_
        refine q_then_exit ?_
        refine q_block_exit ?_
        refine q_then ?_
        refine w_seq ?_
        refine w_seq ?_
        refine w_R ?_
        refine qm hnt rfl rfl ?_
        refine qo hnt rfl (s_not rfl ?_)
        refine r_end ?_
        refine q_then ?_
        refine w_if rfl (fun e => absurd e (by decide)) (fun _ => ?_)
        refine w_skip ?_
        refine q_then ?_
        refine w_seq ?_
        refine w_R ?_
        refine qm hnt rfl rfl ?_
        refine qo hnt rfl (s_load_ptr tab_119 rfl rfl rfl (Nat.le_of_ble_eq_true rfl) ?_)
        refine qo hnt rfl (s_mkM (f := eSpan) [(meetV e2 (⟨ua,uc⟩ : TSpan))] tab_118 rfl tab_119 ⟨rfl,by decide⟩ (by decide) rfl rfl rfl rfl ?_)
        refine qo hnt rfl (s_appR0 (f := eSpan) (l := os) (xs := [(meetV e2 (⟨ua,uc⟩ : TSpan))]) tab_118 rfl tab_119 ⟨rfl,by decide,by decide⟩ (srcM tab_118 rfl (hM_ref0 (f := eSpan) rfl rfl)) rfl rfl (by (simp; omega)) ?_)
        refine qa hnt rfl rfl ?_
        refine r_set [(0,pS 2 cl_l eSpan l),(3,PV.ptr 0 0),(8,PV.ref 6 0 none),(9,PV.ptr 2 0),(45,PV.ptr 4 0),(46,pI ((meetV e2 (⟨ua,uc⟩ : TSpan)).at_)),(47,PV.ptr 0 0),(48,pI ua),(49,pB (decide ((meetV e2 (⟨ua,uc⟩ : TSpan)).at_ = ua)))] [(6,oB true 2 eSpan (os ++ [(meetV e2 (⟨ua,uc⟩ : TSpan))])),(5,oB true 2 eSpan [(meetV e2 (⟨ua,uc⟩ : TSpan))]),(2,.obj [pI ((meetV e2 (⟨ua,uc⟩ : TSpan)).at_),pI ((meetV e2 (⟨ua,uc⟩ : TSpan)).count)]),(4,.obj [pI ((meetV e2 (⟨ua,uc⟩ : TSpan)).at_),pI ((meetV e2 (⟨ua,uc⟩ : TSpan)).count)]),(3,.obj (cSpan e2)),(0,.obj [pI ua,pI uc])] 7 ⟨rfl,rfl,rfl,rfl,rfl,rfl,rfl,rfl,rfl,trivial⟩ rfl rfl ?_
        refine r_end ?_
        refine q_then ?_
        refine w_R ?_
        refine qo hnt rfl (s_fa_ptr tab_119 rfl rfl tab_3 (by decide) rfl ?_)
        refine qo hnt rfl (s_load_ptr1 tab_3 rfl rfl rfl rfl rfl ?_)
        refine qo hnt rfl (s_fa_ptr tab_119 rfl rfl tab_3 (by decide) rfl ?_)
        refine qo hnt rfl (s_load_ptr1 tab_3 rfl rfl rfl rfl rfl ?_)
        refine qo hnt rfl (s_addi (r := ua + ((meetV e2 (⟨ua,uc⟩ : TSpan)).count)) rfl rfl rfl (by omega) ?_)
        refine qo hnt rfl (s_fa_ptr tab_119 rfl rfl tab_3 (by decide) rfl ?_)
        refine qo hnt rfl (s_load_ptr1 tab_3 rfl rfl rfl rfl rfl ?_)
        refine qo hnt rfl (s_fa_ptr tab_119 rfl rfl tab_3 (by decide) rfl ?_)
        refine qo hnt rfl (s_load_ptr1 tab_3 rfl rfl rfl rfl rfl ?_)
        refine qo hnt rfl (s_subi (r := uc - ((meetV e2 (⟨ua,uc⟩ : TSpan)).count)) rfl rfl rfl (by omega) ?_)
        refine qo hnt rfl (s_build tab_119 rfl rfl (b_cons rfl tab_3 rfl rfl rfl (Nat.le_of_ble_eq_true rfl) (b_cons rfl tab_3 rfl rfl rfl (Nat.le_of_ble_eq_true rfl) (b_nil ?_))))
        refine qo hnt rfl (s_store_ptr tab_119 rfl rfl rfl rfl rfl (Nat.le_of_ble_eq_true rfl) ?_)
        refine r_end ?_
        refine q_block ?_
        refine q_then ?_
        refine ⟨(ua + ((meetV e2 (⟨ua,uc⟩ : TSpan)).count)),(uc - ((meetV e2 (⟨ua,uc⟩ : TSpan)).count)),(os ++ [(meetV e2 (⟨ua,uc⟩ : TSpan))]), ?_, ?_,⟨[(0,0),(1,6)],by rw [hk]; decide,⟨⟨_,rfl,rfl,rfl⟩,⟨_,rfl,rfl,rfl⟩,⟨_,rfl,rfl,rfl⟩,trivial⟩,⟨⟨_,_,rfl,rfl,rfl,rfl⟩,⟨_,_,rfl,rfl,rfl,rfl⟩,trivial⟩,by rw [hk]; decide⟩⟩
        ·
         refine ⟨by omega,by omega,by omega,by simp; omega, ?_⟩
         rw [hcov,covGo_step (e := s.at_ + s.count) (by omega) hxa he2 hxh,map_snoc,hq1,hq2]
        · omega
       have c6_ := c6
       try simp only [sB] at c6
       refine w_skip ?_
       refine q_block ?_
       refine q_then ?_
       refine w_R ?_
       refine qo hnt rfl (s_addN (a := j) (b := 1) rfl rfl (by omega) (by omega) (by omega) ?_)
       refine qm hnt rfl rfl ?_
       refine r_end ?_
       refine q_then ?_
       refine ⟨(j + 1), ?_, ?_,⟨[(0,0),(1,1),(2,2)],by rw [hk]; decide,⟨⟨_,rfl,rfl,rfl⟩,⟨_,rfl,rfl,rfl⟩,⟨_,rfl,rfl,rfl⟩,⟨_,rfl,rfl,rfl⟩,⟨_,rfl,rfl,rfl⟩,⟨_,rfl,rfl,rfl⟩,⟨_,rfl,rfl,rfl⟩,⟨_,rfl,rfl,rfl⟩,trivial⟩,⟨⟨_,_,rfl,rfl,rfl,rfl⟩,⟨_,_,rfl,rfl,rfl,rfl⟩,⟨_,_,rfl,rfl,rfl,rfl⟩,trivial⟩,by rw [hk]; decide⟩⟩
       ·
        refine ⟨by omega,fun k x hk hx => ?_⟩
        by_cases hkj : k < j
        · exact hno k x hkj hx
        · obtain rfl : k = j := by omega
          rw [he2] at hx; cases hx; simp_all
       · omega
      have g1' := g1
      try simp only [sB] at g1'
      refine rn hnt rfl rfl rfl g1 ?_
      refine rn hnt rfl rfl rfl g1 ?_
      refine rn hnt rfl rfl rfl g1 ?_
      refine rn hnt rfl rfl rfl g1 ?_
      refine qo hnt rfl (s_pick_f rfl g1 rfl ?_)
      refine r_end ?_
      refine q_then ?_
      refine w_if rfl (fun e => absurd e (by decide)) (fun _ => ?_)
      refine w_skip ?_
      refine q_block ?_
      refine q_then ?_
      refine w_R ?_
      refine qo hnt rfl (s_addN (a := j) (b := 1) rfl rfl (by omega) (by omega) (by omega) ?_)
      refine qm hnt rfl rfl ?_
      refine r_end ?_
      refine q_then ?_
      refine ⟨(j + 1), ?_, ?_,⟨[(0,0),(1,1),(2,2)],by rw [hk]; decide,⟨⟨_,rfl,rfl,rfl⟩,⟨_,rfl,rfl,rfl⟩,⟨_,rfl,rfl,rfl⟩,⟨_,rfl,rfl,rfl⟩,⟨_,rfl,rfl,rfl⟩,⟨_,rfl,rfl,rfl⟩,⟨_,rfl,rfl,rfl⟩,⟨_,rfl,rfl,rfl⟩,trivial⟩,⟨⟨_,_,rfl,rfl,rfl,rfl⟩,⟨_,_,rfl,rfl,rfl,rfl⟩,⟨_,_,rfl,rfl,rfl,rfl⟩,trivial⟩,by rw [hk]; decide⟩⟩
      ·
       refine ⟨by omega,fun k x hk hx => ?_⟩
       by_cases hkj : k < j
       · exact hno k x hkj hx
       · obtain rfl : k = j := by omega
         rw [he2] at hx; cases hx; simp_all
      · omega
     have c5_ := c5
     try simp only [sB] at c5
     have eu : spOk ⟨ua,uc⟩ = true := (spOk_iff _).2 (by simp only; omega)
     have hnone : idxAt l ua = none := find_none (fun k x hk hx => by rw [← meet_at (hg x (List.mem_of_getElem? hx)) eu]; exact hno k x (by omega) hx)
     have en : coverL l s = none := by rw [ec,hcov,covGo_none (by omega) hnone]; rfl
     refine w_exit ?_
     refine q_then_exit ?_
     refine q_then_exit ?_
     refine q_block_exit ?_
     refine q_then ?_
     refine w_seq ?_
     refine w_seq ?_
     refine w_R ?_
     refine qm hnt rfl rfl ?_
     refine qo hnt rfl (s_not rfl ?_)
     refine r_end ?_
     refine q_then ?_
     refine w_if rfl (fun _ => ?_) (fun e => absurd e (by decide))
     refine w_seq ?_
     refine w_R ?_
     refine qa hnt rfl rfl ?_
     refine qa hnt rfl rfl ?_
     refine r_end ?_
     refine q_then ?_
     refine w_le (s := 4) (y := pS 2 false eSpan []) rfl (le_nilS 2 false) ?_
     refine w_le (s := 4) (y := pS 2 false eSpan (coverV l s)) rfl (le_of_eq (congrArg (fun z => pS 2 false eSpan z) (show ([] : List TSpan) = (coverV l s) by (simp [coverV,coverOk,en]; done)))) ?_
     refine w_le (s := 5) (y := pB (coverOk l s)) rfl (le_of_eq (congrArg (fun z : Bool => pB z) (show false = (coverOk l s) by (simp [coverV,coverOk,en]; done)))) ?_
     refine w_ret ?_
     refine q_then_ret ?_
     refine q_block_ret ?_
     refine q_then_ret ?_
     refine q_block_ret ?_
     refine q_then_ret ?_
     exact fin_plain (ret_tmp rfl (ret_tmp rfl ret_nil)) rfl rfl ⟨rfl,rfl,rfl⟩
   have c4_ := c4
   try simp only [sB] at c4
   have ee : coverL l s = some os := by rw [ec,hcov,covGo_end (by omega)]; simp
   refine w_exit ?_
   refine q_then_exit ?_
   refine q_then_exit ?_
   refine q_block_exit ?_
   refine q_then ?_
   refine w_seq ?_
   refine w_R ?_
   refine qm hnt rfl rfl ?_
   refine qa hnt rfl rfl ?_
   refine qa hnt rfl rfl ?_
   refine r_end ?_
   refine q_then ?_
   refine w_frzM (s := 4) (f := eSpan) rfl rfl view_0 ?_
   refine w_le (s := 4) (y := pS 2 false eSpan (coverV l s)) rfl (le_of_eq (congrArg (fun z => pS 2 false eSpan z) (show os = (coverV l s) by simp [coverV,coverOk,ee]))) ?_
   refine w_le (s := 5) (y := pB (coverOk l s)) rfl (le_of_eq (congrArg (fun z : Bool => pB z) (show true = (coverOk l s) by simp [coverV,coverOk,ee]))) ?_
   refine w_ret ?_
   exact fin_plain (ret_tmp rfl (ret_tmp rfl ret_nil)) rfl rfl ⟨rfl,rfl,rfl⟩
end Go.Proofs.Ytljkbpgcglomfaa
set_option linter.unusedVariables false
set_option linter.unusedSimpArgs false
namespace Go.Proofs.Ytljkbpgcglomfaa
open Go Go.Proofs.Ytljkbpgcglomfaa.Pv
abbrev vSp (w : TWindow) : TSpan := ⟨w.virtual,w.count⟩
abbrev pSp (w : TWindow) : TSpan := ⟨w.physical,w.count⟩
def winR (w : TWindow) : Bool := ((decide (0 ≤ w.space) && decide (w.space ≤ 3)) && spRight (vSp w) 65536) && spRight (pSp w) 512
theorem winR_iff (w : TWindow) : winR w = true ↔ (0 ≤ w.space ∧ w.space ≤ 3) ∧ (0 ≤ w.virtual ∧ 1 ≤ w.count ∧ w.virtual ≤ 65536 ∧ w.count ≤ 65536 - w.virtual) ∧ (0 ≤ w.physical ∧ 1 ≤ w.count ∧ w.physical ≤ 512 ∧ w.count ≤ 512 - w.physical) := by
  simp only [winR,spRight,Bool.and_eq_true,decide_eq_true_eq,and_assoc]
theorem winR_sp {w : TWindow} (h : winR w = true) : spOk (vSp w) = true ∧ spOk (pSp w) = true := by
  have h2 := (winR_iff w).1 h
  exact ⟨(spOk_iff _).2 (by simp only; omega),(spOk_iff _).2 (by simp only; omega)⟩
def ofW (s : Int) (w : TWindow) : Bool := winR w && decide (w.space = s)
def ofL (l : List TWindow) (s : Int) : List TWindow := l.filter (ofW s)
theorem of_snoc_t {l : List TWindow} {s : Int} {i : Nat} {e : TWindow} (he : l[i]? = some e) (h : (winR e && decide (e.space = s)) = true) : ofL (l.take i) s ++ [e] = ofL (l.take (i + 1)) s := by
  have h2 : ofW s e = true := h
  unfold ofL
  rw [List.take_add_one,he,List.filter_append]
  simp [h2]
theorem of_snoc_f {l : List TWindow} {s : Int} {i : Nat} {e : TWindow} (he : l[i]? = some e) (h : (winR e && decide (e.space = s)) = false) : ofL (l.take i) s = ofL (l.take (i + 1)) s := by
  have h2 : ofW s e = false := h
  unfold ofL
  rw [List.take_add_one,he,List.filter_append]
  simp [h2]
theorem ofL_len (l : List TWindow) (s : Int) : (ofL l s).length ≤ l.length := by unfold ofL; exact List.length_filter_le _ _
theorem ofL_mem {l : List TWindow} {s : Int} {w : TWindow} (h : w ∈ ofL l s) : winR w = true ∧ w.space = s ∧ w ∈ l := by
  unfold ofL at h
  rw [List.mem_filter] at h
  simp only [ofW,Bool.and_eq_true,decide_eq_true_eq] at h
  exact ⟨h.2.1,h.2.2,h.1⟩
theorem ofL_get {l : List TWindow} {s : Int} {i : Nat} {w : TWindow} (h : (ofL l s)[i]? = some w) : winR w = true ∧ w.space = s ∧ w ∈ l := ofL_mem (List.mem_of_getElem? h)
theorem covGo_mem (L : List TSpan) (e : Int) : ∀ (n : Nat) (v : Int) (os : List TSpan),(e - v).toNat ≤ n → covGo L e v = some os → ∀ p ∈ os,v ≤ p.at_ ∧ p.at_ + p.count ≤ e ∧ 1 ≤ p.count ∧ ∃ i x,idxAt L p.at_ = some i ∧ L[i]? = some x ∧ x.at_ ≤ p.at_ ∧ p.at_ + p.count ≤ x.at_ + x.count
  | n,v,os,hn,h,p,hp => by
    rw [covGo] at h
    split at h
    · rename_i hv
      split at h
      · cases h
      · rename_i i hi
        split at h
        · rename_i hlt
          simp only [Option.map_eq_some_iff] at h
          obtain ⟨t,h1,rfl⟩ := h
          match n,hn with
          | 0,hn => omega
          | n + 1,hn =>
            rcases List.mem_cons.1 hp with rfl|hp
            · have hi2 := hi
              unfold idxAt at hi2
              rw [List.findIdx?_eq_some_iff_getElem] at hi2
              obtain ⟨hl,hc,_⟩ := hi2
              simp only [Bool.and_eq_true,decide_eq_true_eq] at hc
              have hx : L[i]? = some L[i] := by simp [hl]
              have hg : L.getD i sp0 = L[i] := by simp [List.getD_eq_getElem?_getD,hx]
              rw [hg] at hlt ⊢
              exact ⟨by simp only; omega,by simp only; omega,by simp only; omega,i,L[i],hi,hx,hc.1,by simp only; omega⟩
            · have := covGo_mem L e n _ t (by omega) h1 p hp
              exact ⟨by omega,this.2⟩
        · cases h
    · cases h; cases hp
theorem coverV_mem {L : List TSpan} {s p : TSpan} (hp : p ∈ coverV L s) : spOk s = true ∧ (∀ x ∈ L,spOk x = true) ∧ s.at_ ≤ p.at_ ∧ p.at_ + p.count ≤ s.at_ + s.count ∧ 1 ≤ p.count ∧ ∃ i x,idxAt L p.at_ = some i ∧ L[i]? = some x ∧ x.at_ ≤ p.at_ ∧ p.at_ + p.count ≤ x.at_ + x.count := by
  unfold coverV coverL at hp
  split at hp
  · rename_i h
    cases hc : covGo L (s.at_ + s.count) s.at_ with
    | none => rw [hc] at hp; cases hp
    | some os => rw [hc] at hp; exact ⟨h.1,h.2,covGo_mem L _ _ _ os (Nat.le_refl _) hc p hp⟩
  · cases hp
theorem in_one {x p : TSpan} (hx : spOk x = true) (hp : 0 ≤ p.at_ ∧ p.at_ ≤ 2147483647) : spIn ⟨p.at_,1⟩ x = (decide (x.at_ ≤ p.at_) && decide (p.at_ < x.at_ + x.count)) := by
  rw [Bool.eq_iff_iff,spIn_iff]
  simp only [Bool.and_eq_true,decide_eq_true_eq,hx,true_and]
  have : spOk ⟨p.at_,1⟩ = true := (spOk_iff _).2 (by simp only; omega)
  rw [this]
  simp only [true_and]
  omega
theorem in_piece {x p : TSpan} (h : spIn p x = true) : spIn ⟨p.at_,1⟩ x = true := by
  obtain ⟨h1,h2,h3,h4⟩ := (spIn_iff p x).1 h
  have h5 := (spOk_iff p).1 h1
  exact (spIn_iff _ _).2 ⟨(spOk_iff _).2 (by simp only; omega),h2,by simp only; omega,by simp only; omega⟩
def pieceW (ws : List TWindow) (p : TSpan) : TPiece := match ws.find? (fun w => spIn ⟨p.at_,1⟩ (vSp w)) with
  | some w => ⟨p.at_,w.physical + p.at_ - w.virtual,p.count⟩
  | none => ⟨0,0,0⟩
def covW (l : List TWindow) (s a n : Int) : List TSpan := coverV ((ofL l s).map vSp) ⟨a,n⟩
def mapL (l : List TWindow) (s a n : Int) : List TPiece := (covW l s a n).map (pieceW (ofL l s))
def mapOk (l : List TWindow) (s a n : Int) : Bool := coverOk ((ofL l s).map vSp) ⟨a,n⟩
theorem covW_len (l : List TWindow) (s a n : Int) : (covW l s a n).length ≤ 2147483648 := coverV_length _ _
theorem piece_of {l : List TWindow} {s a n : Int} {p : TSpan} (hp : p ∈ covW l s a n) : ∃ i w,(ofL l s)[i]? = some w ∧ ((ofL l s).map vSp).findIdx? (fun x => spIn ⟨p.at_,1⟩ x) = some i ∧ (∀ j u,j < i → (ofL l s)[j]? = some u → spIn ⟨p.at_,1⟩ (vSp u) = false) ∧
    spIn p (vSp w) = true ∧ pieceW (ofL l s) p = ⟨p.at_,w.physical + p.at_ - w.virtual,p.count⟩ ∧ winR w = true ∧ w.space = s ∧ w ∈ l ∧ w.virtual ≤ p.at_ ∧ p.at_ + p.count ≤ w.virtual + w.count ∧ 1 ≤ p.count ∧ a ≤ p.at_ ∧ p.at_ + p.count ≤ a + n := by
  obtain ⟨h1,h2,h3,h4,h5,i,x,hi,hx,h6,h7⟩ := coverV_mem hp
  have hs := (spOk_iff _).1 h1
  simp only at hs h3 h4
  rw [List.getElem?_map] at hx
  obtain ⟨w,hw,rfl⟩ := Option.map_eq_some_iff.1 hx
  obtain ⟨m1,m2,m3⟩ := ofL_get hw
  have hsp := (winR_sp m1).1
  have hb := (spOk_iff _).1 hsp
  simp only at h6 h7 hb
  have hall : ∀ x ∈ (ofL l s).map vSp,spIn ⟨p.at_,1⟩ x = (decide (x.at_ ≤ p.at_) && decide (p.at_ < x.at_ + x.count)) := fun x hx => in_one (h2 x hx) (by omega)
  have hf : ((ofL l s).map vSp).findIdx? (fun x => spIn ⟨p.at_,1⟩ x) = some i := by
    unfold idxAt at hi
    rw [List.findIdx?_eq_some_iff_getElem] at hi ⊢
    obtain ⟨q1,q2,q3⟩ := hi
    refine ⟨q1,by rw [hall _ (List.getElem_mem _)]; exact q2,fun j hj => ?_⟩
    rw [hall _ (List.getElem_mem _)]
    exact q3 j hj
  have hin1 : spIn ⟨p.at_,1⟩ (vSp w) = true := by rw [in_one hsp (by omega)]; simp only [Bool.and_eq_true,decide_eq_true_eq]; omega
  have hno : ∀ j u,j < i → (ofL l s)[j]? = some u → spIn ⟨p.at_,1⟩ (vSp u) = false := by
    intro j u hj hu
    have hf2 := hf
    rw [List.findIdx?_eq_some_iff_getElem] at hf2
    obtain ⟨q1,q2,q3⟩ := hf2
    have := q3 j hj
    have hg : ((ofL l s).map vSp)[j]? = some (vSp u) := by rw [List.getElem?_map,hu]; rfl
    have hg2 := List.getElem?_eq_some_iff.1 hg
    obtain ⟨_,hg3⟩ := hg2
    rw [hg3] at this
    simpa using this
  have hfi : (ofL l s).find? (fun w => spIn ⟨p.at_,1⟩ (vSp w)) = some w := by
    rw [List.find?_eq_some_iff_getElem]
    obtain ⟨g1,g2⟩ := List.getElem?_eq_some_iff.1 hw
    refine ⟨hin1,i,g1,g2,fun j hj => ?_⟩
    have := hno j ((ofL l s)[j]) hj (by simp [show j < (ofL l s).length by omega])
    simp [this]
  refine ⟨i,w,hw,hf,hno, ?_, ?_,m1,m2,m3,h6,h7,h5,h3,h4⟩
  · exact (spIn_iff _ _).2 ⟨(spOk_iff _).2 (by omega),hsp,h6,h7⟩
  · unfold pieceW; rw [hfi]
theorem piece_found {l : List TWindow} {s a n : Int} {p : TSpan} (hp : p ∈ covW l s a n) {j : Nat} {w : TWindow} (hw : (ofL l s)[j]? = some w) (h : spIn p (vSp w) = true) (hno : ∀ k u,k < j → (ofL l s)[k]? = some u → spIn p (vSp u) = false) :
    pieceW (ofL l s) p = ⟨p.at_,w.physical + p.at_ - w.virtual,p.count⟩ ∧ winR w = true ∧ w.virtual ≤ p.at_ ∧ p.at_ + p.count ≤ w.virtual + w.count ∧ 1 ≤ p.count := by
  obtain ⟨i,u,hu,_,hn,hin,hpc,m1,m2,m3,v1,v2,v3,_⟩ := piece_of hp
  have hij : i = j := by
    rcases Nat.lt_trichotomy i j with h1|h1|h1
    · rw [hno i u h1 hu] at hin; cases hin
    · exact h1
    · have := hn j w h1 hw
      rw [in_piece h] at this; cases this
  subst hij
  rw [hu] at hw
  cases hw
  exact ⟨hpc,m1,v1,v2,v3⟩
theorem piece_there {l : List TWindow} {s a n : Int} {p : TSpan} (hp : p ∈ covW l s a n) (hno : ∀ k u,k < (ofL l s).length → (ofL l s)[k]? = some u → spIn p (vSp u) = false) : False := by
  obtain ⟨i,u,hu,_,hn,hin,_⟩ := piece_of hp
  have := hno i u (List.getElem?_eq_some_iff.1 hu).1 hu
  rw [this] at hin; cases hin
def holdW (a : Int) (w : TWindow) : Bool := decide (w.physical ≤ a) && decide (a - w.physical < w.count)
def backF (l : List TWindow) (s a : Int) : Option TWindow := (ofL l s).find? (holdW a)
def backV (l : List TWindow) (s a : Int) : Int := match backF l s a with
  | some w => w.virtual + a - w.physical
  | none => 0
def backOk (l : List TWindow) (s a : Int) : Bool := (backF l s a).isSome
theorem back_some {l : List TWindow} {s a : Int} {i : Nat} {w : TWindow} (hw : (ofL l s)[i]? = some w) (h : holdW a w = true) (hno : ∀ j u,j < i → (ofL l s)[j]? = some u → holdW a u = false) : backF l s a = some w := by
  unfold backF
  rw [List.find?_eq_some_iff_getElem]
  obtain ⟨g1,g2⟩ := List.getElem?_eq_some_iff.1 hw
  refine ⟨h,i,g1,g2,fun j hj => ?_⟩
  have := hno j ((ofL l s)[j]) hj (by simp [show j < (ofL l s).length by omega])
  simp [this]
theorem back_none {l : List TWindow} {s a : Int} (hno : ∀ j u,j < (ofL l s).length → (ofL l s)[j]? = some u → holdW a u = false) : backF l s a = none := by
  unfold backF
  rw [List.find?_eq_none]
  intro x hx
  obtain ⟨j,hj⟩ := List.getElem?_of_mem hx
  simp [hno j x (List.getElem?_eq_some_iff.1 hj).1 hj]
theorem back_take {l : List TWindow} {s a : Int} {i : Nat} {e : TWindow} (h : backF (l.take i) s a = none) (he : l[i]? = some e) (hw : ofW s e = true) (hp : holdW a e = true) : backF l s a = some e := by
  unfold backF ofL at h ⊢
  have hl : l = l.take i ++ (e :: l.drop (i + 1)) := by
    conv => lhs; rw [← List.take_append_drop i l]
    rw [List.drop_eq_getElem_cons (List.getElem?_eq_some_iff.1 he).1,(List.getElem?_eq_some_iff.1 he).2]
  rw [hl,List.filter_append,List.find?_append,h]
  simp [List.filter_cons,hw,hp]
theorem back_next {l : List TWindow} {s a : Int} {i : Nat} {e : TWindow} (h : backF (l.take i) s a = none) (he : l[i]? = some e) (hn : (ofW s e && holdW a e) = false) : backF (l.take (i + 1)) s a = none := by
  unfold backF ofL at h ⊢
  rw [List.take_add_one,he,List.filter_append,List.find?_append,h]
  cases hw : ofW s e with
  | false => simp [hw]
  | true => rw [hw,Bool.true_and] at hn; simp [hw,hn]
def meetW (a b : TWindow) : Bool := ((meetOk (pSp a) (pSp b) && decide (a.space = b.space)) && winR a) && winR b
def meetsW (a b : List TWindow) : Bool := a.any fun x => b.any fun y => meetW x y
def clashW (a b : TWindow) : Bool := meetW a b || (((meetOk (vSp a) (vSp b) && decide (a.space = b.space)) && winR a) && winR b)
def OwnW (l : List TWindow) : Prop := ∀ (i j : Nat) a b,j < i → l[i]? = some a → l[j]? = some b → clashW a b = false
def w0W : TWindow := ⟨0,0,0,0⟩
def ownW (l : List TWindow) : Bool := (List.range l.length).all fun i => (List.range i).all fun j => !(clashW (l.getD i w0W) (l.getD j w0W))
theorem ownW_iff (l : List TWindow) : ownW l = true ↔ OwnW l := by
  unfold ownW OwnW
  simp only [List.all_eq_true,List.mem_range,Bool.not_eq_true']
  constructor
  · intro h i j a b hj ha hb
    have := h i (List.getElem?_eq_some_iff.1 ha).1 j hj
    rw [List.getD_eq_getElem?_getD,List.getD_eq_getElem?_getD,ha,hb] at this
    exact this
  · intro h i hi j hj
    rw [List.getD_eq_getElem?_getD,List.getD_eq_getElem?_getD,List.getElem?_eq_getElem hi,List.getElem?_eq_getElem (show j < l.length by omega)]
    exact h i j _ _ hj (List.getElem?_eq_getElem hi) (List.getElem?_eq_getElem (by omega))
theorem meet_ref (a b : TWindow) : (((meetOk (pSp a) (pSp b) && winR a) && winR b) && decide (a.space = b.space)) = meetW a b := by
  unfold meetW
  cases meetOk (pSp a) (pSp b) <;> cases winR a <;> cases winR b <;> cases decide (a.space = b.space) <;> rfl
theorem clash_ref (a b : TWindow) : (((decide (a.space = b.space) && winR a) && winR b) && (meetOk (pSp a) (pSp b) || meetOk (vSp a) (vSp b))) = clashW a b := by
  unfold clashW meetW
  cases meetOk (pSp a) (pSp b) <;> cases meetOk (vSp a) (vSp b) <;> cases winR a <;> cases winR b <;> cases decide (a.space = b.space) <;> rfl
theorem any_idx (s : List TWindow) (p : TWindow → Bool) : decide (0 ≤ idxI (s.findIdx? p)) = s.any p := by
  cases h : s.findIdx? p with
  | none =>
    rw [List.findIdx?_eq_none_iff] at h
    have : s.any p = false := by simpa using h
    rw [this]; rfl
  | some i =>
    rw [List.findIdx?_eq_some_iff_getElem] at h
    obtain ⟨hi,hp,_⟩ := h
    have : s.any p = true := List.any_eq_true.2 ⟨s[i],List.getElem_mem hi,hp⟩
    rw [this]; simp [idxI]
theorem any_take {α : Type} {l : List α} {p : α → Bool} {i : Nat} {e : α} (h : (l.take i).any p = false) (he : l[i]? = some e) (hp : p e = false) : (l.take (i + 1)).any p = false := by
  rw [List.take_add_one,he,List.any_append,h]; simp [hp]
theorem any_found {α : Type} {l : List α} {p : α → Bool} {i : Nat} {e : α} (he : l[i]? = some e) (hp : p e = true) : l.any p = true := List.any_eq_true.2 ⟨e,List.mem_of_getElem? he,hp⟩
theorem any_all {α : Type} {l : List α} {p : α → Bool} {i : Nat} (h : (l.take i).any p = false) (hi : l.length ≤ i) : l.any p = false := by rw [List.take_of_length_le hi] at h; exact h
theorem own_no {l : List TWindow} {i j : Nat} {a b : TWindow} (ha : l[i]? = some a) (hb : (l.take i)[j]? = some b) (h : clashW a b = true) : ownW l = false := by
  rw [Bool.eq_false_iff]
  intro ho0
  have ho := (ownW_iff l).1 ho0
  have hj : j < i := by
    have := (List.getElem?_eq_some_iff.1 hb).1
    simp at this; omega
  rw [List.getElem?_take_of_lt hj] at hb
  rw [ho i j a b hj ha hb] at h; cases h
theorem own_yes {l : List TWindow} (h : OwnW l) : ownW l = true := (ownW_iff l).2 h
theorem own_row {l : List TWindow} {i : Nat} {a : TWindow} (ha : l[i]? = some a) (h0 : ∀ (k j : Nat) x y,k < i → j < k → l[k]? = some x → l[j]? = some y → clashW x y = false) (h : ∀ j b,j < (l.take i).length → (l.take i)[j]? = some b → clashW a b = false) :
    ∀ (k j : Nat) x y,k < i + 1 → j < k → l[k]? = some x → l[j]? = some y → clashW x y = false := by
  intro k j x y hk hj hx hy
  by_cases hki : k < i
  · exact h0 k j x y hki hj hx hy
  · obtain rfl : k = i := by omega
    rw [ha] at hx; cases hx
    have hl := (List.getElem?_eq_some_iff.1 ha).1
    exact h j y (by simp; omega) (by rw [List.getElem?_take_of_lt hj]; exact hy)
end Go.Proofs.Ytljkbpgcglomfaa
set_option linter.unusedVariables false
set_option linter.unusedSimpArgs false
set_option maxRecDepth 10000
set_option maxHeartbeats 1000000
namespace Go.Proofs.Ytljkbpgcglomfaa
open Go Go.Proofs.Ytljkbpgcglomfaa.Pv
theorem w_window_virtual (w : TWindow)  :
    T Try.prog 44 [PV.f (eWindow w)] 0 [] (Ret (PV.f (eSpan (vSp w))) 0 []) := by
 refine t_fun tabOk (n := 8) (rs := [.cell 2 89]) Try.func44 rfl rfl rfl rfl (Nat.le_of_ble_eq_true rfl) ?_
 intro c hnt hk
 refine w_seq ?_
 refine w_R ?_
 refine qo hnt rfl (s_box rfl rfl ?_)
 refine qo hnt rfl (s_alloc tab_89 ?_)
 refine r_set [(1,PV.ptr 0 0),(2,PV.ptr 1 0)] [(1,.obj [pI 0,pI 0]),(0,.obj (cWindow w))] 2 ⟨rfl,rfl,trivial⟩ rfl rfl ?_
 refine r_end ?_
 refine q_then ?_
 refine w_seq ?_
 refine w_R ?_
 refine qo hnt rfl (s_fa_ptr tab_28 rfl rfl tab_3 (by decide) rfl ?_)
 refine qo hnt rfl (s_load_ptr1 tab_3 rfl rfl rfl rfl rfl ?_)
 refine qo hnt rfl (s_fa_ptr tab_28 rfl rfl tab_3 (by decide) rfl ?_)
 refine qo hnt rfl (s_load_ptr1 tab_3 rfl rfl rfl rfl rfl ?_)
 refine qo hnt rfl (s_build tab_89 rfl rfl (b_cons rfl tab_3 rfl rfl rfl (Nat.le_of_ble_eq_true rfl) (b_cons rfl tab_3 rfl rfl rfl (Nat.le_of_ble_eq_true rfl) (b_nil ?_))))
 refine qo hnt rfl (s_store_ptr tab_89 rfl rfl rfl rfl rfl (Nat.le_of_ble_eq_true rfl) ?_)
 refine r_set [(2,PV.ptr 1 0)] [(1,.obj [pI w.virtual,pI w.count]),(0,.obj (cWindow w))] 2 ⟨rfl,trivial⟩ rfl rfl ?_
 refine r_end ?_
 refine q_then ?_
 refine w_leO (n := 1) (ds := cSpan (vSp w)) rfl ⟨le_of_eq (congrArg (fun z : Int => pI z) (show w.virtual = ((vSp w).at_) by rfl)),le_of_eq (congrArg (fun z : Int => pI z) (show w.count = ((vSp w).count) by rfl)),trivial⟩ ?_
 refine w_ret ?_
 exact fin_plain (ret_cell tab_89 (by decide) rfl rfl (Nat.le_of_ble_eq_true rfl) rfl ret_nil) rfl rfl ⟨rfl,rfl,rfl⟩
theorem w_window_physical (w : TWindow)  :
    T Try.prog 75 [PV.f (eWindow w)] 0 [] (Ret (PV.f (eSpan (pSp w))) 0 []) := by
 refine t_fun tabOk (n := 8) (rs := [.cell 2 89]) Try.func75 rfl rfl rfl rfl (Nat.le_of_ble_eq_true rfl) ?_
 intro c hnt hk
 refine w_seq ?_
 refine w_R ?_
 refine qo hnt rfl (s_box rfl rfl ?_)
 refine qo hnt rfl (s_alloc tab_89 ?_)
 refine r_set [(1,PV.ptr 0 0),(2,PV.ptr 1 0)] [(1,.obj [pI 0,pI 0]),(0,.obj (cWindow w))] 2 ⟨rfl,rfl,trivial⟩ rfl rfl ?_
 refine r_end ?_
 refine q_then ?_
 refine w_seq ?_
 refine w_R ?_
 refine qo hnt rfl (s_fa_ptr tab_28 rfl rfl tab_3 (by decide) rfl ?_)
 refine qo hnt rfl (s_load_ptr1 tab_3 rfl rfl rfl rfl rfl ?_)
 refine qo hnt rfl (s_fa_ptr tab_28 rfl rfl tab_3 (by decide) rfl ?_)
 refine qo hnt rfl (s_load_ptr1 tab_3 rfl rfl rfl rfl rfl ?_)
 refine qo hnt rfl (s_build tab_89 rfl rfl (b_cons rfl tab_3 rfl rfl rfl (Nat.le_of_ble_eq_true rfl) (b_cons rfl tab_3 rfl rfl rfl (Nat.le_of_ble_eq_true rfl) (b_nil ?_))))
 refine qo hnt rfl (s_store_ptr tab_89 rfl rfl rfl rfl rfl (Nat.le_of_ble_eq_true rfl) ?_)
 refine r_set [(2,PV.ptr 1 0)] [(1,.obj [pI w.physical,pI w.count]),(0,.obj (cWindow w))] 2 ⟨rfl,trivial⟩ rfl rfl ?_
 refine r_end ?_
 refine q_then ?_
 refine w_leO (n := 1) (ds := cSpan (pSp w)) rfl ⟨le_of_eq (congrArg (fun z : Int => pI z) (show w.physical = ((pSp w).at_) by rfl)),le_of_eq (congrArg (fun z : Int => pI z) (show w.count = ((pSp w).count) by rfl)),trivial⟩ ?_
 refine w_ret ?_
 exact fin_plain (ret_cell tab_89 (by decide) rfl rfl (Nat.le_of_ble_eq_true rfl) rfl ret_nil) rfl rfl ⟨rfl,rfl,rfl⟩
theorem w_window_Right (w : TWindow)  :
    T Try.prog 36 [PV.f (eWindow w)] 0 [] (Ret (pB (winR w)) 0 []) := by
 refine t_fun tabOk (n := 21) (rs := [.tmp 2]) Try.func36 rfl rfl rfl rfl (Nat.le_of_ble_eq_true rfl) ?_
 intro c hnt hk
 refine w_seq ?_
 refine w_R ?_
 refine qo hnt rfl (s_box rfl rfl ?_)
 refine qa hnt rfl rfl ?_
 refine r_set [(1,PV.ptr 0 0)] [(0,.obj (cWindow w))] 1 ⟨rfl,trivial⟩ rfl rfl ?_
 refine r_end ?_
 refine q_then ?_
 refine w_seq ?_
 refine w_R ?_
 refine qo hnt rfl (s_fa_ptr tab_28 rfl rfl tab_3 (by decide) rfl ?_)
 refine qo hnt rfl (s_load_ptr1 tab_3 rfl rfl rfl rfl rfl ?_)
 refine qo hnt rfl (s_geq rfl rfl ?_)
 refine qm hnt rfl rfl ?_
 refine r_cut0 4 [(1,PV.ptr 0 0),(10,pB ((decide (0 ≤ w.space)) && (decide (w.space ≤ 3))))] ?_ ?_
 ·
  refine r_if tabOk hnt rfl rfl rfl (fun g1 => ?_) (fun g1 => ?_)
  ·
   have g1' := g1
   try simp only [sB] at g1'
   refine qo hnt rfl (s_fa_ptr tab_28 rfl rfl tab_3 (by decide) rfl ?_)
   refine ry hnt rfl rfl rfl g1 ?_
   refine qo hnt rfl (s_load_ptr1 tab_3 rfl rfl rfl rfl rfl ?_)
   refine ry hnt rfl rfl rfl g1 ?_
   refine qo hnt rfl (s_leq rfl rfl ?_)
   refine qo hnt rfl (s_pick_t rfl g1 rfl ?_)
   refine r_eq (s := 10) (y := pB ((decide (0 ≤ w.space)) && (decide (w.space ≤ 3)))) rfl (mix_at g1) ?_
   exact r_mid ⟨⟨rfl,rfl,trivial⟩,rfl,rfl⟩
  ·
   have g1' := g1
   try simp only [sB] at g1'
   refine rn hnt rfl rfl rfl g1 ?_
   refine rn hnt rfl rfl rfl g1 ?_
   refine qo hnt rfl (s_pick_f rfl g1 rfl ?_)
   refine r_eq (s := 10) (y := pB ((decide (0 ≤ w.space)) && (decide (w.space ≤ 3)))) rfl (mix_af _ g1) ?_
   exact r_mid ⟨⟨rfl,rfl,trivial⟩,rfl,rfl⟩
 ·
  refine qm hnt rfl rfl ?_
  refine r_cut0 4 [(1,PV.ptr 0 0),(15,pB (((decide (0 ≤ w.space)) && (decide (w.space ≤ 3))) && (spRight (vSp w) 65536)))] ?_ ?_
  ·
   refine r_if tabOk hnt rfl rfl rfl (fun g2 => ?_) (fun g2 => ?_)
   ·
    have g2' := g2
    try simp only [sB] at g2'
    refine qo hnt rfl (s_load_ptr tab_28 rfl rfl rfl (Nat.le_of_ble_eq_true rfl) ?_)
    refine ry hnt rfl rfl rfl g2 ?_
    refine qo hnt rfl (s_callF rfl rfl rfl (w_window_virtual w) rfl ?_)
    refine ry hnt rfl rfl rfl g2 ?_
    refine qo hnt rfl (s_callF rfl rfl rfl (w_span_Right (vSp w) 65536 (by omega)) rfl ?_)
    refine qo hnt rfl (s_pick_t rfl g2 rfl ?_)
    refine r_eq (s := 15) (y := pB (((decide (0 ≤ w.space)) && (decide (w.space ≤ 3))) && (spRight (vSp w) 65536))) rfl (mix_at g2) ?_
    exact r_mid ⟨⟨rfl,rfl,trivial⟩,rfl,rfl⟩
   ·
    have g2' := g2
    try simp only [sB] at g2'
    refine rn hnt rfl rfl rfl g2 ?_
    refine rn hnt rfl rfl rfl g2 ?_
    refine qo hnt rfl (s_pick_f rfl g2 rfl ?_)
    refine r_eq (s := 15) (y := pB (((decide (0 ≤ w.space)) && (decide (w.space ≤ 3))) && (spRight (vSp w) 65536))) rfl (mix_af _ g2) ?_
    exact r_mid ⟨⟨rfl,rfl,trivial⟩,rfl,rfl⟩
  ·
   refine qm hnt rfl rfl ?_
   refine r_cut0 4 [(20,pB ((((decide (0 ≤ w.space)) && (decide (w.space ≤ 3))) && (spRight (vSp w) 65536)) && (spRight (pSp w) 512)))] ?_ ?_
   ·
    refine r_if tabOk hnt rfl rfl rfl (fun g3 => ?_) (fun g3 => ?_)
    ·
     have g3' := g3
     try simp only [sB] at g3'
     refine qo hnt rfl (s_load_ptr tab_28 rfl rfl rfl (Nat.le_of_ble_eq_true rfl) ?_)
     refine ry hnt rfl rfl rfl g3 ?_
     refine qo hnt rfl (s_callF rfl rfl rfl (w_window_physical w) rfl ?_)
     refine ry hnt rfl rfl rfl g3 ?_
     refine qo hnt rfl (s_callF rfl rfl rfl (w_span_Right (pSp w) 512 (by omega)) rfl ?_)
     refine qo hnt rfl (s_pick_t rfl g3 rfl ?_)
     refine r_eq (s := 20) (y := pB ((((decide (0 ≤ w.space)) && (decide (w.space ≤ 3))) && (spRight (vSp w) 65536)) && (spRight (pSp w) 512))) rfl (mix_at g3) ?_
     exact r_mid ⟨⟨rfl,trivial⟩,rfl,rfl⟩
    ·
     have g3' := g3
     try simp only [sB] at g3'
     refine rn hnt rfl rfl rfl g3 ?_
     refine rn hnt rfl rfl rfl g3 ?_
     refine qo hnt rfl (s_pick_f rfl g3 rfl ?_)
     refine r_eq (s := 20) (y := pB ((((decide (0 ≤ w.space)) && (decide (w.space ≤ 3))) && (spRight (vSp w) 65536)) && (spRight (pSp w) 512))) rfl (mix_af _ g3) ?_
     exact r_mid ⟨⟨rfl,trivial⟩,rfl,rfl⟩
   ·
    refine qa hnt rfl rfl ?_
    refine r_end ?_
    refine q_then ?_
    refine w_le (s := 2) (y := pB (winR w)) rfl (le_of_eq (congrArg (fun z : Bool => pB z) (show ((((decide (0 ≤ w.space)) && (decide (w.space ≤ 3))) && (spRight (vSp w) 65536)) && (spRight (pSp w) 512)) = (winR w) by rfl))) ?_
    refine w_ret ?_
    exact fin_plain (ret_tmp rfl ret_nil) rfl rfl ⟨rfl,rfl,rfl⟩
theorem w_burgageref7_Window (w : TWindow)  :
    T Try.prog 37 [PV.f (eWindow w)] 0 [] (Ret (pB (winR w)) 0 []) := by
 refine t_fun tabOk (n := 27) (rs := [.tmp 2]) Try.func37 rfl rfl rfl rfl (Nat.le_of_ble_eq_true rfl) ?_
 intro c hnt hk
 refine w_seq ?_
 refine w_R ?_
 refine qo hnt rfl (s_box rfl rfl ?_)
 refine qa hnt rfl rfl ?_
 refine r_set [(1,PV.ptr 0 0)] [(0,.obj (cWindow w))] 1 ⟨rfl,trivial⟩ rfl rfl ?_
 refine r_end ?_
 refine q_then ?_
 refine w_seq ?_
 refine w_R ?_
 refine qo hnt rfl (s_fa_ptr tab_28 rfl rfl tab_3 (by decide) rfl ?_)
 refine qo hnt rfl (s_load_ptr1 tab_3 rfl rfl rfl rfl rfl ?_)
 refine qo hnt rfl (s_geq rfl rfl ?_)
 refine qm hnt rfl rfl ?_
 refine r_cut0 4 [(1,PV.ptr 0 0),(10,pB ((decide (0 ≤ w.space)) && (decide (w.space ≤ 3))))] ?_ ?_
 ·
  refine r_if tabOk hnt rfl rfl rfl (fun g1 => ?_) (fun g1 => ?_)
  ·
   have g1' := g1
   try simp only [sB] at g1'
   refine qo hnt rfl (s_fa_ptr tab_28 rfl rfl tab_3 (by decide) rfl ?_)
   refine ry hnt rfl rfl rfl g1 ?_
   refine qo hnt rfl (s_load_ptr1 tab_3 rfl rfl rfl rfl rfl ?_)
   refine ry hnt rfl rfl rfl g1 ?_
   refine qo hnt rfl (s_leq rfl rfl ?_)
   refine qo hnt rfl (s_pick_t rfl g1 rfl ?_)
   refine r_eq (s := 10) (y := pB ((decide (0 ≤ w.space)) && (decide (w.space ≤ 3)))) rfl (mix_at g1) ?_
   exact r_mid ⟨⟨rfl,rfl,trivial⟩,rfl,rfl⟩
  ·
   have g1' := g1
   try simp only [sB] at g1'
   refine rn hnt rfl rfl rfl g1 ?_
   refine rn hnt rfl rfl rfl g1 ?_
   refine qo hnt rfl (s_pick_f rfl g1 rfl ?_)
   refine r_eq (s := 10) (y := pB ((decide (0 ≤ w.space)) && (decide (w.space ≤ 3)))) rfl (mix_af _ g1) ?_
   exact r_mid ⟨⟨rfl,rfl,trivial⟩,rfl,rfl⟩
 ·
  refine qm hnt rfl rfl ?_
  refine r_cut0 7 [(1,PV.ptr 0 0),(18,pB (((decide (0 ≤ w.space)) && (decide (w.space ≤ 3))) && (spRight (⟨w.virtual,w.count⟩ : TSpan) 65536)))] ?_ ?_
  ·
   refine r_if tabOk hnt rfl rfl rfl (fun g2 => ?_) (fun g2 => ?_)
   ·
    have g2' := g2
    try simp only [sB] at g2'
    refine qo hnt rfl (s_fa_ptr tab_28 rfl rfl tab_3 (by decide) rfl ?_)
    refine ry hnt rfl rfl rfl g2 ?_
    refine qo hnt rfl (s_load_ptr1 tab_3 rfl rfl rfl rfl rfl ?_)
    refine ry hnt rfl rfl rfl g2 ?_
    refine qo hnt rfl (s_fa_ptr tab_28 rfl rfl tab_3 (by decide) rfl ?_)
    refine ry hnt rfl rfl rfl g2 ?_
    refine qo hnt rfl (s_load_ptr1 tab_3 rfl rfl rfl rfl rfl ?_)
    refine ry hnt rfl rfl rfl g2 ?_
    refine qo hnt rfl (s_build tab_119 rfl rfl (b_cons rfl tab_3 rfl rfl rfl (Nat.le_of_ble_eq_true rfl) (b_cons rfl tab_3 rfl rfl rfl (Nat.le_of_ble_eq_true rfl) (b_nil ?_))))
    refine ry hnt rfl rfl rfl g2 ?_
    refine qo hnt rfl (s_callF rfl rfl rfl (w_burgageref7_Right (⟨w.virtual,w.count⟩ : TSpan) 65536 (by omega)) rfl ?_)
    refine qo hnt rfl (s_pick_t rfl g2 rfl ?_)
    refine r_eq (s := 18) (y := pB (((decide (0 ≤ w.space)) && (decide (w.space ≤ 3))) && (spRight (⟨w.virtual,w.count⟩ : TSpan) 65536))) rfl (mix_at g2) ?_
    exact r_mid ⟨⟨rfl,rfl,trivial⟩,rfl,rfl⟩
   ·
    have g2' := g2
    try simp only [sB] at g2'
    refine rn hnt rfl rfl rfl g2 ?_
    refine rn hnt rfl rfl rfl g2 ?_
    refine rn hnt rfl rfl rfl g2 ?_
    refine rn hnt rfl rfl rfl g2 ?_
    refine rn hnt rfl rfl rfl g2 ?_
    refine qo hnt rfl (s_pick_f rfl g2 rfl ?_)
    refine r_eq (s := 18) (y := pB (((decide (0 ≤ w.space)) && (decide (w.space ≤ 3))) && (spRight (⟨w.virtual,w.count⟩ : TSpan) 65536))) rfl (mix_af _ g2) ?_
    exact r_mid ⟨⟨rfl,rfl,trivial⟩,rfl,rfl⟩
  ·
   refine qm hnt rfl rfl ?_
   refine r_cut0 7 [(26,pB ((((decide (0 ≤ w.space)) && (decide (w.space ≤ 3))) && (spRight (⟨w.virtual,w.count⟩ : TSpan) 65536)) && (spRight (⟨w.physical,w.count⟩ : TSpan) 512)))] ?_ ?_
   ·
    refine r_if tabOk hnt rfl rfl rfl (fun g3 => ?_) (fun g3 => ?_)
    ·
     have g3' := g3
     try simp only [sB] at g3'
     refine qo hnt rfl (s_fa_ptr tab_28 rfl rfl tab_3 (by decide) rfl ?_)
     refine ry hnt rfl rfl rfl g3 ?_
     refine qo hnt rfl (s_load_ptr1 tab_3 rfl rfl rfl rfl rfl ?_)
     refine ry hnt rfl rfl rfl g3 ?_
     refine qo hnt rfl (s_fa_ptr tab_28 rfl rfl tab_3 (by decide) rfl ?_)
     refine ry hnt rfl rfl rfl g3 ?_
     refine qo hnt rfl (s_load_ptr1 tab_3 rfl rfl rfl rfl rfl ?_)
     refine ry hnt rfl rfl rfl g3 ?_
     refine qo hnt rfl (s_build tab_119 rfl rfl (b_cons rfl tab_3 rfl rfl rfl (Nat.le_of_ble_eq_true rfl) (b_cons rfl tab_3 rfl rfl rfl (Nat.le_of_ble_eq_true rfl) (b_nil ?_))))
     refine ry hnt rfl rfl rfl g3 ?_
     refine qo hnt rfl (s_callF rfl rfl rfl (w_burgageref7_Right (⟨w.physical,w.count⟩ : TSpan) 512 (by omega)) rfl ?_)
     refine qo hnt rfl (s_pick_t rfl g3 rfl ?_)
     refine r_eq (s := 26) (y := pB ((((decide (0 ≤ w.space)) && (decide (w.space ≤ 3))) && (spRight (⟨w.virtual,w.count⟩ : TSpan) 65536)) && (spRight (⟨w.physical,w.count⟩ : TSpan) 512))) rfl (mix_at g3) ?_
     exact r_mid ⟨⟨rfl,trivial⟩,rfl,rfl⟩
    ·
     have g3' := g3
     try simp only [sB] at g3'
     refine rn hnt rfl rfl rfl g3 ?_
     refine rn hnt rfl rfl rfl g3 ?_
     refine rn hnt rfl rfl rfl g3 ?_
     refine rn hnt rfl rfl rfl g3 ?_
     refine rn hnt rfl rfl rfl g3 ?_
     refine qo hnt rfl (s_pick_f rfl g3 rfl ?_)
     refine r_eq (s := 26) (y := pB ((((decide (0 ≤ w.space)) && (decide (w.space ≤ 3))) && (spRight (⟨w.virtual,w.count⟩ : TSpan) 65536)) && (spRight (⟨w.physical,w.count⟩ : TSpan) 512))) rfl (mix_af _ g3) ?_
     exact r_mid ⟨⟨rfl,trivial⟩,rfl,rfl⟩
   ·
    refine qa hnt rfl rfl ?_
    refine r_end ?_
    refine q_then ?_
    refine w_le (s := 2) (y := pB (winR w)) rfl (le_of_eq (congrArg (fun z : Bool => pB z) (show ((((decide (0 ≤ w.space)) && (decide (w.space ≤ 3))) && (spRight (⟨w.virtual,w.count⟩ : TSpan) 65536)) && (spRight (⟨w.physical,w.count⟩ : TSpan) 512)) = (winR w) by rfl))) ?_
    refine w_ret ?_
    exact fin_plain (ret_tmp rfl ret_nil) rfl rfl ⟨rfl,rfl,rfl⟩
theorem w_window_of (l : List TWindow) (cl_l : Bool) (space : Int) (hl : l.length ≤ 1000) :
    T Try.prog 43 [pS 4 cl_l eWindow l,pI space] 0 [] (Ret (PV.ref 0 0 none) 1 [(0,oB true 4 eWindow (ofL l space))]) := by
 refine t_fun tabOk (n := 28) (rs := [.tmp 4]) Try.func43 rfl rfl rfl rfl (Nat.le_of_ble_eq_true rfl) ?_
 intro c hnt hk
 refine w_seq ?_
 refine w_R ?_
 refine qa hnt rfl rfl ?_
 refine r_end ?_
 refine q_then ?_
 refine w_seq ?_
 refine w_R ?_
 refine qa hnt rfl rfl ?_
 refine r_end ?_
 refine q_then ?_
 refine w_seq ?_
 refine w_seq ?_
 refine w_R ?_
 refine qm hnt rfl rfl ?_
 refine qo hnt rfl (s_lenM (l := l) tab_22 rfl (hM_sl (f := eWindow) rfl) ?_)
 refine qm hnt rfl rfl ?_
 refine r_end ?_
 refine q_then ?_
 refine w_block ?_
 refine w_adopt (s := 5) (sz := 4) rfl ?_
 refine loop2 (fun (os : List TWindow) (i : Nat) => i ≤ l.length ∧ os = ofL (l.take i) space) (fun (os : List TWindow) (i : Nat) => [(1,pI space),(5,PV.ref 0 0 none),(8,pS 4 cl_l eWindow l),(9,pN l.length),(10,pN i)]) 1 (fun (os : List TWindow) (i : Nat) => [(0,oB true 4 eWindow os)]) (fun (os : List TWindow) (i : Nat) => l.length - i) (([] : List TWindow)) (0) ?_ ⟨[(0,0)],by rw [hk]; decide,⟨⟨_,rfl,rfl,rfl⟩,⟨_,rfl,rfl,rfl⟩,⟨_,rfl,rfl,rfl⟩,⟨_,rfl,rfl,rfl⟩,⟨_,rfl,rfl,rfl⟩,trivial⟩,⟨⟨_,_,rfl,rfl,rfl,rfl⟩,trivial⟩,by rw [hk]; decide⟩ ?_
 · exact ⟨by omega,rfl⟩
 ·
  intro os i hI
  obtain ⟨hi,hos⟩ := hI
  have hol : os.length ≤ 1000 := by rw [hos]; exact Nat.le_trans (ofL_len _ _) (by simp; omega)
  refine w_seq ?_
  refine w_R ?_
  refine qo hnt rfl (s_lss rfl rfl ?_)
  refine r_end ?_
  refine q_then ?_
  refine w_seq ?_
  refine w_if rfl (fun c1 => ?_) (fun c1 => ?_)
  ·
   have c1_ := c1
   try simp only [sB] at c1
   refine w_skip ?_
   refine q_then ?_
   refine w_seq ?_
   refine w_block ?_
   refine w_seq ?_
   refine w_R ?_
   obtain ⟨e1,he1⟩ := get_of_lt l (i := i) (by omega)
   refine qo hnt rfl (s_iaM (q := i) (b := e1) (f := eWindow) tab_22 rfl tab_28 rfl rfl (by omega) rfl he1 ?_)
   refine qo hnt rfl (s_load_ro tab_28 rfl rfl rfl ?_)
   refine qo hnt rfl (s_alloc tab_28 ?_)
   refine qo hnt rfl (s_store_ptr tab_28 rfl rfl rfl rfl rfl (Nat.le_of_ble_eq_true rfl) ?_)
   refine r_set [(1,pI space),(5,PV.ref 0 0 none),(7,PV.ptr 1 0),(8,pS 4 cl_l eWindow l),(9,pN l.length),(10,pN i)] [(1,.obj (cWindow e1)),(0,oB true 4 eWindow os)] 2 ⟨rfl,rfl,rfl,rfl,rfl,rfl,trivial⟩ rfl rfl ?_
   refine r_end ?_
   refine q_then ?_
   refine w_seq ?_
   refine w_R ?_
   refine qo hnt rfl (s_load_ptr tab_28 rfl rfl rfl (Nat.le_of_ble_eq_true rfl) ?_)
   refine qo hnt rfl (s_callF rfl rfl rfl (w_window_Right e1) rfl ?_)
   refine qm hnt rfl rfl ?_
   refine r_cut0 5 [(1,pI space),(5,PV.ref 0 0 none),(7,PV.ptr 1 0),(8,pS 4 cl_l eWindow l),(9,pN l.length),(10,pN i),(21,pB ((winR e1) && (decide (e1.space = space))))] ?_ ?_
   ·
    refine r_if tabOk hnt rfl rfl rfl (fun g1 => ?_) (fun g1 => ?_)
    ·
     have g1' := g1
     try simp only [sB] at g1'
     refine qo hnt rfl (s_fa_ptr tab_28 rfl rfl tab_3 (by decide) rfl ?_)
     refine ry hnt rfl rfl rfl g1 ?_
     refine qo hnt rfl (s_load_ptr1 tab_3 rfl rfl rfl rfl rfl ?_)
     refine ry hnt rfl rfl rfl g1 ?_
     refine qm hnt rfl rfl ?_
     refine ry hnt rfl rfl rfl g1 ?_
     refine qo hnt rfl (s_eql rfl rfl ?_)
     refine qo hnt rfl (s_pick_t rfl g1 rfl ?_)
     refine r_eq (s := 21) (y := pB ((winR e1) && (decide (e1.space = space)))) rfl (mix_at g1) ?_
     exact r_mid ⟨⟨rfl,rfl,rfl,rfl,rfl,rfl,rfl,trivial⟩,rfl,rfl⟩
    ·
     have g1' := g1
     try simp only [sB] at g1'
     refine rn hnt rfl rfl rfl g1 ?_
     refine rn hnt rfl rfl rfl g1 ?_
     refine rn hnt rfl rfl rfl g1 ?_
     refine qo hnt rfl (s_pick_f rfl g1 rfl ?_)
     refine r_eq (s := 21) (y := pB ((winR e1) && (decide (e1.space = space)))) rfl (mix_af _ g1) ?_
     exact r_mid ⟨⟨rfl,rfl,rfl,rfl,rfl,rfl,rfl,trivial⟩,rfl,rfl⟩
   ·
    refine r_end ?_
    refine q_then ?_
    refine w_if rfl (fun c2 => ?_) (fun c2 => ?_)
    ·
     have c2_ := c2
     try simp only [sB] at c2
     refine w_R ?_
     refine qm hnt rfl rfl ?_
     refine qo hnt rfl (s_load_ptr tab_28 rfl rfl rfl (Nat.le_of_ble_eq_true rfl) ?_)
     refine qo hnt rfl (s_mkM (f := eWindow) [e1] tab_22 rfl tab_28 ⟨rfl,by decide⟩ (by decide) rfl rfl rfl rfl ?_)
     refine qo hnt rfl (s_appR0 (f := eWindow) (l := os) (xs := [e1]) tab_22 rfl tab_28 ⟨rfl,by decide,by decide⟩ (srcM tab_22 rfl (hM_ref0 (f := eWindow) rfl rfl)) rfl rfl (by (simp; omega)) ?_)
     refine qa hnt rfl rfl ?_
     refine r_set [(1,pI space),(5,PV.ref 3 0 none),(8,pS 4 cl_l eWindow l),(9,pN l.length),(10,pN i)] [(3,oB true 4 eWindow (os ++ [e1])),(2,oB true 4 eWindow [e1]),(1,.obj (cWindow e1))] 4 ⟨rfl,rfl,rfl,rfl,rfl,trivial⟩ rfl rfl ?_
     refine r_end ?_
     refine q_block ?_
     refine q_then ?_
     refine w_R ?_
     refine qo hnt rfl (s_addN (a := i) (b := 1) rfl rfl (by omega) (by omega) (by omega) ?_)
     refine qm hnt rfl rfl ?_
     refine r_end ?_
     refine q_then ?_
     refine ⟨(os ++ [e1]),(i + 1), ?_, ?_,⟨[(0,3)],by rw [hk]; decide,⟨⟨_,rfl,rfl,rfl⟩,⟨_,rfl,rfl,rfl⟩,⟨_,rfl,rfl,rfl⟩,⟨_,rfl,rfl,rfl⟩,⟨_,rfl,rfl,rfl⟩,trivial⟩,⟨⟨_,_,rfl,rfl,rfl,rfl⟩,trivial⟩,by rw [hk]; decide⟩⟩
     ·
      (exact ⟨by omega,by rw [hos]; exact of_snoc_t he1 c2_⟩)
     · omega
    have c2_ := c2
    try simp only [sB] at c2
    refine w_skip ?_
    refine q_block ?_
    refine q_then ?_
    refine w_R ?_
    refine qo hnt rfl (s_addN (a := i) (b := 1) rfl rfl (by omega) (by omega) (by omega) ?_)
    refine qm hnt rfl rfl ?_
    refine r_end ?_
    refine q_then ?_
    refine ⟨(os),(i + 1), ?_, ?_,⟨[(0,0)],by rw [hk]; decide,⟨⟨_,rfl,rfl,rfl⟩,⟨_,rfl,rfl,rfl⟩,⟨_,rfl,rfl,rfl⟩,⟨_,rfl,rfl,rfl⟩,⟨_,rfl,rfl,rfl⟩,trivial⟩,⟨⟨_,_,rfl,rfl,rfl,rfl⟩,trivial⟩,by rw [hk]; decide⟩⟩
    ·
     (exact ⟨by omega,by rw [hos]; exact of_snoc_f he1 c2_⟩)
    · omega
  have c1_ := c1
  try simp only [sB] at c1
  have hoe : ofL (l.take i) space = ofL l space := by rw [List.take_of_length_le (by omega)]
  refine w_exit ?_
  refine q_then_exit ?_
  refine q_then_exit ?_
  refine q_block_exit ?_
  refine q_then ?_
  refine w_seq ?_
  refine w_R ?_
  refine qm hnt rfl rfl ?_
  refine qa hnt rfl rfl ?_
  refine r_end ?_
  refine q_then ?_
  refine w_H (H' := [(0,oB true 4 eWindow (ofL l space))]) (congrArg (fun z => ([(0,oB true 4 eWindow z)] : Heap)) (show os = ofL l space by rw [hos,hoe])) ?_
  refine w_ret ?_
  exact fin_names (nx1 := 1) (H1 := [(0,oB true 4 eWindow (ofL l space))]) [(0,0)] (ret_tmp rfl ret_nil) rfl (by decide) ⟨⟨_,_,rfl,rfl,rfl,rfl⟩,trivial⟩ (by decide) rfl ⟨rfl,rfl,rfl⟩
theorem w_window_Map_1 (s : TSpan) (pa : Int) (pc : Int)  :
    T Try.prog 47 [PV.f (eSpan s),PV.ptr 0 0] 1 [(0,.obj [pI pa,pI pc])] (Ret (pB (spIn ⟨pa,1⟩ s)) 1 [(0,.obj [pI pa,pI pc])]) := by
 refine t_fun tabOk (n := 9) (rs := [.tmp 3]) Try.func47 rfl rfl rfl rfl (Nat.le_of_ble_eq_true rfl) ?_
 intro c hnt hk
 refine w_seq ?_
 refine w_R ?_
 refine qo hnt rfl (s_box rfl rfl ?_)
 refine qa hnt rfl rfl ?_
 refine r_set [(1,PV.ptr 0 0),(2,PV.ptr 1 0)] [(1,.obj (cSpan s)),(0,.obj [pI pa,pI pc])] 2 ⟨rfl,rfl,trivial⟩ rfl rfl ?_
 refine r_end ?_
 refine q_then ?_
 refine w_seq ?_
 refine w_R ?_
 refine qo hnt rfl (s_fa_ptr tab_89 rfl rfl tab_3 (by decide) rfl ?_)
 refine qo hnt rfl (s_load_ptr1 tab_3 rfl rfl rfl rfl rfl ?_)
 refine qo hnt rfl (s_build tab_89 rfl rfl (b_cons rfl tab_3 rfl rfl rfl (Nat.le_of_ble_eq_true rfl) (b_cons rfl tab_3 rfl rfl rfl (Nat.le_of_ble_eq_true rfl) (b_nil ?_))))
 refine qo hnt rfl (s_load_ptr tab_89 rfl rfl rfl (Nat.le_of_ble_eq_true rfl) ?_)
 refine qo hnt rfl (s_callF rfl rfl rfl (w_span_In (⟨pa,1⟩ : TSpan) s) rfl ?_)
 refine qa hnt rfl rfl ?_
 refine r_end ?_
 refine q_then ?_
 refine w_le (s := 3) (y := pB (spIn ⟨pa,1⟩ s)) rfl (le_of_eq (congrArg (fun z : Bool => pB z) (show (spIn (⟨pa,1⟩ : TSpan) s) = (spIn ⟨pa,1⟩ s) by simp [*]))) ?_
 refine w_ret ?_
 exact fin_names (nx1 := 1) (H1 := [(0,.obj [pI pa,pI pc])]) [(0,0)] (ret_tmp rfl ret_nil) rfl (by decide) ⟨⟨_,_,rfl,rfl,rfl,rfl⟩,trivial⟩ (by decide) rfl ⟨rfl,rfl,rfl⟩
theorem w_window_meet (a : TWindow) (b : TWindow)  :
    T Try.prog 51 [PV.f (eWindow a),PV.f (eWindow b)] 0 [] (Ret (pB (meetW a b)) 0 []) := by
 refine t_fun tabOk (n := 31) (rs := [.tmp 4]) Try.func51 rfl rfl rfl rfl (Nat.le_of_ble_eq_true rfl) ?_
 intro c hnt hk
 refine w_seq ?_
 refine w_R ?_
 refine qo hnt rfl (s_box rfl rfl ?_)
 refine qo hnt rfl (s_box rfl rfl ?_)
 refine qa hnt rfl rfl ?_
 refine r_set [(2,PV.ptr 0 0),(3,PV.ptr 1 0)] [(1,.obj (cWindow b)),(0,.obj (cWindow a))] 2 ⟨rfl,rfl,trivial⟩ rfl rfl ?_
 refine r_end ?_
 refine q_then ?_
 refine w_seq ?_
 refine W_drawn tabOk mixed hnt [[],[0],[],[0,1,2],[0,1,2,3],[0,1,2,3,4],[0,1,2,3,4,5],[0,1,2,3,4,5],[],[0,1,2,3,4,5,6,8],[0,1,2,3,4,5,6,7,8,9]] (by kernel_rfl) ?_
 refine d_op ?_
 refine xL [(2,PV.ptr 0 0)] [] [(0,.obj (cWindow a))] rfl rfl rfl rfl rfl (s_load_ptr tab_28 rfl rfl rfl (Nat.le_of_ble_eq_true rfl) ⟨rfl,rfl,rfl⟩) ⟨rfl,trivial⟩ rfl ?_
 refine d_op ?_
 refine x_run0 [(8,PV.f (eWindow a))] [0] rfl rfl rfl rfl (s_callF rfl rfl rfl (w_window_physical a) rfl ⟨rfl,rfl,rfl⟩) ?_
 refine d_op ?_
 refine xL [(3,PV.ptr 1 0)] [] [(1,.obj (cWindow b))] rfl rfl rfl rfl rfl (s_load_ptr tab_28 rfl rfl rfl (Nat.le_of_ble_eq_true rfl) ⟨rfl,rfl,rfl⟩) ⟨rfl,trivial⟩ rfl ?_
 refine d_op ?_
 refine x_run0 [(10,PV.f (eWindow b))] [0,1,2] rfl rfl rfl rfl (s_callF rfl rfl rfl (w_window_physical b) rfl ⟨rfl,rfl,rfl⟩) ?_
 refine d_op ?_
 refine x_run0 [(9,PV.f (eSpan (pSp a))),(11,PV.f (eSpan (pSp b)))] [0,1,2,3] rfl rfl rfl rfl (s_callF rfl rfl rfl (w_span_Meet (pSp a) (pSp b)) rfl ⟨rfl,rfl,rfl⟩) ?_
 refine d_op ?_
 refine x_run0 [(12,PV.tup [PV.f (eSpan (meetV (pSp a) (pSp b))),pB (meetOk (pSp a) (pSp b))])] [0,1,2,3,4] rfl rfl rfl rfl (s_move rfl ⟨rfl,rfl,rfl⟩) ?_
 refine d_op ?_
 refine x_run0 [(7,PV.tup [PV.f (eSpan (meetV (pSp a) (pSp b))),pB (meetOk (pSp a) (pSp b))])] [0,1,2,3,4,5] rfl rfl rfl rfl (s_extract rfl rfl ⟨rfl,rfl,rfl⟩) ?_
 refine d_op ?_
 refine x_run0 [(7,PV.tup [PV.f (eSpan (meetV (pSp a) (pSp b))),pB (meetOk (pSp a) (pSp b))])] [0,1,2,3,4,5] rfl rfl rfl rfl (s_extract rfl rfl ⟨rfl,rfl,rfl⟩) ?_
 refine d_op ?_
 refine xT [] [] [] [(2,.obj [pI 0,pI 0])] [(1,.obj (cWindow b)),(0,.obj (cWindow a))] rfl rfl rfl rfl rfl (s_alloc tab_89 ⟨rfl,rfl,rfl⟩) rfl rfl ?_
 refine d_op ?_
 refine xT [(5,PV.ptr 2 0),(13,PV.f (eSpan (meetV (pSp a) (pSp b))))] [0,1,2,3,4,5,6,8] [(2,.obj [pI 0,pI 0])] [(2,.obj (cSpan (meetV (pSp a) (pSp b))))] [(1,.obj (cWindow b)),(0,.obj (cWindow a))] rfl rfl rfl rfl rfl (s_store_ptr tab_89 rfl rfl rfl rfl rfl (Nat.le_of_ble_eq_true rfl) ⟨rfl,rfl,rfl⟩) rfl rfl ?_
 refine d_op ?_
 refine x_run0 [(14,pB (meetOk (pSp a) (pSp b)))] [0,1,2,3,4,5,6,7,8,9] rfl rfl rfl rfl (s_assign rfl ⟨rfl,rfl,rfl⟩) ?_
 refine d_end ⟨by kernel_rfl, ?_⟩
 refine q_then ?_
 refine w_seq ?_
 refine w_R ?_
 refine qm hnt rfl rfl ?_
 refine qm hnt rfl rfl ?_
 refine r_cut0 6 [(2,PV.ptr 0 0),(3,PV.ptr 1 0),(22,pB ((meetOk (pSp a) (pSp b)) && (decide (a.space = b.space))))] ?_ ?_
 ·
  refine r_if tabOk hnt rfl rfl rfl (fun g1 => ?_) (fun g1 => ?_)
  ·
   have g1' := g1
   try simp only [sB] at g1'
   refine qo hnt rfl (s_fa_ptr tab_28 rfl rfl tab_3 (by decide) rfl ?_)
   refine ry hnt rfl rfl rfl g1 ?_
   refine qo hnt rfl (s_load_ptr1 tab_3 rfl rfl rfl rfl rfl ?_)
   refine ry hnt rfl rfl rfl g1 ?_
   refine qo hnt rfl (s_fa_ptr tab_28 rfl rfl tab_3 (by decide) rfl ?_)
   refine ry hnt rfl rfl rfl g1 ?_
   refine qo hnt rfl (s_load_ptr1 tab_3 rfl rfl rfl rfl rfl ?_)
   refine ry hnt rfl rfl rfl g1 ?_
   refine qo hnt rfl (s_eql rfl rfl ?_)
   refine qo hnt rfl (s_pick_t rfl g1 rfl ?_)
   refine r_eq (s := 22) (y := pB ((meetOk (pSp a) (pSp b)) && (decide (a.space = b.space)))) rfl (mix_at g1) ?_
   exact r_mid ⟨⟨rfl,rfl,rfl,trivial⟩,rfl,rfl⟩
  ·
   have g1' := g1
   try simp only [sB] at g1'
   refine rn hnt rfl rfl rfl g1 ?_
   refine rn hnt rfl rfl rfl g1 ?_
   refine rn hnt rfl rfl rfl g1 ?_
   refine rn hnt rfl rfl rfl g1 ?_
   refine qo hnt rfl (s_pick_f rfl g1 rfl ?_)
   refine r_eq (s := 22) (y := pB ((meetOk (pSp a) (pSp b)) && (decide (a.space = b.space)))) rfl (mix_af _ g1) ?_
   exact r_mid ⟨⟨rfl,rfl,rfl,trivial⟩,rfl,rfl⟩
 ·
  refine qm hnt rfl rfl ?_
  refine r_cut0 3 [(3,PV.ptr 1 0),(26,pB (((meetOk (pSp a) (pSp b)) && (decide (a.space = b.space))) && (winR a)))] ?_ ?_
  ·
   refine r_if tabOk hnt rfl rfl rfl (fun g2 => ?_) (fun g2 => ?_)
   ·
    have g2' := g2
    try simp only [sB] at g2'
    refine qo hnt rfl (s_load_ptr tab_28 rfl rfl rfl (Nat.le_of_ble_eq_true rfl) ?_)
    refine ry hnt rfl rfl rfl g2 ?_
    refine qo hnt rfl (s_callF rfl rfl rfl (w_window_Right a) rfl ?_)
    refine qo hnt rfl (s_pick_t rfl g2 rfl ?_)
    refine r_eq (s := 26) (y := pB (((meetOk (pSp a) (pSp b)) && (decide (a.space = b.space))) && (winR a))) rfl (mix_at g2) ?_
    exact r_mid ⟨⟨rfl,rfl,trivial⟩,rfl,rfl⟩
   ·
    have g2' := g2
    try simp only [sB] at g2'
    refine rn hnt rfl rfl rfl g2 ?_
    refine qo hnt rfl (s_pick_f rfl g2 rfl ?_)
    refine r_eq (s := 26) (y := pB (((meetOk (pSp a) (pSp b)) && (decide (a.space = b.space))) && (winR a))) rfl (mix_af _ g2) ?_
    exact r_mid ⟨⟨rfl,rfl,trivial⟩,rfl,rfl⟩
  ·
   refine qm hnt rfl rfl ?_
   refine r_cut0 3 [(30,pB ((((meetOk (pSp a) (pSp b)) && (decide (a.space = b.space))) && (winR a)) && (winR b)))] ?_ ?_
   ·
    refine r_if tabOk hnt rfl rfl rfl (fun g3 => ?_) (fun g3 => ?_)
    ·
     have g3' := g3
     try simp only [sB] at g3'
     refine qo hnt rfl (s_load_ptr tab_28 rfl rfl rfl (Nat.le_of_ble_eq_true rfl) ?_)
     refine ry hnt rfl rfl rfl g3 ?_
     refine qo hnt rfl (s_callF rfl rfl rfl (w_window_Right b) rfl ?_)
     refine qo hnt rfl (s_pick_t rfl g3 rfl ?_)
     refine r_eq (s := 30) (y := pB ((((meetOk (pSp a) (pSp b)) && (decide (a.space = b.space))) && (winR a)) && (winR b))) rfl (mix_at g3) ?_
     exact r_mid ⟨⟨rfl,trivial⟩,rfl,rfl⟩
    ·
     have g3' := g3
     try simp only [sB] at g3'
     refine rn hnt rfl rfl rfl g3 ?_
     refine qo hnt rfl (s_pick_f rfl g3 rfl ?_)
     refine r_eq (s := 30) (y := pB ((((meetOk (pSp a) (pSp b)) && (decide (a.space = b.space))) && (winR a)) && (winR b))) rfl (mix_af _ g3) ?_
     exact r_mid ⟨⟨rfl,trivial⟩,rfl,rfl⟩
   ·
    refine qa hnt rfl rfl ?_
    refine r_end ?_
    refine q_then ?_
    refine w_le (s := 4) (y := pB (meetW a b)) rfl (le_of_eq (congrArg (fun z : Bool => pB z) (show ((((meetOk (pSp a) (pSp b)) && (decide (a.space = b.space))) && (winR a)) && (winR b)) = (meetW a b) by rfl))) ?_
    refine w_ret ?_
    exact fin_plain (ret_tmp rfl ret_nil) rfl rfl ⟨rfl,rfl,rfl⟩
theorem w_window_Meets_1 (y : TWindow) (sx : Int) (vx : Int) (px : Int) (cx : Int)  :
    T Try.prog 78 [PV.f (eWindow y),PV.ptr 0 0] 1 [(0,.obj [pI sx,pI vx,pI px,pI cx])] (Ret (pB (meetW ⟨sx,vx,px,cx⟩ y)) 1 [(0,.obj [pI sx,pI vx,pI px,pI cx])]) := by
 refine t_fun tabOk (n := 7) (rs := [.tmp 3]) Try.func78 rfl rfl rfl rfl (Nat.le_of_ble_eq_true rfl) ?_
 intro c hnt hk
 refine w_seq ?_
 refine w_R ?_
 refine qo hnt rfl (s_box rfl rfl ?_)
 refine qa hnt rfl rfl ?_
 refine r_set [(1,PV.ptr 0 0),(2,PV.ptr 1 0)] [(1,.obj (cWindow y)),(0,.obj [pI sx,pI vx,pI px,pI cx])] 2 ⟨rfl,rfl,trivial⟩ rfl rfl ?_
 refine r_end ?_
 refine q_then ?_
 refine w_seq ?_
 refine w_R ?_
 refine qo hnt rfl (s_load_ptr tab_28 rfl rfl rfl (Nat.le_of_ble_eq_true rfl) ?_)
 refine qo hnt rfl (s_load_ptr tab_28 rfl rfl rfl (Nat.le_of_ble_eq_true rfl) ?_)
 refine qo hnt rfl (s_callF rfl rfl rfl (w_window_meet (⟨sx,vx,px,cx⟩ : TWindow) y) rfl ?_)
 refine qa hnt rfl rfl ?_
 refine r_end ?_
 refine q_then ?_
 refine w_le (s := 3) (y := pB (meetW ⟨sx,vx,px,cx⟩ y)) rfl (le_of_eq (congrArg (fun z : Bool => pB z) (show (meetW (⟨sx,vx,px,cx⟩ : TWindow) y) = (meetW ⟨sx,vx,px,cx⟩ y) by simp [*]))) ?_
 refine w_ret ?_
 exact fin_names (nx1 := 1) (H1 := [(0,.obj [pI sx,pI vx,pI px,pI cx])]) [(0,0)] (ret_tmp rfl ret_nil) rfl (by decide) ⟨⟨_,_,rfl,rfl,rfl,rfl⟩,trivial⟩ (by decide) rfl ⟨rfl,rfl,rfl⟩
theorem w_slices_IndexFunc_span_Span_span_Span_c3 (s : List TSpan) (cl_s : Bool) (pa : Int) (pc : Int) (hs : s.length ≤ 140737488351232) :
    T Try.prog 46 [pS 2 cl_s eSpan s,PV.clo (.func 47) [PV.ptr 0 0]] 1 [(0,.obj [pI pa,pI pc])] (Ret (pI (idxI (s.findIdx? fun x => (spIn ⟨pa,1⟩ x)))) 1 [(0,.obj [pI pa,pI pc])]) := by
 refine t_fun tabOk (n := 19) (rs := [.tmp 4]) Try.func46 rfl rfl rfl rfl (Nat.le_of_ble_eq_true rfl) ?_
 intro c hnt hk
 refine w_seq ?_
 refine w_R ?_
 refine qa hnt rfl rfl ?_
 refine r_end ?_
 refine q_then ?_
 refine w_seq ?_
 refine w_seq ?_
 refine w_R ?_
 refine qm hnt rfl rfl ?_
 refine qo hnt rfl (s_lenM (l := s) tab_87 rfl (hM_sl (f := eSpan) rfl) ?_)
 refine qm hnt rfl rfl ?_
 refine r_end ?_
 refine q_then ?_
 refine w_block ?_
 refine loop1 (fun (i : Nat) => i ≤ s.length ∧ ∀ j x,j < i → s[j]? = some x → (spIn ⟨pa,1⟩ x) = false) (fun (i : Nat) => [(0,pS 2 cl_s eSpan s),(1,PV.clo (.func 47) [PV.ptr 0 0]),(7,pN s.length),(8,pN i)]) 1 (fun (i : Nat) => [(0,.obj [pI pa,pI pc])]) (fun (i : Nat) => s.length - i) (0) ?_ ⟨[(0,0)],by rw [hk]; decide,⟨⟨_,rfl,rfl,rfl⟩,⟨_,rfl,rfl,rfl⟩,⟨_,rfl,rfl,rfl⟩,⟨_,rfl,rfl,rfl⟩,trivial⟩,⟨⟨_,_,rfl,rfl,rfl,rfl⟩,trivial⟩,by rw [hk]; decide⟩ ?_
 · exact ⟨Nat.zero_le _,fun j x hj => by omega⟩
 ·
  intro i hI
  obtain ⟨hi,ht⟩ := hI
  refine w_seq ?_
  refine w_R ?_
  refine qo hnt rfl (s_lss rfl rfl ?_)
  refine r_end ?_
  refine q_then ?_
  refine w_seq ?_
  refine w_if rfl (fun c1 => ?_) (fun c1 => ?_)
  ·
   have c1_ := c1
   try simp only [sB] at c1
   refine w_skip ?_
   refine q_then ?_
   refine w_seq ?_
   refine w_block ?_
   refine w_seq ?_
   refine w_R ?_
   refine qm hnt rfl rfl ?_
   refine qa hnt rfl rfl ?_
   refine r_end ?_
   refine q_then ?_
   refine w_seq ?_
   refine w_R ?_
   refine qm hnt rfl rfl ?_
   refine qm hnt rfl rfl ?_
   refine qm hnt rfl rfl ?_
   obtain ⟨e1,he1⟩ := get_of_lt s (i := i) (by omega)
   refine qo hnt rfl (s_iaM (q := i) (b := e1) (f := eSpan) tab_87 rfl tab_89 rfl rfl (by omega) rfl he1 ?_)
   refine qo hnt rfl (s_load_ro tab_89 rfl rfl rfl ?_)
   refine qo hnt rfl (s_callX (r2 := pB (spIn ⟨pa,1⟩ e1)) (nx1 := 1) (H2 := [(0,.obj [pI pa,pI pc])]) (H3 := [(0,.obj [pI pa,pI pc])]) [0] [.obj [pI pa,pI pc]] rfl rfl rfl (handed_of (by decide) ⟨rfl,trivial⟩) rfl rfl rfl rfl rfl rfl (w_window_Map_1 e1 pa pc) rfl (dist_of rfl) rfl rfl rfl rfl ?_)
   refine r_set [(0,pS 2 cl_s eSpan s),(1,PV.clo (.func 47) [PV.ptr 0 0]),(5,pN i),(7,pN s.length),(8,pN i),(16,pB (spIn ⟨pa,1⟩ e1))] [(0,.obj [pI pa,pI pc])] 1 ⟨rfl,rfl,rfl,rfl,rfl,rfl,trivial⟩ rfl rfl ?_
   refine r_end ?_
   refine q_then ?_
   refine w_if rfl (fun c2 => ?_) (fun c2 => ?_)
   ·
    have c2_ := c2
    try simp only [sB] at c2
    refine w_seq ?_
    refine w_R ?_
    refine qm hnt rfl rfl ?_
    refine qa hnt rfl rfl ?_
    refine r_end ?_
    refine q_then ?_
    refine w_le (s := 4) (y := pI (idxI (s.findIdx? fun x => (spIn ⟨pa,1⟩ x)))) rfl (le_of_eq (congrArg (fun z : Int => pI z) (show ((i : Nat) : Int) = (idxI (s.findIdx? fun x => (spIn ⟨pa,1⟩ x))) by rw [find_step (p := fun x => (spIn ⟨pa,1⟩ x)) ht he1 c2_]))) ?_
    refine w_ret ?_
    refine q_block_ret ?_
    refine q_then_ret ?_
    refine q_then_ret ?_
    refine q_block_ret ?_
    refine q_then_ret ?_
    exact fin_names (nx1 := 1) (H1 := [(0,.obj [pI pa,pI pc])]) [(0,0)] (ret_tmp rfl ret_nil) rfl (by decide) ⟨⟨_,_,rfl,rfl,rfl,rfl⟩,trivial⟩ (by decide) rfl ⟨rfl,rfl,rfl⟩
   have c2_ := c2
   try simp only [sB] at c2
   refine w_skip ?_
   refine q_block ?_
   refine q_then ?_
   refine w_R ?_
   refine qo hnt rfl (s_addN (a := i) (b := 1) rfl rfl (by omega) (by omega) (by omega) ?_)
   refine qm hnt rfl rfl ?_
   refine r_end ?_
   refine q_then ?_
   refine ⟨(i + 1), ?_, ?_,⟨[(0,0)],by rw [hk]; decide,⟨⟨_,rfl,rfl,rfl⟩,⟨_,rfl,rfl,rfl⟩,⟨_,rfl,rfl,rfl⟩,⟨_,rfl,rfl,rfl⟩,trivial⟩,⟨⟨_,_,rfl,rfl,rfl,rfl⟩,trivial⟩,by rw [hk]; decide⟩⟩
   ·
    refine ⟨by omega,fun j x hj hx => ?_⟩
    by_cases hji : j < i
    · exact ht j x hji hx
    · obtain rfl : j = i := by omega
      rw [he1] at hx; cases hx; exact c2_
   · omega
  have c1_ := c1
  try simp only [sB] at c1
  refine w_exit ?_
  refine q_then_exit ?_
  refine q_then_exit ?_
  refine q_block_exit ?_
  refine q_then ?_
  refine w_seq ?_
  refine w_R ?_
  refine qa hnt rfl rfl ?_
  refine r_end ?_
  refine q_then ?_
  refine w_le (s := 4) (y := pI (idxI (s.findIdx? fun x => (spIn ⟨pa,1⟩ x)))) rfl (le_of_eq (congrArg (fun z : Int => pI z) (show (-1) = (idxI (s.findIdx? fun x => (spIn ⟨pa,1⟩ x))) by rw [find_none (p := fun x => (spIn ⟨pa,1⟩ x)) (fun j x hj hx => ht j x (by omega) hx)]))) ?_
  refine w_ret ?_
  exact fin_names (nx1 := 1) (H1 := [(0,.obj [pI pa,pI pc])]) [(0,0)] (ret_tmp rfl ret_nil) rfl (by decide) ⟨⟨_,_,rfl,rfl,rfl,rfl⟩,trivial⟩ (by decide) rfl ⟨rfl,rfl,rfl⟩
theorem w_slices_IndexFunc_api_Window_api_Window_c4 (s : List TWindow) (cl_s : Bool) (sx : Int) (vx : Int) (px : Int) (cx : Int) (hs : s.length ≤ 140737488351232) :
    T Try.prog 105 [pS 4 cl_s eWindow s,PV.clo (.func 78) [PV.ptr 0 0]] 1 [(0,.obj [pI sx,pI vx,pI px,pI cx])] (Ret (pI (idxI (s.findIdx? fun x => (meetW ⟨sx,vx,px,cx⟩ x)))) 1 [(0,.obj [pI sx,pI vx,pI px,pI cx])]) := by
 refine t_fun tabOk (n := 19) (rs := [.tmp 4]) Try.func105 rfl rfl rfl rfl (Nat.le_of_ble_eq_true rfl) ?_
 intro c hnt hk
 refine w_seq ?_
 refine w_R ?_
 refine qa hnt rfl rfl ?_
 refine r_end ?_
 refine q_then ?_
 refine w_seq ?_
 refine w_seq ?_
 refine w_R ?_
 refine qm hnt rfl rfl ?_
 refine qo hnt rfl (s_lenM (l := s) tab_22 rfl (hM_sl (f := eWindow) rfl) ?_)
 refine qm hnt rfl rfl ?_
 refine r_end ?_
 refine q_then ?_
 refine w_block ?_
 refine loop1 (fun (i : Nat) => i ≤ s.length ∧ ∀ j x,j < i → s[j]? = some x → (meetW ⟨sx,vx,px,cx⟩ x) = false) (fun (i : Nat) => [(0,pS 4 cl_s eWindow s),(1,PV.clo (.func 78) [PV.ptr 0 0]),(7,pN s.length),(8,pN i)]) 1 (fun (i : Nat) => [(0,.obj [pI sx,pI vx,pI px,pI cx])]) (fun (i : Nat) => s.length - i) (0) ?_ ⟨[(0,0)],by rw [hk]; decide,⟨⟨_,rfl,rfl,rfl⟩,⟨_,rfl,rfl,rfl⟩,⟨_,rfl,rfl,rfl⟩,⟨_,rfl,rfl,rfl⟩,trivial⟩,⟨⟨_,_,rfl,rfl,rfl,rfl⟩,trivial⟩,by rw [hk]; decide⟩ ?_
 · exact ⟨Nat.zero_le _,fun j x hj => by omega⟩
 ·
  intro i hI
  obtain ⟨hi,ht⟩ := hI
  refine w_seq ?_
  refine w_R ?_
  refine qo hnt rfl (s_lss rfl rfl ?_)
  refine r_end ?_
  refine q_then ?_
  refine w_seq ?_
  refine w_if rfl (fun c1 => ?_) (fun c1 => ?_)
  ·
   have c1_ := c1
   try simp only [sB] at c1
   refine w_skip ?_
   refine q_then ?_
   refine w_seq ?_
   refine w_block ?_
   refine w_seq ?_
   refine w_R ?_
   refine qm hnt rfl rfl ?_
   refine qa hnt rfl rfl ?_
   refine r_end ?_
   refine q_then ?_
   refine w_seq ?_
   refine w_R ?_
   refine qm hnt rfl rfl ?_
   refine qm hnt rfl rfl ?_
   refine qm hnt rfl rfl ?_
   obtain ⟨e1,he1⟩ := get_of_lt s (i := i) (by omega)
   refine qo hnt rfl (s_iaM (q := i) (b := e1) (f := eWindow) tab_22 rfl tab_28 rfl rfl (by omega) rfl he1 ?_)
   refine qo hnt rfl (s_load_ro tab_28 rfl rfl rfl ?_)
   refine qo hnt rfl (s_callX (r2 := pB (meetW ⟨sx,vx,px,cx⟩ e1)) (nx1 := 1) (H2 := [(0,.obj [pI sx,pI vx,pI px,pI cx])]) (H3 := [(0,.obj [pI sx,pI vx,pI px,pI cx])]) [0] [.obj [pI sx,pI vx,pI px,pI cx]] rfl rfl rfl (handed_of (by decide) ⟨rfl,trivial⟩) rfl rfl rfl rfl rfl rfl (w_window_Meets_1 e1 sx vx px cx) rfl (dist_of rfl) rfl rfl rfl rfl ?_)
   refine r_set [(0,pS 4 cl_s eWindow s),(1,PV.clo (.func 78) [PV.ptr 0 0]),(5,pN i),(7,pN s.length),(8,pN i),(16,pB (meetW ⟨sx,vx,px,cx⟩ e1))] [(0,.obj [pI sx,pI vx,pI px,pI cx])] 1 ⟨rfl,rfl,rfl,rfl,rfl,rfl,trivial⟩ rfl rfl ?_
   refine r_end ?_
   refine q_then ?_
   refine w_if rfl (fun c2 => ?_) (fun c2 => ?_)
   ·
    have c2_ := c2
    try simp only [sB] at c2
    refine w_seq ?_
    refine w_R ?_
    refine qm hnt rfl rfl ?_
    refine qa hnt rfl rfl ?_
    refine r_end ?_
    refine q_then ?_
    refine w_le (s := 4) (y := pI (idxI (s.findIdx? fun x => (meetW ⟨sx,vx,px,cx⟩ x)))) rfl (le_of_eq (congrArg (fun z : Int => pI z) (show ((i : Nat) : Int) = (idxI (s.findIdx? fun x => (meetW ⟨sx,vx,px,cx⟩ x))) by rw [find_step (p := fun x => (meetW ⟨sx,vx,px,cx⟩ x)) ht he1 c2_]))) ?_
    refine w_ret ?_
    refine q_block_ret ?_
    refine q_then_ret ?_
    refine q_then_ret ?_
    refine q_block_ret ?_
    refine q_then_ret ?_
    exact fin_names (nx1 := 1) (H1 := [(0,.obj [pI sx,pI vx,pI px,pI cx])]) [(0,0)] (ret_tmp rfl ret_nil) rfl (by decide) ⟨⟨_,_,rfl,rfl,rfl,rfl⟩,trivial⟩ (by decide) rfl ⟨rfl,rfl,rfl⟩
   have c2_ := c2
   try simp only [sB] at c2
   refine w_skip ?_
   refine q_block ?_
   refine q_then ?_
   refine w_R ?_
   refine qo hnt rfl (s_addN (a := i) (b := 1) rfl rfl (by omega) (by omega) (by omega) ?_)
   refine qm hnt rfl rfl ?_
   refine r_end ?_
   refine q_then ?_
   refine ⟨(i + 1), ?_, ?_,⟨[(0,0)],by rw [hk]; decide,⟨⟨_,rfl,rfl,rfl⟩,⟨_,rfl,rfl,rfl⟩,⟨_,rfl,rfl,rfl⟩,⟨_,rfl,rfl,rfl⟩,trivial⟩,⟨⟨_,_,rfl,rfl,rfl,rfl⟩,trivial⟩,by rw [hk]; decide⟩⟩
   ·
    refine ⟨by omega,fun j x hj hx => ?_⟩
    by_cases hji : j < i
    · exact ht j x hji hx
    · obtain rfl : j = i := by omega
      rw [he1] at hx; cases hx; exact c2_
   · omega
  have c1_ := c1
  try simp only [sB] at c1
  refine w_exit ?_
  refine q_then_exit ?_
  refine q_then_exit ?_
  refine q_block_exit ?_
  refine q_then ?_
  refine w_seq ?_
  refine w_R ?_
  refine qa hnt rfl rfl ?_
  refine r_end ?_
  refine q_then ?_
  refine w_le (s := 4) (y := pI (idxI (s.findIdx? fun x => (meetW ⟨sx,vx,px,cx⟩ x)))) rfl (le_of_eq (congrArg (fun z : Int => pI z) (show (-1) = (idxI (s.findIdx? fun x => (meetW ⟨sx,vx,px,cx⟩ x))) by rw [find_none (p := fun x => (meetW ⟨sx,vx,px,cx⟩ x)) (fun j x hj hx => ht j x (by omega) hx)]))) ?_
  refine w_ret ?_
  exact fin_names (nx1 := 1) (H1 := [(0,.obj [pI sx,pI vx,pI px,pI cx])]) [(0,0)] (ret_tmp rfl ret_nil) rfl (by decide) ⟨⟨_,_,rfl,rfl,rfl,rfl⟩,trivial⟩ (by decide) rfl ⟨rfl,rfl,rfl⟩
theorem w_slices_ContainsFunc_api_Window_api_Window_c4 (s : List TWindow) (cl_s : Bool) (sx : Int) (vx : Int) (px : Int) (cx : Int) (hs : s.length ≤ 140737488351232) :
    T Try.prog 77 [pS 4 cl_s eWindow s,PV.clo (.func 78) [PV.ptr 0 0]] 1 [(0,.obj [pI sx,pI vx,pI px,pI cx])] (Ret (pB (s.any fun x => meetW ⟨sx,vx,px,cx⟩ x)) 1 [(0,.obj [pI sx,pI vx,pI px,pI cx])]) := by
 refine t_fun tabOk (n := 9) (rs := [.tmp 4]) Try.func77 rfl rfl rfl rfl (Nat.le_of_ble_eq_true rfl) ?_
 intro c hnt hk
 refine w_seq ?_
 refine w_R ?_
 refine qa hnt rfl rfl ?_
 refine r_end ?_
 refine q_then ?_
 refine w_seq ?_
 refine w_R ?_
 refine qm hnt rfl rfl ?_
 refine qm hnt rfl rfl ?_
 refine qo hnt rfl (s_callX (r2 := pI (idxI (s.findIdx? fun x => (meetW ⟨sx,vx,px,cx⟩ x)))) (nx1 := 1) (H2 := [(0,.obj [pI sx,pI vx,pI px,pI cx])]) (H3 := [(0,.obj [pI sx,pI vx,pI px,pI cx])]) [0] [.obj [pI sx,pI vx,pI px,pI cx]] rfl rfl rfl (handed_of (by decide) ⟨rfl,trivial⟩) rfl rfl rfl rfl rfl rfl (w_slices_IndexFunc_api_Window_api_Window_c4 s cl_s sx vx px cx (by omega)) rfl (dist_of rfl) rfl rfl rfl rfl ?_)
 refine qo hnt rfl (s_geq rfl rfl ?_)
 refine qa hnt rfl rfl ?_
 refine r_set [(4,pB (decide (0 ≤ idxI (s.findIdx? fun x => (meetW ⟨sx,vx,px,cx⟩ x)))))] [(0,.obj [pI sx,pI vx,pI px,pI cx])] 1 ⟨rfl,trivial⟩ rfl rfl ?_
 refine r_end ?_
 refine q_then ?_
 refine w_le (s := 4) (y := pB (s.any fun x => meetW ⟨sx,vx,px,cx⟩ x)) rfl (le_of_eq (congrArg (fun z : Bool => pB z) (show (decide (0 ≤ idxI (s.findIdx? fun x => (meetW ⟨sx,vx,px,cx⟩ x)))) = (s.any fun x => meetW ⟨sx,vx,px,cx⟩ x) by exact any_idx s _))) ?_
 refine w_ret ?_
 exact fin_names (nx1 := 1) (H1 := [(0,.obj [pI sx,pI vx,pI px,pI cx])]) [(0,0)] (ret_tmp rfl ret_nil) rfl (by decide) ⟨⟨_,_,rfl,rfl,rfl,rfl⟩,trivial⟩ (by decide) rfl ⟨rfl,rfl,rfl⟩
theorem w_window_Map (l : List TWindow) (cl_l : Bool) (space : Int) (a : Int) (n : Int) (hl : l.length ≤ 1000) :
    T Try.prog 16 [pS 4 cl_l eWindow l,pI space,pI a,pI n] 0 [] (Ret (PV.tup [pS 3 true ePiece (mapL l space a n),pB (mapOk l space a n)]) 0 []) := by
 refine t_fun tabOk (n := 78) (rs := [.tmp 8,.tmp 9]) Try.func16 rfl rfl rfl rfl (Nat.le_of_ble_eq_true rfl) ?_
 intro c hnt hk
 refine w_seq ?_
 refine w_R ?_
 refine qa hnt rfl rfl ?_
 refine qa hnt rfl rfl ?_
 refine r_end ?_
 refine q_then ?_
 refine w_seq ?_
 refine w_R ?_
 refine qm hnt rfl rfl ?_
 refine qm hnt rfl rfl ?_
 refine qo hnt rfl (s_callX (r2 := PV.ref 0 0 none) (nx1 := 1) (H2 := []) (H3 := [(0,oB true 4 eWindow (ofL l space))]) [] [] rfl rfl rfl (handed_of (by decide) trivial) rfl rfl rfl rfl rfl rfl (w_window_of l cl_l space (by omega)) rfl (dist_of rfl) rfl rfl rfl rfl ?_)
 refine qa hnt rfl rfl ?_
 refine r_set [(2,pI a),(3,pI n),(10,PV.ref 0 0 none)] [(0,oB true 4 eWindow (ofL l space))] 1 ⟨rfl,rfl,rfl,trivial⟩ rfl rfl ?_
 refine r_end ?_
 refine q_then ?_
 refine w_seq ?_
 refine w_R ?_
 refine qa hnt rfl rfl ?_
 refine r_end ?_
 refine q_then ?_
 refine w_seq ?_
 refine w_seq ?_
 have hle := ofL_len l space
 refine w_R ?_
 refine qm hnt rfl rfl ?_
 refine qo hnt rfl (s_lenM (l := ofL l space) tab_22 rfl (hM_ref0 (f := eWindow) rfl rfl) ?_)
 refine qm hnt rfl rfl ?_
 refine r_end ?_
 refine q_then ?_
 refine w_block ?_
 refine w_adopt (s := 11) (sz := 2) rfl ?_
 refine loop2 (fun (os : List TSpan) (i : Nat) => i ≤ (ofL l space).length ∧ os = ((ofL l space).take i).map vSp) (fun (os : List TSpan) (i : Nat) => [(2,pI a),(3,pI n),(10,PV.ref 1 0 none),(11,PV.ref 0 0 none),(23,PV.ref 1 0 none),(24,pN ((ofL l space).length)),(25,pN i)]) 2 (fun (os : List TSpan) (i : Nat) => [(0,oB true 2 eSpan os),(1,oB true 4 eWindow (ofL l space))]) (fun (os : List TSpan) (i : Nat) => (ofL l space).length - i) (([] : List TSpan)) (0) ?_ ⟨[(0,1),(1,0)],by rw [hk]; decide,⟨⟨_,rfl,rfl,rfl⟩,⟨_,rfl,rfl,rfl⟩,⟨_,rfl,rfl,rfl⟩,⟨_,rfl,rfl,rfl⟩,⟨_,rfl,rfl,rfl⟩,⟨_,rfl,rfl,rfl⟩,⟨_,rfl,rfl,rfl⟩,trivial⟩,⟨⟨_,_,rfl,rfl,rfl,rfl⟩,⟨_,_,rfl,rfl,rfl,rfl⟩,trivial⟩,by rw [hk]; decide⟩ ?_
 · exact ⟨by omega,rfl⟩
 ·
  intro os i hI
  obtain ⟨hi,hos⟩ := hI
  have hol : os.length ≤ 1000 := by rw [hos]; simp; omega
  refine w_seq ?_
  refine w_R ?_
  refine qo hnt rfl (s_lss rfl rfl ?_)
  refine r_end ?_
  refine q_then ?_
  refine w_seq ?_
  refine w_if rfl (fun c1 => ?_) (fun c1 => ?_)
  ·
   have c1_ := c1
   try simp only [sB] at c1
   refine w_skip ?_
   refine q_then ?_
   refine w_seq ?_
   refine w_block ?_
   refine w_seq ?_
   refine w_R ?_
   refine qo hnt rfl (s_iaR0 (q := i) (f := eWindow) (l := ofL l space) tab_22 rfl tab_28 rfl rfl (by omega) rfl rfl (by omega) ?_)
   obtain ⟨e1,he1⟩ := get_of_lt (ofL l space) (i := i) (by omega)
   refine qo hnt rfl (s_ldA (b := e1) tab_28 rfl rfl rfl he1 rfl rfl ?_)
   refine qo hnt rfl (s_alloc tab_28 ?_)
   refine qo hnt rfl (s_store_ptr tab_28 rfl rfl rfl rfl rfl (Nat.le_of_ble_eq_true rfl) ?_)
   refine r_set [(2,pI a),(3,pI n),(10,PV.ref 1 0 none),(11,PV.ref 0 0 none),(13,PV.ptr 2 0),(23,PV.ref 1 0 none),(24,pN ((ofL l space).length)),(25,pN i)] [(2,.obj (cWindow e1)),(0,oB true 2 eSpan os),(1,oB true 4 eWindow (ofL l space))] 3 ⟨rfl,rfl,rfl,rfl,rfl,rfl,rfl,rfl,trivial⟩ rfl rfl ?_
   refine r_end ?_
   refine q_then ?_
   refine w_R ?_
   refine qm hnt rfl rfl ?_
   refine qo hnt rfl (s_load_ptr tab_28 rfl rfl rfl (Nat.le_of_ble_eq_true rfl) ?_)
   refine qo hnt rfl (s_callF rfl rfl rfl (w_window_virtual e1) rfl ?_)
   refine qo hnt rfl (s_mkM (f := eSpan) [vSp e1] tab_87 rfl tab_89 ⟨rfl,by decide⟩ (by decide) rfl rfl rfl rfl ?_)
   refine qo hnt rfl (s_appR0 (f := eSpan) (l := os) (xs := [vSp e1]) tab_87 rfl tab_89 ⟨rfl,by decide,by decide⟩ (srcM tab_87 rfl (hM_ref0 (f := eSpan) rfl rfl)) rfl rfl (by (simp; omega)) ?_)
   refine qa hnt rfl rfl ?_
   refine r_set [(2,pI a),(3,pI n),(10,PV.ref 1 0 none),(11,PV.ref 4 0 none),(23,PV.ref 1 0 none),(24,pN ((ofL l space).length)),(25,pN i)] [(4,oB true 2 eSpan (os ++ [vSp e1])),(3,oB true 2 eSpan [vSp e1]),(2,.obj (cWindow e1)),(1,oB true 4 eWindow (ofL l space))] 5 ⟨rfl,rfl,rfl,rfl,rfl,rfl,rfl,trivial⟩ rfl rfl ?_
   refine r_end ?_
   refine q_block ?_
   refine q_then ?_
   refine w_R ?_
   refine qo hnt rfl (s_addN (a := i) (b := 1) rfl rfl (by omega) (by omega) (by omega) ?_)
   refine qm hnt rfl rfl ?_
   refine r_end ?_
   refine q_then ?_
   refine ⟨(os ++ [vSp e1]),(i + 1), ?_, ?_,⟨[(0,4),(1,1)],by rw [hk]; decide,⟨⟨_,rfl,rfl,rfl⟩,⟨_,rfl,rfl,rfl⟩,⟨_,rfl,rfl,rfl⟩,⟨_,rfl,rfl,rfl⟩,⟨_,rfl,rfl,rfl⟩,⟨_,rfl,rfl,rfl⟩,⟨_,rfl,rfl,rfl⟩,trivial⟩,⟨⟨_,_,rfl,rfl,rfl,rfl⟩,⟨_,_,rfl,rfl,rfl,rfl⟩,trivial⟩,by rw [hk]; decide⟩⟩
   ·
    exact ⟨by omega,by rw [hos,List.take_add_one,he1]; simp⟩
   · omega
  have c1_ := c1
  try simp only [sB] at c1
  refine w_exit ?_
  refine q_then_exit ?_
  refine q_then_exit ?_
  refine q_block_exit ?_
  refine q_then ?_
  refine w_seq ?_
  have hie : i = (ofL l space).length := by omega
  refine w_H (H' := [(0,oB true 2 eSpan ((ofL l space).map vSp)),(1,oB true 4 eWindow (ofL l space))]) (congrArg (fun z => ([(0,oB true 2 eSpan z),(1,oB true 4 eWindow (ofL l space))] : Heap)) (show os = ((ofL l space).map vSp) by rw [hos,hie,List.take_length])) ?_
  refine w_R ?_
  refine qm hnt rfl rfl ?_
  refine qm hnt rfl rfl ?_
  refine qm hnt rfl rfl ?_
  refine qo hnt rfl (s_build tab_89 rfl rfl (b_cons rfl tab_3 rfl rfl rfl (Nat.le_of_ble_eq_true rfl) (b_cons rfl tab_3 rfl rfl rfl (Nat.le_of_ble_eq_true rfl) (b_nil ?_))))
  refine qo hnt rfl (s_callX (r2 := PV.tup [pS 2 false eSpan (coverV ((ofL l space).map vSp) (⟨a,n⟩ : TSpan)),pB (coverOk ((ofL l space).map vSp) (⟨a,n⟩ : TSpan))]) (nx1 := 2) (H2 := [(0,oB false 2 eSpan ((ofL l space).map vSp)),(1,oB true 4 eWindow (ofL l space))]) (H3 := [(0,oB false 2 eSpan ((ofL l space).map vSp)),(1,oB true 4 eWindow (ofL l space))]) [] [] rfl rfl rfl (handed_of (by decide) trivial) rfl rfl rfl rfl rfl rfl (w_span_Cover ((ofL l space).map vSp) false (⟨a,n⟩ : TSpan) (by rw [List.length_map]; omega)) rfl (dist_of rfl) rfl rfl rfl rfl ?_)
  refine qm hnt rfl rfl ?_
  refine qo hnt rfl (s_extract rfl rfl ?_)
  refine qo hnt rfl (s_extract rfl rfl ?_)
  refine qa hnt rfl rfl ?_
  refine qa hnt rfl rfl ?_
  refine r_set [(10,PV.ref 1 0 none),(11,PV.ref 0 0 none),(14,pS 2 false eSpan (coverV ((ofL l space).map vSp) (⟨a,n⟩ : TSpan))),(15,pB (coverOk ((ofL l space).map vSp) (⟨a,n⟩ : TSpan)))] [(0,oB false 2 eSpan ((ofL l space).map vSp)),(1,oB true 4 eWindow (ofL l space))] 2 ⟨rfl,rfl,rfl,rfl,trivial⟩ rfl rfl ?_
  refine r_end ?_
  refine q_then ?_
  refine w_seq ?_
  refine w_eq (s := 14) (y := pS 2 false eSpan (covW l space a n)) rfl (congrArg (fun z => pS 2 false eSpan z) (show (coverV ((ofL l space).map vSp) (⟨a,n⟩ : TSpan)) = (covW l space a n) by rfl)) ?_
  refine w_eq (s := 15) (y := pB (mapOk l space a n)) rfl (congrArg (fun z : Bool => pB z) (show (coverOk ((ofL l space).map vSp) (⟨a,n⟩ : TSpan)) = (mapOk l space a n) by rfl)) ?_
  have hcl := covW_len l space a n
  refine w_R ?_
  refine qa hnt rfl rfl ?_
  refine r_end ?_
  refine q_then ?_
  refine w_seq ?_
  refine w_seq ?_
  refine w_R ?_
  refine qm hnt rfl rfl ?_
  refine qo hnt rfl (s_lenM (l := covW l space a n) tab_87 rfl (hM_sl (f := eSpan) rfl) ?_)
  refine qm hnt rfl rfl ?_
  refine r_end ?_
  refine q_then ?_
  refine w_block ?_
  refine w_adopt (s := 16) (sz := 3) rfl ?_
  refine loop2 (fun (os : List TPiece) (j : Nat) => j ≤ (covW l space a n).length ∧ os = ((covW l space a n).take j).map (pieceW (ofL l space))) (fun (os : List TPiece) (j : Nat) => [(10,PV.ref 1 0 none),(11,PV.ref 2 0 none),(15,pB (mapOk l space a n)),(16,PV.ref 0 0 none),(43,pS 2 false eSpan (covW l space a n)),(44,pN ((covW l space a n).length)),(45,pN j)]) 3 (fun (os : List TPiece) (j : Nat) => [(0,oB true 3 ePiece os),(1,oB true 4 eWindow (ofL l space)),(2,oB false 2 eSpan ((ofL l space).map vSp))]) (fun (os : List TPiece) (j : Nat) => (covW l space a n).length - j) (([] : List TPiece)) (0) ?_ ⟨[(0,2),(1,1),(2,0)],by rw [hk]; decide,⟨⟨_,rfl,rfl,rfl⟩,⟨_,rfl,rfl,rfl⟩,⟨_,rfl,rfl,rfl⟩,⟨_,rfl,rfl,rfl⟩,⟨_,rfl,rfl,rfl⟩,⟨_,rfl,rfl,rfl⟩,⟨_,rfl,rfl,rfl⟩,trivial⟩,⟨⟨_,_,rfl,rfl,rfl,rfl⟩,⟨_,_,rfl,rfl,rfl,rfl⟩,⟨_,_,rfl,rfl,rfl,rfl⟩,trivial⟩,by rw [hk]; decide⟩ ?_
  · exact ⟨by omega,rfl⟩
  ·
   intro os j hI
   obtain ⟨hj,hos2⟩ := hI
   have hol : os.length ≤ 2147483648 := by rw [hos2]; simp; omega
   refine w_seq ?_
   refine w_R ?_
   refine qo hnt rfl (s_lss rfl rfl ?_)
   refine r_end ?_
   refine q_then ?_
   refine w_seq ?_
   refine w_if rfl (fun c2 => ?_) (fun c2 => ?_)
   ·
    have c2_ := c2
    try simp only [sB] at c2
    refine w_skip ?_
    refine q_then ?_
    refine w_seq ?_
    refine w_block ?_
    refine w_seq ?_
    refine w_R ?_
    obtain ⟨e2,he2⟩ := get_of_lt (covW l space a n) (i := j) (by omega)
    refine qo hnt rfl (s_iaM (q := j) (b := e2) (f := eSpan) tab_87 rfl tab_89 rfl rfl (by omega) rfl he2 ?_)
    refine qo hnt rfl (s_load_ro tab_89 rfl rfl rfl ?_)
    refine qo hnt rfl (s_alloc tab_89 ?_)
    refine qo hnt rfl (s_store_ptr tab_89 rfl rfl rfl rfl rfl (Nat.le_of_ble_eq_true rfl) ?_)
    refine r_set [(10,PV.ref 1 0 none),(11,PV.ref 2 0 none),(15,pB (mapOk l space a n)),(16,PV.ref 0 0 none),(18,PV.ptr 3 0),(43,pS 2 false eSpan (covW l space a n)),(44,pN ((covW l space a n).length)),(45,pN j)] [(3,.obj (cSpan e2)),(0,oB true 3 ePiece os),(1,oB true 4 eWindow (ofL l space)),(2,oB false 2 eSpan ((ofL l space).map vSp))] 4 ⟨rfl,rfl,rfl,rfl,rfl,rfl,rfl,rfl,trivial⟩ rfl rfl ?_
    refine r_end ?_
    refine q_then ?_
    refine w_seq ?_
    refine w_R ?_
    refine qm hnt rfl rfl ?_
    refine qo hnt rfl (s_makeFunc rfl rfl ?_)
    refine qo hnt rfl (s_callX (r2 := pI (idxI (((ofL l space).map vSp).findIdx? fun x => (spIn ⟨e2.at_,1⟩ x)))) (nx1 := 4) (H2 := [(2,oB false 2 eSpan ((ofL l space).map vSp)),(3,.obj (cSpan e2)),(0,oB true 3 ePiece os),(1,oB true 4 eWindow (ofL l space))]) (H3 := [(3,.obj (cSpan e2)),(2,oB false 2 eSpan ((ofL l space).map vSp)),(0,oB true 3 ePiece os),(1,oB true 4 eWindow (ofL l space))]) [3] [.obj (cSpan e2)] rfl rfl rfl (handed_of (by decide) ⟨rfl,trivial⟩) rfl rfl rfl rfl rfl rfl (w_slices_IndexFunc_span_Span_span_Span_c3 ((ofL l space).map vSp) false e2.at_ e2.count (by rw [List.length_map]; omega)) rfl (dist_of rfl) rfl rfl rfl rfl ?_)
    refine qa hnt rfl rfl ?_
    refine r_set [(10,PV.ref 1 0 none),(11,PV.ref 2 0 none),(15,pB (mapOk l space a n)),(16,PV.ref 0 0 none),(18,PV.ptr 3 0),(19,pI (idxI (((ofL l space).map vSp).findIdx? fun x => (spIn ⟨e2.at_,1⟩ x)))),(43,pS 2 false eSpan (covW l space a n)),(44,pN ((covW l space a n).length)),(45,pN j)] [(3,.obj (cSpan e2)),(2,oB false 2 eSpan ((ofL l space).map vSp)),(0,oB true 3 ePiece os),(1,oB true 4 eWindow (ofL l space))] 4 ⟨rfl,rfl,rfl,rfl,rfl,rfl,rfl,rfl,rfl,trivial⟩ rfl rfl ?_
    refine r_end ?_
    refine q_then ?_
    obtain ⟨ii,w,hw,hfi,hno,hin,hpc,m1,m2,m3,v1,v2,v3,v4,v5⟩ := piece_of (List.mem_of_getElem? he2)
    have hwb := (winR_iff w).1 m1
    have hil := (List.getElem?_eq_some_iff.1 hw).1
    refine w_eq (s := 19) (y := pN ii) rfl (congrArg (fun z : Int => pI z) (show (idxI (((ofL l space).map vSp).findIdx? fun x => (spIn ⟨e2.at_,1⟩ x))) = ((ii : Nat) : Int) by rw [hfi])) ?_
    refine W_drawn tabOk mixed hnt [[],[],[1],[],[],[3,4],[3,4,5],[3,4,5,6],[],[8],[3,4,5,6,7,8,9],[],[],[11,12],[11,12,13],[11,12,13,14],[3,4,5,6,7,8,9,10,11,12,13,14,15],[],[17],[1,2,3,4,5,6,7,8,9,10,11,12,13,14,15,16,17,18],[1,2,3,4,5,6,7,8,9,10,11,12,13,14,15,16,17,18,19],[0,1,2,3,4,5,6,7,8,9,10,11,12,13,14,15,16,17,18,19,20],[0,1,2,3,4,5,6,7,8,9,10,11,12,13,14,15,16,17,18,19,20,21]] (by kernel_rfl) ?_
    refine d_op ?_
    refine x_run0 [(16,PV.ref 0 0 none)] [] rfl rfl rfl rfl (s_move rfl ⟨rfl,rfl,rfl⟩) ?_
    refine d_op ?_
    refine x_run0 [(18,PV.ptr 3 0)] [] rfl rfl rfl rfl (s_fa_ptr tab_89 rfl rfl tab_3 (by decide) rfl ⟨rfl,rfl,rfl⟩) ?_
    refine d_op ?_
    refine xL [(53,PV.ptr 3 0)] [1] [(3,.obj (cSpan e2))] rfl rfl rfl rfl rfl (s_load_ptr1 tab_3 rfl rfl rfl rfl rfl ⟨rfl,rfl,rfl⟩) ⟨rfl,trivial⟩ rfl ?_
    refine d_op ?_
    refine x_run0 [(10,PV.ref 1 0 none)] [] rfl rfl rfl rfl (s_move rfl ⟨rfl,rfl,rfl⟩) ?_
    refine d_op ?_
    refine x_run0 [(19,pN ii)] [] rfl rfl rfl rfl (s_move rfl ⟨rfl,rfl,rfl⟩) ?_
    refine d_op ?_
    refine xL [(55,PV.ref 1 0 none),(56,pN ii)] [3,4] [(1,oB true 4 eWindow (ofL l space))] rfl rfl rfl rfl rfl (s_iaR0 (q := ii) (f := eWindow) (l := ofL l space) tab_22 rfl tab_28 rfl rfl (by omega) rfl rfl (by omega) ⟨rfl,rfl,rfl⟩) ⟨rfl,trivial⟩ rfl ?_
    refine d_op ?_
    refine x_run0 [(57,PV.ep 1 ii 0)] [3,4,5] rfl rfl rfl rfl (s_fa_ep tab_28 rfl rfl tab_3 (by decide) rfl ⟨rfl,rfl,rfl⟩) ?_
    refine d_op ?_
    refine xL [(58,PV.ep 1 ii 2)] [3,4,5,6] [(1,oB true 4 eWindow (ofL l space))] rfl rfl rfl rfl rfl (s_ldM (b := w) (f := eWindow) tab_3 rfl rfl rfl rfl hw rfl ⟨rfl,rfl,rfl⟩) ⟨rfl,trivial⟩ rfl ?_
    refine d_op ?_
    refine x_run0 [(18,PV.ptr 3 0)] [] rfl rfl rfl rfl (s_fa_ptr tab_89 rfl rfl tab_3 (by decide) rfl ⟨rfl,rfl,rfl⟩) ?_
    refine d_op ?_
    refine xL [(60,PV.ptr 3 0)] [8] [(3,.obj (cSpan e2))] rfl rfl rfl rfl rfl (s_load_ptr1 tab_3 rfl rfl rfl rfl rfl ⟨rfl,rfl,rfl⟩) ⟨rfl,trivial⟩ rfl ?_
    refine d_op ?_
    refine x_run0 [(59,pI w.physical),(61,pI e2.at_)] [3,4,5,6,7,8,9] rfl rfl rfl rfl (s_addi (r := w.physical + e2.at_) rfl rfl rfl (by omega) ⟨rfl,rfl,rfl⟩) ?_
    refine d_op ?_
    refine x_run0 [(10,PV.ref 1 0 none)] [] rfl rfl rfl rfl (s_move rfl ⟨rfl,rfl,rfl⟩) ?_
    refine d_op ?_
    refine x_run0 [(19,pN ii)] [] rfl rfl rfl rfl (s_move rfl ⟨rfl,rfl,rfl⟩) ?_
    refine d_op ?_
    refine xL [(63,PV.ref 1 0 none),(64,pN ii)] [11,12] [(1,oB true 4 eWindow (ofL l space))] rfl rfl rfl rfl rfl (s_iaR0 (q := ii) (f := eWindow) (l := ofL l space) tab_22 rfl tab_28 rfl rfl (by omega) rfl rfl (by omega) ⟨rfl,rfl,rfl⟩) ⟨rfl,trivial⟩ rfl ?_
    refine d_op ?_
    refine x_run0 [(65,PV.ep 1 ii 0)] [11,12,13] rfl rfl rfl rfl (s_fa_ep tab_28 rfl rfl tab_3 (by decide) rfl ⟨rfl,rfl,rfl⟩) ?_
    refine d_op ?_
    refine xL [(66,PV.ep 1 ii 1)] [11,12,13,14] [(1,oB true 4 eWindow (ofL l space))] rfl rfl rfl rfl rfl (s_ldM (b := w) (f := eWindow) tab_3 rfl rfl rfl rfl hw rfl ⟨rfl,rfl,rfl⟩) ⟨rfl,trivial⟩ rfl ?_
    refine d_op ?_
    refine x_run0 [(62,pI (w.physical + e2.at_)),(67,pI w.virtual)] [3,4,5,6,7,8,9,10,11,12,13,14,15] rfl rfl rfl rfl (s_subi (r := (w.physical + e2.at_) - w.virtual) rfl rfl rfl (by omega) ⟨rfl,rfl,rfl⟩) ?_
    refine d_op ?_
    refine x_run0 [(18,PV.ptr 3 0)] [] rfl rfl rfl rfl (s_fa_ptr tab_89 rfl rfl tab_3 (by decide) rfl ⟨rfl,rfl,rfl⟩) ?_
    refine d_op ?_
    refine xL [(69,PV.ptr 3 1)] [17] [(3,.obj (cSpan e2))] rfl rfl rfl rfl rfl (s_load_ptr1 tab_3 rfl rfl rfl rfl rfl ⟨rfl,rfl,rfl⟩) ⟨rfl,trivial⟩ rfl ?_
    refine d_op ?_
    refine x_run0 [(54,pI e2.at_),(68,pI ((w.physical + e2.at_) - w.virtual)),(70,pI e2.count)] [1,2,3,4,5,6,7,8,9,10,11,12,13,14,15,16,17,18] rfl rfl rfl rfl (s_build tab_36 rfl rfl (b_cons rfl tab_3 rfl rfl rfl (Nat.le_of_ble_eq_true rfl) (b_cons rfl tab_3 rfl rfl rfl (Nat.le_of_ble_eq_true rfl) (b_cons rfl tab_3 rfl rfl rfl (Nat.le_of_ble_eq_true rfl) (b_nilN (cs' := [pI e2.at_,pI ((w.physical + e2.at_) - w.virtual),pI e2.count]) rfl ⟨rfl,rfl,rfl⟩))))) ?_
    refine d_op ?_
    refine xT [(71,PV.f (.agg [encI e2.at_,encI ((w.physical + e2.at_) - w.virtual),encI e2.count]))] [1,2,3,4,5,6,7,8,9,10,11,12,13,14,15,16,17,18,19] [] [(4,oB true 3 ePiece [(⟨e2.at_,(w.physical + e2.at_) - w.virtual,e2.count⟩ : TPiece)])] [(3,.obj (cSpan e2)),(2,oB false 2 eSpan ((ofL l space).map vSp)),(0,oB true 3 ePiece os),(1,oB true 4 eWindow (ofL l space))] rfl rfl rfl rfl rfl (s_mkM (f := ePiece) [(⟨e2.at_,(w.physical + e2.at_) - w.virtual,e2.count⟩ : TPiece)] tab_32 rfl tab_36 ⟨rfl,by decide⟩ (by decide) rfl rfl rfl rfl ⟨rfl,rfl,rfl⟩) rfl rfl ?_
    refine d_op ?_
    refine x_run [(52,PV.ref 0 0 none),(72,PV.ref 4 0 none)] [0,1,2,3,4,5,6,7,8,9,10,11,12,13,14,15,16,17,18,19,20] [(4,oB true 3 ePiece [(⟨e2.at_,(w.physical + e2.at_) - w.virtual,e2.count⟩ : TPiece)])] [(0,oB true 3 ePiece os)] [(5,oB true 3 ePiece (os ++ [(⟨e2.at_,(w.physical + e2.at_) - w.virtual,e2.count⟩ : TPiece)])),(4,oB true 3 ePiece [(⟨e2.at_,(w.physical + e2.at_) - w.virtual,e2.count⟩ : TPiece)])] [(5,oB true 3 ePiece (os ++ [(⟨e2.at_,(w.physical + e2.at_) - w.virtual,e2.count⟩ : TPiece)]))] [(5,oB true 3 ePiece (os ++ [(⟨e2.at_,(w.physical + e2.at_) - w.virtual,e2.count⟩ : TPiece)])),(4,oB true 3 ePiece [(⟨e2.at_,(w.physical + e2.at_) - w.virtual,e2.count⟩ : TPiece)]),(3,.obj (cSpan e2)),(2,oB false 2 eSpan ((ofL l space).map vSp)),(1,oB true 4 eWindow (ofL l space))] rfl rfl rfl rfl rfl rfl (s_appR0 (f := ePiece) (l := os) (xs := [(⟨e2.at_,(w.physical + e2.at_) - w.virtual,e2.count⟩ : TPiece)]) tab_32 rfl tab_36 ⟨rfl,by decide,by decide⟩ (srcM tab_32 rfl (hM_ref0 (f := ePiece) rfl rfl)) rfl rfl (by (simp; omega)) ⟨rfl,rfl,rfl⟩) rfl ⟨rfl,trivial⟩ rfl rfl ?_
    refine d_op ?_
    refine x_run0 [(73,PV.ref 5 0 none)] [0,1,2,3,4,5,6,7,8,9,10,11,12,13,14,15,16,17,18,19,20,21] rfl rfl rfl rfl (s_assign rfl ⟨rfl,rfl,rfl⟩) ?_
    refine d_end ⟨by kernel_rfl, ?_⟩
    refine q_block ?_
    refine q_then ?_
    refine w_R ?_
    refine qo hnt rfl (s_addN (a := j) (b := 1) rfl rfl (by omega) (by omega) (by omega) ?_)
    refine qm hnt rfl rfl ?_
    refine r_end ?_
    refine q_then ?_
    refine ⟨(os ++ [(⟨e2.at_,(w.physical + e2.at_) - w.virtual,e2.count⟩ : TPiece)]),(j + 1), ?_, ?_,⟨[(0,5),(1,1),(2,2)],by rw [hk]; decide,⟨⟨_,rfl,rfl,rfl⟩,⟨_,rfl,rfl,rfl⟩,⟨_,rfl,rfl,rfl⟩,⟨_,rfl,rfl,rfl⟩,⟨_,rfl,rfl,rfl⟩,⟨_,rfl,rfl,rfl⟩,⟨_,rfl,rfl,rfl⟩,trivial⟩,⟨⟨_,_,rfl,rfl,rfl,rfl⟩,⟨_,_,rfl,rfl,rfl,rfl⟩,⟨_,_,rfl,rfl,rfl,rfl⟩,trivial⟩,by rw [hk]; decide⟩⟩
    ·
     exact ⟨by omega,by rw [hos2,List.take_add_one,he2]; simp [hpc]⟩
    · omega
   have c2_ := c2
   try simp only [sB] at c2
   refine w_exit ?_
   refine q_then_exit ?_
   refine q_then_exit ?_
   refine q_block_exit ?_
   refine q_then ?_
   refine w_seq ?_
   have hje : j = (covW l space a n).length := by omega
   refine w_H (H' := [(0,oB true 3 ePiece (mapL l space a n)),(1,oB true 4 eWindow (ofL l space)),(2,oB false 2 eSpan ((ofL l space).map vSp))]) (congrArg (fun z => ([(0,oB true 3 ePiece z),(1,oB true 4 eWindow (ofL l space)),(2,oB false 2 eSpan ((ofL l space).map vSp))] : Heap)) (show os = (mapL l space a n) by rw [hos2,hje,List.take_length]; rfl)) ?_
   refine w_R ?_
   refine qm hnt rfl rfl ?_
   refine qo hnt rfl (s_callX (r2 := pS 3 true ePiece (mapL l space a n)) (nx1 := 3) (H2 := [(0,oB false 3 ePiece (mapL l space a n)),(1,oB true 4 eWindow (ofL l space)),(2,oB false 2 eSpan ((ofL l space).map vSp))]) (H3 := [(0,oB false 3 ePiece (mapL l space a n)),(1,oB true 4 eWindow (ofL l space)),(2,oB false 2 eSpan ((ofL l space).map vSp))]) [] [] rfl rfl rfl (handed_of (by decide) trivial) rfl rfl rfl rfl rfl rfl (w_slices_Clip_window_Piece_window_Piece (mapL l space a n) false) rfl (dist_of rfl) rfl rfl rfl rfl ?_)
   refine qm hnt rfl rfl ?_
   refine qa hnt rfl rfl ?_
   refine qa hnt rfl rfl ?_
   refine r_set [(8,pS 3 true ePiece (mapL l space a n)),(9,pB (mapOk l space a n))] [(0,oB false 3 ePiece (mapL l space a n)),(1,oB true 4 eWindow (ofL l space)),(2,oB false 2 eSpan ((ofL l space).map vSp))] 3 ⟨rfl,rfl,trivial⟩ rfl rfl ?_
   refine r_end ?_
   refine q_then ?_
   refine w_le (s := 8) (y := pS 3 true ePiece (mapL l space a n)) rfl (le_of_eq (congrArg (fun z => pS 3 true ePiece z) (show (mapL l space a n) = (mapL l space a n) by rfl))) ?_
   refine w_ret ?_
   exact fin_plain (ret_tmp rfl (ret_tmp rfl ret_nil)) rfl rfl ⟨rfl,rfl,rfl⟩
theorem w_burgageref7_Map (l : List TWindow) (cl_l : Bool) (space : Int) (a : Int) (n : Int) (hl : l.length ≤ 1000) :
    T Try.prog 35 [pS 4 cl_l eWindow l,pI space,pI a,pI n] 0 [] (Ret (PV.tup [pS 3 false ePiece (mapL l space a n),pB (mapOk l space a n)]) 0 []) := by
 refine t_fun tabOk (n := 96) (rs := [.tmp 8,.tmp 9]) Try.func35 rfl rfl rfl rfl (Nat.le_of_ble_eq_true rfl) ?_
 intro c hnt hk
 refine w_seq ?_
 refine w_R ?_
 refine qa hnt rfl rfl ?_
 refine qa hnt rfl rfl ?_
 refine r_end ?_
 refine q_then ?_
 refine w_seq ?_
 refine w_R ?_
 refine qa hnt rfl rfl ?_
 refine r_end ?_
 refine q_then ?_
 refine w_seq ?_
 refine w_R ?_
 refine qa hnt rfl rfl ?_
 refine r_end ?_
 refine q_then ?_
 refine w_seq ?_
 refine w_seq ?_
 refine w_R ?_
 refine qm hnt rfl rfl ?_
 refine qo hnt rfl (s_lenM (l := l) tab_22 rfl (hM_sl (f := eWindow) rfl) ?_)
 refine qm hnt rfl rfl ?_
 refine r_end ?_
 refine q_then ?_
 refine w_block ?_
 refine w_adopt (s := 10) (sz := 2) rfl ?_
 refine w_adopt (s := 11) (sz := 4) rfl ?_
 refine loop3 (fun (ss : List TSpan) (ws : List TWindow) (i : Nat) => i ≤ l.length ∧ ws = ofL (l.take i) space ∧ ss = (ofL (l.take i) space).map vSp) (fun (ss : List TSpan) (ws : List TWindow) (i : Nat) => [(1,pI space),(2,pI a),(3,pI n),(10,PV.ref 0 0 none),(11,PV.ref 1 0 none),(21,pS 4 cl_l eWindow l),(22,pN l.length),(23,pN i)]) 2 (fun (ss : List TSpan) (ws : List TWindow) (i : Nat) => [(0,oB true 2 eSpan ss),(1,oB true 4 eWindow ws)]) (fun (ss : List TSpan) (ws : List TWindow) (i : Nat) => l.length - i) (([] : List TSpan)) (([] : List TWindow)) (0) ?_ ⟨[(0,0),(1,1)],by rw [hk]; decide,⟨⟨_,rfl,rfl,rfl⟩,⟨_,rfl,rfl,rfl⟩,⟨_,rfl,rfl,rfl⟩,⟨_,rfl,rfl,rfl⟩,⟨_,rfl,rfl,rfl⟩,⟨_,rfl,rfl,rfl⟩,⟨_,rfl,rfl,rfl⟩,⟨_,rfl,rfl,rfl⟩,trivial⟩,⟨⟨_,_,rfl,rfl,rfl,rfl⟩,⟨_,_,rfl,rfl,rfl,rfl⟩,trivial⟩,by rw [hk]; decide⟩ ?_
 · exact ⟨by omega,rfl,rfl⟩
 ·
  intro ss ws i hI
  obtain ⟨hi,hws,hss⟩ := hI
  have hol := Nat.le_trans (ofL_len (l.take i) space) (show (l.take i).length ≤ 1000 by simp; omega)
  have hol1 : ws.length ≤ 1000 := by rw [hws]; exact hol
  have hol2 : ss.length ≤ 1000 := by rw [hss]; simp; omega
  refine w_seq ?_
  refine w_R ?_
  refine qo hnt rfl (s_lss rfl rfl ?_)
  refine r_end ?_
  refine q_then ?_
  refine w_seq ?_
  refine w_if rfl (fun c1 => ?_) (fun c1 => ?_)
  ·
   have c1_ := c1
   try simp only [sB] at c1
   refine w_skip ?_
   refine q_then ?_
   refine w_seq ?_
   refine w_block ?_
   refine w_seq ?_
   refine w_R ?_
   obtain ⟨e1,he1⟩ := get_of_lt l (i := i) (by omega)
   refine qo hnt rfl (s_iaM (q := i) (b := e1) (f := eWindow) tab_22 rfl tab_28 rfl rfl (by omega) rfl he1 ?_)
   refine qo hnt rfl (s_load_ro tab_28 rfl rfl rfl ?_)
   refine qo hnt rfl (s_alloc tab_28 ?_)
   refine qo hnt rfl (s_store_ptr tab_28 rfl rfl rfl rfl rfl (Nat.le_of_ble_eq_true rfl) ?_)
   refine r_set [(1,pI space),(2,pI a),(3,pI n),(10,PV.ref 0 0 none),(11,PV.ref 1 0 none),(13,PV.ptr 2 0),(21,pS 4 cl_l eWindow l),(22,pN l.length),(23,pN i)] [(2,.obj (cWindow e1)),(0,oB true 2 eSpan ss),(1,oB true 4 eWindow ws)] 3 ⟨rfl,rfl,rfl,rfl,rfl,rfl,rfl,rfl,rfl,trivial⟩ rfl rfl ?_
   refine r_end ?_
   refine q_then ?_
   refine w_seq ?_
   refine w_R ?_
   refine qo hnt rfl (s_load_ptr tab_28 rfl rfl rfl (Nat.le_of_ble_eq_true rfl) ?_)
   refine qo hnt rfl (s_callF rfl rfl rfl (w_burgageref7_Window e1) rfl ?_)
   refine qm hnt rfl rfl ?_
   refine r_cut0 5 [(1,pI space),(2,pI a),(3,pI n),(10,PV.ref 0 0 none),(11,PV.ref 1 0 none),(13,PV.ptr 2 0),(21,pS 4 cl_l eWindow l),(22,pN l.length),(23,pN i),(34,pB ((winR e1) && (decide (e1.space = space))))] ?_ ?_
   ·
    refine r_if tabOk hnt rfl rfl rfl (fun g1 => ?_) (fun g1 => ?_)
    ·
     have g1' := g1
     try simp only [sB] at g1'
     refine qo hnt rfl (s_fa_ptr tab_28 rfl rfl tab_3 (by decide) rfl ?_)
     refine ry hnt rfl rfl rfl g1 ?_
     refine qo hnt rfl (s_load_ptr1 tab_3 rfl rfl rfl rfl rfl ?_)
     refine ry hnt rfl rfl rfl g1 ?_
     refine qm hnt rfl rfl ?_
     refine ry hnt rfl rfl rfl g1 ?_
     refine qo hnt rfl (s_eql rfl rfl ?_)
     refine qo hnt rfl (s_pick_t rfl g1 rfl ?_)
     refine r_eq (s := 34) (y := pB ((winR e1) && (decide (e1.space = space)))) rfl (mix_at g1) ?_
     exact r_mid ⟨⟨rfl,rfl,rfl,rfl,rfl,rfl,rfl,rfl,rfl,rfl,trivial⟩,rfl,rfl⟩
    ·
     have g1' := g1
     try simp only [sB] at g1'
     refine rn hnt rfl rfl rfl g1 ?_
     refine rn hnt rfl rfl rfl g1 ?_
     refine rn hnt rfl rfl rfl g1 ?_
     refine qo hnt rfl (s_pick_f rfl g1 rfl ?_)
     refine r_eq (s := 34) (y := pB ((winR e1) && (decide (e1.space = space)))) rfl (mix_af _ g1) ?_
     exact r_mid ⟨⟨rfl,rfl,rfl,rfl,rfl,rfl,rfl,rfl,rfl,rfl,trivial⟩,rfl,rfl⟩
   ·
    refine r_end ?_
    refine q_then ?_
    refine w_if rfl (fun c2 => ?_) (fun c2 => ?_)
    ·
     have c2_ := c2
     try simp only [sB] at c2
     refine W_drawn tabOk mixed hnt [[],[],[1],[],[3],[1,2,3,4],[1,2,3,4,5],[0,1,2,3,4,5,6],[],[],[9],[0,1,2,3,4,5,6,7,8,9,10],[0,1,2,3,4,5,6,7,8,9,10,11],[0,1,2,3,4,5,6,7,8,9,10,11,12]] (by kernel_rfl) ?_
     refine d_op ?_
     refine x_run0 [(10,PV.ref 0 0 none)] [] rfl rfl rfl rfl (s_move rfl ⟨rfl,rfl,rfl⟩) ?_
     refine d_op ?_
     refine x_run0 [(13,PV.ptr 2 0)] [] rfl rfl rfl rfl (s_fa_ptr tab_28 rfl rfl tab_3 (by decide) rfl ⟨rfl,rfl,rfl⟩) ?_
     refine d_op ?_
     refine xL [(36,PV.ptr 2 1)] [1] [(2,.obj (cWindow e1))] rfl rfl rfl rfl rfl (s_load_ptr1 tab_3 rfl rfl rfl rfl rfl ⟨rfl,rfl,rfl⟩) ⟨rfl,trivial⟩ rfl ?_
     refine d_op ?_
     refine x_run0 [(13,PV.ptr 2 0)] [] rfl rfl rfl rfl (s_fa_ptr tab_28 rfl rfl tab_3 (by decide) rfl ⟨rfl,rfl,rfl⟩) ?_
     refine d_op ?_
     refine xL [(38,PV.ptr 2 3)] [3] [(2,.obj (cWindow e1))] rfl rfl rfl rfl rfl (s_load_ptr1 tab_3 rfl rfl rfl rfl rfl ⟨rfl,rfl,rfl⟩) ⟨rfl,trivial⟩ rfl ?_
     refine d_op ?_
     refine x_run0 [(37,pI e1.virtual),(39,pI e1.count)] [1,2,3,4] rfl rfl rfl rfl (s_build tab_119 rfl rfl (b_cons rfl tab_3 rfl rfl rfl (Nat.le_of_ble_eq_true rfl) (b_cons rfl tab_3 rfl rfl rfl (Nat.le_of_ble_eq_true rfl) (b_nil ⟨rfl,rfl,rfl⟩)))) ?_
     refine d_op ?_
     refine xT [(40,PV.f (.agg [encI e1.virtual,encI e1.count]))] [1,2,3,4,5] [] [(3,oB true 2 eSpan [(⟨e1.virtual,e1.count⟩ : TSpan)])] [(2,.obj (cWindow e1)),(0,oB true 2 eSpan ss),(1,oB true 4 eWindow ws)] rfl rfl rfl rfl rfl (s_mkM (f := eSpan) [(⟨e1.virtual,e1.count⟩ : TSpan)] tab_118 rfl tab_119 ⟨rfl,by decide⟩ (by decide) rfl rfl rfl rfl ⟨rfl,rfl,rfl⟩) rfl rfl ?_
     refine d_op ?_
     refine x_run [(35,PV.ref 0 0 none),(41,PV.ref 3 0 none)] [0,1,2,3,4,5,6] [(3,oB true 2 eSpan [(⟨e1.virtual,e1.count⟩ : TSpan)])] [(0,oB true 2 eSpan ss)] [(4,oB true 2 eSpan (ss ++ [(⟨e1.virtual,e1.count⟩ : TSpan)])),(3,oB true 2 eSpan [(⟨e1.virtual,e1.count⟩ : TSpan)])] [(4,oB true 2 eSpan (ss ++ [(⟨e1.virtual,e1.count⟩ : TSpan)]))] [(4,oB true 2 eSpan (ss ++ [(⟨e1.virtual,e1.count⟩ : TSpan)])),(3,oB true 2 eSpan [(⟨e1.virtual,e1.count⟩ : TSpan)]),(2,.obj (cWindow e1)),(1,oB true 4 eWindow ws)] rfl rfl rfl rfl rfl rfl (s_appR0 (f := eSpan) (l := ss) (xs := [(⟨e1.virtual,e1.count⟩ : TSpan)]) tab_118 rfl tab_119 ⟨rfl,by decide,by decide⟩ (srcM tab_118 rfl (hM_ref0 (f := eSpan) rfl rfl)) rfl rfl (by (simp; omega)) ⟨rfl,rfl,rfl⟩) rfl ⟨rfl,trivial⟩ rfl rfl ?_
     refine d_op ?_
     refine x_run0 [(11,PV.ref 1 0 none)] [] rfl rfl rfl rfl (s_move rfl ⟨rfl,rfl,rfl⟩) ?_
     refine d_op ?_
     refine xL [(13,PV.ptr 2 0)] [] [(2,.obj (cWindow e1))] rfl rfl rfl rfl rfl (s_load_ptr tab_28 rfl rfl rfl (Nat.le_of_ble_eq_true rfl) ⟨rfl,rfl,rfl⟩) ⟨rfl,trivial⟩ rfl ?_
     refine d_op ?_
     refine xT [(44,PV.f (eWindow e1))] [9] [] [(5,oB true 4 eWindow [e1])] [(4,oB true 2 eSpan (ss ++ [(⟨e1.virtual,e1.count⟩ : TSpan)])),(3,oB true 2 eSpan [(⟨e1.virtual,e1.count⟩ : TSpan)]),(2,.obj (cWindow e1)),(1,oB true 4 eWindow ws)] rfl rfl rfl rfl rfl (s_mkM (f := eWindow) [e1] tab_22 rfl tab_28 ⟨rfl,by decide⟩ (by decide) rfl rfl rfl rfl ⟨rfl,rfl,rfl⟩) rfl rfl ?_
     refine d_op ?_
     refine x_run [(43,PV.ref 1 0 none),(45,PV.ref 5 0 none)] [0,1,2,3,4,5,6,7,8,9,10] [(5,oB true 4 eWindow [e1])] [(1,oB true 4 eWindow ws)] [(6,oB true 4 eWindow (ws ++ [e1])),(5,oB true 4 eWindow [e1])] [(6,oB true 4 eWindow (ws ++ [e1]))] [(6,oB true 4 eWindow (ws ++ [e1])),(5,oB true 4 eWindow [e1]),(4,oB true 2 eSpan (ss ++ [(⟨e1.virtual,e1.count⟩ : TSpan)])),(3,oB true 2 eSpan [(⟨e1.virtual,e1.count⟩ : TSpan)]),(2,.obj (cWindow e1))] rfl rfl rfl rfl rfl rfl (s_appR0 (f := eWindow) (l := ws) (xs := [e1]) tab_22 rfl tab_28 ⟨rfl,by decide,by decide⟩ (srcM tab_22 rfl (hM_ref0 (f := eWindow) rfl rfl)) rfl rfl (by (simp; omega)) ⟨rfl,rfl,rfl⟩) rfl ⟨rfl,trivial⟩ rfl rfl ?_
     refine d_op ?_
     refine x_run0 [(42,PV.ref 4 0 none)] [0,1,2,3,4,5,6,7,8,9,10,11] rfl rfl rfl rfl (s_assign rfl ⟨rfl,rfl,rfl⟩) ?_
     refine d_op ?_
     refine x_run0 [(46,PV.ref 6 0 none)] [0,1,2,3,4,5,6,7,8,9,10,11,12] rfl rfl rfl rfl (s_assign rfl ⟨rfl,rfl,rfl⟩) ?_
     refine d_end ⟨by kernel_rfl, ?_⟩
     refine q_block ?_
     refine q_then ?_
     refine w_R ?_
     refine qo hnt rfl (s_addN (a := i) (b := 1) rfl rfl (by omega) (by omega) (by omega) ?_)
     refine qm hnt rfl rfl ?_
     refine r_end ?_
     refine q_then ?_
     refine ⟨(ss ++ [(⟨e1.virtual,e1.count⟩ : TSpan)]),(ws ++ [e1]),(i + 1), ?_, ?_,⟨[(0,4),(1,6)],by rw [hk]; decide,⟨⟨_,rfl,rfl,rfl⟩,⟨_,rfl,rfl,rfl⟩,⟨_,rfl,rfl,rfl⟩,⟨_,rfl,rfl,rfl⟩,⟨_,rfl,rfl,rfl⟩,⟨_,rfl,rfl,rfl⟩,⟨_,rfl,rfl,rfl⟩,⟨_,rfl,rfl,rfl⟩,trivial⟩,⟨⟨_,_,rfl,rfl,rfl,rfl⟩,⟨_,_,rfl,rfl,rfl,rfl⟩,trivial⟩,by rw [hk]; decide⟩⟩
     ·
      (exact ⟨by omega,by rw [hws]; exact of_snoc_t he1 c2_,by rw [hss,← of_snoc_t he1 c2_,List.map_append]; rfl⟩)
     · omega
    have c2_ := c2
    try simp only [sB] at c2
    refine w_skip ?_
    refine q_block ?_
    refine q_then ?_
    refine w_R ?_
    refine qo hnt rfl (s_addN (a := i) (b := 1) rfl rfl (by omega) (by omega) (by omega) ?_)
    refine qm hnt rfl rfl ?_
    refine r_end ?_
    refine q_then ?_
    refine ⟨(ss),(ws),(i + 1), ?_, ?_,⟨[(0,0),(1,1)],by rw [hk]; decide,⟨⟨_,rfl,rfl,rfl⟩,⟨_,rfl,rfl,rfl⟩,⟨_,rfl,rfl,rfl⟩,⟨_,rfl,rfl,rfl⟩,⟨_,rfl,rfl,rfl⟩,⟨_,rfl,rfl,rfl⟩,⟨_,rfl,rfl,rfl⟩,⟨_,rfl,rfl,rfl⟩,trivial⟩,⟨⟨_,_,rfl,rfl,rfl,rfl⟩,⟨_,_,rfl,rfl,rfl,rfl⟩,trivial⟩,by rw [hk]; decide⟩⟩
    ·
     (exact ⟨by omega,by rw [hws]; exact of_snoc_f he1 c2_,by rw [hss,of_snoc_f he1 c2_]⟩)
    · omega
  have c1_ := c1
  try simp only [sB] at c1
  refine w_exit ?_
  refine q_then_exit ?_
  refine q_then_exit ?_
  refine q_block_exit ?_
  refine q_then ?_
  refine w_seq ?_
  have hie : ofL (l.take i) space = ofL l space := by rw [List.take_of_length_le (by omega)]
  refine w_H (H' := [(0,oB true 2 eSpan ((ofL l space).map vSp)),(1,oB true 4 eWindow ws)]) (congrArg (fun z => ([(0,oB true 2 eSpan z),(1,oB true 4 eWindow ws)] : Heap)) (show ss = ((ofL l space).map vSp) by rw [hss,hie])) ?_
  refine w_H (H' := [(0,oB true 2 eSpan ((ofL l space).map vSp)),(1,oB true 4 eWindow (ofL l space))]) (congrArg (fun z => ([(0,oB true 2 eSpan ((ofL l space).map vSp)),(1,oB true 4 eWindow z)] : Heap)) (show ws = (ofL l space) by rw [hws,hie])) ?_
  have hle := ofL_len l space
  refine w_R ?_
  refine qm hnt rfl rfl ?_
  refine qm hnt rfl rfl ?_
  refine qm hnt rfl rfl ?_
  refine qo hnt rfl (s_build tab_119 rfl rfl (b_cons rfl tab_3 rfl rfl rfl (Nat.le_of_ble_eq_true rfl) (b_cons rfl tab_3 rfl rfl rfl (Nat.le_of_ble_eq_true rfl) (b_nil ?_))))
  refine qo hnt rfl (s_callX (r2 := PV.tup [pS 2 false eSpan (coverV ((ofL l space).map vSp) (⟨a,n⟩ : TSpan)),pB (coverOk ((ofL l space).map vSp) (⟨a,n⟩ : TSpan))]) (nx1 := 2) (H2 := [(0,oB false 2 eSpan ((ofL l space).map vSp)),(1,oB true 4 eWindow (ofL l space))]) (H3 := [(0,oB false 2 eSpan ((ofL l space).map vSp)),(1,oB true 4 eWindow (ofL l space))]) [] [] rfl rfl rfl (handed_of (by decide) trivial) rfl rfl rfl rfl rfl rfl (w_burgageref7_Cover ((ofL l space).map vSp) false (⟨a,n⟩ : TSpan) (by rw [List.length_map]; omega)) rfl (dist_of rfl) rfl rfl rfl rfl ?_)
  refine qm hnt rfl rfl ?_
  refine qo hnt rfl (s_extract rfl rfl ?_)
  refine qo hnt rfl (s_extract rfl rfl ?_)
  refine qa hnt rfl rfl ?_
  refine qa hnt rfl rfl ?_
  refine r_set [(11,PV.ref 1 0 none),(14,pS 2 false eSpan (coverV ((ofL l space).map vSp) (⟨a,n⟩ : TSpan))),(15,pB (coverOk ((ofL l space).map vSp) (⟨a,n⟩ : TSpan)))] [(0,oB false 2 eSpan ((ofL l space).map vSp)),(1,oB true 4 eWindow (ofL l space))] 2 ⟨rfl,rfl,rfl,trivial⟩ rfl rfl ?_
  refine r_end ?_
  refine q_then ?_
  refine w_seq ?_
  refine w_seq ?_
  refine w_eq (s := 14) (y := pS 2 false eSpan (covW l space a n)) rfl (congrArg (fun z => pS 2 false eSpan z) (show (coverV ((ofL l space).map vSp) (⟨a,n⟩ : TSpan)) = (covW l space a n) by rfl)) ?_
  refine w_eq (s := 15) (y := pB (mapOk l space a n)) rfl (congrArg (fun z : Bool => pB z) (show (coverOk ((ofL l space).map vSp) (⟨a,n⟩ : TSpan)) = (mapOk l space a n) by rfl)) ?_
  have hcl := covW_len l space a n
  refine w_R ?_
  refine qm hnt rfl rfl ?_
  refine qo hnt rfl (s_not rfl ?_)
  refine r_end ?_
  refine q_then ?_
  refine w_if rfl (fun c3 => ?_) (fun c3 => ?_)
  ·
   have c3_ := c3
   try simp only [sB] at c3
   have hmo : mapOk l space a n = false := by simpa using c3_
   have hml : mapL l space a n = [] := by unfold mapL covW coverV; unfold mapOk coverOk at hmo; rw [Option.isSome_eq_false_iff,Option.isNone_iff_eq_none] at hmo; rw [hmo]; rfl
   refine w_seq ?_
   refine w_R ?_
   refine qa hnt rfl rfl ?_
   refine qa hnt rfl rfl ?_
   refine r_end ?_
   refine q_then ?_
   refine w_le (s := 8) (y := pS 3 false ePiece []) rfl (le_nilS 3 false) ?_
   refine w_le (s := 8) (y := pS 3 false ePiece (mapL l space a n)) rfl (le_of_eq (congrArg (fun z => pS 3 false ePiece z) (show ([] : List TPiece) = (mapL l space a n) by exact hml.symm))) ?_
   refine w_le (s := 9) (y := pB (mapOk l space a n)) rfl (le_of_eq (congrArg (fun z : Bool => pB z) (show false = (mapOk l space a n) by exact hmo.symm))) ?_
   refine w_ret ?_
   refine q_then_ret ?_
   exact fin_plain (ret_tmp rfl (ret_tmp rfl ret_nil)) rfl rfl ⟨rfl,rfl,rfl⟩
  have c3_ := c3
  try simp only [sB] at c3
  have hmo : mapOk l space a n = true := by simpa using c3_
  refine w_skip ?_
  refine q_then ?_
  refine w_seq ?_
  refine w_R ?_
  refine qa hnt rfl rfl ?_
  refine r_end ?_
  refine q_then ?_
  refine w_seq ?_
  refine w_seq ?_
  refine w_R ?_
  refine qm hnt rfl rfl ?_
  refine qo hnt rfl (s_lenM (l := covW l space a n) tab_118 rfl (hM_sl (f := eSpan) rfl) ?_)
  refine qm hnt rfl rfl ?_
  refine r_end ?_
  refine q_then ?_
  refine w_block ?_
  refine w_adopt (s := 16) (sz := 3) rfl ?_
  refine loop2 (fun (os : List TPiece) (j : Nat) => j ≤ (covW l space a n).length ∧ os = ((covW l space a n).take j).map (pieceW (ofL l space))) (fun (os : List TPiece) (j : Nat) => [(11,PV.ref 1 0 none),(16,PV.ref 0 0 none),(58,pS 2 false eSpan (covW l space a n)),(59,pN ((covW l space a n).length)),(60,pN j)]) 2 (fun (os : List TPiece) (j : Nat) => [(0,oB true 3 ePiece os),(1,oB true 4 eWindow (ofL l space))]) (fun (os : List TPiece) (j : Nat) => (covW l space a n).length - j) (([] : List TPiece)) (0) ?_ ⟨[(0,2),(1,1)],by rw [hk]; decide,⟨⟨_,rfl,rfl,rfl⟩,⟨_,rfl,rfl,rfl⟩,⟨_,rfl,rfl,rfl⟩,⟨_,rfl,rfl,rfl⟩,⟨_,rfl,rfl,rfl⟩,trivial⟩,⟨⟨_,_,rfl,rfl,rfl,rfl⟩,⟨_,_,rfl,rfl,rfl,rfl⟩,trivial⟩,by rw [hk]; decide⟩ ?_
  · exact ⟨by omega,rfl⟩
  ·
   intro os j hI
   obtain ⟨hj,hos2⟩ := hI
   have hol3 : os.length ≤ 2147483648 := by rw [hos2]; simp; omega
   refine w_seq ?_
   refine w_R ?_
   refine qo hnt rfl (s_lss rfl rfl ?_)
   refine r_end ?_
   refine q_then ?_
   refine w_seq ?_
   refine w_if rfl (fun c4 => ?_) (fun c4 => ?_)
   ·
    have c4_ := c4
    try simp only [sB] at c4
    refine w_skip ?_
    refine q_then ?_
    refine w_seq ?_
    refine w_block ?_
    refine w_seq ?_
    refine w_R ?_
    obtain ⟨e2,he2⟩ := get_of_lt (covW l space a n) (i := j) (by omega)
    refine qo hnt rfl (s_iaM (q := j) (b := e2) (f := eSpan) tab_118 rfl tab_119 rfl rfl (by omega) rfl he2 ?_)
    refine qo hnt rfl (s_load_ro tab_119 rfl rfl rfl ?_)
    refine qo hnt rfl (s_alloc tab_119 ?_)
    refine qo hnt rfl (s_store_ptr tab_119 rfl rfl rfl rfl rfl (Nat.le_of_ble_eq_true rfl) ?_)
    refine r_set [(11,PV.ref 1 0 none),(16,PV.ref 0 0 none),(18,PV.ptr 2 0),(58,pS 2 false eSpan (covW l space a n)),(59,pN ((covW l space a n).length)),(60,pN j)] [(2,.obj (cSpan e2)),(0,oB true 3 ePiece os),(1,oB true 4 eWindow (ofL l space))] 3 ⟨rfl,rfl,rfl,rfl,rfl,rfl,trivial⟩ rfl rfl ?_
    refine r_end ?_
    refine q_then ?_
    refine w_seq ?_
    refine w_R ?_
    refine qm hnt rfl rfl ?_
    refine qo hnt rfl (s_lenM (l := ofL l space) tab_22 rfl (hM_ref0 (f := eWindow) rfl rfl) ?_)
    refine qm hnt rfl rfl ?_
    refine r_end ?_
    refine q_then ?_
    refine w_block ?_
    refine loop2 (fun (os4 : List TPiece) (k : Nat) => k ≤ (ofL l space).length ∧ (∀ q u,q < k → (ofL l space)[q]? = some u → spIn e2 (vSp u) = false) ∧ os4 = os) (fun (os4 : List TPiece) (k : Nat) => [(11,PV.ref 1 0 none),(16,PV.ref 0 0 none),(18,PV.ptr 2 0),(58,pS 2 false eSpan (covW l space a n)),(59,pN ((covW l space a n).length)),(60,pN j),(64,PV.ref 1 0 none),(65,pN ((ofL l space).length)),(66,pN k)]) 3 (fun (os4 : List TPiece) (k : Nat) => [(0,oB true 3 ePiece os4),(1,oB true 4 eWindow (ofL l space)),(2,.obj (cSpan e2))]) (fun (os4 : List TPiece) (k : Nat) => (ofL l space).length - k) (os) (0) ?_ ⟨[(0,0),(1,1),(2,2)],by rw [hk]; decide,⟨⟨_,rfl,rfl,rfl⟩,⟨_,rfl,rfl,rfl⟩,⟨_,rfl,rfl,rfl⟩,⟨_,rfl,rfl,rfl⟩,⟨_,rfl,rfl,rfl⟩,⟨_,rfl,rfl,rfl⟩,⟨_,rfl,rfl,rfl⟩,⟨_,rfl,rfl,rfl⟩,⟨_,rfl,rfl,rfl⟩,trivial⟩,⟨⟨_,_,rfl,rfl,rfl,rfl⟩,⟨_,_,rfl,rfl,rfl,rfl⟩,⟨_,_,rfl,rfl,rfl,rfl⟩,trivial⟩,by rw [hk]; decide⟩ ?_
    · exact ⟨by omega,fun q u hq => by omega,rfl⟩
    ·
     intro os4 k hK
     obtain ⟨hk2,hno,ho4⟩ := hK
     have hol4 : os4.length ≤ 2147483648 := by rw [ho4]; exact hol3
     refine w_seq ?_
     refine w_R ?_
     refine qo hnt rfl (s_lss rfl rfl ?_)
     refine r_end ?_
     refine q_then ?_
     refine w_seq ?_
     refine w_if rfl (fun c5 => ?_) (fun c5 => ?_)
     ·
      have c5_ := c5
      try simp only [sB] at c5
      refine w_skip ?_
      refine q_then ?_
      refine w_seq ?_
      refine w_block ?_
      refine w_seq ?_
      refine w_R ?_
      refine qo hnt rfl (s_iaR0 (q := k) (f := eWindow) (l := ofL l space) tab_22 rfl tab_28 rfl rfl (by omega) rfl rfl (by omega) ?_)
      obtain ⟨e3,he3⟩ := get_of_lt (ofL l space) (i := k) (by omega)
      refine qo hnt rfl (s_ldA (b := e3) tab_28 rfl rfl rfl he3 rfl rfl ?_)
      refine qo hnt rfl (s_alloc tab_28 ?_)
      refine qo hnt rfl (s_store_ptr tab_28 rfl rfl rfl rfl rfl (Nat.le_of_ble_eq_true rfl) ?_)
      refine r_set [(11,PV.ref 1 0 none),(16,PV.ref 0 0 none),(18,PV.ptr 2 0),(20,PV.ptr 3 0),(58,pS 2 false eSpan (covW l space a n)),(59,pN ((covW l space a n).length)),(60,pN j),(64,PV.ref 1 0 none),(65,pN ((ofL l space).length)),(66,pN k)] [(3,.obj (cWindow e3)),(0,oB true 3 ePiece os4),(1,oB true 4 eWindow (ofL l space)),(2,.obj (cSpan e2))] 4 ⟨rfl,rfl,rfl,rfl,rfl,rfl,rfl,rfl,rfl,rfl,trivial⟩ rfl rfl ?_
      refine r_end ?_
      refine q_then ?_
      refine w_seq ?_
      refine w_R ?_
      refine qo hnt rfl (s_load_ptr tab_119 rfl rfl rfl (Nat.le_of_ble_eq_true rfl) ?_)
      refine qo hnt rfl (s_fa_ptr tab_28 rfl rfl tab_3 (by decide) rfl ?_)
      refine qo hnt rfl (s_load_ptr1 tab_3 rfl rfl rfl rfl rfl ?_)
      refine qo hnt rfl (s_fa_ptr tab_28 rfl rfl tab_3 (by decide) rfl ?_)
      refine qo hnt rfl (s_load_ptr1 tab_3 rfl rfl rfl rfl rfl ?_)
      refine qo hnt rfl (s_build tab_119 rfl rfl (b_cons rfl tab_3 rfl rfl rfl (Nat.le_of_ble_eq_true rfl) (b_cons rfl tab_3 rfl rfl rfl (Nat.le_of_ble_eq_true rfl) (b_nil ?_))))
      refine qo hnt rfl (s_callF rfl rfl rfl (w_burgageref7_In e2 (⟨e3.virtual,e3.count⟩ : TSpan)) rfl ?_)
      refine r_end ?_
      refine q_then ?_
      refine w_if rfl (fun c6 => ?_) (fun c6 => ?_)
      ·
       have c6_ := c6
       try simp only [sB] at c6
       refine w_seq ?_
       obtain ⟨hpc,m1,v1,v2,v3⟩ := piece_found (List.mem_of_getElem? he2) he3 c6_ hno
       have hwb := (winR_iff e3).1 m1
       refine w_R ?_
       refine qm hnt rfl rfl ?_
       refine qo hnt rfl (s_fa_ptr tab_119 rfl rfl tab_3 (by decide) rfl ?_)
       refine qo hnt rfl (s_load_ptr1 tab_3 rfl rfl rfl rfl rfl ?_)
       refine qo hnt rfl (s_fa_ptr tab_28 rfl rfl tab_3 (by decide) rfl ?_)
       refine qo hnt rfl (s_load_ptr1 tab_3 rfl rfl rfl rfl rfl ?_)
       refine qo hnt rfl (s_fa_ptr tab_119 rfl rfl tab_3 (by decide) rfl ?_)
       refine qo hnt rfl (s_load_ptr1 tab_3 rfl rfl rfl rfl rfl ?_)
       refine qo hnt rfl (s_addi (r := e3.physical + e2.at_) rfl rfl rfl (by omega) ?_)
       refine qo hnt rfl (s_fa_ptr tab_28 rfl rfl tab_3 (by decide) rfl ?_)
       refine qo hnt rfl (s_load_ptr1 tab_3 rfl rfl rfl rfl rfl ?_)
       refine qo hnt rfl (s_subi (r := (e3.physical + e2.at_) - e3.virtual) rfl rfl rfl (by omega) ?_)
       refine qo hnt rfl (s_fa_ptr tab_119 rfl rfl tab_3 (by decide) rfl ?_)
       refine qo hnt rfl (s_load_ptr1 tab_3 rfl rfl rfl rfl rfl ?_)
       refine qo hnt rfl (s_build tab_82 rfl rfl (b_cons rfl tab_3 rfl rfl rfl (Nat.le_of_ble_eq_true rfl) (b_cons rfl tab_3 rfl rfl rfl (Nat.le_of_ble_eq_true rfl) (b_cons rfl tab_3 rfl rfl rfl (Nat.le_of_ble_eq_true rfl) (b_nilN (cs' := [pI e2.at_,pI ((e3.physical + e2.at_) - e3.virtual),pI e2.count]) rfl ?_)))))
       refine qo hnt rfl (s_mkM (f := ePiece) [(⟨e2.at_,(e3.physical + e2.at_) - e3.virtual,e2.count⟩ : TPiece)] tab_79 rfl tab_82 ⟨rfl,by decide⟩ (by decide) rfl rfl rfl rfl ?_)
       refine qo hnt rfl (s_appR0 (f := ePiece) (l := os4) (xs := [(⟨e2.at_,(e3.physical + e2.at_) - e3.virtual,e2.count⟩ : TPiece)]) tab_79 rfl tab_82 ⟨rfl,by decide,by decide⟩ (srcM tab_79 rfl (hM_ref0 (f := ePiece) rfl rfl)) rfl rfl (by (simp; omega)) ?_)
       refine qa hnt rfl rfl ?_
       refine r_set [(11,PV.ref 1 0 none),(16,PV.ref 5 0 none),(58,pS 2 false eSpan (covW l space a n)),(59,pN ((covW l space a n).length)),(60,pN j)] [(5,oB true 3 ePiece (os4 ++ [(⟨e2.at_,(e3.physical + e2.at_) - e3.virtual,e2.count⟩ : TPiece)])),(4,oB true 3 ePiece [(⟨e2.at_,(e3.physical + e2.at_) - e3.virtual,e2.count⟩ : TPiece)]),(3,.obj (cWindow e3)),(1,oB true 4 eWindow (ofL l space)),(2,.obj (cSpan e2))] 6 ⟨rfl,rfl,rfl,rfl,rfl,trivial⟩ rfl rfl ?_
       refine r_end ?_
       refine q_then ?_
       refine w_exit ?_
       refine q_block_pass (by decide) ?_
       refine q_then_exit ?_
       refine q_then_exit ?_
       refine q_block_exit ?_
       refine q_block ?_
       refine q_then ?_
       refine w_R ?_
       refine qo hnt rfl (s_addN (a := j) (b := 1) rfl rfl (by omega) (by omega) (by omega) ?_)
       refine qm hnt rfl rfl ?_
       refine r_end ?_
       refine q_then ?_
       refine ⟨(os4 ++ [(⟨e2.at_,(e3.physical + e2.at_) - e3.virtual,e2.count⟩ : TPiece)]),(j + 1), ?_, ?_,⟨[(0,5),(1,1)],by rw [hk]; decide,⟨⟨_,rfl,rfl,rfl⟩,⟨_,rfl,rfl,rfl⟩,⟨_,rfl,rfl,rfl⟩,⟨_,rfl,rfl,rfl⟩,⟨_,rfl,rfl,rfl⟩,trivial⟩,⟨⟨_,_,rfl,rfl,rfl,rfl⟩,⟨_,_,rfl,rfl,rfl,rfl⟩,trivial⟩,by rw [hk]; decide⟩⟩
       ·
        exact ⟨by omega,by rw [ho4,hos2,List.take_add_one,he2]; simp [hpc]⟩
       · omega
      have c6_ := c6
      try simp only [sB] at c6
      refine w_skip ?_
      refine q_block ?_
      refine q_then ?_
      refine w_R ?_
      refine qo hnt rfl (s_addN (a := k) (b := 1) rfl rfl (by omega) (by omega) (by omega) ?_)
      refine qm hnt rfl rfl ?_
      refine r_end ?_
      refine q_then ?_
      refine ⟨(os4),(k + 1), ?_, ?_,⟨[(0,0),(1,1),(2,2)],by rw [hk]; decide,⟨⟨_,rfl,rfl,rfl⟩,⟨_,rfl,rfl,rfl⟩,⟨_,rfl,rfl,rfl⟩,⟨_,rfl,rfl,rfl⟩,⟨_,rfl,rfl,rfl⟩,⟨_,rfl,rfl,rfl⟩,⟨_,rfl,rfl,rfl⟩,⟨_,rfl,rfl,rfl⟩,⟨_,rfl,rfl,rfl⟩,trivial⟩,⟨⟨_,_,rfl,rfl,rfl,rfl⟩,⟨_,_,rfl,rfl,rfl,rfl⟩,⟨_,_,rfl,rfl,rfl,rfl⟩,trivial⟩,by rw [hk]; decide⟩⟩
      ·
       refine ⟨by omega,fun q u hq hu => ?_,ho4⟩
       by_cases hqk : q < k
       · exact hno q u hqk hu
       · obtain rfl : q = k := by omega
         rw [he3] at hu; cases hu; exact c6_
      · omega
     have c5_ := c5
     exact absurd c5 (by intro h9; exact piece_there (List.mem_of_getElem? he2) (fun q u hq hu => hno q u (by have := of_decide_eq_false h9; omega) hu))
   have c4_ := c4
   try simp only [sB] at c4
   have hje : j = (covW l space a n).length := by omega
   have hml : os = mapL l space a n := by rw [hos2,hje,List.take_length]; rfl
   refine w_exit ?_
   refine q_then_exit ?_
   refine q_then_exit ?_
   refine q_block_exit ?_
   refine q_then ?_
   refine w_seq ?_
   refine w_R ?_
   refine qm hnt rfl rfl ?_
   refine qa hnt rfl rfl ?_
   refine qa hnt rfl rfl ?_
   refine r_end ?_
   refine q_then ?_
   refine w_frzM (s := 8) (f := ePiece) rfl rfl view_0 ?_
   refine w_le (s := 8) (y := pS 3 false ePiece (mapL l space a n)) rfl (le_of_eq (congrArg (fun z => pS 3 false ePiece z) (show os = (mapL l space a n) by exact hml))) ?_
   refine w_le (s := 9) (y := pB (mapOk l space a n)) rfl (le_of_eq (congrArg (fun z : Bool => pB z) (show true = (mapOk l space a n) by exact hmo.symm))) ?_
   refine w_ret ?_
   exact fin_plain (ret_tmp rfl (ret_tmp rfl ret_nil)) rfl rfl ⟨rfl,rfl,rfl⟩
theorem w_window_Back (l : List TWindow) (cl_l : Bool) (space : Int) (a : Int) (hl : l.length ≤ 1000) (ha : -9223372036854775808 ≤ a ∧ a ≤ 9223372036854775807) :
    T Try.prog 17 [pS 4 cl_l eWindow l,pI space,pI a] 0 [] (Ret (PV.tup [pI (backV l space a),pB (backOk l space a)]) 0 []) := by
 refine t_fun tabOk (n := 39) (rs := [.tmp 6,.tmp 7]) Try.func17 rfl rfl rfl rfl (Nat.le_of_ble_eq_true rfl) ?_
 intro c hnt hk
 refine w_seq ?_
 refine w_R ?_
 refine qa hnt rfl rfl ?_
 refine qa hnt rfl rfl ?_
 refine r_end ?_
 refine q_then ?_
 refine w_seq ?_
 refine w_seq ?_
 refine w_R ?_
 refine qm hnt rfl rfl ?_
 refine qm hnt rfl rfl ?_
 refine qo hnt rfl (s_callX (r2 := PV.ref 0 0 none) (nx1 := 1) (H2 := []) (H3 := [(0,oB true 4 eWindow (ofL l space))]) [] [] rfl rfl rfl (handed_of (by decide) trivial) rfl rfl rfl rfl rfl rfl (w_window_of l cl_l space (by omega)) rfl (dist_of rfl) rfl rfl rfl rfl ?_)
 refine qo hnt rfl (s_lenM (l := ofL l space) tab_22 rfl (hM_ref0 (f := eWindow) rfl rfl) ?_)
 refine qm hnt rfl rfl ?_
 refine r_set [(2,pI a),(12,PV.ref 0 0 none),(13,pN ((ofL l space).length)),(14,pI 0)] [(0,oB true 4 eWindow (ofL l space))] 1 ⟨rfl,rfl,rfl,rfl,trivial⟩ rfl rfl ?_
 refine r_end ?_
 refine q_then ?_
 refine w_block ?_
 refine loop1 (fun (i : Nat) => i ≤ (ofL l space).length ∧ ∀ j u,j < i → (ofL l space)[j]? = some u → holdW a u = false) (fun (i : Nat) => [(2,pI a),(12,PV.ref 0 0 none),(13,pN ((ofL l space).length)),(14,pN i)]) 1 (fun (i : Nat) => [(0,oB true 4 eWindow (ofL l space))]) (fun (i : Nat) => (ofL l space).length - i) (0) ?_ ⟨[(0,0)],by rw [hk]; decide,⟨⟨_,rfl,rfl,rfl⟩,⟨_,rfl,rfl,rfl⟩,⟨_,rfl,rfl,rfl⟩,⟨_,rfl,rfl,rfl⟩,trivial⟩,⟨⟨_,_,rfl,rfl,rfl,rfl⟩,trivial⟩,by rw [hk]; decide⟩ ?_
 · exact ⟨by omega,fun j u hj => by omega⟩
 ·
  intro i hI
  obtain ⟨hi,hno⟩ := hI
  refine w_seq ?_
  have hle := ofL_len l space
  refine w_R ?_
  refine qo hnt rfl (s_lss rfl rfl ?_)
  refine r_end ?_
  refine q_then ?_
  refine w_seq ?_
  refine w_if rfl (fun c1 => ?_) (fun c1 => ?_)
  ·
   have c1_ := c1
   try simp only [sB] at c1
   refine w_skip ?_
   refine q_then ?_
   refine w_seq ?_
   refine w_block ?_
   refine w_seq ?_
   refine w_R ?_
   refine qo hnt rfl (s_iaR0 (q := i) (f := eWindow) (l := ofL l space) tab_22 rfl tab_28 rfl rfl (by omega) rfl rfl (by omega) ?_)
   obtain ⟨e1,he1⟩ := get_of_lt (ofL l space) (i := i) (by omega)
   refine qo hnt rfl (s_ldA (b := e1) tab_28 rfl rfl rfl he1 rfl rfl ?_)
   refine qo hnt rfl (s_alloc tab_28 ?_)
   refine qo hnt rfl (s_store_ptr tab_28 rfl rfl rfl rfl rfl (Nat.le_of_ble_eq_true rfl) ?_)
   refine r_set [(2,pI a),(9,PV.ptr 1 0),(12,PV.ref 0 0 none),(13,pN ((ofL l space).length)),(14,pN i)] [(1,.obj (cWindow e1)),(0,oB true 4 eWindow (ofL l space))] 2 ⟨rfl,rfl,rfl,rfl,rfl,trivial⟩ rfl rfl ?_
   refine r_end ?_
   refine q_then ?_
   refine w_seq ?_
   have hwb := (winR_iff e1).1 (ofL_get he1).1
   refine w_R ?_
   refine qm hnt rfl rfl ?_
   refine qo hnt rfl (s_fa_ptr tab_28 rfl rfl tab_3 (by decide) rfl ?_)
   refine qo hnt rfl (s_load_ptr1 tab_3 rfl rfl rfl rfl rfl ?_)
   refine qo hnt rfl (s_geq rfl rfl ?_)
   refine qm hnt rfl rfl ?_
   refine r_cut0 8 [(2,pI a),(9,PV.ptr 1 0),(12,PV.ref 0 0 none),(13,pN ((ofL l space).length)),(14,pN i),(30,pB ((decide (e1.physical ≤ a)) && (decide (a - e1.physical < e1.count))))] ?_ ?_
   ·
    refine r_if tabOk hnt rfl rfl rfl (fun g1 => ?_) (fun g1 => ?_)
    ·
     have g1' := g1
     try simp only [sB] at g1'
     refine qm hnt rfl rfl ?_
     refine ry hnt rfl rfl rfl g1 ?_
     refine qo hnt rfl (s_fa_ptr tab_28 rfl rfl tab_3 (by decide) rfl ?_)
     refine ry hnt rfl rfl rfl g1 ?_
     refine qo hnt rfl (s_load_ptr1 tab_3 rfl rfl rfl rfl rfl ?_)
     refine ry hnt rfl rfl rfl g1 ?_
     refine qo hnt rfl (s_subi (r := a - e1.physical) rfl rfl rfl (by omega) ?_)
     refine ry hnt rfl rfl rfl g1 ?_
     refine qo hnt rfl (s_fa_ptr tab_28 rfl rfl tab_3 (by decide) rfl ?_)
     refine ry hnt rfl rfl rfl g1 ?_
     refine qo hnt rfl (s_load_ptr1 tab_3 rfl rfl rfl rfl rfl ?_)
     refine ry hnt rfl rfl rfl g1 ?_
     refine qo hnt rfl (s_lss rfl rfl ?_)
     refine qo hnt rfl (s_pick_t rfl g1 rfl ?_)
     refine r_eq (s := 30) (y := pB ((decide (e1.physical ≤ a)) && (decide (a - e1.physical < e1.count)))) rfl (mix_at g1) ?_
     exact r_mid ⟨⟨rfl,rfl,rfl,rfl,rfl,rfl,trivial⟩,rfl,rfl⟩
    ·
     have g1' := g1
     try simp only [sB] at g1'
     refine rn hnt rfl rfl rfl g1 ?_
     refine rn hnt rfl rfl rfl g1 ?_
     refine rn hnt rfl rfl rfl g1 ?_
     refine rn hnt rfl rfl rfl g1 ?_
     refine rn hnt rfl rfl rfl g1 ?_
     refine rn hnt rfl rfl rfl g1 ?_
     refine qo hnt rfl (s_pick_f rfl g1 rfl ?_)
     refine r_eq (s := 30) (y := pB ((decide (e1.physical ≤ a)) && (decide (a - e1.physical < e1.count)))) rfl (mix_af _ g1) ?_
     exact r_mid ⟨⟨rfl,rfl,rfl,rfl,rfl,rfl,trivial⟩,rfl,rfl⟩
   ·
    refine r_end ?_
    refine q_then ?_
    refine w_if rfl (fun c2 => ?_) (fun c2 => ?_)
    ·
     have c2_ := c2
     try simp only [sB] at c2
     have hbk := back_some he1 c2_ hno
     refine w_seq ?_
     have hh := c2_
     simp only [Bool.and_eq_true,decide_eq_true_eq] at hh
     refine w_R ?_
     refine qo hnt rfl (s_fa_ptr tab_28 rfl rfl tab_3 (by decide) rfl ?_)
     refine qo hnt rfl (s_load_ptr1 tab_3 rfl rfl rfl rfl rfl ?_)
     refine qm hnt rfl rfl ?_
     refine qo hnt rfl (s_addi (r := e1.virtual + a) rfl rfl rfl (by omega) ?_)
     refine qo hnt rfl (s_fa_ptr tab_28 rfl rfl tab_3 (by decide) rfl ?_)
     refine qo hnt rfl (s_load_ptr1 tab_3 rfl rfl rfl rfl rfl ?_)
     refine qo hnt rfl (s_subi (r := (e1.virtual + a) - e1.physical) rfl rfl rfl (by omega) ?_)
     refine qa hnt rfl rfl ?_
     refine qa hnt rfl rfl ?_
     refine r_end ?_
     refine q_then ?_
     refine w_le (s := 6) (y := pI (backV l space a)) rfl (le_of_eq (congrArg (fun z : Int => pI z) (show ((e1.virtual + a) - e1.physical) = (backV l space a) by (unfold backV; rw [hbk]; done)))) ?_
     refine w_le (s := 7) (y := pB (backOk l space a)) rfl (le_of_eq (congrArg (fun z : Bool => pB z) (show true = (backOk l space a) by (unfold backOk; rw [hbk]; rfl)))) ?_
     refine w_ret ?_
     refine q_block_ret ?_
     refine q_then_ret ?_
     refine q_then_ret ?_
     refine q_block_ret ?_
     refine q_then_ret ?_
     exact fin_plain (ret_tmp rfl (ret_tmp rfl ret_nil)) rfl rfl ⟨rfl,rfl,rfl⟩
    have c2_ := c2
    try simp only [sB] at c2
    refine w_skip ?_
    refine q_block ?_
    refine q_then ?_
    refine w_R ?_
    refine qo hnt rfl (s_addN (a := i) (b := 1) rfl rfl (by omega) (by omega) (by omega) ?_)
    refine qm hnt rfl rfl ?_
    refine r_end ?_
    refine q_then ?_
    refine ⟨(i + 1), ?_, ?_,⟨[(0,0)],by rw [hk]; decide,⟨⟨_,rfl,rfl,rfl⟩,⟨_,rfl,rfl,rfl⟩,⟨_,rfl,rfl,rfl⟩,⟨_,rfl,rfl,rfl⟩,trivial⟩,⟨⟨_,_,rfl,rfl,rfl,rfl⟩,trivial⟩,by rw [hk]; decide⟩⟩
    ·
     refine ⟨by omega,fun j u hj hu => ?_⟩
     by_cases hji : j < i
     · exact hno j u hji hu
     · obtain rfl : j = i := by omega
       rw [he1] at hu; cases hu; exact c2_
    · omega
  have c1_ := c1
  try simp only [sB] at c1
  have hbk := back_none (a := a) (fun j u hj hu => hno j u (by omega) hu)
  refine w_exit ?_
  refine q_then_exit ?_
  refine q_then_exit ?_
  refine q_block_exit ?_
  refine q_then ?_
  refine w_seq ?_
  refine w_R ?_
  refine qa hnt rfl rfl ?_
  refine qa hnt rfl rfl ?_
  refine r_end ?_
  refine q_then ?_
  refine w_le (s := 6) (y := pI (backV l space a)) rfl (le_of_eq (congrArg (fun z : Int => pI z) (show 0 = (backV l space a) by (unfold backV; rw [hbk]; done)))) ?_
  refine w_le (s := 7) (y := pB (backOk l space a)) rfl (le_of_eq (congrArg (fun z : Bool => pB z) (show false = (backOk l space a) by (unfold backOk; rw [hbk]; rfl)))) ?_
  refine w_ret ?_
  exact fin_plain (ret_tmp rfl (ret_tmp rfl ret_nil)) rfl rfl ⟨rfl,rfl,rfl⟩
theorem w_burgageref7_Back (l : List TWindow) (cl_l : Bool) (space : Int) (a : Int) (hl : l.length ≤ 1000) (ha : -9223372036854775808 ≤ a ∧ a ≤ 9223372036854775807) :
    T Try.prog 38 [pS 4 cl_l eWindow l,pI space,pI a] 0 [] (Ret (PV.tup [pI (backV l space a),pB (backOk l space a)]) 0 []) := by
 refine t_fun tabOk (n := 47) (rs := [.tmp 6,.tmp 7]) Try.func38 rfl rfl rfl rfl (Nat.le_of_ble_eq_true rfl) ?_
 intro c hnt hk
 refine w_seq ?_
 refine w_R ?_
 refine qa hnt rfl rfl ?_
 refine qa hnt rfl rfl ?_
 refine r_end ?_
 refine q_then ?_
 refine w_seq ?_
 refine w_seq ?_
 refine w_R ?_
 refine qm hnt rfl rfl ?_
 refine qo hnt rfl (s_lenM (l := l) tab_22 rfl (hM_sl (f := eWindow) rfl) ?_)
 refine qm hnt rfl rfl ?_
 refine r_end ?_
 refine q_then ?_
 refine w_block ?_
 refine loop1 (fun (i : Nat) => i ≤ l.length ∧ backF (l.take i) space a = none) (fun (i : Nat) => [(1,pI space),(2,pI a),(10,pS 4 cl_l eWindow l),(11,pN l.length),(12,pN i)]) 0 (fun (i : Nat) => []) (fun (i : Nat) => l.length - i) (0) ?_ ⟨[],rfl,⟨⟨_,rfl,rfl,rfl⟩,⟨_,rfl,rfl,rfl⟩,⟨_,rfl,rfl,rfl⟩,⟨_,rfl,rfl,rfl⟩,⟨_,rfl,rfl,rfl⟩,trivial⟩,trivial,by rw [hk]; decide⟩ ?_
 · exact ⟨by omega,rfl⟩
 ·
  intro i hI
  obtain ⟨hi,hno⟩ := hI
  refine w_seq ?_
  refine w_R ?_
  refine qo hnt rfl (s_lss rfl rfl ?_)
  refine r_end ?_
  refine q_then ?_
  refine w_seq ?_
  refine w_if rfl (fun c1 => ?_) (fun c1 => ?_)
  ·
   have c1_ := c1
   try simp only [sB] at c1
   refine w_skip ?_
   refine q_then ?_
   refine w_seq ?_
   refine w_block ?_
   refine w_seq ?_
   refine w_R ?_
   obtain ⟨e1,he1⟩ := get_of_lt l (i := i) (by omega)
   refine qo hnt rfl (s_iaM (q := i) (b := e1) (f := eWindow) tab_22 rfl tab_28 rfl rfl (by omega) rfl he1 ?_)
   refine qo hnt rfl (s_load_ro tab_28 rfl rfl rfl ?_)
   refine qo hnt rfl (s_alloc tab_28 ?_)
   refine qo hnt rfl (s_store_ptr tab_28 rfl rfl rfl rfl rfl (Nat.le_of_ble_eq_true rfl) ?_)
   refine r_set [(1,pI space),(2,pI a),(9,PV.ptr 0 0),(10,pS 4 cl_l eWindow l),(11,pN l.length),(12,pN i)] [(0,.obj (cWindow e1))] 1 ⟨rfl,rfl,rfl,rfl,rfl,rfl,trivial⟩ rfl rfl ?_
   refine r_end ?_
   refine q_then ?_
   refine w_seq ?_
   refine w_R ?_
   refine qo hnt rfl (s_load_ptr tab_28 rfl rfl rfl (Nat.le_of_ble_eq_true rfl) ?_)
   refine qo hnt rfl (s_callF rfl rfl rfl (w_burgageref7_Window e1) rfl ?_)
   refine qm hnt rfl rfl ?_
   refine r_cut0 5 [(1,pI space),(2,pI a),(9,PV.ptr 0 0),(10,pS 4 cl_l eWindow l),(11,pN l.length),(12,pN i),(23,pB ((winR e1) && (decide (e1.space = space))))] ?_ ?_
   ·
    refine r_if tabOk hnt rfl rfl rfl (fun g1 => ?_) (fun g1 => ?_)
    ·
     have g1' := g1
     try simp only [sB] at g1'
     refine qo hnt rfl (s_fa_ptr tab_28 rfl rfl tab_3 (by decide) rfl ?_)
     refine ry hnt rfl rfl rfl g1 ?_
     refine qo hnt rfl (s_load_ptr1 tab_3 rfl rfl rfl rfl rfl ?_)
     refine ry hnt rfl rfl rfl g1 ?_
     refine qm hnt rfl rfl ?_
     refine ry hnt rfl rfl rfl g1 ?_
     refine qo hnt rfl (s_eql rfl rfl ?_)
     refine qo hnt rfl (s_pick_t rfl g1 rfl ?_)
     refine r_eq (s := 23) (y := pB ((winR e1) && (decide (e1.space = space)))) rfl (mix_at g1) ?_
     exact r_mid ⟨⟨rfl,rfl,rfl,rfl,rfl,rfl,rfl,trivial⟩,rfl,rfl⟩
    ·
     have g1' := g1
     try simp only [sB] at g1'
     refine rn hnt rfl rfl rfl g1 ?_
     refine rn hnt rfl rfl rfl g1 ?_
     refine rn hnt rfl rfl rfl g1 ?_
     refine qo hnt rfl (s_pick_f rfl g1 rfl ?_)
     refine r_eq (s := 23) (y := pB ((winR e1) && (decide (e1.space = space)))) rfl (mix_af _ g1) ?_
     exact r_mid ⟨⟨rfl,rfl,rfl,rfl,rfl,rfl,rfl,trivial⟩,rfl,rfl⟩
   ·
    refine qm hnt rfl rfl ?_
    refine r_cut0 5 [(1,pI space),(2,pI a),(9,PV.ptr 0 0),(10,pS 4 cl_l eWindow l),(11,pN l.length),(12,pN i),(29,pB (((winR e1) && (decide (e1.space = space))) && (decide (e1.physical ≤ a))))] ?_ ?_
    ·
     refine r_if tabOk hnt rfl rfl rfl (fun g2 => ?_) (fun g2 => ?_)
     ·
      have g2' := g2
      try simp only [sB] at g2'
      refine qm hnt rfl rfl ?_
      refine ry hnt rfl rfl rfl g2 ?_
      refine qo hnt rfl (s_fa_ptr tab_28 rfl rfl tab_3 (by decide) rfl ?_)
      refine ry hnt rfl rfl rfl g2 ?_
      refine qo hnt rfl (s_load_ptr1 tab_3 rfl rfl rfl rfl rfl ?_)
      refine ry hnt rfl rfl rfl g2 ?_
      refine qo hnt rfl (s_geq rfl rfl ?_)
      refine qo hnt rfl (s_pick_t rfl g2 rfl ?_)
      refine r_eq (s := 29) (y := pB (((winR e1) && (decide (e1.space = space))) && (decide (e1.physical ≤ a)))) rfl (mix_at g2) ?_
      exact r_mid ⟨⟨rfl,rfl,rfl,rfl,rfl,rfl,rfl,trivial⟩,rfl,rfl⟩
     ·
      have g2' := g2
      try simp only [sB] at g2'
      refine rn hnt rfl rfl rfl g2 ?_
      refine rn hnt rfl rfl rfl g2 ?_
      refine rn hnt rfl rfl rfl g2 ?_
      refine qo hnt rfl (s_pick_f rfl g2 rfl ?_)
      refine r_eq (s := 29) (y := pB (((winR e1) && (decide (e1.space = space))) && (decide (e1.physical ≤ a)))) rfl (mix_af _ g2) ?_
      exact r_mid ⟨⟨rfl,rfl,rfl,rfl,rfl,rfl,rfl,trivial⟩,rfl,rfl⟩
    ·
     refine qm hnt rfl rfl ?_
     refine r_cut0 8 [(1,pI space),(2,pI a),(9,PV.ptr 0 0),(10,pS 4 cl_l eWindow l),(11,pN l.length),(12,pN i),(38,pB ((((winR e1) && (decide (e1.space = space))) && (decide (e1.physical ≤ a))) && (decide (a - e1.physical < e1.count))))] ?_ ?_
     ·
      refine r_if tabOk hnt rfl rfl rfl (fun g3 => ?_) (fun g3 => ?_)
      ·
       have g3' := g3
       try simp only [sB] at g3'
       refine qm hnt rfl rfl ?_
       refine ry hnt rfl rfl rfl g3 ?_
       refine qo hnt rfl (s_fa_ptr tab_28 rfl rfl tab_3 (by decide) rfl ?_)
       refine ry hnt rfl rfl rfl g3 ?_
       refine qo hnt rfl (s_load_ptr1 tab_3 rfl rfl rfl rfl rfl ?_)
       refine ry hnt rfl rfl rfl g3 ?_
       refine qo hnt rfl (s_subi (r := a - e1.physical) rfl rfl rfl (by simp only [Bool.and_eq_true,decide_eq_true_eq] at g3; have hq9 := (winR_iff e1).1 g3.1.1; omega) ?_)
       refine ry hnt rfl rfl rfl g3 ?_
       refine qo hnt rfl (s_fa_ptr tab_28 rfl rfl tab_3 (by decide) rfl ?_)
       refine ry hnt rfl rfl rfl g3 ?_
       refine qo hnt rfl (s_load_ptr1 tab_3 rfl rfl rfl rfl rfl ?_)
       refine ry hnt rfl rfl rfl g3 ?_
       refine qo hnt rfl (s_lss rfl rfl ?_)
       refine qo hnt rfl (s_pick_t rfl g3 rfl ?_)
       refine r_eq (s := 38) (y := pB ((((winR e1) && (decide (e1.space = space))) && (decide (e1.physical ≤ a))) && (decide (a - e1.physical < e1.count)))) rfl (mix_at g3) ?_
       exact r_mid ⟨⟨rfl,rfl,rfl,rfl,rfl,rfl,rfl,trivial⟩,rfl,rfl⟩
      ·
       have g3' := g3
       try simp only [sB] at g3'
       refine rn hnt rfl rfl rfl g3 ?_
       refine rn hnt rfl rfl rfl g3 ?_
       refine rn hnt rfl rfl rfl g3 ?_
       refine rn hnt rfl rfl rfl g3 ?_
       refine rn hnt rfl rfl rfl g3 ?_
       refine rn hnt rfl rfl rfl g3 ?_
       refine qo hnt rfl (s_pick_f rfl g3 rfl ?_)
       refine r_eq (s := 38) (y := pB ((((winR e1) && (decide (e1.space = space))) && (decide (e1.physical ≤ a))) && (decide (a - e1.physical < e1.count)))) rfl (mix_af _ g3) ?_
       exact r_mid ⟨⟨rfl,rfl,rfl,rfl,rfl,rfl,rfl,trivial⟩,rfl,rfl⟩
     ·
      refine r_end ?_
      refine q_then ?_
      refine w_if rfl (fun c2 => ?_) (fun c2 => ?_)
      ·
       have c2_ := c2
       try simp only [sB] at c2
       have hh0 := c2_
       simp only [Bool.and_eq_true,decide_eq_true_eq] at hh0
       have hbk := back_take hno he1 (by unfold ofW; simp [hh0.1.1.1,hh0.1.1.2]) (by unfold holdW; simp [hh0.1.2,hh0.2])
       refine w_seq ?_
       have hh := c2_
       simp only [Bool.and_eq_true,decide_eq_true_eq] at hh
       have hwb := (winR_iff e1).1 hh.1.1.1
       refine w_R ?_
       refine qo hnt rfl (s_fa_ptr tab_28 rfl rfl tab_3 (by decide) rfl ?_)
       refine qo hnt rfl (s_load_ptr1 tab_3 rfl rfl rfl rfl rfl ?_)
       refine qm hnt rfl rfl ?_
       refine qo hnt rfl (s_addi (r := e1.virtual + a) rfl rfl rfl (by omega) ?_)
       refine qo hnt rfl (s_fa_ptr tab_28 rfl rfl tab_3 (by decide) rfl ?_)
       refine qo hnt rfl (s_load_ptr1 tab_3 rfl rfl rfl rfl rfl ?_)
       refine qo hnt rfl (s_subi (r := (e1.virtual + a) - e1.physical) rfl rfl rfl (by omega) ?_)
       refine qa hnt rfl rfl ?_
       refine qa hnt rfl rfl ?_
       refine r_end ?_
       refine q_then ?_
       refine w_le (s := 6) (y := pI (backV l space a)) rfl (le_of_eq (congrArg (fun z : Int => pI z) (show ((e1.virtual + a) - e1.physical) = (backV l space a) by (unfold backV; rw [hbk]; done)))) ?_
       refine w_le (s := 7) (y := pB (backOk l space a)) rfl (le_of_eq (congrArg (fun z : Bool => pB z) (show true = (backOk l space a) by (unfold backOk; rw [hbk]; rfl)))) ?_
       refine w_ret ?_
       refine q_block_ret ?_
       refine q_then_ret ?_
       refine q_then_ret ?_
       refine q_block_ret ?_
       refine q_then_ret ?_
       exact fin_plain (ret_tmp rfl (ret_tmp rfl ret_nil)) rfl rfl ⟨rfl,rfl,rfl⟩
      have c2_ := c2
      try simp only [sB] at c2
      refine w_skip ?_
      refine q_block ?_
      refine q_then ?_
      refine w_R ?_
      refine qo hnt rfl (s_addN (a := i) (b := 1) rfl rfl (by omega) (by omega) (by omega) ?_)
      refine qm hnt rfl rfl ?_
      refine r_end ?_
      refine q_then ?_
      refine ⟨(i + 1), ?_, ?_,⟨[],rfl,⟨⟨_,rfl,rfl,rfl⟩,⟨_,rfl,rfl,rfl⟩,⟨_,rfl,rfl,rfl⟩,⟨_,rfl,rfl,rfl⟩,⟨_,rfl,rfl,rfl⟩,trivial⟩,trivial,by rw [hk]; decide⟩⟩
      ·
       exact ⟨by omega,back_next hno he1 (by have h9 := c2_; unfold ofW holdW; rw [← Bool.and_assoc]; exact h9)⟩
      · omega
  have c1_ := c1
  try simp only [sB] at c1
  have hbk : backF l space a = none := by rw [List.take_of_length_le (by omega)] at hno; exact hno
  refine w_exit ?_
  refine q_then_exit ?_
  refine q_then_exit ?_
  refine q_block_exit ?_
  refine q_then ?_
  refine w_seq ?_
  refine w_R ?_
  refine qa hnt rfl rfl ?_
  refine qa hnt rfl rfl ?_
  refine r_end ?_
  refine q_then ?_
  refine w_le (s := 6) (y := pI (backV l space a)) rfl (le_of_eq (congrArg (fun z : Int => pI z) (show 0 = (backV l space a) by (unfold backV; rw [hbk]; done)))) ?_
  refine w_le (s := 7) (y := pB (backOk l space a)) rfl (le_of_eq (congrArg (fun z : Bool => pB z) (show false = (backOk l space a) by (unfold backOk; rw [hbk]; rfl)))) ?_
  refine w_ret ?_
  exact fin_plain (ret_tmp rfl (ret_tmp rfl ret_nil)) rfl rfl ⟨rfl,rfl,rfl⟩
theorem w_window_Meets (a : List TWindow) (cl_a : Bool) (b : List TWindow) (cl_b : Bool) (ha : a.length ≤ 1000) (hb : b.length ≤ 1000) :
    T Try.prog 39 [pS 4 cl_a eWindow a,pS 4 cl_b eWindow b] 0 [] (Ret (pB (meetsW a b)) 0 []) := by
 refine t_fun tabOk (n := 17) (rs := [.tmp 4]) Try.func39 rfl rfl rfl rfl (Nat.le_of_ble_eq_true rfl) ?_
 intro c hnt hk
 refine w_seq ?_
 refine w_R ?_
 refine qa hnt rfl rfl ?_
 refine r_end ?_
 refine q_then ?_
 refine w_seq ?_
 refine w_seq ?_
 refine w_R ?_
 refine qm hnt rfl rfl ?_
 refine qo hnt rfl (s_lenM (l := a) tab_22 rfl (hM_sl (f := eWindow) rfl) ?_)
 refine qm hnt rfl rfl ?_
 refine r_end ?_
 refine q_then ?_
 refine w_block ?_
 refine loop1 (fun (i : Nat) => i ≤ a.length ∧ (a.take i).any (fun x => b.any fun y => meetW x y) = false) (fun (i : Nat) => [(1,pS 4 cl_b eWindow b),(7,pS 4 cl_a eWindow a),(8,pN a.length),(9,pN i)]) 0 (fun (i : Nat) => []) (fun (i : Nat) => a.length - i) (0) ?_ ⟨[],rfl,⟨⟨_,rfl,rfl,rfl⟩,⟨_,rfl,rfl,rfl⟩,⟨_,rfl,rfl,rfl⟩,⟨_,rfl,rfl,rfl⟩,trivial⟩,trivial,by rw [hk]; decide⟩ ?_
 · exact ⟨by omega,rfl⟩
 ·
  intro i hI
  obtain ⟨hi,hno⟩ := hI
  refine w_seq ?_
  refine w_R ?_
  refine qo hnt rfl (s_lss rfl rfl ?_)
  refine r_end ?_
  refine q_then ?_
  refine w_seq ?_
  refine w_if rfl (fun c1 => ?_) (fun c1 => ?_)
  ·
   have c1_ := c1
   try simp only [sB] at c1
   refine w_skip ?_
   refine q_then ?_
   refine w_seq ?_
   refine w_block ?_
   refine w_seq ?_
   refine w_R ?_
   obtain ⟨e1,he1⟩ := get_of_lt a (i := i) (by omega)
   refine qo hnt rfl (s_iaM (q := i) (b := e1) (f := eWindow) tab_22 rfl tab_28 rfl rfl (by omega) rfl he1 ?_)
   refine qo hnt rfl (s_load_ro tab_28 rfl rfl rfl ?_)
   refine qo hnt rfl (s_alloc tab_28 ?_)
   refine qo hnt rfl (s_store_ptr tab_28 rfl rfl rfl rfl rfl (Nat.le_of_ble_eq_true rfl) ?_)
   refine r_set [(1,pS 4 cl_b eWindow b),(6,PV.ptr 0 0),(7,pS 4 cl_a eWindow a),(8,pN a.length),(9,pN i)] [(0,.obj (cWindow e1))] 1 ⟨rfl,rfl,rfl,rfl,rfl,trivial⟩ rfl rfl ?_
   refine r_end ?_
   refine q_then ?_
   refine w_seq ?_
   refine w_R ?_
   refine qm hnt rfl rfl ?_
   refine qo hnt rfl (s_makeFunc rfl rfl ?_)
   refine qo hnt rfl (s_callX (r2 := pB (b.any fun x => meetW ⟨e1.space,e1.virtual,e1.physical,e1.count⟩ x)) (nx1 := 1) (H2 := [(0,.obj (cWindow e1))]) (H3 := [(0,.obj (cWindow e1))]) [0] [.obj (cWindow e1)] rfl rfl rfl (handed_of (by decide) ⟨rfl,trivial⟩) rfl rfl rfl rfl rfl rfl (w_slices_ContainsFunc_api_Window_api_Window_c4 b cl_b e1.space e1.virtual e1.physical e1.count (by omega)) rfl (dist_of rfl) rfl rfl rfl rfl ?_)
   refine r_set [(1,pS 4 cl_b eWindow b),(7,pS 4 cl_a eWindow a),(8,pN a.length),(9,pN i),(15,pB (b.any fun x => meetW ⟨e1.space,e1.virtual,e1.physical,e1.count⟩ x))] [(0,.obj (cWindow e1))] 1 ⟨rfl,rfl,rfl,rfl,rfl,trivial⟩ rfl rfl ?_
   refine r_end ?_
   refine q_then ?_
   refine w_if rfl (fun c2 => ?_) (fun c2 => ?_)
   ·
    have c2_ := c2
    try simp only [sB] at c2
    refine w_seq ?_
    refine w_R ?_
    refine qa hnt rfl rfl ?_
    refine r_end ?_
    refine q_then ?_
    refine w_le (s := 4) (y := pB (meetsW a b)) rfl (le_of_eq (congrArg (fun z : Bool => pB z) (show true = (meetsW a b) by exact (any_found he1 c2_).symm))) ?_
    refine w_ret ?_
    refine q_block_ret ?_
    refine q_then_ret ?_
    refine q_then_ret ?_
    refine q_block_ret ?_
    refine q_then_ret ?_
    exact fin_plain (ret_tmp rfl ret_nil) rfl rfl ⟨rfl,rfl,rfl⟩
   have c2_ := c2
   try simp only [sB] at c2
   refine w_skip ?_
   refine q_block ?_
   refine q_then ?_
   refine w_R ?_
   refine qo hnt rfl (s_addN (a := i) (b := 1) rfl rfl (by omega) (by omega) (by omega) ?_)
   refine qm hnt rfl rfl ?_
   refine r_end ?_
   refine q_then ?_
   refine ⟨(i + 1), ?_, ?_,⟨[],rfl,⟨⟨_,rfl,rfl,rfl⟩,⟨_,rfl,rfl,rfl⟩,⟨_,rfl,rfl,rfl⟩,⟨_,rfl,rfl,rfl⟩,trivial⟩,trivial,by rw [hk]; decide⟩⟩
   ·
    exact ⟨by omega,any_take hno he1 c2_⟩
   · omega
  have c1_ := c1
  try simp only [sB] at c1
  refine w_exit ?_
  refine q_then_exit ?_
  refine q_then_exit ?_
  refine q_block_exit ?_
  refine q_then ?_
  refine w_seq ?_
  refine w_R ?_
  refine qa hnt rfl rfl ?_
  refine r_end ?_
  refine q_then ?_
  refine w_le (s := 4) (y := pB (meetsW a b)) rfl (le_of_eq (congrArg (fun z : Bool => pB z) (show false = (meetsW a b) by exact (any_all hno (by omega)).symm))) ?_
  refine w_ret ?_
  exact fin_plain (ret_tmp rfl ret_nil) rfl rfl ⟨rfl,rfl,rfl⟩
theorem w_burgageref7_Meets (a : List TWindow) (cl_a : Bool) (b : List TWindow) (cl_b : Bool) (ha : a.length ≤ 1000) (hb : b.length ≤ 1000) :
    T Try.prog 40 [pS 4 cl_a eWindow a,pS 4 cl_b eWindow b] 0 [] (Ret (pB (meetsW a b)) 0 []) := by
 refine t_fun tabOk (n := 55) (rs := [.tmp 4]) Try.func40 rfl rfl rfl rfl (Nat.le_of_ble_eq_true rfl) ?_
 intro c hnt hk
 refine w_seq ?_
 refine w_R ?_
 refine qa hnt rfl rfl ?_
 refine r_end ?_
 refine q_then ?_
 refine w_seq ?_
 refine w_seq ?_
 refine w_R ?_
 refine qm hnt rfl rfl ?_
 refine qo hnt rfl (s_lenM (l := a) tab_22 rfl (hM_sl (f := eWindow) rfl) ?_)
 refine qm hnt rfl rfl ?_
 refine r_end ?_
 refine q_then ?_
 refine w_block ?_
 refine loop1 (fun (i : Nat) => i ≤ a.length ∧ (a.take i).any (fun x => b.any fun y => meetW x y) = false) (fun (i : Nat) => [(1,pS 4 cl_b eWindow b),(11,pS 4 cl_a eWindow a),(12,pN a.length),(13,pN i)]) 0 (fun (i : Nat) => []) (fun (i : Nat) => a.length - i) (0) ?_ ⟨[],rfl,⟨⟨_,rfl,rfl,rfl⟩,⟨_,rfl,rfl,rfl⟩,⟨_,rfl,rfl,rfl⟩,⟨_,rfl,rfl,rfl⟩,trivial⟩,trivial,by rw [hk]; decide⟩ ?_
 · exact ⟨by omega,rfl⟩
 ·
  intro i hI
  obtain ⟨hi,hno⟩ := hI
  refine w_seq ?_
  refine w_R ?_
  refine qo hnt rfl (s_lss rfl rfl ?_)
  refine r_end ?_
  refine q_then ?_
  refine w_seq ?_
  refine w_if rfl (fun c1 => ?_) (fun c1 => ?_)
  ·
   have c1_ := c1
   try simp only [sB] at c1
   refine w_skip ?_
   refine q_then ?_
   refine w_seq ?_
   refine w_block ?_
   refine w_seq ?_
   refine w_R ?_
   obtain ⟨e1,he1⟩ := get_of_lt a (i := i) (by omega)
   refine qo hnt rfl (s_iaM (q := i) (b := e1) (f := eWindow) tab_22 rfl tab_28 rfl rfl (by omega) rfl he1 ?_)
   refine qo hnt rfl (s_load_ro tab_28 rfl rfl rfl ?_)
   refine qo hnt rfl (s_alloc tab_28 ?_)
   refine qo hnt rfl (s_store_ptr tab_28 rfl rfl rfl rfl rfl (Nat.le_of_ble_eq_true rfl) ?_)
   refine r_set [(1,pS 4 cl_b eWindow b),(6,PV.ptr 0 0),(11,pS 4 cl_a eWindow a),(12,pN a.length),(13,pN i)] [(0,.obj (cWindow e1))] 1 ⟨rfl,rfl,rfl,rfl,rfl,trivial⟩ rfl rfl ?_
   refine r_end ?_
   refine q_then ?_
   refine w_seq ?_
   refine w_R ?_
   refine qm hnt rfl rfl ?_
   refine qo hnt rfl (s_lenM (l := b) tab_22 rfl (hM_sl (f := eWindow) rfl) ?_)
   refine qm hnt rfl rfl ?_
   refine r_end ?_
   refine q_then ?_
   refine w_block ?_
   refine loop1 (fun (j : Nat) => j ≤ b.length ∧ (b.take j).any (fun y => meetW e1 y) = false) (fun (j : Nat) => [(1,pS 4 cl_b eWindow b),(6,PV.ptr 0 0),(11,pS 4 cl_a eWindow a),(12,pN a.length),(13,pN i),(17,pS 4 cl_b eWindow b),(18,pN b.length),(19,pN j)]) 1 (fun (j : Nat) => [(0,.obj (cWindow e1))]) (fun (j : Nat) => b.length - j) (0) ?_ ⟨[(0,0)],by rw [hk]; decide,⟨⟨_,rfl,rfl,rfl⟩,⟨_,rfl,rfl,rfl⟩,⟨_,rfl,rfl,rfl⟩,⟨_,rfl,rfl,rfl⟩,⟨_,rfl,rfl,rfl⟩,⟨_,rfl,rfl,rfl⟩,⟨_,rfl,rfl,rfl⟩,⟨_,rfl,rfl,rfl⟩,trivial⟩,⟨⟨_,_,rfl,rfl,rfl,rfl⟩,trivial⟩,by rw [hk]; decide⟩ ?_
   · exact ⟨by omega,rfl⟩
   ·
    intro j hJ
    obtain ⟨hj,hnb⟩ := hJ
    refine w_seq ?_
    refine w_R ?_
    refine qo hnt rfl (s_lss rfl rfl ?_)
    refine r_end ?_
    refine q_then ?_
    refine w_seq ?_
    refine w_if rfl (fun c2 => ?_) (fun c2 => ?_)
    ·
     have c2_ := c2
     try simp only [sB] at c2
     refine w_skip ?_
     refine q_then ?_
     refine w_seq ?_
     refine w_block ?_
     refine w_seq ?_
     refine w_R ?_
     obtain ⟨e2,he2⟩ := get_of_lt b (i := j) (by omega)
     refine qo hnt rfl (s_iaM (q := j) (b := e2) (f := eWindow) tab_22 rfl tab_28 rfl rfl (by omega) rfl he2 ?_)
     refine qo hnt rfl (s_load_ro tab_28 rfl rfl rfl ?_)
     refine qo hnt rfl (s_alloc tab_28 ?_)
     refine qo hnt rfl (s_store_ptr tab_28 rfl rfl rfl rfl rfl (Nat.le_of_ble_eq_true rfl) ?_)
     refine r_set [(1,pS 4 cl_b eWindow b),(6,PV.ptr 0 0),(8,PV.ptr 1 0),(11,pS 4 cl_a eWindow a),(12,pN a.length),(13,pN i),(17,pS 4 cl_b eWindow b),(18,pN b.length),(19,pN j)] [(1,.obj (cWindow e2)),(0,.obj (cWindow e1))] 2 ⟨rfl,rfl,rfl,rfl,rfl,rfl,rfl,rfl,rfl,trivial⟩ rfl rfl ?_
     refine r_end ?_
     refine q_then ?_
     refine w_seq ?_
     refine w_R ?_
     refine qo hnt rfl (s_fa_ptr tab_28 rfl rfl tab_3 (by decide) rfl ?_)
     refine qo hnt rfl (s_load_ptr1 tab_3 rfl rfl rfl rfl rfl ?_)
     refine qo hnt rfl (s_fa_ptr tab_28 rfl rfl tab_3 (by decide) rfl ?_)
     refine qo hnt rfl (s_load_ptr1 tab_3 rfl rfl rfl rfl rfl ?_)
     refine qo hnt rfl (s_build tab_119 rfl rfl (b_cons rfl tab_3 rfl rfl rfl (Nat.le_of_ble_eq_true rfl) (b_cons rfl tab_3 rfl rfl rfl (Nat.le_of_ble_eq_true rfl) (b_nil ?_))))
     refine qo hnt rfl (s_fa_ptr tab_28 rfl rfl tab_3 (by decide) rfl ?_)
     refine qo hnt rfl (s_load_ptr1 tab_3 rfl rfl rfl rfl rfl ?_)
     refine qo hnt rfl (s_fa_ptr tab_28 rfl rfl tab_3 (by decide) rfl ?_)
     refine qo hnt rfl (s_load_ptr1 tab_3 rfl rfl rfl rfl rfl ?_)
     refine qo hnt rfl (s_build tab_119 rfl rfl (b_cons rfl tab_3 rfl rfl rfl (Nat.le_of_ble_eq_true rfl) (b_cons rfl tab_3 rfl rfl rfl (Nat.le_of_ble_eq_true rfl) (b_nil ?_))))
     refine qo hnt rfl (s_callF rfl rfl rfl (w_burgageref7_Meet (⟨e1.physical,e1.count⟩ : TSpan) (⟨e2.physical,e2.count⟩ : TSpan)) rfl ?_)
     refine qm hnt rfl rfl ?_
     refine qo hnt rfl (s_extract rfl rfl ?_)
     refine qo hnt rfl (s_extract rfl rfl ?_)
     refine qo hnt rfl (s_alloc tab_119 ?_)
     refine qo hnt rfl (s_store_ptr tab_119 rfl rfl rfl rfl rfl (Nat.le_of_ble_eq_true rfl) ?_)
     refine qa hnt rfl rfl ?_
     refine r_set [(1,pS 4 cl_b eWindow b),(6,PV.ptr 0 0),(8,PV.ptr 1 0),(10,pB (meetOk (⟨e1.physical,e1.count⟩ : TSpan) (⟨e2.physical,e2.count⟩ : TSpan))),(11,pS 4 cl_a eWindow a),(12,pN a.length),(13,pN i),(17,pS 4 cl_b eWindow b),(18,pN b.length),(19,pN j)] [(2,.obj [pI ((meetV (⟨e1.physical,e1.count⟩ : TSpan) (⟨e2.physical,e2.count⟩ : TSpan)).at_),pI ((meetV (⟨e1.physical,e1.count⟩ : TSpan) (⟨e2.physical,e2.count⟩ : TSpan)).count)]),(1,.obj (cWindow e2)),(0,.obj (cWindow e1))] 3 ⟨rfl,rfl,rfl,rfl,rfl,rfl,rfl,rfl,rfl,rfl,trivial⟩ rfl rfl ?_
     refine r_end ?_
     refine q_then ?_
     refine w_seq ?_
     refine w_R ?_
     refine qm hnt rfl rfl ?_
     refine qm hnt rfl rfl ?_
     refine r_cut0 3 [(1,pS 4 cl_b eWindow b),(6,PV.ptr 0 0),(8,PV.ptr 1 0),(11,pS 4 cl_a eWindow a),(12,pN a.length),(13,pN i),(17,pS 4 cl_b eWindow b),(18,pN b.length),(19,pN j),(41,pB ((meetOk (⟨e1.physical,e1.count⟩ : TSpan) (⟨e2.physical,e2.count⟩ : TSpan)) && (winR e1)))] ?_ ?_
     ·
      refine r_if tabOk hnt rfl rfl rfl (fun g1 => ?_) (fun g1 => ?_)
      ·
       have g1' := g1
       try simp only [sB] at g1'
       refine qo hnt rfl (s_load_ptr tab_28 rfl rfl rfl (Nat.le_of_ble_eq_true rfl) ?_)
       refine ry hnt rfl rfl rfl g1 ?_
       refine qo hnt rfl (s_callF rfl rfl rfl (w_burgageref7_Window e1) rfl ?_)
       refine qo hnt rfl (s_pick_t rfl g1 rfl ?_)
       refine r_eq (s := 41) (y := pB ((meetOk (⟨e1.physical,e1.count⟩ : TSpan) (⟨e2.physical,e2.count⟩ : TSpan)) && (winR e1))) rfl (mix_at g1) ?_
       exact r_mid ⟨⟨rfl,rfl,rfl,rfl,rfl,rfl,rfl,rfl,rfl,rfl,trivial⟩,rfl,rfl⟩
      ·
       have g1' := g1
       try simp only [sB] at g1'
       refine rn hnt rfl rfl rfl g1 ?_
       refine qo hnt rfl (s_pick_f rfl g1 rfl ?_)
       refine r_eq (s := 41) (y := pB ((meetOk (⟨e1.physical,e1.count⟩ : TSpan) (⟨e2.physical,e2.count⟩ : TSpan)) && (winR e1))) rfl (mix_af _ g1) ?_
       exact r_mid ⟨⟨rfl,rfl,rfl,rfl,rfl,rfl,rfl,rfl,rfl,rfl,trivial⟩,rfl,rfl⟩
     ·
      refine qm hnt rfl rfl ?_
      refine r_cut0 3 [(1,pS 4 cl_b eWindow b),(6,PV.ptr 0 0),(8,PV.ptr 1 0),(11,pS 4 cl_a eWindow a),(12,pN a.length),(13,pN i),(17,pS 4 cl_b eWindow b),(18,pN b.length),(19,pN j),(45,pB (((meetOk (⟨e1.physical,e1.count⟩ : TSpan) (⟨e2.physical,e2.count⟩ : TSpan)) && (winR e1)) && (winR e2)))] ?_ ?_
      ·
       refine r_if tabOk hnt rfl rfl rfl (fun g2 => ?_) (fun g2 => ?_)
       ·
        have g2' := g2
        try simp only [sB] at g2'
        refine qo hnt rfl (s_load_ptr tab_28 rfl rfl rfl (Nat.le_of_ble_eq_true rfl) ?_)
        refine ry hnt rfl rfl rfl g2 ?_
        refine qo hnt rfl (s_callF rfl rfl rfl (w_burgageref7_Window e2) rfl ?_)
        refine qo hnt rfl (s_pick_t rfl g2 rfl ?_)
        refine r_eq (s := 45) (y := pB (((meetOk (⟨e1.physical,e1.count⟩ : TSpan) (⟨e2.physical,e2.count⟩ : TSpan)) && (winR e1)) && (winR e2))) rfl (mix_at g2) ?_
        exact r_mid ⟨⟨rfl,rfl,rfl,rfl,rfl,rfl,rfl,rfl,rfl,rfl,trivial⟩,rfl,rfl⟩
       ·
        have g2' := g2
        try simp only [sB] at g2'
        refine rn hnt rfl rfl rfl g2 ?_
        refine qo hnt rfl (s_pick_f rfl g2 rfl ?_)
        refine r_eq (s := 45) (y := pB (((meetOk (⟨e1.physical,e1.count⟩ : TSpan) (⟨e2.physical,e2.count⟩ : TSpan)) && (winR e1)) && (winR e2))) rfl (mix_af _ g2) ?_
        exact r_mid ⟨⟨rfl,rfl,rfl,rfl,rfl,rfl,rfl,rfl,rfl,rfl,trivial⟩,rfl,rfl⟩
      ·
       refine qm hnt rfl rfl ?_
       refine r_cut0 6 [(1,pS 4 cl_b eWindow b),(6,PV.ptr 0 0),(11,pS 4 cl_a eWindow a),(12,pN a.length),(13,pN i),(17,pS 4 cl_b eWindow b),(18,pN b.length),(19,pN j),(52,pB ((((meetOk (⟨e1.physical,e1.count⟩ : TSpan) (⟨e2.physical,e2.count⟩ : TSpan)) && (winR e1)) && (winR e2)) && (decide (e1.space = e2.space))))] ?_ ?_
       ·
        refine r_if tabOk hnt rfl rfl rfl (fun g3 => ?_) (fun g3 => ?_)
        ·
         have g3' := g3
         try simp only [sB] at g3'
         refine qo hnt rfl (s_fa_ptr tab_28 rfl rfl tab_3 (by decide) rfl ?_)
         refine ry hnt rfl rfl rfl g3 ?_
         refine qo hnt rfl (s_load_ptr1 tab_3 rfl rfl rfl rfl rfl ?_)
         refine ry hnt rfl rfl rfl g3 ?_
         refine qo hnt rfl (s_fa_ptr tab_28 rfl rfl tab_3 (by decide) rfl ?_)
         refine ry hnt rfl rfl rfl g3 ?_
         refine qo hnt rfl (s_load_ptr1 tab_3 rfl rfl rfl rfl rfl ?_)
         refine ry hnt rfl rfl rfl g3 ?_
         refine qo hnt rfl (s_eql rfl rfl ?_)
         refine qo hnt rfl (s_pick_t rfl g3 rfl ?_)
         refine r_eq (s := 52) (y := pB ((((meetOk (⟨e1.physical,e1.count⟩ : TSpan) (⟨e2.physical,e2.count⟩ : TSpan)) && (winR e1)) && (winR e2)) && (decide (e1.space = e2.space)))) rfl (mix_at g3) ?_
         exact r_mid ⟨⟨rfl,rfl,rfl,rfl,rfl,rfl,rfl,rfl,rfl,trivial⟩,rfl,rfl⟩
        ·
         have g3' := g3
         try simp only [sB] at g3'
         refine rn hnt rfl rfl rfl g3 ?_
         refine rn hnt rfl rfl rfl g3 ?_
         refine rn hnt rfl rfl rfl g3 ?_
         refine rn hnt rfl rfl rfl g3 ?_
         refine qo hnt rfl (s_pick_f rfl g3 rfl ?_)
         refine r_eq (s := 52) (y := pB ((((meetOk (⟨e1.physical,e1.count⟩ : TSpan) (⟨e2.physical,e2.count⟩ : TSpan)) && (winR e1)) && (winR e2)) && (decide (e1.space = e2.space)))) rfl (mix_af _ g3) ?_
         exact r_mid ⟨⟨rfl,rfl,rfl,rfl,rfl,rfl,rfl,rfl,rfl,trivial⟩,rfl,rfl⟩
       ·
        refine r_end ?_
        refine q_then ?_
        refine w_if rfl (fun c3 => ?_) (fun c3 => ?_)
        ·
         have c3_ := c3
         try simp only [sB] at c3
         refine w_seq ?_
         refine w_R ?_
         refine qa hnt rfl rfl ?_
         refine r_end ?_
         refine q_then ?_
         refine w_le (s := 4) (y := pB (meetsW a b)) rfl (le_of_eq (congrArg (fun z : Bool => pB z) (show true = (meetsW a b) by exact (any_found he1 (any_found he2 (by rw [← meet_ref]; exact c3_))).symm))) ?_
         refine w_ret ?_
         refine q_block_ret ?_
         refine q_then_ret ?_
         refine q_then_ret ?_
         refine q_block_ret ?_
         refine q_block_ret ?_
         refine q_then_ret ?_
         refine q_then_ret ?_
         refine q_block_ret ?_
         refine q_then_ret ?_
         exact fin_plain (ret_tmp rfl ret_nil) rfl rfl ⟨rfl,rfl,rfl⟩
        have c3_ := c3
        try simp only [sB] at c3
        refine w_skip ?_
        refine q_block ?_
        refine q_then ?_
        refine w_R ?_
        refine qo hnt rfl (s_addN (a := j) (b := 1) rfl rfl (by omega) (by omega) (by omega) ?_)
        refine qm hnt rfl rfl ?_
        refine r_end ?_
        refine q_then ?_
        refine ⟨(j + 1), ?_, ?_,⟨[(0,0)],by rw [hk]; decide,⟨⟨_,rfl,rfl,rfl⟩,⟨_,rfl,rfl,rfl⟩,⟨_,rfl,rfl,rfl⟩,⟨_,rfl,rfl,rfl⟩,⟨_,rfl,rfl,rfl⟩,⟨_,rfl,rfl,rfl⟩,⟨_,rfl,rfl,rfl⟩,⟨_,rfl,rfl,rfl⟩,trivial⟩,⟨⟨_,_,rfl,rfl,rfl,rfl⟩,trivial⟩,by rw [hk]; decide⟩⟩
        ·
         exact ⟨by omega,any_take hnb he2 (by rw [← meet_ref]; exact c3_)⟩
        · omega
    have c2_ := c2
    try simp only [sB] at c2
    refine w_exit ?_
    refine q_then_exit ?_
    refine q_then_exit ?_
    refine q_block_exit ?_
    refine q_block ?_
    refine q_then ?_
    refine w_R ?_
    refine qo hnt rfl (s_addN (a := i) (b := 1) rfl rfl (by omega) (by omega) (by omega) ?_)
    refine qm hnt rfl rfl ?_
    refine r_end ?_
    refine q_then ?_
    refine ⟨(i + 1), ?_, ?_,⟨[],rfl,⟨⟨_,rfl,rfl,rfl⟩,⟨_,rfl,rfl,rfl⟩,⟨_,rfl,rfl,rfl⟩,⟨_,rfl,rfl,rfl⟩,trivial⟩,trivial,by rw [hk]; decide⟩⟩
    ·
     exact ⟨by omega,any_take hno he1 (any_all hnb (by omega))⟩
    · omega
  have c1_ := c1
  try simp only [sB] at c1
  refine w_exit ?_
  refine q_then_exit ?_
  refine q_then_exit ?_
  refine q_block_exit ?_
  refine q_then ?_
  refine w_seq ?_
  refine w_R ?_
  refine qa hnt rfl rfl ?_
  refine r_end ?_
  refine q_then ?_
  refine w_le (s := 4) (y := pB (meetsW a b)) rfl (le_of_eq (congrArg (fun z : Bool => pB z) (show false = (meetsW a b) by exact (any_all hno (by omega)).symm))) ?_
  refine w_ret ?_
  exact fin_plain (ret_tmp rfl ret_nil) rfl rfl ⟨rfl,rfl,rfl⟩
theorem w_window_Own (l : List TWindow) (cl_l : Bool) (hl : l.length ≤ 1000) :
    T Try.prog 18 [pS 4 cl_l eWindow l] 0 [] (Ret (pB (ownW l)) 0 []) := by
 refine t_fun tabOk (n := 55) (rs := [.tmp 2]) Try.func18 rfl rfl rfl rfl (Nat.le_of_ble_eq_true rfl) ?_
 intro c hnt hk
 refine w_seq ?_
 refine w_R ?_
 refine qa hnt rfl rfl ?_
 refine r_end ?_
 refine q_then ?_
 refine w_seq ?_
 refine w_seq ?_
 refine w_R ?_
 refine qm hnt rfl rfl ?_
 refine qo hnt rfl (s_lenM (l := l) tab_22 rfl (hM_sl (f := eWindow) rfl) ?_)
 refine qm hnt rfl rfl ?_
 refine r_end ?_
 refine q_then ?_
 refine w_block ?_
 refine loop1 (fun (i : Nat) => i ≤ l.length ∧ ∀ (k j : Nat) x y,k < i → j < k → l[k]? = some x → l[j]? = some y → clashW x y = false) (fun (i : Nat) => [(0,pS 4 cl_l eWindow l),(9,pS 4 cl_l eWindow l),(10,pN l.length),(11,pN i)]) 0 (fun (i : Nat) => []) (fun (i : Nat) => l.length - i) (0) ?_ ⟨[],rfl,⟨⟨_,rfl,rfl,rfl⟩,⟨_,rfl,rfl,rfl⟩,⟨_,rfl,rfl,rfl⟩,⟨_,rfl,rfl,rfl⟩,trivial⟩,trivial,by rw [hk]; decide⟩ ?_
 · exact ⟨by omega,fun k j x y hk => by omega⟩
 ·
  intro i hI
  obtain ⟨hi,hno⟩ := hI
  refine w_seq ?_
  refine w_R ?_
  refine qo hnt rfl (s_lss rfl rfl ?_)
  refine r_end ?_
  refine q_then ?_
  refine w_seq ?_
  refine w_if rfl (fun c1 => ?_) (fun c1 => ?_)
  ·
   have c1_ := c1
   try simp only [sB] at c1
   refine w_skip ?_
   refine q_then ?_
   refine w_seq ?_
   refine w_block ?_
   refine w_seq ?_
   refine w_R ?_
   refine qm hnt rfl rfl ?_
   obtain ⟨e1,he1⟩ := get_of_lt l (i := i) (by omega)
   refine qo hnt rfl (s_iaM (q := i) (b := e1) (f := eWindow) tab_22 rfl tab_28 rfl rfl (by omega) rfl he1 ?_)
   refine qo hnt rfl (s_load_ro tab_28 rfl rfl rfl ?_)
   refine qo hnt rfl (s_alloc tab_28 ?_)
   refine qa hnt rfl rfl ?_
   refine qo hnt rfl (s_store_ptr tab_28 rfl rfl rfl rfl rfl (Nat.le_of_ble_eq_true rfl) ?_)
   refine r_set [(0,pS 4 cl_l eWindow l),(3,pN i),(4,PV.ptr 0 0),(9,pS 4 cl_l eWindow l),(10,pN l.length),(11,pN i)] [(0,.obj (cWindow e1))] 1 ⟨rfl,rfl,rfl,rfl,rfl,rfl,trivial⟩ rfl rfl ?_
   refine r_end ?_
   refine q_then ?_
   refine w_seq ?_
   refine w_R ?_
   refine qm hnt rfl rfl ?_
   refine qm hnt rfl rfl ?_
   refine qo hnt rfl (s_cutM_hi (b := i) (f := eWindow) (l := l) tab_22 rfl tab_28 ⟨rfl,by decide⟩ rfl (bound_some rfl (by omega)) (by omega) ?_)
   refine qo hnt rfl (s_lenM (l := l.take i) tab_22 rfl (hM_sl (f := eWindow) rfl) ?_)
   refine qm hnt rfl rfl ?_
   refine r_end ?_
   refine q_then ?_
   refine w_block ?_
   refine loop1 (fun (j : Nat) => j ≤ (l.take i).length ∧ ∀ q b,q < j → (l.take i)[q]? = some b → clashW e1 b = false) (fun (j : Nat) => [(0,pS 4 cl_l eWindow l),(4,PV.ptr 0 0),(9,pS 4 cl_l eWindow l),(10,pN l.length),(11,pN i),(18,pS 4 false eWindow (l.take i)),(19,pN ((l.take i).length)),(20,pN j)]) 1 (fun (j : Nat) => [(0,.obj (cWindow e1))]) (fun (j : Nat) => (l.take i).length - j) (0) ?_ ⟨[(0,0)],by rw [hk]; decide,⟨⟨_,rfl,rfl,rfl⟩,⟨_,rfl,rfl,rfl⟩,⟨_,rfl,rfl,rfl⟩,⟨_,rfl,rfl,rfl⟩,⟨_,rfl,rfl,rfl⟩,⟨_,rfl,rfl,rfl⟩,⟨_,rfl,rfl,rfl⟩,⟨_,rfl,rfl,rfl⟩,trivial⟩,⟨⟨_,_,rfl,rfl,rfl,rfl⟩,trivial⟩,by rw [hk]; decide⟩ ?_
   · exact ⟨by omega,fun q b hq => by omega⟩
   ·
    intro j hJ
    obtain ⟨hj,hnb⟩ := hJ
    have htl : (l.take i).length ≤ 1000 := by rw [List.length_take]; omega
    refine w_seq ?_
    refine w_R ?_
    refine qo hnt rfl (s_lss rfl rfl ?_)
    refine r_end ?_
    refine q_then ?_
    refine w_seq ?_
    refine w_if rfl (fun c2 => ?_) (fun c2 => ?_)
    ·
     have c2_ := c2
     try simp only [sB] at c2
     refine w_skip ?_
     refine q_then ?_
     refine w_seq ?_
     refine w_block ?_
     refine w_seq ?_
     refine w_R ?_
     obtain ⟨e2,he2⟩ := get_of_lt (l.take i) (i := j) (by omega)
     refine qo hnt rfl (s_iaM (q := j) (b := e2) (f := eWindow) tab_22 rfl tab_28 rfl rfl (by omega) rfl he2 ?_)
     refine qo hnt rfl (s_load_ro tab_28 rfl rfl rfl ?_)
     refine qo hnt rfl (s_alloc tab_28 ?_)
     refine qo hnt rfl (s_store_ptr tab_28 rfl rfl rfl rfl rfl (Nat.le_of_ble_eq_true rfl) ?_)
     refine r_set [(0,pS 4 cl_l eWindow l),(4,PV.ptr 0 0),(6,PV.ptr 1 0),(9,pS 4 cl_l eWindow l),(10,pN l.length),(11,pN i),(18,pS 4 false eWindow (l.take i)),(19,pN ((l.take i).length)),(20,pN j)] [(1,.obj (cWindow e2)),(0,.obj (cWindow e1))] 2 ⟨rfl,rfl,rfl,rfl,rfl,rfl,rfl,rfl,rfl,trivial⟩ rfl rfl ?_
     refine r_end ?_
     refine q_then ?_
     refine w_seq ?_
     refine W_drawn tabOk mixed hnt [[],[0],[],[0,1,2],[0,1,2,3],[0,1,2,3,4],[0,1,2,3,4,5],[0,1,2,3,4,5],[],[0,1,2,3,4,5,6,8],[0,1,2,3,4,5,6,7,8,9]] (by kernel_rfl) ?_
     refine d_op ?_
     refine xL [(4,PV.ptr 0 0)] [] [(0,.obj (cWindow e1))] rfl rfl rfl rfl rfl (s_load_ptr tab_28 rfl rfl rfl (Nat.le_of_ble_eq_true rfl) ⟨rfl,rfl,rfl⟩) ⟨rfl,trivial⟩ rfl ?_
     refine d_op ?_
     refine x_run0 [(25,PV.f (eWindow e1))] [0] rfl rfl rfl rfl (s_callF rfl rfl rfl (w_window_virtual e1) rfl ⟨rfl,rfl,rfl⟩) ?_
     refine d_op ?_
     refine xL [(6,PV.ptr 1 0)] [] [(1,.obj (cWindow e2))] rfl rfl rfl rfl rfl (s_load_ptr tab_28 rfl rfl rfl (Nat.le_of_ble_eq_true rfl) ⟨rfl,rfl,rfl⟩) ⟨rfl,trivial⟩ rfl ?_
     refine d_op ?_
     refine x_run0 [(27,PV.f (eWindow e2))] [0,1,2] rfl rfl rfl rfl (s_callF rfl rfl rfl (w_window_virtual e2) rfl ⟨rfl,rfl,rfl⟩) ?_
     refine d_op ?_
     refine x_run0 [(26,PV.f (eSpan (vSp e1))),(28,PV.f (eSpan (vSp e2)))] [0,1,2,3] rfl rfl rfl rfl (s_callF rfl rfl rfl (w_span_Meet (vSp e1) (vSp e2)) rfl ⟨rfl,rfl,rfl⟩) ?_
     refine d_op ?_
     refine x_run0 [(29,PV.tup [PV.f (eSpan (meetV (vSp e1) (vSp e2))),pB (meetOk (vSp e1) (vSp e2))])] [0,1,2,3,4] rfl rfl rfl rfl (s_move rfl ⟨rfl,rfl,rfl⟩) ?_
     refine d_op ?_
     refine x_run0 [(24,PV.tup [PV.f (eSpan (meetV (vSp e1) (vSp e2))),pB (meetOk (vSp e1) (vSp e2))])] [0,1,2,3,4,5] rfl rfl rfl rfl (s_extract rfl rfl ⟨rfl,rfl,rfl⟩) ?_
     refine d_op ?_
     refine x_run0 [(24,PV.tup [PV.f (eSpan (meetV (vSp e1) (vSp e2))),pB (meetOk (vSp e1) (vSp e2))])] [0,1,2,3,4,5] rfl rfl rfl rfl (s_extract rfl rfl ⟨rfl,rfl,rfl⟩) ?_
     refine d_op ?_
     refine xT [] [] [] [(2,.obj [pI 0,pI 0])] [(1,.obj (cWindow e2)),(0,.obj (cWindow e1))] rfl rfl rfl rfl rfl (s_alloc tab_89 ⟨rfl,rfl,rfl⟩) rfl rfl ?_
     refine d_op ?_
     refine xT [(7,PV.ptr 2 0),(30,PV.f (eSpan (meetV (vSp e1) (vSp e2))))] [0,1,2,3,4,5,6,8] [(2,.obj [pI 0,pI 0])] [(2,.obj (cSpan (meetV (vSp e1) (vSp e2))))] [(1,.obj (cWindow e2)),(0,.obj (cWindow e1))] rfl rfl rfl rfl rfl (s_store_ptr tab_89 rfl rfl rfl rfl rfl (Nat.le_of_ble_eq_true rfl) ⟨rfl,rfl,rfl⟩) rfl rfl ?_
     refine d_op ?_
     refine x_run0 [(31,pB (meetOk (vSp e1) (vSp e2)))] [0,1,2,3,4,5,6,7,8,9] rfl rfl rfl rfl (s_assign rfl ⟨rfl,rfl,rfl⟩) ?_
     refine d_end ⟨by kernel_rfl, ?_⟩
     refine q_then ?_
     refine w_seq ?_
     refine w_R ?_
     refine qo hnt rfl (s_load_ptr tab_28 rfl rfl rfl (Nat.le_of_ble_eq_true rfl) ?_)
     refine qo hnt rfl (s_load_ptr tab_28 rfl rfl rfl (Nat.le_of_ble_eq_true rfl) ?_)
     refine qo hnt rfl (s_callF rfl rfl rfl (w_window_meet e1 e2) rfl ?_)
     refine qm hnt rfl rfl ?_
     refine r_cut0 17 [(0,pS 4 cl_l eWindow l),(4,PV.ptr 0 0),(9,pS 4 cl_l eWindow l),(10,pN l.length),(11,pN i),(18,pS 4 false eWindow (l.take i)),(19,pN ((l.take i).length)),(20,pN j),(52,pB ((meetW e1 e2) || ((((meetOk (vSp e1) (vSp e2)) && (decide (e1.space = e2.space))) && (winR e1)) && (winR e2))))] ?_ ?_
     ·
      refine r_if tabOk hnt rfl rfl rfl (fun g1 => ?_) (fun g1 => ?_)
      ·
       have g1' := g1
       try simp only [sB] at g1'
       refine qm hnt rfl rfl ?_
       refine ry hnt rfl rfl rfl g1 ?_
       refine qm hnt rfl rfl ?_
       refine r_cut0 6 [(0,pS 4 cl_l eWindow l),(4,PV.ptr 0 0),(6,PV.ptr 1 0),(9,pS 4 cl_l eWindow l),(10,pN l.length),(11,pN i),(18,pS 4 false eWindow (l.take i)),(19,pN ((l.take i).length)),(20,pN j),(35,pB (meetW e1 e2)),(36,pB (meetOk (vSp e1) (vSp e2))),(37,pB (meetOk (vSp e1) (vSp e2))),(43,pB ((meetOk (vSp e1) (vSp e2)) && (decide (e1.space = e2.space))))] ?_ ?_
       ·
        refine r_if tabOk hnt rfl rfl rfl (fun g2 => ?_) (fun g2 => ?_)
        ·
         have g2' := g2
         try simp only [sB] at g2'
         refine qo hnt rfl (s_fa_ptr tab_28 rfl rfl tab_3 (by decide) rfl ?_)
         refine ry hnt rfl rfl rfl g2 ?_
         refine qo hnt rfl (s_load_ptr1 tab_3 rfl rfl rfl rfl rfl ?_)
         refine ry hnt rfl rfl rfl g2 ?_
         refine qo hnt rfl (s_fa_ptr tab_28 rfl rfl tab_3 (by decide) rfl ?_)
         refine ry hnt rfl rfl rfl g2 ?_
         refine qo hnt rfl (s_load_ptr1 tab_3 rfl rfl rfl rfl rfl ?_)
         refine ry hnt rfl rfl rfl g2 ?_
         refine qo hnt rfl (s_eql rfl rfl ?_)
         refine ry hnt rfl rfl rfl g1 ?_
         refine qo hnt rfl (s_pick_t rfl g2 rfl ?_)
         refine r_eq (s := 43) (y := pB ((meetOk (vSp e1) (vSp e2)) && (decide (e1.space = e2.space)))) rfl (mix_at g2) ?_
         exact r_mid ⟨⟨rfl,rfl,rfl,rfl,rfl,rfl,rfl,rfl,rfl,rfl,rfl,rfl,rfl,trivial⟩,rfl,rfl⟩
        ·
         have g2' := g2
         try simp only [sB] at g2'
         refine rn hnt rfl rfl rfl g2 ?_
         refine rn hnt rfl rfl rfl g2 ?_
         refine rn hnt rfl rfl rfl g2 ?_
         refine rn hnt rfl rfl rfl g2 ?_
         refine ry hnt rfl rfl rfl g1 ?_
         refine qo hnt rfl (s_pick_f rfl g2 rfl ?_)
         refine r_eq (s := 43) (y := pB ((meetOk (vSp e1) (vSp e2)) && (decide (e1.space = e2.space)))) rfl (mix_af _ g2) ?_
         exact r_mid ⟨⟨rfl,rfl,rfl,rfl,rfl,rfl,rfl,rfl,rfl,rfl,rfl,rfl,rfl,trivial⟩,rfl,rfl⟩
       ·
        refine ry hnt rfl rfl rfl g1 ?_
        refine qm hnt rfl rfl ?_
        refine r_cut0 3 [(0,pS 4 cl_l eWindow l),(4,PV.ptr 0 0),(6,PV.ptr 1 0),(9,pS 4 cl_l eWindow l),(10,pN l.length),(11,pN i),(18,pS 4 false eWindow (l.take i)),(19,pN ((l.take i).length)),(20,pN j),(35,pB (meetW e1 e2)),(36,pB (meetOk (vSp e1) (vSp e2))),(37,pB (meetOk (vSp e1) (vSp e2))),(43,pB ((meetOk (vSp e1) (vSp e2)) && (decide (e1.space = e2.space)))),(44,pB ((meetOk (vSp e1) (vSp e2)) && (decide (e1.space = e2.space)))),(47,pB (((meetOk (vSp e1) (vSp e2)) && (decide (e1.space = e2.space))) && (winR e1)))] ?_ ?_
        ·
         refine r_if tabOk hnt rfl rfl rfl (fun g3 => ?_) (fun g3 => ?_)
         ·
          have g3' := g3
          try simp only [sB] at g3'
          refine qo hnt rfl (s_load_ptr tab_28 rfl rfl rfl (Nat.le_of_ble_eq_true rfl) ?_)
          refine ry hnt rfl rfl rfl g3 ?_
          refine qo hnt rfl (s_callF rfl rfl rfl (w_window_Right e1) rfl ?_)
          refine ry hnt rfl rfl rfl g1 ?_
          refine qo hnt rfl (s_pick_t rfl g3 rfl ?_)
          refine r_eq (s := 47) (y := pB (((meetOk (vSp e1) (vSp e2)) && (decide (e1.space = e2.space))) && (winR e1))) rfl (mix_at g3) ?_
          exact r_mid ⟨⟨rfl,rfl,rfl,rfl,rfl,rfl,rfl,rfl,rfl,rfl,rfl,rfl,rfl,rfl,rfl,trivial⟩,rfl,rfl⟩
         ·
          have g3' := g3
          try simp only [sB] at g3'
          refine rn hnt rfl rfl rfl g3 ?_
          refine ry hnt rfl rfl rfl g1 ?_
          refine qo hnt rfl (s_pick_f rfl g3 rfl ?_)
          refine r_eq (s := 47) (y := pB (((meetOk (vSp e1) (vSp e2)) && (decide (e1.space = e2.space))) && (winR e1))) rfl (mix_af _ g3) ?_
          exact r_mid ⟨⟨rfl,rfl,rfl,rfl,rfl,rfl,rfl,rfl,rfl,rfl,rfl,rfl,rfl,rfl,rfl,trivial⟩,rfl,rfl⟩
        ·
         refine ry hnt rfl rfl rfl g1 ?_
         refine qm hnt rfl rfl ?_
         refine r_cut0 3 [(0,pS 4 cl_l eWindow l),(4,PV.ptr 0 0),(9,pS 4 cl_l eWindow l),(10,pN l.length),(11,pN i),(18,pS 4 false eWindow (l.take i)),(19,pN ((l.take i).length)),(20,pN j),(35,pB (meetW e1 e2)),(36,pB (meetOk (vSp e1) (vSp e2))),(37,pB (meetOk (vSp e1) (vSp e2))),(43,pB ((meetOk (vSp e1) (vSp e2)) && (decide (e1.space = e2.space)))),(44,pB ((meetOk (vSp e1) (vSp e2)) && (decide (e1.space = e2.space)))),(47,pB (((meetOk (vSp e1) (vSp e2)) && (decide (e1.space = e2.space))) && (winR e1))),(48,pB (((meetOk (vSp e1) (vSp e2)) && (decide (e1.space = e2.space))) && (winR e1))),(51,pB ((((meetOk (vSp e1) (vSp e2)) && (decide (e1.space = e2.space))) && (winR e1)) && (winR e2)))] ?_ ?_
         ·
          refine r_if tabOk hnt rfl rfl rfl (fun g4 => ?_) (fun g4 => ?_)
          ·
           have g4' := g4
           try simp only [sB] at g4'
           refine qo hnt rfl (s_load_ptr tab_28 rfl rfl rfl (Nat.le_of_ble_eq_true rfl) ?_)
           refine ry hnt rfl rfl rfl g4 ?_
           refine qo hnt rfl (s_callF rfl rfl rfl (w_window_Right e2) rfl ?_)
           refine ry hnt rfl rfl rfl g1 ?_
           refine qo hnt rfl (s_pick_t rfl g4 rfl ?_)
           refine r_eq (s := 51) (y := pB ((((meetOk (vSp e1) (vSp e2)) && (decide (e1.space = e2.space))) && (winR e1)) && (winR e2))) rfl (mix_at g4) ?_
           exact r_mid ⟨⟨rfl,rfl,rfl,rfl,rfl,rfl,rfl,rfl,rfl,rfl,rfl,rfl,rfl,rfl,rfl,rfl,trivial⟩,rfl,rfl⟩
          ·
           have g4' := g4
           try simp only [sB] at g4'
           refine rn hnt rfl rfl rfl g4 ?_
           refine ry hnt rfl rfl rfl g1 ?_
           refine qo hnt rfl (s_pick_f rfl g4 rfl ?_)
           refine r_eq (s := 51) (y := pB ((((meetOk (vSp e1) (vSp e2)) && (decide (e1.space = e2.space))) && (winR e1)) && (winR e2))) rfl (mix_af _ g4) ?_
           exact r_mid ⟨⟨rfl,rfl,rfl,rfl,rfl,rfl,rfl,rfl,rfl,rfl,rfl,rfl,rfl,rfl,rfl,rfl,trivial⟩,rfl,rfl⟩
         ·
          refine qo hnt rfl (s_pick_f rfl g1 rfl ?_)
          refine r_eq (s := 52) (y := pB ((meetW e1 e2) || ((((meetOk (vSp e1) (vSp e2)) && (decide (e1.space = e2.space))) && (winR e1)) && (winR e2)))) rfl (mix_of g1) ?_
          exact r_mid ⟨⟨rfl,rfl,rfl,rfl,rfl,rfl,rfl,rfl,rfl,trivial⟩,rfl,rfl⟩
      ·
       have g1' := g1
       try simp only [sB] at g1'
       refine rn hnt rfl rfl rfl g1 ?_
       refine ru hnt rfl rfl rfl ?_
       refine ru hnt rfl rfl rfl ?_
       refine ru hnt rfl rfl rfl ?_
       refine ru hnt rfl rfl rfl ?_
       refine ru hnt rfl rfl rfl ?_
       refine rn hnt rfl rfl rfl g1 ?_
       refine rn hnt rfl rfl rfl g1 ?_
       refine ru hnt rfl rfl rfl ?_
       refine ru hnt rfl rfl rfl ?_
       refine rn hnt rfl rfl rfl g1 ?_
       refine rn hnt rfl rfl rfl g1 ?_
       refine ru hnt rfl rfl rfl ?_
       refine ru hnt rfl rfl rfl ?_
       refine rn hnt rfl rfl rfl g1 ?_
       refine qo hnt rfl (s_pick_t rfl g1 rfl ?_)
       refine r_eq (s := 52) (y := pB ((meetW e1 e2) || ((((meetOk (vSp e1) (vSp e2)) && (decide (e1.space = e2.space))) && (winR e1)) && (winR e2)))) rfl (mix_ot _ g1) ?_
       exact r_mid ⟨⟨rfl,rfl,rfl,rfl,rfl,rfl,rfl,rfl,rfl,trivial⟩,rfl,rfl⟩
     ·
      refine r_end ?_
      refine q_then ?_
      refine w_if rfl (fun c3 => ?_) (fun c3 => ?_)
      ·
       have c3_ := c3
       try simp only [sB] at c3
       refine w_seq ?_
       refine w_R ?_
       refine qa hnt rfl rfl ?_
       refine r_end ?_
       refine q_then ?_
       refine w_le (s := 2) (y := pB (ownW l)) rfl (le_of_eq (congrArg (fun z : Bool => pB z) (show false = (ownW l) by exact (own_no he1 he2 c3_).symm))) ?_
       refine w_ret ?_
       refine q_block_ret ?_
       refine q_then_ret ?_
       refine q_then_ret ?_
       refine q_block_ret ?_
       refine q_block_ret ?_
       refine q_then_ret ?_
       refine q_then_ret ?_
       refine q_block_ret ?_
       refine q_then_ret ?_
       exact fin_plain (ret_tmp rfl ret_nil) rfl rfl ⟨rfl,rfl,rfl⟩
      have c3_ := c3
      try simp only [sB] at c3
      refine w_skip ?_
      refine q_block ?_
      refine q_then ?_
      refine w_R ?_
      refine qo hnt rfl (s_addN (a := j) (b := 1) rfl rfl (by omega) (by omega) (by omega) ?_)
      refine qm hnt rfl rfl ?_
      refine r_end ?_
      refine q_then ?_
      refine ⟨(j + 1), ?_, ?_,⟨[(0,0)],by rw [hk]; decide,⟨⟨_,rfl,rfl,rfl⟩,⟨_,rfl,rfl,rfl⟩,⟨_,rfl,rfl,rfl⟩,⟨_,rfl,rfl,rfl⟩,⟨_,rfl,rfl,rfl⟩,⟨_,rfl,rfl,rfl⟩,⟨_,rfl,rfl,rfl⟩,⟨_,rfl,rfl,rfl⟩,trivial⟩,⟨⟨_,_,rfl,rfl,rfl,rfl⟩,trivial⟩,by rw [hk]; decide⟩⟩
      ·
       refine ⟨by omega,fun q b hq hb => ?_⟩
       by_cases hqj : q < j
       · exact hnb q b hqj hb
       · obtain rfl : q = j := by omega
         rw [he2] at hb; cases hb; exact c3_
      · omega
    have c2_ := c2
    try simp only [sB] at c2
    refine w_exit ?_
    refine q_then_exit ?_
    refine q_then_exit ?_
    refine q_block_exit ?_
    refine q_block ?_
    refine q_then ?_
    refine w_R ?_
    refine qo hnt rfl (s_addN (a := i) (b := 1) rfl rfl (by omega) (by omega) (by omega) ?_)
    refine qm hnt rfl rfl ?_
    refine r_end ?_
    refine q_then ?_
    refine ⟨(i + 1), ?_, ?_,⟨[],rfl,⟨⟨_,rfl,rfl,rfl⟩,⟨_,rfl,rfl,rfl⟩,⟨_,rfl,rfl,rfl⟩,⟨_,rfl,rfl,rfl⟩,trivial⟩,trivial,by rw [hk]; decide⟩⟩
    ·
     exact ⟨by omega,own_row he1 hno (fun j b hj hb => hnb j b (by omega) hb)⟩
    · omega
  have c1_ := c1
  try simp only [sB] at c1
  refine w_exit ?_
  refine q_then_exit ?_
  refine q_then_exit ?_
  refine q_block_exit ?_
  refine q_then ?_
  refine w_seq ?_
  refine w_R ?_
  refine qa hnt rfl rfl ?_
  refine r_end ?_
  refine q_then ?_
  refine w_le (s := 2) (y := pB (ownW l)) rfl (le_of_eq (congrArg (fun z : Bool => pB z) (show true = (ownW l) by exact (own_yes (fun k j x y hj hx hy => hno k j x y (by have := (List.getElem?_eq_some_iff.1 hx).1; omega) hj hx hy)).symm))) ?_
  refine w_ret ?_
  exact fin_plain (ret_tmp rfl ret_nil) rfl rfl ⟨rfl,rfl,rfl⟩
theorem w_burgageref7_Own (l : List TWindow) (cl_l : Bool) (hl : l.length ≤ 1000) :
    T Try.prog 41 [pS 4 cl_l eWindow l] 0 [] (Ret (pB (ownW l)) 0 []) := by
 refine t_fun tabOk (n := 75) (rs := [.tmp 2]) Try.func41 rfl rfl rfl rfl (Nat.le_of_ble_eq_true rfl) ?_
 intro c hnt hk
 refine w_seq ?_
 refine w_R ?_
 refine qa hnt rfl rfl ?_
 refine r_end ?_
 refine q_then ?_
 refine w_seq ?_
 refine w_seq ?_
 refine w_R ?_
 refine qm hnt rfl rfl ?_
 refine qo hnt rfl (s_lenM (l := l) tab_22 rfl (hM_sl (f := eWindow) rfl) ?_)
 refine qm hnt rfl rfl ?_
 refine r_end ?_
 refine q_then ?_
 refine w_block ?_
 refine loop1 (fun (i : Nat) => i ≤ l.length ∧ ∀ (k j : Nat) x y,k < i → j < k → l[k]? = some x → l[j]? = some y → clashW x y = false) (fun (i : Nat) => [(0,pS 4 cl_l eWindow l),(11,pS 4 cl_l eWindow l),(12,pN l.length),(13,pN i)]) 0 (fun (i : Nat) => []) (fun (i : Nat) => l.length - i) (0) ?_ ⟨[],rfl,⟨⟨_,rfl,rfl,rfl⟩,⟨_,rfl,rfl,rfl⟩,⟨_,rfl,rfl,rfl⟩,⟨_,rfl,rfl,rfl⟩,trivial⟩,trivial,by rw [hk]; decide⟩ ?_
 · exact ⟨by omega,fun k j x y hk => by omega⟩
 ·
  intro i hI
  obtain ⟨hi,hno⟩ := hI
  refine w_seq ?_
  refine w_R ?_
  refine qo hnt rfl (s_lss rfl rfl ?_)
  refine r_end ?_
  refine q_then ?_
  refine w_seq ?_
  refine w_if rfl (fun c1 => ?_) (fun c1 => ?_)
  ·
   have c1_ := c1
   try simp only [sB] at c1
   refine w_skip ?_
   refine q_then ?_
   refine w_seq ?_
   refine w_block ?_
   refine w_seq ?_
   refine w_R ?_
   refine qm hnt rfl rfl ?_
   obtain ⟨e1,he1⟩ := get_of_lt l (i := i) (by omega)
   refine qo hnt rfl (s_iaM (q := i) (b := e1) (f := eWindow) tab_22 rfl tab_28 rfl rfl (by omega) rfl he1 ?_)
   refine qo hnt rfl (s_load_ro tab_28 rfl rfl rfl ?_)
   refine qo hnt rfl (s_alloc tab_28 ?_)
   refine qa hnt rfl rfl ?_
   refine qo hnt rfl (s_store_ptr tab_28 rfl rfl rfl rfl rfl (Nat.le_of_ble_eq_true rfl) ?_)
   refine r_set [(0,pS 4 cl_l eWindow l),(3,pN i),(4,PV.ptr 0 0),(11,pS 4 cl_l eWindow l),(12,pN l.length),(13,pN i)] [(0,.obj (cWindow e1))] 1 ⟨rfl,rfl,rfl,rfl,rfl,rfl,trivial⟩ rfl rfl ?_
   refine r_end ?_
   refine q_then ?_
   refine w_seq ?_
   refine w_R ?_
   refine qm hnt rfl rfl ?_
   refine qm hnt rfl rfl ?_
   refine qo hnt rfl (s_cutM_hi (b := i) (f := eWindow) (l := l) tab_22 rfl tab_28 ⟨rfl,by decide⟩ rfl (bound_some rfl (by omega)) (by omega) ?_)
   refine qo hnt rfl (s_lenM (l := l.take i) tab_22 rfl (hM_sl (f := eWindow) rfl) ?_)
   refine qm hnt rfl rfl ?_
   refine r_end ?_
   refine q_then ?_
   refine w_block ?_
   refine loop1 (fun (j : Nat) => j ≤ (l.take i).length ∧ ∀ q b,q < j → (l.take i)[q]? = some b → clashW e1 b = false) (fun (j : Nat) => [(0,pS 4 cl_l eWindow l),(4,PV.ptr 0 0),(11,pS 4 cl_l eWindow l),(12,pN l.length),(13,pN i),(20,pS 4 false eWindow (l.take i)),(21,pN ((l.take i).length)),(22,pN j)]) 1 (fun (j : Nat) => [(0,.obj (cWindow e1))]) (fun (j : Nat) => (l.take i).length - j) (0) ?_ ⟨[(0,0)],by rw [hk]; decide,⟨⟨_,rfl,rfl,rfl⟩,⟨_,rfl,rfl,rfl⟩,⟨_,rfl,rfl,rfl⟩,⟨_,rfl,rfl,rfl⟩,⟨_,rfl,rfl,rfl⟩,⟨_,rfl,rfl,rfl⟩,⟨_,rfl,rfl,rfl⟩,⟨_,rfl,rfl,rfl⟩,trivial⟩,⟨⟨_,_,rfl,rfl,rfl,rfl⟩,trivial⟩,by rw [hk]; decide⟩ ?_
   · exact ⟨by omega,fun q b hq => by omega⟩
   ·
    intro j hJ
    obtain ⟨hj,hnb⟩ := hJ
    have htl : (l.take i).length ≤ 1000 := by rw [List.length_take]; omega
    refine w_seq ?_
    refine w_R ?_
    refine qo hnt rfl (s_lss rfl rfl ?_)
    refine r_end ?_
    refine q_then ?_
    refine w_seq ?_
    refine w_if rfl (fun c2 => ?_) (fun c2 => ?_)
    ·
     have c2_ := c2
     try simp only [sB] at c2
     refine w_skip ?_
     refine q_then ?_
     refine w_seq ?_
     refine w_block ?_
     refine w_seq ?_
     refine w_R ?_
     obtain ⟨e2,he2⟩ := get_of_lt (l.take i) (i := j) (by omega)
     refine qo hnt rfl (s_iaM (q := j) (b := e2) (f := eWindow) tab_22 rfl tab_28 rfl rfl (by omega) rfl he2 ?_)
     refine qo hnt rfl (s_load_ro tab_28 rfl rfl rfl ?_)
     refine qo hnt rfl (s_alloc tab_28 ?_)
     refine qo hnt rfl (s_store_ptr tab_28 rfl rfl rfl rfl rfl (Nat.le_of_ble_eq_true rfl) ?_)
     refine r_set [(0,pS 4 cl_l eWindow l),(4,PV.ptr 0 0),(6,PV.ptr 1 0),(11,pS 4 cl_l eWindow l),(12,pN l.length),(13,pN i),(20,pS 4 false eWindow (l.take i)),(21,pN ((l.take i).length)),(22,pN j)] [(1,.obj (cWindow e2)),(0,.obj (cWindow e1))] 2 ⟨rfl,rfl,rfl,rfl,rfl,rfl,rfl,rfl,rfl,trivial⟩ rfl rfl ?_
     refine r_end ?_
     refine q_then ?_
     refine w_seq ?_
     refine w_R ?_
     refine qo hnt rfl (s_fa_ptr tab_28 rfl rfl tab_3 (by decide) rfl ?_)
     refine qo hnt rfl (s_load_ptr1 tab_3 rfl rfl rfl rfl rfl ?_)
     refine qo hnt rfl (s_fa_ptr tab_28 rfl rfl tab_3 (by decide) rfl ?_)
     refine qo hnt rfl (s_load_ptr1 tab_3 rfl rfl rfl rfl rfl ?_)
     refine qo hnt rfl (s_build tab_119 rfl rfl (b_cons rfl tab_3 rfl rfl rfl (Nat.le_of_ble_eq_true rfl) (b_cons rfl tab_3 rfl rfl rfl (Nat.le_of_ble_eq_true rfl) (b_nil ?_))))
     refine qo hnt rfl (s_fa_ptr tab_28 rfl rfl tab_3 (by decide) rfl ?_)
     refine qo hnt rfl (s_load_ptr1 tab_3 rfl rfl rfl rfl rfl ?_)
     refine qo hnt rfl (s_fa_ptr tab_28 rfl rfl tab_3 (by decide) rfl ?_)
     refine qo hnt rfl (s_load_ptr1 tab_3 rfl rfl rfl rfl rfl ?_)
     refine qo hnt rfl (s_build tab_119 rfl rfl (b_cons rfl tab_3 rfl rfl rfl (Nat.le_of_ble_eq_true rfl) (b_cons rfl tab_3 rfl rfl rfl (Nat.le_of_ble_eq_true rfl) (b_nil ?_))))
     refine qo hnt rfl (s_callF rfl rfl rfl (w_burgageref7_Meet (⟨e1.physical,e1.count⟩ : TSpan) (⟨e2.physical,e2.count⟩ : TSpan)) rfl ?_)
     refine qm hnt rfl rfl ?_
     refine qo hnt rfl (s_extract rfl rfl ?_)
     refine qo hnt rfl (s_extract rfl rfl ?_)
     refine qo hnt rfl (s_alloc tab_119 ?_)
     refine qo hnt rfl (s_store_ptr tab_119 rfl rfl rfl rfl rfl (Nat.le_of_ble_eq_true rfl) ?_)
     refine qa hnt rfl rfl ?_
     refine r_set [(0,pS 4 cl_l eWindow l),(4,PV.ptr 0 0),(6,PV.ptr 1 0),(8,pB (meetOk (⟨e1.physical,e1.count⟩ : TSpan) (⟨e2.physical,e2.count⟩ : TSpan))),(11,pS 4 cl_l eWindow l),(12,pN l.length),(13,pN i),(20,pS 4 false eWindow (l.take i)),(21,pN ((l.take i).length)),(22,pN j)] [(2,.obj [pI ((meetV (⟨e1.physical,e1.count⟩ : TSpan) (⟨e2.physical,e2.count⟩ : TSpan)).at_),pI ((meetV (⟨e1.physical,e1.count⟩ : TSpan) (⟨e2.physical,e2.count⟩ : TSpan)).count)]),(1,.obj (cWindow e2)),(0,.obj (cWindow e1))] 3 ⟨rfl,rfl,rfl,rfl,rfl,rfl,rfl,rfl,rfl,rfl,trivial⟩ rfl rfl ?_
     refine r_end ?_
     refine q_then ?_
     refine w_seq ?_
     refine w_R ?_
     refine qo hnt rfl (s_fa_ptr tab_28 rfl rfl tab_3 (by decide) rfl ?_)
     refine qo hnt rfl (s_load_ptr1 tab_3 rfl rfl rfl rfl rfl ?_)
     refine qo hnt rfl (s_fa_ptr tab_28 rfl rfl tab_3 (by decide) rfl ?_)
     refine qo hnt rfl (s_load_ptr1 tab_3 rfl rfl rfl rfl rfl ?_)
     refine qo hnt rfl (s_build tab_119 rfl rfl (b_cons rfl tab_3 rfl rfl rfl (Nat.le_of_ble_eq_true rfl) (b_cons rfl tab_3 rfl rfl rfl (Nat.le_of_ble_eq_true rfl) (b_nil ?_))))
     refine qo hnt rfl (s_fa_ptr tab_28 rfl rfl tab_3 (by decide) rfl ?_)
     refine qo hnt rfl (s_load_ptr1 tab_3 rfl rfl rfl rfl rfl ?_)
     refine qo hnt rfl (s_fa_ptr tab_28 rfl rfl tab_3 (by decide) rfl ?_)
     refine qo hnt rfl (s_load_ptr1 tab_3 rfl rfl rfl rfl rfl ?_)
     refine qo hnt rfl (s_build tab_119 rfl rfl (b_cons rfl tab_3 rfl rfl rfl (Nat.le_of_ble_eq_true rfl) (b_cons rfl tab_3 rfl rfl rfl (Nat.le_of_ble_eq_true rfl) (b_nil ?_))))
     refine qo hnt rfl (s_callF rfl rfl rfl (w_burgageref7_Meet (⟨e1.virtual,e1.count⟩ : TSpan) (⟨e2.virtual,e2.count⟩ : TSpan)) rfl ?_)
     refine qm hnt rfl rfl ?_
     refine qo hnt rfl (s_extract rfl rfl ?_)
     refine qo hnt rfl (s_extract rfl rfl ?_)
     refine qo hnt rfl (s_alloc tab_119 ?_)
     refine qo hnt rfl (s_store_ptr tab_119 rfl rfl rfl rfl rfl (Nat.le_of_ble_eq_true rfl) ?_)
     refine qa hnt rfl rfl ?_
     refine r_set [(0,pS 4 cl_l eWindow l),(4,PV.ptr 0 0),(6,PV.ptr 1 0),(8,pB (meetOk (⟨e1.physical,e1.count⟩ : TSpan) (⟨e2.physical,e2.count⟩ : TSpan))),(10,pB (meetOk (⟨e1.virtual,e1.count⟩ : TSpan) (⟨e2.virtual,e2.count⟩ : TSpan))),(11,pS 4 cl_l eWindow l),(12,pN l.length),(13,pN i),(20,pS 4 false eWindow (l.take i)),(21,pN ((l.take i).length)),(22,pN j)] [(3,.obj [pI ((meetV (⟨e1.virtual,e1.count⟩ : TSpan) (⟨e2.virtual,e2.count⟩ : TSpan)).at_),pI ((meetV (⟨e1.virtual,e1.count⟩ : TSpan) (⟨e2.virtual,e2.count⟩ : TSpan)).count)]),(2,.obj [pI ((meetV (⟨e1.physical,e1.count⟩ : TSpan) (⟨e2.physical,e2.count⟩ : TSpan)).at_),pI ((meetV (⟨e1.physical,e1.count⟩ : TSpan) (⟨e2.physical,e2.count⟩ : TSpan)).count)]),(1,.obj (cWindow e2)),(0,.obj (cWindow e1))] 4 ⟨rfl,rfl,rfl,rfl,rfl,rfl,rfl,rfl,rfl,rfl,rfl,trivial⟩ rfl rfl ?_
     refine r_end ?_
     refine q_then ?_
     refine w_seq ?_
     refine w_R ?_
     refine qo hnt rfl (s_fa_ptr tab_28 rfl rfl tab_3 (by decide) rfl ?_)
     refine qo hnt rfl (s_load_ptr1 tab_3 rfl rfl rfl rfl rfl ?_)
     refine qo hnt rfl (s_fa_ptr tab_28 rfl rfl tab_3 (by decide) rfl ?_)
     refine qo hnt rfl (s_load_ptr1 tab_3 rfl rfl rfl rfl rfl ?_)
     refine qo hnt rfl (s_eql rfl rfl ?_)
     refine qm hnt rfl rfl ?_
     refine r_cut0 3 [(0,pS 4 cl_l eWindow l),(4,PV.ptr 0 0),(6,PV.ptr 1 0),(8,pB (meetOk (⟨e1.physical,e1.count⟩ : TSpan) (⟨e2.physical,e2.count⟩ : TSpan))),(10,pB (meetOk (⟨e1.virtual,e1.count⟩ : TSpan) (⟨e2.virtual,e2.count⟩ : TSpan))),(11,pS 4 cl_l eWindow l),(12,pN l.length),(13,pN i),(20,pS 4 false eWindow (l.take i)),(21,pN ((l.take i).length)),(22,pN j),(62,pB ((decide (e1.space = e2.space)) && (winR e1)))] ?_ ?_
     ·
      refine r_if tabOk hnt rfl rfl rfl (fun g1 => ?_) (fun g1 => ?_)
      ·
       have g1' := g1
       try simp only [sB] at g1'
       refine qo hnt rfl (s_load_ptr tab_28 rfl rfl rfl (Nat.le_of_ble_eq_true rfl) ?_)
       refine ry hnt rfl rfl rfl g1 ?_
       refine qo hnt rfl (s_callF rfl rfl rfl (w_burgageref7_Window e1) rfl ?_)
       refine qo hnt rfl (s_pick_t rfl g1 rfl ?_)
       refine r_eq (s := 62) (y := pB ((decide (e1.space = e2.space)) && (winR e1))) rfl (mix_at g1) ?_
       exact r_mid ⟨⟨rfl,rfl,rfl,rfl,rfl,rfl,rfl,rfl,rfl,rfl,rfl,rfl,trivial⟩,rfl,rfl⟩
      ·
       have g1' := g1
       try simp only [sB] at g1'
       refine rn hnt rfl rfl rfl g1 ?_
       refine qo hnt rfl (s_pick_f rfl g1 rfl ?_)
       refine r_eq (s := 62) (y := pB ((decide (e1.space = e2.space)) && (winR e1))) rfl (mix_af _ g1) ?_
       exact r_mid ⟨⟨rfl,rfl,rfl,rfl,rfl,rfl,rfl,rfl,rfl,rfl,rfl,rfl,trivial⟩,rfl,rfl⟩
     ·
      refine qm hnt rfl rfl ?_
      refine r_cut0 3 [(0,pS 4 cl_l eWindow l),(4,PV.ptr 0 0),(8,pB (meetOk (⟨e1.physical,e1.count⟩ : TSpan) (⟨e2.physical,e2.count⟩ : TSpan))),(10,pB (meetOk (⟨e1.virtual,e1.count⟩ : TSpan) (⟨e2.virtual,e2.count⟩ : TSpan))),(11,pS 4 cl_l eWindow l),(12,pN l.length),(13,pN i),(20,pS 4 false eWindow (l.take i)),(21,pN ((l.take i).length)),(22,pN j),(66,pB (((decide (e1.space = e2.space)) && (winR e1)) && (winR e2)))] ?_ ?_
      ·
       refine r_if tabOk hnt rfl rfl rfl (fun g2 => ?_) (fun g2 => ?_)
       ·
        have g2' := g2
        try simp only [sB] at g2'
        refine qo hnt rfl (s_load_ptr tab_28 rfl rfl rfl (Nat.le_of_ble_eq_true rfl) ?_)
        refine ry hnt rfl rfl rfl g2 ?_
        refine qo hnt rfl (s_callF rfl rfl rfl (w_burgageref7_Window e2) rfl ?_)
        refine qo hnt rfl (s_pick_t rfl g2 rfl ?_)
        refine r_eq (s := 66) (y := pB (((decide (e1.space = e2.space)) && (winR e1)) && (winR e2))) rfl (mix_at g2) ?_
        exact r_mid ⟨⟨rfl,rfl,rfl,rfl,rfl,rfl,rfl,rfl,rfl,rfl,rfl,trivial⟩,rfl,rfl⟩
       ·
        have g2' := g2
        try simp only [sB] at g2'
        refine rn hnt rfl rfl rfl g2 ?_
        refine qo hnt rfl (s_pick_f rfl g2 rfl ?_)
        refine r_eq (s := 66) (y := pB (((decide (e1.space = e2.space)) && (winR e1)) && (winR e2))) rfl (mix_af _ g2) ?_
        exact r_mid ⟨⟨rfl,rfl,rfl,rfl,rfl,rfl,rfl,rfl,rfl,rfl,rfl,trivial⟩,rfl,rfl⟩
      ·
       refine qm hnt rfl rfl ?_
       refine r_cut0 5 [(0,pS 4 cl_l eWindow l),(4,PV.ptr 0 0),(11,pS 4 cl_l eWindow l),(12,pN l.length),(13,pN i),(20,pS 4 false eWindow (l.take i)),(21,pN ((l.take i).length)),(22,pN j),(72,pB ((((decide (e1.space = e2.space)) && (winR e1)) && (winR e2)) && ((meetOk (⟨e1.physical,e1.count⟩ : TSpan) (⟨e2.physical,e2.count⟩ : TSpan)) || (meetOk (⟨e1.virtual,e1.count⟩ : TSpan) (⟨e2.virtual,e2.count⟩ : TSpan)))))] ?_ ?_
       ·
        refine r_if tabOk hnt rfl rfl rfl (fun g3 => ?_) (fun g3 => ?_)
        ·
         have g3' := g3
         try simp only [sB] at g3'
         refine qm hnt rfl rfl ?_
         refine ry hnt rfl rfl rfl g3 ?_
         refine qm hnt rfl rfl ?_
         refine r_cut0 2 [(0,pS 4 cl_l eWindow l),(4,PV.ptr 0 0),(11,pS 4 cl_l eWindow l),(12,pN l.length),(13,pN i),(20,pS 4 false eWindow (l.take i)),(21,pN ((l.take i).length)),(22,pN j),(67,pB (((decide (e1.space = e2.space)) && (winR e1)) && (winR e2))),(68,pB (meetOk (⟨e1.physical,e1.count⟩ : TSpan) (⟨e2.physical,e2.count⟩ : TSpan))),(69,pB (meetOk (⟨e1.physical,e1.count⟩ : TSpan) (⟨e2.physical,e2.count⟩ : TSpan))),(71,pB ((meetOk (⟨e1.physical,e1.count⟩ : TSpan) (⟨e2.physical,e2.count⟩ : TSpan)) || (meetOk (⟨e1.virtual,e1.count⟩ : TSpan) (⟨e2.virtual,e2.count⟩ : TSpan))))] ?_ ?_
         ·
          refine r_if tabOk hnt rfl rfl rfl (fun g4 => ?_) (fun g4 => ?_)
          ·
           have g4' := g4
           try simp only [sB] at g4'
           refine qm hnt rfl rfl ?_
           refine ry hnt rfl rfl rfl g3 ?_
           refine qo hnt rfl (s_pick_f rfl g4 rfl ?_)
           refine r_eq (s := 71) (y := pB ((meetOk (⟨e1.physical,e1.count⟩ : TSpan) (⟨e2.physical,e2.count⟩ : TSpan)) || (meetOk (⟨e1.virtual,e1.count⟩ : TSpan) (⟨e2.virtual,e2.count⟩ : TSpan)))) rfl (mix_of g4) ?_
           exact r_mid ⟨⟨rfl,rfl,rfl,rfl,rfl,rfl,rfl,rfl,rfl,rfl,rfl,rfl,trivial⟩,rfl,rfl⟩
          ·
           have g4' := g4
           try simp only [sB] at g4'
           refine ry hnt rfl rfl rfl g3 ?_
           refine qo hnt rfl (s_pick_t rfl g4 rfl ?_)
           refine r_eq (s := 71) (y := pB ((meetOk (⟨e1.physical,e1.count⟩ : TSpan) (⟨e2.physical,e2.count⟩ : TSpan)) || (meetOk (⟨e1.virtual,e1.count⟩ : TSpan) (⟨e2.virtual,e2.count⟩ : TSpan)))) rfl (mix_ot _ g4) ?_
           exact r_mid ⟨⟨rfl,rfl,rfl,rfl,rfl,rfl,rfl,rfl,rfl,rfl,rfl,rfl,trivial⟩,rfl,rfl⟩
         ·
          refine qo hnt rfl (s_pick_t rfl g3 rfl ?_)
          refine r_eq (s := 72) (y := pB ((((decide (e1.space = e2.space)) && (winR e1)) && (winR e2)) && ((meetOk (⟨e1.physical,e1.count⟩ : TSpan) (⟨e2.physical,e2.count⟩ : TSpan)) || (meetOk (⟨e1.virtual,e1.count⟩ : TSpan) (⟨e2.virtual,e2.count⟩ : TSpan))))) rfl (mix_at g3) ?_
          exact r_mid ⟨⟨rfl,rfl,rfl,rfl,rfl,rfl,rfl,rfl,rfl,trivial⟩,rfl,rfl⟩
        ·
         have g3' := g3
         try simp only [sB] at g3'
         refine rn hnt rfl rfl rfl g3 ?_
         refine ru hnt rfl rfl rfl ?_
         refine rn hnt rfl rfl rfl g3 ?_
         refine qo hnt rfl (s_pick_f rfl g3 rfl ?_)
         refine r_eq (s := 72) (y := pB ((((decide (e1.space = e2.space)) && (winR e1)) && (winR e2)) && ((meetOk (⟨e1.physical,e1.count⟩ : TSpan) (⟨e2.physical,e2.count⟩ : TSpan)) || (meetOk (⟨e1.virtual,e1.count⟩ : TSpan) (⟨e2.virtual,e2.count⟩ : TSpan))))) rfl (mix_af _ g3) ?_
         exact r_mid ⟨⟨rfl,rfl,rfl,rfl,rfl,rfl,rfl,rfl,rfl,trivial⟩,rfl,rfl⟩
       ·
        refine r_end ?_
        refine q_then ?_
        refine w_if rfl (fun c3 => ?_) (fun c3 => ?_)
        ·
         have c3_ := c3
         try simp only [sB] at c3
         refine w_seq ?_
         refine w_R ?_
         refine qa hnt rfl rfl ?_
         refine r_end ?_
         refine q_then ?_
         refine w_le (s := 2) (y := pB (ownW l)) rfl (le_of_eq (congrArg (fun z : Bool => pB z) (show false = (ownW l) by exact (own_no he1 he2 (by rw [← clash_ref]; exact c3_)).symm))) ?_
         refine w_ret ?_
         refine q_block_ret ?_
         refine q_then_ret ?_
         refine q_then_ret ?_
         refine q_block_ret ?_
         refine q_block_ret ?_
         refine q_then_ret ?_
         refine q_then_ret ?_
         refine q_block_ret ?_
         refine q_then_ret ?_
         exact fin_plain (ret_tmp rfl ret_nil) rfl rfl ⟨rfl,rfl,rfl⟩
        have c3_ := c3
        try simp only [sB] at c3
        refine w_skip ?_
        refine q_block ?_
        refine q_then ?_
        refine w_R ?_
        refine qo hnt rfl (s_addN (a := j) (b := 1) rfl rfl (by omega) (by omega) (by omega) ?_)
        refine qm hnt rfl rfl ?_
        refine r_end ?_
        refine q_then ?_
        refine ⟨(j + 1), ?_, ?_,⟨[(0,0)],by rw [hk]; decide,⟨⟨_,rfl,rfl,rfl⟩,⟨_,rfl,rfl,rfl⟩,⟨_,rfl,rfl,rfl⟩,⟨_,rfl,rfl,rfl⟩,⟨_,rfl,rfl,rfl⟩,⟨_,rfl,rfl,rfl⟩,⟨_,rfl,rfl,rfl⟩,⟨_,rfl,rfl,rfl⟩,trivial⟩,⟨⟨_,_,rfl,rfl,rfl,rfl⟩,trivial⟩,by rw [hk]; decide⟩⟩
        ·
         refine ⟨by omega,fun q b hq hb => ?_⟩
         by_cases hqj : q < j
         · exact hnb q b hqj hb
         · obtain rfl : q = j := by omega
           rw [he2] at hb; cases hb; exact (by rw [← clash_ref]; exact c3_)
        · omega
    have c2_ := c2
    try simp only [sB] at c2
    refine w_exit ?_
    refine q_then_exit ?_
    refine q_then_exit ?_
    refine q_block_exit ?_
    refine q_block ?_
    refine q_then ?_
    refine w_R ?_
    refine qo hnt rfl (s_addN (a := i) (b := 1) rfl rfl (by omega) (by omega) (by omega) ?_)
    refine qm hnt rfl rfl ?_
    refine r_end ?_
    refine q_then ?_
    refine ⟨(i + 1), ?_, ?_,⟨[],rfl,⟨⟨_,rfl,rfl,rfl⟩,⟨_,rfl,rfl,rfl⟩,⟨_,rfl,rfl,rfl⟩,⟨_,rfl,rfl,rfl⟩,trivial⟩,trivial,by rw [hk]; decide⟩⟩
    ·
     exact ⟨by omega,own_row he1 hno (fun j b hj hb => hnb j b (by omega) hb)⟩
    · omega
  have c1_ := c1
  try simp only [sB] at c1
  refine w_exit ?_
  refine q_then_exit ?_
  refine q_then_exit ?_
  refine q_block_exit ?_
  refine q_then ?_
  refine w_seq ?_
  refine w_R ?_
  refine qa hnt rfl rfl ?_
  refine r_end ?_
  refine q_then ?_
  refine w_le (s := 2) (y := pB (ownW l)) rfl (le_of_eq (congrArg (fun z : Bool => pB z) (show true = (ownW l) by exact (own_yes (fun k j x y hj hx hy => hno k j x y (by have := (List.getElem?_eq_some_iff.1 hx).1; omega) hj hx hy)).symm))) ?_
  refine w_ret ?_
  exact fin_plain (ret_tmp rfl ret_nil) rfl rfl ⟨rfl,rfl,rfl⟩
end Go.Proofs.Ytljkbpgcglomfaa
set_option linter.unusedVariables false
set_option linter.unusedSimpArgs false
namespace Go.Proofs.Ytljkbpgcglomfaa
open Go Go.Proofs.Ytljkbpgcglomfaa.Pv
def four (a b c d : Int) (s : Int) : Int := if s = 0 then a else if s = 1 then b else if s = 2 then c else d
structure WInv (lo : Int) (l : List TWindow) (v f : Int → Int) : Prop where
  vb : ∀ s,0 ≤ s ∧ s ≤ 3 → 0 ≤ v s ∧ v s ≤ 23 * l.length
  fb : ∀ s,0 ≤ s ∧ s ≤ 3 → lo ≤ f s ∧ f s ≤ lo + 20 * l.length
  mem : ∀ w ∈ l,(0 ≤ w.space ∧ w.space ≤ 3) ∧ 1 ≤ w.count ∧ 0 ≤ w.virtual ∧ lo ≤ w.physical ∧ w.virtual + w.count ≤ v w.space ∧ w.physical + w.count ≤ f w.space
  row : l.Pairwise fun x y => x.space = y.space → x.virtual + x.count ≤ y.virtual ∧ x.physical + x.count ≤ y.physical
theorem WInv.nil (lo : Int) : WInv lo [] (four 0 0 0 0) (four lo lo lo lo) := by
  refine ⟨fun s _ => ?_,fun s _ => ?_,fun w hw => by simp at hw,List.Pairwise.nil⟩
  · unfold four; simp
  · unfold four; simp
theorem WInv.step {lo : Int} {l : List TWindow} {v f v' f' : Int → Int} (h : WInv lo l v f) {s d e n : Int} (hs : 0 ≤ s ∧ s ≤ 3) (hd : 0 ≤ d ∧ d ≤ 5) (he : 0 ≤ e ∧ e ≤ 2) (hn : 1 ≤ n ∧ n ≤ 18)
    (hv : ∀ x,0 ≤ x ∧ x ≤ 3 → v' x = if x = s then v s + d + n else v x) (hf : ∀ x,0 ≤ x ∧ x ≤ 3 → f' x = if x = s then f s + e + n else f x) : WInv lo (l ++ [⟨s,v s + d,f s + e,n⟩]) v' f' := by
  obtain ⟨vb,fb,mem,row⟩ := h
  have hl : ((l ++ [(⟨s,v s + d,f s + e,n⟩ : TWindow)]).length : Int) = l.length + 1 := by simp
  refine ⟨fun x hx => ?_,fun x hx => ?_,fun w hw => ?_, ?_⟩
  · rw [hv x hx,hl]; have h1 := vb x hx; have h2 := vb s hs; split <;> omega
  · rw [hf x hx,hl]; have h1 := fb x hx; have h2 := fb s hs; split <;> omega
  · have hvb := vb s hs
    have hfb := fb s hs
    rcases List.mem_append.1 hw with h|h
    · obtain ⟨a,b,c,c2,g,k⟩ := mem w h
      rw [hv _ a,hf _ a]
      refine ⟨a,b,c,c2, ?_, ?_⟩
      · split
        · rename_i hx; rw [hx] at g; omega
        · exact g
      · split
        · rename_i hx; rw [hx] at k; omega
        · exact k
    · have h := List.mem_singleton.1 h
      subst h
      simp only
      rw [hv _ hs,hf _ hs,if_pos rfl,if_pos rfl]
      exact ⟨hs,by omega,by omega,by omega,by omega,by omega⟩
  · rw [List.pairwise_append]
    refine ⟨row,List.pairwise_singleton _ _,fun x hx y hy hxy => ?_⟩
    have hy := List.mem_singleton.1 hy
    subst hy
    obtain ⟨a,b,c,c2,g,k⟩ := mem x hx
    simp only at hxy ⊢
    rw [hxy] at g k
    omega
theorem WInv.step0 {lo v0 v1 v2 v3 f0 f1 f2 f3 d e n : Int} {l : List TWindow} (h : WInv lo l (four v0 v1 v2 v3) (four f0 f1 f2 f3)) (hd : 0 ≤ d ∧ d ≤ 5) (he : 0 ≤ e ∧ e ≤ 2) (hn : 1 ≤ n ∧ n ≤ 18) :
    WInv lo (l ++ [⟨0,v0 + d,f0 + e,n⟩]) (four (v0 + d + n) v1 v2 v3) (four (f0 + e + n) f1 f2 f3) :=
  h.step (s := 0) (by decide) hd he hn (fun x hx => by unfold four; (repeat' split) <;> omega) (fun x hx => by unfold four; (repeat' split) <;> omega)
theorem WInv.step1 {lo v0 v1 v2 v3 f0 f1 f2 f3 d e n : Int} {l : List TWindow} (h : WInv lo l (four v0 v1 v2 v3) (four f0 f1 f2 f3)) (hd : 0 ≤ d ∧ d ≤ 5) (he : 0 ≤ e ∧ e ≤ 2) (hn : 1 ≤ n ∧ n ≤ 18) :
    WInv lo (l ++ [⟨1,v1 + d,f1 + e,n⟩]) (four v0 (v1 + d + n) v2 v3) (four f0 (f1 + e + n) f2 f3) :=
  h.step (s := 1) (by decide) hd he hn (fun x hx => by unfold four; (repeat' split) <;> omega) (fun x hx => by unfold four; (repeat' split) <;> omega)
theorem WInv.step2 {lo v0 v1 v2 v3 f0 f1 f2 f3 d e n : Int} {l : List TWindow} (h : WInv lo l (four v0 v1 v2 v3) (four f0 f1 f2 f3)) (hd : 0 ≤ d ∧ d ≤ 5) (he : 0 ≤ e ∧ e ≤ 2) (hn : 1 ≤ n ∧ n ≤ 18) :
    WInv lo (l ++ [⟨2,v2 + d,f2 + e,n⟩]) (four v0 v1 (v2 + d + n) v3) (four f0 f1 (f2 + e + n) f3) :=
  h.step (s := 2) (by decide) hd he hn (fun x hx => by unfold four; (repeat' split) <;> omega) (fun x hx => by unfold four; (repeat' split) <;> omega)
theorem WInv.step3 {lo v0 v1 v2 v3 f0 f1 f2 f3 d e n : Int} {l : List TWindow} (h : WInv lo l (four v0 v1 v2 v3) (four f0 f1 f2 f3)) (hd : 0 ≤ d ∧ d ≤ 5) (he : 0 ≤ e ∧ e ≤ 2) (hn : 1 ≤ n ∧ n ≤ 18) :
    WInv lo (l ++ [⟨3,v3 + d,f3 + e,n⟩]) (four v0 v1 v2 (v3 + d + n)) (four f0 f1 f2 (f3 + e + n)) :=
  h.step (s := 3) (by decide) hd he hn (fun x hx => by unfold four; (repeat' split) <;> omega) (fun x hx => by unfold four; (repeat' split) <;> omega)
structure WinsOk (l : List TWindow) : Prop where
  len : l.length ≤ 6
  right : ∀ w ∈ l,winR w = true ∧ w.virtual + w.count ≤ 138
  row : l.Pairwise fun x y => x.space = y.space → x.virtual + x.count ≤ y.virtual ∧ x.physical + x.count ≤ y.physical
theorem WInv.ok {lo : Int} {l : List TWindow} {v f : Int → Int} (h : WInv lo l v f) (hl : l.length ≤ 6) (hlo : 0 ≤ lo ∧ lo ≤ 384) : WinsOk l := by
  refine ⟨hl,fun w hw => ?_,h.row⟩
  obtain ⟨a,b,c,c2,g,k⟩ := h.mem w hw
  have h1 := h.vb w.space a
  have h2 := h.fb w.space a
  exact ⟨(winR_iff w).2 ⟨a,by omega,by omega⟩,by omega⟩
theorem WinsOk.two {l : List TWindow} (h : WinsOk l) {i j : Nat} {a b : TWindow} (hj : j < i) (ha : l[i]? = some a) (hb : l[j]? = some b) (hs : a.space = b.space) : b.virtual + b.count ≤ a.virtual ∧ b.physical + b.count ≤ a.physical := by
  obtain ⟨h1,rfl⟩ := List.getElem?_eq_some_iff.1 ha
  obtain ⟨h2,rfl⟩ := List.getElem?_eq_some_iff.1 hb
  exact List.pairwise_iff_getElem.1 h.row j i h2 h1 hj hs.symm
theorem meet_no {a b : TSpan} (h : b.at_ + b.count ≤ a.at_) : meetOk a b = false := by
  rw [Bool.eq_false_iff]
  intro hm
  have := (meetOk_iff a b).1 hm
  omega
theorem WinsOk.own {l : List TWindow} (h : WinsOk l) : ownW l = true := by
  refine own_yes fun i j a b hj ha hb => ?_
  by_cases hs : a.space = b.space
  · obtain ⟨h1,h2⟩ := h.two hj ha hb hs
    unfold clashW meetW
    rw [meet_no (a := pSp a) (b := pSp b) h2,meet_no (a := vSp a) (b := vSp b) h1]
    rfl
  · unfold clashW meetW
    rw [decide_eq_false hs]
    simp
structure TabG (X : TTable) : Prop where
  len : 1 ≤ X.tenants.length ∧ X.tenants.length ≤ 4
  wins : ∀ p ∈ X.tenants,WinsOk p.windows
end Go.Proofs.Ytljkbpgcglomfaa
