/- Walks: printed by a program of this session (wip/tools/walk2.py) out of its notes. -/
import Derived.Test.YtmcgjmpcfiefgaaWReq
import Derived.Test.YtmcgjmpcfiefgaaSpecK
set_option linter.unusedVariables false
set_option linter.unusedSimpArgs false
set_option maxRecDepth 10000
set_option maxHeartbeats 1000000
namespace Go.Proofs.Ytmcgjmpcfiefgaa
open Go Go.Proofs.Ytmcgjmpcfiefgaa.Pv

theorem w_burgagekeep_Functions   :
    T Try.prog 32 [] 0 [] (Ret (PV.ref 0 0 none) 1 [(0, oB true 1 encI fnsL)]) := by
 refine t_fun tabOk (n := 2) (rs := [.tmp 0]) Try.func32 rfl rfl rfl rfl (Nat.le_of_ble_eq_true rfl) ?_
 intro c hnt hk
 refine w_seq ?_
 refine w_R ?_
 refine qa hnt rfl rfl ?_
 refine r_end ?_
 refine q_then ?_
 refine w_seq ?_
 refine w_R ?_
 refine qo hnt rfl (s_mkM (f := encI) ([1, 2, 3, 4, 5, 6, 8, 15, 16, 17, 22, 23] : List Int) tab_23 rfl tab_3 ⟨rfl, by decide⟩ (by decide) rfl rfl rfl rfl ?_)
 refine qa hnt rfl rfl ?_
 refine r_set [(0, PV.ref 0 0 none)] [(0, oB true 1 encI ([1, 2, 3, 4, 5, 6, 8, 15, 16, 17, 22, 23] : List Int))] 1 ⟨rfl, trivial⟩ rfl rfl ?_
 refine r_end ?_
 refine q_then ?_
 refine w_H (H' := [(0, oB true 1 encI fnsL)]) (congrArg (fun z => ([(0, oB true 1 encI z)] : Heap)) (show ([1, 2, 3, 4, 5, 6, 8, 15, 16, 17, 22, 23] : List Int) = fnsL by rfl)) ?_
 refine w_ret ?_
 exact fin_names (nx1 := 1) (H1 := [(0, oB true 1 encI fnsL)]) [(0, 0)] (ret_tmp rfl ret_nil) rfl (by decide) ⟨⟨_, _, rfl, rfl, rfl, rfl⟩, trivial⟩ (by decide) rfl ⟨rfl, rfl, rfl⟩

theorem w_burgagekeep_Tape_Next (L : List Int) (cl_L : Bool) (a : Nat) (n : Int) (hL : L.length ≤ 70000000000000) (hn : -9223372036854775808 ≤ n ∧ n ≤ 9223372036854775807) :
    T Try.prog 33 [PV.ptr 0 0, pI n] 1 [(0, .obj [pS 1 cl_L encI L, pN a])] (Ret (pI (tNext L a n)) 1 [(0, .obj [pS 1 false encI L, pN (tStep L a n)])]) := by
 refine t_fun tabOk (n := 40) (rs := [.tmp 4]) Try.func33 rfl rfl rfl rfl (Nat.le_of_ble_eq_true rfl) ?_
 intro c hnt hk
 refine w_seq ?_
 refine w_R ?_
 refine qa hnt rfl rfl ?_
 refine r_end ?_
 refine q_then ?_
 refine w_seq ?_
 refine w_seq ?_
 refine W_drawn tabOk mixed hnt [[], [0], [0, 1], [0, 1, 2], [], [4], [4, 5], [4, 5, 6], [4, 5, 6, 7], [0, 1, 2, 3, 4, 5, 6, 7, 8], [0, 1, 2, 3, 4, 5, 6, 7, 8, 9], [0, 1, 2, 3, 4, 5, 6, 7, 8, 9, 10], [0, 1, 2, 3, 4, 5, 6, 7, 8, 9, 10, 11], [0, 1, 2, 3, 4, 5, 6, 7, 8, 9, 10, 11, 12]] (by kernel_rfl) ?_
 refine d_op ?_
 refine x_run0 [(0, PV.ptr 0 0)] [] rfl rfl rfl rfl (s_move rfl ⟨rfl, rfl, rfl⟩) ?_
 refine d_op ?_
 refine x_run0 [(5, PV.ptr 0 0)] [0] rfl rfl rfl rfl (s_nilCheck rfl trivial ⟨rfl, rfl, rfl⟩) ?_
 refine d_op ?_
 refine x_run0 [(6, PV.ptr 0 0)] [0, 1] rfl rfl rfl rfl (s_fa_ptr tab_26 rfl rfl tab_3 (by decide) rfl ⟨rfl, rfl, rfl⟩) ?_
 refine d_op ?_
 refine x_run [(7, PV.ptr 0 1)] [0, 1, 2] [(0, .obj [pS 1 cl_L encI L, pN a])] [] [(0, .obj [pS 1 cl_L encI L, pN a])] [] [(0, .obj [pS 1 cl_L encI L, pN a])] rfl rfl rfl rfl rfl rfl (s_load_ptr1 tab_3 rfl rfl rfl rfl rfl ⟨rfl, rfl, rfl⟩) rfl ⟨rfl, trivial⟩ rfl rfl ?_
 refine d_op ?_
 refine x_run0 [(0, PV.ptr 0 0)] [] rfl rfl rfl rfl (s_move rfl ⟨rfl, rfl, rfl⟩) ?_
 refine d_op ?_
 refine x_run0 [(9, PV.ptr 0 0)] [4] rfl rfl rfl rfl (s_nilCheck rfl trivial ⟨rfl, rfl, rfl⟩) ?_
 refine d_op ?_
 refine x_run0 [(10, PV.ptr 0 0)] [4, 5] rfl rfl rfl rfl (s_fa_ptr tab_26 rfl rfl tab_23 (by decide) rfl ⟨rfl, rfl, rfl⟩) ?_
 refine d_op ?_
 refine x_run [(11, PV.ptr 0 0)] [4, 5, 6] [(0, .obj [pS 1 cl_L encI L, pN a])] [] [(0, .obj [pS 1 cl_L encI L, pN a])] [] [(0, .obj [pS 1 cl_L encI L, pN a])] rfl rfl rfl rfl rfl rfl (s_load_ptr1 tab_23 rfl rfl rfl rfl rfl ⟨rfl, rfl, rfl⟩) rfl ⟨rfl, trivial⟩ rfl rfl ?_
 refine d_op ?_
 refine x_run0 [(12, pS 1 cl_L encI L)] [4, 5, 6, 7] rfl rfl rfl rfl (s_lenM (l := L) tab_23 rfl (hM_sl (f := encI) rfl) ⟨rfl, rfl, rfl⟩) ?_
 refine d_op ?_
 refine x_run0 [(8, pN a), (13, pN L.length)] [0, 1, 2, 3, 4, 5, 6, 7, 8] rfl rfl rfl rfl (s_geq rfl rfl ⟨rfl, rfl, rfl⟩) ?_
 refine d_op ?_
 refine x_run0 [(14, pB (decide (((L.length : Nat) : Int) ≤ ((a : Nat) : Int))))] [0, 1, 2, 3, 4, 5, 6, 7, 8, 9] rfl rfl rfl rfl (s_move rfl ⟨rfl, rfl, rfl⟩) ?_
 refine x_if [(15, pB (decide (((L.length : Nat) : Int) ≤ ((a : Nat) : Int)))), (1, pI n)] [0, 1, 2, 3, 4, 5, 6, 7, 8, 9, 10] rfl rfl rfl rfl (fun g1 => ?_) (fun g1 => ?_)
 ·
  have g1' := g1
  try simp only [sB] at g1'
  refine x_run0 [(15, pB (decide (((L.length : Nat) : Int) ≤ ((a : Nat) : Int)))), (1, pI n)] [0, 1, 2, 3, 4, 5, 6, 7, 8, 9, 10] rfl rfl rfl rfl (s_move rfl ⟨rfl, rfl, rfl⟩) ?_
  refine xy [(15, pB (decide (((L.length : Nat) : Int) ≤ ((a : Nat) : Int)))), (16, pI n)] [0, 1, 2, 3, 4, 5, 6, 7, 8, 9, 10, 11] rfl rfl rfl rfl g1 ?_
  refine x_run0 [(15, pB (decide (((L.length : Nat) : Int) ≤ ((a : Nat) : Int)))), (16, pI n)] [0, 1, 2, 3, 4, 5, 6, 7, 8, 9, 10, 11] rfl rfl rfl rfl (s_lss rfl rfl ⟨rfl, rfl, rfl⟩) ?_
  refine d_op ?_
  refine x_run0 [(15, pB (decide (((L.length : Nat) : Int) ≤ ((a : Nat) : Int)))), (17, pB (decide (n < 1)))] [0, 1, 2, 3, 4, 5, 6, 7, 8, 9, 10, 11, 12] rfl rfl rfl rfl (s_pick_f rfl g1 rfl ⟨rfl, rfl, rfl⟩) ?_
  refine d_end ⟨by kernel_rfl, ?_⟩
  refine q_then ?_
  refine w_if rfl (fun c1 => ?_) (fun c1 => ?_)
  ·
   have c1_ := c1
   try simp only [sB] at c1
   refine w_seq ?_
   refine w_R ?_
   refine qa hnt rfl rfl ?_
   refine r_end ?_
   refine q_then ?_
   refine w_le (s := 4) (y := pI (tNext L a n)) rfl (le_of_eq (congrArg (fun z : Int => pI z) (show 0 = (tNext L a n) by first | (unfold tNext; rw [if_pos (by omega)]; done) | (unfold tStep; rw [if_pos (by omega)]; done) | (unfold tStep; rw [if_neg (by omega)]; done) | (unfold tNext; rw [if_neg (by omega), List.getD_eq_getElem?_getD, show L[a]? = some e1 from he1]; rfl)))) ?_
   refine w_leO (n := 0) (ds := [pS 1 false encI L, pN (tStep L a n)]) rfl ⟨le_loose, le_of_eq (congrArg (fun z : Nat => pN z) (show a = (tStep L a n) by first | (unfold tNext; rw [if_pos (by omega)]; done) | (unfold tStep; rw [if_pos (by omega)]; done) | (unfold tStep; rw [if_neg (by omega)]; done) | (unfold tNext; rw [if_neg (by omega), List.getD_eq_getElem?_getD, show L[a]? = some e1 from he1]; rfl))), trivial⟩ ?_
   refine w_ret ?_
   refine q_then_ret ?_
   exact fin_names (nx1 := 1) (H1 := [(0, .obj [pS 1 false encI L, pN (tStep L a n)])]) [(0, 0)] (ret_tmp rfl ret_nil) rfl (by decide) ⟨⟨_, _, rfl, rfl, rfl, rfl⟩, trivial⟩ (by decide) rfl ⟨rfl, rfl, rfl⟩
  ·
   have c1_ := c1
   try simp only [sB] at c1
   refine w_skip ?_
   refine q_then ?_
   refine w_seq ?_
   refine w_R ?_
   refine qm hnt rfl rfl ?_
   refine qo hnt rfl (s_nilCheck rfl trivial ?_)
   refine qo hnt rfl (s_fa_ptr tab_26 rfl rfl tab_3 (by decide) rfl ?_)
   refine qo hnt rfl (s_load_ptr1 tab_3 rfl rfl rfl rfl rfl ?_)
   refine qo hnt rfl (s_addN (a := a) (b := 1) rfl rfl (by omega) (by omega) (by omega) ?_)
   refine qo hnt rfl (s_nilCheck rfl trivial ?_)
   refine qo hnt rfl (s_fa_ptr tab_26 rfl rfl tab_3 (by decide) rfl ?_)
   refine qo hnt rfl (s_store_ptr tab_3 rfl rfl rfl rfl rfl (Nat.le_of_ble_eq_true rfl) ?_)
   refine r_set [(0, PV.ptr 0 0), (1, pI n)] [(0, .obj [pS 1 cl_L encI L, pN (a + 1)])] 1 ⟨rfl, rfl, trivial⟩ rfl rfl ?_
   refine r_end ?_
   refine q_then ?_
   refine w_seq ?_
   refine W_drawn tabOk mixed hnt [[], [0], [0, 1], [0, 1, 2], [], [4], [4, 5], [4, 5, 6], [4, 5, 6, 7], [0, 1, 2, 3, 4, 5, 6, 7, 8], [0, 1, 2, 3, 4, 5, 6, 7, 8, 9], [0, 1, 2, 3, 4, 5, 6, 7, 8, 9, 10], [], [0, 1, 2, 3, 4, 5, 6, 7, 8, 9, 10, 11, 12], [0, 1, 2, 3, 4, 5, 6, 7, 8, 9, 10, 11, 12, 13]] (by kernel_rfl) ?_
   refine d_op ?_
   refine x_run0 [(0, PV.ptr 0 0)] [] rfl rfl rfl rfl (s_move rfl ⟨rfl, rfl, rfl⟩) ?_
   refine d_op ?_
   refine x_run0 [(26, PV.ptr 0 0)] [0] rfl rfl rfl rfl (s_nilCheck rfl trivial ⟨rfl, rfl, rfl⟩) ?_
   refine d_op ?_
   refine x_run0 [(27, PV.ptr 0 0)] [0, 1] rfl rfl rfl rfl (s_fa_ptr tab_26 rfl rfl tab_23 (by decide) rfl ⟨rfl, rfl, rfl⟩) ?_
   refine d_op ?_
   refine x_run [(28, PV.ptr 0 0)] [0, 1, 2] [(0, .obj [pS 1 cl_L encI L, pN (a + 1)])] [] [(0, .obj [pS 1 cl_L encI L, pN (a + 1)])] [] [(0, .obj [pS 1 cl_L encI L, pN (a + 1)])] rfl rfl rfl rfl rfl rfl (s_load_ptr1 tab_23 rfl rfl rfl rfl rfl ⟨rfl, rfl, rfl⟩) rfl ⟨rfl, trivial⟩ rfl rfl ?_
   refine d_op ?_
   refine x_run0 [(0, PV.ptr 0 0)] [] rfl rfl rfl rfl (s_move rfl ⟨rfl, rfl, rfl⟩) ?_
   refine d_op ?_
   refine x_run0 [(30, PV.ptr 0 0)] [4] rfl rfl rfl rfl (s_nilCheck rfl trivial ⟨rfl, rfl, rfl⟩) ?_
   refine d_op ?_
   refine x_run0 [(31, PV.ptr 0 0)] [4, 5] rfl rfl rfl rfl (s_fa_ptr tab_26 rfl rfl tab_3 (by decide) rfl ⟨rfl, rfl, rfl⟩) ?_
   refine d_op ?_
   refine x_run [(32, PV.ptr 0 1)] [4, 5, 6] [(0, .obj [pS 1 cl_L encI L, pN (a + 1)])] [] [(0, .obj [pS 1 cl_L encI L, pN (a + 1)])] [] [(0, .obj [pS 1 cl_L encI L, pN (a + 1)])] rfl rfl rfl rfl rfl rfl (s_load_ptr1 tab_3 rfl rfl rfl rfl rfl ⟨rfl, rfl, rfl⟩) rfl ⟨rfl, trivial⟩ rfl rfl ?_
   refine d_op ?_
   refine x_run0 [(33, pN (a + 1))] [4, 5, 6, 7] rfl rfl rfl rfl (s_subN (a := a + 1) (b := 1) rfl rfl (by omega) (by omega) (by omega) ⟨rfl, rfl, rfl⟩) ?_
   refine d_op ?_
   obtain ⟨e1, he1⟩ := get_of_lt L (i := a + 1 - 1) (by omega)
   refine x_run0 [(29, pS 1 cl_L encI L), (34, pN (a + 1 - 1))] [0, 1, 2, 3, 4, 5, 6, 7, 8] rfl rfl rfl rfl (s_iaM (q := a + 1 - 1) (b := e1) (f := encI) tab_23 rfl tab_3 rfl rfl (by omega) rfl he1 ⟨rfl, rfl, rfl⟩) ?_
   refine d_op ?_
   refine x_run0 [(35, PV.f (.ro (encI e1)))] [0, 1, 2, 3, 4, 5, 6, 7, 8, 9] rfl rfl rfl rfl (s_load_ro1 tab_3 rfl rfl rfl rfl ⟨rfl, rfl, rfl⟩) ?_
   refine d_op ?_
   refine x_run0 [(36, pI e1)] [0, 1, 2, 3, 4, 5, 6, 7, 8, 9, 10] rfl rfl rfl rfl (s_callF rfl rfl rfl (w_burgagebook_Within e1 0 1073741824 (by first | omega | assumption | (simp; omega) | decide | (simp; done))) rfl ⟨rfl, rfl, rfl⟩) ?_
   refine d_op ?_
   refine x_run0 [(1, pI n)] [] rfl rfl rfl rfl (s_move rfl ⟨rfl, rfl, rfl⟩) ?_
   refine d_op ?_
   refine x_run0 [(37, pI (within e1 0 1073741824)), (38, pI n)] [0, 1, 2, 3, 4, 5, 6, 7, 8, 9, 10, 11, 12] rfl rfl rfl rfl (s_rem rfl rfl (by omega) ⟨rfl, rfl, rfl⟩) ?_
   refine d_op ?_
   refine x_run0 [(39, pI (Int.tmod (within e1 0 1073741824) n))] [0, 1, 2, 3, 4, 5, 6, 7, 8, 9, 10, 11, 12, 13] rfl rfl rfl rfl (s_assign rfl ⟨rfl, rfl, rfl⟩) ?_
   refine d_end ⟨by kernel_rfl, ?_⟩
   refine q_then ?_
   refine w_le (s := 4) (y := pI (tNext L a n)) rfl (le_of_eq (congrArg (fun z : Int => pI z) (show (Int.tmod (within e1 0 1073741824) n) = (tNext L a n) by first | (unfold tNext; rw [if_pos (by omega)]; done) | (unfold tStep; rw [if_pos (by omega)]; done) | (unfold tStep; rw [if_neg (by omega)]; done) | (unfold tNext; rw [if_neg (by omega), List.getD_eq_getElem?_getD, show L[a]? = some e1 from he1]; rfl)))) ?_
   refine w_leO (n := 0) (ds := [pS 1 false encI L, pN (tStep L a n)]) rfl ⟨le_loose, le_of_eq (congrArg (fun z : Nat => pN z) (show (a + 1) = (tStep L a n) by first | (unfold tNext; rw [if_pos (by omega)]; done) | (unfold tStep; rw [if_pos (by omega)]; done) | (unfold tStep; rw [if_neg (by omega)]; done) | (unfold tNext; rw [if_neg (by omega), List.getD_eq_getElem?_getD, show L[a]? = some e1 from he1]; rfl))), trivial⟩ ?_
   refine w_ret ?_
   exact fin_names (nx1 := 1) (H1 := [(0, .obj [pS 1 false encI L, pN (tStep L a n)])]) [(0, 0)] (ret_tmp rfl ret_nil) rfl (by decide) ⟨⟨_, _, rfl, rfl, rfl, rfl⟩, trivial⟩ (by decide) rfl ⟨rfl, rfl, rfl⟩
 ·
  have g1' := g1
  try simp only [sB] at g1'
  refine xn [(15, pB (decide (((L.length : Nat) : Int) ≤ ((a : Nat) : Int)))), (16, undefP)] [0, 1, 2, 3, 4, 5, 6, 7, 8, 9, 10, 11] rfl rfl rfl rfl g1 ?_
  refine d_op ?_
  refine x_run0 [(15, pB (decide (((L.length : Nat) : Int) ≤ ((a : Nat) : Int)))), (17, undefP)] [0, 1, 2, 3, 4, 5, 6, 7, 8, 9, 10, 11, 12] rfl rfl rfl rfl (s_pick_t rfl g1 rfl ⟨rfl, rfl, rfl⟩) ?_
  refine d_end ⟨by kernel_rfl, ?_⟩
  refine q_then ?_
  refine w_if rfl (fun _ => ?_) (fun e => absurd e (by decide))
  refine w_seq ?_
  refine w_R ?_
  refine qa hnt rfl rfl ?_
  refine r_end ?_
  refine q_then ?_
  refine w_le (s := 4) (y := pI (tNext L a n)) rfl (le_of_eq (congrArg (fun z : Int => pI z) (show 0 = (tNext L a n) by first | (unfold tNext; rw [if_pos (by omega)]; done) | (unfold tStep; rw [if_pos (by omega)]; done) | (unfold tStep; rw [if_neg (by omega)]; done) | (unfold tNext; rw [if_neg (by omega), List.getD_eq_getElem?_getD, show L[a]? = some e1 from he1]; rfl)))) ?_
  refine w_leO (n := 0) (ds := [pS 1 false encI L, pN (tStep L a n)]) rfl ⟨le_loose, le_of_eq (congrArg (fun z : Nat => pN z) (show a = (tStep L a n) by first | (unfold tNext; rw [if_pos (by omega)]; done) | (unfold tStep; rw [if_pos (by omega)]; done) | (unfold tStep; rw [if_neg (by omega)]; done) | (unfold tNext; rw [if_neg (by omega), List.getD_eq_getElem?_getD, show L[a]? = some e1 from he1]; rfl))), trivial⟩ ?_
  refine w_ret ?_
  refine q_then_ret ?_
  exact fin_names (nx1 := 1) (H1 := [(0, .obj [pS 1 false encI L, pN (tStep L a n)])]) [(0, 0)] (ret_tmp rfl ret_nil) rfl (by decide) ⟨⟨_, _, rfl, rfl, rfl, rfl⟩, trivial⟩ (by decide) rfl ⟨rfl, rfl, rfl⟩

theorem w_burgagekeep_Tape_Request (L : List Int) (cl_L : Bool) (a : Nat) (hL : L.length ≤ 70000000000000) :
    T Try.prog 13 [PV.ptr 0 0] 1 [(0, .obj [pS 1 cl_L encI L, pN a])] (fun ra rb rc => ∃ q : TRequest, ∃ b : Nat, (rightR q = 0 ∧ q.bits.length ≤ 25 ∧ q.vals.length ≤ 25 ∧ 0 ≤ q.count ∧ q.count ≤ 25) ∧ (Ret (PV.f (eRequest q)) 1 [(0, .obj [pS 1 false encI L, pN b])]) ra rb rc) := by
 refine t_fun tabOk (n := 140) (rs := [.cell 2 32]) Try.func13 rfl rfl rfl rfl (Nat.le_of_ble_eq_true rfl) ?_
 intro c hnt hk
 refine w_seq ?_
 refine w_R ?_
 refine qo hnt rfl (s_alloc tab_32 ?_)
 refine r_set [(0, PV.ptr 0 0), (2, PV.ptr 1 0)] [(1, .obj [pI 0, pI 0, pI 0, pI 0, pI 0, pNil, pNil, p16 0, p16 0]), (0, .obj [pS 1 cl_L encI L, pN a])] 2 ⟨rfl, rfl, trivial⟩ rfl rfl ?_
 refine r_end ?_
 refine q_then ?_
 refine w_seq ?_
 refine w_R ?_
 refine qo hnt rfl (s_callX (r2 := PV.ref 2 0 none) (nx1 := 3) (H2 := [(1, .obj [pI 0, pI 0, pI 0, pI 0, pI 0, pNil, pNil, p16 0, p16 0]), (0, .obj [pS 1 cl_L encI L, pN a])]) (H3 := [(2, oB true 1 encI fnsL), (1, .obj [pI 0, pI 0, pI 0, pI 0, pI 0, pNil, pNil, p16 0, p16 0]), (0, .obj [pS 1 cl_L encI L, pN a])]) [] [] rfl rfl rfl (handed_of (by decide) trivial) rfl rfl rfl rfl rfl rfl (w_burgagekeep_Functions) rfl (dist_of rfl) rfl rfl rfl rfl ?_)
 refine qm hnt rfl rfl ?_
 refine qo hnt rfl (s_callX (r2 := pI (tNext L a 12)) (nx1 := 3) (H2 := [(2, oB true 1 encI fnsL), (1, .obj [pI 0, pI 0, pI 0, pI 0, pI 0, pNil, pNil, p16 0, p16 0]), (0, .obj [pS 1 cl_L encI L, pN a])]) (H3 := [(0, .obj [pS 1 false encI L, pN (tStep L a 12)]), (2, oB true 1 encI fnsL), (1, .obj [pI 0, pI 0, pI 0, pI 0, pI 0, pNil, pNil, p16 0, p16 0])]) [0] [.obj [pS 1 cl_L encI L, pN a]] rfl rfl rfl (handed_of (by decide) ⟨rfl, trivial⟩) rfl rfl rfl rfl rfl rfl (w_burgagekeep_Tape_Next L cl_L a 12 (by first | omega | assumption | (simp; omega) | decide | (simp; done)) (by first | omega | assumption | (simp; omega) | decide | (simp; done))) rfl (dist_of rfl) rfl rfl rfl rfl ?_)
 have h12 := tNext_lt L a (n := 12) (by decide)
 have hfl : fnsL.length = 12 := rfl
 refine qo hnt rfl (s_iaR0 (q := Int.toNat (tNext L a 12)) (f := encI) (l := fnsL) tab_23 rfl tab_3 rfl rfl (by omega) rfl rfl (by omega) ?_)
 obtain ⟨e1, he1⟩ := get_of_lt fnsL (i := Int.toNat (tNext L a 12)) (by omega)
 refine qo hnt rfl (s_ldM (b := e1) (f := encI) tab_3 rfl rfl rfl rfl he1 rfl ?_)
 refine qo hnt rfl (s_build tab_32 rfl rfl (b_cons rfl tab_3 rfl rfl rfl (Nat.le_of_ble_eq_true rfl) (b_nil ?_)))
 refine qo hnt rfl (s_alloc tab_32 ?_)
 refine qo hnt rfl (s_store_ptr tab_32 rfl rfl rfl rfl rfl (Nat.le_of_ble_eq_true rfl) ?_)
 refine r_set [(0, PV.ptr 0 0), (2, PV.ptr 1 0), (3, PV.ptr 3 0)] [(3, .obj [pI e1, pI 0, pI 0, pI 0, pI 0, pNil, pNil, p16 0, p16 0]), (0, .obj [pS 1 false encI L, pN (tStep L a 12)]), (2, oB true 1 encI fnsL), (1, .obj [pI 0, pI 0, pI 0, pI 0, pI 0, pNil, pNil, p16 0, p16 0])] 4 ⟨rfl, rfl, rfl, trivial⟩ rfl rfl ?_
 refine r_end ?_
 refine q_then ?_
 refine w_seq ?_
 have hfn := fns_has he1
 have h70 := tNext_lt L (tStep L a 12) (n := 70) (by decide)
 refine w_R ?_
 refine qm hnt rfl rfl ?_
 refine qo hnt rfl (s_callX (r2 := pI (tNext L (tStep L a 12) 70)) (nx1 := 4) (H2 := [(3, .obj [pI e1, pI 0, pI 0, pI 0, pI 0, pNil, pNil, p16 0, p16 0]), (0, .obj [pS 1 false encI L, pN (tStep L a 12)]), (2, oB true 1 encI fnsL), (1, .obj [pI 0, pI 0, pI 0, pI 0, pI 0, pNil, pNil, p16 0, p16 0])]) (H3 := [(0, .obj [pS 1 false encI L, pN (tStep L (tStep L a 12) 70)]), (3, .obj [pI e1, pI 0, pI 0, pI 0, pI 0, pNil, pNil, p16 0, p16 0]), (2, oB true 1 encI fnsL), (1, .obj [pI 0, pI 0, pI 0, pI 0, pI 0, pNil, pNil, p16 0, p16 0])]) [0] [.obj [pS 1 false encI L, pN (tStep L a 12)]] rfl rfl rfl (handed_of (by decide) ⟨rfl, trivial⟩) rfl rfl rfl rfl rfl rfl (w_burgagekeep_Tape_Next L false (tStep L a 12) 70 (by first | omega | assumption | (simp; omega) | decide | (simp; done)) (by first | omega | assumption | (simp; omega) | decide | (simp; done))) rfl (dist_of rfl) rfl rfl rfl rfl ?_)
 refine qa hnt rfl rfl ?_
 refine r_set [(0, PV.ptr 0 0), (2, PV.ptr 1 0), (3, PV.ptr 3 0), (4, pI (tNext L (tStep L a 12) 70))] [(0, .obj [pS 1 false encI L, pN (tStep L (tStep L a 12) 70)]), (3, .obj [pI e1, pI 0, pI 0, pI 0, pI 0, pNil, pNil, p16 0, p16 0]), (2, oB true 1 encI fnsL), (1, .obj [pI 0, pI 0, pI 0, pI 0, pI 0, pNil, pNil, p16 0, p16 0])] 4 ⟨rfl, rfl, rfl, rfl, trivial⟩ rfl rfl ?_
 refine r_end ?_
 refine q_then ?_
 refine w_seq ?_
 refine w_seq ?_
 refine w_R ?_
 refine qo hnt rfl (s_fa_ptr tab_32 rfl rfl tab_3 (by decide) rfl ?_)
 refine qo hnt rfl (s_load_ptr1 tab_3 rfl rfl rfl rfl rfl ?_)
 refine r_end ?_
 refine q_then ?_
 refine w_block ?_
 refine w_seq ?_
 refine w_seq ?_
 refine w_R ?_
 refine qo hnt rfl (s_eql rfl rfl ?_)
 refine qa hnt rfl rfl ?_
 refine r_end ?_
 refine q_then ?_
 refine w_if rfl (fun c1 => ?_) (fun c1 => ?_)
 ·
  have c1_ := c1
  try simp only [sB] at c1
  refine w_skip ?_
  refine q_then ?_
  refine w_if rfl (fun _ => ?_) (fun e => absurd (e.symm.trans c1_) (by decide))
  have h26 := tNext_lt L (tStep L (tStep L a 12) 70) (n := 26) (by decide)
  refine w_R ?_
  refine qm hnt rfl rfl ?_
  refine qm hnt rfl rfl ?_
  refine qo hnt rfl (s_callX (r2 := pI (tNext L (tStep L (tStep L a 12) 70) 26)) (nx1 := 4) (H2 := [(0, .obj [pS 1 false encI L, pN (tStep L (tStep L a 12) 70)]), (3, .obj [pI e1, pI 0, pI 0, pI 0, pI 0, pNil, pNil, p16 0, p16 0]), (2, oB true 1 encI fnsL), (1, .obj [pI 0, pI 0, pI 0, pI 0, pI 0, pNil, pNil, p16 0, p16 0])]) (H3 := [(0, .obj [pS 1 false encI L, pN (tStep L (tStep L (tStep L a 12) 70) 26)]), (3, .obj [pI e1, pI 0, pI 0, pI 0, pI 0, pNil, pNil, p16 0, p16 0]), (2, oB true 1 encI fnsL), (1, .obj [pI 0, pI 0, pI 0, pI 0, pI 0, pNil, pNil, p16 0, p16 0])]) [0] [.obj [pS 1 false encI L, pN (tStep L (tStep L a 12) 70)]] rfl rfl rfl (handed_of (by decide) ⟨rfl, trivial⟩) rfl rfl rfl rfl rfl rfl (w_burgagekeep_Tape_Next L false (tStep L (tStep L a 12) 70) 26 (by first | omega | assumption | (simp; omega) | decide | (simp; done)) (by first | omega | assumption | (simp; omega) | decide | (simp; done))) rfl (dist_of rfl) rfl rfl rfl rfl ?_)
  refine qo hnt rfl (s_fa_ptr tab_32 rfl rfl tab_3 (by decide) rfl ?_)
  refine qo hnt rfl (s_store_ptr tab_3 rfl rfl rfl rfl rfl (Nat.le_of_ble_eq_true rfl) ?_)
  refine qo hnt rfl (s_fa_ptr tab_32 rfl rfl tab_3 (by decide) rfl ?_)
  refine qo hnt rfl (s_store_ptr tab_3 rfl rfl rfl rfl rfl (Nat.le_of_ble_eq_true rfl) ?_)
  refine r_set [(2, PV.ptr 1 0), (3, PV.ptr 3 0)] [(3, .obj [pI e1, pI (tNext L (tStep L a 12) 70), pI (tNext L (tStep L (tStep L a 12) 70) 26), pI 0, pI 0, pNil, pNil, p16 0, p16 0]), (0, .obj [pS 1 false encI L, pN (tStep L (tStep L (tStep L a 12) 70) 26)]), (2, oB true 1 encI fnsL), (1, .obj [pI 0, pI 0, pI 0, pI 0, pI 0, pNil, pNil, p16 0, p16 0])] 4 ⟨rfl, rfl, trivial⟩ rfl rfl ?_
  refine r_end ?_
  refine q_block ?_
  refine q_then ?_
  refine w_seq ?_
  refine w_R ?_
  refine qo hnt rfl (s_load_ptr tab_32 rfl rfl rfl (Nat.le_of_ble_eq_true rfl) ?_)
  refine qo hnt rfl (s_store_ptr tab_32 rfl rfl rfl rfl rfl (Nat.le_of_ble_eq_true rfl) ?_)
  refine r_set [(2, PV.ptr 1 0)] [(1, .obj [pI e1, pI (tNext L (tStep L a 12) 70), pI (tNext L (tStep L (tStep L a 12) 70) 26), pI 0, pI 0, pNil, pNil, p16 0, p16 0]), (3, .obj [pI e1, pI (tNext L (tStep L a 12) 70), pI (tNext L (tStep L (tStep L a 12) 70) 26), pI 0, pI 0, pNil, pNil, p16 0, p16 0]), (0, .obj [pS 1 false encI L, pN (tStep L (tStep L (tStep L a 12) 70) 26)]), (2, oB true 1 encI fnsL)] 4 ⟨rfl, trivial⟩ rfl rfl ?_
  refine r_end ?_
  refine q_then ?_
  refine w_leO (n := 1) (ds := [pI e1, pI (tNext L (tStep L a 12) 70), pI (tNext L (tStep L (tStep L a 12) 70) 26), pI 0, pI 0, pS 1 false encBo [], pS 1 false enc16 [], p16 0, p16 0]) rfl ⟨le_refl _, le_refl _, le_refl _, le_refl _, le_refl _, le_nilS 1 false, le_nilS 1 false, le_refl _, le_refl _, trivial⟩ ?_
  refine w_ret ?_
  have hex : rightR (⟨e1, tNext L (tStep L a 12) 70, tNext L (tStep L (tStep L a 12) 70) 26, 0, 0, [], [], 0, 0⟩ : TRequest) = 0 ∧ (⟨e1, tNext L (tStep L a 12) 70, tNext L (tStep L (tStep L a 12) 70) 26, 0, 0, [], [], 0, 0⟩ : TRequest).bits.length ≤ 25 ∧ (⟨e1, tNext L (tStep L a 12) 70, tNext L (tStep L (tStep L a 12) 70) 26, 0, 0, [], [], 0, 0⟩ : TRequest).vals.length ≤ 25 ∧ 0 ≤ (⟨e1, tNext L (tStep L a 12) 70, tNext L (tStep L (tStep L a 12) 70) 26, 0, 0, [], [], 0, 0⟩ : TRequest).count ∧ (⟨e1, tNext L (tStep L a 12) 70, tNext L (tStep L (tStep L a 12) 70) 26, 0, 0, [], [], 0, 0⟩ : TRequest).count ≤ 25 := by
    refine ⟨(shapeR_iff (q := _) hfn).2 ?_, by simp; try omega, by simp; try omega, by simp; try omega, by simp; try omega⟩
    constructor
    case bits => simp only; first | rfl | (rw [if_neg (by omega), if_neg (by omega)]; rfl) | (rw [if_pos (by omega)]; rfl) | (rw [if_neg (by omega), if_pos (by omega)]; exact ⟨by omega, by omega⟩)
    case vals => simp only; first | rfl | (rw [if_neg (by omega), if_neg (by omega), if_neg (by omega)]; rfl) | (rw [if_pos (by omega)]; rfl) | (rw [if_neg (by omega), if_pos (by omega)]; exact ⟨by omega, by omega⟩) | (rw [if_neg (by omega), if_neg (by omega), if_pos (by omega)]; omega)
    all_goals first | (intro _; rfl) | (intro _; exact ⟨rfl, rfl⟩) | (simp only; omega) | (intro h; simp at h) | (intro h; exact absurd rfl h) | (simp; omega)
  exact fin_names (nx1 := 1) (H1 := [(0, .obj [pS 1 false encI L, pN (tStep L (tStep L (tStep L a 12) 70) 26)])]) [(0, 0)] (ret_cell tab_32 (by decide) rfl rfl (Nat.le_of_ble_eq_true rfl) rfl ret_nil) rfl (by decide) ⟨⟨_, _, rfl, rfl, rfl, rfl⟩, trivial⟩ (by decide) rfl ⟨((⟨e1, tNext L (tStep L a 12) 70, tNext L (tStep L (tStep L a 12) 70) 26, 0, 0, [], [], 0, 0⟩ : TRequest)), (tStep L (tStep L (tStep L a 12) 70) 26), hex, rfl, rfl, rfl⟩
 ·
  have c1_ := c1
  try simp only [sB] at c1
  refine w_seq ?_
  refine w_R ?_
  refine qo hnt rfl (s_eql rfl rfl ?_)
  refine qa hnt rfl rfl ?_
  refine r_end ?_
  refine q_then ?_
  refine w_if rfl (fun c2 => ?_) (fun c2 => ?_)
  ·
   have c2_ := c2
   try simp only [sB] at c2
   refine w_skip ?_
   refine q_then ?_
   refine w_if rfl (fun _ => ?_) (fun e => absurd (e.symm.trans c2_) (by decide))
   have h26 := tNext_lt L (tStep L (tStep L a 12) 70) (n := 26) (by decide)
   refine w_R ?_
   refine qm hnt rfl rfl ?_
   refine qm hnt rfl rfl ?_
   refine qo hnt rfl (s_callX (r2 := pI (tNext L (tStep L (tStep L a 12) 70) 26)) (nx1 := 4) (H2 := [(0, .obj [pS 1 false encI L, pN (tStep L (tStep L a 12) 70)]), (3, .obj [pI e1, pI 0, pI 0, pI 0, pI 0, pNil, pNil, p16 0, p16 0]), (2, oB true 1 encI fnsL), (1, .obj [pI 0, pI 0, pI 0, pI 0, pI 0, pNil, pNil, p16 0, p16 0])]) (H3 := [(0, .obj [pS 1 false encI L, pN (tStep L (tStep L (tStep L a 12) 70) 26)]), (3, .obj [pI e1, pI 0, pI 0, pI 0, pI 0, pNil, pNil, p16 0, p16 0]), (2, oB true 1 encI fnsL), (1, .obj [pI 0, pI 0, pI 0, pI 0, pI 0, pNil, pNil, p16 0, p16 0])]) [0] [.obj [pS 1 false encI L, pN (tStep L (tStep L a 12) 70)]] rfl rfl rfl (handed_of (by decide) ⟨rfl, trivial⟩) rfl rfl rfl rfl rfl rfl (w_burgagekeep_Tape_Next L false (tStep L (tStep L a 12) 70) 26 (by first | omega | assumption | (simp; omega) | decide | (simp; done)) (by first | omega | assumption | (simp; omega) | decide | (simp; done))) rfl (dist_of rfl) rfl rfl rfl rfl ?_)
   refine qo hnt rfl (s_fa_ptr tab_32 rfl rfl tab_3 (by decide) rfl ?_)
   refine qo hnt rfl (s_store_ptr tab_3 rfl rfl rfl rfl rfl (Nat.le_of_ble_eq_true rfl) ?_)
   refine qo hnt rfl (s_fa_ptr tab_32 rfl rfl tab_3 (by decide) rfl ?_)
   refine qo hnt rfl (s_store_ptr tab_3 rfl rfl rfl rfl rfl (Nat.le_of_ble_eq_true rfl) ?_)
   refine r_set [(2, PV.ptr 1 0), (3, PV.ptr 3 0)] [(3, .obj [pI e1, pI (tNext L (tStep L a 12) 70), pI (tNext L (tStep L (tStep L a 12) 70) 26), pI 0, pI 0, pNil, pNil, p16 0, p16 0]), (0, .obj [pS 1 false encI L, pN (tStep L (tStep L (tStep L a 12) 70) 26)]), (2, oB true 1 encI fnsL), (1, .obj [pI 0, pI 0, pI 0, pI 0, pI 0, pNil, pNil, p16 0, p16 0])] 4 ⟨rfl, rfl, trivial⟩ rfl rfl ?_
   refine r_end ?_
   refine q_block ?_
   refine q_then ?_
   refine w_seq ?_
   refine w_R ?_
   refine qo hnt rfl (s_load_ptr tab_32 rfl rfl rfl (Nat.le_of_ble_eq_true rfl) ?_)
   refine qo hnt rfl (s_store_ptr tab_32 rfl rfl rfl rfl rfl (Nat.le_of_ble_eq_true rfl) ?_)
   refine r_set [(2, PV.ptr 1 0)] [(1, .obj [pI e1, pI (tNext L (tStep L a 12) 70), pI (tNext L (tStep L (tStep L a 12) 70) 26), pI 0, pI 0, pNil, pNil, p16 0, p16 0]), (3, .obj [pI e1, pI (tNext L (tStep L a 12) 70), pI (tNext L (tStep L (tStep L a 12) 70) 26), pI 0, pI 0, pNil, pNil, p16 0, p16 0]), (0, .obj [pS 1 false encI L, pN (tStep L (tStep L (tStep L a 12) 70) 26)]), (2, oB true 1 encI fnsL)] 4 ⟨rfl, trivial⟩ rfl rfl ?_
   refine r_end ?_
   refine q_then ?_
   refine w_leO (n := 1) (ds := [pI e1, pI (tNext L (tStep L a 12) 70), pI (tNext L (tStep L (tStep L a 12) 70) 26), pI 0, pI 0, pS 1 false encBo [], pS 1 false enc16 [], p16 0, p16 0]) rfl ⟨le_refl _, le_refl _, le_refl _, le_refl _, le_refl _, le_nilS 1 false, le_nilS 1 false, le_refl _, le_refl _, trivial⟩ ?_
   refine w_ret ?_
   have hex : rightR (⟨e1, tNext L (tStep L a 12) 70, tNext L (tStep L (tStep L a 12) 70) 26, 0, 0, [], [], 0, 0⟩ : TRequest) = 0 ∧ (⟨e1, tNext L (tStep L a 12) 70, tNext L (tStep L (tStep L a 12) 70) 26, 0, 0, [], [], 0, 0⟩ : TRequest).bits.length ≤ 25 ∧ (⟨e1, tNext L (tStep L a 12) 70, tNext L (tStep L (tStep L a 12) 70) 26, 0, 0, [], [], 0, 0⟩ : TRequest).vals.length ≤ 25 ∧ 0 ≤ (⟨e1, tNext L (tStep L a 12) 70, tNext L (tStep L (tStep L a 12) 70) 26, 0, 0, [], [], 0, 0⟩ : TRequest).count ∧ (⟨e1, tNext L (tStep L a 12) 70, tNext L (tStep L (tStep L a 12) 70) 26, 0, 0, [], [], 0, 0⟩ : TRequest).count ≤ 25 := by
     refine ⟨(shapeR_iff (q := _) hfn).2 ?_, by simp; try omega, by simp; try omega, by simp; try omega, by simp; try omega⟩
     constructor
     case bits => simp only; first | rfl | (rw [if_neg (by omega), if_neg (by omega)]; rfl) | (rw [if_pos (by omega)]; rfl) | (rw [if_neg (by omega), if_pos (by omega)]; exact ⟨by omega, by omega⟩)
     case vals => simp only; first | rfl | (rw [if_neg (by omega), if_neg (by omega), if_neg (by omega)]; rfl) | (rw [if_pos (by omega)]; rfl) | (rw [if_neg (by omega), if_pos (by omega)]; exact ⟨by omega, by omega⟩) | (rw [if_neg (by omega), if_neg (by omega), if_pos (by omega)]; omega)
     all_goals first | (intro _; rfl) | (intro _; exact ⟨rfl, rfl⟩) | (simp only; omega) | (intro h; simp at h) | (intro h; exact absurd rfl h) | (simp; omega)
   exact fin_names (nx1 := 1) (H1 := [(0, .obj [pS 1 false encI L, pN (tStep L (tStep L (tStep L a 12) 70) 26)])]) [(0, 0)] (ret_cell tab_32 (by decide) rfl rfl (Nat.le_of_ble_eq_true rfl) rfl ret_nil) rfl (by decide) ⟨⟨_, _, rfl, rfl, rfl, rfl⟩, trivial⟩ (by decide) rfl ⟨((⟨e1, tNext L (tStep L a 12) 70, tNext L (tStep L (tStep L a 12) 70) 26, 0, 0, [], [], 0, 0⟩ : TRequest)), (tStep L (tStep L (tStep L a 12) 70) 26), hex, rfl, rfl, rfl⟩
  ·
   have c2_ := c2
   try simp only [sB] at c2
   refine w_seq ?_
   refine w_R ?_
   refine qo hnt rfl (s_eql rfl rfl ?_)
   refine qa hnt rfl rfl ?_
   refine r_end ?_
   refine q_then ?_
   refine w_if rfl (fun c3 => ?_) (fun c3 => ?_)
   ·
    have c3_ := c3
    try simp only [sB] at c3
    refine w_skip ?_
    refine q_then ?_
    refine w_if rfl (fun _ => ?_) (fun e => absurd (e.symm.trans c3_) (by decide))
    have h26 := tNext_lt L (tStep L (tStep L a 12) 70) (n := 26) (by decide)
    refine w_R ?_
    refine qm hnt rfl rfl ?_
    refine qm hnt rfl rfl ?_
    refine qo hnt rfl (s_callX (r2 := pI (tNext L (tStep L (tStep L a 12) 70) 26)) (nx1 := 4) (H2 := [(0, .obj [pS 1 false encI L, pN (tStep L (tStep L a 12) 70)]), (3, .obj [pI e1, pI 0, pI 0, pI 0, pI 0, pNil, pNil, p16 0, p16 0]), (2, oB true 1 encI fnsL), (1, .obj [pI 0, pI 0, pI 0, pI 0, pI 0, pNil, pNil, p16 0, p16 0])]) (H3 := [(0, .obj [pS 1 false encI L, pN (tStep L (tStep L (tStep L a 12) 70) 26)]), (3, .obj [pI e1, pI 0, pI 0, pI 0, pI 0, pNil, pNil, p16 0, p16 0]), (2, oB true 1 encI fnsL), (1, .obj [pI 0, pI 0, pI 0, pI 0, pI 0, pNil, pNil, p16 0, p16 0])]) [0] [.obj [pS 1 false encI L, pN (tStep L (tStep L a 12) 70)]] rfl rfl rfl (handed_of (by decide) ⟨rfl, trivial⟩) rfl rfl rfl rfl rfl rfl (w_burgagekeep_Tape_Next L false (tStep L (tStep L a 12) 70) 26 (by first | omega | assumption | (simp; omega) | decide | (simp; done)) (by first | omega | assumption | (simp; omega) | decide | (simp; done))) rfl (dist_of rfl) rfl rfl rfl rfl ?_)
    refine qo hnt rfl (s_fa_ptr tab_32 rfl rfl tab_3 (by decide) rfl ?_)
    refine qo hnt rfl (s_store_ptr tab_3 rfl rfl rfl rfl rfl (Nat.le_of_ble_eq_true rfl) ?_)
    refine qo hnt rfl (s_fa_ptr tab_32 rfl rfl tab_3 (by decide) rfl ?_)
    refine qo hnt rfl (s_store_ptr tab_3 rfl rfl rfl rfl rfl (Nat.le_of_ble_eq_true rfl) ?_)
    refine r_set [(2, PV.ptr 1 0), (3, PV.ptr 3 0)] [(3, .obj [pI e1, pI (tNext L (tStep L a 12) 70), pI (tNext L (tStep L (tStep L a 12) 70) 26), pI 0, pI 0, pNil, pNil, p16 0, p16 0]), (0, .obj [pS 1 false encI L, pN (tStep L (tStep L (tStep L a 12) 70) 26)]), (2, oB true 1 encI fnsL), (1, .obj [pI 0, pI 0, pI 0, pI 0, pI 0, pNil, pNil, p16 0, p16 0])] 4 ⟨rfl, rfl, trivial⟩ rfl rfl ?_
    refine r_end ?_
    refine q_block ?_
    refine q_then ?_
    refine w_seq ?_
    refine w_R ?_
    refine qo hnt rfl (s_load_ptr tab_32 rfl rfl rfl (Nat.le_of_ble_eq_true rfl) ?_)
    refine qo hnt rfl (s_store_ptr tab_32 rfl rfl rfl rfl rfl (Nat.le_of_ble_eq_true rfl) ?_)
    refine r_set [(2, PV.ptr 1 0)] [(1, .obj [pI e1, pI (tNext L (tStep L a 12) 70), pI (tNext L (tStep L (tStep L a 12) 70) 26), pI 0, pI 0, pNil, pNil, p16 0, p16 0]), (3, .obj [pI e1, pI (tNext L (tStep L a 12) 70), pI (tNext L (tStep L (tStep L a 12) 70) 26), pI 0, pI 0, pNil, pNil, p16 0, p16 0]), (0, .obj [pS 1 false encI L, pN (tStep L (tStep L (tStep L a 12) 70) 26)]), (2, oB true 1 encI fnsL)] 4 ⟨rfl, trivial⟩ rfl rfl ?_
    refine r_end ?_
    refine q_then ?_
    refine w_leO (n := 1) (ds := [pI e1, pI (tNext L (tStep L a 12) 70), pI (tNext L (tStep L (tStep L a 12) 70) 26), pI 0, pI 0, pS 1 false encBo [], pS 1 false enc16 [], p16 0, p16 0]) rfl ⟨le_refl _, le_refl _, le_refl _, le_refl _, le_refl _, le_nilS 1 false, le_nilS 1 false, le_refl _, le_refl _, trivial⟩ ?_
    refine w_ret ?_
    have hex : rightR (⟨e1, tNext L (tStep L a 12) 70, tNext L (tStep L (tStep L a 12) 70) 26, 0, 0, [], [], 0, 0⟩ : TRequest) = 0 ∧ (⟨e1, tNext L (tStep L a 12) 70, tNext L (tStep L (tStep L a 12) 70) 26, 0, 0, [], [], 0, 0⟩ : TRequest).bits.length ≤ 25 ∧ (⟨e1, tNext L (tStep L a 12) 70, tNext L (tStep L (tStep L a 12) 70) 26, 0, 0, [], [], 0, 0⟩ : TRequest).vals.length ≤ 25 ∧ 0 ≤ (⟨e1, tNext L (tStep L a 12) 70, tNext L (tStep L (tStep L a 12) 70) 26, 0, 0, [], [], 0, 0⟩ : TRequest).count ∧ (⟨e1, tNext L (tStep L a 12) 70, tNext L (tStep L (tStep L a 12) 70) 26, 0, 0, [], [], 0, 0⟩ : TRequest).count ≤ 25 := by
      refine ⟨(shapeR_iff (q := _) hfn).2 ?_, by simp; try omega, by simp; try omega, by simp; try omega, by simp; try omega⟩
      constructor
      case bits => simp only; first | rfl | (rw [if_neg (by omega), if_neg (by omega)]; rfl) | (rw [if_pos (by omega)]; rfl) | (rw [if_neg (by omega), if_pos (by omega)]; exact ⟨by omega, by omega⟩)
      case vals => simp only; first | rfl | (rw [if_neg (by omega), if_neg (by omega), if_neg (by omega)]; rfl) | (rw [if_pos (by omega)]; rfl) | (rw [if_neg (by omega), if_pos (by omega)]; exact ⟨by omega, by omega⟩) | (rw [if_neg (by omega), if_neg (by omega), if_pos (by omega)]; omega)
      all_goals first | (intro _; rfl) | (intro _; exact ⟨rfl, rfl⟩) | (simp only; omega) | (intro h; simp at h) | (intro h; exact absurd rfl h) | (simp; omega)
    exact fin_names (nx1 := 1) (H1 := [(0, .obj [pS 1 false encI L, pN (tStep L (tStep L (tStep L a 12) 70) 26)])]) [(0, 0)] (ret_cell tab_32 (by decide) rfl rfl (Nat.le_of_ble_eq_true rfl) rfl ret_nil) rfl (by decide) ⟨⟨_, _, rfl, rfl, rfl, rfl⟩, trivial⟩ (by decide) rfl ⟨((⟨e1, tNext L (tStep L a 12) 70, tNext L (tStep L (tStep L a 12) 70) 26, 0, 0, [], [], 0, 0⟩ : TRequest)), (tStep L (tStep L (tStep L a 12) 70) 26), hex, rfl, rfl, rfl⟩
   ·
    have c3_ := c3
    try simp only [sB] at c3
    refine w_R ?_
    refine qo hnt rfl (s_eql rfl rfl ?_)
    refine qa hnt rfl rfl ?_
    refine r_end ?_
    refine q_then ?_
    refine w_if rfl (fun c4 => ?_) (fun c4 => ?_)
    ·
     have c4_ := c4
     try simp only [sB] at c4
     have h26 := tNext_lt L (tStep L (tStep L a 12) 70) (n := 26) (by decide)
     refine w_R ?_
     refine qm hnt rfl rfl ?_
     refine qm hnt rfl rfl ?_
     refine qo hnt rfl (s_callX (r2 := pI (tNext L (tStep L (tStep L a 12) 70) 26)) (nx1 := 4) (H2 := [(0, .obj [pS 1 false encI L, pN (tStep L (tStep L a 12) 70)]), (3, .obj [pI e1, pI 0, pI 0, pI 0, pI 0, pNil, pNil, p16 0, p16 0]), (2, oB true 1 encI fnsL), (1, .obj [pI 0, pI 0, pI 0, pI 0, pI 0, pNil, pNil, p16 0, p16 0])]) (H3 := [(0, .obj [pS 1 false encI L, pN (tStep L (tStep L (tStep L a 12) 70) 26)]), (3, .obj [pI e1, pI 0, pI 0, pI 0, pI 0, pNil, pNil, p16 0, p16 0]), (2, oB true 1 encI fnsL), (1, .obj [pI 0, pI 0, pI 0, pI 0, pI 0, pNil, pNil, p16 0, p16 0])]) [0] [.obj [pS 1 false encI L, pN (tStep L (tStep L a 12) 70)]] rfl rfl rfl (handed_of (by decide) ⟨rfl, trivial⟩) rfl rfl rfl rfl rfl rfl (w_burgagekeep_Tape_Next L false (tStep L (tStep L a 12) 70) 26 (by first | omega | assumption | (simp; omega) | decide | (simp; done)) (by first | omega | assumption | (simp; omega) | decide | (simp; done))) rfl (dist_of rfl) rfl rfl rfl rfl ?_)
     refine qo hnt rfl (s_fa_ptr tab_32 rfl rfl tab_3 (by decide) rfl ?_)
     refine qo hnt rfl (s_store_ptr tab_3 rfl rfl rfl rfl rfl (Nat.le_of_ble_eq_true rfl) ?_)
     refine qo hnt rfl (s_fa_ptr tab_32 rfl rfl tab_3 (by decide) rfl ?_)
     refine qo hnt rfl (s_store_ptr tab_3 rfl rfl rfl rfl rfl (Nat.le_of_ble_eq_true rfl) ?_)
     refine r_set [(2, PV.ptr 1 0), (3, PV.ptr 3 0)] [(3, .obj [pI e1, pI (tNext L (tStep L a 12) 70), pI (tNext L (tStep L (tStep L a 12) 70) 26), pI 0, pI 0, pNil, pNil, p16 0, p16 0]), (0, .obj [pS 1 false encI L, pN (tStep L (tStep L (tStep L a 12) 70) 26)]), (2, oB true 1 encI fnsL), (1, .obj [pI 0, pI 0, pI 0, pI 0, pI 0, pNil, pNil, p16 0, p16 0])] 4 ⟨rfl, rfl, trivial⟩ rfl rfl ?_
     refine r_end ?_
     refine q_block ?_
     refine q_then ?_
     refine w_seq ?_
     refine w_R ?_
     refine qo hnt rfl (s_load_ptr tab_32 rfl rfl rfl (Nat.le_of_ble_eq_true rfl) ?_)
     refine qo hnt rfl (s_store_ptr tab_32 rfl rfl rfl rfl rfl (Nat.le_of_ble_eq_true rfl) ?_)
     refine r_set [(2, PV.ptr 1 0)] [(1, .obj [pI e1, pI (tNext L (tStep L a 12) 70), pI (tNext L (tStep L (tStep L a 12) 70) 26), pI 0, pI 0, pNil, pNil, p16 0, p16 0]), (3, .obj [pI e1, pI (tNext L (tStep L a 12) 70), pI (tNext L (tStep L (tStep L a 12) 70) 26), pI 0, pI 0, pNil, pNil, p16 0, p16 0]), (0, .obj [pS 1 false encI L, pN (tStep L (tStep L (tStep L a 12) 70) 26)]), (2, oB true 1 encI fnsL)] 4 ⟨rfl, trivial⟩ rfl rfl ?_
     refine r_end ?_
     refine q_then ?_
     refine w_leO (n := 1) (ds := [pI e1, pI (tNext L (tStep L a 12) 70), pI (tNext L (tStep L (tStep L a 12) 70) 26), pI 0, pI 0, pS 1 false encBo [], pS 1 false enc16 [], p16 0, p16 0]) rfl ⟨le_refl _, le_refl _, le_refl _, le_refl _, le_refl _, le_nilS 1 false, le_nilS 1 false, le_refl _, le_refl _, trivial⟩ ?_
     refine w_ret ?_
     have hex : rightR (⟨e1, tNext L (tStep L a 12) 70, tNext L (tStep L (tStep L a 12) 70) 26, 0, 0, [], [], 0, 0⟩ : TRequest) = 0 ∧ (⟨e1, tNext L (tStep L a 12) 70, tNext L (tStep L (tStep L a 12) 70) 26, 0, 0, [], [], 0, 0⟩ : TRequest).bits.length ≤ 25 ∧ (⟨e1, tNext L (tStep L a 12) 70, tNext L (tStep L (tStep L a 12) 70) 26, 0, 0, [], [], 0, 0⟩ : TRequest).vals.length ≤ 25 ∧ 0 ≤ (⟨e1, tNext L (tStep L a 12) 70, tNext L (tStep L (tStep L a 12) 70) 26, 0, 0, [], [], 0, 0⟩ : TRequest).count ∧ (⟨e1, tNext L (tStep L a 12) 70, tNext L (tStep L (tStep L a 12) 70) 26, 0, 0, [], [], 0, 0⟩ : TRequest).count ≤ 25 := by
       refine ⟨(shapeR_iff (q := _) hfn).2 ?_, by simp; try omega, by simp; try omega, by simp; try omega, by simp; try omega⟩
       constructor
       case bits => simp only; first | rfl | (rw [if_neg (by omega), if_neg (by omega)]; rfl) | (rw [if_pos (by omega)]; rfl) | (rw [if_neg (by omega), if_pos (by omega)]; exact ⟨by omega, by omega⟩)
       case vals => simp only; first | rfl | (rw [if_neg (by omega), if_neg (by omega), if_neg (by omega)]; rfl) | (rw [if_pos (by omega)]; rfl) | (rw [if_neg (by omega), if_pos (by omega)]; exact ⟨by omega, by omega⟩) | (rw [if_neg (by omega), if_neg (by omega), if_pos (by omega)]; omega)
       all_goals first | (intro _; rfl) | (intro _; exact ⟨rfl, rfl⟩) | (simp only; omega) | (intro h; simp at h) | (intro h; exact absurd rfl h) | (simp; omega)
     exact fin_names (nx1 := 1) (H1 := [(0, .obj [pS 1 false encI L, pN (tStep L (tStep L (tStep L a 12) 70) 26)])]) [(0, 0)] (ret_cell tab_32 (by decide) rfl rfl (Nat.le_of_ble_eq_true rfl) rfl ret_nil) rfl (by decide) ⟨⟨_, _, rfl, rfl, rfl, rfl⟩, trivial⟩ (by decide) rfl ⟨((⟨e1, tNext L (tStep L a 12) 70, tNext L (tStep L (tStep L a 12) 70) 26, 0, 0, [], [], 0, 0⟩ : TRequest)), (tStep L (tStep L (tStep L a 12) 70) 26), hex, rfl, rfl, rfl⟩
    ·
     have c4_ := c4
     try simp only [sB] at c4
     refine w_seq ?_
     refine w_R ?_
     refine qo hnt rfl (s_eql rfl rfl ?_)
     refine qa hnt rfl rfl ?_
     refine r_end ?_
     refine q_then ?_
     refine w_if rfl (fun c5 => ?_) (fun c5 => ?_)
     ·
      have c5_ := c5
      try simp only [sB] at c5
      refine w_R ?_
      refine qm hnt rfl rfl ?_
      refine qm hnt rfl rfl ?_
      refine qo hnt rfl (s_callX (r2 := pI (tNext L (tStep L (tStep L a 12) 70) 2)) (nx1 := 4) (H2 := [(0, .obj [pS 1 false encI L, pN (tStep L (tStep L a 12) 70)]), (3, .obj [pI e1, pI 0, pI 0, pI 0, pI 0, pNil, pNil, p16 0, p16 0]), (2, oB true 1 encI fnsL), (1, .obj [pI 0, pI 0, pI 0, pI 0, pI 0, pNil, pNil, p16 0, p16 0])]) (H3 := [(0, .obj [pS 1 false encI L, pN (tStep L (tStep L (tStep L a 12) 70) 2)]), (3, .obj [pI e1, pI 0, pI 0, pI 0, pI 0, pNil, pNil, p16 0, p16 0]), (2, oB true 1 encI fnsL), (1, .obj [pI 0, pI 0, pI 0, pI 0, pI 0, pNil, pNil, p16 0, p16 0])]) [0] [.obj [pS 1 false encI L, pN (tStep L (tStep L a 12) 70)]] rfl rfl rfl (handed_of (by decide) ⟨rfl, trivial⟩) rfl rfl rfl rfl rfl rfl (w_burgagekeep_Tape_Next L false (tStep L (tStep L a 12) 70) 2 (by first | omega | assumption | (simp; omega) | decide | (simp; done)) (by first | omega | assumption | (simp; omega) | decide | (simp; done))) rfl (dist_of rfl) rfl rfl rfl rfl ?_)
      refine qo hnt rfl (s_eql rfl rfl ?_)
      refine qo hnt rfl (s_mkM (f := encBo) [decide (tNext L (tStep L (tStep L a 12) 70) 2 = 1)] tab_28 rfl tab_4 ⟨rfl, by decide⟩ (by decide) rfl rfl rfl rfl ?_)
      refine qo hnt rfl (s_fa_ptr tab_32 rfl rfl tab_3 (by decide) rfl ?_)
      refine qo hnt rfl (s_store_ptr tab_3 rfl rfl rfl rfl rfl (Nat.le_of_ble_eq_true rfl) ?_)
      refine qo hnt rfl (s_fa_ptr tab_32 rfl rfl tab_28 (by decide) rfl ?_)
      refine qo hnt rfl (s_store_ptr tab_28 rfl rfl rfl rfl rfl (Nat.le_of_ble_eq_true rfl) ?_)
      refine r_set [(2, PV.ptr 1 0), (3, PV.ptr 3 0)] [(3, .obj [pI e1, pI (tNext L (tStep L a 12) 70), pI 0, pI 0, pI 0, PV.ref 4 0 none, pNil, p16 0, p16 0]), (4, oB true 1 encBo [decide (tNext L (tStep L (tStep L a 12) 70) 2 = 1)]), (0, .obj [pS 1 false encI L, pN (tStep L (tStep L (tStep L a 12) 70) 2)]), (2, oB true 1 encI fnsL), (1, .obj [pI 0, pI 0, pI 0, pI 0, pI 0, pNil, pNil, p16 0, p16 0])] 5 ⟨rfl, rfl, trivial⟩ rfl rfl ?_
      refine r_end ?_
      refine q_block ?_
      refine q_then ?_
      refine w_seq ?_
      refine w_R ?_
      refine qo hnt rfl (s_load_ptr tab_32 rfl rfl rfl (Nat.le_of_ble_eq_true rfl) ?_)
      refine qo hnt rfl (s_store_ptr tab_32 rfl rfl rfl rfl rfl (Nat.le_of_ble_eq_true rfl) ?_)
      refine r_set [(2, PV.ptr 1 0)] [(1, .obj [pI e1, pI (tNext L (tStep L a 12) 70), pI 0, pI 0, pI 0, PV.ref 4 0 none, pNil, p16 0, p16 0]), (3, .obj [pI e1, pI (tNext L (tStep L a 12) 70), pI 0, pI 0, pI 0, PV.ref 4 0 none, pNil, p16 0, p16 0]), (4, oB true 1 encBo [decide (tNext L (tStep L (tStep L a 12) 70) 2 = 1)]), (0, .obj [pS 1 false encI L, pN (tStep L (tStep L (tStep L a 12) 70) 2)]), (2, oB true 1 encI fnsL)] 5 ⟨rfl, trivial⟩ rfl rfl ?_
      refine r_end ?_
      refine q_then ?_
      refine w_frzC (n := 1) (j := 5) rfl rfl rfl rfl ?_
      refine w_leO (n := 1) (ds := [pI e1, pI (tNext L (tStep L a 12) 70), pI 0, pI 0, pI 0, pS 1 false encBo [decide (tNext L (tStep L (tStep L a 12) 70) 2 = 1)], pS 1 false enc16 [], p16 0, p16 0]) rfl ⟨le_refl _, le_refl _, le_refl _, le_refl _, le_refl _, le_refl _, le_nilS 1 false, le_refl _, le_refl _, trivial⟩ ?_
      refine w_ret ?_
      have hex : rightR (⟨e1, tNext L (tStep L a 12) 70, 0, 0, 0, [decide (tNext L (tStep L (tStep L a 12) 70) 2 = 1)], [], 0, 0⟩ : TRequest) = 0 ∧ (⟨e1, tNext L (tStep L a 12) 70, 0, 0, 0, [decide (tNext L (tStep L (tStep L a 12) 70) 2 = 1)], [], 0, 0⟩ : TRequest).bits.length ≤ 25 ∧ (⟨e1, tNext L (tStep L a 12) 70, 0, 0, 0, [decide (tNext L (tStep L (tStep L a 12) 70) 2 = 1)], [], 0, 0⟩ : TRequest).vals.length ≤ 25 ∧ 0 ≤ (⟨e1, tNext L (tStep L a 12) 70, 0, 0, 0, [decide (tNext L (tStep L (tStep L a 12) 70) 2 = 1)], [], 0, 0⟩ : TRequest).count ∧ (⟨e1, tNext L (tStep L a 12) 70, 0, 0, 0, [decide (tNext L (tStep L (tStep L a 12) 70) 2 = 1)], [], 0, 0⟩ : TRequest).count ≤ 25 := by
        refine ⟨(shapeR_iff (q := _) hfn).2 ?_, by simp; try omega, by simp; try omega, by simp; try omega, by simp; try omega⟩
        constructor
        case bits => simp only; first | rfl | (rw [if_neg (by omega), if_neg (by omega)]; rfl) | (rw [if_pos (by omega)]; rfl) | (rw [if_neg (by omega), if_pos (by omega)]; exact ⟨by omega, by omega⟩)
        case vals => simp only; first | rfl | (rw [if_neg (by omega), if_neg (by omega), if_neg (by omega)]; rfl) | (rw [if_pos (by omega)]; rfl) | (rw [if_neg (by omega), if_pos (by omega)]; exact ⟨by omega, by omega⟩) | (rw [if_neg (by omega), if_neg (by omega), if_pos (by omega)]; omega)
        all_goals first | (intro _; rfl) | (intro _; exact ⟨rfl, rfl⟩) | (simp only; omega) | (intro h; simp at h) | (intro h; exact absurd rfl h) | (simp; omega)
      exact fin_names (nx1 := 1) (H1 := [(0, .obj [pS 1 false encI L, pN (tStep L (tStep L (tStep L a 12) 70) 2)])]) [(0, 0)] (ret_cell tab_32 (by decide) rfl rfl (Nat.le_of_ble_eq_true rfl) rfl ret_nil) rfl (by decide) ⟨⟨_, _, rfl, rfl, rfl, rfl⟩, trivial⟩ (by decide) rfl ⟨((⟨e1, tNext L (tStep L a 12) 70, 0, 0, 0, [decide (tNext L (tStep L (tStep L a 12) 70) 2 = 1)], [], 0, 0⟩ : TRequest)), (tStep L (tStep L (tStep L a 12) 70) 2), hex, rfl, rfl, rfl⟩
     ·
      have c5_ := c5
      try simp only [sB] at c5
      refine w_seq ?_
      refine w_R ?_
      refine qo hnt rfl (s_eql rfl rfl ?_)
      refine qa hnt rfl rfl ?_
      refine r_end ?_
      refine q_then ?_
      refine w_if rfl (fun c6 => ?_) (fun c6 => ?_)
      ·
       have c6_ := c6
       try simp only [sB] at c6
       refine w_R ?_
       refine qm hnt rfl rfl ?_
       refine qm hnt rfl rfl ?_
       refine qo hnt rfl (s_callX (r2 := pI (tNext L (tStep L (tStep L a 12) 70) 65536)) (nx1 := 4) (H2 := [(0, .obj [pS 1 false encI L, pN (tStep L (tStep L a 12) 70)]), (3, .obj [pI e1, pI 0, pI 0, pI 0, pI 0, pNil, pNil, p16 0, p16 0]), (2, oB true 1 encI fnsL), (1, .obj [pI 0, pI 0, pI 0, pI 0, pI 0, pNil, pNil, p16 0, p16 0])]) (H3 := [(0, .obj [pS 1 false encI L, pN (tStep L (tStep L (tStep L a 12) 70) 65536)]), (3, .obj [pI e1, pI 0, pI 0, pI 0, pI 0, pNil, pNil, p16 0, p16 0]), (2, oB true 1 encI fnsL), (1, .obj [pI 0, pI 0, pI 0, pI 0, pI 0, pNil, pNil, p16 0, p16 0])]) [0] [.obj [pS 1 false encI L, pN (tStep L (tStep L a 12) 70)]] rfl rfl rfl (handed_of (by decide) ⟨rfl, trivial⟩) rfl rfl rfl rfl rfl rfl (w_burgagekeep_Tape_Next L false (tStep L (tStep L a 12) 70) 65536 (by first | omega | assumption | (simp; omega) | decide | (simp; done)) (by first | omega | assumption | (simp; omega) | decide | (simp; done))) rfl (dist_of rfl) rfl rfl rfl rfl ?_)
       refine qo hnt rfl (s_cv16 tab_3 tab_30 rfl rfl rfl ?_)
       refine qo hnt rfl (s_mkM (f := enc16) [u16I (tNext L (tStep L (tStep L a 12) 70) 65536)] tab_29 rfl tab_30 ⟨rfl, by decide⟩ (by decide) rfl rfl rfl rfl ?_)
       refine qo hnt rfl (s_fa_ptr tab_32 rfl rfl tab_3 (by decide) rfl ?_)
       refine qo hnt rfl (s_store_ptr tab_3 rfl rfl rfl rfl rfl (Nat.le_of_ble_eq_true rfl) ?_)
       refine qo hnt rfl (s_fa_ptr tab_32 rfl rfl tab_29 (by decide) rfl ?_)
       refine qo hnt rfl (s_store_ptr tab_29 rfl rfl rfl rfl rfl (Nat.le_of_ble_eq_true rfl) ?_)
       refine r_set [(2, PV.ptr 1 0), (3, PV.ptr 3 0)] [(3, .obj [pI e1, pI (tNext L (tStep L a 12) 70), pI 0, pI 0, pI 0, pNil, PV.ref 4 0 none, p16 0, p16 0]), (4, oB true 1 enc16 [u16I (tNext L (tStep L (tStep L a 12) 70) 65536)]), (0, .obj [pS 1 false encI L, pN (tStep L (tStep L (tStep L a 12) 70) 65536)]), (2, oB true 1 encI fnsL), (1, .obj [pI 0, pI 0, pI 0, pI 0, pI 0, pNil, pNil, p16 0, p16 0])] 5 ⟨rfl, rfl, trivial⟩ rfl rfl ?_
       refine r_end ?_
       refine q_block ?_
       refine q_then ?_
       refine w_seq ?_
       refine w_R ?_
       refine qo hnt rfl (s_load_ptr tab_32 rfl rfl rfl (Nat.le_of_ble_eq_true rfl) ?_)
       refine qo hnt rfl (s_store_ptr tab_32 rfl rfl rfl rfl rfl (Nat.le_of_ble_eq_true rfl) ?_)
       refine r_set [(2, PV.ptr 1 0)] [(1, .obj [pI e1, pI (tNext L (tStep L a 12) 70), pI 0, pI 0, pI 0, pNil, PV.ref 4 0 none, p16 0, p16 0]), (3, .obj [pI e1, pI (tNext L (tStep L a 12) 70), pI 0, pI 0, pI 0, pNil, PV.ref 4 0 none, p16 0, p16 0]), (4, oB true 1 enc16 [u16I (tNext L (tStep L (tStep L a 12) 70) 65536)]), (0, .obj [pS 1 false encI L, pN (tStep L (tStep L (tStep L a 12) 70) 65536)]), (2, oB true 1 encI fnsL)] 5 ⟨rfl, trivial⟩ rfl rfl ?_
       refine r_end ?_
       refine q_then ?_
       refine w_frzC (n := 1) (j := 6) rfl rfl rfl rfl ?_
       refine w_leO (n := 1) (ds := [pI e1, pI (tNext L (tStep L a 12) 70), pI 0, pI 0, pI 0, pS 1 false encBo [], pS 1 false enc16 [u16I (tNext L (tStep L (tStep L a 12) 70) 65536)], p16 0, p16 0]) rfl ⟨le_refl _, le_refl _, le_refl _, le_refl _, le_refl _, le_nilS 1 false, le_refl _, le_refl _, le_refl _, trivial⟩ ?_
       refine w_ret ?_
       have hex : rightR (⟨e1, tNext L (tStep L a 12) 70, 0, 0, 0, [], [u16I (tNext L (tStep L (tStep L a 12) 70) 65536)], 0, 0⟩ : TRequest) = 0 ∧ (⟨e1, tNext L (tStep L a 12) 70, 0, 0, 0, [], [u16I (tNext L (tStep L (tStep L a 12) 70) 65536)], 0, 0⟩ : TRequest).bits.length ≤ 25 ∧ (⟨e1, tNext L (tStep L a 12) 70, 0, 0, 0, [], [u16I (tNext L (tStep L (tStep L a 12) 70) 65536)], 0, 0⟩ : TRequest).vals.length ≤ 25 ∧ 0 ≤ (⟨e1, tNext L (tStep L a 12) 70, 0, 0, 0, [], [u16I (tNext L (tStep L (tStep L a 12) 70) 65536)], 0, 0⟩ : TRequest).count ∧ (⟨e1, tNext L (tStep L a 12) 70, 0, 0, 0, [], [u16I (tNext L (tStep L (tStep L a 12) 70) 65536)], 0, 0⟩ : TRequest).count ≤ 25 := by
         refine ⟨(shapeR_iff (q := _) hfn).2 ?_, by simp; try omega, by simp; try omega, by simp; try omega, by simp; try omega⟩
         constructor
         case bits => simp only; first | rfl | (rw [if_neg (by omega), if_neg (by omega)]; rfl) | (rw [if_pos (by omega)]; rfl) | (rw [if_neg (by omega), if_pos (by omega)]; exact ⟨by omega, by omega⟩)
         case vals => simp only; first | rfl | (rw [if_neg (by omega), if_neg (by omega), if_neg (by omega)]; rfl) | (rw [if_pos (by omega)]; rfl) | (rw [if_neg (by omega), if_pos (by omega)]; exact ⟨by omega, by omega⟩) | (rw [if_neg (by omega), if_neg (by omega), if_pos (by omega)]; omega)
         all_goals first | (intro _; rfl) | (intro _; exact ⟨rfl, rfl⟩) | (simp only; omega) | (intro h; simp at h) | (intro h; exact absurd rfl h) | (simp; omega)
       exact fin_names (nx1 := 1) (H1 := [(0, .obj [pS 1 false encI L, pN (tStep L (tStep L (tStep L a 12) 70) 65536)])]) [(0, 0)] (ret_cell tab_32 (by decide) rfl rfl (Nat.le_of_ble_eq_true rfl) rfl ret_nil) rfl (by decide) ⟨⟨_, _, rfl, rfl, rfl, rfl⟩, trivial⟩ (by decide) rfl ⟨((⟨e1, tNext L (tStep L a 12) 70, 0, 0, 0, [], [u16I (tNext L (tStep L (tStep L a 12) 70) 65536)], 0, 0⟩ : TRequest)), (tStep L (tStep L (tStep L a 12) 70) 65536), hex, rfl, rfl, rfl⟩
      ·
       have c6_ := c6
       try simp only [sB] at c6
       refine w_seq ?_
       refine w_R ?_
       refine qo hnt rfl (s_eql rfl rfl ?_)
       refine qa hnt rfl rfl ?_
       refine r_end ?_
       refine q_then ?_
       refine w_if rfl (fun c7 => ?_) (fun c7 => ?_)
       ·
        have c7_ := c7
        try simp only [sB] at c7
        have h8 := tNext_lt L (tStep L (tStep L a 12) 70) (n := 8) (by decide)
        have h4 := tNext_lt L (tStep L (tStep L (tStep L a 12) 70) 8) (n := 4) (by decide)
        refine W_drawn tabOk mixed hnt [[], [], [1], [0, 1, 2], [0, 1, 2, 3], [], [], [1, 2, 6], [1, 2, 5, 6, 7], [1, 2, 5, 6, 7, 8], [1, 2, 5, 6, 7, 8, 9], [0, 1, 2, 3, 4], [0, 1, 2, 3, 4, 6, 7, 11], [0, 1, 2, 3, 4, 5, 6, 7, 8, 9, 10, 11, 12], [0, 1, 2, 3, 4, 5, 6, 7, 8, 9, 10, 11, 12, 13]] (by kernel_rfl) ?_
        refine d_op ?_
        refine x_run [] [] [] [] [(4, oB true 1 encI ([0, 10, 11, 12, 13, 14, 2, 300] : List Int))] [(4, oB true 1 encI ([0, 10, 11, 12, 13, 14, 2, 300] : List Int))] [(4, oB true 1 encI ([0, 10, 11, 12, 13, 14, 2, 300] : List Int)), (0, .obj [pS 1 false encI L, pN (tStep L (tStep L a 12) 70)]), (3, .obj [pI e1, pI 0, pI 0, pI 0, pI 0, pNil, pNil, p16 0, p16 0]), (2, oB true 1 encI fnsL), (1, .obj [pI 0, pI 0, pI 0, pI 0, pI 0, pNil, pNil, p16 0, p16 0])] rfl rfl rfl rfl rfl rfl (s_mkM (f := encI) ([0, 10, 11, 12, 13, 14, 2, 300] : List Int) tab_23 rfl tab_3 ⟨rfl, by decide⟩ (by decide) rfl rfl rfl rfl ⟨rfl, rfl, rfl⟩) rfl trivial rfl rfl ?_
        refine d_op ?_
        refine x_run0 [(0, PV.ptr 0 0)] [] rfl rfl rfl rfl (s_move rfl ⟨rfl, rfl, rfl⟩) ?_
        refine d_op ?_
        refine x_run [(49, PV.ptr 0 0)] [1] [] [(0, .obj [pS 1 false encI L, pN (tStep L (tStep L a 12) 70)])] [(0, .obj [pS 1 false encI L, pN (tStep L (tStep L (tStep L a 12) 70) 8)])] [(0, .obj [pS 1 false encI L, pN (tStep L (tStep L (tStep L a 12) 70) 8)])] [(0, .obj [pS 1 false encI L, pN (tStep L (tStep L (tStep L a 12) 70) 8)]), (4, oB true 1 encI ([0, 10, 11, 12, 13, 14, 2, 300] : List Int)), (3, .obj [pI e1, pI 0, pI 0, pI 0, pI 0, pNil, pNil, p16 0, p16 0]), (2, oB true 1 encI fnsL), (1, .obj [pI 0, pI 0, pI 0, pI 0, pI 0, pNil, pNil, p16 0, p16 0])] rfl rfl rfl rfl rfl rfl (s_callX (r2 := pI (tNext L (tStep L (tStep L a 12) 70) 8)) (nx1 := 5) (H2 := [(0, .obj [pS 1 false encI L, pN (tStep L (tStep L a 12) 70)])]) (H3 := [(0, .obj [pS 1 false encI L, pN (tStep L (tStep L (tStep L a 12) 70) 8)])]) [0] [.obj [pS 1 false encI L, pN (tStep L (tStep L a 12) 70)]] rfl rfl rfl (handed_of (by decide) ⟨rfl, trivial⟩) rfl rfl rfl rfl rfl rfl (w_burgagekeep_Tape_Next L false (tStep L (tStep L a 12) 70) 8 (by first | omega | assumption | (simp; omega) | decide | (simp; done)) (by first | omega | assumption | (simp; omega) | decide | (simp; done))) rfl (dist_of rfl) rfl rfl rfl rfl ⟨rfl, rfl, rfl⟩) rfl trivial rfl rfl ?_
        refine d_op ?_
        refine x_run [(48, PV.ref 4 0 none), (50, pI (tNext L (tStep L (tStep L a 12) 70) 8))] [0, 1, 2] [(4, oB true 1 encI ([0, 10, 11, 12, 13, 14, 2, 300] : List Int))] [] [(4, oB true 1 encI ([0, 10, 11, 12, 13, 14, 2, 300] : List Int))] [] [(0, .obj [pS 1 false encI L, pN (tStep L (tStep L (tStep L a 12) 70) 8)]), (4, oB true 1 encI ([0, 10, 11, 12, 13, 14, 2, 300] : List Int)), (3, .obj [pI e1, pI 0, pI 0, pI 0, pI 0, pNil, pNil, p16 0, p16 0]), (2, oB true 1 encI fnsL), (1, .obj [pI 0, pI 0, pI 0, pI 0, pI 0, pNil, pNil, p16 0, p16 0])] rfl rfl rfl rfl rfl rfl (s_iaR0 (q := Int.toNat (tNext L (tStep L (tStep L a 12) 70) 8)) (f := encI) (l := ([0, 10, 11, 12, 13, 14, 2, 300] : List Int)) tab_23 rfl tab_3 rfl rfl (by omega) rfl rfl (by simp; omega) ⟨rfl, rfl, rfl⟩) rfl ⟨rfl, trivial⟩ rfl rfl ?_
        refine d_op ?_
        obtain ⟨e2, he2⟩ := get_of_lt ([0, 10, 11, 12, 13, 14, 2, 300] : List Int) (i := Int.toNat (tNext L (tStep L (tStep L a 12) 70) 8)) (by simp; omega)
        refine x_run [(51, PV.ep 4 (Int.toNat (tNext L (tStep L (tStep L a 12) 70) 8)) 0)] [0, 1, 2, 3] [(4, oB true 1 encI ([0, 10, 11, 12, 13, 14, 2, 300] : List Int))] [] [(4, oB true 1 encI ([0, 10, 11, 12, 13, 14, 2, 300] : List Int))] [] [(0, .obj [pS 1 false encI L, pN (tStep L (tStep L (tStep L a 12) 70) 8)]), (4, oB true 1 encI ([0, 10, 11, 12, 13, 14, 2, 300] : List Int)), (3, .obj [pI e1, pI 0, pI 0, pI 0, pI 0, pNil, pNil, p16 0, p16 0]), (2, oB true 1 encI fnsL), (1, .obj [pI 0, pI 0, pI 0, pI 0, pI 0, pNil, pNil, p16 0, p16 0])] rfl rfl rfl rfl rfl rfl (s_ldM (b := e2) (f := encI) tab_3 rfl rfl rfl rfl he2 rfl ⟨rfl, rfl, rfl⟩) rfl ⟨rfl, trivial⟩ rfl rfl ?_
        have hm2 := List.mem_of_getElem? he2
        simp only [List.mem_cons, List.not_mem_nil, or_false] at hm2
        refine d_op ?_
        refine x_run [] [] [] [] [(5, oB true 1 enc16 ([0, 0, 0, 777] : List UInt16))] [(5, oB true 1 enc16 ([0, 0, 0, 777] : List UInt16))] [(5, oB true 1 enc16 ([0, 0, 0, 777] : List UInt16)), (0, .obj [pS 1 false encI L, pN (tStep L (tStep L (tStep L a 12) 70) 8)]), (4, oB true 1 encI ([0, 10, 11, 12, 13, 14, 2, 300] : List Int)), (3, .obj [pI e1, pI 0, pI 0, pI 0, pI 0, pNil, pNil, p16 0, p16 0]), (2, oB true 1 encI fnsL), (1, .obj [pI 0, pI 0, pI 0, pI 0, pI 0, pNil, pNil, p16 0, p16 0])] rfl rfl rfl rfl rfl rfl (s_mkM (f := enc16) ([0, 0, 0, 777] : List UInt16) tab_29 rfl tab_30 ⟨rfl, by decide⟩ (by decide) rfl rfl rfl rfl ⟨rfl, rfl, rfl⟩) rfl trivial rfl rfl ?_
        refine d_op ?_
        refine x_run0 [(0, PV.ptr 0 0)] [] rfl rfl rfl rfl (s_move rfl ⟨rfl, rfl, rfl⟩) ?_
        refine d_op ?_
        refine x_run [(54, PV.ptr 0 0)] [1, 2, 6] [] [(0, .obj [pS 1 false encI L, pN (tStep L (tStep L (tStep L a 12) 70) 8)])] [(0, .obj [pS 1 false encI L, pN (tStep L (tStep L (tStep L (tStep L a 12) 70) 8) 4)])] [(0, .obj [pS 1 false encI L, pN (tStep L (tStep L (tStep L (tStep L a 12) 70) 8) 4)])] [(0, .obj [pS 1 false encI L, pN (tStep L (tStep L (tStep L (tStep L a 12) 70) 8) 4)]), (5, oB true 1 enc16 ([0, 0, 0, 777] : List UInt16)), (4, oB true 1 encI ([0, 10, 11, 12, 13, 14, 2, 300] : List Int)), (3, .obj [pI e1, pI 0, pI 0, pI 0, pI 0, pNil, pNil, p16 0, p16 0]), (2, oB true 1 encI fnsL), (1, .obj [pI 0, pI 0, pI 0, pI 0, pI 0, pNil, pNil, p16 0, p16 0])] rfl rfl rfl rfl rfl rfl (s_callX (r2 := pI (tNext L (tStep L (tStep L (tStep L a 12) 70) 8) 4)) (nx1 := 6) (H2 := [(0, .obj [pS 1 false encI L, pN (tStep L (tStep L (tStep L a 12) 70) 8)])]) (H3 := [(0, .obj [pS 1 false encI L, pN (tStep L (tStep L (tStep L (tStep L a 12) 70) 8) 4)])]) [0] [.obj [pS 1 false encI L, pN (tStep L (tStep L (tStep L a 12) 70) 8)]] rfl rfl rfl (handed_of (by decide) ⟨rfl, trivial⟩) rfl rfl rfl rfl rfl rfl (w_burgagekeep_Tape_Next L false (tStep L (tStep L (tStep L a 12) 70) 8) 4 (by first | omega | assumption | (simp; omega) | decide | (simp; done)) (by first | omega | assumption | (simp; omega) | decide | (simp; done))) rfl (dist_of rfl) rfl rfl rfl rfl ⟨rfl, rfl, rfl⟩) rfl trivial rfl rfl ?_
        refine d_op ?_
        refine x_run [(53, PV.ref 5 0 none), (55, pI (tNext L (tStep L (tStep L (tStep L a 12) 70) 8) 4))] [1, 2, 5, 6, 7] [(5, oB true 1 enc16 ([0, 0, 0, 777] : List UInt16))] [] [(5, oB true 1 enc16 ([0, 0, 0, 777] : List UInt16))] [] [(0, .obj [pS 1 false encI L, pN (tStep L (tStep L (tStep L (tStep L a 12) 70) 8) 4)]), (5, oB true 1 enc16 ([0, 0, 0, 777] : List UInt16)), (4, oB true 1 encI ([0, 10, 11, 12, 13, 14, 2, 300] : List Int)), (3, .obj [pI e1, pI 0, pI 0, pI 0, pI 0, pNil, pNil, p16 0, p16 0]), (2, oB true 1 encI fnsL), (1, .obj [pI 0, pI 0, pI 0, pI 0, pI 0, pNil, pNil, p16 0, p16 0])] rfl rfl rfl rfl rfl rfl (s_iaR0 (q := Int.toNat (tNext L (tStep L (tStep L (tStep L a 12) 70) 8) 4)) (f := enc16) (l := ([0, 0, 0, 777] : List UInt16)) tab_29 rfl tab_30 rfl rfl (by omega) rfl rfl (by simp; omega) ⟨rfl, rfl, rfl⟩) rfl ⟨rfl, trivial⟩ rfl rfl ?_
        refine d_op ?_
        obtain ⟨e3, he3⟩ := get_of_lt ([0, 0, 0, 777] : List UInt16) (i := Int.toNat (tNext L (tStep L (tStep L (tStep L a 12) 70) 8) 4)) (by simp; omega)
        refine x_run [(56, PV.ep 5 (Int.toNat (tNext L (tStep L (tStep L (tStep L a 12) 70) 8) 4)) 0)] [1, 2, 5, 6, 7, 8] [(5, oB true 1 enc16 ([0, 0, 0, 777] : List UInt16))] [] [(5, oB true 1 enc16 ([0, 0, 0, 777] : List UInt16))] [] [(0, .obj [pS 1 false encI L, pN (tStep L (tStep L (tStep L (tStep L a 12) 70) 8) 4)]), (5, oB true 1 enc16 ([0, 0, 0, 777] : List UInt16)), (4, oB true 1 encI ([0, 10, 11, 12, 13, 14, 2, 300] : List Int)), (3, .obj [pI e1, pI 0, pI 0, pI 0, pI 0, pNil, pNil, p16 0, p16 0]), (2, oB true 1 encI fnsL), (1, .obj [pI 0, pI 0, pI 0, pI 0, pI 0, pNil, pNil, p16 0, p16 0])] rfl rfl rfl rfl rfl rfl (s_ldM (b := e3) (f := enc16) tab_30 rfl rfl rfl rfl he3 rfl ⟨rfl, rfl, rfl⟩) rfl ⟨rfl, trivial⟩ rfl rfl ?_
        refine d_op ?_
        refine x_run [(57, p16 e3)] [1, 2, 5, 6, 7, 8, 9] [] [] [(6, oB true 1 enc16 [e3])] [(6, oB true 1 enc16 [e3])] [(6, oB true 1 enc16 [e3]), (0, .obj [pS 1 false encI L, pN (tStep L (tStep L (tStep L (tStep L a 12) 70) 8) 4)]), (5, oB true 1 enc16 ([0, 0, 0, 777] : List UInt16)), (4, oB true 1 encI ([0, 10, 11, 12, 13, 14, 2, 300] : List Int)), (3, .obj [pI e1, pI 0, pI 0, pI 0, pI 0, pNil, pNil, p16 0, p16 0]), (2, oB true 1 encI fnsL), (1, .obj [pI 0, pI 0, pI 0, pI 0, pI 0, pNil, pNil, p16 0, p16 0])] rfl rfl rfl rfl rfl rfl (s_mkM (f := enc16) [e3] tab_29 rfl tab_30 ⟨rfl, by decide⟩ (by decide) rfl rfl rfl rfl ⟨rfl, rfl, rfl⟩) rfl trivial rfl rfl ?_
        refine d_op ?_
        refine x_run0 [(3, PV.ptr 3 0)] [0, 1, 2, 3, 4] rfl rfl rfl rfl (s_fa_ptr tab_32 rfl rfl tab_3 (by decide) rfl ⟨rfl, rfl, rfl⟩) ?_
        refine d_op ?_
        refine x_run [(59, PV.ptr 3 4), (52, pI e2)] [0, 1, 2, 3, 4, 6, 7, 11] [] [(3, .obj [pI e1, pI 0, pI 0, pI 0, pI 0, pNil, pNil, p16 0, p16 0])] [(3, .obj [pI e1, pI 0, pI 0, pI 0, pI e2, pNil, pNil, p16 0, p16 0])] [(3, .obj [pI e1, pI 0, pI 0, pI 0, pI e2, pNil, pNil, p16 0, p16 0])] [(3, .obj [pI e1, pI 0, pI 0, pI 0, pI e2, pNil, pNil, p16 0, p16 0]), (6, oB true 1 enc16 [e3]), (0, .obj [pS 1 false encI L, pN (tStep L (tStep L (tStep L (tStep L a 12) 70) 8) 4)]), (5, oB true 1 enc16 ([0, 0, 0, 777] : List UInt16)), (4, oB true 1 encI ([0, 10, 11, 12, 13, 14, 2, 300] : List Int)), (2, oB true 1 encI fnsL), (1, .obj [pI 0, pI 0, pI 0, pI 0, pI 0, pNil, pNil, p16 0, p16 0])] rfl rfl rfl rfl rfl rfl (s_store_ptr tab_3 rfl rfl rfl rfl rfl (Nat.le_of_ble_eq_true rfl) ⟨rfl, rfl, rfl⟩) rfl trivial rfl rfl ?_
        refine d_op ?_
        refine x_run0 [(3, PV.ptr 3 0)] [0, 1, 2, 3, 4, 5, 6, 7, 8, 9, 10, 11, 12] rfl rfl rfl rfl (s_fa_ptr tab_32 rfl rfl tab_29 (by decide) rfl ⟨rfl, rfl, rfl⟩) ?_
        refine d_op ?_
        refine x_run [(60, PV.ptr 3 6), (58, PV.ref 6 0 none)] [0, 1, 2, 3, 4, 5, 6, 7, 8, 9, 10, 11, 12, 13] [] [(3, .obj [pI e1, pI 0, pI 0, pI 0, pI e2, pNil, pNil, p16 0, p16 0])] [(3, .obj [pI e1, pI 0, pI 0, pI 0, pI e2, pNil, PV.ref 6 0 none, p16 0, p16 0])] [(3, .obj [pI e1, pI 0, pI 0, pI 0, pI e2, pNil, PV.ref 6 0 none, p16 0, p16 0])] [(3, .obj [pI e1, pI 0, pI 0, pI 0, pI e2, pNil, PV.ref 6 0 none, p16 0, p16 0]), (6, oB true 1 enc16 [e3]), (0, .obj [pS 1 false encI L, pN (tStep L (tStep L (tStep L (tStep L a 12) 70) 8) 4)]), (5, oB true 1 enc16 ([0, 0, 0, 777] : List UInt16)), (4, oB true 1 encI ([0, 10, 11, 12, 13, 14, 2, 300] : List Int)), (2, oB true 1 encI fnsL), (1, .obj [pI 0, pI 0, pI 0, pI 0, pI 0, pNil, pNil, p16 0, p16 0])] rfl rfl rfl rfl rfl rfl (s_store_ptr tab_29 rfl rfl rfl rfl rfl (Nat.le_of_ble_eq_true rfl) ⟨rfl, rfl, rfl⟩) rfl trivial rfl rfl ?_
        refine d_end ⟨by kernel_rfl, ?_⟩
        refine q_block ?_
        refine q_then ?_
        refine w_seq ?_
        refine w_R ?_
        refine qo hnt rfl (s_load_ptr tab_32 rfl rfl rfl (Nat.le_of_ble_eq_true rfl) ?_)
        refine qo hnt rfl (s_store_ptr tab_32 rfl rfl rfl rfl rfl (Nat.le_of_ble_eq_true rfl) ?_)
        refine r_set [(2, PV.ptr 1 0)] [(1, .obj [pI e1, pI 0, pI 0, pI 0, pI e2, pNil, PV.ref 6 0 none, p16 0, p16 0]), (3, .obj [pI e1, pI 0, pI 0, pI 0, pI e2, pNil, PV.ref 6 0 none, p16 0, p16 0]), (6, oB true 1 enc16 [e3]), (0, .obj [pS 1 false encI L, pN (tStep L (tStep L (tStep L (tStep L a 12) 70) 8) 4)]), (5, oB true 1 enc16 ([0, 0, 0, 777] : List UInt16)), (4, oB true 1 encI ([0, 10, 11, 12, 13, 14, 2, 300] : List Int)), (2, oB true 1 encI fnsL)] 7 ⟨rfl, trivial⟩ rfl rfl ?_
        refine r_end ?_
        refine q_then ?_
        refine w_frzC (n := 1) (j := 6) rfl rfl rfl rfl ?_
        refine w_leO (n := 1) (ds := [pI e1, pI 0, pI 0, pI 0, pI e2, pS 1 false encBo [], pS 1 false enc16 [e3], p16 0, p16 0]) rfl ⟨le_refl _, le_refl _, le_refl _, le_refl _, le_refl _, le_nilS 1 false, le_refl _, le_refl _, le_refl _, trivial⟩ ?_
        refine w_ret ?_
        have hex : rightR (⟨e1, 0, 0, 0, e2, [], [e3], 0, 0⟩ : TRequest) = 0 ∧ (⟨e1, 0, 0, 0, e2, [], [e3], 0, 0⟩ : TRequest).bits.length ≤ 25 ∧ (⟨e1, 0, 0, 0, e2, [], [e3], 0, 0⟩ : TRequest).vals.length ≤ 25 ∧ 0 ≤ (⟨e1, 0, 0, 0, e2, [], [e3], 0, 0⟩ : TRequest).count ∧ (⟨e1, 0, 0, 0, e2, [], [e3], 0, 0⟩ : TRequest).count ≤ 25 := by
          refine ⟨(shapeR_iff (q := _) hfn).2 ?_, by simp; try omega, by simp; try omega, by simp; try omega, by simp; try omega⟩
          constructor
          case bits => simp only; first | rfl | (rw [if_neg (by omega), if_neg (by omega)]; rfl) | (rw [if_pos (by omega)]; rfl) | (rw [if_neg (by omega), if_pos (by omega)]; exact ⟨by omega, by omega⟩)
          case vals => simp only; first | rfl | (rw [if_neg (by omega), if_neg (by omega), if_neg (by omega)]; rfl) | (rw [if_pos (by omega)]; rfl) | (rw [if_neg (by omega), if_pos (by omega)]; exact ⟨by omega, by omega⟩) | (rw [if_neg (by omega), if_neg (by omega), if_pos (by omega)]; omega)
          all_goals first | (intro _; rfl) | (intro _; exact ⟨rfl, rfl⟩) | (simp only; omega) | (intro h; simp at h) | (intro h; exact absurd rfl h) | (simp; omega)
        exact fin_names (nx1 := 1) (H1 := [(0, .obj [pS 1 false encI L, pN (tStep L (tStep L (tStep L (tStep L a 12) 70) 8) 4)])]) [(0, 0)] (ret_cell tab_32 (by decide) rfl rfl (Nat.le_of_ble_eq_true rfl) rfl ret_nil) rfl (by decide) ⟨⟨_, _, rfl, rfl, rfl, rfl⟩, trivial⟩ (by decide) rfl ⟨((⟨e1, 0, 0, 0, e2, [], [e3], 0, 0⟩ : TRequest)), (tStep L (tStep L (tStep L (tStep L a 12) 70) 8) 4), hex, rfl, rfl, rfl⟩
       ·
        have c7_ := c7
        try simp only [sB] at c7
        refine w_seq ?_
        refine w_R ?_
        refine qo hnt rfl (s_eql rfl rfl ?_)
        refine qa hnt rfl rfl ?_
        refine r_end ?_
        refine q_then ?_
        refine w_if rfl (fun c8 => ?_) (fun c8 => ?_)
        ·
         have c8_ := c8
         try simp only [sB] at c8
         refine w_seq ?_
         have h26 := tNext_lt L (tStep L (tStep L a 12) 70) (n := 26) (by decide)
         refine w_R ?_
         refine qm hnt rfl rfl ?_
         refine qm hnt rfl rfl ?_
         refine qo hnt rfl (s_callX (r2 := pI (tNext L (tStep L (tStep L a 12) 70) 26)) (nx1 := 4) (H2 := [(0, .obj [pS 1 false encI L, pN (tStep L (tStep L a 12) 70)]), (3, .obj [pI e1, pI 0, pI 0, pI 0, pI 0, pNil, pNil, p16 0, p16 0]), (2, oB true 1 encI fnsL), (1, .obj [pI 0, pI 0, pI 0, pI 0, pI 0, pNil, pNil, p16 0, p16 0])]) (H3 := [(0, .obj [pS 1 false encI L, pN (tStep L (tStep L (tStep L a 12) 70) 26)]), (3, .obj [pI e1, pI 0, pI 0, pI 0, pI 0, pNil, pNil, p16 0, p16 0]), (2, oB true 1 encI fnsL), (1, .obj [pI 0, pI 0, pI 0, pI 0, pI 0, pNil, pNil, p16 0, p16 0])]) [0] [.obj [pS 1 false encI L, pN (tStep L (tStep L a 12) 70)]] rfl rfl rfl (handed_of (by decide) ⟨rfl, trivial⟩) rfl rfl rfl rfl rfl rfl (w_burgagekeep_Tape_Next L false (tStep L (tStep L a 12) 70) 26 (by first | omega | assumption | (simp; omega) | decide | (simp; done)) (by first | omega | assumption | (simp; omega) | decide | (simp; done))) rfl (dist_of rfl) rfl rfl rfl rfl ?_)
         refine qo hnt rfl (s_fa_ptr tab_32 rfl rfl tab_3 (by decide) rfl ?_)
         refine qo hnt rfl (s_store_ptr tab_3 rfl rfl rfl rfl rfl (Nat.le_of_ble_eq_true rfl) ?_)
         refine qo hnt rfl (s_fa_ptr tab_32 rfl rfl tab_3 (by decide) rfl ?_)
         refine qo hnt rfl (s_store_ptr tab_3 rfl rfl rfl rfl rfl (Nat.le_of_ble_eq_true rfl) ?_)
         refine r_set [(0, PV.ptr 0 0), (2, PV.ptr 1 0), (3, PV.ptr 3 0)] [(3, .obj [pI e1, pI (tNext L (tStep L a 12) 70), pI (tNext L (tStep L (tStep L a 12) 70) 26), pI 0, pI 0, pNil, pNil, p16 0, p16 0]), (0, .obj [pS 1 false encI L, pN (tStep L (tStep L (tStep L a 12) 70) 26)]), (2, oB true 1 encI fnsL), (1, .obj [pI 0, pI 0, pI 0, pI 0, pI 0, pNil, pNil, p16 0, p16 0])] 4 ⟨rfl, rfl, rfl, trivial⟩ rfl rfl ?_
         refine r_end ?_
         refine q_then ?_
         refine w_seq ?_
         refine w_R ?_
         refine qa hnt rfl rfl ?_
         refine r_end ?_
         refine q_then ?_
         refine w_block ?_
         refine w_adoptC (n := 3) (j := 5) (sz := 1) rfl rfl rfl ?_
         refine loop3 (fun (ap : Nat) (os : List Bool) (i : Nat) => (i : Int) ≤ tNext L (tStep L (tStep L a 12) 70) 26 ∧ os.length = i) (fun (ap : Nat) (os : List Bool) (i : Nat) => [(0, PV.ptr 0 0), (2, PV.ptr 3 0), (3, PV.ptr 1 0), (5, pN i)]) 4 (fun (ap : Nat) (os : List Bool) (i : Nat) => [(0, .obj [pS 1 false encI L, pN ap]), (1, .obj [pI e1, pI (tNext L (tStep L a 12) 70), pI (tNext L (tStep L (tStep L a 12) 70) 26), pI 0, pI 0, PV.ref 2 0 none, pNil, p16 0, p16 0]), (2, oB true 1 encBo os), (3, .obj [pI 0, pI 0, pI 0, pI 0, pI 0, pNil, pNil, p16 0, p16 0])]) (fun (ap : Nat) (os : List Bool) (i : Nat) => (tNext L (tStep L (tStep L a 12) 70) 26).toNat - i) (tStep L (tStep L (tStep L a 12) 70) 26) (([] : List Bool)) (0) ?_ ⟨[(0, 0), (1, 3), (2, 4), (3, 1)], by rw [hk]; decide, ⟨⟨_, rfl, rfl, rfl⟩, ⟨_, rfl, rfl, rfl⟩, ⟨_, rfl, rfl, rfl⟩, ⟨_, rfl, rfl, rfl⟩, trivial⟩, ⟨⟨_, _, rfl, rfl, rfl, rfl⟩, ⟨_, _, rfl, rfl, rfl, rfl⟩, ⟨_, _, rfl, rfl, rfl, rfl⟩, ⟨_, _, rfl, rfl, rfl, rfl⟩, trivial⟩, by rw [hk]; decide⟩ ?_
         · exact ⟨by omega, rfl⟩
         ·
          intro ap os i hI
          obtain ⟨hi, hol⟩ := hI
          refine w_seq ?_
          refine w_seq ?_
          refine w_R ?_
          refine qm hnt rfl rfl ?_
          refine qo hnt rfl (s_fa_ptr tab_32 rfl rfl tab_3 (by decide) rfl ?_)
          refine qo hnt rfl (s_load_ptr1 tab_3 rfl rfl rfl rfl rfl ?_)
          refine qo hnt rfl (s_lss rfl rfl ?_)
          refine r_end ?_
          refine q_then ?_
          refine w_if rfl (fun c9 => ?_) (fun c9 => ?_)
          ·
           have c9_ := c9
           try simp only [sB] at c9
           refine w_skip ?_
           refine q_then ?_
           refine w_seq ?_
           refine w_block ?_
           refine W_drawn tabOk mixed hnt [[], [0], [], [2], [2, 3], [2, 3, 4], [0, 1, 2, 3, 4, 5], [0, 1, 2, 3, 4, 5, 6], [0, 1, 2, 3, 4, 5, 6, 7]] (by kernel_rfl) ?_
           refine d_op ?_
           refine x_run0 [(3, PV.ptr 1 0)] [] rfl rfl rfl rfl (s_fa_ptr tab_32 rfl rfl tab_28 (by decide) rfl ⟨rfl, rfl, rfl⟩) ?_
           refine d_op ?_
           refine x_run [(74, PV.ptr 1 5)] [0] [(1, .obj [pI e1, pI (tNext L (tStep L a 12) 70), pI (tNext L (tStep L (tStep L a 12) 70) 26), pI 0, pI 0, PV.ref 2 0 none, pNil, p16 0, p16 0])] [] [(1, .obj [pI e1, pI (tNext L (tStep L a 12) 70), pI (tNext L (tStep L (tStep L a 12) 70) 26), pI 0, pI 0, PV.ref 2 0 none, pNil, p16 0, p16 0])] [] [(0, .obj [pS 1 false encI L, pN ap]), (1, .obj [pI e1, pI (tNext L (tStep L a 12) 70), pI (tNext L (tStep L (tStep L a 12) 70) 26), pI 0, pI 0, PV.ref 2 0 none, pNil, p16 0, p16 0]), (2, oB true 1 encBo os), (3, .obj [pI 0, pI 0, pI 0, pI 0, pI 0, pNil, pNil, p16 0, p16 0])] rfl rfl rfl rfl rfl rfl (s_load_ptr1 tab_28 rfl rfl rfl rfl rfl ⟨rfl, rfl, rfl⟩) rfl ⟨rfl, trivial⟩ rfl rfl ?_
           refine d_op ?_
           refine x_run0 [(0, PV.ptr 0 0)] [] rfl rfl rfl rfl (s_move rfl ⟨rfl, rfl, rfl⟩) ?_
           refine d_op ?_
           refine x_run [(76, PV.ptr 0 0)] [2] [] [(0, .obj [pS 1 false encI L, pN ap])] [(0, .obj [pS 1 false encI L, pN (tStep L ap 2)])] [(0, .obj [pS 1 false encI L, pN (tStep L ap 2)])] [(0, .obj [pS 1 false encI L, pN (tStep L ap 2)]), (1, .obj [pI e1, pI (tNext L (tStep L a 12) 70), pI (tNext L (tStep L (tStep L a 12) 70) 26), pI 0, pI 0, PV.ref 2 0 none, pNil, p16 0, p16 0]), (2, oB true 1 encBo os), (3, .obj [pI 0, pI 0, pI 0, pI 0, pI 0, pNil, pNil, p16 0, p16 0])] rfl rfl rfl rfl rfl rfl (s_callX (r2 := pI (tNext L ap 2)) (nx1 := 4) (H2 := [(0, .obj [pS 1 false encI L, pN ap])]) (H3 := [(0, .obj [pS 1 false encI L, pN (tStep L ap 2)])]) [0] [.obj [pS 1 false encI L, pN ap]] rfl rfl rfl (handed_of (by decide) ⟨rfl, trivial⟩) rfl rfl rfl rfl rfl rfl (w_burgagekeep_Tape_Next L false ap 2 (by first | omega | assumption | (simp; omega) | decide | (simp; done)) (by first | omega | assumption | (simp; omega) | decide | (simp; done))) rfl (dist_of rfl) rfl rfl rfl rfl ⟨rfl, rfl, rfl⟩) rfl trivial rfl rfl ?_
           refine d_op ?_
           refine x_run0 [(77, pI (tNext L ap 2))] [2, 3] rfl rfl rfl rfl (s_eql rfl rfl ⟨rfl, rfl, rfl⟩) ?_
           refine d_op ?_
           refine x_run [(78, pB (decide (tNext L ap 2 = 1)))] [2, 3, 4] [] [] [(4, oB true 1 encBo [decide (tNext L ap 2 = 1)])] [(4, oB true 1 encBo [decide (tNext L ap 2 = 1)])] [(4, oB true 1 encBo [decide (tNext L ap 2 = 1)]), (0, .obj [pS 1 false encI L, pN (tStep L ap 2)]), (1, .obj [pI e1, pI (tNext L (tStep L a 12) 70), pI (tNext L (tStep L (tStep L a 12) 70) 26), pI 0, pI 0, PV.ref 2 0 none, pNil, p16 0, p16 0]), (2, oB true 1 encBo os), (3, .obj [pI 0, pI 0, pI 0, pI 0, pI 0, pNil, pNil, p16 0, p16 0])] rfl rfl rfl rfl rfl rfl (s_mkM (f := encBo) [decide (tNext L ap 2 = 1)] tab_28 rfl tab_4 ⟨rfl, by decide⟩ (by decide) rfl rfl rfl rfl ⟨rfl, rfl, rfl⟩) rfl trivial rfl rfl ?_
           refine d_op ?_
           refine x_run [(75, PV.ref 2 0 none), (79, PV.ref 4 0 none)] [0, 1, 2, 3, 4, 5] [(4, oB true 1 encBo [decide (tNext L ap 2 = 1)])] [(2, oB true 1 encBo os)] [(5, oB true 1 encBo (os ++ [decide (tNext L ap 2 = 1)])), (4, oB true 1 encBo [decide (tNext L ap 2 = 1)])] [(5, oB true 1 encBo (os ++ [decide (tNext L ap 2 = 1)]))] [(5, oB true 1 encBo (os ++ [decide (tNext L ap 2 = 1)])), (4, oB true 1 encBo [decide (tNext L ap 2 = 1)]), (0, .obj [pS 1 false encI L, pN (tStep L ap 2)]), (1, .obj [pI e1, pI (tNext L (tStep L a 12) 70), pI (tNext L (tStep L (tStep L a 12) 70) 26), pI 0, pI 0, PV.ref 2 0 none, pNil, p16 0, p16 0]), (3, .obj [pI 0, pI 0, pI 0, pI 0, pI 0, pNil, pNil, p16 0, p16 0])] rfl rfl rfl rfl rfl rfl (s_appR0 (f := encBo) (l := os) (xs := [decide (tNext L ap 2 = 1)]) tab_28 rfl tab_4 ⟨rfl, by decide, by decide⟩ (srcM tab_28 rfl (hM_ref0 (f := encBo) rfl rfl)) rfl rfl (by first | omega | (simp; omega)) ⟨rfl, rfl, rfl⟩) rfl ⟨rfl, trivial⟩ rfl rfl ?_
           refine d_op ?_
           refine x_run0 [(3, PV.ptr 1 0)] [0, 1, 2, 3, 4, 5, 6] rfl rfl rfl rfl (s_fa_ptr tab_32 rfl rfl tab_28 (by decide) rfl ⟨rfl, rfl, rfl⟩) ?_
           refine d_op ?_
           refine x_run [(81, PV.ptr 1 5), (80, PV.ref 5 0 none)] [0, 1, 2, 3, 4, 5, 6, 7] [] [(1, .obj [pI e1, pI (tNext L (tStep L a 12) 70), pI (tNext L (tStep L (tStep L a 12) 70) 26), pI 0, pI 0, PV.ref 2 0 none, pNil, p16 0, p16 0])] [(1, .obj [pI e1, pI (tNext L (tStep L a 12) 70), pI (tNext L (tStep L (tStep L a 12) 70) 26), pI 0, pI 0, PV.ref 5 0 none, pNil, p16 0, p16 0])] [(1, .obj [pI e1, pI (tNext L (tStep L a 12) 70), pI (tNext L (tStep L (tStep L a 12) 70) 26), pI 0, pI 0, PV.ref 5 0 none, pNil, p16 0, p16 0])] [(1, .obj [pI e1, pI (tNext L (tStep L a 12) 70), pI (tNext L (tStep L (tStep L a 12) 70) 26), pI 0, pI 0, PV.ref 5 0 none, pNil, p16 0, p16 0]), (5, oB true 1 encBo (os ++ [decide (tNext L ap 2 = 1)])), (4, oB true 1 encBo [decide (tNext L ap 2 = 1)]), (0, .obj [pS 1 false encI L, pN (tStep L ap 2)]), (3, .obj [pI 0, pI 0, pI 0, pI 0, pI 0, pNil, pNil, p16 0, p16 0])] rfl rfl rfl rfl rfl rfl (s_store_ptr tab_28 rfl rfl rfl rfl rfl (Nat.le_of_ble_eq_true rfl) ⟨rfl, rfl, rfl⟩) rfl trivial rfl rfl ?_
           refine d_end ⟨by kernel_rfl, ?_⟩
           refine q_block ?_
           refine q_then ?_
           refine w_R ?_
           refine qm hnt rfl rfl ?_
           refine qo hnt rfl (s_addN (a := i) (b := 1) rfl rfl (by omega) (by omega) (by omega) ?_)
           refine qa hnt rfl rfl ?_
           refine r_end ?_
           refine q_then ?_
           refine ⟨(tStep L ap 2), (os ++ [decide (tNext L ap 2 = 1)]), (i + 1), ?_, ?_, ⟨[(0, 0), (1, 1), (2, 5), (3, 3)], by rw [hk]; decide, ⟨⟨_, rfl, rfl, rfl⟩, ⟨_, rfl, rfl, rfl⟩, ⟨_, rfl, rfl, rfl⟩, ⟨_, rfl, rfl, rfl⟩, trivial⟩, ⟨⟨_, _, rfl, rfl, rfl, rfl⟩, ⟨_, _, rfl, rfl, rfl, rfl⟩, ⟨_, _, rfl, rfl, rfl, rfl⟩, ⟨_, _, rfl, rfl, rfl, rfl⟩, trivial⟩, by rw [hk]; decide⟩⟩
           ·
            exact ⟨by omega, by simp [hol]⟩
           · omega
          ·
           have c9_ := c9
           try simp only [sB] at c9
           refine w_exit ?_
           refine q_then_exit ?_
           refine q_then_exit ?_
           refine q_block_exit ?_
           refine q_block ?_
           refine q_then ?_
           refine w_seq ?_
           refine w_R ?_
           refine qo hnt rfl (s_load_ptr tab_32 rfl rfl rfl (Nat.le_of_ble_eq_true rfl) ?_)
           refine qo hnt rfl (s_store_ptr tab_32 rfl rfl rfl rfl rfl (Nat.le_of_ble_eq_true rfl) ?_)
           refine r_set [(2, PV.ptr 3 0)] [(3, .obj [pI e1, pI (tNext L (tStep L a 12) 70), pI (tNext L (tStep L (tStep L a 12) 70) 26), pI 0, pI 0, PV.ref 2 0 none, pNil, p16 0, p16 0]), (0, .obj [pS 1 false encI L, pN ap]), (1, .obj [pI e1, pI (tNext L (tStep L a 12) 70), pI (tNext L (tStep L (tStep L a 12) 70) 26), pI 0, pI 0, PV.ref 2 0 none, pNil, p16 0, p16 0]), (2, oB true 1 encBo os)] 4 ⟨rfl, trivial⟩ rfl rfl ?_
           refine r_end ?_
           refine q_then ?_
           refine w_frzC (n := 3) (j := 5) rfl rfl rfl rfl ?_
           refine w_leO (n := 3) (ds := [pI e1, pI (tNext L (tStep L a 12) 70), pI (tNext L (tStep L (tStep L a 12) 70) 26), pI 0, pI 0, pS 1 false encBo os, pS 1 false enc16 [], p16 0, p16 0]) rfl ⟨le_refl _, le_refl _, le_refl _, le_refl _, le_refl _, le_refl _, le_nilS 1 false, le_refl _, le_refl _, trivial⟩ ?_
           refine w_ret ?_
           have hex : rightR (⟨e1, tNext L (tStep L a 12) 70, tNext L (tStep L (tStep L a 12) 70) 26, 0, 0, os, [], 0, 0⟩ : TRequest) = 0 ∧ (⟨e1, tNext L (tStep L a 12) 70, tNext L (tStep L (tStep L a 12) 70) 26, 0, 0, os, [], 0, 0⟩ : TRequest).bits.length ≤ 25 ∧ (⟨e1, tNext L (tStep L a 12) 70, tNext L (tStep L (tStep L a 12) 70) 26, 0, 0, os, [], 0, 0⟩ : TRequest).vals.length ≤ 25 ∧ 0 ≤ (⟨e1, tNext L (tStep L a 12) 70, tNext L (tStep L (tStep L a 12) 70) 26, 0, 0, os, [], 0, 0⟩ : TRequest).count ∧ (⟨e1, tNext L (tStep L a 12) 70, tNext L (tStep L (tStep L a 12) 70) 26, 0, 0, os, [], 0, 0⟩ : TRequest).count ≤ 25 := by
             refine ⟨(shapeR_iff (q := _) hfn).2 ?_, by simp; try omega, by simp; try omega, by simp; try omega, by simp; try omega⟩
             constructor
             case bits => simp only; first | rfl | (rw [if_neg (by omega), if_neg (by omega)]; rfl) | (rw [if_pos (by omega)]; rfl) | (rw [if_neg (by omega), if_pos (by omega)]; exact ⟨by omega, by omega⟩)
             case vals => simp only; first | rfl | (rw [if_neg (by omega), if_neg (by omega), if_neg (by omega)]; rfl) | (rw [if_pos (by omega)]; rfl) | (rw [if_neg (by omega), if_pos (by omega)]; exact ⟨by omega, by omega⟩) | (rw [if_neg (by omega), if_neg (by omega), if_pos (by omega)]; omega)
             all_goals first | (intro _; rfl) | (intro _; exact ⟨rfl, rfl⟩) | (simp only; omega) | (intro h; simp at h) | (intro h; exact absurd rfl h) | (simp; omega)
           exact fin_names (nx1 := 1) (H1 := [(0, .obj [pS 1 false encI L, pN ap])]) [(0, 0)] (ret_cell tab_32 (by decide) rfl rfl (Nat.le_of_ble_eq_true rfl) rfl ret_nil) rfl (by decide) ⟨⟨_, _, rfl, rfl, rfl, rfl⟩, trivial⟩ (by decide) rfl ⟨((⟨e1, tNext L (tStep L a 12) 70, tNext L (tStep L (tStep L a 12) 70) 26, 0, 0, os, [], 0, 0⟩ : TRequest)), (ap), hex, rfl, rfl, rfl⟩
        ·
         have c8_ := c8
         try simp only [sB] at c8
         refine w_seq ?_
         refine w_R ?_
         refine qo hnt rfl (s_eql rfl rfl ?_)
         refine qa hnt rfl rfl ?_
         refine r_end ?_
         refine q_then ?_
         refine w_if rfl (fun c10 => ?_) (fun c10 => ?_)
         ·
          have c10_ := c10
          try simp only [sB] at c10
          refine w_seq ?_
          have h26 := tNext_lt L (tStep L (tStep L a 12) 70) (n := 26) (by decide)
          refine w_R ?_
          refine qm hnt rfl rfl ?_
          refine qm hnt rfl rfl ?_
          refine qo hnt rfl (s_callX (r2 := pI (tNext L (tStep L (tStep L a 12) 70) 26)) (nx1 := 4) (H2 := [(0, .obj [pS 1 false encI L, pN (tStep L (tStep L a 12) 70)]), (3, .obj [pI e1, pI 0, pI 0, pI 0, pI 0, pNil, pNil, p16 0, p16 0]), (2, oB true 1 encI fnsL), (1, .obj [pI 0, pI 0, pI 0, pI 0, pI 0, pNil, pNil, p16 0, p16 0])]) (H3 := [(0, .obj [pS 1 false encI L, pN (tStep L (tStep L (tStep L a 12) 70) 26)]), (3, .obj [pI e1, pI 0, pI 0, pI 0, pI 0, pNil, pNil, p16 0, p16 0]), (2, oB true 1 encI fnsL), (1, .obj [pI 0, pI 0, pI 0, pI 0, pI 0, pNil, pNil, p16 0, p16 0])]) [0] [.obj [pS 1 false encI L, pN (tStep L (tStep L a 12) 70)]] rfl rfl rfl (handed_of (by decide) ⟨rfl, trivial⟩) rfl rfl rfl rfl rfl rfl (w_burgagekeep_Tape_Next L false (tStep L (tStep L a 12) 70) 26 (by first | omega | assumption | (simp; omega) | decide | (simp; done)) (by first | omega | assumption | (simp; omega) | decide | (simp; done))) rfl (dist_of rfl) rfl rfl rfl rfl ?_)
          refine qo hnt rfl (s_fa_ptr tab_32 rfl rfl tab_3 (by decide) rfl ?_)
          refine qo hnt rfl (s_store_ptr tab_3 rfl rfl rfl rfl rfl (Nat.le_of_ble_eq_true rfl) ?_)
          refine qo hnt rfl (s_fa_ptr tab_32 rfl rfl tab_3 (by decide) rfl ?_)
          refine qo hnt rfl (s_store_ptr tab_3 rfl rfl rfl rfl rfl (Nat.le_of_ble_eq_true rfl) ?_)
          refine r_set [(0, PV.ptr 0 0), (2, PV.ptr 1 0), (3, PV.ptr 3 0)] [(3, .obj [pI e1, pI (tNext L (tStep L a 12) 70), pI (tNext L (tStep L (tStep L a 12) 70) 26), pI 0, pI 0, pNil, pNil, p16 0, p16 0]), (0, .obj [pS 1 false encI L, pN (tStep L (tStep L (tStep L a 12) 70) 26)]), (2, oB true 1 encI fnsL), (1, .obj [pI 0, pI 0, pI 0, pI 0, pI 0, pNil, pNil, p16 0, p16 0])] 4 ⟨rfl, rfl, rfl, trivial⟩ rfl rfl ?_
          refine r_end ?_
          refine q_then ?_
          refine w_seq ?_
          refine w_R ?_
          refine qa hnt rfl rfl ?_
          refine r_end ?_
          refine q_then ?_
          refine w_block ?_
          refine w_adoptC (n := 3) (j := 6) (sz := 1) rfl rfl rfl ?_
          refine loop3 (fun (ap : Nat) (os : List UInt16) (i : Nat) => (i : Int) ≤ tNext L (tStep L (tStep L a 12) 70) 26 ∧ os.length = i) (fun (ap : Nat) (os : List UInt16) (i : Nat) => [(0, PV.ptr 0 0), (2, PV.ptr 3 0), (3, PV.ptr 1 0), (6, pN i)]) 4 (fun (ap : Nat) (os : List UInt16) (i : Nat) => [(0, .obj [pS 1 false encI L, pN ap]), (1, .obj [pI e1, pI (tNext L (tStep L a 12) 70), pI (tNext L (tStep L (tStep L a 12) 70) 26), pI 0, pI 0, pNil, PV.ref 2 0 none, p16 0, p16 0]), (2, oB true 1 enc16 os), (3, .obj [pI 0, pI 0, pI 0, pI 0, pI 0, pNil, pNil, p16 0, p16 0])]) (fun (ap : Nat) (os : List UInt16) (i : Nat) => (tNext L (tStep L (tStep L a 12) 70) 26).toNat - i) (tStep L (tStep L (tStep L a 12) 70) 26) (([] : List UInt16)) (0) ?_ ⟨[(0, 0), (1, 3), (2, 4), (3, 1)], by rw [hk]; decide, ⟨⟨_, rfl, rfl, rfl⟩, ⟨_, rfl, rfl, rfl⟩, ⟨_, rfl, rfl, rfl⟩, ⟨_, rfl, rfl, rfl⟩, trivial⟩, ⟨⟨_, _, rfl, rfl, rfl, rfl⟩, ⟨_, _, rfl, rfl, rfl, rfl⟩, ⟨_, _, rfl, rfl, rfl, rfl⟩, ⟨_, _, rfl, rfl, rfl, rfl⟩, trivial⟩, by rw [hk]; decide⟩ ?_
          · exact ⟨by omega, rfl⟩
          ·
           intro ap os i hI
           obtain ⟨hi, hol⟩ := hI
           refine w_seq ?_
           refine w_seq ?_
           refine w_R ?_
           refine qm hnt rfl rfl ?_
           refine qo hnt rfl (s_fa_ptr tab_32 rfl rfl tab_3 (by decide) rfl ?_)
           refine qo hnt rfl (s_load_ptr1 tab_3 rfl rfl rfl rfl rfl ?_)
           refine qo hnt rfl (s_lss rfl rfl ?_)
           refine r_end ?_
           refine q_then ?_
           refine w_if rfl (fun c11 => ?_) (fun c11 => ?_)
           ·
            have c11_ := c11
            try simp only [sB] at c11
            refine w_skip ?_
            refine q_then ?_
            refine w_seq ?_
            refine w_block ?_
            refine W_drawn tabOk mixed hnt [[], [0], [], [2], [2, 3], [2, 3, 4], [0, 1, 2, 3, 4, 5], [0, 1, 2, 3, 4, 5, 6], [0, 1, 2, 3, 4, 5, 6, 7]] (by kernel_rfl) ?_
            refine d_op ?_
            refine x_run0 [(3, PV.ptr 1 0)] [] rfl rfl rfl rfl (s_fa_ptr tab_32 rfl rfl tab_29 (by decide) rfl ⟨rfl, rfl, rfl⟩) ?_
            refine d_op ?_
            refine x_run [(95, PV.ptr 1 6)] [0] [(1, .obj [pI e1, pI (tNext L (tStep L a 12) 70), pI (tNext L (tStep L (tStep L a 12) 70) 26), pI 0, pI 0, pNil, PV.ref 2 0 none, p16 0, p16 0])] [] [(1, .obj [pI e1, pI (tNext L (tStep L a 12) 70), pI (tNext L (tStep L (tStep L a 12) 70) 26), pI 0, pI 0, pNil, PV.ref 2 0 none, p16 0, p16 0])] [] [(0, .obj [pS 1 false encI L, pN ap]), (1, .obj [pI e1, pI (tNext L (tStep L a 12) 70), pI (tNext L (tStep L (tStep L a 12) 70) 26), pI 0, pI 0, pNil, PV.ref 2 0 none, p16 0, p16 0]), (2, oB true 1 enc16 os), (3, .obj [pI 0, pI 0, pI 0, pI 0, pI 0, pNil, pNil, p16 0, p16 0])] rfl rfl rfl rfl rfl rfl (s_load_ptr1 tab_29 rfl rfl rfl rfl rfl ⟨rfl, rfl, rfl⟩) rfl ⟨rfl, trivial⟩ rfl rfl ?_
            refine d_op ?_
            refine x_run0 [(0, PV.ptr 0 0)] [] rfl rfl rfl rfl (s_move rfl ⟨rfl, rfl, rfl⟩) ?_
            refine d_op ?_
            refine x_run [(97, PV.ptr 0 0)] [2] [] [(0, .obj [pS 1 false encI L, pN ap])] [(0, .obj [pS 1 false encI L, pN (tStep L ap 65536)])] [(0, .obj [pS 1 false encI L, pN (tStep L ap 65536)])] [(0, .obj [pS 1 false encI L, pN (tStep L ap 65536)]), (1, .obj [pI e1, pI (tNext L (tStep L a 12) 70), pI (tNext L (tStep L (tStep L a 12) 70) 26), pI 0, pI 0, pNil, PV.ref 2 0 none, p16 0, p16 0]), (2, oB true 1 enc16 os), (3, .obj [pI 0, pI 0, pI 0, pI 0, pI 0, pNil, pNil, p16 0, p16 0])] rfl rfl rfl rfl rfl rfl (s_callX (r2 := pI (tNext L ap 65536)) (nx1 := 4) (H2 := [(0, .obj [pS 1 false encI L, pN ap])]) (H3 := [(0, .obj [pS 1 false encI L, pN (tStep L ap 65536)])]) [0] [.obj [pS 1 false encI L, pN ap]] rfl rfl rfl (handed_of (by decide) ⟨rfl, trivial⟩) rfl rfl rfl rfl rfl rfl (w_burgagekeep_Tape_Next L false ap 65536 (by first | omega | assumption | (simp; omega) | decide | (simp; done)) (by first | omega | assumption | (simp; omega) | decide | (simp; done))) rfl (dist_of rfl) rfl rfl rfl rfl ⟨rfl, rfl, rfl⟩) rfl trivial rfl rfl ?_
            refine d_op ?_
            refine x_run0 [(98, pI (tNext L ap 65536))] [2, 3] rfl rfl rfl rfl (s_cv16 tab_3 tab_30 rfl rfl rfl ⟨rfl, rfl, rfl⟩) ?_
            refine d_op ?_
            refine x_run [(99, p16 (u16I (tNext L ap 65536)))] [2, 3, 4] [] [] [(4, oB true 1 enc16 [u16I (tNext L ap 65536)])] [(4, oB true 1 enc16 [u16I (tNext L ap 65536)])] [(4, oB true 1 enc16 [u16I (tNext L ap 65536)]), (0, .obj [pS 1 false encI L, pN (tStep L ap 65536)]), (1, .obj [pI e1, pI (tNext L (tStep L a 12) 70), pI (tNext L (tStep L (tStep L a 12) 70) 26), pI 0, pI 0, pNil, PV.ref 2 0 none, p16 0, p16 0]), (2, oB true 1 enc16 os), (3, .obj [pI 0, pI 0, pI 0, pI 0, pI 0, pNil, pNil, p16 0, p16 0])] rfl rfl rfl rfl rfl rfl (s_mkM (f := enc16) [u16I (tNext L ap 65536)] tab_29 rfl tab_30 ⟨rfl, by decide⟩ (by decide) rfl rfl rfl rfl ⟨rfl, rfl, rfl⟩) rfl trivial rfl rfl ?_
            refine d_op ?_
            refine x_run [(96, PV.ref 2 0 none), (100, PV.ref 4 0 none)] [0, 1, 2, 3, 4, 5] [(4, oB true 1 enc16 [u16I (tNext L ap 65536)])] [(2, oB true 1 enc16 os)] [(5, oB true 1 enc16 (os ++ [u16I (tNext L ap 65536)])), (4, oB true 1 enc16 [u16I (tNext L ap 65536)])] [(5, oB true 1 enc16 (os ++ [u16I (tNext L ap 65536)]))] [(5, oB true 1 enc16 (os ++ [u16I (tNext L ap 65536)])), (4, oB true 1 enc16 [u16I (tNext L ap 65536)]), (0, .obj [pS 1 false encI L, pN (tStep L ap 65536)]), (1, .obj [pI e1, pI (tNext L (tStep L a 12) 70), pI (tNext L (tStep L (tStep L a 12) 70) 26), pI 0, pI 0, pNil, PV.ref 2 0 none, p16 0, p16 0]), (3, .obj [pI 0, pI 0, pI 0, pI 0, pI 0, pNil, pNil, p16 0, p16 0])] rfl rfl rfl rfl rfl rfl (s_appR0 (f := enc16) (l := os) (xs := [u16I (tNext L ap 65536)]) tab_29 rfl tab_30 ⟨rfl, by decide, by decide⟩ (srcM tab_29 rfl (hM_ref0 (f := enc16) rfl rfl)) rfl rfl (by first | omega | (simp; omega)) ⟨rfl, rfl, rfl⟩) rfl ⟨rfl, trivial⟩ rfl rfl ?_
            refine d_op ?_
            refine x_run0 [(3, PV.ptr 1 0)] [0, 1, 2, 3, 4, 5, 6] rfl rfl rfl rfl (s_fa_ptr tab_32 rfl rfl tab_29 (by decide) rfl ⟨rfl, rfl, rfl⟩) ?_
            refine d_op ?_
            refine x_run [(102, PV.ptr 1 6), (101, PV.ref 5 0 none)] [0, 1, 2, 3, 4, 5, 6, 7] [] [(1, .obj [pI e1, pI (tNext L (tStep L a 12) 70), pI (tNext L (tStep L (tStep L a 12) 70) 26), pI 0, pI 0, pNil, PV.ref 2 0 none, p16 0, p16 0])] [(1, .obj [pI e1, pI (tNext L (tStep L a 12) 70), pI (tNext L (tStep L (tStep L a 12) 70) 26), pI 0, pI 0, pNil, PV.ref 5 0 none, p16 0, p16 0])] [(1, .obj [pI e1, pI (tNext L (tStep L a 12) 70), pI (tNext L (tStep L (tStep L a 12) 70) 26), pI 0, pI 0, pNil, PV.ref 5 0 none, p16 0, p16 0])] [(1, .obj [pI e1, pI (tNext L (tStep L a 12) 70), pI (tNext L (tStep L (tStep L a 12) 70) 26), pI 0, pI 0, pNil, PV.ref 5 0 none, p16 0, p16 0]), (5, oB true 1 enc16 (os ++ [u16I (tNext L ap 65536)])), (4, oB true 1 enc16 [u16I (tNext L ap 65536)]), (0, .obj [pS 1 false encI L, pN (tStep L ap 65536)]), (3, .obj [pI 0, pI 0, pI 0, pI 0, pI 0, pNil, pNil, p16 0, p16 0])] rfl rfl rfl rfl rfl rfl (s_store_ptr tab_29 rfl rfl rfl rfl rfl (Nat.le_of_ble_eq_true rfl) ⟨rfl, rfl, rfl⟩) rfl trivial rfl rfl ?_
            refine d_end ⟨by kernel_rfl, ?_⟩
            refine q_block ?_
            refine q_then ?_
            refine w_R ?_
            refine qm hnt rfl rfl ?_
            refine qo hnt rfl (s_addN (a := i) (b := 1) rfl rfl (by omega) (by omega) (by omega) ?_)
            refine qa hnt rfl rfl ?_
            refine r_end ?_
            refine q_then ?_
            refine ⟨(tStep L ap 65536), (os ++ [u16I (tNext L ap 65536)]), (i + 1), ?_, ?_, ⟨[(0, 0), (1, 1), (2, 5), (3, 3)], by rw [hk]; decide, ⟨⟨_, rfl, rfl, rfl⟩, ⟨_, rfl, rfl, rfl⟩, ⟨_, rfl, rfl, rfl⟩, ⟨_, rfl, rfl, rfl⟩, trivial⟩, ⟨⟨_, _, rfl, rfl, rfl, rfl⟩, ⟨_, _, rfl, rfl, rfl, rfl⟩, ⟨_, _, rfl, rfl, rfl, rfl⟩, ⟨_, _, rfl, rfl, rfl, rfl⟩, trivial⟩, by rw [hk]; decide⟩⟩
            ·
             exact ⟨by omega, by simp [hol]⟩
            · omega
           ·
            have c11_ := c11
            try simp only [sB] at c11
            refine w_exit ?_
            refine q_then_exit ?_
            refine q_then_exit ?_
            refine q_block_exit ?_
            refine q_block ?_
            refine q_then ?_
            refine w_seq ?_
            refine w_R ?_
            refine qo hnt rfl (s_load_ptr tab_32 rfl rfl rfl (Nat.le_of_ble_eq_true rfl) ?_)
            refine qo hnt rfl (s_store_ptr tab_32 rfl rfl rfl rfl rfl (Nat.le_of_ble_eq_true rfl) ?_)
            refine r_set [(2, PV.ptr 3 0)] [(3, .obj [pI e1, pI (tNext L (tStep L a 12) 70), pI (tNext L (tStep L (tStep L a 12) 70) 26), pI 0, pI 0, pNil, PV.ref 2 0 none, p16 0, p16 0]), (0, .obj [pS 1 false encI L, pN ap]), (1, .obj [pI e1, pI (tNext L (tStep L a 12) 70), pI (tNext L (tStep L (tStep L a 12) 70) 26), pI 0, pI 0, pNil, PV.ref 2 0 none, p16 0, p16 0]), (2, oB true 1 enc16 os)] 4 ⟨rfl, trivial⟩ rfl rfl ?_
            refine r_end ?_
            refine q_then ?_
            refine w_frzC (n := 3) (j := 6) rfl rfl rfl rfl ?_
            refine w_leO (n := 3) (ds := [pI e1, pI (tNext L (tStep L a 12) 70), pI (tNext L (tStep L (tStep L a 12) 70) 26), pI 0, pI 0, pS 1 false encBo [], pS 1 false enc16 os, p16 0, p16 0]) rfl ⟨le_refl _, le_refl _, le_refl _, le_refl _, le_refl _, le_nilS 1 false, le_refl _, le_refl _, le_refl _, trivial⟩ ?_
            refine w_ret ?_
            have hex : rightR (⟨e1, tNext L (tStep L a 12) 70, tNext L (tStep L (tStep L a 12) 70) 26, 0, 0, [], os, 0, 0⟩ : TRequest) = 0 ∧ (⟨e1, tNext L (tStep L a 12) 70, tNext L (tStep L (tStep L a 12) 70) 26, 0, 0, [], os, 0, 0⟩ : TRequest).bits.length ≤ 25 ∧ (⟨e1, tNext L (tStep L a 12) 70, tNext L (tStep L (tStep L a 12) 70) 26, 0, 0, [], os, 0, 0⟩ : TRequest).vals.length ≤ 25 ∧ 0 ≤ (⟨e1, tNext L (tStep L a 12) 70, tNext L (tStep L (tStep L a 12) 70) 26, 0, 0, [], os, 0, 0⟩ : TRequest).count ∧ (⟨e1, tNext L (tStep L a 12) 70, tNext L (tStep L (tStep L a 12) 70) 26, 0, 0, [], os, 0, 0⟩ : TRequest).count ≤ 25 := by
              refine ⟨(shapeR_iff (q := _) hfn).2 ?_, by simp; try omega, by simp; try omega, by simp; try omega, by simp; try omega⟩
              constructor
              case bits => simp only; first | rfl | (rw [if_neg (by omega), if_neg (by omega)]; rfl) | (rw [if_pos (by omega)]; rfl) | (rw [if_neg (by omega), if_pos (by omega)]; exact ⟨by omega, by omega⟩)
              case vals => simp only; first | rfl | (rw [if_neg (by omega), if_neg (by omega), if_neg (by omega)]; rfl) | (rw [if_pos (by omega)]; rfl) | (rw [if_neg (by omega), if_pos (by omega)]; exact ⟨by omega, by omega⟩) | (rw [if_neg (by omega), if_neg (by omega), if_pos (by omega)]; omega)
              all_goals first | (intro _; rfl) | (intro _; exact ⟨rfl, rfl⟩) | (simp only; omega) | (intro h; simp at h) | (intro h; exact absurd rfl h) | (simp; omega)
            exact fin_names (nx1 := 1) (H1 := [(0, .obj [pS 1 false encI L, pN ap])]) [(0, 0)] (ret_cell tab_32 (by decide) rfl rfl (Nat.le_of_ble_eq_true rfl) rfl ret_nil) rfl (by decide) ⟨⟨_, _, rfl, rfl, rfl, rfl⟩, trivial⟩ (by decide) rfl ⟨((⟨e1, tNext L (tStep L a 12) 70, tNext L (tStep L (tStep L a 12) 70) 26, 0, 0, [], os, 0, 0⟩ : TRequest)), (ap), hex, rfl, rfl, rfl⟩
         ·
          have c10_ := c10
          try simp only [sB] at c10
          refine w_seq ?_
          refine w_R ?_
          refine qo hnt rfl (s_eql rfl rfl ?_)
          refine qa hnt rfl rfl ?_
          refine r_end ?_
          refine q_then ?_
          refine w_if rfl (fun c12 => ?_) (fun c12 => ?_)
          ·
           have c12_ := c12
           try simp only [sB] at c12
           refine w_R ?_
           refine qm hnt rfl rfl ?_
           refine qm hnt rfl rfl ?_
           refine qo hnt rfl (s_callX (r2 := pI (tNext L (tStep L (tStep L a 12) 70) 65536)) (nx1 := 4) (H2 := [(0, .obj [pS 1 false encI L, pN (tStep L (tStep L a 12) 70)]), (3, .obj [pI e1, pI 0, pI 0, pI 0, pI 0, pNil, pNil, p16 0, p16 0]), (2, oB true 1 encI fnsL), (1, .obj [pI 0, pI 0, pI 0, pI 0, pI 0, pNil, pNil, p16 0, p16 0])]) (H3 := [(0, .obj [pS 1 false encI L, pN (tStep L (tStep L (tStep L a 12) 70) 65536)]), (3, .obj [pI e1, pI 0, pI 0, pI 0, pI 0, pNil, pNil, p16 0, p16 0]), (2, oB true 1 encI fnsL), (1, .obj [pI 0, pI 0, pI 0, pI 0, pI 0, pNil, pNil, p16 0, p16 0])]) [0] [.obj [pS 1 false encI L, pN (tStep L (tStep L a 12) 70)]] rfl rfl rfl (handed_of (by decide) ⟨rfl, trivial⟩) rfl rfl rfl rfl rfl rfl (w_burgagekeep_Tape_Next L false (tStep L (tStep L a 12) 70) 65536 (by first | omega | assumption | (simp; omega) | decide | (simp; done)) (by first | omega | assumption | (simp; omega) | decide | (simp; done))) rfl (dist_of rfl) rfl rfl rfl rfl ?_)
           refine qo hnt rfl (s_cv16 tab_3 tab_30 rfl rfl rfl ?_)
           refine qm hnt rfl rfl ?_
           refine qo hnt rfl (s_callX (r2 := pI (tNext L (tStep L (tStep L (tStep L a 12) 70) 65536) 65536)) (nx1 := 4) (H2 := [(0, .obj [pS 1 false encI L, pN (tStep L (tStep L (tStep L a 12) 70) 65536)]), (3, .obj [pI e1, pI 0, pI 0, pI 0, pI 0, pNil, pNil, p16 0, p16 0]), (2, oB true 1 encI fnsL), (1, .obj [pI 0, pI 0, pI 0, pI 0, pI 0, pNil, pNil, p16 0, p16 0])]) (H3 := [(0, .obj [pS 1 false encI L, pN (tStep L (tStep L (tStep L (tStep L a 12) 70) 65536) 65536)]), (3, .obj [pI e1, pI 0, pI 0, pI 0, pI 0, pNil, pNil, p16 0, p16 0]), (2, oB true 1 encI fnsL), (1, .obj [pI 0, pI 0, pI 0, pI 0, pI 0, pNil, pNil, p16 0, p16 0])]) [0] [.obj [pS 1 false encI L, pN (tStep L (tStep L (tStep L a 12) 70) 65536)]] rfl rfl rfl (handed_of (by decide) ⟨rfl, trivial⟩) rfl rfl rfl rfl rfl rfl (w_burgagekeep_Tape_Next L false (tStep L (tStep L (tStep L a 12) 70) 65536) 65536 (by first | omega | assumption | (simp; omega) | decide | (simp; done)) (by first | omega | assumption | (simp; omega) | decide | (simp; done))) rfl (dist_of rfl) rfl rfl rfl rfl ?_)
           refine qo hnt rfl (s_cv16 tab_3 tab_30 rfl rfl rfl ?_)
           refine qo hnt rfl (s_fa_ptr tab_32 rfl rfl tab_3 (by decide) rfl ?_)
           refine qo hnt rfl (s_store_ptr tab_3 rfl rfl rfl rfl rfl (Nat.le_of_ble_eq_true rfl) ?_)
           refine qo hnt rfl (s_fa_ptr tab_32 rfl rfl tab_30 (by decide) rfl ?_)
           refine qo hnt rfl (s_store_ptr tab_30 rfl rfl rfl rfl rfl (Nat.le_of_ble_eq_true rfl) ?_)
           refine qo hnt rfl (s_fa_ptr tab_32 rfl rfl tab_30 (by decide) rfl ?_)
           refine qo hnt rfl (s_store_ptr tab_30 rfl rfl rfl rfl rfl (Nat.le_of_ble_eq_true rfl) ?_)
           refine r_set [(2, PV.ptr 1 0), (3, PV.ptr 3 0)] [(3, .obj [pI e1, pI (tNext L (tStep L a 12) 70), pI 0, pI 0, pI 0, pNil, pNil, p16 (u16I (tNext L (tStep L (tStep L a 12) 70) 65536)), p16 (u16I (tNext L (tStep L (tStep L (tStep L a 12) 70) 65536) 65536))]), (0, .obj [pS 1 false encI L, pN (tStep L (tStep L (tStep L (tStep L a 12) 70) 65536) 65536)]), (2, oB true 1 encI fnsL), (1, .obj [pI 0, pI 0, pI 0, pI 0, pI 0, pNil, pNil, p16 0, p16 0])] 4 ⟨rfl, rfl, trivial⟩ rfl rfl ?_
           refine r_end ?_
           refine q_block ?_
           refine q_then ?_
           refine w_seq ?_
           refine w_R ?_
           refine qo hnt rfl (s_load_ptr tab_32 rfl rfl rfl (Nat.le_of_ble_eq_true rfl) ?_)
           refine qo hnt rfl (s_store_ptr tab_32 rfl rfl rfl rfl rfl (Nat.le_of_ble_eq_true rfl) ?_)
           refine r_set [(2, PV.ptr 1 0)] [(1, .obj [pI e1, pI (tNext L (tStep L a 12) 70), pI 0, pI 0, pI 0, pNil, pNil, p16 (u16I (tNext L (tStep L (tStep L a 12) 70) 65536)), p16 (u16I (tNext L (tStep L (tStep L (tStep L a 12) 70) 65536) 65536))]), (3, .obj [pI e1, pI (tNext L (tStep L a 12) 70), pI 0, pI 0, pI 0, pNil, pNil, p16 (u16I (tNext L (tStep L (tStep L a 12) 70) 65536)), p16 (u16I (tNext L (tStep L (tStep L (tStep L a 12) 70) 65536) 65536))]), (0, .obj [pS 1 false encI L, pN (tStep L (tStep L (tStep L (tStep L a 12) 70) 65536) 65536)]), (2, oB true 1 encI fnsL)] 4 ⟨rfl, trivial⟩ rfl rfl ?_
           refine r_end ?_
           refine q_then ?_
           refine w_leO (n := 1) (ds := [pI e1, pI (tNext L (tStep L a 12) 70), pI 0, pI 0, pI 0, pS 1 false encBo [], pS 1 false enc16 [], p16 (u16I (tNext L (tStep L (tStep L a 12) 70) 65536)), p16 (u16I (tNext L (tStep L (tStep L (tStep L a 12) 70) 65536) 65536))]) rfl ⟨le_refl _, le_refl _, le_refl _, le_refl _, le_refl _, le_nilS 1 false, le_nilS 1 false, le_refl _, le_refl _, trivial⟩ ?_
           refine w_ret ?_
           have hex : rightR (⟨e1, tNext L (tStep L a 12) 70, 0, 0, 0, [], [], u16I (tNext L (tStep L (tStep L a 12) 70) 65536), u16I (tNext L (tStep L (tStep L (tStep L a 12) 70) 65536) 65536)⟩ : TRequest) = 0 ∧ (⟨e1, tNext L (tStep L a 12) 70, 0, 0, 0, [], [], u16I (tNext L (tStep L (tStep L a 12) 70) 65536), u16I (tNext L (tStep L (tStep L (tStep L a 12) 70) 65536) 65536)⟩ : TRequest).bits.length ≤ 25 ∧ (⟨e1, tNext L (tStep L a 12) 70, 0, 0, 0, [], [], u16I (tNext L (tStep L (tStep L a 12) 70) 65536), u16I (tNext L (tStep L (tStep L (tStep L a 12) 70) 65536) 65536)⟩ : TRequest).vals.length ≤ 25 ∧ 0 ≤ (⟨e1, tNext L (tStep L a 12) 70, 0, 0, 0, [], [], u16I (tNext L (tStep L (tStep L a 12) 70) 65536), u16I (tNext L (tStep L (tStep L (tStep L a 12) 70) 65536) 65536)⟩ : TRequest).count ∧ (⟨e1, tNext L (tStep L a 12) 70, 0, 0, 0, [], [], u16I (tNext L (tStep L (tStep L a 12) 70) 65536), u16I (tNext L (tStep L (tStep L (tStep L a 12) 70) 65536) 65536)⟩ : TRequest).count ≤ 25 := by
             refine ⟨(shapeR_iff (q := _) hfn).2 ?_, by simp; try omega, by simp; try omega, by simp; try omega, by simp; try omega⟩
             constructor
             case bits => simp only; first | rfl | (rw [if_neg (by omega), if_neg (by omega)]; rfl) | (rw [if_pos (by omega)]; rfl) | (rw [if_neg (by omega), if_pos (by omega)]; exact ⟨by omega, by omega⟩)
             case vals => simp only; first | rfl | (rw [if_neg (by omega), if_neg (by omega), if_neg (by omega)]; rfl) | (rw [if_pos (by omega)]; rfl) | (rw [if_neg (by omega), if_pos (by omega)]; exact ⟨by omega, by omega⟩) | (rw [if_neg (by omega), if_neg (by omega), if_pos (by omega)]; omega)
             all_goals first | (intro _; rfl) | (intro _; exact ⟨rfl, rfl⟩) | (simp only; omega) | (intro h; simp at h) | (intro h; exact absurd rfl h) | (simp; omega)
           exact fin_names (nx1 := 1) (H1 := [(0, .obj [pS 1 false encI L, pN (tStep L (tStep L (tStep L (tStep L a 12) 70) 65536) 65536)])]) [(0, 0)] (ret_cell tab_32 (by decide) rfl rfl (Nat.le_of_ble_eq_true rfl) rfl ret_nil) rfl (by decide) ⟨⟨_, _, rfl, rfl, rfl, rfl⟩, trivial⟩ (by decide) rfl ⟨((⟨e1, tNext L (tStep L a 12) 70, 0, 0, 0, [], [], u16I (tNext L (tStep L (tStep L a 12) 70) 65536), u16I (tNext L (tStep L (tStep L (tStep L a 12) 70) 65536) 65536)⟩ : TRequest)), (tStep L (tStep L (tStep L (tStep L a 12) 70) 65536) 65536), hex, rfl, rfl, rfl⟩
          ·
           have c12_ := c12
           try simp only [sB] at c12
           refine w_seq ?_
           refine w_R ?_
           refine qo hnt rfl (s_eql rfl rfl ?_)
           refine qa hnt rfl rfl ?_
           refine r_end ?_
           refine q_then ?_
           refine w_if rfl (fun c13 => ?_) (fun c13 => ?_)
           ·
            have c13_ := c13
            try simp only [sB] at c13
            refine w_seq ?_
            have h20 := tNext_lt L (tStep L (tStep L a 12) 70) (n := 20) (by decide)
            have h40 := tNext_lt L (tStep L (tStep L (tStep L a 12) 70) 20) (n := 40) (by decide)
            refine w_R ?_
            refine qm hnt rfl rfl ?_
            refine qm hnt rfl rfl ?_
            refine qo hnt rfl (s_callX (r2 := pI (tNext L (tStep L (tStep L a 12) 70) 20)) (nx1 := 4) (H2 := [(0, .obj [pS 1 false encI L, pN (tStep L (tStep L a 12) 70)]), (3, .obj [pI e1, pI 0, pI 0, pI 0, pI 0, pNil, pNil, p16 0, p16 0]), (2, oB true 1 encI fnsL), (1, .obj [pI 0, pI 0, pI 0, pI 0, pI 0, pNil, pNil, p16 0, p16 0])]) (H3 := [(0, .obj [pS 1 false encI L, pN (tStep L (tStep L (tStep L a 12) 70) 20)]), (3, .obj [pI e1, pI 0, pI 0, pI 0, pI 0, pNil, pNil, p16 0, p16 0]), (2, oB true 1 encI fnsL), (1, .obj [pI 0, pI 0, pI 0, pI 0, pI 0, pNil, pNil, p16 0, p16 0])]) [0] [.obj [pS 1 false encI L, pN (tStep L (tStep L a 12) 70)]] rfl rfl rfl (handed_of (by decide) ⟨rfl, trivial⟩) rfl rfl rfl rfl rfl rfl (w_burgagekeep_Tape_Next L false (tStep L (tStep L a 12) 70) 20 (by first | omega | assumption | (simp; omega) | decide | (simp; done)) (by first | omega | assumption | (simp; omega) | decide | (simp; done))) rfl (dist_of rfl) rfl rfl rfl rfl ?_)
            refine qm hnt rfl rfl ?_
            refine qo hnt rfl (s_callX (r2 := pI (tNext L (tStep L (tStep L (tStep L a 12) 70) 20) 40)) (nx1 := 4) (H2 := [(0, .obj [pS 1 false encI L, pN (tStep L (tStep L (tStep L a 12) 70) 20)]), (3, .obj [pI e1, pI 0, pI 0, pI 0, pI 0, pNil, pNil, p16 0, p16 0]), (2, oB true 1 encI fnsL), (1, .obj [pI 0, pI 0, pI 0, pI 0, pI 0, pNil, pNil, p16 0, p16 0])]) (H3 := [(0, .obj [pS 1 false encI L, pN (tStep L (tStep L (tStep L (tStep L a 12) 70) 20) 40)]), (3, .obj [pI e1, pI 0, pI 0, pI 0, pI 0, pNil, pNil, p16 0, p16 0]), (2, oB true 1 encI fnsL), (1, .obj [pI 0, pI 0, pI 0, pI 0, pI 0, pNil, pNil, p16 0, p16 0])]) [0] [.obj [pS 1 false encI L, pN (tStep L (tStep L (tStep L a 12) 70) 20)]] rfl rfl rfl (handed_of (by decide) ⟨rfl, trivial⟩) rfl rfl rfl rfl rfl rfl (w_burgagekeep_Tape_Next L false (tStep L (tStep L (tStep L a 12) 70) 20) 40 (by first | omega | assumption | (simp; omega) | decide | (simp; done)) (by first | omega | assumption | (simp; omega) | decide | (simp; done))) rfl (dist_of rfl) rfl rfl rfl rfl ?_)
            refine qo hnt rfl (s_fa_ptr tab_32 rfl rfl tab_3 (by decide) rfl ?_)
            refine qo hnt rfl (s_store_ptr tab_3 rfl rfl rfl rfl rfl (Nat.le_of_ble_eq_true rfl) ?_)
            refine qo hnt rfl (s_fa_ptr tab_32 rfl rfl tab_3 (by decide) rfl ?_)
            refine qo hnt rfl (s_store_ptr tab_3 rfl rfl rfl rfl rfl (Nat.le_of_ble_eq_true rfl) ?_)
            refine qo hnt rfl (s_fa_ptr tab_32 rfl rfl tab_3 (by decide) rfl ?_)
            refine qo hnt rfl (s_store_ptr tab_3 rfl rfl rfl rfl rfl (Nat.le_of_ble_eq_true rfl) ?_)
            refine r_set [(0, PV.ptr 0 0), (2, PV.ptr 1 0), (3, PV.ptr 3 0)] [(3, .obj [pI e1, pI (tNext L (tStep L a 12) 70), pI (tNext L (tStep L (tStep L a 12) 70) 20), pI (tNext L (tStep L (tStep L (tStep L a 12) 70) 20) 40), pI 0, pNil, pNil, p16 0, p16 0]), (0, .obj [pS 1 false encI L, pN (tStep L (tStep L (tStep L (tStep L a 12) 70) 20) 40)]), (2, oB true 1 encI fnsL), (1, .obj [pI 0, pI 0, pI 0, pI 0, pI 0, pNil, pNil, p16 0, p16 0])] 4 ⟨rfl, rfl, rfl, trivial⟩ rfl rfl ?_
            refine r_end ?_
            refine q_then ?_
            refine w_seq ?_
            have h22 := tNext_lt L (tStep L (tStep L (tStep L (tStep L a 12) 70) 20) 40) (n := 20) (by decide)
            refine w_R ?_
            refine qm hnt rfl rfl ?_
            refine qo hnt rfl (s_callX (r2 := pI (tNext L (tStep L (tStep L (tStep L (tStep L a 12) 70) 20) 40) 20)) (nx1 := 4) (H2 := [(3, .obj [pI e1, pI (tNext L (tStep L a 12) 70), pI (tNext L (tStep L (tStep L a 12) 70) 20), pI (tNext L (tStep L (tStep L (tStep L a 12) 70) 20) 40), pI 0, pNil, pNil, p16 0, p16 0]), (0, .obj [pS 1 false encI L, pN (tStep L (tStep L (tStep L (tStep L a 12) 70) 20) 40)]), (2, oB true 1 encI fnsL), (1, .obj [pI 0, pI 0, pI 0, pI 0, pI 0, pNil, pNil, p16 0, p16 0])]) (H3 := [(0, .obj [pS 1 false encI L, pN (tStep L (tStep L (tStep L (tStep L (tStep L a 12) 70) 20) 40) 20)]), (3, .obj [pI e1, pI (tNext L (tStep L a 12) 70), pI (tNext L (tStep L (tStep L a 12) 70) 20), pI (tNext L (tStep L (tStep L (tStep L a 12) 70) 20) 40), pI 0, pNil, pNil, p16 0, p16 0]), (2, oB true 1 encI fnsL), (1, .obj [pI 0, pI 0, pI 0, pI 0, pI 0, pNil, pNil, p16 0, p16 0])]) [0] [.obj [pS 1 false encI L, pN (tStep L (tStep L (tStep L (tStep L a 12) 70) 20) 40)]] rfl rfl rfl (handed_of (by decide) ⟨rfl, trivial⟩) rfl rfl rfl rfl rfl rfl (w_burgagekeep_Tape_Next L false (tStep L (tStep L (tStep L (tStep L a 12) 70) 20) 40) 20 (by first | omega | assumption | (simp; omega) | decide | (simp; done)) (by first | omega | assumption | (simp; omega) | decide | (simp; done))) rfl (dist_of rfl) rfl rfl rfl rfl ?_)
            refine qa hnt rfl rfl ?_
            refine r_set [(0, PV.ptr 0 0), (2, PV.ptr 1 0), (3, PV.ptr 3 0), (7, pI (tNext L (tStep L (tStep L (tStep L (tStep L a 12) 70) 20) 40) 20))] [(0, .obj [pS 1 false encI L, pN (tStep L (tStep L (tStep L (tStep L (tStep L a 12) 70) 20) 40) 20)]), (3, .obj [pI e1, pI (tNext L (tStep L a 12) 70), pI (tNext L (tStep L (tStep L a 12) 70) 20), pI (tNext L (tStep L (tStep L (tStep L a 12) 70) 20) 40), pI 0, pNil, pNil, p16 0, p16 0]), (2, oB true 1 encI fnsL), (1, .obj [pI 0, pI 0, pI 0, pI 0, pI 0, pNil, pNil, p16 0, p16 0])] 4 ⟨rfl, rfl, rfl, rfl, trivial⟩ rfl rfl ?_
            refine r_end ?_
            refine q_then ?_
            refine w_block ?_
            refine w_adoptC (n := 3) (j := 6) (sz := 1) rfl rfl rfl ?_
            refine loop3 (fun (ap : Nat) (os : List UInt16) (k : Int) => (os.length : Int) + k ≤ 19 ∧ 0 ≤ k) (fun (ap : Nat) (os : List UInt16) (k : Int) => [(0, PV.ptr 0 0), (2, PV.ptr 3 0), (3, PV.ptr 1 0), (7, pI k)]) 4 (fun (ap : Nat) (os : List UInt16) (k : Int) => [(0, .obj [pS 1 false encI L, pN ap]), (1, .obj [pI e1, pI (tNext L (tStep L a 12) 70), pI (tNext L (tStep L (tStep L a 12) 70) 20), pI (tNext L (tStep L (tStep L (tStep L a 12) 70) 20) 40), pI 0, pNil, PV.ref 2 0 none, p16 0, p16 0]), (2, oB true 1 enc16 os), (3, .obj [pI 0, pI 0, pI 0, pI 0, pI 0, pNil, pNil, p16 0, p16 0])]) (fun (ap : Nat) (os : List UInt16) (k : Int) => k.toNat) (tStep L (tStep L (tStep L (tStep L (tStep L a 12) 70) 20) 40) 20) (([] : List UInt16)) (tNext L (tStep L (tStep L (tStep L (tStep L a 12) 70) 20) 40) 20) ?_ ⟨[(0, 0), (1, 3), (2, 4), (3, 1)], by rw [hk]; decide, ⟨⟨_, rfl, rfl, rfl⟩, ⟨_, rfl, rfl, rfl⟩, ⟨_, rfl, rfl, rfl⟩, ⟨_, rfl, rfl, rfl⟩, trivial⟩, ⟨⟨_, _, rfl, rfl, rfl, rfl⟩, ⟨_, _, rfl, rfl, rfl, rfl⟩, ⟨_, _, rfl, rfl, rfl, rfl⟩, ⟨_, _, rfl, rfl, rfl, rfl⟩, trivial⟩, by rw [hk]; decide⟩ ?_
            · exact ⟨by simp; omega, by omega⟩
            ·
             intro ap os k hI
             obtain ⟨hkm, hk0⟩ := hI
             refine w_seq ?_
             refine w_seq ?_
             refine w_R ?_
             refine qm hnt rfl rfl ?_
             refine qo hnt rfl (s_gtr rfl rfl ?_)
             refine r_end ?_
             refine q_then ?_
             refine w_if rfl (fun c14 => ?_) (fun c14 => ?_)
             ·
              have c14_ := c14
              try simp only [sB] at c14
              refine w_skip ?_
              refine q_then ?_
              refine w_seq ?_
              refine w_block ?_
              refine W_drawn tabOk mixed hnt [[], [0], [], [2], [2, 3], [2, 3, 4], [0, 1, 2, 3, 4, 5], [0, 1, 2, 3, 4, 5, 6], [0, 1, 2, 3, 4, 5, 6, 7]] (by kernel_rfl) ?_
              refine d_op ?_
              refine x_run0 [(3, PV.ptr 1 0)] [] rfl rfl rfl rfl (s_fa_ptr tab_32 rfl rfl tab_29 (by decide) rfl ⟨rfl, rfl, rfl⟩) ?_
              refine d_op ?_
              refine x_run [(131, PV.ptr 1 6)] [0] [(1, .obj [pI e1, pI (tNext L (tStep L a 12) 70), pI (tNext L (tStep L (tStep L a 12) 70) 20), pI (tNext L (tStep L (tStep L (tStep L a 12) 70) 20) 40), pI 0, pNil, PV.ref 2 0 none, p16 0, p16 0])] [] [(1, .obj [pI e1, pI (tNext L (tStep L a 12) 70), pI (tNext L (tStep L (tStep L a 12) 70) 20), pI (tNext L (tStep L (tStep L (tStep L a 12) 70) 20) 40), pI 0, pNil, PV.ref 2 0 none, p16 0, p16 0])] [] [(0, .obj [pS 1 false encI L, pN ap]), (1, .obj [pI e1, pI (tNext L (tStep L a 12) 70), pI (tNext L (tStep L (tStep L a 12) 70) 20), pI (tNext L (tStep L (tStep L (tStep L a 12) 70) 20) 40), pI 0, pNil, PV.ref 2 0 none, p16 0, p16 0]), (2, oB true 1 enc16 os), (3, .obj [pI 0, pI 0, pI 0, pI 0, pI 0, pNil, pNil, p16 0, p16 0])] rfl rfl rfl rfl rfl rfl (s_load_ptr1 tab_29 rfl rfl rfl rfl rfl ⟨rfl, rfl, rfl⟩) rfl ⟨rfl, trivial⟩ rfl rfl ?_
              refine d_op ?_
              refine x_run0 [(0, PV.ptr 0 0)] [] rfl rfl rfl rfl (s_move rfl ⟨rfl, rfl, rfl⟩) ?_
              refine d_op ?_
              refine x_run [(133, PV.ptr 0 0)] [2] [] [(0, .obj [pS 1 false encI L, pN ap])] [(0, .obj [pS 1 false encI L, pN (tStep L ap 65536)])] [(0, .obj [pS 1 false encI L, pN (tStep L ap 65536)])] [(0, .obj [pS 1 false encI L, pN (tStep L ap 65536)]), (1, .obj [pI e1, pI (tNext L (tStep L a 12) 70), pI (tNext L (tStep L (tStep L a 12) 70) 20), pI (tNext L (tStep L (tStep L (tStep L a 12) 70) 20) 40), pI 0, pNil, PV.ref 2 0 none, p16 0, p16 0]), (2, oB true 1 enc16 os), (3, .obj [pI 0, pI 0, pI 0, pI 0, pI 0, pNil, pNil, p16 0, p16 0])] rfl rfl rfl rfl rfl rfl (s_callX (r2 := pI (tNext L ap 65536)) (nx1 := 4) (H2 := [(0, .obj [pS 1 false encI L, pN ap])]) (H3 := [(0, .obj [pS 1 false encI L, pN (tStep L ap 65536)])]) [0] [.obj [pS 1 false encI L, pN ap]] rfl rfl rfl (handed_of (by decide) ⟨rfl, trivial⟩) rfl rfl rfl rfl rfl rfl (w_burgagekeep_Tape_Next L false ap 65536 (by first | omega | assumption | (simp; omega) | decide | (simp; done)) (by first | omega | assumption | (simp; omega) | decide | (simp; done))) rfl (dist_of rfl) rfl rfl rfl rfl ⟨rfl, rfl, rfl⟩) rfl trivial rfl rfl ?_
              refine d_op ?_
              refine x_run0 [(134, pI (tNext L ap 65536))] [2, 3] rfl rfl rfl rfl (s_cv16 tab_3 tab_30 rfl rfl rfl ⟨rfl, rfl, rfl⟩) ?_
              refine d_op ?_
              refine x_run [(135, p16 (u16I (tNext L ap 65536)))] [2, 3, 4] [] [] [(4, oB true 1 enc16 [u16I (tNext L ap 65536)])] [(4, oB true 1 enc16 [u16I (tNext L ap 65536)])] [(4, oB true 1 enc16 [u16I (tNext L ap 65536)]), (0, .obj [pS 1 false encI L, pN (tStep L ap 65536)]), (1, .obj [pI e1, pI (tNext L (tStep L a 12) 70), pI (tNext L (tStep L (tStep L a 12) 70) 20), pI (tNext L (tStep L (tStep L (tStep L a 12) 70) 20) 40), pI 0, pNil, PV.ref 2 0 none, p16 0, p16 0]), (2, oB true 1 enc16 os), (3, .obj [pI 0, pI 0, pI 0, pI 0, pI 0, pNil, pNil, p16 0, p16 0])] rfl rfl rfl rfl rfl rfl (s_mkM (f := enc16) [u16I (tNext L ap 65536)] tab_29 rfl tab_30 ⟨rfl, by decide⟩ (by decide) rfl rfl rfl rfl ⟨rfl, rfl, rfl⟩) rfl trivial rfl rfl ?_
              refine d_op ?_
              refine x_run [(132, PV.ref 2 0 none), (136, PV.ref 4 0 none)] [0, 1, 2, 3, 4, 5] [(4, oB true 1 enc16 [u16I (tNext L ap 65536)])] [(2, oB true 1 enc16 os)] [(5, oB true 1 enc16 (os ++ [u16I (tNext L ap 65536)])), (4, oB true 1 enc16 [u16I (tNext L ap 65536)])] [(5, oB true 1 enc16 (os ++ [u16I (tNext L ap 65536)]))] [(5, oB true 1 enc16 (os ++ [u16I (tNext L ap 65536)])), (4, oB true 1 enc16 [u16I (tNext L ap 65536)]), (0, .obj [pS 1 false encI L, pN (tStep L ap 65536)]), (1, .obj [pI e1, pI (tNext L (tStep L a 12) 70), pI (tNext L (tStep L (tStep L a 12) 70) 20), pI (tNext L (tStep L (tStep L (tStep L a 12) 70) 20) 40), pI 0, pNil, PV.ref 2 0 none, p16 0, p16 0]), (3, .obj [pI 0, pI 0, pI 0, pI 0, pI 0, pNil, pNil, p16 0, p16 0])] rfl rfl rfl rfl rfl rfl (s_appR0 (f := enc16) (l := os) (xs := [u16I (tNext L ap 65536)]) tab_29 rfl tab_30 ⟨rfl, by decide, by decide⟩ (srcM tab_29 rfl (hM_ref0 (f := enc16) rfl rfl)) rfl rfl (by first | omega | (simp; omega)) ⟨rfl, rfl, rfl⟩) rfl ⟨rfl, trivial⟩ rfl rfl ?_
              refine d_op ?_
              refine x_run0 [(3, PV.ptr 1 0)] [0, 1, 2, 3, 4, 5, 6] rfl rfl rfl rfl (s_fa_ptr tab_32 rfl rfl tab_29 (by decide) rfl ⟨rfl, rfl, rfl⟩) ?_
              refine d_op ?_
              refine x_run [(138, PV.ptr 1 6), (137, PV.ref 5 0 none)] [0, 1, 2, 3, 4, 5, 6, 7] [] [(1, .obj [pI e1, pI (tNext L (tStep L a 12) 70), pI (tNext L (tStep L (tStep L a 12) 70) 20), pI (tNext L (tStep L (tStep L (tStep L a 12) 70) 20) 40), pI 0, pNil, PV.ref 2 0 none, p16 0, p16 0])] [(1, .obj [pI e1, pI (tNext L (tStep L a 12) 70), pI (tNext L (tStep L (tStep L a 12) 70) 20), pI (tNext L (tStep L (tStep L (tStep L a 12) 70) 20) 40), pI 0, pNil, PV.ref 5 0 none, p16 0, p16 0])] [(1, .obj [pI e1, pI (tNext L (tStep L a 12) 70), pI (tNext L (tStep L (tStep L a 12) 70) 20), pI (tNext L (tStep L (tStep L (tStep L a 12) 70) 20) 40), pI 0, pNil, PV.ref 5 0 none, p16 0, p16 0])] [(1, .obj [pI e1, pI (tNext L (tStep L a 12) 70), pI (tNext L (tStep L (tStep L a 12) 70) 20), pI (tNext L (tStep L (tStep L (tStep L a 12) 70) 20) 40), pI 0, pNil, PV.ref 5 0 none, p16 0, p16 0]), (5, oB true 1 enc16 (os ++ [u16I (tNext L ap 65536)])), (4, oB true 1 enc16 [u16I (tNext L ap 65536)]), (0, .obj [pS 1 false encI L, pN (tStep L ap 65536)]), (3, .obj [pI 0, pI 0, pI 0, pI 0, pI 0, pNil, pNil, p16 0, p16 0])] rfl rfl rfl rfl rfl rfl (s_store_ptr tab_29 rfl rfl rfl rfl rfl (Nat.le_of_ble_eq_true rfl) ⟨rfl, rfl, rfl⟩) rfl trivial rfl rfl ?_
              refine d_end ⟨by kernel_rfl, ?_⟩
              refine q_block ?_
              refine q_then ?_
              refine w_R ?_
              refine qm hnt rfl rfl ?_
              refine qo hnt rfl (s_subi (r := k - 1) rfl rfl rfl (by omega) ?_)
              refine qa hnt rfl rfl ?_
              refine r_end ?_
              refine q_then ?_
              refine ⟨(tStep L ap 65536), (os ++ [u16I (tNext L ap 65536)]), (k - 1), ?_, ?_, ⟨[(0, 0), (1, 1), (2, 5), (3, 3)], by rw [hk]; decide, ⟨⟨_, rfl, rfl, rfl⟩, ⟨_, rfl, rfl, rfl⟩, ⟨_, rfl, rfl, rfl⟩, ⟨_, rfl, rfl, rfl⟩, trivial⟩, ⟨⟨_, _, rfl, rfl, rfl, rfl⟩, ⟨_, _, rfl, rfl, rfl, rfl⟩, ⟨_, _, rfl, rfl, rfl, rfl⟩, ⟨_, _, rfl, rfl, rfl, rfl⟩, trivial⟩, by rw [hk]; decide⟩⟩
              ·
               exact ⟨by simp; omega, by omega⟩
              · omega
             ·
              have c14_ := c14
              try simp only [sB] at c14
              refine w_exit ?_
              refine q_then_exit ?_
              refine q_then_exit ?_
              refine q_block_exit ?_
              refine q_block ?_
              refine q_then ?_
              refine w_seq ?_
              refine w_R ?_
              refine qo hnt rfl (s_load_ptr tab_32 rfl rfl rfl (Nat.le_of_ble_eq_true rfl) ?_)
              refine qo hnt rfl (s_store_ptr tab_32 rfl rfl rfl rfl rfl (Nat.le_of_ble_eq_true rfl) ?_)
              refine r_set [(2, PV.ptr 3 0)] [(3, .obj [pI e1, pI (tNext L (tStep L a 12) 70), pI (tNext L (tStep L (tStep L a 12) 70) 20), pI (tNext L (tStep L (tStep L (tStep L a 12) 70) 20) 40), pI 0, pNil, PV.ref 2 0 none, p16 0, p16 0]), (0, .obj [pS 1 false encI L, pN ap]), (1, .obj [pI e1, pI (tNext L (tStep L a 12) 70), pI (tNext L (tStep L (tStep L a 12) 70) 20), pI (tNext L (tStep L (tStep L (tStep L a 12) 70) 20) 40), pI 0, pNil, PV.ref 2 0 none, p16 0, p16 0]), (2, oB true 1 enc16 os)] 4 ⟨rfl, trivial⟩ rfl rfl ?_
              refine r_end ?_
              refine q_then ?_
              refine w_frzC (n := 3) (j := 6) rfl rfl rfl rfl ?_
              refine w_leO (n := 3) (ds := [pI e1, pI (tNext L (tStep L a 12) 70), pI (tNext L (tStep L (tStep L a 12) 70) 20), pI (tNext L (tStep L (tStep L (tStep L a 12) 70) 20) 40), pI 0, pS 1 false encBo [], pS 1 false enc16 os, p16 0, p16 0]) rfl ⟨le_refl _, le_refl _, le_refl _, le_refl _, le_refl _, le_nilS 1 false, le_refl _, le_refl _, le_refl _, trivial⟩ ?_
              refine w_ret ?_
              have hex : rightR (⟨e1, tNext L (tStep L a 12) 70, tNext L (tStep L (tStep L a 12) 70) 20, tNext L (tStep L (tStep L (tStep L a 12) 70) 20) 40, 0, [], os, 0, 0⟩ : TRequest) = 0 ∧ (⟨e1, tNext L (tStep L a 12) 70, tNext L (tStep L (tStep L a 12) 70) 20, tNext L (tStep L (tStep L (tStep L a 12) 70) 20) 40, 0, [], os, 0, 0⟩ : TRequest).bits.length ≤ 25 ∧ (⟨e1, tNext L (tStep L a 12) 70, tNext L (tStep L (tStep L a 12) 70) 20, tNext L (tStep L (tStep L (tStep L a 12) 70) 20) 40, 0, [], os, 0, 0⟩ : TRequest).vals.length ≤ 25 ∧ 0 ≤ (⟨e1, tNext L (tStep L a 12) 70, tNext L (tStep L (tStep L a 12) 70) 20, tNext L (tStep L (tStep L (tStep L a 12) 70) 20) 40, 0, [], os, 0, 0⟩ : TRequest).count ∧ (⟨e1, tNext L (tStep L a 12) 70, tNext L (tStep L (tStep L a 12) 70) 20, tNext L (tStep L (tStep L (tStep L a 12) 70) 20) 40, 0, [], os, 0, 0⟩ : TRequest).count ≤ 25 := by
                refine ⟨(shapeR_iff (q := _) hfn).2 ?_, by simp; try omega, by simp; try omega, by simp; try omega, by simp; try omega⟩
                constructor
                case bits => simp only; first | rfl | (rw [if_neg (by omega), if_neg (by omega)]; rfl) | (rw [if_pos (by omega)]; rfl) | (rw [if_neg (by omega), if_pos (by omega)]; exact ⟨by omega, by omega⟩)
                case vals => simp only; first | rfl | (rw [if_neg (by omega), if_neg (by omega), if_neg (by omega)]; rfl) | (rw [if_pos (by omega)]; rfl) | (rw [if_neg (by omega), if_pos (by omega)]; exact ⟨by omega, by omega⟩) | (rw [if_neg (by omega), if_neg (by omega), if_pos (by omega)]; omega)
                all_goals first | (intro _; rfl) | (intro _; exact ⟨rfl, rfl⟩) | (simp only; omega) | (intro h; simp at h) | (intro h; exact absurd rfl h) | (simp; omega)
              exact fin_names (nx1 := 1) (H1 := [(0, .obj [pS 1 false encI L, pN ap])]) [(0, 0)] (ret_cell tab_32 (by decide) rfl rfl (Nat.le_of_ble_eq_true rfl) rfl ret_nil) rfl (by decide) ⟨⟨_, _, rfl, rfl, rfl, rfl⟩, trivial⟩ (by decide) rfl ⟨((⟨e1, tNext L (tStep L a 12) 70, tNext L (tStep L (tStep L a 12) 70) 20, tNext L (tStep L (tStep L (tStep L a 12) 70) 20) 40, 0, [], os, 0, 0⟩ : TRequest)), (ap), hex, rfl, rfl, rfl⟩
           ·
            have c13_ := c13
            try simp only [sB] at c13
            refine w_skip ?_
            refine q_block ?_
            refine q_then ?_
            refine w_seq ?_
            refine w_R ?_
            refine qo hnt rfl (s_load_ptr tab_32 rfl rfl rfl (Nat.le_of_ble_eq_true rfl) ?_)
            refine qo hnt rfl (s_store_ptr tab_32 rfl rfl rfl rfl rfl (Nat.le_of_ble_eq_true rfl) ?_)
            refine r_set [(2, PV.ptr 1 0)] [(1, .obj [pI e1, pI 0, pI 0, pI 0, pI 0, pNil, pNil, p16 0, p16 0]), (0, .obj [pS 1 false encI L, pN (tStep L (tStep L a 12) 70)]), (3, .obj [pI e1, pI 0, pI 0, pI 0, pI 0, pNil, pNil, p16 0, p16 0]), (2, oB true 1 encI fnsL)] 4 ⟨rfl, trivial⟩ rfl rfl ?_
            refine r_end ?_
            refine q_then ?_
            refine w_leO (n := 1) (ds := [pI e1, pI 0, pI 0, pI 0, pI 0, pS 1 false encBo [], pS 1 false enc16 [], p16 0, p16 0]) rfl ⟨le_refl _, le_refl _, le_refl _, le_refl _, le_refl _, le_nilS 1 false, le_nilS 1 false, le_refl _, le_refl _, trivial⟩ ?_
            refine w_ret ?_
            have hex : rightR (⟨e1, 0, 0, 0, 0, [], [], 0, 0⟩ : TRequest) = 0 ∧ (⟨e1, 0, 0, 0, 0, [], [], 0, 0⟩ : TRequest).bits.length ≤ 25 ∧ (⟨e1, 0, 0, 0, 0, [], [], 0, 0⟩ : TRequest).vals.length ≤ 25 ∧ 0 ≤ (⟨e1, 0, 0, 0, 0, [], [], 0, 0⟩ : TRequest).count ∧ (⟨e1, 0, 0, 0, 0, [], [], 0, 0⟩ : TRequest).count ≤ 25 := by
              refine ⟨(shapeR_iff (q := _) hfn).2 ?_, by simp; try omega, by simp; try omega, by simp; try omega, by simp; try omega⟩
              constructor
              case bits => simp only; first | rfl | (rw [if_neg (by omega), if_neg (by omega)]; rfl) | (rw [if_pos (by omega)]; rfl) | (rw [if_neg (by omega), if_pos (by omega)]; exact ⟨by omega, by omega⟩)
              case vals => simp only; first | rfl | (rw [if_neg (by omega), if_neg (by omega), if_neg (by omega)]; rfl) | (rw [if_pos (by omega)]; rfl) | (rw [if_neg (by omega), if_pos (by omega)]; exact ⟨by omega, by omega⟩) | (rw [if_neg (by omega), if_neg (by omega), if_pos (by omega)]; omega)
              all_goals first | (intro _; rfl) | (intro _; exact ⟨rfl, rfl⟩) | (simp only; omega) | (intro h; simp at h) | (intro h; exact absurd rfl h) | (simp; omega)
            exact fin_names (nx1 := 1) (H1 := [(0, .obj [pS 1 false encI L, pN (tStep L (tStep L a 12) 70)])]) [(0, 0)] (ret_cell tab_32 (by decide) rfl rfl (Nat.le_of_ble_eq_true rfl) rfl ret_nil) rfl (by decide) ⟨⟨_, _, rfl, rfl, rfl, rfl⟩, trivial⟩ (by decide) rfl ⟨((⟨e1, 0, 0, 0, 0, [], [], 0, 0⟩ : TRequest)), (tStep L (tStep L a 12) 70), hex, rfl, rfl, rfl⟩

end Go.Proofs.Ytmcgjmpcfiefgaa
