/- What the law PduTells needs, and no more: merged out of texts of this session by a program of it (wip/tools/prune.py). -/
import Derived.Test.YtigpfkcjpjhflaaQPduTells4
set_option linter.unusedVariables false
set_option linter.unusedSimpArgs false
set_option maxRecDepth 10000
set_option maxHeartbeats 1000000
namespace Go.Proofs.Ytigpfkcjpjhflaa
open Go Go.Proofs.Ytigpfkcjpjhflaa.Pv
theorem w_burgagekeep_Functions   :
    T Try.prog 19 [] 0 [] (Ret (PV.ref 0 0 none) 1 [(0,oB true 1 encI fnsL)]) := by
 refine t_fun tabOk (n := 2) (rs := [.tmp 0]) Try.func19 rfl rfl rfl rfl (Nat.le_of_ble_eq_true rfl) ?_
 intro c hnt hk
 refine w_seq ?_
 refine w_R ?_
 refine qa hnt rfl rfl ?_
 refine r_end ?_
 refine q_then ?_
 refine w_seq ?_
 refine w_R ?_
 refine qo hnt rfl (s_mkM (f := encI) ([1,2,3,4,5,6,8,15,16,17,22,23] : List Int) tab_22 rfl tab_3 ⟨rfl,by decide⟩ (by decide) rfl rfl rfl rfl ?_)
 refine qa hnt rfl rfl ?_
 refine r_set [(0,PV.ref 0 0 none)] [(0,oB true 1 encI ([1,2,3,4,5,6,8,15,16,17,22,23] : List Int))] 1 ⟨rfl,trivial⟩ rfl rfl ?_
 refine r_end ?_
 refine q_then ?_
 refine w_H (H' := [(0,oB true 1 encI fnsL)]) (congrArg (fun z => ([(0,oB true 1 encI z)] : Heap)) (show ([1,2,3,4,5,6,8,15,16,17,22,23] : List Int) = fnsL by rfl)) ?_
 refine w_ret ?_
 exact fin_names (nx1 := 1) (H1 := [(0,oB true 1 encI fnsL)]) [(0,0)] (ret_tmp rfl ret_nil) rfl (by decide) ⟨⟨_,_,rfl,rfl,rfl,rfl⟩,trivial⟩ (by decide) rfl ⟨rfl,rfl,rfl⟩
theorem w_burgagekeep_Tape_Next (L : List Int) (cl_L : Bool) (a : Nat) (n : Int) (hL : L.length ≤ 70000000000000) (hn : -9223372036854775808 ≤ n ∧ n ≤ 9223372036854775807) :
    T Try.prog 36 [PV.ptr 0 0,pI n] 1 [(0,.obj [pS 1 cl_L encI L,pN a])] (Ret (pI (tNext L a n)) 1 [(0,.obj [pS 1 false encI L,pN (tStep L a n)])]) := by
 refine t_fun tabOk (n := 40) (rs := [.tmp 4]) Try.func36 rfl rfl rfl rfl (Nat.le_of_ble_eq_true rfl) ?_
 intro c hnt hk
 refine w_seq ?_
 refine w_R ?_
 refine qa hnt rfl rfl ?_
 refine r_end ?_
 refine q_then ?_
 refine w_seq ?_
 refine w_seq ?_
 refine W_drawn tabOk mixed hnt [[],[0],[0,1],[0,1,2],[],[4],[4,5],[4,5,6],[4,5,6,7],[0,1,2,3,4,5,6,7,8],[0,1,2,3,4,5,6,7,8,9],[0,1,2,3,4,5,6,7,8,9,10],[0,1,2,3,4,5,6,7,8,9,10,11],[0,1,2,3,4,5,6,7,8,9,10,11,12]] (by kernel_rfl) ?_
 refine d_op ?_
 refine x_run0 [(0,PV.ptr 0 0)] [] rfl rfl rfl rfl (s_move rfl ⟨rfl,rfl,rfl⟩) ?_
 refine d_op ?_
 refine x_run0 [(5,PV.ptr 0 0)] [0] rfl rfl rfl rfl (s_nilCheck rfl trivial ⟨rfl,rfl,rfl⟩) ?_
 refine d_op ?_
 refine x_run0 [(6,PV.ptr 0 0)] [0,1] rfl rfl rfl rfl (s_fa_ptr tab_30 rfl rfl tab_3 (by decide) rfl ⟨rfl,rfl,rfl⟩) ?_
 refine d_op ?_
 refine x_run [(7,PV.ptr 0 1)] [0,1,2] [(0,.obj [pS 1 cl_L encI L,pN a])] [] [(0,.obj [pS 1 cl_L encI L,pN a])] [] [(0,.obj [pS 1 cl_L encI L,pN a])] rfl rfl rfl rfl rfl rfl (s_load_ptr1 tab_3 rfl rfl rfl rfl rfl ⟨rfl,rfl,rfl⟩) rfl ⟨rfl,trivial⟩ rfl rfl ?_
 refine d_op ?_
 refine x_run0 [(0,PV.ptr 0 0)] [] rfl rfl rfl rfl (s_move rfl ⟨rfl,rfl,rfl⟩) ?_
 refine d_op ?_
 refine x_run0 [(9,PV.ptr 0 0)] [4] rfl rfl rfl rfl (s_nilCheck rfl trivial ⟨rfl,rfl,rfl⟩) ?_
 refine d_op ?_
 refine x_run0 [(10,PV.ptr 0 0)] [4,5] rfl rfl rfl rfl (s_fa_ptr tab_30 rfl rfl tab_22 (by decide) rfl ⟨rfl,rfl,rfl⟩) ?_
 refine d_op ?_
 refine x_run [(11,PV.ptr 0 0)] [4,5,6] [(0,.obj [pS 1 cl_L encI L,pN a])] [] [(0,.obj [pS 1 cl_L encI L,pN a])] [] [(0,.obj [pS 1 cl_L encI L,pN a])] rfl rfl rfl rfl rfl rfl (s_load_ptr1 tab_22 rfl rfl rfl rfl rfl ⟨rfl,rfl,rfl⟩) rfl ⟨rfl,trivial⟩ rfl rfl ?_
 refine d_op ?_
 refine x_run0 [(12,pS 1 cl_L encI L)] [4,5,6,7] rfl rfl rfl rfl (s_lenM (l := L) tab_22 rfl (hM_sl (f := encI) rfl) ⟨rfl,rfl,rfl⟩) ?_
 refine d_op ?_
 refine x_run0 [(8,pN a),(13,pN L.length)] [0,1,2,3,4,5,6,7,8] rfl rfl rfl rfl (s_geq rfl rfl ⟨rfl,rfl,rfl⟩) ?_
 refine d_op ?_
 refine x_run0 [(14,pB (decide (((L.length : Nat) : Int) ≤ ((a : Nat) : Int))))] [0,1,2,3,4,5,6,7,8,9] rfl rfl rfl rfl (s_move rfl ⟨rfl,rfl,rfl⟩) ?_
 refine x_if [(15,pB (decide (((L.length : Nat) : Int) ≤ ((a : Nat) : Int)))),(1,pI n)] [0,1,2,3,4,5,6,7,8,9,10] rfl rfl rfl rfl (fun g1 => ?_) (fun g1 => ?_)
 ·
  have g1' := g1
  try simp only [sB] at g1'
  refine x_run0 [(15,pB (decide (((L.length : Nat) : Int) ≤ ((a : Nat) : Int)))),(1,pI n)] [0,1,2,3,4,5,6,7,8,9,10] rfl rfl rfl rfl (s_move rfl ⟨rfl,rfl,rfl⟩) ?_
  refine xy [(15,pB (decide (((L.length : Nat) : Int) ≤ ((a : Nat) : Int)))),(16,pI n)] [0,1,2,3,4,5,6,7,8,9,10,11] rfl rfl rfl rfl g1 ?_
  refine x_run0 [(15,pB (decide (((L.length : Nat) : Int) ≤ ((a : Nat) : Int)))),(16,pI n)] [0,1,2,3,4,5,6,7,8,9,10,11] rfl rfl rfl rfl (s_lss rfl rfl ⟨rfl,rfl,rfl⟩) ?_
  refine d_op ?_
  refine x_run0 [(15,pB (decide (((L.length : Nat) : Int) ≤ ((a : Nat) : Int)))),(17,pB (decide (n < 1)))] [0,1,2,3,4,5,6,7,8,9,10,11,12] rfl rfl rfl rfl (s_pick_f rfl g1 rfl ⟨rfl,rfl,rfl⟩) ?_
  refine d_end ⟨by kernel_rfl, ?_⟩
  refine q_then ?_
  refine w_if rfl (fun c1 => ?_) (fun c1 => ?_)
  ·
   have c1_ := c1
   try simp only [sB] at c1
   refine w_seq ?_
   refine w_R ?_
   refine qa hnt rfl rfl ?_
   refine r_end ?_
   refine q_then ?_
   refine w_le (s := 4) (y := pI (tNext L a n)) rfl (le_of_eq (congrArg (fun z : Int => pI z) (show 0 = (tNext L a n) by first|(unfold tNext; rw [if_pos (by omega)]; done)|(unfold tStep; rw [if_pos (by omega)]; done)|(unfold tStep; rw [if_neg (by omega)]; done)|(unfold tNext; rw [if_neg (by omega),List.getD_eq_getElem?_getD,show L[a]? = some e1 from he1]; rfl)))) ?_
   refine w_leO (n := 0) (ds := [pS 1 false encI L,pN (tStep L a n)]) rfl ⟨le_loose,le_of_eq (congrArg (fun z : Nat => pN z) (show a = (tStep L a n) by first|(unfold tNext; rw [if_pos (by omega)]; done)|(unfold tStep; rw [if_pos (by omega)]; done)|(unfold tStep; rw [if_neg (by omega)]; done)|(unfold tNext; rw [if_neg (by omega),List.getD_eq_getElem?_getD,show L[a]? = some e1 from he1]; rfl))),trivial⟩ ?_
   refine w_ret ?_
   refine q_then_ret ?_
   exact fin_names (nx1 := 1) (H1 := [(0,.obj [pS 1 false encI L,pN (tStep L a n)])]) [(0,0)] (ret_tmp rfl ret_nil) rfl (by decide) ⟨⟨_,_,rfl,rfl,rfl,rfl⟩,trivial⟩ (by decide) rfl ⟨rfl,rfl,rfl⟩
  ·
   have c1_ := c1
   try simp only [sB] at c1
   refine w_skip ?_
   refine q_then ?_
   refine w_seq ?_
   refine w_R ?_
   refine qm hnt rfl rfl ?_
   refine qo hnt rfl (s_nilCheck rfl trivial ?_)
   refine qo hnt rfl (s_fa_ptr tab_30 rfl rfl tab_3 (by decide) rfl ?_)
   refine qo hnt rfl (s_load_ptr1 tab_3 rfl rfl rfl rfl rfl ?_)
   refine qo hnt rfl (s_addN (a := a) (b := 1) rfl rfl (by omega) (by omega) (by omega) ?_)
   refine qo hnt rfl (s_nilCheck rfl trivial ?_)
   refine qo hnt rfl (s_fa_ptr tab_30 rfl rfl tab_3 (by decide) rfl ?_)
   refine qo hnt rfl (s_store_ptr tab_3 rfl rfl rfl rfl rfl (Nat.le_of_ble_eq_true rfl) ?_)
   refine r_set [(0,PV.ptr 0 0),(1,pI n)] [(0,.obj [pS 1 cl_L encI L,pN (a + 1)])] 1 ⟨rfl,rfl,trivial⟩ rfl rfl ?_
   refine r_end ?_
   refine q_then ?_
   refine w_seq ?_
   refine W_drawn tabOk mixed hnt [[],[0],[0,1],[0,1,2],[],[4],[4,5],[4,5,6],[4,5,6,7],[0,1,2,3,4,5,6,7,8],[0,1,2,3,4,5,6,7,8,9],[0,1,2,3,4,5,6,7,8,9,10],[],[0,1,2,3,4,5,6,7,8,9,10,11,12],[0,1,2,3,4,5,6,7,8,9,10,11,12,13]] (by kernel_rfl) ?_
   refine d_op ?_
   refine x_run0 [(0,PV.ptr 0 0)] [] rfl rfl rfl rfl (s_move rfl ⟨rfl,rfl,rfl⟩) ?_
   refine d_op ?_
   refine x_run0 [(26,PV.ptr 0 0)] [0] rfl rfl rfl rfl (s_nilCheck rfl trivial ⟨rfl,rfl,rfl⟩) ?_
   refine d_op ?_
   refine x_run0 [(27,PV.ptr 0 0)] [0,1] rfl rfl rfl rfl (s_fa_ptr tab_30 rfl rfl tab_22 (by decide) rfl ⟨rfl,rfl,rfl⟩) ?_
   refine d_op ?_
   refine x_run [(28,PV.ptr 0 0)] [0,1,2] [(0,.obj [pS 1 cl_L encI L,pN (a + 1)])] [] [(0,.obj [pS 1 cl_L encI L,pN (a + 1)])] [] [(0,.obj [pS 1 cl_L encI L,pN (a + 1)])] rfl rfl rfl rfl rfl rfl (s_load_ptr1 tab_22 rfl rfl rfl rfl rfl ⟨rfl,rfl,rfl⟩) rfl ⟨rfl,trivial⟩ rfl rfl ?_
   refine d_op ?_
   refine x_run0 [(0,PV.ptr 0 0)] [] rfl rfl rfl rfl (s_move rfl ⟨rfl,rfl,rfl⟩) ?_
   refine d_op ?_
   refine x_run0 [(30,PV.ptr 0 0)] [4] rfl rfl rfl rfl (s_nilCheck rfl trivial ⟨rfl,rfl,rfl⟩) ?_
   refine d_op ?_
   refine x_run0 [(31,PV.ptr 0 0)] [4,5] rfl rfl rfl rfl (s_fa_ptr tab_30 rfl rfl tab_3 (by decide) rfl ⟨rfl,rfl,rfl⟩) ?_
   refine d_op ?_
   refine x_run [(32,PV.ptr 0 1)] [4,5,6] [(0,.obj [pS 1 cl_L encI L,pN (a + 1)])] [] [(0,.obj [pS 1 cl_L encI L,pN (a + 1)])] [] [(0,.obj [pS 1 cl_L encI L,pN (a + 1)])] rfl rfl rfl rfl rfl rfl (s_load_ptr1 tab_3 rfl rfl rfl rfl rfl ⟨rfl,rfl,rfl⟩) rfl ⟨rfl,trivial⟩ rfl rfl ?_
   refine d_op ?_
   refine x_run0 [(33,pN (a + 1))] [4,5,6,7] rfl rfl rfl rfl (s_subN (a := a + 1) (b := 1) rfl rfl (by omega) (by omega) (by omega) ⟨rfl,rfl,rfl⟩) ?_
   refine d_op ?_
   obtain ⟨e1,he1⟩ := get_of_lt L (i := a + 1 - 1) (by omega)
   refine x_run0 [(29,pS 1 cl_L encI L),(34,pN (a + 1 - 1))] [0,1,2,3,4,5,6,7,8] rfl rfl rfl rfl (s_iaM (q := a + 1 - 1) (b := e1) (f := encI) tab_22 rfl tab_3 rfl rfl (by omega) rfl he1 ⟨rfl,rfl,rfl⟩) ?_
   refine d_op ?_
   refine x_run0 [(35,PV.f (.ro (encI e1)))] [0,1,2,3,4,5,6,7,8,9] rfl rfl rfl rfl (s_load_ro1 tab_3 rfl rfl rfl rfl ⟨rfl,rfl,rfl⟩) ?_
   refine d_op ?_
   refine x_run0 [(36,pI e1)] [0,1,2,3,4,5,6,7,8,9,10] rfl rfl rfl rfl (s_callF rfl rfl rfl (w_burgagebook_Within e1 0 1073741824 (by first|omega|assumption|(simp; omega)|decide|(simp; done))) rfl ⟨rfl,rfl,rfl⟩) ?_
   refine d_op ?_
   refine x_run0 [(1,pI n)] [] rfl rfl rfl rfl (s_move rfl ⟨rfl,rfl,rfl⟩) ?_
   refine d_op ?_
   refine x_run0 [(37,pI (within e1 0 1073741824)),(38,pI n)] [0,1,2,3,4,5,6,7,8,9,10,11,12] rfl rfl rfl rfl (s_rem rfl rfl (by omega) ⟨rfl,rfl,rfl⟩) ?_
   refine d_op ?_
   refine x_run0 [(39,pI (Int.tmod (within e1 0 1073741824) n))] [0,1,2,3,4,5,6,7,8,9,10,11,12,13] rfl rfl rfl rfl (s_assign rfl ⟨rfl,rfl,rfl⟩) ?_
   refine d_end ⟨by kernel_rfl, ?_⟩
   refine q_then ?_
   refine w_le (s := 4) (y := pI (tNext L a n)) rfl (le_of_eq (congrArg (fun z : Int => pI z) (show (Int.tmod (within e1 0 1073741824) n) = (tNext L a n) by first|(unfold tNext; rw [if_pos (by omega)]; done)|(unfold tStep; rw [if_pos (by omega)]; done)|(unfold tStep; rw [if_neg (by omega)]; done)|(unfold tNext; rw [if_neg (by omega),List.getD_eq_getElem?_getD,show L[a]? = some e1 from he1]; rfl)))) ?_
   refine w_leO (n := 0) (ds := [pS 1 false encI L,pN (tStep L a n)]) rfl ⟨le_loose,le_of_eq (congrArg (fun z : Nat => pN z) (show (a + 1) = (tStep L a n) by first|(unfold tNext; rw [if_pos (by omega)]; done)|(unfold tStep; rw [if_pos (by omega)]; done)|(unfold tStep; rw [if_neg (by omega)]; done)|(unfold tNext; rw [if_neg (by omega),List.getD_eq_getElem?_getD,show L[a]? = some e1 from he1]; rfl))),trivial⟩ ?_
   refine w_ret ?_
   exact fin_names (nx1 := 1) (H1 := [(0,.obj [pS 1 false encI L,pN (tStep L a n)])]) [(0,0)] (ret_tmp rfl ret_nil) rfl (by decide) ⟨⟨_,_,rfl,rfl,rfl,rfl⟩,trivial⟩ (by decide) rfl ⟨rfl,rfl,rfl⟩
 ·
  have g1' := g1
  try simp only [sB] at g1'
  refine xn [(15,pB (decide (((L.length : Nat) : Int) ≤ ((a : Nat) : Int)))),(16,undefP)] [0,1,2,3,4,5,6,7,8,9,10,11] rfl rfl rfl rfl g1 ?_
  refine d_op ?_
  refine x_run0 [(15,pB (decide (((L.length : Nat) : Int) ≤ ((a : Nat) : Int)))),(17,undefP)] [0,1,2,3,4,5,6,7,8,9,10,11,12] rfl rfl rfl rfl (s_pick_t rfl g1 rfl ⟨rfl,rfl,rfl⟩) ?_
  refine d_end ⟨by kernel_rfl, ?_⟩
  refine q_then ?_
  refine w_if rfl (fun _ => ?_) (fun e => absurd e (by decide))
  refine w_seq ?_
  refine w_R ?_
  refine qa hnt rfl rfl ?_
  refine r_end ?_
  refine q_then ?_
  refine w_le (s := 4) (y := pI (tNext L a n)) rfl (le_of_eq (congrArg (fun z : Int => pI z) (show 0 = (tNext L a n) by first|(unfold tNext; rw [if_pos (by omega)]; done)|(unfold tStep; rw [if_pos (by omega)]; done)|(unfold tStep; rw [if_neg (by omega)]; done)|(unfold tNext; rw [if_neg (by omega),List.getD_eq_getElem?_getD,show L[a]? = some e1 from he1]; rfl)))) ?_
  refine w_leO (n := 0) (ds := [pS 1 false encI L,pN (tStep L a n)]) rfl ⟨le_loose,le_of_eq (congrArg (fun z : Nat => pN z) (show a = (tStep L a n) by first|(unfold tNext; rw [if_pos (by omega)]; done)|(unfold tStep; rw [if_pos (by omega)]; done)|(unfold tStep; rw [if_neg (by omega)]; done)|(unfold tNext; rw [if_neg (by omega),List.getD_eq_getElem?_getD,show L[a]? = some e1 from he1]; rfl))),trivial⟩ ?_
  refine w_ret ?_
  refine q_then_ret ?_
  exact fin_names (nx1 := 1) (H1 := [(0,.obj [pS 1 false encI L,pN (tStep L a n)])]) [(0,0)] (ret_tmp rfl ret_nil) rfl (by decide) ⟨⟨_,_,rfl,rfl,rfl,rfl⟩,trivial⟩ (by decide) rfl ⟨rfl,rfl,rfl⟩
theorem w_burgagekeep_Tape_Request (L : List Int) (cl_L : Bool) (a : Nat) (hL : L.length ≤ 70000000000000) :
    T Try.prog 13 [PV.ptr 0 0] 1 [(0,.obj [pS 1 cl_L encI L,pN a])] (fun ra rb rc => ∃ q : TRequest,∃ b : Nat,(rightR q = 0 ∧ q.bits.length ≤ 25 ∧ q.vals.length ≤ 25 ∧ 0 ≤ q.count ∧ q.count ≤ 25) ∧ (Ret (PV.f (eRequest q)) 1 [(0,.obj [pS 1 false encI L,pN b])]) ra rb rc) := by
 refine t_fun tabOk (n := 140) (rs := [.cell 2 27]) Try.func13 rfl rfl rfl rfl (Nat.le_of_ble_eq_true rfl) ?_
 intro c hnt hk
 refine w_seq ?_
 refine w_R ?_
 refine qo hnt rfl (s_alloc tab_27 ?_)
 refine r_set [(0,PV.ptr 0 0),(2,PV.ptr 1 0)] [(1,.obj [pI 0,pI 0,pI 0,pI 0,pI 0,pNil,pNil,p16 0,p16 0]),(0,.obj [pS 1 cl_L encI L,pN a])] 2 ⟨rfl,rfl,trivial⟩ rfl rfl ?_
 refine r_end ?_
 refine q_then ?_
 refine w_seq ?_
 refine w_R ?_
 refine qo hnt rfl (s_callX (r2 := PV.ref 2 0 none) (nx1 := 3) (H2 := [(1,.obj [pI 0,pI 0,pI 0,pI 0,pI 0,pNil,pNil,p16 0,p16 0]),(0,.obj [pS 1 cl_L encI L,pN a])]) (H3 := [(2,oB true 1 encI fnsL),(1,.obj [pI 0,pI 0,pI 0,pI 0,pI 0,pNil,pNil,p16 0,p16 0]),(0,.obj [pS 1 cl_L encI L,pN a])]) [] [] rfl rfl rfl (handed_of (by decide) trivial) rfl rfl rfl rfl rfl rfl (w_burgagekeep_Functions) rfl (dist_of rfl) rfl rfl rfl rfl ?_)
 refine qm hnt rfl rfl ?_
 refine qo hnt rfl (s_callX (r2 := pI (tNext L a 12)) (nx1 := 3) (H2 := [(2,oB true 1 encI fnsL),(1,.obj [pI 0,pI 0,pI 0,pI 0,pI 0,pNil,pNil,p16 0,p16 0]),(0,.obj [pS 1 cl_L encI L,pN a])]) (H3 := [(0,.obj [pS 1 false encI L,pN (tStep L a 12)]),(2,oB true 1 encI fnsL),(1,.obj [pI 0,pI 0,pI 0,pI 0,pI 0,pNil,pNil,p16 0,p16 0])]) [0] [.obj [pS 1 cl_L encI L,pN a]] rfl rfl rfl (handed_of (by decide) ⟨rfl,trivial⟩) rfl rfl rfl rfl rfl rfl (w_burgagekeep_Tape_Next L cl_L a 12 (by first|omega|assumption|(simp; omega)|decide|(simp; done)) (by first|omega|assumption|(simp; omega)|decide|(simp; done))) rfl (dist_of rfl) rfl rfl rfl rfl ?_)
 have h12 := tNext_lt L a (n := 12) (by decide)
 have hfl : fnsL.length = 12 := rfl
 refine qo hnt rfl (s_iaR0 (q := Int.toNat (tNext L a 12)) (f := encI) (l := fnsL) tab_22 rfl tab_3 rfl rfl (by omega) rfl rfl (by omega) ?_)
 obtain ⟨e1,he1⟩ := get_of_lt fnsL (i := Int.toNat (tNext L a 12)) (by omega)
 refine qo hnt rfl (s_ldM (b := e1) (f := encI) tab_3 rfl rfl rfl rfl he1 rfl ?_)
 refine qo hnt rfl (s_build tab_27 rfl rfl (b_cons rfl tab_3 rfl rfl rfl (Nat.le_of_ble_eq_true rfl) (b_nil ?_)))
 refine qo hnt rfl (s_alloc tab_27 ?_)
 refine qo hnt rfl (s_store_ptr tab_27 rfl rfl rfl rfl rfl (Nat.le_of_ble_eq_true rfl) ?_)
 refine r_set [(0,PV.ptr 0 0),(2,PV.ptr 1 0),(3,PV.ptr 3 0)] [(3,.obj [pI e1,pI 0,pI 0,pI 0,pI 0,pNil,pNil,p16 0,p16 0]),(0,.obj [pS 1 false encI L,pN (tStep L a 12)]),(2,oB true 1 encI fnsL),(1,.obj [pI 0,pI 0,pI 0,pI 0,pI 0,pNil,pNil,p16 0,p16 0])] 4 ⟨rfl,rfl,rfl,trivial⟩ rfl rfl ?_
 refine r_end ?_
 refine q_then ?_
 refine w_seq ?_
 have hfn := fns_has he1
 have h70 := tNext_lt L (tStep L a 12) (n := 70) (by decide)
 refine w_R ?_
 refine qm hnt rfl rfl ?_
 refine qo hnt rfl (s_callX (r2 := pI (tNext L (tStep L a 12) 70)) (nx1 := 4) (H2 := [(3,.obj [pI e1,pI 0,pI 0,pI 0,pI 0,pNil,pNil,p16 0,p16 0]),(0,.obj [pS 1 false encI L,pN (tStep L a 12)]),(2,oB true 1 encI fnsL),(1,.obj [pI 0,pI 0,pI 0,pI 0,pI 0,pNil,pNil,p16 0,p16 0])]) (H3 := [(0,.obj [pS 1 false encI L,pN (tStep L (tStep L a 12) 70)]),(3,.obj [pI e1,pI 0,pI 0,pI 0,pI 0,pNil,pNil,p16 0,p16 0]),(2,oB true 1 encI fnsL),(1,.obj [pI 0,pI 0,pI 0,pI 0,pI 0,pNil,pNil,p16 0,p16 0])]) [0] [.obj [pS 1 false encI L,pN (tStep L a 12)]] rfl rfl rfl (handed_of (by decide) ⟨rfl,trivial⟩) rfl rfl rfl rfl rfl rfl (w_burgagekeep_Tape_Next L false (tStep L a 12) 70 (by first|omega|assumption|(simp; omega)|decide|(simp; done)) (by first|omega|assumption|(simp; omega)|decide|(simp; done))) rfl (dist_of rfl) rfl rfl rfl rfl ?_)
 refine qa hnt rfl rfl ?_
 refine r_set [(0,PV.ptr 0 0),(2,PV.ptr 1 0),(3,PV.ptr 3 0),(4,pI (tNext L (tStep L a 12) 70))] [(0,.obj [pS 1 false encI L,pN (tStep L (tStep L a 12) 70)]),(3,.obj [pI e1,pI 0,pI 0,pI 0,pI 0,pNil,pNil,p16 0,p16 0]),(2,oB true 1 encI fnsL),(1,.obj [pI 0,pI 0,pI 0,pI 0,pI 0,pNil,pNil,p16 0,p16 0])] 4 ⟨rfl,rfl,rfl,rfl,trivial⟩ rfl rfl ?_
 refine r_end ?_
 refine q_then ?_
 refine w_seq ?_
 refine w_seq ?_
 refine w_R ?_
 refine qo hnt rfl (s_fa_ptr tab_27 rfl rfl tab_3 (by decide) rfl ?_)
 refine qo hnt rfl (s_load_ptr1 tab_3 rfl rfl rfl rfl rfl ?_)
 refine r_end ?_
 refine q_then ?_
 refine w_block ?_
 refine w_seq ?_
 refine w_seq ?_
 refine w_R ?_
 refine qo hnt rfl (s_eql rfl rfl ?_)
 refine qa hnt rfl rfl ?_
 refine r_end ?_
 refine q_then ?_
 refine w_if rfl (fun c1 => ?_) (fun c1 => ?_)
 ·
  have c1_ := c1
  try simp only [sB] at c1
  refine w_skip ?_
  refine q_then ?_
  refine w_if rfl (fun _ => ?_) (fun e => absurd (e.symm.trans c1_) (by decide))
  have h26 := tNext_lt L (tStep L (tStep L a 12) 70) (n := 26) (by decide)
  refine w_R ?_
  refine qm hnt rfl rfl ?_
  refine qm hnt rfl rfl ?_
  refine qo hnt rfl (s_callX (r2 := pI (tNext L (tStep L (tStep L a 12) 70) 26)) (nx1 := 4) (H2 := [(0,.obj [pS 1 false encI L,pN (tStep L (tStep L a 12) 70)]),(3,.obj [pI e1,pI 0,pI 0,pI 0,pI 0,pNil,pNil,p16 0,p16 0]),(2,oB true 1 encI fnsL),(1,.obj [pI 0,pI 0,pI 0,pI 0,pI 0,pNil,pNil,p16 0,p16 0])]) (H3 := [(0,.obj [pS 1 false encI L,pN (tStep L (tStep L (tStep L a 12) 70) 26)]),(3,.obj [pI e1,pI 0,pI 0,pI 0,pI 0,pNil,pNil,p16 0,p16 0]),(2,oB true 1 encI fnsL),(1,.obj [pI 0,pI 0,pI 0,pI 0,pI 0,pNil,pNil,p16 0,p16 0])]) [0] [.obj [pS 1 false encI L,pN (tStep L (tStep L a 12) 70)]] rfl rfl rfl (handed_of (by decide) ⟨rfl,trivial⟩) rfl rfl rfl rfl rfl rfl (w_burgagekeep_Tape_Next L false (tStep L (tStep L a 12) 70) 26 (by first|omega|assumption|(simp; omega)|decide|(simp; done)) (by first|omega|assumption|(simp; omega)|decide|(simp; done))) rfl (dist_of rfl) rfl rfl rfl rfl ?_)
  refine qo hnt rfl (s_fa_ptr tab_27 rfl rfl tab_3 (by decide) rfl ?_)
  refine qo hnt rfl (s_store_ptr tab_3 rfl rfl rfl rfl rfl (Nat.le_of_ble_eq_true rfl) ?_)
  refine qo hnt rfl (s_fa_ptr tab_27 rfl rfl tab_3 (by decide) rfl ?_)
  refine qo hnt rfl (s_store_ptr tab_3 rfl rfl rfl rfl rfl (Nat.le_of_ble_eq_true rfl) ?_)
  refine r_set [(2,PV.ptr 1 0),(3,PV.ptr 3 0)] [(3,.obj [pI e1,pI (tNext L (tStep L a 12) 70),pI (tNext L (tStep L (tStep L a 12) 70) 26),pI 0,pI 0,pNil,pNil,p16 0,p16 0]),(0,.obj [pS 1 false encI L,pN (tStep L (tStep L (tStep L a 12) 70) 26)]),(2,oB true 1 encI fnsL),(1,.obj [pI 0,pI 0,pI 0,pI 0,pI 0,pNil,pNil,p16 0,p16 0])] 4 ⟨rfl,rfl,trivial⟩ rfl rfl ?_
  refine r_end ?_
  refine q_block ?_
  refine q_then ?_
  refine w_seq ?_
  refine w_R ?_
  refine qo hnt rfl (s_load_ptr tab_27 rfl rfl rfl (Nat.le_of_ble_eq_true rfl) ?_)
  refine qo hnt rfl (s_store_ptr tab_27 rfl rfl rfl rfl rfl (Nat.le_of_ble_eq_true rfl) ?_)
  refine r_set [(2,PV.ptr 1 0)] [(1,.obj [pI e1,pI (tNext L (tStep L a 12) 70),pI (tNext L (tStep L (tStep L a 12) 70) 26),pI 0,pI 0,pNil,pNil,p16 0,p16 0]),(3,.obj [pI e1,pI (tNext L (tStep L a 12) 70),pI (tNext L (tStep L (tStep L a 12) 70) 26),pI 0,pI 0,pNil,pNil,p16 0,p16 0]),(0,.obj [pS 1 false encI L,pN (tStep L (tStep L (tStep L a 12) 70) 26)]),(2,oB true 1 encI fnsL)] 4 ⟨rfl,trivial⟩ rfl rfl ?_
  refine r_end ?_
  refine q_then ?_
  refine w_leO (n := 1) (ds := [pI e1,pI (tNext L (tStep L a 12) 70),pI (tNext L (tStep L (tStep L a 12) 70) 26),pI 0,pI 0,pS 1 false encBo [],pS 1 false enc16 [],p16 0,p16 0]) rfl ⟨le_refl _,le_refl _,le_refl _,le_refl _,le_refl _,le_nilS 1 false,le_nilS 1 false,le_refl _,le_refl _,trivial⟩ ?_
  refine w_ret ?_
  have hex : rightR (⟨e1,tNext L (tStep L a 12) 70,tNext L (tStep L (tStep L a 12) 70) 26,0,0,[],[],0,0⟩ : TRequest) = 0 ∧ (⟨e1,tNext L (tStep L a 12) 70,tNext L (tStep L (tStep L a 12) 70) 26,0,0,[],[],0,0⟩ : TRequest).bits.length ≤ 25 ∧ (⟨e1,tNext L (tStep L a 12) 70,tNext L (tStep L (tStep L a 12) 70) 26,0,0,[],[],0,0⟩ : TRequest).vals.length ≤ 25 ∧ 0 ≤ (⟨e1,tNext L (tStep L a 12) 70,tNext L (tStep L (tStep L a 12) 70) 26,0,0,[],[],0,0⟩ : TRequest).count ∧ (⟨e1,tNext L (tStep L a 12) 70,tNext L (tStep L (tStep L a 12) 70) 26,0,0,[],[],0,0⟩ : TRequest).count ≤ 25 := by
    refine ⟨(shapeR_iff (q := _) hfn).2 ?_,by simp; try omega,by simp; try omega,by simp; try omega,by simp; try omega⟩
    constructor
    case bits => simp only; first|rfl|(rw [if_neg (by omega),if_neg (by omega)]; rfl)|(rw [if_pos (by omega)]; rfl)|(rw [if_neg (by omega),if_pos (by omega)]; exact ⟨by omega,by omega⟩)
    case vals => simp only; first|rfl|(rw [if_neg (by omega),if_neg (by omega),if_neg (by omega)]; rfl)|(rw [if_pos (by omega)]; rfl)|(rw [if_neg (by omega),if_pos (by omega)]; exact ⟨by omega,by omega⟩)|(rw [if_neg (by omega),if_neg (by omega),if_pos (by omega)]; omega)
    all_goals first|(intro _; rfl)|(intro _; exact ⟨rfl,rfl⟩)|(simp only; omega)|(intro h; simp at h)|(intro h; exact absurd rfl h)|(simp; omega)
  exact fin_names (nx1 := 1) (H1 := [(0,.obj [pS 1 false encI L,pN (tStep L (tStep L (tStep L a 12) 70) 26)])]) [(0,0)] (ret_cell tab_27 (by decide) rfl rfl (Nat.le_of_ble_eq_true rfl) rfl ret_nil) rfl (by decide) ⟨⟨_,_,rfl,rfl,rfl,rfl⟩,trivial⟩ (by decide) rfl ⟨((⟨e1,tNext L (tStep L a 12) 70,tNext L (tStep L (tStep L a 12) 70) 26,0,0,[],[],0,0⟩ : TRequest)),(tStep L (tStep L (tStep L a 12) 70) 26),hex,rfl,rfl,rfl⟩
 ·
  have c1_ := c1
  try simp only [sB] at c1
  refine w_seq ?_
  refine w_R ?_
  refine qo hnt rfl (s_eql rfl rfl ?_)
  refine qa hnt rfl rfl ?_
  refine r_end ?_
  refine q_then ?_
  refine w_if rfl (fun c2 => ?_) (fun c2 => ?_)
  ·
   have c2_ := c2
   try simp only [sB] at c2
   refine w_skip ?_
   refine q_then ?_
   refine w_if rfl (fun _ => ?_) (fun e => absurd (e.symm.trans c2_) (by decide))
   have h26 := tNext_lt L (tStep L (tStep L a 12) 70) (n := 26) (by decide)
   refine w_R ?_
   refine qm hnt rfl rfl ?_
   refine qm hnt rfl rfl ?_
   refine qo hnt rfl (s_callX (r2 := pI (tNext L (tStep L (tStep L a 12) 70) 26)) (nx1 := 4) (H2 := [(0,.obj [pS 1 false encI L,pN (tStep L (tStep L a 12) 70)]),(3,.obj [pI e1,pI 0,pI 0,pI 0,pI 0,pNil,pNil,p16 0,p16 0]),(2,oB true 1 encI fnsL),(1,.obj [pI 0,pI 0,pI 0,pI 0,pI 0,pNil,pNil,p16 0,p16 0])]) (H3 := [(0,.obj [pS 1 false encI L,pN (tStep L (tStep L (tStep L a 12) 70) 26)]),(3,.obj [pI e1,pI 0,pI 0,pI 0,pI 0,pNil,pNil,p16 0,p16 0]),(2,oB true 1 encI fnsL),(1,.obj [pI 0,pI 0,pI 0,pI 0,pI 0,pNil,pNil,p16 0,p16 0])]) [0] [.obj [pS 1 false encI L,pN (tStep L (tStep L a 12) 70)]] rfl rfl rfl (handed_of (by decide) ⟨rfl,trivial⟩) rfl rfl rfl rfl rfl rfl (w_burgagekeep_Tape_Next L false (tStep L (tStep L a 12) 70) 26 (by first|omega|assumption|(simp; omega)|decide|(simp; done)) (by first|omega|assumption|(simp; omega)|decide|(simp; done))) rfl (dist_of rfl) rfl rfl rfl rfl ?_)
   refine qo hnt rfl (s_fa_ptr tab_27 rfl rfl tab_3 (by decide) rfl ?_)
   refine qo hnt rfl (s_store_ptr tab_3 rfl rfl rfl rfl rfl (Nat.le_of_ble_eq_true rfl) ?_)
   refine qo hnt rfl (s_fa_ptr tab_27 rfl rfl tab_3 (by decide) rfl ?_)
   refine qo hnt rfl (s_store_ptr tab_3 rfl rfl rfl rfl rfl (Nat.le_of_ble_eq_true rfl) ?_)
   refine r_set [(2,PV.ptr 1 0),(3,PV.ptr 3 0)] [(3,.obj [pI e1,pI (tNext L (tStep L a 12) 70),pI (tNext L (tStep L (tStep L a 12) 70) 26),pI 0,pI 0,pNil,pNil,p16 0,p16 0]),(0,.obj [pS 1 false encI L,pN (tStep L (tStep L (tStep L a 12) 70) 26)]),(2,oB true 1 encI fnsL),(1,.obj [pI 0,pI 0,pI 0,pI 0,pI 0,pNil,pNil,p16 0,p16 0])] 4 ⟨rfl,rfl,trivial⟩ rfl rfl ?_
   refine r_end ?_
   refine q_block ?_
   refine q_then ?_
   refine w_seq ?_
   refine w_R ?_
   refine qo hnt rfl (s_load_ptr tab_27 rfl rfl rfl (Nat.le_of_ble_eq_true rfl) ?_)
   refine qo hnt rfl (s_store_ptr tab_27 rfl rfl rfl rfl rfl (Nat.le_of_ble_eq_true rfl) ?_)
   refine r_set [(2,PV.ptr 1 0)] [(1,.obj [pI e1,pI (tNext L (tStep L a 12) 70),pI (tNext L (tStep L (tStep L a 12) 70) 26),pI 0,pI 0,pNil,pNil,p16 0,p16 0]),(3,.obj [pI e1,pI (tNext L (tStep L a 12) 70),pI (tNext L (tStep L (tStep L a 12) 70) 26),pI 0,pI 0,pNil,pNil,p16 0,p16 0]),(0,.obj [pS 1 false encI L,pN (tStep L (tStep L (tStep L a 12) 70) 26)]),(2,oB true 1 encI fnsL)] 4 ⟨rfl,trivial⟩ rfl rfl ?_
   refine r_end ?_
   refine q_then ?_
   refine w_leO (n := 1) (ds := [pI e1,pI (tNext L (tStep L a 12) 70),pI (tNext L (tStep L (tStep L a 12) 70) 26),pI 0,pI 0,pS 1 false encBo [],pS 1 false enc16 [],p16 0,p16 0]) rfl ⟨le_refl _,le_refl _,le_refl _,le_refl _,le_refl _,le_nilS 1 false,le_nilS 1 false,le_refl _,le_refl _,trivial⟩ ?_
   refine w_ret ?_
   have hex : rightR (⟨e1,tNext L (tStep L a 12) 70,tNext L (tStep L (tStep L a 12) 70) 26,0,0,[],[],0,0⟩ : TRequest) = 0 ∧ (⟨e1,tNext L (tStep L a 12) 70,tNext L (tStep L (tStep L a 12) 70) 26,0,0,[],[],0,0⟩ : TRequest).bits.length ≤ 25 ∧ (⟨e1,tNext L (tStep L a 12) 70,tNext L (tStep L (tStep L a 12) 70) 26,0,0,[],[],0,0⟩ : TRequest).vals.length ≤ 25 ∧ 0 ≤ (⟨e1,tNext L (tStep L a 12) 70,tNext L (tStep L (tStep L a 12) 70) 26,0,0,[],[],0,0⟩ : TRequest).count ∧ (⟨e1,tNext L (tStep L a 12) 70,tNext L (tStep L (tStep L a 12) 70) 26,0,0,[],[],0,0⟩ : TRequest).count ≤ 25 := by
     refine ⟨(shapeR_iff (q := _) hfn).2 ?_,by simp; try omega,by simp; try omega,by simp; try omega,by simp; try omega⟩
     constructor
     case bits => simp only; first|rfl|(rw [if_neg (by omega),if_neg (by omega)]; rfl)|(rw [if_pos (by omega)]; rfl)|(rw [if_neg (by omega),if_pos (by omega)]; exact ⟨by omega,by omega⟩)
     case vals => simp only; first|rfl|(rw [if_neg (by omega),if_neg (by omega),if_neg (by omega)]; rfl)|(rw [if_pos (by omega)]; rfl)|(rw [if_neg (by omega),if_pos (by omega)]; exact ⟨by omega,by omega⟩)|(rw [if_neg (by omega),if_neg (by omega),if_pos (by omega)]; omega)
     all_goals first|(intro _; rfl)|(intro _; exact ⟨rfl,rfl⟩)|(simp only; omega)|(intro h; simp at h)|(intro h; exact absurd rfl h)|(simp; omega)
   exact fin_names (nx1 := 1) (H1 := [(0,.obj [pS 1 false encI L,pN (tStep L (tStep L (tStep L a 12) 70) 26)])]) [(0,0)] (ret_cell tab_27 (by decide) rfl rfl (Nat.le_of_ble_eq_true rfl) rfl ret_nil) rfl (by decide) ⟨⟨_,_,rfl,rfl,rfl,rfl⟩,trivial⟩ (by decide) rfl ⟨((⟨e1,tNext L (tStep L a 12) 70,tNext L (tStep L (tStep L a 12) 70) 26,0,0,[],[],0,0⟩ : TRequest)),(tStep L (tStep L (tStep L a 12) 70) 26),hex,rfl,rfl,rfl⟩
  ·
   have c2_ := c2
   try simp only [sB] at c2
   refine w_seq ?_
   refine w_R ?_
   refine qo hnt rfl (s_eql rfl rfl ?_)
   refine qa hnt rfl rfl ?_
   refine r_end ?_
   refine q_then ?_
   refine w_if rfl (fun c3 => ?_) (fun c3 => ?_)
   ·
    have c3_ := c3
    try simp only [sB] at c3
    refine w_skip ?_
    refine q_then ?_
    refine w_if rfl (fun _ => ?_) (fun e => absurd (e.symm.trans c3_) (by decide))
    have h26 := tNext_lt L (tStep L (tStep L a 12) 70) (n := 26) (by decide)
    refine w_R ?_
    refine qm hnt rfl rfl ?_
    refine qm hnt rfl rfl ?_
    refine qo hnt rfl (s_callX (r2 := pI (tNext L (tStep L (tStep L a 12) 70) 26)) (nx1 := 4) (H2 := [(0,.obj [pS 1 false encI L,pN (tStep L (tStep L a 12) 70)]),(3,.obj [pI e1,pI 0,pI 0,pI 0,pI 0,pNil,pNil,p16 0,p16 0]),(2,oB true 1 encI fnsL),(1,.obj [pI 0,pI 0,pI 0,pI 0,pI 0,pNil,pNil,p16 0,p16 0])]) (H3 := [(0,.obj [pS 1 false encI L,pN (tStep L (tStep L (tStep L a 12) 70) 26)]),(3,.obj [pI e1,pI 0,pI 0,pI 0,pI 0,pNil,pNil,p16 0,p16 0]),(2,oB true 1 encI fnsL),(1,.obj [pI 0,pI 0,pI 0,pI 0,pI 0,pNil,pNil,p16 0,p16 0])]) [0] [.obj [pS 1 false encI L,pN (tStep L (tStep L a 12) 70)]] rfl rfl rfl (handed_of (by decide) ⟨rfl,trivial⟩) rfl rfl rfl rfl rfl rfl (w_burgagekeep_Tape_Next L false (tStep L (tStep L a 12) 70) 26 (by first|omega|assumption|(simp; omega)|decide|(simp; done)) (by first|omega|assumption|(simp; omega)|decide|(simp; done))) rfl (dist_of rfl) rfl rfl rfl rfl ?_)
    refine qo hnt rfl (s_fa_ptr tab_27 rfl rfl tab_3 (by decide) rfl ?_)
    refine qo hnt rfl (s_store_ptr tab_3 rfl rfl rfl rfl rfl (Nat.le_of_ble_eq_true rfl) ?_)
    refine qo hnt rfl (s_fa_ptr tab_27 rfl rfl tab_3 (by decide) rfl ?_)
    refine qo hnt rfl (s_store_ptr tab_3 rfl rfl rfl rfl rfl (Nat.le_of_ble_eq_true rfl) ?_)
    refine r_set [(2,PV.ptr 1 0),(3,PV.ptr 3 0)] [(3,.obj [pI e1,pI (tNext L (tStep L a 12) 70),pI (tNext L (tStep L (tStep L a 12) 70) 26),pI 0,pI 0,pNil,pNil,p16 0,p16 0]),(0,.obj [pS 1 false encI L,pN (tStep L (tStep L (tStep L a 12) 70) 26)]),(2,oB true 1 encI fnsL),(1,.obj [pI 0,pI 0,pI 0,pI 0,pI 0,pNil,pNil,p16 0,p16 0])] 4 ⟨rfl,rfl,trivial⟩ rfl rfl ?_
    refine r_end ?_
    refine q_block ?_
    refine q_then ?_
    refine w_seq ?_
    refine w_R ?_
    refine qo hnt rfl (s_load_ptr tab_27 rfl rfl rfl (Nat.le_of_ble_eq_true rfl) ?_)
    refine qo hnt rfl (s_store_ptr tab_27 rfl rfl rfl rfl rfl (Nat.le_of_ble_eq_true rfl) ?_)
    refine r_set [(2,PV.ptr 1 0)] [(1,.obj [pI e1,pI (tNext L (tStep L a 12) 70),pI (tNext L (tStep L (tStep L a 12) 70) 26),pI 0,pI 0,pNil,pNil,p16 0,p16 0]),(3,.obj [pI e1,pI (tNext L (tStep L a 12) 70),pI (tNext L (tStep L (tStep L a 12) 70) 26),pI 0,pI 0,pNil,pNil,p16 0,p16 0]),(0,.obj [pS 1 false encI L,pN (tStep L (tStep L (tStep L a 12) 70) 26)]),(2,oB true 1 encI fnsL)] 4 ⟨rfl,trivial⟩ rfl rfl ?_
    refine r_end ?_
    refine q_then ?_
    refine w_leO (n := 1) (ds := [pI e1,pI (tNext L (tStep L a 12) 70),pI (tNext L (tStep L (tStep L a 12) 70) 26),pI 0,pI 0,pS 1 false encBo [],pS 1 false enc16 [],p16 0,p16 0]) rfl ⟨le_refl _,le_refl _,le_refl _,le_refl _,le_refl _,le_nilS 1 false,le_nilS 1 false,le_refl _,le_refl _,trivial⟩ ?_
    refine w_ret ?_
    have hex : rightR (⟨e1,tNext L (tStep L a 12) 70,tNext L (tStep L (tStep L a 12) 70) 26,0,0,[],[],0,0⟩ : TRequest) = 0 ∧ (⟨e1,tNext L (tStep L a 12) 70,tNext L (tStep L (tStep L a 12) 70) 26,0,0,[],[],0,0⟩ : TRequest).bits.length ≤ 25 ∧ (⟨e1,tNext L (tStep L a 12) 70,tNext L (tStep L (tStep L a 12) 70) 26,0,0,[],[],0,0⟩ : TRequest).vals.length ≤ 25 ∧ 0 ≤ (⟨e1,tNext L (tStep L a 12) 70,tNext L (tStep L (tStep L a 12) 70) 26,0,0,[],[],0,0⟩ : TRequest).count ∧ (⟨e1,tNext L (tStep L a 12) 70,tNext L (tStep L (tStep L a 12) 70) 26,0,0,[],[],0,0⟩ : TRequest).count ≤ 25 := by
      refine ⟨(shapeR_iff (q := _) hfn).2 ?_,by simp; try omega,by simp; try omega,by simp; try omega,by simp; try omega⟩
      constructor
      case bits => simp only; first|rfl|(rw [if_neg (by omega),if_neg (by omega)]; rfl)|(rw [if_pos (by omega)]; rfl)|(rw [if_neg (by omega),if_pos (by omega)]; exact ⟨by omega,by omega⟩)
      case vals => simp only; first|rfl|(rw [if_neg (by omega),if_neg (by omega),if_neg (by omega)]; rfl)|(rw [if_pos (by omega)]; rfl)|(rw [if_neg (by omega),if_pos (by omega)]; exact ⟨by omega,by omega⟩)|(rw [if_neg (by omega),if_neg (by omega),if_pos (by omega)]; omega)
      all_goals first|(intro _; rfl)|(intro _; exact ⟨rfl,rfl⟩)|(simp only; omega)|(intro h; simp at h)|(intro h; exact absurd rfl h)|(simp; omega)
    exact fin_names (nx1 := 1) (H1 := [(0,.obj [pS 1 false encI L,pN (tStep L (tStep L (tStep L a 12) 70) 26)])]) [(0,0)] (ret_cell tab_27 (by decide) rfl rfl (Nat.le_of_ble_eq_true rfl) rfl ret_nil) rfl (by decide) ⟨⟨_,_,rfl,rfl,rfl,rfl⟩,trivial⟩ (by decide) rfl ⟨((⟨e1,tNext L (tStep L a 12) 70,tNext L (tStep L (tStep L a 12) 70) 26,0,0,[],[],0,0⟩ : TRequest)),(tStep L (tStep L (tStep L a 12) 70) 26),hex,rfl,rfl,rfl⟩
   ·
    have c3_ := c3
    try simp only [sB] at c3
    refine w_R ?_
    refine qo hnt rfl (s_eql rfl rfl ?_)
    refine qa hnt rfl rfl ?_
    refine r_end ?_
    refine q_then ?_
    refine w_if rfl (fun c4 => ?_) (fun c4 => ?_)
    ·
     have c4_ := c4
     try simp only [sB] at c4
     have h26 := tNext_lt L (tStep L (tStep L a 12) 70) (n := 26) (by decide)
     refine w_R ?_
     refine qm hnt rfl rfl ?_
     refine qm hnt rfl rfl ?_
     refine qo hnt rfl (s_callX (r2 := pI (tNext L (tStep L (tStep L a 12) 70) 26)) (nx1 := 4) (H2 := [(0,.obj [pS 1 false encI L,pN (tStep L (tStep L a 12) 70)]),(3,.obj [pI e1,pI 0,pI 0,pI 0,pI 0,pNil,pNil,p16 0,p16 0]),(2,oB true 1 encI fnsL),(1,.obj [pI 0,pI 0,pI 0,pI 0,pI 0,pNil,pNil,p16 0,p16 0])]) (H3 := [(0,.obj [pS 1 false encI L,pN (tStep L (tStep L (tStep L a 12) 70) 26)]),(3,.obj [pI e1,pI 0,pI 0,pI 0,pI 0,pNil,pNil,p16 0,p16 0]),(2,oB true 1 encI fnsL),(1,.obj [pI 0,pI 0,pI 0,pI 0,pI 0,pNil,pNil,p16 0,p16 0])]) [0] [.obj [pS 1 false encI L,pN (tStep L (tStep L a 12) 70)]] rfl rfl rfl (handed_of (by decide) ⟨rfl,trivial⟩) rfl rfl rfl rfl rfl rfl (w_burgagekeep_Tape_Next L false (tStep L (tStep L a 12) 70) 26 (by first|omega|assumption|(simp; omega)|decide|(simp; done)) (by first|omega|assumption|(simp; omega)|decide|(simp; done))) rfl (dist_of rfl) rfl rfl rfl rfl ?_)
     refine qo hnt rfl (s_fa_ptr tab_27 rfl rfl tab_3 (by decide) rfl ?_)
     refine qo hnt rfl (s_store_ptr tab_3 rfl rfl rfl rfl rfl (Nat.le_of_ble_eq_true rfl) ?_)
     refine qo hnt rfl (s_fa_ptr tab_27 rfl rfl tab_3 (by decide) rfl ?_)
     refine qo hnt rfl (s_store_ptr tab_3 rfl rfl rfl rfl rfl (Nat.le_of_ble_eq_true rfl) ?_)
     refine r_set [(2,PV.ptr 1 0),(3,PV.ptr 3 0)] [(3,.obj [pI e1,pI (tNext L (tStep L a 12) 70),pI (tNext L (tStep L (tStep L a 12) 70) 26),pI 0,pI 0,pNil,pNil,p16 0,p16 0]),(0,.obj [pS 1 false encI L,pN (tStep L (tStep L (tStep L a 12) 70) 26)]),(2,oB true 1 encI fnsL),(1,.obj [pI 0,pI 0,pI 0,pI 0,pI 0,pNil,pNil,p16 0,p16 0])] 4 ⟨rfl,rfl,trivial⟩ rfl rfl ?_
     refine r_end ?_
     refine q_block ?_
     refine q_then ?_
     refine w_seq ?_
     refine w_R ?_
     refine qo hnt rfl (s_load_ptr tab_27 rfl rfl rfl (Nat.le_of_ble_eq_true rfl) ?_)
     refine qo hnt rfl (s_store_ptr tab_27 rfl rfl rfl rfl rfl (Nat.le_of_ble_eq_true rfl) ?_)
     refine r_set [(2,PV.ptr 1 0)] [(1,.obj [pI e1,pI (tNext L (tStep L a 12) 70),pI (tNext L (tStep L (tStep L a 12) 70) 26),pI 0,pI 0,pNil,pNil,p16 0,p16 0]),(3,.obj [pI e1,pI (tNext L (tStep L a 12) 70),pI (tNext L (tStep L (tStep L a 12) 70) 26),pI 0,pI 0,pNil,pNil,p16 0,p16 0]),(0,.obj [pS 1 false encI L,pN (tStep L (tStep L (tStep L a 12) 70) 26)]),(2,oB true 1 encI fnsL)] 4 ⟨rfl,trivial⟩ rfl rfl ?_
     refine r_end ?_
     refine q_then ?_
     refine w_leO (n := 1) (ds := [pI e1,pI (tNext L (tStep L a 12) 70),pI (tNext L (tStep L (tStep L a 12) 70) 26),pI 0,pI 0,pS 1 false encBo [],pS 1 false enc16 [],p16 0,p16 0]) rfl ⟨le_refl _,le_refl _,le_refl _,le_refl _,le_refl _,le_nilS 1 false,le_nilS 1 false,le_refl _,le_refl _,trivial⟩ ?_
     refine w_ret ?_
     have hex : rightR (⟨e1,tNext L (tStep L a 12) 70,tNext L (tStep L (tStep L a 12) 70) 26,0,0,[],[],0,0⟩ : TRequest) = 0 ∧ (⟨e1,tNext L (tStep L a 12) 70,tNext L (tStep L (tStep L a 12) 70) 26,0,0,[],[],0,0⟩ : TRequest).bits.length ≤ 25 ∧ (⟨e1,tNext L (tStep L a 12) 70,tNext L (tStep L (tStep L a 12) 70) 26,0,0,[],[],0,0⟩ : TRequest).vals.length ≤ 25 ∧ 0 ≤ (⟨e1,tNext L (tStep L a 12) 70,tNext L (tStep L (tStep L a 12) 70) 26,0,0,[],[],0,0⟩ : TRequest).count ∧ (⟨e1,tNext L (tStep L a 12) 70,tNext L (tStep L (tStep L a 12) 70) 26,0,0,[],[],0,0⟩ : TRequest).count ≤ 25 := by
       refine ⟨(shapeR_iff (q := _) hfn).2 ?_,by simp; try omega,by simp; try omega,by simp; try omega,by simp; try omega⟩
       constructor
       case bits => simp only; first|rfl|(rw [if_neg (by omega),if_neg (by omega)]; rfl)|(rw [if_pos (by omega)]; rfl)|(rw [if_neg (by omega),if_pos (by omega)]; exact ⟨by omega,by omega⟩)
       case vals => simp only; first|rfl|(rw [if_neg (by omega),if_neg (by omega),if_neg (by omega)]; rfl)|(rw [if_pos (by omega)]; rfl)|(rw [if_neg (by omega),if_pos (by omega)]; exact ⟨by omega,by omega⟩)|(rw [if_neg (by omega),if_neg (by omega),if_pos (by omega)]; omega)
       all_goals first|(intro _; rfl)|(intro _; exact ⟨rfl,rfl⟩)|(simp only; omega)|(intro h; simp at h)|(intro h; exact absurd rfl h)|(simp; omega)
     exact fin_names (nx1 := 1) (H1 := [(0,.obj [pS 1 false encI L,pN (tStep L (tStep L (tStep L a 12) 70) 26)])]) [(0,0)] (ret_cell tab_27 (by decide) rfl rfl (Nat.le_of_ble_eq_true rfl) rfl ret_nil) rfl (by decide) ⟨⟨_,_,rfl,rfl,rfl,rfl⟩,trivial⟩ (by decide) rfl ⟨((⟨e1,tNext L (tStep L a 12) 70,tNext L (tStep L (tStep L a 12) 70) 26,0,0,[],[],0,0⟩ : TRequest)),(tStep L (tStep L (tStep L a 12) 70) 26),hex,rfl,rfl,rfl⟩
    ·
     have c4_ := c4
     try simp only [sB] at c4
     refine w_seq ?_
     refine w_R ?_
     refine qo hnt rfl (s_eql rfl rfl ?_)
     refine qa hnt rfl rfl ?_
     refine r_end ?_
     refine q_then ?_
     refine w_if rfl (fun c5 => ?_) (fun c5 => ?_)
     ·
      have c5_ := c5
      try simp only [sB] at c5
      refine w_R ?_
      refine qm hnt rfl rfl ?_
      refine qm hnt rfl rfl ?_
      refine qo hnt rfl (s_callX (r2 := pI (tNext L (tStep L (tStep L a 12) 70) 2)) (nx1 := 4) (H2 := [(0,.obj [pS 1 false encI L,pN (tStep L (tStep L a 12) 70)]),(3,.obj [pI e1,pI 0,pI 0,pI 0,pI 0,pNil,pNil,p16 0,p16 0]),(2,oB true 1 encI fnsL),(1,.obj [pI 0,pI 0,pI 0,pI 0,pI 0,pNil,pNil,p16 0,p16 0])]) (H3 := [(0,.obj [pS 1 false encI L,pN (tStep L (tStep L (tStep L a 12) 70) 2)]),(3,.obj [pI e1,pI 0,pI 0,pI 0,pI 0,pNil,pNil,p16 0,p16 0]),(2,oB true 1 encI fnsL),(1,.obj [pI 0,pI 0,pI 0,pI 0,pI 0,pNil,pNil,p16 0,p16 0])]) [0] [.obj [pS 1 false encI L,pN (tStep L (tStep L a 12) 70)]] rfl rfl rfl (handed_of (by decide) ⟨rfl,trivial⟩) rfl rfl rfl rfl rfl rfl (w_burgagekeep_Tape_Next L false (tStep L (tStep L a 12) 70) 2 (by first|omega|assumption|(simp; omega)|decide|(simp; done)) (by first|omega|assumption|(simp; omega)|decide|(simp; done))) rfl (dist_of rfl) rfl rfl rfl rfl ?_)
      refine qo hnt rfl (s_eql rfl rfl ?_)
      refine qo hnt rfl (s_mkM (f := encBo) [decide (tNext L (tStep L (tStep L a 12) 70) 2 = 1)] tab_23 rfl tab_4 ⟨rfl,by decide⟩ (by decide) rfl rfl rfl rfl ?_)
      refine qo hnt rfl (s_fa_ptr tab_27 rfl rfl tab_3 (by decide) rfl ?_)
      refine qo hnt rfl (s_store_ptr tab_3 rfl rfl rfl rfl rfl (Nat.le_of_ble_eq_true rfl) ?_)
      refine qo hnt rfl (s_fa_ptr tab_27 rfl rfl tab_23 (by decide) rfl ?_)
      refine qo hnt rfl (s_store_ptr tab_23 rfl rfl rfl rfl rfl (Nat.le_of_ble_eq_true rfl) ?_)
      refine r_set [(2,PV.ptr 1 0),(3,PV.ptr 3 0)] [(3,.obj [pI e1,pI (tNext L (tStep L a 12) 70),pI 0,pI 0,pI 0,PV.ref 4 0 none,pNil,p16 0,p16 0]),(4,oB true 1 encBo [decide (tNext L (tStep L (tStep L a 12) 70) 2 = 1)]),(0,.obj [pS 1 false encI L,pN (tStep L (tStep L (tStep L a 12) 70) 2)]),(2,oB true 1 encI fnsL),(1,.obj [pI 0,pI 0,pI 0,pI 0,pI 0,pNil,pNil,p16 0,p16 0])] 5 ⟨rfl,rfl,trivial⟩ rfl rfl ?_
      refine r_end ?_
      refine q_block ?_
      refine q_then ?_
      refine w_seq ?_
      refine w_R ?_
      refine qo hnt rfl (s_load_ptr tab_27 rfl rfl rfl (Nat.le_of_ble_eq_true rfl) ?_)
      refine qo hnt rfl (s_store_ptr tab_27 rfl rfl rfl rfl rfl (Nat.le_of_ble_eq_true rfl) ?_)
      refine r_set [(2,PV.ptr 1 0)] [(1,.obj [pI e1,pI (tNext L (tStep L a 12) 70),pI 0,pI 0,pI 0,PV.ref 4 0 none,pNil,p16 0,p16 0]),(3,.obj [pI e1,pI (tNext L (tStep L a 12) 70),pI 0,pI 0,pI 0,PV.ref 4 0 none,pNil,p16 0,p16 0]),(4,oB true 1 encBo [decide (tNext L (tStep L (tStep L a 12) 70) 2 = 1)]),(0,.obj [pS 1 false encI L,pN (tStep L (tStep L (tStep L a 12) 70) 2)]),(2,oB true 1 encI fnsL)] 5 ⟨rfl,trivial⟩ rfl rfl ?_
      refine r_end ?_
      refine q_then ?_
      refine w_frzC (n := 1) (j := 5) rfl rfl rfl rfl ?_
      refine w_leO (n := 1) (ds := [pI e1,pI (tNext L (tStep L a 12) 70),pI 0,pI 0,pI 0,pS 1 false encBo [decide (tNext L (tStep L (tStep L a 12) 70) 2 = 1)],pS 1 false enc16 [],p16 0,p16 0]) rfl ⟨le_refl _,le_refl _,le_refl _,le_refl _,le_refl _,le_refl _,le_nilS 1 false,le_refl _,le_refl _,trivial⟩ ?_
      refine w_ret ?_
      have hex : rightR (⟨e1,tNext L (tStep L a 12) 70,0,0,0,[decide (tNext L (tStep L (tStep L a 12) 70) 2 = 1)],[],0,0⟩ : TRequest) = 0 ∧ (⟨e1,tNext L (tStep L a 12) 70,0,0,0,[decide (tNext L (tStep L (tStep L a 12) 70) 2 = 1)],[],0,0⟩ : TRequest).bits.length ≤ 25 ∧ (⟨e1,tNext L (tStep L a 12) 70,0,0,0,[decide (tNext L (tStep L (tStep L a 12) 70) 2 = 1)],[],0,0⟩ : TRequest).vals.length ≤ 25 ∧ 0 ≤ (⟨e1,tNext L (tStep L a 12) 70,0,0,0,[decide (tNext L (tStep L (tStep L a 12) 70) 2 = 1)],[],0,0⟩ : TRequest).count ∧ (⟨e1,tNext L (tStep L a 12) 70,0,0,0,[decide (tNext L (tStep L (tStep L a 12) 70) 2 = 1)],[],0,0⟩ : TRequest).count ≤ 25 := by
        refine ⟨(shapeR_iff (q := _) hfn).2 ?_,by simp; try omega,by simp; try omega,by simp; try omega,by simp; try omega⟩
        constructor
        case bits => simp only; first|rfl|(rw [if_neg (by omega),if_neg (by omega)]; rfl)|(rw [if_pos (by omega)]; rfl)|(rw [if_neg (by omega),if_pos (by omega)]; exact ⟨by omega,by omega⟩)
        case vals => simp only; first|rfl|(rw [if_neg (by omega),if_neg (by omega),if_neg (by omega)]; rfl)|(rw [if_pos (by omega)]; rfl)|(rw [if_neg (by omega),if_pos (by omega)]; exact ⟨by omega,by omega⟩)|(rw [if_neg (by omega),if_neg (by omega),if_pos (by omega)]; omega)
        all_goals first|(intro _; rfl)|(intro _; exact ⟨rfl,rfl⟩)|(simp only; omega)|(intro h; simp at h)|(intro h; exact absurd rfl h)|(simp; omega)
      exact fin_names (nx1 := 1) (H1 := [(0,.obj [pS 1 false encI L,pN (tStep L (tStep L (tStep L a 12) 70) 2)])]) [(0,0)] (ret_cell tab_27 (by decide) rfl rfl (Nat.le_of_ble_eq_true rfl) rfl ret_nil) rfl (by decide) ⟨⟨_,_,rfl,rfl,rfl,rfl⟩,trivial⟩ (by decide) rfl ⟨((⟨e1,tNext L (tStep L a 12) 70,0,0,0,[decide (tNext L (tStep L (tStep L a 12) 70) 2 = 1)],[],0,0⟩ : TRequest)),(tStep L (tStep L (tStep L a 12) 70) 2),hex,rfl,rfl,rfl⟩
     ·
      have c5_ := c5
      try simp only [sB] at c5
      refine w_seq ?_
      refine w_R ?_
      refine qo hnt rfl (s_eql rfl rfl ?_)
      refine qa hnt rfl rfl ?_
      refine r_end ?_
      refine q_then ?_
      refine w_if rfl (fun c6 => ?_) (fun c6 => ?_)
      ·
       have c6_ := c6
       try simp only [sB] at c6
       refine w_R ?_
       refine qm hnt rfl rfl ?_
       refine qm hnt rfl rfl ?_
       refine qo hnt rfl (s_callX (r2 := pI (tNext L (tStep L (tStep L a 12) 70) 65536)) (nx1 := 4) (H2 := [(0,.obj [pS 1 false encI L,pN (tStep L (tStep L a 12) 70)]),(3,.obj [pI e1,pI 0,pI 0,pI 0,pI 0,pNil,pNil,p16 0,p16 0]),(2,oB true 1 encI fnsL),(1,.obj [pI 0,pI 0,pI 0,pI 0,pI 0,pNil,pNil,p16 0,p16 0])]) (H3 := [(0,.obj [pS 1 false encI L,pN (tStep L (tStep L (tStep L a 12) 70) 65536)]),(3,.obj [pI e1,pI 0,pI 0,pI 0,pI 0,pNil,pNil,p16 0,p16 0]),(2,oB true 1 encI fnsL),(1,.obj [pI 0,pI 0,pI 0,pI 0,pI 0,pNil,pNil,p16 0,p16 0])]) [0] [.obj [pS 1 false encI L,pN (tStep L (tStep L a 12) 70)]] rfl rfl rfl (handed_of (by decide) ⟨rfl,trivial⟩) rfl rfl rfl rfl rfl rfl (w_burgagekeep_Tape_Next L false (tStep L (tStep L a 12) 70) 65536 (by first|omega|assumption|(simp; omega)|decide|(simp; done)) (by first|omega|assumption|(simp; omega)|decide|(simp; done))) rfl (dist_of rfl) rfl rfl rfl rfl ?_)
       refine qo hnt rfl (s_cv16 tab_3 tab_25 rfl rfl rfl ?_)
       refine qo hnt rfl (s_mkM (f := enc16) [u16I (tNext L (tStep L (tStep L a 12) 70) 65536)] tab_24 rfl tab_25 ⟨rfl,by decide⟩ (by decide) rfl rfl rfl rfl ?_)
       refine qo hnt rfl (s_fa_ptr tab_27 rfl rfl tab_3 (by decide) rfl ?_)
       refine qo hnt rfl (s_store_ptr tab_3 rfl rfl rfl rfl rfl (Nat.le_of_ble_eq_true rfl) ?_)
       refine qo hnt rfl (s_fa_ptr tab_27 rfl rfl tab_24 (by decide) rfl ?_)
       refine qo hnt rfl (s_store_ptr tab_24 rfl rfl rfl rfl rfl (Nat.le_of_ble_eq_true rfl) ?_)
       refine r_set [(2,PV.ptr 1 0),(3,PV.ptr 3 0)] [(3,.obj [pI e1,pI (tNext L (tStep L a 12) 70),pI 0,pI 0,pI 0,pNil,PV.ref 4 0 none,p16 0,p16 0]),(4,oB true 1 enc16 [u16I (tNext L (tStep L (tStep L a 12) 70) 65536)]),(0,.obj [pS 1 false encI L,pN (tStep L (tStep L (tStep L a 12) 70) 65536)]),(2,oB true 1 encI fnsL),(1,.obj [pI 0,pI 0,pI 0,pI 0,pI 0,pNil,pNil,p16 0,p16 0])] 5 ⟨rfl,rfl,trivial⟩ rfl rfl ?_
       refine r_end ?_
       refine q_block ?_
       refine q_then ?_
       refine w_seq ?_
       refine w_R ?_
       refine qo hnt rfl (s_load_ptr tab_27 rfl rfl rfl (Nat.le_of_ble_eq_true rfl) ?_)
       refine qo hnt rfl (s_store_ptr tab_27 rfl rfl rfl rfl rfl (Nat.le_of_ble_eq_true rfl) ?_)
       refine r_set [(2,PV.ptr 1 0)] [(1,.obj [pI e1,pI (tNext L (tStep L a 12) 70),pI 0,pI 0,pI 0,pNil,PV.ref 4 0 none,p16 0,p16 0]),(3,.obj [pI e1,pI (tNext L (tStep L a 12) 70),pI 0,pI 0,pI 0,pNil,PV.ref 4 0 none,p16 0,p16 0]),(4,oB true 1 enc16 [u16I (tNext L (tStep L (tStep L a 12) 70) 65536)]),(0,.obj [pS 1 false encI L,pN (tStep L (tStep L (tStep L a 12) 70) 65536)]),(2,oB true 1 encI fnsL)] 5 ⟨rfl,trivial⟩ rfl rfl ?_
       refine r_end ?_
       refine q_then ?_
       refine w_frzC (n := 1) (j := 6) rfl rfl rfl rfl ?_
       refine w_leO (n := 1) (ds := [pI e1,pI (tNext L (tStep L a 12) 70),pI 0,pI 0,pI 0,pS 1 false encBo [],pS 1 false enc16 [u16I (tNext L (tStep L (tStep L a 12) 70) 65536)],p16 0,p16 0]) rfl ⟨le_refl _,le_refl _,le_refl _,le_refl _,le_refl _,le_nilS 1 false,le_refl _,le_refl _,le_refl _,trivial⟩ ?_
       refine w_ret ?_
       have hex : rightR (⟨e1,tNext L (tStep L a 12) 70,0,0,0,[],[u16I (tNext L (tStep L (tStep L a 12) 70) 65536)],0,0⟩ : TRequest) = 0 ∧ (⟨e1,tNext L (tStep L a 12) 70,0,0,0,[],[u16I (tNext L (tStep L (tStep L a 12) 70) 65536)],0,0⟩ : TRequest).bits.length ≤ 25 ∧ (⟨e1,tNext L (tStep L a 12) 70,0,0,0,[],[u16I (tNext L (tStep L (tStep L a 12) 70) 65536)],0,0⟩ : TRequest).vals.length ≤ 25 ∧ 0 ≤ (⟨e1,tNext L (tStep L a 12) 70,0,0,0,[],[u16I (tNext L (tStep L (tStep L a 12) 70) 65536)],0,0⟩ : TRequest).count ∧ (⟨e1,tNext L (tStep L a 12) 70,0,0,0,[],[u16I (tNext L (tStep L (tStep L a 12) 70) 65536)],0,0⟩ : TRequest).count ≤ 25 := by
         refine ⟨(shapeR_iff (q := _) hfn).2 ?_,by simp; try omega,by simp; try omega,by simp; try omega,by simp; try omega⟩
         constructor
         case bits => simp only; first|rfl|(rw [if_neg (by omega),if_neg (by omega)]; rfl)|(rw [if_pos (by omega)]; rfl)|(rw [if_neg (by omega),if_pos (by omega)]; exact ⟨by omega,by omega⟩)
         case vals => simp only; first|rfl|(rw [if_neg (by omega),if_neg (by omega),if_neg (by omega)]; rfl)|(rw [if_pos (by omega)]; rfl)|(rw [if_neg (by omega),if_pos (by omega)]; exact ⟨by omega,by omega⟩)|(rw [if_neg (by omega),if_neg (by omega),if_pos (by omega)]; omega)
         all_goals first|(intro _; rfl)|(intro _; exact ⟨rfl,rfl⟩)|(simp only; omega)|(intro h; simp at h)|(intro h; exact absurd rfl h)|(simp; omega)
       exact fin_names (nx1 := 1) (H1 := [(0,.obj [pS 1 false encI L,pN (tStep L (tStep L (tStep L a 12) 70) 65536)])]) [(0,0)] (ret_cell tab_27 (by decide) rfl rfl (Nat.le_of_ble_eq_true rfl) rfl ret_nil) rfl (by decide) ⟨⟨_,_,rfl,rfl,rfl,rfl⟩,trivial⟩ (by decide) rfl ⟨((⟨e1,tNext L (tStep L a 12) 70,0,0,0,[],[u16I (tNext L (tStep L (tStep L a 12) 70) 65536)],0,0⟩ : TRequest)),(tStep L (tStep L (tStep L a 12) 70) 65536),hex,rfl,rfl,rfl⟩
      ·
       have c6_ := c6
       try simp only [sB] at c6
       refine w_seq ?_
       refine w_R ?_
       refine qo hnt rfl (s_eql rfl rfl ?_)
       refine qa hnt rfl rfl ?_
       refine r_end ?_
       refine q_then ?_
       refine w_if rfl (fun c7 => ?_) (fun c7 => ?_)
       ·
        have c7_ := c7
        try simp only [sB] at c7
        have h8 := tNext_lt L (tStep L (tStep L a 12) 70) (n := 8) (by decide)
        have h4 := tNext_lt L (tStep L (tStep L (tStep L a 12) 70) 8) (n := 4) (by decide)
        refine W_drawn tabOk mixed hnt [[],[],[1],[0,1,2],[0,1,2,3],[],[],[1,2,6],[1,2,5,6,7],[1,2,5,6,7,8],[1,2,5,6,7,8,9],[0,1,2,3,4],[0,1,2,3,4,6,7,11],[0,1,2,3,4,5,6,7,8,9,10,11,12],[0,1,2,3,4,5,6,7,8,9,10,11,12,13]] (by kernel_rfl) ?_
        refine d_op ?_
        refine x_run [] [] [] [] [(4,oB true 1 encI ([0,10,11,12,13,14,2,300] : List Int))] [(4,oB true 1 encI ([0,10,11,12,13,14,2,300] : List Int))] [(4,oB true 1 encI ([0,10,11,12,13,14,2,300] : List Int)),(0,.obj [pS 1 false encI L,pN (tStep L (tStep L a 12) 70)]),(3,.obj [pI e1,pI 0,pI 0,pI 0,pI 0,pNil,pNil,p16 0,p16 0]),(2,oB true 1 encI fnsL),(1,.obj [pI 0,pI 0,pI 0,pI 0,pI 0,pNil,pNil,p16 0,p16 0])] rfl rfl rfl rfl rfl rfl (s_mkM (f := encI) ([0,10,11,12,13,14,2,300] : List Int) tab_22 rfl tab_3 ⟨rfl,by decide⟩ (by decide) rfl rfl rfl rfl ⟨rfl,rfl,rfl⟩) rfl trivial rfl rfl ?_
        refine d_op ?_
        refine x_run0 [(0,PV.ptr 0 0)] [] rfl rfl rfl rfl (s_move rfl ⟨rfl,rfl,rfl⟩) ?_
        refine d_op ?_
        refine x_run [(49,PV.ptr 0 0)] [1] [] [(0,.obj [pS 1 false encI L,pN (tStep L (tStep L a 12) 70)])] [(0,.obj [pS 1 false encI L,pN (tStep L (tStep L (tStep L a 12) 70) 8)])] [(0,.obj [pS 1 false encI L,pN (tStep L (tStep L (tStep L a 12) 70) 8)])] [(0,.obj [pS 1 false encI L,pN (tStep L (tStep L (tStep L a 12) 70) 8)]),(4,oB true 1 encI ([0,10,11,12,13,14,2,300] : List Int)),(3,.obj [pI e1,pI 0,pI 0,pI 0,pI 0,pNil,pNil,p16 0,p16 0]),(2,oB true 1 encI fnsL),(1,.obj [pI 0,pI 0,pI 0,pI 0,pI 0,pNil,pNil,p16 0,p16 0])] rfl rfl rfl rfl rfl rfl (s_callX (r2 := pI (tNext L (tStep L (tStep L a 12) 70) 8)) (nx1 := 5) (H2 := [(0,.obj [pS 1 false encI L,pN (tStep L (tStep L a 12) 70)])]) (H3 := [(0,.obj [pS 1 false encI L,pN (tStep L (tStep L (tStep L a 12) 70) 8)])]) [0] [.obj [pS 1 false encI L,pN (tStep L (tStep L a 12) 70)]] rfl rfl rfl (handed_of (by decide) ⟨rfl,trivial⟩) rfl rfl rfl rfl rfl rfl (w_burgagekeep_Tape_Next L false (tStep L (tStep L a 12) 70) 8 (by first|omega|assumption|(simp; omega)|decide|(simp; done)) (by first|omega|assumption|(simp; omega)|decide|(simp; done))) rfl (dist_of rfl) rfl rfl rfl rfl ⟨rfl,rfl,rfl⟩) rfl trivial rfl rfl ?_
        refine d_op ?_
        refine x_run [(48,PV.ref 4 0 none),(50,pI (tNext L (tStep L (tStep L a 12) 70) 8))] [0,1,2] [(4,oB true 1 encI ([0,10,11,12,13,14,2,300] : List Int))] [] [(4,oB true 1 encI ([0,10,11,12,13,14,2,300] : List Int))] [] [(0,.obj [pS 1 false encI L,pN (tStep L (tStep L (tStep L a 12) 70) 8)]),(4,oB true 1 encI ([0,10,11,12,13,14,2,300] : List Int)),(3,.obj [pI e1,pI 0,pI 0,pI 0,pI 0,pNil,pNil,p16 0,p16 0]),(2,oB true 1 encI fnsL),(1,.obj [pI 0,pI 0,pI 0,pI 0,pI 0,pNil,pNil,p16 0,p16 0])] rfl rfl rfl rfl rfl rfl (s_iaR0 (q := Int.toNat (tNext L (tStep L (tStep L a 12) 70) 8)) (f := encI) (l := ([0,10,11,12,13,14,2,300] : List Int)) tab_22 rfl tab_3 rfl rfl (by omega) rfl rfl (by simp; omega) ⟨rfl,rfl,rfl⟩) rfl ⟨rfl,trivial⟩ rfl rfl ?_
        refine d_op ?_
        obtain ⟨e2,he2⟩ := get_of_lt ([0,10,11,12,13,14,2,300] : List Int) (i := Int.toNat (tNext L (tStep L (tStep L a 12) 70) 8)) (by simp; omega)
        refine x_run [(51,PV.ep 4 (Int.toNat (tNext L (tStep L (tStep L a 12) 70) 8)) 0)] [0,1,2,3] [(4,oB true 1 encI ([0,10,11,12,13,14,2,300] : List Int))] [] [(4,oB true 1 encI ([0,10,11,12,13,14,2,300] : List Int))] [] [(0,.obj [pS 1 false encI L,pN (tStep L (tStep L (tStep L a 12) 70) 8)]),(4,oB true 1 encI ([0,10,11,12,13,14,2,300] : List Int)),(3,.obj [pI e1,pI 0,pI 0,pI 0,pI 0,pNil,pNil,p16 0,p16 0]),(2,oB true 1 encI fnsL),(1,.obj [pI 0,pI 0,pI 0,pI 0,pI 0,pNil,pNil,p16 0,p16 0])] rfl rfl rfl rfl rfl rfl (s_ldM (b := e2) (f := encI) tab_3 rfl rfl rfl rfl he2 rfl ⟨rfl,rfl,rfl⟩) rfl ⟨rfl,trivial⟩ rfl rfl ?_
        have hm2 := List.mem_of_getElem? he2
        simp only [List.mem_cons,List.not_mem_nil,or_false] at hm2
        refine d_op ?_
        refine x_run [] [] [] [] [(5,oB true 1 enc16 ([0,0,0,777] : List UInt16))] [(5,oB true 1 enc16 ([0,0,0,777] : List UInt16))] [(5,oB true 1 enc16 ([0,0,0,777] : List UInt16)),(0,.obj [pS 1 false encI L,pN (tStep L (tStep L (tStep L a 12) 70) 8)]),(4,oB true 1 encI ([0,10,11,12,13,14,2,300] : List Int)),(3,.obj [pI e1,pI 0,pI 0,pI 0,pI 0,pNil,pNil,p16 0,p16 0]),(2,oB true 1 encI fnsL),(1,.obj [pI 0,pI 0,pI 0,pI 0,pI 0,pNil,pNil,p16 0,p16 0])] rfl rfl rfl rfl rfl rfl (s_mkM (f := enc16) ([0,0,0,777] : List UInt16) tab_24 rfl tab_25 ⟨rfl,by decide⟩ (by decide) rfl rfl rfl rfl ⟨rfl,rfl,rfl⟩) rfl trivial rfl rfl ?_
        refine d_op ?_
        refine x_run0 [(0,PV.ptr 0 0)] [] rfl rfl rfl rfl (s_move rfl ⟨rfl,rfl,rfl⟩) ?_
        refine d_op ?_
        refine x_run [(54,PV.ptr 0 0)] [1,2,6] [] [(0,.obj [pS 1 false encI L,pN (tStep L (tStep L (tStep L a 12) 70) 8)])] [(0,.obj [pS 1 false encI L,pN (tStep L (tStep L (tStep L (tStep L a 12) 70) 8) 4)])] [(0,.obj [pS 1 false encI L,pN (tStep L (tStep L (tStep L (tStep L a 12) 70) 8) 4)])] [(0,.obj [pS 1 false encI L,pN (tStep L (tStep L (tStep L (tStep L a 12) 70) 8) 4)]),(5,oB true 1 enc16 ([0,0,0,777] : List UInt16)),(4,oB true 1 encI ([0,10,11,12,13,14,2,300] : List Int)),(3,.obj [pI e1,pI 0,pI 0,pI 0,pI 0,pNil,pNil,p16 0,p16 0]),(2,oB true 1 encI fnsL),(1,.obj [pI 0,pI 0,pI 0,pI 0,pI 0,pNil,pNil,p16 0,p16 0])] rfl rfl rfl rfl rfl rfl (s_callX (r2 := pI (tNext L (tStep L (tStep L (tStep L a 12) 70) 8) 4)) (nx1 := 6) (H2 := [(0,.obj [pS 1 false encI L,pN (tStep L (tStep L (tStep L a 12) 70) 8)])]) (H3 := [(0,.obj [pS 1 false encI L,pN (tStep L (tStep L (tStep L (tStep L a 12) 70) 8) 4)])]) [0] [.obj [pS 1 false encI L,pN (tStep L (tStep L (tStep L a 12) 70) 8)]] rfl rfl rfl (handed_of (by decide) ⟨rfl,trivial⟩) rfl rfl rfl rfl rfl rfl (w_burgagekeep_Tape_Next L false (tStep L (tStep L (tStep L a 12) 70) 8) 4 (by first|omega|assumption|(simp; omega)|decide|(simp; done)) (by first|omega|assumption|(simp; omega)|decide|(simp; done))) rfl (dist_of rfl) rfl rfl rfl rfl ⟨rfl,rfl,rfl⟩) rfl trivial rfl rfl ?_
        refine d_op ?_
        refine x_run [(53,PV.ref 5 0 none),(55,pI (tNext L (tStep L (tStep L (tStep L a 12) 70) 8) 4))] [1,2,5,6,7] [(5,oB true 1 enc16 ([0,0,0,777] : List UInt16))] [] [(5,oB true 1 enc16 ([0,0,0,777] : List UInt16))] [] [(0,.obj [pS 1 false encI L,pN (tStep L (tStep L (tStep L (tStep L a 12) 70) 8) 4)]),(5,oB true 1 enc16 ([0,0,0,777] : List UInt16)),(4,oB true 1 encI ([0,10,11,12,13,14,2,300] : List Int)),(3,.obj [pI e1,pI 0,pI 0,pI 0,pI 0,pNil,pNil,p16 0,p16 0]),(2,oB true 1 encI fnsL),(1,.obj [pI 0,pI 0,pI 0,pI 0,pI 0,pNil,pNil,p16 0,p16 0])] rfl rfl rfl rfl rfl rfl (s_iaR0 (q := Int.toNat (tNext L (tStep L (tStep L (tStep L a 12) 70) 8) 4)) (f := enc16) (l := ([0,0,0,777] : List UInt16)) tab_24 rfl tab_25 rfl rfl (by omega) rfl rfl (by simp; omega) ⟨rfl,rfl,rfl⟩) rfl ⟨rfl,trivial⟩ rfl rfl ?_
        refine d_op ?_
        obtain ⟨e3,he3⟩ := get_of_lt ([0,0,0,777] : List UInt16) (i := Int.toNat (tNext L (tStep L (tStep L (tStep L a 12) 70) 8) 4)) (by simp; omega)
        refine x_run [(56,PV.ep 5 (Int.toNat (tNext L (tStep L (tStep L (tStep L a 12) 70) 8) 4)) 0)] [1,2,5,6,7,8] [(5,oB true 1 enc16 ([0,0,0,777] : List UInt16))] [] [(5,oB true 1 enc16 ([0,0,0,777] : List UInt16))] [] [(0,.obj [pS 1 false encI L,pN (tStep L (tStep L (tStep L (tStep L a 12) 70) 8) 4)]),(5,oB true 1 enc16 ([0,0,0,777] : List UInt16)),(4,oB true 1 encI ([0,10,11,12,13,14,2,300] : List Int)),(3,.obj [pI e1,pI 0,pI 0,pI 0,pI 0,pNil,pNil,p16 0,p16 0]),(2,oB true 1 encI fnsL),(1,.obj [pI 0,pI 0,pI 0,pI 0,pI 0,pNil,pNil,p16 0,p16 0])] rfl rfl rfl rfl rfl rfl (s_ldM (b := e3) (f := enc16) tab_25 rfl rfl rfl rfl he3 rfl ⟨rfl,rfl,rfl⟩) rfl ⟨rfl,trivial⟩ rfl rfl ?_
        refine d_op ?_
        refine x_run [(57,p16 e3)] [1,2,5,6,7,8,9] [] [] [(6,oB true 1 enc16 [e3])] [(6,oB true 1 enc16 [e3])] [(6,oB true 1 enc16 [e3]),(0,.obj [pS 1 false encI L,pN (tStep L (tStep L (tStep L (tStep L a 12) 70) 8) 4)]),(5,oB true 1 enc16 ([0,0,0,777] : List UInt16)),(4,oB true 1 encI ([0,10,11,12,13,14,2,300] : List Int)),(3,.obj [pI e1,pI 0,pI 0,pI 0,pI 0,pNil,pNil,p16 0,p16 0]),(2,oB true 1 encI fnsL),(1,.obj [pI 0,pI 0,pI 0,pI 0,pI 0,pNil,pNil,p16 0,p16 0])] rfl rfl rfl rfl rfl rfl (s_mkM (f := enc16) [e3] tab_24 rfl tab_25 ⟨rfl,by decide⟩ (by decide) rfl rfl rfl rfl ⟨rfl,rfl,rfl⟩) rfl trivial rfl rfl ?_
        refine d_op ?_
        refine x_run0 [(3,PV.ptr 3 0)] [0,1,2,3,4] rfl rfl rfl rfl (s_fa_ptr tab_27 rfl rfl tab_3 (by decide) rfl ⟨rfl,rfl,rfl⟩) ?_
        refine d_op ?_
        refine x_run [(59,PV.ptr 3 4),(52,pI e2)] [0,1,2,3,4,6,7,11] [] [(3,.obj [pI e1,pI 0,pI 0,pI 0,pI 0,pNil,pNil,p16 0,p16 0])] [(3,.obj [pI e1,pI 0,pI 0,pI 0,pI e2,pNil,pNil,p16 0,p16 0])] [(3,.obj [pI e1,pI 0,pI 0,pI 0,pI e2,pNil,pNil,p16 0,p16 0])] [(3,.obj [pI e1,pI 0,pI 0,pI 0,pI e2,pNil,pNil,p16 0,p16 0]),(6,oB true 1 enc16 [e3]),(0,.obj [pS 1 false encI L,pN (tStep L (tStep L (tStep L (tStep L a 12) 70) 8) 4)]),(5,oB true 1 enc16 ([0,0,0,777] : List UInt16)),(4,oB true 1 encI ([0,10,11,12,13,14,2,300] : List Int)),(2,oB true 1 encI fnsL),(1,.obj [pI 0,pI 0,pI 0,pI 0,pI 0,pNil,pNil,p16 0,p16 0])] rfl rfl rfl rfl rfl rfl (s_store_ptr tab_3 rfl rfl rfl rfl rfl (Nat.le_of_ble_eq_true rfl) ⟨rfl,rfl,rfl⟩) rfl trivial rfl rfl ?_
        refine d_op ?_
        refine x_run0 [(3,PV.ptr 3 0)] [0,1,2,3,4,5,6,7,8,9,10,11,12] rfl rfl rfl rfl (s_fa_ptr tab_27 rfl rfl tab_24 (by decide) rfl ⟨rfl,rfl,rfl⟩) ?_
        refine d_op ?_
        refine x_run [(60,PV.ptr 3 6),(58,PV.ref 6 0 none)] [0,1,2,3,4,5,6,7,8,9,10,11,12,13] [] [(3,.obj [pI e1,pI 0,pI 0,pI 0,pI e2,pNil,pNil,p16 0,p16 0])] [(3,.obj [pI e1,pI 0,pI 0,pI 0,pI e2,pNil,PV.ref 6 0 none,p16 0,p16 0])] [(3,.obj [pI e1,pI 0,pI 0,pI 0,pI e2,pNil,PV.ref 6 0 none,p16 0,p16 0])] [(3,.obj [pI e1,pI 0,pI 0,pI 0,pI e2,pNil,PV.ref 6 0 none,p16 0,p16 0]),(6,oB true 1 enc16 [e3]),(0,.obj [pS 1 false encI L,pN (tStep L (tStep L (tStep L (tStep L a 12) 70) 8) 4)]),(5,oB true 1 enc16 ([0,0,0,777] : List UInt16)),(4,oB true 1 encI ([0,10,11,12,13,14,2,300] : List Int)),(2,oB true 1 encI fnsL),(1,.obj [pI 0,pI 0,pI 0,pI 0,pI 0,pNil,pNil,p16 0,p16 0])] rfl rfl rfl rfl rfl rfl (s_store_ptr tab_24 rfl rfl rfl rfl rfl (Nat.le_of_ble_eq_true rfl) ⟨rfl,rfl,rfl⟩) rfl trivial rfl rfl ?_
        refine d_end ⟨by kernel_rfl, ?_⟩
        refine q_block ?_
        refine q_then ?_
        refine w_seq ?_
        refine w_R ?_
        refine qo hnt rfl (s_load_ptr tab_27 rfl rfl rfl (Nat.le_of_ble_eq_true rfl) ?_)
        refine qo hnt rfl (s_store_ptr tab_27 rfl rfl rfl rfl rfl (Nat.le_of_ble_eq_true rfl) ?_)
        refine r_set [(2,PV.ptr 1 0)] [(1,.obj [pI e1,pI 0,pI 0,pI 0,pI e2,pNil,PV.ref 6 0 none,p16 0,p16 0]),(3,.obj [pI e1,pI 0,pI 0,pI 0,pI e2,pNil,PV.ref 6 0 none,p16 0,p16 0]),(6,oB true 1 enc16 [e3]),(0,.obj [pS 1 false encI L,pN (tStep L (tStep L (tStep L (tStep L a 12) 70) 8) 4)]),(5,oB true 1 enc16 ([0,0,0,777] : List UInt16)),(4,oB true 1 encI ([0,10,11,12,13,14,2,300] : List Int)),(2,oB true 1 encI fnsL)] 7 ⟨rfl,trivial⟩ rfl rfl ?_
        refine r_end ?_
        refine q_then ?_
        refine w_frzC (n := 1) (j := 6) rfl rfl rfl rfl ?_
        refine w_leO (n := 1) (ds := [pI e1,pI 0,pI 0,pI 0,pI e2,pS 1 false encBo [],pS 1 false enc16 [e3],p16 0,p16 0]) rfl ⟨le_refl _,le_refl _,le_refl _,le_refl _,le_refl _,le_nilS 1 false,le_refl _,le_refl _,le_refl _,trivial⟩ ?_
        refine w_ret ?_
        have hex : rightR (⟨e1,0,0,0,e2,[],[e3],0,0⟩ : TRequest) = 0 ∧ (⟨e1,0,0,0,e2,[],[e3],0,0⟩ : TRequest).bits.length ≤ 25 ∧ (⟨e1,0,0,0,e2,[],[e3],0,0⟩ : TRequest).vals.length ≤ 25 ∧ 0 ≤ (⟨e1,0,0,0,e2,[],[e3],0,0⟩ : TRequest).count ∧ (⟨e1,0,0,0,e2,[],[e3],0,0⟩ : TRequest).count ≤ 25 := by
          refine ⟨(shapeR_iff (q := _) hfn).2 ?_,by simp; try omega,by simp; try omega,by simp; try omega,by simp; try omega⟩
          constructor
          case bits => simp only; first|rfl|(rw [if_neg (by omega),if_neg (by omega)]; rfl)|(rw [if_pos (by omega)]; rfl)|(rw [if_neg (by omega),if_pos (by omega)]; exact ⟨by omega,by omega⟩)
          case vals => simp only; first|rfl|(rw [if_neg (by omega),if_neg (by omega),if_neg (by omega)]; rfl)|(rw [if_pos (by omega)]; rfl)|(rw [if_neg (by omega),if_pos (by omega)]; exact ⟨by omega,by omega⟩)|(rw [if_neg (by omega),if_neg (by omega),if_pos (by omega)]; omega)
          all_goals first|(intro _; rfl)|(intro _; exact ⟨rfl,rfl⟩)|(simp only; omega)|(intro h; simp at h)|(intro h; exact absurd rfl h)|(simp; omega)
        exact fin_names (nx1 := 1) (H1 := [(0,.obj [pS 1 false encI L,pN (tStep L (tStep L (tStep L (tStep L a 12) 70) 8) 4)])]) [(0,0)] (ret_cell tab_27 (by decide) rfl rfl (Nat.le_of_ble_eq_true rfl) rfl ret_nil) rfl (by decide) ⟨⟨_,_,rfl,rfl,rfl,rfl⟩,trivial⟩ (by decide) rfl ⟨((⟨e1,0,0,0,e2,[],[e3],0,0⟩ : TRequest)),(tStep L (tStep L (tStep L (tStep L a 12) 70) 8) 4),hex,rfl,rfl,rfl⟩
       ·
        have c7_ := c7
        try simp only [sB] at c7
        refine w_seq ?_
        refine w_R ?_
        refine qo hnt rfl (s_eql rfl rfl ?_)
        refine qa hnt rfl rfl ?_
        refine r_end ?_
        refine q_then ?_
        refine w_if rfl (fun c8 => ?_) (fun c8 => ?_)
        ·
         have c8_ := c8
         try simp only [sB] at c8
         refine w_seq ?_
         have h26 := tNext_lt L (tStep L (tStep L a 12) 70) (n := 26) (by decide)
         refine w_R ?_
         refine qm hnt rfl rfl ?_
         refine qm hnt rfl rfl ?_
         refine qo hnt rfl (s_callX (r2 := pI (tNext L (tStep L (tStep L a 12) 70) 26)) (nx1 := 4) (H2 := [(0,.obj [pS 1 false encI L,pN (tStep L (tStep L a 12) 70)]),(3,.obj [pI e1,pI 0,pI 0,pI 0,pI 0,pNil,pNil,p16 0,p16 0]),(2,oB true 1 encI fnsL),(1,.obj [pI 0,pI 0,pI 0,pI 0,pI 0,pNil,pNil,p16 0,p16 0])]) (H3 := [(0,.obj [pS 1 false encI L,pN (tStep L (tStep L (tStep L a 12) 70) 26)]),(3,.obj [pI e1,pI 0,pI 0,pI 0,pI 0,pNil,pNil,p16 0,p16 0]),(2,oB true 1 encI fnsL),(1,.obj [pI 0,pI 0,pI 0,pI 0,pI 0,pNil,pNil,p16 0,p16 0])]) [0] [.obj [pS 1 false encI L,pN (tStep L (tStep L a 12) 70)]] rfl rfl rfl (handed_of (by decide) ⟨rfl,trivial⟩) rfl rfl rfl rfl rfl rfl (w_burgagekeep_Tape_Next L false (tStep L (tStep L a 12) 70) 26 (by first|omega|assumption|(simp; omega)|decide|(simp; done)) (by first|omega|assumption|(simp; omega)|decide|(simp; done))) rfl (dist_of rfl) rfl rfl rfl rfl ?_)
         refine qo hnt rfl (s_fa_ptr tab_27 rfl rfl tab_3 (by decide) rfl ?_)
         refine qo hnt rfl (s_store_ptr tab_3 rfl rfl rfl rfl rfl (Nat.le_of_ble_eq_true rfl) ?_)
         refine qo hnt rfl (s_fa_ptr tab_27 rfl rfl tab_3 (by decide) rfl ?_)
         refine qo hnt rfl (s_store_ptr tab_3 rfl rfl rfl rfl rfl (Nat.le_of_ble_eq_true rfl) ?_)
         refine r_set [(0,PV.ptr 0 0),(2,PV.ptr 1 0),(3,PV.ptr 3 0)] [(3,.obj [pI e1,pI (tNext L (tStep L a 12) 70),pI (tNext L (tStep L (tStep L a 12) 70) 26),pI 0,pI 0,pNil,pNil,p16 0,p16 0]),(0,.obj [pS 1 false encI L,pN (tStep L (tStep L (tStep L a 12) 70) 26)]),(2,oB true 1 encI fnsL),(1,.obj [pI 0,pI 0,pI 0,pI 0,pI 0,pNil,pNil,p16 0,p16 0])] 4 ⟨rfl,rfl,rfl,trivial⟩ rfl rfl ?_
         refine r_end ?_
         refine q_then ?_
         refine w_seq ?_
         refine w_R ?_
         refine qa hnt rfl rfl ?_
         refine r_end ?_
         refine q_then ?_
         refine w_block ?_
         refine w_adoptC (n := 3) (j := 5) (sz := 1) rfl rfl rfl ?_
         refine loop3 (fun (ap : Nat) (os : List Bool) (i : Nat) => (i : Int) ≤ tNext L (tStep L (tStep L a 12) 70) 26 ∧ os.length = i) (fun (ap : Nat) (os : List Bool) (i : Nat) => [(0,PV.ptr 0 0),(2,PV.ptr 3 0),(3,PV.ptr 1 0),(5,pN i)]) 4 (fun (ap : Nat) (os : List Bool) (i : Nat) => [(0,.obj [pS 1 false encI L,pN ap]),(1,.obj [pI e1,pI (tNext L (tStep L a 12) 70),pI (tNext L (tStep L (tStep L a 12) 70) 26),pI 0,pI 0,PV.ref 2 0 none,pNil,p16 0,p16 0]),(2,oB true 1 encBo os),(3,.obj [pI 0,pI 0,pI 0,pI 0,pI 0,pNil,pNil,p16 0,p16 0])]) (fun (ap : Nat) (os : List Bool) (i : Nat) => (tNext L (tStep L (tStep L a 12) 70) 26).toNat - i) (tStep L (tStep L (tStep L a 12) 70) 26) (([] : List Bool)) (0) ?_ ⟨[(0,0),(1,3),(2,4),(3,1)],by rw [hk]; decide,⟨⟨_,rfl,rfl,rfl⟩,⟨_,rfl,rfl,rfl⟩,⟨_,rfl,rfl,rfl⟩,⟨_,rfl,rfl,rfl⟩,trivial⟩,⟨⟨_,_,rfl,rfl,rfl,rfl⟩,⟨_,_,rfl,rfl,rfl,rfl⟩,⟨_,_,rfl,rfl,rfl,rfl⟩,⟨_,_,rfl,rfl,rfl,rfl⟩,trivial⟩,by rw [hk]; decide⟩ ?_
         · exact ⟨by omega,rfl⟩
         ·
          intro ap os i hI
          obtain ⟨hi,hol⟩ := hI
          refine w_seq ?_
          refine w_seq ?_
          refine w_R ?_
          refine qm hnt rfl rfl ?_
          refine qo hnt rfl (s_fa_ptr tab_27 rfl rfl tab_3 (by decide) rfl ?_)
          refine qo hnt rfl (s_load_ptr1 tab_3 rfl rfl rfl rfl rfl ?_)
          refine qo hnt rfl (s_lss rfl rfl ?_)
          refine r_end ?_
          refine q_then ?_
          refine w_if rfl (fun c9 => ?_) (fun c9 => ?_)
          ·
           have c9_ := c9
           try simp only [sB] at c9
           refine w_skip ?_
           refine q_then ?_
           refine w_seq ?_
           refine w_block ?_
           refine W_drawn tabOk mixed hnt [[],[0],[],[2],[2,3],[2,3,4],[0,1,2,3,4,5],[0,1,2,3,4,5,6],[0,1,2,3,4,5,6,7]] (by kernel_rfl) ?_
           refine d_op ?_
           refine x_run0 [(3,PV.ptr 1 0)] [] rfl rfl rfl rfl (s_fa_ptr tab_27 rfl rfl tab_23 (by decide) rfl ⟨rfl,rfl,rfl⟩) ?_
           refine d_op ?_
           refine x_run [(74,PV.ptr 1 5)] [0] [(1,.obj [pI e1,pI (tNext L (tStep L a 12) 70),pI (tNext L (tStep L (tStep L a 12) 70) 26),pI 0,pI 0,PV.ref 2 0 none,pNil,p16 0,p16 0])] [] [(1,.obj [pI e1,pI (tNext L (tStep L a 12) 70),pI (tNext L (tStep L (tStep L a 12) 70) 26),pI 0,pI 0,PV.ref 2 0 none,pNil,p16 0,p16 0])] [] [(0,.obj [pS 1 false encI L,pN ap]),(1,.obj [pI e1,pI (tNext L (tStep L a 12) 70),pI (tNext L (tStep L (tStep L a 12) 70) 26),pI 0,pI 0,PV.ref 2 0 none,pNil,p16 0,p16 0]),(2,oB true 1 encBo os),(3,.obj [pI 0,pI 0,pI 0,pI 0,pI 0,pNil,pNil,p16 0,p16 0])] rfl rfl rfl rfl rfl rfl (s_load_ptr1 tab_23 rfl rfl rfl rfl rfl ⟨rfl,rfl,rfl⟩) rfl ⟨rfl,trivial⟩ rfl rfl ?_
           refine d_op ?_
           refine x_run0 [(0,PV.ptr 0 0)] [] rfl rfl rfl rfl (s_move rfl ⟨rfl,rfl,rfl⟩) ?_
           refine d_op ?_
           refine x_run [(76,PV.ptr 0 0)] [2] [] [(0,.obj [pS 1 false encI L,pN ap])] [(0,.obj [pS 1 false encI L,pN (tStep L ap 2)])] [(0,.obj [pS 1 false encI L,pN (tStep L ap 2)])] [(0,.obj [pS 1 false encI L,pN (tStep L ap 2)]),(1,.obj [pI e1,pI (tNext L (tStep L a 12) 70),pI (tNext L (tStep L (tStep L a 12) 70) 26),pI 0,pI 0,PV.ref 2 0 none,pNil,p16 0,p16 0]),(2,oB true 1 encBo os),(3,.obj [pI 0,pI 0,pI 0,pI 0,pI 0,pNil,pNil,p16 0,p16 0])] rfl rfl rfl rfl rfl rfl (s_callX (r2 := pI (tNext L ap 2)) (nx1 := 4) (H2 := [(0,.obj [pS 1 false encI L,pN ap])]) (H3 := [(0,.obj [pS 1 false encI L,pN (tStep L ap 2)])]) [0] [.obj [pS 1 false encI L,pN ap]] rfl rfl rfl (handed_of (by decide) ⟨rfl,trivial⟩) rfl rfl rfl rfl rfl rfl (w_burgagekeep_Tape_Next L false ap 2 (by first|omega|assumption|(simp; omega)|decide|(simp; done)) (by first|omega|assumption|(simp; omega)|decide|(simp; done))) rfl (dist_of rfl) rfl rfl rfl rfl ⟨rfl,rfl,rfl⟩) rfl trivial rfl rfl ?_
           refine d_op ?_
           refine x_run0 [(77,pI (tNext L ap 2))] [2,3] rfl rfl rfl rfl (s_eql rfl rfl ⟨rfl,rfl,rfl⟩) ?_
           refine d_op ?_
           refine x_run [(78,pB (decide (tNext L ap 2 = 1)))] [2,3,4] [] [] [(4,oB true 1 encBo [decide (tNext L ap 2 = 1)])] [(4,oB true 1 encBo [decide (tNext L ap 2 = 1)])] [(4,oB true 1 encBo [decide (tNext L ap 2 = 1)]),(0,.obj [pS 1 false encI L,pN (tStep L ap 2)]),(1,.obj [pI e1,pI (tNext L (tStep L a 12) 70),pI (tNext L (tStep L (tStep L a 12) 70) 26),pI 0,pI 0,PV.ref 2 0 none,pNil,p16 0,p16 0]),(2,oB true 1 encBo os),(3,.obj [pI 0,pI 0,pI 0,pI 0,pI 0,pNil,pNil,p16 0,p16 0])] rfl rfl rfl rfl rfl rfl (s_mkM (f := encBo) [decide (tNext L ap 2 = 1)] tab_23 rfl tab_4 ⟨rfl,by decide⟩ (by decide) rfl rfl rfl rfl ⟨rfl,rfl,rfl⟩) rfl trivial rfl rfl ?_
           refine d_op ?_
           refine x_run [(75,PV.ref 2 0 none),(79,PV.ref 4 0 none)] [0,1,2,3,4,5] [(4,oB true 1 encBo [decide (tNext L ap 2 = 1)])] [(2,oB true 1 encBo os)] [(5,oB true 1 encBo (os ++ [decide (tNext L ap 2 = 1)])),(4,oB true 1 encBo [decide (tNext L ap 2 = 1)])] [(5,oB true 1 encBo (os ++ [decide (tNext L ap 2 = 1)]))] [(5,oB true 1 encBo (os ++ [decide (tNext L ap 2 = 1)])),(4,oB true 1 encBo [decide (tNext L ap 2 = 1)]),(0,.obj [pS 1 false encI L,pN (tStep L ap 2)]),(1,.obj [pI e1,pI (tNext L (tStep L a 12) 70),pI (tNext L (tStep L (tStep L a 12) 70) 26),pI 0,pI 0,PV.ref 2 0 none,pNil,p16 0,p16 0]),(3,.obj [pI 0,pI 0,pI 0,pI 0,pI 0,pNil,pNil,p16 0,p16 0])] rfl rfl rfl rfl rfl rfl (s_appR0 (f := encBo) (l := os) (xs := [decide (tNext L ap 2 = 1)]) tab_23 rfl tab_4 ⟨rfl,by decide,by decide⟩ (srcM tab_23 rfl (hM_ref0 (f := encBo) rfl rfl)) rfl rfl (by first|omega|(simp; omega)) ⟨rfl,rfl,rfl⟩) rfl ⟨rfl,trivial⟩ rfl rfl ?_
           refine d_op ?_
           refine x_run0 [(3,PV.ptr 1 0)] [0,1,2,3,4,5,6] rfl rfl rfl rfl (s_fa_ptr tab_27 rfl rfl tab_23 (by decide) rfl ⟨rfl,rfl,rfl⟩) ?_
           refine d_op ?_
           refine x_run [(81,PV.ptr 1 5),(80,PV.ref 5 0 none)] [0,1,2,3,4,5,6,7] [] [(1,.obj [pI e1,pI (tNext L (tStep L a 12) 70),pI (tNext L (tStep L (tStep L a 12) 70) 26),pI 0,pI 0,PV.ref 2 0 none,pNil,p16 0,p16 0])] [(1,.obj [pI e1,pI (tNext L (tStep L a 12) 70),pI (tNext L (tStep L (tStep L a 12) 70) 26),pI 0,pI 0,PV.ref 5 0 none,pNil,p16 0,p16 0])] [(1,.obj [pI e1,pI (tNext L (tStep L a 12) 70),pI (tNext L (tStep L (tStep L a 12) 70) 26),pI 0,pI 0,PV.ref 5 0 none,pNil,p16 0,p16 0])] [(1,.obj [pI e1,pI (tNext L (tStep L a 12) 70),pI (tNext L (tStep L (tStep L a 12) 70) 26),pI 0,pI 0,PV.ref 5 0 none,pNil,p16 0,p16 0]),(5,oB true 1 encBo (os ++ [decide (tNext L ap 2 = 1)])),(4,oB true 1 encBo [decide (tNext L ap 2 = 1)]),(0,.obj [pS 1 false encI L,pN (tStep L ap 2)]),(3,.obj [pI 0,pI 0,pI 0,pI 0,pI 0,pNil,pNil,p16 0,p16 0])] rfl rfl rfl rfl rfl rfl (s_store_ptr tab_23 rfl rfl rfl rfl rfl (Nat.le_of_ble_eq_true rfl) ⟨rfl,rfl,rfl⟩) rfl trivial rfl rfl ?_
           refine d_end ⟨by kernel_rfl, ?_⟩
           refine q_block ?_
           refine q_then ?_
           refine w_R ?_
           refine qm hnt rfl rfl ?_
           refine qo hnt rfl (s_addN (a := i) (b := 1) rfl rfl (by omega) (by omega) (by omega) ?_)
           refine qa hnt rfl rfl ?_
           refine r_end ?_
           refine q_then ?_
           refine ⟨(tStep L ap 2),(os ++ [decide (tNext L ap 2 = 1)]),(i + 1), ?_, ?_,⟨[(0,0),(1,1),(2,5),(3,3)],by rw [hk]; decide,⟨⟨_,rfl,rfl,rfl⟩,⟨_,rfl,rfl,rfl⟩,⟨_,rfl,rfl,rfl⟩,⟨_,rfl,rfl,rfl⟩,trivial⟩,⟨⟨_,_,rfl,rfl,rfl,rfl⟩,⟨_,_,rfl,rfl,rfl,rfl⟩,⟨_,_,rfl,rfl,rfl,rfl⟩,⟨_,_,rfl,rfl,rfl,rfl⟩,trivial⟩,by rw [hk]; decide⟩⟩
           ·
            exact ⟨by omega,by simp [hol]⟩
           · omega
          ·
           have c9_ := c9
           try simp only [sB] at c9
           refine w_exit ?_
           refine q_then_exit ?_
           refine q_then_exit ?_
           refine q_block_exit ?_
           refine q_block ?_
           refine q_then ?_
           refine w_seq ?_
           refine w_R ?_
           refine qo hnt rfl (s_load_ptr tab_27 rfl rfl rfl (Nat.le_of_ble_eq_true rfl) ?_)
           refine qo hnt rfl (s_store_ptr tab_27 rfl rfl rfl rfl rfl (Nat.le_of_ble_eq_true rfl) ?_)
           refine r_set [(2,PV.ptr 3 0)] [(3,.obj [pI e1,pI (tNext L (tStep L a 12) 70),pI (tNext L (tStep L (tStep L a 12) 70) 26),pI 0,pI 0,PV.ref 2 0 none,pNil,p16 0,p16 0]),(0,.obj [pS 1 false encI L,pN ap]),(1,.obj [pI e1,pI (tNext L (tStep L a 12) 70),pI (tNext L (tStep L (tStep L a 12) 70) 26),pI 0,pI 0,PV.ref 2 0 none,pNil,p16 0,p16 0]),(2,oB true 1 encBo os)] 4 ⟨rfl,trivial⟩ rfl rfl ?_
           refine r_end ?_
           refine q_then ?_
           refine w_frzC (n := 3) (j := 5) rfl rfl rfl rfl ?_
           refine w_leO (n := 3) (ds := [pI e1,pI (tNext L (tStep L a 12) 70),pI (tNext L (tStep L (tStep L a 12) 70) 26),pI 0,pI 0,pS 1 false encBo os,pS 1 false enc16 [],p16 0,p16 0]) rfl ⟨le_refl _,le_refl _,le_refl _,le_refl _,le_refl _,le_refl _,le_nilS 1 false,le_refl _,le_refl _,trivial⟩ ?_
           refine w_ret ?_
           have hex : rightR (⟨e1,tNext L (tStep L a 12) 70,tNext L (tStep L (tStep L a 12) 70) 26,0,0,os,[],0,0⟩ : TRequest) = 0 ∧ (⟨e1,tNext L (tStep L a 12) 70,tNext L (tStep L (tStep L a 12) 70) 26,0,0,os,[],0,0⟩ : TRequest).bits.length ≤ 25 ∧ (⟨e1,tNext L (tStep L a 12) 70,tNext L (tStep L (tStep L a 12) 70) 26,0,0,os,[],0,0⟩ : TRequest).vals.length ≤ 25 ∧ 0 ≤ (⟨e1,tNext L (tStep L a 12) 70,tNext L (tStep L (tStep L a 12) 70) 26,0,0,os,[],0,0⟩ : TRequest).count ∧ (⟨e1,tNext L (tStep L a 12) 70,tNext L (tStep L (tStep L a 12) 70) 26,0,0,os,[],0,0⟩ : TRequest).count ≤ 25 := by
             refine ⟨(shapeR_iff (q := _) hfn).2 ?_,by simp; try omega,by simp; try omega,by simp; try omega,by simp; try omega⟩
             constructor
             case bits => simp only; first|rfl|(rw [if_neg (by omega),if_neg (by omega)]; rfl)|(rw [if_pos (by omega)]; rfl)|(rw [if_neg (by omega),if_pos (by omega)]; exact ⟨by omega,by omega⟩)
             case vals => simp only; first|rfl|(rw [if_neg (by omega),if_neg (by omega),if_neg (by omega)]; rfl)|(rw [if_pos (by omega)]; rfl)|(rw [if_neg (by omega),if_pos (by omega)]; exact ⟨by omega,by omega⟩)|(rw [if_neg (by omega),if_neg (by omega),if_pos (by omega)]; omega)
             all_goals first|(intro _; rfl)|(intro _; exact ⟨rfl,rfl⟩)|(simp only; omega)|(intro h; simp at h)|(intro h; exact absurd rfl h)|(simp; omega)
           exact fin_names (nx1 := 1) (H1 := [(0,.obj [pS 1 false encI L,pN ap])]) [(0,0)] (ret_cell tab_27 (by decide) rfl rfl (Nat.le_of_ble_eq_true rfl) rfl ret_nil) rfl (by decide) ⟨⟨_,_,rfl,rfl,rfl,rfl⟩,trivial⟩ (by decide) rfl ⟨((⟨e1,tNext L (tStep L a 12) 70,tNext L (tStep L (tStep L a 12) 70) 26,0,0,os,[],0,0⟩ : TRequest)),(ap),hex,rfl,rfl,rfl⟩
        ·
         have c8_ := c8
         try simp only [sB] at c8
         refine w_seq ?_
         refine w_R ?_
         refine qo hnt rfl (s_eql rfl rfl ?_)
         refine qa hnt rfl rfl ?_
         refine r_end ?_
         refine q_then ?_
         refine w_if rfl (fun c10 => ?_) (fun c10 => ?_)
         ·
          have c10_ := c10
          try simp only [sB] at c10
          refine w_seq ?_
          have h26 := tNext_lt L (tStep L (tStep L a 12) 70) (n := 26) (by decide)
          refine w_R ?_
          refine qm hnt rfl rfl ?_
          refine qm hnt rfl rfl ?_
          refine qo hnt rfl (s_callX (r2 := pI (tNext L (tStep L (tStep L a 12) 70) 26)) (nx1 := 4) (H2 := [(0,.obj [pS 1 false encI L,pN (tStep L (tStep L a 12) 70)]),(3,.obj [pI e1,pI 0,pI 0,pI 0,pI 0,pNil,pNil,p16 0,p16 0]),(2,oB true 1 encI fnsL),(1,.obj [pI 0,pI 0,pI 0,pI 0,pI 0,pNil,pNil,p16 0,p16 0])]) (H3 := [(0,.obj [pS 1 false encI L,pN (tStep L (tStep L (tStep L a 12) 70) 26)]),(3,.obj [pI e1,pI 0,pI 0,pI 0,pI 0,pNil,pNil,p16 0,p16 0]),(2,oB true 1 encI fnsL),(1,.obj [pI 0,pI 0,pI 0,pI 0,pI 0,pNil,pNil,p16 0,p16 0])]) [0] [.obj [pS 1 false encI L,pN (tStep L (tStep L a 12) 70)]] rfl rfl rfl (handed_of (by decide) ⟨rfl,trivial⟩) rfl rfl rfl rfl rfl rfl (w_burgagekeep_Tape_Next L false (tStep L (tStep L a 12) 70) 26 (by first|omega|assumption|(simp; omega)|decide|(simp; done)) (by first|omega|assumption|(simp; omega)|decide|(simp; done))) rfl (dist_of rfl) rfl rfl rfl rfl ?_)
          refine qo hnt rfl (s_fa_ptr tab_27 rfl rfl tab_3 (by decide) rfl ?_)
          refine qo hnt rfl (s_store_ptr tab_3 rfl rfl rfl rfl rfl (Nat.le_of_ble_eq_true rfl) ?_)
          refine qo hnt rfl (s_fa_ptr tab_27 rfl rfl tab_3 (by decide) rfl ?_)
          refine qo hnt rfl (s_store_ptr tab_3 rfl rfl rfl rfl rfl (Nat.le_of_ble_eq_true rfl) ?_)
          refine r_set [(0,PV.ptr 0 0),(2,PV.ptr 1 0),(3,PV.ptr 3 0)] [(3,.obj [pI e1,pI (tNext L (tStep L a 12) 70),pI (tNext L (tStep L (tStep L a 12) 70) 26),pI 0,pI 0,pNil,pNil,p16 0,p16 0]),(0,.obj [pS 1 false encI L,pN (tStep L (tStep L (tStep L a 12) 70) 26)]),(2,oB true 1 encI fnsL),(1,.obj [pI 0,pI 0,pI 0,pI 0,pI 0,pNil,pNil,p16 0,p16 0])] 4 ⟨rfl,rfl,rfl,trivial⟩ rfl rfl ?_
          refine r_end ?_
          refine q_then ?_
          refine w_seq ?_
          refine w_R ?_
          refine qa hnt rfl rfl ?_
          refine r_end ?_
          refine q_then ?_
          refine w_block ?_
          refine w_adoptC (n := 3) (j := 6) (sz := 1) rfl rfl rfl ?_
          refine loop3 (fun (ap : Nat) (os : List UInt16) (i : Nat) => (i : Int) ≤ tNext L (tStep L (tStep L a 12) 70) 26 ∧ os.length = i) (fun (ap : Nat) (os : List UInt16) (i : Nat) => [(0,PV.ptr 0 0),(2,PV.ptr 3 0),(3,PV.ptr 1 0),(6,pN i)]) 4 (fun (ap : Nat) (os : List UInt16) (i : Nat) => [(0,.obj [pS 1 false encI L,pN ap]),(1,.obj [pI e1,pI (tNext L (tStep L a 12) 70),pI (tNext L (tStep L (tStep L a 12) 70) 26),pI 0,pI 0,pNil,PV.ref 2 0 none,p16 0,p16 0]),(2,oB true 1 enc16 os),(3,.obj [pI 0,pI 0,pI 0,pI 0,pI 0,pNil,pNil,p16 0,p16 0])]) (fun (ap : Nat) (os : List UInt16) (i : Nat) => (tNext L (tStep L (tStep L a 12) 70) 26).toNat - i) (tStep L (tStep L (tStep L a 12) 70) 26) (([] : List UInt16)) (0) ?_ ⟨[(0,0),(1,3),(2,4),(3,1)],by rw [hk]; decide,⟨⟨_,rfl,rfl,rfl⟩,⟨_,rfl,rfl,rfl⟩,⟨_,rfl,rfl,rfl⟩,⟨_,rfl,rfl,rfl⟩,trivial⟩,⟨⟨_,_,rfl,rfl,rfl,rfl⟩,⟨_,_,rfl,rfl,rfl,rfl⟩,⟨_,_,rfl,rfl,rfl,rfl⟩,⟨_,_,rfl,rfl,rfl,rfl⟩,trivial⟩,by rw [hk]; decide⟩ ?_
          · exact ⟨by omega,rfl⟩
          ·
           intro ap os i hI
           obtain ⟨hi,hol⟩ := hI
           refine w_seq ?_
           refine w_seq ?_
           refine w_R ?_
           refine qm hnt rfl rfl ?_
           refine qo hnt rfl (s_fa_ptr tab_27 rfl rfl tab_3 (by decide) rfl ?_)
           refine qo hnt rfl (s_load_ptr1 tab_3 rfl rfl rfl rfl rfl ?_)
           refine qo hnt rfl (s_lss rfl rfl ?_)
           refine r_end ?_
           refine q_then ?_
           refine w_if rfl (fun c11 => ?_) (fun c11 => ?_)
           ·
            have c11_ := c11
            try simp only [sB] at c11
            refine w_skip ?_
            refine q_then ?_
            refine w_seq ?_
            refine w_block ?_
            refine W_drawn tabOk mixed hnt [[],[0],[],[2],[2,3],[2,3,4],[0,1,2,3,4,5],[0,1,2,3,4,5,6],[0,1,2,3,4,5,6,7]] (by kernel_rfl) ?_
            refine d_op ?_
            refine x_run0 [(3,PV.ptr 1 0)] [] rfl rfl rfl rfl (s_fa_ptr tab_27 rfl rfl tab_24 (by decide) rfl ⟨rfl,rfl,rfl⟩) ?_
            refine d_op ?_
            refine x_run [(95,PV.ptr 1 6)] [0] [(1,.obj [pI e1,pI (tNext L (tStep L a 12) 70),pI (tNext L (tStep L (tStep L a 12) 70) 26),pI 0,pI 0,pNil,PV.ref 2 0 none,p16 0,p16 0])] [] [(1,.obj [pI e1,pI (tNext L (tStep L a 12) 70),pI (tNext L (tStep L (tStep L a 12) 70) 26),pI 0,pI 0,pNil,PV.ref 2 0 none,p16 0,p16 0])] [] [(0,.obj [pS 1 false encI L,pN ap]),(1,.obj [pI e1,pI (tNext L (tStep L a 12) 70),pI (tNext L (tStep L (tStep L a 12) 70) 26),pI 0,pI 0,pNil,PV.ref 2 0 none,p16 0,p16 0]),(2,oB true 1 enc16 os),(3,.obj [pI 0,pI 0,pI 0,pI 0,pI 0,pNil,pNil,p16 0,p16 0])] rfl rfl rfl rfl rfl rfl (s_load_ptr1 tab_24 rfl rfl rfl rfl rfl ⟨rfl,rfl,rfl⟩) rfl ⟨rfl,trivial⟩ rfl rfl ?_
            refine d_op ?_
            refine x_run0 [(0,PV.ptr 0 0)] [] rfl rfl rfl rfl (s_move rfl ⟨rfl,rfl,rfl⟩) ?_
            refine d_op ?_
            refine x_run [(97,PV.ptr 0 0)] [2] [] [(0,.obj [pS 1 false encI L,pN ap])] [(0,.obj [pS 1 false encI L,pN (tStep L ap 65536)])] [(0,.obj [pS 1 false encI L,pN (tStep L ap 65536)])] [(0,.obj [pS 1 false encI L,pN (tStep L ap 65536)]),(1,.obj [pI e1,pI (tNext L (tStep L a 12) 70),pI (tNext L (tStep L (tStep L a 12) 70) 26),pI 0,pI 0,pNil,PV.ref 2 0 none,p16 0,p16 0]),(2,oB true 1 enc16 os),(3,.obj [pI 0,pI 0,pI 0,pI 0,pI 0,pNil,pNil,p16 0,p16 0])] rfl rfl rfl rfl rfl rfl (s_callX (r2 := pI (tNext L ap 65536)) (nx1 := 4) (H2 := [(0,.obj [pS 1 false encI L,pN ap])]) (H3 := [(0,.obj [pS 1 false encI L,pN (tStep L ap 65536)])]) [0] [.obj [pS 1 false encI L,pN ap]] rfl rfl rfl (handed_of (by decide) ⟨rfl,trivial⟩) rfl rfl rfl rfl rfl rfl (w_burgagekeep_Tape_Next L false ap 65536 (by first|omega|assumption|(simp; omega)|decide|(simp; done)) (by first|omega|assumption|(simp; omega)|decide|(simp; done))) rfl (dist_of rfl) rfl rfl rfl rfl ⟨rfl,rfl,rfl⟩) rfl trivial rfl rfl ?_
            refine d_op ?_
            refine x_run0 [(98,pI (tNext L ap 65536))] [2,3] rfl rfl rfl rfl (s_cv16 tab_3 tab_25 rfl rfl rfl ⟨rfl,rfl,rfl⟩) ?_
            refine d_op ?_
            refine x_run [(99,p16 (u16I (tNext L ap 65536)))] [2,3,4] [] [] [(4,oB true 1 enc16 [u16I (tNext L ap 65536)])] [(4,oB true 1 enc16 [u16I (tNext L ap 65536)])] [(4,oB true 1 enc16 [u16I (tNext L ap 65536)]),(0,.obj [pS 1 false encI L,pN (tStep L ap 65536)]),(1,.obj [pI e1,pI (tNext L (tStep L a 12) 70),pI (tNext L (tStep L (tStep L a 12) 70) 26),pI 0,pI 0,pNil,PV.ref 2 0 none,p16 0,p16 0]),(2,oB true 1 enc16 os),(3,.obj [pI 0,pI 0,pI 0,pI 0,pI 0,pNil,pNil,p16 0,p16 0])] rfl rfl rfl rfl rfl rfl (s_mkM (f := enc16) [u16I (tNext L ap 65536)] tab_24 rfl tab_25 ⟨rfl,by decide⟩ (by decide) rfl rfl rfl rfl ⟨rfl,rfl,rfl⟩) rfl trivial rfl rfl ?_
            refine d_op ?_
            refine x_run [(96,PV.ref 2 0 none),(100,PV.ref 4 0 none)] [0,1,2,3,4,5] [(4,oB true 1 enc16 [u16I (tNext L ap 65536)])] [(2,oB true 1 enc16 os)] [(5,oB true 1 enc16 (os ++ [u16I (tNext L ap 65536)])),(4,oB true 1 enc16 [u16I (tNext L ap 65536)])] [(5,oB true 1 enc16 (os ++ [u16I (tNext L ap 65536)]))] [(5,oB true 1 enc16 (os ++ [u16I (tNext L ap 65536)])),(4,oB true 1 enc16 [u16I (tNext L ap 65536)]),(0,.obj [pS 1 false encI L,pN (tStep L ap 65536)]),(1,.obj [pI e1,pI (tNext L (tStep L a 12) 70),pI (tNext L (tStep L (tStep L a 12) 70) 26),pI 0,pI 0,pNil,PV.ref 2 0 none,p16 0,p16 0]),(3,.obj [pI 0,pI 0,pI 0,pI 0,pI 0,pNil,pNil,p16 0,p16 0])] rfl rfl rfl rfl rfl rfl (s_appR0 (f := enc16) (l := os) (xs := [u16I (tNext L ap 65536)]) tab_24 rfl tab_25 ⟨rfl,by decide,by decide⟩ (srcM tab_24 rfl (hM_ref0 (f := enc16) rfl rfl)) rfl rfl (by first|omega|(simp; omega)) ⟨rfl,rfl,rfl⟩) rfl ⟨rfl,trivial⟩ rfl rfl ?_
            refine d_op ?_
            refine x_run0 [(3,PV.ptr 1 0)] [0,1,2,3,4,5,6] rfl rfl rfl rfl (s_fa_ptr tab_27 rfl rfl tab_24 (by decide) rfl ⟨rfl,rfl,rfl⟩) ?_
            refine d_op ?_
            refine x_run [(102,PV.ptr 1 6),(101,PV.ref 5 0 none)] [0,1,2,3,4,5,6,7] [] [(1,.obj [pI e1,pI (tNext L (tStep L a 12) 70),pI (tNext L (tStep L (tStep L a 12) 70) 26),pI 0,pI 0,pNil,PV.ref 2 0 none,p16 0,p16 0])] [(1,.obj [pI e1,pI (tNext L (tStep L a 12) 70),pI (tNext L (tStep L (tStep L a 12) 70) 26),pI 0,pI 0,pNil,PV.ref 5 0 none,p16 0,p16 0])] [(1,.obj [pI e1,pI (tNext L (tStep L a 12) 70),pI (tNext L (tStep L (tStep L a 12) 70) 26),pI 0,pI 0,pNil,PV.ref 5 0 none,p16 0,p16 0])] [(1,.obj [pI e1,pI (tNext L (tStep L a 12) 70),pI (tNext L (tStep L (tStep L a 12) 70) 26),pI 0,pI 0,pNil,PV.ref 5 0 none,p16 0,p16 0]),(5,oB true 1 enc16 (os ++ [u16I (tNext L ap 65536)])),(4,oB true 1 enc16 [u16I (tNext L ap 65536)]),(0,.obj [pS 1 false encI L,pN (tStep L ap 65536)]),(3,.obj [pI 0,pI 0,pI 0,pI 0,pI 0,pNil,pNil,p16 0,p16 0])] rfl rfl rfl rfl rfl rfl (s_store_ptr tab_24 rfl rfl rfl rfl rfl (Nat.le_of_ble_eq_true rfl) ⟨rfl,rfl,rfl⟩) rfl trivial rfl rfl ?_
            refine d_end ⟨by kernel_rfl, ?_⟩
            refine q_block ?_
            refine q_then ?_
            refine w_R ?_
            refine qm hnt rfl rfl ?_
            refine qo hnt rfl (s_addN (a := i) (b := 1) rfl rfl (by omega) (by omega) (by omega) ?_)
            refine qa hnt rfl rfl ?_
            refine r_end ?_
            refine q_then ?_
            refine ⟨(tStep L ap 65536),(os ++ [u16I (tNext L ap 65536)]),(i + 1), ?_, ?_,⟨[(0,0),(1,1),(2,5),(3,3)],by rw [hk]; decide,⟨⟨_,rfl,rfl,rfl⟩,⟨_,rfl,rfl,rfl⟩,⟨_,rfl,rfl,rfl⟩,⟨_,rfl,rfl,rfl⟩,trivial⟩,⟨⟨_,_,rfl,rfl,rfl,rfl⟩,⟨_,_,rfl,rfl,rfl,rfl⟩,⟨_,_,rfl,rfl,rfl,rfl⟩,⟨_,_,rfl,rfl,rfl,rfl⟩,trivial⟩,by rw [hk]; decide⟩⟩
            ·
             exact ⟨by omega,by simp [hol]⟩
            · omega
           ·
            have c11_ := c11
            try simp only [sB] at c11
            refine w_exit ?_
            refine q_then_exit ?_
            refine q_then_exit ?_
            refine q_block_exit ?_
            refine q_block ?_
            refine q_then ?_
            refine w_seq ?_
            refine w_R ?_
            refine qo hnt rfl (s_load_ptr tab_27 rfl rfl rfl (Nat.le_of_ble_eq_true rfl) ?_)
            refine qo hnt rfl (s_store_ptr tab_27 rfl rfl rfl rfl rfl (Nat.le_of_ble_eq_true rfl) ?_)
            refine r_set [(2,PV.ptr 3 0)] [(3,.obj [pI e1,pI (tNext L (tStep L a 12) 70),pI (tNext L (tStep L (tStep L a 12) 70) 26),pI 0,pI 0,pNil,PV.ref 2 0 none,p16 0,p16 0]),(0,.obj [pS 1 false encI L,pN ap]),(1,.obj [pI e1,pI (tNext L (tStep L a 12) 70),pI (tNext L (tStep L (tStep L a 12) 70) 26),pI 0,pI 0,pNil,PV.ref 2 0 none,p16 0,p16 0]),(2,oB true 1 enc16 os)] 4 ⟨rfl,trivial⟩ rfl rfl ?_
            refine r_end ?_
            refine q_then ?_
            refine w_frzC (n := 3) (j := 6) rfl rfl rfl rfl ?_
            refine w_leO (n := 3) (ds := [pI e1,pI (tNext L (tStep L a 12) 70),pI (tNext L (tStep L (tStep L a 12) 70) 26),pI 0,pI 0,pS 1 false encBo [],pS 1 false enc16 os,p16 0,p16 0]) rfl ⟨le_refl _,le_refl _,le_refl _,le_refl _,le_refl _,le_nilS 1 false,le_refl _,le_refl _,le_refl _,trivial⟩ ?_
            refine w_ret ?_
            have hex : rightR (⟨e1,tNext L (tStep L a 12) 70,tNext L (tStep L (tStep L a 12) 70) 26,0,0,[],os,0,0⟩ : TRequest) = 0 ∧ (⟨e1,tNext L (tStep L a 12) 70,tNext L (tStep L (tStep L a 12) 70) 26,0,0,[],os,0,0⟩ : TRequest).bits.length ≤ 25 ∧ (⟨e1,tNext L (tStep L a 12) 70,tNext L (tStep L (tStep L a 12) 70) 26,0,0,[],os,0,0⟩ : TRequest).vals.length ≤ 25 ∧ 0 ≤ (⟨e1,tNext L (tStep L a 12) 70,tNext L (tStep L (tStep L a 12) 70) 26,0,0,[],os,0,0⟩ : TRequest).count ∧ (⟨e1,tNext L (tStep L a 12) 70,tNext L (tStep L (tStep L a 12) 70) 26,0,0,[],os,0,0⟩ : TRequest).count ≤ 25 := by
              refine ⟨(shapeR_iff (q := _) hfn).2 ?_,by simp; try omega,by simp; try omega,by simp; try omega,by simp; try omega⟩
              constructor
              case bits => simp only; first|rfl|(rw [if_neg (by omega),if_neg (by omega)]; rfl)|(rw [if_pos (by omega)]; rfl)|(rw [if_neg (by omega),if_pos (by omega)]; exact ⟨by omega,by omega⟩)
              case vals => simp only; first|rfl|(rw [if_neg (by omega),if_neg (by omega),if_neg (by omega)]; rfl)|(rw [if_pos (by omega)]; rfl)|(rw [if_neg (by omega),if_pos (by omega)]; exact ⟨by omega,by omega⟩)|(rw [if_neg (by omega),if_neg (by omega),if_pos (by omega)]; omega)
              all_goals first|(intro _; rfl)|(intro _; exact ⟨rfl,rfl⟩)|(simp only; omega)|(intro h; simp at h)|(intro h; exact absurd rfl h)|(simp; omega)
            exact fin_names (nx1 := 1) (H1 := [(0,.obj [pS 1 false encI L,pN ap])]) [(0,0)] (ret_cell tab_27 (by decide) rfl rfl (Nat.le_of_ble_eq_true rfl) rfl ret_nil) rfl (by decide) ⟨⟨_,_,rfl,rfl,rfl,rfl⟩,trivial⟩ (by decide) rfl ⟨((⟨e1,tNext L (tStep L a 12) 70,tNext L (tStep L (tStep L a 12) 70) 26,0,0,[],os,0,0⟩ : TRequest)),(ap),hex,rfl,rfl,rfl⟩
         ·
          have c10_ := c10
          try simp only [sB] at c10
          refine w_seq ?_
          refine w_R ?_
          refine qo hnt rfl (s_eql rfl rfl ?_)
          refine qa hnt rfl rfl ?_
          refine r_end ?_
          refine q_then ?_
          refine w_if rfl (fun c12 => ?_) (fun c12 => ?_)
          ·
           have c12_ := c12
           try simp only [sB] at c12
           refine w_R ?_
           refine qm hnt rfl rfl ?_
           refine qm hnt rfl rfl ?_
           refine qo hnt rfl (s_callX (r2 := pI (tNext L (tStep L (tStep L a 12) 70) 65536)) (nx1 := 4) (H2 := [(0,.obj [pS 1 false encI L,pN (tStep L (tStep L a 12) 70)]),(3,.obj [pI e1,pI 0,pI 0,pI 0,pI 0,pNil,pNil,p16 0,p16 0]),(2,oB true 1 encI fnsL),(1,.obj [pI 0,pI 0,pI 0,pI 0,pI 0,pNil,pNil,p16 0,p16 0])]) (H3 := [(0,.obj [pS 1 false encI L,pN (tStep L (tStep L (tStep L a 12) 70) 65536)]),(3,.obj [pI e1,pI 0,pI 0,pI 0,pI 0,pNil,pNil,p16 0,p16 0]),(2,oB true 1 encI fnsL),(1,.obj [pI 0,pI 0,pI 0,pI 0,pI 0,pNil,pNil,p16 0,p16 0])]) [0] [.obj [pS 1 false encI L,pN (tStep L (tStep L a 12) 70)]] rfl rfl rfl (handed_of (by decide) ⟨rfl,trivial⟩) rfl rfl rfl rfl rfl rfl (w_burgagekeep_Tape_Next L false (tStep L (tStep L a 12) 70) 65536 (by first|omega|assumption|(simp; omega)|decide|(simp; done)) (by first|omega|assumption|(simp; omega)|decide|(simp; done))) rfl (dist_of rfl) rfl rfl rfl rfl ?_)
           refine qo hnt rfl (s_cv16 tab_3 tab_25 rfl rfl rfl ?_)
           refine qm hnt rfl rfl ?_
           refine qo hnt rfl (s_callX (r2 := pI (tNext L (tStep L (tStep L (tStep L a 12) 70) 65536) 65536)) (nx1 := 4) (H2 := [(0,.obj [pS 1 false encI L,pN (tStep L (tStep L (tStep L a 12) 70) 65536)]),(3,.obj [pI e1,pI 0,pI 0,pI 0,pI 0,pNil,pNil,p16 0,p16 0]),(2,oB true 1 encI fnsL),(1,.obj [pI 0,pI 0,pI 0,pI 0,pI 0,pNil,pNil,p16 0,p16 0])]) (H3 := [(0,.obj [pS 1 false encI L,pN (tStep L (tStep L (tStep L (tStep L a 12) 70) 65536) 65536)]),(3,.obj [pI e1,pI 0,pI 0,pI 0,pI 0,pNil,pNil,p16 0,p16 0]),(2,oB true 1 encI fnsL),(1,.obj [pI 0,pI 0,pI 0,pI 0,pI 0,pNil,pNil,p16 0,p16 0])]) [0] [.obj [pS 1 false encI L,pN (tStep L (tStep L (tStep L a 12) 70) 65536)]] rfl rfl rfl (handed_of (by decide) ⟨rfl,trivial⟩) rfl rfl rfl rfl rfl rfl (w_burgagekeep_Tape_Next L false (tStep L (tStep L (tStep L a 12) 70) 65536) 65536 (by first|omega|assumption|(simp; omega)|decide|(simp; done)) (by first|omega|assumption|(simp; omega)|decide|(simp; done))) rfl (dist_of rfl) rfl rfl rfl rfl ?_)
           refine qo hnt rfl (s_cv16 tab_3 tab_25 rfl rfl rfl ?_)
           refine qo hnt rfl (s_fa_ptr tab_27 rfl rfl tab_3 (by decide) rfl ?_)
           refine qo hnt rfl (s_store_ptr tab_3 rfl rfl rfl rfl rfl (Nat.le_of_ble_eq_true rfl) ?_)
           refine qo hnt rfl (s_fa_ptr tab_27 rfl rfl tab_25 (by decide) rfl ?_)
           refine qo hnt rfl (s_store_ptr tab_25 rfl rfl rfl rfl rfl (Nat.le_of_ble_eq_true rfl) ?_)
           refine qo hnt rfl (s_fa_ptr tab_27 rfl rfl tab_25 (by decide) rfl ?_)
           refine qo hnt rfl (s_store_ptr tab_25 rfl rfl rfl rfl rfl (Nat.le_of_ble_eq_true rfl) ?_)
           refine r_set [(2,PV.ptr 1 0),(3,PV.ptr 3 0)] [(3,.obj [pI e1,pI (tNext L (tStep L a 12) 70),pI 0,pI 0,pI 0,pNil,pNil,p16 (u16I (tNext L (tStep L (tStep L a 12) 70) 65536)),p16 (u16I (tNext L (tStep L (tStep L (tStep L a 12) 70) 65536) 65536))]),(0,.obj [pS 1 false encI L,pN (tStep L (tStep L (tStep L (tStep L a 12) 70) 65536) 65536)]),(2,oB true 1 encI fnsL),(1,.obj [pI 0,pI 0,pI 0,pI 0,pI 0,pNil,pNil,p16 0,p16 0])] 4 ⟨rfl,rfl,trivial⟩ rfl rfl ?_
           refine r_end ?_
           refine q_block ?_
           refine q_then ?_
           refine w_seq ?_
           refine w_R ?_
           refine qo hnt rfl (s_load_ptr tab_27 rfl rfl rfl (Nat.le_of_ble_eq_true rfl) ?_)
           refine qo hnt rfl (s_store_ptr tab_27 rfl rfl rfl rfl rfl (Nat.le_of_ble_eq_true rfl) ?_)
           refine r_set [(2,PV.ptr 1 0)] [(1,.obj [pI e1,pI (tNext L (tStep L a 12) 70),pI 0,pI 0,pI 0,pNil,pNil,p16 (u16I (tNext L (tStep L (tStep L a 12) 70) 65536)),p16 (u16I (tNext L (tStep L (tStep L (tStep L a 12) 70) 65536) 65536))]),(3,.obj [pI e1,pI (tNext L (tStep L a 12) 70),pI 0,pI 0,pI 0,pNil,pNil,p16 (u16I (tNext L (tStep L (tStep L a 12) 70) 65536)),p16 (u16I (tNext L (tStep L (tStep L (tStep L a 12) 70) 65536) 65536))]),(0,.obj [pS 1 false encI L,pN (tStep L (tStep L (tStep L (tStep L a 12) 70) 65536) 65536)]),(2,oB true 1 encI fnsL)] 4 ⟨rfl,trivial⟩ rfl rfl ?_
           refine r_end ?_
           refine q_then ?_
           refine w_leO (n := 1) (ds := [pI e1,pI (tNext L (tStep L a 12) 70),pI 0,pI 0,pI 0,pS 1 false encBo [],pS 1 false enc16 [],p16 (u16I (tNext L (tStep L (tStep L a 12) 70) 65536)),p16 (u16I (tNext L (tStep L (tStep L (tStep L a 12) 70) 65536) 65536))]) rfl ⟨le_refl _,le_refl _,le_refl _,le_refl _,le_refl _,le_nilS 1 false,le_nilS 1 false,le_refl _,le_refl _,trivial⟩ ?_
           refine w_ret ?_
           have hex : rightR (⟨e1,tNext L (tStep L a 12) 70,0,0,0,[],[],u16I (tNext L (tStep L (tStep L a 12) 70) 65536),u16I (tNext L (tStep L (tStep L (tStep L a 12) 70) 65536) 65536)⟩ : TRequest) = 0 ∧ (⟨e1,tNext L (tStep L a 12) 70,0,0,0,[],[],u16I (tNext L (tStep L (tStep L a 12) 70) 65536),u16I (tNext L (tStep L (tStep L (tStep L a 12) 70) 65536) 65536)⟩ : TRequest).bits.length ≤ 25 ∧ (⟨e1,tNext L (tStep L a 12) 70,0,0,0,[],[],u16I (tNext L (tStep L (tStep L a 12) 70) 65536),u16I (tNext L (tStep L (tStep L (tStep L a 12) 70) 65536) 65536)⟩ : TRequest).vals.length ≤ 25 ∧ 0 ≤ (⟨e1,tNext L (tStep L a 12) 70,0,0,0,[],[],u16I (tNext L (tStep L (tStep L a 12) 70) 65536),u16I (tNext L (tStep L (tStep L (tStep L a 12) 70) 65536) 65536)⟩ : TRequest).count ∧ (⟨e1,tNext L (tStep L a 12) 70,0,0,0,[],[],u16I (tNext L (tStep L (tStep L a 12) 70) 65536),u16I (tNext L (tStep L (tStep L (tStep L a 12) 70) 65536) 65536)⟩ : TRequest).count ≤ 25 := by
             refine ⟨(shapeR_iff (q := _) hfn).2 ?_,by simp; try omega,by simp; try omega,by simp; try omega,by simp; try omega⟩
             constructor
             case bits => simp only; first|rfl|(rw [if_neg (by omega),if_neg (by omega)]; rfl)|(rw [if_pos (by omega)]; rfl)|(rw [if_neg (by omega),if_pos (by omega)]; exact ⟨by omega,by omega⟩)
             case vals => simp only; first|rfl|(rw [if_neg (by omega),if_neg (by omega),if_neg (by omega)]; rfl)|(rw [if_pos (by omega)]; rfl)|(rw [if_neg (by omega),if_pos (by omega)]; exact ⟨by omega,by omega⟩)|(rw [if_neg (by omega),if_neg (by omega),if_pos (by omega)]; omega)
             all_goals first|(intro _; rfl)|(intro _; exact ⟨rfl,rfl⟩)|(simp only; omega)|(intro h; simp at h)|(intro h; exact absurd rfl h)|(simp; omega)
           exact fin_names (nx1 := 1) (H1 := [(0,.obj [pS 1 false encI L,pN (tStep L (tStep L (tStep L (tStep L a 12) 70) 65536) 65536)])]) [(0,0)] (ret_cell tab_27 (by decide) rfl rfl (Nat.le_of_ble_eq_true rfl) rfl ret_nil) rfl (by decide) ⟨⟨_,_,rfl,rfl,rfl,rfl⟩,trivial⟩ (by decide) rfl ⟨((⟨e1,tNext L (tStep L a 12) 70,0,0,0,[],[],u16I (tNext L (tStep L (tStep L a 12) 70) 65536),u16I (tNext L (tStep L (tStep L (tStep L a 12) 70) 65536) 65536)⟩ : TRequest)),(tStep L (tStep L (tStep L (tStep L a 12) 70) 65536) 65536),hex,rfl,rfl,rfl⟩
          ·
           have c12_ := c12
           try simp only [sB] at c12
           refine w_seq ?_
           refine w_R ?_
           refine qo hnt rfl (s_eql rfl rfl ?_)
           refine qa hnt rfl rfl ?_
           refine r_end ?_
           refine q_then ?_
           refine w_if rfl (fun c13 => ?_) (fun c13 => ?_)
           ·
            have c13_ := c13
            try simp only [sB] at c13
            refine w_seq ?_
            have h20 := tNext_lt L (tStep L (tStep L a 12) 70) (n := 20) (by decide)
            have h40 := tNext_lt L (tStep L (tStep L (tStep L a 12) 70) 20) (n := 40) (by decide)
            refine w_R ?_
            refine qm hnt rfl rfl ?_
            refine qm hnt rfl rfl ?_
            refine qo hnt rfl (s_callX (r2 := pI (tNext L (tStep L (tStep L a 12) 70) 20)) (nx1 := 4) (H2 := [(0,.obj [pS 1 false encI L,pN (tStep L (tStep L a 12) 70)]),(3,.obj [pI e1,pI 0,pI 0,pI 0,pI 0,pNil,pNil,p16 0,p16 0]),(2,oB true 1 encI fnsL),(1,.obj [pI 0,pI 0,pI 0,pI 0,pI 0,pNil,pNil,p16 0,p16 0])]) (H3 := [(0,.obj [pS 1 false encI L,pN (tStep L (tStep L (tStep L a 12) 70) 20)]),(3,.obj [pI e1,pI 0,pI 0,pI 0,pI 0,pNil,pNil,p16 0,p16 0]),(2,oB true 1 encI fnsL),(1,.obj [pI 0,pI 0,pI 0,pI 0,pI 0,pNil,pNil,p16 0,p16 0])]) [0] [.obj [pS 1 false encI L,pN (tStep L (tStep L a 12) 70)]] rfl rfl rfl (handed_of (by decide) ⟨rfl,trivial⟩) rfl rfl rfl rfl rfl rfl (w_burgagekeep_Tape_Next L false (tStep L (tStep L a 12) 70) 20 (by first|omega|assumption|(simp; omega)|decide|(simp; done)) (by first|omega|assumption|(simp; omega)|decide|(simp; done))) rfl (dist_of rfl) rfl rfl rfl rfl ?_)
            refine qm hnt rfl rfl ?_
            refine qo hnt rfl (s_callX (r2 := pI (tNext L (tStep L (tStep L (tStep L a 12) 70) 20) 40)) (nx1 := 4) (H2 := [(0,.obj [pS 1 false encI L,pN (tStep L (tStep L (tStep L a 12) 70) 20)]),(3,.obj [pI e1,pI 0,pI 0,pI 0,pI 0,pNil,pNil,p16 0,p16 0]),(2,oB true 1 encI fnsL),(1,.obj [pI 0,pI 0,pI 0,pI 0,pI 0,pNil,pNil,p16 0,p16 0])]) (H3 := [(0,.obj [pS 1 false encI L,pN (tStep L (tStep L (tStep L (tStep L a 12) 70) 20) 40)]),(3,.obj [pI e1,pI 0,pI 0,pI 0,pI 0,pNil,pNil,p16 0,p16 0]),(2,oB true 1 encI fnsL),(1,.obj [pI 0,pI 0,pI 0,pI 0,pI 0,pNil,pNil,p16 0,p16 0])]) [0] [.obj [pS 1 false encI L,pN (tStep L (tStep L (tStep L a 12) 70) 20)]] rfl rfl rfl (handed_of (by decide) ⟨rfl,trivial⟩) rfl rfl rfl rfl rfl rfl (w_burgagekeep_Tape_Next L false (tStep L (tStep L (tStep L a 12) 70) 20) 40 (by first|omega|assumption|(simp; omega)|decide|(simp; done)) (by first|omega|assumption|(simp; omega)|decide|(simp; done))) rfl (dist_of rfl) rfl rfl rfl rfl ?_)
            refine qo hnt rfl (s_fa_ptr tab_27 rfl rfl tab_3 (by decide) rfl ?_)
            refine qo hnt rfl (s_store_ptr tab_3 rfl rfl rfl rfl rfl (Nat.le_of_ble_eq_true rfl) ?_)
            refine qo hnt rfl (s_fa_ptr tab_27 rfl rfl tab_3 (by decide) rfl ?_)
            refine qo hnt rfl (s_store_ptr tab_3 rfl rfl rfl rfl rfl (Nat.le_of_ble_eq_true rfl) ?_)
            refine qo hnt rfl (s_fa_ptr tab_27 rfl rfl tab_3 (by decide) rfl ?_)
            refine qo hnt rfl (s_store_ptr tab_3 rfl rfl rfl rfl rfl (Nat.le_of_ble_eq_true rfl) ?_)
            refine r_set [(0,PV.ptr 0 0),(2,PV.ptr 1 0),(3,PV.ptr 3 0)] [(3,.obj [pI e1,pI (tNext L (tStep L a 12) 70),pI (tNext L (tStep L (tStep L a 12) 70) 20),pI (tNext L (tStep L (tStep L (tStep L a 12) 70) 20) 40),pI 0,pNil,pNil,p16 0,p16 0]),(0,.obj [pS 1 false encI L,pN (tStep L (tStep L (tStep L (tStep L a 12) 70) 20) 40)]),(2,oB true 1 encI fnsL),(1,.obj [pI 0,pI 0,pI 0,pI 0,pI 0,pNil,pNil,p16 0,p16 0])] 4 ⟨rfl,rfl,rfl,trivial⟩ rfl rfl ?_
            refine r_end ?_
            refine q_then ?_
            refine w_seq ?_
            have h22 := tNext_lt L (tStep L (tStep L (tStep L (tStep L a 12) 70) 20) 40) (n := 20) (by decide)
            refine w_R ?_
            refine qm hnt rfl rfl ?_
            refine qo hnt rfl (s_callX (r2 := pI (tNext L (tStep L (tStep L (tStep L (tStep L a 12) 70) 20) 40) 20)) (nx1 := 4) (H2 := [(3,.obj [pI e1,pI (tNext L (tStep L a 12) 70),pI (tNext L (tStep L (tStep L a 12) 70) 20),pI (tNext L (tStep L (tStep L (tStep L a 12) 70) 20) 40),pI 0,pNil,pNil,p16 0,p16 0]),(0,.obj [pS 1 false encI L,pN (tStep L (tStep L (tStep L (tStep L a 12) 70) 20) 40)]),(2,oB true 1 encI fnsL),(1,.obj [pI 0,pI 0,pI 0,pI 0,pI 0,pNil,pNil,p16 0,p16 0])]) (H3 := [(0,.obj [pS 1 false encI L,pN (tStep L (tStep L (tStep L (tStep L (tStep L a 12) 70) 20) 40) 20)]),(3,.obj [pI e1,pI (tNext L (tStep L a 12) 70),pI (tNext L (tStep L (tStep L a 12) 70) 20),pI (tNext L (tStep L (tStep L (tStep L a 12) 70) 20) 40),pI 0,pNil,pNil,p16 0,p16 0]),(2,oB true 1 encI fnsL),(1,.obj [pI 0,pI 0,pI 0,pI 0,pI 0,pNil,pNil,p16 0,p16 0])]) [0] [.obj [pS 1 false encI L,pN (tStep L (tStep L (tStep L (tStep L a 12) 70) 20) 40)]] rfl rfl rfl (handed_of (by decide) ⟨rfl,trivial⟩) rfl rfl rfl rfl rfl rfl (w_burgagekeep_Tape_Next L false (tStep L (tStep L (tStep L (tStep L a 12) 70) 20) 40) 20 (by first|omega|assumption|(simp; omega)|decide|(simp; done)) (by first|omega|assumption|(simp; omega)|decide|(simp; done))) rfl (dist_of rfl) rfl rfl rfl rfl ?_)
            refine qa hnt rfl rfl ?_
            refine r_set [(0,PV.ptr 0 0),(2,PV.ptr 1 0),(3,PV.ptr 3 0),(7,pI (tNext L (tStep L (tStep L (tStep L (tStep L a 12) 70) 20) 40) 20))] [(0,.obj [pS 1 false encI L,pN (tStep L (tStep L (tStep L (tStep L (tStep L a 12) 70) 20) 40) 20)]),(3,.obj [pI e1,pI (tNext L (tStep L a 12) 70),pI (tNext L (tStep L (tStep L a 12) 70) 20),pI (tNext L (tStep L (tStep L (tStep L a 12) 70) 20) 40),pI 0,pNil,pNil,p16 0,p16 0]),(2,oB true 1 encI fnsL),(1,.obj [pI 0,pI 0,pI 0,pI 0,pI 0,pNil,pNil,p16 0,p16 0])] 4 ⟨rfl,rfl,rfl,rfl,trivial⟩ rfl rfl ?_
            refine r_end ?_
            refine q_then ?_
            refine w_block ?_
            refine w_adoptC (n := 3) (j := 6) (sz := 1) rfl rfl rfl ?_
            refine loop3 (fun (ap : Nat) (os : List UInt16) (k : Int) => (os.length : Int) + k ≤ 19 ∧ 0 ≤ k) (fun (ap : Nat) (os : List UInt16) (k : Int) => [(0,PV.ptr 0 0),(2,PV.ptr 3 0),(3,PV.ptr 1 0),(7,pI k)]) 4 (fun (ap : Nat) (os : List UInt16) (k : Int) => [(0,.obj [pS 1 false encI L,pN ap]),(1,.obj [pI e1,pI (tNext L (tStep L a 12) 70),pI (tNext L (tStep L (tStep L a 12) 70) 20),pI (tNext L (tStep L (tStep L (tStep L a 12) 70) 20) 40),pI 0,pNil,PV.ref 2 0 none,p16 0,p16 0]),(2,oB true 1 enc16 os),(3,.obj [pI 0,pI 0,pI 0,pI 0,pI 0,pNil,pNil,p16 0,p16 0])]) (fun (ap : Nat) (os : List UInt16) (k : Int) => k.toNat) (tStep L (tStep L (tStep L (tStep L (tStep L a 12) 70) 20) 40) 20) (([] : List UInt16)) (tNext L (tStep L (tStep L (tStep L (tStep L a 12) 70) 20) 40) 20) ?_ ⟨[(0,0),(1,3),(2,4),(3,1)],by rw [hk]; decide,⟨⟨_,rfl,rfl,rfl⟩,⟨_,rfl,rfl,rfl⟩,⟨_,rfl,rfl,rfl⟩,⟨_,rfl,rfl,rfl⟩,trivial⟩,⟨⟨_,_,rfl,rfl,rfl,rfl⟩,⟨_,_,rfl,rfl,rfl,rfl⟩,⟨_,_,rfl,rfl,rfl,rfl⟩,⟨_,_,rfl,rfl,rfl,rfl⟩,trivial⟩,by rw [hk]; decide⟩ ?_
            · exact ⟨by simp; omega,by omega⟩
            ·
             intro ap os k hI
             obtain ⟨hkm,hk0⟩ := hI
             refine w_seq ?_
             refine w_seq ?_
             refine w_R ?_
             refine qm hnt rfl rfl ?_
             refine qo hnt rfl (s_gtr rfl rfl ?_)
             refine r_end ?_
             refine q_then ?_
             refine w_if rfl (fun c14 => ?_) (fun c14 => ?_)
             ·
              have c14_ := c14
              try simp only [sB] at c14
              refine w_skip ?_
              refine q_then ?_
              refine w_seq ?_
              refine w_block ?_
              refine W_drawn tabOk mixed hnt [[],[0],[],[2],[2,3],[2,3,4],[0,1,2,3,4,5],[0,1,2,3,4,5,6],[0,1,2,3,4,5,6,7]] (by kernel_rfl) ?_
              refine d_op ?_
              refine x_run0 [(3,PV.ptr 1 0)] [] rfl rfl rfl rfl (s_fa_ptr tab_27 rfl rfl tab_24 (by decide) rfl ⟨rfl,rfl,rfl⟩) ?_
              refine d_op ?_
              refine x_run [(131,PV.ptr 1 6)] [0] [(1,.obj [pI e1,pI (tNext L (tStep L a 12) 70),pI (tNext L (tStep L (tStep L a 12) 70) 20),pI (tNext L (tStep L (tStep L (tStep L a 12) 70) 20) 40),pI 0,pNil,PV.ref 2 0 none,p16 0,p16 0])] [] [(1,.obj [pI e1,pI (tNext L (tStep L a 12) 70),pI (tNext L (tStep L (tStep L a 12) 70) 20),pI (tNext L (tStep L (tStep L (tStep L a 12) 70) 20) 40),pI 0,pNil,PV.ref 2 0 none,p16 0,p16 0])] [] [(0,.obj [pS 1 false encI L,pN ap]),(1,.obj [pI e1,pI (tNext L (tStep L a 12) 70),pI (tNext L (tStep L (tStep L a 12) 70) 20),pI (tNext L (tStep L (tStep L (tStep L a 12) 70) 20) 40),pI 0,pNil,PV.ref 2 0 none,p16 0,p16 0]),(2,oB true 1 enc16 os),(3,.obj [pI 0,pI 0,pI 0,pI 0,pI 0,pNil,pNil,p16 0,p16 0])] rfl rfl rfl rfl rfl rfl (s_load_ptr1 tab_24 rfl rfl rfl rfl rfl ⟨rfl,rfl,rfl⟩) rfl ⟨rfl,trivial⟩ rfl rfl ?_
              refine d_op ?_
              refine x_run0 [(0,PV.ptr 0 0)] [] rfl rfl rfl rfl (s_move rfl ⟨rfl,rfl,rfl⟩) ?_
              refine d_op ?_
              refine x_run [(133,PV.ptr 0 0)] [2] [] [(0,.obj [pS 1 false encI L,pN ap])] [(0,.obj [pS 1 false encI L,pN (tStep L ap 65536)])] [(0,.obj [pS 1 false encI L,pN (tStep L ap 65536)])] [(0,.obj [pS 1 false encI L,pN (tStep L ap 65536)]),(1,.obj [pI e1,pI (tNext L (tStep L a 12) 70),pI (tNext L (tStep L (tStep L a 12) 70) 20),pI (tNext L (tStep L (tStep L (tStep L a 12) 70) 20) 40),pI 0,pNil,PV.ref 2 0 none,p16 0,p16 0]),(2,oB true 1 enc16 os),(3,.obj [pI 0,pI 0,pI 0,pI 0,pI 0,pNil,pNil,p16 0,p16 0])] rfl rfl rfl rfl rfl rfl (s_callX (r2 := pI (tNext L ap 65536)) (nx1 := 4) (H2 := [(0,.obj [pS 1 false encI L,pN ap])]) (H3 := [(0,.obj [pS 1 false encI L,pN (tStep L ap 65536)])]) [0] [.obj [pS 1 false encI L,pN ap]] rfl rfl rfl (handed_of (by decide) ⟨rfl,trivial⟩) rfl rfl rfl rfl rfl rfl (w_burgagekeep_Tape_Next L false ap 65536 (by first|omega|assumption|(simp; omega)|decide|(simp; done)) (by first|omega|assumption|(simp; omega)|decide|(simp; done))) rfl (dist_of rfl) rfl rfl rfl rfl ⟨rfl,rfl,rfl⟩) rfl trivial rfl rfl ?_
              refine d_op ?_
              refine x_run0 [(134,pI (tNext L ap 65536))] [2,3] rfl rfl rfl rfl (s_cv16 tab_3 tab_25 rfl rfl rfl ⟨rfl,rfl,rfl⟩) ?_
              refine d_op ?_
              refine x_run [(135,p16 (u16I (tNext L ap 65536)))] [2,3,4] [] [] [(4,oB true 1 enc16 [u16I (tNext L ap 65536)])] [(4,oB true 1 enc16 [u16I (tNext L ap 65536)])] [(4,oB true 1 enc16 [u16I (tNext L ap 65536)]),(0,.obj [pS 1 false encI L,pN (tStep L ap 65536)]),(1,.obj [pI e1,pI (tNext L (tStep L a 12) 70),pI (tNext L (tStep L (tStep L a 12) 70) 20),pI (tNext L (tStep L (tStep L (tStep L a 12) 70) 20) 40),pI 0,pNil,PV.ref 2 0 none,p16 0,p16 0]),(2,oB true 1 enc16 os),(3,.obj [pI 0,pI 0,pI 0,pI 0,pI 0,pNil,pNil,p16 0,p16 0])] rfl rfl rfl rfl rfl rfl (s_mkM (f := enc16) [u16I (tNext L ap 65536)] tab_24 rfl tab_25 ⟨rfl,by decide⟩ (by decide) rfl rfl rfl rfl ⟨rfl,rfl,rfl⟩) rfl trivial rfl rfl ?_
              refine d_op ?_
              refine x_run [(132,PV.ref 2 0 none),(136,PV.ref 4 0 none)] [0,1,2,3,4,5] [(4,oB true 1 enc16 [u16I (tNext L ap 65536)])] [(2,oB true 1 enc16 os)] [(5,oB true 1 enc16 (os ++ [u16I (tNext L ap 65536)])),(4,oB true 1 enc16 [u16I (tNext L ap 65536)])] [(5,oB true 1 enc16 (os ++ [u16I (tNext L ap 65536)]))] [(5,oB true 1 enc16 (os ++ [u16I (tNext L ap 65536)])),(4,oB true 1 enc16 [u16I (tNext L ap 65536)]),(0,.obj [pS 1 false encI L,pN (tStep L ap 65536)]),(1,.obj [pI e1,pI (tNext L (tStep L a 12) 70),pI (tNext L (tStep L (tStep L a 12) 70) 20),pI (tNext L (tStep L (tStep L (tStep L a 12) 70) 20) 40),pI 0,pNil,PV.ref 2 0 none,p16 0,p16 0]),(3,.obj [pI 0,pI 0,pI 0,pI 0,pI 0,pNil,pNil,p16 0,p16 0])] rfl rfl rfl rfl rfl rfl (s_appR0 (f := enc16) (l := os) (xs := [u16I (tNext L ap 65536)]) tab_24 rfl tab_25 ⟨rfl,by decide,by decide⟩ (srcM tab_24 rfl (hM_ref0 (f := enc16) rfl rfl)) rfl rfl (by first|omega|(simp; omega)) ⟨rfl,rfl,rfl⟩) rfl ⟨rfl,trivial⟩ rfl rfl ?_
              refine d_op ?_
              refine x_run0 [(3,PV.ptr 1 0)] [0,1,2,3,4,5,6] rfl rfl rfl rfl (s_fa_ptr tab_27 rfl rfl tab_24 (by decide) rfl ⟨rfl,rfl,rfl⟩) ?_
              refine d_op ?_
              refine x_run [(138,PV.ptr 1 6),(137,PV.ref 5 0 none)] [0,1,2,3,4,5,6,7] [] [(1,.obj [pI e1,pI (tNext L (tStep L a 12) 70),pI (tNext L (tStep L (tStep L a 12) 70) 20),pI (tNext L (tStep L (tStep L (tStep L a 12) 70) 20) 40),pI 0,pNil,PV.ref 2 0 none,p16 0,p16 0])] [(1,.obj [pI e1,pI (tNext L (tStep L a 12) 70),pI (tNext L (tStep L (tStep L a 12) 70) 20),pI (tNext L (tStep L (tStep L (tStep L a 12) 70) 20) 40),pI 0,pNil,PV.ref 5 0 none,p16 0,p16 0])] [(1,.obj [pI e1,pI (tNext L (tStep L a 12) 70),pI (tNext L (tStep L (tStep L a 12) 70) 20),pI (tNext L (tStep L (tStep L (tStep L a 12) 70) 20) 40),pI 0,pNil,PV.ref 5 0 none,p16 0,p16 0])] [(1,.obj [pI e1,pI (tNext L (tStep L a 12) 70),pI (tNext L (tStep L (tStep L a 12) 70) 20),pI (tNext L (tStep L (tStep L (tStep L a 12) 70) 20) 40),pI 0,pNil,PV.ref 5 0 none,p16 0,p16 0]),(5,oB true 1 enc16 (os ++ [u16I (tNext L ap 65536)])),(4,oB true 1 enc16 [u16I (tNext L ap 65536)]),(0,.obj [pS 1 false encI L,pN (tStep L ap 65536)]),(3,.obj [pI 0,pI 0,pI 0,pI 0,pI 0,pNil,pNil,p16 0,p16 0])] rfl rfl rfl rfl rfl rfl (s_store_ptr tab_24 rfl rfl rfl rfl rfl (Nat.le_of_ble_eq_true rfl) ⟨rfl,rfl,rfl⟩) rfl trivial rfl rfl ?_
              refine d_end ⟨by kernel_rfl, ?_⟩
              refine q_block ?_
              refine q_then ?_
              refine w_R ?_
              refine qm hnt rfl rfl ?_
              refine qo hnt rfl (s_subi (r := k - 1) rfl rfl rfl (by omega) ?_)
              refine qa hnt rfl rfl ?_
              refine r_end ?_
              refine q_then ?_
              refine ⟨(tStep L ap 65536),(os ++ [u16I (tNext L ap 65536)]),(k - 1), ?_, ?_,⟨[(0,0),(1,1),(2,5),(3,3)],by rw [hk]; decide,⟨⟨_,rfl,rfl,rfl⟩,⟨_,rfl,rfl,rfl⟩,⟨_,rfl,rfl,rfl⟩,⟨_,rfl,rfl,rfl⟩,trivial⟩,⟨⟨_,_,rfl,rfl,rfl,rfl⟩,⟨_,_,rfl,rfl,rfl,rfl⟩,⟨_,_,rfl,rfl,rfl,rfl⟩,⟨_,_,rfl,rfl,rfl,rfl⟩,trivial⟩,by rw [hk]; decide⟩⟩
              ·
               exact ⟨by simp; omega,by omega⟩
              · omega
             ·
              have c14_ := c14
              try simp only [sB] at c14
              refine w_exit ?_
              refine q_then_exit ?_
              refine q_then_exit ?_
              refine q_block_exit ?_
              refine q_block ?_
              refine q_then ?_
              refine w_seq ?_
              refine w_R ?_
              refine qo hnt rfl (s_load_ptr tab_27 rfl rfl rfl (Nat.le_of_ble_eq_true rfl) ?_)
              refine qo hnt rfl (s_store_ptr tab_27 rfl rfl rfl rfl rfl (Nat.le_of_ble_eq_true rfl) ?_)
              refine r_set [(2,PV.ptr 3 0)] [(3,.obj [pI e1,pI (tNext L (tStep L a 12) 70),pI (tNext L (tStep L (tStep L a 12) 70) 20),pI (tNext L (tStep L (tStep L (tStep L a 12) 70) 20) 40),pI 0,pNil,PV.ref 2 0 none,p16 0,p16 0]),(0,.obj [pS 1 false encI L,pN ap]),(1,.obj [pI e1,pI (tNext L (tStep L a 12) 70),pI (tNext L (tStep L (tStep L a 12) 70) 20),pI (tNext L (tStep L (tStep L (tStep L a 12) 70) 20) 40),pI 0,pNil,PV.ref 2 0 none,p16 0,p16 0]),(2,oB true 1 enc16 os)] 4 ⟨rfl,trivial⟩ rfl rfl ?_
              refine r_end ?_
              refine q_then ?_
              refine w_frzC (n := 3) (j := 6) rfl rfl rfl rfl ?_
              refine w_leO (n := 3) (ds := [pI e1,pI (tNext L (tStep L a 12) 70),pI (tNext L (tStep L (tStep L a 12) 70) 20),pI (tNext L (tStep L (tStep L (tStep L a 12) 70) 20) 40),pI 0,pS 1 false encBo [],pS 1 false enc16 os,p16 0,p16 0]) rfl ⟨le_refl _,le_refl _,le_refl _,le_refl _,le_refl _,le_nilS 1 false,le_refl _,le_refl _,le_refl _,trivial⟩ ?_
              refine w_ret ?_
              have hex : rightR (⟨e1,tNext L (tStep L a 12) 70,tNext L (tStep L (tStep L a 12) 70) 20,tNext L (tStep L (tStep L (tStep L a 12) 70) 20) 40,0,[],os,0,0⟩ : TRequest) = 0 ∧ (⟨e1,tNext L (tStep L a 12) 70,tNext L (tStep L (tStep L a 12) 70) 20,tNext L (tStep L (tStep L (tStep L a 12) 70) 20) 40,0,[],os,0,0⟩ : TRequest).bits.length ≤ 25 ∧ (⟨e1,tNext L (tStep L a 12) 70,tNext L (tStep L (tStep L a 12) 70) 20,tNext L (tStep L (tStep L (tStep L a 12) 70) 20) 40,0,[],os,0,0⟩ : TRequest).vals.length ≤ 25 ∧ 0 ≤ (⟨e1,tNext L (tStep L a 12) 70,tNext L (tStep L (tStep L a 12) 70) 20,tNext L (tStep L (tStep L (tStep L a 12) 70) 20) 40,0,[],os,0,0⟩ : TRequest).count ∧ (⟨e1,tNext L (tStep L a 12) 70,tNext L (tStep L (tStep L a 12) 70) 20,tNext L (tStep L (tStep L (tStep L a 12) 70) 20) 40,0,[],os,0,0⟩ : TRequest).count ≤ 25 := by
                refine ⟨(shapeR_iff (q := _) hfn).2 ?_,by simp; try omega,by simp; try omega,by simp; try omega,by simp; try omega⟩
                constructor
                case bits => simp only; first|rfl|(rw [if_neg (by omega),if_neg (by omega)]; rfl)|(rw [if_pos (by omega)]; rfl)|(rw [if_neg (by omega),if_pos (by omega)]; exact ⟨by omega,by omega⟩)
                case vals => simp only; first|rfl|(rw [if_neg (by omega),if_neg (by omega),if_neg (by omega)]; rfl)|(rw [if_pos (by omega)]; rfl)|(rw [if_neg (by omega),if_pos (by omega)]; exact ⟨by omega,by omega⟩)|(rw [if_neg (by omega),if_neg (by omega),if_pos (by omega)]; omega)
                all_goals first|(intro _; rfl)|(intro _; exact ⟨rfl,rfl⟩)|(simp only; omega)|(intro h; simp at h)|(intro h; exact absurd rfl h)|(simp; omega)
              exact fin_names (nx1 := 1) (H1 := [(0,.obj [pS 1 false encI L,pN ap])]) [(0,0)] (ret_cell tab_27 (by decide) rfl rfl (Nat.le_of_ble_eq_true rfl) rfl ret_nil) rfl (by decide) ⟨⟨_,_,rfl,rfl,rfl,rfl⟩,trivial⟩ (by decide) rfl ⟨((⟨e1,tNext L (tStep L a 12) 70,tNext L (tStep L (tStep L a 12) 70) 20,tNext L (tStep L (tStep L (tStep L a 12) 70) 20) 40,0,[],os,0,0⟩ : TRequest)),(ap),hex,rfl,rfl,rfl⟩
           ·
            have c13_ := c13
            try simp only [sB] at c13
            refine w_skip ?_
            refine q_block ?_
            refine q_then ?_
            refine w_seq ?_
            refine w_R ?_
            refine qo hnt rfl (s_load_ptr tab_27 rfl rfl rfl (Nat.le_of_ble_eq_true rfl) ?_)
            refine qo hnt rfl (s_store_ptr tab_27 rfl rfl rfl rfl rfl (Nat.le_of_ble_eq_true rfl) ?_)
            refine r_set [(2,PV.ptr 1 0)] [(1,.obj [pI e1,pI 0,pI 0,pI 0,pI 0,pNil,pNil,p16 0,p16 0]),(0,.obj [pS 1 false encI L,pN (tStep L (tStep L a 12) 70)]),(3,.obj [pI e1,pI 0,pI 0,pI 0,pI 0,pNil,pNil,p16 0,p16 0]),(2,oB true 1 encI fnsL)] 4 ⟨rfl,trivial⟩ rfl rfl ?_
            refine r_end ?_
            refine q_then ?_
            refine w_leO (n := 1) (ds := [pI e1,pI 0,pI 0,pI 0,pI 0,pS 1 false encBo [],pS 1 false enc16 [],p16 0,p16 0]) rfl ⟨le_refl _,le_refl _,le_refl _,le_refl _,le_refl _,le_nilS 1 false,le_nilS 1 false,le_refl _,le_refl _,trivial⟩ ?_
            refine w_ret ?_
            have hex : rightR (⟨e1,0,0,0,0,[],[],0,0⟩ : TRequest) = 0 ∧ (⟨e1,0,0,0,0,[],[],0,0⟩ : TRequest).bits.length ≤ 25 ∧ (⟨e1,0,0,0,0,[],[],0,0⟩ : TRequest).vals.length ≤ 25 ∧ 0 ≤ (⟨e1,0,0,0,0,[],[],0,0⟩ : TRequest).count ∧ (⟨e1,0,0,0,0,[],[],0,0⟩ : TRequest).count ≤ 25 := by
              refine ⟨(shapeR_iff (q := _) hfn).2 ?_,by simp; try omega,by simp; try omega,by simp; try omega,by simp; try omega⟩
              constructor
              case bits => simp only; first|rfl|(rw [if_neg (by omega),if_neg (by omega)]; rfl)|(rw [if_pos (by omega)]; rfl)|(rw [if_neg (by omega),if_pos (by omega)]; exact ⟨by omega,by omega⟩)
              case vals => simp only; first|rfl|(rw [if_neg (by omega),if_neg (by omega),if_neg (by omega)]; rfl)|(rw [if_pos (by omega)]; rfl)|(rw [if_neg (by omega),if_pos (by omega)]; exact ⟨by omega,by omega⟩)|(rw [if_neg (by omega),if_neg (by omega),if_pos (by omega)]; omega)
              all_goals first|(intro _; rfl)|(intro _; exact ⟨rfl,rfl⟩)|(simp only; omega)|(intro h; simp at h)|(intro h; exact absurd rfl h)|(simp; omega)
            exact fin_names (nx1 := 1) (H1 := [(0,.obj [pS 1 false encI L,pN (tStep L (tStep L a 12) 70)])]) [(0,0)] (ret_cell tab_27 (by decide) rfl rfl (Nat.le_of_ble_eq_true rfl) rfl ret_nil) rfl (by decide) ⟨⟨_,_,rfl,rfl,rfl,rfl⟩,trivial⟩ (by decide) rfl ⟨((⟨e1,0,0,0,0,[],[],0,0⟩ : TRequest)),(tStep L (tStep L a 12) 70),hex,rfl,rfl,rfl⟩
end Go.Proofs.Ytigpfkcjpjhflaa
set_option linter.unusedVariables false
namespace Go.Proofs.Ytigpfkcjpjhflaa
open Go Go.Proofs.Ytigpfkcjpjhflaa.Pv
theorem bytesR_len (q : TRequest) : (bytesR q).length ≤ 264 := by
  unfold bytesR; split
  · rename_i h; exact (writeR_len (rightR_zero h).2).2
  · simp
theorem read_len (b : List UInt8) : (readWith guessR b).1.bits.length ≤ 65536 ∧ (readWith guessR b).1.vals.length ≤ b.length := by
  have h := guessR_len b
  unfold readWith
  split
  · exact ⟨Nat.zero_le _,Nat.zero_le _⟩
  · split
    · exact ⟨Nat.zero_le _,Nat.zero_le _⟩
    · split
      · exact h
      · exact ⟨Nat.zero_le _,Nat.zero_le _⟩
theorem bytes_pos {q : TRequest} (h : rightR q = 0) : 1 ≤ (bytesR q).length := by
  rw [bytesR_yes h]; exact (writeR_len (rightR_zero h).2).1
section
variable {q : TRequest} (h : rightR q = 0) {k : Int} (hk : 1 ≤ k ∧ k ≤ 256)
include h hk
end
end Go.Proofs.Ytigpfkcjpjhflaa
set_option linter.unusedVariables false
set_option linter.unusedSimpArgs false
set_option maxRecDepth 10000
set_option maxHeartbeats 1000000
namespace Go.Proofs.Ytigpfkcjpjhflaa
open Go Go.Proofs.Ytigpfkcjpjhflaa.Pv
theorem w_burgagelaw3_known   :
    T Try.prog 15 [] 0 [] (Ret (pB true) 0 []) := by
 refine t_fun tabOk (n := 102) (rs := [.tmp 0]) Try.func15 rfl rfl rfl rfl (Nat.le_of_ble_eq_true rfl) ?_
 intro c hnt hk
 refine w_seq ?_
 refine w_R ?_
 refine qa hnt rfl rfl ?_
 refine r_end ?_
 refine q_then ?_
 refine w_seq ?_
 refine w_R ?_
 refine qo hnt rfl (s_mkM (f := enc16) ([255,1] : List UInt16) tab_24 rfl tab_25 ⟨rfl,by decide⟩ (by decide) rfl rfl rfl rfl ?_)
 refine qo hnt rfl (s_build tab_27 rfl rfl (b_cons rfl tab_3 rfl rfl rfl (Nat.le_of_ble_eq_true rfl) (b_cons rfl tab_3 rfl rfl rfl (Nat.le_of_ble_eq_true rfl) (b_cons rfl tab_3 rfl rfl rfl (Nat.le_of_ble_eq_true rfl) (b_cons rfl tab_3 rfl rfl rfl (Nat.le_of_ble_eq_true rfl) (b_cons rfl tab_24 rfl rfl rfl (Nat.le_of_ble_eq_true rfl) (b_nil ?_)))))))
 refine qo hnt rfl (s_alloc tab_27 ?_)
 refine qo hnt rfl (s_store_ptr tab_27 rfl rfl rfl rfl rfl (Nat.le_of_ble_eq_true rfl) ?_)
 refine r_set [(1,PV.ptr 1 0)] [(1,.obj [pI 23,pI 3,pI 6,pI 14,pI 0,pNil,PV.ref 0 0 none,p16 0,p16 0]),(0,oB true 1 enc16 ([255,1] : List UInt16))] 2 ⟨rfl,trivial⟩ rfl rfl ?_
 refine r_end ?_
 refine q_then ?_
 refine w_seq ?_
 refine w_R ?_
 refine qo hnt rfl (s_load_ptr tab_27 rfl rfl rfl (Nat.le_of_ble_eq_true rfl) ?_)
 refine qo hnt rfl (s_callX (r2 := PV.tup [pS 1 false enc8 (bytesR (⟨23,3,6,14,0,[],([255,1] : List UInt16),0,0⟩ : TRequest)),pI (rightR (⟨23,3,6,14,0,[],([255,1] : List UInt16),0,0⟩ : TRequest))]) (nx1 := 2) (H2 := [(0,oB false 1 enc16 ([255,1] : List UInt16)),(1,.obj [pI 23,pI 3,pI 6,pI 14,pI 0,pNil,PV.ref 0 0 none,p16 0,p16 0])]) (H3 := [(0,oB false 1 enc16 ([255,1] : List UInt16)),(1,.obj [pI 23,pI 3,pI 6,pI 14,pI 0,pNil,PV.ref 0 0 none,p16 0,p16 0])]) [] [] rfl rfl rfl (handed_of (by decide) trivial) rfl rfl rfl rfl rfl rfl (T.leL (args := [PV.f (.agg [encI 23,encI 3,encI 6,encI 14,encI 0,FV.v (.slice none 0 0),FV.sl 1 false (List.map enc16 ([255,1] : List UInt16)),enc16 0,enc16 0])]) (args' := [PV.f (eRequest (⟨23,3,6,14,0,[],([255,1] : List UInt16),0,0⟩ : TRequest))]) ⟨le_F (FLe.agg ⟨FLe.refl _,FLe.refl _,FLe.refl _,FLe.refl _,FLe.refl _,FLe.nil 1 false,FLe.refl _,FLe.refl _,FLe.refl _,trivial⟩),trivial⟩ (w_pdu_Bytes (⟨23,3,6,14,0,[],([255,1] : List UInt16),0,0⟩ : TRequest) (by first|omega|assumption|(simp; omega)|decide|(simp; done)) (by first|omega|assumption|(simp; omega)|decide|(simp; done)))) rfl (dist_of rfl) rfl rfl rfl rfl ?_)
 refine qm hnt rfl rfl ?_
 refine qo hnt rfl (s_extract rfl rfl ?_)
 refine qo hnt rfl (s_extract rfl rfl ?_)
 refine qa hnt rfl rfl ?_
 refine qa hnt rfl rfl ?_
 refine r_set [(1,PV.ptr 1 0),(2,pS 1 false enc8 (bytesR (⟨23,3,6,14,0,[],([255,1] : List UInt16),0,0⟩ : TRequest))),(3,pI (rightR (⟨23,3,6,14,0,[],([255,1] : List UInt16),0,0⟩ : TRequest)))] [(0,oB false 1 enc16 ([255,1] : List UInt16)),(1,.obj [pI 23,pI 3,pI 6,pI 14,pI 0,pNil,PV.ref 0 0 none,p16 0,p16 0])] 2 ⟨rfl,rfl,rfl,trivial⟩ rfl rfl ?_
 refine r_end ?_
 refine q_then ?_
 refine w_seq ?_
 refine w_R ?_
 refine qm hnt rfl rfl ?_
 obtain ⟨R1,hR1⟩ : ∃ z : TRequest × Int,z = readWith guessP (bytesR (⟨23,3,6,14,0,[],([255,1] : List UInt16),0,0⟩ : TRequest)) := ⟨_,rfl⟩
 refine qo hnt rfl (s_callF rfl rfl rfl (w_pdu_Read (bytesR (⟨23,3,6,14,0,[],([255,1] : List UInt16),0,0⟩ : TRequest)) false R1 hR1 (by first|omega|assumption|(simp; omega)|decide|(simp; done))) rfl ?_)
 refine qm hnt rfl rfl ?_
 refine qo hnt rfl (s_extract rfl rfl ?_)
 refine qo hnt rfl (s_extract rfl rfl ?_)
 refine qo hnt rfl (s_alloc tab_27 ?_)
 refine qo hnt rfl (s_store_ptr tab_27 rfl rfl rfl rfl rfl (Nat.le_of_ble_eq_true rfl) ?_)
 refine qa hnt rfl rfl ?_
 refine r_set [(1,PV.ptr 1 0),(2,pS 1 false enc8 (bytesR (⟨23,3,6,14,0,[],([255,1] : List UInt16),0,0⟩ : TRequest))),(3,pI (rightR (⟨23,3,6,14,0,[],([255,1] : List UInt16),0,0⟩ : TRequest))),(4,PV.ptr 2 0),(5,pI R1.2)] [(2,.obj [pI R1.1.fn,pI R1.1.at_,pI R1.1.count,pI R1.1.wAt,pI R1.1.sub,pS 1 false encBo R1.1.bits,pS 1 false enc16 R1.1.vals,p16 R1.1.and_,p16 R1.1.or_]),(0,oB false 1 enc16 ([255,1] : List UInt16)),(1,.obj [pI 23,pI 3,pI 6,pI 14,pI 0,pNil,PV.ref 0 0 none,p16 0,p16 0])] 3 ⟨rfl,rfl,rfl,rfl,rfl,trivial⟩ rfl rfl ?_
 refine r_end ?_
 refine q_then ?_
 refine w_seq ?_
 have hr1 : R1 = (⟨23,3,6,14,0,[],[255,1],0,0⟩,0) := by rw [hR1]; decide +kernel
 refine w_R ?_
 obtain ⟨R2,hR2⟩ : ∃ z : TRequest × Int,z = readWith guessP [] := ⟨_,rfl⟩
 refine qo hnt rfl (s_callF rfl rfl rfl (T.leL (args := [pNil]) (args' := [pS 1 false enc8 []]) ⟨le_F (FLe.nil 1 false),trivial⟩ (w_pdu_Read [] false R2 hR2 (by first|omega|assumption|(simp; omega)|decide|(simp; done)))) rfl ?_)
 refine qm hnt rfl rfl ?_
 refine qo hnt rfl (s_extract rfl rfl ?_)
 refine qo hnt rfl (s_extract rfl rfl ?_)
 refine qo hnt rfl (s_alloc tab_27 ?_)
 refine qo hnt rfl (s_store_ptr tab_27 rfl rfl rfl rfl rfl (Nat.le_of_ble_eq_true rfl) ?_)
 refine qa hnt rfl rfl ?_
 refine r_set [(1,PV.ptr 1 0),(2,pS 1 false enc8 (bytesR (⟨23,3,6,14,0,[],([255,1] : List UInt16),0,0⟩ : TRequest))),(3,pI (rightR (⟨23,3,6,14,0,[],([255,1] : List UInt16),0,0⟩ : TRequest))),(4,PV.ptr 2 0),(5,pI R1.2),(7,pI R2.2)] [(3,.obj [pI R2.1.fn,pI R2.1.at_,pI R2.1.count,pI R2.1.wAt,pI R2.1.sub,pS 1 false encBo R2.1.bits,pS 1 false enc16 R2.1.vals,p16 R2.1.and_,p16 R2.1.or_]),(2,.obj [pI R1.1.fn,pI R1.1.at_,pI R1.1.count,pI R1.1.wAt,pI R1.1.sub,pS 1 false encBo R1.1.bits,pS 1 false enc16 R1.1.vals,p16 R1.1.and_,p16 R1.1.or_]),(0,oB false 1 enc16 ([255,1] : List UInt16)),(1,.obj [pI 23,pI 3,pI 6,pI 14,pI 0,pNil,PV.ref 0 0 none,p16 0,p16 0])] 4 ⟨rfl,rfl,rfl,rfl,rfl,rfl,trivial⟩ rfl rfl ?_
 refine r_end ?_
 refine q_then ?_
 refine w_seq ?_
 have hr2 : R2 = (zeroQ,13) := by rw [hR2]; decide +kernel
 refine w_R ?_
 refine qo hnt rfl (s_mkM (f := enc8) ([7] : List UInt8) tab_34 rfl tab_5 ⟨rfl,by decide⟩ (by decide) rfl rfl rfl rfl ?_)
 obtain ⟨R3,hR3⟩ : ∃ z : TRequest × Int,z = readWith guessP ([7] : List UInt8) := ⟨_,rfl⟩
 refine qo hnt rfl (s_callX (r2 := PV.tup [PV.f (eRequest R3.1),pI R3.2]) (nx1 := 5) (H2 := [(4,oB false 1 enc8 ([7] : List UInt8)),(3,.obj [pI R2.1.fn,pI R2.1.at_,pI R2.1.count,pI R2.1.wAt,pI R2.1.sub,pS 1 false encBo R2.1.bits,pS 1 false enc16 R2.1.vals,p16 R2.1.and_,p16 R2.1.or_]),(2,.obj [pI R1.1.fn,pI R1.1.at_,pI R1.1.count,pI R1.1.wAt,pI R1.1.sub,pS 1 false encBo R1.1.bits,pS 1 false enc16 R1.1.vals,p16 R1.1.and_,p16 R1.1.or_]),(0,oB false 1 enc16 ([255,1] : List UInt16)),(1,.obj [pI 23,pI 3,pI 6,pI 14,pI 0,pNil,PV.ref 0 0 none,p16 0,p16 0])]) (H3 := [(4,oB false 1 enc8 ([7] : List UInt8)),(3,.obj [pI R2.1.fn,pI R2.1.at_,pI R2.1.count,pI R2.1.wAt,pI R2.1.sub,pS 1 false encBo R2.1.bits,pS 1 false enc16 R2.1.vals,p16 R2.1.and_,p16 R2.1.or_]),(2,.obj [pI R1.1.fn,pI R1.1.at_,pI R1.1.count,pI R1.1.wAt,pI R1.1.sub,pS 1 false encBo R1.1.bits,pS 1 false enc16 R1.1.vals,p16 R1.1.and_,p16 R1.1.or_]),(0,oB false 1 enc16 ([255,1] : List UInt16)),(1,.obj [pI 23,pI 3,pI 6,pI 14,pI 0,pNil,PV.ref 0 0 none,p16 0,p16 0])]) [] [] rfl rfl rfl (handed_of (by decide) trivial) rfl rfl rfl rfl rfl rfl (w_pdu_Read ([7] : List UInt8) false R3 hR3 (by first|omega|assumption|(simp; omega)|decide|(simp; done))) rfl (dist_of rfl) rfl rfl rfl rfl ?_)
 refine qm hnt rfl rfl ?_
 refine qo hnt rfl (s_extract rfl rfl ?_)
 refine qo hnt rfl (s_extract rfl rfl ?_)
 refine qo hnt rfl (s_alloc tab_27 ?_)
 refine qo hnt rfl (s_store_ptr tab_27 rfl rfl rfl rfl rfl (Nat.le_of_ble_eq_true rfl) ?_)
 refine qa hnt rfl rfl ?_
 refine r_set [(1,PV.ptr 1 0),(2,pS 1 false enc8 (bytesR (⟨23,3,6,14,0,[],([255,1] : List UInt16),0,0⟩ : TRequest))),(3,pI (rightR (⟨23,3,6,14,0,[],([255,1] : List UInt16),0,0⟩ : TRequest))),(4,PV.ptr 2 0),(5,pI R1.2),(7,pI R2.2),(9,pI R3.2)] [(5,.obj [pI R3.1.fn,pI R3.1.at_,pI R3.1.count,pI R3.1.wAt,pI R3.1.sub,pS 1 false encBo R3.1.bits,pS 1 false enc16 R3.1.vals,p16 R3.1.and_,p16 R3.1.or_]),(4,oB false 1 enc8 ([7] : List UInt8)),(3,.obj [pI R2.1.fn,pI R2.1.at_,pI R2.1.count,pI R2.1.wAt,pI R2.1.sub,pS 1 false encBo R2.1.bits,pS 1 false enc16 R2.1.vals,p16 R2.1.and_,p16 R2.1.or_]),(2,.obj [pI R1.1.fn,pI R1.1.at_,pI R1.1.count,pI R1.1.wAt,pI R1.1.sub,pS 1 false encBo R1.1.bits,pS 1 false enc16 R1.1.vals,p16 R1.1.and_,p16 R1.1.or_]),(0,oB false 1 enc16 ([255,1] : List UInt16)),(1,.obj [pI 23,pI 3,pI 6,pI 14,pI 0,pNil,PV.ref 0 0 none,p16 0,p16 0])] 6 ⟨rfl,rfl,rfl,rfl,rfl,rfl,rfl,trivial⟩ rfl rfl ?_
 refine r_end ?_
 refine q_then ?_
 refine w_seq ?_
 have hr3 : R3 = (zeroQ,15) := by rw [hR3]; decide +kernel
 refine w_R ?_
 refine qo hnt rfl (s_mkM (f := enc8) ([1,0,0,0] : List UInt8) tab_34 rfl tab_5 ⟨rfl,by decide⟩ (by decide) rfl rfl rfl rfl ?_)
 obtain ⟨R4,hR4⟩ : ∃ z : TRequest × Int,z = readWith guessP ([1,0,0,0] : List UInt8) := ⟨_,rfl⟩
 refine qo hnt rfl (s_callX (r2 := PV.tup [PV.f (eRequest R4.1),pI R4.2]) (nx1 := 7) (H2 := [(6,oB false 1 enc8 ([1,0,0,0] : List UInt8)),(5,.obj [pI R3.1.fn,pI R3.1.at_,pI R3.1.count,pI R3.1.wAt,pI R3.1.sub,pS 1 false encBo R3.1.bits,pS 1 false enc16 R3.1.vals,p16 R3.1.and_,p16 R3.1.or_]),(4,oB false 1 enc8 ([7] : List UInt8)),(3,.obj [pI R2.1.fn,pI R2.1.at_,pI R2.1.count,pI R2.1.wAt,pI R2.1.sub,pS 1 false encBo R2.1.bits,pS 1 false enc16 R2.1.vals,p16 R2.1.and_,p16 R2.1.or_]),(2,.obj [pI R1.1.fn,pI R1.1.at_,pI R1.1.count,pI R1.1.wAt,pI R1.1.sub,pS 1 false encBo R1.1.bits,pS 1 false enc16 R1.1.vals,p16 R1.1.and_,p16 R1.1.or_]),(0,oB false 1 enc16 ([255,1] : List UInt16)),(1,.obj [pI 23,pI 3,pI 6,pI 14,pI 0,pNil,PV.ref 0 0 none,p16 0,p16 0])]) (H3 := [(6,oB false 1 enc8 ([1,0,0,0] : List UInt8)),(5,.obj [pI R3.1.fn,pI R3.1.at_,pI R3.1.count,pI R3.1.wAt,pI R3.1.sub,pS 1 false encBo R3.1.bits,pS 1 false enc16 R3.1.vals,p16 R3.1.and_,p16 R3.1.or_]),(4,oB false 1 enc8 ([7] : List UInt8)),(3,.obj [pI R2.1.fn,pI R2.1.at_,pI R2.1.count,pI R2.1.wAt,pI R2.1.sub,pS 1 false encBo R2.1.bits,pS 1 false enc16 R2.1.vals,p16 R2.1.and_,p16 R2.1.or_]),(2,.obj [pI R1.1.fn,pI R1.1.at_,pI R1.1.count,pI R1.1.wAt,pI R1.1.sub,pS 1 false encBo R1.1.bits,pS 1 false enc16 R1.1.vals,p16 R1.1.and_,p16 R1.1.or_]),(0,oB false 1 enc16 ([255,1] : List UInt16)),(1,.obj [pI 23,pI 3,pI 6,pI 14,pI 0,pNil,PV.ref 0 0 none,p16 0,p16 0])]) [] [] rfl rfl rfl (handed_of (by decide) trivial) rfl rfl rfl rfl rfl rfl (w_pdu_Read ([1,0,0,0] : List UInt8) false R4 hR4 (by first|omega|assumption|(simp; omega)|decide|(simp; done))) rfl (dist_of rfl) rfl rfl rfl rfl ?_)
 refine qm hnt rfl rfl ?_
 refine qo hnt rfl (s_extract rfl rfl ?_)
 refine qo hnt rfl (s_extract rfl rfl ?_)
 refine qo hnt rfl (s_alloc tab_27 ?_)
 refine qo hnt rfl (s_store_ptr tab_27 rfl rfl rfl rfl rfl (Nat.le_of_ble_eq_true rfl) ?_)
 refine qa hnt rfl rfl ?_
 refine r_set [(1,PV.ptr 1 0),(2,pS 1 false enc8 (bytesR (⟨23,3,6,14,0,[],([255,1] : List UInt16),0,0⟩ : TRequest))),(3,pI (rightR (⟨23,3,6,14,0,[],([255,1] : List UInt16),0,0⟩ : TRequest))),(4,PV.ptr 2 0),(5,pI R1.2),(7,pI R2.2),(9,pI R3.2),(11,pI R4.2)] [(7,.obj [pI R4.1.fn,pI R4.1.at_,pI R4.1.count,pI R4.1.wAt,pI R4.1.sub,pS 1 false encBo R4.1.bits,pS 1 false enc16 R4.1.vals,p16 R4.1.and_,p16 R4.1.or_]),(6,oB false 1 enc8 ([1,0,0,0] : List UInt8)),(5,.obj [pI R3.1.fn,pI R3.1.at_,pI R3.1.count,pI R3.1.wAt,pI R3.1.sub,pS 1 false encBo R3.1.bits,pS 1 false enc16 R3.1.vals,p16 R3.1.and_,p16 R3.1.or_]),(4,oB false 1 enc8 ([7] : List UInt8)),(3,.obj [pI R2.1.fn,pI R2.1.at_,pI R2.1.count,pI R2.1.wAt,pI R2.1.sub,pS 1 false encBo R2.1.bits,pS 1 false enc16 R2.1.vals,p16 R2.1.and_,p16 R2.1.or_]),(2,.obj [pI R1.1.fn,pI R1.1.at_,pI R1.1.count,pI R1.1.wAt,pI R1.1.sub,pS 1 false encBo R1.1.bits,pS 1 false enc16 R1.1.vals,p16 R1.1.and_,p16 R1.1.or_]),(0,oB false 1 enc16 ([255,1] : List UInt16)),(1,.obj [pI 23,pI 3,pI 6,pI 14,pI 0,pNil,PV.ref 0 0 none,p16 0,p16 0])] 8 ⟨rfl,rfl,rfl,rfl,rfl,rfl,rfl,rfl,trivial⟩ rfl rfl ?_
 refine r_end ?_
 refine q_then ?_
 refine w_seq ?_
 have hr4 : R4 = (zeroQ,12) := by rw [hR4]; decide +kernel
 refine w_R ?_
 refine qo hnt rfl (s_mkM (f := encBo) [true] tab_23 rfl tab_4 ⟨rfl,by decide⟩ (by decide) rfl rfl rfl rfl ?_)
 refine qo hnt rfl (s_build tab_27 rfl rfl (b_cons rfl tab_3 rfl rfl rfl (Nat.le_of_ble_eq_true rfl) (b_cons rfl tab_3 rfl rfl rfl (Nat.le_of_ble_eq_true rfl) (b_cons rfl tab_23 rfl rfl rfl (Nat.le_of_ble_eq_true rfl) (b_nil ?_)))))
 refine qo hnt rfl (s_callX (r2 := PV.tup [pS 1 false enc8 (bytesR (⟨5,172,0,0,0,[true],[],0,0⟩ : TRequest)),pI (rightR (⟨5,172,0,0,0,[true],[],0,0⟩ : TRequest))]) (nx1 := 9) (H2 := [(8,oB false 1 encBo [true]),(7,.obj [pI R4.1.fn,pI R4.1.at_,pI R4.1.count,pI R4.1.wAt,pI R4.1.sub,pS 1 false encBo R4.1.bits,pS 1 false enc16 R4.1.vals,p16 R4.1.and_,p16 R4.1.or_]),(6,oB false 1 enc8 ([1,0,0,0] : List UInt8)),(5,.obj [pI R3.1.fn,pI R3.1.at_,pI R3.1.count,pI R3.1.wAt,pI R3.1.sub,pS 1 false encBo R3.1.bits,pS 1 false enc16 R3.1.vals,p16 R3.1.and_,p16 R3.1.or_]),(4,oB false 1 enc8 ([7] : List UInt8)),(3,.obj [pI R2.1.fn,pI R2.1.at_,pI R2.1.count,pI R2.1.wAt,pI R2.1.sub,pS 1 false encBo R2.1.bits,pS 1 false enc16 R2.1.vals,p16 R2.1.and_,p16 R2.1.or_]),(2,.obj [pI R1.1.fn,pI R1.1.at_,pI R1.1.count,pI R1.1.wAt,pI R1.1.sub,pS 1 false encBo R1.1.bits,pS 1 false enc16 R1.1.vals,p16 R1.1.and_,p16 R1.1.or_]),(0,oB false 1 enc16 ([255,1] : List UInt16)),(1,.obj [pI 23,pI 3,pI 6,pI 14,pI 0,pNil,PV.ref 0 0 none,p16 0,p16 0])]) (H3 := [(8,oB false 1 encBo [true]),(7,.obj [pI R4.1.fn,pI R4.1.at_,pI R4.1.count,pI R4.1.wAt,pI R4.1.sub,pS 1 false encBo R4.1.bits,pS 1 false enc16 R4.1.vals,p16 R4.1.and_,p16 R4.1.or_]),(6,oB false 1 enc8 ([1,0,0,0] : List UInt8)),(5,.obj [pI R3.1.fn,pI R3.1.at_,pI R3.1.count,pI R3.1.wAt,pI R3.1.sub,pS 1 false encBo R3.1.bits,pS 1 false enc16 R3.1.vals,p16 R3.1.and_,p16 R3.1.or_]),(4,oB false 1 enc8 ([7] : List UInt8)),(3,.obj [pI R2.1.fn,pI R2.1.at_,pI R2.1.count,pI R2.1.wAt,pI R2.1.sub,pS 1 false encBo R2.1.bits,pS 1 false enc16 R2.1.vals,p16 R2.1.and_,p16 R2.1.or_]),(2,.obj [pI R1.1.fn,pI R1.1.at_,pI R1.1.count,pI R1.1.wAt,pI R1.1.sub,pS 1 false encBo R1.1.bits,pS 1 false enc16 R1.1.vals,p16 R1.1.and_,p16 R1.1.or_]),(0,oB false 1 enc16 ([255,1] : List UInt16)),(1,.obj [pI 23,pI 3,pI 6,pI 14,pI 0,pNil,PV.ref 0 0 none,p16 0,p16 0])]) [] [] rfl rfl rfl (handed_of (by decide) trivial) rfl rfl rfl rfl rfl rfl (T.leL (args := [PV.f (.agg [encI 5,encI 172,encI 0,encI 0,encI 0,FV.sl 1 false (List.map encBo [true]),FV.v (.slice none 0 0),enc16 0,enc16 0])]) (args' := [PV.f (eRequest (⟨5,172,0,0,0,[true],[],0,0⟩ : TRequest))]) ⟨le_F (FLe.agg ⟨FLe.refl _,FLe.refl _,FLe.refl _,FLe.refl _,FLe.refl _,FLe.refl _,FLe.nil 1 false,FLe.refl _,FLe.refl _,trivial⟩),trivial⟩ (w_pdu_Bytes (⟨5,172,0,0,0,[true],[],0,0⟩ : TRequest) (by first|omega|assumption|(simp; omega)|decide|(simp; done)) (by first|omega|assumption|(simp; omega)|decide|(simp; done)))) rfl (dist_of rfl) rfl rfl rfl rfl ?_)
 refine qm hnt rfl rfl ?_
 refine qo hnt rfl (s_extract rfl rfl ?_)
 refine qo hnt rfl (s_extract rfl rfl ?_)
 refine qa hnt rfl rfl ?_
 refine qa hnt rfl rfl ?_
 refine r_set [(1,PV.ptr 1 0),(2,pS 1 false enc8 (bytesR (⟨23,3,6,14,0,[],([255,1] : List UInt16),0,0⟩ : TRequest))),(3,pI (rightR (⟨23,3,6,14,0,[],([255,1] : List UInt16),0,0⟩ : TRequest))),(4,PV.ptr 2 0),(5,pI R1.2),(7,pI R2.2),(9,pI R3.2),(11,pI R4.2),(12,pS 1 false enc8 (bytesR (⟨5,172,0,0,0,[true],[],0,0⟩ : TRequest))),(13,pI (rightR (⟨5,172,0,0,0,[true],[],0,0⟩ : TRequest)))] [(8,oB false 1 encBo [true]),(7,.obj [pI R4.1.fn,pI R4.1.at_,pI R4.1.count,pI R4.1.wAt,pI R4.1.sub,pS 1 false encBo R4.1.bits,pS 1 false enc16 R4.1.vals,p16 R4.1.and_,p16 R4.1.or_]),(6,oB false 1 enc8 ([1,0,0,0] : List UInt8)),(5,.obj [pI R3.1.fn,pI R3.1.at_,pI R3.1.count,pI R3.1.wAt,pI R3.1.sub,pS 1 false encBo R3.1.bits,pS 1 false enc16 R3.1.vals,p16 R3.1.and_,p16 R3.1.or_]),(4,oB false 1 enc8 ([7] : List UInt8)),(3,.obj [pI R2.1.fn,pI R2.1.at_,pI R2.1.count,pI R2.1.wAt,pI R2.1.sub,pS 1 false encBo R2.1.bits,pS 1 false enc16 R2.1.vals,p16 R2.1.and_,p16 R2.1.or_]),(2,.obj [pI R1.1.fn,pI R1.1.at_,pI R1.1.count,pI R1.1.wAt,pI R1.1.sub,pS 1 false encBo R1.1.bits,pS 1 false enc16 R1.1.vals,p16 R1.1.and_,p16 R1.1.or_]),(0,oB false 1 enc16 ([255,1] : List UInt16)),(1,.obj [pI 23,pI 3,pI 6,pI 14,pI 0,pNil,PV.ref 0 0 none,p16 0,p16 0])] 9 ⟨rfl,rfl,rfl,rfl,rfl,rfl,rfl,rfl,rfl,rfl,trivial⟩ rfl rfl ?_
 refine r_end ?_
 refine q_then ?_
 refine w_seq ?_
 refine w_R ?_
 refine qm hnt rfl rfl ?_
 refine qo hnt rfl (s_eql rfl rfl ?_)
 refine qm hnt rfl rfl ?_
 refine r_if tabOk hnt rfl rfl rfl (fun g1 => ?_) (fun g1 => ?_)
 ·
  have g1' := g1
  try simp only [sB] at g1'
  refine qm hnt rfl rfl ?_
  refine ry hnt rfl rfl rfl g1 ?_
  refine qo hnt rfl (s_cvT tab_34 tab_9 rfl tab_5 rfl rfl (hM_sl (f := enc8) rfl) ?_)
  refine ry hnt rfl rfl rfl g1 ?_
  refine qo hnt rfl (s_eqtext (l := bytesR (⟨23,3,6,14,0,[],([255,1] : List UInt16),0,0⟩ : TRequest)) (m := ([23,0,3,0,6,0,14,0,2,4,0,255,0,1] : List UInt8)) rfl rfl ?_)
  refine qo hnt rfl (s_pick_t rfl g1 rfl ?_)
  refine qm hnt rfl rfl ?_
  refine r_if tabOk hnt rfl rfl rfl (fun g2 => ?_) (fun g2 => ?_)
  ·
   have g2' := g2
   try simp only [sB] at g2'
   refine qm hnt rfl rfl ?_
   refine ry hnt rfl rfl rfl g2 ?_
   refine qo hnt rfl (s_eql rfl rfl ?_)
   refine qo hnt rfl (s_pick_t rfl g2 rfl ?_)
   refine qm hnt rfl rfl ?_
   refine r_if tabOk hnt rfl rfl rfl (fun g3 => ?_) (fun g3 => ?_)
   ·
    have g3' := g3
    try simp only [sB] at g3'
    refine qo hnt rfl (s_load_ptr tab_27 rfl rfl rfl (Nat.le_of_ble_eq_true rfl) ?_)
    refine ry hnt rfl rfl rfl g3 ?_
    refine qo hnt rfl (s_load_ptr tab_27 rfl rfl rfl (Nat.le_of_ble_eq_true rfl) ?_)
    refine ry hnt rfl rfl rfl g3 ?_
    refine qo hnt rfl (s_callX (r2 := pB (decide ((⟨23,3,6,14,0,[],([255,1] : List UInt16),0,0⟩ : TRequest) = (⟨R1.1.fn,R1.1.at_,R1.1.count,R1.1.wAt,R1.1.sub,R1.1.bits,R1.1.vals,R1.1.and_,R1.1.or_⟩ : TRequest)))) (nx1 := 9) (H2 := [(0,oB false 1 enc16 ([255,1] : List UInt16)),(8,oB false 1 encBo [true]),(7,.obj [pI R4.1.fn,pI R4.1.at_,pI R4.1.count,pI R4.1.wAt,pI R4.1.sub,pS 1 false encBo R4.1.bits,pS 1 false enc16 R4.1.vals,p16 R4.1.and_,p16 R4.1.or_]),(6,oB false 1 enc8 ([1,0,0,0] : List UInt8)),(5,.obj [pI R3.1.fn,pI R3.1.at_,pI R3.1.count,pI R3.1.wAt,pI R3.1.sub,pS 1 false encBo R3.1.bits,pS 1 false enc16 R3.1.vals,p16 R3.1.and_,p16 R3.1.or_]),(4,oB false 1 enc8 ([7] : List UInt8)),(3,.obj [pI R2.1.fn,pI R2.1.at_,pI R2.1.count,pI R2.1.wAt,pI R2.1.sub,pS 1 false encBo R2.1.bits,pS 1 false enc16 R2.1.vals,p16 R2.1.and_,p16 R2.1.or_]),(2,.obj [pI R1.1.fn,pI R1.1.at_,pI R1.1.count,pI R1.1.wAt,pI R1.1.sub,pS 1 false encBo R1.1.bits,pS 1 false enc16 R1.1.vals,p16 R1.1.and_,p16 R1.1.or_]),(1,.obj [pI 23,pI 3,pI 6,pI 14,pI 0,pNil,PV.ref 0 0 none,p16 0,p16 0])]) (H3 := [(0,oB false 1 enc16 ([255,1] : List UInt16)),(8,oB false 1 encBo [true]),(7,.obj [pI R4.1.fn,pI R4.1.at_,pI R4.1.count,pI R4.1.wAt,pI R4.1.sub,pS 1 false encBo R4.1.bits,pS 1 false enc16 R4.1.vals,p16 R4.1.and_,p16 R4.1.or_]),(6,oB false 1 enc8 ([1,0,0,0] : List UInt8)),(5,.obj [pI R3.1.fn,pI R3.1.at_,pI R3.1.count,pI R3.1.wAt,pI R3.1.sub,pS 1 false encBo R3.1.bits,pS 1 false enc16 R3.1.vals,p16 R3.1.and_,p16 R3.1.or_]),(4,oB false 1 enc8 ([7] : List UInt8)),(3,.obj [pI R2.1.fn,pI R2.1.at_,pI R2.1.count,pI R2.1.wAt,pI R2.1.sub,pS 1 false encBo R2.1.bits,pS 1 false enc16 R2.1.vals,p16 R2.1.and_,p16 R2.1.or_]),(2,.obj [pI R1.1.fn,pI R1.1.at_,pI R1.1.count,pI R1.1.wAt,pI R1.1.sub,pS 1 false encBo R1.1.bits,pS 1 false enc16 R1.1.vals,p16 R1.1.and_,p16 R1.1.or_]),(1,.obj [pI 23,pI 3,pI 6,pI 14,pI 0,pNil,PV.ref 0 0 none,p16 0,p16 0])]) [] [] rfl rfl rfl (handed_of (by decide) trivial) rfl rfl rfl rfl rfl rfl (T.leL (args := [PV.f (.agg [encI 23,encI 3,encI 6,encI 14,encI 0,FV.v (.slice none 0 0),FV.sl 1 false (List.map enc16 ([255,1] : List UInt16)),enc16 0,enc16 0]),PV.f (.agg [encI R1.1.fn,encI R1.1.at_,encI R1.1.count,encI R1.1.wAt,encI R1.1.sub,FV.sl 1 false (List.map encBo R1.1.bits),FV.sl 1 false (List.map enc16 R1.1.vals),enc16 R1.1.and_,enc16 R1.1.or_])]) (args' := [PV.f (eRequest (⟨23,3,6,14,0,[],([255,1] : List UInt16),0,0⟩ : TRequest)),PV.f (eRequest (⟨R1.1.fn,R1.1.at_,R1.1.count,R1.1.wAt,R1.1.sub,R1.1.bits,R1.1.vals,R1.1.and_,R1.1.or_⟩ : TRequest))]) ⟨le_F (FLe.agg ⟨FLe.refl _,FLe.refl _,FLe.refl _,FLe.refl _,FLe.refl _,FLe.nil 1 false,FLe.refl _,FLe.refl _,FLe.refl _,trivial⟩),⟨le_refl _,trivial⟩⟩ (w_burgageref3_Same (⟨23,3,6,14,0,[],([255,1] : List UInt16),0,0⟩ : TRequest) (⟨R1.1.fn,R1.1.at_,R1.1.count,R1.1.wAt,R1.1.sub,R1.1.bits,R1.1.vals,R1.1.and_,R1.1.or_⟩ : TRequest) (by first|omega|assumption|(simp; omega)|decide|(simp; done)))) rfl (dist_of rfl) rfl rfl rfl rfl ?_)
    refine qo hnt rfl (s_pick_t rfl g3 rfl ?_)
    refine qm hnt rfl rfl ?_
    refine r_if tabOk hnt rfl rfl rfl (fun g4 => ?_) (fun g4 => ?_)
    ·
     have g4' := g4
     try simp only [sB] at g4'
     refine qm hnt rfl rfl ?_
     refine ry hnt rfl rfl rfl g4 ?_
     refine qo hnt rfl (s_eql rfl rfl ?_)
     refine qo hnt rfl (s_pick_t rfl g4 rfl ?_)
     refine qm hnt rfl rfl ?_
     refine r_if tabOk hnt rfl rfl rfl (fun g5 => ?_) (fun g5 => ?_)
     ·
      have g5' := g5
      try simp only [sB] at g5'
      refine qm hnt rfl rfl ?_
      refine ry hnt rfl rfl rfl g5 ?_
      refine qo hnt rfl (s_eql rfl rfl ?_)
      refine qo hnt rfl (s_pick_t rfl g5 rfl ?_)
      refine qm hnt rfl rfl ?_
      refine r_if tabOk hnt rfl rfl rfl (fun g6 => ?_) (fun g6 => ?_)
      ·
       have g6' := g6
       try simp only [sB] at g6'
       refine qm hnt rfl rfl ?_
       refine ry hnt rfl rfl rfl g6 ?_
       refine qo hnt rfl (s_eql rfl rfl ?_)
       refine qo hnt rfl (s_pick_t rfl g6 rfl ?_)
       refine qm hnt rfl rfl ?_
       refine r_if tabOk hnt rfl rfl rfl (fun g7 => ?_) (fun g7 => ?_)
       ·
        have g7' := g7
        try simp only [sB] at g7'
        refine qm hnt rfl rfl ?_
        refine ry hnt rfl rfl rfl g7 ?_
        refine qo hnt rfl (s_eql rfl rfl ?_)
        refine qo hnt rfl (s_pick_t rfl g7 rfl ?_)
        refine qm hnt rfl rfl ?_
        refine r_if tabOk hnt rfl rfl rfl (fun g8 => ?_) (fun g8 => ?_)
        ·
         have g8' := g8
         try simp only [sB] at g8'
         refine qm hnt rfl rfl ?_
         refine ry hnt rfl rfl rfl g8 ?_
         refine qo hnt rfl (s_cvT tab_34 tab_9 rfl tab_5 rfl rfl (hM_sl (f := enc8) rfl) ?_)
         refine ry hnt rfl rfl rfl g8 ?_
         refine qo hnt rfl (s_eqtext (l := bytesR (⟨5,172,0,0,0,[true],[],0,0⟩ : TRequest)) (m := ([5,0,172,255,0] : List UInt8)) rfl rfl ?_)
         refine qo hnt rfl (s_pick_t rfl g8 rfl ?_)
         refine qm hnt rfl rfl ?_
         refine r_if tabOk hnt rfl rfl rfl (fun g9 => ?_) (fun g9 => ?_)
         ·
          have g9' := g9
          try simp only [sB] at g9'
          refine qo hnt rfl (s_load_ptr tab_27 rfl rfl rfl (Nat.le_of_ble_eq_true rfl) ?_)
          refine ry hnt rfl rfl rfl g9 ?_
          refine qo hnt rfl (s_callX (r2 := pB (countsR (⟨23,3,6,14,0,[],([255,1] : List UInt16),0,0⟩ : TRequest))) (nx1 := 9) (H2 := [(0,oB false 1 enc16 ([255,1] : List UInt16)),(8,oB false 1 encBo [true]),(7,.obj [pI R4.1.fn,pI R4.1.at_,pI R4.1.count,pI R4.1.wAt,pI R4.1.sub,pS 1 false encBo R4.1.bits,pS 1 false enc16 R4.1.vals,p16 R4.1.and_,p16 R4.1.or_]),(6,oB false 1 enc8 ([1,0,0,0] : List UInt8)),(5,.obj [pI R3.1.fn,pI R3.1.at_,pI R3.1.count,pI R3.1.wAt,pI R3.1.sub,pS 1 false encBo R3.1.bits,pS 1 false enc16 R3.1.vals,p16 R3.1.and_,p16 R3.1.or_]),(4,oB false 1 enc8 ([7] : List UInt8)),(3,.obj [pI R2.1.fn,pI R2.1.at_,pI R2.1.count,pI R2.1.wAt,pI R2.1.sub,pS 1 false encBo R2.1.bits,pS 1 false enc16 R2.1.vals,p16 R2.1.and_,p16 R2.1.or_]),(2,.obj [pI R1.1.fn,pI R1.1.at_,pI R1.1.count,pI R1.1.wAt,pI R1.1.sub,pS 1 false encBo R1.1.bits,pS 1 false enc16 R1.1.vals,p16 R1.1.and_,p16 R1.1.or_]),(1,.obj [pI 23,pI 3,pI 6,pI 14,pI 0,pNil,PV.ref 0 0 none,p16 0,p16 0])]) (H3 := [(0,oB false 1 enc16 ([255,1] : List UInt16)),(8,oB false 1 encBo [true]),(7,.obj [pI R4.1.fn,pI R4.1.at_,pI R4.1.count,pI R4.1.wAt,pI R4.1.sub,pS 1 false encBo R4.1.bits,pS 1 false enc16 R4.1.vals,p16 R4.1.and_,p16 R4.1.or_]),(6,oB false 1 enc8 ([1,0,0,0] : List UInt8)),(5,.obj [pI R3.1.fn,pI R3.1.at_,pI R3.1.count,pI R3.1.wAt,pI R3.1.sub,pS 1 false encBo R3.1.bits,pS 1 false enc16 R3.1.vals,p16 R3.1.and_,p16 R3.1.or_]),(4,oB false 1 enc8 ([7] : List UInt8)),(3,.obj [pI R2.1.fn,pI R2.1.at_,pI R2.1.count,pI R2.1.wAt,pI R2.1.sub,pS 1 false encBo R2.1.bits,pS 1 false enc16 R2.1.vals,p16 R2.1.and_,p16 R2.1.or_]),(2,.obj [pI R1.1.fn,pI R1.1.at_,pI R1.1.count,pI R1.1.wAt,pI R1.1.sub,pS 1 false encBo R1.1.bits,pS 1 false enc16 R1.1.vals,p16 R1.1.and_,p16 R1.1.or_]),(1,.obj [pI 23,pI 3,pI 6,pI 14,pI 0,pNil,PV.ref 0 0 none,p16 0,p16 0])]) [] [] rfl rfl rfl (handed_of (by decide) trivial) rfl rfl rfl rfl rfl rfl (T.leL (args := [PV.f (.agg [encI 23,encI 3,encI 6,encI 14,encI 0,FV.v (.slice none 0 0),FV.sl 1 false (List.map enc16 ([255,1] : List UInt16)),enc16 0,enc16 0])]) (args' := [PV.f (eRequest (⟨23,3,6,14,0,[],([255,1] : List UInt16),0,0⟩ : TRequest))]) ⟨le_F (FLe.agg ⟨FLe.refl _,FLe.refl _,FLe.refl _,FLe.refl _,FLe.refl _,FLe.nil 1 false,FLe.refl _,FLe.refl _,FLe.refl _,trivial⟩),trivial⟩ (w_pdu_Counts (⟨23,3,6,14,0,[],([255,1] : List UInt16),0,0⟩ : TRequest) (by first|omega|assumption|(simp; omega)|decide|(simp; done)) (by first|omega|assumption|(simp; omega)|decide|(simp; done)))) rfl (dist_of rfl) rfl rfl rfl rfl ?_)
          refine qo hnt rfl (s_pick_t rfl g9 rfl ?_)
          refine qm hnt rfl rfl ?_
          refine r_if tabOk hnt rfl rfl rfl (fun g10 => ?_) (fun g10 => ?_)
          ·
           have g10' := g10
           try simp only [sB] at g10'
           refine qo hnt rfl (s_build tab_27 rfl rfl (b_cons rfl tab_3 rfl rfl rfl (Nat.le_of_ble_eq_true rfl) (b_nil ?_)))
           refine ry hnt rfl rfl rfl g10 ?_
           refine qo hnt rfl (s_callF rfl rfl rfl (T.leL (args := [PV.f (.agg [encI 1,encI 0,encI 0,encI 0,encI 0,FV.v (.slice none 0 0),FV.v (.slice none 0 0),enc16 0,enc16 0])]) (args' := [PV.f (eRequest (⟨1,0,0,0,0,[],[],0,0⟩ : TRequest))]) ⟨le_F (FLe.agg ⟨FLe.refl _,FLe.refl _,FLe.refl _,FLe.refl _,FLe.refl _,FLe.nil 1 false,FLe.nil 1 false,FLe.refl _,FLe.refl _,trivial⟩),trivial⟩ (w_pdu_Counts (⟨1,0,0,0,0,[],[],0,0⟩ : TRequest) (by first|omega|assumption|(simp; omega)|decide|(simp; done)) (by first|omega|assumption|(simp; omega)|decide|(simp; done)))) rfl ?_)
           refine ry hnt rfl rfl rfl g10 ?_
           refine qo hnt rfl (s_not rfl ?_)
           refine qo hnt rfl (s_pick_t rfl g10 rfl ?_)
           refine qm hnt rfl rfl ?_
           refine r_if tabOk hnt rfl rfl rfl (fun g11 => ?_) (fun g11 => ?_)
           ·
            have g11' := g11
            try simp only [sB] at g11'
            refine qo hnt rfl (s_build tab_27 rfl rfl (b_nil ?_))
            refine ry hnt rfl rfl rfl g11 ?_
            refine qo hnt rfl (s_callF rfl rfl rfl (T.leL (args := [PV.f (.agg [encI 0,encI 0,encI 0,encI 0,encI 0,FV.v (.slice none 0 0),FV.v (.slice none 0 0),enc16 0,enc16 0])]) (args' := [PV.f (eRequest (⟨0,0,0,0,0,[],[],0,0⟩ : TRequest))]) ⟨le_F (FLe.agg ⟨FLe.refl _,FLe.refl _,FLe.refl _,FLe.refl _,FLe.refl _,FLe.nil 1 false,FLe.nil 1 false,FLe.refl _,FLe.refl _,trivial⟩),trivial⟩ (w_pdu_Counts (⟨0,0,0,0,0,[],[],0,0⟩ : TRequest) (by first|omega|assumption|(simp; omega)|decide|(simp; done)) (by first|omega|assumption|(simp; omega)|decide|(simp; done)))) rfl ?_)
            refine ry hnt rfl rfl rfl g11 ?_
            refine qo hnt rfl (s_not rfl ?_)
            refine qo hnt rfl (s_pick_t rfl g11 rfl ?_)
            refine qm hnt rfl rfl ?_
            refine r_if tabOk hnt rfl rfl rfl (fun g12 => ?_) (fun g12 => ?_)
            ·
             have g12' := g12
             try simp only [sB] at g12'
             refine qo hnt rfl (s_build tab_27 rfl rfl (b_cons rfl tab_3 rfl rfl rfl (Nat.le_of_ble_eq_true rfl) (b_cons rfl tab_3 rfl rfl rfl (Nat.le_of_ble_eq_true rfl) (b_nil ?_))))
             refine ry hnt rfl rfl rfl g12 ?_
             refine qo hnt rfl (s_callF rfl rfl rfl (T.leL (args := [PV.f (.agg [encI 17,encI 1,encI 0,encI 0,encI 0,FV.v (.slice none 0 0),FV.v (.slice none 0 0),enc16 0,enc16 0])]) (args' := [PV.f (eRequest (⟨17,1,0,0,0,[],[],0,0⟩ : TRequest))]) ⟨le_F (FLe.agg ⟨FLe.refl _,FLe.refl _,FLe.refl _,FLe.refl _,FLe.refl _,FLe.nil 1 false,FLe.nil 1 false,FLe.refl _,FLe.refl _,trivial⟩),trivial⟩ (w_pdu_Right (⟨17,1,0,0,0,[],[],0,0⟩ : TRequest) (by first|omega|assumption|(simp; omega)|decide|(simp; done)) (by first|omega|assumption|(simp; omega)|decide|(simp; done)))) rfl ?_)
             refine ry hnt rfl rfl rfl g12 ?_
             refine qo hnt rfl (s_eql rfl rfl ?_)
             refine qo hnt rfl (s_pick_t rfl g12 rfl ?_)
             refine qa hnt rfl rfl ?_
             refine r_set [(0,pB (decide (rightR (⟨17,1,0,0,0,[],[],0,0⟩ : TRequest) = 12)))] [(0,oB false 1 enc16 ([255,1] : List UInt16)),(8,oB false 1 encBo [true]),(7,.obj [pI R4.1.fn,pI R4.1.at_,pI R4.1.count,pI R4.1.wAt,pI R4.1.sub,pS 1 false encBo R4.1.bits,pS 1 false enc16 R4.1.vals,p16 R4.1.and_,p16 R4.1.or_]),(6,oB false 1 enc8 ([1,0,0,0] : List UInt8)),(5,.obj [pI R3.1.fn,pI R3.1.at_,pI R3.1.count,pI R3.1.wAt,pI R3.1.sub,pS 1 false encBo R3.1.bits,pS 1 false enc16 R3.1.vals,p16 R3.1.and_,p16 R3.1.or_]),(4,oB false 1 enc8 ([7] : List UInt8)),(3,.obj [pI R2.1.fn,pI R2.1.at_,pI R2.1.count,pI R2.1.wAt,pI R2.1.sub,pS 1 false encBo R2.1.bits,pS 1 false enc16 R2.1.vals,p16 R2.1.and_,p16 R2.1.or_]),(2,.obj [pI R1.1.fn,pI R1.1.at_,pI R1.1.count,pI R1.1.wAt,pI R1.1.sub,pS 1 false encBo R1.1.bits,pS 1 false enc16 R1.1.vals,p16 R1.1.and_,p16 R1.1.or_]),(1,.obj [pI 23,pI 3,pI 6,pI 14,pI 0,pNil,PV.ref 0 0 none,p16 0,p16 0])] 9 ⟨rfl,trivial⟩ rfl rfl ?_
             refine r_end ?_
             refine q_then ?_
             refine w_le (s := 0) (y := pB true) rfl (le_of_eq (congrArg (fun z : Bool => pB z) (show (decide (rightR (⟨17,1,0,0,0,[],[],0,0⟩ : TRequest) = 12)) = true by first|decide +kernel|(rw [hr1]; decide +kernel)|(rw [hr2]; decide +kernel)|(rw [hr3]; decide +kernel)|(rw [hr4]; decide +kernel)|(simp; done)))) ?_
             refine w_ret ?_
             exact fin_plain (ret_tmp rfl ret_nil) rfl rfl ⟨rfl,rfl,rfl⟩
            ·
             exact absurd g12 (by first|decide +kernel|(rw [hr1]; decide +kernel)|(rw [hr2]; decide +kernel)|(rw [hr3]; decide +kernel)|(rw [hr4]; decide +kernel)|(simp; done))
           ·
            exact absurd g11 (by first|decide +kernel|(rw [hr1]; decide +kernel)|(rw [hr2]; decide +kernel)|(rw [hr3]; decide +kernel)|(rw [hr4]; decide +kernel)|(simp; done))
          ·
           exact absurd g10 (by first|decide +kernel|(rw [hr1]; decide +kernel)|(rw [hr2]; decide +kernel)|(rw [hr3]; decide +kernel)|(rw [hr4]; decide +kernel)|(simp; done))
         ·
          exact absurd g9 (by first|decide +kernel|(rw [hr1]; decide +kernel)|(rw [hr2]; decide +kernel)|(rw [hr3]; decide +kernel)|(rw [hr4]; decide +kernel)|(simp; done))
        ·
         exact absurd g8 (by first|decide +kernel|(rw [hr1]; decide +kernel)|(rw [hr2]; decide +kernel)|(rw [hr3]; decide +kernel)|(rw [hr4]; decide +kernel)|(simp; done))
       ·
        exact absurd g7 (by first|decide +kernel|(rw [hr1]; decide +kernel)|(rw [hr2]; decide +kernel)|(rw [hr3]; decide +kernel)|(rw [hr4]; decide +kernel)|(simp; done))
      ·
       exact absurd g6 (by first|decide +kernel|(rw [hr1]; decide +kernel)|(rw [hr2]; decide +kernel)|(rw [hr3]; decide +kernel)|(rw [hr4]; decide +kernel)|(simp; done))
     ·
      exact absurd g5 (by first|decide +kernel|(rw [hr1]; decide +kernel)|(rw [hr2]; decide +kernel)|(rw [hr3]; decide +kernel)|(rw [hr4]; decide +kernel)|(simp; done))
    ·
     exact absurd g4 (by first|decide +kernel|(rw [hr1]; decide +kernel)|(rw [hr2]; decide +kernel)|(rw [hr3]; decide +kernel)|(rw [hr4]; decide +kernel)|(simp; done))
   ·
    exact absurd g3 (by first|decide +kernel|(rw [hr1]; decide +kernel)|(rw [hr2]; decide +kernel)|(rw [hr3]; decide +kernel)|(rw [hr4]; decide +kernel)|(simp; done))
  ·
   exact absurd g2 (by first|decide +kernel|(rw [hr1]; decide +kernel)|(rw [hr2]; decide +kernel)|(rw [hr3]; decide +kernel)|(rw [hr4]; decide +kernel)|(simp; done))
 ·
  exact absurd g1 (by first|decide +kernel|(rw [hr1]; decide +kernel)|(rw [hr2]; decide +kernel)|(rw [hr3]; decide +kernel)|(rw [hr4]; decide +kernel)|(simp; done))
theorem w_burgagelaw3_same (q : TRequest) (hb : q.bits.length ≤ 140737488351232) (hv : q.vals.length ≤ 70368744175616) :
    T Try.prog 22 [PV.f (eRequest q)] 0 [] (Ret (pB true) 0 []) := by
 refine t_fun tabOk (n := 46) (rs := [.tmp 2]) Try.func22 rfl rfl rfl rfl (Nat.le_of_ble_eq_true rfl) ?_
 intro c hnt hk
 refine w_seq ?_
 refine w_R ?_
 refine qo hnt rfl (s_box rfl rfl ?_)
 refine qa hnt rfl rfl ?_
 refine r_set [(1,PV.ptr 0 0)] [(0,.obj [pI q.fn,pI q.at_,pI q.count,pI q.wAt,pI q.sub,pS 1 false encBo q.bits,pS 1 false enc16 q.vals,p16 q.and_,p16 q.or_])] 1 ⟨rfl,trivial⟩ rfl rfl ?_
 refine r_end ?_
 refine q_then ?_
 refine w_seq ?_
 refine w_R ?_
 refine qo hnt rfl (s_load_ptr tab_27 rfl rfl rfl (Nat.le_of_ble_eq_true rfl) ?_)
 refine qo hnt rfl (s_callF rfl rfl rfl (w_pdu_Bytes q (by first|omega|assumption|(simp; omega)|decide|(simp; done)) (by first|omega|assumption|(simp; omega)|decide|(simp; done))) rfl ?_)
 refine qm hnt rfl rfl ?_
 refine qo hnt rfl (s_extract rfl rfl ?_)
 refine qo hnt rfl (s_extract rfl rfl ?_)
 refine qa hnt rfl rfl ?_
 refine qa hnt rfl rfl ?_
 refine r_end ?_
 refine q_then ?_
 refine w_seq ?_
 have hbl := bytesR_len q
 refine w_R ?_
 refine qo hnt rfl (s_load_ptr tab_27 rfl rfl rfl (Nat.le_of_ble_eq_true rfl) ?_)
 refine qo hnt rfl (s_callX (r2 := PV.tup [PV.ref 1 0 none,pI (rightR q)]) (nx1 := 2) (H2 := [(0,.obj [pI q.fn,pI q.at_,pI q.count,pI q.wAt,pI q.sub,pS 1 false encBo q.bits,pS 1 false enc16 q.vals,p16 q.and_,p16 q.or_])]) (H3 := [(1,oB false 1 enc8 (bytesR q)),(0,.obj [pI q.fn,pI q.at_,pI q.count,pI q.wAt,pI q.sub,pS 1 false encBo q.bits,pS 1 false enc16 q.vals,p16 q.and_,p16 q.or_])]) [] [] rfl rfl rfl (handed_of (by decide) trivial) rfl rfl rfl rfl rfl rfl (w_burgageref3_Bytes q (by first|omega|assumption|(simp; omega)|decide|(simp; done)) (by first|omega|assumption|(simp; omega)|decide|(simp; done))) rfl (dist_of rfl) rfl rfl rfl rfl ?_)
 refine qm hnt rfl rfl ?_
 refine qo hnt rfl (s_extract rfl rfl ?_)
 refine qo hnt rfl (s_extract rfl rfl ?_)
 refine qa hnt rfl rfl ?_
 refine qa hnt rfl rfl ?_
 refine r_set [(1,PV.ptr 0 0),(3,pS 1 false enc8 (bytesR q)),(4,pI (rightR q)),(5,PV.ref 1 0 none),(6,pI (rightR q))] [(1,oB false 1 enc8 (bytesR q)),(0,.obj [pI q.fn,pI q.at_,pI q.count,pI q.wAt,pI q.sub,pS 1 false encBo q.bits,pS 1 false enc16 q.vals,p16 q.and_,p16 q.or_])] 2 ⟨rfl,rfl,rfl,rfl,rfl,trivial⟩ rfl rfl ?_
 refine r_end ?_
 refine q_then ?_
 refine w_seq ?_
 refine W_drawn tabOk mixed hnt [[],[],[0,1],[0,1,2],[0,1,2,3],[0,1,2,3,4],[0,1,2,3],[0,1,2,3,6],[0,1,2,3,4,5,6,7],[0,1,2,3,4,5,6,7,8],[0,1,2,3,4,5,6,7,8,9],[0,1,2,3,4,5,6,7,8,9,10],[0,1,2,3,4,5,6,7,8,9,10,11],[0,1,2,3,4,5,6,7,8,9,10],[0,1,2,3,4,5,6,7,8,9,10,11,12,13],[0,1,2,3,4,5,6,7,8,9,10,11,12,13,14],[0,1,2,3,4,5,6,7,8,9,10,11,12,13,14,15],[0,1,2,3,4,5,6,7,8,9,10,11,12,13,14,15,16],[0,1,2,3,4,5,6,7,8,9,10,11,12,13,14,15,16,17],[0,1,2,3,4,5,6,7,8,9,10,11,12,13,14,15,16,17,18],[0,1,2,3,4,5,6,7,8,9,10,11,12,13,14,15,16,17],[0,1,2,3,4,5,6,7,8,9,10,11,12,13,14,15,16,17,18,19,20],[0,1,2,3,4,5,6,7,8,9,10,11,12,13,14,15,16,17,18,19,20,21],[0,1,2,3,4,5,6,7,8,9,10,11,12,13,14,15,16,17,18,19,20,21,22],[0,1,2,3,4,5,6,7,8,9,10,11,12,13,14,15,16,17,18,19,20,21,22,23],[0,1,2,3,4,5,6,7,8,9,10,11,12,13,14,15,16,17,18,19,20,21,22,23,24],[0,1,2,3,4,5,6,7,8,9,10,11,12,13,14,15,16,17,18,19,20,21,22,23,24],[0,1,2,3,4,5,6,7,8,9,10,11,12,13,14,15,16,17,18,19,20,21,22,23,24,25,26],[0,1,2,3,4,5,6,7,8,9,10,11,12,13,14,15,16,17,18,19,20,21,22,23,24,25,26,27],[0,1,2,3,4,5,6,7,8,9,10,11,12,13,14,15,16,17,18,19,20,21,22,23,24,25,26,27,28]] (by kernel_rfl) ?_
 refine d_op ?_
 refine x_run0 [(4,pI (rightR q))] [] rfl rfl rfl rfl (s_move rfl ⟨rfl,rfl,rfl⟩) ?_
 refine d_op ?_
 refine x_run0 [(6,pI (rightR q))] [] rfl rfl rfl rfl (s_move rfl ⟨rfl,rfl,rfl⟩) ?_
 refine d_op ?_
 refine x_run0 [(17,pI (rightR q)),(18,pI (rightR q))] [0,1] rfl rfl rfl rfl (s_eql rfl rfl ⟨rfl,rfl,rfl⟩) ?_
 refine d_op ?_
 refine x_run0 [(19,pB (decide (rightR q = rightR q)))] [0,1,2] rfl rfl rfl rfl (s_move rfl ⟨rfl,rfl,rfl⟩) ?_
 refine x_if [(20,pB (decide (rightR q = rightR q))),(3,pS 1 false enc8 (bytesR q))] [0,1,2,3] rfl rfl rfl rfl (fun g1 => ?_) (fun g1 => ?_)
 ·
  have g1' := g1
  try simp only [sB] at g1'
  refine x_run0 [(20,pB (decide (rightR q = rightR q))),(3,pS 1 false enc8 (bytesR q))] [0,1,2,3] rfl rfl rfl rfl (s_move rfl ⟨rfl,rfl,rfl⟩) ?_
  refine xy [(20,pB (decide (rightR q = rightR q))),(21,pS 1 false enc8 (bytesR q))] [0,1,2,3,4] rfl rfl rfl rfl g1 ?_
  refine x_run0 [(20,pB (decide (rightR q = rightR q))),(21,pS 1 false enc8 (bytesR q))] [0,1,2,3,4] rfl rfl rfl rfl (s_cvT tab_34 tab_9 rfl tab_5 rfl rfl (hM_sl (f := enc8) rfl) ⟨rfl,rfl,rfl⟩) ?_
  refine xy [(20,pB (decide (rightR q = rightR q))),(5,PV.ref 1 0 none)] [0,1,2,3] rfl rfl rfl rfl g1 ?_
  refine x_run0 [(20,pB (decide (rightR q = rightR q))),(5,PV.ref 1 0 none)] [0,1,2,3] rfl rfl rfl rfl (s_move rfl ⟨rfl,rfl,rfl⟩) ?_
  refine xy [(20,pB (decide (rightR q = rightR q))),(23,PV.ref 1 0 none)] [0,1,2,3,6] rfl rfl rfl rfl g1 ?_
  refine x_run [(20,pB (decide (rightR q = rightR q))),(23,PV.ref 1 0 none)] [0,1,2,3,6] [(1,oB false 1 enc8 (bytesR q))] [] [(1,oB false 1 enc8 (bytesR q))] [] [(1,oB false 1 enc8 (bytesR q)),(0,.obj [pI q.fn,pI q.at_,pI q.count,pI q.wAt,pI q.sub,pS 1 false encBo q.bits,pS 1 false enc16 q.vals,p16 q.and_,p16 q.or_])] rfl rfl rfl rfl rfl rfl (s_cvT tab_34 tab_9 rfl tab_5 rfl rfl (hM_ref0 (f := enc8) rfl rfl) ⟨rfl,rfl,rfl⟩) rfl ⟨rfl,trivial⟩ rfl rfl ?_
  refine xy [(20,pB (decide (rightR q = rightR q))),(22,pT (bytesR q)),(24,pT (bytesR q))] [0,1,2,3,4,5,6,7] rfl rfl rfl rfl g1 ?_
  refine x_run0 [(20,pB (decide (rightR q = rightR q))),(22,pT (bytesR q)),(24,pT (bytesR q))] [0,1,2,3,4,5,6,7] rfl rfl rfl rfl (s_eqtext (l := bytesR q) (m := bytesR q) rfl rfl ⟨rfl,rfl,rfl⟩) ?_
  refine d_op ?_
  refine x_run0 [(20,pB (decide (rightR q = rightR q))),(25,pB (decide (bytesR q = bytesR q)))] [0,1,2,3,4,5,6,7,8] rfl rfl rfl rfl (s_pick_t rfl g1 rfl ⟨rfl,rfl,rfl⟩) ?_
  refine d_op ?_
  refine x_run0 [(26,pB (decide (bytesR q = bytesR q)))] [0,1,2,3,4,5,6,7,8,9] rfl rfl rfl rfl (s_move rfl ⟨rfl,rfl,rfl⟩) ?_
  refine x_if [(27,pB (decide (bytesR q = bytesR q))),(1,PV.ptr 0 0)] [0,1,2,3,4,5,6,7,8,9,10] rfl rfl rfl rfl (fun g2 => ?_) (fun g2 => ?_)
  ·
   have g2' := g2
   try simp only [sB] at g2'
   refine x_run [(27,pB (decide (bytesR q = bytesR q))),(1,PV.ptr 0 0)] [0,1,2,3,4,5,6,7,8,9,10] [(0,.obj [pI q.fn,pI q.at_,pI q.count,pI q.wAt,pI q.sub,pS 1 false encBo q.bits,pS 1 false enc16 q.vals,p16 q.and_,p16 q.or_])] [] [(0,.obj [pI q.fn,pI q.at_,pI q.count,pI q.wAt,pI q.sub,pS 1 false encBo q.bits,pS 1 false enc16 q.vals,p16 q.and_,p16 q.or_])] [] [(1,oB false 1 enc8 (bytesR q)),(0,.obj [pI q.fn,pI q.at_,pI q.count,pI q.wAt,pI q.sub,pS 1 false encBo q.bits,pS 1 false enc16 q.vals,p16 q.and_,p16 q.or_])] rfl rfl rfl rfl rfl rfl (s_load_ptr tab_27 rfl rfl rfl (Nat.le_of_ble_eq_true rfl) ⟨rfl,rfl,rfl⟩) rfl ⟨rfl,trivial⟩ rfl rfl ?_
   refine xy [(27,pB (decide (bytesR q = bytesR q))),(28,PV.f (.agg [encI q.fn,encI q.at_,encI q.count,encI q.wAt,encI q.sub,FV.sl 1 false (List.map encBo q.bits),FV.sl 1 false (List.map enc16 q.vals),enc16 q.and_,enc16 q.or_]))] [0,1,2,3,4,5,6,7,8,9,10,11] rfl rfl rfl rfl g2 ?_
   refine x_run0 [(27,pB (decide (bytesR q = bytesR q))),(28,PV.f (.agg [encI q.fn,encI q.at_,encI q.count,encI q.wAt,encI q.sub,FV.sl 1 false (List.map encBo q.bits),FV.sl 1 false (List.map enc16 q.vals),enc16 q.and_,enc16 q.or_]))] [0,1,2,3,4,5,6,7,8,9,10,11] rfl rfl rfl rfl (s_callF rfl rfl rfl (w_pdu_Right q (by first|omega|assumption|(simp; omega)|decide|(simp; done)) (by first|omega|assumption|(simp; omega)|decide|(simp; done))) rfl ⟨rfl,rfl,rfl⟩) ?_
   refine xy [(27,pB (decide (bytesR q = bytesR q))),(1,PV.ptr 0 0)] [0,1,2,3,4,5,6,7,8,9,10] rfl rfl rfl rfl g2 ?_
   refine x_run [(27,pB (decide (bytesR q = bytesR q))),(1,PV.ptr 0 0)] [0,1,2,3,4,5,6,7,8,9,10] [(0,.obj [pI q.fn,pI q.at_,pI q.count,pI q.wAt,pI q.sub,pS 1 false encBo q.bits,pS 1 false enc16 q.vals,p16 q.and_,p16 q.or_])] [] [(0,.obj [pI q.fn,pI q.at_,pI q.count,pI q.wAt,pI q.sub,pS 1 false encBo q.bits,pS 1 false enc16 q.vals,p16 q.and_,p16 q.or_])] [] [(1,oB false 1 enc8 (bytesR q)),(0,.obj [pI q.fn,pI q.at_,pI q.count,pI q.wAt,pI q.sub,pS 1 false encBo q.bits,pS 1 false enc16 q.vals,p16 q.and_,p16 q.or_])] rfl rfl rfl rfl rfl rfl (s_load_ptr tab_27 rfl rfl rfl (Nat.le_of_ble_eq_true rfl) ⟨rfl,rfl,rfl⟩) rfl ⟨rfl,trivial⟩ rfl rfl ?_
   refine xy [(27,pB (decide (bytesR q = bytesR q))),(30,PV.f (.agg [encI q.fn,encI q.at_,encI q.count,encI q.wAt,encI q.sub,FV.sl 1 false (List.map encBo q.bits),FV.sl 1 false (List.map enc16 q.vals),enc16 q.and_,enc16 q.or_]))] [0,1,2,3,4,5,6,7,8,9,10,11,12,13] rfl rfl rfl rfl g2 ?_
   refine x_run0 [(27,pB (decide (bytesR q = bytesR q))),(30,PV.f (.agg [encI q.fn,encI q.at_,encI q.count,encI q.wAt,encI q.sub,FV.sl 1 false (List.map encBo q.bits),FV.sl 1 false (List.map enc16 q.vals),enc16 q.and_,enc16 q.or_]))] [0,1,2,3,4,5,6,7,8,9,10,11,12,13] rfl rfl rfl rfl (s_callF rfl rfl rfl (w_burgageref3_Right q (by first|omega|assumption|(simp; omega)|decide|(simp; done)) (by first|omega|assumption|(simp; omega)|decide|(simp; done))) rfl ⟨rfl,rfl,rfl⟩) ?_
   refine xy [(27,pB (decide (bytesR q = bytesR q))),(29,pI (rightR q)),(31,pI (rightR q))] [0,1,2,3,4,5,6,7,8,9,10,11,12,13,14] rfl rfl rfl rfl g2 ?_
   refine x_run0 [(27,pB (decide (bytesR q = bytesR q))),(29,pI (rightR q)),(31,pI (rightR q))] [0,1,2,3,4,5,6,7,8,9,10,11,12,13,14] rfl rfl rfl rfl (s_eql rfl rfl ⟨rfl,rfl,rfl⟩) ?_
   refine d_op ?_
   refine x_run0 [(27,pB (decide (bytesR q = bytesR q))),(32,pB (decide (rightR q = rightR q)))] [0,1,2,3,4,5,6,7,8,9,10,11,12,13,14,15] rfl rfl rfl rfl (s_pick_t rfl g2 rfl ⟨rfl,rfl,rfl⟩) ?_
   refine d_op ?_
   refine x_run0 [(33,pB (decide (rightR q = rightR q)))] [0,1,2,3,4,5,6,7,8,9,10,11,12,13,14,15,16] rfl rfl rfl rfl (s_move rfl ⟨rfl,rfl,rfl⟩) ?_
   refine xy [(34,pB (decide (rightR q = rightR q))),(1,PV.ptr 0 0)] [0,1,2,3,4,5,6,7,8,9,10,11,12,13,14,15,16,17] rfl rfl rfl rfl g1 ?_
   refine x_run [(34,pB (decide (rightR q = rightR q))),(1,PV.ptr 0 0)] [0,1,2,3,4,5,6,7,8,9,10,11,12,13,14,15,16,17] [(0,.obj [pI q.fn,pI q.at_,pI q.count,pI q.wAt,pI q.sub,pS 1 false encBo q.bits,pS 1 false enc16 q.vals,p16 q.and_,p16 q.or_])] [] [(0,.obj [pI q.fn,pI q.at_,pI q.count,pI q.wAt,pI q.sub,pS 1 false encBo q.bits,pS 1 false enc16 q.vals,p16 q.and_,p16 q.or_])] [] [(1,oB false 1 enc8 (bytesR q)),(0,.obj [pI q.fn,pI q.at_,pI q.count,pI q.wAt,pI q.sub,pS 1 false encBo q.bits,pS 1 false enc16 q.vals,p16 q.and_,p16 q.or_])] rfl rfl rfl rfl rfl rfl (s_load_ptr tab_27 rfl rfl rfl (Nat.le_of_ble_eq_true rfl) ⟨rfl,rfl,rfl⟩) rfl ⟨rfl,trivial⟩ rfl rfl ?_
   refine xy [(34,pB (decide (rightR q = rightR q))),(35,PV.f (.agg [encI q.fn,encI q.at_,encI q.count,encI q.wAt,encI q.sub,FV.sl 1 false (List.map encBo q.bits),FV.sl 1 false (List.map enc16 q.vals),enc16 q.and_,enc16 q.or_]))] [0,1,2,3,4,5,6,7,8,9,10,11,12,13,14,15,16,17,18] rfl rfl rfl rfl g1 ?_
   refine x_run0 [(34,pB (decide (rightR q = rightR q))),(35,PV.f (.agg [encI q.fn,encI q.at_,encI q.count,encI q.wAt,encI q.sub,FV.sl 1 false (List.map encBo q.bits),FV.sl 1 false (List.map enc16 q.vals),enc16 q.and_,enc16 q.or_]))] [0,1,2,3,4,5,6,7,8,9,10,11,12,13,14,15,16,17,18] rfl rfl rfl rfl (s_callF rfl rfl rfl (w_pdu_Counts q (by first|omega|assumption|(simp; omega)|decide|(simp; done)) (by first|omega|assumption|(simp; omega)|decide|(simp; done))) rfl ⟨rfl,rfl,rfl⟩) ?_
   refine xy [(34,pB (decide (rightR q = rightR q))),(1,PV.ptr 0 0)] [0,1,2,3,4,5,6,7,8,9,10,11,12,13,14,15,16,17] rfl rfl rfl rfl g1 ?_
   refine x_run [(34,pB (decide (rightR q = rightR q))),(1,PV.ptr 0 0)] [0,1,2,3,4,5,6,7,8,9,10,11,12,13,14,15,16,17] [(0,.obj [pI q.fn,pI q.at_,pI q.count,pI q.wAt,pI q.sub,pS 1 false encBo q.bits,pS 1 false enc16 q.vals,p16 q.and_,p16 q.or_])] [] [(0,.obj [pI q.fn,pI q.at_,pI q.count,pI q.wAt,pI q.sub,pS 1 false encBo q.bits,pS 1 false enc16 q.vals,p16 q.and_,p16 q.or_])] [] [(1,oB false 1 enc8 (bytesR q)),(0,.obj [pI q.fn,pI q.at_,pI q.count,pI q.wAt,pI q.sub,pS 1 false encBo q.bits,pS 1 false enc16 q.vals,p16 q.and_,p16 q.or_])] rfl rfl rfl rfl rfl rfl (s_load_ptr tab_27 rfl rfl rfl (Nat.le_of_ble_eq_true rfl) ⟨rfl,rfl,rfl⟩) rfl ⟨rfl,trivial⟩ rfl rfl ?_
   refine xy [(34,pB (decide (rightR q = rightR q))),(37,PV.f (.agg [encI q.fn,encI q.at_,encI q.count,encI q.wAt,encI q.sub,FV.sl 1 false (List.map encBo q.bits),FV.sl 1 false (List.map enc16 q.vals),enc16 q.and_,enc16 q.or_]))] [0,1,2,3,4,5,6,7,8,9,10,11,12,13,14,15,16,17,18,19,20] rfl rfl rfl rfl g1 ?_
   refine x_run0 [(34,pB (decide (rightR q = rightR q))),(37,PV.f (.agg [encI q.fn,encI q.at_,encI q.count,encI q.wAt,encI q.sub,FV.sl 1 false (List.map encBo q.bits),FV.sl 1 false (List.map enc16 q.vals),enc16 q.and_,enc16 q.or_]))] [0,1,2,3,4,5,6,7,8,9,10,11,12,13,14,15,16,17,18,19,20] rfl rfl rfl rfl (s_callF rfl rfl rfl (w_burgageref3_Counts q (by first|omega|assumption|(simp; omega)|decide|(simp; done)) (by first|omega|assumption|(simp; omega)|decide|(simp; done))) rfl ⟨rfl,rfl,rfl⟩) ?_
   refine xy [(34,pB (decide (rightR q = rightR q))),(36,pB (countsR q)),(38,pB (countsR q))] [0,1,2,3,4,5,6,7,8,9,10,11,12,13,14,15,16,17,18,19,20,21] rfl rfl rfl rfl g1 ?_
   refine x_run0 [(34,pB (decide (rightR q = rightR q))),(36,pB (countsR q)),(38,pB (countsR q))] [0,1,2,3,4,5,6,7,8,9,10,11,12,13,14,15,16,17,18,19,20,21] rfl rfl rfl rfl (s_eqbool tab_4 rfl rfl rfl ⟨rfl,rfl,rfl⟩) ?_
   refine d_op ?_
   refine x_run0 [(34,pB (decide (rightR q = rightR q))),(39,pB ((countsR q) == (countsR q)))] [0,1,2,3,4,5,6,7,8,9,10,11,12,13,14,15,16,17,18,19,20,21,22] rfl rfl rfl rfl (s_pick_t rfl g1 rfl ⟨rfl,rfl,rfl⟩) ?_
   refine d_op ?_
   refine x_run0 [(40,pB ((countsR q) == (countsR q)))] [0,1,2,3,4,5,6,7,8,9,10,11,12,13,14,15,16,17,18,19,20,21,22,23] rfl rfl rfl rfl (s_move rfl ⟨rfl,rfl,rfl⟩) ?_
   refine x_if [(41,pB ((countsR q) == (countsR q))),(1,PV.ptr 0 0)] [0,1,2,3,4,5,6,7,8,9,10,11,12,13,14,15,16,17,18,19,20,21,22,23,24] rfl rfl rfl rfl (fun g3 => ?_) (fun g3 => ?_)
   ·
    have g3' := g3
    try simp only [sB] at g3'
    refine x_run [(41,pB ((countsR q) == (countsR q))),(1,PV.ptr 0 0)] [0,1,2,3,4,5,6,7,8,9,10,11,12,13,14,15,16,17,18,19,20,21,22,23,24] [(0,.obj [pI q.fn,pI q.at_,pI q.count,pI q.wAt,pI q.sub,pS 1 false encBo q.bits,pS 1 false enc16 q.vals,p16 q.and_,p16 q.or_])] [] [(0,.obj [pI q.fn,pI q.at_,pI q.count,pI q.wAt,pI q.sub,pS 1 false encBo q.bits,pS 1 false enc16 q.vals,p16 q.and_,p16 q.or_])] [] [(1,oB false 1 enc8 (bytesR q)),(0,.obj [pI q.fn,pI q.at_,pI q.count,pI q.wAt,pI q.sub,pS 1 false encBo q.bits,pS 1 false enc16 q.vals,p16 q.and_,p16 q.or_])] rfl rfl rfl rfl rfl rfl (s_load_ptr tab_27 rfl rfl rfl (Nat.le_of_ble_eq_true rfl) ⟨rfl,rfl,rfl⟩) rfl ⟨rfl,trivial⟩ rfl rfl ?_
    refine xy [(41,pB ((countsR q) == (countsR q))),(1,PV.ptr 0 0)] [0,1,2,3,4,5,6,7,8,9,10,11,12,13,14,15,16,17,18,19,20,21,22,23,24] rfl rfl rfl rfl g3 ?_
    refine x_run [(41,pB ((countsR q) == (countsR q))),(1,PV.ptr 0 0)] [0,1,2,3,4,5,6,7,8,9,10,11,12,13,14,15,16,17,18,19,20,21,22,23,24] [(0,.obj [pI q.fn,pI q.at_,pI q.count,pI q.wAt,pI q.sub,pS 1 false encBo q.bits,pS 1 false enc16 q.vals,p16 q.and_,p16 q.or_])] [] [(0,.obj [pI q.fn,pI q.at_,pI q.count,pI q.wAt,pI q.sub,pS 1 false encBo q.bits,pS 1 false enc16 q.vals,p16 q.and_,p16 q.or_])] [] [(1,oB false 1 enc8 (bytesR q)),(0,.obj [pI q.fn,pI q.at_,pI q.count,pI q.wAt,pI q.sub,pS 1 false encBo q.bits,pS 1 false enc16 q.vals,p16 q.and_,p16 q.or_])] rfl rfl rfl rfl rfl rfl (s_load_ptr tab_27 rfl rfl rfl (Nat.le_of_ble_eq_true rfl) ⟨rfl,rfl,rfl⟩) rfl ⟨rfl,trivial⟩ rfl rfl ?_
    refine xy [(41,pB ((countsR q) == (countsR q))),(42,PV.f (.agg [encI q.fn,encI q.at_,encI q.count,encI q.wAt,encI q.sub,FV.sl 1 false (List.map encBo q.bits),FV.sl 1 false (List.map enc16 q.vals),enc16 q.and_,enc16 q.or_])),(43,PV.f (.agg [encI q.fn,encI q.at_,encI q.count,encI q.wAt,encI q.sub,FV.sl 1 false (List.map encBo q.bits),FV.sl 1 false (List.map enc16 q.vals),enc16 q.and_,enc16 q.or_]))] [0,1,2,3,4,5,6,7,8,9,10,11,12,13,14,15,16,17,18,19,20,21,22,23,24,25,26] rfl rfl rfl rfl g3 ?_
    refine x_run0 [(41,pB ((countsR q) == (countsR q))),(42,PV.f (.agg [encI q.fn,encI q.at_,encI q.count,encI q.wAt,encI q.sub,FV.sl 1 false (List.map encBo q.bits),FV.sl 1 false (List.map enc16 q.vals),enc16 q.and_,enc16 q.or_])),(43,PV.f (.agg [encI q.fn,encI q.at_,encI q.count,encI q.wAt,encI q.sub,FV.sl 1 false (List.map encBo q.bits),FV.sl 1 false (List.map enc16 q.vals),enc16 q.and_,enc16 q.or_]))] [0,1,2,3,4,5,6,7,8,9,10,11,12,13,14,15,16,17,18,19,20,21,22,23,24,25,26] rfl rfl rfl rfl (s_callF rfl rfl rfl (w_pdu_Same q q (by first|omega|assumption|(simp; omega)|decide|(simp; done))) rfl ⟨rfl,rfl,rfl⟩) ?_
    refine d_op ?_
    refine x_run0 [(41,pB ((countsR q) == (countsR q))),(44,pB (decide (q = q)))] [0,1,2,3,4,5,6,7,8,9,10,11,12,13,14,15,16,17,18,19,20,21,22,23,24,25,26,27] rfl rfl rfl rfl (s_pick_t rfl g3 rfl ⟨rfl,rfl,rfl⟩) ?_
    refine d_op ?_
    refine x_run0 [(45,pB (decide (q = q)))] [0,1,2,3,4,5,6,7,8,9,10,11,12,13,14,15,16,17,18,19,20,21,22,23,24,25,26,27,28] rfl rfl rfl rfl (s_assign rfl ⟨rfl,rfl,rfl⟩) ?_
    refine d_end ⟨by kernel_rfl, ?_⟩
    refine q_then ?_
    refine w_le (s := 2) (y := pB true) rfl (le_of_eq (congrArg (fun z : Bool => pB z) (show (decide (q = q)) = true by simp))) ?_
    refine w_ret ?_
    exact fin_plain (ret_tmp rfl ret_nil) rfl rfl ⟨rfl,rfl,rfl⟩
   ·
    exact absurd g3 (by simp)
  ·
   exact absurd g2 (by simp)
 ·
  exact absurd g1 (by simp)
theorem w_burgagelaw3_reads (b : List UInt8) (cl_b : Bool) (hb : b.length ≤ 140737488351232) :
    T Try.prog 23 [pS 1 cl_b enc8 b] 0 [] (Ret (pB true) 0 []) := by
 refine t_fun tabOk (n := 25) (rs := [.tmp 2]) Try.func23 rfl rfl rfl rfl (Nat.le_of_ble_eq_true rfl) ?_
 intro c hnt hk
 refine w_seq ?_
 refine w_R ?_
 refine qa hnt rfl rfl ?_
 refine r_end ?_
 refine q_then ?_
 refine w_seq ?_
 refine w_R ?_
 refine qm hnt rfl rfl ?_
 obtain ⟨R1,hR1⟩ : ∃ z : TRequest × Int,z = readWith guessP b := ⟨_,rfl⟩
 refine qo hnt rfl (s_callF rfl rfl rfl (w_pdu_Read b cl_b R1 hR1 (by first|omega|assumption|(simp; omega)|decide|(simp; done))) rfl ?_)
 refine qm hnt rfl rfl ?_
 refine qo hnt rfl (s_extract rfl rfl ?_)
 refine qo hnt rfl (s_extract rfl rfl ?_)
 refine qo hnt rfl (s_alloc tab_27 ?_)
 refine qo hnt rfl (s_store_ptr tab_27 rfl rfl rfl rfl rfl (Nat.le_of_ble_eq_true rfl) ?_)
 refine qa hnt rfl rfl ?_
 refine r_set [(0,pS 1 cl_b enc8 b),(3,PV.ptr 0 0),(4,pI R1.2)] [(0,.obj [pI R1.1.fn,pI R1.1.at_,pI R1.1.count,pI R1.1.wAt,pI R1.1.sub,pS 1 false encBo R1.1.bits,pS 1 false enc16 R1.1.vals,p16 R1.1.and_,p16 R1.1.or_])] 1 ⟨rfl,rfl,rfl,trivial⟩ rfl rfl ?_
 refine r_end ?_
 refine q_then ?_
 refine w_seq ?_
 refine w_R ?_
 refine qm hnt rfl rfl ?_
 obtain ⟨R2,hR2⟩ : ∃ z : TRequest × Int,z = readWith guessR b := ⟨_,rfl⟩
 refine qo hnt rfl (s_callF rfl rfl rfl (w_burgageref3_Read b cl_b R2 hR2 (by first|omega|assumption|(simp; omega)|decide|(simp; done))) rfl ?_)
 refine qm hnt rfl rfl ?_
 refine qo hnt rfl (s_extract rfl rfl ?_)
 refine qo hnt rfl (s_extract rfl rfl ?_)
 refine qo hnt rfl (s_alloc tab_27 ?_)
 refine qo hnt rfl (s_store_ptr tab_27 rfl rfl rfl rfl rfl (Nat.le_of_ble_eq_true rfl) ?_)
 refine qa hnt rfl rfl ?_
 refine r_set [(3,PV.ptr 0 0),(4,pI R1.2),(5,PV.ptr 1 0),(6,pI R2.2)] [(1,.obj [pI R2.1.fn,pI R2.1.at_,pI R2.1.count,pI R2.1.wAt,pI R2.1.sub,pS 1 false encBo R2.1.bits,pS 1 false enc16 R2.1.vals,p16 R2.1.and_,p16 R2.1.or_]),(0,.obj [pI R1.1.fn,pI R1.1.at_,pI R1.1.count,pI R1.1.wAt,pI R1.1.sub,pS 1 false encBo R1.1.bits,pS 1 false enc16 R1.1.vals,p16 R1.1.and_,p16 R1.1.or_])] 2 ⟨rfl,rfl,rfl,rfl,trivial⟩ rfl rfl ?_
 refine r_end ?_
 refine q_then ?_
 refine w_seq ?_
 have hrr : R2 = R1 := by rw [hR1,hR2]; first|exact read_same b|exact (read_same b).symm
 have hrl := read_len b
 have hr1 : R1 = readWith guessR b := by first|exact hR1|(rw [hR1]; exact read_same b)
 rw [← hr1] at hrl
 refine w_R ?_
 refine qm hnt rfl rfl ?_
 refine qm hnt rfl rfl ?_
 refine qo hnt rfl (s_eql rfl rfl ?_)
 refine qm hnt rfl rfl ?_
 refine r_if tabOk hnt rfl rfl rfl (fun g1 => ?_) (fun g1 => ?_)
 ·
  have g1' := g1
  try simp only [sB] at g1'
  refine qo hnt rfl (s_load_ptr tab_27 rfl rfl rfl (Nat.le_of_ble_eq_true rfl) ?_)
  refine ry hnt rfl rfl rfl g1 ?_
  refine qo hnt rfl (s_load_ptr tab_27 rfl rfl rfl (Nat.le_of_ble_eq_true rfl) ?_)
  refine ry hnt rfl rfl rfl g1 ?_
  refine qo hnt rfl (s_callF rfl rfl rfl (w_burgageref3_Same (⟨R1.1.fn,R1.1.at_,R1.1.count,R1.1.wAt,R1.1.sub,R1.1.bits,R1.1.vals,R1.1.and_,R1.1.or_⟩ : TRequest) (⟨R2.1.fn,R2.1.at_,R2.1.count,R2.1.wAt,R2.1.sub,R2.1.bits,R2.1.vals,R2.1.and_,R2.1.or_⟩ : TRequest) (by first|omega|assumption|(simp; omega)|decide|(simp; done))) rfl ?_)
  refine qo hnt rfl (s_pick_t rfl g1 rfl ?_)
  refine qa hnt rfl rfl ?_
  refine r_end ?_
  refine q_then ?_
  refine w_le (s := 2) (y := pB true) rfl (le_of_eq (congrArg (fun z : Bool => pB z) (show (decide ((⟨R1.1.fn,R1.1.at_,R1.1.count,R1.1.wAt,R1.1.sub,R1.1.bits,R1.1.vals,R1.1.and_,R1.1.or_⟩ : TRequest) = (⟨R2.1.fn,R2.1.at_,R2.1.count,R2.1.wAt,R2.1.sub,R2.1.bits,R2.1.vals,R2.1.and_,R2.1.or_⟩ : TRequest))) = true by first|(rw [hrr]; simp; done)|simp))) ?_
  refine w_ret ?_
  exact fin_plain (ret_tmp rfl ret_nil) rfl rfl ⟨rfl,rfl,rfl⟩
 ·
  exact absurd g1 (by rw [hrr]; simp)
theorem w_burgagelaw3_odd (q : TRequest) (what : Int) (n : Int) (hn : -9223372036854775808 ≤ n ∧ n ≤ 9223372036854775807) (hb : q.bits.length ≤ 140737488351232) (hv : q.vals.length ≤ 70368744175616) :
    T Try.prog 21 [PV.f (eRequest q),pI what,pI n] 0 [] (fun ra rb rc => ∃ o : TRequest,(o.bits.length ≤ 140737488351232 ∧ o.vals.length ≤ 70368744175616) ∧ (Ret (PV.f (eRequest o)) 0 []) ra rb rc) := by
 refine t_fun tabOk (n := 63) (rs := [.cell 6 27]) Try.func21 rfl rfl rfl rfl (Nat.le_of_ble_eq_true rfl) ?_
 intro c hnt hk
 refine w_seq ?_
 refine w_R ?_
 refine qo hnt rfl (s_box rfl rfl ?_)
 refine qo hnt rfl (s_alloc tab_27 ?_)
 refine r_set [(1,pI what),(2,pI n),(3,PV.ptr 0 0),(6,PV.ptr 1 0)] [(1,.obj [pI 0,pI 0,pI 0,pI 0,pI 0,pNil,pNil,p16 0,p16 0]),(0,.obj [pI q.fn,pI q.at_,pI q.count,pI q.wAt,pI q.sub,pS 1 false encBo q.bits,pS 1 false enc16 q.vals,p16 q.and_,p16 q.or_])] 2 ⟨rfl,rfl,rfl,rfl,trivial⟩ rfl rfl ?_
 refine r_end ?_
 refine q_then ?_
 refine w_seq ?_
 refine w_seq ?_
 refine w_R ?_
 refine qm hnt rfl rfl ?_
 refine qo hnt rfl (s_callF rfl rfl rfl (w_burgagebook_Within what 0 9 (by first|omega|assumption|(simp; omega)|decide|(simp; done))) rfl ?_)
 refine r_end ?_
 refine q_then ?_
 refine w_block ?_
 refine w_seq ?_
 refine w_R ?_
 refine qo hnt rfl (s_eql rfl rfl ?_)
 refine qa hnt rfl rfl ?_
 refine r_end ?_
 refine q_then ?_
 refine w_if rfl (fun c1 => ?_) (fun c1 => ?_)
 ·
  have c1_ := c1
  try simp only [sB] at c1
  refine w_R ?_
  refine qm hnt rfl rfl ?_
  refine qo hnt rfl (s_fa_ptr tab_27 rfl rfl tab_3 (by decide) rfl ?_)
  refine qo hnt rfl (s_store_ptr tab_3 rfl rfl rfl rfl rfl (Nat.le_of_ble_eq_true rfl) ?_)
  refine r_set [(3,PV.ptr 0 0),(6,PV.ptr 1 0)] [(0,.obj [pI q.fn,pI n,pI q.count,pI q.wAt,pI q.sub,pS 1 false encBo q.bits,pS 1 false enc16 q.vals,p16 q.and_,p16 q.or_]),(1,.obj [pI 0,pI 0,pI 0,pI 0,pI 0,pNil,pNil,p16 0,p16 0])] 2 ⟨rfl,rfl,trivial⟩ rfl rfl ?_
  refine r_end ?_
  refine q_block ?_
  refine q_then ?_
  refine w_seq ?_
  refine w_R ?_
  refine qo hnt rfl (s_load_ptr tab_27 rfl rfl rfl (Nat.le_of_ble_eq_true rfl) ?_)
  refine qo hnt rfl (s_store_ptr tab_27 rfl rfl rfl rfl rfl (Nat.le_of_ble_eq_true rfl) ?_)
  refine r_set [(6,PV.ptr 1 0)] [(1,.obj [pI q.fn,pI n,pI q.count,pI q.wAt,pI q.sub,pS 1 false encBo q.bits,pS 1 false enc16 q.vals,p16 q.and_,p16 q.or_]),(0,.obj [pI q.fn,pI n,pI q.count,pI q.wAt,pI q.sub,pS 1 false encBo q.bits,pS 1 false enc16 q.vals,p16 q.and_,p16 q.or_])] 2 ⟨rfl,trivial⟩ rfl rfl ?_
  refine r_end ?_
  refine q_then ?_
  refine w_ret ?_
  have hex : (⟨q.fn,n,q.count,q.wAt,q.sub,q.bits,q.vals,q.and_,q.or_⟩ : TRequest).bits.length ≤ 140737488351232 ∧ (⟨q.fn,n,q.count,q.wAt,q.sub,q.bits,q.vals,q.and_,q.or_⟩ : TRequest).vals.length ≤ 70368744175616 := by
    first|exact ⟨hb,hv⟩|exact ⟨by simp; omega,hv⟩|exact ⟨hb,by simp; omega⟩|(constructor <;> simp <;> omega)
  exact fin_plain (ret_cell tab_27 (by decide) rfl rfl (Nat.le_of_ble_eq_true rfl) rfl ret_nil) rfl rfl ⟨((⟨q.fn,n,q.count,q.wAt,q.sub,q.bits,q.vals,q.and_,q.or_⟩ : TRequest)),hex,rfl,rfl,rfl⟩
 ·
  have c1_ := c1
  try simp only [sB] at c1
  refine w_seq ?_
  refine w_R ?_
  refine qo hnt rfl (s_eql rfl rfl ?_)
  refine qa hnt rfl rfl ?_
  refine r_end ?_
  refine q_then ?_
  refine w_if rfl (fun c2 => ?_) (fun c2 => ?_)
  ·
   have c2_ := c2
   try simp only [sB] at c2
   refine w_R ?_
   refine qm hnt rfl rfl ?_
   refine qo hnt rfl (s_fa_ptr tab_27 rfl rfl tab_3 (by decide) rfl ?_)
   refine qo hnt rfl (s_store_ptr tab_3 rfl rfl rfl rfl rfl (Nat.le_of_ble_eq_true rfl) ?_)
   refine r_set [(3,PV.ptr 0 0),(6,PV.ptr 1 0)] [(0,.obj [pI q.fn,pI q.at_,pI n,pI q.wAt,pI q.sub,pS 1 false encBo q.bits,pS 1 false enc16 q.vals,p16 q.and_,p16 q.or_]),(1,.obj [pI 0,pI 0,pI 0,pI 0,pI 0,pNil,pNil,p16 0,p16 0])] 2 ⟨rfl,rfl,trivial⟩ rfl rfl ?_
   refine r_end ?_
   refine q_block ?_
   refine q_then ?_
   refine w_seq ?_
   refine w_R ?_
   refine qo hnt rfl (s_load_ptr tab_27 rfl rfl rfl (Nat.le_of_ble_eq_true rfl) ?_)
   refine qo hnt rfl (s_store_ptr tab_27 rfl rfl rfl rfl rfl (Nat.le_of_ble_eq_true rfl) ?_)
   refine r_set [(6,PV.ptr 1 0)] [(1,.obj [pI q.fn,pI q.at_,pI n,pI q.wAt,pI q.sub,pS 1 false encBo q.bits,pS 1 false enc16 q.vals,p16 q.and_,p16 q.or_]),(0,.obj [pI q.fn,pI q.at_,pI n,pI q.wAt,pI q.sub,pS 1 false encBo q.bits,pS 1 false enc16 q.vals,p16 q.and_,p16 q.or_])] 2 ⟨rfl,trivial⟩ rfl rfl ?_
   refine r_end ?_
   refine q_then ?_
   refine w_ret ?_
   have hex : (⟨q.fn,q.at_,n,q.wAt,q.sub,q.bits,q.vals,q.and_,q.or_⟩ : TRequest).bits.length ≤ 140737488351232 ∧ (⟨q.fn,q.at_,n,q.wAt,q.sub,q.bits,q.vals,q.and_,q.or_⟩ : TRequest).vals.length ≤ 70368744175616 := by
     first|exact ⟨hb,hv⟩|exact ⟨by simp; omega,hv⟩|exact ⟨hb,by simp; omega⟩|(constructor <;> simp <;> omega)
   exact fin_plain (ret_cell tab_27 (by decide) rfl rfl (Nat.le_of_ble_eq_true rfl) rfl ret_nil) rfl rfl ⟨((⟨q.fn,q.at_,n,q.wAt,q.sub,q.bits,q.vals,q.and_,q.or_⟩ : TRequest)),hex,rfl,rfl,rfl⟩
  ·
   have c2_ := c2
   try simp only [sB] at c2
   refine w_seq ?_
   refine w_R ?_
   refine qo hnt rfl (s_eql rfl rfl ?_)
   refine qa hnt rfl rfl ?_
   refine r_end ?_
   refine q_then ?_
   refine w_if rfl (fun c3 => ?_) (fun c3 => ?_)
   ·
    have c3_ := c3
    try simp only [sB] at c3
    refine w_R ?_
    refine qm hnt rfl rfl ?_
    refine qo hnt rfl (s_fa_ptr tab_27 rfl rfl tab_3 (by decide) rfl ?_)
    refine qo hnt rfl (s_store_ptr tab_3 rfl rfl rfl rfl rfl (Nat.le_of_ble_eq_true rfl) ?_)
    refine r_set [(3,PV.ptr 0 0),(6,PV.ptr 1 0)] [(0,.obj [pI q.fn,pI q.at_,pI q.count,pI n,pI q.sub,pS 1 false encBo q.bits,pS 1 false enc16 q.vals,p16 q.and_,p16 q.or_]),(1,.obj [pI 0,pI 0,pI 0,pI 0,pI 0,pNil,pNil,p16 0,p16 0])] 2 ⟨rfl,rfl,trivial⟩ rfl rfl ?_
    refine r_end ?_
    refine q_block ?_
    refine q_then ?_
    refine w_seq ?_
    refine w_R ?_
    refine qo hnt rfl (s_load_ptr tab_27 rfl rfl rfl (Nat.le_of_ble_eq_true rfl) ?_)
    refine qo hnt rfl (s_store_ptr tab_27 rfl rfl rfl rfl rfl (Nat.le_of_ble_eq_true rfl) ?_)
    refine r_set [(6,PV.ptr 1 0)] [(1,.obj [pI q.fn,pI q.at_,pI q.count,pI n,pI q.sub,pS 1 false encBo q.bits,pS 1 false enc16 q.vals,p16 q.and_,p16 q.or_]),(0,.obj [pI q.fn,pI q.at_,pI q.count,pI n,pI q.sub,pS 1 false encBo q.bits,pS 1 false enc16 q.vals,p16 q.and_,p16 q.or_])] 2 ⟨rfl,trivial⟩ rfl rfl ?_
    refine r_end ?_
    refine q_then ?_
    refine w_ret ?_
    have hex : (⟨q.fn,q.at_,q.count,n,q.sub,q.bits,q.vals,q.and_,q.or_⟩ : TRequest).bits.length ≤ 140737488351232 ∧ (⟨q.fn,q.at_,q.count,n,q.sub,q.bits,q.vals,q.and_,q.or_⟩ : TRequest).vals.length ≤ 70368744175616 := by
      first|exact ⟨hb,hv⟩|exact ⟨by simp; omega,hv⟩|exact ⟨hb,by simp; omega⟩|(constructor <;> simp <;> omega)
    exact fin_plain (ret_cell tab_27 (by decide) rfl rfl (Nat.le_of_ble_eq_true rfl) rfl ret_nil) rfl rfl ⟨((⟨q.fn,q.at_,q.count,n,q.sub,q.bits,q.vals,q.and_,q.or_⟩ : TRequest)),hex,rfl,rfl,rfl⟩
   ·
    have c3_ := c3
    try simp only [sB] at c3
    refine w_seq ?_
    refine w_R ?_
    refine qo hnt rfl (s_eql rfl rfl ?_)
    refine qa hnt rfl rfl ?_
    refine r_end ?_
    refine q_then ?_
    refine w_if rfl (fun c4 => ?_) (fun c4 => ?_)
    ·
     have c4_ := c4
     try simp only [sB] at c4
     refine w_R ?_
     refine qm hnt rfl rfl ?_
     refine qo hnt rfl (s_fa_ptr tab_27 rfl rfl tab_3 (by decide) rfl ?_)
     refine qo hnt rfl (s_store_ptr tab_3 rfl rfl rfl rfl rfl (Nat.le_of_ble_eq_true rfl) ?_)
     refine r_set [(3,PV.ptr 0 0),(6,PV.ptr 1 0)] [(0,.obj [pI q.fn,pI q.at_,pI q.count,pI q.wAt,pI n,pS 1 false encBo q.bits,pS 1 false enc16 q.vals,p16 q.and_,p16 q.or_]),(1,.obj [pI 0,pI 0,pI 0,pI 0,pI 0,pNil,pNil,p16 0,p16 0])] 2 ⟨rfl,rfl,trivial⟩ rfl rfl ?_
     refine r_end ?_
     refine q_block ?_
     refine q_then ?_
     refine w_seq ?_
     refine w_R ?_
     refine qo hnt rfl (s_load_ptr tab_27 rfl rfl rfl (Nat.le_of_ble_eq_true rfl) ?_)
     refine qo hnt rfl (s_store_ptr tab_27 rfl rfl rfl rfl rfl (Nat.le_of_ble_eq_true rfl) ?_)
     refine r_set [(6,PV.ptr 1 0)] [(1,.obj [pI q.fn,pI q.at_,pI q.count,pI q.wAt,pI n,pS 1 false encBo q.bits,pS 1 false enc16 q.vals,p16 q.and_,p16 q.or_]),(0,.obj [pI q.fn,pI q.at_,pI q.count,pI q.wAt,pI n,pS 1 false encBo q.bits,pS 1 false enc16 q.vals,p16 q.and_,p16 q.or_])] 2 ⟨rfl,trivial⟩ rfl rfl ?_
     refine r_end ?_
     refine q_then ?_
     refine w_ret ?_
     have hex : (⟨q.fn,q.at_,q.count,q.wAt,n,q.bits,q.vals,q.and_,q.or_⟩ : TRequest).bits.length ≤ 140737488351232 ∧ (⟨q.fn,q.at_,q.count,q.wAt,n,q.bits,q.vals,q.and_,q.or_⟩ : TRequest).vals.length ≤ 70368744175616 := by
       first|exact ⟨hb,hv⟩|exact ⟨by simp; omega,hv⟩|exact ⟨hb,by simp; omega⟩|(constructor <;> simp <;> omega)
     exact fin_plain (ret_cell tab_27 (by decide) rfl rfl (Nat.le_of_ble_eq_true rfl) rfl ret_nil) rfl rfl ⟨((⟨q.fn,q.at_,q.count,q.wAt,n,q.bits,q.vals,q.and_,q.or_⟩ : TRequest)),hex,rfl,rfl,rfl⟩
    ·
     have c4_ := c4
     try simp only [sB] at c4
     refine w_seq ?_
     refine w_R ?_
     refine qo hnt rfl (s_eql rfl rfl ?_)
     refine qa hnt rfl rfl ?_
     refine r_end ?_
     refine q_then ?_
     refine w_if rfl (fun c5 => ?_) (fun c5 => ?_)
     ·
      have c5_ := c5
      try simp only [sB] at c5
      refine w_R ?_
      refine qm hnt rfl rfl ?_
      refine qo hnt rfl (s_maskI 12 (by decide) rfl rfl (by decide) ?_)
      refine qo hnt rfl (s_makeM (f := encBo) (bt := 1) tab_one false ((n % 2 ^ 12).toNat) (fun j hj => by cases hj; rfl) tab_23 rfl tab_4 ⟨rfl,by decide⟩ rfl rfl rfl (by omega) (by refine ⟨?_, ?_, ?_⟩ <;> omega) ?_)
      refine qo hnt rfl (s_fa_ptr tab_27 rfl rfl tab_23 (by decide) rfl ?_)
      refine qo hnt rfl (s_store_ptr tab_23 rfl rfl rfl rfl rfl (Nat.le_of_ble_eq_true rfl) ?_)
      refine r_set [(3,PV.ptr 0 0),(6,PV.ptr 1 0)] [(0,.obj [pI q.fn,pI q.at_,pI q.count,pI q.wAt,pI q.sub,PV.ref 2 0 none,pS 1 false enc16 q.vals,p16 q.and_,p16 q.or_]),(2,oB true 1 encBo (List.replicate ((n % 2 ^ 12).toNat) false)),(1,.obj [pI 0,pI 0,pI 0,pI 0,pI 0,pNil,pNil,p16 0,p16 0])] 3 ⟨rfl,rfl,trivial⟩ rfl rfl ?_
      refine r_end ?_
      refine q_block ?_
      refine q_then ?_
      refine w_seq ?_
      refine w_R ?_
      refine qo hnt rfl (s_load_ptr tab_27 rfl rfl rfl (Nat.le_of_ble_eq_true rfl) ?_)
      refine qo hnt rfl (s_store_ptr tab_27 rfl rfl rfl rfl rfl (Nat.le_of_ble_eq_true rfl) ?_)
      refine r_set [(6,PV.ptr 1 0)] [(1,.obj [pI q.fn,pI q.at_,pI q.count,pI q.wAt,pI q.sub,PV.ref 2 0 none,pS 1 false enc16 q.vals,p16 q.and_,p16 q.or_]),(0,.obj [pI q.fn,pI q.at_,pI q.count,pI q.wAt,pI q.sub,PV.ref 2 0 none,pS 1 false enc16 q.vals,p16 q.and_,p16 q.or_]),(2,oB true 1 encBo (List.replicate ((n % 2 ^ 12).toNat) false))] 3 ⟨rfl,trivial⟩ rfl rfl ?_
      refine r_end ?_
      refine q_then ?_
      refine w_frzC (n := 1) (j := 5) rfl rfl rfl rfl ?_
      refine w_ret ?_
      have hex : (⟨q.fn,q.at_,q.count,q.wAt,q.sub,List.replicate ((n % 2 ^ 12).toNat) false,q.vals,q.and_,q.or_⟩ : TRequest).bits.length ≤ 140737488351232 ∧ (⟨q.fn,q.at_,q.count,q.wAt,q.sub,List.replicate ((n % 2 ^ 12).toNat) false,q.vals,q.and_,q.or_⟩ : TRequest).vals.length ≤ 70368744175616 := by
        first|exact ⟨hb,hv⟩|exact ⟨by simp; omega,hv⟩|exact ⟨hb,by simp; omega⟩|(constructor <;> simp <;> omega)
      exact fin_plain (ret_cell tab_27 (by decide) rfl rfl (Nat.le_of_ble_eq_true rfl) rfl ret_nil) rfl rfl ⟨((⟨q.fn,q.at_,q.count,q.wAt,q.sub,List.replicate ((n % 2 ^ 12).toNat) false,q.vals,q.and_,q.or_⟩ : TRequest)),hex,rfl,rfl,rfl⟩
     ·
      have c5_ := c5
      try simp only [sB] at c5
      refine w_seq ?_
      refine w_R ?_
      refine qo hnt rfl (s_eql rfl rfl ?_)
      refine qa hnt rfl rfl ?_
      refine r_end ?_
      refine q_then ?_
      refine w_if rfl (fun c6 => ?_) (fun c6 => ?_)
      ·
       have c6_ := c6
       try simp only [sB] at c6
       refine w_R ?_
       refine qm hnt rfl rfl ?_
       refine qo hnt rfl (s_maskI 8 (by decide) rfl rfl (by decide) ?_)
       refine qo hnt rfl (s_makeM (f := enc16) (bt := 2) tab_one (0 : UInt16) ((n % 2 ^ 8).toNat) (fun j hj => by cases hj; rfl) tab_24 rfl tab_25 ⟨rfl,by decide⟩ rfl rfl rfl (by omega) (by refine ⟨?_, ?_, ?_⟩ <;> omega) ?_)
       refine qo hnt rfl (s_fa_ptr tab_27 rfl rfl tab_24 (by decide) rfl ?_)
       refine qo hnt rfl (s_store_ptr tab_24 rfl rfl rfl rfl rfl (Nat.le_of_ble_eq_true rfl) ?_)
       refine r_set [(3,PV.ptr 0 0),(6,PV.ptr 1 0)] [(0,.obj [pI q.fn,pI q.at_,pI q.count,pI q.wAt,pI q.sub,pS 1 false encBo q.bits,PV.ref 2 0 none,p16 q.and_,p16 q.or_]),(2,oB true 1 enc16 (List.replicate ((n % 2 ^ 8).toNat) (0 : UInt16))),(1,.obj [pI 0,pI 0,pI 0,pI 0,pI 0,pNil,pNil,p16 0,p16 0])] 3 ⟨rfl,rfl,trivial⟩ rfl rfl ?_
       refine r_end ?_
       refine q_block ?_
       refine q_then ?_
       refine w_seq ?_
       refine w_R ?_
       refine qo hnt rfl (s_load_ptr tab_27 rfl rfl rfl (Nat.le_of_ble_eq_true rfl) ?_)
       refine qo hnt rfl (s_store_ptr tab_27 rfl rfl rfl rfl rfl (Nat.le_of_ble_eq_true rfl) ?_)
       refine r_set [(6,PV.ptr 1 0)] [(1,.obj [pI q.fn,pI q.at_,pI q.count,pI q.wAt,pI q.sub,pS 1 false encBo q.bits,PV.ref 2 0 none,p16 q.and_,p16 q.or_]),(0,.obj [pI q.fn,pI q.at_,pI q.count,pI q.wAt,pI q.sub,pS 1 false encBo q.bits,PV.ref 2 0 none,p16 q.and_,p16 q.or_]),(2,oB true 1 enc16 (List.replicate ((n % 2 ^ 8).toNat) (0 : UInt16)))] 3 ⟨rfl,trivial⟩ rfl rfl ?_
       refine r_end ?_
       refine q_then ?_
       refine w_frzC (n := 1) (j := 6) rfl rfl rfl rfl ?_
       refine w_ret ?_
       have hex : (⟨q.fn,q.at_,q.count,q.wAt,q.sub,q.bits,List.replicate ((n % 2 ^ 8).toNat) (0 : UInt16),q.and_,q.or_⟩ : TRequest).bits.length ≤ 140737488351232 ∧ (⟨q.fn,q.at_,q.count,q.wAt,q.sub,q.bits,List.replicate ((n % 2 ^ 8).toNat) (0 : UInt16),q.and_,q.or_⟩ : TRequest).vals.length ≤ 70368744175616 := by
         first|exact ⟨hb,hv⟩|exact ⟨by simp; omega,hv⟩|exact ⟨hb,by simp; omega⟩|(constructor <;> simp <;> omega)
       exact fin_plain (ret_cell tab_27 (by decide) rfl rfl (Nat.le_of_ble_eq_true rfl) rfl ret_nil) rfl rfl ⟨((⟨q.fn,q.at_,q.count,q.wAt,q.sub,q.bits,List.replicate ((n % 2 ^ 8).toNat) (0 : UInt16),q.and_,q.or_⟩ : TRequest)),hex,rfl,rfl,rfl⟩
      ·
       have c6_ := c6
       try simp only [sB] at c6
       refine w_seq ?_
       refine w_R ?_
       refine qo hnt rfl (s_eql rfl rfl ?_)
       refine qa hnt rfl rfl ?_
       refine r_end ?_
       refine q_then ?_
       refine w_if rfl (fun c7 => ?_) (fun c7 => ?_)
       ·
        have c7_ := c7
        try simp only [sB] at c7
        refine w_R ?_
        refine qm hnt rfl rfl ?_
        refine qo hnt rfl (s_cv16 tab_3 tab_25 rfl rfl rfl ?_)
        refine qo hnt rfl (s_fa_ptr tab_27 rfl rfl tab_25 (by decide) rfl ?_)
        refine qo hnt rfl (s_store_ptr tab_25 rfl rfl rfl rfl rfl (Nat.le_of_ble_eq_true rfl) ?_)
        refine r_set [(3,PV.ptr 0 0),(6,PV.ptr 1 0)] [(0,.obj [pI q.fn,pI q.at_,pI q.count,pI q.wAt,pI q.sub,pS 1 false encBo q.bits,pS 1 false enc16 q.vals,p16 (u16I n),p16 q.or_]),(1,.obj [pI 0,pI 0,pI 0,pI 0,pI 0,pNil,pNil,p16 0,p16 0])] 2 ⟨rfl,rfl,trivial⟩ rfl rfl ?_
        refine r_end ?_
        refine q_block ?_
        refine q_then ?_
        refine w_seq ?_
        refine w_R ?_
        refine qo hnt rfl (s_load_ptr tab_27 rfl rfl rfl (Nat.le_of_ble_eq_true rfl) ?_)
        refine qo hnt rfl (s_store_ptr tab_27 rfl rfl rfl rfl rfl (Nat.le_of_ble_eq_true rfl) ?_)
        refine r_set [(6,PV.ptr 1 0)] [(1,.obj [pI q.fn,pI q.at_,pI q.count,pI q.wAt,pI q.sub,pS 1 false encBo q.bits,pS 1 false enc16 q.vals,p16 (u16I n),p16 q.or_]),(0,.obj [pI q.fn,pI q.at_,pI q.count,pI q.wAt,pI q.sub,pS 1 false encBo q.bits,pS 1 false enc16 q.vals,p16 (u16I n),p16 q.or_])] 2 ⟨rfl,trivial⟩ rfl rfl ?_
        refine r_end ?_
        refine q_then ?_
        refine w_ret ?_
        have hex : (⟨q.fn,q.at_,q.count,q.wAt,q.sub,q.bits,q.vals,u16I n,q.or_⟩ : TRequest).bits.length ≤ 140737488351232 ∧ (⟨q.fn,q.at_,q.count,q.wAt,q.sub,q.bits,q.vals,u16I n,q.or_⟩ : TRequest).vals.length ≤ 70368744175616 := by
          first|exact ⟨hb,hv⟩|exact ⟨by simp; omega,hv⟩|exact ⟨hb,by simp; omega⟩|(constructor <;> simp <;> omega)
        exact fin_plain (ret_cell tab_27 (by decide) rfl rfl (Nat.le_of_ble_eq_true rfl) rfl ret_nil) rfl rfl ⟨((⟨q.fn,q.at_,q.count,q.wAt,q.sub,q.bits,q.vals,u16I n,q.or_⟩ : TRequest)),hex,rfl,rfl,rfl⟩
       ·
        have c7_ := c7
        try simp only [sB] at c7
        refine w_seq ?_
        refine w_R ?_
        refine qo hnt rfl (s_eql rfl rfl ?_)
        refine qa hnt rfl rfl ?_
        refine r_end ?_
        refine q_then ?_
        refine w_if rfl (fun c8 => ?_) (fun c8 => ?_)
        ·
         have c8_ := c8
         try simp only [sB] at c8
         refine w_R ?_
         refine qm hnt rfl rfl ?_
         refine qo hnt rfl (s_fa_ptr tab_27 rfl rfl tab_3 (by decide) rfl ?_)
         refine qo hnt rfl (s_store_ptr tab_3 rfl rfl rfl rfl rfl (Nat.le_of_ble_eq_true rfl) ?_)
         refine r_set [(3,PV.ptr 0 0),(6,PV.ptr 1 0)] [(0,.obj [pI n,pI q.at_,pI q.count,pI q.wAt,pI q.sub,pS 1 false encBo q.bits,pS 1 false enc16 q.vals,p16 q.and_,p16 q.or_]),(1,.obj [pI 0,pI 0,pI 0,pI 0,pI 0,pNil,pNil,p16 0,p16 0])] 2 ⟨rfl,rfl,trivial⟩ rfl rfl ?_
         refine r_end ?_
         refine q_block ?_
         refine q_then ?_
         refine w_seq ?_
         refine w_R ?_
         refine qo hnt rfl (s_load_ptr tab_27 rfl rfl rfl (Nat.le_of_ble_eq_true rfl) ?_)
         refine qo hnt rfl (s_store_ptr tab_27 rfl rfl rfl rfl rfl (Nat.le_of_ble_eq_true rfl) ?_)
         refine r_set [(6,PV.ptr 1 0)] [(1,.obj [pI n,pI q.at_,pI q.count,pI q.wAt,pI q.sub,pS 1 false encBo q.bits,pS 1 false enc16 q.vals,p16 q.and_,p16 q.or_]),(0,.obj [pI n,pI q.at_,pI q.count,pI q.wAt,pI q.sub,pS 1 false encBo q.bits,pS 1 false enc16 q.vals,p16 q.and_,p16 q.or_])] 2 ⟨rfl,trivial⟩ rfl rfl ?_
         refine r_end ?_
         refine q_then ?_
         refine w_ret ?_
         have hex : (⟨n,q.at_,q.count,q.wAt,q.sub,q.bits,q.vals,q.and_,q.or_⟩ : TRequest).bits.length ≤ 140737488351232 ∧ (⟨n,q.at_,q.count,q.wAt,q.sub,q.bits,q.vals,q.and_,q.or_⟩ : TRequest).vals.length ≤ 70368744175616 := by
           first|exact ⟨hb,hv⟩|exact ⟨by simp; omega,hv⟩|exact ⟨hb,by simp; omega⟩|(constructor <;> simp <;> omega)
         exact fin_plain (ret_cell tab_27 (by decide) rfl rfl (Nat.le_of_ble_eq_true rfl) rfl ret_nil) rfl rfl ⟨((⟨n,q.at_,q.count,q.wAt,q.sub,q.bits,q.vals,q.and_,q.or_⟩ : TRequest)),hex,rfl,rfl,rfl⟩
        ·
         have c8_ := c8
         try simp only [sB] at c8
         refine w_seq ?_
         refine w_R ?_
         refine qo hnt rfl (s_eql rfl rfl ?_)
         refine qa hnt rfl rfl ?_
         refine r_end ?_
         refine q_then ?_
         refine w_if rfl (fun c9 => ?_) (fun c9 => ?_)
         ·
          have c9_ := c9
          try simp only [sB] at c9
          refine W_drawn tabOk mixed hnt [[],[0],[],[2],[2,3],[0,1],[0,1,5],[0,1,2,3,4,5,6],[0,1,2,3,4,5,6,7]] (by kernel_rfl) ?_
          refine d_op ?_
          refine x_run0 [(2,pI n)] [] rfl rfl rfl rfl (s_move rfl ⟨rfl,rfl,rfl⟩) ?_
          refine d_op ?_
          refine x_run0 [(55,pI n)] [0] rfl rfl rfl rfl (s_maskI 11 (by decide) rfl rfl (by decide) ⟨rfl,rfl,rfl⟩) ?_
          refine d_op ?_
          refine x_run0 [(2,pI n)] [] rfl rfl rfl rfl (s_move rfl ⟨rfl,rfl,rfl⟩) ?_
          refine d_op ?_
          refine x_run0 [(57,pI n)] [2] rfl rfl rfl rfl (s_maskI 11 (by decide) rfl rfl (by decide) ⟨rfl,rfl,rfl⟩) ?_
          refine d_op ?_
          refine x_run [(58,pN ((n % 2 ^ 11).toNat)),(58,pN ((n % 2 ^ 11).toNat))] [2,3] [] [] [(2,oB true 1 encBo (List.replicate ((n % 2 ^ 11).toNat) false))] [(2,oB true 1 encBo (List.replicate ((n % 2 ^ 11).toNat) false))] [(2,oB true 1 encBo (List.replicate ((n % 2 ^ 11).toNat) false)),(1,.obj [pI 0,pI 0,pI 0,pI 0,pI 0,pNil,pNil,p16 0,p16 0]),(0,.obj [pI q.fn,pI q.at_,pI q.count,pI q.wAt,pI q.sub,pS 1 false encBo q.bits,pS 1 false enc16 q.vals,p16 q.and_,p16 q.or_])] rfl rfl rfl rfl rfl rfl (s_makeM (f := encBo) (bt := 1) tab_one false ((n % 2 ^ 11).toNat) (fun j hj => by cases hj; rfl) tab_23 rfl tab_4 ⟨rfl,by decide⟩ rfl rfl rfl (by omega) (by refine ⟨?_, ?_, ?_⟩ <;> omega) ⟨rfl,rfl,rfl⟩) rfl trivial rfl rfl ?_
          refine d_op ?_
          refine x_run0 [(3,PV.ptr 0 0)] [0,1] rfl rfl rfl rfl (s_fa_ptr tab_27 rfl rfl tab_3 (by decide) rfl ⟨rfl,rfl,rfl⟩) ?_
          refine d_op ?_
          refine x_run [(60,PV.ptr 0 2),(56,pN ((n % 2 ^ 11).toNat))] [0,1,5] [] [(0,.obj [pI q.fn,pI q.at_,pI q.count,pI q.wAt,pI q.sub,pS 1 false encBo q.bits,pS 1 false enc16 q.vals,p16 q.and_,p16 q.or_])] [(0,.obj [pI q.fn,pI q.at_,pN ((n % 2 ^ 11).toNat),pI q.wAt,pI q.sub,pS 1 false encBo q.bits,pS 1 false enc16 q.vals,p16 q.and_,p16 q.or_])] [(0,.obj [pI q.fn,pI q.at_,pN ((n % 2 ^ 11).toNat),pI q.wAt,pI q.sub,pS 1 false encBo q.bits,pS 1 false enc16 q.vals,p16 q.and_,p16 q.or_])] [(0,.obj [pI q.fn,pI q.at_,pN ((n % 2 ^ 11).toNat),pI q.wAt,pI q.sub,pS 1 false encBo q.bits,pS 1 false enc16 q.vals,p16 q.and_,p16 q.or_]),(2,oB true 1 encBo (List.replicate ((n % 2 ^ 11).toNat) false)),(1,.obj [pI 0,pI 0,pI 0,pI 0,pI 0,pNil,pNil,p16 0,p16 0])] rfl rfl rfl rfl rfl rfl (s_store_ptr tab_3 rfl rfl rfl rfl rfl (Nat.le_of_ble_eq_true rfl) ⟨rfl,rfl,rfl⟩) rfl trivial rfl rfl ?_
          refine d_op ?_
          refine x_run0 [(3,PV.ptr 0 0)] [0,1,2,3,4,5,6] rfl rfl rfl rfl (s_fa_ptr tab_27 rfl rfl tab_23 (by decide) rfl ⟨rfl,rfl,rfl⟩) ?_
          refine d_op ?_
          refine x_run [(61,PV.ptr 0 5),(59,PV.ref 2 0 none)] [0,1,2,3,4,5,6,7] [] [(0,.obj [pI q.fn,pI q.at_,pN ((n % 2 ^ 11).toNat),pI q.wAt,pI q.sub,pS 1 false encBo q.bits,pS 1 false enc16 q.vals,p16 q.and_,p16 q.or_])] [(0,.obj [pI q.fn,pI q.at_,pN ((n % 2 ^ 11).toNat),pI q.wAt,pI q.sub,PV.ref 2 0 none,pS 1 false enc16 q.vals,p16 q.and_,p16 q.or_])] [(0,.obj [pI q.fn,pI q.at_,pN ((n % 2 ^ 11).toNat),pI q.wAt,pI q.sub,PV.ref 2 0 none,pS 1 false enc16 q.vals,p16 q.and_,p16 q.or_])] [(0,.obj [pI q.fn,pI q.at_,pN ((n % 2 ^ 11).toNat),pI q.wAt,pI q.sub,PV.ref 2 0 none,pS 1 false enc16 q.vals,p16 q.and_,p16 q.or_]),(2,oB true 1 encBo (List.replicate ((n % 2 ^ 11).toNat) false)),(1,.obj [pI 0,pI 0,pI 0,pI 0,pI 0,pNil,pNil,p16 0,p16 0])] rfl rfl rfl rfl rfl rfl (s_store_ptr tab_23 rfl rfl rfl rfl rfl (Nat.le_of_ble_eq_true rfl) ⟨rfl,rfl,rfl⟩) rfl trivial rfl rfl ?_
          refine d_end ⟨by kernel_rfl, ?_⟩
          refine q_block ?_
          refine q_then ?_
          refine w_seq ?_
          refine w_R ?_
          refine qo hnt rfl (s_load_ptr tab_27 rfl rfl rfl (Nat.le_of_ble_eq_true rfl) ?_)
          refine qo hnt rfl (s_store_ptr tab_27 rfl rfl rfl rfl rfl (Nat.le_of_ble_eq_true rfl) ?_)
          refine r_set [(6,PV.ptr 1 0)] [(1,.obj [pI q.fn,pI q.at_,pN ((n % 2 ^ 11).toNat),pI q.wAt,pI q.sub,PV.ref 2 0 none,pS 1 false enc16 q.vals,p16 q.and_,p16 q.or_]),(0,.obj [pI q.fn,pI q.at_,pN ((n % 2 ^ 11).toNat),pI q.wAt,pI q.sub,PV.ref 2 0 none,pS 1 false enc16 q.vals,p16 q.and_,p16 q.or_]),(2,oB true 1 encBo (List.replicate ((n % 2 ^ 11).toNat) false))] 3 ⟨rfl,trivial⟩ rfl rfl ?_
          refine r_end ?_
          refine q_then ?_
          refine w_frzC (n := 1) (j := 5) rfl rfl rfl rfl ?_
          refine w_ret ?_
          have hex : (⟨q.fn,q.at_,(((n % 2 ^ 11).toNat : Nat) : Int),q.wAt,q.sub,List.replicate ((n % 2 ^ 11).toNat) false,q.vals,q.and_,q.or_⟩ : TRequest).bits.length ≤ 140737488351232 ∧ (⟨q.fn,q.at_,(((n % 2 ^ 11).toNat : Nat) : Int),q.wAt,q.sub,List.replicate ((n % 2 ^ 11).toNat) false,q.vals,q.and_,q.or_⟩ : TRequest).vals.length ≤ 70368744175616 := by
            first|exact ⟨hb,hv⟩|exact ⟨by simp; omega,hv⟩|exact ⟨hb,by simp; omega⟩|(constructor <;> simp <;> omega)
          exact fin_plain (ret_cell tab_27 (by decide) rfl rfl (Nat.le_of_ble_eq_true rfl) rfl ret_nil) rfl rfl ⟨((⟨q.fn,q.at_,(((n % 2 ^ 11).toNat : Nat) : Int),q.wAt,q.sub,List.replicate ((n % 2 ^ 11).toNat) false,q.vals,q.and_,q.or_⟩ : TRequest)),hex,rfl,rfl,rfl⟩
         ·
          have c9_ := c9
          try simp only [sB] at c9
          refine W_drawn tabOk mixed hnt [[],[0],[],[2],[2,3],[0,1],[0,1,5],[0,1,2,3,4,5,6],[0,1,2,3,4,5,6,7]] (by kernel_rfl) ?_
          refine d_op ?_
          refine x_run0 [(2,pI n)] [] rfl rfl rfl rfl (s_move rfl ⟨rfl,rfl,rfl⟩) ?_
          refine d_op ?_
          refine x_run0 [(9,pI n)] [0] rfl rfl rfl rfl (s_maskI 7 (by decide) rfl rfl (by decide) ⟨rfl,rfl,rfl⟩) ?_
          refine d_op ?_
          refine x_run0 [(2,pI n)] [] rfl rfl rfl rfl (s_move rfl ⟨rfl,rfl,rfl⟩) ?_
          refine d_op ?_
          refine x_run0 [(11,pI n)] [2] rfl rfl rfl rfl (s_maskI 7 (by decide) rfl rfl (by decide) ⟨rfl,rfl,rfl⟩) ?_
          refine d_op ?_
          refine x_run [(12,pN ((n % 2 ^ 7).toNat)),(12,pN ((n % 2 ^ 7).toNat))] [2,3] [] [] [(2,oB true 1 enc16 (List.replicate ((n % 2 ^ 7).toNat) (0 : UInt16)))] [(2,oB true 1 enc16 (List.replicate ((n % 2 ^ 7).toNat) (0 : UInt16)))] [(2,oB true 1 enc16 (List.replicate ((n % 2 ^ 7).toNat) (0 : UInt16))),(1,.obj [pI 0,pI 0,pI 0,pI 0,pI 0,pNil,pNil,p16 0,p16 0]),(0,.obj [pI q.fn,pI q.at_,pI q.count,pI q.wAt,pI q.sub,pS 1 false encBo q.bits,pS 1 false enc16 q.vals,p16 q.and_,p16 q.or_])] rfl rfl rfl rfl rfl rfl (s_makeM (f := enc16) (bt := 2) tab_one (0 : UInt16) ((n % 2 ^ 7).toNat) (fun j hj => by cases hj; rfl) tab_24 rfl tab_25 ⟨rfl,by decide⟩ rfl rfl rfl (by omega) (by refine ⟨?_, ?_, ?_⟩ <;> omega) ⟨rfl,rfl,rfl⟩) rfl trivial rfl rfl ?_
          refine d_op ?_
          refine x_run0 [(3,PV.ptr 0 0)] [0,1] rfl rfl rfl rfl (s_fa_ptr tab_27 rfl rfl tab_3 (by decide) rfl ⟨rfl,rfl,rfl⟩) ?_
          refine d_op ?_
          refine x_run [(14,PV.ptr 0 2),(10,pN ((n % 2 ^ 7).toNat))] [0,1,5] [] [(0,.obj [pI q.fn,pI q.at_,pI q.count,pI q.wAt,pI q.sub,pS 1 false encBo q.bits,pS 1 false enc16 q.vals,p16 q.and_,p16 q.or_])] [(0,.obj [pI q.fn,pI q.at_,pN ((n % 2 ^ 7).toNat),pI q.wAt,pI q.sub,pS 1 false encBo q.bits,pS 1 false enc16 q.vals,p16 q.and_,p16 q.or_])] [(0,.obj [pI q.fn,pI q.at_,pN ((n % 2 ^ 7).toNat),pI q.wAt,pI q.sub,pS 1 false encBo q.bits,pS 1 false enc16 q.vals,p16 q.and_,p16 q.or_])] [(0,.obj [pI q.fn,pI q.at_,pN ((n % 2 ^ 7).toNat),pI q.wAt,pI q.sub,pS 1 false encBo q.bits,pS 1 false enc16 q.vals,p16 q.and_,p16 q.or_]),(2,oB true 1 enc16 (List.replicate ((n % 2 ^ 7).toNat) (0 : UInt16))),(1,.obj [pI 0,pI 0,pI 0,pI 0,pI 0,pNil,pNil,p16 0,p16 0])] rfl rfl rfl rfl rfl rfl (s_store_ptr tab_3 rfl rfl rfl rfl rfl (Nat.le_of_ble_eq_true rfl) ⟨rfl,rfl,rfl⟩) rfl trivial rfl rfl ?_
          refine d_op ?_
          refine x_run0 [(3,PV.ptr 0 0)] [0,1,2,3,4,5,6] rfl rfl rfl rfl (s_fa_ptr tab_27 rfl rfl tab_24 (by decide) rfl ⟨rfl,rfl,rfl⟩) ?_
          refine d_op ?_
          refine x_run [(15,PV.ptr 0 6),(13,PV.ref 2 0 none)] [0,1,2,3,4,5,6,7] [] [(0,.obj [pI q.fn,pI q.at_,pN ((n % 2 ^ 7).toNat),pI q.wAt,pI q.sub,pS 1 false encBo q.bits,pS 1 false enc16 q.vals,p16 q.and_,p16 q.or_])] [(0,.obj [pI q.fn,pI q.at_,pN ((n % 2 ^ 7).toNat),pI q.wAt,pI q.sub,pS 1 false encBo q.bits,PV.ref 2 0 none,p16 q.and_,p16 q.or_])] [(0,.obj [pI q.fn,pI q.at_,pN ((n % 2 ^ 7).toNat),pI q.wAt,pI q.sub,pS 1 false encBo q.bits,PV.ref 2 0 none,p16 q.and_,p16 q.or_])] [(0,.obj [pI q.fn,pI q.at_,pN ((n % 2 ^ 7).toNat),pI q.wAt,pI q.sub,pS 1 false encBo q.bits,PV.ref 2 0 none,p16 q.and_,p16 q.or_]),(2,oB true 1 enc16 (List.replicate ((n % 2 ^ 7).toNat) (0 : UInt16))),(1,.obj [pI 0,pI 0,pI 0,pI 0,pI 0,pNil,pNil,p16 0,p16 0])] rfl rfl rfl rfl rfl rfl (s_store_ptr tab_24 rfl rfl rfl rfl rfl (Nat.le_of_ble_eq_true rfl) ⟨rfl,rfl,rfl⟩) rfl trivial rfl rfl ?_
          refine d_end ⟨by kernel_rfl, ?_⟩
          refine q_block ?_
          refine q_then ?_
          refine w_seq ?_
          refine w_R ?_
          refine qo hnt rfl (s_load_ptr tab_27 rfl rfl rfl (Nat.le_of_ble_eq_true rfl) ?_)
          refine qo hnt rfl (s_store_ptr tab_27 rfl rfl rfl rfl rfl (Nat.le_of_ble_eq_true rfl) ?_)
          refine r_set [(6,PV.ptr 1 0)] [(1,.obj [pI q.fn,pI q.at_,pN ((n % 2 ^ 7).toNat),pI q.wAt,pI q.sub,pS 1 false encBo q.bits,PV.ref 2 0 none,p16 q.and_,p16 q.or_]),(0,.obj [pI q.fn,pI q.at_,pN ((n % 2 ^ 7).toNat),pI q.wAt,pI q.sub,pS 1 false encBo q.bits,PV.ref 2 0 none,p16 q.and_,p16 q.or_]),(2,oB true 1 enc16 (List.replicate ((n % 2 ^ 7).toNat) (0 : UInt16)))] 3 ⟨rfl,trivial⟩ rfl rfl ?_
          refine r_end ?_
          refine q_then ?_
          refine w_frzC (n := 1) (j := 6) rfl rfl rfl rfl ?_
          refine w_ret ?_
          have hex : (⟨q.fn,q.at_,(((n % 2 ^ 7).toNat : Nat) : Int),q.wAt,q.sub,q.bits,List.replicate ((n % 2 ^ 7).toNat) (0 : UInt16),q.and_,q.or_⟩ : TRequest).bits.length ≤ 140737488351232 ∧ (⟨q.fn,q.at_,(((n % 2 ^ 7).toNat : Nat) : Int),q.wAt,q.sub,q.bits,List.replicate ((n % 2 ^ 7).toNat) (0 : UInt16),q.and_,q.or_⟩ : TRequest).vals.length ≤ 70368744175616 := by
            first|exact ⟨hb,hv⟩|exact ⟨by simp; omega,hv⟩|exact ⟨hb,by simp; omega⟩|(constructor <;> simp <;> omega)
          exact fin_plain (ret_cell tab_27 (by decide) rfl rfl (Nat.le_of_ble_eq_true rfl) rfl ret_nil) rfl rfl ⟨((⟨q.fn,q.at_,(((n % 2 ^ 7).toNat : Nat) : Int),q.wAt,q.sub,q.bits,List.replicate ((n % 2 ^ 7).toNat) (0 : UInt16),q.and_,q.or_⟩ : TRequest)),hex,rfl,rfl,rfl⟩
theorem w_burgagelaw3_PduTells (t : List Int) (cl_t : Bool) (what : Int) (n : Int) (at0 : Int) (raw : TRequest) (b : List UInt8) (cl_b : Bool) (turn : UInt8) (ht : t.length ≤ 70000000000000) (hn : -9223372036854775808 ≤ n ∧ n ≤ 9223372036854775807) (hat0 : -9223372036854775808 ≤ at0 ∧ at0 ≤ 9223372036854775807) (hb : raw.bits.length ≤ 140737488351232) (hv : raw.vals.length ≤ 70368744175616) (hbb : b.length ≤ 140737488351232) :
    T Try.prog 6 [pS 1 cl_t encI t,pI what,pI n,pI at0,PV.f (eRequest raw),pS 1 cl_b enc8 b,p8 turn] 0 [] (Ret (pB true) 0 []) := by
 refine t_fun tabOk (n := 123) (rs := [.tmp 14]) Try.func6 rfl rfl rfl rfl (Nat.le_of_ble_eq_true rfl) ?_
 intro c hnt hk
 refine w_seq ?_
 refine w_R ?_
 refine qo hnt rfl (s_box rfl rfl ?_)
 refine qa hnt rfl rfl ?_
 refine r_set [(0,pS 1 cl_t encI t),(1,pI what),(2,pI n),(3,pI at0),(5,pS 1 cl_b enc8 b),(6,p8 turn),(11,PV.ptr 0 0)] [(0,.obj [pI raw.fn,pI raw.at_,pI raw.count,pI raw.wAt,pI raw.sub,pS 1 false encBo raw.bits,pS 1 false enc16 raw.vals,p16 raw.and_,p16 raw.or_])] 1 ⟨rfl,rfl,rfl,rfl,rfl,rfl,rfl,trivial⟩ rfl rfl ?_
 refine r_end ?_
 refine q_then ?_
 refine w_seq ?_
 refine w_R ?_
 refine qm hnt rfl rfl ?_
 refine qo hnt rfl (s_build tab_30 rfl rfl (b_cons rfl tab_22 rfl rfl rfl (Nat.le_of_ble_eq_true rfl) (b_nil ?_)))
 refine qo hnt rfl (s_box rfl rfl ?_)
 refine qo hnt rfl (s_callX2 (p := fun (q1 : TRequest) (b1 : Nat) => rightR q1 = 0 ∧ q1.bits.length ≤ 25 ∧ q1.vals.length ≤ 25 ∧ 0 ≤ q1.count ∧ q1.count ≤ 25) (r2 := fun q1 b1 => PV.f (eRequest q1)) (nx1 := 2) (H2 := [(1,.obj [pS 1 cl_t encI t,pI 0]),(0,.obj [pI raw.fn,pI raw.at_,pI raw.count,pI raw.wAt,pI raw.sub,pS 1 false encBo raw.bits,pS 1 false enc16 raw.vals,p16 raw.and_,p16 raw.or_])]) (H3 := fun q1 b1 => [(1,.obj [pS 1 false encI t,pN b1]),(0,.obj [pI raw.fn,pI raw.at_,pI raw.count,pI raw.wAt,pI raw.sub,pS 1 false encBo raw.bits,pS 1 false enc16 raw.vals,p16 raw.and_,p16 raw.or_])]) [1] [.obj [pS 1 cl_t encI t,pI 0]] rfl rfl rfl (handed_of (by decide) ⟨rfl,trivial⟩) rfl rfl rfl rfl rfl rfl (w_burgagekeep_Tape_Request t cl_t 0 (by first|omega|assumption|(simp; omega)|decide|(simp; done))) (fun q1 b1 => rfl) (fun q1 b1 => dist_of rfl) (fun q1 b1 => rfl) (fun q1 b1 => rfl) rfl (fun q1 b1 => rfl) (fun q1 b1 hq1 => ?_))
 refine qo hnt rfl (s_alloc tab_27 ?_)
 refine qo hnt rfl (s_store_ptr tab_27 rfl rfl rfl rfl rfl (Nat.le_of_ble_eq_true rfl) ?_)
 refine r_set [(1,pI what),(2,pI n),(3,pI at0),(5,pS 1 cl_b enc8 b),(6,p8 turn),(11,PV.ptr 0 0),(15,PV.ptr 2 0)] [(2,.obj [pI q1.fn,pI q1.at_,pI q1.count,pI q1.wAt,pI q1.sub,pS 1 false encBo q1.bits,pS 1 false enc16 q1.vals,p16 q1.and_,p16 q1.or_]),(1,.obj [pS 1 false encI t,pN b1]),(0,.obj [pI raw.fn,pI raw.at_,pI raw.count,pI raw.wAt,pI raw.sub,pS 1 false encBo raw.bits,pS 1 false enc16 raw.vals,p16 raw.and_,p16 raw.or_])] 3 ⟨rfl,rfl,rfl,rfl,rfl,rfl,rfl,trivial⟩ rfl rfl ?_
 refine r_end ?_
 refine q_then ?_
 refine w_seq ?_
 obtain ⟨hr1,hqb1,hqv1,hqc1,hqd1⟩ := hq1
 have hbp1 := bytes_pos hr1
 have hbl1 := bytesR_len q1
 refine w_R ?_
 refine qo hnt rfl (s_load_ptr tab_27 rfl rfl rfl (Nat.le_of_ble_eq_true rfl) ?_)
 refine qo hnt rfl (s_callX (r2 := PV.tup [PV.ref 3 0 none,pI (rightR q1)]) (nx1 := 4) (H2 := [(2,.obj [pI q1.fn,pI q1.at_,pI q1.count,pI q1.wAt,pI q1.sub,pS 1 false encBo q1.bits,pS 1 false enc16 q1.vals,p16 q1.and_,p16 q1.or_]),(1,.obj [pS 1 false encI t,pN b1]),(0,.obj [pI raw.fn,pI raw.at_,pI raw.count,pI raw.wAt,pI raw.sub,pS 1 false encBo raw.bits,pS 1 false enc16 raw.vals,p16 raw.and_,p16 raw.or_])]) (H3 := [(3,oB false 1 enc8 (bytesR q1)),(2,.obj [pI q1.fn,pI q1.at_,pI q1.count,pI q1.wAt,pI q1.sub,pS 1 false encBo q1.bits,pS 1 false enc16 q1.vals,p16 q1.and_,p16 q1.or_]),(1,.obj [pS 1 false encI t,pN b1]),(0,.obj [pI raw.fn,pI raw.at_,pI raw.count,pI raw.wAt,pI raw.sub,pS 1 false encBo raw.bits,pS 1 false enc16 raw.vals,p16 raw.and_,p16 raw.or_])]) [] [] rfl rfl rfl (handed_of (by decide) trivial) rfl rfl rfl rfl rfl rfl (w_burgageref3_Bytes q1 (by first|omega|assumption|(simp; omega)|decide|(simp; done)) (by first|omega|assumption|(simp; omega)|decide|(simp; done))) rfl (dist_of rfl) rfl rfl rfl rfl ?_)
 refine qm hnt rfl rfl ?_
 refine qo hnt rfl (s_extract rfl rfl ?_)
 refine qo hnt rfl (s_extract rfl rfl ?_)
 refine qa hnt rfl rfl ?_
 refine qa hnt rfl rfl ?_
 refine r_set [(1,pI what),(2,pI n),(3,pI at0),(5,pS 1 cl_b enc8 b),(6,p8 turn),(11,PV.ptr 0 0),(15,PV.ptr 2 0),(16,PV.ref 3 0 none)] [(3,oB false 1 enc8 (bytesR q1)),(2,.obj [pI q1.fn,pI q1.at_,pI q1.count,pI q1.wAt,pI q1.sub,pS 1 false encBo q1.bits,pS 1 false enc16 q1.vals,p16 q1.and_,p16 q1.or_]),(1,.obj [pS 1 false encI t,pN b1]),(0,.obj [pI raw.fn,pI raw.at_,pI raw.count,pI raw.wAt,pI raw.sub,pS 1 false encBo raw.bits,pS 1 false enc16 raw.vals,p16 raw.and_,p16 raw.or_])] 4 ⟨rfl,rfl,rfl,rfl,rfl,rfl,rfl,rfl,trivial⟩ rfl rfl ?_
 refine r_end ?_
 refine q_then ?_
 refine w_seq ?_
 refine w_R ?_
 refine qm hnt rfl rfl ?_
 refine qm hnt rfl rfl ?_
 refine qo hnt rfl (s_lenM (l := bytesR q1) tab_34 rfl (hM_ref0 (f := enc8) rfl rfl) ?_)
 refine qo hnt rfl (s_subN (a := (bytesR q1).length) (b := 1) rfl rfl (by omega) (by omega) (by omega) ?_)
 refine qo hnt rfl (s_callF rfl rfl rfl (w_burgagebook_Within at0 0 (((bytesR q1).length - 1 : Nat) : Int) (by first|omega|assumption|(simp; omega)|decide|(simp; done))) rfl ?_)
 refine qa hnt rfl rfl ?_
 refine r_end ?_
 refine q_then ?_
 refine w_seq ?_
 have hwk := within_between at0 (lo := 0) (hi := (((bytesR q1).length - 1 : Nat) : Int)) (by omega)
 obtain ⟨kk,hkk⟩ : ∃ k : Nat,within at0 0 (((bytesR q1).length - 1 : Nat) : Int) = (k : Int) := ⟨_,(within_nat at0 (hi := (((bytesR q1).length - 1 : Nat) : Int)) (by omega)).symm⟩
 refine w_eq (s := 18) (y := pN kk) rfl (congrArg (fun z : Int => pI z) (show (within at0 0 (((bytesR q1).length - 1 : Nat) : Int)) = ((kk : Nat) : Int) by exact hkk)) ?_
 refine w_R ?_
 refine qo hnt rfl (s_mkM (f := enc8) ([] : List UInt8) tab_34 rfl tab_5 ⟨rfl,by decide⟩ (by decide) rfl rfl rfl rfl ?_)
 refine qm hnt rfl rfl ?_
 refine qo hnt rfl (s_appR0 (f := enc8) (l := ([] : List UInt8)) (xs := bytesR q1) tab_34 rfl tab_5 ⟨rfl,by decide,by decide⟩ (srcM tab_34 rfl (hM_ref0 (f := enc8) rfl rfl)) rfl rfl (by first|omega|(simp; omega)) ?_)
 refine qa hnt rfl rfl ?_
 refine r_set [(1,pI what),(2,pI n),(5,pS 1 cl_b enc8 b),(6,p8 turn),(11,PV.ptr 0 0),(15,PV.ptr 2 0),(16,PV.ref 3 0 none),(18,pN kk),(19,PV.ref 5 0 none)] [(5,oB true 1 enc8 (bytesR q1)),(3,oB false 1 enc8 (bytesR q1)),(2,.obj [pI q1.fn,pI q1.at_,pI q1.count,pI q1.wAt,pI q1.sub,pS 1 false encBo q1.bits,pS 1 false enc16 q1.vals,p16 q1.and_,p16 q1.or_]),(1,.obj [pS 1 false encI t,pN b1]),(0,.obj [pI raw.fn,pI raw.at_,pI raw.count,pI raw.wAt,pI raw.sub,pS 1 false encBo raw.bits,pS 1 false enc16 raw.vals,p16 raw.and_,p16 raw.or_])] 6 ⟨rfl,rfl,rfl,rfl,rfl,rfl,rfl,rfl,rfl,trivial⟩ rfl rfl ?_
 refine r_end ?_
 refine q_then ?_
 refine w_seq ?_
 refine w_R ?_
 refine qm hnt rfl rfl ?_
 refine qm hnt rfl rfl ?_
 refine qo hnt rfl (s_iaR0 (q := kk) (f := enc8) (l := bytesR q1) tab_34 rfl tab_5 rfl rfl (by omega) rfl rfl (by omega) ?_)
 obtain ⟨e1,he1⟩ := get_of_lt (bytesR q1) (i := kk) (by omega)
 refine qo hnt rfl (s_ldM (b := e1) (f := enc8) tab_5 rfl rfl rfl rfl he1 rfl ?_)
 refine qm hnt rfl rfl ?_
 refine qo hnt rfl (s_xor8 (a := e1) (b := turn) rfl rfl ?_)
 refine qo hnt rfl (s_iaR0 (q := kk) (f := enc8) (l := bytesR q1) tab_34 rfl tab_5 rfl rfl (by omega) rfl rfl (by omega) ?_)
 refine qo hnt rfl (s_stM (y0 := e1) (z := e1 ^^^ turn) (f := enc8) tab_5 rfl rfl rfl rfl rfl he1 (Nat.le_of_ble_eq_true rfl) rfl rfl (by simp) rfl ?_)
 refine r_set [(1,pI what),(2,pI n),(5,pS 1 cl_b enc8 b),(6,p8 turn),(11,PV.ptr 0 0),(15,PV.ptr 2 0),(16,PV.ref 3 0 none),(18,pN kk),(19,PV.ref 5 0 none)] [(5,oB true 1 enc8 ((bytesR q1).set kk (e1 ^^^ turn))),(3,oB false 1 enc8 (bytesR q1)),(2,.obj [pI q1.fn,pI q1.at_,pI q1.count,pI q1.wAt,pI q1.sub,pS 1 false encBo q1.bits,pS 1 false enc16 q1.vals,p16 q1.and_,p16 q1.or_]),(1,.obj [pS 1 false encI t,pN b1]),(0,.obj [pI raw.fn,pI raw.at_,pI raw.count,pI raw.wAt,pI raw.sub,pS 1 false encBo raw.bits,pS 1 false enc16 raw.vals,p16 raw.and_,p16 raw.or_])] 6 ⟨rfl,rfl,rfl,rfl,rfl,rfl,rfl,rfl,rfl,trivial⟩ rfl rfl ?_
 refine r_end ?_
 refine q_then ?_
 refine w_seq ?_
 refine w_R ?_
 refine qo hnt rfl (s_load_ptr tab_27 rfl rfl rfl (Nat.le_of_ble_eq_true rfl) ?_)
 refine qo hnt rfl (s_alloc tab_27 ?_)
 refine qo hnt rfl (s_store_ptr tab_27 rfl rfl rfl rfl rfl (Nat.le_of_ble_eq_true rfl) ?_)
 refine r_set [(1,pI what),(2,pI n),(5,pS 1 cl_b enc8 b),(6,p8 turn),(11,PV.ptr 0 0),(15,PV.ptr 2 0),(16,PV.ref 3 0 none),(18,pN kk),(19,PV.ref 5 0 none),(20,PV.ptr 6 0)] [(6,.obj [pI raw.fn,pI raw.at_,pI raw.count,pI raw.wAt,pI raw.sub,pS 1 false encBo raw.bits,pS 1 false enc16 raw.vals,p16 raw.and_,p16 raw.or_]),(5,oB true 1 enc8 ((bytesR q1).set kk (e1 ^^^ turn))),(3,oB false 1 enc8 (bytesR q1)),(2,.obj [pI q1.fn,pI q1.at_,pI q1.count,pI q1.wAt,pI q1.sub,pS 1 false encBo q1.bits,pS 1 false enc16 q1.vals,p16 q1.and_,p16 q1.or_]),(1,.obj [pS 1 false encI t,pN b1]),(0,.obj [pI raw.fn,pI raw.at_,pI raw.count,pI raw.wAt,pI raw.sub,pS 1 false encBo raw.bits,pS 1 false enc16 raw.vals,p16 raw.and_,p16 raw.or_])] 7 ⟨rfl,rfl,rfl,rfl,rfl,rfl,rfl,rfl,rfl,rfl,trivial⟩ rfl rfl ?_
 refine r_end ?_
 refine q_then ?_
 refine w_seq ?_
 refine W_drawn tabOk mixed hnt [[],[0],[],[2],[2,3],[2,3,4],[0,1,2,3,4,5],[],[7],[],[9],[9,10],[9,10,11],[7,8,9,10,11,12],[0,1,2,3,4,5,6],[0,1,2,3,4,5,6,14],[0,1,2,3,4,5,6,7,8,9,10,11,12,13,14,15],[0,1,2,3,4,5,6,7,8,9,10,11,12,13,14,15,16]] (by kernel_rfl) ?_
 refine d_op ?_
 refine x_run0 [(11,PV.ptr 0 0)] [] rfl rfl rfl rfl (s_fa_ptr tab_27 rfl rfl tab_23 (by decide) rfl ⟨rfl,rfl,rfl⟩) ?_
 refine d_op ?_
 refine x_run [(47,PV.ptr 0 5)] [0] [(0,.obj [pI raw.fn,pI raw.at_,pI raw.count,pI raw.wAt,pI raw.sub,pS 1 false encBo raw.bits,pS 1 false enc16 raw.vals,p16 raw.and_,p16 raw.or_])] [] [(0,.obj [pI raw.fn,pI raw.at_,pI raw.count,pI raw.wAt,pI raw.sub,pS 1 false encBo raw.bits,pS 1 false enc16 raw.vals,p16 raw.and_,p16 raw.or_])] [] [(6,.obj [pI raw.fn,pI raw.at_,pI raw.count,pI raw.wAt,pI raw.sub,pS 1 false encBo raw.bits,pS 1 false enc16 raw.vals,p16 raw.and_,p16 raw.or_]),(5,oB true 1 enc8 ((bytesR q1).set kk (e1 ^^^ turn))),(3,oB false 1 enc8 (bytesR q1)),(2,.obj [pI q1.fn,pI q1.at_,pI q1.count,pI q1.wAt,pI q1.sub,pS 1 false encBo q1.bits,pS 1 false enc16 q1.vals,p16 q1.and_,p16 q1.or_]),(1,.obj [pS 1 false encI t,pN b1]),(0,.obj [pI raw.fn,pI raw.at_,pI raw.count,pI raw.wAt,pI raw.sub,pS 1 false encBo raw.bits,pS 1 false enc16 raw.vals,p16 raw.and_,p16 raw.or_])] rfl rfl rfl rfl rfl rfl (s_load_ptr1 tab_23 rfl rfl rfl rfl rfl ⟨rfl,rfl,rfl⟩) rfl ⟨rfl,trivial⟩ rfl rfl ?_
 refine d_op ?_
 refine x_run0 [(11,PV.ptr 0 0)] [] rfl rfl rfl rfl (s_fa_ptr tab_27 rfl rfl tab_23 (by decide) rfl ⟨rfl,rfl,rfl⟩) ?_
 refine d_op ?_
 refine x_run [(49,PV.ptr 0 5)] [2] [(0,.obj [pI raw.fn,pI raw.at_,pI raw.count,pI raw.wAt,pI raw.sub,pS 1 false encBo raw.bits,pS 1 false enc16 raw.vals,p16 raw.and_,p16 raw.or_])] [] [(0,.obj [pI raw.fn,pI raw.at_,pI raw.count,pI raw.wAt,pI raw.sub,pS 1 false encBo raw.bits,pS 1 false enc16 raw.vals,p16 raw.and_,p16 raw.or_])] [] [(6,.obj [pI raw.fn,pI raw.at_,pI raw.count,pI raw.wAt,pI raw.sub,pS 1 false encBo raw.bits,pS 1 false enc16 raw.vals,p16 raw.and_,p16 raw.or_]),(5,oB true 1 enc8 ((bytesR q1).set kk (e1 ^^^ turn))),(3,oB false 1 enc8 (bytesR q1)),(2,.obj [pI q1.fn,pI q1.at_,pI q1.count,pI q1.wAt,pI q1.sub,pS 1 false encBo q1.bits,pS 1 false enc16 q1.vals,p16 q1.and_,p16 q1.or_]),(1,.obj [pS 1 false encI t,pN b1]),(0,.obj [pI raw.fn,pI raw.at_,pI raw.count,pI raw.wAt,pI raw.sub,pS 1 false encBo raw.bits,pS 1 false enc16 raw.vals,p16 raw.and_,p16 raw.or_])] rfl rfl rfl rfl rfl rfl (s_load_ptr1 tab_23 rfl rfl rfl rfl rfl ⟨rfl,rfl,rfl⟩) rfl ⟨rfl,trivial⟩ rfl rfl ?_
 refine d_op ?_
 refine x_run0 [(50,pS 1 false encBo raw.bits)] [2,3] rfl rfl rfl rfl (s_lenM (l := raw.bits) tab_23 rfl (hM_sl (f := encBo) rfl) ⟨rfl,rfl,rfl⟩) ?_
 refine d_op ?_
 refine x_run0 [(51,pN raw.bits.length)] [2,3,4] rfl rfl rfl rfl (s_minN (a := raw.bits.length) (b := 30) rfl (by omega) (by omega) ⟨rfl,rfl,rfl⟩) ?_
 refine d_op ?_
 refine x_run0 [(48,pS 1 false encBo raw.bits),(52,pN (min raw.bits.length 30))] [0,1,2,3,4,5] rfl rfl rfl rfl (s_cutM_hi (b := min raw.bits.length 30) (f := encBo) (l := raw.bits) tab_23 rfl tab_4 ⟨rfl,by decide⟩ rfl (bound_some rfl (by omega)) (by omega) ⟨rfl,rfl,rfl⟩) ?_
 refine d_op ?_
 refine x_run0 [(11,PV.ptr 0 0)] [] rfl rfl rfl rfl (s_fa_ptr tab_27 rfl rfl tab_24 (by decide) rfl ⟨rfl,rfl,rfl⟩) ?_
 refine d_op ?_
 refine x_run [(54,PV.ptr 0 6)] [7] [(0,.obj [pI raw.fn,pI raw.at_,pI raw.count,pI raw.wAt,pI raw.sub,pS 1 false encBo raw.bits,pS 1 false enc16 raw.vals,p16 raw.and_,p16 raw.or_])] [] [(0,.obj [pI raw.fn,pI raw.at_,pI raw.count,pI raw.wAt,pI raw.sub,pS 1 false encBo raw.bits,pS 1 false enc16 raw.vals,p16 raw.and_,p16 raw.or_])] [] [(6,.obj [pI raw.fn,pI raw.at_,pI raw.count,pI raw.wAt,pI raw.sub,pS 1 false encBo raw.bits,pS 1 false enc16 raw.vals,p16 raw.and_,p16 raw.or_]),(5,oB true 1 enc8 ((bytesR q1).set kk (e1 ^^^ turn))),(3,oB false 1 enc8 (bytesR q1)),(2,.obj [pI q1.fn,pI q1.at_,pI q1.count,pI q1.wAt,pI q1.sub,pS 1 false encBo q1.bits,pS 1 false enc16 q1.vals,p16 q1.and_,p16 q1.or_]),(1,.obj [pS 1 false encI t,pN b1]),(0,.obj [pI raw.fn,pI raw.at_,pI raw.count,pI raw.wAt,pI raw.sub,pS 1 false encBo raw.bits,pS 1 false enc16 raw.vals,p16 raw.and_,p16 raw.or_])] rfl rfl rfl rfl rfl rfl (s_load_ptr1 tab_24 rfl rfl rfl rfl rfl ⟨rfl,rfl,rfl⟩) rfl ⟨rfl,trivial⟩ rfl rfl ?_
 refine d_op ?_
 refine x_run0 [(11,PV.ptr 0 0)] [] rfl rfl rfl rfl (s_fa_ptr tab_27 rfl rfl tab_24 (by decide) rfl ⟨rfl,rfl,rfl⟩) ?_
 refine d_op ?_
 refine x_run [(56,PV.ptr 0 6)] [9] [(0,.obj [pI raw.fn,pI raw.at_,pI raw.count,pI raw.wAt,pI raw.sub,pS 1 false encBo raw.bits,pS 1 false enc16 raw.vals,p16 raw.and_,p16 raw.or_])] [] [(0,.obj [pI raw.fn,pI raw.at_,pI raw.count,pI raw.wAt,pI raw.sub,pS 1 false encBo raw.bits,pS 1 false enc16 raw.vals,p16 raw.and_,p16 raw.or_])] [] [(6,.obj [pI raw.fn,pI raw.at_,pI raw.count,pI raw.wAt,pI raw.sub,pS 1 false encBo raw.bits,pS 1 false enc16 raw.vals,p16 raw.and_,p16 raw.or_]),(5,oB true 1 enc8 ((bytesR q1).set kk (e1 ^^^ turn))),(3,oB false 1 enc8 (bytesR q1)),(2,.obj [pI q1.fn,pI q1.at_,pI q1.count,pI q1.wAt,pI q1.sub,pS 1 false encBo q1.bits,pS 1 false enc16 q1.vals,p16 q1.and_,p16 q1.or_]),(1,.obj [pS 1 false encI t,pN b1]),(0,.obj [pI raw.fn,pI raw.at_,pI raw.count,pI raw.wAt,pI raw.sub,pS 1 false encBo raw.bits,pS 1 false enc16 raw.vals,p16 raw.and_,p16 raw.or_])] rfl rfl rfl rfl rfl rfl (s_load_ptr1 tab_24 rfl rfl rfl rfl rfl ⟨rfl,rfl,rfl⟩) rfl ⟨rfl,trivial⟩ rfl rfl ?_
 refine d_op ?_
 refine x_run0 [(57,pS 1 false enc16 raw.vals)] [9,10] rfl rfl rfl rfl (s_lenM (l := raw.vals) tab_24 rfl (hM_sl (f := enc16) rfl) ⟨rfl,rfl,rfl⟩) ?_
 refine d_op ?_
 refine x_run0 [(58,pN raw.vals.length)] [9,10,11] rfl rfl rfl rfl (s_minN (a := raw.vals.length) (b := 30) rfl (by omega) (by omega) ⟨rfl,rfl,rfl⟩) ?_
 refine d_op ?_
 refine x_run0 [(55,pS 1 false enc16 raw.vals),(59,pN (min raw.vals.length 30))] [7,8,9,10,11,12] rfl rfl rfl rfl (s_cutM_hi (b := min raw.vals.length 30) (f := enc16) (l := raw.vals) tab_24 rfl tab_25 ⟨rfl,by decide⟩ rfl (bound_some rfl (by omega)) (by omega) ⟨rfl,rfl,rfl⟩) ?_
 refine d_op ?_
 refine x_run0 [(20,PV.ptr 6 0)] [0,1,2,3,4,5,6] rfl rfl rfl rfl (s_fa_ptr tab_27 rfl rfl tab_23 (by decide) rfl ⟨rfl,rfl,rfl⟩) ?_
 refine d_op ?_
 refine x_run [(61,PV.ptr 6 5),(53,pS 1 false encBo (raw.bits.take (min raw.bits.length 30)))] [0,1,2,3,4,5,6,14] [] [(6,.obj [pI raw.fn,pI raw.at_,pI raw.count,pI raw.wAt,pI raw.sub,pS 1 false encBo raw.bits,pS 1 false enc16 raw.vals,p16 raw.and_,p16 raw.or_])] [(6,.obj [pI raw.fn,pI raw.at_,pI raw.count,pI raw.wAt,pI raw.sub,pS 1 false encBo (raw.bits.take (min raw.bits.length 30)),pS 1 false enc16 raw.vals,p16 raw.and_,p16 raw.or_])] [(6,.obj [pI raw.fn,pI raw.at_,pI raw.count,pI raw.wAt,pI raw.sub,pS 1 false encBo (raw.bits.take (min raw.bits.length 30)),pS 1 false enc16 raw.vals,p16 raw.and_,p16 raw.or_])] [(6,.obj [pI raw.fn,pI raw.at_,pI raw.count,pI raw.wAt,pI raw.sub,pS 1 false encBo (raw.bits.take (min raw.bits.length 30)),pS 1 false enc16 raw.vals,p16 raw.and_,p16 raw.or_]),(5,oB true 1 enc8 ((bytesR q1).set kk (e1 ^^^ turn))),(3,oB false 1 enc8 (bytesR q1)),(2,.obj [pI q1.fn,pI q1.at_,pI q1.count,pI q1.wAt,pI q1.sub,pS 1 false encBo q1.bits,pS 1 false enc16 q1.vals,p16 q1.and_,p16 q1.or_]),(1,.obj [pS 1 false encI t,pN b1]),(0,.obj [pI raw.fn,pI raw.at_,pI raw.count,pI raw.wAt,pI raw.sub,pS 1 false encBo raw.bits,pS 1 false enc16 raw.vals,p16 raw.and_,p16 raw.or_])] rfl rfl rfl rfl rfl rfl (s_store_ptr tab_23 rfl rfl rfl rfl rfl (Nat.le_of_ble_eq_true rfl) ⟨rfl,rfl,rfl⟩) rfl trivial rfl rfl ?_
 refine d_op ?_
 refine x_run0 [(20,PV.ptr 6 0)] [0,1,2,3,4,5,6,7,8,9,10,11,12,13,14,15] rfl rfl rfl rfl (s_fa_ptr tab_27 rfl rfl tab_24 (by decide) rfl ⟨rfl,rfl,rfl⟩) ?_
 refine d_op ?_
 refine x_run [(62,PV.ptr 6 6),(60,pS 1 false enc16 (raw.vals.take (min raw.vals.length 30)))] [0,1,2,3,4,5,6,7,8,9,10,11,12,13,14,15,16] [] [(6,.obj [pI raw.fn,pI raw.at_,pI raw.count,pI raw.wAt,pI raw.sub,pS 1 false encBo (raw.bits.take (min raw.bits.length 30)),pS 1 false enc16 raw.vals,p16 raw.and_,p16 raw.or_])] [(6,.obj [pI raw.fn,pI raw.at_,pI raw.count,pI raw.wAt,pI raw.sub,pS 1 false encBo (raw.bits.take (min raw.bits.length 30)),pS 1 false enc16 (raw.vals.take (min raw.vals.length 30)),p16 raw.and_,p16 raw.or_])] [(6,.obj [pI raw.fn,pI raw.at_,pI raw.count,pI raw.wAt,pI raw.sub,pS 1 false encBo (raw.bits.take (min raw.bits.length 30)),pS 1 false enc16 (raw.vals.take (min raw.vals.length 30)),p16 raw.and_,p16 raw.or_])] [(6,.obj [pI raw.fn,pI raw.at_,pI raw.count,pI raw.wAt,pI raw.sub,pS 1 false encBo (raw.bits.take (min raw.bits.length 30)),pS 1 false enc16 (raw.vals.take (min raw.vals.length 30)),p16 raw.and_,p16 raw.or_]),(5,oB true 1 enc8 ((bytesR q1).set kk (e1 ^^^ turn))),(3,oB false 1 enc8 (bytesR q1)),(2,.obj [pI q1.fn,pI q1.at_,pI q1.count,pI q1.wAt,pI q1.sub,pS 1 false encBo q1.bits,pS 1 false enc16 q1.vals,p16 q1.and_,p16 q1.or_]),(1,.obj [pS 1 false encI t,pN b1]),(0,.obj [pI raw.fn,pI raw.at_,pI raw.count,pI raw.wAt,pI raw.sub,pS 1 false encBo raw.bits,pS 1 false enc16 raw.vals,p16 raw.and_,p16 raw.or_])] rfl rfl rfl rfl rfl rfl (s_store_ptr tab_24 rfl rfl rfl rfl rfl (Nat.le_of_ble_eq_true rfl) ⟨rfl,rfl,rfl⟩) rfl trivial rfl rfl ?_
 refine d_end ⟨by kernel_rfl, ?_⟩
 refine q_then ?_
 refine w_seq ?_
 refine w_R ?_
 refine qo hnt rfl (s_load_ptr tab_27 rfl rfl rfl (Nat.le_of_ble_eq_true rfl) ?_)
 refine qo hnt rfl (s_alloc tab_27 ?_)
 refine qo hnt rfl (s_store_ptr tab_27 rfl rfl rfl rfl rfl (Nat.le_of_ble_eq_true rfl) ?_)
 refine r_set [(1,pI what),(2,pI n),(5,pS 1 cl_b enc8 b),(6,p8 turn),(15,PV.ptr 2 0),(16,PV.ref 3 0 none),(18,pN kk),(19,PV.ref 5 0 none),(20,PV.ptr 6 0),(21,PV.ptr 7 0)] [(7,.obj [pI raw.fn,pI raw.at_,pI raw.count,pI raw.wAt,pI raw.sub,pS 1 false encBo (raw.bits.take (min raw.bits.length 30)),pS 1 false enc16 (raw.vals.take (min raw.vals.length 30)),p16 raw.and_,p16 raw.or_]),(6,.obj [pI raw.fn,pI raw.at_,pI raw.count,pI raw.wAt,pI raw.sub,pS 1 false encBo (raw.bits.take (min raw.bits.length 30)),pS 1 false enc16 (raw.vals.take (min raw.vals.length 30)),p16 raw.and_,p16 raw.or_]),(5,oB true 1 enc8 ((bytesR q1).set kk (e1 ^^^ turn))),(3,oB false 1 enc8 (bytesR q1)),(2,.obj [pI q1.fn,pI q1.at_,pI q1.count,pI q1.wAt,pI q1.sub,pS 1 false encBo q1.bits,pS 1 false enc16 q1.vals,p16 q1.and_,p16 q1.or_]),(1,.obj [pS 1 false encI t,pN b1]),(0,.obj [pI raw.fn,pI raw.at_,pI raw.count,pI raw.wAt,pI raw.sub,pS 1 false encBo raw.bits,pS 1 false enc16 raw.vals,p16 raw.and_,p16 raw.or_])] 8 ⟨rfl,rfl,rfl,rfl,rfl,rfl,rfl,rfl,rfl,rfl,trivial⟩ rfl rfl ?_
 refine r_end ?_
 refine q_then ?_
 refine w_seq ?_
 refine w_R ?_
 refine qo hnt rfl (s_callX (r2 := PV.ref 8 0 none) (nx1 := 9) (H2 := [(7,.obj [pI raw.fn,pI raw.at_,pI raw.count,pI raw.wAt,pI raw.sub,pS 1 false encBo (raw.bits.take (min raw.bits.length 30)),pS 1 false enc16 (raw.vals.take (min raw.vals.length 30)),p16 raw.and_,p16 raw.or_]),(6,.obj [pI raw.fn,pI raw.at_,pI raw.count,pI raw.wAt,pI raw.sub,pS 1 false encBo (raw.bits.take (min raw.bits.length 30)),pS 1 false enc16 (raw.vals.take (min raw.vals.length 30)),p16 raw.and_,p16 raw.or_]),(5,oB true 1 enc8 ((bytesR q1).set kk (e1 ^^^ turn))),(3,oB false 1 enc8 (bytesR q1)),(2,.obj [pI q1.fn,pI q1.at_,pI q1.count,pI q1.wAt,pI q1.sub,pS 1 false encBo q1.bits,pS 1 false enc16 q1.vals,p16 q1.and_,p16 q1.or_]),(1,.obj [pS 1 false encI t,pN b1]),(0,.obj [pI raw.fn,pI raw.at_,pI raw.count,pI raw.wAt,pI raw.sub,pS 1 false encBo raw.bits,pS 1 false enc16 raw.vals,p16 raw.and_,p16 raw.or_])]) (H3 := [(8,oB true 1 encI fnsL),(7,.obj [pI raw.fn,pI raw.at_,pI raw.count,pI raw.wAt,pI raw.sub,pS 1 false encBo (raw.bits.take (min raw.bits.length 30)),pS 1 false enc16 (raw.vals.take (min raw.vals.length 30)),p16 raw.and_,p16 raw.or_]),(6,.obj [pI raw.fn,pI raw.at_,pI raw.count,pI raw.wAt,pI raw.sub,pS 1 false encBo (raw.bits.take (min raw.bits.length 30)),pS 1 false enc16 (raw.vals.take (min raw.vals.length 30)),p16 raw.and_,p16 raw.or_]),(5,oB true 1 enc8 ((bytesR q1).set kk (e1 ^^^ turn))),(3,oB false 1 enc8 (bytesR q1)),(2,.obj [pI q1.fn,pI q1.at_,pI q1.count,pI q1.wAt,pI q1.sub,pS 1 false encBo q1.bits,pS 1 false enc16 q1.vals,p16 q1.and_,p16 q1.or_]),(1,.obj [pS 1 false encI t,pN b1]),(0,.obj [pI raw.fn,pI raw.at_,pI raw.count,pI raw.wAt,pI raw.sub,pS 1 false encBo raw.bits,pS 1 false enc16 raw.vals,p16 raw.and_,p16 raw.or_])]) [] [] rfl rfl rfl (handed_of (by decide) trivial) rfl rfl rfl rfl rfl rfl (w_burgagekeep_Functions) rfl (dist_of rfl) rfl rfl rfl rfl ?_)
 refine qm hnt rfl rfl ?_
 refine qo hnt rfl (s_callF rfl rfl rfl (w_burgagebook_Within n 0 11 (by first|omega|assumption|(simp; omega)|decide|(simp; done))) rfl ?_)
 have hwn := within_between n (lo := 0) (hi := 11) (by decide)
 have hfl : fnsL.length = 12 := rfl
 refine qo hnt rfl (s_iaR0 (q := Int.toNat (within n 0 11)) (f := encI) (l := fnsL) tab_22 rfl tab_3 rfl rfl (by omega) rfl rfl (by omega) ?_)
 obtain ⟨e2,he2⟩ := get_of_lt fnsL (i := Int.toNat (within n 0 11)) (by omega)
 refine qo hnt rfl (s_ldM (b := e2) (f := encI) tab_3 rfl rfl rfl rfl he2 rfl ?_)
 refine qo hnt rfl (s_fa_ptr tab_27 rfl rfl tab_3 (by decide) rfl ?_)
 refine qo hnt rfl (s_store_ptr tab_3 rfl rfl rfl rfl rfl (Nat.le_of_ble_eq_true rfl) ?_)
 refine r_set [(1,pI what),(2,pI n),(5,pS 1 cl_b enc8 b),(6,p8 turn),(15,PV.ptr 2 0),(16,PV.ref 3 0 none),(18,pN kk),(19,PV.ref 5 0 none),(20,PV.ptr 6 0),(21,PV.ptr 7 0)] [(7,.obj [pI e2,pI raw.at_,pI raw.count,pI raw.wAt,pI raw.sub,pS 1 false encBo (raw.bits.take (min raw.bits.length 30)),pS 1 false enc16 (raw.vals.take (min raw.vals.length 30)),p16 raw.and_,p16 raw.or_]),(8,oB true 1 encI fnsL),(6,.obj [pI raw.fn,pI raw.at_,pI raw.count,pI raw.wAt,pI raw.sub,pS 1 false encBo (raw.bits.take (min raw.bits.length 30)),pS 1 false enc16 (raw.vals.take (min raw.vals.length 30)),p16 raw.and_,p16 raw.or_]),(5,oB true 1 enc8 ((bytesR q1).set kk (e1 ^^^ turn))),(3,oB false 1 enc8 (bytesR q1)),(2,.obj [pI q1.fn,pI q1.at_,pI q1.count,pI q1.wAt,pI q1.sub,pS 1 false encBo q1.bits,pS 1 false enc16 q1.vals,p16 q1.and_,p16 q1.or_]),(1,.obj [pS 1 false encI t,pN b1]),(0,.obj [pI raw.fn,pI raw.at_,pI raw.count,pI raw.wAt,pI raw.sub,pS 1 false encBo raw.bits,pS 1 false enc16 raw.vals,p16 raw.and_,p16 raw.or_])] 9 ⟨rfl,rfl,rfl,rfl,rfl,rfl,rfl,rfl,rfl,rfl,trivial⟩ rfl rfl ?_
 refine r_end ?_
 refine q_then ?_
 refine w_seq ?_
 refine w_R ?_
 refine qo hnt rfl (s_load_ptr tab_27 rfl rfl rfl (Nat.le_of_ble_eq_true rfl) ?_)
 refine qo hnt rfl (s_callF rfl rfl rfl (w_burgagelaw3_same q1 (by first|omega|assumption|(simp; omega)|decide|(simp; done)) (by first|omega|assumption|(simp; omega)|decide|(simp; done))) rfl ?_)
 refine qm hnt rfl rfl ?_
 refine ry hnt rfl rfl rfl rfl ?_
 refine qo hnt rfl (s_load_ptr tab_27 rfl rfl rfl (Nat.le_of_ble_eq_true rfl) ?_)
 refine ry hnt rfl rfl rfl rfl ?_
 refine qm hnt rfl rfl ?_
 refine ry hnt rfl rfl rfl rfl ?_
 refine qm hnt rfl rfl ?_
 refine ry hnt rfl rfl rfl rfl ?_
 refine qo hnt rfl (s_callX1 (p := fun (o1 : TRequest) => o1.bits.length ≤ 140737488351232 ∧ o1.vals.length ≤ 70368744175616) (r2 := fun o1 => PV.f (eRequest o1)) (nx1 := 9) (H2 := [(7,.obj [pI e2,pI raw.at_,pI raw.count,pI raw.wAt,pI raw.sub,pS 1 false encBo (raw.bits.take (min raw.bits.length 30)),pS 1 false enc16 (raw.vals.take (min raw.vals.length 30)),p16 raw.and_,p16 raw.or_]),(8,oB true 1 encI fnsL),(6,.obj [pI raw.fn,pI raw.at_,pI raw.count,pI raw.wAt,pI raw.sub,pS 1 false encBo (raw.bits.take (min raw.bits.length 30)),pS 1 false enc16 (raw.vals.take (min raw.vals.length 30)),p16 raw.and_,p16 raw.or_]),(5,oB true 1 enc8 ((bytesR q1).set kk (e1 ^^^ turn))),(3,oB false 1 enc8 (bytesR q1)),(2,.obj [pI q1.fn,pI q1.at_,pI q1.count,pI q1.wAt,pI q1.sub,pS 1 false encBo q1.bits,pS 1 false enc16 q1.vals,p16 q1.and_,p16 q1.or_]),(1,.obj [pS 1 false encI t,pN b1]),(0,.obj [pI raw.fn,pI raw.at_,pI raw.count,pI raw.wAt,pI raw.sub,pS 1 false encBo raw.bits,pS 1 false enc16 raw.vals,p16 raw.and_,p16 raw.or_])]) (H3 := fun o1 => [(7,.obj [pI e2,pI raw.at_,pI raw.count,pI raw.wAt,pI raw.sub,pS 1 false encBo (raw.bits.take (min raw.bits.length 30)),pS 1 false enc16 (raw.vals.take (min raw.vals.length 30)),p16 raw.and_,p16 raw.or_]),(8,oB true 1 encI fnsL),(6,.obj [pI raw.fn,pI raw.at_,pI raw.count,pI raw.wAt,pI raw.sub,pS 1 false encBo (raw.bits.take (min raw.bits.length 30)),pS 1 false enc16 (raw.vals.take (min raw.vals.length 30)),p16 raw.and_,p16 raw.or_]),(5,oB true 1 enc8 ((bytesR q1).set kk (e1 ^^^ turn))),(3,oB false 1 enc8 (bytesR q1)),(2,.obj [pI q1.fn,pI q1.at_,pI q1.count,pI q1.wAt,pI q1.sub,pS 1 false encBo q1.bits,pS 1 false enc16 q1.vals,p16 q1.and_,p16 q1.or_]),(1,.obj [pS 1 false encI t,pN b1]),(0,.obj [pI raw.fn,pI raw.at_,pI raw.count,pI raw.wAt,pI raw.sub,pS 1 false encBo raw.bits,pS 1 false enc16 raw.vals,p16 raw.and_,p16 raw.or_])]) [] [] rfl rfl rfl (handed_of (by decide) trivial) rfl rfl rfl rfl rfl rfl (w_burgagelaw3_odd q1 what n (by first|omega|assumption|(simp; omega)|decide|(simp; done)) (by first|omega|assumption|(simp; omega)|decide|(simp; done)) (by first|omega|assumption|(simp; omega)|decide|(simp; done))) (fun o1 => rfl) (fun o1 => dist_of rfl) (fun o1 => rfl) (fun o1 => rfl) rfl (fun o1 => rfl) (fun o1 ho1 => ?_))
 refine ry hnt rfl rfl rfl rfl ?_
 refine qo hnt rfl (s_callF rfl rfl rfl (w_burgagelaw3_same o1 (by first|omega|assumption|(simp; omega)|decide|(simp; done)) (by first|omega|assumption|(simp; omega)|decide|(simp; done))) rfl ?_)
 refine qo hnt rfl (s_pick_t rfl rfl rfl ?_)
 refine qm hnt rfl rfl ?_
 refine ry hnt rfl rfl rfl rfl ?_
 refine qo hnt rfl (s_load_ptr tab_27 rfl rfl rfl (Nat.le_of_ble_eq_true rfl) ?_)
 refine ry hnt rfl rfl rfl rfl ?_
 refine qm hnt rfl rfl ?_
 refine ry hnt rfl rfl rfl rfl ?_
 refine qm hnt rfl rfl ?_
 refine ry hnt rfl rfl rfl rfl ?_
 refine qo hnt rfl (s_maskI 11 (by decide) rfl rfl (by decide) ?_)
 obtain ⟨nm,hnm⟩ : ∃ z : Nat,z = (n % 2 ^ 11).toNat := ⟨_,rfl⟩
 refine r_eq (s := 83) (y := pN nm) rfl (congrArg (fun z : Nat => pN z) (show ((n % 2 ^ 11).toNat) = nm by exact hnm.symm)) ?_
 refine ry hnt rfl rfl rfl rfl ?_
 refine qo hnt rfl (s_callX1 (p := fun (o2 : TRequest) => o2.bits.length ≤ 140737488351232 ∧ o2.vals.length ≤ 70368744175616) (r2 := fun o2 => PV.f (eRequest o2)) (nx1 := 9) (H2 := [(7,.obj [pI e2,pI raw.at_,pI raw.count,pI raw.wAt,pI raw.sub,pS 1 false encBo (raw.bits.take (min raw.bits.length 30)),pS 1 false enc16 (raw.vals.take (min raw.vals.length 30)),p16 raw.and_,p16 raw.or_]),(8,oB true 1 encI fnsL),(6,.obj [pI raw.fn,pI raw.at_,pI raw.count,pI raw.wAt,pI raw.sub,pS 1 false encBo (raw.bits.take (min raw.bits.length 30)),pS 1 false enc16 (raw.vals.take (min raw.vals.length 30)),p16 raw.and_,p16 raw.or_]),(5,oB true 1 enc8 ((bytesR q1).set kk (e1 ^^^ turn))),(3,oB false 1 enc8 (bytesR q1)),(2,.obj [pI q1.fn,pI q1.at_,pI q1.count,pI q1.wAt,pI q1.sub,pS 1 false encBo q1.bits,pS 1 false enc16 q1.vals,p16 q1.and_,p16 q1.or_]),(1,.obj [pS 1 false encI t,pN b1]),(0,.obj [pI raw.fn,pI raw.at_,pI raw.count,pI raw.wAt,pI raw.sub,pS 1 false encBo raw.bits,pS 1 false enc16 raw.vals,p16 raw.and_,p16 raw.or_])]) (H3 := fun o2 => [(7,.obj [pI e2,pI raw.at_,pI raw.count,pI raw.wAt,pI raw.sub,pS 1 false encBo (raw.bits.take (min raw.bits.length 30)),pS 1 false enc16 (raw.vals.take (min raw.vals.length 30)),p16 raw.and_,p16 raw.or_]),(8,oB true 1 encI fnsL),(6,.obj [pI raw.fn,pI raw.at_,pI raw.count,pI raw.wAt,pI raw.sub,pS 1 false encBo (raw.bits.take (min raw.bits.length 30)),pS 1 false enc16 (raw.vals.take (min raw.vals.length 30)),p16 raw.and_,p16 raw.or_]),(5,oB true 1 enc8 ((bytesR q1).set kk (e1 ^^^ turn))),(3,oB false 1 enc8 (bytesR q1)),(2,.obj [pI q1.fn,pI q1.at_,pI q1.count,pI q1.wAt,pI q1.sub,pS 1 false encBo q1.bits,pS 1 false enc16 q1.vals,p16 q1.and_,p16 q1.or_]),(1,.obj [pS 1 false encI t,pN b1]),(0,.obj [pI raw.fn,pI raw.at_,pI raw.count,pI raw.wAt,pI raw.sub,pS 1 false encBo raw.bits,pS 1 false enc16 raw.vals,p16 raw.and_,p16 raw.or_])]) [] [] rfl rfl rfl (handed_of (by decide) trivial) rfl rfl rfl rfl rfl rfl (w_burgagelaw3_odd q1 what ((nm : Nat) : Int) (by first|omega|assumption|(simp; omega)|decide|(simp; done)) (by first|omega|assumption|(simp; omega)|decide|(simp; done)) (by first|omega|assumption|(simp; omega)|decide|(simp; done))) (fun o2 => rfl) (fun o2 => dist_of rfl) (fun o2 => rfl) (fun o2 => rfl) rfl (fun o2 => rfl) (fun o2 ho2 => ?_))
 refine ry hnt rfl rfl rfl rfl ?_
 refine qo hnt rfl (s_callF rfl rfl rfl (w_burgagelaw3_same o2 (by first|omega|assumption|(simp; omega)|decide|(simp; done)) (by first|omega|assumption|(simp; omega)|decide|(simp; done))) rfl ?_)
 refine qo hnt rfl (s_pick_t rfl rfl rfl ?_)
 refine qm hnt rfl rfl ?_
 refine ry hnt rfl rfl rfl rfl ?_
 refine qo hnt rfl (s_load_ptr tab_27 rfl rfl rfl (Nat.le_of_ble_eq_true rfl) ?_)
 refine ry hnt rfl rfl rfl rfl ?_
 refine qo hnt rfl (s_callF rfl rfl rfl (w_burgagelaw3_same (⟨raw.fn,raw.at_,raw.count,raw.wAt,raw.sub,raw.bits.take (min raw.bits.length 30),raw.vals.take (min raw.vals.length 30),raw.and_,raw.or_⟩ : TRequest) (by first|omega|assumption|(simp; omega)|decide|(simp; done)) (by first|omega|assumption|(simp; omega)|decide|(simp; done))) rfl ?_)
 refine qo hnt rfl (s_pick_t rfl rfl rfl ?_)
 refine qm hnt rfl rfl ?_
 refine ry hnt rfl rfl rfl rfl ?_
 refine qo hnt rfl (s_load_ptr tab_27 rfl rfl rfl (Nat.le_of_ble_eq_true rfl) ?_)
 refine ry hnt rfl rfl rfl rfl ?_
 refine qo hnt rfl (s_callF rfl rfl rfl (w_burgagelaw3_same (⟨e2,raw.at_,raw.count,raw.wAt,raw.sub,raw.bits.take (min raw.bits.length 30),raw.vals.take (min raw.vals.length 30),raw.and_,raw.or_⟩ : TRequest) (by first|omega|assumption|(simp; omega)|decide|(simp; done)) (by first|omega|assumption|(simp; omega)|decide|(simp; done))) rfl ?_)
 refine qo hnt rfl (s_pick_t rfl rfl rfl ?_)
 refine qm hnt rfl rfl ?_
 refine ry hnt rfl rfl rfl rfl ?_
 refine qm hnt rfl rfl ?_
 refine ry hnt rfl rfl rfl rfl ?_
 refine qo hnt rfl (s_callX (r2 := pB true) (nx1 := 9) (H2 := [(3,oB false 1 enc8 (bytesR q1)),(7,.obj [pI e2,pI raw.at_,pI raw.count,pI raw.wAt,pI raw.sub,pS 1 false encBo (raw.bits.take (min raw.bits.length 30)),pS 1 false enc16 (raw.vals.take (min raw.vals.length 30)),p16 raw.and_,p16 raw.or_]),(8,oB true 1 encI fnsL),(6,.obj [pI raw.fn,pI raw.at_,pI raw.count,pI raw.wAt,pI raw.sub,pS 1 false encBo (raw.bits.take (min raw.bits.length 30)),pS 1 false enc16 (raw.vals.take (min raw.vals.length 30)),p16 raw.and_,p16 raw.or_]),(5,oB true 1 enc8 ((bytesR q1).set kk (e1 ^^^ turn))),(2,.obj [pI q1.fn,pI q1.at_,pI q1.count,pI q1.wAt,pI q1.sub,pS 1 false encBo q1.bits,pS 1 false enc16 q1.vals,p16 q1.and_,p16 q1.or_]),(1,.obj [pS 1 false encI t,pN b1]),(0,.obj [pI raw.fn,pI raw.at_,pI raw.count,pI raw.wAt,pI raw.sub,pS 1 false encBo raw.bits,pS 1 false enc16 raw.vals,p16 raw.and_,p16 raw.or_])]) (H3 := [(3,oB false 1 enc8 (bytesR q1)),(7,.obj [pI e2,pI raw.at_,pI raw.count,pI raw.wAt,pI raw.sub,pS 1 false encBo (raw.bits.take (min raw.bits.length 30)),pS 1 false enc16 (raw.vals.take (min raw.vals.length 30)),p16 raw.and_,p16 raw.or_]),(8,oB true 1 encI fnsL),(6,.obj [pI raw.fn,pI raw.at_,pI raw.count,pI raw.wAt,pI raw.sub,pS 1 false encBo (raw.bits.take (min raw.bits.length 30)),pS 1 false enc16 (raw.vals.take (min raw.vals.length 30)),p16 raw.and_,p16 raw.or_]),(5,oB true 1 enc8 ((bytesR q1).set kk (e1 ^^^ turn))),(2,.obj [pI q1.fn,pI q1.at_,pI q1.count,pI q1.wAt,pI q1.sub,pS 1 false encBo q1.bits,pS 1 false enc16 q1.vals,p16 q1.and_,p16 q1.or_]),(1,.obj [pS 1 false encI t,pN b1]),(0,.obj [pI raw.fn,pI raw.at_,pI raw.count,pI raw.wAt,pI raw.sub,pS 1 false encBo raw.bits,pS 1 false enc16 raw.vals,p16 raw.and_,p16 raw.or_])]) [] [] rfl rfl rfl (handed_of (by decide) trivial) rfl rfl rfl rfl rfl rfl (w_burgagelaw3_reads (bytesR q1) false (by first|omega|assumption|(simp; omega)|decide|(simp; done))) rfl (dist_of rfl) rfl rfl rfl rfl ?_)
 refine qo hnt rfl (s_pick_t rfl rfl rfl ?_)
 refine qm hnt rfl rfl ?_
 refine ry hnt rfl rfl rfl rfl ?_
 refine qm hnt rfl rfl ?_
 refine ry hnt rfl rfl rfl rfl ?_
 refine qo hnt rfl (s_callX (r2 := pB true) (nx1 := 9) (H2 := [(5,oB false 1 enc8 ((bytesR q1).set kk (e1 ^^^ turn))),(3,oB false 1 enc8 (bytesR q1)),(7,.obj [pI e2,pI raw.at_,pI raw.count,pI raw.wAt,pI raw.sub,pS 1 false encBo (raw.bits.take (min raw.bits.length 30)),pS 1 false enc16 (raw.vals.take (min raw.vals.length 30)),p16 raw.and_,p16 raw.or_]),(8,oB true 1 encI fnsL),(6,.obj [pI raw.fn,pI raw.at_,pI raw.count,pI raw.wAt,pI raw.sub,pS 1 false encBo (raw.bits.take (min raw.bits.length 30)),pS 1 false enc16 (raw.vals.take (min raw.vals.length 30)),p16 raw.and_,p16 raw.or_]),(2,.obj [pI q1.fn,pI q1.at_,pI q1.count,pI q1.wAt,pI q1.sub,pS 1 false encBo q1.bits,pS 1 false enc16 q1.vals,p16 q1.and_,p16 q1.or_]),(1,.obj [pS 1 false encI t,pN b1]),(0,.obj [pI raw.fn,pI raw.at_,pI raw.count,pI raw.wAt,pI raw.sub,pS 1 false encBo raw.bits,pS 1 false enc16 raw.vals,p16 raw.and_,p16 raw.or_])]) (H3 := [(5,oB false 1 enc8 ((bytesR q1).set kk (e1 ^^^ turn))),(3,oB false 1 enc8 (bytesR q1)),(7,.obj [pI e2,pI raw.at_,pI raw.count,pI raw.wAt,pI raw.sub,pS 1 false encBo (raw.bits.take (min raw.bits.length 30)),pS 1 false enc16 (raw.vals.take (min raw.vals.length 30)),p16 raw.and_,p16 raw.or_]),(8,oB true 1 encI fnsL),(6,.obj [pI raw.fn,pI raw.at_,pI raw.count,pI raw.wAt,pI raw.sub,pS 1 false encBo (raw.bits.take (min raw.bits.length 30)),pS 1 false enc16 (raw.vals.take (min raw.vals.length 30)),p16 raw.and_,p16 raw.or_]),(2,.obj [pI q1.fn,pI q1.at_,pI q1.count,pI q1.wAt,pI q1.sub,pS 1 false encBo q1.bits,pS 1 false enc16 q1.vals,p16 q1.and_,p16 q1.or_]),(1,.obj [pS 1 false encI t,pN b1]),(0,.obj [pI raw.fn,pI raw.at_,pI raw.count,pI raw.wAt,pI raw.sub,pS 1 false encBo raw.bits,pS 1 false enc16 raw.vals,p16 raw.and_,p16 raw.or_])]) [] [] rfl rfl rfl (handed_of (by decide) trivial) rfl rfl rfl rfl rfl rfl (w_burgagelaw3_reads ((bytesR q1).set kk (e1 ^^^ turn)) false (by first|omega|assumption|(simp; omega)|decide|(simp; done))) rfl (dist_of rfl) rfl rfl rfl rfl ?_)
 refine qo hnt rfl (s_pick_t rfl rfl rfl ?_)
 refine qm hnt rfl rfl ?_
 refine ry hnt rfl rfl rfl rfl ?_
 refine qm hnt rfl rfl ?_
 refine ry hnt rfl rfl rfl rfl ?_
 refine qm hnt rfl rfl ?_
 refine ry hnt rfl rfl rfl rfl ?_
 refine qo hnt rfl (s_cutR_hi (a := 0) (b := kk) (f := enc8) (l := bytesR q1) tab_34 rfl tab_5 rfl rfl rfl bound_none (bound_some rfl (by omega)) (by omega) ?_)
 refine ry hnt rfl rfl rfl rfl ?_
 refine r_frzM (s := 106) (f := enc8) rfl rfl view_hi ?_
 refine qo hnt rfl (s_callF rfl rfl rfl (w_burgagelaw3_reads ((bytesR q1).take kk) false (by first|omega|assumption|(simp; omega)|decide|(simp; done))) rfl ?_)
 refine qo hnt rfl (s_pick_t rfl rfl rfl ?_)
 refine qm hnt rfl rfl ?_
 refine ry hnt rfl rfl rfl rfl ?_
 refine qm hnt rfl rfl ?_
 refine ry hnt rfl rfl rfl rfl ?_
 refine qm hnt rfl rfl ?_
 refine ry hnt rfl rfl rfl rfl ?_
 refine qo hnt rfl (s_mkM (f := enc8) [turn] tab_34 rfl tab_5 ⟨rfl,by decide⟩ (by decide) rfl rfl rfl rfl ?_)
 refine ry hnt rfl rfl rfl rfl ?_
 refine qo hnt rfl (s_appR0 (f := enc8) (l := bytesR q1) (xs := [turn]) tab_34 rfl tab_5 ⟨rfl,by decide,by decide⟩ (srcM tab_34 rfl (hM_ref0 (f := enc8) rfl rfl)) rfl rfl (by first|omega|(simp; omega)) ?_)
 refine ry hnt rfl rfl rfl rfl ?_
 refine qo hnt rfl (s_callX (r2 := pB true) (nx1 := 11) (H2 := [(10,oB false 1 enc8 ((bytesR q1) ++ [turn])),(9,oB true 1 enc8 [turn]),(5,oB false 1 enc8 ((bytesR q1).set kk (e1 ^^^ turn))),(7,.obj [pI e2,pI raw.at_,pI raw.count,pI raw.wAt,pI raw.sub,pS 1 false encBo (raw.bits.take (min raw.bits.length 30)),pS 1 false enc16 (raw.vals.take (min raw.vals.length 30)),p16 raw.and_,p16 raw.or_]),(8,oB true 1 encI fnsL),(6,.obj [pI raw.fn,pI raw.at_,pI raw.count,pI raw.wAt,pI raw.sub,pS 1 false encBo (raw.bits.take (min raw.bits.length 30)),pS 1 false enc16 (raw.vals.take (min raw.vals.length 30)),p16 raw.and_,p16 raw.or_]),(2,.obj [pI q1.fn,pI q1.at_,pI q1.count,pI q1.wAt,pI q1.sub,pS 1 false encBo q1.bits,pS 1 false enc16 q1.vals,p16 q1.and_,p16 q1.or_]),(1,.obj [pS 1 false encI t,pN b1]),(0,.obj [pI raw.fn,pI raw.at_,pI raw.count,pI raw.wAt,pI raw.sub,pS 1 false encBo raw.bits,pS 1 false enc16 raw.vals,p16 raw.and_,p16 raw.or_])]) (H3 := [(10,oB false 1 enc8 ((bytesR q1) ++ [turn])),(9,oB true 1 enc8 [turn]),(5,oB false 1 enc8 ((bytesR q1).set kk (e1 ^^^ turn))),(7,.obj [pI e2,pI raw.at_,pI raw.count,pI raw.wAt,pI raw.sub,pS 1 false encBo (raw.bits.take (min raw.bits.length 30)),pS 1 false enc16 (raw.vals.take (min raw.vals.length 30)),p16 raw.and_,p16 raw.or_]),(8,oB true 1 encI fnsL),(6,.obj [pI raw.fn,pI raw.at_,pI raw.count,pI raw.wAt,pI raw.sub,pS 1 false encBo (raw.bits.take (min raw.bits.length 30)),pS 1 false enc16 (raw.vals.take (min raw.vals.length 30)),p16 raw.and_,p16 raw.or_]),(2,.obj [pI q1.fn,pI q1.at_,pI q1.count,pI q1.wAt,pI q1.sub,pS 1 false encBo q1.bits,pS 1 false enc16 q1.vals,p16 q1.and_,p16 q1.or_]),(1,.obj [pS 1 false encI t,pN b1]),(0,.obj [pI raw.fn,pI raw.at_,pI raw.count,pI raw.wAt,pI raw.sub,pS 1 false encBo raw.bits,pS 1 false enc16 raw.vals,p16 raw.and_,p16 raw.or_])]) [] [] rfl rfl rfl (handed_of (by decide) trivial) rfl rfl rfl rfl rfl rfl (w_burgagelaw3_reads ((bytesR q1) ++ [turn]) false (by first|omega|assumption|(simp; omega)|decide|(simp; done))) rfl (dist_of rfl) rfl rfl rfl rfl ?_)
 refine qo hnt rfl (s_pick_t rfl rfl rfl ?_)
 refine qm hnt rfl rfl ?_
 refine ry hnt rfl rfl rfl rfl ?_
 refine qm hnt rfl rfl ?_
 refine ry hnt rfl rfl rfl rfl ?_
 refine qo hnt rfl (s_callF rfl rfl rfl (w_burgagelaw3_reads b cl_b (by first|omega|assumption|(simp; omega)|decide|(simp; done))) rfl ?_)
 refine qo hnt rfl (s_pick_t rfl rfl rfl ?_)
 refine qm hnt rfl rfl ?_
 refine ry hnt rfl rfl rfl rfl ?_
 refine qo hnt rfl (s_callF rfl rfl rfl (w_burgagelaw3_known) rfl ?_)
 refine qo hnt rfl (s_pick_t rfl rfl rfl ?_)
 refine qa hnt rfl rfl ?_
 refine r_set [(14,pB true)] [(10,oB false 1 enc8 ((bytesR q1) ++ [turn])),(9,oB true 1 enc8 [turn]),(5,oB false 1 enc8 ((bytesR q1).set kk (e1 ^^^ turn))),(7,.obj [pI e2,pI raw.at_,pI raw.count,pI raw.wAt,pI raw.sub,pS 1 false encBo (raw.bits.take (min raw.bits.length 30)),pS 1 false enc16 (raw.vals.take (min raw.vals.length 30)),p16 raw.and_,p16 raw.or_]),(8,oB true 1 encI fnsL),(6,.obj [pI raw.fn,pI raw.at_,pI raw.count,pI raw.wAt,pI raw.sub,pS 1 false encBo (raw.bits.take (min raw.bits.length 30)),pS 1 false enc16 (raw.vals.take (min raw.vals.length 30)),p16 raw.and_,p16 raw.or_]),(2,.obj [pI q1.fn,pI q1.at_,pI q1.count,pI q1.wAt,pI q1.sub,pS 1 false encBo q1.bits,pS 1 false enc16 q1.vals,p16 q1.and_,p16 q1.or_]),(1,.obj [pS 1 false encI t,pN b1]),(0,.obj [pI raw.fn,pI raw.at_,pI raw.count,pI raw.wAt,pI raw.sub,pS 1 false encBo raw.bits,pS 1 false enc16 raw.vals,p16 raw.and_,p16 raw.or_])] 11 ⟨rfl,trivial⟩ rfl rfl ?_
 refine r_end ?_
 refine q_then ?_
 refine w_ret ?_
 exact fin_plain (ret_tmp rfl ret_nil) rfl rfl ⟨rfl,rfl,rfl⟩
end Go.Proofs.Ytigpfkcjpjhflaa
