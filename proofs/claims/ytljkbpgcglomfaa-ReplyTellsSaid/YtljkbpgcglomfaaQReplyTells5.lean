/- What the law ReplyTells needs, and no more: merged out of texts of this session by a program of it (wip/tools/prune.py). -/
import Derived.Test.YtljkbpgcglomfaaQReplyTells4
set_option linter.unusedVariables false
set_option linter.unusedSimpArgs false
set_option maxRecDepth 10000
set_option maxHeartbeats 1000000
namespace Go.Proofs.Ytljkbpgcglomfaa
open Go Go.Proofs.Ytljkbpgcglomfaa.Pv
theorem w_burgagekeep_Functions   :
    T Try.prog 52 [] 0 [] (Ret (PV.ref 0 0 none) 1 [(0,oB true 1 encI fnsL)]) := by
 refine t_fun tabOk (n := 2) (rs := [.tmp 0]) Try.func52 rfl rfl rfl rfl (Nat.le_of_ble_eq_true rfl) ?_
 intro c hnt hk
 refine w_seq (w_R (qa hnt rfl rfl (r_end (q_then (w_seq ?_)))))
 refine w_R (qo hnt rfl (s_mkM (f := encI) ([1,2,3,4,5,6,8,15,16,17,22,23] : List Int) tab_24 rfl tab_3 ⟨rfl,by decide⟩ (by decide) rfl rfl rfl rfl ?_))
 refine qa hnt rfl rfl (r_set [(0,PV.ref 0 0 none)] [(0,oB true 1 encI ([1,2,3,4,5,6,8,15,16,17,22,23] : List Int))] 1 ⟨rfl,trivial⟩ rfl rfl (r_end (q_then (w_H (H' := [(0,oB true 1 encI fnsL)]) (congrArg (fun z => ([(0,oB true 1 encI z)] : Heap)) (show ([1,2,3,4,5,6,8,15,16,17,22,23] : List Int) = fnsL by rfl)) (w_ret ?_)))))
 exact fin_names (nx1 := 1) (H1 := [(0,oB true 1 encI fnsL)]) [(0,0)] (ret_tmp rfl ret_nil) rfl (by decide) ⟨⟨_,_,rfl,rfl,rfl,rfl⟩,trivial⟩ (by decide) rfl ⟨rfl,rfl,rfl⟩
theorem w_burgagekeep_Tape_Next (L : List Int) (cl_L : Bool) (a : Nat) (n : Int) (hL : L.length ≤ 70000000000000) (hn : -9223372036854775808 ≤ n ∧ n ≤ 9223372036854775807) :
    T Try.prog 53 [PV.ptr 0 0,pI n] 1 [(0,.obj [pS 1 cl_L encI L,pN a])] (Ret (pI (tNext L a n)) 1 [(0,.obj [pS 1 false encI L,pN (tStep L a n)])]) := by
 refine t_fun tabOk (n := 40) (rs := [.tmp 4]) Try.func53 rfl rfl rfl rfl (Nat.le_of_ble_eq_true rfl) ?_
 intro c hnt hk
 refine w_seq (w_R (qa hnt rfl rfl (r_end (q_then (w_seq ?_)))))
 refine w_seq (W_drawn tabOk mixed hnt [[],[0],[0,1],[0,1,2],[],[4],[4,5],[4,5,6],[4,5,6,7],(.range 9),(.range 10),(.range 11),(.range 12),(.range 13)] (by kernel_rfl) (d_op (x_run0 [(0,PV.ptr 0 0)] [] rfl rfl rfl rfl (s_move rfl ⟨rfl,rfl,rfl⟩) (d_op (x_run0 [(5,PV.ptr 0 0)] [0] rfl rfl rfl rfl (s_nilCheck rfl trivial ⟨rfl,rfl,rfl⟩) ?_)))))
 refine d_op (x_run0 [(6,PV.ptr 0 0)] [0,1] rfl rfl rfl rfl (s_fa_ptr tab_49 rfl rfl tab_3 (by decide) rfl ⟨rfl,rfl,rfl⟩) (d_op (xL [(7,PV.ptr 0 1)] [0,1,2] [(0,.obj [pS 1 cl_L encI L,pN a])] rfl rfl rfl rfl rfl (s_load_ptr1 tab_3 rfl rfl rfl rfl rfl ⟨rfl,rfl,rfl⟩) ⟨rfl,trivial⟩ rfl (d_op (x_run0 [(0,PV.ptr 0 0)] [] rfl rfl rfl rfl (s_move rfl ⟨rfl,rfl,rfl⟩) ?_)))))
 refine d_op (x_run0 [(9,PV.ptr 0 0)] [4] rfl rfl rfl rfl (s_nilCheck rfl trivial ⟨rfl,rfl,rfl⟩) (d_op (x_run0 [(10,PV.ptr 0 0)] [4,5] rfl rfl rfl rfl (s_fa_ptr tab_49 rfl rfl tab_24 (by decide) rfl ⟨rfl,rfl,rfl⟩) (d_op (xL [(11,PV.ptr 0 0)] [4,5,6] [(0,.obj [pS 1 cl_L encI L,pN a])] rfl rfl rfl rfl rfl (s_load_ptr1 tab_24 rfl rfl rfl rfl rfl ⟨rfl,rfl,rfl⟩) ⟨rfl,trivial⟩ rfl ?_)))))
 refine d_op (x_run0 [(12,pS 1 cl_L encI L)] [4,5,6,7] rfl rfl rfl rfl (s_lenM (l := L) tab_24 rfl (hM_sl (f := encI) rfl) ⟨rfl,rfl,rfl⟩) (d_op (x_run0 [(8,pN a),(13,pN L.length)] (.range 9) rfl rfl rfl rfl (s_geq rfl rfl ⟨rfl,rfl,rfl⟩) (d_op (x_run0 [(14,pB (decide (((L.length : Nat) : Int) ≤ ((a : Nat) : Int))))] (.range 10) rfl rfl rfl rfl (s_move rfl ⟨rfl,rfl,rfl⟩) ?_)))))
 refine x_if [(15,pB (decide (((L.length : Nat) : Int) ≤ ((a : Nat) : Int)))),(1,pI n)] (.range 11) rfl rfl rfl rfl (fun g1 => ?_) (fun g1 => ?_)
 ·have g1' := g1
  try simp only [sB] at g1'
  refine x_run0 [(15,pB (decide (((L.length : Nat) : Int) ≤ ((a : Nat) : Int)))),(1,pI n)] (.range 11) rfl rfl rfl rfl (s_move rfl ⟨rfl,rfl,rfl⟩) (xy [(15,pB (decide (((L.length : Nat) : Int) ≤ ((a : Nat) : Int)))),(16,pI n)] (.range 12) rfl rfl rfl rfl g1 (x_run0 [(15,pB (decide (((L.length : Nat) : Int) ≤ ((a : Nat) : Int)))),(16,pI n)] (.range 12) rfl rfl rfl rfl (s_lss rfl rfl ⟨rfl,rfl,rfl⟩) (d_op (x_run0 [(15,pB (decide (((L.length : Nat) : Int) ≤ ((a : Nat) : Int)))),(17,pB (decide (n < 1)))] (.range 13) rfl rfl rfl rfl (s_pick_f rfl g1 rfl ⟨rfl,rfl,rfl⟩) (d_end ⟨by kernel_rfl, ?_⟩)))))
  refine q_then (w_if rfl (fun c1 => ?_) (fun c1 => ?_))
  ·try simp only [sB] at c1
   refine w_seq (w_R (qa hnt rfl rfl (r_end (q_then (w_le (s := 4) (y := pI (tNext L a n)) rfl (le_of_eq (congrArg pI (show 0 = (tNext L a n) by (unfold tNext; rw [if_pos (by omega)]; done)))) ?_)))))
   have hz1 : a = (tStep L a n) := by ((unfold tStep; rw [if_pos (by omega)]; done))
   refine w_leO (n := 0) (ds := [pS 1 false encI L,pN (tStep L a n)]) rfl ⟨le_loose,le_of_eq (congrArg (fun z : Nat => pN z) hz1),trivial⟩ (w_ret (q_then_ret ?_))
   exact fin_names (nx1 := 1) (H1 := [(0,.obj [pS 1 false encI L,pN (tStep L a n)])]) [(0,0)] (ret_tmp rfl ret_nil) rfl (by decide) ⟨⟨_,_,rfl,rfl,rfl,rfl⟩,trivial⟩ (by decide) rfl ⟨rfl,rfl,rfl⟩
  try simp only [sB] at c1
  refine w_skip (q_then (w_seq (w_R (qm hnt rfl rfl (qo hnt rfl (s_nilCheck rfl trivial ?_))))))
  refine qo hnt rfl (s_fa_ptr tab_49 rfl rfl tab_3 (by decide) rfl ?_)
  refine qo hnt rfl (s_load_ptr1 tab_3 rfl rfl rfl rfl rfl ?_)
  refine qo hnt rfl (s_addN (a := a) (b := 1) rfl rfl (by omega) (by omega) (by omega) ?_)
  refine qo hnt rfl (s_nilCheck rfl trivial ?_)
  refine qo hnt rfl (s_fa_ptr tab_49 rfl rfl tab_3 (by decide) rfl ?_)
  refine qo hnt rfl (s_store_ptr tab_3 rfl rfl rfl rfl rfl (Nat.le_of_ble_eq_true rfl) ?_)
  refine r_set [(0,PV.ptr 0 0),(1,pI n)] [(0,.obj [pS 1 cl_L encI L,pN (a + 1)])] 1 ⟨rfl,rfl,trivial⟩ rfl rfl (r_end (q_then (w_seq (W_drawn tabOk mixed hnt [[],[0],[0,1],[0,1,2],[],[4],[4,5],[4,5,6],[4,5,6,7],(.range 9),(.range 10),(.range 11),[],(.range 13),(.range 14)] (by kernel_rfl) (d_op ?_)))))
  refine x_run0 [(0,PV.ptr 0 0)] [] rfl rfl rfl rfl (s_move rfl ⟨rfl,rfl,rfl⟩) (d_op (x_run0 [(26,PV.ptr 0 0)] [0] rfl rfl rfl rfl (s_nilCheck rfl trivial ⟨rfl,rfl,rfl⟩) (d_op (x_run0 [(27,PV.ptr 0 0)] [0,1] rfl rfl rfl rfl (s_fa_ptr tab_49 rfl rfl tab_24 (by decide) rfl ⟨rfl,rfl,rfl⟩) (d_op ?_)))))
  refine xL [(28,PV.ptr 0 0)] [0,1,2] [(0,.obj [pS 1 cl_L encI L,pN (a + 1)])] rfl rfl rfl rfl rfl (s_load_ptr1 tab_24 rfl rfl rfl rfl rfl ⟨rfl,rfl,rfl⟩) ⟨rfl,trivial⟩ rfl (d_op (x_run0 [(0,PV.ptr 0 0)] [] rfl rfl rfl rfl (s_move rfl ⟨rfl,rfl,rfl⟩) (d_op (x_run0 [(30,PV.ptr 0 0)] [4] rfl rfl rfl rfl (s_nilCheck rfl trivial ⟨rfl,rfl,rfl⟩) (d_op ?_)))))
  refine x_run0 [(31,PV.ptr 0 0)] [4,5] rfl rfl rfl rfl (s_fa_ptr tab_49 rfl rfl tab_3 (by decide) rfl ⟨rfl,rfl,rfl⟩) (d_op (xL [(32,PV.ptr 0 1)] [4,5,6] [(0,.obj [pS 1 cl_L encI L,pN (a + 1)])] rfl rfl rfl rfl rfl (s_load_ptr1 tab_3 rfl rfl rfl rfl rfl ⟨rfl,rfl,rfl⟩) ⟨rfl,trivial⟩ rfl (d_op (x_run0 [(33,pN (a + 1))] [4,5,6,7] rfl rfl rfl rfl (s_subN (a := a + 1) (b := 1) rfl rfl (by omega) (by omega) (by omega) ⟨rfl,rfl,rfl⟩) (d_op ?_)))))
  obtain ⟨e1,he1⟩ := get_of_lt L (i := a + 1 - 1) (by omega)
  refine x_run0 [(29,pS 1 cl_L encI L),(34,pN (a + 1 - 1))] (.range 9) rfl rfl rfl rfl (s_iaM (q := a + 1 - 1) (b := e1) (f := encI) tab_24 rfl tab_3 rfl rfl (by omega) rfl he1 ⟨rfl,rfl,rfl⟩) (d_op (x_run0 [(35,PV.f (.ro (encI e1)))] (.range 10) rfl rfl rfl rfl (s_load_ro1 tab_3 rfl rfl rfl rfl ⟨rfl,rfl,rfl⟩) (d_op (x_run0 [(36,pI e1)] (.range 11) rfl rfl rfl rfl (s_callF rfl rfl rfl (w_burgagebook_Within e1 0 1073741824 (by omega)) rfl ⟨rfl,rfl,rfl⟩) (d_op ?_)))))
  refine x_run0 [(1,pI n)] [] rfl rfl rfl rfl (s_move rfl ⟨rfl,rfl,rfl⟩) (d_op (x_run0 [(37,pI (within e1 0 1073741824)),(38,pI n)] (.range 13) rfl rfl rfl rfl (s_rem rfl rfl (by omega) ⟨rfl,rfl,rfl⟩) (d_op (x_run0 [(39,pI (Int.tmod (within e1 0 1073741824) n))] (.range 14) rfl rfl rfl rfl (s_assign rfl ⟨rfl,rfl,rfl⟩) (d_end ⟨by kernel_rfl, ?_⟩)))))
  refine q_then (w_le (s := 4) (y := pI (tNext L a n)) rfl (le_of_eq (congrArg pI (show (Int.tmod (within e1 0 1073741824) n) = (tNext L a n) by (unfold tNext; rw [if_neg (by omega),List.getD_eq_getElem?_getD,show L[a]? = some e1 from he1]; rfl)))) ?_)
  have hz2 : (a + 1) = (tStep L a n) := by ((unfold tStep; rw [if_neg (by omega)]; done))
  refine w_leO (n := 0) (ds := [pS 1 false encI L,pN (tStep L a n)]) rfl ⟨le_loose,le_of_eq (congrArg (fun z : Nat => pN z) hz2),trivial⟩ (w_ret ?_)
  exact fin_names (nx1 := 1) (H1 := [(0,.obj [pS 1 false encI L,pN (tStep L a n)])]) [(0,0)] (ret_tmp rfl ret_nil) rfl (by decide) ⟨⟨_,_,rfl,rfl,rfl,rfl⟩,trivial⟩ (by decide) rfl ⟨rfl,rfl,rfl⟩
 have g1' := g1
 try simp only [sB] at g1'
 refine xn [(15,pB (decide (((L.length : Nat) : Int) ≤ ((a : Nat) : Int)))),(16,undefP)] (.range 12) rfl rfl rfl rfl g1 (d_op (x_run0 [(15,pB (decide (((L.length : Nat) : Int) ≤ ((a : Nat) : Int)))),(17,undefP)] (.range 13) rfl rfl rfl rfl (s_pick_t rfl g1 rfl ⟨rfl,rfl,rfl⟩) (d_end ⟨by kernel_rfl, ?_⟩)))
 refine q_then (w_if rfl (fun _ => ?_) (fun e => absurd e (by decide)))
 refine w_seq (w_R (qa hnt rfl rfl (r_end (q_then (w_le (s := 4) (y := pI (tNext L a n)) rfl (le_of_eq (congrArg pI (show 0 = (tNext L a n) by (unfold tNext; rw [if_pos (by omega)]; done)))) ?_)))))
 have hz3 : a = (tStep L a n) := by ((unfold tStep; rw [if_pos (by omega)]; done))
 refine w_leO (n := 0) (ds := [pS 1 false encI L,pN (tStep L a n)]) rfl ⟨le_loose,le_of_eq (congrArg (fun z : Nat => pN z) hz3),trivial⟩ (w_ret (q_then_ret ?_))
 exact fin_names (nx1 := 1) (H1 := [(0,.obj [pS 1 false encI L,pN (tStep L a n)])]) [(0,0)] (ret_tmp rfl ret_nil) rfl (by decide) ⟨⟨_,_,rfl,rfl,rfl,rfl⟩,trivial⟩ (by decide) rfl ⟨rfl,rfl,rfl⟩
theorem w_burgagekeep_Tape_Request (L : List Int) (cl_L : Bool) (a : Nat) (hL : L.length ≤ 70000000000000) :
    T Try.prog 20 [PV.ptr 0 0] 1 [(0,.obj [pS 1 cl_L encI L,pN a])] (fun ra rb rc => ∃ q : TRequest,∃ b : Nat,(rightR q = 0 ∧ q.bits.length ≤ 25 ∧ q.vals.length ≤ 25 ∧ 0 ≤ q.count ∧ q.count ≤ 25) ∧ (Ret (PV.f (eRequest q)) 1 [(0,.obj [pS 1 false encI L,pN b])]) ra rb rc) := by
 refine t_fun tabOk (n := 140) (rs := [.cell 2 46]) Try.func20 rfl rfl rfl rfl (Nat.le_of_ble_eq_true rfl) ?_
 intro c hnt hk
 refine w_seq (w_R (qo hnt rfl (s_alloc tab_46 ?_)))
 refine r_set [(0,PV.ptr 0 0),(2,PV.ptr 1 0)] [(1,.obj [pI 0,pI 0,pI 0,pI 0,pI 0,pNil,pNil,p16 0,p16 0]),(0,.obj [pS 1 cl_L encI L,pN a])] 2 ⟨rfl,rfl,trivial⟩ rfl rfl (r_end (q_then (w_seq (w_R (qo hnt rfl (s_callX (r2 := PV.ref 2 0 none) (nx1 := 3) (H2 := [(1,.obj [pI 0,pI 0,pI 0,pI 0,pI 0,pNil,pNil,p16 0,p16 0]),(0,.obj [pS 1 cl_L encI L,pN a])]) (H3 := [(2,oB true 1 encI fnsL),(1,.obj [pI 0,pI 0,pI 0,pI 0,pI 0,pNil,pNil,p16 0,p16 0]),(0,.obj [pS 1 cl_L encI L,pN a])]) [] [] rfl rfl rfl (handed_of (by decide) trivial) rfl rfl rfl rfl rfl rfl (w_burgagekeep_Functions) rfl (dist_of rfl) rfl rfl rfl rfl ?_))))))
 refine qm hnt rfl rfl (qo hnt rfl (s_callX (r2 := pI (tNext L a 12)) (nx1 := 3) (H2 := [(2,oB true 1 encI fnsL),(1,.obj [pI 0,pI 0,pI 0,pI 0,pI 0,pNil,pNil,p16 0,p16 0]),(0,.obj [pS 1 cl_L encI L,pN a])]) (H3 := [(0,.obj [pS 1 false encI L,pN (tStep L a 12)]),(2,oB true 1 encI fnsL),(1,.obj [pI 0,pI 0,pI 0,pI 0,pI 0,pNil,pNil,p16 0,p16 0])]) [0] [.obj [pS 1 cl_L encI L,pN a]] rfl rfl rfl (handed_of (by decide) ⟨rfl,trivial⟩) rfl rfl rfl rfl rfl rfl (w_burgagekeep_Tape_Next L cl_L a 12 (by omega) (by omega)) rfl (dist_of rfl) rfl rfl rfl rfl ?_))
 have h12 := tNext_lt L a (n := 12) (by decide)
 have hfl : fnsL.length = 12 := rfl
 refine qo hnt rfl (s_iaR0 (q := Int.toNat (tNext L a 12)) (f := encI) (l := fnsL) tab_24 rfl tab_3 rfl rfl (by omega) rfl rfl (by omega) ?_)
 obtain ⟨e1,he1⟩ := get_of_lt fnsL (i := Int.toNat (tNext L a 12)) (by omega)
 refine qo hnt rfl (s_ldM (b := e1) (f := encI) tab_3 rfl rfl rfl rfl he1 rfl ?_)
 refine qo hnt rfl (s_build tab_46 rfl rfl (b_cons rfl tab_3 rfl rfl rfl (Nat.le_of_ble_eq_true rfl) (b_nil ?_)))
 refine qo hnt rfl (s_alloc tab_46 ?_)
 refine qo hnt rfl (s_store_ptr tab_46 rfl rfl rfl rfl rfl (Nat.le_of_ble_eq_true rfl) ?_)
 refine r_set [(0,PV.ptr 0 0),(2,PV.ptr 1 0),(3,PV.ptr 3 0)] [(3,.obj [pI e1,pI 0,pI 0,pI 0,pI 0,pNil,pNil,p16 0,p16 0]),(0,.obj [pS 1 false encI L,pN (tStep L a 12)]),(2,oB true 1 encI fnsL),(1,.obj [pI 0,pI 0,pI 0,pI 0,pI 0,pNil,pNil,p16 0,p16 0])] 4 ⟨rfl,rfl,rfl,trivial⟩ rfl rfl (r_end (q_then (w_seq ?_)))
 have hfn := fns_has he1
 have h70 := tNext_lt L (tStep L a 12) (n := 70) (by decide)
 refine w_R (qm hnt rfl rfl (qo hnt rfl (s_callX (r2 := pI (tNext L (tStep L a 12) 70)) (nx1 := 4) (H2 := [(3,.obj [pI e1,pI 0,pI 0,pI 0,pI 0,pNil,pNil,p16 0,p16 0]),(0,.obj [pS 1 false encI L,pN (tStep L a 12)]),(2,oB true 1 encI fnsL),(1,.obj [pI 0,pI 0,pI 0,pI 0,pI 0,pNil,pNil,p16 0,p16 0])]) (H3 := [(0,.obj [pS 1 false encI L,pN (tStep L (tStep L a 12) 70)]),(3,.obj [pI e1,pI 0,pI 0,pI 0,pI 0,pNil,pNil,p16 0,p16 0]),(2,oB true 1 encI fnsL),(1,.obj [pI 0,pI 0,pI 0,pI 0,pI 0,pNil,pNil,p16 0,p16 0])]) [0] [.obj [pS 1 false encI L,pN (tStep L a 12)]] rfl rfl rfl (handed_of (by decide) ⟨rfl,trivial⟩) rfl rfl rfl rfl rfl rfl (w_burgagekeep_Tape_Next L false (tStep L a 12) 70 (by omega) (by omega)) rfl (dist_of rfl) rfl rfl rfl rfl ?_)))
 refine qa hnt rfl rfl (r_set [(0,PV.ptr 0 0),(2,PV.ptr 1 0),(3,PV.ptr 3 0),(4,pI (tNext L (tStep L a 12) 70))] [(0,.obj [pS 1 false encI L,pN (tStep L (tStep L a 12) 70)]),(3,.obj [pI e1,pI 0,pI 0,pI 0,pI 0,pNil,pNil,p16 0,p16 0]),(2,oB true 1 encI fnsL),(1,.obj [pI 0,pI 0,pI 0,pI 0,pI 0,pNil,pNil,p16 0,p16 0])] 4 ⟨rfl,rfl,rfl,rfl,trivial⟩ rfl rfl (r_end (q_then (w_seq (w_seq ?_)))))
 refine w_R (qo hnt rfl (s_fa_ptr tab_46 rfl rfl tab_3 (by decide) rfl ?_))
 refine qo hnt rfl (s_load_ptr1 tab_3 rfl rfl rfl rfl rfl ?_)
 refine r_end (q_then (w_block (join1 (fun (bb1 : Bool) => bb1 = ((decide (e1 = 1)) || ((decide (e1 = 2)) || ((decide (e1 = 3)) || (decide (e1 = 4)))))) (fun (bb1 : Bool) => [(0,PV.ptr 0 0),(2,PV.ptr 1 0),(3,PV.ptr 2 0),(4,pI (tNext L (tStep L a 12) 70)),(17,pI e1),(18,pB bb1)]) 3 (fun (bb1 : Bool) => [(0,.obj [pS 1 false encI L,pN (tStep L (tStep L a 12) 70)]),(1,.obj [pI 0,pI 0,pI 0,pI 0,pI 0,pNil,pNil,p16 0,p16 0]),(2,.obj [pI e1,pI 0,pI 0,pI 0,pI 0,pNil,pNil,p16 0,p16 0])]) ?_ ?_)))
 ·refine w_seq (w_R (qo hnt rfl (s_eql rfl rfl ?_)))
  refine qa hnt rfl rfl (r_end (q_then (w_if rfl (fun c1 => ?_) (fun c1 => ?_))))
  ·have c1_ := c1
   try simp only [sB] at c1
   refine w_skip (q_then (⟨(decide (e1 = 1)), ?_,⟨[(0,0),(1,1),(2,3)],by rw [hk]; decide,⟨⟨_,rfl,rfl,rfl⟩,⟨_,rfl,rfl,rfl⟩,⟨_,rfl,rfl,rfl⟩,⟨_,rfl,rfl,rfl⟩,⟨_,rfl,rfl,rfl⟩,⟨_,rfl,rfl,rfl⟩,trivial⟩,⟨⟨_,_,rfl,rfl,rfl,rfl⟩,⟨_,_,rfl,rfl,rfl,rfl⟩,⟨_,_,rfl,rfl,rfl,rfl⟩,trivial⟩,by rw [hk]; decide⟩⟩))
   simp only [c1_,Bool.true_or,Bool.false_or]
  have c1_ := c1
  try simp only [sB] at c1
  refine w_seq (w_R (qo hnt rfl (s_eql rfl rfl ?_)))
  refine qa hnt rfl rfl (r_end (q_then (w_if rfl (fun c2 => ?_) (fun c2 => ?_))))
  ·have c2_ := c2
   try simp only [sB] at c2
   refine w_skip (q_then (⟨(decide (e1 = 2)), ?_,⟨[(0,0),(1,1),(2,3)],by rw [hk]; decide,⟨⟨_,rfl,rfl,rfl⟩,⟨_,rfl,rfl,rfl⟩,⟨_,rfl,rfl,rfl⟩,⟨_,rfl,rfl,rfl⟩,⟨_,rfl,rfl,rfl⟩,⟨_,rfl,rfl,rfl⟩,trivial⟩,⟨⟨_,_,rfl,rfl,rfl,rfl⟩,⟨_,_,rfl,rfl,rfl,rfl⟩,⟨_,_,rfl,rfl,rfl,rfl⟩,trivial⟩,by rw [hk]; decide⟩⟩))
   simp only [c1_,c2_,Bool.true_or,Bool.false_or]
  have c2_ := c2
  try simp only [sB] at c2
  refine w_seq (w_R (qo hnt rfl (s_eql rfl rfl ?_)))
  refine qa hnt rfl rfl (r_end (q_then (w_if rfl (fun c3 => ?_) (fun c3 => ?_))))
  ·have c3_ := c3
   try simp only [sB] at c3
   refine w_skip (q_then (⟨(decide (e1 = 3)), ?_,⟨[(0,0),(1,1),(2,3)],by rw [hk]; decide,⟨⟨_,rfl,rfl,rfl⟩,⟨_,rfl,rfl,rfl⟩,⟨_,rfl,rfl,rfl⟩,⟨_,rfl,rfl,rfl⟩,⟨_,rfl,rfl,rfl⟩,⟨_,rfl,rfl,rfl⟩,trivial⟩,⟨⟨_,_,rfl,rfl,rfl,rfl⟩,⟨_,_,rfl,rfl,rfl,rfl⟩,⟨_,_,rfl,rfl,rfl,rfl⟩,trivial⟩,by rw [hk]; decide⟩⟩))
   simp only [c1_,c2_,c3_,Bool.true_or,Bool.false_or]
  have c3_ := c3
  try simp only [sB] at c3
  refine w_R (qo hnt rfl (s_eql rfl rfl ?_))
  refine qa hnt rfl rfl (r_end (q_then (⟨(decide (e1 = 4)), ?_,⟨[(0,0),(1,1),(2,3)],by rw [hk]; decide,⟨⟨_,rfl,rfl,rfl⟩,⟨_,rfl,rfl,rfl⟩,⟨_,rfl,rfl,rfl⟩,⟨_,rfl,rfl,rfl⟩,⟨_,rfl,rfl,rfl⟩,⟨_,rfl,rfl,rfl⟩,trivial⟩,⟨⟨_,_,rfl,rfl,rfl,rfl⟩,⟨_,_,rfl,rfl,rfl,rfl⟩,⟨_,_,rfl,rfl,rfl,rfl⟩,trivial⟩,by rw [hk]; decide⟩⟩)))
  simp only [c1_,c2_,c3_,Bool.true_or,Bool.false_or]
 intro bb1 hbb1
 subst hbb1
 refine w_if rfl (fun c4 => ?_) (fun c4 => ?_)
 ·try simp only [sB,Bool.or_eq_true,Bool.or_eq_false_iff] at c4
  have h26 := tNext_lt L (tStep L (tStep L a 12) 70) (n := 26) (by decide)
  refine w_R (qm hnt rfl rfl (qm hnt rfl rfl (qo hnt rfl (s_callX (r2 := pI (tNext L (tStep L (tStep L a 12) 70) 26)) (nx1 := 3) (H2 := [(0,.obj [pS 1 false encI L,pN (tStep L (tStep L a 12) 70)]),(1,.obj [pI 0,pI 0,pI 0,pI 0,pI 0,pNil,pNil,p16 0,p16 0]),(2,.obj [pI e1,pI 0,pI 0,pI 0,pI 0,pNil,pNil,p16 0,p16 0])]) (H3 := [(0,.obj [pS 1 false encI L,pN (tStep L (tStep L (tStep L a 12) 70) 26)]),(1,.obj [pI 0,pI 0,pI 0,pI 0,pI 0,pNil,pNil,p16 0,p16 0]),(2,.obj [pI e1,pI 0,pI 0,pI 0,pI 0,pNil,pNil,p16 0,p16 0])]) [0] [.obj [pS 1 false encI L,pN (tStep L (tStep L a 12) 70)]] rfl rfl rfl (handed_of (by decide) ⟨rfl,trivial⟩) rfl rfl rfl rfl rfl rfl (w_burgagekeep_Tape_Next L false (tStep L (tStep L a 12) 70) 26 (by omega) (by omega)) rfl (dist_of rfl) rfl rfl rfl rfl ?_))))
  refine qo hnt rfl (s_fa_ptr tab_46 rfl rfl tab_3 (by decide) rfl ?_)
  refine qo hnt rfl (s_store_ptr tab_3 rfl rfl rfl rfl rfl (Nat.le_of_ble_eq_true rfl) ?_)
  refine qo hnt rfl (s_fa_ptr tab_46 rfl rfl tab_3 (by decide) rfl ?_)
  refine qo hnt rfl (s_store_ptr tab_3 rfl rfl rfl rfl rfl (Nat.le_of_ble_eq_true rfl) ?_)
  refine r_set [(2,PV.ptr 1 0),(3,PV.ptr 2 0)] [(2,.obj [pI e1,pI (tNext L (tStep L a 12) 70),pI (tNext L (tStep L (tStep L a 12) 70) 26),pI 0,pI 0,pNil,pNil,p16 0,p16 0]),(0,.obj [pS 1 false encI L,pN (tStep L (tStep L (tStep L a 12) 70) 26)]),(1,.obj [pI 0,pI 0,pI 0,pI 0,pI 0,pNil,pNil,p16 0,p16 0])] 3 ⟨rfl,rfl,trivial⟩ rfl rfl (r_end (q_block (q_then (w_seq (w_R ?_)))))
  refine qo hnt rfl (s_load_ptr tab_46 rfl rfl rfl (Nat.le_of_ble_eq_true rfl) ?_)
  refine qo hnt rfl (s_store_ptr tab_46 rfl rfl rfl rfl rfl (Nat.le_of_ble_eq_true rfl) ?_)
  refine r_set [(2,PV.ptr 1 0)] [(1,.obj [pI e1,pI (tNext L (tStep L a 12) 70),pI (tNext L (tStep L (tStep L a 12) 70) 26),pI 0,pI 0,pNil,pNil,p16 0,p16 0]),(2,.obj [pI e1,pI (tNext L (tStep L a 12) 70),pI (tNext L (tStep L (tStep L a 12) 70) 26),pI 0,pI 0,pNil,pNil,p16 0,p16 0]),(0,.obj [pS 1 false encI L,pN (tStep L (tStep L (tStep L a 12) 70) 26)])] 3 ⟨rfl,trivial⟩ rfl rfl (r_end (q_then (w_leO (n := 1) (ds := [pI e1,pI (tNext L (tStep L a 12) 70),pI (tNext L (tStep L (tStep L a 12) 70) 26),pI 0,pI 0,pS 1 false encBo [],pS 1 false enc16 [],p16 0,p16 0]) rfl ⟨le_refl _,le_refl _,le_refl _,le_refl _,le_refl _,le_nilS 1 false,le_nilS 1 false,le_refl _,le_refl _,trivial⟩ (w_ret ?_))))
  have hex : rightR (⟨e1,tNext L (tStep L a 12) 70,tNext L (tStep L (tStep L a 12) 70) 26,0,0,[],[],0,0⟩ : TRequest) = 0 ∧ (⟨e1,tNext L (tStep L a 12) 70,tNext L (tStep L (tStep L a 12) 70) 26,0,0,[],[],0,0⟩ : TRequest).bits.length ≤ 25 ∧ (⟨e1,tNext L (tStep L a 12) 70,tNext L (tStep L (tStep L a 12) 70) 26,0,0,[],[],0,0⟩ : TRequest).vals.length ≤ 25 ∧ 0 ≤ (⟨e1,tNext L (tStep L a 12) 70,tNext L (tStep L (tStep L a 12) 70) 26,0,0,[],[],0,0⟩ : TRequest).count ∧ (⟨e1,tNext L (tStep L a 12) 70,tNext L (tStep L (tStep L a 12) 70) 26,0,0,[],[],0,0⟩ : TRequest).count ≤ 25 := by
    refine ⟨(shapeR_iff (q := _) hfn).2 ?_,by simp; try omega,by simp; try omega,by simp; try omega,by simp; try omega⟩
    constructor
    case bits => simp only; (rw [if_neg (by omega),if_neg (by omega)]; rfl)
    case vals => simp only; (rw [if_neg (by omega),if_neg (by omega),if_neg (by omega)]; rfl)
    all_goals first|(intro _; rfl)|(intro _; exact ⟨rfl,rfl⟩)|(simp only; omega)
  exact fin_names (nx1 := 1) (H1 := [(0,.obj [pS 1 false encI L,pN (tStep L (tStep L (tStep L a 12) 70) 26)])]) [(0,0)] (ret_cell tab_46 (by decide) rfl rfl (Nat.le_of_ble_eq_true rfl) rfl ret_nil) rfl (by decide) ⟨⟨_,_,rfl,rfl,rfl,rfl⟩,trivial⟩ (by decide) rfl ⟨((⟨e1,tNext L (tStep L a 12) 70,tNext L (tStep L (tStep L a 12) 70) 26,0,0,[],[],0,0⟩ : TRequest)),(tStep L (tStep L (tStep L a 12) 70) 26),hex,rfl,rfl,rfl⟩
 try simp only [sB,Bool.or_eq_true,Bool.or_eq_false_iff] at c4
 refine w_seq (w_R (qo hnt rfl (s_eql rfl rfl ?_)))
 refine qa hnt rfl rfl (r_end (q_then (w_if rfl (fun c5 => ?_) (fun c5 => ?_))))
 ·try simp only [sB] at c5
  refine w_R (qm hnt rfl rfl (qm hnt rfl rfl (qo hnt rfl (s_callX (r2 := pI (tNext L (tStep L (tStep L a 12) 70) 2)) (nx1 := 3) (H2 := [(0,.obj [pS 1 false encI L,pN (tStep L (tStep L a 12) 70)]),(1,.obj [pI 0,pI 0,pI 0,pI 0,pI 0,pNil,pNil,p16 0,p16 0]),(2,.obj [pI e1,pI 0,pI 0,pI 0,pI 0,pNil,pNil,p16 0,p16 0])]) (H3 := [(0,.obj [pS 1 false encI L,pN (tStep L (tStep L (tStep L a 12) 70) 2)]),(1,.obj [pI 0,pI 0,pI 0,pI 0,pI 0,pNil,pNil,p16 0,p16 0]),(2,.obj [pI e1,pI 0,pI 0,pI 0,pI 0,pNil,pNil,p16 0,p16 0])]) [0] [.obj [pS 1 false encI L,pN (tStep L (tStep L a 12) 70)]] rfl rfl rfl (handed_of (by decide) ⟨rfl,trivial⟩) rfl rfl rfl rfl rfl rfl (w_burgagekeep_Tape_Next L false (tStep L (tStep L a 12) 70) 2 (by omega) (by omega)) rfl (dist_of rfl) rfl rfl rfl rfl ?_))))
  refine qo hnt rfl (s_eql rfl rfl ?_)
  refine qo hnt rfl (s_mkM (f := encBo) [decide (tNext L (tStep L (tStep L a 12) 70) 2 = 1)] tab_42 rfl tab_4 ⟨rfl,by decide⟩ (by decide) rfl rfl rfl rfl ?_)
  refine qo hnt rfl (s_fa_ptr tab_46 rfl rfl tab_3 (by decide) rfl ?_)
  refine qo hnt rfl (s_store_ptr tab_3 rfl rfl rfl rfl rfl (Nat.le_of_ble_eq_true rfl) ?_)
  refine qo hnt rfl (s_fa_ptr tab_46 rfl rfl tab_42 (by decide) rfl ?_)
  refine qo hnt rfl (s_store_ptr tab_42 rfl rfl rfl rfl rfl (Nat.le_of_ble_eq_true rfl) ?_)
  refine r_set [(2,PV.ptr 1 0),(3,PV.ptr 2 0)] [(2,.obj [pI e1,pI (tNext L (tStep L a 12) 70),pI 0,pI 0,pI 0,PV.ref 3 0 none,pNil,p16 0,p16 0]),(3,oB true 1 encBo [decide (tNext L (tStep L (tStep L a 12) 70) 2 = 1)]),(0,.obj [pS 1 false encI L,pN (tStep L (tStep L (tStep L a 12) 70) 2)]),(1,.obj [pI 0,pI 0,pI 0,pI 0,pI 0,pNil,pNil,p16 0,p16 0])] 4 ⟨rfl,rfl,trivial⟩ rfl rfl (r_end (q_block (q_then (w_seq (w_R ?_)))))
  refine qo hnt rfl (s_load_ptr tab_46 rfl rfl rfl (Nat.le_of_ble_eq_true rfl) ?_)
  refine qo hnt rfl (s_store_ptr tab_46 rfl rfl rfl rfl rfl (Nat.le_of_ble_eq_true rfl) ?_)
  refine r_set [(2,PV.ptr 1 0)] [(1,.obj [pI e1,pI (tNext L (tStep L a 12) 70),pI 0,pI 0,pI 0,PV.ref 3 0 none,pNil,p16 0,p16 0]),(2,.obj [pI e1,pI (tNext L (tStep L a 12) 70),pI 0,pI 0,pI 0,PV.ref 3 0 none,pNil,p16 0,p16 0]),(3,oB true 1 encBo [decide (tNext L (tStep L (tStep L a 12) 70) 2 = 1)]),(0,.obj [pS 1 false encI L,pN (tStep L (tStep L (tStep L a 12) 70) 2)])] 4 ⟨rfl,trivial⟩ rfl rfl (r_end (q_then (w_frzC (n := 1) (j := 5) rfl rfl rfl rfl (w_leO (n := 1) (ds := [pI e1,pI (tNext L (tStep L a 12) 70),pI 0,pI 0,pI 0,pS 1 false encBo [decide (tNext L (tStep L (tStep L a 12) 70) 2 = 1)],pS 1 false enc16 [],p16 0,p16 0]) rfl ⟨le_refl _,le_refl _,le_refl _,le_refl _,le_refl _,le_refl _,le_nilS 1 false,le_refl _,le_refl _,trivial⟩ (w_ret ?_)))))
  have hex : rightR (⟨e1,tNext L (tStep L a 12) 70,0,0,0,[decide (tNext L (tStep L (tStep L a 12) 70) 2 = 1)],[],0,0⟩ : TRequest) = 0 ∧ (⟨e1,tNext L (tStep L a 12) 70,0,0,0,[decide (tNext L (tStep L (tStep L a 12) 70) 2 = 1)],[],0,0⟩ : TRequest).bits.length ≤ 25 ∧ (⟨e1,tNext L (tStep L a 12) 70,0,0,0,[decide (tNext L (tStep L (tStep L a 12) 70) 2 = 1)],[],0,0⟩ : TRequest).vals.length ≤ 25 ∧ 0 ≤ (⟨e1,tNext L (tStep L a 12) 70,0,0,0,[decide (tNext L (tStep L (tStep L a 12) 70) 2 = 1)],[],0,0⟩ : TRequest).count ∧ (⟨e1,tNext L (tStep L a 12) 70,0,0,0,[decide (tNext L (tStep L (tStep L a 12) 70) 2 = 1)],[],0,0⟩ : TRequest).count ≤ 25 := by
    refine ⟨(shapeR_iff (q := _) hfn).2 ?_,by simp; try omega,by simp; try omega,by simp; try omega,by simp; try omega⟩
    constructor
    case bits => simp only; (rw [if_pos (by omega)]; rfl)
    case vals => simp only; (rw [if_neg (by omega),if_neg (by omega),if_neg (by omega)]; rfl)
    all_goals first|(intro _; rfl)|(intro _; exact ⟨rfl,rfl⟩)|(simp only; omega)
  exact fin_names (nx1 := 1) (H1 := [(0,.obj [pS 1 false encI L,pN (tStep L (tStep L (tStep L a 12) 70) 2)])]) [(0,0)] (ret_cell tab_46 (by decide) rfl rfl (Nat.le_of_ble_eq_true rfl) rfl ret_nil) rfl (by decide) ⟨⟨_,_,rfl,rfl,rfl,rfl⟩,trivial⟩ (by decide) rfl ⟨((⟨e1,tNext L (tStep L a 12) 70,0,0,0,[decide (tNext L (tStep L (tStep L a 12) 70) 2 = 1)],[],0,0⟩ : TRequest)),(tStep L (tStep L (tStep L a 12) 70) 2),hex,rfl,rfl,rfl⟩
 try simp only [sB] at c5
 refine w_seq (w_R (qo hnt rfl (s_eql rfl rfl ?_)))
 refine qa hnt rfl rfl (r_end (q_then (w_if rfl (fun c6 => ?_) (fun c6 => ?_))))
 ·try simp only [sB] at c6
  refine w_R (qm hnt rfl rfl (qm hnt rfl rfl (qo hnt rfl (s_callX (r2 := pI (tNext L (tStep L (tStep L a 12) 70) 65536)) (nx1 := 3) (H2 := [(0,.obj [pS 1 false encI L,pN (tStep L (tStep L a 12) 70)]),(1,.obj [pI 0,pI 0,pI 0,pI 0,pI 0,pNil,pNil,p16 0,p16 0]),(2,.obj [pI e1,pI 0,pI 0,pI 0,pI 0,pNil,pNil,p16 0,p16 0])]) (H3 := [(0,.obj [pS 1 false encI L,pN (tStep L (tStep L (tStep L a 12) 70) 65536)]),(1,.obj [pI 0,pI 0,pI 0,pI 0,pI 0,pNil,pNil,p16 0,p16 0]),(2,.obj [pI e1,pI 0,pI 0,pI 0,pI 0,pNil,pNil,p16 0,p16 0])]) [0] [.obj [pS 1 false encI L,pN (tStep L (tStep L a 12) 70)]] rfl rfl rfl (handed_of (by decide) ⟨rfl,trivial⟩) rfl rfl rfl rfl rfl rfl (w_burgagekeep_Tape_Next L false (tStep L (tStep L a 12) 70) 65536 (by omega) (by omega)) rfl (dist_of rfl) rfl rfl rfl rfl ?_))))
  refine qo hnt rfl (s_cv16 tab_3 tab_44 rfl rfl rfl ?_)
  refine qo hnt rfl (s_mkM (f := enc16) [u16I (tNext L (tStep L (tStep L a 12) 70) 65536)] tab_43 rfl tab_44 ⟨rfl,by decide⟩ (by decide) rfl rfl rfl rfl ?_)
  refine qo hnt rfl (s_fa_ptr tab_46 rfl rfl tab_3 (by decide) rfl ?_)
  refine qo hnt rfl (s_store_ptr tab_3 rfl rfl rfl rfl rfl (Nat.le_of_ble_eq_true rfl) ?_)
  refine qo hnt rfl (s_fa_ptr tab_46 rfl rfl tab_43 (by decide) rfl ?_)
  refine qo hnt rfl (s_store_ptr tab_43 rfl rfl rfl rfl rfl (Nat.le_of_ble_eq_true rfl) ?_)
  refine r_set [(2,PV.ptr 1 0),(3,PV.ptr 2 0)] [(2,.obj [pI e1,pI (tNext L (tStep L a 12) 70),pI 0,pI 0,pI 0,pNil,PV.ref 3 0 none,p16 0,p16 0]),(3,oB true 1 enc16 [u16I (tNext L (tStep L (tStep L a 12) 70) 65536)]),(0,.obj [pS 1 false encI L,pN (tStep L (tStep L (tStep L a 12) 70) 65536)]),(1,.obj [pI 0,pI 0,pI 0,pI 0,pI 0,pNil,pNil,p16 0,p16 0])] 4 ⟨rfl,rfl,trivial⟩ rfl rfl (r_end (q_block (q_then (w_seq (w_R ?_)))))
  refine qo hnt rfl (s_load_ptr tab_46 rfl rfl rfl (Nat.le_of_ble_eq_true rfl) ?_)
  refine qo hnt rfl (s_store_ptr tab_46 rfl rfl rfl rfl rfl (Nat.le_of_ble_eq_true rfl) ?_)
  refine r_set [(2,PV.ptr 1 0)] [(1,.obj [pI e1,pI (tNext L (tStep L a 12) 70),pI 0,pI 0,pI 0,pNil,PV.ref 3 0 none,p16 0,p16 0]),(2,.obj [pI e1,pI (tNext L (tStep L a 12) 70),pI 0,pI 0,pI 0,pNil,PV.ref 3 0 none,p16 0,p16 0]),(3,oB true 1 enc16 [u16I (tNext L (tStep L (tStep L a 12) 70) 65536)]),(0,.obj [pS 1 false encI L,pN (tStep L (tStep L (tStep L a 12) 70) 65536)])] 4 ⟨rfl,trivial⟩ rfl rfl (r_end (q_then (w_frzC (n := 1) (j := 6) rfl rfl rfl rfl (w_leO (n := 1) (ds := [pI e1,pI (tNext L (tStep L a 12) 70),pI 0,pI 0,pI 0,pS 1 false encBo [],pS 1 false enc16 [u16I (tNext L (tStep L (tStep L a 12) 70) 65536)],p16 0,p16 0]) rfl ⟨le_refl _,le_refl _,le_refl _,le_refl _,le_refl _,le_nilS 1 false,le_refl _,le_refl _,le_refl _,trivial⟩ (w_ret ?_)))))
  have hex : rightR (⟨e1,tNext L (tStep L a 12) 70,0,0,0,[],[u16I (tNext L (tStep L (tStep L a 12) 70) 65536)],0,0⟩ : TRequest) = 0 ∧ (⟨e1,tNext L (tStep L a 12) 70,0,0,0,[],[u16I (tNext L (tStep L (tStep L a 12) 70) 65536)],0,0⟩ : TRequest).bits.length ≤ 25 ∧ (⟨e1,tNext L (tStep L a 12) 70,0,0,0,[],[u16I (tNext L (tStep L (tStep L a 12) 70) 65536)],0,0⟩ : TRequest).vals.length ≤ 25 ∧ 0 ≤ (⟨e1,tNext L (tStep L a 12) 70,0,0,0,[],[u16I (tNext L (tStep L (tStep L a 12) 70) 65536)],0,0⟩ : TRequest).count ∧ (⟨e1,tNext L (tStep L a 12) 70,0,0,0,[],[u16I (tNext L (tStep L (tStep L a 12) 70) 65536)],0,0⟩ : TRequest).count ≤ 25 := by
    refine ⟨(shapeR_iff (q := _) hfn).2 ?_,by simp; try omega,by simp; try omega,by simp; try omega,by simp; try omega⟩
    constructor
    case bits => simp only; (rw [if_neg (by omega),if_neg (by omega)]; rfl)
    case vals => simp only; (rw [if_pos (by omega)]; rfl)
    all_goals first|(intro _; rfl)|(intro _; exact ⟨rfl,rfl⟩)|(simp only; omega)
  exact fin_names (nx1 := 1) (H1 := [(0,.obj [pS 1 false encI L,pN (tStep L (tStep L (tStep L a 12) 70) 65536)])]) [(0,0)] (ret_cell tab_46 (by decide) rfl rfl (Nat.le_of_ble_eq_true rfl) rfl ret_nil) rfl (by decide) ⟨⟨_,_,rfl,rfl,rfl,rfl⟩,trivial⟩ (by decide) rfl ⟨((⟨e1,tNext L (tStep L a 12) 70,0,0,0,[],[u16I (tNext L (tStep L (tStep L a 12) 70) 65536)],0,0⟩ : TRequest)),(tStep L (tStep L (tStep L a 12) 70) 65536),hex,rfl,rfl,rfl⟩
 try simp only [sB] at c6
 refine w_seq (w_R (qo hnt rfl (s_eql rfl rfl ?_)))
 refine qa hnt rfl rfl (r_end (q_then (w_if rfl (fun c7 => ?_) (fun c7 => ?_))))
 ·try simp only [sB] at c7
  have h8 := tNext_lt L (tStep L (tStep L a 12) 70) (n := 8) (by decide)
  have h4 := tNext_lt L (tStep L (tStep L (tStep L a 12) 70) 8) (n := 4) (by decide)
  refine W_drawn tabOk mixed hnt [[],[],[1],[0,1,2],[0,1,2,3],[],[],[1,2,6],[1,2,5,6,7],[1,2,5,6,7,8],[1,2,5,6,7,8,9],[0,1,2,3,4],[0,1,2,3,4,6,7,11],(.range 13),(.range 14)] (by kernel_rfl) (d_op (xT [] [] [] [(3,oB true 1 encI ([0,10,11,12,13,14,2,300] : List Int))] [(0,.obj [pS 1 false encI L,pN (tStep L (tStep L a 12) 70)]),(1,.obj [pI 0,pI 0,pI 0,pI 0,pI 0,pNil,pNil,p16 0,p16 0]),(2,.obj [pI e1,pI 0,pI 0,pI 0,pI 0,pNil,pNil,p16 0,p16 0])] rfl rfl rfl rfl rfl (s_mkM (f := encI) ([0,10,11,12,13,14,2,300] : List Int) tab_24 rfl tab_3 ⟨rfl,by decide⟩ (by decide) rfl rfl rfl rfl ⟨rfl,rfl,rfl⟩) rfl rfl (d_op (x_run0 [(0,PV.ptr 0 0)] [] rfl rfl rfl rfl (s_move rfl ⟨rfl,rfl,rfl⟩) (d_op ?_)))))
  refine xT [(49,PV.ptr 0 0)] [1] [(0,.obj [pS 1 false encI L,pN (tStep L (tStep L a 12) 70)])] [(0,.obj [pS 1 false encI L,pN (tStep L (tStep L (tStep L a 12) 70) 8)])] [(3,oB true 1 encI ([0,10,11,12,13,14,2,300] : List Int)),(1,.obj [pI 0,pI 0,pI 0,pI 0,pI 0,pNil,pNil,p16 0,p16 0]),(2,.obj [pI e1,pI 0,pI 0,pI 0,pI 0,pNil,pNil,p16 0,p16 0])] rfl rfl rfl rfl rfl (s_callX (r2 := pI (tNext L (tStep L (tStep L a 12) 70) 8)) (nx1 := 4) (H2 := [(0,.obj [pS 1 false encI L,pN (tStep L (tStep L a 12) 70)])]) (H3 := [(0,.obj [pS 1 false encI L,pN (tStep L (tStep L (tStep L a 12) 70) 8)])]) [0] [.obj [pS 1 false encI L,pN (tStep L (tStep L a 12) 70)]] rfl rfl rfl (handed_of (by decide) ⟨rfl,trivial⟩) rfl rfl rfl rfl rfl rfl (w_burgagekeep_Tape_Next L false (tStep L (tStep L a 12) 70) 8 (by omega) (by omega)) rfl (dist_of rfl) rfl rfl rfl rfl ⟨rfl,rfl,rfl⟩) rfl rfl (d_op (xL [(48,PV.ref 3 0 none),(50,pI (tNext L (tStep L (tStep L a 12) 70) 8))] [0,1,2] [(3,oB true 1 encI ([0,10,11,12,13,14,2,300] : List Int))] rfl rfl rfl rfl rfl (s_iaR0 (q := Int.toNat (tNext L (tStep L (tStep L a 12) 70) 8)) (f := encI) (l := ([0,10,11,12,13,14,2,300] : List Int)) tab_24 rfl tab_3 rfl rfl (by omega) rfl rfl (by simp; omega) ⟨rfl,rfl,rfl⟩) ⟨rfl,trivial⟩ rfl (d_op ?_)))
  obtain ⟨e2,he2⟩ := get_of_lt ([0,10,11,12,13,14,2,300] : List Int) (i := Int.toNat (tNext L (tStep L (tStep L a 12) 70) 8)) (by simp; omega)
  refine xL [(51,PV.ep 3 (Int.toNat (tNext L (tStep L (tStep L a 12) 70) 8)) 0)] [0,1,2,3] [(3,oB true 1 encI ([0,10,11,12,13,14,2,300] : List Int))] rfl rfl rfl rfl rfl (s_ldM (b := e2) (f := encI) tab_3 rfl rfl rfl rfl he2 rfl ⟨rfl,rfl,rfl⟩) ⟨rfl,trivial⟩ rfl ?_
  have hm2 := List.mem_of_getElem? he2
  simp only [List.mem_cons,List.not_mem_nil,or_false] at hm2
  refine d_op (xT [] [] [] [(4,oB true 1 enc16 ([0,0,0,777] : List UInt16))] [(0,.obj [pS 1 false encI L,pN (tStep L (tStep L (tStep L a 12) 70) 8)]),(3,oB true 1 encI ([0,10,11,12,13,14,2,300] : List Int)),(1,.obj [pI 0,pI 0,pI 0,pI 0,pI 0,pNil,pNil,p16 0,p16 0]),(2,.obj [pI e1,pI 0,pI 0,pI 0,pI 0,pNil,pNil,p16 0,p16 0])] rfl rfl rfl rfl rfl (s_mkM (f := enc16) ([0,0,0,777] : List UInt16) tab_43 rfl tab_44 ⟨rfl,by decide⟩ (by decide) rfl rfl rfl rfl ⟨rfl,rfl,rfl⟩) rfl rfl (d_op (x_run0 [(0,PV.ptr 0 0)] [] rfl rfl rfl rfl (s_move rfl ⟨rfl,rfl,rfl⟩) (d_op (xT [(54,PV.ptr 0 0)] [1,2,6] [(0,.obj [pS 1 false encI L,pN (tStep L (tStep L (tStep L a 12) 70) 8)])] [(0,.obj [pS 1 false encI L,pN (tStep L (tStep L (tStep L (tStep L a 12) 70) 8) 4)])] [(4,oB true 1 enc16 ([0,0,0,777] : List UInt16)),(3,oB true 1 encI ([0,10,11,12,13,14,2,300] : List Int)),(1,.obj [pI 0,pI 0,pI 0,pI 0,pI 0,pNil,pNil,p16 0,p16 0]),(2,.obj [pI e1,pI 0,pI 0,pI 0,pI 0,pNil,pNil,p16 0,p16 0])] rfl rfl rfl rfl rfl (s_callX (r2 := pI (tNext L (tStep L (tStep L (tStep L a 12) 70) 8) 4)) (nx1 := 5) (H2 := [(0,.obj [pS 1 false encI L,pN (tStep L (tStep L (tStep L a 12) 70) 8)])]) (H3 := [(0,.obj [pS 1 false encI L,pN (tStep L (tStep L (tStep L (tStep L a 12) 70) 8) 4)])]) [0] [.obj [pS 1 false encI L,pN (tStep L (tStep L (tStep L a 12) 70) 8)]] rfl rfl rfl (handed_of (by decide) ⟨rfl,trivial⟩) rfl rfl rfl rfl rfl rfl (w_burgagekeep_Tape_Next L false (tStep L (tStep L (tStep L a 12) 70) 8) 4 (by omega) (by omega)) rfl (dist_of rfl) rfl rfl rfl rfl ⟨rfl,rfl,rfl⟩) rfl rfl ?_)))))
  refine d_op (xL [(53,PV.ref 4 0 none),(55,pI (tNext L (tStep L (tStep L (tStep L a 12) 70) 8) 4))] [1,2,5,6,7] [(4,oB true 1 enc16 ([0,0,0,777] : List UInt16))] rfl rfl rfl rfl rfl (s_iaR0 (q := Int.toNat (tNext L (tStep L (tStep L (tStep L a 12) 70) 8) 4)) (f := enc16) (l := ([0,0,0,777] : List UInt16)) tab_43 rfl tab_44 rfl rfl (by omega) rfl rfl (by simp; omega) ⟨rfl,rfl,rfl⟩) ⟨rfl,trivial⟩ rfl (d_op ?_))
  obtain ⟨e3,he3⟩ := get_of_lt ([0,0,0,777] : List UInt16) (i := Int.toNat (tNext L (tStep L (tStep L (tStep L a 12) 70) 8) 4)) (by simp; omega)
  refine xL [(56,PV.ep 4 (Int.toNat (tNext L (tStep L (tStep L (tStep L a 12) 70) 8) 4)) 0)] [1,2,5,6,7,8] [(4,oB true 1 enc16 ([0,0,0,777] : List UInt16))] rfl rfl rfl rfl rfl (s_ldM (b := e3) (f := enc16) tab_44 rfl rfl rfl rfl he3 rfl ⟨rfl,rfl,rfl⟩) ⟨rfl,trivial⟩ rfl (d_op (xT [(57,p16 e3)] [1,2,5,6,7,8,9] [] [(5,oB true 1 enc16 [e3])] [(0,.obj [pS 1 false encI L,pN (tStep L (tStep L (tStep L (tStep L a 12) 70) 8) 4)]),(4,oB true 1 enc16 ([0,0,0,777] : List UInt16)),(3,oB true 1 encI ([0,10,11,12,13,14,2,300] : List Int)),(1,.obj [pI 0,pI 0,pI 0,pI 0,pI 0,pNil,pNil,p16 0,p16 0]),(2,.obj [pI e1,pI 0,pI 0,pI 0,pI 0,pNil,pNil,p16 0,p16 0])] rfl rfl rfl rfl rfl (s_mkM (f := enc16) [e3] tab_43 rfl tab_44 ⟨rfl,by decide⟩ (by decide) rfl rfl rfl rfl ⟨rfl,rfl,rfl⟩) rfl rfl (d_op (x_run0 [(3,PV.ptr 2 0)] [0,1,2,3,4] rfl rfl rfl rfl (s_fa_ptr tab_46 rfl rfl tab_3 (by decide) rfl ⟨rfl,rfl,rfl⟩) (d_op ?_)))))
  refine xT [(59,PV.ptr 2 4),(52,pI e2)] [0,1,2,3,4,6,7,11] [(2,.obj [pI e1,pI 0,pI 0,pI 0,pI 0,pNil,pNil,p16 0,p16 0])] [(2,.obj [pI e1,pI 0,pI 0,pI 0,pI e2,pNil,pNil,p16 0,p16 0])] [(5,oB true 1 enc16 [e3]),(0,.obj [pS 1 false encI L,pN (tStep L (tStep L (tStep L (tStep L a 12) 70) 8) 4)]),(4,oB true 1 enc16 ([0,0,0,777] : List UInt16)),(3,oB true 1 encI ([0,10,11,12,13,14,2,300] : List Int)),(1,.obj [pI 0,pI 0,pI 0,pI 0,pI 0,pNil,pNil,p16 0,p16 0])] rfl rfl rfl rfl rfl (s_store_ptr tab_3 rfl rfl rfl rfl rfl (Nat.le_of_ble_eq_true rfl) ⟨rfl,rfl,rfl⟩) rfl rfl (d_op (x_run0 [(3,PV.ptr 2 0)] (.range 13) rfl rfl rfl rfl (s_fa_ptr tab_46 rfl rfl tab_43 (by decide) rfl ⟨rfl,rfl,rfl⟩) (d_op (xT [(60,PV.ptr 2 6),(58,PV.ref 5 0 none)] (.range 14) [(2,.obj [pI e1,pI 0,pI 0,pI 0,pI e2,pNil,pNil,p16 0,p16 0])] [(2,.obj [pI e1,pI 0,pI 0,pI 0,pI e2,pNil,PV.ref 5 0 none,p16 0,p16 0])] [(5,oB true 1 enc16 [e3]),(0,.obj [pS 1 false encI L,pN (tStep L (tStep L (tStep L (tStep L a 12) 70) 8) 4)]),(4,oB true 1 enc16 ([0,0,0,777] : List UInt16)),(3,oB true 1 encI ([0,10,11,12,13,14,2,300] : List Int)),(1,.obj [pI 0,pI 0,pI 0,pI 0,pI 0,pNil,pNil,p16 0,p16 0])] rfl rfl rfl rfl rfl (s_store_ptr tab_43 rfl rfl rfl rfl rfl (Nat.le_of_ble_eq_true rfl) ⟨rfl,rfl,rfl⟩) rfl rfl (d_end ⟨by kernel_rfl, ?_⟩)))))
  refine q_block (q_then (w_seq (w_R (qo hnt rfl (s_load_ptr tab_46 rfl rfl rfl (Nat.le_of_ble_eq_true rfl) ?_)))))
  refine qo hnt rfl (s_store_ptr tab_46 rfl rfl rfl rfl rfl (Nat.le_of_ble_eq_true rfl) ?_)
  refine r_set [(2,PV.ptr 1 0)] [(1,.obj [pI e1,pI 0,pI 0,pI 0,pI e2,pNil,PV.ref 5 0 none,p16 0,p16 0]),(2,.obj [pI e1,pI 0,pI 0,pI 0,pI e2,pNil,PV.ref 5 0 none,p16 0,p16 0]),(5,oB true 1 enc16 [e3]),(0,.obj [pS 1 false encI L,pN (tStep L (tStep L (tStep L (tStep L a 12) 70) 8) 4)]),(4,oB true 1 enc16 ([0,0,0,777] : List UInt16)),(3,oB true 1 encI ([0,10,11,12,13,14,2,300] : List Int))] 6 ⟨rfl,trivial⟩ rfl rfl (r_end (q_then (w_frzC (n := 1) (j := 6) rfl rfl rfl rfl (w_leO (n := 1) (ds := [pI e1,pI 0,pI 0,pI 0,pI e2,pS 1 false encBo [],pS 1 false enc16 [e3],p16 0,p16 0]) rfl ⟨le_refl _,le_refl _,le_refl _,le_refl _,le_refl _,le_nilS 1 false,le_refl _,le_refl _,le_refl _,trivial⟩ (w_ret ?_)))))
  have hex : rightR (⟨e1,0,0,0,e2,[],[e3],0,0⟩ : TRequest) = 0 ∧ (⟨e1,0,0,0,e2,[],[e3],0,0⟩ : TRequest).bits.length ≤ 25 ∧ (⟨e1,0,0,0,e2,[],[e3],0,0⟩ : TRequest).vals.length ≤ 25 ∧ 0 ≤ (⟨e1,0,0,0,e2,[],[e3],0,0⟩ : TRequest).count ∧ (⟨e1,0,0,0,e2,[],[e3],0,0⟩ : TRequest).count ≤ 25 := by
    refine ⟨(shapeR_iff (q := _) hfn).2 ?_,by simp; try omega,by simp; try omega,by simp; try omega,by simp; try omega⟩
    constructor
    case bits => simp only; (rw [if_neg (by omega),if_neg (by omega)]; rfl)
    case vals => simp only; (rw [if_pos (by omega)]; rfl)
    all_goals first|(intro _; rfl)|(intro _; exact ⟨rfl,rfl⟩)|(simp only; omega)
  exact fin_names (nx1 := 1) (H1 := [(0,.obj [pS 1 false encI L,pN (tStep L (tStep L (tStep L (tStep L a 12) 70) 8) 4)])]) [(0,0)] (ret_cell tab_46 (by decide) rfl rfl (Nat.le_of_ble_eq_true rfl) rfl ret_nil) rfl (by decide) ⟨⟨_,_,rfl,rfl,rfl,rfl⟩,trivial⟩ (by decide) rfl ⟨((⟨e1,0,0,0,e2,[],[e3],0,0⟩ : TRequest)),(tStep L (tStep L (tStep L (tStep L a 12) 70) 8) 4),hex,rfl,rfl,rfl⟩
 try simp only [sB] at c7
 refine w_seq (w_R (qo hnt rfl (s_eql rfl rfl ?_)))
 refine qa hnt rfl rfl (r_end (q_then (w_if rfl (fun c8 => ?_) (fun c8 => ?_))))
 ·try simp only [sB] at c8
  refine w_seq ?_
  have h26 := tNext_lt L (tStep L (tStep L a 12) 70) (n := 26) (by decide)
  refine w_R (qm hnt rfl rfl (qm hnt rfl rfl (qo hnt rfl (s_callX (r2 := pI (tNext L (tStep L (tStep L a 12) 70) 26)) (nx1 := 3) (H2 := [(0,.obj [pS 1 false encI L,pN (tStep L (tStep L a 12) 70)]),(1,.obj [pI 0,pI 0,pI 0,pI 0,pI 0,pNil,pNil,p16 0,p16 0]),(2,.obj [pI e1,pI 0,pI 0,pI 0,pI 0,pNil,pNil,p16 0,p16 0])]) (H3 := [(0,.obj [pS 1 false encI L,pN (tStep L (tStep L (tStep L a 12) 70) 26)]),(1,.obj [pI 0,pI 0,pI 0,pI 0,pI 0,pNil,pNil,p16 0,p16 0]),(2,.obj [pI e1,pI 0,pI 0,pI 0,pI 0,pNil,pNil,p16 0,p16 0])]) [0] [.obj [pS 1 false encI L,pN (tStep L (tStep L a 12) 70)]] rfl rfl rfl (handed_of (by decide) ⟨rfl,trivial⟩) rfl rfl rfl rfl rfl rfl (w_burgagekeep_Tape_Next L false (tStep L (tStep L a 12) 70) 26 (by omega) (by omega)) rfl (dist_of rfl) rfl rfl rfl rfl ?_))))
  refine qo hnt rfl (s_fa_ptr tab_46 rfl rfl tab_3 (by decide) rfl ?_)
  refine qo hnt rfl (s_store_ptr tab_3 rfl rfl rfl rfl rfl (Nat.le_of_ble_eq_true rfl) ?_)
  refine qo hnt rfl (s_fa_ptr tab_46 rfl rfl tab_3 (by decide) rfl ?_)
  refine qo hnt rfl (s_store_ptr tab_3 rfl rfl rfl rfl rfl (Nat.le_of_ble_eq_true rfl) ?_)
  refine r_set [(0,PV.ptr 0 0),(2,PV.ptr 1 0),(3,PV.ptr 2 0)] [(2,.obj [pI e1,pI (tNext L (tStep L a 12) 70),pI (tNext L (tStep L (tStep L a 12) 70) 26),pI 0,pI 0,pNil,pNil,p16 0,p16 0]),(0,.obj [pS 1 false encI L,pN (tStep L (tStep L (tStep L a 12) 70) 26)]),(1,.obj [pI 0,pI 0,pI 0,pI 0,pI 0,pNil,pNil,p16 0,p16 0])] 3 ⟨rfl,rfl,rfl,trivial⟩ rfl rfl (r_end (q_then (w_seq (w_R (qa hnt rfl rfl ?_)))))
  refine r_end (q_then (w_block (w_adoptC (n := 2) (j := 5) (sz := 1) rfl rfl rfl (loop3 (fun (ap : Nat) (os : List Bool) (i : Nat) => (i : Int) ≤ tNext L (tStep L (tStep L a 12) 70) 26 ∧ os.length = i) (fun (ap : Nat) (os : List Bool) (i : Nat) => [(0,PV.ptr 0 0),(2,PV.ptr 3 0),(3,PV.ptr 1 0),(5,pN i)]) 4 (fun (ap : Nat) (os : List Bool) (i : Nat) => [(0,.obj [pS 1 false encI L,pN ap]),(1,.obj [pI e1,pI (tNext L (tStep L a 12) 70),pI (tNext L (tStep L (tStep L a 12) 70) 26),pI 0,pI 0,PV.ref 2 0 none,pNil,p16 0,p16 0]),(2,oB true 1 encBo os),(3,.obj [pI 0,pI 0,pI 0,pI 0,pI 0,pNil,pNil,p16 0,p16 0])]) (fun (ap : Nat) (os : List Bool) (i : Nat) => (tNext L (tStep L (tStep L a 12) 70) 26).toNat - i) (tStep L (tStep L (tStep L a 12) 70) 26) (([] : List Bool)) (0) ?_ ⟨[(0,0),(1,2),(2,3),(3,1)],by rw [hk]; decide,⟨⟨_,rfl,rfl,rfl⟩,⟨_,rfl,rfl,rfl⟩,⟨_,rfl,rfl,rfl⟩,⟨_,rfl,rfl,rfl⟩,trivial⟩,⟨⟨_,_,rfl,rfl,rfl,rfl⟩,⟨_,_,rfl,rfl,rfl,rfl⟩,⟨_,_,rfl,rfl,rfl,rfl⟩,⟨_,_,rfl,rfl,rfl,rfl⟩,trivial⟩,by rw [hk]; decide⟩ ?_))))
  · exact ⟨by omega,rfl⟩
  ·intro ap os i hI
   obtain ⟨hi,hol⟩ := hI
   refine w_seq (w_seq (w_R (qm hnt rfl rfl (qo hnt rfl (s_fa_ptr tab_46 rfl rfl tab_3 (by decide) rfl ?_)))))
   refine qo hnt rfl (s_load_ptr1 tab_3 rfl rfl rfl rfl rfl ?_)
   refine qo hnt rfl (s_lss rfl rfl ?_)
   refine r_end (q_then (w_if rfl (fun c9 => ?_) (fun c9 => ?_)))
   ·try simp only [sB] at c9
    refine w_skip (q_then (w_seq (w_block (W_drawn tabOk mixed hnt [[],[0],[],[2],[2,3],[2,3,4],[0,1,2,3,4,5],[0,1,2,3,4,5,6],(.range 8)] (by kernel_rfl) (d_op ?_)))))
    refine x_run0 [(3,PV.ptr 1 0)] [] rfl rfl rfl rfl (s_fa_ptr tab_46 rfl rfl tab_42 (by decide) rfl ⟨rfl,rfl,rfl⟩) (d_op (xL [(74,PV.ptr 1 5)] [0] [(1,.obj [pI e1,pI (tNext L (tStep L a 12) 70),pI (tNext L (tStep L (tStep L a 12) 70) 26),pI 0,pI 0,PV.ref 2 0 none,pNil,p16 0,p16 0])] rfl rfl rfl rfl rfl (s_load_ptr1 tab_42 rfl rfl rfl rfl rfl ⟨rfl,rfl,rfl⟩) ⟨rfl,trivial⟩ rfl (d_op (x_run0 [(0,PV.ptr 0 0)] [] rfl rfl rfl rfl (s_move rfl ⟨rfl,rfl,rfl⟩) (d_op ?_)))))
    refine xT [(76,PV.ptr 0 0)] [2] [(0,.obj [pS 1 false encI L,pN ap])] [(0,.obj [pS 1 false encI L,pN (tStep L ap 2)])] [(1,.obj [pI e1,pI (tNext L (tStep L a 12) 70),pI (tNext L (tStep L (tStep L a 12) 70) 26),pI 0,pI 0,PV.ref 2 0 none,pNil,p16 0,p16 0]),(2,oB true 1 encBo os),(3,.obj [pI 0,pI 0,pI 0,pI 0,pI 0,pNil,pNil,p16 0,p16 0])] rfl rfl rfl rfl rfl (s_callX (r2 := pI (tNext L ap 2)) (nx1 := 4) (H2 := [(0,.obj [pS 1 false encI L,pN ap])]) (H3 := [(0,.obj [pS 1 false encI L,pN (tStep L ap 2)])]) [0] [.obj [pS 1 false encI L,pN ap]] rfl rfl rfl (handed_of (by decide) ⟨rfl,trivial⟩) rfl rfl rfl rfl rfl rfl (w_burgagekeep_Tape_Next L false ap 2 (by omega) (by omega)) rfl (dist_of rfl) rfl rfl rfl rfl ⟨rfl,rfl,rfl⟩) rfl rfl (d_op (x_run0 [(77,pI (tNext L ap 2))] [2,3] rfl rfl rfl rfl (s_eql rfl rfl ⟨rfl,rfl,rfl⟩) (d_op (xT [(78,pB (decide (tNext L ap 2 = 1)))] [2,3,4] [] [(4,oB true 1 encBo [decide (tNext L ap 2 = 1)])] [(0,.obj [pS 1 false encI L,pN (tStep L ap 2)]),(1,.obj [pI e1,pI (tNext L (tStep L a 12) 70),pI (tNext L (tStep L (tStep L a 12) 70) 26),pI 0,pI 0,PV.ref 2 0 none,pNil,p16 0,p16 0]),(2,oB true 1 encBo os),(3,.obj [pI 0,pI 0,pI 0,pI 0,pI 0,pNil,pNil,p16 0,p16 0])] rfl rfl rfl rfl rfl (s_mkM (f := encBo) [decide (tNext L ap 2 = 1)] tab_42 rfl tab_4 ⟨rfl,by decide⟩ (by decide) rfl rfl rfl rfl ⟨rfl,rfl,rfl⟩) rfl rfl (d_op ?_)))))
    refine x_run [(75,PV.ref 2 0 none),(79,PV.ref 4 0 none)] [0,1,2,3,4,5] [(4,oB true 1 encBo [decide (tNext L ap 2 = 1)])] [(2,oB true 1 encBo os)] [(5,oB true 1 encBo (os ++ [decide (tNext L ap 2 = 1)])),(4,oB true 1 encBo [decide (tNext L ap 2 = 1)])] [(5,oB true 1 encBo (os ++ [decide (tNext L ap 2 = 1)]))] [(5,oB true 1 encBo (os ++ [decide (tNext L ap 2 = 1)])),(4,oB true 1 encBo [decide (tNext L ap 2 = 1)]),(0,.obj [pS 1 false encI L,pN (tStep L ap 2)]),(1,.obj [pI e1,pI (tNext L (tStep L a 12) 70),pI (tNext L (tStep L (tStep L a 12) 70) 26),pI 0,pI 0,PV.ref 2 0 none,pNil,p16 0,p16 0]),(3,.obj [pI 0,pI 0,pI 0,pI 0,pI 0,pNil,pNil,p16 0,p16 0])] rfl rfl rfl rfl rfl rfl (s_appR0 (f := encBo) (l := os) (xs := [decide (tNext L ap 2 = 1)]) tab_42 rfl tab_4 ⟨rfl,by decide,by decide⟩ (srcM tab_42 rfl (hM_ref0 (f := encBo) rfl rfl)) rfl rfl (by (simp; omega)) ⟨rfl,rfl,rfl⟩) rfl ⟨rfl,trivial⟩ rfl rfl (d_op (x_run0 [(3,PV.ptr 1 0)] [0,1,2,3,4,5,6] rfl rfl rfl rfl (s_fa_ptr tab_46 rfl rfl tab_42 (by decide) rfl ⟨rfl,rfl,rfl⟩) (d_op (xT [(81,PV.ptr 1 5),(80,PV.ref 5 0 none)] (.range 8) [(1,.obj [pI e1,pI (tNext L (tStep L a 12) 70),pI (tNext L (tStep L (tStep L a 12) 70) 26),pI 0,pI 0,PV.ref 2 0 none,pNil,p16 0,p16 0])] [(1,.obj [pI e1,pI (tNext L (tStep L a 12) 70),pI (tNext L (tStep L (tStep L a 12) 70) 26),pI 0,pI 0,PV.ref 5 0 none,pNil,p16 0,p16 0])] [(5,oB true 1 encBo (os ++ [decide (tNext L ap 2 = 1)])),(4,oB true 1 encBo [decide (tNext L ap 2 = 1)]),(0,.obj [pS 1 false encI L,pN (tStep L ap 2)]),(3,.obj [pI 0,pI 0,pI 0,pI 0,pI 0,pNil,pNil,p16 0,p16 0])] rfl rfl rfl rfl rfl (s_store_ptr tab_42 rfl rfl rfl rfl rfl (Nat.le_of_ble_eq_true rfl) ⟨rfl,rfl,rfl⟩) rfl rfl (d_end ⟨by kernel_rfl, ?_⟩)))))
    refine q_block (q_then (w_R (qm hnt rfl rfl (qo hnt rfl (s_addN (a := i) (b := 1) rfl rfl (by omega) (by omega) (by omega) ?_)))))
    refine qa hnt rfl rfl (r_end (q_then (⟨(tStep L ap 2),(os ++ [decide (tNext L ap 2 = 1)]),(i + 1), ?_, ?_,⟨[(0,0),(1,1),(2,5),(3,3)],by rw [hk]; decide,⟨⟨_,rfl,rfl,rfl⟩,⟨_,rfl,rfl,rfl⟩,⟨_,rfl,rfl,rfl⟩,⟨_,rfl,rfl,rfl⟩,trivial⟩,⟨⟨_,_,rfl,rfl,rfl,rfl⟩,⟨_,_,rfl,rfl,rfl,rfl⟩,⟨_,_,rfl,rfl,rfl,rfl⟩,⟨_,_,rfl,rfl,rfl,rfl⟩,trivial⟩,by rw [hk]; decide⟩⟩)))
    ·exact ⟨by omega,by simp [hol]⟩
    · omega
   try simp only [sB] at c9
   refine w_exit (q_then_exit (q_then_exit (q_block_exit (q_block (q_then ?_)))))
   refine w_seq (w_R (qo hnt rfl (s_load_ptr tab_46 rfl rfl rfl (Nat.le_of_ble_eq_true rfl) ?_)))
   refine qo hnt rfl (s_store_ptr tab_46 rfl rfl rfl rfl rfl (Nat.le_of_ble_eq_true rfl) ?_)
   refine r_set [(2,PV.ptr 3 0)] [(3,.obj [pI e1,pI (tNext L (tStep L a 12) 70),pI (tNext L (tStep L (tStep L a 12) 70) 26),pI 0,pI 0,PV.ref 2 0 none,pNil,p16 0,p16 0]),(0,.obj [pS 1 false encI L,pN ap]),(1,.obj [pI e1,pI (tNext L (tStep L a 12) 70),pI (tNext L (tStep L (tStep L a 12) 70) 26),pI 0,pI 0,PV.ref 2 0 none,pNil,p16 0,p16 0]),(2,oB true 1 encBo os)] 4 ⟨rfl,trivial⟩ rfl rfl (r_end (q_then (w_frzC (n := 3) (j := 5) rfl rfl rfl rfl (w_leO (n := 3) (ds := [pI e1,pI (tNext L (tStep L a 12) 70),pI (tNext L (tStep L (tStep L a 12) 70) 26),pI 0,pI 0,pS 1 false encBo os,pS 1 false enc16 [],p16 0,p16 0]) rfl ⟨le_refl _,le_refl _,le_refl _,le_refl _,le_refl _,le_refl _,le_nilS 1 false,le_refl _,le_refl _,trivial⟩ (w_ret ?_)))))
   have hex : rightR (⟨e1,tNext L (tStep L a 12) 70,tNext L (tStep L (tStep L a 12) 70) 26,0,0,os,[],0,0⟩ : TRequest) = 0 ∧ (⟨e1,tNext L (tStep L a 12) 70,tNext L (tStep L (tStep L a 12) 70) 26,0,0,os,[],0,0⟩ : TRequest).bits.length ≤ 25 ∧ (⟨e1,tNext L (tStep L a 12) 70,tNext L (tStep L (tStep L a 12) 70) 26,0,0,os,[],0,0⟩ : TRequest).vals.length ≤ 25 ∧ 0 ≤ (⟨e1,tNext L (tStep L a 12) 70,tNext L (tStep L (tStep L a 12) 70) 26,0,0,os,[],0,0⟩ : TRequest).count ∧ (⟨e1,tNext L (tStep L a 12) 70,tNext L (tStep L (tStep L a 12) 70) 26,0,0,os,[],0,0⟩ : TRequest).count ≤ 25 := by
     refine ⟨(shapeR_iff (q := _) hfn).2 ?_,by simp; try omega,by simp; try omega,by simp; try omega,by simp; try omega⟩
     constructor
     case bits => simp only; (rw [if_neg (by omega),if_pos (by omega)]; exact ⟨by omega,by omega⟩)
     case vals => simp only; (rw [if_neg (by omega),if_neg (by omega),if_neg (by omega)]; rfl)
     all_goals first|(intro _; rfl)|(intro _; exact ⟨rfl,rfl⟩)|(simp only; omega)
   exact fin_names (nx1 := 1) (H1 := [(0,.obj [pS 1 false encI L,pN ap])]) [(0,0)] (ret_cell tab_46 (by decide) rfl rfl (Nat.le_of_ble_eq_true rfl) rfl ret_nil) rfl (by decide) ⟨⟨_,_,rfl,rfl,rfl,rfl⟩,trivial⟩ (by decide) rfl ⟨((⟨e1,tNext L (tStep L a 12) 70,tNext L (tStep L (tStep L a 12) 70) 26,0,0,os,[],0,0⟩ : TRequest)),(ap),hex,rfl,rfl,rfl⟩
 try simp only [sB] at c8
 refine w_seq (w_R (qo hnt rfl (s_eql rfl rfl ?_)))
 refine qa hnt rfl rfl (r_end (q_then (w_if rfl (fun c10 => ?_) (fun c10 => ?_))))
 ·try simp only [sB] at c10
  refine w_seq ?_
  have h26 := tNext_lt L (tStep L (tStep L a 12) 70) (n := 26) (by decide)
  refine w_R (qm hnt rfl rfl (qm hnt rfl rfl (qo hnt rfl (s_callX (r2 := pI (tNext L (tStep L (tStep L a 12) 70) 26)) (nx1 := 3) (H2 := [(0,.obj [pS 1 false encI L,pN (tStep L (tStep L a 12) 70)]),(1,.obj [pI 0,pI 0,pI 0,pI 0,pI 0,pNil,pNil,p16 0,p16 0]),(2,.obj [pI e1,pI 0,pI 0,pI 0,pI 0,pNil,pNil,p16 0,p16 0])]) (H3 := [(0,.obj [pS 1 false encI L,pN (tStep L (tStep L (tStep L a 12) 70) 26)]),(1,.obj [pI 0,pI 0,pI 0,pI 0,pI 0,pNil,pNil,p16 0,p16 0]),(2,.obj [pI e1,pI 0,pI 0,pI 0,pI 0,pNil,pNil,p16 0,p16 0])]) [0] [.obj [pS 1 false encI L,pN (tStep L (tStep L a 12) 70)]] rfl rfl rfl (handed_of (by decide) ⟨rfl,trivial⟩) rfl rfl rfl rfl rfl rfl (w_burgagekeep_Tape_Next L false (tStep L (tStep L a 12) 70) 26 (by omega) (by omega)) rfl (dist_of rfl) rfl rfl rfl rfl ?_))))
  refine qo hnt rfl (s_fa_ptr tab_46 rfl rfl tab_3 (by decide) rfl ?_)
  refine qo hnt rfl (s_store_ptr tab_3 rfl rfl rfl rfl rfl (Nat.le_of_ble_eq_true rfl) ?_)
  refine qo hnt rfl (s_fa_ptr tab_46 rfl rfl tab_3 (by decide) rfl ?_)
  refine qo hnt rfl (s_store_ptr tab_3 rfl rfl rfl rfl rfl (Nat.le_of_ble_eq_true rfl) ?_)
  refine r_set [(0,PV.ptr 0 0),(2,PV.ptr 1 0),(3,PV.ptr 2 0)] [(2,.obj [pI e1,pI (tNext L (tStep L a 12) 70),pI (tNext L (tStep L (tStep L a 12) 70) 26),pI 0,pI 0,pNil,pNil,p16 0,p16 0]),(0,.obj [pS 1 false encI L,pN (tStep L (tStep L (tStep L a 12) 70) 26)]),(1,.obj [pI 0,pI 0,pI 0,pI 0,pI 0,pNil,pNil,p16 0,p16 0])] 3 ⟨rfl,rfl,rfl,trivial⟩ rfl rfl (r_end (q_then (w_seq (w_R (qa hnt rfl rfl ?_)))))
  refine r_end (q_then (w_block (w_adoptC (n := 2) (j := 6) (sz := 1) rfl rfl rfl (loop3 (fun (ap : Nat) (os : List UInt16) (i : Nat) => (i : Int) ≤ tNext L (tStep L (tStep L a 12) 70) 26 ∧ os.length = i) (fun (ap : Nat) (os : List UInt16) (i : Nat) => [(0,PV.ptr 0 0),(2,PV.ptr 3 0),(3,PV.ptr 1 0),(6,pN i)]) 4 (fun (ap : Nat) (os : List UInt16) (i : Nat) => [(0,.obj [pS 1 false encI L,pN ap]),(1,.obj [pI e1,pI (tNext L (tStep L a 12) 70),pI (tNext L (tStep L (tStep L a 12) 70) 26),pI 0,pI 0,pNil,PV.ref 2 0 none,p16 0,p16 0]),(2,oB true 1 enc16 os),(3,.obj [pI 0,pI 0,pI 0,pI 0,pI 0,pNil,pNil,p16 0,p16 0])]) (fun (ap : Nat) (os : List UInt16) (i : Nat) => (tNext L (tStep L (tStep L a 12) 70) 26).toNat - i) (tStep L (tStep L (tStep L a 12) 70) 26) (([] : List UInt16)) (0) ?_ ⟨[(0,0),(1,2),(2,3),(3,1)],by rw [hk]; decide,⟨⟨_,rfl,rfl,rfl⟩,⟨_,rfl,rfl,rfl⟩,⟨_,rfl,rfl,rfl⟩,⟨_,rfl,rfl,rfl⟩,trivial⟩,⟨⟨_,_,rfl,rfl,rfl,rfl⟩,⟨_,_,rfl,rfl,rfl,rfl⟩,⟨_,_,rfl,rfl,rfl,rfl⟩,⟨_,_,rfl,rfl,rfl,rfl⟩,trivial⟩,by rw [hk]; decide⟩ ?_))))
  · exact ⟨by omega,rfl⟩
  ·intro ap os i hI
   obtain ⟨hi,hol⟩ := hI
   refine w_seq (w_seq (w_R (qm hnt rfl rfl (qo hnt rfl (s_fa_ptr tab_46 rfl rfl tab_3 (by decide) rfl ?_)))))
   refine qo hnt rfl (s_load_ptr1 tab_3 rfl rfl rfl rfl rfl ?_)
   refine qo hnt rfl (s_lss rfl rfl ?_)
   refine r_end (q_then (w_if rfl (fun c11 => ?_) (fun c11 => ?_)))
   ·try simp only [sB] at c11
    refine w_skip (q_then (w_seq (w_block (W_drawn tabOk mixed hnt [[],[0],[],[2],[2,3],[2,3,4],[0,1,2,3,4,5],[0,1,2,3,4,5,6],(.range 8)] (by kernel_rfl) (d_op ?_)))))
    refine x_run0 [(3,PV.ptr 1 0)] [] rfl rfl rfl rfl (s_fa_ptr tab_46 rfl rfl tab_43 (by decide) rfl ⟨rfl,rfl,rfl⟩) (d_op (xL [(95,PV.ptr 1 6)] [0] [(1,.obj [pI e1,pI (tNext L (tStep L a 12) 70),pI (tNext L (tStep L (tStep L a 12) 70) 26),pI 0,pI 0,pNil,PV.ref 2 0 none,p16 0,p16 0])] rfl rfl rfl rfl rfl (s_load_ptr1 tab_43 rfl rfl rfl rfl rfl ⟨rfl,rfl,rfl⟩) ⟨rfl,trivial⟩ rfl (d_op (x_run0 [(0,PV.ptr 0 0)] [] rfl rfl rfl rfl (s_move rfl ⟨rfl,rfl,rfl⟩) (d_op ?_)))))
    refine xT [(97,PV.ptr 0 0)] [2] [(0,.obj [pS 1 false encI L,pN ap])] [(0,.obj [pS 1 false encI L,pN (tStep L ap 65536)])] [(1,.obj [pI e1,pI (tNext L (tStep L a 12) 70),pI (tNext L (tStep L (tStep L a 12) 70) 26),pI 0,pI 0,pNil,PV.ref 2 0 none,p16 0,p16 0]),(2,oB true 1 enc16 os),(3,.obj [pI 0,pI 0,pI 0,pI 0,pI 0,pNil,pNil,p16 0,p16 0])] rfl rfl rfl rfl rfl (s_callX (r2 := pI (tNext L ap 65536)) (nx1 := 4) (H2 := [(0,.obj [pS 1 false encI L,pN ap])]) (H3 := [(0,.obj [pS 1 false encI L,pN (tStep L ap 65536)])]) [0] [.obj [pS 1 false encI L,pN ap]] rfl rfl rfl (handed_of (by decide) ⟨rfl,trivial⟩) rfl rfl rfl rfl rfl rfl (w_burgagekeep_Tape_Next L false ap 65536 (by omega) (by omega)) rfl (dist_of rfl) rfl rfl rfl rfl ⟨rfl,rfl,rfl⟩) rfl rfl (d_op (x_run0 [(98,pI (tNext L ap 65536))] [2,3] rfl rfl rfl rfl (s_cv16 tab_3 tab_44 rfl rfl rfl ⟨rfl,rfl,rfl⟩) (d_op (xT [(99,p16 (u16I (tNext L ap 65536)))] [2,3,4] [] [(4,oB true 1 enc16 [u16I (tNext L ap 65536)])] [(0,.obj [pS 1 false encI L,pN (tStep L ap 65536)]),(1,.obj [pI e1,pI (tNext L (tStep L a 12) 70),pI (tNext L (tStep L (tStep L a 12) 70) 26),pI 0,pI 0,pNil,PV.ref 2 0 none,p16 0,p16 0]),(2,oB true 1 enc16 os),(3,.obj [pI 0,pI 0,pI 0,pI 0,pI 0,pNil,pNil,p16 0,p16 0])] rfl rfl rfl rfl rfl (s_mkM (f := enc16) [u16I (tNext L ap 65536)] tab_43 rfl tab_44 ⟨rfl,by decide⟩ (by decide) rfl rfl rfl rfl ⟨rfl,rfl,rfl⟩) rfl rfl (d_op ?_)))))
    refine x_run [(96,PV.ref 2 0 none),(100,PV.ref 4 0 none)] [0,1,2,3,4,5] [(4,oB true 1 enc16 [u16I (tNext L ap 65536)])] [(2,oB true 1 enc16 os)] [(5,oB true 1 enc16 (os ++ [u16I (tNext L ap 65536)])),(4,oB true 1 enc16 [u16I (tNext L ap 65536)])] [(5,oB true 1 enc16 (os ++ [u16I (tNext L ap 65536)]))] [(5,oB true 1 enc16 (os ++ [u16I (tNext L ap 65536)])),(4,oB true 1 enc16 [u16I (tNext L ap 65536)]),(0,.obj [pS 1 false encI L,pN (tStep L ap 65536)]),(1,.obj [pI e1,pI (tNext L (tStep L a 12) 70),pI (tNext L (tStep L (tStep L a 12) 70) 26),pI 0,pI 0,pNil,PV.ref 2 0 none,p16 0,p16 0]),(3,.obj [pI 0,pI 0,pI 0,pI 0,pI 0,pNil,pNil,p16 0,p16 0])] rfl rfl rfl rfl rfl rfl (s_appR0 (f := enc16) (l := os) (xs := [u16I (tNext L ap 65536)]) tab_43 rfl tab_44 ⟨rfl,by decide,by decide⟩ (srcM tab_43 rfl (hM_ref0 (f := enc16) rfl rfl)) rfl rfl (by (simp; omega)) ⟨rfl,rfl,rfl⟩) rfl ⟨rfl,trivial⟩ rfl rfl (d_op (x_run0 [(3,PV.ptr 1 0)] [0,1,2,3,4,5,6] rfl rfl rfl rfl (s_fa_ptr tab_46 rfl rfl tab_43 (by decide) rfl ⟨rfl,rfl,rfl⟩) (d_op (xT [(102,PV.ptr 1 6),(101,PV.ref 5 0 none)] (.range 8) [(1,.obj [pI e1,pI (tNext L (tStep L a 12) 70),pI (tNext L (tStep L (tStep L a 12) 70) 26),pI 0,pI 0,pNil,PV.ref 2 0 none,p16 0,p16 0])] [(1,.obj [pI e1,pI (tNext L (tStep L a 12) 70),pI (tNext L (tStep L (tStep L a 12) 70) 26),pI 0,pI 0,pNil,PV.ref 5 0 none,p16 0,p16 0])] [(5,oB true 1 enc16 (os ++ [u16I (tNext L ap 65536)])),(4,oB true 1 enc16 [u16I (tNext L ap 65536)]),(0,.obj [pS 1 false encI L,pN (tStep L ap 65536)]),(3,.obj [pI 0,pI 0,pI 0,pI 0,pI 0,pNil,pNil,p16 0,p16 0])] rfl rfl rfl rfl rfl (s_store_ptr tab_43 rfl rfl rfl rfl rfl (Nat.le_of_ble_eq_true rfl) ⟨rfl,rfl,rfl⟩) rfl rfl (d_end ⟨by kernel_rfl, ?_⟩)))))
    refine q_block (q_then (w_R (qm hnt rfl rfl (qo hnt rfl (s_addN (a := i) (b := 1) rfl rfl (by omega) (by omega) (by omega) ?_)))))
    refine qa hnt rfl rfl (r_end (q_then (⟨(tStep L ap 65536),(os ++ [u16I (tNext L ap 65536)]),(i + 1), ?_, ?_,⟨[(0,0),(1,1),(2,5),(3,3)],by rw [hk]; decide,⟨⟨_,rfl,rfl,rfl⟩,⟨_,rfl,rfl,rfl⟩,⟨_,rfl,rfl,rfl⟩,⟨_,rfl,rfl,rfl⟩,trivial⟩,⟨⟨_,_,rfl,rfl,rfl,rfl⟩,⟨_,_,rfl,rfl,rfl,rfl⟩,⟨_,_,rfl,rfl,rfl,rfl⟩,⟨_,_,rfl,rfl,rfl,rfl⟩,trivial⟩,by rw [hk]; decide⟩⟩)))
    ·exact ⟨by omega,by simp [hol]⟩
    · omega
   try simp only [sB] at c11
   refine w_exit (q_then_exit (q_then_exit (q_block_exit (q_block (q_then ?_)))))
   refine w_seq (w_R (qo hnt rfl (s_load_ptr tab_46 rfl rfl rfl (Nat.le_of_ble_eq_true rfl) ?_)))
   refine qo hnt rfl (s_store_ptr tab_46 rfl rfl rfl rfl rfl (Nat.le_of_ble_eq_true rfl) ?_)
   refine r_set [(2,PV.ptr 3 0)] [(3,.obj [pI e1,pI (tNext L (tStep L a 12) 70),pI (tNext L (tStep L (tStep L a 12) 70) 26),pI 0,pI 0,pNil,PV.ref 2 0 none,p16 0,p16 0]),(0,.obj [pS 1 false encI L,pN ap]),(1,.obj [pI e1,pI (tNext L (tStep L a 12) 70),pI (tNext L (tStep L (tStep L a 12) 70) 26),pI 0,pI 0,pNil,PV.ref 2 0 none,p16 0,p16 0]),(2,oB true 1 enc16 os)] 4 ⟨rfl,trivial⟩ rfl rfl (r_end (q_then (w_frzC (n := 3) (j := 6) rfl rfl rfl rfl (w_leO (n := 3) (ds := [pI e1,pI (tNext L (tStep L a 12) 70),pI (tNext L (tStep L (tStep L a 12) 70) 26),pI 0,pI 0,pS 1 false encBo [],pS 1 false enc16 os,p16 0,p16 0]) rfl ⟨le_refl _,le_refl _,le_refl _,le_refl _,le_refl _,le_nilS 1 false,le_refl _,le_refl _,le_refl _,trivial⟩ (w_ret ?_)))))
   have hex : rightR (⟨e1,tNext L (tStep L a 12) 70,tNext L (tStep L (tStep L a 12) 70) 26,0,0,[],os,0,0⟩ : TRequest) = 0 ∧ (⟨e1,tNext L (tStep L a 12) 70,tNext L (tStep L (tStep L a 12) 70) 26,0,0,[],os,0,0⟩ : TRequest).bits.length ≤ 25 ∧ (⟨e1,tNext L (tStep L a 12) 70,tNext L (tStep L (tStep L a 12) 70) 26,0,0,[],os,0,0⟩ : TRequest).vals.length ≤ 25 ∧ 0 ≤ (⟨e1,tNext L (tStep L a 12) 70,tNext L (tStep L (tStep L a 12) 70) 26,0,0,[],os,0,0⟩ : TRequest).count ∧ (⟨e1,tNext L (tStep L a 12) 70,tNext L (tStep L (tStep L a 12) 70) 26,0,0,[],os,0,0⟩ : TRequest).count ≤ 25 := by
     refine ⟨(shapeR_iff (q := _) hfn).2 ?_,by simp; try omega,by simp; try omega,by simp; try omega,by simp; try omega⟩
     constructor
     case bits => simp only; (rw [if_neg (by omega),if_neg (by omega)]; rfl)
     case vals => simp only; (rw [if_neg (by omega),if_pos (by omega)]; exact ⟨by omega,by omega⟩)
     all_goals first|(intro _; rfl)|(intro _; exact ⟨rfl,rfl⟩)|(simp only; omega)
   exact fin_names (nx1 := 1) (H1 := [(0,.obj [pS 1 false encI L,pN ap])]) [(0,0)] (ret_cell tab_46 (by decide) rfl rfl (Nat.le_of_ble_eq_true rfl) rfl ret_nil) rfl (by decide) ⟨⟨_,_,rfl,rfl,rfl,rfl⟩,trivial⟩ (by decide) rfl ⟨((⟨e1,tNext L (tStep L a 12) 70,tNext L (tStep L (tStep L a 12) 70) 26,0,0,[],os,0,0⟩ : TRequest)),(ap),hex,rfl,rfl,rfl⟩
 try simp only [sB] at c10
 refine w_seq (w_R (qo hnt rfl (s_eql rfl rfl ?_)))
 refine qa hnt rfl rfl (r_end (q_then (w_if rfl (fun c12 => ?_) (fun c12 => ?_))))
 ·try simp only [sB] at c12
  refine w_R (qm hnt rfl rfl (qm hnt rfl rfl (qo hnt rfl (s_callX (r2 := pI (tNext L (tStep L (tStep L a 12) 70) 65536)) (nx1 := 3) (H2 := [(0,.obj [pS 1 false encI L,pN (tStep L (tStep L a 12) 70)]),(1,.obj [pI 0,pI 0,pI 0,pI 0,pI 0,pNil,pNil,p16 0,p16 0]),(2,.obj [pI e1,pI 0,pI 0,pI 0,pI 0,pNil,pNil,p16 0,p16 0])]) (H3 := [(0,.obj [pS 1 false encI L,pN (tStep L (tStep L (tStep L a 12) 70) 65536)]),(1,.obj [pI 0,pI 0,pI 0,pI 0,pI 0,pNil,pNil,p16 0,p16 0]),(2,.obj [pI e1,pI 0,pI 0,pI 0,pI 0,pNil,pNil,p16 0,p16 0])]) [0] [.obj [pS 1 false encI L,pN (tStep L (tStep L a 12) 70)]] rfl rfl rfl (handed_of (by decide) ⟨rfl,trivial⟩) rfl rfl rfl rfl rfl rfl (w_burgagekeep_Tape_Next L false (tStep L (tStep L a 12) 70) 65536 (by omega) (by omega)) rfl (dist_of rfl) rfl rfl rfl rfl ?_))))
  refine qo hnt rfl (s_cv16 tab_3 tab_44 rfl rfl rfl ?_)
  refine qm hnt rfl rfl (qo hnt rfl (s_callX (r2 := pI (tNext L (tStep L (tStep L (tStep L a 12) 70) 65536) 65536)) (nx1 := 3) (H2 := [(0,.obj [pS 1 false encI L,pN (tStep L (tStep L (tStep L a 12) 70) 65536)]),(1,.obj [pI 0,pI 0,pI 0,pI 0,pI 0,pNil,pNil,p16 0,p16 0]),(2,.obj [pI e1,pI 0,pI 0,pI 0,pI 0,pNil,pNil,p16 0,p16 0])]) (H3 := [(0,.obj [pS 1 false encI L,pN (tStep L (tStep L (tStep L (tStep L a 12) 70) 65536) 65536)]),(1,.obj [pI 0,pI 0,pI 0,pI 0,pI 0,pNil,pNil,p16 0,p16 0]),(2,.obj [pI e1,pI 0,pI 0,pI 0,pI 0,pNil,pNil,p16 0,p16 0])]) [0] [.obj [pS 1 false encI L,pN (tStep L (tStep L (tStep L a 12) 70) 65536)]] rfl rfl rfl (handed_of (by decide) ⟨rfl,trivial⟩) rfl rfl rfl rfl rfl rfl (w_burgagekeep_Tape_Next L false (tStep L (tStep L (tStep L a 12) 70) 65536) 65536 (by omega) (by omega)) rfl (dist_of rfl) rfl rfl rfl rfl ?_))
  refine qo hnt rfl (s_cv16 tab_3 tab_44 rfl rfl rfl ?_)
  refine qo hnt rfl (s_fa_ptr tab_46 rfl rfl tab_3 (by decide) rfl ?_)
  refine qo hnt rfl (s_store_ptr tab_3 rfl rfl rfl rfl rfl (Nat.le_of_ble_eq_true rfl) ?_)
  refine qo hnt rfl (s_fa_ptr tab_46 rfl rfl tab_44 (by decide) rfl ?_)
  refine qo hnt rfl (s_store_ptr tab_44 rfl rfl rfl rfl rfl (Nat.le_of_ble_eq_true rfl) ?_)
  refine qo hnt rfl (s_fa_ptr tab_46 rfl rfl tab_44 (by decide) rfl ?_)
  refine qo hnt rfl (s_store_ptr tab_44 rfl rfl rfl rfl rfl (Nat.le_of_ble_eq_true rfl) ?_)
  refine r_set [(2,PV.ptr 1 0),(3,PV.ptr 2 0)] [(2,.obj [pI e1,pI (tNext L (tStep L a 12) 70),pI 0,pI 0,pI 0,pNil,pNil,p16 (u16I (tNext L (tStep L (tStep L a 12) 70) 65536)),p16 (u16I (tNext L (tStep L (tStep L (tStep L a 12) 70) 65536) 65536))]),(0,.obj [pS 1 false encI L,pN (tStep L (tStep L (tStep L (tStep L a 12) 70) 65536) 65536)]),(1,.obj [pI 0,pI 0,pI 0,pI 0,pI 0,pNil,pNil,p16 0,p16 0])] 3 ⟨rfl,rfl,trivial⟩ rfl rfl (r_end (q_block (q_then (w_seq (w_R ?_)))))
  refine qo hnt rfl (s_load_ptr tab_46 rfl rfl rfl (Nat.le_of_ble_eq_true rfl) ?_)
  refine qo hnt rfl (s_store_ptr tab_46 rfl rfl rfl rfl rfl (Nat.le_of_ble_eq_true rfl) ?_)
  refine r_set [(2,PV.ptr 1 0)] [(1,.obj [pI e1,pI (tNext L (tStep L a 12) 70),pI 0,pI 0,pI 0,pNil,pNil,p16 (u16I (tNext L (tStep L (tStep L a 12) 70) 65536)),p16 (u16I (tNext L (tStep L (tStep L (tStep L a 12) 70) 65536) 65536))]),(2,.obj [pI e1,pI (tNext L (tStep L a 12) 70),pI 0,pI 0,pI 0,pNil,pNil,p16 (u16I (tNext L (tStep L (tStep L a 12) 70) 65536)),p16 (u16I (tNext L (tStep L (tStep L (tStep L a 12) 70) 65536) 65536))]),(0,.obj [pS 1 false encI L,pN (tStep L (tStep L (tStep L (tStep L a 12) 70) 65536) 65536)])] 3 ⟨rfl,trivial⟩ rfl rfl (r_end (q_then (w_leO (n := 1) (ds := [pI e1,pI (tNext L (tStep L a 12) 70),pI 0,pI 0,pI 0,pS 1 false encBo [],pS 1 false enc16 [],p16 (u16I (tNext L (tStep L (tStep L a 12) 70) 65536)),p16 (u16I (tNext L (tStep L (tStep L (tStep L a 12) 70) 65536) 65536))]) rfl ⟨le_refl _,le_refl _,le_refl _,le_refl _,le_refl _,le_nilS 1 false,le_nilS 1 false,le_refl _,le_refl _,trivial⟩ (w_ret ?_))))
  have hex : rightR (⟨e1,tNext L (tStep L a 12) 70,0,0,0,[],[],u16I (tNext L (tStep L (tStep L a 12) 70) 65536),u16I (tNext L (tStep L (tStep L (tStep L a 12) 70) 65536) 65536)⟩ : TRequest) = 0 ∧ (⟨e1,tNext L (tStep L a 12) 70,0,0,0,[],[],u16I (tNext L (tStep L (tStep L a 12) 70) 65536),u16I (tNext L (tStep L (tStep L (tStep L a 12) 70) 65536) 65536)⟩ : TRequest).bits.length ≤ 25 ∧ (⟨e1,tNext L (tStep L a 12) 70,0,0,0,[],[],u16I (tNext L (tStep L (tStep L a 12) 70) 65536),u16I (tNext L (tStep L (tStep L (tStep L a 12) 70) 65536) 65536)⟩ : TRequest).vals.length ≤ 25 ∧ 0 ≤ (⟨e1,tNext L (tStep L a 12) 70,0,0,0,[],[],u16I (tNext L (tStep L (tStep L a 12) 70) 65536),u16I (tNext L (tStep L (tStep L (tStep L a 12) 70) 65536) 65536)⟩ : TRequest).count ∧ (⟨e1,tNext L (tStep L a 12) 70,0,0,0,[],[],u16I (tNext L (tStep L (tStep L a 12) 70) 65536),u16I (tNext L (tStep L (tStep L (tStep L a 12) 70) 65536) 65536)⟩ : TRequest).count ≤ 25 := by
    refine ⟨(shapeR_iff (q := _) hfn).2 ?_,by simp; try omega,by simp; try omega,by simp; try omega,by simp; try omega⟩
    constructor
    case bits => simp only; (rw [if_neg (by omega),if_neg (by omega)]; rfl)
    case vals => simp only; (rw [if_neg (by omega),if_neg (by omega),if_neg (by omega)]; rfl)
    all_goals first|(intro _; rfl)|(simp only; omega)
  exact fin_names (nx1 := 1) (H1 := [(0,.obj [pS 1 false encI L,pN (tStep L (tStep L (tStep L (tStep L a 12) 70) 65536) 65536)])]) [(0,0)] (ret_cell tab_46 (by decide) rfl rfl (Nat.le_of_ble_eq_true rfl) rfl ret_nil) rfl (by decide) ⟨⟨_,_,rfl,rfl,rfl,rfl⟩,trivial⟩ (by decide) rfl ⟨((⟨e1,tNext L (tStep L a 12) 70,0,0,0,[],[],u16I (tNext L (tStep L (tStep L a 12) 70) 65536),u16I (tNext L (tStep L (tStep L (tStep L a 12) 70) 65536) 65536)⟩ : TRequest)),(tStep L (tStep L (tStep L (tStep L a 12) 70) 65536) 65536),hex,rfl,rfl,rfl⟩
 try simp only [sB] at c12
 refine w_seq (w_R (qo hnt rfl (s_eql rfl rfl ?_)))
 refine qa hnt rfl rfl (r_end (q_then (w_if rfl (fun c13 => ?_) (fun c13 => ?_))))
 ·try simp only [sB] at c13
  refine w_seq ?_
  have h20 := tNext_lt L (tStep L (tStep L a 12) 70) (n := 20) (by decide)
  have h40 := tNext_lt L (tStep L (tStep L (tStep L a 12) 70) 20) (n := 40) (by decide)
  refine w_R (qm hnt rfl rfl (qm hnt rfl rfl (qo hnt rfl (s_callX (r2 := pI (tNext L (tStep L (tStep L a 12) 70) 20)) (nx1 := 3) (H2 := [(0,.obj [pS 1 false encI L,pN (tStep L (tStep L a 12) 70)]),(1,.obj [pI 0,pI 0,pI 0,pI 0,pI 0,pNil,pNil,p16 0,p16 0]),(2,.obj [pI e1,pI 0,pI 0,pI 0,pI 0,pNil,pNil,p16 0,p16 0])]) (H3 := [(0,.obj [pS 1 false encI L,pN (tStep L (tStep L (tStep L a 12) 70) 20)]),(1,.obj [pI 0,pI 0,pI 0,pI 0,pI 0,pNil,pNil,p16 0,p16 0]),(2,.obj [pI e1,pI 0,pI 0,pI 0,pI 0,pNil,pNil,p16 0,p16 0])]) [0] [.obj [pS 1 false encI L,pN (tStep L (tStep L a 12) 70)]] rfl rfl rfl (handed_of (by decide) ⟨rfl,trivial⟩) rfl rfl rfl rfl rfl rfl (w_burgagekeep_Tape_Next L false (tStep L (tStep L a 12) 70) 20 (by omega) (by omega)) rfl (dist_of rfl) rfl rfl rfl rfl ?_))))
  refine qm hnt rfl rfl (qo hnt rfl (s_callX (r2 := pI (tNext L (tStep L (tStep L (tStep L a 12) 70) 20) 40)) (nx1 := 3) (H2 := [(0,.obj [pS 1 false encI L,pN (tStep L (tStep L (tStep L a 12) 70) 20)]),(1,.obj [pI 0,pI 0,pI 0,pI 0,pI 0,pNil,pNil,p16 0,p16 0]),(2,.obj [pI e1,pI 0,pI 0,pI 0,pI 0,pNil,pNil,p16 0,p16 0])]) (H3 := [(0,.obj [pS 1 false encI L,pN (tStep L (tStep L (tStep L (tStep L a 12) 70) 20) 40)]),(1,.obj [pI 0,pI 0,pI 0,pI 0,pI 0,pNil,pNil,p16 0,p16 0]),(2,.obj [pI e1,pI 0,pI 0,pI 0,pI 0,pNil,pNil,p16 0,p16 0])]) [0] [.obj [pS 1 false encI L,pN (tStep L (tStep L (tStep L a 12) 70) 20)]] rfl rfl rfl (handed_of (by decide) ⟨rfl,trivial⟩) rfl rfl rfl rfl rfl rfl (w_burgagekeep_Tape_Next L false (tStep L (tStep L (tStep L a 12) 70) 20) 40 (by omega) (by omega)) rfl (dist_of rfl) rfl rfl rfl rfl ?_))
  refine qo hnt rfl (s_fa_ptr tab_46 rfl rfl tab_3 (by decide) rfl ?_)
  refine qo hnt rfl (s_store_ptr tab_3 rfl rfl rfl rfl rfl (Nat.le_of_ble_eq_true rfl) ?_)
  refine qo hnt rfl (s_fa_ptr tab_46 rfl rfl tab_3 (by decide) rfl ?_)
  refine qo hnt rfl (s_store_ptr tab_3 rfl rfl rfl rfl rfl (Nat.le_of_ble_eq_true rfl) ?_)
  refine qo hnt rfl (s_fa_ptr tab_46 rfl rfl tab_3 (by decide) rfl ?_)
  refine qo hnt rfl (s_store_ptr tab_3 rfl rfl rfl rfl rfl (Nat.le_of_ble_eq_true rfl) ?_)
  refine r_set [(0,PV.ptr 0 0),(2,PV.ptr 1 0),(3,PV.ptr 2 0)] [(2,.obj [pI e1,pI (tNext L (tStep L a 12) 70),pI (tNext L (tStep L (tStep L a 12) 70) 20),pI (tNext L (tStep L (tStep L (tStep L a 12) 70) 20) 40),pI 0,pNil,pNil,p16 0,p16 0]),(0,.obj [pS 1 false encI L,pN (tStep L (tStep L (tStep L (tStep L a 12) 70) 20) 40)]),(1,.obj [pI 0,pI 0,pI 0,pI 0,pI 0,pNil,pNil,p16 0,p16 0])] 3 ⟨rfl,rfl,rfl,trivial⟩ rfl rfl (r_end (q_then (w_seq ?_)))
  have h22 := tNext_lt L (tStep L (tStep L (tStep L (tStep L a 12) 70) 20) 40) (n := 20) (by decide)
  refine w_R (qm hnt rfl rfl (qo hnt rfl (s_callX (r2 := pI (tNext L (tStep L (tStep L (tStep L (tStep L a 12) 70) 20) 40) 20)) (nx1 := 3) (H2 := [(2,.obj [pI e1,pI (tNext L (tStep L a 12) 70),pI (tNext L (tStep L (tStep L a 12) 70) 20),pI (tNext L (tStep L (tStep L (tStep L a 12) 70) 20) 40),pI 0,pNil,pNil,p16 0,p16 0]),(0,.obj [pS 1 false encI L,pN (tStep L (tStep L (tStep L (tStep L a 12) 70) 20) 40)]),(1,.obj [pI 0,pI 0,pI 0,pI 0,pI 0,pNil,pNil,p16 0,p16 0])]) (H3 := [(0,.obj [pS 1 false encI L,pN (tStep L (tStep L (tStep L (tStep L (tStep L a 12) 70) 20) 40) 20)]),(2,.obj [pI e1,pI (tNext L (tStep L a 12) 70),pI (tNext L (tStep L (tStep L a 12) 70) 20),pI (tNext L (tStep L (tStep L (tStep L a 12) 70) 20) 40),pI 0,pNil,pNil,p16 0,p16 0]),(1,.obj [pI 0,pI 0,pI 0,pI 0,pI 0,pNil,pNil,p16 0,p16 0])]) [0] [.obj [pS 1 false encI L,pN (tStep L (tStep L (tStep L (tStep L a 12) 70) 20) 40)]] rfl rfl rfl (handed_of (by decide) ⟨rfl,trivial⟩) rfl rfl rfl rfl rfl rfl (w_burgagekeep_Tape_Next L false (tStep L (tStep L (tStep L (tStep L a 12) 70) 20) 40) 20 (by omega) (by omega)) rfl (dist_of rfl) rfl rfl rfl rfl ?_)))
  refine qa hnt rfl rfl (r_set [(0,PV.ptr 0 0),(2,PV.ptr 1 0),(3,PV.ptr 2 0),(7,pI (tNext L (tStep L (tStep L (tStep L (tStep L a 12) 70) 20) 40) 20))] [(0,.obj [pS 1 false encI L,pN (tStep L (tStep L (tStep L (tStep L (tStep L a 12) 70) 20) 40) 20)]),(2,.obj [pI e1,pI (tNext L (tStep L a 12) 70),pI (tNext L (tStep L (tStep L a 12) 70) 20),pI (tNext L (tStep L (tStep L (tStep L a 12) 70) 20) 40),pI 0,pNil,pNil,p16 0,p16 0]),(1,.obj [pI 0,pI 0,pI 0,pI 0,pI 0,pNil,pNil,p16 0,p16 0])] 3 ⟨rfl,rfl,rfl,rfl,trivial⟩ rfl rfl (r_end (q_then (w_block (w_adoptC (n := 2) (j := 6) (sz := 1) rfl rfl rfl ?_)))))
  refine loop3 (fun (ap : Nat) (os : List UInt16) (k : Int) => (os.length : Int) + k ≤ 19 ∧ 0 ≤ k) (fun (ap : Nat) (os : List UInt16) (k : Int) => [(0,PV.ptr 0 0),(2,PV.ptr 3 0),(3,PV.ptr 1 0),(7,pI k)]) 4 (fun (ap : Nat) (os : List UInt16) (k : Int) => [(0,.obj [pS 1 false encI L,pN ap]),(1,.obj [pI e1,pI (tNext L (tStep L a 12) 70),pI (tNext L (tStep L (tStep L a 12) 70) 20),pI (tNext L (tStep L (tStep L (tStep L a 12) 70) 20) 40),pI 0,pNil,PV.ref 2 0 none,p16 0,p16 0]),(2,oB true 1 enc16 os),(3,.obj [pI 0,pI 0,pI 0,pI 0,pI 0,pNil,pNil,p16 0,p16 0])]) (fun (ap : Nat) (os : List UInt16) (k : Int) => k.toNat) (tStep L (tStep L (tStep L (tStep L (tStep L a 12) 70) 20) 40) 20) (([] : List UInt16)) (tNext L (tStep L (tStep L (tStep L (tStep L a 12) 70) 20) 40) 20) ?_ ⟨[(0,0),(1,2),(2,3),(3,1)],by rw [hk]; decide,⟨⟨_,rfl,rfl,rfl⟩,⟨_,rfl,rfl,rfl⟩,⟨_,rfl,rfl,rfl⟩,⟨_,rfl,rfl,rfl⟩,trivial⟩,⟨⟨_,_,rfl,rfl,rfl,rfl⟩,⟨_,_,rfl,rfl,rfl,rfl⟩,⟨_,_,rfl,rfl,rfl,rfl⟩,⟨_,_,rfl,rfl,rfl,rfl⟩,trivial⟩,by rw [hk]; decide⟩ ?_
  · exact ⟨by simp; omega,by omega⟩
  ·intro ap os k hI
   obtain ⟨hkm,hk0⟩ := hI
   refine w_seq (w_seq (w_R (qm hnt rfl rfl (qo hnt rfl (s_gtr rfl rfl ?_)))))
   refine r_end (q_then (w_if rfl (fun c14 => ?_) (fun c14 => ?_)))
   ·try simp only [sB] at c14
    refine w_skip (q_then (w_seq (w_block (W_drawn tabOk mixed hnt [[],[0],[],[2],[2,3],[2,3,4],[0,1,2,3,4,5],[0,1,2,3,4,5,6],(.range 8)] (by kernel_rfl) (d_op ?_)))))
    refine x_run0 [(3,PV.ptr 1 0)] [] rfl rfl rfl rfl (s_fa_ptr tab_46 rfl rfl tab_43 (by decide) rfl ⟨rfl,rfl,rfl⟩) (d_op (xL [(131,PV.ptr 1 6)] [0] [(1,.obj [pI e1,pI (tNext L (tStep L a 12) 70),pI (tNext L (tStep L (tStep L a 12) 70) 20),pI (tNext L (tStep L (tStep L (tStep L a 12) 70) 20) 40),pI 0,pNil,PV.ref 2 0 none,p16 0,p16 0])] rfl rfl rfl rfl rfl (s_load_ptr1 tab_43 rfl rfl rfl rfl rfl ⟨rfl,rfl,rfl⟩) ⟨rfl,trivial⟩ rfl (d_op (x_run0 [(0,PV.ptr 0 0)] [] rfl rfl rfl rfl (s_move rfl ⟨rfl,rfl,rfl⟩) (d_op ?_)))))
    refine xT [(133,PV.ptr 0 0)] [2] [(0,.obj [pS 1 false encI L,pN ap])] [(0,.obj [pS 1 false encI L,pN (tStep L ap 65536)])] [(1,.obj [pI e1,pI (tNext L (tStep L a 12) 70),pI (tNext L (tStep L (tStep L a 12) 70) 20),pI (tNext L (tStep L (tStep L (tStep L a 12) 70) 20) 40),pI 0,pNil,PV.ref 2 0 none,p16 0,p16 0]),(2,oB true 1 enc16 os),(3,.obj [pI 0,pI 0,pI 0,pI 0,pI 0,pNil,pNil,p16 0,p16 0])] rfl rfl rfl rfl rfl (s_callX (r2 := pI (tNext L ap 65536)) (nx1 := 4) (H2 := [(0,.obj [pS 1 false encI L,pN ap])]) (H3 := [(0,.obj [pS 1 false encI L,pN (tStep L ap 65536)])]) [0] [.obj [pS 1 false encI L,pN ap]] rfl rfl rfl (handed_of (by decide) ⟨rfl,trivial⟩) rfl rfl rfl rfl rfl rfl (w_burgagekeep_Tape_Next L false ap 65536 (by omega) (by omega)) rfl (dist_of rfl) rfl rfl rfl rfl ⟨rfl,rfl,rfl⟩) rfl rfl (d_op (x_run0 [(134,pI (tNext L ap 65536))] [2,3] rfl rfl rfl rfl (s_cv16 tab_3 tab_44 rfl rfl rfl ⟨rfl,rfl,rfl⟩) (d_op (xT [(135,p16 (u16I (tNext L ap 65536)))] [2,3,4] [] [(4,oB true 1 enc16 [u16I (tNext L ap 65536)])] [(0,.obj [pS 1 false encI L,pN (tStep L ap 65536)]),(1,.obj [pI e1,pI (tNext L (tStep L a 12) 70),pI (tNext L (tStep L (tStep L a 12) 70) 20),pI (tNext L (tStep L (tStep L (tStep L a 12) 70) 20) 40),pI 0,pNil,PV.ref 2 0 none,p16 0,p16 0]),(2,oB true 1 enc16 os),(3,.obj [pI 0,pI 0,pI 0,pI 0,pI 0,pNil,pNil,p16 0,p16 0])] rfl rfl rfl rfl rfl (s_mkM (f := enc16) [u16I (tNext L ap 65536)] tab_43 rfl tab_44 ⟨rfl,by decide⟩ (by decide) rfl rfl rfl rfl ⟨rfl,rfl,rfl⟩) rfl rfl (d_op ?_)))))
    refine x_run [(132,PV.ref 2 0 none),(136,PV.ref 4 0 none)] [0,1,2,3,4,5] [(4,oB true 1 enc16 [u16I (tNext L ap 65536)])] [(2,oB true 1 enc16 os)] [(5,oB true 1 enc16 (os ++ [u16I (tNext L ap 65536)])),(4,oB true 1 enc16 [u16I (tNext L ap 65536)])] [(5,oB true 1 enc16 (os ++ [u16I (tNext L ap 65536)]))] [(5,oB true 1 enc16 (os ++ [u16I (tNext L ap 65536)])),(4,oB true 1 enc16 [u16I (tNext L ap 65536)]),(0,.obj [pS 1 false encI L,pN (tStep L ap 65536)]),(1,.obj [pI e1,pI (tNext L (tStep L a 12) 70),pI (tNext L (tStep L (tStep L a 12) 70) 20),pI (tNext L (tStep L (tStep L (tStep L a 12) 70) 20) 40),pI 0,pNil,PV.ref 2 0 none,p16 0,p16 0]),(3,.obj [pI 0,pI 0,pI 0,pI 0,pI 0,pNil,pNil,p16 0,p16 0])] rfl rfl rfl rfl rfl rfl (s_appR0 (f := enc16) (l := os) (xs := [u16I (tNext L ap 65536)]) tab_43 rfl tab_44 ⟨rfl,by decide,by decide⟩ (srcM tab_43 rfl (hM_ref0 (f := enc16) rfl rfl)) rfl rfl (by (simp; omega)) ⟨rfl,rfl,rfl⟩) rfl ⟨rfl,trivial⟩ rfl rfl (d_op (x_run0 [(3,PV.ptr 1 0)] [0,1,2,3,4,5,6] rfl rfl rfl rfl (s_fa_ptr tab_46 rfl rfl tab_43 (by decide) rfl ⟨rfl,rfl,rfl⟩) (d_op (xT [(138,PV.ptr 1 6),(137,PV.ref 5 0 none)] (.range 8) [(1,.obj [pI e1,pI (tNext L (tStep L a 12) 70),pI (tNext L (tStep L (tStep L a 12) 70) 20),pI (tNext L (tStep L (tStep L (tStep L a 12) 70) 20) 40),pI 0,pNil,PV.ref 2 0 none,p16 0,p16 0])] [(1,.obj [pI e1,pI (tNext L (tStep L a 12) 70),pI (tNext L (tStep L (tStep L a 12) 70) 20),pI (tNext L (tStep L (tStep L (tStep L a 12) 70) 20) 40),pI 0,pNil,PV.ref 5 0 none,p16 0,p16 0])] [(5,oB true 1 enc16 (os ++ [u16I (tNext L ap 65536)])),(4,oB true 1 enc16 [u16I (tNext L ap 65536)]),(0,.obj [pS 1 false encI L,pN (tStep L ap 65536)]),(3,.obj [pI 0,pI 0,pI 0,pI 0,pI 0,pNil,pNil,p16 0,p16 0])] rfl rfl rfl rfl rfl (s_store_ptr tab_43 rfl rfl rfl rfl rfl (Nat.le_of_ble_eq_true rfl) ⟨rfl,rfl,rfl⟩) rfl rfl (d_end ⟨by kernel_rfl, ?_⟩)))))
    refine q_block (q_then (w_R (qm hnt rfl rfl (qo hnt rfl (s_subi (r := k - 1) rfl rfl rfl (by omega) ?_)))))
    refine qa hnt rfl rfl (r_end (q_then (⟨(tStep L ap 65536),(os ++ [u16I (tNext L ap 65536)]),(k - 1), ?_, ?_,⟨[(0,0),(1,1),(2,5),(3,3)],by rw [hk]; decide,⟨⟨_,rfl,rfl,rfl⟩,⟨_,rfl,rfl,rfl⟩,⟨_,rfl,rfl,rfl⟩,⟨_,rfl,rfl,rfl⟩,trivial⟩,⟨⟨_,_,rfl,rfl,rfl,rfl⟩,⟨_,_,rfl,rfl,rfl,rfl⟩,⟨_,_,rfl,rfl,rfl,rfl⟩,⟨_,_,rfl,rfl,rfl,rfl⟩,trivial⟩,by rw [hk]; decide⟩⟩)))
    ·exact ⟨by simp; omega,by omega⟩
    · omega
   try simp only [sB] at c14
   refine w_exit (q_then_exit (q_then_exit (q_block_exit (q_block (q_then ?_)))))
   refine w_seq (w_R (qo hnt rfl (s_load_ptr tab_46 rfl rfl rfl (Nat.le_of_ble_eq_true rfl) ?_)))
   refine qo hnt rfl (s_store_ptr tab_46 rfl rfl rfl rfl rfl (Nat.le_of_ble_eq_true rfl) ?_)
   refine r_set [(2,PV.ptr 3 0)] [(3,.obj [pI e1,pI (tNext L (tStep L a 12) 70),pI (tNext L (tStep L (tStep L a 12) 70) 20),pI (tNext L (tStep L (tStep L (tStep L a 12) 70) 20) 40),pI 0,pNil,PV.ref 2 0 none,p16 0,p16 0]),(0,.obj [pS 1 false encI L,pN ap]),(1,.obj [pI e1,pI (tNext L (tStep L a 12) 70),pI (tNext L (tStep L (tStep L a 12) 70) 20),pI (tNext L (tStep L (tStep L (tStep L a 12) 70) 20) 40),pI 0,pNil,PV.ref 2 0 none,p16 0,p16 0]),(2,oB true 1 enc16 os)] 4 ⟨rfl,trivial⟩ rfl rfl (r_end (q_then (w_frzC (n := 3) (j := 6) rfl rfl rfl rfl (w_leO (n := 3) (ds := [pI e1,pI (tNext L (tStep L a 12) 70),pI (tNext L (tStep L (tStep L a 12) 70) 20),pI (tNext L (tStep L (tStep L (tStep L a 12) 70) 20) 40),pI 0,pS 1 false encBo [],pS 1 false enc16 os,p16 0,p16 0]) rfl ⟨le_refl _,le_refl _,le_refl _,le_refl _,le_refl _,le_nilS 1 false,le_refl _,le_refl _,le_refl _,trivial⟩ (w_ret ?_)))))
   have hex : rightR (⟨e1,tNext L (tStep L a 12) 70,tNext L (tStep L (tStep L a 12) 70) 20,tNext L (tStep L (tStep L (tStep L a 12) 70) 20) 40,0,[],os,0,0⟩ : TRequest) = 0 ∧ (⟨e1,tNext L (tStep L a 12) 70,tNext L (tStep L (tStep L a 12) 70) 20,tNext L (tStep L (tStep L (tStep L a 12) 70) 20) 40,0,[],os,0,0⟩ : TRequest).bits.length ≤ 25 ∧ (⟨e1,tNext L (tStep L a 12) 70,tNext L (tStep L (tStep L a 12) 70) 20,tNext L (tStep L (tStep L (tStep L a 12) 70) 20) 40,0,[],os,0,0⟩ : TRequest).vals.length ≤ 25 ∧ 0 ≤ (⟨e1,tNext L (tStep L a 12) 70,tNext L (tStep L (tStep L a 12) 70) 20,tNext L (tStep L (tStep L (tStep L a 12) 70) 20) 40,0,[],os,0,0⟩ : TRequest).count ∧ (⟨e1,tNext L (tStep L a 12) 70,tNext L (tStep L (tStep L a 12) 70) 20,tNext L (tStep L (tStep L (tStep L a 12) 70) 20) 40,0,[],os,0,0⟩ : TRequest).count ≤ 25 := by
     refine ⟨(shapeR_iff (q := _) hfn).2 ?_,by simp; try omega,by simp; try omega,by simp; try omega,by simp; try omega⟩
     constructor
     case bits => simp only; (rw [if_neg (by omega),if_neg (by omega)]; rfl)
     case vals => simp only; (rw [if_neg (by omega),if_neg (by omega),if_pos (by omega)]; omega)
     all_goals first|(intro _; rfl)|(intro _; exact ⟨rfl,rfl⟩)|(simp only; omega)
   exact fin_names (nx1 := 1) (H1 := [(0,.obj [pS 1 false encI L,pN ap])]) [(0,0)] (ret_cell tab_46 (by decide) rfl rfl (Nat.le_of_ble_eq_true rfl) rfl ret_nil) rfl (by decide) ⟨⟨_,_,rfl,rfl,rfl,rfl⟩,trivial⟩ (by decide) rfl ⟨((⟨e1,tNext L (tStep L a 12) 70,tNext L (tStep L (tStep L a 12) 70) 20,tNext L (tStep L (tStep L (tStep L a 12) 70) 20) 40,0,[],os,0,0⟩ : TRequest)),(ap),hex,rfl,rfl,rfl⟩
 try simp only [sB] at c13
 refine w_skip (q_block (q_then (w_seq (w_R (qo hnt rfl (s_load_ptr tab_46 rfl rfl rfl (Nat.le_of_ble_eq_true rfl) ?_))))))
 refine qo hnt rfl (s_store_ptr tab_46 rfl rfl rfl rfl rfl (Nat.le_of_ble_eq_true rfl) ?_)
 refine r_set [(2,PV.ptr 1 0)] [(1,.obj [pI e1,pI 0,pI 0,pI 0,pI 0,pNil,pNil,p16 0,p16 0]),(0,.obj [pS 1 false encI L,pN (tStep L (tStep L a 12) 70)]),(2,.obj [pI e1,pI 0,pI 0,pI 0,pI 0,pNil,pNil,p16 0,p16 0])] 3 ⟨rfl,trivial⟩ rfl rfl (r_end (q_then (w_leO (n := 1) (ds := [pI e1,pI 0,pI 0,pI 0,pI 0,pS 1 false encBo [],pS 1 false enc16 [],p16 0,p16 0]) rfl ⟨le_refl _,le_refl _,le_refl _,le_refl _,le_refl _,le_nilS 1 false,le_nilS 1 false,le_refl _,le_refl _,trivial⟩ (w_ret ?_))))
 have hex : rightR (⟨e1,0,0,0,0,[],[],0,0⟩ : TRequest) = 0 ∧ (⟨e1,0,0,0,0,[],[],0,0⟩ : TRequest).bits.length ≤ 25 ∧ (⟨e1,0,0,0,0,[],[],0,0⟩ : TRequest).vals.length ≤ 25 ∧ 0 ≤ (⟨e1,0,0,0,0,[],[],0,0⟩ : TRequest).count ∧ (⟨e1,0,0,0,0,[],[],0,0⟩ : TRequest).count ≤ 25 := by
   refine ⟨(shapeR_iff (q := _) hfn).2 ?_,by simp; try omega,by simp; try omega,by simp; try omega,by simp; try omega⟩
   constructor
   case bits => simp only; (rw [if_neg (by omega),if_neg (by omega)]; rfl)
   case vals => simp only; (rw [if_neg (by omega),if_neg (by omega),if_neg (by omega)]; rfl)
   all_goals first|(intro _; rfl)|(intro _; exact ⟨rfl,rfl⟩)|(simp only; omega)
 exact fin_names (nx1 := 1) (H1 := [(0,.obj [pS 1 false encI L,pN (tStep L (tStep L a 12) 70)])]) [(0,0)] (ret_cell tab_46 (by decide) rfl rfl (Nat.le_of_ble_eq_true rfl) rfl ret_nil) rfl (by decide) ⟨⟨_,_,rfl,rfl,rfl,rfl⟩,trivial⟩ (by decide) rfl ⟨((⟨e1,0,0,0,0,[],[],0,0⟩ : TRequest)),(tStep L (tStep L a 12) 70),hex,rfl,rfl,rfl⟩
end Go.Proofs.Ytljkbpgcglomfaa
set_option linter.unusedVariables false
namespace Go.Proofs.Ytljkbpgcglomfaa
open Go Go.Proofs.Ytljkbpgcglomfaa.Pv
def tBytes (L : List Int) (a : Nat) (m : Int) : List UInt8 × Nat := tRow u8I 256 L (tStep L a (m + 1)) (tNext L a (m + 1)).toNat
theorem tBytes_len (L : List Int) (a : Nat) {m : Int} (h : 0 ≤ m) : ((tBytes L a m).1.length : Int) ≤ m := by
  have := tNext_lt L a (n := m + 1) (by omega)
  unfold tBytes; rw [tRow_length]; omega
theorem tRow_1 {α : Type} (f : Int → α) (n : Int) (L : List Int) (a k : Nat) {os : List α} {ap : Nat} (h : os = (tRow f n L a k).1) (h2 : ap = (tRow f n L a k).2) : os ++ [f (tNext L ap n)] = (tRow f n L a (k + 1)).1 := by subst h; subst h2; rfl
theorem tRow_2 {α : Type} (f : Int → α) (n : Int) (L : List Int) (a k : Nat) {ap : Nat} (h2 : ap = (tRow f n L a k).2) : tStep L ap n = (tRow f n L a (k + 1)).2 := by subst h2; rfl
end Go.Proofs.Ytljkbpgcglomfaa
set_option linter.unusedVariables false
set_option linter.unusedSimpArgs false
set_option maxRecDepth 10000
set_option maxHeartbeats 1000000
namespace Go.Proofs.Ytljkbpgcglomfaa
open Go Go.Proofs.Ytljkbpgcglomfaa.Pv
theorem w_burgagekeep_Tape_Bytes_d (L : List Int) (cl_L : Bool) (a : Nat) (m : Int) (hL : L.length ≤ 70000000000000) (hm : 0 ≤ m ∧ m ≤ 1000) :
    T Try.prog 54 [PV.ptr 0 0,pI m] 1 [(0,.obj [pS 1 cl_L encI L,pN a])] (Ret (pS 1 false enc8 ((tBytes L a m).1)) 1 [(0,.obj [pS 1 false encI L,pN ((tBytes L a m).2)])]) := by
 refine t_fun tabOk (n := 22) (rs := [.tmp 4]) Try.func54 rfl rfl rfl rfl (Nat.le_of_ble_eq_true rfl) ?_
 intro c hnt hk
 have h0n := tNext_lt L a (n := m + 1) (by omega)
 refine w_seq (w_R (qa hnt rfl rfl (r_end (q_then (w_seq ?_)))))
 refine w_R (qa hnt rfl rfl (r_end (q_then (w_seq (w_seq ?_)))))
 refine w_R (qm hnt rfl rfl (qm hnt rfl rfl (qo hnt rfl (s_addi (r := m + 1) rfl rfl rfl (by omega) ?_))))
 refine qo hnt rfl (s_callX (r2 := pI (tNext L a (m + 1))) (nx1 := 1) (H2 := [(0,.obj [pS 1 cl_L encI L,pN a])]) (H3 := [(0,.obj [pS 1 false encI L,pN (tStep L a (m + 1))])]) [0] [.obj [pS 1 cl_L encI L,pN a]] rfl rfl rfl (handed_of (by decide) ⟨rfl,trivial⟩) rfl rfl rfl rfl rfl rfl (w_burgagekeep_Tape_Next L cl_L a (m + 1) (by omega) (by omega)) rfl (dist_of rfl) rfl rfl rfl rfl ?_)
 refine qa hnt rfl rfl (r_set [(0,PV.ptr 0 0),(5,pNil),(6,pI (tNext L a (m + 1)))] [(0,.obj [pS 1 false encI L,pN (tStep L a (m + 1))])] 1 ⟨rfl,rfl,rfl,trivial⟩ rfl rfl (r_end (q_then (w_block (w_adopt (s := 5) (sz := 1) rfl ?_)))))
 refine loop3 (fun (ap : Nat) (os : List UInt8) (kk : Int) => ∃ j : Nat,(j : Int) + kk = tNext L a (m + 1) ∧ 0 ≤ kk ∧ os = (tRow u8I 256 L (tStep L a (m + 1)) j).1 ∧ ap = (tRow u8I 256 L (tStep L a (m + 1)) j).2) (fun (ap : Nat) (os : List UInt8) (kk : Int) => [(0,PV.ptr 0 0),(5,PV.ref 1 0 none),(6,pI kk)]) 2 (fun (ap : Nat) (os : List UInt8) (kk : Int) => [(0,.obj [pS 1 false encI L,pN ap]),(1,oB true 1 enc8 os)]) (fun (ap : Nat) (os : List UInt8) (kk : Int) => kk.toNat) (tStep L a (m + 1)) (([] : List UInt8)) (tNext L a (m + 1)) ?_ ⟨[(0,0),(1,1)],by rw [hk]; decide,⟨⟨_,rfl,rfl,rfl⟩,⟨_,rfl,rfl,rfl⟩,⟨_,rfl,rfl,rfl⟩,trivial⟩,⟨⟨_,_,rfl,rfl,rfl,rfl⟩,⟨_,_,rfl,rfl,rfl,rfl⟩,trivial⟩,by rw [hk]; decide⟩ ?_
 · exact ⟨0,by omega,by omega,rfl,rfl⟩
 ·intro ap os kk hI
  obtain ⟨j,hjk,hk0,hos,hap⟩ := hI
  have hol : os.length = j := by rw [hos,tRow_length]
  refine w_seq (w_seq (w_R (qm hnt rfl rfl (qo hnt rfl (s_gtr rfl rfl ?_)))))
  refine r_end (q_then (w_if rfl (fun c1 => ?_) (fun c1 => ?_)))
  ·try simp only [sB] at c1
   refine w_skip (q_then (w_seq (w_block (w_R (qm hnt rfl rfl ?_)))))
   refine qm hnt rfl rfl (qo hnt rfl (s_callX (r2 := pI (tNext L ap 256)) (nx1 := 2) (H2 := [(0,.obj [pS 1 false encI L,pN ap]),(1,oB true 1 enc8 os)]) (H3 := [(0,.obj [pS 1 false encI L,pN (tStep L ap 256)]),(1,oB true 1 enc8 os)]) [0] [.obj [pS 1 false encI L,pN ap]] rfl rfl rfl (handed_of (by decide) ⟨rfl,trivial⟩) rfl rfl rfl rfl rfl rfl (w_burgagekeep_Tape_Next L false ap 256 (by omega) (by omega)) rfl (dist_of rfl) rfl rfl rfl rfl ?_))
   refine qo hnt rfl (s_cv8 tab_3 tab_5 rfl rfl rfl ?_)
   refine qo hnt rfl (s_mkM (f := enc8) [u8I (tNext L ap 256)] tab_51 rfl tab_5 ⟨rfl,by decide⟩ (by decide) rfl rfl rfl rfl ?_)
   refine qo hnt rfl (s_appR0 (f := enc8) (l := os) (xs := [u8I (tNext L ap 256)]) tab_51 rfl tab_5 ⟨rfl,by decide,by decide⟩ (srcM tab_51 rfl (hM_ref0 (f := enc8) rfl rfl)) rfl rfl (by (simp; omega)) ?_)
   refine qa hnt rfl rfl (r_set [(0,PV.ptr 0 0),(5,PV.ref 3 0 none),(6,pI kk)] [(3,oB true 1 enc8 (os ++ [u8I (tNext L ap 256)])),(2,oB true 1 enc8 [u8I (tNext L ap 256)]),(0,.obj [pS 1 false encI L,pN (tStep L ap 256)])] 4 ⟨rfl,rfl,rfl,trivial⟩ rfl rfl (r_end (q_block (q_then (w_R ?_)))))
   refine qm hnt rfl rfl (qo hnt rfl (s_subi (r := kk - 1) rfl rfl rfl (by omega) ?_))
   refine qa hnt rfl rfl (r_end (q_then (⟨(tStep L ap 256),(os ++ [u8I (tNext L ap 256)]),(kk - 1), ?_, ?_,⟨[(0,0),(1,3)],by rw [hk]; decide,⟨⟨_,rfl,rfl,rfl⟩,⟨_,rfl,rfl,rfl⟩,⟨_,rfl,rfl,rfl⟩,trivial⟩,⟨⟨_,_,rfl,rfl,rfl,rfl⟩,⟨_,_,rfl,rfl,rfl,rfl⟩,trivial⟩,by rw [hk]; decide⟩⟩)))
   ·exact ⟨j + 1,by omega,by omega,tRow_1 u8I 256 L _ j hos hap,tRow_2 u8I 256 L _ j hap⟩
   · omega
  try simp only [sB] at c1
  have hje : (tNext L a (m + 1)).toNat = j := by omega
  refine w_exit (q_then_exit (q_then_exit (q_block_exit (q_then (w_seq ?_)))))
  refine w_R (qm hnt rfl rfl (qa hnt rfl rfl (r_end (q_then (w_frzM (s := 4) (f := enc8) rfl rfl view_0 ?_)))))
  refine w_le (s := 4) (y := pS 1 false enc8 ((tBytes L a m).1)) rfl (le_of_eq (congrArg (fun z => pS 1 false enc8 z) (show os = ((tBytes L a m).1) by (unfold tBytes; rw [hje,← hos]; done)))) (w_leO (n := 0) (ds := [pS 1 false encI L,pN ((tBytes L a m).2)]) rfl ⟨le_refl _,le_of_eq (congrArg (fun z : Nat => pN z) (show ap = ((tBytes L a m).2) by (unfold tBytes; rw [hje,← hap]; done))),trivial⟩ (w_ret ?_))
  exact fin_names (nx1 := 1) (H1 := [(0,.obj [pS 1 false encI L,pN ((tBytes L a m).2)])]) [(0,0)] (ret_tmp rfl ret_nil) rfl (by decide) ⟨⟨_,_,rfl,rfl,rfl,rfl⟩,trivial⟩ (by decide) rfl ⟨rfl,rfl,rfl⟩
end Go.Proofs.Ytljkbpgcglomfaa
set_option linter.unusedVariables false
namespace Go.Proofs.Ytljkbpgcglomfaa
open Go Go.Proofs.Ytljkbpgcglomfaa.Pv
def oddR (r : TReply) (what n : Int) : TReply :=
  if within what 0 8 = 0 then ⟨r.fn,r.code,n,r.count,r.sub,r.bits,r.vals,r.and_,r.or_,r.data⟩
  else if within what 0 8 = 1 then ⟨r.fn,r.code,r.at_,n,r.sub,r.bits,r.vals,r.and_,r.or_,r.data⟩
  else if within what 0 8 = 2 then ⟨r.fn,r.code,r.at_,r.count,n,r.bits,r.vals,r.and_,r.or_,r.data⟩
  else if within what 0 8 = 3 then ⟨r.fn,r.code,r.at_,r.count,r.sub,List.replicate (n % 2 ^ 12).toNat false,r.vals,r.and_,r.or_,r.data⟩
  else if within what 0 8 = 4 then ⟨r.fn,r.code,r.at_,r.count,r.sub,r.bits,List.replicate (n % 2 ^ 8).toNat 0,r.and_,r.or_,r.data⟩
  else if within what 0 8 = 5 then ⟨r.fn,r.code,r.at_,r.count,r.sub,r.bits,r.vals,r.and_,u16I n,r.data⟩
  else if within what 0 8 = 6 then ⟨n,r.code,r.at_,r.count,r.sub,r.bits,r.vals,r.and_,r.or_,r.data⟩
  else if within what 0 8 = 7 then ⟨r.fn,n,r.at_,r.count,r.sub,r.bits,r.vals,r.and_,r.or_,r.data⟩
  else ⟨r.fn,r.code,r.at_,r.count,r.sub,r.bits,r.vals,r.and_,r.or_,List.replicate (n % 2 ^ 9).toNat 0⟩
section
variable {r : TReply} {what n : Int}
theorem oddR_0 (h : within what 0 8 = 0) : oddR r what n = ⟨r.fn,r.code,n,r.count,r.sub,r.bits,r.vals,r.and_,r.or_,r.data⟩ := by unfold oddR; rw [if_pos h]
theorem oddR_1 (h : within what 0 8 = 1) : oddR r what n = ⟨r.fn,r.code,r.at_,n,r.sub,r.bits,r.vals,r.and_,r.or_,r.data⟩ := by unfold oddR; rw [if_neg (by omega),if_pos h]
theorem oddR_2 (h : within what 0 8 = 2) : oddR r what n = ⟨r.fn,r.code,r.at_,r.count,n,r.bits,r.vals,r.and_,r.or_,r.data⟩ := by unfold oddR; rw [if_neg (by omega),if_neg (by omega),if_pos h]
theorem oddR_3 (h : within what 0 8 = 3) : oddR r what n = ⟨r.fn,r.code,r.at_,r.count,r.sub,List.replicate (n % 2 ^ 12).toNat false,r.vals,r.and_,r.or_,r.data⟩ := by unfold oddR; rw [if_neg (by omega),if_neg (by omega),if_neg (by omega),if_pos h]
theorem oddR_4 (h : within what 0 8 = 4) : oddR r what n = ⟨r.fn,r.code,r.at_,r.count,r.sub,r.bits,List.replicate (n % 2 ^ 8).toNat 0,r.and_,r.or_,r.data⟩ := by unfold oddR; rw [if_neg (by omega),if_neg (by omega),if_neg (by omega),if_neg (by omega),if_pos h]
theorem oddR_5 (h : within what 0 8 = 5) : oddR r what n = ⟨r.fn,r.code,r.at_,r.count,r.sub,r.bits,r.vals,r.and_,u16I n,r.data⟩ := by unfold oddR; rw [if_neg (by omega),if_neg (by omega),if_neg (by omega),if_neg (by omega),if_neg (by omega),if_pos h]
theorem oddR_6 (h : within what 0 8 = 6) : oddR r what n = ⟨n,r.code,r.at_,r.count,r.sub,r.bits,r.vals,r.and_,r.or_,r.data⟩ := by unfold oddR; rw [if_neg (by omega),if_neg (by omega),if_neg (by omega),if_neg (by omega),if_neg (by omega),if_neg (by omega),if_pos h]
theorem oddR_7 (h : within what 0 8 = 7) : oddR r what n = ⟨r.fn,n,r.at_,r.count,r.sub,r.bits,r.vals,r.and_,r.or_,r.data⟩ := by unfold oddR; rw [if_neg (by omega),if_neg (by omega),if_neg (by omega),if_neg (by omega),if_neg (by omega),if_neg (by omega),if_neg (by omega),if_pos h]
theorem oddR_8 (h : within what 0 8 ≠ 0 ∧ within what 0 8 ≠ 1 ∧ within what 0 8 ≠ 2 ∧ within what 0 8 ≠ 3 ∧ within what 0 8 ≠ 4 ∧ within what 0 8 ≠ 5 ∧ within what 0 8 ≠ 6 ∧ within what 0 8 ≠ 7) :
    oddR r what n = ⟨r.fn,r.code,r.at_,r.count,r.sub,r.bits,r.vals,r.and_,r.or_,List.replicate (n % 2 ^ 9).toNat 0⟩ := by unfold oddR; rw [if_neg (by omega),if_neg (by omega),if_neg (by omega),if_neg (by omega),if_neg (by omega),if_neg (by omega),if_neg (by omega),if_neg (by omega)]
theorem oddR_len {M : Nat} (hM : 4096 ≤ M) (hr : r.bits.length ≤ M ∧ r.vals.length ≤ M ∧ r.data.length ≤ M) : (oddR r what n).bits.length ≤ M ∧ (oddR r what n).vals.length ≤ M ∧ (oddR r what n).data.length ≤ M := by
  obtain ⟨h1,h2,h3⟩ := hr
  have e12 : ∀ x : Int,(x % 2 ^ 12).toNat ≤ 4096 := fun x => by omega
  have e8 : ∀ x : Int,(x % 2 ^ 8).toNat ≤ 4096 := fun x => by omega
  have e9 : ∀ x : Int,(x % 2 ^ 9).toNat ≤ 4096 := fun x => by omega
  have f12 := e12 n
  have f8 := e8 n
  have f9 := e9 n
  unfold oddR
  repeat' split
  all_goals first|exact ⟨h1,h2,h3⟩|exact ⟨by rw [List.length_replicate]; omega,h2,h3⟩|exact ⟨h1,by rw [List.length_replicate]; omega,h3⟩|exact ⟨h1,h2,by rw [List.length_replicate]; omega⟩
end
def madeR (L : List Int) (q : TRequest) : TReply :=
  if tNext L 0 5 = 0 then refuseR q.fn (1 + tNext L (tStep L 0 5) 11)
  else if q.fn = 1 ∨ q.fn = 2 then ⟨q.fn,0,0,0,0,(tRow isOne 2 L (tStep L 0 5) q.count.toNat).1,[],0,0,[]⟩
  else if q.fn = 3 ∨ q.fn = 4 ∨ q.fn = 23 then ⟨q.fn,0,0,0,0,[],(tRow u16I 65536 L (tStep L 0 5) q.count.toNat).1,0,0,[]⟩
  else if q.fn = 15 ∨ q.fn = 16 then ⟨q.fn,0,q.at_,q.count,0,[],[],0,0,[]⟩
  else if q.fn = 17 then ⟨q.fn,0,0,0,0,[],[],0,0,(tBytes L (tStep L 0 5) 6).1⟩
  else ⟨q.fn,0,q.at_,0,q.sub,q.bits,q.vals,q.and_,q.or_,[]⟩
section
variable {L : List Int} {q : TRequest}
theorem madeR_no (h : tNext L 0 5 = 0) : madeR L q = refuseR q.fn (1 + tNext L (tStep L 0 5) 11) := by unfold madeR; rw [if_pos h]
variable (h : ¬ tNext L 0 5 = 0)
include h
theorem madeR_1 (k : q.fn = 1 ∨ q.fn = 2) {os : List Bool} {i : Nat} (ho : os = (tRow isOne 2 L (tStep L 0 5) i).1) (hi : q.count.toNat = i) : madeR L q = ⟨q.fn,0,0,0,0,os,[],0,0,[]⟩ := by subst ho; subst hi; unfold madeR; rw [if_neg h,if_pos k]
theorem madeR_3 (k : q.fn = 3 ∨ q.fn = 4 ∨ q.fn = 23) {os : List UInt16} {i : Nat} (ho : os = (tRow u16I 65536 L (tStep L 0 5) i).1) (hi : q.count.toNat = i) : madeR L q = ⟨q.fn,0,0,0,0,[],os,0,0,[]⟩ := by subst ho; subst hi; unfold madeR; rw [if_neg h,if_neg (by omega),if_pos k]
theorem madeR_15 (k : q.fn = 15 ∨ q.fn = 16) : madeR L q = ⟨q.fn,0,q.at_,q.count,0,[],[],0,0,[]⟩ := by unfold madeR; rw [if_neg h,if_neg (by omega),if_neg (by omega),if_pos k]
theorem madeR_17 (k : q.fn = 17) : madeR L q = ⟨q.fn,0,0,0,0,[],[],0,0,(tBytes L (tStep L 0 5) 6).1⟩ := by unfold madeR; rw [if_neg h,if_neg (by omega),if_neg (by omega),if_neg (by omega),if_pos k]
theorem madeR_5 (k : ¬ (q.fn = 1 ∨ q.fn = 2 ∨ q.fn = 3 ∨ q.fn = 4 ∨ q.fn = 23 ∨ q.fn = 15 ∨ q.fn = 16 ∨ q.fn = 17)) : madeR L q = ⟨q.fn,0,q.at_,0,q.sub,q.bits,q.vals,q.and_,q.or_,[]⟩ := by unfold madeR; rw [if_neg h,if_neg (by omega),if_neg (by omega),if_neg (by omega),if_neg (by omega)]
end
theorem madeR_ok (L : List Int) {q : TRequest} (hr0 : rightR q = 0) (hb : q.bits.length ≤ 25) (hv : q.vals.length ≤ 25) (hc0 : 0 ≤ q.count) (hc : q.count ≤ 25) :
    goodR (madeR L q) = 0 ∧ countOk (madeR L q) q ∧ (madeR L q).fn = q.fn ∧ (madeR L q).bits.length ≤ 25 ∧ (madeR L q).vals.length ≤ 25 ∧ (madeR L q).data.length ≤ 25 := by
  by_cases h : tNext L 0 5 = 0
  · rw [madeR_no h]
    have h11 := tNext_lt L (tStep L 0 5) (n := 11) (by decide)
    have h9 := made_no hr0 (c := 1 + tNext L (tStep L 0 5) 11) (by omega)
    exact ⟨h9.1,h9.2.1,h9.2.2,by simp [refuseR],by simp [refuseR],by simp [refuseR]⟩
  by_cases k1 : q.fn = 1 ∨ q.fn = 2
  · have hl := tRow_length isOne 2 L (tStep L 0 5) q.count.toNat
    rw [madeR_1 h k1 rfl rfl]
    have h9 := made_1 hr0 (os := (tRow isOne 2 L (tStep L 0 5) q.count.toNat).1) k1 (by omega) (by omega)
    exact ⟨h9.1,h9.2,rfl,by simp only; omega,by simp only [List.length_nil]; omega,by simp only [List.length_nil]; omega⟩
  by_cases k3 : q.fn = 3 ∨ q.fn = 4 ∨ q.fn = 23
  · have hl := tRow_length u16I 65536 L (tStep L 0 5) q.count.toNat
    rw [madeR_3 h k3 rfl rfl]
    have h9 := made_3 hr0 (os := (tRow u16I 65536 L (tStep L 0 5) q.count.toNat).1) k3 (by omega) (by omega)
    exact ⟨h9.1,h9.2,rfl,by simp only [List.length_nil]; omega,by simp only; omega,by simp only [List.length_nil]; omega⟩
  by_cases k15 : q.fn = 15 ∨ q.fn = 16
  · rw [madeR_15 h k15]
    have h9 := made_15 hr0 k15
    exact ⟨h9.1,h9.2,rfl,by simp only [List.length_nil]; omega,by simp only [List.length_nil]; omega,by simp only [List.length_nil]; omega⟩
  by_cases k17 : q.fn = 17
  · have hl := tBytes_len L (tStep L 0 5) (m := 6) (by decide)
    rw [madeR_17 h k17]
    have h9 := made_17 hr0 (d := (tBytes L (tStep L 0 5) 6).1) k17 (by omega)
    exact ⟨h9.1,h9.2,rfl,by simp only [List.length_nil]; omega,by simp only [List.length_nil]; omega,by simp only; omega⟩
  · rw [madeR_5 h (by omega)]
    have h9 := made_5 hr0 (by omega)
    exact ⟨h9.1,h9.2,rfl,hb,hv,by simp only [List.length_nil]; omega⟩
theorem takeW_len (g : List UInt8 → TRequest → TReply) (b : List UInt8) (q : TRequest) : (takeWith g b q).1.bits.length ≤ 2040 ∧ (takeWith g b q).1.vals.length ≤ 127 ∧ (takeWith g b q).1.data.length ≤ 250 := by
  unfold takeWith
  split
  · exact ⟨by simp [zeroA],by simp [zeroA],by simp [zeroA]⟩
  · split
    · exact ⟨by simp [zeroA],by simp [zeroA],by simp [zeroA]⟩
    · split
      · rename_i h
        rcases goodR_zero h.1 with ⟨_,hs⟩|⟨_,_,hs⟩
        · have e := hs.rest
          have e1 : (g b q).bits = [] := by rw [e]
          have e2 : (g b q).vals = [] := by rw [e]
          have e3 : (g b q).data = [] := by rw [e]
          exact ⟨by simp [e1],by simp [e2],by simp [e3]⟩
        · exact ⟨hs.lb,hs.lv,hs.ld⟩
      · exact ⟨by simp [zeroA],by simp [zeroA],by simp [zeroA]⟩
end Go.Proofs.Ytljkbpgcglomfaa
set_option linter.unusedVariables false
set_option linter.unusedSimpArgs false
set_option maxRecDepth 10000
set_option maxHeartbeats 1000000
namespace Go.Proofs.Ytljkbpgcglomfaa
open Go Go.Proofs.Ytljkbpgcglomfaa.Pv
theorem w_burgagelaw4_odd (r : TReply) (what : Int) (n : Int) (hn : -9223372036854775808 ≤ n ∧ n ≤ 9223372036854775807) (hr : r.bits.length ≤ 140737488351232 ∧ r.vals.length ≤ 70368744175616 ∧ r.data.length ≤ 140737488351232) :
    T Try.prog 23 [PV.f (eReply r),pI what,pI n] 0 [] (Ret (PV.f (eReply (oddR r what n))) 0 []) := by
 refine t_fun tabOk (n := 51) (rs := [.cell 6 53]) Try.func23 rfl rfl rfl rfl (Nat.le_of_ble_eq_true rfl) ?_
 intro c hnt hk
 refine w_seq (w_R (qo hnt rfl (s_box rfl rfl ?_)))
 refine qo hnt rfl (s_alloc tab_53 ?_)
 refine r_set [(1,pI what),(2,pI n),(3,PV.ptr 0 0),(6,PV.ptr 1 0)] [(1,.obj [pI 0,pI 0,pI 0,pI 0,pI 0,pNil,pNil,p16 0,p16 0,pNil]),(0,.obj (cReply r))] 2 ⟨rfl,rfl,rfl,rfl,trivial⟩ rfl rfl (r_end (q_then (w_seq (w_seq (w_R ?_)))))
 refine qm hnt rfl rfl (qo hnt rfl (s_callF rfl rfl rfl (w_burgagebook_Within what 0 8 (by omega)) rfl ?_))
 refine r_end (q_then (w_block (w_seq (w_R (qo hnt rfl (s_eql rfl rfl ?_))))))
 refine qa hnt rfl rfl (r_end (q_then (w_if rfl (fun c1 => ?_) (fun c1 => ?_))))
 ·try simp only [sB] at c1
  refine w_R (qm hnt rfl rfl (qo hnt rfl (s_fa_ptr tab_53 rfl rfl tab_3 (by decide) rfl ?_)))
  refine qo hnt rfl (s_store_ptr tab_3 rfl rfl rfl rfl rfl (Nat.le_of_ble_eq_true rfl) ?_)
  refine r_set [(3,PV.ptr 0 0),(6,PV.ptr 1 0)] [(0,.obj [pI r.fn,pI r.code,pI n,pI r.count,pI r.sub,pS 1 false encBo r.bits,pS 1 false enc16 r.vals,p16 r.and_,p16 r.or_,pS 1 false enc8 r.data]),(1,.obj [pI 0,pI 0,pI 0,pI 0,pI 0,pNil,pNil,p16 0,p16 0,pNil])] 2 ⟨rfl,rfl,trivial⟩ rfl rfl (r_end (q_block (q_then (w_seq (w_R ?_)))))
  refine qo hnt rfl (s_load_ptr tab_53 rfl rfl rfl (Nat.le_of_ble_eq_true rfl) ?_)
  refine qo hnt rfl (s_store_ptr tab_53 rfl rfl rfl rfl rfl (Nat.le_of_ble_eq_true rfl) ?_)
  refine r_set [(6,PV.ptr 1 0)] [(1,.obj [pI r.fn,pI r.code,pI n,pI r.count,pI r.sub,pS 1 false encBo r.bits,pS 1 false enc16 r.vals,p16 r.and_,p16 r.or_,pS 1 false enc8 r.data]),(0,.obj [pI r.fn,pI r.code,pI n,pI r.count,pI r.sub,pS 1 false encBo r.bits,pS 1 false enc16 r.vals,p16 r.and_,p16 r.or_,pS 1 false enc8 r.data])] 2 ⟨rfl,trivial⟩ rfl rfl (r_end (q_then ?_))
  have hz1 : r.fn = ((oddR r what n).fn) ∧ r.code = ((oddR r what n).code) ∧ n = ((oddR r what n).at_) ∧ r.count = ((oddR r what n).count) ∧ r.sub = ((oddR r what n).sub) ∧ r.bits = ((oddR r what n).bits) ∧ r.vals = ((oddR r what n).vals) ∧ r.and_ = ((oddR r what n).and_) ∧ r.or_ = ((oddR r what n).or_) ∧ r.data = ((oddR r what n).data) := by and_intros <;> ((rw [oddR_0 (by omega)]; done))
  refine w_leO (n := 1) (ds := cReply (oddR r what n)) rfl ⟨le_of_eq (congrArg pI hz1.1),le_of_eq (congrArg pI hz1.2.1),le_of_eq (congrArg pI hz1.2.2.1),le_of_eq (congrArg pI hz1.2.2.2.1),le_of_eq (congrArg pI hz1.2.2.2.2.1),le_of_eq (congrArg (fun z => pS 1 false encBo z) hz1.2.2.2.2.2.1),le_of_eq (congrArg (fun z => pS 1 false enc16 z) hz1.2.2.2.2.2.2.1),le_of_eq (congrArg p16 hz1.2.2.2.2.2.2.2.1),le_of_eq (congrArg p16 hz1.2.2.2.2.2.2.2.2.1),le_of_eq (congrArg (fun z => pS 1 false enc8 z) hz1.2.2.2.2.2.2.2.2.2),trivial⟩ (w_ret ?_)
  exact fin_plain (ret_cell tab_53 (by decide) rfl rfl (Nat.le_of_ble_eq_true rfl) rfl ret_nil) rfl rfl ⟨rfl,rfl,rfl⟩
 try simp only [sB] at c1
 refine w_seq (w_R (qo hnt rfl (s_eql rfl rfl ?_)))
 refine qa hnt rfl rfl (r_end (q_then (w_if rfl (fun c2 => ?_) (fun c2 => ?_))))
 ·try simp only [sB] at c2
  refine w_R (qm hnt rfl rfl (qo hnt rfl (s_fa_ptr tab_53 rfl rfl tab_3 (by decide) rfl ?_)))
  refine qo hnt rfl (s_store_ptr tab_3 rfl rfl rfl rfl rfl (Nat.le_of_ble_eq_true rfl) ?_)
  refine r_set [(3,PV.ptr 0 0),(6,PV.ptr 1 0)] [(0,.obj [pI r.fn,pI r.code,pI r.at_,pI n,pI r.sub,pS 1 false encBo r.bits,pS 1 false enc16 r.vals,p16 r.and_,p16 r.or_,pS 1 false enc8 r.data]),(1,.obj [pI 0,pI 0,pI 0,pI 0,pI 0,pNil,pNil,p16 0,p16 0,pNil])] 2 ⟨rfl,rfl,trivial⟩ rfl rfl (r_end (q_block (q_then (w_seq (w_R ?_)))))
  refine qo hnt rfl (s_load_ptr tab_53 rfl rfl rfl (Nat.le_of_ble_eq_true rfl) ?_)
  refine qo hnt rfl (s_store_ptr tab_53 rfl rfl rfl rfl rfl (Nat.le_of_ble_eq_true rfl) ?_)
  refine r_set [(6,PV.ptr 1 0)] [(1,.obj [pI r.fn,pI r.code,pI r.at_,pI n,pI r.sub,pS 1 false encBo r.bits,pS 1 false enc16 r.vals,p16 r.and_,p16 r.or_,pS 1 false enc8 r.data]),(0,.obj [pI r.fn,pI r.code,pI r.at_,pI n,pI r.sub,pS 1 false encBo r.bits,pS 1 false enc16 r.vals,p16 r.and_,p16 r.or_,pS 1 false enc8 r.data])] 2 ⟨rfl,trivial⟩ rfl rfl (r_end (q_then ?_))
  have hz2 : r.fn = ((oddR r what n).fn) ∧ r.code = ((oddR r what n).code) ∧ r.at_ = ((oddR r what n).at_) ∧ n = ((oddR r what n).count) ∧ r.sub = ((oddR r what n).sub) ∧ r.bits = ((oddR r what n).bits) ∧ r.vals = ((oddR r what n).vals) ∧ r.and_ = ((oddR r what n).and_) ∧ r.or_ = ((oddR r what n).or_) ∧ r.data = ((oddR r what n).data) := by and_intros <;> ((rw [oddR_1 (by omega)]; done))
  refine w_leO (n := 1) (ds := cReply (oddR r what n)) rfl ⟨le_of_eq (congrArg pI hz2.1),le_of_eq (congrArg pI hz2.2.1),le_of_eq (congrArg pI hz2.2.2.1),le_of_eq (congrArg pI hz2.2.2.2.1),le_of_eq (congrArg pI hz2.2.2.2.2.1),le_of_eq (congrArg (fun z => pS 1 false encBo z) hz2.2.2.2.2.2.1),le_of_eq (congrArg (fun z => pS 1 false enc16 z) hz2.2.2.2.2.2.2.1),le_of_eq (congrArg p16 hz2.2.2.2.2.2.2.2.1),le_of_eq (congrArg p16 hz2.2.2.2.2.2.2.2.2.1),le_of_eq (congrArg (fun z => pS 1 false enc8 z) hz2.2.2.2.2.2.2.2.2.2),trivial⟩ (w_ret ?_)
  exact fin_plain (ret_cell tab_53 (by decide) rfl rfl (Nat.le_of_ble_eq_true rfl) rfl ret_nil) rfl rfl ⟨rfl,rfl,rfl⟩
 try simp only [sB] at c2
 refine w_seq (w_R (qo hnt rfl (s_eql rfl rfl ?_)))
 refine qa hnt rfl rfl (r_end (q_then (w_if rfl (fun c3 => ?_) (fun c3 => ?_))))
 ·try simp only [sB] at c3
  refine w_R (qm hnt rfl rfl (qo hnt rfl (s_fa_ptr tab_53 rfl rfl tab_3 (by decide) rfl ?_)))
  refine qo hnt rfl (s_store_ptr tab_3 rfl rfl rfl rfl rfl (Nat.le_of_ble_eq_true rfl) ?_)
  refine r_set [(3,PV.ptr 0 0),(6,PV.ptr 1 0)] [(0,.obj [pI r.fn,pI r.code,pI r.at_,pI r.count,pI n,pS 1 false encBo r.bits,pS 1 false enc16 r.vals,p16 r.and_,p16 r.or_,pS 1 false enc8 r.data]),(1,.obj [pI 0,pI 0,pI 0,pI 0,pI 0,pNil,pNil,p16 0,p16 0,pNil])] 2 ⟨rfl,rfl,trivial⟩ rfl rfl (r_end (q_block (q_then (w_seq (w_R ?_)))))
  refine qo hnt rfl (s_load_ptr tab_53 rfl rfl rfl (Nat.le_of_ble_eq_true rfl) ?_)
  refine qo hnt rfl (s_store_ptr tab_53 rfl rfl rfl rfl rfl (Nat.le_of_ble_eq_true rfl) ?_)
  refine r_set [(6,PV.ptr 1 0)] [(1,.obj [pI r.fn,pI r.code,pI r.at_,pI r.count,pI n,pS 1 false encBo r.bits,pS 1 false enc16 r.vals,p16 r.and_,p16 r.or_,pS 1 false enc8 r.data]),(0,.obj [pI r.fn,pI r.code,pI r.at_,pI r.count,pI n,pS 1 false encBo r.bits,pS 1 false enc16 r.vals,p16 r.and_,p16 r.or_,pS 1 false enc8 r.data])] 2 ⟨rfl,trivial⟩ rfl rfl (r_end (q_then ?_))
  have hz3 : r.fn = ((oddR r what n).fn) ∧ r.code = ((oddR r what n).code) ∧ r.at_ = ((oddR r what n).at_) ∧ r.count = ((oddR r what n).count) ∧ n = ((oddR r what n).sub) ∧ r.bits = ((oddR r what n).bits) ∧ r.vals = ((oddR r what n).vals) ∧ r.and_ = ((oddR r what n).and_) ∧ r.or_ = ((oddR r what n).or_) ∧ r.data = ((oddR r what n).data) := by and_intros <;> ((rw [oddR_2 (by omega)]; done))
  refine w_leO (n := 1) (ds := cReply (oddR r what n)) rfl ⟨le_of_eq (congrArg pI hz3.1),le_of_eq (congrArg pI hz3.2.1),le_of_eq (congrArg pI hz3.2.2.1),le_of_eq (congrArg pI hz3.2.2.2.1),le_of_eq (congrArg pI hz3.2.2.2.2.1),le_of_eq (congrArg (fun z => pS 1 false encBo z) hz3.2.2.2.2.2.1),le_of_eq (congrArg (fun z => pS 1 false enc16 z) hz3.2.2.2.2.2.2.1),le_of_eq (congrArg p16 hz3.2.2.2.2.2.2.2.1),le_of_eq (congrArg p16 hz3.2.2.2.2.2.2.2.2.1),le_of_eq (congrArg (fun z => pS 1 false enc8 z) hz3.2.2.2.2.2.2.2.2.2),trivial⟩ (w_ret ?_)
  exact fin_plain (ret_cell tab_53 (by decide) rfl rfl (Nat.le_of_ble_eq_true rfl) rfl ret_nil) rfl rfl ⟨rfl,rfl,rfl⟩
 try simp only [sB] at c3
 refine w_seq (w_R (qo hnt rfl (s_eql rfl rfl ?_)))
 refine qa hnt rfl rfl (r_end (q_then (w_if rfl (fun c4 => ?_) (fun c4 => ?_))))
 ·try simp only [sB] at c4
  refine w_R (qm hnt rfl rfl (qo hnt rfl (s_maskI 12 (by decide) rfl rfl (by decide) ?_)))
  refine qo hnt rfl (s_makeM (f := encBo) (bt := 1) tab_one false ((n % 2 ^ 12).toNat) (fun j hj => by cases hj; rfl) tab_42 rfl tab_4 ⟨rfl,by decide⟩ rfl rfl rfl (by omega) (by refine ⟨?_, ?_, ?_⟩ <;> omega) ?_)
  refine qo hnt rfl (s_fa_ptr tab_53 rfl rfl tab_42 (by decide) rfl ?_)
  refine qo hnt rfl (s_store_ptr tab_42 rfl rfl rfl rfl rfl (Nat.le_of_ble_eq_true rfl) ?_)
  refine r_set [(3,PV.ptr 0 0),(6,PV.ptr 1 0)] [(0,.obj [pI r.fn,pI r.code,pI r.at_,pI r.count,pI r.sub,PV.ref 2 0 none,pS 1 false enc16 r.vals,p16 r.and_,p16 r.or_,pS 1 false enc8 r.data]),(2,oB true 1 encBo (List.replicate ((n % 2 ^ 12).toNat) false)),(1,.obj [pI 0,pI 0,pI 0,pI 0,pI 0,pNil,pNil,p16 0,p16 0,pNil])] 3 ⟨rfl,rfl,trivial⟩ rfl rfl (r_end (q_block (q_then (w_seq (w_R ?_)))))
  refine qo hnt rfl (s_load_ptr tab_53 rfl rfl rfl (Nat.le_of_ble_eq_true rfl) ?_)
  refine qo hnt rfl (s_store_ptr tab_53 rfl rfl rfl rfl rfl (Nat.le_of_ble_eq_true rfl) ?_)
  refine r_set [(6,PV.ptr 1 0)] [(1,.obj [pI r.fn,pI r.code,pI r.at_,pI r.count,pI r.sub,PV.ref 2 0 none,pS 1 false enc16 r.vals,p16 r.and_,p16 r.or_,pS 1 false enc8 r.data]),(0,.obj [pI r.fn,pI r.code,pI r.at_,pI r.count,pI r.sub,PV.ref 2 0 none,pS 1 false enc16 r.vals,p16 r.and_,p16 r.or_,pS 1 false enc8 r.data]),(2,oB true 1 encBo (List.replicate ((n % 2 ^ 12).toNat) false))] 3 ⟨rfl,trivial⟩ rfl rfl (r_end (q_then (w_frzC (n := 1) (j := 5) rfl rfl rfl rfl ?_)))
  have hz4 : (List.replicate ((n % 2 ^ 12).toNat) false) = ((oddR r what n).bits) := by ((rw [oddR_3 (by omega)]; done))
  refine w_leO (n := 1) (ds := [pI r.fn,pI r.code,pI r.at_,pI r.count,pI r.sub,pS 1 false encBo ((oddR r what n).bits),pS 1 false enc16 r.vals,p16 r.and_,p16 r.or_,pS 1 false enc8 r.data]) rfl ⟨le_refl _,le_refl _,le_refl _,le_refl _,le_refl _,le_of_eq (congrArg (fun z => pS 1 false encBo z) hz4),le_refl _,le_refl _,le_refl _,le_refl _,trivial⟩ ?_
  have hz5 : r.fn = ((oddR r what n).fn) ∧ r.code = ((oddR r what n).code) ∧ r.at_ = ((oddR r what n).at_) ∧ r.count = ((oddR r what n).count) ∧ r.sub = ((oddR r what n).sub) ∧ r.vals = ((oddR r what n).vals) ∧ r.and_ = ((oddR r what n).and_) ∧ r.or_ = ((oddR r what n).or_) ∧ r.data = ((oddR r what n).data) := by and_intros <;> ((rw [oddR_3 (by omega)]; done))
  refine w_leO (n := 1) (ds := cReply (oddR r what n)) rfl ⟨le_of_eq (congrArg pI hz5.1),le_of_eq (congrArg pI hz5.2.1),le_of_eq (congrArg pI hz5.2.2.1),le_of_eq (congrArg pI hz5.2.2.2.1),le_of_eq (congrArg pI hz5.2.2.2.2.1),le_refl _,le_of_eq (congrArg (fun z => pS 1 false enc16 z) hz5.2.2.2.2.2.1),le_of_eq (congrArg p16 hz5.2.2.2.2.2.2.1),le_of_eq (congrArg p16 hz5.2.2.2.2.2.2.2.1),le_of_eq (congrArg (fun z => pS 1 false enc8 z) hz5.2.2.2.2.2.2.2.2),trivial⟩ (w_ret ?_)
  exact fin_plain (ret_cell tab_53 (by decide) rfl rfl (Nat.le_of_ble_eq_true rfl) rfl ret_nil) rfl rfl ⟨rfl,rfl,rfl⟩
 try simp only [sB] at c4
 refine w_seq (w_R (qo hnt rfl (s_eql rfl rfl ?_)))
 refine qa hnt rfl rfl (r_end (q_then (w_if rfl (fun c5 => ?_) (fun c5 => ?_))))
 ·try simp only [sB] at c5
  refine w_R (qm hnt rfl rfl (qo hnt rfl (s_maskI 8 (by decide) rfl rfl (by decide) ?_)))
  refine qo hnt rfl (s_makeM (f := enc16) (bt := 2) tab_one (0 : UInt16) ((n % 2 ^ 8).toNat) (fun j hj => by cases hj; rfl) tab_43 rfl tab_44 ⟨rfl,by decide⟩ rfl rfl rfl (by omega) (by refine ⟨?_, ?_, ?_⟩ <;> omega) ?_)
  refine qo hnt rfl (s_fa_ptr tab_53 rfl rfl tab_43 (by decide) rfl ?_)
  refine qo hnt rfl (s_store_ptr tab_43 rfl rfl rfl rfl rfl (Nat.le_of_ble_eq_true rfl) ?_)
  refine r_set [(3,PV.ptr 0 0),(6,PV.ptr 1 0)] [(0,.obj [pI r.fn,pI r.code,pI r.at_,pI r.count,pI r.sub,pS 1 false encBo r.bits,PV.ref 2 0 none,p16 r.and_,p16 r.or_,pS 1 false enc8 r.data]),(2,oB true 1 enc16 (List.replicate ((n % 2 ^ 8).toNat) (0 : UInt16))),(1,.obj [pI 0,pI 0,pI 0,pI 0,pI 0,pNil,pNil,p16 0,p16 0,pNil])] 3 ⟨rfl,rfl,trivial⟩ rfl rfl (r_end (q_block (q_then (w_seq (w_R ?_)))))
  refine qo hnt rfl (s_load_ptr tab_53 rfl rfl rfl (Nat.le_of_ble_eq_true rfl) ?_)
  refine qo hnt rfl (s_store_ptr tab_53 rfl rfl rfl rfl rfl (Nat.le_of_ble_eq_true rfl) ?_)
  refine r_set [(6,PV.ptr 1 0)] [(1,.obj [pI r.fn,pI r.code,pI r.at_,pI r.count,pI r.sub,pS 1 false encBo r.bits,PV.ref 2 0 none,p16 r.and_,p16 r.or_,pS 1 false enc8 r.data]),(0,.obj [pI r.fn,pI r.code,pI r.at_,pI r.count,pI r.sub,pS 1 false encBo r.bits,PV.ref 2 0 none,p16 r.and_,p16 r.or_,pS 1 false enc8 r.data]),(2,oB true 1 enc16 (List.replicate ((n % 2 ^ 8).toNat) (0 : UInt16)))] 3 ⟨rfl,trivial⟩ rfl rfl (r_end (q_then (w_frzC (n := 1) (j := 6) rfl rfl rfl rfl ?_)))
  have hz6 : (List.replicate ((n % 2 ^ 8).toNat) (0 : UInt16)) = ((oddR r what n).vals) := by ((rw [oddR_4 (by omega)]; done))
  refine w_leO (n := 1) (ds := [pI r.fn,pI r.code,pI r.at_,pI r.count,pI r.sub,pS 1 false encBo r.bits,pS 1 false enc16 ((oddR r what n).vals),p16 r.and_,p16 r.or_,pS 1 false enc8 r.data]) rfl ⟨le_refl _,le_refl _,le_refl _,le_refl _,le_refl _,le_refl _,le_of_eq (congrArg (fun z => pS 1 false enc16 z) hz6),le_refl _,le_refl _,le_refl _,trivial⟩ ?_
  have hz7 : r.fn = ((oddR r what n).fn) ∧ r.code = ((oddR r what n).code) ∧ r.at_ = ((oddR r what n).at_) ∧ r.count = ((oddR r what n).count) ∧ r.sub = ((oddR r what n).sub) ∧ r.bits = ((oddR r what n).bits) ∧ r.and_ = ((oddR r what n).and_) ∧ r.or_ = ((oddR r what n).or_) ∧ r.data = ((oddR r what n).data) := by and_intros <;> ((rw [oddR_4 (by omega)]; done))
  refine w_leO (n := 1) (ds := cReply (oddR r what n)) rfl ⟨le_of_eq (congrArg pI hz7.1),le_of_eq (congrArg pI hz7.2.1),le_of_eq (congrArg pI hz7.2.2.1),le_of_eq (congrArg pI hz7.2.2.2.1),le_of_eq (congrArg pI hz7.2.2.2.2.1),le_of_eq (congrArg (fun z => pS 1 false encBo z) hz7.2.2.2.2.2.1),le_refl _,le_of_eq (congrArg p16 hz7.2.2.2.2.2.2.1),le_of_eq (congrArg p16 hz7.2.2.2.2.2.2.2.1),le_of_eq (congrArg (fun z => pS 1 false enc8 z) hz7.2.2.2.2.2.2.2.2),trivial⟩ (w_ret ?_)
  exact fin_plain (ret_cell tab_53 (by decide) rfl rfl (Nat.le_of_ble_eq_true rfl) rfl ret_nil) rfl rfl ⟨rfl,rfl,rfl⟩
 try simp only [sB] at c5
 refine w_seq (w_R (qo hnt rfl (s_eql rfl rfl ?_)))
 refine qa hnt rfl rfl (r_end (q_then (w_if rfl (fun c6 => ?_) (fun c6 => ?_))))
 ·try simp only [sB] at c6
  refine w_R (qm hnt rfl rfl (qo hnt rfl (s_cv16 tab_3 tab_44 rfl rfl rfl ?_)))
  refine qo hnt rfl (s_fa_ptr tab_53 rfl rfl tab_44 (by decide) rfl ?_)
  refine qo hnt rfl (s_store_ptr tab_44 rfl rfl rfl rfl rfl (Nat.le_of_ble_eq_true rfl) ?_)
  refine r_set [(3,PV.ptr 0 0),(6,PV.ptr 1 0)] [(0,.obj [pI r.fn,pI r.code,pI r.at_,pI r.count,pI r.sub,pS 1 false encBo r.bits,pS 1 false enc16 r.vals,p16 r.and_,p16 (u16I n),pS 1 false enc8 r.data]),(1,.obj [pI 0,pI 0,pI 0,pI 0,pI 0,pNil,pNil,p16 0,p16 0,pNil])] 2 ⟨rfl,rfl,trivial⟩ rfl rfl (r_end (q_block (q_then (w_seq (w_R ?_)))))
  refine qo hnt rfl (s_load_ptr tab_53 rfl rfl rfl (Nat.le_of_ble_eq_true rfl) ?_)
  refine qo hnt rfl (s_store_ptr tab_53 rfl rfl rfl rfl rfl (Nat.le_of_ble_eq_true rfl) ?_)
  refine r_set [(6,PV.ptr 1 0)] [(1,.obj [pI r.fn,pI r.code,pI r.at_,pI r.count,pI r.sub,pS 1 false encBo r.bits,pS 1 false enc16 r.vals,p16 r.and_,p16 (u16I n),pS 1 false enc8 r.data]),(0,.obj [pI r.fn,pI r.code,pI r.at_,pI r.count,pI r.sub,pS 1 false encBo r.bits,pS 1 false enc16 r.vals,p16 r.and_,p16 (u16I n),pS 1 false enc8 r.data])] 2 ⟨rfl,trivial⟩ rfl rfl (r_end (q_then ?_))
  have hz8 : r.fn = ((oddR r what n).fn) ∧ r.code = ((oddR r what n).code) ∧ r.at_ = ((oddR r what n).at_) ∧ r.count = ((oddR r what n).count) ∧ r.sub = ((oddR r what n).sub) ∧ r.bits = ((oddR r what n).bits) ∧ r.vals = ((oddR r what n).vals) ∧ r.and_ = ((oddR r what n).and_) ∧ (u16I n) = ((oddR r what n).or_) ∧ r.data = ((oddR r what n).data) := by and_intros <;> ((rw [oddR_5 (by omega)]; done))
  refine w_leO (n := 1) (ds := cReply (oddR r what n)) rfl ⟨le_of_eq (congrArg pI hz8.1),le_of_eq (congrArg pI hz8.2.1),le_of_eq (congrArg pI hz8.2.2.1),le_of_eq (congrArg pI hz8.2.2.2.1),le_of_eq (congrArg pI hz8.2.2.2.2.1),le_of_eq (congrArg (fun z => pS 1 false encBo z) hz8.2.2.2.2.2.1),le_of_eq (congrArg (fun z => pS 1 false enc16 z) hz8.2.2.2.2.2.2.1),le_of_eq (congrArg p16 hz8.2.2.2.2.2.2.2.1),le_of_eq (congrArg p16 hz8.2.2.2.2.2.2.2.2.1),le_of_eq (congrArg (fun z => pS 1 false enc8 z) hz8.2.2.2.2.2.2.2.2.2),trivial⟩ (w_ret ?_)
  exact fin_plain (ret_cell tab_53 (by decide) rfl rfl (Nat.le_of_ble_eq_true rfl) rfl ret_nil) rfl rfl ⟨rfl,rfl,rfl⟩
 try simp only [sB] at c6
 refine w_seq (w_R (qo hnt rfl (s_eql rfl rfl ?_)))
 refine qa hnt rfl rfl (r_end (q_then (w_if rfl (fun c7 => ?_) (fun c7 => ?_))))
 ·try simp only [sB] at c7
  refine w_R (qm hnt rfl rfl (qo hnt rfl (s_fa_ptr tab_53 rfl rfl tab_3 (by decide) rfl ?_)))
  refine qo hnt rfl (s_store_ptr tab_3 rfl rfl rfl rfl rfl (Nat.le_of_ble_eq_true rfl) ?_)
  refine r_set [(3,PV.ptr 0 0),(6,PV.ptr 1 0)] [(0,.obj [pI n,pI r.code,pI r.at_,pI r.count,pI r.sub,pS 1 false encBo r.bits,pS 1 false enc16 r.vals,p16 r.and_,p16 r.or_,pS 1 false enc8 r.data]),(1,.obj [pI 0,pI 0,pI 0,pI 0,pI 0,pNil,pNil,p16 0,p16 0,pNil])] 2 ⟨rfl,rfl,trivial⟩ rfl rfl (r_end (q_block (q_then (w_seq (w_R ?_)))))
  refine qo hnt rfl (s_load_ptr tab_53 rfl rfl rfl (Nat.le_of_ble_eq_true rfl) ?_)
  refine qo hnt rfl (s_store_ptr tab_53 rfl rfl rfl rfl rfl (Nat.le_of_ble_eq_true rfl) ?_)
  refine r_set [(6,PV.ptr 1 0)] [(1,.obj [pI n,pI r.code,pI r.at_,pI r.count,pI r.sub,pS 1 false encBo r.bits,pS 1 false enc16 r.vals,p16 r.and_,p16 r.or_,pS 1 false enc8 r.data]),(0,.obj [pI n,pI r.code,pI r.at_,pI r.count,pI r.sub,pS 1 false encBo r.bits,pS 1 false enc16 r.vals,p16 r.and_,p16 r.or_,pS 1 false enc8 r.data])] 2 ⟨rfl,trivial⟩ rfl rfl (r_end (q_then ?_))
  have hz9 : n = ((oddR r what n).fn) ∧ r.code = ((oddR r what n).code) ∧ r.at_ = ((oddR r what n).at_) ∧ r.count = ((oddR r what n).count) ∧ r.sub = ((oddR r what n).sub) ∧ r.bits = ((oddR r what n).bits) ∧ r.vals = ((oddR r what n).vals) ∧ r.and_ = ((oddR r what n).and_) ∧ r.or_ = ((oddR r what n).or_) ∧ r.data = ((oddR r what n).data) := by and_intros <;> ((rw [oddR_6 (by omega)]; done))
  refine w_leO (n := 1) (ds := cReply (oddR r what n)) rfl ⟨le_of_eq (congrArg pI hz9.1),le_of_eq (congrArg pI hz9.2.1),le_of_eq (congrArg pI hz9.2.2.1),le_of_eq (congrArg pI hz9.2.2.2.1),le_of_eq (congrArg pI hz9.2.2.2.2.1),le_of_eq (congrArg (fun z => pS 1 false encBo z) hz9.2.2.2.2.2.1),le_of_eq (congrArg (fun z => pS 1 false enc16 z) hz9.2.2.2.2.2.2.1),le_of_eq (congrArg p16 hz9.2.2.2.2.2.2.2.1),le_of_eq (congrArg p16 hz9.2.2.2.2.2.2.2.2.1),le_of_eq (congrArg (fun z => pS 1 false enc8 z) hz9.2.2.2.2.2.2.2.2.2),trivial⟩ (w_ret ?_)
  exact fin_plain (ret_cell tab_53 (by decide) rfl rfl (Nat.le_of_ble_eq_true rfl) rfl ret_nil) rfl rfl ⟨rfl,rfl,rfl⟩
 try simp only [sB] at c7
 refine w_seq (w_R (qo hnt rfl (s_eql rfl rfl ?_)))
 refine qa hnt rfl rfl (r_end (q_then (w_if rfl (fun c8 => ?_) (fun c8 => ?_))))
 ·try simp only [sB] at c8
  refine w_R (qm hnt rfl rfl (qo hnt rfl (s_fa_ptr tab_53 rfl rfl tab_3 (by decide) rfl ?_)))
  refine qo hnt rfl (s_store_ptr tab_3 rfl rfl rfl rfl rfl (Nat.le_of_ble_eq_true rfl) ?_)
  refine r_set [(3,PV.ptr 0 0),(6,PV.ptr 1 0)] [(0,.obj [pI r.fn,pI n,pI r.at_,pI r.count,pI r.sub,pS 1 false encBo r.bits,pS 1 false enc16 r.vals,p16 r.and_,p16 r.or_,pS 1 false enc8 r.data]),(1,.obj [pI 0,pI 0,pI 0,pI 0,pI 0,pNil,pNil,p16 0,p16 0,pNil])] 2 ⟨rfl,rfl,trivial⟩ rfl rfl (r_end (q_block (q_then (w_seq (w_R ?_)))))
  refine qo hnt rfl (s_load_ptr tab_53 rfl rfl rfl (Nat.le_of_ble_eq_true rfl) ?_)
  refine qo hnt rfl (s_store_ptr tab_53 rfl rfl rfl rfl rfl (Nat.le_of_ble_eq_true rfl) ?_)
  refine r_set [(6,PV.ptr 1 0)] [(1,.obj [pI r.fn,pI n,pI r.at_,pI r.count,pI r.sub,pS 1 false encBo r.bits,pS 1 false enc16 r.vals,p16 r.and_,p16 r.or_,pS 1 false enc8 r.data]),(0,.obj [pI r.fn,pI n,pI r.at_,pI r.count,pI r.sub,pS 1 false encBo r.bits,pS 1 false enc16 r.vals,p16 r.and_,p16 r.or_,pS 1 false enc8 r.data])] 2 ⟨rfl,trivial⟩ rfl rfl (r_end (q_then ?_))
  have hz10 : r.fn = ((oddR r what n).fn) ∧ n = ((oddR r what n).code) ∧ r.at_ = ((oddR r what n).at_) ∧ r.count = ((oddR r what n).count) ∧ r.sub = ((oddR r what n).sub) ∧ r.bits = ((oddR r what n).bits) ∧ r.vals = ((oddR r what n).vals) ∧ r.and_ = ((oddR r what n).and_) ∧ r.or_ = ((oddR r what n).or_) ∧ r.data = ((oddR r what n).data) := by and_intros <;> ((rw [oddR_7 (by omega)]; done))
  refine w_leO (n := 1) (ds := cReply (oddR r what n)) rfl ⟨le_of_eq (congrArg pI hz10.1),le_of_eq (congrArg pI hz10.2.1),le_of_eq (congrArg pI hz10.2.2.1),le_of_eq (congrArg pI hz10.2.2.2.1),le_of_eq (congrArg pI hz10.2.2.2.2.1),le_of_eq (congrArg (fun z => pS 1 false encBo z) hz10.2.2.2.2.2.1),le_of_eq (congrArg (fun z => pS 1 false enc16 z) hz10.2.2.2.2.2.2.1),le_of_eq (congrArg p16 hz10.2.2.2.2.2.2.2.1),le_of_eq (congrArg p16 hz10.2.2.2.2.2.2.2.2.1),le_of_eq (congrArg (fun z => pS 1 false enc8 z) hz10.2.2.2.2.2.2.2.2.2),trivial⟩ (w_ret ?_)
  exact fin_plain (ret_cell tab_53 (by decide) rfl rfl (Nat.le_of_ble_eq_true rfl) rfl ret_nil) rfl rfl ⟨rfl,rfl,rfl⟩
 try simp only [sB] at c8
 refine w_R (qm hnt rfl rfl (qo hnt rfl (s_maskI 9 (by decide) rfl rfl (by decide) ?_)))
 refine qo hnt rfl (s_makeM (f := enc8) (bt := 1) tab_one (0 : UInt8) ((n % 2 ^ 9).toNat) (fun j hj => by cases hj; rfl) tab_51 rfl tab_5 ⟨rfl,by decide⟩ rfl rfl rfl (by omega) (by refine ⟨?_, ?_, ?_⟩ <;> omega) ?_)
 refine qo hnt rfl (s_fa_ptr tab_53 rfl rfl tab_51 (by decide) rfl ?_)
 refine qo hnt rfl (s_store_ptr tab_51 rfl rfl rfl rfl rfl (Nat.le_of_ble_eq_true rfl) ?_)
 refine r_set [(3,PV.ptr 0 0),(6,PV.ptr 1 0)] [(0,.obj [pI r.fn,pI r.code,pI r.at_,pI r.count,pI r.sub,pS 1 false encBo r.bits,pS 1 false enc16 r.vals,p16 r.and_,p16 r.or_,PV.ref 2 0 none]),(2,oB true 1 enc8 (List.replicate ((n % 2 ^ 9).toNat) (0 : UInt8))),(1,.obj [pI 0,pI 0,pI 0,pI 0,pI 0,pNil,pNil,p16 0,p16 0,pNil])] 3 ⟨rfl,rfl,trivial⟩ rfl rfl (r_end (q_block (q_then (w_seq (w_R ?_)))))
 refine qo hnt rfl (s_load_ptr tab_53 rfl rfl rfl (Nat.le_of_ble_eq_true rfl) ?_)
 refine qo hnt rfl (s_store_ptr tab_53 rfl rfl rfl rfl rfl (Nat.le_of_ble_eq_true rfl) ?_)
 refine r_set [(6,PV.ptr 1 0)] [(1,.obj [pI r.fn,pI r.code,pI r.at_,pI r.count,pI r.sub,pS 1 false encBo r.bits,pS 1 false enc16 r.vals,p16 r.and_,p16 r.or_,PV.ref 2 0 none]),(0,.obj [pI r.fn,pI r.code,pI r.at_,pI r.count,pI r.sub,pS 1 false encBo r.bits,pS 1 false enc16 r.vals,p16 r.and_,p16 r.or_,PV.ref 2 0 none]),(2,oB true 1 enc8 (List.replicate ((n % 2 ^ 9).toNat) (0 : UInt8)))] 3 ⟨rfl,trivial⟩ rfl rfl (r_end (q_then (w_frzC (n := 1) (j := 9) rfl rfl rfl rfl ?_)))
 have hz11 : (List.replicate ((n % 2 ^ 9).toNat) (0 : UInt8)) = ((oddR r what n).data) := by ((rw [oddR_8 (by omega)]; done))
 refine w_leO (n := 1) (ds := [pI r.fn,pI r.code,pI r.at_,pI r.count,pI r.sub,pS 1 false encBo r.bits,pS 1 false enc16 r.vals,p16 r.and_,p16 r.or_,pS 1 false enc8 ((oddR r what n).data)]) rfl ⟨le_refl _,le_refl _,le_refl _,le_refl _,le_refl _,le_refl _,le_refl _,le_refl _,le_refl _,le_of_eq (congrArg (fun z => pS 1 false enc8 z) hz11),trivial⟩ ?_
 have hz12 : r.fn = ((oddR r what n).fn) ∧ r.code = ((oddR r what n).code) ∧ r.at_ = ((oddR r what n).at_) ∧ r.count = ((oddR r what n).count) ∧ r.sub = ((oddR r what n).sub) ∧ r.bits = ((oddR r what n).bits) ∧ r.vals = ((oddR r what n).vals) ∧ r.and_ = ((oddR r what n).and_) ∧ r.or_ = ((oddR r what n).or_) := by and_intros <;> ((rw [oddR_8 (by omega)]; done))
 refine w_leO (n := 1) (ds := cReply (oddR r what n)) rfl ⟨le_of_eq (congrArg pI hz12.1),le_of_eq (congrArg pI hz12.2.1),le_of_eq (congrArg pI hz12.2.2.1),le_of_eq (congrArg pI hz12.2.2.2.1),le_of_eq (congrArg pI hz12.2.2.2.2.1),le_of_eq (congrArg (fun z => pS 1 false encBo z) hz12.2.2.2.2.2.1),le_of_eq (congrArg (fun z => pS 1 false enc16 z) hz12.2.2.2.2.2.2.1),le_of_eq (congrArg p16 hz12.2.2.2.2.2.2.2.1),le_of_eq (congrArg p16 hz12.2.2.2.2.2.2.2.2),le_refl _,trivial⟩ (w_ret ?_)
 exact fin_plain (ret_cell tab_53 (by decide) rfl rfl (Nat.le_of_ble_eq_true rfl) rfl ret_nil) rfl rfl ⟨rfl,rfl,rfl⟩
theorem w_burgagelaw4_same (r : TReply) (hr : r.bits.length ≤ 140737488351232 ∧ r.vals.length ≤ 70368744175616 ∧ r.data.length ≤ 140737488351232) :
    T Try.prog 24 [PV.f (eReply r)] 0 [] (Ret (pB true) 0 []) := by
 refine t_fun tabOk (n := 39) (rs := [.tmp 2]) Try.func24 rfl rfl rfl rfl (Nat.le_of_ble_eq_true rfl) ?_
 intro c hnt hk
 refine w_seq (w_R (qo hnt rfl (s_box rfl rfl ?_)))
 refine qa hnt rfl rfl (r_set [(1,PV.ptr 0 0)] [(0,.obj (cReply r))] 1 ⟨rfl,trivial⟩ rfl rfl (r_end (q_then (w_seq (w_R ?_)))))
 refine qo hnt rfl (s_load_ptr tab_53 rfl rfl rfl (Nat.le_of_ble_eq_true rfl) ?_)
 refine qo hnt rfl (s_callF rfl rfl rfl (w_reply_Bytes r (by omega)) rfl ?_)
 refine qm hnt rfl rfl (qo hnt rfl (s_extract rfl rfl ?_))
 refine qo hnt rfl (s_extract rfl rfl ?_)
 refine qa hnt rfl rfl (qa hnt rfl rfl (r_end (q_then (w_seq ?_))))
 have hlE := layE_len r
 refine w_R (qo hnt rfl (s_load_ptr tab_53 rfl rfl rfl (Nat.le_of_ble_eq_true rfl) ?_))
 refine qo hnt rfl (s_callX (r2 := PV.tup [PV.ref 1 0 none,pI (goodR r)]) (nx1 := 2) (H2 := [(0,.obj (cReply r))]) (H3 := [(1,oB false 1 enc8 (layE r)),(0,.obj (cReply r))]) [] [] rfl rfl rfl (handed_of (by decide) trivial) rfl rfl rfl rfl rfl rfl (w_burgageref3_Lay r (by omega)) rfl (dist_of rfl) rfl rfl rfl rfl ?_)
 refine qm hnt rfl rfl (qo hnt rfl (s_extract rfl rfl ?_))
 refine qo hnt rfl (s_extract rfl rfl ?_)
 refine qa hnt rfl rfl (qa hnt rfl rfl (r_set [(1,PV.ptr 0 0),(3,pS 1 false enc8 (layE r)),(4,pI (goodR r)),(5,PV.ref 1 0 none),(6,pI (goodR r))] [(1,oB false 1 enc8 (layE r)),(0,.obj (cReply r))] 2 ⟨rfl,rfl,rfl,rfl,rfl,trivial⟩ rfl rfl (r_end (q_then (w_seq ?_)))))
 refine W_drawn tabOk mixed hnt [[],[],[0,1],[0,1,2],[0,1,2,3],[0,1,2,3,4],[0,1,2,3],[0,1,2,3,6],(.range 8),(.range 9),(.range 10),(.range 11),(.range 12),(.range 11),(.range 14),(.range 15),(.range 16),(.range 17),(.range 18),(.range 18),(.range 20),(.range 21),(.range 22)] (by kernel_rfl) (d_op (x_run0 [(4,pI (goodR r))] [] rfl rfl rfl rfl (s_move rfl ⟨rfl,rfl,rfl⟩) (d_op (x_run0 [(6,pI (goodR r))] [] rfl rfl rfl rfl (s_move rfl ⟨rfl,rfl,rfl⟩) (d_op ?_)))))
 refine x_run0 [(17,pI (goodR r)),(18,pI (goodR r))] [0,1] rfl rfl rfl rfl (s_eql rfl rfl ⟨rfl,rfl,rfl⟩) (d_op (x_run0 [(19,pB (decide (goodR r = goodR r)))] [0,1,2] rfl rfl rfl rfl (s_move rfl ⟨rfl,rfl,rfl⟩) (x_if [(20,pB (decide (goodR r = goodR r))),(3,pS 1 false enc8 (layE r))] [0,1,2,3] rfl rfl rfl rfl (fun g1 => ?_) (fun g1 => ?_))))
 ·have g1' := g1
  try simp only [sB] at g1'
  refine x_run0 [(20,pB (decide (goodR r = goodR r))),(3,pS 1 false enc8 (layE r))] [0,1,2,3] rfl rfl rfl rfl (s_move rfl ⟨rfl,rfl,rfl⟩) (xy [(20,pB (decide (goodR r = goodR r))),(21,pS 1 false enc8 (layE r))] [0,1,2,3,4] rfl rfl rfl rfl g1 (x_run0 [(20,pB (decide (goodR r = goodR r))),(21,pS 1 false enc8 (layE r))] [0,1,2,3,4] rfl rfl rfl rfl (s_cvT tab_51 tab_9 rfl tab_5 rfl rfl (hM_sl (f := enc8) rfl) ⟨rfl,rfl,rfl⟩) (xy [(20,pB (decide (goodR r = goodR r))),(5,PV.ref 1 0 none)] [0,1,2,3] rfl rfl rfl rfl g1 (x_run0 [(20,pB (decide (goodR r = goodR r))),(5,PV.ref 1 0 none)] [0,1,2,3] rfl rfl rfl rfl (s_move rfl ⟨rfl,rfl,rfl⟩) (xy [(20,pB (decide (goodR r = goodR r))),(23,PV.ref 1 0 none)] [0,1,2,3,6] rfl rfl rfl rfl g1 ?_)))))
  refine xL [(20,pB (decide (goodR r = goodR r))),(23,PV.ref 1 0 none)] [0,1,2,3,6] [(1,oB false 1 enc8 (layE r))] rfl rfl rfl rfl rfl (s_cvT tab_51 tab_9 rfl tab_5 rfl rfl (hM_ref0 (f := enc8) rfl rfl) ⟨rfl,rfl,rfl⟩) ⟨rfl,trivial⟩ rfl (xy [(20,pB (decide (goodR r = goodR r))),(22,pT (layE r)),(24,pT (layE r))] (.range 8) rfl rfl rfl rfl g1 (x_run0 [(20,pB (decide (goodR r = goodR r))),(22,pT (layE r)),(24,pT (layE r))] (.range 8) rfl rfl rfl rfl (s_eqtext (l := layE r) (m := layE r) rfl rfl ⟨rfl,rfl,rfl⟩) (d_op (x_run0 [(20,pB (decide (goodR r = goodR r))),(25,pB (decide (layE r = layE r)))] (.range 9) rfl rfl rfl rfl (s_pick_t rfl g1 rfl ⟨rfl,rfl,rfl⟩) (d_op ?_)))))
  refine x_run0 [(26,pB (decide (layE r = layE r)))] (.range 10) rfl rfl rfl rfl (s_move rfl ⟨rfl,rfl,rfl⟩) (x_if [(27,pB (decide (layE r = layE r))),(1,PV.ptr 0 0)] (.range 11) rfl rfl rfl rfl (fun g2 => ?_) (fun g2 => ?_))
  ·have g2' := g2
   try simp only [sB] at g2'
   refine xL [(27,pB (decide (layE r = layE r))),(1,PV.ptr 0 0)] (.range 11) [(0,.obj (cReply r))] rfl rfl rfl rfl rfl (s_load_ptr tab_53 rfl rfl rfl (Nat.le_of_ble_eq_true rfl) ⟨rfl,rfl,rfl⟩) ⟨rfl,trivial⟩ rfl (xy [(27,pB (decide (layE r = layE r))),(28,PV.f (eReply r))] (.range 12) rfl rfl rfl rfl g2 (x_run0 [(27,pB (decide (layE r = layE r))),(28,PV.f (eReply r))] (.range 12) rfl rfl rfl rfl (s_callF rfl rfl rfl (w_reply_Right r (by omega)) rfl ⟨rfl,rfl,rfl⟩) (xy [(27,pB (decide (layE r = layE r))),(1,PV.ptr 0 0)] (.range 11) rfl rfl rfl rfl g2 (xL [(27,pB (decide (layE r = layE r))),(1,PV.ptr 0 0)] (.range 11) [(0,.obj (cReply r))] rfl rfl rfl rfl rfl (s_load_ptr tab_53 rfl rfl rfl (Nat.le_of_ble_eq_true rfl) ⟨rfl,rfl,rfl⟩) ⟨rfl,trivial⟩ rfl (xy [(27,pB (decide (layE r = layE r))),(30,PV.f (eReply r))] (.range 14) rfl rfl rfl rfl g2 ?_)))))
   refine x_run0 [(27,pB (decide (layE r = layE r))),(30,PV.f (eReply r))] (.range 14) rfl rfl rfl rfl (s_callF rfl rfl rfl (w_burgageref3_Good r (by omega)) rfl ⟨rfl,rfl,rfl⟩) (xy [(27,pB (decide (layE r = layE r))),(29,pI (goodR r)),(31,pI (goodR r))] (.range 15) rfl rfl rfl rfl g2 (x_run0 [(27,pB (decide (layE r = layE r))),(29,pI (goodR r)),(31,pI (goodR r))] (.range 15) rfl rfl rfl rfl (s_eql rfl rfl ⟨rfl,rfl,rfl⟩) (d_op (x_run0 [(27,pB (decide (layE r = layE r))),(32,pB (decide (goodR r = goodR r)))] (.range 16) rfl rfl rfl rfl (s_pick_t rfl g2 rfl ⟨rfl,rfl,rfl⟩) (d_op ?_)))))
   refine x_run0 [(33,pB (decide (goodR r = goodR r)))] (.range 17) rfl rfl rfl rfl (s_move rfl ⟨rfl,rfl,rfl⟩) (xy [(34,pB (decide (goodR r = goodR r))),(1,PV.ptr 0 0)] (.range 18) rfl rfl rfl rfl g1 (xL [(34,pB (decide (goodR r = goodR r))),(1,PV.ptr 0 0)] (.range 18) [(0,.obj (cReply r))] rfl rfl rfl rfl rfl (s_load_ptr tab_53 rfl rfl rfl (Nat.le_of_ble_eq_true rfl) ⟨rfl,rfl,rfl⟩) ⟨rfl,trivial⟩ rfl (xy [(34,pB (decide (goodR r = goodR r))),(1,PV.ptr 0 0)] (.range 18) rfl rfl rfl rfl g1 (xL [(34,pB (decide (goodR r = goodR r))),(1,PV.ptr 0 0)] (.range 18) [(0,.obj (cReply r))] rfl rfl rfl rfl rfl (s_load_ptr tab_53 rfl rfl rfl (Nat.le_of_ble_eq_true rfl) ⟨rfl,rfl,rfl⟩) ⟨rfl,trivial⟩ rfl (xy [(34,pB (decide (goodR r = goodR r))),(35,PV.f (eReply r)),(36,PV.f (eReply r))] (.range 20) rfl rfl rfl rfl g1 ?_)))))
   refine x_run0 [(34,pB (decide (goodR r = goodR r))),(35,PV.f (eReply r)),(36,PV.f (eReply r))] (.range 20) rfl rfl rfl rfl (s_callF rfl rfl rfl (w_reply_Same r r (by omega)) rfl ⟨rfl,rfl,rfl⟩) (d_op (x_run0 [(34,pB (decide (goodR r = goodR r))),(37,pB (decide (r = r)))] (.range 21) rfl rfl rfl rfl (s_pick_t rfl g1 rfl ⟨rfl,rfl,rfl⟩) (d_op (x_run0 [(38,pB (decide (r = r)))] (.range 22) rfl rfl rfl rfl (s_assign rfl ⟨rfl,rfl,rfl⟩) (d_end ⟨by kernel_rfl, ?_⟩)))))
   refine q_then (w_le (s := 2) (y := pB true) rfl (le_of_eq (congrArg pB (show (decide (r = r)) = true by simp))) (w_ret ?_))
   exact fin_plain (ret_tmp rfl ret_nil) rfl rfl ⟨rfl,rfl,rfl⟩
  exact absurd g2 (by simp)
 exact absurd g1 (by simp)
theorem w_burgagelaw4_made (L : List Int) (cl_L : Bool) (q : TRequest) (R : TReply) (hR : R = madeR L q) (hL : L.length ≤ 70000000000000) (hq : rightR q = 0 ∧ q.bits.length ≤ 25 ∧ q.vals.length ≤ 25 ∧ 0 ≤ q.count ∧ q.count ≤ 25) :
    T Try.prog 21 [pS 1 cl_L encI L,PV.f (eRequest q)] 0 [] (Ret (PV.f (eReply R)) 0 []) := by
 refine t_fun tabOk (n := 94) (rs := [.cell 4 53]) Try.func21 rfl rfl rfl rfl (Nat.le_of_ble_eq_true rfl) ?_
 intro c hnt hk
 obtain ⟨hr0,hqb,hqv,hqc0,hqc⟩ := hq
 refine w_seq (w_R (qo hnt rfl (s_box rfl rfl ?_)))
 refine qo hnt rfl (s_alloc tab_53 ?_)
 refine r_set [(0,pS 1 cl_L encI L),(3,PV.ptr 0 0),(4,PV.ptr 1 0)] [(1,.obj [pI 0,pI 0,pI 0,pI 0,pI 0,pNil,pNil,p16 0,p16 0,pNil]),(0,.obj (cRequest q))] 2 ⟨rfl,rfl,rfl,trivial⟩ rfl rfl (r_end (q_then (w_seq (w_R (qm hnt rfl rfl ?_)))))
 refine qo hnt rfl (s_build tab_49 rfl rfl (b_cons rfl tab_24 rfl rfl rfl (Nat.le_of_ble_eq_true rfl) (b_nil ?_)))
 refine qo hnt rfl (s_box rfl rfl ?_)
 refine qa hnt rfl rfl (r_set [(3,PV.ptr 0 0),(4,PV.ptr 1 0),(5,PV.ptr 2 0)] [(2,.obj [pS 1 cl_L encI L,pI 0]),(1,.obj [pI 0,pI 0,pI 0,pI 0,pI 0,pNil,pNil,p16 0,p16 0,pNil]),(0,.obj (cRequest q))] 3 ⟨rfl,rfl,rfl,trivial⟩ rfl rfl (r_end (q_then (w_seq (w_R ?_)))))
 refine qo hnt rfl (s_fa_ptr tab_46 rfl rfl tab_3 (by decide) rfl ?_)
 refine qo hnt rfl (s_load_ptr1 tab_3 rfl rfl rfl rfl rfl ?_)
 refine qo hnt rfl (s_build tab_53 rfl rfl (b_cons rfl tab_3 rfl rfl rfl (Nat.le_of_ble_eq_true rfl) (b_nil ?_)))
 refine qo hnt rfl (s_alloc tab_53 ?_)
 refine qo hnt rfl (s_store_ptr tab_53 rfl rfl rfl rfl rfl (Nat.le_of_ble_eq_true rfl) ?_)
 refine r_set [(3,PV.ptr 0 0),(4,PV.ptr 1 0),(5,PV.ptr 2 0),(6,PV.ptr 3 0)] [(3,.obj [pI q.fn,pI 0,pI 0,pI 0,pI 0,pNil,pNil,p16 0,p16 0,pNil]),(2,.obj [pS 1 cl_L encI L,pI 0]),(1,.obj [pI 0,pI 0,pI 0,pI 0,pI 0,pNil,pNil,p16 0,p16 0,pNil]),(0,.obj (cRequest q))] 4 ⟨rfl,rfl,rfl,rfl,trivial⟩ rfl rfl (r_end (q_then (w_seq (w_seq (w_R ?_)))))
 refine qm hnt rfl rfl (qo hnt rfl (s_callX (r2 := pI (tNext L 0 5)) (nx1 := 4) (H2 := [(3,.obj [pI q.fn,pI 0,pI 0,pI 0,pI 0,pNil,pNil,p16 0,p16 0,pNil]),(2,.obj [pS 1 cl_L encI L,pI 0]),(1,.obj [pI 0,pI 0,pI 0,pI 0,pI 0,pNil,pNil,p16 0,p16 0,pNil]),(0,.obj (cRequest q))]) (H3 := [(2,.obj [pS 1 false encI L,pN (tStep L 0 5)]),(3,.obj [pI q.fn,pI 0,pI 0,pI 0,pI 0,pNil,pNil,p16 0,p16 0,pNil]),(1,.obj [pI 0,pI 0,pI 0,pI 0,pI 0,pNil,pNil,p16 0,p16 0,pNil]),(0,.obj (cRequest q))]) [2] [.obj [pS 1 cl_L encI L,pI 0]] rfl rfl rfl (handed_of (by decide) ⟨rfl,trivial⟩) rfl rfl rfl rfl rfl rfl (w_burgagekeep_Tape_Next L cl_L 0 5 (by omega) (by omega)) rfl (dist_of rfl) rfl rfl rfl rfl ?_))
 refine qo hnt rfl (s_eql rfl rfl ?_)
 refine r_set [(3,PV.ptr 0 0),(4,PV.ptr 1 0),(5,PV.ptr 2 0),(6,PV.ptr 3 0),(17,pB (decide (tNext L 0 5 = 0)))] [(2,.obj [pS 1 false encI L,pN (tStep L 0 5)]),(3,.obj [pI q.fn,pI 0,pI 0,pI 0,pI 0,pNil,pNil,p16 0,p16 0,pNil]),(1,.obj [pI 0,pI 0,pI 0,pI 0,pI 0,pNil,pNil,p16 0,p16 0,pNil]),(0,.obj (cRequest q))] 4 ⟨rfl,rfl,rfl,rfl,rfl,trivial⟩ rfl rfl (r_end (q_then (w_if rfl (fun c1 => ?_) (fun c1 => ?_))))
 ·try simp only [sB] at c1
  refine w_seq ?_
  have h11 := tNext_lt L (tStep L 0 5) (n := 11) (by decide)
  have h0 : tNext L 0 5 = 0 := by exact c1
  refine W_drawn tabOk mixed hnt [[],[0],[],[2],[2,3],[0,1,2,3,4],[0,1,2,3,4,5]] (by kernel_rfl) (d_op (x_run0 [(3,PV.ptr 0 0)] [] rfl rfl rfl rfl (s_fa_ptr tab_46 rfl rfl tab_3 (by decide) rfl ⟨rfl,rfl,rfl⟩) (d_op (xL [(18,PV.ptr 0 0)] [0] [(0,.obj (cRequest q))] rfl rfl rfl rfl rfl (s_load_ptr1 tab_3 rfl rfl rfl rfl rfl ⟨rfl,rfl,rfl⟩) ⟨rfl,trivial⟩ rfl (d_op ?_)))))
  refine x_run0 [(5,PV.ptr 2 0)] [] rfl rfl rfl rfl (s_move rfl ⟨rfl,rfl,rfl⟩) (d_op (xT [(20,PV.ptr 2 0)] [2] [(2,.obj [pS 1 false encI L,pN (tStep L 0 5)])] [(2,.obj [pS 1 false encI L,pN (tStep L (tStep L 0 5) 11)])] [(3,.obj [pI q.fn,pI 0,pI 0,pI 0,pI 0,pNil,pNil,p16 0,p16 0,pNil]),(1,.obj [pI 0,pI 0,pI 0,pI 0,pI 0,pNil,pNil,p16 0,p16 0,pNil]),(0,.obj (cRequest q))] rfl rfl rfl rfl rfl (s_callX (r2 := pI (tNext L (tStep L 0 5) 11)) (nx1 := 4) (H2 := [(2,.obj [pS 1 false encI L,pN (tStep L 0 5)])]) (H3 := [(2,.obj [pS 1 false encI L,pN (tStep L (tStep L 0 5) 11)])]) [2] [.obj [pS 1 false encI L,pN (tStep L 0 5)]] rfl rfl rfl (handed_of (by decide) ⟨rfl,trivial⟩) rfl rfl rfl rfl rfl rfl (w_burgagekeep_Tape_Next L false (tStep L 0 5) 11 (by omega) (by omega)) rfl (dist_of rfl) rfl rfl rfl rfl ⟨rfl,rfl,rfl⟩) rfl rfl (d_op (x_run0 [(21,pI (tNext L (tStep L 0 5) 11))] [2,3] rfl rfl rfl rfl (s_addi (r := 1 + (tNext L (tStep L 0 5) 11)) rfl rfl rfl (by omega) ⟨rfl,rfl,rfl⟩) (d_op ?_)))))
  refine x_run0 [(19,pI q.fn),(22,pI (1 + (tNext L (tStep L 0 5) 11)))] [0,1,2,3,4] rfl rfl rfl rfl (s_callF rfl rfl rfl (w_burgageref3_Refuse q.fn (1 + (tNext L (tStep L 0 5) 11))) rfl ⟨rfl,rfl,rfl⟩) (d_op (xT [(4,PV.ptr 1 0),(23,PV.f (eReply (refuseR q.fn (1 + (tNext L (tStep L 0 5) 11)))))] [0,1,2,3,4,5] [(1,.obj [pI 0,pI 0,pI 0,pI 0,pI 0,pNil,pNil,p16 0,p16 0,pNil])] [(1,.obj [pI ((refuseR q.fn (1 + (tNext L (tStep L 0 5) 11))).fn),pI ((refuseR q.fn (1 + (tNext L (tStep L 0 5) 11))).code),pI ((refuseR q.fn (1 + (tNext L (tStep L 0 5) 11))).at_),pI ((refuseR q.fn (1 + (tNext L (tStep L 0 5) 11))).count),pI ((refuseR q.fn (1 + (tNext L (tStep L 0 5) 11))).sub),pS 1 false encBo ((refuseR q.fn (1 + (tNext L (tStep L 0 5) 11))).bits),pS 1 false enc16 ((refuseR q.fn (1 + (tNext L (tStep L 0 5) 11))).vals),p16 ((refuseR q.fn (1 + (tNext L (tStep L 0 5) 11))).and_),p16 ((refuseR q.fn (1 + (tNext L (tStep L 0 5) 11))).or_),pS 1 false enc8 ((refuseR q.fn (1 + (tNext L (tStep L 0 5) 11))).data)])] [(2,.obj [pS 1 false encI L,pN (tStep L (tStep L 0 5) 11)]),(3,.obj [pI q.fn,pI 0,pI 0,pI 0,pI 0,pNil,pNil,p16 0,p16 0,pNil]),(0,.obj (cRequest q))] rfl rfl rfl rfl rfl (s_store_ptr tab_53 rfl rfl rfl rfl rfl (Nat.le_of_ble_eq_true rfl) ⟨rfl,rfl,rfl⟩) rfl rfl (d_end ⟨by kernel_rfl, ?_⟩)))
  refine q_then ?_
  have hz1 : ((refuseR q.fn (1 + (tNext L (tStep L 0 5) 11))).fn) = R.fn ∧ ((refuseR q.fn (1 + (tNext L (tStep L 0 5) 11))).code) = R.code ∧ ((refuseR q.fn (1 + (tNext L (tStep L 0 5) 11))).at_) = R.at_ ∧ ((refuseR q.fn (1 + (tNext L (tStep L 0 5) 11))).count) = R.count ∧ ((refuseR q.fn (1 + (tNext L (tStep L 0 5) 11))).sub) = R.sub ∧ ((refuseR q.fn (1 + (tNext L (tStep L 0 5) 11))).bits) = R.bits ∧ ((refuseR q.fn (1 + (tNext L (tStep L 0 5) 11))).vals) = R.vals ∧ ((refuseR q.fn (1 + (tNext L (tStep L 0 5) 11))).and_) = R.and_ ∧ ((refuseR q.fn (1 + (tNext L (tStep L 0 5) 11))).or_) = R.or_ ∧ ((refuseR q.fn (1 + (tNext L (tStep L 0 5) 11))).data) = R.data := by and_intros <;> ((rw [hR,madeR_no h0]; done))
  refine w_leO (n := 1) (ds := cReply R) rfl ⟨le_of_eq (congrArg pI hz1.1),le_of_eq (congrArg pI hz1.2.1),le_of_eq (congrArg pI hz1.2.2.1),le_of_eq (congrArg pI hz1.2.2.2.1),le_of_eq (congrArg pI hz1.2.2.2.2.1),le_of_eq (congrArg (fun z => pS 1 false encBo z) hz1.2.2.2.2.2.1),le_of_eq (congrArg (fun z => pS 1 false enc16 z) hz1.2.2.2.2.2.2.1),le_of_eq (congrArg p16 hz1.2.2.2.2.2.2.2.1),le_of_eq (congrArg p16 hz1.2.2.2.2.2.2.2.2.1),le_of_eq (congrArg (fun z => pS 1 false enc8 z) hz1.2.2.2.2.2.2.2.2.2),trivial⟩ (w_ret (q_then_ret ?_))
  exact fin_plain (ret_cell tab_53 (by decide) rfl rfl (Nat.le_of_ble_eq_true rfl) rfl ret_nil) rfl rfl ⟨rfl,rfl,rfl⟩
 try simp only [sB] at c1
 have h1 : ¬ tNext L 0 5 = 0 := by exact c1
 refine w_skip (q_then (w_seq (w_seq (w_R (qo hnt rfl (s_fa_ptr tab_46 rfl rfl tab_3 (by decide) rfl ?_))))))
 refine qo hnt rfl (s_load_ptr1 tab_3 rfl rfl rfl rfl rfl ?_)
 refine r_end (q_then (w_block (join1 (fun (bb1 : Bool) => bb1 = ((decide (q.fn = 1)) || (decide (q.fn = 2)))) (fun (bb1 : Bool) => [(3,PV.ptr 0 0),(4,PV.ptr 1 0),(5,PV.ptr 2 0),(6,PV.ptr 3 0),(25,pI q.fn),(44,pB bb1)]) 4 (fun (bb1 : Bool) => [(0,.obj (cRequest q)),(1,.obj [pI 0,pI 0,pI 0,pI 0,pI 0,pNil,pNil,p16 0,p16 0,pNil]),(2,.obj [pS 1 false encI L,pN (tStep L 0 5)]),(3,.obj [pI q.fn,pI 0,pI 0,pI 0,pI 0,pNil,pNil,p16 0,p16 0,pNil])]) ?_ ?_)))
 ·refine w_seq (w_R (qo hnt rfl (s_eql rfl rfl ?_)))
  refine qa hnt rfl rfl (r_end (q_then (w_if rfl (fun c2 => ?_) (fun c2 => ?_))))
  ·have c2_ := c2
   try simp only [sB] at c2
   refine w_skip (q_then (⟨(decide (q.fn = 1)), ?_,⟨[(0,0),(1,1),(2,2),(3,3)],by rw [hk]; decide,⟨⟨_,rfl,rfl,rfl⟩,⟨_,rfl,rfl,rfl⟩,⟨_,rfl,rfl,rfl⟩,⟨_,rfl,rfl,rfl⟩,⟨_,rfl,rfl,rfl⟩,⟨_,rfl,rfl,rfl⟩,trivial⟩,⟨⟨_,_,rfl,rfl,rfl,rfl⟩,⟨_,_,rfl,rfl,rfl,rfl⟩,⟨_,_,rfl,rfl,rfl,rfl⟩,⟨_,_,rfl,rfl,rfl,rfl⟩,trivial⟩,by rw [hk]; decide⟩⟩))
   simp only [c2_,Bool.true_or,Bool.false_or]
  have c2_ := c2
  try simp only [sB] at c2
  refine w_R (qo hnt rfl (s_eql rfl rfl ?_))
  refine qa hnt rfl rfl (r_end (q_then (⟨(decide (q.fn = 2)), ?_,⟨[(0,0),(1,1),(2,2),(3,3)],by rw [hk]; decide,⟨⟨_,rfl,rfl,rfl⟩,⟨_,rfl,rfl,rfl⟩,⟨_,rfl,rfl,rfl⟩,⟨_,rfl,rfl,rfl⟩,⟨_,rfl,rfl,rfl⟩,⟨_,rfl,rfl,rfl⟩,trivial⟩,⟨⟨_,_,rfl,rfl,rfl,rfl⟩,⟨_,_,rfl,rfl,rfl,rfl⟩,⟨_,_,rfl,rfl,rfl,rfl⟩,⟨_,_,rfl,rfl,rfl,rfl⟩,trivial⟩,by rw [hk]; decide⟩⟩)))
  simp only [c2_,Bool.true_or,Bool.false_or]
 intro bb1 hbb1
 subst hbb1
 refine w_if rfl (fun c3 => ?_) (fun c3 => ?_)
 ·try simp only [sB,Bool.or_eq_true,Bool.or_eq_false_iff] at c3
  refine w_seq (w_R (qa hnt rfl rfl (r_end (q_then (w_block ?_)))))
  refine w_adoptC (n := 3) (j := 5) (sz := 1) rfl rfl rfl (loop3 (fun (ap : Nat) (os : List Bool) (i : Nat) => (i : Int) ≤ q.count ∧ os = (tRow isOne 2 L (tStep L 0 5) i).1 ∧ ap = (tRow isOne 2 L (tStep L 0 5) i).2) (fun (ap : Nat) (os : List Bool) (i : Nat) => [(3,PV.ptr 3 0),(4,PV.ptr 4 0),(5,PV.ptr 0 0),(6,PV.ptr 1 0),(7,pN i)]) 5 (fun (ap : Nat) (os : List Bool) (i : Nat) => [(0,.obj [pS 1 false encI L,pN ap]),(1,.obj [pI q.fn,pI 0,pI 0,pI 0,pI 0,PV.ref 2 0 none,pNil,p16 0,p16 0,pNil]),(2,oB true 1 encBo os),(3,.obj (cRequest q)),(4,.obj [pI 0,pI 0,pI 0,pI 0,pI 0,pNil,pNil,p16 0,p16 0,pNil])]) (fun (ap : Nat) (os : List Bool) (i : Nat) => q.count.toNat - i) (tStep L 0 5) (([] : List Bool)) (0) ?_ ⟨[(0,2),(1,3),(2,4),(3,0),(4,1)],by rw [hk]; decide,⟨⟨_,rfl,rfl,rfl⟩,⟨_,rfl,rfl,rfl⟩,⟨_,rfl,rfl,rfl⟩,⟨_,rfl,rfl,rfl⟩,⟨_,rfl,rfl,rfl⟩,trivial⟩,⟨⟨_,_,rfl,rfl,rfl,rfl⟩,⟨_,_,rfl,rfl,rfl,rfl⟩,⟨_,_,rfl,rfl,rfl,rfl⟩,⟨_,_,rfl,rfl,rfl,rfl⟩,⟨_,_,rfl,rfl,rfl,rfl⟩,trivial⟩,by rw [hk]; decide⟩ ?_)
  · exact ⟨by omega,rfl,rfl⟩
  ·intro ap os i hI
   obtain ⟨hi,hos,hap⟩ := hI
   have hol : os.length = i := by rw [hos,tRow_length]
   refine w_seq (w_seq (w_R (qm hnt rfl rfl (qo hnt rfl (s_fa_ptr tab_46 rfl rfl tab_3 (by decide) rfl ?_)))))
   refine qo hnt rfl (s_load_ptr1 tab_3 rfl rfl rfl rfl rfl ?_)
   refine qo hnt rfl (s_lss rfl rfl ?_)
   refine r_end (q_then (w_if rfl (fun c4 => ?_) (fun c4 => ?_)))
   ·try simp only [sB] at c4
    refine w_skip (q_then (w_seq (w_block (W_drawn tabOk mixed hnt [[],[0],[],[2],[2,3],[2,3,4],[0,1,2,3,4,5],[0,1,2,3,4,5,6],(.range 8)] (by kernel_rfl) (d_op ?_)))))
    refine x_run0 [(6,PV.ptr 1 0)] [] rfl rfl rfl rfl (s_fa_ptr tab_53 rfl rfl tab_42 (by decide) rfl ⟨rfl,rfl,rfl⟩) (d_op (xL [(53,PV.ptr 1 5)] [0] [(1,.obj [pI q.fn,pI 0,pI 0,pI 0,pI 0,PV.ref 2 0 none,pNil,p16 0,p16 0,pNil])] rfl rfl rfl rfl rfl (s_load_ptr1 tab_42 rfl rfl rfl rfl rfl ⟨rfl,rfl,rfl⟩) ⟨rfl,trivial⟩ rfl (d_op (x_run0 [(5,PV.ptr 0 0)] [] rfl rfl rfl rfl (s_move rfl ⟨rfl,rfl,rfl⟩) (d_op ?_)))))
    refine xT [(55,PV.ptr 0 0)] [2] [(0,.obj [pS 1 false encI L,pN ap])] [(0,.obj [pS 1 false encI L,pN (tStep L ap 2)])] [(1,.obj [pI q.fn,pI 0,pI 0,pI 0,pI 0,PV.ref 2 0 none,pNil,p16 0,p16 0,pNil]),(2,oB true 1 encBo os),(3,.obj (cRequest q)),(4,.obj [pI 0,pI 0,pI 0,pI 0,pI 0,pNil,pNil,p16 0,p16 0,pNil])] rfl rfl rfl rfl rfl (s_callX (r2 := pI (tNext L ap 2)) (nx1 := 5) (H2 := [(0,.obj [pS 1 false encI L,pN ap])]) (H3 := [(0,.obj [pS 1 false encI L,pN (tStep L ap 2)])]) [0] [.obj [pS 1 false encI L,pN ap]] rfl rfl rfl (handed_of (by decide) ⟨rfl,trivial⟩) rfl rfl rfl rfl rfl rfl (w_burgagekeep_Tape_Next L false ap 2 (by omega) (by omega)) rfl (dist_of rfl) rfl rfl rfl rfl ⟨rfl,rfl,rfl⟩) rfl rfl (d_op (x_run0 [(56,pI (tNext L ap 2))] [2,3] rfl rfl rfl rfl (s_eql rfl rfl ⟨rfl,rfl,rfl⟩) (d_op (xT [(57,pB (decide (tNext L ap 2 = 1)))] [2,3,4] [] [(5,oB true 1 encBo [decide (tNext L ap 2 = 1)])] [(0,.obj [pS 1 false encI L,pN (tStep L ap 2)]),(1,.obj [pI q.fn,pI 0,pI 0,pI 0,pI 0,PV.ref 2 0 none,pNil,p16 0,p16 0,pNil]),(2,oB true 1 encBo os),(3,.obj (cRequest q)),(4,.obj [pI 0,pI 0,pI 0,pI 0,pI 0,pNil,pNil,p16 0,p16 0,pNil])] rfl rfl rfl rfl rfl (s_mkM (f := encBo) [decide (tNext L ap 2 = 1)] tab_42 rfl tab_4 ⟨rfl,by decide⟩ (by decide) rfl rfl rfl rfl ⟨rfl,rfl,rfl⟩) rfl rfl (d_op ?_)))))
    refine x_run [(54,PV.ref 2 0 none),(58,PV.ref 5 0 none)] [0,1,2,3,4,5] [(5,oB true 1 encBo [decide (tNext L ap 2 = 1)])] [(2,oB true 1 encBo os)] [(6,oB true 1 encBo (os ++ [decide (tNext L ap 2 = 1)])),(5,oB true 1 encBo [decide (tNext L ap 2 = 1)])] [(6,oB true 1 encBo (os ++ [decide (tNext L ap 2 = 1)]))] [(6,oB true 1 encBo (os ++ [decide (tNext L ap 2 = 1)])),(5,oB true 1 encBo [decide (tNext L ap 2 = 1)]),(0,.obj [pS 1 false encI L,pN (tStep L ap 2)]),(1,.obj [pI q.fn,pI 0,pI 0,pI 0,pI 0,PV.ref 2 0 none,pNil,p16 0,p16 0,pNil]),(3,.obj (cRequest q)),(4,.obj [pI 0,pI 0,pI 0,pI 0,pI 0,pNil,pNil,p16 0,p16 0,pNil])] rfl rfl rfl rfl rfl rfl (s_appR0 (f := encBo) (l := os) (xs := [decide (tNext L ap 2 = 1)]) tab_42 rfl tab_4 ⟨rfl,by decide,by decide⟩ (srcM tab_42 rfl (hM_ref0 (f := encBo) rfl rfl)) rfl rfl (by (simp; omega)) ⟨rfl,rfl,rfl⟩) rfl ⟨rfl,trivial⟩ rfl rfl (d_op (x_run0 [(6,PV.ptr 1 0)] [0,1,2,3,4,5,6] rfl rfl rfl rfl (s_fa_ptr tab_53 rfl rfl tab_42 (by decide) rfl ⟨rfl,rfl,rfl⟩) (d_op (xT [(60,PV.ptr 1 5),(59,PV.ref 6 0 none)] (.range 8) [(1,.obj [pI q.fn,pI 0,pI 0,pI 0,pI 0,PV.ref 2 0 none,pNil,p16 0,p16 0,pNil])] [(1,.obj [pI q.fn,pI 0,pI 0,pI 0,pI 0,PV.ref 6 0 none,pNil,p16 0,p16 0,pNil])] [(6,oB true 1 encBo (os ++ [decide (tNext L ap 2 = 1)])),(5,oB true 1 encBo [decide (tNext L ap 2 = 1)]),(0,.obj [pS 1 false encI L,pN (tStep L ap 2)]),(3,.obj (cRequest q)),(4,.obj [pI 0,pI 0,pI 0,pI 0,pI 0,pNil,pNil,p16 0,p16 0,pNil])] rfl rfl rfl rfl rfl (s_store_ptr tab_42 rfl rfl rfl rfl rfl (Nat.le_of_ble_eq_true rfl) ⟨rfl,rfl,rfl⟩) rfl rfl (d_end ⟨by kernel_rfl, ?_⟩)))))
    refine q_block (q_then (w_R (qm hnt rfl rfl (qo hnt rfl (s_addN (a := i) (b := 1) rfl rfl (by omega) (by omega) (by omega) ?_)))))
    refine qa hnt rfl rfl (r_end (q_then (⟨(tStep L ap 2),(os ++ [decide (tNext L ap 2 = 1)]),(i + 1), ?_, ?_,⟨[(0,0),(1,1),(2,6),(3,3),(4,4)],by rw [hk]; decide,⟨⟨_,rfl,rfl,rfl⟩,⟨_,rfl,rfl,rfl⟩,⟨_,rfl,rfl,rfl⟩,⟨_,rfl,rfl,rfl⟩,⟨_,rfl,rfl,rfl⟩,trivial⟩,⟨⟨_,_,rfl,rfl,rfl,rfl⟩,⟨_,_,rfl,rfl,rfl,rfl⟩,⟨_,_,rfl,rfl,rfl,rfl⟩,⟨_,_,rfl,rfl,rfl,rfl⟩,⟨_,_,rfl,rfl,rfl,rfl⟩,trivial⟩,by rw [hk]; decide⟩⟩)))
    ·exact ⟨by omega,tRow_1 isOne 2 L _ i hos hap,tRow_2 isOne 2 L _ i hap⟩
    · omega
   try simp only [sB] at c4
   refine w_exit (q_then_exit (q_then_exit (q_block_exit (q_block (q_then ?_)))))
   refine w_seq (w_R (qo hnt rfl (s_load_ptr tab_53 rfl rfl rfl (Nat.le_of_ble_eq_true rfl) ?_)))
   refine qo hnt rfl (s_store_ptr tab_53 rfl rfl rfl rfl rfl (Nat.le_of_ble_eq_true rfl) ?_)
   refine r_set [(4,PV.ptr 4 0)] [(4,.obj [pI q.fn,pI 0,pI 0,pI 0,pI 0,PV.ref 2 0 none,pNil,p16 0,p16 0,pNil]),(0,.obj [pS 1 false encI L,pN ap]),(1,.obj [pI q.fn,pI 0,pI 0,pI 0,pI 0,PV.ref 2 0 none,pNil,p16 0,p16 0,pNil]),(2,oB true 1 encBo os),(3,.obj (cRequest q))] 5 ⟨rfl,trivial⟩ rfl rfl (r_end (q_then (w_frzC (n := 4) (j := 5) rfl rfl rfl rfl ?_)))
   have hz2 : os = R.bits := by ((rw [hR,madeR_1 h1 (by omega) hos (by omega)]; done))
   refine w_leO (n := 4) (ds := [pI q.fn,pI 0,pI 0,pI 0,pI 0,pS 1 false encBo R.bits,pNil,p16 0,p16 0,pNil]) rfl ⟨le_refl _,le_refl _,le_refl _,le_refl _,le_refl _,le_of_eq (congrArg (fun z => pS 1 false encBo z) hz2),le_refl _,le_refl _,le_refl _,le_refl _,trivial⟩ ?_
   have hz3 : q.fn = R.fn ∧ 0 = R.code ∧ 0 = R.at_ ∧ 0 = R.count ∧ 0 = R.sub ∧ ([] : List UInt16) = R.vals ∧ 0 = R.and_ ∧ 0 = R.or_ ∧ ([] : List UInt8) = R.data := by and_intros <;> ((rw [hR,madeR_1 h1 (by omega) hos (by omega)]; done))
   refine w_leO (n := 4) (ds := cReply R) rfl ⟨le_of_eq (congrArg pI hz3.1),le_of_eq (congrArg pI hz3.2.1),le_of_eq (congrArg pI hz3.2.2.1),le_of_eq (congrArg pI hz3.2.2.2.1),le_of_eq (congrArg pI hz3.2.2.2.2.1),le_refl _,le_tr (le_nilS 1 false) (le_of_eq (congrArg (fun z => pS 1 false enc16 z) hz3.2.2.2.2.2.1)),le_of_eq (congrArg p16 hz3.2.2.2.2.2.2.1),le_of_eq (congrArg p16 hz3.2.2.2.2.2.2.2.1),le_tr (le_nilS 1 false) (le_of_eq (congrArg (fun z => pS 1 false enc8 z) hz3.2.2.2.2.2.2.2.2)),trivial⟩ (w_ret ?_)
   exact fin_plain (ret_cell tab_53 (by decide) rfl rfl (Nat.le_of_ble_eq_true rfl) rfl ret_nil) rfl rfl ⟨rfl,rfl,rfl⟩
 try simp only [sB,Bool.or_eq_true,Bool.or_eq_false_iff] at c3
 refine join1 (fun (bb2 : Bool) => bb2 = ((decide (q.fn = 3)) || ((decide (q.fn = 4)) || (decide (q.fn = 23))))) (fun (bb2 : Bool) => [(3,PV.ptr 0 0),(4,PV.ptr 1 0),(5,PV.ptr 2 0),(6,PV.ptr 3 0),(25,pI q.fn),(61,pB bb2)]) 4 (fun (bb2 : Bool) => [(0,.obj (cRequest q)),(1,.obj [pI 0,pI 0,pI 0,pI 0,pI 0,pNil,pNil,p16 0,p16 0,pNil]),(2,.obj [pS 1 false encI L,pN (tStep L 0 5)]),(3,.obj [pI q.fn,pI 0,pI 0,pI 0,pI 0,pNil,pNil,p16 0,p16 0,pNil])]) ?_ ?_
 ·refine w_seq (w_R (qo hnt rfl (s_eql rfl rfl ?_)))
  refine qa hnt rfl rfl (r_end (q_then (w_if rfl (fun c5 => ?_) (fun c5 => ?_))))
  ·have c5_ := c5
   try simp only [sB] at c5
   refine w_skip (q_then (⟨(decide (q.fn = 3)), ?_,⟨[(0,0),(1,1),(2,2),(3,3)],by rw [hk]; decide,⟨⟨_,rfl,rfl,rfl⟩,⟨_,rfl,rfl,rfl⟩,⟨_,rfl,rfl,rfl⟩,⟨_,rfl,rfl,rfl⟩,⟨_,rfl,rfl,rfl⟩,⟨_,rfl,rfl,rfl⟩,trivial⟩,⟨⟨_,_,rfl,rfl,rfl,rfl⟩,⟨_,_,rfl,rfl,rfl,rfl⟩,⟨_,_,rfl,rfl,rfl,rfl⟩,⟨_,_,rfl,rfl,rfl,rfl⟩,trivial⟩,by rw [hk]; decide⟩⟩))
   simp only [c5_,Bool.true_or,Bool.false_or]
  have c5_ := c5
  try simp only [sB] at c5
  refine w_seq (w_R (qo hnt rfl (s_eql rfl rfl ?_)))
  refine qa hnt rfl rfl (r_end (q_then (w_if rfl (fun c6 => ?_) (fun c6 => ?_))))
  ·have c6_ := c6
   try simp only [sB] at c6
   refine w_skip (q_then (⟨(decide (q.fn = 4)), ?_,⟨[(0,0),(1,1),(2,2),(3,3)],by rw [hk]; decide,⟨⟨_,rfl,rfl,rfl⟩,⟨_,rfl,rfl,rfl⟩,⟨_,rfl,rfl,rfl⟩,⟨_,rfl,rfl,rfl⟩,⟨_,rfl,rfl,rfl⟩,⟨_,rfl,rfl,rfl⟩,trivial⟩,⟨⟨_,_,rfl,rfl,rfl,rfl⟩,⟨_,_,rfl,rfl,rfl,rfl⟩,⟨_,_,rfl,rfl,rfl,rfl⟩,⟨_,_,rfl,rfl,rfl,rfl⟩,trivial⟩,by rw [hk]; decide⟩⟩))
   simp only [c5_,c6_,Bool.true_or,Bool.false_or]
  have c6_ := c6
  try simp only [sB] at c6
  refine w_R (qo hnt rfl (s_eql rfl rfl ?_))
  refine qa hnt rfl rfl (r_end (q_then (⟨(decide (q.fn = 23)), ?_,⟨[(0,0),(1,1),(2,2),(3,3)],by rw [hk]; decide,⟨⟨_,rfl,rfl,rfl⟩,⟨_,rfl,rfl,rfl⟩,⟨_,rfl,rfl,rfl⟩,⟨_,rfl,rfl,rfl⟩,⟨_,rfl,rfl,rfl⟩,⟨_,rfl,rfl,rfl⟩,trivial⟩,⟨⟨_,_,rfl,rfl,rfl,rfl⟩,⟨_,_,rfl,rfl,rfl,rfl⟩,⟨_,_,rfl,rfl,rfl,rfl⟩,⟨_,_,rfl,rfl,rfl,rfl⟩,trivial⟩,by rw [hk]; decide⟩⟩)))
  simp only [c5_,c6_,Bool.true_or,Bool.false_or]
 intro bb2 hbb2
 subst hbb2
 refine w_if rfl (fun c7 => ?_) (fun c7 => ?_)
 ·try simp only [sB,Bool.or_eq_true,Bool.or_eq_false_iff] at c7
  refine w_seq (w_R (qa hnt rfl rfl (r_end (q_then (w_block ?_)))))
  refine w_adoptC (n := 3) (j := 6) (sz := 1) rfl rfl rfl (loop3 (fun (ap : Nat) (os : List UInt16) (i : Nat) => (i : Int) ≤ q.count ∧ os = (tRow u16I 65536 L (tStep L 0 5) i).1 ∧ ap = (tRow u16I 65536 L (tStep L 0 5) i).2) (fun (ap : Nat) (os : List UInt16) (i : Nat) => [(3,PV.ptr 3 0),(4,PV.ptr 4 0),(5,PV.ptr 0 0),(6,PV.ptr 1 0),(8,pN i)]) 5 (fun (ap : Nat) (os : List UInt16) (i : Nat) => [(0,.obj [pS 1 false encI L,pN ap]),(1,.obj [pI q.fn,pI 0,pI 0,pI 0,pI 0,pNil,PV.ref 2 0 none,p16 0,p16 0,pNil]),(2,oB true 1 enc16 os),(3,.obj (cRequest q)),(4,.obj [pI 0,pI 0,pI 0,pI 0,pI 0,pNil,pNil,p16 0,p16 0,pNil])]) (fun (ap : Nat) (os : List UInt16) (i : Nat) => q.count.toNat - i) (tStep L 0 5) (([] : List UInt16)) (0) ?_ ⟨[(0,2),(1,3),(2,4),(3,0),(4,1)],by rw [hk]; decide,⟨⟨_,rfl,rfl,rfl⟩,⟨_,rfl,rfl,rfl⟩,⟨_,rfl,rfl,rfl⟩,⟨_,rfl,rfl,rfl⟩,⟨_,rfl,rfl,rfl⟩,trivial⟩,⟨⟨_,_,rfl,rfl,rfl,rfl⟩,⟨_,_,rfl,rfl,rfl,rfl⟩,⟨_,_,rfl,rfl,rfl,rfl⟩,⟨_,_,rfl,rfl,rfl,rfl⟩,⟨_,_,rfl,rfl,rfl,rfl⟩,trivial⟩,by rw [hk]; decide⟩ ?_)
  · exact ⟨by omega,rfl,rfl⟩
  ·intro ap os i hI
   obtain ⟨hi,hos,hap⟩ := hI
   have hol : os.length = i := by rw [hos,tRow_length]
   refine w_seq (w_seq (w_R (qm hnt rfl rfl (qo hnt rfl (s_fa_ptr tab_46 rfl rfl tab_3 (by decide) rfl ?_)))))
   refine qo hnt rfl (s_load_ptr1 tab_3 rfl rfl rfl rfl rfl ?_)
   refine qo hnt rfl (s_lss rfl rfl ?_)
   refine r_end (q_then (w_if rfl (fun c8 => ?_) (fun c8 => ?_)))
   ·try simp only [sB] at c8
    refine w_skip (q_then (w_seq (w_block (W_drawn tabOk mixed hnt [[],[0],[],[2],[2,3],[2,3,4],[0,1,2,3,4,5],[0,1,2,3,4,5,6],(.range 8)] (by kernel_rfl) (d_op ?_)))))
    refine x_run0 [(6,PV.ptr 1 0)] [] rfl rfl rfl rfl (s_fa_ptr tab_53 rfl rfl tab_43 (by decide) rfl ⟨rfl,rfl,rfl⟩) (d_op (xL [(71,PV.ptr 1 6)] [0] [(1,.obj [pI q.fn,pI 0,pI 0,pI 0,pI 0,pNil,PV.ref 2 0 none,p16 0,p16 0,pNil])] rfl rfl rfl rfl rfl (s_load_ptr1 tab_43 rfl rfl rfl rfl rfl ⟨rfl,rfl,rfl⟩) ⟨rfl,trivial⟩ rfl (d_op (x_run0 [(5,PV.ptr 0 0)] [] rfl rfl rfl rfl (s_move rfl ⟨rfl,rfl,rfl⟩) (d_op ?_)))))
    refine xT [(73,PV.ptr 0 0)] [2] [(0,.obj [pS 1 false encI L,pN ap])] [(0,.obj [pS 1 false encI L,pN (tStep L ap 65536)])] [(1,.obj [pI q.fn,pI 0,pI 0,pI 0,pI 0,pNil,PV.ref 2 0 none,p16 0,p16 0,pNil]),(2,oB true 1 enc16 os),(3,.obj (cRequest q)),(4,.obj [pI 0,pI 0,pI 0,pI 0,pI 0,pNil,pNil,p16 0,p16 0,pNil])] rfl rfl rfl rfl rfl (s_callX (r2 := pI (tNext L ap 65536)) (nx1 := 5) (H2 := [(0,.obj [pS 1 false encI L,pN ap])]) (H3 := [(0,.obj [pS 1 false encI L,pN (tStep L ap 65536)])]) [0] [.obj [pS 1 false encI L,pN ap]] rfl rfl rfl (handed_of (by decide) ⟨rfl,trivial⟩) rfl rfl rfl rfl rfl rfl (w_burgagekeep_Tape_Next L false ap 65536 (by omega) (by omega)) rfl (dist_of rfl) rfl rfl rfl rfl ⟨rfl,rfl,rfl⟩) rfl rfl (d_op (x_run0 [(74,pI (tNext L ap 65536))] [2,3] rfl rfl rfl rfl (s_cv16 tab_3 tab_44 rfl rfl rfl ⟨rfl,rfl,rfl⟩) (d_op (xT [(75,p16 (u16I (tNext L ap 65536)))] [2,3,4] [] [(5,oB true 1 enc16 [u16I (tNext L ap 65536)])] [(0,.obj [pS 1 false encI L,pN (tStep L ap 65536)]),(1,.obj [pI q.fn,pI 0,pI 0,pI 0,pI 0,pNil,PV.ref 2 0 none,p16 0,p16 0,pNil]),(2,oB true 1 enc16 os),(3,.obj (cRequest q)),(4,.obj [pI 0,pI 0,pI 0,pI 0,pI 0,pNil,pNil,p16 0,p16 0,pNil])] rfl rfl rfl rfl rfl (s_mkM (f := enc16) [u16I (tNext L ap 65536)] tab_43 rfl tab_44 ⟨rfl,by decide⟩ (by decide) rfl rfl rfl rfl ⟨rfl,rfl,rfl⟩) rfl rfl (d_op ?_)))))
    refine x_run [(72,PV.ref 2 0 none),(76,PV.ref 5 0 none)] [0,1,2,3,4,5] [(5,oB true 1 enc16 [u16I (tNext L ap 65536)])] [(2,oB true 1 enc16 os)] [(6,oB true 1 enc16 (os ++ [u16I (tNext L ap 65536)])),(5,oB true 1 enc16 [u16I (tNext L ap 65536)])] [(6,oB true 1 enc16 (os ++ [u16I (tNext L ap 65536)]))] [(6,oB true 1 enc16 (os ++ [u16I (tNext L ap 65536)])),(5,oB true 1 enc16 [u16I (tNext L ap 65536)]),(0,.obj [pS 1 false encI L,pN (tStep L ap 65536)]),(1,.obj [pI q.fn,pI 0,pI 0,pI 0,pI 0,pNil,PV.ref 2 0 none,p16 0,p16 0,pNil]),(3,.obj (cRequest q)),(4,.obj [pI 0,pI 0,pI 0,pI 0,pI 0,pNil,pNil,p16 0,p16 0,pNil])] rfl rfl rfl rfl rfl rfl (s_appR0 (f := enc16) (l := os) (xs := [u16I (tNext L ap 65536)]) tab_43 rfl tab_44 ⟨rfl,by decide,by decide⟩ (srcM tab_43 rfl (hM_ref0 (f := enc16) rfl rfl)) rfl rfl (by (simp; omega)) ⟨rfl,rfl,rfl⟩) rfl ⟨rfl,trivial⟩ rfl rfl (d_op (x_run0 [(6,PV.ptr 1 0)] [0,1,2,3,4,5,6] rfl rfl rfl rfl (s_fa_ptr tab_53 rfl rfl tab_43 (by decide) rfl ⟨rfl,rfl,rfl⟩) (d_op (xT [(78,PV.ptr 1 6),(77,PV.ref 6 0 none)] (.range 8) [(1,.obj [pI q.fn,pI 0,pI 0,pI 0,pI 0,pNil,PV.ref 2 0 none,p16 0,p16 0,pNil])] [(1,.obj [pI q.fn,pI 0,pI 0,pI 0,pI 0,pNil,PV.ref 6 0 none,p16 0,p16 0,pNil])] [(6,oB true 1 enc16 (os ++ [u16I (tNext L ap 65536)])),(5,oB true 1 enc16 [u16I (tNext L ap 65536)]),(0,.obj [pS 1 false encI L,pN (tStep L ap 65536)]),(3,.obj (cRequest q)),(4,.obj [pI 0,pI 0,pI 0,pI 0,pI 0,pNil,pNil,p16 0,p16 0,pNil])] rfl rfl rfl rfl rfl (s_store_ptr tab_43 rfl rfl rfl rfl rfl (Nat.le_of_ble_eq_true rfl) ⟨rfl,rfl,rfl⟩) rfl rfl (d_end ⟨by kernel_rfl, ?_⟩)))))
    refine q_block (q_then (w_R (qm hnt rfl rfl (qo hnt rfl (s_addN (a := i) (b := 1) rfl rfl (by omega) (by omega) (by omega) ?_)))))
    refine qa hnt rfl rfl (r_end (q_then (⟨(tStep L ap 65536),(os ++ [u16I (tNext L ap 65536)]),(i + 1), ?_, ?_,⟨[(0,0),(1,1),(2,6),(3,3),(4,4)],by rw [hk]; decide,⟨⟨_,rfl,rfl,rfl⟩,⟨_,rfl,rfl,rfl⟩,⟨_,rfl,rfl,rfl⟩,⟨_,rfl,rfl,rfl⟩,⟨_,rfl,rfl,rfl⟩,trivial⟩,⟨⟨_,_,rfl,rfl,rfl,rfl⟩,⟨_,_,rfl,rfl,rfl,rfl⟩,⟨_,_,rfl,rfl,rfl,rfl⟩,⟨_,_,rfl,rfl,rfl,rfl⟩,⟨_,_,rfl,rfl,rfl,rfl⟩,trivial⟩,by rw [hk]; decide⟩⟩)))
    ·exact ⟨by omega,tRow_1 u16I 65536 L _ i hos hap,tRow_2 u16I 65536 L _ i hap⟩
    · omega
   try simp only [sB] at c8
   refine w_exit (q_then_exit (q_then_exit (q_block_exit (q_block (q_then ?_)))))
   refine w_seq (w_R (qo hnt rfl (s_load_ptr tab_53 rfl rfl rfl (Nat.le_of_ble_eq_true rfl) ?_)))
   refine qo hnt rfl (s_store_ptr tab_53 rfl rfl rfl rfl rfl (Nat.le_of_ble_eq_true rfl) ?_)
   refine r_set [(4,PV.ptr 4 0)] [(4,.obj [pI q.fn,pI 0,pI 0,pI 0,pI 0,pNil,PV.ref 2 0 none,p16 0,p16 0,pNil]),(0,.obj [pS 1 false encI L,pN ap]),(1,.obj [pI q.fn,pI 0,pI 0,pI 0,pI 0,pNil,PV.ref 2 0 none,p16 0,p16 0,pNil]),(2,oB true 1 enc16 os),(3,.obj (cRequest q))] 5 ⟨rfl,trivial⟩ rfl rfl (r_end (q_then (w_frzC (n := 4) (j := 6) rfl rfl rfl rfl ?_)))
   have hz4 : os = R.vals := by ((rw [hR,madeR_3 h1 (by omega) hos (by omega)]; done))
   refine w_leO (n := 4) (ds := [pI q.fn,pI 0,pI 0,pI 0,pI 0,pNil,pS 1 false enc16 R.vals,p16 0,p16 0,pNil]) rfl ⟨le_refl _,le_refl _,le_refl _,le_refl _,le_refl _,le_refl _,le_of_eq (congrArg (fun z => pS 1 false enc16 z) hz4),le_refl _,le_refl _,le_refl _,trivial⟩ ?_
   have hz5 : q.fn = R.fn ∧ 0 = R.code ∧ 0 = R.at_ ∧ 0 = R.count ∧ 0 = R.sub ∧ ([] : List Bool) = R.bits ∧ 0 = R.and_ ∧ 0 = R.or_ ∧ ([] : List UInt8) = R.data := by and_intros <;> ((rw [hR,madeR_3 h1 (by omega) hos (by omega)]; done))
   refine w_leO (n := 4) (ds := cReply R) rfl ⟨le_of_eq (congrArg pI hz5.1),le_of_eq (congrArg pI hz5.2.1),le_of_eq (congrArg pI hz5.2.2.1),le_of_eq (congrArg pI hz5.2.2.2.1),le_of_eq (congrArg pI hz5.2.2.2.2.1),le_tr (le_nilS 1 false) (le_of_eq (congrArg (fun z => pS 1 false encBo z) hz5.2.2.2.2.2.1)),le_refl _,le_of_eq (congrArg p16 hz5.2.2.2.2.2.2.1),le_of_eq (congrArg p16 hz5.2.2.2.2.2.2.2.1),le_tr (le_nilS 1 false) (le_of_eq (congrArg (fun z => pS 1 false enc8 z) hz5.2.2.2.2.2.2.2.2)),trivial⟩ (w_ret ?_)
   exact fin_plain (ret_cell tab_53 (by decide) rfl rfl (Nat.le_of_ble_eq_true rfl) rfl ret_nil) rfl rfl ⟨rfl,rfl,rfl⟩
 try simp only [sB,Bool.or_eq_true,Bool.or_eq_false_iff] at c7
 refine join1 (fun (bb3 : Bool) => bb3 = ((decide (q.fn = 15)) || (decide (q.fn = 16)))) (fun (bb3 : Bool) => [(3,PV.ptr 0 0),(4,PV.ptr 1 0),(5,PV.ptr 2 0),(6,PV.ptr 3 0),(25,pI q.fn),(79,pB bb3)]) 4 (fun (bb3 : Bool) => [(0,.obj (cRequest q)),(1,.obj [pI 0,pI 0,pI 0,pI 0,pI 0,pNil,pNil,p16 0,p16 0,pNil]),(2,.obj [pS 1 false encI L,pN (tStep L 0 5)]),(3,.obj [pI q.fn,pI 0,pI 0,pI 0,pI 0,pNil,pNil,p16 0,p16 0,pNil])]) ?_ ?_
 ·refine w_seq (w_R (qo hnt rfl (s_eql rfl rfl ?_)))
  refine qa hnt rfl rfl (r_end (q_then (w_if rfl (fun c9 => ?_) (fun c9 => ?_))))
  ·have c9_ := c9
   try simp only [sB] at c9
   refine w_skip (q_then (⟨(decide (q.fn = 15)), ?_,⟨[(0,0),(1,1),(2,2),(3,3)],by rw [hk]; decide,⟨⟨_,rfl,rfl,rfl⟩,⟨_,rfl,rfl,rfl⟩,⟨_,rfl,rfl,rfl⟩,⟨_,rfl,rfl,rfl⟩,⟨_,rfl,rfl,rfl⟩,⟨_,rfl,rfl,rfl⟩,trivial⟩,⟨⟨_,_,rfl,rfl,rfl,rfl⟩,⟨_,_,rfl,rfl,rfl,rfl⟩,⟨_,_,rfl,rfl,rfl,rfl⟩,⟨_,_,rfl,rfl,rfl,rfl⟩,trivial⟩,by rw [hk]; decide⟩⟩))
   simp only [c9_,Bool.true_or,Bool.false_or]
  have c9_ := c9
  try simp only [sB] at c9
  refine w_R (qo hnt rfl (s_eql rfl rfl ?_))
  refine qa hnt rfl rfl (r_end (q_then (⟨(decide (q.fn = 16)), ?_,⟨[(0,0),(1,1),(2,2),(3,3)],by rw [hk]; decide,⟨⟨_,rfl,rfl,rfl⟩,⟨_,rfl,rfl,rfl⟩,⟨_,rfl,rfl,rfl⟩,⟨_,rfl,rfl,rfl⟩,⟨_,rfl,rfl,rfl⟩,⟨_,rfl,rfl,rfl⟩,trivial⟩,⟨⟨_,_,rfl,rfl,rfl,rfl⟩,⟨_,_,rfl,rfl,rfl,rfl⟩,⟨_,_,rfl,rfl,rfl,rfl⟩,⟨_,_,rfl,rfl,rfl,rfl⟩,trivial⟩,by rw [hk]; decide⟩⟩)))
  simp only [c9_,Bool.true_or,Bool.false_or]
 intro bb3 hbb3
 subst hbb3
 refine w_if rfl (fun c10 => ?_) (fun c10 => ?_)
 ·try simp only [sB,Bool.or_eq_true,Bool.or_eq_false_iff] at c10
  refine W_drawn tabOk mixed hnt [[],[0],[],[2],[0,1],[0,1,4],[0,1,2,3,4,5],[0,1,2,3,4,5,6]] (by kernel_rfl) (d_op (x_run0 [(3,PV.ptr 0 0)] [] rfl rfl rfl rfl (s_fa_ptr tab_46 rfl rfl tab_3 (by decide) rfl ⟨rfl,rfl,rfl⟩) (d_op (xL [(82,PV.ptr 0 1)] [0] [(0,.obj (cRequest q))] rfl rfl rfl rfl rfl (s_load_ptr1 tab_3 rfl rfl rfl rfl rfl ⟨rfl,rfl,rfl⟩) ⟨rfl,trivial⟩ rfl (d_op ?_)))))
  refine x_run0 [(3,PV.ptr 0 0)] [] rfl rfl rfl rfl (s_fa_ptr tab_46 rfl rfl tab_3 (by decide) rfl ⟨rfl,rfl,rfl⟩) (d_op (xL [(84,PV.ptr 0 2)] [2] [(0,.obj (cRequest q))] rfl rfl rfl rfl rfl (s_load_ptr1 tab_3 rfl rfl rfl rfl rfl ⟨rfl,rfl,rfl⟩) ⟨rfl,trivial⟩ rfl (d_op (x_run0 [(6,PV.ptr 3 0)] [0,1] rfl rfl rfl rfl (s_fa_ptr tab_53 rfl rfl tab_3 (by decide) rfl ⟨rfl,rfl,rfl⟩) (d_op ?_)))))
  refine xT [(86,PV.ptr 3 2),(83,pI q.at_)] [0,1,4] [(3,.obj [pI q.fn,pI 0,pI 0,pI 0,pI 0,pNil,pNil,p16 0,p16 0,pNil])] [(3,.obj [pI q.fn,pI 0,pI q.at_,pI 0,pI 0,pNil,pNil,p16 0,p16 0,pNil])] [(0,.obj (cRequest q)),(1,.obj [pI 0,pI 0,pI 0,pI 0,pI 0,pNil,pNil,p16 0,p16 0,pNil]),(2,.obj [pS 1 false encI L,pN (tStep L 0 5)])] rfl rfl rfl rfl rfl (s_store_ptr tab_3 rfl rfl rfl rfl rfl (Nat.le_of_ble_eq_true rfl) ⟨rfl,rfl,rfl⟩) rfl rfl (d_op (x_run0 [(6,PV.ptr 3 0)] [0,1,2,3,4,5] rfl rfl rfl rfl (s_fa_ptr tab_53 rfl rfl tab_3 (by decide) rfl ⟨rfl,rfl,rfl⟩) (d_op (xT [(87,PV.ptr 3 3),(85,pI q.count)] [0,1,2,3,4,5,6] [(3,.obj [pI q.fn,pI 0,pI q.at_,pI 0,pI 0,pNil,pNil,p16 0,p16 0,pNil])] [(3,.obj [pI q.fn,pI 0,pI q.at_,pI q.count,pI 0,pNil,pNil,p16 0,p16 0,pNil])] [(0,.obj (cRequest q)),(1,.obj [pI 0,pI 0,pI 0,pI 0,pI 0,pNil,pNil,p16 0,p16 0,pNil]),(2,.obj [pS 1 false encI L,pN (tStep L 0 5)])] rfl rfl rfl rfl rfl (s_store_ptr tab_3 rfl rfl rfl rfl rfl (Nat.le_of_ble_eq_true rfl) ⟨rfl,rfl,rfl⟩) rfl rfl (d_end ⟨by kernel_rfl, ?_⟩)))))
  refine q_block (q_then (w_seq (w_R (qo hnt rfl (s_load_ptr tab_53 rfl rfl rfl (Nat.le_of_ble_eq_true rfl) ?_)))))
  refine qo hnt rfl (s_store_ptr tab_53 rfl rfl rfl rfl rfl (Nat.le_of_ble_eq_true rfl) ?_)
  refine r_set [(4,PV.ptr 1 0)] [(1,.obj [pI q.fn,pI 0,pI q.at_,pI q.count,pI 0,pNil,pNil,p16 0,p16 0,pNil]),(3,.obj [pI q.fn,pI 0,pI q.at_,pI q.count,pI 0,pNil,pNil,p16 0,p16 0,pNil]),(0,.obj (cRequest q)),(2,.obj [pS 1 false encI L,pN (tStep L 0 5)])] 4 ⟨rfl,trivial⟩ rfl rfl (r_end (q_then ?_))
  have hz6 : q.fn = R.fn ∧ 0 = R.code ∧ q.at_ = R.at_ ∧ q.count = R.count ∧ 0 = R.sub ∧ ([] : List Bool) = R.bits ∧ ([] : List UInt16) = R.vals ∧ 0 = R.and_ ∧ 0 = R.or_ ∧ ([] : List UInt8) = R.data := by and_intros <;> ((rw [hR,madeR_15 h1 (by omega)]; done))
  refine w_leO (n := 1) (ds := cReply R) rfl ⟨le_of_eq (congrArg pI hz6.1),le_of_eq (congrArg pI hz6.2.1),le_of_eq (congrArg pI hz6.2.2.1),le_of_eq (congrArg pI hz6.2.2.2.1),le_of_eq (congrArg pI hz6.2.2.2.2.1),le_tr (le_nilS 1 false) (le_of_eq (congrArg (fun z => pS 1 false encBo z) hz6.2.2.2.2.2.1)),le_tr (le_nilS 1 false) (le_of_eq (congrArg (fun z => pS 1 false enc16 z) hz6.2.2.2.2.2.2.1)),le_of_eq (congrArg p16 hz6.2.2.2.2.2.2.2.1),le_of_eq (congrArg p16 hz6.2.2.2.2.2.2.2.2.1),le_tr (le_nilS 1 false) (le_of_eq (congrArg (fun z => pS 1 false enc8 z) hz6.2.2.2.2.2.2.2.2.2)),trivial⟩ (w_ret ?_)
  exact fin_plain (ret_cell tab_53 (by decide) rfl rfl (Nat.le_of_ble_eq_true rfl) rfl ret_nil) rfl rfl ⟨rfl,rfl,rfl⟩
 try simp only [sB,Bool.or_eq_true,Bool.or_eq_false_iff] at c10
 refine w_seq (w_R (qo hnt rfl (s_eql rfl rfl ?_)))
 refine qa hnt rfl rfl (r_end (q_then (w_if rfl (fun c11 => ?_) (fun c11 => ?_))))
 ·try simp only [sB] at c11
  refine w_R (qm hnt rfl rfl (qo hnt rfl (s_callX (r2 := pS 1 false enc8 ((tBytes L (tStep L 0 5) 6).1)) (nx1 := 4) (H2 := [(0,.obj (cRequest q)),(1,.obj [pI 0,pI 0,pI 0,pI 0,pI 0,pNil,pNil,p16 0,p16 0,pNil]),(2,.obj [pS 1 false encI L,pN (tStep L 0 5)]),(3,.obj [pI q.fn,pI 0,pI 0,pI 0,pI 0,pNil,pNil,p16 0,p16 0,pNil])]) (H3 := [(2,.obj [pS 1 false encI L,pN ((tBytes L (tStep L 0 5) 6).2)]),(0,.obj (cRequest q)),(1,.obj [pI 0,pI 0,pI 0,pI 0,pI 0,pNil,pNil,p16 0,p16 0,pNil]),(3,.obj [pI q.fn,pI 0,pI 0,pI 0,pI 0,pNil,pNil,p16 0,p16 0,pNil])]) [2] [.obj [pS 1 false encI L,pN (tStep L 0 5)]] rfl rfl rfl (handed_of (by decide) ⟨rfl,trivial⟩) rfl rfl rfl rfl rfl rfl (w_burgagekeep_Tape_Bytes_d L false (tStep L 0 5) 6 (by omega) (by omega)) rfl (dist_of rfl) rfl rfl rfl rfl ?_)))
  refine qo hnt rfl (s_fa_ptr tab_53 rfl rfl tab_51 (by decide) rfl ?_)
  refine qo hnt rfl (s_store_ptr tab_51 rfl rfl rfl rfl rfl (Nat.le_of_ble_eq_true rfl) ?_)
  refine r_set [(4,PV.ptr 1 0),(6,PV.ptr 3 0)] [(3,.obj [pI q.fn,pI 0,pI 0,pI 0,pI 0,pNil,pNil,p16 0,p16 0,pS 1 false enc8 ((tBytes L (tStep L 0 5) 6).1)]),(2,.obj [pS 1 false encI L,pN ((tBytes L (tStep L 0 5) 6).2)]),(0,.obj (cRequest q)),(1,.obj [pI 0,pI 0,pI 0,pI 0,pI 0,pNil,pNil,p16 0,p16 0,pNil])] 4 ⟨rfl,rfl,trivial⟩ rfl rfl (r_end (q_block (q_then (w_seq (w_R ?_)))))
  refine qo hnt rfl (s_load_ptr tab_53 rfl rfl rfl (Nat.le_of_ble_eq_true rfl) ?_)
  refine qo hnt rfl (s_store_ptr tab_53 rfl rfl rfl rfl rfl (Nat.le_of_ble_eq_true rfl) ?_)
  refine r_set [(4,PV.ptr 1 0)] [(1,.obj [pI q.fn,pI 0,pI 0,pI 0,pI 0,pNil,pNil,p16 0,p16 0,pS 1 false enc8 ((tBytes L (tStep L 0 5) 6).1)]),(3,.obj [pI q.fn,pI 0,pI 0,pI 0,pI 0,pNil,pNil,p16 0,p16 0,pS 1 false enc8 ((tBytes L (tStep L 0 5) 6).1)]),(2,.obj [pS 1 false encI L,pN ((tBytes L (tStep L 0 5) 6).2)]),(0,.obj (cRequest q))] 4 ⟨rfl,trivial⟩ rfl rfl (r_end (q_then ?_))
  have hz7 : q.fn = R.fn ∧ 0 = R.code ∧ 0 = R.at_ ∧ 0 = R.count ∧ 0 = R.sub ∧ ([] : List Bool) = R.bits ∧ ([] : List UInt16) = R.vals ∧ 0 = R.and_ ∧ 0 = R.or_ ∧ ((tBytes L (tStep L 0 5) 6).1) = R.data := by and_intros <;> ((rw [hR,madeR_17 h1 (by omega)]; done))
  refine w_leO (n := 1) (ds := cReply R) rfl ⟨le_of_eq (congrArg pI hz7.1),le_of_eq (congrArg pI hz7.2.1),le_of_eq (congrArg pI hz7.2.2.1),le_of_eq (congrArg pI hz7.2.2.2.1),le_of_eq (congrArg pI hz7.2.2.2.2.1),le_tr (le_nilS 1 false) (le_of_eq (congrArg (fun z => pS 1 false encBo z) hz7.2.2.2.2.2.1)),le_tr (le_nilS 1 false) (le_of_eq (congrArg (fun z => pS 1 false enc16 z) hz7.2.2.2.2.2.2.1)),le_of_eq (congrArg p16 hz7.2.2.2.2.2.2.2.1),le_of_eq (congrArg p16 hz7.2.2.2.2.2.2.2.2.1),le_of_eq (congrArg (fun z => pS 1 false enc8 z) hz7.2.2.2.2.2.2.2.2.2),trivial⟩ (w_ret ?_)
  exact fin_plain (ret_cell tab_53 (by decide) rfl rfl (Nat.le_of_ble_eq_true rfl) rfl ret_nil) rfl rfl ⟨rfl,rfl,rfl⟩
 try simp only [sB] at c11
 refine W_drawn tabOk mixed hnt [[],[0],[],[2],[],[4],[],[6],[],[8],[],[10],[0,1],[0,1,12],[0,1,2,3,12,13],[0,1,2,3,12,13,14],[0,1,2,3,4,5,12,13,14,15],[0,1,2,3,4,5,12,13,14,15,16],(.range 8 ++ [12,13,14,15,16,17]),(.range 8 ++ [12,13,14,15,16,17,18]),(.range 10 ++ [12,13,14,15,16,17,18,19]),(.range 10 ++ [12,13,14,15,16,17,18,19,20]),(.range 22),(.range 23)] (by kernel_rfl) (d_op (x_run0 [(3,PV.ptr 0 0)] [] rfl rfl rfl rfl (s_fa_ptr tab_46 rfl rfl tab_3 (by decide) rfl ⟨rfl,rfl,rfl⟩) (d_op (xL [(26,PV.ptr 0 1)] [0] [(0,.obj (cRequest q))] rfl rfl rfl rfl rfl (s_load_ptr1 tab_3 rfl rfl rfl rfl rfl ⟨rfl,rfl,rfl⟩) ⟨rfl,trivial⟩ rfl (d_op ?_)))))
 refine x_run0 [(3,PV.ptr 0 0)] [] rfl rfl rfl rfl (s_fa_ptr tab_46 rfl rfl tab_3 (by decide) rfl ⟨rfl,rfl,rfl⟩) (d_op (xL [(28,PV.ptr 0 4)] [2] [(0,.obj (cRequest q))] rfl rfl rfl rfl rfl (s_load_ptr1 tab_3 rfl rfl rfl rfl rfl ⟨rfl,rfl,rfl⟩) ⟨rfl,trivial⟩ rfl (d_op (x_run0 [(3,PV.ptr 0 0)] [] rfl rfl rfl rfl (s_fa_ptr tab_46 rfl rfl tab_42 (by decide) rfl ⟨rfl,rfl,rfl⟩) (d_op ?_)))))
 refine xL [(30,PV.ptr 0 5)] [4] [(0,.obj (cRequest q))] rfl rfl rfl rfl rfl (s_load_ptr1 tab_42 rfl rfl rfl rfl rfl ⟨rfl,rfl,rfl⟩) ⟨rfl,trivial⟩ rfl (d_op (x_run0 [(3,PV.ptr 0 0)] [] rfl rfl rfl rfl (s_fa_ptr tab_46 rfl rfl tab_43 (by decide) rfl ⟨rfl,rfl,rfl⟩) (d_op (xL [(32,PV.ptr 0 6)] [6] [(0,.obj (cRequest q))] rfl rfl rfl rfl rfl (s_load_ptr1 tab_43 rfl rfl rfl rfl rfl ⟨rfl,rfl,rfl⟩) ⟨rfl,trivial⟩ rfl (d_op ?_)))))
 refine x_run0 [(3,PV.ptr 0 0)] [] rfl rfl rfl rfl (s_fa_ptr tab_46 rfl rfl tab_44 (by decide) rfl ⟨rfl,rfl,rfl⟩) (d_op (xL [(34,PV.ptr 0 7)] [8] [(0,.obj (cRequest q))] rfl rfl rfl rfl rfl (s_load_ptr1 tab_44 rfl rfl rfl rfl rfl ⟨rfl,rfl,rfl⟩) ⟨rfl,trivial⟩ rfl (d_op (x_run0 [(3,PV.ptr 0 0)] [] rfl rfl rfl rfl (s_fa_ptr tab_46 rfl rfl tab_44 (by decide) rfl ⟨rfl,rfl,rfl⟩) (d_op ?_)))))
 refine xL [(36,PV.ptr 0 8)] [10] [(0,.obj (cRequest q))] rfl rfl rfl rfl rfl (s_load_ptr1 tab_44 rfl rfl rfl rfl rfl ⟨rfl,rfl,rfl⟩) ⟨rfl,trivial⟩ rfl (d_op (x_run0 [(6,PV.ptr 3 0)] [0,1] rfl rfl rfl rfl (s_fa_ptr tab_53 rfl rfl tab_3 (by decide) rfl ⟨rfl,rfl,rfl⟩) (d_op (xT [(38,PV.ptr 3 2),(27,pI q.at_)] [0,1,12] [(3,.obj [pI q.fn,pI 0,pI 0,pI 0,pI 0,pNil,pNil,p16 0,p16 0,pNil])] [(3,.obj [pI q.fn,pI 0,pI q.at_,pI 0,pI 0,pNil,pNil,p16 0,p16 0,pNil])] [(0,.obj (cRequest q)),(1,.obj [pI 0,pI 0,pI 0,pI 0,pI 0,pNil,pNil,p16 0,p16 0,pNil]),(2,.obj [pS 1 false encI L,pN (tStep L 0 5)])] rfl rfl rfl rfl rfl (s_store_ptr tab_3 rfl rfl rfl rfl rfl (Nat.le_of_ble_eq_true rfl) ⟨rfl,rfl,rfl⟩) rfl rfl (d_op ?_)))))
 refine x_run0 [(6,PV.ptr 3 0)] [0,1,2,3,12,13] rfl rfl rfl rfl (s_fa_ptr tab_53 rfl rfl tab_3 (by decide) rfl ⟨rfl,rfl,rfl⟩) (d_op (xT [(39,PV.ptr 3 4),(29,pI q.sub)] [0,1,2,3,12,13,14] [(3,.obj [pI q.fn,pI 0,pI q.at_,pI 0,pI 0,pNil,pNil,p16 0,p16 0,pNil])] [(3,.obj [pI q.fn,pI 0,pI q.at_,pI 0,pI q.sub,pNil,pNil,p16 0,p16 0,pNil])] [(0,.obj (cRequest q)),(1,.obj [pI 0,pI 0,pI 0,pI 0,pI 0,pNil,pNil,p16 0,p16 0,pNil]),(2,.obj [pS 1 false encI L,pN (tStep L 0 5)])] rfl rfl rfl rfl rfl (s_store_ptr tab_3 rfl rfl rfl rfl rfl (Nat.le_of_ble_eq_true rfl) ⟨rfl,rfl,rfl⟩) rfl rfl (d_op (x_run0 [(6,PV.ptr 3 0)] [0,1,2,3,4,5,12,13,14,15] rfl rfl rfl rfl (s_fa_ptr tab_53 rfl rfl tab_42 (by decide) rfl ⟨rfl,rfl,rfl⟩) (d_op ?_)))))
 refine xT [(40,PV.ptr 3 5),(31,pS 1 false encBo q.bits)] [0,1,2,3,4,5,12,13,14,15,16] [(3,.obj [pI q.fn,pI 0,pI q.at_,pI 0,pI q.sub,pNil,pNil,p16 0,p16 0,pNil])] [(3,.obj [pI q.fn,pI 0,pI q.at_,pI 0,pI q.sub,pS 1 false encBo q.bits,pNil,p16 0,p16 0,pNil])] [(0,.obj (cRequest q)),(1,.obj [pI 0,pI 0,pI 0,pI 0,pI 0,pNil,pNil,p16 0,p16 0,pNil]),(2,.obj [pS 1 false encI L,pN (tStep L 0 5)])] rfl rfl rfl rfl rfl (s_store_ptr tab_42 rfl rfl rfl rfl rfl (Nat.le_of_ble_eq_true rfl) ⟨rfl,rfl,rfl⟩) rfl rfl (d_op (x_run0 [(6,PV.ptr 3 0)] (.range 8 ++ [12,13,14,15,16,17]) rfl rfl rfl rfl (s_fa_ptr tab_53 rfl rfl tab_43 (by decide) rfl ⟨rfl,rfl,rfl⟩) (d_op (xT [(41,PV.ptr 3 6),(33,pS 1 false enc16 q.vals)] (.range 8 ++ [12,13,14,15,16,17,18]) [(3,.obj [pI q.fn,pI 0,pI q.at_,pI 0,pI q.sub,pS 1 false encBo q.bits,pNil,p16 0,p16 0,pNil])] [(3,.obj [pI q.fn,pI 0,pI q.at_,pI 0,pI q.sub,pS 1 false encBo q.bits,pS 1 false enc16 q.vals,p16 0,p16 0,pNil])] [(0,.obj (cRequest q)),(1,.obj [pI 0,pI 0,pI 0,pI 0,pI 0,pNil,pNil,p16 0,p16 0,pNil]),(2,.obj [pS 1 false encI L,pN (tStep L 0 5)])] rfl rfl rfl rfl rfl (s_store_ptr tab_43 rfl rfl rfl rfl rfl (Nat.le_of_ble_eq_true rfl) ⟨rfl,rfl,rfl⟩) rfl rfl (d_op ?_)))))
 refine x_run0 [(6,PV.ptr 3 0)] (.range 10 ++ [12,13,14,15,16,17,18,19]) rfl rfl rfl rfl (s_fa_ptr tab_53 rfl rfl tab_44 (by decide) rfl ⟨rfl,rfl,rfl⟩) (d_op (xT [(42,PV.ptr 3 7),(35,p16 q.and_)] (.range 10 ++ [12,13,14,15,16,17,18,19,20]) [(3,.obj [pI q.fn,pI 0,pI q.at_,pI 0,pI q.sub,pS 1 false encBo q.bits,pS 1 false enc16 q.vals,p16 0,p16 0,pNil])] [(3,.obj [pI q.fn,pI 0,pI q.at_,pI 0,pI q.sub,pS 1 false encBo q.bits,pS 1 false enc16 q.vals,p16 q.and_,p16 0,pNil])] [(0,.obj (cRequest q)),(1,.obj [pI 0,pI 0,pI 0,pI 0,pI 0,pNil,pNil,p16 0,p16 0,pNil]),(2,.obj [pS 1 false encI L,pN (tStep L 0 5)])] rfl rfl rfl rfl rfl (s_store_ptr tab_44 rfl rfl rfl rfl rfl (Nat.le_of_ble_eq_true rfl) ⟨rfl,rfl,rfl⟩) rfl rfl (d_op (x_run0 [(6,PV.ptr 3 0)] (.range 22) rfl rfl rfl rfl (s_fa_ptr tab_53 rfl rfl tab_44 (by decide) rfl ⟨rfl,rfl,rfl⟩) (d_op ?_)))))
 refine xT [(43,PV.ptr 3 8),(37,p16 q.or_)] (.range 23) [(3,.obj [pI q.fn,pI 0,pI q.at_,pI 0,pI q.sub,pS 1 false encBo q.bits,pS 1 false enc16 q.vals,p16 q.and_,p16 0,pNil])] [(3,.obj [pI q.fn,pI 0,pI q.at_,pI 0,pI q.sub,pS 1 false encBo q.bits,pS 1 false enc16 q.vals,p16 q.and_,p16 q.or_,pNil])] [(0,.obj (cRequest q)),(1,.obj [pI 0,pI 0,pI 0,pI 0,pI 0,pNil,pNil,p16 0,p16 0,pNil]),(2,.obj [pS 1 false encI L,pN (tStep L 0 5)])] rfl rfl rfl rfl rfl (s_store_ptr tab_44 rfl rfl rfl rfl rfl (Nat.le_of_ble_eq_true rfl) ⟨rfl,rfl,rfl⟩) rfl rfl (d_end ⟨by kernel_rfl, ?_⟩)
 refine q_block (q_then (w_seq (w_R (qo hnt rfl (s_load_ptr tab_53 rfl rfl rfl (Nat.le_of_ble_eq_true rfl) ?_)))))
 refine qo hnt rfl (s_store_ptr tab_53 rfl rfl rfl rfl rfl (Nat.le_of_ble_eq_true rfl) ?_)
 refine r_set [(4,PV.ptr 1 0)] [(1,.obj [pI q.fn,pI 0,pI q.at_,pI 0,pI q.sub,pS 1 false encBo q.bits,pS 1 false enc16 q.vals,p16 q.and_,p16 q.or_,pNil]),(3,.obj [pI q.fn,pI 0,pI q.at_,pI 0,pI q.sub,pS 1 false encBo q.bits,pS 1 false enc16 q.vals,p16 q.and_,p16 q.or_,pNil]),(0,.obj (cRequest q)),(2,.obj [pS 1 false encI L,pN (tStep L 0 5)])] 4 ⟨rfl,trivial⟩ rfl rfl (r_end (q_then ?_))
 have hz8 : q.fn = R.fn ∧ 0 = R.code ∧ q.at_ = R.at_ ∧ 0 = R.count ∧ q.sub = R.sub ∧ q.bits = R.bits ∧ q.vals = R.vals ∧ q.and_ = R.and_ ∧ q.or_ = R.or_ ∧ ([] : List UInt8) = R.data := by and_intros <;> ((rw [hR,madeR_5 h1 (by omega)]; done))
 refine w_leO (n := 1) (ds := cReply R) rfl ⟨le_of_eq (congrArg pI hz8.1),le_of_eq (congrArg pI hz8.2.1),le_of_eq (congrArg pI hz8.2.2.1),le_of_eq (congrArg pI hz8.2.2.2.1),le_of_eq (congrArg pI hz8.2.2.2.2.1),le_of_eq (congrArg (fun z => pS 1 false encBo z) hz8.2.2.2.2.2.1),le_of_eq (congrArg (fun z => pS 1 false enc16 z) hz8.2.2.2.2.2.2.1),le_of_eq (congrArg p16 hz8.2.2.2.2.2.2.2.1),le_of_eq (congrArg p16 hz8.2.2.2.2.2.2.2.2.1),le_tr (le_nilS 1 false) (le_of_eq (congrArg (fun z => pS 1 false enc8 z) hz8.2.2.2.2.2.2.2.2.2)),trivial⟩ (w_ret ?_)
 exact fin_plain (ret_cell tab_53 (by decide) rfl rfl (Nat.le_of_ble_eq_true rfl) rfl ret_nil) rfl rfl ⟨rfl,rfl,rfl⟩
end Go.Proofs.Ytljkbpgcglomfaa
set_option linter.unusedVariables false
namespace Go.Proofs.Ytljkbpgcglomfaa
open Go Go.Proofs.Ytljkbpgcglomfaa.Pv
theorem odd3 {r : TReply} {what n : Int} (h : r.bits.length ≤ 4096 ∧ r.vals.length ≤ 4096 ∧ r.data.length ≤ 4096) : (oddR r what n).bits.length ≤ 140737488351232 ∧ (oddR r what n).vals.length ≤ 70368744175616 ∧ (oddR r what n).data.length ≤ 140737488351232 := by
  have := oddR_len (what := what) (n := n) (Nat.le_refl 4096) h
  omega
theorem small3 {r : TReply} (h : r.bits.length ≤ 25 ∧ r.vals.length ≤ 25 ∧ r.data.length ≤ 25) : r.bits.length ≤ 4096 ∧ r.vals.length ≤ 4096 ∧ r.data.length ≤ 4096 := by omega
theorem refuse_len (n k : Int) : (refuseR n k).bits.length ≤ 140737488351232 ∧ (refuseR n k).vals.length ≤ 140737488351232 ∧ (refuseR n k).data.length ≤ 140737488351232 := ⟨by simp [refuseR],by simp [refuseR],by simp [refuseR]⟩
end Go.Proofs.Ytljkbpgcglomfaa
set_option linter.unusedVariables false
set_option linter.unusedSimpArgs false
set_option maxRecDepth 10000
set_option maxHeartbeats 1000000
namespace Go.Proofs.Ytljkbpgcglomfaa
open Go Go.Proofs.Ytljkbpgcglomfaa.Pv
theorem w_burgagelaw4_reads (b : List UInt8) (cl_b : Bool) (q : TRequest) (hb : b.length ≤ 140737488351232) (hq : q.count ≤ 9223372036854775807 ∧ (b.length ≤ 17592186043904 ∨ q.count ≤ 140737488351232)) :
    T Try.prog 25 [pS 1 cl_b enc8 b,PV.f (eRequest q)] 0 [] (Ret (pB true) 0 []) := by
 refine t_fun tabOk (n := 29) (rs := [.tmp 4]) Try.func25 rfl rfl rfl rfl (Nat.le_of_ble_eq_true rfl) ?_
 intro c hnt hk
 refine w_seq (w_R (qo hnt rfl (s_box rfl rfl ?_)))
 refine qa hnt rfl rfl (r_set [(0,pS 1 cl_b enc8 b),(3,PV.ptr 0 0)] [(0,.obj (cRequest q))] 1 ⟨rfl,rfl,trivial⟩ rfl rfl (r_end (q_then (w_seq (w_R ?_)))))
 refine qm hnt rfl rfl (qo hnt rfl (s_load_ptr tab_46 rfl rfl rfl (Nat.le_of_ble_eq_true rfl) ?_))
 obtain ⟨R1,hR1⟩ : ∃ z : TReply × Int,z = takeWith takeP b q := ⟨_,rfl⟩
 refine qo hnt rfl (s_callF rfl rfl rfl (w_reply_Read b cl_b q R1 hR1 (by omega) (by omega)) rfl ?_)
 refine qm hnt rfl rfl (qo hnt rfl (s_extract rfl rfl ?_))
 refine qo hnt rfl (s_extract rfl rfl ?_)
 refine qo hnt rfl (s_alloc tab_53 ?_)
 refine qo hnt rfl (s_store_ptr tab_53 rfl rfl rfl rfl rfl (Nat.le_of_ble_eq_true rfl) ?_)
 refine qa hnt rfl rfl (r_set [(0,pS 1 cl_b enc8 b),(3,PV.ptr 0 0),(5,PV.ptr 1 0),(6,pI R1.2)] [(1,.obj (cReply R1.1)),(0,.obj (cRequest q))] 2 ⟨rfl,rfl,rfl,rfl,trivial⟩ rfl rfl (r_end (q_then (w_seq (w_R ?_)))))
 refine qm hnt rfl rfl (qo hnt rfl (s_load_ptr tab_46 rfl rfl rfl (Nat.le_of_ble_eq_true rfl) ?_))
 obtain ⟨R2,hR2⟩ : ∃ z : TReply × Int,z = takeWith takeG b q := ⟨_,rfl⟩
 refine qo hnt rfl (s_callF rfl rfl rfl (w_burgageref3_Take b cl_b q R2 hR2 (by omega) (by omega)) rfl ?_)
 refine qm hnt rfl rfl (qo hnt rfl (s_extract rfl rfl ?_))
 refine qo hnt rfl (s_extract rfl rfl ?_)
 refine qo hnt rfl (s_alloc tab_53 ?_)
 refine qo hnt rfl (s_store_ptr tab_53 rfl rfl rfl rfl rfl (Nat.le_of_ble_eq_true rfl) ?_)
 refine qa hnt rfl rfl (r_set [(5,PV.ptr 1 0),(6,pI R1.2),(7,PV.ptr 2 0),(8,pI R2.2)] [(2,.obj (cReply R2.1)),(1,.obj (cReply R1.1)),(0,.obj (cRequest q))] 3 ⟨rfl,rfl,rfl,rfl,trivial⟩ rfl rfl (r_end (q_then (w_seq ?_))))
 have hrr : R1 = R2 := by rw [hR1,hR2]; exact take_same b q
 have hrl := takeW_len takeP b q
 rw [← hR1] at hrl
 refine w_R (qm hnt rfl rfl (qm hnt rfl rfl (qo hnt rfl (s_eql rfl rfl ?_))))
 refine qm hnt rfl rfl (r_if tabOk hnt rfl rfl rfl (fun g1 => ?_) (fun g1 => ?_))
 ·have g1' := g1
  try simp only [sB] at g1'
  refine qo hnt rfl (s_load_ptr tab_53 rfl rfl rfl (Nat.le_of_ble_eq_true rfl) ?_)
  refine ry hnt rfl rfl rfl g1 (qo hnt rfl (s_load_ptr tab_53 rfl rfl rfl (Nat.le_of_ble_eq_true rfl) ?_))
  refine ry hnt rfl rfl rfl g1 (qo hnt rfl (s_callF rfl rfl rfl (w_burgageref3_Alike (⟨R1.1.fn,R1.1.code,R1.1.at_,R1.1.count,R1.1.sub,R1.1.bits,R1.1.vals,R1.1.and_,R1.1.or_,R1.1.data⟩ : TReply) (⟨R2.1.fn,R2.1.code,R2.1.at_,R2.1.count,R2.1.sub,R2.1.bits,R2.1.vals,R2.1.and_,R2.1.or_,R2.1.data⟩ : TReply) (by (simp; omega))) rfl ?_))
  refine qo hnt rfl (s_pick_t rfl g1 rfl ?_)
  refine qa hnt rfl rfl (r_end (q_then (w_le (s := 4) (y := pB true) rfl (le_of_eq (congrArg pB (show (decide ((⟨R1.1.fn,R1.1.code,R1.1.at_,R1.1.count,R1.1.sub,R1.1.bits,R1.1.vals,R1.1.and_,R1.1.or_,R1.1.data⟩ : TReply) = (⟨R2.1.fn,R2.1.code,R2.1.at_,R2.1.count,R2.1.sub,R2.1.bits,R2.1.vals,R2.1.and_,R2.1.or_,R2.1.data⟩ : TReply))) = true by (rw [hrr]; simp; done)))) (w_ret ?_))))
  exact fin_plain (ret_tmp rfl ret_nil) rfl rfl ⟨rfl,rfl,rfl⟩
 exact absurd g1 (by (rw [hrr]; simp; done))
theorem w_burgagelaw4_known   :
    T Try.prog 27 [] 0 [] (Ret (pB true) 0 []) := by
 refine t_fun tabOk (n := 101) (rs := [.tmp 0]) Try.func27 rfl rfl rfl rfl (Nat.le_of_ble_eq_true rfl) ?_
 intro c hnt hk
 refine w_seq (w_R (qa hnt rfl rfl (r_end (q_then (w_seq ?_)))))
 refine w_R (qo hnt rfl (s_callF rfl rfl rfl (w_reply_Refuse 3 2) rfl ?_))
 refine qo hnt rfl (s_callF rfl rfl rfl (w_reply_Bytes (refuseR 3 2) (by decide)) rfl ?_)
 refine qm hnt rfl rfl (qo hnt rfl (s_extract rfl rfl ?_))
 refine qo hnt rfl (s_extract rfl rfl ?_)
 refine qa hnt rfl rfl (qa hnt rfl rfl (r_end (q_then (w_seq (w_R ?_)))))
 refine qm hnt rfl rfl (qo hnt rfl (s_build tab_46 rfl rfl (b_cons rfl tab_3 rfl rfl rfl (Nat.le_of_ble_eq_true rfl) (b_nil ?_))))
 obtain ⟨R1,hR1⟩ : ∃ z : TReply × Int,z = takeWith takeP (layE (refuseR 3 2)) (⟨3,0,0,0,0,[],[],0,0⟩ : TRequest) := ⟨_,rfl⟩
 refine qo hnt rfl (s_callF rfl rfl rfl (T.leL (args := [pS 1 false enc8 (layE (refuseR 3 2)),PV.f (.agg [encI 3,encI 0,encI 0,encI 0,encI 0,FV.v (.slice none 0 0),FV.v (.slice none 0 0),enc16 0,enc16 0])]) (args' := [pS 1 false enc8 (layE (refuseR 3 2)),PV.f (eRequest (⟨3,0,0,0,0,[],[],0,0⟩ : TRequest))]) ⟨le_refl _,⟨le_F (FLe.agg ⟨FLe.refl _,FLe.refl _,FLe.refl _,FLe.refl _,FLe.refl _,FLe.nil 1 false,FLe.nil 1 false,FLe.refl _,FLe.refl _,trivial⟩),trivial⟩⟩ (w_reply_Read (layE (refuseR 3 2)) false (⟨3,0,0,0,0,[],[],0,0⟩ : TRequest) R1 hR1 (by decide +kernel) (by decide +kernel))) rfl ?_)
 refine qm hnt rfl rfl (qo hnt rfl (s_extract rfl rfl ?_))
 refine qo hnt rfl (s_extract rfl rfl ?_)
 refine qo hnt rfl (s_alloc tab_53 ?_)
 refine qo hnt rfl (s_store_ptr tab_53 rfl rfl rfl rfl rfl (Nat.le_of_ble_eq_true rfl) ?_)
 refine qa hnt rfl rfl (r_set [(1,pS 1 false enc8 (layE (refuseR 3 2))),(2,pI (goodR (refuseR 3 2))),(3,PV.ptr 0 0),(4,pI R1.2)] [(0,.obj (cReply R1.1))] 1 ⟨rfl,rfl,rfl,rfl,trivial⟩ rfl rfl (r_end (q_then (w_seq ?_))))
 have hr1 : R1 = (⟨3,2,0,0,0,[],[],0,0,[]⟩,0) := by rw [hR1]; decide +kernel
 refine w_R (qo hnt rfl (s_build tab_46 rfl rfl (b_nil ?_)))
 obtain ⟨R2,hR2⟩ : ∃ z : TReply × Int,z = takeWith takeP [] (⟨0,0,0,0,0,[],[],0,0⟩ : TRequest) := ⟨_,rfl⟩
 refine qo hnt rfl (s_callF rfl rfl rfl (T.leL (args := [pNil,PV.f (.agg [encI 0,encI 0,encI 0,encI 0,encI 0,FV.v (.slice none 0 0),FV.v (.slice none 0 0),enc16 0,enc16 0])]) (args' := [pS 1 false enc8 [],PV.f (eRequest (⟨0,0,0,0,0,[],[],0,0⟩ : TRequest))]) ⟨le_F (FLe.nil 1 false),⟨le_F (FLe.agg ⟨FLe.refl _,FLe.refl _,FLe.refl _,FLe.refl _,FLe.refl _,FLe.nil 1 false,FLe.nil 1 false,FLe.refl _,FLe.refl _,trivial⟩),trivial⟩⟩ (w_reply_Read [] false (⟨0,0,0,0,0,[],[],0,0⟩ : TRequest) R2 hR2 (by decide) (by decide))) rfl ?_)
 refine qm hnt rfl rfl (qo hnt rfl (s_extract rfl rfl ?_))
 refine qo hnt rfl (s_extract rfl rfl ?_)
 refine qo hnt rfl (s_alloc tab_53 ?_)
 refine qo hnt rfl (s_store_ptr tab_53 rfl rfl rfl rfl rfl (Nat.le_of_ble_eq_true rfl) ?_)
 refine qa hnt rfl rfl (r_set [(1,pS 1 false enc8 (layE (refuseR 3 2))),(2,pI (goodR (refuseR 3 2))),(3,PV.ptr 0 0),(4,pI R1.2),(6,pI R2.2)] [(1,.obj (cReply R2.1)),(0,.obj (cReply R1.1))] 2 ⟨rfl,rfl,rfl,rfl,rfl,trivial⟩ rfl rfl (r_end (q_then (w_seq ?_))))
 have hr2 : R2 = (zeroA,13) := by rw [hR2]; decide +kernel
 refine w_R (qo hnt rfl (s_build tab_53 rfl rfl (b_nil ?_)))
 refine qo hnt rfl (s_callF rfl rfl rfl (T.leL (args := [PV.f (.agg [encI 0,encI 0,encI 0,encI 0,encI 0,FV.v (.slice none 0 0),FV.v (.slice none 0 0),enc16 0,enc16 0,FV.v (.slice none 0 0)])]) (args' := [PV.f (eReply (⟨0,0,0,0,0,[],[],0,0,[]⟩ : TReply))]) ⟨le_F (FLe.agg ⟨FLe.refl _,FLe.refl _,FLe.refl _,FLe.refl _,FLe.refl _,FLe.nil 1 false,FLe.nil 1 false,FLe.refl _,FLe.refl _,FLe.nil 1 false,trivial⟩),trivial⟩ (w_reply_Bytes (⟨0,0,0,0,0,[],[],0,0,[]⟩ : TReply) (by decide))) rfl ?_)
 refine qm hnt rfl rfl (qo hnt rfl (s_extract rfl rfl ?_))
 refine qo hnt rfl (s_extract rfl rfl ?_)
 refine qa hnt rfl rfl (qa hnt rfl rfl (r_end (q_then (w_seq (w_R ?_)))))
 refine qo hnt rfl (s_mkM (f := encBo) [true,false,true] tab_42 rfl tab_4 ⟨rfl,by decide⟩ (by decide) rfl rfl rfl rfl ?_)
 refine qo hnt rfl (s_build tab_53 rfl rfl (b_cons rfl tab_3 rfl rfl rfl (Nat.le_of_ble_eq_true rfl) (b_cons rfl tab_42 rfl rfl rfl (Nat.le_of_ble_eq_true rfl) (b_nil ?_))))
 refine qo hnt rfl (s_callX (r2 := PV.tup [pS 1 false enc8 (layE (⟨1,0,0,0,0,[true,false,true],[],0,0,[]⟩ : TReply)),pI (goodR (⟨1,0,0,0,0,[true,false,true],[],0,0,[]⟩ : TReply))]) (nx1 := 3) (H2 := [(2,oB false 1 encBo [true,false,true]),(1,.obj (cReply R2.1)),(0,.obj (cReply R1.1))]) (H3 := [(2,oB false 1 encBo [true,false,true]),(1,.obj (cReply R2.1)),(0,.obj (cReply R1.1))]) [] [] rfl rfl rfl (handed_of (by decide) trivial) rfl rfl rfl rfl rfl rfl (T.leL (args := [PV.f (.agg [encI 1,encI 0,encI 0,encI 0,encI 0,FV.sl 1 false (List.map encBo [true,false,true]),FV.v (.slice none 0 0),enc16 0,enc16 0,FV.v (.slice none 0 0)])]) (args' := [PV.f (eReply (⟨1,0,0,0,0,[true,false,true],[],0,0,[]⟩ : TReply))]) ⟨le_F (FLe.agg ⟨FLe.refl _,FLe.refl _,FLe.refl _,FLe.refl _,FLe.refl _,FLe.refl _,FLe.nil 1 false,FLe.refl _,FLe.refl _,FLe.nil 1 false,trivial⟩),trivial⟩ (w_reply_Bytes (⟨1,0,0,0,0,[true,false,true],[],0,0,[]⟩ : TReply) (by decide))) rfl (dist_of rfl) rfl rfl rfl rfl ?_)
 refine qm hnt rfl rfl (qo hnt rfl (s_extract rfl rfl ?_))
 refine qo hnt rfl (s_extract rfl rfl ?_)
 refine qa hnt rfl rfl (qa hnt rfl rfl (r_set [(1,pS 1 false enc8 (layE (refuseR 3 2))),(2,pI (goodR (refuseR 3 2))),(3,PV.ptr 0 0),(4,pI R1.2),(6,pI R2.2),(8,pI (goodR (⟨0,0,0,0,0,[],[],0,0,[]⟩ : TReply))),(9,pS 1 false enc8 (layE (⟨1,0,0,0,0,[true,false,true],[],0,0,[]⟩ : TReply))),(10,pI (goodR (⟨1,0,0,0,0,[true,false,true],[],0,0,[]⟩ : TReply)))] [(2,oB false 1 encBo [true,false,true]),(1,.obj (cReply R2.1)),(0,.obj (cReply R1.1))] 3 ⟨rfl,rfl,rfl,rfl,rfl,rfl,rfl,rfl,trivial⟩ rfl rfl (r_end (q_then (w_seq ?_)))))
 refine w_R (qm hnt rfl rfl (qo hnt rfl (s_build tab_46 rfl rfl (b_cons rfl tab_3 rfl rfl rfl (Nat.le_of_ble_eq_true rfl) (b_cons rfl tab_3 rfl rfl rfl (Nat.le_of_ble_eq_true rfl) (b_nil ?_))))))
 obtain ⟨R3,hR3⟩ : ∃ z : TReply × Int,z = takeWith takeP (layE (⟨1,0,0,0,0,[true,false,true],[],0,0,[]⟩ : TReply)) (⟨1,0,3,0,0,[],[],0,0⟩ : TRequest) := ⟨_,rfl⟩
 refine qo hnt rfl (s_callF rfl rfl rfl (T.leL (args := [pS 1 false enc8 (layE (⟨1,0,0,0,0,[true,false,true],[],0,0,[]⟩ : TReply)),PV.f (.agg [encI 1,encI 0,encI 3,encI 0,encI 0,FV.v (.slice none 0 0),FV.v (.slice none 0 0),enc16 0,enc16 0])]) (args' := [pS 1 false enc8 (layE (⟨1,0,0,0,0,[true,false,true],[],0,0,[]⟩ : TReply)),PV.f (eRequest (⟨1,0,3,0,0,[],[],0,0⟩ : TRequest))]) ⟨le_refl _,⟨le_F (FLe.agg ⟨FLe.refl _,FLe.refl _,FLe.refl _,FLe.refl _,FLe.refl _,FLe.nil 1 false,FLe.nil 1 false,FLe.refl _,FLe.refl _,trivial⟩),trivial⟩⟩ (w_reply_Read (layE (⟨1,0,0,0,0,[true,false,true],[],0,0,[]⟩ : TReply)) false (⟨1,0,3,0,0,[],[],0,0⟩ : TRequest) R3 hR3 (by decide +kernel) (by decide +kernel))) rfl ?_)
 refine qm hnt rfl rfl (qo hnt rfl (s_extract rfl rfl ?_))
 refine qo hnt rfl (s_extract rfl rfl ?_)
 refine qo hnt rfl (s_alloc tab_53 ?_)
 refine qo hnt rfl (s_store_ptr tab_53 rfl rfl rfl rfl rfl (Nat.le_of_ble_eq_true rfl) ?_)
 refine qa hnt rfl rfl (r_set [(1,pS 1 false enc8 (layE (refuseR 3 2))),(2,pI (goodR (refuseR 3 2))),(3,PV.ptr 0 0),(4,pI R1.2),(6,pI R2.2),(8,pI (goodR (⟨0,0,0,0,0,[],[],0,0,[]⟩ : TReply))),(9,pS 1 false enc8 (layE (⟨1,0,0,0,0,[true,false,true],[],0,0,[]⟩ : TReply))),(10,pI (goodR (⟨1,0,0,0,0,[true,false,true],[],0,0,[]⟩ : TReply))),(11,PV.ptr 3 0),(12,pI R3.2)] [(3,.obj (cReply R3.1)),(2,oB false 1 encBo [true,false,true]),(1,.obj (cReply R2.1)),(0,.obj (cReply R1.1))] 4 ⟨rfl,rfl,rfl,rfl,rfl,rfl,rfl,rfl,rfl,rfl,trivial⟩ rfl rfl (r_end (q_then (w_seq ?_))))
 have hr3 : R3 = (⟨1,0,0,0,0,[true,false,true],[],0,0,[]⟩,0) := by rw [hR3]; decide +kernel
 refine w_R (qm hnt rfl rfl (qo hnt rfl (s_build tab_46 rfl rfl (b_cons rfl tab_3 rfl rfl rfl (Nat.le_of_ble_eq_true rfl) (b_cons rfl tab_3 rfl rfl rfl (Nat.le_of_ble_eq_true rfl) (b_nil ?_))))))
 obtain ⟨R4,hR4⟩ : ∃ z : TReply × Int,z = takeWith takeP (layE (⟨1,0,0,0,0,[true,false,true],[],0,0,[]⟩ : TReply)) (⟨1,0,2,0,0,[],[],0,0⟩ : TRequest) := ⟨_,rfl⟩
 refine qo hnt rfl (s_callF rfl rfl rfl (T.leL (args := [pS 1 false enc8 (layE (⟨1,0,0,0,0,[true,false,true],[],0,0,[]⟩ : TReply)),PV.f (.agg [encI 1,encI 0,encI 2,encI 0,encI 0,FV.v (.slice none 0 0),FV.v (.slice none 0 0),enc16 0,enc16 0])]) (args' := [pS 1 false enc8 (layE (⟨1,0,0,0,0,[true,false,true],[],0,0,[]⟩ : TReply)),PV.f (eRequest (⟨1,0,2,0,0,[],[],0,0⟩ : TRequest))]) ⟨le_refl _,⟨le_F (FLe.agg ⟨FLe.refl _,FLe.refl _,FLe.refl _,FLe.refl _,FLe.refl _,FLe.nil 1 false,FLe.nil 1 false,FLe.refl _,FLe.refl _,trivial⟩),trivial⟩⟩ (w_reply_Read (layE (⟨1,0,0,0,0,[true,false,true],[],0,0,[]⟩ : TReply)) false (⟨1,0,2,0,0,[],[],0,0⟩ : TRequest) R4 hR4 (by decide +kernel) (by decide +kernel))) rfl ?_)
 refine qm hnt rfl rfl (qo hnt rfl (s_extract rfl rfl ?_))
 refine qo hnt rfl (s_extract rfl rfl ?_)
 refine qo hnt rfl (s_alloc tab_53 ?_)
 refine qo hnt rfl (s_store_ptr tab_53 rfl rfl rfl rfl rfl (Nat.le_of_ble_eq_true rfl) ?_)
 refine qa hnt rfl rfl (r_set [(1,pS 1 false enc8 (layE (refuseR 3 2))),(2,pI (goodR (refuseR 3 2))),(3,PV.ptr 0 0),(4,pI R1.2),(6,pI R2.2),(8,pI (goodR (⟨0,0,0,0,0,[],[],0,0,[]⟩ : TReply))),(9,pS 1 false enc8 (layE (⟨1,0,0,0,0,[true,false,true],[],0,0,[]⟩ : TReply))),(10,pI (goodR (⟨1,0,0,0,0,[true,false,true],[],0,0,[]⟩ : TReply))),(11,PV.ptr 3 0),(12,pI R3.2),(14,pI R4.2)] [(4,.obj (cReply R4.1)),(3,.obj (cReply R3.1)),(2,oB false 1 encBo [true,false,true]),(1,.obj (cReply R2.1)),(0,.obj (cReply R1.1))] 5 ⟨rfl,rfl,rfl,rfl,rfl,rfl,rfl,rfl,rfl,rfl,rfl,trivial⟩ rfl rfl (r_end (q_then (w_seq ?_))))
 have hr4 : R4 = (zeroA,12) := by rw [hR4]; decide +kernel
 refine w_R (qm hnt rfl rfl (qo hnt rfl (s_eql rfl rfl ?_)))
 refine qm hnt rfl rfl (r_if tabOk hnt rfl rfl rfl (fun g1 => ?_) (fun g1 => ?_))
 ·have g1' := g1
  try simp only [sB] at g1'
  refine qm hnt rfl rfl (ry hnt rfl rfl rfl g1 (qo hnt rfl (s_cvT tab_51 tab_9 rfl tab_5 rfl rfl (hM_sl (f := enc8) rfl) ?_)))
  refine ry hnt rfl rfl rfl g1 (qo hnt rfl (s_eqtext (l := layE (refuseR 3 2)) (m := ([131,2] : List UInt8)) rfl rfl ?_))
  refine qo hnt rfl (s_pick_t rfl g1 rfl ?_)
  refine qm hnt rfl rfl (r_if tabOk hnt rfl rfl rfl (fun g2 => ?_) (fun g2 => ?_))
  ·have g2' := g2
   try simp only [sB] at g2'
   refine qm hnt rfl rfl (ry hnt rfl rfl rfl g2 (qo hnt rfl (s_eql rfl rfl ?_)))
   refine qo hnt rfl (s_pick_t rfl g2 rfl ?_)
   refine qm hnt rfl rfl (r_if tabOk hnt rfl rfl rfl (fun g3 => ?_) (fun g3 => ?_))
   ·have g3' := g3
    try simp only [sB] at g3'
    refine qo hnt rfl (s_load_ptr tab_53 rfl rfl rfl (Nat.le_of_ble_eq_true rfl) ?_)
    refine ry hnt rfl rfl rfl g3 (qo hnt rfl (s_build tab_53 rfl rfl (b_cons rfl tab_3 rfl rfl rfl (Nat.le_of_ble_eq_true rfl) (b_cons rfl tab_3 rfl rfl rfl (Nat.le_of_ble_eq_true rfl) (b_nil ?_)))))
    refine ry hnt rfl rfl rfl g3 (qo hnt rfl (s_callF rfl rfl rfl (T.leL (args := [PV.f (eReply R1.1),PV.f (.agg [encI 3,encI 2,encI 0,encI 0,encI 0,FV.v (.slice none 0 0),FV.v (.slice none 0 0),enc16 0,enc16 0,FV.v (.slice none 0 0)])]) (args' := [PV.f (eReply (⟨R1.1.fn,R1.1.code,R1.1.at_,R1.1.count,R1.1.sub,R1.1.bits,R1.1.vals,R1.1.and_,R1.1.or_,R1.1.data⟩ : TReply)),PV.f (eReply (⟨3,2,0,0,0,[],[],0,0,[]⟩ : TReply))]) ⟨le_refl _,⟨le_F (FLe.agg ⟨FLe.refl _,FLe.refl _,FLe.refl _,FLe.refl _,FLe.refl _,FLe.nil 1 false,FLe.nil 1 false,FLe.refl _,FLe.refl _,FLe.nil 1 false,trivial⟩),trivial⟩⟩ (w_burgageref3_Alike (⟨R1.1.fn,R1.1.code,R1.1.at_,R1.1.count,R1.1.sub,R1.1.bits,R1.1.vals,R1.1.and_,R1.1.or_,R1.1.data⟩ : TReply) (⟨3,2,0,0,0,[],[],0,0,[]⟩ : TReply) (by rw [hr1]; decide))) rfl ?_))
    refine qo hnt rfl (s_pick_t rfl g3 rfl ?_)
    refine qm hnt rfl rfl (r_if tabOk hnt rfl rfl rfl (fun g4 => ?_) (fun g4 => ?_))
    ·have g4' := g4
     try simp only [sB] at g4'
     refine qm hnt rfl rfl (ry hnt rfl rfl rfl g4 (qo hnt rfl (s_eql rfl rfl ?_)))
     refine qo hnt rfl (s_pick_t rfl g4 rfl ?_)
     refine qm hnt rfl rfl (r_if tabOk hnt rfl rfl rfl (fun g5 => ?_) (fun g5 => ?_))
     ·have g5' := g5
      try simp only [sB] at g5'
      refine qm hnt rfl rfl (ry hnt rfl rfl rfl g5 (qo hnt rfl (s_eql rfl rfl ?_)))
      refine qo hnt rfl (s_pick_t rfl g5 rfl ?_)
      refine qm hnt rfl rfl (r_if tabOk hnt rfl rfl rfl (fun g6 => ?_) (fun g6 => ?_))
      ·have g6' := g6
       try simp only [sB] at g6'
       refine qm hnt rfl rfl (ry hnt rfl rfl rfl g6 (qo hnt rfl (s_eql rfl rfl ?_)))
       refine qo hnt rfl (s_pick_t rfl g6 rfl ?_)
       refine qm hnt rfl rfl (r_if tabOk hnt rfl rfl rfl (fun g7 => ?_) (fun g7 => ?_))
       ·have g7' := g7
        try simp only [sB] at g7'
        refine qm hnt rfl rfl (ry hnt rfl rfl rfl g7 (qo hnt rfl (s_cvT tab_51 tab_9 rfl tab_5 rfl rfl (hM_sl (f := enc8) rfl) ?_)))
        refine ry hnt rfl rfl rfl g7 (qo hnt rfl (s_eqtext (l := layE (⟨1,0,0,0,0,[true,false,true],[],0,0,[]⟩ : TReply)) (m := ([1,1,5] : List UInt8)) rfl rfl ?_))
        refine qo hnt rfl (s_pick_t rfl g7 rfl ?_)
        refine qm hnt rfl rfl (r_if tabOk hnt rfl rfl rfl (fun g8 => ?_) (fun g8 => ?_))
        ·have g8' := g8
         try simp only [sB] at g8'
         refine qm hnt rfl rfl (ry hnt rfl rfl rfl g8 (qo hnt rfl (s_eql rfl rfl ?_)))
         refine qo hnt rfl (s_pick_t rfl g8 rfl ?_)
         refine qm hnt rfl rfl (r_if tabOk hnt rfl rfl rfl (fun g9 => ?_) (fun g9 => ?_))
         ·have g9' := g9
          try simp only [sB] at g9'
          refine qo hnt rfl (s_fa_ptr tab_53 rfl rfl tab_42 (by decide) rfl ?_)
          refine ry hnt rfl rfl rfl g9 (qo hnt rfl (s_load_ptr1 tab_42 rfl rfl rfl rfl rfl ?_))
          refine ry hnt rfl rfl rfl g9 (qo hnt rfl (s_lenM (l := R3.1.bits) tab_42 rfl (hM_sl (f := encBo) rfl) ?_))
          refine ry hnt rfl rfl rfl g9 (qo hnt rfl (s_eql rfl rfl ?_))
          refine qo hnt rfl (s_pick_t rfl g9 rfl ?_)
          refine qm hnt rfl rfl (r_if tabOk hnt rfl rfl rfl (fun g10 => ?_) (fun g10 => ?_))
          ·have g10' := g10
           try simp only [sB] at g10'
           refine qm hnt rfl rfl (ry hnt rfl rfl rfl g10 (qo hnt rfl (s_eql rfl rfl ?_)))
           refine qo hnt rfl (s_pick_t rfl g10 rfl ?_)
           refine qa hnt rfl rfl (r_set [(0,pB (decide (R4.2 = 12)))] [(4,.obj (cReply R4.1)),(3,.obj (cReply R3.1)),(2,oB false 1 encBo [true,false,true]),(1,.obj (cReply R2.1)),(0,.obj (cReply R1.1))] 5 ⟨rfl,trivial⟩ rfl rfl (r_end (q_then (w_le (s := 0) (y := pB true) rfl (le_of_eq (congrArg pB (show (decide (R4.2 = 12)) = true by (rw [hr4]; decide +kernel)))) (w_ret ?_)))))
           exact fin_plain (ret_tmp rfl ret_nil) rfl rfl ⟨rfl,rfl,rfl⟩
          exact absurd g10 (by (rw [hr3]; decide +kernel))
         exact absurd g9 (by (rw [hr3]; decide +kernel))
        exact absurd g8 (by decide +kernel)
       exact absurd g7 (by decide +kernel)
      exact absurd g6 (by decide +kernel)
     exact absurd g5 (by (rw [hr2]; decide +kernel))
    exact absurd g4 (by (rw [hr1]; decide +kernel))
   exact absurd g3 (by (rw [hr1]; decide +kernel))
  exact absurd g2 (by decide +kernel)
 exact absurd g1 (by decide +kernel)
theorem w_burgagelaw4_ReplyTells (t : List Int) (cl_t : Bool) (u : List Int) (cl_u : Bool) (what : Int) (n : Int) (at0 : Int) (raw : TReply) (b : List UInt8) (cl_b : Bool) (turn : UInt8) (ht : t.length ≤ 70000000000000) (hu : u.length ≤ 70000000000000) (hn : -9223372036854775808 ≤ n ∧ n ≤ 9223372036854775807) (hat0 : -9223372036854775808 ≤ at0 ∧ at0 ≤ 9223372036854775807) (hraw : raw.bits.length ≤ 140737488351232 ∧ raw.vals.length ≤ 70368744175616 ∧ raw.data.length ≤ 140737488351232) (hbb : b.length ≤ 140737488351232) :
    T Try.prog 8 [pS 1 cl_t encI t,pS 1 cl_u encI u,pI what,pI n,pI at0,PV.f (eReply raw),pS 1 cl_b enc8 b,p8 turn] 0 [] (Ret (pB true) 0 []) := by
 refine t_fun tabOk (n := 142) (rs := [.tmp 16]) Try.func8 rfl rfl rfl rfl (Nat.le_of_ble_eq_true rfl) ?_
 intro c hnt hk
 refine w_seq (w_R (qo hnt rfl (s_box rfl rfl ?_)))
 refine qa hnt rfl rfl (r_set [(0,pS 1 cl_t encI t),(1,pS 1 cl_u encI u),(2,pI what),(3,pI n),(4,pI at0),(6,pS 1 cl_b enc8 b),(7,p8 turn),(13,PV.ptr 0 0)] [(0,.obj (cReply raw))] 1 ⟨rfl,rfl,rfl,rfl,rfl,rfl,rfl,rfl,trivial⟩ rfl rfl (r_end (q_then (w_seq (w_R ?_)))))
 refine qm hnt rfl rfl (qo hnt rfl (s_build tab_49 rfl rfl (b_cons rfl tab_24 rfl rfl rfl (Nat.le_of_ble_eq_true rfl) (b_nil ?_))))
 refine qo hnt rfl (s_box rfl rfl ?_)
 refine qo hnt rfl (s_callX2 (p := fun (q1 : TRequest) (b1 : Nat) => rightR q1 = 0 ∧ q1.bits.length ≤ 25 ∧ q1.vals.length ≤ 25 ∧ 0 ≤ q1.count ∧ q1.count ≤ 25) (r2 := fun q1 b1 => PV.f (eRequest q1)) (nx1 := 2) (H2 := [(1,.obj [pS 1 cl_t encI t,pI 0]),(0,.obj (cReply raw))]) (H3 := fun q1 b1 => [(1,.obj [pS 1 false encI t,pN b1]),(0,.obj (cReply raw))]) [1] [.obj [pS 1 cl_t encI t,pI 0]] rfl rfl rfl (handed_of (by decide) ⟨rfl,trivial⟩) rfl rfl rfl rfl rfl rfl (w_burgagekeep_Tape_Request t cl_t 0 (by omega)) (fun q1 b1 => rfl) (fun q1 b1 => dist_of rfl) (fun q1 b1 => rfl) (fun q1 b1 => rfl) rfl (fun q1 b1 => rfl) (fun q1 b1 hq1 => ?_))
 refine qo hnt rfl (s_alloc tab_46 ?_)
 refine qo hnt rfl (s_store_ptr tab_46 rfl rfl rfl rfl rfl (Nat.le_of_ble_eq_true rfl) ?_)
 refine r_set [(1,pS 1 cl_u encI u),(2,pI what),(3,pI n),(4,pI at0),(6,pS 1 cl_b enc8 b),(7,p8 turn),(13,PV.ptr 0 0),(17,PV.ptr 2 0)] [(2,.obj (cRequest q1)),(1,.obj [pS 1 false encI t,pN b1]),(0,.obj (cReply raw))] 3 ⟨rfl,rfl,rfl,rfl,rfl,rfl,rfl,rfl,trivial⟩ rfl rfl (r_end (q_then (w_seq ?_)))
 obtain ⟨hr1,hqb1,hqv1,hqc1,hqd1⟩ := hq1
 refine w_R (qm hnt rfl rfl (qo hnt rfl (s_load_ptr tab_46 rfl rfl rfl (Nat.le_of_ble_eq_true rfl) ?_)))
 obtain ⟨R1,hR1⟩ : ∃ z : TReply,z = madeR u q1 := ⟨_,rfl⟩
 refine qo hnt rfl (s_callF rfl rfl rfl (w_burgagelaw4_made u cl_u q1 R1 hR1 (by omega) (by omega)) rfl ?_)
 refine qo hnt rfl (s_alloc tab_53 ?_)
 refine qo hnt rfl (s_store_ptr tab_53 rfl rfl rfl rfl rfl (Nat.le_of_ble_eq_true rfl) ?_)
 refine r_set [(2,pI what),(3,pI n),(4,pI at0),(6,pS 1 cl_b enc8 b),(7,p8 turn),(13,PV.ptr 0 0),(17,PV.ptr 2 0),(18,PV.ptr 3 0)] [(3,.obj (cReply R1)),(2,.obj (cRequest q1)),(1,.obj [pS 1 false encI t,pN b1]),(0,.obj (cReply raw))] 4 ⟨rfl,rfl,rfl,rfl,rfl,rfl,rfl,rfl,trivial⟩ rfl rfl (r_end (q_then (w_seq ?_)))
 have hmk1 := madeR_ok u hr1 hqb1 hqv1 hqc1 hqd1
 rw [← hR1] at hmk1
 obtain ⟨hg1,hco1,hfn1,hb1,hv1,hd1⟩ := hmk1
 have hle1 := layE_len R1
 refine w_R (qo hnt rfl (s_load_ptr tab_53 rfl rfl rfl (Nat.le_of_ble_eq_true rfl) ?_))
 refine qo hnt rfl (s_callX (r2 := PV.tup [PV.ref 4 0 none,pI (goodR R1)]) (nx1 := 5) (H2 := [(3,.obj (cReply R1)),(2,.obj (cRequest q1)),(1,.obj [pS 1 false encI t,pN b1]),(0,.obj (cReply raw))]) (H3 := [(4,oB false 1 enc8 (layE R1)),(3,.obj (cReply R1)),(2,.obj (cRequest q1)),(1,.obj [pS 1 false encI t,pN b1]),(0,.obj (cReply raw))]) [] [] rfl rfl rfl (handed_of (by decide) trivial) rfl rfl rfl rfl rfl rfl (w_burgageref3_Lay R1 (by omega)) rfl (dist_of rfl) rfl rfl rfl rfl ?_)
 refine qm hnt rfl rfl (qo hnt rfl (s_extract rfl rfl ?_))
 refine qo hnt rfl (s_extract rfl rfl ?_)
 refine qa hnt rfl rfl (qa hnt rfl rfl (r_set [(2,pI what),(3,pI n),(4,pI at0),(6,pS 1 cl_b enc8 b),(7,p8 turn),(13,PV.ptr 0 0),(17,PV.ptr 2 0),(18,PV.ptr 3 0),(19,PV.ref 4 0 none)] [(4,oB false 1 enc8 (layE R1)),(3,.obj (cReply R1)),(2,.obj (cRequest q1)),(1,.obj [pS 1 false encI t,pN b1]),(0,.obj (cReply raw))] 5 ⟨rfl,rfl,rfl,rfl,rfl,rfl,rfl,rfl,rfl,trivial⟩ rfl rfl (r_end (q_then (w_seq ?_)))))
 refine w_R (qo hnt rfl (s_mkM (f := enc8) ([] : List UInt8) tab_51 rfl tab_5 ⟨rfl,by decide⟩ (by decide) rfl rfl rfl rfl ?_))
 refine qm hnt rfl rfl (qo hnt rfl (s_appR0 (f := enc8) (l := ([] : List UInt8)) (xs := layE R1) tab_51 rfl tab_5 ⟨rfl,by decide,by decide⟩ (srcM tab_51 rfl (hM_ref0 (f := enc8) rfl rfl)) rfl rfl (by (simp; omega)) ?_))
 refine qo hnt rfl (s_mkM (f := enc8) ([0] : List UInt8) tab_51 rfl tab_5 ⟨rfl,by decide⟩ (by decide) rfl rfl rfl rfl ?_)
 refine qo hnt rfl (s_appR0 (f := enc8) (l := layE R1) (xs := ([0] : List UInt8)) tab_51 rfl tab_5 ⟨rfl,by decide,by decide⟩ (srcM tab_51 rfl (hM_ref0 (f := enc8) rfl rfl)) rfl rfl (by (simp; omega)) ?_)
 refine qa hnt rfl rfl (r_set [(2,pI what),(3,pI n),(4,pI at0),(6,pS 1 cl_b enc8 b),(7,p8 turn),(13,PV.ptr 0 0),(17,PV.ptr 2 0),(18,PV.ptr 3 0),(19,PV.ref 4 0 none),(21,PV.ref 8 0 none)] [(8,oB true 1 enc8 ((layE R1) ++ ([0] : List UInt8))),(7,oB true 1 enc8 ([0] : List UInt8)),(4,oB false 1 enc8 (layE R1)),(3,.obj (cReply R1)),(2,.obj (cRequest q1)),(1,.obj [pS 1 false encI t,pN b1]),(0,.obj (cReply raw))] 9 ⟨rfl,rfl,rfl,rfl,rfl,rfl,rfl,rfl,rfl,rfl,trivial⟩ rfl rfl (r_end (q_then (w_seq (w_H (H' := [(8,oB true 1 enc8 (layE R1 ++ [0])),(7,oB true 1 enc8 ([0] : List UInt8)),(4,oB false 1 enc8 (layE R1)),(3,.obj (cReply R1)),(2,.obj (cRequest q1)),(1,.obj [pS 1 false encI t,pN b1]),(0,.obj (cReply raw))]) (congrArg (fun z => ([(8,oB true 1 enc8 z),(7,oB true 1 enc8 ([0] : List UInt8)),(4,oB false 1 enc8 (layE R1)),(3,.obj (cReply R1)),(2,.obj (cRequest q1)),(1,.obj [pS 1 false encI t,pN b1]),(0,.obj (cReply raw))] : Heap)) (show ((layE R1) ++ ([0] : List UInt8)) = (layE R1 ++ [0]) by simp)) ?_)))))
 have hyl : (layE R1 ++ [(0 : UInt8)]).length = (layE R1).length + 1 := by simp
 refine w_R (qm hnt rfl rfl (qm hnt rfl rfl (qo hnt rfl (s_lenM (l := layE R1 ++ [0]) tab_51 rfl (hM_ref0 (f := enc8) rfl rfl) ?_))))
 refine qo hnt rfl (s_subN (a := (layE R1 ++ [0]).length) (b := 1) rfl rfl (by omega) (by omega) (by omega) ?_)
 refine qo hnt rfl (s_callF rfl rfl rfl (w_burgagebook_Within at0 0 (((layE R1 ++ [0]).length - 1 : Nat) : Int) (by omega)) rfl ?_)
 refine qa hnt rfl rfl (r_end (q_then (w_seq ?_)))
 have hwk := within_between at0 (lo := 0) (hi := (((layE R1 ++ [(0 : UInt8)]).length - 1 : Nat) : Int)) (by omega)
 obtain ⟨kk,hkk⟩ : ∃ k : Nat,within at0 0 (((layE R1 ++ [(0 : UInt8)]).length - 1 : Nat) : Int) = (k : Int) := ⟨_,(within_nat at0 (hi := (((layE R1 ++ [(0 : UInt8)]).length - 1 : Nat) : Int)) (by omega)).symm⟩
 refine w_eq (s := 22) (y := pN kk) rfl (congrArg pI (show (within at0 0 (((layE R1 ++ [0]).length - 1 : Nat) : Int)) = ((kk : Nat) : Int) by exact hkk)) (w_R (qm hnt rfl rfl (qm hnt rfl rfl (qo hnt rfl (s_iaR0 (q := kk) (f := enc8) (l := layE R1 ++ [0]) tab_51 rfl tab_5 rfl rfl (by omega) rfl rfl (by omega) ?_)))))
 obtain ⟨e1,he1⟩ := get_of_lt (layE R1 ++ [0]) (i := kk) (by omega)
 refine qo hnt rfl (s_ldM (b := e1) (f := enc8) tab_5 rfl rfl rfl rfl he1 rfl ?_)
 refine qm hnt rfl rfl (qo hnt rfl (s_xor8 (a := e1) (b := turn) rfl rfl ?_))
 refine qo hnt rfl (s_iaR0 (q := kk) (f := enc8) (l := layE R1 ++ [0]) tab_51 rfl tab_5 rfl rfl (by omega) rfl rfl (by omega) ?_)
 refine qo hnt rfl (s_stM (y0 := e1) (z := e1 ^^^ turn) (f := enc8) tab_5 rfl rfl rfl rfl rfl he1 (Nat.le_of_ble_eq_true rfl) rfl rfl (by simp) rfl ?_)
 refine r_set [(2,pI what),(3,pI n),(4,pI at0),(6,pS 1 cl_b enc8 b),(13,PV.ptr 0 0),(17,PV.ptr 2 0),(18,PV.ptr 3 0),(19,PV.ref 4 0 none),(21,PV.ref 8 0 none),(22,pN kk)] [(8,oB true 1 enc8 ((layE R1 ++ [0]).set kk (e1 ^^^ turn))),(7,oB true 1 enc8 ([0] : List UInt8)),(4,oB false 1 enc8 (layE R1)),(3,.obj (cReply R1)),(2,.obj (cRequest q1)),(1,.obj [pS 1 false encI t,pN b1]),(0,.obj (cReply raw))] 9 ⟨rfl,rfl,rfl,rfl,rfl,rfl,rfl,rfl,rfl,rfl,trivial⟩ rfl rfl (r_end (q_then (w_seq ?_)))
 obtain ⟨Y,hY⟩ : ∃ z,z = (layE R1 ++ [(0 : UInt8)]).set kk (e1 ^^^ turn) := ⟨_,rfl⟩
 have hYl : Y.length = (layE R1).length + 1 := by rw [hY]; simp
 refine w_H (H' := [(8,oB true 1 enc8 Y),(7,oB true 1 enc8 ([0] : List UInt8)),(4,oB false 1 enc8 (layE R1)),(3,.obj (cReply R1)),(2,.obj (cRequest q1)),(1,.obj [pS 1 false encI t,pN b1]),(0,.obj (cReply raw))]) (congrArg (fun z => ([(8,oB true 1 enc8 z),(7,oB true 1 enc8 ([0] : List UInt8)),(4,oB false 1 enc8 (layE R1)),(3,.obj (cReply R1)),(2,.obj (cRequest q1)),(1,.obj [pS 1 false encI t,pN b1]),(0,.obj (cReply raw))] : Heap)) (show ((layE R1 ++ [0]).set kk (e1 ^^^ turn)) = Y by exact hY.symm)) (W_drawn tabOk mixed hnt [[],[0],[],[2],[2,3],[2,3,4],[0,1,2,3,4,5],[],[7],[],[9],[9,10],[9,10,11],[7,8,9,10,11,12],[],[14],[],[16],[16,17],[16,17,18],[14,15,16,17,18,19],(.range 11 ++ [14,15,16,17]),(.range 11 ++ [14,15,16,17,21]),(.range 18 ++ [21,22]),(.range 18 ++ [21,22,23]),(.range 25),(.range 26)] (by kernel_rfl) (d_op (x_run0 [(13,PV.ptr 0 0)] [] rfl rfl rfl rfl (s_fa_ptr tab_53 rfl rfl tab_42 (by decide) rfl ⟨rfl,rfl,rfl⟩) (d_op (xL [(53,PV.ptr 0 5)] [0] [(0,.obj (cReply raw))] rfl rfl rfl rfl rfl (s_load_ptr1 tab_42 rfl rfl rfl rfl rfl ⟨rfl,rfl,rfl⟩) ⟨rfl,trivial⟩ rfl ?_)))))
 refine d_op (x_run0 [(13,PV.ptr 0 0)] [] rfl rfl rfl rfl (s_fa_ptr tab_53 rfl rfl tab_42 (by decide) rfl ⟨rfl,rfl,rfl⟩) (d_op (xL [(55,PV.ptr 0 5)] [2] [(0,.obj (cReply raw))] rfl rfl rfl rfl rfl (s_load_ptr1 tab_42 rfl rfl rfl rfl rfl ⟨rfl,rfl,rfl⟩) ⟨rfl,trivial⟩ rfl (d_op (x_run0 [(56,pS 1 false encBo raw.bits)] [2,3] rfl rfl rfl rfl (s_lenM (l := raw.bits) tab_42 rfl (hM_sl (f := encBo) rfl) ⟨rfl,rfl,rfl⟩) ?_)))))
 refine d_op (x_run0 [(57,pN raw.bits.length)] [2,3,4] rfl rfl rfl rfl (s_minN (a := raw.bits.length) (b := 30) rfl (by omega) (by omega) ⟨rfl,rfl,rfl⟩) (d_op (x_run0 [(54,pS 1 false encBo raw.bits),(58,pN (min raw.bits.length 30))] [0,1,2,3,4,5] rfl rfl rfl rfl (s_cutM_hi (b := min raw.bits.length 30) (f := encBo) (l := raw.bits) tab_42 rfl tab_4 ⟨rfl,by decide⟩ rfl (bound_some rfl (by omega)) (by omega) ⟨rfl,rfl,rfl⟩) (d_op (x_run0 [(13,PV.ptr 0 0)] [] rfl rfl rfl rfl (s_fa_ptr tab_53 rfl rfl tab_43 (by decide) rfl ⟨rfl,rfl,rfl⟩) ?_)))))
 refine d_op (xL [(60,PV.ptr 0 6)] [7] [(0,.obj (cReply raw))] rfl rfl rfl rfl rfl (s_load_ptr1 tab_43 rfl rfl rfl rfl rfl ⟨rfl,rfl,rfl⟩) ⟨rfl,trivial⟩ rfl (d_op (x_run0 [(13,PV.ptr 0 0)] [] rfl rfl rfl rfl (s_fa_ptr tab_53 rfl rfl tab_43 (by decide) rfl ⟨rfl,rfl,rfl⟩) (d_op (xL [(62,PV.ptr 0 6)] [9] [(0,.obj (cReply raw))] rfl rfl rfl rfl rfl (s_load_ptr1 tab_43 rfl rfl rfl rfl rfl ⟨rfl,rfl,rfl⟩) ⟨rfl,trivial⟩ rfl ?_)))))
 refine d_op (x_run0 [(63,pS 1 false enc16 raw.vals)] [9,10] rfl rfl rfl rfl (s_lenM (l := raw.vals) tab_43 rfl (hM_sl (f := enc16) rfl) ⟨rfl,rfl,rfl⟩) (d_op (x_run0 [(64,pN raw.vals.length)] [9,10,11] rfl rfl rfl rfl (s_minN (a := raw.vals.length) (b := 30) rfl (by omega) (by omega) ⟨rfl,rfl,rfl⟩) (d_op (x_run0 [(61,pS 1 false enc16 raw.vals),(65,pN (min raw.vals.length 30))] [7,8,9,10,11,12] rfl rfl rfl rfl (s_cutM_hi (b := min raw.vals.length 30) (f := enc16) (l := raw.vals) tab_43 rfl tab_44 ⟨rfl,by decide⟩ rfl (bound_some rfl (by omega)) (by omega) ⟨rfl,rfl,rfl⟩) ?_)))))
 refine d_op (x_run0 [(13,PV.ptr 0 0)] [] rfl rfl rfl rfl (s_fa_ptr tab_53 rfl rfl tab_51 (by decide) rfl ⟨rfl,rfl,rfl⟩) (d_op (xL [(67,PV.ptr 0 9)] [14] [(0,.obj (cReply raw))] rfl rfl rfl rfl rfl (s_load_ptr1 tab_51 rfl rfl rfl rfl rfl ⟨rfl,rfl,rfl⟩) ⟨rfl,trivial⟩ rfl (d_op (x_run0 [(13,PV.ptr 0 0)] [] rfl rfl rfl rfl (s_fa_ptr tab_53 rfl rfl tab_51 (by decide) rfl ⟨rfl,rfl,rfl⟩) ?_)))))
 refine d_op (xL [(69,PV.ptr 0 9)] [16] [(0,.obj (cReply raw))] rfl rfl rfl rfl rfl (s_load_ptr1 tab_51 rfl rfl rfl rfl rfl ⟨rfl,rfl,rfl⟩) ⟨rfl,trivial⟩ rfl (d_op (x_run0 [(70,pS 1 false enc8 raw.data)] [16,17] rfl rfl rfl rfl (s_lenM (l := raw.data) tab_51 rfl (hM_sl (f := enc8) rfl) ⟨rfl,rfl,rfl⟩) (d_op (x_run0 [(71,pN raw.data.length)] [16,17,18] rfl rfl rfl rfl (s_minN (a := raw.data.length) (b := 30) rfl (by omega) (by omega) ⟨rfl,rfl,rfl⟩) ?_)))))
 refine d_op (x_run0 [(68,pS 1 false enc8 raw.data),(72,pN (min raw.data.length 30))] [14,15,16,17,18,19] rfl rfl rfl rfl (s_cutM_hi (b := min raw.data.length 30) (f := enc8) (l := raw.data) tab_51 rfl tab_5 ⟨rfl,by decide⟩ rfl (bound_some rfl (by omega)) (by omega) ⟨rfl,rfl,rfl⟩) (d_op (x_run0 [(13,PV.ptr 0 0)] (.range 11 ++ [14,15,16,17]) rfl rfl rfl rfl (s_fa_ptr tab_53 rfl rfl tab_42 (by decide) rfl ⟨rfl,rfl,rfl⟩) (d_op (xT [(74,PV.ptr 0 5),(59,pS 1 false encBo (raw.bits.take (min raw.bits.length 30)))] (.range 11 ++ [14,15,16,17,21]) [(0,.obj (cReply raw))] [(0,.obj [pI raw.fn,pI raw.code,pI raw.at_,pI raw.count,pI raw.sub,pS 1 false encBo (raw.bits.take (min raw.bits.length 30)),pS 1 false enc16 raw.vals,p16 raw.and_,p16 raw.or_,pS 1 false enc8 raw.data])] [(8,oB true 1 enc8 Y),(7,oB true 1 enc8 ([0] : List UInt8)),(4,oB false 1 enc8 (layE R1)),(3,.obj (cReply R1)),(2,.obj (cRequest q1)),(1,.obj [pS 1 false encI t,pN b1])] rfl rfl rfl rfl rfl (s_store_ptr tab_42 rfl rfl rfl rfl rfl (Nat.le_of_ble_eq_true rfl) ⟨rfl,rfl,rfl⟩) rfl rfl ?_)))))
 refine d_op (x_run0 [(13,PV.ptr 0 0)] (.range 18 ++ [21,22]) rfl rfl rfl rfl (s_fa_ptr tab_53 rfl rfl tab_43 (by decide) rfl ⟨rfl,rfl,rfl⟩) (d_op (xT [(75,PV.ptr 0 6),(66,pS 1 false enc16 (raw.vals.take (min raw.vals.length 30)))] (.range 18 ++ [21,22,23]) [(0,.obj [pI raw.fn,pI raw.code,pI raw.at_,pI raw.count,pI raw.sub,pS 1 false encBo (raw.bits.take (min raw.bits.length 30)),pS 1 false enc16 raw.vals,p16 raw.and_,p16 raw.or_,pS 1 false enc8 raw.data])] [(0,.obj [pI raw.fn,pI raw.code,pI raw.at_,pI raw.count,pI raw.sub,pS 1 false encBo (raw.bits.take (min raw.bits.length 30)),pS 1 false enc16 (raw.vals.take (min raw.vals.length 30)),p16 raw.and_,p16 raw.or_,pS 1 false enc8 raw.data])] [(8,oB true 1 enc8 Y),(7,oB true 1 enc8 ([0] : List UInt8)),(4,oB false 1 enc8 (layE R1)),(3,.obj (cReply R1)),(2,.obj (cRequest q1)),(1,.obj [pS 1 false encI t,pN b1])] rfl rfl rfl rfl rfl (s_store_ptr tab_43 rfl rfl rfl rfl rfl (Nat.le_of_ble_eq_true rfl) ⟨rfl,rfl,rfl⟩) rfl rfl (d_op (x_run0 [(13,PV.ptr 0 0)] (.range 25) rfl rfl rfl rfl (s_fa_ptr tab_53 rfl rfl tab_51 (by decide) rfl ⟨rfl,rfl,rfl⟩) ?_)))))
 refine d_op (xT [(76,PV.ptr 0 9),(73,pS 1 false enc8 (raw.data.take (min raw.data.length 30)))] (.range 26) [(0,.obj [pI raw.fn,pI raw.code,pI raw.at_,pI raw.count,pI raw.sub,pS 1 false encBo (raw.bits.take (min raw.bits.length 30)),pS 1 false enc16 (raw.vals.take (min raw.vals.length 30)),p16 raw.and_,p16 raw.or_,pS 1 false enc8 raw.data])] [(0,.obj [pI raw.fn,pI raw.code,pI raw.at_,pI raw.count,pI raw.sub,pS 1 false encBo (raw.bits.take (min raw.bits.length 30)),pS 1 false enc16 (raw.vals.take (min raw.vals.length 30)),p16 raw.and_,p16 raw.or_,pS 1 false enc8 (raw.data.take (min raw.data.length 30))])] [(8,oB true 1 enc8 Y),(7,oB true 1 enc8 ([0] : List UInt8)),(4,oB false 1 enc8 (layE R1)),(3,.obj (cReply R1)),(2,.obj (cRequest q1)),(1,.obj [pS 1 false encI t,pN b1])] rfl rfl rfl rfl rfl (s_store_ptr tab_51 rfl rfl rfl rfl rfl (Nat.le_of_ble_eq_true rfl) ⟨rfl,rfl,rfl⟩) rfl rfl (d_end ⟨by kernel_rfl, ?_⟩))
 refine q_then (w_seq (w_R (qo hnt rfl (s_load_ptr tab_46 rfl rfl rfl (Nat.le_of_ble_eq_true rfl) ?_))))
 refine qo hnt rfl (s_alloc tab_46 ?_)
 refine qo hnt rfl (s_store_ptr tab_46 rfl rfl rfl rfl rfl (Nat.le_of_ble_eq_true rfl) ?_)
 refine r_set [(2,pI what),(3,pI n),(4,pI at0),(6,pS 1 cl_b enc8 b),(13,PV.ptr 0 0),(17,PV.ptr 2 0),(18,PV.ptr 3 0),(19,PV.ref 4 0 none),(21,PV.ref 8 0 none),(22,pN kk),(23,PV.ptr 9 0)] [(9,.obj (cRequest q1)),(0,.obj [pI raw.fn,pI raw.code,pI raw.at_,pI raw.count,pI raw.sub,pS 1 false encBo (raw.bits.take (min raw.bits.length 30)),pS 1 false enc16 (raw.vals.take (min raw.vals.length 30)),p16 raw.and_,p16 raw.or_,pS 1 false enc8 (raw.data.take (min raw.data.length 30))]),(8,oB true 1 enc8 Y),(7,oB true 1 enc8 ([0] : List UInt8)),(4,oB false 1 enc8 (layE R1)),(3,.obj (cReply R1)),(2,.obj (cRequest q1)),(1,.obj [pS 1 false encI t,pN b1])] 10 ⟨rfl,rfl,rfl,rfl,rfl,rfl,rfl,rfl,rfl,rfl,rfl,trivial⟩ rfl rfl (r_end (q_then (w_seq (w_R (qm hnt rfl rfl ?_)))))
 refine qm hnt rfl rfl (qo hnt rfl (s_fa_ptr tab_46 rfl rfl tab_3 (by decide) rfl ?_))
 refine qo hnt rfl (s_store_ptr tab_3 rfl rfl rfl rfl rfl (Nat.le_of_ble_eq_true rfl) ?_)
 refine qo hnt rfl (s_fa_ptr tab_46 rfl rfl tab_3 (by decide) rfl ?_)
 refine qo hnt rfl (s_store_ptr tab_3 rfl rfl rfl rfl rfl (Nat.le_of_ble_eq_true rfl) ?_)
 refine r_set [(2,pI what),(3,pI n),(4,pI at0),(6,pS 1 cl_b enc8 b),(13,PV.ptr 0 0),(17,PV.ptr 2 0),(18,PV.ptr 3 0),(19,PV.ref 4 0 none),(21,PV.ref 8 0 none),(22,pN kk),(23,PV.ptr 9 0)] [(9,.obj [pI at0,pI q1.at_,pI n,pI q1.wAt,pI q1.sub,pS 1 false encBo q1.bits,pS 1 false enc16 q1.vals,p16 q1.and_,p16 q1.or_]),(0,.obj [pI raw.fn,pI raw.code,pI raw.at_,pI raw.count,pI raw.sub,pS 1 false encBo (raw.bits.take (min raw.bits.length 30)),pS 1 false enc16 (raw.vals.take (min raw.vals.length 30)),p16 raw.and_,p16 raw.or_,pS 1 false enc8 (raw.data.take (min raw.data.length 30))]),(8,oB true 1 enc8 Y),(7,oB true 1 enc8 ([0] : List UInt8)),(4,oB false 1 enc8 (layE R1)),(3,.obj (cReply R1)),(2,.obj (cRequest q1)),(1,.obj [pS 1 false encI t,pN b1])] 10 ⟨rfl,rfl,rfl,rfl,rfl,rfl,rfl,rfl,rfl,rfl,rfl,trivial⟩ rfl rfl (r_end (q_then (w_seq (w_frzM (s := 21) (f := enc8) rfl rfl view_0 (w_frzM (s := 19) (f := enc8) rfl rfl view_0 ?_)))))
 refine W_drawn tabOk mixed hnt [[],[0],[0,1],[0,1,2],[0,1,2],[0,1,2],[0,1,2,3,4,5],[0,1,2,3,4,5,6],(.range 8),(.range 9),(.range 10),(.range 10),(.range 10),(.range 10 ++ [12]),(.range 14),(.range 15),(.range 16),(.range 17),(.range 18),(.range 19),(.range 20),(.range 21),(.range 22),(.range 22),(.range 24),(.range 25),(.range 26),(.range 27),(.range 27),(.range 29),(.range 30),(.range 31),(.range 32),(.range 32),(.range 34),(.range 32),(.range 36),(.range 37),(.range 38),(.range 39),(.range 39),(.range 41),(.range 42),(.range 43),(.range 44),(.range 44),(.range 46),(.range 47),(.range 48),(.range 49),(.range 49),(.range 51),(.range 49),(.range 49),(.range 54),(.range 55),(.range 56),(.range 57),(.range 58),(.range 59),(.range 60)] (by kernel_rfl) (d_op (xL [(18,PV.ptr 3 0)] [] [(3,.obj (cReply R1))] rfl rfl rfl rfl rfl (s_load_ptr tab_53 rfl rfl rfl (Nat.le_of_ble_eq_true rfl) ⟨rfl,rfl,rfl⟩) ⟨rfl,trivial⟩ rfl (d_op (x_run0 [(82,PV.f (eReply R1))] [0] rfl rfl rfl rfl (s_callF rfl rfl rfl (w_burgagelaw4_same R1 (by omega)) rfl ⟨rfl,rfl,rfl⟩) (d_op ?_)))))
 refine x_run0 [(83,pB true)] [0,1] rfl rfl rfl rfl (s_move rfl ⟨rfl,rfl,rfl⟩) (xy [(84,pB true),(18,PV.ptr 3 0)] [0,1,2] rfl rfl rfl rfl rfl (xL [(84,pB true),(18,PV.ptr 3 0)] [0,1,2] [(3,.obj (cReply R1))] rfl rfl rfl rfl rfl (s_load_ptr tab_53 rfl rfl rfl (Nat.le_of_ble_eq_true rfl) ⟨rfl,rfl,rfl⟩) ⟨rfl,trivial⟩ rfl (xy [(84,pB true),(2,pI what)] [0,1,2] rfl rfl rfl rfl rfl (x_run0 [(84,pB true),(2,pI what)] [0,1,2] rfl rfl rfl rfl (s_move rfl ⟨rfl,rfl,rfl⟩) (xy [(84,pB true),(3,pI n)] [0,1,2] rfl rfl rfl rfl rfl ?_)))))
 refine x_run0 [(84,pB true),(3,pI n)] [0,1,2] rfl rfl rfl rfl (s_move rfl ⟨rfl,rfl,rfl⟩) (xy [(84,pB true),(85,PV.f (eReply R1)),(86,pI what),(87,pI n)] [0,1,2,3,4,5] rfl rfl rfl rfl rfl (x_run0 [(84,pB true),(85,PV.f (eReply R1)),(86,pI what),(87,pI n)] [0,1,2,3,4,5] rfl rfl rfl rfl (s_callF rfl rfl rfl (w_burgagelaw4_odd R1 what n (by omega) (by omega)) rfl ⟨rfl,rfl,rfl⟩) (xy [(84,pB true),(88,PV.f (eReply (oddR R1 what n)))] [0,1,2,3,4,5,6] rfl rfl rfl rfl rfl (x_run0 [(84,pB true),(88,PV.f (eReply (oddR R1 what n)))] [0,1,2,3,4,5,6] rfl rfl rfl rfl (s_callF rfl rfl rfl (w_burgagelaw4_same (oddR R1 what n) (by exact odd3 (small3 ⟨hb1,hv1,hd1⟩))) rfl ⟨rfl,rfl,rfl⟩) (d_op ?_)))))
 refine x_run0 [(84,pB true),(89,pB true)] (.range 8) rfl rfl rfl rfl (s_pick_t rfl rfl rfl ⟨rfl,rfl,rfl⟩) (d_op (x_run0 [(90,pB true)] (.range 9) rfl rfl rfl rfl (s_move rfl ⟨rfl,rfl,rfl⟩) (xy [(91,pB true),(18,PV.ptr 3 0)] (.range 10) rfl rfl rfl rfl rfl (xL [(91,pB true),(18,PV.ptr 3 0)] (.range 10) [(3,.obj (cReply R1))] rfl rfl rfl rfl rfl (s_load_ptr tab_53 rfl rfl rfl (Nat.le_of_ble_eq_true rfl) ⟨rfl,rfl,rfl⟩) ⟨rfl,trivial⟩ rfl (xy [(91,pB true),(2,pI what)] (.range 10) rfl rfl rfl rfl rfl ?_)))))
 refine x_run0 [(91,pB true),(2,pI what)] (.range 10) rfl rfl rfl rfl (s_move rfl ⟨rfl,rfl,rfl⟩) (xy [(91,pB true),(3,pI n)] (.range 10) rfl rfl rfl rfl rfl (x_run0 [(91,pB true),(3,pI n)] (.range 10) rfl rfl rfl rfl (s_move rfl ⟨rfl,rfl,rfl⟩) (xy [(91,pB true),(94,pI n)] (.range 10 ++ [12]) rfl rfl rfl rfl rfl (x_run0 [(91,pB true),(94,pI n)] (.range 10 ++ [12]) rfl rfl rfl rfl (s_maskI 8 (by decide) rfl rfl (by decide) ⟨rfl,rfl,rfl⟩) (xy [(91,pB true),(92,PV.f (eReply R1)),(93,pI what),(95,pN ((n % 2 ^ 8).toNat))] (.range 14) rfl rfl rfl rfl rfl ?_)))))
 refine x_run0 [(91,pB true),(92,PV.f (eReply R1)),(93,pI what),(95,pN ((n % 2 ^ 8).toNat))] (.range 14) rfl rfl rfl rfl (s_callF rfl rfl rfl (w_burgagelaw4_odd R1 what (((n % 2 ^ 8).toNat : Nat) : Int) (by omega) (by omega)) rfl ⟨rfl,rfl,rfl⟩) (xy [(91,pB true),(96,PV.f (eReply (oddR R1 what (((n % 2 ^ 8).toNat : Nat) : Int))))] (.range 15) rfl rfl rfl rfl rfl (x_run0 [(91,pB true),(96,PV.f (eReply (oddR R1 what (((n % 2 ^ 8).toNat : Nat) : Int))))] (.range 15) rfl rfl rfl rfl (s_callF rfl rfl rfl (w_burgagelaw4_same (oddR R1 what (((n % 2 ^ 8).toNat : Nat) : Int)) (by exact odd3 (small3 ⟨hb1,hv1,hd1⟩))) rfl ⟨rfl,rfl,rfl⟩) (d_op (x_run0 [(91,pB true),(97,pB true)] (.range 16) rfl rfl rfl rfl (s_pick_t rfl rfl rfl ⟨rfl,rfl,rfl⟩) (d_op ?_)))))
 refine x_run0 [(98,pB true)] (.range 17) rfl rfl rfl rfl (s_move rfl ⟨rfl,rfl,rfl⟩) (xy [(99,pB true),(13,PV.ptr 0 0)] (.range 18) rfl rfl rfl rfl rfl (xL [(99,pB true),(13,PV.ptr 0 0)] (.range 18) [(0,.obj [pI raw.fn,pI raw.code,pI raw.at_,pI raw.count,pI raw.sub,pS 1 false encBo (raw.bits.take (min raw.bits.length 30)),pS 1 false enc16 (raw.vals.take (min raw.vals.length 30)),p16 raw.and_,p16 raw.or_,pS 1 false enc8 (raw.data.take (min raw.data.length 30))])] rfl rfl rfl rfl rfl (s_load_ptr tab_53 rfl rfl rfl (Nat.le_of_ble_eq_true rfl) ⟨rfl,rfl,rfl⟩) ⟨rfl,trivial⟩ rfl (xy [(99,pB true),(100,PV.f (.agg [encI raw.fn,encI raw.code,encI raw.at_,encI raw.count,encI raw.sub,FV.sl 1 false (List.map encBo (raw.bits.take (min raw.bits.length 30))),FV.sl 1 false (List.map enc16 (raw.vals.take (min raw.vals.length 30))),enc16 raw.and_,enc16 raw.or_,FV.sl 1 false (List.map enc8 (raw.data.take (min raw.data.length 30)))]))] (.range 19) rfl rfl rfl rfl rfl (x_run0 [(99,pB true),(100,PV.f (.agg [encI raw.fn,encI raw.code,encI raw.at_,encI raw.count,encI raw.sub,FV.sl 1 false (List.map encBo (raw.bits.take (min raw.bits.length 30))),FV.sl 1 false (List.map enc16 (raw.vals.take (min raw.vals.length 30))),enc16 raw.and_,enc16 raw.or_,FV.sl 1 false (List.map enc8 (raw.data.take (min raw.data.length 30)))]))] (.range 19) rfl rfl rfl rfl (s_callF rfl rfl rfl (w_burgagelaw4_same (⟨raw.fn,raw.code,raw.at_,raw.count,raw.sub,raw.bits.take (min raw.bits.length 30),raw.vals.take (min raw.vals.length 30),raw.and_,raw.or_,raw.data.take (min raw.data.length 30)⟩ : TReply) (by (simp; omega))) rfl ⟨rfl,rfl,rfl⟩) (d_op ?_)))))
 refine x_run0 [(99,pB true),(101,pB true)] (.range 20) rfl rfl rfl rfl (s_pick_t rfl rfl rfl ⟨rfl,rfl,rfl⟩) (d_op (x_run0 [(102,pB true)] (.range 21) rfl rfl rfl rfl (s_move rfl ⟨rfl,rfl,rfl⟩) (xy [(103,pB true),(19,pS 1 false enc8 (layE R1))] (.range 22) rfl rfl rfl rfl rfl (x_run0 [(103,pB true),(19,pS 1 false enc8 (layE R1))] (.range 22) rfl rfl rfl rfl (s_move rfl ⟨rfl,rfl,rfl⟩) (xy [(103,pB true),(17,PV.ptr 2 0)] (.range 22) rfl rfl rfl rfl rfl ?_)))))
 refine xL [(103,pB true),(17,PV.ptr 2 0)] (.range 22) [(2,.obj (cRequest q1))] rfl rfl rfl rfl rfl (s_load_ptr tab_46 rfl rfl rfl (Nat.le_of_ble_eq_true rfl) ⟨rfl,rfl,rfl⟩) ⟨rfl,trivial⟩ rfl (xy [(103,pB true),(104,pS 1 false enc8 (layE R1)),(105,PV.f (eRequest q1))] (.range 24) rfl rfl rfl rfl rfl (x_run0 [(103,pB true),(104,pS 1 false enc8 (layE R1)),(105,PV.f (eRequest q1))] (.range 24) rfl rfl rfl rfl (s_callF rfl rfl rfl (w_burgagelaw4_reads (layE R1) false q1 (by omega) (by omega)) rfl ⟨rfl,rfl,rfl⟩) (d_op (x_run0 [(103,pB true),(106,pB true)] (.range 25) rfl rfl rfl rfl (s_pick_t rfl rfl rfl ⟨rfl,rfl,rfl⟩) (d_op ?_)))))
 refine x_run0 [(107,pB true)] (.range 26) rfl rfl rfl rfl (s_move rfl ⟨rfl,rfl,rfl⟩) (xy [(108,pB true),(21,pS 1 false enc8 Y)] (.range 27) rfl rfl rfl rfl rfl (x_run0 [(108,pB true),(21,pS 1 false enc8 Y)] (.range 27) rfl rfl rfl rfl (s_move rfl ⟨rfl,rfl,rfl⟩) (xy [(108,pB true),(17,PV.ptr 2 0)] (.range 27) rfl rfl rfl rfl rfl (xL [(108,pB true),(17,PV.ptr 2 0)] (.range 27) [(2,.obj (cRequest q1))] rfl rfl rfl rfl rfl (s_load_ptr tab_46 rfl rfl rfl (Nat.le_of_ble_eq_true rfl) ⟨rfl,rfl,rfl⟩) ⟨rfl,trivial⟩ rfl (xy [(108,pB true),(109,pS 1 false enc8 Y),(110,PV.f (eRequest q1))] (.range 29) rfl rfl rfl rfl rfl ?_)))))
 refine x_run0 [(108,pB true),(109,pS 1 false enc8 Y),(110,PV.f (eRequest q1))] (.range 29) rfl rfl rfl rfl (s_callF rfl rfl rfl (w_burgagelaw4_reads Y false q1 (by omega) (by omega)) rfl ⟨rfl,rfl,rfl⟩) (d_op (x_run0 [(108,pB true),(111,pB true)] (.range 30) rfl rfl rfl rfl (s_pick_t rfl rfl rfl ⟨rfl,rfl,rfl⟩) (d_op (x_run0 [(112,pB true)] (.range 31) rfl rfl rfl rfl (s_move rfl ⟨rfl,rfl,rfl⟩) (xy [(113,pB true),(21,pS 1 false enc8 Y)] (.range 32) rfl rfl rfl rfl rfl ?_)))))
 refine x_run0 [(113,pB true),(21,pS 1 false enc8 Y)] (.range 32) rfl rfl rfl rfl (s_move rfl ⟨rfl,rfl,rfl⟩) (xy [(113,pB true),(22,pN kk)] (.range 32) rfl rfl rfl rfl rfl (x_run0 [(113,pB true),(22,pN kk)] (.range 32) rfl rfl rfl rfl (s_move rfl ⟨rfl,rfl,rfl⟩) (xy [(113,pB true),(114,pS 1 false enc8 Y),(115,pN kk)] (.range 34) rfl rfl rfl rfl rfl (x_run0 [(113,pB true),(114,pS 1 false enc8 Y),(115,pN kk)] (.range 34) rfl rfl rfl rfl (s_cutM_hi (b := kk) (f := enc8) (l := Y) tab_51 rfl tab_5 ⟨rfl,by decide⟩ rfl (bound_some rfl (by omega)) (by omega) ⟨rfl,rfl,rfl⟩) (xy [(113,pB true),(17,PV.ptr 2 0)] (.range 32) rfl rfl rfl rfl rfl ?_)))))
 refine xL [(113,pB true),(17,PV.ptr 2 0)] (.range 32) [(2,.obj (cRequest q1))] rfl rfl rfl rfl rfl (s_load_ptr tab_46 rfl rfl rfl (Nat.le_of_ble_eq_true rfl) ⟨rfl,rfl,rfl⟩) ⟨rfl,trivial⟩ rfl (xy [(113,pB true),(116,pS 1 false enc8 (Y.take kk)),(117,PV.f (eRequest q1))] (.range 36) rfl rfl rfl rfl rfl (x_run0 [(113,pB true),(116,pS 1 false enc8 (Y.take kk)),(117,PV.f (eRequest q1))] (.range 36) rfl rfl rfl rfl (s_callF rfl rfl rfl (w_burgagelaw4_reads (Y.take kk) false q1 (by (simp; omega)) (by omega)) rfl ⟨rfl,rfl,rfl⟩) (d_op (x_run0 [(113,pB true),(118,pB true)] (.range 37) rfl rfl rfl rfl (s_pick_t rfl rfl rfl ⟨rfl,rfl,rfl⟩) (d_op ?_)))))
 refine x_run0 [(119,pB true)] (.range 38) rfl rfl rfl rfl (s_move rfl ⟨rfl,rfl,rfl⟩) (xy [(120,pB true),(6,pS 1 cl_b enc8 b)] (.range 39) rfl rfl rfl rfl rfl (x_run0 [(120,pB true),(6,pS 1 cl_b enc8 b)] (.range 39) rfl rfl rfl rfl (s_move rfl ⟨rfl,rfl,rfl⟩) (xy [(120,pB true),(17,PV.ptr 2 0)] (.range 39) rfl rfl rfl rfl rfl (xL [(120,pB true),(17,PV.ptr 2 0)] (.range 39) [(2,.obj (cRequest q1))] rfl rfl rfl rfl rfl (s_load_ptr tab_46 rfl rfl rfl (Nat.le_of_ble_eq_true rfl) ⟨rfl,rfl,rfl⟩) ⟨rfl,trivial⟩ rfl (xy [(120,pB true),(121,pS 1 cl_b enc8 b),(122,PV.f (eRequest q1))] (.range 41) rfl rfl rfl rfl rfl ?_)))))
 refine x_run0 [(120,pB true),(121,pS 1 cl_b enc8 b),(122,PV.f (eRequest q1))] (.range 41) rfl rfl rfl rfl (s_callF rfl rfl rfl (w_burgagelaw4_reads b cl_b q1 (by omega) (by omega)) rfl ⟨rfl,rfl,rfl⟩) (d_op (x_run0 [(120,pB true),(123,pB true)] (.range 42) rfl rfl rfl rfl (s_pick_t rfl rfl rfl ⟨rfl,rfl,rfl⟩) (d_op (x_run0 [(124,pB true)] (.range 43) rfl rfl rfl rfl (s_move rfl ⟨rfl,rfl,rfl⟩) (xy [(125,pB true),(19,pS 1 false enc8 (layE R1))] (.range 44) rfl rfl rfl rfl rfl ?_)))))
 refine x_run0 [(125,pB true),(19,pS 1 false enc8 (layE R1))] (.range 44) rfl rfl rfl rfl (s_move rfl ⟨rfl,rfl,rfl⟩) (xy [(125,pB true),(23,PV.ptr 9 0)] (.range 44) rfl rfl rfl rfl rfl (xL [(125,pB true),(23,PV.ptr 9 0)] (.range 44) [(9,.obj [pI at0,pI q1.at_,pI n,pI q1.wAt,pI q1.sub,pS 1 false encBo q1.bits,pS 1 false enc16 q1.vals,p16 q1.and_,p16 q1.or_])] rfl rfl rfl rfl rfl (s_load_ptr tab_46 rfl rfl rfl (Nat.le_of_ble_eq_true rfl) ⟨rfl,rfl,rfl⟩) ⟨rfl,trivial⟩ rfl (xy [(125,pB true),(126,pS 1 false enc8 (layE R1)),(127,PV.f (.agg [encI at0,encI q1.at_,encI n,encI q1.wAt,encI q1.sub,FV.sl 1 false (List.map encBo q1.bits),FV.sl 1 false (List.map enc16 q1.vals),enc16 q1.and_,enc16 q1.or_]))] (.range 46) rfl rfl rfl rfl rfl (x_run0 [(125,pB true),(126,pS 1 false enc8 (layE R1)),(127,PV.f (.agg [encI at0,encI q1.at_,encI n,encI q1.wAt,encI q1.sub,FV.sl 1 false (List.map encBo q1.bits),FV.sl 1 false (List.map enc16 q1.vals),enc16 q1.and_,enc16 q1.or_]))] (.range 46) rfl rfl rfl rfl (s_callF rfl rfl rfl (w_burgagelaw4_reads (layE R1) false (⟨at0,q1.at_,n,q1.wAt,q1.sub,q1.bits,q1.vals,q1.and_,q1.or_⟩ : TRequest) (by omega) (by (simp; omega))) rfl ⟨rfl,rfl,rfl⟩) (d_op ?_)))))
 refine x_run0 [(125,pB true),(128,pB true)] (.range 47) rfl rfl rfl rfl (s_pick_t rfl rfl rfl ⟨rfl,rfl,rfl⟩) (d_op (x_run0 [(129,pB true)] (.range 48) rfl rfl rfl rfl (s_move rfl ⟨rfl,rfl,rfl⟩) (xy [(130,pB true),(3,pI n)] (.range 49) rfl rfl rfl rfl rfl (x_run0 [(130,pB true),(3,pI n)] (.range 49) rfl rfl rfl rfl (s_move rfl ⟨rfl,rfl,rfl⟩) (xy [(130,pB true),(4,pI at0)] (.range 49) rfl rfl rfl rfl rfl ?_)))))
 refine x_run0 [(130,pB true),(4,pI at0)] (.range 49) rfl rfl rfl rfl (s_move rfl ⟨rfl,rfl,rfl⟩) (xy [(130,pB true),(131,pI n),(132,pI at0)] (.range 51) rfl rfl rfl rfl rfl (x_run0 [(130,pB true),(131,pI n),(132,pI at0)] (.range 51) rfl rfl rfl rfl (s_callF rfl rfl rfl (w_reply_Refuse n at0) rfl ⟨rfl,rfl,rfl⟩) (xy [(130,pB true),(3,pI n)] (.range 49) rfl rfl rfl rfl rfl (x_run0 [(130,pB true),(3,pI n)] (.range 49) rfl rfl rfl rfl (s_move rfl ⟨rfl,rfl,rfl⟩) (xy [(130,pB true),(4,pI at0)] (.range 49) rfl rfl rfl rfl rfl ?_)))))
 refine x_run0 [(130,pB true),(4,pI at0)] (.range 49) rfl rfl rfl rfl (s_move rfl ⟨rfl,rfl,rfl⟩) (xy [(130,pB true),(134,pI n),(135,pI at0)] (.range 54) rfl rfl rfl rfl rfl (x_run0 [(130,pB true),(134,pI n),(135,pI at0)] (.range 54) rfl rfl rfl rfl (s_callF rfl rfl rfl (w_burgageref3_Refuse n at0) rfl ⟨rfl,rfl,rfl⟩) (xy [(130,pB true),(133,PV.f (eReply (refuseR n at0))),(136,PV.f (eReply (refuseR n at0)))] (.range 55) rfl rfl rfl rfl rfl (x_run0 [(130,pB true),(133,PV.f (eReply (refuseR n at0))),(136,PV.f (eReply (refuseR n at0)))] (.range 55) rfl rfl rfl rfl (s_callF rfl rfl rfl (w_burgageref3_Alike (refuseR n at0) (refuseR n at0) (by exact refuse_len n at0)) rfl ⟨rfl,rfl,rfl⟩) (d_op ?_)))))
 refine x_run0 [(130,pB true),(137,pB (decide ((refuseR n at0) = (refuseR n at0))))] (.range 56) rfl rfl rfl rfl (s_pick_t rfl rfl rfl ⟨rfl,rfl,rfl⟩) (d_op (x_run0 [(138,pB (decide ((refuseR n at0) = (refuseR n at0))))] (.range 57) rfl rfl rfl rfl (s_move rfl ⟨rfl,rfl,rfl⟩) (x_if [(139,pB (decide ((refuseR n at0) = (refuseR n at0))))] (.range 58) rfl rfl rfl rfl (fun g1 => ?_) (fun g1 => ?_))))
 ·have g1' := g1
  try simp only [sB] at g1'
  refine x_run0 [(139,pB (decide ((refuseR n at0) = (refuseR n at0))))] (.range 58) rfl rfl rfl rfl (s_callF rfl rfl rfl (w_burgagelaw4_known) rfl ⟨rfl,rfl,rfl⟩) (d_op (x_run0 [(139,pB (decide ((refuseR n at0) = (refuseR n at0)))),(140,pB true)] (.range 59) rfl rfl rfl rfl (s_pick_t rfl g1 rfl ⟨rfl,rfl,rfl⟩) (d_op (x_run0 [(141,pB true)] (.range 60) rfl rfl rfl rfl (s_assign rfl ⟨rfl,rfl,rfl⟩) (d_end ⟨by kernel_rfl, ?_⟩)))))
  refine q_then (w_ret ?_)
  exact fin_plain (ret_tmp rfl ret_nil) rfl rfl ⟨rfl,rfl,rfl⟩
 exact absurd g1 (by simp)
end Go.Proofs.Ytljkbpgcglomfaa
