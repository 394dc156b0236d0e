/- What the law PartWithin needs, and no more: merged out of texts of this session by a program of it (wip/tools/prune.py). -/
import Derived.Test.YtlcmbkkimgdnmaaQPartWithin2
set_option linter.unusedVariables false
set_option linter.unusedSimpArgs false
set_option maxRecDepth 10000
set_option maxHeartbeats 1000000
namespace Go.Proofs.Ytlcmbkkimgdnmaa
open Go Go.Proofs.Ytlcmbkkimgdnmaa.Pv
theorem w_burgagekeep_Functions   :
    T Try.prog 30 [] 0 [] (Ret (PV.ref 0 0 none) 1 [(0,oB true 1 encI fnsL)]) := by
 refine t_fun tabOk (n := 2) (rs := [.tmp 0]) Try.func30 rfl rfl rfl rfl (Nat.le_of_ble_eq_true rfl) ?_
 intro c hnt hk
 refine w_seq (w_R (qa hnt rfl rfl (r_end (q_then (w_seq ?_)))))
 refine w_R (qo hnt rfl (s_mkM (f := encI) ([1,2,3,4,5,6,8,15,16,17,22,23] : List Int) tab_28 rfl tab_3 ⟨rfl,by decide⟩ (by decide) rfl rfl rfl rfl ?_))
 refine qa hnt rfl rfl (r_set [(0,PV.ref 0 0 none)] [(0,oB true 1 encI ([1,2,3,4,5,6,8,15,16,17,22,23] : List Int))] 1 ⟨rfl,trivial⟩ rfl rfl (r_end (q_then (w_H (H' := [(0,oB true 1 encI fnsL)]) (congrArg (fun z => ([(0,oB true 1 encI z)] : Heap)) (show ([1,2,3,4,5,6,8,15,16,17,22,23] : List Int) = fnsL by rfl)) (w_ret ?_)))))
 exact fin_names (nx1 := 1) (H1 := [(0,oB true 1 encI fnsL)]) [(0,0)] (ret_tmp rfl ret_nil) rfl (by decide) ⟨⟨_,_,rfl,rfl,rfl,rfl⟩,trivial⟩ (by decide) rfl ⟨rfl,rfl,rfl⟩
theorem w_burgagekeep_Tape_Next (L : List Int) (cl_L : Bool) (a : Nat) (n : Int) (hL : L.length ≤ 70000000000000) (hn : -9223372036854775808 ≤ n ∧ n ≤ 9223372036854775807) :
    T Try.prog 31 [PV.ptr 0 0,pI n] 1 [(0,.obj [pS 1 cl_L encI L,pN a])] (Ret (pI (tNext L a n)) 1 [(0,.obj [pS 1 false encI L,pN (tStep L a n)])]) := by
 refine t_fun tabOk (n := 40) (rs := [.tmp 4]) Try.func31 rfl rfl rfl rfl (Nat.le_of_ble_eq_true rfl) ?_
 intro c hnt hk
 refine w_seq (w_R (qa hnt rfl rfl (r_end (q_then (w_seq ?_)))))
 refine w_seq (W_drawn tabOk mixed hnt [[],[0],[0,1],[0,1,2],[],[4],[4,5],[4,5,6],[4,5,6,7],(.range 9),(.range 10),(.range 11),(.range 12),(.range 13)] (by kernel_rfl) (d_op (x_run0 [(0,PV.ptr 0 0)] [] rfl rfl rfl rfl (s_move rfl ⟨rfl,rfl,rfl⟩) (d_op (x_run0 [(5,PV.ptr 0 0)] [0] rfl rfl rfl rfl (s_nilCheck rfl trivial ⟨rfl,rfl,rfl⟩) ?_)))))
 refine d_op (x_run0 [(6,PV.ptr 0 0)] [0,1] rfl rfl rfl rfl (s_fa_ptr tab_32 rfl rfl tab_3 (by decide) rfl ⟨rfl,rfl,rfl⟩) (d_op (xL [(7,PV.ptr 0 1)] [0,1,2] [(0,.obj [pS 1 cl_L encI L,pN a])] rfl rfl rfl rfl rfl (s_load_ptr1 tab_3 rfl rfl rfl rfl rfl ⟨rfl,rfl,rfl⟩) ⟨rfl,trivial⟩ rfl (d_op (x_run0 [(0,PV.ptr 0 0)] [] rfl rfl rfl rfl (s_move rfl ⟨rfl,rfl,rfl⟩) ?_)))))
 refine d_op (x_run0 [(9,PV.ptr 0 0)] [4] rfl rfl rfl rfl (s_nilCheck rfl trivial ⟨rfl,rfl,rfl⟩) (d_op (x_run0 [(10,PV.ptr 0 0)] [4,5] rfl rfl rfl rfl (s_fa_ptr tab_32 rfl rfl tab_28 (by decide) rfl ⟨rfl,rfl,rfl⟩) (d_op (xL [(11,PV.ptr 0 0)] [4,5,6] [(0,.obj [pS 1 cl_L encI L,pN a])] rfl rfl rfl rfl rfl (s_load_ptr1 tab_28 rfl rfl rfl rfl rfl ⟨rfl,rfl,rfl⟩) ⟨rfl,trivial⟩ rfl ?_)))))
 refine d_op (x_run0 [(12,pS 1 cl_L encI L)] [4,5,6,7] rfl rfl rfl rfl (s_lenM (l := L) tab_28 rfl (hM_sl (f := encI) rfl) ⟨rfl,rfl,rfl⟩) (d_op (x_run0 [(8,pN a),(13,pN L.length)] (.range 9) rfl rfl rfl rfl (s_geq rfl rfl ⟨rfl,rfl,rfl⟩) (d_op (x_run0 [(14,pB (decide (((L.length : Nat) : Int) ≤ ((a : Nat) : Int))))] (.range 10) rfl rfl rfl rfl (s_move rfl ⟨rfl,rfl,rfl⟩) ?_)))))
 refine x_if [(15,pB (decide (((L.length : Nat) : Int) ≤ ((a : Nat) : Int)))),(1,pI n)] (.range 11) rfl rfl rfl rfl (fun g1 => ?_) (fun g1 => ?_)
 ·have g1' := g1
  try simp only [sB] at g1'
  refine x_run0 [(15,pB (decide (((L.length : Nat) : Int) ≤ ((a : Nat) : Int)))),(1,pI n)] (.range 11) rfl rfl rfl rfl (s_move rfl ⟨rfl,rfl,rfl⟩) (xy [(15,pB (decide (((L.length : Nat) : Int) ≤ ((a : Nat) : Int)))),(16,pI n)] (.range 12) rfl rfl rfl rfl g1 (x_run0 [(15,pB (decide (((L.length : Nat) : Int) ≤ ((a : Nat) : Int)))),(16,pI n)] (.range 12) rfl rfl rfl rfl (s_lss rfl rfl ⟨rfl,rfl,rfl⟩) (d_op (x_run0 [(15,pB (decide (((L.length : Nat) : Int) ≤ ((a : Nat) : Int)))),(17,pB (decide (n < 1)))] (.range 13) rfl rfl rfl rfl (s_pick_f rfl g1 rfl ⟨rfl,rfl,rfl⟩) (d_end ⟨by kernel_rfl, ?_⟩)))))
  refine q_then (w_if rfl (fun c1 => ?_) (fun c1 => ?_))
  ·try simp only [sB] at c1
   refine w_seq (w_R (qa hnt rfl rfl (r_end (q_then (w_le (s := 4) (y := pI (tNext L a n)) rfl (le_of_eq (congrArg pI (show 0 = (tNext L a n) by (unfold tNext; rw [if_pos (by omega)]; done)))) ?_)))))
   have hz1 : a = (tStep L a n) := by ((unfold tStep; rw [if_pos (by omega)]; done))
   refine w_leO (n := 0) (ds := [pS 1 false encI L,pN (tStep L a n)]) rfl ⟨le_loose,le_of_eq (congrArg (fun z : Nat => pN z) hz1),trivial⟩ (w_ret (q_then_ret ?_))
   exact fin_names (nx1 := 1) (H1 := [(0,.obj [pS 1 false encI L,pN (tStep L a n)])]) [(0,0)] (ret_tmp rfl ret_nil) rfl (by decide) ⟨⟨_,_,rfl,rfl,rfl,rfl⟩,trivial⟩ (by decide) rfl ⟨rfl,rfl,rfl⟩
  try simp only [sB] at c1
  refine w_skip (q_then (w_seq (w_R (qm hnt rfl rfl (qo hnt rfl (s_nilCheck rfl trivial ?_))))))
  refine qo hnt rfl (s_fa_ptr tab_32 rfl rfl tab_3 (by decide) rfl ?_)
  refine qo hnt rfl (s_load_ptr1 tab_3 rfl rfl rfl rfl rfl ?_)
  refine qo hnt rfl (s_addN (a := a) (b := 1) rfl rfl (by omega) (by omega) (by omega) ?_)
  refine qo hnt rfl (s_nilCheck rfl trivial ?_)
  refine qo hnt rfl (s_fa_ptr tab_32 rfl rfl tab_3 (by decide) rfl ?_)
  refine qo hnt rfl (s_store_ptr tab_3 rfl rfl rfl rfl rfl (Nat.le_of_ble_eq_true rfl) ?_)
  refine r_set [(0,PV.ptr 0 0),(1,pI n)] [(0,.obj [pS 1 cl_L encI L,pN (a + 1)])] 1 ⟨rfl,rfl,trivial⟩ rfl rfl (r_end (q_then (w_seq (W_drawn tabOk mixed hnt [[],[0],[0,1],[0,1,2],[],[4],[4,5],[4,5,6],[4,5,6,7],(.range 9),(.range 10),(.range 11),[],(.range 13),(.range 14)] (by kernel_rfl) (d_op ?_)))))
  refine x_run0 [(0,PV.ptr 0 0)] [] rfl rfl rfl rfl (s_move rfl ⟨rfl,rfl,rfl⟩) (d_op (x_run0 [(26,PV.ptr 0 0)] [0] rfl rfl rfl rfl (s_nilCheck rfl trivial ⟨rfl,rfl,rfl⟩) (d_op (x_run0 [(27,PV.ptr 0 0)] [0,1] rfl rfl rfl rfl (s_fa_ptr tab_32 rfl rfl tab_28 (by decide) rfl ⟨rfl,rfl,rfl⟩) (d_op ?_)))))
  refine xL [(28,PV.ptr 0 0)] [0,1,2] [(0,.obj [pS 1 cl_L encI L,pN (a + 1)])] rfl rfl rfl rfl rfl (s_load_ptr1 tab_28 rfl rfl rfl rfl rfl ⟨rfl,rfl,rfl⟩) ⟨rfl,trivial⟩ rfl (d_op (x_run0 [(0,PV.ptr 0 0)] [] rfl rfl rfl rfl (s_move rfl ⟨rfl,rfl,rfl⟩) (d_op (x_run0 [(30,PV.ptr 0 0)] [4] rfl rfl rfl rfl (s_nilCheck rfl trivial ⟨rfl,rfl,rfl⟩) (d_op ?_)))))
  refine x_run0 [(31,PV.ptr 0 0)] [4,5] rfl rfl rfl rfl (s_fa_ptr tab_32 rfl rfl tab_3 (by decide) rfl ⟨rfl,rfl,rfl⟩) (d_op (xL [(32,PV.ptr 0 1)] [4,5,6] [(0,.obj [pS 1 cl_L encI L,pN (a + 1)])] rfl rfl rfl rfl rfl (s_load_ptr1 tab_3 rfl rfl rfl rfl rfl ⟨rfl,rfl,rfl⟩) ⟨rfl,trivial⟩ rfl (d_op (x_run0 [(33,pN (a + 1))] [4,5,6,7] rfl rfl rfl rfl (s_subN (a := a + 1) (b := 1) rfl rfl (by omega) (by omega) (by omega) ⟨rfl,rfl,rfl⟩) (d_op ?_)))))
  obtain ⟨e1,he1⟩ := get_of_lt L (i := a + 1 - 1) (by omega)
  refine x_run0 [(29,pS 1 cl_L encI L),(34,pN (a + 1 - 1))] (.range 9) rfl rfl rfl rfl (s_iaM (q := a + 1 - 1) (b := e1) (f := encI) tab_28 rfl tab_3 rfl rfl (by omega) rfl he1 ⟨rfl,rfl,rfl⟩) (d_op (x_run0 [(35,PV.f (.ro (encI e1)))] (.range 10) rfl rfl rfl rfl (s_load_ro1 tab_3 rfl rfl rfl rfl ⟨rfl,rfl,rfl⟩) (d_op (x_run0 [(36,pI e1)] (.range 11) rfl rfl rfl rfl (s_callF rfl rfl rfl (w_burgagebook_Within e1 0 1073741824 (by omega)) rfl ⟨rfl,rfl,rfl⟩) (d_op ?_)))))
  refine x_run0 [(1,pI n)] [] rfl rfl rfl rfl (s_move rfl ⟨rfl,rfl,rfl⟩) (d_op (x_run0 [(37,pI (within e1 0 1073741824)),(38,pI n)] (.range 13) rfl rfl rfl rfl (s_rem rfl rfl (by omega) ⟨rfl,rfl,rfl⟩) (d_op (x_run0 [(39,pI (Int.tmod (within e1 0 1073741824) n))] (.range 14) rfl rfl rfl rfl (s_assign rfl ⟨rfl,rfl,rfl⟩) (d_end ⟨by kernel_rfl, ?_⟩)))))
  refine q_then (w_le (s := 4) (y := pI (tNext L a n)) rfl (le_of_eq (congrArg pI (show (Int.tmod (within e1 0 1073741824) n) = (tNext L a n) by (unfold tNext; rw [if_neg (by omega),List.getD_eq_getElem?_getD,show L[a]? = some e1 from he1]; rfl)))) ?_)
  have hz2 : (a + 1) = (tStep L a n) := by ((unfold tStep; rw [if_neg (by omega)]; done))
  refine w_leO (n := 0) (ds := [pS 1 false encI L,pN (tStep L a n)]) rfl ⟨le_loose,le_of_eq (congrArg (fun z : Nat => pN z) hz2),trivial⟩ (w_ret ?_)
  exact fin_names (nx1 := 1) (H1 := [(0,.obj [pS 1 false encI L,pN (tStep L a n)])]) [(0,0)] (ret_tmp rfl ret_nil) rfl (by decide) ⟨⟨_,_,rfl,rfl,rfl,rfl⟩,trivial⟩ (by decide) rfl ⟨rfl,rfl,rfl⟩
 have g1' := g1
 try simp only [sB] at g1'
 refine xn [(15,pB (decide (((L.length : Nat) : Int) ≤ ((a : Nat) : Int)))),(16,undefP)] (.range 12) rfl rfl rfl rfl g1 (d_op (x_run0 [(15,pB (decide (((L.length : Nat) : Int) ≤ ((a : Nat) : Int)))),(17,undefP)] (.range 13) rfl rfl rfl rfl (s_pick_t rfl g1 rfl ⟨rfl,rfl,rfl⟩) (d_end ⟨by kernel_rfl, ?_⟩)))
 refine q_then (w_if rfl (fun _ => ?_) (fun e => absurd e (by decide)))
 refine w_seq (w_R (qa hnt rfl rfl (r_end (q_then (w_le (s := 4) (y := pI (tNext L a n)) rfl (le_of_eq (congrArg pI (show 0 = (tNext L a n) by (unfold tNext; rw [if_pos (by omega)]; done)))) ?_)))))
 have hz3 : a = (tStep L a n) := by ((unfold tStep; rw [if_pos (by omega)]; done))
 refine w_leO (n := 0) (ds := [pS 1 false encI L,pN (tStep L a n)]) rfl ⟨le_loose,le_of_eq (congrArg (fun z : Nat => pN z) hz3),trivial⟩ (w_ret (q_then_ret ?_))
 exact fin_names (nx1 := 1) (H1 := [(0,.obj [pS 1 false encI L,pN (tStep L a n)])]) [(0,0)] (ret_tmp rfl ret_nil) rfl (by decide) ⟨⟨_,_,rfl,rfl,rfl,rfl⟩,trivial⟩ (by decide) rfl ⟨rfl,rfl,rfl⟩
theorem w_burgagekeep_Tape_Request (L : List Int) (cl_L : Bool) (a : Nat) (hL : L.length ≤ 70000000000000) :
    T Try.prog 13 [PV.ptr 0 0] 1 [(0,.obj [pS 1 cl_L encI L,pN a])] (fun ra rb rc => ∃ q : TRequest,∃ b : Nat,(rightR q = 0 ∧ q.bits.length ≤ 25 ∧ q.vals.length ≤ 25 ∧ 0 ≤ q.count ∧ q.count ≤ 25) ∧ (Ret (PV.f (eRequest q)) 1 [(0,.obj [pS 1 false encI L,pN b])]) ra rb rc) := by
 refine t_fun tabOk (n := 140) (rs := [.cell 2 37]) Try.func13 rfl rfl rfl rfl (Nat.le_of_ble_eq_true rfl) ?_
 intro c hnt hk
 refine w_seq (w_R (qo hnt rfl (s_alloc tab_37 ?_)))
 refine r_set [(0,PV.ptr 0 0),(2,PV.ptr 1 0)] [(1,.obj [pI 0,pI 0,pI 0,pI 0,pI 0,pNil,pNil,p16 0,p16 0]),(0,.obj [pS 1 cl_L encI L,pN a])] 2 ⟨rfl,rfl,trivial⟩ rfl rfl (r_end (q_then (w_seq (w_R (qo hnt rfl (s_callX (r2 := PV.ref 2 0 none) (nx1 := 3) (H2 := [(1,.obj [pI 0,pI 0,pI 0,pI 0,pI 0,pNil,pNil,p16 0,p16 0]),(0,.obj [pS 1 cl_L encI L,pN a])]) (H3 := [(2,oB true 1 encI fnsL),(1,.obj [pI 0,pI 0,pI 0,pI 0,pI 0,pNil,pNil,p16 0,p16 0]),(0,.obj [pS 1 cl_L encI L,pN a])]) [] [] rfl rfl rfl (handed_of (by decide) trivial) rfl rfl rfl rfl rfl rfl (w_burgagekeep_Functions) rfl (dist_of rfl) rfl rfl rfl rfl ?_))))))
 refine qm hnt rfl rfl (qo hnt rfl (s_callX (r2 := pI (tNext L a 12)) (nx1 := 3) (H2 := [(2,oB true 1 encI fnsL),(1,.obj [pI 0,pI 0,pI 0,pI 0,pI 0,pNil,pNil,p16 0,p16 0]),(0,.obj [pS 1 cl_L encI L,pN a])]) (H3 := [(0,.obj [pS 1 false encI L,pN (tStep L a 12)]),(2,oB true 1 encI fnsL),(1,.obj [pI 0,pI 0,pI 0,pI 0,pI 0,pNil,pNil,p16 0,p16 0])]) [0] [.obj [pS 1 cl_L encI L,pN a]] rfl rfl rfl (handed_of (by decide) ⟨rfl,trivial⟩) rfl rfl rfl rfl rfl rfl (w_burgagekeep_Tape_Next L cl_L a 12 (by omega) (by omega)) rfl (dist_of rfl) rfl rfl rfl rfl ?_))
 have h12 := tNext_lt L a (n := 12) (by decide)
 have hfl : fnsL.length = 12 := rfl
 refine qo hnt rfl (s_iaR0 (q := Int.toNat (tNext L a 12)) (f := encI) (l := fnsL) tab_28 rfl tab_3 rfl rfl (by omega) rfl rfl (by omega) ?_)
 obtain ⟨e1,he1⟩ := get_of_lt fnsL (i := Int.toNat (tNext L a 12)) (by omega)
 refine qo hnt rfl (s_ldM (b := e1) (f := encI) tab_3 rfl rfl rfl rfl he1 rfl ?_)
 refine qo hnt rfl (s_build tab_37 rfl rfl (b_cons rfl tab_3 rfl rfl rfl (Nat.le_of_ble_eq_true rfl) (b_nil ?_)))
 refine qo hnt rfl (s_alloc tab_37 ?_)
 refine qo hnt rfl (s_store_ptr tab_37 rfl rfl rfl rfl rfl (Nat.le_of_ble_eq_true rfl) ?_)
 refine r_set [(0,PV.ptr 0 0),(2,PV.ptr 1 0),(3,PV.ptr 3 0)] [(3,.obj [pI e1,pI 0,pI 0,pI 0,pI 0,pNil,pNil,p16 0,p16 0]),(0,.obj [pS 1 false encI L,pN (tStep L a 12)]),(2,oB true 1 encI fnsL),(1,.obj [pI 0,pI 0,pI 0,pI 0,pI 0,pNil,pNil,p16 0,p16 0])] 4 ⟨rfl,rfl,rfl,trivial⟩ rfl rfl (r_end (q_then (w_seq ?_)))
 have hfn := fns_has he1
 have h70 := tNext_lt L (tStep L a 12) (n := 70) (by decide)
 refine w_R (qm hnt rfl rfl (qo hnt rfl (s_callX (r2 := pI (tNext L (tStep L a 12) 70)) (nx1 := 4) (H2 := [(3,.obj [pI e1,pI 0,pI 0,pI 0,pI 0,pNil,pNil,p16 0,p16 0]),(0,.obj [pS 1 false encI L,pN (tStep L a 12)]),(2,oB true 1 encI fnsL),(1,.obj [pI 0,pI 0,pI 0,pI 0,pI 0,pNil,pNil,p16 0,p16 0])]) (H3 := [(0,.obj [pS 1 false encI L,pN (tStep L (tStep L a 12) 70)]),(3,.obj [pI e1,pI 0,pI 0,pI 0,pI 0,pNil,pNil,p16 0,p16 0]),(2,oB true 1 encI fnsL),(1,.obj [pI 0,pI 0,pI 0,pI 0,pI 0,pNil,pNil,p16 0,p16 0])]) [0] [.obj [pS 1 false encI L,pN (tStep L a 12)]] rfl rfl rfl (handed_of (by decide) ⟨rfl,trivial⟩) rfl rfl rfl rfl rfl rfl (w_burgagekeep_Tape_Next L false (tStep L a 12) 70 (by omega) (by omega)) rfl (dist_of rfl) rfl rfl rfl rfl ?_)))
 refine qa hnt rfl rfl (r_set [(0,PV.ptr 0 0),(2,PV.ptr 1 0),(3,PV.ptr 3 0),(4,pI (tNext L (tStep L a 12) 70))] [(0,.obj [pS 1 false encI L,pN (tStep L (tStep L a 12) 70)]),(3,.obj [pI e1,pI 0,pI 0,pI 0,pI 0,pNil,pNil,p16 0,p16 0]),(2,oB true 1 encI fnsL),(1,.obj [pI 0,pI 0,pI 0,pI 0,pI 0,pNil,pNil,p16 0,p16 0])] 4 ⟨rfl,rfl,rfl,rfl,trivial⟩ rfl rfl (r_end (q_then (w_seq (w_seq ?_)))))
 refine w_R (qo hnt rfl (s_fa_ptr tab_37 rfl rfl tab_3 (by decide) rfl ?_))
 refine qo hnt rfl (s_load_ptr1 tab_3 rfl rfl rfl rfl rfl ?_)
 refine r_end (q_then (w_block (join1 (fun (bb1 : Bool) => bb1 = ((decide (e1 = 1)) || ((decide (e1 = 2)) || ((decide (e1 = 3)) || (decide (e1 = 4)))))) (fun (bb1 : Bool) => [(0,PV.ptr 0 0),(2,PV.ptr 1 0),(3,PV.ptr 2 0),(4,pI (tNext L (tStep L a 12) 70)),(17,pI e1),(18,pB bb1)]) 3 (fun (bb1 : Bool) => [(0,.obj [pS 1 false encI L,pN (tStep L (tStep L a 12) 70)]),(1,.obj [pI 0,pI 0,pI 0,pI 0,pI 0,pNil,pNil,p16 0,p16 0]),(2,.obj [pI e1,pI 0,pI 0,pI 0,pI 0,pNil,pNil,p16 0,p16 0])]) ?_ ?_)))
 ·refine w_seq (w_R (qo hnt rfl (s_eql rfl rfl ?_)))
  refine qa hnt rfl rfl (r_end (q_then (w_if rfl (fun c1 => ?_) (fun c1 => ?_))))
  ·have c1_ := c1
   try simp only [sB] at c1
   refine w_skip (q_then (⟨(decide (e1 = 1)), ?_,⟨[(0,0),(1,1),(2,3)],by rw [hk]; decide,⟨⟨_,rfl,rfl,rfl⟩,⟨_,rfl,rfl,rfl⟩,⟨_,rfl,rfl,rfl⟩,⟨_,rfl,rfl,rfl⟩,⟨_,rfl,rfl,rfl⟩,⟨_,rfl,rfl,rfl⟩,trivial⟩,⟨⟨_,_,rfl,rfl,rfl,rfl⟩,⟨_,_,rfl,rfl,rfl,rfl⟩,⟨_,_,rfl,rfl,rfl,rfl⟩,trivial⟩,by rw [hk]; decide⟩⟩))
   simp only [c1_,Bool.true_or,Bool.false_or]
  have c1_ := c1
  try simp only [sB] at c1
  refine w_seq (w_R (qo hnt rfl (s_eql rfl rfl ?_)))
  refine qa hnt rfl rfl (r_end (q_then (w_if rfl (fun c2 => ?_) (fun c2 => ?_))))
  ·have c2_ := c2
   try simp only [sB] at c2
   refine w_skip (q_then (⟨(decide (e1 = 2)), ?_,⟨[(0,0),(1,1),(2,3)],by rw [hk]; decide,⟨⟨_,rfl,rfl,rfl⟩,⟨_,rfl,rfl,rfl⟩,⟨_,rfl,rfl,rfl⟩,⟨_,rfl,rfl,rfl⟩,⟨_,rfl,rfl,rfl⟩,⟨_,rfl,rfl,rfl⟩,trivial⟩,⟨⟨_,_,rfl,rfl,rfl,rfl⟩,⟨_,_,rfl,rfl,rfl,rfl⟩,⟨_,_,rfl,rfl,rfl,rfl⟩,trivial⟩,by rw [hk]; decide⟩⟩))
   simp only [c1_,c2_,Bool.true_or,Bool.false_or]
  have c2_ := c2
  try simp only [sB] at c2
  refine w_seq (w_R (qo hnt rfl (s_eql rfl rfl ?_)))
  refine qa hnt rfl rfl (r_end (q_then (w_if rfl (fun c3 => ?_) (fun c3 => ?_))))
  ·have c3_ := c3
   try simp only [sB] at c3
   refine w_skip (q_then (⟨(decide (e1 = 3)), ?_,⟨[(0,0),(1,1),(2,3)],by rw [hk]; decide,⟨⟨_,rfl,rfl,rfl⟩,⟨_,rfl,rfl,rfl⟩,⟨_,rfl,rfl,rfl⟩,⟨_,rfl,rfl,rfl⟩,⟨_,rfl,rfl,rfl⟩,⟨_,rfl,rfl,rfl⟩,trivial⟩,⟨⟨_,_,rfl,rfl,rfl,rfl⟩,⟨_,_,rfl,rfl,rfl,rfl⟩,⟨_,_,rfl,rfl,rfl,rfl⟩,trivial⟩,by rw [hk]; decide⟩⟩))
   simp only [c1_,c2_,c3_,Bool.true_or,Bool.false_or]
  have c3_ := c3
  try simp only [sB] at c3
  refine w_R (qo hnt rfl (s_eql rfl rfl ?_))
  refine qa hnt rfl rfl (r_end (q_then (⟨(decide (e1 = 4)), ?_,⟨[(0,0),(1,1),(2,3)],by rw [hk]; decide,⟨⟨_,rfl,rfl,rfl⟩,⟨_,rfl,rfl,rfl⟩,⟨_,rfl,rfl,rfl⟩,⟨_,rfl,rfl,rfl⟩,⟨_,rfl,rfl,rfl⟩,⟨_,rfl,rfl,rfl⟩,trivial⟩,⟨⟨_,_,rfl,rfl,rfl,rfl⟩,⟨_,_,rfl,rfl,rfl,rfl⟩,⟨_,_,rfl,rfl,rfl,rfl⟩,trivial⟩,by rw [hk]; decide⟩⟩)))
  simp only [c1_,c2_,c3_,Bool.true_or,Bool.false_or]
 intro bb1 hbb1
 subst hbb1
 refine w_if rfl (fun c4 => ?_) (fun c4 => ?_)
 ·try simp only [sB,Bool.or_eq_true,Bool.or_eq_false_iff] at c4
  have h26 := tNext_lt L (tStep L (tStep L a 12) 70) (n := 26) (by decide)
  refine w_R (qm hnt rfl rfl (qm hnt rfl rfl (qo hnt rfl (s_callX (r2 := pI (tNext L (tStep L (tStep L a 12) 70) 26)) (nx1 := 3) (H2 := [(0,.obj [pS 1 false encI L,pN (tStep L (tStep L a 12) 70)]),(1,.obj [pI 0,pI 0,pI 0,pI 0,pI 0,pNil,pNil,p16 0,p16 0]),(2,.obj [pI e1,pI 0,pI 0,pI 0,pI 0,pNil,pNil,p16 0,p16 0])]) (H3 := [(0,.obj [pS 1 false encI L,pN (tStep L (tStep L (tStep L a 12) 70) 26)]),(1,.obj [pI 0,pI 0,pI 0,pI 0,pI 0,pNil,pNil,p16 0,p16 0]),(2,.obj [pI e1,pI 0,pI 0,pI 0,pI 0,pNil,pNil,p16 0,p16 0])]) [0] [.obj [pS 1 false encI L,pN (tStep L (tStep L a 12) 70)]] rfl rfl rfl (handed_of (by decide) ⟨rfl,trivial⟩) rfl rfl rfl rfl rfl rfl (w_burgagekeep_Tape_Next L false (tStep L (tStep L a 12) 70) 26 (by omega) (by omega)) rfl (dist_of rfl) rfl rfl rfl rfl ?_))))
  refine qo hnt rfl (s_fa_ptr tab_37 rfl rfl tab_3 (by decide) rfl ?_)
  refine qo hnt rfl (s_store_ptr tab_3 rfl rfl rfl rfl rfl (Nat.le_of_ble_eq_true rfl) ?_)
  refine qo hnt rfl (s_fa_ptr tab_37 rfl rfl tab_3 (by decide) rfl ?_)
  refine qo hnt rfl (s_store_ptr tab_3 rfl rfl rfl rfl rfl (Nat.le_of_ble_eq_true rfl) ?_)
  refine r_set [(2,PV.ptr 1 0),(3,PV.ptr 2 0)] [(2,.obj [pI e1,pI (tNext L (tStep L a 12) 70),pI (tNext L (tStep L (tStep L a 12) 70) 26),pI 0,pI 0,pNil,pNil,p16 0,p16 0]),(0,.obj [pS 1 false encI L,pN (tStep L (tStep L (tStep L a 12) 70) 26)]),(1,.obj [pI 0,pI 0,pI 0,pI 0,pI 0,pNil,pNil,p16 0,p16 0])] 3 ⟨rfl,rfl,trivial⟩ rfl rfl (r_end (q_block (q_then (w_seq (w_R ?_)))))
  refine qo hnt rfl (s_load_ptr tab_37 rfl rfl rfl (Nat.le_of_ble_eq_true rfl) ?_)
  refine qo hnt rfl (s_store_ptr tab_37 rfl rfl rfl rfl rfl (Nat.le_of_ble_eq_true rfl) ?_)
  refine r_set [(2,PV.ptr 1 0)] [(1,.obj [pI e1,pI (tNext L (tStep L a 12) 70),pI (tNext L (tStep L (tStep L a 12) 70) 26),pI 0,pI 0,pNil,pNil,p16 0,p16 0]),(2,.obj [pI e1,pI (tNext L (tStep L a 12) 70),pI (tNext L (tStep L (tStep L a 12) 70) 26),pI 0,pI 0,pNil,pNil,p16 0,p16 0]),(0,.obj [pS 1 false encI L,pN (tStep L (tStep L (tStep L a 12) 70) 26)])] 3 ⟨rfl,trivial⟩ rfl rfl (r_end (q_then (w_leO (n := 1) (ds := [pI e1,pI (tNext L (tStep L a 12) 70),pI (tNext L (tStep L (tStep L a 12) 70) 26),pI 0,pI 0,pS 1 false encBo [],pS 1 false enc16 [],p16 0,p16 0]) rfl ⟨le_refl _,le_refl _,le_refl _,le_refl _,le_refl _,le_nilS 1 false,le_nilS 1 false,le_refl _,le_refl _,trivial⟩ (w_ret ?_))))
  have hex : rightR (⟨e1,tNext L (tStep L a 12) 70,tNext L (tStep L (tStep L a 12) 70) 26,0,0,[],[],0,0⟩ : TRequest) = 0 ∧ (⟨e1,tNext L (tStep L a 12) 70,tNext L (tStep L (tStep L a 12) 70) 26,0,0,[],[],0,0⟩ : TRequest).bits.length ≤ 25 ∧ (⟨e1,tNext L (tStep L a 12) 70,tNext L (tStep L (tStep L a 12) 70) 26,0,0,[],[],0,0⟩ : TRequest).vals.length ≤ 25 ∧ 0 ≤ (⟨e1,tNext L (tStep L a 12) 70,tNext L (tStep L (tStep L a 12) 70) 26,0,0,[],[],0,0⟩ : TRequest).count ∧ (⟨e1,tNext L (tStep L a 12) 70,tNext L (tStep L (tStep L a 12) 70) 26,0,0,[],[],0,0⟩ : TRequest).count ≤ 25 := by
    refine ⟨(shapeR_iff (q := _) hfn).2 ?_,by simp; try omega,by simp; try omega,by simp; try omega,by simp; try omega⟩
    constructor
    case bits => simp only; (rw [if_neg (by omega),if_neg (by omega)]; rfl)
    case vals => simp only; (rw [if_neg (by omega),if_neg (by omega),if_neg (by omega)]; rfl)
    all_goals first|(intro _; rfl)|(intro _; exact ⟨rfl,rfl⟩)|(simp only; omega)
  exact fin_names (nx1 := 1) (H1 := [(0,.obj [pS 1 false encI L,pN (tStep L (tStep L (tStep L a 12) 70) 26)])]) [(0,0)] (ret_cell tab_37 (by decide) rfl rfl (Nat.le_of_ble_eq_true rfl) rfl ret_nil) rfl (by decide) ⟨⟨_,_,rfl,rfl,rfl,rfl⟩,trivial⟩ (by decide) rfl ⟨((⟨e1,tNext L (tStep L a 12) 70,tNext L (tStep L (tStep L a 12) 70) 26,0,0,[],[],0,0⟩ : TRequest)),(tStep L (tStep L (tStep L a 12) 70) 26),hex,rfl,rfl,rfl⟩
 try simp only [sB,Bool.or_eq_true,Bool.or_eq_false_iff] at c4
 refine w_seq (w_R (qo hnt rfl (s_eql rfl rfl ?_)))
 refine qa hnt rfl rfl (r_end (q_then (w_if rfl (fun c5 => ?_) (fun c5 => ?_))))
 ·try simp only [sB] at c5
  refine w_R (qm hnt rfl rfl (qm hnt rfl rfl (qo hnt rfl (s_callX (r2 := pI (tNext L (tStep L (tStep L a 12) 70) 2)) (nx1 := 3) (H2 := [(0,.obj [pS 1 false encI L,pN (tStep L (tStep L a 12) 70)]),(1,.obj [pI 0,pI 0,pI 0,pI 0,pI 0,pNil,pNil,p16 0,p16 0]),(2,.obj [pI e1,pI 0,pI 0,pI 0,pI 0,pNil,pNil,p16 0,p16 0])]) (H3 := [(0,.obj [pS 1 false encI L,pN (tStep L (tStep L (tStep L a 12) 70) 2)]),(1,.obj [pI 0,pI 0,pI 0,pI 0,pI 0,pNil,pNil,p16 0,p16 0]),(2,.obj [pI e1,pI 0,pI 0,pI 0,pI 0,pNil,pNil,p16 0,p16 0])]) [0] [.obj [pS 1 false encI L,pN (tStep L (tStep L a 12) 70)]] rfl rfl rfl (handed_of (by decide) ⟨rfl,trivial⟩) rfl rfl rfl rfl rfl rfl (w_burgagekeep_Tape_Next L false (tStep L (tStep L a 12) 70) 2 (by omega) (by omega)) rfl (dist_of rfl) rfl rfl rfl rfl ?_))))
  refine qo hnt rfl (s_eql rfl rfl ?_)
  refine qo hnt rfl (s_mkM (f := encBo) [decide (tNext L (tStep L (tStep L a 12) 70) 2 = 1)] tab_33 rfl tab_4 ⟨rfl,by decide⟩ (by decide) rfl rfl rfl rfl ?_)
  refine qo hnt rfl (s_fa_ptr tab_37 rfl rfl tab_3 (by decide) rfl ?_)
  refine qo hnt rfl (s_store_ptr tab_3 rfl rfl rfl rfl rfl (Nat.le_of_ble_eq_true rfl) ?_)
  refine qo hnt rfl (s_fa_ptr tab_37 rfl rfl tab_33 (by decide) rfl ?_)
  refine qo hnt rfl (s_store_ptr tab_33 rfl rfl rfl rfl rfl (Nat.le_of_ble_eq_true rfl) ?_)
  refine r_set [(2,PV.ptr 1 0),(3,PV.ptr 2 0)] [(2,.obj [pI e1,pI (tNext L (tStep L a 12) 70),pI 0,pI 0,pI 0,PV.ref 3 0 none,pNil,p16 0,p16 0]),(3,oB true 1 encBo [decide (tNext L (tStep L (tStep L a 12) 70) 2 = 1)]),(0,.obj [pS 1 false encI L,pN (tStep L (tStep L (tStep L a 12) 70) 2)]),(1,.obj [pI 0,pI 0,pI 0,pI 0,pI 0,pNil,pNil,p16 0,p16 0])] 4 ⟨rfl,rfl,trivial⟩ rfl rfl (r_end (q_block (q_then (w_seq (w_R ?_)))))
  refine qo hnt rfl (s_load_ptr tab_37 rfl rfl rfl (Nat.le_of_ble_eq_true rfl) ?_)
  refine qo hnt rfl (s_store_ptr tab_37 rfl rfl rfl rfl rfl (Nat.le_of_ble_eq_true rfl) ?_)
  refine r_set [(2,PV.ptr 1 0)] [(1,.obj [pI e1,pI (tNext L (tStep L a 12) 70),pI 0,pI 0,pI 0,PV.ref 3 0 none,pNil,p16 0,p16 0]),(2,.obj [pI e1,pI (tNext L (tStep L a 12) 70),pI 0,pI 0,pI 0,PV.ref 3 0 none,pNil,p16 0,p16 0]),(3,oB true 1 encBo [decide (tNext L (tStep L (tStep L a 12) 70) 2 = 1)]),(0,.obj [pS 1 false encI L,pN (tStep L (tStep L (tStep L a 12) 70) 2)])] 4 ⟨rfl,trivial⟩ rfl rfl (r_end (q_then (w_frzC (n := 1) (j := 5) rfl rfl rfl rfl (w_leO (n := 1) (ds := [pI e1,pI (tNext L (tStep L a 12) 70),pI 0,pI 0,pI 0,pS 1 false encBo [decide (tNext L (tStep L (tStep L a 12) 70) 2 = 1)],pS 1 false enc16 [],p16 0,p16 0]) rfl ⟨le_refl _,le_refl _,le_refl _,le_refl _,le_refl _,le_refl _,le_nilS 1 false,le_refl _,le_refl _,trivial⟩ (w_ret ?_)))))
  have hex : rightR (⟨e1,tNext L (tStep L a 12) 70,0,0,0,[decide (tNext L (tStep L (tStep L a 12) 70) 2 = 1)],[],0,0⟩ : TRequest) = 0 ∧ (⟨e1,tNext L (tStep L a 12) 70,0,0,0,[decide (tNext L (tStep L (tStep L a 12) 70) 2 = 1)],[],0,0⟩ : TRequest).bits.length ≤ 25 ∧ (⟨e1,tNext L (tStep L a 12) 70,0,0,0,[decide (tNext L (tStep L (tStep L a 12) 70) 2 = 1)],[],0,0⟩ : TRequest).vals.length ≤ 25 ∧ 0 ≤ (⟨e1,tNext L (tStep L a 12) 70,0,0,0,[decide (tNext L (tStep L (tStep L a 12) 70) 2 = 1)],[],0,0⟩ : TRequest).count ∧ (⟨e1,tNext L (tStep L a 12) 70,0,0,0,[decide (tNext L (tStep L (tStep L a 12) 70) 2 = 1)],[],0,0⟩ : TRequest).count ≤ 25 := by
    refine ⟨(shapeR_iff (q := _) hfn).2 ?_,by simp; try omega,by simp; try omega,by simp; try omega,by simp; try omega⟩
    constructor
    case bits => simp only; (rw [if_pos (by omega)]; rfl)
    case vals => simp only; (rw [if_neg (by omega),if_neg (by omega),if_neg (by omega)]; rfl)
    all_goals first|(intro _; rfl)|(intro _; exact ⟨rfl,rfl⟩)|(simp only; omega)
  exact fin_names (nx1 := 1) (H1 := [(0,.obj [pS 1 false encI L,pN (tStep L (tStep L (tStep L a 12) 70) 2)])]) [(0,0)] (ret_cell tab_37 (by decide) rfl rfl (Nat.le_of_ble_eq_true rfl) rfl ret_nil) rfl (by decide) ⟨⟨_,_,rfl,rfl,rfl,rfl⟩,trivial⟩ (by decide) rfl ⟨((⟨e1,tNext L (tStep L a 12) 70,0,0,0,[decide (tNext L (tStep L (tStep L a 12) 70) 2 = 1)],[],0,0⟩ : TRequest)),(tStep L (tStep L (tStep L a 12) 70) 2),hex,rfl,rfl,rfl⟩
 try simp only [sB] at c5
 refine w_seq (w_R (qo hnt rfl (s_eql rfl rfl ?_)))
 refine qa hnt rfl rfl (r_end (q_then (w_if rfl (fun c6 => ?_) (fun c6 => ?_))))
 ·try simp only [sB] at c6
  refine w_R (qm hnt rfl rfl (qm hnt rfl rfl (qo hnt rfl (s_callX (r2 := pI (tNext L (tStep L (tStep L a 12) 70) 65536)) (nx1 := 3) (H2 := [(0,.obj [pS 1 false encI L,pN (tStep L (tStep L a 12) 70)]),(1,.obj [pI 0,pI 0,pI 0,pI 0,pI 0,pNil,pNil,p16 0,p16 0]),(2,.obj [pI e1,pI 0,pI 0,pI 0,pI 0,pNil,pNil,p16 0,p16 0])]) (H3 := [(0,.obj [pS 1 false encI L,pN (tStep L (tStep L (tStep L a 12) 70) 65536)]),(1,.obj [pI 0,pI 0,pI 0,pI 0,pI 0,pNil,pNil,p16 0,p16 0]),(2,.obj [pI e1,pI 0,pI 0,pI 0,pI 0,pNil,pNil,p16 0,p16 0])]) [0] [.obj [pS 1 false encI L,pN (tStep L (tStep L a 12) 70)]] rfl rfl rfl (handed_of (by decide) ⟨rfl,trivial⟩) rfl rfl rfl rfl rfl rfl (w_burgagekeep_Tape_Next L false (tStep L (tStep L a 12) 70) 65536 (by omega) (by omega)) rfl (dist_of rfl) rfl rfl rfl rfl ?_))))
  refine qo hnt rfl (s_cv16 tab_3 tab_35 rfl rfl rfl ?_)
  refine qo hnt rfl (s_mkM (f := enc16) [u16I (tNext L (tStep L (tStep L a 12) 70) 65536)] tab_34 rfl tab_35 ⟨rfl,by decide⟩ (by decide) rfl rfl rfl rfl ?_)
  refine qo hnt rfl (s_fa_ptr tab_37 rfl rfl tab_3 (by decide) rfl ?_)
  refine qo hnt rfl (s_store_ptr tab_3 rfl rfl rfl rfl rfl (Nat.le_of_ble_eq_true rfl) ?_)
  refine qo hnt rfl (s_fa_ptr tab_37 rfl rfl tab_34 (by decide) rfl ?_)
  refine qo hnt rfl (s_store_ptr tab_34 rfl rfl rfl rfl rfl (Nat.le_of_ble_eq_true rfl) ?_)
  refine r_set [(2,PV.ptr 1 0),(3,PV.ptr 2 0)] [(2,.obj [pI e1,pI (tNext L (tStep L a 12) 70),pI 0,pI 0,pI 0,pNil,PV.ref 3 0 none,p16 0,p16 0]),(3,oB true 1 enc16 [u16I (tNext L (tStep L (tStep L a 12) 70) 65536)]),(0,.obj [pS 1 false encI L,pN (tStep L (tStep L (tStep L a 12) 70) 65536)]),(1,.obj [pI 0,pI 0,pI 0,pI 0,pI 0,pNil,pNil,p16 0,p16 0])] 4 ⟨rfl,rfl,trivial⟩ rfl rfl (r_end (q_block (q_then (w_seq (w_R ?_)))))
  refine qo hnt rfl (s_load_ptr tab_37 rfl rfl rfl (Nat.le_of_ble_eq_true rfl) ?_)
  refine qo hnt rfl (s_store_ptr tab_37 rfl rfl rfl rfl rfl (Nat.le_of_ble_eq_true rfl) ?_)
  refine r_set [(2,PV.ptr 1 0)] [(1,.obj [pI e1,pI (tNext L (tStep L a 12) 70),pI 0,pI 0,pI 0,pNil,PV.ref 3 0 none,p16 0,p16 0]),(2,.obj [pI e1,pI (tNext L (tStep L a 12) 70),pI 0,pI 0,pI 0,pNil,PV.ref 3 0 none,p16 0,p16 0]),(3,oB true 1 enc16 [u16I (tNext L (tStep L (tStep L a 12) 70) 65536)]),(0,.obj [pS 1 false encI L,pN (tStep L (tStep L (tStep L a 12) 70) 65536)])] 4 ⟨rfl,trivial⟩ rfl rfl (r_end (q_then (w_frzC (n := 1) (j := 6) rfl rfl rfl rfl (w_leO (n := 1) (ds := [pI e1,pI (tNext L (tStep L a 12) 70),pI 0,pI 0,pI 0,pS 1 false encBo [],pS 1 false enc16 [u16I (tNext L (tStep L (tStep L a 12) 70) 65536)],p16 0,p16 0]) rfl ⟨le_refl _,le_refl _,le_refl _,le_refl _,le_refl _,le_nilS 1 false,le_refl _,le_refl _,le_refl _,trivial⟩ (w_ret ?_)))))
  have hex : rightR (⟨e1,tNext L (tStep L a 12) 70,0,0,0,[],[u16I (tNext L (tStep L (tStep L a 12) 70) 65536)],0,0⟩ : TRequest) = 0 ∧ (⟨e1,tNext L (tStep L a 12) 70,0,0,0,[],[u16I (tNext L (tStep L (tStep L a 12) 70) 65536)],0,0⟩ : TRequest).bits.length ≤ 25 ∧ (⟨e1,tNext L (tStep L a 12) 70,0,0,0,[],[u16I (tNext L (tStep L (tStep L a 12) 70) 65536)],0,0⟩ : TRequest).vals.length ≤ 25 ∧ 0 ≤ (⟨e1,tNext L (tStep L a 12) 70,0,0,0,[],[u16I (tNext L (tStep L (tStep L a 12) 70) 65536)],0,0⟩ : TRequest).count ∧ (⟨e1,tNext L (tStep L a 12) 70,0,0,0,[],[u16I (tNext L (tStep L (tStep L a 12) 70) 65536)],0,0⟩ : TRequest).count ≤ 25 := by
    refine ⟨(shapeR_iff (q := _) hfn).2 ?_,by simp; try omega,by simp; try omega,by simp; try omega,by simp; try omega⟩
    constructor
    case bits => simp only; (rw [if_neg (by omega),if_neg (by omega)]; rfl)
    case vals => simp only; (rw [if_pos (by omega)]; rfl)
    all_goals first|(intro _; rfl)|(intro _; exact ⟨rfl,rfl⟩)|(simp only; omega)
  exact fin_names (nx1 := 1) (H1 := [(0,.obj [pS 1 false encI L,pN (tStep L (tStep L (tStep L a 12) 70) 65536)])]) [(0,0)] (ret_cell tab_37 (by decide) rfl rfl (Nat.le_of_ble_eq_true rfl) rfl ret_nil) rfl (by decide) ⟨⟨_,_,rfl,rfl,rfl,rfl⟩,trivial⟩ (by decide) rfl ⟨((⟨e1,tNext L (tStep L a 12) 70,0,0,0,[],[u16I (tNext L (tStep L (tStep L a 12) 70) 65536)],0,0⟩ : TRequest)),(tStep L (tStep L (tStep L a 12) 70) 65536),hex,rfl,rfl,rfl⟩
 try simp only [sB] at c6
 refine w_seq (w_R (qo hnt rfl (s_eql rfl rfl ?_)))
 refine qa hnt rfl rfl (r_end (q_then (w_if rfl (fun c7 => ?_) (fun c7 => ?_))))
 ·try simp only [sB] at c7
  have h8 := tNext_lt L (tStep L (tStep L a 12) 70) (n := 8) (by decide)
  have h4 := tNext_lt L (tStep L (tStep L (tStep L a 12) 70) 8) (n := 4) (by decide)
  refine W_drawn tabOk mixed hnt [[],[],[1],[0,1,2],[0,1,2,3],[],[],[1,2,6],[1,2,5,6,7],[1,2,5,6,7,8],[1,2,5,6,7,8,9],[0,1,2,3,4],[0,1,2,3,4,6,7,11],(.range 13),(.range 14)] (by kernel_rfl) (d_op (xT [] [] [] [(3,oB true 1 encI ([0,10,11,12,13,14,2,300] : List Int))] [(0,.obj [pS 1 false encI L,pN (tStep L (tStep L a 12) 70)]),(1,.obj [pI 0,pI 0,pI 0,pI 0,pI 0,pNil,pNil,p16 0,p16 0]),(2,.obj [pI e1,pI 0,pI 0,pI 0,pI 0,pNil,pNil,p16 0,p16 0])] rfl rfl rfl rfl rfl (s_mkM (f := encI) ([0,10,11,12,13,14,2,300] : List Int) tab_28 rfl tab_3 ⟨rfl,by decide⟩ (by decide) rfl rfl rfl rfl ⟨rfl,rfl,rfl⟩) rfl rfl (d_op (x_run0 [(0,PV.ptr 0 0)] [] rfl rfl rfl rfl (s_move rfl ⟨rfl,rfl,rfl⟩) (d_op ?_)))))
  refine xT [(49,PV.ptr 0 0)] [1] [(0,.obj [pS 1 false encI L,pN (tStep L (tStep L a 12) 70)])] [(0,.obj [pS 1 false encI L,pN (tStep L (tStep L (tStep L a 12) 70) 8)])] [(3,oB true 1 encI ([0,10,11,12,13,14,2,300] : List Int)),(1,.obj [pI 0,pI 0,pI 0,pI 0,pI 0,pNil,pNil,p16 0,p16 0]),(2,.obj [pI e1,pI 0,pI 0,pI 0,pI 0,pNil,pNil,p16 0,p16 0])] rfl rfl rfl rfl rfl (s_callX (r2 := pI (tNext L (tStep L (tStep L a 12) 70) 8)) (nx1 := 4) (H2 := [(0,.obj [pS 1 false encI L,pN (tStep L (tStep L a 12) 70)])]) (H3 := [(0,.obj [pS 1 false encI L,pN (tStep L (tStep L (tStep L a 12) 70) 8)])]) [0] [.obj [pS 1 false encI L,pN (tStep L (tStep L a 12) 70)]] rfl rfl rfl (handed_of (by decide) ⟨rfl,trivial⟩) rfl rfl rfl rfl rfl rfl (w_burgagekeep_Tape_Next L false (tStep L (tStep L a 12) 70) 8 (by omega) (by omega)) rfl (dist_of rfl) rfl rfl rfl rfl ⟨rfl,rfl,rfl⟩) rfl rfl (d_op (xL [(48,PV.ref 3 0 none),(50,pI (tNext L (tStep L (tStep L a 12) 70) 8))] [0,1,2] [(3,oB true 1 encI ([0,10,11,12,13,14,2,300] : List Int))] rfl rfl rfl rfl rfl (s_iaR0 (q := Int.toNat (tNext L (tStep L (tStep L a 12) 70) 8)) (f := encI) (l := ([0,10,11,12,13,14,2,300] : List Int)) tab_28 rfl tab_3 rfl rfl (by omega) rfl rfl (by simp; omega) ⟨rfl,rfl,rfl⟩) ⟨rfl,trivial⟩ rfl (d_op ?_)))
  obtain ⟨e2,he2⟩ := get_of_lt ([0,10,11,12,13,14,2,300] : List Int) (i := Int.toNat (tNext L (tStep L (tStep L a 12) 70) 8)) (by simp; omega)
  refine xL [(51,PV.ep 3 (Int.toNat (tNext L (tStep L (tStep L a 12) 70) 8)) 0)] [0,1,2,3] [(3,oB true 1 encI ([0,10,11,12,13,14,2,300] : List Int))] rfl rfl rfl rfl rfl (s_ldM (b := e2) (f := encI) tab_3 rfl rfl rfl rfl he2 rfl ⟨rfl,rfl,rfl⟩) ⟨rfl,trivial⟩ rfl ?_
  have hm2 := List.mem_of_getElem? he2
  simp only [List.mem_cons,List.not_mem_nil,or_false] at hm2
  refine d_op (xT [] [] [] [(4,oB true 1 enc16 ([0,0,0,777] : List UInt16))] [(0,.obj [pS 1 false encI L,pN (tStep L (tStep L (tStep L a 12) 70) 8)]),(3,oB true 1 encI ([0,10,11,12,13,14,2,300] : List Int)),(1,.obj [pI 0,pI 0,pI 0,pI 0,pI 0,pNil,pNil,p16 0,p16 0]),(2,.obj [pI e1,pI 0,pI 0,pI 0,pI 0,pNil,pNil,p16 0,p16 0])] rfl rfl rfl rfl rfl (s_mkM (f := enc16) ([0,0,0,777] : List UInt16) tab_34 rfl tab_35 ⟨rfl,by decide⟩ (by decide) rfl rfl rfl rfl ⟨rfl,rfl,rfl⟩) rfl rfl (d_op (x_run0 [(0,PV.ptr 0 0)] [] rfl rfl rfl rfl (s_move rfl ⟨rfl,rfl,rfl⟩) (d_op (xT [(54,PV.ptr 0 0)] [1,2,6] [(0,.obj [pS 1 false encI L,pN (tStep L (tStep L (tStep L a 12) 70) 8)])] [(0,.obj [pS 1 false encI L,pN (tStep L (tStep L (tStep L (tStep L a 12) 70) 8) 4)])] [(4,oB true 1 enc16 ([0,0,0,777] : List UInt16)),(3,oB true 1 encI ([0,10,11,12,13,14,2,300] : List Int)),(1,.obj [pI 0,pI 0,pI 0,pI 0,pI 0,pNil,pNil,p16 0,p16 0]),(2,.obj [pI e1,pI 0,pI 0,pI 0,pI 0,pNil,pNil,p16 0,p16 0])] rfl rfl rfl rfl rfl (s_callX (r2 := pI (tNext L (tStep L (tStep L (tStep L a 12) 70) 8) 4)) (nx1 := 5) (H2 := [(0,.obj [pS 1 false encI L,pN (tStep L (tStep L (tStep L a 12) 70) 8)])]) (H3 := [(0,.obj [pS 1 false encI L,pN (tStep L (tStep L (tStep L (tStep L a 12) 70) 8) 4)])]) [0] [.obj [pS 1 false encI L,pN (tStep L (tStep L (tStep L a 12) 70) 8)]] rfl rfl rfl (handed_of (by decide) ⟨rfl,trivial⟩) rfl rfl rfl rfl rfl rfl (w_burgagekeep_Tape_Next L false (tStep L (tStep L (tStep L a 12) 70) 8) 4 (by omega) (by omega)) rfl (dist_of rfl) rfl rfl rfl rfl ⟨rfl,rfl,rfl⟩) rfl rfl ?_)))))
  refine d_op (xL [(53,PV.ref 4 0 none),(55,pI (tNext L (tStep L (tStep L (tStep L a 12) 70) 8) 4))] [1,2,5,6,7] [(4,oB true 1 enc16 ([0,0,0,777] : List UInt16))] rfl rfl rfl rfl rfl (s_iaR0 (q := Int.toNat (tNext L (tStep L (tStep L (tStep L a 12) 70) 8) 4)) (f := enc16) (l := ([0,0,0,777] : List UInt16)) tab_34 rfl tab_35 rfl rfl (by omega) rfl rfl (by simp; omega) ⟨rfl,rfl,rfl⟩) ⟨rfl,trivial⟩ rfl (d_op ?_))
  obtain ⟨e3,he3⟩ := get_of_lt ([0,0,0,777] : List UInt16) (i := Int.toNat (tNext L (tStep L (tStep L (tStep L a 12) 70) 8) 4)) (by simp; omega)
  refine xL [(56,PV.ep 4 (Int.toNat (tNext L (tStep L (tStep L (tStep L a 12) 70) 8) 4)) 0)] [1,2,5,6,7,8] [(4,oB true 1 enc16 ([0,0,0,777] : List UInt16))] rfl rfl rfl rfl rfl (s_ldM (b := e3) (f := enc16) tab_35 rfl rfl rfl rfl he3 rfl ⟨rfl,rfl,rfl⟩) ⟨rfl,trivial⟩ rfl (d_op (xT [(57,p16 e3)] [1,2,5,6,7,8,9] [] [(5,oB true 1 enc16 [e3])] [(0,.obj [pS 1 false encI L,pN (tStep L (tStep L (tStep L (tStep L a 12) 70) 8) 4)]),(4,oB true 1 enc16 ([0,0,0,777] : List UInt16)),(3,oB true 1 encI ([0,10,11,12,13,14,2,300] : List Int)),(1,.obj [pI 0,pI 0,pI 0,pI 0,pI 0,pNil,pNil,p16 0,p16 0]),(2,.obj [pI e1,pI 0,pI 0,pI 0,pI 0,pNil,pNil,p16 0,p16 0])] rfl rfl rfl rfl rfl (s_mkM (f := enc16) [e3] tab_34 rfl tab_35 ⟨rfl,by decide⟩ (by decide) rfl rfl rfl rfl ⟨rfl,rfl,rfl⟩) rfl rfl (d_op (x_run0 [(3,PV.ptr 2 0)] [0,1,2,3,4] rfl rfl rfl rfl (s_fa_ptr tab_37 rfl rfl tab_3 (by decide) rfl ⟨rfl,rfl,rfl⟩) (d_op ?_)))))
  refine xT [(59,PV.ptr 2 4),(52,pI e2)] [0,1,2,3,4,6,7,11] [(2,.obj [pI e1,pI 0,pI 0,pI 0,pI 0,pNil,pNil,p16 0,p16 0])] [(2,.obj [pI e1,pI 0,pI 0,pI 0,pI e2,pNil,pNil,p16 0,p16 0])] [(5,oB true 1 enc16 [e3]),(0,.obj [pS 1 false encI L,pN (tStep L (tStep L (tStep L (tStep L a 12) 70) 8) 4)]),(4,oB true 1 enc16 ([0,0,0,777] : List UInt16)),(3,oB true 1 encI ([0,10,11,12,13,14,2,300] : List Int)),(1,.obj [pI 0,pI 0,pI 0,pI 0,pI 0,pNil,pNil,p16 0,p16 0])] rfl rfl rfl rfl rfl (s_store_ptr tab_3 rfl rfl rfl rfl rfl (Nat.le_of_ble_eq_true rfl) ⟨rfl,rfl,rfl⟩) rfl rfl (d_op (x_run0 [(3,PV.ptr 2 0)] (.range 13) rfl rfl rfl rfl (s_fa_ptr tab_37 rfl rfl tab_34 (by decide) rfl ⟨rfl,rfl,rfl⟩) (d_op (xT [(60,PV.ptr 2 6),(58,PV.ref 5 0 none)] (.range 14) [(2,.obj [pI e1,pI 0,pI 0,pI 0,pI e2,pNil,pNil,p16 0,p16 0])] [(2,.obj [pI e1,pI 0,pI 0,pI 0,pI e2,pNil,PV.ref 5 0 none,p16 0,p16 0])] [(5,oB true 1 enc16 [e3]),(0,.obj [pS 1 false encI L,pN (tStep L (tStep L (tStep L (tStep L a 12) 70) 8) 4)]),(4,oB true 1 enc16 ([0,0,0,777] : List UInt16)),(3,oB true 1 encI ([0,10,11,12,13,14,2,300] : List Int)),(1,.obj [pI 0,pI 0,pI 0,pI 0,pI 0,pNil,pNil,p16 0,p16 0])] rfl rfl rfl rfl rfl (s_store_ptr tab_34 rfl rfl rfl rfl rfl (Nat.le_of_ble_eq_true rfl) ⟨rfl,rfl,rfl⟩) rfl rfl (d_end ⟨by kernel_rfl, ?_⟩)))))
  refine q_block (q_then (w_seq (w_R (qo hnt rfl (s_load_ptr tab_37 rfl rfl rfl (Nat.le_of_ble_eq_true rfl) ?_)))))
  refine qo hnt rfl (s_store_ptr tab_37 rfl rfl rfl rfl rfl (Nat.le_of_ble_eq_true rfl) ?_)
  refine r_set [(2,PV.ptr 1 0)] [(1,.obj [pI e1,pI 0,pI 0,pI 0,pI e2,pNil,PV.ref 5 0 none,p16 0,p16 0]),(2,.obj [pI e1,pI 0,pI 0,pI 0,pI e2,pNil,PV.ref 5 0 none,p16 0,p16 0]),(5,oB true 1 enc16 [e3]),(0,.obj [pS 1 false encI L,pN (tStep L (tStep L (tStep L (tStep L a 12) 70) 8) 4)]),(4,oB true 1 enc16 ([0,0,0,777] : List UInt16)),(3,oB true 1 encI ([0,10,11,12,13,14,2,300] : List Int))] 6 ⟨rfl,trivial⟩ rfl rfl (r_end (q_then (w_frzC (n := 1) (j := 6) rfl rfl rfl rfl (w_leO (n := 1) (ds := [pI e1,pI 0,pI 0,pI 0,pI e2,pS 1 false encBo [],pS 1 false enc16 [e3],p16 0,p16 0]) rfl ⟨le_refl _,le_refl _,le_refl _,le_refl _,le_refl _,le_nilS 1 false,le_refl _,le_refl _,le_refl _,trivial⟩ (w_ret ?_)))))
  have hex : rightR (⟨e1,0,0,0,e2,[],[e3],0,0⟩ : TRequest) = 0 ∧ (⟨e1,0,0,0,e2,[],[e3],0,0⟩ : TRequest).bits.length ≤ 25 ∧ (⟨e1,0,0,0,e2,[],[e3],0,0⟩ : TRequest).vals.length ≤ 25 ∧ 0 ≤ (⟨e1,0,0,0,e2,[],[e3],0,0⟩ : TRequest).count ∧ (⟨e1,0,0,0,e2,[],[e3],0,0⟩ : TRequest).count ≤ 25 := by
    refine ⟨(shapeR_iff (q := _) hfn).2 ?_,by simp; try omega,by simp; try omega,by simp; try omega,by simp; try omega⟩
    constructor
    case bits => simp only; (rw [if_neg (by omega),if_neg (by omega)]; rfl)
    case vals => simp only; (rw [if_pos (by omega)]; rfl)
    all_goals first|(intro _; rfl)|(intro _; exact ⟨rfl,rfl⟩)|(simp only; omega)
  exact fin_names (nx1 := 1) (H1 := [(0,.obj [pS 1 false encI L,pN (tStep L (tStep L (tStep L (tStep L a 12) 70) 8) 4)])]) [(0,0)] (ret_cell tab_37 (by decide) rfl rfl (Nat.le_of_ble_eq_true rfl) rfl ret_nil) rfl (by decide) ⟨⟨_,_,rfl,rfl,rfl,rfl⟩,trivial⟩ (by decide) rfl ⟨((⟨e1,0,0,0,e2,[],[e3],0,0⟩ : TRequest)),(tStep L (tStep L (tStep L (tStep L a 12) 70) 8) 4),hex,rfl,rfl,rfl⟩
 try simp only [sB] at c7
 refine w_seq (w_R (qo hnt rfl (s_eql rfl rfl ?_)))
 refine qa hnt rfl rfl (r_end (q_then (w_if rfl (fun c8 => ?_) (fun c8 => ?_))))
 ·try simp only [sB] at c8
  refine w_seq ?_
  have h26 := tNext_lt L (tStep L (tStep L a 12) 70) (n := 26) (by decide)
  refine w_R (qm hnt rfl rfl (qm hnt rfl rfl (qo hnt rfl (s_callX (r2 := pI (tNext L (tStep L (tStep L a 12) 70) 26)) (nx1 := 3) (H2 := [(0,.obj [pS 1 false encI L,pN (tStep L (tStep L a 12) 70)]),(1,.obj [pI 0,pI 0,pI 0,pI 0,pI 0,pNil,pNil,p16 0,p16 0]),(2,.obj [pI e1,pI 0,pI 0,pI 0,pI 0,pNil,pNil,p16 0,p16 0])]) (H3 := [(0,.obj [pS 1 false encI L,pN (tStep L (tStep L (tStep L a 12) 70) 26)]),(1,.obj [pI 0,pI 0,pI 0,pI 0,pI 0,pNil,pNil,p16 0,p16 0]),(2,.obj [pI e1,pI 0,pI 0,pI 0,pI 0,pNil,pNil,p16 0,p16 0])]) [0] [.obj [pS 1 false encI L,pN (tStep L (tStep L a 12) 70)]] rfl rfl rfl (handed_of (by decide) ⟨rfl,trivial⟩) rfl rfl rfl rfl rfl rfl (w_burgagekeep_Tape_Next L false (tStep L (tStep L a 12) 70) 26 (by omega) (by omega)) rfl (dist_of rfl) rfl rfl rfl rfl ?_))))
  refine qo hnt rfl (s_fa_ptr tab_37 rfl rfl tab_3 (by decide) rfl ?_)
  refine qo hnt rfl (s_store_ptr tab_3 rfl rfl rfl rfl rfl (Nat.le_of_ble_eq_true rfl) ?_)
  refine qo hnt rfl (s_fa_ptr tab_37 rfl rfl tab_3 (by decide) rfl ?_)
  refine qo hnt rfl (s_store_ptr tab_3 rfl rfl rfl rfl rfl (Nat.le_of_ble_eq_true rfl) ?_)
  refine r_set [(0,PV.ptr 0 0),(2,PV.ptr 1 0),(3,PV.ptr 2 0)] [(2,.obj [pI e1,pI (tNext L (tStep L a 12) 70),pI (tNext L (tStep L (tStep L a 12) 70) 26),pI 0,pI 0,pNil,pNil,p16 0,p16 0]),(0,.obj [pS 1 false encI L,pN (tStep L (tStep L (tStep L a 12) 70) 26)]),(1,.obj [pI 0,pI 0,pI 0,pI 0,pI 0,pNil,pNil,p16 0,p16 0])] 3 ⟨rfl,rfl,rfl,trivial⟩ rfl rfl (r_end (q_then (w_seq (w_R (qa hnt rfl rfl ?_)))))
  refine r_end (q_then (w_block (w_adoptC (n := 2) (j := 5) (sz := 1) rfl rfl rfl (loop3 (fun (ap : Nat) (os : List Bool) (i : Nat) => (i : Int) ≤ tNext L (tStep L (tStep L a 12) 70) 26 ∧ os.length = i) (fun (ap : Nat) (os : List Bool) (i : Nat) => [(0,PV.ptr 0 0),(2,PV.ptr 3 0),(3,PV.ptr 1 0),(5,pN i)]) 4 (fun (ap : Nat) (os : List Bool) (i : Nat) => [(0,.obj [pS 1 false encI L,pN ap]),(1,.obj [pI e1,pI (tNext L (tStep L a 12) 70),pI (tNext L (tStep L (tStep L a 12) 70) 26),pI 0,pI 0,PV.ref 2 0 none,pNil,p16 0,p16 0]),(2,oB true 1 encBo os),(3,.obj [pI 0,pI 0,pI 0,pI 0,pI 0,pNil,pNil,p16 0,p16 0])]) (fun (ap : Nat) (os : List Bool) (i : Nat) => (tNext L (tStep L (tStep L a 12) 70) 26).toNat - i) (tStep L (tStep L (tStep L a 12) 70) 26) (([] : List Bool)) (0) ?_ ⟨[(0,0),(1,2),(2,3),(3,1)],by rw [hk]; decide,⟨⟨_,rfl,rfl,rfl⟩,⟨_,rfl,rfl,rfl⟩,⟨_,rfl,rfl,rfl⟩,⟨_,rfl,rfl,rfl⟩,trivial⟩,⟨⟨_,_,rfl,rfl,rfl,rfl⟩,⟨_,_,rfl,rfl,rfl,rfl⟩,⟨_,_,rfl,rfl,rfl,rfl⟩,⟨_,_,rfl,rfl,rfl,rfl⟩,trivial⟩,by rw [hk]; decide⟩ ?_))))
  · exact ⟨by omega,rfl⟩
  ·intro ap os i hI
   obtain ⟨hi,hol⟩ := hI
   refine w_seq (w_seq (w_R (qm hnt rfl rfl (qo hnt rfl (s_fa_ptr tab_37 rfl rfl tab_3 (by decide) rfl ?_)))))
   refine qo hnt rfl (s_load_ptr1 tab_3 rfl rfl rfl rfl rfl ?_)
   refine qo hnt rfl (s_lss rfl rfl ?_)
   refine r_end (q_then (w_if rfl (fun c9 => ?_) (fun c9 => ?_)))
   ·try simp only [sB] at c9
    refine w_skip (q_then (w_seq (w_block (W_drawn tabOk mixed hnt [[],[0],[],[2],[2,3],[2,3,4],[0,1,2,3,4,5],[0,1,2,3,4,5,6],(.range 8)] (by kernel_rfl) (d_op ?_)))))
    refine x_run0 [(3,PV.ptr 1 0)] [] rfl rfl rfl rfl (s_fa_ptr tab_37 rfl rfl tab_33 (by decide) rfl ⟨rfl,rfl,rfl⟩) (d_op (xL [(74,PV.ptr 1 5)] [0] [(1,.obj [pI e1,pI (tNext L (tStep L a 12) 70),pI (tNext L (tStep L (tStep L a 12) 70) 26),pI 0,pI 0,PV.ref 2 0 none,pNil,p16 0,p16 0])] rfl rfl rfl rfl rfl (s_load_ptr1 tab_33 rfl rfl rfl rfl rfl ⟨rfl,rfl,rfl⟩) ⟨rfl,trivial⟩ rfl (d_op (x_run0 [(0,PV.ptr 0 0)] [] rfl rfl rfl rfl (s_move rfl ⟨rfl,rfl,rfl⟩) (d_op ?_)))))
    refine xT [(76,PV.ptr 0 0)] [2] [(0,.obj [pS 1 false encI L,pN ap])] [(0,.obj [pS 1 false encI L,pN (tStep L ap 2)])] [(1,.obj [pI e1,pI (tNext L (tStep L a 12) 70),pI (tNext L (tStep L (tStep L a 12) 70) 26),pI 0,pI 0,PV.ref 2 0 none,pNil,p16 0,p16 0]),(2,oB true 1 encBo os),(3,.obj [pI 0,pI 0,pI 0,pI 0,pI 0,pNil,pNil,p16 0,p16 0])] rfl rfl rfl rfl rfl (s_callX (r2 := pI (tNext L ap 2)) (nx1 := 4) (H2 := [(0,.obj [pS 1 false encI L,pN ap])]) (H3 := [(0,.obj [pS 1 false encI L,pN (tStep L ap 2)])]) [0] [.obj [pS 1 false encI L,pN ap]] rfl rfl rfl (handed_of (by decide) ⟨rfl,trivial⟩) rfl rfl rfl rfl rfl rfl (w_burgagekeep_Tape_Next L false ap 2 (by omega) (by omega)) rfl (dist_of rfl) rfl rfl rfl rfl ⟨rfl,rfl,rfl⟩) rfl rfl (d_op (x_run0 [(77,pI (tNext L ap 2))] [2,3] rfl rfl rfl rfl (s_eql rfl rfl ⟨rfl,rfl,rfl⟩) (d_op (xT [(78,pB (decide (tNext L ap 2 = 1)))] [2,3,4] [] [(4,oB true 1 encBo [decide (tNext L ap 2 = 1)])] [(0,.obj [pS 1 false encI L,pN (tStep L ap 2)]),(1,.obj [pI e1,pI (tNext L (tStep L a 12) 70),pI (tNext L (tStep L (tStep L a 12) 70) 26),pI 0,pI 0,PV.ref 2 0 none,pNil,p16 0,p16 0]),(2,oB true 1 encBo os),(3,.obj [pI 0,pI 0,pI 0,pI 0,pI 0,pNil,pNil,p16 0,p16 0])] rfl rfl rfl rfl rfl (s_mkM (f := encBo) [decide (tNext L ap 2 = 1)] tab_33 rfl tab_4 ⟨rfl,by decide⟩ (by decide) rfl rfl rfl rfl ⟨rfl,rfl,rfl⟩) rfl rfl (d_op ?_)))))
    refine x_run [(75,PV.ref 2 0 none),(79,PV.ref 4 0 none)] [0,1,2,3,4,5] [(4,oB true 1 encBo [decide (tNext L ap 2 = 1)])] [(2,oB true 1 encBo os)] [(5,oB true 1 encBo (os ++ [decide (tNext L ap 2 = 1)])),(4,oB true 1 encBo [decide (tNext L ap 2 = 1)])] [(5,oB true 1 encBo (os ++ [decide (tNext L ap 2 = 1)]))] [(5,oB true 1 encBo (os ++ [decide (tNext L ap 2 = 1)])),(4,oB true 1 encBo [decide (tNext L ap 2 = 1)]),(0,.obj [pS 1 false encI L,pN (tStep L ap 2)]),(1,.obj [pI e1,pI (tNext L (tStep L a 12) 70),pI (tNext L (tStep L (tStep L a 12) 70) 26),pI 0,pI 0,PV.ref 2 0 none,pNil,p16 0,p16 0]),(3,.obj [pI 0,pI 0,pI 0,pI 0,pI 0,pNil,pNil,p16 0,p16 0])] rfl rfl rfl rfl rfl rfl (s_appR0 (f := encBo) (l := os) (xs := [decide (tNext L ap 2 = 1)]) tab_33 rfl tab_4 ⟨rfl,by decide,by decide⟩ (srcM tab_33 rfl (hM_ref0 (f := encBo) rfl rfl)) rfl rfl (by (simp; omega)) ⟨rfl,rfl,rfl⟩) rfl ⟨rfl,trivial⟩ rfl rfl (d_op (x_run0 [(3,PV.ptr 1 0)] [0,1,2,3,4,5,6] rfl rfl rfl rfl (s_fa_ptr tab_37 rfl rfl tab_33 (by decide) rfl ⟨rfl,rfl,rfl⟩) (d_op (xT [(81,PV.ptr 1 5),(80,PV.ref 5 0 none)] (.range 8) [(1,.obj [pI e1,pI (tNext L (tStep L a 12) 70),pI (tNext L (tStep L (tStep L a 12) 70) 26),pI 0,pI 0,PV.ref 2 0 none,pNil,p16 0,p16 0])] [(1,.obj [pI e1,pI (tNext L (tStep L a 12) 70),pI (tNext L (tStep L (tStep L a 12) 70) 26),pI 0,pI 0,PV.ref 5 0 none,pNil,p16 0,p16 0])] [(5,oB true 1 encBo (os ++ [decide (tNext L ap 2 = 1)])),(4,oB true 1 encBo [decide (tNext L ap 2 = 1)]),(0,.obj [pS 1 false encI L,pN (tStep L ap 2)]),(3,.obj [pI 0,pI 0,pI 0,pI 0,pI 0,pNil,pNil,p16 0,p16 0])] rfl rfl rfl rfl rfl (s_store_ptr tab_33 rfl rfl rfl rfl rfl (Nat.le_of_ble_eq_true rfl) ⟨rfl,rfl,rfl⟩) rfl rfl (d_end ⟨by kernel_rfl, ?_⟩)))))
    refine q_block (q_then (w_R (qm hnt rfl rfl (qo hnt rfl (s_addN (a := i) (b := 1) rfl rfl (by omega) (by omega) (by omega) ?_)))))
    refine qa hnt rfl rfl (r_end (q_then (⟨(tStep L ap 2),(os ++ [decide (tNext L ap 2 = 1)]),(i + 1), ?_, ?_,⟨[(0,0),(1,1),(2,5),(3,3)],by rw [hk]; decide,⟨⟨_,rfl,rfl,rfl⟩,⟨_,rfl,rfl,rfl⟩,⟨_,rfl,rfl,rfl⟩,⟨_,rfl,rfl,rfl⟩,trivial⟩,⟨⟨_,_,rfl,rfl,rfl,rfl⟩,⟨_,_,rfl,rfl,rfl,rfl⟩,⟨_,_,rfl,rfl,rfl,rfl⟩,⟨_,_,rfl,rfl,rfl,rfl⟩,trivial⟩,by rw [hk]; decide⟩⟩)))
    ·exact ⟨by omega,by simp [hol]⟩
    · omega
   try simp only [sB] at c9
   refine w_exit (q_then_exit (q_then_exit (q_block_exit (q_block (q_then ?_)))))
   refine w_seq (w_R (qo hnt rfl (s_load_ptr tab_37 rfl rfl rfl (Nat.le_of_ble_eq_true rfl) ?_)))
   refine qo hnt rfl (s_store_ptr tab_37 rfl rfl rfl rfl rfl (Nat.le_of_ble_eq_true rfl) ?_)
   refine r_set [(2,PV.ptr 3 0)] [(3,.obj [pI e1,pI (tNext L (tStep L a 12) 70),pI (tNext L (tStep L (tStep L a 12) 70) 26),pI 0,pI 0,PV.ref 2 0 none,pNil,p16 0,p16 0]),(0,.obj [pS 1 false encI L,pN ap]),(1,.obj [pI e1,pI (tNext L (tStep L a 12) 70),pI (tNext L (tStep L (tStep L a 12) 70) 26),pI 0,pI 0,PV.ref 2 0 none,pNil,p16 0,p16 0]),(2,oB true 1 encBo os)] 4 ⟨rfl,trivial⟩ rfl rfl (r_end (q_then (w_frzC (n := 3) (j := 5) rfl rfl rfl rfl (w_leO (n := 3) (ds := [pI e1,pI (tNext L (tStep L a 12) 70),pI (tNext L (tStep L (tStep L a 12) 70) 26),pI 0,pI 0,pS 1 false encBo os,pS 1 false enc16 [],p16 0,p16 0]) rfl ⟨le_refl _,le_refl _,le_refl _,le_refl _,le_refl _,le_refl _,le_nilS 1 false,le_refl _,le_refl _,trivial⟩ (w_ret ?_)))))
   have hex : rightR (⟨e1,tNext L (tStep L a 12) 70,tNext L (tStep L (tStep L a 12) 70) 26,0,0,os,[],0,0⟩ : TRequest) = 0 ∧ (⟨e1,tNext L (tStep L a 12) 70,tNext L (tStep L (tStep L a 12) 70) 26,0,0,os,[],0,0⟩ : TRequest).bits.length ≤ 25 ∧ (⟨e1,tNext L (tStep L a 12) 70,tNext L (tStep L (tStep L a 12) 70) 26,0,0,os,[],0,0⟩ : TRequest).vals.length ≤ 25 ∧ 0 ≤ (⟨e1,tNext L (tStep L a 12) 70,tNext L (tStep L (tStep L a 12) 70) 26,0,0,os,[],0,0⟩ : TRequest).count ∧ (⟨e1,tNext L (tStep L a 12) 70,tNext L (tStep L (tStep L a 12) 70) 26,0,0,os,[],0,0⟩ : TRequest).count ≤ 25 := by
     refine ⟨(shapeR_iff (q := _) hfn).2 ?_,by simp; try omega,by simp; try omega,by simp; try omega,by simp; try omega⟩
     constructor
     case bits => simp only; (rw [if_neg (by omega),if_pos (by omega)]; exact ⟨by omega,by omega⟩)
     case vals => simp only; (rw [if_neg (by omega),if_neg (by omega),if_neg (by omega)]; rfl)
     all_goals first|(intro _; rfl)|(intro _; exact ⟨rfl,rfl⟩)|(simp only; omega)
   exact fin_names (nx1 := 1) (H1 := [(0,.obj [pS 1 false encI L,pN ap])]) [(0,0)] (ret_cell tab_37 (by decide) rfl rfl (Nat.le_of_ble_eq_true rfl) rfl ret_nil) rfl (by decide) ⟨⟨_,_,rfl,rfl,rfl,rfl⟩,trivial⟩ (by decide) rfl ⟨((⟨e1,tNext L (tStep L a 12) 70,tNext L (tStep L (tStep L a 12) 70) 26,0,0,os,[],0,0⟩ : TRequest)),(ap),hex,rfl,rfl,rfl⟩
 try simp only [sB] at c8
 refine w_seq (w_R (qo hnt rfl (s_eql rfl rfl ?_)))
 refine qa hnt rfl rfl (r_end (q_then (w_if rfl (fun c10 => ?_) (fun c10 => ?_))))
 ·try simp only [sB] at c10
  refine w_seq ?_
  have h26 := tNext_lt L (tStep L (tStep L a 12) 70) (n := 26) (by decide)
  refine w_R (qm hnt rfl rfl (qm hnt rfl rfl (qo hnt rfl (s_callX (r2 := pI (tNext L (tStep L (tStep L a 12) 70) 26)) (nx1 := 3) (H2 := [(0,.obj [pS 1 false encI L,pN (tStep L (tStep L a 12) 70)]),(1,.obj [pI 0,pI 0,pI 0,pI 0,pI 0,pNil,pNil,p16 0,p16 0]),(2,.obj [pI e1,pI 0,pI 0,pI 0,pI 0,pNil,pNil,p16 0,p16 0])]) (H3 := [(0,.obj [pS 1 false encI L,pN (tStep L (tStep L (tStep L a 12) 70) 26)]),(1,.obj [pI 0,pI 0,pI 0,pI 0,pI 0,pNil,pNil,p16 0,p16 0]),(2,.obj [pI e1,pI 0,pI 0,pI 0,pI 0,pNil,pNil,p16 0,p16 0])]) [0] [.obj [pS 1 false encI L,pN (tStep L (tStep L a 12) 70)]] rfl rfl rfl (handed_of (by decide) ⟨rfl,trivial⟩) rfl rfl rfl rfl rfl rfl (w_burgagekeep_Tape_Next L false (tStep L (tStep L a 12) 70) 26 (by omega) (by omega)) rfl (dist_of rfl) rfl rfl rfl rfl ?_))))
  refine qo hnt rfl (s_fa_ptr tab_37 rfl rfl tab_3 (by decide) rfl ?_)
  refine qo hnt rfl (s_store_ptr tab_3 rfl rfl rfl rfl rfl (Nat.le_of_ble_eq_true rfl) ?_)
  refine qo hnt rfl (s_fa_ptr tab_37 rfl rfl tab_3 (by decide) rfl ?_)
  refine qo hnt rfl (s_store_ptr tab_3 rfl rfl rfl rfl rfl (Nat.le_of_ble_eq_true rfl) ?_)
  refine r_set [(0,PV.ptr 0 0),(2,PV.ptr 1 0),(3,PV.ptr 2 0)] [(2,.obj [pI e1,pI (tNext L (tStep L a 12) 70),pI (tNext L (tStep L (tStep L a 12) 70) 26),pI 0,pI 0,pNil,pNil,p16 0,p16 0]),(0,.obj [pS 1 false encI L,pN (tStep L (tStep L (tStep L a 12) 70) 26)]),(1,.obj [pI 0,pI 0,pI 0,pI 0,pI 0,pNil,pNil,p16 0,p16 0])] 3 ⟨rfl,rfl,rfl,trivial⟩ rfl rfl (r_end (q_then (w_seq (w_R (qa hnt rfl rfl ?_)))))
  refine r_end (q_then (w_block (w_adoptC (n := 2) (j := 6) (sz := 1) rfl rfl rfl (loop3 (fun (ap : Nat) (os : List UInt16) (i : Nat) => (i : Int) ≤ tNext L (tStep L (tStep L a 12) 70) 26 ∧ os.length = i) (fun (ap : Nat) (os : List UInt16) (i : Nat) => [(0,PV.ptr 0 0),(2,PV.ptr 3 0),(3,PV.ptr 1 0),(6,pN i)]) 4 (fun (ap : Nat) (os : List UInt16) (i : Nat) => [(0,.obj [pS 1 false encI L,pN ap]),(1,.obj [pI e1,pI (tNext L (tStep L a 12) 70),pI (tNext L (tStep L (tStep L a 12) 70) 26),pI 0,pI 0,pNil,PV.ref 2 0 none,p16 0,p16 0]),(2,oB true 1 enc16 os),(3,.obj [pI 0,pI 0,pI 0,pI 0,pI 0,pNil,pNil,p16 0,p16 0])]) (fun (ap : Nat) (os : List UInt16) (i : Nat) => (tNext L (tStep L (tStep L a 12) 70) 26).toNat - i) (tStep L (tStep L (tStep L a 12) 70) 26) (([] : List UInt16)) (0) ?_ ⟨[(0,0),(1,2),(2,3),(3,1)],by rw [hk]; decide,⟨⟨_,rfl,rfl,rfl⟩,⟨_,rfl,rfl,rfl⟩,⟨_,rfl,rfl,rfl⟩,⟨_,rfl,rfl,rfl⟩,trivial⟩,⟨⟨_,_,rfl,rfl,rfl,rfl⟩,⟨_,_,rfl,rfl,rfl,rfl⟩,⟨_,_,rfl,rfl,rfl,rfl⟩,⟨_,_,rfl,rfl,rfl,rfl⟩,trivial⟩,by rw [hk]; decide⟩ ?_))))
  · exact ⟨by omega,rfl⟩
  ·intro ap os i hI
   obtain ⟨hi,hol⟩ := hI
   refine w_seq (w_seq (w_R (qm hnt rfl rfl (qo hnt rfl (s_fa_ptr tab_37 rfl rfl tab_3 (by decide) rfl ?_)))))
   refine qo hnt rfl (s_load_ptr1 tab_3 rfl rfl rfl rfl rfl ?_)
   refine qo hnt rfl (s_lss rfl rfl ?_)
   refine r_end (q_then (w_if rfl (fun c11 => ?_) (fun c11 => ?_)))
   ·try simp only [sB] at c11
    refine w_skip (q_then (w_seq (w_block (W_drawn tabOk mixed hnt [[],[0],[],[2],[2,3],[2,3,4],[0,1,2,3,4,5],[0,1,2,3,4,5,6],(.range 8)] (by kernel_rfl) (d_op ?_)))))
    refine x_run0 [(3,PV.ptr 1 0)] [] rfl rfl rfl rfl (s_fa_ptr tab_37 rfl rfl tab_34 (by decide) rfl ⟨rfl,rfl,rfl⟩) (d_op (xL [(95,PV.ptr 1 6)] [0] [(1,.obj [pI e1,pI (tNext L (tStep L a 12) 70),pI (tNext L (tStep L (tStep L a 12) 70) 26),pI 0,pI 0,pNil,PV.ref 2 0 none,p16 0,p16 0])] rfl rfl rfl rfl rfl (s_load_ptr1 tab_34 rfl rfl rfl rfl rfl ⟨rfl,rfl,rfl⟩) ⟨rfl,trivial⟩ rfl (d_op (x_run0 [(0,PV.ptr 0 0)] [] rfl rfl rfl rfl (s_move rfl ⟨rfl,rfl,rfl⟩) (d_op ?_)))))
    refine xT [(97,PV.ptr 0 0)] [2] [(0,.obj [pS 1 false encI L,pN ap])] [(0,.obj [pS 1 false encI L,pN (tStep L ap 65536)])] [(1,.obj [pI e1,pI (tNext L (tStep L a 12) 70),pI (tNext L (tStep L (tStep L a 12) 70) 26),pI 0,pI 0,pNil,PV.ref 2 0 none,p16 0,p16 0]),(2,oB true 1 enc16 os),(3,.obj [pI 0,pI 0,pI 0,pI 0,pI 0,pNil,pNil,p16 0,p16 0])] rfl rfl rfl rfl rfl (s_callX (r2 := pI (tNext L ap 65536)) (nx1 := 4) (H2 := [(0,.obj [pS 1 false encI L,pN ap])]) (H3 := [(0,.obj [pS 1 false encI L,pN (tStep L ap 65536)])]) [0] [.obj [pS 1 false encI L,pN ap]] rfl rfl rfl (handed_of (by decide) ⟨rfl,trivial⟩) rfl rfl rfl rfl rfl rfl (w_burgagekeep_Tape_Next L false ap 65536 (by omega) (by omega)) rfl (dist_of rfl) rfl rfl rfl rfl ⟨rfl,rfl,rfl⟩) rfl rfl (d_op (x_run0 [(98,pI (tNext L ap 65536))] [2,3] rfl rfl rfl rfl (s_cv16 tab_3 tab_35 rfl rfl rfl ⟨rfl,rfl,rfl⟩) (d_op (xT [(99,p16 (u16I (tNext L ap 65536)))] [2,3,4] [] [(4,oB true 1 enc16 [u16I (tNext L ap 65536)])] [(0,.obj [pS 1 false encI L,pN (tStep L ap 65536)]),(1,.obj [pI e1,pI (tNext L (tStep L a 12) 70),pI (tNext L (tStep L (tStep L a 12) 70) 26),pI 0,pI 0,pNil,PV.ref 2 0 none,p16 0,p16 0]),(2,oB true 1 enc16 os),(3,.obj [pI 0,pI 0,pI 0,pI 0,pI 0,pNil,pNil,p16 0,p16 0])] rfl rfl rfl rfl rfl (s_mkM (f := enc16) [u16I (tNext L ap 65536)] tab_34 rfl tab_35 ⟨rfl,by decide⟩ (by decide) rfl rfl rfl rfl ⟨rfl,rfl,rfl⟩) rfl rfl (d_op ?_)))))
    refine x_run [(96,PV.ref 2 0 none),(100,PV.ref 4 0 none)] [0,1,2,3,4,5] [(4,oB true 1 enc16 [u16I (tNext L ap 65536)])] [(2,oB true 1 enc16 os)] [(5,oB true 1 enc16 (os ++ [u16I (tNext L ap 65536)])),(4,oB true 1 enc16 [u16I (tNext L ap 65536)])] [(5,oB true 1 enc16 (os ++ [u16I (tNext L ap 65536)]))] [(5,oB true 1 enc16 (os ++ [u16I (tNext L ap 65536)])),(4,oB true 1 enc16 [u16I (tNext L ap 65536)]),(0,.obj [pS 1 false encI L,pN (tStep L ap 65536)]),(1,.obj [pI e1,pI (tNext L (tStep L a 12) 70),pI (tNext L (tStep L (tStep L a 12) 70) 26),pI 0,pI 0,pNil,PV.ref 2 0 none,p16 0,p16 0]),(3,.obj [pI 0,pI 0,pI 0,pI 0,pI 0,pNil,pNil,p16 0,p16 0])] rfl rfl rfl rfl rfl rfl (s_appR0 (f := enc16) (l := os) (xs := [u16I (tNext L ap 65536)]) tab_34 rfl tab_35 ⟨rfl,by decide,by decide⟩ (srcM tab_34 rfl (hM_ref0 (f := enc16) rfl rfl)) rfl rfl (by (simp; omega)) ⟨rfl,rfl,rfl⟩) rfl ⟨rfl,trivial⟩ rfl rfl (d_op (x_run0 [(3,PV.ptr 1 0)] [0,1,2,3,4,5,6] rfl rfl rfl rfl (s_fa_ptr tab_37 rfl rfl tab_34 (by decide) rfl ⟨rfl,rfl,rfl⟩) (d_op (xT [(102,PV.ptr 1 6),(101,PV.ref 5 0 none)] (.range 8) [(1,.obj [pI e1,pI (tNext L (tStep L a 12) 70),pI (tNext L (tStep L (tStep L a 12) 70) 26),pI 0,pI 0,pNil,PV.ref 2 0 none,p16 0,p16 0])] [(1,.obj [pI e1,pI (tNext L (tStep L a 12) 70),pI (tNext L (tStep L (tStep L a 12) 70) 26),pI 0,pI 0,pNil,PV.ref 5 0 none,p16 0,p16 0])] [(5,oB true 1 enc16 (os ++ [u16I (tNext L ap 65536)])),(4,oB true 1 enc16 [u16I (tNext L ap 65536)]),(0,.obj [pS 1 false encI L,pN (tStep L ap 65536)]),(3,.obj [pI 0,pI 0,pI 0,pI 0,pI 0,pNil,pNil,p16 0,p16 0])] rfl rfl rfl rfl rfl (s_store_ptr tab_34 rfl rfl rfl rfl rfl (Nat.le_of_ble_eq_true rfl) ⟨rfl,rfl,rfl⟩) rfl rfl (d_end ⟨by kernel_rfl, ?_⟩)))))
    refine q_block (q_then (w_R (qm hnt rfl rfl (qo hnt rfl (s_addN (a := i) (b := 1) rfl rfl (by omega) (by omega) (by omega) ?_)))))
    refine qa hnt rfl rfl (r_end (q_then (⟨(tStep L ap 65536),(os ++ [u16I (tNext L ap 65536)]),(i + 1), ?_, ?_,⟨[(0,0),(1,1),(2,5),(3,3)],by rw [hk]; decide,⟨⟨_,rfl,rfl,rfl⟩,⟨_,rfl,rfl,rfl⟩,⟨_,rfl,rfl,rfl⟩,⟨_,rfl,rfl,rfl⟩,trivial⟩,⟨⟨_,_,rfl,rfl,rfl,rfl⟩,⟨_,_,rfl,rfl,rfl,rfl⟩,⟨_,_,rfl,rfl,rfl,rfl⟩,⟨_,_,rfl,rfl,rfl,rfl⟩,trivial⟩,by rw [hk]; decide⟩⟩)))
    ·exact ⟨by omega,by simp [hol]⟩
    · omega
   try simp only [sB] at c11
   refine w_exit (q_then_exit (q_then_exit (q_block_exit (q_block (q_then ?_)))))
   refine w_seq (w_R (qo hnt rfl (s_load_ptr tab_37 rfl rfl rfl (Nat.le_of_ble_eq_true rfl) ?_)))
   refine qo hnt rfl (s_store_ptr tab_37 rfl rfl rfl rfl rfl (Nat.le_of_ble_eq_true rfl) ?_)
   refine r_set [(2,PV.ptr 3 0)] [(3,.obj [pI e1,pI (tNext L (tStep L a 12) 70),pI (tNext L (tStep L (tStep L a 12) 70) 26),pI 0,pI 0,pNil,PV.ref 2 0 none,p16 0,p16 0]),(0,.obj [pS 1 false encI L,pN ap]),(1,.obj [pI e1,pI (tNext L (tStep L a 12) 70),pI (tNext L (tStep L (tStep L a 12) 70) 26),pI 0,pI 0,pNil,PV.ref 2 0 none,p16 0,p16 0]),(2,oB true 1 enc16 os)] 4 ⟨rfl,trivial⟩ rfl rfl (r_end (q_then (w_frzC (n := 3) (j := 6) rfl rfl rfl rfl (w_leO (n := 3) (ds := [pI e1,pI (tNext L (tStep L a 12) 70),pI (tNext L (tStep L (tStep L a 12) 70) 26),pI 0,pI 0,pS 1 false encBo [],pS 1 false enc16 os,p16 0,p16 0]) rfl ⟨le_refl _,le_refl _,le_refl _,le_refl _,le_refl _,le_nilS 1 false,le_refl _,le_refl _,le_refl _,trivial⟩ (w_ret ?_)))))
   have hex : rightR (⟨e1,tNext L (tStep L a 12) 70,tNext L (tStep L (tStep L a 12) 70) 26,0,0,[],os,0,0⟩ : TRequest) = 0 ∧ (⟨e1,tNext L (tStep L a 12) 70,tNext L (tStep L (tStep L a 12) 70) 26,0,0,[],os,0,0⟩ : TRequest).bits.length ≤ 25 ∧ (⟨e1,tNext L (tStep L a 12) 70,tNext L (tStep L (tStep L a 12) 70) 26,0,0,[],os,0,0⟩ : TRequest).vals.length ≤ 25 ∧ 0 ≤ (⟨e1,tNext L (tStep L a 12) 70,tNext L (tStep L (tStep L a 12) 70) 26,0,0,[],os,0,0⟩ : TRequest).count ∧ (⟨e1,tNext L (tStep L a 12) 70,tNext L (tStep L (tStep L a 12) 70) 26,0,0,[],os,0,0⟩ : TRequest).count ≤ 25 := by
     refine ⟨(shapeR_iff (q := _) hfn).2 ?_,by simp; try omega,by simp; try omega,by simp; try omega,by simp; try omega⟩
     constructor
     case bits => simp only; (rw [if_neg (by omega),if_neg (by omega)]; rfl)
     case vals => simp only; (rw [if_neg (by omega),if_pos (by omega)]; exact ⟨by omega,by omega⟩)
     all_goals first|(intro _; rfl)|(intro _; exact ⟨rfl,rfl⟩)|(simp only; omega)
   exact fin_names (nx1 := 1) (H1 := [(0,.obj [pS 1 false encI L,pN ap])]) [(0,0)] (ret_cell tab_37 (by decide) rfl rfl (Nat.le_of_ble_eq_true rfl) rfl ret_nil) rfl (by decide) ⟨⟨_,_,rfl,rfl,rfl,rfl⟩,trivial⟩ (by decide) rfl ⟨((⟨e1,tNext L (tStep L a 12) 70,tNext L (tStep L (tStep L a 12) 70) 26,0,0,[],os,0,0⟩ : TRequest)),(ap),hex,rfl,rfl,rfl⟩
 try simp only [sB] at c10
 refine w_seq (w_R (qo hnt rfl (s_eql rfl rfl ?_)))
 refine qa hnt rfl rfl (r_end (q_then (w_if rfl (fun c12 => ?_) (fun c12 => ?_))))
 ·try simp only [sB] at c12
  refine w_R (qm hnt rfl rfl (qm hnt rfl rfl (qo hnt rfl (s_callX (r2 := pI (tNext L (tStep L (tStep L a 12) 70) 65536)) (nx1 := 3) (H2 := [(0,.obj [pS 1 false encI L,pN (tStep L (tStep L a 12) 70)]),(1,.obj [pI 0,pI 0,pI 0,pI 0,pI 0,pNil,pNil,p16 0,p16 0]),(2,.obj [pI e1,pI 0,pI 0,pI 0,pI 0,pNil,pNil,p16 0,p16 0])]) (H3 := [(0,.obj [pS 1 false encI L,pN (tStep L (tStep L (tStep L a 12) 70) 65536)]),(1,.obj [pI 0,pI 0,pI 0,pI 0,pI 0,pNil,pNil,p16 0,p16 0]),(2,.obj [pI e1,pI 0,pI 0,pI 0,pI 0,pNil,pNil,p16 0,p16 0])]) [0] [.obj [pS 1 false encI L,pN (tStep L (tStep L a 12) 70)]] rfl rfl rfl (handed_of (by decide) ⟨rfl,trivial⟩) rfl rfl rfl rfl rfl rfl (w_burgagekeep_Tape_Next L false (tStep L (tStep L a 12) 70) 65536 (by omega) (by omega)) rfl (dist_of rfl) rfl rfl rfl rfl ?_))))
  refine qo hnt rfl (s_cv16 tab_3 tab_35 rfl rfl rfl ?_)
  refine qm hnt rfl rfl (qo hnt rfl (s_callX (r2 := pI (tNext L (tStep L (tStep L (tStep L a 12) 70) 65536) 65536)) (nx1 := 3) (H2 := [(0,.obj [pS 1 false encI L,pN (tStep L (tStep L (tStep L a 12) 70) 65536)]),(1,.obj [pI 0,pI 0,pI 0,pI 0,pI 0,pNil,pNil,p16 0,p16 0]),(2,.obj [pI e1,pI 0,pI 0,pI 0,pI 0,pNil,pNil,p16 0,p16 0])]) (H3 := [(0,.obj [pS 1 false encI L,pN (tStep L (tStep L (tStep L (tStep L a 12) 70) 65536) 65536)]),(1,.obj [pI 0,pI 0,pI 0,pI 0,pI 0,pNil,pNil,p16 0,p16 0]),(2,.obj [pI e1,pI 0,pI 0,pI 0,pI 0,pNil,pNil,p16 0,p16 0])]) [0] [.obj [pS 1 false encI L,pN (tStep L (tStep L (tStep L a 12) 70) 65536)]] rfl rfl rfl (handed_of (by decide) ⟨rfl,trivial⟩) rfl rfl rfl rfl rfl rfl (w_burgagekeep_Tape_Next L false (tStep L (tStep L (tStep L a 12) 70) 65536) 65536 (by omega) (by omega)) rfl (dist_of rfl) rfl rfl rfl rfl ?_))
  refine qo hnt rfl (s_cv16 tab_3 tab_35 rfl rfl rfl ?_)
  refine qo hnt rfl (s_fa_ptr tab_37 rfl rfl tab_3 (by decide) rfl ?_)
  refine qo hnt rfl (s_store_ptr tab_3 rfl rfl rfl rfl rfl (Nat.le_of_ble_eq_true rfl) ?_)
  refine qo hnt rfl (s_fa_ptr tab_37 rfl rfl tab_35 (by decide) rfl ?_)
  refine qo hnt rfl (s_store_ptr tab_35 rfl rfl rfl rfl rfl (Nat.le_of_ble_eq_true rfl) ?_)
  refine qo hnt rfl (s_fa_ptr tab_37 rfl rfl tab_35 (by decide) rfl ?_)
  refine qo hnt rfl (s_store_ptr tab_35 rfl rfl rfl rfl rfl (Nat.le_of_ble_eq_true rfl) ?_)
  refine r_set [(2,PV.ptr 1 0),(3,PV.ptr 2 0)] [(2,.obj [pI e1,pI (tNext L (tStep L a 12) 70),pI 0,pI 0,pI 0,pNil,pNil,p16 (u16I (tNext L (tStep L (tStep L a 12) 70) 65536)),p16 (u16I (tNext L (tStep L (tStep L (tStep L a 12) 70) 65536) 65536))]),(0,.obj [pS 1 false encI L,pN (tStep L (tStep L (tStep L (tStep L a 12) 70) 65536) 65536)]),(1,.obj [pI 0,pI 0,pI 0,pI 0,pI 0,pNil,pNil,p16 0,p16 0])] 3 ⟨rfl,rfl,trivial⟩ rfl rfl (r_end (q_block (q_then (w_seq (w_R ?_)))))
  refine qo hnt rfl (s_load_ptr tab_37 rfl rfl rfl (Nat.le_of_ble_eq_true rfl) ?_)
  refine qo hnt rfl (s_store_ptr tab_37 rfl rfl rfl rfl rfl (Nat.le_of_ble_eq_true rfl) ?_)
  refine r_set [(2,PV.ptr 1 0)] [(1,.obj [pI e1,pI (tNext L (tStep L a 12) 70),pI 0,pI 0,pI 0,pNil,pNil,p16 (u16I (tNext L (tStep L (tStep L a 12) 70) 65536)),p16 (u16I (tNext L (tStep L (tStep L (tStep L a 12) 70) 65536) 65536))]),(2,.obj [pI e1,pI (tNext L (tStep L a 12) 70),pI 0,pI 0,pI 0,pNil,pNil,p16 (u16I (tNext L (tStep L (tStep L a 12) 70) 65536)),p16 (u16I (tNext L (tStep L (tStep L (tStep L a 12) 70) 65536) 65536))]),(0,.obj [pS 1 false encI L,pN (tStep L (tStep L (tStep L (tStep L a 12) 70) 65536) 65536)])] 3 ⟨rfl,trivial⟩ rfl rfl (r_end (q_then (w_leO (n := 1) (ds := [pI e1,pI (tNext L (tStep L a 12) 70),pI 0,pI 0,pI 0,pS 1 false encBo [],pS 1 false enc16 [],p16 (u16I (tNext L (tStep L (tStep L a 12) 70) 65536)),p16 (u16I (tNext L (tStep L (tStep L (tStep L a 12) 70) 65536) 65536))]) rfl ⟨le_refl _,le_refl _,le_refl _,le_refl _,le_refl _,le_nilS 1 false,le_nilS 1 false,le_refl _,le_refl _,trivial⟩ (w_ret ?_))))
  have hex : rightR (⟨e1,tNext L (tStep L a 12) 70,0,0,0,[],[],u16I (tNext L (tStep L (tStep L a 12) 70) 65536),u16I (tNext L (tStep L (tStep L (tStep L a 12) 70) 65536) 65536)⟩ : TRequest) = 0 ∧ (⟨e1,tNext L (tStep L a 12) 70,0,0,0,[],[],u16I (tNext L (tStep L (tStep L a 12) 70) 65536),u16I (tNext L (tStep L (tStep L (tStep L a 12) 70) 65536) 65536)⟩ : TRequest).bits.length ≤ 25 ∧ (⟨e1,tNext L (tStep L a 12) 70,0,0,0,[],[],u16I (tNext L (tStep L (tStep L a 12) 70) 65536),u16I (tNext L (tStep L (tStep L (tStep L a 12) 70) 65536) 65536)⟩ : TRequest).vals.length ≤ 25 ∧ 0 ≤ (⟨e1,tNext L (tStep L a 12) 70,0,0,0,[],[],u16I (tNext L (tStep L (tStep L a 12) 70) 65536),u16I (tNext L (tStep L (tStep L (tStep L a 12) 70) 65536) 65536)⟩ : TRequest).count ∧ (⟨e1,tNext L (tStep L a 12) 70,0,0,0,[],[],u16I (tNext L (tStep L (tStep L a 12) 70) 65536),u16I (tNext L (tStep L (tStep L (tStep L a 12) 70) 65536) 65536)⟩ : TRequest).count ≤ 25 := by
    refine ⟨(shapeR_iff (q := _) hfn).2 ?_,by simp; try omega,by simp; try omega,by simp; try omega,by simp; try omega⟩
    constructor
    case bits => simp only; (rw [if_neg (by omega),if_neg (by omega)]; rfl)
    case vals => simp only; (rw [if_neg (by omega),if_neg (by omega),if_neg (by omega)]; rfl)
    all_goals first|(intro _; rfl)|(simp only; omega)
  exact fin_names (nx1 := 1) (H1 := [(0,.obj [pS 1 false encI L,pN (tStep L (tStep L (tStep L (tStep L a 12) 70) 65536) 65536)])]) [(0,0)] (ret_cell tab_37 (by decide) rfl rfl (Nat.le_of_ble_eq_true rfl) rfl ret_nil) rfl (by decide) ⟨⟨_,_,rfl,rfl,rfl,rfl⟩,trivial⟩ (by decide) rfl ⟨((⟨e1,tNext L (tStep L a 12) 70,0,0,0,[],[],u16I (tNext L (tStep L (tStep L a 12) 70) 65536),u16I (tNext L (tStep L (tStep L (tStep L a 12) 70) 65536) 65536)⟩ : TRequest)),(tStep L (tStep L (tStep L (tStep L a 12) 70) 65536) 65536),hex,rfl,rfl,rfl⟩
 try simp only [sB] at c12
 refine w_seq (w_R (qo hnt rfl (s_eql rfl rfl ?_)))
 refine qa hnt rfl rfl (r_end (q_then (w_if rfl (fun c13 => ?_) (fun c13 => ?_))))
 ·try simp only [sB] at c13
  refine w_seq ?_
  have h20 := tNext_lt L (tStep L (tStep L a 12) 70) (n := 20) (by decide)
  have h40 := tNext_lt L (tStep L (tStep L (tStep L a 12) 70) 20) (n := 40) (by decide)
  refine w_R (qm hnt rfl rfl (qm hnt rfl rfl (qo hnt rfl (s_callX (r2 := pI (tNext L (tStep L (tStep L a 12) 70) 20)) (nx1 := 3) (H2 := [(0,.obj [pS 1 false encI L,pN (tStep L (tStep L a 12) 70)]),(1,.obj [pI 0,pI 0,pI 0,pI 0,pI 0,pNil,pNil,p16 0,p16 0]),(2,.obj [pI e1,pI 0,pI 0,pI 0,pI 0,pNil,pNil,p16 0,p16 0])]) (H3 := [(0,.obj [pS 1 false encI L,pN (tStep L (tStep L (tStep L a 12) 70) 20)]),(1,.obj [pI 0,pI 0,pI 0,pI 0,pI 0,pNil,pNil,p16 0,p16 0]),(2,.obj [pI e1,pI 0,pI 0,pI 0,pI 0,pNil,pNil,p16 0,p16 0])]) [0] [.obj [pS 1 false encI L,pN (tStep L (tStep L a 12) 70)]] rfl rfl rfl (handed_of (by decide) ⟨rfl,trivial⟩) rfl rfl rfl rfl rfl rfl (w_burgagekeep_Tape_Next L false (tStep L (tStep L a 12) 70) 20 (by omega) (by omega)) rfl (dist_of rfl) rfl rfl rfl rfl ?_))))
  refine qm hnt rfl rfl (qo hnt rfl (s_callX (r2 := pI (tNext L (tStep L (tStep L (tStep L a 12) 70) 20) 40)) (nx1 := 3) (H2 := [(0,.obj [pS 1 false encI L,pN (tStep L (tStep L (tStep L a 12) 70) 20)]),(1,.obj [pI 0,pI 0,pI 0,pI 0,pI 0,pNil,pNil,p16 0,p16 0]),(2,.obj [pI e1,pI 0,pI 0,pI 0,pI 0,pNil,pNil,p16 0,p16 0])]) (H3 := [(0,.obj [pS 1 false encI L,pN (tStep L (tStep L (tStep L (tStep L a 12) 70) 20) 40)]),(1,.obj [pI 0,pI 0,pI 0,pI 0,pI 0,pNil,pNil,p16 0,p16 0]),(2,.obj [pI e1,pI 0,pI 0,pI 0,pI 0,pNil,pNil,p16 0,p16 0])]) [0] [.obj [pS 1 false encI L,pN (tStep L (tStep L (tStep L a 12) 70) 20)]] rfl rfl rfl (handed_of (by decide) ⟨rfl,trivial⟩) rfl rfl rfl rfl rfl rfl (w_burgagekeep_Tape_Next L false (tStep L (tStep L (tStep L a 12) 70) 20) 40 (by omega) (by omega)) rfl (dist_of rfl) rfl rfl rfl rfl ?_))
  refine qo hnt rfl (s_fa_ptr tab_37 rfl rfl tab_3 (by decide) rfl ?_)
  refine qo hnt rfl (s_store_ptr tab_3 rfl rfl rfl rfl rfl (Nat.le_of_ble_eq_true rfl) ?_)
  refine qo hnt rfl (s_fa_ptr tab_37 rfl rfl tab_3 (by decide) rfl ?_)
  refine qo hnt rfl (s_store_ptr tab_3 rfl rfl rfl rfl rfl (Nat.le_of_ble_eq_true rfl) ?_)
  refine qo hnt rfl (s_fa_ptr tab_37 rfl rfl tab_3 (by decide) rfl ?_)
  refine qo hnt rfl (s_store_ptr tab_3 rfl rfl rfl rfl rfl (Nat.le_of_ble_eq_true rfl) ?_)
  refine r_set [(0,PV.ptr 0 0),(2,PV.ptr 1 0),(3,PV.ptr 2 0)] [(2,.obj [pI e1,pI (tNext L (tStep L a 12) 70),pI (tNext L (tStep L (tStep L a 12) 70) 20),pI (tNext L (tStep L (tStep L (tStep L a 12) 70) 20) 40),pI 0,pNil,pNil,p16 0,p16 0]),(0,.obj [pS 1 false encI L,pN (tStep L (tStep L (tStep L (tStep L a 12) 70) 20) 40)]),(1,.obj [pI 0,pI 0,pI 0,pI 0,pI 0,pNil,pNil,p16 0,p16 0])] 3 ⟨rfl,rfl,rfl,trivial⟩ rfl rfl (r_end (q_then (w_seq ?_)))
  have h22 := tNext_lt L (tStep L (tStep L (tStep L (tStep L a 12) 70) 20) 40) (n := 20) (by decide)
  refine w_R (qm hnt rfl rfl (qo hnt rfl (s_callX (r2 := pI (tNext L (tStep L (tStep L (tStep L (tStep L a 12) 70) 20) 40) 20)) (nx1 := 3) (H2 := [(2,.obj [pI e1,pI (tNext L (tStep L a 12) 70),pI (tNext L (tStep L (tStep L a 12) 70) 20),pI (tNext L (tStep L (tStep L (tStep L a 12) 70) 20) 40),pI 0,pNil,pNil,p16 0,p16 0]),(0,.obj [pS 1 false encI L,pN (tStep L (tStep L (tStep L (tStep L a 12) 70) 20) 40)]),(1,.obj [pI 0,pI 0,pI 0,pI 0,pI 0,pNil,pNil,p16 0,p16 0])]) (H3 := [(0,.obj [pS 1 false encI L,pN (tStep L (tStep L (tStep L (tStep L (tStep L a 12) 70) 20) 40) 20)]),(2,.obj [pI e1,pI (tNext L (tStep L a 12) 70),pI (tNext L (tStep L (tStep L a 12) 70) 20),pI (tNext L (tStep L (tStep L (tStep L a 12) 70) 20) 40),pI 0,pNil,pNil,p16 0,p16 0]),(1,.obj [pI 0,pI 0,pI 0,pI 0,pI 0,pNil,pNil,p16 0,p16 0])]) [0] [.obj [pS 1 false encI L,pN (tStep L (tStep L (tStep L (tStep L a 12) 70) 20) 40)]] rfl rfl rfl (handed_of (by decide) ⟨rfl,trivial⟩) rfl rfl rfl rfl rfl rfl (w_burgagekeep_Tape_Next L false (tStep L (tStep L (tStep L (tStep L a 12) 70) 20) 40) 20 (by omega) (by omega)) rfl (dist_of rfl) rfl rfl rfl rfl ?_)))
  refine qa hnt rfl rfl (r_set [(0,PV.ptr 0 0),(2,PV.ptr 1 0),(3,PV.ptr 2 0),(7,pI (tNext L (tStep L (tStep L (tStep L (tStep L a 12) 70) 20) 40) 20))] [(0,.obj [pS 1 false encI L,pN (tStep L (tStep L (tStep L (tStep L (tStep L a 12) 70) 20) 40) 20)]),(2,.obj [pI e1,pI (tNext L (tStep L a 12) 70),pI (tNext L (tStep L (tStep L a 12) 70) 20),pI (tNext L (tStep L (tStep L (tStep L a 12) 70) 20) 40),pI 0,pNil,pNil,p16 0,p16 0]),(1,.obj [pI 0,pI 0,pI 0,pI 0,pI 0,pNil,pNil,p16 0,p16 0])] 3 ⟨rfl,rfl,rfl,rfl,trivial⟩ rfl rfl (r_end (q_then (w_block (w_adoptC (n := 2) (j := 6) (sz := 1) rfl rfl rfl ?_)))))
  refine loop3 (fun (ap : Nat) (os : List UInt16) (k : Int) => (os.length : Int) + k ≤ 19 ∧ 0 ≤ k) (fun (ap : Nat) (os : List UInt16) (k : Int) => [(0,PV.ptr 0 0),(2,PV.ptr 3 0),(3,PV.ptr 1 0),(7,pI k)]) 4 (fun (ap : Nat) (os : List UInt16) (k : Int) => [(0,.obj [pS 1 false encI L,pN ap]),(1,.obj [pI e1,pI (tNext L (tStep L a 12) 70),pI (tNext L (tStep L (tStep L a 12) 70) 20),pI (tNext L (tStep L (tStep L (tStep L a 12) 70) 20) 40),pI 0,pNil,PV.ref 2 0 none,p16 0,p16 0]),(2,oB true 1 enc16 os),(3,.obj [pI 0,pI 0,pI 0,pI 0,pI 0,pNil,pNil,p16 0,p16 0])]) (fun (ap : Nat) (os : List UInt16) (k : Int) => k.toNat) (tStep L (tStep L (tStep L (tStep L (tStep L a 12) 70) 20) 40) 20) (([] : List UInt16)) (tNext L (tStep L (tStep L (tStep L (tStep L a 12) 70) 20) 40) 20) ?_ ⟨[(0,0),(1,2),(2,3),(3,1)],by rw [hk]; decide,⟨⟨_,rfl,rfl,rfl⟩,⟨_,rfl,rfl,rfl⟩,⟨_,rfl,rfl,rfl⟩,⟨_,rfl,rfl,rfl⟩,trivial⟩,⟨⟨_,_,rfl,rfl,rfl,rfl⟩,⟨_,_,rfl,rfl,rfl,rfl⟩,⟨_,_,rfl,rfl,rfl,rfl⟩,⟨_,_,rfl,rfl,rfl,rfl⟩,trivial⟩,by rw [hk]; decide⟩ ?_
  · exact ⟨by simp; omega,by omega⟩
  ·intro ap os k hI
   obtain ⟨hkm,hk0⟩ := hI
   refine w_seq (w_seq (w_R (qm hnt rfl rfl (qo hnt rfl (s_gtr rfl rfl ?_)))))
   refine r_end (q_then (w_if rfl (fun c14 => ?_) (fun c14 => ?_)))
   ·try simp only [sB] at c14
    refine w_skip (q_then (w_seq (w_block (W_drawn tabOk mixed hnt [[],[0],[],[2],[2,3],[2,3,4],[0,1,2,3,4,5],[0,1,2,3,4,5,6],(.range 8)] (by kernel_rfl) (d_op ?_)))))
    refine x_run0 [(3,PV.ptr 1 0)] [] rfl rfl rfl rfl (s_fa_ptr tab_37 rfl rfl tab_34 (by decide) rfl ⟨rfl,rfl,rfl⟩) (d_op (xL [(131,PV.ptr 1 6)] [0] [(1,.obj [pI e1,pI (tNext L (tStep L a 12) 70),pI (tNext L (tStep L (tStep L a 12) 70) 20),pI (tNext L (tStep L (tStep L (tStep L a 12) 70) 20) 40),pI 0,pNil,PV.ref 2 0 none,p16 0,p16 0])] rfl rfl rfl rfl rfl (s_load_ptr1 tab_34 rfl rfl rfl rfl rfl ⟨rfl,rfl,rfl⟩) ⟨rfl,trivial⟩ rfl (d_op (x_run0 [(0,PV.ptr 0 0)] [] rfl rfl rfl rfl (s_move rfl ⟨rfl,rfl,rfl⟩) (d_op ?_)))))
    refine xT [(133,PV.ptr 0 0)] [2] [(0,.obj [pS 1 false encI L,pN ap])] [(0,.obj [pS 1 false encI L,pN (tStep L ap 65536)])] [(1,.obj [pI e1,pI (tNext L (tStep L a 12) 70),pI (tNext L (tStep L (tStep L a 12) 70) 20),pI (tNext L (tStep L (tStep L (tStep L a 12) 70) 20) 40),pI 0,pNil,PV.ref 2 0 none,p16 0,p16 0]),(2,oB true 1 enc16 os),(3,.obj [pI 0,pI 0,pI 0,pI 0,pI 0,pNil,pNil,p16 0,p16 0])] rfl rfl rfl rfl rfl (s_callX (r2 := pI (tNext L ap 65536)) (nx1 := 4) (H2 := [(0,.obj [pS 1 false encI L,pN ap])]) (H3 := [(0,.obj [pS 1 false encI L,pN (tStep L ap 65536)])]) [0] [.obj [pS 1 false encI L,pN ap]] rfl rfl rfl (handed_of (by decide) ⟨rfl,trivial⟩) rfl rfl rfl rfl rfl rfl (w_burgagekeep_Tape_Next L false ap 65536 (by omega) (by omega)) rfl (dist_of rfl) rfl rfl rfl rfl ⟨rfl,rfl,rfl⟩) rfl rfl (d_op (x_run0 [(134,pI (tNext L ap 65536))] [2,3] rfl rfl rfl rfl (s_cv16 tab_3 tab_35 rfl rfl rfl ⟨rfl,rfl,rfl⟩) (d_op (xT [(135,p16 (u16I (tNext L ap 65536)))] [2,3,4] [] [(4,oB true 1 enc16 [u16I (tNext L ap 65536)])] [(0,.obj [pS 1 false encI L,pN (tStep L ap 65536)]),(1,.obj [pI e1,pI (tNext L (tStep L a 12) 70),pI (tNext L (tStep L (tStep L a 12) 70) 20),pI (tNext L (tStep L (tStep L (tStep L a 12) 70) 20) 40),pI 0,pNil,PV.ref 2 0 none,p16 0,p16 0]),(2,oB true 1 enc16 os),(3,.obj [pI 0,pI 0,pI 0,pI 0,pI 0,pNil,pNil,p16 0,p16 0])] rfl rfl rfl rfl rfl (s_mkM (f := enc16) [u16I (tNext L ap 65536)] tab_34 rfl tab_35 ⟨rfl,by decide⟩ (by decide) rfl rfl rfl rfl ⟨rfl,rfl,rfl⟩) rfl rfl (d_op ?_)))))
    refine x_run [(132,PV.ref 2 0 none),(136,PV.ref 4 0 none)] [0,1,2,3,4,5] [(4,oB true 1 enc16 [u16I (tNext L ap 65536)])] [(2,oB true 1 enc16 os)] [(5,oB true 1 enc16 (os ++ [u16I (tNext L ap 65536)])),(4,oB true 1 enc16 [u16I (tNext L ap 65536)])] [(5,oB true 1 enc16 (os ++ [u16I (tNext L ap 65536)]))] [(5,oB true 1 enc16 (os ++ [u16I (tNext L ap 65536)])),(4,oB true 1 enc16 [u16I (tNext L ap 65536)]),(0,.obj [pS 1 false encI L,pN (tStep L ap 65536)]),(1,.obj [pI e1,pI (tNext L (tStep L a 12) 70),pI (tNext L (tStep L (tStep L a 12) 70) 20),pI (tNext L (tStep L (tStep L (tStep L a 12) 70) 20) 40),pI 0,pNil,PV.ref 2 0 none,p16 0,p16 0]),(3,.obj [pI 0,pI 0,pI 0,pI 0,pI 0,pNil,pNil,p16 0,p16 0])] rfl rfl rfl rfl rfl rfl (s_appR0 (f := enc16) (l := os) (xs := [u16I (tNext L ap 65536)]) tab_34 rfl tab_35 ⟨rfl,by decide,by decide⟩ (srcM tab_34 rfl (hM_ref0 (f := enc16) rfl rfl)) rfl rfl (by (simp; omega)) ⟨rfl,rfl,rfl⟩) rfl ⟨rfl,trivial⟩ rfl rfl (d_op (x_run0 [(3,PV.ptr 1 0)] [0,1,2,3,4,5,6] rfl rfl rfl rfl (s_fa_ptr tab_37 rfl rfl tab_34 (by decide) rfl ⟨rfl,rfl,rfl⟩) (d_op (xT [(138,PV.ptr 1 6),(137,PV.ref 5 0 none)] (.range 8) [(1,.obj [pI e1,pI (tNext L (tStep L a 12) 70),pI (tNext L (tStep L (tStep L a 12) 70) 20),pI (tNext L (tStep L (tStep L (tStep L a 12) 70) 20) 40),pI 0,pNil,PV.ref 2 0 none,p16 0,p16 0])] [(1,.obj [pI e1,pI (tNext L (tStep L a 12) 70),pI (tNext L (tStep L (tStep L a 12) 70) 20),pI (tNext L (tStep L (tStep L (tStep L a 12) 70) 20) 40),pI 0,pNil,PV.ref 5 0 none,p16 0,p16 0])] [(5,oB true 1 enc16 (os ++ [u16I (tNext L ap 65536)])),(4,oB true 1 enc16 [u16I (tNext L ap 65536)]),(0,.obj [pS 1 false encI L,pN (tStep L ap 65536)]),(3,.obj [pI 0,pI 0,pI 0,pI 0,pI 0,pNil,pNil,p16 0,p16 0])] rfl rfl rfl rfl rfl (s_store_ptr tab_34 rfl rfl rfl rfl rfl (Nat.le_of_ble_eq_true rfl) ⟨rfl,rfl,rfl⟩) rfl rfl (d_end ⟨by kernel_rfl, ?_⟩)))))
    refine q_block (q_then (w_R (qm hnt rfl rfl (qo hnt rfl (s_subi (r := k - 1) rfl rfl rfl (by omega) ?_)))))
    refine qa hnt rfl rfl (r_end (q_then (⟨(tStep L ap 65536),(os ++ [u16I (tNext L ap 65536)]),(k - 1), ?_, ?_,⟨[(0,0),(1,1),(2,5),(3,3)],by rw [hk]; decide,⟨⟨_,rfl,rfl,rfl⟩,⟨_,rfl,rfl,rfl⟩,⟨_,rfl,rfl,rfl⟩,⟨_,rfl,rfl,rfl⟩,trivial⟩,⟨⟨_,_,rfl,rfl,rfl,rfl⟩,⟨_,_,rfl,rfl,rfl,rfl⟩,⟨_,_,rfl,rfl,rfl,rfl⟩,⟨_,_,rfl,rfl,rfl,rfl⟩,trivial⟩,by rw [hk]; decide⟩⟩)))
    ·exact ⟨by simp; omega,by omega⟩
    · omega
   try simp only [sB] at c14
   refine w_exit (q_then_exit (q_then_exit (q_block_exit (q_block (q_then ?_)))))
   refine w_seq (w_R (qo hnt rfl (s_load_ptr tab_37 rfl rfl rfl (Nat.le_of_ble_eq_true rfl) ?_)))
   refine qo hnt rfl (s_store_ptr tab_37 rfl rfl rfl rfl rfl (Nat.le_of_ble_eq_true rfl) ?_)
   refine r_set [(2,PV.ptr 3 0)] [(3,.obj [pI e1,pI (tNext L (tStep L a 12) 70),pI (tNext L (tStep L (tStep L a 12) 70) 20),pI (tNext L (tStep L (tStep L (tStep L a 12) 70) 20) 40),pI 0,pNil,PV.ref 2 0 none,p16 0,p16 0]),(0,.obj [pS 1 false encI L,pN ap]),(1,.obj [pI e1,pI (tNext L (tStep L a 12) 70),pI (tNext L (tStep L (tStep L a 12) 70) 20),pI (tNext L (tStep L (tStep L (tStep L a 12) 70) 20) 40),pI 0,pNil,PV.ref 2 0 none,p16 0,p16 0]),(2,oB true 1 enc16 os)] 4 ⟨rfl,trivial⟩ rfl rfl (r_end (q_then (w_frzC (n := 3) (j := 6) rfl rfl rfl rfl (w_leO (n := 3) (ds := [pI e1,pI (tNext L (tStep L a 12) 70),pI (tNext L (tStep L (tStep L a 12) 70) 20),pI (tNext L (tStep L (tStep L (tStep L a 12) 70) 20) 40),pI 0,pS 1 false encBo [],pS 1 false enc16 os,p16 0,p16 0]) rfl ⟨le_refl _,le_refl _,le_refl _,le_refl _,le_refl _,le_nilS 1 false,le_refl _,le_refl _,le_refl _,trivial⟩ (w_ret ?_)))))
   have hex : rightR (⟨e1,tNext L (tStep L a 12) 70,tNext L (tStep L (tStep L a 12) 70) 20,tNext L (tStep L (tStep L (tStep L a 12) 70) 20) 40,0,[],os,0,0⟩ : TRequest) = 0 ∧ (⟨e1,tNext L (tStep L a 12) 70,tNext L (tStep L (tStep L a 12) 70) 20,tNext L (tStep L (tStep L (tStep L a 12) 70) 20) 40,0,[],os,0,0⟩ : TRequest).bits.length ≤ 25 ∧ (⟨e1,tNext L (tStep L a 12) 70,tNext L (tStep L (tStep L a 12) 70) 20,tNext L (tStep L (tStep L (tStep L a 12) 70) 20) 40,0,[],os,0,0⟩ : TRequest).vals.length ≤ 25 ∧ 0 ≤ (⟨e1,tNext L (tStep L a 12) 70,tNext L (tStep L (tStep L a 12) 70) 20,tNext L (tStep L (tStep L (tStep L a 12) 70) 20) 40,0,[],os,0,0⟩ : TRequest).count ∧ (⟨e1,tNext L (tStep L a 12) 70,tNext L (tStep L (tStep L a 12) 70) 20,tNext L (tStep L (tStep L (tStep L a 12) 70) 20) 40,0,[],os,0,0⟩ : TRequest).count ≤ 25 := by
     refine ⟨(shapeR_iff (q := _) hfn).2 ?_,by simp; try omega,by simp; try omega,by simp; try omega,by simp; try omega⟩
     constructor
     case bits => simp only; (rw [if_neg (by omega),if_neg (by omega)]; rfl)
     case vals => simp only; (rw [if_neg (by omega),if_neg (by omega),if_pos (by omega)]; omega)
     all_goals first|(intro _; rfl)|(intro _; exact ⟨rfl,rfl⟩)|(simp only; omega)
   exact fin_names (nx1 := 1) (H1 := [(0,.obj [pS 1 false encI L,pN ap])]) [(0,0)] (ret_cell tab_37 (by decide) rfl rfl (Nat.le_of_ble_eq_true rfl) rfl ret_nil) rfl (by decide) ⟨⟨_,_,rfl,rfl,rfl,rfl⟩,trivial⟩ (by decide) rfl ⟨((⟨e1,tNext L (tStep L a 12) 70,tNext L (tStep L (tStep L a 12) 70) 20,tNext L (tStep L (tStep L (tStep L a 12) 70) 20) 40,0,[],os,0,0⟩ : TRequest)),(ap),hex,rfl,rfl,rfl⟩
 try simp only [sB] at c13
 refine w_skip (q_block (q_then (w_seq (w_R (qo hnt rfl (s_load_ptr tab_37 rfl rfl rfl (Nat.le_of_ble_eq_true rfl) ?_))))))
 refine qo hnt rfl (s_store_ptr tab_37 rfl rfl rfl rfl rfl (Nat.le_of_ble_eq_true rfl) ?_)
 refine r_set [(2,PV.ptr 1 0)] [(1,.obj [pI e1,pI 0,pI 0,pI 0,pI 0,pNil,pNil,p16 0,p16 0]),(0,.obj [pS 1 false encI L,pN (tStep L (tStep L a 12) 70)]),(2,.obj [pI e1,pI 0,pI 0,pI 0,pI 0,pNil,pNil,p16 0,p16 0])] 3 ⟨rfl,trivial⟩ rfl rfl (r_end (q_then (w_leO (n := 1) (ds := [pI e1,pI 0,pI 0,pI 0,pI 0,pS 1 false encBo [],pS 1 false enc16 [],p16 0,p16 0]) rfl ⟨le_refl _,le_refl _,le_refl _,le_refl _,le_refl _,le_nilS 1 false,le_nilS 1 false,le_refl _,le_refl _,trivial⟩ (w_ret ?_))))
 have hex : rightR (⟨e1,0,0,0,0,[],[],0,0⟩ : TRequest) = 0 ∧ (⟨e1,0,0,0,0,[],[],0,0⟩ : TRequest).bits.length ≤ 25 ∧ (⟨e1,0,0,0,0,[],[],0,0⟩ : TRequest).vals.length ≤ 25 ∧ 0 ≤ (⟨e1,0,0,0,0,[],[],0,0⟩ : TRequest).count ∧ (⟨e1,0,0,0,0,[],[],0,0⟩ : TRequest).count ≤ 25 := by
   refine ⟨(shapeR_iff (q := _) hfn).2 ?_,by simp; try omega,by simp; try omega,by simp; try omega,by simp; try omega⟩
   constructor
   case bits => simp only; (rw [if_neg (by omega),if_neg (by omega)]; rfl)
   case vals => simp only; (rw [if_neg (by omega),if_neg (by omega),if_neg (by omega)]; rfl)
   all_goals first|(intro _; rfl)|(intro _; exact ⟨rfl,rfl⟩)|(simp only; omega)
 exact fin_names (nx1 := 1) (H1 := [(0,.obj [pS 1 false encI L,pN (tStep L (tStep L a 12) 70)])]) [(0,0)] (ret_cell tab_37 (by decide) rfl rfl (Nat.le_of_ble_eq_true rfl) rfl ret_nil) rfl (by decide) ⟨⟨_,_,rfl,rfl,rfl,rfl⟩,trivial⟩ (by decide) rfl ⟨((⟨e1,0,0,0,0,[],[],0,0⟩ : TRequest)),(tStep L (tStep L a 12) 70),hex,rfl,rfl,rfl⟩
end Go.Proofs.Ytlcmbkkimgdnmaa
set_option linter.unusedVariables false
set_option linter.unusedSimpArgs false
set_option maxRecDepth 10000
set_option maxHeartbeats 1000000
namespace Go.Proofs.Ytlcmbkkimgdnmaa
open Go Go.Proofs.Ytlcmbkkimgdnmaa.Pv
theorem w_burgagekeep_Tape_windows (L : List Int) (cl_L : Bool) (a : Nat) (i : Nat) (hL : L.length ≤ 70000000000000) (hi3 : i ≤ 3) :
    T Try.prog 54 [PV.ptr 0 0,pN i] 1 [(0,.obj [pS 1 cl_L encI L,pN a])] (fun ra rb rc => ∃ q : List TWindow,∃ b : Nat,(WinsOk q) ∧ (Ret (pS 4 false eWindow q) 1 [(0,.obj [pS 1 false encI L,pN b])]) ra rb rc) := by
 refine t_fun tabOk (n := 71) (rs := [.tmp 4]) Try.func54 rfl rfl rfl rfl (Nat.le_of_ble_eq_true rfl) ?_
 intro c hnt hk
 refine w_seq (w_R (qa hnt rfl rfl (r_end (q_then (w_seq ?_)))))
 refine w_R (qa hnt rfl rfl (r_end (q_then (w_seq (w_R ?_)))))
 refine qm hnt rfl rfl (qo hnt rfl (s_mulN (a := 128) (b := i) rfl rfl (by omega) (by omega) (by omega) ?_))
 refine qm hnt rfl rfl (qo hnt rfl (s_mulN (a := 128) (b := i) rfl rfl (by omega) (by omega) (by omega) ?_))
 refine qm hnt rfl rfl (qo hnt rfl (s_mulN (a := 128) (b := i) rfl rfl (by omega) (by omega) (by omega) ?_))
 refine qm hnt rfl rfl (qo hnt rfl (s_mulN (a := 128) (b := i) rfl rfl (by omega) (by omega) (by omega) ?_))
 refine qo hnt rfl (s_buildA tab_110 rfl tab_3 (b_cons rfl tab_3 rfl rfl rfl (Nat.le_of_ble_eq_true rfl) (b_cons rfl tab_3 rfl rfl rfl (Nat.le_of_ble_eq_true rfl) (b_cons rfl tab_3 rfl rfl rfl (Nat.le_of_ble_eq_true rfl) (b_cons rfl tab_3 rfl rfl rfl (Nat.le_of_ble_eq_true rfl) (b_nil ?_))))))
 refine qo hnt rfl (s_alloc tab_110 ?_)
 refine qo hnt rfl (s_store_ptr tab_110 rfl rfl rfl rfl rfl (Nat.le_of_ble_eq_true rfl) ?_)
 refine r_set [(0,PV.ptr 0 0),(5,pNil),(6,PV.ptr 1 0)] [(1,.obj [pN (128 * i),pN (128 * i),pN (128 * i),pN (128 * i)]),(0,.obj [pS 1 cl_L encI L,pN a])] 2 ⟨rfl,rfl,rfl,trivial⟩ rfl rfl (r_end (q_then (w_seq (w_R (qo hnt rfl (s_buildA tab_110 rfl tab_3 (b_nil ?_)))))))
 refine qo hnt rfl (s_alloc tab_110 ?_)
 refine qo hnt rfl (s_store_ptr tab_110 rfl rfl rfl rfl rfl (Nat.le_of_ble_eq_true rfl) ?_)
 refine r_set [(0,PV.ptr 0 0),(5,pNil),(6,PV.ptr 1 0),(7,PV.ptr 2 0)] [(2,.obj [pI 0,pI 0,pI 0,pI 0]),(1,.obj [pN (128 * i),pN (128 * i),pN (128 * i),pN (128 * i)]),(0,.obj [pS 1 cl_L encI L,pN a])] 3 ⟨rfl,rfl,rfl,rfl,trivial⟩ rfl rfl (r_end (q_then (w_seq (w_seq (w_R ?_)))))
 refine qm hnt rfl rfl (qo hnt rfl (s_callX (r2 := pI (tNext L a 6)) (nx1 := 3) (H2 := [(2,.obj [pI 0,pI 0,pI 0,pI 0]),(1,.obj [pN (128 * i),pN (128 * i),pN (128 * i),pN (128 * i)]),(0,.obj [pS 1 cl_L encI L,pN a])]) (H3 := [(0,.obj [pS 1 false encI L,pN (tStep L a 6)]),(2,.obj [pI 0,pI 0,pI 0,pI 0]),(1,.obj [pN (128 * i),pN (128 * i),pN (128 * i),pN (128 * i)])]) [0] [.obj [pS 1 cl_L encI L,pN a]] rfl rfl rfl (handed_of (by decide) ⟨rfl,trivial⟩) rfl rfl rfl rfl rfl rfl (w_burgagekeep_Tape_Next L cl_L a 6 (by omega) (by omega)) rfl (dist_of rfl) rfl rfl rfl rfl ?_))
 refine qa hnt rfl rfl (r_set [(0,PV.ptr 0 0),(5,pNil),(6,PV.ptr 1 0),(7,PV.ptr 2 0),(8,pI (tNext L a 6))] [(0,.obj [pS 1 false encI L,pN (tStep L a 6)]),(2,.obj [pI 0,pI 0,pI 0,pI 0]),(1,.obj [pN (128 * i),pN (128 * i),pN (128 * i),pN (128 * i)])] 3 ⟨rfl,rfl,rfl,rfl,rfl,trivial⟩ rfl rfl (r_end (q_then (w_block (w_adopt (s := 5) (sz := 4) rfl ?_)))))
 refine loop11 (fun (ap : Nat) (os : List TWindow) (f0 : Int) (f1 : Int) (f2 : Int) (f3 : Int) (v0 : Int) (v1 : Int) (v2 : Int) (v3 : Int) (kk : Int) => (os.length : Int) + kk ≤ 5 ∧ -1 ≤ kk ∧ WInv ((128 * i : Nat) : Int) os (four v0 v1 v2 v3) (four f0 f1 f2 f3)) (fun (ap : Nat) (os : List TWindow) (f0 : Int) (f1 : Int) (f2 : Int) (f3 : Int) (v0 : Int) (v1 : Int) (v2 : Int) (v3 : Int) (kk : Int) => [(0,PV.ptr 0 0),(5,PV.ref 1 0 none),(6,PV.ptr 2 0),(7,PV.ptr 3 0),(8,pI kk)]) 4 (fun (ap : Nat) (os : List TWindow) (f0 : Int) (f1 : Int) (f2 : Int) (f3 : Int) (v0 : Int) (v1 : Int) (v2 : Int) (v3 : Int) (kk : Int) => [(0,.obj [pS 1 false encI L,pN ap]),(1,oB true 4 eWindow os),(2,.obj [pI f0,pI f1,pI f2,pI f3]),(3,.obj [pI v0,pI v1,pI v2,pI v3])]) (fun (ap : Nat) (os : List TWindow) (f0 : Int) (f1 : Int) (f2 : Int) (f3 : Int) (v0 : Int) (v1 : Int) (v2 : Int) (v3 : Int) (kk : Int) => (kk + 1).toNat) (tStep L a 6) (([] : List TWindow)) (((128 * i : Nat) : Int)) (((128 * i : Nat) : Int)) (((128 * i : Nat) : Int)) (((128 * i : Nat) : Int)) (0) (0) (0) (0) (tNext L a 6) ?_ ⟨[(0,0),(1,3),(2,1),(3,2)],by rw [hk]; decide,⟨⟨_,rfl,rfl,rfl⟩,⟨_,rfl,rfl,rfl⟩,⟨_,rfl,rfl,rfl⟩,⟨_,rfl,rfl,rfl⟩,⟨_,rfl,rfl,rfl⟩,trivial⟩,⟨⟨_,_,rfl,rfl,rfl,rfl⟩,⟨_,_,rfl,rfl,rfl,rfl⟩,⟨_,_,rfl,rfl,rfl,rfl⟩,⟨_,_,rfl,rfl,rfl,rfl⟩,trivial⟩,by rw [hk]; decide⟩ ?_
 · have h6 := tNext_lt L a (n := 6) (by decide); exact ⟨by simp; omega,by omega,WInv.nil _⟩
 ·intro ap os f0 f1 f2 f3 v0 v1 v2 v3 kk hI
  obtain ⟨hok,hkk,hW⟩ := hI
  have hv0 : 0 ≤ v0 ∧ v0 ≤ 23 * (os.length : Int) := hW.vb 0 (by decide)
  have hv1 : 0 ≤ v1 ∧ v1 ≤ 23 * (os.length : Int) := hW.vb 1 (by decide)
  have hv2 : 0 ≤ v2 ∧ v2 ≤ 23 * (os.length : Int) := hW.vb 2 (by decide)
  have hv3 : 0 ≤ v3 ∧ v3 ≤ 23 * (os.length : Int) := hW.vb 3 (by decide)
  have hf0 : ((128 * i : Nat) : Int) ≤ f0 ∧ f0 ≤ ((128 * i : Nat) : Int) + 20 * (os.length : Int) := hW.fb 0 (by decide)
  have hf1 : ((128 * i : Nat) : Int) ≤ f1 ∧ f1 ≤ ((128 * i : Nat) : Int) + 20 * (os.length : Int) := hW.fb 1 (by decide)
  have hf2 : ((128 * i : Nat) : Int) ≤ f2 ∧ f2 ≤ ((128 * i : Nat) : Int) + 20 * (os.length : Int) := hW.fb 2 (by decide)
  have hf3 : ((128 * i : Nat) : Int) ≤ f3 ∧ f3 ≤ ((128 * i : Nat) : Int) + 20 * (os.length : Int) := hW.fb 3 (by decide)
  refine w_seq (w_seq ?_)
  have hlo : (os.length : Int) ≤ 6 := by omega
  refine w_R (qm hnt rfl rfl (qo hnt rfl (s_geq rfl rfl ?_)))
  refine r_end (q_then (w_if rfl (fun c1 => ?_) (fun c1 => ?_)))
  ·try simp only [sB] at c1
   refine w_skip (q_then (w_seq (w_block (w_seq (w_R ?_)))))
   refine qo hnt rfl (s_mkM (f := encI) ([3,0,3,1,2,3] : List Int) tab_28 rfl tab_3 ⟨rfl,by decide⟩ (by decide) rfl rfl rfl rfl ?_)
   refine qm hnt rfl rfl (qo hnt rfl (s_callX (r2 := pI (tNext L ap 6)) (nx1 := 5) (H2 := [(4,oB true 1 encI ([3,0,3,1,2,3] : List Int)),(0,.obj [pS 1 false encI L,pN ap]),(1,oB true 4 eWindow os),(2,.obj [pI f0,pI f1,pI f2,pI f3]),(3,.obj [pI v0,pI v1,pI v2,pI v3])]) (H3 := [(0,.obj [pS 1 false encI L,pN (tStep L ap 6)]),(4,oB true 1 encI ([3,0,3,1,2,3] : List Int)),(1,oB true 4 eWindow os),(2,.obj [pI f0,pI f1,pI f2,pI f3]),(3,.obj [pI v0,pI v1,pI v2,pI v3])]) [0] [.obj [pS 1 false encI L,pN ap]] rfl rfl rfl (handed_of (by decide) ⟨rfl,trivial⟩) rfl rfl rfl rfl rfl rfl (w_burgagekeep_Tape_Next L false ap 6 (by omega) (by omega)) rfl (dist_of rfl) rfl rfl rfl rfl ?_))
   have hb29 := tNext_lt L ap (n := 6) (by decide)
   refine qo hnt rfl (s_iaR0 (q := Int.toNat (tNext L ap 6)) (f := encI) (l := ([3,0,3,1,2,3] : List Int)) tab_28 rfl tab_3 rfl rfl (by omega) rfl rfl (by simp; omega) ?_)
   obtain ⟨e1,he1⟩ := get_of_lt ([3,0,3,1,2,3] : List Int) (i := Int.toNat (tNext L ap 6)) (by simp; omega)
   refine qo hnt rfl (s_ldM (b := e1) (f := encI) tab_3 rfl rfl rfl rfl he1 rfl ?_)
   refine qa hnt rfl rfl (r_set [(0,PV.ptr 0 0),(5,PV.ref 1 0 none),(6,PV.ptr 2 0),(7,PV.ptr 3 0),(8,pI kk),(9,pI e1)] [(0,.obj [pS 1 false encI L,pN (tStep L ap 6)]),(4,oB true 1 encI ([3,0,3,1,2,3] : List Int)),(1,oB true 4 eWindow os),(2,.obj [pI f0,pI f1,pI f2,pI f3]),(3,.obj [pI v0,pI v1,pI v2,pI v3])] 5 ⟨rfl,rfl,rfl,rfl,rfl,rfl,trivial⟩ rfl rfl (r_end (q_then (w_seq ?_))))
   rcases (show e1 = 0 ∨ e1 = 1 ∨ e1 = 2 ∨ e1 = 3 from by have hm2 := List.mem_of_getElem? he1; simp only [List.mem_cons,List.not_mem_nil,or_false] at hm2; omega) with hs1|hs1|hs1|hs1
   ·refine w_eq (s := 9) (y := pI 0) rfl (congrArg pI hs1) (W_drawn tabOk mixed hnt [[],[],[1],[1,2],[],[],[5],[4,5,6],[4,5,6,7],[1,2,3,4,5,6,7,8],[],[10],[10,11],[],[5,6,13],[5,6,10,11,12,13,14],[],[5,6,13,14,16],[5,6,13,14,16,17],(.range 19),[],(.range 21)] (by kernel_rfl) (d_op (x_run0 [(9,pI 0)] [] rfl rfl rfl rfl (s_move rfl ⟨rfl,rfl,rfl⟩) (d_op (x_run0 [(9,pI 0)] [] rfl rfl rfl rfl (s_move rfl ⟨rfl,rfl,rfl⟩) ?_)))))
    refine d_op (xL [(7,PV.ptr 3 0),(33,pI 0)] [1] [(3,.obj [pI v0,pI v1,pI v2,pI v3])] rfl rfl rfl rfl rfl (s_ia_arrN (q := 0) tab_110 rfl tab_3 rfl (by omega) rfl (by omega) ⟨rfl,rfl,rfl⟩) ⟨rfl,trivial⟩ rfl (d_op (xL [(34,PV.ptr 3 0)] [1,2] [(3,.obj [pI v0,pI v1,pI v2,pI v3])] rfl rfl rfl rfl rfl (s_load_ptr1 tab_3 rfl rfl rfl rfl rfl ⟨rfl,rfl,rfl⟩) ⟨rfl,trivial⟩ rfl (d_op (xT [] [] [] [(5,oB true 1 encI ([0,0,0,5] : List Int))] [(0,.obj [pS 1 false encI L,pN (tStep L ap 6)]),(4,oB true 1 encI ([3,0,3,1,2,3] : List Int)),(1,oB true 4 eWindow os),(2,.obj [pI f0,pI f1,pI f2,pI f3]),(3,.obj [pI v0,pI v1,pI v2,pI v3])] rfl rfl rfl rfl rfl (s_mkM (f := encI) ([0,0,0,5] : List Int) tab_28 rfl tab_3 ⟨rfl,by decide⟩ (by decide) rfl rfl rfl rfl ⟨rfl,rfl,rfl⟩) rfl rfl ?_)))))
    refine d_op (x_run0 [(0,PV.ptr 0 0)] [] rfl rfl rfl rfl (s_move rfl ⟨rfl,rfl,rfl⟩) (d_op (xT [(37,PV.ptr 0 0)] [5] [(0,.obj [pS 1 false encI L,pN (tStep L ap 6)])] [(0,.obj [pS 1 false encI L,pN (tStep L (tStep L ap 6) 4)])] [(5,oB true 1 encI ([0,0,0,5] : List Int)),(4,oB true 1 encI ([3,0,3,1,2,3] : List Int)),(1,oB true 4 eWindow os),(2,.obj [pI f0,pI f1,pI f2,pI f3]),(3,.obj [pI v0,pI v1,pI v2,pI v3])] rfl rfl rfl rfl rfl (s_callX (r2 := pI (tNext L (tStep L ap 6) 4)) (nx1 := 6) (H2 := [(0,.obj [pS 1 false encI L,pN (tStep L ap 6)])]) (H3 := [(0,.obj [pS 1 false encI L,pN (tStep L (tStep L ap 6) 4)])]) [0] [.obj [pS 1 false encI L,pN (tStep L ap 6)]] rfl rfl rfl (handed_of (by decide) ⟨rfl,trivial⟩) rfl rfl rfl rfl rfl rfl (w_burgagekeep_Tape_Next L false (tStep L ap 6) 4 (by omega) (by omega)) rfl (dist_of rfl) rfl rfl rfl rfl ⟨rfl,rfl,rfl⟩) rfl rfl ?_)))
    have hb38 := tNext_lt L (tStep L ap 6) (n := 4) (by decide)
    refine d_op (xL [(36,PV.ref 5 0 none),(38,pI (tNext L (tStep L ap 6) 4))] [4,5,6] [(5,oB true 1 encI ([0,0,0,5] : List Int))] rfl rfl rfl rfl rfl (s_iaR0 (q := Int.toNat (tNext L (tStep L ap 6) 4)) (f := encI) (l := ([0,0,0,5] : List Int)) tab_28 rfl tab_3 rfl rfl (by omega) rfl rfl (by simp; omega) ⟨rfl,rfl,rfl⟩) ⟨rfl,trivial⟩ rfl (d_op ?_))
    obtain ⟨e2,he2⟩ := get_of_lt ([0,0,0,5] : List Int) (i := Int.toNat (tNext L (tStep L ap 6) 4)) (by simp; omega)
    refine xL [(39,PV.ep 5 (Int.toNat (tNext L (tStep L ap 6) 4)) 0)] [4,5,6,7] [(5,oB true 1 encI ([0,0,0,5] : List Int))] rfl rfl rfl rfl rfl (s_ldM (b := e2) (f := encI) tab_3 rfl rfl rfl rfl he2 rfl ⟨rfl,rfl,rfl⟩) ⟨rfl,trivial⟩ rfl ?_
    have hd4 := List.mem_of_getElem? he2
    simp only [List.mem_cons,List.not_mem_nil,or_false] at hd4
    refine d_op (x_run0 [(35,pI v0),(40,pI e2)] [1,2,3,4,5,6,7,8] rfl rfl rfl rfl (s_addi (r := v0 + e2) rfl rfl rfl (by omega) ⟨rfl,rfl,rfl⟩) (d_op (x_run0 [(9,pI 0)] [] rfl rfl rfl rfl (s_move rfl ⟨rfl,rfl,rfl⟩) (d_op (xL [(6,PV.ptr 2 0),(42,pI 0)] [10] [(2,.obj [pI f0,pI f1,pI f2,pI f3])] rfl rfl rfl rfl rfl (s_ia_arrN (q := 0) tab_110 rfl tab_3 rfl (by omega) rfl (by omega) ⟨rfl,rfl,rfl⟩) ⟨rfl,trivial⟩ rfl ?_)))))
    refine d_op (xL [(43,PV.ptr 2 0)] [10,11] [(2,.obj [pI f0,pI f1,pI f2,pI f3])] rfl rfl rfl rfl rfl (s_load_ptr1 tab_3 rfl rfl rfl rfl rfl ⟨rfl,rfl,rfl⟩) ⟨rfl,trivial⟩ rfl (d_op (x_run0 [(0,PV.ptr 0 0)] [] rfl rfl rfl rfl (s_move rfl ⟨rfl,rfl,rfl⟩) (d_op (xT [(45,PV.ptr 0 0)] [5,6,13] [(0,.obj [pS 1 false encI L,pN (tStep L (tStep L ap 6) 4)])] [(0,.obj [pS 1 false encI L,pN (tStep L (tStep L (tStep L ap 6) 4) 3)])] [(5,oB true 1 encI ([0,0,0,5] : List Int)),(4,oB true 1 encI ([3,0,3,1,2,3] : List Int)),(1,oB true 4 eWindow os),(2,.obj [pI f0,pI f1,pI f2,pI f3]),(3,.obj [pI v0,pI v1,pI v2,pI v3])] rfl rfl rfl rfl rfl (s_callX (r2 := pI (tNext L (tStep L (tStep L ap 6) 4) 3)) (nx1 := 6) (H2 := [(0,.obj [pS 1 false encI L,pN (tStep L (tStep L ap 6) 4)])]) (H3 := [(0,.obj [pS 1 false encI L,pN (tStep L (tStep L (tStep L ap 6) 4) 3)])]) [0] [.obj [pS 1 false encI L,pN (tStep L (tStep L ap 6) 4)]] rfl rfl rfl (handed_of (by decide) ⟨rfl,trivial⟩) rfl rfl rfl rfl rfl rfl (w_burgagekeep_Tape_Next L false (tStep L (tStep L ap 6) 4) 3 (by omega) (by omega)) rfl (dist_of rfl) rfl rfl rfl rfl ⟨rfl,rfl,rfl⟩) rfl rfl ?_)))))
    have hb46 := tNext_lt L (tStep L (tStep L ap 6) 4) (n := 3) (by decide)
    refine d_op (x_run0 [(44,pI f0),(46,pI (tNext L (tStep L (tStep L ap 6) 4) 3))] [5,6,10,11,12,13,14] rfl rfl rfl rfl (s_addi (r := f0 + (tNext L (tStep L (tStep L ap 6) 4) 3)) rfl rfl rfl (by omega) ⟨rfl,rfl,rfl⟩) (d_op (x_run0 [(0,PV.ptr 0 0)] [] rfl rfl rfl rfl (s_move rfl ⟨rfl,rfl,rfl⟩) (d_op (xT [(48,PV.ptr 0 0)] [5,6,13,14,16] [(0,.obj [pS 1 false encI L,pN (tStep L (tStep L (tStep L ap 6) 4) 3)])] [(0,.obj [pS 1 false encI L,pN (tStep L (tStep L (tStep L (tStep L ap 6) 4) 3) 18)])] [(5,oB true 1 encI ([0,0,0,5] : List Int)),(4,oB true 1 encI ([3,0,3,1,2,3] : List Int)),(1,oB true 4 eWindow os),(2,.obj [pI f0,pI f1,pI f2,pI f3]),(3,.obj [pI v0,pI v1,pI v2,pI v3])] rfl rfl rfl rfl rfl (s_callX (r2 := pI (tNext L (tStep L (tStep L (tStep L ap 6) 4) 3) 18)) (nx1 := 6) (H2 := [(0,.obj [pS 1 false encI L,pN (tStep L (tStep L (tStep L ap 6) 4) 3)])]) (H3 := [(0,.obj [pS 1 false encI L,pN (tStep L (tStep L (tStep L (tStep L ap 6) 4) 3) 18)])]) [0] [.obj [pS 1 false encI L,pN (tStep L (tStep L (tStep L ap 6) 4) 3)]] rfl rfl rfl (handed_of (by decide) ⟨rfl,trivial⟩) rfl rfl rfl rfl rfl rfl (w_burgagekeep_Tape_Next L false (tStep L (tStep L (tStep L ap 6) 4) 3) 18 (by omega) (by omega)) rfl (dist_of rfl) rfl rfl rfl rfl ⟨rfl,rfl,rfl⟩) rfl rfl ?_)))))
    have hb49 := tNext_lt L (tStep L (tStep L (tStep L ap 6) 4) 3) (n := 18) (by decide)
    refine d_op (x_run0 [(49,pI (tNext L (tStep L (tStep L (tStep L ap 6) 4) 3) 18))] [5,6,13,14,16,17] rfl rfl rfl rfl (s_addi (r := 1 + (tNext L (tStep L (tStep L (tStep L ap 6) 4) 3) 18)) rfl rfl rfl (by omega) ⟨rfl,rfl,rfl⟩) (d_op (x_run0 [(32,pI 0),(41,pI (v0 + e2)),(47,pI (f0 + (tNext L (tStep L (tStep L ap 6) 4) 3))),(50,pI (1 + (tNext L (tStep L (tStep L (tStep L ap 6) 4) 3) 18)))] (.range 19) rfl rfl rfl rfl (s_build tab_42 rfl rfl (b_cons rfl tab_3 rfl rfl rfl (Nat.le_of_ble_eq_true rfl) (b_cons rfl tab_3 rfl rfl rfl (Nat.le_of_ble_eq_true rfl) (b_cons rfl tab_3 rfl rfl rfl (Nat.le_of_ble_eq_true rfl) (b_cons rfl tab_3 rfl rfl rfl (Nat.le_of_ble_eq_true rfl) (b_nil ⟨rfl,rfl,rfl⟩)))))) (d_op (xT [] [] [] [(6,.obj [pI 0,pI 0,pI 0,pI 0])] [(0,.obj [pS 1 false encI L,pN (tStep L (tStep L (tStep L (tStep L ap 6) 4) 3) 18)]),(5,oB true 1 encI ([0,0,0,5] : List Int)),(4,oB true 1 encI ([3,0,3,1,2,3] : List Int)),(1,oB true 4 eWindow os),(2,.obj [pI f0,pI f1,pI f2,pI f3]),(3,.obj [pI v0,pI v1,pI v2,pI v3])] rfl rfl rfl rfl rfl (s_alloc tab_42 ⟨rfl,rfl,rfl⟩) rfl rfl ?_)))))
    refine d_op (xT [(10,PV.ptr 6 0),(51,PV.f (.agg [encI 0,encI (v0 + e2),encI (f0 + (tNext L (tStep L (tStep L ap 6) 4) 3)),encI (1 + (tNext L (tStep L (tStep L (tStep L ap 6) 4) 3) 18))]))] (.range 21) [(6,.obj [pI 0,pI 0,pI 0,pI 0])] [(6,.obj [pI 0,pI (v0 + e2),pI (f0 + (tNext L (tStep L (tStep L ap 6) 4) 3)),pI (1 + (tNext L (tStep L (tStep L (tStep L ap 6) 4) 3) 18))])] [(0,.obj [pS 1 false encI L,pN (tStep L (tStep L (tStep L (tStep L ap 6) 4) 3) 18)]),(5,oB true 1 encI ([0,0,0,5] : List Int)),(4,oB true 1 encI ([3,0,3,1,2,3] : List Int)),(1,oB true 4 eWindow os),(2,.obj [pI f0,pI f1,pI f2,pI f3]),(3,.obj [pI v0,pI v1,pI v2,pI v3])] rfl rfl rfl rfl rfl (s_store_ptr tab_42 rfl rfl rfl rfl rfl (Nat.le_of_ble_eq_true rfl) ⟨rfl,rfl,rfl⟩) rfl rfl (d_end ⟨by kernel_rfl, ?_⟩))
    refine q_then (w_seq (W_drawn tabOk mixed hnt [[],[],[],[2],[],[4],[2,3,4,5],[],[7],[],[9],[7,8,9,10],[0,2,3,4,5,6],[0,2,3,4,5,6,12],(.range 14),(.range 15)] (by kernel_rfl) (d_op (x_run0 [(9,pI 0)] [] rfl rfl rfl rfl (s_move rfl ⟨rfl,rfl,rfl⟩) (d_op ?_)))))
    refine x_run0 [(9,pI 0)] [] rfl rfl rfl rfl (s_move rfl ⟨rfl,rfl,rfl⟩) (d_op (x_run0 [(10,PV.ptr 6 0)] [] rfl rfl rfl rfl (s_fa_ptr tab_42 rfl rfl tab_3 (by decide) rfl ⟨rfl,rfl,rfl⟩) (d_op (xL [(54,PV.ptr 6 1)] [2] [(6,.obj [pI 0,pI (v0 + e2),pI (f0 + (tNext L (tStep L (tStep L ap 6) 4) 3)),pI (1 + (tNext L (tStep L (tStep L (tStep L ap 6) 4) 3) 18))])] rfl rfl rfl rfl rfl (s_load_ptr1 tab_3 rfl rfl rfl rfl rfl ⟨rfl,rfl,rfl⟩) ⟨rfl,trivial⟩ rfl (d_op ?_)))))
    refine x_run0 [(10,PV.ptr 6 0)] [] rfl rfl rfl rfl (s_fa_ptr tab_42 rfl rfl tab_3 (by decide) rfl ⟨rfl,rfl,rfl⟩) (d_op (xL [(56,PV.ptr 6 3)] [4] [(6,.obj [pI 0,pI (v0 + e2),pI (f0 + (tNext L (tStep L (tStep L ap 6) 4) 3)),pI (1 + (tNext L (tStep L (tStep L (tStep L ap 6) 4) 3) 18))])] rfl rfl rfl rfl rfl (s_load_ptr1 tab_3 rfl rfl rfl rfl rfl ⟨rfl,rfl,rfl⟩) ⟨rfl,trivial⟩ rfl (d_op (x_run0 [(55,pI (v0 + e2)),(57,pI (1 + (tNext L (tStep L (tStep L (tStep L ap 6) 4) 3) 18)))] [2,3,4,5] rfl rfl rfl rfl (s_addi (r := (v0 + e2) + (1 + (tNext L (tStep L (tStep L (tStep L ap 6) 4) 3) 18))) rfl rfl rfl (by omega) ⟨rfl,rfl,rfl⟩) (d_op ?_)))))
    refine x_run0 [(10,PV.ptr 6 0)] [] rfl rfl rfl rfl (s_fa_ptr tab_42 rfl rfl tab_3 (by decide) rfl ⟨rfl,rfl,rfl⟩) (d_op (xL [(59,PV.ptr 6 2)] [7] [(6,.obj [pI 0,pI (v0 + e2),pI (f0 + (tNext L (tStep L (tStep L ap 6) 4) 3)),pI (1 + (tNext L (tStep L (tStep L (tStep L ap 6) 4) 3) 18))])] rfl rfl rfl rfl rfl (s_load_ptr1 tab_3 rfl rfl rfl rfl rfl ⟨rfl,rfl,rfl⟩) ⟨rfl,trivial⟩ rfl (d_op (x_run0 [(10,PV.ptr 6 0)] [] rfl rfl rfl rfl (s_fa_ptr tab_42 rfl rfl tab_3 (by decide) rfl ⟨rfl,rfl,rfl⟩) (d_op ?_)))))
    refine xL [(61,PV.ptr 6 3)] [9] [(6,.obj [pI 0,pI (v0 + e2),pI (f0 + (tNext L (tStep L (tStep L ap 6) 4) 3)),pI (1 + (tNext L (tStep L (tStep L (tStep L ap 6) 4) 3) 18))])] rfl rfl rfl rfl rfl (s_load_ptr1 tab_3 rfl rfl rfl rfl rfl ⟨rfl,rfl,rfl⟩) ⟨rfl,trivial⟩ rfl (d_op (x_run0 [(60,pI (f0 + (tNext L (tStep L (tStep L ap 6) 4) 3))),(62,pI (1 + (tNext L (tStep L (tStep L (tStep L ap 6) 4) 3) 18)))] [7,8,9,10] rfl rfl rfl rfl (s_addi (r := (f0 + (tNext L (tStep L (tStep L ap 6) 4) 3)) + (1 + (tNext L (tStep L (tStep L (tStep L ap 6) 4) 3) 18))) rfl rfl rfl (by omega) ⟨rfl,rfl,rfl⟩) (d_op (xL [(7,PV.ptr 3 0),(52,pI 0)] [0,2,3,4,5,6] [(3,.obj [pI v0,pI v1,pI v2,pI v3])] rfl rfl rfl rfl rfl (s_ia_arrN (q := 0) tab_110 rfl tab_3 rfl (by omega) rfl (by omega) ⟨rfl,rfl,rfl⟩) ⟨rfl,trivial⟩ rfl (d_op ?_)))))
    refine xT [(64,PV.ptr 3 0),(58,pI ((v0 + e2) + (1 + (tNext L (tStep L (tStep L (tStep L ap 6) 4) 3) 18))))] [0,2,3,4,5,6,12] [(3,.obj [pI v0,pI v1,pI v2,pI v3])] [(3,.obj [pI ((v0 + e2) + (1 + (tNext L (tStep L (tStep L (tStep L ap 6) 4) 3) 18))),pI v1,pI v2,pI v3])] [(6,.obj [pI 0,pI (v0 + e2),pI (f0 + (tNext L (tStep L (tStep L ap 6) 4) 3)),pI (1 + (tNext L (tStep L (tStep L (tStep L ap 6) 4) 3) 18))]),(0,.obj [pS 1 false encI L,pN (tStep L (tStep L (tStep L (tStep L ap 6) 4) 3) 18)]),(5,oB true 1 encI ([0,0,0,5] : List Int)),(4,oB true 1 encI ([3,0,3,1,2,3] : List Int)),(1,oB true 4 eWindow os),(2,.obj [pI f0,pI f1,pI f2,pI f3])] rfl rfl rfl rfl rfl (s_store_ptr tab_3 rfl rfl rfl rfl rfl (Nat.le_of_ble_eq_true rfl) ⟨rfl,rfl,rfl⟩) rfl rfl (d_op (xL [(6,PV.ptr 2 0),(53,pI 0)] (.range 14) [(2,.obj [pI f0,pI f1,pI f2,pI f3])] rfl rfl rfl rfl rfl (s_ia_arrN (q := 0) tab_110 rfl tab_3 rfl (by omega) rfl (by omega) ⟨rfl,rfl,rfl⟩) ⟨rfl,trivial⟩ rfl (d_op (xT [(65,PV.ptr 2 0),(63,pI ((f0 + (tNext L (tStep L (tStep L ap 6) 4) 3)) + (1 + (tNext L (tStep L (tStep L (tStep L ap 6) 4) 3) 18))))] (.range 15) [(2,.obj [pI f0,pI f1,pI f2,pI f3])] [(2,.obj [pI ((f0 + (tNext L (tStep L (tStep L ap 6) 4) 3)) + (1 + (tNext L (tStep L (tStep L (tStep L ap 6) 4) 3) 18))),pI f1,pI f2,pI f3])] [(3,.obj [pI ((v0 + e2) + (1 + (tNext L (tStep L (tStep L (tStep L ap 6) 4) 3) 18))),pI v1,pI v2,pI v3]),(6,.obj [pI 0,pI (v0 + e2),pI (f0 + (tNext L (tStep L (tStep L ap 6) 4) 3)),pI (1 + (tNext L (tStep L (tStep L (tStep L ap 6) 4) 3) 18))]),(0,.obj [pS 1 false encI L,pN (tStep L (tStep L (tStep L (tStep L ap 6) 4) 3) 18)]),(5,oB true 1 encI ([0,0,0,5] : List Int)),(4,oB true 1 encI ([3,0,3,1,2,3] : List Int)),(1,oB true 4 eWindow os)] rfl rfl rfl rfl rfl (s_store_ptr tab_3 rfl rfl rfl rfl rfl (Nat.le_of_ble_eq_true rfl) ⟨rfl,rfl,rfl⟩) rfl rfl (d_end ⟨by kernel_rfl, ?_⟩)))))
    refine q_then (w_R (qm hnt rfl rfl (qo hnt rfl (s_load_ptr tab_42 rfl rfl rfl (Nat.le_of_ble_eq_true rfl) ?_))))
    refine qo hnt rfl (s_mkM (f := eWindow) [(⟨0,v0 + e2,f0 + (tNext L (tStep L (tStep L ap 6) 4) 3),1 + (tNext L (tStep L (tStep L (tStep L ap 6) 4) 3) 18)⟩ : TWindow)] tab_23 rfl tab_42 ⟨rfl,by decide⟩ (by decide) rfl rfl rfl rfl ?_)
    refine qo hnt rfl (s_appR0 (f := eWindow) (l := os) (xs := [(⟨0,v0 + e2,f0 + (tNext L (tStep L (tStep L ap 6) 4) 3),1 + (tNext L (tStep L (tStep L (tStep L ap 6) 4) 3) 18)⟩ : TWindow)]) tab_23 rfl tab_42 ⟨rfl,by decide,by decide⟩ (srcM tab_23 rfl (hM_ref0 (f := eWindow) rfl rfl)) rfl rfl (by (simp; omega)) ?_)
    refine qa hnt rfl rfl (r_set [(0,PV.ptr 0 0),(5,PV.ref 8 0 none),(6,PV.ptr 2 0),(7,PV.ptr 3 0),(8,pI kk)] [(8,oB true 4 eWindow (os ++ [(⟨0,v0 + e2,f0 + (tNext L (tStep L (tStep L ap 6) 4) 3),1 + (tNext L (tStep L (tStep L (tStep L ap 6) 4) 3) 18)⟩ : TWindow)])),(7,oB true 4 eWindow [(⟨0,v0 + e2,f0 + (tNext L (tStep L (tStep L ap 6) 4) 3),1 + (tNext L (tStep L (tStep L (tStep L ap 6) 4) 3) 18)⟩ : TWindow)]),(2,.obj [pI ((f0 + (tNext L (tStep L (tStep L ap 6) 4) 3)) + (1 + (tNext L (tStep L (tStep L (tStep L ap 6) 4) 3) 18))),pI f1,pI f2,pI f3]),(3,.obj [pI ((v0 + e2) + (1 + (tNext L (tStep L (tStep L (tStep L ap 6) 4) 3) 18))),pI v1,pI v2,pI v3]),(6,.obj [pI 0,pI (v0 + e2),pI (f0 + (tNext L (tStep L (tStep L ap 6) 4) 3)),pI (1 + (tNext L (tStep L (tStep L (tStep L ap 6) 4) 3) 18))]),(0,.obj [pS 1 false encI L,pN (tStep L (tStep L (tStep L (tStep L ap 6) 4) 3) 18)]),(5,oB true 1 encI ([0,0,0,5] : List Int)),(4,oB true 1 encI ([3,0,3,1,2,3] : List Int))] 9 ⟨rfl,rfl,rfl,rfl,rfl,trivial⟩ rfl rfl (r_end (q_block (q_then (w_R ?_)))))
    refine qm hnt rfl rfl (qo hnt rfl (s_subi (r := kk - 1) rfl rfl rfl (by omega) ?_))
    refine qa hnt rfl rfl (r_end (q_then (⟨(tStep L (tStep L (tStep L (tStep L ap 6) 4) 3) 18),(os ++ [(⟨0,v0 + e2,f0 + (tNext L (tStep L (tStep L ap 6) 4) 3),1 + (tNext L (tStep L (tStep L (tStep L ap 6) 4) 3) 18)⟩ : TWindow)]),((f0 + (tNext L (tStep L (tStep L ap 6) 4) 3)) + (1 + (tNext L (tStep L (tStep L (tStep L ap 6) 4) 3) 18))),(f1),(f2),(f3),((v0 + e2) + (1 + (tNext L (tStep L (tStep L (tStep L ap 6) 4) 3) 18))),(v1),(v2),(v3),(kk - 1), ?_, ?_,⟨[(0,0),(1,8),(2,2),(3,3)],by rw [hk]; decide,⟨⟨_,rfl,rfl,rfl⟩,⟨_,rfl,rfl,rfl⟩,⟨_,rfl,rfl,rfl⟩,⟨_,rfl,rfl,rfl⟩,⟨_,rfl,rfl,rfl⟩,trivial⟩,⟨⟨_,_,rfl,rfl,rfl,rfl⟩,⟨_,_,rfl,rfl,rfl,rfl⟩,⟨_,_,rfl,rfl,rfl,rfl⟩,⟨_,_,rfl,rfl,rfl,rfl⟩,trivial⟩,by rw [hk]; decide⟩⟩)))
    ·refine ⟨by simp; omega,by omega, ?_⟩
     exact hW.step0 (by omega) (by omega) (by omega)
    · omega
   ·refine w_eq (s := 9) (y := pI 1) rfl (congrArg pI hs1) (W_drawn tabOk mixed hnt [[],[],[1],[1,2],[],[],[5],[4,5,6],[4,5,6,7],[1,2,3,4,5,6,7,8],[],[10],[10,11],[],[5,6,13],[5,6,10,11,12,13,14],[],[5,6,13,14,16],[5,6,13,14,16,17],(.range 19),[],(.range 21)] (by kernel_rfl) (d_op (x_run0 [(9,pI 1)] [] rfl rfl rfl rfl (s_move rfl ⟨rfl,rfl,rfl⟩) (d_op (x_run0 [(9,pI 1)] [] rfl rfl rfl rfl (s_move rfl ⟨rfl,rfl,rfl⟩) ?_)))))
    refine d_op (xL [(7,PV.ptr 3 0),(33,pI 1)] [1] [(3,.obj [pI v0,pI v1,pI v2,pI v3])] rfl rfl rfl rfl rfl (s_ia_arrN (q := 1) tab_110 rfl tab_3 rfl (by omega) rfl (by omega) ⟨rfl,rfl,rfl⟩) ⟨rfl,trivial⟩ rfl (d_op (xL [(34,PV.ptr 3 1)] [1,2] [(3,.obj [pI v0,pI v1,pI v2,pI v3])] rfl rfl rfl rfl rfl (s_load_ptr1 tab_3 rfl rfl rfl rfl rfl ⟨rfl,rfl,rfl⟩) ⟨rfl,trivial⟩ rfl (d_op (xT [] [] [] [(5,oB true 1 encI ([0,0,0,5] : List Int))] [(0,.obj [pS 1 false encI L,pN (tStep L ap 6)]),(4,oB true 1 encI ([3,0,3,1,2,3] : List Int)),(1,oB true 4 eWindow os),(2,.obj [pI f0,pI f1,pI f2,pI f3]),(3,.obj [pI v0,pI v1,pI v2,pI v3])] rfl rfl rfl rfl rfl (s_mkM (f := encI) ([0,0,0,5] : List Int) tab_28 rfl tab_3 ⟨rfl,by decide⟩ (by decide) rfl rfl rfl rfl ⟨rfl,rfl,rfl⟩) rfl rfl ?_)))))
    refine d_op (x_run0 [(0,PV.ptr 0 0)] [] rfl rfl rfl rfl (s_move rfl ⟨rfl,rfl,rfl⟩) (d_op (xT [(37,PV.ptr 0 0)] [5] [(0,.obj [pS 1 false encI L,pN (tStep L ap 6)])] [(0,.obj [pS 1 false encI L,pN (tStep L (tStep L ap 6) 4)])] [(5,oB true 1 encI ([0,0,0,5] : List Int)),(4,oB true 1 encI ([3,0,3,1,2,3] : List Int)),(1,oB true 4 eWindow os),(2,.obj [pI f0,pI f1,pI f2,pI f3]),(3,.obj [pI v0,pI v1,pI v2,pI v3])] rfl rfl rfl rfl rfl (s_callX (r2 := pI (tNext L (tStep L ap 6) 4)) (nx1 := 6) (H2 := [(0,.obj [pS 1 false encI L,pN (tStep L ap 6)])]) (H3 := [(0,.obj [pS 1 false encI L,pN (tStep L (tStep L ap 6) 4)])]) [0] [.obj [pS 1 false encI L,pN (tStep L ap 6)]] rfl rfl rfl (handed_of (by decide) ⟨rfl,trivial⟩) rfl rfl rfl rfl rfl rfl (w_burgagekeep_Tape_Next L false (tStep L ap 6) 4 (by omega) (by omega)) rfl (dist_of rfl) rfl rfl rfl rfl ⟨rfl,rfl,rfl⟩) rfl rfl ?_)))
    have hb38 := tNext_lt L (tStep L ap 6) (n := 4) (by decide)
    refine d_op (xL [(36,PV.ref 5 0 none),(38,pI (tNext L (tStep L ap 6) 4))] [4,5,6] [(5,oB true 1 encI ([0,0,0,5] : List Int))] rfl rfl rfl rfl rfl (s_iaR0 (q := Int.toNat (tNext L (tStep L ap 6) 4)) (f := encI) (l := ([0,0,0,5] : List Int)) tab_28 rfl tab_3 rfl rfl (by omega) rfl rfl (by simp; omega) ⟨rfl,rfl,rfl⟩) ⟨rfl,trivial⟩ rfl (d_op ?_))
    obtain ⟨e3,he3⟩ := get_of_lt ([0,0,0,5] : List Int) (i := Int.toNat (tNext L (tStep L ap 6) 4)) (by simp; omega)
    refine xL [(39,PV.ep 5 (Int.toNat (tNext L (tStep L ap 6) 4)) 0)] [4,5,6,7] [(5,oB true 1 encI ([0,0,0,5] : List Int))] rfl rfl rfl rfl rfl (s_ldM (b := e3) (f := encI) tab_3 rfl rfl rfl rfl he3 rfl ⟨rfl,rfl,rfl⟩) ⟨rfl,trivial⟩ rfl ?_
    have hd4 := List.mem_of_getElem? he3
    simp only [List.mem_cons,List.not_mem_nil,or_false] at hd4
    refine d_op (x_run0 [(35,pI v1),(40,pI e3)] [1,2,3,4,5,6,7,8] rfl rfl rfl rfl (s_addi (r := v1 + e3) rfl rfl rfl (by omega) ⟨rfl,rfl,rfl⟩) (d_op (x_run0 [(9,pI 1)] [] rfl rfl rfl rfl (s_move rfl ⟨rfl,rfl,rfl⟩) (d_op (xL [(6,PV.ptr 2 0),(42,pI 1)] [10] [(2,.obj [pI f0,pI f1,pI f2,pI f3])] rfl rfl rfl rfl rfl (s_ia_arrN (q := 1) tab_110 rfl tab_3 rfl (by omega) rfl (by omega) ⟨rfl,rfl,rfl⟩) ⟨rfl,trivial⟩ rfl ?_)))))
    refine d_op (xL [(43,PV.ptr 2 1)] [10,11] [(2,.obj [pI f0,pI f1,pI f2,pI f3])] rfl rfl rfl rfl rfl (s_load_ptr1 tab_3 rfl rfl rfl rfl rfl ⟨rfl,rfl,rfl⟩) ⟨rfl,trivial⟩ rfl (d_op (x_run0 [(0,PV.ptr 0 0)] [] rfl rfl rfl rfl (s_move rfl ⟨rfl,rfl,rfl⟩) (d_op (xT [(45,PV.ptr 0 0)] [5,6,13] [(0,.obj [pS 1 false encI L,pN (tStep L (tStep L ap 6) 4)])] [(0,.obj [pS 1 false encI L,pN (tStep L (tStep L (tStep L ap 6) 4) 3)])] [(5,oB true 1 encI ([0,0,0,5] : List Int)),(4,oB true 1 encI ([3,0,3,1,2,3] : List Int)),(1,oB true 4 eWindow os),(2,.obj [pI f0,pI f1,pI f2,pI f3]),(3,.obj [pI v0,pI v1,pI v2,pI v3])] rfl rfl rfl rfl rfl (s_callX (r2 := pI (tNext L (tStep L (tStep L ap 6) 4) 3)) (nx1 := 6) (H2 := [(0,.obj [pS 1 false encI L,pN (tStep L (tStep L ap 6) 4)])]) (H3 := [(0,.obj [pS 1 false encI L,pN (tStep L (tStep L (tStep L ap 6) 4) 3)])]) [0] [.obj [pS 1 false encI L,pN (tStep L (tStep L ap 6) 4)]] rfl rfl rfl (handed_of (by decide) ⟨rfl,trivial⟩) rfl rfl rfl rfl rfl rfl (w_burgagekeep_Tape_Next L false (tStep L (tStep L ap 6) 4) 3 (by omega) (by omega)) rfl (dist_of rfl) rfl rfl rfl rfl ⟨rfl,rfl,rfl⟩) rfl rfl ?_)))))
    have hb46 := tNext_lt L (tStep L (tStep L ap 6) 4) (n := 3) (by decide)
    refine d_op (x_run0 [(44,pI f1),(46,pI (tNext L (tStep L (tStep L ap 6) 4) 3))] [5,6,10,11,12,13,14] rfl rfl rfl rfl (s_addi (r := f1 + (tNext L (tStep L (tStep L ap 6) 4) 3)) rfl rfl rfl (by omega) ⟨rfl,rfl,rfl⟩) (d_op (x_run0 [(0,PV.ptr 0 0)] [] rfl rfl rfl rfl (s_move rfl ⟨rfl,rfl,rfl⟩) (d_op (xT [(48,PV.ptr 0 0)] [5,6,13,14,16] [(0,.obj [pS 1 false encI L,pN (tStep L (tStep L (tStep L ap 6) 4) 3)])] [(0,.obj [pS 1 false encI L,pN (tStep L (tStep L (tStep L (tStep L ap 6) 4) 3) 18)])] [(5,oB true 1 encI ([0,0,0,5] : List Int)),(4,oB true 1 encI ([3,0,3,1,2,3] : List Int)),(1,oB true 4 eWindow os),(2,.obj [pI f0,pI f1,pI f2,pI f3]),(3,.obj [pI v0,pI v1,pI v2,pI v3])] rfl rfl rfl rfl rfl (s_callX (r2 := pI (tNext L (tStep L (tStep L (tStep L ap 6) 4) 3) 18)) (nx1 := 6) (H2 := [(0,.obj [pS 1 false encI L,pN (tStep L (tStep L (tStep L ap 6) 4) 3)])]) (H3 := [(0,.obj [pS 1 false encI L,pN (tStep L (tStep L (tStep L (tStep L ap 6) 4) 3) 18)])]) [0] [.obj [pS 1 false encI L,pN (tStep L (tStep L (tStep L ap 6) 4) 3)]] rfl rfl rfl (handed_of (by decide) ⟨rfl,trivial⟩) rfl rfl rfl rfl rfl rfl (w_burgagekeep_Tape_Next L false (tStep L (tStep L (tStep L ap 6) 4) 3) 18 (by omega) (by omega)) rfl (dist_of rfl) rfl rfl rfl rfl ⟨rfl,rfl,rfl⟩) rfl rfl ?_)))))
    have hb49 := tNext_lt L (tStep L (tStep L (tStep L ap 6) 4) 3) (n := 18) (by decide)
    refine d_op (x_run0 [(49,pI (tNext L (tStep L (tStep L (tStep L ap 6) 4) 3) 18))] [5,6,13,14,16,17] rfl rfl rfl rfl (s_addi (r := 1 + (tNext L (tStep L (tStep L (tStep L ap 6) 4) 3) 18)) rfl rfl rfl (by omega) ⟨rfl,rfl,rfl⟩) (d_op (x_run0 [(32,pI 1),(41,pI (v1 + e3)),(47,pI (f1 + (tNext L (tStep L (tStep L ap 6) 4) 3))),(50,pI (1 + (tNext L (tStep L (tStep L (tStep L ap 6) 4) 3) 18)))] (.range 19) rfl rfl rfl rfl (s_build tab_42 rfl rfl (b_cons rfl tab_3 rfl rfl rfl (Nat.le_of_ble_eq_true rfl) (b_cons rfl tab_3 rfl rfl rfl (Nat.le_of_ble_eq_true rfl) (b_cons rfl tab_3 rfl rfl rfl (Nat.le_of_ble_eq_true rfl) (b_cons rfl tab_3 rfl rfl rfl (Nat.le_of_ble_eq_true rfl) (b_nil ⟨rfl,rfl,rfl⟩)))))) (d_op (xT [] [] [] [(6,.obj [pI 0,pI 0,pI 0,pI 0])] [(0,.obj [pS 1 false encI L,pN (tStep L (tStep L (tStep L (tStep L ap 6) 4) 3) 18)]),(5,oB true 1 encI ([0,0,0,5] : List Int)),(4,oB true 1 encI ([3,0,3,1,2,3] : List Int)),(1,oB true 4 eWindow os),(2,.obj [pI f0,pI f1,pI f2,pI f3]),(3,.obj [pI v0,pI v1,pI v2,pI v3])] rfl rfl rfl rfl rfl (s_alloc tab_42 ⟨rfl,rfl,rfl⟩) rfl rfl ?_)))))
    refine d_op (xT [(10,PV.ptr 6 0),(51,PV.f (.agg [encI 1,encI (v1 + e3),encI (f1 + (tNext L (tStep L (tStep L ap 6) 4) 3)),encI (1 + (tNext L (tStep L (tStep L (tStep L ap 6) 4) 3) 18))]))] (.range 21) [(6,.obj [pI 0,pI 0,pI 0,pI 0])] [(6,.obj [pI 1,pI (v1 + e3),pI (f1 + (tNext L (tStep L (tStep L ap 6) 4) 3)),pI (1 + (tNext L (tStep L (tStep L (tStep L ap 6) 4) 3) 18))])] [(0,.obj [pS 1 false encI L,pN (tStep L (tStep L (tStep L (tStep L ap 6) 4) 3) 18)]),(5,oB true 1 encI ([0,0,0,5] : List Int)),(4,oB true 1 encI ([3,0,3,1,2,3] : List Int)),(1,oB true 4 eWindow os),(2,.obj [pI f0,pI f1,pI f2,pI f3]),(3,.obj [pI v0,pI v1,pI v2,pI v3])] rfl rfl rfl rfl rfl (s_store_ptr tab_42 rfl rfl rfl rfl rfl (Nat.le_of_ble_eq_true rfl) ⟨rfl,rfl,rfl⟩) rfl rfl (d_end ⟨by kernel_rfl, ?_⟩))
    refine q_then (w_seq (W_drawn tabOk mixed hnt [[],[],[],[2],[],[4],[2,3,4,5],[],[7],[],[9],[7,8,9,10],[0,2,3,4,5,6],[0,2,3,4,5,6,12],(.range 14),(.range 15)] (by kernel_rfl) (d_op (x_run0 [(9,pI 1)] [] rfl rfl rfl rfl (s_move rfl ⟨rfl,rfl,rfl⟩) (d_op ?_)))))
    refine x_run0 [(9,pI 1)] [] rfl rfl rfl rfl (s_move rfl ⟨rfl,rfl,rfl⟩) (d_op (x_run0 [(10,PV.ptr 6 0)] [] rfl rfl rfl rfl (s_fa_ptr tab_42 rfl rfl tab_3 (by decide) rfl ⟨rfl,rfl,rfl⟩) (d_op (xL [(54,PV.ptr 6 1)] [2] [(6,.obj [pI 1,pI (v1 + e3),pI (f1 + (tNext L (tStep L (tStep L ap 6) 4) 3)),pI (1 + (tNext L (tStep L (tStep L (tStep L ap 6) 4) 3) 18))])] rfl rfl rfl rfl rfl (s_load_ptr1 tab_3 rfl rfl rfl rfl rfl ⟨rfl,rfl,rfl⟩) ⟨rfl,trivial⟩ rfl (d_op ?_)))))
    refine x_run0 [(10,PV.ptr 6 0)] [] rfl rfl rfl rfl (s_fa_ptr tab_42 rfl rfl tab_3 (by decide) rfl ⟨rfl,rfl,rfl⟩) (d_op (xL [(56,PV.ptr 6 3)] [4] [(6,.obj [pI 1,pI (v1 + e3),pI (f1 + (tNext L (tStep L (tStep L ap 6) 4) 3)),pI (1 + (tNext L (tStep L (tStep L (tStep L ap 6) 4) 3) 18))])] rfl rfl rfl rfl rfl (s_load_ptr1 tab_3 rfl rfl rfl rfl rfl ⟨rfl,rfl,rfl⟩) ⟨rfl,trivial⟩ rfl (d_op (x_run0 [(55,pI (v1 + e3)),(57,pI (1 + (tNext L (tStep L (tStep L (tStep L ap 6) 4) 3) 18)))] [2,3,4,5] rfl rfl rfl rfl (s_addi (r := (v1 + e3) + (1 + (tNext L (tStep L (tStep L (tStep L ap 6) 4) 3) 18))) rfl rfl rfl (by omega) ⟨rfl,rfl,rfl⟩) (d_op ?_)))))
    refine x_run0 [(10,PV.ptr 6 0)] [] rfl rfl rfl rfl (s_fa_ptr tab_42 rfl rfl tab_3 (by decide) rfl ⟨rfl,rfl,rfl⟩) (d_op (xL [(59,PV.ptr 6 2)] [7] [(6,.obj [pI 1,pI (v1 + e3),pI (f1 + (tNext L (tStep L (tStep L ap 6) 4) 3)),pI (1 + (tNext L (tStep L (tStep L (tStep L ap 6) 4) 3) 18))])] rfl rfl rfl rfl rfl (s_load_ptr1 tab_3 rfl rfl rfl rfl rfl ⟨rfl,rfl,rfl⟩) ⟨rfl,trivial⟩ rfl (d_op (x_run0 [(10,PV.ptr 6 0)] [] rfl rfl rfl rfl (s_fa_ptr tab_42 rfl rfl tab_3 (by decide) rfl ⟨rfl,rfl,rfl⟩) (d_op ?_)))))
    refine xL [(61,PV.ptr 6 3)] [9] [(6,.obj [pI 1,pI (v1 + e3),pI (f1 + (tNext L (tStep L (tStep L ap 6) 4) 3)),pI (1 + (tNext L (tStep L (tStep L (tStep L ap 6) 4) 3) 18))])] rfl rfl rfl rfl rfl (s_load_ptr1 tab_3 rfl rfl rfl rfl rfl ⟨rfl,rfl,rfl⟩) ⟨rfl,trivial⟩ rfl (d_op (x_run0 [(60,pI (f1 + (tNext L (tStep L (tStep L ap 6) 4) 3))),(62,pI (1 + (tNext L (tStep L (tStep L (tStep L ap 6) 4) 3) 18)))] [7,8,9,10] rfl rfl rfl rfl (s_addi (r := (f1 + (tNext L (tStep L (tStep L ap 6) 4) 3)) + (1 + (tNext L (tStep L (tStep L (tStep L ap 6) 4) 3) 18))) rfl rfl rfl (by omega) ⟨rfl,rfl,rfl⟩) (d_op (xL [(7,PV.ptr 3 0),(52,pI 1)] [0,2,3,4,5,6] [(3,.obj [pI v0,pI v1,pI v2,pI v3])] rfl rfl rfl rfl rfl (s_ia_arrN (q := 1) tab_110 rfl tab_3 rfl (by omega) rfl (by omega) ⟨rfl,rfl,rfl⟩) ⟨rfl,trivial⟩ rfl (d_op ?_)))))
    refine xT [(64,PV.ptr 3 1),(58,pI ((v1 + e3) + (1 + (tNext L (tStep L (tStep L (tStep L ap 6) 4) 3) 18))))] [0,2,3,4,5,6,12] [(3,.obj [pI v0,pI v1,pI v2,pI v3])] [(3,.obj [pI v0,pI ((v1 + e3) + (1 + (tNext L (tStep L (tStep L (tStep L ap 6) 4) 3) 18))),pI v2,pI v3])] [(6,.obj [pI 1,pI (v1 + e3),pI (f1 + (tNext L (tStep L (tStep L ap 6) 4) 3)),pI (1 + (tNext L (tStep L (tStep L (tStep L ap 6) 4) 3) 18))]),(0,.obj [pS 1 false encI L,pN (tStep L (tStep L (tStep L (tStep L ap 6) 4) 3) 18)]),(5,oB true 1 encI ([0,0,0,5] : List Int)),(4,oB true 1 encI ([3,0,3,1,2,3] : List Int)),(1,oB true 4 eWindow os),(2,.obj [pI f0,pI f1,pI f2,pI f3])] rfl rfl rfl rfl rfl (s_store_ptr tab_3 rfl rfl rfl rfl rfl (Nat.le_of_ble_eq_true rfl) ⟨rfl,rfl,rfl⟩) rfl rfl (d_op (xL [(6,PV.ptr 2 0),(53,pI 1)] (.range 14) [(2,.obj [pI f0,pI f1,pI f2,pI f3])] rfl rfl rfl rfl rfl (s_ia_arrN (q := 1) tab_110 rfl tab_3 rfl (by omega) rfl (by omega) ⟨rfl,rfl,rfl⟩) ⟨rfl,trivial⟩ rfl (d_op (xT [(65,PV.ptr 2 1),(63,pI ((f1 + (tNext L (tStep L (tStep L ap 6) 4) 3)) + (1 + (tNext L (tStep L (tStep L (tStep L ap 6) 4) 3) 18))))] (.range 15) [(2,.obj [pI f0,pI f1,pI f2,pI f3])] [(2,.obj [pI f0,pI ((f1 + (tNext L (tStep L (tStep L ap 6) 4) 3)) + (1 + (tNext L (tStep L (tStep L (tStep L ap 6) 4) 3) 18))),pI f2,pI f3])] [(3,.obj [pI v0,pI ((v1 + e3) + (1 + (tNext L (tStep L (tStep L (tStep L ap 6) 4) 3) 18))),pI v2,pI v3]),(6,.obj [pI 1,pI (v1 + e3),pI (f1 + (tNext L (tStep L (tStep L ap 6) 4) 3)),pI (1 + (tNext L (tStep L (tStep L (tStep L ap 6) 4) 3) 18))]),(0,.obj [pS 1 false encI L,pN (tStep L (tStep L (tStep L (tStep L ap 6) 4) 3) 18)]),(5,oB true 1 encI ([0,0,0,5] : List Int)),(4,oB true 1 encI ([3,0,3,1,2,3] : List Int)),(1,oB true 4 eWindow os)] rfl rfl rfl rfl rfl (s_store_ptr tab_3 rfl rfl rfl rfl rfl (Nat.le_of_ble_eq_true rfl) ⟨rfl,rfl,rfl⟩) rfl rfl (d_end ⟨by kernel_rfl, ?_⟩)))))
    refine q_then (w_R (qm hnt rfl rfl (qo hnt rfl (s_load_ptr tab_42 rfl rfl rfl (Nat.le_of_ble_eq_true rfl) ?_))))
    refine qo hnt rfl (s_mkM (f := eWindow) [(⟨1,v1 + e3,f1 + (tNext L (tStep L (tStep L ap 6) 4) 3),1 + (tNext L (tStep L (tStep L (tStep L ap 6) 4) 3) 18)⟩ : TWindow)] tab_23 rfl tab_42 ⟨rfl,by decide⟩ (by decide) rfl rfl rfl rfl ?_)
    refine qo hnt rfl (s_appR0 (f := eWindow) (l := os) (xs := [(⟨1,v1 + e3,f1 + (tNext L (tStep L (tStep L ap 6) 4) 3),1 + (tNext L (tStep L (tStep L (tStep L ap 6) 4) 3) 18)⟩ : TWindow)]) tab_23 rfl tab_42 ⟨rfl,by decide,by decide⟩ (srcM tab_23 rfl (hM_ref0 (f := eWindow) rfl rfl)) rfl rfl (by (simp; omega)) ?_)
    refine qa hnt rfl rfl (r_set [(0,PV.ptr 0 0),(5,PV.ref 8 0 none),(6,PV.ptr 2 0),(7,PV.ptr 3 0),(8,pI kk)] [(8,oB true 4 eWindow (os ++ [(⟨1,v1 + e3,f1 + (tNext L (tStep L (tStep L ap 6) 4) 3),1 + (tNext L (tStep L (tStep L (tStep L ap 6) 4) 3) 18)⟩ : TWindow)])),(7,oB true 4 eWindow [(⟨1,v1 + e3,f1 + (tNext L (tStep L (tStep L ap 6) 4) 3),1 + (tNext L (tStep L (tStep L (tStep L ap 6) 4) 3) 18)⟩ : TWindow)]),(2,.obj [pI f0,pI ((f1 + (tNext L (tStep L (tStep L ap 6) 4) 3)) + (1 + (tNext L (tStep L (tStep L (tStep L ap 6) 4) 3) 18))),pI f2,pI f3]),(3,.obj [pI v0,pI ((v1 + e3) + (1 + (tNext L (tStep L (tStep L (tStep L ap 6) 4) 3) 18))),pI v2,pI v3]),(6,.obj [pI 1,pI (v1 + e3),pI (f1 + (tNext L (tStep L (tStep L ap 6) 4) 3)),pI (1 + (tNext L (tStep L (tStep L (tStep L ap 6) 4) 3) 18))]),(0,.obj [pS 1 false encI L,pN (tStep L (tStep L (tStep L (tStep L ap 6) 4) 3) 18)]),(5,oB true 1 encI ([0,0,0,5] : List Int)),(4,oB true 1 encI ([3,0,3,1,2,3] : List Int))] 9 ⟨rfl,rfl,rfl,rfl,rfl,trivial⟩ rfl rfl (r_end (q_block (q_then (w_R ?_)))))
    refine qm hnt rfl rfl (qo hnt rfl (s_subi (r := kk - 1) rfl rfl rfl (by omega) ?_))
    refine qa hnt rfl rfl (r_end (q_then (⟨(tStep L (tStep L (tStep L (tStep L ap 6) 4) 3) 18),(os ++ [(⟨1,v1 + e3,f1 + (tNext L (tStep L (tStep L ap 6) 4) 3),1 + (tNext L (tStep L (tStep L (tStep L ap 6) 4) 3) 18)⟩ : TWindow)]),(f0),((f1 + (tNext L (tStep L (tStep L ap 6) 4) 3)) + (1 + (tNext L (tStep L (tStep L (tStep L ap 6) 4) 3) 18))),(f2),(f3),(v0),((v1 + e3) + (1 + (tNext L (tStep L (tStep L (tStep L ap 6) 4) 3) 18))),(v2),(v3),(kk - 1), ?_, ?_,⟨[(0,0),(1,8),(2,2),(3,3)],by rw [hk]; decide,⟨⟨_,rfl,rfl,rfl⟩,⟨_,rfl,rfl,rfl⟩,⟨_,rfl,rfl,rfl⟩,⟨_,rfl,rfl,rfl⟩,⟨_,rfl,rfl,rfl⟩,trivial⟩,⟨⟨_,_,rfl,rfl,rfl,rfl⟩,⟨_,_,rfl,rfl,rfl,rfl⟩,⟨_,_,rfl,rfl,rfl,rfl⟩,⟨_,_,rfl,rfl,rfl,rfl⟩,trivial⟩,by rw [hk]; decide⟩⟩)))
    ·refine ⟨by simp; omega,by omega, ?_⟩
     exact hW.step1 (by omega) (by omega) (by omega)
    · omega
   ·refine w_eq (s := 9) (y := pI 2) rfl (congrArg pI hs1) (W_drawn tabOk mixed hnt [[],[],[1],[1,2],[],[],[5],[4,5,6],[4,5,6,7],[1,2,3,4,5,6,7,8],[],[10],[10,11],[],[5,6,13],[5,6,10,11,12,13,14],[],[5,6,13,14,16],[5,6,13,14,16,17],(.range 19),[],(.range 21)] (by kernel_rfl) (d_op (x_run0 [(9,pI 2)] [] rfl rfl rfl rfl (s_move rfl ⟨rfl,rfl,rfl⟩) (d_op (x_run0 [(9,pI 2)] [] rfl rfl rfl rfl (s_move rfl ⟨rfl,rfl,rfl⟩) ?_)))))
    refine d_op (xL [(7,PV.ptr 3 0),(33,pI 2)] [1] [(3,.obj [pI v0,pI v1,pI v2,pI v3])] rfl rfl rfl rfl rfl (s_ia_arrN (q := 2) tab_110 rfl tab_3 rfl (by omega) rfl (by omega) ⟨rfl,rfl,rfl⟩) ⟨rfl,trivial⟩ rfl (d_op (xL [(34,PV.ptr 3 2)] [1,2] [(3,.obj [pI v0,pI v1,pI v2,pI v3])] rfl rfl rfl rfl rfl (s_load_ptr1 tab_3 rfl rfl rfl rfl rfl ⟨rfl,rfl,rfl⟩) ⟨rfl,trivial⟩ rfl (d_op (xT [] [] [] [(5,oB true 1 encI ([0,0,0,5] : List Int))] [(0,.obj [pS 1 false encI L,pN (tStep L ap 6)]),(4,oB true 1 encI ([3,0,3,1,2,3] : List Int)),(1,oB true 4 eWindow os),(2,.obj [pI f0,pI f1,pI f2,pI f3]),(3,.obj [pI v0,pI v1,pI v2,pI v3])] rfl rfl rfl rfl rfl (s_mkM (f := encI) ([0,0,0,5] : List Int) tab_28 rfl tab_3 ⟨rfl,by decide⟩ (by decide) rfl rfl rfl rfl ⟨rfl,rfl,rfl⟩) rfl rfl ?_)))))
    refine d_op (x_run0 [(0,PV.ptr 0 0)] [] rfl rfl rfl rfl (s_move rfl ⟨rfl,rfl,rfl⟩) (d_op (xT [(37,PV.ptr 0 0)] [5] [(0,.obj [pS 1 false encI L,pN (tStep L ap 6)])] [(0,.obj [pS 1 false encI L,pN (tStep L (tStep L ap 6) 4)])] [(5,oB true 1 encI ([0,0,0,5] : List Int)),(4,oB true 1 encI ([3,0,3,1,2,3] : List Int)),(1,oB true 4 eWindow os),(2,.obj [pI f0,pI f1,pI f2,pI f3]),(3,.obj [pI v0,pI v1,pI v2,pI v3])] rfl rfl rfl rfl rfl (s_callX (r2 := pI (tNext L (tStep L ap 6) 4)) (nx1 := 6) (H2 := [(0,.obj [pS 1 false encI L,pN (tStep L ap 6)])]) (H3 := [(0,.obj [pS 1 false encI L,pN (tStep L (tStep L ap 6) 4)])]) [0] [.obj [pS 1 false encI L,pN (tStep L ap 6)]] rfl rfl rfl (handed_of (by decide) ⟨rfl,trivial⟩) rfl rfl rfl rfl rfl rfl (w_burgagekeep_Tape_Next L false (tStep L ap 6) 4 (by omega) (by omega)) rfl (dist_of rfl) rfl rfl rfl rfl ⟨rfl,rfl,rfl⟩) rfl rfl ?_)))
    have hb38 := tNext_lt L (tStep L ap 6) (n := 4) (by decide)
    refine d_op (xL [(36,PV.ref 5 0 none),(38,pI (tNext L (tStep L ap 6) 4))] [4,5,6] [(5,oB true 1 encI ([0,0,0,5] : List Int))] rfl rfl rfl rfl rfl (s_iaR0 (q := Int.toNat (tNext L (tStep L ap 6) 4)) (f := encI) (l := ([0,0,0,5] : List Int)) tab_28 rfl tab_3 rfl rfl (by omega) rfl rfl (by simp; omega) ⟨rfl,rfl,rfl⟩) ⟨rfl,trivial⟩ rfl (d_op ?_))
    obtain ⟨e4,he4⟩ := get_of_lt ([0,0,0,5] : List Int) (i := Int.toNat (tNext L (tStep L ap 6) 4)) (by simp; omega)
    refine xL [(39,PV.ep 5 (Int.toNat (tNext L (tStep L ap 6) 4)) 0)] [4,5,6,7] [(5,oB true 1 encI ([0,0,0,5] : List Int))] rfl rfl rfl rfl rfl (s_ldM (b := e4) (f := encI) tab_3 rfl rfl rfl rfl he4 rfl ⟨rfl,rfl,rfl⟩) ⟨rfl,trivial⟩ rfl ?_
    have hd4 := List.mem_of_getElem? he4
    simp only [List.mem_cons,List.not_mem_nil,or_false] at hd4
    refine d_op (x_run0 [(35,pI v2),(40,pI e4)] [1,2,3,4,5,6,7,8] rfl rfl rfl rfl (s_addi (r := v2 + e4) rfl rfl rfl (by omega) ⟨rfl,rfl,rfl⟩) (d_op (x_run0 [(9,pI 2)] [] rfl rfl rfl rfl (s_move rfl ⟨rfl,rfl,rfl⟩) (d_op (xL [(6,PV.ptr 2 0),(42,pI 2)] [10] [(2,.obj [pI f0,pI f1,pI f2,pI f3])] rfl rfl rfl rfl rfl (s_ia_arrN (q := 2) tab_110 rfl tab_3 rfl (by omega) rfl (by omega) ⟨rfl,rfl,rfl⟩) ⟨rfl,trivial⟩ rfl ?_)))))
    refine d_op (xL [(43,PV.ptr 2 2)] [10,11] [(2,.obj [pI f0,pI f1,pI f2,pI f3])] rfl rfl rfl rfl rfl (s_load_ptr1 tab_3 rfl rfl rfl rfl rfl ⟨rfl,rfl,rfl⟩) ⟨rfl,trivial⟩ rfl (d_op (x_run0 [(0,PV.ptr 0 0)] [] rfl rfl rfl rfl (s_move rfl ⟨rfl,rfl,rfl⟩) (d_op (xT [(45,PV.ptr 0 0)] [5,6,13] [(0,.obj [pS 1 false encI L,pN (tStep L (tStep L ap 6) 4)])] [(0,.obj [pS 1 false encI L,pN (tStep L (tStep L (tStep L ap 6) 4) 3)])] [(5,oB true 1 encI ([0,0,0,5] : List Int)),(4,oB true 1 encI ([3,0,3,1,2,3] : List Int)),(1,oB true 4 eWindow os),(2,.obj [pI f0,pI f1,pI f2,pI f3]),(3,.obj [pI v0,pI v1,pI v2,pI v3])] rfl rfl rfl rfl rfl (s_callX (r2 := pI (tNext L (tStep L (tStep L ap 6) 4) 3)) (nx1 := 6) (H2 := [(0,.obj [pS 1 false encI L,pN (tStep L (tStep L ap 6) 4)])]) (H3 := [(0,.obj [pS 1 false encI L,pN (tStep L (tStep L (tStep L ap 6) 4) 3)])]) [0] [.obj [pS 1 false encI L,pN (tStep L (tStep L ap 6) 4)]] rfl rfl rfl (handed_of (by decide) ⟨rfl,trivial⟩) rfl rfl rfl rfl rfl rfl (w_burgagekeep_Tape_Next L false (tStep L (tStep L ap 6) 4) 3 (by omega) (by omega)) rfl (dist_of rfl) rfl rfl rfl rfl ⟨rfl,rfl,rfl⟩) rfl rfl ?_)))))
    have hb46 := tNext_lt L (tStep L (tStep L ap 6) 4) (n := 3) (by decide)
    refine d_op (x_run0 [(44,pI f2),(46,pI (tNext L (tStep L (tStep L ap 6) 4) 3))] [5,6,10,11,12,13,14] rfl rfl rfl rfl (s_addi (r := f2 + (tNext L (tStep L (tStep L ap 6) 4) 3)) rfl rfl rfl (by omega) ⟨rfl,rfl,rfl⟩) (d_op (x_run0 [(0,PV.ptr 0 0)] [] rfl rfl rfl rfl (s_move rfl ⟨rfl,rfl,rfl⟩) (d_op (xT [(48,PV.ptr 0 0)] [5,6,13,14,16] [(0,.obj [pS 1 false encI L,pN (tStep L (tStep L (tStep L ap 6) 4) 3)])] [(0,.obj [pS 1 false encI L,pN (tStep L (tStep L (tStep L (tStep L ap 6) 4) 3) 18)])] [(5,oB true 1 encI ([0,0,0,5] : List Int)),(4,oB true 1 encI ([3,0,3,1,2,3] : List Int)),(1,oB true 4 eWindow os),(2,.obj [pI f0,pI f1,pI f2,pI f3]),(3,.obj [pI v0,pI v1,pI v2,pI v3])] rfl rfl rfl rfl rfl (s_callX (r2 := pI (tNext L (tStep L (tStep L (tStep L ap 6) 4) 3) 18)) (nx1 := 6) (H2 := [(0,.obj [pS 1 false encI L,pN (tStep L (tStep L (tStep L ap 6) 4) 3)])]) (H3 := [(0,.obj [pS 1 false encI L,pN (tStep L (tStep L (tStep L (tStep L ap 6) 4) 3) 18)])]) [0] [.obj [pS 1 false encI L,pN (tStep L (tStep L (tStep L ap 6) 4) 3)]] rfl rfl rfl (handed_of (by decide) ⟨rfl,trivial⟩) rfl rfl rfl rfl rfl rfl (w_burgagekeep_Tape_Next L false (tStep L (tStep L (tStep L ap 6) 4) 3) 18 (by omega) (by omega)) rfl (dist_of rfl) rfl rfl rfl rfl ⟨rfl,rfl,rfl⟩) rfl rfl ?_)))))
    have hb49 := tNext_lt L (tStep L (tStep L (tStep L ap 6) 4) 3) (n := 18) (by decide)
    refine d_op (x_run0 [(49,pI (tNext L (tStep L (tStep L (tStep L ap 6) 4) 3) 18))] [5,6,13,14,16,17] rfl rfl rfl rfl (s_addi (r := 1 + (tNext L (tStep L (tStep L (tStep L ap 6) 4) 3) 18)) rfl rfl rfl (by omega) ⟨rfl,rfl,rfl⟩) (d_op (x_run0 [(32,pI 2),(41,pI (v2 + e4)),(47,pI (f2 + (tNext L (tStep L (tStep L ap 6) 4) 3))),(50,pI (1 + (tNext L (tStep L (tStep L (tStep L ap 6) 4) 3) 18)))] (.range 19) rfl rfl rfl rfl (s_build tab_42 rfl rfl (b_cons rfl tab_3 rfl rfl rfl (Nat.le_of_ble_eq_true rfl) (b_cons rfl tab_3 rfl rfl rfl (Nat.le_of_ble_eq_true rfl) (b_cons rfl tab_3 rfl rfl rfl (Nat.le_of_ble_eq_true rfl) (b_cons rfl tab_3 rfl rfl rfl (Nat.le_of_ble_eq_true rfl) (b_nil ⟨rfl,rfl,rfl⟩)))))) (d_op (xT [] [] [] [(6,.obj [pI 0,pI 0,pI 0,pI 0])] [(0,.obj [pS 1 false encI L,pN (tStep L (tStep L (tStep L (tStep L ap 6) 4) 3) 18)]),(5,oB true 1 encI ([0,0,0,5] : List Int)),(4,oB true 1 encI ([3,0,3,1,2,3] : List Int)),(1,oB true 4 eWindow os),(2,.obj [pI f0,pI f1,pI f2,pI f3]),(3,.obj [pI v0,pI v1,pI v2,pI v3])] rfl rfl rfl rfl rfl (s_alloc tab_42 ⟨rfl,rfl,rfl⟩) rfl rfl ?_)))))
    refine d_op (xT [(10,PV.ptr 6 0),(51,PV.f (.agg [encI 2,encI (v2 + e4),encI (f2 + (tNext L (tStep L (tStep L ap 6) 4) 3)),encI (1 + (tNext L (tStep L (tStep L (tStep L ap 6) 4) 3) 18))]))] (.range 21) [(6,.obj [pI 0,pI 0,pI 0,pI 0])] [(6,.obj [pI 2,pI (v2 + e4),pI (f2 + (tNext L (tStep L (tStep L ap 6) 4) 3)),pI (1 + (tNext L (tStep L (tStep L (tStep L ap 6) 4) 3) 18))])] [(0,.obj [pS 1 false encI L,pN (tStep L (tStep L (tStep L (tStep L ap 6) 4) 3) 18)]),(5,oB true 1 encI ([0,0,0,5] : List Int)),(4,oB true 1 encI ([3,0,3,1,2,3] : List Int)),(1,oB true 4 eWindow os),(2,.obj [pI f0,pI f1,pI f2,pI f3]),(3,.obj [pI v0,pI v1,pI v2,pI v3])] rfl rfl rfl rfl rfl (s_store_ptr tab_42 rfl rfl rfl rfl rfl (Nat.le_of_ble_eq_true rfl) ⟨rfl,rfl,rfl⟩) rfl rfl (d_end ⟨by kernel_rfl, ?_⟩))
    refine q_then (w_seq (W_drawn tabOk mixed hnt [[],[],[],[2],[],[4],[2,3,4,5],[],[7],[],[9],[7,8,9,10],[0,2,3,4,5,6],[0,2,3,4,5,6,12],(.range 14),(.range 15)] (by kernel_rfl) (d_op (x_run0 [(9,pI 2)] [] rfl rfl rfl rfl (s_move rfl ⟨rfl,rfl,rfl⟩) (d_op ?_)))))
    refine x_run0 [(9,pI 2)] [] rfl rfl rfl rfl (s_move rfl ⟨rfl,rfl,rfl⟩) (d_op (x_run0 [(10,PV.ptr 6 0)] [] rfl rfl rfl rfl (s_fa_ptr tab_42 rfl rfl tab_3 (by decide) rfl ⟨rfl,rfl,rfl⟩) (d_op (xL [(54,PV.ptr 6 1)] [2] [(6,.obj [pI 2,pI (v2 + e4),pI (f2 + (tNext L (tStep L (tStep L ap 6) 4) 3)),pI (1 + (tNext L (tStep L (tStep L (tStep L ap 6) 4) 3) 18))])] rfl rfl rfl rfl rfl (s_load_ptr1 tab_3 rfl rfl rfl rfl rfl ⟨rfl,rfl,rfl⟩) ⟨rfl,trivial⟩ rfl (d_op ?_)))))
    refine x_run0 [(10,PV.ptr 6 0)] [] rfl rfl rfl rfl (s_fa_ptr tab_42 rfl rfl tab_3 (by decide) rfl ⟨rfl,rfl,rfl⟩) (d_op (xL [(56,PV.ptr 6 3)] [4] [(6,.obj [pI 2,pI (v2 + e4),pI (f2 + (tNext L (tStep L (tStep L ap 6) 4) 3)),pI (1 + (tNext L (tStep L (tStep L (tStep L ap 6) 4) 3) 18))])] rfl rfl rfl rfl rfl (s_load_ptr1 tab_3 rfl rfl rfl rfl rfl ⟨rfl,rfl,rfl⟩) ⟨rfl,trivial⟩ rfl (d_op (x_run0 [(55,pI (v2 + e4)),(57,pI (1 + (tNext L (tStep L (tStep L (tStep L ap 6) 4) 3) 18)))] [2,3,4,5] rfl rfl rfl rfl (s_addi (r := (v2 + e4) + (1 + (tNext L (tStep L (tStep L (tStep L ap 6) 4) 3) 18))) rfl rfl rfl (by omega) ⟨rfl,rfl,rfl⟩) (d_op ?_)))))
    refine x_run0 [(10,PV.ptr 6 0)] [] rfl rfl rfl rfl (s_fa_ptr tab_42 rfl rfl tab_3 (by decide) rfl ⟨rfl,rfl,rfl⟩) (d_op (xL [(59,PV.ptr 6 2)] [7] [(6,.obj [pI 2,pI (v2 + e4),pI (f2 + (tNext L (tStep L (tStep L ap 6) 4) 3)),pI (1 + (tNext L (tStep L (tStep L (tStep L ap 6) 4) 3) 18))])] rfl rfl rfl rfl rfl (s_load_ptr1 tab_3 rfl rfl rfl rfl rfl ⟨rfl,rfl,rfl⟩) ⟨rfl,trivial⟩ rfl (d_op (x_run0 [(10,PV.ptr 6 0)] [] rfl rfl rfl rfl (s_fa_ptr tab_42 rfl rfl tab_3 (by decide) rfl ⟨rfl,rfl,rfl⟩) (d_op ?_)))))
    refine xL [(61,PV.ptr 6 3)] [9] [(6,.obj [pI 2,pI (v2 + e4),pI (f2 + (tNext L (tStep L (tStep L ap 6) 4) 3)),pI (1 + (tNext L (tStep L (tStep L (tStep L ap 6) 4) 3) 18))])] rfl rfl rfl rfl rfl (s_load_ptr1 tab_3 rfl rfl rfl rfl rfl ⟨rfl,rfl,rfl⟩) ⟨rfl,trivial⟩ rfl (d_op (x_run0 [(60,pI (f2 + (tNext L (tStep L (tStep L ap 6) 4) 3))),(62,pI (1 + (tNext L (tStep L (tStep L (tStep L ap 6) 4) 3) 18)))] [7,8,9,10] rfl rfl rfl rfl (s_addi (r := (f2 + (tNext L (tStep L (tStep L ap 6) 4) 3)) + (1 + (tNext L (tStep L (tStep L (tStep L ap 6) 4) 3) 18))) rfl rfl rfl (by omega) ⟨rfl,rfl,rfl⟩) (d_op (xL [(7,PV.ptr 3 0),(52,pI 2)] [0,2,3,4,5,6] [(3,.obj [pI v0,pI v1,pI v2,pI v3])] rfl rfl rfl rfl rfl (s_ia_arrN (q := 2) tab_110 rfl tab_3 rfl (by omega) rfl (by omega) ⟨rfl,rfl,rfl⟩) ⟨rfl,trivial⟩ rfl (d_op ?_)))))
    refine xT [(64,PV.ptr 3 2),(58,pI ((v2 + e4) + (1 + (tNext L (tStep L (tStep L (tStep L ap 6) 4) 3) 18))))] [0,2,3,4,5,6,12] [(3,.obj [pI v0,pI v1,pI v2,pI v3])] [(3,.obj [pI v0,pI v1,pI ((v2 + e4) + (1 + (tNext L (tStep L (tStep L (tStep L ap 6) 4) 3) 18))),pI v3])] [(6,.obj [pI 2,pI (v2 + e4),pI (f2 + (tNext L (tStep L (tStep L ap 6) 4) 3)),pI (1 + (tNext L (tStep L (tStep L (tStep L ap 6) 4) 3) 18))]),(0,.obj [pS 1 false encI L,pN (tStep L (tStep L (tStep L (tStep L ap 6) 4) 3) 18)]),(5,oB true 1 encI ([0,0,0,5] : List Int)),(4,oB true 1 encI ([3,0,3,1,2,3] : List Int)),(1,oB true 4 eWindow os),(2,.obj [pI f0,pI f1,pI f2,pI f3])] rfl rfl rfl rfl rfl (s_store_ptr tab_3 rfl rfl rfl rfl rfl (Nat.le_of_ble_eq_true rfl) ⟨rfl,rfl,rfl⟩) rfl rfl (d_op (xL [(6,PV.ptr 2 0),(53,pI 2)] (.range 14) [(2,.obj [pI f0,pI f1,pI f2,pI f3])] rfl rfl rfl rfl rfl (s_ia_arrN (q := 2) tab_110 rfl tab_3 rfl (by omega) rfl (by omega) ⟨rfl,rfl,rfl⟩) ⟨rfl,trivial⟩ rfl (d_op (xT [(65,PV.ptr 2 2),(63,pI ((f2 + (tNext L (tStep L (tStep L ap 6) 4) 3)) + (1 + (tNext L (tStep L (tStep L (tStep L ap 6) 4) 3) 18))))] (.range 15) [(2,.obj [pI f0,pI f1,pI f2,pI f3])] [(2,.obj [pI f0,pI f1,pI ((f2 + (tNext L (tStep L (tStep L ap 6) 4) 3)) + (1 + (tNext L (tStep L (tStep L (tStep L ap 6) 4) 3) 18))),pI f3])] [(3,.obj [pI v0,pI v1,pI ((v2 + e4) + (1 + (tNext L (tStep L (tStep L (tStep L ap 6) 4) 3) 18))),pI v3]),(6,.obj [pI 2,pI (v2 + e4),pI (f2 + (tNext L (tStep L (tStep L ap 6) 4) 3)),pI (1 + (tNext L (tStep L (tStep L (tStep L ap 6) 4) 3) 18))]),(0,.obj [pS 1 false encI L,pN (tStep L (tStep L (tStep L (tStep L ap 6) 4) 3) 18)]),(5,oB true 1 encI ([0,0,0,5] : List Int)),(4,oB true 1 encI ([3,0,3,1,2,3] : List Int)),(1,oB true 4 eWindow os)] rfl rfl rfl rfl rfl (s_store_ptr tab_3 rfl rfl rfl rfl rfl (Nat.le_of_ble_eq_true rfl) ⟨rfl,rfl,rfl⟩) rfl rfl (d_end ⟨by kernel_rfl, ?_⟩)))))
    refine q_then (w_R (qm hnt rfl rfl (qo hnt rfl (s_load_ptr tab_42 rfl rfl rfl (Nat.le_of_ble_eq_true rfl) ?_))))
    refine qo hnt rfl (s_mkM (f := eWindow) [(⟨2,v2 + e4,f2 + (tNext L (tStep L (tStep L ap 6) 4) 3),1 + (tNext L (tStep L (tStep L (tStep L ap 6) 4) 3) 18)⟩ : TWindow)] tab_23 rfl tab_42 ⟨rfl,by decide⟩ (by decide) rfl rfl rfl rfl ?_)
    refine qo hnt rfl (s_appR0 (f := eWindow) (l := os) (xs := [(⟨2,v2 + e4,f2 + (tNext L (tStep L (tStep L ap 6) 4) 3),1 + (tNext L (tStep L (tStep L (tStep L ap 6) 4) 3) 18)⟩ : TWindow)]) tab_23 rfl tab_42 ⟨rfl,by decide,by decide⟩ (srcM tab_23 rfl (hM_ref0 (f := eWindow) rfl rfl)) rfl rfl (by (simp; omega)) ?_)
    refine qa hnt rfl rfl (r_set [(0,PV.ptr 0 0),(5,PV.ref 8 0 none),(6,PV.ptr 2 0),(7,PV.ptr 3 0),(8,pI kk)] [(8,oB true 4 eWindow (os ++ [(⟨2,v2 + e4,f2 + (tNext L (tStep L (tStep L ap 6) 4) 3),1 + (tNext L (tStep L (tStep L (tStep L ap 6) 4) 3) 18)⟩ : TWindow)])),(7,oB true 4 eWindow [(⟨2,v2 + e4,f2 + (tNext L (tStep L (tStep L ap 6) 4) 3),1 + (tNext L (tStep L (tStep L (tStep L ap 6) 4) 3) 18)⟩ : TWindow)]),(2,.obj [pI f0,pI f1,pI ((f2 + (tNext L (tStep L (tStep L ap 6) 4) 3)) + (1 + (tNext L (tStep L (tStep L (tStep L ap 6) 4) 3) 18))),pI f3]),(3,.obj [pI v0,pI v1,pI ((v2 + e4) + (1 + (tNext L (tStep L (tStep L (tStep L ap 6) 4) 3) 18))),pI v3]),(6,.obj [pI 2,pI (v2 + e4),pI (f2 + (tNext L (tStep L (tStep L ap 6) 4) 3)),pI (1 + (tNext L (tStep L (tStep L (tStep L ap 6) 4) 3) 18))]),(0,.obj [pS 1 false encI L,pN (tStep L (tStep L (tStep L (tStep L ap 6) 4) 3) 18)]),(5,oB true 1 encI ([0,0,0,5] : List Int)),(4,oB true 1 encI ([3,0,3,1,2,3] : List Int))] 9 ⟨rfl,rfl,rfl,rfl,rfl,trivial⟩ rfl rfl (r_end (q_block (q_then (w_R ?_)))))
    refine qm hnt rfl rfl (qo hnt rfl (s_subi (r := kk - 1) rfl rfl rfl (by omega) ?_))
    refine qa hnt rfl rfl (r_end (q_then (⟨(tStep L (tStep L (tStep L (tStep L ap 6) 4) 3) 18),(os ++ [(⟨2,v2 + e4,f2 + (tNext L (tStep L (tStep L ap 6) 4) 3),1 + (tNext L (tStep L (tStep L (tStep L ap 6) 4) 3) 18)⟩ : TWindow)]),(f0),(f1),((f2 + (tNext L (tStep L (tStep L ap 6) 4) 3)) + (1 + (tNext L (tStep L (tStep L (tStep L ap 6) 4) 3) 18))),(f3),(v0),(v1),((v2 + e4) + (1 + (tNext L (tStep L (tStep L (tStep L ap 6) 4) 3) 18))),(v3),(kk - 1), ?_, ?_,⟨[(0,0),(1,8),(2,2),(3,3)],by rw [hk]; decide,⟨⟨_,rfl,rfl,rfl⟩,⟨_,rfl,rfl,rfl⟩,⟨_,rfl,rfl,rfl⟩,⟨_,rfl,rfl,rfl⟩,⟨_,rfl,rfl,rfl⟩,trivial⟩,⟨⟨_,_,rfl,rfl,rfl,rfl⟩,⟨_,_,rfl,rfl,rfl,rfl⟩,⟨_,_,rfl,rfl,rfl,rfl⟩,⟨_,_,rfl,rfl,rfl,rfl⟩,trivial⟩,by rw [hk]; decide⟩⟩)))
    ·refine ⟨by simp; omega,by omega, ?_⟩
     exact hW.step2 (by omega) (by omega) (by omega)
    · omega
   ·refine w_eq (s := 9) (y := pI 3) rfl (congrArg pI hs1) (W_drawn tabOk mixed hnt [[],[],[1],[1,2],[],[],[5],[4,5,6],[4,5,6,7],[1,2,3,4,5,6,7,8],[],[10],[10,11],[],[5,6,13],[5,6,10,11,12,13,14],[],[5,6,13,14,16],[5,6,13,14,16,17],(.range 19),[],(.range 21)] (by kernel_rfl) (d_op (x_run0 [(9,pI 3)] [] rfl rfl rfl rfl (s_move rfl ⟨rfl,rfl,rfl⟩) (d_op (x_run0 [(9,pI 3)] [] rfl rfl rfl rfl (s_move rfl ⟨rfl,rfl,rfl⟩) ?_)))))
    refine d_op (xL [(7,PV.ptr 3 0),(33,pI 3)] [1] [(3,.obj [pI v0,pI v1,pI v2,pI v3])] rfl rfl rfl rfl rfl (s_ia_arrN (q := 3) tab_110 rfl tab_3 rfl (by omega) rfl (by omega) ⟨rfl,rfl,rfl⟩) ⟨rfl,trivial⟩ rfl (d_op (xL [(34,PV.ptr 3 3)] [1,2] [(3,.obj [pI v0,pI v1,pI v2,pI v3])] rfl rfl rfl rfl rfl (s_load_ptr1 tab_3 rfl rfl rfl rfl rfl ⟨rfl,rfl,rfl⟩) ⟨rfl,trivial⟩ rfl (d_op (xT [] [] [] [(5,oB true 1 encI ([0,0,0,5] : List Int))] [(0,.obj [pS 1 false encI L,pN (tStep L ap 6)]),(4,oB true 1 encI ([3,0,3,1,2,3] : List Int)),(1,oB true 4 eWindow os),(2,.obj [pI f0,pI f1,pI f2,pI f3]),(3,.obj [pI v0,pI v1,pI v2,pI v3])] rfl rfl rfl rfl rfl (s_mkM (f := encI) ([0,0,0,5] : List Int) tab_28 rfl tab_3 ⟨rfl,by decide⟩ (by decide) rfl rfl rfl rfl ⟨rfl,rfl,rfl⟩) rfl rfl ?_)))))
    refine d_op (x_run0 [(0,PV.ptr 0 0)] [] rfl rfl rfl rfl (s_move rfl ⟨rfl,rfl,rfl⟩) (d_op (xT [(37,PV.ptr 0 0)] [5] [(0,.obj [pS 1 false encI L,pN (tStep L ap 6)])] [(0,.obj [pS 1 false encI L,pN (tStep L (tStep L ap 6) 4)])] [(5,oB true 1 encI ([0,0,0,5] : List Int)),(4,oB true 1 encI ([3,0,3,1,2,3] : List Int)),(1,oB true 4 eWindow os),(2,.obj [pI f0,pI f1,pI f2,pI f3]),(3,.obj [pI v0,pI v1,pI v2,pI v3])] rfl rfl rfl rfl rfl (s_callX (r2 := pI (tNext L (tStep L ap 6) 4)) (nx1 := 6) (H2 := [(0,.obj [pS 1 false encI L,pN (tStep L ap 6)])]) (H3 := [(0,.obj [pS 1 false encI L,pN (tStep L (tStep L ap 6) 4)])]) [0] [.obj [pS 1 false encI L,pN (tStep L ap 6)]] rfl rfl rfl (handed_of (by decide) ⟨rfl,trivial⟩) rfl rfl rfl rfl rfl rfl (w_burgagekeep_Tape_Next L false (tStep L ap 6) 4 (by omega) (by omega)) rfl (dist_of rfl) rfl rfl rfl rfl ⟨rfl,rfl,rfl⟩) rfl rfl ?_)))
    have hb38 := tNext_lt L (tStep L ap 6) (n := 4) (by decide)
    refine d_op (xL [(36,PV.ref 5 0 none),(38,pI (tNext L (tStep L ap 6) 4))] [4,5,6] [(5,oB true 1 encI ([0,0,0,5] : List Int))] rfl rfl rfl rfl rfl (s_iaR0 (q := Int.toNat (tNext L (tStep L ap 6) 4)) (f := encI) (l := ([0,0,0,5] : List Int)) tab_28 rfl tab_3 rfl rfl (by omega) rfl rfl (by simp; omega) ⟨rfl,rfl,rfl⟩) ⟨rfl,trivial⟩ rfl (d_op ?_))
    obtain ⟨e5,he5⟩ := get_of_lt ([0,0,0,5] : List Int) (i := Int.toNat (tNext L (tStep L ap 6) 4)) (by simp; omega)
    refine xL [(39,PV.ep 5 (Int.toNat (tNext L (tStep L ap 6) 4)) 0)] [4,5,6,7] [(5,oB true 1 encI ([0,0,0,5] : List Int))] rfl rfl rfl rfl rfl (s_ldM (b := e5) (f := encI) tab_3 rfl rfl rfl rfl he5 rfl ⟨rfl,rfl,rfl⟩) ⟨rfl,trivial⟩ rfl ?_
    have hd4 := List.mem_of_getElem? he5
    simp only [List.mem_cons,List.not_mem_nil,or_false] at hd4
    refine d_op (x_run0 [(35,pI v3),(40,pI e5)] [1,2,3,4,5,6,7,8] rfl rfl rfl rfl (s_addi (r := v3 + e5) rfl rfl rfl (by omega) ⟨rfl,rfl,rfl⟩) (d_op (x_run0 [(9,pI 3)] [] rfl rfl rfl rfl (s_move rfl ⟨rfl,rfl,rfl⟩) (d_op (xL [(6,PV.ptr 2 0),(42,pI 3)] [10] [(2,.obj [pI f0,pI f1,pI f2,pI f3])] rfl rfl rfl rfl rfl (s_ia_arrN (q := 3) tab_110 rfl tab_3 rfl (by omega) rfl (by omega) ⟨rfl,rfl,rfl⟩) ⟨rfl,trivial⟩ rfl ?_)))))
    refine d_op (xL [(43,PV.ptr 2 3)] [10,11] [(2,.obj [pI f0,pI f1,pI f2,pI f3])] rfl rfl rfl rfl rfl (s_load_ptr1 tab_3 rfl rfl rfl rfl rfl ⟨rfl,rfl,rfl⟩) ⟨rfl,trivial⟩ rfl (d_op (x_run0 [(0,PV.ptr 0 0)] [] rfl rfl rfl rfl (s_move rfl ⟨rfl,rfl,rfl⟩) (d_op (xT [(45,PV.ptr 0 0)] [5,6,13] [(0,.obj [pS 1 false encI L,pN (tStep L (tStep L ap 6) 4)])] [(0,.obj [pS 1 false encI L,pN (tStep L (tStep L (tStep L ap 6) 4) 3)])] [(5,oB true 1 encI ([0,0,0,5] : List Int)),(4,oB true 1 encI ([3,0,3,1,2,3] : List Int)),(1,oB true 4 eWindow os),(2,.obj [pI f0,pI f1,pI f2,pI f3]),(3,.obj [pI v0,pI v1,pI v2,pI v3])] rfl rfl rfl rfl rfl (s_callX (r2 := pI (tNext L (tStep L (tStep L ap 6) 4) 3)) (nx1 := 6) (H2 := [(0,.obj [pS 1 false encI L,pN (tStep L (tStep L ap 6) 4)])]) (H3 := [(0,.obj [pS 1 false encI L,pN (tStep L (tStep L (tStep L ap 6) 4) 3)])]) [0] [.obj [pS 1 false encI L,pN (tStep L (tStep L ap 6) 4)]] rfl rfl rfl (handed_of (by decide) ⟨rfl,trivial⟩) rfl rfl rfl rfl rfl rfl (w_burgagekeep_Tape_Next L false (tStep L (tStep L ap 6) 4) 3 (by omega) (by omega)) rfl (dist_of rfl) rfl rfl rfl rfl ⟨rfl,rfl,rfl⟩) rfl rfl ?_)))))
    have hb46 := tNext_lt L (tStep L (tStep L ap 6) 4) (n := 3) (by decide)
    refine d_op (x_run0 [(44,pI f3),(46,pI (tNext L (tStep L (tStep L ap 6) 4) 3))] [5,6,10,11,12,13,14] rfl rfl rfl rfl (s_addi (r := f3 + (tNext L (tStep L (tStep L ap 6) 4) 3)) rfl rfl rfl (by omega) ⟨rfl,rfl,rfl⟩) (d_op (x_run0 [(0,PV.ptr 0 0)] [] rfl rfl rfl rfl (s_move rfl ⟨rfl,rfl,rfl⟩) (d_op (xT [(48,PV.ptr 0 0)] [5,6,13,14,16] [(0,.obj [pS 1 false encI L,pN (tStep L (tStep L (tStep L ap 6) 4) 3)])] [(0,.obj [pS 1 false encI L,pN (tStep L (tStep L (tStep L (tStep L ap 6) 4) 3) 18)])] [(5,oB true 1 encI ([0,0,0,5] : List Int)),(4,oB true 1 encI ([3,0,3,1,2,3] : List Int)),(1,oB true 4 eWindow os),(2,.obj [pI f0,pI f1,pI f2,pI f3]),(3,.obj [pI v0,pI v1,pI v2,pI v3])] rfl rfl rfl rfl rfl (s_callX (r2 := pI (tNext L (tStep L (tStep L (tStep L ap 6) 4) 3) 18)) (nx1 := 6) (H2 := [(0,.obj [pS 1 false encI L,pN (tStep L (tStep L (tStep L ap 6) 4) 3)])]) (H3 := [(0,.obj [pS 1 false encI L,pN (tStep L (tStep L (tStep L (tStep L ap 6) 4) 3) 18)])]) [0] [.obj [pS 1 false encI L,pN (tStep L (tStep L (tStep L ap 6) 4) 3)]] rfl rfl rfl (handed_of (by decide) ⟨rfl,trivial⟩) rfl rfl rfl rfl rfl rfl (w_burgagekeep_Tape_Next L false (tStep L (tStep L (tStep L ap 6) 4) 3) 18 (by omega) (by omega)) rfl (dist_of rfl) rfl rfl rfl rfl ⟨rfl,rfl,rfl⟩) rfl rfl ?_)))))
    have hb49 := tNext_lt L (tStep L (tStep L (tStep L ap 6) 4) 3) (n := 18) (by decide)
    refine d_op (x_run0 [(49,pI (tNext L (tStep L (tStep L (tStep L ap 6) 4) 3) 18))] [5,6,13,14,16,17] rfl rfl rfl rfl (s_addi (r := 1 + (tNext L (tStep L (tStep L (tStep L ap 6) 4) 3) 18)) rfl rfl rfl (by omega) ⟨rfl,rfl,rfl⟩) (d_op (x_run0 [(32,pI 3),(41,pI (v3 + e5)),(47,pI (f3 + (tNext L (tStep L (tStep L ap 6) 4) 3))),(50,pI (1 + (tNext L (tStep L (tStep L (tStep L ap 6) 4) 3) 18)))] (.range 19) rfl rfl rfl rfl (s_build tab_42 rfl rfl (b_cons rfl tab_3 rfl rfl rfl (Nat.le_of_ble_eq_true rfl) (b_cons rfl tab_3 rfl rfl rfl (Nat.le_of_ble_eq_true rfl) (b_cons rfl tab_3 rfl rfl rfl (Nat.le_of_ble_eq_true rfl) (b_cons rfl tab_3 rfl rfl rfl (Nat.le_of_ble_eq_true rfl) (b_nil ⟨rfl,rfl,rfl⟩)))))) (d_op (xT [] [] [] [(6,.obj [pI 0,pI 0,pI 0,pI 0])] [(0,.obj [pS 1 false encI L,pN (tStep L (tStep L (tStep L (tStep L ap 6) 4) 3) 18)]),(5,oB true 1 encI ([0,0,0,5] : List Int)),(4,oB true 1 encI ([3,0,3,1,2,3] : List Int)),(1,oB true 4 eWindow os),(2,.obj [pI f0,pI f1,pI f2,pI f3]),(3,.obj [pI v0,pI v1,pI v2,pI v3])] rfl rfl rfl rfl rfl (s_alloc tab_42 ⟨rfl,rfl,rfl⟩) rfl rfl ?_)))))
    refine d_op (xT [(10,PV.ptr 6 0),(51,PV.f (.agg [encI 3,encI (v3 + e5),encI (f3 + (tNext L (tStep L (tStep L ap 6) 4) 3)),encI (1 + (tNext L (tStep L (tStep L (tStep L ap 6) 4) 3) 18))]))] (.range 21) [(6,.obj [pI 0,pI 0,pI 0,pI 0])] [(6,.obj [pI 3,pI (v3 + e5),pI (f3 + (tNext L (tStep L (tStep L ap 6) 4) 3)),pI (1 + (tNext L (tStep L (tStep L (tStep L ap 6) 4) 3) 18))])] [(0,.obj [pS 1 false encI L,pN (tStep L (tStep L (tStep L (tStep L ap 6) 4) 3) 18)]),(5,oB true 1 encI ([0,0,0,5] : List Int)),(4,oB true 1 encI ([3,0,3,1,2,3] : List Int)),(1,oB true 4 eWindow os),(2,.obj [pI f0,pI f1,pI f2,pI f3]),(3,.obj [pI v0,pI v1,pI v2,pI v3])] rfl rfl rfl rfl rfl (s_store_ptr tab_42 rfl rfl rfl rfl rfl (Nat.le_of_ble_eq_true rfl) ⟨rfl,rfl,rfl⟩) rfl rfl (d_end ⟨by kernel_rfl, ?_⟩))
    refine q_then (w_seq (W_drawn tabOk mixed hnt [[],[],[],[2],[],[4],[2,3,4,5],[],[7],[],[9],[7,8,9,10],[0,2,3,4,5,6],[0,2,3,4,5,6,12],(.range 14),(.range 15)] (by kernel_rfl) (d_op (x_run0 [(9,pI 3)] [] rfl rfl rfl rfl (s_move rfl ⟨rfl,rfl,rfl⟩) (d_op ?_)))))
    refine x_run0 [(9,pI 3)] [] rfl rfl rfl rfl (s_move rfl ⟨rfl,rfl,rfl⟩) (d_op (x_run0 [(10,PV.ptr 6 0)] [] rfl rfl rfl rfl (s_fa_ptr tab_42 rfl rfl tab_3 (by decide) rfl ⟨rfl,rfl,rfl⟩) (d_op (xL [(54,PV.ptr 6 1)] [2] [(6,.obj [pI 3,pI (v3 + e5),pI (f3 + (tNext L (tStep L (tStep L ap 6) 4) 3)),pI (1 + (tNext L (tStep L (tStep L (tStep L ap 6) 4) 3) 18))])] rfl rfl rfl rfl rfl (s_load_ptr1 tab_3 rfl rfl rfl rfl rfl ⟨rfl,rfl,rfl⟩) ⟨rfl,trivial⟩ rfl (d_op ?_)))))
    refine x_run0 [(10,PV.ptr 6 0)] [] rfl rfl rfl rfl (s_fa_ptr tab_42 rfl rfl tab_3 (by decide) rfl ⟨rfl,rfl,rfl⟩) (d_op (xL [(56,PV.ptr 6 3)] [4] [(6,.obj [pI 3,pI (v3 + e5),pI (f3 + (tNext L (tStep L (tStep L ap 6) 4) 3)),pI (1 + (tNext L (tStep L (tStep L (tStep L ap 6) 4) 3) 18))])] rfl rfl rfl rfl rfl (s_load_ptr1 tab_3 rfl rfl rfl rfl rfl ⟨rfl,rfl,rfl⟩) ⟨rfl,trivial⟩ rfl (d_op (x_run0 [(55,pI (v3 + e5)),(57,pI (1 + (tNext L (tStep L (tStep L (tStep L ap 6) 4) 3) 18)))] [2,3,4,5] rfl rfl rfl rfl (s_addi (r := (v3 + e5) + (1 + (tNext L (tStep L (tStep L (tStep L ap 6) 4) 3) 18))) rfl rfl rfl (by omega) ⟨rfl,rfl,rfl⟩) (d_op ?_)))))
    refine x_run0 [(10,PV.ptr 6 0)] [] rfl rfl rfl rfl (s_fa_ptr tab_42 rfl rfl tab_3 (by decide) rfl ⟨rfl,rfl,rfl⟩) (d_op (xL [(59,PV.ptr 6 2)] [7] [(6,.obj [pI 3,pI (v3 + e5),pI (f3 + (tNext L (tStep L (tStep L ap 6) 4) 3)),pI (1 + (tNext L (tStep L (tStep L (tStep L ap 6) 4) 3) 18))])] rfl rfl rfl rfl rfl (s_load_ptr1 tab_3 rfl rfl rfl rfl rfl ⟨rfl,rfl,rfl⟩) ⟨rfl,trivial⟩ rfl (d_op (x_run0 [(10,PV.ptr 6 0)] [] rfl rfl rfl rfl (s_fa_ptr tab_42 rfl rfl tab_3 (by decide) rfl ⟨rfl,rfl,rfl⟩) (d_op ?_)))))
    refine xL [(61,PV.ptr 6 3)] [9] [(6,.obj [pI 3,pI (v3 + e5),pI (f3 + (tNext L (tStep L (tStep L ap 6) 4) 3)),pI (1 + (tNext L (tStep L (tStep L (tStep L ap 6) 4) 3) 18))])] rfl rfl rfl rfl rfl (s_load_ptr1 tab_3 rfl rfl rfl rfl rfl ⟨rfl,rfl,rfl⟩) ⟨rfl,trivial⟩ rfl (d_op (x_run0 [(60,pI (f3 + (tNext L (tStep L (tStep L ap 6) 4) 3))),(62,pI (1 + (tNext L (tStep L (tStep L (tStep L ap 6) 4) 3) 18)))] [7,8,9,10] rfl rfl rfl rfl (s_addi (r := (f3 + (tNext L (tStep L (tStep L ap 6) 4) 3)) + (1 + (tNext L (tStep L (tStep L (tStep L ap 6) 4) 3) 18))) rfl rfl rfl (by omega) ⟨rfl,rfl,rfl⟩) (d_op (xL [(7,PV.ptr 3 0),(52,pI 3)] [0,2,3,4,5,6] [(3,.obj [pI v0,pI v1,pI v2,pI v3])] rfl rfl rfl rfl rfl (s_ia_arrN (q := 3) tab_110 rfl tab_3 rfl (by omega) rfl (by omega) ⟨rfl,rfl,rfl⟩) ⟨rfl,trivial⟩ rfl (d_op ?_)))))
    refine xT [(64,PV.ptr 3 3),(58,pI ((v3 + e5) + (1 + (tNext L (tStep L (tStep L (tStep L ap 6) 4) 3) 18))))] [0,2,3,4,5,6,12] [(3,.obj [pI v0,pI v1,pI v2,pI v3])] [(3,.obj [pI v0,pI v1,pI v2,pI ((v3 + e5) + (1 + (tNext L (tStep L (tStep L (tStep L ap 6) 4) 3) 18)))])] [(6,.obj [pI 3,pI (v3 + e5),pI (f3 + (tNext L (tStep L (tStep L ap 6) 4) 3)),pI (1 + (tNext L (tStep L (tStep L (tStep L ap 6) 4) 3) 18))]),(0,.obj [pS 1 false encI L,pN (tStep L (tStep L (tStep L (tStep L ap 6) 4) 3) 18)]),(5,oB true 1 encI ([0,0,0,5] : List Int)),(4,oB true 1 encI ([3,0,3,1,2,3] : List Int)),(1,oB true 4 eWindow os),(2,.obj [pI f0,pI f1,pI f2,pI f3])] rfl rfl rfl rfl rfl (s_store_ptr tab_3 rfl rfl rfl rfl rfl (Nat.le_of_ble_eq_true rfl) ⟨rfl,rfl,rfl⟩) rfl rfl (d_op (xL [(6,PV.ptr 2 0),(53,pI 3)] (.range 14) [(2,.obj [pI f0,pI f1,pI f2,pI f3])] rfl rfl rfl rfl rfl (s_ia_arrN (q := 3) tab_110 rfl tab_3 rfl (by omega) rfl (by omega) ⟨rfl,rfl,rfl⟩) ⟨rfl,trivial⟩ rfl (d_op (xT [(65,PV.ptr 2 3),(63,pI ((f3 + (tNext L (tStep L (tStep L ap 6) 4) 3)) + (1 + (tNext L (tStep L (tStep L (tStep L ap 6) 4) 3) 18))))] (.range 15) [(2,.obj [pI f0,pI f1,pI f2,pI f3])] [(2,.obj [pI f0,pI f1,pI f2,pI ((f3 + (tNext L (tStep L (tStep L ap 6) 4) 3)) + (1 + (tNext L (tStep L (tStep L (tStep L ap 6) 4) 3) 18)))])] [(3,.obj [pI v0,pI v1,pI v2,pI ((v3 + e5) + (1 + (tNext L (tStep L (tStep L (tStep L ap 6) 4) 3) 18)))]),(6,.obj [pI 3,pI (v3 + e5),pI (f3 + (tNext L (tStep L (tStep L ap 6) 4) 3)),pI (1 + (tNext L (tStep L (tStep L (tStep L ap 6) 4) 3) 18))]),(0,.obj [pS 1 false encI L,pN (tStep L (tStep L (tStep L (tStep L ap 6) 4) 3) 18)]),(5,oB true 1 encI ([0,0,0,5] : List Int)),(4,oB true 1 encI ([3,0,3,1,2,3] : List Int)),(1,oB true 4 eWindow os)] rfl rfl rfl rfl rfl (s_store_ptr tab_3 rfl rfl rfl rfl rfl (Nat.le_of_ble_eq_true rfl) ⟨rfl,rfl,rfl⟩) rfl rfl (d_end ⟨by kernel_rfl, ?_⟩)))))
    refine q_then (w_R (qm hnt rfl rfl (qo hnt rfl (s_load_ptr tab_42 rfl rfl rfl (Nat.le_of_ble_eq_true rfl) ?_))))
    refine qo hnt rfl (s_mkM (f := eWindow) [(⟨3,v3 + e5,f3 + (tNext L (tStep L (tStep L ap 6) 4) 3),1 + (tNext L (tStep L (tStep L (tStep L ap 6) 4) 3) 18)⟩ : TWindow)] tab_23 rfl tab_42 ⟨rfl,by decide⟩ (by decide) rfl rfl rfl rfl ?_)
    refine qo hnt rfl (s_appR0 (f := eWindow) (l := os) (xs := [(⟨3,v3 + e5,f3 + (tNext L (tStep L (tStep L ap 6) 4) 3),1 + (tNext L (tStep L (tStep L (tStep L ap 6) 4) 3) 18)⟩ : TWindow)]) tab_23 rfl tab_42 ⟨rfl,by decide,by decide⟩ (srcM tab_23 rfl (hM_ref0 (f := eWindow) rfl rfl)) rfl rfl (by (simp; omega)) ?_)
    refine qa hnt rfl rfl (r_set [(0,PV.ptr 0 0),(5,PV.ref 8 0 none),(6,PV.ptr 2 0),(7,PV.ptr 3 0),(8,pI kk)] [(8,oB true 4 eWindow (os ++ [(⟨3,v3 + e5,f3 + (tNext L (tStep L (tStep L ap 6) 4) 3),1 + (tNext L (tStep L (tStep L (tStep L ap 6) 4) 3) 18)⟩ : TWindow)])),(7,oB true 4 eWindow [(⟨3,v3 + e5,f3 + (tNext L (tStep L (tStep L ap 6) 4) 3),1 + (tNext L (tStep L (tStep L (tStep L ap 6) 4) 3) 18)⟩ : TWindow)]),(2,.obj [pI f0,pI f1,pI f2,pI ((f3 + (tNext L (tStep L (tStep L ap 6) 4) 3)) + (1 + (tNext L (tStep L (tStep L (tStep L ap 6) 4) 3) 18)))]),(3,.obj [pI v0,pI v1,pI v2,pI ((v3 + e5) + (1 + (tNext L (tStep L (tStep L (tStep L ap 6) 4) 3) 18)))]),(6,.obj [pI 3,pI (v3 + e5),pI (f3 + (tNext L (tStep L (tStep L ap 6) 4) 3)),pI (1 + (tNext L (tStep L (tStep L (tStep L ap 6) 4) 3) 18))]),(0,.obj [pS 1 false encI L,pN (tStep L (tStep L (tStep L (tStep L ap 6) 4) 3) 18)]),(5,oB true 1 encI ([0,0,0,5] : List Int)),(4,oB true 1 encI ([3,0,3,1,2,3] : List Int))] 9 ⟨rfl,rfl,rfl,rfl,rfl,trivial⟩ rfl rfl (r_end (q_block (q_then (w_R ?_)))))
    refine qm hnt rfl rfl (qo hnt rfl (s_subi (r := kk - 1) rfl rfl rfl (by omega) ?_))
    refine qa hnt rfl rfl (r_end (q_then (⟨(tStep L (tStep L (tStep L (tStep L ap 6) 4) 3) 18),(os ++ [(⟨3,v3 + e5,f3 + (tNext L (tStep L (tStep L ap 6) 4) 3),1 + (tNext L (tStep L (tStep L (tStep L ap 6) 4) 3) 18)⟩ : TWindow)]),(f0),(f1),(f2),((f3 + (tNext L (tStep L (tStep L ap 6) 4) 3)) + (1 + (tNext L (tStep L (tStep L (tStep L ap 6) 4) 3) 18))),(v0),(v1),(v2),((v3 + e5) + (1 + (tNext L (tStep L (tStep L (tStep L ap 6) 4) 3) 18))),(kk - 1), ?_, ?_,⟨[(0,0),(1,8),(2,2),(3,3)],by rw [hk]; decide,⟨⟨_,rfl,rfl,rfl⟩,⟨_,rfl,rfl,rfl⟩,⟨_,rfl,rfl,rfl⟩,⟨_,rfl,rfl,rfl⟩,⟨_,rfl,rfl,rfl⟩,trivial⟩,⟨⟨_,_,rfl,rfl,rfl,rfl⟩,⟨_,_,rfl,rfl,rfl,rfl⟩,⟨_,_,rfl,rfl,rfl,rfl⟩,⟨_,_,rfl,rfl,rfl,rfl⟩,trivial⟩,by rw [hk]; decide⟩⟩)))
    ·refine ⟨by simp; omega,by omega, ?_⟩
     exact hW.step3 (by omega) (by omega) (by omega)
    · omega
  try simp only [sB] at c1
  refine w_exit (q_then_exit (q_then_exit (q_block_exit (q_then (w_seq ?_)))))
  refine w_R (qm hnt rfl rfl (qa hnt rfl rfl (r_end (q_then (w_frzM (s := 4) (f := eWindow) rfl rfl view_0 ?_)))))
  refine w_ret ?_
  have hex : WinsOk os := by
    exact hW.ok (by omega) (by omega)
  exact fin_names (nx1 := 1) (H1 := [(0,.obj [pS 1 false encI L,pN ap])]) [(0,0)] (ret_tmp rfl ret_nil) rfl (by decide) ⟨⟨_,_,rfl,rfl,rfl,rfl⟩,trivial⟩ (by decide) rfl ⟨(os),(ap),hex,rfl,rfl,rfl⟩
theorem w_burgagekeep_Tape_Table (L : List Int) (cl_L : Bool) (a : Nat) (hL : L.length ≤ 70000000000000) :
    T Try.prog 29 [PV.ptr 0 0] 1 [(0,.obj [pS 1 cl_L encI L,pN a])] (fun ra rb rc => ∃ X : TTable,∃ b : Nat,(TabG X) ∧ (Ret (PV.f (eTable X)) 1 [(0,.obj [pS 1 false encI L,pN b])]) ra rb rc) := by
 refine t_fun tabOk (n := 83) (rs := [.cell 2 70]) Try.func29 rfl rfl rfl rfl (Nat.le_of_ble_eq_true rfl) ?_
 intro c hnt hk
 refine w_seq (w_R (qo hnt rfl (s_alloc tab_70 ?_)))
 refine r_set [(0,PV.ptr 0 0),(2,PV.ptr 1 0)] [(1,.obj [pI 0,pNil]),(0,.obj [pS 1 cl_L encI L,pN a])] 2 ⟨rfl,rfl,trivial⟩ rfl rfl (r_end (q_then (w_seq (w_R (qm hnt rfl rfl ?_)))))
 refine qo hnt rfl (s_callX (r2 := pI (tNext L a 4)) (nx1 := 2) (H2 := [(1,.obj [pI 0,pNil]),(0,.obj [pS 1 cl_L encI L,pN a])]) (H3 := [(0,.obj [pS 1 false encI L,pN (tStep L a 4)]),(1,.obj [pI 0,pNil])]) [0] [.obj [pS 1 cl_L encI L,pN a]] rfl rfl rfl (handed_of (by decide) ⟨rfl,trivial⟩) rfl rfl rfl rfl rfl rfl (w_burgagekeep_Tape_Next L cl_L a 4 (by omega) (by omega)) rfl (dist_of rfl) rfl rfl rfl rfl ?_)
 have hb11 := tNext_lt L a (n := 4) (by decide)
 refine qo hnt rfl (s_addi (r := 1 + (tNext L a 4)) rfl rfl rfl (by omega) ?_)
 refine qa hnt rfl rfl (r_set [(0,PV.ptr 0 0),(2,PV.ptr 1 0),(3,pI (1 + (tNext L a 4)))] [(0,.obj [pS 1 false encI L,pN (tStep L a 4)]),(1,.obj [pI 0,pNil])] 2 ⟨rfl,rfl,rfl,trivial⟩ rfl rfl (r_end (q_then (w_seq (w_R ?_)))))
 refine qo hnt rfl (s_alloc tab_70 ?_)
 refine r_set [(0,PV.ptr 0 0),(2,PV.ptr 1 0),(3,pI (1 + (tNext L a 4))),(4,PV.ptr 2 0)] [(2,.obj [pI 0,pNil]),(0,.obj [pS 1 false encI L,pN (tStep L a 4)]),(1,.obj [pI 0,pNil])] 3 ⟨rfl,rfl,rfl,rfl,trivial⟩ rfl rfl (r_end (q_then (w_seq (w_R (qm hnt rfl rfl ?_)))))
 refine qo hnt rfl (s_callX (r2 := pI (tNext L (tStep L a 4) 5)) (nx1 := 3) (H2 := [(2,.obj [pI 0,pNil]),(0,.obj [pS 1 false encI L,pN (tStep L a 4)]),(1,.obj [pI 0,pNil])]) (H3 := [(0,.obj [pS 1 false encI L,pN (tStep L (tStep L a 4) 5)]),(2,.obj [pI 0,pNil]),(1,.obj [pI 0,pNil])]) [0] [.obj [pS 1 false encI L,pN (tStep L a 4)]] rfl rfl rfl (handed_of (by decide) ⟨rfl,trivial⟩) rfl rfl rfl rfl rfl rfl (w_burgagekeep_Tape_Next L false (tStep L a 4) 5 (by omega) (by omega)) rfl (dist_of rfl) rfl rfl rfl rfl ?_)
 have hb14 := tNext_lt L (tStep L a 4) (n := 5) (by decide)
 refine qa hnt rfl rfl (r_set [(0,PV.ptr 0 0),(2,PV.ptr 1 0),(3,pI (1 + (tNext L a 4))),(4,PV.ptr 2 0),(5,pI (tNext L (tStep L a 4) 5))] [(0,.obj [pS 1 false encI L,pN (tStep L (tStep L a 4) 5)]),(2,.obj [pI 0,pNil]),(1,.obj [pI 0,pNil])] 3 ⟨rfl,rfl,rfl,rfl,rfl,trivial⟩ rfl rfl (r_end (q_then (w_seq (w_seq ?_)))))
 have hn4 := tNext_lt L a (n := 4) (by decide)
 refine w_R (qa hnt rfl rfl (r_end (q_then (w_block (w_adoptC (n := 2) (j := 1) (sz := 5) rfl rfl rfl ?_)))))
 refine loop4 (fun (ap : Nat) (ts : List TTenant) (at1 : Int) (i : Nat) => (i : Int) ≤ 1 + tNext L a 4 ∧ ts.length = i ∧ (∀ p ∈ ts,WinsOk p.windows) ∧ 0 ≤ at1 ∧ at1 ≤ 5 + 172 * (i : Int)) (fun (ap : Nat) (ts : List TTenant) (at1 : Int) (i : Nat) => [(0,PV.ptr 0 0),(2,PV.ptr 3 0),(3,pI (1 + (tNext L a 4))),(4,PV.ptr 1 0),(5,pI at1),(6,pN i)]) 4 (fun (ap : Nat) (ts : List TTenant) (at1 : Int) (i : Nat) => [(0,.obj [pS 1 false encI L,pN ap]),(1,.obj [pI 0,PV.ref 2 0 none]),(2,oB true 5 eTenant ts),(3,.obj [pI 0,pNil])]) (fun (ap : Nat) (ts : List TTenant) (at1 : Int) (i : Nat) => (1 + tNext L a 4).toNat - i) (tStep L (tStep L a 4) 5) (([] : List TTenant)) (tNext L (tStep L a 4) 5) (0) ?_ ⟨[(0,0),(1,2),(2,3),(3,1)],by rw [hk]; decide,⟨⟨_,rfl,rfl,rfl⟩,⟨_,rfl,rfl,rfl⟩,⟨_,rfl,rfl,rfl⟩,⟨_,rfl,rfl,rfl⟩,⟨_,rfl,rfl,rfl⟩,⟨_,rfl,rfl,rfl⟩,trivial⟩,⟨⟨_,_,rfl,rfl,rfl,rfl⟩,⟨_,_,rfl,rfl,rfl,rfl⟩,⟨_,_,rfl,rfl,rfl,rfl⟩,⟨_,_,rfl,rfl,rfl,rfl⟩,trivial⟩,by rw [hk]; decide⟩ ?_
 · exact ⟨by omega,rfl,by simp,by omega,by omega⟩
 ·intro ap ts at1 i hI
  obtain ⟨hi,htl,hw,hat0,hat⟩ := hI
  refine w_seq (w_seq (w_R (qm hnt rfl rfl (qm hnt rfl rfl (qo hnt rfl (s_lss rfl rfl ?_))))))
  refine r_end (q_then (w_if rfl (fun c1 => ?_) (fun c1 => ?_)))
  ·try simp only [sB] at c1
   refine w_skip (q_then (w_seq (w_block (w_seq (w_R ?_)))))
   refine qm hnt rfl rfl (qo hnt rfl (s_callX (r2 := pI (tNext L ap 3)) (nx1 := 4) (H2 := [(0,.obj [pS 1 false encI L,pN ap]),(1,.obj [pI 0,PV.ref 2 0 none]),(2,oB true 5 eTenant ts),(3,.obj [pI 0,pNil])]) (H3 := [(0,.obj [pS 1 false encI L,pN (tStep L ap 3)]),(1,.obj [pI 0,PV.ref 2 0 none]),(2,oB true 5 eTenant ts),(3,.obj [pI 0,pNil])]) [0] [.obj [pS 1 false encI L,pN ap]] rfl rfl rfl (handed_of (by decide) ⟨rfl,trivial⟩) rfl rfl rfl rfl rfl rfl (w_burgagekeep_Tape_Next L false ap 3 (by omega) (by omega)) rfl (dist_of rfl) rfl rfl rfl rfl ?_))
   have hb21 := tNext_lt L ap (n := 3) (by decide)
   refine qo hnt rfl (s_addi (r := 1 + (tNext L ap 3)) rfl rfl rfl (by omega) ?_)
   refine qm hnt rfl rfl (qo hnt rfl (s_addi (r := (1 + (tNext L ap 3)) + ((i : Nat) : Int)) rfl rfl rfl (by omega) ?_))
   refine qm hnt rfl rfl (qo hnt rfl (s_callX (r2 := pI (tNext L (tStep L ap 3) 2)) (nx1 := 4) (H2 := [(0,.obj [pS 1 false encI L,pN (tStep L ap 3)]),(1,.obj [pI 0,PV.ref 2 0 none]),(2,oB true 5 eTenant ts),(3,.obj [pI 0,pNil])]) (H3 := [(0,.obj [pS 1 false encI L,pN (tStep L (tStep L ap 3) 2)]),(1,.obj [pI 0,PV.ref 2 0 none]),(2,oB true 5 eTenant ts),(3,.obj [pI 0,pNil])]) [0] [.obj [pS 1 false encI L,pN (tStep L ap 3)]] rfl rfl rfl (handed_of (by decide) ⟨rfl,trivial⟩) rfl rfl rfl rfl rfl rfl (w_burgagekeep_Tape_Next L false (tStep L ap 3) 2 (by omega) (by omega)) rfl (dist_of rfl) rfl rfl rfl rfl ?_))
   have hb26 := tNext_lt L (tStep L ap 3) (n := 2) (by decide)
   refine qo hnt rfl (s_conv tab_3 tab_22 rfl rfl rfl ?_)
   refine qo hnt rfl (s_shl rfl rfl (by decide) ?_)
   refine qo hnt rfl (s_or rfl rfl ?_)
   refine qm hnt rfl rfl (qo hnt rfl (s_callX (r2 := pI (tNext L (tStep L (tStep L ap 3) 2) 4)) (nx1 := 4) (H2 := [(0,.obj [pS 1 false encI L,pN (tStep L (tStep L ap 3) 2)]),(1,.obj [pI 0,PV.ref 2 0 none]),(2,oB true 5 eTenant ts),(3,.obj [pI 0,pNil])]) (H3 := [(0,.obj [pS 1 false encI L,pN (tStep L (tStep L (tStep L ap 3) 2) 4)]),(1,.obj [pI 0,PV.ref 2 0 none]),(2,oB true 5 eTenant ts),(3,.obj [pI 0,pNil])]) [0] [.obj [pS 1 false encI L,pN (tStep L (tStep L ap 3) 2)]] rfl rfl rfl (handed_of (by decide) ⟨rfl,trivial⟩) rfl rfl rfl rfl rfl rfl (w_burgagekeep_Tape_Next L false (tStep L (tStep L ap 3) 2) 4 (by omega) (by omega)) rfl (dist_of rfl) rfl rfl rfl rfl ?_))
   have hb31 := tNext_lt L (tStep L (tStep L ap 3) 2) (n := 4) (by decide)
   refine qo hnt rfl (s_addi (r := 1 + (tNext L (tStep L (tStep L ap 3) 2) 4)) rfl rfl rfl (by omega) ?_)
   refine qm hnt rfl rfl (qm hnt rfl rfl (qo hnt rfl (s_callX2 (p := fun (q1 : List TWindow) (b1 : Nat) => WinsOk q1) (r2 := fun q1 b1 => pS 4 false eWindow q1) (nx1 := 4) (H2 := [(0,.obj [pS 1 false encI L,pN (tStep L (tStep L (tStep L ap 3) 2) 4)]),(1,.obj [pI 0,PV.ref 2 0 none]),(2,oB true 5 eTenant ts),(3,.obj [pI 0,pNil])]) (H3 := fun q1 b1 => [(0,.obj [pS 1 false encI L,pN b1]),(1,.obj [pI 0,PV.ref 2 0 none]),(2,oB true 5 eTenant ts),(3,.obj [pI 0,pNil])]) [0] [.obj [pS 1 false encI L,pN (tStep L (tStep L (tStep L ap 3) 2) 4)]] rfl rfl rfl (handed_of (by decide) ⟨rfl,trivial⟩) rfl rfl rfl rfl rfl rfl (w_burgagekeep_Tape_windows L false (tStep L (tStep L (tStep L ap 3) 2) 4) i (by omega) (by omega)) (fun q1 b1 => rfl) (fun q1 b1 => dist_of rfl) (fun q1 b1 => rfl) (fun q1 b1 => rfl) rfl (fun q1 b1 => rfl) (fun q1 b1 hq1 => ?_))))
   refine qo hnt rfl (s_build tab_26 rfl rfl (b_cons rfl tab_3 rfl rfl rfl (Nat.le_of_ble_eq_true rfl) (b_cons rfl tab_22 rfl rfl rfl (Nat.le_of_ble_eq_true rfl) (b_cons rfl tab_3 rfl rfl rfl (Nat.le_of_ble_eq_true rfl) (b_cons rfl tab_23 rfl rfl rfl (Nat.le_of_ble_eq_true rfl) (b_nil ?_))))))
   refine qo hnt rfl (s_alloc tab_26 ?_)
   refine qo hnt rfl (s_store_ptr tab_26 rfl rfl rfl rfl rfl (Nat.le_of_ble_eq_true rfl) ?_)
   refine r_set [(0,PV.ptr 0 0),(2,PV.ptr 3 0),(3,pI (1 + (tNext L a 4))),(4,PV.ptr 1 0),(5,pI at1),(6,pN i),(7,PV.ptr 4 0)] [(4,.obj [pI ((1 + (tNext L ap 3)) + ((i : Nat) : Int)),pK .u32 (bitI .or .u32 12812798 (IntKind.u32.wrap ((IntKind.u32.wrap (tNext L (tStep L ap 3) 2)) * 2 ^ min (Int.toNat 9) IntKind.u32.bits))),pI (1 + (tNext L (tStep L (tStep L ap 3) 2) 4)),pS 4 false eWindow q1,pNil]),(0,.obj [pS 1 false encI L,pN b1]),(1,.obj [pI 0,PV.ref 2 0 none]),(2,oB true 5 eTenant ts),(3,.obj [pI 0,pNil])] 5 ⟨rfl,rfl,rfl,rfl,rfl,rfl,rfl,trivial⟩ rfl rfl (r_end (q_then (join2 (fun (a2 : Nat) (fu : Int) => True) (fun (a2 : Nat) (fu : Int) => [(0,PV.ptr 0 0),(2,PV.ptr 2 0),(3,pI (1 + (tNext L a 4))),(4,PV.ptr 3 0),(5,pI at1),(6,pN i),(7,PV.ptr 1 0)]) 5 (fun (a2 : Nat) (fu : Int) => [(0,.obj [pS 1 false encI L,pN a2]),(1,.obj [pI ((1 + (tNext L ap 3)) + ((i : Nat) : Int)),pK .u32 fu,pI (1 + (tNext L (tStep L (tStep L ap 3) 2) 4)),pS 4 false eWindow q1,pNil]),(2,.obj [pI 0,pNil]),(3,.obj [pI 0,PV.ref 4 0 none]),(4,oB true 5 eTenant ts)]) ?_ ?_)))
   ·refine w_seq (w_R (qm hnt rfl rfl (qo hnt rfl (s_callX (r2 := pI (tNext L b1 5)) (nx1 := 5) (H2 := [(4,.obj [pI ((1 + (tNext L ap 3)) + ((i : Nat) : Int)),pK .u32 (bitI .or .u32 12812798 (IntKind.u32.wrap ((IntKind.u32.wrap (tNext L (tStep L ap 3) 2)) * 2 ^ min (Int.toNat 9) IntKind.u32.bits))),pI (1 + (tNext L (tStep L (tStep L ap 3) 2) 4)),pS 4 false eWindow q1,pNil]),(0,.obj [pS 1 false encI L,pN b1]),(1,.obj [pI 0,PV.ref 2 0 none]),(2,oB true 5 eTenant ts),(3,.obj [pI 0,pNil])]) (H3 := [(0,.obj [pS 1 false encI L,pN (tStep L b1 5)]),(4,.obj [pI ((1 + (tNext L ap 3)) + ((i : Nat) : Int)),pK .u32 (bitI .or .u32 12812798 (IntKind.u32.wrap ((IntKind.u32.wrap (tNext L (tStep L ap 3) 2)) * 2 ^ min (Int.toNat 9) IntKind.u32.bits))),pI (1 + (tNext L (tStep L (tStep L ap 3) 2) 4)),pS 4 false eWindow q1,pNil]),(1,.obj [pI 0,PV.ref 2 0 none]),(2,oB true 5 eTenant ts),(3,.obj [pI 0,pNil])]) [0] [.obj [pS 1 false encI L,pN b1]] rfl rfl rfl (handed_of (by decide) ⟨rfl,trivial⟩) rfl rfl rfl rfl rfl rfl (w_burgagekeep_Tape_Next L false b1 5 (by omega) (by omega)) rfl (dist_of rfl) rfl rfl rfl rfl ?_))))
    refine qo hnt rfl (s_eql rfl rfl ?_)
    refine r_set [(0,PV.ptr 0 0),(2,PV.ptr 3 0),(3,pI (1 + (tNext L a 4))),(4,PV.ptr 1 0),(5,pI at1),(6,pN i),(7,PV.ptr 4 0),(39,pB (decide (tNext L b1 5 = 0)))] [(0,.obj [pS 1 false encI L,pN (tStep L b1 5)]),(4,.obj [pI ((1 + (tNext L ap 3)) + ((i : Nat) : Int)),pK .u32 (bitI .or .u32 12812798 (IntKind.u32.wrap ((IntKind.u32.wrap (tNext L (tStep L ap 3) 2)) * 2 ^ min (Int.toNat 9) IntKind.u32.bits))),pI (1 + (tNext L (tStep L (tStep L ap 3) 2) 4)),pS 4 false eWindow q1,pNil]),(1,.obj [pI 0,PV.ref 2 0 none]),(2,oB true 5 eTenant ts),(3,.obj [pI 0,pNil])] 5 ⟨rfl,rfl,rfl,rfl,rfl,rfl,rfl,rfl,trivial⟩ rfl rfl (r_end (q_then (w_if rfl (fun c2 => ?_) (fun c2 => ?_))))
    ·try simp only [sB] at c2
     refine w_R (qm hnt rfl rfl (qo hnt rfl (s_callX (r2 := pI (tNext L (tStep L b1 5) 24)) (nx1 := 5) (H2 := [(0,.obj [pS 1 false encI L,pN (tStep L b1 5)]),(4,.obj [pI ((1 + (tNext L ap 3)) + ((i : Nat) : Int)),pK .u32 (bitI .or .u32 12812798 (IntKind.u32.wrap ((IntKind.u32.wrap (tNext L (tStep L ap 3) 2)) * 2 ^ min (Int.toNat 9) IntKind.u32.bits))),pI (1 + (tNext L (tStep L (tStep L ap 3) 2) 4)),pS 4 false eWindow q1,pNil]),(1,.obj [pI 0,PV.ref 2 0 none]),(2,oB true 5 eTenant ts),(3,.obj [pI 0,pNil])]) (H3 := [(0,.obj [pS 1 false encI L,pN (tStep L (tStep L b1 5) 24)]),(4,.obj [pI ((1 + (tNext L ap 3)) + ((i : Nat) : Int)),pK .u32 (bitI .or .u32 12812798 (IntKind.u32.wrap ((IntKind.u32.wrap (tNext L (tStep L ap 3) 2)) * 2 ^ min (Int.toNat 9) IntKind.u32.bits))),pI (1 + (tNext L (tStep L (tStep L ap 3) 2) 4)),pS 4 false eWindow q1,pNil]),(1,.obj [pI 0,PV.ref 2 0 none]),(2,oB true 5 eTenant ts),(3,.obj [pI 0,pNil])]) [0] [.obj [pS 1 false encI L,pN (tStep L b1 5)]] rfl rfl rfl (handed_of (by decide) ⟨rfl,trivial⟩) rfl rfl rfl rfl rfl rfl (w_burgagekeep_Tape_Next L false (tStep L b1 5) 24 (by omega) (by omega)) rfl (dist_of rfl) rfl rfl rfl rfl ?_)))
     have hb41 := tNext_lt L (tStep L b1 5) (n := 24) (by decide)
     refine qo hnt rfl (s_conv tab_3 tab_53 rfl rfl rfl ?_)
     refine qo hnt rfl (s_shl rfl rfl (by exact wrapU_nn rfl _) ?_)
     refine qo hnt rfl (s_or rfl rfl ?_)
     refine qo hnt rfl (s_fa_ptr tab_26 rfl rfl tab_22 (by decide) rfl ?_)
     refine qo hnt rfl (s_store_ptr tab_22 rfl rfl rfl rfl rfl (Nat.le_of_ble_eq_true rfl) ?_)
     refine r_end (q_then (⟨(tStep L (tStep L b1 5) 24),(bitI .or .u32 65608 (IntKind.u32.wrap (1 * 2 ^ min (Int.toNat (IntKind.u64.wrap (tNext L (tStep L b1 5) 24))) IntKind.u32.bits))), ?_,⟨[(0,0),(1,4),(2,3),(3,1),(4,2)],by rw [hk]; decide,⟨⟨_,rfl,rfl,rfl⟩,⟨_,rfl,rfl,rfl⟩,⟨_,rfl,rfl,rfl⟩,⟨_,rfl,rfl,rfl⟩,⟨_,rfl,rfl,rfl⟩,⟨_,rfl,rfl,rfl⟩,⟨_,rfl,rfl,rfl⟩,trivial⟩,⟨⟨_,_,rfl,rfl,rfl,rfl⟩,⟨_,_,rfl,rfl,rfl,rfl⟩,⟨_,_,rfl,rfl,rfl,rfl⟩,⟨_,_,rfl,rfl,rfl,rfl⟩,⟨_,_,rfl,rfl,rfl,rfl⟩,trivial⟩,by rw [hk]; decide⟩⟩))
     trivial
    try simp only [sB] at c2
    refine w_skip (q_then (⟨(tStep L b1 5),(bitI .or .u32 12812798 (IntKind.u32.wrap ((IntKind.u32.wrap (tNext L (tStep L ap 3) 2)) * 2 ^ min (Int.toNat 9) IntKind.u32.bits))), ?_,⟨[(0,0),(1,4),(2,3),(3,1),(4,2)],by rw [hk]; decide,⟨⟨_,rfl,rfl,rfl⟩,⟨_,rfl,rfl,rfl⟩,⟨_,rfl,rfl,rfl⟩,⟨_,rfl,rfl,rfl⟩,⟨_,rfl,rfl,rfl⟩,⟨_,rfl,rfl,rfl⟩,⟨_,rfl,rfl,rfl⟩,trivial⟩,⟨⟨_,_,rfl,rfl,rfl,rfl⟩,⟨_,_,rfl,rfl,rfl,rfl⟩,⟨_,_,rfl,rfl,rfl,rfl⟩,⟨_,_,rfl,rfl,rfl,rfl⟩,⟨_,_,rfl,rfl,rfl,rfl⟩,trivial⟩,by rw [hk]; decide⟩⟩))
    trivial
   intro a2 fu hJ
   refine w_seq (w_seq (w_R (qm hnt rfl rfl (qo hnt rfl (s_callX (r2 := pI (tNext L a2 2)) (nx1 := 5) (H2 := [(0,.obj [pS 1 false encI L,pN a2]),(1,.obj [pI ((1 + (tNext L ap 3)) + ((i : Nat) : Int)),pK .u32 fu,pI (1 + (tNext L (tStep L (tStep L ap 3) 2) 4)),pS 4 false eWindow q1,pNil]),(2,.obj [pI 0,pNil]),(3,.obj [pI 0,PV.ref 4 0 none]),(4,oB true 5 eTenant ts)]) (H3 := [(0,.obj [pS 1 false encI L,pN (tStep L a2 2)]),(1,.obj [pI ((1 + (tNext L ap 3)) + ((i : Nat) : Int)),pK .u32 fu,pI (1 + (tNext L (tStep L (tStep L ap 3) 2) 4)),pS 4 false eWindow q1,pNil]),(2,.obj [pI 0,pNil]),(3,.obj [pI 0,PV.ref 4 0 none]),(4,oB true 5 eTenant ts)]) [0] [.obj [pS 1 false encI L,pN a2]] rfl rfl rfl (handed_of (by decide) ⟨rfl,trivial⟩) rfl rfl rfl rfl rfl rfl (w_burgagekeep_Tape_Next L false a2 2 (by omega) (by omega)) rfl (dist_of rfl) rfl rfl rfl rfl ?_)))))
   have hb47 := tNext_lt L a2 (n := 2) (by decide)
   refine qa hnt rfl rfl (r_set [(0,PV.ptr 0 0),(2,PV.ptr 2 0),(3,pI (1 + (tNext L a 4))),(4,PV.ptr 3 0),(5,pI at1),(6,pN i),(7,PV.ptr 1 0),(8,pI (tNext L a2 2))] [(0,.obj [pS 1 false encI L,pN (tStep L a2 2)]),(1,.obj [pI ((1 + (tNext L ap 3)) + ((i : Nat) : Int)),pK .u32 fu,pI (1 + (tNext L (tStep L (tStep L ap 3) 2) 4)),pS 4 false eWindow q1,pNil]),(2,.obj [pI 0,pNil]),(3,.obj [pI 0,PV.ref 4 0 none]),(4,oB true 5 eTenant ts)] 5 ⟨rfl,rfl,rfl,rfl,rfl,rfl,rfl,rfl,trivial⟩ rfl rfl (r_end (q_then (w_block (w_adoptC (n := 1) (j := 4) (sz := 2) rfl rfl rfl ?_)))))
   refine loop4 (fun (a3 : Nat) (at2 : Int) (sl : List TSlot) (kk : Int) => 0 ≤ at2 ∧ at2 + 86 * (kk + 1) ≤ at1 + 172 ∧ -1 ≤ kk ∧ (sl.length : Int) + kk ≤ 1) (fun (a3 : Nat) (at2 : Int) (sl : List TSlot) (kk : Int) => [(0,PV.ptr 0 0),(2,PV.ptr 3 0),(3,pI (1 + (tNext L a 4))),(4,PV.ptr 4 0),(5,pI at2),(6,pN i),(7,PV.ptr 1 0),(8,pI kk)]) 6 (fun (a3 : Nat) (at2 : Int) (sl : List TSlot) (kk : Int) => [(0,.obj [pS 1 false encI L,pN a3]),(1,.obj [pI ((1 + (tNext L ap 3)) + ((i : Nat) : Int)),pK .u32 fu,pI (1 + (tNext L (tStep L (tStep L ap 3) 2) 4)),pS 4 false eWindow q1,PV.ref 2 0 none]),(2,oB true 2 eSlot sl),(3,.obj [pI 0,pNil]),(4,.obj [pI 0,PV.ref 5 0 none]),(5,oB true 5 eTenant ts)]) (fun (a3 : Nat) (at2 : Int) (sl : List TSlot) (kk : Int) => (kk + 1).toNat) (tStep L a2 2) (at1) (([] : List TSlot)) (tNext L a2 2) ?_ ⟨[(0,0),(1,1),(2,5),(3,2),(4,3),(5,4)],by rw [hk]; decide,⟨⟨_,rfl,rfl,rfl⟩,⟨_,rfl,rfl,rfl⟩,⟨_,rfl,rfl,rfl⟩,⟨_,rfl,rfl,rfl⟩,⟨_,rfl,rfl,rfl⟩,⟨_,rfl,rfl,rfl⟩,⟨_,rfl,rfl,rfl⟩,⟨_,rfl,rfl,rfl⟩,trivial⟩,⟨⟨_,_,rfl,rfl,rfl,rfl⟩,⟨_,_,rfl,rfl,rfl,rfl⟩,⟨_,_,rfl,rfl,rfl,rfl⟩,⟨_,_,rfl,rfl,rfl,rfl⟩,⟨_,_,rfl,rfl,rfl,rfl⟩,⟨_,_,rfl,rfl,rfl,rfl⟩,trivial⟩,by rw [hk]; decide⟩ ?_
   · exact ⟨by omega,by omega,by omega,by simp; omega⟩
   ·intro a3 at2 sl kk hK
    obtain ⟨ha20,ha2,hkk,hsl⟩ := hK
    refine w_seq (w_seq (w_R (qm hnt rfl rfl (qo hnt rfl (s_geq rfl rfl ?_)))))
    refine r_end (q_then (w_if rfl (fun c3 => ?_) (fun c3 => ?_)))
    ·try simp only [sB] at c3
     refine w_skip (q_then (w_seq (w_block (w_seq (w_R ?_)))))
     refine qm hnt rfl rfl (qm hnt rfl rfl (qo hnt rfl (s_callX (r2 := pI (tNext L a3 9)) (nx1 := 6) (H2 := [(0,.obj [pS 1 false encI L,pN a3]),(1,.obj [pI ((1 + (tNext L ap 3)) + ((i : Nat) : Int)),pK .u32 fu,pI (1 + (tNext L (tStep L (tStep L ap 3) 2) 4)),pS 4 false eWindow q1,PV.ref 2 0 none]),(2,oB true 2 eSlot sl),(3,.obj [pI 0,pNil]),(4,.obj [pI 0,PV.ref 5 0 none]),(5,oB true 5 eTenant ts)]) (H3 := [(0,.obj [pS 1 false encI L,pN (tStep L a3 9)]),(1,.obj [pI ((1 + (tNext L ap 3)) + ((i : Nat) : Int)),pK .u32 fu,pI (1 + (tNext L (tStep L (tStep L ap 3) 2) 4)),pS 4 false eWindow q1,PV.ref 2 0 none]),(2,oB true 2 eSlot sl),(3,.obj [pI 0,pNil]),(4,.obj [pI 0,PV.ref 5 0 none]),(5,oB true 5 eTenant ts)]) [0] [.obj [pS 1 false encI L,pN a3]] rfl rfl rfl (handed_of (by decide) ⟨rfl,trivial⟩) rfl rfl rfl rfl rfl rfl (w_burgagekeep_Tape_Next L false a3 9 (by omega) (by omega)) rfl (dist_of rfl) rfl rfl rfl rfl ?_)))
     have hb54 := tNext_lt L a3 (n := 9) (by decide)
     refine qo hnt rfl (s_addi (r := 72 + (tNext L a3 9)) rfl rfl rfl (by omega) ?_)
     refine qo hnt rfl (s_build tab_98 rfl rfl (b_cons rfl tab_3 rfl rfl rfl (Nat.le_of_ble_eq_true rfl) (b_cons rfl tab_3 rfl rfl rfl (Nat.le_of_ble_eq_true rfl) (b_nil ?_))))
     refine qo hnt rfl (s_alloc tab_98 ?_)
     refine qo hnt rfl (s_store_ptr tab_98 rfl rfl rfl rfl rfl (Nat.le_of_ble_eq_true rfl) ?_)
     refine r_set [(0,PV.ptr 0 0),(2,PV.ptr 3 0),(3,pI (1 + (tNext L a 4))),(4,PV.ptr 4 0),(6,pN i),(7,PV.ptr 1 0),(8,pI kk),(9,PV.ptr 6 0)] [(6,.obj [pI at2,pI (72 + (tNext L a3 9))]),(0,.obj [pS 1 false encI L,pN (tStep L a3 9)]),(1,.obj [pI ((1 + (tNext L ap 3)) + ((i : Nat) : Int)),pK .u32 fu,pI (1 + (tNext L (tStep L (tStep L ap 3) 2) 4)),pS 4 false eWindow q1,PV.ref 2 0 none]),(2,oB true 2 eSlot sl),(3,.obj [pI 0,pNil]),(4,.obj [pI 0,PV.ref 5 0 none]),(5,oB true 5 eTenant ts)] 7 ⟨rfl,rfl,rfl,rfl,rfl,rfl,rfl,rfl,trivial⟩ rfl rfl (r_end (q_then (w_seq (W_drawn tabOk mixed hnt [[],[0],[],[2],[0,1,2,3],[],[5],[0,1,2,3,4,5,6],(.range 8)] (by kernel_rfl) (d_op ?_)))))
     refine x_run0 [(9,PV.ptr 6 0)] [] rfl rfl rfl rfl (s_fa_ptr tab_98 rfl rfl tab_3 (by decide) rfl ⟨rfl,rfl,rfl⟩) (d_op (xL [(57,PV.ptr 6 0)] [0] [(6,.obj [pI at2,pI (72 + (tNext L a3 9))])] rfl rfl rfl rfl rfl (s_load_ptr1 tab_3 rfl rfl rfl rfl rfl ⟨rfl,rfl,rfl⟩) ⟨rfl,trivial⟩ rfl (d_op (x_run0 [(9,PV.ptr 6 0)] [] rfl rfl rfl rfl (s_fa_ptr tab_98 rfl rfl tab_3 (by decide) rfl ⟨rfl,rfl,rfl⟩) (d_op ?_)))))
     refine xL [(59,PV.ptr 6 1)] [2] [(6,.obj [pI at2,pI (72 + (tNext L a3 9))])] rfl rfl rfl rfl rfl (s_load_ptr1 tab_3 rfl rfl rfl rfl rfl ⟨rfl,rfl,rfl⟩) ⟨rfl,trivial⟩ rfl (d_op (x_run0 [(58,pI at2),(60,pI (72 + (tNext L a3 9)))] [0,1,2,3] rfl rfl rfl rfl (s_addi (r := at2 + (72 + (tNext L a3 9))) rfl rfl rfl (by omega) ⟨rfl,rfl,rfl⟩) (d_op (x_run0 [(0,PV.ptr 0 0)] [] rfl rfl rfl rfl (s_move rfl ⟨rfl,rfl,rfl⟩) (d_op ?_)))))
     refine xT [(62,PV.ptr 0 0)] [5] [(0,.obj [pS 1 false encI L,pN (tStep L a3 9)])] [(0,.obj [pS 1 false encI L,pN (tStep L (tStep L a3 9) 7)])] [(6,.obj [pI at2,pI (72 + (tNext L a3 9))]),(1,.obj [pI ((1 + (tNext L ap 3)) + ((i : Nat) : Int)),pK .u32 fu,pI (1 + (tNext L (tStep L (tStep L ap 3) 2) 4)),pS 4 false eWindow q1,PV.ref 2 0 none]),(2,oB true 2 eSlot sl),(3,.obj [pI 0,pNil]),(4,.obj [pI 0,PV.ref 5 0 none]),(5,oB true 5 eTenant ts)] rfl rfl rfl rfl rfl (s_callX (r2 := pI (tNext L (tStep L a3 9) 7)) (nx1 := 7) (H2 := [(0,.obj [pS 1 false encI L,pN (tStep L a3 9)])]) (H3 := [(0,.obj [pS 1 false encI L,pN (tStep L (tStep L a3 9) 7)])]) [0] [.obj [pS 1 false encI L,pN (tStep L a3 9)]] rfl rfl rfl (handed_of (by decide) ⟨rfl,trivial⟩) rfl rfl rfl rfl rfl rfl (w_burgagekeep_Tape_Next L false (tStep L a3 9) 7 (by omega) (by omega)) rfl (dist_of rfl) rfl rfl rfl rfl ⟨rfl,rfl,rfl⟩) rfl rfl ?_
     have hb63 := tNext_lt L (tStep L a3 9) (n := 7) (by decide)
     refine d_op (x_run0 [(61,pI (at2 + (72 + (tNext L a3 9)))),(63,pI (tNext L (tStep L a3 9) 7))] [0,1,2,3,4,5,6] rfl rfl rfl rfl (s_addi (r := (at2 + (72 + (tNext L a3 9))) + (tNext L (tStep L a3 9) 7)) rfl rfl rfl (by omega) ⟨rfl,rfl,rfl⟩) (d_op (x_run0 [(64,pI ((at2 + (72 + (tNext L a3 9))) + (tNext L (tStep L a3 9) 7)))] (.range 8) rfl rfl rfl rfl (s_assign rfl ⟨rfl,rfl,rfl⟩) (d_end ⟨by kernel_rfl, ?_⟩))))
     refine q_then (w_R (qo hnt rfl (s_fa_ptr tab_26 rfl rfl tab_24 (by decide) rfl ?_)))
     refine qo hnt rfl (s_load_ptr1 tab_24 rfl rfl rfl rfl rfl ?_)
     refine qo hnt rfl (s_load_ptr tab_98 rfl rfl rfl (Nat.le_of_ble_eq_true rfl) ?_)
     refine qo hnt rfl (s_mkM (f := eSlot) [(⟨at2,72 + (tNext L a3 9)⟩ : TSlot)] tab_24 rfl tab_98 ⟨rfl,by decide⟩ (by decide) rfl rfl rfl rfl ?_)
     refine qo hnt rfl (s_appR0 (f := eSlot) (l := sl) (xs := [(⟨at2,72 + (tNext L a3 9)⟩ : TSlot)]) tab_24 rfl tab_98 ⟨rfl,by decide,by decide⟩ (srcM tab_24 rfl (hM_ref0 (f := eSlot) rfl rfl)) rfl rfl (by (simp; omega)) ?_)
     refine qo hnt rfl (s_fa_ptr tab_26 rfl rfl tab_24 (by decide) rfl ?_)
     refine qo hnt rfl (s_store_ptr tab_24 rfl rfl rfl rfl rfl (Nat.le_of_ble_eq_true rfl) ?_)
     refine r_set [(0,PV.ptr 0 0),(2,PV.ptr 3 0),(3,pI (1 + (tNext L a 4))),(4,PV.ptr 4 0),(5,pI ((at2 + (72 + (tNext L a3 9))) + (tNext L (tStep L a3 9) 7))),(6,pN i),(7,PV.ptr 1 0),(8,pI kk)] [(1,.obj [pI ((1 + (tNext L ap 3)) + ((i : Nat) : Int)),pK .u32 fu,pI (1 + (tNext L (tStep L (tStep L ap 3) 2) 4)),pS 4 false eWindow q1,PV.ref 8 0 none]),(8,oB true 2 eSlot (sl ++ [(⟨at2,72 + (tNext L a3 9)⟩ : TSlot)])),(7,oB true 2 eSlot [(⟨at2,72 + (tNext L a3 9)⟩ : TSlot)]),(0,.obj [pS 1 false encI L,pN (tStep L (tStep L a3 9) 7)]),(6,.obj [pI at2,pI (72 + (tNext L a3 9))]),(3,.obj [pI 0,pNil]),(4,.obj [pI 0,PV.ref 5 0 none]),(5,oB true 5 eTenant ts)] 9 ⟨rfl,rfl,rfl,rfl,rfl,rfl,rfl,rfl,trivial⟩ rfl rfl (r_end (q_block (q_then (w_R (qm hnt rfl rfl ?_)))))
     refine qo hnt rfl (s_subi (r := kk - 1) rfl rfl rfl (by omega) ?_)
     refine qa hnt rfl rfl (r_end (q_then (⟨(tStep L (tStep L a3 9) 7),((at2 + (72 + (tNext L a3 9))) + (tNext L (tStep L a3 9) 7)),(sl ++ [(⟨at2,72 + (tNext L a3 9)⟩ : TSlot)]),(kk - 1), ?_, ?_,⟨[(0,0),(1,1),(2,8),(3,3),(4,4),(5,5)],by rw [hk]; decide,⟨⟨_,rfl,rfl,rfl⟩,⟨_,rfl,rfl,rfl⟩,⟨_,rfl,rfl,rfl⟩,⟨_,rfl,rfl,rfl⟩,⟨_,rfl,rfl,rfl⟩,⟨_,rfl,rfl,rfl⟩,⟨_,rfl,rfl,rfl⟩,⟨_,rfl,rfl,rfl⟩,trivial⟩,⟨⟨_,_,rfl,rfl,rfl,rfl⟩,⟨_,_,rfl,rfl,rfl,rfl⟩,⟨_,_,rfl,rfl,rfl,rfl⟩,⟨_,_,rfl,rfl,rfl,rfl⟩,⟨_,_,rfl,rfl,rfl,rfl⟩,⟨_,_,rfl,rfl,rfl,rfl⟩,trivial⟩,by rw [hk]; decide⟩⟩)))
     ·exact ⟨by omega,by omega,by omega,by simp; omega⟩
     · omega
    try simp only [sB] at c3
    refine w_exit (q_then_exit (q_then_exit (q_block_exit (q_then (w_R ?_)))))
    refine qo hnt rfl (s_fa_ptr tab_70 rfl rfl tab_68 (by decide) rfl ?_)
    refine qo hnt rfl (s_load_ptr1 tab_68 rfl rfl rfl rfl rfl ?_)
    refine qo hnt rfl (s_load_ptr tab_26 rfl rfl rfl (Nat.le_of_ble_eq_true rfl) ?_)
    refine qo hnt rfl (s_mkM (f := eTenant) [(⟨(1 + (tNext L ap 3)) + ((i : Nat) : Int),fu,1 + (tNext L (tStep L (tStep L ap 3) 2) 4),q1,sl⟩ : TTenant)] tab_68 rfl tab_26 ⟨rfl,by decide⟩ (by decide) rfl rfl rfl rfl ?_)
    refine qo hnt rfl (s_appR0 (f := eTenant) (l := ts) (xs := [(⟨(1 + (tNext L ap 3)) + ((i : Nat) : Int),fu,1 + (tNext L (tStep L (tStep L ap 3) 2) 4),q1,sl⟩ : TTenant)]) tab_68 rfl tab_26 ⟨rfl,by decide,by decide⟩ (srcM tab_68 rfl (hM_ref0 (f := eTenant) rfl rfl)) rfl rfl (by (simp; omega)) ?_)
    refine qo hnt rfl (s_fa_ptr tab_70 rfl rfl tab_68 (by decide) rfl ?_)
    refine qo hnt rfl (s_store_ptr tab_68 rfl rfl rfl rfl rfl (Nat.le_of_ble_eq_true rfl) ?_)
    refine r_set [(0,PV.ptr 0 0),(2,PV.ptr 3 0),(3,pI (1 + (tNext L a 4))),(4,PV.ptr 4 0),(5,pI at2),(6,pN i)] [(4,.obj [pI 0,PV.ref 7 0 none]),(7,oB true 5 eTenant (ts ++ [(⟨(1 + (tNext L ap 3)) + ((i : Nat) : Int),fu,1 + (tNext L (tStep L (tStep L ap 3) 2) 4),q1,sl⟩ : TTenant)])),(6,oB true 5 eTenant [(⟨(1 + (tNext L ap 3)) + ((i : Nat) : Int),fu,1 + (tNext L (tStep L (tStep L ap 3) 2) 4),q1,sl⟩ : TTenant)]),(2,oB false 2 eSlot sl),(0,.obj [pS 1 false encI L,pN a3]),(1,.obj [pI ((1 + (tNext L ap 3)) + ((i : Nat) : Int)),pK .u32 fu,pI (1 + (tNext L (tStep L (tStep L ap 3) 2) 4)),pS 4 false eWindow q1,PV.ref 2 0 none]),(3,.obj [pI 0,pNil])] 8 ⟨rfl,rfl,rfl,rfl,rfl,rfl,trivial⟩ rfl rfl (r_end (q_block (q_then (w_R (qm hnt rfl rfl ?_)))))
    refine qo hnt rfl (s_addN (a := i) (b := 1) rfl rfl (by omega) (by omega) (by omega) ?_)
    refine qa hnt rfl rfl (r_end (q_then (⟨(a3),(ts ++ [(⟨(1 + (tNext L ap 3)) + ((i : Nat) : Int),fu,1 + (tNext L (tStep L (tStep L ap 3) 2) 4),q1,sl⟩ : TTenant)]),(at2),(i + 1), ?_, ?_,⟨[(0,0),(1,4),(2,7),(3,3)],by rw [hk]; decide,⟨⟨_,rfl,rfl,rfl⟩,⟨_,rfl,rfl,rfl⟩,⟨_,rfl,rfl,rfl⟩,⟨_,rfl,rfl,rfl⟩,⟨_,rfl,rfl,rfl⟩,⟨_,rfl,rfl,rfl⟩,trivial⟩,⟨⟨_,_,rfl,rfl,rfl,rfl⟩,⟨_,_,rfl,rfl,rfl,rfl⟩,⟨_,_,rfl,rfl,rfl,rfl⟩,⟨_,_,rfl,rfl,rfl,rfl⟩,trivial⟩,by rw [hk]; decide⟩⟩)))
    ·refine ⟨by omega,by simp; omega,fun p hp => ?_,by omega,by omega⟩
     rcases List.mem_append.1 hp with h|h
     · exact hw p h
     · have h := List.mem_singleton.1 h; subst h; exact hq1
    · omega
  try simp only [sB] at c1
  refine w_exit (q_then_exit (q_then_exit (q_block_exit (q_then (w_seq ?_)))))
  refine w_R (qm hnt rfl rfl (qm hnt rfl rfl (qo hnt rfl (s_callX (r2 := pI (tNext L ap 20)) (nx1 := 4) (H2 := [(0,.obj [pS 1 false encI L,pN ap]),(1,.obj [pI 0,PV.ref 2 0 none]),(2,oB true 5 eTenant ts),(3,.obj [pI 0,pNil])]) (H3 := [(0,.obj [pS 1 false encI L,pN (tStep L ap 20)]),(1,.obj [pI 0,PV.ref 2 0 none]),(2,oB true 5 eTenant ts),(3,.obj [pI 0,pNil])]) [0] [.obj [pS 1 false encI L,pN ap]] rfl rfl rfl (handed_of (by decide) ⟨rfl,trivial⟩) rfl rfl rfl rfl rfl rfl (w_burgagekeep_Tape_Next L false ap 20 (by omega) (by omega)) rfl (dist_of rfl) rfl rfl rfl rfl ?_))))
  have hb79 := tNext_lt L ap (n := 20) (by decide)
  refine qo hnt rfl (s_addi (r := at1 + (tNext L ap 20)) rfl rfl rfl (by omega) ?_)
  refine qo hnt rfl (s_fa_ptr tab_70 rfl rfl tab_3 (by decide) rfl ?_)
  refine qo hnt rfl (s_store_ptr tab_3 rfl rfl rfl rfl rfl (Nat.le_of_ble_eq_true rfl) ?_)
  refine r_set [(2,PV.ptr 3 0),(4,PV.ptr 1 0)] [(1,.obj [pI (at1 + (tNext L ap 20)),PV.ref 2 0 none]),(0,.obj [pS 1 false encI L,pN (tStep L ap 20)]),(2,oB true 5 eTenant ts),(3,.obj [pI 0,pNil])] 4 ⟨rfl,rfl,trivial⟩ rfl rfl (r_end (q_then (w_seq (w_R (qo hnt rfl (s_load_ptr tab_70 rfl rfl rfl (Nat.le_of_ble_eq_true rfl) ?_))))))
  refine qo hnt rfl (s_store_ptr tab_70 rfl rfl rfl rfl rfl (Nat.le_of_ble_eq_true rfl) ?_)
  refine r_set [(2,PV.ptr 3 0)] [(3,.obj [pI (at1 + (tNext L ap 20)),PV.ref 2 0 none]),(1,.obj [pI (at1 + (tNext L ap 20)),PV.ref 2 0 none]),(0,.obj [pS 1 false encI L,pN (tStep L ap 20)]),(2,oB true 5 eTenant ts)] 4 ⟨rfl,trivial⟩ rfl rfl (r_end (q_then (w_frzC (n := 3) (j := 1) rfl rfl rfl rfl (w_ret ?_))))
  have hex : TabG (⟨at1 + (tNext L ap 20),ts⟩ : TTable) := by
    exact ⟨⟨by simp only; omega,by simp only; omega⟩,hw⟩
  exact fin_names (nx1 := 1) (H1 := [(0,.obj [pS 1 false encI L,pN (tStep L ap 20)])]) [(0,0)] (ret_cell tab_70 (by decide) rfl rfl (Nat.le_of_ble_eq_true rfl) rfl ret_nil) rfl (by decide) ⟨⟨_,_,rfl,rfl,rfl,rfl⟩,trivial⟩ (by decide) rfl ⟨((⟨at1 + (tNext L ap 20),ts⟩ : TTable)),(tStep L ap 20),hex,rfl,rfl,rfl⟩
end Go.Proofs.Ytlcmbkkimgdnmaa
set_option linter.unusedVariables false
set_option linter.unusedSimpArgs false
namespace Go.Proofs.Ytlcmbkkimgdnmaa
open Go Go.Proofs.Ytlcmbkkimgdnmaa.Pv
section
variable {q : TRequest} {what n : Int}
end
theorem kn_c5 : coverL [⟨0,4⟩,⟨4,4⟩] ⟨5,1⟩ = some [⟨5,1⟩] := by
  unfold coverL
  rw [if_pos (by decide),covGo_step (i := 1) (x := ⟨4,4⟩) (by decide) (by decide) rfl (by decide),covGo_end (by decide)]
  rfl
theorem kn_c6 : coverL [⟨0,4⟩,⟨4,4⟩] ⟨6,3⟩ = none := by
  unfold coverL
  rw [if_pos (by decide),covGo_step (i := 1) (x := ⟨4,4⟩) (by decide) (by decide) rfl (by decide),covGo_none (by decide) (by decide)]
  rfl
theorem kn_5 : mapOk LK 3 5 1 = true := by unfold mapOk coverOk; rw [kn_of,kn_c5]; rfl
theorem kn_6 : mapL LK 3 5 1 = [⟨5,51,1⟩] := by unfold mapL covW coverV; rw [kn_of,kn_c5]; decide
theorem kn_7 : mapOk LK 3 6 3 = false := by unfold mapOk coverOk; rw [kn_of,kn_c6]; rfl
abbrev FK : Int := 12648712
theorem kp_1 : splitP FK LK ⟨3,2,4,0,0,[],[],0,0⟩ = ([⟨⟨3,102,2,0,0,[],[],0,0⟩,false⟩,⟨⟨3,50,2,0,0,[],[],0,0⟩,false⟩],0) := by
  have e1 : pR LK ⟨3,2,4,0,0,[],[],0,0⟩ = [⟨2,102,2⟩,⟨4,50,2⟩] := kn_2
  have e2 : pW LK ⟨3,2,4,0,0,[],[],0,0⟩ = [] := rfl
  have e3 : pOk LK ⟨3,2,4,0,0,[],[],0,0⟩ = true := kn_1
  rw [split_yes (codeP_0 (by decide +kernel) (by decide +kernel) e3 (by rw [e1,e2]; decide)),parts_no (by decide),e1,e2]; rfl
theorem kp_2 : splitP FK LK ⟨22,5,0,0,0,[],[],1,2⟩ = ([⟨⟨3,51,1,0,0,[],[],0,0⟩,false⟩,⟨⟨6,51,0,0,0,[],[0],0,0⟩,true⟩],0) := by
  have e1 : pR LK ⟨22,5,0,0,0,[],[],1,2⟩ = [⟨5,51,1⟩] := kn_6
  have e2 : pW LK ⟨22,5,0,0,0,[],[],1,2⟩ = [⟨5,51,1⟩] := kn_6
  have e3 : pOk LK ⟨22,5,0,0,0,[],[],1,2⟩ = true := kn_5
  rw [split_yes (codeP_0 (by decide +kernel) (by decide +kernel) e3 (by rw [e1,e2]; decide)),parts_22r rfl (x := ⟨5,51,1⟩) (by rw [e1]; rfl)]
theorem kp_3 : splitP 0 [] ⟨0,0,0,0,0,[],[],0,0⟩ = ([],1) := by
  have e : codeP 0 [] ⟨0,0,0,0,0,[],[],0,0⟩ = 1 := codeP_1 (by decide +kernel)
  rw [split_no (by rw [e]; decide),e]
theorem kp_4 : splitP FK LK ⟨8,0,0,0,0,[],[1],0,0⟩ = ([],0) := by
  rw [split_yes (codeP_0 (by decide +kernel) (by decide +kernel) rfl (by decide)),parts_no (by decide)]; rfl
theorem kp_6 : codeP FK LK ⟨3,6,3,0,0,[],[],0,0⟩ = 2 := codeP_2 (by decide +kernel) (by decide +kernel) kn_7
section
variable {F : Int} {l : List TWindow} {q : TRequest}
theorem split_code : (splitP F l q).2 = codeP F l q := by
  by_cases h : codeP F l q = 0
  · rw [split_yes h,h]
  · rw [split_no h]
theorem split_nil (h : codeP F l q ≠ 0) : (splitP F l q).1 = [] := by rw [split_no h]
end
end Go.Proofs.Ytlcmbkkimgdnmaa
set_option linter.unusedVariables false
set_option linter.unusedSimpArgs false
set_option maxRecDepth 10000
set_option maxHeartbeats 1000000
namespace Go.Proofs.Ytlcmbkkimgdnmaa
open Go Go.Proofs.Ytlcmbkkimgdnmaa.Pv
theorem s_maskZ {P : Program} {tab : Tab} {nx : Nat} {env : Env} {H : Heap} {K : PV → Nat → Heap → Prop} {t u : Nat} {x y : Operand} {ai : Int} {z : Nat} (n : Nat) {bi : Int} (hn : n < 63) (hz : z = (ai % 2 ^ n).toNat) (h1 : ev env x = some (.f (.v (.int .i64 ai)))) (h2 : ev env y = some (.f (.v (.int .i64 bi)))) (hb : bi = 2 ^ n - 1)
    (h : K (pN z) nx H) : stepOp P tab env nx H K (.binOp .and t x y u) := s_maskI n hn h1 h2 hb (by rw [← hz]; exact h)
theorem w_burgagelaw14_tenant (t : List Int) (cl_t : Bool) (i : Nat) (ht : t.length ≤ 70000000000000) (hi : i ≤ 1000) :
    T Try.prog 11 [pS 1 cl_t encI t,pN i] 0 [] (fun ra rb rc => ∃ p : TTenant,(WinsOk p.windows) ∧ (Ret (PV.f (eTenant p)) 0 []) ra rb rc) := by
 refine t_fun tabOk (n := 19) (rs := [.cell 4 26]) Try.func11 rfl rfl rfl rfl (Nat.le_of_ble_eq_true rfl) ?_
 intro c hnt hk
 refine w_seq (w_R (qo hnt rfl (s_alloc tab_26 ?_)))
 refine r_set [(0,pS 1 cl_t encI t),(1,pN i),(4,PV.ptr 0 0)] [(0,.obj [pI 0,pK .u32 0,pI 0,pNil,pNil])] 1 ⟨rfl,rfl,rfl,trivial⟩ rfl rfl (r_end (q_then (w_seq (w_R (qm hnt rfl rfl ?_)))))
 refine qo hnt rfl (s_build tab_32 rfl rfl (b_cons rfl tab_28 rfl rfl rfl (Nat.le_of_ble_eq_true rfl) (b_nil ?_)))
 refine qo hnt rfl (s_box rfl rfl ?_)
 refine qo hnt rfl (s_callX2 (p := fun (X1 : TTable) (b1 : Nat) => TabG X1) (r2 := fun X1 b1 => PV.f (eTable X1)) (nx1 := 2) (H2 := [(1,.obj [pS 1 cl_t encI t,pI 0]),(0,.obj [pI 0,pK .u32 0,pI 0,pNil,pNil])]) (H3 := fun X1 b1 => [(1,.obj [pS 1 false encI t,pN b1]),(0,.obj [pI 0,pK .u32 0,pI 0,pNil,pNil])]) [1] [.obj [pS 1 cl_t encI t,pI 0]] rfl rfl rfl (handed_of (by decide) ⟨rfl,trivial⟩) rfl rfl rfl rfl rfl rfl (w_burgagekeep_Tape_Table t cl_t 0 (by omega)) (fun X1 b1 => rfl) (fun X1 b1 => dist_of rfl) (fun X1 b1 => rfl) (fun X1 b1 => rfl) rfl (fun X1 b1 => rfl) (fun X1 b1 hX1 => ?_))
 refine qo hnt rfl (s_alloc tab_70 ?_)
 refine qo hnt rfl (s_store_ptr tab_70 rfl rfl rfl rfl rfl (Nat.le_of_ble_eq_true rfl) ?_)
 refine r_set [(1,pN i),(4,PV.ptr 0 0),(5,PV.ptr 2 0)] [(2,.obj (cTable X1)),(1,.obj [pS 1 false encI t,pN b1]),(0,.obj [pI 0,pK .u32 0,pI 0,pNil,pNil])] 3 ⟨rfl,rfl,rfl,trivial⟩ rfl rfl (r_end (q_then (w_seq ?_)))
 have hxl := hX1.len
 refine W_drawn tabOk mixed hnt [[],[0],[],[],[3],[3,4],[2,3,4,5],[0,1,2,3,4,5,6],(.range 8),(.range 9)] (by kernel_rfl) (d_op (x_run0 [(5,PV.ptr 2 0)] [] rfl rfl rfl rfl (s_fa_ptr tab_70 rfl rfl tab_68 (by decide) rfl ⟨rfl,rfl,rfl⟩) (d_op (xL [(10,PV.ptr 2 1)] [0] [(2,.obj (cTable X1))] rfl rfl rfl rfl rfl (s_load_ptr1 tab_68 rfl rfl rfl rfl rfl ⟨rfl,rfl,rfl⟩) ⟨rfl,trivial⟩ rfl (d_op ?_)))))
 refine x_run0 [(1,pN i)] [] rfl rfl rfl rfl (s_move rfl ⟨rfl,rfl,rfl⟩) (d_op (x_run0 [(5,PV.ptr 2 0)] [] rfl rfl rfl rfl (s_fa_ptr tab_70 rfl rfl tab_68 (by decide) rfl ⟨rfl,rfl,rfl⟩) (d_op (xL [(13,PV.ptr 2 1)] [3] [(2,.obj (cTable X1))] rfl rfl rfl rfl rfl (s_load_ptr1 tab_68 rfl rfl rfl rfl rfl ⟨rfl,rfl,rfl⟩) ⟨rfl,trivial⟩ rfl (d_op ?_)))))
 refine x_run0 [(14,pS 5 false eTenant X1.tenants)] [3,4] rfl rfl rfl rfl (s_lenM (l := X1.tenants) tab_68 rfl (hM_sl (f := eTenant) rfl) ⟨rfl,rfl,rfl⟩) (d_op (x_run0 [(12,pN i),(15,pN X1.tenants.length)] [2,3,4,5] rfl rfl rfl rfl (s_remN (a := i) (b := X1.tenants.length) rfl rfl (by omega) (by omega) (by omega) ⟨rfl,rfl,rfl⟩) (d_op ?_)))
 obtain ⟨e1,he1⟩ := get_of_lt X1.tenants (i := i % X1.tenants.length) (by have := Nat.mod_lt i (show 0 < X1.tenants.length by omega); omega)
 refine x_run0 [(11,pS 5 false eTenant X1.tenants),(16,pN (i % X1.tenants.length))] [0,1,2,3,4,5,6] rfl rfl rfl rfl (s_iaM (q := i % X1.tenants.length) (b := e1) (f := eTenant) tab_68 rfl tab_26 rfl rfl (by omega) rfl he1 ⟨rfl,rfl,rfl⟩) (d_op (x_run0 [(17,PV.f (.ro (eTenant e1)))] (.range 8) rfl rfl rfl rfl (s_load_ro tab_26 rfl rfl rfl ⟨rfl,rfl,rfl⟩) (d_op (xT [(4,PV.ptr 0 0),(18,PV.f (eTenant e1))] (.range 9) [(0,.obj [pI 0,pK .u32 0,pI 0,pNil,pNil])] [(0,.obj (cTenant e1))] [(2,.obj (cTable X1)),(1,.obj [pS 1 false encI t,pN b1])] rfl rfl rfl rfl rfl (s_store_ptr tab_26 rfl rfl rfl rfl rfl (Nat.le_of_ble_eq_true rfl) ⟨rfl,rfl,rfl⟩) rfl rfl (d_end ⟨by kernel_rfl, ?_⟩)))))
 refine q_then (w_ret ?_)
 have hex : WinsOk (⟨e1.unit,e1.functions,e1.queue,e1.windows,e1.slots⟩ : TTenant).windows := by
   exact hX1.wins _ (List.mem_of_getElem? he1)
 exact fin_plain (ret_cell tab_26 (by decide) rfl rfl (Nat.le_of_ble_eq_true rfl) rfl ret_nil) rfl rfl ⟨((⟨e1.unit,e1.functions,e1.queue,e1.windows,e1.slots⟩ : TTenant)),hex,rfl,rfl,rfl⟩
theorem w_burgagelaw14_known   :
    T Try.prog 16 [] 0 [] (Ret (pB true) 0 []) := by
 refine t_fun tabOk (n := 161) (rs := [.tmp 0]) Try.func16 rfl rfl rfl rfl (Nat.le_of_ble_eq_true rfl) ?_
 intro c hnt hk
 refine w_seq (w_R (qa hnt rfl rfl (r_end (q_then (w_seq ?_)))))
 refine w_R (qo hnt rfl (s_build tab_42 rfl rfl (b_cons rfl tab_3 rfl rfl rfl (Nat.le_of_ble_eq_true rfl) (b_cons rfl tab_3 rfl rfl rfl (Nat.le_of_ble_eq_true rfl) (b_cons rfl tab_3 rfl rfl rfl (Nat.le_of_ble_eq_true rfl) (b_cons rfl tab_3 rfl rfl rfl (Nat.le_of_ble_eq_true rfl) (b_nil ?_)))))))
 refine qo hnt rfl (s_build tab_42 rfl rfl (b_cons rfl tab_3 rfl rfl rfl (Nat.le_of_ble_eq_true rfl) (b_cons rfl tab_3 rfl rfl rfl (Nat.le_of_ble_eq_true rfl) (b_cons rfl tab_3 rfl rfl rfl (Nat.le_of_ble_eq_true rfl) (b_cons rfl tab_3 rfl rfl rfl (Nat.le_of_ble_eq_true rfl) (b_nil ?_))))))
 refine qo hnt rfl (s_mkM (f := eWindow) [(⟨3,0,100,4⟩ : TWindow),(⟨3,4,50,4⟩ : TWindow)] tab_23 rfl tab_42 ⟨rfl,by decide⟩ (by decide) rfl rfl rfl rfl ?_)
 refine qo hnt rfl (s_build tab_26 rfl rfl (b_cons rfl tab_3 rfl rfl rfl (Nat.le_of_ble_eq_true rfl) (b_cons rfl tab_22 rfl rfl rfl (Nat.le_of_ble_eq_true rfl) (b_cons rfl tab_23 rfl rfl rfl (Nat.le_of_ble_eq_true rfl) (b_nil ?_)))))
 refine qo hnt rfl (s_alloc tab_26 ?_)
 refine qo hnt rfl (s_store_ptr tab_26 rfl rfl rfl rfl rfl (Nat.le_of_ble_eq_true rfl) ?_)
 refine r_set [(1,PV.ptr 1 0)] [(1,.obj [pI 1,pK .u32 12648712,pI 0,PV.ref 0 0 none,pNil]),(0,oB true 4 eWindow [(⟨3,0,100,4⟩ : TWindow),(⟨3,4,50,4⟩ : TWindow)])] 2 ⟨rfl,trivial⟩ rfl rfl (r_end (q_then (w_seq (w_H (H' := [(1,.obj [pI 1,pK .u32 12648712,pI 0,PV.ref 0 0 none,pNil]),(0,oB true 4 eWindow LK)]) (congrArg (fun z => ([(1,.obj [pI 1,pK .u32 12648712,pI 0,PV.ref 0 0 none,pNil]),(0,oB true 4 eWindow z)] : Heap)) (show [(⟨3,0,100,4⟩ : TWindow),(⟨3,4,50,4⟩ : TWindow)] = LK by rfl)) (w_R ?_)))))
 refine qo hnt rfl (s_load_ptr tab_26 rfl rfl rfl (Nat.le_of_ble_eq_true rfl) ?_)
 refine qo hnt rfl (s_build tab_37 rfl rfl (b_cons rfl tab_3 rfl rfl rfl (Nat.le_of_ble_eq_true rfl) (b_cons rfl tab_3 rfl rfl rfl (Nat.le_of_ble_eq_true rfl) (b_cons rfl tab_3 rfl rfl rfl (Nat.le_of_ble_eq_true rfl) (b_nil ?_)))))
 obtain ⟨S1,hS1⟩ : ∃ z : List TPart × Int,z = splitP (⟨1,12648712,0,LK,[]⟩ : TTenant).functions (⟨1,12648712,0,LK,[]⟩ : TTenant).windows (⟨3,2,4,0,0,[],[],0,0⟩ : TRequest) := ⟨_,rfl⟩
 refine qo hnt rfl (s_callX (r2 := PV.tup [pS 10 false ePart S1.1,pI S1.2]) (nx1 := 2) (H2 := [(0,oB false 4 eWindow LK),(1,.obj [pI 1,pK .u32 12648712,pI 0,PV.ref 0 0 none,pNil])]) (H3 := [(0,oB false 4 eWindow LK),(1,.obj [pI 1,pK .u32 12648712,pI 0,PV.ref 0 0 none,pNil])]) [] [] rfl rfl rfl (handed_of (by decide) trivial) rfl rfl rfl rfl rfl rfl (T.leL (args := [PV.f (.agg [encI 1,FV.v (.int .u32 12648712),encI 0,FV.sl 4 false (List.map eWindow LK),FV.v (.slice none 0 0)]),PV.f (.agg [encI 3,encI 2,encI 4,encI 0,encI 0,FV.v (.slice none 0 0),FV.v (.slice none 0 0),enc16 0,enc16 0])]) (args' := [PV.f (eTenant (⟨1,12648712,0,LK,[]⟩ : TTenant)),PV.f (eRequest (⟨3,2,4,0,0,[],[],0,0⟩ : TRequest))]) ⟨le_F (FLe.agg ⟨FLe.refl _,FLe.refl _,FLe.refl _,FLe.refl _,FLe.nil 2 false,trivial⟩),⟨le_F (FLe.agg ⟨FLe.refl _,FLe.refl _,FLe.refl _,FLe.refl _,FLe.refl _,FLe.nil 1 false,FLe.nil 1 false,FLe.refl _,FLe.refl _,trivial⟩),trivial⟩⟩ (w_part_Split (⟨1,12648712,0,LK,[]⟩ : TTenant) (⟨3,2,4,0,0,[],[],0,0⟩ : TRequest) S1 hS1 (by decide +kernel) (by decide +kernel) (by decide +kernel))) rfl (dist_of rfl) rfl rfl rfl rfl ?_)
 refine qm hnt rfl rfl (qo hnt rfl (s_extract rfl rfl ?_))
 refine qo hnt rfl (s_extract rfl rfl ?_)
 refine qa hnt rfl rfl (qa hnt rfl rfl (r_set [(1,PV.ptr 1 0),(2,pS 10 false ePart S1.1),(3,pI S1.2)] [(0,oB false 4 eWindow LK),(1,.obj [pI 1,pK .u32 12648712,pI 0,PV.ref 0 0 none,pNil])] 2 ⟨rfl,rfl,rfl,trivial⟩ rfl rfl (r_end (q_then (w_seq ?_)))))
 refine w_R (qo hnt rfl (s_load_ptr tab_26 rfl rfl rfl (Nat.le_of_ble_eq_true rfl) ?_))
 refine qo hnt rfl (s_build tab_37 rfl rfl (b_cons rfl tab_3 rfl rfl rfl (Nat.le_of_ble_eq_true rfl) (b_cons rfl tab_3 rfl rfl rfl (Nat.le_of_ble_eq_true rfl) (b_cons rfl tab_35 rfl rfl rfl (Nat.le_of_ble_eq_true rfl) (b_cons rfl tab_35 rfl rfl rfl (Nat.le_of_ble_eq_true rfl) (b_nil ?_))))))
 obtain ⟨S2,hS2⟩ : ∃ z : List TPart × Int,z = splitP (⟨1,12648712,0,LK,[]⟩ : TTenant).functions (⟨1,12648712,0,LK,[]⟩ : TTenant).windows (⟨22,5,0,0,0,[],[],1,2⟩ : TRequest) := ⟨_,rfl⟩
 refine qo hnt rfl (s_callX (r2 := PV.tup [pS 10 false ePart S2.1,pI S2.2]) (nx1 := 2) (H2 := [(0,oB false 4 eWindow LK),(1,.obj [pI 1,pK .u32 12648712,pI 0,PV.ref 0 0 none,pNil])]) (H3 := [(0,oB false 4 eWindow LK),(1,.obj [pI 1,pK .u32 12648712,pI 0,PV.ref 0 0 none,pNil])]) [] [] rfl rfl rfl (handed_of (by decide) trivial) rfl rfl rfl rfl rfl rfl (T.leL (args := [PV.f (.agg [encI 1,FV.v (.int .u32 12648712),encI 0,FV.sl 4 false (List.map eWindow LK),FV.v (.slice none 0 0)]),PV.f (.agg [encI 22,encI 5,encI 0,encI 0,encI 0,FV.v (.slice none 0 0),FV.v (.slice none 0 0),enc16 1,enc16 2])]) (args' := [PV.f (eTenant (⟨1,12648712,0,LK,[]⟩ : TTenant)),PV.f (eRequest (⟨22,5,0,0,0,[],[],1,2⟩ : TRequest))]) ⟨le_F (FLe.agg ⟨FLe.refl _,FLe.refl _,FLe.refl _,FLe.refl _,FLe.nil 2 false,trivial⟩),⟨le_F (FLe.agg ⟨FLe.refl _,FLe.refl _,FLe.refl _,FLe.refl _,FLe.refl _,FLe.nil 1 false,FLe.nil 1 false,FLe.refl _,FLe.refl _,trivial⟩),trivial⟩⟩ (w_part_Split (⟨1,12648712,0,LK,[]⟩ : TTenant) (⟨22,5,0,0,0,[],[],1,2⟩ : TRequest) S2 hS2 (by decide +kernel) (by decide +kernel) (by decide +kernel))) rfl (dist_of rfl) rfl rfl rfl rfl ?_)
 refine qm hnt rfl rfl (qo hnt rfl (s_extract rfl rfl ?_))
 refine qo hnt rfl (s_extract rfl rfl ?_)
 refine qa hnt rfl rfl (qa hnt rfl rfl (r_set [(1,PV.ptr 1 0),(2,pS 10 false ePart S1.1),(3,pI S1.2),(4,pS 10 false ePart S2.1),(5,pI S2.2)] [(0,oB false 4 eWindow LK),(1,.obj [pI 1,pK .u32 12648712,pI 0,PV.ref 0 0 none,pNil])] 2 ⟨rfl,rfl,rfl,rfl,rfl,trivial⟩ rfl rfl (r_end (q_then (w_seq ?_)))))
 refine w_R (qo hnt rfl (s_build tab_26 rfl rfl (b_nil ?_)))
 refine qo hnt rfl (s_build tab_37 rfl rfl (b_nil ?_))
 obtain ⟨S3,hS3⟩ : ∃ z : List TPart × Int,z = splitP (⟨0,0,0,[],[]⟩ : TTenant).functions (⟨0,0,0,[],[]⟩ : TTenant).windows (⟨0,0,0,0,0,[],[],0,0⟩ : TRequest) := ⟨_,rfl⟩
 refine qo hnt rfl (s_callF rfl rfl rfl (T.leL (args := [PV.f (.agg [encI 0,FV.v (.int .u32 0),encI 0,FV.v (.slice none 0 0),FV.v (.slice none 0 0)]),PV.f (.agg [encI 0,encI 0,encI 0,encI 0,encI 0,FV.v (.slice none 0 0),FV.v (.slice none 0 0),enc16 0,enc16 0])]) (args' := [PV.f (eTenant (⟨0,0,0,[],[]⟩ : TTenant)),PV.f (eRequest (⟨0,0,0,0,0,[],[],0,0⟩ : TRequest))]) ⟨le_F (FLe.agg ⟨FLe.refl _,FLe.refl _,FLe.refl _,FLe.nil 4 false,FLe.nil 2 false,trivial⟩),⟨le_F (FLe.agg ⟨FLe.refl _,FLe.refl _,FLe.refl _,FLe.refl _,FLe.refl _,FLe.nil 1 false,FLe.nil 1 false,FLe.refl _,FLe.refl _,trivial⟩),trivial⟩⟩ (w_part_Split (⟨0,0,0,[],[]⟩ : TTenant) (⟨0,0,0,0,0,[],[],0,0⟩ : TRequest) S3 hS3 (by decide +kernel) (by decide +kernel) (by decide +kernel))) rfl ?_)
 refine qm hnt rfl rfl (qo hnt rfl (s_extract rfl rfl ?_))
 refine qo hnt rfl (s_extract rfl rfl ?_)
 refine qa hnt rfl rfl (qa hnt rfl rfl (r_end (q_then (w_seq (w_R ?_)))))
 refine qo hnt rfl (s_load_ptr tab_26 rfl rfl rfl (Nat.le_of_ble_eq_true rfl) ?_)
 refine qo hnt rfl (s_mkM (f := enc16) ([1] : List UInt16) tab_34 rfl tab_35 ⟨rfl,by decide⟩ (by decide) rfl rfl rfl rfl ?_)
 refine qo hnt rfl (s_build tab_37 rfl rfl (b_cons rfl tab_3 rfl rfl rfl (Nat.le_of_ble_eq_true rfl) (b_cons rfl tab_34 rfl rfl rfl (Nat.le_of_ble_eq_true rfl) (b_nil ?_))))
 obtain ⟨S4,hS4⟩ : ∃ z : List TPart × Int,z = splitP (⟨1,12648712,0,LK,[]⟩ : TTenant).functions (⟨1,12648712,0,LK,[]⟩ : TTenant).windows (⟨8,0,0,0,0,[],([1] : List UInt16),0,0⟩ : TRequest) := ⟨_,rfl⟩
 refine qo hnt rfl (s_callX (r2 := PV.tup [pS 10 false ePart S4.1,pI S4.2]) (nx1 := 3) (H2 := [(2,oB false 1 enc16 ([1] : List UInt16)),(0,oB false 4 eWindow LK),(1,.obj [pI 1,pK .u32 12648712,pI 0,PV.ref 0 0 none,pNil])]) (H3 := [(2,oB false 1 enc16 ([1] : List UInt16)),(0,oB false 4 eWindow LK),(1,.obj [pI 1,pK .u32 12648712,pI 0,PV.ref 0 0 none,pNil])]) [] [] rfl rfl rfl (handed_of (by decide) trivial) rfl rfl rfl rfl rfl rfl (T.leL (args := [PV.f (.agg [encI 1,FV.v (.int .u32 12648712),encI 0,FV.sl 4 false (List.map eWindow LK),FV.v (.slice none 0 0)]),PV.f (.agg [encI 8,encI 0,encI 0,encI 0,encI 0,FV.v (.slice none 0 0),FV.sl 1 false (List.map enc16 ([1] : List UInt16)),enc16 0,enc16 0])]) (args' := [PV.f (eTenant (⟨1,12648712,0,LK,[]⟩ : TTenant)),PV.f (eRequest (⟨8,0,0,0,0,[],([1] : List UInt16),0,0⟩ : TRequest))]) ⟨le_F (FLe.agg ⟨FLe.refl _,FLe.refl _,FLe.refl _,FLe.refl _,FLe.nil 2 false,trivial⟩),⟨le_F (FLe.agg ⟨FLe.refl _,FLe.refl _,FLe.refl _,FLe.refl _,FLe.refl _,FLe.nil 1 false,FLe.refl _,FLe.refl _,FLe.refl _,trivial⟩),trivial⟩⟩ (w_part_Split (⟨1,12648712,0,LK,[]⟩ : TTenant) (⟨8,0,0,0,0,[],([1] : List UInt16),0,0⟩ : TRequest) S4 hS4 (by decide +kernel) (by decide +kernel) (by decide +kernel))) rfl (dist_of rfl) rfl rfl rfl rfl ?_)
 refine qm hnt rfl rfl (qo hnt rfl (s_extract rfl rfl ?_))
 refine qo hnt rfl (s_extract rfl rfl ?_)
 refine qa hnt rfl rfl (qa hnt rfl rfl (r_set [(1,PV.ptr 1 0),(2,pS 10 false ePart S1.1),(3,pI S1.2),(4,pS 10 false ePart S2.1),(5,pI S2.2),(6,pS 10 false ePart S3.1),(7,pI S3.2),(8,pS 10 false ePart S4.1),(9,pI S4.2)] [(2,oB false 1 enc16 ([1] : List UInt16)),(0,oB false 4 eWindow LK),(1,.obj [pI 1,pK .u32 12648712,pI 0,PV.ref 0 0 none,pNil])] 3 ⟨rfl,rfl,rfl,rfl,rfl,rfl,rfl,rfl,rfl,trivial⟩ rfl rfl (r_end (q_then (w_seq ?_)))))
 have hs1 := hS1.trans kp_1
 have hs2 := hS2.trans kp_2
 have hs3 := hS3.trans kp_3
 have hs4 := hS4.trans kp_4
 refine w_eq (s := 2) (y := pS 10 false ePart ([(⟨⟨3,102,2,0,0,[],[],0,0⟩,false⟩ : TPart),(⟨⟨3,50,2,0,0,[],[],0,0⟩,false⟩ : TPart)])) rfl (congrArg (fun z => pS 10 false ePart z) (show S1.1 = ([(⟨⟨3,102,2,0,0,[],[],0,0⟩,false⟩ : TPart),(⟨⟨3,50,2,0,0,[],[],0,0⟩,false⟩ : TPart)]) by rw [hs1])) (w_eq (s := 3) (y := pI 0) rfl (congrArg pI (show S1.2 = 0 by rw [hs1])) (w_eq (s := 4) (y := pS 10 false ePart ([(⟨⟨3,51,1,0,0,[],[],0,0⟩,false⟩ : TPart),(⟨⟨6,51,0,0,0,[],[0],0,0⟩,true⟩ : TPart)])) rfl (congrArg (fun z => pS 10 false ePart z) (show S2.1 = ([(⟨⟨3,51,1,0,0,[],[],0,0⟩,false⟩ : TPart),(⟨⟨6,51,0,0,0,[],[0],0,0⟩,true⟩ : TPart)]) by rw [hs2])) (w_eq (s := 5) (y := pI 0) rfl (congrArg pI (show S2.2 = 0 by rw [hs2])) (w_eq (s := 6) (y := pS 10 false ePart ([] : List TPart)) rfl (congrArg (fun z => pS 10 false ePart z) (show S3.1 = ([] : List TPart) by rw [hs3])) (w_eq (s := 7) (y := pI 1) rfl (congrArg pI (show S3.2 = 1 by rw [hs3])) ?_)))))
 refine w_eq (s := 8) (y := pS 10 false ePart ([] : List TPart)) rfl (congrArg (fun z => pS 10 false ePart z) (show S4.1 = ([] : List TPart) by rw [hs4])) (w_eq (s := 9) (y := pI 0) rfl (congrArg pI (show S4.2 = 0 by rw [hs4])) (w_R (qm hnt rfl rfl (qo hnt rfl (s_eql rfl rfl ?_)))))
 refine qm hnt rfl rfl (r_if tabOk hnt rfl rfl rfl (fun g1 => ?_) (fun g1 => ?_))
 ·have g1' := g1
  try simp only [sB] at g1'
  refine qm hnt rfl rfl (ry hnt rfl rfl rfl g1 (qo hnt rfl (s_lenM (l := [(⟨⟨3,102,2,0,0,[],[],0,0⟩,false⟩ : TPart),(⟨⟨3,50,2,0,0,[],[],0,0⟩,false⟩ : TPart)]) tab_45 rfl (hM_sl (f := ePart) rfl) ?_)))
  refine ry hnt rfl rfl rfl g1 (qo hnt rfl (s_eql rfl rfl ?_))
  refine qo hnt rfl (s_pick_t rfl g1 rfl ?_)
  refine qm hnt rfl rfl (r_if tabOk hnt rfl rfl rfl (fun g2 => ?_) (fun g2 => ?_))
  ·have g2' := g2
   try simp only [sB] at g2'
   refine qm hnt rfl rfl (ry hnt rfl rfl rfl g2 ?_)
   obtain ⟨e1,he1⟩ := get_of_lt ([(⟨⟨3,102,2,0,0,[],[],0,0⟩,false⟩ : TPart),(⟨⟨3,50,2,0,0,[],[],0,0⟩,false⟩ : TPart)]) (i := 0) (by omega)
   refine qo hnt rfl (s_iaM (q := 0) (b := e1) (f := ePart) tab_45 rfl tab_50 rfl rfl (by omega) rfl he1 ?_)
   refine ry hnt rfl rfl rfl g2 (qo hnt rfl (s_fa_ro tab_50 rfl rfl tab_37 (by decide) rfl (Nat.le_of_ble_eq_true rfl) (by intro h; cases h) ?_))
   refine ry hnt rfl rfl rfl g2 (qo hnt rfl (s_fa_ro tab_37 rfl rfl tab_3 (by decide) rfl (Nat.le_of_ble_eq_true rfl) (by intro _; rfl) ?_))
   refine ry hnt rfl rfl rfl g2 (qo hnt rfl (s_load_ro1 tab_3 rfl rfl rfl rfl ?_))
   refine ry hnt rfl rfl rfl g2 (qo hnt rfl (s_eql rfl rfl ?_))
   refine qo hnt rfl (s_pick_t rfl g2 rfl ?_)
   refine qm hnt rfl rfl (r_if tabOk hnt rfl rfl rfl (fun g3 => ?_) (fun g3 => ?_))
   ·have g3' := g3
    try simp only [sB] at g3'
    refine qm hnt rfl rfl (ry hnt rfl rfl rfl g3 (qo hnt rfl (s_iaM (q := 0) (b := e1) (f := ePart) tab_45 rfl tab_50 rfl rfl (by omega) rfl he1 ?_)))
    refine ry hnt rfl rfl rfl g3 (qo hnt rfl (s_fa_ro tab_50 rfl rfl tab_37 (by decide) rfl (Nat.le_of_ble_eq_true rfl) (by intro h; cases h) ?_))
    refine ry hnt rfl rfl rfl g3 (qo hnt rfl (s_fa_ro tab_37 rfl rfl tab_3 (by decide) rfl (Nat.le_of_ble_eq_true rfl) (by intro _; rfl) ?_))
    refine ry hnt rfl rfl rfl g3 (qo hnt rfl (s_load_ro1 tab_3 rfl rfl rfl rfl ?_))
    refine ry hnt rfl rfl rfl g3 (qo hnt rfl (s_eql rfl rfl ?_))
    refine qo hnt rfl (s_pick_t rfl g3 rfl ?_)
    refine qm hnt rfl rfl (r_if tabOk hnt rfl rfl rfl (fun g4 => ?_) (fun g4 => ?_))
    ·have g4' := g4
     try simp only [sB] at g4'
     refine qm hnt rfl rfl (ry hnt rfl rfl rfl g4 ?_)
     obtain ⟨e2,he2⟩ := get_of_lt ([(⟨⟨3,102,2,0,0,[],[],0,0⟩,false⟩ : TPart),(⟨⟨3,50,2,0,0,[],[],0,0⟩,false⟩ : TPart)]) (i := 1) (by omega)
     refine qo hnt rfl (s_iaM (q := 1) (b := e2) (f := ePart) tab_45 rfl tab_50 rfl rfl (by omega) rfl he2 ?_)
     refine ry hnt rfl rfl rfl g4 (qo hnt rfl (s_fa_ro tab_50 rfl rfl tab_37 (by decide) rfl (Nat.le_of_ble_eq_true rfl) (by intro h; cases h) ?_))
     refine ry hnt rfl rfl rfl g4 (qo hnt rfl (s_fa_ro tab_37 rfl rfl tab_3 (by decide) rfl (Nat.le_of_ble_eq_true rfl) (by intro _; rfl) ?_))
     refine ry hnt rfl rfl rfl g4 (qo hnt rfl (s_load_ro1 tab_3 rfl rfl rfl rfl ?_))
     refine ry hnt rfl rfl rfl g4 (qo hnt rfl (s_eql rfl rfl ?_))
     refine qo hnt rfl (s_pick_t rfl g4 rfl ?_)
     refine qm hnt rfl rfl (r_if tabOk hnt rfl rfl rfl (fun g5 => ?_) (fun g5 => ?_))
     ·have g5' := g5
      try simp only [sB] at g5'
      refine qm hnt rfl rfl (ry hnt rfl rfl rfl g5 (qo hnt rfl (s_iaM (q := 1) (b := e2) (f := ePart) tab_45 rfl tab_50 rfl rfl (by omega) rfl he2 ?_)))
      refine ry hnt rfl rfl rfl g5 (qo hnt rfl (s_fa_ro tab_50 rfl rfl tab_4 (by decide) rfl (Nat.le_of_ble_eq_true rfl) (by intro _; rfl) ?_))
      refine ry hnt rfl rfl rfl g5 (qo hnt rfl (s_load_ro1 tab_4 rfl rfl rfl rfl ?_))
      refine ry hnt rfl rfl rfl g5 (qo hnt rfl (s_not rfl ?_))
      refine qo hnt rfl (s_pick_t rfl g5 rfl ?_)
      refine qm hnt rfl rfl (r_if tabOk hnt rfl rfl rfl (fun g6 => ?_) (fun g6 => ?_))
      ·have g6' := g6
       try simp only [sB] at g6'
       refine qm hnt rfl rfl (ry hnt rfl rfl rfl g6 (qo hnt rfl (s_eql rfl rfl ?_)))
       refine qo hnt rfl (s_pick_t rfl g6 rfl ?_)
       refine qm hnt rfl rfl (ry hnt rfl rfl rfl g1 (qm hnt rfl rfl (ry hnt rfl rfl rfl g1 (qo hnt rfl (s_lenM (l := [(⟨⟨3,51,1,0,0,[],[],0,0⟩,false⟩ : TPart),(⟨⟨6,51,0,0,0,[],[0],0,0⟩,true⟩ : TPart)]) tab_45 rfl (hM_sl (f := ePart) rfl) ?_)))))
       refine ry hnt rfl rfl rfl g1 (qo hnt rfl (s_eql rfl rfl ?_))
       refine qo hnt rfl (s_pick_t rfl g1 rfl ?_)
       refine qm hnt rfl rfl (r_if tabOk hnt rfl rfl rfl (fun g7 => ?_) (fun g7 => ?_))
       ·have g7' := g7
        try simp only [sB] at g7'
        refine qm hnt rfl rfl (ry hnt rfl rfl rfl g7 ?_)
        obtain ⟨e3,he3⟩ := get_of_lt ([(⟨⟨3,51,1,0,0,[],[],0,0⟩,false⟩ : TPart),(⟨⟨6,51,0,0,0,[],[0],0,0⟩,true⟩ : TPart)]) (i := 0) (by omega)
        refine qo hnt rfl (s_iaM (q := 0) (b := e3) (f := ePart) tab_45 rfl tab_50 rfl rfl (by omega) rfl he3 ?_)
        refine ry hnt rfl rfl rfl g7 (qo hnt rfl (s_fa_ro tab_50 rfl rfl tab_37 (by decide) rfl (Nat.le_of_ble_eq_true rfl) (by intro h; cases h) ?_))
        refine ry hnt rfl rfl rfl g7 (qo hnt rfl (s_fa_ro tab_37 rfl rfl tab_3 (by decide) rfl (Nat.le_of_ble_eq_true rfl) (by intro _; rfl) ?_))
        refine ry hnt rfl rfl rfl g7 (qo hnt rfl (s_load_ro1 tab_3 rfl rfl rfl rfl ?_))
        refine ry hnt rfl rfl rfl g7 (qo hnt rfl (s_eql rfl rfl ?_))
        refine qo hnt rfl (s_pick_t rfl g7 rfl ?_)
        refine qm hnt rfl rfl (r_if tabOk hnt rfl rfl rfl (fun g8 => ?_) (fun g8 => ?_))
        ·have g8' := g8
         try simp only [sB] at g8'
         refine qm hnt rfl rfl (ry hnt rfl rfl rfl g8 (qo hnt rfl (s_iaM (q := 0) (b := e3) (f := ePart) tab_45 rfl tab_50 rfl rfl (by omega) rfl he3 ?_)))
         refine ry hnt rfl rfl rfl g8 (qo hnt rfl (s_fa_ro tab_50 rfl rfl tab_37 (by decide) rfl (Nat.le_of_ble_eq_true rfl) (by intro h; cases h) ?_))
         refine ry hnt rfl rfl rfl g8 (qo hnt rfl (s_fa_ro tab_37 rfl rfl tab_3 (by decide) rfl (Nat.le_of_ble_eq_true rfl) (by intro _; rfl) ?_))
         refine ry hnt rfl rfl rfl g8 (qo hnt rfl (s_load_ro1 tab_3 rfl rfl rfl rfl ?_))
         refine ry hnt rfl rfl rfl g8 (qo hnt rfl (s_eql rfl rfl ?_))
         refine qo hnt rfl (s_pick_t rfl g8 rfl ?_)
         refine qm hnt rfl rfl (r_if tabOk hnt rfl rfl rfl (fun g9 => ?_) (fun g9 => ?_))
         ·have g9' := g9
          try simp only [sB] at g9'
          refine qm hnt rfl rfl (ry hnt rfl rfl rfl g9 ?_)
          obtain ⟨e4,he4⟩ := get_of_lt ([(⟨⟨3,51,1,0,0,[],[],0,0⟩,false⟩ : TPart),(⟨⟨6,51,0,0,0,[],[0],0,0⟩,true⟩ : TPart)]) (i := 1) (by omega)
          refine qo hnt rfl (s_iaM (q := 1) (b := e4) (f := ePart) tab_45 rfl tab_50 rfl rfl (by omega) rfl he4 ?_)
          refine ry hnt rfl rfl rfl g9 (qo hnt rfl (s_fa_ro tab_50 rfl rfl tab_37 (by decide) rfl (Nat.le_of_ble_eq_true rfl) (by intro h; cases h) ?_))
          refine ry hnt rfl rfl rfl g9 (qo hnt rfl (s_fa_ro tab_37 rfl rfl tab_3 (by decide) rfl (Nat.le_of_ble_eq_true rfl) (by intro _; rfl) ?_))
          refine ry hnt rfl rfl rfl g9 (qo hnt rfl (s_load_ro1 tab_3 rfl rfl rfl rfl ?_))
          refine ry hnt rfl rfl rfl g9 (qo hnt rfl (s_eql rfl rfl ?_))
          refine qo hnt rfl (s_pick_t rfl g9 rfl ?_)
          refine qm hnt rfl rfl (r_if tabOk hnt rfl rfl rfl (fun g10 => ?_) (fun g10 => ?_))
          ·have g10' := g10
           try simp only [sB] at g10'
           refine qm hnt rfl rfl (ry hnt rfl rfl rfl g10 (qo hnt rfl (s_iaM (q := 1) (b := e4) (f := ePart) tab_45 rfl tab_50 rfl rfl (by omega) rfl he4 ?_)))
           refine ry hnt rfl rfl rfl g10 (qo hnt rfl (s_fa_ro tab_50 rfl rfl tab_4 (by decide) rfl (Nat.le_of_ble_eq_true rfl) (by intro _; rfl) ?_))
           refine ry hnt rfl rfl rfl g10 (qo hnt rfl (s_load_ro1 tab_4 rfl rfl rfl rfl ?_))
           refine qo hnt rfl (s_pick_t rfl g10 rfl ?_)
           refine qm hnt rfl rfl (r_if tabOk hnt rfl rfl rfl (fun g11 => ?_) (fun g11 => ?_))
           ·have g11' := g11
            try simp only [sB] at g11'
            refine qm hnt rfl rfl (ry hnt rfl rfl rfl g11 (qo hnt rfl (s_lenM (l := ([] : List TPart)) tab_45 rfl (hM_sl (f := ePart) rfl) ?_)))
            refine ry hnt rfl rfl rfl g11 (qo hnt rfl (s_eql rfl rfl ?_))
            refine qo hnt rfl (s_pick_t rfl g11 rfl ?_)
            refine qm hnt rfl rfl (r_if tabOk hnt rfl rfl rfl (fun g12 => ?_) (fun g12 => ?_))
            ·have g12' := g12
             try simp only [sB] at g12'
             refine qm hnt rfl rfl (ry hnt rfl rfl rfl g12 (qo hnt rfl (s_eql rfl rfl ?_)))
             refine qo hnt rfl (s_pick_t rfl g12 rfl ?_)
             refine qm hnt rfl rfl (r_if tabOk hnt rfl rfl rfl (fun g13 => ?_) (fun g13 => ?_))
             ·have g13' := g13
              try simp only [sB] at g13'
              refine qm hnt rfl rfl (ry hnt rfl rfl rfl g13 (qo hnt rfl (s_lenM (l := ([] : List TPart)) tab_45 rfl (hM_sl (f := ePart) rfl) ?_)))
              refine ry hnt rfl rfl rfl g13 (qo hnt rfl (s_eql rfl rfl ?_))
              refine qo hnt rfl (s_pick_t rfl g13 rfl ?_)
              refine qm hnt rfl rfl (ry hnt rfl rfl rfl g12 (qm hnt rfl rfl (ry hnt rfl rfl rfl g12 (qo hnt rfl (s_eql rfl rfl ?_)))))
              refine qo hnt rfl (s_pick_t rfl g12 rfl ?_)
              refine qm hnt rfl rfl (ry hnt rfl rfl rfl g1 (qo hnt rfl (s_load_ptr tab_26 rfl rfl rfl (Nat.le_of_ble_eq_true rfl) ?_)))
              refine ry hnt rfl rfl rfl g1 (qo hnt rfl (s_build tab_37 rfl rfl (b_cons rfl tab_3 rfl rfl rfl (Nat.le_of_ble_eq_true rfl) (b_cons rfl tab_3 rfl rfl rfl (Nat.le_of_ble_eq_true rfl) (b_nil ?_)))))
              refine ry hnt rfl rfl rfl g1 (qo hnt rfl (s_callX (r2 := pI (codeP (⟨1,12648712,0,LK,[]⟩ : TTenant).functions (⟨1,12648712,0,LK,[]⟩ : TTenant).windows (⟨1,0,1,0,0,[],[],0,0⟩ : TRequest))) (nx1 := 3) (H2 := [(0,oB false 4 eWindow LK),(2,oB false 1 enc16 ([1] : List UInt16)),(1,.obj [pI 1,pK .u32 12648712,pI 0,PV.ref 0 0 none,pNil])]) (H3 := [(0,oB false 4 eWindow LK),(2,oB false 1 enc16 ([1] : List UInt16)),(1,.obj [pI 1,pK .u32 12648712,pI 0,PV.ref 0 0 none,pNil])]) [] [] rfl rfl rfl (handed_of (by decide) trivial) rfl rfl rfl rfl rfl rfl (T.leL (args := [PV.f (.agg [encI 1,FV.v (.int .u32 12648712),encI 0,FV.sl 4 false (List.map eWindow LK),FV.v (.slice none 0 0)]),PV.f (.agg [encI 1,encI 0,encI 1,encI 0,encI 0,FV.v (.slice none 0 0),FV.v (.slice none 0 0),enc16 0,enc16 0])]) (args' := [PV.f (eTenant (⟨1,12648712,0,LK,[]⟩ : TTenant)),PV.f (eRequest (⟨1,0,1,0,0,[],[],0,0⟩ : TRequest))]) ⟨le_F (FLe.agg ⟨FLe.refl _,FLe.refl _,FLe.refl _,FLe.refl _,FLe.nil 2 false,trivial⟩),⟨le_F (FLe.agg ⟨FLe.refl _,FLe.refl _,FLe.refl _,FLe.refl _,FLe.refl _,FLe.nil 1 false,FLe.nil 1 false,FLe.refl _,FLe.refl _,trivial⟩),trivial⟩⟩ (w_part_Code (⟨1,12648712,0,LK,[]⟩ : TTenant) (⟨1,0,1,0,0,[],[],0,0⟩ : TRequest) (by decide +kernel) (by decide +kernel) (by decide +kernel))) rfl (dist_of rfl) rfl rfl rfl rfl ?_))
              refine ry hnt rfl rfl rfl g1 (qo hnt rfl (s_eql rfl rfl ?_))
              refine qo hnt rfl (s_pick_t rfl g1 rfl ?_)
              refine qm hnt rfl rfl (r_if tabOk hnt rfl rfl rfl (fun g14 => ?_) (fun g14 => ?_))
              ·have g14' := g14
               try simp only [sB] at g14'
               refine qo hnt rfl (s_load_ptr tab_26 rfl rfl rfl (Nat.le_of_ble_eq_true rfl) ?_)
               refine ry hnt rfl rfl rfl g14 (qo hnt rfl (s_build tab_37 rfl rfl (b_cons rfl tab_3 rfl rfl rfl (Nat.le_of_ble_eq_true rfl) (b_cons rfl tab_3 rfl rfl rfl (Nat.le_of_ble_eq_true rfl) (b_cons rfl tab_3 rfl rfl rfl (Nat.le_of_ble_eq_true rfl) (b_nil ?_))))))
               refine ry hnt rfl rfl rfl g14 (qo hnt rfl (s_callX (r2 := pI (codeP (⟨1,12648712,0,LK,[]⟩ : TTenant).functions (⟨1,12648712,0,LK,[]⟩ : TTenant).windows (⟨3,6,3,0,0,[],[],0,0⟩ : TRequest))) (nx1 := 3) (H2 := [(0,oB false 4 eWindow LK),(2,oB false 1 enc16 ([1] : List UInt16)),(1,.obj [pI 1,pK .u32 12648712,pI 0,PV.ref 0 0 none,pNil])]) (H3 := [(0,oB false 4 eWindow LK),(2,oB false 1 enc16 ([1] : List UInt16)),(1,.obj [pI 1,pK .u32 12648712,pI 0,PV.ref 0 0 none,pNil])]) [] [] rfl rfl rfl (handed_of (by decide) trivial) rfl rfl rfl rfl rfl rfl (T.leL (args := [PV.f (.agg [encI 1,FV.v (.int .u32 12648712),encI 0,FV.sl 4 false (List.map eWindow LK),FV.v (.slice none 0 0)]),PV.f (.agg [encI 3,encI 6,encI 3,encI 0,encI 0,FV.v (.slice none 0 0),FV.v (.slice none 0 0),enc16 0,enc16 0])]) (args' := [PV.f (eTenant (⟨1,12648712,0,LK,[]⟩ : TTenant)),PV.f (eRequest (⟨3,6,3,0,0,[],[],0,0⟩ : TRequest))]) ⟨le_F (FLe.agg ⟨FLe.refl _,FLe.refl _,FLe.refl _,FLe.refl _,FLe.nil 2 false,trivial⟩),⟨le_F (FLe.agg ⟨FLe.refl _,FLe.refl _,FLe.refl _,FLe.refl _,FLe.refl _,FLe.nil 1 false,FLe.nil 1 false,FLe.refl _,FLe.refl _,trivial⟩),trivial⟩⟩ (w_part_Code (⟨1,12648712,0,LK,[]⟩ : TTenant) (⟨3,6,3,0,0,[],[],0,0⟩ : TRequest) (by decide +kernel) (by decide +kernel) (by decide +kernel))) rfl (dist_of rfl) rfl rfl rfl rfl ?_))
               refine ry hnt rfl rfl rfl g14 (qo hnt rfl (s_eql rfl rfl ?_))
               refine qo hnt rfl (s_pick_t rfl g14 rfl ?_)
               refine qm hnt rfl rfl (r_if tabOk hnt rfl rfl rfl (fun g15 => ?_) (fun g15 => ?_))
               ·have g15' := g15
                try simp only [sB] at g15'
                refine qo hnt rfl (s_load_ptr tab_26 rfl rfl rfl (Nat.le_of_ble_eq_true rfl) ?_)
                refine ry hnt rfl rfl rfl g15 (qo hnt rfl (s_build tab_37 rfl rfl (b_cons rfl tab_3 rfl rfl rfl (Nat.le_of_ble_eq_true rfl) (b_nil ?_))))
                refine ry hnt rfl rfl rfl g15 (qo hnt rfl (s_callX (r2 := pI (codeP (⟨1,12648712,0,LK,[]⟩ : TTenant).functions (⟨1,12648712,0,LK,[]⟩ : TTenant).windows (⟨3,0,0,0,0,[],[],0,0⟩ : TRequest))) (nx1 := 3) (H2 := [(0,oB false 4 eWindow LK),(2,oB false 1 enc16 ([1] : List UInt16)),(1,.obj [pI 1,pK .u32 12648712,pI 0,PV.ref 0 0 none,pNil])]) (H3 := [(0,oB false 4 eWindow LK),(2,oB false 1 enc16 ([1] : List UInt16)),(1,.obj [pI 1,pK .u32 12648712,pI 0,PV.ref 0 0 none,pNil])]) [] [] rfl rfl rfl (handed_of (by decide) trivial) rfl rfl rfl rfl rfl rfl (T.leL (args := [PV.f (.agg [encI 1,FV.v (.int .u32 12648712),encI 0,FV.sl 4 false (List.map eWindow LK),FV.v (.slice none 0 0)]),PV.f (.agg [encI 3,encI 0,encI 0,encI 0,encI 0,FV.v (.slice none 0 0),FV.v (.slice none 0 0),enc16 0,enc16 0])]) (args' := [PV.f (eTenant (⟨1,12648712,0,LK,[]⟩ : TTenant)),PV.f (eRequest (⟨3,0,0,0,0,[],[],0,0⟩ : TRequest))]) ⟨le_F (FLe.agg ⟨FLe.refl _,FLe.refl _,FLe.refl _,FLe.refl _,FLe.nil 2 false,trivial⟩),⟨le_F (FLe.agg ⟨FLe.refl _,FLe.refl _,FLe.refl _,FLe.refl _,FLe.refl _,FLe.nil 1 false,FLe.nil 1 false,FLe.refl _,FLe.refl _,trivial⟩),trivial⟩⟩ (w_part_Code (⟨1,12648712,0,LK,[]⟩ : TTenant) (⟨3,0,0,0,0,[],[],0,0⟩ : TRequest) (by decide +kernel) (by decide +kernel) (by decide +kernel))) rfl (dist_of rfl) rfl rfl rfl rfl ?_))
                refine ry hnt rfl rfl rfl g15 (qo hnt rfl (s_eql rfl rfl ?_))
                refine qo hnt rfl (s_pick_t rfl g15 rfl ?_)
                refine qm hnt rfl rfl (r_if tabOk hnt rfl rfl rfl (fun g16 => ?_) (fun g16 => ?_))
                ·have g16' := g16
                 try simp only [sB] at g16'
                 refine qo hnt rfl (s_build tab_37 rfl rfl (b_cons rfl tab_3 rfl rfl rfl (Nat.le_of_ble_eq_true rfl) (b_nil ?_)))
                 refine ry hnt rfl rfl rfl g16 (qo hnt rfl (s_callF rfl rfl rfl (T.leL (args := [PV.f (.agg [encI 17,encI 0,encI 0,encI 0,encI 0,FV.v (.slice none 0 0),FV.v (.slice none 0 0),enc16 0,enc16 0])]) (args' := [PV.f (eRequest (⟨17,0,0,0,0,[],[],0,0⟩ : TRequest))]) ⟨le_F (FLe.agg ⟨FLe.refl _,FLe.refl _,FLe.refl _,FLe.refl _,FLe.refl _,FLe.nil 1 false,FLe.nil 1 false,FLe.refl _,FLe.refl _,trivial⟩),trivial⟩ (w_part_Local (⟨17,0,0,0,0,[],[],0,0⟩ : TRequest))) rfl ?_))
                 refine qo hnt rfl (s_pick_t rfl g16 rfl ?_)
                 refine qm hnt rfl rfl (r_if tabOk hnt rfl rfl rfl (fun g17 => ?_) (fun g17 => ?_))
                 ·have g17' := g17
                  try simp only [sB] at g17'
                  refine qo hnt rfl (s_build tab_37 rfl rfl (b_cons rfl tab_3 rfl rfl rfl (Nat.le_of_ble_eq_true rfl) (b_nil ?_)))
                  refine ry hnt rfl rfl rfl g17 (qo hnt rfl (s_callF rfl rfl rfl (T.leL (args := [PV.f (.agg [encI 1,encI 0,encI 0,encI 0,encI 0,FV.v (.slice none 0 0),FV.v (.slice none 0 0),enc16 0,enc16 0])]) (args' := [PV.f (eRequest (⟨1,0,0,0,0,[],[],0,0⟩ : TRequest))]) ⟨le_F (FLe.agg ⟨FLe.refl _,FLe.refl _,FLe.refl _,FLe.refl _,FLe.refl _,FLe.nil 1 false,FLe.nil 1 false,FLe.refl _,FLe.refl _,trivial⟩),trivial⟩ (w_part_Local (⟨1,0,0,0,0,[],[],0,0⟩ : TRequest))) rfl ?_))
                  refine ry hnt rfl rfl rfl g17 (qo hnt rfl (s_not rfl ?_))
                  refine qo hnt rfl (s_pick_t rfl g17 rfl ?_)
                  refine qa hnt rfl rfl (r_set [(0,pB (!(locP (⟨1,0,0,0,0,[],[],0,0⟩ : TRequest).fn)))] [(0,oB false 4 eWindow LK),(2,oB false 1 enc16 ([1] : List UInt16)),(1,.obj [pI 1,pK .u32 12648712,pI 0,PV.ref 0 0 none,pNil])] 3 ⟨rfl,trivial⟩ rfl rfl (r_end (q_then (w_le (s := 0) (y := pB true) rfl (le_of_eq (congrArg pB (show (!(locP (⟨1,0,0,0,0,[],[],0,0⟩ : TRequest).fn)) = true by decide))) (w_ret ?_)))))
                  exact fin_plain (ret_tmp rfl ret_nil) rfl rfl ⟨rfl,rfl,rfl⟩
                 exact absurd g17 (by decide)
                exact absurd g16 (by decide)
               exact absurd g15 (by (rw [kp_6]; decide))
              exact absurd g14 (by decide)
             exact absurd g13 (by decide)
            exact absurd g12 (by decide)
           exact absurd g11 (by (have h9 : (⟨⟨6,51,0,0,0,[],[0],0,0⟩,true⟩ : TPart) = e4 := Option.some.inj he4; subst h9; decide))
          exact absurd g10 (by (have h9 : (⟨⟨6,51,0,0,0,[],[0],0,0⟩,true⟩ : TPart) = e4 := Option.some.inj he4; subst h9; decide))
         exact absurd g9 (by (have h9 : (⟨⟨3,51,1,0,0,[],[],0,0⟩,false⟩ : TPart) = e3 := Option.some.inj he3; subst h9; decide))
        exact absurd g8 (by (have h9 : (⟨⟨3,51,1,0,0,[],[],0,0⟩,false⟩ : TPart) = e3 := Option.some.inj he3; subst h9; decide))
       exact absurd g7 (by decide)
      exact absurd g6 (by (have h9 : (⟨⟨3,50,2,0,0,[],[],0,0⟩,false⟩ : TPart) = e2 := Option.some.inj he2; subst h9; decide))
     exact absurd g5 (by (have h9 : (⟨⟨3,50,2,0,0,[],[],0,0⟩,false⟩ : TPart) = e2 := Option.some.inj he2; subst h9; decide))
    exact absurd g4 (by (have h9 : (⟨⟨3,102,2,0,0,[],[],0,0⟩,false⟩ : TPart) = e1 := Option.some.inj he1; subst h9; decide))
   exact absurd g3 (by (have h9 : (⟨⟨3,102,2,0,0,[],[],0,0⟩,false⟩ : TPart) = e1 := Option.some.inj he1; subst h9; decide))
  exact absurd g2 (by decide)
 exact absurd g1 (by decide)
end Go.Proofs.Ytlcmbkkimgdnmaa
set_option linter.unusedVariables false
set_option linter.unusedSimpArgs false
namespace Go.Proofs.Ytlcmbkkimgdnmaa
open Go Go.Proofs.Ytlcmbkkimgdnmaa.Pv
def rdS : List TPart → Int
  | [] => 0
  | p :: t => (if p.write = true then 0 else max p.request.count 1) + rdS t
def wrS : List TPart → Int
  | [] => 0
  | p :: t => (if p.write = true then max p.request.count 1 else 0) + wrS t
theorem rdS_append (a b : List TPart) : rdS (a ++ b) = rdS a + rdS b := by
  induction a with
  | nil => simp [rdS]
  | cons p t ih => simp only [List.cons_append,rdS,ih]; omega
theorem wrS_append (a b : List TPart) : wrS (a ++ b) = wrS a + wrS b := by
  induction a with
  | nil => simp [wrS]
  | cons p t ih => simp only [List.cons_append,wrS,ih]; omega
section
variable {L : List TPart} {i : Nat} {x : TPart} {d n : Int}
theorem sum_yes (h : L[i]? = some x) (hw : x.write = true) : rdS (L.take (i + 1)) = rdS (L.take i) ∧ wrS (L.take (i + 1)) = wrS (L.take i) + max x.request.count 1 := by
  rw [List.take_add_one,h,rdS_append,wrS_append]
  have e1 : rdS (some x).toList = 0 := by simp [rdS,hw]
  have e2 : wrS (some x).toList = max x.request.count 1 := by simp [wrS,hw]
  rw [e1,e2]
  exact ⟨Int.add_zero _,rfl⟩
theorem sum_no (h : L[i]? = some x) (hw : x.write = false) : rdS (L.take (i + 1)) = rdS (L.take i) + max x.request.count 1 ∧ wrS (L.take (i + 1)) = wrS (L.take i) := by
  rw [List.take_add_one,h,rdS_append,wrS_append]
  have e1 : rdS (some x).toList = max x.request.count 1 := by simp [rdS,hw]
  have e2 : wrS (some x).toList = 0 := by simp [wrS,hw]
  rw [e1,e2]
  exact ⟨rfl,Int.add_zero _⟩
theorem rdS_yes (h : L[i]? = some x) (hw : x.write = true) (hd : d = rdS (L.take i)) : d = rdS (L.take (i + 1)) := by rw [(sum_yes h hw).1]; exact hd
theorem rdS_no (h : L[i]? = some x) (hw : x.write = false) (hd : d = rdS (L.take i)) (hn : n = max x.request.count 1) : d + n = rdS (L.take (i + 1)) := by rw [(sum_no h hw).1,← hd,hn]
theorem wrS_yes (h : L[i]? = some x) (hw : x.write = true) (hd : d = wrS (L.take i)) (hn : n = max x.request.count 1) : d + n = wrS (L.take (i + 1)) := by rw [(sum_yes h hw).2,← hd,hn]
theorem wrS_no (h : L[i]? = some x) (hw : x.write = false) (hd : d = wrS (L.take i)) : d = wrS (L.take (i + 1)) := by rw [(sum_no h hw).2]; exact hd
end
section
variable {F : Int} {l : List TWindow} {q : TRequest}
theorem wPart_write (q : TRequest) (p : TPiece) : (wPart q p).write = true := by
  unfold wPart
  repeat' split
  all_goals rfl
theorem wPart_count (h : q.fn ≠ 5 ∧ q.fn ≠ 6) (p : TPiece) : (wPart q p).request.count = p.count := by
  unfold wPart
  rw [if_neg h.1,if_neg h.2]
  repeat' split
  all_goals rfl
theorem rdS_w (L : List TPiece) : rdS (L.map (wPart q)) = 0 := by
  induction L with
  | nil => rfl
  | cons p t ih => rw [List.map_cons,rdS,ih,if_pos (wPart_write q p)]; rfl
theorem wrS_r (L : List TPiece) (f : Int) : wrS (L.map (rPart f)) = 0 := by
  induction L with
  | nil => rfl
  | cons p t ih => rw [List.map_cons,wrS,ih,if_neg (by simp [rPart])]; rfl
theorem rdS_r (L : List TPiece) (f : Int) (h : ∀ p ∈ L,1 ≤ p.count) : rdS (L.map (rPart f)) = sumC L := by
  induction L with
  | nil => rfl
  | cons p t ih =>
    have h1 := h p List.mem_cons_self
    have h2 := ih fun p hp => h p (List.mem_cons_of_mem _ hp)
    rw [List.map_cons,rdS,h2,if_neg (by simp [rPart]),show (rPart f p).request.count = p.count from rfl,sumC]
    omega
theorem wrS_w (hf : q.fn ≠ 5 ∧ q.fn ≠ 6) (L : List TPiece) (h : ∀ p ∈ L,1 ≤ p.count) : wrS (L.map (wPart q)) = sumC L := by
  induction L with
  | nil => rfl
  | cons p t ih =>
    have h1 := h p List.mem_cons_self
    have h2 := ih fun p hp => h p (List.mem_cons_of_mem _ hp)
    rw [List.map_cons,wrS,h2,if_pos (wPart_write q p),wPart_count hf,sumC]
    omega
theorem mapL_in {s a n : Int} {p : TPiece} (h : p ∈ mapL l s a n) : 1 ≤ p.count ∧ p.count ≤ 65536 ∧ 0 ≤ p.physical ∧ p.physical ≤ 512 ∧ ∃ (j : Nat) (w : TWindow),l[j]? = some w ∧ w.space = s ∧ w.physical ≤ p.physical ∧ p.physical + p.count ≤ w.physical + w.count := by
  have hb := mapL_bd h
  obtain ⟨i,hi⟩ := List.getElem?_of_mem h
  obtain ⟨_,_,_,_,_,w,_,_,m2,m3,m4,m5⟩ := mapL_get hi
  obtain ⟨j,hj⟩ := List.getElem?_of_mem m3
  exact ⟨by omega,by omega,by omega,by omega,j,w,hj,m2,m4,m5⟩
theorem mapL_sum {s a n : Int} (h : mapOk l s a n = true) : sumC (mapL l s a n) = n ∧ ∀ p ∈ mapL l s a n,1 ≤ p.count := by
  have := chain_sum (map_chain h)
  exact ⟨by omega,fun p hp => (mapL_in hp).1⟩
def PIn (l : List TWindow) (x : TPart) : Prop := (x.request.fn = 1 ∨ x.request.fn = 2 ∨ x.request.fn = 3 ∨ x.request.fn = 4 ∨ x.request.fn = 5 ∨ x.request.fn = 6 ∨ x.request.fn = 15 ∨ x.request.fn = 16) ∧ 0 ≤ x.request.count ∧ x.request.count ≤ 65536 ∧ 0 ≤ x.request.at_ ∧ x.request.at_ ≤ 512 ∧
  ∃ (j : Nat) (w : TWindow),l[j]? = some w ∧ w.space = spP x.request.fn ∧ w.physical ≤ x.request.at_ ∧ x.request.at_ + max x.request.count 1 ≤ w.physical + w.count
theorem pin {f at_ n wAt sub : Int} {b v a o wr s} {p : TPiece} {aa nn : Int} (h : p ∈ mapL l s aa nn) (hs : s = spP f) (hf : f = 1 ∨ f = 2 ∨ f = 3 ∨ f = 4 ∨ f = 5 ∨ f = 6 ∨ f = 15 ∨ f = 16) (ha : at_ = p.physical) (hn : n = p.count ∨ n = 0) : PIn l ⟨⟨f,at_,n,wAt,sub,b,v,a,o⟩,wr⟩ := by
  obtain ⟨h1,h2,h3,h4,j,w,hj,m2,m4,m5⟩ := mapL_in h
  refine ⟨hf,by simp only; omega,by simp only; omega,by simp only; omega,by simp only; omega,j,w,hj,by rw [m2,hs],by simp only; omega, ?_⟩
  simp only
  omega
theorem part_in {x : TPart} (h : x ∈ (splitP F l q).1) : PIn l x := by
  by_cases h0 : codeP F l q = 0
  · obtain ⟨hno,hcy,hpy,hle⟩ := codeP_zero h0
    have hfo := hasF_of (counts_has hcy)
    rw [split_yes h0] at h
    simp only at h
    by_cases h22 : q.fn = 22
    · obtain ⟨a,b,c⟩ := pAll_22 (l := l) h22
      obtain ⟨o1,o2,o3,_⟩ := p_one (l := l) (q := q) (by omega) hpy
      rw [a] at o1 o2
      match hm : mapL l 3 q.at_ 1,o1 with
      | [y],_ =>
        have hy : y ∈ mapL l 3 q.at_ 1 := by rw [hm]; exact List.mem_cons_self
        have hyc : y.count = 1 := o2 y (by rw [hm]; rfl)
        rw [parts_22r h22 (x := y) (by rw [b,hm]; rfl)] at h
        simp only [List.mem_cons,List.not_mem_nil,or_false] at h
        rcases h with rfl|rfl
        · exact pin hy (spP_3 (by omega)).symm (by omega) rfl (by omega)
        · exact pin hy (spP_3 (by omega)).symm (by omega) rfl (by omega)
    · rw [parts_no h22] at h
      rcases List.mem_append.1 h with h|h
      · obtain ⟨p,hp,rfl⟩ := List.mem_map.1 h
        by_cases h5 : q.fn = 5
        · rw [(pAll_5 (l := l) (.inl h5)).1] at hp
          rw [wPart_5 h5]
          exact pin hp (by rw [h5]) (by omega) rfl (by omega)
        by_cases h6 : q.fn = 6
        · rw [(pAll_5 (l := l) (.inr h6)).1] at hp
          rw [wPart_6 h6]
          exact pin hp (by rw [h6]) (by omega) rfl (by omega)
        by_cases h15 : q.fn = 15
        · rw [(pAll_15 (l := l) (.inl h15)).1] at hp
          rw [wPart_15 h15]
          exact pin hp (by rw [h15]) (by omega) rfl (by omega)
        by_cases h16 : q.fn = 16
        · rw [(pAll_15 (l := l) (.inr h16)).1] at hp
          rw [wPart_16 h16]
          exact pin hp (by rw [h16]) (by omega) rfl (by omega)
        by_cases h23 : q.fn = 23
        · rw [(pAll_23 (l := l) h23).1] at hp
          rw [wPart_23 h23]
          exact pin hp (spP_3 (by omega)).symm (by omega) rfl (by omega)
        by_cases h1 : q.fn = 1 ∨ q.fn = 2 ∨ q.fn = 3 ∨ q.fn = 4
        · rw [(pAll_r (l := l) h1).1] at hp; cases hp
        · rw [(pAll_0 (l := l) (q := q) (by omega)).1] at hp; cases hp
      · obtain ⟨p,hp,rfl⟩ := List.mem_map.1 h
        by_cases h1 : q.fn = 1 ∨ q.fn = 2 ∨ q.fn = 3 ∨ q.fn = 4
        · rw [(pAll_r (l := l) h1).2.1] at hp
          unfold rPart
          rw [if_neg (by omega)]
          exact pin hp rfl (by omega) rfl (by omega)
        by_cases h23 : q.fn = 23
        · rw [(pAll_23 (l := l) h23).2.1] at hp
          unfold rPart
          rw [if_pos h23]
          exact pin hp (spP_3 (by omega)).symm (by omega) rfl (by omega)
        by_cases h5 : q.fn = 5 ∨ q.fn = 6
        · rw [(pAll_5 (l := l) h5).2.1] at hp; cases hp
        by_cases h15 : q.fn = 15 ∨ q.fn = 16
        · rw [(pAll_15 (l := l) h15).2.1] at hp; cases hp
        · rw [(pAll_0 (l := l) (q := q) (by omega)).2.1] at hp; cases hp
  · rw [split_no h0] at h; cases h
theorem part_sums (h : ((!decide ((splitP F l q).2 = 0)) || locP q.fn) = false) : q.fn ≠ 8 ∧ q.fn ≠ 17 ∧
    ((q.fn = 1 ∨ q.fn = 2 ∨ q.fn = 3 ∨ q.fn = 4) → rdS (splitP F l q).1 = q.count ∧ wrS (splitP F l q).1 = 0) ∧ ((q.fn = 15 ∨ q.fn = 16) → wrS (splitP F l q).1 = q.count ∧ rdS (splitP F l q).1 = 0) ∧
    (q.fn = 23 → rdS (splitP F l q).1 = q.count ∧ wrS (splitP F l q).1 = ((q.vals.length : Nat) : Int)) ∧ (q.fn = 22 → rdS (splitP F l q).1 = 1 ∧ wrS (splitP F l q).1 = 1) ∧ ((q.fn = 5 ∨ q.fn = 6) → rdS (splitP F l q).1 = 0 ∧ wrS (splitP F l q).1 = 1) := by
  rw [split_code] at h
  obtain ⟨h0,h8,h17⟩ := split_ref0 h
  obtain ⟨hno,hcy,hpy,hle⟩ := codeP_zero h0
  rw [split_yes h0]
  refine ⟨h8,h17,fun h1 => ?_,fun h1 => ?_,fun h1 => ?_,fun h1 => ?_,fun h1 => ?_⟩
  · obtain ⟨a,b,c⟩ := pAll_r (l := l) h1
    rw [c] at hpy
    obtain ⟨s1,s2⟩ := mapL_sum hpy
    simp only
    rw [parts_no (by omega),rdS_append,wrS_append,a,b,wrS_r,rdS_r _ _ s2,s1]
    exact ⟨by simp [rdS],by simp [wrS]⟩
  · obtain ⟨a,b,c⟩ := pAll_15 (l := l) h1
    rw [c] at hpy
    obtain ⟨s1,s2⟩ := mapL_sum hpy
    simp only
    rw [parts_no (by omega),rdS_append,wrS_append,a,b,rdS_w,wrS_w (by omega) _ s2,s1]
    exact ⟨by simp [wrS],by simp [rdS]⟩
  · obtain ⟨a,b,c⟩ := pAll_23 (l := l) h1
    rw [c,Bool.and_eq_true] at hpy
    obtain ⟨s1,s2⟩ := mapL_sum hpy.1
    obtain ⟨s3,s4⟩ := mapL_sum hpy.2
    simp only
    rw [parts_no (by omega),rdS_append,wrS_append,a,b,rdS_w,wrS_w (by omega) _ s2,s1,wrS_r,rdS_r _ _ s4,s3]
    exact ⟨by omega,by omega⟩
  · obtain ⟨a,b,c⟩ := pAll_22 (l := l) h1
    obtain ⟨o1,o2,o3,_⟩ := p_one (l := l) (q := q) (by omega) hpy
    rw [a] at o1
    match hm : mapL l 3 q.at_ 1,o1 with
    | [y],_ =>
      simp only
      rw [parts_22r h1 (x := y) (by rw [b,hm]; rfl)]
      exact ⟨by simp [rdS],by simp [wrS]; omega⟩
  · obtain ⟨a,b,c⟩ := pAll_5 (l := l) h1
    obtain ⟨o1,_,_,_⟩ := p_one (l := l) (q := q) (by omega) hpy
    match hm : pW l q,o1 with
    | [y],_ =>
      simp only
      rw [parts_5 hcy h1 hpy (x := y) (by rw [hm]; rfl)]
      exact ⟨by simp [rdS],by simp [wrS]; omega⟩
end
theorem sp_idx {fk : Nat} {e : Int} (hf : (fk : Int) = 1 ∨ (fk : Int) = 2 ∨ (fk : Int) = 3 ∨ (fk : Int) = 4 ∨ (fk : Int) = 5 ∨ (fk : Int) = 6) (he : ([0,0,1,3,2,0,3] : List Int)[fk % 15 % 7]? = some e) : e = spP (fk : Int) := by
  obtain rfl|rfl|rfl|rfl|rfl|rfl : fk = 1 ∨ fk = 2 ∨ fk = 3 ∨ fk = 4 ∨ fk = 5 ∨ fk = 6 := by omega
  all_goals (have h9 := Option.some.inj ((show some _ = _ from rfl).trans he); rw [← h9]; decide)
end Go.Proofs.Ytlcmbkkimgdnmaa
