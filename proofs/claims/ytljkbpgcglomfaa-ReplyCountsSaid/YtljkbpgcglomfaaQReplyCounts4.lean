/- What the law ReplyCounts needs, and no more: merged out of texts of this session by a program of it (wip/tools/prune.py). -/
import Derived.Test.YtljkbpgcglomfaaQReplyCounts3
set_option linter.unusedVariables false
set_option linter.unusedSimpArgs false
set_option maxRecDepth 10000
set_option maxHeartbeats 1000000
namespace Go.Proofs.Ytljkbpgcglomfaa
open Go Go.Proofs.Ytljkbpgcglomfaa.Pv
theorem w_burgagelaw4_made (L : List Int) (cl_L : Bool) (q : TRequest) (R : TReply) (hR : R = madeR L q) (hL : L.length ≤ 70000000000000) (hq : rightR q = 0 ∧ q.bits.length ≤ 25 ∧ q.vals.length ≤ 25 ∧ 0 ≤ q.count ∧ q.count ≤ 25) :
    T Try.prog 21 [pS 1 cl_L encI L,PV.f (eRequest q)] 0 [] (Ret (PV.f (eReply R)) 0 []) := by
 refine t_fun tabOk (n := 94) (rs := [.cell 4 53]) Try.func21 rfl rfl rfl rfl (Nat.le_of_ble_eq_true rfl) ?_
 intro c hnt hk
 obtain ⟨hr0,hqb,hqv,hqc0,hqc⟩ := hq
 refine w_seq ?_
 refine w_R ?_
 refine qo hnt rfl (s_box rfl rfl ?_)
 refine qo hnt rfl (s_alloc tab_53 ?_)
 refine r_set [(0,pS 1 cl_L encI L),(3,PV.ptr 0 0),(4,PV.ptr 1 0)] [(1,.obj [pI 0,pI 0,pI 0,pI 0,pI 0,pNil,pNil,p16 0,p16 0,pNil]),(0,.obj (cRequest q))] 2 ⟨rfl,rfl,rfl,trivial⟩ rfl rfl ?_
 refine r_end ?_
 refine q_then ?_
 refine w_seq ?_
 refine w_R ?_
 refine qm hnt rfl rfl ?_
 refine qo hnt rfl (s_build tab_49 rfl rfl (b_cons rfl tab_24 rfl rfl rfl (Nat.le_of_ble_eq_true rfl) (b_nil ?_)))
 refine qo hnt rfl (s_box rfl rfl ?_)
 refine qa hnt rfl rfl ?_
 refine r_set [(3,PV.ptr 0 0),(4,PV.ptr 1 0),(5,PV.ptr 2 0)] [(2,.obj [pS 1 cl_L encI L,pI 0]),(1,.obj [pI 0,pI 0,pI 0,pI 0,pI 0,pNil,pNil,p16 0,p16 0,pNil]),(0,.obj (cRequest q))] 3 ⟨rfl,rfl,rfl,trivial⟩ rfl rfl ?_
 refine r_end ?_
 refine q_then ?_
 refine w_seq ?_
 refine w_R ?_
 refine qo hnt rfl (s_fa_ptr tab_46 rfl rfl tab_3 (by decide) rfl ?_)
 refine qo hnt rfl (s_load_ptr1 tab_3 rfl rfl rfl rfl rfl ?_)
 refine qo hnt rfl (s_build tab_53 rfl rfl (b_cons rfl tab_3 rfl rfl rfl (Nat.le_of_ble_eq_true rfl) (b_nil ?_)))
 refine qo hnt rfl (s_alloc tab_53 ?_)
 refine qo hnt rfl (s_store_ptr tab_53 rfl rfl rfl rfl rfl (Nat.le_of_ble_eq_true rfl) ?_)
 refine r_set [(3,PV.ptr 0 0),(4,PV.ptr 1 0),(5,PV.ptr 2 0),(6,PV.ptr 3 0)] [(3,.obj [pI q.fn,pI 0,pI 0,pI 0,pI 0,pNil,pNil,p16 0,p16 0,pNil]),(2,.obj [pS 1 cl_L encI L,pI 0]),(1,.obj [pI 0,pI 0,pI 0,pI 0,pI 0,pNil,pNil,p16 0,p16 0,pNil]),(0,.obj (cRequest q))] 4 ⟨rfl,rfl,rfl,rfl,trivial⟩ rfl rfl ?_
 refine r_end ?_
 refine q_then ?_
 refine w_seq ?_
 refine w_seq ?_
 refine w_R ?_
 refine qm hnt rfl rfl ?_
 refine qo hnt rfl (s_callX (r2 := pI (tNext L 0 5)) (nx1 := 4) (H2 := [(3,.obj [pI q.fn,pI 0,pI 0,pI 0,pI 0,pNil,pNil,p16 0,p16 0,pNil]),(2,.obj [pS 1 cl_L encI L,pI 0]),(1,.obj [pI 0,pI 0,pI 0,pI 0,pI 0,pNil,pNil,p16 0,p16 0,pNil]),(0,.obj (cRequest q))]) (H3 := [(2,.obj [pS 1 false encI L,pN (tStep L 0 5)]),(3,.obj [pI q.fn,pI 0,pI 0,pI 0,pI 0,pNil,pNil,p16 0,p16 0,pNil]),(1,.obj [pI 0,pI 0,pI 0,pI 0,pI 0,pNil,pNil,p16 0,p16 0,pNil]),(0,.obj (cRequest q))]) [2] [.obj [pS 1 cl_L encI L,pI 0]] rfl rfl rfl (handed_of (by decide) ⟨rfl,trivial⟩) rfl rfl rfl rfl rfl rfl (w_burgagekeep_Tape_Next L cl_L 0 5 (by omega) (by omega)) rfl (dist_of rfl) rfl rfl rfl rfl ?_)
 refine qo hnt rfl (s_eql rfl rfl ?_)
 refine r_set [(3,PV.ptr 0 0),(4,PV.ptr 1 0),(5,PV.ptr 2 0),(6,PV.ptr 3 0),(17,pB (decide (tNext L 0 5 = 0)))] [(2,.obj [pS 1 false encI L,pN (tStep L 0 5)]),(3,.obj [pI q.fn,pI 0,pI 0,pI 0,pI 0,pNil,pNil,p16 0,p16 0,pNil]),(1,.obj [pI 0,pI 0,pI 0,pI 0,pI 0,pNil,pNil,p16 0,p16 0,pNil]),(0,.obj (cRequest q))] 4 ⟨rfl,rfl,rfl,rfl,rfl,trivial⟩ rfl rfl ?_
 refine r_end ?_
 refine q_then ?_
 refine w_if rfl (fun c1 => ?_) (fun c1 => ?_)
 ·
  have c1_ := c1
  try simp only [sB] at c1
  refine w_seq ?_
  have h11 := tNext_lt L (tStep L 0 5) (n := 11) (by decide)
  have h0 : tNext L 0 5 = 0 := by exact c1
  refine W_drawn tabOk mixed hnt [[],[0],[],[2],[2,3],[0,1,2,3,4],[0,1,2,3,4,5]] (by kernel_rfl) ?_
  refine d_op ?_
  refine x_run0 [(3,PV.ptr 0 0)] [] rfl rfl rfl rfl (s_fa_ptr tab_46 rfl rfl tab_3 (by decide) rfl ⟨rfl,rfl,rfl⟩) ?_
  refine d_op ?_
  refine xL [(18,PV.ptr 0 0)] [0] [(0,.obj (cRequest q))] rfl rfl rfl rfl rfl (s_load_ptr1 tab_3 rfl rfl rfl rfl rfl ⟨rfl,rfl,rfl⟩) ⟨rfl,trivial⟩ rfl ?_
  refine d_op ?_
  refine x_run0 [(5,PV.ptr 2 0)] [] rfl rfl rfl rfl (s_move rfl ⟨rfl,rfl,rfl⟩) ?_
  refine d_op ?_
  refine xT [(20,PV.ptr 2 0)] [2] [(2,.obj [pS 1 false encI L,pN (tStep L 0 5)])] [(2,.obj [pS 1 false encI L,pN (tStep L (tStep L 0 5) 11)])] [(3,.obj [pI q.fn,pI 0,pI 0,pI 0,pI 0,pNil,pNil,p16 0,p16 0,pNil]),(1,.obj [pI 0,pI 0,pI 0,pI 0,pI 0,pNil,pNil,p16 0,p16 0,pNil]),(0,.obj (cRequest q))] rfl rfl rfl rfl rfl (s_callX (r2 := pI (tNext L (tStep L 0 5) 11)) (nx1 := 4) (H2 := [(2,.obj [pS 1 false encI L,pN (tStep L 0 5)])]) (H3 := [(2,.obj [pS 1 false encI L,pN (tStep L (tStep L 0 5) 11)])]) [2] [.obj [pS 1 false encI L,pN (tStep L 0 5)]] rfl rfl rfl (handed_of (by decide) ⟨rfl,trivial⟩) rfl rfl rfl rfl rfl rfl (w_burgagekeep_Tape_Next L false (tStep L 0 5) 11 (by omega) (by omega)) rfl (dist_of rfl) rfl rfl rfl rfl ⟨rfl,rfl,rfl⟩) rfl rfl ?_
  refine d_op ?_
  refine x_run0 [(21,pI (tNext L (tStep L 0 5) 11))] [2,3] rfl rfl rfl rfl (s_addi (r := 1 + (tNext L (tStep L 0 5) 11)) rfl rfl rfl (by omega) ⟨rfl,rfl,rfl⟩) ?_
  refine d_op ?_
  refine x_run0 [(19,pI q.fn),(22,pI (1 + (tNext L (tStep L 0 5) 11)))] [0,1,2,3,4] rfl rfl rfl rfl (s_callF rfl rfl rfl (w_burgageref3_Refuse q.fn (1 + (tNext L (tStep L 0 5) 11))) rfl ⟨rfl,rfl,rfl⟩) ?_
  refine d_op ?_
  refine xT [(4,PV.ptr 1 0),(23,PV.f (eReply (refuseR q.fn (1 + (tNext L (tStep L 0 5) 11)))))] [0,1,2,3,4,5] [(1,.obj [pI 0,pI 0,pI 0,pI 0,pI 0,pNil,pNil,p16 0,p16 0,pNil])] [(1,.obj [pI ((refuseR q.fn (1 + (tNext L (tStep L 0 5) 11))).fn),pI ((refuseR q.fn (1 + (tNext L (tStep L 0 5) 11))).code),pI ((refuseR q.fn (1 + (tNext L (tStep L 0 5) 11))).at_),pI ((refuseR q.fn (1 + (tNext L (tStep L 0 5) 11))).count),pI ((refuseR q.fn (1 + (tNext L (tStep L 0 5) 11))).sub),pS 1 false encBo ((refuseR q.fn (1 + (tNext L (tStep L 0 5) 11))).bits),pS 1 false enc16 ((refuseR q.fn (1 + (tNext L (tStep L 0 5) 11))).vals),p16 ((refuseR q.fn (1 + (tNext L (tStep L 0 5) 11))).and_),p16 ((refuseR q.fn (1 + (tNext L (tStep L 0 5) 11))).or_),pS 1 false enc8 ((refuseR q.fn (1 + (tNext L (tStep L 0 5) 11))).data)])] [(2,.obj [pS 1 false encI L,pN (tStep L (tStep L 0 5) 11)]),(3,.obj [pI q.fn,pI 0,pI 0,pI 0,pI 0,pNil,pNil,p16 0,p16 0,pNil]),(0,.obj (cRequest q))] rfl rfl rfl rfl rfl (s_store_ptr tab_53 rfl rfl rfl rfl rfl (Nat.le_of_ble_eq_true rfl) ⟨rfl,rfl,rfl⟩) rfl rfl ?_
  refine d_end ⟨by kernel_rfl, ?_⟩
  refine q_then ?_
  have hz1 : ((refuseR q.fn (1 + (tNext L (tStep L 0 5) 11))).fn) = R.fn ∧ ((refuseR q.fn (1 + (tNext L (tStep L 0 5) 11))).code) = R.code ∧ ((refuseR q.fn (1 + (tNext L (tStep L 0 5) 11))).at_) = R.at_ ∧ ((refuseR q.fn (1 + (tNext L (tStep L 0 5) 11))).count) = R.count ∧ ((refuseR q.fn (1 + (tNext L (tStep L 0 5) 11))).sub) = R.sub ∧ ((refuseR q.fn (1 + (tNext L (tStep L 0 5) 11))).bits) = R.bits ∧ ((refuseR q.fn (1 + (tNext L (tStep L 0 5) 11))).vals) = R.vals ∧ ((refuseR q.fn (1 + (tNext L (tStep L 0 5) 11))).and_) = R.and_ ∧ ((refuseR q.fn (1 + (tNext L (tStep L 0 5) 11))).or_) = R.or_ ∧ ((refuseR q.fn (1 + (tNext L (tStep L 0 5) 11))).data) = R.data := by refine ⟨?_, ?_, ?_, ?_, ?_, ?_, ?_, ?_, ?_, ?_⟩ <;> ((rw [hR,madeR_no h0]; done))
  refine w_leO (n := 1) (ds := cReply R) rfl ⟨le_of_eq (congrArg (fun z : Int => pI z) hz1.1),le_of_eq (congrArg (fun z : Int => pI z) hz1.2.1),le_of_eq (congrArg (fun z : Int => pI z) hz1.2.2.1),le_of_eq (congrArg (fun z : Int => pI z) hz1.2.2.2.1),le_of_eq (congrArg (fun z : Int => pI z) hz1.2.2.2.2.1),le_of_eq (congrArg (fun z => pS 1 false encBo z) hz1.2.2.2.2.2.1),le_of_eq (congrArg (fun z => pS 1 false enc16 z) hz1.2.2.2.2.2.2.1),le_of_eq (congrArg (fun z : UInt16 => p16 z) hz1.2.2.2.2.2.2.2.1),le_of_eq (congrArg (fun z : UInt16 => p16 z) hz1.2.2.2.2.2.2.2.2.1),le_of_eq (congrArg (fun z => pS 1 false enc8 z) hz1.2.2.2.2.2.2.2.2.2),trivial⟩ ?_
  refine w_ret ?_
  refine q_then_ret ?_
  exact fin_plain (ret_cell tab_53 (by decide) rfl rfl (Nat.le_of_ble_eq_true rfl) rfl ret_nil) rfl rfl ⟨rfl,rfl,rfl⟩
 have c1_ := c1
 try simp only [sB] at c1
 have h1 : ¬ tNext L 0 5 = 0 := by exact c1
 refine w_skip ?_
 refine q_then ?_
 refine w_seq ?_
 refine w_seq ?_
 refine w_R ?_
 refine qo hnt rfl (s_fa_ptr tab_46 rfl rfl tab_3 (by decide) rfl ?_)
 refine qo hnt rfl (s_load_ptr1 tab_3 rfl rfl rfl rfl rfl ?_)
 refine r_end ?_
 refine q_then ?_
 refine w_block ?_
 refine w_seq ?_
 refine w_seq ?_
 refine w_R ?_
 refine qo hnt rfl (s_eql rfl rfl ?_)
 refine qa hnt rfl rfl ?_
 refine r_end ?_
 refine q_then ?_
 refine w_if rfl (fun c2 => ?_) (fun c2 => ?_)
 ·
  have c2_ := c2
  try simp only [sB] at c2
  refine w_skip ?_
  refine q_then ?_
  refine w_if rfl (fun _ => ?_) (fun e => absurd (e.symm.trans c2_) (by decide))
  refine w_seq ?_
  refine w_R ?_
  refine qa hnt rfl rfl ?_
  refine r_end ?_
  refine q_then ?_
  refine w_block ?_
  refine w_adoptC (n := 3) (j := 5) (sz := 1) rfl rfl rfl ?_
  refine loop3 (fun (ap : Nat) (os : List Bool) (i : Nat) => (i : Int) ≤ q.count ∧ os = (tRow isOne 2 L (tStep L 0 5) i).1 ∧ ap = (tRow isOne 2 L (tStep L 0 5) i).2) (fun (ap : Nat) (os : List Bool) (i : Nat) => [(3,PV.ptr 3 0),(4,PV.ptr 4 0),(5,PV.ptr 0 0),(6,PV.ptr 1 0),(7,pN i)]) 5 (fun (ap : Nat) (os : List Bool) (i : Nat) => [(0,.obj [pS 1 false encI L,pN ap]),(1,.obj [pI q.fn,pI 0,pI 0,pI 0,pI 0,PV.ref 2 0 none,pNil,p16 0,p16 0,pNil]),(2,oB true 1 encBo os),(3,.obj (cRequest q)),(4,.obj [pI 0,pI 0,pI 0,pI 0,pI 0,pNil,pNil,p16 0,p16 0,pNil])]) (fun (ap : Nat) (os : List Bool) (i : Nat) => q.count.toNat - i) (tStep L 0 5) (([] : List Bool)) (0) ?_ ⟨[(0,2),(1,3),(2,4),(3,0),(4,1)],by rw [hk]; decide,⟨⟨_,rfl,rfl,rfl⟩,⟨_,rfl,rfl,rfl⟩,⟨_,rfl,rfl,rfl⟩,⟨_,rfl,rfl,rfl⟩,⟨_,rfl,rfl,rfl⟩,trivial⟩,⟨⟨_,_,rfl,rfl,rfl,rfl⟩,⟨_,_,rfl,rfl,rfl,rfl⟩,⟨_,_,rfl,rfl,rfl,rfl⟩,⟨_,_,rfl,rfl,rfl,rfl⟩,⟨_,_,rfl,rfl,rfl,rfl⟩,trivial⟩,by rw [hk]; decide⟩ ?_
  · exact ⟨by omega,rfl,rfl⟩
  ·
   intro ap os i hI
   obtain ⟨hi,hos,hap⟩ := hI
   have hol : os.length = i := by rw [hos,tRow_length]
   refine w_seq ?_
   refine w_seq ?_
   refine w_R ?_
   refine qm hnt rfl rfl ?_
   refine qo hnt rfl (s_fa_ptr tab_46 rfl rfl tab_3 (by decide) rfl ?_)
   refine qo hnt rfl (s_load_ptr1 tab_3 rfl rfl rfl rfl rfl ?_)
   refine qo hnt rfl (s_lss rfl rfl ?_)
   refine r_end ?_
   refine q_then ?_
   refine w_if rfl (fun c3 => ?_) (fun c3 => ?_)
   ·
    have c3_ := c3
    try simp only [sB] at c3
    refine w_skip ?_
    refine q_then ?_
    refine w_seq ?_
    refine w_block ?_
    refine W_drawn tabOk mixed hnt [[],[0],[],[2],[2,3],[2,3,4],[0,1,2,3,4,5],[0,1,2,3,4,5,6],[0,1,2,3,4,5,6,7]] (by kernel_rfl) ?_
    refine d_op ?_
    refine x_run0 [(6,PV.ptr 1 0)] [] rfl rfl rfl rfl (s_fa_ptr tab_53 rfl rfl tab_42 (by decide) rfl ⟨rfl,rfl,rfl⟩) ?_
    refine d_op ?_
    refine xL [(53,PV.ptr 1 5)] [0] [(1,.obj [pI q.fn,pI 0,pI 0,pI 0,pI 0,PV.ref 2 0 none,pNil,p16 0,p16 0,pNil])] rfl rfl rfl rfl rfl (s_load_ptr1 tab_42 rfl rfl rfl rfl rfl ⟨rfl,rfl,rfl⟩) ⟨rfl,trivial⟩ rfl ?_
    refine d_op ?_
    refine x_run0 [(5,PV.ptr 0 0)] [] rfl rfl rfl rfl (s_move rfl ⟨rfl,rfl,rfl⟩) ?_
    refine d_op ?_
    refine xT [(55,PV.ptr 0 0)] [2] [(0,.obj [pS 1 false encI L,pN ap])] [(0,.obj [pS 1 false encI L,pN (tStep L ap 2)])] [(1,.obj [pI q.fn,pI 0,pI 0,pI 0,pI 0,PV.ref 2 0 none,pNil,p16 0,p16 0,pNil]),(2,oB true 1 encBo os),(3,.obj (cRequest q)),(4,.obj [pI 0,pI 0,pI 0,pI 0,pI 0,pNil,pNil,p16 0,p16 0,pNil])] rfl rfl rfl rfl rfl (s_callX (r2 := pI (tNext L ap 2)) (nx1 := 5) (H2 := [(0,.obj [pS 1 false encI L,pN ap])]) (H3 := [(0,.obj [pS 1 false encI L,pN (tStep L ap 2)])]) [0] [.obj [pS 1 false encI L,pN ap]] rfl rfl rfl (handed_of (by decide) ⟨rfl,trivial⟩) rfl rfl rfl rfl rfl rfl (w_burgagekeep_Tape_Next L false ap 2 (by omega) (by omega)) rfl (dist_of rfl) rfl rfl rfl rfl ⟨rfl,rfl,rfl⟩) rfl rfl ?_
    refine d_op ?_
    refine x_run0 [(56,pI (tNext L ap 2))] [2,3] rfl rfl rfl rfl (s_eql rfl rfl ⟨rfl,rfl,rfl⟩) ?_
    refine d_op ?_
    refine xT [(57,pB (decide (tNext L ap 2 = 1)))] [2,3,4] [] [(5,oB true 1 encBo [decide (tNext L ap 2 = 1)])] [(0,.obj [pS 1 false encI L,pN (tStep L ap 2)]),(1,.obj [pI q.fn,pI 0,pI 0,pI 0,pI 0,PV.ref 2 0 none,pNil,p16 0,p16 0,pNil]),(2,oB true 1 encBo os),(3,.obj (cRequest q)),(4,.obj [pI 0,pI 0,pI 0,pI 0,pI 0,pNil,pNil,p16 0,p16 0,pNil])] rfl rfl rfl rfl rfl (s_mkM (f := encBo) [decide (tNext L ap 2 = 1)] tab_42 rfl tab_4 ⟨rfl,by decide⟩ (by decide) rfl rfl rfl rfl ⟨rfl,rfl,rfl⟩) rfl rfl ?_
    refine d_op ?_
    refine x_run [(54,PV.ref 2 0 none),(58,PV.ref 5 0 none)] [0,1,2,3,4,5] [(5,oB true 1 encBo [decide (tNext L ap 2 = 1)])] [(2,oB true 1 encBo os)] [(6,oB true 1 encBo (os ++ [decide (tNext L ap 2 = 1)])),(5,oB true 1 encBo [decide (tNext L ap 2 = 1)])] [(6,oB true 1 encBo (os ++ [decide (tNext L ap 2 = 1)]))] [(6,oB true 1 encBo (os ++ [decide (tNext L ap 2 = 1)])),(5,oB true 1 encBo [decide (tNext L ap 2 = 1)]),(0,.obj [pS 1 false encI L,pN (tStep L ap 2)]),(1,.obj [pI q.fn,pI 0,pI 0,pI 0,pI 0,PV.ref 2 0 none,pNil,p16 0,p16 0,pNil]),(3,.obj (cRequest q)),(4,.obj [pI 0,pI 0,pI 0,pI 0,pI 0,pNil,pNil,p16 0,p16 0,pNil])] rfl rfl rfl rfl rfl rfl (s_appR0 (f := encBo) (l := os) (xs := [decide (tNext L ap 2 = 1)]) tab_42 rfl tab_4 ⟨rfl,by decide,by decide⟩ (srcM tab_42 rfl (hM_ref0 (f := encBo) rfl rfl)) rfl rfl (by (simp; omega)) ⟨rfl,rfl,rfl⟩) rfl ⟨rfl,trivial⟩ rfl rfl ?_
    refine d_op ?_
    refine x_run0 [(6,PV.ptr 1 0)] [0,1,2,3,4,5,6] rfl rfl rfl rfl (s_fa_ptr tab_53 rfl rfl tab_42 (by decide) rfl ⟨rfl,rfl,rfl⟩) ?_
    refine d_op ?_
    refine xT [(60,PV.ptr 1 5),(59,PV.ref 6 0 none)] [0,1,2,3,4,5,6,7] [(1,.obj [pI q.fn,pI 0,pI 0,pI 0,pI 0,PV.ref 2 0 none,pNil,p16 0,p16 0,pNil])] [(1,.obj [pI q.fn,pI 0,pI 0,pI 0,pI 0,PV.ref 6 0 none,pNil,p16 0,p16 0,pNil])] [(6,oB true 1 encBo (os ++ [decide (tNext L ap 2 = 1)])),(5,oB true 1 encBo [decide (tNext L ap 2 = 1)]),(0,.obj [pS 1 false encI L,pN (tStep L ap 2)]),(3,.obj (cRequest q)),(4,.obj [pI 0,pI 0,pI 0,pI 0,pI 0,pNil,pNil,p16 0,p16 0,pNil])] rfl rfl rfl rfl rfl (s_store_ptr tab_42 rfl rfl rfl rfl rfl (Nat.le_of_ble_eq_true rfl) ⟨rfl,rfl,rfl⟩) rfl rfl ?_
    refine d_end ⟨by kernel_rfl, ?_⟩
    refine q_block ?_
    refine q_then ?_
    refine w_R ?_
    refine qm hnt rfl rfl ?_
    refine qo hnt rfl (s_addN (a := i) (b := 1) rfl rfl (by omega) (by omega) (by omega) ?_)
    refine qa hnt rfl rfl ?_
    refine r_end ?_
    refine q_then ?_
    refine ⟨(tStep L ap 2),(os ++ [decide (tNext L ap 2 = 1)]),(i + 1), ?_, ?_,⟨[(0,0),(1,1),(2,6),(3,3),(4,4)],by rw [hk]; decide,⟨⟨_,rfl,rfl,rfl⟩,⟨_,rfl,rfl,rfl⟩,⟨_,rfl,rfl,rfl⟩,⟨_,rfl,rfl,rfl⟩,⟨_,rfl,rfl,rfl⟩,trivial⟩,⟨⟨_,_,rfl,rfl,rfl,rfl⟩,⟨_,_,rfl,rfl,rfl,rfl⟩,⟨_,_,rfl,rfl,rfl,rfl⟩,⟨_,_,rfl,rfl,rfl,rfl⟩,⟨_,_,rfl,rfl,rfl,rfl⟩,trivial⟩,by rw [hk]; decide⟩⟩
    ·
     exact ⟨by omega,tRow_1 isOne 2 L _ i hos hap,tRow_2 isOne 2 L _ i hap⟩
    · omega
   have c3_ := c3
   try simp only [sB] at c3
   refine w_exit ?_
   refine q_then_exit ?_
   refine q_then_exit ?_
   refine q_block_exit ?_
   refine q_block ?_
   refine q_then ?_
   refine w_seq ?_
   refine w_R ?_
   refine qo hnt rfl (s_load_ptr tab_53 rfl rfl rfl (Nat.le_of_ble_eq_true rfl) ?_)
   refine qo hnt rfl (s_store_ptr tab_53 rfl rfl rfl rfl rfl (Nat.le_of_ble_eq_true rfl) ?_)
   refine r_set [(4,PV.ptr 4 0)] [(4,.obj [pI q.fn,pI 0,pI 0,pI 0,pI 0,PV.ref 2 0 none,pNil,p16 0,p16 0,pNil]),(0,.obj [pS 1 false encI L,pN ap]),(1,.obj [pI q.fn,pI 0,pI 0,pI 0,pI 0,PV.ref 2 0 none,pNil,p16 0,p16 0,pNil]),(2,oB true 1 encBo os),(3,.obj (cRequest q))] 5 ⟨rfl,trivial⟩ rfl rfl ?_
   refine r_end ?_
   refine q_then ?_
   refine w_frzC (n := 4) (j := 5) rfl rfl rfl rfl ?_
   have hz2 : os = R.bits := by ((rw [hR,madeR_1 h1 (by omega) hos (by omega)]; done))
   refine w_leO (n := 4) (ds := [pI q.fn,pI 0,pI 0,pI 0,pI 0,pS 1 false encBo R.bits,pNil,p16 0,p16 0,pNil]) rfl ⟨le_refl _,le_refl _,le_refl _,le_refl _,le_refl _,le_of_eq (congrArg (fun z => pS 1 false encBo z) hz2),le_refl _,le_refl _,le_refl _,le_refl _,trivial⟩ ?_
   have hz3 : q.fn = R.fn ∧ 0 = R.code ∧ 0 = R.at_ ∧ 0 = R.count ∧ 0 = R.sub ∧ ([] : List UInt16) = R.vals ∧ 0 = R.and_ ∧ 0 = R.or_ ∧ ([] : List UInt8) = R.data := by refine ⟨?_, ?_, ?_, ?_, ?_, ?_, ?_, ?_, ?_⟩ <;> ((rw [hR,madeR_1 h1 (by omega) hos (by omega)]; done))
   refine w_leO (n := 4) (ds := cReply R) rfl ⟨le_of_eq (congrArg (fun z : Int => pI z) hz3.1),le_of_eq (congrArg (fun z : Int => pI z) hz3.2.1),le_of_eq (congrArg (fun z : Int => pI z) hz3.2.2.1),le_of_eq (congrArg (fun z : Int => pI z) hz3.2.2.2.1),le_of_eq (congrArg (fun z : Int => pI z) hz3.2.2.2.2.1),le_refl _,le_tr (le_nilS 1 false) (le_of_eq (congrArg (fun z => pS 1 false enc16 z) hz3.2.2.2.2.2.1)),le_of_eq (congrArg (fun z : UInt16 => p16 z) hz3.2.2.2.2.2.2.1),le_of_eq (congrArg (fun z : UInt16 => p16 z) hz3.2.2.2.2.2.2.2.1),le_tr (le_nilS 1 false) (le_of_eq (congrArg (fun z => pS 1 false enc8 z) hz3.2.2.2.2.2.2.2.2)),trivial⟩ ?_
   refine w_ret ?_
   exact fin_plain (ret_cell tab_53 (by decide) rfl rfl (Nat.le_of_ble_eq_true rfl) rfl ret_nil) rfl rfl ⟨rfl,rfl,rfl⟩
 have c2_ := c2
 try simp only [sB] at c2
 refine w_R ?_
 refine qo hnt rfl (s_eql rfl rfl ?_)
 refine qa hnt rfl rfl ?_
 refine r_end ?_
 refine q_then ?_
 refine w_if rfl (fun c4 => ?_) (fun c4 => ?_)
 ·
  have c4_ := c4
  try simp only [sB] at c4
  refine w_seq ?_
  refine w_R ?_
  refine qa hnt rfl rfl ?_
  refine r_end ?_
  refine q_then ?_
  refine w_block ?_
  refine w_adoptC (n := 3) (j := 5) (sz := 1) rfl rfl rfl ?_
  refine loop3 (fun (ap : Nat) (os : List Bool) (i : Nat) => (i : Int) ≤ q.count ∧ os = (tRow isOne 2 L (tStep L 0 5) i).1 ∧ ap = (tRow isOne 2 L (tStep L 0 5) i).2) (fun (ap : Nat) (os : List Bool) (i : Nat) => [(3,PV.ptr 3 0),(4,PV.ptr 4 0),(5,PV.ptr 0 0),(6,PV.ptr 1 0),(7,pN i)]) 5 (fun (ap : Nat) (os : List Bool) (i : Nat) => [(0,.obj [pS 1 false encI L,pN ap]),(1,.obj [pI q.fn,pI 0,pI 0,pI 0,pI 0,PV.ref 2 0 none,pNil,p16 0,p16 0,pNil]),(2,oB true 1 encBo os),(3,.obj (cRequest q)),(4,.obj [pI 0,pI 0,pI 0,pI 0,pI 0,pNil,pNil,p16 0,p16 0,pNil])]) (fun (ap : Nat) (os : List Bool) (i : Nat) => q.count.toNat - i) (tStep L 0 5) (([] : List Bool)) (0) ?_ ⟨[(0,2),(1,3),(2,4),(3,0),(4,1)],by rw [hk]; decide,⟨⟨_,rfl,rfl,rfl⟩,⟨_,rfl,rfl,rfl⟩,⟨_,rfl,rfl,rfl⟩,⟨_,rfl,rfl,rfl⟩,⟨_,rfl,rfl,rfl⟩,trivial⟩,⟨⟨_,_,rfl,rfl,rfl,rfl⟩,⟨_,_,rfl,rfl,rfl,rfl⟩,⟨_,_,rfl,rfl,rfl,rfl⟩,⟨_,_,rfl,rfl,rfl,rfl⟩,⟨_,_,rfl,rfl,rfl,rfl⟩,trivial⟩,by rw [hk]; decide⟩ ?_
  · exact ⟨by omega,rfl,rfl⟩
  ·
   intro ap os i hI
   obtain ⟨hi,hos,hap⟩ := hI
   have hol : os.length = i := by rw [hos,tRow_length]
   refine w_seq ?_
   refine w_seq ?_
   refine w_R ?_
   refine qm hnt rfl rfl ?_
   refine qo hnt rfl (s_fa_ptr tab_46 rfl rfl tab_3 (by decide) rfl ?_)
   refine qo hnt rfl (s_load_ptr1 tab_3 rfl rfl rfl rfl rfl ?_)
   refine qo hnt rfl (s_lss rfl rfl ?_)
   refine r_end ?_
   refine q_then ?_
   refine w_if rfl (fun c5 => ?_) (fun c5 => ?_)
   ·
    have c5_ := c5
    try simp only [sB] at c5
    refine w_skip ?_
    refine q_then ?_
    refine w_seq ?_
    refine w_block ?_
    refine W_drawn tabOk mixed hnt [[],[0],[],[2],[2,3],[2,3,4],[0,1,2,3,4,5],[0,1,2,3,4,5,6],[0,1,2,3,4,5,6,7]] (by kernel_rfl) ?_
    refine d_op ?_
    refine x_run0 [(6,PV.ptr 1 0)] [] rfl rfl rfl rfl (s_fa_ptr tab_53 rfl rfl tab_42 (by decide) rfl ⟨rfl,rfl,rfl⟩) ?_
    refine d_op ?_
    refine xL [(53,PV.ptr 1 5)] [0] [(1,.obj [pI q.fn,pI 0,pI 0,pI 0,pI 0,PV.ref 2 0 none,pNil,p16 0,p16 0,pNil])] rfl rfl rfl rfl rfl (s_load_ptr1 tab_42 rfl rfl rfl rfl rfl ⟨rfl,rfl,rfl⟩) ⟨rfl,trivial⟩ rfl ?_
    refine d_op ?_
    refine x_run0 [(5,PV.ptr 0 0)] [] rfl rfl rfl rfl (s_move rfl ⟨rfl,rfl,rfl⟩) ?_
    refine d_op ?_
    refine xT [(55,PV.ptr 0 0)] [2] [(0,.obj [pS 1 false encI L,pN ap])] [(0,.obj [pS 1 false encI L,pN (tStep L ap 2)])] [(1,.obj [pI q.fn,pI 0,pI 0,pI 0,pI 0,PV.ref 2 0 none,pNil,p16 0,p16 0,pNil]),(2,oB true 1 encBo os),(3,.obj (cRequest q)),(4,.obj [pI 0,pI 0,pI 0,pI 0,pI 0,pNil,pNil,p16 0,p16 0,pNil])] rfl rfl rfl rfl rfl (s_callX (r2 := pI (tNext L ap 2)) (nx1 := 5) (H2 := [(0,.obj [pS 1 false encI L,pN ap])]) (H3 := [(0,.obj [pS 1 false encI L,pN (tStep L ap 2)])]) [0] [.obj [pS 1 false encI L,pN ap]] rfl rfl rfl (handed_of (by decide) ⟨rfl,trivial⟩) rfl rfl rfl rfl rfl rfl (w_burgagekeep_Tape_Next L false ap 2 (by omega) (by omega)) rfl (dist_of rfl) rfl rfl rfl rfl ⟨rfl,rfl,rfl⟩) rfl rfl ?_
    refine d_op ?_
    refine x_run0 [(56,pI (tNext L ap 2))] [2,3] rfl rfl rfl rfl (s_eql rfl rfl ⟨rfl,rfl,rfl⟩) ?_
    refine d_op ?_
    refine xT [(57,pB (decide (tNext L ap 2 = 1)))] [2,3,4] [] [(5,oB true 1 encBo [decide (tNext L ap 2 = 1)])] [(0,.obj [pS 1 false encI L,pN (tStep L ap 2)]),(1,.obj [pI q.fn,pI 0,pI 0,pI 0,pI 0,PV.ref 2 0 none,pNil,p16 0,p16 0,pNil]),(2,oB true 1 encBo os),(3,.obj (cRequest q)),(4,.obj [pI 0,pI 0,pI 0,pI 0,pI 0,pNil,pNil,p16 0,p16 0,pNil])] rfl rfl rfl rfl rfl (s_mkM (f := encBo) [decide (tNext L ap 2 = 1)] tab_42 rfl tab_4 ⟨rfl,by decide⟩ (by decide) rfl rfl rfl rfl ⟨rfl,rfl,rfl⟩) rfl rfl ?_
    refine d_op ?_
    refine x_run [(54,PV.ref 2 0 none),(58,PV.ref 5 0 none)] [0,1,2,3,4,5] [(5,oB true 1 encBo [decide (tNext L ap 2 = 1)])] [(2,oB true 1 encBo os)] [(6,oB true 1 encBo (os ++ [decide (tNext L ap 2 = 1)])),(5,oB true 1 encBo [decide (tNext L ap 2 = 1)])] [(6,oB true 1 encBo (os ++ [decide (tNext L ap 2 = 1)]))] [(6,oB true 1 encBo (os ++ [decide (tNext L ap 2 = 1)])),(5,oB true 1 encBo [decide (tNext L ap 2 = 1)]),(0,.obj [pS 1 false encI L,pN (tStep L ap 2)]),(1,.obj [pI q.fn,pI 0,pI 0,pI 0,pI 0,PV.ref 2 0 none,pNil,p16 0,p16 0,pNil]),(3,.obj (cRequest q)),(4,.obj [pI 0,pI 0,pI 0,pI 0,pI 0,pNil,pNil,p16 0,p16 0,pNil])] rfl rfl rfl rfl rfl rfl (s_appR0 (f := encBo) (l := os) (xs := [decide (tNext L ap 2 = 1)]) tab_42 rfl tab_4 ⟨rfl,by decide,by decide⟩ (srcM tab_42 rfl (hM_ref0 (f := encBo) rfl rfl)) rfl rfl (by (simp; omega)) ⟨rfl,rfl,rfl⟩) rfl ⟨rfl,trivial⟩ rfl rfl ?_
    refine d_op ?_
    refine x_run0 [(6,PV.ptr 1 0)] [0,1,2,3,4,5,6] rfl rfl rfl rfl (s_fa_ptr tab_53 rfl rfl tab_42 (by decide) rfl ⟨rfl,rfl,rfl⟩) ?_
    refine d_op ?_
    refine xT [(60,PV.ptr 1 5),(59,PV.ref 6 0 none)] [0,1,2,3,4,5,6,7] [(1,.obj [pI q.fn,pI 0,pI 0,pI 0,pI 0,PV.ref 2 0 none,pNil,p16 0,p16 0,pNil])] [(1,.obj [pI q.fn,pI 0,pI 0,pI 0,pI 0,PV.ref 6 0 none,pNil,p16 0,p16 0,pNil])] [(6,oB true 1 encBo (os ++ [decide (tNext L ap 2 = 1)])),(5,oB true 1 encBo [decide (tNext L ap 2 = 1)]),(0,.obj [pS 1 false encI L,pN (tStep L ap 2)]),(3,.obj (cRequest q)),(4,.obj [pI 0,pI 0,pI 0,pI 0,pI 0,pNil,pNil,p16 0,p16 0,pNil])] rfl rfl rfl rfl rfl (s_store_ptr tab_42 rfl rfl rfl rfl rfl (Nat.le_of_ble_eq_true rfl) ⟨rfl,rfl,rfl⟩) rfl rfl ?_
    refine d_end ⟨by kernel_rfl, ?_⟩
    refine q_block ?_
    refine q_then ?_
    refine w_R ?_
    refine qm hnt rfl rfl ?_
    refine qo hnt rfl (s_addN (a := i) (b := 1) rfl rfl (by omega) (by omega) (by omega) ?_)
    refine qa hnt rfl rfl ?_
    refine r_end ?_
    refine q_then ?_
    refine ⟨(tStep L ap 2),(os ++ [decide (tNext L ap 2 = 1)]),(i + 1), ?_, ?_,⟨[(0,0),(1,1),(2,6),(3,3),(4,4)],by rw [hk]; decide,⟨⟨_,rfl,rfl,rfl⟩,⟨_,rfl,rfl,rfl⟩,⟨_,rfl,rfl,rfl⟩,⟨_,rfl,rfl,rfl⟩,⟨_,rfl,rfl,rfl⟩,trivial⟩,⟨⟨_,_,rfl,rfl,rfl,rfl⟩,⟨_,_,rfl,rfl,rfl,rfl⟩,⟨_,_,rfl,rfl,rfl,rfl⟩,⟨_,_,rfl,rfl,rfl,rfl⟩,⟨_,_,rfl,rfl,rfl,rfl⟩,trivial⟩,by rw [hk]; decide⟩⟩
    ·
     exact ⟨by omega,tRow_1 isOne 2 L _ i hos hap,tRow_2 isOne 2 L _ i hap⟩
    · omega
   have c5_ := c5
   try simp only [sB] at c5
   refine w_exit ?_
   refine q_then_exit ?_
   refine q_then_exit ?_
   refine q_block_exit ?_
   refine q_block ?_
   refine q_then ?_
   refine w_seq ?_
   refine w_R ?_
   refine qo hnt rfl (s_load_ptr tab_53 rfl rfl rfl (Nat.le_of_ble_eq_true rfl) ?_)
   refine qo hnt rfl (s_store_ptr tab_53 rfl rfl rfl rfl rfl (Nat.le_of_ble_eq_true rfl) ?_)
   refine r_set [(4,PV.ptr 4 0)] [(4,.obj [pI q.fn,pI 0,pI 0,pI 0,pI 0,PV.ref 2 0 none,pNil,p16 0,p16 0,pNil]),(0,.obj [pS 1 false encI L,pN ap]),(1,.obj [pI q.fn,pI 0,pI 0,pI 0,pI 0,PV.ref 2 0 none,pNil,p16 0,p16 0,pNil]),(2,oB true 1 encBo os),(3,.obj (cRequest q))] 5 ⟨rfl,trivial⟩ rfl rfl ?_
   refine r_end ?_
   refine q_then ?_
   refine w_frzC (n := 4) (j := 5) rfl rfl rfl rfl ?_
   have hz4 : os = R.bits := by ((rw [hR,madeR_1 h1 (by omega) hos (by omega)]; done))
   refine w_leO (n := 4) (ds := [pI q.fn,pI 0,pI 0,pI 0,pI 0,pS 1 false encBo R.bits,pNil,p16 0,p16 0,pNil]) rfl ⟨le_refl _,le_refl _,le_refl _,le_refl _,le_refl _,le_of_eq (congrArg (fun z => pS 1 false encBo z) hz4),le_refl _,le_refl _,le_refl _,le_refl _,trivial⟩ ?_
   have hz5 : q.fn = R.fn ∧ 0 = R.code ∧ 0 = R.at_ ∧ 0 = R.count ∧ 0 = R.sub ∧ ([] : List UInt16) = R.vals ∧ 0 = R.and_ ∧ 0 = R.or_ ∧ ([] : List UInt8) = R.data := by refine ⟨?_, ?_, ?_, ?_, ?_, ?_, ?_, ?_, ?_⟩ <;> ((rw [hR,madeR_1 h1 (by omega) hos (by omega)]; done))
   refine w_leO (n := 4) (ds := cReply R) rfl ⟨le_of_eq (congrArg (fun z : Int => pI z) hz5.1),le_of_eq (congrArg (fun z : Int => pI z) hz5.2.1),le_of_eq (congrArg (fun z : Int => pI z) hz5.2.2.1),le_of_eq (congrArg (fun z : Int => pI z) hz5.2.2.2.1),le_of_eq (congrArg (fun z : Int => pI z) hz5.2.2.2.2.1),le_refl _,le_tr (le_nilS 1 false) (le_of_eq (congrArg (fun z => pS 1 false enc16 z) hz5.2.2.2.2.2.1)),le_of_eq (congrArg (fun z : UInt16 => p16 z) hz5.2.2.2.2.2.2.1),le_of_eq (congrArg (fun z : UInt16 => p16 z) hz5.2.2.2.2.2.2.2.1),le_tr (le_nilS 1 false) (le_of_eq (congrArg (fun z => pS 1 false enc8 z) hz5.2.2.2.2.2.2.2.2)),trivial⟩ ?_
   refine w_ret ?_
   exact fin_plain (ret_cell tab_53 (by decide) rfl rfl (Nat.le_of_ble_eq_true rfl) rfl ret_nil) rfl rfl ⟨rfl,rfl,rfl⟩
 have c4_ := c4
 try simp only [sB] at c4
 refine w_seq ?_
 refine w_seq ?_
 refine w_R ?_
 refine qo hnt rfl (s_eql rfl rfl ?_)
 refine qa hnt rfl rfl ?_
 refine r_end ?_
 refine q_then ?_
 refine w_if rfl (fun c6 => ?_) (fun c6 => ?_)
 ·
  have c6_ := c6
  try simp only [sB] at c6
  refine w_skip ?_
  refine q_then ?_
  refine w_if rfl (fun _ => ?_) (fun e => absurd (e.symm.trans c6_) (by decide))
  refine w_seq ?_
  refine w_R ?_
  refine qa hnt rfl rfl ?_
  refine r_end ?_
  refine q_then ?_
  refine w_block ?_
  refine w_adoptC (n := 3) (j := 6) (sz := 1) rfl rfl rfl ?_
  refine loop3 (fun (ap : Nat) (os : List UInt16) (i : Nat) => (i : Int) ≤ q.count ∧ os = (tRow u16I 65536 L (tStep L 0 5) i).1 ∧ ap = (tRow u16I 65536 L (tStep L 0 5) i).2) (fun (ap : Nat) (os : List UInt16) (i : Nat) => [(3,PV.ptr 3 0),(4,PV.ptr 4 0),(5,PV.ptr 0 0),(6,PV.ptr 1 0),(8,pN i)]) 5 (fun (ap : Nat) (os : List UInt16) (i : Nat) => [(0,.obj [pS 1 false encI L,pN ap]),(1,.obj [pI q.fn,pI 0,pI 0,pI 0,pI 0,pNil,PV.ref 2 0 none,p16 0,p16 0,pNil]),(2,oB true 1 enc16 os),(3,.obj (cRequest q)),(4,.obj [pI 0,pI 0,pI 0,pI 0,pI 0,pNil,pNil,p16 0,p16 0,pNil])]) (fun (ap : Nat) (os : List UInt16) (i : Nat) => q.count.toNat - i) (tStep L 0 5) (([] : List UInt16)) (0) ?_ ⟨[(0,2),(1,3),(2,4),(3,0),(4,1)],by rw [hk]; decide,⟨⟨_,rfl,rfl,rfl⟩,⟨_,rfl,rfl,rfl⟩,⟨_,rfl,rfl,rfl⟩,⟨_,rfl,rfl,rfl⟩,⟨_,rfl,rfl,rfl⟩,trivial⟩,⟨⟨_,_,rfl,rfl,rfl,rfl⟩,⟨_,_,rfl,rfl,rfl,rfl⟩,⟨_,_,rfl,rfl,rfl,rfl⟩,⟨_,_,rfl,rfl,rfl,rfl⟩,⟨_,_,rfl,rfl,rfl,rfl⟩,trivial⟩,by rw [hk]; decide⟩ ?_
  · exact ⟨by omega,rfl,rfl⟩
  ·
   intro ap os i hI
   obtain ⟨hi,hos,hap⟩ := hI
   have hol : os.length = i := by rw [hos,tRow_length]
   refine w_seq ?_
   refine w_seq ?_
   refine w_R ?_
   refine qm hnt rfl rfl ?_
   refine qo hnt rfl (s_fa_ptr tab_46 rfl rfl tab_3 (by decide) rfl ?_)
   refine qo hnt rfl (s_load_ptr1 tab_3 rfl rfl rfl rfl rfl ?_)
   refine qo hnt rfl (s_lss rfl rfl ?_)
   refine r_end ?_
   refine q_then ?_
   refine w_if rfl (fun c7 => ?_) (fun c7 => ?_)
   ·
    have c7_ := c7
    try simp only [sB] at c7
    refine w_skip ?_
    refine q_then ?_
    refine w_seq ?_
    refine w_block ?_
    refine W_drawn tabOk mixed hnt [[],[0],[],[2],[2,3],[2,3,4],[0,1,2,3,4,5],[0,1,2,3,4,5,6],[0,1,2,3,4,5,6,7]] (by kernel_rfl) ?_
    refine d_op ?_
    refine x_run0 [(6,PV.ptr 1 0)] [] rfl rfl rfl rfl (s_fa_ptr tab_53 rfl rfl tab_43 (by decide) rfl ⟨rfl,rfl,rfl⟩) ?_
    refine d_op ?_
    refine xL [(71,PV.ptr 1 6)] [0] [(1,.obj [pI q.fn,pI 0,pI 0,pI 0,pI 0,pNil,PV.ref 2 0 none,p16 0,p16 0,pNil])] rfl rfl rfl rfl rfl (s_load_ptr1 tab_43 rfl rfl rfl rfl rfl ⟨rfl,rfl,rfl⟩) ⟨rfl,trivial⟩ rfl ?_
    refine d_op ?_
    refine x_run0 [(5,PV.ptr 0 0)] [] rfl rfl rfl rfl (s_move rfl ⟨rfl,rfl,rfl⟩) ?_
    refine d_op ?_
    refine xT [(73,PV.ptr 0 0)] [2] [(0,.obj [pS 1 false encI L,pN ap])] [(0,.obj [pS 1 false encI L,pN (tStep L ap 65536)])] [(1,.obj [pI q.fn,pI 0,pI 0,pI 0,pI 0,pNil,PV.ref 2 0 none,p16 0,p16 0,pNil]),(2,oB true 1 enc16 os),(3,.obj (cRequest q)),(4,.obj [pI 0,pI 0,pI 0,pI 0,pI 0,pNil,pNil,p16 0,p16 0,pNil])] rfl rfl rfl rfl rfl (s_callX (r2 := pI (tNext L ap 65536)) (nx1 := 5) (H2 := [(0,.obj [pS 1 false encI L,pN ap])]) (H3 := [(0,.obj [pS 1 false encI L,pN (tStep L ap 65536)])]) [0] [.obj [pS 1 false encI L,pN ap]] rfl rfl rfl (handed_of (by decide) ⟨rfl,trivial⟩) rfl rfl rfl rfl rfl rfl (w_burgagekeep_Tape_Next L false ap 65536 (by omega) (by omega)) rfl (dist_of rfl) rfl rfl rfl rfl ⟨rfl,rfl,rfl⟩) rfl rfl ?_
    refine d_op ?_
    refine x_run0 [(74,pI (tNext L ap 65536))] [2,3] rfl rfl rfl rfl (s_cv16 tab_3 tab_44 rfl rfl rfl ⟨rfl,rfl,rfl⟩) ?_
    refine d_op ?_
    refine xT [(75,p16 (u16I (tNext L ap 65536)))] [2,3,4] [] [(5,oB true 1 enc16 [u16I (tNext L ap 65536)])] [(0,.obj [pS 1 false encI L,pN (tStep L ap 65536)]),(1,.obj [pI q.fn,pI 0,pI 0,pI 0,pI 0,pNil,PV.ref 2 0 none,p16 0,p16 0,pNil]),(2,oB true 1 enc16 os),(3,.obj (cRequest q)),(4,.obj [pI 0,pI 0,pI 0,pI 0,pI 0,pNil,pNil,p16 0,p16 0,pNil])] rfl rfl rfl rfl rfl (s_mkM (f := enc16) [u16I (tNext L ap 65536)] tab_43 rfl tab_44 ⟨rfl,by decide⟩ (by decide) rfl rfl rfl rfl ⟨rfl,rfl,rfl⟩) rfl rfl ?_
    refine d_op ?_
    refine x_run [(72,PV.ref 2 0 none),(76,PV.ref 5 0 none)] [0,1,2,3,4,5] [(5,oB true 1 enc16 [u16I (tNext L ap 65536)])] [(2,oB true 1 enc16 os)] [(6,oB true 1 enc16 (os ++ [u16I (tNext L ap 65536)])),(5,oB true 1 enc16 [u16I (tNext L ap 65536)])] [(6,oB true 1 enc16 (os ++ [u16I (tNext L ap 65536)]))] [(6,oB true 1 enc16 (os ++ [u16I (tNext L ap 65536)])),(5,oB true 1 enc16 [u16I (tNext L ap 65536)]),(0,.obj [pS 1 false encI L,pN (tStep L ap 65536)]),(1,.obj [pI q.fn,pI 0,pI 0,pI 0,pI 0,pNil,PV.ref 2 0 none,p16 0,p16 0,pNil]),(3,.obj (cRequest q)),(4,.obj [pI 0,pI 0,pI 0,pI 0,pI 0,pNil,pNil,p16 0,p16 0,pNil])] rfl rfl rfl rfl rfl rfl (s_appR0 (f := enc16) (l := os) (xs := [u16I (tNext L ap 65536)]) tab_43 rfl tab_44 ⟨rfl,by decide,by decide⟩ (srcM tab_43 rfl (hM_ref0 (f := enc16) rfl rfl)) rfl rfl (by (simp; omega)) ⟨rfl,rfl,rfl⟩) rfl ⟨rfl,trivial⟩ rfl rfl ?_
    refine d_op ?_
    refine x_run0 [(6,PV.ptr 1 0)] [0,1,2,3,4,5,6] rfl rfl rfl rfl (s_fa_ptr tab_53 rfl rfl tab_43 (by decide) rfl ⟨rfl,rfl,rfl⟩) ?_
    refine d_op ?_
    refine xT [(78,PV.ptr 1 6),(77,PV.ref 6 0 none)] [0,1,2,3,4,5,6,7] [(1,.obj [pI q.fn,pI 0,pI 0,pI 0,pI 0,pNil,PV.ref 2 0 none,p16 0,p16 0,pNil])] [(1,.obj [pI q.fn,pI 0,pI 0,pI 0,pI 0,pNil,PV.ref 6 0 none,p16 0,p16 0,pNil])] [(6,oB true 1 enc16 (os ++ [u16I (tNext L ap 65536)])),(5,oB true 1 enc16 [u16I (tNext L ap 65536)]),(0,.obj [pS 1 false encI L,pN (tStep L ap 65536)]),(3,.obj (cRequest q)),(4,.obj [pI 0,pI 0,pI 0,pI 0,pI 0,pNil,pNil,p16 0,p16 0,pNil])] rfl rfl rfl rfl rfl (s_store_ptr tab_43 rfl rfl rfl rfl rfl (Nat.le_of_ble_eq_true rfl) ⟨rfl,rfl,rfl⟩) rfl rfl ?_
    refine d_end ⟨by kernel_rfl, ?_⟩
    refine q_block ?_
    refine q_then ?_
    refine w_R ?_
    refine qm hnt rfl rfl ?_
    refine qo hnt rfl (s_addN (a := i) (b := 1) rfl rfl (by omega) (by omega) (by omega) ?_)
    refine qa hnt rfl rfl ?_
    refine r_end ?_
    refine q_then ?_
    refine ⟨(tStep L ap 65536),(os ++ [u16I (tNext L ap 65536)]),(i + 1), ?_, ?_,⟨[(0,0),(1,1),(2,6),(3,3),(4,4)],by rw [hk]; decide,⟨⟨_,rfl,rfl,rfl⟩,⟨_,rfl,rfl,rfl⟩,⟨_,rfl,rfl,rfl⟩,⟨_,rfl,rfl,rfl⟩,⟨_,rfl,rfl,rfl⟩,trivial⟩,⟨⟨_,_,rfl,rfl,rfl,rfl⟩,⟨_,_,rfl,rfl,rfl,rfl⟩,⟨_,_,rfl,rfl,rfl,rfl⟩,⟨_,_,rfl,rfl,rfl,rfl⟩,⟨_,_,rfl,rfl,rfl,rfl⟩,trivial⟩,by rw [hk]; decide⟩⟩
    ·
     exact ⟨by omega,tRow_1 u16I 65536 L _ i hos hap,tRow_2 u16I 65536 L _ i hap⟩
    · omega
   have c7_ := c7
   try simp only [sB] at c7
   refine w_exit ?_
   refine q_then_exit ?_
   refine q_then_exit ?_
   refine q_block_exit ?_
   refine q_block ?_
   refine q_then ?_
   refine w_seq ?_
   refine w_R ?_
   refine qo hnt rfl (s_load_ptr tab_53 rfl rfl rfl (Nat.le_of_ble_eq_true rfl) ?_)
   refine qo hnt rfl (s_store_ptr tab_53 rfl rfl rfl rfl rfl (Nat.le_of_ble_eq_true rfl) ?_)
   refine r_set [(4,PV.ptr 4 0)] [(4,.obj [pI q.fn,pI 0,pI 0,pI 0,pI 0,pNil,PV.ref 2 0 none,p16 0,p16 0,pNil]),(0,.obj [pS 1 false encI L,pN ap]),(1,.obj [pI q.fn,pI 0,pI 0,pI 0,pI 0,pNil,PV.ref 2 0 none,p16 0,p16 0,pNil]),(2,oB true 1 enc16 os),(3,.obj (cRequest q))] 5 ⟨rfl,trivial⟩ rfl rfl ?_
   refine r_end ?_
   refine q_then ?_
   refine w_frzC (n := 4) (j := 6) rfl rfl rfl rfl ?_
   have hz6 : os = R.vals := by ((rw [hR,madeR_3 h1 (by omega) hos (by omega)]; done))
   refine w_leO (n := 4) (ds := [pI q.fn,pI 0,pI 0,pI 0,pI 0,pNil,pS 1 false enc16 R.vals,p16 0,p16 0,pNil]) rfl ⟨le_refl _,le_refl _,le_refl _,le_refl _,le_refl _,le_refl _,le_of_eq (congrArg (fun z => pS 1 false enc16 z) hz6),le_refl _,le_refl _,le_refl _,trivial⟩ ?_
   have hz7 : q.fn = R.fn ∧ 0 = R.code ∧ 0 = R.at_ ∧ 0 = R.count ∧ 0 = R.sub ∧ ([] : List Bool) = R.bits ∧ 0 = R.and_ ∧ 0 = R.or_ ∧ ([] : List UInt8) = R.data := by refine ⟨?_, ?_, ?_, ?_, ?_, ?_, ?_, ?_, ?_⟩ <;> ((rw [hR,madeR_3 h1 (by omega) hos (by omega)]; done))
   refine w_leO (n := 4) (ds := cReply R) rfl ⟨le_of_eq (congrArg (fun z : Int => pI z) hz7.1),le_of_eq (congrArg (fun z : Int => pI z) hz7.2.1),le_of_eq (congrArg (fun z : Int => pI z) hz7.2.2.1),le_of_eq (congrArg (fun z : Int => pI z) hz7.2.2.2.1),le_of_eq (congrArg (fun z : Int => pI z) hz7.2.2.2.2.1),le_tr (le_nilS 1 false) (le_of_eq (congrArg (fun z => pS 1 false encBo z) hz7.2.2.2.2.2.1)),le_refl _,le_of_eq (congrArg (fun z : UInt16 => p16 z) hz7.2.2.2.2.2.2.1),le_of_eq (congrArg (fun z : UInt16 => p16 z) hz7.2.2.2.2.2.2.2.1),le_tr (le_nilS 1 false) (le_of_eq (congrArg (fun z => pS 1 false enc8 z) hz7.2.2.2.2.2.2.2.2)),trivial⟩ ?_
   refine w_ret ?_
   exact fin_plain (ret_cell tab_53 (by decide) rfl rfl (Nat.le_of_ble_eq_true rfl) rfl ret_nil) rfl rfl ⟨rfl,rfl,rfl⟩
 have c6_ := c6
 try simp only [sB] at c6
 refine w_seq ?_
 refine w_R ?_
 refine qo hnt rfl (s_eql rfl rfl ?_)
 refine qa hnt rfl rfl ?_
 refine r_end ?_
 refine q_then ?_
 refine w_if rfl (fun c8 => ?_) (fun c8 => ?_)
 ·
  have c8_ := c8
  try simp only [sB] at c8
  refine w_skip ?_
  refine q_then ?_
  refine w_if rfl (fun _ => ?_) (fun e => absurd (e.symm.trans c8_) (by decide))
  refine w_seq ?_
  refine w_R ?_
  refine qa hnt rfl rfl ?_
  refine r_end ?_
  refine q_then ?_
  refine w_block ?_
  refine w_adoptC (n := 3) (j := 6) (sz := 1) rfl rfl rfl ?_
  refine loop3 (fun (ap : Nat) (os : List UInt16) (i : Nat) => (i : Int) ≤ q.count ∧ os = (tRow u16I 65536 L (tStep L 0 5) i).1 ∧ ap = (tRow u16I 65536 L (tStep L 0 5) i).2) (fun (ap : Nat) (os : List UInt16) (i : Nat) => [(3,PV.ptr 3 0),(4,PV.ptr 4 0),(5,PV.ptr 0 0),(6,PV.ptr 1 0),(8,pN i)]) 5 (fun (ap : Nat) (os : List UInt16) (i : Nat) => [(0,.obj [pS 1 false encI L,pN ap]),(1,.obj [pI q.fn,pI 0,pI 0,pI 0,pI 0,pNil,PV.ref 2 0 none,p16 0,p16 0,pNil]),(2,oB true 1 enc16 os),(3,.obj (cRequest q)),(4,.obj [pI 0,pI 0,pI 0,pI 0,pI 0,pNil,pNil,p16 0,p16 0,pNil])]) (fun (ap : Nat) (os : List UInt16) (i : Nat) => q.count.toNat - i) (tStep L 0 5) (([] : List UInt16)) (0) ?_ ⟨[(0,2),(1,3),(2,4),(3,0),(4,1)],by rw [hk]; decide,⟨⟨_,rfl,rfl,rfl⟩,⟨_,rfl,rfl,rfl⟩,⟨_,rfl,rfl,rfl⟩,⟨_,rfl,rfl,rfl⟩,⟨_,rfl,rfl,rfl⟩,trivial⟩,⟨⟨_,_,rfl,rfl,rfl,rfl⟩,⟨_,_,rfl,rfl,rfl,rfl⟩,⟨_,_,rfl,rfl,rfl,rfl⟩,⟨_,_,rfl,rfl,rfl,rfl⟩,⟨_,_,rfl,rfl,rfl,rfl⟩,trivial⟩,by rw [hk]; decide⟩ ?_
  · exact ⟨by omega,rfl,rfl⟩
  ·
   intro ap os i hI
   obtain ⟨hi,hos,hap⟩ := hI
   have hol : os.length = i := by rw [hos,tRow_length]
   refine w_seq ?_
   refine w_seq ?_
   refine w_R ?_
   refine qm hnt rfl rfl ?_
   refine qo hnt rfl (s_fa_ptr tab_46 rfl rfl tab_3 (by decide) rfl ?_)
   refine qo hnt rfl (s_load_ptr1 tab_3 rfl rfl rfl rfl rfl ?_)
   refine qo hnt rfl (s_lss rfl rfl ?_)
   refine r_end ?_
   refine q_then ?_
   refine w_if rfl (fun c9 => ?_) (fun c9 => ?_)
   ·
    have c9_ := c9
    try simp only [sB] at c9
    refine w_skip ?_
    refine q_then ?_
    refine w_seq ?_
    refine w_block ?_
    refine W_drawn tabOk mixed hnt [[],[0],[],[2],[2,3],[2,3,4],[0,1,2,3,4,5],[0,1,2,3,4,5,6],[0,1,2,3,4,5,6,7]] (by kernel_rfl) ?_
    refine d_op ?_
    refine x_run0 [(6,PV.ptr 1 0)] [] rfl rfl rfl rfl (s_fa_ptr tab_53 rfl rfl tab_43 (by decide) rfl ⟨rfl,rfl,rfl⟩) ?_
    refine d_op ?_
    refine xL [(71,PV.ptr 1 6)] [0] [(1,.obj [pI q.fn,pI 0,pI 0,pI 0,pI 0,pNil,PV.ref 2 0 none,p16 0,p16 0,pNil])] rfl rfl rfl rfl rfl (s_load_ptr1 tab_43 rfl rfl rfl rfl rfl ⟨rfl,rfl,rfl⟩) ⟨rfl,trivial⟩ rfl ?_
    refine d_op ?_
    refine x_run0 [(5,PV.ptr 0 0)] [] rfl rfl rfl rfl (s_move rfl ⟨rfl,rfl,rfl⟩) ?_
    refine d_op ?_
    refine xT [(73,PV.ptr 0 0)] [2] [(0,.obj [pS 1 false encI L,pN ap])] [(0,.obj [pS 1 false encI L,pN (tStep L ap 65536)])] [(1,.obj [pI q.fn,pI 0,pI 0,pI 0,pI 0,pNil,PV.ref 2 0 none,p16 0,p16 0,pNil]),(2,oB true 1 enc16 os),(3,.obj (cRequest q)),(4,.obj [pI 0,pI 0,pI 0,pI 0,pI 0,pNil,pNil,p16 0,p16 0,pNil])] rfl rfl rfl rfl rfl (s_callX (r2 := pI (tNext L ap 65536)) (nx1 := 5) (H2 := [(0,.obj [pS 1 false encI L,pN ap])]) (H3 := [(0,.obj [pS 1 false encI L,pN (tStep L ap 65536)])]) [0] [.obj [pS 1 false encI L,pN ap]] rfl rfl rfl (handed_of (by decide) ⟨rfl,trivial⟩) rfl rfl rfl rfl rfl rfl (w_burgagekeep_Tape_Next L false ap 65536 (by omega) (by omega)) rfl (dist_of rfl) rfl rfl rfl rfl ⟨rfl,rfl,rfl⟩) rfl rfl ?_
    refine d_op ?_
    refine x_run0 [(74,pI (tNext L ap 65536))] [2,3] rfl rfl rfl rfl (s_cv16 tab_3 tab_44 rfl rfl rfl ⟨rfl,rfl,rfl⟩) ?_
    refine d_op ?_
    refine xT [(75,p16 (u16I (tNext L ap 65536)))] [2,3,4] [] [(5,oB true 1 enc16 [u16I (tNext L ap 65536)])] [(0,.obj [pS 1 false encI L,pN (tStep L ap 65536)]),(1,.obj [pI q.fn,pI 0,pI 0,pI 0,pI 0,pNil,PV.ref 2 0 none,p16 0,p16 0,pNil]),(2,oB true 1 enc16 os),(3,.obj (cRequest q)),(4,.obj [pI 0,pI 0,pI 0,pI 0,pI 0,pNil,pNil,p16 0,p16 0,pNil])] rfl rfl rfl rfl rfl (s_mkM (f := enc16) [u16I (tNext L ap 65536)] tab_43 rfl tab_44 ⟨rfl,by decide⟩ (by decide) rfl rfl rfl rfl ⟨rfl,rfl,rfl⟩) rfl rfl ?_
    refine d_op ?_
    refine x_run [(72,PV.ref 2 0 none),(76,PV.ref 5 0 none)] [0,1,2,3,4,5] [(5,oB true 1 enc16 [u16I (tNext L ap 65536)])] [(2,oB true 1 enc16 os)] [(6,oB true 1 enc16 (os ++ [u16I (tNext L ap 65536)])),(5,oB true 1 enc16 [u16I (tNext L ap 65536)])] [(6,oB true 1 enc16 (os ++ [u16I (tNext L ap 65536)]))] [(6,oB true 1 enc16 (os ++ [u16I (tNext L ap 65536)])),(5,oB true 1 enc16 [u16I (tNext L ap 65536)]),(0,.obj [pS 1 false encI L,pN (tStep L ap 65536)]),(1,.obj [pI q.fn,pI 0,pI 0,pI 0,pI 0,pNil,PV.ref 2 0 none,p16 0,p16 0,pNil]),(3,.obj (cRequest q)),(4,.obj [pI 0,pI 0,pI 0,pI 0,pI 0,pNil,pNil,p16 0,p16 0,pNil])] rfl rfl rfl rfl rfl rfl (s_appR0 (f := enc16) (l := os) (xs := [u16I (tNext L ap 65536)]) tab_43 rfl tab_44 ⟨rfl,by decide,by decide⟩ (srcM tab_43 rfl (hM_ref0 (f := enc16) rfl rfl)) rfl rfl (by (simp; omega)) ⟨rfl,rfl,rfl⟩) rfl ⟨rfl,trivial⟩ rfl rfl ?_
    refine d_op ?_
    refine x_run0 [(6,PV.ptr 1 0)] [0,1,2,3,4,5,6] rfl rfl rfl rfl (s_fa_ptr tab_53 rfl rfl tab_43 (by decide) rfl ⟨rfl,rfl,rfl⟩) ?_
    refine d_op ?_
    refine xT [(78,PV.ptr 1 6),(77,PV.ref 6 0 none)] [0,1,2,3,4,5,6,7] [(1,.obj [pI q.fn,pI 0,pI 0,pI 0,pI 0,pNil,PV.ref 2 0 none,p16 0,p16 0,pNil])] [(1,.obj [pI q.fn,pI 0,pI 0,pI 0,pI 0,pNil,PV.ref 6 0 none,p16 0,p16 0,pNil])] [(6,oB true 1 enc16 (os ++ [u16I (tNext L ap 65536)])),(5,oB true 1 enc16 [u16I (tNext L ap 65536)]),(0,.obj [pS 1 false encI L,pN (tStep L ap 65536)]),(3,.obj (cRequest q)),(4,.obj [pI 0,pI 0,pI 0,pI 0,pI 0,pNil,pNil,p16 0,p16 0,pNil])] rfl rfl rfl rfl rfl (s_store_ptr tab_43 rfl rfl rfl rfl rfl (Nat.le_of_ble_eq_true rfl) ⟨rfl,rfl,rfl⟩) rfl rfl ?_
    refine d_end ⟨by kernel_rfl, ?_⟩
    refine q_block ?_
    refine q_then ?_
    refine w_R ?_
    refine qm hnt rfl rfl ?_
    refine qo hnt rfl (s_addN (a := i) (b := 1) rfl rfl (by omega) (by omega) (by omega) ?_)
    refine qa hnt rfl rfl ?_
    refine r_end ?_
    refine q_then ?_
    refine ⟨(tStep L ap 65536),(os ++ [u16I (tNext L ap 65536)]),(i + 1), ?_, ?_,⟨[(0,0),(1,1),(2,6),(3,3),(4,4)],by rw [hk]; decide,⟨⟨_,rfl,rfl,rfl⟩,⟨_,rfl,rfl,rfl⟩,⟨_,rfl,rfl,rfl⟩,⟨_,rfl,rfl,rfl⟩,⟨_,rfl,rfl,rfl⟩,trivial⟩,⟨⟨_,_,rfl,rfl,rfl,rfl⟩,⟨_,_,rfl,rfl,rfl,rfl⟩,⟨_,_,rfl,rfl,rfl,rfl⟩,⟨_,_,rfl,rfl,rfl,rfl⟩,⟨_,_,rfl,rfl,rfl,rfl⟩,trivial⟩,by rw [hk]; decide⟩⟩
    ·
     exact ⟨by omega,tRow_1 u16I 65536 L _ i hos hap,tRow_2 u16I 65536 L _ i hap⟩
    · omega
   have c9_ := c9
   try simp only [sB] at c9
   refine w_exit ?_
   refine q_then_exit ?_
   refine q_then_exit ?_
   refine q_block_exit ?_
   refine q_block ?_
   refine q_then ?_
   refine w_seq ?_
   refine w_R ?_
   refine qo hnt rfl (s_load_ptr tab_53 rfl rfl rfl (Nat.le_of_ble_eq_true rfl) ?_)
   refine qo hnt rfl (s_store_ptr tab_53 rfl rfl rfl rfl rfl (Nat.le_of_ble_eq_true rfl) ?_)
   refine r_set [(4,PV.ptr 4 0)] [(4,.obj [pI q.fn,pI 0,pI 0,pI 0,pI 0,pNil,PV.ref 2 0 none,p16 0,p16 0,pNil]),(0,.obj [pS 1 false encI L,pN ap]),(1,.obj [pI q.fn,pI 0,pI 0,pI 0,pI 0,pNil,PV.ref 2 0 none,p16 0,p16 0,pNil]),(2,oB true 1 enc16 os),(3,.obj (cRequest q))] 5 ⟨rfl,trivial⟩ rfl rfl ?_
   refine r_end ?_
   refine q_then ?_
   refine w_frzC (n := 4) (j := 6) rfl rfl rfl rfl ?_
   have hz8 : os = R.vals := by ((rw [hR,madeR_3 h1 (by omega) hos (by omega)]; done))
   refine w_leO (n := 4) (ds := [pI q.fn,pI 0,pI 0,pI 0,pI 0,pNil,pS 1 false enc16 R.vals,p16 0,p16 0,pNil]) rfl ⟨le_refl _,le_refl _,le_refl _,le_refl _,le_refl _,le_refl _,le_of_eq (congrArg (fun z => pS 1 false enc16 z) hz8),le_refl _,le_refl _,le_refl _,trivial⟩ ?_
   have hz9 : q.fn = R.fn ∧ 0 = R.code ∧ 0 = R.at_ ∧ 0 = R.count ∧ 0 = R.sub ∧ ([] : List Bool) = R.bits ∧ 0 = R.and_ ∧ 0 = R.or_ ∧ ([] : List UInt8) = R.data := by refine ⟨?_, ?_, ?_, ?_, ?_, ?_, ?_, ?_, ?_⟩ <;> ((rw [hR,madeR_3 h1 (by omega) hos (by omega)]; done))
   refine w_leO (n := 4) (ds := cReply R) rfl ⟨le_of_eq (congrArg (fun z : Int => pI z) hz9.1),le_of_eq (congrArg (fun z : Int => pI z) hz9.2.1),le_of_eq (congrArg (fun z : Int => pI z) hz9.2.2.1),le_of_eq (congrArg (fun z : Int => pI z) hz9.2.2.2.1),le_of_eq (congrArg (fun z : Int => pI z) hz9.2.2.2.2.1),le_tr (le_nilS 1 false) (le_of_eq (congrArg (fun z => pS 1 false encBo z) hz9.2.2.2.2.2.1)),le_refl _,le_of_eq (congrArg (fun z : UInt16 => p16 z) hz9.2.2.2.2.2.2.1),le_of_eq (congrArg (fun z : UInt16 => p16 z) hz9.2.2.2.2.2.2.2.1),le_tr (le_nilS 1 false) (le_of_eq (congrArg (fun z => pS 1 false enc8 z) hz9.2.2.2.2.2.2.2.2)),trivial⟩ ?_
   refine w_ret ?_
   exact fin_plain (ret_cell tab_53 (by decide) rfl rfl (Nat.le_of_ble_eq_true rfl) rfl ret_nil) rfl rfl ⟨rfl,rfl,rfl⟩
 have c8_ := c8
 try simp only [sB] at c8
 refine w_R ?_
 refine qo hnt rfl (s_eql rfl rfl ?_)
 refine qa hnt rfl rfl ?_
 refine r_end ?_
 refine q_then ?_
 refine w_if rfl (fun c10 => ?_) (fun c10 => ?_)
 ·
  have c10_ := c10
  try simp only [sB] at c10
  refine w_seq ?_
  refine w_R ?_
  refine qa hnt rfl rfl ?_
  refine r_end ?_
  refine q_then ?_
  refine w_block ?_
  refine w_adoptC (n := 3) (j := 6) (sz := 1) rfl rfl rfl ?_
  refine loop3 (fun (ap : Nat) (os : List UInt16) (i : Nat) => (i : Int) ≤ q.count ∧ os = (tRow u16I 65536 L (tStep L 0 5) i).1 ∧ ap = (tRow u16I 65536 L (tStep L 0 5) i).2) (fun (ap : Nat) (os : List UInt16) (i : Nat) => [(3,PV.ptr 3 0),(4,PV.ptr 4 0),(5,PV.ptr 0 0),(6,PV.ptr 1 0),(8,pN i)]) 5 (fun (ap : Nat) (os : List UInt16) (i : Nat) => [(0,.obj [pS 1 false encI L,pN ap]),(1,.obj [pI q.fn,pI 0,pI 0,pI 0,pI 0,pNil,PV.ref 2 0 none,p16 0,p16 0,pNil]),(2,oB true 1 enc16 os),(3,.obj (cRequest q)),(4,.obj [pI 0,pI 0,pI 0,pI 0,pI 0,pNil,pNil,p16 0,p16 0,pNil])]) (fun (ap : Nat) (os : List UInt16) (i : Nat) => q.count.toNat - i) (tStep L 0 5) (([] : List UInt16)) (0) ?_ ⟨[(0,2),(1,3),(2,4),(3,0),(4,1)],by rw [hk]; decide,⟨⟨_,rfl,rfl,rfl⟩,⟨_,rfl,rfl,rfl⟩,⟨_,rfl,rfl,rfl⟩,⟨_,rfl,rfl,rfl⟩,⟨_,rfl,rfl,rfl⟩,trivial⟩,⟨⟨_,_,rfl,rfl,rfl,rfl⟩,⟨_,_,rfl,rfl,rfl,rfl⟩,⟨_,_,rfl,rfl,rfl,rfl⟩,⟨_,_,rfl,rfl,rfl,rfl⟩,⟨_,_,rfl,rfl,rfl,rfl⟩,trivial⟩,by rw [hk]; decide⟩ ?_
  · exact ⟨by omega,rfl,rfl⟩
  ·
   intro ap os i hI
   obtain ⟨hi,hos,hap⟩ := hI
   have hol : os.length = i := by rw [hos,tRow_length]
   refine w_seq ?_
   refine w_seq ?_
   refine w_R ?_
   refine qm hnt rfl rfl ?_
   refine qo hnt rfl (s_fa_ptr tab_46 rfl rfl tab_3 (by decide) rfl ?_)
   refine qo hnt rfl (s_load_ptr1 tab_3 rfl rfl rfl rfl rfl ?_)
   refine qo hnt rfl (s_lss rfl rfl ?_)
   refine r_end ?_
   refine q_then ?_
   refine w_if rfl (fun c11 => ?_) (fun c11 => ?_)
   ·
    have c11_ := c11
    try simp only [sB] at c11
    refine w_skip ?_
    refine q_then ?_
    refine w_seq ?_
    refine w_block ?_
    refine W_drawn tabOk mixed hnt [[],[0],[],[2],[2,3],[2,3,4],[0,1,2,3,4,5],[0,1,2,3,4,5,6],[0,1,2,3,4,5,6,7]] (by kernel_rfl) ?_
    refine d_op ?_
    refine x_run0 [(6,PV.ptr 1 0)] [] rfl rfl rfl rfl (s_fa_ptr tab_53 rfl rfl tab_43 (by decide) rfl ⟨rfl,rfl,rfl⟩) ?_
    refine d_op ?_
    refine xL [(71,PV.ptr 1 6)] [0] [(1,.obj [pI q.fn,pI 0,pI 0,pI 0,pI 0,pNil,PV.ref 2 0 none,p16 0,p16 0,pNil])] rfl rfl rfl rfl rfl (s_load_ptr1 tab_43 rfl rfl rfl rfl rfl ⟨rfl,rfl,rfl⟩) ⟨rfl,trivial⟩ rfl ?_
    refine d_op ?_
    refine x_run0 [(5,PV.ptr 0 0)] [] rfl rfl rfl rfl (s_move rfl ⟨rfl,rfl,rfl⟩) ?_
    refine d_op ?_
    refine xT [(73,PV.ptr 0 0)] [2] [(0,.obj [pS 1 false encI L,pN ap])] [(0,.obj [pS 1 false encI L,pN (tStep L ap 65536)])] [(1,.obj [pI q.fn,pI 0,pI 0,pI 0,pI 0,pNil,PV.ref 2 0 none,p16 0,p16 0,pNil]),(2,oB true 1 enc16 os),(3,.obj (cRequest q)),(4,.obj [pI 0,pI 0,pI 0,pI 0,pI 0,pNil,pNil,p16 0,p16 0,pNil])] rfl rfl rfl rfl rfl (s_callX (r2 := pI (tNext L ap 65536)) (nx1 := 5) (H2 := [(0,.obj [pS 1 false encI L,pN ap])]) (H3 := [(0,.obj [pS 1 false encI L,pN (tStep L ap 65536)])]) [0] [.obj [pS 1 false encI L,pN ap]] rfl rfl rfl (handed_of (by decide) ⟨rfl,trivial⟩) rfl rfl rfl rfl rfl rfl (w_burgagekeep_Tape_Next L false ap 65536 (by omega) (by omega)) rfl (dist_of rfl) rfl rfl rfl rfl ⟨rfl,rfl,rfl⟩) rfl rfl ?_
    refine d_op ?_
    refine x_run0 [(74,pI (tNext L ap 65536))] [2,3] rfl rfl rfl rfl (s_cv16 tab_3 tab_44 rfl rfl rfl ⟨rfl,rfl,rfl⟩) ?_
    refine d_op ?_
    refine xT [(75,p16 (u16I (tNext L ap 65536)))] [2,3,4] [] [(5,oB true 1 enc16 [u16I (tNext L ap 65536)])] [(0,.obj [pS 1 false encI L,pN (tStep L ap 65536)]),(1,.obj [pI q.fn,pI 0,pI 0,pI 0,pI 0,pNil,PV.ref 2 0 none,p16 0,p16 0,pNil]),(2,oB true 1 enc16 os),(3,.obj (cRequest q)),(4,.obj [pI 0,pI 0,pI 0,pI 0,pI 0,pNil,pNil,p16 0,p16 0,pNil])] rfl rfl rfl rfl rfl (s_mkM (f := enc16) [u16I (tNext L ap 65536)] tab_43 rfl tab_44 ⟨rfl,by decide⟩ (by decide) rfl rfl rfl rfl ⟨rfl,rfl,rfl⟩) rfl rfl ?_
    refine d_op ?_
    refine x_run [(72,PV.ref 2 0 none),(76,PV.ref 5 0 none)] [0,1,2,3,4,5] [(5,oB true 1 enc16 [u16I (tNext L ap 65536)])] [(2,oB true 1 enc16 os)] [(6,oB true 1 enc16 (os ++ [u16I (tNext L ap 65536)])),(5,oB true 1 enc16 [u16I (tNext L ap 65536)])] [(6,oB true 1 enc16 (os ++ [u16I (tNext L ap 65536)]))] [(6,oB true 1 enc16 (os ++ [u16I (tNext L ap 65536)])),(5,oB true 1 enc16 [u16I (tNext L ap 65536)]),(0,.obj [pS 1 false encI L,pN (tStep L ap 65536)]),(1,.obj [pI q.fn,pI 0,pI 0,pI 0,pI 0,pNil,PV.ref 2 0 none,p16 0,p16 0,pNil]),(3,.obj (cRequest q)),(4,.obj [pI 0,pI 0,pI 0,pI 0,pI 0,pNil,pNil,p16 0,p16 0,pNil])] rfl rfl rfl rfl rfl rfl (s_appR0 (f := enc16) (l := os) (xs := [u16I (tNext L ap 65536)]) tab_43 rfl tab_44 ⟨rfl,by decide,by decide⟩ (srcM tab_43 rfl (hM_ref0 (f := enc16) rfl rfl)) rfl rfl (by (simp; omega)) ⟨rfl,rfl,rfl⟩) rfl ⟨rfl,trivial⟩ rfl rfl ?_
    refine d_op ?_
    refine x_run0 [(6,PV.ptr 1 0)] [0,1,2,3,4,5,6] rfl rfl rfl rfl (s_fa_ptr tab_53 rfl rfl tab_43 (by decide) rfl ⟨rfl,rfl,rfl⟩) ?_
    refine d_op ?_
    refine xT [(78,PV.ptr 1 6),(77,PV.ref 6 0 none)] [0,1,2,3,4,5,6,7] [(1,.obj [pI q.fn,pI 0,pI 0,pI 0,pI 0,pNil,PV.ref 2 0 none,p16 0,p16 0,pNil])] [(1,.obj [pI q.fn,pI 0,pI 0,pI 0,pI 0,pNil,PV.ref 6 0 none,p16 0,p16 0,pNil])] [(6,oB true 1 enc16 (os ++ [u16I (tNext L ap 65536)])),(5,oB true 1 enc16 [u16I (tNext L ap 65536)]),(0,.obj [pS 1 false encI L,pN (tStep L ap 65536)]),(3,.obj (cRequest q)),(4,.obj [pI 0,pI 0,pI 0,pI 0,pI 0,pNil,pNil,p16 0,p16 0,pNil])] rfl rfl rfl rfl rfl (s_store_ptr tab_43 rfl rfl rfl rfl rfl (Nat.le_of_ble_eq_true rfl) ⟨rfl,rfl,rfl⟩) rfl rfl ?_
    refine d_end ⟨by kernel_rfl, ?_⟩
    refine q_block ?_
    refine q_then ?_
    refine w_R ?_
    refine qm hnt rfl rfl ?_
    refine qo hnt rfl (s_addN (a := i) (b := 1) rfl rfl (by omega) (by omega) (by omega) ?_)
    refine qa hnt rfl rfl ?_
    refine r_end ?_
    refine q_then ?_
    refine ⟨(tStep L ap 65536),(os ++ [u16I (tNext L ap 65536)]),(i + 1), ?_, ?_,⟨[(0,0),(1,1),(2,6),(3,3),(4,4)],by rw [hk]; decide,⟨⟨_,rfl,rfl,rfl⟩,⟨_,rfl,rfl,rfl⟩,⟨_,rfl,rfl,rfl⟩,⟨_,rfl,rfl,rfl⟩,⟨_,rfl,rfl,rfl⟩,trivial⟩,⟨⟨_,_,rfl,rfl,rfl,rfl⟩,⟨_,_,rfl,rfl,rfl,rfl⟩,⟨_,_,rfl,rfl,rfl,rfl⟩,⟨_,_,rfl,rfl,rfl,rfl⟩,⟨_,_,rfl,rfl,rfl,rfl⟩,trivial⟩,by rw [hk]; decide⟩⟩
    ·
     exact ⟨by omega,tRow_1 u16I 65536 L _ i hos hap,tRow_2 u16I 65536 L _ i hap⟩
    · omega
   have c11_ := c11
   try simp only [sB] at c11
   refine w_exit ?_
   refine q_then_exit ?_
   refine q_then_exit ?_
   refine q_block_exit ?_
   refine q_block ?_
   refine q_then ?_
   refine w_seq ?_
   refine w_R ?_
   refine qo hnt rfl (s_load_ptr tab_53 rfl rfl rfl (Nat.le_of_ble_eq_true rfl) ?_)
   refine qo hnt rfl (s_store_ptr tab_53 rfl rfl rfl rfl rfl (Nat.le_of_ble_eq_true rfl) ?_)
   refine r_set [(4,PV.ptr 4 0)] [(4,.obj [pI q.fn,pI 0,pI 0,pI 0,pI 0,pNil,PV.ref 2 0 none,p16 0,p16 0,pNil]),(0,.obj [pS 1 false encI L,pN ap]),(1,.obj [pI q.fn,pI 0,pI 0,pI 0,pI 0,pNil,PV.ref 2 0 none,p16 0,p16 0,pNil]),(2,oB true 1 enc16 os),(3,.obj (cRequest q))] 5 ⟨rfl,trivial⟩ rfl rfl ?_
   refine r_end ?_
   refine q_then ?_
   refine w_frzC (n := 4) (j := 6) rfl rfl rfl rfl ?_
   have hz10 : os = R.vals := by ((rw [hR,madeR_3 h1 (by omega) hos (by omega)]; done))
   refine w_leO (n := 4) (ds := [pI q.fn,pI 0,pI 0,pI 0,pI 0,pNil,pS 1 false enc16 R.vals,p16 0,p16 0,pNil]) rfl ⟨le_refl _,le_refl _,le_refl _,le_refl _,le_refl _,le_refl _,le_of_eq (congrArg (fun z => pS 1 false enc16 z) hz10),le_refl _,le_refl _,le_refl _,trivial⟩ ?_
   have hz11 : q.fn = R.fn ∧ 0 = R.code ∧ 0 = R.at_ ∧ 0 = R.count ∧ 0 = R.sub ∧ ([] : List Bool) = R.bits ∧ 0 = R.and_ ∧ 0 = R.or_ ∧ ([] : List UInt8) = R.data := by refine ⟨?_, ?_, ?_, ?_, ?_, ?_, ?_, ?_, ?_⟩ <;> ((rw [hR,madeR_3 h1 (by omega) hos (by omega)]; done))
   refine w_leO (n := 4) (ds := cReply R) rfl ⟨le_of_eq (congrArg (fun z : Int => pI z) hz11.1),le_of_eq (congrArg (fun z : Int => pI z) hz11.2.1),le_of_eq (congrArg (fun z : Int => pI z) hz11.2.2.1),le_of_eq (congrArg (fun z : Int => pI z) hz11.2.2.2.1),le_of_eq (congrArg (fun z : Int => pI z) hz11.2.2.2.2.1),le_tr (le_nilS 1 false) (le_of_eq (congrArg (fun z => pS 1 false encBo z) hz11.2.2.2.2.2.1)),le_refl _,le_of_eq (congrArg (fun z : UInt16 => p16 z) hz11.2.2.2.2.2.2.1),le_of_eq (congrArg (fun z : UInt16 => p16 z) hz11.2.2.2.2.2.2.2.1),le_tr (le_nilS 1 false) (le_of_eq (congrArg (fun z => pS 1 false enc8 z) hz11.2.2.2.2.2.2.2.2)),trivial⟩ ?_
   refine w_ret ?_
   exact fin_plain (ret_cell tab_53 (by decide) rfl rfl (Nat.le_of_ble_eq_true rfl) rfl ret_nil) rfl rfl ⟨rfl,rfl,rfl⟩
 have c10_ := c10
 try simp only [sB] at c10
 refine w_seq ?_
 refine w_seq ?_
 refine w_R ?_
 refine qo hnt rfl (s_eql rfl rfl ?_)
 refine qa hnt rfl rfl ?_
 refine r_end ?_
 refine q_then ?_
 refine w_if rfl (fun c12 => ?_) (fun c12 => ?_)
 ·
  have c12_ := c12
  try simp only [sB] at c12
  refine w_skip ?_
  refine q_then ?_
  refine w_if rfl (fun _ => ?_) (fun e => absurd (e.symm.trans c12_) (by decide))
  refine W_drawn tabOk mixed hnt [[],[0],[],[2],[0,1],[0,1,4],[0,1,2,3,4,5],[0,1,2,3,4,5,6]] (by kernel_rfl) ?_
  refine d_op ?_
  refine x_run0 [(3,PV.ptr 0 0)] [] rfl rfl rfl rfl (s_fa_ptr tab_46 rfl rfl tab_3 (by decide) rfl ⟨rfl,rfl,rfl⟩) ?_
  refine d_op ?_
  refine xL [(82,PV.ptr 0 1)] [0] [(0,.obj (cRequest q))] rfl rfl rfl rfl rfl (s_load_ptr1 tab_3 rfl rfl rfl rfl rfl ⟨rfl,rfl,rfl⟩) ⟨rfl,trivial⟩ rfl ?_
  refine d_op ?_
  refine x_run0 [(3,PV.ptr 0 0)] [] rfl rfl rfl rfl (s_fa_ptr tab_46 rfl rfl tab_3 (by decide) rfl ⟨rfl,rfl,rfl⟩) ?_
  refine d_op ?_
  refine xL [(84,PV.ptr 0 2)] [2] [(0,.obj (cRequest q))] rfl rfl rfl rfl rfl (s_load_ptr1 tab_3 rfl rfl rfl rfl rfl ⟨rfl,rfl,rfl⟩) ⟨rfl,trivial⟩ rfl ?_
  refine d_op ?_
  refine x_run0 [(6,PV.ptr 3 0)] [0,1] rfl rfl rfl rfl (s_fa_ptr tab_53 rfl rfl tab_3 (by decide) rfl ⟨rfl,rfl,rfl⟩) ?_
  refine d_op ?_
  refine xT [(86,PV.ptr 3 2),(83,pI q.at_)] [0,1,4] [(3,.obj [pI q.fn,pI 0,pI 0,pI 0,pI 0,pNil,pNil,p16 0,p16 0,pNil])] [(3,.obj [pI q.fn,pI 0,pI q.at_,pI 0,pI 0,pNil,pNil,p16 0,p16 0,pNil])] [(2,.obj [pS 1 false encI L,pN (tStep L 0 5)]),(1,.obj [pI 0,pI 0,pI 0,pI 0,pI 0,pNil,pNil,p16 0,p16 0,pNil]),(0,.obj (cRequest q))] rfl rfl rfl rfl rfl (s_store_ptr tab_3 rfl rfl rfl rfl rfl (Nat.le_of_ble_eq_true rfl) ⟨rfl,rfl,rfl⟩) rfl rfl ?_
  refine d_op ?_
  refine x_run0 [(6,PV.ptr 3 0)] [0,1,2,3,4,5] rfl rfl rfl rfl (s_fa_ptr tab_53 rfl rfl tab_3 (by decide) rfl ⟨rfl,rfl,rfl⟩) ?_
  refine d_op ?_
  refine xT [(87,PV.ptr 3 3),(85,pI q.count)] [0,1,2,3,4,5,6] [(3,.obj [pI q.fn,pI 0,pI q.at_,pI 0,pI 0,pNil,pNil,p16 0,p16 0,pNil])] [(3,.obj [pI q.fn,pI 0,pI q.at_,pI q.count,pI 0,pNil,pNil,p16 0,p16 0,pNil])] [(2,.obj [pS 1 false encI L,pN (tStep L 0 5)]),(1,.obj [pI 0,pI 0,pI 0,pI 0,pI 0,pNil,pNil,p16 0,p16 0,pNil]),(0,.obj (cRequest q))] rfl rfl rfl rfl rfl (s_store_ptr tab_3 rfl rfl rfl rfl rfl (Nat.le_of_ble_eq_true rfl) ⟨rfl,rfl,rfl⟩) rfl rfl ?_
  refine d_end ⟨by kernel_rfl, ?_⟩
  refine q_block ?_
  refine q_then ?_
  refine w_seq ?_
  refine w_R ?_
  refine qo hnt rfl (s_load_ptr tab_53 rfl rfl rfl (Nat.le_of_ble_eq_true rfl) ?_)
  refine qo hnt rfl (s_store_ptr tab_53 rfl rfl rfl rfl rfl (Nat.le_of_ble_eq_true rfl) ?_)
  refine r_set [(4,PV.ptr 1 0)] [(1,.obj [pI q.fn,pI 0,pI q.at_,pI q.count,pI 0,pNil,pNil,p16 0,p16 0,pNil]),(3,.obj [pI q.fn,pI 0,pI q.at_,pI q.count,pI 0,pNil,pNil,p16 0,p16 0,pNil]),(2,.obj [pS 1 false encI L,pN (tStep L 0 5)]),(0,.obj (cRequest q))] 4 ⟨rfl,trivial⟩ rfl rfl ?_
  refine r_end ?_
  refine q_then ?_
  have hz12 : q.fn = R.fn ∧ 0 = R.code ∧ q.at_ = R.at_ ∧ q.count = R.count ∧ 0 = R.sub ∧ ([] : List Bool) = R.bits ∧ ([] : List UInt16) = R.vals ∧ 0 = R.and_ ∧ 0 = R.or_ ∧ ([] : List UInt8) = R.data := by refine ⟨?_, ?_, ?_, ?_, ?_, ?_, ?_, ?_, ?_, ?_⟩ <;> ((rw [hR,madeR_15 h1 (by omega)]; done))
  refine w_leO (n := 1) (ds := cReply R) rfl ⟨le_of_eq (congrArg (fun z : Int => pI z) hz12.1),le_of_eq (congrArg (fun z : Int => pI z) hz12.2.1),le_of_eq (congrArg (fun z : Int => pI z) hz12.2.2.1),le_of_eq (congrArg (fun z : Int => pI z) hz12.2.2.2.1),le_of_eq (congrArg (fun z : Int => pI z) hz12.2.2.2.2.1),le_tr (le_nilS 1 false) (le_of_eq (congrArg (fun z => pS 1 false encBo z) hz12.2.2.2.2.2.1)),le_tr (le_nilS 1 false) (le_of_eq (congrArg (fun z => pS 1 false enc16 z) hz12.2.2.2.2.2.2.1)),le_of_eq (congrArg (fun z : UInt16 => p16 z) hz12.2.2.2.2.2.2.2.1),le_of_eq (congrArg (fun z : UInt16 => p16 z) hz12.2.2.2.2.2.2.2.2.1),le_tr (le_nilS 1 false) (le_of_eq (congrArg (fun z => pS 1 false enc8 z) hz12.2.2.2.2.2.2.2.2.2)),trivial⟩ ?_
  refine w_ret ?_
  exact fin_plain (ret_cell tab_53 (by decide) rfl rfl (Nat.le_of_ble_eq_true rfl) rfl ret_nil) rfl rfl ⟨rfl,rfl,rfl⟩
 have c12_ := c12
 try simp only [sB] at c12
 refine w_R ?_
 refine qo hnt rfl (s_eql rfl rfl ?_)
 refine qa hnt rfl rfl ?_
 refine r_end ?_
 refine q_then ?_
 refine w_if rfl (fun c13 => ?_) (fun c13 => ?_)
 ·
  have c13_ := c13
  try simp only [sB] at c13
  refine W_drawn tabOk mixed hnt [[],[0],[],[2],[0,1],[0,1,4],[0,1,2,3,4,5],[0,1,2,3,4,5,6]] (by kernel_rfl) ?_
  refine d_op ?_
  refine x_run0 [(3,PV.ptr 0 0)] [] rfl rfl rfl rfl (s_fa_ptr tab_46 rfl rfl tab_3 (by decide) rfl ⟨rfl,rfl,rfl⟩) ?_
  refine d_op ?_
  refine xL [(82,PV.ptr 0 1)] [0] [(0,.obj (cRequest q))] rfl rfl rfl rfl rfl (s_load_ptr1 tab_3 rfl rfl rfl rfl rfl ⟨rfl,rfl,rfl⟩) ⟨rfl,trivial⟩ rfl ?_
  refine d_op ?_
  refine x_run0 [(3,PV.ptr 0 0)] [] rfl rfl rfl rfl (s_fa_ptr tab_46 rfl rfl tab_3 (by decide) rfl ⟨rfl,rfl,rfl⟩) ?_
  refine d_op ?_
  refine xL [(84,PV.ptr 0 2)] [2] [(0,.obj (cRequest q))] rfl rfl rfl rfl rfl (s_load_ptr1 tab_3 rfl rfl rfl rfl rfl ⟨rfl,rfl,rfl⟩) ⟨rfl,trivial⟩ rfl ?_
  refine d_op ?_
  refine x_run0 [(6,PV.ptr 3 0)] [0,1] rfl rfl rfl rfl (s_fa_ptr tab_53 rfl rfl tab_3 (by decide) rfl ⟨rfl,rfl,rfl⟩) ?_
  refine d_op ?_
  refine xT [(86,PV.ptr 3 2),(83,pI q.at_)] [0,1,4] [(3,.obj [pI q.fn,pI 0,pI 0,pI 0,pI 0,pNil,pNil,p16 0,p16 0,pNil])] [(3,.obj [pI q.fn,pI 0,pI q.at_,pI 0,pI 0,pNil,pNil,p16 0,p16 0,pNil])] [(2,.obj [pS 1 false encI L,pN (tStep L 0 5)]),(1,.obj [pI 0,pI 0,pI 0,pI 0,pI 0,pNil,pNil,p16 0,p16 0,pNil]),(0,.obj (cRequest q))] rfl rfl rfl rfl rfl (s_store_ptr tab_3 rfl rfl rfl rfl rfl (Nat.le_of_ble_eq_true rfl) ⟨rfl,rfl,rfl⟩) rfl rfl ?_
  refine d_op ?_
  refine x_run0 [(6,PV.ptr 3 0)] [0,1,2,3,4,5] rfl rfl rfl rfl (s_fa_ptr tab_53 rfl rfl tab_3 (by decide) rfl ⟨rfl,rfl,rfl⟩) ?_
  refine d_op ?_
  refine xT [(87,PV.ptr 3 3),(85,pI q.count)] [0,1,2,3,4,5,6] [(3,.obj [pI q.fn,pI 0,pI q.at_,pI 0,pI 0,pNil,pNil,p16 0,p16 0,pNil])] [(3,.obj [pI q.fn,pI 0,pI q.at_,pI q.count,pI 0,pNil,pNil,p16 0,p16 0,pNil])] [(2,.obj [pS 1 false encI L,pN (tStep L 0 5)]),(1,.obj [pI 0,pI 0,pI 0,pI 0,pI 0,pNil,pNil,p16 0,p16 0,pNil]),(0,.obj (cRequest q))] rfl rfl rfl rfl rfl (s_store_ptr tab_3 rfl rfl rfl rfl rfl (Nat.le_of_ble_eq_true rfl) ⟨rfl,rfl,rfl⟩) rfl rfl ?_
  refine d_end ⟨by kernel_rfl, ?_⟩
  refine q_block ?_
  refine q_then ?_
  refine w_seq ?_
  refine w_R ?_
  refine qo hnt rfl (s_load_ptr tab_53 rfl rfl rfl (Nat.le_of_ble_eq_true rfl) ?_)
  refine qo hnt rfl (s_store_ptr tab_53 rfl rfl rfl rfl rfl (Nat.le_of_ble_eq_true rfl) ?_)
  refine r_set [(4,PV.ptr 1 0)] [(1,.obj [pI q.fn,pI 0,pI q.at_,pI q.count,pI 0,pNil,pNil,p16 0,p16 0,pNil]),(3,.obj [pI q.fn,pI 0,pI q.at_,pI q.count,pI 0,pNil,pNil,p16 0,p16 0,pNil]),(2,.obj [pS 1 false encI L,pN (tStep L 0 5)]),(0,.obj (cRequest q))] 4 ⟨rfl,trivial⟩ rfl rfl ?_
  refine r_end ?_
  refine q_then ?_
  have hz13 : q.fn = R.fn ∧ 0 = R.code ∧ q.at_ = R.at_ ∧ q.count = R.count ∧ 0 = R.sub ∧ ([] : List Bool) = R.bits ∧ ([] : List UInt16) = R.vals ∧ 0 = R.and_ ∧ 0 = R.or_ ∧ ([] : List UInt8) = R.data := by refine ⟨?_, ?_, ?_, ?_, ?_, ?_, ?_, ?_, ?_, ?_⟩ <;> ((rw [hR,madeR_15 h1 (by omega)]; done))
  refine w_leO (n := 1) (ds := cReply R) rfl ⟨le_of_eq (congrArg (fun z : Int => pI z) hz13.1),le_of_eq (congrArg (fun z : Int => pI z) hz13.2.1),le_of_eq (congrArg (fun z : Int => pI z) hz13.2.2.1),le_of_eq (congrArg (fun z : Int => pI z) hz13.2.2.2.1),le_of_eq (congrArg (fun z : Int => pI z) hz13.2.2.2.2.1),le_tr (le_nilS 1 false) (le_of_eq (congrArg (fun z => pS 1 false encBo z) hz13.2.2.2.2.2.1)),le_tr (le_nilS 1 false) (le_of_eq (congrArg (fun z => pS 1 false enc16 z) hz13.2.2.2.2.2.2.1)),le_of_eq (congrArg (fun z : UInt16 => p16 z) hz13.2.2.2.2.2.2.2.1),le_of_eq (congrArg (fun z : UInt16 => p16 z) hz13.2.2.2.2.2.2.2.2.1),le_tr (le_nilS 1 false) (le_of_eq (congrArg (fun z => pS 1 false enc8 z) hz13.2.2.2.2.2.2.2.2.2)),trivial⟩ ?_
  refine w_ret ?_
  exact fin_plain (ret_cell tab_53 (by decide) rfl rfl (Nat.le_of_ble_eq_true rfl) rfl ret_nil) rfl rfl ⟨rfl,rfl,rfl⟩
 have c13_ := c13
 try simp only [sB] at c13
 refine w_seq ?_
 refine w_R ?_
 refine qo hnt rfl (s_eql rfl rfl ?_)
 refine qa hnt rfl rfl ?_
 refine r_end ?_
 refine q_then ?_
 refine w_if rfl (fun c14 => ?_) (fun c14 => ?_)
 ·
  have c14_ := c14
  try simp only [sB] at c14
  refine w_R ?_
  refine qm hnt rfl rfl ?_
  refine qo hnt rfl (s_callX (r2 := pS 1 false enc8 ((tBytes L (tStep L 0 5) 6).1)) (nx1 := 4) (H2 := [(2,.obj [pS 1 false encI L,pN (tStep L 0 5)]),(3,.obj [pI q.fn,pI 0,pI 0,pI 0,pI 0,pNil,pNil,p16 0,p16 0,pNil]),(1,.obj [pI 0,pI 0,pI 0,pI 0,pI 0,pNil,pNil,p16 0,p16 0,pNil]),(0,.obj (cRequest q))]) (H3 := [(2,.obj [pS 1 false encI L,pN ((tBytes L (tStep L 0 5) 6).2)]),(3,.obj [pI q.fn,pI 0,pI 0,pI 0,pI 0,pNil,pNil,p16 0,p16 0,pNil]),(1,.obj [pI 0,pI 0,pI 0,pI 0,pI 0,pNil,pNil,p16 0,p16 0,pNil]),(0,.obj (cRequest q))]) [2] [.obj [pS 1 false encI L,pN (tStep L 0 5)]] rfl rfl rfl (handed_of (by decide) ⟨rfl,trivial⟩) rfl rfl rfl rfl rfl rfl (w_burgagekeep_Tape_Bytes_d L false (tStep L 0 5) 6 (by omega) (by omega)) rfl (dist_of rfl) rfl rfl rfl rfl ?_)
  refine qo hnt rfl (s_fa_ptr tab_53 rfl rfl tab_51 (by decide) rfl ?_)
  refine qo hnt rfl (s_store_ptr tab_51 rfl rfl rfl rfl rfl (Nat.le_of_ble_eq_true rfl) ?_)
  refine r_set [(4,PV.ptr 1 0),(6,PV.ptr 3 0)] [(3,.obj [pI q.fn,pI 0,pI 0,pI 0,pI 0,pNil,pNil,p16 0,p16 0,pS 1 false enc8 ((tBytes L (tStep L 0 5) 6).1)]),(2,.obj [pS 1 false encI L,pN ((tBytes L (tStep L 0 5) 6).2)]),(1,.obj [pI 0,pI 0,pI 0,pI 0,pI 0,pNil,pNil,p16 0,p16 0,pNil]),(0,.obj (cRequest q))] 4 ⟨rfl,rfl,trivial⟩ rfl rfl ?_
  refine r_end ?_
  refine q_block ?_
  refine q_then ?_
  refine w_seq ?_
  refine w_R ?_
  refine qo hnt rfl (s_load_ptr tab_53 rfl rfl rfl (Nat.le_of_ble_eq_true rfl) ?_)
  refine qo hnt rfl (s_store_ptr tab_53 rfl rfl rfl rfl rfl (Nat.le_of_ble_eq_true rfl) ?_)
  refine r_set [(4,PV.ptr 1 0)] [(1,.obj [pI q.fn,pI 0,pI 0,pI 0,pI 0,pNil,pNil,p16 0,p16 0,pS 1 false enc8 ((tBytes L (tStep L 0 5) 6).1)]),(3,.obj [pI q.fn,pI 0,pI 0,pI 0,pI 0,pNil,pNil,p16 0,p16 0,pS 1 false enc8 ((tBytes L (tStep L 0 5) 6).1)]),(2,.obj [pS 1 false encI L,pN ((tBytes L (tStep L 0 5) 6).2)]),(0,.obj (cRequest q))] 4 ⟨rfl,trivial⟩ rfl rfl ?_
  refine r_end ?_
  refine q_then ?_
  have hz14 : q.fn = R.fn ∧ 0 = R.code ∧ 0 = R.at_ ∧ 0 = R.count ∧ 0 = R.sub ∧ ([] : List Bool) = R.bits ∧ ([] : List UInt16) = R.vals ∧ 0 = R.and_ ∧ 0 = R.or_ ∧ ((tBytes L (tStep L 0 5) 6).1) = R.data := by refine ⟨?_, ?_, ?_, ?_, ?_, ?_, ?_, ?_, ?_, ?_⟩ <;> ((rw [hR,madeR_17 h1 (by omega)]; done))
  refine w_leO (n := 1) (ds := cReply R) rfl ⟨le_of_eq (congrArg (fun z : Int => pI z) hz14.1),le_of_eq (congrArg (fun z : Int => pI z) hz14.2.1),le_of_eq (congrArg (fun z : Int => pI z) hz14.2.2.1),le_of_eq (congrArg (fun z : Int => pI z) hz14.2.2.2.1),le_of_eq (congrArg (fun z : Int => pI z) hz14.2.2.2.2.1),le_tr (le_nilS 1 false) (le_of_eq (congrArg (fun z => pS 1 false encBo z) hz14.2.2.2.2.2.1)),le_tr (le_nilS 1 false) (le_of_eq (congrArg (fun z => pS 1 false enc16 z) hz14.2.2.2.2.2.2.1)),le_of_eq (congrArg (fun z : UInt16 => p16 z) hz14.2.2.2.2.2.2.2.1),le_of_eq (congrArg (fun z : UInt16 => p16 z) hz14.2.2.2.2.2.2.2.2.1),le_of_eq (congrArg (fun z => pS 1 false enc8 z) hz14.2.2.2.2.2.2.2.2.2),trivial⟩ ?_
  refine w_ret ?_
  exact fin_plain (ret_cell tab_53 (by decide) rfl rfl (Nat.le_of_ble_eq_true rfl) rfl ret_nil) rfl rfl ⟨rfl,rfl,rfl⟩
 have c14_ := c14
 try simp only [sB] at c14
 refine W_drawn tabOk mixed hnt [[],[0],[],[2],[],[4],[],[6],[],[8],[],[10],[0,1],[0,1,12],[0,1,2,3,12,13],[0,1,2,3,12,13,14],[0,1,2,3,4,5,12,13,14,15],[0,1,2,3,4,5,12,13,14,15,16],[0,1,2,3,4,5,6,7,12,13,14,15,16,17],[0,1,2,3,4,5,6,7,12,13,14,15,16,17,18],[0,1,2,3,4,5,6,7,8,9,12,13,14,15,16,17,18,19],[0,1,2,3,4,5,6,7,8,9,12,13,14,15,16,17,18,19,20],[0,1,2,3,4,5,6,7,8,9,10,11,12,13,14,15,16,17,18,19,20,21],[0,1,2,3,4,5,6,7,8,9,10,11,12,13,14,15,16,17,18,19,20,21,22]] (by kernel_rfl) ?_
 refine d_op ?_
 refine x_run0 [(3,PV.ptr 0 0)] [] rfl rfl rfl rfl (s_fa_ptr tab_46 rfl rfl tab_3 (by decide) rfl ⟨rfl,rfl,rfl⟩) ?_
 refine d_op ?_
 refine xL [(26,PV.ptr 0 1)] [0] [(0,.obj (cRequest q))] rfl rfl rfl rfl rfl (s_load_ptr1 tab_3 rfl rfl rfl rfl rfl ⟨rfl,rfl,rfl⟩) ⟨rfl,trivial⟩ rfl ?_
 refine d_op ?_
 refine x_run0 [(3,PV.ptr 0 0)] [] rfl rfl rfl rfl (s_fa_ptr tab_46 rfl rfl tab_3 (by decide) rfl ⟨rfl,rfl,rfl⟩) ?_
 refine d_op ?_
 refine xL [(28,PV.ptr 0 4)] [2] [(0,.obj (cRequest q))] rfl rfl rfl rfl rfl (s_load_ptr1 tab_3 rfl rfl rfl rfl rfl ⟨rfl,rfl,rfl⟩) ⟨rfl,trivial⟩ rfl ?_
 refine d_op ?_
 refine x_run0 [(3,PV.ptr 0 0)] [] rfl rfl rfl rfl (s_fa_ptr tab_46 rfl rfl tab_42 (by decide) rfl ⟨rfl,rfl,rfl⟩) ?_
 refine d_op ?_
 refine xL [(30,PV.ptr 0 5)] [4] [(0,.obj (cRequest q))] rfl rfl rfl rfl rfl (s_load_ptr1 tab_42 rfl rfl rfl rfl rfl ⟨rfl,rfl,rfl⟩) ⟨rfl,trivial⟩ rfl ?_
 refine d_op ?_
 refine x_run0 [(3,PV.ptr 0 0)] [] rfl rfl rfl rfl (s_fa_ptr tab_46 rfl rfl tab_43 (by decide) rfl ⟨rfl,rfl,rfl⟩) ?_
 refine d_op ?_
 refine xL [(32,PV.ptr 0 6)] [6] [(0,.obj (cRequest q))] rfl rfl rfl rfl rfl (s_load_ptr1 tab_43 rfl rfl rfl rfl rfl ⟨rfl,rfl,rfl⟩) ⟨rfl,trivial⟩ rfl ?_
 refine d_op ?_
 refine x_run0 [(3,PV.ptr 0 0)] [] rfl rfl rfl rfl (s_fa_ptr tab_46 rfl rfl tab_44 (by decide) rfl ⟨rfl,rfl,rfl⟩) ?_
 refine d_op ?_
 refine xL [(34,PV.ptr 0 7)] [8] [(0,.obj (cRequest q))] rfl rfl rfl rfl rfl (s_load_ptr1 tab_44 rfl rfl rfl rfl rfl ⟨rfl,rfl,rfl⟩) ⟨rfl,trivial⟩ rfl ?_
 refine d_op ?_
 refine x_run0 [(3,PV.ptr 0 0)] [] rfl rfl rfl rfl (s_fa_ptr tab_46 rfl rfl tab_44 (by decide) rfl ⟨rfl,rfl,rfl⟩) ?_
 refine d_op ?_
 refine xL [(36,PV.ptr 0 8)] [10] [(0,.obj (cRequest q))] rfl rfl rfl rfl rfl (s_load_ptr1 tab_44 rfl rfl rfl rfl rfl ⟨rfl,rfl,rfl⟩) ⟨rfl,trivial⟩ rfl ?_
 refine d_op ?_
 refine x_run0 [(6,PV.ptr 3 0)] [0,1] rfl rfl rfl rfl (s_fa_ptr tab_53 rfl rfl tab_3 (by decide) rfl ⟨rfl,rfl,rfl⟩) ?_
 refine d_op ?_
 refine xT [(38,PV.ptr 3 2),(27,pI q.at_)] [0,1,12] [(3,.obj [pI q.fn,pI 0,pI 0,pI 0,pI 0,pNil,pNil,p16 0,p16 0,pNil])] [(3,.obj [pI q.fn,pI 0,pI q.at_,pI 0,pI 0,pNil,pNil,p16 0,p16 0,pNil])] [(2,.obj [pS 1 false encI L,pN (tStep L 0 5)]),(1,.obj [pI 0,pI 0,pI 0,pI 0,pI 0,pNil,pNil,p16 0,p16 0,pNil]),(0,.obj (cRequest q))] rfl rfl rfl rfl rfl (s_store_ptr tab_3 rfl rfl rfl rfl rfl (Nat.le_of_ble_eq_true rfl) ⟨rfl,rfl,rfl⟩) rfl rfl ?_
 refine d_op ?_
 refine x_run0 [(6,PV.ptr 3 0)] [0,1,2,3,12,13] rfl rfl rfl rfl (s_fa_ptr tab_53 rfl rfl tab_3 (by decide) rfl ⟨rfl,rfl,rfl⟩) ?_
 refine d_op ?_
 refine xT [(39,PV.ptr 3 4),(29,pI q.sub)] [0,1,2,3,12,13,14] [(3,.obj [pI q.fn,pI 0,pI q.at_,pI 0,pI 0,pNil,pNil,p16 0,p16 0,pNil])] [(3,.obj [pI q.fn,pI 0,pI q.at_,pI 0,pI q.sub,pNil,pNil,p16 0,p16 0,pNil])] [(2,.obj [pS 1 false encI L,pN (tStep L 0 5)]),(1,.obj [pI 0,pI 0,pI 0,pI 0,pI 0,pNil,pNil,p16 0,p16 0,pNil]),(0,.obj (cRequest q))] rfl rfl rfl rfl rfl (s_store_ptr tab_3 rfl rfl rfl rfl rfl (Nat.le_of_ble_eq_true rfl) ⟨rfl,rfl,rfl⟩) rfl rfl ?_
 refine d_op ?_
 refine x_run0 [(6,PV.ptr 3 0)] [0,1,2,3,4,5,12,13,14,15] rfl rfl rfl rfl (s_fa_ptr tab_53 rfl rfl tab_42 (by decide) rfl ⟨rfl,rfl,rfl⟩) ?_
 refine d_op ?_
 refine xT [(40,PV.ptr 3 5),(31,pS 1 false encBo q.bits)] [0,1,2,3,4,5,12,13,14,15,16] [(3,.obj [pI q.fn,pI 0,pI q.at_,pI 0,pI q.sub,pNil,pNil,p16 0,p16 0,pNil])] [(3,.obj [pI q.fn,pI 0,pI q.at_,pI 0,pI q.sub,pS 1 false encBo q.bits,pNil,p16 0,p16 0,pNil])] [(2,.obj [pS 1 false encI L,pN (tStep L 0 5)]),(1,.obj [pI 0,pI 0,pI 0,pI 0,pI 0,pNil,pNil,p16 0,p16 0,pNil]),(0,.obj (cRequest q))] rfl rfl rfl rfl rfl (s_store_ptr tab_42 rfl rfl rfl rfl rfl (Nat.le_of_ble_eq_true rfl) ⟨rfl,rfl,rfl⟩) rfl rfl ?_
 refine d_op ?_
 refine x_run0 [(6,PV.ptr 3 0)] [0,1,2,3,4,5,6,7,12,13,14,15,16,17] rfl rfl rfl rfl (s_fa_ptr tab_53 rfl rfl tab_43 (by decide) rfl ⟨rfl,rfl,rfl⟩) ?_
 refine d_op ?_
 refine xT [(41,PV.ptr 3 6),(33,pS 1 false enc16 q.vals)] [0,1,2,3,4,5,6,7,12,13,14,15,16,17,18] [(3,.obj [pI q.fn,pI 0,pI q.at_,pI 0,pI q.sub,pS 1 false encBo q.bits,pNil,p16 0,p16 0,pNil])] [(3,.obj [pI q.fn,pI 0,pI q.at_,pI 0,pI q.sub,pS 1 false encBo q.bits,pS 1 false enc16 q.vals,p16 0,p16 0,pNil])] [(2,.obj [pS 1 false encI L,pN (tStep L 0 5)]),(1,.obj [pI 0,pI 0,pI 0,pI 0,pI 0,pNil,pNil,p16 0,p16 0,pNil]),(0,.obj (cRequest q))] rfl rfl rfl rfl rfl (s_store_ptr tab_43 rfl rfl rfl rfl rfl (Nat.le_of_ble_eq_true rfl) ⟨rfl,rfl,rfl⟩) rfl rfl ?_
 refine d_op ?_
 refine x_run0 [(6,PV.ptr 3 0)] [0,1,2,3,4,5,6,7,8,9,12,13,14,15,16,17,18,19] rfl rfl rfl rfl (s_fa_ptr tab_53 rfl rfl tab_44 (by decide) rfl ⟨rfl,rfl,rfl⟩) ?_
 refine d_op ?_
 refine xT [(42,PV.ptr 3 7),(35,p16 q.and_)] [0,1,2,3,4,5,6,7,8,9,12,13,14,15,16,17,18,19,20] [(3,.obj [pI q.fn,pI 0,pI q.at_,pI 0,pI q.sub,pS 1 false encBo q.bits,pS 1 false enc16 q.vals,p16 0,p16 0,pNil])] [(3,.obj [pI q.fn,pI 0,pI q.at_,pI 0,pI q.sub,pS 1 false encBo q.bits,pS 1 false enc16 q.vals,p16 q.and_,p16 0,pNil])] [(2,.obj [pS 1 false encI L,pN (tStep L 0 5)]),(1,.obj [pI 0,pI 0,pI 0,pI 0,pI 0,pNil,pNil,p16 0,p16 0,pNil]),(0,.obj (cRequest q))] rfl rfl rfl rfl rfl (s_store_ptr tab_44 rfl rfl rfl rfl rfl (Nat.le_of_ble_eq_true rfl) ⟨rfl,rfl,rfl⟩) rfl rfl ?_
 refine d_op ?_
 refine x_run0 [(6,PV.ptr 3 0)] [0,1,2,3,4,5,6,7,8,9,10,11,12,13,14,15,16,17,18,19,20,21] rfl rfl rfl rfl (s_fa_ptr tab_53 rfl rfl tab_44 (by decide) rfl ⟨rfl,rfl,rfl⟩) ?_
 refine d_op ?_
 refine xT [(43,PV.ptr 3 8),(37,p16 q.or_)] [0,1,2,3,4,5,6,7,8,9,10,11,12,13,14,15,16,17,18,19,20,21,22] [(3,.obj [pI q.fn,pI 0,pI q.at_,pI 0,pI q.sub,pS 1 false encBo q.bits,pS 1 false enc16 q.vals,p16 q.and_,p16 0,pNil])] [(3,.obj [pI q.fn,pI 0,pI q.at_,pI 0,pI q.sub,pS 1 false encBo q.bits,pS 1 false enc16 q.vals,p16 q.and_,p16 q.or_,pNil])] [(2,.obj [pS 1 false encI L,pN (tStep L 0 5)]),(1,.obj [pI 0,pI 0,pI 0,pI 0,pI 0,pNil,pNil,p16 0,p16 0,pNil]),(0,.obj (cRequest q))] rfl rfl rfl rfl rfl (s_store_ptr tab_44 rfl rfl rfl rfl rfl (Nat.le_of_ble_eq_true rfl) ⟨rfl,rfl,rfl⟩) rfl rfl ?_
 refine d_end ⟨by kernel_rfl, ?_⟩
 refine q_block ?_
 refine q_then ?_
 refine w_seq ?_
 refine w_R ?_
 refine qo hnt rfl (s_load_ptr tab_53 rfl rfl rfl (Nat.le_of_ble_eq_true rfl) ?_)
 refine qo hnt rfl (s_store_ptr tab_53 rfl rfl rfl rfl rfl (Nat.le_of_ble_eq_true rfl) ?_)
 refine r_set [(4,PV.ptr 1 0)] [(1,.obj [pI q.fn,pI 0,pI q.at_,pI 0,pI q.sub,pS 1 false encBo q.bits,pS 1 false enc16 q.vals,p16 q.and_,p16 q.or_,pNil]),(3,.obj [pI q.fn,pI 0,pI q.at_,pI 0,pI q.sub,pS 1 false encBo q.bits,pS 1 false enc16 q.vals,p16 q.and_,p16 q.or_,pNil]),(2,.obj [pS 1 false encI L,pN (tStep L 0 5)]),(0,.obj (cRequest q))] 4 ⟨rfl,trivial⟩ rfl rfl ?_
 refine r_end ?_
 refine q_then ?_
 have hz15 : q.fn = R.fn ∧ 0 = R.code ∧ q.at_ = R.at_ ∧ 0 = R.count ∧ q.sub = R.sub ∧ q.bits = R.bits ∧ q.vals = R.vals ∧ q.and_ = R.and_ ∧ q.or_ = R.or_ ∧ ([] : List UInt8) = R.data := by refine ⟨?_, ?_, ?_, ?_, ?_, ?_, ?_, ?_, ?_, ?_⟩ <;> ((rw [hR,madeR_5 h1 (by omega)]; done))
 refine w_leO (n := 1) (ds := cReply R) rfl ⟨le_of_eq (congrArg (fun z : Int => pI z) hz15.1),le_of_eq (congrArg (fun z : Int => pI z) hz15.2.1),le_of_eq (congrArg (fun z : Int => pI z) hz15.2.2.1),le_of_eq (congrArg (fun z : Int => pI z) hz15.2.2.2.1),le_of_eq (congrArg (fun z : Int => pI z) hz15.2.2.2.2.1),le_of_eq (congrArg (fun z => pS 1 false encBo z) hz15.2.2.2.2.2.1),le_of_eq (congrArg (fun z => pS 1 false enc16 z) hz15.2.2.2.2.2.2.1),le_of_eq (congrArg (fun z : UInt16 => p16 z) hz15.2.2.2.2.2.2.2.1),le_of_eq (congrArg (fun z : UInt16 => p16 z) hz15.2.2.2.2.2.2.2.2.1),le_tr (le_nilS 1 false) (le_of_eq (congrArg (fun z => pS 1 false enc8 z) hz15.2.2.2.2.2.2.2.2.2)),trivial⟩ ?_
 refine w_ret ?_
 exact fin_plain (ret_cell tab_53 (by decide) rfl rfl (Nat.le_of_ble_eq_true rfl) rfl ret_nil) rfl rfl ⟨rfl,rfl,rfl⟩
end Go.Proofs.Ytljkbpgcglomfaa
set_option linter.unusedVariables false
set_option linter.unusedSimpArgs false
set_option maxRecDepth 10000
set_option maxHeartbeats 1000000
namespace Go.Proofs.Ytljkbpgcglomfaa
open Go Go.Proofs.Ytljkbpgcglomfaa.Pv
theorem w_burgagelaw4_known   :
    T Try.prog 27 [] 0 [] (Ret (pB true) 0 []) := by
 refine t_fun tabOk (n := 101) (rs := [.tmp 0]) Try.func27 rfl rfl rfl rfl (Nat.le_of_ble_eq_true rfl) ?_
 intro c hnt hk
 refine w_seq ?_
 refine w_R ?_
 refine qa hnt rfl rfl ?_
 refine r_end ?_
 refine q_then ?_
 refine w_seq ?_
 refine w_R ?_
 refine qo hnt rfl (s_callF rfl rfl rfl (w_reply_Refuse 3 2) rfl ?_)
 refine qo hnt rfl (s_callF rfl rfl rfl (w_reply_Bytes (refuseR 3 2) (by decide)) rfl ?_)
 refine qm hnt rfl rfl ?_
 refine qo hnt rfl (s_extract rfl rfl ?_)
 refine qo hnt rfl (s_extract rfl rfl ?_)
 refine qa hnt rfl rfl ?_
 refine qa hnt rfl rfl ?_
 refine r_end ?_
 refine q_then ?_
 refine w_seq ?_
 refine w_R ?_
 refine qm hnt rfl rfl ?_
 refine qo hnt rfl (s_build tab_46 rfl rfl (b_cons rfl tab_3 rfl rfl rfl (Nat.le_of_ble_eq_true rfl) (b_nil ?_)))
 obtain ⟨R1,hR1⟩ : ∃ z : TReply × Int,z = takeWith takeP (layE (refuseR 3 2)) (⟨3,0,0,0,0,[],[],0,0⟩ : TRequest) := ⟨_,rfl⟩
 refine qo hnt rfl (s_callF rfl rfl rfl (T.leL (args := [pS 1 false enc8 (layE (refuseR 3 2)),PV.f (.agg [encI 3,encI 0,encI 0,encI 0,encI 0,FV.v (.slice none 0 0),FV.v (.slice none 0 0),enc16 0,enc16 0])]) (args' := [pS 1 false enc8 (layE (refuseR 3 2)),PV.f (eRequest (⟨3,0,0,0,0,[],[],0,0⟩ : TRequest))]) ⟨le_refl _,⟨le_F (FLe.agg ⟨FLe.refl _,FLe.refl _,FLe.refl _,FLe.refl _,FLe.refl _,FLe.nil 1 false,FLe.nil 1 false,FLe.refl _,FLe.refl _,trivial⟩),trivial⟩⟩ (w_reply_Read (layE (refuseR 3 2)) false (⟨3,0,0,0,0,[],[],0,0⟩ : TRequest) R1 hR1 (by decide +kernel) (by decide +kernel))) rfl ?_)
 refine qm hnt rfl rfl ?_
 refine qo hnt rfl (s_extract rfl rfl ?_)
 refine qo hnt rfl (s_extract rfl rfl ?_)
 refine qo hnt rfl (s_alloc tab_53 ?_)
 refine qo hnt rfl (s_store_ptr tab_53 rfl rfl rfl rfl rfl (Nat.le_of_ble_eq_true rfl) ?_)
 refine qa hnt rfl rfl ?_
 refine r_set [(1,pS 1 false enc8 (layE (refuseR 3 2))),(2,pI (goodR (refuseR 3 2))),(3,PV.ptr 0 0),(4,pI R1.2)] [(0,.obj (cReply R1.1))] 1 ⟨rfl,rfl,rfl,rfl,trivial⟩ rfl rfl ?_
 refine r_end ?_
 refine q_then ?_
 refine w_seq ?_
 have hr1 : R1 = (⟨3,2,0,0,0,[],[],0,0,[]⟩,0) := by rw [hR1]; decide +kernel
 refine w_R ?_
 refine qo hnt rfl (s_build tab_46 rfl rfl (b_nil ?_))
 obtain ⟨R2,hR2⟩ : ∃ z : TReply × Int,z = takeWith takeP [] (⟨0,0,0,0,0,[],[],0,0⟩ : TRequest) := ⟨_,rfl⟩
 refine qo hnt rfl (s_callF rfl rfl rfl (T.leL (args := [pNil,PV.f (.agg [encI 0,encI 0,encI 0,encI 0,encI 0,FV.v (.slice none 0 0),FV.v (.slice none 0 0),enc16 0,enc16 0])]) (args' := [pS 1 false enc8 [],PV.f (eRequest (⟨0,0,0,0,0,[],[],0,0⟩ : TRequest))]) ⟨le_F (FLe.nil 1 false),⟨le_F (FLe.agg ⟨FLe.refl _,FLe.refl _,FLe.refl _,FLe.refl _,FLe.refl _,FLe.nil 1 false,FLe.nil 1 false,FLe.refl _,FLe.refl _,trivial⟩),trivial⟩⟩ (w_reply_Read [] false (⟨0,0,0,0,0,[],[],0,0⟩ : TRequest) R2 hR2 (by decide) (by decide))) rfl ?_)
 refine qm hnt rfl rfl ?_
 refine qo hnt rfl (s_extract rfl rfl ?_)
 refine qo hnt rfl (s_extract rfl rfl ?_)
 refine qo hnt rfl (s_alloc tab_53 ?_)
 refine qo hnt rfl (s_store_ptr tab_53 rfl rfl rfl rfl rfl (Nat.le_of_ble_eq_true rfl) ?_)
 refine qa hnt rfl rfl ?_
 refine r_set [(1,pS 1 false enc8 (layE (refuseR 3 2))),(2,pI (goodR (refuseR 3 2))),(3,PV.ptr 0 0),(4,pI R1.2),(6,pI R2.2)] [(1,.obj (cReply R2.1)),(0,.obj (cReply R1.1))] 2 ⟨rfl,rfl,rfl,rfl,rfl,trivial⟩ rfl rfl ?_
 refine r_end ?_
 refine q_then ?_
 refine w_seq ?_
 have hr2 : R2 = (zeroA,13) := by rw [hR2]; decide +kernel
 refine w_R ?_
 refine qo hnt rfl (s_build tab_53 rfl rfl (b_nil ?_))
 refine qo hnt rfl (s_callF rfl rfl rfl (T.leL (args := [PV.f (.agg [encI 0,encI 0,encI 0,encI 0,encI 0,FV.v (.slice none 0 0),FV.v (.slice none 0 0),enc16 0,enc16 0,FV.v (.slice none 0 0)])]) (args' := [PV.f (eReply (⟨0,0,0,0,0,[],[],0,0,[]⟩ : TReply))]) ⟨le_F (FLe.agg ⟨FLe.refl _,FLe.refl _,FLe.refl _,FLe.refl _,FLe.refl _,FLe.nil 1 false,FLe.nil 1 false,FLe.refl _,FLe.refl _,FLe.nil 1 false,trivial⟩),trivial⟩ (w_reply_Bytes (⟨0,0,0,0,0,[],[],0,0,[]⟩ : TReply) (by decide))) rfl ?_)
 refine qm hnt rfl rfl ?_
 refine qo hnt rfl (s_extract rfl rfl ?_)
 refine qo hnt rfl (s_extract rfl rfl ?_)
 refine qa hnt rfl rfl ?_
 refine qa hnt rfl rfl ?_
 refine r_end ?_
 refine q_then ?_
 refine w_seq ?_
 refine w_R ?_
 refine qo hnt rfl (s_mkM (f := encBo) [true,false,true] tab_42 rfl tab_4 ⟨rfl,by decide⟩ (by decide) rfl rfl rfl rfl ?_)
 refine qo hnt rfl (s_build tab_53 rfl rfl (b_cons rfl tab_3 rfl rfl rfl (Nat.le_of_ble_eq_true rfl) (b_cons rfl tab_42 rfl rfl rfl (Nat.le_of_ble_eq_true rfl) (b_nil ?_))))
 refine qo hnt rfl (s_callX (r2 := PV.tup [pS 1 false enc8 (layE (⟨1,0,0,0,0,[true,false,true],[],0,0,[]⟩ : TReply)),pI (goodR (⟨1,0,0,0,0,[true,false,true],[],0,0,[]⟩ : TReply))]) (nx1 := 3) (H2 := [(2,oB false 1 encBo [true,false,true]),(1,.obj (cReply R2.1)),(0,.obj (cReply R1.1))]) (H3 := [(2,oB false 1 encBo [true,false,true]),(1,.obj (cReply R2.1)),(0,.obj (cReply R1.1))]) [] [] rfl rfl rfl (handed_of (by decide) trivial) rfl rfl rfl rfl rfl rfl (T.leL (args := [PV.f (.agg [encI 1,encI 0,encI 0,encI 0,encI 0,FV.sl 1 false (List.map encBo [true,false,true]),FV.v (.slice none 0 0),enc16 0,enc16 0,FV.v (.slice none 0 0)])]) (args' := [PV.f (eReply (⟨1,0,0,0,0,[true,false,true],[],0,0,[]⟩ : TReply))]) ⟨le_F (FLe.agg ⟨FLe.refl _,FLe.refl _,FLe.refl _,FLe.refl _,FLe.refl _,FLe.refl _,FLe.nil 1 false,FLe.refl _,FLe.refl _,FLe.nil 1 false,trivial⟩),trivial⟩ (w_reply_Bytes (⟨1,0,0,0,0,[true,false,true],[],0,0,[]⟩ : TReply) (by decide))) rfl (dist_of rfl) rfl rfl rfl rfl ?_)
 refine qm hnt rfl rfl ?_
 refine qo hnt rfl (s_extract rfl rfl ?_)
 refine qo hnt rfl (s_extract rfl rfl ?_)
 refine qa hnt rfl rfl ?_
 refine qa hnt rfl rfl ?_
 refine r_set [(1,pS 1 false enc8 (layE (refuseR 3 2))),(2,pI (goodR (refuseR 3 2))),(3,PV.ptr 0 0),(4,pI R1.2),(6,pI R2.2),(8,pI (goodR (⟨0,0,0,0,0,[],[],0,0,[]⟩ : TReply))),(9,pS 1 false enc8 (layE (⟨1,0,0,0,0,[true,false,true],[],0,0,[]⟩ : TReply))),(10,pI (goodR (⟨1,0,0,0,0,[true,false,true],[],0,0,[]⟩ : TReply)))] [(2,oB false 1 encBo [true,false,true]),(1,.obj (cReply R2.1)),(0,.obj (cReply R1.1))] 3 ⟨rfl,rfl,rfl,rfl,rfl,rfl,rfl,rfl,trivial⟩ rfl rfl ?_
 refine r_end ?_
 refine q_then ?_
 refine w_seq ?_
 refine w_R ?_
 refine qm hnt rfl rfl ?_
 refine qo hnt rfl (s_build tab_46 rfl rfl (b_cons rfl tab_3 rfl rfl rfl (Nat.le_of_ble_eq_true rfl) (b_cons rfl tab_3 rfl rfl rfl (Nat.le_of_ble_eq_true rfl) (b_nil ?_))))
 obtain ⟨R3,hR3⟩ : ∃ z : TReply × Int,z = takeWith takeP (layE (⟨1,0,0,0,0,[true,false,true],[],0,0,[]⟩ : TReply)) (⟨1,0,3,0,0,[],[],0,0⟩ : TRequest) := ⟨_,rfl⟩
 refine qo hnt rfl (s_callF rfl rfl rfl (T.leL (args := [pS 1 false enc8 (layE (⟨1,0,0,0,0,[true,false,true],[],0,0,[]⟩ : TReply)),PV.f (.agg [encI 1,encI 0,encI 3,encI 0,encI 0,FV.v (.slice none 0 0),FV.v (.slice none 0 0),enc16 0,enc16 0])]) (args' := [pS 1 false enc8 (layE (⟨1,0,0,0,0,[true,false,true],[],0,0,[]⟩ : TReply)),PV.f (eRequest (⟨1,0,3,0,0,[],[],0,0⟩ : TRequest))]) ⟨le_refl _,⟨le_F (FLe.agg ⟨FLe.refl _,FLe.refl _,FLe.refl _,FLe.refl _,FLe.refl _,FLe.nil 1 false,FLe.nil 1 false,FLe.refl _,FLe.refl _,trivial⟩),trivial⟩⟩ (w_reply_Read (layE (⟨1,0,0,0,0,[true,false,true],[],0,0,[]⟩ : TReply)) false (⟨1,0,3,0,0,[],[],0,0⟩ : TRequest) R3 hR3 (by decide +kernel) (by decide +kernel))) rfl ?_)
 refine qm hnt rfl rfl ?_
 refine qo hnt rfl (s_extract rfl rfl ?_)
 refine qo hnt rfl (s_extract rfl rfl ?_)
 refine qo hnt rfl (s_alloc tab_53 ?_)
 refine qo hnt rfl (s_store_ptr tab_53 rfl rfl rfl rfl rfl (Nat.le_of_ble_eq_true rfl) ?_)
 refine qa hnt rfl rfl ?_
 refine r_set [(1,pS 1 false enc8 (layE (refuseR 3 2))),(2,pI (goodR (refuseR 3 2))),(3,PV.ptr 0 0),(4,pI R1.2),(6,pI R2.2),(8,pI (goodR (⟨0,0,0,0,0,[],[],0,0,[]⟩ : TReply))),(9,pS 1 false enc8 (layE (⟨1,0,0,0,0,[true,false,true],[],0,0,[]⟩ : TReply))),(10,pI (goodR (⟨1,0,0,0,0,[true,false,true],[],0,0,[]⟩ : TReply))),(11,PV.ptr 3 0),(12,pI R3.2)] [(3,.obj (cReply R3.1)),(2,oB false 1 encBo [true,false,true]),(1,.obj (cReply R2.1)),(0,.obj (cReply R1.1))] 4 ⟨rfl,rfl,rfl,rfl,rfl,rfl,rfl,rfl,rfl,rfl,trivial⟩ rfl rfl ?_
 refine r_end ?_
 refine q_then ?_
 refine w_seq ?_
 have hr3 : R3 = (⟨1,0,0,0,0,[true,false,true],[],0,0,[]⟩,0) := by rw [hR3]; decide +kernel
 refine w_R ?_
 refine qm hnt rfl rfl ?_
 refine qo hnt rfl (s_build tab_46 rfl rfl (b_cons rfl tab_3 rfl rfl rfl (Nat.le_of_ble_eq_true rfl) (b_cons rfl tab_3 rfl rfl rfl (Nat.le_of_ble_eq_true rfl) (b_nil ?_))))
 obtain ⟨R4,hR4⟩ : ∃ z : TReply × Int,z = takeWith takeP (layE (⟨1,0,0,0,0,[true,false,true],[],0,0,[]⟩ : TReply)) (⟨1,0,2,0,0,[],[],0,0⟩ : TRequest) := ⟨_,rfl⟩
 refine qo hnt rfl (s_callF rfl rfl rfl (T.leL (args := [pS 1 false enc8 (layE (⟨1,0,0,0,0,[true,false,true],[],0,0,[]⟩ : TReply)),PV.f (.agg [encI 1,encI 0,encI 2,encI 0,encI 0,FV.v (.slice none 0 0),FV.v (.slice none 0 0),enc16 0,enc16 0])]) (args' := [pS 1 false enc8 (layE (⟨1,0,0,0,0,[true,false,true],[],0,0,[]⟩ : TReply)),PV.f (eRequest (⟨1,0,2,0,0,[],[],0,0⟩ : TRequest))]) ⟨le_refl _,⟨le_F (FLe.agg ⟨FLe.refl _,FLe.refl _,FLe.refl _,FLe.refl _,FLe.refl _,FLe.nil 1 false,FLe.nil 1 false,FLe.refl _,FLe.refl _,trivial⟩),trivial⟩⟩ (w_reply_Read (layE (⟨1,0,0,0,0,[true,false,true],[],0,0,[]⟩ : TReply)) false (⟨1,0,2,0,0,[],[],0,0⟩ : TRequest) R4 hR4 (by decide +kernel) (by decide +kernel))) rfl ?_)
 refine qm hnt rfl rfl ?_
 refine qo hnt rfl (s_extract rfl rfl ?_)
 refine qo hnt rfl (s_extract rfl rfl ?_)
 refine qo hnt rfl (s_alloc tab_53 ?_)
 refine qo hnt rfl (s_store_ptr tab_53 rfl rfl rfl rfl rfl (Nat.le_of_ble_eq_true rfl) ?_)
 refine qa hnt rfl rfl ?_
 refine r_set [(1,pS 1 false enc8 (layE (refuseR 3 2))),(2,pI (goodR (refuseR 3 2))),(3,PV.ptr 0 0),(4,pI R1.2),(6,pI R2.2),(8,pI (goodR (⟨0,0,0,0,0,[],[],0,0,[]⟩ : TReply))),(9,pS 1 false enc8 (layE (⟨1,0,0,0,0,[true,false,true],[],0,0,[]⟩ : TReply))),(10,pI (goodR (⟨1,0,0,0,0,[true,false,true],[],0,0,[]⟩ : TReply))),(11,PV.ptr 3 0),(12,pI R3.2),(14,pI R4.2)] [(4,.obj (cReply R4.1)),(3,.obj (cReply R3.1)),(2,oB false 1 encBo [true,false,true]),(1,.obj (cReply R2.1)),(0,.obj (cReply R1.1))] 5 ⟨rfl,rfl,rfl,rfl,rfl,rfl,rfl,rfl,rfl,rfl,rfl,trivial⟩ rfl rfl ?_
 refine r_end ?_
 refine q_then ?_
 refine w_seq ?_
 have hr4 : R4 = (zeroA,12) := by rw [hR4]; decide +kernel
 refine w_R ?_
 refine qm hnt rfl rfl ?_
 refine qo hnt rfl (s_eql rfl rfl ?_)
 refine qm hnt rfl rfl ?_
 refine r_if tabOk hnt rfl rfl rfl (fun g1 => ?_) (fun g1 => ?_)
 ·
  have g1' := g1
  try simp only [sB] at g1'
  refine qm hnt rfl rfl ?_
  refine ry hnt rfl rfl rfl g1 ?_
  refine qo hnt rfl (s_cvT tab_51 tab_9 rfl tab_5 rfl rfl (hM_sl (f := enc8) rfl) ?_)
  refine ry hnt rfl rfl rfl g1 ?_
  refine qo hnt rfl (s_eqtext (l := layE (refuseR 3 2)) (m := ([131,2] : List UInt8)) rfl rfl ?_)
  refine qo hnt rfl (s_pick_t rfl g1 rfl ?_)
  refine qm hnt rfl rfl ?_
  refine r_if tabOk hnt rfl rfl rfl (fun g2 => ?_) (fun g2 => ?_)
  ·
   have g2' := g2
   try simp only [sB] at g2'
   refine qm hnt rfl rfl ?_
   refine ry hnt rfl rfl rfl g2 ?_
   refine qo hnt rfl (s_eql rfl rfl ?_)
   refine qo hnt rfl (s_pick_t rfl g2 rfl ?_)
   refine qm hnt rfl rfl ?_
   refine r_if tabOk hnt rfl rfl rfl (fun g3 => ?_) (fun g3 => ?_)
   ·
    have g3' := g3
    try simp only [sB] at g3'
    refine qo hnt rfl (s_load_ptr tab_53 rfl rfl rfl (Nat.le_of_ble_eq_true rfl) ?_)
    refine ry hnt rfl rfl rfl g3 ?_
    refine qo hnt rfl (s_build tab_53 rfl rfl (b_cons rfl tab_3 rfl rfl rfl (Nat.le_of_ble_eq_true rfl) (b_cons rfl tab_3 rfl rfl rfl (Nat.le_of_ble_eq_true rfl) (b_nil ?_))))
    refine ry hnt rfl rfl rfl g3 ?_
    refine qo hnt rfl (s_callF rfl rfl rfl (T.leL (args := [PV.f (eReply R1.1),PV.f (.agg [encI 3,encI 2,encI 0,encI 0,encI 0,FV.v (.slice none 0 0),FV.v (.slice none 0 0),enc16 0,enc16 0,FV.v (.slice none 0 0)])]) (args' := [PV.f (eReply (⟨R1.1.fn,R1.1.code,R1.1.at_,R1.1.count,R1.1.sub,R1.1.bits,R1.1.vals,R1.1.and_,R1.1.or_,R1.1.data⟩ : TReply)),PV.f (eReply (⟨3,2,0,0,0,[],[],0,0,[]⟩ : TReply))]) ⟨le_refl _,⟨le_F (FLe.agg ⟨FLe.refl _,FLe.refl _,FLe.refl _,FLe.refl _,FLe.refl _,FLe.nil 1 false,FLe.nil 1 false,FLe.refl _,FLe.refl _,FLe.nil 1 false,trivial⟩),trivial⟩⟩ (w_burgageref3_Alike (⟨R1.1.fn,R1.1.code,R1.1.at_,R1.1.count,R1.1.sub,R1.1.bits,R1.1.vals,R1.1.and_,R1.1.or_,R1.1.data⟩ : TReply) (⟨3,2,0,0,0,[],[],0,0,[]⟩ : TReply) (by rw [hr1]; decide))) rfl ?_)
    refine qo hnt rfl (s_pick_t rfl g3 rfl ?_)
    refine qm hnt rfl rfl ?_
    refine r_if tabOk hnt rfl rfl rfl (fun g4 => ?_) (fun g4 => ?_)
    ·
     have g4' := g4
     try simp only [sB] at g4'
     refine qm hnt rfl rfl ?_
     refine ry hnt rfl rfl rfl g4 ?_
     refine qo hnt rfl (s_eql rfl rfl ?_)
     refine qo hnt rfl (s_pick_t rfl g4 rfl ?_)
     refine qm hnt rfl rfl ?_
     refine r_if tabOk hnt rfl rfl rfl (fun g5 => ?_) (fun g5 => ?_)
     ·
      have g5' := g5
      try simp only [sB] at g5'
      refine qm hnt rfl rfl ?_
      refine ry hnt rfl rfl rfl g5 ?_
      refine qo hnt rfl (s_eql rfl rfl ?_)
      refine qo hnt rfl (s_pick_t rfl g5 rfl ?_)
      refine qm hnt rfl rfl ?_
      refine r_if tabOk hnt rfl rfl rfl (fun g6 => ?_) (fun g6 => ?_)
      ·
       have g6' := g6
       try simp only [sB] at g6'
       refine qm hnt rfl rfl ?_
       refine ry hnt rfl rfl rfl g6 ?_
       refine qo hnt rfl (s_eql rfl rfl ?_)
       refine qo hnt rfl (s_pick_t rfl g6 rfl ?_)
       refine qm hnt rfl rfl ?_
       refine r_if tabOk hnt rfl rfl rfl (fun g7 => ?_) (fun g7 => ?_)
       ·
        have g7' := g7
        try simp only [sB] at g7'
        refine qm hnt rfl rfl ?_
        refine ry hnt rfl rfl rfl g7 ?_
        refine qo hnt rfl (s_cvT tab_51 tab_9 rfl tab_5 rfl rfl (hM_sl (f := enc8) rfl) ?_)
        refine ry hnt rfl rfl rfl g7 ?_
        refine qo hnt rfl (s_eqtext (l := layE (⟨1,0,0,0,0,[true,false,true],[],0,0,[]⟩ : TReply)) (m := ([1,1,5] : List UInt8)) rfl rfl ?_)
        refine qo hnt rfl (s_pick_t rfl g7 rfl ?_)
        refine qm hnt rfl rfl ?_
        refine r_if tabOk hnt rfl rfl rfl (fun g8 => ?_) (fun g8 => ?_)
        ·
         have g8' := g8
         try simp only [sB] at g8'
         refine qm hnt rfl rfl ?_
         refine ry hnt rfl rfl rfl g8 ?_
         refine qo hnt rfl (s_eql rfl rfl ?_)
         refine qo hnt rfl (s_pick_t rfl g8 rfl ?_)
         refine qm hnt rfl rfl ?_
         refine r_if tabOk hnt rfl rfl rfl (fun g9 => ?_) (fun g9 => ?_)
         ·
          have g9' := g9
          try simp only [sB] at g9'
          refine qo hnt rfl (s_fa_ptr tab_53 rfl rfl tab_42 (by decide) rfl ?_)
          refine ry hnt rfl rfl rfl g9 ?_
          refine qo hnt rfl (s_load_ptr1 tab_42 rfl rfl rfl rfl rfl ?_)
          refine ry hnt rfl rfl rfl g9 ?_
          refine qo hnt rfl (s_lenM (l := R3.1.bits) tab_42 rfl (hM_sl (f := encBo) rfl) ?_)
          refine ry hnt rfl rfl rfl g9 ?_
          refine qo hnt rfl (s_eql rfl rfl ?_)
          refine qo hnt rfl (s_pick_t rfl g9 rfl ?_)
          refine qm hnt rfl rfl ?_
          refine r_if tabOk hnt rfl rfl rfl (fun g10 => ?_) (fun g10 => ?_)
          ·
           have g10' := g10
           try simp only [sB] at g10'
           refine qm hnt rfl rfl ?_
           refine ry hnt rfl rfl rfl g10 ?_
           refine qo hnt rfl (s_eql rfl rfl ?_)
           refine qo hnt rfl (s_pick_t rfl g10 rfl ?_)
           refine qa hnt rfl rfl ?_
           refine r_set [(0,pB (decide (R4.2 = 12)))] [(4,.obj (cReply R4.1)),(3,.obj (cReply R3.1)),(2,oB false 1 encBo [true,false,true]),(1,.obj (cReply R2.1)),(0,.obj (cReply R1.1))] 5 ⟨rfl,trivial⟩ rfl rfl ?_
           refine r_end ?_
           refine q_then ?_
           refine w_le (s := 0) (y := pB true) rfl (le_of_eq (congrArg (fun z : Bool => pB z) (show (decide (R4.2 = 12)) = true by (rw [hr4]; decide +kernel)))) ?_
           refine w_ret ?_
           exact fin_plain (ret_tmp rfl ret_nil) rfl rfl ⟨rfl,rfl,rfl⟩
          exact absurd g10 (by (rw [hr3]; decide +kernel))
         exact absurd g9 (by (rw [hr3]; decide +kernel))
        exact absurd g8 (by decide +kernel)
       exact absurd g7 (by decide +kernel)
      exact absurd g6 (by decide +kernel)
     exact absurd g5 (by (rw [hr2]; decide +kernel))
    exact absurd g4 (by (rw [hr1]; decide +kernel))
   exact absurd g3 (by (rw [hr1]; decide +kernel))
  exact absurd g2 (by decide +kernel)
 exact absurd g1 (by decide +kernel)
theorem w_burgagelaw4_ReplyCounts (t : List Int) (cl_t : Bool) (u : List Int) (cl_u : Bool) (n : Int) (ht : t.length ≤ 70000000000000) (hu : u.length ≤ 70000000000000) (hn : -9223372036854775808 ≤ n ∧ n ≤ 9223372036854775807) :
    T Try.prog 11 [pS 1 cl_t encI t,pS 1 cl_u encI u,pI n] 0 [] (Ret (pB true) 0 []) := by
 refine t_fun tabOk (n := 90) (rs := [.tmp 6]) Try.func11 rfl rfl rfl rfl (Nat.le_of_ble_eq_true rfl) ?_
 intro c hnt hk
 refine w_seq ?_
 refine w_R ?_
 refine qa hnt rfl rfl ?_
 refine r_end ?_
 refine q_then ?_
 refine w_seq ?_
 refine w_R ?_
 refine qm hnt rfl rfl ?_
 refine qo hnt rfl (s_build tab_49 rfl rfl (b_cons rfl tab_24 rfl rfl rfl (Nat.le_of_ble_eq_true rfl) (b_nil ?_)))
 refine qo hnt rfl (s_box rfl rfl ?_)
 refine qo hnt rfl (s_callX2 (p := fun (q1 : TRequest) (b1 : Nat) => rightR q1 = 0 ∧ q1.bits.length ≤ 25 ∧ q1.vals.length ≤ 25 ∧ 0 ≤ q1.count ∧ q1.count ≤ 25) (r2 := fun q1 b1 => PV.f (eRequest q1)) (nx1 := 1) (H2 := [(0,.obj [pS 1 cl_t encI t,pI 0])]) (H3 := fun q1 b1 => [(0,.obj [pS 1 false encI t,pN b1])]) [0] [.obj [pS 1 cl_t encI t,pI 0]] rfl rfl rfl (handed_of (by decide) ⟨rfl,trivial⟩) rfl rfl rfl rfl rfl rfl (w_burgagekeep_Tape_Request t cl_t 0 (by omega)) (fun q1 b1 => rfl) (fun q1 b1 => dist_of rfl) (fun q1 b1 => rfl) (fun q1 b1 => rfl) rfl (fun q1 b1 => rfl) (fun q1 b1 hq1 => ?_))
 refine qo hnt rfl (s_alloc tab_46 ?_)
 refine qo hnt rfl (s_store_ptr tab_46 rfl rfl rfl rfl rfl (Nat.le_of_ble_eq_true rfl) ?_)
 refine r_set [(1,pS 1 cl_u encI u),(2,pI n),(7,PV.ptr 1 0)] [(1,.obj (cRequest q1)),(0,.obj [pS 1 false encI t,pN b1])] 2 ⟨rfl,rfl,rfl,trivial⟩ rfl rfl ?_
 refine r_end ?_
 refine q_then ?_
 refine w_seq ?_
 obtain ⟨hr1,hqb1,hqv1,hqc1,hqd1⟩ := hq1
 refine w_R ?_
 refine qm hnt rfl rfl ?_
 refine qo hnt rfl (s_load_ptr tab_46 rfl rfl rfl (Nat.le_of_ble_eq_true rfl) ?_)
 obtain ⟨R1,hR1⟩ : ∃ z : TReply,z = madeR u q1 := ⟨_,rfl⟩
 refine qo hnt rfl (s_callF rfl rfl rfl (w_burgagelaw4_made u cl_u q1 R1 hR1 (by omega) (by omega)) rfl ?_)
 refine qo hnt rfl (s_alloc tab_53 ?_)
 refine qo hnt rfl (s_store_ptr tab_53 rfl rfl rfl rfl rfl (Nat.le_of_ble_eq_true rfl) ?_)
 refine r_set [(2,pI n),(7,PV.ptr 1 0),(8,PV.ptr 2 0)] [(2,.obj (cReply R1)),(1,.obj (cRequest q1)),(0,.obj [pS 1 false encI t,pN b1])] 3 ⟨rfl,rfl,rfl,trivial⟩ rfl rfl ?_
 refine r_end ?_
 refine q_then ?_
 refine w_seq ?_
 have hmk1 := madeR_ok u hr1 hqb1 hqv1 hqc1 hqd1
 rw [← hR1] at hmk1
 obtain ⟨hg1,hco1,hfn1,hb1,hv1,hd1⟩ := hmk1
 have hle1 := layE_len R1
 refine w_R ?_
 refine qo hnt rfl (s_load_ptr tab_53 rfl rfl rfl (Nat.le_of_ble_eq_true rfl) ?_)
 refine qo hnt rfl (s_callF rfl rfl rfl (w_reply_Bytes R1 (by omega)) rfl ?_)
 refine qm hnt rfl rfl ?_
 refine qo hnt rfl (s_extract rfl rfl ?_)
 refine qo hnt rfl (s_extract rfl rfl ?_)
 refine qa hnt rfl rfl ?_
 refine qa hnt rfl rfl ?_
 refine r_end ?_
 refine q_then ?_
 refine w_seq ?_
 refine w_R ?_
 refine qo hnt rfl (s_load_ptr tab_46 rfl rfl rfl (Nat.le_of_ble_eq_true rfl) ?_)
 refine qo hnt rfl (s_alloc tab_46 ?_)
 refine qo hnt rfl (s_store_ptr tab_46 rfl rfl rfl rfl rfl (Nat.le_of_ble_eq_true rfl) ?_)
 refine r_set [(2,pI n),(7,PV.ptr 1 0),(8,PV.ptr 2 0),(9,pS 1 false enc8 (layE R1)),(10,pI (goodR R1)),(11,PV.ptr 3 0)] [(3,.obj (cRequest q1)),(2,.obj (cReply R1)),(1,.obj (cRequest q1)),(0,.obj [pS 1 false encI t,pN b1])] 4 ⟨rfl,rfl,rfl,rfl,rfl,rfl,trivial⟩ rfl rfl ?_
 refine r_end ?_
 refine q_then ?_
 refine w_seq ?_
 refine w_R ?_
 refine qo hnt rfl (s_fa_ptr tab_46 rfl rfl tab_3 (by decide) rfl ?_)
 refine qo hnt rfl (s_load_ptr1 tab_3 rfl rfl rfl rfl rfl ?_)
 refine qo hnt rfl (s_addi (r := q1.count + 1) rfl rfl rfl (by omega) ?_)
 refine qm hnt rfl rfl ?_
 refine qo hnt rfl (s_maskI 5 (by decide) rfl rfl (by decide) ?_)
 obtain ⟨nm,hnm⟩ : ∃ z : Nat,z = (n % 2 ^ 5).toNat := ⟨_,rfl⟩
 refine r_eq (s := 32) (y := pN nm) rfl (congrArg (fun z : Nat => pN z) (show ((n % 2 ^ 5).toNat) = nm by exact hnm.symm)) ?_
 have hnm2 : nm ≤ 31 := by omega
 refine qo hnt rfl (s_addi (r := (q1.count + 1) + ((nm : Nat) : Int)) rfl rfl rfl (by omega) ?_)
 refine qo hnt rfl (s_fa_ptr tab_46 rfl rfl tab_3 (by decide) rfl ?_)
 refine qo hnt rfl (s_store_ptr tab_3 rfl rfl rfl rfl rfl (Nat.le_of_ble_eq_true rfl) ?_)
 refine r_set [(7,PV.ptr 1 0),(8,PV.ptr 2 0),(9,pS 1 false enc8 (layE R1)),(10,pI (goodR R1)),(11,PV.ptr 3 0)] [(3,.obj [pI q1.fn,pI q1.at_,pI ((q1.count + 1) + ((nm : Nat) : Int)),pI q1.wAt,pI q1.sub,pS 1 false encBo q1.bits,pS 1 false enc16 q1.vals,p16 q1.and_,p16 q1.or_]),(2,.obj (cReply R1)),(1,.obj (cRequest q1)),(0,.obj [pS 1 false encI t,pN b1])] 4 ⟨rfl,rfl,rfl,rfl,rfl,trivial⟩ rfl rfl ?_
 refine r_end ?_
 refine q_then ?_
 refine w_seq ?_
 refine w_R ?_
 refine qm hnt rfl rfl ?_
 refine qo hnt rfl (s_load_ptr tab_46 rfl rfl rfl (Nat.le_of_ble_eq_true rfl) ?_)
 obtain ⟨R2,hR2⟩ : ∃ z : TReply × Int,z = takeWith takeP (layE R1) (⟨q1.fn,q1.at_,(q1.count + 1) + ((nm : Nat) : Int),q1.wAt,q1.sub,q1.bits,q1.vals,q1.and_,q1.or_⟩ : TRequest) := ⟨_,rfl⟩
 refine qo hnt rfl (s_callF rfl rfl rfl (w_reply_Read (layE R1) false (⟨q1.fn,q1.at_,(q1.count + 1) + ((nm : Nat) : Int),q1.wAt,q1.sub,q1.bits,q1.vals,q1.and_,q1.or_⟩ : TRequest) R2 hR2 (by omega) (by (simp; omega))) rfl ?_)
 refine qm hnt rfl rfl ?_
 refine qo hnt rfl (s_extract rfl rfl ?_)
 refine qo hnt rfl (s_extract rfl rfl ?_)
 refine qo hnt rfl (s_alloc tab_53 ?_)
 refine qo hnt rfl (s_store_ptr tab_53 rfl rfl rfl rfl rfl (Nat.le_of_ble_eq_true rfl) ?_)
 refine qa hnt rfl rfl ?_
 refine r_set [(7,PV.ptr 1 0),(8,PV.ptr 2 0),(10,pI (goodR R1)),(11,PV.ptr 3 0),(13,pI R2.2)] [(4,.obj (cReply R2.1)),(3,.obj [pI q1.fn,pI q1.at_,pI ((q1.count + 1) + ((nm : Nat) : Int)),pI q1.wAt,pI q1.sub,pS 1 false encBo q1.bits,pS 1 false enc16 q1.vals,p16 q1.and_,p16 q1.or_]),(2,.obj (cReply R1)),(1,.obj (cRequest q1)),(0,.obj [pS 1 false encI t,pN b1])] 5 ⟨rfl,rfl,rfl,rfl,rfl,trivial⟩ rfl rfl ?_
 refine r_end ?_
 refine q_then ?_
 refine w_seq ?_
 have htm := take_more (p := ⟨q1.fn,q1.at_,q1.count + 1 + ((nm : Nat) : Int),q1.wAt,q1.sub,q1.bits,q1.vals,q1.and_,q1.or_⟩) hg1 hco1 hfn1 rfl (by simp only; omega)
 rw [← hR2] at htm
 simp only at htm
 have hff := hasF_of (rightR_zero hr1).1
 refine w_R ?_
 refine qo hnt rfl (s_fa_ptr tab_53 rfl rfl tab_3 (by decide) rfl ?_)
 refine qo hnt rfl (s_load_ptr1 tab_3 rfl rfl rfl rfl rfl ?_)
 refine qo hnt rfl (s_eql rfl rfl ?_)
 refine qm hnt rfl rfl ?_
 refine r_if tabOk hnt rfl rfl rfl (fun g1 => ?_) (fun g1 => ?_)
 ·
  have g1' := g1
  try simp only [sB] at g1'
  refine qo hnt rfl (s_fa_ptr tab_46 rfl rfl tab_3 (by decide) rfl ?_)
  refine ry hnt rfl rfl rfl g1 ?_
  refine qo hnt rfl (s_load_ptr1 tab_3 rfl rfl rfl rfl rfl ?_)
  refine ry hnt rfl rfl rfl g1 ?_
  refine qo hnt rfl (s_leq rfl rfl ?_)
  refine ry hnt rfl rfl rfl g1 ?_
  refine qm hnt rfl rfl ?_
  refine r_if tabOk hnt rfl rfl rfl (fun g2 => ?_) (fun g2 => ?_)
  ·
   have g2' := g2
   try simp only [sB] at g2'
   refine qo hnt rfl (s_fa_ptr tab_46 rfl rfl tab_3 (by decide) rfl ?_)
   refine ry hnt rfl rfl rfl g2 ?_
   refine qo hnt rfl (s_load_ptr1 tab_3 rfl rfl rfl rfl rfl ?_)
   refine ry hnt rfl rfl rfl g2 ?_
   refine qo hnt rfl (s_eql rfl rfl ?_)
   refine ry hnt rfl rfl rfl g1 ?_
   refine qo hnt rfl (s_pick_f rfl g2 rfl ?_)
   refine qo hnt rfl (s_pick_t rfl g1 rfl ?_)
   refine qa hnt rfl rfl ?_
   refine r_end ?_
   refine q_then ?_
   refine w_seq ?_
   refine w_seq ?_
   refine w_R ?_
   refine qm hnt rfl rfl ?_
   refine qm hnt rfl rfl ?_
   refine r_if tabOk hnt rfl rfl rfl (fun g3 => ?_) (fun g3 => ?_)
   ·
    have g3' := g3
    try simp only [sB] at g3'
    refine qo hnt rfl (s_fa_ptr tab_46 rfl rfl tab_3 (by decide) rfl ?_)
    refine ry hnt rfl rfl rfl g3 ?_
    refine qo hnt rfl (s_load_ptr1 tab_3 rfl rfl rfl rfl rfl ?_)
    refine ry hnt rfl rfl rfl g3 ?_
    refine qo hnt rfl (s_leq rfl rfl ?_)
    refine qo hnt rfl (s_pick_t rfl g3 rfl ?_)
    refine r_end ?_
    refine q_then ?_
    refine w_if rfl (fun c1 => ?_) (fun c1 => ?_)
    ·
     have c1_ := c1
     try simp only [sB] at c1
     refine w_seq ?_
     refine w_R ?_
     refine qm hnt rfl rfl ?_
     refine qo hnt rfl (s_eql rfl rfl ?_)
     refine qm hnt rfl rfl ?_
     refine r_if tabOk hnt rfl rfl rfl (fun g4 => ?_) (fun g4 => ?_)
     ·
      have g4' := g4
      try simp only [sB] at g4'
      refine qm hnt rfl rfl ?_
      refine ry hnt rfl rfl rfl g4 ?_
      refine qo hnt rfl (s_eql rfl rfl ?_)
      refine ry hnt rfl rfl rfl g4 ?_
      refine qm hnt rfl rfl ?_
      refine r_if tabOk hnt rfl rfl rfl (fun g5 => ?_) (fun g5 => ?_)
      ·
       have g5' := g5
       try simp only [sB] at g5'
       refine qo hnt rfl (s_fa_ptr tab_46 rfl rfl tab_3 (by decide) rfl ?_)
       refine ry hnt rfl rfl rfl g5 ?_
       refine qo hnt rfl (s_load_ptr1 tab_3 rfl rfl rfl rfl rfl ?_)
       refine ry hnt rfl rfl rfl g5 ?_
       refine qo hnt rfl (s_fa_ptr tab_46 rfl rfl tab_3 (by decide) rfl ?_)
       refine ry hnt rfl rfl rfl g5 ?_
       refine qo hnt rfl (s_load_ptr1 tab_3 rfl rfl rfl rfl rfl ?_)
       refine ry hnt rfl rfl rfl g5 ?_
       refine qo hnt rfl (s_addi (r := q1.count + 7) rfl rfl rfl (by omega) ?_)
       refine ry hnt rfl rfl rfl g5 ?_
       refine qo hnt rfl (s_quoI rfl rfl (by omega) (by omega) ?_)
       refine r_eq (s := 71) (y := pI ((q1.count + 7) / 8)) rfl (congrArg (fun z : Int => pI z) (show (Int.tdiv (q1.count + 7) 8) = ((q1.count + 7) / 8) by exact Int.tdiv_eq_ediv_of_nonneg (by omega))) ?_
       refine ry hnt rfl rfl rfl g5 ?_
       refine qo hnt rfl (s_muli (r := 8 * ((q1.count + 7) / 8)) rfl rfl rfl (by omega) ?_)
       refine ry hnt rfl rfl rfl g5 ?_
       refine qo hnt rfl (s_leq rfl rfl ?_)
       refine ry hnt rfl rfl rfl g4 ?_
       refine qo hnt rfl (s_pick_f rfl g5 rfl ?_)
       refine qo hnt rfl (s_pick_t rfl g4 rfl ?_)
       refine qm hnt rfl rfl ?_
       refine r_if tabOk hnt rfl rfl rfl (fun g6 => ?_) (fun g6 => ?_)
       ·
        have g6' := g6
        try simp only [sB] at g6'
        refine qo hnt rfl (s_callF rfl rfl rfl (w_burgagelaw4_known) rfl ?_)
        refine qo hnt rfl (s_pick_t rfl g6 rfl ?_)
        refine qa hnt rfl rfl ?_
        refine r_set [(6,pB true)] [(4,.obj (cReply R2.1)),(3,.obj [pI q1.fn,pI q1.at_,pI ((q1.count + 1) + ((nm : Nat) : Int)),pI q1.wAt,pI q1.sub,pS 1 false encBo q1.bits,pS 1 false enc16 q1.vals,p16 q1.and_,p16 q1.or_]),(2,.obj (cReply R1)),(1,.obj (cRequest q1)),(0,.obj [pS 1 false encI t,pN b1])] 5 ⟨rfl,trivial⟩ rfl rfl ?_
        refine r_end ?_
        refine q_then ?_
        refine w_ret ?_
        refine q_then_ret ?_
        exact fin_plain (ret_tmp rfl ret_nil) rfl rfl ⟨rfl,rfl,rfl⟩
       exact absurd g6 (by exact not_dec3 (Decidable.byContradiction fun hn => absurd (htm.1 (by omega)) (by assumption)))
      have g5' := g5
      try simp only [sB] at g5'
      refine rn hnt rfl rfl rfl g5 ?_
      refine rn hnt rfl rfl rfl g5 ?_
      refine rn hnt rfl rfl rfl g5 ?_
      refine rn hnt rfl rfl rfl g5 ?_
      refine rn hnt rfl rfl rfl g5 ?_
      refine rn hnt rfl rfl rfl g5 ?_
      refine rn hnt rfl rfl rfl g5 ?_
      refine ry hnt rfl rfl rfl g4 ?_
      refine qo hnt rfl (s_pick_t rfl g5 rfl ?_)
      refine qo hnt rfl (s_pick_t rfl g4 rfl ?_)
      refine qm hnt rfl rfl ?_
      refine ry hnt rfl rfl rfl rfl ?_
      refine qo hnt rfl (s_callF rfl rfl rfl (w_burgagelaw4_known) rfl ?_)
      refine qo hnt rfl (s_pick_t rfl rfl rfl ?_)
      refine qa hnt rfl rfl ?_
      refine r_set [(6,pB true)] [(4,.obj (cReply R2.1)),(3,.obj [pI q1.fn,pI q1.at_,pI ((q1.count + 1) + ((nm : Nat) : Int)),pI q1.wAt,pI q1.sub,pS 1 false encBo q1.bits,pS 1 false enc16 q1.vals,p16 q1.and_,p16 q1.or_]),(2,.obj (cReply R1)),(1,.obj (cRequest q1)),(0,.obj [pS 1 false encI t,pN b1])] 5 ⟨rfl,trivial⟩ rfl rfl ?_
      refine r_end ?_
      refine q_then ?_
      refine w_ret ?_
      refine q_then_ret ?_
      exact fin_plain (ret_tmp rfl ret_nil) rfl rfl ⟨rfl,rfl,rfl⟩
     exact absurd g4 (by exact not_dec3 hg1)
    have c1_ := c1
    try simp only [sB] at c1
    refine w_skip ?_
    refine q_then ?_
    refine w_seq ?_
    refine w_R ?_
    refine qm hnt rfl rfl ?_
    refine qo hnt rfl (s_eql rfl rfl ?_)
    refine qm hnt rfl rfl ?_
    refine r_if tabOk hnt rfl rfl rfl (fun g7 => ?_) (fun g7 => ?_)
    ·
     have g7' := g7
     try simp only [sB] at g7'
     refine qm hnt rfl rfl ?_
     refine ry hnt rfl rfl rfl g7 ?_
     refine qo hnt rfl (s_eql rfl rfl ?_)
     refine ry hnt rfl rfl rfl g7 ?_
     refine qm hnt rfl rfl ?_
     refine ry hnt rfl rfl rfl g7 ?_
     refine qo hnt rfl (s_eqbool tab_4 rfl rfl rfl ?_)
     refine qo hnt rfl (s_pick_t rfl g7 rfl ?_)
     refine qm hnt rfl rfl ?_
     refine r_if tabOk hnt rfl rfl rfl (fun g8 => ?_) (fun g8 => ?_)
     ·
      have g8' := g8
      try simp only [sB] at g8'
      refine qo hnt rfl (s_callF rfl rfl rfl (w_burgagelaw4_known) rfl ?_)
      refine qo hnt rfl (s_pick_t rfl g8 rfl ?_)
      refine qa hnt rfl rfl ?_
      refine r_set [(6,pB true)] [(4,.obj (cReply R2.1)),(3,.obj [pI q1.fn,pI q1.at_,pI ((q1.count + 1) + ((nm : Nat) : Int)),pI q1.wAt,pI q1.sub,pS 1 false encBo q1.bits,pS 1 false enc16 q1.vals,p16 q1.and_,p16 q1.or_]),(2,.obj (cReply R1)),(1,.obj (cRequest q1)),(0,.obj [pS 1 false encI t,pN b1])] 5 ⟨rfl,trivial⟩ rfl rfl ?_
      refine r_end ?_
      refine q_then ?_
      refine w_ret ?_
      exact fin_plain (ret_tmp rfl ret_nil) rfl rfl ⟨rfl,rfl,rfl⟩
     exact absurd g8 (by (rw [htm.1 (by omega)]; simp [*]; done))
    exact absurd g7 (by exact not_dec3 hg1)
   have g3' := g3
   try simp only [sB] at g3'
   refine rn hnt rfl rfl rfl g3 ?_
   refine rn hnt rfl rfl rfl g3 ?_
   refine qo hnt rfl (s_pick_f rfl g3 rfl ?_)
   refine r_end ?_
   refine q_then ?_
   refine w_if rfl (fun e => absurd e (by decide)) (fun _ => ?_)
   refine w_skip ?_
   refine q_then ?_
   refine w_seq ?_
   refine w_R ?_
   refine qm hnt rfl rfl ?_
   refine qo hnt rfl (s_eql rfl rfl ?_)
   refine qm hnt rfl rfl ?_
   refine r_if tabOk hnt rfl rfl rfl (fun g9 => ?_) (fun g9 => ?_)
   ·
    have g9' := g9
    try simp only [sB] at g9'
    refine qm hnt rfl rfl ?_
    refine ry hnt rfl rfl rfl g9 ?_
    refine qo hnt rfl (s_eql rfl rfl ?_)
    refine ry hnt rfl rfl rfl g9 ?_
    refine qm hnt rfl rfl ?_
    refine ry hnt rfl rfl rfl g9 ?_
    refine qo hnt rfl (s_eqbool tab_4 rfl rfl rfl ?_)
    refine qo hnt rfl (s_pick_t rfl g9 rfl ?_)
    refine qm hnt rfl rfl ?_
    refine r_if tabOk hnt rfl rfl rfl (fun g10 => ?_) (fun g10 => ?_)
    ·
     have g10' := g10
     try simp only [sB] at g10'
     refine qo hnt rfl (s_callF rfl rfl rfl (w_burgagelaw4_known) rfl ?_)
     refine qo hnt rfl (s_pick_t rfl g10 rfl ?_)
     refine qa hnt rfl rfl ?_
     refine r_set [(6,pB true)] [(4,.obj (cReply R2.1)),(3,.obj [pI q1.fn,pI q1.at_,pI ((q1.count + 1) + ((nm : Nat) : Int)),pI q1.wAt,pI q1.sub,pS 1 false encBo q1.bits,pS 1 false enc16 q1.vals,p16 q1.and_,p16 q1.or_]),(2,.obj (cReply R1)),(1,.obj (cRequest q1)),(0,.obj [pS 1 false encI t,pN b1])] 5 ⟨rfl,trivial⟩ rfl rfl ?_
     refine r_end ?_
     refine q_then ?_
     refine w_ret ?_
     exact fin_plain (ret_tmp rfl ret_nil) rfl rfl ⟨rfl,rfl,rfl⟩
    exact absurd g10 (by (rw [htm.2 (by omega)]; simp [*]; done))
   exact absurd g9 (by exact not_dec3 hg1)
  have g2' := g2
  try simp only [sB] at g2'
  refine rn hnt rfl rfl rfl g2 ?_
  refine rn hnt rfl rfl rfl g2 ?_
  refine ry hnt rfl rfl rfl g1 ?_
  refine qo hnt rfl (s_pick_t rfl g2 rfl ?_)
  refine qo hnt rfl (s_pick_t rfl g1 rfl ?_)
  refine qa hnt rfl rfl ?_
  refine r_end ?_
  refine q_then ?_
  refine w_seq ?_
  refine w_seq ?_
  refine w_R ?_
  refine qm hnt rfl rfl ?_
  refine qm hnt rfl rfl ?_
  refine ry hnt rfl rfl rfl rfl ?_
  refine qo hnt rfl (s_fa_ptr tab_46 rfl rfl tab_3 (by decide) rfl ?_)
  refine ry hnt rfl rfl rfl rfl ?_
  refine qo hnt rfl (s_load_ptr1 tab_3 rfl rfl rfl rfl rfl ?_)
  refine ry hnt rfl rfl rfl rfl ?_
  refine qo hnt rfl (s_leq rfl rfl ?_)
  refine qo hnt rfl (s_pick_t rfl rfl rfl ?_)
  refine r_end ?_
  refine q_then ?_
  refine w_if rfl (fun c2 => ?_) (fun c2 => ?_)
  ·
   have c2_ := c2
   try simp only [sB] at c2
   refine w_seq ?_
   refine w_R ?_
   refine qm hnt rfl rfl ?_
   refine qo hnt rfl (s_eql rfl rfl ?_)
   refine qm hnt rfl rfl ?_
   refine r_if tabOk hnt rfl rfl rfl (fun g11 => ?_) (fun g11 => ?_)
   ·
    have g11' := g11
    try simp only [sB] at g11'
    refine qm hnt rfl rfl ?_
    refine ry hnt rfl rfl rfl g11 ?_
    refine qo hnt rfl (s_eql rfl rfl ?_)
    refine ry hnt rfl rfl rfl g11 ?_
    refine qm hnt rfl rfl ?_
    refine r_if tabOk hnt rfl rfl rfl (fun g12 => ?_) (fun g12 => ?_)
    ·
     have g12' := g12
     try simp only [sB] at g12'
     refine qo hnt rfl (s_fa_ptr tab_46 rfl rfl tab_3 (by decide) rfl ?_)
     refine ry hnt rfl rfl rfl g12 ?_
     refine qo hnt rfl (s_load_ptr1 tab_3 rfl rfl rfl rfl rfl ?_)
     refine ry hnt rfl rfl rfl g12 ?_
     refine qo hnt rfl (s_fa_ptr tab_46 rfl rfl tab_3 (by decide) rfl ?_)
     refine ry hnt rfl rfl rfl g12 ?_
     refine qo hnt rfl (s_load_ptr1 tab_3 rfl rfl rfl rfl rfl ?_)
     refine ry hnt rfl rfl rfl g12 ?_
     refine qo hnt rfl (s_addi (r := q1.count + 7) rfl rfl rfl (by omega) ?_)
     refine ry hnt rfl rfl rfl g12 ?_
     refine qo hnt rfl (s_quoI rfl rfl (by omega) (by omega) ?_)
     refine r_eq (s := 71) (y := pI ((q1.count + 7) / 8)) rfl (congrArg (fun z : Int => pI z) (show (Int.tdiv (q1.count + 7) 8) = ((q1.count + 7) / 8) by exact Int.tdiv_eq_ediv_of_nonneg (by omega))) ?_
     refine ry hnt rfl rfl rfl g12 ?_
     refine qo hnt rfl (s_muli (r := 8 * ((q1.count + 7) / 8)) rfl rfl rfl (by omega) ?_)
     refine ry hnt rfl rfl rfl g12 ?_
     refine qo hnt rfl (s_leq rfl rfl ?_)
     refine ry hnt rfl rfl rfl g11 ?_
     refine qo hnt rfl (s_pick_f rfl g12 rfl ?_)
     refine qo hnt rfl (s_pick_t rfl g11 rfl ?_)
     refine qm hnt rfl rfl ?_
     refine r_if tabOk hnt rfl rfl rfl (fun g13 => ?_) (fun g13 => ?_)
     ·
      have g13' := g13
      try simp only [sB] at g13'
      refine qo hnt rfl (s_callF rfl rfl rfl (w_burgagelaw4_known) rfl ?_)
      refine qo hnt rfl (s_pick_t rfl g13 rfl ?_)
      refine qa hnt rfl rfl ?_
      refine r_set [(6,pB true)] [(4,.obj (cReply R2.1)),(3,.obj [pI q1.fn,pI q1.at_,pI ((q1.count + 1) + ((nm : Nat) : Int)),pI q1.wAt,pI q1.sub,pS 1 false encBo q1.bits,pS 1 false enc16 q1.vals,p16 q1.and_,p16 q1.or_]),(2,.obj (cReply R1)),(1,.obj (cRequest q1)),(0,.obj [pS 1 false encI t,pN b1])] 5 ⟨rfl,trivial⟩ rfl rfl ?_
      refine r_end ?_
      refine q_then ?_
      refine w_ret ?_
      refine q_then_ret ?_
      exact fin_plain (ret_tmp rfl ret_nil) rfl rfl ⟨rfl,rfl,rfl⟩
     exact absurd g13 (by exact not_dec3 (Decidable.byContradiction fun hn => absurd (htm.1 (by omega)) (by assumption)))
    have g12' := g12
    try simp only [sB] at g12'
    refine rn hnt rfl rfl rfl g12 ?_
    refine rn hnt rfl rfl rfl g12 ?_
    refine rn hnt rfl rfl rfl g12 ?_
    refine rn hnt rfl rfl rfl g12 ?_
    refine rn hnt rfl rfl rfl g12 ?_
    refine rn hnt rfl rfl rfl g12 ?_
    refine rn hnt rfl rfl rfl g12 ?_
    refine ry hnt rfl rfl rfl g11 ?_
    refine qo hnt rfl (s_pick_t rfl g12 rfl ?_)
    refine qo hnt rfl (s_pick_t rfl g11 rfl ?_)
    refine qm hnt rfl rfl ?_
    refine ry hnt rfl rfl rfl rfl ?_
    refine qo hnt rfl (s_callF rfl rfl rfl (w_burgagelaw4_known) rfl ?_)
    refine qo hnt rfl (s_pick_t rfl rfl rfl ?_)
    refine qa hnt rfl rfl ?_
    refine r_set [(6,pB true)] [(4,.obj (cReply R2.1)),(3,.obj [pI q1.fn,pI q1.at_,pI ((q1.count + 1) + ((nm : Nat) : Int)),pI q1.wAt,pI q1.sub,pS 1 false encBo q1.bits,pS 1 false enc16 q1.vals,p16 q1.and_,p16 q1.or_]),(2,.obj (cReply R1)),(1,.obj (cRequest q1)),(0,.obj [pS 1 false encI t,pN b1])] 5 ⟨rfl,trivial⟩ rfl rfl ?_
    refine r_end ?_
    refine q_then ?_
    refine w_ret ?_
    refine q_then_ret ?_
    exact fin_plain (ret_tmp rfl ret_nil) rfl rfl ⟨rfl,rfl,rfl⟩
   exact absurd g11 (by exact not_dec3 hg1)
  have c2_ := c2
  try simp only [sB] at c2
  refine w_skip ?_
  refine q_then ?_
  refine w_seq ?_
  refine w_R ?_
  refine qm hnt rfl rfl ?_
  refine qo hnt rfl (s_eql rfl rfl ?_)
  refine qm hnt rfl rfl ?_
  refine r_if tabOk hnt rfl rfl rfl (fun g14 => ?_) (fun g14 => ?_)
  ·
   have g14' := g14
   try simp only [sB] at g14'
   refine qm hnt rfl rfl ?_
   refine ry hnt rfl rfl rfl g14 ?_
   refine qo hnt rfl (s_eql rfl rfl ?_)
   refine ry hnt rfl rfl rfl g14 ?_
   refine qm hnt rfl rfl ?_
   refine ry hnt rfl rfl rfl g14 ?_
   refine qo hnt rfl (s_eqbool tab_4 rfl rfl rfl ?_)
   refine qo hnt rfl (s_pick_t rfl g14 rfl ?_)
   refine qm hnt rfl rfl ?_
   refine r_if tabOk hnt rfl rfl rfl (fun g15 => ?_) (fun g15 => ?_)
   ·
    have g15' := g15
    try simp only [sB] at g15'
    refine qo hnt rfl (s_callF rfl rfl rfl (w_burgagelaw4_known) rfl ?_)
    refine qo hnt rfl (s_pick_t rfl g15 rfl ?_)
    refine qa hnt rfl rfl ?_
    refine r_set [(6,pB true)] [(4,.obj (cReply R2.1)),(3,.obj [pI q1.fn,pI q1.at_,pI ((q1.count + 1) + ((nm : Nat) : Int)),pI q1.wAt,pI q1.sub,pS 1 false encBo q1.bits,pS 1 false enc16 q1.vals,p16 q1.and_,p16 q1.or_]),(2,.obj (cReply R1)),(1,.obj (cRequest q1)),(0,.obj [pS 1 false encI t,pN b1])] 5 ⟨rfl,trivial⟩ rfl rfl ?_
    refine r_end ?_
    refine q_then ?_
    refine w_ret ?_
    exact fin_plain (ret_tmp rfl ret_nil) rfl rfl ⟨rfl,rfl,rfl⟩
   exact absurd g15 (by (rw [htm.1 (by omega)]; simp [*]; done))
  exact absurd g14 (by exact not_dec3 hg1)
 have g1' := g1
 try simp only [sB] at g1'
 refine rn hnt rfl rfl rfl g1 ?_
 refine rn hnt rfl rfl rfl g1 ?_
 refine rn hnt rfl rfl rfl g1 ?_
 refine ru hnt rfl rfl rfl ?_
 refine ru hnt rfl rfl rfl ?_
 refine ru hnt rfl rfl rfl ?_
 refine rn hnt rfl rfl rfl g1 ?_
 refine qo hnt rfl (s_pick_f rfl g1 rfl ?_)
 refine qa hnt rfl rfl ?_
 refine r_end ?_
 refine q_then ?_
 refine w_seq ?_
 refine w_seq ?_
 refine w_R ?_
 refine qm hnt rfl rfl ?_
 refine qm hnt rfl rfl ?_
 refine rn hnt rfl rfl rfl rfl ?_
 refine rn hnt rfl rfl rfl rfl ?_
 refine rn hnt rfl rfl rfl rfl ?_
 refine qo hnt rfl (s_pick_f rfl rfl rfl ?_)
 refine r_end ?_
 refine q_then ?_
 refine w_if rfl (fun e => absurd e (by decide)) (fun _ => ?_)
 refine w_skip ?_
 refine q_then ?_
 refine w_seq ?_
 refine w_R ?_
 refine qm hnt rfl rfl ?_
 refine qo hnt rfl (s_eql rfl rfl ?_)
 refine qm hnt rfl rfl ?_
 refine r_if tabOk hnt rfl rfl rfl (fun g16 => ?_) (fun g16 => ?_)
 ·
  have g16' := g16
  try simp only [sB] at g16'
  refine qm hnt rfl rfl ?_
  refine ry hnt rfl rfl rfl g16 ?_
  refine qo hnt rfl (s_eql rfl rfl ?_)
  refine ry hnt rfl rfl rfl g16 ?_
  refine qm hnt rfl rfl ?_
  refine ry hnt rfl rfl rfl g16 ?_
  refine qo hnt rfl (s_eqbool tab_4 rfl rfl rfl ?_)
  refine qo hnt rfl (s_pick_t rfl g16 rfl ?_)
  refine qm hnt rfl rfl ?_
  refine r_if tabOk hnt rfl rfl rfl (fun g17 => ?_) (fun g17 => ?_)
  ·
   have g17' := g17
   try simp only [sB] at g17'
   refine qo hnt rfl (s_callF rfl rfl rfl (w_burgagelaw4_known) rfl ?_)
   refine qo hnt rfl (s_pick_t rfl g17 rfl ?_)
   refine qa hnt rfl rfl ?_
   refine r_set [(6,pB true)] [(4,.obj (cReply R2.1)),(3,.obj [pI q1.fn,pI q1.at_,pI ((q1.count + 1) + ((nm : Nat) : Int)),pI q1.wAt,pI q1.sub,pS 1 false encBo q1.bits,pS 1 false enc16 q1.vals,p16 q1.and_,p16 q1.or_]),(2,.obj (cReply R1)),(1,.obj (cRequest q1)),(0,.obj [pS 1 false encI t,pN b1])] 5 ⟨rfl,trivial⟩ rfl rfl ?_
   refine r_end ?_
   refine q_then ?_
   refine w_ret ?_
   exact fin_plain (ret_tmp rfl ret_nil) rfl rfl ⟨rfl,rfl,rfl⟩
  exact absurd g17 (by (rw [htm.2 (by omega)]; simp [*]; done))
 exact absurd g16 (by exact not_dec3 hg1)
end Go.Proofs.Ytljkbpgcglomfaa
