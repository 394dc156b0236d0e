/- What the law PartFunctions needs, and no more: merged out of texts of this session by a program of it (wip/tools/prune.py). -/
import Derived.Test.YtlcmbkkimgdnmaaQPartFunctions1
set_option linter.unusedVariables false
set_option linter.unusedSimpArgs false
set_option maxRecDepth 10000
set_option maxHeartbeats 1000000
namespace Go.Proofs.Ytlcmbkkimgdnmaa
open Go Go.Proofs.Ytlcmbkkimgdnmaa.Pv
theorem w_window_virtual (w : TWindow)  :
    T Try.prog 76 [PV.f (eWindow w)] 0 [] (Ret (PV.f (eSpan (vSp w))) 0 []) := by
 refine t_fun tabOk (n := 8) (rs := [.cell 2 120]) Try.func76 rfl rfl rfl rfl (Nat.le_of_ble_eq_true rfl) ?_
 intro c hnt hk
 refine w_seq (w_R (qo hnt rfl (s_box rfl rfl ?_)))
 refine qo hnt rfl (s_alloc tab_120 ?_)
 refine r_set [(1,PV.ptr 0 0),(2,PV.ptr 1 0)] [(1,.obj [pI 0,pI 0]),(0,.obj (cWindow w))] 2 ⟨rfl,rfl,trivial⟩ rfl rfl (r_end (q_then (w_seq (w_R (qo hnt rfl (s_fa_ptr tab_42 rfl rfl tab_3 (by decide) rfl ?_))))))
 refine qo hnt rfl (s_load_ptr1 tab_3 rfl rfl rfl rfl rfl ?_)
 refine qo hnt rfl (s_fa_ptr tab_42 rfl rfl tab_3 (by decide) rfl ?_)
 refine qo hnt rfl (s_load_ptr1 tab_3 rfl rfl rfl rfl rfl ?_)
 refine qo hnt rfl (s_build tab_120 rfl rfl (b_cons rfl tab_3 rfl rfl rfl (Nat.le_of_ble_eq_true rfl) (b_cons rfl tab_3 rfl rfl rfl (Nat.le_of_ble_eq_true rfl) (b_nil ?_))))
 refine qo hnt rfl (s_store_ptr tab_120 rfl rfl rfl rfl rfl (Nat.le_of_ble_eq_true rfl) ?_)
 refine r_set [(2,PV.ptr 1 0)] [(1,.obj [pI w.virtual,pI w.count]),(0,.obj (cWindow w))] 2 ⟨rfl,trivial⟩ rfl rfl (r_end (q_then (w_leO (n := 1) (ds := cSpan (vSp w)) rfl ⟨le_of_eq (congrArg pI (show w.virtual = ((vSp w).at_) by rfl)),le_of_eq (congrArg pI (show w.count = ((vSp w).count) by rfl)),trivial⟩ (w_ret ?_))))
 exact fin_plain (ret_cell tab_120 (by decide) rfl rfl (Nat.le_of_ble_eq_true rfl) rfl ret_nil) rfl rfl ⟨rfl,rfl,rfl⟩
theorem w_window_physical (w : TWindow)  :
    T Try.prog 105 [PV.f (eWindow w)] 0 [] (Ret (PV.f (eSpan (pSp w))) 0 []) := by
 refine t_fun tabOk (n := 8) (rs := [.cell 2 120]) Try.func105 rfl rfl rfl rfl (Nat.le_of_ble_eq_true rfl) ?_
 intro c hnt hk
 refine w_seq (w_R (qo hnt rfl (s_box rfl rfl ?_)))
 refine qo hnt rfl (s_alloc tab_120 ?_)
 refine r_set [(1,PV.ptr 0 0),(2,PV.ptr 1 0)] [(1,.obj [pI 0,pI 0]),(0,.obj (cWindow w))] 2 ⟨rfl,rfl,trivial⟩ rfl rfl (r_end (q_then (w_seq (w_R (qo hnt rfl (s_fa_ptr tab_42 rfl rfl tab_3 (by decide) rfl ?_))))))
 refine qo hnt rfl (s_load_ptr1 tab_3 rfl rfl rfl rfl rfl ?_)
 refine qo hnt rfl (s_fa_ptr tab_42 rfl rfl tab_3 (by decide) rfl ?_)
 refine qo hnt rfl (s_load_ptr1 tab_3 rfl rfl rfl rfl rfl ?_)
 refine qo hnt rfl (s_build tab_120 rfl rfl (b_cons rfl tab_3 rfl rfl rfl (Nat.le_of_ble_eq_true rfl) (b_cons rfl tab_3 rfl rfl rfl (Nat.le_of_ble_eq_true rfl) (b_nil ?_))))
 refine qo hnt rfl (s_store_ptr tab_120 rfl rfl rfl rfl rfl (Nat.le_of_ble_eq_true rfl) ?_)
 refine r_set [(2,PV.ptr 1 0)] [(1,.obj [pI w.physical,pI w.count]),(0,.obj (cWindow w))] 2 ⟨rfl,trivial⟩ rfl rfl (r_end (q_then (w_leO (n := 1) (ds := cSpan (pSp w)) rfl ⟨le_of_eq (congrArg pI (show w.physical = ((pSp w).at_) by rfl)),le_of_eq (congrArg pI (show w.count = ((pSp w).count) by rfl)),trivial⟩ (w_ret ?_))))
 exact fin_plain (ret_cell tab_120 (by decide) rfl rfl (Nat.le_of_ble_eq_true rfl) rfl ret_nil) rfl rfl ⟨rfl,rfl,rfl⟩
theorem w_window_Right (w : TWindow)  :
    T Try.prog 94 [PV.f (eWindow w)] 0 [] (Ret (pB (winR w)) 0 []) := by
 refine t_fun tabOk (n := 21) (rs := [.tmp 2]) Try.func94 rfl rfl rfl rfl (Nat.le_of_ble_eq_true rfl) ?_
 intro c hnt hk
 refine w_seq (w_R (qo hnt rfl (s_box rfl rfl ?_)))
 refine qa hnt rfl rfl (r_set [(1,PV.ptr 0 0)] [(0,.obj (cWindow w))] 1 ⟨rfl,trivial⟩ rfl rfl (r_end (q_then (w_seq (w_R ?_)))))
 refine qo hnt rfl (s_fa_ptr tab_42 rfl rfl tab_3 (by decide) rfl ?_)
 refine qo hnt rfl (s_load_ptr1 tab_3 rfl rfl rfl rfl rfl ?_)
 refine qo hnt rfl (s_geq rfl rfl ?_)
 refine qm hnt rfl rfl (r_cut0 4 [(1,PV.ptr 0 0),(10,pB ((decide (0 ≤ w.space)) && (decide (w.space ≤ 3))))] ?_ ?_)
 ·refine r_if tabOk hnt rfl rfl rfl (fun g1 => ?_) (fun g1 => ?_)
  ·have g1' := g1
   try simp only [sB] at g1'
   refine qo hnt rfl (s_fa_ptr tab_42 rfl rfl tab_3 (by decide) rfl ?_)
   refine ry hnt rfl rfl rfl g1 (qo hnt rfl (s_load_ptr1 tab_3 rfl rfl rfl rfl rfl ?_))
   refine ry hnt rfl rfl rfl g1 (qo hnt rfl (s_leq rfl rfl ?_))
   refine qo hnt rfl (s_pick_t rfl g1 rfl ?_)
   refine r_eq (s := 10) (y := pB ((decide (0 ≤ w.space)) && (decide (w.space ≤ 3)))) rfl (mix_at g1) ?_
   exact r_mid ⟨⟨rfl,rfl,trivial⟩,rfl,rfl⟩
  ·have g1' := g1
   try simp only [sB] at g1'
   refine rn hnt rfl rfl rfl g1 (rn hnt rfl rfl rfl g1 (qo hnt rfl (s_pick_f rfl g1 rfl ?_)))
   refine r_eq (s := 10) (y := pB ((decide (0 ≤ w.space)) && (decide (w.space ≤ 3)))) rfl (mix_af _ g1) ?_
   exact r_mid ⟨⟨rfl,rfl,trivial⟩,rfl,rfl⟩
 ·refine qm hnt rfl rfl (r_cut0 4 [(1,PV.ptr 0 0),(15,pB (((decide (0 ≤ w.space)) && (decide (w.space ≤ 3))) && (spRight (vSp w) 65536)))] ?_ ?_)
  ·refine r_if tabOk hnt rfl rfl rfl (fun g2 => ?_) (fun g2 => ?_)
   ·have g2' := g2
    try simp only [sB] at g2'
    refine qo hnt rfl (s_load_ptr tab_42 rfl rfl rfl (Nat.le_of_ble_eq_true rfl) ?_)
    refine ry hnt rfl rfl rfl g2 (qo hnt rfl (s_callF rfl rfl rfl (w_window_virtual w) rfl ?_))
    refine ry hnt rfl rfl rfl g2 (qo hnt rfl (s_callF rfl rfl rfl (w_span_Right (vSp w) 65536 (by omega)) rfl ?_))
    refine qo hnt rfl (s_pick_t rfl g2 rfl ?_)
    refine r_eq (s := 15) (y := pB (((decide (0 ≤ w.space)) && (decide (w.space ≤ 3))) && (spRight (vSp w) 65536))) rfl (mix_at g2) ?_
    exact r_mid ⟨⟨rfl,rfl,trivial⟩,rfl,rfl⟩
   ·have g2' := g2
    try simp only [sB] at g2'
    refine rn hnt rfl rfl rfl g2 (rn hnt rfl rfl rfl g2 (qo hnt rfl (s_pick_f rfl g2 rfl ?_)))
    refine r_eq (s := 15) (y := pB (((decide (0 ≤ w.space)) && (decide (w.space ≤ 3))) && (spRight (vSp w) 65536))) rfl (mix_af _ g2) ?_
    exact r_mid ⟨⟨rfl,rfl,trivial⟩,rfl,rfl⟩
  ·refine qm hnt rfl rfl (r_cut0 4 [(20,pB ((((decide (0 ≤ w.space)) && (decide (w.space ≤ 3))) && (spRight (vSp w) 65536)) && (spRight (pSp w) 512)))] ?_ ?_)
   ·refine r_if tabOk hnt rfl rfl rfl (fun g3 => ?_) (fun g3 => ?_)
    ·have g3' := g3
     try simp only [sB] at g3'
     refine qo hnt rfl (s_load_ptr tab_42 rfl rfl rfl (Nat.le_of_ble_eq_true rfl) ?_)
     refine ry hnt rfl rfl rfl g3 (qo hnt rfl (s_callF rfl rfl rfl (w_window_physical w) rfl ?_))
     refine ry hnt rfl rfl rfl g3 (qo hnt rfl (s_callF rfl rfl rfl (w_span_Right (pSp w) 512 (by omega)) rfl ?_))
     refine qo hnt rfl (s_pick_t rfl g3 rfl ?_)
     refine r_eq (s := 20) (y := pB ((((decide (0 ≤ w.space)) && (decide (w.space ≤ 3))) && (spRight (vSp w) 65536)) && (spRight (pSp w) 512))) rfl (mix_at g3) ?_
     exact r_mid ⟨⟨rfl,trivial⟩,rfl,rfl⟩
    ·have g3' := g3
     try simp only [sB] at g3'
     refine rn hnt rfl rfl rfl g3 (rn hnt rfl rfl rfl g3 (qo hnt rfl (s_pick_f rfl g3 rfl ?_)))
     refine r_eq (s := 20) (y := pB ((((decide (0 ≤ w.space)) && (decide (w.space ≤ 3))) && (spRight (vSp w) 65536)) && (spRight (pSp w) 512))) rfl (mix_af _ g3) ?_
     exact r_mid ⟨⟨rfl,trivial⟩,rfl,rfl⟩
   ·refine qa hnt rfl rfl (r_end (q_then (w_le (s := 2) (y := pB (winR w)) rfl (le_of_eq (congrArg pB (show ((((decide (0 ≤ w.space)) && (decide (w.space ≤ 3))) && (spRight (vSp w) 65536)) && (spRight (pSp w) 512)) = (winR w) by rfl))) (w_ret ?_))))
    exact fin_plain (ret_tmp rfl ret_nil) rfl rfl ⟨rfl,rfl,rfl⟩
theorem w_window_of (l : List TWindow) (cl_l : Bool) (space : Int) (hl : l.length ≤ 1000) :
    T Try.prog 75 [pS 4 cl_l eWindow l,pI space] 0 [] (Ret (PV.ref 0 0 none) 1 [(0,oB true 4 eWindow (ofL l space))]) := by
 refine t_fun tabOk (n := 28) (rs := [.tmp 4]) Try.func75 rfl rfl rfl rfl (Nat.le_of_ble_eq_true rfl) ?_
 intro c hnt hk
 refine w_seq (w_R (qa hnt rfl rfl (r_end (q_then (w_seq ?_)))))
 refine w_R (qa hnt rfl rfl (r_end (q_then (w_seq (w_seq ?_)))))
 refine w_R (qm hnt rfl rfl (qo hnt rfl (s_lenM (l := l) tab_23 rfl (hM_sl (f := eWindow) rfl) ?_)))
 refine qm hnt rfl rfl (r_end (q_then (w_block (w_adopt (s := 5) (sz := 4) rfl (loop2 (fun (os : List TWindow) (i : Nat) => i ≤ l.length ∧ os = ofL (l.take i) space) (fun (os : List TWindow) (i : Nat) => [(1,pI space),(5,PV.ref 0 0 none),(8,pS 4 cl_l eWindow l),(9,pN l.length),(10,pN i)]) 1 (fun (os : List TWindow) (i : Nat) => [(0,oB true 4 eWindow os)]) (fun (os : List TWindow) (i : Nat) => l.length - i) (([] : List TWindow)) (0) ?_ ⟨[(0,0)],by rw [hk]; decide,⟨⟨_,rfl,rfl,rfl⟩,⟨_,rfl,rfl,rfl⟩,⟨_,rfl,rfl,rfl⟩,⟨_,rfl,rfl,rfl⟩,⟨_,rfl,rfl,rfl⟩,trivial⟩,⟨⟨_,_,rfl,rfl,rfl,rfl⟩,trivial⟩,by rw [hk]; decide⟩ ?_)))))
 · exact ⟨by omega,rfl⟩
 ·intro os i hI
  obtain ⟨hi,hos⟩ := hI
  have hol : os.length ≤ 1000 := by rw [hos]; exact Nat.le_trans (ofL_len _ _) (by simp; omega)
  refine w_seq (w_R (qo hnt rfl (s_lss rfl rfl ?_)))
  refine r_end (q_then (w_seq (w_if rfl (fun c1 => ?_) (fun c1 => ?_))))
  ·try simp only [sB] at c1
   refine w_skip (q_then (w_seq (w_block (w_seq (w_R ?_)))))
   obtain ⟨e1,he1⟩ := get_of_lt l (i := i) (by omega)
   refine qo hnt rfl (s_iaM (q := i) (b := e1) (f := eWindow) tab_23 rfl tab_42 rfl rfl (by omega) rfl he1 ?_)
   refine qo hnt rfl (s_load_ro tab_42 rfl rfl rfl ?_)
   refine qo hnt rfl (s_alloc tab_42 ?_)
   refine qo hnt rfl (s_store_ptr tab_42 rfl rfl rfl rfl rfl (Nat.le_of_ble_eq_true rfl) ?_)
   refine r_set [(1,pI space),(5,PV.ref 0 0 none),(7,PV.ptr 1 0),(8,pS 4 cl_l eWindow l),(9,pN l.length),(10,pN i)] [(1,.obj (cWindow e1)),(0,oB true 4 eWindow os)] 2 ⟨rfl,rfl,rfl,rfl,rfl,rfl,trivial⟩ rfl rfl (r_end (q_then (w_seq (w_R (qo hnt rfl (s_load_ptr tab_42 rfl rfl rfl (Nat.le_of_ble_eq_true rfl) ?_))))))
   refine qo hnt rfl (s_callF rfl rfl rfl (w_window_Right e1) rfl ?_)
   refine qm hnt rfl rfl (r_cut0 5 [(1,pI space),(5,PV.ref 0 0 none),(7,PV.ptr 1 0),(8,pS 4 cl_l eWindow l),(9,pN l.length),(10,pN i),(21,pB ((winR e1) && (decide (e1.space = space))))] ?_ ?_)
   ·refine r_if tabOk hnt rfl rfl rfl (fun g1 => ?_) (fun g1 => ?_)
    ·have g1' := g1
     try simp only [sB] at g1'
     refine qo hnt rfl (s_fa_ptr tab_42 rfl rfl tab_3 (by decide) rfl ?_)
     refine ry hnt rfl rfl rfl g1 (qo hnt rfl (s_load_ptr1 tab_3 rfl rfl rfl rfl rfl ?_))
     refine ry hnt rfl rfl rfl g1 (qm hnt rfl rfl (ry hnt rfl rfl rfl g1 (qo hnt rfl (s_eql rfl rfl ?_))))
     refine qo hnt rfl (s_pick_t rfl g1 rfl ?_)
     refine r_eq (s := 21) (y := pB ((winR e1) && (decide (e1.space = space)))) rfl (mix_at g1) ?_
     exact r_mid ⟨⟨rfl,rfl,rfl,rfl,rfl,rfl,rfl,trivial⟩,rfl,rfl⟩
    ·have g1' := g1
     try simp only [sB] at g1'
     refine rn hnt rfl rfl rfl g1 (rn hnt rfl rfl rfl g1 (rn hnt rfl rfl rfl g1 (qo hnt rfl (s_pick_f rfl g1 rfl ?_))))
     refine r_eq (s := 21) (y := pB ((winR e1) && (decide (e1.space = space)))) rfl (mix_af _ g1) ?_
     exact r_mid ⟨⟨rfl,rfl,rfl,rfl,rfl,rfl,rfl,trivial⟩,rfl,rfl⟩
   ·refine r_end (q_then (w_if rfl (fun c2 => ?_) (fun c2 => ?_)))
    ·have c2_ := c2
     try simp only [sB] at c2
     refine w_R (qm hnt rfl rfl (qo hnt rfl (s_load_ptr tab_42 rfl rfl rfl (Nat.le_of_ble_eq_true rfl) ?_)))
     refine qo hnt rfl (s_mkM (f := eWindow) [e1] tab_23 rfl tab_42 ⟨rfl,by decide⟩ (by decide) rfl rfl rfl rfl ?_)
     refine qo hnt rfl (s_appR0 (f := eWindow) (l := os) (xs := [e1]) tab_23 rfl tab_42 ⟨rfl,by decide,by decide⟩ (srcM tab_23 rfl (hM_ref0 (f := eWindow) rfl rfl)) rfl rfl (by (simp; omega)) ?_)
     refine qa hnt rfl rfl (r_set [(1,pI space),(5,PV.ref 3 0 none),(8,pS 4 cl_l eWindow l),(9,pN l.length),(10,pN i)] [(3,oB true 4 eWindow (os ++ [e1])),(2,oB true 4 eWindow [e1]),(1,.obj (cWindow e1))] 4 ⟨rfl,rfl,rfl,rfl,rfl,trivial⟩ rfl rfl (r_end (q_block (q_then (w_R ?_)))))
     refine qo hnt rfl (s_addN (a := i) (b := 1) rfl rfl (by omega) (by omega) (by omega) ?_)
     refine qm hnt rfl rfl (r_end (q_then (⟨(os ++ [e1]),(i + 1), ?_, ?_,⟨[(0,3)],by rw [hk]; decide,⟨⟨_,rfl,rfl,rfl⟩,⟨_,rfl,rfl,rfl⟩,⟨_,rfl,rfl,rfl⟩,⟨_,rfl,rfl,rfl⟩,⟨_,rfl,rfl,rfl⟩,trivial⟩,⟨⟨_,_,rfl,rfl,rfl,rfl⟩,trivial⟩,by rw [hk]; decide⟩⟩)))
     ·(exact ⟨by omega,by rw [hos]; exact of_snoc_t he1 c2_⟩)
     · omega
    have c2_ := c2
    try simp only [sB] at c2
    refine w_skip (q_block (q_then (w_R (qo hnt rfl (s_addN (a := i) (b := 1) rfl rfl (by omega) (by omega) (by omega) ?_)))))
    refine qm hnt rfl rfl (r_end (q_then (⟨(os),(i + 1), ?_, ?_,⟨[(0,0)],by rw [hk]; decide,⟨⟨_,rfl,rfl,rfl⟩,⟨_,rfl,rfl,rfl⟩,⟨_,rfl,rfl,rfl⟩,⟨_,rfl,rfl,rfl⟩,⟨_,rfl,rfl,rfl⟩,trivial⟩,⟨⟨_,_,rfl,rfl,rfl,rfl⟩,trivial⟩,by rw [hk]; decide⟩⟩)))
    ·(exact ⟨by omega,by rw [hos]; exact of_snoc_f he1 c2_⟩)
    · omega
  try simp only [sB] at c1
  have hoe : ofL (l.take i) space = ofL l space := by rw [List.take_of_length_le (by omega)]
  refine w_exit (q_then_exit (q_then_exit (q_block_exit (q_then (w_seq ?_)))))
  refine w_R (qm hnt rfl rfl (qa hnt rfl rfl (r_end (q_then (w_H (H' := [(0,oB true 4 eWindow (ofL l space))]) (congrArg (fun z => ([(0,oB true 4 eWindow z)] : Heap)) (show os = ofL l space by rw [hos,hoe])) ?_)))))
  refine w_ret ?_
  exact fin_names (nx1 := 1) (H1 := [(0,oB true 4 eWindow (ofL l space))]) [(0,0)] (ret_tmp rfl ret_nil) rfl (by decide) ⟨⟨_,_,rfl,rfl,rfl,rfl⟩,trivial⟩ (by decide) rfl ⟨rfl,rfl,rfl⟩
theorem w_window_Map_1 (s : TSpan) (pa : Int) (pc : Int)  :
    T Try.prog 79 [PV.f (eSpan s),PV.ptr 0 0] 1 [(0,.obj [pI pa,pI pc])] (Ret (pB (spIn ⟨pa,1⟩ s)) 1 [(0,.obj [pI pa,pI pc])]) := by
 refine t_fun tabOk (n := 9) (rs := [.tmp 3]) Try.func79 rfl rfl rfl rfl (Nat.le_of_ble_eq_true rfl) ?_
 intro c hnt hk
 refine w_seq (w_R (qo hnt rfl (s_box rfl rfl ?_)))
 refine qa hnt rfl rfl (r_set [(1,PV.ptr 0 0),(2,PV.ptr 1 0)] [(1,.obj (cSpan s)),(0,.obj [pI pa,pI pc])] 2 ⟨rfl,rfl,trivial⟩ rfl rfl (r_end (q_then (w_seq (w_R ?_)))))
 refine qo hnt rfl (s_fa_ptr tab_120 rfl rfl tab_3 (by decide) rfl ?_)
 refine qo hnt rfl (s_load_ptr1 tab_3 rfl rfl rfl rfl rfl ?_)
 refine qo hnt rfl (s_build tab_120 rfl rfl (b_cons rfl tab_3 rfl rfl rfl (Nat.le_of_ble_eq_true rfl) (b_cons rfl tab_3 rfl rfl rfl (Nat.le_of_ble_eq_true rfl) (b_nil ?_))))
 refine qo hnt rfl (s_load_ptr tab_120 rfl rfl rfl (Nat.le_of_ble_eq_true rfl) ?_)
 refine qo hnt rfl (s_callF rfl rfl rfl (w_span_In (⟨pa,1⟩ : TSpan) s) rfl ?_)
 refine qa hnt rfl rfl (r_end (q_then (w_le (s := 3) (y := pB (spIn ⟨pa,1⟩ s)) rfl (le_of_eq (congrArg pB (show (spIn (⟨pa,1⟩ : TSpan) s) = (spIn ⟨pa,1⟩ s) by simp [*]))) (w_ret ?_))))
 exact fin_names (nx1 := 1) (H1 := [(0,.obj [pI pa,pI pc])]) [(0,0)] (ret_tmp rfl ret_nil) rfl (by decide) ⟨⟨_,_,rfl,rfl,rfl,rfl⟩,trivial⟩ (by decide) rfl ⟨rfl,rfl,rfl⟩
theorem w_slices_IndexFunc_span_Span_span_Span_c3 (s : List TSpan) (cl_s : Bool) (pa : Int) (pc : Int) (hs : s.length ≤ 140737488351232) :
    T Try.prog 78 [pS 2 cl_s eSpan s,PV.clo (.func 79) [PV.ptr 0 0]] 1 [(0,.obj [pI pa,pI pc])] (Ret (pI (idxI (s.findIdx? fun x => (spIn ⟨pa,1⟩ x)))) 1 [(0,.obj [pI pa,pI pc])]) := by
 refine t_fun tabOk (n := 19) (rs := [.tmp 4]) Try.func78 rfl rfl rfl rfl (Nat.le_of_ble_eq_true rfl) ?_
 intro c hnt hk
 refine w_seq (w_R (qa hnt rfl rfl (r_end (q_then (w_seq ?_)))))
 refine w_seq (w_R (qm hnt rfl rfl (qo hnt rfl (s_lenM (l := s) tab_118 rfl (hM_sl (f := eSpan) rfl) ?_))))
 refine qm hnt rfl rfl (r_end (q_then (w_block (loop1 (fun (i : Nat) => i ≤ s.length ∧ ∀ j x,j < i → s[j]? = some x → (spIn ⟨pa,1⟩ x) = false) (fun (i : Nat) => [(0,pS 2 cl_s eSpan s),(1,PV.clo (.func 79) [PV.ptr 0 0]),(7,pN s.length),(8,pN i)]) 1 (fun (i : Nat) => [(0,.obj [pI pa,pI pc])]) (fun (i : Nat) => s.length - i) (0) ?_ ⟨[(0,0)],by rw [hk]; decide,⟨⟨_,rfl,rfl,rfl⟩,⟨_,rfl,rfl,rfl⟩,⟨_,rfl,rfl,rfl⟩,⟨_,rfl,rfl,rfl⟩,trivial⟩,⟨⟨_,_,rfl,rfl,rfl,rfl⟩,trivial⟩,by rw [hk]; decide⟩ ?_))))
 · exact ⟨Nat.zero_le _,fun j x hj => by omega⟩
 ·intro i hI
  obtain ⟨hi,ht⟩ := hI
  refine w_seq (w_R (qo hnt rfl (s_lss rfl rfl ?_)))
  refine r_end (q_then (w_seq (w_if rfl (fun c1 => ?_) (fun c1 => ?_))))
  ·try simp only [sB] at c1
   refine w_skip (q_then (w_seq (w_block (w_seq (w_R ?_)))))
   refine qm hnt rfl rfl (qa hnt rfl rfl (r_end (q_then (w_seq (w_R ?_)))))
   refine qm hnt rfl rfl (qm hnt rfl rfl (qm hnt rfl rfl ?_))
   obtain ⟨e1,he1⟩ := get_of_lt s (i := i) (by omega)
   refine qo hnt rfl (s_iaM (q := i) (b := e1) (f := eSpan) tab_118 rfl tab_120 rfl rfl (by omega) rfl he1 ?_)
   refine qo hnt rfl (s_load_ro tab_120 rfl rfl rfl ?_)
   refine qo hnt rfl (s_callX (r2 := pB (spIn ⟨pa,1⟩ e1)) (nx1 := 1) (H2 := [(0,.obj [pI pa,pI pc])]) (H3 := [(0,.obj [pI pa,pI pc])]) [0] [.obj [pI pa,pI pc]] rfl rfl rfl (handed_of (by decide) ⟨rfl,trivial⟩) rfl rfl rfl rfl rfl rfl (w_window_Map_1 e1 pa pc) rfl (dist_of rfl) rfl rfl rfl rfl ?_)
   refine r_set [(0,pS 2 cl_s eSpan s),(1,PV.clo (.func 79) [PV.ptr 0 0]),(5,pN i),(7,pN s.length),(8,pN i),(16,pB (spIn ⟨pa,1⟩ e1))] [(0,.obj [pI pa,pI pc])] 1 ⟨rfl,rfl,rfl,rfl,rfl,rfl,trivial⟩ rfl rfl (r_end (q_then (w_if rfl (fun c2 => ?_) (fun c2 => ?_))))
   ·have c2_ := c2
    try simp only [sB] at c2
    refine w_seq (w_R (qm hnt rfl rfl (qa hnt rfl rfl (r_end (q_then ?_)))))
    refine w_le (s := 4) (y := pI (idxI (s.findIdx? fun x => (spIn ⟨pa,1⟩ x)))) rfl (le_of_eq (congrArg pI (show ((i : Nat) : Int) = (idxI (s.findIdx? fun x => (spIn ⟨pa,1⟩ x))) by rw [find_step (p := fun x => (spIn ⟨pa,1⟩ x)) ht he1 c2_]))) (w_ret (q_block_ret (q_then_ret (q_then_ret (q_block_ret ?_)))))
    refine q_then_ret ?_
    exact fin_names (nx1 := 1) (H1 := [(0,.obj [pI pa,pI pc])]) [(0,0)] (ret_tmp rfl ret_nil) rfl (by decide) ⟨⟨_,_,rfl,rfl,rfl,rfl⟩,trivial⟩ (by decide) rfl ⟨rfl,rfl,rfl⟩
   have c2_ := c2
   try simp only [sB] at c2
   refine w_skip (q_block (q_then (w_R (qo hnt rfl (s_addN (a := i) (b := 1) rfl rfl (by omega) (by omega) (by omega) ?_)))))
   refine qm hnt rfl rfl (r_end (q_then (⟨(i + 1), ?_, ?_,⟨[(0,0)],by rw [hk]; decide,⟨⟨_,rfl,rfl,rfl⟩,⟨_,rfl,rfl,rfl⟩,⟨_,rfl,rfl,rfl⟩,⟨_,rfl,rfl,rfl⟩,trivial⟩,⟨⟨_,_,rfl,rfl,rfl,rfl⟩,trivial⟩,by rw [hk]; decide⟩⟩)))
   ·refine ⟨by omega,fun j x hj hx => ?_⟩
    by_cases hji : j < i
    · exact ht j x hji hx
    · obtain rfl : j = i := by omega
      rw [he1] at hx; cases hx; exact c2_
   · omega
  try simp only [sB] at c1
  refine w_exit (q_then_exit (q_then_exit (q_block_exit (q_then (w_seq ?_)))))
  refine w_R (qa hnt rfl rfl (r_end (q_then (w_le (s := 4) (y := pI (idxI (s.findIdx? fun x => (spIn ⟨pa,1⟩ x)))) rfl (le_of_eq (congrArg pI (show (-1) = (idxI (s.findIdx? fun x => (spIn ⟨pa,1⟩ x))) by rw [find_none (p := fun x => (spIn ⟨pa,1⟩ x)) (fun j x hj hx => ht j x (by omega) hx)]))) (w_ret ?_)))))
  exact fin_names (nx1 := 1) (H1 := [(0,.obj [pI pa,pI pc])]) [(0,0)] (ret_tmp rfl ret_nil) rfl (by decide) ⟨⟨_,_,rfl,rfl,rfl,rfl⟩,trivial⟩ (by decide) rfl ⟨rfl,rfl,rfl⟩
theorem w_window_Map (l : List TWindow) (cl_l : Bool) (space : Int) (a : Int) (n : Int) (hl : l.length ≤ 1000) :
    T Try.prog 60 [pS 4 cl_l eWindow l,pI space,pI a,pI n] 0 [] (Ret (PV.tup [pS 3 true ePiece (mapL l space a n),pB (mapOk l space a n)]) 0 []) := by
 refine t_fun tabOk (n := 78) (rs := [.tmp 8,.tmp 9]) Try.func60 rfl rfl rfl rfl (Nat.le_of_ble_eq_true rfl) ?_
 intro c hnt hk
 refine w_seq (w_R (qa hnt rfl rfl (qa hnt rfl rfl (r_end (q_then ?_)))))
 refine w_seq (w_R (qm hnt rfl rfl (qm hnt rfl rfl (qo hnt rfl (s_callX (r2 := PV.ref 0 0 none) (nx1 := 1) (H2 := []) (H3 := [(0,oB true 4 eWindow (ofL l space))]) [] [] rfl rfl rfl (handed_of (by decide) trivial) rfl rfl rfl rfl rfl rfl (w_window_of l cl_l space (by omega)) rfl (dist_of rfl) rfl rfl rfl rfl ?_)))))
 refine qa hnt rfl rfl (r_set [(2,pI a),(3,pI n),(10,PV.ref 0 0 none)] [(0,oB true 4 eWindow (ofL l space))] 1 ⟨rfl,rfl,rfl,trivial⟩ rfl rfl (r_end (q_then (w_seq (w_R ?_)))))
 refine qa hnt rfl rfl (r_end (q_then (w_seq (w_seq ?_))))
 have hle := ofL_len l space
 refine w_R (qm hnt rfl rfl (qo hnt rfl (s_lenM (l := ofL l space) tab_23 rfl (hM_ref0 (f := eWindow) rfl rfl) ?_)))
 refine qm hnt rfl rfl (r_end (q_then (w_block (w_adopt (s := 11) (sz := 2) rfl (loop2 (fun (os : List TSpan) (i : Nat) => i ≤ (ofL l space).length ∧ os = ((ofL l space).take i).map vSp) (fun (os : List TSpan) (i : Nat) => [(2,pI a),(3,pI n),(10,PV.ref 1 0 none),(11,PV.ref 0 0 none),(23,PV.ref 1 0 none),(24,pN ((ofL l space).length)),(25,pN i)]) 2 (fun (os : List TSpan) (i : Nat) => [(0,oB true 2 eSpan os),(1,oB true 4 eWindow (ofL l space))]) (fun (os : List TSpan) (i : Nat) => (ofL l space).length - i) (([] : List TSpan)) (0) ?_ ⟨[(0,1),(1,0)],by rw [hk]; decide,⟨⟨_,rfl,rfl,rfl⟩,⟨_,rfl,rfl,rfl⟩,⟨_,rfl,rfl,rfl⟩,⟨_,rfl,rfl,rfl⟩,⟨_,rfl,rfl,rfl⟩,⟨_,rfl,rfl,rfl⟩,⟨_,rfl,rfl,rfl⟩,trivial⟩,⟨⟨_,_,rfl,rfl,rfl,rfl⟩,⟨_,_,rfl,rfl,rfl,rfl⟩,trivial⟩,by rw [hk]; decide⟩ ?_)))))
 · exact ⟨by omega,rfl⟩
 ·intro os i hI
  obtain ⟨hi,hos⟩ := hI
  have hol : os.length ≤ 1000 := by rw [hos]; simp; omega
  refine w_seq (w_R (qo hnt rfl (s_lss rfl rfl ?_)))
  refine r_end (q_then (w_seq (w_if rfl (fun c1 => ?_) (fun c1 => ?_))))
  ·try simp only [sB] at c1
   refine w_skip (q_then (w_seq (w_block (w_seq (w_R ?_)))))
   refine qo hnt rfl (s_iaR0 (q := i) (f := eWindow) (l := ofL l space) tab_23 rfl tab_42 rfl rfl (by omega) rfl rfl (by omega) ?_)
   obtain ⟨e1,he1⟩ := get_of_lt (ofL l space) (i := i) (by omega)
   refine qo hnt rfl (s_ldA (b := e1) tab_42 rfl rfl rfl he1 rfl rfl ?_)
   refine qo hnt rfl (s_alloc tab_42 ?_)
   refine qo hnt rfl (s_store_ptr tab_42 rfl rfl rfl rfl rfl (Nat.le_of_ble_eq_true rfl) ?_)
   refine r_set [(2,pI a),(3,pI n),(10,PV.ref 1 0 none),(11,PV.ref 0 0 none),(13,PV.ptr 2 0),(23,PV.ref 1 0 none),(24,pN ((ofL l space).length)),(25,pN i)] [(2,.obj (cWindow e1)),(0,oB true 2 eSpan os),(1,oB true 4 eWindow (ofL l space))] 3 ⟨rfl,rfl,rfl,rfl,rfl,rfl,rfl,rfl,trivial⟩ rfl rfl (r_end (q_then (w_R (qm hnt rfl rfl (qo hnt rfl (s_load_ptr tab_42 rfl rfl rfl (Nat.le_of_ble_eq_true rfl) ?_))))))
   refine qo hnt rfl (s_callF rfl rfl rfl (w_window_virtual e1) rfl ?_)
   refine qo hnt rfl (s_mkM (f := eSpan) [vSp e1] tab_118 rfl tab_120 ⟨rfl,by decide⟩ (by decide) rfl rfl rfl rfl ?_)
   refine qo hnt rfl (s_appR0 (f := eSpan) (l := os) (xs := [vSp e1]) tab_118 rfl tab_120 ⟨rfl,by decide,by decide⟩ (srcM tab_118 rfl (hM_ref0 (f := eSpan) rfl rfl)) rfl rfl (by (simp; omega)) ?_)
   refine qa hnt rfl rfl (r_set [(2,pI a),(3,pI n),(10,PV.ref 1 0 none),(11,PV.ref 4 0 none),(23,PV.ref 1 0 none),(24,pN ((ofL l space).length)),(25,pN i)] [(4,oB true 2 eSpan (os ++ [vSp e1])),(3,oB true 2 eSpan [vSp e1]),(2,.obj (cWindow e1)),(1,oB true 4 eWindow (ofL l space))] 5 ⟨rfl,rfl,rfl,rfl,rfl,rfl,rfl,trivial⟩ rfl rfl (r_end (q_block (q_then (w_R ?_)))))
   refine qo hnt rfl (s_addN (a := i) (b := 1) rfl rfl (by omega) (by omega) (by omega) ?_)
   refine qm hnt rfl rfl (r_end (q_then (⟨(os ++ [vSp e1]),(i + 1), ?_, ?_,⟨[(0,4),(1,1)],by rw [hk]; decide,⟨⟨_,rfl,rfl,rfl⟩,⟨_,rfl,rfl,rfl⟩,⟨_,rfl,rfl,rfl⟩,⟨_,rfl,rfl,rfl⟩,⟨_,rfl,rfl,rfl⟩,⟨_,rfl,rfl,rfl⟩,⟨_,rfl,rfl,rfl⟩,trivial⟩,⟨⟨_,_,rfl,rfl,rfl,rfl⟩,⟨_,_,rfl,rfl,rfl,rfl⟩,trivial⟩,by rw [hk]; decide⟩⟩)))
   ·exact ⟨by omega,by rw [hos,List.take_add_one,he1]; simp⟩
   · omega
  try simp only [sB] at c1
  refine w_exit (q_then_exit (q_then_exit (q_block_exit (q_then (w_seq ?_)))))
  have hie : i = (ofL l space).length := by omega
  refine w_H (H' := [(0,oB true 2 eSpan ((ofL l space).map vSp)),(1,oB true 4 eWindow (ofL l space))]) (congrArg (fun z => ([(0,oB true 2 eSpan z),(1,oB true 4 eWindow (ofL l space))] : Heap)) (show os = ((ofL l space).map vSp) by rw [hos,hie,List.take_length])) (w_R (qm hnt rfl rfl (qm hnt rfl rfl (qm hnt rfl rfl (qo hnt rfl (s_build tab_120 rfl rfl (b_cons rfl tab_3 rfl rfl rfl (Nat.le_of_ble_eq_true rfl) (b_cons rfl tab_3 rfl rfl rfl (Nat.le_of_ble_eq_true rfl) (b_nil ?_)))))))))
  refine qo hnt rfl (s_callX (r2 := PV.tup [pS 2 false eSpan (coverV ((ofL l space).map vSp) (⟨a,n⟩ : TSpan)),pB (coverOk ((ofL l space).map vSp) (⟨a,n⟩ : TSpan))]) (nx1 := 2) (H2 := [(0,oB false 2 eSpan ((ofL l space).map vSp)),(1,oB true 4 eWindow (ofL l space))]) (H3 := [(0,oB false 2 eSpan ((ofL l space).map vSp)),(1,oB true 4 eWindow (ofL l space))]) [] [] rfl rfl rfl (handed_of (by decide) trivial) rfl rfl rfl rfl rfl rfl (w_span_Cover ((ofL l space).map vSp) false (⟨a,n⟩ : TSpan) (by rw [List.length_map]; omega)) rfl (dist_of rfl) rfl rfl rfl rfl ?_)
  refine qm hnt rfl rfl (qo hnt rfl (s_extract rfl rfl ?_))
  refine qo hnt rfl (s_extract rfl rfl ?_)
  refine qa hnt rfl rfl (qa hnt rfl rfl (r_set [(10,PV.ref 1 0 none),(11,PV.ref 0 0 none),(14,pS 2 false eSpan (coverV ((ofL l space).map vSp) (⟨a,n⟩ : TSpan))),(15,pB (coverOk ((ofL l space).map vSp) (⟨a,n⟩ : TSpan)))] [(0,oB false 2 eSpan ((ofL l space).map vSp)),(1,oB true 4 eWindow (ofL l space))] 2 ⟨rfl,rfl,rfl,rfl,trivial⟩ rfl rfl (r_end (q_then (w_seq ?_)))))
  refine w_eq (s := 14) (y := pS 2 false eSpan (covW l space a n)) rfl (congrArg (fun z => pS 2 false eSpan z) (show (coverV ((ofL l space).map vSp) (⟨a,n⟩ : TSpan)) = (covW l space a n) by rfl)) (w_eq (s := 15) (y := pB (mapOk l space a n)) rfl (congrArg pB (show (coverOk ((ofL l space).map vSp) (⟨a,n⟩ : TSpan)) = (mapOk l space a n) by rfl)) ?_)
  have hcl := covW_len l space a n
  refine w_R (qa hnt rfl rfl (r_end (q_then (w_seq (w_seq ?_)))))
  refine w_R (qm hnt rfl rfl (qo hnt rfl (s_lenM (l := covW l space a n) tab_118 rfl (hM_sl (f := eSpan) rfl) ?_)))
  refine qm hnt rfl rfl (r_end (q_then (w_block (w_adopt (s := 16) (sz := 3) rfl (loop2 (fun (os : List TPiece) (j : Nat) => j ≤ (covW l space a n).length ∧ os = ((covW l space a n).take j).map (pieceW (ofL l space))) (fun (os : List TPiece) (j : Nat) => [(10,PV.ref 1 0 none),(11,PV.ref 2 0 none),(15,pB (mapOk l space a n)),(16,PV.ref 0 0 none),(43,pS 2 false eSpan (covW l space a n)),(44,pN ((covW l space a n).length)),(45,pN j)]) 3 (fun (os : List TPiece) (j : Nat) => [(0,oB true 3 ePiece os),(1,oB true 4 eWindow (ofL l space)),(2,oB false 2 eSpan ((ofL l space).map vSp))]) (fun (os : List TPiece) (j : Nat) => (covW l space a n).length - j) (([] : List TPiece)) (0) ?_ ⟨[(0,2),(1,1),(2,0)],by rw [hk]; decide,⟨⟨_,rfl,rfl,rfl⟩,⟨_,rfl,rfl,rfl⟩,⟨_,rfl,rfl,rfl⟩,⟨_,rfl,rfl,rfl⟩,⟨_,rfl,rfl,rfl⟩,⟨_,rfl,rfl,rfl⟩,⟨_,rfl,rfl,rfl⟩,trivial⟩,⟨⟨_,_,rfl,rfl,rfl,rfl⟩,⟨_,_,rfl,rfl,rfl,rfl⟩,⟨_,_,rfl,rfl,rfl,rfl⟩,trivial⟩,by rw [hk]; decide⟩ ?_)))))
  · exact ⟨by omega,rfl⟩
  ·intro os j hI
   obtain ⟨hj,hos2⟩ := hI
   have hol : os.length ≤ 2147483648 := by rw [hos2]; simp; omega
   refine w_seq (w_R (qo hnt rfl (s_lss rfl rfl ?_)))
   refine r_end (q_then (w_seq (w_if rfl (fun c2 => ?_) (fun c2 => ?_))))
   ·try simp only [sB] at c2
    refine w_skip (q_then (w_seq (w_block (w_seq (w_R ?_)))))
    obtain ⟨e2,he2⟩ := get_of_lt (covW l space a n) (i := j) (by omega)
    refine qo hnt rfl (s_iaM (q := j) (b := e2) (f := eSpan) tab_118 rfl tab_120 rfl rfl (by omega) rfl he2 ?_)
    refine qo hnt rfl (s_load_ro tab_120 rfl rfl rfl ?_)
    refine qo hnt rfl (s_alloc tab_120 ?_)
    refine qo hnt rfl (s_store_ptr tab_120 rfl rfl rfl rfl rfl (Nat.le_of_ble_eq_true rfl) ?_)
    refine r_set [(10,PV.ref 1 0 none),(11,PV.ref 2 0 none),(15,pB (mapOk l space a n)),(16,PV.ref 0 0 none),(18,PV.ptr 3 0),(43,pS 2 false eSpan (covW l space a n)),(44,pN ((covW l space a n).length)),(45,pN j)] [(3,.obj (cSpan e2)),(0,oB true 3 ePiece os),(1,oB true 4 eWindow (ofL l space)),(2,oB false 2 eSpan ((ofL l space).map vSp))] 4 ⟨rfl,rfl,rfl,rfl,rfl,rfl,rfl,rfl,trivial⟩ rfl rfl (r_end (q_then (w_seq (w_R (qm hnt rfl rfl ?_)))))
    refine qo hnt rfl (s_makeFunc rfl rfl ?_)
    refine qo hnt rfl (s_callX (r2 := pI (idxI (((ofL l space).map vSp).findIdx? fun x => (spIn ⟨e2.at_,1⟩ x)))) (nx1 := 4) (H2 := [(2,oB false 2 eSpan ((ofL l space).map vSp)),(3,.obj (cSpan e2)),(0,oB true 3 ePiece os),(1,oB true 4 eWindow (ofL l space))]) (H3 := [(3,.obj (cSpan e2)),(2,oB false 2 eSpan ((ofL l space).map vSp)),(0,oB true 3 ePiece os),(1,oB true 4 eWindow (ofL l space))]) [3] [.obj (cSpan e2)] rfl rfl rfl (handed_of (by decide) ⟨rfl,trivial⟩) rfl rfl rfl rfl rfl rfl (w_slices_IndexFunc_span_Span_span_Span_c3 ((ofL l space).map vSp) false e2.at_ e2.count (by rw [List.length_map]; omega)) rfl (dist_of rfl) rfl rfl rfl rfl ?_)
    refine qa hnt rfl rfl (r_set [(10,PV.ref 1 0 none),(11,PV.ref 2 0 none),(15,pB (mapOk l space a n)),(16,PV.ref 0 0 none),(18,PV.ptr 3 0),(19,pI (idxI (((ofL l space).map vSp).findIdx? fun x => (spIn ⟨e2.at_,1⟩ x)))),(43,pS 2 false eSpan (covW l space a n)),(44,pN ((covW l space a n).length)),(45,pN j)] [(3,.obj (cSpan e2)),(2,oB false 2 eSpan ((ofL l space).map vSp)),(0,oB true 3 ePiece os),(1,oB true 4 eWindow (ofL l space))] 4 ⟨rfl,rfl,rfl,rfl,rfl,rfl,rfl,rfl,rfl,trivial⟩ rfl rfl (r_end (q_then ?_)))
    obtain ⟨ii,w,hw,hfi,hno,hin,hpc,m1,m2,m3,v1,v2,v3,v4,v5⟩ := piece_of (List.mem_of_getElem? he2)
    have hwb := (winR_iff w).1 m1
    have hil := (List.getElem?_eq_some_iff.1 hw).1
    refine w_eq (s := 19) (y := pN ii) rfl (congrArg pI (show (idxI (((ofL l space).map vSp).findIdx? fun x => (spIn ⟨e2.at_,1⟩ x))) = ((ii : Nat) : Int) by rw [hfi])) (W_drawn tabOk mixed hnt [[],[],[1],[],[],[3,4],[3,4,5],[3,4,5,6],[],[8],[3,4,5,6,7,8,9],[],[],[11,12],[11,12,13],[11,12,13,14],[3,4,5,6,7,8,9,10,11,12,13,14,15],[],[17],[1,2,3,4,5,6,7,8,9,10,11,12,13,14,15,16,17,18],[1,2,3,4,5,6,7,8,9,10,11,12,13,14,15,16,17,18,19],(.range 21),(.range 22)] (by kernel_rfl) (d_op (x_run0 [(16,PV.ref 0 0 none)] [] rfl rfl rfl rfl (s_move rfl ⟨rfl,rfl,rfl⟩) (d_op (x_run0 [(18,PV.ptr 3 0)] [] rfl rfl rfl rfl (s_fa_ptr tab_120 rfl rfl tab_3 (by decide) rfl ⟨rfl,rfl,rfl⟩) ?_)))))
    refine d_op (xL [(53,PV.ptr 3 0)] [1] [(3,.obj (cSpan e2))] rfl rfl rfl rfl rfl (s_load_ptr1 tab_3 rfl rfl rfl rfl rfl ⟨rfl,rfl,rfl⟩) ⟨rfl,trivial⟩ rfl (d_op (x_run0 [(10,PV.ref 1 0 none)] [] rfl rfl rfl rfl (s_move rfl ⟨rfl,rfl,rfl⟩) (d_op (x_run0 [(19,pN ii)] [] rfl rfl rfl rfl (s_move rfl ⟨rfl,rfl,rfl⟩) ?_)))))
    refine d_op (xL [(55,PV.ref 1 0 none),(56,pN ii)] [3,4] [(1,oB true 4 eWindow (ofL l space))] rfl rfl rfl rfl rfl (s_iaR0 (q := ii) (f := eWindow) (l := ofL l space) tab_23 rfl tab_42 rfl rfl (by omega) rfl rfl (by omega) ⟨rfl,rfl,rfl⟩) ⟨rfl,trivial⟩ rfl (d_op (x_run0 [(57,PV.ep 1 ii 0)] [3,4,5] rfl rfl rfl rfl (s_fa_ep tab_42 rfl rfl tab_3 (by decide) rfl ⟨rfl,rfl,rfl⟩) (d_op (xL [(58,PV.ep 1 ii 2)] [3,4,5,6] [(1,oB true 4 eWindow (ofL l space))] rfl rfl rfl rfl rfl (s_ldM (b := w) (f := eWindow) tab_3 rfl rfl rfl rfl hw rfl ⟨rfl,rfl,rfl⟩) ⟨rfl,trivial⟩ rfl ?_)))))
    refine d_op (x_run0 [(18,PV.ptr 3 0)] [] rfl rfl rfl rfl (s_fa_ptr tab_120 rfl rfl tab_3 (by decide) rfl ⟨rfl,rfl,rfl⟩) (d_op (xL [(60,PV.ptr 3 0)] [8] [(3,.obj (cSpan e2))] rfl rfl rfl rfl rfl (s_load_ptr1 tab_3 rfl rfl rfl rfl rfl ⟨rfl,rfl,rfl⟩) ⟨rfl,trivial⟩ rfl (d_op (x_run0 [(59,pI w.physical),(61,pI e2.at_)] [3,4,5,6,7,8,9] rfl rfl rfl rfl (s_addi (r := w.physical + e2.at_) rfl rfl rfl (by omega) ⟨rfl,rfl,rfl⟩) ?_)))))
    refine d_op (x_run0 [(10,PV.ref 1 0 none)] [] rfl rfl rfl rfl (s_move rfl ⟨rfl,rfl,rfl⟩) (d_op (x_run0 [(19,pN ii)] [] rfl rfl rfl rfl (s_move rfl ⟨rfl,rfl,rfl⟩) (d_op (xL [(63,PV.ref 1 0 none),(64,pN ii)] [11,12] [(1,oB true 4 eWindow (ofL l space))] rfl rfl rfl rfl rfl (s_iaR0 (q := ii) (f := eWindow) (l := ofL l space) tab_23 rfl tab_42 rfl rfl (by omega) rfl rfl (by omega) ⟨rfl,rfl,rfl⟩) ⟨rfl,trivial⟩ rfl ?_)))))
    refine d_op (x_run0 [(65,PV.ep 1 ii 0)] [11,12,13] rfl rfl rfl rfl (s_fa_ep tab_42 rfl rfl tab_3 (by decide) rfl ⟨rfl,rfl,rfl⟩) (d_op (xL [(66,PV.ep 1 ii 1)] [11,12,13,14] [(1,oB true 4 eWindow (ofL l space))] rfl rfl rfl rfl rfl (s_ldM (b := w) (f := eWindow) tab_3 rfl rfl rfl rfl hw rfl ⟨rfl,rfl,rfl⟩) ⟨rfl,trivial⟩ rfl (d_op (x_run0 [(62,pI (w.physical + e2.at_)),(67,pI w.virtual)] [3,4,5,6,7,8,9,10,11,12,13,14,15] rfl rfl rfl rfl (s_subi (r := (w.physical + e2.at_) - w.virtual) rfl rfl rfl (by omega) ⟨rfl,rfl,rfl⟩) ?_)))))
    refine d_op (x_run0 [(18,PV.ptr 3 0)] [] rfl rfl rfl rfl (s_fa_ptr tab_120 rfl rfl tab_3 (by decide) rfl ⟨rfl,rfl,rfl⟩) (d_op (xL [(69,PV.ptr 3 1)] [17] [(3,.obj (cSpan e2))] rfl rfl rfl rfl rfl (s_load_ptr1 tab_3 rfl rfl rfl rfl rfl ⟨rfl,rfl,rfl⟩) ⟨rfl,trivial⟩ rfl (d_op (x_run0 [(54,pI e2.at_),(68,pI ((w.physical + e2.at_) - w.virtual)),(70,pI e2.count)] [1,2,3,4,5,6,7,8,9,10,11,12,13,14,15,16,17,18] rfl rfl rfl rfl (s_build tab_83 rfl rfl (b_cons rfl tab_3 rfl rfl rfl (Nat.le_of_ble_eq_true rfl) (b_cons rfl tab_3 rfl rfl rfl (Nat.le_of_ble_eq_true rfl) (b_cons rfl tab_3 rfl rfl rfl (Nat.le_of_ble_eq_true rfl) (b_nil ⟨rfl,rfl,rfl⟩))))) ?_)))))
    refine d_op (xT [(71,PV.f (.agg [encI e2.at_,encI ((w.physical + e2.at_) - w.virtual),encI e2.count]))] [1,2,3,4,5,6,7,8,9,10,11,12,13,14,15,16,17,18,19] [] [(4,oB true 3 ePiece [(⟨e2.at_,(w.physical + e2.at_) - w.virtual,e2.count⟩ : TPiece)])] [(3,.obj (cSpan e2)),(2,oB false 2 eSpan ((ofL l space).map vSp)),(0,oB true 3 ePiece os),(1,oB true 4 eWindow (ofL l space))] rfl rfl rfl rfl rfl (s_mkM (f := ePiece) [(⟨e2.at_,(w.physical + e2.at_) - w.virtual,e2.count⟩ : TPiece)] tab_79 rfl tab_83 ⟨rfl,by decide⟩ (by decide) rfl rfl rfl rfl ⟨rfl,rfl,rfl⟩) rfl rfl (d_op (x_run [(52,PV.ref 0 0 none),(72,PV.ref 4 0 none)] (.range 21) [(4,oB true 3 ePiece [(⟨e2.at_,(w.physical + e2.at_) - w.virtual,e2.count⟩ : TPiece)])] [(0,oB true 3 ePiece os)] [(5,oB true 3 ePiece (os ++ [(⟨e2.at_,(w.physical + e2.at_) - w.virtual,e2.count⟩ : TPiece)])),(4,oB true 3 ePiece [(⟨e2.at_,(w.physical + e2.at_) - w.virtual,e2.count⟩ : TPiece)])] [(5,oB true 3 ePiece (os ++ [(⟨e2.at_,(w.physical + e2.at_) - w.virtual,e2.count⟩ : TPiece)]))] [(5,oB true 3 ePiece (os ++ [(⟨e2.at_,(w.physical + e2.at_) - w.virtual,e2.count⟩ : TPiece)])),(4,oB true 3 ePiece [(⟨e2.at_,(w.physical + e2.at_) - w.virtual,e2.count⟩ : TPiece)]),(3,.obj (cSpan e2)),(2,oB false 2 eSpan ((ofL l space).map vSp)),(1,oB true 4 eWindow (ofL l space))] rfl rfl rfl rfl rfl rfl (s_appR0 (f := ePiece) (l := os) (xs := [(⟨e2.at_,(w.physical + e2.at_) - w.virtual,e2.count⟩ : TPiece)]) tab_79 rfl tab_83 ⟨rfl,by decide,by decide⟩ (srcM tab_79 rfl (hM_ref0 (f := ePiece) rfl rfl)) rfl rfl (by (simp; omega)) ⟨rfl,rfl,rfl⟩) rfl ⟨rfl,trivial⟩ rfl rfl (d_op (x_run0 [(73,PV.ref 5 0 none)] (.range 22) rfl rfl rfl rfl (s_assign rfl ⟨rfl,rfl,rfl⟩) ?_)))))
    refine d_end ⟨by kernel_rfl, ?_⟩
    refine q_block (q_then (w_R (qo hnt rfl (s_addN (a := j) (b := 1) rfl rfl (by omega) (by omega) (by omega) ?_))))
    refine qm hnt rfl rfl (r_end (q_then (⟨(os ++ [(⟨e2.at_,(w.physical + e2.at_) - w.virtual,e2.count⟩ : TPiece)]),(j + 1), ?_, ?_,⟨[(0,5),(1,1),(2,2)],by rw [hk]; decide,⟨⟨_,rfl,rfl,rfl⟩,⟨_,rfl,rfl,rfl⟩,⟨_,rfl,rfl,rfl⟩,⟨_,rfl,rfl,rfl⟩,⟨_,rfl,rfl,rfl⟩,⟨_,rfl,rfl,rfl⟩,⟨_,rfl,rfl,rfl⟩,trivial⟩,⟨⟨_,_,rfl,rfl,rfl,rfl⟩,⟨_,_,rfl,rfl,rfl,rfl⟩,⟨_,_,rfl,rfl,rfl,rfl⟩,trivial⟩,by rw [hk]; decide⟩⟩)))
    ·exact ⟨by omega,by rw [hos2,List.take_add_one,he2]; simp [hpc]⟩
    · omega
   try simp only [sB] at c2
   refine w_exit (q_then_exit (q_then_exit (q_block_exit (q_then (w_seq ?_)))))
   have hje : j = (covW l space a n).length := by omega
   refine w_H (H' := [(0,oB true 3 ePiece (mapL l space a n)),(1,oB true 4 eWindow (ofL l space)),(2,oB false 2 eSpan ((ofL l space).map vSp))]) (congrArg (fun z => ([(0,oB true 3 ePiece z),(1,oB true 4 eWindow (ofL l space)),(2,oB false 2 eSpan ((ofL l space).map vSp))] : Heap)) (show os = (mapL l space a n) by rw [hos2,hje,List.take_length]; rfl)) (w_R (qm hnt rfl rfl (qo hnt rfl (s_callX (r2 := pS 3 true ePiece (mapL l space a n)) (nx1 := 3) (H2 := [(0,oB false 3 ePiece (mapL l space a n)),(1,oB true 4 eWindow (ofL l space)),(2,oB false 2 eSpan ((ofL l space).map vSp))]) (H3 := [(0,oB false 3 ePiece (mapL l space a n)),(1,oB true 4 eWindow (ofL l space)),(2,oB false 2 eSpan ((ofL l space).map vSp))]) [] [] rfl rfl rfl (handed_of (by decide) trivial) rfl rfl rfl rfl rfl rfl (w_slices_Clip_window_Piece_window_Piece (mapL l space a n) false) rfl (dist_of rfl) rfl rfl rfl rfl ?_))))
   refine qm hnt rfl rfl (qa hnt rfl rfl (qa hnt rfl rfl (r_set [(8,pS 3 true ePiece (mapL l space a n)),(9,pB (mapOk l space a n))] [(0,oB false 3 ePiece (mapL l space a n)),(1,oB true 4 eWindow (ofL l space)),(2,oB false 2 eSpan ((ofL l space).map vSp))] 3 ⟨rfl,rfl,trivial⟩ rfl rfl (r_end (q_then ?_)))))
   refine w_le (s := 8) (y := pS 3 true ePiece (mapL l space a n)) rfl (le_of_eq (congrArg (fun z => pS 3 true ePiece z) (show (mapL l space a n) = (mapL l space a n) by rfl))) (w_ret ?_)
   exact fin_plain (ret_tmp rfl (ret_tmp rfl ret_nil)) rfl rfl ⟨rfl,rfl,rfl⟩
end Go.Proofs.Ytlcmbkkimgdnmaa
namespace Go.Proofs.Ytlcmbkkimgdnmaa
open Go Go.Proofs.Ytlcmbkkimgdnmaa.Pv
def put2 (n : Int) : List UInt8 := [u8I (n / 2 ^ 8),u8I n]
@[simp] theorem put2_length (n : Int) : (put2 n).length = 2 := rfl
def w16 (x y : UInt8) : UInt16 := (x.toUInt16 <<< UInt16.ofNat 8) ||| y.toUInt16
def wordsL : List UInt8 → List UInt16
  | x :: y :: t => w16 x y :: wordsL t
  | _ => []
@[simp] theorem wordsL_length : ∀ (b : List UInt8),(wordsL b).length = b.length / 2
  | [] => rfl
  | [_] => by simp [wordsL]
  | a :: b :: t => by simp [wordsL,wordsL_length t]; omega
def bytesOf1 (w : UInt16) : List UInt8 := [(w >>> UInt16.ofNat 8).toUInt8,w.toUInt8]
def bytesL (l : List UInt16) : List UInt8 := l.flatMap bytesOf1
@[simp] theorem bytesL_length (l : List UInt16) : (bytesL l).length = 2 * l.length := by
  induction l with
  | nil => rfl
  | cons a t ih => simp [bytesL,bytesOf1] at ih ⊢; omega
def bitB (x : UInt8) (t : Nat) : Bool := x.toBitVec.getLsbD t
def mkByte (f : Nat → Bool) : UInt8 := ⟨BitVec.ofBoolListLE [f 0,f 1,f 2,f 3,f 4,f 5,f 6,f 7]⟩
def packT (l : List Bool) (i : Nat) : List UInt8 := (List.range ((l.length + 7) / 8)).map fun j => mkByte fun k => decide (8 * j + k < i) && l.getD (8 * j + k) false
def packL (l : List Bool) : List UInt8 := (List.range ((l.length + 7) / 8)).map fun j => mkByte fun k => l.getD (8 * j + k) false
@[simp] theorem packT_length (l : List Bool) (i : Nat) : (packT l i).length = (l.length + 7) / 8 := by simp [packT]
@[simp] theorem packL_length (l : List Bool) : (packL l).length = (l.length + 7) / 8 := by simp [packL]
def bitOf (b : List UInt8) (i : Nat) : Bool := bitB (b.getD (i / 8) 0) (i % 8)
def openT (b : List UInt8) (n i : Nat) : List Bool := (List.range n).map fun j => decide (j < i) && bitOf b j
@[simp] theorem openT_length (b : List UInt8) (n i : Nat) : (openT b n i).length = n := by simp [openT]
end Go.Proofs.Ytlcmbkkimgdnmaa
set_option linter.unusedVariables false
namespace Go.Proofs.Ytlcmbkkimgdnmaa
open Go Go.Proofs.Ytlcmbkkimgdnmaa.Pv
def hasF (n : Int) : Bool := decide ((1 ≤ n ∧ n ≤ 6) ∨ n = 8 ∨ n = 15 ∨ n = 16 ∨ n = 17 ∨ n = 22 ∨ n = 23)
theorem hasF_of {n : Int} (h : hasF n = true) : n = 1 ∨ n = 2 ∨ n = 3 ∨ n = 4 ∨ n = 5 ∨ n = 6 ∨ n = 8 ∨ n = 15 ∨ n = 16 ∨ n = 17 ∨ n = 22 ∨ n = 23 := by
  have := of_decide_eq_true h; omega
def wordOk (n : Int) : Bool := decide (0 ≤ n ∧ n ≤ 65535)
def usesS (n : Int) : List UInt8 := if n = 1 ∨ n = 2 ∨ n = 3 ∨ n = 4 then [97,99] else if n = 5 then [97,98] else if n = 6 then [97,118] else if n = 8 then [115,118] else if n = 15 then [97,99,98] else if n = 16 then [97,99,118] else if n = 22 then [97,109] else if n = 23 then [97,99,119,118] else []
def inS (s : List UInt8) (c : UInt8) : Bool := decide (c ∈ s)
def listsR (q : TRequest) : Bool :=
  if q.fn = 5 then decide (q.bits.length = 1) else if q.fn = 6 ∨ q.fn = 8 then decide (q.vals.length = 1) else if q.fn = 15 then decide ((q.bits.length : Int) = q.count ∧ q.bits.length ≤ 2040)
  else if q.fn = 16 then decide ((q.vals.length : Int) = q.count ∧ q.vals.length ≤ 127) else if q.fn = 23 then decide (q.vals.length ≤ 127) else true
def badA (r : TRequest) : Bool := (((((((!(inS (usesS r.fn) 97)) && (!decide (r.at_ = 0))) || ((!(inS (usesS r.fn) 99)) && (!decide (r.count = 0)))) || ((!(inS (usesS r.fn) 119)) && (!decide (r.wAt = 0)))) || ((!(inS (usesS r.fn) 115)) && (!decide (r.sub = 0)))) || ((!(inS (usesS r.fn) 98)) && (decide (0 < ((r.bits.length : Nat) : Int))))) || ((!(inS (usesS r.fn) 118)) && (decide (0 < ((r.vals.length : Nat) : Int))))) || ((!(inS (usesS r.fn) 109)) && ((!decide (r.and_ = 0)) || (!decide (r.or_ = 0))))
def badB (r : TRequest) : Bool := ((((!(wordOk r.at_)) || (!(wordOk r.count))) || (!(wordOk r.wAt))) || (!(wordOk r.sub))) || (!(listsR r))
def rightR (q : TRequest) : Int := if (!(hasF q.fn)) = true then 15 else if badA q = true then 12 else if badB q = true then 12 else 0
theorem rightR_1 {q : TRequest} (h : (!(hasF q.fn)) = true) : rightR q = 15 := by unfold rightR; rw [if_pos h]
theorem rightR_2 {q : TRequest} (h : (!(hasF q.fn)) = false) (h2 : badA q = true) : rightR q = 12 := by unfold rightR; rw [if_neg (by simp [h]),if_pos h2]
theorem rightR_3 {q : TRequest} (h : (!(hasF q.fn)) = false) (h2 : badA q = false) (h3 : badB q = true) : rightR q = 12 := by unfold rightR; rw [if_neg (by simp [h]),if_neg (by simp [h2]),if_pos h3]
theorem rightR_4 {q : TRequest} (h : (!(hasF q.fn)) = false) (h2 : badA q = false) (h3 : badB q = false) : rightR q = 0 := by unfold rightR; rw [if_neg (by simp [h]),if_neg (by simp [h2]),if_neg (by simp [h3])]
theorem in_all {n : Int} (h : hasF n = true) : inS (usesS n) 97 = decide (n ≠ 8 ∧ n ≠ 17) ∧ inS (usesS n) 99 = decide (n ≤ 4 ∨ n = 15 ∨ n = 16 ∨ n = 23) ∧ inS (usesS n) 119 = decide (n = 23) ∧ inS (usesS n) 115 = decide (n = 8) ∧
    inS (usesS n) 98 = decide (n = 5 ∨ n = 15) ∧ inS (usesS n) 118 = decide (n = 6 ∨ n = 8 ∨ n = 16 ∨ n = 23) ∧ inS (usesS n) 109 = decide (n = 22) := by
  rcases hasF_of h with h|h|h|h|h|h|h|h|h|h|h|h <;> subst h <;> decide
theorem u16z {x : UInt16} : x = 0 ↔ x.toNat = 0 := ⟨fun h => by rw [h]; rfl,fun h => UInt16.toNat_inj.1 h⟩
structure ShapeR (q : TRequest) : Prop where
  wa : 0 ≤ q.at_ ∧ q.at_ ≤ 65535
  wc : 0 ≤ q.count ∧ q.count ≤ 65535
  ww : 0 ≤ q.wAt ∧ q.wAt ≤ 65535
  ws : 0 ≤ q.sub ∧ q.sub ≤ 65535
  za : (q.fn = 8 ∨ q.fn = 17) → q.at_ = 0
  zc : ¬ (q.fn ≤ 4 ∨ q.fn = 15 ∨ q.fn = 16 ∨ q.fn = 23) → q.count = 0
  zw : q.fn ≠ 23 → q.wAt = 0
  zs : q.fn ≠ 8 → q.sub = 0
  zm : q.fn ≠ 22 → q.and_.toNat = 0 ∧ q.or_.toNat = 0
  bits : if q.fn = 5 then q.bits.length = 1 else if q.fn = 15 then (q.bits.length : Int) = q.count ∧ q.bits.length ≤ 2040 else q.bits.length = 0
  vals : if q.fn = 6 ∨ q.fn = 8 then q.vals.length = 1 else if q.fn = 16 then (q.vals.length : Int) = q.count ∧ q.vals.length ≤ 127 else if q.fn = 23 then q.vals.length ≤ 127 else q.vals.length = 0
theorem shapeR_iff {q : TRequest} (h : hasF q.fn = true) : rightR q = 0 ↔ ShapeR q := by
  obtain ⟨ia,ic,iw,is,ib,iv,im⟩ := in_all h
  have h0 : (!(hasF q.fn)) = false := by simp [h]
  have e : rightR q = 0 ↔ badA q = false ∧ badB q = false := by
    cases ha : badA q with
    | true => rw [rightR_2 h0 ha]; simp
    | false =>
      cases hb : badB q with
      | true => rw [rightR_3 h0 ha hb]; simp
      | false => rw [rightR_4 h0 ha hb]; simp
  rw [e]
  unfold badA badB
  rw [ia,ic,iw,is,ib,iv,im]
  have hz := @u16z q.and_
  have hz2 := @u16z q.or_
  have hf := hasF_of h
  simp only [Bool.or_eq_false_iff,Bool.and_eq_false_iff,Bool.not_eq_false',decide_eq_true_eq,decide_eq_false_iff_not,wordOk,hz,hz2]
  constructor
  · rintro ⟨⟨⟨⟨⟨⟨⟨a1,a2⟩,a3⟩,a4⟩,a5⟩,a6⟩,a7⟩,⟨⟨⟨b1,b2⟩,b3⟩,b4⟩,b5⟩
    unfold listsR at b5
    refine ⟨b1,b2,b3,b4,by omega,by omega,by omega,by omega,by omega, ?_, ?_⟩
    · repeat' split
      all_goals (repeat' split at b5) <;> first|omega|(simp only [decide_eq_true_eq] at b5; omega)
    · repeat' split
      all_goals (repeat' split at b5) <;> first|omega|(simp only [decide_eq_true_eq] at b5; omega)
  · rintro ⟨wa,wc,ww,ws,za,zc,zw,zs,zm,hb,hv⟩
    refine ⟨⟨⟨⟨⟨⟨⟨by omega,by omega⟩,by omega⟩,by omega⟩, ?_⟩, ?_⟩,by omega⟩,⟨⟨⟨wa,wc⟩,ww⟩,ws⟩, ?_⟩
    · repeat' split at hb
      all_goals omega
    · repeat' split at hv
      all_goals omega
    · unfold listsR
      repeat' split
      all_goals first|rfl|(apply decide_eq_true; (repeat' split at hb) <;> (repeat' split at hv) <;> omega)
theorem rightR_form {q : TRequest} (h : hasF q.fn = true) (h2 : ¬ ShapeR q) : rightR q = 12 := by
  have h0 : (!(hasF q.fn)) = false := by simp [h]
  cases ha : badA q with
  | true => exact rightR_2 h0 ha
  | false =>
    cases hb : badB q with
    | true => exact rightR_3 h0 ha hb
    | false => exact absurd ((shapeR_iff h).1 (rightR_4 h0 ha hb)) h2
theorem rightR_zero {q : TRequest} (h : rightR q = 0) : hasF q.fn = true ∧ ShapeR q := by
  cases hf : hasF q.fn with
  | true => exact ⟨rfl,(shapeR_iff hf).1 h⟩
  | false => rw [rightR_1 (by simp [hf])] at h; cases h
def rowX (x : List UInt8) : List UInt8 := UInt8.ofNat x.length :: x
@[simp] theorem rowX_length (x : List UInt8) : (rowX x).length = x.length + 1 := by simp [rowX]
theorem shape_small {q : TRequest} (h : ShapeR q) : q.bits.length ≤ 2040 ∧ q.vals.length ≤ 127 := by
  obtain ⟨wa,wc,ww,ws,za,zc,zw,zs,zm,hb,hv⟩ := h
  constructor
  · repeat' split at hb
    all_goals omega
  · repeat' split at hv
    all_goals omega
end Go.Proofs.Ytlcmbkkimgdnmaa
set_option linter.unusedVariables false
namespace Go.Proofs.Ytlcmbkkimgdnmaa
open Go Go.Proofs.Ytlcmbkkimgdnmaa.Pv
def tNext (L : List Int) (a : Nat) (n : Int) : Int := if L.length ≤ a ∨ n < 1 then 0 else (within (L.getD a 0) 0 1073741824).tmod n
def tStep (L : List Int) (a : Nat) (n : Int) : Nat := if L.length ≤ a ∨ n < 1 then a else a + 1
theorem tNext_lt (L : List Int) (a : Nat) {n : Int} (h : 1 ≤ n) : 0 ≤ tNext L a n ∧ tNext L a n < n := by
  unfold tNext
  split
  · omega
  · have := within_between (L.getD a 0) (lo := 0) (hi := 1073741824) (by decide)
    exact ⟨Int.tmod_nonneg _ this.1,Int.tmod_lt_of_pos _ (by omega)⟩
def fnsL : List Int := [1,2,3,4,5,6,8,15,16,17,22,23]
section
variable {L : List Int} {f w : Int} {a : Nat}
end
theorem fns_has {i : Nat} {f : Int} (h : fnsL[i]? = some f) : hasF f = true := by
  have hz := List.mem_of_getElem? h
  simp only [fnsL,List.mem_cons,List.not_mem_nil,or_false] at hz
  unfold hasF
  exact decide_eq_true (by omega)
end Go.Proofs.Ytlcmbkkimgdnmaa
set_option linter.unusedVariables false
namespace Go.Proofs.Ytlcmbkkimgdnmaa
open Go Go.Proofs.Ytlcmbkkimgdnmaa.Pv
def bitsN (q : TRequest) : Int := if q.fn = 5 then 1 else if q.fn = 15 then q.count else 0
def valsN (q : TRequest) : Int := if q.fn = 6 ∨ q.fn = 8 then 1 else if q.fn = 16 then q.count else if q.fn = 23 then ((q.vals.length : Nat) : Int) else 0
def fieldsP (q : TRequest) : Bool := decide (((q.fn ≠ 8 ∧ q.fn ≠ 17) ∨ q.at_ = 0) ∧ (((1 ≤ q.fn ∧ q.fn ≤ 4) ∨ q.fn = 15 ∨ q.fn = 16 ∨ q.fn = 23) ∨ q.count = 0) ∧ (q.fn = 23 ∨ q.wAt = 0) ∧ (q.fn = 8 ∨ q.sub = 0) ∧ (q.fn = 22 ∨ (q.and_.toNat = 0 ∧ q.or_.toNat = 0)))
def restP (q : TRequest) : Bool := ((((!(fieldsP q)) || (!(wordOk q.at_))) || (!(wordOk q.wAt))) || (!(wordOk q.sub))) || (!(wordOk q.count))
theorem shape_P {q : TRequest} (hf : hasF q.fn = true) : ShapeR q ↔ restP q = false ∧ ((q.bits.length : Nat) : Int) = bitsN q ∧ ((q.vals.length : Nat) : Int) = valsN q ∧ q.bits.length ≤ 2040 ∧ q.vals.length ≤ 127 := by
  have hc := hasF_of hf
  unfold restP fieldsP wordOk bitsN valsN
  simp only [Bool.or_eq_false_iff,Bool.not_eq_false',decide_eq_true_eq]
  constructor
  · rintro ⟨wa,wc,ww,ws,za,zc,zw,zs,zm,hb,hv⟩
    refine ⟨⟨⟨⟨⟨⟨by omega,by omega,by omega,by omega,by omega⟩,wa⟩,ww⟩,ws⟩,wc⟩, ?_, ?_, ?_, ?_⟩
    · repeat' split at hb
      all_goals (repeat' split) <;> omega
    · repeat' split at hv
      all_goals (repeat' split) <;> omega
    · repeat' split at hb
      all_goals omega
    · repeat' split at hv
      all_goals omega
  · rintro ⟨⟨⟨⟨⟨⟨a1,a2,a3,a4,a5⟩,wa⟩,ww⟩,ws⟩,wc⟩,hb,hv,hb2,hv2⟩
    refine ⟨wa,wc,ww,ws,by omega,by omega,by omega,by omega,by omega, ?_, ?_⟩
    · repeat' split at hb
      all_goals (repeat' split) <;> omega
    · repeat' split at hv
      all_goals (repeat' split) <;> omega
theorem right_P {q : TRequest} (hf : hasF q.fn = true) (h1 : restP q = false) (h2 : ((q.bits.length : Nat) : Int) = bitsN q) (h3 : ((q.vals.length : Nat) : Int) = valsN q) (h4 : q.bits.length ≤ 2040) (h5 : q.vals.length ≤ 127) : rightR q = 0 :=
  (shapeR_iff hf).2 ((shape_P hf).2 ⟨h1,h2,h3,h4,h5⟩)
theorem wrong_P {q : TRequest} (hf : hasF q.fn = true) (h : ¬ (restP q = false ∧ ((q.bits.length : Nat) : Int) = bitsN q ∧ ((q.vals.length : Nat) : Int) = valsN q ∧ q.bits.length ≤ 2040 ∧ q.vals.length ≤ 127)) : rightR q = 12 :=
  rightR_form hf fun hs => h ((shape_P hf).1 hs)
end Go.Proofs.Ytlcmbkkimgdnmaa
set_option linter.unusedVariables false
set_option linter.unusedSimpArgs false
set_option maxRecDepth 10000
set_option maxHeartbeats 1000000
namespace Go.Proofs.Ytlcmbkkimgdnmaa
open Go Go.Proofs.Ytlcmbkkimgdnmaa.Pv
theorem w_pdu_within (n : Int)  :
    T Try.prog 64 [pI n] 0 [] (Ret (pB (wordOk n)) 0 []) := by
 refine t_fun tabOk (n := 9) (rs := [.tmp 2]) Try.func64 rfl rfl rfl rfl (Nat.le_of_ble_eq_true rfl) ?_
 intro c hnt hk
 refine w_seq (w_R (qa hnt rfl rfl (r_end (q_then (w_seq ?_)))))
 refine w_R (qm hnt rfl rfl (qo hnt rfl (s_geq rfl rfl ?_)))
 refine qm hnt rfl rfl (r_cut0 3 [(2,pB false),(8,pB ((decide (0 ≤ n)) && (decide (n ≤ 65535))))] ?_ ?_)
 ·refine r_if tabOk hnt rfl rfl rfl (fun g1 => ?_) (fun g1 => ?_)
  ·have g1' := g1
   try simp only [sB] at g1'
   refine qm hnt rfl rfl (ry hnt rfl rfl rfl g1 (qo hnt rfl (s_leq rfl rfl ?_)))
   refine qo hnt rfl (s_pick_t rfl g1 rfl ?_)
   refine r_eq (s := 8) (y := pB ((decide (0 ≤ n)) && (decide (n ≤ 65535)))) rfl (mix_at g1) ?_
   exact r_mid ⟨⟨rfl,rfl,trivial⟩,rfl,rfl⟩
  ·have g1' := g1
   try simp only [sB] at g1'
   refine rn hnt rfl rfl rfl g1 (qo hnt rfl (s_pick_f rfl g1 rfl ?_))
   refine r_eq (s := 8) (y := pB ((decide (0 ≤ n)) && (decide (n ≤ 65535)))) rfl (mix_af _ g1) ?_
   exact r_mid ⟨⟨rfl,rfl,trivial⟩,rfl,rfl⟩
 ·refine qa hnt rfl rfl (r_end (q_then (w_le (s := 2) (y := pB (wordOk n)) rfl (le_of_eq (congrArg pB (show ((decide (0 ≤ n)) && (decide (n ≤ 65535))) = (wordOk n) by unfold wordOk; apply Bool.eq_iff_iff.2; simp only [Bool.and_eq_true,Bool.or_eq_true,Bool.not_eq_true',decide_eq_true_eq,decide_eq_false_iff_not,u16z]; try omega))) (w_ret ?_))))
  exact fin_plain (ret_tmp rfl ret_nil) rfl rfl ⟨rfl,rfl,rfl⟩
theorem w_pdu_function (n : Int)  :
    T Try.prog 62 [pI n] 0 [] (Ret (pB (hasF n)) 0 []) := by
 refine t_fun tabOk (n := 17) (rs := [.tmp 2]) Try.func62 rfl rfl rfl rfl (Nat.le_of_ble_eq_true rfl) ?_
 intro c hnt hk
 refine w_seq (w_R (qa hnt rfl rfl (r_end (q_then (w_seq ?_)))))
 refine w_seq (w_R (qm hnt rfl rfl (r_end (q_then (w_block ?_)))))
 refine w_seq (w_seq (w_R (qo hnt rfl (s_eql rfl rfl ?_))))
 refine qa hnt rfl rfl (r_end (q_then (w_if rfl (fun c1 => ?_) (fun c1 => ?_))))
 ·have c1_ := c1
  try simp only [sB] at c1
  refine w_skip (q_then (w_if rfl (fun _ => ?_) (fun e => absurd (e.symm.trans c1_) (by decide))))
  refine w_seq (w_R (qa hnt rfl rfl (r_end (q_then (w_le (s := 2) (y := pB (hasF n)) rfl (le_of_eq (congrArg pB (show true = (hasF n) by exact (decide_eq_true (by omega)).symm))) ?_)))))
  refine w_ret (q_block_ret (q_then_ret ?_))
  exact fin_plain (ret_tmp rfl ret_nil) rfl rfl ⟨rfl,rfl,rfl⟩
 have c1_ := c1
 try simp only [sB] at c1
 refine w_seq (w_R (qo hnt rfl (s_eql rfl rfl ?_)))
 refine qa hnt rfl rfl (r_end (q_then (w_if rfl (fun c2 => ?_) (fun c2 => ?_))))
 ·have c2_ := c2
  try simp only [sB] at c2
  refine w_skip (q_then (w_if rfl (fun _ => ?_) (fun e => absurd (e.symm.trans c2_) (by decide))))
  refine w_seq (w_R (qa hnt rfl rfl (r_end (q_then (w_le (s := 2) (y := pB (hasF n)) rfl (le_of_eq (congrArg pB (show true = (hasF n) by exact (decide_eq_true (by omega)).symm))) ?_)))))
  refine w_ret (q_block_ret (q_then_ret ?_))
  exact fin_plain (ret_tmp rfl ret_nil) rfl rfl ⟨rfl,rfl,rfl⟩
 have c2_ := c2
 try simp only [sB] at c2
 refine w_seq (w_R (qo hnt rfl (s_eql rfl rfl ?_)))
 refine qa hnt rfl rfl (r_end (q_then (w_if rfl (fun c3 => ?_) (fun c3 => ?_))))
 ·have c3_ := c3
  try simp only [sB] at c3
  refine w_skip (q_then (w_if rfl (fun _ => ?_) (fun e => absurd (e.symm.trans c3_) (by decide))))
  refine w_seq (w_R (qa hnt rfl rfl (r_end (q_then (w_le (s := 2) (y := pB (hasF n)) rfl (le_of_eq (congrArg pB (show true = (hasF n) by exact (decide_eq_true (by omega)).symm))) ?_)))))
  refine w_ret (q_block_ret (q_then_ret ?_))
  exact fin_plain (ret_tmp rfl ret_nil) rfl rfl ⟨rfl,rfl,rfl⟩
 have c3_ := c3
 try simp only [sB] at c3
 refine w_seq (w_R (qo hnt rfl (s_eql rfl rfl ?_)))
 refine qa hnt rfl rfl (r_end (q_then (w_if rfl (fun c4 => ?_) (fun c4 => ?_))))
 ·have c4_ := c4
  try simp only [sB] at c4
  refine w_skip (q_then (w_if rfl (fun _ => ?_) (fun e => absurd (e.symm.trans c4_) (by decide))))
  refine w_seq (w_R (qa hnt rfl rfl (r_end (q_then (w_le (s := 2) (y := pB (hasF n)) rfl (le_of_eq (congrArg pB (show true = (hasF n) by exact (decide_eq_true (by omega)).symm))) ?_)))))
  refine w_ret (q_block_ret (q_then_ret ?_))
  exact fin_plain (ret_tmp rfl ret_nil) rfl rfl ⟨rfl,rfl,rfl⟩
 have c4_ := c4
 try simp only [sB] at c4
 refine w_seq (w_R (qo hnt rfl (s_eql rfl rfl ?_)))
 refine qa hnt rfl rfl (r_end (q_then (w_if rfl (fun c5 => ?_) (fun c5 => ?_))))
 ·have c5_ := c5
  try simp only [sB] at c5
  refine w_skip (q_then (w_if rfl (fun _ => ?_) (fun e => absurd (e.symm.trans c5_) (by decide))))
  refine w_seq (w_R (qa hnt rfl rfl (r_end (q_then (w_le (s := 2) (y := pB (hasF n)) rfl (le_of_eq (congrArg pB (show true = (hasF n) by exact (decide_eq_true (by omega)).symm))) ?_)))))
  refine w_ret (q_block_ret (q_then_ret ?_))
  exact fin_plain (ret_tmp rfl ret_nil) rfl rfl ⟨rfl,rfl,rfl⟩
 have c5_ := c5
 try simp only [sB] at c5
 refine w_seq (w_R (qo hnt rfl (s_eql rfl rfl ?_)))
 refine qa hnt rfl rfl (r_end (q_then (w_if rfl (fun c6 => ?_) (fun c6 => ?_))))
 ·have c6_ := c6
  try simp only [sB] at c6
  refine w_skip (q_then (w_if rfl (fun _ => ?_) (fun e => absurd (e.symm.trans c6_) (by decide))))
  refine w_seq (w_R (qa hnt rfl rfl (r_end (q_then (w_le (s := 2) (y := pB (hasF n)) rfl (le_of_eq (congrArg pB (show true = (hasF n) by exact (decide_eq_true (by omega)).symm))) ?_)))))
  refine w_ret (q_block_ret (q_then_ret ?_))
  exact fin_plain (ret_tmp rfl ret_nil) rfl rfl ⟨rfl,rfl,rfl⟩
 have c6_ := c6
 try simp only [sB] at c6
 refine w_seq (w_R (qo hnt rfl (s_eql rfl rfl ?_)))
 refine qa hnt rfl rfl (r_end (q_then (w_if rfl (fun c7 => ?_) (fun c7 => ?_))))
 ·have c7_ := c7
  try simp only [sB] at c7
  refine w_skip (q_then (w_if rfl (fun _ => ?_) (fun e => absurd (e.symm.trans c7_) (by decide))))
  refine w_seq (w_R (qa hnt rfl rfl (r_end (q_then (w_le (s := 2) (y := pB (hasF n)) rfl (le_of_eq (congrArg pB (show true = (hasF n) by exact (decide_eq_true (by omega)).symm))) ?_)))))
  refine w_ret (q_block_ret (q_then_ret ?_))
  exact fin_plain (ret_tmp rfl ret_nil) rfl rfl ⟨rfl,rfl,rfl⟩
 have c7_ := c7
 try simp only [sB] at c7
 refine w_seq (w_R (qo hnt rfl (s_eql rfl rfl ?_)))
 refine qa hnt rfl rfl (r_end (q_then (w_if rfl (fun c8 => ?_) (fun c8 => ?_))))
 ·have c8_ := c8
  try simp only [sB] at c8
  refine w_skip (q_then (w_if rfl (fun _ => ?_) (fun e => absurd (e.symm.trans c8_) (by decide))))
  refine w_seq (w_R (qa hnt rfl rfl (r_end (q_then (w_le (s := 2) (y := pB (hasF n)) rfl (le_of_eq (congrArg pB (show true = (hasF n) by exact (decide_eq_true (by omega)).symm))) ?_)))))
  refine w_ret (q_block_ret (q_then_ret ?_))
  exact fin_plain (ret_tmp rfl ret_nil) rfl rfl ⟨rfl,rfl,rfl⟩
 have c8_ := c8
 try simp only [sB] at c8
 refine w_seq (w_R (qo hnt rfl (s_eql rfl rfl ?_)))
 refine qa hnt rfl rfl (r_end (q_then (w_if rfl (fun c9 => ?_) (fun c9 => ?_))))
 ·have c9_ := c9
  try simp only [sB] at c9
  refine w_skip (q_then (w_if rfl (fun _ => ?_) (fun e => absurd (e.symm.trans c9_) (by decide))))
  refine w_seq (w_R (qa hnt rfl rfl (r_end (q_then (w_le (s := 2) (y := pB (hasF n)) rfl (le_of_eq (congrArg pB (show true = (hasF n) by exact (decide_eq_true (by omega)).symm))) ?_)))))
  refine w_ret (q_block_ret (q_then_ret ?_))
  exact fin_plain (ret_tmp rfl ret_nil) rfl rfl ⟨rfl,rfl,rfl⟩
 have c9_ := c9
 try simp only [sB] at c9
 refine w_seq (w_R (qo hnt rfl (s_eql rfl rfl ?_)))
 refine qa hnt rfl rfl (r_end (q_then (w_if rfl (fun c10 => ?_) (fun c10 => ?_))))
 ·have c10_ := c10
  try simp only [sB] at c10
  refine w_skip (q_then (w_if rfl (fun _ => ?_) (fun e => absurd (e.symm.trans c10_) (by decide))))
  refine w_seq (w_R (qa hnt rfl rfl (r_end (q_then (w_le (s := 2) (y := pB (hasF n)) rfl (le_of_eq (congrArg pB (show true = (hasF n) by exact (decide_eq_true (by omega)).symm))) ?_)))))
  refine w_ret (q_block_ret (q_then_ret ?_))
  exact fin_plain (ret_tmp rfl ret_nil) rfl rfl ⟨rfl,rfl,rfl⟩
 have c10_ := c10
 try simp only [sB] at c10
 refine w_seq (w_R (qo hnt rfl (s_eql rfl rfl ?_)))
 refine qa hnt rfl rfl (r_end (q_then (w_if rfl (fun c11 => ?_) (fun c11 => ?_))))
 ·have c11_ := c11
  try simp only [sB] at c11
  refine w_skip (q_then (w_if rfl (fun _ => ?_) (fun e => absurd (e.symm.trans c11_) (by decide))))
  refine w_seq (w_R (qa hnt rfl rfl (r_end (q_then (w_le (s := 2) (y := pB (hasF n)) rfl (le_of_eq (congrArg pB (show true = (hasF n) by exact (decide_eq_true (by omega)).symm))) ?_)))))
  refine w_ret (q_block_ret (q_then_ret ?_))
  exact fin_plain (ret_tmp rfl ret_nil) rfl rfl ⟨rfl,rfl,rfl⟩
 have c11_ := c11
 try simp only [sB] at c11
 refine w_R (qo hnt rfl (s_eql rfl rfl ?_))
 refine qa hnt rfl rfl (r_end (q_then (w_if rfl (fun c12 => ?_) (fun c12 => ?_))))
 ·try simp only [sB] at c12
  refine w_seq (w_R (qa hnt rfl rfl (r_end (q_then (w_le (s := 2) (y := pB (hasF n)) rfl (le_of_eq (congrArg pB (show true = (hasF n) by exact (decide_eq_true (by omega)).symm))) ?_)))))
  refine w_ret (q_block_ret (q_then_ret ?_))
  exact fin_plain (ret_tmp rfl ret_nil) rfl rfl ⟨rfl,rfl,rfl⟩
 try simp only [sB] at c12
 refine w_skip (q_block (q_then (w_seq (w_R (qa hnt rfl rfl ?_)))))
 refine r_end (q_then (w_le (s := 2) (y := pB (hasF n)) rfl (le_of_eq (congrArg pB (show false = (hasF n) by exact (decide_eq_false (by omega)).symm))) (w_ret ?_)))
 exact fin_plain (ret_tmp rfl ret_nil) rfl rfl ⟨rfl,rfl,rfl⟩
theorem w_pdu_reads (n : Int)  :
    T Try.prog 82 [pI n] 0 [] (Ret (pB (decide (1 ≤ n ∧ n ≤ 4))) 0 []) := by
 refine t_fun tabOk (n := 9) (rs := [.tmp 2]) Try.func82 rfl rfl rfl rfl (Nat.le_of_ble_eq_true rfl) ?_
 intro c hnt hk
 refine w_seq (w_R (qa hnt rfl rfl (r_end (q_then (w_seq ?_)))))
 refine w_R (qm hnt rfl rfl (qo hnt rfl (s_geq rfl rfl ?_)))
 refine qm hnt rfl rfl (r_cut0 3 [(2,pB false),(8,pB ((decide (1 ≤ n)) && (decide (n ≤ 4))))] ?_ ?_)
 ·refine r_if tabOk hnt rfl rfl rfl (fun g1 => ?_) (fun g1 => ?_)
  ·have g1' := g1
   try simp only [sB] at g1'
   refine qm hnt rfl rfl (ry hnt rfl rfl rfl g1 (qo hnt rfl (s_leq rfl rfl ?_)))
   refine qo hnt rfl (s_pick_t rfl g1 rfl ?_)
   refine r_eq (s := 8) (y := pB ((decide (1 ≤ n)) && (decide (n ≤ 4)))) rfl (mix_at g1) ?_
   exact r_mid ⟨⟨rfl,rfl,trivial⟩,rfl,rfl⟩
  ·have g1' := g1
   try simp only [sB] at g1'
   refine rn hnt rfl rfl rfl g1 (qo hnt rfl (s_pick_f rfl g1 rfl ?_))
   refine r_eq (s := 8) (y := pB ((decide (1 ≤ n)) && (decide (n ≤ 4)))) rfl (mix_af _ g1) ?_
   exact r_mid ⟨⟨rfl,rfl,trivial⟩,rfl,rfl⟩
 ·refine qa hnt rfl rfl (r_end (q_then (w_le (s := 2) (y := pB (decide (1 ≤ n ∧ n ≤ 4))) rfl (le_of_eq (congrArg pB (show ((decide (1 ≤ n)) && (decide (n ≤ 4))) = (decide (1 ≤ n ∧ n ≤ 4)) by apply Bool.eq_iff_iff.2; simp only [Bool.and_eq_true,Bool.or_eq_true,Bool.not_eq_true',decide_eq_true_eq,decide_eq_false_iff_not,u16z]; try omega))) (w_ret ?_))))
  exact fin_plain (ret_tmp rfl ret_nil) rfl rfl ⟨rfl,rfl,rfl⟩
theorem w_pdu_bits (r : TRequest) (hb : r.bits.length ≤ 140737488351232) (hv : r.vals.length ≤ 140737488351232) :
    T Try.prog 65 [PV.f (eRequest r)] 0 [] (Ret (pI (bitsN r)) 0 []) := by
 refine t_fun tabOk (n := 11) (rs := [.tmp 2]) Try.func65 rfl rfl rfl rfl (Nat.le_of_ble_eq_true rfl) ?_
 intro c hnt hk
 refine w_seq (w_R (qo hnt rfl (s_box rfl rfl ?_)))
 refine qa hnt rfl rfl (r_set [(1,PV.ptr 0 0)] [(0,.obj (cRequest r))] 1 ⟨rfl,trivial⟩ rfl rfl (r_end (q_then (w_seq (w_seq ?_)))))
 refine w_R (qo hnt rfl (s_fa_ptr tab_37 rfl rfl tab_3 (by decide) rfl ?_))
 refine qo hnt rfl (s_load_ptr1 tab_3 rfl rfl rfl rfl rfl ?_)
 refine r_end (q_then (w_block (w_seq (w_R (qo hnt rfl (s_eql rfl rfl ?_))))))
 refine qa hnt rfl rfl (r_end (q_then (w_if rfl (fun c1 => ?_) (fun c1 => ?_))))
 ·try simp only [sB] at c1
  refine w_seq (w_R (qa hnt rfl rfl (r_end (q_then (w_le (s := 2) (y := pI (bitsN r)) rfl (le_of_eq (congrArg pI (show 1 = (bitsN r) by unfold bitsN; (repeat' split) <;> rfl))) ?_)))))
  refine w_ret (q_block_ret (q_then_ret ?_))
  exact fin_plain (ret_tmp rfl ret_nil) rfl rfl ⟨rfl,rfl,rfl⟩
 try simp only [sB] at c1
 refine w_seq (w_R (qo hnt rfl (s_eql rfl rfl ?_)))
 refine qa hnt rfl rfl (r_end (q_then (w_if rfl (fun c2 => ?_) (fun c2 => ?_))))
 ·try simp only [sB] at c2
  refine w_seq (w_R (qo hnt rfl (s_fa_ptr tab_37 rfl rfl tab_3 (by decide) rfl ?_)))
  refine qo hnt rfl (s_load_ptr1 tab_3 rfl rfl rfl rfl rfl ?_)
  refine qa hnt rfl rfl (r_end (q_then (w_le (s := 2) (y := pI (bitsN r)) rfl (le_of_eq (congrArg pI (show r.count = (bitsN r) by unfold bitsN; (repeat' split) <;> first|rfl|omega))) (w_ret (q_block_ret ?_)))))
  refine q_then_ret ?_
  exact fin_plain (ret_tmp rfl ret_nil) rfl rfl ⟨rfl,rfl,rfl⟩
 try simp only [sB] at c2
 refine w_skip (q_block (q_then (w_seq (w_R (qa hnt rfl rfl ?_)))))
 refine r_end (q_then (w_le (s := 2) (y := pI (bitsN r)) rfl (le_of_eq (congrArg pI (show 0 = (bitsN r) by unfold bitsN; (repeat' split) <;> first|rfl|omega))) (w_ret ?_)))
 exact fin_plain (ret_tmp rfl ret_nil) rfl rfl ⟨rfl,rfl,rfl⟩
theorem w_pdu_vals (r : TRequest) (hb : r.bits.length ≤ 140737488351232) (hv : r.vals.length ≤ 140737488351232) :
    T Try.prog 66 [PV.f (eRequest r)] 0 [] (Ret (pI (valsN r)) 0 []) := by
 refine t_fun tabOk (n := 17) (rs := [.tmp 2]) Try.func66 rfl rfl rfl rfl (Nat.le_of_ble_eq_true rfl) ?_
 intro c hnt hk
 refine w_seq (w_R (qo hnt rfl (s_box rfl rfl ?_)))
 refine qa hnt rfl rfl (r_set [(1,PV.ptr 0 0)] [(0,.obj (cRequest r))] 1 ⟨rfl,trivial⟩ rfl rfl (r_end (q_then (w_seq (w_seq ?_)))))
 refine w_R (qo hnt rfl (s_fa_ptr tab_37 rfl rfl tab_3 (by decide) rfl ?_))
 refine qo hnt rfl (s_load_ptr1 tab_3 rfl rfl rfl rfl rfl ?_)
 refine r_end (q_then (w_block (w_seq (w_seq (w_R ?_)))))
 refine qo hnt rfl (s_eql rfl rfl ?_)
 refine qa hnt rfl rfl (r_end (q_then (w_if rfl (fun c1 => ?_) (fun c1 => ?_))))
 ·have c1_ := c1
  try simp only [sB] at c1
  refine w_skip (q_then (w_if rfl (fun _ => ?_) (fun e => absurd (e.symm.trans c1_) (by decide))))
  refine w_seq (w_R (qa hnt rfl rfl (r_end (q_then (w_le (s := 2) (y := pI (valsN r)) rfl (le_of_eq (congrArg pI (show 1 = (valsN r) by unfold valsN; (repeat' split) <;> first|rfl|omega))) ?_)))))
  refine w_ret (q_block_ret (q_then_ret ?_))
  exact fin_plain (ret_tmp rfl ret_nil) rfl rfl ⟨rfl,rfl,rfl⟩
 have c1_ := c1
 try simp only [sB] at c1
 refine w_R (qo hnt rfl (s_eql rfl rfl ?_))
 refine qa hnt rfl rfl (r_end (q_then (w_if rfl (fun c2 => ?_) (fun c2 => ?_))))
 ·try simp only [sB] at c2
  refine w_seq (w_R (qa hnt rfl rfl (r_end (q_then (w_le (s := 2) (y := pI (valsN r)) rfl (le_of_eq (congrArg pI (show 1 = (valsN r) by unfold valsN; (repeat' split) <;> first|rfl|omega))) ?_)))))
  refine w_ret (q_block_ret (q_then_ret ?_))
  exact fin_plain (ret_tmp rfl ret_nil) rfl rfl ⟨rfl,rfl,rfl⟩
 try simp only [sB] at c2
 refine w_seq (w_R (qo hnt rfl (s_eql rfl rfl ?_)))
 refine qa hnt rfl rfl (r_end (q_then (w_if rfl (fun c3 => ?_) (fun c3 => ?_))))
 ·try simp only [sB] at c3
  refine w_seq (w_R (qo hnt rfl (s_fa_ptr tab_37 rfl rfl tab_3 (by decide) rfl ?_)))
  refine qo hnt rfl (s_load_ptr1 tab_3 rfl rfl rfl rfl rfl ?_)
  refine qa hnt rfl rfl (r_end (q_then (w_le (s := 2) (y := pI (valsN r)) rfl (le_of_eq (congrArg pI (show r.count = (valsN r) by unfold valsN; (repeat' split) <;> first|rfl|omega))) (w_ret (q_block_ret ?_)))))
  refine q_then_ret ?_
  exact fin_plain (ret_tmp rfl ret_nil) rfl rfl ⟨rfl,rfl,rfl⟩
 try simp only [sB] at c3
 refine w_seq (w_R (qo hnt rfl (s_eql rfl rfl ?_)))
 refine qa hnt rfl rfl (r_end (q_then (w_if rfl (fun c4 => ?_) (fun c4 => ?_))))
 ·try simp only [sB] at c4
  refine w_seq (w_R (qo hnt rfl (s_fa_ptr tab_37 rfl rfl tab_34 (by decide) rfl ?_)))
  refine qo hnt rfl (s_load_ptr1 tab_34 rfl rfl rfl rfl rfl ?_)
  refine qo hnt rfl (s_lenM (l := r.vals) tab_34 rfl (hM_sl (f := enc16) rfl) ?_)
  refine qa hnt rfl rfl (r_end (q_then (w_le (s := 2) (y := pI (valsN r)) rfl (le_of_eq (congrArg pI (show ((r.vals.length : Nat) : Int) = (valsN r) by unfold valsN; (repeat' split) <;> first|rfl|omega))) (w_ret (q_block_ret ?_)))))
  refine q_then_ret ?_
  exact fin_plain (ret_tmp rfl ret_nil) rfl rfl ⟨rfl,rfl,rfl⟩
 try simp only [sB] at c4
 refine w_skip (q_block (q_then (w_seq (w_R (qa hnt rfl rfl ?_)))))
 refine r_end (q_then (w_le (s := 2) (y := pI (valsN r)) rfl (le_of_eq (congrArg pI (show 0 = (valsN r) by unfold valsN; (repeat' split) <;> first|rfl|omega))) (w_ret ?_)))
 exact fin_plain (ret_tmp rfl ret_nil) rfl rfl ⟨rfl,rfl,rfl⟩
theorem w_pdu_fields (r : TRequest) (hb : r.bits.length ≤ 140737488351232) (hv : r.vals.length ≤ 140737488351232) :
    T Try.prog 63 [PV.f (eRequest r)] 0 [] (Ret (pB (fieldsP r)) 0 []) := by
 refine t_fun tabOk (n := 82) (rs := [.tmp 2]) Try.func63 rfl rfl rfl rfl (Nat.le_of_ble_eq_true rfl) ?_
 intro c hnt hk
 refine w_seq (w_R (qo hnt rfl (s_box rfl rfl ?_)))
 refine qa hnt rfl rfl (r_set [(1,PV.ptr 0 0)] [(0,.obj (cRequest r))] 1 ⟨rfl,trivial⟩ rfl rfl (r_end (q_then (w_seq (w_R ?_)))))
 refine qo hnt rfl (s_fa_ptr tab_37 rfl rfl tab_3 (by decide) rfl ?_)
 refine qo hnt rfl (s_load_ptr1 tab_3 rfl rfl rfl rfl rfl ?_)
 refine qo hnt rfl (s_neq rfl rfl ?_)
 refine qm hnt rfl rfl (r_cut0 4 [(1,PV.ptr 0 0),(13,pB ((!decide (r.fn = 8)) && (!decide (r.fn = 17))))] ?_ ?_)
 ·refine r_if tabOk hnt rfl rfl rfl (fun g1 => ?_) (fun g1 => ?_)
  ·have g1' := g1
   try simp only [sB] at g1'
   refine qo hnt rfl (s_fa_ptr tab_37 rfl rfl tab_3 (by decide) rfl ?_)
   refine ry hnt rfl rfl rfl g1 (qo hnt rfl (s_load_ptr1 tab_3 rfl rfl rfl rfl rfl ?_))
   refine ry hnt rfl rfl rfl g1 (qo hnt rfl (s_neq rfl rfl ?_))
   refine qo hnt rfl (s_pick_t rfl g1 rfl ?_)
   refine r_eq (s := 13) (y := pB ((!decide (r.fn = 8)) && (!decide (r.fn = 17)))) rfl (mix_at g1) ?_
   exact r_mid ⟨⟨rfl,rfl,trivial⟩,rfl,rfl⟩
  ·have g1' := g1
   try simp only [sB] at g1'
   refine rn hnt rfl rfl rfl g1 (rn hnt rfl rfl rfl g1 (qo hnt rfl (s_pick_f rfl g1 rfl ?_)))
   refine r_eq (s := 13) (y := pB ((!decide (r.fn = 8)) && (!decide (r.fn = 17)))) rfl (mix_af _ g1) ?_
   exact r_mid ⟨⟨rfl,rfl,trivial⟩,rfl,rfl⟩
 ·refine qa hnt rfl rfl (r_end (q_then (w_seq (w_R (qo hnt rfl (s_fa_ptr tab_37 rfl rfl tab_3 (by decide) rfl ?_))))))
  refine qo hnt rfl (s_load_ptr1 tab_3 rfl rfl rfl rfl rfl ?_)
  refine qo hnt rfl (s_callF rfl rfl rfl (w_pdu_reads r.fn) rfl ?_)
  refine qm hnt rfl rfl (r_cut0 4 [(1,PV.ptr 0 0),(3,pB ((!decide (r.fn = 8)) && (!decide (r.fn = 17)))),(21,pB ((decide (1 ≤ r.fn ∧ r.fn ≤ 4)) || (decide (r.fn = 15))))] ?_ ?_)
  ·refine r_if tabOk hnt rfl rfl rfl (fun g2 => ?_) (fun g2 => ?_)
   ·have g2' := g2
    try simp only [sB] at g2'
    refine qo hnt rfl (s_fa_ptr tab_37 rfl rfl tab_3 (by decide) rfl ?_)
    refine ry hnt rfl rfl rfl g2 (qo hnt rfl (s_load_ptr1 tab_3 rfl rfl rfl rfl rfl ?_))
    refine ry hnt rfl rfl rfl g2 (qo hnt rfl (s_eql rfl rfl ?_))
    refine qo hnt rfl (s_pick_f rfl g2 rfl ?_)
    refine r_eq (s := 21) (y := pB ((decide (1 ≤ r.fn ∧ r.fn ≤ 4)) || (decide (r.fn = 15)))) rfl (mix_of g2) ?_
    exact r_mid ⟨⟨rfl,rfl,rfl,trivial⟩,rfl,rfl⟩
   ·have g2' := g2
    try simp only [sB] at g2'
    refine rn hnt rfl rfl rfl g2 (rn hnt rfl rfl rfl g2 (qo hnt rfl (s_pick_t rfl g2 rfl ?_)))
    refine r_eq (s := 21) (y := pB ((decide (1 ≤ r.fn ∧ r.fn ≤ 4)) || (decide (r.fn = 15)))) rfl (mix_ot _ g2) ?_
    exact r_mid ⟨⟨rfl,rfl,rfl,trivial⟩,rfl,rfl⟩
  ·refine qm hnt rfl rfl (r_cut0 4 [(1,PV.ptr 0 0),(3,pB ((!decide (r.fn = 8)) && (!decide (r.fn = 17)))),(26,pB (((decide (1 ≤ r.fn ∧ r.fn ≤ 4)) || (decide (r.fn = 15))) || (decide (r.fn = 16))))] ?_ ?_)
   ·refine r_if tabOk hnt rfl rfl rfl (fun g3 => ?_) (fun g3 => ?_)
    ·have g3' := g3
     try simp only [sB] at g3'
     refine qo hnt rfl (s_fa_ptr tab_37 rfl rfl tab_3 (by decide) rfl ?_)
     refine ry hnt rfl rfl rfl g3 (qo hnt rfl (s_load_ptr1 tab_3 rfl rfl rfl rfl rfl ?_))
     refine ry hnt rfl rfl rfl g3 (qo hnt rfl (s_eql rfl rfl ?_))
     refine qo hnt rfl (s_pick_f rfl g3 rfl ?_)
     refine r_eq (s := 26) (y := pB (((decide (1 ≤ r.fn ∧ r.fn ≤ 4)) || (decide (r.fn = 15))) || (decide (r.fn = 16)))) rfl (mix_of g3) ?_
     exact r_mid ⟨⟨rfl,rfl,rfl,trivial⟩,rfl,rfl⟩
    ·have g3' := g3
     try simp only [sB] at g3'
     refine rn hnt rfl rfl rfl g3 (rn hnt rfl rfl rfl g3 (qo hnt rfl (s_pick_t rfl g3 rfl ?_)))
     refine r_eq (s := 26) (y := pB (((decide (1 ≤ r.fn ∧ r.fn ≤ 4)) || (decide (r.fn = 15))) || (decide (r.fn = 16)))) rfl (mix_ot _ g3) ?_
     exact r_mid ⟨⟨rfl,rfl,rfl,trivial⟩,rfl,rfl⟩
   ·refine qm hnt rfl rfl (r_cut0 4 [(1,PV.ptr 0 0),(3,pB ((!decide (r.fn = 8)) && (!decide (r.fn = 17)))),(31,pB ((((decide (1 ≤ r.fn ∧ r.fn ≤ 4)) || (decide (r.fn = 15))) || (decide (r.fn = 16))) || (decide (r.fn = 23))))] ?_ ?_)
    ·refine r_if tabOk hnt rfl rfl rfl (fun g4 => ?_) (fun g4 => ?_)
     ·have g4' := g4
      try simp only [sB] at g4'
      refine qo hnt rfl (s_fa_ptr tab_37 rfl rfl tab_3 (by decide) rfl ?_)
      refine ry hnt rfl rfl rfl g4 (qo hnt rfl (s_load_ptr1 tab_3 rfl rfl rfl rfl rfl ?_))
      refine ry hnt rfl rfl rfl g4 (qo hnt rfl (s_eql rfl rfl ?_))
      refine qo hnt rfl (s_pick_f rfl g4 rfl ?_)
      refine r_eq (s := 31) (y := pB ((((decide (1 ≤ r.fn ∧ r.fn ≤ 4)) || (decide (r.fn = 15))) || (decide (r.fn = 16))) || (decide (r.fn = 23)))) rfl (mix_of g4) ?_
      exact r_mid ⟨⟨rfl,rfl,rfl,trivial⟩,rfl,rfl⟩
     ·have g4' := g4
      try simp only [sB] at g4'
      refine rn hnt rfl rfl rfl g4 (rn hnt rfl rfl rfl g4 (qo hnt rfl (s_pick_t rfl g4 rfl ?_)))
      refine r_eq (s := 31) (y := pB ((((decide (1 ≤ r.fn ∧ r.fn ≤ 4)) || (decide (r.fn = 15))) || (decide (r.fn = 16))) || (decide (r.fn = 23)))) rfl (mix_ot _ g4) ?_
      exact r_mid ⟨⟨rfl,rfl,rfl,trivial⟩,rfl,rfl⟩
    ·refine qa hnt rfl rfl (r_end (q_then (w_seq (w_R (qo hnt rfl (s_fa_ptr tab_37 rfl rfl tab_3 (by decide) rfl ?_))))))
     refine qo hnt rfl (s_load_ptr1 tab_3 rfl rfl rfl rfl rfl ?_)
     refine qo hnt rfl (s_eql rfl rfl ?_)
     refine qa hnt rfl rfl (r_end (q_then (w_seq (w_R (qm hnt rfl rfl ?_)))))
     refine qm hnt rfl rfl (r_cut0 4 [(1,PV.ptr 0 0),(4,pB ((((decide (1 ≤ r.fn ∧ r.fn ≤ 4)) || (decide (r.fn = 15))) || (decide (r.fn = 16))) || (decide (r.fn = 23)))),(5,pB (decide (r.fn = 22))),(40,pB (((!decide (r.fn = 8)) && (!decide (r.fn = 17))) || (decide (r.at_ = 0))))] ?_ ?_)
     ·refine r_if tabOk hnt rfl rfl rfl (fun g5 => ?_) (fun g5 => ?_)
      ·have g5' := g5
       try simp only [sB] at g5'
       refine qo hnt rfl (s_fa_ptr tab_37 rfl rfl tab_3 (by decide) rfl ?_)
       refine ry hnt rfl rfl rfl g5 (qo hnt rfl (s_load_ptr1 tab_3 rfl rfl rfl rfl rfl ?_))
       refine ry hnt rfl rfl rfl g5 (qo hnt rfl (s_eql rfl rfl ?_))
       refine qo hnt rfl (s_pick_f rfl g5 rfl ?_)
       refine r_eq (s := 40) (y := pB (((!decide (r.fn = 8)) && (!decide (r.fn = 17))) || (decide (r.at_ = 0)))) rfl (mix_of g5) ?_
       exact r_mid ⟨⟨rfl,rfl,rfl,rfl,trivial⟩,rfl,rfl⟩
      ·have g5' := g5
       try simp only [sB] at g5'
       refine rn hnt rfl rfl rfl g5 (rn hnt rfl rfl rfl g5 (qo hnt rfl (s_pick_t rfl g5 rfl ?_)))
       refine r_eq (s := 40) (y := pB (((!decide (r.fn = 8)) && (!decide (r.fn = 17))) || (decide (r.at_ = 0)))) rfl (mix_ot _ g5) ?_
       exact r_mid ⟨⟨rfl,rfl,rfl,rfl,trivial⟩,rfl,rfl⟩
     ·refine qm hnt rfl rfl (r_cut0 7 [(1,PV.ptr 0 0),(5,pB (decide (r.fn = 22))),(48,pB ((((!decide (r.fn = 8)) && (!decide (r.fn = 17))) || (decide (r.at_ = 0))) && (((((decide (1 ≤ r.fn ∧ r.fn ≤ 4)) || (decide (r.fn = 15))) || (decide (r.fn = 16))) || (decide (r.fn = 23))) || (decide (r.count = 0)))))] ?_ ?_)
      ·refine r_if tabOk hnt rfl rfl rfl (fun g6 => ?_) (fun g6 => ?_)
       ·have g6' := g6
        try simp only [sB] at g6'
        refine qm hnt rfl rfl (ry hnt rfl rfl rfl g6 (qm hnt rfl rfl (r_cut0 4 [(1,PV.ptr 0 0),(5,pB (decide (r.fn = 22))),(41,pB (((!decide (r.fn = 8)) && (!decide (r.fn = 17))) || (decide (r.at_ = 0)))),(47,pB (((((decide (1 ≤ r.fn ∧ r.fn ≤ 4)) || (decide (r.fn = 15))) || (decide (r.fn = 16))) || (decide (r.fn = 23))) || (decide (r.count = 0))))] ?_ ?_)))
        ·refine r_if tabOk hnt rfl rfl rfl (fun g7 => ?_) (fun g7 => ?_)
         ·have g7' := g7
          try simp only [sB] at g7'
          refine qo hnt rfl (s_fa_ptr tab_37 rfl rfl tab_3 (by decide) rfl ?_)
          refine ry hnt rfl rfl rfl g7 (qo hnt rfl (s_load_ptr1 tab_3 rfl rfl rfl rfl rfl ?_))
          refine ry hnt rfl rfl rfl g7 (qo hnt rfl (s_eql rfl rfl ?_))
          refine ry hnt rfl rfl rfl g6 (qo hnt rfl (s_pick_f rfl g7 rfl ?_))
          refine r_eq (s := 47) (y := pB (((((decide (1 ≤ r.fn ∧ r.fn ≤ 4)) || (decide (r.fn = 15))) || (decide (r.fn = 16))) || (decide (r.fn = 23))) || (decide (r.count = 0)))) rfl (mix_of g7) ?_
          exact r_mid ⟨⟨rfl,rfl,rfl,rfl,trivial⟩,rfl,rfl⟩
         ·have g7' := g7
          try simp only [sB] at g7'
          refine rn hnt rfl rfl rfl g7 (rn hnt rfl rfl rfl g7 (ry hnt rfl rfl rfl g6 (qo hnt rfl (s_pick_t rfl g7 rfl ?_))))
          refine r_eq (s := 47) (y := pB (((((decide (1 ≤ r.fn ∧ r.fn ≤ 4)) || (decide (r.fn = 15))) || (decide (r.fn = 16))) || (decide (r.fn = 23))) || (decide (r.count = 0)))) rfl (mix_ot _ g7) ?_
          exact r_mid ⟨⟨rfl,rfl,rfl,rfl,trivial⟩,rfl,rfl⟩
        ·refine qo hnt rfl (s_pick_t rfl g6 rfl ?_)
         refine r_eq (s := 48) (y := pB ((((!decide (r.fn = 8)) && (!decide (r.fn = 17))) || (decide (r.at_ = 0))) && (((((decide (1 ≤ r.fn ∧ r.fn ≤ 4)) || (decide (r.fn = 15))) || (decide (r.fn = 16))) || (decide (r.fn = 23))) || (decide (r.count = 0))))) rfl (mix_at g6) ?_
         exact r_mid ⟨⟨rfl,rfl,rfl,trivial⟩,rfl,rfl⟩
       ·have g6' := g6
        try simp only [sB] at g6'
        refine rn hnt rfl rfl rfl g6 (ru hnt rfl rfl rfl (ru hnt rfl rfl rfl (ru hnt rfl rfl rfl (rn hnt rfl rfl rfl g6 (qo hnt rfl (s_pick_f rfl g6 rfl ?_))))))
        refine r_eq (s := 48) (y := pB ((((!decide (r.fn = 8)) && (!decide (r.fn = 17))) || (decide (r.at_ = 0))) && (((((decide (1 ≤ r.fn ∧ r.fn ≤ 4)) || (decide (r.fn = 15))) || (decide (r.fn = 16))) || (decide (r.fn = 23))) || (decide (r.count = 0))))) rfl (mix_af _ g6) ?_
        exact r_mid ⟨⟨rfl,rfl,rfl,trivial⟩,rfl,rfl⟩
      ·refine qm hnt rfl rfl (r_cut0 9 [(1,PV.ptr 0 0),(5,pB (decide (r.fn = 22))),(58,pB (((((!decide (r.fn = 8)) && (!decide (r.fn = 17))) || (decide (r.at_ = 0))) && (((((decide (1 ≤ r.fn ∧ r.fn ≤ 4)) || (decide (r.fn = 15))) || (decide (r.fn = 16))) || (decide (r.fn = 23))) || (decide (r.count = 0)))) && ((decide (r.fn = 23)) || (decide (r.wAt = 0)))))] ?_ ?_)
       ·refine r_if tabOk hnt rfl rfl rfl (fun g8 => ?_) (fun g8 => ?_)
        ·have g8' := g8
         try simp only [sB] at g8'
         refine qo hnt rfl (s_fa_ptr tab_37 rfl rfl tab_3 (by decide) rfl ?_)
         refine ry hnt rfl rfl rfl g8 (qo hnt rfl (s_load_ptr1 tab_3 rfl rfl rfl rfl rfl ?_))
         refine ry hnt rfl rfl rfl g8 (qo hnt rfl (s_eql rfl rfl ?_))
         refine ry hnt rfl rfl rfl g8 (qm hnt rfl rfl (r_cut0 4 [(1,PV.ptr 0 0),(5,pB (decide (r.fn = 22))),(49,pB ((((!decide (r.fn = 8)) && (!decide (r.fn = 17))) || (decide (r.at_ = 0))) && (((((decide (1 ≤ r.fn ∧ r.fn ≤ 4)) || (decide (r.fn = 15))) || (decide (r.fn = 16))) || (decide (r.fn = 23))) || (decide (r.count = 0))))),(57,pB ((decide (r.fn = 23)) || (decide (r.wAt = 0))))] ?_ ?_))
         ·refine r_if tabOk hnt rfl rfl rfl (fun g9 => ?_) (fun g9 => ?_)
          ·have g9' := g9
           try simp only [sB] at g9'
           refine qo hnt rfl (s_fa_ptr tab_37 rfl rfl tab_3 (by decide) rfl ?_)
           refine ry hnt rfl rfl rfl g9 (qo hnt rfl (s_load_ptr1 tab_3 rfl rfl rfl rfl rfl ?_))
           refine ry hnt rfl rfl rfl g9 (qo hnt rfl (s_eql rfl rfl ?_))
           refine ry hnt rfl rfl rfl g8 (qo hnt rfl (s_pick_f rfl g9 rfl ?_))
           refine r_eq (s := 57) (y := pB ((decide (r.fn = 23)) || (decide (r.wAt = 0)))) rfl (mix_of g9) ?_
           exact r_mid ⟨⟨rfl,rfl,rfl,rfl,trivial⟩,rfl,rfl⟩
          ·have g9' := g9
           try simp only [sB] at g9'
           refine rn hnt rfl rfl rfl g9 (rn hnt rfl rfl rfl g9 (ry hnt rfl rfl rfl g8 (qo hnt rfl (s_pick_t rfl g9 rfl ?_))))
           refine r_eq (s := 57) (y := pB ((decide (r.fn = 23)) || (decide (r.wAt = 0)))) rfl (mix_ot _ g9) ?_
           exact r_mid ⟨⟨rfl,rfl,rfl,rfl,trivial⟩,rfl,rfl⟩
         ·refine qo hnt rfl (s_pick_t rfl g8 rfl ?_)
          refine r_eq (s := 58) (y := pB (((((!decide (r.fn = 8)) && (!decide (r.fn = 17))) || (decide (r.at_ = 0))) && (((((decide (1 ≤ r.fn ∧ r.fn ≤ 4)) || (decide (r.fn = 15))) || (decide (r.fn = 16))) || (decide (r.fn = 23))) || (decide (r.count = 0)))) && ((decide (r.fn = 23)) || (decide (r.wAt = 0))))) rfl (mix_at g8) ?_
          exact r_mid ⟨⟨rfl,rfl,rfl,trivial⟩,rfl,rfl⟩
        ·have g8' := g8
         try simp only [sB] at g8'
         refine rn hnt rfl rfl rfl g8 (rn hnt rfl rfl rfl g8 (rn hnt rfl rfl rfl g8 (ru hnt rfl rfl rfl (ru hnt rfl rfl rfl (ru hnt rfl rfl rfl ?_)))))
         refine rn hnt rfl rfl rfl g8 (qo hnt rfl (s_pick_f rfl g8 rfl ?_))
         refine r_eq (s := 58) (y := pB (((((!decide (r.fn = 8)) && (!decide (r.fn = 17))) || (decide (r.at_ = 0))) && (((((decide (1 ≤ r.fn ∧ r.fn ≤ 4)) || (decide (r.fn = 15))) || (decide (r.fn = 16))) || (decide (r.fn = 23))) || (decide (r.count = 0)))) && ((decide (r.fn = 23)) || (decide (r.wAt = 0))))) rfl (mix_af _ g8) ?_
         exact r_mid ⟨⟨rfl,rfl,rfl,trivial⟩,rfl,rfl⟩
       ·refine qm hnt rfl rfl (r_cut0 9 [(1,PV.ptr 0 0),(5,pB (decide (r.fn = 22))),(68,pB ((((((!decide (r.fn = 8)) && (!decide (r.fn = 17))) || (decide (r.at_ = 0))) && (((((decide (1 ≤ r.fn ∧ r.fn ≤ 4)) || (decide (r.fn = 15))) || (decide (r.fn = 16))) || (decide (r.fn = 23))) || (decide (r.count = 0)))) && ((decide (r.fn = 23)) || (decide (r.wAt = 0)))) && ((decide (r.fn = 8)) || (decide (r.sub = 0)))))] ?_ ?_)
        ·refine r_if tabOk hnt rfl rfl rfl (fun g10 => ?_) (fun g10 => ?_)
         ·have g10' := g10
          try simp only [sB] at g10'
          refine qo hnt rfl (s_fa_ptr tab_37 rfl rfl tab_3 (by decide) rfl ?_)
          refine ry hnt rfl rfl rfl g10 (qo hnt rfl (s_load_ptr1 tab_3 rfl rfl rfl rfl rfl ?_))
          refine ry hnt rfl rfl rfl g10 (qo hnt rfl (s_eql rfl rfl ?_))
          refine ry hnt rfl rfl rfl g10 (qm hnt rfl rfl (r_cut0 4 [(1,PV.ptr 0 0),(5,pB (decide (r.fn = 22))),(59,pB (((((!decide (r.fn = 8)) && (!decide (r.fn = 17))) || (decide (r.at_ = 0))) && (((((decide (1 ≤ r.fn ∧ r.fn ≤ 4)) || (decide (r.fn = 15))) || (decide (r.fn = 16))) || (decide (r.fn = 23))) || (decide (r.count = 0)))) && ((decide (r.fn = 23)) || (decide (r.wAt = 0))))),(67,pB ((decide (r.fn = 8)) || (decide (r.sub = 0))))] ?_ ?_))
          ·refine r_if tabOk hnt rfl rfl rfl (fun g11 => ?_) (fun g11 => ?_)
           ·have g11' := g11
            try simp only [sB] at g11'
            refine qo hnt rfl (s_fa_ptr tab_37 rfl rfl tab_3 (by decide) rfl ?_)
            refine ry hnt rfl rfl rfl g11 (qo hnt rfl (s_load_ptr1 tab_3 rfl rfl rfl rfl rfl ?_))
            refine ry hnt rfl rfl rfl g11 (qo hnt rfl (s_eql rfl rfl ?_))
            refine ry hnt rfl rfl rfl g10 (qo hnt rfl (s_pick_f rfl g11 rfl ?_))
            refine r_eq (s := 67) (y := pB ((decide (r.fn = 8)) || (decide (r.sub = 0)))) rfl (mix_of g11) ?_
            exact r_mid ⟨⟨rfl,rfl,rfl,rfl,trivial⟩,rfl,rfl⟩
           ·have g11' := g11
            try simp only [sB] at g11'
            refine rn hnt rfl rfl rfl g11 (rn hnt rfl rfl rfl g11 (ry hnt rfl rfl rfl g10 (qo hnt rfl (s_pick_t rfl g11 rfl ?_))))
            refine r_eq (s := 67) (y := pB ((decide (r.fn = 8)) || (decide (r.sub = 0)))) rfl (mix_ot _ g11) ?_
            exact r_mid ⟨⟨rfl,rfl,rfl,rfl,trivial⟩,rfl,rfl⟩
          ·refine qo hnt rfl (s_pick_t rfl g10 rfl ?_)
           refine r_eq (s := 68) (y := pB ((((((!decide (r.fn = 8)) && (!decide (r.fn = 17))) || (decide (r.at_ = 0))) && (((((decide (1 ≤ r.fn ∧ r.fn ≤ 4)) || (decide (r.fn = 15))) || (decide (r.fn = 16))) || (decide (r.fn = 23))) || (decide (r.count = 0)))) && ((decide (r.fn = 23)) || (decide (r.wAt = 0)))) && ((decide (r.fn = 8)) || (decide (r.sub = 0))))) rfl (mix_at g10) ?_
           exact r_mid ⟨⟨rfl,rfl,rfl,trivial⟩,rfl,rfl⟩
         ·have g10' := g10
          try simp only [sB] at g10'
          refine rn hnt rfl rfl rfl g10 (rn hnt rfl rfl rfl g10 (rn hnt rfl rfl rfl g10 (ru hnt rfl rfl rfl (ru hnt rfl rfl rfl (ru hnt rfl rfl rfl ?_)))))
          refine rn hnt rfl rfl rfl g10 (qo hnt rfl (s_pick_f rfl g10 rfl ?_))
          refine r_eq (s := 68) (y := pB ((((((!decide (r.fn = 8)) && (!decide (r.fn = 17))) || (decide (r.at_ = 0))) && (((((decide (1 ≤ r.fn ∧ r.fn ≤ 4)) || (decide (r.fn = 15))) || (decide (r.fn = 16))) || (decide (r.fn = 23))) || (decide (r.count = 0)))) && ((decide (r.fn = 23)) || (decide (r.wAt = 0)))) && ((decide (r.fn = 8)) || (decide (r.sub = 0))))) rfl (mix_af _ g10) ?_
          exact r_mid ⟨⟨rfl,rfl,rfl,trivial⟩,rfl,rfl⟩
        ·refine qm hnt rfl rfl (r_cut0 12 [(81,pB (((((((!decide (r.fn = 8)) && (!decide (r.fn = 17))) || (decide (r.at_ = 0))) && (((((decide (1 ≤ r.fn ∧ r.fn ≤ 4)) || (decide (r.fn = 15))) || (decide (r.fn = 16))) || (decide (r.fn = 23))) || (decide (r.count = 0)))) && ((decide (r.fn = 23)) || (decide (r.wAt = 0)))) && ((decide (r.fn = 8)) || (decide (r.sub = 0)))) && ((decide (r.fn = 22)) || ((decide (r.and_ = 0)) && (decide (r.or_ = 0))))))] ?_ ?_)
         ·refine r_if tabOk hnt rfl rfl rfl (fun g12 => ?_) (fun g12 => ?_)
          ·have g12' := g12
           try simp only [sB] at g12'
           refine qm hnt rfl rfl (ry hnt rfl rfl rfl g12 (qm hnt rfl rfl (r_cut0 9 [(69,pB ((((((!decide (r.fn = 8)) && (!decide (r.fn = 17))) || (decide (r.at_ = 0))) && (((((decide (1 ≤ r.fn ∧ r.fn ≤ 4)) || (decide (r.fn = 15))) || (decide (r.fn = 16))) || (decide (r.fn = 23))) || (decide (r.count = 0)))) && ((decide (r.fn = 23)) || (decide (r.wAt = 0)))) && ((decide (r.fn = 8)) || (decide (r.sub = 0))))),(80,pB ((decide (r.fn = 22)) || ((decide (r.and_ = 0)) && (decide (r.or_ = 0)))))] ?_ ?_)))
           ·refine r_if tabOk hnt rfl rfl rfl (fun g13 => ?_) (fun g13 => ?_)
            ·have g13' := g13
             try simp only [sB] at g13'
             refine qo hnt rfl (s_fa_ptr tab_37 rfl rfl tab_35 (by decide) rfl ?_)
             refine ry hnt rfl rfl rfl g13 (qo hnt rfl (s_load_ptr1 tab_35 rfl rfl rfl rfl rfl ?_))
             refine ry hnt rfl rfl rfl g13 (qo hnt rfl (s_eql16 (a := r.and_) (b := 0) rfl rfl ?_))
             refine ry hnt rfl rfl rfl g13 (qm hnt rfl rfl (r_cut0 4 [(69,pB ((((((!decide (r.fn = 8)) && (!decide (r.fn = 17))) || (decide (r.at_ = 0))) && (((((decide (1 ≤ r.fn ∧ r.fn ≤ 4)) || (decide (r.fn = 15))) || (decide (r.fn = 16))) || (decide (r.fn = 23))) || (decide (r.count = 0)))) && ((decide (r.fn = 23)) || (decide (r.wAt = 0)))) && ((decide (r.fn = 8)) || (decide (r.sub = 0))))),(71,pB (decide (r.fn = 22))),(79,pB ((decide (r.and_ = 0)) && (decide (r.or_ = 0))))] ?_ ?_))
             ·refine r_if tabOk hnt rfl rfl rfl (fun g14 => ?_) (fun g14 => ?_)
              ·have g14' := g14
               try simp only [sB] at g14'
               refine qo hnt rfl (s_fa_ptr tab_37 rfl rfl tab_35 (by decide) rfl ?_)
               refine ry hnt rfl rfl rfl g14 (qo hnt rfl (s_load_ptr1 tab_35 rfl rfl rfl rfl rfl ?_))
               refine ry hnt rfl rfl rfl g14 (qo hnt rfl (s_eql16 (a := r.or_) (b := 0) rfl rfl ?_))
               refine ry hnt rfl rfl rfl g13 (qo hnt rfl (s_pick_t rfl g14 rfl ?_))
               refine r_eq (s := 79) (y := pB ((decide (r.and_ = 0)) && (decide (r.or_ = 0)))) rfl (mix_at g14) ?_
               exact r_mid ⟨⟨rfl,rfl,rfl,trivial⟩,rfl,rfl⟩
              ·have g14' := g14
               try simp only [sB] at g14'
               refine rn hnt rfl rfl rfl g14 (rn hnt rfl rfl rfl g14 (ry hnt rfl rfl rfl g13 (qo hnt rfl (s_pick_f rfl g14 rfl ?_))))
               refine r_eq (s := 79) (y := pB ((decide (r.and_ = 0)) && (decide (r.or_ = 0)))) rfl (mix_af _ g14) ?_
               exact r_mid ⟨⟨rfl,rfl,rfl,trivial⟩,rfl,rfl⟩
             ·refine ry hnt rfl rfl rfl g12 (qo hnt rfl (s_pick_f rfl g13 rfl ?_))
              refine r_eq (s := 80) (y := pB ((decide (r.fn = 22)) || ((decide (r.and_ = 0)) && (decide (r.or_ = 0))))) rfl (mix_of g13) ?_
              exact r_mid ⟨⟨rfl,rfl,trivial⟩,rfl,rfl⟩
            ·have g13' := g13
             try simp only [sB] at g13'
             refine rn hnt rfl rfl rfl g13 (rn hnt rfl rfl rfl g13 (rn hnt rfl rfl rfl g13 (ru hnt rfl rfl rfl (ru hnt rfl rfl rfl (ru hnt rfl rfl rfl ?_)))))
             refine rn hnt rfl rfl rfl g13 (ry hnt rfl rfl rfl g12 (qo hnt rfl (s_pick_t rfl g13 rfl ?_)))
             refine r_eq (s := 80) (y := pB ((decide (r.fn = 22)) || ((decide (r.and_ = 0)) && (decide (r.or_ = 0))))) rfl (mix_ot _ g13) ?_
             exact r_mid ⟨⟨rfl,rfl,trivial⟩,rfl,rfl⟩
           ·refine qo hnt rfl (s_pick_t rfl g12 rfl ?_)
            refine r_eq (s := 81) (y := pB (((((((!decide (r.fn = 8)) && (!decide (r.fn = 17))) || (decide (r.at_ = 0))) && (((((decide (1 ≤ r.fn ∧ r.fn ≤ 4)) || (decide (r.fn = 15))) || (decide (r.fn = 16))) || (decide (r.fn = 23))) || (decide (r.count = 0)))) && ((decide (r.fn = 23)) || (decide (r.wAt = 0)))) && ((decide (r.fn = 8)) || (decide (r.sub = 0)))) && ((decide (r.fn = 22)) || ((decide (r.and_ = 0)) && (decide (r.or_ = 0)))))) rfl (mix_at g12) ?_
            exact r_mid ⟨⟨rfl,trivial⟩,rfl,rfl⟩
          ·have g12' := g12
           try simp only [sB] at g12'
           refine rn hnt rfl rfl rfl g12 (ru hnt rfl rfl rfl (ru hnt rfl rfl rfl (ru hnt rfl rfl rfl (ru hnt rfl rfl rfl (ru hnt rfl rfl rfl ?_)))))
           refine ru hnt rfl rfl rfl (ru hnt rfl rfl rfl (ru hnt rfl rfl rfl (rn hnt rfl rfl rfl g12 (qo hnt rfl (s_pick_f rfl g12 rfl ?_)))))
           refine r_eq (s := 81) (y := pB (((((((!decide (r.fn = 8)) && (!decide (r.fn = 17))) || (decide (r.at_ = 0))) && (((((decide (1 ≤ r.fn ∧ r.fn ≤ 4)) || (decide (r.fn = 15))) || (decide (r.fn = 16))) || (decide (r.fn = 23))) || (decide (r.count = 0)))) && ((decide (r.fn = 23)) || (decide (r.wAt = 0)))) && ((decide (r.fn = 8)) || (decide (r.sub = 0)))) && ((decide (r.fn = 22)) || ((decide (r.and_ = 0)) && (decide (r.or_ = 0)))))) rfl (mix_af _ g12) ?_
           exact r_mid ⟨⟨rfl,trivial⟩,rfl,rfl⟩
         ·refine qa hnt rfl rfl (r_end (q_then (w_le (s := 2) (y := pB (fieldsP r)) rfl (le_of_eq (congrArg pB (show (((((((!decide (r.fn = 8)) && (!decide (r.fn = 17))) || (decide (r.at_ = 0))) && (((((decide (1 ≤ r.fn ∧ r.fn ≤ 4)) || (decide (r.fn = 15))) || (decide (r.fn = 16))) || (decide (r.fn = 23))) || (decide (r.count = 0)))) && ((decide (r.fn = 23)) || (decide (r.wAt = 0)))) && ((decide (r.fn = 8)) || (decide (r.sub = 0)))) && ((decide (r.fn = 22)) || ((decide (r.and_ = 0)) && (decide (r.or_ = 0))))) = (fieldsP r) by unfold fieldsP; apply Bool.eq_iff_iff.2; simp only [Bool.and_eq_true,Bool.or_eq_true,Bool.not_eq_true',decide_eq_true_eq,decide_eq_false_iff_not,u16z]; try omega))) (w_ret ?_))))
          exact fin_plain (ret_tmp rfl ret_nil) rfl rfl ⟨rfl,rfl,rfl⟩
theorem w_pdu_Right (r : TRequest) (hb : r.bits.length ≤ 140737488351232) (hv : r.vals.length ≤ 140737488351232) :
    T Try.prog 43 [PV.f (eRequest r)] 0 [] (Ret (pI (rightR r)) 0 []) := by
 refine t_fun tabOk (n := 63) (rs := [.tmp 2]) Try.func43 rfl rfl rfl rfl (Nat.le_of_ble_eq_true rfl) ?_
 intro c hnt hk
 refine w_seq (w_R (qo hnt rfl (s_box rfl rfl ?_)))
 refine qa hnt rfl rfl (r_set [(1,PV.ptr 0 0)] [(0,.obj (cRequest r))] 1 ⟨rfl,trivial⟩ rfl rfl (r_end (q_then (w_seq (w_block ?_)))))
 refine w_seq (w_R (qo hnt rfl (s_fa_ptr tab_37 rfl rfl tab_3 (by decide) rfl ?_)))
 refine qo hnt rfl (s_load_ptr1 tab_3 rfl rfl rfl rfl rfl ?_)
 refine qo hnt rfl (s_callF rfl rfl rfl (w_pdu_function r.fn) rfl ?_)
 refine qo hnt rfl (s_not rfl ?_)
 refine qa hnt rfl rfl (r_end (q_then (w_if rfl (fun c1 => ?_) (fun c1 => ?_))))
 ·have c1_ := c1
  try simp only [sB] at c1
  refine w_seq (w_R (qa hnt rfl rfl (r_end (q_then (w_le (s := 2) (y := pI (rightR r)) rfl (le_of_eq (congrArg pI (show 15 = (rightR r) by exact (rightR_1 c1_).symm))) ?_)))))
  refine w_ret (q_block_ret (q_then_ret ?_))
  exact fin_plain (ret_tmp rfl ret_nil) rfl rfl ⟨rfl,rfl,rfl⟩
 have c1_ := c1
 try simp only [sB] at c1
 refine w_seq (w_R (qo hnt rfl (s_load_ptr tab_37 rfl rfl rfl (Nat.le_of_ble_eq_true rfl) ?_)))
 refine qo hnt rfl (s_callF rfl rfl rfl (w_pdu_fields r (by omega) (by omega)) rfl ?_)
 refine qo hnt rfl (s_not rfl ?_)
 refine qm hnt rfl rfl (r_cut0 5 [(1,PV.ptr 0 0),(17,pB ((!(fieldsP r)) || (!(wordOk r.at_))))] ?_ ?_)
 ·refine r_if tabOk hnt rfl rfl rfl (fun g1 => ?_) (fun g1 => ?_)
  ·have g1' := g1
   try simp only [sB] at g1'
   refine qo hnt rfl (s_fa_ptr tab_37 rfl rfl tab_3 (by decide) rfl ?_)
   refine ry hnt rfl rfl rfl g1 (qo hnt rfl (s_load_ptr1 tab_3 rfl rfl rfl rfl rfl ?_))
   refine ry hnt rfl rfl rfl g1 (qo hnt rfl (s_callF rfl rfl rfl (w_pdu_within r.at_) rfl ?_))
   refine ry hnt rfl rfl rfl g1 (qo hnt rfl (s_not rfl ?_))
   refine qo hnt rfl (s_pick_f rfl g1 rfl ?_)
   refine r_eq (s := 17) (y := pB ((!(fieldsP r)) || (!(wordOk r.at_)))) rfl (mix_of g1) ?_
   exact r_mid ⟨⟨rfl,rfl,trivial⟩,rfl,rfl⟩
  ·have g1' := g1
   try simp only [sB] at g1'
   refine rn hnt rfl rfl rfl g1 (rn hnt rfl rfl rfl g1 (rn hnt rfl rfl rfl g1 (qo hnt rfl (s_pick_t rfl g1 rfl ?_))))
   refine r_eq (s := 17) (y := pB ((!(fieldsP r)) || (!(wordOk r.at_)))) rfl (mix_ot _ g1) ?_
   exact r_mid ⟨⟨rfl,rfl,trivial⟩,rfl,rfl⟩
 ·refine qm hnt rfl rfl (r_cut0 5 [(1,PV.ptr 0 0),(23,pB (((!(fieldsP r)) || (!(wordOk r.at_))) || (!(wordOk r.wAt))))] ?_ ?_)
  ·refine r_if tabOk hnt rfl rfl rfl (fun g2 => ?_) (fun g2 => ?_)
   ·have g2' := g2
    try simp only [sB] at g2'
    refine qo hnt rfl (s_fa_ptr tab_37 rfl rfl tab_3 (by decide) rfl ?_)
    refine ry hnt rfl rfl rfl g2 (qo hnt rfl (s_load_ptr1 tab_3 rfl rfl rfl rfl rfl ?_))
    refine ry hnt rfl rfl rfl g2 (qo hnt rfl (s_callF rfl rfl rfl (w_pdu_within r.wAt) rfl ?_))
    refine ry hnt rfl rfl rfl g2 (qo hnt rfl (s_not rfl ?_))
    refine qo hnt rfl (s_pick_f rfl g2 rfl ?_)
    refine r_eq (s := 23) (y := pB (((!(fieldsP r)) || (!(wordOk r.at_))) || (!(wordOk r.wAt)))) rfl (mix_of g2) ?_
    exact r_mid ⟨⟨rfl,rfl,trivial⟩,rfl,rfl⟩
   ·have g2' := g2
    try simp only [sB] at g2'
    refine rn hnt rfl rfl rfl g2 (rn hnt rfl rfl rfl g2 (rn hnt rfl rfl rfl g2 (qo hnt rfl (s_pick_t rfl g2 rfl ?_))))
    refine r_eq (s := 23) (y := pB (((!(fieldsP r)) || (!(wordOk r.at_))) || (!(wordOk r.wAt)))) rfl (mix_ot _ g2) ?_
    exact r_mid ⟨⟨rfl,rfl,trivial⟩,rfl,rfl⟩
  ·refine qm hnt rfl rfl (r_cut0 5 [(1,PV.ptr 0 0),(29,pB ((((!(fieldsP r)) || (!(wordOk r.at_))) || (!(wordOk r.wAt))) || (!(wordOk r.sub))))] ?_ ?_)
   ·refine r_if tabOk hnt rfl rfl rfl (fun g3 => ?_) (fun g3 => ?_)
    ·have g3' := g3
     try simp only [sB] at g3'
     refine qo hnt rfl (s_fa_ptr tab_37 rfl rfl tab_3 (by decide) rfl ?_)
     refine ry hnt rfl rfl rfl g3 (qo hnt rfl (s_load_ptr1 tab_3 rfl rfl rfl rfl rfl ?_))
     refine ry hnt rfl rfl rfl g3 (qo hnt rfl (s_callF rfl rfl rfl (w_pdu_within r.sub) rfl ?_))
     refine ry hnt rfl rfl rfl g3 (qo hnt rfl (s_not rfl ?_))
     refine qo hnt rfl (s_pick_f rfl g3 rfl ?_)
     refine r_eq (s := 29) (y := pB ((((!(fieldsP r)) || (!(wordOk r.at_))) || (!(wordOk r.wAt))) || (!(wordOk r.sub)))) rfl (mix_of g3) ?_
     exact r_mid ⟨⟨rfl,rfl,trivial⟩,rfl,rfl⟩
    ·have g3' := g3
     try simp only [sB] at g3'
     refine rn hnt rfl rfl rfl g3 (rn hnt rfl rfl rfl g3 (rn hnt rfl rfl rfl g3 (qo hnt rfl (s_pick_t rfl g3 rfl ?_))))
     refine r_eq (s := 29) (y := pB ((((!(fieldsP r)) || (!(wordOk r.at_))) || (!(wordOk r.wAt))) || (!(wordOk r.sub)))) rfl (mix_ot _ g3) ?_
     exact r_mid ⟨⟨rfl,rfl,trivial⟩,rfl,rfl⟩
   ·refine qm hnt rfl rfl (r_cut0 5 [(1,PV.ptr 0 0),(35,pB (((((!(fieldsP r)) || (!(wordOk r.at_))) || (!(wordOk r.wAt))) || (!(wordOk r.sub))) || (!(wordOk r.count))))] ?_ ?_)
    ·refine r_if tabOk hnt rfl rfl rfl (fun g4 => ?_) (fun g4 => ?_)
     ·have g4' := g4
      try simp only [sB] at g4'
      refine qo hnt rfl (s_fa_ptr tab_37 rfl rfl tab_3 (by decide) rfl ?_)
      refine ry hnt rfl rfl rfl g4 (qo hnt rfl (s_load_ptr1 tab_3 rfl rfl rfl rfl rfl ?_))
      refine ry hnt rfl rfl rfl g4 (qo hnt rfl (s_callF rfl rfl rfl (w_pdu_within r.count) rfl ?_))
      refine ry hnt rfl rfl rfl g4 (qo hnt rfl (s_not rfl ?_))
      refine qo hnt rfl (s_pick_f rfl g4 rfl ?_)
      refine r_eq (s := 35) (y := pB (((((!(fieldsP r)) || (!(wordOk r.at_))) || (!(wordOk r.wAt))) || (!(wordOk r.sub))) || (!(wordOk r.count)))) rfl (mix_of g4) ?_
      exact r_mid ⟨⟨rfl,rfl,trivial⟩,rfl,rfl⟩
     ·have g4' := g4
      try simp only [sB] at g4'
      refine rn hnt rfl rfl rfl g4 (rn hnt rfl rfl rfl g4 (rn hnt rfl rfl rfl g4 (qo hnt rfl (s_pick_t rfl g4 rfl ?_))))
      refine r_eq (s := 35) (y := pB (((((!(fieldsP r)) || (!(wordOk r.at_))) || (!(wordOk r.wAt))) || (!(wordOk r.sub))) || (!(wordOk r.count)))) rfl (mix_ot _ g4) ?_
      exact r_mid ⟨⟨rfl,rfl,trivial⟩,rfl,rfl⟩
    ·refine qa hnt rfl rfl (r_end (q_then (w_if rfl (fun c2 => ?_) (fun c2 => ?_))))
     ·have c2_ := c2
      try simp only [sB] at c2
      refine w_seq (w_R (qa hnt rfl rfl (r_end (q_then (w_le (s := 2) (y := pI (rightR r)) rfl (le_of_eq (congrArg pI (show 12 = (rightR r) by exact (wrong_P c1 (fun h => Bool.noConfusion (c2_.symm.trans h.1))).symm))) ?_)))))
      refine w_ret (q_block_ret (q_then_ret ?_))
      exact fin_plain (ret_tmp rfl ret_nil) rfl rfl ⟨rfl,rfl,rfl⟩
     have c2_ := c2
     try simp only [sB] at c2
     refine w_seq (W_drawn tabOk mixed hnt [[],[0],[0,1],[],[3],[0,1,2,3,4],[0,1,2,3,4,5],[0,1,2,3,4,5,6],(.range 8),(.range 9),[0,1,2,3,4,5,6],[0,1,2,3,4,5,6,10],(.range 12),(.range 13),(.range 14),(.range 15),(.range 16),(.range 17),(.range 18),(.range 19),(.range 20),(.range 21),(.range 22),(.range 23),(.range 24),(.range 25),(.range 26)] (by kernel_rfl) (d_op (x_run0 [(1,PV.ptr 0 0)] [] rfl rfl rfl rfl (s_fa_ptr tab_37 rfl rfl tab_33 (by decide) rfl ⟨rfl,rfl,rfl⟩) (d_op (xL [(37,PV.ptr 0 5)] [0] [(0,.obj (cRequest r))] rfl rfl rfl rfl rfl (s_load_ptr1 tab_33 rfl rfl rfl rfl rfl ⟨rfl,rfl,rfl⟩) ⟨rfl,trivial⟩ rfl ?_)))))
     refine d_op (x_run0 [(38,pS 1 false encBo r.bits)] [0,1] rfl rfl rfl rfl (s_lenM (l := r.bits) tab_33 rfl (hM_sl (f := encBo) rfl) ⟨rfl,rfl,rfl⟩) (d_op (xL [(1,PV.ptr 0 0)] [] [(0,.obj (cRequest r))] rfl rfl rfl rfl rfl (s_load_ptr tab_37 rfl rfl rfl (Nat.le_of_ble_eq_true rfl) ⟨rfl,rfl,rfl⟩) ⟨rfl,trivial⟩ rfl (d_op (x_run0 [(40,PV.f (eRequest r))] [3] rfl rfl rfl rfl (s_callF rfl rfl rfl (w_pdu_bits r (by omega) (by omega)) rfl ⟨rfl,rfl,rfl⟩) ?_)))))
     refine d_op (x_run0 [(39,pN r.bits.length),(41,pI (bitsN r))] [0,1,2,3,4] rfl rfl rfl rfl (s_neq rfl rfl ⟨rfl,rfl,rfl⟩) (d_op (x_run0 [(42,pB (!decide (((r.bits.length : Nat) : Int) = bitsN r)))] [0,1,2,3,4,5] rfl rfl rfl rfl (s_move rfl ⟨rfl,rfl,rfl⟩) (x_if [(43,pB (!decide (((r.bits.length : Nat) : Int) = bitsN r))),(1,PV.ptr 0 0)] [0,1,2,3,4,5,6] rfl rfl rfl rfl (fun g5 => ?_) (fun g5 => ?_)))))
     ·have g5' := g5
      try simp only [sB] at g5'
      refine x_run0 [(43,pB (!decide (((r.bits.length : Nat) : Int) = bitsN r))),(1,PV.ptr 0 0)] [0,1,2,3,4,5,6] rfl rfl rfl rfl (s_fa_ptr tab_37 rfl rfl tab_34 (by decide) rfl ⟨rfl,rfl,rfl⟩) (xy [(43,pB (!decide (((r.bits.length : Nat) : Int) = bitsN r))),(44,PV.ptr 0 6)] (.range 8) rfl rfl rfl rfl g5 (xL [(43,pB (!decide (((r.bits.length : Nat) : Int) = bitsN r))),(44,PV.ptr 0 6)] (.range 8) [(0,.obj (cRequest r))] rfl rfl rfl rfl rfl (s_load_ptr1 tab_34 rfl rfl rfl rfl rfl ⟨rfl,rfl,rfl⟩) ⟨rfl,trivial⟩ rfl (xy [(43,pB (!decide (((r.bits.length : Nat) : Int) = bitsN r))),(45,pS 1 false enc16 r.vals)] (.range 9) rfl rfl rfl rfl g5 (x_run0 [(43,pB (!decide (((r.bits.length : Nat) : Int) = bitsN r))),(45,pS 1 false enc16 r.vals)] (.range 9) rfl rfl rfl rfl (s_lenM (l := r.vals) tab_34 rfl (hM_sl (f := enc16) rfl) ⟨rfl,rfl,rfl⟩) (xy [(43,pB (!decide (((r.bits.length : Nat) : Int) = bitsN r))),(1,PV.ptr 0 0)] [0,1,2,3,4,5,6] rfl rfl rfl rfl g5 ?_)))))
      refine xL [(43,pB (!decide (((r.bits.length : Nat) : Int) = bitsN r))),(1,PV.ptr 0 0)] [0,1,2,3,4,5,6] [(0,.obj (cRequest r))] rfl rfl rfl rfl rfl (s_load_ptr tab_37 rfl rfl rfl (Nat.le_of_ble_eq_true rfl) ⟨rfl,rfl,rfl⟩) ⟨rfl,trivial⟩ rfl (xy [(43,pB (!decide (((r.bits.length : Nat) : Int) = bitsN r))),(47,PV.f (eRequest r))] [0,1,2,3,4,5,6,10] rfl rfl rfl rfl g5 (x_run0 [(43,pB (!decide (((r.bits.length : Nat) : Int) = bitsN r))),(47,PV.f (eRequest r))] [0,1,2,3,4,5,6,10] rfl rfl rfl rfl (s_callF rfl rfl rfl (w_pdu_vals r (by omega) (by omega)) rfl ⟨rfl,rfl,rfl⟩) (xy [(43,pB (!decide (((r.bits.length : Nat) : Int) = bitsN r))),(46,pN r.vals.length),(48,pI (valsN r))] (.range 12) rfl rfl rfl rfl g5 (x_run0 [(43,pB (!decide (((r.bits.length : Nat) : Int) = bitsN r))),(46,pN r.vals.length),(48,pI (valsN r))] (.range 12) rfl rfl rfl rfl (s_neq rfl rfl ⟨rfl,rfl,rfl⟩) (d_op ?_)))))
      refine x_run0 [(43,pB (!decide (((r.bits.length : Nat) : Int) = bitsN r))),(49,pB (!decide (((r.vals.length : Nat) : Int) = valsN r)))] (.range 13) rfl rfl rfl rfl (s_pick_f rfl g5 rfl ⟨rfl,rfl,rfl⟩) (d_op (x_run0 [(50,pB (!decide (((r.vals.length : Nat) : Int) = valsN r)))] (.range 14) rfl rfl rfl rfl (s_move rfl ⟨rfl,rfl,rfl⟩) (x_if [(51,pB (!decide (((r.vals.length : Nat) : Int) = valsN r))),(1,PV.ptr 0 0)] (.range 15) rfl rfl rfl rfl (fun g6 => ?_) (fun g6 => ?_))))
      ·have g6' := g6
       try simp only [sB] at g6'
       refine x_run0 [(51,pB (!decide (((r.vals.length : Nat) : Int) = valsN r))),(1,PV.ptr 0 0)] (.range 15) rfl rfl rfl rfl (s_fa_ptr tab_37 rfl rfl tab_33 (by decide) rfl ⟨rfl,rfl,rfl⟩) (xy [(51,pB (!decide (((r.vals.length : Nat) : Int) = valsN r))),(52,PV.ptr 0 5)] (.range 16) rfl rfl rfl rfl g6 (xL [(51,pB (!decide (((r.vals.length : Nat) : Int) = valsN r))),(52,PV.ptr 0 5)] (.range 16) [(0,.obj (cRequest r))] rfl rfl rfl rfl rfl (s_load_ptr1 tab_33 rfl rfl rfl rfl rfl ⟨rfl,rfl,rfl⟩) ⟨rfl,trivial⟩ rfl (xy [(51,pB (!decide (((r.vals.length : Nat) : Int) = valsN r))),(53,pS 1 false encBo r.bits)] (.range 17) rfl rfl rfl rfl g6 (x_run0 [(51,pB (!decide (((r.vals.length : Nat) : Int) = valsN r))),(53,pS 1 false encBo r.bits)] (.range 17) rfl rfl rfl rfl (s_lenM (l := r.bits) tab_33 rfl (hM_sl (f := encBo) rfl) ⟨rfl,rfl,rfl⟩) (xy [(51,pB (!decide (((r.vals.length : Nat) : Int) = valsN r))),(54,pN r.bits.length)] (.range 18) rfl rfl rfl rfl g6 ?_)))))
       refine x_run0 [(51,pB (!decide (((r.vals.length : Nat) : Int) = valsN r))),(54,pN r.bits.length)] (.range 18) rfl rfl rfl rfl (s_gtr rfl rfl ⟨rfl,rfl,rfl⟩) (d_op (x_run0 [(51,pB (!decide (((r.vals.length : Nat) : Int) = valsN r))),(55,pB (decide (2040 < ((r.bits.length : Nat) : Int))))] (.range 19) rfl rfl rfl rfl (s_pick_f rfl g6 rfl ⟨rfl,rfl,rfl⟩) (d_op (x_run0 [(56,pB (decide (2040 < ((r.bits.length : Nat) : Int))))] (.range 20) rfl rfl rfl rfl (s_move rfl ⟨rfl,rfl,rfl⟩) (x_if [(57,pB (decide (2040 < ((r.bits.length : Nat) : Int)))),(1,PV.ptr 0 0)] (.range 21) rfl rfl rfl rfl (fun g7 => ?_) (fun g7 => ?_))))))
       ·have g7' := g7
        try simp only [sB] at g7'
        refine x_run0 [(57,pB (decide (2040 < ((r.bits.length : Nat) : Int)))),(1,PV.ptr 0 0)] (.range 21) rfl rfl rfl rfl (s_fa_ptr tab_37 rfl rfl tab_34 (by decide) rfl ⟨rfl,rfl,rfl⟩) (xy [(57,pB (decide (2040 < ((r.bits.length : Nat) : Int)))),(58,PV.ptr 0 6)] (.range 22) rfl rfl rfl rfl g7 (xL [(57,pB (decide (2040 < ((r.bits.length : Nat) : Int)))),(58,PV.ptr 0 6)] (.range 22) [(0,.obj (cRequest r))] rfl rfl rfl rfl rfl (s_load_ptr1 tab_34 rfl rfl rfl rfl rfl ⟨rfl,rfl,rfl⟩) ⟨rfl,trivial⟩ rfl (xy [(57,pB (decide (2040 < ((r.bits.length : Nat) : Int)))),(59,pS 1 false enc16 r.vals)] (.range 23) rfl rfl rfl rfl g7 (x_run0 [(57,pB (decide (2040 < ((r.bits.length : Nat) : Int)))),(59,pS 1 false enc16 r.vals)] (.range 23) rfl rfl rfl rfl (s_lenM (l := r.vals) tab_34 rfl (hM_sl (f := enc16) rfl) ⟨rfl,rfl,rfl⟩) (xy [(57,pB (decide (2040 < ((r.bits.length : Nat) : Int)))),(60,pN r.vals.length)] (.range 24) rfl rfl rfl rfl g7 ?_)))))
        refine x_run0 [(57,pB (decide (2040 < ((r.bits.length : Nat) : Int)))),(60,pN r.vals.length)] (.range 24) rfl rfl rfl rfl (s_gtr rfl rfl ⟨rfl,rfl,rfl⟩) (d_op (x_run0 [(57,pB (decide (2040 < ((r.bits.length : Nat) : Int)))),(61,pB (decide (127 < ((r.vals.length : Nat) : Int))))] (.range 25) rfl rfl rfl rfl (s_pick_f rfl g7 rfl ⟨rfl,rfl,rfl⟩) (d_op (x_run0 [(62,pB (decide (127 < ((r.vals.length : Nat) : Int))))] (.range 26) rfl rfl rfl rfl (s_assign rfl ⟨rfl,rfl,rfl⟩) (d_end ⟨by kernel_rfl, ?_⟩)))))
        refine q_then (w_if rfl (fun c3 => ?_) (fun c3 => ?_))
        ·try simp only [sB] at c3
         refine w_seq (w_R (qa hnt rfl rfl (r_set [(2,pI 12)] [(0,.obj (cRequest r))] 1 ⟨rfl,trivial⟩ rfl rfl (r_end (q_then ?_)))))
         refine w_le (s := 2) (y := pI (rightR r)) rfl (le_of_eq (congrArg pI (show 12 = (rightR r) by exact (wrong_P c1 (fun h => by omega)).symm))) (w_ret (q_block_ret (q_then_ret ?_)))
         exact fin_plain (ret_tmp rfl ret_nil) rfl rfl ⟨rfl,rfl,rfl⟩
        try simp only [sB] at c3
        refine w_skip (q_block (q_then (w_seq (w_R (qa hnt rfl rfl ?_)))))
        refine r_set [(2,pI 0)] [(0,.obj (cRequest r))] 1 ⟨rfl,trivial⟩ rfl rfl (r_end (q_then (w_le (s := 2) (y := pI (rightR r)) rfl (le_of_eq (congrArg pI (show 0 = (rightR r) by exact (right_P c1 c2_ (by omega) (by omega) (by omega) (by omega)).symm))) (w_ret ?_))))
        exact fin_plain (ret_tmp rfl ret_nil) rfl rfl ⟨rfl,rfl,rfl⟩
       have g7' := g7
       try simp only [sB] at g7'
       refine xn [(57,pB (decide (2040 < ((r.bits.length : Nat) : Int)))),(58,undefP)] (.range 22) rfl rfl rfl rfl g7 (xn [(57,pB (decide (2040 < ((r.bits.length : Nat) : Int)))),(59,undefP)] (.range 23) rfl rfl rfl rfl g7 (xn [(57,pB (decide (2040 < ((r.bits.length : Nat) : Int)))),(60,undefP)] (.range 24) rfl rfl rfl rfl g7 (d_op (x_run0 [(57,pB (decide (2040 < ((r.bits.length : Nat) : Int)))),(61,undefP)] (.range 25) rfl rfl rfl rfl (s_pick_t rfl g7 rfl ⟨rfl,rfl,rfl⟩) (d_op ?_)))))
       refine x_run0 [(62,pB true)] (.range 26) rfl rfl rfl rfl (s_assign rfl ⟨rfl,rfl,rfl⟩) (d_end ⟨by kernel_rfl, ?_⟩)
       refine q_then (w_if rfl (fun _ => ?_) (fun e => absurd e (by decide)))
       refine w_seq (w_R (qa hnt rfl rfl (r_set [(2,pI 12)] [(0,.obj (cRequest r))] 1 ⟨rfl,trivial⟩ rfl rfl (r_end (q_then ?_)))))
       refine w_le (s := 2) (y := pI (rightR r)) rfl (le_of_eq (congrArg pI (show 12 = (rightR r) by exact (wrong_P c1 (fun h => by omega)).symm))) (w_ret (q_block_ret (q_then_ret ?_)))
       exact fin_plain (ret_tmp rfl ret_nil) rfl rfl ⟨rfl,rfl,rfl⟩
      have g6' := g6
      try simp only [sB] at g6'
      refine xn [(51,pB (!decide (((r.vals.length : Nat) : Int) = valsN r))),(52,undefP)] (.range 16) rfl rfl rfl rfl g6 (xn [(51,pB (!decide (((r.vals.length : Nat) : Int) = valsN r))),(53,undefP)] (.range 17) rfl rfl rfl rfl g6 (xn [(51,pB (!decide (((r.vals.length : Nat) : Int) = valsN r))),(54,undefP)] (.range 18) rfl rfl rfl rfl g6 (d_op (x_run0 [(51,pB (!decide (((r.vals.length : Nat) : Int) = valsN r))),(55,undefP)] (.range 19) rfl rfl rfl rfl (s_pick_t rfl g6 rfl ⟨rfl,rfl,rfl⟩) (d_op ?_)))))
      refine x_run0 [(56,pB true)] (.range 20) rfl rfl rfl rfl (s_move rfl ⟨rfl,rfl,rfl⟩) (xn [(57,pB true),(1,PV.ptr 0 0)] (.range 21) rfl rfl rfl rfl rfl (xn [(57,pB true),(58,undefP)] (.range 22) rfl rfl rfl rfl rfl (xn [(57,pB true),(59,undefP)] (.range 23) rfl rfl rfl rfl rfl (xn [(57,pB true),(60,undefP)] (.range 24) rfl rfl rfl rfl rfl (d_op ?_)))))
      refine x_run0 [(57,pB true),(61,undefP)] (.range 25) rfl rfl rfl rfl (s_pick_t rfl rfl rfl ⟨rfl,rfl,rfl⟩) (d_op (x_run0 [(62,pB true)] (.range 26) rfl rfl rfl rfl (s_assign rfl ⟨rfl,rfl,rfl⟩) (d_end ⟨by kernel_rfl, ?_⟩)))
      refine q_then (w_if rfl (fun _ => ?_) (fun e => absurd e (by decide)))
      refine w_seq (w_R (qa hnt rfl rfl (r_set [(2,pI 12)] [(0,.obj (cRequest r))] 1 ⟨rfl,trivial⟩ rfl rfl (r_end (q_then ?_)))))
      refine w_le (s := 2) (y := pI (rightR r)) rfl (le_of_eq (congrArg pI (show 12 = (rightR r) by exact (wrong_P c1 (fun h => by omega)).symm))) (w_ret (q_block_ret (q_then_ret ?_)))
      exact fin_plain (ret_tmp rfl ret_nil) rfl rfl ⟨rfl,rfl,rfl⟩
     have g5' := g5
     try simp only [sB] at g5'
     refine xn [(43,pB (!decide (((r.bits.length : Nat) : Int) = bitsN r))),(44,undefP)] (.range 8) rfl rfl rfl rfl g5 (xn [(43,pB (!decide (((r.bits.length : Nat) : Int) = bitsN r))),(45,undefP)] (.range 9) rfl rfl rfl rfl g5 (xn [(43,pB (!decide (((r.bits.length : Nat) : Int) = bitsN r))),(1,PV.ptr 0 0)] [0,1,2,3,4,5,6] rfl rfl rfl rfl g5 (xn [(43,pB (!decide (((r.bits.length : Nat) : Int) = bitsN r))),(47,undefP)] [0,1,2,3,4,5,6,10] rfl rfl rfl rfl g5 (xn [(43,pB (!decide (((r.bits.length : Nat) : Int) = bitsN r))),(46,undefP),(48,undefP)] (.range 12) rfl rfl rfl rfl g5 (d_op ?_)))))
     refine x_run0 [(43,pB (!decide (((r.bits.length : Nat) : Int) = bitsN r))),(49,undefP)] (.range 13) rfl rfl rfl rfl (s_pick_t rfl g5 rfl ⟨rfl,rfl,rfl⟩) (d_op (x_run0 [(50,pB true)] (.range 14) rfl rfl rfl rfl (s_move rfl ⟨rfl,rfl,rfl⟩) (xn [(51,pB true),(1,PV.ptr 0 0)] (.range 15) rfl rfl rfl rfl rfl (xn [(51,pB true),(52,undefP)] (.range 16) rfl rfl rfl rfl rfl (xn [(51,pB true),(53,undefP)] (.range 17) rfl rfl rfl rfl rfl ?_)))))
     refine xn [(51,pB true),(54,undefP)] (.range 18) rfl rfl rfl rfl rfl (d_op (x_run0 [(51,pB true),(55,undefP)] (.range 19) rfl rfl rfl rfl (s_pick_t rfl rfl rfl ⟨rfl,rfl,rfl⟩) (d_op (x_run0 [(56,pB true)] (.range 20) rfl rfl rfl rfl (s_move rfl ⟨rfl,rfl,rfl⟩) (xn [(57,pB true),(1,PV.ptr 0 0)] (.range 21) rfl rfl rfl rfl rfl ?_)))))
     refine xn [(57,pB true),(58,undefP)] (.range 22) rfl rfl rfl rfl rfl (xn [(57,pB true),(59,undefP)] (.range 23) rfl rfl rfl rfl rfl (xn [(57,pB true),(60,undefP)] (.range 24) rfl rfl rfl rfl rfl (d_op (x_run0 [(57,pB true),(61,undefP)] (.range 25) rfl rfl rfl rfl (s_pick_t rfl rfl rfl ⟨rfl,rfl,rfl⟩) (d_op ?_)))))
     refine x_run0 [(62,pB true)] (.range 26) rfl rfl rfl rfl (s_assign rfl ⟨rfl,rfl,rfl⟩) (d_end ⟨by kernel_rfl, ?_⟩)
     refine q_then (w_if rfl (fun _ => ?_) (fun e => absurd e (by decide)))
     refine w_seq (w_R (qa hnt rfl rfl (r_set [(2,pI 12)] [(0,.obj (cRequest r))] 1 ⟨rfl,trivial⟩ rfl rfl (r_end (q_then ?_)))))
     refine w_le (s := 2) (y := pI (rightR r)) rfl (le_of_eq (congrArg pI (show 12 = (rightR r) by exact (wrong_P c1 (fun h => by omega)).symm))) (w_ret (q_block_ret (q_then_ret ?_)))
     exact fin_plain (ret_tmp rfl ret_nil) rfl rfl ⟨rfl,rfl,rfl⟩
end Go.Proofs.Ytlcmbkkimgdnmaa
set_option linter.unusedVariables false
set_option linter.unusedSimpArgs false
namespace Go.Proofs.Ytlcmbkkimgdnmaa
open Go Go.Proofs.Ytlcmbkkimgdnmaa.Pv
def manyOk (q : TRequest) : Bool := decide ((q.fn = 1 ∨ q.fn = 2 → 1 ≤ q.count ∧ q.count ≤ 2000) ∧ (q.fn = 3 ∨ q.fn = 4 → 1 ≤ q.count ∧ q.count ≤ 125) ∧ (q.fn = 15 → 1 ≤ q.count ∧ q.count ≤ 1968) ∧ (q.fn = 16 → 1 ≤ q.count ∧ q.count ≤ 123) ∧
  (q.fn = 23 → (1 ≤ q.count ∧ q.count ≤ 125) ∧ 1 ≤ q.vals.length ∧ q.vals.length ≤ 121))
def countsR (q : TRequest) : Bool := decide (rightR q = 0) && manyOk q
section
variable {g : List UInt8 → TRequest} {b : List UInt8}
end
theorem counts_no {q : TRequest} (h : ¬ rightR q = 0) : countsR q = false := by unfold countsR; rw [decide_eq_false h]; rfl
theorem counts_yes {q : TRequest} (h : rightR q = 0) : countsR q = manyOk q := by unfold countsR; rw [decide_eq_true h]; rfl
end Go.Proofs.Ytlcmbkkimgdnmaa
set_option linter.unusedVariables false
set_option linter.unusedSimpArgs false
set_option maxRecDepth 10000
set_option maxHeartbeats 1000000
namespace Go.Proofs.Ytlcmbkkimgdnmaa
open Go Go.Proofs.Ytlcmbkkimgdnmaa.Pv
theorem w_pdu_Counts (r : TRequest) (hb : r.bits.length ≤ 140737488351232) (hv : r.vals.length ≤ 140737488351232) :
    T Try.prog 44 [PV.f (eRequest r)] 0 [] (Ret (pB (countsR r)) 0 []) := by
 refine t_fun tabOk (n := 40) (rs := [.tmp 2]) Try.func44 rfl rfl rfl rfl (Nat.le_of_ble_eq_true rfl) ?_
 intro c hnt hk
 refine w_seq (w_R (qo hnt rfl (s_box rfl rfl ?_)))
 refine qa hnt rfl rfl (r_set [(1,PV.ptr 0 0)] [(0,.obj (cRequest r))] 1 ⟨rfl,trivial⟩ rfl rfl (r_end (q_then (w_seq (w_seq ?_)))))
 refine w_R (qo hnt rfl (s_load_ptr tab_37 rfl rfl rfl (Nat.le_of_ble_eq_true rfl) ?_))
 refine qo hnt rfl (s_callF rfl rfl rfl (w_pdu_Right r (by omega) (by omega)) rfl ?_)
 refine qo hnt rfl (s_neq rfl rfl ?_)
 refine r_end (q_then (w_if rfl (fun c1 => ?_) (fun c1 => ?_)))
 ·have c1_ := c1
  try simp only [sB] at c1
  refine w_seq (w_R (qa hnt rfl rfl (r_end (q_then (w_le (s := 2) (y := pB (countsR r)) rfl (le_of_eq (congrArg pB (show false = (countsR r) by exact (counts_no (by assumption)).symm))) ?_)))))
  refine w_ret (q_then_ret ?_)
  exact fin_plain (ret_tmp rfl ret_nil) rfl rfl ⟨rfl,rfl,rfl⟩
 have c1_ := c1
 try simp only [sB] at c1
 refine w_skip (q_then (w_seq (w_R (qa hnt rfl rfl (r_end ?_)))))
 refine q_then (w_seq (w_seq (w_R (qo hnt rfl (s_fa_ptr tab_37 rfl rfl tab_3 (by decide) rfl ?_)))))
 refine qo hnt rfl (s_load_ptr1 tab_3 rfl rfl rfl rfl rfl ?_)
 refine r_end (q_then (w_block (w_seq (w_seq (w_R ?_)))))
 refine qo hnt rfl (s_eql rfl rfl ?_)
 refine qa hnt rfl rfl (r_end (q_then (w_if rfl (fun c2 => ?_) (fun c2 => ?_))))
 ·have c2_ := c2
  try simp only [sB] at c2
  refine w_skip (q_then (w_if rfl (fun _ => ?_) (fun e => absurd (e.symm.trans c2_) (by decide))))
  refine w_R (qa hnt rfl rfl (r_end (q_block (q_then (w_seq ?_)))))
  refine w_R (qo hnt rfl (s_fa_ptr tab_37 rfl rfl tab_3 (by decide) rfl ?_))
  refine qo hnt rfl (s_load_ptr1 tab_3 rfl rfl rfl rfl rfl ?_)
  refine qo hnt rfl (s_geq rfl rfl ?_)
  refine qm hnt rfl rfl (r_cut0 5 [(39,pB ((decide (1 ≤ r.count)) && (decide (r.count ≤ 2000))))] ?_ ?_)
  ·refine r_if tabOk hnt rfl rfl rfl (fun g1 => ?_) (fun g1 => ?_)
   ·have g1' := g1
    try simp only [sB] at g1'
    refine qo hnt rfl (s_fa_ptr tab_37 rfl rfl tab_3 (by decide) rfl ?_)
    refine ry hnt rfl rfl rfl g1 (qo hnt rfl (s_load_ptr1 tab_3 rfl rfl rfl rfl rfl ?_))
    refine ry hnt rfl rfl rfl g1 (qm hnt rfl rfl (ry hnt rfl rfl rfl g1 (qo hnt rfl (s_leq rfl rfl ?_))))
    refine qo hnt rfl (s_pick_t rfl g1 rfl ?_)
    refine r_eq (s := 39) (y := pB ((decide (1 ≤ r.count)) && (decide (r.count ≤ 2000)))) rfl (mix_at g1) ?_
    exact r_mid ⟨⟨rfl,trivial⟩,rfl,rfl⟩
   ·have g1' := g1
    try simp only [sB] at g1'
    refine rn hnt rfl rfl rfl g1 (rn hnt rfl rfl rfl g1 (rn hnt rfl rfl rfl g1 (qo hnt rfl (s_pick_f rfl g1 rfl ?_))))
    refine r_eq (s := 39) (y := pB ((decide (1 ≤ r.count)) && (decide (r.count ≤ 2000)))) rfl (mix_af _ g1) ?_
    exact r_mid ⟨⟨rfl,trivial⟩,rfl,rfl⟩
  ·refine qa hnt rfl rfl (r_end (q_then (w_le (s := 2) (y := pB (countsR r)) rfl (le_of_eq (congrArg pB (show ((decide (1 ≤ r.count)) && (decide (r.count ≤ 2000))) = (countsR r) by (rw [counts_yes (by first|assumption|simpa using c1_)]; unfold manyOk; first|exact (decide_eq_true (by omega)).symm|exact (decide_eq_false (by omega)).symm|(apply Bool.eq_iff_iff.2; simp only [Bool.and_eq_true,Bool.or_eq_true,decide_eq_true_eq,Bool.not_eq_true',decide_eq_false_iff_not]; try omega))))) (w_ret ?_))))
   exact fin_plain (ret_tmp rfl ret_nil) rfl rfl ⟨rfl,rfl,rfl⟩
 have c2_ := c2
 try simp only [sB] at c2
 refine w_R (qo hnt rfl (s_eql rfl rfl ?_))
 refine qa hnt rfl rfl (r_end (q_then (w_if rfl (fun c3 => ?_) (fun c3 => ?_))))
 ·have c3_ := c3
  try simp only [sB] at c3
  refine w_R (qa hnt rfl rfl (r_end (q_block (q_then (w_seq ?_)))))
  refine w_R (qo hnt rfl (s_fa_ptr tab_37 rfl rfl tab_3 (by decide) rfl ?_))
  refine qo hnt rfl (s_load_ptr1 tab_3 rfl rfl rfl rfl rfl ?_)
  refine qo hnt rfl (s_geq rfl rfl ?_)
  refine qm hnt rfl rfl (r_cut0 5 [(39,pB ((decide (1 ≤ r.count)) && (decide (r.count ≤ 2000))))] ?_ ?_)
  ·refine r_if tabOk hnt rfl rfl rfl (fun g2 => ?_) (fun g2 => ?_)
   ·have g2' := g2
    try simp only [sB] at g2'
    refine qo hnt rfl (s_fa_ptr tab_37 rfl rfl tab_3 (by decide) rfl ?_)
    refine ry hnt rfl rfl rfl g2 (qo hnt rfl (s_load_ptr1 tab_3 rfl rfl rfl rfl rfl ?_))
    refine ry hnt rfl rfl rfl g2 (qm hnt rfl rfl (ry hnt rfl rfl rfl g2 (qo hnt rfl (s_leq rfl rfl ?_))))
    refine qo hnt rfl (s_pick_t rfl g2 rfl ?_)
    refine r_eq (s := 39) (y := pB ((decide (1 ≤ r.count)) && (decide (r.count ≤ 2000)))) rfl (mix_at g2) ?_
    exact r_mid ⟨⟨rfl,trivial⟩,rfl,rfl⟩
   ·have g2' := g2
    try simp only [sB] at g2'
    refine rn hnt rfl rfl rfl g2 (rn hnt rfl rfl rfl g2 (rn hnt rfl rfl rfl g2 (qo hnt rfl (s_pick_f rfl g2 rfl ?_))))
    refine r_eq (s := 39) (y := pB ((decide (1 ≤ r.count)) && (decide (r.count ≤ 2000)))) rfl (mix_af _ g2) ?_
    exact r_mid ⟨⟨rfl,trivial⟩,rfl,rfl⟩
  ·refine qa hnt rfl rfl (r_end (q_then (w_le (s := 2) (y := pB (countsR r)) rfl (le_of_eq (congrArg pB (show ((decide (1 ≤ r.count)) && (decide (r.count ≤ 2000))) = (countsR r) by (rw [counts_yes (by first|assumption|simpa using c1_)]; unfold manyOk; first|exact (decide_eq_true (by omega)).symm|exact (decide_eq_false (by omega)).symm|(apply Bool.eq_iff_iff.2; simp only [Bool.and_eq_true,Bool.or_eq_true,decide_eq_true_eq,Bool.not_eq_true',decide_eq_false_iff_not]; try omega))))) (w_ret ?_))))
   exact fin_plain (ret_tmp rfl ret_nil) rfl rfl ⟨rfl,rfl,rfl⟩
 have c3_ := c3
 try simp only [sB] at c3
 refine w_seq (w_seq (w_R (qo hnt rfl (s_eql rfl rfl ?_))))
 refine qa hnt rfl rfl (r_end (q_then (w_if rfl (fun c4 => ?_) (fun c4 => ?_))))
 ·have c4_ := c4
  try simp only [sB] at c4
  refine w_skip (q_then (w_if rfl (fun _ => ?_) (fun e => absurd (e.symm.trans c4_) (by decide))))
  refine w_R (qa hnt rfl rfl (r_end (q_block (q_then (w_seq ?_)))))
  refine w_R (qo hnt rfl (s_fa_ptr tab_37 rfl rfl tab_3 (by decide) rfl ?_))
  refine qo hnt rfl (s_load_ptr1 tab_3 rfl rfl rfl rfl rfl ?_)
  refine qo hnt rfl (s_geq rfl rfl ?_)
  refine qm hnt rfl rfl (r_cut0 5 [(39,pB ((decide (1 ≤ r.count)) && (decide (r.count ≤ 125))))] ?_ ?_)
  ·refine r_if tabOk hnt rfl rfl rfl (fun g3 => ?_) (fun g3 => ?_)
   ·have g3' := g3
    try simp only [sB] at g3'
    refine qo hnt rfl (s_fa_ptr tab_37 rfl rfl tab_3 (by decide) rfl ?_)
    refine ry hnt rfl rfl rfl g3 (qo hnt rfl (s_load_ptr1 tab_3 rfl rfl rfl rfl rfl ?_))
    refine ry hnt rfl rfl rfl g3 (qm hnt rfl rfl (ry hnt rfl rfl rfl g3 (qo hnt rfl (s_leq rfl rfl ?_))))
    refine qo hnt rfl (s_pick_t rfl g3 rfl ?_)
    refine r_eq (s := 39) (y := pB ((decide (1 ≤ r.count)) && (decide (r.count ≤ 125)))) rfl (mix_at g3) ?_
    exact r_mid ⟨⟨rfl,trivial⟩,rfl,rfl⟩
   ·have g3' := g3
    try simp only [sB] at g3'
    refine rn hnt rfl rfl rfl g3 (rn hnt rfl rfl rfl g3 (rn hnt rfl rfl rfl g3 (qo hnt rfl (s_pick_f rfl g3 rfl ?_))))
    refine r_eq (s := 39) (y := pB ((decide (1 ≤ r.count)) && (decide (r.count ≤ 125)))) rfl (mix_af _ g3) ?_
    exact r_mid ⟨⟨rfl,trivial⟩,rfl,rfl⟩
  ·refine qa hnt rfl rfl (r_end (q_then (w_le (s := 2) (y := pB (countsR r)) rfl (le_of_eq (congrArg pB (show ((decide (1 ≤ r.count)) && (decide (r.count ≤ 125))) = (countsR r) by (rw [counts_yes (by first|assumption|simpa using c1_)]; unfold manyOk; first|exact (decide_eq_true (by omega)).symm|exact (decide_eq_false (by omega)).symm|(apply Bool.eq_iff_iff.2; simp only [Bool.and_eq_true,Bool.or_eq_true,decide_eq_true_eq,Bool.not_eq_true',decide_eq_false_iff_not]; try omega))))) (w_ret ?_))))
   exact fin_plain (ret_tmp rfl ret_nil) rfl rfl ⟨rfl,rfl,rfl⟩
 have c4_ := c4
 try simp only [sB] at c4
 refine w_R (qo hnt rfl (s_eql rfl rfl ?_))
 refine qa hnt rfl rfl (r_end (q_then (w_if rfl (fun c5 => ?_) (fun c5 => ?_))))
 ·have c5_ := c5
  try simp only [sB] at c5
  refine w_R (qa hnt rfl rfl (r_end (q_block (q_then (w_seq ?_)))))
  refine w_R (qo hnt rfl (s_fa_ptr tab_37 rfl rfl tab_3 (by decide) rfl ?_))
  refine qo hnt rfl (s_load_ptr1 tab_3 rfl rfl rfl rfl rfl ?_)
  refine qo hnt rfl (s_geq rfl rfl ?_)
  refine qm hnt rfl rfl (r_cut0 5 [(39,pB ((decide (1 ≤ r.count)) && (decide (r.count ≤ 125))))] ?_ ?_)
  ·refine r_if tabOk hnt rfl rfl rfl (fun g4 => ?_) (fun g4 => ?_)
   ·have g4' := g4
    try simp only [sB] at g4'
    refine qo hnt rfl (s_fa_ptr tab_37 rfl rfl tab_3 (by decide) rfl ?_)
    refine ry hnt rfl rfl rfl g4 (qo hnt rfl (s_load_ptr1 tab_3 rfl rfl rfl rfl rfl ?_))
    refine ry hnt rfl rfl rfl g4 (qm hnt rfl rfl (ry hnt rfl rfl rfl g4 (qo hnt rfl (s_leq rfl rfl ?_))))
    refine qo hnt rfl (s_pick_t rfl g4 rfl ?_)
    refine r_eq (s := 39) (y := pB ((decide (1 ≤ r.count)) && (decide (r.count ≤ 125)))) rfl (mix_at g4) ?_
    exact r_mid ⟨⟨rfl,trivial⟩,rfl,rfl⟩
   ·have g4' := g4
    try simp only [sB] at g4'
    refine rn hnt rfl rfl rfl g4 (rn hnt rfl rfl rfl g4 (rn hnt rfl rfl rfl g4 (qo hnt rfl (s_pick_f rfl g4 rfl ?_))))
    refine r_eq (s := 39) (y := pB ((decide (1 ≤ r.count)) && (decide (r.count ≤ 125)))) rfl (mix_af _ g4) ?_
    exact r_mid ⟨⟨rfl,trivial⟩,rfl,rfl⟩
  ·refine qa hnt rfl rfl (r_end (q_then (w_le (s := 2) (y := pB (countsR r)) rfl (le_of_eq (congrArg pB (show ((decide (1 ≤ r.count)) && (decide (r.count ≤ 125))) = (countsR r) by (rw [counts_yes (by first|assumption|simpa using c1_)]; unfold manyOk; first|exact (decide_eq_true (by omega)).symm|exact (decide_eq_false (by omega)).symm|(apply Bool.eq_iff_iff.2; simp only [Bool.and_eq_true,Bool.or_eq_true,decide_eq_true_eq,Bool.not_eq_true',decide_eq_false_iff_not]; try omega))))) (w_ret ?_))))
   exact fin_plain (ret_tmp rfl ret_nil) rfl rfl ⟨rfl,rfl,rfl⟩
 have c5_ := c5
 try simp only [sB] at c5
 refine w_seq (w_R (qo hnt rfl (s_eql rfl rfl ?_)))
 refine qa hnt rfl rfl (r_end (q_then (w_if rfl (fun c6 => ?_) (fun c6 => ?_))))
 ·have c6_ := c6
  try simp only [sB] at c6
  refine w_R (qa hnt rfl rfl (r_end (q_block (q_then (w_seq ?_)))))
  refine w_R (qo hnt rfl (s_fa_ptr tab_37 rfl rfl tab_3 (by decide) rfl ?_))
  refine qo hnt rfl (s_load_ptr1 tab_3 rfl rfl rfl rfl rfl ?_)
  refine qo hnt rfl (s_geq rfl rfl ?_)
  refine qm hnt rfl rfl (r_cut0 5 [(39,pB ((decide (1 ≤ r.count)) && (decide (r.count ≤ 1968))))] ?_ ?_)
  ·refine r_if tabOk hnt rfl rfl rfl (fun g5 => ?_) (fun g5 => ?_)
   ·have g5' := g5
    try simp only [sB] at g5'
    refine qo hnt rfl (s_fa_ptr tab_37 rfl rfl tab_3 (by decide) rfl ?_)
    refine ry hnt rfl rfl rfl g5 (qo hnt rfl (s_load_ptr1 tab_3 rfl rfl rfl rfl rfl ?_))
    refine ry hnt rfl rfl rfl g5 (qm hnt rfl rfl (ry hnt rfl rfl rfl g5 (qo hnt rfl (s_leq rfl rfl ?_))))
    refine qo hnt rfl (s_pick_t rfl g5 rfl ?_)
    refine r_eq (s := 39) (y := pB ((decide (1 ≤ r.count)) && (decide (r.count ≤ 1968)))) rfl (mix_at g5) ?_
    exact r_mid ⟨⟨rfl,trivial⟩,rfl,rfl⟩
   ·have g5' := g5
    try simp only [sB] at g5'
    refine rn hnt rfl rfl rfl g5 (rn hnt rfl rfl rfl g5 (rn hnt rfl rfl rfl g5 (qo hnt rfl (s_pick_f rfl g5 rfl ?_))))
    refine r_eq (s := 39) (y := pB ((decide (1 ≤ r.count)) && (decide (r.count ≤ 1968)))) rfl (mix_af _ g5) ?_
    exact r_mid ⟨⟨rfl,trivial⟩,rfl,rfl⟩
  ·refine qa hnt rfl rfl (r_end (q_then (w_le (s := 2) (y := pB (countsR r)) rfl (le_of_eq (congrArg pB (show ((decide (1 ≤ r.count)) && (decide (r.count ≤ 1968))) = (countsR r) by (rw [counts_yes (by first|assumption|simpa using c1_)]; unfold manyOk; first|exact (decide_eq_true (by omega)).symm|exact (decide_eq_false (by omega)).symm|(apply Bool.eq_iff_iff.2; simp only [Bool.and_eq_true,Bool.or_eq_true,decide_eq_true_eq,Bool.not_eq_true',decide_eq_false_iff_not]; try omega))))) (w_ret ?_))))
   exact fin_plain (ret_tmp rfl ret_nil) rfl rfl ⟨rfl,rfl,rfl⟩
 have c6_ := c6
 try simp only [sB] at c6
 refine w_seq (w_R (qo hnt rfl (s_eql rfl rfl ?_)))
 refine qa hnt rfl rfl (r_end (q_then (w_if rfl (fun c7 => ?_) (fun c7 => ?_))))
 ·have c7_ := c7
  try simp only [sB] at c7
  refine w_R (qa hnt rfl rfl (r_end (q_block (q_then (w_seq ?_)))))
  refine w_R (qo hnt rfl (s_fa_ptr tab_37 rfl rfl tab_3 (by decide) rfl ?_))
  refine qo hnt rfl (s_load_ptr1 tab_3 rfl rfl rfl rfl rfl ?_)
  refine qo hnt rfl (s_geq rfl rfl ?_)
  refine qm hnt rfl rfl (r_cut0 5 [(39,pB ((decide (1 ≤ r.count)) && (decide (r.count ≤ 123))))] ?_ ?_)
  ·refine r_if tabOk hnt rfl rfl rfl (fun g6 => ?_) (fun g6 => ?_)
   ·have g6' := g6
    try simp only [sB] at g6'
    refine qo hnt rfl (s_fa_ptr tab_37 rfl rfl tab_3 (by decide) rfl ?_)
    refine ry hnt rfl rfl rfl g6 (qo hnt rfl (s_load_ptr1 tab_3 rfl rfl rfl rfl rfl ?_))
    refine ry hnt rfl rfl rfl g6 (qm hnt rfl rfl (ry hnt rfl rfl rfl g6 (qo hnt rfl (s_leq rfl rfl ?_))))
    refine qo hnt rfl (s_pick_t rfl g6 rfl ?_)
    refine r_eq (s := 39) (y := pB ((decide (1 ≤ r.count)) && (decide (r.count ≤ 123)))) rfl (mix_at g6) ?_
    exact r_mid ⟨⟨rfl,trivial⟩,rfl,rfl⟩
   ·have g6' := g6
    try simp only [sB] at g6'
    refine rn hnt rfl rfl rfl g6 (rn hnt rfl rfl rfl g6 (rn hnt rfl rfl rfl g6 (qo hnt rfl (s_pick_f rfl g6 rfl ?_))))
    refine r_eq (s := 39) (y := pB ((decide (1 ≤ r.count)) && (decide (r.count ≤ 123)))) rfl (mix_af _ g6) ?_
    exact r_mid ⟨⟨rfl,trivial⟩,rfl,rfl⟩
  ·refine qa hnt rfl rfl (r_end (q_then (w_le (s := 2) (y := pB (countsR r)) rfl (le_of_eq (congrArg pB (show ((decide (1 ≤ r.count)) && (decide (r.count ≤ 123))) = (countsR r) by (rw [counts_yes (by first|assumption|simpa using c1_)]; unfold manyOk; first|exact (decide_eq_true (by omega)).symm|exact (decide_eq_false (by omega)).symm|(apply Bool.eq_iff_iff.2; simp only [Bool.and_eq_true,Bool.or_eq_true,decide_eq_true_eq,Bool.not_eq_true',decide_eq_false_iff_not]; try omega))))) (w_ret ?_))))
   exact fin_plain (ret_tmp rfl ret_nil) rfl rfl ⟨rfl,rfl,rfl⟩
 have c7_ := c7
 try simp only [sB] at c7
 refine w_seq (w_R (qo hnt rfl (s_eql rfl rfl ?_)))
 refine qa hnt rfl rfl (r_end (q_then (w_if rfl (fun c8 => ?_) (fun c8 => ?_))))
 ·have c8_ := c8
  try simp only [sB] at c8
  refine w_seq (w_seq (w_R (qo hnt rfl (s_fa_ptr tab_37 rfl rfl tab_34 (by decide) rfl ?_))))
  refine qo hnt rfl (s_load_ptr1 tab_34 rfl rfl rfl rfl rfl ?_)
  refine qo hnt rfl (s_lenM (l := r.vals) tab_34 rfl (hM_sl (f := enc16) rfl) ?_)
  refine qo hnt rfl (s_lss rfl rfl ?_)
  refine qm hnt rfl rfl (r_cut0 5 [(1,PV.ptr 0 0),(30,pB ((decide (((r.vals.length : Nat) : Int) < 1)) || (decide (121 < ((r.vals.length : Nat) : Int)))))] ?_ ?_)
  ·refine r_if tabOk hnt rfl rfl rfl (fun g7 => ?_) (fun g7 => ?_)
   ·have g7' := g7
    try simp only [sB] at g7'
    refine qo hnt rfl (s_fa_ptr tab_37 rfl rfl tab_34 (by decide) rfl ?_)
    refine ry hnt rfl rfl rfl g7 (qo hnt rfl (s_load_ptr1 tab_34 rfl rfl rfl rfl rfl ?_))
    refine ry hnt rfl rfl rfl g7 (qo hnt rfl (s_lenM (l := r.vals) tab_34 rfl (hM_sl (f := enc16) rfl) ?_))
    refine ry hnt rfl rfl rfl g7 (qo hnt rfl (s_gtr rfl rfl ?_))
    refine qo hnt rfl (s_pick_f rfl g7 rfl ?_)
    refine r_eq (s := 30) (y := pB ((decide (((r.vals.length : Nat) : Int) < 1)) || (decide (121 < ((r.vals.length : Nat) : Int))))) rfl (mix_of g7) ?_
    exact r_mid ⟨⟨rfl,rfl,trivial⟩,rfl,rfl⟩
   ·have g7' := g7
    try simp only [sB] at g7'
    refine rn hnt rfl rfl rfl g7 (rn hnt rfl rfl rfl g7 (rn hnt rfl rfl rfl g7 (qo hnt rfl (s_pick_t rfl g7 rfl ?_))))
    refine r_eq (s := 30) (y := pB ((decide (((r.vals.length : Nat) : Int) < 1)) || (decide (121 < ((r.vals.length : Nat) : Int))))) rfl (mix_ot _ g7) ?_
    exact r_mid ⟨⟨rfl,rfl,trivial⟩,rfl,rfl⟩
  ·refine r_end (q_then (w_if rfl (fun c9 => ?_) (fun c9 => ?_)))
   ·have c9_ := c9
    try simp only [sB] at c9
    try simp only [Bool.or_eq_true,decide_eq_true_eq] at c9
    refine w_seq (w_R (qa hnt rfl rfl (r_end (q_then (w_le (s := 2) (y := pB (countsR r)) rfl (le_of_eq (congrArg pB (show false = (countsR r) by (rw [counts_yes (by first|assumption|simpa using c1_)]; unfold manyOk; first|exact (decide_eq_true (by omega)).symm|exact (decide_eq_false (by omega)).symm|(apply Bool.eq_iff_iff.2; simp only [Bool.and_eq_true,Bool.or_eq_true,decide_eq_true_eq,Bool.not_eq_true',decide_eq_false_iff_not]; try omega))))) ?_)))))
    refine w_ret (q_then_ret (q_block_ret (q_then_ret ?_)))
    exact fin_plain (ret_tmp rfl ret_nil) rfl rfl ⟨rfl,rfl,rfl⟩
   have c9_ := c9
   try simp only [sB] at c9
   try simp only [Bool.or_eq_false_iff,decide_eq_false_iff_not] at c9
   refine w_skip (q_then (w_R (qa hnt rfl rfl (r_end (q_block ?_)))))
   refine q_then (w_seq (w_R (qo hnt rfl (s_fa_ptr tab_37 rfl rfl tab_3 (by decide) rfl ?_))))
   refine qo hnt rfl (s_load_ptr1 tab_3 rfl rfl rfl rfl rfl ?_)
   refine qo hnt rfl (s_geq rfl rfl ?_)
   refine qm hnt rfl rfl (r_cut0 5 [(39,pB ((decide (1 ≤ r.count)) && (decide (r.count ≤ 125))))] ?_ ?_)
   ·refine r_if tabOk hnt rfl rfl rfl (fun g8 => ?_) (fun g8 => ?_)
    ·have g8' := g8
     try simp only [sB] at g8'
     refine qo hnt rfl (s_fa_ptr tab_37 rfl rfl tab_3 (by decide) rfl ?_)
     refine ry hnt rfl rfl rfl g8 (qo hnt rfl (s_load_ptr1 tab_3 rfl rfl rfl rfl rfl ?_))
     refine ry hnt rfl rfl rfl g8 (qm hnt rfl rfl (ry hnt rfl rfl rfl g8 (qo hnt rfl (s_leq rfl rfl ?_))))
     refine qo hnt rfl (s_pick_t rfl g8 rfl ?_)
     refine r_eq (s := 39) (y := pB ((decide (1 ≤ r.count)) && (decide (r.count ≤ 125)))) rfl (mix_at g8) ?_
     exact r_mid ⟨⟨rfl,trivial⟩,rfl,rfl⟩
    ·have g8' := g8
     try simp only [sB] at g8'
     refine rn hnt rfl rfl rfl g8 (rn hnt rfl rfl rfl g8 (rn hnt rfl rfl rfl g8 (qo hnt rfl (s_pick_f rfl g8 rfl ?_))))
     refine r_eq (s := 39) (y := pB ((decide (1 ≤ r.count)) && (decide (r.count ≤ 125)))) rfl (mix_af _ g8) ?_
     exact r_mid ⟨⟨rfl,trivial⟩,rfl,rfl⟩
   ·refine qa hnt rfl rfl (r_end (q_then (w_le (s := 2) (y := pB (countsR r)) rfl (le_of_eq (congrArg pB (show ((decide (1 ≤ r.count)) && (decide (r.count ≤ 125))) = (countsR r) by (rw [counts_yes (by first|assumption|simpa using c1_)]; unfold manyOk; first|exact (decide_eq_true (by omega)).symm|exact (decide_eq_false (by omega)).symm|(apply Bool.eq_iff_iff.2; simp only [Bool.and_eq_true,Bool.or_eq_true,decide_eq_true_eq,Bool.not_eq_true',decide_eq_false_iff_not]; try omega))))) (w_ret ?_))))
    exact fin_plain (ret_tmp rfl ret_nil) rfl rfl ⟨rfl,rfl,rfl⟩
 have c8_ := c8
 try simp only [sB] at c8
 refine w_seq (w_R (qa hnt rfl rfl (r_end (q_then (w_le (s := 2) (y := pB (countsR r)) rfl (le_of_eq (congrArg pB (show true = (countsR r) by (rw [counts_yes (by first|assumption|simpa using c1_)]; unfold manyOk; first|exact (decide_eq_true (by omega)).symm|exact (decide_eq_false (by omega)).symm|(apply Bool.eq_iff_iff.2; simp only [Bool.and_eq_true,Bool.or_eq_true,decide_eq_true_eq,Bool.not_eq_true',decide_eq_false_iff_not]; try omega))))) ?_)))))
 refine w_ret (q_block_ret (q_then_ret ?_))
 exact fin_plain (ret_tmp rfl ret_nil) rfl rfl ⟨rfl,rfl,rfl⟩
end Go.Proofs.Ytlcmbkkimgdnmaa
set_option linter.unusedVariables false
set_option linter.unusedSimpArgs false
namespace Go.Proofs.Ytlcmbkkimgdnmaa
open Go Go.Proofs.Ytlcmbkkimgdnmaa.Pv
def four (a b c d : Int) (s : Int) : Int := if s = 0 then a else if s = 1 then b else if s = 2 then c else d
structure WInv (lo : Int) (l : List TWindow) (v f : Int → Int) : Prop where
  vb : ∀ s,0 ≤ s ∧ s ≤ 3 → 0 ≤ v s ∧ v s ≤ 23 * l.length
  fb : ∀ s,0 ≤ s ∧ s ≤ 3 → lo ≤ f s ∧ f s ≤ lo + 20 * l.length
  mem : ∀ w ∈ l,(0 ≤ w.space ∧ w.space ≤ 3) ∧ 1 ≤ w.count ∧ 0 ≤ w.virtual ∧ lo ≤ w.physical ∧ w.virtual + w.count ≤ v w.space ∧ w.physical + w.count ≤ f w.space
  row : l.Pairwise fun x y => x.space = y.space → x.virtual + x.count ≤ y.virtual ∧ x.physical + x.count ≤ y.physical
theorem WInv.nil (lo : Int) : WInv lo [] (four 0 0 0 0) (four lo lo lo lo) := by
  refine ⟨fun s _ => ?_,fun s _ => ?_,fun w hw => by simp at hw,List.Pairwise.nil⟩
  · unfold four; simp
  · unfold four; simp
theorem WInv.step {lo : Int} {l : List TWindow} {v f v' f' : Int → Int} (h : WInv lo l v f) {s d e n : Int} (hs : 0 ≤ s ∧ s ≤ 3) (hd : 0 ≤ d ∧ d ≤ 5) (he : 0 ≤ e ∧ e ≤ 2) (hn : 1 ≤ n ∧ n ≤ 18)
    (hv : ∀ x,0 ≤ x ∧ x ≤ 3 → v' x = if x = s then v s + d + n else v x) (hf : ∀ x,0 ≤ x ∧ x ≤ 3 → f' x = if x = s then f s + e + n else f x) : WInv lo (l ++ [⟨s,v s + d,f s + e,n⟩]) v' f' := by
  obtain ⟨vb,fb,mem,row⟩ := h
  have hl : ((l ++ [(⟨s,v s + d,f s + e,n⟩ : TWindow)]).length : Int) = l.length + 1 := by simp
  refine ⟨fun x hx => ?_,fun x hx => ?_,fun w hw => ?_, ?_⟩
  · rw [hv x hx,hl]; have h1 := vb x hx; have h2 := vb s hs; split <;> omega
  · rw [hf x hx,hl]; have h1 := fb x hx; have h2 := fb s hs; split <;> omega
  · have hvb := vb s hs
    have hfb := fb s hs
    rcases List.mem_append.1 hw with h|h
    · obtain ⟨a,b,c,c2,g,k⟩ := mem w h
      rw [hv _ a,hf _ a]
      refine ⟨a,b,c,c2, ?_, ?_⟩
      · split
        · rename_i hx; rw [hx] at g; omega
        · exact g
      · split
        · rename_i hx; rw [hx] at k; omega
        · exact k
    · have h := List.mem_singleton.1 h
      subst h
      simp only
      rw [hv _ hs,hf _ hs,if_pos rfl,if_pos rfl]
      exact ⟨hs,by omega,by omega,by omega,by omega,by omega⟩
  · rw [List.pairwise_append]
    refine ⟨row,List.pairwise_singleton _ _,fun x hx y hy hxy => ?_⟩
    have hy := List.mem_singleton.1 hy
    subst hy
    obtain ⟨a,b,c,c2,g,k⟩ := mem x hx
    simp only at hxy ⊢
    rw [hxy] at g k
    omega
theorem WInv.step0 {lo v0 v1 v2 v3 f0 f1 f2 f3 d e n : Int} {l : List TWindow} (h : WInv lo l (four v0 v1 v2 v3) (four f0 f1 f2 f3)) (hd : 0 ≤ d ∧ d ≤ 5) (he : 0 ≤ e ∧ e ≤ 2) (hn : 1 ≤ n ∧ n ≤ 18) :
    WInv lo (l ++ [⟨0,v0 + d,f0 + e,n⟩]) (four (v0 + d + n) v1 v2 v3) (four (f0 + e + n) f1 f2 f3) :=
  h.step (s := 0) (by decide) hd he hn (fun x hx => by unfold four; (repeat' split) <;> omega) (fun x hx => by unfold four; (repeat' split) <;> omega)
theorem WInv.step1 {lo v0 v1 v2 v3 f0 f1 f2 f3 d e n : Int} {l : List TWindow} (h : WInv lo l (four v0 v1 v2 v3) (four f0 f1 f2 f3)) (hd : 0 ≤ d ∧ d ≤ 5) (he : 0 ≤ e ∧ e ≤ 2) (hn : 1 ≤ n ∧ n ≤ 18) :
    WInv lo (l ++ [⟨1,v1 + d,f1 + e,n⟩]) (four v0 (v1 + d + n) v2 v3) (four f0 (f1 + e + n) f2 f3) :=
  h.step (s := 1) (by decide) hd he hn (fun x hx => by unfold four; (repeat' split) <;> omega) (fun x hx => by unfold four; (repeat' split) <;> omega)
theorem WInv.step2 {lo v0 v1 v2 v3 f0 f1 f2 f3 d e n : Int} {l : List TWindow} (h : WInv lo l (four v0 v1 v2 v3) (four f0 f1 f2 f3)) (hd : 0 ≤ d ∧ d ≤ 5) (he : 0 ≤ e ∧ e ≤ 2) (hn : 1 ≤ n ∧ n ≤ 18) :
    WInv lo (l ++ [⟨2,v2 + d,f2 + e,n⟩]) (four v0 v1 (v2 + d + n) v3) (four f0 f1 (f2 + e + n) f3) :=
  h.step (s := 2) (by decide) hd he hn (fun x hx => by unfold four; (repeat' split) <;> omega) (fun x hx => by unfold four; (repeat' split) <;> omega)
theorem WInv.step3 {lo v0 v1 v2 v3 f0 f1 f2 f3 d e n : Int} {l : List TWindow} (h : WInv lo l (four v0 v1 v2 v3) (four f0 f1 f2 f3)) (hd : 0 ≤ d ∧ d ≤ 5) (he : 0 ≤ e ∧ e ≤ 2) (hn : 1 ≤ n ∧ n ≤ 18) :
    WInv lo (l ++ [⟨3,v3 + d,f3 + e,n⟩]) (four v0 v1 v2 (v3 + d + n)) (four f0 f1 f2 (f3 + e + n)) :=
  h.step (s := 3) (by decide) hd he hn (fun x hx => by unfold four; (repeat' split) <;> omega) (fun x hx => by unfold four; (repeat' split) <;> omega)
structure WinsOk (l : List TWindow) : Prop where
  len : l.length ≤ 6
  right : ∀ w ∈ l,winR w = true ∧ w.virtual + w.count ≤ 138
  row : l.Pairwise fun x y => x.space = y.space → x.virtual + x.count ≤ y.virtual ∧ x.physical + x.count ≤ y.physical
theorem WInv.ok {lo : Int} {l : List TWindow} {v f : Int → Int} (h : WInv lo l v f) (hl : l.length ≤ 6) (hlo : 0 ≤ lo ∧ lo ≤ 384) : WinsOk l := by
  refine ⟨hl,fun w hw => ?_,h.row⟩
  obtain ⟨a,b,c,c2,g,k⟩ := h.mem w hw
  have h1 := h.vb w.space a
  have h2 := h.fb w.space a
  exact ⟨(winR_iff w).2 ⟨a,by omega,by omega⟩,by omega⟩
theorem WinsOk.two {l : List TWindow} (h : WinsOk l) {i j : Nat} {a b : TWindow} (hj : j < i) (ha : l[i]? = some a) (hb : l[j]? = some b) (hs : a.space = b.space) : b.virtual + b.count ≤ a.virtual ∧ b.physical + b.count ≤ a.physical := by
  obtain ⟨h1,rfl⟩ := List.getElem?_eq_some_iff.1 ha
  obtain ⟨h2,rfl⟩ := List.getElem?_eq_some_iff.1 hb
  exact List.pairwise_iff_getElem.1 h.row j i h2 h1 hj hs.symm
theorem meet_no {a b : TSpan} (h : b.at_ + b.count ≤ a.at_) : meetOk a b = false := by
  rw [Bool.eq_false_iff]
  intro hm
  have := (meetOk_iff a b).1 hm
  omega
theorem WinsOk.own {l : List TWindow} (h : WinsOk l) : ownW l = true := by
  refine own_yes fun i j a b hj ha hb => ?_
  by_cases hs : a.space = b.space
  · obtain ⟨h1,h2⟩ := h.two hj ha hb hs
    unfold clashW meetW
    rw [meet_no (a := pSp a) (b := pSp b) h2,meet_no (a := vSp a) (b := vSp b) h1]
    rfl
  · unfold clashW meetW
    rw [decide_eq_false hs]
    simp
structure TabG (X : TTable) : Prop where
  len : 1 ≤ X.tenants.length ∧ X.tenants.length ≤ 4
  wins : ∀ p ∈ X.tenants,WinsOk p.windows
end Go.Proofs.Ytlcmbkkimgdnmaa
set_option linter.unusedVariables false
set_option linter.unusedSimpArgs false
namespace Go.Proofs.Ytlcmbkkimgdnmaa
open Go Go.Proofs.Ytlcmbkkimgdnmaa.Pv
def LK : List TWindow := [⟨3,0,100,4⟩,⟨3,4,50,4⟩]
theorem kn_of : (ofL LK 3).map vSp = [⟨0,4⟩,⟨4,4⟩] := by decide
theorem kn_c1 : coverL [⟨0,4⟩,⟨4,4⟩] ⟨2,4⟩ = some [⟨2,2⟩,⟨4,2⟩] := by
  unfold coverL
  rw [if_pos (by decide),covGo_step (i := 0) (x := ⟨0,4⟩) (by decide) (by decide) rfl (by decide),covGo_step (i := 1) (x := ⟨4,4⟩) (by decide) (by decide) rfl (by decide),covGo_end (by decide)]
  rfl
theorem kn_1 : mapOk LK 3 2 4 = true := by unfold mapOk coverOk; rw [kn_of,kn_c1]; rfl
theorem kn_2 : mapL LK 3 2 4 = [⟨2,102,2⟩,⟨4,50,2⟩] := by unfold mapL covW coverV; rw [kn_of,kn_c1]; decide
section
variable {l : List TWindow} {s : Int}
end
section
variable {Q : Int → Prop} {a n k z : Nat}
end
end Go.Proofs.Ytlcmbkkimgdnmaa
set_option linter.unusedVariables false
set_option linter.unusedSimpArgs false
namespace Go.Proofs.Ytlcmbkkimgdnmaa
open Go Go.Proofs.Ytlcmbkkimgdnmaa.Pv
def fBit (F n : Int) : Bool := decide (bitI .and .u32 (F / 2 ^ n.toNat) 1 = 0)
def pR (l : List TWindow) (q : TRequest) : List TPiece :=
  if q.fn = 1 then mapL l 0 q.at_ q.count else if q.fn = 2 then mapL l 1 q.at_ q.count else if q.fn = 3 then mapL l 3 q.at_ q.count else if q.fn = 4 then mapL l 2 q.at_ q.count
  else if q.fn = 22 then mapL l 3 q.at_ 1 else if q.fn = 23 then mapL l 3 q.at_ q.count else []
def pW (l : List TWindow) (q : TRequest) : List TPiece :=
  if q.fn = 5 then mapL l 0 q.at_ 1 else if q.fn = 6 then mapL l 3 q.at_ 1 else if q.fn = 15 then mapL l 0 q.at_ q.count else if q.fn = 16 then mapL l 3 q.at_ q.count
  else if q.fn = 22 then mapL l 3 q.at_ 1 else if q.fn = 23 then mapL l 3 q.wAt ((q.vals.length : Nat) : Int) else []
def pOk (l : List TWindow) (q : TRequest) : Bool :=
  if q.fn = 1 then mapOk l 0 q.at_ q.count else if q.fn = 2 then mapOk l 1 q.at_ q.count else if q.fn = 3 then mapOk l 3 q.at_ q.count else if q.fn = 4 then mapOk l 2 q.at_ q.count
  else if q.fn = 5 then mapOk l 0 q.at_ 1 else if q.fn = 6 then mapOk l 3 q.at_ 1 else if q.fn = 15 then mapOk l 0 q.at_ q.count else if q.fn = 16 then mapOk l 3 q.at_ q.count
  else if q.fn = 22 then mapOk l 3 q.at_ 1 else if q.fn = 23 then mapOk l 3 q.wAt ((q.vals.length : Nat) : Int) && mapOk l 3 q.at_ q.count else true
def codeP (F : Int) (l : List TWindow) (q : TRequest) : Int :=
  if rightR q = 15 ∨ fBit F q.fn = true then 1 else if countsR q = false then 3 else if pOk l q = false then 2 else if 6 < (pW l q).length + (pR l q).length then 4 else 0
def rPart (f : Int) (p : TPiece) : TPart := ⟨⟨f,p.physical,p.count,0,0,[],[],0,0⟩,false⟩
def wPart (q : TRequest) (p : TPiece) : TPart :=
  if q.fn = 5 then ⟨⟨5,p.physical,0,0,0,q.bits,[],0,0⟩,true⟩
  else if q.fn = 6 then ⟨⟨6,p.physical,0,0,0,[],q.vals,0,0⟩,true⟩
  else if q.fn = 15 then ⟨⟨15,p.physical,p.count,0,0,(q.bits.drop (p.at_ - q.at_).toNat).take p.count.toNat,[],0,0⟩,true⟩
  else if q.fn = 16 then ⟨⟨16,p.physical,p.count,0,0,[],(q.vals.drop (p.at_ - q.at_).toNat).take p.count.toNat,0,0⟩,true⟩
  else ⟨⟨16,p.physical,p.count,0,0,[],(q.vals.drop (p.at_ - q.wAt).toNat).take p.count.toNat,0,0⟩,true⟩
def pc0 : TPiece := ⟨0,0,0⟩
def partsP (l : List TWindow) (q : TRequest) : List TPart :=
  if q.fn = 22 then [⟨⟨3,((pR l q).getD 0 pc0).physical,1,0,0,[],[],0,0⟩,false⟩,⟨⟨6,((pR l q).getD 0 pc0).physical,0,0,0,[],[0],0,0⟩,true⟩]
  else (pW l q).map (wPart q) ++ (pR l q).map (rPart (if q.fn = 23 then 3 else q.fn))
def splitP (F : Int) (l : List TWindow) (q : TRequest) : List TPart × Int := if codeP F l q = 0 then (partsP l q,0) else ([],codeP F l q)
def spP (n : Int) : Int := if n = 1 ∨ n = 5 ∨ n = 15 then 0 else if n = 2 then 1 else if n = 4 then 2 else 3
theorem spP_0 {n : Int} (h : n = 1 ∨ n = 5 ∨ n = 15) : spP n = 0 := by unfold spP; rw [if_pos h]
theorem spP_1 {n : Int} (h : n = 2) : spP n = 1 := by unfold spP; rw [if_neg (by omega),if_pos h]
theorem spP_2 {n : Int} (h : n = 4) : spP n = 2 := by unfold spP; rw [if_neg (by omega),if_neg (by omega),if_pos h]
theorem spP_3 {n : Int} (h : ¬ (n = 1 ∨ n = 5 ∨ n = 15) ∧ n ≠ 2 ∧ n ≠ 4) : spP n = 3 := by unfold spP; rw [if_neg (by omega),if_neg (by omega),if_neg (by omega)]
def locP (n : Int) : Bool := decide (n = 8) || decide (n = 17)
section
variable {l : List TWindow} {q : TRequest}
theorem pAll_r (h : q.fn = 1 ∨ q.fn = 2 ∨ q.fn = 3 ∨ q.fn = 4) : pW l q = [] ∧ pR l q = mapL l (spP q.fn) q.at_ q.count ∧ pOk l q = mapOk l (spP q.fn) q.at_ q.count := by
  unfold pW pR pOk spP; rcases h with h|h|h|h <;> rw [h] <;> exact ⟨rfl,rfl,rfl⟩
theorem pAll_5 (h : q.fn = 5 ∨ q.fn = 6) : pW l q = mapL l (spP q.fn) q.at_ 1 ∧ pR l q = [] ∧ pOk l q = mapOk l (spP q.fn) q.at_ 1 := by
  unfold pW pR pOk spP; rcases h with h|h <;> rw [h] <;> exact ⟨rfl,rfl,rfl⟩
theorem pAll_15 (h : q.fn = 15 ∨ q.fn = 16) : pW l q = mapL l (spP q.fn) q.at_ q.count ∧ pR l q = [] ∧ pOk l q = mapOk l (spP q.fn) q.at_ q.count := by
  unfold pW pR pOk spP; rcases h with h|h <;> rw [h] <;> exact ⟨rfl,rfl,rfl⟩
theorem pAll_22 (h : q.fn = 22) : pW l q = mapL l 3 q.at_ 1 ∧ pR l q = mapL l 3 q.at_ 1 ∧ pOk l q = mapOk l 3 q.at_ 1 := by
  unfold pW pR pOk; rw [h]; exact ⟨rfl,rfl,rfl⟩
theorem pAll_23 (h : q.fn = 23) : pW l q = mapL l 3 q.wAt ((q.vals.length : Nat) : Int) ∧ pR l q = mapL l 3 q.at_ q.count ∧ pOk l q = (mapOk l 3 q.wAt ((q.vals.length : Nat) : Int) && mapOk l 3 q.at_ q.count) := by
  unfold pW pR pOk; rw [h]; exact ⟨rfl,rfl,rfl⟩
theorem pAll_0 (h : ¬ (q.fn = 1 ∨ q.fn = 2 ∨ q.fn = 3 ∨ q.fn = 4 ∨ q.fn = 5 ∨ q.fn = 6 ∨ q.fn = 15 ∨ q.fn = 16 ∨ q.fn = 22 ∨ q.fn = 23)) : pW l q = [] ∧ pR l q = [] ∧ pOk l q = true := by
  unfold pW pR pOk
  rw [if_neg (by omega),if_neg (by omega),if_neg (by omega),if_neg (by omega),if_neg (by omega),if_neg (by omega),if_neg (by omega),if_neg (by omega),if_neg (by omega),if_neg (by omega),if_neg (by omega),if_neg (by omega),if_neg (by omega),if_neg (by omega),if_neg (by omega),if_neg (by omega),if_neg (by omega),if_neg (by omega),if_neg (by omega),if_neg (by omega),if_neg (by omega),if_neg (by omega)]
  exact ⟨rfl,rfl,rfl⟩
end
section
variable {F : Int} {l : List TWindow} {q : TRequest}
theorem codeP_1 (h : rightR q = 15 ∨ fBit F q.fn = true) : codeP F l q = 1 := by unfold codeP; rw [if_pos h]
theorem codeP_3 (h : ¬ (rightR q = 15 ∨ fBit F q.fn = true)) (h2 : countsR q = false) : codeP F l q = 3 := by unfold codeP; rw [if_neg h,if_pos h2]
theorem codeP_2 (h : ¬ (rightR q = 15 ∨ fBit F q.fn = true)) (h2 : countsR q = true) (h3 : pOk l q = false) : codeP F l q = 2 := by unfold codeP; rw [if_neg h,if_neg (by simp [h2]),if_pos h3]
theorem codeP_4 (h : ¬ (rightR q = 15 ∨ fBit F q.fn = true)) (h2 : countsR q = true) (h3 : pOk l q = true) (h4 : 6 < (pW l q).length + (pR l q).length) : codeP F l q = 4 := by unfold codeP; rw [if_neg h,if_neg (by simp [h2]),if_neg (by simp [h3]),if_pos h4]
theorem codeP_0 (h : ¬ (rightR q = 15 ∨ fBit F q.fn = true)) (h2 : countsR q = true) (h3 : pOk l q = true) (h4 : ¬ 6 < (pW l q).length + (pR l q).length) : codeP F l q = 0 := by unfold codeP; rw [if_neg h,if_neg (by simp [h2]),if_neg (by simp [h3]),if_neg h4]
theorem codeP_zero (h : codeP F l q = 0) : ¬ (rightR q = 15 ∨ fBit F q.fn = true) ∧ countsR q = true ∧ pOk l q = true ∧ (pW l q).length + (pR l q).length ≤ 6 := by
  unfold codeP at h
  split at h
  · cases h
  · rename_i h1
    split at h
    · cases h
    · rename_i h2
      split at h
      · cases h
      · rename_i h3
        split at h
        · cases h
        · rename_i h4
          exact ⟨h1,by simpa using h2,by simpa using h3,by omega⟩
theorem counts_right (h : countsR q = true) : rightR q = 0 := by
  unfold countsR at h
  rw [Bool.and_eq_true] at h
  exact of_decide_eq_true h.1
theorem split_no (h : ¬ codeP F l q = 0) : splitP F l q = ([],codeP F l q) := by unfold splitP; rw [if_neg h]
theorem split_yes (h : codeP F l q = 0) : splitP F l q = (partsP l q,0) := by unfold splitP; rw [if_pos h]
theorem mapL_no {s a n : Int} (h : mapOk l s a n = false) : mapL l s a n = [] := by
  unfold mapL covW coverV
  unfold mapOk coverOk at h
  rw [Option.isSome_eq_false_iff,Option.isNone_iff_eq_none] at h
  rw [h]; rfl
def chainP : Int → List TSpan → Int → Prop
  | v,[],e => v = e
  | v,p :: t,e => p.at_ = v ∧ 1 ≤ p.count ∧ chainP (v + p.count) t e
theorem covGo_chain (L : List TSpan) (e : Int) : ∀ (n : Nat) (v : Int) (os : List TSpan),(e - v).toNat ≤ n → v ≤ e → covGo L e v = some os → chainP v os e
  | n,v,os,hn,hve,h => by
    rw [covGo] at h
    split at h
    · rename_i hv
      split at h
      · cases h
      · rename_i i hi
        split at h
        · rename_i hlt
          simp only [Option.map_eq_some_iff] at h
          obtain ⟨t,h1,rfl⟩ := h
          match n,hn with
          | 0,hn => omega
          | n + 1,hn =>
            refine ⟨rfl,by simp only; omega, ?_⟩
            simp only
            rw [show v + (min ((L.getD i sp0).at_ + (L.getD i sp0).count) e - v) = min ((L.getD i sp0).at_ + (L.getD i sp0).count) e by omega]
            exact covGo_chain L e n _ t (by omega) (by omega) h1
        · cases h
    · cases h; exact (by omega : v = e)
def sumC : List TPiece → Int
  | [] => 0
  | p :: t => p.count + sumC t
def chainQ : Int → List TPiece → Int → Prop
  | v,[],e => v = e
  | v,p :: t,e => p.at_ = v ∧ 1 ≤ p.count ∧ chainQ (v + p.count) t e
theorem chain_map {g : TSpan → TPiece} : ∀ {os : List TSpan} {v e : Int},(∀ p ∈ os,(g p).at_ = p.at_ ∧ (g p).count = p.count) → chainP v os e → chainQ v (os.map g) e
  | [],v,e,_,h => h
  | p :: t,v,e,hg,⟨h1,h2,h3⟩ => by
    obtain ⟨g1,g2⟩ := hg p List.mem_cons_self
    refine ⟨by rw [g1,h1],by rw [g2]; exact h2, ?_⟩
    rw [g2]
    exact chain_map (fun q hq => hg q (List.mem_cons_of_mem _ hq)) h3
theorem chain_at : ∀ {os : List TPiece} {v e : Int},chainQ v os e → ∀ {j : Nat} {p : TPiece},os[j]? = some p → p.at_ = v + sumC (os.take j) ∧ 1 ≤ p.count ∧ p.at_ + p.count ≤ e
  | [],v,e,_,j,p,h => by simp at h
  | x :: t,v,e,⟨h1,h2,h3⟩,0,p,h => by
    simp only [List.getElem?_cons_zero,Option.some.injEq] at h
    subst h
    refine ⟨by simp [sumC,h1],h2, ?_⟩
    have := chain_end h3
    omega
  | x :: t,v,e,⟨h1,h2,h3⟩,j + 1,p,h => by
    rw [List.getElem?_cons_succ] at h
    obtain ⟨a,b,c⟩ := chain_at h3 h
    refine ⟨?_,b,c⟩
    rw [a,List.take_succ_cons]
    simp only [sumC]; omega
where
  chain_end : ∀ {os : List TPiece} {v e : Int},chainQ v os e → v ≤ e
    | [],v,e,h => by have h : v = e := h; omega
    | p :: t,v,e,⟨_,h2,h3⟩ => by have := chain_end h3; omega
theorem pieceW_at {s a n : Int} {p : TSpan} (hp : p ∈ covW l s a n) : (pieceW (ofL l s) p).at_ = p.at_ ∧ (pieceW (ofL l s) p).count = p.count := by
  obtain ⟨i,w,_,_,_,_,hpc,_⟩ := piece_of hp
  rw [hpc]; exact ⟨rfl,rfl⟩
theorem map_chain {s a n : Int} (h : mapOk l s a n = true) : chainQ a (mapL l s a n) (a + n) := by
  unfold mapOk coverOk coverL at h
  split at h
  case isFalse => cases h
  rename_i hsp
  have h1 := (spOk_iff _).1 hsp.1
  cases hg : covGo ((ofL l s).map vSp) (a + n) a with
  | none => simp only at h; rw [hg] at h; cases h
  | some os =>
    have hcv : covW l s a n = os := by unfold covW coverV coverL; rw [if_pos hsp]; simp only; rw [hg]; rfl
    have hc := covGo_chain _ _ _ a os (Nat.le_refl _) (by simp only at h1; omega) hg
    unfold mapL
    rw [hcv]
    exact chain_map (fun p hp => pieceW_at (by rw [hcv]; exact hp)) hc
theorem mapL_get {s a n : Int} {j : Nat} {x : TPiece} (h : (mapL l s a n)[j]? = some x) : mapOk l s a n = true ∧ x.at_ = a + sumC ((mapL l s a n).take j) ∧ 1 ≤ x.count ∧ a ≤ x.at_ ∧ x.at_ + x.count ≤ a + n ∧
    ∃ w ∈ ofL l s,winR w = true ∧ w.space = s ∧ w ∈ l ∧ w.physical ≤ x.physical ∧ x.physical + x.count ≤ w.physical + w.count := by
  cases hok : mapOk l s a n with
  | false => rw [mapL_no hok] at h; simp at h
  | true =>
    obtain ⟨h1,h2,h3⟩ := chain_at (map_chain hok) h
    unfold mapL at h
    rw [List.getElem?_map] at h
    obtain ⟨p,hp,rfl⟩ := Option.map_eq_some_iff.1 h
    have hm := List.mem_of_getElem? hp
    obtain ⟨i,w,hw,_,_,_,hpc,m1,m2,m3,v1,v2,v3,v4,v5⟩ := piece_of hm
    refine ⟨rfl,h1,h2,by rw [hpc]; exact v4,h3,w,List.mem_of_getElem? hw,m1,m2,m3, ?_⟩
    rw [hpc]; simp only; omega
theorem mapL_one {s a : Int} (h : mapOk l s a 1 = true) : (mapL l s a 1).length = 1 ∧ ∀ x,(mapL l s a 1)[0]? = some x → x.count = 1 := by
  have hc := map_chain h
  match hm : mapL l s a 1,hc with
  | [],hc => have hc : a = a + 1 := hc; omega
  | [p],⟨h1,h2,h3⟩ =>
    have h3 : a + p.count = a + 1 := h3
    exact ⟨rfl,fun x hx => by simp at hx; subst hx; omega⟩
  | p :: q :: t,⟨h1,h2,h3,h4,h5⟩ =>
    have := chain_at.chain_end h5
    omega
theorem mapL_len (l : List TWindow) (s a n : Int) : (mapL l s a n).length ≤ 2147483648 := by unfold mapL; rw [List.length_map]; exact covW_len _ _ _ _
end
end Go.Proofs.Ytlcmbkkimgdnmaa
set_option linter.unusedVariables false
set_option linter.unusedSimpArgs false
namespace Go.Proofs.Ytlcmbkkimgdnmaa
open Go Go.Proofs.Ytlcmbkkimgdnmaa.Pv
theorem cnt_bad {q : TRequest} (h : ((!decide (rightR q = 0)) || (!(countsR q))) = true) : countsR q = false := by
  cases hc : countsR q with
  | false => rfl
  | true => rw [counts_right hc,hc] at h; cases h
theorem right_15 {q : TRequest} (h : ¬ rightR q = 15) : hasF q.fn = true := by
  cases hf : hasF q.fn with
  | true => rfl
  | false => exact absurd (rightR_1 (by rw [hf]; rfl)) h
theorem counts_has {q : TRequest} (h : countsR q = true) : hasF q.fn = true := (rightR_zero (counts_right h)).1
section
variable {l : List TWindow} {q : TRequest}
theorem p_one (h : q.fn = 5 ∨ q.fn = 6 ∨ q.fn = 22) (h2 : pOk l q = true) : (pW l q).length = 1 ∧ (∀ x,(pW l q)[0]? = some x → x.count = 1) ∧ (q.fn = 22 → pR l q = pW l q) ∧ (q.fn ≠ 22 → pR l q = []) := by
  by_cases h22 : q.fn = 22
  · obtain ⟨a,b,c⟩ := pAll_22 (l := l) h22
    rw [c] at h2
    have := mapL_one h2
    rw [a,b]
    exact ⟨this.1,this.2,fun _ => rfl,fun hn => absurd h22 hn⟩
  · obtain ⟨a,b,c⟩ := pAll_5 (l := l) (q := q) (by omega)
    rw [c] at h2
    have := mapL_one h2
    rw [a,b]
    exact ⟨this.1,this.2,fun hn => absurd hn h22,fun _ => rfl⟩
theorem pW_get (hc : countsR q = true) {i : Nat} {x : TPiece} (h : (pW l q)[i]? = some x) : 1 ≤ x.count ∧ x.count ≤ 65536 ∧ 0 ≤ x.physical ∧ x.physical + x.count ≤ 512 ∧ (q.fn = 5 ∨ q.fn = 6 ∨ q.fn = 15 ∨ q.fn = 16 ∨ q.fn = 22 ∨ q.fn = 23) ∧
    (q.fn = 15 → q.at_ ≤ x.at_ ∧ x.at_ + x.count ≤ q.at_ + q.count ∧ (q.bits.length : Int) = q.count ∧ x.at_ - q.at_ = sumC ((pW l q).take i)) ∧ (q.fn = 16 → q.at_ ≤ x.at_ ∧ x.at_ + x.count ≤ q.at_ + q.count ∧ (q.vals.length : Int) = q.count ∧ x.at_ - q.at_ = sumC ((pW l q).take i)) ∧
    (q.fn = 23 → q.wAt ≤ x.at_ ∧ x.at_ + x.count ≤ q.wAt + ((q.vals.length : Nat) : Int) ∧ x.at_ - q.wAt = sumC ((pW l q).take i)) := by
  have hr := counts_right hc
  have hh := hasF_of (rightR_zero hr).1
  have hs := (rightR_zero hr).2
  have hsb := hs.bits
  have hsv := hs.vals
  have key : ∀ {s a n : Int},pW l q = mapL l s a n → mapOk l s a n = true ∧ x.at_ = a + sumC ((pW l q).take i) ∧ 1 ≤ x.count ∧ a ≤ x.at_ ∧ x.at_ + x.count ≤ a + n ∧ 0 ≤ x.physical ∧ x.physical + x.count ≤ 512 := by
    intro s a n e
    rw [e] at h ⊢
    obtain ⟨k1,k2,k3,k4,k5,w,hw,m1,m2,m3,m4,m5⟩ := mapL_get h
    have := (winR_iff w).1 m1
    exact ⟨k1,k2,k3,k4,k5,by omega,by omega⟩
  by_cases h5 : q.fn = 5 ∨ q.fn = 6
  · obtain ⟨_,k2,k3,k4,k5,k6,k7⟩ := key (pAll_5 (l := l) h5).1
    exact ⟨k3,by omega,k6,k7,by omega,by omega,by omega,by omega⟩
  by_cases h15 : q.fn = 15 ∨ q.fn = 16
  · obtain ⟨_,k2,k3,k4,k5,k6,k7⟩ := key (pAll_15 (l := l) h15).1
    refine ⟨k3,by omega,k6,k7,by omega,fun h => ⟨k4,k5, ?_,by omega⟩,fun h => ⟨k4,k5, ?_,by omega⟩,by omega⟩
    · rw [if_neg (by omega),if_pos h] at hsb; exact hsb.1
    · rw [if_neg (by omega),if_pos h] at hsv; exact hsv.1
  by_cases h22 : q.fn = 22
  · obtain ⟨_,k2,k3,k4,k5,k6,k7⟩ := key (pAll_22 (l := l) h22).1
    exact ⟨k3,by omega,k6,k7,by omega,by omega,by omega,by omega⟩
  by_cases h23 : q.fn = 23
  · obtain ⟨_,k2,k3,k4,k5,k6,k7⟩ := key (pAll_23 (l := l) h23).1
    exact ⟨k3,by omega,k6,k7,by omega,by omega,by omega,fun _ => ⟨k4,k5,by omega⟩⟩
  · by_cases h1 : q.fn = 1 ∨ q.fn = 2 ∨ q.fn = 3 ∨ q.fn = 4
    · rw [(pAll_r (l := l) h1).1] at h; simp at h
    · rw [(pAll_0 (l := l) (q := q) (by omega)).1] at h; simp at h
theorem p_len (l : List TWindow) (q : TRequest) : (pW l q).length ≤ 2147483648 ∧ (pR l q).length ≤ 2147483648 := by
  have h := mapL_len
  unfold pW pR
  constructor
  · repeat' split
    all_goals first|exact h _ _ _ _|exact Nat.zero_le _
  · repeat' split
    all_goals first|exact h _ _ _ _|exact Nat.zero_le _
variable {p : TPiece}
theorem wPart_5 (h : q.fn = 5) : wPart q p = ⟨⟨5,p.physical,0,0,0,q.bits,[],0,0⟩,true⟩ := by unfold wPart; rw [if_pos h]
theorem wPart_6 (h : q.fn = 6) : wPart q p = ⟨⟨6,p.physical,0,0,0,[],q.vals,0,0⟩,true⟩ := by unfold wPart; rw [if_neg (by omega),if_pos h]
theorem wPart_15 (h : q.fn = 15) : wPart q p = ⟨⟨15,p.physical,p.count,0,0,(q.bits.drop (p.at_ - q.at_).toNat).take p.count.toNat,[],0,0⟩,true⟩ := by unfold wPart; rw [if_neg (by omega),if_neg (by omega),if_pos h]
theorem wPart_16 (h : q.fn = 16) : wPart q p = ⟨⟨16,p.physical,p.count,0,0,[],(q.vals.drop (p.at_ - q.at_).toNat).take p.count.toNat,0,0⟩,true⟩ := by unfold wPart; rw [if_neg (by omega),if_neg (by omega),if_neg (by omega),if_pos h]
theorem wPart_23 (h : q.fn = 23) : wPart q p = ⟨⟨16,p.physical,p.count,0,0,[],(q.vals.drop (p.at_ - q.wAt).toNat).take p.count.toNat,0,0⟩,true⟩ := by unfold wPart; rw [if_neg (by omega),if_neg (by omega),if_neg (by omega),if_neg (by omega)]
theorem wPart_eta (q : TRequest) (p : TPiece) : (⟨(wPart q p).request,true⟩ : TPart) = wPart q p := by
  unfold wPart
  repeat' split
  all_goals rfl
theorem parts_22 (h : q.fn = 22) {x : TPiece} (hx : (pR l q)[0]? = some x) (hc : x.count = 1) : partsP l q = [rPart 3 x,⟨⟨6,x.physical,0,0,0,[],[0],0,0⟩,true⟩] := by
  unfold partsP rPart
  rw [if_pos h,List.getD_eq_getElem?_getD,hx,hc]; rfl
theorem parts_22r (h : q.fn = 22) {x : TPiece} (hx : (pR l q)[0]? = some x) : partsP l q = [⟨⟨3,x.physical,1,0,0,[],[],0,0⟩,false⟩,⟨⟨6,x.physical,0,0,0,[],[0],0,0⟩,true⟩] := by
  unfold partsP
  rw [if_pos h,List.getD_eq_getElem?_getD,hx]; rfl
theorem parts_no (h : ¬ q.fn = 22) : partsP l q = (pW l q).map (wPart q) ++ (pR l q).map (rPart (if q.fn = 23 then 3 else q.fn)) := by unfold partsP; rw [if_neg h]
variable {F : Int}
end
end Go.Proofs.Ytlcmbkkimgdnmaa
set_option linter.unusedVariables false
set_option linter.unusedSimpArgs false
set_option maxRecDepth 10000
set_option maxHeartbeats 1000000
namespace Go.Proofs.Ytlcmbkkimgdnmaa
open Go Go.Proofs.Ytlcmbkkimgdnmaa.Pv
theorem w_part_space (n : Int)  :
    T Try.prog 61 [pI n] 0 [] (Ret (pI (spP n)) 0 []) := by
 refine t_fun tabOk (n := 12) (rs := [.tmp 2]) Try.func61 rfl rfl rfl rfl (Nat.le_of_ble_eq_true rfl) ?_
 intro c hnt hk
 refine w_seq (w_R (qa hnt rfl rfl (r_end (q_then (w_seq ?_)))))
 refine w_seq (w_R (qm hnt rfl rfl (r_end (q_then (w_block ?_)))))
 refine join1 (fun (bb1 : Bool) => bb1 = ((decide (n = 1)) || ((decide (n = 5)) || (decide (n = 15))))) (fun (bb1 : Bool) => [(3,pI n),(4,pB bb1)]) 0 (fun (bb1 : Bool) => []) ?_ ?_
 ·refine w_seq (w_R (qo hnt rfl (s_eql rfl rfl ?_)))
  refine qa hnt rfl rfl (r_end (q_then (w_if rfl (fun c1 => ?_) (fun c1 => ?_))))
  ·have c1_ := c1
   try simp only [sB] at c1
   refine w_skip (q_then (⟨(decide (n = 1)), ?_,⟨[],rfl,⟨⟨_,rfl,rfl,rfl⟩,⟨_,rfl,rfl,rfl⟩,trivial⟩,trivial,by rw [hk]; decide⟩⟩))
   simp only [c1_,Bool.true_or,Bool.false_or]
  have c1_ := c1
  try simp only [sB] at c1
  refine w_seq (w_R (qo hnt rfl (s_eql rfl rfl ?_)))
  refine qa hnt rfl rfl (r_end (q_then (w_if rfl (fun c2 => ?_) (fun c2 => ?_))))
  ·have c2_ := c2
   try simp only [sB] at c2
   refine w_skip (q_then (⟨(decide (n = 5)), ?_,⟨[],rfl,⟨⟨_,rfl,rfl,rfl⟩,⟨_,rfl,rfl,rfl⟩,trivial⟩,trivial,by rw [hk]; decide⟩⟩))
   simp only [c1_,c2_,Bool.true_or,Bool.false_or]
  have c2_ := c2
  try simp only [sB] at c2
  refine w_R (qo hnt rfl (s_eql rfl rfl ?_))
  refine qa hnt rfl rfl (r_end (q_then (⟨(decide (n = 15)), ?_,⟨[],rfl,⟨⟨_,rfl,rfl,rfl⟩,⟨_,rfl,rfl,rfl⟩,trivial⟩,trivial,by rw [hk]; decide⟩⟩)))
  simp only [c1_,c2_,Bool.true_or,Bool.false_or]
 intro bb1 hbb1
 subst hbb1
 refine w_if rfl (fun c3 => ?_) (fun c3 => ?_)
 ·try simp only [sB,Bool.or_eq_true,Bool.or_eq_false_iff] at c3
  refine w_seq (w_R (qa hnt rfl rfl (r_end (q_then (w_le (s := 2) (y := pI (spP n)) rfl (le_of_eq (congrArg pI (show 0 = (spP n) by exact (spP_0 (by omega)).symm))) ?_)))))
  refine w_ret (q_block_ret (q_then_ret ?_))
  exact fin_plain (ret_tmp rfl ret_nil) rfl rfl ⟨rfl,rfl,rfl⟩
 try simp only [sB,Bool.or_eq_true,Bool.or_eq_false_iff] at c3
 refine w_seq (w_R (qo hnt rfl (s_eql rfl rfl ?_)))
 refine qa hnt rfl rfl (r_end (q_then (w_if rfl (fun c4 => ?_) (fun c4 => ?_))))
 ·try simp only [sB] at c4
  refine w_seq (w_R (qa hnt rfl rfl (r_end (q_then (w_le (s := 2) (y := pI (spP n)) rfl (le_of_eq (congrArg pI (show 1 = (spP n) by exact (spP_1 (by omega)).symm))) ?_)))))
  refine w_ret (q_block_ret (q_then_ret ?_))
  exact fin_plain (ret_tmp rfl ret_nil) rfl rfl ⟨rfl,rfl,rfl⟩
 try simp only [sB] at c4
 refine w_seq (w_R (qo hnt rfl (s_eql rfl rfl ?_)))
 refine qa hnt rfl rfl (r_end (q_then (w_if rfl (fun c5 => ?_) (fun c5 => ?_))))
 ·try simp only [sB] at c5
  refine w_seq (w_R (qa hnt rfl rfl (r_end (q_then (w_le (s := 2) (y := pI (spP n)) rfl (le_of_eq (congrArg pI (show 2 = (spP n) by exact (spP_2 (by omega)).symm))) ?_)))))
  refine w_ret (q_block_ret (q_then_ret ?_))
  exact fin_plain (ret_tmp rfl ret_nil) rfl rfl ⟨rfl,rfl,rfl⟩
 try simp only [sB] at c5
 refine w_skip (q_block (q_then (w_seq (w_R (qa hnt rfl rfl ?_)))))
 refine r_end (q_then (w_le (s := 2) (y := pI (spP n)) rfl (le_of_eq (congrArg pI (show 3 = (spP n) by exact (spP_3 (by omega)).symm))) (w_ret ?_)))
 exact fin_plain (ret_tmp rfl ret_nil) rfl rfl ⟨rfl,rfl,rfl⟩
theorem w_part_Local (q : TRequest)  :
    T Try.prog 19 [PV.f (eRequest q)] 0 [] (Ret (pB (locP q.fn)) 0 []) := by
 refine t_fun tabOk (n := 11) (rs := [.tmp 2]) Try.func19 rfl rfl rfl rfl (Nat.le_of_ble_eq_true rfl) ?_
 intro c hnt hk
 refine w_seq (w_R (qo hnt rfl (s_box rfl rfl ?_)))
 refine qa hnt rfl rfl (r_set [(1,PV.ptr 0 0)] [(0,.obj (cRequest q))] 1 ⟨rfl,trivial⟩ rfl rfl (r_end (q_then (w_seq (w_R ?_)))))
 refine qo hnt rfl (s_fa_ptr tab_37 rfl rfl tab_3 (by decide) rfl ?_)
 refine qo hnt rfl (s_load_ptr1 tab_3 rfl rfl rfl rfl rfl ?_)
 refine qo hnt rfl (s_eql rfl rfl ?_)
 refine qm hnt rfl rfl (r_cut0 4 [(10,pB ((decide (q.fn = 8)) || (decide (q.fn = 17))))] ?_ ?_)
 ·refine r_if tabOk hnt rfl rfl rfl (fun g1 => ?_) (fun g1 => ?_)
  ·have g1' := g1
   try simp only [sB] at g1'
   refine qo hnt rfl (s_fa_ptr tab_37 rfl rfl tab_3 (by decide) rfl ?_)
   refine ry hnt rfl rfl rfl g1 (qo hnt rfl (s_load_ptr1 tab_3 rfl rfl rfl rfl rfl ?_))
   refine ry hnt rfl rfl rfl g1 (qo hnt rfl (s_eql rfl rfl ?_))
   refine qo hnt rfl (s_pick_f rfl g1 rfl ?_)
   refine r_eq (s := 10) (y := pB ((decide (q.fn = 8)) || (decide (q.fn = 17)))) rfl (mix_of g1) ?_
   exact r_mid ⟨⟨rfl,trivial⟩,rfl,rfl⟩
  ·have g1' := g1
   try simp only [sB] at g1'
   refine rn hnt rfl rfl rfl g1 (rn hnt rfl rfl rfl g1 (qo hnt rfl (s_pick_t rfl g1 rfl ?_)))
   refine r_eq (s := 10) (y := pB ((decide (q.fn = 8)) || (decide (q.fn = 17)))) rfl (mix_ot _ g1) ?_
   exact r_mid ⟨⟨rfl,trivial⟩,rfl,rfl⟩
 ·refine qa hnt rfl rfl (r_end (q_then (w_le (s := 2) (y := pB (locP q.fn)) rfl (le_of_eq (congrArg pB (show ((decide (q.fn = 8)) || (decide (q.fn = 17))) = (locP q.fn) by rfl))) (w_ret ?_))))
  exact fin_plain (ret_tmp rfl ret_nil) rfl rfl ⟨rfl,rfl,rfl⟩
theorem w_part_pieces (t : TTenant) (q : TRequest) (ht : t.windows.length ≤ 1000) (hb : q.bits.length ≤ 140737488351232) (hv : q.vals.length ≤ 70368744175616) (hc : hasF q.fn = true) :
    T Try.prog 36 [PV.f (eTenant t),PV.f (eRequest q)] 0 [] (Ret (PV.tup [pS 3 false ePiece (pW t.windows q),pS 3 false ePiece (pR t.windows q),pB (pOk t.windows q)]) 0 []) := by
 refine t_fun tabOk (n := 96) (rs := [.tmp 4,.tmp 5,.tmp 6]) Try.func36 rfl rfl rfl rfl (Nat.le_of_ble_eq_true rfl) ?_
 intro c hnt hk
 refine w_seq (w_R (qo hnt rfl (s_box rfl rfl ?_)))
 refine qo hnt rfl (s_box rfl rfl ?_)
 refine qa hnt rfl rfl (qa hnt rfl rfl (qa hnt rfl rfl (r_set [(2,PV.ptr 0 0),(3,PV.ptr 1 0),(4,pNil),(5,pNil)] [(1,.obj (cRequest q)),(0,.obj (cTenant t))] 2 ⟨rfl,rfl,rfl,rfl,trivial⟩ rfl rfl (r_end (q_then ?_)))))
 refine w_seq (w_R (qo hnt rfl (s_fa_ptr tab_26 rfl rfl tab_23 (by decide) rfl ?_)))
 refine qo hnt rfl (s_load_ptr1 tab_23 rfl rfl rfl rfl rfl ?_)
 refine qa hnt rfl rfl (r_end (q_then (w_seq (w_seq ?_))))
 have hfo := hasF_of hc
 refine w_R (qo hnt rfl (s_fa_ptr tab_37 rfl rfl tab_3 (by decide) rfl ?_))
 refine qo hnt rfl (s_load_ptr1 tab_3 rfl rfl rfl rfl rfl ?_)
 refine r_end (q_then (w_block (join1 (fun (bb1 : Bool) => bb1 = ((decide (q.fn = 1)) || ((decide (q.fn = 2)) || ((decide (q.fn = 3)) || (decide (q.fn = 4)))))) (fun (bb1 : Bool) => [(3,PV.ptr 0 0),(4,pNil),(5,pNil),(7,pS 4 false eWindow t.windows),(12,pI q.fn),(13,pB bb1)]) 1 (fun (bb1 : Bool) => [(0,.obj (cRequest q))]) ?_ ?_)))
 ·refine w_seq (w_R (qo hnt rfl (s_eql rfl rfl ?_)))
  refine qa hnt rfl rfl (r_end (q_then (w_if rfl (fun c1 => ?_) (fun c1 => ?_))))
  ·have c1_ := c1
   try simp only [sB] at c1
   refine w_skip (q_then (⟨(decide (q.fn = 1)), ?_,⟨[(0,1)],by rw [hk]; decide,⟨⟨_,rfl,rfl,rfl⟩,⟨_,rfl,rfl,rfl⟩,⟨_,rfl,rfl,rfl⟩,⟨_,rfl,rfl,rfl⟩,⟨_,rfl,rfl,rfl⟩,⟨_,rfl,rfl,rfl⟩,trivial⟩,⟨⟨_,_,rfl,rfl,rfl,rfl⟩,trivial⟩,by rw [hk]; decide⟩⟩))
   simp only [c1_,Bool.true_or,Bool.false_or]
  have c1_ := c1
  try simp only [sB] at c1
  refine w_seq (w_R (qo hnt rfl (s_eql rfl rfl ?_)))
  refine qa hnt rfl rfl (r_end (q_then (w_if rfl (fun c2 => ?_) (fun c2 => ?_))))
  ·have c2_ := c2
   try simp only [sB] at c2
   refine w_skip (q_then (⟨(decide (q.fn = 2)), ?_,⟨[(0,1)],by rw [hk]; decide,⟨⟨_,rfl,rfl,rfl⟩,⟨_,rfl,rfl,rfl⟩,⟨_,rfl,rfl,rfl⟩,⟨_,rfl,rfl,rfl⟩,⟨_,rfl,rfl,rfl⟩,⟨_,rfl,rfl,rfl⟩,trivial⟩,⟨⟨_,_,rfl,rfl,rfl,rfl⟩,trivial⟩,by rw [hk]; decide⟩⟩))
   simp only [c1_,c2_,Bool.true_or,Bool.false_or]
  have c2_ := c2
  try simp only [sB] at c2
  refine w_seq (w_R (qo hnt rfl (s_eql rfl rfl ?_)))
  refine qa hnt rfl rfl (r_end (q_then (w_if rfl (fun c3 => ?_) (fun c3 => ?_))))
  ·have c3_ := c3
   try simp only [sB] at c3
   refine w_skip (q_then (⟨(decide (q.fn = 3)), ?_,⟨[(0,1)],by rw [hk]; decide,⟨⟨_,rfl,rfl,rfl⟩,⟨_,rfl,rfl,rfl⟩,⟨_,rfl,rfl,rfl⟩,⟨_,rfl,rfl,rfl⟩,⟨_,rfl,rfl,rfl⟩,⟨_,rfl,rfl,rfl⟩,trivial⟩,⟨⟨_,_,rfl,rfl,rfl,rfl⟩,trivial⟩,by rw [hk]; decide⟩⟩))
   simp only [c1_,c2_,c3_,Bool.true_or,Bool.false_or]
  have c3_ := c3
  try simp only [sB] at c3
  refine w_R (qo hnt rfl (s_eql rfl rfl ?_))
  refine qa hnt rfl rfl (r_end (q_then (⟨(decide (q.fn = 4)), ?_,⟨[(0,1)],by rw [hk]; decide,⟨⟨_,rfl,rfl,rfl⟩,⟨_,rfl,rfl,rfl⟩,⟨_,rfl,rfl,rfl⟩,⟨_,rfl,rfl,rfl⟩,⟨_,rfl,rfl,rfl⟩,⟨_,rfl,rfl,rfl⟩,trivial⟩,⟨⟨_,_,rfl,rfl,rfl,rfl⟩,trivial⟩,by rw [hk]; decide⟩⟩)))
  simp only [c1_,c2_,c3_,Bool.true_or,Bool.false_or]
 intro bb1 hbb1
 subst hbb1
 refine w_if rfl (fun c4 => ?_) (fun c4 => ?_)
 ·try simp only [sB,Bool.or_eq_true,Bool.or_eq_false_iff] at c4
  refine W_drawn tabOk mixed hnt [[],[],[1],[1,2],[],[4],[],[6],(.range 8),(.range 9),(.range 10),(.range 10),(.range 11),(.range 13)] (by kernel_rfl) (d_op (x_run0 [(7,pS 4 false eWindow t.windows)] [] rfl rfl rfl rfl (s_move rfl ⟨rfl,rfl,rfl⟩) (d_op (x_run0 [(3,PV.ptr 0 0)] [] rfl rfl rfl rfl (s_fa_ptr tab_37 rfl rfl tab_3 (by decide) rfl ⟨rfl,rfl,rfl⟩) (d_op ?_)))))
  refine xL [(20,PV.ptr 0 0)] [1] [(0,.obj (cRequest q))] rfl rfl rfl rfl rfl (s_load_ptr1 tab_3 rfl rfl rfl rfl rfl ⟨rfl,rfl,rfl⟩) ⟨rfl,trivial⟩ rfl (d_op (x_run0 [(21,pI q.fn)] [1,2] rfl rfl rfl rfl (s_callF rfl rfl rfl (w_part_space q.fn) rfl ⟨rfl,rfl,rfl⟩) (d_op (x_run0 [(3,PV.ptr 0 0)] [] rfl rfl rfl rfl (s_fa_ptr tab_37 rfl rfl tab_3 (by decide) rfl ⟨rfl,rfl,rfl⟩) (d_op ?_)))))
  refine xL [(23,PV.ptr 0 1)] [4] [(0,.obj (cRequest q))] rfl rfl rfl rfl rfl (s_load_ptr1 tab_3 rfl rfl rfl rfl rfl ⟨rfl,rfl,rfl⟩) ⟨rfl,trivial⟩ rfl (d_op (x_run0 [(3,PV.ptr 0 0)] [] rfl rfl rfl rfl (s_fa_ptr tab_37 rfl rfl tab_3 (by decide) rfl ⟨rfl,rfl,rfl⟩) (d_op (xL [(25,PV.ptr 0 2)] [6] [(0,.obj (cRequest q))] rfl rfl rfl rfl rfl (s_load_ptr1 tab_3 rfl rfl rfl rfl rfl ⟨rfl,rfl,rfl⟩) ⟨rfl,trivial⟩ rfl (d_op ?_)))))
  refine x_run0 [(19,pS 4 false eWindow t.windows),(22,pI (spP q.fn)),(24,pI q.at_),(26,pI q.count)] (.range 8) rfl rfl rfl rfl (s_callF rfl rfl rfl (w_window_Map t.windows false (spP q.fn) q.at_ q.count (by omega)) rfl ⟨rfl,rfl,rfl⟩) (d_op (x_run0 [(27,PV.tup [pS 3 true ePiece (mapL t.windows (spP q.fn) q.at_ q.count),pB (mapOk t.windows (spP q.fn) q.at_ q.count)])] (.range 9) rfl rfl rfl rfl (s_move rfl ⟨rfl,rfl,rfl⟩) (d_op (x_run0 [(18,PV.tup [pS 3 true ePiece (mapL t.windows (spP q.fn) q.at_ q.count),pB (mapOk t.windows (spP q.fn) q.at_ q.count)])] (.range 10) rfl rfl rfl rfl (s_extract rfl rfl ⟨rfl,rfl,rfl⟩) (d_op ?_)))))
  refine x_run0 [(18,PV.tup [pS 3 true ePiece (mapL t.windows (spP q.fn) q.at_ q.count),pB (mapOk t.windows (spP q.fn) q.at_ q.count)])] (.range 10) rfl rfl rfl rfl (s_extract rfl rfl ⟨rfl,rfl,rfl⟩) (d_op (x_run0 [(28,pS 3 true ePiece (mapL t.windows (spP q.fn) q.at_ q.count))] (.range 11) rfl rfl rfl rfl (s_assign rfl ⟨rfl,rfl,rfl⟩) (d_op (x_run0 [(29,pB (mapOk t.windows (spP q.fn) q.at_ q.count))] (.range 13) rfl rfl rfl rfl (s_assign rfl ⟨rfl,rfl,rfl⟩) (d_end ⟨by kernel_rfl, ?_⟩)))))
  refine q_block (q_then (w_seq (w_R (qm hnt rfl rfl (qm hnt rfl rfl ?_)))))
  refine qm hnt rfl rfl (qa hnt rfl rfl (qa hnt rfl rfl (qa hnt rfl rfl (r_end (q_then ?_)))))
  refine w_le (s := 4) (y := pS 3 false ePiece []) rfl (le_nilS 3 false) (w_le (s := 4) (y := pS 3 false ePiece (pW t.windows q)) rfl (le_of_eq (congrArg (fun z => pS 3 false ePiece z) (show ([] : List TPiece) = (pW t.windows q) by (rw [(pAll_r (by omega)).1]; done)))) (w_le (s := 5) (y := pS 3 false ePiece (mapL t.windows (spP q.fn) q.at_ q.count)) rfl (le_loose) (w_le (s := 5) (y := pS 3 false ePiece (pR t.windows q)) rfl (le_of_eq (congrArg (fun z => pS 3 false ePiece z) (show (mapL t.windows (spP q.fn) q.at_ q.count) = (pR t.windows q) by (rw [(pAll_r (by omega)).2.1]; done)))) (w_le (s := 6) (y := pB (pOk t.windows q)) rfl (le_of_eq (congrArg pB (show (mapOk t.windows (spP q.fn) q.at_ q.count) = (pOk t.windows q) by (rw [(pAll_r (by omega)).2.2]; done)))) (w_ret ?_)))))
  exact fin_plain (ret_tmp rfl (ret_tmp rfl (ret_tmp rfl ret_nil))) rfl rfl ⟨rfl,rfl,rfl⟩
 try simp only [sB,Bool.or_eq_true,Bool.or_eq_false_iff] at c4
 refine join1 (fun (bb2 : Bool) => bb2 = ((decide (q.fn = 5)) || (decide (q.fn = 6)))) (fun (bb2 : Bool) => [(3,PV.ptr 0 0),(4,pNil),(5,pNil),(7,pS 4 false eWindow t.windows),(12,pI q.fn),(30,pB bb2)]) 1 (fun (bb2 : Bool) => [(0,.obj (cRequest q))]) ?_ ?_
 ·refine w_seq (w_R (qo hnt rfl (s_eql rfl rfl ?_)))
  refine qa hnt rfl rfl (r_end (q_then (w_if rfl (fun c5 => ?_) (fun c5 => ?_))))
  ·have c5_ := c5
   try simp only [sB] at c5
   refine w_skip (q_then (⟨(decide (q.fn = 5)), ?_,⟨[(0,0)],by rw [hk]; decide,⟨⟨_,rfl,rfl,rfl⟩,⟨_,rfl,rfl,rfl⟩,⟨_,rfl,rfl,rfl⟩,⟨_,rfl,rfl,rfl⟩,⟨_,rfl,rfl,rfl⟩,⟨_,rfl,rfl,rfl⟩,trivial⟩,⟨⟨_,_,rfl,rfl,rfl,rfl⟩,trivial⟩,by rw [hk]; decide⟩⟩))
   simp only [c5_,Bool.true_or,Bool.false_or]
  have c5_ := c5
  try simp only [sB] at c5
  refine w_R (qo hnt rfl (s_eql rfl rfl ?_))
  refine qa hnt rfl rfl (r_end (q_then (⟨(decide (q.fn = 6)), ?_,⟨[(0,0)],by rw [hk]; decide,⟨⟨_,rfl,rfl,rfl⟩,⟨_,rfl,rfl,rfl⟩,⟨_,rfl,rfl,rfl⟩,⟨_,rfl,rfl,rfl⟩,⟨_,rfl,rfl,rfl⟩,⟨_,rfl,rfl,rfl⟩,trivial⟩,⟨⟨_,_,rfl,rfl,rfl,rfl⟩,trivial⟩,by rw [hk]; decide⟩⟩)))
  simp only [c5_,Bool.true_or,Bool.false_or]
 intro bb2 hbb2
 subst hbb2
 refine w_if rfl (fun c6 => ?_) (fun c6 => ?_)
 ·try simp only [sB,Bool.or_eq_true,Bool.or_eq_false_iff] at c6
  refine W_drawn tabOk mixed hnt [[],[],[1],[1,2],[],[4],[0,1,2,3,4,5],[0,1,2,3,4,5,6],(.range 8),(.range 8),(.range 9),(.range 11)] (by kernel_rfl) (d_op (x_run0 [(7,pS 4 false eWindow t.windows)] [] rfl rfl rfl rfl (s_move rfl ⟨rfl,rfl,rfl⟩) (d_op (x_run0 [(3,PV.ptr 0 0)] [] rfl rfl rfl rfl (s_fa_ptr tab_37 rfl rfl tab_3 (by decide) rfl ⟨rfl,rfl,rfl⟩) (d_op ?_)))))
  refine xL [(35,PV.ptr 0 0)] [1] [(0,.obj (cRequest q))] rfl rfl rfl rfl rfl (s_load_ptr1 tab_3 rfl rfl rfl rfl rfl ⟨rfl,rfl,rfl⟩) ⟨rfl,trivial⟩ rfl (d_op (x_run0 [(36,pI q.fn)] [1,2] rfl rfl rfl rfl (s_callF rfl rfl rfl (w_part_space q.fn) rfl ⟨rfl,rfl,rfl⟩) (d_op (x_run0 [(3,PV.ptr 0 0)] [] rfl rfl rfl rfl (s_fa_ptr tab_37 rfl rfl tab_3 (by decide) rfl ⟨rfl,rfl,rfl⟩) (d_op ?_)))))
  refine xL [(38,PV.ptr 0 1)] [4] [(0,.obj (cRequest q))] rfl rfl rfl rfl rfl (s_load_ptr1 tab_3 rfl rfl rfl rfl rfl ⟨rfl,rfl,rfl⟩) ⟨rfl,trivial⟩ rfl (d_op (x_run0 [(34,pS 4 false eWindow t.windows),(37,pI (spP q.fn)),(39,pI q.at_)] [0,1,2,3,4,5] rfl rfl rfl rfl (s_callF rfl rfl rfl (w_window_Map t.windows false (spP q.fn) q.at_ 1 (by omega)) rfl ⟨rfl,rfl,rfl⟩) (d_op (x_run0 [(40,PV.tup [pS 3 true ePiece (mapL t.windows (spP q.fn) q.at_ 1),pB (mapOk t.windows (spP q.fn) q.at_ 1)])] [0,1,2,3,4,5,6] rfl rfl rfl rfl (s_move rfl ⟨rfl,rfl,rfl⟩) (d_op ?_)))))
  refine x_run0 [(33,PV.tup [pS 3 true ePiece (mapL t.windows (spP q.fn) q.at_ 1),pB (mapOk t.windows (spP q.fn) q.at_ 1)])] (.range 8) rfl rfl rfl rfl (s_extract rfl rfl ⟨rfl,rfl,rfl⟩) (d_op (x_run0 [(33,PV.tup [pS 3 true ePiece (mapL t.windows (spP q.fn) q.at_ 1),pB (mapOk t.windows (spP q.fn) q.at_ 1)])] (.range 8) rfl rfl rfl rfl (s_extract rfl rfl ⟨rfl,rfl,rfl⟩) (d_op (x_run0 [(41,pS 3 true ePiece (mapL t.windows (spP q.fn) q.at_ 1))] (.range 9) rfl rfl rfl rfl (s_assign rfl ⟨rfl,rfl,rfl⟩) (d_op ?_)))))
  refine x_run0 [(42,pB (mapOk t.windows (spP q.fn) q.at_ 1))] (.range 11) rfl rfl rfl rfl (s_assign rfl ⟨rfl,rfl,rfl⟩) (d_end ⟨by kernel_rfl, ?_⟩)
  refine q_block (q_then (w_seq (w_R (qm hnt rfl rfl (qm hnt rfl rfl ?_)))))
  refine qm hnt rfl rfl (qa hnt rfl rfl (qa hnt rfl rfl (qa hnt rfl rfl (r_end (q_then ?_)))))
  refine w_le (s := 4) (y := pS 3 false ePiece (mapL t.windows (spP q.fn) q.at_ 1)) rfl (le_loose) (w_le (s := 4) (y := pS 3 false ePiece (pW t.windows q)) rfl (le_of_eq (congrArg (fun z => pS 3 false ePiece z) (show (mapL t.windows (spP q.fn) q.at_ 1) = (pW t.windows q) by (rw [(pAll_5 (by omega)).1]; done)))) (w_le (s := 5) (y := pS 3 false ePiece []) rfl (le_nilS 3 false) (w_le (s := 5) (y := pS 3 false ePiece (pR t.windows q)) rfl (le_of_eq (congrArg (fun z => pS 3 false ePiece z) (show ([] : List TPiece) = (pR t.windows q) by (rw [(pAll_5 (by omega)).2.1]; done)))) (w_le (s := 6) (y := pB (pOk t.windows q)) rfl (le_of_eq (congrArg pB (show (mapOk t.windows (spP q.fn) q.at_ 1) = (pOk t.windows q) by (rw [(pAll_5 (by omega)).2.2]; done)))) (w_ret ?_)))))
  exact fin_plain (ret_tmp rfl (ret_tmp rfl (ret_tmp rfl ret_nil))) rfl rfl ⟨rfl,rfl,rfl⟩
 try simp only [sB,Bool.or_eq_true,Bool.or_eq_false_iff] at c6
 refine join1 (fun (bb3 : Bool) => bb3 = ((decide (q.fn = 15)) || (decide (q.fn = 16)))) (fun (bb3 : Bool) => [(3,PV.ptr 0 0),(4,pNil),(5,pNil),(7,pS 4 false eWindow t.windows),(12,pI q.fn),(43,pB bb3)]) 1 (fun (bb3 : Bool) => [(0,.obj (cRequest q))]) ?_ ?_
 ·refine w_seq (w_R (qo hnt rfl (s_eql rfl rfl ?_)))
  refine qa hnt rfl rfl (r_end (q_then (w_if rfl (fun c7 => ?_) (fun c7 => ?_))))
  ·have c7_ := c7
   try simp only [sB] at c7
   refine w_skip (q_then (⟨(decide (q.fn = 15)), ?_,⟨[(0,0)],by rw [hk]; decide,⟨⟨_,rfl,rfl,rfl⟩,⟨_,rfl,rfl,rfl⟩,⟨_,rfl,rfl,rfl⟩,⟨_,rfl,rfl,rfl⟩,⟨_,rfl,rfl,rfl⟩,⟨_,rfl,rfl,rfl⟩,trivial⟩,⟨⟨_,_,rfl,rfl,rfl,rfl⟩,trivial⟩,by rw [hk]; decide⟩⟩))
   simp only [c7_,Bool.true_or,Bool.false_or]
  have c7_ := c7
  try simp only [sB] at c7
  refine w_R (qo hnt rfl (s_eql rfl rfl ?_))
  refine qa hnt rfl rfl (r_end (q_then (⟨(decide (q.fn = 16)), ?_,⟨[(0,0)],by rw [hk]; decide,⟨⟨_,rfl,rfl,rfl⟩,⟨_,rfl,rfl,rfl⟩,⟨_,rfl,rfl,rfl⟩,⟨_,rfl,rfl,rfl⟩,⟨_,rfl,rfl,rfl⟩,⟨_,rfl,rfl,rfl⟩,trivial⟩,⟨⟨_,_,rfl,rfl,rfl,rfl⟩,trivial⟩,by rw [hk]; decide⟩⟩)))
  simp only [c7_,Bool.true_or,Bool.false_or]
 intro bb3 hbb3
 subst hbb3
 refine w_if rfl (fun c8 => ?_) (fun c8 => ?_)
 ·try simp only [sB,Bool.or_eq_true,Bool.or_eq_false_iff] at c8
  refine W_drawn tabOk mixed hnt [[],[],[1],[1,2],[],[4],[],[6],(.range 8),(.range 9),(.range 10),(.range 10),(.range 11),(.range 13)] (by kernel_rfl) (d_op (x_run0 [(7,pS 4 false eWindow t.windows)] [] rfl rfl rfl rfl (s_move rfl ⟨rfl,rfl,rfl⟩) (d_op (x_run0 [(3,PV.ptr 0 0)] [] rfl rfl rfl rfl (s_fa_ptr tab_37 rfl rfl tab_3 (by decide) rfl ⟨rfl,rfl,rfl⟩) (d_op ?_)))))
  refine xL [(48,PV.ptr 0 0)] [1] [(0,.obj (cRequest q))] rfl rfl rfl rfl rfl (s_load_ptr1 tab_3 rfl rfl rfl rfl rfl ⟨rfl,rfl,rfl⟩) ⟨rfl,trivial⟩ rfl (d_op (x_run0 [(49,pI q.fn)] [1,2] rfl rfl rfl rfl (s_callF rfl rfl rfl (w_part_space q.fn) rfl ⟨rfl,rfl,rfl⟩) (d_op (x_run0 [(3,PV.ptr 0 0)] [] rfl rfl rfl rfl (s_fa_ptr tab_37 rfl rfl tab_3 (by decide) rfl ⟨rfl,rfl,rfl⟩) (d_op ?_)))))
  refine xL [(51,PV.ptr 0 1)] [4] [(0,.obj (cRequest q))] rfl rfl rfl rfl rfl (s_load_ptr1 tab_3 rfl rfl rfl rfl rfl ⟨rfl,rfl,rfl⟩) ⟨rfl,trivial⟩ rfl (d_op (x_run0 [(3,PV.ptr 0 0)] [] rfl rfl rfl rfl (s_fa_ptr tab_37 rfl rfl tab_3 (by decide) rfl ⟨rfl,rfl,rfl⟩) (d_op (xL [(53,PV.ptr 0 2)] [6] [(0,.obj (cRequest q))] rfl rfl rfl rfl rfl (s_load_ptr1 tab_3 rfl rfl rfl rfl rfl ⟨rfl,rfl,rfl⟩) ⟨rfl,trivial⟩ rfl (d_op ?_)))))
  refine x_run0 [(47,pS 4 false eWindow t.windows),(50,pI (spP q.fn)),(52,pI q.at_),(54,pI q.count)] (.range 8) rfl rfl rfl rfl (s_callF rfl rfl rfl (w_window_Map t.windows false (spP q.fn) q.at_ q.count (by omega)) rfl ⟨rfl,rfl,rfl⟩) (d_op (x_run0 [(55,PV.tup [pS 3 true ePiece (mapL t.windows (spP q.fn) q.at_ q.count),pB (mapOk t.windows (spP q.fn) q.at_ q.count)])] (.range 9) rfl rfl rfl rfl (s_move rfl ⟨rfl,rfl,rfl⟩) (d_op (x_run0 [(46,PV.tup [pS 3 true ePiece (mapL t.windows (spP q.fn) q.at_ q.count),pB (mapOk t.windows (spP q.fn) q.at_ q.count)])] (.range 10) rfl rfl rfl rfl (s_extract rfl rfl ⟨rfl,rfl,rfl⟩) (d_op ?_)))))
  refine x_run0 [(46,PV.tup [pS 3 true ePiece (mapL t.windows (spP q.fn) q.at_ q.count),pB (mapOk t.windows (spP q.fn) q.at_ q.count)])] (.range 10) rfl rfl rfl rfl (s_extract rfl rfl ⟨rfl,rfl,rfl⟩) (d_op (x_run0 [(56,pS 3 true ePiece (mapL t.windows (spP q.fn) q.at_ q.count))] (.range 11) rfl rfl rfl rfl (s_assign rfl ⟨rfl,rfl,rfl⟩) (d_op (x_run0 [(57,pB (mapOk t.windows (spP q.fn) q.at_ q.count))] (.range 13) rfl rfl rfl rfl (s_assign rfl ⟨rfl,rfl,rfl⟩) (d_end ⟨by kernel_rfl, ?_⟩)))))
  refine q_block (q_then (w_seq (w_R (qm hnt rfl rfl (qm hnt rfl rfl ?_)))))
  refine qm hnt rfl rfl (qa hnt rfl rfl (qa hnt rfl rfl (qa hnt rfl rfl (r_end (q_then ?_)))))
  refine w_le (s := 4) (y := pS 3 false ePiece (mapL t.windows (spP q.fn) q.at_ q.count)) rfl (le_loose) (w_le (s := 4) (y := pS 3 false ePiece (pW t.windows q)) rfl (le_of_eq (congrArg (fun z => pS 3 false ePiece z) (show (mapL t.windows (spP q.fn) q.at_ q.count) = (pW t.windows q) by (rw [(pAll_15 (by omega)).1]; done)))) (w_le (s := 5) (y := pS 3 false ePiece []) rfl (le_nilS 3 false) (w_le (s := 5) (y := pS 3 false ePiece (pR t.windows q)) rfl (le_of_eq (congrArg (fun z => pS 3 false ePiece z) (show ([] : List TPiece) = (pR t.windows q) by (rw [(pAll_15 (by omega)).2.1]; done)))) (w_le (s := 6) (y := pB (pOk t.windows q)) rfl (le_of_eq (congrArg pB (show (mapOk t.windows (spP q.fn) q.at_ q.count) = (pOk t.windows q) by (rw [(pAll_15 (by omega)).2.2]; done)))) (w_ret ?_)))))
  exact fin_plain (ret_tmp rfl (ret_tmp rfl (ret_tmp rfl ret_nil))) rfl rfl ⟨rfl,rfl,rfl⟩
 try simp only [sB,Bool.or_eq_true,Bool.or_eq_false_iff] at c8
 refine w_seq (w_R (qo hnt rfl (s_eql rfl rfl ?_)))
 refine qa hnt rfl rfl (r_end (q_then (w_if rfl (fun c9 => ?_) (fun c9 => ?_))))
 ·try simp only [sB] at c9
  refine w_seq (w_R (qm hnt rfl rfl (qo hnt rfl (s_fa_ptr tab_37 rfl rfl tab_3 (by decide) rfl ?_))))
  refine qo hnt rfl (s_load_ptr1 tab_3 rfl rfl rfl rfl rfl ?_)
  refine qo hnt rfl (s_callF rfl rfl rfl (w_window_Map t.windows false 3 q.at_ 1 (by omega)) rfl ?_)
  refine qm hnt rfl rfl (qo hnt rfl (s_extract rfl rfl ?_))
  refine qo hnt rfl (s_extract rfl rfl ?_)
  refine qa hnt rfl rfl (qa hnt rfl rfl (r_end (q_then (w_R (qm hnt rfl rfl ?_)))))
  refine qa hnt rfl rfl (r_end (q_block (q_then (w_seq (w_R ?_)))))
  refine qm hnt rfl rfl (qm hnt rfl rfl (qm hnt rfl rfl (qa hnt rfl rfl (qa hnt rfl rfl (qa hnt rfl rfl ?_)))))
  refine r_end (q_then (w_le (s := 4) (y := pS 3 false ePiece (mapL t.windows 3 q.at_ 1)) rfl (le_loose) (w_le (s := 4) (y := pS 3 false ePiece (pW t.windows q)) rfl (le_of_eq (congrArg (fun z => pS 3 false ePiece z) (show (mapL t.windows 3 q.at_ 1) = (pW t.windows q) by (rw [(pAll_22 (by omega)).1]; done)))) (w_le (s := 5) (y := pS 3 false ePiece (mapL t.windows 3 q.at_ 1)) rfl (le_loose) (w_le (s := 5) (y := pS 3 false ePiece (pR t.windows q)) rfl (le_of_eq (congrArg (fun z => pS 3 false ePiece z) (show (mapL t.windows 3 q.at_ 1) = (pR t.windows q) by (rw [(pAll_22 (by omega)).2.1]; done)))) ?_)))))
  refine w_le (s := 6) (y := pB (pOk t.windows q)) rfl (le_of_eq (congrArg pB (show (mapOk t.windows 3 q.at_ 1) = (pOk t.windows q) by (rw [(pAll_22 (by omega)).2.2]; done)))) (w_ret ?_)
  exact fin_plain (ret_tmp rfl (ret_tmp rfl (ret_tmp rfl ret_nil))) rfl rfl ⟨rfl,rfl,rfl⟩
 try simp only [sB] at c9
 refine w_seq (w_R (qo hnt rfl (s_eql rfl rfl ?_)))
 refine qa hnt rfl rfl (r_end (q_then (w_if rfl (fun c10 => ?_) (fun c10 => ?_))))
 ·try simp only [sB] at c10
  refine w_seq (w_R (qa hnt rfl rfl (r_end (q_then (w_seq ?_)))))
  refine w_R (qm hnt rfl rfl (qo hnt rfl (s_fa_ptr tab_37 rfl rfl tab_3 (by decide) rfl ?_)))
  refine qo hnt rfl (s_load_ptr1 tab_3 rfl rfl rfl rfl rfl ?_)
  refine qo hnt rfl (s_fa_ptr tab_37 rfl rfl tab_34 (by decide) rfl ?_)
  refine qo hnt rfl (s_load_ptr1 tab_34 rfl rfl rfl rfl rfl ?_)
  refine qo hnt rfl (s_lenM (l := q.vals) tab_34 rfl (hM_sl (f := enc16) rfl) ?_)
  refine qo hnt rfl (s_callF rfl rfl rfl (w_window_Map t.windows false 3 q.wAt ((q.vals.length : Nat) : Int) (by omega)) rfl ?_)
  refine qm hnt rfl rfl (qo hnt rfl (s_extract rfl rfl ?_))
  refine qo hnt rfl (s_extract rfl rfl ?_)
  refine qa hnt rfl rfl (qa hnt rfl rfl (r_end (q_then (w_seq (w_R ?_)))))
  refine qm hnt rfl rfl (qo hnt rfl (s_fa_ptr tab_37 rfl rfl tab_3 (by decide) rfl ?_))
  refine qo hnt rfl (s_load_ptr1 tab_3 rfl rfl rfl rfl rfl ?_)
  refine qo hnt rfl (s_fa_ptr tab_37 rfl rfl tab_3 (by decide) rfl ?_)
  refine qo hnt rfl (s_load_ptr1 tab_3 rfl rfl rfl rfl rfl ?_)
  refine qo hnt rfl (s_callF rfl rfl rfl (w_window_Map t.windows false 3 q.at_ q.count (by omega)) rfl ?_)
  refine qm hnt rfl rfl (qo hnt rfl (s_extract rfl rfl ?_))
  refine qo hnt rfl (s_extract rfl rfl ?_)
  refine qa hnt rfl rfl (qa hnt rfl rfl (r_set [(4,pS 3 true ePiece (mapL t.windows 3 q.wAt ((q.vals.length : Nat) : Int))),(5,pS 3 true ePiece (mapL t.windows 3 q.at_ q.count)),(6,pB (mapOk t.windows 3 q.wAt ((q.vals.length : Nat) : Int))),(8,pB (mapOk t.windows 3 q.at_ q.count))] [(0,.obj (cRequest q))] 1 ⟨rfl,rfl,rfl,rfl,trivial⟩ rfl rfl (r_end (q_then (w_R ?_)))))
  refine qm hnt rfl rfl (qm hnt rfl rfl (r_cut0 2 [(4,pS 3 true ePiece (mapL t.windows 3 q.wAt ((q.vals.length : Nat) : Int))),(5,pS 3 true ePiece (mapL t.windows 3 q.at_ q.count)),(6,pB (mapOk t.windows 3 q.wAt ((q.vals.length : Nat) : Int))),(92,pB ((mapOk t.windows 3 q.wAt ((q.vals.length : Nat) : Int)) && (mapOk t.windows 3 q.at_ q.count)))] ?_ ?_))
  ·refine r_if tabOk hnt rfl rfl rfl (fun g1 => ?_) (fun g1 => ?_)
   ·have g1' := g1
    try simp only [sB] at g1'
    refine qm hnt rfl rfl (qo hnt rfl (s_pick_t rfl g1 rfl ?_))
    refine r_eq (s := 92) (y := pB ((mapOk t.windows 3 q.wAt ((q.vals.length : Nat) : Int)) && (mapOk t.windows 3 q.at_ q.count))) rfl (mix_at g1) ?_
    exact r_mid ⟨⟨rfl,rfl,rfl,rfl,trivial⟩,rfl,rfl⟩
   ·have g1' := g1
    try simp only [sB] at g1'
    refine qo hnt rfl (s_pick_f rfl g1 rfl ?_)
    refine r_eq (s := 92) (y := pB ((mapOk t.windows 3 q.wAt ((q.vals.length : Nat) : Int)) && (mapOk t.windows 3 q.at_ q.count))) rfl (mix_af _ g1) ?_
    exact r_mid ⟨⟨rfl,rfl,rfl,rfl,trivial⟩,rfl,rfl⟩
  ·refine qa hnt rfl rfl (r_end (q_block (q_then (w_seq (w_R ?_)))))
   refine qm hnt rfl rfl (qm hnt rfl rfl (qm hnt rfl rfl (qa hnt rfl rfl (qa hnt rfl rfl (qa hnt rfl rfl ?_)))))
   refine r_end (q_then (w_le (s := 4) (y := pS 3 false ePiece (mapL t.windows 3 q.wAt ((q.vals.length : Nat) : Int))) rfl (le_loose) (w_le (s := 4) (y := pS 3 false ePiece (pW t.windows q)) rfl (le_of_eq (congrArg (fun z => pS 3 false ePiece z) (show (mapL t.windows 3 q.wAt ((q.vals.length : Nat) : Int)) = (pW t.windows q) by (rw [(pAll_23 (by omega)).1]; done)))) (w_le (s := 5) (y := pS 3 false ePiece (mapL t.windows 3 q.at_ q.count)) rfl (le_loose) (w_le (s := 5) (y := pS 3 false ePiece (pR t.windows q)) rfl (le_of_eq (congrArg (fun z => pS 3 false ePiece z) (show (mapL t.windows 3 q.at_ q.count) = (pR t.windows q) by (rw [(pAll_23 (by omega)).2.1]; done)))) ?_)))))
   refine w_le (s := 6) (y := pB (pOk t.windows q)) rfl (le_of_eq (congrArg pB (show ((mapOk t.windows 3 q.wAt ((q.vals.length : Nat) : Int)) && (mapOk t.windows 3 q.at_ q.count)) = (pOk t.windows q) by (rw [(pAll_23 (by omega)).2.2]; done)))) (w_ret ?_)
   exact fin_plain (ret_tmp rfl (ret_tmp rfl (ret_tmp rfl ret_nil))) rfl rfl ⟨rfl,rfl,rfl⟩
 try simp only [sB] at c10
 refine w_R (qa hnt rfl rfl (r_end (q_block (q_then (w_seq ?_)))))
 refine w_R (qm hnt rfl rfl (qm hnt rfl rfl (qm hnt rfl rfl (qa hnt rfl rfl (qa hnt rfl rfl ?_)))))
 refine qa hnt rfl rfl (r_end (q_then (w_le (s := 4) (y := pS 3 false ePiece []) rfl (le_nilS 3 false) (w_le (s := 4) (y := pS 3 false ePiece (pW t.windows q)) rfl (le_of_eq (congrArg (fun z => pS 3 false ePiece z) (show ([] : List TPiece) = (pW t.windows q) by (rw [(pAll_0 (by omega)).1]; done)))) (w_le (s := 5) (y := pS 3 false ePiece []) rfl (le_nilS 3 false) ?_)))))
 refine w_le (s := 5) (y := pS 3 false ePiece (pR t.windows q)) rfl (le_of_eq (congrArg (fun z => pS 3 false ePiece z) (show ([] : List TPiece) = (pR t.windows q) by (rw [(pAll_0 (by omega)).2.1]; done)))) (w_le (s := 6) (y := pB (pOk t.windows q)) rfl (le_of_eq (congrArg pB (show true = (pOk t.windows q) by (rw [(pAll_0 (by omega)).2.2]; done)))) (w_ret ?_))
 exact fin_plain (ret_tmp rfl (ret_tmp rfl (ret_tmp rfl ret_nil))) rfl rfl ⟨rfl,rfl,rfl⟩
theorem w_part_Code (t : TTenant) (q : TRequest) (ht : t.windows.length ≤ 1000) (hb : q.bits.length ≤ 140737488351232) (hv : q.vals.length ≤ 70368744175616) :
    T Try.prog 18 [PV.f (eTenant t),PV.f (eRequest q)] 0 [] (Ret (pI (codeP t.functions t.windows q)) 0 []) := by
 refine t_fun tabOk (n := 48) (rs := [.tmp 4]) Try.func18 rfl rfl rfl rfl (Nat.le_of_ble_eq_true rfl) ?_
 intro c hnt hk
 refine w_seq (w_R (qo hnt rfl (s_box rfl rfl ?_)))
 refine qo hnt rfl (s_box rfl rfl ?_)
 refine qa hnt rfl rfl (r_set [(2,PV.ptr 0 0),(3,PV.ptr 1 0)] [(1,.obj (cRequest q)),(0,.obj (cTenant t))] 2 ⟨rfl,rfl,trivial⟩ rfl rfl (r_end (q_then (w_seq (w_R ?_)))))
 refine qo hnt rfl (s_load_ptr tab_37 rfl rfl rfl (Nat.le_of_ble_eq_true rfl) ?_)
 refine qo hnt rfl (s_callF rfl rfl rfl (w_pdu_Right q (by omega) (by omega)) rfl ?_)
 refine qa hnt rfl rfl (r_end (q_then (w_seq (w_block (w_seq ?_)))))
 refine w_R (qm hnt rfl rfl (qo hnt rfl (s_eql rfl rfl ?_)))
 refine qm hnt rfl rfl (r_if tabOk hnt rfl rfl rfl (fun g1 => ?_) (fun g1 => ?_))
 ·have g1' := g1
  try simp only [sB] at g1'
  refine qo hnt rfl (s_fa_ptr tab_26 rfl rfl tab_22 (by decide) rfl ?_)
  refine ry hnt rfl rfl rfl g1 (qo hnt rfl (s_load_ptr1 tab_22 rfl rfl rfl rfl rfl ?_))
  refine ry hnt rfl rfl rfl g1 (qo hnt rfl (s_fa_ptr tab_37 rfl rfl tab_3 (by decide) rfl ?_))
  refine ry hnt rfl rfl rfl g1 (qo hnt rfl (s_load_ptr1 tab_3 rfl rfl rfl rfl rfl ?_))
  have hfo := hasF_of (right_15 (by simpa using g1))
  obtain ⟨fnn,hfn⟩ : ∃ n : Nat,q.fn = (n : Int) := ⟨q.fn.toNat,by omega⟩
  have hfnl : fnn < 32 := by omega
  have hfb : fBit t.functions q.fn = decide (bitI .and .u32 (t.functions / 2 ^ fnn) 1 = 0) := by unfold fBit; rw [hfn,Int.toNat_natCast]
  refine r_eq (s := 18) (y := pN fnn) rfl (congrArg pI (show q.fn = ((fnn : Nat) : Int) by exact hfn)) (ry hnt rfl rfl rfl g1 (qo hnt rfl (s_shrK fnn rfl rfl (by show _ < (32 : Nat); omega) ?_)))
  refine ry hnt rfl rfl rfl g1 (qo hnt rfl (s_and rfl rfl ?_))
  refine ry hnt rfl rfl rfl g1 (qo hnt rfl (s_eql rfl rfl ?_))
  refine qo hnt rfl (s_pick_f rfl g1 rfl ?_)
  refine qa hnt rfl rfl (r_end (q_then (w_if rfl (fun c1 => ?_) (fun c1 => ?_))))
  ·have c1_ := c1
   try simp only [sB] at c1
   refine w_seq (w_R (qa hnt rfl rfl (r_end (q_then (w_le (s := 4) (y := pI (codeP t.functions t.windows q)) rfl (le_of_eq (congrArg pI (show 1 = (codeP t.functions t.windows q) by exact (codeP_1 (.inr (hfb.trans c1_))).symm))) ?_)))))
   refine w_ret (q_block_ret (q_then_ret ?_))
   exact fin_plain (ret_tmp rfl ret_nil) rfl rfl ⟨rfl,rfl,rfl⟩
  have c1_ := c1
  try simp only [sB] at c1
  have hno : ¬ (rightR q = 15 ∨ fBit t.functions q.fn = true) := by rintro (h|h); exact absurd h (by simpa using g1); rw [hfb,c1_] at h; cases h
  refine w_seq (w_R (qm hnt rfl rfl (qo hnt rfl (s_neq rfl rfl ?_))))
  refine qm hnt rfl rfl (r_if tabOk hnt rfl rfl rfl (fun g2 => ?_) (fun g2 => ?_))
  ·have g2' := g2
   try simp only [sB] at g2'
   refine qo hnt rfl (s_load_ptr tab_37 rfl rfl rfl (Nat.le_of_ble_eq_true rfl) ?_)
   refine ry hnt rfl rfl rfl g2 (qo hnt rfl (s_callF rfl rfl rfl (w_pdu_Counts q (by omega) (by omega)) rfl ?_))
   refine ry hnt rfl rfl rfl g2 (qo hnt rfl (s_not rfl ?_))
   refine qo hnt rfl (s_pick_f rfl g2 rfl ?_)
   refine qa hnt rfl rfl (r_end (q_then (w_if rfl (fun c2 => ?_) (fun c2 => ?_))))
   ·have c2_ := c2
    try simp only [sB] at c2
    refine w_seq (w_R (qa hnt rfl rfl (r_end (q_then (w_le (s := 4) (y := pI (codeP t.functions t.windows q)) rfl (le_of_eq (congrArg pI (show 3 = (codeP t.functions t.windows q) by exact (codeP_3 hno (by simpa using c2_)).symm))) ?_)))))
    refine w_ret (q_block_ret (q_then_ret ?_))
    exact fin_plain (ret_tmp rfl ret_nil) rfl rfl ⟨rfl,rfl,rfl⟩
   have c2_ := c2
   try simp only [sB] at c2
   refine w_skip (q_block (q_then (w_seq ?_)))
   have hcy : countsR q = true := by simpa using c2_
   have hpl := p_len t.windows q
   refine w_R (qo hnt rfl (s_load_ptr tab_26 rfl rfl rfl (Nat.le_of_ble_eq_true rfl) ?_))
   refine qo hnt rfl (s_load_ptr tab_37 rfl rfl rfl (Nat.le_of_ble_eq_true rfl) ?_)
   refine qo hnt rfl (s_callF rfl rfl rfl (w_part_pieces t q (by omega) (by omega) (by omega) (by exact counts_has hcy)) rfl ?_)
   refine qm hnt rfl rfl (qo hnt rfl (s_extract rfl rfl ?_))
   refine qo hnt rfl (s_extract rfl rfl ?_)
   refine qo hnt rfl (s_extract rfl rfl ?_)
   refine qa hnt rfl rfl (qa hnt rfl rfl (qa hnt rfl rfl (r_set [(6,pS 3 false ePiece (pW t.windows q)),(7,pS 3 false ePiece (pR t.windows q)),(8,pB (pOk t.windows q))] [(1,.obj (cRequest q)),(0,.obj (cTenant t))] 2 ⟨rfl,rfl,rfl,trivial⟩ rfl rfl (r_end (q_then ?_)))))
   refine w_seq (w_block (w_seq (w_R (qm hnt rfl rfl (qo hnt rfl (s_not rfl ?_))))))
   refine qa hnt rfl rfl (r_end (q_then (w_if rfl (fun c3 => ?_) (fun c3 => ?_))))
   ·have c3_ := c3
    try simp only [sB] at c3
    refine w_seq (w_R (qa hnt rfl rfl (r_end (q_then (w_le (s := 4) (y := pI (codeP t.functions t.windows q)) rfl (le_of_eq (congrArg pI (show 2 = (codeP t.functions t.windows q) by exact (codeP_2 hno hcy (by simpa using c3_)).symm))) ?_)))))
    refine w_ret (q_block_ret (q_then_ret ?_))
    exact fin_plain (ret_tmp rfl ret_nil) rfl rfl ⟨rfl,rfl,rfl⟩
   have c3_ := c3
   try simp only [sB] at c3
   have hpy : pOk t.windows q = true := by simpa using c3_
   refine w_seq (w_R (qm hnt rfl rfl (qo hnt rfl (s_lenM (l := pW t.windows q) tab_79 rfl (hM_sl (f := ePiece) rfl) ?_))))
   refine qm hnt rfl rfl (qo hnt rfl (s_lenM (l := pR t.windows q) tab_79 rfl (hM_sl (f := ePiece) rfl) ?_))
   refine qo hnt rfl (s_addN (a := (pW t.windows q).length) (b := (pR t.windows q).length) rfl rfl (by omega) (by omega) (by omega) ?_)
   refine qo hnt rfl (s_gtr rfl rfl ?_)
   refine qa hnt rfl rfl (r_end (q_then (w_if rfl (fun c4 => ?_) (fun c4 => ?_))))
   ·try simp only [sB] at c4
    refine w_seq (w_R (qa hnt rfl rfl (r_end (q_then (w_le (s := 4) (y := pI (codeP t.functions t.windows q)) rfl (le_of_eq (congrArg pI (show 4 = (codeP t.functions t.windows q) by exact (codeP_4 hno hcy hpy (by omega)).symm))) ?_)))))
    refine w_ret (q_block_ret (q_then_ret ?_))
    exact fin_plain (ret_tmp rfl ret_nil) rfl rfl ⟨rfl,rfl,rfl⟩
   try simp only [sB] at c4
   refine w_skip (q_block (q_then (w_seq (w_R (qa hnt rfl rfl ?_)))))
   refine r_end (q_then (w_le (s := 4) (y := pI (codeP t.functions t.windows q)) rfl (le_of_eq (congrArg pI (show 0 = (codeP t.functions t.windows q) by exact (codeP_0 hno hcy hpy (by omega)).symm))) (w_ret ?_)))
   exact fin_plain (ret_tmp rfl ret_nil) rfl rfl ⟨rfl,rfl,rfl⟩
  have g2' := g2
  try simp only [sB] at g2'
  refine rn hnt rfl rfl rfl g2 (rn hnt rfl rfl rfl g2 (qo hnt rfl (s_pick_t rfl g2 rfl ?_)))
  refine qa hnt rfl rfl (r_end (q_then (w_if rfl (fun _ => ?_) (fun e => absurd e (by decide)))))
  refine w_seq (w_R (qa hnt rfl rfl (r_end (q_then (w_le (s := 4) (y := pI (codeP t.functions t.windows q)) rfl (le_of_eq (congrArg pI (show 3 = (codeP t.functions t.windows q) by (exact (codeP_3 hno (cnt_bad (by rw [g2]; rfl))).symm)))) ?_)))))
  refine w_ret (q_block_ret (q_then_ret ?_))
  exact fin_plain (ret_tmp rfl ret_nil) rfl rfl ⟨rfl,rfl,rfl⟩
 have g1' := g1
 try simp only [sB] at g1'
 refine rn hnt rfl rfl rfl g1 (rn hnt rfl rfl rfl g1 (rn hnt rfl rfl rfl g1 (rn hnt rfl rfl rfl g1 (rn hnt rfl rfl rfl g1 (rn hnt rfl rfl rfl g1 ?_)))))
 refine qo hnt rfl (s_pick_t rfl g1 rfl ?_)
 refine qa hnt rfl rfl (r_end (q_then (w_if rfl (fun _ => ?_) (fun e => absurd e (by decide)))))
 refine w_seq (w_R (qa hnt rfl rfl (r_end (q_then (w_le (s := 4) (y := pI (codeP t.functions t.windows q)) rfl (le_of_eq (congrArg pI (show 1 = (codeP t.functions t.windows q) by exact (codeP_1 (.inl (of_decide_eq_true g1))).symm))) ?_)))))
 refine w_ret (q_block_ret (q_then_ret ?_))
 exact fin_plain (ret_tmp rfl ret_nil) rfl rfl ⟨rfl,rfl,rfl⟩
theorem w_part_read (f : Int) (p : TPiece)  :
    T Try.prog 37 [pI f,PV.f (ePiece p)] 0 [] (Ret (PV.f (ePart (rPart f p))) 0 []) := by
 refine t_fun tabOk (n := 12) (rs := [.cell 4 50]) Try.func37 rfl rfl rfl rfl (Nat.le_of_ble_eq_true rfl) ?_
 intro c hnt hk
 refine w_seq (w_R (qo hnt rfl (s_box rfl rfl ?_)))
 refine qo hnt rfl (s_alloc tab_50 ?_)
 refine r_set [(0,pI f),(3,PV.ptr 0 0),(4,PV.ptr 1 0)] [(1,.obj [pI 0,pI 0,pI 0,pI 0,pI 0,pNil,pNil,p16 0,p16 0,pB false]),(0,.obj (cPiece p))] 2 ⟨rfl,rfl,rfl,trivial⟩ rfl rfl (r_end (q_then (w_seq (w_R (qm hnt rfl rfl ?_)))))
 refine qo hnt rfl (s_fa_ptr tab_83 rfl rfl tab_3 (by decide) rfl ?_)
 refine qo hnt rfl (s_load_ptr1 tab_3 rfl rfl rfl rfl rfl ?_)
 refine qo hnt rfl (s_fa_ptr tab_83 rfl rfl tab_3 (by decide) rfl ?_)
 refine qo hnt rfl (s_load_ptr1 tab_3 rfl rfl rfl rfl rfl ?_)
 refine qo hnt rfl (s_build tab_37 rfl rfl (b_cons rfl tab_3 rfl rfl rfl (Nat.le_of_ble_eq_true rfl) (b_cons rfl tab_3 rfl rfl rfl (Nat.le_of_ble_eq_true rfl) (b_cons rfl tab_3 rfl rfl rfl (Nat.le_of_ble_eq_true rfl) (b_nil ?_)))))
 refine qo hnt rfl (s_build tab_50 rfl rfl (b_cons rfl tab_37 rfl rfl rfl (Nat.le_of_ble_eq_true rfl) (b_nil ?_)))
 refine qo hnt rfl (s_store_ptr tab_50 rfl rfl rfl rfl rfl (Nat.le_of_ble_eq_true rfl) ?_)
 refine r_set [(4,PV.ptr 1 0)] [(1,.obj [pI f,pI p.physical,pI p.count,pI 0,pI 0,pNil,pNil,p16 0,p16 0,pB false]),(0,.obj (cPiece p))] 2 ⟨rfl,trivial⟩ rfl rfl (r_end (q_then (w_leO (n := 1) (ds := cPart (rPart f p)) rfl ⟨le_of_eq (congrArg pI (show f = ((rPart f p).request.fn) by rfl)),le_of_eq (congrArg pI (show p.physical = ((rPart f p).request.at_) by rfl)),le_of_eq (congrArg pI (show p.count = ((rPart f p).request.count) by rfl)),le_of_eq (congrArg pI (show 0 = ((rPart f p).request.wAt) by rfl)),le_of_eq (congrArg pI (show 0 = ((rPart f p).request.sub) by rfl)),le_tr (le_nilS 1 false) (le_of_eq (congrArg (fun z => pS 1 false encBo z) (show ([] : List Bool) = ((rPart f p).request.bits) by rfl))),le_tr (le_nilS 1 false) (le_of_eq (congrArg (fun z => pS 1 false enc16 z) (show ([] : List UInt16) = ((rPart f p).request.vals) by rfl))),le_of_eq (congrArg p16 (show 0 = ((rPart f p).request.and_) by rfl)),le_of_eq (congrArg p16 (show 0 = ((rPart f p).request.or_) by rfl)),le_of_eq (congrArg pB (show false = ((rPart f p).write) by rfl)),trivial⟩ (w_ret ?_))))
 exact fin_plain (ret_cell tab_50 (by decide) rfl rfl (Nat.le_of_ble_eq_true rfl) rfl ret_nil) rfl rfl ⟨rfl,rfl,rfl⟩
theorem w_part_Split (t : TTenant) (q : TRequest) (S : List TPart × Int) (hS : S = splitP t.functions t.windows q) (ht : t.windows.length ≤ 1000) (hb : q.bits.length ≤ 140737488351232) (hv : q.vals.length ≤ 70368744175616) :
    T Try.prog 17 [PV.f (eTenant t),PV.f (eRequest q)] 0 [] (Ret (PV.tup [pS 10 false ePart S.1,pI S.2]) 0 []) := by
 refine t_fun tabOk (n := 155) (rs := [.tmp 4,.tmp 5]) Try.func17 rfl rfl rfl rfl (Nat.le_of_ble_eq_true rfl) ?_
 intro c hnt hk
 refine w_seq (w_R (qo hnt rfl (s_box rfl rfl ?_)))
 refine qo hnt rfl (s_box rfl rfl ?_)
 refine qa hnt rfl rfl (qa hnt rfl rfl (r_set [(2,PV.ptr 0 0),(3,PV.ptr 1 0)] [(1,.obj (cRequest q)),(0,.obj (cTenant t))] 2 ⟨rfl,rfl,trivial⟩ rfl rfl (r_end (q_then (w_seq ?_)))))
 refine w_seq (w_R (qo hnt rfl (s_load_ptr tab_26 rfl rfl rfl (Nat.le_of_ble_eq_true rfl) ?_)))
 refine qo hnt rfl (s_load_ptr tab_37 rfl rfl rfl (Nat.le_of_ble_eq_true rfl) ?_)
 refine qo hnt rfl (s_callF rfl rfl rfl (w_part_Code t q (by omega) (by omega) (by omega)) rfl ?_)
 refine qa hnt rfl rfl (r_end (q_then (w_seq (w_R (qm hnt rfl rfl ?_)))))
 refine qo hnt rfl (s_neq rfl rfl ?_)
 refine r_end (q_then (w_if rfl (fun c1 => ?_) (fun c1 => ?_)))
 ·have c1_ := c1
  try simp only [sB] at c1
  have hcn : ¬ codeP t.functions t.windows q = 0 := by simpa using c1_
  rw [split_no hcn] at hS
  refine w_seq (w_R (qm hnt rfl rfl (qa hnt rfl rfl (qa hnt rfl rfl (r_end ?_)))))
  refine q_then (w_le (s := 4) (y := pS 10 false ePart []) rfl (le_nilS 10 false) (w_le (s := 4) (y := pS 10 false ePart S.1) rfl (le_of_eq (congrArg (fun z => pS 10 false ePart z) (show ([] : List TPart) = S.1 by (rw [hS]; done)))) (w_le (s := 5) (y := pI S.2) rfl (le_of_eq (congrArg pI (show (codeP t.functions t.windows q) = S.2 by (rw [hS]; done)))) (w_ret (q_then_ret ?_)))))
  exact fin_plain (ret_tmp rfl (ret_tmp rfl ret_nil)) rfl rfl ⟨rfl,rfl,rfl⟩
 have c1_ := c1
 try simp only [sB] at c1
 refine w_skip (q_then (w_seq ?_))
 have hc0 : codeP t.functions t.windows q = 0 := by simpa using c1_
 obtain ⟨hno,hcy,hpy,hle6⟩ := codeP_zero hc0
 rw [split_yes hc0] at hS
 have hpl := p_len t.windows q
 have hsm := shape_small (rightR_zero (counts_right hcy)).2
 refine w_R (qa hnt rfl rfl (r_end (q_then (w_seq (w_R ?_)))))
 refine qo hnt rfl (s_load_ptr tab_26 rfl rfl rfl (Nat.le_of_ble_eq_true rfl) ?_)
 refine qo hnt rfl (s_load_ptr tab_37 rfl rfl rfl (Nat.le_of_ble_eq_true rfl) ?_)
 refine qo hnt rfl (s_callF rfl rfl rfl (w_part_pieces t q (by omega) (by omega) (by omega) (by exact counts_has hcy)) rfl ?_)
 refine qm hnt rfl rfl (qo hnt rfl (s_extract rfl rfl ?_))
 refine qo hnt rfl (s_extract rfl rfl ?_)
 refine qo hnt rfl (s_extract rfl rfl ?_)
 refine qa hnt rfl rfl (qa hnt rfl rfl (qa hnt rfl rfl (r_end (q_then (w_seq ?_)))))
 refine w_seq (w_R (qo hnt rfl (s_fa_ptr tab_37 rfl rfl tab_3 (by decide) rfl ?_)))
 refine qo hnt rfl (s_load_ptr1 tab_3 rfl rfl rfl rfl rfl ?_)
 refine qo hnt rfl (s_eql rfl rfl ?_)
 refine r_end (q_then (w_if rfl (fun c2 => ?_) (fun c2 => ?_)))
 ·try simp only [sB] at c2
  refine w_seq ?_
  obtain ⟨h1l,h1c,hrw,_⟩ := p_one (l := t.windows) (q := q) (by omega) hpy
  have hrw2 := hrw (by omega)
  have hrl : (pR t.windows q).length = 1 := by rw [hrw2]; exact h1l
  have hrc : ∀ x,(pR t.windows q)[0]? = some x → x.count = 1 := by rw [hrw2]; exact h1c
  refine w_R (qm hnt rfl rfl ?_)
  obtain ⟨e1,he1⟩ := get_of_lt (pR t.windows q) (i := 0) (by omega)
  refine qo hnt rfl (s_iaM (q := 0) (b := e1) (f := ePiece) tab_79 rfl tab_83 rfl rfl (by omega) rfl he1 ?_)
  refine qo hnt rfl (s_fa_ro tab_83 rfl rfl tab_3 (by decide) rfl (Nat.le_of_ble_eq_true rfl) (by intro _; rfl) ?_)
  refine qo hnt rfl (s_load_ro1 tab_3 rfl rfl rfl rfl ?_)
  refine qa hnt rfl rfl (r_end (q_then (w_seq (w_R (qm hnt rfl rfl ?_)))))
  refine qo hnt rfl (s_iaM (q := 0) (b := e1) (f := ePiece) tab_79 rfl tab_83 rfl rfl (by omega) rfl he1 ?_)
  refine qo hnt rfl (s_load_ro tab_83 rfl rfl rfl ?_)
  refine qo hnt rfl (s_callF rfl rfl rfl (w_part_read 3 e1) rfl ?_)
  refine qm hnt rfl rfl (qo hnt rfl (s_mkM (f := enc16) ([0] : List UInt16) tab_34 rfl tab_35 ⟨rfl,by decide⟩ (by decide) rfl rfl rfl rfl ?_))
  refine qo hnt rfl (s_build tab_37 rfl rfl (b_cons rfl tab_3 rfl rfl rfl (Nat.le_of_ble_eq_true rfl) (b_cons rfl tab_3 rfl rfl rfl (Nat.le_of_ble_eq_true rfl) (b_cons rfl tab_34 rfl rfl rfl (Nat.le_of_ble_eq_true rfl) (b_nil ?_)))))
  refine qo hnt rfl (s_build tab_50 rfl rfl (b_cons rfl tab_37 rfl rfl rfl (Nat.le_of_ble_eq_true rfl) (b_cons rfl tab_4 rfl rfl rfl (Nat.le_of_ble_eq_true rfl) (b_nil ?_))))
  refine r_frz (s := 45) rfl rfl (r_le (s := 45) (y := PV.f (ePart (⟨(⟨6,e1.physical,0,0,0,[],([0] : List UInt16),0,0⟩ : TRequest),true⟩ : TPart))) rfl (le_F (FLe.agg ⟨FLe.refl _,FLe.refl _,FLe.refl _,FLe.refl _,FLe.refl _,FLe.nil 1 false,FLe.refl _,FLe.refl _,FLe.refl _,FLe.refl _,trivial⟩)) (qo hnt rfl (s_mkM (f := ePart) [rPart 3 e1,(⟨(⟨6,e1.physical,0,0,0,[],([0] : List UInt16),0,0⟩ : TRequest),true⟩ : TPart)] tab_45 rfl tab_50 ⟨rfl,by decide⟩ (by decide) rfl rfl rfl rfl ?_)))
  refine qa hnt rfl rfl (qa hnt rfl rfl (r_set [(4,PV.ref 3 0 none),(5,pI 0)] [(3,oB true 10 ePart ([rPart 3 e1,(⟨(⟨6,e1.physical,0,0,0,[],([0] : List UInt16),0,0⟩ : TRequest),true⟩ : TPart)])),(2,oB false 1 enc16 ([0] : List UInt16)),(1,.obj (cRequest q)),(0,.obj (cTenant t))] 4 ⟨rfl,rfl,trivial⟩ rfl rfl (r_end (q_then (w_frzM (s := 4) (f := ePart) rfl rfl view_0 ?_)))))
  refine w_le (s := 4) (y := pS 10 false ePart S.1) rfl (le_of_eq (congrArg (fun z => pS 10 false ePart z) (show ([rPart 3 e1,(⟨(⟨6,e1.physical,0,0,0,[],([0] : List UInt16),0,0⟩ : TRequest),true⟩ : TPart)] : List TPart) = S.1 by (rw [hS]; exact (parts_22 (by omega) he1 (hrc _ he1)).symm)))) (w_le (s := 5) (y := pI S.2) rfl (le_of_eq (congrArg pI (show 0 = S.2 by (rw [hS]; done)))) (w_ret (q_then_ret ?_)))
  exact fin_plain (ret_tmp rfl (ret_tmp rfl ret_nil)) rfl rfl ⟨rfl,rfl,rfl⟩
 try simp only [sB] at c2
 refine w_skip (q_then (w_seq (w_seq (w_R (qm hnt rfl rfl ?_)))))
 refine qo hnt rfl (s_lenM (l := pW t.windows q) tab_79 rfl (hM_sl (f := ePiece) rfl) ?_)
 refine qm hnt rfl rfl (r_end (q_then (w_block (w_adopt (s := 7) (sz := 10) rfl (loop2 (fun (os : List TPart) (i : Nat) => i ≤ (pW t.windows q).length ∧ os = ((pW t.windows q).take i).map (wPart q)) (fun (os : List TPart) (i : Nat) => [(3,PV.ptr 1 0),(7,PV.ref 0 0 none),(9,pS 3 false ePiece (pR t.windows q)),(47,pS 3 false ePiece (pW t.windows q)),(48,pN ((pW t.windows q).length)),(49,pN i)]) 2 (fun (os : List TPart) (i : Nat) => [(0,oB true 10 ePart os),(1,.obj (cRequest q))]) (fun (os : List TPart) (i : Nat) => (pW t.windows q).length - i) (([] : List TPart)) (0) ?_ ⟨[(0,2),(1,1)],by rw [hk]; decide,⟨⟨_,rfl,rfl,rfl⟩,⟨_,rfl,rfl,rfl⟩,⟨_,rfl,rfl,rfl⟩,⟨_,rfl,rfl,rfl⟩,⟨_,rfl,rfl,rfl⟩,⟨_,rfl,rfl,rfl⟩,trivial⟩,⟨⟨_,_,rfl,rfl,rfl,rfl⟩,⟨_,_,rfl,rfl,rfl,rfl⟩,trivial⟩,by rw [hk]; decide⟩ ?_)))))
 · exact ⟨by omega,rfl⟩
 ·intro os i hI
  obtain ⟨hi,hos⟩ := hI
  have hol : os.length ≤ 6 := by rw [hos]; simp; omega
  refine w_seq (w_R (qo hnt rfl (s_lss rfl rfl ?_)))
  refine r_end (q_then (w_seq (w_if rfl (fun c3 => ?_) (fun c3 => ?_))))
  ·try simp only [sB] at c3
   refine w_skip (q_then (w_seq (w_block (w_seq (w_R ?_)))))
   obtain ⟨e2,he2⟩ := get_of_lt (pW t.windows q) (i := i) (by omega)
   refine qo hnt rfl (s_iaM (q := i) (b := e2) (f := ePiece) tab_79 rfl tab_83 rfl rfl (by omega) rfl he2 ?_)
   refine qo hnt rfl (s_load_ro tab_83 rfl rfl rfl ?_)
   refine qo hnt rfl (s_alloc tab_83 ?_)
   refine qo hnt rfl (s_store_ptr tab_83 rfl rfl rfl rfl rfl (Nat.le_of_ble_eq_true rfl) ?_)
   refine r_set [(3,PV.ptr 1 0),(7,PV.ref 0 0 none),(9,pS 3 false ePiece (pR t.windows q)),(13,PV.ptr 2 0),(47,pS 3 false ePiece (pW t.windows q)),(48,pN ((pW t.windows q).length)),(49,pN i)] [(2,.obj (cPiece e2)),(0,oB true 10 ePart os),(1,.obj (cRequest q))] 3 ⟨rfl,rfl,rfl,rfl,rfl,rfl,rfl,trivial⟩ rfl rfl (r_end (q_then (w_seq ?_)))
   obtain ⟨wc1,wc2,wp0,wp1,wfn,w15,w16,w23⟩ := pW_get hcy he2
   obtain ⟨w1,hw1⟩ : ∃ z,z = wPart q e2 := ⟨_,rfl⟩
   refine w_R (qo hnt rfl (s_fa_ptr tab_37 rfl rfl tab_3 (by decide) rfl ?_))
   refine qo hnt rfl (s_load_ptr1 tab_3 rfl rfl rfl rfl rfl ?_)
   refine qo hnt rfl (s_fa_ptr tab_83 rfl rfl tab_3 (by decide) rfl ?_)
   refine qo hnt rfl (s_load_ptr1 tab_3 rfl rfl rfl rfl rfl ?_)
   refine qo hnt rfl (s_fa_ptr tab_83 rfl rfl tab_3 (by decide) rfl ?_)
   refine qo hnt rfl (s_load_ptr1 tab_3 rfl rfl rfl rfl rfl ?_)
   refine qo hnt rfl (s_build tab_37 rfl rfl (b_cons rfl tab_3 rfl rfl rfl (Nat.le_of_ble_eq_true rfl) (b_cons rfl tab_3 rfl rfl rfl (Nat.le_of_ble_eq_true rfl) (b_cons rfl tab_3 rfl rfl rfl (Nat.le_of_ble_eq_true rfl) (b_nil ?_)))))
   refine qo hnt rfl (s_alloc tab_37 ?_)
   refine qo hnt rfl (s_store_ptr tab_37 rfl rfl rfl rfl rfl (Nat.le_of_ble_eq_true rfl) ?_)
   refine r_set [(3,PV.ptr 1 0),(7,PV.ref 0 0 none),(9,pS 3 false ePiece (pR t.windows q)),(13,PV.ptr 2 0),(14,PV.ptr 3 0),(47,pS 3 false ePiece (pW t.windows q)),(48,pN ((pW t.windows q).length)),(49,pN i)] [(3,.obj [pI q.fn,pI e2.physical,pI e2.count,pI 0,pI 0,pNil,pNil,p16 0,p16 0]),(2,.obj (cPiece e2)),(0,oB true 10 ePart os),(1,.obj (cRequest q))] 4 ⟨rfl,rfl,rfl,rfl,rfl,rfl,rfl,rfl,trivial⟩ rfl rfl (r_end (q_then (join0 (True) ([(3,PV.ptr 1 0),(7,PV.ref 2 0 none),(9,pS 3 false ePiece (pR t.windows q)),(14,PV.ptr 0 0),(47,pS 3 false ePiece (pW t.windows q)),(48,pN ((pW t.windows q).length)),(49,pN i)]) 3 ([(0,.obj [pI w1.request.fn,pI w1.request.at_,pI w1.request.count,pI w1.request.wAt,pI w1.request.sub,pS 1 false encBo w1.request.bits,pS 1 false enc16 w1.request.vals,p16 w1.request.and_,p16 w1.request.or_]),(1,.obj (cRequest q)),(2,oB true 10 ePart os)]) ?_ ?_)))
   ·refine w_seq (w_R (qo hnt rfl (s_fa_ptr tab_37 rfl rfl tab_3 (by decide) rfl ?_)))
    refine qo hnt rfl (s_load_ptr1 tab_3 rfl rfl rfl rfl rfl ?_)
    refine r_end (q_then (w_block (w_seq (w_R (qo hnt rfl (s_eql rfl rfl ?_))))))
    refine qa hnt rfl rfl (r_end (q_then (w_if rfl (fun c4 => ?_) (fun c4 => ?_))))
    ·try simp only [sB] at c4
     refine w_R (qo hnt rfl (s_fa_ptr tab_37 rfl rfl tab_33 (by decide) rfl ?_))
     refine qo hnt rfl (s_load_ptr1 tab_33 rfl rfl rfl rfl rfl ?_)
     refine qo hnt rfl (s_callX (r2 := PV.ref 4 0 none) (nx1 := 5) (H2 := [(3,.obj [pI q.fn,pI e2.physical,pI e2.count,pI 0,pI 0,pNil,pNil,p16 0,p16 0]),(2,.obj (cPiece e2)),(0,oB true 10 ePart os),(1,.obj (cRequest q))]) (H3 := [(4,oB true 1 encBo q.bits),(3,.obj [pI q.fn,pI e2.physical,pI e2.count,pI 0,pI 0,pNil,pNil,p16 0,p16 0]),(2,.obj (cPiece e2)),(0,oB true 10 ePart os),(1,.obj (cRequest q))]) [] [] rfl rfl rfl (handed_of (by decide) trivial) rfl rfl rfl rfl rfl rfl (w_slices_Clone_bool_bool q.bits false (by omega)) rfl (dist_of rfl) rfl rfl rfl rfl ?_)
     refine qo hnt rfl (s_fa_ptr tab_37 rfl rfl tab_3 (by decide) rfl ?_)
     refine qo hnt rfl (s_store_ptr tab_3 rfl rfl rfl rfl rfl (Nat.le_of_ble_eq_true rfl) ?_)
     refine qo hnt rfl (s_fa_ptr tab_37 rfl rfl tab_33 (by decide) rfl ?_)
     refine qo hnt rfl (s_store_ptr tab_33 rfl rfl rfl rfl rfl (Nat.le_of_ble_eq_true rfl) ?_)
     refine r_frzC (n := 3) (j := 5) rfl rfl rfl rfl ?_
     have hz1 : q.bits = w1.request.bits := by ((rw [hw1,wPart_5 (by omega)] <;> (first|rfl|omega)))
     refine r_leO (n := 3) (ds := [pI q.fn,pI e2.physical,pI 0,pI 0,pI 0,pS 1 false encBo w1.request.bits,pNil,p16 0,p16 0]) rfl ⟨le_refl _,le_refl _,le_refl _,le_refl _,le_refl _,le_of_eq (congrArg (fun z => pS 1 false encBo z) hz1),le_refl _,le_refl _,le_refl _,trivial⟩ ?_
     have hz2 : q.fn = w1.request.fn ∧ e2.physical = w1.request.at_ ∧ 0 = w1.request.count ∧ 0 = w1.request.wAt ∧ 0 = w1.request.sub ∧ ([] : List UInt16) = w1.request.vals ∧ 0 = w1.request.and_ ∧ 0 = w1.request.or_ := by and_intros <;> ((rw [hw1,wPart_5 (by omega)] <;> (first|rfl|omega)))
     refine r_leO (n := 3) (ds := [pI w1.request.fn,pI w1.request.at_,pI w1.request.count,pI w1.request.wAt,pI w1.request.sub,pS 1 false encBo w1.request.bits,pS 1 false enc16 w1.request.vals,p16 w1.request.and_,p16 w1.request.or_]) rfl ⟨le_of_eq (congrArg pI hz2.1),le_of_eq (congrArg pI hz2.2.1),le_of_eq (congrArg pI hz2.2.2.1),le_of_eq (congrArg pI hz2.2.2.2.1),le_of_eq (congrArg pI hz2.2.2.2.2.1),le_refl _,le_tr (le_nilS 1 false) (le_of_eq (congrArg (fun z => pS 1 false enc16 z) hz2.2.2.2.2.2.1)),le_of_eq (congrArg p16 hz2.2.2.2.2.2.2.1),le_of_eq (congrArg p16 hz2.2.2.2.2.2.2.2),trivial⟩ (r_end (q_block (q_then (⟨?_,⟨[(0,3),(1,1),(2,0)],by rw [hk]; decide,⟨⟨_,rfl,rfl,rfl⟩,⟨_,rfl,rfl,rfl⟩,⟨_,rfl,rfl,rfl⟩,⟨_,rfl,rfl,rfl⟩,⟨_,rfl,rfl,rfl⟩,⟨_,rfl,rfl,rfl⟩,⟨_,rfl,rfl,rfl⟩,trivial⟩,⟨⟨_,_,rfl,rfl,rfl,rfl⟩,⟨_,_,rfl,rfl,rfl,rfl⟩,⟨_,_,rfl,rfl,rfl,rfl⟩,trivial⟩,by rw [hk]; decide⟩⟩))))
     trivial
    try simp only [sB] at c4
    refine w_seq (w_R (qo hnt rfl (s_eql rfl rfl ?_)))
    refine qa hnt rfl rfl (r_end (q_then (w_if rfl (fun c5 => ?_) (fun c5 => ?_))))
    ·try simp only [sB] at c5
     refine w_R (qo hnt rfl (s_fa_ptr tab_37 rfl rfl tab_34 (by decide) rfl ?_))
     refine qo hnt rfl (s_load_ptr1 tab_34 rfl rfl rfl rfl rfl ?_)
     refine qo hnt rfl (s_callX (r2 := PV.ref 4 0 none) (nx1 := 5) (H2 := [(3,.obj [pI q.fn,pI e2.physical,pI e2.count,pI 0,pI 0,pNil,pNil,p16 0,p16 0]),(2,.obj (cPiece e2)),(0,oB true 10 ePart os),(1,.obj (cRequest q))]) (H3 := [(4,oB true 1 enc16 q.vals),(3,.obj [pI q.fn,pI e2.physical,pI e2.count,pI 0,pI 0,pNil,pNil,p16 0,p16 0]),(2,.obj (cPiece e2)),(0,oB true 10 ePart os),(1,.obj (cRequest q))]) [] [] rfl rfl rfl (handed_of (by decide) trivial) rfl rfl rfl rfl rfl rfl (w_slices_Clone_uint16_uint16 q.vals false (by omega)) rfl (dist_of rfl) rfl rfl rfl rfl ?_)
     refine qo hnt rfl (s_fa_ptr tab_37 rfl rfl tab_3 (by decide) rfl ?_)
     refine qo hnt rfl (s_store_ptr tab_3 rfl rfl rfl rfl rfl (Nat.le_of_ble_eq_true rfl) ?_)
     refine qo hnt rfl (s_fa_ptr tab_37 rfl rfl tab_34 (by decide) rfl ?_)
     refine qo hnt rfl (s_store_ptr tab_34 rfl rfl rfl rfl rfl (Nat.le_of_ble_eq_true rfl) ?_)
     refine r_frzC (n := 3) (j := 6) rfl rfl rfl rfl ?_
     have hz3 : q.vals = w1.request.vals := by ((rw [hw1,wPart_6 (by omega)] <;> (first|rfl|omega)))
     refine r_leO (n := 3) (ds := [pI q.fn,pI e2.physical,pI 0,pI 0,pI 0,pNil,pS 1 false enc16 w1.request.vals,p16 0,p16 0]) rfl ⟨le_refl _,le_refl _,le_refl _,le_refl _,le_refl _,le_refl _,le_of_eq (congrArg (fun z => pS 1 false enc16 z) hz3),le_refl _,le_refl _,trivial⟩ ?_
     have hz4 : q.fn = w1.request.fn ∧ e2.physical = w1.request.at_ ∧ 0 = w1.request.count ∧ 0 = w1.request.wAt ∧ 0 = w1.request.sub ∧ ([] : List Bool) = w1.request.bits ∧ 0 = w1.request.and_ ∧ 0 = w1.request.or_ := by and_intros <;> ((rw [hw1,wPart_6 (by omega)] <;> (first|rfl|omega)))
     refine r_leO (n := 3) (ds := [pI w1.request.fn,pI w1.request.at_,pI w1.request.count,pI w1.request.wAt,pI w1.request.sub,pS 1 false encBo w1.request.bits,pS 1 false enc16 w1.request.vals,p16 w1.request.and_,p16 w1.request.or_]) rfl ⟨le_of_eq (congrArg pI hz4.1),le_of_eq (congrArg pI hz4.2.1),le_of_eq (congrArg pI hz4.2.2.1),le_of_eq (congrArg pI hz4.2.2.2.1),le_of_eq (congrArg pI hz4.2.2.2.2.1),le_tr (le_nilS 1 false) (le_of_eq (congrArg (fun z => pS 1 false encBo z) hz4.2.2.2.2.2.1)),le_refl _,le_of_eq (congrArg p16 hz4.2.2.2.2.2.2.1),le_of_eq (congrArg p16 hz4.2.2.2.2.2.2.2),trivial⟩ (r_end (q_block (q_then (⟨?_,⟨[(0,3),(1,1),(2,0)],by rw [hk]; decide,⟨⟨_,rfl,rfl,rfl⟩,⟨_,rfl,rfl,rfl⟩,⟨_,rfl,rfl,rfl⟩,⟨_,rfl,rfl,rfl⟩,⟨_,rfl,rfl,rfl⟩,⟨_,rfl,rfl,rfl⟩,⟨_,rfl,rfl,rfl⟩,trivial⟩,⟨⟨_,_,rfl,rfl,rfl,rfl⟩,⟨_,_,rfl,rfl,rfl,rfl⟩,⟨_,_,rfl,rfl,rfl,rfl⟩,trivial⟩,by rw [hk]; decide⟩⟩))))
     trivial
    try simp only [sB] at c5
    refine w_seq (w_R (qo hnt rfl (s_eql rfl rfl ?_)))
    refine qa hnt rfl rfl (r_end (q_then (w_if rfl (fun c6 => ?_) (fun c6 => ?_))))
    ·try simp only [sB] at c6
     refine W_drawnR tabOk mixed hnt [[],[0],[],[2],[],[4],[2,3,4,5],[0,1,2,3,4,5,6],[],[8],(.range 10),(.range 11),(.range 12),(.range 13)] (by kernel_rfl) (d_op (x_run0 [(3,PV.ptr 1 0)] [] rfl rfl rfl rfl (s_fa_ptr tab_37 rfl rfl tab_33 (by decide) rfl ⟨rfl,rfl,rfl⟩) (d_op (xL [(78,PV.ptr 1 5)] [0] [(1,.obj (cRequest q))] rfl rfl rfl rfl rfl (s_load_ptr1 tab_33 rfl rfl rfl rfl rfl ⟨rfl,rfl,rfl⟩) ⟨rfl,trivial⟩ rfl (d_op ?_)))))
     refine x_run0 [(13,PV.ptr 2 0)] [] rfl rfl rfl rfl (s_fa_ptr tab_83 rfl rfl tab_3 (by decide) rfl ⟨rfl,rfl,rfl⟩) (d_op (xL [(80,PV.ptr 2 0)] [2] [(2,.obj (cPiece e2))] rfl rfl rfl rfl rfl (s_load_ptr1 tab_3 rfl rfl rfl rfl rfl ⟨rfl,rfl,rfl⟩) ⟨rfl,trivial⟩ rfl (d_op (x_run0 [(3,PV.ptr 1 0)] [] rfl rfl rfl rfl (s_fa_ptr tab_37 rfl rfl tab_3 (by decide) rfl ⟨rfl,rfl,rfl⟩) (d_op ?_)))))
     refine xL [(82,PV.ptr 1 1)] [4] [(1,.obj (cRequest q))] rfl rfl rfl rfl rfl (s_load_ptr1 tab_3 rfl rfl rfl rfl rfl ⟨rfl,rfl,rfl⟩) ⟨rfl,trivial⟩ rfl (d_op (x_run0 [(81,pI e2.at_),(83,pI q.at_)] [2,3,4,5] rfl rfl rfl rfl (s_subi (r := e2.at_ - q.at_) rfl rfl rfl (by omega) ⟨rfl,rfl,rfl⟩) (d_op (x_run0 [(79,pS 1 false encBo q.bits),(84,pI (e2.at_ - q.at_))] [0,1,2,3,4,5,6] rfl rfl rfl rfl (s_cutM_lo (a := Int.toNat (e2.at_ - q.at_)) (f := encBo) (l := q.bits) tab_33 rfl tab_4 ⟨rfl,by decide⟩ rfl (bound_some rfl (by omega)) (by omega) ⟨rfl,rfl,rfl⟩) (d_op ?_)))))
     refine x_run0 [(13,PV.ptr 2 0)] [] rfl rfl rfl rfl (s_fa_ptr tab_83 rfl rfl tab_3 (by decide) rfl ⟨rfl,rfl,rfl⟩) (d_op (xL [(86,PV.ptr 2 2)] [8] [(2,.obj (cPiece e2))] rfl rfl rfl rfl rfl (s_load_ptr1 tab_3 rfl rfl rfl rfl rfl ⟨rfl,rfl,rfl⟩) ⟨rfl,trivial⟩ rfl (d_op (x_run0 [(85,pS 1 false encBo (q.bits.drop (Int.toNat (e2.at_ - q.at_)))),(87,pI e2.count)] (.range 10) rfl rfl rfl rfl (s_cutM_hi (b := Int.toNat e2.count) (f := encBo) (l := q.bits.drop (Int.toNat (e2.at_ - q.at_))) tab_33 rfl tab_4 ⟨rfl,by decide⟩ rfl (bound_some rfl (by omega)) (by rw [List.length_drop]; omega) ⟨rfl,rfl,rfl⟩) (d_op ?_)))))
     refine xT [(88,pS 1 false encBo ((q.bits.drop (Int.toNat (e2.at_ - q.at_))).take (Int.toNat e2.count)))] (.range 11) [] [(4,oB true 1 encBo ((q.bits.drop (Int.toNat (e2.at_ - q.at_))).take (Int.toNat e2.count)))] [(3,.obj [pI q.fn,pI e2.physical,pI e2.count,pI 0,pI 0,pNil,pNil,p16 0,p16 0]),(2,.obj (cPiece e2)),(0,oB true 10 ePart os),(1,.obj (cRequest q))] rfl rfl rfl rfl rfl (s_callX (r2 := PV.ref 4 0 none) (nx1 := 5) (H2 := []) (H3 := [(4,oB true 1 encBo ((q.bits.drop (Int.toNat (e2.at_ - q.at_))).take (Int.toNat e2.count)))]) [] [] rfl rfl rfl (handed_of (by decide) trivial) rfl rfl rfl rfl rfl rfl (w_slices_Clone_bool_bool ((q.bits.drop (Int.toNat (e2.at_ - q.at_))).take (Int.toNat e2.count)) false (by simp; omega)) rfl (dist_of rfl) rfl rfl rfl rfl ⟨rfl,rfl,rfl⟩) rfl rfl (d_op (x_run0 [(14,PV.ptr 3 0)] (.range 12) rfl rfl rfl rfl (s_fa_ptr tab_37 rfl rfl tab_33 (by decide) rfl ⟨rfl,rfl,rfl⟩) (d_op (xT [(90,PV.ptr 3 5),(89,PV.ref 4 0 none)] (.range 13) [(3,.obj [pI q.fn,pI e2.physical,pI e2.count,pI 0,pI 0,pNil,pNil,p16 0,p16 0])] [(3,.obj [pI q.fn,pI e2.physical,pI e2.count,pI 0,pI 0,PV.ref 4 0 none,pNil,p16 0,p16 0])] [(4,oB true 1 encBo ((q.bits.drop (Int.toNat (e2.at_ - q.at_))).take (Int.toNat e2.count))),(2,.obj (cPiece e2)),(0,oB true 10 ePart os),(1,.obj (cRequest q))] rfl rfl rfl rfl rfl (s_store_ptr tab_33 rfl rfl rfl rfl rfl (Nat.le_of_ble_eq_true rfl) ⟨rfl,rfl,rfl⟩) rfl rfl (d_end ⟨by kernel_rfl, ?_⟩)))))
     refine r_frzC (n := 3) (j := 5) rfl rfl rfl rfl ?_
     have hz5 : ((q.bits.drop (Int.toNat (e2.at_ - q.at_))).take (Int.toNat e2.count)) = w1.request.bits := by ((rw [hw1,wPart_15 (by omega)] <;> (first|rfl|omega)))
     refine r_leO (n := 3) (ds := [pI q.fn,pI e2.physical,pI e2.count,pI 0,pI 0,pS 1 false encBo w1.request.bits,pNil,p16 0,p16 0]) rfl ⟨le_refl _,le_refl _,le_refl _,le_refl _,le_refl _,le_of_eq (congrArg (fun z => pS 1 false encBo z) hz5),le_refl _,le_refl _,le_refl _,trivial⟩ ?_
     have hz6 : q.fn = w1.request.fn ∧ e2.physical = w1.request.at_ ∧ e2.count = w1.request.count ∧ 0 = w1.request.wAt ∧ 0 = w1.request.sub ∧ ([] : List UInt16) = w1.request.vals ∧ 0 = w1.request.and_ ∧ 0 = w1.request.or_ := by and_intros <;> ((rw [hw1,wPart_15 (by omega)] <;> (first|rfl|omega)))
     refine r_leO (n := 3) (ds := [pI w1.request.fn,pI w1.request.at_,pI w1.request.count,pI w1.request.wAt,pI w1.request.sub,pS 1 false encBo w1.request.bits,pS 1 false enc16 w1.request.vals,p16 w1.request.and_,p16 w1.request.or_]) rfl ⟨le_of_eq (congrArg pI hz6.1),le_of_eq (congrArg pI hz6.2.1),le_of_eq (congrArg pI hz6.2.2.1),le_of_eq (congrArg pI hz6.2.2.2.1),le_of_eq (congrArg pI hz6.2.2.2.2.1),le_refl _,le_tr (le_nilS 1 false) (le_of_eq (congrArg (fun z => pS 1 false enc16 z) hz6.2.2.2.2.2.1)),le_of_eq (congrArg p16 hz6.2.2.2.2.2.2.1),le_of_eq (congrArg p16 hz6.2.2.2.2.2.2.2),trivial⟩ (r_end (q_block (q_then (⟨?_,⟨[(0,3),(1,1),(2,0)],by rw [hk]; decide,⟨⟨_,rfl,rfl,rfl⟩,⟨_,rfl,rfl,rfl⟩,⟨_,rfl,rfl,rfl⟩,⟨_,rfl,rfl,rfl⟩,⟨_,rfl,rfl,rfl⟩,⟨_,rfl,rfl,rfl⟩,⟨_,rfl,rfl,rfl⟩,trivial⟩,⟨⟨_,_,rfl,rfl,rfl,rfl⟩,⟨_,_,rfl,rfl,rfl,rfl⟩,⟨_,_,rfl,rfl,rfl,rfl⟩,trivial⟩,by rw [hk]; decide⟩⟩))))
     trivial
    try simp only [sB] at c6
    refine w_seq (w_R (qo hnt rfl (s_eql rfl rfl ?_)))
    refine qa hnt rfl rfl (r_end (q_then (w_if rfl (fun c7 => ?_) (fun c7 => ?_))))
    ·try simp only [sB] at c7
     refine W_drawnR tabOk mixed hnt [[],[0],[],[2],[],[4],[2,3,4,5],[0,1,2,3,4,5,6],[],[8],(.range 10),(.range 11),(.range 12),(.range 13)] (by kernel_rfl) (d_op (x_run0 [(3,PV.ptr 1 0)] [] rfl rfl rfl rfl (s_fa_ptr tab_37 rfl rfl tab_34 (by decide) rfl ⟨rfl,rfl,rfl⟩) (d_op (xL [(93,PV.ptr 1 6)] [0] [(1,.obj (cRequest q))] rfl rfl rfl rfl rfl (s_load_ptr1 tab_34 rfl rfl rfl rfl rfl ⟨rfl,rfl,rfl⟩) ⟨rfl,trivial⟩ rfl (d_op ?_)))))
     refine x_run0 [(13,PV.ptr 2 0)] [] rfl rfl rfl rfl (s_fa_ptr tab_83 rfl rfl tab_3 (by decide) rfl ⟨rfl,rfl,rfl⟩) (d_op (xL [(95,PV.ptr 2 0)] [2] [(2,.obj (cPiece e2))] rfl rfl rfl rfl rfl (s_load_ptr1 tab_3 rfl rfl rfl rfl rfl ⟨rfl,rfl,rfl⟩) ⟨rfl,trivial⟩ rfl (d_op (x_run0 [(3,PV.ptr 1 0)] [] rfl rfl rfl rfl (s_fa_ptr tab_37 rfl rfl tab_3 (by decide) rfl ⟨rfl,rfl,rfl⟩) (d_op ?_)))))
     refine xL [(97,PV.ptr 1 1)] [4] [(1,.obj (cRequest q))] rfl rfl rfl rfl rfl (s_load_ptr1 tab_3 rfl rfl rfl rfl rfl ⟨rfl,rfl,rfl⟩) ⟨rfl,trivial⟩ rfl (d_op (x_run0 [(96,pI e2.at_),(98,pI q.at_)] [2,3,4,5] rfl rfl rfl rfl (s_subi (r := e2.at_ - q.at_) rfl rfl rfl (by omega) ⟨rfl,rfl,rfl⟩) (d_op (x_run0 [(94,pS 1 false enc16 q.vals),(99,pI (e2.at_ - q.at_))] [0,1,2,3,4,5,6] rfl rfl rfl rfl (s_cutM_lo (a := Int.toNat (e2.at_ - q.at_)) (f := enc16) (l := q.vals) tab_34 rfl tab_35 ⟨rfl,by decide⟩ rfl (bound_some rfl (by omega)) (by omega) ⟨rfl,rfl,rfl⟩) (d_op ?_)))))
     refine x_run0 [(13,PV.ptr 2 0)] [] rfl rfl rfl rfl (s_fa_ptr tab_83 rfl rfl tab_3 (by decide) rfl ⟨rfl,rfl,rfl⟩) (d_op (xL [(101,PV.ptr 2 2)] [8] [(2,.obj (cPiece e2))] rfl rfl rfl rfl rfl (s_load_ptr1 tab_3 rfl rfl rfl rfl rfl ⟨rfl,rfl,rfl⟩) ⟨rfl,trivial⟩ rfl (d_op (x_run0 [(100,pS 1 false enc16 (q.vals.drop (Int.toNat (e2.at_ - q.at_)))),(102,pI e2.count)] (.range 10) rfl rfl rfl rfl (s_cutM_hi (b := Int.toNat e2.count) (f := enc16) (l := q.vals.drop (Int.toNat (e2.at_ - q.at_))) tab_34 rfl tab_35 ⟨rfl,by decide⟩ rfl (bound_some rfl (by omega)) (by rw [List.length_drop]; omega) ⟨rfl,rfl,rfl⟩) (d_op ?_)))))
     refine xT [(103,pS 1 false enc16 ((q.vals.drop (Int.toNat (e2.at_ - q.at_))).take (Int.toNat e2.count)))] (.range 11) [] [(4,oB true 1 enc16 ((q.vals.drop (Int.toNat (e2.at_ - q.at_))).take (Int.toNat e2.count)))] [(3,.obj [pI q.fn,pI e2.physical,pI e2.count,pI 0,pI 0,pNil,pNil,p16 0,p16 0]),(2,.obj (cPiece e2)),(0,oB true 10 ePart os),(1,.obj (cRequest q))] rfl rfl rfl rfl rfl (s_callX (r2 := PV.ref 4 0 none) (nx1 := 5) (H2 := []) (H3 := [(4,oB true 1 enc16 ((q.vals.drop (Int.toNat (e2.at_ - q.at_))).take (Int.toNat e2.count)))]) [] [] rfl rfl rfl (handed_of (by decide) trivial) rfl rfl rfl rfl rfl rfl (w_slices_Clone_uint16_uint16 ((q.vals.drop (Int.toNat (e2.at_ - q.at_))).take (Int.toNat e2.count)) false (by simp; omega)) rfl (dist_of rfl) rfl rfl rfl rfl ⟨rfl,rfl,rfl⟩) rfl rfl (d_op (x_run0 [(14,PV.ptr 3 0)] (.range 12) rfl rfl rfl rfl (s_fa_ptr tab_37 rfl rfl tab_34 (by decide) rfl ⟨rfl,rfl,rfl⟩) (d_op (xT [(105,PV.ptr 3 6),(104,PV.ref 4 0 none)] (.range 13) [(3,.obj [pI q.fn,pI e2.physical,pI e2.count,pI 0,pI 0,pNil,pNil,p16 0,p16 0])] [(3,.obj [pI q.fn,pI e2.physical,pI e2.count,pI 0,pI 0,pNil,PV.ref 4 0 none,p16 0,p16 0])] [(4,oB true 1 enc16 ((q.vals.drop (Int.toNat (e2.at_ - q.at_))).take (Int.toNat e2.count))),(2,.obj (cPiece e2)),(0,oB true 10 ePart os),(1,.obj (cRequest q))] rfl rfl rfl rfl rfl (s_store_ptr tab_34 rfl rfl rfl rfl rfl (Nat.le_of_ble_eq_true rfl) ⟨rfl,rfl,rfl⟩) rfl rfl (d_end ⟨by kernel_rfl, ?_⟩)))))
     refine r_frzC (n := 3) (j := 6) rfl rfl rfl rfl ?_
     have hz7 : ((q.vals.drop (Int.toNat (e2.at_ - q.at_))).take (Int.toNat e2.count)) = w1.request.vals := by ((rw [hw1,wPart_16 (by omega)] <;> (first|rfl|omega)))
     refine r_leO (n := 3) (ds := [pI q.fn,pI e2.physical,pI e2.count,pI 0,pI 0,pNil,pS 1 false enc16 w1.request.vals,p16 0,p16 0]) rfl ⟨le_refl _,le_refl _,le_refl _,le_refl _,le_refl _,le_refl _,le_of_eq (congrArg (fun z => pS 1 false enc16 z) hz7),le_refl _,le_refl _,trivial⟩ ?_
     have hz8 : q.fn = w1.request.fn ∧ e2.physical = w1.request.at_ ∧ e2.count = w1.request.count ∧ 0 = w1.request.wAt ∧ 0 = w1.request.sub ∧ ([] : List Bool) = w1.request.bits ∧ 0 = w1.request.and_ ∧ 0 = w1.request.or_ := by and_intros <;> ((rw [hw1,wPart_16 (by omega)] <;> (first|rfl|omega)))
     refine r_leO (n := 3) (ds := [pI w1.request.fn,pI w1.request.at_,pI w1.request.count,pI w1.request.wAt,pI w1.request.sub,pS 1 false encBo w1.request.bits,pS 1 false enc16 w1.request.vals,p16 w1.request.and_,p16 w1.request.or_]) rfl ⟨le_of_eq (congrArg pI hz8.1),le_of_eq (congrArg pI hz8.2.1),le_of_eq (congrArg pI hz8.2.2.1),le_of_eq (congrArg pI hz8.2.2.2.1),le_of_eq (congrArg pI hz8.2.2.2.2.1),le_tr (le_nilS 1 false) (le_of_eq (congrArg (fun z => pS 1 false encBo z) hz8.2.2.2.2.2.1)),le_refl _,le_of_eq (congrArg p16 hz8.2.2.2.2.2.2.1),le_of_eq (congrArg p16 hz8.2.2.2.2.2.2.2),trivial⟩ (r_end (q_block (q_then (⟨?_,⟨[(0,3),(1,1),(2,0)],by rw [hk]; decide,⟨⟨_,rfl,rfl,rfl⟩,⟨_,rfl,rfl,rfl⟩,⟨_,rfl,rfl,rfl⟩,⟨_,rfl,rfl,rfl⟩,⟨_,rfl,rfl,rfl⟩,⟨_,rfl,rfl,rfl⟩,⟨_,rfl,rfl,rfl⟩,trivial⟩,⟨⟨_,_,rfl,rfl,rfl,rfl⟩,⟨_,_,rfl,rfl,rfl,rfl⟩,⟨_,_,rfl,rfl,rfl,rfl⟩,trivial⟩,by rw [hk]; decide⟩⟩))))
     trivial
    try simp only [sB] at c7
    refine w_seq (w_R (qo hnt rfl (s_eql rfl rfl ?_)))
    refine qa hnt rfl rfl (r_end (q_then (w_if rfl (fun c8 => ?_) (fun c8 => ?_))))
    ·try simp only [sB] at c8
     refine W_drawnR tabOk mixed hnt [[],[0],[],[2],[],[4],[2,3,4,5],[0,1,2,3,4,5,6],[],[8],(.range 10),(.range 11),[],(.range 13),(.range 14),(.range 15)] (by kernel_rfl) (d_op (x_run0 [(3,PV.ptr 1 0)] [] rfl rfl rfl rfl (s_fa_ptr tab_37 rfl rfl tab_34 (by decide) rfl ⟨rfl,rfl,rfl⟩) (d_op (xL [(108,PV.ptr 1 6)] [0] [(1,.obj (cRequest q))] rfl rfl rfl rfl rfl (s_load_ptr1 tab_34 rfl rfl rfl rfl rfl ⟨rfl,rfl,rfl⟩) ⟨rfl,trivial⟩ rfl (d_op ?_)))))
     refine x_run0 [(13,PV.ptr 2 0)] [] rfl rfl rfl rfl (s_fa_ptr tab_83 rfl rfl tab_3 (by decide) rfl ⟨rfl,rfl,rfl⟩) (d_op (xL [(110,PV.ptr 2 0)] [2] [(2,.obj (cPiece e2))] rfl rfl rfl rfl rfl (s_load_ptr1 tab_3 rfl rfl rfl rfl rfl ⟨rfl,rfl,rfl⟩) ⟨rfl,trivial⟩ rfl (d_op (x_run0 [(3,PV.ptr 1 0)] [] rfl rfl rfl rfl (s_fa_ptr tab_37 rfl rfl tab_3 (by decide) rfl ⟨rfl,rfl,rfl⟩) (d_op ?_)))))
     refine xL [(112,PV.ptr 1 3)] [4] [(1,.obj (cRequest q))] rfl rfl rfl rfl rfl (s_load_ptr1 tab_3 rfl rfl rfl rfl rfl ⟨rfl,rfl,rfl⟩) ⟨rfl,trivial⟩ rfl (d_op (x_run0 [(111,pI e2.at_),(113,pI q.wAt)] [2,3,4,5] rfl rfl rfl rfl (s_subi (r := e2.at_ - q.wAt) rfl rfl rfl (by omega) ⟨rfl,rfl,rfl⟩) (d_op (x_run0 [(109,pS 1 false enc16 q.vals),(114,pI (e2.at_ - q.wAt))] [0,1,2,3,4,5,6] rfl rfl rfl rfl (s_cutM_lo (a := Int.toNat (e2.at_ - q.wAt)) (f := enc16) (l := q.vals) tab_34 rfl tab_35 ⟨rfl,by decide⟩ rfl (bound_some rfl (by omega)) (by omega) ⟨rfl,rfl,rfl⟩) (d_op ?_)))))
     refine x_run0 [(13,PV.ptr 2 0)] [] rfl rfl rfl rfl (s_fa_ptr tab_83 rfl rfl tab_3 (by decide) rfl ⟨rfl,rfl,rfl⟩) (d_op (xL [(116,PV.ptr 2 2)] [8] [(2,.obj (cPiece e2))] rfl rfl rfl rfl rfl (s_load_ptr1 tab_3 rfl rfl rfl rfl rfl ⟨rfl,rfl,rfl⟩) ⟨rfl,trivial⟩ rfl (d_op (x_run0 [(115,pS 1 false enc16 (q.vals.drop (Int.toNat (e2.at_ - q.wAt)))),(117,pI e2.count)] (.range 10) rfl rfl rfl rfl (s_cutM_hi (b := Int.toNat e2.count) (f := enc16) (l := q.vals.drop (Int.toNat (e2.at_ - q.wAt))) tab_34 rfl tab_35 ⟨rfl,by decide⟩ rfl (bound_some rfl (by omega)) (by rw [List.length_drop]; omega) ⟨rfl,rfl,rfl⟩) (d_op ?_)))))
     refine xT [(118,pS 1 false enc16 ((q.vals.drop (Int.toNat (e2.at_ - q.wAt))).take (Int.toNat e2.count)))] (.range 11) [] [(4,oB true 1 enc16 ((q.vals.drop (Int.toNat (e2.at_ - q.wAt))).take (Int.toNat e2.count)))] [(3,.obj [pI q.fn,pI e2.physical,pI e2.count,pI 0,pI 0,pNil,pNil,p16 0,p16 0]),(2,.obj (cPiece e2)),(0,oB true 10 ePart os),(1,.obj (cRequest q))] rfl rfl rfl rfl rfl (s_callX (r2 := PV.ref 4 0 none) (nx1 := 5) (H2 := []) (H3 := [(4,oB true 1 enc16 ((q.vals.drop (Int.toNat (e2.at_ - q.wAt))).take (Int.toNat e2.count)))]) [] [] rfl rfl rfl (handed_of (by decide) trivial) rfl rfl rfl rfl rfl rfl (w_slices_Clone_uint16_uint16 ((q.vals.drop (Int.toNat (e2.at_ - q.wAt))).take (Int.toNat e2.count)) false (by simp; omega)) rfl (dist_of rfl) rfl rfl rfl rfl ⟨rfl,rfl,rfl⟩) rfl rfl (d_op (x_run0 [(14,PV.ptr 3 0)] [] rfl rfl rfl rfl (s_fa_ptr tab_37 rfl rfl tab_3 (by decide) rfl ⟨rfl,rfl,rfl⟩) (d_op (xT [(120,PV.ptr 3 0)] (.range 13) [(3,.obj [pI q.fn,pI e2.physical,pI e2.count,pI 0,pI 0,pNil,pNil,p16 0,p16 0])] [(3,.obj [pI 16,pI e2.physical,pI e2.count,pI 0,pI 0,pNil,pNil,p16 0,p16 0])] [(4,oB true 1 enc16 ((q.vals.drop (Int.toNat (e2.at_ - q.wAt))).take (Int.toNat e2.count))),(2,.obj (cPiece e2)),(0,oB true 10 ePart os),(1,.obj (cRequest q))] rfl rfl rfl rfl rfl (s_store_ptr tab_3 rfl rfl rfl rfl rfl (Nat.le_of_ble_eq_true rfl) ⟨rfl,rfl,rfl⟩) rfl rfl (d_op ?_)))))
     refine x_run0 [(14,PV.ptr 3 0)] (.range 14) rfl rfl rfl rfl (s_fa_ptr tab_37 rfl rfl tab_34 (by decide) rfl ⟨rfl,rfl,rfl⟩) (d_op (xT [(121,PV.ptr 3 6),(119,PV.ref 4 0 none)] (.range 15) [(3,.obj [pI 16,pI e2.physical,pI e2.count,pI 0,pI 0,pNil,pNil,p16 0,p16 0])] [(3,.obj [pI 16,pI e2.physical,pI e2.count,pI 0,pI 0,pNil,PV.ref 4 0 none,p16 0,p16 0])] [(4,oB true 1 enc16 ((q.vals.drop (Int.toNat (e2.at_ - q.wAt))).take (Int.toNat e2.count))),(2,.obj (cPiece e2)),(0,oB true 10 ePart os),(1,.obj (cRequest q))] rfl rfl rfl rfl rfl (s_store_ptr tab_34 rfl rfl rfl rfl rfl (Nat.le_of_ble_eq_true rfl) ⟨rfl,rfl,rfl⟩) rfl rfl (d_end ⟨by kernel_rfl, ?_⟩)))
     refine r_frzC (n := 3) (j := 6) rfl rfl rfl rfl ?_
     have hz9 : ((q.vals.drop (Int.toNat (e2.at_ - q.wAt))).take (Int.toNat e2.count)) = w1.request.vals := by ((rw [hw1,wPart_23 (by omega)] <;> (first|rfl|omega)))
     refine r_leO (n := 3) (ds := [pI 16,pI e2.physical,pI e2.count,pI 0,pI 0,pNil,pS 1 false enc16 w1.request.vals,p16 0,p16 0]) rfl ⟨le_refl _,le_refl _,le_refl _,le_refl _,le_refl _,le_refl _,le_of_eq (congrArg (fun z => pS 1 false enc16 z) hz9),le_refl _,le_refl _,trivial⟩ ?_
     have hz10 : 16 = w1.request.fn ∧ e2.physical = w1.request.at_ ∧ e2.count = w1.request.count ∧ 0 = w1.request.wAt ∧ 0 = w1.request.sub ∧ ([] : List Bool) = w1.request.bits ∧ 0 = w1.request.and_ ∧ 0 = w1.request.or_ := by and_intros <;> ((rw [hw1,wPart_23 (by omega)] <;> (first|rfl|omega)))
     refine r_leO (n := 3) (ds := [pI w1.request.fn,pI w1.request.at_,pI w1.request.count,pI w1.request.wAt,pI w1.request.sub,pS 1 false encBo w1.request.bits,pS 1 false enc16 w1.request.vals,p16 w1.request.and_,p16 w1.request.or_]) rfl ⟨le_of_eq (congrArg pI hz10.1),le_of_eq (congrArg pI hz10.2.1),le_of_eq (congrArg pI hz10.2.2.1),le_of_eq (congrArg pI hz10.2.2.2.1),le_of_eq (congrArg pI hz10.2.2.2.2.1),le_tr (le_nilS 1 false) (le_of_eq (congrArg (fun z => pS 1 false encBo z) hz10.2.2.2.2.2.1)),le_refl _,le_of_eq (congrArg p16 hz10.2.2.2.2.2.2.1),le_of_eq (congrArg p16 hz10.2.2.2.2.2.2.2),trivial⟩ (r_end (q_block (q_then (⟨?_,⟨[(0,3),(1,1),(2,0)],by rw [hk]; decide,⟨⟨_,rfl,rfl,rfl⟩,⟨_,rfl,rfl,rfl⟩,⟨_,rfl,rfl,rfl⟩,⟨_,rfl,rfl,rfl⟩,⟨_,rfl,rfl,rfl⟩,⟨_,rfl,rfl,rfl⟩,⟨_,rfl,rfl,rfl⟩,trivial⟩,⟨⟨_,_,rfl,rfl,rfl,rfl⟩,⟨_,_,rfl,rfl,rfl,rfl⟩,⟨_,_,rfl,rfl,rfl,rfl⟩,trivial⟩,by rw [hk]; decide⟩⟩))))
     trivial
    try simp only [sB] at c8
    have hz11 : q.fn = w1.request.fn ∧ e2.physical = w1.request.at_ ∧ e2.count = w1.request.count ∧ 0 = w1.request.wAt ∧ 0 = w1.request.sub ∧ ([] : List Bool) = w1.request.bits ∧ ([] : List UInt16) = w1.request.vals ∧ 0 = w1.request.and_ ∧ 0 = w1.request.or_ := by and_intros <;> ((exfalso; omega))
    refine w_leO (n := 3) (ds := [pI w1.request.fn,pI w1.request.at_,pI w1.request.count,pI w1.request.wAt,pI w1.request.sub,pS 1 false encBo w1.request.bits,pS 1 false enc16 w1.request.vals,p16 w1.request.and_,p16 w1.request.or_]) rfl ⟨le_of_eq (congrArg pI hz11.1),le_of_eq (congrArg pI hz11.2.1),le_of_eq (congrArg pI hz11.2.2.1),le_of_eq (congrArg pI hz11.2.2.2.1),le_of_eq (congrArg pI hz11.2.2.2.2.1),le_tr (le_nilS 1 false) (le_of_eq (congrArg (fun z => pS 1 false encBo z) hz11.2.2.2.2.2.1)),le_tr (le_nilS 1 false) (le_of_eq (congrArg (fun z => pS 1 false enc16 z) hz11.2.2.2.2.2.2.1)),le_of_eq (congrArg p16 hz11.2.2.2.2.2.2.2.1),le_of_eq (congrArg p16 hz11.2.2.2.2.2.2.2.2),trivial⟩ (w_skip (q_block (q_then (⟨?_,⟨[(0,3),(1,1),(2,0)],by rw [hk]; decide,⟨⟨_,rfl,rfl,rfl⟩,⟨_,rfl,rfl,rfl⟩,⟨_,rfl,rfl,rfl⟩,⟨_,rfl,rfl,rfl⟩,⟨_,rfl,rfl,rfl⟩,⟨_,rfl,rfl,rfl⟩,⟨_,rfl,rfl,rfl⟩,trivial⟩,⟨⟨_,_,rfl,rfl,rfl,rfl⟩,⟨_,_,rfl,rfl,rfl,rfl⟩,⟨_,_,rfl,rfl,rfl,rfl⟩,trivial⟩,by rw [hk]; decide⟩⟩))))
    trivial
   intro hJ
   refine w_seq (W_drawn tabOk mixed hnt [[],[0],[0,1],[],[3],[0,1,2,3,4],[0,1,2,3,4],[0,1,2,3,4,5,6],(.range 8),(.range 9)] (by kernel_rfl) (d_op (x_run0 [(14,PV.ptr 0 0)] [] rfl rfl rfl rfl (s_fa_ptr tab_37 rfl rfl tab_33 (by decide) rfl ⟨rfl,rfl,rfl⟩) (d_op (xL [(122,PV.ptr 0 5)] [0] [(0,.obj [pI w1.request.fn,pI w1.request.at_,pI w1.request.count,pI w1.request.wAt,pI w1.request.sub,pS 1 false encBo w1.request.bits,pS 1 false enc16 w1.request.vals,p16 w1.request.and_,p16 w1.request.or_])] rfl rfl rfl rfl rfl (s_load_ptr1 tab_33 rfl rfl rfl rfl rfl ⟨rfl,rfl,rfl⟩) ⟨rfl,trivial⟩ rfl ?_)))))
   refine d_op (x_run0 [(123,pS 1 false encBo w1.request.bits)] [0,1] rfl rfl rfl rfl (s_callF rfl rfl rfl (w_slices_Clip_bool_bool w1.request.bits false) rfl ⟨rfl,rfl,rfl⟩) (d_op (x_run0 [(14,PV.ptr 0 0)] [] rfl rfl rfl rfl (s_fa_ptr tab_37 rfl rfl tab_34 (by decide) rfl ⟨rfl,rfl,rfl⟩) (d_op (xL [(125,PV.ptr 0 6)] [3] [(0,.obj [pI w1.request.fn,pI w1.request.at_,pI w1.request.count,pI w1.request.wAt,pI w1.request.sub,pS 1 false encBo w1.request.bits,pS 1 false enc16 w1.request.vals,p16 w1.request.and_,p16 w1.request.or_])] rfl rfl rfl rfl rfl (s_load_ptr1 tab_34 rfl rfl rfl rfl rfl ⟨rfl,rfl,rfl⟩) ⟨rfl,trivial⟩ rfl ?_)))))
   refine d_op (x_run0 [(126,pS 1 false enc16 w1.request.vals)] [0,1,2,3,4] rfl rfl rfl rfl (s_callF rfl rfl rfl (w_slices_Clip_uint16_uint16 w1.request.vals false) rfl ⟨rfl,rfl,rfl⟩) (d_op (x_run0 [(14,PV.ptr 0 0)] [0,1,2,3,4] rfl rfl rfl rfl (s_fa_ptr tab_37 rfl rfl tab_33 (by decide) rfl ⟨rfl,rfl,rfl⟩) (d_op (xT [(128,PV.ptr 0 5),(124,pS 1 true encBo w1.request.bits)] [0,1,2,3,4,5,6] [(0,.obj [pI w1.request.fn,pI w1.request.at_,pI w1.request.count,pI w1.request.wAt,pI w1.request.sub,pS 1 false encBo w1.request.bits,pS 1 false enc16 w1.request.vals,p16 w1.request.and_,p16 w1.request.or_])] [(0,.obj [pI w1.request.fn,pI w1.request.at_,pI w1.request.count,pI w1.request.wAt,pI w1.request.sub,pS 1 true encBo w1.request.bits,pS 1 false enc16 w1.request.vals,p16 w1.request.and_,p16 w1.request.or_])] [(1,.obj (cRequest q)),(2,oB true 10 ePart os)] rfl rfl rfl rfl rfl (s_store_ptr tab_33 rfl rfl rfl rfl rfl (Nat.le_of_ble_eq_true rfl) ⟨rfl,rfl,rfl⟩) rfl rfl ?_)))))
   refine d_op (x_run0 [(14,PV.ptr 0 0)] (.range 8) rfl rfl rfl rfl (s_fa_ptr tab_37 rfl rfl tab_34 (by decide) rfl ⟨rfl,rfl,rfl⟩) (d_op (xT [(129,PV.ptr 0 6),(127,pS 1 true enc16 w1.request.vals)] (.range 9) [(0,.obj [pI w1.request.fn,pI w1.request.at_,pI w1.request.count,pI w1.request.wAt,pI w1.request.sub,pS 1 true encBo w1.request.bits,pS 1 false enc16 w1.request.vals,p16 w1.request.and_,p16 w1.request.or_])] [(0,.obj [pI w1.request.fn,pI w1.request.at_,pI w1.request.count,pI w1.request.wAt,pI w1.request.sub,pS 1 true encBo w1.request.bits,pS 1 true enc16 w1.request.vals,p16 w1.request.and_,p16 w1.request.or_])] [(1,.obj (cRequest q)),(2,oB true 10 ePart os)] rfl rfl rfl rfl rfl (s_store_ptr tab_34 rfl rfl rfl rfl rfl (Nat.le_of_ble_eq_true rfl) ⟨rfl,rfl,rfl⟩) rfl rfl (d_end ⟨by kernel_rfl, ?_⟩))))
   refine q_then (w_R (qm hnt rfl rfl (qo hnt rfl (s_load_ptr tab_37 rfl rfl rfl (Nat.le_of_ble_eq_true rfl) ?_))))
   refine qo hnt rfl (s_build tab_50 rfl rfl (b_cons rfl tab_37 rfl rfl rfl (Nat.le_of_ble_eq_true rfl) (b_cons rfl tab_4 rfl rfl rfl (Nat.le_of_ble_eq_true rfl) (b_nil ?_))))
   refine r_le (s := 132) (y := PV.f (ePart (⟨(⟨w1.request.fn,w1.request.at_,w1.request.count,w1.request.wAt,w1.request.sub,w1.request.bits,w1.request.vals,w1.request.and_,w1.request.or_⟩ : TRequest),true⟩ : TPart))) rfl (le_F (FLe.agg ⟨FLe.refl _,FLe.refl _,FLe.refl _,FLe.refl _,FLe.refl _,FLe.loose,FLe.loose,FLe.refl _,FLe.refl _,FLe.refl _,trivial⟩)) (qo hnt rfl (s_mkM (f := ePart) [(⟨(⟨w1.request.fn,w1.request.at_,w1.request.count,w1.request.wAt,w1.request.sub,w1.request.bits,w1.request.vals,w1.request.and_,w1.request.or_⟩ : TRequest),true⟩ : TPart)] tab_45 rfl tab_50 ⟨rfl,by decide⟩ (by decide) rfl rfl rfl rfl ?_))
   refine qo hnt rfl (s_appR0 (f := ePart) (l := os) (xs := [(⟨(⟨w1.request.fn,w1.request.at_,w1.request.count,w1.request.wAt,w1.request.sub,w1.request.bits,w1.request.vals,w1.request.and_,w1.request.or_⟩ : TRequest),true⟩ : TPart)]) tab_45 rfl tab_50 ⟨rfl,by decide,by decide⟩ (srcM tab_45 rfl (hM_ref0 (f := ePart) rfl rfl)) rfl rfl (by (simp; omega)) ?_)
   refine qa hnt rfl rfl (r_set [(3,PV.ptr 1 0),(7,PV.ref 4 0 none),(9,pS 3 false ePiece (pR t.windows q)),(47,pS 3 false ePiece (pW t.windows q)),(48,pN ((pW t.windows q).length)),(49,pN i)] [(4,oB true 10 ePart (os ++ [(⟨(⟨w1.request.fn,w1.request.at_,w1.request.count,w1.request.wAt,w1.request.sub,w1.request.bits,w1.request.vals,w1.request.and_,w1.request.or_⟩ : TRequest),true⟩ : TPart)])),(3,oB true 10 ePart [(⟨(⟨w1.request.fn,w1.request.at_,w1.request.count,w1.request.wAt,w1.request.sub,w1.request.bits,w1.request.vals,w1.request.and_,w1.request.or_⟩ : TRequest),true⟩ : TPart)]),(0,.obj [pI w1.request.fn,pI w1.request.at_,pI w1.request.count,pI w1.request.wAt,pI w1.request.sub,pS 1 true encBo w1.request.bits,pS 1 true enc16 w1.request.vals,p16 w1.request.and_,p16 w1.request.or_]),(1,.obj (cRequest q))] 5 ⟨rfl,rfl,rfl,rfl,rfl,rfl,trivial⟩ rfl rfl (r_end (q_block (q_then (w_R ?_)))))
   refine qo hnt rfl (s_addN (a := i) (b := 1) rfl rfl (by omega) (by omega) (by omega) ?_)
   refine qm hnt rfl rfl (r_end (q_then (⟨(os ++ [(⟨(⟨w1.request.fn,w1.request.at_,w1.request.count,w1.request.wAt,w1.request.sub,w1.request.bits,w1.request.vals,w1.request.and_,w1.request.or_⟩ : TRequest),true⟩ : TPart)]),(i + 1), ?_, ?_,⟨[(0,4),(1,1)],by rw [hk]; decide,⟨⟨_,rfl,rfl,rfl⟩,⟨_,rfl,rfl,rfl⟩,⟨_,rfl,rfl,rfl⟩,⟨_,rfl,rfl,rfl⟩,⟨_,rfl,rfl,rfl⟩,⟨_,rfl,rfl,rfl⟩,trivial⟩,⟨⟨_,_,rfl,rfl,rfl,rfl⟩,⟨_,_,rfl,rfl,rfl,rfl⟩,trivial⟩,by rw [hk]; decide⟩⟩)))
   ·refine ⟨by omega, ?_⟩
    rw [hos,List.take_add_one,he2,List.map_append]
    exact congrArg (fun z => ((pW t.windows q).take i).map (wPart q) ++ [z]) (by rw [hw1]; exact wPart_eta q e2)
   · omega
  try simp only [sB] at c3
  refine w_exit (q_then_exit (q_then_exit (q_block_exit (q_then (w_seq ?_)))))
  refine w_seq (w_R (qm hnt rfl rfl (qo hnt rfl (s_lenM (l := pR t.windows q) tab_79 rfl (hM_sl (f := ePiece) rfl) ?_))))
  refine qm hnt rfl rfl (r_end (q_then (w_block (loop2 (fun (os5 : List TPart) (j : Nat) => j ≤ (pR t.windows q).length ∧ os5 = (pW t.windows q).map (wPart q) ++ ((pR t.windows q).take j).map (rPart (if q.fn = 23 then 3 else q.fn))) (fun (os5 : List TPart) (j : Nat) => [(3,PV.ptr 1 0),(7,PV.ref 0 0 none),(136,pS 3 false ePiece (pR t.windows q)),(137,pN ((pR t.windows q).length)),(138,pN j)]) 2 (fun (os5 : List TPart) (j : Nat) => [(0,oB true 10 ePart os5),(1,.obj (cRequest q))]) (fun (os5 : List TPart) (j : Nat) => (pR t.windows q).length - j) (os) (0) ?_ ⟨[(0,0),(1,1)],by rw [hk]; decide,⟨⟨_,rfl,rfl,rfl⟩,⟨_,rfl,rfl,rfl⟩,⟨_,rfl,rfl,rfl⟩,⟨_,rfl,rfl,rfl⟩,⟨_,rfl,rfl,rfl⟩,trivial⟩,⟨⟨_,_,rfl,rfl,rfl,rfl⟩,⟨_,_,rfl,rfl,rfl,rfl⟩,trivial⟩,by rw [hk]; decide⟩ ?_))))
  · exact ⟨by omega,by rw [hos,show i = (pW t.windows q).length by omega,List.take_length]; simp⟩
  ·intro os5 j hJ
   obtain ⟨hj,ho5⟩ := hJ
   have hol5 : os5.length ≤ 6 := by rw [ho5]; simp; omega
   refine w_seq (w_R (qo hnt rfl (s_lss rfl rfl ?_)))
   refine r_end (q_then (w_seq (w_if rfl (fun c9 => ?_) (fun c9 => ?_))))
   ·try simp only [sB] at c9
    refine w_skip (q_then (w_seq (w_block (w_seq (w_R ?_)))))
    obtain ⟨e3,he3⟩ := get_of_lt (pR t.windows q) (i := j) (by omega)
    refine qo hnt rfl (s_iaM (q := j) (b := e3) (f := ePiece) tab_79 rfl tab_83 rfl rfl (by omega) rfl he3 ?_)
    refine qo hnt rfl (s_load_ro tab_83 rfl rfl rfl ?_)
    refine qo hnt rfl (s_alloc tab_83 ?_)
    refine qo hnt rfl (s_store_ptr tab_83 rfl rfl rfl rfl rfl (Nat.le_of_ble_eq_true rfl) ?_)
    refine r_set [(3,PV.ptr 1 0),(7,PV.ref 0 0 none),(16,PV.ptr 2 0),(136,pS 3 false ePiece (pR t.windows q)),(137,pN ((pR t.windows q).length)),(138,pN j)] [(2,.obj (cPiece e3)),(0,oB true 10 ePart os5),(1,.obj (cRequest q))] 3 ⟨rfl,rfl,rfl,rfl,rfl,rfl,trivial⟩ rfl rfl (r_end (q_then (w_seq (w_R (qo hnt rfl (s_fa_ptr tab_37 rfl rfl tab_3 (by decide) rfl ?_))))))
    refine qo hnt rfl (s_load_ptr1 tab_3 rfl rfl rfl rfl rfl ?_)
    refine qa hnt rfl rfl (r_end (q_then (w_seq (w_seq (w_R ?_)))))
    refine qm hnt rfl rfl (qo hnt rfl (s_eql rfl rfl ?_))
    refine r_end (q_then (w_if rfl (fun c10 => ?_) (fun c10 => ?_)))
    ·try simp only [sB] at c10
     refine w_R (qa hnt rfl rfl (r_end (q_then (w_R (qm hnt rfl rfl ?_)))))
     refine qm hnt rfl rfl (qo hnt rfl (s_load_ptr tab_83 rfl rfl rfl (Nat.le_of_ble_eq_true rfl) ?_))
     refine qo hnt rfl (s_callF rfl rfl rfl (w_part_read 3 e3) rfl ?_)
     refine qo hnt rfl (s_mkM (f := ePart) [rPart 3 e3] tab_45 rfl tab_50 ⟨rfl,by decide⟩ (by decide) rfl rfl rfl rfl ?_)
     refine qo hnt rfl (s_appR0 (f := ePart) (l := os5) (xs := [rPart 3 e3]) tab_45 rfl tab_50 ⟨rfl,by decide,by decide⟩ (srcM tab_45 rfl (hM_ref0 (f := ePart) rfl rfl)) rfl rfl (by (simp; omega)) ?_)
     refine qa hnt rfl rfl (r_set [(3,PV.ptr 1 0),(7,PV.ref 4 0 none),(136,pS 3 false ePiece (pR t.windows q)),(137,pN ((pR t.windows q).length)),(138,pN j)] [(4,oB true 10 ePart (os5 ++ [rPart 3 e3])),(3,oB true 10 ePart [rPart 3 e3]),(2,.obj (cPiece e3)),(1,.obj (cRequest q))] 5 ⟨rfl,rfl,rfl,rfl,rfl,trivial⟩ rfl rfl (r_end (q_block (q_then (w_R ?_)))))
     refine qo hnt rfl (s_addN (a := j) (b := 1) rfl rfl (by omega) (by omega) (by omega) ?_)
     refine qm hnt rfl rfl (r_end (q_then (⟨(os5 ++ [rPart 3 e3]),(j + 1), ?_, ?_,⟨[(0,4),(1,1)],by rw [hk]; decide,⟨⟨_,rfl,rfl,rfl⟩,⟨_,rfl,rfl,rfl⟩,⟨_,rfl,rfl,rfl⟩,⟨_,rfl,rfl,rfl⟩,⟨_,rfl,rfl,rfl⟩,trivial⟩,⟨⟨_,_,rfl,rfl,rfl,rfl⟩,⟨_,_,rfl,rfl,rfl,rfl⟩,trivial⟩,by rw [hk]; decide⟩⟩)))
     ·refine ⟨by omega, ?_⟩
      rw [ho5,List.take_add_one,he3,List.map_append,← List.append_assoc]
      (rw [if_pos (by omega)]; rfl)
     · omega
    try simp only [sB] at c10
    refine w_skip (q_then (w_R (qm hnt rfl rfl (qm hnt rfl rfl (qo hnt rfl (s_load_ptr tab_83 rfl rfl rfl (Nat.le_of_ble_eq_true rfl) ?_))))))
    refine qo hnt rfl (s_callF rfl rfl rfl (w_part_read q.fn e3) rfl ?_)
    refine qo hnt rfl (s_mkM (f := ePart) [rPart q.fn e3] tab_45 rfl tab_50 ⟨rfl,by decide⟩ (by decide) rfl rfl rfl rfl ?_)
    refine qo hnt rfl (s_appR0 (f := ePart) (l := os5) (xs := [rPart q.fn e3]) tab_45 rfl tab_50 ⟨rfl,by decide,by decide⟩ (srcM tab_45 rfl (hM_ref0 (f := ePart) rfl rfl)) rfl rfl (by (simp; omega)) ?_)
    refine qa hnt rfl rfl (r_set [(3,PV.ptr 1 0),(7,PV.ref 4 0 none),(136,pS 3 false ePiece (pR t.windows q)),(137,pN ((pR t.windows q).length)),(138,pN j)] [(4,oB true 10 ePart (os5 ++ [rPart q.fn e3])),(3,oB true 10 ePart [rPart q.fn e3]),(2,.obj (cPiece e3)),(1,.obj (cRequest q))] 5 ⟨rfl,rfl,rfl,rfl,rfl,trivial⟩ rfl rfl (r_end (q_block (q_then (w_R ?_)))))
    refine qo hnt rfl (s_addN (a := j) (b := 1) rfl rfl (by omega) (by omega) (by omega) ?_)
    refine qm hnt rfl rfl (r_end (q_then (⟨(os5 ++ [rPart q.fn e3]),(j + 1), ?_, ?_,⟨[(0,4),(1,1)],by rw [hk]; decide,⟨⟨_,rfl,rfl,rfl⟩,⟨_,rfl,rfl,rfl⟩,⟨_,rfl,rfl,rfl⟩,⟨_,rfl,rfl,rfl⟩,⟨_,rfl,rfl,rfl⟩,trivial⟩,⟨⟨_,_,rfl,rfl,rfl,rfl⟩,⟨_,_,rfl,rfl,rfl,rfl⟩,trivial⟩,by rw [hk]; decide⟩⟩)))
    ·refine ⟨by omega, ?_⟩
     rw [ho5,List.take_add_one,he3,List.map_append,← List.append_assoc]
     (rw [if_neg (by omega)]; rfl)
    · omega
   try simp only [sB] at c9
   refine w_exit (q_then_exit (q_then_exit (q_block_exit (q_then (w_seq ?_)))))
   have hpe : os5 = partsP t.windows q := by rw [ho5,show j = (pR t.windows q).length by omega,List.take_length,parts_no (by omega)]
   refine w_R (qm hnt rfl rfl (qo hnt rfl (s_callX (r2 := pS 10 true ePart os5) (nx1 := 2) (H2 := [(0,oB false 10 ePart os5),(1,.obj (cRequest q))]) (H3 := [(0,oB false 10 ePart os5),(1,.obj (cRequest q))]) [] [] rfl rfl rfl (handed_of (by decide) trivial) rfl rfl rfl rfl rfl rfl (w_slices_Clip_part_Part_part_Part os5 false) rfl (dist_of rfl) rfl rfl rfl rfl ?_)))
   refine qa hnt rfl rfl (qa hnt rfl rfl (r_set [(4,pS 10 true ePart os5),(5,pI 0)] [(0,oB false 10 ePart os5),(1,.obj (cRequest q))] 2 ⟨rfl,rfl,trivial⟩ rfl rfl (r_end (q_then (w_le (s := 4) (y := pS 10 false ePart os5) rfl (le_loose) ?_)))))
   refine w_le (s := 4) (y := pS 10 false ePart S.1) rfl (le_of_eq (congrArg (fun z => pS 10 false ePart z) (show os5 = S.1 by (rw [hS]; exact hpe)))) (w_le (s := 5) (y := pI S.2) rfl (le_of_eq (congrArg pI (show 0 = S.2 by (rw [hS]; done)))) (w_ret ?_))
   exact fin_plain (ret_tmp rfl (ret_tmp rfl ret_nil)) rfl rfl ⟨rfl,rfl,rfl⟩
end Go.Proofs.Ytlcmbkkimgdnmaa
