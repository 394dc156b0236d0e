/- What the law WindowParts needs, and no more: merged out of texts of this session by a program of it (wip/tools/prune.py). -/
import Derived.Test.YtljkbpgcglomfaaQWindowParts2
set_option linter.unusedVariables false
set_option linter.unusedSimpArgs false
set_option maxRecDepth 10000
set_option maxHeartbeats 1000000
namespace Go.Proofs.Ytljkbpgcglomfaa
open Go Go.Proofs.Ytljkbpgcglomfaa.Pv
theorem s_maskZ {P : Program} {tab : Tab} {nx : Nat} {env : Env} {H : Heap} {K : PV → Nat → Heap → Prop} {t u : Nat} {x y : Operand} {ai : Int} {z : Nat} (n : Nat) {bi : Int} (hn : n < 63) (hz : z = (ai % 2 ^ n).toNat) (h1 : ev env x = some (.f (.v (.int .i64 ai)))) (h2 : ev env y = some (.f (.v (.int .i64 bi)))) (hb : bi = 2 ^ n - 1)
    (h : K (pN z) nx H) : stepOp P tab env nx H K (.binOp .and t x y u) := s_maskI n hn h1 h2 hb (by rw [← hz]; exact h)
theorem w_burgagelaw10_windows (t : List Int) (cl_t : Bool) (i : Nat) (ht : t.length ≤ 70000000000000) (hi : i ≤ 1000) :
    T Try.prog 12 [pS 1 cl_t encI t,pN i] 0 [] (fun ra rb rc => ∃ q : List TWindow,(WinsOk q) ∧ (Ret (pS 4 false eWindow q) 0 []) ra rb rc) := by
 refine t_fun tabOk (n := 20) (rs := [.tmp 4]) Try.func12 rfl rfl rfl rfl (Nat.le_of_ble_eq_true rfl) ?_
 intro c hnt hk
 refine w_seq ?_
 refine w_R ?_
 refine qa hnt rfl rfl ?_
 refine r_end ?_
 refine q_then ?_
 refine w_seq ?_
 refine w_R ?_
 refine qm hnt rfl rfl ?_
 refine qo hnt rfl (s_build tab_49 rfl rfl (b_cons rfl tab_24 rfl rfl rfl (Nat.le_of_ble_eq_true rfl) (b_nil ?_)))
 refine qo hnt rfl (s_box rfl rfl ?_)
 refine qo hnt rfl (s_callX2 (p := fun (X1 : TTable) (b1 : Nat) => TabG X1) (r2 := fun X1 b1 => PV.f (eTable X1)) (nx1 := 1) (H2 := [(0,.obj [pS 1 cl_t encI t,pI 0])]) (H3 := fun X1 b1 => [(0,.obj [pS 1 false encI t,pN b1])]) [0] [.obj [pS 1 cl_t encI t,pI 0]] rfl rfl rfl (handed_of (by decide) ⟨rfl,trivial⟩) rfl rfl rfl rfl rfl rfl (w_burgagekeep_Tape_Table t cl_t 0 (by omega)) (fun X1 b1 => rfl) (fun X1 b1 => dist_of rfl) (fun X1 b1 => rfl) (fun X1 b1 => rfl) rfl (fun X1 b1 => rfl) (fun X1 b1 hX1 => ?_))
 refine qo hnt rfl (s_alloc tab_73 ?_)
 refine qo hnt rfl (s_store_ptr tab_73 rfl rfl rfl rfl rfl (Nat.le_of_ble_eq_true rfl) ?_)
 refine r_set [(1,pN i),(5,PV.ptr 1 0)] [(1,.obj (cTable X1)),(0,.obj [pS 1 false encI t,pN b1])] 2 ⟨rfl,rfl,trivial⟩ rfl rfl ?_
 refine r_end ?_
 refine q_then ?_
 refine w_seq ?_
 have hxl := hX1.len
 refine W_drawn tabOk mixed hnt [[],[0],[],[],[3],[3,4],[2,3,4,5],[0,1,2,3,4,5,6],[0,1,2,3,4,5,6,7],[0,1,2,3,4,5,6,7,8],[0,1,2,3,4,5,6,7,8,9]] (by kernel_rfl) ?_
 refine d_op ?_
 refine x_run0 [(5,PV.ptr 1 0)] [] rfl rfl rfl rfl (s_fa_ptr tab_73 rfl rfl tab_71 (by decide) rfl ⟨rfl,rfl,rfl⟩) ?_
 refine d_op ?_
 refine xL [(10,PV.ptr 1 1)] [0] [(1,.obj (cTable X1))] rfl rfl rfl rfl rfl (s_load_ptr1 tab_71 rfl rfl rfl rfl rfl ⟨rfl,rfl,rfl⟩) ⟨rfl,trivial⟩ rfl ?_
 refine d_op ?_
 refine x_run0 [(1,pN i)] [] rfl rfl rfl rfl (s_move rfl ⟨rfl,rfl,rfl⟩) ?_
 refine d_op ?_
 refine x_run0 [(5,PV.ptr 1 0)] [] rfl rfl rfl rfl (s_fa_ptr tab_73 rfl rfl tab_71 (by decide) rfl ⟨rfl,rfl,rfl⟩) ?_
 refine d_op ?_
 refine xL [(13,PV.ptr 1 1)] [3] [(1,.obj (cTable X1))] rfl rfl rfl rfl rfl (s_load_ptr1 tab_71 rfl rfl rfl rfl rfl ⟨rfl,rfl,rfl⟩) ⟨rfl,trivial⟩ rfl ?_
 refine d_op ?_
 refine x_run0 [(14,pS 5 false eTenant X1.tenants)] [3,4] rfl rfl rfl rfl (s_lenM (l := X1.tenants) tab_71 rfl (hM_sl (f := eTenant) rfl) ⟨rfl,rfl,rfl⟩) ?_
 refine d_op ?_
 refine x_run0 [(12,pN i),(15,pN X1.tenants.length)] [2,3,4,5] rfl rfl rfl rfl (s_remN (a := i) (b := X1.tenants.length) rfl rfl (by omega) (by omega) (by omega) ⟨rfl,rfl,rfl⟩) ?_
 refine d_op ?_
 obtain ⟨e1,he1⟩ := get_of_lt X1.tenants (i := i % X1.tenants.length) (by have := Nat.mod_lt i (show 0 < X1.tenants.length by omega); omega)
 refine x_run0 [(11,pS 5 false eTenant X1.tenants),(16,pN (i % X1.tenants.length))] [0,1,2,3,4,5,6] rfl rfl rfl rfl (s_iaM (q := i % X1.tenants.length) (b := e1) (f := eTenant) tab_71 rfl tab_78 rfl rfl (by omega) rfl he1 ⟨rfl,rfl,rfl⟩) ?_
 refine d_op ?_
 refine x_run0 [(17,PV.f (.ro (eTenant e1)))] [0,1,2,3,4,5,6,7] rfl rfl rfl rfl (s_fa_ro tab_78 rfl rfl tab_22 (by decide) rfl (Nat.le_of_ble_eq_true rfl) (by intro _; rfl) ⟨rfl,rfl,rfl⟩) ?_
 refine d_op ?_
 refine x_run0 [(18,PV.f (.ro (FV.sl 4 false (List.map eWindow e1.windows))))] [0,1,2,3,4,5,6,7,8] rfl rfl rfl rfl (s_load_ro1 tab_22 rfl rfl rfl rfl ⟨rfl,rfl,rfl⟩) ?_
 refine d_op ?_
 refine x_run0 [(19,pS 4 false eWindow e1.windows)] [0,1,2,3,4,5,6,7,8,9] rfl rfl rfl rfl (s_assign rfl ⟨rfl,rfl,rfl⟩) ?_
 refine d_end ⟨by kernel_rfl, ?_⟩
 refine q_then ?_
 refine w_ret ?_
 have hex : WinsOk e1.windows := by
   exact hX1.wins _ (List.mem_of_getElem? he1)
 exact fin_plain (ret_tmp rfl ret_nil) rfl rfl ⟨(e1.windows),hex,rfl,rfl,rfl⟩
theorem w_burgagelaw10_known   :
    T Try.prog 15 [] 0 [] (Ret (pB true) 0 []) := by
 refine t_fun tabOk (n := 97) (rs := [.tmp 0]) Try.func15 rfl rfl rfl rfl (Nat.le_of_ble_eq_true rfl) ?_
 intro c hnt hk
 refine w_seq ?_
 refine w_R ?_
 refine qa hnt rfl rfl ?_
 refine r_end ?_
 refine q_then ?_
 refine w_seq ?_
 refine w_R ?_
 refine qo hnt rfl (s_build tab_28 rfl rfl (b_cons rfl tab_3 rfl rfl rfl (Nat.le_of_ble_eq_true rfl) (b_cons rfl tab_3 rfl rfl rfl (Nat.le_of_ble_eq_true rfl) (b_cons rfl tab_3 rfl rfl rfl (Nat.le_of_ble_eq_true rfl) (b_cons rfl tab_3 rfl rfl rfl (Nat.le_of_ble_eq_true rfl) (b_nilN (cs' := [pI 3,pI 0,pI 100,pI 4]) rfl ?_))))))
 refine qo hnt rfl (s_build tab_28 rfl rfl (b_cons rfl tab_3 rfl rfl rfl (Nat.le_of_ble_eq_true rfl) (b_cons rfl tab_3 rfl rfl rfl (Nat.le_of_ble_eq_true rfl) (b_cons rfl tab_3 rfl rfl rfl (Nat.le_of_ble_eq_true rfl) (b_cons rfl tab_3 rfl rfl rfl (Nat.le_of_ble_eq_true rfl) (b_nilN (cs' := [pI 3,pI 4,pI 50,pI 4]) rfl ?_))))))
 refine qo hnt rfl (s_mkM (f := eWindow) [(⟨3,0,100,4⟩ : TWindow),(⟨3,4,50,4⟩ : TWindow)] tab_22 rfl tab_28 ⟨rfl,by decide⟩ (by decide) rfl rfl rfl rfl ?_)
 refine qa hnt rfl rfl ?_
 refine r_set [(1,PV.ref 0 0 none)] [(0,oB true 4 eWindow [(⟨3,0,100,4⟩ : TWindow),(⟨3,4,50,4⟩ : TWindow)])] 1 ⟨rfl,trivial⟩ rfl rfl ?_
 refine r_end ?_
 refine q_then ?_
 refine w_seq ?_
 refine w_H (H' := [(0,oB true 4 eWindow LK)]) (congrArg (fun z => ([(0,oB true 4 eWindow z)] : Heap)) (show [(⟨3,0,100,4⟩ : TWindow),(⟨3,4,50,4⟩ : TWindow)] = LK by rfl)) ?_
 refine w_frzM (s := 1) (f := eWindow) rfl rfl view_0 ?_
 refine w_R ?_
 refine qm hnt rfl rfl ?_
 refine qo hnt rfl (s_callF rfl rfl rfl (w_window_Map LK false 3 2 4 (by decide)) rfl ?_)
 refine qm hnt rfl rfl ?_
 refine qo hnt rfl (s_extract rfl rfl ?_)
 refine qo hnt rfl (s_extract rfl rfl ?_)
 refine qa hnt rfl rfl ?_
 refine qa hnt rfl rfl ?_
 refine r_end ?_
 refine q_then ?_
 refine w_seq ?_
 refine w_R ?_
 refine qm hnt rfl rfl ?_
 refine qo hnt rfl (s_callF rfl rfl rfl (w_window_Map LK false 3 6 4 (by decide)) rfl ?_)
 refine qm hnt rfl rfl ?_
 refine qo hnt rfl (s_extract rfl rfl ?_)
 refine qo hnt rfl (s_extract rfl rfl ?_)
 refine qa hnt rfl rfl ?_
 refine qa hnt rfl rfl ?_
 refine r_end ?_
 refine q_then ?_
 refine w_seq ?_
 refine w_R ?_
 refine qm hnt rfl rfl ?_
 refine qo hnt rfl (s_callF rfl rfl rfl (w_window_Map LK false 2 0 1 (by decide)) rfl ?_)
 refine qm hnt rfl rfl ?_
 refine qo hnt rfl (s_extract rfl rfl ?_)
 refine qo hnt rfl (s_extract rfl rfl ?_)
 refine qa hnt rfl rfl ?_
 refine qa hnt rfl rfl ?_
 refine r_end ?_
 refine q_then ?_
 refine w_seq ?_
 refine w_R ?_
 refine qm hnt rfl rfl ?_
 refine qo hnt rfl (s_callF rfl rfl rfl (w_window_Back LK false 3 51 (by decide) (by omega)) rfl ?_)
 refine qm hnt rfl rfl ?_
 refine qo hnt rfl (s_extract rfl rfl ?_)
 refine qo hnt rfl (s_extract rfl rfl ?_)
 refine qa hnt rfl rfl ?_
 refine qa hnt rfl rfl ?_
 refine r_end ?_
 refine q_then ?_
 refine w_seq ?_
 refine w_R ?_
 refine qm hnt rfl rfl ?_
 refine qo hnt rfl (s_callF rfl rfl rfl (w_window_Back LK false 3 54 (by decide) (by omega)) rfl ?_)
 refine qm hnt rfl rfl ?_
 refine qo hnt rfl (s_extract rfl rfl ?_)
 refine qo hnt rfl (s_extract rfl rfl ?_)
 refine qa hnt rfl rfl ?_
 refine qa hnt rfl rfl ?_
 refine r_set [(1,pS 4 false eWindow LK),(2,pS 3 true ePiece (mapL LK 3 2 4)),(3,pB (mapOk LK 3 2 4)),(5,pB (mapOk LK 3 6 4)),(7,pB (mapOk LK 2 0 1)),(8,pI (backV LK 3 51)),(9,pB (backOk LK 3 51)),(11,pB (backOk LK 3 54))] [(0,oB false 4 eWindow LK)] 1 ⟨rfl,rfl,rfl,rfl,rfl,rfl,rfl,rfl,trivial⟩ rfl rfl ?_
 refine r_end ?_
 refine q_then ?_
 refine w_seq ?_
 refine w_R ?_
 refine qm hnt rfl rfl ?_
 refine qm hnt rfl rfl ?_
 refine r_if tabOk hnt rfl rfl rfl (fun g1 => ?_) (fun g1 => ?_)
 ·
  have g1' := g1
  try simp only [sB] at g1'
  refine qm hnt rfl rfl ?_
  refine ry hnt rfl rfl rfl g1 ?_
  refine qo hnt rfl (s_build tab_36 rfl rfl (b_cons rfl tab_3 rfl rfl rfl (Nat.le_of_ble_eq_true rfl) (b_cons rfl tab_3 rfl rfl rfl (Nat.le_of_ble_eq_true rfl) (b_cons rfl tab_3 rfl rfl rfl (Nat.le_of_ble_eq_true rfl) (b_nilN (cs' := [pI 2,pI 102,pI 2]) rfl ?_)))))
  refine ry hnt rfl rfl rfl g1 ?_
  refine qo hnt rfl (s_build tab_36 rfl rfl (b_cons rfl tab_3 rfl rfl rfl (Nat.le_of_ble_eq_true rfl) (b_cons rfl tab_3 rfl rfl rfl (Nat.le_of_ble_eq_true rfl) (b_cons rfl tab_3 rfl rfl rfl (Nat.le_of_ble_eq_true rfl) (b_nilN (cs' := [pI 4,pI 50,pI 2]) rfl ?_)))))
  refine ry hnt rfl rfl rfl g1 ?_
  refine qo hnt rfl (s_mkM (f := ePiece) [(⟨2,102,2⟩ : TPiece),(⟨4,50,2⟩ : TPiece)] tab_32 rfl tab_36 ⟨rfl,by decide⟩ (by decide) rfl rfl rfl rfl ?_)
  refine ry hnt rfl rfl rfl g1 ?_
  refine qo hnt rfl (s_callX (r2 := pB (decide ((mapL LK 3 2 4) = [(⟨2,102,2⟩ : TPiece),(⟨4,50,2⟩ : TPiece)]))) (nx1 := 2) (H2 := [(1,oB false 3 ePiece [(⟨2,102,2⟩ : TPiece),(⟨4,50,2⟩ : TPiece)]),(0,oB false 4 eWindow LK)]) (H3 := [(1,oB false 3 ePiece [(⟨2,102,2⟩ : TPiece),(⟨4,50,2⟩ : TPiece)]),(0,oB false 4 eWindow LK)]) [] [] rfl rfl rfl (handed_of (by decide) trivial) rfl rfl rfl rfl rfl rfl (w_burgagebook_Same_window_Piece (mapL LK 3 2 4) true [(⟨2,102,2⟩ : TPiece),(⟨4,50,2⟩ : TPiece)] false (by rw [kn_2]; decide)) rfl (dist_of rfl) rfl rfl rfl rfl ?_)
  refine qo hnt rfl (s_pick_t rfl g1 rfl ?_)
  refine qm hnt rfl rfl ?_
  refine r_if tabOk hnt rfl rfl rfl (fun g2 => ?_) (fun g2 => ?_)
  ·
   have g2' := g2
   try simp only [sB] at g2'
   refine qm hnt rfl rfl ?_
   refine ry hnt rfl rfl rfl g2 ?_
   refine qo hnt rfl (s_not rfl ?_)
   refine qo hnt rfl (s_pick_t rfl g2 rfl ?_)
   refine qm hnt rfl rfl ?_
   refine r_if tabOk hnt rfl rfl rfl (fun g3 => ?_) (fun g3 => ?_)
   ·
    have g3' := g3
    try simp only [sB] at g3'
    refine qm hnt rfl rfl ?_
    refine ry hnt rfl rfl rfl g3 ?_
    refine qo hnt rfl (s_not rfl ?_)
    refine qo hnt rfl (s_pick_t rfl g3 rfl ?_)
    refine qm hnt rfl rfl ?_
    refine r_if tabOk hnt rfl rfl rfl (fun g4 => ?_) (fun g4 => ?_)
    ·
     have g4' := g4
     try simp only [sB] at g4'
     refine qm hnt rfl rfl ?_
     refine qo hnt rfl (s_pick_t rfl g4 rfl ?_)
     refine qm hnt rfl rfl ?_
     refine r_if tabOk hnt rfl rfl rfl (fun g5 => ?_) (fun g5 => ?_)
     ·
      have g5' := g5
      try simp only [sB] at g5'
      refine qm hnt rfl rfl ?_
      refine ry hnt rfl rfl rfl g5 ?_
      refine qo hnt rfl (s_eql rfl rfl ?_)
      refine qo hnt rfl (s_pick_t rfl g5 rfl ?_)
      refine qm hnt rfl rfl ?_
      refine r_if tabOk hnt rfl rfl rfl (fun g6 => ?_) (fun g6 => ?_)
      ·
       have g6' := g6
       try simp only [sB] at g6'
       refine qm hnt rfl rfl ?_
       refine ry hnt rfl rfl rfl g6 ?_
       refine qo hnt rfl (s_not rfl ?_)
       refine qo hnt rfl (s_pick_t rfl g6 rfl ?_)
       refine qm hnt rfl rfl ?_
       refine r_if tabOk hnt rfl rfl rfl (fun g7 => ?_) (fun g7 => ?_)
       ·
        have g7' := g7
        try simp only [sB] at g7'
        refine qm hnt rfl rfl ?_
        refine ry hnt rfl rfl rfl g7 ?_
        refine qo hnt rfl (s_callF rfl rfl rfl (w_window_Own LK false (by decide)) rfl ?_)
        refine qo hnt rfl (s_pick_t rfl g7 rfl ?_)
        refine qm hnt rfl rfl ?_
        refine r_if tabOk hnt rfl rfl rfl (fun g8 => ?_) (fun g8 => ?_)
        ·
         have g8' := g8
         try simp only [sB] at g8'
         refine qm hnt rfl rfl ?_
         refine ry hnt rfl rfl rfl g8 ?_
         refine qm hnt rfl rfl ?_
         refine ry hnt rfl rfl rfl g8 ?_
         refine qo hnt rfl (s_callF rfl rfl rfl (w_window_Meets LK false LK false (by decide) (by decide)) rfl ?_)
         refine qo hnt rfl (s_pick_t rfl g8 rfl ?_)
         refine qm hnt rfl rfl ?_
         refine r_if tabOk hnt rfl rfl rfl (fun g9 => ?_) (fun g9 => ?_)
         ·
          have g9' := g9
          try simp only [sB] at g9'
          refine qm hnt rfl rfl ?_
          refine ry hnt rfl rfl rfl g9 ?_
          refine qo hnt rfl (s_callF rfl rfl rfl (T.leL (args := [pS 4 false eWindow LK,pNil]) (args' := [pS 4 false eWindow LK,pS 4 false eWindow []]) ⟨le_refl _,⟨le_F (FLe.nil 4 false),trivial⟩⟩ (w_window_Meets LK false [] false (by decide) (by decide))) rfl ?_)
          refine ry hnt rfl rfl rfl g9 ?_
          refine qo hnt rfl (s_not rfl ?_)
          refine qo hnt rfl (s_pick_t rfl g9 rfl ?_)
          refine qm hnt rfl rfl ?_
          refine r_if tabOk hnt rfl rfl rfl (fun g10 => ?_) (fun g10 => ?_)
          ·
           have g10' := g10
           try simp only [sB] at g10'
           refine qm hnt rfl rfl ?_
           refine ry hnt rfl rfl rfl g10 ?_
           obtain ⟨e1,he1⟩ := get_of_lt LK (i := 0) (by decide)
           refine qo hnt rfl (s_iaM (q := 0) (b := e1) (f := eWindow) tab_22 rfl tab_28 rfl rfl (by omega) rfl he1 ?_)
           refine ry hnt rfl rfl rfl g10 ?_
           refine qo hnt rfl (s_load_ro tab_28 rfl rfl rfl ?_)
           refine ry hnt rfl rfl rfl g10 ?_
           refine qo hnt rfl (s_callF rfl rfl rfl (w_window_Right e1) rfl ?_)
           refine qo hnt rfl (s_pick_t rfl g10 rfl ?_)
           refine qm hnt rfl rfl ?_
           refine r_if tabOk hnt rfl rfl rfl (fun g11 => ?_) (fun g11 => ?_)
           ·
            have g11' := g11
            try simp only [sB] at g11'
            refine qo hnt rfl (s_build tab_28 rfl rfl (b_cons rfl tab_3 rfl rfl rfl (Nat.le_of_ble_eq_true rfl) (b_cons rfl tab_3 rfl rfl rfl (Nat.le_of_ble_eq_true rfl) (b_nil ?_))))
            refine ry hnt rfl rfl rfl g11 ?_
            refine qo hnt rfl (s_callF rfl rfl rfl (w_window_Right (⟨4,0,0,1⟩ : TWindow)) rfl ?_)
            refine ry hnt rfl rfl rfl g11 ?_
            refine qo hnt rfl (s_not rfl ?_)
            refine qo hnt rfl (s_pick_t rfl g11 rfl ?_)
            refine qm hnt rfl rfl ?_
            refine r_if tabOk hnt rfl rfl rfl (fun g12 => ?_) (fun g12 => ?_)
            ·
             have g12' := g12
             try simp only [sB] at g12'
             refine qo hnt rfl (s_build tab_28 rfl rfl (b_cons rfl tab_3 rfl rfl rfl (Nat.le_of_ble_eq_true rfl) (b_cons rfl tab_3 rfl rfl rfl (Nat.le_of_ble_eq_true rfl) (b_nil ?_))))
             refine ry hnt rfl rfl rfl g12 ?_
             refine qo hnt rfl (s_callF rfl rfl rfl (w_window_Right (⟨0,0,511,2⟩ : TWindow)) rfl ?_)
             refine ry hnt rfl rfl rfl g12 ?_
             refine qo hnt rfl (s_not rfl ?_)
             refine qo hnt rfl (s_pick_t rfl g12 rfl ?_)
             refine qa hnt rfl rfl ?_
             refine r_set [(0,pB (!(winR (⟨0,0,511,2⟩ : TWindow))))] [(1,oB false 3 ePiece [(⟨2,102,2⟩ : TPiece),(⟨4,50,2⟩ : TPiece)]),(0,oB false 4 eWindow LK)] 2 ⟨rfl,trivial⟩ rfl rfl ?_
             refine r_end ?_
             refine q_then ?_
             refine w_le (s := 0) (y := pB true) rfl (le_of_eq (congrArg (fun z : Bool => pB z) (show (!(winR (⟨0,0,511,2⟩ : TWindow))) = true by decide))) ?_
             refine w_ret ?_
             exact fin_plain (ret_tmp rfl ret_nil) rfl rfl ⟨rfl,rfl,rfl⟩
            exact absurd g12 (by decide)
           exact absurd g11 (by (have h9 : (⟨3,0,100,4⟩ : TWindow) = e1 := Option.some.inj he1; subst h9; decide))
          exact absurd g10 (by decide)
         exact absurd g9 (by decide)
        exact absurd g8 (by decide)
       exact absurd g7 (by decide)
      exact absurd g6 (by decide)
     exact absurd g5 (by decide)
    exact absurd g4 (by (rw [kn_4]; decide))
   exact absurd g3 (by (rw [kn_3]; decide))
  exact absurd g2 (by (rw [kn_2]; decide))
 exact absurd g1 (by (rw [kn_1]; decide))
theorem w_burgagelaw10_WindowParts (t : List Int) (cl_t : Bool) (i : Int) (space : Int) (at0 : Int) (n : Int) (ht : t.length ≤ 70000000000000) (hi : -9223372036854775808 ≤ i ∧ i ≤ 9223372036854775807) (hn : -9223372036854775808 ≤ n ∧ n ≤ 9223372036854775807) :
    T Try.prog 6 [pS 1 cl_t encI t,pI i,pI space,pI at0,pI n] 0 [] (Ret (pB true) 0 []) := by
 refine t_fun tabOk (n := 117) (rs := [.tmp 10]) Try.func6 rfl rfl rfl rfl (Nat.le_of_ble_eq_true rfl) ?_
 intro c hnt hk
 refine w_seq ?_
 refine w_R ?_
 refine qa hnt rfl rfl ?_
 refine r_end ?_
 refine q_then ?_
 refine w_seq ?_
 refine w_R ?_
 refine qm hnt rfl rfl ?_
 refine qm hnt rfl rfl ?_
 obtain ⟨mk1,hmk1⟩ : ∃ z : Nat,z = (i % 2 ^ 2).toNat := ⟨_,rfl⟩
 have lmk1 : mk1 < 4 := by omega
 refine qo hnt rfl (s_maskZ 2 (by decide) hmk1 rfl rfl (by decide) ?_)
 refine qo hnt rfl (s_callX1 (p := fun (q1 : List TWindow) => WinsOk q1) (r2 := fun q1 => pS 4 false eWindow q1) (nx1 := 0) (H2 := []) (H3 := fun q1 => []) [] [] rfl rfl rfl (handed_of (by decide) trivial) rfl rfl rfl rfl rfl rfl (w_burgagelaw10_windows t cl_t mk1 (by omega) (by omega)) (fun q1 => rfl) (fun q1 => dist_of rfl) (fun q1 => rfl) (fun q1 => rfl) rfl (fun q1 => rfl) (fun q1 hq1 => ?_))
 refine qa hnt rfl rfl ?_
 refine r_end ?_
 refine q_then ?_
 refine w_seq ?_
 have hl1 := hq1.len
 refine w_R ?_
 refine qm hnt rfl rfl ?_
 obtain ⟨mk2,hmk2⟩ : ∃ z : Nat,z = (space % 2 ^ 2).toNat := ⟨_,rfl⟩
 have lmk2 : mk2 < 4 := by omega
 refine qo hnt rfl (s_maskZ 2 (by decide) hmk2 rfl rfl (by decide) ?_)
 refine qm hnt rfl rfl ?_
 obtain ⟨mk3,hmk3⟩ : ∃ z : Nat,z = (at0 % 2 ^ 6).toNat := ⟨_,rfl⟩
 have lmk3 : mk3 < 64 := by omega
 refine qo hnt rfl (s_maskZ 6 (by decide) hmk3 rfl rfl (by decide) ?_)
 refine qm hnt rfl rfl ?_
 obtain ⟨mk4,hmk4⟩ : ∃ z : Nat,z = (n % 2 ^ 5).toNat := ⟨_,rfl⟩
 have lmk4 : mk4 < 32 := by omega
 refine qo hnt rfl (s_maskZ 5 (by decide) hmk4 rfl rfl (by decide) ?_)
 refine qo hnt rfl (s_addN (a := 1) (b := mk4) rfl rfl (by omega) (by omega) (by omega) ?_)
 refine qa hnt rfl rfl ?_
 refine qa hnt rfl rfl ?_
 refine qa hnt rfl rfl ?_
 refine r_end ?_
 refine q_then ?_
 refine w_seq ?_
 obtain ⟨sk,hsk⟩ : ∃ z : Nat,z = mk2 := ⟨_,rfl⟩
 refine w_eq (s := 12) (y := pN sk) rfl (congrArg (fun z : Nat => pN z) (show mk2 = sk by exact hsk.symm)) ?_
 obtain ⟨ak,hak⟩ : ∃ z : Nat,z = mk3 := ⟨_,rfl⟩
 refine w_eq (s := 13) (y := pN ak) rfl (congrArg (fun z : Nat => pN z) (show mk3 = ak by exact hak.symm)) ?_
 obtain ⟨nk,hnk⟩ : ∃ z : Nat,z = 1 + mk4 := ⟨_,rfl⟩
 refine w_eq (s := 14) (y := pN nk) rfl (congrArg (fun z : Nat => pN z) (show (1 + mk4) = nk by exact hnk.symm)) ?_
 have hsk : sk ≤ 3 := by omega
 have hak : ak ≤ 63 := by omega
 have hnk : 1 ≤ nk ∧ nk ≤ 32 := by omega
 refine w_R ?_
 refine qm hnt rfl rfl ?_
 refine qm hnt rfl rfl ?_
 refine qm hnt rfl rfl ?_
 refine qm hnt rfl rfl ?_
 refine qo hnt rfl (s_callF rfl rfl rfl (w_window_Map q1 false ((sk : Nat) : Int) ((ak : Nat) : Int) ((nk : Nat) : Int) (by omega)) rfl ?_)
 refine qm hnt rfl rfl ?_
 refine qo hnt rfl (s_extract rfl rfl ?_)
 refine qo hnt rfl (s_extract rfl rfl ?_)
 refine qa hnt rfl rfl ?_
 refine qa hnt rfl rfl ?_
 refine r_set [(11,pS 4 false eWindow q1),(12,pN sk),(13,pN ak),(14,pN nk),(15,pS 3 true ePiece (mapL q1 ((sk : Nat) : Int) ((ak : Nat) : Int) ((nk : Nat) : Int))),(16,pB (mapOk q1 ((sk : Nat) : Int) ((ak : Nat) : Int) ((nk : Nat) : Int)))] [] 0 ⟨rfl,rfl,rfl,rfl,rfl,rfl,trivial⟩ rfl rfl ?_
 refine r_end ?_
 refine q_then ?_
 refine w_seq ?_
 have hml : (mapL q1 (sk : Int) (ak : Int) (nk : Int)).length ≤ 2147483648 := by unfold mapL; rw [List.length_map]; exact covW_len _ _ _ _
 refine w_R ?_
 refine qa hnt rfl rfl ?_
 refine r_end ?_
 refine q_then ?_
 refine w_seq ?_
 refine w_seq ?_
 refine w_R ?_
 refine qm hnt rfl rfl ?_
 refine qa hnt rfl rfl ?_
 refine r_end ?_
 refine q_then ?_
 refine w_block ?_
 refine loop2 (fun (kk : Nat) (cc : Nat) => ak ≤ cc ∧ cc ≤ ak + nk ∧ kk ≤ cc - ak ∧ (kk = cc - ak ↔ ∀ c : Int,((ak : Nat) : Int) ≤ c → c < ((cc : Nat) : Int) → mapOk q1 (sk : Int) c 1 = true)) (fun (kk : Nat) (cc : Nat) => [(11,pS 4 false eWindow q1),(12,pN sk),(13,pN ak),(14,pN nk),(15,pS 3 true ePiece (mapL q1 ((sk : Nat) : Int) ((ak : Nat) : Int) ((nk : Nat) : Int))),(16,pB (mapOk q1 ((sk : Nat) : Int) ((ak : Nat) : Int) ((nk : Nat) : Int))),(17,pN kk),(18,pN cc)]) 0 (fun (kk : Nat) (cc : Nat) => []) (fun (kk : Nat) (cc : Nat) => ak + nk - cc) (0) (ak) ?_ ⟨[],rfl,⟨⟨_,rfl,rfl,rfl⟩,⟨_,rfl,rfl,rfl⟩,⟨_,rfl,rfl,rfl⟩,⟨_,rfl,rfl,rfl⟩,⟨_,rfl,rfl,rfl⟩,⟨_,rfl,rfl,rfl⟩,⟨_,rfl,rfl,rfl⟩,⟨_,rfl,rfl,rfl⟩,trivial⟩,trivial,by rw [hk]; decide⟩ ?_
 · exact ⟨by omega,by omega,by omega,by constructor; intro _ c h1 h2; omega; intro _; omega⟩
 ·
  intro kk cc hI
  obtain ⟨hc1,hc2,hkk,hall⟩ := hI
  refine w_seq ?_
  refine w_seq ?_
  refine w_R ?_
  refine qm hnt rfl rfl ?_
  refine qm hnt rfl rfl ?_
  refine qm hnt rfl rfl ?_
  refine qo hnt rfl (s_addN (a := ak) (b := nk) rfl rfl (by omega) (by omega) (by omega) ?_)
  refine qo hnt rfl (s_lss rfl rfl ?_)
  refine r_end ?_
  refine q_then ?_
  refine w_if rfl (fun c1 => ?_) (fun c1 => ?_)
  ·
   have c1_ := c1
   try simp only [sB] at c1
   refine w_skip ?_
   refine q_then ?_
   refine w_seq ?_
   refine w_block ?_
   refine w_seq ?_
   refine w_R ?_
   refine qm hnt rfl rfl ?_
   refine qm hnt rfl rfl ?_
   refine qm hnt rfl rfl ?_
   refine qo hnt rfl (s_callF rfl rfl rfl (w_window_Map q1 false ((sk : Nat) : Int) ((cc : Nat) : Int) 1 (by omega)) rfl ?_)
   refine qm hnt rfl rfl ?_
   refine qo hnt rfl (s_extract rfl rfl ?_)
   refine qo hnt rfl (s_extract rfl rfl ?_)
   refine qa hnt rfl rfl ?_
   refine qa hnt rfl rfl ?_
   refine r_end ?_
   refine q_then ?_
   refine w_seq ?_
   refine w_seq ?_
   refine w_R ?_
   refine qm hnt rfl rfl ?_
   refine qo hnt rfl (s_not rfl ?_)
   refine r_end ?_
   refine q_then ?_
   refine w_if rfl (fun c2 => ?_) (fun c2 => ?_)
   ·
    have c2_ := c2
    try simp only [sB] at c2
    refine w_exit ?_
    refine q_then_exit ?_
    refine q_block_exit ?_
    refine q_then ?_
    refine w_R ?_
    refine qm hnt rfl rfl ?_
    refine qo hnt rfl (s_addN (a := cc) (b := 1) rfl rfl (by omega) (by omega) (by omega) ?_)
    refine qa hnt rfl rfl ?_
    refine r_end ?_
    refine q_then ?_
    refine ⟨(kk),(cc + 1), ?_, ?_,⟨[],rfl,⟨⟨_,rfl,rfl,rfl⟩,⟨_,rfl,rfl,rfl⟩,⟨_,rfl,rfl,rfl⟩,⟨_,rfl,rfl,rfl⟩,⟨_,rfl,rfl,rfl⟩,⟨_,rfl,rfl,rfl⟩,⟨_,rfl,rfl,rfl⟩,⟨_,rfl,rfl,rfl⟩,trivial⟩,trivial,by rw [hk]; decide⟩⟩
    ·
     exact ⟨by omega,by omega,by omega,cnt_no hc1 hkk (by simpa using c2_)⟩
    · omega
   have c2_ := c2
   try simp only [sB] at c2
   refine w_skip ?_
   refine q_then ?_
   refine w_seq ?_
   obtain ⟨w1,hw1⟩ := (mapOk_one (l := q1) (s := (sk : Int)) (c := ((cc : Nat) : Int)) (by omega)).1 (by simpa using c2_)
   have hone := hq1.map_one (s := (sk : Int)) (c := ((cc : Nat) : Int)) (by omega) hw1
   obtain ⟨ph,hph⟩ : ∃ z : Int,z = w1.physical + ((cc : Nat) : Int) - w1.virtual := ⟨_,rfl⟩
   rw [← hph] at hone
   refine w_eq (s := 19) (y := pS 3 true ePiece [(⟨((cc : Nat) : Int),ph,1⟩ : TPiece)]) rfl (congrArg (fun z => pS 3 true ePiece z) (show (mapL q1 ((sk : Nat) : Int) ((cc : Nat) : Int) 1) = [(⟨((cc : Nat) : Int),ph,1⟩ : TPiece)] by exact hone)) ?_
   refine w_R ?_
   refine qm hnt rfl rfl ?_
   refine qo hnt rfl (s_addN (a := kk) (b := 1) rfl rfl (by omega) (by omega) (by omega) ?_)
   refine qa hnt rfl rfl ?_
   refine r_end ?_
   refine q_then ?_
   refine w_seq ?_
   refine w_R ?_
   refine qa hnt rfl rfl ?_
   refine r_end ?_
   refine q_then ?_
   refine w_seq ?_
   refine w_seq ?_
   refine w_R ?_
   refine qm hnt rfl rfl ?_
   refine qo hnt rfl (s_lenM (l := mapL q1 ((sk : Nat) : Int) ((ak : Nat) : Int) ((nk : Nat) : Int)) tab_32 rfl (hM_sl (f := ePiece) rfl) ?_)
   refine qm hnt rfl rfl ?_
   refine r_end ?_
   refine q_then ?_
   refine w_block ?_
   refine loop2 (fun (sm : Bool) (j : Nat) => j ≤ (mapL q1 (sk : Int) (ak : Int) (nk : Int)).length ∧ ∀ q x,q < j → (mapL q1 (sk : Int) (ak : Int) (nk : Int))[q]? = some x → PQ ph ((cc : Nat) : Int) x → sm = true) (fun (sm : Bool) (j : Nat) => [(11,pS 4 false eWindow q1),(12,pN sk),(13,pN ak),(14,pN nk),(15,pS 3 true ePiece (mapL q1 ((sk : Nat) : Int) ((ak : Nat) : Int) ((nk : Nat) : Int))),(16,pB (mapOk q1 ((sk : Nat) : Int) ((ak : Nat) : Int) ((nk : Nat) : Int))),(17,pN (kk + 1)),(18,pN cc),(19,pS 3 true ePiece [(⟨((cc : Nat) : Int),ph,1⟩ : TPiece)]),(21,pB sm),(62,pS 3 true ePiece (mapL q1 ((sk : Nat) : Int) ((ak : Nat) : Int) ((nk : Nat) : Int))),(63,pN ((mapL q1 ((sk : Nat) : Int) ((ak : Nat) : Int) ((nk : Nat) : Int)).length)),(64,pN j)]) 0 (fun (sm : Bool) (j : Nat) => []) (fun (sm : Bool) (j : Nat) => (mapL q1 (sk : Int) (ak : Int) (nk : Int)).length - j) (false) (0) ?_ ⟨[],rfl,⟨⟨_,rfl,rfl,rfl⟩,⟨_,rfl,rfl,rfl⟩,⟨_,rfl,rfl,rfl⟩,⟨_,rfl,rfl,rfl⟩,⟨_,rfl,rfl,rfl⟩,⟨_,rfl,rfl,rfl⟩,⟨_,rfl,rfl,rfl⟩,⟨_,rfl,rfl,rfl⟩,⟨_,rfl,rfl,rfl⟩,⟨_,rfl,rfl,rfl⟩,⟨_,rfl,rfl,rfl⟩,⟨_,rfl,rfl,rfl⟩,⟨_,rfl,rfl,rfl⟩,trivial⟩,trivial,by rw [hk]; decide⟩ ?_
   · exact ⟨by omega,fun q x hq => by omega⟩
   ·
    intro sm j hJ
    obtain ⟨hj,hsm⟩ := hJ
    refine w_seq ?_
    refine w_R ?_
    refine qo hnt rfl (s_lss rfl rfl ?_)
    refine r_end ?_
    refine q_then ?_
    refine w_seq ?_
    refine w_if rfl (fun c3 => ?_) (fun c3 => ?_)
    ·
     have c3_ := c3
     try simp only [sB] at c3
     refine w_skip ?_
     refine q_then ?_
     refine w_seq ?_
     refine w_block ?_
     refine w_seq ?_
     refine w_R ?_
     obtain ⟨e1,he1⟩ := get_of_lt (mapL q1 ((sk : Nat) : Int) ((ak : Nat) : Int) ((nk : Nat) : Int)) (i := j) (by omega)
     refine qo hnt rfl (s_iaM (q := j) (b := e1) (f := ePiece) tab_32 rfl tab_36 rfl rfl (by omega) rfl he1 ?_)
     refine qo hnt rfl (s_load_ro tab_36 rfl rfl rfl ?_)
     refine qo hnt rfl (s_alloc tab_36 ?_)
     refine qo hnt rfl (s_store_ptr tab_36 rfl rfl rfl rfl rfl (Nat.le_of_ble_eq_true rfl) ?_)
     refine r_set [(11,pS 4 false eWindow q1),(12,pN sk),(13,pN ak),(14,pN nk),(15,pS 3 true ePiece (mapL q1 ((sk : Nat) : Int) ((ak : Nat) : Int) ((nk : Nat) : Int))),(16,pB (mapOk q1 ((sk : Nat) : Int) ((ak : Nat) : Int) ((nk : Nat) : Int))),(17,pN (kk + 1)),(18,pN cc),(19,pS 3 true ePiece [(⟨((cc : Nat) : Int),ph,1⟩ : TPiece)]),(21,pB sm),(23,PV.ptr 0 0),(62,pS 3 true ePiece (mapL q1 ((sk : Nat) : Int) ((ak : Nat) : Int) ((nk : Nat) : Int))),(63,pN ((mapL q1 ((sk : Nat) : Int) ((ak : Nat) : Int) ((nk : Nat) : Int)).length)),(64,pN j)] [(0,.obj (cPiece e1))] 1 ⟨rfl,rfl,rfl,rfl,rfl,rfl,rfl,rfl,rfl,rfl,rfl,rfl,rfl,rfl,trivial⟩ rfl rfl ?_
     refine r_end ?_
     refine q_then ?_
     have hbd := mapL_bd (List.mem_of_getElem? he1)
     refine W_drawn tabOk mixed hnt [[],[0],[0,1],[0,1],[0,1,3],[0,1,2,3,4],[0,1,2,3,4,5],[0,1,2,3,4,5,6],[0,1,2,3,4,5,6],[0,1,2,3,4,5,6,8],[0,1,2,3,4,5,6],[0,1,2,3,4,5,6,10],[0,1,2,3,4,5,6,8,9,10,11],[0,1,2,3,4,5,6,7,8,9,10,11,12],[0,1,2,3,4,5,6,7,8,9,10,11,12,13],[0,1,2,3,4,5,6,7,8,9,10,11,12,13,14],[0,1,2,3,4,5,6,7,8,9,10,11,12,13,14,15],[0,1,2,3,4,5,6,7,8,9,10,11,12,13,14,15,16],[0,1,2,3,4,5,6,7,8,9,10,11,12,13,14,15,16,17],[0,1,2,3,4,5,6,7,8,9,10,11,12,13,14,15,16,17,18],[0,1,2,3,4,5,6,7,8,9,10,11,12,13,14,15,16,17,18,19],[0,1,2,3,4,5,6,7,8,9,10,11,12,13,14,15,16,17,18,19,20],[0,1,2,3,4,5,6,7,8,9,10,11,12,13,14,15,16,17,18,19,20,21],[0,1,2,3,4,5,6,7,8,9,10,11,12,13,14,15,16,17,18,19,20,21,22],[0,1,2,3,4,5,6,7,8,9,10,11,12,13,14,15,16,17,18,19,20,21,22,23],[0,1,2,3,4,5,6,7,8,9,10,11,12,13,14,15,16,17,18,19,20],[0,1,2,3,4,5,6,7,8,9,10,11,12,13,14,15,16,17,18,19,20,25],[0,1,2,3,4,5,6,7,8,9,10,11,12,13,14,15,16,17,18,19,20],[0,1,2,3,4,5,6,7,8,9,10,11,12,13,14,15,16,17,18,19,20,25,26,27],[0,1,2,3,4,5,6,7,8,9,10,11,12,13,14,15,16,17,18,19,20],[0,1,2,3,4,5,6,7,8,9,10,11,12,13,14,15,16,17,18,19,20,29],[0,1,2,3,4,5,6,7,8,9,10,11,12,13,14,15,16,17,18,19,20,25,26,27,28,29,30],[0,1,2,3,4,5,6,7,8,9,10,11,12,13,14,15,16,17,18,19,20,21,22,23,24,25,26,27,28,29,30,31],[0,1,2,3,4,5,6,7,8,9,10,11,12,13,14,15,16,17,18,19,20,21,22,23,24,25,26,27,28,29,30,31,32],[0,1,2,3,4,5,6,7,8,9,10,11,12,13,14,15,16,17,18,19,20,21,22,23,24,25,26,27,28,29,30,31,32,33],[0,1,2,3,4,5,6,7,8,9,10,11,12,13,14,15,16,17,18,19,20,21,22,23,24,25,26,27,28,29,30,31,32,33,34]] (by kernel_rfl) ?_
     refine d_op ?_
     refine x_run0 [(21,pB sm)] [] rfl rfl rfl rfl (s_move rfl ⟨rfl,rfl,rfl⟩) ?_
     refine d_op ?_
     refine x_run0 [(68,pB sm)] [0] rfl rfl rfl rfl (s_move rfl ⟨rfl,rfl,rfl⟩) ?_
     refine x_if [(69,pB sm),(18,pN cc)] [0,1] rfl rfl rfl rfl (fun g1 => ?_) (fun g1 => ?_)
     ·
      have g1' := g1
      try simp only [sB] at g1'
      refine x_run0 [(69,pB sm),(18,pN cc)] [0,1] rfl rfl rfl rfl (s_move rfl ⟨rfl,rfl,rfl⟩) ?_
      refine xy [(69,pB sm),(23,PV.ptr 0 0)] [0,1] rfl rfl rfl rfl g1 ?_
      refine x_run0 [(69,pB sm),(23,PV.ptr 0 0)] [0,1] rfl rfl rfl rfl (s_fa_ptr tab_36 rfl rfl tab_3 (by decide) rfl ⟨rfl,rfl,rfl⟩) ?_
      refine xy [(69,pB sm),(71,PV.ptr 0 0)] [0,1,3] rfl rfl rfl rfl g1 ?_
      refine xL [(69,pB sm),(71,PV.ptr 0 0)] [0,1,3] [(0,.obj (cPiece e1))] rfl rfl rfl rfl rfl (s_load_ptr1 tab_3 rfl rfl rfl rfl rfl ⟨rfl,rfl,rfl⟩) ⟨rfl,trivial⟩ rfl ?_
      refine xy [(69,pB sm),(70,pN cc),(72,pI e1.at_)] [0,1,2,3,4] rfl rfl rfl rfl g1 ?_
      refine x_run0 [(69,pB sm),(70,pN cc),(72,pI e1.at_)] [0,1,2,3,4] rfl rfl rfl rfl (s_geq rfl rfl ⟨rfl,rfl,rfl⟩) ?_
      refine xy [(69,pB sm),(73,pB (decide (e1.at_ ≤ ((cc : Nat) : Int))))] [0,1,2,3,4,5] rfl rfl rfl rfl g1 ?_
      refine x_run0 [(69,pB sm),(73,pB (decide (e1.at_ ≤ ((cc : Nat) : Int))))] [0,1,2,3,4,5] rfl rfl rfl rfl (s_move rfl ⟨rfl,rfl,rfl⟩) ?_
      refine x_if [(74,pB (decide (e1.at_ ≤ ((cc : Nat) : Int)))),(18,pN cc)] [0,1,2,3,4,5,6] rfl rfl rfl rfl (fun g2 => ?_) (fun g2 => ?_)
      ·
       have g2' := g2
       try simp only [sB] at g2'
       refine x_run0 [(74,pB (decide (e1.at_ ≤ ((cc : Nat) : Int)))),(18,pN cc)] [0,1,2,3,4,5,6] rfl rfl rfl rfl (s_move rfl ⟨rfl,rfl,rfl⟩) ?_
       refine xy [(74,pB (decide (e1.at_ ≤ ((cc : Nat) : Int)))),(23,PV.ptr 0 0)] [0,1,2,3,4,5,6] rfl rfl rfl rfl g2 ?_
       refine x_run0 [(74,pB (decide (e1.at_ ≤ ((cc : Nat) : Int)))),(23,PV.ptr 0 0)] [0,1,2,3,4,5,6] rfl rfl rfl rfl (s_fa_ptr tab_36 rfl rfl tab_3 (by decide) rfl ⟨rfl,rfl,rfl⟩) ?_
       refine xy [(74,pB (decide (e1.at_ ≤ ((cc : Nat) : Int)))),(76,PV.ptr 0 0)] [0,1,2,3,4,5,6,8] rfl rfl rfl rfl g2 ?_
       refine xL [(74,pB (decide (e1.at_ ≤ ((cc : Nat) : Int)))),(76,PV.ptr 0 0)] [0,1,2,3,4,5,6,8] [(0,.obj (cPiece e1))] rfl rfl rfl rfl rfl (s_load_ptr1 tab_3 rfl rfl rfl rfl rfl ⟨rfl,rfl,rfl⟩) ⟨rfl,trivial⟩ rfl ?_
       refine xy [(74,pB (decide (e1.at_ ≤ ((cc : Nat) : Int)))),(23,PV.ptr 0 0)] [0,1,2,3,4,5,6] rfl rfl rfl rfl g2 ?_
       refine x_run0 [(74,pB (decide (e1.at_ ≤ ((cc : Nat) : Int)))),(23,PV.ptr 0 0)] [0,1,2,3,4,5,6] rfl rfl rfl rfl (s_fa_ptr tab_36 rfl rfl tab_3 (by decide) rfl ⟨rfl,rfl,rfl⟩) ?_
       refine xy [(74,pB (decide (e1.at_ ≤ ((cc : Nat) : Int)))),(78,PV.ptr 0 2)] [0,1,2,3,4,5,6,10] rfl rfl rfl rfl g2 ?_
       refine xL [(74,pB (decide (e1.at_ ≤ ((cc : Nat) : Int)))),(78,PV.ptr 0 2)] [0,1,2,3,4,5,6,10] [(0,.obj (cPiece e1))] rfl rfl rfl rfl rfl (s_load_ptr1 tab_3 rfl rfl rfl rfl rfl ⟨rfl,rfl,rfl⟩) ⟨rfl,trivial⟩ rfl ?_
       refine xy [(74,pB (decide (e1.at_ ≤ ((cc : Nat) : Int)))),(77,pI e1.at_),(79,pI e1.count)] [0,1,2,3,4,5,6,8,9,10,11] rfl rfl rfl rfl g2 ?_
       refine x_run0 [(74,pB (decide (e1.at_ ≤ ((cc : Nat) : Int)))),(77,pI e1.at_),(79,pI e1.count)] [0,1,2,3,4,5,6,8,9,10,11] rfl rfl rfl rfl (s_addi (r := e1.at_ + e1.count) rfl rfl rfl (by omega) ⟨rfl,rfl,rfl⟩) ?_
       refine xy [(74,pB (decide (e1.at_ ≤ ((cc : Nat) : Int)))),(75,pN cc),(80,pI (e1.at_ + e1.count))] [0,1,2,3,4,5,6,7,8,9,10,11,12] rfl rfl rfl rfl g2 ?_
       refine x_run0 [(74,pB (decide (e1.at_ ≤ ((cc : Nat) : Int)))),(75,pN cc),(80,pI (e1.at_ + e1.count))] [0,1,2,3,4,5,6,7,8,9,10,11,12] rfl rfl rfl rfl (s_lss rfl rfl ⟨rfl,rfl,rfl⟩) ?_
       refine xy [(69,pB sm),(74,pB (decide (e1.at_ ≤ ((cc : Nat) : Int)))),(81,pB (decide (((cc : Nat) : Int) < e1.at_ + e1.count)))] [0,1,2,3,4,5,6,7,8,9,10,11,12,13] rfl rfl rfl rfl g1 ?_
       refine x_run0 [(69,pB sm),(74,pB (decide (e1.at_ ≤ ((cc : Nat) : Int)))),(81,pB (decide (((cc : Nat) : Int) < e1.at_ + e1.count)))] [0,1,2,3,4,5,6,7,8,9,10,11,12,13] rfl rfl rfl rfl (s_pick_t rfl g2 rfl ⟨rfl,rfl,rfl⟩) ?_
       refine xy [(69,pB sm),(82,pB (decide (((cc : Nat) : Int) < e1.at_ + e1.count)))] [0,1,2,3,4,5,6,7,8,9,10,11,12,13,14] rfl rfl rfl rfl g1 ?_
       refine x_run0 [(69,pB sm),(82,pB (decide (((cc : Nat) : Int) < e1.at_ + e1.count)))] [0,1,2,3,4,5,6,7,8,9,10,11,12,13,14] rfl rfl rfl rfl (s_move rfl ⟨rfl,rfl,rfl⟩) ?_
       refine x_if [(83,pB (decide (((cc : Nat) : Int) < e1.at_ + e1.count))),(19,pS 3 true ePiece [(⟨((cc : Nat) : Int),ph,1⟩ : TPiece)])] [0,1,2,3,4,5,6,7,8,9,10,11,12,13,14,15] rfl rfl rfl rfl (fun g3 => ?_) (fun g3 => ?_)
       ·
        have g3' := g3
        try simp only [sB] at g3'
        refine x_run0 [(83,pB (decide (((cc : Nat) : Int) < e1.at_ + e1.count))),(19,pS 3 true ePiece [(⟨((cc : Nat) : Int),ph,1⟩ : TPiece)])] [0,1,2,3,4,5,6,7,8,9,10,11,12,13,14,15] rfl rfl rfl rfl (s_move rfl ⟨rfl,rfl,rfl⟩) ?_
        refine xy [(83,pB (decide (((cc : Nat) : Int) < e1.at_ + e1.count))),(84,pS 3 true ePiece [(⟨((cc : Nat) : Int),ph,1⟩ : TPiece)])] [0,1,2,3,4,5,6,7,8,9,10,11,12,13,14,15,16] rfl rfl rfl rfl g3 ?_
        refine x_run0 [(83,pB (decide (((cc : Nat) : Int) < e1.at_ + e1.count))),(84,pS 3 true ePiece [(⟨((cc : Nat) : Int),ph,1⟩ : TPiece)])] [0,1,2,3,4,5,6,7,8,9,10,11,12,13,14,15,16] rfl rfl rfl rfl (s_lenM (l := [(⟨((cc : Nat) : Int),ph,1⟩ : TPiece)]) tab_32 rfl (hM_sl (f := ePiece) rfl) ⟨rfl,rfl,rfl⟩) ?_
        refine xy [(83,pB (decide (((cc : Nat) : Int) < e1.at_ + e1.count))),(85,pN ([(⟨((cc : Nat) : Int),ph,1⟩ : TPiece)].length))] [0,1,2,3,4,5,6,7,8,9,10,11,12,13,14,15,16,17] rfl rfl rfl rfl g3 ?_
        refine x_run0 [(83,pB (decide (((cc : Nat) : Int) < e1.at_ + e1.count))),(85,pN ([(⟨((cc : Nat) : Int),ph,1⟩ : TPiece)].length))] [0,1,2,3,4,5,6,7,8,9,10,11,12,13,14,15,16,17] rfl rfl rfl rfl (s_eql rfl rfl ⟨rfl,rfl,rfl⟩) ?_
        refine xy [(69,pB sm),(83,pB (decide (((cc : Nat) : Int) < e1.at_ + e1.count))),(86,pB (decide ((([(⟨((cc : Nat) : Int),ph,1⟩ : TPiece)].length : Nat) : Int) = 1)))] [0,1,2,3,4,5,6,7,8,9,10,11,12,13,14,15,16,17,18] rfl rfl rfl rfl g1 ?_
        refine x_run0 [(69,pB sm),(83,pB (decide (((cc : Nat) : Int) < e1.at_ + e1.count))),(86,pB (decide ((([(⟨((cc : Nat) : Int),ph,1⟩ : TPiece)].length : Nat) : Int) = 1)))] [0,1,2,3,4,5,6,7,8,9,10,11,12,13,14,15,16,17,18] rfl rfl rfl rfl (s_pick_t rfl g3 rfl ⟨rfl,rfl,rfl⟩) ?_
        refine xy [(69,pB sm),(87,pB (decide ((([(⟨((cc : Nat) : Int),ph,1⟩ : TPiece)].length : Nat) : Int) = 1)))] [0,1,2,3,4,5,6,7,8,9,10,11,12,13,14,15,16,17,18,19] rfl rfl rfl rfl g1 ?_
        refine x_run0 [(69,pB sm),(87,pB (decide ((([(⟨((cc : Nat) : Int),ph,1⟩ : TPiece)].length : Nat) : Int) = 1)))] [0,1,2,3,4,5,6,7,8,9,10,11,12,13,14,15,16,17,18,19] rfl rfl rfl rfl (s_move rfl ⟨rfl,rfl,rfl⟩) ?_
        refine x_if [(88,pB (decide ((([(⟨((cc : Nat) : Int),ph,1⟩ : TPiece)].length : Nat) : Int) = 1))),(19,pS 3 true ePiece [(⟨((cc : Nat) : Int),ph,1⟩ : TPiece)])] [0,1,2,3,4,5,6,7,8,9,10,11,12,13,14,15,16,17,18,19,20] rfl rfl rfl rfl (fun g4 => ?_) (fun g4 => ?_)
        ·
         have g4' := g4
         try simp only [sB] at g4'
         refine x_run0 [(88,pB (decide ((([(⟨((cc : Nat) : Int),ph,1⟩ : TPiece)].length : Nat) : Int) = 1))),(19,pS 3 true ePiece [(⟨((cc : Nat) : Int),ph,1⟩ : TPiece)])] [0,1,2,3,4,5,6,7,8,9,10,11,12,13,14,15,16,17,18,19,20] rfl rfl rfl rfl (s_move rfl ⟨rfl,rfl,rfl⟩) ?_
         refine xy [(88,pB (decide ((([(⟨((cc : Nat) : Int),ph,1⟩ : TPiece)].length : Nat) : Int) = 1))),(89,pS 3 true ePiece [(⟨((cc : Nat) : Int),ph,1⟩ : TPiece)])] [0,1,2,3,4,5,6,7,8,9,10,11,12,13,14,15,16,17,18,19,20,21] rfl rfl rfl rfl g4 ?_
         obtain ⟨e2,he2⟩ := get_of_lt [(⟨((cc : Nat) : Int),ph,1⟩ : TPiece)] (i := 0) (by omega)
         refine x_run0 [(88,pB (decide ((([(⟨((cc : Nat) : Int),ph,1⟩ : TPiece)].length : Nat) : Int) = 1))),(89,pS 3 true ePiece [(⟨((cc : Nat) : Int),ph,1⟩ : TPiece)])] [0,1,2,3,4,5,6,7,8,9,10,11,12,13,14,15,16,17,18,19,20,21] rfl rfl rfl rfl (s_iaM (q := 0) (b := e2) (f := ePiece) tab_32 rfl tab_36 rfl rfl (by omega) rfl he2 ⟨rfl,rfl,rfl⟩) ?_
         refine xy [(88,pB (decide ((([(⟨((cc : Nat) : Int),ph,1⟩ : TPiece)].length : Nat) : Int) = 1))),(90,PV.f (.ro (ePiece e2)))] [0,1,2,3,4,5,6,7,8,9,10,11,12,13,14,15,16,17,18,19,20,21,22] rfl rfl rfl rfl g4 ?_
         refine x_run0 [(88,pB (decide ((([(⟨((cc : Nat) : Int),ph,1⟩ : TPiece)].length : Nat) : Int) = 1))),(90,PV.f (.ro (ePiece e2)))] [0,1,2,3,4,5,6,7,8,9,10,11,12,13,14,15,16,17,18,19,20,21,22] rfl rfl rfl rfl (s_fa_ro tab_36 rfl rfl tab_3 (by decide) rfl (Nat.le_of_ble_eq_true rfl) (by intro _; rfl) ⟨rfl,rfl,rfl⟩) ?_
         refine xy [(88,pB (decide ((([(⟨((cc : Nat) : Int),ph,1⟩ : TPiece)].length : Nat) : Int) = 1))),(91,PV.f (.ro (encI e2.physical)))] [0,1,2,3,4,5,6,7,8,9,10,11,12,13,14,15,16,17,18,19,20,21,22,23] rfl rfl rfl rfl g4 ?_
         refine x_run0 [(88,pB (decide ((([(⟨((cc : Nat) : Int),ph,1⟩ : TPiece)].length : Nat) : Int) = 1))),(91,PV.f (.ro (encI e2.physical)))] [0,1,2,3,4,5,6,7,8,9,10,11,12,13,14,15,16,17,18,19,20,21,22,23] rfl rfl rfl rfl (s_load_ro1 tab_3 rfl rfl rfl rfl ⟨rfl,rfl,rfl⟩) ?_
         refine xy [(88,pB (decide ((([(⟨((cc : Nat) : Int),ph,1⟩ : TPiece)].length : Nat) : Int) = 1))),(23,PV.ptr 0 0)] [0,1,2,3,4,5,6,7,8,9,10,11,12,13,14,15,16,17,18,19,20] rfl rfl rfl rfl g4 ?_
         refine x_run0 [(88,pB (decide ((([(⟨((cc : Nat) : Int),ph,1⟩ : TPiece)].length : Nat) : Int) = 1))),(23,PV.ptr 0 0)] [0,1,2,3,4,5,6,7,8,9,10,11,12,13,14,15,16,17,18,19,20] rfl rfl rfl rfl (s_fa_ptr tab_36 rfl rfl tab_3 (by decide) rfl ⟨rfl,rfl,rfl⟩) ?_
         refine xy [(88,pB (decide ((([(⟨((cc : Nat) : Int),ph,1⟩ : TPiece)].length : Nat) : Int) = 1))),(93,PV.ptr 0 1)] [0,1,2,3,4,5,6,7,8,9,10,11,12,13,14,15,16,17,18,19,20,25] rfl rfl rfl rfl g4 ?_
         refine xL [(88,pB (decide ((([(⟨((cc : Nat) : Int),ph,1⟩ : TPiece)].length : Nat) : Int) = 1))),(93,PV.ptr 0 1)] [0,1,2,3,4,5,6,7,8,9,10,11,12,13,14,15,16,17,18,19,20,25] [(0,.obj (cPiece e1))] rfl rfl rfl rfl rfl (s_load_ptr1 tab_3 rfl rfl rfl rfl rfl ⟨rfl,rfl,rfl⟩) ⟨rfl,trivial⟩ rfl ?_
         refine xy [(88,pB (decide ((([(⟨((cc : Nat) : Int),ph,1⟩ : TPiece)].length : Nat) : Int) = 1))),(18,pN cc)] [0,1,2,3,4,5,6,7,8,9,10,11,12,13,14,15,16,17,18,19,20] rfl rfl rfl rfl g4 ?_
         refine x_run0 [(88,pB (decide ((([(⟨((cc : Nat) : Int),ph,1⟩ : TPiece)].length : Nat) : Int) = 1))),(18,pN cc)] [0,1,2,3,4,5,6,7,8,9,10,11,12,13,14,15,16,17,18,19,20] rfl rfl rfl rfl (s_move rfl ⟨rfl,rfl,rfl⟩) ?_
         refine xy [(88,pB (decide ((([(⟨((cc : Nat) : Int),ph,1⟩ : TPiece)].length : Nat) : Int) = 1))),(94,pI e1.physical),(95,pN cc)] [0,1,2,3,4,5,6,7,8,9,10,11,12,13,14,15,16,17,18,19,20,25,26,27] rfl rfl rfl rfl g4 ?_
         refine x_run0 [(88,pB (decide ((([(⟨((cc : Nat) : Int),ph,1⟩ : TPiece)].length : Nat) : Int) = 1))),(94,pI e1.physical),(95,pN cc)] [0,1,2,3,4,5,6,7,8,9,10,11,12,13,14,15,16,17,18,19,20,25,26,27] rfl rfl rfl rfl (s_addi (r := e1.physical + ((cc : Nat) : Int)) rfl rfl rfl (by omega) ⟨rfl,rfl,rfl⟩) ?_
         refine xy [(88,pB (decide ((([(⟨((cc : Nat) : Int),ph,1⟩ : TPiece)].length : Nat) : Int) = 1))),(23,PV.ptr 0 0)] [0,1,2,3,4,5,6,7,8,9,10,11,12,13,14,15,16,17,18,19,20] rfl rfl rfl rfl g4 ?_
         refine x_run0 [(88,pB (decide ((([(⟨((cc : Nat) : Int),ph,1⟩ : TPiece)].length : Nat) : Int) = 1))),(23,PV.ptr 0 0)] [0,1,2,3,4,5,6,7,8,9,10,11,12,13,14,15,16,17,18,19,20] rfl rfl rfl rfl (s_fa_ptr tab_36 rfl rfl tab_3 (by decide) rfl ⟨rfl,rfl,rfl⟩) ?_
         refine xy [(88,pB (decide ((([(⟨((cc : Nat) : Int),ph,1⟩ : TPiece)].length : Nat) : Int) = 1))),(97,PV.ptr 0 0)] [0,1,2,3,4,5,6,7,8,9,10,11,12,13,14,15,16,17,18,19,20,29] rfl rfl rfl rfl g4 ?_
         refine xL [(88,pB (decide ((([(⟨((cc : Nat) : Int),ph,1⟩ : TPiece)].length : Nat) : Int) = 1))),(97,PV.ptr 0 0)] [0,1,2,3,4,5,6,7,8,9,10,11,12,13,14,15,16,17,18,19,20,29] [(0,.obj (cPiece e1))] rfl rfl rfl rfl rfl (s_load_ptr1 tab_3 rfl rfl rfl rfl rfl ⟨rfl,rfl,rfl⟩) ⟨rfl,trivial⟩ rfl ?_
         refine xy [(88,pB (decide ((([(⟨((cc : Nat) : Int),ph,1⟩ : TPiece)].length : Nat) : Int) = 1))),(96,pI (e1.physical + ((cc : Nat) : Int))),(98,pI e1.at_)] [0,1,2,3,4,5,6,7,8,9,10,11,12,13,14,15,16,17,18,19,20,25,26,27,28,29,30] rfl rfl rfl rfl g4 ?_
         refine x_run0 [(88,pB (decide ((([(⟨((cc : Nat) : Int),ph,1⟩ : TPiece)].length : Nat) : Int) = 1))),(96,pI (e1.physical + ((cc : Nat) : Int))),(98,pI e1.at_)] [0,1,2,3,4,5,6,7,8,9,10,11,12,13,14,15,16,17,18,19,20,25,26,27,28,29,30] rfl rfl rfl rfl (s_subi (r := (e1.physical + ((cc : Nat) : Int)) - e1.at_) rfl rfl rfl (by omega) ⟨rfl,rfl,rfl⟩) ?_
         refine xy [(88,pB (decide ((([(⟨((cc : Nat) : Int),ph,1⟩ : TPiece)].length : Nat) : Int) = 1))),(92,pI e2.physical),(99,pI ((e1.physical + ((cc : Nat) : Int)) - e1.at_))] [0,1,2,3,4,5,6,7,8,9,10,11,12,13,14,15,16,17,18,19,20,21,22,23,24,25,26,27,28,29,30,31] rfl rfl rfl rfl g4 ?_
         refine x_run0 [(88,pB (decide ((([(⟨((cc : Nat) : Int),ph,1⟩ : TPiece)].length : Nat) : Int) = 1))),(92,pI e2.physical),(99,pI ((e1.physical + ((cc : Nat) : Int)) - e1.at_))] [0,1,2,3,4,5,6,7,8,9,10,11,12,13,14,15,16,17,18,19,20,21,22,23,24,25,26,27,28,29,30,31] rfl rfl rfl rfl (s_eql rfl rfl ⟨rfl,rfl,rfl⟩) ?_
         refine xy [(69,pB sm),(88,pB (decide ((([(⟨((cc : Nat) : Int),ph,1⟩ : TPiece)].length : Nat) : Int) = 1))),(100,pB (decide (e2.physical = (e1.physical + ((cc : Nat) : Int)) - e1.at_)))] [0,1,2,3,4,5,6,7,8,9,10,11,12,13,14,15,16,17,18,19,20,21,22,23,24,25,26,27,28,29,30,31,32] rfl rfl rfl rfl g1 ?_
         refine x_run0 [(69,pB sm),(88,pB (decide ((([(⟨((cc : Nat) : Int),ph,1⟩ : TPiece)].length : Nat) : Int) = 1))),(100,pB (decide (e2.physical = (e1.physical + ((cc : Nat) : Int)) - e1.at_)))] [0,1,2,3,4,5,6,7,8,9,10,11,12,13,14,15,16,17,18,19,20,21,22,23,24,25,26,27,28,29,30,31,32] rfl rfl rfl rfl (s_pick_t rfl g4 rfl ⟨rfl,rfl,rfl⟩) ?_
         refine d_op ?_
         refine x_run0 [(69,pB sm),(101,pB (decide (e2.physical = (e1.physical + ((cc : Nat) : Int)) - e1.at_)))] [0,1,2,3,4,5,6,7,8,9,10,11,12,13,14,15,16,17,18,19,20,21,22,23,24,25,26,27,28,29,30,31,32,33] rfl rfl rfl rfl (s_pick_f rfl g1 rfl ⟨rfl,rfl,rfl⟩) ?_
         refine d_op ?_
         refine x_run0 [(102,pB (decide (e2.physical = (e1.physical + ((cc : Nat) : Int)) - e1.at_)))] [0,1,2,3,4,5,6,7,8,9,10,11,12,13,14,15,16,17,18,19,20,21,22,23,24,25,26,27,28,29,30,31,32,33,34] rfl rfl rfl rfl (s_assign rfl ⟨rfl,rfl,rfl⟩) ?_
         refine d_end ⟨by kernel_rfl, ?_⟩
         refine q_block ?_
         refine q_then ?_
         refine w_R ?_
         refine qo hnt rfl (s_addN (a := j) (b := 1) rfl rfl (by omega) (by omega) (by omega) ?_)
         refine qm hnt rfl rfl ?_
         refine r_end ?_
         refine q_then ?_
         refine ⟨(decide (e2.physical = (e1.physical + ((cc : Nat) : Int)) - e1.at_)),(j + 1), ?_, ?_,⟨[],rfl,⟨⟨_,rfl,rfl,rfl⟩,⟨_,rfl,rfl,rfl⟩,⟨_,rfl,rfl,rfl⟩,⟨_,rfl,rfl,rfl⟩,⟨_,rfl,rfl,rfl⟩,⟨_,rfl,rfl,rfl⟩,⟨_,rfl,rfl,rfl⟩,⟨_,rfl,rfl,rfl⟩,⟨_,rfl,rfl,rfl⟩,⟨_,rfl,rfl,rfl⟩,⟨_,rfl,rfl,rfl⟩,⟨_,rfl,rfl,rfl⟩,⟨_,rfl,rfl,rfl⟩,trivial⟩,trivial,by rw [hk]; decide⟩⟩
         ·
          refine ⟨by omega,fun q x hq hx hQ => ?_⟩
          by_cases hqj : q < j
          · have hs9 := hsm q x hqj hx hQ; exact absurd (g1.symm.trans hs9) (by decide)
          obtain rfl : q = j := by omega
          have hx9 := Option.some.inj (he1.symm.trans hx)
          subst hx9
          obtain ⟨hQ1,hQ2,hQ3⟩ := hQ
          (have h9 := Option.some.inj he2; subst h9; exact decide_eq_true hQ3)
         · omega
        have g4' := g4
        try simp only [sB] at g4'
        refine xn [(88,pB (decide ((([(⟨((cc : Nat) : Int),ph,1⟩ : TPiece)].length : Nat) : Int) = 1))),(89,undefP)] [0,1,2,3,4,5,6,7,8,9,10,11,12,13,14,15,16,17,18,19,20,21] rfl rfl rfl rfl g4 ?_
        refine xn [(88,pB (decide ((([(⟨((cc : Nat) : Int),ph,1⟩ : TPiece)].length : Nat) : Int) = 1))),(90,undefP)] [0,1,2,3,4,5,6,7,8,9,10,11,12,13,14,15,16,17,18,19,20,21,22] rfl rfl rfl rfl g4 ?_
        refine xn [(88,pB (decide ((([(⟨((cc : Nat) : Int),ph,1⟩ : TPiece)].length : Nat) : Int) = 1))),(91,undefP)] [0,1,2,3,4,5,6,7,8,9,10,11,12,13,14,15,16,17,18,19,20,21,22,23] rfl rfl rfl rfl g4 ?_
        refine xn [(88,pB (decide ((([(⟨((cc : Nat) : Int),ph,1⟩ : TPiece)].length : Nat) : Int) = 1))),(23,PV.ptr 0 0)] [0,1,2,3,4,5,6,7,8,9,10,11,12,13,14,15,16,17,18,19,20] rfl rfl rfl rfl g4 ?_
        refine xn [(88,pB (decide ((([(⟨((cc : Nat) : Int),ph,1⟩ : TPiece)].length : Nat) : Int) = 1))),(93,undefP)] [0,1,2,3,4,5,6,7,8,9,10,11,12,13,14,15,16,17,18,19,20,25] rfl rfl rfl rfl g4 ?_
        refine xn [(88,pB (decide ((([(⟨((cc : Nat) : Int),ph,1⟩ : TPiece)].length : Nat) : Int) = 1))),(18,pN cc)] [0,1,2,3,4,5,6,7,8,9,10,11,12,13,14,15,16,17,18,19,20] rfl rfl rfl rfl g4 ?_
        refine xn [(88,pB (decide ((([(⟨((cc : Nat) : Int),ph,1⟩ : TPiece)].length : Nat) : Int) = 1))),(94,undefP),(95,undefP)] [0,1,2,3,4,5,6,7,8,9,10,11,12,13,14,15,16,17,18,19,20,25,26,27] rfl rfl rfl rfl g4 ?_
        refine xn [(88,pB (decide ((([(⟨((cc : Nat) : Int),ph,1⟩ : TPiece)].length : Nat) : Int) = 1))),(23,PV.ptr 0 0)] [0,1,2,3,4,5,6,7,8,9,10,11,12,13,14,15,16,17,18,19,20] rfl rfl rfl rfl g4 ?_
        refine xn [(88,pB (decide ((([(⟨((cc : Nat) : Int),ph,1⟩ : TPiece)].length : Nat) : Int) = 1))),(97,undefP)] [0,1,2,3,4,5,6,7,8,9,10,11,12,13,14,15,16,17,18,19,20,29] rfl rfl rfl rfl g4 ?_
        refine xn [(88,pB (decide ((([(⟨((cc : Nat) : Int),ph,1⟩ : TPiece)].length : Nat) : Int) = 1))),(96,undefP),(98,undefP)] [0,1,2,3,4,5,6,7,8,9,10,11,12,13,14,15,16,17,18,19,20,25,26,27,28,29,30] rfl rfl rfl rfl g4 ?_
        refine xn [(88,pB (decide ((([(⟨((cc : Nat) : Int),ph,1⟩ : TPiece)].length : Nat) : Int) = 1))),(92,undefP),(99,undefP)] [0,1,2,3,4,5,6,7,8,9,10,11,12,13,14,15,16,17,18,19,20,21,22,23,24,25,26,27,28,29,30,31] rfl rfl rfl rfl g4 ?_
        refine xy [(69,pB sm),(88,pB (decide ((([(⟨((cc : Nat) : Int),ph,1⟩ : TPiece)].length : Nat) : Int) = 1))),(100,undefP)] [0,1,2,3,4,5,6,7,8,9,10,11,12,13,14,15,16,17,18,19,20,21,22,23,24,25,26,27,28,29,30,31,32] rfl rfl rfl rfl g1 ?_
        refine x_run0 [(69,pB sm),(88,pB (decide ((([(⟨((cc : Nat) : Int),ph,1⟩ : TPiece)].length : Nat) : Int) = 1))),(100,undefP)] [0,1,2,3,4,5,6,7,8,9,10,11,12,13,14,15,16,17,18,19,20,21,22,23,24,25,26,27,28,29,30,31,32] rfl rfl rfl rfl (s_pick_f rfl g4 rfl ⟨rfl,rfl,rfl⟩) ?_
        refine d_op ?_
        refine x_run0 [(69,pB sm),(101,pB false)] [0,1,2,3,4,5,6,7,8,9,10,11,12,13,14,15,16,17,18,19,20,21,22,23,24,25,26,27,28,29,30,31,32,33] rfl rfl rfl rfl (s_pick_f rfl g1 rfl ⟨rfl,rfl,rfl⟩) ?_
        refine d_op ?_
        refine x_run0 [(102,pB false)] [0,1,2,3,4,5,6,7,8,9,10,11,12,13,14,15,16,17,18,19,20,21,22,23,24,25,26,27,28,29,30,31,32,33,34] rfl rfl rfl rfl (s_assign rfl ⟨rfl,rfl,rfl⟩) ?_
        refine d_end ⟨by kernel_rfl, ?_⟩
        refine q_block ?_
        refine q_then ?_
        refine w_R ?_
        refine qo hnt rfl (s_addN (a := j) (b := 1) rfl rfl (by omega) (by omega) (by omega) ?_)
        refine qm hnt rfl rfl ?_
        refine r_end ?_
        refine q_then ?_
        refine ⟨(false),(j + 1), ?_, ?_,⟨[],rfl,⟨⟨_,rfl,rfl,rfl⟩,⟨_,rfl,rfl,rfl⟩,⟨_,rfl,rfl,rfl⟩,⟨_,rfl,rfl,rfl⟩,⟨_,rfl,rfl,rfl⟩,⟨_,rfl,rfl,rfl⟩,⟨_,rfl,rfl,rfl⟩,⟨_,rfl,rfl,rfl⟩,⟨_,rfl,rfl,rfl⟩,⟨_,rfl,rfl,rfl⟩,⟨_,rfl,rfl,rfl⟩,⟨_,rfl,rfl,rfl⟩,⟨_,rfl,rfl,rfl⟩,trivial⟩,trivial,by rw [hk]; decide⟩⟩
        ·
         refine ⟨by omega,fun q x hq hx hQ => ?_⟩
         by_cases hqj : q < j
         · have hs9 := hsm q x hqj hx hQ; exact absurd (g1.symm.trans hs9) (by decide)
         obtain rfl : q = j := by omega
         have hx9 := Option.some.inj (he1.symm.trans hx)
         subst hx9
         obtain ⟨hQ1,hQ2,hQ3⟩ := hQ
         (exfalso; simp at g4'; done)
        · omega
       have g3' := g3
       try simp only [sB] at g3'
       refine xn [(83,pB (decide (((cc : Nat) : Int) < e1.at_ + e1.count))),(84,undefP)] [0,1,2,3,4,5,6,7,8,9,10,11,12,13,14,15,16] rfl rfl rfl rfl g3 ?_
       refine xn [(83,pB (decide (((cc : Nat) : Int) < e1.at_ + e1.count))),(85,undefP)] [0,1,2,3,4,5,6,7,8,9,10,11,12,13,14,15,16,17] rfl rfl rfl rfl g3 ?_
       refine xy [(69,pB sm),(83,pB (decide (((cc : Nat) : Int) < e1.at_ + e1.count))),(86,undefP)] [0,1,2,3,4,5,6,7,8,9,10,11,12,13,14,15,16,17,18] rfl rfl rfl rfl g1 ?_
       refine x_run0 [(69,pB sm),(83,pB (decide (((cc : Nat) : Int) < e1.at_ + e1.count))),(86,undefP)] [0,1,2,3,4,5,6,7,8,9,10,11,12,13,14,15,16,17,18] rfl rfl rfl rfl (s_pick_f rfl g3 rfl ⟨rfl,rfl,rfl⟩) ?_
       refine xy [(69,pB sm),(87,pB false)] [0,1,2,3,4,5,6,7,8,9,10,11,12,13,14,15,16,17,18,19] rfl rfl rfl rfl g1 ?_
       refine x_run0 [(69,pB sm),(87,pB false)] [0,1,2,3,4,5,6,7,8,9,10,11,12,13,14,15,16,17,18,19] rfl rfl rfl rfl (s_move rfl ⟨rfl,rfl,rfl⟩) ?_
       refine xn [(88,pB false),(19,pS 3 true ePiece [(⟨((cc : Nat) : Int),ph,1⟩ : TPiece)])] [0,1,2,3,4,5,6,7,8,9,10,11,12,13,14,15,16,17,18,19,20] rfl rfl rfl rfl rfl ?_
       refine xn [(88,pB false),(89,undefP)] [0,1,2,3,4,5,6,7,8,9,10,11,12,13,14,15,16,17,18,19,20,21] rfl rfl rfl rfl rfl ?_
       refine xn [(88,pB false),(90,undefP)] [0,1,2,3,4,5,6,7,8,9,10,11,12,13,14,15,16,17,18,19,20,21,22] rfl rfl rfl rfl rfl ?_
       refine xn [(88,pB false),(91,undefP)] [0,1,2,3,4,5,6,7,8,9,10,11,12,13,14,15,16,17,18,19,20,21,22,23] rfl rfl rfl rfl rfl ?_
       refine xn [(88,pB false),(23,PV.ptr 0 0)] [0,1,2,3,4,5,6,7,8,9,10,11,12,13,14,15,16,17,18,19,20] rfl rfl rfl rfl rfl ?_
       refine xn [(88,pB false),(93,undefP)] [0,1,2,3,4,5,6,7,8,9,10,11,12,13,14,15,16,17,18,19,20,25] rfl rfl rfl rfl rfl ?_
       refine xn [(88,pB false),(18,pN cc)] [0,1,2,3,4,5,6,7,8,9,10,11,12,13,14,15,16,17,18,19,20] rfl rfl rfl rfl rfl ?_
       refine xn [(88,pB false),(94,undefP),(95,undefP)] [0,1,2,3,4,5,6,7,8,9,10,11,12,13,14,15,16,17,18,19,20,25,26,27] rfl rfl rfl rfl rfl ?_
       refine xn [(88,pB false),(23,PV.ptr 0 0)] [0,1,2,3,4,5,6,7,8,9,10,11,12,13,14,15,16,17,18,19,20] rfl rfl rfl rfl rfl ?_
       refine xn [(88,pB false),(97,undefP)] [0,1,2,3,4,5,6,7,8,9,10,11,12,13,14,15,16,17,18,19,20,29] rfl rfl rfl rfl rfl ?_
       refine xn [(88,pB false),(96,undefP),(98,undefP)] [0,1,2,3,4,5,6,7,8,9,10,11,12,13,14,15,16,17,18,19,20,25,26,27,28,29,30] rfl rfl rfl rfl rfl ?_
       refine xn [(88,pB false),(92,undefP),(99,undefP)] [0,1,2,3,4,5,6,7,8,9,10,11,12,13,14,15,16,17,18,19,20,21,22,23,24,25,26,27,28,29,30,31] rfl rfl rfl rfl rfl ?_
       refine xy [(69,pB sm),(88,pB false),(100,undefP)] [0,1,2,3,4,5,6,7,8,9,10,11,12,13,14,15,16,17,18,19,20,21,22,23,24,25,26,27,28,29,30,31,32] rfl rfl rfl rfl g1 ?_
       refine x_run0 [(69,pB sm),(88,pB false),(100,undefP)] [0,1,2,3,4,5,6,7,8,9,10,11,12,13,14,15,16,17,18,19,20,21,22,23,24,25,26,27,28,29,30,31,32] rfl rfl rfl rfl (s_pick_f rfl rfl rfl ⟨rfl,rfl,rfl⟩) ?_
       refine d_op ?_
       refine x_run0 [(69,pB sm),(101,pB false)] [0,1,2,3,4,5,6,7,8,9,10,11,12,13,14,15,16,17,18,19,20,21,22,23,24,25,26,27,28,29,30,31,32,33] rfl rfl rfl rfl (s_pick_f rfl g1 rfl ⟨rfl,rfl,rfl⟩) ?_
       refine d_op ?_
       refine x_run0 [(102,pB false)] [0,1,2,3,4,5,6,7,8,9,10,11,12,13,14,15,16,17,18,19,20,21,22,23,24,25,26,27,28,29,30,31,32,33,34] rfl rfl rfl rfl (s_assign rfl ⟨rfl,rfl,rfl⟩) ?_
       refine d_end ⟨by kernel_rfl, ?_⟩
       refine q_block ?_
       refine q_then ?_
       refine w_R ?_
       refine qo hnt rfl (s_addN (a := j) (b := 1) rfl rfl (by omega) (by omega) (by omega) ?_)
       refine qm hnt rfl rfl ?_
       refine r_end ?_
       refine q_then ?_
       refine ⟨(false),(j + 1), ?_, ?_,⟨[],rfl,⟨⟨_,rfl,rfl,rfl⟩,⟨_,rfl,rfl,rfl⟩,⟨_,rfl,rfl,rfl⟩,⟨_,rfl,rfl,rfl⟩,⟨_,rfl,rfl,rfl⟩,⟨_,rfl,rfl,rfl⟩,⟨_,rfl,rfl,rfl⟩,⟨_,rfl,rfl,rfl⟩,⟨_,rfl,rfl,rfl⟩,⟨_,rfl,rfl,rfl⟩,⟨_,rfl,rfl,rfl⟩,⟨_,rfl,rfl,rfl⟩,⟨_,rfl,rfl,rfl⟩,trivial⟩,trivial,by rw [hk]; decide⟩⟩
       ·
        refine ⟨by omega,fun q x hq hx hQ => ?_⟩
        by_cases hqj : q < j
        · have hs9 := hsm q x hqj hx hQ; exact absurd (g1.symm.trans hs9) (by decide)
        obtain rfl : q = j := by omega
        have hx9 := Option.some.inj (he1.symm.trans hx)
        subst hx9
        obtain ⟨hQ1,hQ2,hQ3⟩ := hQ
        (exfalso; omega)
       · omega
      have g2' := g2
      try simp only [sB] at g2'
      refine xn [(74,pB (decide (e1.at_ ≤ ((cc : Nat) : Int)))),(23,PV.ptr 0 0)] [0,1,2,3,4,5,6] rfl rfl rfl rfl g2 ?_
      refine xn [(74,pB (decide (e1.at_ ≤ ((cc : Nat) : Int)))),(76,undefP)] [0,1,2,3,4,5,6,8] rfl rfl rfl rfl g2 ?_
      refine xn [(74,pB (decide (e1.at_ ≤ ((cc : Nat) : Int)))),(23,PV.ptr 0 0)] [0,1,2,3,4,5,6] rfl rfl rfl rfl g2 ?_
      refine xn [(74,pB (decide (e1.at_ ≤ ((cc : Nat) : Int)))),(78,undefP)] [0,1,2,3,4,5,6,10] rfl rfl rfl rfl g2 ?_
      refine xn [(74,pB (decide (e1.at_ ≤ ((cc : Nat) : Int)))),(77,undefP),(79,undefP)] [0,1,2,3,4,5,6,8,9,10,11] rfl rfl rfl rfl g2 ?_
      refine xn [(74,pB (decide (e1.at_ ≤ ((cc : Nat) : Int)))),(75,undefP),(80,undefP)] [0,1,2,3,4,5,6,7,8,9,10,11,12] rfl rfl rfl rfl g2 ?_
      refine xy [(69,pB sm),(74,pB (decide (e1.at_ ≤ ((cc : Nat) : Int)))),(81,undefP)] [0,1,2,3,4,5,6,7,8,9,10,11,12,13] rfl rfl rfl rfl g1 ?_
      refine x_run0 [(69,pB sm),(74,pB (decide (e1.at_ ≤ ((cc : Nat) : Int)))),(81,undefP)] [0,1,2,3,4,5,6,7,8,9,10,11,12,13] rfl rfl rfl rfl (s_pick_f rfl g2 rfl ⟨rfl,rfl,rfl⟩) ?_
      refine xy [(69,pB sm),(82,pB false)] [0,1,2,3,4,5,6,7,8,9,10,11,12,13,14] rfl rfl rfl rfl g1 ?_
      refine x_run0 [(69,pB sm),(82,pB false)] [0,1,2,3,4,5,6,7,8,9,10,11,12,13,14] rfl rfl rfl rfl (s_move rfl ⟨rfl,rfl,rfl⟩) ?_
      refine xn [(83,pB false),(19,pS 3 true ePiece [(⟨((cc : Nat) : Int),ph,1⟩ : TPiece)])] [0,1,2,3,4,5,6,7,8,9,10,11,12,13,14,15] rfl rfl rfl rfl rfl ?_
      refine xn [(83,pB false),(84,undefP)] [0,1,2,3,4,5,6,7,8,9,10,11,12,13,14,15,16] rfl rfl rfl rfl rfl ?_
      refine xn [(83,pB false),(85,undefP)] [0,1,2,3,4,5,6,7,8,9,10,11,12,13,14,15,16,17] rfl rfl rfl rfl rfl ?_
      refine xy [(69,pB sm),(83,pB false),(86,undefP)] [0,1,2,3,4,5,6,7,8,9,10,11,12,13,14,15,16,17,18] rfl rfl rfl rfl g1 ?_
      refine x_run0 [(69,pB sm),(83,pB false),(86,undefP)] [0,1,2,3,4,5,6,7,8,9,10,11,12,13,14,15,16,17,18] rfl rfl rfl rfl (s_pick_f rfl rfl rfl ⟨rfl,rfl,rfl⟩) ?_
      refine xy [(69,pB sm),(87,pB false)] [0,1,2,3,4,5,6,7,8,9,10,11,12,13,14,15,16,17,18,19] rfl rfl rfl rfl g1 ?_
      refine x_run0 [(69,pB sm),(87,pB false)] [0,1,2,3,4,5,6,7,8,9,10,11,12,13,14,15,16,17,18,19] rfl rfl rfl rfl (s_move rfl ⟨rfl,rfl,rfl⟩) ?_
      refine xn [(88,pB false),(19,pS 3 true ePiece [(⟨((cc : Nat) : Int),ph,1⟩ : TPiece)])] [0,1,2,3,4,5,6,7,8,9,10,11,12,13,14,15,16,17,18,19,20] rfl rfl rfl rfl rfl ?_
      refine xn [(88,pB false),(89,undefP)] [0,1,2,3,4,5,6,7,8,9,10,11,12,13,14,15,16,17,18,19,20,21] rfl rfl rfl rfl rfl ?_
      refine xn [(88,pB false),(90,undefP)] [0,1,2,3,4,5,6,7,8,9,10,11,12,13,14,15,16,17,18,19,20,21,22] rfl rfl rfl rfl rfl ?_
      refine xn [(88,pB false),(91,undefP)] [0,1,2,3,4,5,6,7,8,9,10,11,12,13,14,15,16,17,18,19,20,21,22,23] rfl rfl rfl rfl rfl ?_
      refine xn [(88,pB false),(23,PV.ptr 0 0)] [0,1,2,3,4,5,6,7,8,9,10,11,12,13,14,15,16,17,18,19,20] rfl rfl rfl rfl rfl ?_
      refine xn [(88,pB false),(93,undefP)] [0,1,2,3,4,5,6,7,8,9,10,11,12,13,14,15,16,17,18,19,20,25] rfl rfl rfl rfl rfl ?_
      refine xn [(88,pB false),(18,pN cc)] [0,1,2,3,4,5,6,7,8,9,10,11,12,13,14,15,16,17,18,19,20] rfl rfl rfl rfl rfl ?_
      refine xn [(88,pB false),(94,undefP),(95,undefP)] [0,1,2,3,4,5,6,7,8,9,10,11,12,13,14,15,16,17,18,19,20,25,26,27] rfl rfl rfl rfl rfl ?_
      refine xn [(88,pB false),(23,PV.ptr 0 0)] [0,1,2,3,4,5,6,7,8,9,10,11,12,13,14,15,16,17,18,19,20] rfl rfl rfl rfl rfl ?_
      refine xn [(88,pB false),(97,undefP)] [0,1,2,3,4,5,6,7,8,9,10,11,12,13,14,15,16,17,18,19,20,29] rfl rfl rfl rfl rfl ?_
      refine xn [(88,pB false),(96,undefP),(98,undefP)] [0,1,2,3,4,5,6,7,8,9,10,11,12,13,14,15,16,17,18,19,20,25,26,27,28,29,30] rfl rfl rfl rfl rfl ?_
      refine xn [(88,pB false),(92,undefP),(99,undefP)] [0,1,2,3,4,5,6,7,8,9,10,11,12,13,14,15,16,17,18,19,20,21,22,23,24,25,26,27,28,29,30,31] rfl rfl rfl rfl rfl ?_
      refine xy [(69,pB sm),(88,pB false),(100,undefP)] [0,1,2,3,4,5,6,7,8,9,10,11,12,13,14,15,16,17,18,19,20,21,22,23,24,25,26,27,28,29,30,31,32] rfl rfl rfl rfl g1 ?_
      refine x_run0 [(69,pB sm),(88,pB false),(100,undefP)] [0,1,2,3,4,5,6,7,8,9,10,11,12,13,14,15,16,17,18,19,20,21,22,23,24,25,26,27,28,29,30,31,32] rfl rfl rfl rfl (s_pick_f rfl rfl rfl ⟨rfl,rfl,rfl⟩) ?_
      refine d_op ?_
      refine x_run0 [(69,pB sm),(101,pB false)] [0,1,2,3,4,5,6,7,8,9,10,11,12,13,14,15,16,17,18,19,20,21,22,23,24,25,26,27,28,29,30,31,32,33] rfl rfl rfl rfl (s_pick_f rfl g1 rfl ⟨rfl,rfl,rfl⟩) ?_
      refine d_op ?_
      refine x_run0 [(102,pB false)] [0,1,2,3,4,5,6,7,8,9,10,11,12,13,14,15,16,17,18,19,20,21,22,23,24,25,26,27,28,29,30,31,32,33,34] rfl rfl rfl rfl (s_assign rfl ⟨rfl,rfl,rfl⟩) ?_
      refine d_end ⟨by kernel_rfl, ?_⟩
      refine q_block ?_
      refine q_then ?_
      refine w_R ?_
      refine qo hnt rfl (s_addN (a := j) (b := 1) rfl rfl (by omega) (by omega) (by omega) ?_)
      refine qm hnt rfl rfl ?_
      refine r_end ?_
      refine q_then ?_
      refine ⟨(false),(j + 1), ?_, ?_,⟨[],rfl,⟨⟨_,rfl,rfl,rfl⟩,⟨_,rfl,rfl,rfl⟩,⟨_,rfl,rfl,rfl⟩,⟨_,rfl,rfl,rfl⟩,⟨_,rfl,rfl,rfl⟩,⟨_,rfl,rfl,rfl⟩,⟨_,rfl,rfl,rfl⟩,⟨_,rfl,rfl,rfl⟩,⟨_,rfl,rfl,rfl⟩,⟨_,rfl,rfl,rfl⟩,⟨_,rfl,rfl,rfl⟩,⟨_,rfl,rfl,rfl⟩,⟨_,rfl,rfl,rfl⟩,trivial⟩,trivial,by rw [hk]; decide⟩⟩
      ·
       refine ⟨by omega,fun q x hq hx hQ => ?_⟩
       by_cases hqj : q < j
       · have hs9 := hsm q x hqj hx hQ; exact absurd (g1.symm.trans hs9) (by decide)
       obtain rfl : q = j := by omega
       have hx9 := Option.some.inj (he1.symm.trans hx)
       subst hx9
       obtain ⟨hQ1,hQ2,hQ3⟩ := hQ
       (exfalso; omega)
      · omega
     have g1' := g1
     try simp only [sB] at g1'
     refine xn [(69,pB sm),(23,PV.ptr 0 0)] [0,1] rfl rfl rfl rfl g1 ?_
     refine xn [(69,pB sm),(71,undefP)] [0,1,3] rfl rfl rfl rfl g1 ?_
     refine xn [(69,pB sm),(70,undefP),(72,undefP)] [0,1,2,3,4] rfl rfl rfl rfl g1 ?_
     refine xn [(69,pB sm),(73,undefP)] [0,1,2,3,4,5] rfl rfl rfl rfl g1 ?_
     refine x_undef [(74,undefP),(18,pN cc)] [0,1,2,3,4,5,6] rfl rfl rfl rfl ?_
     refine x_undef [(74,undefP),(23,PV.ptr 0 0)] [0,1,2,3,4,5,6] rfl rfl rfl rfl ?_
     refine x_undef [(74,undefP),(76,undefP)] [0,1,2,3,4,5,6,8] rfl rfl rfl rfl ?_
     refine x_undef [(74,undefP),(23,PV.ptr 0 0)] [0,1,2,3,4,5,6] rfl rfl rfl rfl ?_
     refine x_undef [(74,undefP),(78,undefP)] [0,1,2,3,4,5,6,10] rfl rfl rfl rfl ?_
     refine x_undef [(74,undefP),(77,undefP),(79,undefP)] [0,1,2,3,4,5,6,8,9,10,11] rfl rfl rfl rfl ?_
     refine x_undef [(74,undefP),(75,undefP),(80,undefP)] [0,1,2,3,4,5,6,7,8,9,10,11,12] rfl rfl rfl rfl ?_
     refine xn [(69,pB sm),(74,undefP),(81,undefP)] [0,1,2,3,4,5,6,7,8,9,10,11,12,13] rfl rfl rfl rfl g1 ?_
     refine xn [(69,pB sm),(82,undefP)] [0,1,2,3,4,5,6,7,8,9,10,11,12,13,14] rfl rfl rfl rfl g1 ?_
     refine x_undef [(83,undefP),(19,pS 3 true ePiece [(⟨((cc : Nat) : Int),ph,1⟩ : TPiece)])] [0,1,2,3,4,5,6,7,8,9,10,11,12,13,14,15] rfl rfl rfl rfl ?_
     refine x_undef [(83,undefP),(84,undefP)] [0,1,2,3,4,5,6,7,8,9,10,11,12,13,14,15,16] rfl rfl rfl rfl ?_
     refine x_undef [(83,undefP),(85,undefP)] [0,1,2,3,4,5,6,7,8,9,10,11,12,13,14,15,16,17] rfl rfl rfl rfl ?_
     refine xn [(69,pB sm),(83,undefP),(86,undefP)] [0,1,2,3,4,5,6,7,8,9,10,11,12,13,14,15,16,17,18] rfl rfl rfl rfl g1 ?_
     refine xn [(69,pB sm),(87,undefP)] [0,1,2,3,4,5,6,7,8,9,10,11,12,13,14,15,16,17,18,19] rfl rfl rfl rfl g1 ?_
     refine x_undef [(88,undefP),(19,pS 3 true ePiece [(⟨((cc : Nat) : Int),ph,1⟩ : TPiece)])] [0,1,2,3,4,5,6,7,8,9,10,11,12,13,14,15,16,17,18,19,20] rfl rfl rfl rfl ?_
     refine x_undef [(88,undefP),(89,undefP)] [0,1,2,3,4,5,6,7,8,9,10,11,12,13,14,15,16,17,18,19,20,21] rfl rfl rfl rfl ?_
     refine x_undef [(88,undefP),(90,undefP)] [0,1,2,3,4,5,6,7,8,9,10,11,12,13,14,15,16,17,18,19,20,21,22] rfl rfl rfl rfl ?_
     refine x_undef [(88,undefP),(91,undefP)] [0,1,2,3,4,5,6,7,8,9,10,11,12,13,14,15,16,17,18,19,20,21,22,23] rfl rfl rfl rfl ?_
     refine x_undef [(88,undefP),(23,PV.ptr 0 0)] [0,1,2,3,4,5,6,7,8,9,10,11,12,13,14,15,16,17,18,19,20] rfl rfl rfl rfl ?_
     refine x_undef [(88,undefP),(93,undefP)] [0,1,2,3,4,5,6,7,8,9,10,11,12,13,14,15,16,17,18,19,20,25] rfl rfl rfl rfl ?_
     refine x_undef [(88,undefP),(18,pN cc)] [0,1,2,3,4,5,6,7,8,9,10,11,12,13,14,15,16,17,18,19,20] rfl rfl rfl rfl ?_
     refine x_undef [(88,undefP),(94,undefP),(95,undefP)] [0,1,2,3,4,5,6,7,8,9,10,11,12,13,14,15,16,17,18,19,20,25,26,27] rfl rfl rfl rfl ?_
     refine x_undef [(88,undefP),(23,PV.ptr 0 0)] [0,1,2,3,4,5,6,7,8,9,10,11,12,13,14,15,16,17,18,19,20] rfl rfl rfl rfl ?_
     refine x_undef [(88,undefP),(97,undefP)] [0,1,2,3,4,5,6,7,8,9,10,11,12,13,14,15,16,17,18,19,20,29] rfl rfl rfl rfl ?_
     refine x_undef [(88,undefP),(96,undefP),(98,undefP)] [0,1,2,3,4,5,6,7,8,9,10,11,12,13,14,15,16,17,18,19,20,25,26,27,28,29,30] rfl rfl rfl rfl ?_
     refine x_undef [(88,undefP),(92,undefP),(99,undefP)] [0,1,2,3,4,5,6,7,8,9,10,11,12,13,14,15,16,17,18,19,20,21,22,23,24,25,26,27,28,29,30,31] rfl rfl rfl rfl ?_
     refine xn [(69,pB sm),(88,undefP),(100,undefP)] [0,1,2,3,4,5,6,7,8,9,10,11,12,13,14,15,16,17,18,19,20,21,22,23,24,25,26,27,28,29,30,31,32] rfl rfl rfl rfl g1 ?_
     refine d_op ?_
     refine x_run0 [(69,pB sm),(101,undefP)] [0,1,2,3,4,5,6,7,8,9,10,11,12,13,14,15,16,17,18,19,20,21,22,23,24,25,26,27,28,29,30,31,32,33] rfl rfl rfl rfl (s_pick_t rfl g1 rfl ⟨rfl,rfl,rfl⟩) ?_
     refine d_op ?_
     refine x_run0 [(102,pB true)] [0,1,2,3,4,5,6,7,8,9,10,11,12,13,14,15,16,17,18,19,20,21,22,23,24,25,26,27,28,29,30,31,32,33,34] rfl rfl rfl rfl (s_assign rfl ⟨rfl,rfl,rfl⟩) ?_
     refine d_end ⟨by kernel_rfl, ?_⟩
     refine q_block ?_
     refine q_then ?_
     refine w_R ?_
     refine qo hnt rfl (s_addN (a := j) (b := 1) rfl rfl (by omega) (by omega) (by omega) ?_)
     refine qm hnt rfl rfl ?_
     refine r_end ?_
     refine q_then ?_
     refine ⟨(true),(j + 1), ?_, ?_,⟨[],rfl,⟨⟨_,rfl,rfl,rfl⟩,⟨_,rfl,rfl,rfl⟩,⟨_,rfl,rfl,rfl⟩,⟨_,rfl,rfl,rfl⟩,⟨_,rfl,rfl,rfl⟩,⟨_,rfl,rfl,rfl⟩,⟨_,rfl,rfl,rfl⟩,⟨_,rfl,rfl,rfl⟩,⟨_,rfl,rfl,rfl⟩,⟨_,rfl,rfl,rfl⟩,⟨_,rfl,rfl,rfl⟩,⟨_,rfl,rfl,rfl⟩,⟨_,rfl,rfl,rfl⟩,trivial⟩,trivial,by rw [hk]; decide⟩⟩
     ·
      refine ⟨by omega,fun q x hq hx hQ => ?_⟩
      by_cases hqj : q < j
      · have hs9 := hsm q x hqj hx hQ; rfl
      obtain rfl : q = j := by omega
      have hx9 := Option.some.inj (he1.symm.trans hx)
      subst hx9
      obtain ⟨hQ1,hQ2,hQ3⟩ := hQ
      rfl
     · omega
    have c3_ := c3
    try simp only [sB] at c3
    refine w_exit ?_
    refine q_then_exit ?_
    refine q_then_exit ?_
    refine q_block_exit ?_
    refine q_then ?_
    refine w_seq ?_
    refine w_R ?_
    refine qm hnt rfl rfl ?_
    refine qm hnt rfl rfl ?_
    refine r_if tabOk hnt rfl rfl rfl (fun g5 => ?_) (fun g5 => ?_)
    ·
     have g5' := g5
     try simp only [sB] at g5'
     refine qm hnt rfl rfl ?_
     refine ry hnt rfl rfl rfl g5 ?_
     refine qo hnt rfl (s_not rfl ?_)
     refine qo hnt rfl (s_pick_t rfl g5 rfl ?_)
     refine r_end ?_
     refine q_then ?_
     refine w_if rfl (fun c4 => ?_) (fun c4 => ?_)
     ·
      have c4_ := c4
      exact absurd c4 (by obtain ⟨x9,hx9,hQ9⟩ := hq1.piece_at g5 (c := ((cc : Nat) : Int)) ⟨by omega,by omega⟩ hw1; obtain ⟨q9,hq9⟩ := List.getElem?_of_mem hx9; rw [hsm q9 x9 (by have := (List.getElem?_eq_some_iff.1 hq9).1; omega) hq9 (by rw [hph]; exact hQ9)]; decide)
     have c4_ := c4
     try simp only [sB] at c4
     refine w_skip ?_
     refine q_block ?_
     refine q_then ?_
     refine w_R ?_
     refine qm hnt rfl rfl ?_
     refine qo hnt rfl (s_addN (a := cc) (b := 1) rfl rfl (by omega) (by omega) (by omega) ?_)
     refine qa hnt rfl rfl ?_
     refine r_end ?_
     refine q_then ?_
     refine ⟨(kk + 1),(cc + 1), ?_, ?_,⟨[],rfl,⟨⟨_,rfl,rfl,rfl⟩,⟨_,rfl,rfl,rfl⟩,⟨_,rfl,rfl,rfl⟩,⟨_,rfl,rfl,rfl⟩,⟨_,rfl,rfl,rfl⟩,⟨_,rfl,rfl,rfl⟩,⟨_,rfl,rfl,rfl⟩,⟨_,rfl,rfl,rfl⟩,trivial⟩,trivial,by rw [hk]; decide⟩⟩
     ·
      exact ⟨by omega,by omega,by omega,cnt_yes hc1 hall (by simpa using c2_)⟩
     · omega
    have g5' := g5
    try simp only [sB] at g5'
    refine rn hnt rfl rfl rfl g5 ?_
    refine qo hnt rfl (s_pick_f rfl g5 rfl ?_)
    refine r_end ?_
    refine q_then ?_
    refine w_if rfl (fun e => absurd e (by decide)) (fun _ => ?_)
    refine w_skip ?_
    refine q_block ?_
    refine q_then ?_
    refine w_R ?_
    refine qm hnt rfl rfl ?_
    refine qo hnt rfl (s_addN (a := cc) (b := 1) rfl rfl (by omega) (by omega) (by omega) ?_)
    refine qa hnt rfl rfl ?_
    refine r_end ?_
    refine q_then ?_
    refine ⟨(kk + 1),(cc + 1), ?_, ?_,⟨[],rfl,⟨⟨_,rfl,rfl,rfl⟩,⟨_,rfl,rfl,rfl⟩,⟨_,rfl,rfl,rfl⟩,⟨_,rfl,rfl,rfl⟩,⟨_,rfl,rfl,rfl⟩,⟨_,rfl,rfl,rfl⟩,⟨_,rfl,rfl,rfl⟩,⟨_,rfl,rfl,rfl⟩,trivial⟩,trivial,by rw [hk]; decide⟩⟩
    ·
     exact ⟨by omega,by omega,by omega,cnt_yes hc1 hall (by simpa using c2_)⟩
    · omega
  have c1_ := c1
  try simp only [sB] at c1
  refine w_exit ?_
  refine q_then_exit ?_
  refine q_then_exit ?_
  refine q_block_exit ?_
  refine q_then ?_
  refine w_seq ?_
  refine w_R ?_
  refine qm hnt rfl rfl ?_
  refine qm hnt rfl rfl ?_
  refine qm hnt rfl rfl ?_
  refine qo hnt rfl (s_eql rfl rfl ?_)
  refine qo hnt rfl (s_eqbool tab_4 rfl rfl rfl ?_)
  refine qm hnt rfl rfl ?_
  refine r_if tabOk hnt rfl rfl rfl (fun g6 => ?_) (fun g6 => ?_)
  ·
   have g6' := g6
   try simp only [sB] at g6'
   refine qo hnt rfl (s_callF rfl rfl rfl (w_burgagelaw10_known) rfl ?_)
   refine qo hnt rfl (s_pick_t rfl g6 rfl ?_)
   refine qa hnt rfl rfl ?_
   refine r_end ?_
   refine q_then ?_
   refine w_ret ?_
   exact fin_plain (ret_tmp rfl ret_nil) rfl rfl ⟨rfl,rfl,rfl⟩
  exact absurd g6 (by have hcc : cc = ak + nk := (by omega); subst hcc; rw [mapOk_count (l := q1) (s := ((sk : Nat) : Int)) (a := ((ak : Nat) : Int)) (n := ((nk : Nat) : Int)) (k := ((kk : Nat) : Int)) (by omega) (by omega) (cnt_end hall)]; simp)
end Go.Proofs.Ytljkbpgcglomfaa
