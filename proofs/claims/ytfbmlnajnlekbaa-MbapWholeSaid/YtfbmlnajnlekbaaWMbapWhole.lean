/- Walks: printed by a program of this session (wip/tools/walk2.py) out of its notes. -/
import Derived.Test.YtfbmlnajnlekbaaWMbapLaw
import Derived.Test.YtfbmlnajnlekbaaSpecBW
set_option linter.unusedVariables false
set_option linter.unusedSimpArgs false
set_option maxRecDepth 10000
set_option maxHeartbeats 1000000
namespace Go.Proofs.Ytfbmlnajnlekbaa
open Go Go.Proofs.Ytfbmlnajnlekbaa.Pv

theorem w_burgagelaw6_MbapWhole (rows : List (List UInt8)) (cl_rows : Bool) (ns : List Int) (cl_ns : Bool) (hr : rows.length * 24 ≤ 140737488351232) (hn : ns.length ≤ 140737488351232) :
    T Try.prog 5 [pS 1 cl_rows (encS 1 enc8) rows, pS 1 cl_ns encI ns] 0 [] (Ret (pB true) 0 []) := by
  refine t_fun tabOk (n := 146) (rs := [.tmp 4]) Try.func5 rfl rfl rfl rfl (Nat.le_of_ble_eq_true rfl) ?_
  intro c hnt hk
  refine w_seq ?_
  refine w_R ?_
  refine r_op tabOk hnt rfl (s_assign rfl ?_) 
  refine r_end ?_
  refine q_then ?_
  refine w_seq ?_
  refine w_R ?_
  refine r_op tabOk hnt rfl (s_callX (r2 := PV.ptr 0 0) (nx1 := 1) (H2 := []) (H3 := [(0, .obj [pS 1 false enc8 ([] : List UInt8), pB false])]) [] [] rfl rfl rfl (handed_of (by decide) trivial) rfl rfl rfl rfl rfl rfl (w_mbap_New) rfl (dist_of rfl) rfl rfl rfl rfl ?_) 
  refine r_op tabOk hnt rfl (s_assign rfl ?_) 
  refine r_set [(0, pS 1 cl_rows (encS 1 enc8) rows), (1, pS 1 cl_ns encI ns), (5, PV.ptr 0 0)] [(0, .obj [pS 1 false enc8 ([] : List UInt8), pB false])] 1 ⟨rfl, rfl, rfl, trivial⟩ rfl rfl ?_
  refine r_end ?_
  refine q_then ?_
  refine w_seq ?_
  refine w_seq ?_
  refine w_R ?_
  refine r_op tabOk hnt rfl (s_move rfl ?_) 
  refine r_op tabOk hnt rfl (s_ptrnil tab_37 rfl rfl trivial ?_) 
  refine r_end ?_
  refine q_then ?_
  refine w_if rfl (fun e => absurd e (by decide)) (fun _ => ?_)
  refine w_skip ?_
  refine q_then ?_
  refine w_seq ?_
  refine w_R ?_
  refine r_op tabOk hnt rfl (s_assign rfl ?_) 
  refine r_end ?_
  refine q_then ?_
  refine w_seq ?_
  refine w_R ?_
  refine r_op tabOk hnt rfl (s_assign rfl ?_) 
  refine r_end ?_
  refine q_then ?_
  refine w_seq ?_
  refine w_seq ?_
  refine w_R ?_
  refine r_op tabOk hnt rfl (s_assign rfl ?_) 
  refine r_end ?_
  refine q_then ?_
  refine w_block ?_
  refine w_adopt (s := 6) (sz := 1) rfl ?_
  refine w_adopt (s := 7) (sz := 3) rfl ?_
  refine loop3 (fun (al : List UInt8) (wm : List TMsg) (i : Nat) => i ≤ rows.length ∧ i ≤ 10 ∧ wm.length = i ∧ al = bytesMs wm ∧ (∀ m ∈ wm, MOk m) ∧ al.length ≤ 261 * i) (fun (al : List UInt8) (wm : List TMsg) (i : Nat) => [(0, pS 1 cl_rows (encS 1 enc8) rows), (1, pS 1 cl_ns encI ns), (5, PV.ptr 2 0), (6, PV.ref 0 0 none), (7, PV.ref 1 0 none), (8, pN i)]) 3 (fun (al : List UInt8) (wm : List TMsg) (i : Nat) => [(0, oB true 1 enc8 al), (1, oB true 3 eMsg wm), (2, .obj [pS 1 false enc8 ([] : List UInt8), pB false])]) (fun (al : List UInt8) (wm : List TMsg) (i : Nat) => rows.length - i) (([] : List UInt8)) (([] : List TMsg)) (0) ?_ ⟨[(0, 1), (1, 2), (2, 0)], by rw [hk]; decide, ⟨⟨_, rfl, rfl, rfl⟩, ⟨_, rfl, rfl, rfl⟩, ⟨_, rfl, rfl, rfl⟩, ⟨_, rfl, rfl, rfl⟩, ⟨_, rfl, rfl, rfl⟩, ⟨_, rfl, rfl, rfl⟩, trivial⟩, ⟨⟨_, _, rfl, rfl, rfl, rfl⟩, ⟨_, _, rfl, rfl, rfl, rfl⟩, ⟨_, _, rfl, rfl, rfl, rfl⟩, trivial⟩, by rw [hk]; decide⟩ ?_
  · exact ⟨by omega, by omega, rfl, rfl, by simp, by simp⟩
  ·
    intro al wm i hI
    obtain ⟨hi, hi10, hwl, hal, hok, hbl⟩ := hI
    refine w_seq ?_
    refine w_seq ?_
    refine w_R ?_
    refine r_op tabOk hnt rfl (s_move rfl ?_) 
    refine r_op tabOk hnt rfl (s_move rfl ?_) 
    refine r_op tabOk hnt rfl (s_lenM (l := rows) tab_23 rfl (hM_sl (f := (encS 1 enc8)) rfl) ?_) 
    refine r_op tabOk hnt rfl (s_lss rfl rfl ?_) 
    refine r_op tabOk hnt rfl (s_move rfl ?_) 
    refine r_if tabOk hnt rfl rfl rfl (fun g1 => ?_) (fun g1 => ?_)
    ·
      have g1' := g1
      try simp only [decide_eq_true_eq, decide_eq_false_iff_not, Bool.not_eq_true', Bool.not_eq_false', Bool.not_true, Bool.not_false, Bool.not_eq_eq_eq_not, Int.not_lt, Int.not_le] at g1'
      refine r_op tabOk hnt rfl (s_move rfl ?_) 
      refine r_if tabOk hnt rfl rfl rfl (fun _ => ?_) (fun e => absurd (e.symm.trans g1) (by decide))
      refine r_op tabOk hnt rfl (s_lss rfl rfl ?_) 
      refine r_op tabOk hnt rfl (s_pick_t rfl g1 rfl ?_) 
      refine r_end ?_
      refine q_then ?_
      refine w_if rfl (fun c1 => ?_) (fun c1 => ?_)
      ·
        have c1_ := c1
        try simp only [decide_eq_true_eq, decide_eq_false_iff_not, Bool.not_eq_true', Bool.not_eq_false', Bool.not_true, Bool.not_false, Bool.not_eq_eq_eq_not, Int.not_lt, Int.not_le] at c1
        refine w_skip ?_
        refine q_then ?_
        refine w_seq ?_
        refine w_block ?_
        refine w_seq ?_
        refine W_drawn tabOk mixed hnt [[], [0], [], [], [3], [3, 4], [], [], [6, 7], [6, 7, 8], [], [], [10, 11], [10, 11, 12], [10, 11, 12, 13], [10, 11, 12, 13, 14], [6, 7, 8, 9, 10, 11, 12, 13, 14, 15], [3, 4, 5, 6, 7, 8, 9, 10, 11, 12, 13, 14, 15, 16], [0, 1, 2, 3, 4, 5, 6, 7, 8, 9, 10, 11, 12, 13, 14, 15, 16, 17], [], [0, 1, 2, 3, 4, 5, 6, 7, 8, 9, 10, 11, 12, 13, 14, 15, 16, 17, 18, 19]] (by kernel_rfl) ?_
        refine d_op ?_
        refine x_run0 [(8, pN i)] [] rfl rfl rfl rfl (s_move rfl ⟨rfl, rfl, rfl⟩) ?_
        refine d_op ?_
        refine x_run0 [(27, pN i)] [0] rfl rfl rfl rfl (s_mulN (a := i) (b := 7) rfl rfl (by omega) (by omega) (by omega) ⟨rfl, rfl, rfl⟩) ?_
        refine d_op ?_
        refine x_run0 [(8, pN i)] [] rfl rfl rfl rfl (s_move rfl ⟨rfl, rfl, rfl⟩) ?_
        refine d_op ?_
        refine x_run0 [(8, pN i)] [] rfl rfl rfl rfl (s_move rfl ⟨rfl, rfl, rfl⟩) ?_
        refine d_op ?_
        refine x_run0 [(30, pN i)] [3] rfl rfl rfl rfl (s_cv8N (a := i) tab_3 tab_5 rfl rfl rfl (by omega) ⟨rfl, rfl, rfl⟩) ?_
        refine d_op ?_
        refine x_run [(31, p8 (UInt8.ofNat i))] [3, 4] [] [] [(3, oB true 1 enc8 [UInt8.ofNat i])] [(3, oB true 1 enc8 [UInt8.ofNat i])] [(3, oB true 1 enc8 [UInt8.ofNat i]), (0, oB true 1 enc8 al), (1, oB true 3 eMsg wm), (2, .obj [pS 1 false enc8 ([] : List UInt8), pB false])] rfl rfl rfl rfl rfl rfl (s_mkM (f := enc8) [UInt8.ofNat i] tab_27 rfl tab_5 ⟨rfl, by decide⟩ (by decide) rfl rfl rfl rfl ⟨rfl, rfl, rfl⟩) rfl trivial rfl rfl ?_
        refine d_op ?_
        refine x_run0 [(0, pS 1 cl_rows (encS 1 enc8) rows)] [] rfl rfl rfl rfl (s_move rfl ⟨rfl, rfl, rfl⟩) ?_
        refine d_op ?_
        refine x_run0 [(8, pN i)] [] rfl rfl rfl rfl (s_move rfl ⟨rfl, rfl, rfl⟩) ?_
        refine d_op ?_
        obtain ⟨e1, he1⟩ := get_of_lt rows (i := i) (by omega)
        refine x_run0 [(33, pS 1 cl_rows (encS 1 enc8) rows), (34, pN i)] [6, 7] rfl rfl rfl rfl (s_iaM (q := i) (b := e1) (f := (encS 1 enc8)) tab_23 rfl tab_27 rfl rfl (by omega) rfl he1 ⟨rfl, rfl, rfl⟩) ?_
        refine d_op ?_
        refine x_run0 [(35, PV.f (.ro (FV.sl 1 false (List.map enc8 e1))))] [6, 7, 8] rfl rfl rfl rfl (s_load_ro1 tab_27 rfl rfl rfl rfl ⟨rfl, rfl, rfl⟩) ?_
        refine d_op ?_
        refine x_run0 [(0, pS 1 cl_rows (encS 1 enc8) rows)] [] rfl rfl rfl rfl (s_move rfl ⟨rfl, rfl, rfl⟩) ?_
        refine d_op ?_
        refine x_run0 [(8, pN i)] [] rfl rfl rfl rfl (s_move rfl ⟨rfl, rfl, rfl⟩) ?_
        refine d_op ?_
        refine x_run0 [(37, pS 1 cl_rows (encS 1 enc8) rows), (38, pN i)] [10, 11] rfl rfl rfl rfl (s_iaM (q := i) (b := e1) (f := (encS 1 enc8)) tab_23 rfl tab_27 rfl rfl (by omega) rfl he1 ⟨rfl, rfl, rfl⟩) ?_
        refine d_op ?_
        refine x_run0 [(39, PV.f (.ro (FV.sl 1 false (List.map enc8 e1))))] [10, 11, 12] rfl rfl rfl rfl (s_load_ro1 tab_27 rfl rfl rfl rfl ⟨rfl, rfl, rfl⟩) ?_
        refine d_op ?_
        refine x_run0 [(40, pS 1 false enc8 e1)] [10, 11, 12, 13] rfl rfl rfl rfl (s_lenM (l := e1) tab_27 rfl (hM_sl (f := enc8) rfl) ⟨rfl, rfl, rfl⟩) ?_
        refine d_op ?_
        refine x_run0 [(41, pN e1.length)] [10, 11, 12, 13, 14] rfl rfl rfl rfl (s_minN (a := e1.length) (b := 40) rfl (by omega) (by omega) ⟨rfl, rfl, rfl⟩) ?_
        refine d_op ?_
        refine x_run0 [(36, pS 1 false enc8 e1), (42, pN (min e1.length 40))] [6, 7, 8, 9, 10, 11, 12, 13, 14, 15] rfl rfl rfl rfl (s_cutM_hi (b := min e1.length 40) (f := enc8) (l := e1) tab_27 rfl tab_5 ⟨rfl, by decide⟩ rfl (bound_some rfl (by omega)) (by omega) ⟨rfl, rfl, rfl⟩) ?_
        refine d_op ?_
        refine x_run [(32, PV.ref 3 0 none), (43, pS 1 false enc8 (e1.take (min e1.length 40)))] [3, 4, 5, 6, 7, 8, 9, 10, 11, 12, 13, 14, 15, 16] [] [(3, oB true 1 enc8 [UInt8.ofNat i])] [(4, oB true 1 enc8 ([UInt8.ofNat i] ++ (e1.take (min e1.length 40))))] [(4, oB true 1 enc8 ([UInt8.ofNat i] ++ (e1.take (min e1.length 40))))] [(4, oB true 1 enc8 ([UInt8.ofNat i] ++ (e1.take (min e1.length 40)))), (0, oB true 1 enc8 al), (1, oB true 3 eMsg wm), (2, .obj [pS 1 false enc8 ([] : List UInt8), pB false])] rfl rfl rfl rfl rfl rfl (s_appR0 (f := enc8) (l := [UInt8.ofNat i]) (xs := e1.take (min e1.length 40)) tab_27 rfl tab_5 ⟨rfl, by decide, by decide⟩ (srcM tab_27 rfl (hM_sl (f := enc8) rfl)) rfl rfl (by first | omega | (simp; omega)) ⟨rfl, rfl, rfl⟩) rfl trivial rfl rfl ?_
        refine d_op ?_
        refine x_run0 [(28, pN (i * 7)), (29, pN i), (44, PV.ref 4 0 none)] [0, 1, 2, 3, 4, 5, 6, 7, 8, 9, 10, 11, 12, 13, 14, 15, 16, 17] rfl rfl rfl rfl (s_build tab_30 rfl rfl (b_cons rfl tab_3 rfl rfl rfl (Nat.le_of_ble_eq_true rfl) (b_cons rfl tab_3 rfl rfl rfl (Nat.le_of_ble_eq_true rfl) (b_cons rfl tab_27 rfl rfl rfl (Nat.le_of_ble_eq_true rfl) (b_nil ⟨rfl, rfl, rfl⟩))))) ?_
        refine d_op ?_
        refine x_run [] [] [] [] [(5, .obj [pI 0, pI 0, pNil])] [(5, .obj [pI 0, pI 0, pNil])] [(5, .obj [pI 0, pI 0, pNil]), (4, oB true 1 enc8 ([UInt8.ofNat i] ++ (e1.take (min e1.length 40)))), (0, oB true 1 enc8 al), (1, oB true 3 eMsg wm), (2, .obj [pS 1 false enc8 ([] : List UInt8), pB false])] rfl rfl rfl rfl rfl rfl (s_alloc tab_30 ⟨rfl, rfl, rfl⟩) rfl trivial rfl rfl ?_
        refine d_op ?_
        refine x_run [(9, PV.ptr 5 0), (45, PV.agg [pN (i * 7), pN i, PV.ref 4 0 none])] [0, 1, 2, 3, 4, 5, 6, 7, 8, 9, 10, 11, 12, 13, 14, 15, 16, 17, 18, 19] [] [(5, .obj [pI 0, pI 0, pNil])] [(5, .obj [pN (i * 7), pN i, PV.ref 4 0 none])] [(5, .obj [pN (i * 7), pN i, PV.ref 4 0 none])] [(5, .obj [pN (i * 7), pN i, PV.ref 4 0 none]), (4, oB true 1 enc8 ([UInt8.ofNat i] ++ (e1.take (min e1.length 40)))), (0, oB true 1 enc8 al), (1, oB true 3 eMsg wm), (2, .obj [pS 1 false enc8 ([] : List UInt8), pB false])] rfl rfl rfl rfl rfl rfl (s_store_ptr tab_30 rfl rfl rfl rfl rfl (Nat.le_of_ble_eq_true rfl) ⟨rfl, rfl, rfl⟩) rfl trivial rfl rfl ?_
        refine d_end ⟨by kernel_rfl, ?_⟩
        refine q_then ?_
        refine w_seq ?_
        refine w_R ?_
        refine r_op tabOk hnt rfl (s_move rfl ?_) 
        refine r_op tabOk hnt rfl (s_load_ptr tab_30 rfl rfl rfl (Nat.le_of_ble_eq_true rfl) ?_) 
        refine r_op tabOk hnt rfl (s_callX (r2 := pS 1 true enc8 (bytesM (⟨((i * 7 : Nat) : Int), ((i : Nat) : Int), [UInt8.ofNat i] ++ (e1.take (min e1.length 40))⟩ : TMsg))) (nx1 := 6) (H2 := [(4, oB false 1 enc8 ([UInt8.ofNat i] ++ (e1.take (min e1.length 40)))), (5, .obj [pN (i * 7), pN i, PV.ref 4 0 none]), (0, oB true 1 enc8 al), (1, oB true 3 eMsg wm), (2, .obj [pS 1 false enc8 ([] : List UInt8), pB false])]) (H3 := [(4, oB false 1 enc8 ([UInt8.ofNat i] ++ (e1.take (min e1.length 40)))), (5, .obj [pN (i * 7), pN i, PV.ref 4 0 none]), (0, oB true 1 enc8 al), (1, oB true 3 eMsg wm), (2, .obj [pS 1 false enc8 ([] : List UInt8), pB false])]) [] [] rfl rfl rfl (handed_of (by decide) trivial) rfl rfl rfl rfl rfl rfl (w_mbap_Bytes (⟨((i * 7 : Nat) : Int), ((i : Nat) : Int), [UInt8.ofNat i] ++ (e1.take (min e1.length 40))⟩ : TMsg) (by first | omega | assumption | (simp; omega) | decide | (simp; done))) rfl (dist_of rfl) rfl rfl rfl rfl ?_) 
        refine r_op tabOk hnt rfl (s_appR0 (f := enc8) (l := al) (xs := bytesM (⟨((i * 7 : Nat) : Int), ((i : Nat) : Int), [UInt8.ofNat i] ++ (e1.take (min e1.length 40))⟩ : TMsg)) tab_27 rfl tab_5 ⟨rfl, by decide, by decide⟩ (srcM tab_27 rfl (hM_sl (f := enc8) rfl)) rfl rfl (by have := bytesM_le (⟨((i * 7 : Nat) : Int), ((i : Nat) : Int), [UInt8.ofNat i] ++ (e1.take (min e1.length 40))⟩ : TMsg); first | omega | (simp at this ⊢; omega)) ?_) 
        refine r_op tabOk hnt rfl (s_assign rfl ?_) 
        refine r_set [(0, pS 1 cl_rows (encS 1 enc8) rows), (1, pS 1 cl_ns encI ns), (5, PV.ptr 2 0), (6, PV.ref 6 0 none), (7, PV.ref 1 0 none), (8, pN i), (9, PV.ptr 5 0), (22, pN i), (23, pB (decide (((i : Nat) : Int) < 10)))] [(6, oB true 1 enc8 (al ++ (bytesM (⟨((i * 7 : Nat) : Int), ((i : Nat) : Int), [UInt8.ofNat i] ++ (e1.take (min e1.length 40))⟩ : TMsg)))), (4, oB false 1 enc8 ([UInt8.ofNat i] ++ (e1.take (min e1.length 40)))), (5, .obj [pN (i * 7), pN i, PV.ref 4 0 none]), (1, oB true 3 eMsg wm), (2, .obj [pS 1 false enc8 ([] : List UInt8), pB false])] 7 ⟨rfl, rfl, rfl, rfl, rfl, rfl, rfl, rfl, rfl, trivial⟩ rfl rfl ?_
        refine r_end ?_
        refine q_then ?_
        refine w_R ?_
        refine r_op tabOk hnt rfl (s_move rfl ?_) 
        refine r_op tabOk hnt rfl (s_load_ptr tab_30 rfl rfl rfl (Nat.le_of_ble_eq_true rfl) ?_) 
        refine r_op tabOk hnt rfl (s_mkM (f := eMsg) [(⟨((i * 7 : Nat) : Int), ((i : Nat) : Int), [UInt8.ofNat i] ++ (e1.take (min e1.length 40))⟩ : TMsg)] tab_39 rfl tab_30 ⟨rfl, by decide⟩ (by decide) rfl rfl rfl rfl ?_) 
        refine r_op tabOk hnt rfl (s_appR0 (f := eMsg) (l := wm) (xs := [(⟨((i * 7 : Nat) : Int), ((i : Nat) : Int), [UInt8.ofNat i] ++ (e1.take (min e1.length 40))⟩ : TMsg)]) tab_39 rfl tab_30 ⟨rfl, by decide, by decide⟩ (srcM tab_39 rfl (hM_ref0 (f := eMsg) rfl rfl)) rfl rfl (by first | omega | (simp; omega)) ?_) 
        refine r_op tabOk hnt rfl (s_assign rfl ?_) 
        refine r_set [(0, pS 1 cl_rows (encS 1 enc8) rows), (1, pS 1 cl_ns encI ns), (5, PV.ptr 2 0), (6, PV.ref 6 0 none), (7, PV.ref 8 0 none), (8, pN i), (22, pN i), (23, pB (decide (((i : Nat) : Int) < 10)))] [(8, oB true 3 eMsg (wm ++ ([(⟨((i * 7 : Nat) : Int), ((i : Nat) : Int), [UInt8.ofNat i] ++ (e1.take (min e1.length 40))⟩ : TMsg)]))), (7, oB true 3 eMsg ([(⟨((i * 7 : Nat) : Int), ((i : Nat) : Int), [UInt8.ofNat i] ++ (e1.take (min e1.length 40))⟩ : TMsg)])), (4, oB false 1 enc8 ([UInt8.ofNat i] ++ (e1.take (min e1.length 40)))), (6, oB true 1 enc8 (al ++ (bytesM (⟨((i * 7 : Nat) : Int), ((i : Nat) : Int), [UInt8.ofNat i] ++ (e1.take (min e1.length 40))⟩ : TMsg)))), (5, .obj [pN (i * 7), pN i, PV.ref 4 0 none]), (2, .obj [pS 1 false enc8 ([] : List UInt8), pB false])] 9 ⟨rfl, rfl, rfl, rfl, rfl, rfl, rfl, rfl, trivial⟩ rfl rfl ?_
        refine r_end ?_
        refine q_block ?_
        refine q_then ?_
        refine w_R ?_
        refine r_op tabOk hnt rfl (s_move rfl ?_) 
        refine r_op tabOk hnt rfl (s_addN (a := i) (b := 1) rfl rfl (by omega) (by omega) (by omega) ?_) 
        refine r_op tabOk hnt rfl (s_assign rfl ?_) 
        refine r_end ?_
        refine q_then ?_
        refine ⟨(al ++ (bytesM (⟨((i * 7 : Nat) : Int), ((i : Nat) : Int), [UInt8.ofNat i] ++ (e1.take (min e1.length 40))⟩ : TMsg))), (wm ++ ([(⟨((i * 7 : Nat) : Int), ((i : Nat) : Int), [UInt8.ofNat i] ++ (e1.take (min e1.length 40))⟩ : TMsg)])), (i + 1), ?_, ?_, ⟨[(0, 6), (1, 8), (2, 2)], by rw [hk]; decide, ⟨⟨_, rfl, rfl, rfl⟩, ⟨_, rfl, rfl, rfl⟩, ⟨_, rfl, rfl, rfl⟩, ⟨_, rfl, rfl, rfl⟩, ⟨_, rfl, rfl, rfl⟩, ⟨_, rfl, rfl, rfl⟩, trivial⟩, ⟨⟨_, _, rfl, rfl, rfl, rfl⟩, ⟨_, _, rfl, rfl, rfl, rfl⟩, ⟨_, _, rfl, rfl, rfl, rfl⟩, trivial⟩, by rw [hk]; decide⟩⟩
        ·
          refine ⟨by omega, by omega, by rw [List.length_append, hwl]; rfl, by rw [hal, bytesMs_snoc], fun m hm => ?_, ?_⟩
          · rcases List.mem_append.1 hm with h | h
            · exact hok m h
            · simp at h; subst h; exact ⟨⟨by simp only; omega, by simp only; omega⟩, ⟨by simp only; omega, by simp only; omega⟩, by simp; omega⟩
          · rw [List.length_append]; exact Nat.le_trans (Nat.add_le_add hbl (bytesM_le _)) (by omega)
        · omega
      ·
        have c1_ := c1
        try simp only [decide_eq_true_eq, decide_eq_false_iff_not, Bool.not_eq_true', Bool.not_eq_false', Bool.not_true, Bool.not_false, Bool.not_eq_eq_eq_not, Int.not_lt, Int.not_le] at c1
        refine w_exit ?_
        refine q_then_exit ?_
        refine q_then_exit ?_
        refine q_block_exit ?_
        refine q_then ?_
        refine w_seq ?_
        refine w_R ?_
        refine r_op tabOk hnt rfl (s_assign rfl ?_) 
        refine r_end ?_
        refine q_then ?_
        refine w_seq ?_
        refine w_seq ?_
        refine w_R ?_
        refine r_op tabOk hnt rfl (s_assign rfl ?_) 
        refine r_end ?_
        refine q_then ?_
        refine w_block ?_
        refine w_frzM (s := 6) (f := enc8) rfl rfl view_0 ?_
        refine w_adopt (s := 10) (sz := 3) rfl ?_
        refine loop4 (fun (q : List UInt8) (rest : List UInt8) (gm : List TMsg) (k : Nat) => WholeI wm gm q rest ∧ (k ≤ 60 ∨ rest.length = 0 ∧ k ≤ 61)) (fun (q : List UInt8) (rest : List UInt8) (gm : List TMsg) (k : Nat) => [(1, pS 1 cl_ns encI ns), (5, PV.ptr 0 0), (6, pS 1 false enc8 rest), (7, PV.ref 2 0 none), (10, PV.ref 1 0 none), (11, pN k)]) 3 (fun (q : List UInt8) (rest : List UInt8) (gm : List TMsg) (k : Nat) => [(0, .obj [pS 1 false enc8 q, pB false]), (1, oB true 3 eMsg gm), (2, oB true 3 eMsg wm)]) (fun (q : List UInt8) (rest : List UInt8) (gm : List TMsg) (k : Nat) => (60 - k) + rest.length) (([] : List UInt8)) (al) (([] : List TMsg)) (0) ?_ ⟨[(0, 2), (1, 3), (2, 1)], by rw [hk]; decide, ⟨⟨_, rfl, rfl, rfl⟩, ⟨_, rfl, rfl, rfl⟩, ⟨_, rfl, rfl, rfl⟩, ⟨_, rfl, rfl, rfl⟩, ⟨_, rfl, rfl, rfl⟩, ⟨_, rfl, rfl, rfl⟩, trivial⟩, ⟨⟨_, _, rfl, rfl, rfl, rfl⟩, ⟨_, _, rfl, rfl, rfl, rfl⟩, ⟨_, _, rfl, rfl, rfl, rfl⟩, trivial⟩, by rw [hk]; decide⟩ ?_
        · exact ⟨WholeI.zero hok hal (by omega), by omega⟩
        ·
          intro q rest gm k hI
          obtain ⟨hI, hk6⟩ := hI
          have hbd := hI.bound
          have hgl := hI.few (by omega : wm.length ≤ 10)
          refine w_seq ?_
          refine w_seq ?_
          refine w_R ?_
          refine r_op tabOk hnt rfl (s_move rfl ?_) 
          refine r_op tabOk hnt rfl (s_lenM (l := rest) tab_27 rfl (hM_sl (f := enc8) rfl) ?_) 
          refine r_op tabOk hnt rfl (s_gtr rfl rfl ?_) 
          refine r_end ?_
          refine q_then ?_
          refine w_if rfl (fun c2 => ?_) (fun c2 => ?_)
          ·
            have c2_ := c2
            try simp only [decide_eq_true_eq, decide_eq_false_iff_not, Bool.not_eq_true', Bool.not_eq_false', Bool.not_true, Bool.not_false, Bool.not_eq_eq_eq_not, Int.not_lt, Int.not_le] at c2
            refine w_skip ?_
            refine q_then ?_
            refine w_seq ?_
            refine w_block ?_
            refine w_seq ?_
            refine w_R ?_
            refine r_op tabOk hnt rfl (s_move rfl ?_) 
            refine r_op tabOk hnt rfl (s_lenM (l := rest) tab_27 rfl (hM_sl (f := enc8) rfl) ?_) 
            refine r_op tabOk hnt rfl (s_assign rfl ?_) 
            refine r_end ?_
            refine q_then ?_
            refine w_seq ?_
            refine w_seq ?_
            refine w_R ?_
            refine r_op tabOk hnt rfl (s_move rfl ?_) 
            refine r_op tabOk hnt rfl (s_move rfl ?_) 
            refine r_op tabOk hnt rfl (s_lenM (l := ns) tab_22 rfl (hM_sl (f := encI) rfl) ?_) 
            refine r_op tabOk hnt rfl (s_lss rfl rfl ?_) 
            refine r_op tabOk hnt rfl (s_move rfl ?_) 
            refine r_if tabOk hnt rfl rfl rfl (fun g2 => ?_) (fun g2 => ?_)
            ·
              have g2' := g2
              try simp only [decide_eq_true_eq, decide_eq_false_iff_not, Bool.not_eq_true', Bool.not_eq_false', Bool.not_true, Bool.not_false, Bool.not_eq_eq_eq_not, Int.not_lt, Int.not_le] at g2'
              refine r_op tabOk hnt rfl (s_move rfl ?_) 
              refine r_if tabOk hnt rfl rfl rfl (fun _ => ?_) (fun e => absurd (e.symm.trans g2) (by decide))
              refine r_op tabOk hnt rfl (s_lss rfl rfl ?_) 
              refine r_op tabOk hnt rfl (s_pick_t rfl g2 rfl ?_) 
              refine r_end ?_
              refine q_then ?_
              refine w_if rfl (fun c3 => ?_) (fun c3 => ?_)
              ·
                have c3_ := c3
                try simp only [decide_eq_true_eq, decide_eq_false_iff_not, Bool.not_eq_true', Bool.not_eq_false', Bool.not_true, Bool.not_false, Bool.not_eq_eq_eq_not, Int.not_lt, Int.not_le] at c3
                refine w_R ?_
                refine r_op tabOk hnt rfl (s_move rfl ?_) 
                refine r_op tabOk hnt rfl (s_move rfl ?_) 
                refine r_op tabOk hnt rfl (s_move rfl ?_) 
                obtain ⟨e2, he2⟩ := get_of_lt ns (i := k) (by omega)
                refine r_op tabOk hnt rfl (s_iaM (q := k) (b := e2) (f := encI) tab_22 rfl tab_3 rfl rfl (by omega) rfl he2 ?_) 
                refine r_op tabOk hnt rfl (s_load_ro1 tab_3 rfl rfl rfl rfl ?_) 
                refine r_op tabOk hnt rfl (s_callF rfl rfl rfl (w_burgagebook_Within e2 0 13 (by first | omega | assumption | (simp; omega) | decide | (simp; done))) rfl ?_) 
                have hwb := within_between e2 (lo := 0) (hi := 13) (by decide)
                refine r_op tabOk hnt rfl (s_minI rfl ?_) 
                refine r_op tabOk hnt rfl (s_assign rfl ?_) 
                refine r_end ?_
                refine q_then ?_
                refine w_seq ?_
                refine w_R ?_
                refine r_op tabOk hnt rfl (s_move rfl ?_) 
                refine r_op tabOk hnt rfl (s_move rfl ?_) 
                refine r_op tabOk hnt rfl (s_move rfl ?_) 
                refine r_op tabOk hnt rfl (s_move rfl ?_) 
                have hpf := (hI.put (Int.toNat (min ((rest.length : Nat) : Int) (within e2 0 13)))).1.few (by omega : wm.length ≤ 10)
                rw [List.length_append] at hpf
                try rw [List.take_length] at hpf
                refine r_op tabOk hnt rfl (s_cutM_hi (b := Int.toNat (min ((rest.length : Nat) : Int) (within e2 0 13))) (f := enc8) (l := rest) tab_27 rfl tab_5 ⟨rfl, by decide⟩ rfl (bound_some rfl (by omega)) (by omega) ?_) 
                refine r_op tabOk hnt rfl (s_callX (r2 := pS 3 true eMsg ((putV q false (rest.take (Int.toNat (min ((rest.length : Nat) : Int) (within e2 0 13))))).1)) (nx1 := 3) (H2 := [(0, .obj [pS 1 false enc8 q, pB false]), (1, oB true 3 eMsg gm), (2, oB true 3 eMsg wm)]) (H3 := [(0, .obj [pS 1 false enc8 ((putV q false (rest.take (Int.toNat (min ((rest.length : Nat) : Int) (within e2 0 13))))).2.1), pB ((putV q false (rest.take (Int.toNat (min ((rest.length : Nat) : Int) (within e2 0 13))))).2.2)]), (1, oB true 3 eMsg gm), (2, oB true 3 eMsg wm)]) [0] [.obj [pS 1 false enc8 q, pB false]] rfl rfl rfl (handed_of (by decide) ⟨rfl, trivial⟩) rfl rfl rfl rfl rfl rfl (w_mbap_Stream_Put q false false (rest.take (Int.toNat (min ((rest.length : Nat) : Int) (within e2 0 13)))) false (by first | omega | assumption | (simp; omega) | decide | (simp; done))) rfl (dist_of rfl) rfl rfl rfl rfl ?_) 
                refine r_op tabOk hnt rfl (s_appR0 (f := eMsg) (l := gm) (xs := (putV q false (rest.take (Int.toNat (min ((rest.length : Nat) : Int) (within e2 0 13))))).1) tab_39 rfl tab_30 ⟨rfl, by decide, by decide⟩ (srcM tab_39 rfl (hM_sl (f := eMsg) rfl)) rfl rfl (by first | omega | (simp; omega)) ?_) 
                refine r_op tabOk hnt rfl (s_assign rfl ?_) 
                refine r_set [(1, pS 1 cl_ns encI ns), (5, PV.ptr 0 0), (6, pS 1 false enc8 rest), (7, PV.ref 2 0 none), (10, PV.ref 3 0 none), (11, pN k), (12, pI (min ((rest.length : Nat) : Int) (within e2 0 13))), (66, pN k), (67, pB (decide (((k : Nat) : Int) < 60)))] [(3, oB true 3 eMsg (gm ++ ((putV q false (rest.take (Int.toNat (min ((rest.length : Nat) : Int) (within e2 0 13))))).1))), (0, .obj [pS 1 false enc8 ((putV q false (rest.take (Int.toNat (min ((rest.length : Nat) : Int) (within e2 0 13))))).2.1), pB ((putV q false (rest.take (Int.toNat (min ((rest.length : Nat) : Int) (within e2 0 13))))).2.2)]), (2, oB true 3 eMsg wm)] 4 ⟨rfl, rfl, rfl, rfl, rfl, rfl, rfl, rfl, rfl, trivial⟩ rfl rfl ?_
                refine r_end ?_
                refine q_then ?_
                refine w_leC (n := 0) (j := 1) (y := pB false) rfl rfl (le_of_eq (congrArg (fun z : Bool => pB z) (show ((putV q false (rest.take (Int.toNat (min ((rest.length : Nat) : Int) (within e2 0 13))))).2.2) = false by exact (hI.put _).2))) ?_
                refine w_R ?_
                refine r_op tabOk hnt rfl (s_move rfl ?_) 
                refine r_op tabOk hnt rfl (s_move rfl ?_) 
                refine r_op tabOk hnt rfl (s_cutM_lo (a := Int.toNat (min ((rest.length : Nat) : Int) (within e2 0 13))) (f := enc8) (l := rest) tab_27 rfl tab_5 ⟨rfl, by decide⟩ rfl (bound_some rfl (by omega)) (by omega) ?_) 
                refine r_op tabOk hnt rfl (s_assign rfl ?_) 
                refine r_end ?_
                refine q_block ?_
                refine q_then ?_
                refine w_R ?_
                refine r_op tabOk hnt rfl (s_move rfl ?_) 
                refine r_op tabOk hnt rfl (s_addN (a := k) (b := 1) rfl rfl (by omega) (by omega) (by omega) ?_) 
                refine r_op tabOk hnt rfl (s_assign rfl ?_) 
                refine r_end ?_
                refine q_then ?_
                refine ⟨((putV q false (rest.take (Int.toNat (min ((rest.length : Nat) : Int) (within e2 0 13))))).2.1), (rest.drop (Int.toNat (min ((rest.length : Nat) : Int) (within e2 0 13)))), (gm ++ ((putV q false (rest.take (Int.toNat (min ((rest.length : Nat) : Int) (within e2 0 13))))).1)), (k + 1), ?_, ?_, ⟨[(0, 0), (1, 3), (2, 2)], by rw [hk]; decide, ⟨⟨_, rfl, rfl, rfl⟩, ⟨_, rfl, rfl, rfl⟩, ⟨_, rfl, rfl, rfl⟩, ⟨_, rfl, rfl, rfl⟩, ⟨_, rfl, rfl, rfl⟩, ⟨_, rfl, rfl, rfl⟩, trivial⟩, ⟨⟨_, _, rfl, rfl, rfl, rfl⟩, ⟨_, _, rfl, rfl, rfl, rfl⟩, ⟨_, _, rfl, rfl, rfl, rfl⟩, trivial⟩, by rw [hk]; decide⟩⟩
                ·
                  exact ⟨(hI.put _).1, by rw [List.length_drop]; omega⟩
                · rw [List.length_drop]; omega
              ·
                have c3_ := c3
                try simp only [decide_eq_true_eq, decide_eq_false_iff_not, Bool.not_eq_true', Bool.not_eq_false', Bool.not_true, Bool.not_false, Bool.not_eq_eq_eq_not, Int.not_lt, Int.not_le] at c3
                refine w_skip ?_
                refine q_then ?_
                refine w_seq ?_
                refine w_R ?_
                refine r_op tabOk hnt rfl (s_move rfl ?_) 
                refine r_op tabOk hnt rfl (s_move rfl ?_) 
                refine r_op tabOk hnt rfl (s_move rfl ?_) 
                refine r_op tabOk hnt rfl (s_move rfl ?_) 
                have hpf := (hI.put rest.length).1.few (by omega : wm.length ≤ 10)
                rw [List.length_append] at hpf
                try rw [List.take_length] at hpf
                refine r_op tabOk hnt rfl (s_cutM_hi (b := rest.length) (f := enc8) (l := rest) tab_27 rfl tab_5 ⟨rfl, by decide⟩ rfl (bound_some rfl (by omega)) (by omega) ?_) 
                refine r_op tabOk hnt rfl (s_callX (r2 := pS 3 true eMsg ((putV q false (rest.take rest.length)).1)) (nx1 := 3) (H2 := [(0, .obj [pS 1 false enc8 q, pB false]), (1, oB true 3 eMsg gm), (2, oB true 3 eMsg wm)]) (H3 := [(0, .obj [pS 1 false enc8 ((putV q false (rest.take rest.length)).2.1), pB ((putV q false (rest.take rest.length)).2.2)]), (1, oB true 3 eMsg gm), (2, oB true 3 eMsg wm)]) [0] [.obj [pS 1 false enc8 q, pB false]] rfl rfl rfl (handed_of (by decide) ⟨rfl, trivial⟩) rfl rfl rfl rfl rfl rfl (w_mbap_Stream_Put q false false (rest.take rest.length) false (by first | omega | assumption | (simp; omega) | decide | (simp; done))) rfl (dist_of rfl) rfl rfl rfl rfl ?_) 
                refine r_op tabOk hnt rfl (s_appR0 (f := eMsg) (l := gm) (xs := (putV q false (rest.take rest.length)).1) tab_39 rfl tab_30 ⟨rfl, by decide, by decide⟩ (srcM tab_39 rfl (hM_sl (f := eMsg) rfl)) rfl rfl (by first | omega | (simp; omega)) ?_) 
                refine r_op tabOk hnt rfl (s_assign rfl ?_) 
                refine r_set [(1, pS 1 cl_ns encI ns), (5, PV.ptr 0 0), (6, pS 1 false enc8 rest), (7, PV.ref 2 0 none), (10, PV.ref 3 0 none), (11, pN k), (12, pN rest.length), (66, pN k), (67, pB (decide (((k : Nat) : Int) < 60)))] [(3, oB true 3 eMsg (gm ++ ((putV q false (rest.take rest.length)).1))), (0, .obj [pS 1 false enc8 ((putV q false (rest.take rest.length)).2.1), pB ((putV q false (rest.take rest.length)).2.2)]), (2, oB true 3 eMsg wm)] 4 ⟨rfl, rfl, rfl, rfl, rfl, rfl, rfl, rfl, rfl, trivial⟩ rfl rfl ?_
                refine r_end ?_
                refine q_then ?_
                refine w_leC (n := 0) (j := 1) (y := pB false) rfl rfl (le_of_eq (congrArg (fun z : Bool => pB z) (show ((putV q false (rest.take rest.length)).2.2) = false by exact (hI.put _).2))) ?_
                refine w_R ?_
                refine r_op tabOk hnt rfl (s_move rfl ?_) 
                refine r_op tabOk hnt rfl (s_move rfl ?_) 
                refine r_op tabOk hnt rfl (s_cutM_lo (a := rest.length) (f := enc8) (l := rest) tab_27 rfl tab_5 ⟨rfl, by decide⟩ rfl (bound_some rfl (by omega)) (by omega) ?_) 
                refine r_op tabOk hnt rfl (s_assign rfl ?_) 
                refine r_end ?_
                refine q_block ?_
                refine q_then ?_
                refine w_R ?_
                refine r_op tabOk hnt rfl (s_move rfl ?_) 
                refine r_op tabOk hnt rfl (s_addN (a := k) (b := 1) rfl rfl (by omega) (by omega) (by omega) ?_) 
                refine r_op tabOk hnt rfl (s_assign rfl ?_) 
                refine r_end ?_
                refine q_then ?_
                refine ⟨((putV q false (rest.take rest.length)).2.1), (rest.drop rest.length), (gm ++ ((putV q false (rest.take rest.length)).1)), (k + 1), ?_, ?_, ⟨[(0, 0), (1, 3), (2, 2)], by rw [hk]; decide, ⟨⟨_, rfl, rfl, rfl⟩, ⟨_, rfl, rfl, rfl⟩, ⟨_, rfl, rfl, rfl⟩, ⟨_, rfl, rfl, rfl⟩, ⟨_, rfl, rfl, rfl⟩, ⟨_, rfl, rfl, rfl⟩, trivial⟩, ⟨⟨_, _, rfl, rfl, rfl, rfl⟩, ⟨_, _, rfl, rfl, rfl, rfl⟩, ⟨_, _, rfl, rfl, rfl, rfl⟩, trivial⟩, by rw [hk]; decide⟩⟩
                ·
                  exact ⟨(hI.put _).1, by rw [List.length_drop]; omega⟩
                · rw [List.length_drop]; omega
            ·
              have g2' := g2
              try simp only [decide_eq_true_eq, decide_eq_false_iff_not, Bool.not_eq_true', Bool.not_eq_false', Bool.not_true, Bool.not_false, Bool.not_eq_eq_eq_not, Int.not_lt, Int.not_le] at g2'
              refine r_if tabOk hnt rfl rfl rfl (fun e => absurd (e.symm.trans g2) (by decide)) (fun _ => ?_)
              refine r_op tabOk hnt rfl (s_pick_f rfl g2 rfl ?_) 
              refine r_end ?_
              refine q_then ?_
              refine w_if rfl (fun e => absurd e (by decide)) (fun _ => ?_)
              refine w_skip ?_
              refine q_then ?_
              refine w_seq ?_
              refine w_R ?_
              refine r_op tabOk hnt rfl (s_move rfl ?_) 
              refine r_op tabOk hnt rfl (s_move rfl ?_) 
              refine r_op tabOk hnt rfl (s_move rfl ?_) 
              refine r_op tabOk hnt rfl (s_move rfl ?_) 
              have hpf := (hI.put rest.length).1.few (by omega : wm.length ≤ 10)
              rw [List.length_append] at hpf
              try rw [List.take_length] at hpf
              refine r_op tabOk hnt rfl (s_cutM_hi (b := rest.length) (f := enc8) (l := rest) tab_27 rfl tab_5 ⟨rfl, by decide⟩ rfl (bound_some rfl (by omega)) (by omega) ?_) 
              refine r_op tabOk hnt rfl (s_callX (r2 := pS 3 true eMsg ((putV q false (rest.take rest.length)).1)) (nx1 := 3) (H2 := [(0, .obj [pS 1 false enc8 q, pB false]), (1, oB true 3 eMsg gm), (2, oB true 3 eMsg wm)]) (H3 := [(0, .obj [pS 1 false enc8 ((putV q false (rest.take rest.length)).2.1), pB ((putV q false (rest.take rest.length)).2.2)]), (1, oB true 3 eMsg gm), (2, oB true 3 eMsg wm)]) [0] [.obj [pS 1 false enc8 q, pB false]] rfl rfl rfl (handed_of (by decide) ⟨rfl, trivial⟩) rfl rfl rfl rfl rfl rfl (w_mbap_Stream_Put q false false (rest.take rest.length) false (by first | omega | assumption | (simp; omega) | decide | (simp; done))) rfl (dist_of rfl) rfl rfl rfl rfl ?_) 
              refine r_op tabOk hnt rfl (s_appR0 (f := eMsg) (l := gm) (xs := (putV q false (rest.take rest.length)).1) tab_39 rfl tab_30 ⟨rfl, by decide, by decide⟩ (srcM tab_39 rfl (hM_sl (f := eMsg) rfl)) rfl rfl (by first | omega | (simp; omega)) ?_) 
              refine r_op tabOk hnt rfl (s_assign rfl ?_) 
              refine r_set [(1, pS 1 cl_ns encI ns), (5, PV.ptr 0 0), (6, pS 1 false enc8 rest), (7, PV.ref 2 0 none), (10, PV.ref 3 0 none), (11, pN k), (12, pN rest.length)] [(3, oB true 3 eMsg (gm ++ ((putV q false (rest.take rest.length)).1))), (0, .obj [pS 1 false enc8 ((putV q false (rest.take rest.length)).2.1), pB ((putV q false (rest.take rest.length)).2.2)]), (2, oB true 3 eMsg wm)] 4 ⟨rfl, rfl, rfl, rfl, rfl, rfl, rfl, trivial⟩ rfl rfl ?_
              refine r_end ?_
              refine q_then ?_
              refine w_leC (n := 0) (j := 1) (y := pB false) rfl rfl (le_of_eq (congrArg (fun z : Bool => pB z) (show ((putV q false (rest.take rest.length)).2.2) = false by exact (hI.put _).2))) ?_
              refine w_R ?_
              refine r_op tabOk hnt rfl (s_move rfl ?_) 
              refine r_op tabOk hnt rfl (s_move rfl ?_) 
              refine r_op tabOk hnt rfl (s_cutM_lo (a := rest.length) (f := enc8) (l := rest) tab_27 rfl tab_5 ⟨rfl, by decide⟩ rfl (bound_some rfl (by omega)) (by omega) ?_) 
              refine r_op tabOk hnt rfl (s_assign rfl ?_) 
              refine r_end ?_
              refine q_block ?_
              refine q_then ?_
              refine w_R ?_
              refine r_op tabOk hnt rfl (s_move rfl ?_) 
              refine r_op tabOk hnt rfl (s_addN (a := k) (b := 1) rfl rfl (by omega) (by omega) (by omega) ?_) 
              refine r_op tabOk hnt rfl (s_assign rfl ?_) 
              refine r_end ?_
              refine q_then ?_
              refine ⟨((putV q false (rest.take rest.length)).2.1), (rest.drop rest.length), (gm ++ ((putV q false (rest.take rest.length)).1)), (k + 1), ?_, ?_, ⟨[(0, 0), (1, 3), (2, 2)], by rw [hk]; decide, ⟨⟨_, rfl, rfl, rfl⟩, ⟨_, rfl, rfl, rfl⟩, ⟨_, rfl, rfl, rfl⟩, ⟨_, rfl, rfl, rfl⟩, ⟨_, rfl, rfl, rfl⟩, ⟨_, rfl, rfl, rfl⟩, trivial⟩, ⟨⟨_, _, rfl, rfl, rfl, rfl⟩, ⟨_, _, rfl, rfl, rfl, rfl⟩, ⟨_, _, rfl, rfl, rfl, rfl⟩, trivial⟩, by rw [hk]; decide⟩⟩
              ·
                exact ⟨(hI.put _).1, by rw [List.length_drop]; omega⟩
              · rw [List.length_drop]; omega
          ·
            have c2_ := c2
            try simp only [decide_eq_true_eq, decide_eq_false_iff_not, Bool.not_eq_true', Bool.not_eq_false', Bool.not_true, Bool.not_false, Bool.not_eq_eq_eq_not, Int.not_lt, Int.not_le] at c2
            refine w_exit ?_
            refine q_then_exit ?_
            refine q_then_exit ?_
            refine q_block_exit ?_
            refine q_then ?_
            refine w_seq ?_
            refine w_seq ?_
            have hrest : rest = [] := List.eq_nil_of_length_eq_zero (by omega)
            obtain ⟨hgw, hq⟩ := hI.done hrest
            refine w_H (H' := [(0, .obj [pS 1 false enc8 q, pB false]), (1, oB true 3 eMsg wm), (2, oB true 3 eMsg wm)]) (congrArg (fun z => ([(0, .obj [pS 1 false enc8 q, pB false]), (1, oB true 3 eMsg z), (2, oB true 3 eMsg wm)] : Heap)) (show gm = wm by exact hgw)) ?_
            refine w_leC (n := 0) (j := 0) (y := pS 1 false enc8 ([] : List UInt8)) rfl rfl (le_of_eq (congrArg (fun z => pS 1 false enc8 z) (show q = ([] : List UInt8) by exact hq))) ?_
            refine w_R ?_
            refine r_op tabOk hnt rfl (s_move rfl ?_) 
            refine r_op tabOk hnt rfl (s_lenM (l := wm) tab_39 rfl (hM_ref0 (f := eMsg) rfl rfl) ?_) 
            refine r_op tabOk hnt rfl (s_move rfl ?_) 
            refine r_op tabOk hnt rfl (s_lenM (l := wm) tab_39 rfl (hM_ref0 (f := eMsg) rfl rfl) ?_) 
            refine r_op tabOk hnt rfl (s_neq rfl rfl ?_) 
            refine r_op tabOk hnt rfl (s_move rfl ?_) 
            refine r_if tabOk hnt rfl rfl rfl (fun g3 => ?_) (fun g3 => ?_)
            ·
              have g3' := g3
              try simp only [decide_eq_true_eq, decide_eq_false_iff_not, Bool.not_eq_true', Bool.not_eq_false', Bool.not_true, Bool.not_false, Bool.not_eq_eq_eq_not, Int.not_lt, Int.not_le] at g3'
              refine r_op tabOk hnt rfl (s_move rfl ?_) 
              refine r_if tabOk hnt rfl rfl rfl (fun _ => ?_) (fun e => absurd (e.symm.trans g3) (by decide))
              refine r_op tabOk hnt rfl (s_callX (r2 := pB false) (nx1 := 3) (H2 := [(0, .obj [pS 1 false enc8 ([] : List UInt8), pB false]), (1, oB true 3 eMsg wm), (2, oB true 3 eMsg wm)]) (H3 := [(0, .obj [pS 1 false enc8 ([] : List UInt8), pB false]), (1, oB true 3 eMsg wm), (2, oB true 3 eMsg wm)]) [0] [.obj [pS 1 false enc8 ([] : List UInt8), pB false]] rfl rfl rfl (handed_of (by decide) ⟨rfl, trivial⟩) rfl rfl rfl rfl rfl rfl (w_mbap_Stream_Closed ([] : List UInt8) false false) rfl (dist_of rfl) rfl rfl rfl rfl ?_) 
              refine r_op tabOk hnt rfl (s_pick_f rfl g3 rfl ?_) 
              refine r_op tabOk hnt rfl (s_move rfl ?_) 
              refine r_if tabOk hnt rfl rfl rfl (fun g4 => ?_) (fun g4 => ?_)
              ·
                have g4' := g4
                try simp only [decide_eq_true_eq, decide_eq_false_iff_not, Bool.not_eq_true', Bool.not_eq_false', Bool.not_true, Bool.not_false, Bool.not_eq_eq_eq_not, Int.not_lt, Int.not_le] at g4'
                refine r_op tabOk hnt rfl (s_move rfl ?_) 
                refine r_if tabOk hnt rfl rfl rfl (fun _ => ?_) (fun e => absurd (e.symm.trans g4) (by decide))
                refine r_op tabOk hnt rfl (s_callX (r2 := pN (([] : List UInt8).length)) (nx1 := 3) (H2 := [(0, .obj [pS 1 false enc8 ([] : List UInt8), pB false]), (1, oB true 3 eMsg wm), (2, oB true 3 eMsg wm)]) (H3 := [(0, .obj [pS 1 false enc8 ([] : List UInt8), pB false]), (1, oB true 3 eMsg wm), (2, oB true 3 eMsg wm)]) [0] [.obj [pS 1 false enc8 ([] : List UInt8), pB false]] rfl rfl rfl (handed_of (by decide) ⟨rfl, trivial⟩) rfl rfl rfl rfl rfl rfl (w_mbap_Stream_Len ([] : List UInt8) false false) rfl (dist_of rfl) rfl rfl rfl rfl ?_) 
                refine r_if tabOk hnt rfl rfl rfl (fun _ => ?_) (fun e => absurd (e.symm.trans g4) (by decide))
                refine r_op tabOk hnt rfl (s_neq rfl rfl ?_) 
                refine r_op tabOk hnt rfl (s_pick_f rfl g4 rfl ?_) 
                refine r_set [(7, PV.ref 2 0 none), (10, PV.ref 1 0 none), (99, pB (!decide (((([] : List UInt8).length : Nat) : Int) = 0)))] [(0, .obj [pS 1 false enc8 ([] : List UInt8), pB false]), (1, oB true 3 eMsg wm), (2, oB true 3 eMsg wm)] 3 ⟨rfl, rfl, rfl, trivial⟩ rfl rfl ?_
                refine r_end ?_
                refine q_then ?_
                refine w_if rfl (fun c4 => ?_) (fun c4 => ?_)
                ·
                  have c4_ := c4
                  exact absurd c4 (by simp)
                ·
                  have c4_ := c4
                  try simp only [decide_eq_true_eq, decide_eq_false_iff_not, Bool.not_eq_true', Bool.not_eq_false', Bool.not_true, Bool.not_false, Bool.not_eq_eq_eq_not, Int.not_lt, Int.not_le] at c4
                  refine w_skip ?_
                  refine q_then ?_
                  refine w_seq ?_
                  refine w_seq ?_
                  refine w_R ?_
                  refine r_op tabOk hnt rfl (s_move rfl ?_) 
                  refine r_op tabOk hnt rfl (s_lenM (l := wm) tab_39 rfl (hM_ref0 (f := eMsg) rfl rfl) ?_) 
                  refine r_op tabOk hnt rfl (s_move rfl ?_) 
                  refine r_end ?_
                  refine q_then ?_
                  refine w_block ?_
                  refine loop1 (fun (z : Nat) => z ≤ wm.length) (fun (z : Nat) => [(7, PV.ref 0 0 none), (10, PV.ref 1 0 none), (101, pN wm.length), (102, pN z)]) 2 (fun (z : Nat) => [(0, oB true 3 eMsg wm), (1, oB true 3 eMsg wm)]) (fun (z : Nat) => wm.length - z) (0) ?_ ⟨[(0, 2), (1, 1)], by rw [hk]; decide, ⟨⟨_, rfl, rfl, rfl⟩, ⟨_, rfl, rfl, rfl⟩, ⟨_, rfl, rfl, rfl⟩, ⟨_, rfl, rfl, rfl⟩, trivial⟩, ⟨⟨_, _, rfl, rfl, rfl, rfl⟩, ⟨_, _, rfl, rfl, rfl, rfl⟩, trivial⟩, by rw [hk]; decide⟩ ?_
                  · omega
                  ·
                    intro z hI
                    refine w_seq ?_
                    refine w_R ?_
                    refine r_op tabOk hnt rfl (s_lss rfl rfl ?_) 
                    refine r_end ?_
                    refine q_then ?_
                    refine w_seq ?_
                    refine w_if rfl (fun c5 => ?_) (fun c5 => ?_)
                    ·
                      have c5_ := c5
                      try simp only [decide_eq_true_eq, decide_eq_false_iff_not, Bool.not_eq_true', Bool.not_eq_false', Bool.not_true, Bool.not_false, Bool.not_eq_eq_eq_not, Int.not_lt, Int.not_le] at c5
                      refine w_skip ?_
                      refine q_then ?_
                      refine w_seq ?_
                      refine w_block ?_
                      refine w_seq ?_
                      refine w_R ?_
                      refine r_op tabOk hnt rfl (s_move rfl ?_) 
                      refine r_op tabOk hnt rfl (s_assign rfl ?_) 
                      refine r_end ?_
                      refine q_then ?_
                      refine w_seq ?_
                      refine W_drawn tabOk mixed hnt [[], [], [0, 1], [0, 1, 2], [0, 1, 2, 3], [], [], [5, 6], [5, 6, 7], [5, 6, 7, 8], [0, 1, 2, 3, 4, 5, 6, 7, 8, 9], [0, 1, 2, 3, 4, 5, 6, 7, 8, 9, 10], [0, 1, 2, 3, 4, 5, 6, 7, 8, 9, 10, 11], [0, 1, 2, 3, 4, 5, 6, 7, 8, 9, 10, 11], [0, 1, 2, 3, 4, 5, 6, 7, 8, 9, 10, 11, 12, 13], [0, 1, 2, 3, 4, 5, 6, 7, 8, 9, 10, 11, 12, 13, 14], [0, 1, 2, 3, 4, 5, 6, 7, 8, 9, 10, 11, 12, 13, 14, 15], [0, 1, 2, 3, 4, 5, 6, 7, 8, 9, 10, 11], [0, 1, 2, 3, 4, 5, 6, 7, 8, 9, 10, 11], [0, 1, 2, 3, 4, 5, 6, 7, 8, 9, 10, 11, 17, 18], [0, 1, 2, 3, 4, 5, 6, 7, 8, 9, 10, 11, 17, 18, 19], [0, 1, 2, 3, 4, 5, 6, 7, 8, 9, 10, 11, 17, 18, 19, 20], [0, 1, 2, 3, 4, 5, 6, 7, 8, 9, 10, 11, 12, 13, 14, 15, 16, 17, 18, 19, 20, 21], [0, 1, 2, 3, 4, 5, 6, 7, 8, 9, 10, 11, 12, 13, 14, 15, 16, 17, 18, 19, 20, 21, 22], [0, 1, 2, 3, 4, 5, 6, 7, 8, 9, 10, 11, 12, 13, 14, 15, 16, 17, 18, 19, 20, 21, 22, 23], [0, 1, 2, 3, 4, 5, 6, 7, 8, 9, 10, 11, 12, 13, 14, 15, 16, 17, 18, 19, 20, 21, 22, 23, 24], [0, 1, 2, 3, 4, 5, 6, 7, 8, 9, 10, 11, 12, 13, 14, 15, 16, 17, 18, 19, 20, 21, 22, 23, 24], [0, 1, 2, 3, 4, 5, 6, 7, 8, 9, 10, 11, 12, 13, 14, 15, 16, 17, 18, 19, 20, 21, 22, 23, 24, 25, 26], [0, 1, 2, 3, 4, 5, 6, 7, 8, 9, 10, 11, 12, 13, 14, 15, 16, 17, 18, 19, 20, 21, 22, 23, 24, 25, 26, 27], [0, 1, 2, 3, 4, 5, 6, 7, 8, 9, 10, 11, 12, 13, 14, 15, 16, 17, 18, 19, 20, 21, 22, 23, 24, 25, 26, 27, 28], [0, 1, 2, 3, 4, 5, 6, 7, 8, 9, 10, 11, 12, 13, 14, 15, 16, 17, 18, 19, 20, 21, 22, 23, 24, 25, 26, 27, 28, 29], [0, 1, 2, 3, 4, 5, 6, 7, 8, 9, 10, 11, 12, 13, 14, 15, 16, 17, 18, 19, 20, 21, 22, 23, 24], [0, 1, 2, 3, 4, 5, 6, 7, 8, 9, 10, 11, 12, 13, 14, 15, 16, 17, 18, 19, 20, 21, 22, 23, 24], [0, 1, 2, 3, 4, 5, 6, 7, 8, 9, 10, 11, 12, 13, 14, 15, 16, 17, 18, 19, 20, 21, 22, 23, 24, 31, 32], [0, 1, 2, 3, 4, 5, 6, 7, 8, 9, 10, 11, 12, 13, 14, 15, 16, 17, 18, 19, 20, 21, 22, 23, 24, 31, 32, 33], [0, 1, 2, 3, 4, 5, 6, 7, 8, 9, 10, 11, 12, 13, 14, 15, 16, 17, 18, 19, 20, 21, 22, 23, 24, 31, 32, 33, 34], [0, 1, 2, 3, 4, 5, 6, 7, 8, 9, 10, 11, 12, 13, 14, 15, 16, 17, 18, 19, 20, 21, 22, 23, 24, 31, 32, 33, 34, 35], [0, 1, 2, 3, 4, 5, 6, 7, 8, 9, 10, 11, 12, 13, 14, 15, 16, 17, 18, 19, 20, 21, 22, 23, 24, 25, 26, 27, 28, 29, 30, 31, 32, 33, 34, 35, 36], [0, 1, 2, 3, 4, 5, 6, 7, 8, 9, 10, 11, 12, 13, 14, 15, 16, 17, 18, 19, 20, 21, 22, 23, 24, 25, 26, 27, 28, 29, 30, 31, 32, 33, 34, 35, 36, 37]] (by kernel_rfl) ?_
                      refine d_op ?_
                      refine x_run0 [(10, PV.ref 1 0 none)] [] rfl rfl rfl rfl (s_move rfl ⟨rfl, rfl, rfl⟩) ?_
                      refine d_op ?_
                      refine x_run0 [(13, pN z)] [] rfl rfl rfl rfl (s_move rfl ⟨rfl, rfl, rfl⟩) ?_
                      refine d_op ?_
                      refine x_run [(105, PV.ref 1 0 none), (106, pN z)] [0, 1] [(1, oB true 3 eMsg wm)] [] [(1, oB true 3 eMsg wm)] [] [(0, oB true 3 eMsg wm), (1, oB true 3 eMsg wm)] rfl rfl rfl rfl rfl rfl (s_iaR0 (q := z) (f := eMsg) (l := wm) tab_39 rfl tab_30 rfl rfl (by omega) rfl rfl (by omega) ⟨rfl, rfl, rfl⟩) rfl ⟨rfl, trivial⟩ rfl rfl ?_
                      refine d_op ?_
                      refine x_run0 [(107, PV.ep 1 z 0)] [0, 1, 2] rfl rfl rfl rfl (s_fa_ep tab_30 rfl rfl tab_3 (by decide) rfl ⟨rfl, rfl, rfl⟩) ?_
                      refine d_op ?_
                      obtain ⟨e3, he3⟩ := get_of_lt wm (i := z) (by omega)
                      refine x_run [(108, PV.ep 1 z 0)] [0, 1, 2, 3] [(1, oB true 3 eMsg wm)] [] [(1, oB true 3 eMsg wm)] [] [(0, oB true 3 eMsg wm), (1, oB true 3 eMsg wm)] rfl rfl rfl rfl rfl rfl (s_ldM (b := e3) (f := eMsg) tab_3 rfl rfl rfl rfl he3 rfl ⟨rfl, rfl, rfl⟩) rfl ⟨rfl, trivial⟩ rfl rfl ?_
                      refine d_op ?_
                      refine x_run0 [(7, PV.ref 0 0 none)] [] rfl rfl rfl rfl (s_move rfl ⟨rfl, rfl, rfl⟩) ?_
                      refine d_op ?_
                      refine x_run0 [(13, pN z)] [] rfl rfl rfl rfl (s_move rfl ⟨rfl, rfl, rfl⟩) ?_
                      refine d_op ?_
                      refine x_run [(110, PV.ref 0 0 none), (111, pN z)] [5, 6] [(0, oB true 3 eMsg wm)] [] [(0, oB true 3 eMsg wm)] [] [(0, oB true 3 eMsg wm), (1, oB true 3 eMsg wm)] rfl rfl rfl rfl rfl rfl (s_iaR0 (q := z) (f := eMsg) (l := wm) tab_39 rfl tab_30 rfl rfl (by omega) rfl rfl (by omega) ⟨rfl, rfl, rfl⟩) rfl ⟨rfl, trivial⟩ rfl rfl ?_
                      refine d_op ?_
                      refine x_run0 [(112, PV.ep 0 z 0)] [5, 6, 7] rfl rfl rfl rfl (s_fa_ep tab_30 rfl rfl tab_3 (by decide) rfl ⟨rfl, rfl, rfl⟩) ?_
                      refine d_op ?_
                      refine x_run [(113, PV.ep 0 z 0)] [5, 6, 7, 8] [(0, oB true 3 eMsg wm)] [] [(0, oB true 3 eMsg wm)] [] [(0, oB true 3 eMsg wm), (1, oB true 3 eMsg wm)] rfl rfl rfl rfl rfl rfl (s_ldM (b := e3) (f := eMsg) tab_3 rfl rfl rfl rfl he3 rfl ⟨rfl, rfl, rfl⟩) rfl ⟨rfl, trivial⟩ rfl rfl ?_
                      refine d_op ?_
                      refine x_run0 [(109, pI e3.id), (114, pI e3.id)] [0, 1, 2, 3, 4, 5, 6, 7, 8, 9] rfl rfl rfl rfl (s_neq rfl rfl ⟨rfl, rfl, rfl⟩) ?_
                      refine d_op ?_
                      refine x_run0 [(115, pB (!decide (e3.id = e3.id)))] [0, 1, 2, 3, 4, 5, 6, 7, 8, 9, 10] rfl rfl rfl rfl (s_move rfl ⟨rfl, rfl, rfl⟩) ?_
                      refine x_if [(116, pB (!decide (e3.id = e3.id))), (10, PV.ref 1 0 none)] [0, 1, 2, 3, 4, 5, 6, 7, 8, 9, 10, 11] rfl rfl rfl rfl (fun g5 => ?_) (fun g5 => ?_)
                      ·
                        have g5' := g5
                        try simp only [decide_eq_true_eq, decide_eq_false_iff_not, Bool.not_eq_true', Bool.not_eq_false', Bool.not_true, Bool.not_false, Bool.not_eq_eq_eq_not, Int.not_lt, Int.not_le] at g5'
                        refine x_run0 [(116, pB (!decide (e3.id = e3.id))), (10, PV.ref 1 0 none)] [0, 1, 2, 3, 4, 5, 6, 7, 8, 9, 10, 11] rfl rfl rfl rfl (s_move rfl ⟨rfl, rfl, rfl⟩) ?_
                        refine x_if [(116, pB (!decide (e3.id = e3.id))), (13, pN z)] [0, 1, 2, 3, 4, 5, 6, 7, 8, 9, 10, 11] rfl rfl rfl rfl (fun _ => ?_) (fun e => absurd (e.symm.trans g5) (by decide))
                        refine x_run0 [(116, pB (!decide (e3.id = e3.id))), (13, pN z)] [0, 1, 2, 3, 4, 5, 6, 7, 8, 9, 10, 11] rfl rfl rfl rfl (s_move rfl ⟨rfl, rfl, rfl⟩) ?_
                        refine x_if [(116, pB (!decide (e3.id = e3.id))), (117, PV.ref 1 0 none), (118, pN z)] [0, 1, 2, 3, 4, 5, 6, 7, 8, 9, 10, 11, 12, 13] rfl rfl rfl rfl (fun _ => ?_) (fun e => absurd (e.symm.trans g5) (by decide))
                        refine x_run [(116, pB (!decide (e3.id = e3.id))), (117, PV.ref 1 0 none), (118, pN z)] [0, 1, 2, 3, 4, 5, 6, 7, 8, 9, 10, 11, 12, 13] [(1, oB true 3 eMsg wm)] [] [(1, oB true 3 eMsg wm)] [] [(0, oB true 3 eMsg wm), (1, oB true 3 eMsg wm)] rfl rfl rfl rfl rfl rfl (s_iaR0 (q := z) (f := eMsg) (l := wm) tab_39 rfl tab_30 rfl rfl (by omega) rfl rfl (by omega) ⟨rfl, rfl, rfl⟩) rfl ⟨rfl, trivial⟩ rfl rfl ?_
                        refine x_if [(116, pB (!decide (e3.id = e3.id))), (119, PV.ep 1 z 0)] [0, 1, 2, 3, 4, 5, 6, 7, 8, 9, 10, 11, 12, 13, 14] rfl rfl rfl rfl (fun _ => ?_) (fun e => absurd (e.symm.trans g5) (by decide))
                        refine x_run0 [(116, pB (!decide (e3.id = e3.id))), (119, PV.ep 1 z 0)] [0, 1, 2, 3, 4, 5, 6, 7, 8, 9, 10, 11, 12, 13, 14] rfl rfl rfl rfl (s_fa_ep tab_30 rfl rfl tab_3 (by decide) rfl ⟨rfl, rfl, rfl⟩) ?_
                        refine x_if [(116, pB (!decide (e3.id = e3.id))), (120, PV.ep 1 z 1)] [0, 1, 2, 3, 4, 5, 6, 7, 8, 9, 10, 11, 12, 13, 14, 15] rfl rfl rfl rfl (fun _ => ?_) (fun e => absurd (e.symm.trans g5) (by decide))
                        refine x_run [(116, pB (!decide (e3.id = e3.id))), (120, PV.ep 1 z 1)] [0, 1, 2, 3, 4, 5, 6, 7, 8, 9, 10, 11, 12, 13, 14, 15] [(1, oB true 3 eMsg wm)] [] [(1, oB true 3 eMsg wm)] [] [(0, oB true 3 eMsg wm), (1, oB true 3 eMsg wm)] rfl rfl rfl rfl rfl rfl (s_ldM (b := e3) (f := eMsg) tab_3 rfl rfl rfl rfl he3 rfl ⟨rfl, rfl, rfl⟩) rfl ⟨rfl, trivial⟩ rfl rfl ?_
                        refine x_if [(116, pB (!decide (e3.id = e3.id))), (7, PV.ref 0 0 none)] [0, 1, 2, 3, 4, 5, 6, 7, 8, 9, 10, 11] rfl rfl rfl rfl (fun _ => ?_) (fun e => absurd (e.symm.trans g5) (by decide))
                        refine x_run0 [(116, pB (!decide (e3.id = e3.id))), (7, PV.ref 0 0 none)] [0, 1, 2, 3, 4, 5, 6, 7, 8, 9, 10, 11] rfl rfl rfl rfl (s_move rfl ⟨rfl, rfl, rfl⟩) ?_
                        refine x_if [(116, pB (!decide (e3.id = e3.id))), (13, pN z)] [0, 1, 2, 3, 4, 5, 6, 7, 8, 9, 10, 11] rfl rfl rfl rfl (fun _ => ?_) (fun e => absurd (e.symm.trans g5) (by decide))
                        refine x_run0 [(116, pB (!decide (e3.id = e3.id))), (13, pN z)] [0, 1, 2, 3, 4, 5, 6, 7, 8, 9, 10, 11] rfl rfl rfl rfl (s_move rfl ⟨rfl, rfl, rfl⟩) ?_
                        refine x_if [(116, pB (!decide (e3.id = e3.id))), (122, PV.ref 0 0 none), (123, pN z)] [0, 1, 2, 3, 4, 5, 6, 7, 8, 9, 10, 11, 17, 18] rfl rfl rfl rfl (fun _ => ?_) (fun e => absurd (e.symm.trans g5) (by decide))
                        refine x_run [(116, pB (!decide (e3.id = e3.id))), (122, PV.ref 0 0 none), (123, pN z)] [0, 1, 2, 3, 4, 5, 6, 7, 8, 9, 10, 11, 17, 18] [(0, oB true 3 eMsg wm)] [] [(0, oB true 3 eMsg wm)] [] [(0, oB true 3 eMsg wm), (1, oB true 3 eMsg wm)] rfl rfl rfl rfl rfl rfl (s_iaR0 (q := z) (f := eMsg) (l := wm) tab_39 rfl tab_30 rfl rfl (by omega) rfl rfl (by omega) ⟨rfl, rfl, rfl⟩) rfl ⟨rfl, trivial⟩ rfl rfl ?_
                        refine x_if [(116, pB (!decide (e3.id = e3.id))), (124, PV.ep 0 z 0)] [0, 1, 2, 3, 4, 5, 6, 7, 8, 9, 10, 11, 17, 18, 19] rfl rfl rfl rfl (fun _ => ?_) (fun e => absurd (e.symm.trans g5) (by decide))
                        refine x_run0 [(116, pB (!decide (e3.id = e3.id))), (124, PV.ep 0 z 0)] [0, 1, 2, 3, 4, 5, 6, 7, 8, 9, 10, 11, 17, 18, 19] rfl rfl rfl rfl (s_fa_ep tab_30 rfl rfl tab_3 (by decide) rfl ⟨rfl, rfl, rfl⟩) ?_
                        refine x_if [(116, pB (!decide (e3.id = e3.id))), (125, PV.ep 0 z 1)] [0, 1, 2, 3, 4, 5, 6, 7, 8, 9, 10, 11, 17, 18, 19, 20] rfl rfl rfl rfl (fun _ => ?_) (fun e => absurd (e.symm.trans g5) (by decide))
                        refine x_run [(116, pB (!decide (e3.id = e3.id))), (125, PV.ep 0 z 1)] [0, 1, 2, 3, 4, 5, 6, 7, 8, 9, 10, 11, 17, 18, 19, 20] [(0, oB true 3 eMsg wm)] [] [(0, oB true 3 eMsg wm)] [] [(0, oB true 3 eMsg wm), (1, oB true 3 eMsg wm)] rfl rfl rfl rfl rfl rfl (s_ldM (b := e3) (f := eMsg) tab_3 rfl rfl rfl rfl he3 rfl ⟨rfl, rfl, rfl⟩) rfl ⟨rfl, trivial⟩ rfl rfl ?_
                        refine x_if [(116, pB (!decide (e3.id = e3.id))), (121, pI e3.unit), (126, pI e3.unit)] [0, 1, 2, 3, 4, 5, 6, 7, 8, 9, 10, 11, 12, 13, 14, 15, 16, 17, 18, 19, 20, 21] rfl rfl rfl rfl (fun _ => ?_) (fun e => absurd (e.symm.trans g5) (by decide))
                        refine x_run0 [(116, pB (!decide (e3.id = e3.id))), (121, pI e3.unit), (126, pI e3.unit)] [0, 1, 2, 3, 4, 5, 6, 7, 8, 9, 10, 11, 12, 13, 14, 15, 16, 17, 18, 19, 20, 21] rfl rfl rfl rfl (s_neq rfl rfl ⟨rfl, rfl, rfl⟩) ?_
                        refine d_op ?_
                        refine x_run0 [(116, pB (!decide (e3.id = e3.id))), (127, pB (!decide (e3.unit = e3.unit)))] [0, 1, 2, 3, 4, 5, 6, 7, 8, 9, 10, 11, 12, 13, 14, 15, 16, 17, 18, 19, 20, 21, 22] rfl rfl rfl rfl (s_pick_f rfl g5 rfl ⟨rfl, rfl, rfl⟩) ?_
                        refine d_op ?_
                        refine x_run0 [(128, pB (!decide (e3.unit = e3.unit)))] [0, 1, 2, 3, 4, 5, 6, 7, 8, 9, 10, 11, 12, 13, 14, 15, 16, 17, 18, 19, 20, 21, 22, 23] rfl rfl rfl rfl (s_move rfl ⟨rfl, rfl, rfl⟩) ?_
                        refine x_if [(129, pB (!decide (e3.unit = e3.unit))), (10, PV.ref 1 0 none)] [0, 1, 2, 3, 4, 5, 6, 7, 8, 9, 10, 11, 12, 13, 14, 15, 16, 17, 18, 19, 20, 21, 22, 23, 24] rfl rfl rfl rfl (fun g6 => ?_) (fun g6 => ?_)
                        ·
                          have g6' := g6
                          try simp only [decide_eq_true_eq, decide_eq_false_iff_not, Bool.not_eq_true', Bool.not_eq_false', Bool.not_true, Bool.not_false, Bool.not_eq_eq_eq_not, Int.not_lt, Int.not_le] at g6'
                          refine x_run0 [(129, pB (!decide (e3.unit = e3.unit))), (10, PV.ref 1 0 none)] [0, 1, 2, 3, 4, 5, 6, 7, 8, 9, 10, 11, 12, 13, 14, 15, 16, 17, 18, 19, 20, 21, 22, 23, 24] rfl rfl rfl rfl (s_move rfl ⟨rfl, rfl, rfl⟩) ?_
                          refine x_if [(129, pB (!decide (e3.unit = e3.unit))), (13, pN z)] [0, 1, 2, 3, 4, 5, 6, 7, 8, 9, 10, 11, 12, 13, 14, 15, 16, 17, 18, 19, 20, 21, 22, 23, 24] rfl rfl rfl rfl (fun _ => ?_) (fun e => absurd (e.symm.trans g6) (by decide))
                          refine x_run0 [(129, pB (!decide (e3.unit = e3.unit))), (13, pN z)] [0, 1, 2, 3, 4, 5, 6, 7, 8, 9, 10, 11, 12, 13, 14, 15, 16, 17, 18, 19, 20, 21, 22, 23, 24] rfl rfl rfl rfl (s_move rfl ⟨rfl, rfl, rfl⟩) ?_
                          refine x_if [(129, pB (!decide (e3.unit = e3.unit))), (130, PV.ref 1 0 none), (131, pN z)] [0, 1, 2, 3, 4, 5, 6, 7, 8, 9, 10, 11, 12, 13, 14, 15, 16, 17, 18, 19, 20, 21, 22, 23, 24, 25, 26] rfl rfl rfl rfl (fun _ => ?_) (fun e => absurd (e.symm.trans g6) (by decide))
                          refine x_run [(129, pB (!decide (e3.unit = e3.unit))), (130, PV.ref 1 0 none), (131, pN z)] [0, 1, 2, 3, 4, 5, 6, 7, 8, 9, 10, 11, 12, 13, 14, 15, 16, 17, 18, 19, 20, 21, 22, 23, 24, 25, 26] [(1, oB true 3 eMsg wm)] [] [(1, oB true 3 eMsg wm)] [] [(0, oB true 3 eMsg wm), (1, oB true 3 eMsg wm)] rfl rfl rfl rfl rfl rfl (s_iaR0 (q := z) (f := eMsg) (l := wm) tab_39 rfl tab_30 rfl rfl (by omega) rfl rfl (by omega) ⟨rfl, rfl, rfl⟩) rfl ⟨rfl, trivial⟩ rfl rfl ?_
                          refine x_if [(129, pB (!decide (e3.unit = e3.unit))), (132, PV.ep 1 z 0)] [0, 1, 2, 3, 4, 5, 6, 7, 8, 9, 10, 11, 12, 13, 14, 15, 16, 17, 18, 19, 20, 21, 22, 23, 24, 25, 26, 27] rfl rfl rfl rfl (fun _ => ?_) (fun e => absurd (e.symm.trans g6) (by decide))
                          refine x_run0 [(129, pB (!decide (e3.unit = e3.unit))), (132, PV.ep 1 z 0)] [0, 1, 2, 3, 4, 5, 6, 7, 8, 9, 10, 11, 12, 13, 14, 15, 16, 17, 18, 19, 20, 21, 22, 23, 24, 25, 26, 27] rfl rfl rfl rfl (s_fa_ep tab_30 rfl rfl tab_27 (by decide) rfl ⟨rfl, rfl, rfl⟩) ?_
                          refine x_if [(129, pB (!decide (e3.unit = e3.unit))), (133, PV.ep 1 z 2)] [0, 1, 2, 3, 4, 5, 6, 7, 8, 9, 10, 11, 12, 13, 14, 15, 16, 17, 18, 19, 20, 21, 22, 23, 24, 25, 26, 27, 28] rfl rfl rfl rfl (fun _ => ?_) (fun e => absurd (e.symm.trans g6) (by decide))
                          refine x_run [(129, pB (!decide (e3.unit = e3.unit))), (133, PV.ep 1 z 2)] [0, 1, 2, 3, 4, 5, 6, 7, 8, 9, 10, 11, 12, 13, 14, 15, 16, 17, 18, 19, 20, 21, 22, 23, 24, 25, 26, 27, 28] [(1, oB true 3 eMsg wm)] [] [(1, oB true 3 eMsg wm)] [] [(0, oB true 3 eMsg wm), (1, oB true 3 eMsg wm)] rfl rfl rfl rfl rfl rfl (s_ldM (b := e3) (f := eMsg) tab_27 rfl rfl rfl rfl he3 rfl ⟨rfl, rfl, rfl⟩) rfl ⟨rfl, trivial⟩ rfl rfl ?_
                          refine x_if [(129, pB (!decide (e3.unit = e3.unit))), (134, pS 1 false enc8 e3.pdu)] [0, 1, 2, 3, 4, 5, 6, 7, 8, 9, 10, 11, 12, 13, 14, 15, 16, 17, 18, 19, 20, 21, 22, 23, 24, 25, 26, 27, 28, 29] rfl rfl rfl rfl (fun _ => ?_) (fun e => absurd (e.symm.trans g6) (by decide))
                          refine x_run0 [(129, pB (!decide (e3.unit = e3.unit))), (134, pS 1 false enc8 e3.pdu)] [0, 1, 2, 3, 4, 5, 6, 7, 8, 9, 10, 11, 12, 13, 14, 15, 16, 17, 18, 19, 20, 21, 22, 23, 24, 25, 26, 27, 28, 29] rfl rfl rfl rfl (s_cvT tab_27 tab_9 rfl tab_5 rfl rfl (hM_sl (f := enc8) rfl) ⟨rfl, rfl, rfl⟩) ?_
                          refine x_if [(129, pB (!decide (e3.unit = e3.unit))), (7, PV.ref 0 0 none)] [0, 1, 2, 3, 4, 5, 6, 7, 8, 9, 10, 11, 12, 13, 14, 15, 16, 17, 18, 19, 20, 21, 22, 23, 24] rfl rfl rfl rfl (fun _ => ?_) (fun e => absurd (e.symm.trans g6) (by decide))
                          refine x_run0 [(129, pB (!decide (e3.unit = e3.unit))), (7, PV.ref 0 0 none)] [0, 1, 2, 3, 4, 5, 6, 7, 8, 9, 10, 11, 12, 13, 14, 15, 16, 17, 18, 19, 20, 21, 22, 23, 24] rfl rfl rfl rfl (s_move rfl ⟨rfl, rfl, rfl⟩) ?_
                          refine x_if [(129, pB (!decide (e3.unit = e3.unit))), (13, pN z)] [0, 1, 2, 3, 4, 5, 6, 7, 8, 9, 10, 11, 12, 13, 14, 15, 16, 17, 18, 19, 20, 21, 22, 23, 24] rfl rfl rfl rfl (fun _ => ?_) (fun e => absurd (e.symm.trans g6) (by decide))
                          refine x_run0 [(129, pB (!decide (e3.unit = e3.unit))), (13, pN z)] [0, 1, 2, 3, 4, 5, 6, 7, 8, 9, 10, 11, 12, 13, 14, 15, 16, 17, 18, 19, 20, 21, 22, 23, 24] rfl rfl rfl rfl (s_move rfl ⟨rfl, rfl, rfl⟩) ?_
                          refine x_if [(129, pB (!decide (e3.unit = e3.unit))), (136, PV.ref 0 0 none), (137, pN z)] [0, 1, 2, 3, 4, 5, 6, 7, 8, 9, 10, 11, 12, 13, 14, 15, 16, 17, 18, 19, 20, 21, 22, 23, 24, 31, 32] rfl rfl rfl rfl (fun _ => ?_) (fun e => absurd (e.symm.trans g6) (by decide))
                          refine x_run [(129, pB (!decide (e3.unit = e3.unit))), (136, PV.ref 0 0 none), (137, pN z)] [0, 1, 2, 3, 4, 5, 6, 7, 8, 9, 10, 11, 12, 13, 14, 15, 16, 17, 18, 19, 20, 21, 22, 23, 24, 31, 32] [(0, oB true 3 eMsg wm)] [] [(0, oB true 3 eMsg wm)] [] [(0, oB true 3 eMsg wm), (1, oB true 3 eMsg wm)] rfl rfl rfl rfl rfl rfl (s_iaR0 (q := z) (f := eMsg) (l := wm) tab_39 rfl tab_30 rfl rfl (by omega) rfl rfl (by omega) ⟨rfl, rfl, rfl⟩) rfl ⟨rfl, trivial⟩ rfl rfl ?_
                          refine x_if [(129, pB (!decide (e3.unit = e3.unit))), (138, PV.ep 0 z 0)] [0, 1, 2, 3, 4, 5, 6, 7, 8, 9, 10, 11, 12, 13, 14, 15, 16, 17, 18, 19, 20, 21, 22, 23, 24, 31, 32, 33] rfl rfl rfl rfl (fun _ => ?_) (fun e => absurd (e.symm.trans g6) (by decide))
                          refine x_run0 [(129, pB (!decide (e3.unit = e3.unit))), (138, PV.ep 0 z 0)] [0, 1, 2, 3, 4, 5, 6, 7, 8, 9, 10, 11, 12, 13, 14, 15, 16, 17, 18, 19, 20, 21, 22, 23, 24, 31, 32, 33] rfl rfl rfl rfl (s_fa_ep tab_30 rfl rfl tab_27 (by decide) rfl ⟨rfl, rfl, rfl⟩) ?_
                          refine x_if [(129, pB (!decide (e3.unit = e3.unit))), (139, PV.ep 0 z 2)] [0, 1, 2, 3, 4, 5, 6, 7, 8, 9, 10, 11, 12, 13, 14, 15, 16, 17, 18, 19, 20, 21, 22, 23, 24, 31, 32, 33, 34] rfl rfl rfl rfl (fun _ => ?_) (fun e => absurd (e.symm.trans g6) (by decide))
                          refine x_run [(129, pB (!decide (e3.unit = e3.unit))), (139, PV.ep 0 z 2)] [0, 1, 2, 3, 4, 5, 6, 7, 8, 9, 10, 11, 12, 13, 14, 15, 16, 17, 18, 19, 20, 21, 22, 23, 24, 31, 32, 33, 34] [(0, oB true 3 eMsg wm)] [] [(0, oB true 3 eMsg wm)] [] [(0, oB true 3 eMsg wm), (1, oB true 3 eMsg wm)] rfl rfl rfl rfl rfl rfl (s_ldM (b := e3) (f := eMsg) tab_27 rfl rfl rfl rfl he3 rfl ⟨rfl, rfl, rfl⟩) rfl ⟨rfl, trivial⟩ rfl rfl ?_
                          refine x_if [(129, pB (!decide (e3.unit = e3.unit))), (140, pS 1 false enc8 e3.pdu)] [0, 1, 2, 3, 4, 5, 6, 7, 8, 9, 10, 11, 12, 13, 14, 15, 16, 17, 18, 19, 20, 21, 22, 23, 24, 31, 32, 33, 34, 35] rfl rfl rfl rfl (fun _ => ?_) (fun e => absurd (e.symm.trans g6) (by decide))
                          refine x_run0 [(129, pB (!decide (e3.unit = e3.unit))), (140, pS 1 false enc8 e3.pdu)] [0, 1, 2, 3, 4, 5, 6, 7, 8, 9, 10, 11, 12, 13, 14, 15, 16, 17, 18, 19, 20, 21, 22, 23, 24, 31, 32, 33, 34, 35] rfl rfl rfl rfl (s_cvT tab_27 tab_9 rfl tab_5 rfl rfl (hM_sl (f := enc8) rfl) ⟨rfl, rfl, rfl⟩) ?_
                          refine x_if [(129, pB (!decide (e3.unit = e3.unit))), (135, pT e3.pdu), (141, pT e3.pdu)] [0, 1, 2, 3, 4, 5, 6, 7, 8, 9, 10, 11, 12, 13, 14, 15, 16, 17, 18, 19, 20, 21, 22, 23, 24, 25, 26, 27, 28, 29, 30, 31, 32, 33, 34, 35, 36] rfl rfl rfl rfl (fun _ => ?_) (fun e => absurd (e.symm.trans g6) (by decide))
                          refine x_run0 [(129, pB (!decide (e3.unit = e3.unit))), (135, pT e3.pdu), (141, pT e3.pdu)] [0, 1, 2, 3, 4, 5, 6, 7, 8, 9, 10, 11, 12, 13, 14, 15, 16, 17, 18, 19, 20, 21, 22, 23, 24, 25, 26, 27, 28, 29, 30, 31, 32, 33, 34, 35, 36] rfl rfl rfl rfl (s_netext (l := e3.pdu) (m := e3.pdu) rfl rfl ⟨rfl, rfl, rfl⟩) ?_
                          refine d_op ?_
                          refine x_run0 [(129, pB (!decide (e3.unit = e3.unit))), (142, pB (!decide (e3.pdu = e3.pdu)))] [0, 1, 2, 3, 4, 5, 6, 7, 8, 9, 10, 11, 12, 13, 14, 15, 16, 17, 18, 19, 20, 21, 22, 23, 24, 25, 26, 27, 28, 29, 30, 31, 32, 33, 34, 35, 36, 37] rfl rfl rfl rfl (s_pick_f rfl g6 rfl ⟨rfl, rfl, rfl⟩) ?_
                          refine d_end ⟨by kernel_rfl, ?_⟩
                          refine q_then ?_
                          refine w_if rfl (fun c6 => ?_) (fun c6 => ?_)
                          ·
                            have c6_ := c6
                            exact absurd c6 (by simp)
                          ·
                            have c6_ := c6
                            try simp only [decide_eq_true_eq, decide_eq_false_iff_not, Bool.not_eq_true', Bool.not_eq_false', Bool.not_true, Bool.not_false, Bool.not_eq_eq_eq_not, Int.not_lt, Int.not_le] at c6
                            refine w_skip ?_
                            refine q_block ?_
                            refine q_then ?_
                            refine w_R ?_
                            refine r_op tabOk hnt rfl (s_addN (a := z) (b := 1) rfl rfl (by omega) (by omega) (by omega) ?_) 
                            refine r_op tabOk hnt rfl (s_move rfl ?_) 
                            refine r_end ?_
                            refine q_then ?_
                            refine ⟨(z + 1), ?_, ?_, ⟨[(0, 0), (1, 1)], by rw [hk]; decide, ⟨⟨_, rfl, rfl, rfl⟩, ⟨_, rfl, rfl, rfl⟩, ⟨_, rfl, rfl, rfl⟩, ⟨_, rfl, rfl, rfl⟩, trivial⟩, ⟨⟨_, _, rfl, rfl, rfl, rfl⟩, ⟨_, _, rfl, rfl, rfl, rfl⟩, trivial⟩, by rw [hk]; decide⟩⟩
                            ·
                              omega
                            · omega
                        ·
                          exact absurd g6 (by simp)
                      ·
                        exact absurd g5 (by simp)
                    ·
                      have c5_ := c5
                      try simp only [decide_eq_true_eq, decide_eq_false_iff_not, Bool.not_eq_true', Bool.not_eq_false', Bool.not_true, Bool.not_false, Bool.not_eq_eq_eq_not, Int.not_lt, Int.not_le] at c5
                      refine w_exit ?_
                      refine q_then_exit ?_
                      refine q_then_exit ?_
                      refine q_block_exit ?_
                      refine q_then ?_
                      refine w_seq ?_
                      refine w_R ?_
                      refine r_op tabOk hnt rfl (s_callF rfl rfl rfl (w_burgagelaw6_known) rfl ?_) 
                      refine r_op tabOk hnt rfl (s_assign rfl ?_) 
                      refine r_end ?_
                      refine q_then ?_
                      refine w_ret ?_
                      exact fin_plain (ret_tmp rfl ret_nil) rfl rfl ⟨rfl, rfl, rfl⟩
              ·
                exact absurd g4 (by simp)
            ·
              exact absurd g3 (by simp)
    ·
      have g1' := g1
      try simp only [decide_eq_true_eq, decide_eq_false_iff_not, Bool.not_eq_true', Bool.not_eq_false', Bool.not_true, Bool.not_false, Bool.not_eq_eq_eq_not, Int.not_lt, Int.not_le] at g1'
      refine r_if tabOk hnt rfl rfl rfl (fun e => absurd (e.symm.trans g1) (by decide)) (fun _ => ?_)
      refine r_op tabOk hnt rfl (s_pick_f rfl g1 rfl ?_) 
      refine r_end ?_
      refine q_then ?_
      refine w_if rfl (fun e => absurd e (by decide)) (fun _ => ?_)
      refine w_exit ?_
      refine q_then_exit ?_
      refine q_then_exit ?_
      refine q_block_exit ?_
      refine q_then ?_
      refine w_seq ?_
      refine w_R ?_
      refine r_op tabOk hnt rfl (s_assign rfl ?_) 
      refine r_end ?_
      refine q_then ?_
      refine w_seq ?_
      refine w_seq ?_
      refine w_R ?_
      refine r_op tabOk hnt rfl (s_assign rfl ?_) 
      refine r_end ?_
      refine q_then ?_
      refine w_block ?_
      refine w_frzM (s := 6) (f := enc8) rfl rfl view_0 ?_
      refine w_adopt (s := 10) (sz := 3) rfl ?_
      refine loop4 (fun (q : List UInt8) (rest : List UInt8) (gm : List TMsg) (k : Nat) => WholeI wm gm q rest ∧ (k ≤ 60 ∨ rest.length = 0 ∧ k ≤ 61)) (fun (q : List UInt8) (rest : List UInt8) (gm : List TMsg) (k : Nat) => [(1, pS 1 cl_ns encI ns), (5, PV.ptr 0 0), (6, pS 1 false enc8 rest), (7, PV.ref 2 0 none), (10, PV.ref 1 0 none), (11, pN k)]) 3 (fun (q : List UInt8) (rest : List UInt8) (gm : List TMsg) (k : Nat) => [(0, .obj [pS 1 false enc8 q, pB false]), (1, oB true 3 eMsg gm), (2, oB true 3 eMsg wm)]) (fun (q : List UInt8) (rest : List UInt8) (gm : List TMsg) (k : Nat) => (60 - k) + rest.length) (([] : List UInt8)) (al) (([] : List TMsg)) (0) ?_ ⟨[(0, 2), (1, 3), (2, 1)], by rw [hk]; decide, ⟨⟨_, rfl, rfl, rfl⟩, ⟨_, rfl, rfl, rfl⟩, ⟨_, rfl, rfl, rfl⟩, ⟨_, rfl, rfl, rfl⟩, ⟨_, rfl, rfl, rfl⟩, ⟨_, rfl, rfl, rfl⟩, trivial⟩, ⟨⟨_, _, rfl, rfl, rfl, rfl⟩, ⟨_, _, rfl, rfl, rfl, rfl⟩, ⟨_, _, rfl, rfl, rfl, rfl⟩, trivial⟩, by rw [hk]; decide⟩ ?_
      · exact ⟨WholeI.zero hok hal (by omega), by omega⟩
      ·
        intro q rest gm k hI
        obtain ⟨hI, hk6⟩ := hI
        have hbd := hI.bound
        have hgl := hI.few (by omega : wm.length ≤ 10)
        refine w_seq ?_
        refine w_seq ?_
        refine w_R ?_
        refine r_op tabOk hnt rfl (s_move rfl ?_) 
        refine r_op tabOk hnt rfl (s_lenM (l := rest) tab_27 rfl (hM_sl (f := enc8) rfl) ?_) 
        refine r_op tabOk hnt rfl (s_gtr rfl rfl ?_) 
        refine r_end ?_
        refine q_then ?_
        refine w_if rfl (fun c7 => ?_) (fun c7 => ?_)
        ·
          have c7_ := c7
          try simp only [decide_eq_true_eq, decide_eq_false_iff_not, Bool.not_eq_true', Bool.not_eq_false', Bool.not_true, Bool.not_false, Bool.not_eq_eq_eq_not, Int.not_lt, Int.not_le] at c7
          refine w_skip ?_
          refine q_then ?_
          refine w_seq ?_
          refine w_block ?_
          refine w_seq ?_
          refine w_R ?_
          refine r_op tabOk hnt rfl (s_move rfl ?_) 
          refine r_op tabOk hnt rfl (s_lenM (l := rest) tab_27 rfl (hM_sl (f := enc8) rfl) ?_) 
          refine r_op tabOk hnt rfl (s_assign rfl ?_) 
          refine r_end ?_
          refine q_then ?_
          refine w_seq ?_
          refine w_seq ?_
          refine w_R ?_
          refine r_op tabOk hnt rfl (s_move rfl ?_) 
          refine r_op tabOk hnt rfl (s_move rfl ?_) 
          refine r_op tabOk hnt rfl (s_lenM (l := ns) tab_22 rfl (hM_sl (f := encI) rfl) ?_) 
          refine r_op tabOk hnt rfl (s_lss rfl rfl ?_) 
          refine r_op tabOk hnt rfl (s_move rfl ?_) 
          refine r_if tabOk hnt rfl rfl rfl (fun g7 => ?_) (fun g7 => ?_)
          ·
            have g7' := g7
            try simp only [decide_eq_true_eq, decide_eq_false_iff_not, Bool.not_eq_true', Bool.not_eq_false', Bool.not_true, Bool.not_false, Bool.not_eq_eq_eq_not, Int.not_lt, Int.not_le] at g7'
            refine r_op tabOk hnt rfl (s_move rfl ?_) 
            refine r_if tabOk hnt rfl rfl rfl (fun _ => ?_) (fun e => absurd (e.symm.trans g7) (by decide))
            refine r_op tabOk hnt rfl (s_lss rfl rfl ?_) 
            refine r_op tabOk hnt rfl (s_pick_t rfl g7 rfl ?_) 
            refine r_end ?_
            refine q_then ?_
            refine w_if rfl (fun c8 => ?_) (fun c8 => ?_)
            ·
              have c8_ := c8
              try simp only [decide_eq_true_eq, decide_eq_false_iff_not, Bool.not_eq_true', Bool.not_eq_false', Bool.not_true, Bool.not_false, Bool.not_eq_eq_eq_not, Int.not_lt, Int.not_le] at c8
              refine w_R ?_
              refine r_op tabOk hnt rfl (s_move rfl ?_) 
              refine r_op tabOk hnt rfl (s_move rfl ?_) 
              refine r_op tabOk hnt rfl (s_move rfl ?_) 
              obtain ⟨e4, he4⟩ := get_of_lt ns (i := k) (by omega)
              refine r_op tabOk hnt rfl (s_iaM (q := k) (b := e4) (f := encI) tab_22 rfl tab_3 rfl rfl (by omega) rfl he4 ?_) 
              refine r_op tabOk hnt rfl (s_load_ro1 tab_3 rfl rfl rfl rfl ?_) 
              refine r_op tabOk hnt rfl (s_callF rfl rfl rfl (w_burgagebook_Within e4 0 13 (by first | omega | assumption | (simp; omega) | decide | (simp; done))) rfl ?_) 
              have hwb := within_between e4 (lo := 0) (hi := 13) (by decide)
              refine r_op tabOk hnt rfl (s_minI rfl ?_) 
              refine r_op tabOk hnt rfl (s_assign rfl ?_) 
              refine r_end ?_
              refine q_then ?_
              refine w_seq ?_
              refine w_R ?_
              refine r_op tabOk hnt rfl (s_move rfl ?_) 
              refine r_op tabOk hnt rfl (s_move rfl ?_) 
              refine r_op tabOk hnt rfl (s_move rfl ?_) 
              refine r_op tabOk hnt rfl (s_move rfl ?_) 
              have hpf := (hI.put (Int.toNat (min ((rest.length : Nat) : Int) (within e4 0 13)))).1.few (by omega : wm.length ≤ 10)
              rw [List.length_append] at hpf
              try rw [List.take_length] at hpf
              refine r_op tabOk hnt rfl (s_cutM_hi (b := Int.toNat (min ((rest.length : Nat) : Int) (within e4 0 13))) (f := enc8) (l := rest) tab_27 rfl tab_5 ⟨rfl, by decide⟩ rfl (bound_some rfl (by omega)) (by omega) ?_) 
              refine r_op tabOk hnt rfl (s_callX (r2 := pS 3 true eMsg ((putV q false (rest.take (Int.toNat (min ((rest.length : Nat) : Int) (within e4 0 13))))).1)) (nx1 := 3) (H2 := [(0, .obj [pS 1 false enc8 q, pB false]), (1, oB true 3 eMsg gm), (2, oB true 3 eMsg wm)]) (H3 := [(0, .obj [pS 1 false enc8 ((putV q false (rest.take (Int.toNat (min ((rest.length : Nat) : Int) (within e4 0 13))))).2.1), pB ((putV q false (rest.take (Int.toNat (min ((rest.length : Nat) : Int) (within e4 0 13))))).2.2)]), (1, oB true 3 eMsg gm), (2, oB true 3 eMsg wm)]) [0] [.obj [pS 1 false enc8 q, pB false]] rfl rfl rfl (handed_of (by decide) ⟨rfl, trivial⟩) rfl rfl rfl rfl rfl rfl (w_mbap_Stream_Put q false false (rest.take (Int.toNat (min ((rest.length : Nat) : Int) (within e4 0 13)))) false (by first | omega | assumption | (simp; omega) | decide | (simp; done))) rfl (dist_of rfl) rfl rfl rfl rfl ?_) 
              refine r_op tabOk hnt rfl (s_appR0 (f := eMsg) (l := gm) (xs := (putV q false (rest.take (Int.toNat (min ((rest.length : Nat) : Int) (within e4 0 13))))).1) tab_39 rfl tab_30 ⟨rfl, by decide, by decide⟩ (srcM tab_39 rfl (hM_sl (f := eMsg) rfl)) rfl rfl (by first | omega | (simp; omega)) ?_) 
              refine r_op tabOk hnt rfl (s_assign rfl ?_) 
              refine r_set [(1, pS 1 cl_ns encI ns), (5, PV.ptr 0 0), (6, pS 1 false enc8 rest), (7, PV.ref 2 0 none), (10, PV.ref 3 0 none), (11, pN k), (12, pI (min ((rest.length : Nat) : Int) (within e4 0 13))), (66, pN k), (67, pB (decide (((k : Nat) : Int) < 60)))] [(3, oB true 3 eMsg (gm ++ ((putV q false (rest.take (Int.toNat (min ((rest.length : Nat) : Int) (within e4 0 13))))).1))), (0, .obj [pS 1 false enc8 ((putV q false (rest.take (Int.toNat (min ((rest.length : Nat) : Int) (within e4 0 13))))).2.1), pB ((putV q false (rest.take (Int.toNat (min ((rest.length : Nat) : Int) (within e4 0 13))))).2.2)]), (2, oB true 3 eMsg wm)] 4 ⟨rfl, rfl, rfl, rfl, rfl, rfl, rfl, rfl, rfl, trivial⟩ rfl rfl ?_
              refine r_end ?_
              refine q_then ?_
              refine w_leC (n := 0) (j := 1) (y := pB false) rfl rfl (le_of_eq (congrArg (fun z : Bool => pB z) (show ((putV q false (rest.take (Int.toNat (min ((rest.length : Nat) : Int) (within e4 0 13))))).2.2) = false by exact (hI.put _).2))) ?_
              refine w_R ?_
              refine r_op tabOk hnt rfl (s_move rfl ?_) 
              refine r_op tabOk hnt rfl (s_move rfl ?_) 
              refine r_op tabOk hnt rfl (s_cutM_lo (a := Int.toNat (min ((rest.length : Nat) : Int) (within e4 0 13))) (f := enc8) (l := rest) tab_27 rfl tab_5 ⟨rfl, by decide⟩ rfl (bound_some rfl (by omega)) (by omega) ?_) 
              refine r_op tabOk hnt rfl (s_assign rfl ?_) 
              refine r_end ?_
              refine q_block ?_
              refine q_then ?_
              refine w_R ?_
              refine r_op tabOk hnt rfl (s_move rfl ?_) 
              refine r_op tabOk hnt rfl (s_addN (a := k) (b := 1) rfl rfl (by omega) (by omega) (by omega) ?_) 
              refine r_op tabOk hnt rfl (s_assign rfl ?_) 
              refine r_end ?_
              refine q_then ?_
              refine ⟨((putV q false (rest.take (Int.toNat (min ((rest.length : Nat) : Int) (within e4 0 13))))).2.1), (rest.drop (Int.toNat (min ((rest.length : Nat) : Int) (within e4 0 13)))), (gm ++ ((putV q false (rest.take (Int.toNat (min ((rest.length : Nat) : Int) (within e4 0 13))))).1)), (k + 1), ?_, ?_, ⟨[(0, 0), (1, 3), (2, 2)], by rw [hk]; decide, ⟨⟨_, rfl, rfl, rfl⟩, ⟨_, rfl, rfl, rfl⟩, ⟨_, rfl, rfl, rfl⟩, ⟨_, rfl, rfl, rfl⟩, ⟨_, rfl, rfl, rfl⟩, ⟨_, rfl, rfl, rfl⟩, trivial⟩, ⟨⟨_, _, rfl, rfl, rfl, rfl⟩, ⟨_, _, rfl, rfl, rfl, rfl⟩, ⟨_, _, rfl, rfl, rfl, rfl⟩, trivial⟩, by rw [hk]; decide⟩⟩
              ·
                exact ⟨(hI.put _).1, by rw [List.length_drop]; omega⟩
              · rw [List.length_drop]; omega
            ·
              have c8_ := c8
              try simp only [decide_eq_true_eq, decide_eq_false_iff_not, Bool.not_eq_true', Bool.not_eq_false', Bool.not_true, Bool.not_false, Bool.not_eq_eq_eq_not, Int.not_lt, Int.not_le] at c8
              refine w_skip ?_
              refine q_then ?_
              refine w_seq ?_
              refine w_R ?_
              refine r_op tabOk hnt rfl (s_move rfl ?_) 
              refine r_op tabOk hnt rfl (s_move rfl ?_) 
              refine r_op tabOk hnt rfl (s_move rfl ?_) 
              refine r_op tabOk hnt rfl (s_move rfl ?_) 
              have hpf := (hI.put rest.length).1.few (by omega : wm.length ≤ 10)
              rw [List.length_append] at hpf
              try rw [List.take_length] at hpf
              refine r_op tabOk hnt rfl (s_cutM_hi (b := rest.length) (f := enc8) (l := rest) tab_27 rfl tab_5 ⟨rfl, by decide⟩ rfl (bound_some rfl (by omega)) (by omega) ?_) 
              refine r_op tabOk hnt rfl (s_callX (r2 := pS 3 true eMsg ((putV q false (rest.take rest.length)).1)) (nx1 := 3) (H2 := [(0, .obj [pS 1 false enc8 q, pB false]), (1, oB true 3 eMsg gm), (2, oB true 3 eMsg wm)]) (H3 := [(0, .obj [pS 1 false enc8 ((putV q false (rest.take rest.length)).2.1), pB ((putV q false (rest.take rest.length)).2.2)]), (1, oB true 3 eMsg gm), (2, oB true 3 eMsg wm)]) [0] [.obj [pS 1 false enc8 q, pB false]] rfl rfl rfl (handed_of (by decide) ⟨rfl, trivial⟩) rfl rfl rfl rfl rfl rfl (w_mbap_Stream_Put q false false (rest.take rest.length) false (by first | omega | assumption | (simp; omega) | decide | (simp; done))) rfl (dist_of rfl) rfl rfl rfl rfl ?_) 
              refine r_op tabOk hnt rfl (s_appR0 (f := eMsg) (l := gm) (xs := (putV q false (rest.take rest.length)).1) tab_39 rfl tab_30 ⟨rfl, by decide, by decide⟩ (srcM tab_39 rfl (hM_sl (f := eMsg) rfl)) rfl rfl (by first | omega | (simp; omega)) ?_) 
              refine r_op tabOk hnt rfl (s_assign rfl ?_) 
              refine r_set [(1, pS 1 cl_ns encI ns), (5, PV.ptr 0 0), (6, pS 1 false enc8 rest), (7, PV.ref 2 0 none), (10, PV.ref 3 0 none), (11, pN k), (12, pN rest.length), (66, pN k), (67, pB (decide (((k : Nat) : Int) < 60)))] [(3, oB true 3 eMsg (gm ++ ((putV q false (rest.take rest.length)).1))), (0, .obj [pS 1 false enc8 ((putV q false (rest.take rest.length)).2.1), pB ((putV q false (rest.take rest.length)).2.2)]), (2, oB true 3 eMsg wm)] 4 ⟨rfl, rfl, rfl, rfl, rfl, rfl, rfl, rfl, rfl, trivial⟩ rfl rfl ?_
              refine r_end ?_
              refine q_then ?_
              refine w_leC (n := 0) (j := 1) (y := pB false) rfl rfl (le_of_eq (congrArg (fun z : Bool => pB z) (show ((putV q false (rest.take rest.length)).2.2) = false by exact (hI.put _).2))) ?_
              refine w_R ?_
              refine r_op tabOk hnt rfl (s_move rfl ?_) 
              refine r_op tabOk hnt rfl (s_move rfl ?_) 
              refine r_op tabOk hnt rfl (s_cutM_lo (a := rest.length) (f := enc8) (l := rest) tab_27 rfl tab_5 ⟨rfl, by decide⟩ rfl (bound_some rfl (by omega)) (by omega) ?_) 
              refine r_op tabOk hnt rfl (s_assign rfl ?_) 
              refine r_end ?_
              refine q_block ?_
              refine q_then ?_
              refine w_R ?_
              refine r_op tabOk hnt rfl (s_move rfl ?_) 
              refine r_op tabOk hnt rfl (s_addN (a := k) (b := 1) rfl rfl (by omega) (by omega) (by omega) ?_) 
              refine r_op tabOk hnt rfl (s_assign rfl ?_) 
              refine r_end ?_
              refine q_then ?_
              refine ⟨((putV q false (rest.take rest.length)).2.1), (rest.drop rest.length), (gm ++ ((putV q false (rest.take rest.length)).1)), (k + 1), ?_, ?_, ⟨[(0, 0), (1, 3), (2, 2)], by rw [hk]; decide, ⟨⟨_, rfl, rfl, rfl⟩, ⟨_, rfl, rfl, rfl⟩, ⟨_, rfl, rfl, rfl⟩, ⟨_, rfl, rfl, rfl⟩, ⟨_, rfl, rfl, rfl⟩, ⟨_, rfl, rfl, rfl⟩, trivial⟩, ⟨⟨_, _, rfl, rfl, rfl, rfl⟩, ⟨_, _, rfl, rfl, rfl, rfl⟩, ⟨_, _, rfl, rfl, rfl, rfl⟩, trivial⟩, by rw [hk]; decide⟩⟩
              ·
                exact ⟨(hI.put _).1, by rw [List.length_drop]; omega⟩
              · rw [List.length_drop]; omega
          ·
            have g7' := g7
            try simp only [decide_eq_true_eq, decide_eq_false_iff_not, Bool.not_eq_true', Bool.not_eq_false', Bool.not_true, Bool.not_false, Bool.not_eq_eq_eq_not, Int.not_lt, Int.not_le] at g7'
            refine r_if tabOk hnt rfl rfl rfl (fun e => absurd (e.symm.trans g7) (by decide)) (fun _ => ?_)
            refine r_op tabOk hnt rfl (s_pick_f rfl g7 rfl ?_) 
            refine r_end ?_
            refine q_then ?_
            refine w_if rfl (fun e => absurd e (by decide)) (fun _ => ?_)
            refine w_skip ?_
            refine q_then ?_
            refine w_seq ?_
            refine w_R ?_
            refine r_op tabOk hnt rfl (s_move rfl ?_) 
            refine r_op tabOk hnt rfl (s_move rfl ?_) 
            refine r_op tabOk hnt rfl (s_move rfl ?_) 
            refine r_op tabOk hnt rfl (s_move rfl ?_) 
            have hpf := (hI.put rest.length).1.few (by omega : wm.length ≤ 10)
            rw [List.length_append] at hpf
            try rw [List.take_length] at hpf
            refine r_op tabOk hnt rfl (s_cutM_hi (b := rest.length) (f := enc8) (l := rest) tab_27 rfl tab_5 ⟨rfl, by decide⟩ rfl (bound_some rfl (by omega)) (by omega) ?_) 
            refine r_op tabOk hnt rfl (s_callX (r2 := pS 3 true eMsg ((putV q false (rest.take rest.length)).1)) (nx1 := 3) (H2 := [(0, .obj [pS 1 false enc8 q, pB false]), (1, oB true 3 eMsg gm), (2, oB true 3 eMsg wm)]) (H3 := [(0, .obj [pS 1 false enc8 ((putV q false (rest.take rest.length)).2.1), pB ((putV q false (rest.take rest.length)).2.2)]), (1, oB true 3 eMsg gm), (2, oB true 3 eMsg wm)]) [0] [.obj [pS 1 false enc8 q, pB false]] rfl rfl rfl (handed_of (by decide) ⟨rfl, trivial⟩) rfl rfl rfl rfl rfl rfl (w_mbap_Stream_Put q false false (rest.take rest.length) false (by first | omega | assumption | (simp; omega) | decide | (simp; done))) rfl (dist_of rfl) rfl rfl rfl rfl ?_) 
            refine r_op tabOk hnt rfl (s_appR0 (f := eMsg) (l := gm) (xs := (putV q false (rest.take rest.length)).1) tab_39 rfl tab_30 ⟨rfl, by decide, by decide⟩ (srcM tab_39 rfl (hM_sl (f := eMsg) rfl)) rfl rfl (by first | omega | (simp; omega)) ?_) 
            refine r_op tabOk hnt rfl (s_assign rfl ?_) 
            refine r_set [(1, pS 1 cl_ns encI ns), (5, PV.ptr 0 0), (6, pS 1 false enc8 rest), (7, PV.ref 2 0 none), (10, PV.ref 3 0 none), (11, pN k), (12, pN rest.length)] [(3, oB true 3 eMsg (gm ++ ((putV q false (rest.take rest.length)).1))), (0, .obj [pS 1 false enc8 ((putV q false (rest.take rest.length)).2.1), pB ((putV q false (rest.take rest.length)).2.2)]), (2, oB true 3 eMsg wm)] 4 ⟨rfl, rfl, rfl, rfl, rfl, rfl, rfl, trivial⟩ rfl rfl ?_
            refine r_end ?_
            refine q_then ?_
            refine w_leC (n := 0) (j := 1) (y := pB false) rfl rfl (le_of_eq (congrArg (fun z : Bool => pB z) (show ((putV q false (rest.take rest.length)).2.2) = false by exact (hI.put _).2))) ?_
            refine w_R ?_
            refine r_op tabOk hnt rfl (s_move rfl ?_) 
            refine r_op tabOk hnt rfl (s_move rfl ?_) 
            refine r_op tabOk hnt rfl (s_cutM_lo (a := rest.length) (f := enc8) (l := rest) tab_27 rfl tab_5 ⟨rfl, by decide⟩ rfl (bound_some rfl (by omega)) (by omega) ?_) 
            refine r_op tabOk hnt rfl (s_assign rfl ?_) 
            refine r_end ?_
            refine q_block ?_
            refine q_then ?_
            refine w_R ?_
            refine r_op tabOk hnt rfl (s_move rfl ?_) 
            refine r_op tabOk hnt rfl (s_addN (a := k) (b := 1) rfl rfl (by omega) (by omega) (by omega) ?_) 
            refine r_op tabOk hnt rfl (s_assign rfl ?_) 
            refine r_end ?_
            refine q_then ?_
            refine ⟨((putV q false (rest.take rest.length)).2.1), (rest.drop rest.length), (gm ++ ((putV q false (rest.take rest.length)).1)), (k + 1), ?_, ?_, ⟨[(0, 0), (1, 3), (2, 2)], by rw [hk]; decide, ⟨⟨_, rfl, rfl, rfl⟩, ⟨_, rfl, rfl, rfl⟩, ⟨_, rfl, rfl, rfl⟩, ⟨_, rfl, rfl, rfl⟩, ⟨_, rfl, rfl, rfl⟩, ⟨_, rfl, rfl, rfl⟩, trivial⟩, ⟨⟨_, _, rfl, rfl, rfl, rfl⟩, ⟨_, _, rfl, rfl, rfl, rfl⟩, ⟨_, _, rfl, rfl, rfl, rfl⟩, trivial⟩, by rw [hk]; decide⟩⟩
            ·
              exact ⟨(hI.put _).1, by rw [List.length_drop]; omega⟩
            · rw [List.length_drop]; omega
        ·
          have c7_ := c7
          try simp only [decide_eq_true_eq, decide_eq_false_iff_not, Bool.not_eq_true', Bool.not_eq_false', Bool.not_true, Bool.not_false, Bool.not_eq_eq_eq_not, Int.not_lt, Int.not_le] at c7
          refine w_exit ?_
          refine q_then_exit ?_
          refine q_then_exit ?_
          refine q_block_exit ?_
          refine q_then ?_
          refine w_seq ?_
          refine w_seq ?_
          have hrest : rest = [] := List.eq_nil_of_length_eq_zero (by omega)
          obtain ⟨hgw, hq⟩ := hI.done hrest
          refine w_H (H' := [(0, .obj [pS 1 false enc8 q, pB false]), (1, oB true 3 eMsg wm), (2, oB true 3 eMsg wm)]) (congrArg (fun z => ([(0, .obj [pS 1 false enc8 q, pB false]), (1, oB true 3 eMsg z), (2, oB true 3 eMsg wm)] : Heap)) (show gm = wm by exact hgw)) ?_
          refine w_leC (n := 0) (j := 0) (y := pS 1 false enc8 ([] : List UInt8)) rfl rfl (le_of_eq (congrArg (fun z => pS 1 false enc8 z) (show q = ([] : List UInt8) by exact hq))) ?_
          refine w_R ?_
          refine r_op tabOk hnt rfl (s_move rfl ?_) 
          refine r_op tabOk hnt rfl (s_lenM (l := wm) tab_39 rfl (hM_ref0 (f := eMsg) rfl rfl) ?_) 
          refine r_op tabOk hnt rfl (s_move rfl ?_) 
          refine r_op tabOk hnt rfl (s_lenM (l := wm) tab_39 rfl (hM_ref0 (f := eMsg) rfl rfl) ?_) 
          refine r_op tabOk hnt rfl (s_neq rfl rfl ?_) 
          refine r_op tabOk hnt rfl (s_move rfl ?_) 
          refine r_if tabOk hnt rfl rfl rfl (fun g8 => ?_) (fun g8 => ?_)
          ·
            have g8' := g8
            try simp only [decide_eq_true_eq, decide_eq_false_iff_not, Bool.not_eq_true', Bool.not_eq_false', Bool.not_true, Bool.not_false, Bool.not_eq_eq_eq_not, Int.not_lt, Int.not_le] at g8'
            refine r_op tabOk hnt rfl (s_move rfl ?_) 
            refine r_if tabOk hnt rfl rfl rfl (fun _ => ?_) (fun e => absurd (e.symm.trans g8) (by decide))
            refine r_op tabOk hnt rfl (s_callX (r2 := pB false) (nx1 := 3) (H2 := [(0, .obj [pS 1 false enc8 ([] : List UInt8), pB false]), (1, oB true 3 eMsg wm), (2, oB true 3 eMsg wm)]) (H3 := [(0, .obj [pS 1 false enc8 ([] : List UInt8), pB false]), (1, oB true 3 eMsg wm), (2, oB true 3 eMsg wm)]) [0] [.obj [pS 1 false enc8 ([] : List UInt8), pB false]] rfl rfl rfl (handed_of (by decide) ⟨rfl, trivial⟩) rfl rfl rfl rfl rfl rfl (w_mbap_Stream_Closed ([] : List UInt8) false false) rfl (dist_of rfl) rfl rfl rfl rfl ?_) 
            refine r_op tabOk hnt rfl (s_pick_f rfl g8 rfl ?_) 
            refine r_op tabOk hnt rfl (s_move rfl ?_) 
            refine r_if tabOk hnt rfl rfl rfl (fun g9 => ?_) (fun g9 => ?_)
            ·
              have g9' := g9
              try simp only [decide_eq_true_eq, decide_eq_false_iff_not, Bool.not_eq_true', Bool.not_eq_false', Bool.not_true, Bool.not_false, Bool.not_eq_eq_eq_not, Int.not_lt, Int.not_le] at g9'
              refine r_op tabOk hnt rfl (s_move rfl ?_) 
              refine r_if tabOk hnt rfl rfl rfl (fun _ => ?_) (fun e => absurd (e.symm.trans g9) (by decide))
              refine r_op tabOk hnt rfl (s_callX (r2 := pN (([] : List UInt8).length)) (nx1 := 3) (H2 := [(0, .obj [pS 1 false enc8 ([] : List UInt8), pB false]), (1, oB true 3 eMsg wm), (2, oB true 3 eMsg wm)]) (H3 := [(0, .obj [pS 1 false enc8 ([] : List UInt8), pB false]), (1, oB true 3 eMsg wm), (2, oB true 3 eMsg wm)]) [0] [.obj [pS 1 false enc8 ([] : List UInt8), pB false]] rfl rfl rfl (handed_of (by decide) ⟨rfl, trivial⟩) rfl rfl rfl rfl rfl rfl (w_mbap_Stream_Len ([] : List UInt8) false false) rfl (dist_of rfl) rfl rfl rfl rfl ?_) 
              refine r_if tabOk hnt rfl rfl rfl (fun _ => ?_) (fun e => absurd (e.symm.trans g9) (by decide))
              refine r_op tabOk hnt rfl (s_neq rfl rfl ?_) 
              refine r_op tabOk hnt rfl (s_pick_f rfl g9 rfl ?_) 
              refine r_set [(7, PV.ref 2 0 none), (10, PV.ref 1 0 none), (99, pB (!decide (((([] : List UInt8).length : Nat) : Int) = 0)))] [(0, .obj [pS 1 false enc8 ([] : List UInt8), pB false]), (1, oB true 3 eMsg wm), (2, oB true 3 eMsg wm)] 3 ⟨rfl, rfl, rfl, trivial⟩ rfl rfl ?_
              refine r_end ?_
              refine q_then ?_
              refine w_if rfl (fun c9 => ?_) (fun c9 => ?_)
              ·
                have c9_ := c9
                exact absurd c9 (by simp)
              ·
                have c9_ := c9
                try simp only [decide_eq_true_eq, decide_eq_false_iff_not, Bool.not_eq_true', Bool.not_eq_false', Bool.not_true, Bool.not_false, Bool.not_eq_eq_eq_not, Int.not_lt, Int.not_le] at c9
                refine w_skip ?_
                refine q_then ?_
                refine w_seq ?_
                refine w_seq ?_
                refine w_R ?_
                refine r_op tabOk hnt rfl (s_move rfl ?_) 
                refine r_op tabOk hnt rfl (s_lenM (l := wm) tab_39 rfl (hM_ref0 (f := eMsg) rfl rfl) ?_) 
                refine r_op tabOk hnt rfl (s_move rfl ?_) 
                refine r_end ?_
                refine q_then ?_
                refine w_block ?_
                refine loop1 (fun (z : Nat) => z ≤ wm.length) (fun (z : Nat) => [(7, PV.ref 0 0 none), (10, PV.ref 1 0 none), (101, pN wm.length), (102, pN z)]) 2 (fun (z : Nat) => [(0, oB true 3 eMsg wm), (1, oB true 3 eMsg wm)]) (fun (z : Nat) => wm.length - z) (0) ?_ ⟨[(0, 2), (1, 1)], by rw [hk]; decide, ⟨⟨_, rfl, rfl, rfl⟩, ⟨_, rfl, rfl, rfl⟩, ⟨_, rfl, rfl, rfl⟩, ⟨_, rfl, rfl, rfl⟩, trivial⟩, ⟨⟨_, _, rfl, rfl, rfl, rfl⟩, ⟨_, _, rfl, rfl, rfl, rfl⟩, trivial⟩, by rw [hk]; decide⟩ ?_
                · omega
                ·
                  intro z hI
                  refine w_seq ?_
                  refine w_R ?_
                  refine r_op tabOk hnt rfl (s_lss rfl rfl ?_) 
                  refine r_end ?_
                  refine q_then ?_
                  refine w_seq ?_
                  refine w_if rfl (fun c10 => ?_) (fun c10 => ?_)
                  ·
                    have c10_ := c10
                    try simp only [decide_eq_true_eq, decide_eq_false_iff_not, Bool.not_eq_true', Bool.not_eq_false', Bool.not_true, Bool.not_false, Bool.not_eq_eq_eq_not, Int.not_lt, Int.not_le] at c10
                    refine w_skip ?_
                    refine q_then ?_
                    refine w_seq ?_
                    refine w_block ?_
                    refine w_seq ?_
                    refine w_R ?_
                    refine r_op tabOk hnt rfl (s_move rfl ?_) 
                    refine r_op tabOk hnt rfl (s_assign rfl ?_) 
                    refine r_end ?_
                    refine q_then ?_
                    refine w_seq ?_
                    refine W_drawn tabOk mixed hnt [[], [], [0, 1], [0, 1, 2], [0, 1, 2, 3], [], [], [5, 6], [5, 6, 7], [5, 6, 7, 8], [0, 1, 2, 3, 4, 5, 6, 7, 8, 9], [0, 1, 2, 3, 4, 5, 6, 7, 8, 9, 10], [0, 1, 2, 3, 4, 5, 6, 7, 8, 9, 10, 11], [0, 1, 2, 3, 4, 5, 6, 7, 8, 9, 10, 11], [0, 1, 2, 3, 4, 5, 6, 7, 8, 9, 10, 11, 12, 13], [0, 1, 2, 3, 4, 5, 6, 7, 8, 9, 10, 11, 12, 13, 14], [0, 1, 2, 3, 4, 5, 6, 7, 8, 9, 10, 11, 12, 13, 14, 15], [0, 1, 2, 3, 4, 5, 6, 7, 8, 9, 10, 11], [0, 1, 2, 3, 4, 5, 6, 7, 8, 9, 10, 11], [0, 1, 2, 3, 4, 5, 6, 7, 8, 9, 10, 11, 17, 18], [0, 1, 2, 3, 4, 5, 6, 7, 8, 9, 10, 11, 17, 18, 19], [0, 1, 2, 3, 4, 5, 6, 7, 8, 9, 10, 11, 17, 18, 19, 20], [0, 1, 2, 3, 4, 5, 6, 7, 8, 9, 10, 11, 12, 13, 14, 15, 16, 17, 18, 19, 20, 21], [0, 1, 2, 3, 4, 5, 6, 7, 8, 9, 10, 11, 12, 13, 14, 15, 16, 17, 18, 19, 20, 21, 22], [0, 1, 2, 3, 4, 5, 6, 7, 8, 9, 10, 11, 12, 13, 14, 15, 16, 17, 18, 19, 20, 21, 22, 23], [0, 1, 2, 3, 4, 5, 6, 7, 8, 9, 10, 11, 12, 13, 14, 15, 16, 17, 18, 19, 20, 21, 22, 23, 24], [0, 1, 2, 3, 4, 5, 6, 7, 8, 9, 10, 11, 12, 13, 14, 15, 16, 17, 18, 19, 20, 21, 22, 23, 24], [0, 1, 2, 3, 4, 5, 6, 7, 8, 9, 10, 11, 12, 13, 14, 15, 16, 17, 18, 19, 20, 21, 22, 23, 24, 25, 26], [0, 1, 2, 3, 4, 5, 6, 7, 8, 9, 10, 11, 12, 13, 14, 15, 16, 17, 18, 19, 20, 21, 22, 23, 24, 25, 26, 27], [0, 1, 2, 3, 4, 5, 6, 7, 8, 9, 10, 11, 12, 13, 14, 15, 16, 17, 18, 19, 20, 21, 22, 23, 24, 25, 26, 27, 28], [0, 1, 2, 3, 4, 5, 6, 7, 8, 9, 10, 11, 12, 13, 14, 15, 16, 17, 18, 19, 20, 21, 22, 23, 24, 25, 26, 27, 28, 29], [0, 1, 2, 3, 4, 5, 6, 7, 8, 9, 10, 11, 12, 13, 14, 15, 16, 17, 18, 19, 20, 21, 22, 23, 24], [0, 1, 2, 3, 4, 5, 6, 7, 8, 9, 10, 11, 12, 13, 14, 15, 16, 17, 18, 19, 20, 21, 22, 23, 24], [0, 1, 2, 3, 4, 5, 6, 7, 8, 9, 10, 11, 12, 13, 14, 15, 16, 17, 18, 19, 20, 21, 22, 23, 24, 31, 32], [0, 1, 2, 3, 4, 5, 6, 7, 8, 9, 10, 11, 12, 13, 14, 15, 16, 17, 18, 19, 20, 21, 22, 23, 24, 31, 32, 33], [0, 1, 2, 3, 4, 5, 6, 7, 8, 9, 10, 11, 12, 13, 14, 15, 16, 17, 18, 19, 20, 21, 22, 23, 24, 31, 32, 33, 34], [0, 1, 2, 3, 4, 5, 6, 7, 8, 9, 10, 11, 12, 13, 14, 15, 16, 17, 18, 19, 20, 21, 22, 23, 24, 31, 32, 33, 34, 35], [0, 1, 2, 3, 4, 5, 6, 7, 8, 9, 10, 11, 12, 13, 14, 15, 16, 17, 18, 19, 20, 21, 22, 23, 24, 25, 26, 27, 28, 29, 30, 31, 32, 33, 34, 35, 36], [0, 1, 2, 3, 4, 5, 6, 7, 8, 9, 10, 11, 12, 13, 14, 15, 16, 17, 18, 19, 20, 21, 22, 23, 24, 25, 26, 27, 28, 29, 30, 31, 32, 33, 34, 35, 36, 37]] (by kernel_rfl) ?_
                    refine d_op ?_
                    refine x_run0 [(10, PV.ref 1 0 none)] [] rfl rfl rfl rfl (s_move rfl ⟨rfl, rfl, rfl⟩) ?_
                    refine d_op ?_
                    refine x_run0 [(13, pN z)] [] rfl rfl rfl rfl (s_move rfl ⟨rfl, rfl, rfl⟩) ?_
                    refine d_op ?_
                    refine x_run [(105, PV.ref 1 0 none), (106, pN z)] [0, 1] [(1, oB true 3 eMsg wm)] [] [(1, oB true 3 eMsg wm)] [] [(0, oB true 3 eMsg wm), (1, oB true 3 eMsg wm)] rfl rfl rfl rfl rfl rfl (s_iaR0 (q := z) (f := eMsg) (l := wm) tab_39 rfl tab_30 rfl rfl (by omega) rfl rfl (by omega) ⟨rfl, rfl, rfl⟩) rfl ⟨rfl, trivial⟩ rfl rfl ?_
                    refine d_op ?_
                    refine x_run0 [(107, PV.ep 1 z 0)] [0, 1, 2] rfl rfl rfl rfl (s_fa_ep tab_30 rfl rfl tab_3 (by decide) rfl ⟨rfl, rfl, rfl⟩) ?_
                    refine d_op ?_
                    obtain ⟨e5, he5⟩ := get_of_lt wm (i := z) (by omega)
                    refine x_run [(108, PV.ep 1 z 0)] [0, 1, 2, 3] [(1, oB true 3 eMsg wm)] [] [(1, oB true 3 eMsg wm)] [] [(0, oB true 3 eMsg wm), (1, oB true 3 eMsg wm)] rfl rfl rfl rfl rfl rfl (s_ldM (b := e5) (f := eMsg) tab_3 rfl rfl rfl rfl he5 rfl ⟨rfl, rfl, rfl⟩) rfl ⟨rfl, trivial⟩ rfl rfl ?_
                    refine d_op ?_
                    refine x_run0 [(7, PV.ref 0 0 none)] [] rfl rfl rfl rfl (s_move rfl ⟨rfl, rfl, rfl⟩) ?_
                    refine d_op ?_
                    refine x_run0 [(13, pN z)] [] rfl rfl rfl rfl (s_move rfl ⟨rfl, rfl, rfl⟩) ?_
                    refine d_op ?_
                    refine x_run [(110, PV.ref 0 0 none), (111, pN z)] [5, 6] [(0, oB true 3 eMsg wm)] [] [(0, oB true 3 eMsg wm)] [] [(0, oB true 3 eMsg wm), (1, oB true 3 eMsg wm)] rfl rfl rfl rfl rfl rfl (s_iaR0 (q := z) (f := eMsg) (l := wm) tab_39 rfl tab_30 rfl rfl (by omega) rfl rfl (by omega) ⟨rfl, rfl, rfl⟩) rfl ⟨rfl, trivial⟩ rfl rfl ?_
                    refine d_op ?_
                    refine x_run0 [(112, PV.ep 0 z 0)] [5, 6, 7] rfl rfl rfl rfl (s_fa_ep tab_30 rfl rfl tab_3 (by decide) rfl ⟨rfl, rfl, rfl⟩) ?_
                    refine d_op ?_
                    refine x_run [(113, PV.ep 0 z 0)] [5, 6, 7, 8] [(0, oB true 3 eMsg wm)] [] [(0, oB true 3 eMsg wm)] [] [(0, oB true 3 eMsg wm), (1, oB true 3 eMsg wm)] rfl rfl rfl rfl rfl rfl (s_ldM (b := e5) (f := eMsg) tab_3 rfl rfl rfl rfl he5 rfl ⟨rfl, rfl, rfl⟩) rfl ⟨rfl, trivial⟩ rfl rfl ?_
                    refine d_op ?_
                    refine x_run0 [(109, pI e5.id), (114, pI e5.id)] [0, 1, 2, 3, 4, 5, 6, 7, 8, 9] rfl rfl rfl rfl (s_neq rfl rfl ⟨rfl, rfl, rfl⟩) ?_
                    refine d_op ?_
                    refine x_run0 [(115, pB (!decide (e5.id = e5.id)))] [0, 1, 2, 3, 4, 5, 6, 7, 8, 9, 10] rfl rfl rfl rfl (s_move rfl ⟨rfl, rfl, rfl⟩) ?_
                    refine x_if [(116, pB (!decide (e5.id = e5.id))), (10, PV.ref 1 0 none)] [0, 1, 2, 3, 4, 5, 6, 7, 8, 9, 10, 11] rfl rfl rfl rfl (fun g10 => ?_) (fun g10 => ?_)
                    ·
                      have g10' := g10
                      try simp only [decide_eq_true_eq, decide_eq_false_iff_not, Bool.not_eq_true', Bool.not_eq_false', Bool.not_true, Bool.not_false, Bool.not_eq_eq_eq_not, Int.not_lt, Int.not_le] at g10'
                      refine x_run0 [(116, pB (!decide (e5.id = e5.id))), (10, PV.ref 1 0 none)] [0, 1, 2, 3, 4, 5, 6, 7, 8, 9, 10, 11] rfl rfl rfl rfl (s_move rfl ⟨rfl, rfl, rfl⟩) ?_
                      refine x_if [(116, pB (!decide (e5.id = e5.id))), (13, pN z)] [0, 1, 2, 3, 4, 5, 6, 7, 8, 9, 10, 11] rfl rfl rfl rfl (fun _ => ?_) (fun e => absurd (e.symm.trans g10) (by decide))
                      refine x_run0 [(116, pB (!decide (e5.id = e5.id))), (13, pN z)] [0, 1, 2, 3, 4, 5, 6, 7, 8, 9, 10, 11] rfl rfl rfl rfl (s_move rfl ⟨rfl, rfl, rfl⟩) ?_
                      refine x_if [(116, pB (!decide (e5.id = e5.id))), (117, PV.ref 1 0 none), (118, pN z)] [0, 1, 2, 3, 4, 5, 6, 7, 8, 9, 10, 11, 12, 13] rfl rfl rfl rfl (fun _ => ?_) (fun e => absurd (e.symm.trans g10) (by decide))
                      refine x_run [(116, pB (!decide (e5.id = e5.id))), (117, PV.ref 1 0 none), (118, pN z)] [0, 1, 2, 3, 4, 5, 6, 7, 8, 9, 10, 11, 12, 13] [(1, oB true 3 eMsg wm)] [] [(1, oB true 3 eMsg wm)] [] [(0, oB true 3 eMsg wm), (1, oB true 3 eMsg wm)] rfl rfl rfl rfl rfl rfl (s_iaR0 (q := z) (f := eMsg) (l := wm) tab_39 rfl tab_30 rfl rfl (by omega) rfl rfl (by omega) ⟨rfl, rfl, rfl⟩) rfl ⟨rfl, trivial⟩ rfl rfl ?_
                      refine x_if [(116, pB (!decide (e5.id = e5.id))), (119, PV.ep 1 z 0)] [0, 1, 2, 3, 4, 5, 6, 7, 8, 9, 10, 11, 12, 13, 14] rfl rfl rfl rfl (fun _ => ?_) (fun e => absurd (e.symm.trans g10) (by decide))
                      refine x_run0 [(116, pB (!decide (e5.id = e5.id))), (119, PV.ep 1 z 0)] [0, 1, 2, 3, 4, 5, 6, 7, 8, 9, 10, 11, 12, 13, 14] rfl rfl rfl rfl (s_fa_ep tab_30 rfl rfl tab_3 (by decide) rfl ⟨rfl, rfl, rfl⟩) ?_
                      refine x_if [(116, pB (!decide (e5.id = e5.id))), (120, PV.ep 1 z 1)] [0, 1, 2, 3, 4, 5, 6, 7, 8, 9, 10, 11, 12, 13, 14, 15] rfl rfl rfl rfl (fun _ => ?_) (fun e => absurd (e.symm.trans g10) (by decide))
                      refine x_run [(116, pB (!decide (e5.id = e5.id))), (120, PV.ep 1 z 1)] [0, 1, 2, 3, 4, 5, 6, 7, 8, 9, 10, 11, 12, 13, 14, 15] [(1, oB true 3 eMsg wm)] [] [(1, oB true 3 eMsg wm)] [] [(0, oB true 3 eMsg wm), (1, oB true 3 eMsg wm)] rfl rfl rfl rfl rfl rfl (s_ldM (b := e5) (f := eMsg) tab_3 rfl rfl rfl rfl he5 rfl ⟨rfl, rfl, rfl⟩) rfl ⟨rfl, trivial⟩ rfl rfl ?_
                      refine x_if [(116, pB (!decide (e5.id = e5.id))), (7, PV.ref 0 0 none)] [0, 1, 2, 3, 4, 5, 6, 7, 8, 9, 10, 11] rfl rfl rfl rfl (fun _ => ?_) (fun e => absurd (e.symm.trans g10) (by decide))
                      refine x_run0 [(116, pB (!decide (e5.id = e5.id))), (7, PV.ref 0 0 none)] [0, 1, 2, 3, 4, 5, 6, 7, 8, 9, 10, 11] rfl rfl rfl rfl (s_move rfl ⟨rfl, rfl, rfl⟩) ?_
                      refine x_if [(116, pB (!decide (e5.id = e5.id))), (13, pN z)] [0, 1, 2, 3, 4, 5, 6, 7, 8, 9, 10, 11] rfl rfl rfl rfl (fun _ => ?_) (fun e => absurd (e.symm.trans g10) (by decide))
                      refine x_run0 [(116, pB (!decide (e5.id = e5.id))), (13, pN z)] [0, 1, 2, 3, 4, 5, 6, 7, 8, 9, 10, 11] rfl rfl rfl rfl (s_move rfl ⟨rfl, rfl, rfl⟩) ?_
                      refine x_if [(116, pB (!decide (e5.id = e5.id))), (122, PV.ref 0 0 none), (123, pN z)] [0, 1, 2, 3, 4, 5, 6, 7, 8, 9, 10, 11, 17, 18] rfl rfl rfl rfl (fun _ => ?_) (fun e => absurd (e.symm.trans g10) (by decide))
                      refine x_run [(116, pB (!decide (e5.id = e5.id))), (122, PV.ref 0 0 none), (123, pN z)] [0, 1, 2, 3, 4, 5, 6, 7, 8, 9, 10, 11, 17, 18] [(0, oB true 3 eMsg wm)] [] [(0, oB true 3 eMsg wm)] [] [(0, oB true 3 eMsg wm), (1, oB true 3 eMsg wm)] rfl rfl rfl rfl rfl rfl (s_iaR0 (q := z) (f := eMsg) (l := wm) tab_39 rfl tab_30 rfl rfl (by omega) rfl rfl (by omega) ⟨rfl, rfl, rfl⟩) rfl ⟨rfl, trivial⟩ rfl rfl ?_
                      refine x_if [(116, pB (!decide (e5.id = e5.id))), (124, PV.ep 0 z 0)] [0, 1, 2, 3, 4, 5, 6, 7, 8, 9, 10, 11, 17, 18, 19] rfl rfl rfl rfl (fun _ => ?_) (fun e => absurd (e.symm.trans g10) (by decide))
                      refine x_run0 [(116, pB (!decide (e5.id = e5.id))), (124, PV.ep 0 z 0)] [0, 1, 2, 3, 4, 5, 6, 7, 8, 9, 10, 11, 17, 18, 19] rfl rfl rfl rfl (s_fa_ep tab_30 rfl rfl tab_3 (by decide) rfl ⟨rfl, rfl, rfl⟩) ?_
                      refine x_if [(116, pB (!decide (e5.id = e5.id))), (125, PV.ep 0 z 1)] [0, 1, 2, 3, 4, 5, 6, 7, 8, 9, 10, 11, 17, 18, 19, 20] rfl rfl rfl rfl (fun _ => ?_) (fun e => absurd (e.symm.trans g10) (by decide))
                      refine x_run [(116, pB (!decide (e5.id = e5.id))), (125, PV.ep 0 z 1)] [0, 1, 2, 3, 4, 5, 6, 7, 8, 9, 10, 11, 17, 18, 19, 20] [(0, oB true 3 eMsg wm)] [] [(0, oB true 3 eMsg wm)] [] [(0, oB true 3 eMsg wm), (1, oB true 3 eMsg wm)] rfl rfl rfl rfl rfl rfl (s_ldM (b := e5) (f := eMsg) tab_3 rfl rfl rfl rfl he5 rfl ⟨rfl, rfl, rfl⟩) rfl ⟨rfl, trivial⟩ rfl rfl ?_
                      refine x_if [(116, pB (!decide (e5.id = e5.id))), (121, pI e5.unit), (126, pI e5.unit)] [0, 1, 2, 3, 4, 5, 6, 7, 8, 9, 10, 11, 12, 13, 14, 15, 16, 17, 18, 19, 20, 21] rfl rfl rfl rfl (fun _ => ?_) (fun e => absurd (e.symm.trans g10) (by decide))
                      refine x_run0 [(116, pB (!decide (e5.id = e5.id))), (121, pI e5.unit), (126, pI e5.unit)] [0, 1, 2, 3, 4, 5, 6, 7, 8, 9, 10, 11, 12, 13, 14, 15, 16, 17, 18, 19, 20, 21] rfl rfl rfl rfl (s_neq rfl rfl ⟨rfl, rfl, rfl⟩) ?_
                      refine d_op ?_
                      refine x_run0 [(116, pB (!decide (e5.id = e5.id))), (127, pB (!decide (e5.unit = e5.unit)))] [0, 1, 2, 3, 4, 5, 6, 7, 8, 9, 10, 11, 12, 13, 14, 15, 16, 17, 18, 19, 20, 21, 22] rfl rfl rfl rfl (s_pick_f rfl g10 rfl ⟨rfl, rfl, rfl⟩) ?_
                      refine d_op ?_
                      refine x_run0 [(128, pB (!decide (e5.unit = e5.unit)))] [0, 1, 2, 3, 4, 5, 6, 7, 8, 9, 10, 11, 12, 13, 14, 15, 16, 17, 18, 19, 20, 21, 22, 23] rfl rfl rfl rfl (s_move rfl ⟨rfl, rfl, rfl⟩) ?_
                      refine x_if [(129, pB (!decide (e5.unit = e5.unit))), (10, PV.ref 1 0 none)] [0, 1, 2, 3, 4, 5, 6, 7, 8, 9, 10, 11, 12, 13, 14, 15, 16, 17, 18, 19, 20, 21, 22, 23, 24] rfl rfl rfl rfl (fun g11 => ?_) (fun g11 => ?_)
                      ·
                        have g11' := g11
                        try simp only [decide_eq_true_eq, decide_eq_false_iff_not, Bool.not_eq_true', Bool.not_eq_false', Bool.not_true, Bool.not_false, Bool.not_eq_eq_eq_not, Int.not_lt, Int.not_le] at g11'
                        refine x_run0 [(129, pB (!decide (e5.unit = e5.unit))), (10, PV.ref 1 0 none)] [0, 1, 2, 3, 4, 5, 6, 7, 8, 9, 10, 11, 12, 13, 14, 15, 16, 17, 18, 19, 20, 21, 22, 23, 24] rfl rfl rfl rfl (s_move rfl ⟨rfl, rfl, rfl⟩) ?_
                        refine x_if [(129, pB (!decide (e5.unit = e5.unit))), (13, pN z)] [0, 1, 2, 3, 4, 5, 6, 7, 8, 9, 10, 11, 12, 13, 14, 15, 16, 17, 18, 19, 20, 21, 22, 23, 24] rfl rfl rfl rfl (fun _ => ?_) (fun e => absurd (e.symm.trans g11) (by decide))
                        refine x_run0 [(129, pB (!decide (e5.unit = e5.unit))), (13, pN z)] [0, 1, 2, 3, 4, 5, 6, 7, 8, 9, 10, 11, 12, 13, 14, 15, 16, 17, 18, 19, 20, 21, 22, 23, 24] rfl rfl rfl rfl (s_move rfl ⟨rfl, rfl, rfl⟩) ?_
                        refine x_if [(129, pB (!decide (e5.unit = e5.unit))), (130, PV.ref 1 0 none), (131, pN z)] [0, 1, 2, 3, 4, 5, 6, 7, 8, 9, 10, 11, 12, 13, 14, 15, 16, 17, 18, 19, 20, 21, 22, 23, 24, 25, 26] rfl rfl rfl rfl (fun _ => ?_) (fun e => absurd (e.symm.trans g11) (by decide))
                        refine x_run [(129, pB (!decide (e5.unit = e5.unit))), (130, PV.ref 1 0 none), (131, pN z)] [0, 1, 2, 3, 4, 5, 6, 7, 8, 9, 10, 11, 12, 13, 14, 15, 16, 17, 18, 19, 20, 21, 22, 23, 24, 25, 26] [(1, oB true 3 eMsg wm)] [] [(1, oB true 3 eMsg wm)] [] [(0, oB true 3 eMsg wm), (1, oB true 3 eMsg wm)] rfl rfl rfl rfl rfl rfl (s_iaR0 (q := z) (f := eMsg) (l := wm) tab_39 rfl tab_30 rfl rfl (by omega) rfl rfl (by omega) ⟨rfl, rfl, rfl⟩) rfl ⟨rfl, trivial⟩ rfl rfl ?_
                        refine x_if [(129, pB (!decide (e5.unit = e5.unit))), (132, PV.ep 1 z 0)] [0, 1, 2, 3, 4, 5, 6, 7, 8, 9, 10, 11, 12, 13, 14, 15, 16, 17, 18, 19, 20, 21, 22, 23, 24, 25, 26, 27] rfl rfl rfl rfl (fun _ => ?_) (fun e => absurd (e.symm.trans g11) (by decide))
                        refine x_run0 [(129, pB (!decide (e5.unit = e5.unit))), (132, PV.ep 1 z 0)] [0, 1, 2, 3, 4, 5, 6, 7, 8, 9, 10, 11, 12, 13, 14, 15, 16, 17, 18, 19, 20, 21, 22, 23, 24, 25, 26, 27] rfl rfl rfl rfl (s_fa_ep tab_30 rfl rfl tab_27 (by decide) rfl ⟨rfl, rfl, rfl⟩) ?_
                        refine x_if [(129, pB (!decide (e5.unit = e5.unit))), (133, PV.ep 1 z 2)] [0, 1, 2, 3, 4, 5, 6, 7, 8, 9, 10, 11, 12, 13, 14, 15, 16, 17, 18, 19, 20, 21, 22, 23, 24, 25, 26, 27, 28] rfl rfl rfl rfl (fun _ => ?_) (fun e => absurd (e.symm.trans g11) (by decide))
                        refine x_run [(129, pB (!decide (e5.unit = e5.unit))), (133, PV.ep 1 z 2)] [0, 1, 2, 3, 4, 5, 6, 7, 8, 9, 10, 11, 12, 13, 14, 15, 16, 17, 18, 19, 20, 21, 22, 23, 24, 25, 26, 27, 28] [(1, oB true 3 eMsg wm)] [] [(1, oB true 3 eMsg wm)] [] [(0, oB true 3 eMsg wm), (1, oB true 3 eMsg wm)] rfl rfl rfl rfl rfl rfl (s_ldM (b := e5) (f := eMsg) tab_27 rfl rfl rfl rfl he5 rfl ⟨rfl, rfl, rfl⟩) rfl ⟨rfl, trivial⟩ rfl rfl ?_
                        refine x_if [(129, pB (!decide (e5.unit = e5.unit))), (134, pS 1 false enc8 e5.pdu)] [0, 1, 2, 3, 4, 5, 6, 7, 8, 9, 10, 11, 12, 13, 14, 15, 16, 17, 18, 19, 20, 21, 22, 23, 24, 25, 26, 27, 28, 29] rfl rfl rfl rfl (fun _ => ?_) (fun e => absurd (e.symm.trans g11) (by decide))
                        refine x_run0 [(129, pB (!decide (e5.unit = e5.unit))), (134, pS 1 false enc8 e5.pdu)] [0, 1, 2, 3, 4, 5, 6, 7, 8, 9, 10, 11, 12, 13, 14, 15, 16, 17, 18, 19, 20, 21, 22, 23, 24, 25, 26, 27, 28, 29] rfl rfl rfl rfl (s_cvT tab_27 tab_9 rfl tab_5 rfl rfl (hM_sl (f := enc8) rfl) ⟨rfl, rfl, rfl⟩) ?_
                        refine x_if [(129, pB (!decide (e5.unit = e5.unit))), (7, PV.ref 0 0 none)] [0, 1, 2, 3, 4, 5, 6, 7, 8, 9, 10, 11, 12, 13, 14, 15, 16, 17, 18, 19, 20, 21, 22, 23, 24] rfl rfl rfl rfl (fun _ => ?_) (fun e => absurd (e.symm.trans g11) (by decide))
                        refine x_run0 [(129, pB (!decide (e5.unit = e5.unit))), (7, PV.ref 0 0 none)] [0, 1, 2, 3, 4, 5, 6, 7, 8, 9, 10, 11, 12, 13, 14, 15, 16, 17, 18, 19, 20, 21, 22, 23, 24] rfl rfl rfl rfl (s_move rfl ⟨rfl, rfl, rfl⟩) ?_
                        refine x_if [(129, pB (!decide (e5.unit = e5.unit))), (13, pN z)] [0, 1, 2, 3, 4, 5, 6, 7, 8, 9, 10, 11, 12, 13, 14, 15, 16, 17, 18, 19, 20, 21, 22, 23, 24] rfl rfl rfl rfl (fun _ => ?_) (fun e => absurd (e.symm.trans g11) (by decide))
                        refine x_run0 [(129, pB (!decide (e5.unit = e5.unit))), (13, pN z)] [0, 1, 2, 3, 4, 5, 6, 7, 8, 9, 10, 11, 12, 13, 14, 15, 16, 17, 18, 19, 20, 21, 22, 23, 24] rfl rfl rfl rfl (s_move rfl ⟨rfl, rfl, rfl⟩) ?_
                        refine x_if [(129, pB (!decide (e5.unit = e5.unit))), (136, PV.ref 0 0 none), (137, pN z)] [0, 1, 2, 3, 4, 5, 6, 7, 8, 9, 10, 11, 12, 13, 14, 15, 16, 17, 18, 19, 20, 21, 22, 23, 24, 31, 32] rfl rfl rfl rfl (fun _ => ?_) (fun e => absurd (e.symm.trans g11) (by decide))
                        refine x_run [(129, pB (!decide (e5.unit = e5.unit))), (136, PV.ref 0 0 none), (137, pN z)] [0, 1, 2, 3, 4, 5, 6, 7, 8, 9, 10, 11, 12, 13, 14, 15, 16, 17, 18, 19, 20, 21, 22, 23, 24, 31, 32] [(0, oB true 3 eMsg wm)] [] [(0, oB true 3 eMsg wm)] [] [(0, oB true 3 eMsg wm), (1, oB true 3 eMsg wm)] rfl rfl rfl rfl rfl rfl (s_iaR0 (q := z) (f := eMsg) (l := wm) tab_39 rfl tab_30 rfl rfl (by omega) rfl rfl (by omega) ⟨rfl, rfl, rfl⟩) rfl ⟨rfl, trivial⟩ rfl rfl ?_
                        refine x_if [(129, pB (!decide (e5.unit = e5.unit))), (138, PV.ep 0 z 0)] [0, 1, 2, 3, 4, 5, 6, 7, 8, 9, 10, 11, 12, 13, 14, 15, 16, 17, 18, 19, 20, 21, 22, 23, 24, 31, 32, 33] rfl rfl rfl rfl (fun _ => ?_) (fun e => absurd (e.symm.trans g11) (by decide))
                        refine x_run0 [(129, pB (!decide (e5.unit = e5.unit))), (138, PV.ep 0 z 0)] [0, 1, 2, 3, 4, 5, 6, 7, 8, 9, 10, 11, 12, 13, 14, 15, 16, 17, 18, 19, 20, 21, 22, 23, 24, 31, 32, 33] rfl rfl rfl rfl (s_fa_ep tab_30 rfl rfl tab_27 (by decide) rfl ⟨rfl, rfl, rfl⟩) ?_
                        refine x_if [(129, pB (!decide (e5.unit = e5.unit))), (139, PV.ep 0 z 2)] [0, 1, 2, 3, 4, 5, 6, 7, 8, 9, 10, 11, 12, 13, 14, 15, 16, 17, 18, 19, 20, 21, 22, 23, 24, 31, 32, 33, 34] rfl rfl rfl rfl (fun _ => ?_) (fun e => absurd (e.symm.trans g11) (by decide))
                        refine x_run [(129, pB (!decide (e5.unit = e5.unit))), (139, PV.ep 0 z 2)] [0, 1, 2, 3, 4, 5, 6, 7, 8, 9, 10, 11, 12, 13, 14, 15, 16, 17, 18, 19, 20, 21, 22, 23, 24, 31, 32, 33, 34] [(0, oB true 3 eMsg wm)] [] [(0, oB true 3 eMsg wm)] [] [(0, oB true 3 eMsg wm), (1, oB true 3 eMsg wm)] rfl rfl rfl rfl rfl rfl (s_ldM (b := e5) (f := eMsg) tab_27 rfl rfl rfl rfl he5 rfl ⟨rfl, rfl, rfl⟩) rfl ⟨rfl, trivial⟩ rfl rfl ?_
                        refine x_if [(129, pB (!decide (e5.unit = e5.unit))), (140, pS 1 false enc8 e5.pdu)] [0, 1, 2, 3, 4, 5, 6, 7, 8, 9, 10, 11, 12, 13, 14, 15, 16, 17, 18, 19, 20, 21, 22, 23, 24, 31, 32, 33, 34, 35] rfl rfl rfl rfl (fun _ => ?_) (fun e => absurd (e.symm.trans g11) (by decide))
                        refine x_run0 [(129, pB (!decide (e5.unit = e5.unit))), (140, pS 1 false enc8 e5.pdu)] [0, 1, 2, 3, 4, 5, 6, 7, 8, 9, 10, 11, 12, 13, 14, 15, 16, 17, 18, 19, 20, 21, 22, 23, 24, 31, 32, 33, 34, 35] rfl rfl rfl rfl (s_cvT tab_27 tab_9 rfl tab_5 rfl rfl (hM_sl (f := enc8) rfl) ⟨rfl, rfl, rfl⟩) ?_
                        refine x_if [(129, pB (!decide (e5.unit = e5.unit))), (135, pT e5.pdu), (141, pT e5.pdu)] [0, 1, 2, 3, 4, 5, 6, 7, 8, 9, 10, 11, 12, 13, 14, 15, 16, 17, 18, 19, 20, 21, 22, 23, 24, 25, 26, 27, 28, 29, 30, 31, 32, 33, 34, 35, 36] rfl rfl rfl rfl (fun _ => ?_) (fun e => absurd (e.symm.trans g11) (by decide))
                        refine x_run0 [(129, pB (!decide (e5.unit = e5.unit))), (135, pT e5.pdu), (141, pT e5.pdu)] [0, 1, 2, 3, 4, 5, 6, 7, 8, 9, 10, 11, 12, 13, 14, 15, 16, 17, 18, 19, 20, 21, 22, 23, 24, 25, 26, 27, 28, 29, 30, 31, 32, 33, 34, 35, 36] rfl rfl rfl rfl (s_netext (l := e5.pdu) (m := e5.pdu) rfl rfl ⟨rfl, rfl, rfl⟩) ?_
                        refine d_op ?_
                        refine x_run0 [(129, pB (!decide (e5.unit = e5.unit))), (142, pB (!decide (e5.pdu = e5.pdu)))] [0, 1, 2, 3, 4, 5, 6, 7, 8, 9, 10, 11, 12, 13, 14, 15, 16, 17, 18, 19, 20, 21, 22, 23, 24, 25, 26, 27, 28, 29, 30, 31, 32, 33, 34, 35, 36, 37] rfl rfl rfl rfl (s_pick_f rfl g11 rfl ⟨rfl, rfl, rfl⟩) ?_
                        refine d_end ⟨by kernel_rfl, ?_⟩
                        refine q_then ?_
                        refine w_if rfl (fun c11 => ?_) (fun c11 => ?_)
                        ·
                          have c11_ := c11
                          exact absurd c11 (by simp)
                        ·
                          have c11_ := c11
                          try simp only [decide_eq_true_eq, decide_eq_false_iff_not, Bool.not_eq_true', Bool.not_eq_false', Bool.not_true, Bool.not_false, Bool.not_eq_eq_eq_not, Int.not_lt, Int.not_le] at c11
                          refine w_skip ?_
                          refine q_block ?_
                          refine q_then ?_
                          refine w_R ?_
                          refine r_op tabOk hnt rfl (s_addN (a := z) (b := 1) rfl rfl (by omega) (by omega) (by omega) ?_) 
                          refine r_op tabOk hnt rfl (s_move rfl ?_) 
                          refine r_end ?_
                          refine q_then ?_
                          refine ⟨(z + 1), ?_, ?_, ⟨[(0, 0), (1, 1)], by rw [hk]; decide, ⟨⟨_, rfl, rfl, rfl⟩, ⟨_, rfl, rfl, rfl⟩, ⟨_, rfl, rfl, rfl⟩, ⟨_, rfl, rfl, rfl⟩, trivial⟩, ⟨⟨_, _, rfl, rfl, rfl, rfl⟩, ⟨_, _, rfl, rfl, rfl, rfl⟩, trivial⟩, by rw [hk]; decide⟩⟩
                          ·
                            omega
                          · omega
                      ·
                        exact absurd g11 (by simp)
                    ·
                      exact absurd g10 (by simp)
                  ·
                    have c10_ := c10
                    try simp only [decide_eq_true_eq, decide_eq_false_iff_not, Bool.not_eq_true', Bool.not_eq_false', Bool.not_true, Bool.not_false, Bool.not_eq_eq_eq_not, Int.not_lt, Int.not_le] at c10
                    refine w_exit ?_
                    refine q_then_exit ?_
                    refine q_then_exit ?_
                    refine q_block_exit ?_
                    refine q_then ?_
                    refine w_seq ?_
                    refine w_R ?_
                    refine r_op tabOk hnt rfl (s_callF rfl rfl rfl (w_burgagelaw6_known) rfl ?_) 
                    refine r_op tabOk hnt rfl (s_assign rfl ?_) 
                    refine r_end ?_
                    refine q_then ?_
                    refine w_ret ?_
                    exact fin_plain (ret_tmp rfl ret_nil) rfl rfl ⟨rfl, rfl, rfl⟩
            ·
              exact absurd g9 (by simp)
          ·
            exact absurd g8 (by simp)

end Go.Proofs.Ytfbmlnajnlekbaa
