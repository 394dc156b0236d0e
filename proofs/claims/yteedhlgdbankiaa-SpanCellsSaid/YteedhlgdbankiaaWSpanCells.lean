/- Walks: printed by a program of this session (wip/tools/walk2.py) out of its notes. -/
import Derived.Test.YteedhlgdbankiaaWSpanLaw
import Derived.Test.YteedhlgdbankiaaSpecT
set_option linter.unusedVariables false
set_option linter.unusedSimpArgs false
set_option maxRecDepth 10000
set_option maxHeartbeats 1000000
namespace Go.Proofs.Yteedhlgdbankiaa
open Go Go.Proofs.Yteedhlgdbankiaa.Pv

theorem w_burgagelaw7_SpanCells (a : TSpan) (b : TSpan) (l : List TSpan) (cl_l : Bool) (hl : l.length * 16 ≤ 140737488351232) :
    T Try.prog 13 [PV.f (eSpan a), PV.f (eSpan b), pS 2 cl_l eSpan l] 0 [] (Ret (pB true) 0 []) := by
  refine t_fun tabOk (n := 253) (rs := [.tmp 6]) Try.func13 rfl rfl rfl rfl (Nat.le_of_ble_eq_true rfl) ?_
  intro c hnt hk
  refine w_seq ?_
  refine w_R ?_
  refine r_op tabOk hnt rfl (s_box rfl rfl ?_) 
  refine r_op tabOk hnt rfl (s_box rfl rfl ?_) 
  refine r_op tabOk hnt rfl (s_assign rfl ?_) 
  refine r_set [(2, pS 2 cl_l eSpan l), (3, PV.ptr 0 0), (4, PV.ptr 1 0)] [(1, .obj [pI b.at_, pI b.count]), (0, .obj [pI a.at_, pI a.count])] 2 ⟨rfl, rfl, rfl, trivial⟩ rfl rfl ?_
  refine r_end ?_
  refine q_then ?_
  refine w_seq ?_
  refine W_drawn tabOk mixed hnt [[], [0], [0, 1], [], [3], [3, 4], [3, 4, 5], [0, 1, 2, 3, 4, 5, 6], [], [8], [8, 9], [], [11], [11, 12], [11, 12, 13], [8, 9, 10, 11, 12, 13, 14], [], [], [0, 1, 2, 3, 4, 5, 6, 7, 16, 17], [0, 1, 2, 3, 4, 5, 6, 7, 8, 9, 10, 11, 12, 13, 14, 15, 16, 17, 18]] (by kernel_rfl) ?_
  refine d_op ?_
  refine x_run0 [(3, PV.ptr 0 0)] [] rfl rfl rfl rfl (s_fa_ptr tab_53 rfl rfl tab_3 (by decide) rfl ⟨rfl, rfl, rfl⟩) ?_
  refine d_op ?_
  refine x_run [(30, PV.ptr 0 0)] [0] [(0, .obj [pI a.at_, pI a.count])] [] [(0, .obj [pI a.at_, pI a.count])] [] [(1, .obj [pI b.at_, pI b.count]), (0, .obj [pI a.at_, pI a.count])] rfl rfl rfl rfl rfl rfl (s_load_ptr1 tab_3 rfl rfl rfl rfl rfl ⟨rfl, rfl, rfl⟩) rfl ⟨rfl, trivial⟩ rfl rfl ?_
  refine d_op ?_
  refine x_run0 [(31, pI a.at_)] [0, 1] rfl rfl rfl rfl (s_maskI 4 (by decide) rfl rfl (by decide) ⟨rfl, rfl, rfl⟩) ?_
  refine d_op ?_
  refine x_run0 [(3, PV.ptr 0 0)] [] rfl rfl rfl rfl (s_fa_ptr tab_53 rfl rfl tab_3 (by decide) rfl ⟨rfl, rfl, rfl⟩) ?_
  refine d_op ?_
  refine x_run [(33, PV.ptr 0 1)] [3] [(0, .obj [pI a.at_, pI a.count])] [] [(0, .obj [pI a.at_, pI a.count])] [] [(1, .obj [pI b.at_, pI b.count]), (0, .obj [pI a.at_, pI a.count])] rfl rfl rfl rfl rfl rfl (s_load_ptr1 tab_3 rfl rfl rfl rfl rfl ⟨rfl, rfl, rfl⟩) rfl ⟨rfl, trivial⟩ rfl rfl ?_
  refine d_op ?_
  refine x_run0 [(34, pI a.count)] [3, 4] rfl rfl rfl rfl (s_maskI 4 (by decide) rfl rfl (by decide) ⟨rfl, rfl, rfl⟩) ?_
  refine d_op ?_
  refine x_run0 [(35, pN ((a.count % 2 ^ 4).toNat))] [3, 4, 5] rfl rfl rfl rfl (s_addN (a := 1) (b := (a.count % 2 ^ 4).toNat) rfl rfl (by omega) (by omega) (by omega) ⟨rfl, rfl, rfl⟩) ?_
  refine d_op ?_
  refine x_run0 [(32, pN ((a.at_ % 2 ^ 4).toNat)), (36, pN (1 + ((a.count % 2 ^ 4).toNat)))] [0, 1, 2, 3, 4, 5, 6] rfl rfl rfl rfl (s_build tab_53 rfl rfl (b_cons rfl tab_3 rfl rfl rfl (Nat.le_of_ble_eq_true rfl) (b_cons rfl tab_3 rfl rfl rfl (Nat.le_of_ble_eq_true rfl) (b_nil ⟨rfl, rfl, rfl⟩)))) ?_
  refine d_op ?_
  refine x_run0 [(4, PV.ptr 1 0)] [] rfl rfl rfl rfl (s_fa_ptr tab_53 rfl rfl tab_3 (by decide) rfl ⟨rfl, rfl, rfl⟩) ?_
  refine d_op ?_
  refine x_run [(38, PV.ptr 1 0)] [8] [(1, .obj [pI b.at_, pI b.count])] [] [(1, .obj [pI b.at_, pI b.count])] [] [(1, .obj [pI b.at_, pI b.count]), (0, .obj [pI a.at_, pI a.count])] rfl rfl rfl rfl rfl rfl (s_load_ptr1 tab_3 rfl rfl rfl rfl rfl ⟨rfl, rfl, rfl⟩) rfl ⟨rfl, trivial⟩ rfl rfl ?_
  refine d_op ?_
  refine x_run0 [(39, pI b.at_)] [8, 9] rfl rfl rfl rfl (s_maskI 4 (by decide) rfl rfl (by decide) ⟨rfl, rfl, rfl⟩) ?_
  refine d_op ?_
  refine x_run0 [(4, PV.ptr 1 0)] [] rfl rfl rfl rfl (s_fa_ptr tab_53 rfl rfl tab_3 (by decide) rfl ⟨rfl, rfl, rfl⟩) ?_
  refine d_op ?_
  refine x_run [(41, PV.ptr 1 1)] [11] [(1, .obj [pI b.at_, pI b.count])] [] [(1, .obj [pI b.at_, pI b.count])] [] [(1, .obj [pI b.at_, pI b.count]), (0, .obj [pI a.at_, pI a.count])] rfl rfl rfl rfl rfl rfl (s_load_ptr1 tab_3 rfl rfl rfl rfl rfl ⟨rfl, rfl, rfl⟩) rfl ⟨rfl, trivial⟩ rfl rfl ?_
  refine d_op ?_
  refine x_run0 [(42, pI b.count)] [11, 12] rfl rfl rfl rfl (s_maskI 4 (by decide) rfl rfl (by decide) ⟨rfl, rfl, rfl⟩) ?_
  refine d_op ?_
  refine x_run0 [(43, pN ((b.count % 2 ^ 4).toNat))] [11, 12, 13] rfl rfl rfl rfl (s_addN (a := 1) (b := (b.count % 2 ^ 4).toNat) rfl rfl (by omega) (by omega) (by omega) ⟨rfl, rfl, rfl⟩) ?_
  refine d_op ?_
  refine x_run0 [(40, pN ((b.at_ % 2 ^ 4).toNat)), (44, pN (1 + ((b.count % 2 ^ 4).toNat)))] [8, 9, 10, 11, 12, 13, 14] rfl rfl rfl rfl (s_build tab_53 rfl rfl (b_cons rfl tab_3 rfl rfl rfl (Nat.le_of_ble_eq_true rfl) (b_cons rfl tab_3 rfl rfl rfl (Nat.le_of_ble_eq_true rfl) (b_nil ⟨rfl, rfl, rfl⟩)))) ?_
  refine d_op ?_
  refine x_run [] [] [] [] [(2, .obj [pI 0, pI 0])] [(2, .obj [pI 0, pI 0])] [(2, .obj [pI 0, pI 0]), (1, .obj [pI b.at_, pI b.count]), (0, .obj [pI a.at_, pI a.count])] rfl rfl rfl rfl rfl rfl (s_alloc tab_53 ⟨rfl, rfl, rfl⟩) rfl trivial rfl rfl ?_
  refine d_op ?_
  refine x_run [] [] [] [] [(3, .obj [pI 0, pI 0])] [(3, .obj [pI 0, pI 0])] [(3, .obj [pI 0, pI 0]), (2, .obj [pI 0, pI 0]), (1, .obj [pI b.at_, pI b.count]), (0, .obj [pI a.at_, pI a.count])] rfl rfl rfl rfl rfl rfl (s_alloc tab_53 ⟨rfl, rfl, rfl⟩) rfl trivial rfl rfl ?_
  refine d_op ?_
  refine x_run [(7, PV.ptr 2 0), (37, PV.f (.agg [encI (((a.at_ % 2 ^ 4).toNat : Nat) : Int), encI ((1 + ((a.count % 2 ^ 4).toNat) : Nat) : Int)]))] [0, 1, 2, 3, 4, 5, 6, 7, 16, 17] [] [(2, .obj [pI 0, pI 0])] [(2, .obj [pN ((a.at_ % 2 ^ 4).toNat), pN (1 + ((a.count % 2 ^ 4).toNat))])] [(2, .obj [pN ((a.at_ % 2 ^ 4).toNat), pN (1 + ((a.count % 2 ^ 4).toNat))])] [(2, .obj [pN ((a.at_ % 2 ^ 4).toNat), pN (1 + ((a.count % 2 ^ 4).toNat))]), (3, .obj [pI 0, pI 0]), (1, .obj [pI b.at_, pI b.count]), (0, .obj [pI a.at_, pI a.count])] rfl rfl rfl rfl rfl rfl (s_store_ptr tab_53 rfl rfl rfl rfl rfl (Nat.le_of_ble_eq_true rfl) ⟨rfl, rfl, rfl⟩) rfl trivial rfl rfl ?_
  refine d_op ?_
  refine x_run [(8, PV.ptr 3 0), (45, PV.f (.agg [encI (((b.at_ % 2 ^ 4).toNat : Nat) : Int), encI ((1 + ((b.count % 2 ^ 4).toNat) : Nat) : Int)]))] [0, 1, 2, 3, 4, 5, 6, 7, 8, 9, 10, 11, 12, 13, 14, 15, 16, 17, 18] [] [(3, .obj [pI 0, pI 0])] [(3, .obj [pN ((b.at_ % 2 ^ 4).toNat), pN (1 + ((b.count % 2 ^ 4).toNat))])] [(3, .obj [pN ((b.at_ % 2 ^ 4).toNat), pN (1 + ((b.count % 2 ^ 4).toNat))])] [(3, .obj [pN ((b.at_ % 2 ^ 4).toNat), pN (1 + ((b.count % 2 ^ 4).toNat))]), (2, .obj [pN ((a.at_ % 2 ^ 4).toNat), pN (1 + ((a.count % 2 ^ 4).toNat))]), (1, .obj [pI b.at_, pI b.count]), (0, .obj [pI a.at_, pI a.count])] rfl rfl rfl rfl rfl rfl (s_store_ptr tab_53 rfl rfl rfl rfl rfl (Nat.le_of_ble_eq_true rfl) ⟨rfl, rfl, rfl⟩) rfl trivial rfl rfl ?_
  refine d_end ⟨by kernel_rfl, ?_⟩
  refine q_then ?_
  refine w_seq ?_
  obtain ⟨x, hx⟩ : ∃ z : TSpan, z = (⟨(((a.at_ % 2 ^ 4).toNat : Nat) : Int), ((1 + ((a.count % 2 ^ 4).toNat) : Nat) : Int)⟩ : TSpan) := ⟨_, rfl⟩
  refine w_leC (n := 2) (j := 0) (y := pI x.at_) rfl rfl (le_of_eq (congrArg (fun z : Int => pI z) (show (((a.at_ % 2 ^ 4).toNat : Nat) : Int) = x.at_ by rw [hx]))) ?_
  refine w_leC (n := 2) (j := 1) (y := pI x.count) rfl rfl (le_of_eq (congrArg (fun z : Int => pI z) (show ((1 + ((a.count % 2 ^ 4).toNat) : Nat) : Int) = x.count by rw [hx]))) ?_
  obtain ⟨y, hy⟩ : ∃ z : TSpan, z = (⟨(((b.at_ % 2 ^ 4).toNat : Nat) : Int), ((1 + ((b.count % 2 ^ 4).toNat) : Nat) : Int)⟩ : TSpan) := ⟨_, rfl⟩
  refine w_leC (n := 3) (j := 0) (y := pI y.at_) rfl rfl (le_of_eq (congrArg (fun z : Int => pI z) (show (((b.at_ % 2 ^ 4).toNat : Nat) : Int) = y.at_ by rw [hy]))) ?_
  refine w_leC (n := 3) (j := 1) (y := pI y.count) rfl rfl (le_of_eq (congrArg (fun z : Int => pI z) (show ((1 + ((b.count % 2 ^ 4).toNat) : Nat) : Int) = y.count by rw [hy]))) ?_
  have xok : spOk x = true := (spOk_iff _).2 (by rw [hx]; simp only; omega)
  have yok : spOk y = true := (spOk_iff _).2 (by rw [hy]; simp only; omega)
  have hxk := (spOk_iff x).1 xok
  have hyk := (spOk_iff y).1 yok
  refine w_R ?_
  refine r_op tabOk hnt rfl (s_load_ptr tab_53 rfl rfl rfl (Nat.le_of_ble_eq_true rfl) ?_) 
  refine r_op tabOk hnt rfl (s_load_ptr tab_53 rfl rfl rfl (Nat.le_of_ble_eq_true rfl) ?_) 
  refine r_op tabOk hnt rfl (s_callF rfl rfl rfl (w_span_Meet x y) rfl ?_) 
  refine r_op tabOk hnt rfl (s_move rfl ?_) 
  refine r_op tabOk hnt rfl (s_extract rfl rfl ?_) 
  refine r_op tabOk hnt rfl (s_extract rfl rfl ?_) 
  refine r_op tabOk hnt rfl (s_alloc tab_53 ?_) 
  refine r_op tabOk hnt rfl (s_store_ptr tab_53 rfl rfl rfl rfl rfl (Nat.le_of_ble_eq_true rfl) ?_) 
  refine r_op tabOk hnt rfl (s_assign rfl ?_) 
  refine r_set [(2, pS 2 cl_l eSpan l), (7, PV.ptr 2 0), (8, PV.ptr 3 0), (9, PV.ptr 4 0), (10, pB (meetOk x y))] [(4, .obj [pI ((meetV x y).at_), pI ((meetV x y).count)]), (3, .obj [pI y.at_, pI y.count]), (2, .obj [pI x.at_, pI x.count]), (1, .obj [pI b.at_, pI b.count]), (0, .obj [pI a.at_, pI a.count])] 5 ⟨rfl, rfl, rfl, rfl, rfl, trivial⟩ rfl rfl ?_
  refine r_end ?_
  refine q_then ?_
  refine w_seq ?_
  have hmb := meetV_bounds x y
  clear hx hy
  refine w_R ?_
  refine r_op tabOk hnt rfl (s_assign rfl ?_) 
  refine r_op tabOk hnt rfl (s_assign rfl ?_) 
  refine r_end ?_
  refine q_then ?_
  refine w_seq ?_
  refine w_seq ?_
  refine w_R ?_
  refine r_op tabOk hnt rfl (s_fa_ptr tab_53 rfl rfl tab_3 (by decide) rfl ?_) 
  refine r_op tabOk hnt rfl (s_load_ptr1 tab_3 rfl rfl rfl rfl rfl ?_) 
  refine r_op tabOk hnt rfl (s_assign rfl ?_) 
  refine r_end ?_
  refine q_then ?_
  refine w_block ?_
  refine loop3 (fun (bo : Int) (al : Bool) (i : Int) => x.at_ ≤ i ∧ i ≤ x.at_ + x.count ∧ bo = bothN x y i ∧ al = allN x y i ∧ 0 ≤ bo ∧ bo ≤ i) (fun (bo : Int) (al : Bool) (i : Int) => [(2, pS 2 cl_l eSpan l), (7, PV.ptr 0 0), (8, PV.ptr 1 0), (9, PV.ptr 2 0), (10, pB (meetOk x y)), (11, pI bo), (12, pB al), (13, pI i)]) 3 (fun (bo : Int) (al : Bool) (i : Int) => [(0, .obj [pI x.at_, pI x.count]), (1, .obj [pI y.at_, pI y.count]), (2, .obj [pI ((meetV x y).at_), pI ((meetV x y).count)])]) (fun (bo : Int) (al : Bool) (i : Int) => (x.at_ + x.count - i).toNat) (0) (true) (x.at_) ?_ ⟨[(0, 2), (1, 3), (2, 4)], by rw [hk]; decide, ⟨⟨_, rfl, rfl, rfl⟩, ⟨_, rfl, rfl, rfl⟩, ⟨_, rfl, rfl, rfl⟩, ⟨_, rfl, rfl, rfl⟩, ⟨_, rfl, rfl, rfl⟩, ⟨_, rfl, rfl, rfl⟩, ⟨_, rfl, rfl, rfl⟩, ⟨_, rfl, rfl, rfl⟩, trivial⟩, ⟨⟨_, _, rfl, rfl, rfl, rfl⟩, ⟨_, _, rfl, rfl, rfl, rfl⟩, ⟨_, _, rfl, rfl, rfl, rfl⟩, trivial⟩, by rw [hk]; decide⟩ ?_
  · exact ⟨by omega, by omega, by rw [both_0], by rw [all_0], by omega, by omega⟩
  ·
    intro bo al i hI
    obtain ⟨hi1, hi2, hbo, hal, hb0, hbi⟩ := hI
    refine w_seq ?_
    refine w_seq ?_
    refine w_R ?_
    refine r_op tabOk hnt rfl (s_move rfl ?_) 
    refine r_op tabOk hnt rfl (s_fa_ptr tab_53 rfl rfl tab_3 (by decide) rfl ?_) 
    refine r_op tabOk hnt rfl (s_load_ptr1 tab_3 rfl rfl rfl rfl rfl ?_) 
    refine r_op tabOk hnt rfl (s_fa_ptr tab_53 rfl rfl tab_3 (by decide) rfl ?_) 
    refine r_op tabOk hnt rfl (s_load_ptr1 tab_3 rfl rfl rfl rfl rfl ?_) 
    refine r_op tabOk hnt rfl (s_addi (r := x.at_ + x.count) rfl rfl rfl (by omega) ?_) 
    refine r_op tabOk hnt rfl (s_lss rfl rfl ?_) 
    refine r_end ?_
    refine q_then ?_
    refine w_if rfl (fun c1 => ?_) (fun c1 => ?_)
    ·
      have c1_ := c1
      try simp only [decide_eq_true_eq, decide_eq_false_iff_not, Bool.not_eq_true', Bool.not_eq_false', Bool.not_true, Bool.not_false, Bool.not_eq_eq_eq_not, Int.not_lt, Int.not_le] at c1
      refine w_skip ?_
      refine q_then ?_
      refine w_seq ?_
      refine w_block ?_
      refine w_seq ?_
      refine w_R ?_
      refine r_op tabOk hnt rfl (s_move rfl ?_) 
      refine r_op tabOk hnt rfl (s_fa_ptr tab_53 rfl rfl tab_3 (by decide) rfl ?_) 
      refine r_op tabOk hnt rfl (s_load_ptr1 tab_3 rfl rfl rfl rfl rfl ?_) 
      refine r_op tabOk hnt rfl (s_geq rfl rfl ?_) 
      refine r_op tabOk hnt rfl (s_move rfl ?_) 
      refine r_if tabOk hnt rfl rfl rfl (fun g1 => ?_) (fun g1 => ?_)
      ·
        have g1' := g1
        try simp only [decide_eq_true_eq, decide_eq_false_iff_not, Bool.not_eq_true', Bool.not_eq_false', Bool.not_true, Bool.not_false, Bool.not_eq_eq_eq_not, Int.not_lt, Int.not_le] at g1'
        refine r_op tabOk hnt rfl (s_move rfl ?_) 
        refine r_if tabOk hnt rfl rfl rfl (fun _ => ?_) (fun e => absurd (e.symm.trans g1) (by decide))
        refine r_op tabOk hnt rfl (s_fa_ptr tab_53 rfl rfl tab_3 (by decide) rfl ?_) 
        refine r_if tabOk hnt rfl rfl rfl (fun _ => ?_) (fun e => absurd (e.symm.trans g1) (by decide))
        refine r_op tabOk hnt rfl (s_load_ptr1 tab_3 rfl rfl rfl rfl rfl ?_) 
        refine r_if tabOk hnt rfl rfl rfl (fun _ => ?_) (fun e => absurd (e.symm.trans g1) (by decide))
        refine r_op tabOk hnt rfl (s_fa_ptr tab_53 rfl rfl tab_3 (by decide) rfl ?_) 
        refine r_if tabOk hnt rfl rfl rfl (fun _ => ?_) (fun e => absurd (e.symm.trans g1) (by decide))
        refine r_op tabOk hnt rfl (s_load_ptr1 tab_3 rfl rfl rfl rfl rfl ?_) 
        refine r_if tabOk hnt rfl rfl rfl (fun _ => ?_) (fun e => absurd (e.symm.trans g1) (by decide))
        refine r_op tabOk hnt rfl (s_addi (r := y.at_ + y.count) rfl rfl rfl (by omega) ?_) 
        refine r_if tabOk hnt rfl rfl rfl (fun _ => ?_) (fun e => absurd (e.symm.trans g1) (by decide))
        refine r_op tabOk hnt rfl (s_lss rfl rfl ?_) 
        refine r_op tabOk hnt rfl (s_pick_t rfl g1 rfl ?_) 
        refine r_op tabOk hnt rfl (s_assign rfl ?_) 
        refine r_end ?_
        refine q_then ?_
        refine w_seq ?_
        refine w_R ?_
        refine r_op tabOk hnt rfl (s_move rfl ?_) 
        refine r_op tabOk hnt rfl (s_move rfl ?_) 
        refine r_if tabOk hnt rfl rfl rfl (fun g2 => ?_) (fun g2 => ?_)
        ·
          have g2' := g2
          try simp only [decide_eq_true_eq, decide_eq_false_iff_not, Bool.not_eq_true', Bool.not_eq_false', Bool.not_true, Bool.not_false, Bool.not_eq_eq_eq_not, Int.not_lt, Int.not_le] at g2'
          refine r_op tabOk hnt rfl (s_move rfl ?_) 
          refine r_op tabOk hnt rfl (s_pick_t rfl g2 rfl ?_) 
          refine r_op tabOk hnt rfl (s_assign rfl ?_) 
          refine r_set [(2, pS 2 cl_l eSpan l), (7, PV.ptr 0 0), (8, PV.ptr 1 0), (9, PV.ptr 2 0), (10, pB (meetOk x y)), (11, pI bo), (12, pB (decide (i < y.at_ + y.count))), (13, pI i), (14, pB (decide (i < y.at_ + y.count))), (68, pI i), (69, PV.ptr 1 0), (70, pI y.at_), (71, PV.ptr 1 1), (72, pI y.count), (73, pI (y.at_ + y.count)), (74, pB (decide (i < y.at_ + y.count))), (78, pB (decide (i < y.at_ + y.count)))] [(0, .obj [pI x.at_, pI x.count]), (1, .obj [pI y.at_, pI y.count]), (2, .obj [pI ((meetV x y).at_), pI ((meetV x y).count)])] 3 ⟨rfl, rfl, rfl, rfl, rfl, rfl, rfl, rfl, rfl, rfl, rfl, rfl, rfl, rfl, rfl, rfl, rfl, trivial⟩ rfl rfl ?_
          refine r_end ?_
          refine q_then ?_
          refine w_seq ?_
          refine w_seq ?_
          refine w_R ?_
          refine r_op tabOk hnt rfl (s_move rfl ?_) 
          refine r_end ?_
          refine q_then ?_
          refine w_if rfl (fun c2 => ?_) (fun c2 => ?_)
          ·
            have c2_ := c2
            try simp only [decide_eq_true_eq, decide_eq_false_iff_not, Bool.not_eq_true', Bool.not_eq_false', Bool.not_true, Bool.not_false, Bool.not_eq_eq_eq_not, Int.not_lt, Int.not_le] at c2
            refine w_R ?_
            refine r_op tabOk hnt rfl (s_move rfl ?_) 
            refine r_op tabOk hnt rfl (s_addi (r := bo + 1) rfl rfl rfl (by omega) ?_) 
            refine r_op tabOk hnt rfl (s_assign rfl ?_) 
            refine r_end ?_
            refine q_then ?_
            refine w_seq ?_
            refine w_R ?_
            refine r_op tabOk hnt rfl (s_move rfl ?_) 
            refine r_op tabOk hnt rfl (s_move rfl ?_) 
            refine r_op tabOk hnt rfl (s_move rfl ?_) 
            refine r_if tabOk hnt rfl rfl rfl (fun g3 => ?_) (fun g3 => ?_)
            ·
              have g3' := g3
              try simp only [decide_eq_true_eq, decide_eq_false_iff_not, Bool.not_eq_true', Bool.not_eq_false', Bool.not_true, Bool.not_false, Bool.not_eq_eq_eq_not, Int.not_lt, Int.not_le] at g3'
              refine r_op tabOk hnt rfl (s_move rfl ?_) 
              refine r_if tabOk hnt rfl rfl rfl (fun _ => ?_) (fun e => absurd (e.symm.trans g3) (by decide))
              refine r_op tabOk hnt rfl (s_fa_ptr tab_53 rfl rfl tab_3 (by decide) rfl ?_) 
              refine r_if tabOk hnt rfl rfl rfl (fun _ => ?_) (fun e => absurd (e.symm.trans g3) (by decide))
              refine r_op tabOk hnt rfl (s_load_ptr1 tab_3 rfl rfl rfl rfl rfl ?_) 
              refine r_if tabOk hnt rfl rfl rfl (fun _ => ?_) (fun e => absurd (e.symm.trans g3) (by decide))
              refine r_op tabOk hnt rfl (s_geq rfl rfl ?_) 
              refine r_op tabOk hnt rfl (s_pick_t rfl g3 rfl ?_) 
              refine r_op tabOk hnt rfl (s_move rfl ?_) 
              refine r_if tabOk hnt rfl rfl rfl (fun g4 => ?_) (fun g4 => ?_)
              ·
                have g4' := g4
                try simp only [decide_eq_true_eq, decide_eq_false_iff_not, Bool.not_eq_true', Bool.not_eq_false', Bool.not_true, Bool.not_false, Bool.not_eq_eq_eq_not, Int.not_lt, Int.not_le] at g4'
                refine r_op tabOk hnt rfl (s_move rfl ?_) 
                refine r_if tabOk hnt rfl rfl rfl (fun _ => ?_) (fun e => absurd (e.symm.trans g4) (by decide))
                refine r_op tabOk hnt rfl (s_fa_ptr tab_53 rfl rfl tab_3 (by decide) rfl ?_) 
                refine r_if tabOk hnt rfl rfl rfl (fun _ => ?_) (fun e => absurd (e.symm.trans g4) (by decide))
                refine r_op tabOk hnt rfl (s_load_ptr1 tab_3 rfl rfl rfl rfl rfl ?_) 
                refine r_if tabOk hnt rfl rfl rfl (fun _ => ?_) (fun e => absurd (e.symm.trans g4) (by decide))
                refine r_op tabOk hnt rfl (s_fa_ptr tab_53 rfl rfl tab_3 (by decide) rfl ?_) 
                refine r_if tabOk hnt rfl rfl rfl (fun _ => ?_) (fun e => absurd (e.symm.trans g4) (by decide))
                refine r_op tabOk hnt rfl (s_load_ptr1 tab_3 rfl rfl rfl rfl rfl ?_) 
                refine r_if tabOk hnt rfl rfl rfl (fun _ => ?_) (fun e => absurd (e.symm.trans g4) (by decide))
                refine r_op tabOk hnt rfl (s_addi (r := ((meetV x y).at_) + ((meetV x y).count)) rfl rfl rfl (by omega) ?_) 
                refine r_if tabOk hnt rfl rfl rfl (fun _ => ?_) (fun e => absurd (e.symm.trans g4) (by decide))
                refine r_op tabOk hnt rfl (s_lss rfl rfl ?_) 
                refine r_op tabOk hnt rfl (s_pick_t rfl g4 rfl ?_) 
                refine r_op tabOk hnt rfl (s_nebool tab_4 rfl rfl rfl ?_) 
                refine r_set [(2, pS 2 cl_l eSpan l), (7, PV.ptr 0 0), (8, PV.ptr 1 0), (9, PV.ptr 2 0), (10, pB (meetOk x y)), (11, pI (bo + 1)), (12, pB (decide (i < y.at_ + y.count))), (13, pI i), (68, pI i), (69, PV.ptr 1 0), (70, pI y.at_), (71, PV.ptr 1 1), (72, pI y.count), (73, pI (y.at_ + y.count)), (74, pB (decide (i < y.at_ + y.count))), (78, pB (decide (i < y.at_ + y.count))), (86, pI i), (87, PV.ptr 2 0), (88, pI ((meetV x y).at_)), (89, pB (decide ((meetV x y).at_ ≤ i))), (92, pI i), (93, PV.ptr 2 0), (94, pI ((meetV x y).at_)), (95, PV.ptr 2 1), (96, pI ((meetV x y).count)), (97, pI (((meetV x y).at_) + ((meetV x y).count))), (98, pB (decide (i < ((meetV x y).at_) + ((meetV x y).count)))), (100, pB (!((decide (i < y.at_ + y.count)) == (decide (i < ((meetV x y).at_) + ((meetV x y).count))))))] [(0, .obj [pI x.at_, pI x.count]), (1, .obj [pI y.at_, pI y.count]), (2, .obj [pI ((meetV x y).at_), pI ((meetV x y).count)])] 3 ⟨rfl, rfl, rfl, rfl, rfl, rfl, rfl, rfl, rfl, rfl, rfl, rfl, rfl, rfl, rfl, rfl, rfl, rfl, rfl, rfl, rfl, rfl, rfl, rfl, rfl, rfl, rfl, rfl, trivial⟩ rfl rfl ?_
                refine r_end ?_
                refine q_then ?_
                refine w_if rfl (fun c3 => ?_) (fun c3 => ?_)
                ·
                  have c3_ := c3
                  exact absurd c3 (by have hci := cell_in xok yok hi1 (by omega); first | (have h := hci.1 (by assumption); first | exact not_dec (by omega) | (simp; done) | (simp; omega)) | (have h := hci.2 (by assumption); first | exact not_dec (by omega) | (simp; done) | (simp; omega)))
                ·
                  have c3_ := c3
                  try simp only [decide_eq_true_eq, decide_eq_false_iff_not, Bool.not_eq_true', Bool.not_eq_false', Bool.not_true, Bool.not_false, Bool.not_eq_eq_eq_not, Int.not_lt, Int.not_le] at c3
                  refine w_skip ?_
                  refine q_block ?_
                  refine q_then ?_
                  refine w_R ?_
                  refine r_op tabOk hnt rfl (s_move rfl ?_) 
                  refine r_op tabOk hnt rfl (s_addi (r := i + 1) rfl rfl rfl (by omega) ?_) 
                  refine r_op tabOk hnt rfl (s_assign rfl ?_) 
                  refine r_end ?_
                  refine q_then ?_
                  refine ⟨(bo + 1), (decide (i < y.at_ + y.count)), (i + 1), ?_, ?_, ⟨[(0, 0), (1, 1), (2, 2)], by rw [hk]; decide, ⟨⟨_, rfl, rfl, rfl⟩, ⟨_, rfl, rfl, rfl⟩, ⟨_, rfl, rfl, rfl⟩, ⟨_, rfl, rfl, rfl⟩, ⟨_, rfl, rfl, rfl⟩, ⟨_, rfl, rfl, rfl⟩, ⟨_, rfl, rfl, rfl⟩, ⟨_, rfl, rfl, rfl⟩, trivial⟩, ⟨⟨_, _, rfl, rfl, rfl, rfl⟩, ⟨_, _, rfl, rfl, rfl, rfl⟩, ⟨_, _, rfl, rfl, rfl, rfl⟩, trivial⟩, by rw [hk]; decide⟩⟩
                  ·
                    refine ⟨by omega, by omega, ?_, ?_, by omega, by omega⟩
                    · first | (rw [both_in hi1 (by omega), hbo]; done) | (rw [both_out hi1 (by omega), hbo]; done)
                    · first | (rw [all_in hi1 (by omega), ← hal]; done) | (rw [all_in hi1 (by omega), ← hal]; cases al <;> first | rfl | contradiction | exact decide_eq_true (by omega) | exact decide_eq_false (by omega)) | (rw [all_out hi1 (by omega)]; done) | (rw [all_out hi1 (by omega)]; exact decide_eq_false (by omega))
                  · omega
              ·
                have g4' := g4
                try simp only [decide_eq_true_eq, decide_eq_false_iff_not, Bool.not_eq_true', Bool.not_eq_false', Bool.not_true, Bool.not_false, Bool.not_eq_eq_eq_not, Int.not_lt, Int.not_le] at g4'
                refine r_if tabOk hnt rfl rfl rfl (fun e => absurd (e.symm.trans g4) (by decide)) (fun _ => ?_)
                refine r_if tabOk hnt rfl rfl rfl (fun e => absurd (e.symm.trans g4) (by decide)) (fun _ => ?_)
                refine r_if tabOk hnt rfl rfl rfl (fun e => absurd (e.symm.trans g4) (by decide)) (fun _ => ?_)
                refine r_if tabOk hnt rfl rfl rfl (fun e => absurd (e.symm.trans g4) (by decide)) (fun _ => ?_)
                refine r_if tabOk hnt rfl rfl rfl (fun e => absurd (e.symm.trans g4) (by decide)) (fun _ => ?_)
                refine r_if tabOk hnt rfl rfl rfl (fun e => absurd (e.symm.trans g4) (by decide)) (fun _ => ?_)
                refine r_op tabOk hnt rfl (s_pick_f rfl g4 rfl ?_) 
                refine r_op tabOk hnt rfl (s_nebool tab_4 rfl rfl rfl ?_) 
                refine r_set [(2, pS 2 cl_l eSpan l), (7, PV.ptr 0 0), (8, PV.ptr 1 0), (9, PV.ptr 2 0), (10, pB (meetOk x y)), (11, pI (bo + 1)), (12, pB (decide (i < y.at_ + y.count))), (13, pI i), (68, pI i), (69, PV.ptr 1 0), (70, pI y.at_), (71, PV.ptr 1 1), (72, pI y.count), (73, pI (y.at_ + y.count)), (74, pB (decide (i < y.at_ + y.count))), (78, pB (decide (i < y.at_ + y.count))), (86, pI i), (87, PV.ptr 2 0), (88, pI ((meetV x y).at_)), (89, pB (decide ((meetV x y).at_ ≤ i))), (100, pB (!((decide (i < y.at_ + y.count)) == false)))] [(0, .obj [pI x.at_, pI x.count]), (1, .obj [pI y.at_, pI y.count]), (2, .obj [pI ((meetV x y).at_), pI ((meetV x y).count)])] 3 ⟨rfl, rfl, rfl, rfl, rfl, rfl, rfl, rfl, rfl, rfl, rfl, rfl, rfl, rfl, rfl, rfl, rfl, rfl, rfl, rfl, rfl, trivial⟩ rfl rfl ?_
                refine r_end ?_
                refine q_then ?_
                refine w_if rfl (fun c4 => ?_) (fun c4 => ?_)
                ·
                  have c4_ := c4
                  exact absurd c4 (by have hci := cell_in xok yok hi1 (by omega); first | (have h := hci.1 (by assumption); first | exact not_dec (by omega) | (simp; done) | (simp; omega)) | (have h := hci.2 (by assumption); first | exact not_dec (by omega) | (simp; done) | (simp; omega)))
                ·
                  have c4_ := c4
                  try simp only [decide_eq_true_eq, decide_eq_false_iff_not, Bool.not_eq_true', Bool.not_eq_false', Bool.not_true, Bool.not_false, Bool.not_eq_eq_eq_not, Int.not_lt, Int.not_le] at c4
                  refine w_skip ?_
                  refine q_block ?_
                  refine q_then ?_
                  refine w_R ?_
                  refine r_op tabOk hnt rfl (s_move rfl ?_) 
                  refine r_op tabOk hnt rfl (s_addi (r := i + 1) rfl rfl rfl (by omega) ?_) 
                  refine r_op tabOk hnt rfl (s_assign rfl ?_) 
                  refine r_end ?_
                  refine q_then ?_
                  refine ⟨(bo + 1), (decide (i < y.at_ + y.count)), (i + 1), ?_, ?_, ⟨[(0, 0), (1, 1), (2, 2)], by rw [hk]; decide, ⟨⟨_, rfl, rfl, rfl⟩, ⟨_, rfl, rfl, rfl⟩, ⟨_, rfl, rfl, rfl⟩, ⟨_, rfl, rfl, rfl⟩, ⟨_, rfl, rfl, rfl⟩, ⟨_, rfl, rfl, rfl⟩, ⟨_, rfl, rfl, rfl⟩, ⟨_, rfl, rfl, rfl⟩, trivial⟩, ⟨⟨_, _, rfl, rfl, rfl, rfl⟩, ⟨_, _, rfl, rfl, rfl, rfl⟩, ⟨_, _, rfl, rfl, rfl, rfl⟩, trivial⟩, by rw [hk]; decide⟩⟩
                  ·
                    refine ⟨by omega, by omega, ?_, ?_, by omega, by omega⟩
                    · first | (rw [both_in hi1 (by omega), hbo]; done) | (rw [both_out hi1 (by omega), hbo]; done)
                    · first | (rw [all_in hi1 (by omega), ← hal]; done) | (rw [all_in hi1 (by omega), ← hal]; cases al <;> first | rfl | contradiction | exact decide_eq_true (by omega) | exact decide_eq_false (by omega)) | (rw [all_out hi1 (by omega)]; done) | (rw [all_out hi1 (by omega)]; exact decide_eq_false (by omega))
                  · omega
            ·
              have g3' := g3
              try simp only [decide_eq_true_eq, decide_eq_false_iff_not, Bool.not_eq_true', Bool.not_eq_false', Bool.not_true, Bool.not_false, Bool.not_eq_eq_eq_not, Int.not_lt, Int.not_le] at g3'
              refine r_if tabOk hnt rfl rfl rfl (fun e => absurd (e.symm.trans g3) (by decide)) (fun _ => ?_)
              refine r_if tabOk hnt rfl rfl rfl (fun e => absurd (e.symm.trans g3) (by decide)) (fun _ => ?_)
              refine r_if tabOk hnt rfl rfl rfl (fun e => absurd (e.symm.trans g3) (by decide)) (fun _ => ?_)
              refine r_op tabOk hnt rfl (s_pick_f rfl g3 rfl ?_) 
              refine r_op tabOk hnt rfl (s_move rfl ?_) 
              refine r_if tabOk hnt rfl rfl rfl (fun e => absurd e (by decide)) (fun _ => ?_)
              refine r_if tabOk hnt rfl rfl rfl (fun e => absurd e (by decide)) (fun _ => ?_)
              refine r_if tabOk hnt rfl rfl rfl (fun e => absurd e (by decide)) (fun _ => ?_)
              refine r_if tabOk hnt rfl rfl rfl (fun e => absurd e (by decide)) (fun _ => ?_)
              refine r_if tabOk hnt rfl rfl rfl (fun e => absurd e (by decide)) (fun _ => ?_)
              refine r_if tabOk hnt rfl rfl rfl (fun e => absurd e (by decide)) (fun _ => ?_)
              refine r_if tabOk hnt rfl rfl rfl (fun e => absurd e (by decide)) (fun _ => ?_)
              refine r_op tabOk hnt rfl (s_pick_f rfl rfl rfl ?_) 
              refine r_op tabOk hnt rfl (s_nebool tab_4 rfl rfl rfl ?_) 
              refine r_set [(2, pS 2 cl_l eSpan l), (7, PV.ptr 0 0), (8, PV.ptr 1 0), (9, PV.ptr 2 0), (10, pB (meetOk x y)), (11, pI (bo + 1)), (12, pB (decide (i < y.at_ + y.count))), (13, pI i), (68, pI i), (69, PV.ptr 1 0), (70, pI y.at_), (71, PV.ptr 1 1), (72, pI y.count), (73, pI (y.at_ + y.count)), (74, pB (decide (i < y.at_ + y.count))), (78, pB (decide (i < y.at_ + y.count))), (100, pB (!((decide (i < y.at_ + y.count)) == false)))] [(0, .obj [pI x.at_, pI x.count]), (1, .obj [pI y.at_, pI y.count]), (2, .obj [pI ((meetV x y).at_), pI ((meetV x y).count)])] 3 ⟨rfl, rfl, rfl, rfl, rfl, rfl, rfl, rfl, rfl, rfl, rfl, rfl, rfl, rfl, rfl, rfl, rfl, trivial⟩ rfl rfl ?_
              refine r_end ?_
              refine q_then ?_
              refine w_if rfl (fun c5 => ?_) (fun c5 => ?_)
              ·
                have c5_ := c5
                exact absurd c5 (by have hci := cell_in xok yok hi1 (by omega); first | (have h := hci.1 (by assumption); first | exact not_dec (by omega) | (simp; done) | (simp; omega)) | (have h := hci.2 (by assumption); first | exact not_dec (by omega) | (simp; done) | (simp; omega)))
              ·
                have c5_ := c5
                try simp only [decide_eq_true_eq, decide_eq_false_iff_not, Bool.not_eq_true', Bool.not_eq_false', Bool.not_true, Bool.not_false, Bool.not_eq_eq_eq_not, Int.not_lt, Int.not_le] at c5
                refine w_skip ?_
                refine q_block ?_
                refine q_then ?_
                refine w_R ?_
                refine r_op tabOk hnt rfl (s_move rfl ?_) 
                refine r_op tabOk hnt rfl (s_addi (r := i + 1) rfl rfl rfl (by omega) ?_) 
                refine r_op tabOk hnt rfl (s_assign rfl ?_) 
                refine r_end ?_
                refine q_then ?_
                refine ⟨(bo + 1), (decide (i < y.at_ + y.count)), (i + 1), ?_, ?_, ⟨[(0, 0), (1, 1), (2, 2)], by rw [hk]; decide, ⟨⟨_, rfl, rfl, rfl⟩, ⟨_, rfl, rfl, rfl⟩, ⟨_, rfl, rfl, rfl⟩, ⟨_, rfl, rfl, rfl⟩, ⟨_, rfl, rfl, rfl⟩, ⟨_, rfl, rfl, rfl⟩, ⟨_, rfl, rfl, rfl⟩, ⟨_, rfl, rfl, rfl⟩, trivial⟩, ⟨⟨_, _, rfl, rfl, rfl, rfl⟩, ⟨_, _, rfl, rfl, rfl, rfl⟩, ⟨_, _, rfl, rfl, rfl, rfl⟩, trivial⟩, by rw [hk]; decide⟩⟩
                ·
                  refine ⟨by omega, by omega, ?_, ?_, by omega, by omega⟩
                  · first | (rw [both_in hi1 (by omega), hbo]; done) | (rw [both_out hi1 (by omega), hbo]; done)
                  · first | (rw [all_in hi1 (by omega), ← hal]; done) | (rw [all_in hi1 (by omega), ← hal]; cases al <;> first | rfl | contradiction | exact decide_eq_true (by omega) | exact decide_eq_false (by omega)) | (rw [all_out hi1 (by omega)]; done) | (rw [all_out hi1 (by omega)]; exact decide_eq_false (by omega))
                · omega
          ·
            have c2_ := c2
            try simp only [decide_eq_true_eq, decide_eq_false_iff_not, Bool.not_eq_true', Bool.not_eq_false', Bool.not_true, Bool.not_false, Bool.not_eq_eq_eq_not, Int.not_lt, Int.not_le] at c2
            refine w_skip ?_
            refine q_then ?_
            refine w_seq ?_
            refine w_R ?_
            refine r_op tabOk hnt rfl (s_move rfl ?_) 
            refine r_op tabOk hnt rfl (s_move rfl ?_) 
            refine r_op tabOk hnt rfl (s_move rfl ?_) 
            refine r_if tabOk hnt rfl rfl rfl (fun g5 => ?_) (fun g5 => ?_)
            ·
              have g5' := g5
              try simp only [decide_eq_true_eq, decide_eq_false_iff_not, Bool.not_eq_true', Bool.not_eq_false', Bool.not_true, Bool.not_false, Bool.not_eq_eq_eq_not, Int.not_lt, Int.not_le] at g5'
              refine r_op tabOk hnt rfl (s_move rfl ?_) 
              refine r_if tabOk hnt rfl rfl rfl (fun _ => ?_) (fun e => absurd (e.symm.trans g5) (by decide))
              refine r_op tabOk hnt rfl (s_fa_ptr tab_53 rfl rfl tab_3 (by decide) rfl ?_) 
              refine r_if tabOk hnt rfl rfl rfl (fun _ => ?_) (fun e => absurd (e.symm.trans g5) (by decide))
              refine r_op tabOk hnt rfl (s_load_ptr1 tab_3 rfl rfl rfl rfl rfl ?_) 
              refine r_if tabOk hnt rfl rfl rfl (fun _ => ?_) (fun e => absurd (e.symm.trans g5) (by decide))
              refine r_op tabOk hnt rfl (s_geq rfl rfl ?_) 
              refine r_op tabOk hnt rfl (s_pick_t rfl g5 rfl ?_) 
              refine r_op tabOk hnt rfl (s_move rfl ?_) 
              refine r_if tabOk hnt rfl rfl rfl (fun g6 => ?_) (fun g6 => ?_)
              ·
                have g6' := g6
                try simp only [decide_eq_true_eq, decide_eq_false_iff_not, Bool.not_eq_true', Bool.not_eq_false', Bool.not_true, Bool.not_false, Bool.not_eq_eq_eq_not, Int.not_lt, Int.not_le] at g6'
                refine r_op tabOk hnt rfl (s_move rfl ?_) 
                refine r_if tabOk hnt rfl rfl rfl (fun _ => ?_) (fun e => absurd (e.symm.trans g6) (by decide))
                refine r_op tabOk hnt rfl (s_fa_ptr tab_53 rfl rfl tab_3 (by decide) rfl ?_) 
                refine r_if tabOk hnt rfl rfl rfl (fun _ => ?_) (fun e => absurd (e.symm.trans g6) (by decide))
                refine r_op tabOk hnt rfl (s_load_ptr1 tab_3 rfl rfl rfl rfl rfl ?_) 
                refine r_if tabOk hnt rfl rfl rfl (fun _ => ?_) (fun e => absurd (e.symm.trans g6) (by decide))
                refine r_op tabOk hnt rfl (s_fa_ptr tab_53 rfl rfl tab_3 (by decide) rfl ?_) 
                refine r_if tabOk hnt rfl rfl rfl (fun _ => ?_) (fun e => absurd (e.symm.trans g6) (by decide))
                refine r_op tabOk hnt rfl (s_load_ptr1 tab_3 rfl rfl rfl rfl rfl ?_) 
                refine r_if tabOk hnt rfl rfl rfl (fun _ => ?_) (fun e => absurd (e.symm.trans g6) (by decide))
                refine r_op tabOk hnt rfl (s_addi (r := ((meetV x y).at_) + ((meetV x y).count)) rfl rfl rfl (by omega) ?_) 
                refine r_if tabOk hnt rfl rfl rfl (fun _ => ?_) (fun e => absurd (e.symm.trans g6) (by decide))
                refine r_op tabOk hnt rfl (s_lss rfl rfl ?_) 
                refine r_op tabOk hnt rfl (s_pick_t rfl g6 rfl ?_) 
                refine r_op tabOk hnt rfl (s_nebool tab_4 rfl rfl rfl ?_) 
                refine r_set [(2, pS 2 cl_l eSpan l), (7, PV.ptr 0 0), (8, PV.ptr 1 0), (9, PV.ptr 2 0), (10, pB (meetOk x y)), (11, pI bo), (12, pB (decide (i < y.at_ + y.count))), (13, pI i), (68, pI i), (69, PV.ptr 1 0), (70, pI y.at_), (71, PV.ptr 1 1), (72, pI y.count), (73, pI (y.at_ + y.count)), (74, pB (decide (i < y.at_ + y.count))), (78, pB (decide (i < y.at_ + y.count))), (86, pI i), (87, PV.ptr 2 0), (88, pI ((meetV x y).at_)), (89, pB (decide ((meetV x y).at_ ≤ i))), (92, pI i), (93, PV.ptr 2 0), (94, pI ((meetV x y).at_)), (95, PV.ptr 2 1), (96, pI ((meetV x y).count)), (97, pI (((meetV x y).at_) + ((meetV x y).count))), (98, pB (decide (i < ((meetV x y).at_) + ((meetV x y).count)))), (100, pB (!((decide (i < y.at_ + y.count)) == (decide (i < ((meetV x y).at_) + ((meetV x y).count))))))] [(0, .obj [pI x.at_, pI x.count]), (1, .obj [pI y.at_, pI y.count]), (2, .obj [pI ((meetV x y).at_), pI ((meetV x y).count)])] 3 ⟨rfl, rfl, rfl, rfl, rfl, rfl, rfl, rfl, rfl, rfl, rfl, rfl, rfl, rfl, rfl, rfl, rfl, rfl, rfl, rfl, rfl, rfl, rfl, rfl, rfl, rfl, rfl, rfl, trivial⟩ rfl rfl ?_
                refine r_end ?_
                refine q_then ?_
                refine w_if rfl (fun c6 => ?_) (fun c6 => ?_)
                ·
                  have c6_ := c6
                  exact absurd c6 (by have hci := cell_in xok yok hi1 (by omega); first | (have h := hci.1 (by assumption); first | exact not_dec (by omega) | (simp; done) | (simp; omega)) | (have h := hci.2 (by assumption); first | exact not_dec (by omega) | (simp; done) | (simp; omega)))
                ·
                  have c6_ := c6
                  try simp only [decide_eq_true_eq, decide_eq_false_iff_not, Bool.not_eq_true', Bool.not_eq_false', Bool.not_true, Bool.not_false, Bool.not_eq_eq_eq_not, Int.not_lt, Int.not_le] at c6
                  refine w_skip ?_
                  refine q_block ?_
                  refine q_then ?_
                  refine w_R ?_
                  refine r_op tabOk hnt rfl (s_move rfl ?_) 
                  refine r_op tabOk hnt rfl (s_addi (r := i + 1) rfl rfl rfl (by omega) ?_) 
                  refine r_op tabOk hnt rfl (s_assign rfl ?_) 
                  refine r_end ?_
                  refine q_then ?_
                  refine ⟨(bo), (decide (i < y.at_ + y.count)), (i + 1), ?_, ?_, ⟨[(0, 0), (1, 1), (2, 2)], by rw [hk]; decide, ⟨⟨_, rfl, rfl, rfl⟩, ⟨_, rfl, rfl, rfl⟩, ⟨_, rfl, rfl, rfl⟩, ⟨_, rfl, rfl, rfl⟩, ⟨_, rfl, rfl, rfl⟩, ⟨_, rfl, rfl, rfl⟩, ⟨_, rfl, rfl, rfl⟩, ⟨_, rfl, rfl, rfl⟩, trivial⟩, ⟨⟨_, _, rfl, rfl, rfl, rfl⟩, ⟨_, _, rfl, rfl, rfl, rfl⟩, ⟨_, _, rfl, rfl, rfl, rfl⟩, trivial⟩, by rw [hk]; decide⟩⟩
                  ·
                    refine ⟨by omega, by omega, ?_, ?_, by omega, by omega⟩
                    · first | (rw [both_in hi1 (by omega), hbo]; done) | (rw [both_out hi1 (by omega), hbo]; done)
                    · first | (rw [all_in hi1 (by omega), ← hal]; done) | (rw [all_in hi1 (by omega), ← hal]; cases al <;> first | rfl | contradiction | exact decide_eq_true (by omega) | exact decide_eq_false (by omega)) | (rw [all_out hi1 (by omega)]; done) | (rw [all_out hi1 (by omega)]; exact decide_eq_false (by omega))
                  · omega
              ·
                have g6' := g6
                try simp only [decide_eq_true_eq, decide_eq_false_iff_not, Bool.not_eq_true', Bool.not_eq_false', Bool.not_true, Bool.not_false, Bool.not_eq_eq_eq_not, Int.not_lt, Int.not_le] at g6'
                refine r_if tabOk hnt rfl rfl rfl (fun e => absurd (e.symm.trans g6) (by decide)) (fun _ => ?_)
                refine r_if tabOk hnt rfl rfl rfl (fun e => absurd (e.symm.trans g6) (by decide)) (fun _ => ?_)
                refine r_if tabOk hnt rfl rfl rfl (fun e => absurd (e.symm.trans g6) (by decide)) (fun _ => ?_)
                refine r_if tabOk hnt rfl rfl rfl (fun e => absurd (e.symm.trans g6) (by decide)) (fun _ => ?_)
                refine r_if tabOk hnt rfl rfl rfl (fun e => absurd (e.symm.trans g6) (by decide)) (fun _ => ?_)
                refine r_if tabOk hnt rfl rfl rfl (fun e => absurd (e.symm.trans g6) (by decide)) (fun _ => ?_)
                refine r_op tabOk hnt rfl (s_pick_f rfl g6 rfl ?_) 
                refine r_op tabOk hnt rfl (s_nebool tab_4 rfl rfl rfl ?_) 
                refine r_set [(2, pS 2 cl_l eSpan l), (7, PV.ptr 0 0), (8, PV.ptr 1 0), (9, PV.ptr 2 0), (10, pB (meetOk x y)), (11, pI bo), (12, pB (decide (i < y.at_ + y.count))), (13, pI i), (68, pI i), (69, PV.ptr 1 0), (70, pI y.at_), (71, PV.ptr 1 1), (72, pI y.count), (73, pI (y.at_ + y.count)), (74, pB (decide (i < y.at_ + y.count))), (78, pB (decide (i < y.at_ + y.count))), (86, pI i), (87, PV.ptr 2 0), (88, pI ((meetV x y).at_)), (89, pB (decide ((meetV x y).at_ ≤ i))), (100, pB (!((decide (i < y.at_ + y.count)) == false)))] [(0, .obj [pI x.at_, pI x.count]), (1, .obj [pI y.at_, pI y.count]), (2, .obj [pI ((meetV x y).at_), pI ((meetV x y).count)])] 3 ⟨rfl, rfl, rfl, rfl, rfl, rfl, rfl, rfl, rfl, rfl, rfl, rfl, rfl, rfl, rfl, rfl, rfl, rfl, rfl, rfl, rfl, trivial⟩ rfl rfl ?_
                refine r_end ?_
                refine q_then ?_
                refine w_if rfl (fun c7 => ?_) (fun c7 => ?_)
                ·
                  have c7_ := c7
                  exact absurd c7 (by have hci := cell_in xok yok hi1 (by omega); first | (have h := hci.1 (by assumption); first | exact not_dec (by omega) | (simp; done) | (simp; omega)) | (have h := hci.2 (by assumption); first | exact not_dec (by omega) | (simp; done) | (simp; omega)))
                ·
                  have c7_ := c7
                  try simp only [decide_eq_true_eq, decide_eq_false_iff_not, Bool.not_eq_true', Bool.not_eq_false', Bool.not_true, Bool.not_false, Bool.not_eq_eq_eq_not, Int.not_lt, Int.not_le] at c7
                  refine w_skip ?_
                  refine q_block ?_
                  refine q_then ?_
                  refine w_R ?_
                  refine r_op tabOk hnt rfl (s_move rfl ?_) 
                  refine r_op tabOk hnt rfl (s_addi (r := i + 1) rfl rfl rfl (by omega) ?_) 
                  refine r_op tabOk hnt rfl (s_assign rfl ?_) 
                  refine r_end ?_
                  refine q_then ?_
                  refine ⟨(bo), (decide (i < y.at_ + y.count)), (i + 1), ?_, ?_, ⟨[(0, 0), (1, 1), (2, 2)], by rw [hk]; decide, ⟨⟨_, rfl, rfl, rfl⟩, ⟨_, rfl, rfl, rfl⟩, ⟨_, rfl, rfl, rfl⟩, ⟨_, rfl, rfl, rfl⟩, ⟨_, rfl, rfl, rfl⟩, ⟨_, rfl, rfl, rfl⟩, ⟨_, rfl, rfl, rfl⟩, ⟨_, rfl, rfl, rfl⟩, trivial⟩, ⟨⟨_, _, rfl, rfl, rfl, rfl⟩, ⟨_, _, rfl, rfl, rfl, rfl⟩, ⟨_, _, rfl, rfl, rfl, rfl⟩, trivial⟩, by rw [hk]; decide⟩⟩
                  ·
                    refine ⟨by omega, by omega, ?_, ?_, by omega, by omega⟩
                    · first | (rw [both_in hi1 (by omega), hbo]; done) | (rw [both_out hi1 (by omega), hbo]; done)
                    · first | (rw [all_in hi1 (by omega), ← hal]; done) | (rw [all_in hi1 (by omega), ← hal]; cases al <;> first | rfl | contradiction | exact decide_eq_true (by omega) | exact decide_eq_false (by omega)) | (rw [all_out hi1 (by omega)]; done) | (rw [all_out hi1 (by omega)]; exact decide_eq_false (by omega))
                  · omega
            ·
              have g5' := g5
              try simp only [decide_eq_true_eq, decide_eq_false_iff_not, Bool.not_eq_true', Bool.not_eq_false', Bool.not_true, Bool.not_false, Bool.not_eq_eq_eq_not, Int.not_lt, Int.not_le] at g5'
              refine r_if tabOk hnt rfl rfl rfl (fun e => absurd (e.symm.trans g5) (by decide)) (fun _ => ?_)
              refine r_if tabOk hnt rfl rfl rfl (fun e => absurd (e.symm.trans g5) (by decide)) (fun _ => ?_)
              refine r_if tabOk hnt rfl rfl rfl (fun e => absurd (e.symm.trans g5) (by decide)) (fun _ => ?_)
              refine r_op tabOk hnt rfl (s_pick_f rfl g5 rfl ?_) 
              refine r_op tabOk hnt rfl (s_move rfl ?_) 
              refine r_if tabOk hnt rfl rfl rfl (fun e => absurd e (by decide)) (fun _ => ?_)
              refine r_if tabOk hnt rfl rfl rfl (fun e => absurd e (by decide)) (fun _ => ?_)
              refine r_if tabOk hnt rfl rfl rfl (fun e => absurd e (by decide)) (fun _ => ?_)
              refine r_if tabOk hnt rfl rfl rfl (fun e => absurd e (by decide)) (fun _ => ?_)
              refine r_if tabOk hnt rfl rfl rfl (fun e => absurd e (by decide)) (fun _ => ?_)
              refine r_if tabOk hnt rfl rfl rfl (fun e => absurd e (by decide)) (fun _ => ?_)
              refine r_if tabOk hnt rfl rfl rfl (fun e => absurd e (by decide)) (fun _ => ?_)
              refine r_op tabOk hnt rfl (s_pick_f rfl rfl rfl ?_) 
              refine r_op tabOk hnt rfl (s_nebool tab_4 rfl rfl rfl ?_) 
              refine r_set [(2, pS 2 cl_l eSpan l), (7, PV.ptr 0 0), (8, PV.ptr 1 0), (9, PV.ptr 2 0), (10, pB (meetOk x y)), (11, pI bo), (12, pB (decide (i < y.at_ + y.count))), (13, pI i), (68, pI i), (69, PV.ptr 1 0), (70, pI y.at_), (71, PV.ptr 1 1), (72, pI y.count), (73, pI (y.at_ + y.count)), (74, pB (decide (i < y.at_ + y.count))), (78, pB (decide (i < y.at_ + y.count))), (100, pB (!((decide (i < y.at_ + y.count)) == false)))] [(0, .obj [pI x.at_, pI x.count]), (1, .obj [pI y.at_, pI y.count]), (2, .obj [pI ((meetV x y).at_), pI ((meetV x y).count)])] 3 ⟨rfl, rfl, rfl, rfl, rfl, rfl, rfl, rfl, rfl, rfl, rfl, rfl, rfl, rfl, rfl, rfl, rfl, trivial⟩ rfl rfl ?_
              refine r_end ?_
              refine q_then ?_
              refine w_if rfl (fun c8 => ?_) (fun c8 => ?_)
              ·
                have c8_ := c8
                exact absurd c8 (by have hci := cell_in xok yok hi1 (by omega); first | (have h := hci.1 (by assumption); first | exact not_dec (by omega) | (simp; done) | (simp; omega)) | (have h := hci.2 (by assumption); first | exact not_dec (by omega) | (simp; done) | (simp; omega)))
              ·
                have c8_ := c8
                try simp only [decide_eq_true_eq, decide_eq_false_iff_not, Bool.not_eq_true', Bool.not_eq_false', Bool.not_true, Bool.not_false, Bool.not_eq_eq_eq_not, Int.not_lt, Int.not_le] at c8
                refine w_skip ?_
                refine q_block ?_
                refine q_then ?_
                refine w_R ?_
                refine r_op tabOk hnt rfl (s_move rfl ?_) 
                refine r_op tabOk hnt rfl (s_addi (r := i + 1) rfl rfl rfl (by omega) ?_) 
                refine r_op tabOk hnt rfl (s_assign rfl ?_) 
                refine r_end ?_
                refine q_then ?_
                refine ⟨(bo), (decide (i < y.at_ + y.count)), (i + 1), ?_, ?_, ⟨[(0, 0), (1, 1), (2, 2)], by rw [hk]; decide, ⟨⟨_, rfl, rfl, rfl⟩, ⟨_, rfl, rfl, rfl⟩, ⟨_, rfl, rfl, rfl⟩, ⟨_, rfl, rfl, rfl⟩, ⟨_, rfl, rfl, rfl⟩, ⟨_, rfl, rfl, rfl⟩, ⟨_, rfl, rfl, rfl⟩, ⟨_, rfl, rfl, rfl⟩, trivial⟩, ⟨⟨_, _, rfl, rfl, rfl, rfl⟩, ⟨_, _, rfl, rfl, rfl, rfl⟩, ⟨_, _, rfl, rfl, rfl, rfl⟩, trivial⟩, by rw [hk]; decide⟩⟩
                ·
                  refine ⟨by omega, by omega, ?_, ?_, by omega, by omega⟩
                  · first | (rw [both_in hi1 (by omega), hbo]; done) | (rw [both_out hi1 (by omega), hbo]; done)
                  · first | (rw [all_in hi1 (by omega), ← hal]; done) | (rw [all_in hi1 (by omega), ← hal]; cases al <;> first | rfl | contradiction | exact decide_eq_true (by omega) | exact decide_eq_false (by omega)) | (rw [all_out hi1 (by omega)]; done) | (rw [all_out hi1 (by omega)]; exact decide_eq_false (by omega))
                · omega
        ·
          have g2' := g2
          try simp only [decide_eq_true_eq, decide_eq_false_iff_not, Bool.not_eq_true', Bool.not_eq_false', Bool.not_true, Bool.not_false, Bool.not_eq_eq_eq_not, Int.not_lt, Int.not_le] at g2'
          refine r_op tabOk hnt rfl (s_pick_f rfl g2 rfl ?_) 
          refine r_op tabOk hnt rfl (s_assign rfl ?_) 
          refine r_set [(2, pS 2 cl_l eSpan l), (7, PV.ptr 0 0), (8, PV.ptr 1 0), (9, PV.ptr 2 0), (10, pB (meetOk x y)), (11, pI bo), (12, pB false), (13, pI i), (14, pB (decide (i < y.at_ + y.count))), (68, pI i), (69, PV.ptr 1 0), (70, pI y.at_), (71, PV.ptr 1 1), (72, pI y.count), (73, pI (y.at_ + y.count)), (74, pB (decide (i < y.at_ + y.count)))] [(0, .obj [pI x.at_, pI x.count]), (1, .obj [pI y.at_, pI y.count]), (2, .obj [pI ((meetV x y).at_), pI ((meetV x y).count)])] 3 ⟨rfl, rfl, rfl, rfl, rfl, rfl, rfl, rfl, rfl, rfl, rfl, rfl, rfl, rfl, rfl, rfl, trivial⟩ rfl rfl ?_
          refine r_end ?_
          refine q_then ?_
          refine w_seq ?_
          refine w_seq ?_
          refine w_R ?_
          refine r_op tabOk hnt rfl (s_move rfl ?_) 
          refine r_end ?_
          refine q_then ?_
          refine w_if rfl (fun c9 => ?_) (fun c9 => ?_)
          ·
            have c9_ := c9
            try simp only [decide_eq_true_eq, decide_eq_false_iff_not, Bool.not_eq_true', Bool.not_eq_false', Bool.not_true, Bool.not_false, Bool.not_eq_eq_eq_not, Int.not_lt, Int.not_le] at c9
            refine w_R ?_
            refine r_op tabOk hnt rfl (s_move rfl ?_) 
            refine r_op tabOk hnt rfl (s_addi (r := bo + 1) rfl rfl rfl (by omega) ?_) 
            refine r_op tabOk hnt rfl (s_assign rfl ?_) 
            refine r_end ?_
            refine q_then ?_
            refine w_seq ?_
            refine w_R ?_
            refine r_op tabOk hnt rfl (s_move rfl ?_) 
            refine r_op tabOk hnt rfl (s_move rfl ?_) 
            refine r_op tabOk hnt rfl (s_move rfl ?_) 
            refine r_if tabOk hnt rfl rfl rfl (fun g7 => ?_) (fun g7 => ?_)
            ·
              have g7' := g7
              try simp only [decide_eq_true_eq, decide_eq_false_iff_not, Bool.not_eq_true', Bool.not_eq_false', Bool.not_true, Bool.not_false, Bool.not_eq_eq_eq_not, Int.not_lt, Int.not_le] at g7'
              refine r_op tabOk hnt rfl (s_move rfl ?_) 
              refine r_if tabOk hnt rfl rfl rfl (fun _ => ?_) (fun e => absurd (e.symm.trans g7) (by decide))
              refine r_op tabOk hnt rfl (s_fa_ptr tab_53 rfl rfl tab_3 (by decide) rfl ?_) 
              refine r_if tabOk hnt rfl rfl rfl (fun _ => ?_) (fun e => absurd (e.symm.trans g7) (by decide))
              refine r_op tabOk hnt rfl (s_load_ptr1 tab_3 rfl rfl rfl rfl rfl ?_) 
              refine r_if tabOk hnt rfl rfl rfl (fun _ => ?_) (fun e => absurd (e.symm.trans g7) (by decide))
              refine r_op tabOk hnt rfl (s_geq rfl rfl ?_) 
              refine r_op tabOk hnt rfl (s_pick_t rfl g7 rfl ?_) 
              refine r_op tabOk hnt rfl (s_move rfl ?_) 
              refine r_if tabOk hnt rfl rfl rfl (fun g8 => ?_) (fun g8 => ?_)
              ·
                have g8' := g8
                try simp only [decide_eq_true_eq, decide_eq_false_iff_not, Bool.not_eq_true', Bool.not_eq_false', Bool.not_true, Bool.not_false, Bool.not_eq_eq_eq_not, Int.not_lt, Int.not_le] at g8'
                refine r_op tabOk hnt rfl (s_move rfl ?_) 
                refine r_if tabOk hnt rfl rfl rfl (fun _ => ?_) (fun e => absurd (e.symm.trans g8) (by decide))
                refine r_op tabOk hnt rfl (s_fa_ptr tab_53 rfl rfl tab_3 (by decide) rfl ?_) 
                refine r_if tabOk hnt rfl rfl rfl (fun _ => ?_) (fun e => absurd (e.symm.trans g8) (by decide))
                refine r_op tabOk hnt rfl (s_load_ptr1 tab_3 rfl rfl rfl rfl rfl ?_) 
                refine r_if tabOk hnt rfl rfl rfl (fun _ => ?_) (fun e => absurd (e.symm.trans g8) (by decide))
                refine r_op tabOk hnt rfl (s_fa_ptr tab_53 rfl rfl tab_3 (by decide) rfl ?_) 
                refine r_if tabOk hnt rfl rfl rfl (fun _ => ?_) (fun e => absurd (e.symm.trans g8) (by decide))
                refine r_op tabOk hnt rfl (s_load_ptr1 tab_3 rfl rfl rfl rfl rfl ?_) 
                refine r_if tabOk hnt rfl rfl rfl (fun _ => ?_) (fun e => absurd (e.symm.trans g8) (by decide))
                refine r_op tabOk hnt rfl (s_addi (r := ((meetV x y).at_) + ((meetV x y).count)) rfl rfl rfl (by omega) ?_) 
                refine r_if tabOk hnt rfl rfl rfl (fun _ => ?_) (fun e => absurd (e.symm.trans g8) (by decide))
                refine r_op tabOk hnt rfl (s_lss rfl rfl ?_) 
                refine r_op tabOk hnt rfl (s_pick_t rfl g8 rfl ?_) 
                refine r_op tabOk hnt rfl (s_nebool tab_4 rfl rfl rfl ?_) 
                refine r_set [(2, pS 2 cl_l eSpan l), (7, PV.ptr 0 0), (8, PV.ptr 1 0), (9, PV.ptr 2 0), (10, pB (meetOk x y)), (11, pI (bo + 1)), (12, pB false), (13, pI i), (68, pI i), (69, PV.ptr 1 0), (70, pI y.at_), (71, PV.ptr 1 1), (72, pI y.count), (73, pI (y.at_ + y.count)), (74, pB (decide (i < y.at_ + y.count))), (86, pI i), (87, PV.ptr 2 0), (88, pI ((meetV x y).at_)), (89, pB (decide ((meetV x y).at_ ≤ i))), (92, pI i), (93, PV.ptr 2 0), (94, pI ((meetV x y).at_)), (95, PV.ptr 2 1), (96, pI ((meetV x y).count)), (97, pI (((meetV x y).at_) + ((meetV x y).count))), (98, pB (decide (i < ((meetV x y).at_) + ((meetV x y).count)))), (100, pB (!((decide (i < y.at_ + y.count)) == (decide (i < ((meetV x y).at_) + ((meetV x y).count))))))] [(0, .obj [pI x.at_, pI x.count]), (1, .obj [pI y.at_, pI y.count]), (2, .obj [pI ((meetV x y).at_), pI ((meetV x y).count)])] 3 ⟨rfl, rfl, rfl, rfl, rfl, rfl, rfl, rfl, rfl, rfl, rfl, rfl, rfl, rfl, rfl, rfl, rfl, rfl, rfl, rfl, rfl, rfl, rfl, rfl, rfl, rfl, rfl, trivial⟩ rfl rfl ?_
                refine r_end ?_
                refine q_then ?_
                refine w_if rfl (fun c10 => ?_) (fun c10 => ?_)
                ·
                  have c10_ := c10
                  exact absurd c10 (by have hci := cell_in xok yok hi1 (by omega); first | (have h := hci.1 (by assumption); first | exact not_dec (by omega) | (simp; done) | (simp; omega)) | (have h := hci.2 (by assumption); first | exact not_dec (by omega) | (simp; done) | (simp; omega)))
                ·
                  have c10_ := c10
                  try simp only [decide_eq_true_eq, decide_eq_false_iff_not, Bool.not_eq_true', Bool.not_eq_false', Bool.not_true, Bool.not_false, Bool.not_eq_eq_eq_not, Int.not_lt, Int.not_le] at c10
                  refine w_skip ?_
                  refine q_block ?_
                  refine q_then ?_
                  refine w_R ?_
                  refine r_op tabOk hnt rfl (s_move rfl ?_) 
                  refine r_op tabOk hnt rfl (s_addi (r := i + 1) rfl rfl rfl (by omega) ?_) 
                  refine r_op tabOk hnt rfl (s_assign rfl ?_) 
                  refine r_end ?_
                  refine q_then ?_
                  refine ⟨(bo + 1), (false), (i + 1), ?_, ?_, ⟨[(0, 0), (1, 1), (2, 2)], by rw [hk]; decide, ⟨⟨_, rfl, rfl, rfl⟩, ⟨_, rfl, rfl, rfl⟩, ⟨_, rfl, rfl, rfl⟩, ⟨_, rfl, rfl, rfl⟩, ⟨_, rfl, rfl, rfl⟩, ⟨_, rfl, rfl, rfl⟩, ⟨_, rfl, rfl, rfl⟩, ⟨_, rfl, rfl, rfl⟩, trivial⟩, ⟨⟨_, _, rfl, rfl, rfl, rfl⟩, ⟨_, _, rfl, rfl, rfl, rfl⟩, ⟨_, _, rfl, rfl, rfl, rfl⟩, trivial⟩, by rw [hk]; decide⟩⟩
                  ·
                    refine ⟨by omega, by omega, ?_, ?_, by omega, by omega⟩
                    · first | (rw [both_in hi1 (by omega), hbo]; done) | (rw [both_out hi1 (by omega), hbo]; done)
                    · first | (rw [all_in hi1 (by omega), ← hal]; done) | (rw [all_in hi1 (by omega), ← hal]; cases al <;> first | rfl | contradiction | exact decide_eq_true (by omega) | exact decide_eq_false (by omega)) | (rw [all_out hi1 (by omega)]; done) | (rw [all_out hi1 (by omega)]; exact decide_eq_false (by omega))
                  · omega
              ·
                have g8' := g8
                try simp only [decide_eq_true_eq, decide_eq_false_iff_not, Bool.not_eq_true', Bool.not_eq_false', Bool.not_true, Bool.not_false, Bool.not_eq_eq_eq_not, Int.not_lt, Int.not_le] at g8'
                refine r_if tabOk hnt rfl rfl rfl (fun e => absurd (e.symm.trans g8) (by decide)) (fun _ => ?_)
                refine r_if tabOk hnt rfl rfl rfl (fun e => absurd (e.symm.trans g8) (by decide)) (fun _ => ?_)
                refine r_if tabOk hnt rfl rfl rfl (fun e => absurd (e.symm.trans g8) (by decide)) (fun _ => ?_)
                refine r_if tabOk hnt rfl rfl rfl (fun e => absurd (e.symm.trans g8) (by decide)) (fun _ => ?_)
                refine r_if tabOk hnt rfl rfl rfl (fun e => absurd (e.symm.trans g8) (by decide)) (fun _ => ?_)
                refine r_if tabOk hnt rfl rfl rfl (fun e => absurd (e.symm.trans g8) (by decide)) (fun _ => ?_)
                refine r_op tabOk hnt rfl (s_pick_f rfl g8 rfl ?_) 
                refine r_op tabOk hnt rfl (s_nebool tab_4 rfl rfl rfl ?_) 
                refine r_set [(2, pS 2 cl_l eSpan l), (7, PV.ptr 0 0), (8, PV.ptr 1 0), (9, PV.ptr 2 0), (10, pB (meetOk x y)), (11, pI (bo + 1)), (12, pB false), (13, pI i), (68, pI i), (69, PV.ptr 1 0), (70, pI y.at_), (71, PV.ptr 1 1), (72, pI y.count), (73, pI (y.at_ + y.count)), (74, pB (decide (i < y.at_ + y.count))), (86, pI i), (87, PV.ptr 2 0), (88, pI ((meetV x y).at_)), (89, pB (decide ((meetV x y).at_ ≤ i))), (100, pB (!((decide (i < y.at_ + y.count)) == false)))] [(0, .obj [pI x.at_, pI x.count]), (1, .obj [pI y.at_, pI y.count]), (2, .obj [pI ((meetV x y).at_), pI ((meetV x y).count)])] 3 ⟨rfl, rfl, rfl, rfl, rfl, rfl, rfl, rfl, rfl, rfl, rfl, rfl, rfl, rfl, rfl, rfl, rfl, rfl, rfl, rfl, trivial⟩ rfl rfl ?_
                refine r_end ?_
                refine q_then ?_
                refine w_if rfl (fun c11 => ?_) (fun c11 => ?_)
                ·
                  have c11_ := c11
                  exact absurd c11 (by have hci := cell_in xok yok hi1 (by omega); first | (have h := hci.1 (by assumption); first | exact not_dec (by omega) | (simp; done) | (simp; omega)) | (have h := hci.2 (by assumption); first | exact not_dec (by omega) | (simp; done) | (simp; omega)))
                ·
                  have c11_ := c11
                  try simp only [decide_eq_true_eq, decide_eq_false_iff_not, Bool.not_eq_true', Bool.not_eq_false', Bool.not_true, Bool.not_false, Bool.not_eq_eq_eq_not, Int.not_lt, Int.not_le] at c11
                  refine w_skip ?_
                  refine q_block ?_
                  refine q_then ?_
                  refine w_R ?_
                  refine r_op tabOk hnt rfl (s_move rfl ?_) 
                  refine r_op tabOk hnt rfl (s_addi (r := i + 1) rfl rfl rfl (by omega) ?_) 
                  refine r_op tabOk hnt rfl (s_assign rfl ?_) 
                  refine r_end ?_
                  refine q_then ?_
                  refine ⟨(bo + 1), (false), (i + 1), ?_, ?_, ⟨[(0, 0), (1, 1), (2, 2)], by rw [hk]; decide, ⟨⟨_, rfl, rfl, rfl⟩, ⟨_, rfl, rfl, rfl⟩, ⟨_, rfl, rfl, rfl⟩, ⟨_, rfl, rfl, rfl⟩, ⟨_, rfl, rfl, rfl⟩, ⟨_, rfl, rfl, rfl⟩, ⟨_, rfl, rfl, rfl⟩, ⟨_, rfl, rfl, rfl⟩, trivial⟩, ⟨⟨_, _, rfl, rfl, rfl, rfl⟩, ⟨_, _, rfl, rfl, rfl, rfl⟩, ⟨_, _, rfl, rfl, rfl, rfl⟩, trivial⟩, by rw [hk]; decide⟩⟩
                  ·
                    refine ⟨by omega, by omega, ?_, ?_, by omega, by omega⟩
                    · first | (rw [both_in hi1 (by omega), hbo]; done) | (rw [both_out hi1 (by omega), hbo]; done)
                    · first | (rw [all_in hi1 (by omega), ← hal]; done) | (rw [all_in hi1 (by omega), ← hal]; cases al <;> first | rfl | contradiction | exact decide_eq_true (by omega) | exact decide_eq_false (by omega)) | (rw [all_out hi1 (by omega)]; done) | (rw [all_out hi1 (by omega)]; exact decide_eq_false (by omega))
                  · omega
            ·
              have g7' := g7
              try simp only [decide_eq_true_eq, decide_eq_false_iff_not, Bool.not_eq_true', Bool.not_eq_false', Bool.not_true, Bool.not_false, Bool.not_eq_eq_eq_not, Int.not_lt, Int.not_le] at g7'
              refine r_if tabOk hnt rfl rfl rfl (fun e => absurd (e.symm.trans g7) (by decide)) (fun _ => ?_)
              refine r_if tabOk hnt rfl rfl rfl (fun e => absurd (e.symm.trans g7) (by decide)) (fun _ => ?_)
              refine r_if tabOk hnt rfl rfl rfl (fun e => absurd (e.symm.trans g7) (by decide)) (fun _ => ?_)
              refine r_op tabOk hnt rfl (s_pick_f rfl g7 rfl ?_) 
              refine r_op tabOk hnt rfl (s_move rfl ?_) 
              refine r_if tabOk hnt rfl rfl rfl (fun e => absurd e (by decide)) (fun _ => ?_)
              refine r_if tabOk hnt rfl rfl rfl (fun e => absurd e (by decide)) (fun _ => ?_)
              refine r_if tabOk hnt rfl rfl rfl (fun e => absurd e (by decide)) (fun _ => ?_)
              refine r_if tabOk hnt rfl rfl rfl (fun e => absurd e (by decide)) (fun _ => ?_)
              refine r_if tabOk hnt rfl rfl rfl (fun e => absurd e (by decide)) (fun _ => ?_)
              refine r_if tabOk hnt rfl rfl rfl (fun e => absurd e (by decide)) (fun _ => ?_)
              refine r_if tabOk hnt rfl rfl rfl (fun e => absurd e (by decide)) (fun _ => ?_)
              refine r_op tabOk hnt rfl (s_pick_f rfl rfl rfl ?_) 
              refine r_op tabOk hnt rfl (s_nebool tab_4 rfl rfl rfl ?_) 
              refine r_set [(2, pS 2 cl_l eSpan l), (7, PV.ptr 0 0), (8, PV.ptr 1 0), (9, PV.ptr 2 0), (10, pB (meetOk x y)), (11, pI (bo + 1)), (12, pB false), (13, pI i), (68, pI i), (69, PV.ptr 1 0), (70, pI y.at_), (71, PV.ptr 1 1), (72, pI y.count), (73, pI (y.at_ + y.count)), (74, pB (decide (i < y.at_ + y.count))), (100, pB (!((decide (i < y.at_ + y.count)) == false)))] [(0, .obj [pI x.at_, pI x.count]), (1, .obj [pI y.at_, pI y.count]), (2, .obj [pI ((meetV x y).at_), pI ((meetV x y).count)])] 3 ⟨rfl, rfl, rfl, rfl, rfl, rfl, rfl, rfl, rfl, rfl, rfl, rfl, rfl, rfl, rfl, rfl, trivial⟩ rfl rfl ?_
              refine r_end ?_
              refine q_then ?_
              refine w_if rfl (fun c12 => ?_) (fun c12 => ?_)
              ·
                have c12_ := c12
                exact absurd c12 (by have hci := cell_in xok yok hi1 (by omega); first | (have h := hci.1 (by assumption); first | exact not_dec (by omega) | (simp; done) | (simp; omega)) | (have h := hci.2 (by assumption); first | exact not_dec (by omega) | (simp; done) | (simp; omega)))
              ·
                have c12_ := c12
                try simp only [decide_eq_true_eq, decide_eq_false_iff_not, Bool.not_eq_true', Bool.not_eq_false', Bool.not_true, Bool.not_false, Bool.not_eq_eq_eq_not, Int.not_lt, Int.not_le] at c12
                refine w_skip ?_
                refine q_block ?_
                refine q_then ?_
                refine w_R ?_
                refine r_op tabOk hnt rfl (s_move rfl ?_) 
                refine r_op tabOk hnt rfl (s_addi (r := i + 1) rfl rfl rfl (by omega) ?_) 
                refine r_op tabOk hnt rfl (s_assign rfl ?_) 
                refine r_end ?_
                refine q_then ?_
                refine ⟨(bo + 1), (false), (i + 1), ?_, ?_, ⟨[(0, 0), (1, 1), (2, 2)], by rw [hk]; decide, ⟨⟨_, rfl, rfl, rfl⟩, ⟨_, rfl, rfl, rfl⟩, ⟨_, rfl, rfl, rfl⟩, ⟨_, rfl, rfl, rfl⟩, ⟨_, rfl, rfl, rfl⟩, ⟨_, rfl, rfl, rfl⟩, ⟨_, rfl, rfl, rfl⟩, ⟨_, rfl, rfl, rfl⟩, trivial⟩, ⟨⟨_, _, rfl, rfl, rfl, rfl⟩, ⟨_, _, rfl, rfl, rfl, rfl⟩, ⟨_, _, rfl, rfl, rfl, rfl⟩, trivial⟩, by rw [hk]; decide⟩⟩
                ·
                  refine ⟨by omega, by omega, ?_, ?_, by omega, by omega⟩
                  · first | (rw [both_in hi1 (by omega), hbo]; done) | (rw [both_out hi1 (by omega), hbo]; done)
                  · first | (rw [all_in hi1 (by omega), ← hal]; done) | (rw [all_in hi1 (by omega), ← hal]; cases al <;> first | rfl | contradiction | exact decide_eq_true (by omega) | exact decide_eq_false (by omega)) | (rw [all_out hi1 (by omega)]; done) | (rw [all_out hi1 (by omega)]; exact decide_eq_false (by omega))
                · omega
          ·
            have c9_ := c9
            try simp only [decide_eq_true_eq, decide_eq_false_iff_not, Bool.not_eq_true', Bool.not_eq_false', Bool.not_true, Bool.not_false, Bool.not_eq_eq_eq_not, Int.not_lt, Int.not_le] at c9
            refine w_skip ?_
            refine q_then ?_
            refine w_seq ?_
            refine w_R ?_
            refine r_op tabOk hnt rfl (s_move rfl ?_) 
            refine r_op tabOk hnt rfl (s_move rfl ?_) 
            refine r_op tabOk hnt rfl (s_move rfl ?_) 
            refine r_if tabOk hnt rfl rfl rfl (fun g9 => ?_) (fun g9 => ?_)
            ·
              have g9' := g9
              try simp only [decide_eq_true_eq, decide_eq_false_iff_not, Bool.not_eq_true', Bool.not_eq_false', Bool.not_true, Bool.not_false, Bool.not_eq_eq_eq_not, Int.not_lt, Int.not_le] at g9'
              refine r_op tabOk hnt rfl (s_move rfl ?_) 
              refine r_if tabOk hnt rfl rfl rfl (fun _ => ?_) (fun e => absurd (e.symm.trans g9) (by decide))
              refine r_op tabOk hnt rfl (s_fa_ptr tab_53 rfl rfl tab_3 (by decide) rfl ?_) 
              refine r_if tabOk hnt rfl rfl rfl (fun _ => ?_) (fun e => absurd (e.symm.trans g9) (by decide))
              refine r_op tabOk hnt rfl (s_load_ptr1 tab_3 rfl rfl rfl rfl rfl ?_) 
              refine r_if tabOk hnt rfl rfl rfl (fun _ => ?_) (fun e => absurd (e.symm.trans g9) (by decide))
              refine r_op tabOk hnt rfl (s_geq rfl rfl ?_) 
              refine r_op tabOk hnt rfl (s_pick_t rfl g9 rfl ?_) 
              refine r_op tabOk hnt rfl (s_move rfl ?_) 
              refine r_if tabOk hnt rfl rfl rfl (fun g10 => ?_) (fun g10 => ?_)
              ·
                have g10' := g10
                try simp only [decide_eq_true_eq, decide_eq_false_iff_not, Bool.not_eq_true', Bool.not_eq_false', Bool.not_true, Bool.not_false, Bool.not_eq_eq_eq_not, Int.not_lt, Int.not_le] at g10'
                refine r_op tabOk hnt rfl (s_move rfl ?_) 
                refine r_if tabOk hnt rfl rfl rfl (fun _ => ?_) (fun e => absurd (e.symm.trans g10) (by decide))
                refine r_op tabOk hnt rfl (s_fa_ptr tab_53 rfl rfl tab_3 (by decide) rfl ?_) 
                refine r_if tabOk hnt rfl rfl rfl (fun _ => ?_) (fun e => absurd (e.symm.trans g10) (by decide))
                refine r_op tabOk hnt rfl (s_load_ptr1 tab_3 rfl rfl rfl rfl rfl ?_) 
                refine r_if tabOk hnt rfl rfl rfl (fun _ => ?_) (fun e => absurd (e.symm.trans g10) (by decide))
                refine r_op tabOk hnt rfl (s_fa_ptr tab_53 rfl rfl tab_3 (by decide) rfl ?_) 
                refine r_if tabOk hnt rfl rfl rfl (fun _ => ?_) (fun e => absurd (e.symm.trans g10) (by decide))
                refine r_op tabOk hnt rfl (s_load_ptr1 tab_3 rfl rfl rfl rfl rfl ?_) 
                refine r_if tabOk hnt rfl rfl rfl (fun _ => ?_) (fun e => absurd (e.symm.trans g10) (by decide))
                refine r_op tabOk hnt rfl (s_addi (r := ((meetV x y).at_) + ((meetV x y).count)) rfl rfl rfl (by omega) ?_) 
                refine r_if tabOk hnt rfl rfl rfl (fun _ => ?_) (fun e => absurd (e.symm.trans g10) (by decide))
                refine r_op tabOk hnt rfl (s_lss rfl rfl ?_) 
                refine r_op tabOk hnt rfl (s_pick_t rfl g10 rfl ?_) 
                refine r_op tabOk hnt rfl (s_nebool tab_4 rfl rfl rfl ?_) 
                refine r_set [(2, pS 2 cl_l eSpan l), (7, PV.ptr 0 0), (8, PV.ptr 1 0), (9, PV.ptr 2 0), (10, pB (meetOk x y)), (11, pI bo), (12, pB false), (13, pI i), (68, pI i), (69, PV.ptr 1 0), (70, pI y.at_), (71, PV.ptr 1 1), (72, pI y.count), (73, pI (y.at_ + y.count)), (74, pB (decide (i < y.at_ + y.count))), (86, pI i), (87, PV.ptr 2 0), (88, pI ((meetV x y).at_)), (89, pB (decide ((meetV x y).at_ ≤ i))), (92, pI i), (93, PV.ptr 2 0), (94, pI ((meetV x y).at_)), (95, PV.ptr 2 1), (96, pI ((meetV x y).count)), (97, pI (((meetV x y).at_) + ((meetV x y).count))), (98, pB (decide (i < ((meetV x y).at_) + ((meetV x y).count)))), (100, pB (!((decide (i < y.at_ + y.count)) == (decide (i < ((meetV x y).at_) + ((meetV x y).count))))))] [(0, .obj [pI x.at_, pI x.count]), (1, .obj [pI y.at_, pI y.count]), (2, .obj [pI ((meetV x y).at_), pI ((meetV x y).count)])] 3 ⟨rfl, rfl, rfl, rfl, rfl, rfl, rfl, rfl, rfl, rfl, rfl, rfl, rfl, rfl, rfl, rfl, rfl, rfl, rfl, rfl, rfl, rfl, rfl, rfl, rfl, rfl, rfl, trivial⟩ rfl rfl ?_
                refine r_end ?_
                refine q_then ?_
                refine w_if rfl (fun c13 => ?_) (fun c13 => ?_)
                ·
                  have c13_ := c13
                  exact absurd c13 (by have hci := cell_in xok yok hi1 (by omega); first | (have h := hci.1 (by assumption); first | exact not_dec (by omega) | (simp; done) | (simp; omega)) | (have h := hci.2 (by assumption); first | exact not_dec (by omega) | (simp; done) | (simp; omega)))
                ·
                  have c13_ := c13
                  try simp only [decide_eq_true_eq, decide_eq_false_iff_not, Bool.not_eq_true', Bool.not_eq_false', Bool.not_true, Bool.not_false, Bool.not_eq_eq_eq_not, Int.not_lt, Int.not_le] at c13
                  refine w_skip ?_
                  refine q_block ?_
                  refine q_then ?_
                  refine w_R ?_
                  refine r_op tabOk hnt rfl (s_move rfl ?_) 
                  refine r_op tabOk hnt rfl (s_addi (r := i + 1) rfl rfl rfl (by omega) ?_) 
                  refine r_op tabOk hnt rfl (s_assign rfl ?_) 
                  refine r_end ?_
                  refine q_then ?_
                  refine ⟨(bo), (false), (i + 1), ?_, ?_, ⟨[(0, 0), (1, 1), (2, 2)], by rw [hk]; decide, ⟨⟨_, rfl, rfl, rfl⟩, ⟨_, rfl, rfl, rfl⟩, ⟨_, rfl, rfl, rfl⟩, ⟨_, rfl, rfl, rfl⟩, ⟨_, rfl, rfl, rfl⟩, ⟨_, rfl, rfl, rfl⟩, ⟨_, rfl, rfl, rfl⟩, ⟨_, rfl, rfl, rfl⟩, trivial⟩, ⟨⟨_, _, rfl, rfl, rfl, rfl⟩, ⟨_, _, rfl, rfl, rfl, rfl⟩, ⟨_, _, rfl, rfl, rfl, rfl⟩, trivial⟩, by rw [hk]; decide⟩⟩
                  ·
                    refine ⟨by omega, by omega, ?_, ?_, by omega, by omega⟩
                    · first | (rw [both_in hi1 (by omega), hbo]; done) | (rw [both_out hi1 (by omega), hbo]; done)
                    · first | (rw [all_in hi1 (by omega), ← hal]; done) | (rw [all_in hi1 (by omega), ← hal]; cases al <;> first | rfl | contradiction | exact decide_eq_true (by omega) | exact decide_eq_false (by omega)) | (rw [all_out hi1 (by omega)]; done) | (rw [all_out hi1 (by omega)]; exact decide_eq_false (by omega))
                  · omega
              ·
                have g10' := g10
                try simp only [decide_eq_true_eq, decide_eq_false_iff_not, Bool.not_eq_true', Bool.not_eq_false', Bool.not_true, Bool.not_false, Bool.not_eq_eq_eq_not, Int.not_lt, Int.not_le] at g10'
                refine r_if tabOk hnt rfl rfl rfl (fun e => absurd (e.symm.trans g10) (by decide)) (fun _ => ?_)
                refine r_if tabOk hnt rfl rfl rfl (fun e => absurd (e.symm.trans g10) (by decide)) (fun _ => ?_)
                refine r_if tabOk hnt rfl rfl rfl (fun e => absurd (e.symm.trans g10) (by decide)) (fun _ => ?_)
                refine r_if tabOk hnt rfl rfl rfl (fun e => absurd (e.symm.trans g10) (by decide)) (fun _ => ?_)
                refine r_if tabOk hnt rfl rfl rfl (fun e => absurd (e.symm.trans g10) (by decide)) (fun _ => ?_)
                refine r_if tabOk hnt rfl rfl rfl (fun e => absurd (e.symm.trans g10) (by decide)) (fun _ => ?_)
                refine r_op tabOk hnt rfl (s_pick_f rfl g10 rfl ?_) 
                refine r_op tabOk hnt rfl (s_nebool tab_4 rfl rfl rfl ?_) 
                refine r_set [(2, pS 2 cl_l eSpan l), (7, PV.ptr 0 0), (8, PV.ptr 1 0), (9, PV.ptr 2 0), (10, pB (meetOk x y)), (11, pI bo), (12, pB false), (13, pI i), (68, pI i), (69, PV.ptr 1 0), (70, pI y.at_), (71, PV.ptr 1 1), (72, pI y.count), (73, pI (y.at_ + y.count)), (74, pB (decide (i < y.at_ + y.count))), (86, pI i), (87, PV.ptr 2 0), (88, pI ((meetV x y).at_)), (89, pB (decide ((meetV x y).at_ ≤ i))), (100, pB (!((decide (i < y.at_ + y.count)) == false)))] [(0, .obj [pI x.at_, pI x.count]), (1, .obj [pI y.at_, pI y.count]), (2, .obj [pI ((meetV x y).at_), pI ((meetV x y).count)])] 3 ⟨rfl, rfl, rfl, rfl, rfl, rfl, rfl, rfl, rfl, rfl, rfl, rfl, rfl, rfl, rfl, rfl, rfl, rfl, rfl, rfl, trivial⟩ rfl rfl ?_
                refine r_end ?_
                refine q_then ?_
                refine w_if rfl (fun c14 => ?_) (fun c14 => ?_)
                ·
                  have c14_ := c14
                  exact absurd c14 (by have hci := cell_in xok yok hi1 (by omega); first | (have h := hci.1 (by assumption); first | exact not_dec (by omega) | (simp; done) | (simp; omega)) | (have h := hci.2 (by assumption); first | exact not_dec (by omega) | (simp; done) | (simp; omega)))
                ·
                  have c14_ := c14
                  try simp only [decide_eq_true_eq, decide_eq_false_iff_not, Bool.not_eq_true', Bool.not_eq_false', Bool.not_true, Bool.not_false, Bool.not_eq_eq_eq_not, Int.not_lt, Int.not_le] at c14
                  refine w_skip ?_
                  refine q_block ?_
                  refine q_then ?_
                  refine w_R ?_
                  refine r_op tabOk hnt rfl (s_move rfl ?_) 
                  refine r_op tabOk hnt rfl (s_addi (r := i + 1) rfl rfl rfl (by omega) ?_) 
                  refine r_op tabOk hnt rfl (s_assign rfl ?_) 
                  refine r_end ?_
                  refine q_then ?_
                  refine ⟨(bo), (false), (i + 1), ?_, ?_, ⟨[(0, 0), (1, 1), (2, 2)], by rw [hk]; decide, ⟨⟨_, rfl, rfl, rfl⟩, ⟨_, rfl, rfl, rfl⟩, ⟨_, rfl, rfl, rfl⟩, ⟨_, rfl, rfl, rfl⟩, ⟨_, rfl, rfl, rfl⟩, ⟨_, rfl, rfl, rfl⟩, ⟨_, rfl, rfl, rfl⟩, ⟨_, rfl, rfl, rfl⟩, trivial⟩, ⟨⟨_, _, rfl, rfl, rfl, rfl⟩, ⟨_, _, rfl, rfl, rfl, rfl⟩, ⟨_, _, rfl, rfl, rfl, rfl⟩, trivial⟩, by rw [hk]; decide⟩⟩
                  ·
                    refine ⟨by omega, by omega, ?_, ?_, by omega, by omega⟩
                    · first | (rw [both_in hi1 (by omega), hbo]; done) | (rw [both_out hi1 (by omega), hbo]; done)
                    · first | (rw [all_in hi1 (by omega), ← hal]; done) | (rw [all_in hi1 (by omega), ← hal]; cases al <;> first | rfl | contradiction | exact decide_eq_true (by omega) | exact decide_eq_false (by omega)) | (rw [all_out hi1 (by omega)]; done) | (rw [all_out hi1 (by omega)]; exact decide_eq_false (by omega))
                  · omega
            ·
              have g9' := g9
              try simp only [decide_eq_true_eq, decide_eq_false_iff_not, Bool.not_eq_true', Bool.not_eq_false', Bool.not_true, Bool.not_false, Bool.not_eq_eq_eq_not, Int.not_lt, Int.not_le] at g9'
              refine r_if tabOk hnt rfl rfl rfl (fun e => absurd (e.symm.trans g9) (by decide)) (fun _ => ?_)
              refine r_if tabOk hnt rfl rfl rfl (fun e => absurd (e.symm.trans g9) (by decide)) (fun _ => ?_)
              refine r_if tabOk hnt rfl rfl rfl (fun e => absurd (e.symm.trans g9) (by decide)) (fun _ => ?_)
              refine r_op tabOk hnt rfl (s_pick_f rfl g9 rfl ?_) 
              refine r_op tabOk hnt rfl (s_move rfl ?_) 
              refine r_if tabOk hnt rfl rfl rfl (fun e => absurd e (by decide)) (fun _ => ?_)
              refine r_if tabOk hnt rfl rfl rfl (fun e => absurd e (by decide)) (fun _ => ?_)
              refine r_if tabOk hnt rfl rfl rfl (fun e => absurd e (by decide)) (fun _ => ?_)
              refine r_if tabOk hnt rfl rfl rfl (fun e => absurd e (by decide)) (fun _ => ?_)
              refine r_if tabOk hnt rfl rfl rfl (fun e => absurd e (by decide)) (fun _ => ?_)
              refine r_if tabOk hnt rfl rfl rfl (fun e => absurd e (by decide)) (fun _ => ?_)
              refine r_if tabOk hnt rfl rfl rfl (fun e => absurd e (by decide)) (fun _ => ?_)
              refine r_op tabOk hnt rfl (s_pick_f rfl rfl rfl ?_) 
              refine r_op tabOk hnt rfl (s_nebool tab_4 rfl rfl rfl ?_) 
              refine r_set [(2, pS 2 cl_l eSpan l), (7, PV.ptr 0 0), (8, PV.ptr 1 0), (9, PV.ptr 2 0), (10, pB (meetOk x y)), (11, pI bo), (12, pB false), (13, pI i), (68, pI i), (69, PV.ptr 1 0), (70, pI y.at_), (71, PV.ptr 1 1), (72, pI y.count), (73, pI (y.at_ + y.count)), (74, pB (decide (i < y.at_ + y.count))), (100, pB (!((decide (i < y.at_ + y.count)) == false)))] [(0, .obj [pI x.at_, pI x.count]), (1, .obj [pI y.at_, pI y.count]), (2, .obj [pI ((meetV x y).at_), pI ((meetV x y).count)])] 3 ⟨rfl, rfl, rfl, rfl, rfl, rfl, rfl, rfl, rfl, rfl, rfl, rfl, rfl, rfl, rfl, rfl, trivial⟩ rfl rfl ?_
              refine r_end ?_
              refine q_then ?_
              refine w_if rfl (fun c15 => ?_) (fun c15 => ?_)
              ·
                have c15_ := c15
                exact absurd c15 (by have hci := cell_in xok yok hi1 (by omega); first | (have h := hci.1 (by assumption); first | exact not_dec (by omega) | (simp; done) | (simp; omega)) | (have h := hci.2 (by assumption); first | exact not_dec (by omega) | (simp; done) | (simp; omega)))
              ·
                have c15_ := c15
                try simp only [decide_eq_true_eq, decide_eq_false_iff_not, Bool.not_eq_true', Bool.not_eq_false', Bool.not_true, Bool.not_false, Bool.not_eq_eq_eq_not, Int.not_lt, Int.not_le] at c15
                refine w_skip ?_
                refine q_block ?_
                refine q_then ?_
                refine w_R ?_
                refine r_op tabOk hnt rfl (s_move rfl ?_) 
                refine r_op tabOk hnt rfl (s_addi (r := i + 1) rfl rfl rfl (by omega) ?_) 
                refine r_op tabOk hnt rfl (s_assign rfl ?_) 
                refine r_end ?_
                refine q_then ?_
                refine ⟨(bo), (false), (i + 1), ?_, ?_, ⟨[(0, 0), (1, 1), (2, 2)], by rw [hk]; decide, ⟨⟨_, rfl, rfl, rfl⟩, ⟨_, rfl, rfl, rfl⟩, ⟨_, rfl, rfl, rfl⟩, ⟨_, rfl, rfl, rfl⟩, ⟨_, rfl, rfl, rfl⟩, ⟨_, rfl, rfl, rfl⟩, ⟨_, rfl, rfl, rfl⟩, ⟨_, rfl, rfl, rfl⟩, trivial⟩, ⟨⟨_, _, rfl, rfl, rfl, rfl⟩, ⟨_, _, rfl, rfl, rfl, rfl⟩, ⟨_, _, rfl, rfl, rfl, rfl⟩, trivial⟩, by rw [hk]; decide⟩⟩
                ·
                  refine ⟨by omega, by omega, ?_, ?_, by omega, by omega⟩
                  · first | (rw [both_in hi1 (by omega), hbo]; done) | (rw [both_out hi1 (by omega), hbo]; done)
                  · first | (rw [all_in hi1 (by omega), ← hal]; done) | (rw [all_in hi1 (by omega), ← hal]; cases al <;> first | rfl | contradiction | exact decide_eq_true (by omega) | exact decide_eq_false (by omega)) | (rw [all_out hi1 (by omega)]; done) | (rw [all_out hi1 (by omega)]; exact decide_eq_false (by omega))
                · omega
      ·
        have g1' := g1
        try simp only [decide_eq_true_eq, decide_eq_false_iff_not, Bool.not_eq_true', Bool.not_eq_false', Bool.not_true, Bool.not_false, Bool.not_eq_eq_eq_not, Int.not_lt, Int.not_le] at g1'
        refine r_if tabOk hnt rfl rfl rfl (fun e => absurd (e.symm.trans g1) (by decide)) (fun _ => ?_)
        refine r_if tabOk hnt rfl rfl rfl (fun e => absurd (e.symm.trans g1) (by decide)) (fun _ => ?_)
        refine r_if tabOk hnt rfl rfl rfl (fun e => absurd (e.symm.trans g1) (by decide)) (fun _ => ?_)
        refine r_if tabOk hnt rfl rfl rfl (fun e => absurd (e.symm.trans g1) (by decide)) (fun _ => ?_)
        refine r_if tabOk hnt rfl rfl rfl (fun e => absurd (e.symm.trans g1) (by decide)) (fun _ => ?_)
        refine r_if tabOk hnt rfl rfl rfl (fun e => absurd (e.symm.trans g1) (by decide)) (fun _ => ?_)
        refine r_op tabOk hnt rfl (s_pick_f rfl g1 rfl ?_) 
        refine r_op tabOk hnt rfl (s_assign rfl ?_) 
        refine r_end ?_
        refine q_then ?_
        refine w_seq ?_
        refine w_R ?_
        refine r_op tabOk hnt rfl (s_move rfl ?_) 
        refine r_op tabOk hnt rfl (s_move rfl ?_) 
        refine r_if tabOk hnt rfl rfl rfl (fun g11 => ?_) (fun g11 => ?_)
        ·
          have g11' := g11
          try simp only [decide_eq_true_eq, decide_eq_false_iff_not, Bool.not_eq_true', Bool.not_eq_false', Bool.not_true, Bool.not_false, Bool.not_eq_eq_eq_not, Int.not_lt, Int.not_le] at g11'
          refine r_op tabOk hnt rfl (s_move rfl ?_) 
          refine r_op tabOk hnt rfl (s_pick_t rfl g11 rfl ?_) 
          refine r_op tabOk hnt rfl (s_assign rfl ?_) 
          refine r_set [(2, pS 2 cl_l eSpan l), (7, PV.ptr 0 0), (8, PV.ptr 1 0), (9, PV.ptr 2 0), (10, pB (meetOk x y)), (11, pI bo), (12, pB false), (13, pI i), (14, pB false), (78, pB false)] [(0, .obj [pI x.at_, pI x.count]), (1, .obj [pI y.at_, pI y.count]), (2, .obj [pI ((meetV x y).at_), pI ((meetV x y).count)])] 3 ⟨rfl, rfl, rfl, rfl, rfl, rfl, rfl, rfl, rfl, rfl, trivial⟩ rfl rfl ?_
          refine r_end ?_
          refine q_then ?_
          refine w_seq ?_
          refine w_seq ?_
          refine w_R ?_
          refine r_op tabOk hnt rfl (s_move rfl ?_) 
          refine r_end ?_
          refine q_then ?_
          refine w_if rfl (fun e => absurd e (by decide)) (fun _ => ?_)
          refine w_skip ?_
          refine q_then ?_
          refine w_seq ?_
          refine w_R ?_
          refine r_op tabOk hnt rfl (s_move rfl ?_) 
          refine r_op tabOk hnt rfl (s_move rfl ?_) 
          refine r_op tabOk hnt rfl (s_move rfl ?_) 
          refine r_if tabOk hnt rfl rfl rfl (fun g12 => ?_) (fun g12 => ?_)
          ·
            have g12' := g12
            try simp only [decide_eq_true_eq, decide_eq_false_iff_not, Bool.not_eq_true', Bool.not_eq_false', Bool.not_true, Bool.not_false, Bool.not_eq_eq_eq_not, Int.not_lt, Int.not_le] at g12'
            refine r_op tabOk hnt rfl (s_move rfl ?_) 
            refine r_if tabOk hnt rfl rfl rfl (fun _ => ?_) (fun e => absurd (e.symm.trans g12) (by decide))
            refine r_op tabOk hnt rfl (s_fa_ptr tab_53 rfl rfl tab_3 (by decide) rfl ?_) 
            refine r_if tabOk hnt rfl rfl rfl (fun _ => ?_) (fun e => absurd (e.symm.trans g12) (by decide))
            refine r_op tabOk hnt rfl (s_load_ptr1 tab_3 rfl rfl rfl rfl rfl ?_) 
            refine r_if tabOk hnt rfl rfl rfl (fun _ => ?_) (fun e => absurd (e.symm.trans g12) (by decide))
            refine r_op tabOk hnt rfl (s_geq rfl rfl ?_) 
            refine r_op tabOk hnt rfl (s_pick_t rfl g12 rfl ?_) 
            refine r_op tabOk hnt rfl (s_move rfl ?_) 
            refine r_if tabOk hnt rfl rfl rfl (fun g13 => ?_) (fun g13 => ?_)
            ·
              have g13' := g13
              try simp only [decide_eq_true_eq, decide_eq_false_iff_not, Bool.not_eq_true', Bool.not_eq_false', Bool.not_true, Bool.not_false, Bool.not_eq_eq_eq_not, Int.not_lt, Int.not_le] at g13'
              refine r_op tabOk hnt rfl (s_move rfl ?_) 
              refine r_if tabOk hnt rfl rfl rfl (fun _ => ?_) (fun e => absurd (e.symm.trans g13) (by decide))
              refine r_op tabOk hnt rfl (s_fa_ptr tab_53 rfl rfl tab_3 (by decide) rfl ?_) 
              refine r_if tabOk hnt rfl rfl rfl (fun _ => ?_) (fun e => absurd (e.symm.trans g13) (by decide))
              refine r_op tabOk hnt rfl (s_load_ptr1 tab_3 rfl rfl rfl rfl rfl ?_) 
              refine r_if tabOk hnt rfl rfl rfl (fun _ => ?_) (fun e => absurd (e.symm.trans g13) (by decide))
              refine r_op tabOk hnt rfl (s_fa_ptr tab_53 rfl rfl tab_3 (by decide) rfl ?_) 
              refine r_if tabOk hnt rfl rfl rfl (fun _ => ?_) (fun e => absurd (e.symm.trans g13) (by decide))
              refine r_op tabOk hnt rfl (s_load_ptr1 tab_3 rfl rfl rfl rfl rfl ?_) 
              refine r_if tabOk hnt rfl rfl rfl (fun _ => ?_) (fun e => absurd (e.symm.trans g13) (by decide))
              refine r_op tabOk hnt rfl (s_addi (r := ((meetV x y).at_) + ((meetV x y).count)) rfl rfl rfl (by omega) ?_) 
              refine r_if tabOk hnt rfl rfl rfl (fun _ => ?_) (fun e => absurd (e.symm.trans g13) (by decide))
              refine r_op tabOk hnt rfl (s_lss rfl rfl ?_) 
              refine r_op tabOk hnt rfl (s_pick_t rfl g13 rfl ?_) 
              refine r_op tabOk hnt rfl (s_nebool tab_4 rfl rfl rfl ?_) 
              refine r_end ?_
              refine q_then ?_
              refine w_if rfl (fun c16 => ?_) (fun c16 => ?_)
              ·
                have c16_ := c16
                exact absurd c16 (by have hci := cell_in xok yok hi1 (by omega); first | (have h := hci.1 (by assumption); first | exact not_dec (by omega) | (simp; done) | (simp; omega)) | (have h := hci.2 (by assumption); first | exact not_dec (by omega) | (simp; done) | (simp; omega)))
              ·
                have c16_ := c16
                try simp only [decide_eq_true_eq, decide_eq_false_iff_not, Bool.not_eq_true', Bool.not_eq_false', Bool.not_true, Bool.not_false, Bool.not_eq_eq_eq_not, Int.not_lt, Int.not_le] at c16
                refine w_skip ?_
                refine q_block ?_
                refine q_then ?_
                refine w_R ?_
                refine r_op tabOk hnt rfl (s_move rfl ?_) 
                refine r_op tabOk hnt rfl (s_addi (r := i + 1) rfl rfl rfl (by omega) ?_) 
                refine r_op tabOk hnt rfl (s_assign rfl ?_) 
                refine r_end ?_
                refine q_then ?_
                refine ⟨(bo), (false), (i + 1), ?_, ?_, ⟨[(0, 0), (1, 1), (2, 2)], by rw [hk]; decide, ⟨⟨_, rfl, rfl, rfl⟩, ⟨_, rfl, rfl, rfl⟩, ⟨_, rfl, rfl, rfl⟩, ⟨_, rfl, rfl, rfl⟩, ⟨_, rfl, rfl, rfl⟩, ⟨_, rfl, rfl, rfl⟩, ⟨_, rfl, rfl, rfl⟩, ⟨_, rfl, rfl, rfl⟩, trivial⟩, ⟨⟨_, _, rfl, rfl, rfl, rfl⟩, ⟨_, _, rfl, rfl, rfl, rfl⟩, ⟨_, _, rfl, rfl, rfl, rfl⟩, trivial⟩, by rw [hk]; decide⟩⟩
                ·
                  refine ⟨by omega, by omega, ?_, ?_, by omega, by omega⟩
                  · first | (rw [both_in hi1 (by omega), hbo]; done) | (rw [both_out hi1 (by omega), hbo]; done)
                  · first | (rw [all_in hi1 (by omega), ← hal]; done) | (rw [all_in hi1 (by omega), ← hal]; cases al <;> first | rfl | contradiction | exact decide_eq_true (by omega) | exact decide_eq_false (by omega)) | (rw [all_out hi1 (by omega)]; done) | (rw [all_out hi1 (by omega)]; exact decide_eq_false (by omega))
                · omega
            ·
              have g13' := g13
              try simp only [decide_eq_true_eq, decide_eq_false_iff_not, Bool.not_eq_true', Bool.not_eq_false', Bool.not_true, Bool.not_false, Bool.not_eq_eq_eq_not, Int.not_lt, Int.not_le] at g13'
              refine r_if tabOk hnt rfl rfl rfl (fun e => absurd (e.symm.trans g13) (by decide)) (fun _ => ?_)
              refine r_if tabOk hnt rfl rfl rfl (fun e => absurd (e.symm.trans g13) (by decide)) (fun _ => ?_)
              refine r_if tabOk hnt rfl rfl rfl (fun e => absurd (e.symm.trans g13) (by decide)) (fun _ => ?_)
              refine r_if tabOk hnt rfl rfl rfl (fun e => absurd (e.symm.trans g13) (by decide)) (fun _ => ?_)
              refine r_if tabOk hnt rfl rfl rfl (fun e => absurd (e.symm.trans g13) (by decide)) (fun _ => ?_)
              refine r_if tabOk hnt rfl rfl rfl (fun e => absurd (e.symm.trans g13) (by decide)) (fun _ => ?_)
              refine r_op tabOk hnt rfl (s_pick_f rfl g13 rfl ?_) 
              refine r_op tabOk hnt rfl (s_nebool tab_4 rfl rfl rfl ?_) 
              refine r_end ?_
              refine q_then ?_
              refine w_if rfl (fun c17 => ?_) (fun c17 => ?_)
              ·
                have c17_ := c17
                exact absurd c17 (by have hci := cell_in xok yok hi1 (by omega); first | (have h := hci.1 (by assumption); first | exact not_dec (by omega) | (simp; done) | (simp; omega)) | (have h := hci.2 (by assumption); first | exact not_dec (by omega) | (simp; done) | (simp; omega)))
              ·
                have c17_ := c17
                try simp only [decide_eq_true_eq, decide_eq_false_iff_not, Bool.not_eq_true', Bool.not_eq_false', Bool.not_true, Bool.not_false, Bool.not_eq_eq_eq_not, Int.not_lt, Int.not_le] at c17
                refine w_skip ?_
                refine q_block ?_
                refine q_then ?_
                refine w_R ?_
                refine r_op tabOk hnt rfl (s_move rfl ?_) 
                refine r_op tabOk hnt rfl (s_addi (r := i + 1) rfl rfl rfl (by omega) ?_) 
                refine r_op tabOk hnt rfl (s_assign rfl ?_) 
                refine r_end ?_
                refine q_then ?_
                refine ⟨(bo), (false), (i + 1), ?_, ?_, ⟨[(0, 0), (1, 1), (2, 2)], by rw [hk]; decide, ⟨⟨_, rfl, rfl, rfl⟩, ⟨_, rfl, rfl, rfl⟩, ⟨_, rfl, rfl, rfl⟩, ⟨_, rfl, rfl, rfl⟩, ⟨_, rfl, rfl, rfl⟩, ⟨_, rfl, rfl, rfl⟩, ⟨_, rfl, rfl, rfl⟩, ⟨_, rfl, rfl, rfl⟩, trivial⟩, ⟨⟨_, _, rfl, rfl, rfl, rfl⟩, ⟨_, _, rfl, rfl, rfl, rfl⟩, ⟨_, _, rfl, rfl, rfl, rfl⟩, trivial⟩, by rw [hk]; decide⟩⟩
                ·
                  refine ⟨by omega, by omega, ?_, ?_, by omega, by omega⟩
                  · first | (rw [both_in hi1 (by omega), hbo]; done) | (rw [both_out hi1 (by omega), hbo]; done)
                  · first | (rw [all_in hi1 (by omega), ← hal]; done) | (rw [all_in hi1 (by omega), ← hal]; cases al <;> first | rfl | contradiction | exact decide_eq_true (by omega) | exact decide_eq_false (by omega)) | (rw [all_out hi1 (by omega)]; done) | (rw [all_out hi1 (by omega)]; exact decide_eq_false (by omega))
                · omega
          ·
            have g12' := g12
            try simp only [decide_eq_true_eq, decide_eq_false_iff_not, Bool.not_eq_true', Bool.not_eq_false', Bool.not_true, Bool.not_false, Bool.not_eq_eq_eq_not, Int.not_lt, Int.not_le] at g12'
            refine r_if tabOk hnt rfl rfl rfl (fun e => absurd (e.symm.trans g12) (by decide)) (fun _ => ?_)
            refine r_if tabOk hnt rfl rfl rfl (fun e => absurd (e.symm.trans g12) (by decide)) (fun _ => ?_)
            refine r_if tabOk hnt rfl rfl rfl (fun e => absurd (e.symm.trans g12) (by decide)) (fun _ => ?_)
            refine r_op tabOk hnt rfl (s_pick_f rfl g12 rfl ?_) 
            refine r_op tabOk hnt rfl (s_move rfl ?_) 
            refine r_if tabOk hnt rfl rfl rfl (fun e => absurd e (by decide)) (fun _ => ?_)
            refine r_if tabOk hnt rfl rfl rfl (fun e => absurd e (by decide)) (fun _ => ?_)
            refine r_if tabOk hnt rfl rfl rfl (fun e => absurd e (by decide)) (fun _ => ?_)
            refine r_if tabOk hnt rfl rfl rfl (fun e => absurd e (by decide)) (fun _ => ?_)
            refine r_if tabOk hnt rfl rfl rfl (fun e => absurd e (by decide)) (fun _ => ?_)
            refine r_if tabOk hnt rfl rfl rfl (fun e => absurd e (by decide)) (fun _ => ?_)
            refine r_if tabOk hnt rfl rfl rfl (fun e => absurd e (by decide)) (fun _ => ?_)
            refine r_op tabOk hnt rfl (s_pick_f rfl rfl rfl ?_) 
            refine r_op tabOk hnt rfl (s_nebool tab_4 rfl rfl rfl ?_) 
            refine r_end ?_
            refine q_then ?_
            refine w_if rfl (fun c18 => ?_) (fun c18 => ?_)
            ·
              have c18_ := c18
              exact absurd c18 (by have hci := cell_in xok yok hi1 (by omega); first | (have h := hci.1 (by assumption); first | exact not_dec (by omega) | (simp; done) | (simp; omega)) | (have h := hci.2 (by assumption); first | exact not_dec (by omega) | (simp; done) | (simp; omega)))
            ·
              have c18_ := c18
              try simp only [decide_eq_true_eq, decide_eq_false_iff_not, Bool.not_eq_true', Bool.not_eq_false', Bool.not_true, Bool.not_false, Bool.not_eq_eq_eq_not, Int.not_lt, Int.not_le] at c18
              refine w_skip ?_
              refine q_block ?_
              refine q_then ?_
              refine w_R ?_
              refine r_op tabOk hnt rfl (s_move rfl ?_) 
              refine r_op tabOk hnt rfl (s_addi (r := i + 1) rfl rfl rfl (by omega) ?_) 
              refine r_op tabOk hnt rfl (s_assign rfl ?_) 
              refine r_end ?_
              refine q_then ?_
              refine ⟨(bo), (false), (i + 1), ?_, ?_, ⟨[(0, 0), (1, 1), (2, 2)], by rw [hk]; decide, ⟨⟨_, rfl, rfl, rfl⟩, ⟨_, rfl, rfl, rfl⟩, ⟨_, rfl, rfl, rfl⟩, ⟨_, rfl, rfl, rfl⟩, ⟨_, rfl, rfl, rfl⟩, ⟨_, rfl, rfl, rfl⟩, ⟨_, rfl, rfl, rfl⟩, ⟨_, rfl, rfl, rfl⟩, trivial⟩, ⟨⟨_, _, rfl, rfl, rfl, rfl⟩, ⟨_, _, rfl, rfl, rfl, rfl⟩, ⟨_, _, rfl, rfl, rfl, rfl⟩, trivial⟩, by rw [hk]; decide⟩⟩
              ·
                refine ⟨by omega, by omega, ?_, ?_, by omega, by omega⟩
                · first | (rw [both_in hi1 (by omega), hbo]; done) | (rw [both_out hi1 (by omega), hbo]; done)
                · first | (rw [all_in hi1 (by omega), ← hal]; done) | (rw [all_in hi1 (by omega), ← hal]; cases al <;> first | rfl | contradiction | exact decide_eq_true (by omega) | exact decide_eq_false (by omega)) | (rw [all_out hi1 (by omega)]; done) | (rw [all_out hi1 (by omega)]; exact decide_eq_false (by omega))
              · omega
        ·
          have g11' := g11
          try simp only [decide_eq_true_eq, decide_eq_false_iff_not, Bool.not_eq_true', Bool.not_eq_false', Bool.not_true, Bool.not_false, Bool.not_eq_eq_eq_not, Int.not_lt, Int.not_le] at g11'
          refine r_op tabOk hnt rfl (s_pick_f rfl g11 rfl ?_) 
          refine r_op tabOk hnt rfl (s_assign rfl ?_) 
          refine r_set [(2, pS 2 cl_l eSpan l), (7, PV.ptr 0 0), (8, PV.ptr 1 0), (9, PV.ptr 2 0), (10, pB (meetOk x y)), (11, pI bo), (12, pB false), (13, pI i), (14, pB false)] [(0, .obj [pI x.at_, pI x.count]), (1, .obj [pI y.at_, pI y.count]), (2, .obj [pI ((meetV x y).at_), pI ((meetV x y).count)])] 3 ⟨rfl, rfl, rfl, rfl, rfl, rfl, rfl, rfl, rfl, trivial⟩ rfl rfl ?_
          refine r_end ?_
          refine q_then ?_
          refine w_seq ?_
          refine w_seq ?_
          refine w_R ?_
          refine r_op tabOk hnt rfl (s_move rfl ?_) 
          refine r_end ?_
          refine q_then ?_
          refine w_if rfl (fun e => absurd e (by decide)) (fun _ => ?_)
          refine w_skip ?_
          refine q_then ?_
          refine w_seq ?_
          refine w_R ?_
          refine r_op tabOk hnt rfl (s_move rfl ?_) 
          refine r_op tabOk hnt rfl (s_move rfl ?_) 
          refine r_op tabOk hnt rfl (s_move rfl ?_) 
          refine r_if tabOk hnt rfl rfl rfl (fun g14 => ?_) (fun g14 => ?_)
          ·
            have g14' := g14
            try simp only [decide_eq_true_eq, decide_eq_false_iff_not, Bool.not_eq_true', Bool.not_eq_false', Bool.not_true, Bool.not_false, Bool.not_eq_eq_eq_not, Int.not_lt, Int.not_le] at g14'
            refine r_op tabOk hnt rfl (s_move rfl ?_) 
            refine r_if tabOk hnt rfl rfl rfl (fun _ => ?_) (fun e => absurd (e.symm.trans g14) (by decide))
            refine r_op tabOk hnt rfl (s_fa_ptr tab_53 rfl rfl tab_3 (by decide) rfl ?_) 
            refine r_if tabOk hnt rfl rfl rfl (fun _ => ?_) (fun e => absurd (e.symm.trans g14) (by decide))
            refine r_op tabOk hnt rfl (s_load_ptr1 tab_3 rfl rfl rfl rfl rfl ?_) 
            refine r_if tabOk hnt rfl rfl rfl (fun _ => ?_) (fun e => absurd (e.symm.trans g14) (by decide))
            refine r_op tabOk hnt rfl (s_geq rfl rfl ?_) 
            refine r_op tabOk hnt rfl (s_pick_t rfl g14 rfl ?_) 
            refine r_op tabOk hnt rfl (s_move rfl ?_) 
            refine r_if tabOk hnt rfl rfl rfl (fun g15 => ?_) (fun g15 => ?_)
            ·
              have g15' := g15
              try simp only [decide_eq_true_eq, decide_eq_false_iff_not, Bool.not_eq_true', Bool.not_eq_false', Bool.not_true, Bool.not_false, Bool.not_eq_eq_eq_not, Int.not_lt, Int.not_le] at g15'
              refine r_op tabOk hnt rfl (s_move rfl ?_) 
              refine r_if tabOk hnt rfl rfl rfl (fun _ => ?_) (fun e => absurd (e.symm.trans g15) (by decide))
              refine r_op tabOk hnt rfl (s_fa_ptr tab_53 rfl rfl tab_3 (by decide) rfl ?_) 
              refine r_if tabOk hnt rfl rfl rfl (fun _ => ?_) (fun e => absurd (e.symm.trans g15) (by decide))
              refine r_op tabOk hnt rfl (s_load_ptr1 tab_3 rfl rfl rfl rfl rfl ?_) 
              refine r_if tabOk hnt rfl rfl rfl (fun _ => ?_) (fun e => absurd (e.symm.trans g15) (by decide))
              refine r_op tabOk hnt rfl (s_fa_ptr tab_53 rfl rfl tab_3 (by decide) rfl ?_) 
              refine r_if tabOk hnt rfl rfl rfl (fun _ => ?_) (fun e => absurd (e.symm.trans g15) (by decide))
              refine r_op tabOk hnt rfl (s_load_ptr1 tab_3 rfl rfl rfl rfl rfl ?_) 
              refine r_if tabOk hnt rfl rfl rfl (fun _ => ?_) (fun e => absurd (e.symm.trans g15) (by decide))
              refine r_op tabOk hnt rfl (s_addi (r := ((meetV x y).at_) + ((meetV x y).count)) rfl rfl rfl (by omega) ?_) 
              refine r_if tabOk hnt rfl rfl rfl (fun _ => ?_) (fun e => absurd (e.symm.trans g15) (by decide))
              refine r_op tabOk hnt rfl (s_lss rfl rfl ?_) 
              refine r_op tabOk hnt rfl (s_pick_t rfl g15 rfl ?_) 
              refine r_op tabOk hnt rfl (s_nebool tab_4 rfl rfl rfl ?_) 
              refine r_end ?_
              refine q_then ?_
              refine w_if rfl (fun c19 => ?_) (fun c19 => ?_)
              ·
                have c19_ := c19
                exact absurd c19 (by have hci := cell_in xok yok hi1 (by omega); first | (have h := hci.1 (by assumption); first | exact not_dec (by omega) | (simp; done) | (simp; omega)) | (have h := hci.2 (by assumption); first | exact not_dec (by omega) | (simp; done) | (simp; omega)))
              ·
                have c19_ := c19
                try simp only [decide_eq_true_eq, decide_eq_false_iff_not, Bool.not_eq_true', Bool.not_eq_false', Bool.not_true, Bool.not_false, Bool.not_eq_eq_eq_not, Int.not_lt, Int.not_le] at c19
                refine w_skip ?_
                refine q_block ?_
                refine q_then ?_
                refine w_R ?_
                refine r_op tabOk hnt rfl (s_move rfl ?_) 
                refine r_op tabOk hnt rfl (s_addi (r := i + 1) rfl rfl rfl (by omega) ?_) 
                refine r_op tabOk hnt rfl (s_assign rfl ?_) 
                refine r_end ?_
                refine q_then ?_
                refine ⟨(bo), (false), (i + 1), ?_, ?_, ⟨[(0, 0), (1, 1), (2, 2)], by rw [hk]; decide, ⟨⟨_, rfl, rfl, rfl⟩, ⟨_, rfl, rfl, rfl⟩, ⟨_, rfl, rfl, rfl⟩, ⟨_, rfl, rfl, rfl⟩, ⟨_, rfl, rfl, rfl⟩, ⟨_, rfl, rfl, rfl⟩, ⟨_, rfl, rfl, rfl⟩, ⟨_, rfl, rfl, rfl⟩, trivial⟩, ⟨⟨_, _, rfl, rfl, rfl, rfl⟩, ⟨_, _, rfl, rfl, rfl, rfl⟩, ⟨_, _, rfl, rfl, rfl, rfl⟩, trivial⟩, by rw [hk]; decide⟩⟩
                ·
                  refine ⟨by omega, by omega, ?_, ?_, by omega, by omega⟩
                  · first | (rw [both_in hi1 (by omega), hbo]; done) | (rw [both_out hi1 (by omega), hbo]; done)
                  · first | (rw [all_in hi1 (by omega), ← hal]; done) | (rw [all_in hi1 (by omega), ← hal]; cases al <;> first | rfl | contradiction | exact decide_eq_true (by omega) | exact decide_eq_false (by omega)) | (rw [all_out hi1 (by omega)]; done) | (rw [all_out hi1 (by omega)]; exact decide_eq_false (by omega))
                · omega
            ·
              have g15' := g15
              try simp only [decide_eq_true_eq, decide_eq_false_iff_not, Bool.not_eq_true', Bool.not_eq_false', Bool.not_true, Bool.not_false, Bool.not_eq_eq_eq_not, Int.not_lt, Int.not_le] at g15'
              refine r_if tabOk hnt rfl rfl rfl (fun e => absurd (e.symm.trans g15) (by decide)) (fun _ => ?_)
              refine r_if tabOk hnt rfl rfl rfl (fun e => absurd (e.symm.trans g15) (by decide)) (fun _ => ?_)
              refine r_if tabOk hnt rfl rfl rfl (fun e => absurd (e.symm.trans g15) (by decide)) (fun _ => ?_)
              refine r_if tabOk hnt rfl rfl rfl (fun e => absurd (e.symm.trans g15) (by decide)) (fun _ => ?_)
              refine r_if tabOk hnt rfl rfl rfl (fun e => absurd (e.symm.trans g15) (by decide)) (fun _ => ?_)
              refine r_if tabOk hnt rfl rfl rfl (fun e => absurd (e.symm.trans g15) (by decide)) (fun _ => ?_)
              refine r_op tabOk hnt rfl (s_pick_f rfl g15 rfl ?_) 
              refine r_op tabOk hnt rfl (s_nebool tab_4 rfl rfl rfl ?_) 
              refine r_end ?_
              refine q_then ?_
              refine w_if rfl (fun c20 => ?_) (fun c20 => ?_)
              ·
                have c20_ := c20
                exact absurd c20 (by have hci := cell_in xok yok hi1 (by omega); first | (have h := hci.1 (by assumption); first | exact not_dec (by omega) | (simp; done) | (simp; omega)) | (have h := hci.2 (by assumption); first | exact not_dec (by omega) | (simp; done) | (simp; omega)))
              ·
                have c20_ := c20
                try simp only [decide_eq_true_eq, decide_eq_false_iff_not, Bool.not_eq_true', Bool.not_eq_false', Bool.not_true, Bool.not_false, Bool.not_eq_eq_eq_not, Int.not_lt, Int.not_le] at c20
                refine w_skip ?_
                refine q_block ?_
                refine q_then ?_
                refine w_R ?_
                refine r_op tabOk hnt rfl (s_move rfl ?_) 
                refine r_op tabOk hnt rfl (s_addi (r := i + 1) rfl rfl rfl (by omega) ?_) 
                refine r_op tabOk hnt rfl (s_assign rfl ?_) 
                refine r_end ?_
                refine q_then ?_
                refine ⟨(bo), (false), (i + 1), ?_, ?_, ⟨[(0, 0), (1, 1), (2, 2)], by rw [hk]; decide, ⟨⟨_, rfl, rfl, rfl⟩, ⟨_, rfl, rfl, rfl⟩, ⟨_, rfl, rfl, rfl⟩, ⟨_, rfl, rfl, rfl⟩, ⟨_, rfl, rfl, rfl⟩, ⟨_, rfl, rfl, rfl⟩, ⟨_, rfl, rfl, rfl⟩, ⟨_, rfl, rfl, rfl⟩, trivial⟩, ⟨⟨_, _, rfl, rfl, rfl, rfl⟩, ⟨_, _, rfl, rfl, rfl, rfl⟩, ⟨_, _, rfl, rfl, rfl, rfl⟩, trivial⟩, by rw [hk]; decide⟩⟩
                ·
                  refine ⟨by omega, by omega, ?_, ?_, by omega, by omega⟩
                  · first | (rw [both_in hi1 (by omega), hbo]; done) | (rw [both_out hi1 (by omega), hbo]; done)
                  · first | (rw [all_in hi1 (by omega), ← hal]; done) | (rw [all_in hi1 (by omega), ← hal]; cases al <;> first | rfl | contradiction | exact decide_eq_true (by omega) | exact decide_eq_false (by omega)) | (rw [all_out hi1 (by omega)]; done) | (rw [all_out hi1 (by omega)]; exact decide_eq_false (by omega))
                · omega
          ·
            have g14' := g14
            try simp only [decide_eq_true_eq, decide_eq_false_iff_not, Bool.not_eq_true', Bool.not_eq_false', Bool.not_true, Bool.not_false, Bool.not_eq_eq_eq_not, Int.not_lt, Int.not_le] at g14'
            refine r_if tabOk hnt rfl rfl rfl (fun e => absurd (e.symm.trans g14) (by decide)) (fun _ => ?_)
            refine r_if tabOk hnt rfl rfl rfl (fun e => absurd (e.symm.trans g14) (by decide)) (fun _ => ?_)
            refine r_if tabOk hnt rfl rfl rfl (fun e => absurd (e.symm.trans g14) (by decide)) (fun _ => ?_)
            refine r_op tabOk hnt rfl (s_pick_f rfl g14 rfl ?_) 
            refine r_op tabOk hnt rfl (s_move rfl ?_) 
            refine r_if tabOk hnt rfl rfl rfl (fun e => absurd e (by decide)) (fun _ => ?_)
            refine r_if tabOk hnt rfl rfl rfl (fun e => absurd e (by decide)) (fun _ => ?_)
            refine r_if tabOk hnt rfl rfl rfl (fun e => absurd e (by decide)) (fun _ => ?_)
            refine r_if tabOk hnt rfl rfl rfl (fun e => absurd e (by decide)) (fun _ => ?_)
            refine r_if tabOk hnt rfl rfl rfl (fun e => absurd e (by decide)) (fun _ => ?_)
            refine r_if tabOk hnt rfl rfl rfl (fun e => absurd e (by decide)) (fun _ => ?_)
            refine r_if tabOk hnt rfl rfl rfl (fun e => absurd e (by decide)) (fun _ => ?_)
            refine r_op tabOk hnt rfl (s_pick_f rfl rfl rfl ?_) 
            refine r_op tabOk hnt rfl (s_nebool tab_4 rfl rfl rfl ?_) 
            refine r_end ?_
            refine q_then ?_
            refine w_if rfl (fun c21 => ?_) (fun c21 => ?_)
            ·
              have c21_ := c21
              exact absurd c21 (by have hci := cell_in xok yok hi1 (by omega); first | (have h := hci.1 (by assumption); first | exact not_dec (by omega) | (simp; done) | (simp; omega)) | (have h := hci.2 (by assumption); first | exact not_dec (by omega) | (simp; done) | (simp; omega)))
            ·
              have c21_ := c21
              try simp only [decide_eq_true_eq, decide_eq_false_iff_not, Bool.not_eq_true', Bool.not_eq_false', Bool.not_true, Bool.not_false, Bool.not_eq_eq_eq_not, Int.not_lt, Int.not_le] at c21
              refine w_skip ?_
              refine q_block ?_
              refine q_then ?_
              refine w_R ?_
              refine r_op tabOk hnt rfl (s_move rfl ?_) 
              refine r_op tabOk hnt rfl (s_addi (r := i + 1) rfl rfl rfl (by omega) ?_) 
              refine r_op tabOk hnt rfl (s_assign rfl ?_) 
              refine r_end ?_
              refine q_then ?_
              refine ⟨(bo), (false), (i + 1), ?_, ?_, ⟨[(0, 0), (1, 1), (2, 2)], by rw [hk]; decide, ⟨⟨_, rfl, rfl, rfl⟩, ⟨_, rfl, rfl, rfl⟩, ⟨_, rfl, rfl, rfl⟩, ⟨_, rfl, rfl, rfl⟩, ⟨_, rfl, rfl, rfl⟩, ⟨_, rfl, rfl, rfl⟩, ⟨_, rfl, rfl, rfl⟩, ⟨_, rfl, rfl, rfl⟩, trivial⟩, ⟨⟨_, _, rfl, rfl, rfl, rfl⟩, ⟨_, _, rfl, rfl, rfl, rfl⟩, ⟨_, _, rfl, rfl, rfl, rfl⟩, trivial⟩, by rw [hk]; decide⟩⟩
              ·
                refine ⟨by omega, by omega, ?_, ?_, by omega, by omega⟩
                · first | (rw [both_in hi1 (by omega), hbo]; done) | (rw [both_out hi1 (by omega), hbo]; done)
                · first | (rw [all_in hi1 (by omega), ← hal]; done) | (rw [all_in hi1 (by omega), ← hal]; cases al <;> first | rfl | contradiction | exact decide_eq_true (by omega) | exact decide_eq_false (by omega)) | (rw [all_out hi1 (by omega)]; done) | (rw [all_out hi1 (by omega)]; exact decide_eq_false (by omega))
              · omega
    ·
      have c1_ := c1
      try simp only [decide_eq_true_eq, decide_eq_false_iff_not, Bool.not_eq_true', Bool.not_eq_false', Bool.not_true, Bool.not_false, Bool.not_eq_eq_eq_not, Int.not_lt, Int.not_le] at c1
      refine w_exit ?_
      refine q_then_exit ?_
      refine q_then_exit ?_
      refine q_block_exit ?_
      refine q_then ?_
      refine w_seq ?_
      have hie : i = x.at_ + x.count := by omega
      have hbe : bo = bothN x y (x.at_ + x.count) := by rw [hbo, hie]
      have hen := both_end xok yok
      rw [← hbe] at hen
      have hen1 : (meetOk x y == decide (0 < bo)) = true := by rw [hen.1]; simp
      have hae : spIn x y = al := by rw [all_end xok yok, hal, hie]
      refine w_R ?_
      refine r_op tabOk hnt rfl (s_assign rfl ?_) 
      refine r_end ?_
      refine q_then ?_
      refine w_seq ?_
      refine w_seq ?_
      refine w_R ?_
      refine r_op tabOk hnt rfl (s_assign rfl ?_) 
      refine r_end ?_
      refine q_then ?_
      refine w_block ?_
      refine w_adopt (s := 15) (sz := 2) rfl ?_
      refine loop2 (fun (fw : List TSpan) (k : Nat) => k ≤ l.length ∧ k ≤ 8 ∧ fw.length = k ∧ ∀ f ∈ fw, spOk f = true) (fun (fw : List TSpan) (k : Nat) => [(2, pS 2 cl_l eSpan l), (7, PV.ptr 1 0), (8, PV.ptr 2 0), (9, PV.ptr 3 0), (10, pB (meetOk x y)), (11, pI bo), (12, pB al), (15, PV.ref 0 0 none), (16, pN k)]) 4 (fun (fw : List TSpan) (k : Nat) => [(0, oB true 2 eSpan fw), (1, .obj [pI x.at_, pI x.count]), (2, .obj [pI y.at_, pI y.count]), (3, .obj [pI ((meetV x y).at_), pI ((meetV x y).count)])]) (fun (fw : List TSpan) (k : Nat) => l.length - k) (([] : List TSpan)) (0) ?_ ⟨[(0, 3), (1, 0), (2, 1), (3, 2)], by rw [hk]; decide, ⟨⟨_, rfl, rfl, rfl⟩, ⟨_, rfl, rfl, rfl⟩, ⟨_, rfl, rfl, rfl⟩, ⟨_, rfl, rfl, rfl⟩, ⟨_, rfl, rfl, rfl⟩, ⟨_, rfl, rfl, rfl⟩, ⟨_, rfl, rfl, rfl⟩, ⟨_, rfl, rfl, rfl⟩, ⟨_, rfl, rfl, rfl⟩, trivial⟩, ⟨⟨_, _, rfl, rfl, rfl, rfl⟩, ⟨_, _, rfl, rfl, rfl, rfl⟩, ⟨_, _, rfl, rfl, rfl, rfl⟩, ⟨_, _, rfl, rfl, rfl, rfl⟩, trivial⟩, by rw [hk]; decide⟩ ?_
      · exact ⟨by omega, by omega, rfl, fun f hf => by cases hf⟩
      ·
        intro fw k hK
        obtain ⟨hk1, hk2, hfl, hfw⟩ := hK
        refine w_seq ?_
        refine w_seq ?_
        refine w_R ?_
        refine r_op tabOk hnt rfl (s_move rfl ?_) 
        refine r_op tabOk hnt rfl (s_move rfl ?_) 
        refine r_op tabOk hnt rfl (s_lenM (l := l) tab_56 rfl (hM_sl (f := eSpan) rfl) ?_) 
        refine r_op tabOk hnt rfl (s_lss rfl rfl ?_) 
        refine r_op tabOk hnt rfl (s_move rfl ?_) 
        refine r_if tabOk hnt rfl rfl rfl (fun g16 => ?_) (fun g16 => ?_)
        ·
          have g16' := g16
          try simp only [decide_eq_true_eq, decide_eq_false_iff_not, Bool.not_eq_true', Bool.not_eq_false', Bool.not_true, Bool.not_false, Bool.not_eq_eq_eq_not, Int.not_lt, Int.not_le] at g16'
          refine r_op tabOk hnt rfl (s_move rfl ?_) 
          refine r_if tabOk hnt rfl rfl rfl (fun _ => ?_) (fun e => absurd (e.symm.trans g16) (by decide))
          refine r_op tabOk hnt rfl (s_lss rfl rfl ?_) 
          refine r_op tabOk hnt rfl (s_pick_t rfl g16 rfl ?_) 
          refine r_end ?_
          refine q_then ?_
          refine w_if rfl (fun c22 => ?_) (fun c22 => ?_)
          ·
            have c22_ := c22
            try simp only [decide_eq_true_eq, decide_eq_false_iff_not, Bool.not_eq_true', Bool.not_eq_false', Bool.not_true, Bool.not_false, Bool.not_eq_eq_eq_not, Int.not_lt, Int.not_le] at c22
            refine w_skip ?_
            refine q_then ?_
            refine w_seq ?_
            refine w_block ?_
            refine W_drawn tabOk mixed hnt [[], [], [], [1, 2], [1, 2, 3], [1, 2, 3, 4], [1, 2, 3, 4, 5], [], [], [7, 8], [7, 8, 9], [7, 8, 9, 10], [7, 8, 9, 10, 11], [7, 8, 9, 10, 11, 12], [1, 2, 3, 4, 5, 6, 7, 8, 9, 10, 11, 12, 13], [1, 2, 3, 4, 5, 6, 7, 8, 9, 10, 11, 12, 13, 14], [0, 1, 2, 3, 4, 5, 6, 7, 8, 9, 10, 11, 12, 13, 14, 15], [0, 1, 2, 3, 4, 5, 6, 7, 8, 9, 10, 11, 12, 13, 14, 15, 16]] (by kernel_rfl) ?_
            refine d_op ?_
            refine x_run0 [(15, PV.ref 0 0 none)] [] rfl rfl rfl rfl (s_move rfl ⟨rfl, rfl, rfl⟩) ?_
            refine d_op ?_
            refine x_run0 [(2, pS 2 cl_l eSpan l)] [] rfl rfl rfl rfl (s_move rfl ⟨rfl, rfl, rfl⟩) ?_
            refine d_op ?_
            refine x_run0 [(16, pN k)] [] rfl rfl rfl rfl (s_move rfl ⟨rfl, rfl, rfl⟩) ?_
            refine d_op ?_
            obtain ⟨e1, he1⟩ := get_of_lt l (i := k) (by omega)
            refine x_run0 [(112, pS 2 cl_l eSpan l), (113, pN k)] [1, 2] rfl rfl rfl rfl (s_iaM (q := k) (b := e1) (f := eSpan) tab_56 rfl tab_53 rfl rfl (by omega) rfl he1 ⟨rfl, rfl, rfl⟩) ?_
            refine d_op ?_
            refine x_run0 [(114, PV.f (.ro (eSpan e1)))] [1, 2, 3] rfl rfl rfl rfl (s_fa_ro tab_53 rfl rfl tab_3 (by decide) rfl (Nat.le_of_ble_eq_true rfl) (by intro _; rfl) ⟨rfl, rfl, rfl⟩) ?_
            refine d_op ?_
            refine x_run0 [(115, PV.f (.ro (encI e1.at_)))] [1, 2, 3, 4] rfl rfl rfl rfl (s_load_ro1 tab_3 rfl rfl rfl rfl ⟨rfl, rfl, rfl⟩) ?_
            refine d_op ?_
            refine x_run0 [(116, pI e1.at_)] [1, 2, 3, 4, 5] rfl rfl rfl rfl (s_maskI 4 (by decide) rfl rfl (by decide) ⟨rfl, rfl, rfl⟩) ?_
            refine d_op ?_
            refine x_run0 [(2, pS 2 cl_l eSpan l)] [] rfl rfl rfl rfl (s_move rfl ⟨rfl, rfl, rfl⟩) ?_
            refine d_op ?_
            refine x_run0 [(16, pN k)] [] rfl rfl rfl rfl (s_move rfl ⟨rfl, rfl, rfl⟩) ?_
            refine d_op ?_
            refine x_run0 [(118, pS 2 cl_l eSpan l), (119, pN k)] [7, 8] rfl rfl rfl rfl (s_iaM (q := k) (b := e1) (f := eSpan) tab_56 rfl tab_53 rfl rfl (by omega) rfl he1 ⟨rfl, rfl, rfl⟩) ?_
            refine d_op ?_
            refine x_run0 [(120, PV.f (.ro (eSpan e1)))] [7, 8, 9] rfl rfl rfl rfl (s_fa_ro tab_53 rfl rfl tab_3 (by decide) rfl (Nat.le_of_ble_eq_true rfl) (by intro _; rfl) ⟨rfl, rfl, rfl⟩) ?_
            refine d_op ?_
            refine x_run0 [(121, PV.f (.ro (encI e1.count)))] [7, 8, 9, 10] rfl rfl rfl rfl (s_load_ro1 tab_3 rfl rfl rfl rfl ⟨rfl, rfl, rfl⟩) ?_
            refine d_op ?_
            refine x_run0 [(122, pI e1.count)] [7, 8, 9, 10, 11] rfl rfl rfl rfl (s_maskI 3 (by decide) rfl rfl (by decide) ⟨rfl, rfl, rfl⟩) ?_
            refine d_op ?_
            refine x_run0 [(123, pN ((e1.count % 2 ^ 3).toNat))] [7, 8, 9, 10, 11, 12] rfl rfl rfl rfl (s_addN (a := 1) (b := (e1.count % 2 ^ 3).toNat) rfl rfl (by omega) (by omega) (by omega) ⟨rfl, rfl, rfl⟩) ?_
            refine d_op ?_
            refine x_run0 [(117, pN ((e1.at_ % 2 ^ 4).toNat)), (124, pN (1 + ((e1.count % 2 ^ 3).toNat)))] [1, 2, 3, 4, 5, 6, 7, 8, 9, 10, 11, 12, 13] rfl rfl rfl rfl (s_build tab_53 rfl rfl (b_cons rfl tab_3 rfl rfl rfl (Nat.le_of_ble_eq_true rfl) (b_cons rfl tab_3 rfl rfl rfl (Nat.le_of_ble_eq_true rfl) (b_nil ⟨rfl, rfl, rfl⟩)))) ?_
            refine d_op ?_
            refine x_run [(125, PV.f (.agg [encI (((e1.at_ % 2 ^ 4).toNat : Nat) : Int), encI ((1 + ((e1.count % 2 ^ 3).toNat) : Nat) : Int)]))] [1, 2, 3, 4, 5, 6, 7, 8, 9, 10, 11, 12, 13, 14] [] [] [(4, oB true 2 eSpan [(⟨(((e1.at_ % 2 ^ 4).toNat : Nat) : Int), ((1 + ((e1.count % 2 ^ 3).toNat) : Nat) : Int)⟩ : TSpan)])] [(4, oB true 2 eSpan [(⟨(((e1.at_ % 2 ^ 4).toNat : Nat) : Int), ((1 + ((e1.count % 2 ^ 3).toNat) : Nat) : Int)⟩ : TSpan)])] [(4, oB true 2 eSpan [(⟨(((e1.at_ % 2 ^ 4).toNat : Nat) : Int), ((1 + ((e1.count % 2 ^ 3).toNat) : Nat) : Int)⟩ : TSpan)]), (0, oB true 2 eSpan fw), (1, .obj [pI x.at_, pI x.count]), (2, .obj [pI y.at_, pI y.count]), (3, .obj [pI ((meetV x y).at_), pI ((meetV x y).count)])] rfl rfl rfl rfl rfl rfl (s_mkM (f := eSpan) [(⟨(((e1.at_ % 2 ^ 4).toNat : Nat) : Int), ((1 + ((e1.count % 2 ^ 3).toNat) : Nat) : Int)⟩ : TSpan)] tab_56 rfl tab_53 ⟨rfl, by decide⟩ (by decide) rfl rfl rfl rfl ⟨rfl, rfl, rfl⟩) rfl trivial rfl rfl ?_
            refine d_op ?_
            refine x_run [(111, PV.ref 0 0 none), (126, PV.ref 4 0 none)] [0, 1, 2, 3, 4, 5, 6, 7, 8, 9, 10, 11, 12, 13, 14, 15] [(4, oB true 2 eSpan [(⟨(((e1.at_ % 2 ^ 4).toNat : Nat) : Int), ((1 + ((e1.count % 2 ^ 3).toNat) : Nat) : Int)⟩ : TSpan)])] [(0, oB true 2 eSpan fw)] [(5, oB true 2 eSpan (fw ++ [(⟨(((e1.at_ % 2 ^ 4).toNat : Nat) : Int), ((1 + ((e1.count % 2 ^ 3).toNat) : Nat) : Int)⟩ : TSpan)])), (4, oB true 2 eSpan [(⟨(((e1.at_ % 2 ^ 4).toNat : Nat) : Int), ((1 + ((e1.count % 2 ^ 3).toNat) : Nat) : Int)⟩ : TSpan)])] [(5, oB true 2 eSpan (fw ++ [(⟨(((e1.at_ % 2 ^ 4).toNat : Nat) : Int), ((1 + ((e1.count % 2 ^ 3).toNat) : Nat) : Int)⟩ : TSpan)]))] [(5, oB true 2 eSpan (fw ++ [(⟨(((e1.at_ % 2 ^ 4).toNat : Nat) : Int), ((1 + ((e1.count % 2 ^ 3).toNat) : Nat) : Int)⟩ : TSpan)])), (4, oB true 2 eSpan [(⟨(((e1.at_ % 2 ^ 4).toNat : Nat) : Int), ((1 + ((e1.count % 2 ^ 3).toNat) : Nat) : Int)⟩ : TSpan)]), (1, .obj [pI x.at_, pI x.count]), (2, .obj [pI y.at_, pI y.count]), (3, .obj [pI ((meetV x y).at_), pI ((meetV x y).count)])] rfl rfl rfl rfl rfl rfl (s_appR0 (f := eSpan) (l := fw) (xs := [(⟨(((e1.at_ % 2 ^ 4).toNat : Nat) : Int), ((1 + ((e1.count % 2 ^ 3).toNat) : Nat) : Int)⟩ : TSpan)]) tab_56 rfl tab_53 ⟨rfl, by decide, by decide⟩ (srcM tab_56 rfl (hM_ref0 (f := eSpan) rfl rfl)) rfl rfl (by first | omega | (simp; omega)) ⟨rfl, rfl, rfl⟩) rfl ⟨rfl, trivial⟩ rfl rfl ?_
            refine d_op ?_
            refine x_run0 [(127, PV.ref 5 0 none)] [0, 1, 2, 3, 4, 5, 6, 7, 8, 9, 10, 11, 12, 13, 14, 15, 16] rfl rfl rfl rfl (s_assign rfl ⟨rfl, rfl, rfl⟩) ?_
            refine d_end ⟨by kernel_rfl, ?_⟩
            refine q_block ?_
            refine q_then ?_
            refine w_R ?_
            refine r_op tabOk hnt rfl (s_move rfl ?_) 
            refine r_op tabOk hnt rfl (s_addN (a := k) (b := 1) rfl rfl (by omega) (by omega) (by omega) ?_) 
            refine r_op tabOk hnt rfl (s_assign rfl ?_) 
            refine r_end ?_
            refine q_then ?_
            refine ⟨(fw ++ [(⟨(((e1.at_ % 2 ^ 4).toNat : Nat) : Int), ((1 + ((e1.count % 2 ^ 3).toNat) : Nat) : Int)⟩ : TSpan)]), (k + 1), ?_, ?_, ⟨[(0, 5), (1, 1), (2, 2), (3, 3)], by rw [hk]; decide, ⟨⟨_, rfl, rfl, rfl⟩, ⟨_, rfl, rfl, rfl⟩, ⟨_, rfl, rfl, rfl⟩, ⟨_, rfl, rfl, rfl⟩, ⟨_, rfl, rfl, rfl⟩, ⟨_, rfl, rfl, rfl⟩, ⟨_, rfl, rfl, rfl⟩, ⟨_, rfl, rfl, rfl⟩, ⟨_, rfl, rfl, rfl⟩, trivial⟩, ⟨⟨_, _, rfl, rfl, rfl, rfl⟩, ⟨_, _, rfl, rfl, rfl, rfl⟩, ⟨_, _, rfl, rfl, rfl, rfl⟩, ⟨_, _, rfl, rfl, rfl, rfl⟩, trivial⟩, by rw [hk]; decide⟩⟩
            ·
              refine ⟨by omega, by omega, by simp [hfl], ?_⟩
              intro f hf
              rw [List.mem_append, List.mem_singleton] at hf
              cases hf with
              | inl hf => exact hfw f hf
              | inr hf => rw [hf]; exact (spOk_iff _).2 (by simp only; omega)
            · omega
          ·
            have c22_ := c22
            try simp only [decide_eq_true_eq, decide_eq_false_iff_not, Bool.not_eq_true', Bool.not_eq_false', Bool.not_true, Bool.not_false, Bool.not_eq_eq_eq_not, Int.not_lt, Int.not_le] at c22
            refine w_exit ?_
            refine q_then_exit ?_
            refine q_then_exit ?_
            refine q_block_exit ?_
            refine q_then ?_
            refine w_seq ?_
            refine w_R ?_
            refine r_op tabOk hnt rfl (s_move rfl ?_) 
            refine r_op tabOk hnt rfl (s_load_ptr tab_53 rfl rfl rfl (Nat.le_of_ble_eq_true rfl) ?_) 
            refine r_op tabOk hnt rfl (s_callX (r2 := PV.tup [pS 2 false eSpan (coverV fw x), pB (coverOk fw x)]) (nx1 := 4) (H2 := [(0, oB false 2 eSpan fw), (1, .obj [pI x.at_, pI x.count]), (2, .obj [pI y.at_, pI y.count]), (3, .obj [pI ((meetV x y).at_), pI ((meetV x y).count)])]) (H3 := [(0, oB false 2 eSpan fw), (1, .obj [pI x.at_, pI x.count]), (2, .obj [pI y.at_, pI y.count]), (3, .obj [pI ((meetV x y).at_), pI ((meetV x y).count)])]) [] [] rfl rfl rfl (handed_of (by decide) trivial) rfl rfl rfl rfl rfl rfl (w_span_Cover fw false x (by first | omega | assumption | (simp; omega) | decide | (simp; done))) rfl (dist_of rfl) rfl rfl rfl rfl ?_) 
            refine r_op tabOk hnt rfl (s_move rfl ?_) 
            refine r_op tabOk hnt rfl (s_extract rfl rfl ?_) 
            refine r_op tabOk hnt rfl (s_extract rfl rfl ?_) 
            refine r_op tabOk hnt rfl (s_assign rfl ?_) 
            refine r_op tabOk hnt rfl (s_assign rfl ?_) 
            refine r_set [(7, PV.ptr 1 0), (8, PV.ptr 2 0), (9, PV.ptr 3 0), (10, pB (meetOk x y)), (11, pI bo), (12, pB al), (15, PV.ref 0 0 none), (17, pS 2 false eSpan (coverV fw x)), (18, pB (coverOk fw x))] [(0, oB false 2 eSpan fw), (1, .obj [pI x.at_, pI x.count]), (2, .obj [pI y.at_, pI y.count]), (3, .obj [pI ((meetV x y).at_), pI ((meetV x y).count)])] 4 ⟨rfl, rfl, rfl, rfl, rfl, rfl, rfl, rfl, rfl, trivial⟩ rfl rfl ?_
            refine r_end ?_
            refine q_then ?_
            refine w_seq ?_
            have hcl := coverV_length fw x
            refine w_R ?_
            refine r_op tabOk hnt rfl (s_fa_ptr tab_53 rfl rfl tab_3 (by decide) rfl ?_) 
            refine r_op tabOk hnt rfl (s_load_ptr1 tab_3 rfl rfl rfl rfl rfl ?_) 
            refine r_op tabOk hnt rfl (s_assign rfl ?_) 
            refine r_end ?_
            refine q_then ?_
            refine w_seq ?_
            refine w_seq ?_
            refine w_R ?_
            refine r_op tabOk hnt rfl (s_move rfl ?_) 
            refine r_op tabOk hnt rfl (s_lenM (l := coverV fw x) tab_56 rfl (hM_sl (f := eSpan) rfl) ?_) 
            refine r_op tabOk hnt rfl (s_move rfl ?_) 
            refine r_end ?_
            refine q_then ?_
            refine w_block ?_
            refine loop2 (fun (v : Int) (p : Nat) => p ≤ (coverV fw x).length ∧ v = x.at_ + sumC ((coverV fw x).take p)) (fun (v : Int) (p : Nat) => [(7, PV.ptr 0 0), (8, PV.ptr 1 0), (9, PV.ptr 2 0), (10, pB (meetOk x y)), (11, pI bo), (12, pB al), (15, PV.ref 3 0 none), (18, pB (coverOk fw x)), (19, pI v), (136, pS 2 false eSpan (coverV fw x)), (137, pN ((coverV fw x).length)), (138, pN p)]) 4 (fun (v : Int) (p : Nat) => [(0, .obj [pI x.at_, pI x.count]), (1, .obj [pI y.at_, pI y.count]), (2, .obj [pI ((meetV x y).at_), pI ((meetV x y).count)]), (3, oB false 2 eSpan fw)]) (fun (v : Int) (p : Nat) => (coverV fw x).length - p) (x.at_) (0) ?_ ⟨[(0, 1), (1, 2), (2, 3), (3, 0)], by rw [hk]; decide, ⟨⟨_, rfl, rfl, rfl⟩, ⟨_, rfl, rfl, rfl⟩, ⟨_, rfl, rfl, rfl⟩, ⟨_, rfl, rfl, rfl⟩, ⟨_, rfl, rfl, rfl⟩, ⟨_, rfl, rfl, rfl⟩, ⟨_, rfl, rfl, rfl⟩, ⟨_, rfl, rfl, rfl⟩, ⟨_, rfl, rfl, rfl⟩, ⟨_, rfl, rfl, rfl⟩, ⟨_, rfl, rfl, rfl⟩, ⟨_, rfl, rfl, rfl⟩, trivial⟩, ⟨⟨_, _, rfl, rfl, rfl, rfl⟩, ⟨_, _, rfl, rfl, rfl, rfl⟩, ⟨_, _, rfl, rfl, rfl, rfl⟩, ⟨_, _, rfl, rfl, rfl, rfl⟩, trivial⟩, by rw [hk]; decide⟩ ?_
            · exact ⟨by omega, by simp [sumC]⟩
            ·
              intro v p hP
              obtain ⟨hp1, hpv⟩ := hP
              refine w_seq ?_
              refine w_R ?_
              refine r_op tabOk hnt rfl (s_lss rfl rfl ?_) 
              refine r_end ?_
              refine q_then ?_
              refine w_seq ?_
              refine w_if rfl (fun c23 => ?_) (fun c23 => ?_)
              ·
                have c23_ := c23
                try simp only [decide_eq_true_eq, decide_eq_false_iff_not, Bool.not_eq_true', Bool.not_eq_false', Bool.not_true, Bool.not_false, Bool.not_eq_eq_eq_not, Int.not_lt, Int.not_le] at c23
                refine w_skip ?_
                refine q_then ?_
                refine w_seq ?_
                refine w_block ?_
                refine w_seq ?_
                refine w_R ?_
                obtain ⟨e2, he2⟩ := get_of_lt (coverV fw x) (i := p) (by omega)
                refine r_op tabOk hnt rfl (s_iaM (q := p) (b := e2) (f := eSpan) tab_56 rfl tab_53 rfl rfl (by omega) rfl he2 ?_) 
                refine r_op tabOk hnt rfl (s_load_ro tab_53 rfl rfl rfl ?_) 
                refine r_op tabOk hnt rfl (s_alloc tab_53 ?_) 
                refine r_op tabOk hnt rfl (s_store_ptr tab_53 rfl rfl rfl rfl rfl (Nat.le_of_ble_eq_true rfl) ?_) 
                refine r_set [(7, PV.ptr 0 0), (8, PV.ptr 1 0), (9, PV.ptr 2 0), (10, pB (meetOk x y)), (11, pI bo), (12, pB al), (15, PV.ref 3 0 none), (18, pB (coverOk fw x)), (19, pI v), (21, PV.ptr 4 0), (136, pS 2 false eSpan (coverV fw x)), (137, pN ((coverV fw x).length)), (138, pN p)] [(4, .obj [pI e2.at_, pI e2.count]), (0, .obj [pI x.at_, pI x.count]), (1, .obj [pI y.at_, pI y.count]), (2, .obj [pI ((meetV x y).at_), pI ((meetV x y).count)]), (3, oB false 2 eSpan fw)] 5 ⟨rfl, rfl, rfl, rfl, rfl, rfl, rfl, rfl, rfl, rfl, rfl, rfl, rfl, trivial⟩ rfl rfl ?_
                refine r_end ?_
                refine q_then ?_
                refine w_seq ?_
                have hcp := cover_piece xok hfw he2
                have hpo := (spOk_iff _).1 (any_ok hcp.2.2.1)
                have hcp := cover_piece xok hfw he2
                have hpa : e2.at_ = v := by rw [hcp.1, hpv]
                have hpc : ¬ e2.count < 1 := by have := hcp.2.1; omega
                obtain ⟨pe, hpe⟩ : ∃ z : TSpan, z = e2 := ⟨_, rfl⟩
                refine w_R ?_
                refine r_op tabOk hnt rfl (s_assign rfl ?_) 
                refine r_end ?_
                refine q_then ?_
                refine w_seq ?_
                refine w_seq ?_
                refine w_R ?_
                refine r_op tabOk hnt rfl (s_move rfl ?_) 
                refine r_op tabOk hnt rfl (s_lenM (l := fw) tab_56 rfl (hM_ref0 (f := eSpan) rfl rfl) ?_) 
                refine r_op tabOk hnt rfl (s_move rfl ?_) 
                refine r_end ?_
                refine q_then ?_
                refine w_block ?_
                refine loop2 (fun (so : Bool) (q : Nat) => q ≤ fw.length ∧ so = (fw.take q).any (fun f => spIn pe f)) (fun (so : Bool) (q : Nat) => [(7, PV.ptr 0 0), (8, PV.ptr 1 0), (9, PV.ptr 2 0), (10, pB (meetOk x y)), (11, pI bo), (12, pB al), (15, PV.ref 3 0 none), (18, pB (coverOk fw x)), (19, pI v), (21, PV.ptr 4 0), (22, pB so), (136, pS 2 false eSpan (coverV fw x)), (137, pN ((coverV fw x).length)), (138, pN p), (142, PV.ref 3 0 none), (143, pN fw.length), (144, pN q)]) 5 (fun (so : Bool) (q : Nat) => [(0, .obj [pI x.at_, pI x.count]), (1, .obj [pI y.at_, pI y.count]), (2, .obj [pI ((meetV x y).at_), pI ((meetV x y).count)]), (3, oB false 2 eSpan fw), (4, .obj [pI e2.at_, pI e2.count])]) (fun (so : Bool) (q : Nat) => fw.length - q) (false) (0) ?_ ⟨[(0, 0), (1, 1), (2, 2), (3, 3), (4, 4)], by rw [hk]; decide, ⟨⟨_, rfl, rfl, rfl⟩, ⟨_, rfl, rfl, rfl⟩, ⟨_, rfl, rfl, rfl⟩, ⟨_, rfl, rfl, rfl⟩, ⟨_, rfl, rfl, rfl⟩, ⟨_, rfl, rfl, rfl⟩, ⟨_, rfl, rfl, rfl⟩, ⟨_, rfl, rfl, rfl⟩, ⟨_, rfl, rfl, rfl⟩, ⟨_, rfl, rfl, rfl⟩, ⟨_, rfl, rfl, rfl⟩, ⟨_, rfl, rfl, rfl⟩, ⟨_, rfl, rfl, rfl⟩, ⟨_, rfl, rfl, rfl⟩, ⟨_, rfl, rfl, rfl⟩, ⟨_, rfl, rfl, rfl⟩, ⟨_, rfl, rfl, rfl⟩, trivial⟩, ⟨⟨_, _, rfl, rfl, rfl, rfl⟩, ⟨_, _, rfl, rfl, rfl, rfl⟩, ⟨_, _, rfl, rfl, rfl, rfl⟩, ⟨_, _, rfl, rfl, rfl, rfl⟩, ⟨_, _, rfl, rfl, rfl, rfl⟩, trivial⟩, by rw [hk]; decide⟩ ?_
                · exact ⟨by omega, by simp⟩
                ·
                  intro so q hQ
                  obtain ⟨hq1, hso⟩ := hQ
                  refine w_seq ?_
                  refine w_R ?_
                  refine r_op tabOk hnt rfl (s_lss rfl rfl ?_) 
                  refine r_end ?_
                  refine q_then ?_
                  refine w_seq ?_
                  refine w_if rfl (fun c24 => ?_) (fun c24 => ?_)
                  ·
                    have c24_ := c24
                    try simp only [decide_eq_true_eq, decide_eq_false_iff_not, Bool.not_eq_true', Bool.not_eq_false', Bool.not_true, Bool.not_false, Bool.not_eq_eq_eq_not, Int.not_lt, Int.not_le] at c24
                    refine w_skip ?_
                    refine q_then ?_
                    refine w_seq ?_
                    refine w_block ?_
                    refine w_seq ?_
                    refine w_R ?_
                    refine r_op tabOk hnt rfl (s_iaR0 (q := q) (f := eSpan) (l := fw) tab_56 rfl tab_53 rfl rfl (by omega) rfl rfl (by omega) ?_) 
                    obtain ⟨e3, he3⟩ := get_of_lt fw (i := q) (by omega)
                    refine r_op tabOk hnt rfl (s_ldA (b := e3) tab_53 rfl rfl rfl he3 rfl rfl ?_) 
                    refine r_op tabOk hnt rfl (s_alloc tab_53 ?_) 
                    refine r_op tabOk hnt rfl (s_store_ptr tab_53 rfl rfl rfl rfl rfl (Nat.le_of_ble_eq_true rfl) ?_) 
                    refine r_set [(7, PV.ptr 0 0), (8, PV.ptr 1 0), (9, PV.ptr 2 0), (10, pB (meetOk x y)), (11, pI bo), (12, pB al), (15, PV.ref 3 0 none), (18, pB (coverOk fw x)), (19, pI v), (21, PV.ptr 4 0), (22, pB so), (24, PV.ptr 5 0), (136, pS 2 false eSpan (coverV fw x)), (137, pN ((coverV fw x).length)), (138, pN p), (142, PV.ref 3 0 none), (143, pN fw.length), (144, pN q)] [(5, .obj [pI e3.at_, pI e3.count]), (0, .obj [pI x.at_, pI x.count]), (1, .obj [pI y.at_, pI y.count]), (2, .obj [pI ((meetV x y).at_), pI ((meetV x y).count)]), (3, oB false 2 eSpan fw), (4, .obj [pI e2.at_, pI e2.count])] 6 ⟨rfl, rfl, rfl, rfl, rfl, rfl, rfl, rfl, rfl, rfl, rfl, rfl, rfl, rfl, rfl, rfl, rfl, rfl, trivial⟩ rfl rfl ?_
                    refine r_end ?_
                    refine q_then ?_
                    refine w_R ?_
                    refine r_op tabOk hnt rfl (s_move rfl ?_) 
                    refine r_op tabOk hnt rfl (s_move rfl ?_) 
                    refine r_if tabOk hnt rfl rfl rfl (fun g17 => ?_) (fun g17 => ?_)
                    ·
                      have g17' := g17
                      try simp only [decide_eq_true_eq, decide_eq_false_iff_not, Bool.not_eq_true', Bool.not_eq_false', Bool.not_true, Bool.not_false, Bool.not_eq_eq_eq_not, Int.not_lt, Int.not_le] at g17'
                      refine r_op tabOk hnt rfl (s_load_ptr tab_53 rfl rfl rfl (Nat.le_of_ble_eq_true rfl) ?_) 
                      refine r_if tabOk hnt rfl rfl rfl (fun _ => ?_) (fun e => absurd (e.symm.trans g17) (by decide))
                      refine r_op tabOk hnt rfl (s_load_ptr tab_53 rfl rfl rfl (Nat.le_of_ble_eq_true rfl) ?_) 
                      refine r_if tabOk hnt rfl rfl rfl (fun _ => ?_) (fun e => absurd (e.symm.trans g17) (by decide))
                      refine r_op tabOk hnt rfl (s_callF rfl rfl rfl (w_span_In e2 e3) rfl ?_) 
                      refine r_op tabOk hnt rfl (s_pick_f rfl g17 rfl ?_) 
                      refine r_op tabOk hnt rfl (s_assign rfl ?_) 
                      refine r_end ?_
                      refine q_block ?_
                      refine q_then ?_
                      refine w_R ?_
                      refine r_op tabOk hnt rfl (s_addN (a := q) (b := 1) rfl rfl (by omega) (by omega) (by omega) ?_) 
                      refine r_op tabOk hnt rfl (s_move rfl ?_) 
                      refine r_end ?_
                      refine q_then ?_
                      refine ⟨(spIn e2 e3), (q + 1), ?_, ?_, ⟨[(0, 0), (1, 1), (2, 2), (3, 3), (4, 4)], by rw [hk]; decide, ⟨⟨_, rfl, rfl, rfl⟩, ⟨_, rfl, rfl, rfl⟩, ⟨_, rfl, rfl, rfl⟩, ⟨_, rfl, rfl, rfl⟩, ⟨_, rfl, rfl, rfl⟩, ⟨_, rfl, rfl, rfl⟩, ⟨_, rfl, rfl, rfl⟩, ⟨_, rfl, rfl, rfl⟩, ⟨_, rfl, rfl, rfl⟩, ⟨_, rfl, rfl, rfl⟩, ⟨_, rfl, rfl, rfl⟩, ⟨_, rfl, rfl, rfl⟩, ⟨_, rfl, rfl, rfl⟩, ⟨_, rfl, rfl, rfl⟩, ⟨_, rfl, rfl, rfl⟩, ⟨_, rfl, rfl, rfl⟩, ⟨_, rfl, rfl, rfl⟩, trivial⟩, ⟨⟨_, _, rfl, rfl, rfl, rfl⟩, ⟨_, _, rfl, rfl, rfl, rfl⟩, ⟨_, _, rfl, rfl, rfl, rfl⟩, ⟨_, _, rfl, rfl, rfl, rfl⟩, ⟨_, _, rfl, rfl, rfl, rfl⟩, trivial⟩, by rw [hk]; decide⟩⟩
                      ·
                        refine ⟨by omega, ?_⟩
                        first | (rw [any_next _ he3, ← hso]; simp [g17, hpe]; done) | (rw [any_next _ he6, ← hso]; simp [g34, hpe]; done)
                      · omega
                    ·
                      have g17' := g17
                      try simp only [decide_eq_true_eq, decide_eq_false_iff_not, Bool.not_eq_true', Bool.not_eq_false', Bool.not_true, Bool.not_false, Bool.not_eq_eq_eq_not, Int.not_lt, Int.not_le] at g17'
                      refine r_if tabOk hnt rfl rfl rfl (fun e => absurd (e.symm.trans g17) (by decide)) (fun _ => ?_)
                      refine r_if tabOk hnt rfl rfl rfl (fun e => absurd (e.symm.trans g17) (by decide)) (fun _ => ?_)
                      refine r_op tabOk hnt rfl (s_pick_t rfl g17 rfl ?_) 
                      refine r_op tabOk hnt rfl (s_assign rfl ?_) 
                      refine r_end ?_
                      refine q_block ?_
                      refine q_then ?_
                      refine w_R ?_
                      refine r_op tabOk hnt rfl (s_addN (a := q) (b := 1) rfl rfl (by omega) (by omega) (by omega) ?_) 
                      refine r_op tabOk hnt rfl (s_move rfl ?_) 
                      refine r_end ?_
                      refine q_then ?_
                      refine ⟨(true), (q + 1), ?_, ?_, ⟨[(0, 0), (1, 1), (2, 2), (3, 3), (4, 4)], by rw [hk]; decide, ⟨⟨_, rfl, rfl, rfl⟩, ⟨_, rfl, rfl, rfl⟩, ⟨_, rfl, rfl, rfl⟩, ⟨_, rfl, rfl, rfl⟩, ⟨_, rfl, rfl, rfl⟩, ⟨_, rfl, rfl, rfl⟩, ⟨_, rfl, rfl, rfl⟩, ⟨_, rfl, rfl, rfl⟩, ⟨_, rfl, rfl, rfl⟩, ⟨_, rfl, rfl, rfl⟩, ⟨_, rfl, rfl, rfl⟩, ⟨_, rfl, rfl, rfl⟩, ⟨_, rfl, rfl, rfl⟩, ⟨_, rfl, rfl, rfl⟩, ⟨_, rfl, rfl, rfl⟩, ⟨_, rfl, rfl, rfl⟩, ⟨_, rfl, rfl, rfl⟩, trivial⟩, ⟨⟨_, _, rfl, rfl, rfl, rfl⟩, ⟨_, _, rfl, rfl, rfl, rfl⟩, ⟨_, _, rfl, rfl, rfl, rfl⟩, ⟨_, _, rfl, rfl, rfl, rfl⟩, ⟨_, _, rfl, rfl, rfl, rfl⟩, trivial⟩, by rw [hk]; decide⟩⟩
                      ·
                        refine ⟨by omega, ?_⟩
                        first | (rw [any_next _ he3, ← hso]; simp [g17, hpe]; done) | (rw [any_next _ he6, ← hso]; simp [g34, hpe]; done)
                      · omega
                  ·
                    have c24_ := c24
                    try simp only [decide_eq_true_eq, decide_eq_false_iff_not, Bool.not_eq_true', Bool.not_eq_false', Bool.not_true, Bool.not_false, Bool.not_eq_eq_eq_not, Int.not_lt, Int.not_le] at c24
                    refine w_exit ?_
                    refine q_then_exit ?_
                    refine q_then_exit ?_
                    refine q_block_exit ?_
                    refine q_then ?_
                    refine w_seq ?_
                    refine w_seq ?_
                    have hse : so = true := by rw [hso, List.take_of_length_le (by omega), hpe]; exact hcp.2.2.1
                    refine w_R ?_
                    refine r_op tabOk hnt rfl (s_fa_ptr tab_53 rfl rfl tab_3 (by decide) rfl ?_) 
                    refine r_op tabOk hnt rfl (s_load_ptr1 tab_3 rfl rfl rfl rfl rfl ?_) 
                    refine r_op tabOk hnt rfl (s_move rfl ?_) 
                    refine r_op tabOk hnt rfl (s_neq rfl rfl ?_) 
                    refine r_op tabOk hnt rfl (s_move rfl ?_) 
                    refine r_if tabOk hnt rfl rfl rfl (fun g18 => ?_) (fun g18 => ?_)
                    ·
                      have g18' := g18
                      try simp only [decide_eq_true_eq, decide_eq_false_iff_not, Bool.not_eq_true', Bool.not_eq_false', Bool.not_true, Bool.not_false, Bool.not_eq_eq_eq_not, Int.not_lt, Int.not_le] at g18'
                      refine r_op tabOk hnt rfl (s_fa_ptr tab_53 rfl rfl tab_3 (by decide) rfl ?_) 
                      refine r_if tabOk hnt rfl rfl rfl (fun _ => ?_) (fun e => absurd (e.symm.trans g18) (by decide))
                      refine r_op tabOk hnt rfl (s_load_ptr1 tab_3 rfl rfl rfl rfl rfl ?_) 
                      refine r_if tabOk hnt rfl rfl rfl (fun _ => ?_) (fun e => absurd (e.symm.trans g18) (by decide))
                      refine r_op tabOk hnt rfl (s_lss rfl rfl ?_) 
                      refine r_op tabOk hnt rfl (s_pick_f rfl g18 rfl ?_) 
                      refine r_op tabOk hnt rfl (s_move rfl ?_) 
                      refine r_if tabOk hnt rfl rfl rfl (fun g19 => ?_) (fun g19 => ?_)
                      ·
                        have g19' := g19
                        try simp only [decide_eq_true_eq, decide_eq_false_iff_not, Bool.not_eq_true', Bool.not_eq_false', Bool.not_true, Bool.not_false, Bool.not_eq_eq_eq_not, Int.not_lt, Int.not_le] at g19'
                        refine r_op tabOk hnt rfl (s_move rfl ?_) 
                        refine r_if tabOk hnt rfl rfl rfl (fun _ => ?_) (fun e => absurd (e.symm.trans g19) (by decide))
                        refine r_op tabOk hnt rfl (s_not rfl ?_) 
                        refine r_op tabOk hnt rfl (s_pick_f rfl g19 rfl ?_) 
                        refine r_set [(7, PV.ptr 0 0), (8, PV.ptr 1 0), (9, PV.ptr 2 0), (10, pB (meetOk x y)), (11, pI bo), (12, pB al), (15, PV.ref 3 0 none), (18, pB (coverOk fw x)), (19, pI v), (21, PV.ptr 4 0), (136, pS 2 false eSpan (coverV fw x)), (137, pN ((coverV fw x).length)), (138, pN p), (160, PV.ptr 4 1), (161, pI e2.count), (162, pB (decide (e2.count < 1))), (165, pB so), (166, pB (!so)), (167, pB (!so))] [(0, .obj [pI x.at_, pI x.count]), (1, .obj [pI y.at_, pI y.count]), (2, .obj [pI ((meetV x y).at_), pI ((meetV x y).count)]), (3, oB false 2 eSpan fw), (4, .obj [pI e2.at_, pI e2.count])] 5 ⟨rfl, rfl, rfl, rfl, rfl, rfl, rfl, rfl, rfl, rfl, rfl, rfl, rfl, rfl, rfl, rfl, rfl, rfl, rfl, trivial⟩ rfl rfl ?_
                        refine r_end ?_
                        refine q_then ?_
                        refine w_if rfl (fun c25 => ?_) (fun c25 => ?_)
                        ·
                          have c25_ := c25
                          exact absurd c25 (by simp [hse])
                        ·
                          have c25_ := c25
                          try simp only [decide_eq_true_eq, decide_eq_false_iff_not, Bool.not_eq_true', Bool.not_eq_false', Bool.not_true, Bool.not_false, Bool.not_eq_eq_eq_not, Int.not_lt, Int.not_le] at c25
                          refine w_skip ?_
                          refine q_then ?_
                          refine w_R ?_
                          refine r_op tabOk hnt rfl (s_move rfl ?_) 
                          refine r_op tabOk hnt rfl (s_fa_ptr tab_53 rfl rfl tab_3 (by decide) rfl ?_) 
                          refine r_op tabOk hnt rfl (s_load_ptr1 tab_3 rfl rfl rfl rfl rfl ?_) 
                          refine r_op tabOk hnt rfl (s_addi (r := v + e2.count) rfl rfl rfl (by omega) ?_) 
                          refine r_op tabOk hnt rfl (s_assign rfl ?_) 
                          refine r_end ?_
                          refine q_block ?_
                          refine q_then ?_
                          refine w_R ?_
                          refine r_op tabOk hnt rfl (s_addN (a := p) (b := 1) rfl rfl (by omega) (by omega) (by omega) ?_) 
                          refine r_op tabOk hnt rfl (s_move rfl ?_) 
                          refine r_end ?_
                          refine q_then ?_
                          refine ⟨(v + e2.count), (p + 1), ?_, ?_, ⟨[(0, 0), (1, 1), (2, 2), (3, 3)], by rw [hk]; decide, ⟨⟨_, rfl, rfl, rfl⟩, ⟨_, rfl, rfl, rfl⟩, ⟨_, rfl, rfl, rfl⟩, ⟨_, rfl, rfl, rfl⟩, ⟨_, rfl, rfl, rfl⟩, ⟨_, rfl, rfl, rfl⟩, ⟨_, rfl, rfl, rfl⟩, ⟨_, rfl, rfl, rfl⟩, ⟨_, rfl, rfl, rfl⟩, ⟨_, rfl, rfl, rfl⟩, ⟨_, rfl, rfl, rfl⟩, ⟨_, rfl, rfl, rfl⟩, trivial⟩, ⟨⟨_, _, rfl, rfl, rfl, rfl⟩, ⟨_, _, rfl, rfl, rfl, rfl⟩, ⟨_, _, rfl, rfl, rfl, rfl⟩, ⟨_, _, rfl, rfl, rfl, rfl⟩, trivial⟩, by rw [hk]; decide⟩⟩
                          ·
                            exact ⟨by omega, by rw [← hcp.2.2.2, hpv]⟩
                          · omega
                      ·
                        exact absurd g19 (by simp; omega)
                    ·
                      exact absurd g18 (by simp [hpa])
              ·
                have c23_ := c23
                try simp only [decide_eq_true_eq, decide_eq_false_iff_not, Bool.not_eq_true', Bool.not_eq_false', Bool.not_true, Bool.not_false, Bool.not_eq_eq_eq_not, Int.not_lt, Int.not_le] at c23
                refine w_exit ?_
                refine q_then_exit ?_
                refine q_then_exit ?_
                refine q_block_exit ?_
                refine q_then ?_
                refine w_seq ?_
                have hve : v = x.at_ + sumC (coverV fw x) := by rw [hpv, List.take_of_length_le (by omega)]
                have hsum : coverOk fw x = true → v = x.at_ + x.count := fun h => by rw [hve, cover_sum xok hfw h]
                refine w_R ?_
                refine r_op tabOk hnt rfl (s_assign rfl ?_) 
                refine r_end ?_
                refine q_then ?_
                refine w_seq ?_
                refine w_seq ?_
                refine w_R ?_
                refine r_op tabOk hnt rfl (s_fa_ptr tab_53 rfl rfl tab_3 (by decide) rfl ?_) 
                refine r_op tabOk hnt rfl (s_load_ptr1 tab_3 rfl rfl rfl rfl rfl ?_) 
                refine r_op tabOk hnt rfl (s_assign rfl ?_) 
                refine r_end ?_
                refine q_then ?_
                refine w_block ?_
                refine loop2 (fun (wh : Bool) (i2 : Int) => x.at_ ≤ i2 ∧ i2 ≤ x.at_ + x.count ∧ (wh = true ↔ ∀ j : Int, x.at_ ≤ j → j < i2 → (fw.any fun f => decide (f.at_ ≤ j) && decide (j < f.at_ + f.count)) = true)) (fun (wh : Bool) (i2 : Int) => [(7, PV.ptr 0 0), (8, PV.ptr 1 0), (9, PV.ptr 2 0), (10, pB (meetOk x y)), (11, pI bo), (12, pB al), (15, PV.ref 3 0 none), (18, pB (coverOk fw x)), (19, pI v), (25, pB wh), (26, pI i2)]) 4 (fun (wh : Bool) (i2 : Int) => [(0, .obj [pI x.at_, pI x.count]), (1, .obj [pI y.at_, pI y.count]), (2, .obj [pI ((meetV x y).at_), pI ((meetV x y).count)]), (3, oB false 2 eSpan fw)]) (fun (wh : Bool) (i2 : Int) => (x.at_ + x.count - i2).toNat) (true) (x.at_) ?_ ⟨[(0, 0), (1, 1), (2, 2), (3, 3)], by rw [hk]; decide, ⟨⟨_, rfl, rfl, rfl⟩, ⟨_, rfl, rfl, rfl⟩, ⟨_, rfl, rfl, rfl⟩, ⟨_, rfl, rfl, rfl⟩, ⟨_, rfl, rfl, rfl⟩, ⟨_, rfl, rfl, rfl⟩, ⟨_, rfl, rfl, rfl⟩, ⟨_, rfl, rfl, rfl⟩, ⟨_, rfl, rfl, rfl⟩, ⟨_, rfl, rfl, rfl⟩, ⟨_, rfl, rfl, rfl⟩, trivial⟩, ⟨⟨_, _, rfl, rfl, rfl, rfl⟩, ⟨_, _, rfl, rfl, rfl, rfl⟩, ⟨_, _, rfl, rfl, rfl, rfl⟩, ⟨_, _, rfl, rfl, rfl, rfl⟩, trivial⟩, by rw [hk]; decide⟩ ?_
                · exact ⟨by omega, by omega, fun _ j h1 h2 => by omega, fun _ => rfl⟩
                ·
                  intro wh i2 hW
                  obtain ⟨hw1, hw2, hwh⟩ := hW
                  refine w_seq ?_
                  refine w_seq ?_
                  refine w_R ?_
                  refine r_op tabOk hnt rfl (s_move rfl ?_) 
                  refine r_op tabOk hnt rfl (s_fa_ptr tab_53 rfl rfl tab_3 (by decide) rfl ?_) 
                  refine r_op tabOk hnt rfl (s_load_ptr1 tab_3 rfl rfl rfl rfl rfl ?_) 
                  refine r_op tabOk hnt rfl (s_fa_ptr tab_53 rfl rfl tab_3 (by decide) rfl ?_) 
                  refine r_op tabOk hnt rfl (s_load_ptr1 tab_3 rfl rfl rfl rfl rfl ?_) 
                  refine r_op tabOk hnt rfl (s_addi (r := x.at_ + x.count) rfl rfl rfl (by omega) ?_) 
                  refine r_op tabOk hnt rfl (s_lss rfl rfl ?_) 
                  refine r_end ?_
                  refine q_then ?_
                  refine w_if rfl (fun c26 => ?_) (fun c26 => ?_)
                  ·
                    have c26_ := c26
                    try simp only [decide_eq_true_eq, decide_eq_false_iff_not, Bool.not_eq_true', Bool.not_eq_false', Bool.not_true, Bool.not_false, Bool.not_eq_eq_eq_not, Int.not_lt, Int.not_le] at c26
                    refine w_skip ?_
                    refine q_then ?_
                    refine w_seq ?_
                    refine w_block ?_
                    refine w_seq ?_
                    refine w_R ?_
                    refine r_op tabOk hnt rfl (s_assign rfl ?_) 
                    refine r_end ?_
                    refine q_then ?_
                    refine w_seq ?_
                    refine w_seq ?_
                    refine w_R ?_
                    refine r_op tabOk hnt rfl (s_move rfl ?_) 
                    refine r_op tabOk hnt rfl (s_lenM (l := fw) tab_56 rfl (hM_ref0 (f := eSpan) rfl rfl) ?_) 
                    refine r_op tabOk hnt rfl (s_move rfl ?_) 
                    refine r_end ?_
                    refine q_then ?_
                    refine w_block ?_
                    refine loop2 (fun (sm : Bool) (q : Nat) => q ≤ fw.length ∧ sm = (fw.take q).any (fun f => decide (f.at_ ≤ i2) && decide (i2 < f.at_ + f.count))) (fun (sm : Bool) (q : Nat) => [(7, PV.ptr 0 0), (8, PV.ptr 1 0), (9, PV.ptr 2 0), (10, pB (meetOk x y)), (11, pI bo), (12, pB al), (15, PV.ref 3 0 none), (18, pB (coverOk fw x)), (19, pI v), (25, pB wh), (26, pI i2), (27, pB sm), (184, PV.ref 3 0 none), (185, pN fw.length), (186, pN q)]) 4 (fun (sm : Bool) (q : Nat) => [(0, .obj [pI x.at_, pI x.count]), (1, .obj [pI y.at_, pI y.count]), (2, .obj [pI ((meetV x y).at_), pI ((meetV x y).count)]), (3, oB false 2 eSpan fw)]) (fun (sm : Bool) (q : Nat) => fw.length - q) (false) (0) ?_ ⟨[(0, 0), (1, 1), (2, 2), (3, 3)], by rw [hk]; decide, ⟨⟨_, rfl, rfl, rfl⟩, ⟨_, rfl, rfl, rfl⟩, ⟨_, rfl, rfl, rfl⟩, ⟨_, rfl, rfl, rfl⟩, ⟨_, rfl, rfl, rfl⟩, ⟨_, rfl, rfl, rfl⟩, ⟨_, rfl, rfl, rfl⟩, ⟨_, rfl, rfl, rfl⟩, ⟨_, rfl, rfl, rfl⟩, ⟨_, rfl, rfl, rfl⟩, ⟨_, rfl, rfl, rfl⟩, ⟨_, rfl, rfl, rfl⟩, ⟨_, rfl, rfl, rfl⟩, ⟨_, rfl, rfl, rfl⟩, ⟨_, rfl, rfl, rfl⟩, trivial⟩, ⟨⟨_, _, rfl, rfl, rfl, rfl⟩, ⟨_, _, rfl, rfl, rfl, rfl⟩, ⟨_, _, rfl, rfl, rfl, rfl⟩, ⟨_, _, rfl, rfl, rfl, rfl⟩, trivial⟩, by rw [hk]; decide⟩ ?_
                    · exact ⟨by omega, by simp⟩
                    ·
                      intro sm q hQ
                      obtain ⟨hq1, hsm⟩ := hQ
                      refine w_seq ?_
                      refine w_R ?_
                      refine r_op tabOk hnt rfl (s_lss rfl rfl ?_) 
                      refine r_end ?_
                      refine q_then ?_
                      refine w_seq ?_
                      refine w_if rfl (fun c27 => ?_) (fun c27 => ?_)
                      ·
                        have c27_ := c27
                        try simp only [decide_eq_true_eq, decide_eq_false_iff_not, Bool.not_eq_true', Bool.not_eq_false', Bool.not_true, Bool.not_false, Bool.not_eq_eq_eq_not, Int.not_lt, Int.not_le] at c27
                        refine w_skip ?_
                        refine q_then ?_
                        refine w_seq ?_
                        refine w_block ?_
                        refine w_seq ?_
                        refine w_R ?_
                        refine r_op tabOk hnt rfl (s_iaR0 (q := q) (f := eSpan) (l := fw) tab_56 rfl tab_53 rfl rfl (by omega) rfl rfl (by omega) ?_) 
                        obtain ⟨e4, he4⟩ := get_of_lt fw (i := q) (by omega)
                        refine r_op tabOk hnt rfl (s_ldA (b := e4) tab_53 rfl rfl rfl he4 rfl rfl ?_) 
                        refine r_op tabOk hnt rfl (s_alloc tab_53 ?_) 
                        refine r_op tabOk hnt rfl (s_store_ptr tab_53 rfl rfl rfl rfl rfl (Nat.le_of_ble_eq_true rfl) ?_) 
                        refine r_set [(7, PV.ptr 0 0), (8, PV.ptr 1 0), (9, PV.ptr 2 0), (10, pB (meetOk x y)), (11, pI bo), (12, pB al), (15, PV.ref 3 0 none), (18, pB (coverOk fw x)), (19, pI v), (25, pB wh), (26, pI i2), (27, pB sm), (29, PV.ptr 4 0), (184, PV.ref 3 0 none), (185, pN fw.length), (186, pN q)] [(4, .obj [pI e4.at_, pI e4.count]), (0, .obj [pI x.at_, pI x.count]), (1, .obj [pI y.at_, pI y.count]), (2, .obj [pI ((meetV x y).at_), pI ((meetV x y).count)]), (3, oB false 2 eSpan fw)] 5 ⟨rfl, rfl, rfl, rfl, rfl, rfl, rfl, rfl, rfl, rfl, rfl, rfl, rfl, rfl, rfl, rfl, trivial⟩ rfl rfl ?_
                        refine r_end ?_
                        refine q_then ?_
                        have hfo := (spOk_iff _).1 (hfw e4 (List.mem_of_getElem? he4))
                        refine w_R ?_
                        refine r_op tabOk hnt rfl (s_move rfl ?_) 
                        refine r_op tabOk hnt rfl (s_move rfl ?_) 
                        refine r_if tabOk hnt rfl rfl rfl (fun g20 => ?_) (fun g20 => ?_)
                        ·
                          have g20' := g20
                          try simp only [decide_eq_true_eq, decide_eq_false_iff_not, Bool.not_eq_true', Bool.not_eq_false', Bool.not_true, Bool.not_false, Bool.not_eq_eq_eq_not, Int.not_lt, Int.not_le] at g20'
                          refine r_op tabOk hnt rfl (s_move rfl ?_) 
                          refine r_if tabOk hnt rfl rfl rfl (fun _ => ?_) (fun e => absurd (e.symm.trans g20) (by decide))
                          refine r_op tabOk hnt rfl (s_fa_ptr tab_53 rfl rfl tab_3 (by decide) rfl ?_) 
                          refine r_if tabOk hnt rfl rfl rfl (fun _ => ?_) (fun e => absurd (e.symm.trans g20) (by decide))
                          refine r_op tabOk hnt rfl (s_load_ptr1 tab_3 rfl rfl rfl rfl rfl ?_) 
                          refine r_if tabOk hnt rfl rfl rfl (fun _ => ?_) (fun e => absurd (e.symm.trans g20) (by decide))
                          refine r_op tabOk hnt rfl (s_geq rfl rfl ?_) 
                          refine r_if tabOk hnt rfl rfl rfl (fun _ => ?_) (fun e => absurd (e.symm.trans g20) (by decide))
                          refine r_op tabOk hnt rfl (s_move rfl ?_) 
                          refine r_if tabOk hnt rfl rfl rfl (fun g21 => ?_) (fun g21 => ?_)
                          ·
                            have g21' := g21
                            try simp only [decide_eq_true_eq, decide_eq_false_iff_not, Bool.not_eq_true', Bool.not_eq_false', Bool.not_true, Bool.not_false, Bool.not_eq_eq_eq_not, Int.not_lt, Int.not_le] at g21'
                            refine r_op tabOk hnt rfl (s_move rfl ?_) 
                            refine r_if tabOk hnt rfl rfl rfl (fun _ => ?_) (fun e => absurd (e.symm.trans g21) (by decide))
                            refine r_op tabOk hnt rfl (s_fa_ptr tab_53 rfl rfl tab_3 (by decide) rfl ?_) 
                            refine r_if tabOk hnt rfl rfl rfl (fun _ => ?_) (fun e => absurd (e.symm.trans g21) (by decide))
                            refine r_op tabOk hnt rfl (s_load_ptr1 tab_3 rfl rfl rfl rfl rfl ?_) 
                            refine r_if tabOk hnt rfl rfl rfl (fun _ => ?_) (fun e => absurd (e.symm.trans g21) (by decide))
                            refine r_op tabOk hnt rfl (s_fa_ptr tab_53 rfl rfl tab_3 (by decide) rfl ?_) 
                            refine r_if tabOk hnt rfl rfl rfl (fun _ => ?_) (fun e => absurd (e.symm.trans g21) (by decide))
                            refine r_op tabOk hnt rfl (s_load_ptr1 tab_3 rfl rfl rfl rfl rfl ?_) 
                            refine r_if tabOk hnt rfl rfl rfl (fun _ => ?_) (fun e => absurd (e.symm.trans g21) (by decide))
                            refine r_op tabOk hnt rfl (s_addi (r := e4.at_ + e4.count) rfl rfl rfl (by omega) ?_) 
                            refine r_if tabOk hnt rfl rfl rfl (fun _ => ?_) (fun e => absurd (e.symm.trans g21) (by decide))
                            refine r_op tabOk hnt rfl (s_lss rfl rfl ?_) 
                            refine r_if tabOk hnt rfl rfl rfl (fun _ => ?_) (fun e => absurd (e.symm.trans g20) (by decide))
                            refine r_op tabOk hnt rfl (s_pick_t rfl g21 rfl ?_) 
                            refine r_op tabOk hnt rfl (s_pick_f rfl g20 rfl ?_) 
                            refine r_op tabOk hnt rfl (s_assign rfl ?_) 
                            refine r_set [(7, PV.ptr 0 0), (8, PV.ptr 1 0), (9, PV.ptr 2 0), (10, pB (meetOk x y)), (11, pI bo), (12, pB al), (15, PV.ref 3 0 none), (18, pB (coverOk fw x)), (19, pI v), (25, pB wh), (26, pI i2), (27, pB (decide (i2 < e4.at_ + e4.count))), (184, PV.ref 3 0 none), (185, pN fw.length), (186, pN q), (192, pI i2), (193, PV.ptr 4 0), (194, pI e4.at_), (195, pB (decide (e4.at_ ≤ i2))), (196, pB (decide (e4.at_ ≤ i2))), (197, pI i2), (198, PV.ptr 4 0), (199, pI e4.at_), (200, PV.ptr 4 1), (201, pI e4.count), (202, pI (e4.at_ + e4.count)), (203, pB (decide (i2 < e4.at_ + e4.count))), (204, pB (decide (i2 < e4.at_ + e4.count)))] [(4, .obj [pI e4.at_, pI e4.count]), (0, .obj [pI x.at_, pI x.count]), (1, .obj [pI y.at_, pI y.count]), (2, .obj [pI ((meetV x y).at_), pI ((meetV x y).count)]), (3, oB false 2 eSpan fw)] 5 ⟨rfl, rfl, rfl, rfl, rfl, rfl, rfl, rfl, rfl, rfl, rfl, rfl, rfl, rfl, rfl, rfl, rfl, rfl, rfl, rfl, rfl, rfl, rfl, rfl, rfl, rfl, rfl, rfl, trivial⟩ rfl rfl ?_
                            refine r_end ?_
                            refine q_block ?_
                            refine q_then ?_
                            refine w_R ?_
                            refine r_op tabOk hnt rfl (s_addN (a := q) (b := 1) rfl rfl (by omega) (by omega) (by omega) ?_) 
                            refine r_op tabOk hnt rfl (s_move rfl ?_) 
                            refine r_end ?_
                            refine q_then ?_
                            refine ⟨(decide (i2 < e4.at_ + e4.count)), (q + 1), ?_, ?_, ⟨[(0, 0), (1, 1), (2, 2), (3, 3)], by rw [hk]; decide, ⟨⟨_, rfl, rfl, rfl⟩, ⟨_, rfl, rfl, rfl⟩, ⟨_, rfl, rfl, rfl⟩, ⟨_, rfl, rfl, rfl⟩, ⟨_, rfl, rfl, rfl⟩, ⟨_, rfl, rfl, rfl⟩, ⟨_, rfl, rfl, rfl⟩, ⟨_, rfl, rfl, rfl⟩, ⟨_, rfl, rfl, rfl⟩, ⟨_, rfl, rfl, rfl⟩, ⟨_, rfl, rfl, rfl⟩, ⟨_, rfl, rfl, rfl⟩, ⟨_, rfl, rfl, rfl⟩, ⟨_, rfl, rfl, rfl⟩, ⟨_, rfl, rfl, rfl⟩, trivial⟩, ⟨⟨_, _, rfl, rfl, rfl, rfl⟩, ⟨_, _, rfl, rfl, rfl, rfl⟩, ⟨_, _, rfl, rfl, rfl, rfl⟩, ⟨_, _, rfl, rfl, rfl, rfl⟩, trivial⟩, by rw [hk]; decide⟩⟩
                            ·
                              refine ⟨by omega, ?_⟩
                              first | (rw [any_next _ he4, ← hsm]; simp [g20, g21]; done) | (rw [any_next _ he4, ← hsm]; simp [g20]; done) | (rw [any_next _ he7, ← hsm]; simp [g37, g38]; done) | (rw [any_next _ he7, ← hsm]; simp [g37]; done)
                            · omega
                          ·
                            have g21' := g21
                            try simp only [decide_eq_true_eq, decide_eq_false_iff_not, Bool.not_eq_true', Bool.not_eq_false', Bool.not_true, Bool.not_false, Bool.not_eq_eq_eq_not, Int.not_lt, Int.not_le] at g21'
                            refine r_if tabOk hnt rfl rfl rfl (fun e => absurd (e.symm.trans g21) (by decide)) (fun _ => ?_)
                            refine r_if tabOk hnt rfl rfl rfl (fun e => absurd (e.symm.trans g21) (by decide)) (fun _ => ?_)
                            refine r_if tabOk hnt rfl rfl rfl (fun e => absurd (e.symm.trans g21) (by decide)) (fun _ => ?_)
                            refine r_if tabOk hnt rfl rfl rfl (fun e => absurd (e.symm.trans g21) (by decide)) (fun _ => ?_)
                            refine r_if tabOk hnt rfl rfl rfl (fun e => absurd (e.symm.trans g21) (by decide)) (fun _ => ?_)
                            refine r_if tabOk hnt rfl rfl rfl (fun e => absurd (e.symm.trans g21) (by decide)) (fun _ => ?_)
                            refine r_if tabOk hnt rfl rfl rfl (fun _ => ?_) (fun e => absurd (e.symm.trans g20) (by decide))
                            refine r_op tabOk hnt rfl (s_pick_f rfl g21 rfl ?_) 
                            refine r_op tabOk hnt rfl (s_pick_f rfl g20 rfl ?_) 
                            refine r_op tabOk hnt rfl (s_assign rfl ?_) 
                            refine r_set [(7, PV.ptr 0 0), (8, PV.ptr 1 0), (9, PV.ptr 2 0), (10, pB (meetOk x y)), (11, pI bo), (12, pB al), (15, PV.ref 3 0 none), (18, pB (coverOk fw x)), (19, pI v), (25, pB wh), (26, pI i2), (27, pB false), (184, PV.ref 3 0 none), (185, pN fw.length), (186, pN q), (192, pI i2), (193, PV.ptr 4 0), (194, pI e4.at_), (195, pB (decide (e4.at_ ≤ i2))), (196, pB (decide (e4.at_ ≤ i2))), (204, pB false)] [(4, .obj [pI e4.at_, pI e4.count]), (0, .obj [pI x.at_, pI x.count]), (1, .obj [pI y.at_, pI y.count]), (2, .obj [pI ((meetV x y).at_), pI ((meetV x y).count)]), (3, oB false 2 eSpan fw)] 5 ⟨rfl, rfl, rfl, rfl, rfl, rfl, rfl, rfl, rfl, rfl, rfl, rfl, rfl, rfl, rfl, rfl, rfl, rfl, rfl, rfl, rfl, trivial⟩ rfl rfl ?_
                            refine r_end ?_
                            refine q_block ?_
                            refine q_then ?_
                            refine w_R ?_
                            refine r_op tabOk hnt rfl (s_addN (a := q) (b := 1) rfl rfl (by omega) (by omega) (by omega) ?_) 
                            refine r_op tabOk hnt rfl (s_move rfl ?_) 
                            refine r_end ?_
                            refine q_then ?_
                            refine ⟨(false), (q + 1), ?_, ?_, ⟨[(0, 0), (1, 1), (2, 2), (3, 3)], by rw [hk]; decide, ⟨⟨_, rfl, rfl, rfl⟩, ⟨_, rfl, rfl, rfl⟩, ⟨_, rfl, rfl, rfl⟩, ⟨_, rfl, rfl, rfl⟩, ⟨_, rfl, rfl, rfl⟩, ⟨_, rfl, rfl, rfl⟩, ⟨_, rfl, rfl, rfl⟩, ⟨_, rfl, rfl, rfl⟩, ⟨_, rfl, rfl, rfl⟩, ⟨_, rfl, rfl, rfl⟩, ⟨_, rfl, rfl, rfl⟩, ⟨_, rfl, rfl, rfl⟩, ⟨_, rfl, rfl, rfl⟩, ⟨_, rfl, rfl, rfl⟩, ⟨_, rfl, rfl, rfl⟩, trivial⟩, ⟨⟨_, _, rfl, rfl, rfl, rfl⟩, ⟨_, _, rfl, rfl, rfl, rfl⟩, ⟨_, _, rfl, rfl, rfl, rfl⟩, ⟨_, _, rfl, rfl, rfl, rfl⟩, trivial⟩, by rw [hk]; decide⟩⟩
                            ·
                              refine ⟨by omega, ?_⟩
                              first | (rw [any_next _ he4, ← hsm]; simp [g20, g21]; done) | (rw [any_next _ he4, ← hsm]; simp [g20]; done) | (rw [any_next _ he7, ← hsm]; simp [g37, g38]; done) | (rw [any_next _ he7, ← hsm]; simp [g37]; done)
                            · omega
                        ·
                          have g20' := g20
                          try simp only [decide_eq_true_eq, decide_eq_false_iff_not, Bool.not_eq_true', Bool.not_eq_false', Bool.not_true, Bool.not_false, Bool.not_eq_eq_eq_not, Int.not_lt, Int.not_le] at g20'
                          refine r_if tabOk hnt rfl rfl rfl (fun e => absurd (e.symm.trans g20) (by decide)) (fun _ => ?_)
                          refine r_if tabOk hnt rfl rfl rfl (fun e => absurd (e.symm.trans g20) (by decide)) (fun _ => ?_)
                          refine r_if tabOk hnt rfl rfl rfl (fun e => absurd (e.symm.trans g20) (by decide)) (fun _ => ?_)
                          refine r_if tabOk hnt rfl rfl rfl (fun e => absurd (e.symm.trans g20) (by decide)) (fun _ => ?_)
                          refine r_undef tabOk hnt rfl rfl rfl ?_
                          refine r_undef tabOk hnt rfl rfl rfl ?_
                          refine r_undef tabOk hnt rfl rfl rfl ?_
                          refine r_undef tabOk hnt rfl rfl rfl ?_
                          refine r_undef tabOk hnt rfl rfl rfl ?_
                          refine r_undef tabOk hnt rfl rfl rfl ?_
                          refine r_undef tabOk hnt rfl rfl rfl ?_
                          refine r_if tabOk hnt rfl rfl rfl (fun e => absurd (e.symm.trans g20) (by decide)) (fun _ => ?_)
                          refine r_op tabOk hnt rfl (s_pick_t rfl g20 rfl ?_) 
                          refine r_op tabOk hnt rfl (s_assign rfl ?_) 
                          refine r_set [(7, PV.ptr 0 0), (8, PV.ptr 1 0), (9, PV.ptr 2 0), (10, pB (meetOk x y)), (11, pI bo), (12, pB al), (15, PV.ref 3 0 none), (18, pB (coverOk fw x)), (19, pI v), (25, pB wh), (26, pI i2), (27, pB true), (184, PV.ref 3 0 none), (185, pN fw.length), (186, pN q)] [(4, .obj [pI e4.at_, pI e4.count]), (0, .obj [pI x.at_, pI x.count]), (1, .obj [pI y.at_, pI y.count]), (2, .obj [pI ((meetV x y).at_), pI ((meetV x y).count)]), (3, oB false 2 eSpan fw)] 5 ⟨rfl, rfl, rfl, rfl, rfl, rfl, rfl, rfl, rfl, rfl, rfl, rfl, rfl, rfl, rfl, trivial⟩ rfl rfl ?_
                          refine r_end ?_
                          refine q_block ?_
                          refine q_then ?_
                          refine w_R ?_
                          refine r_op tabOk hnt rfl (s_addN (a := q) (b := 1) rfl rfl (by omega) (by omega) (by omega) ?_) 
                          refine r_op tabOk hnt rfl (s_move rfl ?_) 
                          refine r_end ?_
                          refine q_then ?_
                          refine ⟨(true), (q + 1), ?_, ?_, ⟨[(0, 0), (1, 1), (2, 2), (3, 3)], by rw [hk]; decide, ⟨⟨_, rfl, rfl, rfl⟩, ⟨_, rfl, rfl, rfl⟩, ⟨_, rfl, rfl, rfl⟩, ⟨_, rfl, rfl, rfl⟩, ⟨_, rfl, rfl, rfl⟩, ⟨_, rfl, rfl, rfl⟩, ⟨_, rfl, rfl, rfl⟩, ⟨_, rfl, rfl, rfl⟩, ⟨_, rfl, rfl, rfl⟩, ⟨_, rfl, rfl, rfl⟩, ⟨_, rfl, rfl, rfl⟩, ⟨_, rfl, rfl, rfl⟩, ⟨_, rfl, rfl, rfl⟩, ⟨_, rfl, rfl, rfl⟩, ⟨_, rfl, rfl, rfl⟩, trivial⟩, ⟨⟨_, _, rfl, rfl, rfl, rfl⟩, ⟨_, _, rfl, rfl, rfl, rfl⟩, ⟨_, _, rfl, rfl, rfl, rfl⟩, ⟨_, _, rfl, rfl, rfl, rfl⟩, trivial⟩, by rw [hk]; decide⟩⟩
                          ·
                            refine ⟨by omega, ?_⟩
                            first | (rw [any_next _ he4, ← hsm]; simp [g20, g21]; done) | (rw [any_next _ he4, ← hsm]; simp [g20]; done) | (rw [any_next _ he7, ← hsm]; simp [g37, g38]; done) | (rw [any_next _ he7, ← hsm]; simp [g37]; done)
                          · omega
                      ·
                        have c27_ := c27
                        try simp only [decide_eq_true_eq, decide_eq_false_iff_not, Bool.not_eq_true', Bool.not_eq_false', Bool.not_true, Bool.not_false, Bool.not_eq_eq_eq_not, Int.not_lt, Int.not_le] at c27
                        refine w_exit ?_
                        refine q_then_exit ?_
                        refine q_then_exit ?_
                        refine q_block_exit ?_
                        refine q_then ?_
                        have hsme : sm = fw.any (fun f => decide (f.at_ ≤ i2) && decide (i2 < f.at_ + f.count)) := by rw [hsm, List.take_of_length_le (by omega)]
                        refine w_R ?_
                        refine r_op tabOk hnt rfl (s_move rfl ?_) 
                        refine r_op tabOk hnt rfl (s_move rfl ?_) 
                        refine r_if tabOk hnt rfl rfl rfl (fun g22 => ?_) (fun g22 => ?_)
                        ·
                          have g22' := g22
                          try simp only [decide_eq_true_eq, decide_eq_false_iff_not, Bool.not_eq_true', Bool.not_eq_false', Bool.not_true, Bool.not_false, Bool.not_eq_eq_eq_not, Int.not_lt, Int.not_le] at g22'
                          refine r_op tabOk hnt rfl (s_move rfl ?_) 
                          refine r_op tabOk hnt rfl (s_pick_t rfl g22 rfl ?_) 
                          refine r_op tabOk hnt rfl (s_assign rfl ?_) 
                          refine r_end ?_
                          refine q_block ?_
                          refine q_then ?_
                          refine w_R ?_
                          refine r_op tabOk hnt rfl (s_move rfl ?_) 
                          refine r_op tabOk hnt rfl (s_addi (r := i2 + 1) rfl rfl rfl (by omega) ?_) 
                          refine r_op tabOk hnt rfl (s_assign rfl ?_) 
                          refine r_end ?_
                          refine q_then ?_
                          refine ⟨(sm), (i2 + 1), ?_, ?_, ⟨[(0, 0), (1, 1), (2, 2), (3, 3)], by rw [hk]; decide, ⟨⟨_, rfl, rfl, rfl⟩, ⟨_, rfl, rfl, rfl⟩, ⟨_, rfl, rfl, rfl⟩, ⟨_, rfl, rfl, rfl⟩, ⟨_, rfl, rfl, rfl⟩, ⟨_, rfl, rfl, rfl⟩, ⟨_, rfl, rfl, rfl⟩, ⟨_, rfl, rfl, rfl⟩, ⟨_, rfl, rfl, rfl⟩, ⟨_, rfl, rfl, rfl⟩, ⟨_, rfl, rfl, rfl⟩, trivial⟩, ⟨⟨_, _, rfl, rfl, rfl, rfl⟩, ⟨_, _, rfl, rfl, rfl, rfl⟩, ⟨_, _, rfl, rfl, rfl, rfl⟩, ⟨_, _, rfl, rfl, rfl, rfl⟩, trivial⟩, by rw [hk]; decide⟩⟩
                          ·
                            refine ⟨by omega, by omega, ?_⟩
                            rw [← whole_next hwh hw1, ← hsme]
                            first | (simp [g22]; done) | (simp [g39]; done)
                          · omega
                        ·
                          have g22' := g22
                          try simp only [decide_eq_true_eq, decide_eq_false_iff_not, Bool.not_eq_true', Bool.not_eq_false', Bool.not_true, Bool.not_false, Bool.not_eq_eq_eq_not, Int.not_lt, Int.not_le] at g22'
                          refine r_op tabOk hnt rfl (s_pick_f rfl g22 rfl ?_) 
                          refine r_op tabOk hnt rfl (s_assign rfl ?_) 
                          refine r_end ?_
                          refine q_block ?_
                          refine q_then ?_
                          refine w_R ?_
                          refine r_op tabOk hnt rfl (s_move rfl ?_) 
                          refine r_op tabOk hnt rfl (s_addi (r := i2 + 1) rfl rfl rfl (by omega) ?_) 
                          refine r_op tabOk hnt rfl (s_assign rfl ?_) 
                          refine r_end ?_
                          refine q_then ?_
                          refine ⟨(false), (i2 + 1), ?_, ?_, ⟨[(0, 0), (1, 1), (2, 2), (3, 3)], by rw [hk]; decide, ⟨⟨_, rfl, rfl, rfl⟩, ⟨_, rfl, rfl, rfl⟩, ⟨_, rfl, rfl, rfl⟩, ⟨_, rfl, rfl, rfl⟩, ⟨_, rfl, rfl, rfl⟩, ⟨_, rfl, rfl, rfl⟩, ⟨_, rfl, rfl, rfl⟩, ⟨_, rfl, rfl, rfl⟩, ⟨_, rfl, rfl, rfl⟩, ⟨_, rfl, rfl, rfl⟩, ⟨_, rfl, rfl, rfl⟩, trivial⟩, ⟨⟨_, _, rfl, rfl, rfl, rfl⟩, ⟨_, _, rfl, rfl, rfl, rfl⟩, ⟨_, _, rfl, rfl, rfl, rfl⟩, ⟨_, _, rfl, rfl, rfl, rfl⟩, trivial⟩, by rw [hk]; decide⟩⟩
                          ·
                            refine ⟨by omega, by omega, ?_⟩
                            rw [← whole_next hwh hw1, ← hsme]
                            first | (simp [g22]; done) | (simp [g39]; done)
                          · omega
                  ·
                    have c26_ := c26
                    try simp only [decide_eq_true_eq, decide_eq_false_iff_not, Bool.not_eq_true', Bool.not_eq_false', Bool.not_true, Bool.not_false, Bool.not_eq_eq_eq_not, Int.not_lt, Int.not_le] at c26
                    refine w_exit ?_
                    refine q_then_exit ?_
                    refine q_then_exit ?_
                    refine q_block_exit ?_
                    refine q_then ?_
                    refine w_seq ?_
                    have hi2 : i2 = x.at_ + x.count := by omega
                    rw [hi2] at hwh
                    have hcw := cover_whole xok hfw hwh
                    refine w_R ?_
                    refine r_op tabOk hnt rfl (s_move rfl ?_) 
                    refine r_op tabOk hnt rfl (s_move rfl ?_) 
                    refine r_op tabOk hnt rfl (s_gtr rfl rfl ?_) 
                    refine r_op tabOk hnt rfl (s_eqbool tab_4 rfl rfl rfl ?_) 
                    refine r_op tabOk hnt rfl (s_move rfl ?_) 
                    refine r_if tabOk hnt rfl rfl rfl (fun g23 => ?_) (fun g23 => ?_)
                    ·
                      have g23' := g23
                      try simp only [decide_eq_true_eq, decide_eq_false_iff_not, Bool.not_eq_true', Bool.not_eq_false', Bool.not_true, Bool.not_false, Bool.not_eq_eq_eq_not, Int.not_lt, Int.not_le] at g23'
                      refine r_op tabOk hnt rfl (s_move rfl ?_) 
                      refine r_if tabOk hnt rfl rfl rfl (fun _ => ?_) (fun e => absurd (e.symm.trans g23) (by decide))
                      refine r_op tabOk hnt rfl (s_not rfl ?_) 
                      refine r_if tabOk hnt rfl rfl rfl (fun _ => ?_) (fun e => absurd (e.symm.trans g23) (by decide))
                      refine r_op tabOk hnt rfl (s_move rfl ?_) 
                      refine r_if tabOk hnt rfl rfl rfl (fun g24 => ?_) (fun g24 => ?_)
                      ·
                        have g24' := g24
                        try simp only [decide_eq_true_eq, decide_eq_false_iff_not, Bool.not_eq_true', Bool.not_eq_false', Bool.not_true, Bool.not_false, Bool.not_eq_eq_eq_not, Int.not_lt, Int.not_le] at g24'
                        refine r_op tabOk hnt rfl (s_fa_ptr tab_53 rfl rfl tab_3 (by decide) rfl ?_) 
                        refine r_if tabOk hnt rfl rfl rfl (fun _ => ?_) (fun e => absurd (e.symm.trans g24) (by decide))
                        refine r_op tabOk hnt rfl (s_load_ptr1 tab_3 rfl rfl rfl rfl rfl ?_) 
                        refine r_if tabOk hnt rfl rfl rfl (fun _ => ?_) (fun e => absurd (e.symm.trans g24) (by decide))
                        refine r_op tabOk hnt rfl (s_move rfl ?_) 
                        refine r_if tabOk hnt rfl rfl rfl (fun _ => ?_) (fun e => absurd (e.symm.trans g24) (by decide))
                        refine r_op tabOk hnt rfl (s_eql rfl rfl ?_) 
                        refine r_if tabOk hnt rfl rfl rfl (fun _ => ?_) (fun e => absurd (e.symm.trans g23) (by decide))
                        refine r_op tabOk hnt rfl (s_pick_f rfl g24 rfl ?_) 
                        refine r_op tabOk hnt rfl (s_pick_t rfl g23 rfl ?_) 
                        refine r_op tabOk hnt rfl (s_move rfl ?_) 
                        refine r_if tabOk hnt rfl rfl rfl (fun g25 => ?_) (fun g25 => ?_)
                        ·
                          have g25' := g25
                          try simp only [decide_eq_true_eq, decide_eq_false_iff_not, Bool.not_eq_true', Bool.not_eq_false', Bool.not_true, Bool.not_false, Bool.not_eq_eq_eq_not, Int.not_lt, Int.not_le] at g25'
                          refine r_op tabOk hnt rfl (s_load_ptr tab_53 rfl rfl rfl (Nat.le_of_ble_eq_true rfl) ?_) 
                          refine r_if tabOk hnt rfl rfl rfl (fun _ => ?_) (fun e => absurd (e.symm.trans g25) (by decide))
                          refine r_op tabOk hnt rfl (s_load_ptr tab_53 rfl rfl rfl (Nat.le_of_ble_eq_true rfl) ?_) 
                          refine r_if tabOk hnt rfl rfl rfl (fun _ => ?_) (fun e => absurd (e.symm.trans g25) (by decide))
                          refine r_op tabOk hnt rfl (s_callF rfl rfl rfl (w_span_In x y) rfl ?_) 
                          refine r_if tabOk hnt rfl rfl rfl (fun _ => ?_) (fun e => absurd (e.symm.trans g25) (by decide))
                          refine r_op tabOk hnt rfl (s_move rfl ?_) 
                          refine r_if tabOk hnt rfl rfl rfl (fun _ => ?_) (fun e => absurd (e.symm.trans g25) (by decide))
                          refine r_op tabOk hnt rfl (s_eqbool tab_4 rfl rfl rfl ?_) 
                          refine r_op tabOk hnt rfl (s_pick_t rfl g25 rfl ?_) 
                          refine r_op tabOk hnt rfl (s_move rfl ?_) 
                          refine r_if tabOk hnt rfl rfl rfl (fun g26 => ?_) (fun g26 => ?_)
                          ·
                            have g26' := g26
                            try simp only [decide_eq_true_eq, decide_eq_false_iff_not, Bool.not_eq_true', Bool.not_eq_false', Bool.not_true, Bool.not_false, Bool.not_eq_eq_eq_not, Int.not_lt, Int.not_le] at g26'
                            refine r_op tabOk hnt rfl (s_move rfl ?_) 
                            refine r_if tabOk hnt rfl rfl rfl (fun _ => ?_) (fun e => absurd (e.symm.trans g26) (by decide))
                            refine r_op tabOk hnt rfl (s_move rfl ?_) 
                            refine r_if tabOk hnt rfl rfl rfl (fun _ => ?_) (fun e => absurd (e.symm.trans g26) (by decide))
                            refine r_op tabOk hnt rfl (s_eqbool tab_4 rfl rfl rfl ?_) 
                            refine r_op tabOk hnt rfl (s_pick_t rfl g26 rfl ?_) 
                            refine r_op tabOk hnt rfl (s_move rfl ?_) 
                            refine r_if tabOk hnt rfl rfl rfl (fun g27 => ?_) (fun g27 => ?_)
                            ·
                              have g27' := g27
                              try simp only [decide_eq_true_eq, decide_eq_false_iff_not, Bool.not_eq_true', Bool.not_eq_false', Bool.not_true, Bool.not_false, Bool.not_eq_eq_eq_not, Int.not_lt, Int.not_le] at g27'
                              refine r_op tabOk hnt rfl (s_move rfl ?_) 
                              refine r_if tabOk hnt rfl rfl rfl (fun _ => ?_) (fun e => absurd (e.symm.trans g27) (by decide))
                              refine r_op tabOk hnt rfl (s_not rfl ?_) 
                              refine r_if tabOk hnt rfl rfl rfl (fun _ => ?_) (fun e => absurd (e.symm.trans g27) (by decide))
                              refine r_op tabOk hnt rfl (s_move rfl ?_) 
                              refine r_if tabOk hnt rfl rfl rfl (fun g28 => ?_) (fun g28 => ?_)
                              ·
                                have g28' := g28
                                try simp only [decide_eq_true_eq, decide_eq_false_iff_not, Bool.not_eq_true', Bool.not_eq_false', Bool.not_true, Bool.not_false, Bool.not_eq_eq_eq_not, Int.not_lt, Int.not_le] at g28'
                                refine r_op tabOk hnt rfl (s_move rfl ?_) 
                                refine r_if tabOk hnt rfl rfl rfl (fun _ => ?_) (fun e => absurd (e.symm.trans g28) (by decide))
                                refine r_op tabOk hnt rfl (s_fa_ptr tab_53 rfl rfl tab_3 (by decide) rfl ?_) 
                                refine r_if tabOk hnt rfl rfl rfl (fun _ => ?_) (fun e => absurd (e.symm.trans g28) (by decide))
                                refine r_op tabOk hnt rfl (s_load_ptr1 tab_3 rfl rfl rfl rfl rfl ?_) 
                                refine r_if tabOk hnt rfl rfl rfl (fun _ => ?_) (fun e => absurd (e.symm.trans g28) (by decide))
                                refine r_op tabOk hnt rfl (s_fa_ptr tab_53 rfl rfl tab_3 (by decide) rfl ?_) 
                                refine r_if tabOk hnt rfl rfl rfl (fun _ => ?_) (fun e => absurd (e.symm.trans g28) (by decide))
                                refine r_op tabOk hnt rfl (s_load_ptr1 tab_3 rfl rfl rfl rfl rfl ?_) 
                                refine r_if tabOk hnt rfl rfl rfl (fun _ => ?_) (fun e => absurd (e.symm.trans g28) (by decide))
                                refine r_op tabOk hnt rfl (s_addi (r := x.at_ + x.count) rfl rfl rfl (by omega) ?_) 
                                refine r_if tabOk hnt rfl rfl rfl (fun _ => ?_) (fun e => absurd (e.symm.trans g28) (by decide))
                                refine r_op tabOk hnt rfl (s_eql rfl rfl ?_) 
                                refine r_if tabOk hnt rfl rfl rfl (fun _ => ?_) (fun e => absurd (e.symm.trans g27) (by decide))
                                refine r_op tabOk hnt rfl (s_pick_f rfl g28 rfl ?_) 
                                refine r_op tabOk hnt rfl (s_pick_t rfl g27 rfl ?_) 
                                refine r_op tabOk hnt rfl (s_move rfl ?_) 
                                refine r_if tabOk hnt rfl rfl rfl (fun g29 => ?_) (fun g29 => ?_)
                                ·
                                  have g29' := g29
                                  try simp only [decide_eq_true_eq, decide_eq_false_iff_not, Bool.not_eq_true', Bool.not_eq_false', Bool.not_true, Bool.not_false, Bool.not_eq_eq_eq_not, Int.not_lt, Int.not_le] at g29'
                                  refine r_op tabOk hnt rfl (s_callF rfl rfl rfl (w_burgagelaw7_known) rfl ?_) 
                                  refine r_op tabOk hnt rfl (s_pick_t rfl g29 rfl ?_) 
                                  refine r_op tabOk hnt rfl (s_assign rfl ?_) 
                                  refine r_set [(6, pB true)] [(0, .obj [pI x.at_, pI x.count]), (1, .obj [pI y.at_, pI y.count]), (2, .obj [pI ((meetV x y).at_), pI ((meetV x y).count)]), (3, oB false 2 eSpan fw)] 4 ⟨rfl, trivial⟩ rfl rfl ?_
                                  refine r_end ?_
                                  refine q_then ?_
                                  refine w_ret ?_
                                  exact fin_plain (ret_tmp rfl ret_nil) rfl rfl ⟨rfl, rfl, rfl⟩
                                ·
                                  exact absurd g29 (by first | (simp [hsum (by simpa using g28)]; done) | (simp [hsum (by simpa using g32)]; done) | (simp [hsum (by simpa using g45)]; done) | (simp [hsum (by simpa using g49)]; done))
                              ·
                                have g28' := g28
                                try simp only [decide_eq_true_eq, decide_eq_false_iff_not, Bool.not_eq_true', Bool.not_eq_false', Bool.not_true, Bool.not_false, Bool.not_eq_eq_eq_not, Int.not_lt, Int.not_le] at g28'
                                refine r_if tabOk hnt rfl rfl rfl (fun e => absurd (e.symm.trans g28) (by decide)) (fun _ => ?_)
                                refine r_if tabOk hnt rfl rfl rfl (fun e => absurd (e.symm.trans g28) (by decide)) (fun _ => ?_)
                                refine r_if tabOk hnt rfl rfl rfl (fun e => absurd (e.symm.trans g28) (by decide)) (fun _ => ?_)
                                refine r_if tabOk hnt rfl rfl rfl (fun e => absurd (e.symm.trans g28) (by decide)) (fun _ => ?_)
                                refine r_if tabOk hnt rfl rfl rfl (fun e => absurd (e.symm.trans g28) (by decide)) (fun _ => ?_)
                                refine r_if tabOk hnt rfl rfl rfl (fun e => absurd (e.symm.trans g28) (by decide)) (fun _ => ?_)
                                refine r_if tabOk hnt rfl rfl rfl (fun _ => ?_) (fun e => absurd (e.symm.trans g27) (by decide))
                                refine r_op tabOk hnt rfl (s_pick_t rfl g28 rfl ?_) 
                                refine r_op tabOk hnt rfl (s_pick_t rfl g27 rfl ?_) 
                                refine r_op tabOk hnt rfl (s_move rfl ?_) 
                                refine r_if tabOk hnt rfl rfl rfl (fun _ => ?_) (fun e => absurd e (by decide))
                                refine r_op tabOk hnt rfl (s_callF rfl rfl rfl (w_burgagelaw7_known) rfl ?_) 
                                refine r_op tabOk hnt rfl (s_pick_t rfl rfl rfl ?_) 
                                refine r_op tabOk hnt rfl (s_assign rfl ?_) 
                                refine r_set [(6, pB true)] [(0, .obj [pI x.at_, pI x.count]), (1, .obj [pI y.at_, pI y.count]), (2, .obj [pI ((meetV x y).at_), pI ((meetV x y).count)]), (3, oB false 2 eSpan fw)] 4 ⟨rfl, trivial⟩ rfl rfl ?_
                                refine r_end ?_
                                refine q_then ?_
                                refine w_ret ?_
                                exact fin_plain (ret_tmp rfl ret_nil) rfl rfl ⟨rfl, rfl, rfl⟩
                            ·
                              exact absurd g27 (by simp [hcw])
                          ·
                            exact absurd g26 (by simp [hae])
                        ·
                          exact absurd g25 (by first | (simp [hen.2 (by simpa using g24)]; done) | (simp [hen.2 (by simpa using g41)]; done))
                      ·
                        have g24' := g24
                        try simp only [decide_eq_true_eq, decide_eq_false_iff_not, Bool.not_eq_true', Bool.not_eq_false', Bool.not_true, Bool.not_false, Bool.not_eq_eq_eq_not, Int.not_lt, Int.not_le] at g24'
                        refine r_if tabOk hnt rfl rfl rfl (fun e => absurd (e.symm.trans g24) (by decide)) (fun _ => ?_)
                        refine r_if tabOk hnt rfl rfl rfl (fun e => absurd (e.symm.trans g24) (by decide)) (fun _ => ?_)
                        refine r_if tabOk hnt rfl rfl rfl (fun e => absurd (e.symm.trans g24) (by decide)) (fun _ => ?_)
                        refine r_if tabOk hnt rfl rfl rfl (fun _ => ?_) (fun e => absurd (e.symm.trans g23) (by decide))
                        refine r_op tabOk hnt rfl (s_pick_t rfl g24 rfl ?_) 
                        refine r_op tabOk hnt rfl (s_pick_t rfl g23 rfl ?_) 
                        refine r_op tabOk hnt rfl (s_move rfl ?_) 
                        refine r_if tabOk hnt rfl rfl rfl (fun _ => ?_) (fun e => absurd e (by decide))
                        refine r_op tabOk hnt rfl (s_load_ptr tab_53 rfl rfl rfl (Nat.le_of_ble_eq_true rfl) ?_) 
                        refine r_if tabOk hnt rfl rfl rfl (fun _ => ?_) (fun e => absurd e (by decide))
                        refine r_op tabOk hnt rfl (s_load_ptr tab_53 rfl rfl rfl (Nat.le_of_ble_eq_true rfl) ?_) 
                        refine r_if tabOk hnt rfl rfl rfl (fun _ => ?_) (fun e => absurd e (by decide))
                        refine r_op tabOk hnt rfl (s_callF rfl rfl rfl (w_span_In x y) rfl ?_) 
                        refine r_if tabOk hnt rfl rfl rfl (fun _ => ?_) (fun e => absurd e (by decide))
                        refine r_op tabOk hnt rfl (s_move rfl ?_) 
                        refine r_if tabOk hnt rfl rfl rfl (fun _ => ?_) (fun e => absurd e (by decide))
                        refine r_op tabOk hnt rfl (s_eqbool tab_4 rfl rfl rfl ?_) 
                        refine r_op tabOk hnt rfl (s_pick_t rfl rfl rfl ?_) 
                        refine r_op tabOk hnt rfl (s_move rfl ?_) 
                        refine r_if tabOk hnt rfl rfl rfl (fun g30 => ?_) (fun g30 => ?_)
                        ·
                          have g30' := g30
                          try simp only [decide_eq_true_eq, decide_eq_false_iff_not, Bool.not_eq_true', Bool.not_eq_false', Bool.not_true, Bool.not_false, Bool.not_eq_eq_eq_not, Int.not_lt, Int.not_le] at g30'
                          refine r_op tabOk hnt rfl (s_move rfl ?_) 
                          refine r_if tabOk hnt rfl rfl rfl (fun _ => ?_) (fun e => absurd (e.symm.trans g30) (by decide))
                          refine r_op tabOk hnt rfl (s_move rfl ?_) 
                          refine r_if tabOk hnt rfl rfl rfl (fun _ => ?_) (fun e => absurd (e.symm.trans g30) (by decide))
                          refine r_op tabOk hnt rfl (s_eqbool tab_4 rfl rfl rfl ?_) 
                          refine r_op tabOk hnt rfl (s_pick_t rfl g30 rfl ?_) 
                          refine r_op tabOk hnt rfl (s_move rfl ?_) 
                          refine r_if tabOk hnt rfl rfl rfl (fun g31 => ?_) (fun g31 => ?_)
                          ·
                            have g31' := g31
                            try simp only [decide_eq_true_eq, decide_eq_false_iff_not, Bool.not_eq_true', Bool.not_eq_false', Bool.not_true, Bool.not_false, Bool.not_eq_eq_eq_not, Int.not_lt, Int.not_le] at g31'
                            refine r_op tabOk hnt rfl (s_move rfl ?_) 
                            refine r_if tabOk hnt rfl rfl rfl (fun _ => ?_) (fun e => absurd (e.symm.trans g31) (by decide))
                            refine r_op tabOk hnt rfl (s_not rfl ?_) 
                            refine r_if tabOk hnt rfl rfl rfl (fun _ => ?_) (fun e => absurd (e.symm.trans g31) (by decide))
                            refine r_op tabOk hnt rfl (s_move rfl ?_) 
                            refine r_if tabOk hnt rfl rfl rfl (fun g32 => ?_) (fun g32 => ?_)
                            ·
                              have g32' := g32
                              try simp only [decide_eq_true_eq, decide_eq_false_iff_not, Bool.not_eq_true', Bool.not_eq_false', Bool.not_true, Bool.not_false, Bool.not_eq_eq_eq_not, Int.not_lt, Int.not_le] at g32'
                              refine r_op tabOk hnt rfl (s_move rfl ?_) 
                              refine r_if tabOk hnt rfl rfl rfl (fun _ => ?_) (fun e => absurd (e.symm.trans g32) (by decide))
                              refine r_op tabOk hnt rfl (s_fa_ptr tab_53 rfl rfl tab_3 (by decide) rfl ?_) 
                              refine r_if tabOk hnt rfl rfl rfl (fun _ => ?_) (fun e => absurd (e.symm.trans g32) (by decide))
                              refine r_op tabOk hnt rfl (s_load_ptr1 tab_3 rfl rfl rfl rfl rfl ?_) 
                              refine r_if tabOk hnt rfl rfl rfl (fun _ => ?_) (fun e => absurd (e.symm.trans g32) (by decide))
                              refine r_op tabOk hnt rfl (s_fa_ptr tab_53 rfl rfl tab_3 (by decide) rfl ?_) 
                              refine r_if tabOk hnt rfl rfl rfl (fun _ => ?_) (fun e => absurd (e.symm.trans g32) (by decide))
                              refine r_op tabOk hnt rfl (s_load_ptr1 tab_3 rfl rfl rfl rfl rfl ?_) 
                              refine r_if tabOk hnt rfl rfl rfl (fun _ => ?_) (fun e => absurd (e.symm.trans g32) (by decide))
                              refine r_op tabOk hnt rfl (s_addi (r := x.at_ + x.count) rfl rfl rfl (by omega) ?_) 
                              refine r_if tabOk hnt rfl rfl rfl (fun _ => ?_) (fun e => absurd (e.symm.trans g32) (by decide))
                              refine r_op tabOk hnt rfl (s_eql rfl rfl ?_) 
                              refine r_if tabOk hnt rfl rfl rfl (fun _ => ?_) (fun e => absurd (e.symm.trans g31) (by decide))
                              refine r_op tabOk hnt rfl (s_pick_f rfl g32 rfl ?_) 
                              refine r_op tabOk hnt rfl (s_pick_t rfl g31 rfl ?_) 
                              refine r_op tabOk hnt rfl (s_move rfl ?_) 
                              refine r_if tabOk hnt rfl rfl rfl (fun g33 => ?_) (fun g33 => ?_)
                              ·
                                have g33' := g33
                                try simp only [decide_eq_true_eq, decide_eq_false_iff_not, Bool.not_eq_true', Bool.not_eq_false', Bool.not_true, Bool.not_false, Bool.not_eq_eq_eq_not, Int.not_lt, Int.not_le] at g33'
                                refine r_op tabOk hnt rfl (s_callF rfl rfl rfl (w_burgagelaw7_known) rfl ?_) 
                                refine r_op tabOk hnt rfl (s_pick_t rfl g33 rfl ?_) 
                                refine r_op tabOk hnt rfl (s_assign rfl ?_) 
                                refine r_set [(6, pB true)] [(0, .obj [pI x.at_, pI x.count]), (1, .obj [pI y.at_, pI y.count]), (2, .obj [pI ((meetV x y).at_), pI ((meetV x y).count)]), (3, oB false 2 eSpan fw)] 4 ⟨rfl, trivial⟩ rfl rfl ?_
                                refine r_end ?_
                                refine q_then ?_
                                refine w_ret ?_
                                exact fin_plain (ret_tmp rfl ret_nil) rfl rfl ⟨rfl, rfl, rfl⟩
                              ·
                                exact absurd g33 (by first | (simp [hsum (by simpa using g28)]; done) | (simp [hsum (by simpa using g32)]; done) | (simp [hsum (by simpa using g45)]; done) | (simp [hsum (by simpa using g49)]; done))
                            ·
                              have g32' := g32
                              try simp only [decide_eq_true_eq, decide_eq_false_iff_not, Bool.not_eq_true', Bool.not_eq_false', Bool.not_true, Bool.not_false, Bool.not_eq_eq_eq_not, Int.not_lt, Int.not_le] at g32'
                              refine r_if tabOk hnt rfl rfl rfl (fun e => absurd (e.symm.trans g32) (by decide)) (fun _ => ?_)
                              refine r_if tabOk hnt rfl rfl rfl (fun e => absurd (e.symm.trans g32) (by decide)) (fun _ => ?_)
                              refine r_if tabOk hnt rfl rfl rfl (fun e => absurd (e.symm.trans g32) (by decide)) (fun _ => ?_)
                              refine r_if tabOk hnt rfl rfl rfl (fun e => absurd (e.symm.trans g32) (by decide)) (fun _ => ?_)
                              refine r_if tabOk hnt rfl rfl rfl (fun e => absurd (e.symm.trans g32) (by decide)) (fun _ => ?_)
                              refine r_if tabOk hnt rfl rfl rfl (fun e => absurd (e.symm.trans g32) (by decide)) (fun _ => ?_)
                              refine r_if tabOk hnt rfl rfl rfl (fun _ => ?_) (fun e => absurd (e.symm.trans g31) (by decide))
                              refine r_op tabOk hnt rfl (s_pick_t rfl g32 rfl ?_) 
                              refine r_op tabOk hnt rfl (s_pick_t rfl g31 rfl ?_) 
                              refine r_op tabOk hnt rfl (s_move rfl ?_) 
                              refine r_if tabOk hnt rfl rfl rfl (fun _ => ?_) (fun e => absurd e (by decide))
                              refine r_op tabOk hnt rfl (s_callF rfl rfl rfl (w_burgagelaw7_known) rfl ?_) 
                              refine r_op tabOk hnt rfl (s_pick_t rfl rfl rfl ?_) 
                              refine r_op tabOk hnt rfl (s_assign rfl ?_) 
                              refine r_set [(6, pB true)] [(0, .obj [pI x.at_, pI x.count]), (1, .obj [pI y.at_, pI y.count]), (2, .obj [pI ((meetV x y).at_), pI ((meetV x y).count)]), (3, oB false 2 eSpan fw)] 4 ⟨rfl, trivial⟩ rfl rfl ?_
                              refine r_end ?_
                              refine q_then ?_
                              refine w_ret ?_
                              exact fin_plain (ret_tmp rfl ret_nil) rfl rfl ⟨rfl, rfl, rfl⟩
                          ·
                            exact absurd g31 (by simp [hcw])
                        ·
                          exact absurd g30 (by simp [hae])
                    ·
                      exact absurd g23 (by simp [hen1])
        ·
          have g16' := g16
          try simp only [decide_eq_true_eq, decide_eq_false_iff_not, Bool.not_eq_true', Bool.not_eq_false', Bool.not_true, Bool.not_false, Bool.not_eq_eq_eq_not, Int.not_lt, Int.not_le] at g16'
          refine r_if tabOk hnt rfl rfl rfl (fun e => absurd (e.symm.trans g16) (by decide)) (fun _ => ?_)
          refine r_op tabOk hnt rfl (s_pick_f rfl g16 rfl ?_) 
          refine r_end ?_
          refine q_then ?_
          refine w_if rfl (fun e => absurd e (by decide)) (fun _ => ?_)
          refine w_exit ?_
          refine q_then_exit ?_
          refine q_then_exit ?_
          refine q_block_exit ?_
          refine q_then ?_
          refine w_seq ?_
          refine w_R ?_
          refine r_op tabOk hnt rfl (s_move rfl ?_) 
          refine r_op tabOk hnt rfl (s_load_ptr tab_53 rfl rfl rfl (Nat.le_of_ble_eq_true rfl) ?_) 
          refine r_op tabOk hnt rfl (s_callX (r2 := PV.tup [pS 2 false eSpan (coverV fw x), pB (coverOk fw x)]) (nx1 := 4) (H2 := [(0, oB false 2 eSpan fw), (1, .obj [pI x.at_, pI x.count]), (2, .obj [pI y.at_, pI y.count]), (3, .obj [pI ((meetV x y).at_), pI ((meetV x y).count)])]) (H3 := [(0, oB false 2 eSpan fw), (1, .obj [pI x.at_, pI x.count]), (2, .obj [pI y.at_, pI y.count]), (3, .obj [pI ((meetV x y).at_), pI ((meetV x y).count)])]) [] [] rfl rfl rfl (handed_of (by decide) trivial) rfl rfl rfl rfl rfl rfl (w_span_Cover fw false x (by first | omega | assumption | (simp; omega) | decide | (simp; done))) rfl (dist_of rfl) rfl rfl rfl rfl ?_) 
          refine r_op tabOk hnt rfl (s_move rfl ?_) 
          refine r_op tabOk hnt rfl (s_extract rfl rfl ?_) 
          refine r_op tabOk hnt rfl (s_extract rfl rfl ?_) 
          refine r_op tabOk hnt rfl (s_assign rfl ?_) 
          refine r_op tabOk hnt rfl (s_assign rfl ?_) 
          refine r_set [(7, PV.ptr 1 0), (8, PV.ptr 2 0), (9, PV.ptr 3 0), (10, pB (meetOk x y)), (11, pI bo), (12, pB al), (15, PV.ref 0 0 none), (17, pS 2 false eSpan (coverV fw x)), (18, pB (coverOk fw x))] [(0, oB false 2 eSpan fw), (1, .obj [pI x.at_, pI x.count]), (2, .obj [pI y.at_, pI y.count]), (3, .obj [pI ((meetV x y).at_), pI ((meetV x y).count)])] 4 ⟨rfl, rfl, rfl, rfl, rfl, rfl, rfl, rfl, rfl, trivial⟩ rfl rfl ?_
          refine r_end ?_
          refine q_then ?_
          refine w_seq ?_
          have hcl := coverV_length fw x
          refine w_R ?_
          refine r_op tabOk hnt rfl (s_fa_ptr tab_53 rfl rfl tab_3 (by decide) rfl ?_) 
          refine r_op tabOk hnt rfl (s_load_ptr1 tab_3 rfl rfl rfl rfl rfl ?_) 
          refine r_op tabOk hnt rfl (s_assign rfl ?_) 
          refine r_end ?_
          refine q_then ?_
          refine w_seq ?_
          refine w_seq ?_
          refine w_R ?_
          refine r_op tabOk hnt rfl (s_move rfl ?_) 
          refine r_op tabOk hnt rfl (s_lenM (l := coverV fw x) tab_56 rfl (hM_sl (f := eSpan) rfl) ?_) 
          refine r_op tabOk hnt rfl (s_move rfl ?_) 
          refine r_end ?_
          refine q_then ?_
          refine w_block ?_
          refine loop2 (fun (v : Int) (p : Nat) => p ≤ (coverV fw x).length ∧ v = x.at_ + sumC ((coverV fw x).take p)) (fun (v : Int) (p : Nat) => [(7, PV.ptr 0 0), (8, PV.ptr 1 0), (9, PV.ptr 2 0), (10, pB (meetOk x y)), (11, pI bo), (12, pB al), (15, PV.ref 3 0 none), (18, pB (coverOk fw x)), (19, pI v), (136, pS 2 false eSpan (coverV fw x)), (137, pN ((coverV fw x).length)), (138, pN p)]) 4 (fun (v : Int) (p : Nat) => [(0, .obj [pI x.at_, pI x.count]), (1, .obj [pI y.at_, pI y.count]), (2, .obj [pI ((meetV x y).at_), pI ((meetV x y).count)]), (3, oB false 2 eSpan fw)]) (fun (v : Int) (p : Nat) => (coverV fw x).length - p) (x.at_) (0) ?_ ⟨[(0, 1), (1, 2), (2, 3), (3, 0)], by rw [hk]; decide, ⟨⟨_, rfl, rfl, rfl⟩, ⟨_, rfl, rfl, rfl⟩, ⟨_, rfl, rfl, rfl⟩, ⟨_, rfl, rfl, rfl⟩, ⟨_, rfl, rfl, rfl⟩, ⟨_, rfl, rfl, rfl⟩, ⟨_, rfl, rfl, rfl⟩, ⟨_, rfl, rfl, rfl⟩, ⟨_, rfl, rfl, rfl⟩, ⟨_, rfl, rfl, rfl⟩, ⟨_, rfl, rfl, rfl⟩, ⟨_, rfl, rfl, rfl⟩, trivial⟩, ⟨⟨_, _, rfl, rfl, rfl, rfl⟩, ⟨_, _, rfl, rfl, rfl, rfl⟩, ⟨_, _, rfl, rfl, rfl, rfl⟩, ⟨_, _, rfl, rfl, rfl, rfl⟩, trivial⟩, by rw [hk]; decide⟩ ?_
          · exact ⟨by omega, by simp [sumC]⟩
          ·
            intro v p hP
            obtain ⟨hp1, hpv⟩ := hP
            refine w_seq ?_
            refine w_R ?_
            refine r_op tabOk hnt rfl (s_lss rfl rfl ?_) 
            refine r_end ?_
            refine q_then ?_
            refine w_seq ?_
            refine w_if rfl (fun c28 => ?_) (fun c28 => ?_)
            ·
              have c28_ := c28
              try simp only [decide_eq_true_eq, decide_eq_false_iff_not, Bool.not_eq_true', Bool.not_eq_false', Bool.not_true, Bool.not_false, Bool.not_eq_eq_eq_not, Int.not_lt, Int.not_le] at c28
              refine w_skip ?_
              refine q_then ?_
              refine w_seq ?_
              refine w_block ?_
              refine w_seq ?_
              refine w_R ?_
              obtain ⟨e5, he5⟩ := get_of_lt (coverV fw x) (i := p) (by omega)
              refine r_op tabOk hnt rfl (s_iaM (q := p) (b := e5) (f := eSpan) tab_56 rfl tab_53 rfl rfl (by omega) rfl he5 ?_) 
              refine r_op tabOk hnt rfl (s_load_ro tab_53 rfl rfl rfl ?_) 
              refine r_op tabOk hnt rfl (s_alloc tab_53 ?_) 
              refine r_op tabOk hnt rfl (s_store_ptr tab_53 rfl rfl rfl rfl rfl (Nat.le_of_ble_eq_true rfl) ?_) 
              refine r_set [(7, PV.ptr 0 0), (8, PV.ptr 1 0), (9, PV.ptr 2 0), (10, pB (meetOk x y)), (11, pI bo), (12, pB al), (15, PV.ref 3 0 none), (18, pB (coverOk fw x)), (19, pI v), (21, PV.ptr 4 0), (136, pS 2 false eSpan (coverV fw x)), (137, pN ((coverV fw x).length)), (138, pN p)] [(4, .obj [pI e5.at_, pI e5.count]), (0, .obj [pI x.at_, pI x.count]), (1, .obj [pI y.at_, pI y.count]), (2, .obj [pI ((meetV x y).at_), pI ((meetV x y).count)]), (3, oB false 2 eSpan fw)] 5 ⟨rfl, rfl, rfl, rfl, rfl, rfl, rfl, rfl, rfl, rfl, rfl, rfl, rfl, trivial⟩ rfl rfl ?_
              refine r_end ?_
              refine q_then ?_
              refine w_seq ?_
              have hcp := cover_piece xok hfw he5
              have hpo := (spOk_iff _).1 (any_ok hcp.2.2.1)
              have hcp := cover_piece xok hfw he5
              have hpa : e5.at_ = v := by rw [hcp.1, hpv]
              have hpc : ¬ e5.count < 1 := by have := hcp.2.1; omega
              obtain ⟨pe, hpe⟩ : ∃ z : TSpan, z = e5 := ⟨_, rfl⟩
              refine w_R ?_
              refine r_op tabOk hnt rfl (s_assign rfl ?_) 
              refine r_end ?_
              refine q_then ?_
              refine w_seq ?_
              refine w_seq ?_
              refine w_R ?_
              refine r_op tabOk hnt rfl (s_move rfl ?_) 
              refine r_op tabOk hnt rfl (s_lenM (l := fw) tab_56 rfl (hM_ref0 (f := eSpan) rfl rfl) ?_) 
              refine r_op tabOk hnt rfl (s_move rfl ?_) 
              refine r_end ?_
              refine q_then ?_
              refine w_block ?_
              refine loop2 (fun (so : Bool) (q : Nat) => q ≤ fw.length ∧ so = (fw.take q).any (fun f => spIn pe f)) (fun (so : Bool) (q : Nat) => [(7, PV.ptr 0 0), (8, PV.ptr 1 0), (9, PV.ptr 2 0), (10, pB (meetOk x y)), (11, pI bo), (12, pB al), (15, PV.ref 3 0 none), (18, pB (coverOk fw x)), (19, pI v), (21, PV.ptr 4 0), (22, pB so), (136, pS 2 false eSpan (coverV fw x)), (137, pN ((coverV fw x).length)), (138, pN p), (142, PV.ref 3 0 none), (143, pN fw.length), (144, pN q)]) 5 (fun (so : Bool) (q : Nat) => [(0, .obj [pI x.at_, pI x.count]), (1, .obj [pI y.at_, pI y.count]), (2, .obj [pI ((meetV x y).at_), pI ((meetV x y).count)]), (3, oB false 2 eSpan fw), (4, .obj [pI e5.at_, pI e5.count])]) (fun (so : Bool) (q : Nat) => fw.length - q) (false) (0) ?_ ⟨[(0, 0), (1, 1), (2, 2), (3, 3), (4, 4)], by rw [hk]; decide, ⟨⟨_, rfl, rfl, rfl⟩, ⟨_, rfl, rfl, rfl⟩, ⟨_, rfl, rfl, rfl⟩, ⟨_, rfl, rfl, rfl⟩, ⟨_, rfl, rfl, rfl⟩, ⟨_, rfl, rfl, rfl⟩, ⟨_, rfl, rfl, rfl⟩, ⟨_, rfl, rfl, rfl⟩, ⟨_, rfl, rfl, rfl⟩, ⟨_, rfl, rfl, rfl⟩, ⟨_, rfl, rfl, rfl⟩, ⟨_, rfl, rfl, rfl⟩, ⟨_, rfl, rfl, rfl⟩, ⟨_, rfl, rfl, rfl⟩, ⟨_, rfl, rfl, rfl⟩, ⟨_, rfl, rfl, rfl⟩, ⟨_, rfl, rfl, rfl⟩, trivial⟩, ⟨⟨_, _, rfl, rfl, rfl, rfl⟩, ⟨_, _, rfl, rfl, rfl, rfl⟩, ⟨_, _, rfl, rfl, rfl, rfl⟩, ⟨_, _, rfl, rfl, rfl, rfl⟩, ⟨_, _, rfl, rfl, rfl, rfl⟩, trivial⟩, by rw [hk]; decide⟩ ?_
              · exact ⟨by omega, by simp⟩
              ·
                intro so q hQ
                obtain ⟨hq1, hso⟩ := hQ
                refine w_seq ?_
                refine w_R ?_
                refine r_op tabOk hnt rfl (s_lss rfl rfl ?_) 
                refine r_end ?_
                refine q_then ?_
                refine w_seq ?_
                refine w_if rfl (fun c29 => ?_) (fun c29 => ?_)
                ·
                  have c29_ := c29
                  try simp only [decide_eq_true_eq, decide_eq_false_iff_not, Bool.not_eq_true', Bool.not_eq_false', Bool.not_true, Bool.not_false, Bool.not_eq_eq_eq_not, Int.not_lt, Int.not_le] at c29
                  refine w_skip ?_
                  refine q_then ?_
                  refine w_seq ?_
                  refine w_block ?_
                  refine w_seq ?_
                  refine w_R ?_
                  refine r_op tabOk hnt rfl (s_iaR0 (q := q) (f := eSpan) (l := fw) tab_56 rfl tab_53 rfl rfl (by omega) rfl rfl (by omega) ?_) 
                  obtain ⟨e6, he6⟩ := get_of_lt fw (i := q) (by omega)
                  refine r_op tabOk hnt rfl (s_ldA (b := e6) tab_53 rfl rfl rfl he6 rfl rfl ?_) 
                  refine r_op tabOk hnt rfl (s_alloc tab_53 ?_) 
                  refine r_op tabOk hnt rfl (s_store_ptr tab_53 rfl rfl rfl rfl rfl (Nat.le_of_ble_eq_true rfl) ?_) 
                  refine r_set [(7, PV.ptr 0 0), (8, PV.ptr 1 0), (9, PV.ptr 2 0), (10, pB (meetOk x y)), (11, pI bo), (12, pB al), (15, PV.ref 3 0 none), (18, pB (coverOk fw x)), (19, pI v), (21, PV.ptr 4 0), (22, pB so), (24, PV.ptr 5 0), (136, pS 2 false eSpan (coverV fw x)), (137, pN ((coverV fw x).length)), (138, pN p), (142, PV.ref 3 0 none), (143, pN fw.length), (144, pN q)] [(5, .obj [pI e6.at_, pI e6.count]), (0, .obj [pI x.at_, pI x.count]), (1, .obj [pI y.at_, pI y.count]), (2, .obj [pI ((meetV x y).at_), pI ((meetV x y).count)]), (3, oB false 2 eSpan fw), (4, .obj [pI e5.at_, pI e5.count])] 6 ⟨rfl, rfl, rfl, rfl, rfl, rfl, rfl, rfl, rfl, rfl, rfl, rfl, rfl, rfl, rfl, rfl, rfl, rfl, trivial⟩ rfl rfl ?_
                  refine r_end ?_
                  refine q_then ?_
                  refine w_R ?_
                  refine r_op tabOk hnt rfl (s_move rfl ?_) 
                  refine r_op tabOk hnt rfl (s_move rfl ?_) 
                  refine r_if tabOk hnt rfl rfl rfl (fun g34 => ?_) (fun g34 => ?_)
                  ·
                    have g34' := g34
                    try simp only [decide_eq_true_eq, decide_eq_false_iff_not, Bool.not_eq_true', Bool.not_eq_false', Bool.not_true, Bool.not_false, Bool.not_eq_eq_eq_not, Int.not_lt, Int.not_le] at g34'
                    refine r_op tabOk hnt rfl (s_load_ptr tab_53 rfl rfl rfl (Nat.le_of_ble_eq_true rfl) ?_) 
                    refine r_if tabOk hnt rfl rfl rfl (fun _ => ?_) (fun e => absurd (e.symm.trans g34) (by decide))
                    refine r_op tabOk hnt rfl (s_load_ptr tab_53 rfl rfl rfl (Nat.le_of_ble_eq_true rfl) ?_) 
                    refine r_if tabOk hnt rfl rfl rfl (fun _ => ?_) (fun e => absurd (e.symm.trans g34) (by decide))
                    refine r_op tabOk hnt rfl (s_callF rfl rfl rfl (w_span_In e5 e6) rfl ?_) 
                    refine r_op tabOk hnt rfl (s_pick_f rfl g34 rfl ?_) 
                    refine r_op tabOk hnt rfl (s_assign rfl ?_) 
                    refine r_end ?_
                    refine q_block ?_
                    refine q_then ?_
                    refine w_R ?_
                    refine r_op tabOk hnt rfl (s_addN (a := q) (b := 1) rfl rfl (by omega) (by omega) (by omega) ?_) 
                    refine r_op tabOk hnt rfl (s_move rfl ?_) 
                    refine r_end ?_
                    refine q_then ?_
                    refine ⟨(spIn e5 e6), (q + 1), ?_, ?_, ⟨[(0, 0), (1, 1), (2, 2), (3, 3), (4, 4)], by rw [hk]; decide, ⟨⟨_, rfl, rfl, rfl⟩, ⟨_, rfl, rfl, rfl⟩, ⟨_, rfl, rfl, rfl⟩, ⟨_, rfl, rfl, rfl⟩, ⟨_, rfl, rfl, rfl⟩, ⟨_, rfl, rfl, rfl⟩, ⟨_, rfl, rfl, rfl⟩, ⟨_, rfl, rfl, rfl⟩, ⟨_, rfl, rfl, rfl⟩, ⟨_, rfl, rfl, rfl⟩, ⟨_, rfl, rfl, rfl⟩, ⟨_, rfl, rfl, rfl⟩, ⟨_, rfl, rfl, rfl⟩, ⟨_, rfl, rfl, rfl⟩, ⟨_, rfl, rfl, rfl⟩, ⟨_, rfl, rfl, rfl⟩, ⟨_, rfl, rfl, rfl⟩, trivial⟩, ⟨⟨_, _, rfl, rfl, rfl, rfl⟩, ⟨_, _, rfl, rfl, rfl, rfl⟩, ⟨_, _, rfl, rfl, rfl, rfl⟩, ⟨_, _, rfl, rfl, rfl, rfl⟩, ⟨_, _, rfl, rfl, rfl, rfl⟩, trivial⟩, by rw [hk]; decide⟩⟩
                    ·
                      refine ⟨by omega, ?_⟩
                      first | (rw [any_next _ he3, ← hso]; simp [g17, hpe]; done) | (rw [any_next _ he6, ← hso]; simp [g34, hpe]; done)
                    · omega
                  ·
                    have g34' := g34
                    try simp only [decide_eq_true_eq, decide_eq_false_iff_not, Bool.not_eq_true', Bool.not_eq_false', Bool.not_true, Bool.not_false, Bool.not_eq_eq_eq_not, Int.not_lt, Int.not_le] at g34'
                    refine r_if tabOk hnt rfl rfl rfl (fun e => absurd (e.symm.trans g34) (by decide)) (fun _ => ?_)
                    refine r_if tabOk hnt rfl rfl rfl (fun e => absurd (e.symm.trans g34) (by decide)) (fun _ => ?_)
                    refine r_op tabOk hnt rfl (s_pick_t rfl g34 rfl ?_) 
                    refine r_op tabOk hnt rfl (s_assign rfl ?_) 
                    refine r_end ?_
                    refine q_block ?_
                    refine q_then ?_
                    refine w_R ?_
                    refine r_op tabOk hnt rfl (s_addN (a := q) (b := 1) rfl rfl (by omega) (by omega) (by omega) ?_) 
                    refine r_op tabOk hnt rfl (s_move rfl ?_) 
                    refine r_end ?_
                    refine q_then ?_
                    refine ⟨(true), (q + 1), ?_, ?_, ⟨[(0, 0), (1, 1), (2, 2), (3, 3), (4, 4)], by rw [hk]; decide, ⟨⟨_, rfl, rfl, rfl⟩, ⟨_, rfl, rfl, rfl⟩, ⟨_, rfl, rfl, rfl⟩, ⟨_, rfl, rfl, rfl⟩, ⟨_, rfl, rfl, rfl⟩, ⟨_, rfl, rfl, rfl⟩, ⟨_, rfl, rfl, rfl⟩, ⟨_, rfl, rfl, rfl⟩, ⟨_, rfl, rfl, rfl⟩, ⟨_, rfl, rfl, rfl⟩, ⟨_, rfl, rfl, rfl⟩, ⟨_, rfl, rfl, rfl⟩, ⟨_, rfl, rfl, rfl⟩, ⟨_, rfl, rfl, rfl⟩, ⟨_, rfl, rfl, rfl⟩, ⟨_, rfl, rfl, rfl⟩, ⟨_, rfl, rfl, rfl⟩, trivial⟩, ⟨⟨_, _, rfl, rfl, rfl, rfl⟩, ⟨_, _, rfl, rfl, rfl, rfl⟩, ⟨_, _, rfl, rfl, rfl, rfl⟩, ⟨_, _, rfl, rfl, rfl, rfl⟩, ⟨_, _, rfl, rfl, rfl, rfl⟩, trivial⟩, by rw [hk]; decide⟩⟩
                    ·
                      refine ⟨by omega, ?_⟩
                      first | (rw [any_next _ he3, ← hso]; simp [g17, hpe]; done) | (rw [any_next _ he6, ← hso]; simp [g34, hpe]; done)
                    · omega
                ·
                  have c29_ := c29
                  try simp only [decide_eq_true_eq, decide_eq_false_iff_not, Bool.not_eq_true', Bool.not_eq_false', Bool.not_true, Bool.not_false, Bool.not_eq_eq_eq_not, Int.not_lt, Int.not_le] at c29
                  refine w_exit ?_
                  refine q_then_exit ?_
                  refine q_then_exit ?_
                  refine q_block_exit ?_
                  refine q_then ?_
                  refine w_seq ?_
                  refine w_seq ?_
                  have hse : so = true := by rw [hso, List.take_of_length_le (by omega), hpe]; exact hcp.2.2.1
                  refine w_R ?_
                  refine r_op tabOk hnt rfl (s_fa_ptr tab_53 rfl rfl tab_3 (by decide) rfl ?_) 
                  refine r_op tabOk hnt rfl (s_load_ptr1 tab_3 rfl rfl rfl rfl rfl ?_) 
                  refine r_op tabOk hnt rfl (s_move rfl ?_) 
                  refine r_op tabOk hnt rfl (s_neq rfl rfl ?_) 
                  refine r_op tabOk hnt rfl (s_move rfl ?_) 
                  refine r_if tabOk hnt rfl rfl rfl (fun g35 => ?_) (fun g35 => ?_)
                  ·
                    have g35' := g35
                    try simp only [decide_eq_true_eq, decide_eq_false_iff_not, Bool.not_eq_true', Bool.not_eq_false', Bool.not_true, Bool.not_false, Bool.not_eq_eq_eq_not, Int.not_lt, Int.not_le] at g35'
                    refine r_op tabOk hnt rfl (s_fa_ptr tab_53 rfl rfl tab_3 (by decide) rfl ?_) 
                    refine r_if tabOk hnt rfl rfl rfl (fun _ => ?_) (fun e => absurd (e.symm.trans g35) (by decide))
                    refine r_op tabOk hnt rfl (s_load_ptr1 tab_3 rfl rfl rfl rfl rfl ?_) 
                    refine r_if tabOk hnt rfl rfl rfl (fun _ => ?_) (fun e => absurd (e.symm.trans g35) (by decide))
                    refine r_op tabOk hnt rfl (s_lss rfl rfl ?_) 
                    refine r_op tabOk hnt rfl (s_pick_f rfl g35 rfl ?_) 
                    refine r_op tabOk hnt rfl (s_move rfl ?_) 
                    refine r_if tabOk hnt rfl rfl rfl (fun g36 => ?_) (fun g36 => ?_)
                    ·
                      have g36' := g36
                      try simp only [decide_eq_true_eq, decide_eq_false_iff_not, Bool.not_eq_true', Bool.not_eq_false', Bool.not_true, Bool.not_false, Bool.not_eq_eq_eq_not, Int.not_lt, Int.not_le] at g36'
                      refine r_op tabOk hnt rfl (s_move rfl ?_) 
                      refine r_if tabOk hnt rfl rfl rfl (fun _ => ?_) (fun e => absurd (e.symm.trans g36) (by decide))
                      refine r_op tabOk hnt rfl (s_not rfl ?_) 
                      refine r_op tabOk hnt rfl (s_pick_f rfl g36 rfl ?_) 
                      refine r_set [(7, PV.ptr 0 0), (8, PV.ptr 1 0), (9, PV.ptr 2 0), (10, pB (meetOk x y)), (11, pI bo), (12, pB al), (15, PV.ref 3 0 none), (18, pB (coverOk fw x)), (19, pI v), (21, PV.ptr 4 0), (136, pS 2 false eSpan (coverV fw x)), (137, pN ((coverV fw x).length)), (138, pN p), (160, PV.ptr 4 1), (161, pI e5.count), (162, pB (decide (e5.count < 1))), (165, pB so), (166, pB (!so)), (167, pB (!so))] [(0, .obj [pI x.at_, pI x.count]), (1, .obj [pI y.at_, pI y.count]), (2, .obj [pI ((meetV x y).at_), pI ((meetV x y).count)]), (3, oB false 2 eSpan fw), (4, .obj [pI e5.at_, pI e5.count])] 5 ⟨rfl, rfl, rfl, rfl, rfl, rfl, rfl, rfl, rfl, rfl, rfl, rfl, rfl, rfl, rfl, rfl, rfl, rfl, rfl, trivial⟩ rfl rfl ?_
                      refine r_end ?_
                      refine q_then ?_
                      refine w_if rfl (fun c30 => ?_) (fun c30 => ?_)
                      ·
                        have c30_ := c30
                        exact absurd c30 (by simp [hse])
                      ·
                        have c30_ := c30
                        try simp only [decide_eq_true_eq, decide_eq_false_iff_not, Bool.not_eq_true', Bool.not_eq_false', Bool.not_true, Bool.not_false, Bool.not_eq_eq_eq_not, Int.not_lt, Int.not_le] at c30
                        refine w_skip ?_
                        refine q_then ?_
                        refine w_R ?_
                        refine r_op tabOk hnt rfl (s_move rfl ?_) 
                        refine r_op tabOk hnt rfl (s_fa_ptr tab_53 rfl rfl tab_3 (by decide) rfl ?_) 
                        refine r_op tabOk hnt rfl (s_load_ptr1 tab_3 rfl rfl rfl rfl rfl ?_) 
                        refine r_op tabOk hnt rfl (s_addi (r := v + e5.count) rfl rfl rfl (by omega) ?_) 
                        refine r_op tabOk hnt rfl (s_assign rfl ?_) 
                        refine r_end ?_
                        refine q_block ?_
                        refine q_then ?_
                        refine w_R ?_
                        refine r_op tabOk hnt rfl (s_addN (a := p) (b := 1) rfl rfl (by omega) (by omega) (by omega) ?_) 
                        refine r_op tabOk hnt rfl (s_move rfl ?_) 
                        refine r_end ?_
                        refine q_then ?_
                        refine ⟨(v + e5.count), (p + 1), ?_, ?_, ⟨[(0, 0), (1, 1), (2, 2), (3, 3)], by rw [hk]; decide, ⟨⟨_, rfl, rfl, rfl⟩, ⟨_, rfl, rfl, rfl⟩, ⟨_, rfl, rfl, rfl⟩, ⟨_, rfl, rfl, rfl⟩, ⟨_, rfl, rfl, rfl⟩, ⟨_, rfl, rfl, rfl⟩, ⟨_, rfl, rfl, rfl⟩, ⟨_, rfl, rfl, rfl⟩, ⟨_, rfl, rfl, rfl⟩, ⟨_, rfl, rfl, rfl⟩, ⟨_, rfl, rfl, rfl⟩, ⟨_, rfl, rfl, rfl⟩, trivial⟩, ⟨⟨_, _, rfl, rfl, rfl, rfl⟩, ⟨_, _, rfl, rfl, rfl, rfl⟩, ⟨_, _, rfl, rfl, rfl, rfl⟩, ⟨_, _, rfl, rfl, rfl, rfl⟩, trivial⟩, by rw [hk]; decide⟩⟩
                        ·
                          exact ⟨by omega, by rw [← hcp.2.2.2, hpv]⟩
                        · omega
                    ·
                      exact absurd g36 (by simp; omega)
                  ·
                    exact absurd g35 (by simp [hpa])
            ·
              have c28_ := c28
              try simp only [decide_eq_true_eq, decide_eq_false_iff_not, Bool.not_eq_true', Bool.not_eq_false', Bool.not_true, Bool.not_false, Bool.not_eq_eq_eq_not, Int.not_lt, Int.not_le] at c28
              refine w_exit ?_
              refine q_then_exit ?_
              refine q_then_exit ?_
              refine q_block_exit ?_
              refine q_then ?_
              refine w_seq ?_
              have hve : v = x.at_ + sumC (coverV fw x) := by rw [hpv, List.take_of_length_le (by omega)]
              have hsum : coverOk fw x = true → v = x.at_ + x.count := fun h => by rw [hve, cover_sum xok hfw h]
              refine w_R ?_
              refine r_op tabOk hnt rfl (s_assign rfl ?_) 
              refine r_end ?_
              refine q_then ?_
              refine w_seq ?_
              refine w_seq ?_
              refine w_R ?_
              refine r_op tabOk hnt rfl (s_fa_ptr tab_53 rfl rfl tab_3 (by decide) rfl ?_) 
              refine r_op tabOk hnt rfl (s_load_ptr1 tab_3 rfl rfl rfl rfl rfl ?_) 
              refine r_op tabOk hnt rfl (s_assign rfl ?_) 
              refine r_end ?_
              refine q_then ?_
              refine w_block ?_
              refine loop2 (fun (wh : Bool) (i2 : Int) => x.at_ ≤ i2 ∧ i2 ≤ x.at_ + x.count ∧ (wh = true ↔ ∀ j : Int, x.at_ ≤ j → j < i2 → (fw.any fun f => decide (f.at_ ≤ j) && decide (j < f.at_ + f.count)) = true)) (fun (wh : Bool) (i2 : Int) => [(7, PV.ptr 0 0), (8, PV.ptr 1 0), (9, PV.ptr 2 0), (10, pB (meetOk x y)), (11, pI bo), (12, pB al), (15, PV.ref 3 0 none), (18, pB (coverOk fw x)), (19, pI v), (25, pB wh), (26, pI i2)]) 4 (fun (wh : Bool) (i2 : Int) => [(0, .obj [pI x.at_, pI x.count]), (1, .obj [pI y.at_, pI y.count]), (2, .obj [pI ((meetV x y).at_), pI ((meetV x y).count)]), (3, oB false 2 eSpan fw)]) (fun (wh : Bool) (i2 : Int) => (x.at_ + x.count - i2).toNat) (true) (x.at_) ?_ ⟨[(0, 0), (1, 1), (2, 2), (3, 3)], by rw [hk]; decide, ⟨⟨_, rfl, rfl, rfl⟩, ⟨_, rfl, rfl, rfl⟩, ⟨_, rfl, rfl, rfl⟩, ⟨_, rfl, rfl, rfl⟩, ⟨_, rfl, rfl, rfl⟩, ⟨_, rfl, rfl, rfl⟩, ⟨_, rfl, rfl, rfl⟩, ⟨_, rfl, rfl, rfl⟩, ⟨_, rfl, rfl, rfl⟩, ⟨_, rfl, rfl, rfl⟩, ⟨_, rfl, rfl, rfl⟩, trivial⟩, ⟨⟨_, _, rfl, rfl, rfl, rfl⟩, ⟨_, _, rfl, rfl, rfl, rfl⟩, ⟨_, _, rfl, rfl, rfl, rfl⟩, ⟨_, _, rfl, rfl, rfl, rfl⟩, trivial⟩, by rw [hk]; decide⟩ ?_
              · exact ⟨by omega, by omega, fun _ j h1 h2 => by omega, fun _ => rfl⟩
              ·
                intro wh i2 hW
                obtain ⟨hw1, hw2, hwh⟩ := hW
                refine w_seq ?_
                refine w_seq ?_
                refine w_R ?_
                refine r_op tabOk hnt rfl (s_move rfl ?_) 
                refine r_op tabOk hnt rfl (s_fa_ptr tab_53 rfl rfl tab_3 (by decide) rfl ?_) 
                refine r_op tabOk hnt rfl (s_load_ptr1 tab_3 rfl rfl rfl rfl rfl ?_) 
                refine r_op tabOk hnt rfl (s_fa_ptr tab_53 rfl rfl tab_3 (by decide) rfl ?_) 
                refine r_op tabOk hnt rfl (s_load_ptr1 tab_3 rfl rfl rfl rfl rfl ?_) 
                refine r_op tabOk hnt rfl (s_addi (r := x.at_ + x.count) rfl rfl rfl (by omega) ?_) 
                refine r_op tabOk hnt rfl (s_lss rfl rfl ?_) 
                refine r_end ?_
                refine q_then ?_
                refine w_if rfl (fun c31 => ?_) (fun c31 => ?_)
                ·
                  have c31_ := c31
                  try simp only [decide_eq_true_eq, decide_eq_false_iff_not, Bool.not_eq_true', Bool.not_eq_false', Bool.not_true, Bool.not_false, Bool.not_eq_eq_eq_not, Int.not_lt, Int.not_le] at c31
                  refine w_skip ?_
                  refine q_then ?_
                  refine w_seq ?_
                  refine w_block ?_
                  refine w_seq ?_
                  refine w_R ?_
                  refine r_op tabOk hnt rfl (s_assign rfl ?_) 
                  refine r_end ?_
                  refine q_then ?_
                  refine w_seq ?_
                  refine w_seq ?_
                  refine w_R ?_
                  refine r_op tabOk hnt rfl (s_move rfl ?_) 
                  refine r_op tabOk hnt rfl (s_lenM (l := fw) tab_56 rfl (hM_ref0 (f := eSpan) rfl rfl) ?_) 
                  refine r_op tabOk hnt rfl (s_move rfl ?_) 
                  refine r_end ?_
                  refine q_then ?_
                  refine w_block ?_
                  refine loop2 (fun (sm : Bool) (q : Nat) => q ≤ fw.length ∧ sm = (fw.take q).any (fun f => decide (f.at_ ≤ i2) && decide (i2 < f.at_ + f.count))) (fun (sm : Bool) (q : Nat) => [(7, PV.ptr 0 0), (8, PV.ptr 1 0), (9, PV.ptr 2 0), (10, pB (meetOk x y)), (11, pI bo), (12, pB al), (15, PV.ref 3 0 none), (18, pB (coverOk fw x)), (19, pI v), (25, pB wh), (26, pI i2), (27, pB sm), (184, PV.ref 3 0 none), (185, pN fw.length), (186, pN q)]) 4 (fun (sm : Bool) (q : Nat) => [(0, .obj [pI x.at_, pI x.count]), (1, .obj [pI y.at_, pI y.count]), (2, .obj [pI ((meetV x y).at_), pI ((meetV x y).count)]), (3, oB false 2 eSpan fw)]) (fun (sm : Bool) (q : Nat) => fw.length - q) (false) (0) ?_ ⟨[(0, 0), (1, 1), (2, 2), (3, 3)], by rw [hk]; decide, ⟨⟨_, rfl, rfl, rfl⟩, ⟨_, rfl, rfl, rfl⟩, ⟨_, rfl, rfl, rfl⟩, ⟨_, rfl, rfl, rfl⟩, ⟨_, rfl, rfl, rfl⟩, ⟨_, rfl, rfl, rfl⟩, ⟨_, rfl, rfl, rfl⟩, ⟨_, rfl, rfl, rfl⟩, ⟨_, rfl, rfl, rfl⟩, ⟨_, rfl, rfl, rfl⟩, ⟨_, rfl, rfl, rfl⟩, ⟨_, rfl, rfl, rfl⟩, ⟨_, rfl, rfl, rfl⟩, ⟨_, rfl, rfl, rfl⟩, ⟨_, rfl, rfl, rfl⟩, trivial⟩, ⟨⟨_, _, rfl, rfl, rfl, rfl⟩, ⟨_, _, rfl, rfl, rfl, rfl⟩, ⟨_, _, rfl, rfl, rfl, rfl⟩, ⟨_, _, rfl, rfl, rfl, rfl⟩, trivial⟩, by rw [hk]; decide⟩ ?_
                  · exact ⟨by omega, by simp⟩
                  ·
                    intro sm q hQ
                    obtain ⟨hq1, hsm⟩ := hQ
                    refine w_seq ?_
                    refine w_R ?_
                    refine r_op tabOk hnt rfl (s_lss rfl rfl ?_) 
                    refine r_end ?_
                    refine q_then ?_
                    refine w_seq ?_
                    refine w_if rfl (fun c32 => ?_) (fun c32 => ?_)
                    ·
                      have c32_ := c32
                      try simp only [decide_eq_true_eq, decide_eq_false_iff_not, Bool.not_eq_true', Bool.not_eq_false', Bool.not_true, Bool.not_false, Bool.not_eq_eq_eq_not, Int.not_lt, Int.not_le] at c32
                      refine w_skip ?_
                      refine q_then ?_
                      refine w_seq ?_
                      refine w_block ?_
                      refine w_seq ?_
                      refine w_R ?_
                      refine r_op tabOk hnt rfl (s_iaR0 (q := q) (f := eSpan) (l := fw) tab_56 rfl tab_53 rfl rfl (by omega) rfl rfl (by omega) ?_) 
                      obtain ⟨e7, he7⟩ := get_of_lt fw (i := q) (by omega)
                      refine r_op tabOk hnt rfl (s_ldA (b := e7) tab_53 rfl rfl rfl he7 rfl rfl ?_) 
                      refine r_op tabOk hnt rfl (s_alloc tab_53 ?_) 
                      refine r_op tabOk hnt rfl (s_store_ptr tab_53 rfl rfl rfl rfl rfl (Nat.le_of_ble_eq_true rfl) ?_) 
                      refine r_set [(7, PV.ptr 0 0), (8, PV.ptr 1 0), (9, PV.ptr 2 0), (10, pB (meetOk x y)), (11, pI bo), (12, pB al), (15, PV.ref 3 0 none), (18, pB (coverOk fw x)), (19, pI v), (25, pB wh), (26, pI i2), (27, pB sm), (29, PV.ptr 4 0), (184, PV.ref 3 0 none), (185, pN fw.length), (186, pN q)] [(4, .obj [pI e7.at_, pI e7.count]), (0, .obj [pI x.at_, pI x.count]), (1, .obj [pI y.at_, pI y.count]), (2, .obj [pI ((meetV x y).at_), pI ((meetV x y).count)]), (3, oB false 2 eSpan fw)] 5 ⟨rfl, rfl, rfl, rfl, rfl, rfl, rfl, rfl, rfl, rfl, rfl, rfl, rfl, rfl, rfl, rfl, trivial⟩ rfl rfl ?_
                      refine r_end ?_
                      refine q_then ?_
                      have hfo := (spOk_iff _).1 (hfw e7 (List.mem_of_getElem? he7))
                      refine w_R ?_
                      refine r_op tabOk hnt rfl (s_move rfl ?_) 
                      refine r_op tabOk hnt rfl (s_move rfl ?_) 
                      refine r_if tabOk hnt rfl rfl rfl (fun g37 => ?_) (fun g37 => ?_)
                      ·
                        have g37' := g37
                        try simp only [decide_eq_true_eq, decide_eq_false_iff_not, Bool.not_eq_true', Bool.not_eq_false', Bool.not_true, Bool.not_false, Bool.not_eq_eq_eq_not, Int.not_lt, Int.not_le] at g37'
                        refine r_op tabOk hnt rfl (s_move rfl ?_) 
                        refine r_if tabOk hnt rfl rfl rfl (fun _ => ?_) (fun e => absurd (e.symm.trans g37) (by decide))
                        refine r_op tabOk hnt rfl (s_fa_ptr tab_53 rfl rfl tab_3 (by decide) rfl ?_) 
                        refine r_if tabOk hnt rfl rfl rfl (fun _ => ?_) (fun e => absurd (e.symm.trans g37) (by decide))
                        refine r_op tabOk hnt rfl (s_load_ptr1 tab_3 rfl rfl rfl rfl rfl ?_) 
                        refine r_if tabOk hnt rfl rfl rfl (fun _ => ?_) (fun e => absurd (e.symm.trans g37) (by decide))
                        refine r_op tabOk hnt rfl (s_geq rfl rfl ?_) 
                        refine r_if tabOk hnt rfl rfl rfl (fun _ => ?_) (fun e => absurd (e.symm.trans g37) (by decide))
                        refine r_op tabOk hnt rfl (s_move rfl ?_) 
                        refine r_if tabOk hnt rfl rfl rfl (fun g38 => ?_) (fun g38 => ?_)
                        ·
                          have g38' := g38
                          try simp only [decide_eq_true_eq, decide_eq_false_iff_not, Bool.not_eq_true', Bool.not_eq_false', Bool.not_true, Bool.not_false, Bool.not_eq_eq_eq_not, Int.not_lt, Int.not_le] at g38'
                          refine r_op tabOk hnt rfl (s_move rfl ?_) 
                          refine r_if tabOk hnt rfl rfl rfl (fun _ => ?_) (fun e => absurd (e.symm.trans g38) (by decide))
                          refine r_op tabOk hnt rfl (s_fa_ptr tab_53 rfl rfl tab_3 (by decide) rfl ?_) 
                          refine r_if tabOk hnt rfl rfl rfl (fun _ => ?_) (fun e => absurd (e.symm.trans g38) (by decide))
                          refine r_op tabOk hnt rfl (s_load_ptr1 tab_3 rfl rfl rfl rfl rfl ?_) 
                          refine r_if tabOk hnt rfl rfl rfl (fun _ => ?_) (fun e => absurd (e.symm.trans g38) (by decide))
                          refine r_op tabOk hnt rfl (s_fa_ptr tab_53 rfl rfl tab_3 (by decide) rfl ?_) 
                          refine r_if tabOk hnt rfl rfl rfl (fun _ => ?_) (fun e => absurd (e.symm.trans g38) (by decide))
                          refine r_op tabOk hnt rfl (s_load_ptr1 tab_3 rfl rfl rfl rfl rfl ?_) 
                          refine r_if tabOk hnt rfl rfl rfl (fun _ => ?_) (fun e => absurd (e.symm.trans g38) (by decide))
                          refine r_op tabOk hnt rfl (s_addi (r := e7.at_ + e7.count) rfl rfl rfl (by omega) ?_) 
                          refine r_if tabOk hnt rfl rfl rfl (fun _ => ?_) (fun e => absurd (e.symm.trans g38) (by decide))
                          refine r_op tabOk hnt rfl (s_lss rfl rfl ?_) 
                          refine r_if tabOk hnt rfl rfl rfl (fun _ => ?_) (fun e => absurd (e.symm.trans g37) (by decide))
                          refine r_op tabOk hnt rfl (s_pick_t rfl g38 rfl ?_) 
                          refine r_op tabOk hnt rfl (s_pick_f rfl g37 rfl ?_) 
                          refine r_op tabOk hnt rfl (s_assign rfl ?_) 
                          refine r_set [(7, PV.ptr 0 0), (8, PV.ptr 1 0), (9, PV.ptr 2 0), (10, pB (meetOk x y)), (11, pI bo), (12, pB al), (15, PV.ref 3 0 none), (18, pB (coverOk fw x)), (19, pI v), (25, pB wh), (26, pI i2), (27, pB (decide (i2 < e7.at_ + e7.count))), (184, PV.ref 3 0 none), (185, pN fw.length), (186, pN q), (192, pI i2), (193, PV.ptr 4 0), (194, pI e7.at_), (195, pB (decide (e7.at_ ≤ i2))), (196, pB (decide (e7.at_ ≤ i2))), (197, pI i2), (198, PV.ptr 4 0), (199, pI e7.at_), (200, PV.ptr 4 1), (201, pI e7.count), (202, pI (e7.at_ + e7.count)), (203, pB (decide (i2 < e7.at_ + e7.count))), (204, pB (decide (i2 < e7.at_ + e7.count)))] [(4, .obj [pI e7.at_, pI e7.count]), (0, .obj [pI x.at_, pI x.count]), (1, .obj [pI y.at_, pI y.count]), (2, .obj [pI ((meetV x y).at_), pI ((meetV x y).count)]), (3, oB false 2 eSpan fw)] 5 ⟨rfl, rfl, rfl, rfl, rfl, rfl, rfl, rfl, rfl, rfl, rfl, rfl, rfl, rfl, rfl, rfl, rfl, rfl, rfl, rfl, rfl, rfl, rfl, rfl, rfl, rfl, rfl, rfl, trivial⟩ rfl rfl ?_
                          refine r_end ?_
                          refine q_block ?_
                          refine q_then ?_
                          refine w_R ?_
                          refine r_op tabOk hnt rfl (s_addN (a := q) (b := 1) rfl rfl (by omega) (by omega) (by omega) ?_) 
                          refine r_op tabOk hnt rfl (s_move rfl ?_) 
                          refine r_end ?_
                          refine q_then ?_
                          refine ⟨(decide (i2 < e7.at_ + e7.count)), (q + 1), ?_, ?_, ⟨[(0, 0), (1, 1), (2, 2), (3, 3)], by rw [hk]; decide, ⟨⟨_, rfl, rfl, rfl⟩, ⟨_, rfl, rfl, rfl⟩, ⟨_, rfl, rfl, rfl⟩, ⟨_, rfl, rfl, rfl⟩, ⟨_, rfl, rfl, rfl⟩, ⟨_, rfl, rfl, rfl⟩, ⟨_, rfl, rfl, rfl⟩, ⟨_, rfl, rfl, rfl⟩, ⟨_, rfl, rfl, rfl⟩, ⟨_, rfl, rfl, rfl⟩, ⟨_, rfl, rfl, rfl⟩, ⟨_, rfl, rfl, rfl⟩, ⟨_, rfl, rfl, rfl⟩, ⟨_, rfl, rfl, rfl⟩, ⟨_, rfl, rfl, rfl⟩, trivial⟩, ⟨⟨_, _, rfl, rfl, rfl, rfl⟩, ⟨_, _, rfl, rfl, rfl, rfl⟩, ⟨_, _, rfl, rfl, rfl, rfl⟩, ⟨_, _, rfl, rfl, rfl, rfl⟩, trivial⟩, by rw [hk]; decide⟩⟩
                          ·
                            refine ⟨by omega, ?_⟩
                            first | (rw [any_next _ he4, ← hsm]; simp [g20, g21]; done) | (rw [any_next _ he4, ← hsm]; simp [g20]; done) | (rw [any_next _ he7, ← hsm]; simp [g37, g38]; done) | (rw [any_next _ he7, ← hsm]; simp [g37]; done)
                          · omega
                        ·
                          have g38' := g38
                          try simp only [decide_eq_true_eq, decide_eq_false_iff_not, Bool.not_eq_true', Bool.not_eq_false', Bool.not_true, Bool.not_false, Bool.not_eq_eq_eq_not, Int.not_lt, Int.not_le] at g38'
                          refine r_if tabOk hnt rfl rfl rfl (fun e => absurd (e.symm.trans g38) (by decide)) (fun _ => ?_)
                          refine r_if tabOk hnt rfl rfl rfl (fun e => absurd (e.symm.trans g38) (by decide)) (fun _ => ?_)
                          refine r_if tabOk hnt rfl rfl rfl (fun e => absurd (e.symm.trans g38) (by decide)) (fun _ => ?_)
                          refine r_if tabOk hnt rfl rfl rfl (fun e => absurd (e.symm.trans g38) (by decide)) (fun _ => ?_)
                          refine r_if tabOk hnt rfl rfl rfl (fun e => absurd (e.symm.trans g38) (by decide)) (fun _ => ?_)
                          refine r_if tabOk hnt rfl rfl rfl (fun e => absurd (e.symm.trans g38) (by decide)) (fun _ => ?_)
                          refine r_if tabOk hnt rfl rfl rfl (fun _ => ?_) (fun e => absurd (e.symm.trans g37) (by decide))
                          refine r_op tabOk hnt rfl (s_pick_f rfl g38 rfl ?_) 
                          refine r_op tabOk hnt rfl (s_pick_f rfl g37 rfl ?_) 
                          refine r_op tabOk hnt rfl (s_assign rfl ?_) 
                          refine r_set [(7, PV.ptr 0 0), (8, PV.ptr 1 0), (9, PV.ptr 2 0), (10, pB (meetOk x y)), (11, pI bo), (12, pB al), (15, PV.ref 3 0 none), (18, pB (coverOk fw x)), (19, pI v), (25, pB wh), (26, pI i2), (27, pB false), (184, PV.ref 3 0 none), (185, pN fw.length), (186, pN q), (192, pI i2), (193, PV.ptr 4 0), (194, pI e7.at_), (195, pB (decide (e7.at_ ≤ i2))), (196, pB (decide (e7.at_ ≤ i2))), (204, pB false)] [(4, .obj [pI e7.at_, pI e7.count]), (0, .obj [pI x.at_, pI x.count]), (1, .obj [pI y.at_, pI y.count]), (2, .obj [pI ((meetV x y).at_), pI ((meetV x y).count)]), (3, oB false 2 eSpan fw)] 5 ⟨rfl, rfl, rfl, rfl, rfl, rfl, rfl, rfl, rfl, rfl, rfl, rfl, rfl, rfl, rfl, rfl, rfl, rfl, rfl, rfl, rfl, trivial⟩ rfl rfl ?_
                          refine r_end ?_
                          refine q_block ?_
                          refine q_then ?_
                          refine w_R ?_
                          refine r_op tabOk hnt rfl (s_addN (a := q) (b := 1) rfl rfl (by omega) (by omega) (by omega) ?_) 
                          refine r_op tabOk hnt rfl (s_move rfl ?_) 
                          refine r_end ?_
                          refine q_then ?_
                          refine ⟨(false), (q + 1), ?_, ?_, ⟨[(0, 0), (1, 1), (2, 2), (3, 3)], by rw [hk]; decide, ⟨⟨_, rfl, rfl, rfl⟩, ⟨_, rfl, rfl, rfl⟩, ⟨_, rfl, rfl, rfl⟩, ⟨_, rfl, rfl, rfl⟩, ⟨_, rfl, rfl, rfl⟩, ⟨_, rfl, rfl, rfl⟩, ⟨_, rfl, rfl, rfl⟩, ⟨_, rfl, rfl, rfl⟩, ⟨_, rfl, rfl, rfl⟩, ⟨_, rfl, rfl, rfl⟩, ⟨_, rfl, rfl, rfl⟩, ⟨_, rfl, rfl, rfl⟩, ⟨_, rfl, rfl, rfl⟩, ⟨_, rfl, rfl, rfl⟩, ⟨_, rfl, rfl, rfl⟩, trivial⟩, ⟨⟨_, _, rfl, rfl, rfl, rfl⟩, ⟨_, _, rfl, rfl, rfl, rfl⟩, ⟨_, _, rfl, rfl, rfl, rfl⟩, ⟨_, _, rfl, rfl, rfl, rfl⟩, trivial⟩, by rw [hk]; decide⟩⟩
                          ·
                            refine ⟨by omega, ?_⟩
                            first | (rw [any_next _ he4, ← hsm]; simp [g20, g21]; done) | (rw [any_next _ he4, ← hsm]; simp [g20]; done) | (rw [any_next _ he7, ← hsm]; simp [g37, g38]; done) | (rw [any_next _ he7, ← hsm]; simp [g37]; done)
                          · omega
                      ·
                        have g37' := g37
                        try simp only [decide_eq_true_eq, decide_eq_false_iff_not, Bool.not_eq_true', Bool.not_eq_false', Bool.not_true, Bool.not_false, Bool.not_eq_eq_eq_not, Int.not_lt, Int.not_le] at g37'
                        refine r_if tabOk hnt rfl rfl rfl (fun e => absurd (e.symm.trans g37) (by decide)) (fun _ => ?_)
                        refine r_if tabOk hnt rfl rfl rfl (fun e => absurd (e.symm.trans g37) (by decide)) (fun _ => ?_)
                        refine r_if tabOk hnt rfl rfl rfl (fun e => absurd (e.symm.trans g37) (by decide)) (fun _ => ?_)
                        refine r_if tabOk hnt rfl rfl rfl (fun e => absurd (e.symm.trans g37) (by decide)) (fun _ => ?_)
                        refine r_undef tabOk hnt rfl rfl rfl ?_
                        refine r_undef tabOk hnt rfl rfl rfl ?_
                        refine r_undef tabOk hnt rfl rfl rfl ?_
                        refine r_undef tabOk hnt rfl rfl rfl ?_
                        refine r_undef tabOk hnt rfl rfl rfl ?_
                        refine r_undef tabOk hnt rfl rfl rfl ?_
                        refine r_undef tabOk hnt rfl rfl rfl ?_
                        refine r_if tabOk hnt rfl rfl rfl (fun e => absurd (e.symm.trans g37) (by decide)) (fun _ => ?_)
                        refine r_op tabOk hnt rfl (s_pick_t rfl g37 rfl ?_) 
                        refine r_op tabOk hnt rfl (s_assign rfl ?_) 
                        refine r_set [(7, PV.ptr 0 0), (8, PV.ptr 1 0), (9, PV.ptr 2 0), (10, pB (meetOk x y)), (11, pI bo), (12, pB al), (15, PV.ref 3 0 none), (18, pB (coverOk fw x)), (19, pI v), (25, pB wh), (26, pI i2), (27, pB true), (184, PV.ref 3 0 none), (185, pN fw.length), (186, pN q)] [(4, .obj [pI e7.at_, pI e7.count]), (0, .obj [pI x.at_, pI x.count]), (1, .obj [pI y.at_, pI y.count]), (2, .obj [pI ((meetV x y).at_), pI ((meetV x y).count)]), (3, oB false 2 eSpan fw)] 5 ⟨rfl, rfl, rfl, rfl, rfl, rfl, rfl, rfl, rfl, rfl, rfl, rfl, rfl, rfl, rfl, trivial⟩ rfl rfl ?_
                        refine r_end ?_
                        refine q_block ?_
                        refine q_then ?_
                        refine w_R ?_
                        refine r_op tabOk hnt rfl (s_addN (a := q) (b := 1) rfl rfl (by omega) (by omega) (by omega) ?_) 
                        refine r_op tabOk hnt rfl (s_move rfl ?_) 
                        refine r_end ?_
                        refine q_then ?_
                        refine ⟨(true), (q + 1), ?_, ?_, ⟨[(0, 0), (1, 1), (2, 2), (3, 3)], by rw [hk]; decide, ⟨⟨_, rfl, rfl, rfl⟩, ⟨_, rfl, rfl, rfl⟩, ⟨_, rfl, rfl, rfl⟩, ⟨_, rfl, rfl, rfl⟩, ⟨_, rfl, rfl, rfl⟩, ⟨_, rfl, rfl, rfl⟩, ⟨_, rfl, rfl, rfl⟩, ⟨_, rfl, rfl, rfl⟩, ⟨_, rfl, rfl, rfl⟩, ⟨_, rfl, rfl, rfl⟩, ⟨_, rfl, rfl, rfl⟩, ⟨_, rfl, rfl, rfl⟩, ⟨_, rfl, rfl, rfl⟩, ⟨_, rfl, rfl, rfl⟩, ⟨_, rfl, rfl, rfl⟩, trivial⟩, ⟨⟨_, _, rfl, rfl, rfl, rfl⟩, ⟨_, _, rfl, rfl, rfl, rfl⟩, ⟨_, _, rfl, rfl, rfl, rfl⟩, ⟨_, _, rfl, rfl, rfl, rfl⟩, trivial⟩, by rw [hk]; decide⟩⟩
                        ·
                          refine ⟨by omega, ?_⟩
                          first | (rw [any_next _ he4, ← hsm]; simp [g20, g21]; done) | (rw [any_next _ he4, ← hsm]; simp [g20]; done) | (rw [any_next _ he7, ← hsm]; simp [g37, g38]; done) | (rw [any_next _ he7, ← hsm]; simp [g37]; done)
                        · omega
                    ·
                      have c32_ := c32
                      try simp only [decide_eq_true_eq, decide_eq_false_iff_not, Bool.not_eq_true', Bool.not_eq_false', Bool.not_true, Bool.not_false, Bool.not_eq_eq_eq_not, Int.not_lt, Int.not_le] at c32
                      refine w_exit ?_
                      refine q_then_exit ?_
                      refine q_then_exit ?_
                      refine q_block_exit ?_
                      refine q_then ?_
                      have hsme : sm = fw.any (fun f => decide (f.at_ ≤ i2) && decide (i2 < f.at_ + f.count)) := by rw [hsm, List.take_of_length_le (by omega)]
                      refine w_R ?_
                      refine r_op tabOk hnt rfl (s_move rfl ?_) 
                      refine r_op tabOk hnt rfl (s_move rfl ?_) 
                      refine r_if tabOk hnt rfl rfl rfl (fun g39 => ?_) (fun g39 => ?_)
                      ·
                        have g39' := g39
                        try simp only [decide_eq_true_eq, decide_eq_false_iff_not, Bool.not_eq_true', Bool.not_eq_false', Bool.not_true, Bool.not_false, Bool.not_eq_eq_eq_not, Int.not_lt, Int.not_le] at g39'
                        refine r_op tabOk hnt rfl (s_move rfl ?_) 
                        refine r_op tabOk hnt rfl (s_pick_t rfl g39 rfl ?_) 
                        refine r_op tabOk hnt rfl (s_assign rfl ?_) 
                        refine r_end ?_
                        refine q_block ?_
                        refine q_then ?_
                        refine w_R ?_
                        refine r_op tabOk hnt rfl (s_move rfl ?_) 
                        refine r_op tabOk hnt rfl (s_addi (r := i2 + 1) rfl rfl rfl (by omega) ?_) 
                        refine r_op tabOk hnt rfl (s_assign rfl ?_) 
                        refine r_end ?_
                        refine q_then ?_
                        refine ⟨(sm), (i2 + 1), ?_, ?_, ⟨[(0, 0), (1, 1), (2, 2), (3, 3)], by rw [hk]; decide, ⟨⟨_, rfl, rfl, rfl⟩, ⟨_, rfl, rfl, rfl⟩, ⟨_, rfl, rfl, rfl⟩, ⟨_, rfl, rfl, rfl⟩, ⟨_, rfl, rfl, rfl⟩, ⟨_, rfl, rfl, rfl⟩, ⟨_, rfl, rfl, rfl⟩, ⟨_, rfl, rfl, rfl⟩, ⟨_, rfl, rfl, rfl⟩, ⟨_, rfl, rfl, rfl⟩, ⟨_, rfl, rfl, rfl⟩, trivial⟩, ⟨⟨_, _, rfl, rfl, rfl, rfl⟩, ⟨_, _, rfl, rfl, rfl, rfl⟩, ⟨_, _, rfl, rfl, rfl, rfl⟩, ⟨_, _, rfl, rfl, rfl, rfl⟩, trivial⟩, by rw [hk]; decide⟩⟩
                        ·
                          refine ⟨by omega, by omega, ?_⟩
                          rw [← whole_next hwh hw1, ← hsme]
                          first | (simp [g22]; done) | (simp [g39]; done)
                        · omega
                      ·
                        have g39' := g39
                        try simp only [decide_eq_true_eq, decide_eq_false_iff_not, Bool.not_eq_true', Bool.not_eq_false', Bool.not_true, Bool.not_false, Bool.not_eq_eq_eq_not, Int.not_lt, Int.not_le] at g39'
                        refine r_op tabOk hnt rfl (s_pick_f rfl g39 rfl ?_) 
                        refine r_op tabOk hnt rfl (s_assign rfl ?_) 
                        refine r_end ?_
                        refine q_block ?_
                        refine q_then ?_
                        refine w_R ?_
                        refine r_op tabOk hnt rfl (s_move rfl ?_) 
                        refine r_op tabOk hnt rfl (s_addi (r := i2 + 1) rfl rfl rfl (by omega) ?_) 
                        refine r_op tabOk hnt rfl (s_assign rfl ?_) 
                        refine r_end ?_
                        refine q_then ?_
                        refine ⟨(false), (i2 + 1), ?_, ?_, ⟨[(0, 0), (1, 1), (2, 2), (3, 3)], by rw [hk]; decide, ⟨⟨_, rfl, rfl, rfl⟩, ⟨_, rfl, rfl, rfl⟩, ⟨_, rfl, rfl, rfl⟩, ⟨_, rfl, rfl, rfl⟩, ⟨_, rfl, rfl, rfl⟩, ⟨_, rfl, rfl, rfl⟩, ⟨_, rfl, rfl, rfl⟩, ⟨_, rfl, rfl, rfl⟩, ⟨_, rfl, rfl, rfl⟩, ⟨_, rfl, rfl, rfl⟩, ⟨_, rfl, rfl, rfl⟩, trivial⟩, ⟨⟨_, _, rfl, rfl, rfl, rfl⟩, ⟨_, _, rfl, rfl, rfl, rfl⟩, ⟨_, _, rfl, rfl, rfl, rfl⟩, ⟨_, _, rfl, rfl, rfl, rfl⟩, trivial⟩, by rw [hk]; decide⟩⟩
                        ·
                          refine ⟨by omega, by omega, ?_⟩
                          rw [← whole_next hwh hw1, ← hsme]
                          first | (simp [g22]; done) | (simp [g39]; done)
                        · omega
                ·
                  have c31_ := c31
                  try simp only [decide_eq_true_eq, decide_eq_false_iff_not, Bool.not_eq_true', Bool.not_eq_false', Bool.not_true, Bool.not_false, Bool.not_eq_eq_eq_not, Int.not_lt, Int.not_le] at c31
                  refine w_exit ?_
                  refine q_then_exit ?_
                  refine q_then_exit ?_
                  refine q_block_exit ?_
                  refine q_then ?_
                  refine w_seq ?_
                  have hi2 : i2 = x.at_ + x.count := by omega
                  rw [hi2] at hwh
                  have hcw := cover_whole xok hfw hwh
                  refine w_R ?_
                  refine r_op tabOk hnt rfl (s_move rfl ?_) 
                  refine r_op tabOk hnt rfl (s_move rfl ?_) 
                  refine r_op tabOk hnt rfl (s_gtr rfl rfl ?_) 
                  refine r_op tabOk hnt rfl (s_eqbool tab_4 rfl rfl rfl ?_) 
                  refine r_op tabOk hnt rfl (s_move rfl ?_) 
                  refine r_if tabOk hnt rfl rfl rfl (fun g40 => ?_) (fun g40 => ?_)
                  ·
                    have g40' := g40
                    try simp only [decide_eq_true_eq, decide_eq_false_iff_not, Bool.not_eq_true', Bool.not_eq_false', Bool.not_true, Bool.not_false, Bool.not_eq_eq_eq_not, Int.not_lt, Int.not_le] at g40'
                    refine r_op tabOk hnt rfl (s_move rfl ?_) 
                    refine r_if tabOk hnt rfl rfl rfl (fun _ => ?_) (fun e => absurd (e.symm.trans g40) (by decide))
                    refine r_op tabOk hnt rfl (s_not rfl ?_) 
                    refine r_if tabOk hnt rfl rfl rfl (fun _ => ?_) (fun e => absurd (e.symm.trans g40) (by decide))
                    refine r_op tabOk hnt rfl (s_move rfl ?_) 
                    refine r_if tabOk hnt rfl rfl rfl (fun g41 => ?_) (fun g41 => ?_)
                    ·
                      have g41' := g41
                      try simp only [decide_eq_true_eq, decide_eq_false_iff_not, Bool.not_eq_true', Bool.not_eq_false', Bool.not_true, Bool.not_false, Bool.not_eq_eq_eq_not, Int.not_lt, Int.not_le] at g41'
                      refine r_op tabOk hnt rfl (s_fa_ptr tab_53 rfl rfl tab_3 (by decide) rfl ?_) 
                      refine r_if tabOk hnt rfl rfl rfl (fun _ => ?_) (fun e => absurd (e.symm.trans g41) (by decide))
                      refine r_op tabOk hnt rfl (s_load_ptr1 tab_3 rfl rfl rfl rfl rfl ?_) 
                      refine r_if tabOk hnt rfl rfl rfl (fun _ => ?_) (fun e => absurd (e.symm.trans g41) (by decide))
                      refine r_op tabOk hnt rfl (s_move rfl ?_) 
                      refine r_if tabOk hnt rfl rfl rfl (fun _ => ?_) (fun e => absurd (e.symm.trans g41) (by decide))
                      refine r_op tabOk hnt rfl (s_eql rfl rfl ?_) 
                      refine r_if tabOk hnt rfl rfl rfl (fun _ => ?_) (fun e => absurd (e.symm.trans g40) (by decide))
                      refine r_op tabOk hnt rfl (s_pick_f rfl g41 rfl ?_) 
                      refine r_op tabOk hnt rfl (s_pick_t rfl g40 rfl ?_) 
                      refine r_op tabOk hnt rfl (s_move rfl ?_) 
                      refine r_if tabOk hnt rfl rfl rfl (fun g42 => ?_) (fun g42 => ?_)
                      ·
                        have g42' := g42
                        try simp only [decide_eq_true_eq, decide_eq_false_iff_not, Bool.not_eq_true', Bool.not_eq_false', Bool.not_true, Bool.not_false, Bool.not_eq_eq_eq_not, Int.not_lt, Int.not_le] at g42'
                        refine r_op tabOk hnt rfl (s_load_ptr tab_53 rfl rfl rfl (Nat.le_of_ble_eq_true rfl) ?_) 
                        refine r_if tabOk hnt rfl rfl rfl (fun _ => ?_) (fun e => absurd (e.symm.trans g42) (by decide))
                        refine r_op tabOk hnt rfl (s_load_ptr tab_53 rfl rfl rfl (Nat.le_of_ble_eq_true rfl) ?_) 
                        refine r_if tabOk hnt rfl rfl rfl (fun _ => ?_) (fun e => absurd (e.symm.trans g42) (by decide))
                        refine r_op tabOk hnt rfl (s_callF rfl rfl rfl (w_span_In x y) rfl ?_) 
                        refine r_if tabOk hnt rfl rfl rfl (fun _ => ?_) (fun e => absurd (e.symm.trans g42) (by decide))
                        refine r_op tabOk hnt rfl (s_move rfl ?_) 
                        refine r_if tabOk hnt rfl rfl rfl (fun _ => ?_) (fun e => absurd (e.symm.trans g42) (by decide))
                        refine r_op tabOk hnt rfl (s_eqbool tab_4 rfl rfl rfl ?_) 
                        refine r_op tabOk hnt rfl (s_pick_t rfl g42 rfl ?_) 
                        refine r_op tabOk hnt rfl (s_move rfl ?_) 
                        refine r_if tabOk hnt rfl rfl rfl (fun g43 => ?_) (fun g43 => ?_)
                        ·
                          have g43' := g43
                          try simp only [decide_eq_true_eq, decide_eq_false_iff_not, Bool.not_eq_true', Bool.not_eq_false', Bool.not_true, Bool.not_false, Bool.not_eq_eq_eq_not, Int.not_lt, Int.not_le] at g43'
                          refine r_op tabOk hnt rfl (s_move rfl ?_) 
                          refine r_if tabOk hnt rfl rfl rfl (fun _ => ?_) (fun e => absurd (e.symm.trans g43) (by decide))
                          refine r_op tabOk hnt rfl (s_move rfl ?_) 
                          refine r_if tabOk hnt rfl rfl rfl (fun _ => ?_) (fun e => absurd (e.symm.trans g43) (by decide))
                          refine r_op tabOk hnt rfl (s_eqbool tab_4 rfl rfl rfl ?_) 
                          refine r_op tabOk hnt rfl (s_pick_t rfl g43 rfl ?_) 
                          refine r_op tabOk hnt rfl (s_move rfl ?_) 
                          refine r_if tabOk hnt rfl rfl rfl (fun g44 => ?_) (fun g44 => ?_)
                          ·
                            have g44' := g44
                            try simp only [decide_eq_true_eq, decide_eq_false_iff_not, Bool.not_eq_true', Bool.not_eq_false', Bool.not_true, Bool.not_false, Bool.not_eq_eq_eq_not, Int.not_lt, Int.not_le] at g44'
                            refine r_op tabOk hnt rfl (s_move rfl ?_) 
                            refine r_if tabOk hnt rfl rfl rfl (fun _ => ?_) (fun e => absurd (e.symm.trans g44) (by decide))
                            refine r_op tabOk hnt rfl (s_not rfl ?_) 
                            refine r_if tabOk hnt rfl rfl rfl (fun _ => ?_) (fun e => absurd (e.symm.trans g44) (by decide))
                            refine r_op tabOk hnt rfl (s_move rfl ?_) 
                            refine r_if tabOk hnt rfl rfl rfl (fun g45 => ?_) (fun g45 => ?_)
                            ·
                              have g45' := g45
                              try simp only [decide_eq_true_eq, decide_eq_false_iff_not, Bool.not_eq_true', Bool.not_eq_false', Bool.not_true, Bool.not_false, Bool.not_eq_eq_eq_not, Int.not_lt, Int.not_le] at g45'
                              refine r_op tabOk hnt rfl (s_move rfl ?_) 
                              refine r_if tabOk hnt rfl rfl rfl (fun _ => ?_) (fun e => absurd (e.symm.trans g45) (by decide))
                              refine r_op tabOk hnt rfl (s_fa_ptr tab_53 rfl rfl tab_3 (by decide) rfl ?_) 
                              refine r_if tabOk hnt rfl rfl rfl (fun _ => ?_) (fun e => absurd (e.symm.trans g45) (by decide))
                              refine r_op tabOk hnt rfl (s_load_ptr1 tab_3 rfl rfl rfl rfl rfl ?_) 
                              refine r_if tabOk hnt rfl rfl rfl (fun _ => ?_) (fun e => absurd (e.symm.trans g45) (by decide))
                              refine r_op tabOk hnt rfl (s_fa_ptr tab_53 rfl rfl tab_3 (by decide) rfl ?_) 
                              refine r_if tabOk hnt rfl rfl rfl (fun _ => ?_) (fun e => absurd (e.symm.trans g45) (by decide))
                              refine r_op tabOk hnt rfl (s_load_ptr1 tab_3 rfl rfl rfl rfl rfl ?_) 
                              refine r_if tabOk hnt rfl rfl rfl (fun _ => ?_) (fun e => absurd (e.symm.trans g45) (by decide))
                              refine r_op tabOk hnt rfl (s_addi (r := x.at_ + x.count) rfl rfl rfl (by omega) ?_) 
                              refine r_if tabOk hnt rfl rfl rfl (fun _ => ?_) (fun e => absurd (e.symm.trans g45) (by decide))
                              refine r_op tabOk hnt rfl (s_eql rfl rfl ?_) 
                              refine r_if tabOk hnt rfl rfl rfl (fun _ => ?_) (fun e => absurd (e.symm.trans g44) (by decide))
                              refine r_op tabOk hnt rfl (s_pick_f rfl g45 rfl ?_) 
                              refine r_op tabOk hnt rfl (s_pick_t rfl g44 rfl ?_) 
                              refine r_op tabOk hnt rfl (s_move rfl ?_) 
                              refine r_if tabOk hnt rfl rfl rfl (fun g46 => ?_) (fun g46 => ?_)
                              ·
                                have g46' := g46
                                try simp only [decide_eq_true_eq, decide_eq_false_iff_not, Bool.not_eq_true', Bool.not_eq_false', Bool.not_true, Bool.not_false, Bool.not_eq_eq_eq_not, Int.not_lt, Int.not_le] at g46'
                                refine r_op tabOk hnt rfl (s_callF rfl rfl rfl (w_burgagelaw7_known) rfl ?_) 
                                refine r_op tabOk hnt rfl (s_pick_t rfl g46 rfl ?_) 
                                refine r_op tabOk hnt rfl (s_assign rfl ?_) 
                                refine r_set [(6, pB true)] [(0, .obj [pI x.at_, pI x.count]), (1, .obj [pI y.at_, pI y.count]), (2, .obj [pI ((meetV x y).at_), pI ((meetV x y).count)]), (3, oB false 2 eSpan fw)] 4 ⟨rfl, trivial⟩ rfl rfl ?_
                                refine r_end ?_
                                refine q_then ?_
                                refine w_ret ?_
                                exact fin_plain (ret_tmp rfl ret_nil) rfl rfl ⟨rfl, rfl, rfl⟩
                              ·
                                exact absurd g46 (by first | (simp [hsum (by simpa using g28)]; done) | (simp [hsum (by simpa using g32)]; done) | (simp [hsum (by simpa using g45)]; done) | (simp [hsum (by simpa using g49)]; done))
                            ·
                              have g45' := g45
                              try simp only [decide_eq_true_eq, decide_eq_false_iff_not, Bool.not_eq_true', Bool.not_eq_false', Bool.not_true, Bool.not_false, Bool.not_eq_eq_eq_not, Int.not_lt, Int.not_le] at g45'
                              refine r_if tabOk hnt rfl rfl rfl (fun e => absurd (e.symm.trans g45) (by decide)) (fun _ => ?_)
                              refine r_if tabOk hnt rfl rfl rfl (fun e => absurd (e.symm.trans g45) (by decide)) (fun _ => ?_)
                              refine r_if tabOk hnt rfl rfl rfl (fun e => absurd (e.symm.trans g45) (by decide)) (fun _ => ?_)
                              refine r_if tabOk hnt rfl rfl rfl (fun e => absurd (e.symm.trans g45) (by decide)) (fun _ => ?_)
                              refine r_if tabOk hnt rfl rfl rfl (fun e => absurd (e.symm.trans g45) (by decide)) (fun _ => ?_)
                              refine r_if tabOk hnt rfl rfl rfl (fun e => absurd (e.symm.trans g45) (by decide)) (fun _ => ?_)
                              refine r_if tabOk hnt rfl rfl rfl (fun _ => ?_) (fun e => absurd (e.symm.trans g44) (by decide))
                              refine r_op tabOk hnt rfl (s_pick_t rfl g45 rfl ?_) 
                              refine r_op tabOk hnt rfl (s_pick_t rfl g44 rfl ?_) 
                              refine r_op tabOk hnt rfl (s_move rfl ?_) 
                              refine r_if tabOk hnt rfl rfl rfl (fun _ => ?_) (fun e => absurd e (by decide))
                              refine r_op tabOk hnt rfl (s_callF rfl rfl rfl (w_burgagelaw7_known) rfl ?_) 
                              refine r_op tabOk hnt rfl (s_pick_t rfl rfl rfl ?_) 
                              refine r_op tabOk hnt rfl (s_assign rfl ?_) 
                              refine r_set [(6, pB true)] [(0, .obj [pI x.at_, pI x.count]), (1, .obj [pI y.at_, pI y.count]), (2, .obj [pI ((meetV x y).at_), pI ((meetV x y).count)]), (3, oB false 2 eSpan fw)] 4 ⟨rfl, trivial⟩ rfl rfl ?_
                              refine r_end ?_
                              refine q_then ?_
                              refine w_ret ?_
                              exact fin_plain (ret_tmp rfl ret_nil) rfl rfl ⟨rfl, rfl, rfl⟩
                          ·
                            exact absurd g44 (by simp [hcw])
                        ·
                          exact absurd g43 (by simp [hae])
                      ·
                        exact absurd g42 (by first | (simp [hen.2 (by simpa using g24)]; done) | (simp [hen.2 (by simpa using g41)]; done))
                    ·
                      have g41' := g41
                      try simp only [decide_eq_true_eq, decide_eq_false_iff_not, Bool.not_eq_true', Bool.not_eq_false', Bool.not_true, Bool.not_false, Bool.not_eq_eq_eq_not, Int.not_lt, Int.not_le] at g41'
                      refine r_if tabOk hnt rfl rfl rfl (fun e => absurd (e.symm.trans g41) (by decide)) (fun _ => ?_)
                      refine r_if tabOk hnt rfl rfl rfl (fun e => absurd (e.symm.trans g41) (by decide)) (fun _ => ?_)
                      refine r_if tabOk hnt rfl rfl rfl (fun e => absurd (e.symm.trans g41) (by decide)) (fun _ => ?_)
                      refine r_if tabOk hnt rfl rfl rfl (fun _ => ?_) (fun e => absurd (e.symm.trans g40) (by decide))
                      refine r_op tabOk hnt rfl (s_pick_t rfl g41 rfl ?_) 
                      refine r_op tabOk hnt rfl (s_pick_t rfl g40 rfl ?_) 
                      refine r_op tabOk hnt rfl (s_move rfl ?_) 
                      refine r_if tabOk hnt rfl rfl rfl (fun _ => ?_) (fun e => absurd e (by decide))
                      refine r_op tabOk hnt rfl (s_load_ptr tab_53 rfl rfl rfl (Nat.le_of_ble_eq_true rfl) ?_) 
                      refine r_if tabOk hnt rfl rfl rfl (fun _ => ?_) (fun e => absurd e (by decide))
                      refine r_op tabOk hnt rfl (s_load_ptr tab_53 rfl rfl rfl (Nat.le_of_ble_eq_true rfl) ?_) 
                      refine r_if tabOk hnt rfl rfl rfl (fun _ => ?_) (fun e => absurd e (by decide))
                      refine r_op tabOk hnt rfl (s_callF rfl rfl rfl (w_span_In x y) rfl ?_) 
                      refine r_if tabOk hnt rfl rfl rfl (fun _ => ?_) (fun e => absurd e (by decide))
                      refine r_op tabOk hnt rfl (s_move rfl ?_) 
                      refine r_if tabOk hnt rfl rfl rfl (fun _ => ?_) (fun e => absurd e (by decide))
                      refine r_op tabOk hnt rfl (s_eqbool tab_4 rfl rfl rfl ?_) 
                      refine r_op tabOk hnt rfl (s_pick_t rfl rfl rfl ?_) 
                      refine r_op tabOk hnt rfl (s_move rfl ?_) 
                      refine r_if tabOk hnt rfl rfl rfl (fun g47 => ?_) (fun g47 => ?_)
                      ·
                        have g47' := g47
                        try simp only [decide_eq_true_eq, decide_eq_false_iff_not, Bool.not_eq_true', Bool.not_eq_false', Bool.not_true, Bool.not_false, Bool.not_eq_eq_eq_not, Int.not_lt, Int.not_le] at g47'
                        refine r_op tabOk hnt rfl (s_move rfl ?_) 
                        refine r_if tabOk hnt rfl rfl rfl (fun _ => ?_) (fun e => absurd (e.symm.trans g47) (by decide))
                        refine r_op tabOk hnt rfl (s_move rfl ?_) 
                        refine r_if tabOk hnt rfl rfl rfl (fun _ => ?_) (fun e => absurd (e.symm.trans g47) (by decide))
                        refine r_op tabOk hnt rfl (s_eqbool tab_4 rfl rfl rfl ?_) 
                        refine r_op tabOk hnt rfl (s_pick_t rfl g47 rfl ?_) 
                        refine r_op tabOk hnt rfl (s_move rfl ?_) 
                        refine r_if tabOk hnt rfl rfl rfl (fun g48 => ?_) (fun g48 => ?_)
                        ·
                          have g48' := g48
                          try simp only [decide_eq_true_eq, decide_eq_false_iff_not, Bool.not_eq_true', Bool.not_eq_false', Bool.not_true, Bool.not_false, Bool.not_eq_eq_eq_not, Int.not_lt, Int.not_le] at g48'
                          refine r_op tabOk hnt rfl (s_move rfl ?_) 
                          refine r_if tabOk hnt rfl rfl rfl (fun _ => ?_) (fun e => absurd (e.symm.trans g48) (by decide))
                          refine r_op tabOk hnt rfl (s_not rfl ?_) 
                          refine r_if tabOk hnt rfl rfl rfl (fun _ => ?_) (fun e => absurd (e.symm.trans g48) (by decide))
                          refine r_op tabOk hnt rfl (s_move rfl ?_) 
                          refine r_if tabOk hnt rfl rfl rfl (fun g49 => ?_) (fun g49 => ?_)
                          ·
                            have g49' := g49
                            try simp only [decide_eq_true_eq, decide_eq_false_iff_not, Bool.not_eq_true', Bool.not_eq_false', Bool.not_true, Bool.not_false, Bool.not_eq_eq_eq_not, Int.not_lt, Int.not_le] at g49'
                            refine r_op tabOk hnt rfl (s_move rfl ?_) 
                            refine r_if tabOk hnt rfl rfl rfl (fun _ => ?_) (fun e => absurd (e.symm.trans g49) (by decide))
                            refine r_op tabOk hnt rfl (s_fa_ptr tab_53 rfl rfl tab_3 (by decide) rfl ?_) 
                            refine r_if tabOk hnt rfl rfl rfl (fun _ => ?_) (fun e => absurd (e.symm.trans g49) (by decide))
                            refine r_op tabOk hnt rfl (s_load_ptr1 tab_3 rfl rfl rfl rfl rfl ?_) 
                            refine r_if tabOk hnt rfl rfl rfl (fun _ => ?_) (fun e => absurd (e.symm.trans g49) (by decide))
                            refine r_op tabOk hnt rfl (s_fa_ptr tab_53 rfl rfl tab_3 (by decide) rfl ?_) 
                            refine r_if tabOk hnt rfl rfl rfl (fun _ => ?_) (fun e => absurd (e.symm.trans g49) (by decide))
                            refine r_op tabOk hnt rfl (s_load_ptr1 tab_3 rfl rfl rfl rfl rfl ?_) 
                            refine r_if tabOk hnt rfl rfl rfl (fun _ => ?_) (fun e => absurd (e.symm.trans g49) (by decide))
                            refine r_op tabOk hnt rfl (s_addi (r := x.at_ + x.count) rfl rfl rfl (by omega) ?_) 
                            refine r_if tabOk hnt rfl rfl rfl (fun _ => ?_) (fun e => absurd (e.symm.trans g49) (by decide))
                            refine r_op tabOk hnt rfl (s_eql rfl rfl ?_) 
                            refine r_if tabOk hnt rfl rfl rfl (fun _ => ?_) (fun e => absurd (e.symm.trans g48) (by decide))
                            refine r_op tabOk hnt rfl (s_pick_f rfl g49 rfl ?_) 
                            refine r_op tabOk hnt rfl (s_pick_t rfl g48 rfl ?_) 
                            refine r_op tabOk hnt rfl (s_move rfl ?_) 
                            refine r_if tabOk hnt rfl rfl rfl (fun g50 => ?_) (fun g50 => ?_)
                            ·
                              have g50' := g50
                              try simp only [decide_eq_true_eq, decide_eq_false_iff_not, Bool.not_eq_true', Bool.not_eq_false', Bool.not_true, Bool.not_false, Bool.not_eq_eq_eq_not, Int.not_lt, Int.not_le] at g50'
                              refine r_op tabOk hnt rfl (s_callF rfl rfl rfl (w_burgagelaw7_known) rfl ?_) 
                              refine r_op tabOk hnt rfl (s_pick_t rfl g50 rfl ?_) 
                              refine r_op tabOk hnt rfl (s_assign rfl ?_) 
                              refine r_set [(6, pB true)] [(0, .obj [pI x.at_, pI x.count]), (1, .obj [pI y.at_, pI y.count]), (2, .obj [pI ((meetV x y).at_), pI ((meetV x y).count)]), (3, oB false 2 eSpan fw)] 4 ⟨rfl, trivial⟩ rfl rfl ?_
                              refine r_end ?_
                              refine q_then ?_
                              refine w_ret ?_
                              exact fin_plain (ret_tmp rfl ret_nil) rfl rfl ⟨rfl, rfl, rfl⟩
                            ·
                              exact absurd g50 (by first | (simp [hsum (by simpa using g28)]; done) | (simp [hsum (by simpa using g32)]; done) | (simp [hsum (by simpa using g45)]; done) | (simp [hsum (by simpa using g49)]; done))
                          ·
                            have g49' := g49
                            try simp only [decide_eq_true_eq, decide_eq_false_iff_not, Bool.not_eq_true', Bool.not_eq_false', Bool.not_true, Bool.not_false, Bool.not_eq_eq_eq_not, Int.not_lt, Int.not_le] at g49'
                            refine r_if tabOk hnt rfl rfl rfl (fun e => absurd (e.symm.trans g49) (by decide)) (fun _ => ?_)
                            refine r_if tabOk hnt rfl rfl rfl (fun e => absurd (e.symm.trans g49) (by decide)) (fun _ => ?_)
                            refine r_if tabOk hnt rfl rfl rfl (fun e => absurd (e.symm.trans g49) (by decide)) (fun _ => ?_)
                            refine r_if tabOk hnt rfl rfl rfl (fun e => absurd (e.symm.trans g49) (by decide)) (fun _ => ?_)
                            refine r_if tabOk hnt rfl rfl rfl (fun e => absurd (e.symm.trans g49) (by decide)) (fun _ => ?_)
                            refine r_if tabOk hnt rfl rfl rfl (fun e => absurd (e.symm.trans g49) (by decide)) (fun _ => ?_)
                            refine r_if tabOk hnt rfl rfl rfl (fun _ => ?_) (fun e => absurd (e.symm.trans g48) (by decide))
                            refine r_op tabOk hnt rfl (s_pick_t rfl g49 rfl ?_) 
                            refine r_op tabOk hnt rfl (s_pick_t rfl g48 rfl ?_) 
                            refine r_op tabOk hnt rfl (s_move rfl ?_) 
                            refine r_if tabOk hnt rfl rfl rfl (fun _ => ?_) (fun e => absurd e (by decide))
                            refine r_op tabOk hnt rfl (s_callF rfl rfl rfl (w_burgagelaw7_known) rfl ?_) 
                            refine r_op tabOk hnt rfl (s_pick_t rfl rfl rfl ?_) 
                            refine r_op tabOk hnt rfl (s_assign rfl ?_) 
                            refine r_set [(6, pB true)] [(0, .obj [pI x.at_, pI x.count]), (1, .obj [pI y.at_, pI y.count]), (2, .obj [pI ((meetV x y).at_), pI ((meetV x y).count)]), (3, oB false 2 eSpan fw)] 4 ⟨rfl, trivial⟩ rfl rfl ?_
                            refine r_end ?_
                            refine q_then ?_
                            refine w_ret ?_
                            exact fin_plain (ret_tmp rfl ret_nil) rfl rfl ⟨rfl, rfl, rfl⟩
                        ·
                          exact absurd g48 (by simp [hcw])
                      ·
                        exact absurd g47 (by simp [hae])
                  ·
                    exact absurd g40 (by simp [hen1])

end Go.Proofs.Yteedhlgdbankiaa
