/- Walks: printed by a program of this session (wip/tools/walk.py). -/
import Derived.Test.YteedhlgdbankiaaWalkB
set_option linter.unusedVariables false
set_option linter.unusedSimpArgs false
set_option maxRecDepth 10000
namespace Go.Proofs.Yteedhlgdbankiaa
open Go Go.Proofs.Yteedhlgdbankiaa.Pv

theorem w8 (cl : Bool) (l : List UInt8) (at_ : Int) (turn : UInt8) (hl : l.length ≤ 140737488351232):
    T Try.prog 8 [.f (.sl 1 cl (bytesU l)), PV.f (.v (.int .i64 at_)), PV.f (.v (.int .u8 (UInt8.toNat turn)))] 0 [] (Ret (PV.f (.v (.bool true))) 0 []) := by
  refine t_fun tabOk (n := 46) (rs := [.tmp 6]) Try.func8 rfl rfl rfl rfl (Nat.le_of_ble_eq_true rfl) ?_
  intro c hnt hk
  have hz : (sealL l).length = l.length + 2 := sealL_length l
  refine w_seq ?_
  refine w_reg tabOk hnt ?_
  refine o_op rfl (s_assign rfl ?_)
  refine o_end ?_
  refine q_then ?_
  refine w_seq ?_
  refine w_reg tabOk hnt ?_
  refine o_op rfl (s_move rfl ?_)
  first | refine o_op rfl (s_call0 rfl rfl rfl (w25 _ _ (by first | omega | (simp <;> omega) | (simp [view] <;> omega) | decide)) rfl ?_) | refine o_op rfl (s_call rfl rfl rfl rfl (w25 _ _ (by first | omega | (simp <;> omega) | (simp [view] <;> omega) | decide)) rfl ?_)
  refine o_op rfl (s_assign rfl ?_)
  refine o_end ?_
  refine q_then ?_
  refine w_seq ?_
  refine w_reg tabOk hnt ?_
  refine o_op rfl (s_move rfl ?_)
  refine o_op rfl (s_move rfl ?_)
  first | refine o_op rfl (s_lenU tab_23 rfl (by first | exact holdsU_sl rfl | exact holdsU_nil rfl | exact holdsU_ref rfl rfl) ?_) | refine o_op rfl (s_len tab_23 rfl (by first | exact holds_sl rfl | exact holds_nil rfl | exact holds_ref rfl rfl rfl) ?_)
  first | refine o_op rfl (s_subi rfl rfl rfl (by omega) ?_) | refine o_op rfl (s_sub rfl rfl ?_)
  first | refine o_op rfl (s_call0 rfl rfl rfl (w17 _ _ _ (by omega)) rfl ?_) | refine o_op rfl (s_call rfl rfl rfl rfl (w17 _ _ _ (by omega)) rfl ?_)
  refine o_op rfl (s_assign rfl ?_)
  refine o_end ?_
  refine q_then ?_
  refine w_seq ?_
  obtain ⟨kk, hkk⟩ : ∃ kk : Nat, (kk : Int) = within at_ 0 (((sealL l).length : Int) - 1) := ⟨_, within_nat _ (by omega)⟩
  refine W_eq (s := 8) rfl (y := PV.f (.v (.int .i64 kk))) (by rw [hkk]) ?_
  have hlt : kk < (sealL l).length := by have := within_between at_ (lo := 0) (hi := ((sealL l).length : Int) - 1) (by omega); omega
  obtain ⟨b, hb⟩ : ∃ b, (sealL l)[kk]? = some b := ⟨(sealL l)[kk], by simp [hlt]⟩
  refine w_reg tabOk hnt ?_
  refine o_op rfl (s_buildSliceU [] tab_23 rfl tab_5 rfl (by decide) rfl rfl ?_)
  refine o_op rfl (s_move rfl ?_)
  first | refine o_op rfl (s_append_refU tab_23 rfl tab_5 ⟨rfl, rfl⟩ (srcU tab_23 rfl (by first | exact holdsU_sl rfl | exact holdsU_nil rfl | exact holdsU_ref rfl rfl)) rfl rfl (by simp [view] <;> omega) ?_) | refine o_op rfl (s_append_nilU tab_23 rfl tab_5 ⟨rfl, rfl⟩ (srcU tab_23 rfl (by first | exact holdsU_sl rfl | exact holdsU_nil rfl | exact holdsU_ref rfl rfl)) rfl (by simp [view] <;> omega) ?_) | refine o_op rfl (s_append_clipU tab_23 rfl tab_5 ⟨rfl, rfl⟩ (srcU tab_23 rfl (by first | exact holdsU_sl rfl | exact holdsU_nil rfl | exact holdsU_ref rfl rfl)) rfl (by simp [view] <;> omega) (by simp [view]) ?_)
  refine o_op rfl (s_assign rfl ?_)
  refine o_end ?_
  refine q_then ?_
  refine w_seq ?_
  refine w_reg tabOk hnt ?_
  refine o_op rfl (s_move rfl ?_)
  refine o_op rfl (s_move rfl ?_)
  first | refine o_op rfl (s_ia_U tab_23 rfl tab_5 rfl rfl rfl (by omega) (by assumption) ?_) | refine o_op rfl (s_ia_refU0 tab_23 rfl tab_5 rfl rfl rfl rfl (by omega) (by first | assumption | omega | (simp [view]; omega)) ?_) | refine o_op rfl (s_ia_refU tab_23 rfl tab_5 rfl rfl rfl rfl (by omega) (by first | assumption | omega | (simp [view]; omega)) ?_) | refine o_op rfl (s_ia_sl tab_23 rfl tab_5 rfl rfl (by omega) (by first | rfl | assumption | (exact bytesU_get (by assumption))) ?_) | refine o_op rfl (s_ia_ref0 tab_23 rfl tab_5 rfl rfl rfl (by omega) (by first | assumption | (simp [view]; omega)) ?_) | refine o_op rfl (s_ia_ref tab_23 rfl tab_5 rfl rfl rfl (by omega) (by first | assumption | (simp; omega)) ?_)
  first | refine o_op rfl (s_load_epU tab_5 rfl rfl rfl rfl (by assumption) ?_) | refine o_op rfl (s_load_ptr1 tab_5 rfl rfl rfl rfl rfl ?_) | refine o_op rfl (s_load_ro1 tab_5 rfl rfl rfl rfl ?_) | refine o_op rfl (s_load_ep1 tab_5 rfl rfl rfl rfl (by first | rfl | assumption) rfl ?_)
  refine o_op rfl (s_move rfl ?_)
  first | refine o_op rfl (s_xor8 rfl rfl ?_) | refine o_op rfl (s_xor rfl rfl ?_)
  first | refine o_op rfl (s_ia_U tab_23 rfl tab_5 rfl rfl rfl (by omega) (by assumption) ?_) | refine o_op rfl (s_ia_refU0 tab_23 rfl tab_5 rfl rfl rfl rfl (by omega) (by first | assumption | omega | (simp [view]; omega)) ?_) | refine o_op rfl (s_ia_refU tab_23 rfl tab_5 rfl rfl rfl rfl (by omega) (by first | assumption | omega | (simp [view]; omega)) ?_) | refine o_op rfl (s_ia_sl tab_23 rfl tab_5 rfl rfl (by omega) (by first | rfl | assumption | (exact bytesU_get (by assumption))) ?_) | refine o_op rfl (s_ia_ref0 tab_23 rfl tab_5 rfl rfl rfl (by omega) (by first | assumption | (simp [view]; omega)) ?_) | refine o_op rfl (s_ia_ref tab_23 rfl tab_5 rfl rfl rfl (by omega) (by first | assumption | (simp; omega)) ?_)
  first | refine o_op rfl (s_storeU tab_5 rfl rfl rfl rfl (by first | assumption | omega) ?_) | refine o_op rfl (s_store_ptr tab_5 rfl rfl rfl rfl rfl (Nat.le_of_ble_eq_true rfl) ?_) | refine o_op rfl (s_store_ep tab_5 rfl rfl rfl rfl rfl (by first | rfl | assumption) (Nat.le_of_ble_eq_true rfl) rfl rfl (by simp) ?_)
  refine o_end ?_
  refine q_then ?_
  refine w_seq ?_
  refine w_reg tabOk hnt ?_
  refine o_op rfl (s_move rfl ?_)
  first | refine o_op rfl (s_call0 rfl rfl rfl (w24 _ _ (by first | omega | (simp <;> omega) | (simp [view] <;> omega) | decide)) rfl ?_) | refine o_op rfl (s_call rfl rfl rfl rfl (w24 _ _ (by first | omega | (simp <;> omega) | (simp [view] <;> omega) | decide)) rfl ?_)
  refine o_op rfl (s_move rfl ?_)
  refine o_if rfl rfl rfl (fun g1 => ?_) (fun g1 => ?_)
  ·
    have g1' := g1
    try simp only [decide_eq_true_eq, decide_eq_false_iff_not, Bool.not_eq_true', Bool.not_eq_false', Bool.not_true, Bool.not_false, Int.not_lt, Int.not_le] at g1'
    refine o_op rfl (s_move rfl ?_)
    refine o_if rfl rfl rfl (fun _ => ?_) (fun e => absurd (e.symm.trans g1) (by decide))
    first | refine o_op rfl (s_call0 rfl rfl rfl (w24 _ _ (by first | omega | (simp <;> omega) | (simp [view] <;> omega) | decide)) rfl ?_) | refine o_op rfl (s_call rfl rfl rfl rfl (w24 _ _ (by first | omega | (simp <;> omega) | (simp [view] <;> omega) | decide)) rfl ?_)
    refine o_op rfl (s_pick_t rfl g1 rfl ?_)
    refine o_op rfl (s_move rfl ?_)
    refine o_if rfl rfl rfl (fun g2 => ?_) (fun g2 => ?_)
    ·
      have g2' := g2
      try simp only [decide_eq_true_eq, decide_eq_false_iff_not, Bool.not_eq_true', Bool.not_eq_false', Bool.not_true, Bool.not_false, Int.not_lt, Int.not_le] at g2'
      refine o_op rfl (s_move rfl ?_)
      refine o_if rfl rfl rfl (fun _ => ?_) (fun e => absurd (e.symm.trans g2) (by decide))
      first | refine o_op rfl (s_call0 rfl rfl rfl (w24 _ _ (by first | omega | (simp <;> omega) | (simp [view] <;> omega) | decide)) rfl ?_) | refine o_op rfl (s_call rfl rfl rfl rfl (w24 _ _ (by first | omega | (simp <;> omega) | (simp [view] <;> omega) | decide)) rfl ?_)
      refine o_op rfl (s_pick_t rfl g2 rfl ?_)
      refine o_op rfl (s_move rfl ?_)
      refine o_if rfl rfl rfl (fun g3 => ?_) (fun g3 => ?_)
      ·
        have g3' := g3
        try simp only [decide_eq_true_eq, decide_eq_false_iff_not, Bool.not_eq_true', Bool.not_eq_false', Bool.not_true, Bool.not_false, Int.not_lt, Int.not_le] at g3'
        refine o_op rfl (s_move rfl ?_)
        refine o_if rfl rfl rfl (fun _ => ?_) (fun e => absurd (e.symm.trans g3) (by decide))
        refine o_op rfl (s_move rfl ?_)
        refine o_if rfl rfl rfl (fun _ => ?_) (fun e => absurd (e.symm.trans g3) (by decide))
        refine o_op rfl (s_slice_U (a := 0) (b := kk) tab_23 rfl tab_5 rfl rfl bound_none (bound_some rfl rfl) (by omega) ?_)
        refine o_if rfl rfl rfl (fun _ => ?_) (fun e => absurd (e.symm.trans g3) (by decide))
        first | refine o_op rfl (s_call0 rfl rfl rfl (w24 _ _ (by first | omega | (simp <;> omega) | (simp [view] <;> omega) | decide)) rfl ?_) | refine o_op rfl (s_call rfl rfl rfl rfl (w24 _ _ (by first | omega | (simp <;> omega) | (simp [view] <;> omega) | decide)) rfl ?_)
        refine o_op rfl (s_pick_t rfl g3 rfl ?_)
        refine o_op rfl (s_move rfl ?_)
        refine o_if rfl rfl rfl (fun g4 => ?_) (fun g4 => ?_)
        ·
          have g4' := g4
          try simp only [decide_eq_true_eq, decide_eq_false_iff_not, Bool.not_eq_true', Bool.not_eq_false', Bool.not_true, Bool.not_false, Int.not_lt, Int.not_le] at g4'
          first | refine o_op rfl (s_call0 rfl rfl rfl (w26) rfl ?_) | refine o_op rfl (s_call rfl rfl rfl rfl (w26) rfl ?_)
          refine o_op rfl (s_pick_t rfl g4 rfl ?_)
          refine o_op rfl (s_assign rfl ?_)
          refine o_end ?_
          refine q_then ?_
          refine W_eq (s := 6) rfl (y := PV.f (.v (.bool true))) rfl ?_
          refine w_ret ?_
          exact fin_plain (ret_tmp rfl ret_nil) rfl rfl ⟨rfl, rfl, rfl⟩
        ·
          exact absurd g4 (by decide)
      ·
        exact absurd g3 (by decide)
    ·
      exact absurd g2 (by decide)
  ·
    exact absurd g1 (by decide)

end Go.Proofs.Yteedhlgdbankiaa
