/- Walks: printed by a program of this session (wip/tools/walk2.py) out of its notes. -/
import Derived.Test.YteedhlgdbankiaaWCrc
import Derived.Test.YteedhlgdbankiaaSpecC
set_option linter.unusedVariables false
set_option linter.unusedSimpArgs false
set_option maxRecDepth 10000
set_option maxHeartbeats 1000000
namespace Go.Proofs.Yteedhlgdbankiaa
open Go Go.Proofs.Yteedhlgdbankiaa.Pv

theorem w_burgagelaw2_CrcTurns (l : List UInt8) (cl_l : Bool) (at0 : Int) (turn : UInt16) (hl : l.length ≤ 140737488351232) (ha : -9223372036854775808 ≤ at0 ∧ at0 ≤ 9223372036854775807) :
    T Try.prog 9 [pS 1 cl_l enc8 l, pI at0, p16 turn] 0 [] (Ret (pB true) 0 []) := by
 refine t_fun tabOk (n := 102) (rs := [.tmp 6]) Try.func9 rfl rfl rfl rfl (Nat.le_of_ble_eq_true rfl) ?_
 intro c hnt hk
 refine w_seq ?_
 refine w_R ?_
 refine qa hnt rfl rfl ?_
 refine r_end ?_
 refine q_then ?_
 refine w_seq ?_
 refine w_R ?_
 refine qm hnt rfl rfl ?_
 refine qo hnt rfl (s_callX (r2 := PV.ref 0 0 none) (nx1 := 1) (H2 := []) (H3 := [(0, oB true 1 enc8 (sealL l))]) [] [] rfl rfl rfl (handed_of (by decide) trivial) rfl rfl rfl rfl rfl rfl (w_crc_Seal l cl_l (by first | omega | assumption | (simp; omega) | decide | (simp; done))) rfl (dist_of rfl) rfl rfl rfl rfl ?_)
 refine qa hnt rfl rfl ?_
 refine r_set [(0, pS 1 cl_l enc8 l), (1, pI at0), (2, p16 turn), (7, PV.ref 0 0 none)] [(0, oB true 1 enc8 (sealL l))] 1 ⟨rfl, rfl, rfl, rfl, trivial⟩ rfl rfl ?_
 refine r_end ?_
 refine q_then ?_
 refine w_seq ?_
 obtain ⟨F, hF⟩ : ∃ z, z = sealL l := ⟨_, rfl⟩
 have hFl : F.length = l.length + 2 := by rw [hF, sealL_length]
 have hop := open_sealed l
 have hcs := crc_sealed l
 rw [← hF] at hop hcs
 refine w_H (H' := [(0, oB true 1 enc8 F)]) (congrArg (fun z => ([(0, oB true 1 enc8 z)] : Heap)) (show (sealL l) = F by exact hF.symm)) ?_
 refine w_R ?_
 refine qm hnt rfl rfl ?_
 refine qo hnt rfl (s_callX (r2 := PV.tup [pS 1 false enc8 (openL F), pB (openOk F)]) (nx1 := 1) (H2 := [(0, oB false 1 enc8 F)]) (H3 := [(0, oB false 1 enc8 F)]) [] [] rfl rfl rfl (handed_of (by decide) trivial) rfl rfl rfl rfl rfl rfl (w_crc_Open F false (by first | omega | assumption | (simp; omega) | decide | (simp; done))) rfl (dist_of rfl) rfl rfl rfl rfl ?_)
 refine qm hnt rfl rfl ?_
 refine qo hnt rfl (s_extract rfl rfl ?_)
 refine qo hnt rfl (s_extract rfl rfl ?_)
 refine qa hnt rfl rfl ?_
 refine qa hnt rfl rfl ?_
 refine r_set [(0, pS 1 cl_l enc8 l), (1, pI at0), (2, p16 turn), (7, PV.ref 0 0 none), (8, pS 1 false enc8 (openL F)), (9, pB (openOk F))] [(0, oB false 1 enc8 F)] 1 ⟨rfl, rfl, rfl, rfl, rfl, rfl, trivial⟩ rfl rfl ?_
 refine r_end ?_
 refine q_then ?_
 refine w_seq ?_
 refine w_seq ?_
 refine w_R ?_
 refine qm hnt rfl rfl ?_
 refine qo hnt rfl (s_lenM (l := F) tab_23 rfl (hM_ref0 (f := enc8) rfl rfl) ?_)
 refine qm hnt rfl rfl ?_
 refine qo hnt rfl (s_lenM (l := l) tab_23 rfl (hM_sl (f := enc8) rfl) ?_)
 refine qo hnt rfl (s_addN (a := l.length) (b := 2) rfl rfl (by omega) (by omega) (by omega) ?_)
 refine qo hnt rfl (s_neq rfl rfl ?_)
 refine qm hnt rfl rfl ?_
 refine r_if tabOk hnt rfl rfl rfl (fun g1 => ?_) (fun g1 => ?_)
 ·
  have g1' := g1
  try simp only [sB] at g1'
  refine qm hnt rfl rfl ?_
  refine ry hnt rfl rfl rfl g1 ?_
  refine qo hnt rfl (s_callX (r2 := p16 (crcSum F)) (nx1 := 1) (H2 := [(0, oB false 1 enc8 F)]) (H3 := [(0, oB false 1 enc8 F)]) [] [] rfl rfl rfl (handed_of (by decide) trivial) rfl rfl rfl rfl rfl rfl (w_crc_Of F false (by first | omega | assumption | (simp; omega) | decide | (simp; done))) rfl (dist_of rfl) rfl rfl rfl rfl ?_)
  refine ry hnt rfl rfl rfl g1 ?_
  refine qo hnt rfl (s_neq16 (a := crcSum F) (b := 0) rfl rfl ?_)
  refine qo hnt rfl (s_pick_f rfl g1 rfl ?_)
  refine qm hnt rfl rfl ?_
  refine r_if tabOk hnt rfl rfl rfl (fun g2 => ?_) (fun g2 => ?_)
  ·
   have g2' := g2
   try simp only [sB] at g2'
   refine qm hnt rfl rfl ?_
   refine ry hnt rfl rfl rfl g2 ?_
   refine qo hnt rfl (s_not rfl ?_)
   refine qo hnt rfl (s_pick_f rfl g2 rfl ?_)
   refine qm hnt rfl rfl ?_
   refine r_if tabOk hnt rfl rfl rfl (fun g3 => ?_) (fun g3 => ?_)
   ·
    have g3' := g3
    try simp only [sB] at g3'
    refine qm hnt rfl rfl ?_
    refine ry hnt rfl rfl rfl g3 ?_
    refine qo hnt rfl (s_cvT tab_23 tab_9 rfl tab_5 rfl rfl (hM_sl (f := enc8) rfl) ?_)
    refine ry hnt rfl rfl rfl g3 ?_
    refine qm hnt rfl rfl ?_
    refine ry hnt rfl rfl rfl g3 ?_
    refine qo hnt rfl (s_cvT tab_23 tab_9 rfl tab_5 rfl rfl (hM_sl (f := enc8) rfl) ?_)
    refine ry hnt rfl rfl rfl g3 ?_
    refine qo hnt rfl (s_netext (l := openL F) (m := l) rfl rfl ?_)
    refine qo hnt rfl (s_pick_f rfl g3 rfl ?_)
    refine r_set [(1, pI at0), (2, p16 turn), (7, PV.ref 0 0 none), (43, pB (!decide (openL F = l)))] [(0, oB false 1 enc8 F)] 1 ⟨rfl, rfl, rfl, rfl, trivial⟩ rfl rfl ?_
    refine r_end ?_
    refine q_then ?_
    refine w_if rfl (fun c1 => ?_) (fun c1 => ?_)
    ·
     have c1_ := c1
     exact absurd c1 (by first | exact not_dec1 (by omega) | exact not_dec1 hcs | exact not_dec1 hop.2 | (rw [hop.1]; simp; done) | simp [hop.1, hop.2])
    ·
     have c1_ := c1
     try simp only [sB] at c1
     refine w_skip ?_
     refine q_then ?_
     refine w_seq ?_
     refine w_R ?_
     refine qm hnt rfl rfl ?_
     refine qm hnt rfl rfl ?_
     refine qo hnt rfl (s_lenM (l := F) tab_23 rfl (hM_ref0 (f := enc8) rfl rfl) ?_)
     refine qo hnt rfl (s_mulN (a := 8) (b := F.length) rfl rfl (by omega) (by omega) (by omega) ?_)
     refine qo hnt rfl (s_subN (a := 8 * F.length) (b := 1) rfl rfl (by omega) (by omega) (by omega) ?_)
     refine qo hnt rfl (s_callF rfl rfl rfl (w_burgagebook_Within at0 0 ((8 * F.length - 1 : Nat) : Int) (by first | omega | assumption | (simp; omega) | decide | (simp; done))) rfl ?_)
     refine qa hnt rfl rfl ?_
     refine r_end ?_
     refine q_then ?_
     refine w_seq ?_
     have hwk := within_between at0 (lo := 0) (hi := ((8 * F.length - 1 : Nat) : Int)) (by omega)
     obtain ⟨kk, hkk⟩ : ∃ k : Nat, within at0 0 (((8 * F.length - 1 : Nat) : Int)) = (k : Int) := ⟨_, (within_nat at0 (hi := ((8 * F.length - 1 : Nat) : Int)) (by omega)).symm⟩
     refine w_eq (s := 10) (y := pN kk) rfl (congrArg (fun z : Int => pI z) (show (within at0 0 ((8 * F.length - 1 : Nat) : Int)) = ((kk : Nat) : Int) by exact hkk)) ?_
     refine w_R ?_
     refine qo hnt rfl (s_mkM (f := enc8) ([] : List UInt8) tab_23 rfl tab_5 ⟨rfl, by decide⟩ (by decide) rfl rfl rfl rfl ?_)
     refine qm hnt rfl rfl ?_
     refine qo hnt rfl (s_appR0 (f := enc8) (l := ([] : List UInt8)) (xs := F) tab_23 rfl tab_5 ⟨rfl, by decide, by decide⟩ (srcM tab_23 rfl (hM_ref0 (f := enc8) rfl rfl)) rfl rfl (by first | omega | (simp; omega)) ?_)
     refine qa hnt rfl rfl ?_
     refine r_set [(2, p16 turn), (7, PV.ref 0 0 none), (10, pN kk), (11, PV.ref 2 0 none)] [(2, oB true 1 enc8 F), (0, oB false 1 enc8 F)] 3 ⟨rfl, rfl, rfl, rfl, trivial⟩ rfl rfl ?_
     refine r_end ?_
     refine q_then ?_
     refine w_seq ?_
     refine w_seq ?_
     refine w_R ?_
     refine qa hnt rfl rfl ?_
     refine r_end ?_
     refine q_then ?_
     refine w_block ?_
     refine loop2 (fun (z : List UInt8) (i : Nat) => i ≤ 16 ∧ Turned F z kk turn i) (fun (z : List UInt8) (i : Nat) => [(2, p16 turn), (7, PV.ref 1 0 none), (10, pN kk), (11, PV.ref 0 0 none), (12, pN i)]) 2 (fun (z : List UInt8) (i : Nat) => [(0, oB true 1 enc8 z), (1, oB false 1 enc8 F)]) (fun (z : List UInt8) (i : Nat) => 16 - i) (F) (0) ?_ ⟨[(0, 2), (1, 0)], by rw [hk]; decide, ⟨⟨_, rfl, rfl, rfl⟩, ⟨_, rfl, rfl, rfl⟩, ⟨_, rfl, rfl, rfl⟩, ⟨_, rfl, rfl, rfl⟩, ⟨_, rfl, rfl, rfl⟩, trivial⟩, ⟨⟨_, _, rfl, rfl, rfl, rfl⟩, ⟨_, _, rfl, rfl, rfl, rfl⟩, trivial⟩, by rw [hk]; decide⟩ ?_
     · exact ⟨by omega, Turned.zero F kk turn⟩
     ·
      intro z i hI
      obtain ⟨hi, hI⟩ := hI
      have hzl := hI.1
      refine w_seq ?_
      refine w_seq ?_
      refine w_R ?_
      refine qm hnt rfl rfl ?_
      refine qo hnt rfl (s_lss rfl rfl ?_)
      refine qm hnt rfl rfl ?_
      refine r_if tabOk hnt rfl rfl rfl (fun g4 => ?_) (fun g4 => ?_)
      ·
       have g4' := g4
       try simp only [sB] at g4'
       refine qm hnt rfl rfl ?_
       refine ry hnt rfl rfl rfl g4 ?_
       refine qm hnt rfl rfl ?_
       refine ry hnt rfl rfl rfl g4 ?_
       refine qo hnt rfl (s_addN (a := kk) (b := i) rfl rfl (by omega) (by omega) (by omega) ?_)
       refine ry hnt rfl rfl rfl g4 ?_
       refine qm hnt rfl rfl ?_
       refine ry hnt rfl rfl rfl g4 ?_
       refine qo hnt rfl (s_lenM (l := z) tab_23 rfl (hM_ref0 (f := enc8) rfl rfl) ?_)
       refine ry hnt rfl rfl rfl g4 ?_
       refine qo hnt rfl (s_mulN (a := 8) (b := z.length) rfl rfl (by omega) (by omega) (by omega) ?_)
       refine ry hnt rfl rfl rfl g4 ?_
       refine qo hnt rfl (s_lss rfl rfl ?_)
       refine qo hnt rfl (s_pick_t rfl g4 rfl ?_)
       refine r_end ?_
       refine q_then ?_
       refine w_if rfl (fun c2 => ?_) (fun c2 => ?_)
       ·
        have c2_ := c2
        try simp only [sB] at c2
        refine w_skip ?_
        refine q_then ?_
        refine w_seq ?_
        refine w_block ?_
        refine w_seq ?_
        refine w_R ?_
        refine qm hnt rfl rfl ?_
        refine qm hnt rfl rfl ?_
        refine qo hnt rfl (s_cvK tab_3 tab_48 rfl rfl rfl rfl (by exact ⟨by omega, by show _ < (18446744073709551616 : Int); omega⟩) ?_)
        refine qo hnt rfl (s_shr16 (a := turn) i rfl rfl (by first | decide | omega) ?_)
        refine qo hnt rfl (s_and16 (a := turn >>> UInt16.ofNat i) (b := 1) rfl rfl ?_)
        refine qo hnt rfl (s_eql16 (a := (turn >>> UInt16.ofNat i) &&& 1) (b := 1) rfl rfl ?_)
        refine r_end ?_
        refine q_then ?_
        refine w_if rfl (fun c3 => ?_) (fun c3 => ?_)
        ·
         have c3_ := c3
         try simp only [sB] at c3
         refine w_R ?_
         refine qm hnt rfl rfl ?_
         refine qm hnt rfl rfl ?_
         refine qm hnt rfl rfl ?_
         refine qo hnt rfl (s_addN (a := kk) (b := i) rfl rfl (by omega) (by omega) (by omega) ?_)
         refine qo hnt rfl (s_quoN (a := kk + i) (b := 8) rfl rfl (by omega) (by omega) (by omega) ?_)
         refine qo hnt rfl (s_iaR0 (q := (kk + i) / 8) (f := enc8) (l := z) tab_23 rfl tab_5 rfl rfl (by omega) rfl rfl (by omega) ?_)
         obtain ⟨e1, he1⟩ := get_of_lt z (i := (kk + i) / 8) (by omega)
         refine qo hnt rfl (s_ldM (b := e1) (f := enc8) tab_5 rfl rfl rfl rfl he1 rfl ?_)
         refine qm hnt rfl rfl ?_
         refine qm hnt rfl rfl ?_
         refine qo hnt rfl (s_addN (a := kk) (b := i) rfl rfl (by omega) (by omega) (by omega) ?_)
         refine qo hnt rfl (s_remN (a := kk + i) (b := 8) rfl rfl (by omega) (by omega) (by omega) ?_)
         refine qo hnt rfl (s_cvK tab_3 tab_48 rfl rfl rfl rfl (by exact ⟨by omega, by show _ < (18446744073709551616 : Int); omega⟩) ?_)
         refine qo hnt rfl (s_shl8 (a := 1) ((kk + i) % 8) rfl rfl (by first | rfl | omega) (by first | decide | omega) ?_)
         refine qo hnt rfl (s_xor8 (a := e1) (b := 1 <<< UInt8.ofNat ((kk + i) % 8)) rfl rfl ?_)
         refine qo hnt rfl (s_iaR0 (q := (kk + i) / 8) (f := enc8) (l := z) tab_23 rfl tab_5 rfl rfl (by omega) rfl rfl (by omega) ?_)
         refine qo hnt rfl (s_stM (y0 := e1) (z := e1 ^^^ (1 <<< UInt8.ofNat ((kk + i) % 8))) (f := enc8) tab_5 rfl rfl rfl rfl rfl he1 (Nat.le_of_ble_eq_true rfl) rfl rfl (by simp) rfl ?_)
         refine r_set [(2, p16 turn), (7, PV.ref 1 0 none), (10, pN kk), (11, PV.ref 0 0 none), (12, pN i), (56, pN kk), (57, pN i), (58, pN (kk + i)), (59, PV.ref 0 0 none), (60, pN z.length), (61, pN (8 * z.length)), (62, pB (decide (((kk + i : Nat) : Int) < ((8 * z.length : Nat) : Int))))] [(0, oB true 1 enc8 (z.set ((kk + i) / 8) (e1 ^^^ (1 <<< UInt8.ofNat ((kk + i) % 8))))), (1, oB false 1 enc8 F)] 2 ⟨rfl, rfl, rfl, rfl, rfl, rfl, rfl, rfl, rfl, rfl, rfl, rfl, trivial⟩ rfl rfl ?_
         refine r_end ?_
         refine q_block ?_
         refine q_then ?_
         refine w_R ?_
         refine qm hnt rfl rfl ?_
         refine qo hnt rfl (s_addN (a := i) (b := 1) rfl rfl (by omega) (by omega) (by omega) ?_)
         refine qa hnt rfl rfl ?_
         refine r_end ?_
         refine q_then ?_
         refine ⟨(z.set ((kk + i) / 8) (e1 ^^^ (1 <<< UInt8.ofNat ((kk + i) % 8)))), (i + 1), ?_, ?_, ⟨[(0, 0), (1, 1)], by rw [hk]; decide, ⟨⟨_, rfl, rfl, rfl⟩, ⟨_, rfl, rfl, rfl⟩, ⟨_, rfl, rfl, rfl⟩, ⟨_, rfl, rfl, rfl⟩, ⟨_, rfl, rfl, rfl⟩, trivial⟩, ⟨⟨_, _, rfl, rfl, rfl, rfl⟩, ⟨_, _, rfl, rfl, rfl, rfl⟩, trivial⟩, by rw [hk]; decide⟩⟩
         ·
          refine ⟨by omega, ?_⟩
          first | exact hI.yes (by assumption) he1 | exact hI.no (by assumption)
         · omega
        ·
         have c3_ := c3
         try simp only [sB] at c3
         refine w_skip ?_
         refine q_block ?_
         refine q_then ?_
         refine w_R ?_
         refine qm hnt rfl rfl ?_
         refine qo hnt rfl (s_addN (a := i) (b := 1) rfl rfl (by omega) (by omega) (by omega) ?_)
         refine qa hnt rfl rfl ?_
         refine r_end ?_
         refine q_then ?_
         refine ⟨(z), (i + 1), ?_, ?_, ⟨[(0, 0), (1, 1)], by rw [hk]; decide, ⟨⟨_, rfl, rfl, rfl⟩, ⟨_, rfl, rfl, rfl⟩, ⟨_, rfl, rfl, rfl⟩, ⟨_, rfl, rfl, rfl⟩, ⟨_, rfl, rfl, rfl⟩, trivial⟩, ⟨⟨_, _, rfl, rfl, rfl, rfl⟩, ⟨_, _, rfl, rfl, rfl, rfl⟩, trivial⟩, by rw [hk]; decide⟩⟩
         ·
          refine ⟨by omega, ?_⟩
          first | exact hI.yes (by assumption) he1 | exact hI.no (by assumption)
         · omega
       ·
        have c2_ := c2
        try simp only [sB] at c2
        refine w_exit ?_
        refine q_then_exit ?_
        refine q_then_exit ?_
        refine q_block_exit ?_
        refine q_then ?_
        refine w_seq ?_
        have h16 : Turned F z kk turn 16 := by first | exact hI.cut (by have := hI.1; omega) (by omega) | (obtain rfl : i = 16 := (by omega); exact hI)
        have hbr := burst_open (l := l) (z := z) (k := kk) (t := turn) (by rw [← hF]; exact h16) (by rw [← hF]; omega)
        rw [← hF] at hbr
        refine w_R ?_
        refine qm hnt rfl rfl ?_
        refine qo hnt rfl (s_callX (r2 := PV.tup [pS 1 false enc8 (openL z), pB (openOk z)]) (nx1 := 2) (H2 := [(0, oB false 1 enc8 z), (1, oB false 1 enc8 F)]) (H3 := [(0, oB false 1 enc8 z), (1, oB false 1 enc8 F)]) [] [] rfl rfl rfl (handed_of (by decide) trivial) rfl rfl rfl rfl rfl rfl (w_crc_Open z false (by first | omega | assumption | (simp; omega) | decide | (simp; done))) rfl (dist_of rfl) rfl rfl rfl rfl ?_)
        refine qm hnt rfl rfl ?_
        refine qo hnt rfl (s_extract rfl rfl ?_)
        refine qo hnt rfl (s_extract rfl rfl ?_)
        refine qa hnt rfl rfl ?_
        refine qa hnt rfl rfl ?_
        refine r_set [(7, PV.ref 1 0 none), (11, PV.ref 0 0 none), (14, pB (openOk z))] [(0, oB false 1 enc8 z), (1, oB false 1 enc8 F)] 2 ⟨rfl, rfl, rfl, trivial⟩ rfl rfl ?_
        refine r_end ?_
        refine q_then ?_
        refine w_seq ?_
        refine w_R ?_
        refine qm hnt rfl rfl ?_
        refine qm hnt rfl rfl ?_
        refine qo hnt rfl (s_cvT tab_23 tab_9 rfl tab_5 rfl rfl (hM_ref0 (f := enc8) rfl rfl) ?_)
        refine qm hnt rfl rfl ?_
        refine qo hnt rfl (s_cvT tab_23 tab_9 rfl tab_5 rfl rfl (hM_ref0 (f := enc8) rfl rfl) ?_)
        refine qo hnt rfl (s_eqtext (l := z) (m := F) rfl rfl ?_)
        refine qo hnt rfl (s_eqbool tab_4 rfl rfl rfl ?_)
        refine qm hnt rfl rfl ?_
        refine r_if tabOk hnt rfl rfl rfl (fun g5 => ?_) (fun g5 => ?_)
        ·
         have g5' := g5
         try simp only [sB] at g5'
         refine qo hnt rfl (s_callF rfl rfl rfl (w_burgagelaw2_known) rfl ?_)
         refine qo hnt rfl (s_pick_t rfl g5 rfl ?_)
         refine qa hnt rfl rfl ?_
         refine r_end ?_
         refine q_then ?_
         refine w_ret ?_
         exact fin_plain (ret_tmp rfl ret_nil) rfl rfl ⟨rfl, rfl, rfl⟩
        ·
         exact absurd g5 (by rw [hbr]; simp)
      ·
       have g4' := g4
       try simp only [sB] at g4'
       refine rn hnt rfl rfl rfl g4 ?_
       refine rn hnt rfl rfl rfl g4 ?_
       refine rn hnt rfl rfl rfl g4 ?_
       refine rn hnt rfl rfl rfl g4 ?_
       refine rn hnt rfl rfl rfl g4 ?_
       refine rn hnt rfl rfl rfl g4 ?_
       refine qo hnt rfl (s_pick_f rfl g4 rfl ?_)
       refine r_end ?_
       refine q_then ?_
       refine w_if rfl (fun e => absurd e (by decide)) (fun _ => ?_)
       refine w_exit ?_
       refine q_then_exit ?_
       refine q_then_exit ?_
       refine q_block_exit ?_
       refine q_then ?_
       refine w_seq ?_
       have h16 : Turned F z kk turn 16 := by first | exact hI.cut (by have := hI.1; omega) (by omega) | (obtain rfl : i = 16 := (by omega); exact hI)
       have hbr := burst_open (l := l) (z := z) (k := kk) (t := turn) (by rw [← hF]; exact h16) (by rw [← hF]; omega)
       rw [← hF] at hbr
       refine w_R ?_
       refine qm hnt rfl rfl ?_
       refine qo hnt rfl (s_callX (r2 := PV.tup [pS 1 false enc8 (openL z), pB (openOk z)]) (nx1 := 2) (H2 := [(0, oB false 1 enc8 z), (1, oB false 1 enc8 F)]) (H3 := [(0, oB false 1 enc8 z), (1, oB false 1 enc8 F)]) [] [] rfl rfl rfl (handed_of (by decide) trivial) rfl rfl rfl rfl rfl rfl (w_crc_Open z false (by first | omega | assumption | (simp; omega) | decide | (simp; done))) rfl (dist_of rfl) rfl rfl rfl rfl ?_)
       refine qm hnt rfl rfl ?_
       refine qo hnt rfl (s_extract rfl rfl ?_)
       refine qo hnt rfl (s_extract rfl rfl ?_)
       refine qa hnt rfl rfl ?_
       refine qa hnt rfl rfl ?_
       refine r_set [(7, PV.ref 1 0 none), (11, PV.ref 0 0 none), (14, pB (openOk z))] [(0, oB false 1 enc8 z), (1, oB false 1 enc8 F)] 2 ⟨rfl, rfl, rfl, trivial⟩ rfl rfl ?_
       refine r_end ?_
       refine q_then ?_
       refine w_seq ?_
       refine w_R ?_
       refine qm hnt rfl rfl ?_
       refine qm hnt rfl rfl ?_
       refine qo hnt rfl (s_cvT tab_23 tab_9 rfl tab_5 rfl rfl (hM_ref0 (f := enc8) rfl rfl) ?_)
       refine qm hnt rfl rfl ?_
       refine qo hnt rfl (s_cvT tab_23 tab_9 rfl tab_5 rfl rfl (hM_ref0 (f := enc8) rfl rfl) ?_)
       refine qo hnt rfl (s_eqtext (l := z) (m := F) rfl rfl ?_)
       refine qo hnt rfl (s_eqbool tab_4 rfl rfl rfl ?_)
       refine qm hnt rfl rfl ?_
       refine r_if tabOk hnt rfl rfl rfl (fun g6 => ?_) (fun g6 => ?_)
       ·
        have g6' := g6
        try simp only [sB] at g6'
        refine qo hnt rfl (s_callF rfl rfl rfl (w_burgagelaw2_known) rfl ?_)
        refine qo hnt rfl (s_pick_t rfl g6 rfl ?_)
        refine qa hnt rfl rfl ?_
        refine r_end ?_
        refine q_then ?_
        refine w_ret ?_
        exact fin_plain (ret_tmp rfl ret_nil) rfl rfl ⟨rfl, rfl, rfl⟩
       ·
        exact absurd g6 (by rw [hbr]; simp)
   ·
    exact absurd g3 (by first | exact not_dec1 (by omega) | exact not_dec1 hcs | exact not_dec1 hop.2 | (rw [hop.1]; simp; done) | simp [hop.1, hop.2])
  ·
   exact absurd g2 (by first | exact not_dec1 (by omega) | exact not_dec1 hcs | exact not_dec1 hop.2 | (rw [hop.1]; simp; done) | simp [hop.1, hop.2])
 ·
  exact absurd g1 (by first | exact not_dec1 (by omega) | exact not_dec1 hcs | exact not_dec1 hop.2 | (rw [hop.1]; simp; done) | simp [hop.1, hop.2])

end Go.Proofs.Yteedhlgdbankiaa
