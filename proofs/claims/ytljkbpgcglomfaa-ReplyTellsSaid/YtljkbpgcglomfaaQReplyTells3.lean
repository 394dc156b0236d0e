/- What the law ReplyTells needs, and no more: merged out of texts of this session by a program of it (wip/tools/prune.py). -/
import Derived.Test.YtljkbpgcglomfaaQReplyTells2
set_option linter.unusedVariables false
set_option linter.unusedSimpArgs false
set_option maxRecDepth 10000
set_option maxHeartbeats 1000000
namespace Go.Proofs.Ytljkbpgcglomfaa
open Go Go.Proofs.Ytljkbpgcglomfaa.Pv
theorem w_reply_Same (a : TReply) (b : TReply) (ha : a.bits.length ≤ 140737488351232 ∧ a.vals.length ≤ 140737488351232 ∧ a.data.length ≤ 140737488351232) :
    T Try.prog 33 [PV.f (eReply a),PV.f (eReply b)] 0 [] (Ret (pB (decide (a = b))) 0 []) := by
 refine t_fun tabOk (n := 73) (rs := [.tmp 4]) Try.func33 rfl rfl rfl rfl (Nat.le_of_ble_eq_true rfl) ?_
 intro c hnt hk
 refine w_seq (w_R (qo hnt rfl (s_box rfl rfl ?_)))
 refine qo hnt rfl (s_box rfl rfl ?_)
 refine qa hnt rfl rfl (r_set [(2,PV.ptr 0 0),(3,PV.ptr 1 0)] [(1,.obj (cReply b)),(0,.obj (cReply a))] 2 ⟨rfl,rfl,trivial⟩ rfl rfl (r_end (q_then (w_seq (w_R ?_)))))
 refine qo hnt rfl (s_fa_ptr tab_53 rfl rfl tab_3 (by decide) rfl ?_)
 refine qo hnt rfl (s_load_ptr1 tab_3 rfl rfl rfl rfl rfl ?_)
 refine qo hnt rfl (s_fa_ptr tab_53 rfl rfl tab_3 (by decide) rfl ?_)
 refine qo hnt rfl (s_load_ptr1 tab_3 rfl rfl rfl rfl rfl ?_)
 refine qo hnt rfl (s_eql rfl rfl ?_)
 refine qm hnt rfl rfl (r_cut0 6 [(2,PV.ptr 0 0),(3,PV.ptr 1 0),(16,pB ((decide (a.fn = b.fn)) && (decide (a.code = b.code))))] ?_ ?_)
 ·refine r_if tabOk hnt rfl rfl rfl (fun g1 => ?_) (fun g1 => ?_)
  ·have g1' := g1
   try simp only [sB] at g1'
   refine qo hnt rfl (s_fa_ptr tab_53 rfl rfl tab_3 (by decide) rfl ?_)
   refine ry hnt rfl rfl rfl g1 (qo hnt rfl (s_load_ptr1 tab_3 rfl rfl rfl rfl rfl ?_))
   refine ry hnt rfl rfl rfl g1 (qo hnt rfl (s_fa_ptr tab_53 rfl rfl tab_3 (by decide) rfl ?_))
   refine ry hnt rfl rfl rfl g1 (qo hnt rfl (s_load_ptr1 tab_3 rfl rfl rfl rfl rfl ?_))
   refine ry hnt rfl rfl rfl g1 (qo hnt rfl (s_eql rfl rfl ?_))
   refine qo hnt rfl (s_pick_t rfl g1 rfl ?_)
   refine r_eq (s := 16) (y := pB ((decide (a.fn = b.fn)) && (decide (a.code = b.code)))) rfl (mix_at g1) ?_
   exact r_mid ⟨⟨rfl,rfl,rfl,trivial⟩,rfl,rfl⟩
  ·have g1' := g1
   try simp only [sB] at g1'
   refine rn hnt rfl rfl rfl g1 (rn hnt rfl rfl rfl g1 (rn hnt rfl rfl rfl g1 (rn hnt rfl rfl rfl g1 (qo hnt rfl (s_pick_f rfl g1 rfl ?_)))))
   refine r_eq (s := 16) (y := pB ((decide (a.fn = b.fn)) && (decide (a.code = b.code)))) rfl (mix_af _ g1) ?_
   exact r_mid ⟨⟨rfl,rfl,rfl,trivial⟩,rfl,rfl⟩
 ·refine qm hnt rfl rfl (r_cut0 6 [(2,PV.ptr 0 0),(3,PV.ptr 1 0),(23,pB (((decide (a.fn = b.fn)) && (decide (a.code = b.code))) && (decide (a.at_ = b.at_))))] ?_ ?_)
  ·refine r_if tabOk hnt rfl rfl rfl (fun g2 => ?_) (fun g2 => ?_)
   ·have g2' := g2
    try simp only [sB] at g2'
    refine qo hnt rfl (s_fa_ptr tab_53 rfl rfl tab_3 (by decide) rfl ?_)
    refine ry hnt rfl rfl rfl g2 (qo hnt rfl (s_load_ptr1 tab_3 rfl rfl rfl rfl rfl ?_))
    refine ry hnt rfl rfl rfl g2 (qo hnt rfl (s_fa_ptr tab_53 rfl rfl tab_3 (by decide) rfl ?_))
    refine ry hnt rfl rfl rfl g2 (qo hnt rfl (s_load_ptr1 tab_3 rfl rfl rfl rfl rfl ?_))
    refine ry hnt rfl rfl rfl g2 (qo hnt rfl (s_eql rfl rfl ?_))
    refine qo hnt rfl (s_pick_t rfl g2 rfl ?_)
    refine r_eq (s := 23) (y := pB (((decide (a.fn = b.fn)) && (decide (a.code = b.code))) && (decide (a.at_ = b.at_)))) rfl (mix_at g2) ?_
    exact r_mid ⟨⟨rfl,rfl,rfl,trivial⟩,rfl,rfl⟩
   ·have g2' := g2
    try simp only [sB] at g2'
    refine rn hnt rfl rfl rfl g2 (rn hnt rfl rfl rfl g2 (rn hnt rfl rfl rfl g2 (rn hnt rfl rfl rfl g2 (qo hnt rfl (s_pick_f rfl g2 rfl ?_)))))
    refine r_eq (s := 23) (y := pB (((decide (a.fn = b.fn)) && (decide (a.code = b.code))) && (decide (a.at_ = b.at_)))) rfl (mix_af _ g2) ?_
    exact r_mid ⟨⟨rfl,rfl,rfl,trivial⟩,rfl,rfl⟩
  ·refine qm hnt rfl rfl (r_cut0 6 [(2,PV.ptr 0 0),(3,PV.ptr 1 0),(30,pB ((((decide (a.fn = b.fn)) && (decide (a.code = b.code))) && (decide (a.at_ = b.at_))) && (decide (a.count = b.count))))] ?_ ?_)
   ·refine r_if tabOk hnt rfl rfl rfl (fun g3 => ?_) (fun g3 => ?_)
    ·have g3' := g3
     try simp only [sB] at g3'
     refine qo hnt rfl (s_fa_ptr tab_53 rfl rfl tab_3 (by decide) rfl ?_)
     refine ry hnt rfl rfl rfl g3 (qo hnt rfl (s_load_ptr1 tab_3 rfl rfl rfl rfl rfl ?_))
     refine ry hnt rfl rfl rfl g3 (qo hnt rfl (s_fa_ptr tab_53 rfl rfl tab_3 (by decide) rfl ?_))
     refine ry hnt rfl rfl rfl g3 (qo hnt rfl (s_load_ptr1 tab_3 rfl rfl rfl rfl rfl ?_))
     refine ry hnt rfl rfl rfl g3 (qo hnt rfl (s_eql rfl rfl ?_))
     refine qo hnt rfl (s_pick_t rfl g3 rfl ?_)
     refine r_eq (s := 30) (y := pB ((((decide (a.fn = b.fn)) && (decide (a.code = b.code))) && (decide (a.at_ = b.at_))) && (decide (a.count = b.count)))) rfl (mix_at g3) ?_
     exact r_mid ⟨⟨rfl,rfl,rfl,trivial⟩,rfl,rfl⟩
    ·have g3' := g3
     try simp only [sB] at g3'
     refine rn hnt rfl rfl rfl g3 (rn hnt rfl rfl rfl g3 (rn hnt rfl rfl rfl g3 (rn hnt rfl rfl rfl g3 (qo hnt rfl (s_pick_f rfl g3 rfl ?_)))))
     refine r_eq (s := 30) (y := pB ((((decide (a.fn = b.fn)) && (decide (a.code = b.code))) && (decide (a.at_ = b.at_))) && (decide (a.count = b.count)))) rfl (mix_af _ g3) ?_
     exact r_mid ⟨⟨rfl,rfl,rfl,trivial⟩,rfl,rfl⟩
   ·refine qm hnt rfl rfl (r_cut0 6 [(2,PV.ptr 0 0),(3,PV.ptr 1 0),(37,pB (((((decide (a.fn = b.fn)) && (decide (a.code = b.code))) && (decide (a.at_ = b.at_))) && (decide (a.count = b.count))) && (decide (a.sub = b.sub))))] ?_ ?_)
    ·refine r_if tabOk hnt rfl rfl rfl (fun g4 => ?_) (fun g4 => ?_)
     ·have g4' := g4
      try simp only [sB] at g4'
      refine qo hnt rfl (s_fa_ptr tab_53 rfl rfl tab_3 (by decide) rfl ?_)
      refine ry hnt rfl rfl rfl g4 (qo hnt rfl (s_load_ptr1 tab_3 rfl rfl rfl rfl rfl ?_))
      refine ry hnt rfl rfl rfl g4 (qo hnt rfl (s_fa_ptr tab_53 rfl rfl tab_3 (by decide) rfl ?_))
      refine ry hnt rfl rfl rfl g4 (qo hnt rfl (s_load_ptr1 tab_3 rfl rfl rfl rfl rfl ?_))
      refine ry hnt rfl rfl rfl g4 (qo hnt rfl (s_eql rfl rfl ?_))
      refine qo hnt rfl (s_pick_t rfl g4 rfl ?_)
      refine r_eq (s := 37) (y := pB (((((decide (a.fn = b.fn)) && (decide (a.code = b.code))) && (decide (a.at_ = b.at_))) && (decide (a.count = b.count))) && (decide (a.sub = b.sub)))) rfl (mix_at g4) ?_
      exact r_mid ⟨⟨rfl,rfl,rfl,trivial⟩,rfl,rfl⟩
     ·have g4' := g4
      try simp only [sB] at g4'
      refine rn hnt rfl rfl rfl g4 (rn hnt rfl rfl rfl g4 (rn hnt rfl rfl rfl g4 (rn hnt rfl rfl rfl g4 (qo hnt rfl (s_pick_f rfl g4 rfl ?_)))))
      refine r_eq (s := 37) (y := pB (((((decide (a.fn = b.fn)) && (decide (a.code = b.code))) && (decide (a.at_ = b.at_))) && (decide (a.count = b.count))) && (decide (a.sub = b.sub)))) rfl (mix_af _ g4) ?_
      exact r_mid ⟨⟨rfl,rfl,rfl,trivial⟩,rfl,rfl⟩
    ·refine qm hnt rfl rfl (r_cut0 6 [(2,PV.ptr 0 0),(3,PV.ptr 1 0),(44,pB ((((((decide (a.fn = b.fn)) && (decide (a.code = b.code))) && (decide (a.at_ = b.at_))) && (decide (a.count = b.count))) && (decide (a.sub = b.sub))) && (decide (a.and_ = b.and_))))] ?_ ?_)
     ·refine r_if tabOk hnt rfl rfl rfl (fun g5 => ?_) (fun g5 => ?_)
      ·have g5' := g5
       try simp only [sB] at g5'
       refine qo hnt rfl (s_fa_ptr tab_53 rfl rfl tab_44 (by decide) rfl ?_)
       refine ry hnt rfl rfl rfl g5 (qo hnt rfl (s_load_ptr1 tab_44 rfl rfl rfl rfl rfl ?_))
       refine ry hnt rfl rfl rfl g5 (qo hnt rfl (s_fa_ptr tab_53 rfl rfl tab_44 (by decide) rfl ?_))
       refine ry hnt rfl rfl rfl g5 (qo hnt rfl (s_load_ptr1 tab_44 rfl rfl rfl rfl rfl ?_))
       refine ry hnt rfl rfl rfl g5 (qo hnt rfl (s_eql16 (a := a.and_) (b := b.and_) rfl rfl ?_))
       refine qo hnt rfl (s_pick_t rfl g5 rfl ?_)
       refine r_eq (s := 44) (y := pB ((((((decide (a.fn = b.fn)) && (decide (a.code = b.code))) && (decide (a.at_ = b.at_))) && (decide (a.count = b.count))) && (decide (a.sub = b.sub))) && (decide (a.and_ = b.and_)))) rfl (mix_at g5) ?_
       exact r_mid ⟨⟨rfl,rfl,rfl,trivial⟩,rfl,rfl⟩
      ·have g5' := g5
       try simp only [sB] at g5'
       refine rn hnt rfl rfl rfl g5 (rn hnt rfl rfl rfl g5 (rn hnt rfl rfl rfl g5 (rn hnt rfl rfl rfl g5 (qo hnt rfl (s_pick_f rfl g5 rfl ?_)))))
       refine r_eq (s := 44) (y := pB ((((((decide (a.fn = b.fn)) && (decide (a.code = b.code))) && (decide (a.at_ = b.at_))) && (decide (a.count = b.count))) && (decide (a.sub = b.sub))) && (decide (a.and_ = b.and_)))) rfl (mix_af _ g5) ?_
       exact r_mid ⟨⟨rfl,rfl,rfl,trivial⟩,rfl,rfl⟩
     ·refine qm hnt rfl rfl (r_cut0 6 [(2,PV.ptr 0 0),(3,PV.ptr 1 0),(51,pB (((((((decide (a.fn = b.fn)) && (decide (a.code = b.code))) && (decide (a.at_ = b.at_))) && (decide (a.count = b.count))) && (decide (a.sub = b.sub))) && (decide (a.and_ = b.and_))) && (decide (a.or_ = b.or_))))] ?_ ?_)
      ·refine r_if tabOk hnt rfl rfl rfl (fun g6 => ?_) (fun g6 => ?_)
       ·have g6' := g6
        try simp only [sB] at g6'
        refine qo hnt rfl (s_fa_ptr tab_53 rfl rfl tab_44 (by decide) rfl ?_)
        refine ry hnt rfl rfl rfl g6 (qo hnt rfl (s_load_ptr1 tab_44 rfl rfl rfl rfl rfl ?_))
        refine ry hnt rfl rfl rfl g6 (qo hnt rfl (s_fa_ptr tab_53 rfl rfl tab_44 (by decide) rfl ?_))
        refine ry hnt rfl rfl rfl g6 (qo hnt rfl (s_load_ptr1 tab_44 rfl rfl rfl rfl rfl ?_))
        refine ry hnt rfl rfl rfl g6 (qo hnt rfl (s_eql16 (a := a.or_) (b := b.or_) rfl rfl ?_))
        refine qo hnt rfl (s_pick_t rfl g6 rfl ?_)
        refine r_eq (s := 51) (y := pB (((((((decide (a.fn = b.fn)) && (decide (a.code = b.code))) && (decide (a.at_ = b.at_))) && (decide (a.count = b.count))) && (decide (a.sub = b.sub))) && (decide (a.and_ = b.and_))) && (decide (a.or_ = b.or_)))) rfl (mix_at g6) ?_
        exact r_mid ⟨⟨rfl,rfl,rfl,trivial⟩,rfl,rfl⟩
       ·have g6' := g6
        try simp only [sB] at g6'
        refine rn hnt rfl rfl rfl g6 (rn hnt rfl rfl rfl g6 (rn hnt rfl rfl rfl g6 (rn hnt rfl rfl rfl g6 (qo hnt rfl (s_pick_f rfl g6 rfl ?_)))))
        refine r_eq (s := 51) (y := pB (((((((decide (a.fn = b.fn)) && (decide (a.code = b.code))) && (decide (a.at_ = b.at_))) && (decide (a.count = b.count))) && (decide (a.sub = b.sub))) && (decide (a.and_ = b.and_))) && (decide (a.or_ = b.or_)))) rfl (mix_af _ g6) ?_
        exact r_mid ⟨⟨rfl,rfl,rfl,trivial⟩,rfl,rfl⟩
      ·refine qm hnt rfl rfl (r_cut0 6 [(2,PV.ptr 0 0),(3,PV.ptr 1 0),(58,pB ((((((((decide (a.fn = b.fn)) && (decide (a.code = b.code))) && (decide (a.at_ = b.at_))) && (decide (a.count = b.count))) && (decide (a.sub = b.sub))) && (decide (a.and_ = b.and_))) && (decide (a.or_ = b.or_))) && (decide (a.bits = b.bits))))] ?_ ?_)
       ·refine r_if tabOk hnt rfl rfl rfl (fun g7 => ?_) (fun g7 => ?_)
        ·have g7' := g7
         try simp only [sB] at g7'
         refine qo hnt rfl (s_fa_ptr tab_53 rfl rfl tab_42 (by decide) rfl ?_)
         refine ry hnt rfl rfl rfl g7 (qo hnt rfl (s_load_ptr1 tab_42 rfl rfl rfl rfl rfl ?_))
         refine ry hnt rfl rfl rfl g7 (qo hnt rfl (s_fa_ptr tab_53 rfl rfl tab_42 (by decide) rfl ?_))
         refine ry hnt rfl rfl rfl g7 (qo hnt rfl (s_load_ptr1 tab_42 rfl rfl rfl rfl rfl ?_))
         refine ry hnt rfl rfl rfl g7 (qo hnt rfl (s_callF rfl rfl rfl (w_slices_Equal_bool_bool a.bits false b.bits false (by omega)) rfl ?_))
         refine qo hnt rfl (s_pick_t rfl g7 rfl ?_)
         refine r_eq (s := 58) (y := pB ((((((((decide (a.fn = b.fn)) && (decide (a.code = b.code))) && (decide (a.at_ = b.at_))) && (decide (a.count = b.count))) && (decide (a.sub = b.sub))) && (decide (a.and_ = b.and_))) && (decide (a.or_ = b.or_))) && (decide (a.bits = b.bits)))) rfl (mix_at g7) ?_
         exact r_mid ⟨⟨rfl,rfl,rfl,trivial⟩,rfl,rfl⟩
        ·have g7' := g7
         try simp only [sB] at g7'
         refine rn hnt rfl rfl rfl g7 (rn hnt rfl rfl rfl g7 (rn hnt rfl rfl rfl g7 (rn hnt rfl rfl rfl g7 (qo hnt rfl (s_pick_f rfl g7 rfl ?_)))))
         refine r_eq (s := 58) (y := pB ((((((((decide (a.fn = b.fn)) && (decide (a.code = b.code))) && (decide (a.at_ = b.at_))) && (decide (a.count = b.count))) && (decide (a.sub = b.sub))) && (decide (a.and_ = b.and_))) && (decide (a.or_ = b.or_))) && (decide (a.bits = b.bits)))) rfl (mix_af _ g7) ?_
         exact r_mid ⟨⟨rfl,rfl,rfl,trivial⟩,rfl,rfl⟩
       ·refine qm hnt rfl rfl (r_cut0 6 [(2,PV.ptr 0 0),(3,PV.ptr 1 0),(65,pB (((((((((decide (a.fn = b.fn)) && (decide (a.code = b.code))) && (decide (a.at_ = b.at_))) && (decide (a.count = b.count))) && (decide (a.sub = b.sub))) && (decide (a.and_ = b.and_))) && (decide (a.or_ = b.or_))) && (decide (a.bits = b.bits))) && (decide (a.vals = b.vals))))] ?_ ?_)
        ·refine r_if tabOk hnt rfl rfl rfl (fun g8 => ?_) (fun g8 => ?_)
         ·have g8' := g8
          try simp only [sB] at g8'
          refine qo hnt rfl (s_fa_ptr tab_53 rfl rfl tab_43 (by decide) rfl ?_)
          refine ry hnt rfl rfl rfl g8 (qo hnt rfl (s_load_ptr1 tab_43 rfl rfl rfl rfl rfl ?_))
          refine ry hnt rfl rfl rfl g8 (qo hnt rfl (s_fa_ptr tab_53 rfl rfl tab_43 (by decide) rfl ?_))
          refine ry hnt rfl rfl rfl g8 (qo hnt rfl (s_load_ptr1 tab_43 rfl rfl rfl rfl rfl ?_))
          refine ry hnt rfl rfl rfl g8 (qo hnt rfl (s_callF rfl rfl rfl (w_slices_Equal_uint16_uint16 a.vals false b.vals false (by omega)) rfl ?_))
          refine qo hnt rfl (s_pick_t rfl g8 rfl ?_)
          refine r_eq (s := 65) (y := pB (((((((((decide (a.fn = b.fn)) && (decide (a.code = b.code))) && (decide (a.at_ = b.at_))) && (decide (a.count = b.count))) && (decide (a.sub = b.sub))) && (decide (a.and_ = b.and_))) && (decide (a.or_ = b.or_))) && (decide (a.bits = b.bits))) && (decide (a.vals = b.vals)))) rfl (mix_at g8) ?_
          exact r_mid ⟨⟨rfl,rfl,rfl,trivial⟩,rfl,rfl⟩
         ·have g8' := g8
          try simp only [sB] at g8'
          refine rn hnt rfl rfl rfl g8 (rn hnt rfl rfl rfl g8 (rn hnt rfl rfl rfl g8 (rn hnt rfl rfl rfl g8 (qo hnt rfl (s_pick_f rfl g8 rfl ?_)))))
          refine r_eq (s := 65) (y := pB (((((((((decide (a.fn = b.fn)) && (decide (a.code = b.code))) && (decide (a.at_ = b.at_))) && (decide (a.count = b.count))) && (decide (a.sub = b.sub))) && (decide (a.and_ = b.and_))) && (decide (a.or_ = b.or_))) && (decide (a.bits = b.bits))) && (decide (a.vals = b.vals)))) rfl (mix_af _ g8) ?_
          exact r_mid ⟨⟨rfl,rfl,rfl,trivial⟩,rfl,rfl⟩
        ·refine qm hnt rfl rfl (r_cut0 6 [(72,pB ((((((((((decide (a.fn = b.fn)) && (decide (a.code = b.code))) && (decide (a.at_ = b.at_))) && (decide (a.count = b.count))) && (decide (a.sub = b.sub))) && (decide (a.and_ = b.and_))) && (decide (a.or_ = b.or_))) && (decide (a.bits = b.bits))) && (decide (a.vals = b.vals))) && (decide (a.data = b.data))))] ?_ ?_)
         ·refine r_if tabOk hnt rfl rfl rfl (fun g9 => ?_) (fun g9 => ?_)
          ·have g9' := g9
           try simp only [sB] at g9'
           refine qo hnt rfl (s_fa_ptr tab_53 rfl rfl tab_51 (by decide) rfl ?_)
           refine ry hnt rfl rfl rfl g9 (qo hnt rfl (s_load_ptr1 tab_51 rfl rfl rfl rfl rfl ?_))
           refine ry hnt rfl rfl rfl g9 (qo hnt rfl (s_fa_ptr tab_53 rfl rfl tab_51 (by decide) rfl ?_))
           refine ry hnt rfl rfl rfl g9 (qo hnt rfl (s_load_ptr1 tab_51 rfl rfl rfl rfl rfl ?_))
           refine ry hnt rfl rfl rfl g9 (qo hnt rfl (s_callF rfl rfl rfl (w_slices_Equal_byte_byte a.data false b.data false (by omega)) rfl ?_))
           refine qo hnt rfl (s_pick_t rfl g9 rfl ?_)
           refine r_eq (s := 72) (y := pB ((((((((((decide (a.fn = b.fn)) && (decide (a.code = b.code))) && (decide (a.at_ = b.at_))) && (decide (a.count = b.count))) && (decide (a.sub = b.sub))) && (decide (a.and_ = b.and_))) && (decide (a.or_ = b.or_))) && (decide (a.bits = b.bits))) && (decide (a.vals = b.vals))) && (decide (a.data = b.data)))) rfl (mix_at g9) ?_
           exact r_mid ⟨⟨rfl,trivial⟩,rfl,rfl⟩
          ·have g9' := g9
           try simp only [sB] at g9'
           refine rn hnt rfl rfl rfl g9 (rn hnt rfl rfl rfl g9 (rn hnt rfl rfl rfl g9 (rn hnt rfl rfl rfl g9 (qo hnt rfl (s_pick_f rfl g9 rfl ?_)))))
           refine r_eq (s := 72) (y := pB ((((((((((decide (a.fn = b.fn)) && (decide (a.code = b.code))) && (decide (a.at_ = b.at_))) && (decide (a.count = b.count))) && (decide (a.sub = b.sub))) && (decide (a.and_ = b.and_))) && (decide (a.or_ = b.or_))) && (decide (a.bits = b.bits))) && (decide (a.vals = b.vals))) && (decide (a.data = b.data)))) rfl (mix_af _ g9) ?_
           exact r_mid ⟨⟨rfl,trivial⟩,rfl,rfl⟩
         ·refine qa hnt rfl rfl (r_end (q_then (w_le (s := 4) (y := pB (decide (a = b))) rfl (le_of_eq (congrArg pB (show ((((((((((decide (a.fn = b.fn)) && (decide (a.code = b.code))) && (decide (a.at_ = b.at_))) && (decide (a.count = b.count))) && (decide (a.sub = b.sub))) && (decide (a.and_ = b.and_))) && (decide (a.or_ = b.or_))) && (decide (a.bits = b.bits))) && (decide (a.vals = b.vals))) && (decide (a.data = b.data))) = (decide (a = b)) by apply Bool.eq_iff_iff.2; simp only [Bool.and_eq_true,decide_eq_true_eq]; cases a; cases b; simp only [TReply.mk.injEq]; constructor <;> (intro h; simp_all)))) (w_ret ?_))))
          exact fin_plain (ret_tmp rfl ret_nil) rfl rfl ⟨rfl,rfl,rfl⟩
theorem w_reply_has (r : TReply) (hr : r.bits.length ≤ 140737488351232 ∧ r.vals.length ≤ 140737488351232 ∧ r.data.length ≤ 140737488351232) :
    T Try.prog 95 [PV.f (eReply r)] 0 [] (Ret (PV.tup [PV.f (eReply (hasA r)),pB (hasF r.fn)]) 0 []) := by
 refine t_fun tabOk (n := 73) (rs := [.cell 2 53,.tmp 3]) Try.func95 rfl rfl rfl rfl (Nat.le_of_ble_eq_true rfl) ?_
 intro c hnt hk
 refine w_seq (w_R (qo hnt rfl (s_box rfl rfl ?_)))
 refine qo hnt rfl (s_alloc tab_53 ?_)
 refine qa hnt rfl rfl (r_set [(1,PV.ptr 0 0),(2,PV.ptr 1 0)] [(1,.obj [pI 0,pI 0,pI 0,pI 0,pI 0,pNil,pNil,p16 0,p16 0,pNil]),(0,.obj (cReply r))] 2 ⟨rfl,rfl,trivial⟩ rfl rfl (r_end (q_then (w_seq (w_R ?_)))))
 refine qo hnt rfl (s_fa_ptr tab_53 rfl rfl tab_3 (by decide) rfl ?_)
 refine qo hnt rfl (s_load_ptr1 tab_3 rfl rfl rfl rfl rfl ?_)
 refine qo hnt rfl (s_fa_ptr tab_53 rfl rfl tab_3 (by decide) rfl ?_)
 refine qo hnt rfl (s_store_ptr tab_3 rfl rfl rfl rfl rfl (Nat.le_of_ble_eq_true rfl) ?_)
 refine r_set [(1,PV.ptr 0 0),(2,PV.ptr 1 0)] [(1,.obj [pI r.fn,pI 0,pI 0,pI 0,pI 0,pNil,pNil,p16 0,p16 0,pNil]),(0,.obj (cReply r))] 2 ⟨rfl,rfl,trivial⟩ rfl rfl (r_end (q_then (w_seq (w_seq (w_R ?_)))))
 refine qo hnt rfl (s_fa_ptr tab_53 rfl rfl tab_3 (by decide) rfl ?_)
 refine qo hnt rfl (s_load_ptr1 tab_3 rfl rfl rfl rfl rfl ?_)
 refine r_end (q_then (w_block (join1 (fun (bb1 : Bool) => bb1 = ((decide (r.fn = 1)) || (decide (r.fn = 2)))) (fun (bb1 : Bool) => [(1,PV.ptr 0 0),(2,PV.ptr 1 0),(8,pI r.fn),(10,pB bb1)]) 2 (fun (bb1 : Bool) => [(0,.obj (cReply r)),(1,.obj [pI r.fn,pI 0,pI 0,pI 0,pI 0,pNil,pNil,p16 0,p16 0,pNil])]) ?_ ?_)))
 ·refine w_seq (w_R (qo hnt rfl (s_eql rfl rfl ?_)))
  refine qa hnt rfl rfl (r_end (q_then (w_if rfl (fun c1 => ?_) (fun c1 => ?_))))
  ·have c1_ := c1
   try simp only [sB] at c1
   refine w_skip (q_then (⟨(decide (r.fn = 1)), ?_,⟨[(0,0),(1,1)],by rw [hk]; decide,⟨⟨_,rfl,rfl,rfl⟩,⟨_,rfl,rfl,rfl⟩,⟨_,rfl,rfl,rfl⟩,⟨_,rfl,rfl,rfl⟩,trivial⟩,⟨⟨_,_,rfl,rfl,rfl,rfl⟩,⟨_,_,rfl,rfl,rfl,rfl⟩,trivial⟩,by rw [hk]; decide⟩⟩))
   simp only [c1_,Bool.true_or,Bool.false_or]
  have c1_ := c1
  try simp only [sB] at c1
  refine w_R (qo hnt rfl (s_eql rfl rfl ?_))
  refine qa hnt rfl rfl (r_end (q_then (⟨(decide (r.fn = 2)), ?_,⟨[(0,0),(1,1)],by rw [hk]; decide,⟨⟨_,rfl,rfl,rfl⟩,⟨_,rfl,rfl,rfl⟩,⟨_,rfl,rfl,rfl⟩,⟨_,rfl,rfl,rfl⟩,trivial⟩,⟨⟨_,_,rfl,rfl,rfl,rfl⟩,⟨_,_,rfl,rfl,rfl,rfl⟩,trivial⟩,by rw [hk]; decide⟩⟩)))
  simp only [c1_,Bool.true_or,Bool.false_or]
 intro bb1 hbb1
 subst hbb1
 refine w_if rfl (fun c2 => ?_) (fun c2 => ?_)
 ·try simp only [sB,Bool.or_eq_true,Bool.or_eq_false_iff] at c2
  refine w_R (qo hnt rfl (s_fa_ptr tab_53 rfl rfl tab_42 (by decide) rfl ?_))
  refine qo hnt rfl (s_load_ptr1 tab_42 rfl rfl rfl rfl rfl ?_)
  refine qo hnt rfl (s_fa_ptr tab_53 rfl rfl tab_42 (by decide) rfl ?_)
  refine qo hnt rfl (s_store_ptr tab_42 rfl rfl rfl rfl rfl (Nat.le_of_ble_eq_true rfl) ?_)
  refine r_set [(2,PV.ptr 1 0)] [(1,.obj [pI r.fn,pI 0,pI 0,pI 0,pI 0,pS 1 false encBo r.bits,pNil,p16 0,p16 0,pNil]),(0,.obj (cReply r))] 2 ⟨rfl,trivial⟩ rfl rfl (r_end (q_block (q_then (w_seq (w_R ?_)))))
  refine qo hnt rfl (s_load_ptr tab_53 rfl rfl rfl (Nat.le_of_ble_eq_true rfl) ?_)
  refine qo hnt rfl (s_store_ptr tab_53 rfl rfl rfl rfl rfl (Nat.le_of_ble_eq_true rfl) ?_)
  refine qa hnt rfl rfl (r_set [(2,PV.ptr 1 0),(3,pB true)] [(1,.obj [pI r.fn,pI 0,pI 0,pI 0,pI 0,pS 1 false encBo r.bits,pNil,p16 0,p16 0,pNil]),(0,.obj (cReply r))] 2 ⟨rfl,rfl,trivial⟩ rfl rfl (r_end (q_then ?_)))
  have hz1 : r.fn = ((hasA r).fn) ∧ 0 = ((hasA r).code) ∧ 0 = ((hasA r).at_) ∧ 0 = ((hasA r).count) ∧ 0 = ((hasA r).sub) ∧ r.bits = ((hasA r).bits) ∧ ([] : List UInt16) = ((hasA r).vals) ∧ 0 = ((hasA r).and_) ∧ 0 = ((hasA r).or_) ∧ ([] : List UInt8) = ((hasA r).data) := by and_intros <;> ((unfold hasA; rw [if_pos (by omega)]; done))
  refine w_leO (n := 1) (ds := cReply (hasA r)) rfl ⟨le_of_eq (congrArg pI hz1.1),le_of_eq (congrArg pI hz1.2.1),le_of_eq (congrArg pI hz1.2.2.1),le_of_eq (congrArg pI hz1.2.2.2.1),le_of_eq (congrArg pI hz1.2.2.2.2.1),le_of_eq (congrArg (fun z => pS 1 false encBo z) hz1.2.2.2.2.2.1),le_tr (le_nilS 1 false) (le_of_eq (congrArg (fun z => pS 1 false enc16 z) hz1.2.2.2.2.2.2.1)),le_of_eq (congrArg p16 hz1.2.2.2.2.2.2.2.1),le_of_eq (congrArg p16 hz1.2.2.2.2.2.2.2.2.1),le_tr (le_nilS 1 false) (le_of_eq (congrArg (fun z => pS 1 false enc8 z) hz1.2.2.2.2.2.2.2.2.2)),trivial⟩ (w_le (s := 3) (y := pB (hasF r.fn)) rfl (le_of_eq (congrArg pB (show true = (hasF r.fn) by exact (decide_eq_true (by omega)).symm))) (w_ret ?_))
  exact fin_plain (ret_cell tab_53 (by decide) rfl rfl (Nat.le_of_ble_eq_true rfl) rfl (ret_tmp rfl ret_nil)) rfl rfl ⟨rfl,rfl,rfl⟩
 try simp only [sB,Bool.or_eq_true,Bool.or_eq_false_iff] at c2
 refine join1 (fun (bb2 : Bool) => bb2 = ((decide (r.fn = 3)) || ((decide (r.fn = 4)) || (decide (r.fn = 23))))) (fun (bb2 : Bool) => [(1,PV.ptr 0 0),(2,PV.ptr 1 0),(8,pI r.fn),(16,pB bb2)]) 2 (fun (bb2 : Bool) => [(0,.obj (cReply r)),(1,.obj [pI r.fn,pI 0,pI 0,pI 0,pI 0,pNil,pNil,p16 0,p16 0,pNil])]) ?_ ?_
 ·refine w_seq (w_R (qo hnt rfl (s_eql rfl rfl ?_)))
  refine qa hnt rfl rfl (r_end (q_then (w_if rfl (fun c3 => ?_) (fun c3 => ?_))))
  ·have c3_ := c3
   try simp only [sB] at c3
   refine w_skip (q_then (⟨(decide (r.fn = 3)), ?_,⟨[(0,0),(1,1)],by rw [hk]; decide,⟨⟨_,rfl,rfl,rfl⟩,⟨_,rfl,rfl,rfl⟩,⟨_,rfl,rfl,rfl⟩,⟨_,rfl,rfl,rfl⟩,trivial⟩,⟨⟨_,_,rfl,rfl,rfl,rfl⟩,⟨_,_,rfl,rfl,rfl,rfl⟩,trivial⟩,by rw [hk]; decide⟩⟩))
   simp only [c3_,Bool.true_or,Bool.false_or]
  have c3_ := c3
  try simp only [sB] at c3
  refine w_seq (w_R (qo hnt rfl (s_eql rfl rfl ?_)))
  refine qa hnt rfl rfl (r_end (q_then (w_if rfl (fun c4 => ?_) (fun c4 => ?_))))
  ·have c4_ := c4
   try simp only [sB] at c4
   refine w_skip (q_then (⟨(decide (r.fn = 4)), ?_,⟨[(0,0),(1,1)],by rw [hk]; decide,⟨⟨_,rfl,rfl,rfl⟩,⟨_,rfl,rfl,rfl⟩,⟨_,rfl,rfl,rfl⟩,⟨_,rfl,rfl,rfl⟩,trivial⟩,⟨⟨_,_,rfl,rfl,rfl,rfl⟩,⟨_,_,rfl,rfl,rfl,rfl⟩,trivial⟩,by rw [hk]; decide⟩⟩))
   simp only [c3_,c4_,Bool.true_or,Bool.false_or]
  have c4_ := c4
  try simp only [sB] at c4
  refine w_R (qo hnt rfl (s_eql rfl rfl ?_))
  refine qa hnt rfl rfl (r_end (q_then (⟨(decide (r.fn = 23)), ?_,⟨[(0,0),(1,1)],by rw [hk]; decide,⟨⟨_,rfl,rfl,rfl⟩,⟨_,rfl,rfl,rfl⟩,⟨_,rfl,rfl,rfl⟩,⟨_,rfl,rfl,rfl⟩,trivial⟩,⟨⟨_,_,rfl,rfl,rfl,rfl⟩,⟨_,_,rfl,rfl,rfl,rfl⟩,trivial⟩,by rw [hk]; decide⟩⟩)))
  simp only [c3_,c4_,Bool.true_or,Bool.false_or]
 intro bb2 hbb2
 subst hbb2
 refine w_if rfl (fun c5 => ?_) (fun c5 => ?_)
 ·try simp only [sB,Bool.or_eq_true,Bool.or_eq_false_iff] at c5
  refine w_R (qo hnt rfl (s_fa_ptr tab_53 rfl rfl tab_43 (by decide) rfl ?_))
  refine qo hnt rfl (s_load_ptr1 tab_43 rfl rfl rfl rfl rfl ?_)
  refine qo hnt rfl (s_fa_ptr tab_53 rfl rfl tab_43 (by decide) rfl ?_)
  refine qo hnt rfl (s_store_ptr tab_43 rfl rfl rfl rfl rfl (Nat.le_of_ble_eq_true rfl) ?_)
  refine r_set [(2,PV.ptr 1 0)] [(1,.obj [pI r.fn,pI 0,pI 0,pI 0,pI 0,pNil,pS 1 false enc16 r.vals,p16 0,p16 0,pNil]),(0,.obj (cReply r))] 2 ⟨rfl,trivial⟩ rfl rfl (r_end (q_block (q_then (w_seq (w_R ?_)))))
  refine qo hnt rfl (s_load_ptr tab_53 rfl rfl rfl (Nat.le_of_ble_eq_true rfl) ?_)
  refine qo hnt rfl (s_store_ptr tab_53 rfl rfl rfl rfl rfl (Nat.le_of_ble_eq_true rfl) ?_)
  refine qa hnt rfl rfl (r_set [(2,PV.ptr 1 0),(3,pB true)] [(1,.obj [pI r.fn,pI 0,pI 0,pI 0,pI 0,pNil,pS 1 false enc16 r.vals,p16 0,p16 0,pNil]),(0,.obj (cReply r))] 2 ⟨rfl,rfl,trivial⟩ rfl rfl (r_end (q_then ?_)))
  have hz2 : r.fn = ((hasA r).fn) ∧ 0 = ((hasA r).code) ∧ 0 = ((hasA r).at_) ∧ 0 = ((hasA r).count) ∧ 0 = ((hasA r).sub) ∧ ([] : List Bool) = ((hasA r).bits) ∧ r.vals = ((hasA r).vals) ∧ 0 = ((hasA r).and_) ∧ 0 = ((hasA r).or_) ∧ ([] : List UInt8) = ((hasA r).data) := by and_intros <;> ((unfold hasA; rw [if_neg (by omega),if_pos (by omega)]; done))
  refine w_leO (n := 1) (ds := cReply (hasA r)) rfl ⟨le_of_eq (congrArg pI hz2.1),le_of_eq (congrArg pI hz2.2.1),le_of_eq (congrArg pI hz2.2.2.1),le_of_eq (congrArg pI hz2.2.2.2.1),le_of_eq (congrArg pI hz2.2.2.2.2.1),le_tr (le_nilS 1 false) (le_of_eq (congrArg (fun z => pS 1 false encBo z) hz2.2.2.2.2.2.1)),le_of_eq (congrArg (fun z => pS 1 false enc16 z) hz2.2.2.2.2.2.2.1),le_of_eq (congrArg p16 hz2.2.2.2.2.2.2.2.1),le_of_eq (congrArg p16 hz2.2.2.2.2.2.2.2.2.1),le_tr (le_nilS 1 false) (le_of_eq (congrArg (fun z => pS 1 false enc8 z) hz2.2.2.2.2.2.2.2.2.2)),trivial⟩ (w_le (s := 3) (y := pB (hasF r.fn)) rfl (le_of_eq (congrArg pB (show true = (hasF r.fn) by exact (decide_eq_true (by omega)).symm))) (w_ret ?_))
  exact fin_plain (ret_cell tab_53 (by decide) rfl rfl (Nat.le_of_ble_eq_true rfl) rfl (ret_tmp rfl ret_nil)) rfl rfl ⟨rfl,rfl,rfl⟩
 try simp only [sB,Bool.or_eq_true,Bool.or_eq_false_iff] at c5
 refine w_seq (w_R (qo hnt rfl (s_eql rfl rfl ?_)))
 refine qa hnt rfl rfl (r_end (q_then (w_if rfl (fun c6 => ?_) (fun c6 => ?_))))
 ·try simp only [sB] at c6
  refine W_drawn tabOk mixed hnt [[],[0],[],[2],[0,1],[0,1,4],[0,1,2,3,4,5],[0,1,2,3,4,5,6]] (by kernel_rfl) (d_op (x_run0 [(1,PV.ptr 0 0)] [] rfl rfl rfl rfl (s_fa_ptr tab_53 rfl rfl tab_3 (by decide) rfl ⟨rfl,rfl,rfl⟩) (d_op (xL [(25,PV.ptr 0 2)] [0] [(0,.obj (cReply r))] rfl rfl rfl rfl rfl (s_load_ptr1 tab_3 rfl rfl rfl rfl rfl ⟨rfl,rfl,rfl⟩) ⟨rfl,trivial⟩ rfl (d_op ?_)))))
  refine x_run0 [(1,PV.ptr 0 0)] [] rfl rfl rfl rfl (s_fa_ptr tab_53 rfl rfl tab_42 (by decide) rfl ⟨rfl,rfl,rfl⟩) (d_op (xL [(27,PV.ptr 0 5)] [2] [(0,.obj (cReply r))] rfl rfl rfl rfl rfl (s_load_ptr1 tab_42 rfl rfl rfl rfl rfl ⟨rfl,rfl,rfl⟩) ⟨rfl,trivial⟩ rfl (d_op (x_run0 [(2,PV.ptr 1 0)] [0,1] rfl rfl rfl rfl (s_fa_ptr tab_53 rfl rfl tab_3 (by decide) rfl ⟨rfl,rfl,rfl⟩) (d_op ?_)))))
  refine xT [(29,PV.ptr 1 2),(26,pI r.at_)] [0,1,4] [(1,.obj [pI r.fn,pI 0,pI 0,pI 0,pI 0,pNil,pNil,p16 0,p16 0,pNil])] [(1,.obj [pI r.fn,pI 0,pI r.at_,pI 0,pI 0,pNil,pNil,p16 0,p16 0,pNil])] [(0,.obj (cReply r))] rfl rfl rfl rfl rfl (s_store_ptr tab_3 rfl rfl rfl rfl rfl (Nat.le_of_ble_eq_true rfl) ⟨rfl,rfl,rfl⟩) rfl rfl (d_op (x_run0 [(2,PV.ptr 1 0)] [0,1,2,3,4,5] rfl rfl rfl rfl (s_fa_ptr tab_53 rfl rfl tab_42 (by decide) rfl ⟨rfl,rfl,rfl⟩) (d_op (xT [(30,PV.ptr 1 5),(28,pS 1 false encBo r.bits)] [0,1,2,3,4,5,6] [(1,.obj [pI r.fn,pI 0,pI r.at_,pI 0,pI 0,pNil,pNil,p16 0,p16 0,pNil])] [(1,.obj [pI r.fn,pI 0,pI r.at_,pI 0,pI 0,pS 1 false encBo r.bits,pNil,p16 0,p16 0,pNil])] [(0,.obj (cReply r))] rfl rfl rfl rfl rfl (s_store_ptr tab_42 rfl rfl rfl rfl rfl (Nat.le_of_ble_eq_true rfl) ⟨rfl,rfl,rfl⟩) rfl rfl (d_end ⟨by kernel_rfl, ?_⟩)))))
  refine q_block (q_then (w_seq (w_R (qo hnt rfl (s_load_ptr tab_53 rfl rfl rfl (Nat.le_of_ble_eq_true rfl) ?_)))))
  refine qo hnt rfl (s_store_ptr tab_53 rfl rfl rfl rfl rfl (Nat.le_of_ble_eq_true rfl) ?_)
  refine qa hnt rfl rfl (r_set [(2,PV.ptr 1 0),(3,pB true)] [(1,.obj [pI r.fn,pI 0,pI r.at_,pI 0,pI 0,pS 1 false encBo r.bits,pNil,p16 0,p16 0,pNil]),(0,.obj (cReply r))] 2 ⟨rfl,rfl,trivial⟩ rfl rfl (r_end (q_then ?_)))
  have hz3 : r.fn = ((hasA r).fn) ∧ 0 = ((hasA r).code) ∧ r.at_ = ((hasA r).at_) ∧ 0 = ((hasA r).count) ∧ 0 = ((hasA r).sub) ∧ r.bits = ((hasA r).bits) ∧ ([] : List UInt16) = ((hasA r).vals) ∧ 0 = ((hasA r).and_) ∧ 0 = ((hasA r).or_) ∧ ([] : List UInt8) = ((hasA r).data) := by and_intros <;> ((unfold hasA; rw [if_neg (by omega),if_neg (by omega),if_pos (by omega)]; done))
  refine w_leO (n := 1) (ds := cReply (hasA r)) rfl ⟨le_of_eq (congrArg pI hz3.1),le_of_eq (congrArg pI hz3.2.1),le_of_eq (congrArg pI hz3.2.2.1),le_of_eq (congrArg pI hz3.2.2.2.1),le_of_eq (congrArg pI hz3.2.2.2.2.1),le_of_eq (congrArg (fun z => pS 1 false encBo z) hz3.2.2.2.2.2.1),le_tr (le_nilS 1 false) (le_of_eq (congrArg (fun z => pS 1 false enc16 z) hz3.2.2.2.2.2.2.1)),le_of_eq (congrArg p16 hz3.2.2.2.2.2.2.2.1),le_of_eq (congrArg p16 hz3.2.2.2.2.2.2.2.2.1),le_tr (le_nilS 1 false) (le_of_eq (congrArg (fun z => pS 1 false enc8 z) hz3.2.2.2.2.2.2.2.2.2)),trivial⟩ (w_le (s := 3) (y := pB (hasF r.fn)) rfl (le_of_eq (congrArg pB (show true = (hasF r.fn) by exact (decide_eq_true (by omega)).symm))) (w_ret ?_))
  exact fin_plain (ret_cell tab_53 (by decide) rfl rfl (Nat.le_of_ble_eq_true rfl) rfl (ret_tmp rfl ret_nil)) rfl rfl ⟨rfl,rfl,rfl⟩
 try simp only [sB] at c6
 refine w_seq (w_R (qo hnt rfl (s_eql rfl rfl ?_)))
 refine qa hnt rfl rfl (r_end (q_then (w_if rfl (fun c7 => ?_) (fun c7 => ?_))))
 ·try simp only [sB] at c7
  refine W_drawn tabOk mixed hnt [[],[0],[],[2],[0,1],[0,1,4],[0,1,2,3,4,5],[0,1,2,3,4,5,6]] (by kernel_rfl) (d_op (x_run0 [(1,PV.ptr 0 0)] [] rfl rfl rfl rfl (s_fa_ptr tab_53 rfl rfl tab_3 (by decide) rfl ⟨rfl,rfl,rfl⟩) (d_op (xL [(33,PV.ptr 0 2)] [0] [(0,.obj (cReply r))] rfl rfl rfl rfl rfl (s_load_ptr1 tab_3 rfl rfl rfl rfl rfl ⟨rfl,rfl,rfl⟩) ⟨rfl,trivial⟩ rfl (d_op ?_)))))
  refine x_run0 [(1,PV.ptr 0 0)] [] rfl rfl rfl rfl (s_fa_ptr tab_53 rfl rfl tab_43 (by decide) rfl ⟨rfl,rfl,rfl⟩) (d_op (xL [(35,PV.ptr 0 6)] [2] [(0,.obj (cReply r))] rfl rfl rfl rfl rfl (s_load_ptr1 tab_43 rfl rfl rfl rfl rfl ⟨rfl,rfl,rfl⟩) ⟨rfl,trivial⟩ rfl (d_op (x_run0 [(2,PV.ptr 1 0)] [0,1] rfl rfl rfl rfl (s_fa_ptr tab_53 rfl rfl tab_3 (by decide) rfl ⟨rfl,rfl,rfl⟩) (d_op ?_)))))
  refine xT [(37,PV.ptr 1 2),(34,pI r.at_)] [0,1,4] [(1,.obj [pI r.fn,pI 0,pI 0,pI 0,pI 0,pNil,pNil,p16 0,p16 0,pNil])] [(1,.obj [pI r.fn,pI 0,pI r.at_,pI 0,pI 0,pNil,pNil,p16 0,p16 0,pNil])] [(0,.obj (cReply r))] rfl rfl rfl rfl rfl (s_store_ptr tab_3 rfl rfl rfl rfl rfl (Nat.le_of_ble_eq_true rfl) ⟨rfl,rfl,rfl⟩) rfl rfl (d_op (x_run0 [(2,PV.ptr 1 0)] [0,1,2,3,4,5] rfl rfl rfl rfl (s_fa_ptr tab_53 rfl rfl tab_43 (by decide) rfl ⟨rfl,rfl,rfl⟩) (d_op (xT [(38,PV.ptr 1 6),(36,pS 1 false enc16 r.vals)] [0,1,2,3,4,5,6] [(1,.obj [pI r.fn,pI 0,pI r.at_,pI 0,pI 0,pNil,pNil,p16 0,p16 0,pNil])] [(1,.obj [pI r.fn,pI 0,pI r.at_,pI 0,pI 0,pNil,pS 1 false enc16 r.vals,p16 0,p16 0,pNil])] [(0,.obj (cReply r))] rfl rfl rfl rfl rfl (s_store_ptr tab_43 rfl rfl rfl rfl rfl (Nat.le_of_ble_eq_true rfl) ⟨rfl,rfl,rfl⟩) rfl rfl (d_end ⟨by kernel_rfl, ?_⟩)))))
  refine q_block (q_then (w_seq (w_R (qo hnt rfl (s_load_ptr tab_53 rfl rfl rfl (Nat.le_of_ble_eq_true rfl) ?_)))))
  refine qo hnt rfl (s_store_ptr tab_53 rfl rfl rfl rfl rfl (Nat.le_of_ble_eq_true rfl) ?_)
  refine qa hnt rfl rfl (r_set [(2,PV.ptr 1 0),(3,pB true)] [(1,.obj [pI r.fn,pI 0,pI r.at_,pI 0,pI 0,pNil,pS 1 false enc16 r.vals,p16 0,p16 0,pNil]),(0,.obj (cReply r))] 2 ⟨rfl,rfl,trivial⟩ rfl rfl (r_end (q_then ?_)))
  have hz4 : r.fn = ((hasA r).fn) ∧ 0 = ((hasA r).code) ∧ r.at_ = ((hasA r).at_) ∧ 0 = ((hasA r).count) ∧ 0 = ((hasA r).sub) ∧ ([] : List Bool) = ((hasA r).bits) ∧ r.vals = ((hasA r).vals) ∧ 0 = ((hasA r).and_) ∧ 0 = ((hasA r).or_) ∧ ([] : List UInt8) = ((hasA r).data) := by and_intros <;> ((unfold hasA; rw [if_neg (by omega),if_neg (by omega),if_neg (by omega),if_pos (by omega)]; done))
  refine w_leO (n := 1) (ds := cReply (hasA r)) rfl ⟨le_of_eq (congrArg pI hz4.1),le_of_eq (congrArg pI hz4.2.1),le_of_eq (congrArg pI hz4.2.2.1),le_of_eq (congrArg pI hz4.2.2.2.1),le_of_eq (congrArg pI hz4.2.2.2.2.1),le_tr (le_nilS 1 false) (le_of_eq (congrArg (fun z => pS 1 false encBo z) hz4.2.2.2.2.2.1)),le_of_eq (congrArg (fun z => pS 1 false enc16 z) hz4.2.2.2.2.2.2.1),le_of_eq (congrArg p16 hz4.2.2.2.2.2.2.2.1),le_of_eq (congrArg p16 hz4.2.2.2.2.2.2.2.2.1),le_tr (le_nilS 1 false) (le_of_eq (congrArg (fun z => pS 1 false enc8 z) hz4.2.2.2.2.2.2.2.2.2)),trivial⟩ (w_le (s := 3) (y := pB (hasF r.fn)) rfl (le_of_eq (congrArg pB (show true = (hasF r.fn) by exact (decide_eq_true (by omega)).symm))) (w_ret ?_))
  exact fin_plain (ret_cell tab_53 (by decide) rfl rfl (Nat.le_of_ble_eq_true rfl) rfl (ret_tmp rfl ret_nil)) rfl rfl ⟨rfl,rfl,rfl⟩
 try simp only [sB] at c7
 refine w_seq (w_R (qo hnt rfl (s_eql rfl rfl ?_)))
 refine qa hnt rfl rfl (r_end (q_then (w_if rfl (fun c8 => ?_) (fun c8 => ?_))))
 ·try simp only [sB] at c8
  refine W_drawn tabOk mixed hnt [[],[0],[],[2],[0,1],[0,1,4],[0,1,2,3,4,5],[0,1,2,3,4,5,6]] (by kernel_rfl) (d_op (x_run0 [(1,PV.ptr 0 0)] [] rfl rfl rfl rfl (s_fa_ptr tab_53 rfl rfl tab_3 (by decide) rfl ⟨rfl,rfl,rfl⟩) (d_op (xL [(41,PV.ptr 0 4)] [0] [(0,.obj (cReply r))] rfl rfl rfl rfl rfl (s_load_ptr1 tab_3 rfl rfl rfl rfl rfl ⟨rfl,rfl,rfl⟩) ⟨rfl,trivial⟩ rfl (d_op ?_)))))
  refine x_run0 [(1,PV.ptr 0 0)] [] rfl rfl rfl rfl (s_fa_ptr tab_53 rfl rfl tab_43 (by decide) rfl ⟨rfl,rfl,rfl⟩) (d_op (xL [(43,PV.ptr 0 6)] [2] [(0,.obj (cReply r))] rfl rfl rfl rfl rfl (s_load_ptr1 tab_43 rfl rfl rfl rfl rfl ⟨rfl,rfl,rfl⟩) ⟨rfl,trivial⟩ rfl (d_op (x_run0 [(2,PV.ptr 1 0)] [0,1] rfl rfl rfl rfl (s_fa_ptr tab_53 rfl rfl tab_3 (by decide) rfl ⟨rfl,rfl,rfl⟩) (d_op ?_)))))
  refine xT [(45,PV.ptr 1 4),(42,pI r.sub)] [0,1,4] [(1,.obj [pI r.fn,pI 0,pI 0,pI 0,pI 0,pNil,pNil,p16 0,p16 0,pNil])] [(1,.obj [pI r.fn,pI 0,pI 0,pI 0,pI r.sub,pNil,pNil,p16 0,p16 0,pNil])] [(0,.obj (cReply r))] rfl rfl rfl rfl rfl (s_store_ptr tab_3 rfl rfl rfl rfl rfl (Nat.le_of_ble_eq_true rfl) ⟨rfl,rfl,rfl⟩) rfl rfl (d_op (x_run0 [(2,PV.ptr 1 0)] [0,1,2,3,4,5] rfl rfl rfl rfl (s_fa_ptr tab_53 rfl rfl tab_43 (by decide) rfl ⟨rfl,rfl,rfl⟩) (d_op (xT [(46,PV.ptr 1 6),(44,pS 1 false enc16 r.vals)] [0,1,2,3,4,5,6] [(1,.obj [pI r.fn,pI 0,pI 0,pI 0,pI r.sub,pNil,pNil,p16 0,p16 0,pNil])] [(1,.obj [pI r.fn,pI 0,pI 0,pI 0,pI r.sub,pNil,pS 1 false enc16 r.vals,p16 0,p16 0,pNil])] [(0,.obj (cReply r))] rfl rfl rfl rfl rfl (s_store_ptr tab_43 rfl rfl rfl rfl rfl (Nat.le_of_ble_eq_true rfl) ⟨rfl,rfl,rfl⟩) rfl rfl (d_end ⟨by kernel_rfl, ?_⟩)))))
  refine q_block (q_then (w_seq (w_R (qo hnt rfl (s_load_ptr tab_53 rfl rfl rfl (Nat.le_of_ble_eq_true rfl) ?_)))))
  refine qo hnt rfl (s_store_ptr tab_53 rfl rfl rfl rfl rfl (Nat.le_of_ble_eq_true rfl) ?_)
  refine qa hnt rfl rfl (r_set [(2,PV.ptr 1 0),(3,pB true)] [(1,.obj [pI r.fn,pI 0,pI 0,pI 0,pI r.sub,pNil,pS 1 false enc16 r.vals,p16 0,p16 0,pNil]),(0,.obj (cReply r))] 2 ⟨rfl,rfl,trivial⟩ rfl rfl (r_end (q_then ?_)))
  have hz5 : r.fn = ((hasA r).fn) ∧ 0 = ((hasA r).code) ∧ 0 = ((hasA r).at_) ∧ 0 = ((hasA r).count) ∧ r.sub = ((hasA r).sub) ∧ ([] : List Bool) = ((hasA r).bits) ∧ r.vals = ((hasA r).vals) ∧ 0 = ((hasA r).and_) ∧ 0 = ((hasA r).or_) ∧ ([] : List UInt8) = ((hasA r).data) := by and_intros <;> ((unfold hasA; rw [if_neg (by omega),if_neg (by omega),if_neg (by omega),if_neg (by omega),if_pos (by omega)]; done))
  refine w_leO (n := 1) (ds := cReply (hasA r)) rfl ⟨le_of_eq (congrArg pI hz5.1),le_of_eq (congrArg pI hz5.2.1),le_of_eq (congrArg pI hz5.2.2.1),le_of_eq (congrArg pI hz5.2.2.2.1),le_of_eq (congrArg pI hz5.2.2.2.2.1),le_tr (le_nilS 1 false) (le_of_eq (congrArg (fun z => pS 1 false encBo z) hz5.2.2.2.2.2.1)),le_of_eq (congrArg (fun z => pS 1 false enc16 z) hz5.2.2.2.2.2.2.1),le_of_eq (congrArg p16 hz5.2.2.2.2.2.2.2.1),le_of_eq (congrArg p16 hz5.2.2.2.2.2.2.2.2.1),le_tr (le_nilS 1 false) (le_of_eq (congrArg (fun z => pS 1 false enc8 z) hz5.2.2.2.2.2.2.2.2.2)),trivial⟩ (w_le (s := 3) (y := pB (hasF r.fn)) rfl (le_of_eq (congrArg pB (show true = (hasF r.fn) by exact (decide_eq_true (by omega)).symm))) (w_ret ?_))
  exact fin_plain (ret_cell tab_53 (by decide) rfl rfl (Nat.le_of_ble_eq_true rfl) rfl (ret_tmp rfl ret_nil)) rfl rfl ⟨rfl,rfl,rfl⟩
 try simp only [sB] at c8
 refine join1 (fun (bb3 : Bool) => bb3 = ((decide (r.fn = 15)) || (decide (r.fn = 16)))) (fun (bb3 : Bool) => [(1,PV.ptr 0 0),(2,PV.ptr 1 0),(8,pI r.fn),(47,pB bb3)]) 2 (fun (bb3 : Bool) => [(0,.obj (cReply r)),(1,.obj [pI r.fn,pI 0,pI 0,pI 0,pI 0,pNil,pNil,p16 0,p16 0,pNil])]) ?_ ?_
 ·refine w_seq (w_R (qo hnt rfl (s_eql rfl rfl ?_)))
  refine qa hnt rfl rfl (r_end (q_then (w_if rfl (fun c9 => ?_) (fun c9 => ?_))))
  ·have c9_ := c9
   try simp only [sB] at c9
   refine w_skip (q_then (⟨(decide (r.fn = 15)), ?_,⟨[(0,0),(1,1)],by rw [hk]; decide,⟨⟨_,rfl,rfl,rfl⟩,⟨_,rfl,rfl,rfl⟩,⟨_,rfl,rfl,rfl⟩,⟨_,rfl,rfl,rfl⟩,trivial⟩,⟨⟨_,_,rfl,rfl,rfl,rfl⟩,⟨_,_,rfl,rfl,rfl,rfl⟩,trivial⟩,by rw [hk]; decide⟩⟩))
   simp only [c9_,Bool.true_or,Bool.false_or]
  have c9_ := c9
  try simp only [sB] at c9
  refine w_R (qo hnt rfl (s_eql rfl rfl ?_))
  refine qa hnt rfl rfl (r_end (q_then (⟨(decide (r.fn = 16)), ?_,⟨[(0,0),(1,1)],by rw [hk]; decide,⟨⟨_,rfl,rfl,rfl⟩,⟨_,rfl,rfl,rfl⟩,⟨_,rfl,rfl,rfl⟩,⟨_,rfl,rfl,rfl⟩,trivial⟩,⟨⟨_,_,rfl,rfl,rfl,rfl⟩,⟨_,_,rfl,rfl,rfl,rfl⟩,trivial⟩,by rw [hk]; decide⟩⟩)))
  simp only [c9_,Bool.true_or,Bool.false_or]
 intro bb3 hbb3
 subst hbb3
 refine w_if rfl (fun c10 => ?_) (fun c10 => ?_)
 ·try simp only [sB,Bool.or_eq_true,Bool.or_eq_false_iff] at c10
  refine W_drawn tabOk mixed hnt [[],[0],[],[2],[0,1],[0,1,4],[0,1,2,3,4,5],[0,1,2,3,4,5,6]] (by kernel_rfl) (d_op (x_run0 [(1,PV.ptr 0 0)] [] rfl rfl rfl rfl (s_fa_ptr tab_53 rfl rfl tab_3 (by decide) rfl ⟨rfl,rfl,rfl⟩) (d_op (xL [(50,PV.ptr 0 2)] [0] [(0,.obj (cReply r))] rfl rfl rfl rfl rfl (s_load_ptr1 tab_3 rfl rfl rfl rfl rfl ⟨rfl,rfl,rfl⟩) ⟨rfl,trivial⟩ rfl (d_op ?_)))))
  refine x_run0 [(1,PV.ptr 0 0)] [] rfl rfl rfl rfl (s_fa_ptr tab_53 rfl rfl tab_3 (by decide) rfl ⟨rfl,rfl,rfl⟩) (d_op (xL [(52,PV.ptr 0 3)] [2] [(0,.obj (cReply r))] rfl rfl rfl rfl rfl (s_load_ptr1 tab_3 rfl rfl rfl rfl rfl ⟨rfl,rfl,rfl⟩) ⟨rfl,trivial⟩ rfl (d_op (x_run0 [(2,PV.ptr 1 0)] [0,1] rfl rfl rfl rfl (s_fa_ptr tab_53 rfl rfl tab_3 (by decide) rfl ⟨rfl,rfl,rfl⟩) (d_op ?_)))))
  refine xT [(54,PV.ptr 1 2),(51,pI r.at_)] [0,1,4] [(1,.obj [pI r.fn,pI 0,pI 0,pI 0,pI 0,pNil,pNil,p16 0,p16 0,pNil])] [(1,.obj [pI r.fn,pI 0,pI r.at_,pI 0,pI 0,pNil,pNil,p16 0,p16 0,pNil])] [(0,.obj (cReply r))] rfl rfl rfl rfl rfl (s_store_ptr tab_3 rfl rfl rfl rfl rfl (Nat.le_of_ble_eq_true rfl) ⟨rfl,rfl,rfl⟩) rfl rfl (d_op (x_run0 [(2,PV.ptr 1 0)] [0,1,2,3,4,5] rfl rfl rfl rfl (s_fa_ptr tab_53 rfl rfl tab_3 (by decide) rfl ⟨rfl,rfl,rfl⟩) (d_op (xT [(55,PV.ptr 1 3),(53,pI r.count)] [0,1,2,3,4,5,6] [(1,.obj [pI r.fn,pI 0,pI r.at_,pI 0,pI 0,pNil,pNil,p16 0,p16 0,pNil])] [(1,.obj [pI r.fn,pI 0,pI r.at_,pI r.count,pI 0,pNil,pNil,p16 0,p16 0,pNil])] [(0,.obj (cReply r))] rfl rfl rfl rfl rfl (s_store_ptr tab_3 rfl rfl rfl rfl rfl (Nat.le_of_ble_eq_true rfl) ⟨rfl,rfl,rfl⟩) rfl rfl (d_end ⟨by kernel_rfl, ?_⟩)))))
  refine q_block (q_then (w_seq (w_R (qo hnt rfl (s_load_ptr tab_53 rfl rfl rfl (Nat.le_of_ble_eq_true rfl) ?_)))))
  refine qo hnt rfl (s_store_ptr tab_53 rfl rfl rfl rfl rfl (Nat.le_of_ble_eq_true rfl) ?_)
  refine qa hnt rfl rfl (r_set [(2,PV.ptr 1 0),(3,pB true)] [(1,.obj [pI r.fn,pI 0,pI r.at_,pI r.count,pI 0,pNil,pNil,p16 0,p16 0,pNil]),(0,.obj (cReply r))] 2 ⟨rfl,rfl,trivial⟩ rfl rfl (r_end (q_then ?_)))
  have hz6 : r.fn = ((hasA r).fn) ∧ 0 = ((hasA r).code) ∧ r.at_ = ((hasA r).at_) ∧ r.count = ((hasA r).count) ∧ 0 = ((hasA r).sub) ∧ ([] : List Bool) = ((hasA r).bits) ∧ ([] : List UInt16) = ((hasA r).vals) ∧ 0 = ((hasA r).and_) ∧ 0 = ((hasA r).or_) ∧ ([] : List UInt8) = ((hasA r).data) := by and_intros <;> ((unfold hasA; rw [if_neg (by omega),if_neg (by omega),if_neg (by omega),if_neg (by omega),if_neg (by omega),if_pos (by omega)]; done))
  refine w_leO (n := 1) (ds := cReply (hasA r)) rfl ⟨le_of_eq (congrArg pI hz6.1),le_of_eq (congrArg pI hz6.2.1),le_of_eq (congrArg pI hz6.2.2.1),le_of_eq (congrArg pI hz6.2.2.2.1),le_of_eq (congrArg pI hz6.2.2.2.2.1),le_tr (le_nilS 1 false) (le_of_eq (congrArg (fun z => pS 1 false encBo z) hz6.2.2.2.2.2.1)),le_tr (le_nilS 1 false) (le_of_eq (congrArg (fun z => pS 1 false enc16 z) hz6.2.2.2.2.2.2.1)),le_of_eq (congrArg p16 hz6.2.2.2.2.2.2.2.1),le_of_eq (congrArg p16 hz6.2.2.2.2.2.2.2.2.1),le_tr (le_nilS 1 false) (le_of_eq (congrArg (fun z => pS 1 false enc8 z) hz6.2.2.2.2.2.2.2.2.2)),trivial⟩ (w_le (s := 3) (y := pB (hasF r.fn)) rfl (le_of_eq (congrArg pB (show true = (hasF r.fn) by exact (decide_eq_true (by omega)).symm))) (w_ret ?_))
  exact fin_plain (ret_cell tab_53 (by decide) rfl rfl (Nat.le_of_ble_eq_true rfl) rfl (ret_tmp rfl ret_nil)) rfl rfl ⟨rfl,rfl,rfl⟩
 try simp only [sB,Bool.or_eq_true,Bool.or_eq_false_iff] at c10
 refine w_seq (w_R (qo hnt rfl (s_eql rfl rfl ?_)))
 refine qa hnt rfl rfl (r_end (q_then (w_if rfl (fun c11 => ?_) (fun c11 => ?_))))
 ·try simp only [sB] at c11
  refine W_drawn tabOk mixed hnt [[],[0],[],[2],[],[4],[0,1],[0,1,6],[0,1,2,3,6,7],[0,1,2,3,6,7,8],(.range 10),(.range 11)] (by kernel_rfl) (d_op (x_run0 [(1,PV.ptr 0 0)] [] rfl rfl rfl rfl (s_fa_ptr tab_53 rfl rfl tab_3 (by decide) rfl ⟨rfl,rfl,rfl⟩) (d_op (xL [(58,PV.ptr 0 2)] [0] [(0,.obj (cReply r))] rfl rfl rfl rfl rfl (s_load_ptr1 tab_3 rfl rfl rfl rfl rfl ⟨rfl,rfl,rfl⟩) ⟨rfl,trivial⟩ rfl (d_op ?_)))))
  refine x_run0 [(1,PV.ptr 0 0)] [] rfl rfl rfl rfl (s_fa_ptr tab_53 rfl rfl tab_44 (by decide) rfl ⟨rfl,rfl,rfl⟩) (d_op (xL [(60,PV.ptr 0 7)] [2] [(0,.obj (cReply r))] rfl rfl rfl rfl rfl (s_load_ptr1 tab_44 rfl rfl rfl rfl rfl ⟨rfl,rfl,rfl⟩) ⟨rfl,trivial⟩ rfl (d_op (x_run0 [(1,PV.ptr 0 0)] [] rfl rfl rfl rfl (s_fa_ptr tab_53 rfl rfl tab_44 (by decide) rfl ⟨rfl,rfl,rfl⟩) (d_op ?_)))))
  refine xL [(62,PV.ptr 0 8)] [4] [(0,.obj (cReply r))] rfl rfl rfl rfl rfl (s_load_ptr1 tab_44 rfl rfl rfl rfl rfl ⟨rfl,rfl,rfl⟩) ⟨rfl,trivial⟩ rfl (d_op (x_run0 [(2,PV.ptr 1 0)] [0,1] rfl rfl rfl rfl (s_fa_ptr tab_53 rfl rfl tab_3 (by decide) rfl ⟨rfl,rfl,rfl⟩) (d_op (xT [(64,PV.ptr 1 2),(59,pI r.at_)] [0,1,6] [(1,.obj [pI r.fn,pI 0,pI 0,pI 0,pI 0,pNil,pNil,p16 0,p16 0,pNil])] [(1,.obj [pI r.fn,pI 0,pI r.at_,pI 0,pI 0,pNil,pNil,p16 0,p16 0,pNil])] [(0,.obj (cReply r))] rfl rfl rfl rfl rfl (s_store_ptr tab_3 rfl rfl rfl rfl rfl (Nat.le_of_ble_eq_true rfl) ⟨rfl,rfl,rfl⟩) rfl rfl (d_op ?_)))))
  refine x_run0 [(2,PV.ptr 1 0)] [0,1,2,3,6,7] rfl rfl rfl rfl (s_fa_ptr tab_53 rfl rfl tab_44 (by decide) rfl ⟨rfl,rfl,rfl⟩) (d_op (xT [(65,PV.ptr 1 7),(61,p16 r.and_)] [0,1,2,3,6,7,8] [(1,.obj [pI r.fn,pI 0,pI r.at_,pI 0,pI 0,pNil,pNil,p16 0,p16 0,pNil])] [(1,.obj [pI r.fn,pI 0,pI r.at_,pI 0,pI 0,pNil,pNil,p16 r.and_,p16 0,pNil])] [(0,.obj (cReply r))] rfl rfl rfl rfl rfl (s_store_ptr tab_44 rfl rfl rfl rfl rfl (Nat.le_of_ble_eq_true rfl) ⟨rfl,rfl,rfl⟩) rfl rfl (d_op (x_run0 [(2,PV.ptr 1 0)] (.range 10) rfl rfl rfl rfl (s_fa_ptr tab_53 rfl rfl tab_44 (by decide) rfl ⟨rfl,rfl,rfl⟩) (d_op ?_)))))
  refine xT [(66,PV.ptr 1 8),(63,p16 r.or_)] (.range 11) [(1,.obj [pI r.fn,pI 0,pI r.at_,pI 0,pI 0,pNil,pNil,p16 r.and_,p16 0,pNil])] [(1,.obj [pI r.fn,pI 0,pI r.at_,pI 0,pI 0,pNil,pNil,p16 r.and_,p16 r.or_,pNil])] [(0,.obj (cReply r))] rfl rfl rfl rfl rfl (s_store_ptr tab_44 rfl rfl rfl rfl rfl (Nat.le_of_ble_eq_true rfl) ⟨rfl,rfl,rfl⟩) rfl rfl (d_end ⟨by kernel_rfl, ?_⟩)
  refine q_block (q_then (w_seq (w_R (qo hnt rfl (s_load_ptr tab_53 rfl rfl rfl (Nat.le_of_ble_eq_true rfl) ?_)))))
  refine qo hnt rfl (s_store_ptr tab_53 rfl rfl rfl rfl rfl (Nat.le_of_ble_eq_true rfl) ?_)
  refine qa hnt rfl rfl (r_set [(2,PV.ptr 1 0),(3,pB true)] [(1,.obj [pI r.fn,pI 0,pI r.at_,pI 0,pI 0,pNil,pNil,p16 r.and_,p16 r.or_,pNil]),(0,.obj (cReply r))] 2 ⟨rfl,rfl,trivial⟩ rfl rfl (r_end (q_then ?_)))
  have hz7 : r.fn = ((hasA r).fn) ∧ 0 = ((hasA r).code) ∧ r.at_ = ((hasA r).at_) ∧ 0 = ((hasA r).count) ∧ 0 = ((hasA r).sub) ∧ ([] : List Bool) = ((hasA r).bits) ∧ ([] : List UInt16) = ((hasA r).vals) ∧ r.and_ = ((hasA r).and_) ∧ r.or_ = ((hasA r).or_) ∧ ([] : List UInt8) = ((hasA r).data) := by and_intros <;> ((unfold hasA; rw [if_neg (by omega),if_neg (by omega),if_neg (by omega),if_neg (by omega),if_neg (by omega),if_neg (by omega),if_pos (by omega)]; done))
  refine w_leO (n := 1) (ds := cReply (hasA r)) rfl ⟨le_of_eq (congrArg pI hz7.1),le_of_eq (congrArg pI hz7.2.1),le_of_eq (congrArg pI hz7.2.2.1),le_of_eq (congrArg pI hz7.2.2.2.1),le_of_eq (congrArg pI hz7.2.2.2.2.1),le_tr (le_nilS 1 false) (le_of_eq (congrArg (fun z => pS 1 false encBo z) hz7.2.2.2.2.2.1)),le_tr (le_nilS 1 false) (le_of_eq (congrArg (fun z => pS 1 false enc16 z) hz7.2.2.2.2.2.2.1)),le_of_eq (congrArg p16 hz7.2.2.2.2.2.2.2.1),le_of_eq (congrArg p16 hz7.2.2.2.2.2.2.2.2.1),le_tr (le_nilS 1 false) (le_of_eq (congrArg (fun z => pS 1 false enc8 z) hz7.2.2.2.2.2.2.2.2.2)),trivial⟩ (w_le (s := 3) (y := pB (hasF r.fn)) rfl (le_of_eq (congrArg pB (show true = (hasF r.fn) by exact (decide_eq_true (by omega)).symm))) (w_ret ?_))
  exact fin_plain (ret_cell tab_53 (by decide) rfl rfl (Nat.le_of_ble_eq_true rfl) rfl (ret_tmp rfl ret_nil)) rfl rfl ⟨rfl,rfl,rfl⟩
 try simp only [sB] at c11
 refine w_seq (w_R (qo hnt rfl (s_eql rfl rfl ?_)))
 refine qa hnt rfl rfl (r_end (q_then (w_if rfl (fun c12 => ?_) (fun c12 => ?_))))
 ·try simp only [sB] at c12
  refine w_R (qo hnt rfl (s_fa_ptr tab_53 rfl rfl tab_51 (by decide) rfl ?_))
  refine qo hnt rfl (s_load_ptr1 tab_51 rfl rfl rfl rfl rfl ?_)
  refine qo hnt rfl (s_fa_ptr tab_53 rfl rfl tab_51 (by decide) rfl ?_)
  refine qo hnt rfl (s_store_ptr tab_51 rfl rfl rfl rfl rfl (Nat.le_of_ble_eq_true rfl) ?_)
  refine r_set [(2,PV.ptr 1 0)] [(1,.obj [pI r.fn,pI 0,pI 0,pI 0,pI 0,pNil,pNil,p16 0,p16 0,pS 1 false enc8 r.data]),(0,.obj (cReply r))] 2 ⟨rfl,trivial⟩ rfl rfl (r_end (q_block (q_then (w_seq (w_R ?_)))))
  refine qo hnt rfl (s_load_ptr tab_53 rfl rfl rfl (Nat.le_of_ble_eq_true rfl) ?_)
  refine qo hnt rfl (s_store_ptr tab_53 rfl rfl rfl rfl rfl (Nat.le_of_ble_eq_true rfl) ?_)
  refine qa hnt rfl rfl (r_set [(2,PV.ptr 1 0),(3,pB true)] [(1,.obj [pI r.fn,pI 0,pI 0,pI 0,pI 0,pNil,pNil,p16 0,p16 0,pS 1 false enc8 r.data]),(0,.obj (cReply r))] 2 ⟨rfl,rfl,trivial⟩ rfl rfl (r_end (q_then ?_)))
  have hz8 : r.fn = ((hasA r).fn) ∧ 0 = ((hasA r).code) ∧ 0 = ((hasA r).at_) ∧ 0 = ((hasA r).count) ∧ 0 = ((hasA r).sub) ∧ ([] : List Bool) = ((hasA r).bits) ∧ ([] : List UInt16) = ((hasA r).vals) ∧ 0 = ((hasA r).and_) ∧ 0 = ((hasA r).or_) ∧ r.data = ((hasA r).data) := by and_intros <;> ((unfold hasA; rw [if_neg (by omega),if_neg (by omega),if_neg (by omega),if_neg (by omega),if_neg (by omega),if_neg (by omega),if_neg (by omega),if_pos (by omega)]; done))
  refine w_leO (n := 1) (ds := cReply (hasA r)) rfl ⟨le_of_eq (congrArg pI hz8.1),le_of_eq (congrArg pI hz8.2.1),le_of_eq (congrArg pI hz8.2.2.1),le_of_eq (congrArg pI hz8.2.2.2.1),le_of_eq (congrArg pI hz8.2.2.2.2.1),le_tr (le_nilS 1 false) (le_of_eq (congrArg (fun z => pS 1 false encBo z) hz8.2.2.2.2.2.1)),le_tr (le_nilS 1 false) (le_of_eq (congrArg (fun z => pS 1 false enc16 z) hz8.2.2.2.2.2.2.1)),le_of_eq (congrArg p16 hz8.2.2.2.2.2.2.2.1),le_of_eq (congrArg p16 hz8.2.2.2.2.2.2.2.2.1),le_of_eq (congrArg (fun z => pS 1 false enc8 z) hz8.2.2.2.2.2.2.2.2.2),trivial⟩ (w_le (s := 3) (y := pB (hasF r.fn)) rfl (le_of_eq (congrArg pB (show true = (hasF r.fn) by exact (decide_eq_true (by omega)).symm))) (w_ret ?_))
  exact fin_plain (ret_cell tab_53 (by decide) rfl rfl (Nat.le_of_ble_eq_true rfl) rfl (ret_tmp rfl ret_nil)) rfl rfl ⟨rfl,rfl,rfl⟩
 try simp only [sB] at c12
 refine w_seq (w_R (qo hnt rfl (s_build tab_53 rfl rfl (b_nil ?_))))
 refine qo hnt rfl (s_store_ptr tab_53 rfl rfl rfl rfl rfl (Nat.le_of_ble_eq_true rfl) ?_)
 refine qa hnt rfl rfl (r_set [(2,PV.ptr 1 0),(3,pB false)] [(1,.obj [pI 0,pI 0,pI 0,pI 0,pI 0,pNil,pNil,p16 0,p16 0,pNil]),(0,.obj (cReply r))] 2 ⟨rfl,rfl,trivial⟩ rfl rfl (r_end (q_then ?_)))
 have hz9 : 0 = ((hasA r).fn) ∧ 0 = ((hasA r).code) ∧ 0 = ((hasA r).at_) ∧ 0 = ((hasA r).count) ∧ 0 = ((hasA r).sub) ∧ ([] : List Bool) = ((hasA r).bits) ∧ ([] : List UInt16) = ((hasA r).vals) ∧ 0 = ((hasA r).and_) ∧ 0 = ((hasA r).or_) ∧ ([] : List UInt8) = ((hasA r).data) := by and_intros <;> ((unfold hasA; rw [if_neg (by omega),if_neg (by omega),if_neg (by omega),if_neg (by omega),if_neg (by omega),if_neg (by omega),if_neg (by omega),if_neg (by omega)]; rfl))
 refine w_leO (n := 1) (ds := cReply (hasA r)) rfl ⟨le_of_eq (congrArg pI hz9.1),le_of_eq (congrArg pI hz9.2.1),le_of_eq (congrArg pI hz9.2.2.1),le_of_eq (congrArg pI hz9.2.2.2.1),le_of_eq (congrArg pI hz9.2.2.2.2.1),le_tr (le_nilS 1 false) (le_of_eq (congrArg (fun z => pS 1 false encBo z) hz9.2.2.2.2.2.1)),le_tr (le_nilS 1 false) (le_of_eq (congrArg (fun z => pS 1 false enc16 z) hz9.2.2.2.2.2.2.1)),le_of_eq (congrArg p16 hz9.2.2.2.2.2.2.2.1),le_of_eq (congrArg p16 hz9.2.2.2.2.2.2.2.2.1),le_tr (le_nilS 1 false) (le_of_eq (congrArg (fun z => pS 1 false enc8 z) hz9.2.2.2.2.2.2.2.2.2)),trivial⟩ (w_le (s := 3) (y := pB (hasF r.fn)) rfl (le_of_eq (congrArg pB (show false = (hasF r.fn) by exact (decide_eq_false (by omega)).symm))) (w_ret (q_block_ret (q_then_ret ?_))))
 exact fin_plain (ret_cell tab_53 (by decide) rfl rfl (Nat.le_of_ble_eq_true rfl) rfl (ret_tmp rfl ret_nil)) rfl rfl ⟨rfl,rfl,rfl⟩
theorem w_burgageref3_has (n : Int)  :
    T Try.prog 87 [pI n] 0 [] (Ret (pT (usesA n)) 0 []) := by
 refine t_fun tabOk (n := 22) (rs := [.tmp 2]) Try.func87 rfl rfl rfl rfl (Nat.le_of_ble_eq_true rfl) ?_
 intro c hnt hk
 refine w_seq (w_R (qa hnt rfl rfl (r_end (q_then (w_seq ?_)))))
 refine w_seq (w_R (qm hnt rfl rfl (r_end (q_then (w_block ?_)))))
 refine w_seq (w_seq (w_R (qo hnt rfl (s_eql rfl rfl ?_))))
 refine qa hnt rfl rfl (r_end (q_then (w_if rfl (fun c1 => ?_) (fun c1 => ?_))))
 ·have c1_ := c1
  try simp only [sB] at c1
  refine w_skip (q_then (w_if rfl (fun _ => ?_) (fun e => absurd (e.symm.trans c1_) (by decide))))
  refine w_seq (w_R (qa hnt rfl rfl (r_end (q_then (w_le (s := 2) (y := pT (usesA n)) rfl (le_of_eq (congrArg (fun z : List UInt8 => pT z) (show ([98] : List UInt8) = (usesA n) by (simp [usesA, *]; done)))) ?_)))))
  refine w_ret (q_block_ret (q_then_ret ?_))
  exact fin_plain (ret_tmp rfl ret_nil) rfl rfl ⟨rfl,rfl,rfl⟩
 have c1_ := c1
 try simp only [sB] at c1
 refine w_R (qo hnt rfl (s_eql rfl rfl ?_))
 refine qa hnt rfl rfl (r_end (q_then (w_if rfl (fun c2 => ?_) (fun c2 => ?_))))
 ·try simp only [sB] at c2
  refine w_seq (w_R (qa hnt rfl rfl (r_end (q_then (w_le (s := 2) (y := pT (usesA n)) rfl (le_of_eq (congrArg (fun z : List UInt8 => pT z) (show ([98] : List UInt8) = (usesA n) by (simp [usesA, *]; done)))) ?_)))))
  refine w_ret (q_block_ret (q_then_ret ?_))
  exact fin_plain (ret_tmp rfl ret_nil) rfl rfl ⟨rfl,rfl,rfl⟩
 try simp only [sB] at c2
 refine w_seq (w_seq (w_R (qo hnt rfl (s_eql rfl rfl ?_))))
 refine qa hnt rfl rfl (r_end (q_then (w_if rfl (fun c3 => ?_) (fun c3 => ?_))))
 ·have c3_ := c3
  try simp only [sB] at c3
  refine w_skip (q_then (w_if rfl (fun _ => ?_) (fun e => absurd (e.symm.trans c3_) (by decide))))
  refine w_seq (w_R (qa hnt rfl rfl (r_end (q_then (w_le (s := 2) (y := pT (usesA n)) rfl (le_of_eq (congrArg (fun z : List UInt8 => pT z) (show ([118] : List UInt8) = (usesA n) by (simp [usesA, *]; done)))) ?_)))))
  refine w_ret (q_block_ret (q_then_ret ?_))
  exact fin_plain (ret_tmp rfl ret_nil) rfl rfl ⟨rfl,rfl,rfl⟩
 have c3_ := c3
 try simp only [sB] at c3
 refine w_seq (w_R (qo hnt rfl (s_eql rfl rfl ?_)))
 refine qa hnt rfl rfl (r_end (q_then (w_if rfl (fun c4 => ?_) (fun c4 => ?_))))
 ·have c4_ := c4
  try simp only [sB] at c4
  refine w_skip (q_then (w_if rfl (fun _ => ?_) (fun e => absurd (e.symm.trans c4_) (by decide))))
  refine w_seq (w_R (qa hnt rfl rfl (r_end (q_then (w_le (s := 2) (y := pT (usesA n)) rfl (le_of_eq (congrArg (fun z : List UInt8 => pT z) (show ([118] : List UInt8) = (usesA n) by (simp [usesA, *]; done)))) ?_)))))
  refine w_ret (q_block_ret (q_then_ret ?_))
  exact fin_plain (ret_tmp rfl ret_nil) rfl rfl ⟨rfl,rfl,rfl⟩
 have c4_ := c4
 try simp only [sB] at c4
 refine w_R (qo hnt rfl (s_eql rfl rfl ?_))
 refine qa hnt rfl rfl (r_end (q_then (w_if rfl (fun c5 => ?_) (fun c5 => ?_))))
 ·try simp only [sB] at c5
  refine w_seq (w_R (qa hnt rfl rfl (r_end (q_then (w_le (s := 2) (y := pT (usesA n)) rfl (le_of_eq (congrArg (fun z : List UInt8 => pT z) (show ([118] : List UInt8) = (usesA n) by (simp [usesA, *]; done)))) ?_)))))
  refine w_ret (q_block_ret (q_then_ret ?_))
  exact fin_plain (ret_tmp rfl ret_nil) rfl rfl ⟨rfl,rfl,rfl⟩
 try simp only [sB] at c5
 refine w_seq (w_R (qo hnt rfl (s_eql rfl rfl ?_)))
 refine qa hnt rfl rfl (r_end (q_then (w_if rfl (fun c6 => ?_) (fun c6 => ?_))))
 ·try simp only [sB] at c6
  refine w_seq (w_R (qa hnt rfl rfl (r_end (q_then (w_le (s := 2) (y := pT (usesA n)) rfl (le_of_eq (congrArg (fun z : List UInt8 => pT z) (show ([97,98] : List UInt8) = (usesA n) by (simp [usesA, *]; done)))) ?_)))))
  refine w_ret (q_block_ret (q_then_ret ?_))
  exact fin_plain (ret_tmp rfl ret_nil) rfl rfl ⟨rfl,rfl,rfl⟩
 try simp only [sB] at c6
 refine w_seq (w_R (qo hnt rfl (s_eql rfl rfl ?_)))
 refine qa hnt rfl rfl (r_end (q_then (w_if rfl (fun c7 => ?_) (fun c7 => ?_))))
 ·try simp only [sB] at c7
  refine w_seq (w_R (qa hnt rfl rfl (r_end (q_then (w_le (s := 2) (y := pT (usesA n)) rfl (le_of_eq (congrArg (fun z : List UInt8 => pT z) (show ([97,118] : List UInt8) = (usesA n) by (simp [usesA, *]; done)))) ?_)))))
  refine w_ret (q_block_ret (q_then_ret ?_))
  exact fin_plain (ret_tmp rfl ret_nil) rfl rfl ⟨rfl,rfl,rfl⟩
 try simp only [sB] at c7
 refine w_seq (w_R (qo hnt rfl (s_eql rfl rfl ?_)))
 refine qa hnt rfl rfl (r_end (q_then (w_if rfl (fun c8 => ?_) (fun c8 => ?_))))
 ·try simp only [sB] at c8
  refine w_seq (w_R (qa hnt rfl rfl (r_end (q_then (w_le (s := 2) (y := pT (usesA n)) rfl (le_of_eq (congrArg (fun z : List UInt8 => pT z) (show ([115,118] : List UInt8) = (usesA n) by (simp [usesA, *]; done)))) ?_)))))
  refine w_ret (q_block_ret (q_then_ret ?_))
  exact fin_plain (ret_tmp rfl ret_nil) rfl rfl ⟨rfl,rfl,rfl⟩
 try simp only [sB] at c8
 refine w_seq (w_seq (w_R (qo hnt rfl (s_eql rfl rfl ?_))))
 refine qa hnt rfl rfl (r_end (q_then (w_if rfl (fun c9 => ?_) (fun c9 => ?_))))
 ·have c9_ := c9
  try simp only [sB] at c9
  refine w_skip (q_then (w_if rfl (fun _ => ?_) (fun e => absurd (e.symm.trans c9_) (by decide))))
  refine w_seq (w_R (qa hnt rfl rfl (r_end (q_then (w_le (s := 2) (y := pT (usesA n)) rfl (le_of_eq (congrArg (fun z : List UInt8 => pT z) (show ([97,99] : List UInt8) = (usesA n) by (simp [usesA, *]; done)))) ?_)))))
  refine w_ret (q_block_ret (q_then_ret ?_))
  exact fin_plain (ret_tmp rfl ret_nil) rfl rfl ⟨rfl,rfl,rfl⟩
 have c9_ := c9
 try simp only [sB] at c9
 refine w_R (qo hnt rfl (s_eql rfl rfl ?_))
 refine qa hnt rfl rfl (r_end (q_then (w_if rfl (fun c10 => ?_) (fun c10 => ?_))))
 ·try simp only [sB] at c10
  refine w_seq (w_R (qa hnt rfl rfl (r_end (q_then (w_le (s := 2) (y := pT (usesA n)) rfl (le_of_eq (congrArg (fun z : List UInt8 => pT z) (show ([97,99] : List UInt8) = (usesA n) by (simp [usesA, *]; done)))) ?_)))))
  refine w_ret (q_block_ret (q_then_ret ?_))
  exact fin_plain (ret_tmp rfl ret_nil) rfl rfl ⟨rfl,rfl,rfl⟩
 try simp only [sB] at c10
 refine w_seq (w_R (qo hnt rfl (s_eql rfl rfl ?_)))
 refine qa hnt rfl rfl (r_end (q_then (w_if rfl (fun c11 => ?_) (fun c11 => ?_))))
 ·try simp only [sB] at c11
  refine w_seq (w_R (qa hnt rfl rfl (r_end (q_then (w_le (s := 2) (y := pT (usesA n)) rfl (le_of_eq (congrArg (fun z : List UInt8 => pT z) (show ([100] : List UInt8) = (usesA n) by (simp [usesA, *]; done)))) ?_)))))
  refine w_ret (q_block_ret (q_then_ret ?_))
  exact fin_plain (ret_tmp rfl ret_nil) rfl rfl ⟨rfl,rfl,rfl⟩
 try simp only [sB] at c11
 refine w_skip (q_block (q_then (w_seq (w_R (qa hnt rfl rfl ?_)))))
 refine r_end (q_then (w_le (s := 2) (y := pT (usesA n)) rfl (le_of_eq (congrArg (fun z : List UInt8 => pT z) (show ([97,109] : List UInt8) = (usesA n) by (simp [usesA, *]; done)))) (w_ret ?_)))
 exact fin_plain (ret_tmp rfl ret_nil) rfl rfl ⟨rfl,rfl,rfl⟩
theorem w_reply_Right (r : TReply) (hr : r.bits.length ≤ 140737488351232 ∧ r.vals.length ≤ 140737488351232 ∧ r.data.length ≤ 140737488351232) :
    T Try.prog 57 [PV.f (eReply r)] 0 [] (Ret (pI (goodR r)) 0 []) := by
 refine t_fun tabOk (n := 110) (rs := [.tmp 2]) Try.func57 rfl rfl rfl rfl (Nat.le_of_ble_eq_true rfl) ?_
 intro c hnt hk
 refine w_seq (w_R (qo hnt rfl (s_box rfl rfl ?_)))
 refine qa hnt rfl rfl (r_set [(1,PV.ptr 0 0)] [(0,.obj (cReply r))] 1 ⟨rfl,trivial⟩ rfl rfl (r_end (q_then (w_seq (w_seq ?_)))))
 refine w_R (qo hnt rfl (s_fa_ptr tab_53 rfl rfl tab_3 (by decide) rfl ?_))
 refine qo hnt rfl (s_load_ptr1 tab_3 rfl rfl rfl rfl rfl ?_)
 refine qo hnt rfl (s_neq rfl rfl ?_)
 refine r_end (q_then (w_if rfl (fun c1 => ?_) (fun c1 => ?_)))
 ·have c1_ := c1
  try simp only [sB] at c1
  refine w_seq (w_seq (w_R (qo hnt rfl (s_fa_ptr tab_53 rfl rfl tab_3 (by decide) rfl ?_))))
  refine qo hnt rfl (s_load_ptr1 tab_3 rfl rfl rfl rfl rfl ?_)
  refine qo hnt rfl (s_lss rfl rfl ?_)
  refine qm hnt rfl rfl (r_cut0 4 [(1,PV.ptr 0 0),(15,pB ((decide (r.code < 0)) || (decide (255 < r.code))))] ?_ ?_)
  ·refine r_if tabOk hnt rfl rfl rfl (fun g1 => ?_) (fun g1 => ?_)
   ·have g1' := g1
    try simp only [sB] at g1'
    refine qo hnt rfl (s_fa_ptr tab_53 rfl rfl tab_3 (by decide) rfl ?_)
    refine ry hnt rfl rfl rfl g1 (qo hnt rfl (s_load_ptr1 tab_3 rfl rfl rfl rfl rfl ?_))
    refine ry hnt rfl rfl rfl g1 (qo hnt rfl (s_gtr rfl rfl ?_))
    refine qo hnt rfl (s_pick_f rfl g1 rfl ?_)
    refine r_eq (s := 15) (y := pB ((decide (r.code < 0)) || (decide (255 < r.code)))) rfl (mix_of g1) ?_
    exact r_mid ⟨⟨rfl,rfl,trivial⟩,rfl,rfl⟩
   ·have g1' := g1
    try simp only [sB] at g1'
    refine rn hnt rfl rfl rfl g1 (rn hnt rfl rfl rfl g1 (qo hnt rfl (s_pick_t rfl g1 rfl ?_)))
    refine r_eq (s := 15) (y := pB ((decide (r.code < 0)) || (decide (255 < r.code)))) rfl (mix_ot _ g1) ?_
    exact r_mid ⟨⟨rfl,rfl,trivial⟩,rfl,rfl⟩
  ·refine qm hnt rfl rfl (r_cut0 4 [(1,PV.ptr 0 0),(20,pB (((decide (r.code < 0)) || (decide (255 < r.code))) || (decide (r.fn < 0))))] ?_ ?_)
   ·refine r_if tabOk hnt rfl rfl rfl (fun g2 => ?_) (fun g2 => ?_)
    ·have g2' := g2
     try simp only [sB] at g2'
     refine qo hnt rfl (s_fa_ptr tab_53 rfl rfl tab_3 (by decide) rfl ?_)
     refine ry hnt rfl rfl rfl g2 (qo hnt rfl (s_load_ptr1 tab_3 rfl rfl rfl rfl rfl ?_))
     refine ry hnt rfl rfl rfl g2 (qo hnt rfl (s_lss rfl rfl ?_))
     refine qo hnt rfl (s_pick_f rfl g2 rfl ?_)
     refine r_eq (s := 20) (y := pB (((decide (r.code < 0)) || (decide (255 < r.code))) || (decide (r.fn < 0)))) rfl (mix_of g2) ?_
     exact r_mid ⟨⟨rfl,rfl,trivial⟩,rfl,rfl⟩
    ·have g2' := g2
     try simp only [sB] at g2'
     refine rn hnt rfl rfl rfl g2 (rn hnt rfl rfl rfl g2 (qo hnt rfl (s_pick_t rfl g2 rfl ?_)))
     refine r_eq (s := 20) (y := pB (((decide (r.code < 0)) || (decide (255 < r.code))) || (decide (r.fn < 0)))) rfl (mix_ot _ g2) ?_
     exact r_mid ⟨⟨rfl,rfl,trivial⟩,rfl,rfl⟩
   ·refine qm hnt rfl rfl (r_cut0 4 [(1,PV.ptr 0 0),(25,pB ((((decide (r.code < 0)) || (decide (255 < r.code))) || (decide (r.fn < 0))) || (decide (127 < r.fn))))] ?_ ?_)
    ·refine r_if tabOk hnt rfl rfl rfl (fun g3 => ?_) (fun g3 => ?_)
     ·have g3' := g3
      try simp only [sB] at g3'
      refine qo hnt rfl (s_fa_ptr tab_53 rfl rfl tab_3 (by decide) rfl ?_)
      refine ry hnt rfl rfl rfl g3 (qo hnt rfl (s_load_ptr1 tab_3 rfl rfl rfl rfl rfl ?_))
      refine ry hnt rfl rfl rfl g3 (qo hnt rfl (s_gtr rfl rfl ?_))
      refine qo hnt rfl (s_pick_f rfl g3 rfl ?_)
      refine r_eq (s := 25) (y := pB ((((decide (r.code < 0)) || (decide (255 < r.code))) || (decide (r.fn < 0))) || (decide (127 < r.fn)))) rfl (mix_of g3) ?_
      exact r_mid ⟨⟨rfl,rfl,trivial⟩,rfl,rfl⟩
     ·have g3' := g3
      try simp only [sB] at g3'
      refine rn hnt rfl rfl rfl g3 (rn hnt rfl rfl rfl g3 (qo hnt rfl (s_pick_t rfl g3 rfl ?_)))
      refine r_eq (s := 25) (y := pB ((((decide (r.code < 0)) || (decide (255 < r.code))) || (decide (r.fn < 0))) || (decide (127 < r.fn)))) rfl (mix_ot _ g3) ?_
      exact r_mid ⟨⟨rfl,rfl,trivial⟩,rfl,rfl⟩
    ·refine qm hnt rfl rfl (r_cut0 9 [(35,pB (((((decide (r.code < 0)) || (decide (255 < r.code))) || (decide (r.fn < 0))) || (decide (127 < r.fn))) || (!(decide (r = (⟨r.fn,r.code,0,0,0,[],[],0,0,[]⟩ : TReply))))))] ?_ ?_)
     ·refine r_if tabOk hnt rfl rfl rfl (fun g4 => ?_) (fun g4 => ?_)
      ·have g4' := g4
       try simp only [sB] at g4'
       refine qo hnt rfl (s_load_ptr tab_53 rfl rfl rfl (Nat.le_of_ble_eq_true rfl) ?_)
       refine ry hnt rfl rfl rfl g4 (qo hnt rfl (s_fa_ptr tab_53 rfl rfl tab_3 (by decide) rfl ?_))
       refine ry hnt rfl rfl rfl g4 (qo hnt rfl (s_load_ptr1 tab_3 rfl rfl rfl rfl rfl ?_))
       refine ry hnt rfl rfl rfl g4 (qo hnt rfl (s_fa_ptr tab_53 rfl rfl tab_3 (by decide) rfl ?_))
       refine ry hnt rfl rfl rfl g4 (qo hnt rfl (s_load_ptr1 tab_3 rfl rfl rfl rfl rfl ?_))
       refine ry hnt rfl rfl rfl g4 (qo hnt rfl (s_build tab_53 rfl rfl (b_cons rfl tab_3 rfl rfl rfl (Nat.le_of_ble_eq_true rfl) (b_cons rfl tab_3 rfl rfl rfl (Nat.le_of_ble_eq_true rfl) (b_nil ?_)))))
       refine ry hnt rfl rfl rfl g4 (qo hnt rfl (s_callF rfl rfl rfl (T.leL (args := [PV.f (eReply r),PV.f (.agg [encI r.fn,encI r.code,encI 0,encI 0,encI 0,FV.v (.slice none 0 0),FV.v (.slice none 0 0),enc16 0,enc16 0,FV.v (.slice none 0 0)])]) (args' := [PV.f (eReply r),PV.f (eReply (⟨r.fn,r.code,0,0,0,[],[],0,0,[]⟩ : TReply))]) ⟨le_refl _,⟨le_F (FLe.agg ⟨FLe.refl _,FLe.refl _,FLe.refl _,FLe.refl _,FLe.refl _,FLe.nil 1 false,FLe.nil 1 false,FLe.refl _,FLe.refl _,FLe.nil 1 false,trivial⟩),trivial⟩⟩ (w_reply_Same r (⟨r.fn,r.code,0,0,0,[],[],0,0,[]⟩ : TReply) (by omega))) rfl ?_))
       refine ry hnt rfl rfl rfl g4 (qo hnt rfl (s_not rfl ?_))
       refine qo hnt rfl (s_pick_f rfl g4 rfl ?_)
       refine r_eq (s := 35) (y := pB (((((decide (r.code < 0)) || (decide (255 < r.code))) || (decide (r.fn < 0))) || (decide (127 < r.fn))) || (!(decide (r = (⟨r.fn,r.code,0,0,0,[],[],0,0,[]⟩ : TReply)))))) rfl (mix_of g4) ?_
       exact r_mid ⟨⟨rfl,trivial⟩,rfl,rfl⟩
      ·have g4' := g4
       try simp only [sB] at g4'
       refine rn hnt rfl rfl rfl g4 (rn hnt rfl rfl rfl g4 (rn hnt rfl rfl rfl g4 (rn hnt rfl rfl rfl g4 (rn hnt rfl rfl rfl g4 (rn hnt rfl rfl rfl g4 ?_)))))
       refine rn hnt rfl rfl rfl g4 (qo hnt rfl (s_pick_t rfl g4 rfl ?_))
       refine r_eq (s := 35) (y := pB (((((decide (r.code < 0)) || (decide (255 < r.code))) || (decide (r.fn < 0))) || (decide (127 < r.fn))) || (!(decide (r = (⟨r.fn,r.code,0,0,0,[],[],0,0,[]⟩ : TReply)))))) rfl (mix_ot _ g4) ?_
       exact r_mid ⟨⟨rfl,trivial⟩,rfl,rfl⟩
     ·refine r_end (q_then (w_if rfl (fun c2 => ?_) (fun c2 => ?_)))
      ·have c2_ := c2
       try simp only [sB] at c2
       refine w_seq (w_R (qa hnt rfl rfl (r_end (q_then (w_le (s := 2) (y := pI (goodR r)) rfl (le_of_eq (congrArg pI (show 12 = (goodR r) by exact (goodC_1 (lo := 0) (.inl rfl) c1_ c2_).symm))) ?_)))))
       refine w_ret (q_then_ret (q_then_ret ?_))
       exact fin_plain (ret_tmp rfl ret_nil) rfl rfl ⟨rfl,rfl,rfl⟩
      have c2_ := c2
      try simp only [sB] at c2
      refine w_skip (q_then (w_seq (w_R (qa hnt rfl rfl (r_end ?_)))))
      refine q_then (w_le (s := 2) (y := pI (goodR r)) rfl (le_of_eq (congrArg pI (show 0 = (goodR r) by exact (goodC_2 (lo := 0) (.inl rfl) c1_ c2_).symm))) (w_ret (q_then_ret ?_)))
      exact fin_plain (ret_tmp rfl ret_nil) rfl rfl ⟨rfl,rfl,rfl⟩
 have c1_ := c1
 try simp only [sB] at c1
 refine w_skip (q_then (w_seq (w_R (qo hnt rfl (s_load_ptr tab_53 rfl rfl rfl (Nat.le_of_ble_eq_true rfl) ?_)))))
 refine qo hnt rfl (s_callF rfl rfl rfl (w_reply_has r (by omega)) rfl ?_)
 refine qm hnt rfl rfl (qo hnt rfl (s_extract rfl rfl ?_))
 refine qo hnt rfl (s_extract rfl rfl ?_)
 refine qo hnt rfl (s_alloc tab_53 ?_)
 refine qo hnt rfl (s_store_ptr tab_53 rfl rfl rfl rfl rfl (Nat.le_of_ble_eq_true rfl) ?_)
 refine qa hnt rfl rfl (r_set [(1,PV.ptr 0 0),(3,PV.ptr 1 0),(4,pB (hasF r.fn))] [(1,.obj (cReply (hasA r))),(0,.obj (cReply r))] 2 ⟨rfl,rfl,rfl,trivial⟩ rfl rfl (r_end (q_then (w_seq (w_block ?_)))))
 refine w_seq (w_R (qm hnt rfl rfl (qo hnt rfl (s_not rfl ?_))))
 refine qa hnt rfl rfl (r_end (q_then (w_if rfl (fun c3 => ?_) (fun c3 => ?_))))
 ·have c3_ := c3
  try simp only [sB] at c3
  refine w_seq (w_R (qa hnt rfl rfl (r_end (q_then (w_le (s := 2) (y := pI (goodR r)) rfl (le_of_eq (congrArg pI (show 15 = (goodR r) by exact (goodP_3 c1_ c3_).symm))) ?_)))))
  refine w_ret (q_block_ret (q_then_ret ?_))
  exact fin_plain (ret_tmp rfl ret_nil) rfl rfl ⟨rfl,rfl,rfl⟩
 have c3_ := c3
 try simp only [sB] at c3
 refine w_seq (w_R (qo hnt rfl (s_load_ptr tab_53 rfl rfl rfl (Nat.le_of_ble_eq_true rfl) ?_)))
 refine qo hnt rfl (s_load_ptr tab_53 rfl rfl rfl (Nat.le_of_ble_eq_true rfl) ?_)
 refine qo hnt rfl (s_callF rfl rfl rfl (w_reply_Same r (hasA r) (by omega)) rfl ?_)
 refine qo hnt rfl (s_not rfl ?_)
 refine qm hnt rfl rfl (r_cut0 5 [(1,PV.ptr 0 0),(54,pB ((!(decide (r = (hasA r)))) || (!(wordOk r.at_))))] ?_ ?_)
 ·refine r_if tabOk hnt rfl rfl rfl (fun g5 => ?_) (fun g5 => ?_)
  ·have g5' := g5
   try simp only [sB] at g5'
   refine qo hnt rfl (s_fa_ptr tab_53 rfl rfl tab_3 (by decide) rfl ?_)
   refine ry hnt rfl rfl rfl g5 (qo hnt rfl (s_load_ptr1 tab_3 rfl rfl rfl rfl rfl ?_))
   refine ry hnt rfl rfl rfl g5 (qo hnt rfl (s_callF rfl rfl rfl (w_reply_within r.at_) rfl ?_))
   refine ry hnt rfl rfl rfl g5 (qo hnt rfl (s_not rfl ?_))
   refine qo hnt rfl (s_pick_f rfl g5 rfl ?_)
   refine r_eq (s := 54) (y := pB ((!(decide (r = (hasA r)))) || (!(wordOk r.at_)))) rfl (mix_of g5) ?_
   exact r_mid ⟨⟨rfl,rfl,trivial⟩,rfl,rfl⟩
  ·have g5' := g5
   try simp only [sB] at g5'
   refine rn hnt rfl rfl rfl g5 (rn hnt rfl rfl rfl g5 (rn hnt rfl rfl rfl g5 (qo hnt rfl (s_pick_t rfl g5 rfl ?_))))
   refine r_eq (s := 54) (y := pB ((!(decide (r = (hasA r)))) || (!(wordOk r.at_)))) rfl (mix_ot _ g5) ?_
   exact r_mid ⟨⟨rfl,rfl,trivial⟩,rfl,rfl⟩
 ·refine qm hnt rfl rfl (r_cut0 5 [(1,PV.ptr 0 0),(60,pB (((!(decide (r = (hasA r)))) || (!(wordOk r.at_))) || (!(wordOk r.sub))))] ?_ ?_)
  ·refine r_if tabOk hnt rfl rfl rfl (fun g6 => ?_) (fun g6 => ?_)
   ·have g6' := g6
    try simp only [sB] at g6'
    refine qo hnt rfl (s_fa_ptr tab_53 rfl rfl tab_3 (by decide) rfl ?_)
    refine ry hnt rfl rfl rfl g6 (qo hnt rfl (s_load_ptr1 tab_3 rfl rfl rfl rfl rfl ?_))
    refine ry hnt rfl rfl rfl g6 (qo hnt rfl (s_callF rfl rfl rfl (w_reply_within r.sub) rfl ?_))
    refine ry hnt rfl rfl rfl g6 (qo hnt rfl (s_not rfl ?_))
    refine qo hnt rfl (s_pick_f rfl g6 rfl ?_)
    refine r_eq (s := 60) (y := pB (((!(decide (r = (hasA r)))) || (!(wordOk r.at_))) || (!(wordOk r.sub)))) rfl (mix_of g6) ?_
    exact r_mid ⟨⟨rfl,rfl,trivial⟩,rfl,rfl⟩
   ·have g6' := g6
    try simp only [sB] at g6'
    refine rn hnt rfl rfl rfl g6 (rn hnt rfl rfl rfl g6 (rn hnt rfl rfl rfl g6 (qo hnt rfl (s_pick_t rfl g6 rfl ?_))))
    refine r_eq (s := 60) (y := pB (((!(decide (r = (hasA r)))) || (!(wordOk r.at_))) || (!(wordOk r.sub)))) rfl (mix_ot _ g6) ?_
    exact r_mid ⟨⟨rfl,rfl,trivial⟩,rfl,rfl⟩
  ·refine qm hnt rfl rfl (r_cut0 5 [(1,PV.ptr 0 0),(66,pB ((((!(decide (r = (hasA r)))) || (!(wordOk r.at_))) || (!(wordOk r.sub))) || (!(wordOk r.count))))] ?_ ?_)
   ·refine r_if tabOk hnt rfl rfl rfl (fun g7 => ?_) (fun g7 => ?_)
    ·have g7' := g7
     try simp only [sB] at g7'
     refine qo hnt rfl (s_fa_ptr tab_53 rfl rfl tab_3 (by decide) rfl ?_)
     refine ry hnt rfl rfl rfl g7 (qo hnt rfl (s_load_ptr1 tab_3 rfl rfl rfl rfl rfl ?_))
     refine ry hnt rfl rfl rfl g7 (qo hnt rfl (s_callF rfl rfl rfl (w_reply_within r.count) rfl ?_))
     refine ry hnt rfl rfl rfl g7 (qo hnt rfl (s_not rfl ?_))
     refine qo hnt rfl (s_pick_f rfl g7 rfl ?_)
     refine r_eq (s := 66) (y := pB ((((!(decide (r = (hasA r)))) || (!(wordOk r.at_))) || (!(wordOk r.sub))) || (!(wordOk r.count)))) rfl (mix_of g7) ?_
     exact r_mid ⟨⟨rfl,rfl,trivial⟩,rfl,rfl⟩
    ·have g7' := g7
     try simp only [sB] at g7'
     refine rn hnt rfl rfl rfl g7 (rn hnt rfl rfl rfl g7 (rn hnt rfl rfl rfl g7 (qo hnt rfl (s_pick_t rfl g7 rfl ?_))))
     refine r_eq (s := 66) (y := pB ((((!(decide (r = (hasA r)))) || (!(wordOk r.at_))) || (!(wordOk r.sub))) || (!(wordOk r.count)))) rfl (mix_ot _ g7) ?_
     exact r_mid ⟨⟨rfl,rfl,trivial⟩,rfl,rfl⟩
   ·refine qa hnt rfl rfl (r_end (q_then (w_if rfl (fun c4 => ?_) (fun c4 => ?_))))
    ·have c4_ := c4
     try simp only [sB] at c4
     refine w_seq (w_R (qa hnt rfl rfl (r_end (q_then (w_le (s := 2) (y := pI (goodR r)) rfl (le_of_eq (congrArg pI (show 12 = (goodR r) by exact (goodP_4 c1_ c3_ c4_).symm))) ?_)))))
     refine w_ret (q_block_ret (q_then_ret ?_))
     exact fin_plain (ret_tmp rfl ret_nil) rfl rfl ⟨rfl,rfl,rfl⟩
    have c4_ := c4
    try simp only [sB] at c4
    refine w_seq (w_R (qo hnt rfl (s_fa_ptr tab_53 rfl rfl tab_3 (by decide) rfl ?_)))
    refine qo hnt rfl (s_load_ptr1 tab_3 rfl rfl rfl rfl rfl ?_)
    refine qo hnt rfl (s_eql rfl rfl ?_)
    refine qm hnt rfl rfl (r_cut0 5 [(1,PV.ptr 0 0),(76,pB ((decide (r.fn = 5)) && (!decide (((r.bits.length : Nat) : Int) = 1))))] ?_ ?_)
    ·refine r_if tabOk hnt rfl rfl rfl (fun g8 => ?_) (fun g8 => ?_)
     ·have g8' := g8
      try simp only [sB] at g8'
      refine qo hnt rfl (s_fa_ptr tab_53 rfl rfl tab_42 (by decide) rfl ?_)
      refine ry hnt rfl rfl rfl g8 (qo hnt rfl (s_load_ptr1 tab_42 rfl rfl rfl rfl rfl ?_))
      refine ry hnt rfl rfl rfl g8 (qo hnt rfl (s_lenM (l := r.bits) tab_42 rfl (hM_sl (f := encBo) rfl) ?_))
      refine ry hnt rfl rfl rfl g8 (qo hnt rfl (s_neq rfl rfl ?_))
      refine qo hnt rfl (s_pick_t rfl g8 rfl ?_)
      refine r_eq (s := 76) (y := pB ((decide (r.fn = 5)) && (!decide (((r.bits.length : Nat) : Int) = 1)))) rfl (mix_at g8) ?_
      exact r_mid ⟨⟨rfl,rfl,trivial⟩,rfl,rfl⟩
     ·have g8' := g8
      try simp only [sB] at g8'
      refine rn hnt rfl rfl rfl g8 (rn hnt rfl rfl rfl g8 (rn hnt rfl rfl rfl g8 (qo hnt rfl (s_pick_f rfl g8 rfl ?_))))
      refine r_eq (s := 76) (y := pB ((decide (r.fn = 5)) && (!decide (((r.bits.length : Nat) : Int) = 1)))) rfl (mix_af _ g8) ?_
      exact r_mid ⟨⟨rfl,rfl,trivial⟩,rfl,rfl⟩
    ·refine qm hnt rfl rfl (r_cut0 15 [(1,PV.ptr 0 0),(92,pB (((decide (r.fn = 5)) && (!decide (((r.bits.length : Nat) : Int) = 1))) || (((decide (r.fn = 6)) || (decide (r.fn = 8))) && (!decide (((r.vals.length : Nat) : Int) = 1)))))] ?_ ?_)
     ·refine r_if tabOk hnt rfl rfl rfl (fun g9 => ?_) (fun g9 => ?_)
      ·have g9' := g9
       try simp only [sB] at g9'
       refine qo hnt rfl (s_fa_ptr tab_53 rfl rfl tab_3 (by decide) rfl ?_)
       refine ry hnt rfl rfl rfl g9 (qo hnt rfl (s_load_ptr1 tab_3 rfl rfl rfl rfl rfl ?_))
       refine ry hnt rfl rfl rfl g9 (qo hnt rfl (s_eql rfl rfl ?_))
       refine ry hnt rfl rfl rfl g9 (qm hnt rfl rfl (r_cut0 4 [(1,PV.ptr 0 0),(77,pB ((decide (r.fn = 5)) && (!decide (((r.bits.length : Nat) : Int) = 1)))),(85,pB ((decide (r.fn = 6)) || (decide (r.fn = 8))))] ?_ ?_))
       ·refine r_if tabOk hnt rfl rfl rfl (fun g10 => ?_) (fun g10 => ?_)
        ·have g10' := g10
         try simp only [sB] at g10'
         refine qo hnt rfl (s_fa_ptr tab_53 rfl rfl tab_3 (by decide) rfl ?_)
         refine ry hnt rfl rfl rfl g10 (qo hnt rfl (s_load_ptr1 tab_3 rfl rfl rfl rfl rfl ?_))
         refine ry hnt rfl rfl rfl g10 (qo hnt rfl (s_eql rfl rfl ?_))
         refine ry hnt rfl rfl rfl g9 (qo hnt rfl (s_pick_f rfl g10 rfl ?_))
         refine r_eq (s := 85) (y := pB ((decide (r.fn = 6)) || (decide (r.fn = 8)))) rfl (mix_of g10) ?_
         exact r_mid ⟨⟨rfl,rfl,rfl,trivial⟩,rfl,rfl⟩
        ·have g10' := g10
         try simp only [sB] at g10'
         refine rn hnt rfl rfl rfl g10 (rn hnt rfl rfl rfl g10 (ry hnt rfl rfl rfl g9 (qo hnt rfl (s_pick_t rfl g10 rfl ?_))))
         refine r_eq (s := 85) (y := pB ((decide (r.fn = 6)) || (decide (r.fn = 8)))) rfl (mix_ot _ g10) ?_
         exact r_mid ⟨⟨rfl,rfl,rfl,trivial⟩,rfl,rfl⟩
       ·refine ry hnt rfl rfl rfl g9 (qm hnt rfl rfl (r_cut0 5 [(1,PV.ptr 0 0),(77,pB ((decide (r.fn = 5)) && (!decide (((r.bits.length : Nat) : Int) = 1)))),(91,pB (((decide (r.fn = 6)) || (decide (r.fn = 8))) && (!decide (((r.vals.length : Nat) : Int) = 1))))] ?_ ?_))
        ·refine r_if tabOk hnt rfl rfl rfl (fun g11 => ?_) (fun g11 => ?_)
         ·have g11' := g11
          try simp only [sB] at g11'
          refine qo hnt rfl (s_fa_ptr tab_53 rfl rfl tab_43 (by decide) rfl ?_)
          refine ry hnt rfl rfl rfl g11 (qo hnt rfl (s_load_ptr1 tab_43 rfl rfl rfl rfl rfl ?_))
          refine ry hnt rfl rfl rfl g11 (qo hnt rfl (s_lenM (l := r.vals) tab_43 rfl (hM_sl (f := enc16) rfl) ?_))
          refine ry hnt rfl rfl rfl g11 (qo hnt rfl (s_neq rfl rfl ?_))
          refine ry hnt rfl rfl rfl g9 (qo hnt rfl (s_pick_t rfl g11 rfl ?_))
          refine r_eq (s := 91) (y := pB (((decide (r.fn = 6)) || (decide (r.fn = 8))) && (!decide (((r.vals.length : Nat) : Int) = 1)))) rfl (mix_at g11) ?_
          exact r_mid ⟨⟨rfl,rfl,rfl,trivial⟩,rfl,rfl⟩
         ·have g11' := g11
          try simp only [sB] at g11'
          refine rn hnt rfl rfl rfl g11 (rn hnt rfl rfl rfl g11 (rn hnt rfl rfl rfl g11 (ry hnt rfl rfl rfl g9 (qo hnt rfl (s_pick_f rfl g11 rfl ?_)))))
          refine r_eq (s := 91) (y := pB (((decide (r.fn = 6)) || (decide (r.fn = 8))) && (!decide (((r.vals.length : Nat) : Int) = 1)))) rfl (mix_af _ g11) ?_
          exact r_mid ⟨⟨rfl,rfl,rfl,trivial⟩,rfl,rfl⟩
        ·refine qo hnt rfl (s_pick_f rfl g9 rfl ?_)
         refine r_eq (s := 92) (y := pB (((decide (r.fn = 5)) && (!decide (((r.bits.length : Nat) : Int) = 1))) || (((decide (r.fn = 6)) || (decide (r.fn = 8))) && (!decide (((r.vals.length : Nat) : Int) = 1))))) rfl (mix_of g9) ?_
         exact r_mid ⟨⟨rfl,rfl,trivial⟩,rfl,rfl⟩
      ·have g9' := g9
       try simp only [sB] at g9'
       refine rn hnt rfl rfl rfl g9 (rn hnt rfl rfl rfl g9 (rn hnt rfl rfl rfl g9 (ru hnt rfl rfl rfl (ru hnt rfl rfl rfl (ru hnt rfl rfl rfl ?_)))))
       refine rn hnt rfl rfl rfl g9 (rn hnt rfl rfl rfl g9 (ru hnt rfl rfl rfl (ru hnt rfl rfl rfl (ru hnt rfl rfl rfl (ru hnt rfl rfl rfl ?_)))))
       refine rn hnt rfl rfl rfl g9 (qo hnt rfl (s_pick_t rfl g9 rfl ?_))
       refine r_eq (s := 92) (y := pB (((decide (r.fn = 5)) && (!decide (((r.bits.length : Nat) : Int) = 1))) || (((decide (r.fn = 6)) || (decide (r.fn = 8))) && (!decide (((r.vals.length : Nat) : Int) = 1))))) rfl (mix_ot _ g9) ?_
       exact r_mid ⟨⟨rfl,rfl,trivial⟩,rfl,rfl⟩
     ·refine qa hnt rfl rfl (r_end (q_then (w_if rfl (fun c5 => ?_) (fun c5 => ?_))))
      ·have c5_ := c5
       try simp only [sB] at c5
       refine w_seq (w_R (qa hnt rfl rfl (r_end (q_then (w_le (s := 2) (y := pI (goodR r)) rfl (le_of_eq (congrArg pI (show 12 = (goodR r) by exact (goodP_5 c1_ c3_ c5_).symm))) ?_)))))
       refine w_ret (q_block_ret (q_then_ret ?_))
       exact fin_plain (ret_tmp rfl ret_nil) rfl rfl ⟨rfl,rfl,rfl⟩
      have c5_ := c5
      try simp only [sB] at c5
      refine w_seq (w_R (qo hnt rfl (s_fa_ptr tab_53 rfl rfl tab_42 (by decide) rfl ?_)))
      refine qo hnt rfl (s_load_ptr1 tab_42 rfl rfl rfl rfl rfl ?_)
      refine qo hnt rfl (s_lenM (l := r.bits) tab_42 rfl (hM_sl (f := encBo) rfl) ?_)
      refine qo hnt rfl (s_gtr rfl rfl ?_)
      refine qm hnt rfl rfl (r_cut0 5 [(1,PV.ptr 0 0),(103,pB ((decide (2040 < ((r.bits.length : Nat) : Int))) || (decide (127 < ((r.vals.length : Nat) : Int)))))] ?_ ?_)
      ·refine r_if tabOk hnt rfl rfl rfl (fun g12 => ?_) (fun g12 => ?_)
       ·have g12' := g12
        try simp only [sB] at g12'
        refine qo hnt rfl (s_fa_ptr tab_53 rfl rfl tab_43 (by decide) rfl ?_)
        refine ry hnt rfl rfl rfl g12 (qo hnt rfl (s_load_ptr1 tab_43 rfl rfl rfl rfl rfl ?_))
        refine ry hnt rfl rfl rfl g12 (qo hnt rfl (s_lenM (l := r.vals) tab_43 rfl (hM_sl (f := enc16) rfl) ?_))
        refine ry hnt rfl rfl rfl g12 (qo hnt rfl (s_gtr rfl rfl ?_))
        refine qo hnt rfl (s_pick_f rfl g12 rfl ?_)
        refine r_eq (s := 103) (y := pB ((decide (2040 < ((r.bits.length : Nat) : Int))) || (decide (127 < ((r.vals.length : Nat) : Int))))) rfl (mix_of g12) ?_
        exact r_mid ⟨⟨rfl,rfl,trivial⟩,rfl,rfl⟩
       ·have g12' := g12
        try simp only [sB] at g12'
        refine rn hnt rfl rfl rfl g12 (rn hnt rfl rfl rfl g12 (rn hnt rfl rfl rfl g12 (qo hnt rfl (s_pick_t rfl g12 rfl ?_))))
        refine r_eq (s := 103) (y := pB ((decide (2040 < ((r.bits.length : Nat) : Int))) || (decide (127 < ((r.vals.length : Nat) : Int))))) rfl (mix_ot _ g12) ?_
        exact r_mid ⟨⟨rfl,rfl,trivial⟩,rfl,rfl⟩
      ·refine qm hnt rfl rfl (r_cut0 5 [(109,pB (((decide (2040 < ((r.bits.length : Nat) : Int))) || (decide (127 < ((r.vals.length : Nat) : Int)))) || (decide (250 < ((r.data.length : Nat) : Int)))))] ?_ ?_)
       ·refine r_if tabOk hnt rfl rfl rfl (fun g13 => ?_) (fun g13 => ?_)
        ·have g13' := g13
         try simp only [sB] at g13'
         refine qo hnt rfl (s_fa_ptr tab_53 rfl rfl tab_51 (by decide) rfl ?_)
         refine ry hnt rfl rfl rfl g13 (qo hnt rfl (s_load_ptr1 tab_51 rfl rfl rfl rfl rfl ?_))
         refine ry hnt rfl rfl rfl g13 (qo hnt rfl (s_lenM (l := r.data) tab_51 rfl (hM_sl (f := enc8) rfl) ?_))
         refine ry hnt rfl rfl rfl g13 (qo hnt rfl (s_gtr rfl rfl ?_))
         refine qo hnt rfl (s_pick_f rfl g13 rfl ?_)
         refine r_eq (s := 109) (y := pB (((decide (2040 < ((r.bits.length : Nat) : Int))) || (decide (127 < ((r.vals.length : Nat) : Int)))) || (decide (250 < ((r.data.length : Nat) : Int))))) rfl (mix_of g13) ?_
         exact r_mid ⟨⟨rfl,trivial⟩,rfl,rfl⟩
        ·have g13' := g13
         try simp only [sB] at g13'
         refine rn hnt rfl rfl rfl g13 (rn hnt rfl rfl rfl g13 (rn hnt rfl rfl rfl g13 (qo hnt rfl (s_pick_t rfl g13 rfl ?_))))
         refine r_eq (s := 109) (y := pB (((decide (2040 < ((r.bits.length : Nat) : Int))) || (decide (127 < ((r.vals.length : Nat) : Int)))) || (decide (250 < ((r.data.length : Nat) : Int))))) rfl (mix_ot _ g13) ?_
         exact r_mid ⟨⟨rfl,trivial⟩,rfl,rfl⟩
       ·refine qa hnt rfl rfl (r_end (q_then (w_if rfl (fun c6 => ?_) (fun c6 => ?_))))
        ·have c6_ := c6
         try simp only [sB] at c6
         refine w_seq (w_R (qa hnt rfl rfl (r_end (q_then (w_le (s := 2) (y := pI (goodR r)) rfl (le_of_eq (congrArg pI (show 12 = (goodR r) by exact (goodP_6 c1_ c3_ c6_).symm))) ?_)))))
         refine w_ret (q_block_ret (q_then_ret ?_))
         exact fin_plain (ret_tmp rfl ret_nil) rfl rfl ⟨rfl,rfl,rfl⟩
        have c6_ := c6
        try simp only [sB] at c6
        refine w_skip (q_block (q_then (w_seq (w_R (qa hnt rfl rfl ?_)))))
        refine r_end (q_then (w_le (s := 2) (y := pI (goodR r)) rfl (le_of_eq (congrArg pI (show 0 = (goodR r) by exact (goodP_7 c1_ c3_ c4_ c5_ c6_).symm))) (w_ret ?_)))
        exact fin_plain (ret_tmp rfl ret_nil) rfl rfl ⟨rfl,rfl,rfl⟩
theorem w_burgageref3_Good (r : TReply) (hr : r.bits.length ≤ 140737488351232 ∧ r.vals.length ≤ 140737488351232 ∧ r.data.length ≤ 140737488351232) :
    T Try.prog 55 [PV.f (eReply r)] 0 [] (Ret (pI (goodR r)) 0 []) := by
 refine t_fun tabOk (n := 179) (rs := [.tmp 2]) Try.func55 rfl rfl rfl rfl (Nat.le_of_ble_eq_true rfl) ?_
 intro c hnt hk
 refine w_seq (w_R (qo hnt rfl (s_box rfl rfl ?_)))
 refine qa hnt rfl rfl (r_set [(1,PV.ptr 0 0)] [(0,.obj (cReply r))] 1 ⟨rfl,trivial⟩ rfl rfl (r_end (q_then (w_seq (w_seq ?_)))))
 refine w_R (qo hnt rfl (s_fa_ptr tab_53 rfl rfl tab_3 (by decide) rfl ?_))
 refine qo hnt rfl (s_load_ptr1 tab_3 rfl rfl rfl rfl rfl ?_)
 refine qo hnt rfl (s_neq rfl rfl ?_)
 refine r_end (q_then (w_if rfl (fun c1 => ?_) (fun c1 => ?_)))
 ·have c1_ := c1
  try simp only [sB] at c1
  refine w_seq (w_seq (w_R (qo hnt rfl (s_fa_ptr tab_53 rfl rfl tab_3 (by decide) rfl ?_))))
  refine qo hnt rfl (s_load_ptr1 tab_3 rfl rfl rfl rfl rfl ?_)
  refine qo hnt rfl (s_lss rfl rfl ?_)
  refine qm hnt rfl rfl (r_cut0 4 [(1,PV.ptr 0 0),(14,pB ((decide (r.code < 1)) || (decide (255 < r.code))))] ?_ ?_)
  ·refine r_if tabOk hnt rfl rfl rfl (fun g1 => ?_) (fun g1 => ?_)
   ·have g1' := g1
    try simp only [sB] at g1'
    refine qo hnt rfl (s_fa_ptr tab_53 rfl rfl tab_3 (by decide) rfl ?_)
    refine ry hnt rfl rfl rfl g1 (qo hnt rfl (s_load_ptr1 tab_3 rfl rfl rfl rfl rfl ?_))
    refine ry hnt rfl rfl rfl g1 (qo hnt rfl (s_gtr rfl rfl ?_))
    refine qo hnt rfl (s_pick_f rfl g1 rfl ?_)
    refine r_eq (s := 14) (y := pB ((decide (r.code < 1)) || (decide (255 < r.code)))) rfl (mix_of g1) ?_
    exact r_mid ⟨⟨rfl,rfl,trivial⟩,rfl,rfl⟩
   ·have g1' := g1
    try simp only [sB] at g1'
    refine rn hnt rfl rfl rfl g1 (rn hnt rfl rfl rfl g1 (qo hnt rfl (s_pick_t rfl g1 rfl ?_)))
    refine r_eq (s := 14) (y := pB ((decide (r.code < 1)) || (decide (255 < r.code)))) rfl (mix_ot _ g1) ?_
    exact r_mid ⟨⟨rfl,rfl,trivial⟩,rfl,rfl⟩
  ·refine qm hnt rfl rfl (r_cut0 4 [(1,PV.ptr 0 0),(19,pB (((decide (r.code < 1)) || (decide (255 < r.code))) || (decide (r.fn < 0))))] ?_ ?_)
   ·refine r_if tabOk hnt rfl rfl rfl (fun g2 => ?_) (fun g2 => ?_)
    ·have g2' := g2
     try simp only [sB] at g2'
     refine qo hnt rfl (s_fa_ptr tab_53 rfl rfl tab_3 (by decide) rfl ?_)
     refine ry hnt rfl rfl rfl g2 (qo hnt rfl (s_load_ptr1 tab_3 rfl rfl rfl rfl rfl ?_))
     refine ry hnt rfl rfl rfl g2 (qo hnt rfl (s_lss rfl rfl ?_))
     refine qo hnt rfl (s_pick_f rfl g2 rfl ?_)
     refine r_eq (s := 19) (y := pB (((decide (r.code < 1)) || (decide (255 < r.code))) || (decide (r.fn < 0)))) rfl (mix_of g2) ?_
     exact r_mid ⟨⟨rfl,rfl,trivial⟩,rfl,rfl⟩
    ·have g2' := g2
     try simp only [sB] at g2'
     refine rn hnt rfl rfl rfl g2 (rn hnt rfl rfl rfl g2 (qo hnt rfl (s_pick_t rfl g2 rfl ?_)))
     refine r_eq (s := 19) (y := pB (((decide (r.code < 1)) || (decide (255 < r.code))) || (decide (r.fn < 0)))) rfl (mix_ot _ g2) ?_
     exact r_mid ⟨⟨rfl,rfl,trivial⟩,rfl,rfl⟩
   ·refine qm hnt rfl rfl (r_cut0 4 [(1,PV.ptr 0 0),(24,pB ((((decide (r.code < 1)) || (decide (255 < r.code))) || (decide (r.fn < 0))) || (decide (127 < r.fn))))] ?_ ?_)
    ·refine r_if tabOk hnt rfl rfl rfl (fun g3 => ?_) (fun g3 => ?_)
     ·have g3' := g3
      try simp only [sB] at g3'
      refine qo hnt rfl (s_fa_ptr tab_53 rfl rfl tab_3 (by decide) rfl ?_)
      refine ry hnt rfl rfl rfl g3 (qo hnt rfl (s_load_ptr1 tab_3 rfl rfl rfl rfl rfl ?_))
      refine ry hnt rfl rfl rfl g3 (qo hnt rfl (s_gtr rfl rfl ?_))
      refine qo hnt rfl (s_pick_f rfl g3 rfl ?_)
      refine r_eq (s := 24) (y := pB ((((decide (r.code < 1)) || (decide (255 < r.code))) || (decide (r.fn < 0))) || (decide (127 < r.fn)))) rfl (mix_of g3) ?_
      exact r_mid ⟨⟨rfl,rfl,trivial⟩,rfl,rfl⟩
     ·have g3' := g3
      try simp only [sB] at g3'
      refine rn hnt rfl rfl rfl g3 (rn hnt rfl rfl rfl g3 (qo hnt rfl (s_pick_t rfl g3 rfl ?_)))
      refine r_eq (s := 24) (y := pB ((((decide (r.code < 1)) || (decide (255 < r.code))) || (decide (r.fn < 0))) || (decide (127 < r.fn)))) rfl (mix_ot _ g3) ?_
      exact r_mid ⟨⟨rfl,rfl,trivial⟩,rfl,rfl⟩
    ·refine qm hnt rfl rfl (r_cut0 9 [(34,pB (((((decide (r.code < 1)) || (decide (255 < r.code))) || (decide (r.fn < 0))) || (decide (127 < r.fn))) || (!(decide (r = (⟨r.fn,r.code,0,0,0,[],[],0,0,[]⟩ : TReply))))))] ?_ ?_)
     ·refine r_if tabOk hnt rfl rfl rfl (fun g4 => ?_) (fun g4 => ?_)
      ·have g4' := g4
       try simp only [sB] at g4'
       refine qo hnt rfl (s_load_ptr tab_53 rfl rfl rfl (Nat.le_of_ble_eq_true rfl) ?_)
       refine ry hnt rfl rfl rfl g4 (qo hnt rfl (s_fa_ptr tab_53 rfl rfl tab_3 (by decide) rfl ?_))
       refine ry hnt rfl rfl rfl g4 (qo hnt rfl (s_load_ptr1 tab_3 rfl rfl rfl rfl rfl ?_))
       refine ry hnt rfl rfl rfl g4 (qo hnt rfl (s_fa_ptr tab_53 rfl rfl tab_3 (by decide) rfl ?_))
       refine ry hnt rfl rfl rfl g4 (qo hnt rfl (s_load_ptr1 tab_3 rfl rfl rfl rfl rfl ?_))
       refine ry hnt rfl rfl rfl g4 (qo hnt rfl (s_build tab_53 rfl rfl (b_cons rfl tab_3 rfl rfl rfl (Nat.le_of_ble_eq_true rfl) (b_cons rfl tab_3 rfl rfl rfl (Nat.le_of_ble_eq_true rfl) (b_nil ?_)))))
       refine ry hnt rfl rfl rfl g4 (qo hnt rfl (s_callF rfl rfl rfl (T.leL (args := [PV.f (eReply r),PV.f (.agg [encI r.fn,encI r.code,encI 0,encI 0,encI 0,FV.v (.slice none 0 0),FV.v (.slice none 0 0),enc16 0,enc16 0,FV.v (.slice none 0 0)])]) (args' := [PV.f (eReply r),PV.f (eReply (⟨r.fn,r.code,0,0,0,[],[],0,0,[]⟩ : TReply))]) ⟨le_refl _,⟨le_F (FLe.agg ⟨FLe.refl _,FLe.refl _,FLe.refl _,FLe.refl _,FLe.refl _,FLe.nil 1 false,FLe.nil 1 false,FLe.refl _,FLe.refl _,FLe.nil 1 false,trivial⟩),trivial⟩⟩ (w_burgageref3_Alike r (⟨r.fn,r.code,0,0,0,[],[],0,0,[]⟩ : TReply) (by omega))) rfl ?_))
       refine ry hnt rfl rfl rfl g4 (qo hnt rfl (s_not rfl ?_))
       refine qo hnt rfl (s_pick_f rfl g4 rfl ?_)
       refine r_eq (s := 34) (y := pB (((((decide (r.code < 1)) || (decide (255 < r.code))) || (decide (r.fn < 0))) || (decide (127 < r.fn))) || (!(decide (r = (⟨r.fn,r.code,0,0,0,[],[],0,0,[]⟩ : TReply)))))) rfl (mix_of g4) ?_
       exact r_mid ⟨⟨rfl,trivial⟩,rfl,rfl⟩
      ·have g4' := g4
       try simp only [sB] at g4'
       refine rn hnt rfl rfl rfl g4 (rn hnt rfl rfl rfl g4 (rn hnt rfl rfl rfl g4 (rn hnt rfl rfl rfl g4 (rn hnt rfl rfl rfl g4 (rn hnt rfl rfl rfl g4 ?_)))))
       refine rn hnt rfl rfl rfl g4 (qo hnt rfl (s_pick_t rfl g4 rfl ?_))
       refine r_eq (s := 34) (y := pB (((((decide (r.code < 1)) || (decide (255 < r.code))) || (decide (r.fn < 0))) || (decide (127 < r.fn))) || (!(decide (r = (⟨r.fn,r.code,0,0,0,[],[],0,0,[]⟩ : TReply)))))) rfl (mix_ot _ g4) ?_
       exact r_mid ⟨⟨rfl,trivial⟩,rfl,rfl⟩
     ·refine r_end (q_then (w_if rfl (fun c2 => ?_) (fun c2 => ?_)))
      ·have c2_ := c2
       try simp only [sB] at c2
       refine w_seq (w_R (qa hnt rfl rfl (r_end (q_then (w_le (s := 2) (y := pI (goodR r)) rfl (le_of_eq (congrArg pI (show 12 = (goodR r) by exact (goodC_1 (lo := 1) (.inr rfl) c1_ c2_).symm))) ?_)))))
       refine w_ret (q_then_ret (q_then_ret ?_))
       exact fin_plain (ret_tmp rfl ret_nil) rfl rfl ⟨rfl,rfl,rfl⟩
      have c2_ := c2
      try simp only [sB] at c2
      refine w_skip (q_then (w_seq (w_R (qa hnt rfl rfl (r_end ?_)))))
      refine q_then (w_le (s := 2) (y := pI (goodR r)) rfl (le_of_eq (congrArg pI (show 0 = (goodR r) by exact (goodC_2 (lo := 1) (.inr rfl) c1_ c2_).symm))) (w_ret (q_then_ret ?_)))
      exact fin_plain (ret_tmp rfl ret_nil) rfl rfl ⟨rfl,rfl,rfl⟩
 have c1_ := c1
 try simp only [sB] at c1
 refine w_skip (q_then (w_seq (w_seq (w_R (qo hnt rfl (s_fa_ptr tab_53 rfl rfl tab_3 (by decide) rfl ?_))))))
 refine qo hnt rfl (s_load_ptr1 tab_3 rfl rfl rfl rfl rfl ?_)
 refine qo hnt rfl (s_callF rfl rfl rfl (w_burgageref3_Has r.fn) rfl ?_)
 refine qo hnt rfl (s_not rfl ?_)
 refine r_end (q_then (w_if rfl (fun c3 => ?_) (fun c3 => ?_)))
 ·have c3_ := c3
  try simp only [sB] at c3
  refine w_seq (w_R (qa hnt rfl rfl (r_end (q_then (w_le (s := 2) (y := pI (goodR r)) rfl (le_of_eq (congrArg pI (show 15 = (goodR r) by exact (goodP_3 c1_ c3_).symm))) ?_)))))
  refine w_ret (q_then_ret ?_)
  exact fin_plain (ret_tmp rfl ret_nil) rfl rfl ⟨rfl,rfl,rfl⟩
 have c3_ := c3
 try simp only [sB] at c3
 refine w_skip (q_then (w_seq (w_R (qo hnt rfl (s_fa_ptr tab_53 rfl rfl tab_3 (by decide) rfl ?_)))))
 refine qo hnt rfl (s_load_ptr1 tab_3 rfl rfl rfl rfl rfl ?_)
 refine qo hnt rfl (s_callF rfl rfl rfl (w_burgageref3_has r.fn) rfl ?_)
 refine qa hnt rfl rfl (r_end (q_then (w_seq (w_seq (w_R ?_)))))
 refine qm hnt rfl rfl (qo hnt rfl (s_callF rfl rfl rfl (w_burgageref3_in (usesA r.fn) 97 (by have := usesA_len r.fn; omega)) rfl ?_))
 refine qo hnt rfl (s_not rfl ?_)
 refine qm hnt rfl rfl (r_cut0 4 [(1,PV.ptr 0 0),(3,pT (usesA r.fn)),(49,pB ((!(inS (usesA r.fn) 97)) && (!decide (r.at_ = 0))))] ?_ ?_)
 ·refine r_if tabOk hnt rfl rfl rfl (fun g5 => ?_) (fun g5 => ?_)
  ·have g5' := g5
   try simp only [sB] at g5'
   refine qo hnt rfl (s_fa_ptr tab_53 rfl rfl tab_3 (by decide) rfl ?_)
   refine ry hnt rfl rfl rfl g5 (qo hnt rfl (s_load_ptr1 tab_3 rfl rfl rfl rfl rfl ?_))
   refine ry hnt rfl rfl rfl g5 (qo hnt rfl (s_neq rfl rfl ?_))
   refine qo hnt rfl (s_pick_t rfl g5 rfl ?_)
   refine r_eq (s := 49) (y := pB ((!(inS (usesA r.fn) 97)) && (!decide (r.at_ = 0)))) rfl (mix_at g5) ?_
   exact r_mid ⟨⟨rfl,rfl,rfl,trivial⟩,rfl,rfl⟩
  ·have g5' := g5
   try simp only [sB] at g5'
   refine rn hnt rfl rfl rfl g5 (rn hnt rfl rfl rfl g5 (qo hnt rfl (s_pick_f rfl g5 rfl ?_)))
   refine r_eq (s := 49) (y := pB ((!(inS (usesA r.fn) 97)) && (!decide (r.at_ = 0)))) rfl (mix_af _ g5) ?_
   exact r_mid ⟨⟨rfl,rfl,rfl,trivial⟩,rfl,rfl⟩
 ·refine qm hnt rfl rfl (r_cut0 9 [(1,PV.ptr 0 0),(3,pT (usesA r.fn)),(59,pB (((!(inS (usesA r.fn) 97)) && (!decide (r.at_ = 0))) || ((!(inS (usesA r.fn) 99)) && (!decide (r.count = 0)))))] ?_ ?_)
  ·refine r_if tabOk hnt rfl rfl rfl (fun g6 => ?_) (fun g6 => ?_)
   ·have g6' := g6
    try simp only [sB] at g6'
    refine qm hnt rfl rfl (ry hnt rfl rfl rfl g6 (qo hnt rfl (s_callF rfl rfl rfl (w_burgageref3_in (usesA r.fn) 99 (by have := usesA_len r.fn; omega)) rfl ?_)))
    refine ry hnt rfl rfl rfl g6 (qo hnt rfl (s_not rfl ?_))
    refine ry hnt rfl rfl rfl g6 (qm hnt rfl rfl (r_cut0 4 [(1,PV.ptr 0 0),(3,pT (usesA r.fn)),(50,pB ((!(inS (usesA r.fn) 97)) && (!decide (r.at_ = 0)))),(58,pB ((!(inS (usesA r.fn) 99)) && (!decide (r.count = 0))))] ?_ ?_))
    ·refine r_if tabOk hnt rfl rfl rfl (fun g7 => ?_) (fun g7 => ?_)
     ·have g7' := g7
      try simp only [sB] at g7'
      refine qo hnt rfl (s_fa_ptr tab_53 rfl rfl tab_3 (by decide) rfl ?_)
      refine ry hnt rfl rfl rfl g7 (qo hnt rfl (s_load_ptr1 tab_3 rfl rfl rfl rfl rfl ?_))
      refine ry hnt rfl rfl rfl g7 (qo hnt rfl (s_neq rfl rfl ?_))
      refine ry hnt rfl rfl rfl g6 (qo hnt rfl (s_pick_t rfl g7 rfl ?_))
      refine r_eq (s := 58) (y := pB ((!(inS (usesA r.fn) 99)) && (!decide (r.count = 0)))) rfl (mix_at g7) ?_
      exact r_mid ⟨⟨rfl,rfl,rfl,rfl,trivial⟩,rfl,rfl⟩
     ·have g7' := g7
      try simp only [sB] at g7'
      refine rn hnt rfl rfl rfl g7 (rn hnt rfl rfl rfl g7 (ry hnt rfl rfl rfl g6 (qo hnt rfl (s_pick_f rfl g7 rfl ?_))))
      refine r_eq (s := 58) (y := pB ((!(inS (usesA r.fn) 99)) && (!decide (r.count = 0)))) rfl (mix_af _ g7) ?_
      exact r_mid ⟨⟨rfl,rfl,rfl,rfl,trivial⟩,rfl,rfl⟩
    ·refine qo hnt rfl (s_pick_f rfl g6 rfl ?_)
     refine r_eq (s := 59) (y := pB (((!(inS (usesA r.fn) 97)) && (!decide (r.at_ = 0))) || ((!(inS (usesA r.fn) 99)) && (!decide (r.count = 0))))) rfl (mix_of g6) ?_
     exact r_mid ⟨⟨rfl,rfl,rfl,trivial⟩,rfl,rfl⟩
   ·have g6' := g6
    try simp only [sB] at g6'
    refine rn hnt rfl rfl rfl g6 (rn hnt rfl rfl rfl g6 (rn hnt rfl rfl rfl g6 (ru hnt rfl rfl rfl (ru hnt rfl rfl rfl (ru hnt rfl rfl rfl ?_)))))
    refine rn hnt rfl rfl rfl g6 (qo hnt rfl (s_pick_t rfl g6 rfl ?_))
    refine r_eq (s := 59) (y := pB (((!(inS (usesA r.fn) 97)) && (!decide (r.at_ = 0))) || ((!(inS (usesA r.fn) 99)) && (!decide (r.count = 0))))) rfl (mix_ot _ g6) ?_
    exact r_mid ⟨⟨rfl,rfl,rfl,trivial⟩,rfl,rfl⟩
  ·refine qm hnt rfl rfl (r_cut0 9 [(1,PV.ptr 0 0),(3,pT (usesA r.fn)),(69,pB ((((!(inS (usesA r.fn) 97)) && (!decide (r.at_ = 0))) || ((!(inS (usesA r.fn) 99)) && (!decide (r.count = 0)))) || ((!(inS (usesA r.fn) 115)) && (!decide (r.sub = 0)))))] ?_ ?_)
   ·refine r_if tabOk hnt rfl rfl rfl (fun g8 => ?_) (fun g8 => ?_)
    ·have g8' := g8
     try simp only [sB] at g8'
     refine qm hnt rfl rfl (ry hnt rfl rfl rfl g8 (qo hnt rfl (s_callF rfl rfl rfl (w_burgageref3_in (usesA r.fn) 115 (by have := usesA_len r.fn; omega)) rfl ?_)))
     refine ry hnt rfl rfl rfl g8 (qo hnt rfl (s_not rfl ?_))
     refine ry hnt rfl rfl rfl g8 (qm hnt rfl rfl (r_cut0 4 [(1,PV.ptr 0 0),(3,pT (usesA r.fn)),(60,pB (((!(inS (usesA r.fn) 97)) && (!decide (r.at_ = 0))) || ((!(inS (usesA r.fn) 99)) && (!decide (r.count = 0))))),(68,pB ((!(inS (usesA r.fn) 115)) && (!decide (r.sub = 0))))] ?_ ?_))
     ·refine r_if tabOk hnt rfl rfl rfl (fun g9 => ?_) (fun g9 => ?_)
      ·have g9' := g9
       try simp only [sB] at g9'
       refine qo hnt rfl (s_fa_ptr tab_53 rfl rfl tab_3 (by decide) rfl ?_)
       refine ry hnt rfl rfl rfl g9 (qo hnt rfl (s_load_ptr1 tab_3 rfl rfl rfl rfl rfl ?_))
       refine ry hnt rfl rfl rfl g9 (qo hnt rfl (s_neq rfl rfl ?_))
       refine ry hnt rfl rfl rfl g8 (qo hnt rfl (s_pick_t rfl g9 rfl ?_))
       refine r_eq (s := 68) (y := pB ((!(inS (usesA r.fn) 115)) && (!decide (r.sub = 0)))) rfl (mix_at g9) ?_
       exact r_mid ⟨⟨rfl,rfl,rfl,rfl,trivial⟩,rfl,rfl⟩
      ·have g9' := g9
       try simp only [sB] at g9'
       refine rn hnt rfl rfl rfl g9 (rn hnt rfl rfl rfl g9 (ry hnt rfl rfl rfl g8 (qo hnt rfl (s_pick_f rfl g9 rfl ?_))))
       refine r_eq (s := 68) (y := pB ((!(inS (usesA r.fn) 115)) && (!decide (r.sub = 0)))) rfl (mix_af _ g9) ?_
       exact r_mid ⟨⟨rfl,rfl,rfl,rfl,trivial⟩,rfl,rfl⟩
     ·refine qo hnt rfl (s_pick_f rfl g8 rfl ?_)
      refine r_eq (s := 69) (y := pB ((((!(inS (usesA r.fn) 97)) && (!decide (r.at_ = 0))) || ((!(inS (usesA r.fn) 99)) && (!decide (r.count = 0)))) || ((!(inS (usesA r.fn) 115)) && (!decide (r.sub = 0))))) rfl (mix_of g8) ?_
      exact r_mid ⟨⟨rfl,rfl,rfl,trivial⟩,rfl,rfl⟩
    ·have g8' := g8
     try simp only [sB] at g8'
     refine rn hnt rfl rfl rfl g8 (rn hnt rfl rfl rfl g8 (rn hnt rfl rfl rfl g8 (ru hnt rfl rfl rfl (ru hnt rfl rfl rfl (ru hnt rfl rfl rfl ?_)))))
     refine rn hnt rfl rfl rfl g8 (qo hnt rfl (s_pick_t rfl g8 rfl ?_))
     refine r_eq (s := 69) (y := pB ((((!(inS (usesA r.fn) 97)) && (!decide (r.at_ = 0))) || ((!(inS (usesA r.fn) 99)) && (!decide (r.count = 0)))) || ((!(inS (usesA r.fn) 115)) && (!decide (r.sub = 0))))) rfl (mix_ot _ g8) ?_
     exact r_mid ⟨⟨rfl,rfl,rfl,trivial⟩,rfl,rfl⟩
   ·refine qm hnt rfl rfl (r_cut0 10 [(1,PV.ptr 0 0),(3,pT (usesA r.fn)),(80,pB (((((!(inS (usesA r.fn) 97)) && (!decide (r.at_ = 0))) || ((!(inS (usesA r.fn) 99)) && (!decide (r.count = 0)))) || ((!(inS (usesA r.fn) 115)) && (!decide (r.sub = 0)))) || ((!(inS (usesA r.fn) 98)) && (decide (0 < ((r.bits.length : Nat) : Int))))))] ?_ ?_)
    ·refine r_if tabOk hnt rfl rfl rfl (fun g10 => ?_) (fun g10 => ?_)
     ·have g10' := g10
      try simp only [sB] at g10'
      refine qm hnt rfl rfl (ry hnt rfl rfl rfl g10 (qo hnt rfl (s_callF rfl rfl rfl (w_burgageref3_in (usesA r.fn) 98 (by have := usesA_len r.fn; omega)) rfl ?_)))
      refine ry hnt rfl rfl rfl g10 (qo hnt rfl (s_not rfl ?_))
      refine ry hnt rfl rfl rfl g10 (qm hnt rfl rfl (r_cut0 5 [(1,PV.ptr 0 0),(3,pT (usesA r.fn)),(70,pB ((((!(inS (usesA r.fn) 97)) && (!decide (r.at_ = 0))) || ((!(inS (usesA r.fn) 99)) && (!decide (r.count = 0)))) || ((!(inS (usesA r.fn) 115)) && (!decide (r.sub = 0))))),(79,pB ((!(inS (usesA r.fn) 98)) && (decide (0 < ((r.bits.length : Nat) : Int)))))] ?_ ?_))
      ·refine r_if tabOk hnt rfl rfl rfl (fun g11 => ?_) (fun g11 => ?_)
       ·have g11' := g11
        try simp only [sB] at g11'
        refine qo hnt rfl (s_fa_ptr tab_53 rfl rfl tab_42 (by decide) rfl ?_)
        refine ry hnt rfl rfl rfl g11 (qo hnt rfl (s_load_ptr1 tab_42 rfl rfl rfl rfl rfl ?_))
        refine ry hnt rfl rfl rfl g11 (qo hnt rfl (s_lenM (l := r.bits) tab_42 rfl (hM_sl (f := encBo) rfl) ?_))
        refine ry hnt rfl rfl rfl g11 (qo hnt rfl (s_gtr rfl rfl ?_))
        refine ry hnt rfl rfl rfl g10 (qo hnt rfl (s_pick_t rfl g11 rfl ?_))
        refine r_eq (s := 79) (y := pB ((!(inS (usesA r.fn) 98)) && (decide (0 < ((r.bits.length : Nat) : Int))))) rfl (mix_at g11) ?_
        exact r_mid ⟨⟨rfl,rfl,rfl,rfl,trivial⟩,rfl,rfl⟩
       ·have g11' := g11
        try simp only [sB] at g11'
        refine rn hnt rfl rfl rfl g11 (rn hnt rfl rfl rfl g11 (rn hnt rfl rfl rfl g11 (ry hnt rfl rfl rfl g10 (qo hnt rfl (s_pick_f rfl g11 rfl ?_)))))
        refine r_eq (s := 79) (y := pB ((!(inS (usesA r.fn) 98)) && (decide (0 < ((r.bits.length : Nat) : Int))))) rfl (mix_af _ g11) ?_
        exact r_mid ⟨⟨rfl,rfl,rfl,rfl,trivial⟩,rfl,rfl⟩
      ·refine qo hnt rfl (s_pick_f rfl g10 rfl ?_)
       refine r_eq (s := 80) (y := pB (((((!(inS (usesA r.fn) 97)) && (!decide (r.at_ = 0))) || ((!(inS (usesA r.fn) 99)) && (!decide (r.count = 0)))) || ((!(inS (usesA r.fn) 115)) && (!decide (r.sub = 0)))) || ((!(inS (usesA r.fn) 98)) && (decide (0 < ((r.bits.length : Nat) : Int)))))) rfl (mix_of g10) ?_
       exact r_mid ⟨⟨rfl,rfl,rfl,trivial⟩,rfl,rfl⟩
     ·have g10' := g10
      try simp only [sB] at g10'
      refine rn hnt rfl rfl rfl g10 (rn hnt rfl rfl rfl g10 (rn hnt rfl rfl rfl g10 (ru hnt rfl rfl rfl (ru hnt rfl rfl rfl (ru hnt rfl rfl rfl ?_)))))
      refine ru hnt rfl rfl rfl (rn hnt rfl rfl rfl g10 (qo hnt rfl (s_pick_t rfl g10 rfl ?_)))
      refine r_eq (s := 80) (y := pB (((((!(inS (usesA r.fn) 97)) && (!decide (r.at_ = 0))) || ((!(inS (usesA r.fn) 99)) && (!decide (r.count = 0)))) || ((!(inS (usesA r.fn) 115)) && (!decide (r.sub = 0)))) || ((!(inS (usesA r.fn) 98)) && (decide (0 < ((r.bits.length : Nat) : Int)))))) rfl (mix_ot _ g10) ?_
      exact r_mid ⟨⟨rfl,rfl,rfl,trivial⟩,rfl,rfl⟩
    ·refine qm hnt rfl rfl (r_cut0 10 [(1,PV.ptr 0 0),(3,pT (usesA r.fn)),(91,pB ((((((!(inS (usesA r.fn) 97)) && (!decide (r.at_ = 0))) || ((!(inS (usesA r.fn) 99)) && (!decide (r.count = 0)))) || ((!(inS (usesA r.fn) 115)) && (!decide (r.sub = 0)))) || ((!(inS (usesA r.fn) 98)) && (decide (0 < ((r.bits.length : Nat) : Int))))) || ((!(inS (usesA r.fn) 118)) && (decide (0 < ((r.vals.length : Nat) : Int))))))] ?_ ?_)
     ·refine r_if tabOk hnt rfl rfl rfl (fun g12 => ?_) (fun g12 => ?_)
      ·have g12' := g12
       try simp only [sB] at g12'
       refine qm hnt rfl rfl (ry hnt rfl rfl rfl g12 (qo hnt rfl (s_callF rfl rfl rfl (w_burgageref3_in (usesA r.fn) 118 (by have := usesA_len r.fn; omega)) rfl ?_)))
       refine ry hnt rfl rfl rfl g12 (qo hnt rfl (s_not rfl ?_))
       refine ry hnt rfl rfl rfl g12 (qm hnt rfl rfl (r_cut0 5 [(1,PV.ptr 0 0),(3,pT (usesA r.fn)),(81,pB (((((!(inS (usesA r.fn) 97)) && (!decide (r.at_ = 0))) || ((!(inS (usesA r.fn) 99)) && (!decide (r.count = 0)))) || ((!(inS (usesA r.fn) 115)) && (!decide (r.sub = 0)))) || ((!(inS (usesA r.fn) 98)) && (decide (0 < ((r.bits.length : Nat) : Int)))))),(90,pB ((!(inS (usesA r.fn) 118)) && (decide (0 < ((r.vals.length : Nat) : Int)))))] ?_ ?_))
       ·refine r_if tabOk hnt rfl rfl rfl (fun g13 => ?_) (fun g13 => ?_)
        ·have g13' := g13
         try simp only [sB] at g13'
         refine qo hnt rfl (s_fa_ptr tab_53 rfl rfl tab_43 (by decide) rfl ?_)
         refine ry hnt rfl rfl rfl g13 (qo hnt rfl (s_load_ptr1 tab_43 rfl rfl rfl rfl rfl ?_))
         refine ry hnt rfl rfl rfl g13 (qo hnt rfl (s_lenM (l := r.vals) tab_43 rfl (hM_sl (f := enc16) rfl) ?_))
         refine ry hnt rfl rfl rfl g13 (qo hnt rfl (s_gtr rfl rfl ?_))
         refine ry hnt rfl rfl rfl g12 (qo hnt rfl (s_pick_t rfl g13 rfl ?_))
         refine r_eq (s := 90) (y := pB ((!(inS (usesA r.fn) 118)) && (decide (0 < ((r.vals.length : Nat) : Int))))) rfl (mix_at g13) ?_
         exact r_mid ⟨⟨rfl,rfl,rfl,rfl,trivial⟩,rfl,rfl⟩
        ·have g13' := g13
         try simp only [sB] at g13'
         refine rn hnt rfl rfl rfl g13 (rn hnt rfl rfl rfl g13 (rn hnt rfl rfl rfl g13 (ry hnt rfl rfl rfl g12 (qo hnt rfl (s_pick_f rfl g13 rfl ?_)))))
         refine r_eq (s := 90) (y := pB ((!(inS (usesA r.fn) 118)) && (decide (0 < ((r.vals.length : Nat) : Int))))) rfl (mix_af _ g13) ?_
         exact r_mid ⟨⟨rfl,rfl,rfl,rfl,trivial⟩,rfl,rfl⟩
       ·refine qo hnt rfl (s_pick_f rfl g12 rfl ?_)
        refine r_eq (s := 91) (y := pB ((((((!(inS (usesA r.fn) 97)) && (!decide (r.at_ = 0))) || ((!(inS (usesA r.fn) 99)) && (!decide (r.count = 0)))) || ((!(inS (usesA r.fn) 115)) && (!decide (r.sub = 0)))) || ((!(inS (usesA r.fn) 98)) && (decide (0 < ((r.bits.length : Nat) : Int))))) || ((!(inS (usesA r.fn) 118)) && (decide (0 < ((r.vals.length : Nat) : Int)))))) rfl (mix_of g12) ?_
        exact r_mid ⟨⟨rfl,rfl,rfl,trivial⟩,rfl,rfl⟩
      ·have g12' := g12
       try simp only [sB] at g12'
       refine rn hnt rfl rfl rfl g12 (rn hnt rfl rfl rfl g12 (rn hnt rfl rfl rfl g12 (ru hnt rfl rfl rfl (ru hnt rfl rfl rfl (ru hnt rfl rfl rfl ?_)))))
       refine ru hnt rfl rfl rfl (rn hnt rfl rfl rfl g12 (qo hnt rfl (s_pick_t rfl g12 rfl ?_)))
       refine r_eq (s := 91) (y := pB ((((((!(inS (usesA r.fn) 97)) && (!decide (r.at_ = 0))) || ((!(inS (usesA r.fn) 99)) && (!decide (r.count = 0)))) || ((!(inS (usesA r.fn) 115)) && (!decide (r.sub = 0)))) || ((!(inS (usesA r.fn) 98)) && (decide (0 < ((r.bits.length : Nat) : Int))))) || ((!(inS (usesA r.fn) 118)) && (decide (0 < ((r.vals.length : Nat) : Int)))))) rfl (mix_ot _ g12) ?_
       exact r_mid ⟨⟨rfl,rfl,rfl,trivial⟩,rfl,rfl⟩
     ·refine qm hnt rfl rfl (r_cut0 14 [(1,PV.ptr 0 0),(3,pT (usesA r.fn)),(106,pB (((((((!(inS (usesA r.fn) 97)) && (!decide (r.at_ = 0))) || ((!(inS (usesA r.fn) 99)) && (!decide (r.count = 0)))) || ((!(inS (usesA r.fn) 115)) && (!decide (r.sub = 0)))) || ((!(inS (usesA r.fn) 98)) && (decide (0 < ((r.bits.length : Nat) : Int))))) || ((!(inS (usesA r.fn) 118)) && (decide (0 < ((r.vals.length : Nat) : Int))))) || ((!(inS (usesA r.fn) 109)) && ((!decide (r.and_ = 0)) || (!decide (r.or_ = 0))))))] ?_ ?_)
      ·refine r_if tabOk hnt rfl rfl rfl (fun g14 => ?_) (fun g14 => ?_)
       ·have g14' := g14
        try simp only [sB] at g14'
        refine qm hnt rfl rfl (ry hnt rfl rfl rfl g14 (qo hnt rfl (s_callF rfl rfl rfl (w_burgageref3_in (usesA r.fn) 109 (by have := usesA_len r.fn; omega)) rfl ?_)))
        refine ry hnt rfl rfl rfl g14 (qo hnt rfl (s_not rfl ?_))
        refine ry hnt rfl rfl rfl g14 (qm hnt rfl rfl (r_cut0 9 [(1,PV.ptr 0 0),(3,pT (usesA r.fn)),(92,pB ((((((!(inS (usesA r.fn) 97)) && (!decide (r.at_ = 0))) || ((!(inS (usesA r.fn) 99)) && (!decide (r.count = 0)))) || ((!(inS (usesA r.fn) 115)) && (!decide (r.sub = 0)))) || ((!(inS (usesA r.fn) 98)) && (decide (0 < ((r.bits.length : Nat) : Int))))) || ((!(inS (usesA r.fn) 118)) && (decide (0 < ((r.vals.length : Nat) : Int)))))),(105,pB ((!(inS (usesA r.fn) 109)) && ((!decide (r.and_ = 0)) || (!decide (r.or_ = 0)))))] ?_ ?_))
        ·refine r_if tabOk hnt rfl rfl rfl (fun g15 => ?_) (fun g15 => ?_)
         ·have g15' := g15
          try simp only [sB] at g15'
          refine qo hnt rfl (s_fa_ptr tab_53 rfl rfl tab_44 (by decide) rfl ?_)
          refine ry hnt rfl rfl rfl g15 (qo hnt rfl (s_load_ptr1 tab_44 rfl rfl rfl rfl rfl ?_))
          refine ry hnt rfl rfl rfl g15 (qo hnt rfl (s_neq16 (a := r.and_) (b := 0) rfl rfl ?_))
          refine ry hnt rfl rfl rfl g15 (qm hnt rfl rfl (r_cut0 4 [(1,PV.ptr 0 0),(3,pT (usesA r.fn)),(92,pB ((((((!(inS (usesA r.fn) 97)) && (!decide (r.at_ = 0))) || ((!(inS (usesA r.fn) 99)) && (!decide (r.count = 0)))) || ((!(inS (usesA r.fn) 115)) && (!decide (r.sub = 0)))) || ((!(inS (usesA r.fn) 98)) && (decide (0 < ((r.bits.length : Nat) : Int))))) || ((!(inS (usesA r.fn) 118)) && (decide (0 < ((r.vals.length : Nat) : Int)))))),(96,pB (!(inS (usesA r.fn) 109))),(104,pB ((!decide (r.and_ = 0)) || (!decide (r.or_ = 0))))] ?_ ?_))
          ·refine r_if tabOk hnt rfl rfl rfl (fun g16 => ?_) (fun g16 => ?_)
           ·have g16' := g16
            try simp only [sB] at g16'
            refine qo hnt rfl (s_fa_ptr tab_53 rfl rfl tab_44 (by decide) rfl ?_)
            refine ry hnt rfl rfl rfl g16 (qo hnt rfl (s_load_ptr1 tab_44 rfl rfl rfl rfl rfl ?_))
            refine ry hnt rfl rfl rfl g16 (qo hnt rfl (s_neq16 (a := r.or_) (b := 0) rfl rfl ?_))
            refine ry hnt rfl rfl rfl g15 (qo hnt rfl (s_pick_f rfl g16 rfl ?_))
            refine r_eq (s := 104) (y := pB ((!decide (r.and_ = 0)) || (!decide (r.or_ = 0)))) rfl (mix_of g16) ?_
            exact r_mid ⟨⟨rfl,rfl,rfl,rfl,rfl,trivial⟩,rfl,rfl⟩
           ·have g16' := g16
            try simp only [sB] at g16'
            refine rn hnt rfl rfl rfl g16 (rn hnt rfl rfl rfl g16 (ry hnt rfl rfl rfl g15 (qo hnt rfl (s_pick_t rfl g16 rfl ?_))))
            refine r_eq (s := 104) (y := pB ((!decide (r.and_ = 0)) || (!decide (r.or_ = 0)))) rfl (mix_ot _ g16) ?_
            exact r_mid ⟨⟨rfl,rfl,rfl,rfl,rfl,trivial⟩,rfl,rfl⟩
          ·refine ry hnt rfl rfl rfl g14 (qo hnt rfl (s_pick_t rfl g15 rfl ?_))
           refine r_eq (s := 105) (y := pB ((!(inS (usesA r.fn) 109)) && ((!decide (r.and_ = 0)) || (!decide (r.or_ = 0))))) rfl (mix_at g15) ?_
           exact r_mid ⟨⟨rfl,rfl,rfl,rfl,trivial⟩,rfl,rfl⟩
         ·have g15' := g15
          try simp only [sB] at g15'
          refine rn hnt rfl rfl rfl g15 (rn hnt rfl rfl rfl g15 (rn hnt rfl rfl rfl g15 (ru hnt rfl rfl rfl (ru hnt rfl rfl rfl (ru hnt rfl rfl rfl ?_)))))
          refine rn hnt rfl rfl rfl g15 (ry hnt rfl rfl rfl g14 (qo hnt rfl (s_pick_f rfl g15 rfl ?_)))
          refine r_eq (s := 105) (y := pB ((!(inS (usesA r.fn) 109)) && ((!decide (r.and_ = 0)) || (!decide (r.or_ = 0))))) rfl (mix_af _ g15) ?_
          exact r_mid ⟨⟨rfl,rfl,rfl,rfl,trivial⟩,rfl,rfl⟩
        ·refine qo hnt rfl (s_pick_f rfl g14 rfl ?_)
         refine r_eq (s := 106) (y := pB (((((((!(inS (usesA r.fn) 97)) && (!decide (r.at_ = 0))) || ((!(inS (usesA r.fn) 99)) && (!decide (r.count = 0)))) || ((!(inS (usesA r.fn) 115)) && (!decide (r.sub = 0)))) || ((!(inS (usesA r.fn) 98)) && (decide (0 < ((r.bits.length : Nat) : Int))))) || ((!(inS (usesA r.fn) 118)) && (decide (0 < ((r.vals.length : Nat) : Int))))) || ((!(inS (usesA r.fn) 109)) && ((!decide (r.and_ = 0)) || (!decide (r.or_ = 0)))))) rfl (mix_of g14) ?_
         exact r_mid ⟨⟨rfl,rfl,rfl,trivial⟩,rfl,rfl⟩
       ·have g14' := g14
        try simp only [sB] at g14'
        refine rn hnt rfl rfl rfl g14 (rn hnt rfl rfl rfl g14 (rn hnt rfl rfl rfl g14 (ru hnt rfl rfl rfl (ru hnt rfl rfl rfl (ru hnt rfl rfl rfl ?_)))))
        refine ru hnt rfl rfl rfl (ru hnt rfl rfl rfl (ru hnt rfl rfl rfl (ru hnt rfl rfl rfl (ru hnt rfl rfl rfl (rn hnt rfl rfl rfl g14 ?_)))))
        refine qo hnt rfl (s_pick_t rfl g14 rfl ?_)
        refine r_eq (s := 106) (y := pB (((((((!(inS (usesA r.fn) 97)) && (!decide (r.at_ = 0))) || ((!(inS (usesA r.fn) 99)) && (!decide (r.count = 0)))) || ((!(inS (usesA r.fn) 115)) && (!decide (r.sub = 0)))) || ((!(inS (usesA r.fn) 98)) && (decide (0 < ((r.bits.length : Nat) : Int))))) || ((!(inS (usesA r.fn) 118)) && (decide (0 < ((r.vals.length : Nat) : Int))))) || ((!(inS (usesA r.fn) 109)) && ((!decide (r.and_ = 0)) || (!decide (r.or_ = 0)))))) rfl (mix_ot _ g14) ?_
        exact r_mid ⟨⟨rfl,rfl,rfl,trivial⟩,rfl,rfl⟩
      ·refine qm hnt rfl rfl (r_cut0 10 [(1,PV.ptr 0 0),(117,pB ((((((((!(inS (usesA r.fn) 97)) && (!decide (r.at_ = 0))) || ((!(inS (usesA r.fn) 99)) && (!decide (r.count = 0)))) || ((!(inS (usesA r.fn) 115)) && (!decide (r.sub = 0)))) || ((!(inS (usesA r.fn) 98)) && (decide (0 < ((r.bits.length : Nat) : Int))))) || ((!(inS (usesA r.fn) 118)) && (decide (0 < ((r.vals.length : Nat) : Int))))) || ((!(inS (usesA r.fn) 109)) && ((!decide (r.and_ = 0)) || (!decide (r.or_ = 0))))) || ((!(inS (usesA r.fn) 100)) && (decide (0 < ((r.data.length : Nat) : Int))))))] ?_ ?_)
       ·refine r_if tabOk hnt rfl rfl rfl (fun g17 => ?_) (fun g17 => ?_)
        ·have g17' := g17
         try simp only [sB] at g17'
         refine qm hnt rfl rfl (ry hnt rfl rfl rfl g17 (qo hnt rfl (s_callF rfl rfl rfl (w_burgageref3_in (usesA r.fn) 100 (by have := usesA_len r.fn; omega)) rfl ?_)))
         refine ry hnt rfl rfl rfl g17 (qo hnt rfl (s_not rfl ?_))
         refine ry hnt rfl rfl rfl g17 (qm hnt rfl rfl (r_cut0 5 [(1,PV.ptr 0 0),(107,pB (((((((!(inS (usesA r.fn) 97)) && (!decide (r.at_ = 0))) || ((!(inS (usesA r.fn) 99)) && (!decide (r.count = 0)))) || ((!(inS (usesA r.fn) 115)) && (!decide (r.sub = 0)))) || ((!(inS (usesA r.fn) 98)) && (decide (0 < ((r.bits.length : Nat) : Int))))) || ((!(inS (usesA r.fn) 118)) && (decide (0 < ((r.vals.length : Nat) : Int))))) || ((!(inS (usesA r.fn) 109)) && ((!decide (r.and_ = 0)) || (!decide (r.or_ = 0)))))),(116,pB ((!(inS (usesA r.fn) 100)) && (decide (0 < ((r.data.length : Nat) : Int)))))] ?_ ?_))
         ·refine r_if tabOk hnt rfl rfl rfl (fun g18 => ?_) (fun g18 => ?_)
          ·have g18' := g18
           try simp only [sB] at g18'
           refine qo hnt rfl (s_fa_ptr tab_53 rfl rfl tab_51 (by decide) rfl ?_)
           refine ry hnt rfl rfl rfl g18 (qo hnt rfl (s_load_ptr1 tab_51 rfl rfl rfl rfl rfl ?_))
           refine ry hnt rfl rfl rfl g18 (qo hnt rfl (s_lenM (l := r.data) tab_51 rfl (hM_sl (f := enc8) rfl) ?_))
           refine ry hnt rfl rfl rfl g18 (qo hnt rfl (s_gtr rfl rfl ?_))
           refine ry hnt rfl rfl rfl g17 (qo hnt rfl (s_pick_t rfl g18 rfl ?_))
           refine r_eq (s := 116) (y := pB ((!(inS (usesA r.fn) 100)) && (decide (0 < ((r.data.length : Nat) : Int))))) rfl (mix_at g18) ?_
           exact r_mid ⟨⟨rfl,rfl,rfl,trivial⟩,rfl,rfl⟩
          ·have g18' := g18
           try simp only [sB] at g18'
           refine rn hnt rfl rfl rfl g18 (rn hnt rfl rfl rfl g18 (rn hnt rfl rfl rfl g18 (ry hnt rfl rfl rfl g17 (qo hnt rfl (s_pick_f rfl g18 rfl ?_)))))
           refine r_eq (s := 116) (y := pB ((!(inS (usesA r.fn) 100)) && (decide (0 < ((r.data.length : Nat) : Int))))) rfl (mix_af _ g18) ?_
           exact r_mid ⟨⟨rfl,rfl,rfl,trivial⟩,rfl,rfl⟩
         ·refine qo hnt rfl (s_pick_f rfl g17 rfl ?_)
          refine r_eq (s := 117) (y := pB ((((((((!(inS (usesA r.fn) 97)) && (!decide (r.at_ = 0))) || ((!(inS (usesA r.fn) 99)) && (!decide (r.count = 0)))) || ((!(inS (usesA r.fn) 115)) && (!decide (r.sub = 0)))) || ((!(inS (usesA r.fn) 98)) && (decide (0 < ((r.bits.length : Nat) : Int))))) || ((!(inS (usesA r.fn) 118)) && (decide (0 < ((r.vals.length : Nat) : Int))))) || ((!(inS (usesA r.fn) 109)) && ((!decide (r.and_ = 0)) || (!decide (r.or_ = 0))))) || ((!(inS (usesA r.fn) 100)) && (decide (0 < ((r.data.length : Nat) : Int)))))) rfl (mix_of g17) ?_
          exact r_mid ⟨⟨rfl,rfl,trivial⟩,rfl,rfl⟩
        ·have g17' := g17
         try simp only [sB] at g17'
         refine rn hnt rfl rfl rfl g17 (rn hnt rfl rfl rfl g17 (rn hnt rfl rfl rfl g17 (ru hnt rfl rfl rfl (ru hnt rfl rfl rfl (ru hnt rfl rfl rfl ?_)))))
         refine ru hnt rfl rfl rfl (rn hnt rfl rfl rfl g17 (qo hnt rfl (s_pick_t rfl g17 rfl ?_)))
         refine r_eq (s := 117) (y := pB ((((((((!(inS (usesA r.fn) 97)) && (!decide (r.at_ = 0))) || ((!(inS (usesA r.fn) 99)) && (!decide (r.count = 0)))) || ((!(inS (usesA r.fn) 115)) && (!decide (r.sub = 0)))) || ((!(inS (usesA r.fn) 98)) && (decide (0 < ((r.bits.length : Nat) : Int))))) || ((!(inS (usesA r.fn) 118)) && (decide (0 < ((r.vals.length : Nat) : Int))))) || ((!(inS (usesA r.fn) 109)) && ((!decide (r.and_ = 0)) || (!decide (r.or_ = 0))))) || ((!(inS (usesA r.fn) 100)) && (decide (0 < ((r.data.length : Nat) : Int)))))) rfl (mix_ot _ g17) ?_
         exact r_mid ⟨⟨rfl,rfl,trivial⟩,rfl,rfl⟩
       ·refine r_end (q_then (w_if rfl (fun c4 => ?_) (fun c4 => ?_)))
        ·have c4_ := c4
         try simp only [sB] at c4
         refine w_seq (w_R (qa hnt rfl rfl (r_end (q_then (w_le (s := 2) (y := pI (goodR r)) rfl (le_of_eq (congrArg pI (show 12 = (goodR r) by exact (goodQ_2 c1_ c3_ c4_).symm))) ?_)))))
         refine w_ret (q_then_ret ?_)
         exact fin_plain (ret_tmp rfl ret_nil) rfl rfl ⟨rfl,rfl,rfl⟩
        have c4_ := c4
        try simp only [sB] at c4
        refine w_skip (q_then (w_seq (w_seq (w_R (qo hnt rfl (s_fa_ptr tab_53 rfl rfl tab_3 (by decide) rfl ?_))))))
        refine qo hnt rfl (s_load_ptr1 tab_3 rfl rfl rfl rfl rfl ?_)
        refine qo hnt rfl (s_callF rfl rfl rfl (w_burgageref3_word r.at_) rfl ?_)
        refine qo hnt rfl (s_not rfl ?_)
        refine qm hnt rfl rfl (r_cut0 5 [(1,PV.ptr 0 0),(127,pB ((!(wordOk r.at_)) || (!(wordOk r.count))))] ?_ ?_)
        ·refine r_if tabOk hnt rfl rfl rfl (fun g19 => ?_) (fun g19 => ?_)
         ·have g19' := g19
          try simp only [sB] at g19'
          refine qo hnt rfl (s_fa_ptr tab_53 rfl rfl tab_3 (by decide) rfl ?_)
          refine ry hnt rfl rfl rfl g19 (qo hnt rfl (s_load_ptr1 tab_3 rfl rfl rfl rfl rfl ?_))
          refine ry hnt rfl rfl rfl g19 (qo hnt rfl (s_callF rfl rfl rfl (w_burgageref3_word r.count) rfl ?_))
          refine ry hnt rfl rfl rfl g19 (qo hnt rfl (s_not rfl ?_))
          refine qo hnt rfl (s_pick_f rfl g19 rfl ?_)
          refine r_eq (s := 127) (y := pB ((!(wordOk r.at_)) || (!(wordOk r.count)))) rfl (mix_of g19) ?_
          exact r_mid ⟨⟨rfl,rfl,trivial⟩,rfl,rfl⟩
         ·have g19' := g19
          try simp only [sB] at g19'
          refine rn hnt rfl rfl rfl g19 (rn hnt rfl rfl rfl g19 (rn hnt rfl rfl rfl g19 (qo hnt rfl (s_pick_t rfl g19 rfl ?_))))
          refine r_eq (s := 127) (y := pB ((!(wordOk r.at_)) || (!(wordOk r.count)))) rfl (mix_ot _ g19) ?_
          exact r_mid ⟨⟨rfl,rfl,trivial⟩,rfl,rfl⟩
        ·refine qm hnt rfl rfl (r_cut0 5 [(1,PV.ptr 0 0),(133,pB (((!(wordOk r.at_)) || (!(wordOk r.count))) || (!(wordOk r.sub))))] ?_ ?_)
         ·refine r_if tabOk hnt rfl rfl rfl (fun g20 => ?_) (fun g20 => ?_)
          ·have g20' := g20
           try simp only [sB] at g20'
           refine qo hnt rfl (s_fa_ptr tab_53 rfl rfl tab_3 (by decide) rfl ?_)
           refine ry hnt rfl rfl rfl g20 (qo hnt rfl (s_load_ptr1 tab_3 rfl rfl rfl rfl rfl ?_))
           refine ry hnt rfl rfl rfl g20 (qo hnt rfl (s_callF rfl rfl rfl (w_burgageref3_word r.sub) rfl ?_))
           refine ry hnt rfl rfl rfl g20 (qo hnt rfl (s_not rfl ?_))
           refine qo hnt rfl (s_pick_f rfl g20 rfl ?_)
           refine r_eq (s := 133) (y := pB (((!(wordOk r.at_)) || (!(wordOk r.count))) || (!(wordOk r.sub)))) rfl (mix_of g20) ?_
           exact r_mid ⟨⟨rfl,rfl,trivial⟩,rfl,rfl⟩
          ·have g20' := g20
           try simp only [sB] at g20'
           refine rn hnt rfl rfl rfl g20 (rn hnt rfl rfl rfl g20 (rn hnt rfl rfl rfl g20 (qo hnt rfl (s_pick_t rfl g20 rfl ?_))))
           refine r_eq (s := 133) (y := pB (((!(wordOk r.at_)) || (!(wordOk r.count))) || (!(wordOk r.sub)))) rfl (mix_ot _ g20) ?_
           exact r_mid ⟨⟨rfl,rfl,trivial⟩,rfl,rfl⟩
         ·refine qm hnt rfl rfl (r_cut0 10 [(1,PV.ptr 0 0),(144,pB ((((!(wordOk r.at_)) || (!(wordOk r.count))) || (!(wordOk r.sub))) || ((decide (r.fn = 5)) && (!decide (((r.bits.length : Nat) : Int) = 1)))))] ?_ ?_)
          ·refine r_if tabOk hnt rfl rfl rfl (fun g21 => ?_) (fun g21 => ?_)
           ·have g21' := g21
            try simp only [sB] at g21'
            refine qo hnt rfl (s_fa_ptr tab_53 rfl rfl tab_3 (by decide) rfl ?_)
            refine ry hnt rfl rfl rfl g21 (qo hnt rfl (s_load_ptr1 tab_3 rfl rfl rfl rfl rfl ?_))
            refine ry hnt rfl rfl rfl g21 (qo hnt rfl (s_eql rfl rfl ?_))
            refine ry hnt rfl rfl rfl g21 (qm hnt rfl rfl (r_cut0 5 [(1,PV.ptr 0 0),(134,pB (((!(wordOk r.at_)) || (!(wordOk r.count))) || (!(wordOk r.sub)))),(143,pB ((decide (r.fn = 5)) && (!decide (((r.bits.length : Nat) : Int) = 1))))] ?_ ?_))
            ·refine r_if tabOk hnt rfl rfl rfl (fun g22 => ?_) (fun g22 => ?_)
             ·have g22' := g22
              try simp only [sB] at g22'
              refine qo hnt rfl (s_fa_ptr tab_53 rfl rfl tab_42 (by decide) rfl ?_)
              refine ry hnt rfl rfl rfl g22 (qo hnt rfl (s_load_ptr1 tab_42 rfl rfl rfl rfl rfl ?_))
              refine ry hnt rfl rfl rfl g22 (qo hnt rfl (s_lenM (l := r.bits) tab_42 rfl (hM_sl (f := encBo) rfl) ?_))
              refine ry hnt rfl rfl rfl g22 (qo hnt rfl (s_neq rfl rfl ?_))
              refine ry hnt rfl rfl rfl g21 (qo hnt rfl (s_pick_t rfl g22 rfl ?_))
              refine r_eq (s := 143) (y := pB ((decide (r.fn = 5)) && (!decide (((r.bits.length : Nat) : Int) = 1)))) rfl (mix_at g22) ?_
              exact r_mid ⟨⟨rfl,rfl,rfl,trivial⟩,rfl,rfl⟩
             ·have g22' := g22
              try simp only [sB] at g22'
              refine rn hnt rfl rfl rfl g22 (rn hnt rfl rfl rfl g22 (rn hnt rfl rfl rfl g22 (ry hnt rfl rfl rfl g21 (qo hnt rfl (s_pick_f rfl g22 rfl ?_)))))
              refine r_eq (s := 143) (y := pB ((decide (r.fn = 5)) && (!decide (((r.bits.length : Nat) : Int) = 1)))) rfl (mix_af _ g22) ?_
              exact r_mid ⟨⟨rfl,rfl,rfl,trivial⟩,rfl,rfl⟩
            ·refine qo hnt rfl (s_pick_f rfl g21 rfl ?_)
             refine r_eq (s := 144) (y := pB ((((!(wordOk r.at_)) || (!(wordOk r.count))) || (!(wordOk r.sub))) || ((decide (r.fn = 5)) && (!decide (((r.bits.length : Nat) : Int) = 1))))) rfl (mix_of g21) ?_
             exact r_mid ⟨⟨rfl,rfl,trivial⟩,rfl,rfl⟩
           ·have g21' := g21
            try simp only [sB] at g21'
            refine rn hnt rfl rfl rfl g21 (rn hnt rfl rfl rfl g21 (rn hnt rfl rfl rfl g21 (ru hnt rfl rfl rfl (ru hnt rfl rfl rfl (ru hnt rfl rfl rfl ?_)))))
            refine ru hnt rfl rfl rfl (rn hnt rfl rfl rfl g21 (qo hnt rfl (s_pick_t rfl g21 rfl ?_)))
            refine r_eq (s := 144) (y := pB ((((!(wordOk r.at_)) || (!(wordOk r.count))) || (!(wordOk r.sub))) || ((decide (r.fn = 5)) && (!decide (((r.bits.length : Nat) : Int) = 1))))) rfl (mix_ot _ g21) ?_
            exact r_mid ⟨⟨rfl,rfl,trivial⟩,rfl,rfl⟩
          ·refine qm hnt rfl rfl (r_cut0 15 [(1,PV.ptr 0 0),(160,pB (((((!(wordOk r.at_)) || (!(wordOk r.count))) || (!(wordOk r.sub))) || ((decide (r.fn = 5)) && (!decide (((r.bits.length : Nat) : Int) = 1)))) || (((decide (r.fn = 6)) || (decide (r.fn = 8))) && (!decide (((r.vals.length : Nat) : Int) = 1)))))] ?_ ?_)
           ·refine r_if tabOk hnt rfl rfl rfl (fun g23 => ?_) (fun g23 => ?_)
            ·have g23' := g23
             try simp only [sB] at g23'
             refine qo hnt rfl (s_fa_ptr tab_53 rfl rfl tab_3 (by decide) rfl ?_)
             refine ry hnt rfl rfl rfl g23 (qo hnt rfl (s_load_ptr1 tab_3 rfl rfl rfl rfl rfl ?_))
             refine ry hnt rfl rfl rfl g23 (qo hnt rfl (s_eql rfl rfl ?_))
             refine ry hnt rfl rfl rfl g23 (qm hnt rfl rfl (r_cut0 4 [(1,PV.ptr 0 0),(145,pB ((((!(wordOk r.at_)) || (!(wordOk r.count))) || (!(wordOk r.sub))) || ((decide (r.fn = 5)) && (!decide (((r.bits.length : Nat) : Int) = 1))))),(153,pB ((decide (r.fn = 6)) || (decide (r.fn = 8))))] ?_ ?_))
             ·refine r_if tabOk hnt rfl rfl rfl (fun g24 => ?_) (fun g24 => ?_)
              ·have g24' := g24
               try simp only [sB] at g24'
               refine qo hnt rfl (s_fa_ptr tab_53 rfl rfl tab_3 (by decide) rfl ?_)
               refine ry hnt rfl rfl rfl g24 (qo hnt rfl (s_load_ptr1 tab_3 rfl rfl rfl rfl rfl ?_))
               refine ry hnt rfl rfl rfl g24 (qo hnt rfl (s_eql rfl rfl ?_))
               refine ry hnt rfl rfl rfl g23 (qo hnt rfl (s_pick_f rfl g24 rfl ?_))
               refine r_eq (s := 153) (y := pB ((decide (r.fn = 6)) || (decide (r.fn = 8)))) rfl (mix_of g24) ?_
               exact r_mid ⟨⟨rfl,rfl,rfl,trivial⟩,rfl,rfl⟩
              ·have g24' := g24
               try simp only [sB] at g24'
               refine rn hnt rfl rfl rfl g24 (rn hnt rfl rfl rfl g24 (ry hnt rfl rfl rfl g23 (qo hnt rfl (s_pick_t rfl g24 rfl ?_))))
               refine r_eq (s := 153) (y := pB ((decide (r.fn = 6)) || (decide (r.fn = 8)))) rfl (mix_ot _ g24) ?_
               exact r_mid ⟨⟨rfl,rfl,rfl,trivial⟩,rfl,rfl⟩
             ·refine ry hnt rfl rfl rfl g23 (qm hnt rfl rfl (r_cut0 5 [(1,PV.ptr 0 0),(145,pB ((((!(wordOk r.at_)) || (!(wordOk r.count))) || (!(wordOk r.sub))) || ((decide (r.fn = 5)) && (!decide (((r.bits.length : Nat) : Int) = 1))))),(159,pB (((decide (r.fn = 6)) || (decide (r.fn = 8))) && (!decide (((r.vals.length : Nat) : Int) = 1))))] ?_ ?_))
              ·refine r_if tabOk hnt rfl rfl rfl (fun g25 => ?_) (fun g25 => ?_)
               ·have g25' := g25
                try simp only [sB] at g25'
                refine qo hnt rfl (s_fa_ptr tab_53 rfl rfl tab_43 (by decide) rfl ?_)
                refine ry hnt rfl rfl rfl g25 (qo hnt rfl (s_load_ptr1 tab_43 rfl rfl rfl rfl rfl ?_))
                refine ry hnt rfl rfl rfl g25 (qo hnt rfl (s_lenM (l := r.vals) tab_43 rfl (hM_sl (f := enc16) rfl) ?_))
                refine ry hnt rfl rfl rfl g25 (qo hnt rfl (s_neq rfl rfl ?_))
                refine ry hnt rfl rfl rfl g23 (qo hnt rfl (s_pick_t rfl g25 rfl ?_))
                refine r_eq (s := 159) (y := pB (((decide (r.fn = 6)) || (decide (r.fn = 8))) && (!decide (((r.vals.length : Nat) : Int) = 1)))) rfl (mix_at g25) ?_
                exact r_mid ⟨⟨rfl,rfl,rfl,trivial⟩,rfl,rfl⟩
               ·have g25' := g25
                try simp only [sB] at g25'
                refine rn hnt rfl rfl rfl g25 (rn hnt rfl rfl rfl g25 (rn hnt rfl rfl rfl g25 (ry hnt rfl rfl rfl g23 (qo hnt rfl (s_pick_f rfl g25 rfl ?_)))))
                refine r_eq (s := 159) (y := pB (((decide (r.fn = 6)) || (decide (r.fn = 8))) && (!decide (((r.vals.length : Nat) : Int) = 1)))) rfl (mix_af _ g25) ?_
                exact r_mid ⟨⟨rfl,rfl,rfl,trivial⟩,rfl,rfl⟩
              ·refine qo hnt rfl (s_pick_f rfl g23 rfl ?_)
               refine r_eq (s := 160) (y := pB (((((!(wordOk r.at_)) || (!(wordOk r.count))) || (!(wordOk r.sub))) || ((decide (r.fn = 5)) && (!decide (((r.bits.length : Nat) : Int) = 1)))) || (((decide (r.fn = 6)) || (decide (r.fn = 8))) && (!decide (((r.vals.length : Nat) : Int) = 1))))) rfl (mix_of g23) ?_
               exact r_mid ⟨⟨rfl,rfl,trivial⟩,rfl,rfl⟩
            ·have g23' := g23
             try simp only [sB] at g23'
             refine rn hnt rfl rfl rfl g23 (rn hnt rfl rfl rfl g23 (rn hnt rfl rfl rfl g23 (ru hnt rfl rfl rfl (ru hnt rfl rfl rfl (ru hnt rfl rfl rfl ?_)))))
             refine rn hnt rfl rfl rfl g23 (rn hnt rfl rfl rfl g23 (ru hnt rfl rfl rfl (ru hnt rfl rfl rfl (ru hnt rfl rfl rfl (ru hnt rfl rfl rfl ?_)))))
             refine rn hnt rfl rfl rfl g23 (qo hnt rfl (s_pick_t rfl g23 rfl ?_))
             refine r_eq (s := 160) (y := pB (((((!(wordOk r.at_)) || (!(wordOk r.count))) || (!(wordOk r.sub))) || ((decide (r.fn = 5)) && (!decide (((r.bits.length : Nat) : Int) = 1)))) || (((decide (r.fn = 6)) || (decide (r.fn = 8))) && (!decide (((r.vals.length : Nat) : Int) = 1))))) rfl (mix_ot _ g23) ?_
             exact r_mid ⟨⟨rfl,rfl,trivial⟩,rfl,rfl⟩
           ·refine qm hnt rfl rfl (r_cut0 5 [(1,PV.ptr 0 0),(166,pB ((((((!(wordOk r.at_)) || (!(wordOk r.count))) || (!(wordOk r.sub))) || ((decide (r.fn = 5)) && (!decide (((r.bits.length : Nat) : Int) = 1)))) || (((decide (r.fn = 6)) || (decide (r.fn = 8))) && (!decide (((r.vals.length : Nat) : Int) = 1)))) || (decide (2040 < ((r.bits.length : Nat) : Int)))))] ?_ ?_)
            ·refine r_if tabOk hnt rfl rfl rfl (fun g26 => ?_) (fun g26 => ?_)
             ·have g26' := g26
              try simp only [sB] at g26'
              refine qo hnt rfl (s_fa_ptr tab_53 rfl rfl tab_42 (by decide) rfl ?_)
              refine ry hnt rfl rfl rfl g26 (qo hnt rfl (s_load_ptr1 tab_42 rfl rfl rfl rfl rfl ?_))
              refine ry hnt rfl rfl rfl g26 (qo hnt rfl (s_lenM (l := r.bits) tab_42 rfl (hM_sl (f := encBo) rfl) ?_))
              refine ry hnt rfl rfl rfl g26 (qo hnt rfl (s_gtr rfl rfl ?_))
              refine qo hnt rfl (s_pick_f rfl g26 rfl ?_)
              refine r_eq (s := 166) (y := pB ((((((!(wordOk r.at_)) || (!(wordOk r.count))) || (!(wordOk r.sub))) || ((decide (r.fn = 5)) && (!decide (((r.bits.length : Nat) : Int) = 1)))) || (((decide (r.fn = 6)) || (decide (r.fn = 8))) && (!decide (((r.vals.length : Nat) : Int) = 1)))) || (decide (2040 < ((r.bits.length : Nat) : Int))))) rfl (mix_of g26) ?_
              exact r_mid ⟨⟨rfl,rfl,trivial⟩,rfl,rfl⟩
             ·have g26' := g26
              try simp only [sB] at g26'
              refine rn hnt rfl rfl rfl g26 (rn hnt rfl rfl rfl g26 (rn hnt rfl rfl rfl g26 (qo hnt rfl (s_pick_t rfl g26 rfl ?_))))
              refine r_eq (s := 166) (y := pB ((((((!(wordOk r.at_)) || (!(wordOk r.count))) || (!(wordOk r.sub))) || ((decide (r.fn = 5)) && (!decide (((r.bits.length : Nat) : Int) = 1)))) || (((decide (r.fn = 6)) || (decide (r.fn = 8))) && (!decide (((r.vals.length : Nat) : Int) = 1)))) || (decide (2040 < ((r.bits.length : Nat) : Int))))) rfl (mix_ot _ g26) ?_
              exact r_mid ⟨⟨rfl,rfl,trivial⟩,rfl,rfl⟩
            ·refine qm hnt rfl rfl (r_cut0 5 [(1,PV.ptr 0 0),(172,pB (((((((!(wordOk r.at_)) || (!(wordOk r.count))) || (!(wordOk r.sub))) || ((decide (r.fn = 5)) && (!decide (((r.bits.length : Nat) : Int) = 1)))) || (((decide (r.fn = 6)) || (decide (r.fn = 8))) && (!decide (((r.vals.length : Nat) : Int) = 1)))) || (decide (2040 < ((r.bits.length : Nat) : Int)))) || (decide (127 < ((r.vals.length : Nat) : Int)))))] ?_ ?_)
             ·refine r_if tabOk hnt rfl rfl rfl (fun g27 => ?_) (fun g27 => ?_)
              ·have g27' := g27
               try simp only [sB] at g27'
               refine qo hnt rfl (s_fa_ptr tab_53 rfl rfl tab_43 (by decide) rfl ?_)
               refine ry hnt rfl rfl rfl g27 (qo hnt rfl (s_load_ptr1 tab_43 rfl rfl rfl rfl rfl ?_))
               refine ry hnt rfl rfl rfl g27 (qo hnt rfl (s_lenM (l := r.vals) tab_43 rfl (hM_sl (f := enc16) rfl) ?_))
               refine ry hnt rfl rfl rfl g27 (qo hnt rfl (s_gtr rfl rfl ?_))
               refine qo hnt rfl (s_pick_f rfl g27 rfl ?_)
               refine r_eq (s := 172) (y := pB (((((((!(wordOk r.at_)) || (!(wordOk r.count))) || (!(wordOk r.sub))) || ((decide (r.fn = 5)) && (!decide (((r.bits.length : Nat) : Int) = 1)))) || (((decide (r.fn = 6)) || (decide (r.fn = 8))) && (!decide (((r.vals.length : Nat) : Int) = 1)))) || (decide (2040 < ((r.bits.length : Nat) : Int)))) || (decide (127 < ((r.vals.length : Nat) : Int))))) rfl (mix_of g27) ?_
               exact r_mid ⟨⟨rfl,rfl,trivial⟩,rfl,rfl⟩
              ·have g27' := g27
               try simp only [sB] at g27'
               refine rn hnt rfl rfl rfl g27 (rn hnt rfl rfl rfl g27 (rn hnt rfl rfl rfl g27 (qo hnt rfl (s_pick_t rfl g27 rfl ?_))))
               refine r_eq (s := 172) (y := pB (((((((!(wordOk r.at_)) || (!(wordOk r.count))) || (!(wordOk r.sub))) || ((decide (r.fn = 5)) && (!decide (((r.bits.length : Nat) : Int) = 1)))) || (((decide (r.fn = 6)) || (decide (r.fn = 8))) && (!decide (((r.vals.length : Nat) : Int) = 1)))) || (decide (2040 < ((r.bits.length : Nat) : Int)))) || (decide (127 < ((r.vals.length : Nat) : Int))))) rfl (mix_ot _ g27) ?_
               exact r_mid ⟨⟨rfl,rfl,trivial⟩,rfl,rfl⟩
             ·refine qm hnt rfl rfl (r_cut0 5 [(178,pB ((((((((!(wordOk r.at_)) || (!(wordOk r.count))) || (!(wordOk r.sub))) || ((decide (r.fn = 5)) && (!decide (((r.bits.length : Nat) : Int) = 1)))) || (((decide (r.fn = 6)) || (decide (r.fn = 8))) && (!decide (((r.vals.length : Nat) : Int) = 1)))) || (decide (2040 < ((r.bits.length : Nat) : Int)))) || (decide (127 < ((r.vals.length : Nat) : Int)))) || (decide (250 < ((r.data.length : Nat) : Int)))))] ?_ ?_)
              ·refine r_if tabOk hnt rfl rfl rfl (fun g28 => ?_) (fun g28 => ?_)
               ·have g28' := g28
                try simp only [sB] at g28'
                refine qo hnt rfl (s_fa_ptr tab_53 rfl rfl tab_51 (by decide) rfl ?_)
                refine ry hnt rfl rfl rfl g28 (qo hnt rfl (s_load_ptr1 tab_51 rfl rfl rfl rfl rfl ?_))
                refine ry hnt rfl rfl rfl g28 (qo hnt rfl (s_lenM (l := r.data) tab_51 rfl (hM_sl (f := enc8) rfl) ?_))
                refine ry hnt rfl rfl rfl g28 (qo hnt rfl (s_gtr rfl rfl ?_))
                refine qo hnt rfl (s_pick_f rfl g28 rfl ?_)
                refine r_eq (s := 178) (y := pB ((((((((!(wordOk r.at_)) || (!(wordOk r.count))) || (!(wordOk r.sub))) || ((decide (r.fn = 5)) && (!decide (((r.bits.length : Nat) : Int) = 1)))) || (((decide (r.fn = 6)) || (decide (r.fn = 8))) && (!decide (((r.vals.length : Nat) : Int) = 1)))) || (decide (2040 < ((r.bits.length : Nat) : Int)))) || (decide (127 < ((r.vals.length : Nat) : Int)))) || (decide (250 < ((r.data.length : Nat) : Int))))) rfl (mix_of g28) ?_
                exact r_mid ⟨⟨rfl,trivial⟩,rfl,rfl⟩
               ·have g28' := g28
                try simp only [sB] at g28'
                refine rn hnt rfl rfl rfl g28 (rn hnt rfl rfl rfl g28 (rn hnt rfl rfl rfl g28 (qo hnt rfl (s_pick_t rfl g28 rfl ?_))))
                refine r_eq (s := 178) (y := pB ((((((((!(wordOk r.at_)) || (!(wordOk r.count))) || (!(wordOk r.sub))) || ((decide (r.fn = 5)) && (!decide (((r.bits.length : Nat) : Int) = 1)))) || (((decide (r.fn = 6)) || (decide (r.fn = 8))) && (!decide (((r.vals.length : Nat) : Int) = 1)))) || (decide (2040 < ((r.bits.length : Nat) : Int)))) || (decide (127 < ((r.vals.length : Nat) : Int)))) || (decide (250 < ((r.data.length : Nat) : Int))))) rfl (mix_ot _ g28) ?_
                exact r_mid ⟨⟨rfl,trivial⟩,rfl,rfl⟩
              ·refine r_end (q_then (w_if rfl (fun c5 => ?_) (fun c5 => ?_)))
               ·have c5_ := c5
                try simp only [sB] at c5
                refine w_seq (w_R (qa hnt rfl rfl (r_end (q_then (w_le (s := 2) (y := pI (goodR r)) rfl (le_of_eq (congrArg pI (show 12 = (goodR r) by exact (goodQ_3 c1_ c3_ c5_).symm))) ?_)))))
                refine w_ret (q_then_ret ?_)
                exact fin_plain (ret_tmp rfl ret_nil) rfl rfl ⟨rfl,rfl,rfl⟩
               have c5_ := c5
               try simp only [sB] at c5
               refine w_skip (q_then (w_seq (w_R (qa hnt rfl rfl (r_end ?_)))))
               refine q_then (w_le (s := 2) (y := pI (goodR r)) rfl (le_of_eq (congrArg pI (show 0 = (goodR r) by exact (goodQ_4 c1_ c3_ c4_ c5_).symm))) (w_ret ?_))
               exact fin_plain (ret_tmp rfl ret_nil) rfl rfl ⟨rfl,rfl,rfl⟩
theorem w_reply_asked (r : TReply) (q : TRequest) (hr : r.bits.length ≤ 140737488351232 ∧ r.vals.length ≤ 140737488351232 ∧ r.data.length ≤ 140737488351232) :
    T Try.prog 68 [PV.f (eReply r),PV.f (eRequest q)] 0 [] (Ret (pB (decide (countOk r q))) 0 []) := by
 refine t_fun tabOk (n := 29) (rs := [.tmp 4]) Try.func68 rfl rfl rfl rfl (Nat.le_of_ble_eq_true rfl) ?_
 intro c hnt hk
 refine w_seq (w_R (qo hnt rfl (s_box rfl rfl ?_)))
 refine qo hnt rfl (s_box rfl rfl ?_)
 refine qa hnt rfl rfl (r_set [(2,PV.ptr 0 0),(3,PV.ptr 1 0)] [(1,.obj (cRequest q)),(0,.obj (cReply r))] 2 ⟨rfl,rfl,trivial⟩ rfl rfl (r_end (q_then (w_seq (w_seq ?_)))))
 refine w_R (qo hnt rfl (s_fa_ptr tab_53 rfl rfl tab_3 (by decide) rfl ?_))
 refine qo hnt rfl (s_load_ptr1 tab_3 rfl rfl rfl rfl rfl ?_)
 refine qo hnt rfl (s_neq rfl rfl ?_)
 refine r_end (q_then (w_if rfl (fun c1 => ?_) (fun c1 => ?_)))
 ·have c1_ := c1
  try simp only [sB] at c1
  refine w_seq (w_R (qa hnt rfl rfl (r_end (q_then (w_le (s := 4) (y := pB (decide (countOk r q))) rfl (le_of_eq (congrArg pB (show true = (decide (countOk r q)) by exact (decide_eq_true (fun h0 => absurd h0 (by simpa using c1_))).symm))) ?_)))))
  refine w_ret (q_then_ret ?_)
  exact fin_plain (ret_tmp rfl ret_nil) rfl rfl ⟨rfl,rfl,rfl⟩
 have c1_ := c1
 try simp only [sB] at c1
 refine w_skip (q_then (w_seq (w_seq (w_R (qo hnt rfl (s_fa_ptr tab_53 rfl rfl tab_3 (by decide) rfl ?_))))))
 refine qo hnt rfl (s_load_ptr1 tab_3 rfl rfl rfl rfl rfl ?_)
 refine r_end (q_then (w_block (w_seq (w_seq (w_R ?_)))))
 refine qo hnt rfl (s_eql rfl rfl ?_)
 refine qa hnt rfl rfl (r_end (q_then (w_if rfl (fun c2 => ?_) (fun c2 => ?_))))
 ·have c2_ := c2
  try simp only [sB] at c2
  refine w_skip (q_then (w_if rfl (fun _ => ?_) (fun e => absurd (e.symm.trans c2_) (by decide))))
  refine w_seq (w_R (qo hnt rfl (s_fa_ptr tab_53 rfl rfl tab_42 (by decide) rfl ?_)))
  refine qo hnt rfl (s_load_ptr1 tab_42 rfl rfl rfl rfl rfl ?_)
  refine qo hnt rfl (s_lenM (l := r.bits) tab_42 rfl (hM_sl (f := encBo) rfl) ?_)
  refine qo hnt rfl (s_fa_ptr tab_46 rfl rfl tab_3 (by decide) rfl ?_)
  refine qo hnt rfl (s_load_ptr1 tab_3 rfl rfl rfl rfl rfl ?_)
  refine qo hnt rfl (s_eql rfl rfl ?_)
  refine qa hnt rfl rfl (r_end (q_then (w_le (s := 4) (y := pB (decide (countOk r q))) rfl (le_of_eq (congrArg pB (show (decide (((r.bits.length : Nat) : Int) = q.count)) = (decide (countOk r q)) by exact decide_eq_decide.2 ⟨fun h _ => ⟨fun _ => h,fun k => absurd k (by omega)⟩,fun h => (h (by omega)).1 (by omega)⟩))) (w_ret (q_block_ret ?_)))))
  refine q_then_ret ?_
  exact fin_plain (ret_tmp rfl ret_nil) rfl rfl ⟨rfl,rfl,rfl⟩
 have c2_ := c2
 try simp only [sB] at c2
 refine w_R (qo hnt rfl (s_eql rfl rfl ?_))
 refine qa hnt rfl rfl (r_end (q_then (w_if rfl (fun c3 => ?_) (fun c3 => ?_))))
 ·try simp only [sB] at c3
  refine w_seq (w_R (qo hnt rfl (s_fa_ptr tab_53 rfl rfl tab_42 (by decide) rfl ?_)))
  refine qo hnt rfl (s_load_ptr1 tab_42 rfl rfl rfl rfl rfl ?_)
  refine qo hnt rfl (s_lenM (l := r.bits) tab_42 rfl (hM_sl (f := encBo) rfl) ?_)
  refine qo hnt rfl (s_fa_ptr tab_46 rfl rfl tab_3 (by decide) rfl ?_)
  refine qo hnt rfl (s_load_ptr1 tab_3 rfl rfl rfl rfl rfl ?_)
  refine qo hnt rfl (s_eql rfl rfl ?_)
  refine qa hnt rfl rfl (r_end (q_then (w_le (s := 4) (y := pB (decide (countOk r q))) rfl (le_of_eq (congrArg pB (show (decide (((r.bits.length : Nat) : Int) = q.count)) = (decide (countOk r q)) by exact decide_eq_decide.2 ⟨fun h _ => ⟨fun _ => h,fun k => absurd k (by omega)⟩,fun h => (h (by omega)).1 (by omega)⟩))) (w_ret (q_block_ret ?_)))))
  refine q_then_ret ?_
  exact fin_plain (ret_tmp rfl ret_nil) rfl rfl ⟨rfl,rfl,rfl⟩
 try simp only [sB] at c3
 refine w_seq (w_seq (w_R (qo hnt rfl (s_eql rfl rfl ?_))))
 refine qa hnt rfl rfl (r_end (q_then (w_if rfl (fun c4 => ?_) (fun c4 => ?_))))
 ·have c4_ := c4
  try simp only [sB] at c4
  refine w_skip (q_then (w_if rfl (fun _ => ?_) (fun e => absurd (e.symm.trans c4_) (by decide))))
  refine w_seq (w_R (qo hnt rfl (s_fa_ptr tab_53 rfl rfl tab_43 (by decide) rfl ?_)))
  refine qo hnt rfl (s_load_ptr1 tab_43 rfl rfl rfl rfl rfl ?_)
  refine qo hnt rfl (s_lenM (l := r.vals) tab_43 rfl (hM_sl (f := enc16) rfl) ?_)
  refine qo hnt rfl (s_fa_ptr tab_46 rfl rfl tab_3 (by decide) rfl ?_)
  refine qo hnt rfl (s_load_ptr1 tab_3 rfl rfl rfl rfl rfl ?_)
  refine qo hnt rfl (s_eql rfl rfl ?_)
  refine qa hnt rfl rfl (r_end (q_then (w_le (s := 4) (y := pB (decide (countOk r q))) rfl (le_of_eq (congrArg pB (show (decide (((r.vals.length : Nat) : Int) = q.count)) = (decide (countOk r q)) by exact decide_eq_decide.2 ⟨fun h _ => ⟨fun k => absurd k (by omega),fun _ => h⟩,fun h => (h (by omega)).2 (by omega)⟩))) (w_ret (q_block_ret ?_)))))
  refine q_then_ret ?_
  exact fin_plain (ret_tmp rfl ret_nil) rfl rfl ⟨rfl,rfl,rfl⟩
 have c4_ := c4
 try simp only [sB] at c4
 refine w_seq (w_R (qo hnt rfl (s_eql rfl rfl ?_)))
 refine qa hnt rfl rfl (r_end (q_then (w_if rfl (fun c5 => ?_) (fun c5 => ?_))))
 ·have c5_ := c5
  try simp only [sB] at c5
  refine w_skip (q_then (w_if rfl (fun _ => ?_) (fun e => absurd (e.symm.trans c5_) (by decide))))
  refine w_seq (w_R (qo hnt rfl (s_fa_ptr tab_53 rfl rfl tab_43 (by decide) rfl ?_)))
  refine qo hnt rfl (s_load_ptr1 tab_43 rfl rfl rfl rfl rfl ?_)
  refine qo hnt rfl (s_lenM (l := r.vals) tab_43 rfl (hM_sl (f := enc16) rfl) ?_)
  refine qo hnt rfl (s_fa_ptr tab_46 rfl rfl tab_3 (by decide) rfl ?_)
  refine qo hnt rfl (s_load_ptr1 tab_3 rfl rfl rfl rfl rfl ?_)
  refine qo hnt rfl (s_eql rfl rfl ?_)
  refine qa hnt rfl rfl (r_end (q_then (w_le (s := 4) (y := pB (decide (countOk r q))) rfl (le_of_eq (congrArg pB (show (decide (((r.vals.length : Nat) : Int) = q.count)) = (decide (countOk r q)) by exact decide_eq_decide.2 ⟨fun h _ => ⟨fun k => absurd k (by omega),fun _ => h⟩,fun h => (h (by omega)).2 (by omega)⟩))) (w_ret (q_block_ret ?_)))))
  refine q_then_ret ?_
  exact fin_plain (ret_tmp rfl ret_nil) rfl rfl ⟨rfl,rfl,rfl⟩
 have c5_ := c5
 try simp only [sB] at c5
 refine w_R (qo hnt rfl (s_eql rfl rfl ?_))
 refine qa hnt rfl rfl (r_end (q_then (w_if rfl (fun c6 => ?_) (fun c6 => ?_))))
 ·try simp only [sB] at c6
  refine w_seq (w_R (qo hnt rfl (s_fa_ptr tab_53 rfl rfl tab_43 (by decide) rfl ?_)))
  refine qo hnt rfl (s_load_ptr1 tab_43 rfl rfl rfl rfl rfl ?_)
  refine qo hnt rfl (s_lenM (l := r.vals) tab_43 rfl (hM_sl (f := enc16) rfl) ?_)
  refine qo hnt rfl (s_fa_ptr tab_46 rfl rfl tab_3 (by decide) rfl ?_)
  refine qo hnt rfl (s_load_ptr1 tab_3 rfl rfl rfl rfl rfl ?_)
  refine qo hnt rfl (s_eql rfl rfl ?_)
  refine qa hnt rfl rfl (r_end (q_then (w_le (s := 4) (y := pB (decide (countOk r q))) rfl (le_of_eq (congrArg pB (show (decide (((r.vals.length : Nat) : Int) = q.count)) = (decide (countOk r q)) by exact decide_eq_decide.2 ⟨fun h _ => ⟨fun k => absurd k (by omega),fun _ => h⟩,fun h => (h (by omega)).2 (by omega)⟩))) (w_ret (q_block_ret ?_)))))
  refine q_then_ret ?_
  exact fin_plain (ret_tmp rfl ret_nil) rfl rfl ⟨rfl,rfl,rfl⟩
 try simp only [sB] at c6
 refine w_skip (q_block (q_then (w_seq (w_R (qa hnt rfl rfl ?_)))))
 refine r_end (q_then (w_le (s := 4) (y := pB (decide (countOk r q))) rfl (le_of_eq (congrArg pB (show true = (decide (countOk r q)) by exact (decide_eq_true (fun _ => ⟨fun k => absurd k (by omega),fun k => absurd k (by omega)⟩)).symm))) (w_ret ?_)))
 exact fin_plain (ret_tmp rfl ret_nil) rfl rfl ⟨rfl,rfl,rfl⟩
theorem w_reply_num (b : List UInt8) (cl_b : Bool) (i : Nat) (hb : b.length ≤ 140737488351232) (hi : i ≤ 100) :
    T Try.prog 104 [pS 1 cl_b enc8 b,pN i] 0 [] (Ret (pI (getV b (1 + 2 * (i : Int)))) 0 []) := by
 refine t_fun tabOk (n := 16) (rs := [.tmp 4]) Try.func104 rfl rfl rfl rfl (Nat.le_of_ble_eq_true rfl) ?_
 intro c hnt hk
 refine w_seq (w_R (qa hnt rfl rfl (r_end (q_then (w_seq ?_)))))
 refine w_R (qm hnt rfl rfl (qm hnt rfl rfl (qo hnt rfl (s_mulN (a := 2) (b := i) rfl rfl (by omega) (by omega) (by omega) ?_))))
 refine qo hnt rfl (s_addN (a := 1) (b := 2 * i) rfl rfl (by omega) (by omega) (by omega) ?_)
 refine qo hnt rfl (s_callF rfl rfl rfl (w_octet_Get b cl_b ((1 + (2 * i) : Nat) : Int) (by omega) (by omega)) rfl ?_)
 refine qm hnt rfl rfl (qo hnt rfl (s_extract rfl rfl ?_))
 refine qo hnt rfl (s_extract rfl rfl ?_)
 refine qa hnt rfl rfl (qa hnt rfl rfl (r_end (q_then (w_seq (w_R ?_)))))
 refine qm hnt rfl rfl (qa hnt rfl rfl (r_end (q_then (w_le (s := 4) (y := pI (getV b (1 + 2 * (i : Int)))) rfl (le_of_eq (congrArg pI (show (getV b ((1 + (2 * i) : Nat) : Int)) = (getV b (1 + 2 * (i : Int))) by congr 1))) (w_ret ?_)))))
 exact fin_plain (ret_tmp rfl ret_nil) rfl rfl ⟨rfl,rfl,rfl⟩
theorem w_reply_counted (n : Int) (b : List UInt8) (cl_b : Bool) (hb : b.length ≤ 1000000) :
    T Try.prog 61 [pI n,pS 1 cl_b enc8 b] 0 [] (Ret (PV.ref 0 0 none) 1 [(0,oB true 1 enc8 (u8I n :: rowX b))]) := by
 refine t_fun tabOk (n := 13) (rs := [.tmp 4]) Try.func61 rfl rfl rfl rfl (Nat.le_of_ble_eq_true rfl) ?_
 intro c hnt hk
 refine w_seq (w_R (qa hnt rfl rfl (r_end (q_then (w_seq ?_)))))
 refine w_R (qm hnt rfl rfl (qo hnt rfl (s_cv8 tab_3 tab_5 rfl rfl rfl ?_)))
 refine qm hnt rfl rfl (qo hnt rfl (s_lenM (l := b) tab_51 rfl (hM_sl (f := enc8) rfl) ?_))
 refine qo hnt rfl (s_cv8N (a := b.length) tab_3 tab_5 rfl rfl rfl (by omega) ?_)
 refine qo hnt rfl (s_mkM (f := enc8) [u8I n,UInt8.ofNat b.length] tab_51 rfl tab_5 ⟨rfl,by decide⟩ (by decide) rfl rfl rfl rfl ?_)
 refine qm hnt rfl rfl (qo hnt rfl (s_appR0 (f := enc8) (l := [u8I n,UInt8.ofNat b.length]) (xs := b) tab_51 rfl tab_5 ⟨rfl,by decide,by decide⟩ (srcM tab_51 rfl (hM_sl (f := enc8) rfl)) rfl rfl (by (simp; omega)) ?_))
 refine qa hnt rfl rfl (r_set [(4,PV.ref 1 0 none)] [(1,oB true 1 enc8 ([u8I n,UInt8.ofNat b.length] ++ b))] 2 ⟨rfl,trivial⟩ rfl rfl (r_end (q_then (w_H (H' := [(1,oB true 1 enc8 (u8I n :: rowX b))]) (congrArg (fun z => ([(1,oB true 1 enc8 z)] : Heap)) (show [u8I n,UInt8.ofNat b.length] ++ b = u8I n :: rowX b by simp [rowX])) (w_ret ?_)))))
 exact fin_names (nx1 := 1) (H1 := [(0,oB true 1 enc8 (u8I n :: rowX b))]) [(0,1)] (ret_tmp rfl ret_nil) rfl (by decide) ⟨⟨_,_,rfl,rfl,rfl,rfl⟩,trivial⟩ (by decide) rfl ⟨rfl,rfl,rfl⟩
end Go.Proofs.Ytljkbpgcglomfaa
set_option linter.unusedVariables false
namespace Go.Proofs.Ytljkbpgcglomfaa
open Go Go.Proofs.Ytljkbpgcglomfaa.Pv
theorem codeG_1 {b : List UInt8} (h : 1 < b.length) {e : UInt8} (he : b[1]? = some e) : codeG b = ((e.toNat : Nat) : Int) := by unfold codeG; rw [if_pos h,List.getD_eq_getElem?_getD,he]; rfl
theorem codeG_0 {b : List UInt8} (h : ¬ 1 < b.length) : codeG b = 0 := by unfold codeG; rw [if_neg h]
section
variable {b : List UInt8} {q : TRequest} {e : UInt8} (h0 : b.getD 0 0 = e)
include h0
theorem takeP_no (h : 128 ≤ ((e.toNat : Nat) : Int)) : takeP b q = ⟨((e.toNat : Nat) : Int) - 128,codeG b,0,0,0,[],[],0,0,[]⟩ := by unfold takeP; simp only [h0]; rw [if_pos h]
variable (h : ¬ 128 ≤ ((e.toNat : Nat) : Int))
include h
theorem takeP_1 (k : ((e.toNat : Nat) : Int) = 1 ∨ ((e.toNat : Nat) : Int) = 2) : takeP b q = ⟨((e.toNat : Nat) : Int),0,0,0,0,bopV (b.drop (min b.length 2)) q.count,[],0,0,[]⟩ := by unfold takeP; simp only [h0]; rw [if_neg h,if_pos k]
theorem takeP_3 (k : ((e.toNat : Nat) : Int) = 3 ∨ ((e.toNat : Nat) : Int) = 4 ∨ ((e.toNat : Nat) : Int) = 23) : takeP b q = ⟨((e.toNat : Nat) : Int),0,0,0,0,[],wordsV (b.drop (min b.length 2)),0,0,[]⟩ := by unfold takeP; simp only [h0]; rw [if_neg h,if_neg (by omega),if_pos k]
theorem takeP_5 (k : ((e.toNat : Nat) : Int) = 5) : takeP b q = ⟨((e.toNat : Nat) : Int),0,getV b 1,0,0,[decide (getV b 3 = 65280)],[],0,0,[]⟩ := by unfold takeP; simp only [h0]; rw [if_neg h,if_neg (by omega),if_neg (by omega),if_pos k]
theorem takeP_6 (k : ((e.toNat : Nat) : Int) = 6) : takeP b q = ⟨((e.toNat : Nat) : Int),0,getV b 1,0,0,[],[u16I (getV b 3)],0,0,[]⟩ := by unfold takeP; simp only [h0]; rw [if_neg h,if_neg (by omega),if_neg (by omega),if_neg (by omega),if_pos k]
theorem takeP_8 (k : ((e.toNat : Nat) : Int) = 8) : takeP b q = ⟨((e.toNat : Nat) : Int),0,0,0,getV b 1,[],[u16I (getV b 3)],0,0,[]⟩ := by unfold takeP; simp only [h0]; rw [if_neg h,if_neg (by omega),if_neg (by omega),if_neg (by omega),if_neg (by omega),if_pos k]
theorem takeP_15 (k : ((e.toNat : Nat) : Int) = 15 ∨ ((e.toNat : Nat) : Int) = 16) : takeP b q = ⟨((e.toNat : Nat) : Int),0,getV b 1,getV b 3,0,[],[],0,0,[]⟩ := by unfold takeP; simp only [h0]; rw [if_neg h,if_neg (by omega),if_neg (by omega),if_neg (by omega),if_neg (by omega),if_neg (by omega),if_pos k]
theorem takeP_22 (k : ((e.toNat : Nat) : Int) = 22) : takeP b q = ⟨((e.toNat : Nat) : Int),0,getV b 1,0,0,[],[],u16I (getV b 3),u16I (getV b 5),[]⟩ := by unfold takeP; simp only [h0]; rw [if_neg h,if_neg (by omega),if_neg (by omega),if_neg (by omega),if_neg (by omega),if_neg (by omega),if_neg (by omega),if_pos k]
theorem takeP_17 (k : ((e.toNat : Nat) : Int) = 17) : takeP b q = ⟨((e.toNat : Nat) : Int),0,0,0,0,[],[],0,0,b.drop (min b.length 2)⟩ := by unfold takeP; simp only [h0]; rw [if_neg h,if_neg (by omega),if_neg (by omega),if_neg (by omega),if_neg (by omega),if_neg (by omega),if_neg (by omega),if_neg (by omega),if_pos k]
theorem takeP_0 (k : ¬ (((e.toNat : Nat) : Int) = 1 ∨ ((e.toNat : Nat) : Int) = 2 ∨ ((e.toNat : Nat) : Int) = 3 ∨ ((e.toNat : Nat) : Int) = 4 ∨ ((e.toNat : Nat) : Int) = 23 ∨ ((e.toNat : Nat) : Int) = 5 ∨ ((e.toNat : Nat) : Int) = 6 ∨ ((e.toNat : Nat) : Int) = 8 ∨ ((e.toNat : Nat) : Int) = 15 ∨ ((e.toNat : Nat) : Int) = 16 ∨ ((e.toNat : Nat) : Int) = 22 ∨ ((e.toNat : Nat) : Int) = 17)) : takeP b q = ⟨((e.toNat : Nat) : Int),0,0,0,0,[],[],0,0,[]⟩ := by
  unfold takeP; simp only [h0]; rw [if_neg h,if_neg (by omega),if_neg (by omega),if_neg (by omega),if_neg (by omega),if_neg (by omega),if_neg (by omega),if_neg (by omega),if_neg (by omega)]
end
end Go.Proofs.Ytljkbpgcglomfaa
set_option linter.unusedVariables false
set_option linter.unusedSimpArgs false
set_option maxRecDepth 10000
set_option maxHeartbeats 1000000
namespace Go.Proofs.Ytljkbpgcglomfaa
open Go Go.Proofs.Ytljkbpgcglomfaa.Pv
theorem w_reply_Bytes (r : TReply) (hr : r.bits.length ≤ 140737488351232 ∧ r.vals.length ≤ 140737488351232 ∧ r.data.length ≤ 140737488351232) :
    T Try.prog 31 [PV.f (eReply r)] 0 [] (Ret (PV.tup [pS 1 false enc8 (layE r),pI (goodR r)]) 0 []) := by
 refine t_fun tabOk (n := 113) (rs := [.tmp 2,.tmp 3]) Try.func31 rfl rfl rfl rfl (Nat.le_of_ble_eq_true rfl) ?_
 intro c hnt hk
 refine w_seq (w_R (qo hnt rfl (s_box rfl rfl ?_)))
 refine qa hnt rfl rfl (qa hnt rfl rfl (r_set [(1,PV.ptr 0 0)] [(0,.obj (cReply r))] 1 ⟨rfl,trivial⟩ rfl rfl (r_end (q_then (w_seq ?_)))))
 refine w_seq (w_R (qo hnt rfl (s_load_ptr tab_53 rfl rfl rfl (Nat.le_of_ble_eq_true rfl) ?_)))
 refine qo hnt rfl (s_callF rfl rfl rfl (w_reply_Right r (by omega)) rfl ?_)
 refine qa hnt rfl rfl (r_end (q_then (w_seq (w_R (qm hnt rfl rfl ?_)))))
 refine qo hnt rfl (s_neq rfl rfl ?_)
 refine r_end (q_then (w_if rfl (fun c1 => ?_) (fun c1 => ?_)))
 ·have c1_ := c1
  try simp only [sB] at c1
  refine w_seq (w_R (qm hnt rfl rfl (qa hnt rfl rfl (qa hnt rfl rfl (r_end ?_)))))
  refine q_then (w_le (s := 2) (y := pS 1 false enc8 []) rfl (le_nilS 1 false) (w_le (s := 2) (y := pS 1 false enc8 (layE r)) rfl (le_of_eq (congrArg (fun z => pS 1 false enc8 z) (show ([] : List UInt8) = (layE r) by (rw [layE_no (by first|assumption|simpa using c1_)]; done)))) (w_ret (q_then_ret ?_))))
  exact fin_plain (ret_tmp rfl (ret_tmp rfl ret_nil)) rfl rfl ⟨rfl,rfl,rfl⟩
 have c1_ := c1
 try simp only [sB] at c1
 refine w_skip (q_then (w_seq (w_seq ?_)))
 have hg0 : goodR r = 0 := by exact c1
 have hlr := layE_yes hg0
 have hgf := good_fn hg0
 refine w_R (qo hnt rfl (s_fa_ptr tab_53 rfl rfl tab_3 (by decide) rfl ?_))
 refine qo hnt rfl (s_load_ptr1 tab_3 rfl rfl rfl rfl rfl ?_)
 refine qo hnt rfl (s_neq rfl rfl ?_)
 refine r_end (q_then (w_if rfl (fun c2 => ?_) (fun c2 => ?_)))
 ·have c2_ := c2
  try simp only [sB] at c2
  refine w_seq (w_R (qo hnt rfl (s_fa_ptr tab_53 rfl rfl tab_3 (by decide) rfl ?_)))
  refine qo hnt rfl (s_load_ptr1 tab_3 rfl rfl rfl rfl rfl ?_)
  obtain ⟨fnn,hfn⟩ : ∃ n : Nat,r.fn = (n : Int) := ⟨r.fn.toNat,by omega⟩
  have hfo := or_128 hgf
  have hfo2 : fnn ||| 128 = fnn + 128 := by rw [hfn] at hfo; simpa using hfo
  refine r_eq (s := 16) (y := pN fnn) rfl (congrArg pI (show r.fn = ((fnn : Nat) : Int) by exact hfn)) (qo hnt rfl (s_orN (a := fnn) (b := 128) rfl rfl (by omega) (by omega) (by omega) ?_))
  refine qo hnt rfl (s_cv8N (a := fnn ||| 128) tab_3 tab_5 rfl rfl rfl (by omega) ?_)
  refine qo hnt rfl (s_fa_ptr tab_53 rfl rfl tab_3 (by decide) rfl ?_)
  refine qo hnt rfl (s_load_ptr1 tab_3 rfl rfl rfl rfl rfl ?_)
  refine qo hnt rfl (s_cv8 tab_3 tab_5 rfl rfl rfl ?_)
  refine qo hnt rfl (s_mkM (f := enc8) [UInt8.ofNat (fnn ||| 128),u8I r.code] tab_51 rfl tab_5 ⟨rfl,by decide⟩ (by decide) rfl rfl rfl rfl ?_)
  refine qa hnt rfl rfl (qa hnt rfl rfl (r_set [(2,PV.ref 1 0 none),(3,pI 0)] [(1,oB true 1 enc8 [UInt8.ofNat (fnn ||| 128),u8I r.code]),(0,.obj (cReply r))] 2 ⟨rfl,rfl,trivial⟩ rfl rfl (r_end (q_then (w_frzM (s := 2) (f := enc8) rfl rfl view_0 ?_)))))
  refine w_le (s := 2) (y := pS 1 false enc8 (layE r)) rfl (le_of_eq (congrArg (fun z => pS 1 false enc8 z) (show ([UInt8.ofNat (fnn ||| 128),u8I r.code] : List UInt8) = (layE r) by (rw [hlr,lay_code (by first|assumption|simpa using c2_),hfn]; rfl)))) (w_le (s := 3) (y := pI (goodR r)) rfl (le_of_eq (congrArg pI (show 0 = (goodR r) by simp [*]))) (w_ret (q_then_ret ?_)))
  exact fin_plain (ret_tmp rfl (ret_tmp rfl ret_nil)) rfl rfl ⟨rfl,rfl,rfl⟩
 have c2_ := c2
 try simp only [sB] at c2
 refine w_skip (q_then (w_seq ?_))
 have h0 : r.code = 0 := by exact c2
 have hsh : ShapeA r := by rcases goodR_zero hg0 with ⟨h,_⟩|⟨_,_,h⟩; exact absurd h0 h; exact h
 have hcf : hasF r.fn = true := by rcases goodR_zero hg0 with ⟨h,_⟩|⟨_,h,_⟩; exact absurd h0 h; exact h
 have hcf2 := hasF_of hcf
 have h5b := hsh.ob
 have h6v := hsh.ov
 have hlb := hsh.lb
 have hlv := hsh.lv
 have hld := hsh.ld
 refine w_R (qo hnt rfl (s_fa_ptr tab_53 rfl rfl tab_3 (by decide) rfl ?_))
 refine qo hnt rfl (s_load_ptr1 tab_3 rfl rfl rfl rfl rfl ?_)
 refine qo hnt rfl (s_cv8 tab_3 tab_5 rfl rfl rfl ?_)
 refine qo hnt rfl (s_mkM (f := enc8) [u8I r.fn] tab_51 rfl tab_5 ⟨rfl,by decide⟩ (by decide) rfl rfl rfl rfl ?_)
 refine qa hnt rfl rfl (r_set [(1,PV.ptr 0 0),(5,PV.ref 1 0 none)] [(1,oB true 1 enc8 [u8I r.fn]),(0,.obj (cReply r))] 2 ⟨rfl,rfl,trivial⟩ rfl rfl (r_end (q_then (w_seq (w_seq ?_)))))
 refine w_R (qo hnt rfl (s_fa_ptr tab_53 rfl rfl tab_3 (by decide) rfl ?_))
 refine qo hnt rfl (s_load_ptr1 tab_3 rfl rfl rfl rfl rfl ?_)
 refine r_end (q_then (w_block (join1 (fun (bb1 : Bool) => bb1 = ((decide (r.fn = 1)) || (decide (r.fn = 2)))) (fun (bb1 : Bool) => [(1,PV.ptr 0 0),(5,PV.ref 1 0 none),(28,pI r.fn),(29,pB bb1)]) 2 (fun (bb1 : Bool) => [(0,.obj (cReply r)),(1,oB true 1 enc8 [u8I r.fn])]) ?_ ?_)))
 ·refine w_seq (w_R (qo hnt rfl (s_eql rfl rfl ?_)))
  refine qa hnt rfl rfl (r_end (q_then (w_if rfl (fun c3 => ?_) (fun c3 => ?_))))
  ·have c3_ := c3
   try simp only [sB] at c3
   refine w_skip (q_then (⟨(decide (r.fn = 1)), ?_,⟨[(0,0),(1,1)],by rw [hk]; decide,⟨⟨_,rfl,rfl,rfl⟩,⟨_,rfl,rfl,rfl⟩,⟨_,rfl,rfl,rfl⟩,⟨_,rfl,rfl,rfl⟩,trivial⟩,⟨⟨_,_,rfl,rfl,rfl,rfl⟩,⟨_,_,rfl,rfl,rfl,rfl⟩,trivial⟩,by rw [hk]; decide⟩⟩))
   simp only [c3_,Bool.true_or,Bool.false_or]
  have c3_ := c3
  try simp only [sB] at c3
  refine w_R (qo hnt rfl (s_eql rfl rfl ?_))
  refine qa hnt rfl rfl (r_end (q_then (⟨(decide (r.fn = 2)), ?_,⟨[(0,0),(1,1)],by rw [hk]; decide,⟨⟨_,rfl,rfl,rfl⟩,⟨_,rfl,rfl,rfl⟩,⟨_,rfl,rfl,rfl⟩,⟨_,rfl,rfl,rfl⟩,trivial⟩,⟨⟨_,_,rfl,rfl,rfl,rfl⟩,⟨_,_,rfl,rfl,rfl,rfl⟩,trivial⟩,by rw [hk]; decide⟩⟩)))
  simp only [c3_,Bool.true_or,Bool.false_or]
 intro bb1 hbb1
 subst hbb1
 refine w_if rfl (fun c4 => ?_) (fun c4 => ?_)
 ·have c4_ := c4
  try simp only [sB,Bool.or_eq_true,Bool.or_eq_false_iff] at c4
  refine W_drawn tabOk mixed hnt [[],[0],[],[2],[2,3],[0,1,2,3,4],[0,1,2,3,4,5]] (by kernel_rfl) (d_op (x_run0 [(1,PV.ptr 0 0)] [] rfl rfl rfl rfl (s_fa_ptr tab_53 rfl rfl tab_3 (by decide) rfl ⟨rfl,rfl,rfl⟩) (d_op (xL [(32,PV.ptr 0 0)] [0] [(0,.obj (cReply r))] rfl rfl rfl rfl rfl (s_load_ptr1 tab_3 rfl rfl rfl rfl rfl ⟨rfl,rfl,rfl⟩) ⟨rfl,trivial⟩ rfl (d_op ?_)))))
  refine x_run0 [(1,PV.ptr 0 0)] [] rfl rfl rfl rfl (s_fa_ptr tab_53 rfl rfl tab_42 (by decide) rfl ⟨rfl,rfl,rfl⟩) (d_op (xL [(34,PV.ptr 0 5)] [2] [(0,.obj (cReply r))] rfl rfl rfl rfl rfl (s_load_ptr1 tab_42 rfl rfl rfl rfl rfl ⟨rfl,rfl,rfl⟩) ⟨rfl,trivial⟩ rfl (d_op (xT [(35,pS 1 false encBo r.bits)] [2,3] [] [(2,oB true 1 enc8 (packL r.bits))] [(0,.obj (cReply r)),(1,oB true 1 enc8 [u8I r.fn])] rfl rfl rfl rfl rfl (s_callX (r2 := PV.ref 2 0 none) (nx1 := 3) (H2 := []) (H3 := [(2,oB true 1 enc8 (packL r.bits))]) [] [] rfl rfl rfl (handed_of (by decide) trivial) rfl rfl rfl rfl rfl rfl (w_octet_Pack r.bits false (by omega)) rfl (dist_of rfl) rfl rfl rfl rfl ⟨rfl,rfl,rfl⟩) rfl rfl (d_op ?_)))))
  refine xT [(33,pI r.fn),(36,PV.ref 2 0 none)] [0,1,2,3,4] [(2,oB true 1 enc8 (packL r.bits))] [(3,oB true 1 enc8 (u8I r.fn :: rowX (packL r.bits))),(2,oB false 1 enc8 (packL r.bits))] [(0,.obj (cReply r)),(1,oB true 1 enc8 [u8I r.fn])] rfl rfl rfl rfl rfl (s_callX (r2 := PV.ref 3 0 none) (nx1 := 4) (H2 := [(2,oB false 1 enc8 (packL r.bits))]) (H3 := [(3,oB true 1 enc8 (u8I r.fn :: rowX (packL r.bits))),(2,oB false 1 enc8 (packL r.bits))]) [] [] rfl rfl rfl (handed_of (by decide) trivial) rfl rfl rfl rfl rfl rfl (w_reply_counted r.fn (packL r.bits) false (by (simp; omega))) rfl (dist_of rfl) rfl rfl rfl rfl ⟨rfl,rfl,rfl⟩) rfl rfl (d_op (x_run0 [(37,PV.ref 3 0 none)] [0,1,2,3,4,5] rfl rfl rfl rfl (s_assign rfl ⟨rfl,rfl,rfl⟩) (d_end ⟨by kernel_rfl, ?_⟩)))
  refine q_block (q_then (w_seq (w_R (qm hnt rfl rfl (qo hnt rfl (s_callX (r2 := pS 1 true enc8 (u8I r.fn :: rowX (packL r.bits))) (nx1 := 4) (H2 := [(3,oB false 1 enc8 (u8I r.fn :: rowX (packL r.bits))),(2,oB false 1 enc8 (packL r.bits)),(0,.obj (cReply r)),(1,oB true 1 enc8 [u8I r.fn])]) (H3 := [(3,oB false 1 enc8 (u8I r.fn :: rowX (packL r.bits))),(2,oB false 1 enc8 (packL r.bits)),(0,.obj (cReply r)),(1,oB true 1 enc8 [u8I r.fn])]) [] [] rfl rfl rfl (handed_of (by decide) trivial) rfl rfl rfl rfl rfl rfl (w_slices_Clip_byte_byte (u8I r.fn :: rowX (packL r.bits)) false) rfl (dist_of rfl) rfl rfl rfl rfl ?_))))))
  refine qa hnt rfl rfl (qa hnt rfl rfl (r_set [(2,pS 1 true enc8 (u8I r.fn :: rowX (packL r.bits))),(3,pI 0)] [(3,oB false 1 enc8 (u8I r.fn :: rowX (packL r.bits))),(2,oB false 1 enc8 (packL r.bits)),(0,.obj (cReply r)),(1,oB true 1 enc8 [u8I r.fn])] 4 ⟨rfl,rfl,trivial⟩ rfl rfl (r_end (q_then (w_le (s := 2) (y := pS 1 false enc8 (u8I r.fn :: rowX (packL r.bits))) rfl (le_loose) ?_)))))
  refine w_le (s := 2) (y := pS 1 false enc8 (layE r)) rfl (le_of_eq (congrArg (fun z => pS 1 false enc8 z) (show (u8I r.fn :: rowX (packL r.bits)) = (layE r) by (rw [hlr,lay_fn h0,layT_1 (by omega)]; done)))) (w_le (s := 3) (y := pI (goodR r)) rfl (le_of_eq (congrArg pI (show 0 = (goodR r) by simp [*]))) (w_ret ?_))
  exact fin_plain (ret_tmp rfl (ret_tmp rfl ret_nil)) rfl rfl ⟨rfl,rfl,rfl⟩
 have c4_ := c4
 try simp only [sB,Bool.or_eq_true,Bool.or_eq_false_iff] at c4
 refine join1 (fun (bb2 : Bool) => bb2 = ((decide (r.fn = 3)) || ((decide (r.fn = 4)) || (decide (r.fn = 23))))) (fun (bb2 : Bool) => [(1,PV.ptr 0 0),(5,PV.ref 1 0 none),(28,pI r.fn),(38,pB bb2)]) 2 (fun (bb2 : Bool) => [(0,.obj (cReply r)),(1,oB true 1 enc8 [u8I r.fn])]) ?_ ?_
 ·refine w_seq (w_R (qo hnt rfl (s_eql rfl rfl ?_)))
  refine qa hnt rfl rfl (r_end (q_then (w_if rfl (fun c5 => ?_) (fun c5 => ?_))))
  ·have c5_ := c5
   try simp only [sB] at c5
   refine w_skip (q_then (⟨(decide (r.fn = 3)), ?_,⟨[(0,0),(1,1)],by rw [hk]; decide,⟨⟨_,rfl,rfl,rfl⟩,⟨_,rfl,rfl,rfl⟩,⟨_,rfl,rfl,rfl⟩,⟨_,rfl,rfl,rfl⟩,trivial⟩,⟨⟨_,_,rfl,rfl,rfl,rfl⟩,⟨_,_,rfl,rfl,rfl,rfl⟩,trivial⟩,by rw [hk]; decide⟩⟩))
   simp only [c5_,Bool.true_or,Bool.false_or]
  have c5_ := c5
  try simp only [sB] at c5
  refine w_seq (w_R (qo hnt rfl (s_eql rfl rfl ?_)))
  refine qa hnt rfl rfl (r_end (q_then (w_if rfl (fun c6 => ?_) (fun c6 => ?_))))
  ·have c6_ := c6
   try simp only [sB] at c6
   refine w_skip (q_then (⟨(decide (r.fn = 4)), ?_,⟨[(0,0),(1,1)],by rw [hk]; decide,⟨⟨_,rfl,rfl,rfl⟩,⟨_,rfl,rfl,rfl⟩,⟨_,rfl,rfl,rfl⟩,⟨_,rfl,rfl,rfl⟩,trivial⟩,⟨⟨_,_,rfl,rfl,rfl,rfl⟩,⟨_,_,rfl,rfl,rfl,rfl⟩,trivial⟩,by rw [hk]; decide⟩⟩))
   simp only [c5_,c6_,Bool.true_or,Bool.false_or]
  have c6_ := c6
  try simp only [sB] at c6
  refine w_R (qo hnt rfl (s_eql rfl rfl ?_))
  refine qa hnt rfl rfl (r_end (q_then (⟨(decide (r.fn = 23)), ?_,⟨[(0,0),(1,1)],by rw [hk]; decide,⟨⟨_,rfl,rfl,rfl⟩,⟨_,rfl,rfl,rfl⟩,⟨_,rfl,rfl,rfl⟩,⟨_,rfl,rfl,rfl⟩,trivial⟩,⟨⟨_,_,rfl,rfl,rfl,rfl⟩,⟨_,_,rfl,rfl,rfl,rfl⟩,trivial⟩,by rw [hk]; decide⟩⟩)))
  simp only [c5_,c6_,Bool.true_or,Bool.false_or]
 intro bb2 hbb2
 subst hbb2
 refine w_if rfl (fun c7 => ?_) (fun c7 => ?_)
 ·have c7_ := c7
  try simp only [sB,Bool.or_eq_true,Bool.or_eq_false_iff] at c7
  refine W_drawn tabOk mixed hnt [[],[0],[],[2],[2,3],[0,1,2,3,4],[0,1,2,3,4,5]] (by kernel_rfl) (d_op (x_run0 [(1,PV.ptr 0 0)] [] rfl rfl rfl rfl (s_fa_ptr tab_53 rfl rfl tab_3 (by decide) rfl ⟨rfl,rfl,rfl⟩) (d_op (xL [(42,PV.ptr 0 0)] [0] [(0,.obj (cReply r))] rfl rfl rfl rfl rfl (s_load_ptr1 tab_3 rfl rfl rfl rfl rfl ⟨rfl,rfl,rfl⟩) ⟨rfl,trivial⟩ rfl (d_op ?_)))))
  refine x_run0 [(1,PV.ptr 0 0)] [] rfl rfl rfl rfl (s_fa_ptr tab_53 rfl rfl tab_43 (by decide) rfl ⟨rfl,rfl,rfl⟩) (d_op (xL [(44,PV.ptr 0 6)] [2] [(0,.obj (cReply r))] rfl rfl rfl rfl rfl (s_load_ptr1 tab_43 rfl rfl rfl rfl rfl ⟨rfl,rfl,rfl⟩) ⟨rfl,trivial⟩ rfl (d_op (xT [(45,pS 1 false enc16 r.vals)] [2,3] [] [(2,oB true 1 enc8 (bytesL r.vals))] [(0,.obj (cReply r)),(1,oB true 1 enc8 [u8I r.fn])] rfl rfl rfl rfl rfl (s_callX (r2 := PV.ref 2 0 none) (nx1 := 3) (H2 := []) (H3 := [(2,oB true 1 enc8 (bytesL r.vals))]) [] [] rfl rfl rfl (handed_of (by decide) trivial) rfl rfl rfl rfl rfl rfl (w_octet_Bytes r.vals false (by omega)) rfl (dist_of rfl) rfl rfl rfl rfl ⟨rfl,rfl,rfl⟩) rfl rfl (d_op ?_)))))
  refine xT [(43,pI r.fn),(46,PV.ref 2 0 none)] [0,1,2,3,4] [(2,oB true 1 enc8 (bytesL r.vals))] [(3,oB true 1 enc8 (u8I r.fn :: rowX (bytesL r.vals))),(2,oB false 1 enc8 (bytesL r.vals))] [(0,.obj (cReply r)),(1,oB true 1 enc8 [u8I r.fn])] rfl rfl rfl rfl rfl (s_callX (r2 := PV.ref 3 0 none) (nx1 := 4) (H2 := [(2,oB false 1 enc8 (bytesL r.vals))]) (H3 := [(3,oB true 1 enc8 (u8I r.fn :: rowX (bytesL r.vals))),(2,oB false 1 enc8 (bytesL r.vals))]) [] [] rfl rfl rfl (handed_of (by decide) trivial) rfl rfl rfl rfl rfl rfl (w_reply_counted r.fn (bytesL r.vals) false (by (simp; omega))) rfl (dist_of rfl) rfl rfl rfl rfl ⟨rfl,rfl,rfl⟩) rfl rfl (d_op (x_run0 [(47,PV.ref 3 0 none)] [0,1,2,3,4,5] rfl rfl rfl rfl (s_assign rfl ⟨rfl,rfl,rfl⟩) (d_end ⟨by kernel_rfl, ?_⟩)))
  refine q_block (q_then (w_seq (w_R (qm hnt rfl rfl (qo hnt rfl (s_callX (r2 := pS 1 true enc8 (u8I r.fn :: rowX (bytesL r.vals))) (nx1 := 4) (H2 := [(3,oB false 1 enc8 (u8I r.fn :: rowX (bytesL r.vals))),(2,oB false 1 enc8 (bytesL r.vals)),(0,.obj (cReply r)),(1,oB true 1 enc8 [u8I r.fn])]) (H3 := [(3,oB false 1 enc8 (u8I r.fn :: rowX (bytesL r.vals))),(2,oB false 1 enc8 (bytesL r.vals)),(0,.obj (cReply r)),(1,oB true 1 enc8 [u8I r.fn])]) [] [] rfl rfl rfl (handed_of (by decide) trivial) rfl rfl rfl rfl rfl rfl (w_slices_Clip_byte_byte (u8I r.fn :: rowX (bytesL r.vals)) false) rfl (dist_of rfl) rfl rfl rfl rfl ?_))))))
  refine qa hnt rfl rfl (qa hnt rfl rfl (r_set [(2,pS 1 true enc8 (u8I r.fn :: rowX (bytesL r.vals))),(3,pI 0)] [(3,oB false 1 enc8 (u8I r.fn :: rowX (bytesL r.vals))),(2,oB false 1 enc8 (bytesL r.vals)),(0,.obj (cReply r)),(1,oB true 1 enc8 [u8I r.fn])] 4 ⟨rfl,rfl,trivial⟩ rfl rfl (r_end (q_then (w_le (s := 2) (y := pS 1 false enc8 (u8I r.fn :: rowX (bytesL r.vals))) rfl (le_loose) ?_)))))
  refine w_le (s := 2) (y := pS 1 false enc8 (layE r)) rfl (le_of_eq (congrArg (fun z => pS 1 false enc8 z) (show (u8I r.fn :: rowX (bytesL r.vals)) = (layE r) by (rw [hlr,lay_fn h0,layT_3 (by omega)]; done)))) (w_le (s := 3) (y := pI (goodR r)) rfl (le_of_eq (congrArg pI (show 0 = (goodR r) by simp [*]))) (w_ret ?_))
  exact fin_plain (ret_tmp rfl (ret_tmp rfl ret_nil)) rfl rfl ⟨rfl,rfl,rfl⟩
 have c7_ := c7
 try simp only [sB,Bool.or_eq_true,Bool.or_eq_false_iff] at c7
 refine w_seq (w_R (qo hnt rfl (s_eql rfl rfl ?_)))
 refine qa hnt rfl rfl (r_end (q_then (w_if rfl (fun c8 => ?_) (fun c8 => ?_))))
 ·have c8_ := c8
  try simp only [sB] at c8
  refine w_seq ?_
  have hb1 := h5b (by omega)
  refine w_R (qa hnt rfl rfl (r_end (q_then (w_seq (w_seq ?_)))))
  refine w_R (qo hnt rfl (s_fa_ptr tab_53 rfl rfl tab_42 (by decide) rfl ?_))
  refine qo hnt rfl (s_load_ptr1 tab_42 rfl rfl rfl rfl rfl ?_)
  obtain ⟨e1,he1⟩ := get_of_lt r.bits (i := 0) (by omega)
  refine qo hnt rfl (s_iaM (q := 0) (b := e1) (f := encBo) tab_42 rfl tab_4 rfl rfl (by omega) rfl he1 ?_)
  refine qo hnt rfl (s_load_ro1 tab_4 rfl rfl rfl rfl ?_)
  refine r_end (q_then (w_if rfl (fun c9 => ?_) (fun c9 => ?_)))
  ·have c9_ := c9
   try simp only [sB] at c9
   refine w_R (qa hnt rfl rfl (r_end (q_then (w_R (qm hnt rfl rfl ?_)))))
   refine qo hnt rfl (s_fa_ptr tab_53 rfl rfl tab_3 (by decide) rfl ?_)
   refine qo hnt rfl (s_load_ptr1 tab_3 rfl rfl rfl rfl rfl ?_)
   refine qo hnt rfl (s_callX (r2 := PV.ref 2 0 none) (nx1 := 3) (H2 := [(1,oB false 1 enc8 [u8I r.fn]),(0,.obj (cReply r))]) (H3 := [(2,oB true 1 enc8 ([u8I r.fn] ++ put2 r.at_)),(1,oB false 1 enc8 [u8I r.fn]),(0,.obj (cReply r))]) [] [] rfl rfl rfl (handed_of (by decide) trivial) rfl rfl rfl rfl rfl rfl (w_octet_Put [u8I r.fn] false r.at_ (by (simp; done))) rfl (dist_of rfl) rfl rfl rfl rfl ?_)
   refine qm hnt rfl rfl (qo hnt rfl (s_callX (r2 := PV.ref 3 0 none) (nx1 := 4) (H2 := [(2,oB false 1 enc8 ([u8I r.fn] ++ put2 r.at_)),(1,oB false 1 enc8 [u8I r.fn]),(0,.obj (cReply r))]) (H3 := [(3,oB true 1 enc8 (([u8I r.fn] ++ put2 r.at_) ++ put2 65280)),(2,oB false 1 enc8 ([u8I r.fn] ++ put2 r.at_)),(1,oB false 1 enc8 [u8I r.fn]),(0,.obj (cReply r))]) [] [] rfl rfl rfl (handed_of (by decide) trivial) rfl rfl rfl rfl rfl rfl (w_octet_Put ([u8I r.fn] ++ put2 r.at_) false 65280 (by (simp; done))) rfl (dist_of rfl) rfl rfl rfl rfl ?_))
   refine qa hnt rfl rfl (r_set [(5,PV.ref 3 0 none)] [(3,oB true 1 enc8 (([u8I r.fn] ++ put2 r.at_) ++ put2 65280)),(2,oB false 1 enc8 ([u8I r.fn] ++ put2 r.at_)),(1,oB false 1 enc8 [u8I r.fn]),(0,.obj (cReply r))] 4 ⟨rfl,trivial⟩ rfl rfl (r_end (q_block (q_then (w_seq ?_)))))
   refine w_R (qm hnt rfl rfl (qo hnt rfl (s_callX (r2 := pS 1 true enc8 (([u8I r.fn] ++ put2 r.at_) ++ put2 65280)) (nx1 := 4) (H2 := [(3,oB false 1 enc8 (([u8I r.fn] ++ put2 r.at_) ++ put2 65280)),(2,oB false 1 enc8 ([u8I r.fn] ++ put2 r.at_)),(1,oB false 1 enc8 [u8I r.fn]),(0,.obj (cReply r))]) (H3 := [(3,oB false 1 enc8 (([u8I r.fn] ++ put2 r.at_) ++ put2 65280)),(2,oB false 1 enc8 ([u8I r.fn] ++ put2 r.at_)),(1,oB false 1 enc8 [u8I r.fn]),(0,.obj (cReply r))]) [] [] rfl rfl rfl (handed_of (by decide) trivial) rfl rfl rfl rfl rfl rfl (w_slices_Clip_byte_byte (([u8I r.fn] ++ put2 r.at_) ++ put2 65280) false) rfl (dist_of rfl) rfl rfl rfl rfl ?_)))
   refine qa hnt rfl rfl (qa hnt rfl rfl (r_set [(2,pS 1 true enc8 (([u8I r.fn] ++ put2 r.at_) ++ put2 65280)),(3,pI 0)] [(3,oB false 1 enc8 (([u8I r.fn] ++ put2 r.at_) ++ put2 65280)),(2,oB false 1 enc8 ([u8I r.fn] ++ put2 r.at_)),(1,oB false 1 enc8 [u8I r.fn]),(0,.obj (cReply r))] 4 ⟨rfl,rfl,trivial⟩ rfl rfl (r_end (q_then (w_le (s := 2) (y := pS 1 false enc8 (([u8I r.fn] ++ put2 r.at_) ++ put2 65280)) rfl (le_loose) ?_)))))
   refine w_le (s := 2) (y := pS 1 false enc8 (layE r)) rfl (le_of_eq (congrArg (fun z => pS 1 false enc8 z) (show (([u8I r.fn] ++ put2 r.at_) ++ put2 65280) = (layE r) by (rw [hlr,lay_fn h0,layT_5 (by omega) he1]; simp [*]; done)))) (w_le (s := 3) (y := pI (goodR r)) rfl (le_of_eq (congrArg pI (show 0 = (goodR r) by simp [*]))) (w_ret ?_))
   exact fin_plain (ret_tmp rfl (ret_tmp rfl ret_nil)) rfl rfl ⟨rfl,rfl,rfl⟩
  have c9_ := c9
  try simp only [sB] at c9
  refine w_skip (q_then (w_R (qm hnt rfl rfl (qo hnt rfl (s_fa_ptr tab_53 rfl rfl tab_3 (by decide) rfl ?_)))))
  refine qo hnt rfl (s_load_ptr1 tab_3 rfl rfl rfl rfl rfl ?_)
  refine qo hnt rfl (s_callX (r2 := PV.ref 2 0 none) (nx1 := 3) (H2 := [(1,oB false 1 enc8 [u8I r.fn]),(0,.obj (cReply r))]) (H3 := [(2,oB true 1 enc8 ([u8I r.fn] ++ put2 r.at_)),(1,oB false 1 enc8 [u8I r.fn]),(0,.obj (cReply r))]) [] [] rfl rfl rfl (handed_of (by decide) trivial) rfl rfl rfl rfl rfl rfl (w_octet_Put [u8I r.fn] false r.at_ (by (simp; done))) rfl (dist_of rfl) rfl rfl rfl rfl ?_)
  refine qm hnt rfl rfl (qo hnt rfl (s_callX (r2 := PV.ref 3 0 none) (nx1 := 4) (H2 := [(2,oB false 1 enc8 ([u8I r.fn] ++ put2 r.at_)),(1,oB false 1 enc8 [u8I r.fn]),(0,.obj (cReply r))]) (H3 := [(3,oB true 1 enc8 (([u8I r.fn] ++ put2 r.at_) ++ put2 0)),(2,oB false 1 enc8 ([u8I r.fn] ++ put2 r.at_)),(1,oB false 1 enc8 [u8I r.fn]),(0,.obj (cReply r))]) [] [] rfl rfl rfl (handed_of (by decide) trivial) rfl rfl rfl rfl rfl rfl (w_octet_Put ([u8I r.fn] ++ put2 r.at_) false 0 (by (simp; done))) rfl (dist_of rfl) rfl rfl rfl rfl ?_))
  refine qa hnt rfl rfl (r_set [(5,PV.ref 3 0 none)] [(3,oB true 1 enc8 (([u8I r.fn] ++ put2 r.at_) ++ put2 0)),(2,oB false 1 enc8 ([u8I r.fn] ++ put2 r.at_)),(1,oB false 1 enc8 [u8I r.fn]),(0,.obj (cReply r))] 4 ⟨rfl,trivial⟩ rfl rfl (r_end (q_block (q_then (w_seq ?_)))))
  refine w_R (qm hnt rfl rfl (qo hnt rfl (s_callX (r2 := pS 1 true enc8 (([u8I r.fn] ++ put2 r.at_) ++ put2 0)) (nx1 := 4) (H2 := [(3,oB false 1 enc8 (([u8I r.fn] ++ put2 r.at_) ++ put2 0)),(2,oB false 1 enc8 ([u8I r.fn] ++ put2 r.at_)),(1,oB false 1 enc8 [u8I r.fn]),(0,.obj (cReply r))]) (H3 := [(3,oB false 1 enc8 (([u8I r.fn] ++ put2 r.at_) ++ put2 0)),(2,oB false 1 enc8 ([u8I r.fn] ++ put2 r.at_)),(1,oB false 1 enc8 [u8I r.fn]),(0,.obj (cReply r))]) [] [] rfl rfl rfl (handed_of (by decide) trivial) rfl rfl rfl rfl rfl rfl (w_slices_Clip_byte_byte (([u8I r.fn] ++ put2 r.at_) ++ put2 0) false) rfl (dist_of rfl) rfl rfl rfl rfl ?_)))
  refine qa hnt rfl rfl (qa hnt rfl rfl (r_set [(2,pS 1 true enc8 (([u8I r.fn] ++ put2 r.at_) ++ put2 0)),(3,pI 0)] [(3,oB false 1 enc8 (([u8I r.fn] ++ put2 r.at_) ++ put2 0)),(2,oB false 1 enc8 ([u8I r.fn] ++ put2 r.at_)),(1,oB false 1 enc8 [u8I r.fn]),(0,.obj (cReply r))] 4 ⟨rfl,rfl,trivial⟩ rfl rfl (r_end (q_then (w_le (s := 2) (y := pS 1 false enc8 (([u8I r.fn] ++ put2 r.at_) ++ put2 0)) rfl (le_loose) ?_)))))
  refine w_le (s := 2) (y := pS 1 false enc8 (layE r)) rfl (le_of_eq (congrArg (fun z => pS 1 false enc8 z) (show (([u8I r.fn] ++ put2 r.at_) ++ put2 0) = (layE r) by (rw [hlr,lay_fn h0,layT_5 (by omega) he1]; simp [*]; done)))) (w_le (s := 3) (y := pI (goodR r)) rfl (le_of_eq (congrArg pI (show 0 = (goodR r) by simp [*]))) (w_ret ?_))
  exact fin_plain (ret_tmp rfl (ret_tmp rfl ret_nil)) rfl rfl ⟨rfl,rfl,rfl⟩
 have c8_ := c8
 try simp only [sB] at c8
 refine w_seq (w_R (qo hnt rfl (s_eql rfl rfl ?_)))
 refine qa hnt rfl rfl (r_end (q_then (w_if rfl (fun c10 => ?_) (fun c10 => ?_))))
 ·have c10_ := c10
  try simp only [sB] at c10
  obtain ⟨v1,hv1⟩ := vals_one (l := r.vals) (h6v (by omega))
  refine W_drawn tabOk mixed hnt [[],[],[1],[0,1,2],[],[4],[0,1,2,3,4,5],[0,1,2,3,4,5,6],(.range 8)] (by kernel_rfl) (d_op (x_run0 [(5,PV.ref 1 0 none)] [] rfl rfl rfl rfl (s_move rfl ⟨rfl,rfl,rfl⟩) (d_op (x_run0 [(1,PV.ptr 0 0)] [] rfl rfl rfl rfl (s_fa_ptr tab_53 rfl rfl tab_3 (by decide) rfl ⟨rfl,rfl,rfl⟩) (d_op ?_)))))
  refine xL [(63,PV.ptr 0 2)] [1] [(0,.obj (cReply r))] rfl rfl rfl rfl rfl (s_load_ptr1 tab_3 rfl rfl rfl rfl rfl ⟨rfl,rfl,rfl⟩) ⟨rfl,trivial⟩ rfl (d_op (xT [(62,PV.ref 1 0 none),(64,pI r.at_)] [0,1,2] [(1,oB true 1 enc8 [u8I r.fn])] [(2,oB true 1 enc8 ([u8I r.fn] ++ put2 r.at_)),(1,oB false 1 enc8 [u8I r.fn])] [(0,.obj (cReply r))] rfl rfl rfl rfl rfl (s_callX (r2 := PV.ref 2 0 none) (nx1 := 3) (H2 := [(1,oB false 1 enc8 [u8I r.fn])]) (H3 := [(2,oB true 1 enc8 ([u8I r.fn] ++ put2 r.at_)),(1,oB false 1 enc8 [u8I r.fn])]) [] [] rfl rfl rfl (handed_of (by decide) trivial) rfl rfl rfl rfl rfl rfl (w_octet_Put [u8I r.fn] false r.at_ (by (simp; done))) rfl (dist_of rfl) rfl rfl rfl rfl ⟨rfl,rfl,rfl⟩) rfl rfl (d_op (x_run0 [(1,PV.ptr 0 0)] [] rfl rfl rfl rfl (s_fa_ptr tab_53 rfl rfl tab_43 (by decide) rfl ⟨rfl,rfl,rfl⟩) (d_op ?_)))))
  refine xL [(66,PV.ptr 0 6)] [4] [(0,.obj (cReply r))] rfl rfl rfl rfl rfl (s_load_ptr1 tab_43 rfl rfl rfl rfl rfl ⟨rfl,rfl,rfl⟩) ⟨rfl,trivial⟩ rfl (d_op (xT [(67,pS 1 false enc16 r.vals)] [0,1,2,3,4,5] [] [(3,oB true 1 enc8 (bytesL r.vals))] [(2,oB true 1 enc8 ([u8I r.fn] ++ put2 r.at_)),(1,oB false 1 enc8 [u8I r.fn]),(0,.obj (cReply r))] rfl rfl rfl rfl rfl (s_callX (r2 := PV.ref 3 0 none) (nx1 := 4) (H2 := []) (H3 := [(3,oB true 1 enc8 (bytesL r.vals))]) [] [] rfl rfl rfl (handed_of (by decide) trivial) rfl rfl rfl rfl rfl rfl (w_octet_Bytes r.vals false (by omega)) rfl (dist_of rfl) rfl rfl rfl rfl ⟨rfl,rfl,rfl⟩) rfl rfl (d_op (x_run [(65,PV.ref 2 0 none),(68,PV.ref 3 0 none)] [0,1,2,3,4,5,6] [(3,oB true 1 enc8 (bytesL r.vals))] [(2,oB true 1 enc8 ([u8I r.fn] ++ put2 r.at_))] [(4,oB true 1 enc8 (([u8I r.fn] ++ put2 r.at_) ++ (bytesL r.vals))),(3,oB true 1 enc8 (bytesL r.vals))] [(4,oB true 1 enc8 (([u8I r.fn] ++ put2 r.at_) ++ (bytesL r.vals)))] [(4,oB true 1 enc8 (([u8I r.fn] ++ put2 r.at_) ++ (bytesL r.vals))),(3,oB true 1 enc8 (bytesL r.vals)),(1,oB false 1 enc8 [u8I r.fn]),(0,.obj (cReply r))] rfl rfl rfl rfl rfl rfl (s_appR0 (f := enc8) (l := [u8I r.fn] ++ put2 r.at_) (xs := bytesL r.vals) tab_51 rfl tab_5 ⟨rfl,by decide,by decide⟩ (srcM tab_51 rfl (hM_ref0 (f := enc8) rfl rfl)) rfl rfl (by (simp; omega)) ⟨rfl,rfl,rfl⟩) rfl ⟨rfl,trivial⟩ rfl rfl (d_op ?_)))))
  refine x_run0 [(69,PV.ref 4 0 none)] (.range 8) rfl rfl rfl rfl (s_assign rfl ⟨rfl,rfl,rfl⟩) (d_end ⟨by kernel_rfl, ?_⟩)
  refine q_block (q_then (w_seq (w_R (qm hnt rfl rfl (qo hnt rfl (s_callX (r2 := pS 1 true enc8 (([u8I r.fn] ++ put2 r.at_) ++ (bytesL r.vals))) (nx1 := 5) (H2 := [(4,oB false 1 enc8 (([u8I r.fn] ++ put2 r.at_) ++ (bytesL r.vals))),(3,oB true 1 enc8 (bytesL r.vals)),(1,oB false 1 enc8 [u8I r.fn]),(0,.obj (cReply r))]) (H3 := [(4,oB false 1 enc8 (([u8I r.fn] ++ put2 r.at_) ++ (bytesL r.vals))),(3,oB true 1 enc8 (bytesL r.vals)),(1,oB false 1 enc8 [u8I r.fn]),(0,.obj (cReply r))]) [] [] rfl rfl rfl (handed_of (by decide) trivial) rfl rfl rfl rfl rfl rfl (w_slices_Clip_byte_byte (([u8I r.fn] ++ put2 r.at_) ++ (bytesL r.vals)) false) rfl (dist_of rfl) rfl rfl rfl rfl ?_))))))
  refine qa hnt rfl rfl (qa hnt rfl rfl (r_set [(2,pS 1 true enc8 (([u8I r.fn] ++ put2 r.at_) ++ (bytesL r.vals))),(3,pI 0)] [(4,oB false 1 enc8 (([u8I r.fn] ++ put2 r.at_) ++ (bytesL r.vals))),(3,oB true 1 enc8 (bytesL r.vals)),(1,oB false 1 enc8 [u8I r.fn]),(0,.obj (cReply r))] 5 ⟨rfl,rfl,trivial⟩ rfl rfl (r_end (q_then (w_le (s := 2) (y := pS 1 false enc8 (([u8I r.fn] ++ put2 r.at_) ++ (bytesL r.vals))) rfl (le_loose) ?_)))))
  refine w_le (s := 2) (y := pS 1 false enc8 (layE r)) rfl (le_of_eq (congrArg (fun z => pS 1 false enc8 z) (show (([u8I r.fn] ++ put2 r.at_) ++ (bytesL r.vals)) = (layE r) by (rw [hlr,lay_fn h0,layT_6 (by omega) hv1]; simp; done)))) (w_le (s := 3) (y := pI (goodR r)) rfl (le_of_eq (congrArg pI (show 0 = (goodR r) by simp [*]))) (w_ret ?_))
  exact fin_plain (ret_tmp rfl (ret_tmp rfl ret_nil)) rfl rfl ⟨rfl,rfl,rfl⟩
 have c10_ := c10
 try simp only [sB] at c10
 refine w_seq (w_R (qo hnt rfl (s_eql rfl rfl ?_)))
 refine qa hnt rfl rfl (r_end (q_then (w_if rfl (fun c11 => ?_) (fun c11 => ?_))))
 ·have c11_ := c11
  try simp only [sB] at c11
  obtain ⟨v1,hv1⟩ := vals_one (l := r.vals) (h6v (by omega))
  refine W_drawn tabOk mixed hnt [[],[],[1],[0,1,2],[],[4],[0,1,2,3,4,5],[0,1,2,3,4,5,6],(.range 8)] (by kernel_rfl) (d_op (x_run0 [(5,PV.ref 1 0 none)] [] rfl rfl rfl rfl (s_move rfl ⟨rfl,rfl,rfl⟩) (d_op (x_run0 [(1,PV.ptr 0 0)] [] rfl rfl rfl rfl (s_fa_ptr tab_53 rfl rfl tab_3 (by decide) rfl ⟨rfl,rfl,rfl⟩) (d_op ?_)))))
  refine xL [(73,PV.ptr 0 4)] [1] [(0,.obj (cReply r))] rfl rfl rfl rfl rfl (s_load_ptr1 tab_3 rfl rfl rfl rfl rfl ⟨rfl,rfl,rfl⟩) ⟨rfl,trivial⟩ rfl (d_op (xT [(72,PV.ref 1 0 none),(74,pI r.sub)] [0,1,2] [(1,oB true 1 enc8 [u8I r.fn])] [(2,oB true 1 enc8 ([u8I r.fn] ++ put2 r.sub)),(1,oB false 1 enc8 [u8I r.fn])] [(0,.obj (cReply r))] rfl rfl rfl rfl rfl (s_callX (r2 := PV.ref 2 0 none) (nx1 := 3) (H2 := [(1,oB false 1 enc8 [u8I r.fn])]) (H3 := [(2,oB true 1 enc8 ([u8I r.fn] ++ put2 r.sub)),(1,oB false 1 enc8 [u8I r.fn])]) [] [] rfl rfl rfl (handed_of (by decide) trivial) rfl rfl rfl rfl rfl rfl (w_octet_Put [u8I r.fn] false r.sub (by (simp; done))) rfl (dist_of rfl) rfl rfl rfl rfl ⟨rfl,rfl,rfl⟩) rfl rfl (d_op (x_run0 [(1,PV.ptr 0 0)] [] rfl rfl rfl rfl (s_fa_ptr tab_53 rfl rfl tab_43 (by decide) rfl ⟨rfl,rfl,rfl⟩) (d_op ?_)))))
  refine xL [(76,PV.ptr 0 6)] [4] [(0,.obj (cReply r))] rfl rfl rfl rfl rfl (s_load_ptr1 tab_43 rfl rfl rfl rfl rfl ⟨rfl,rfl,rfl⟩) ⟨rfl,trivial⟩ rfl (d_op (xT [(77,pS 1 false enc16 r.vals)] [0,1,2,3,4,5] [] [(3,oB true 1 enc8 (bytesL r.vals))] [(2,oB true 1 enc8 ([u8I r.fn] ++ put2 r.sub)),(1,oB false 1 enc8 [u8I r.fn]),(0,.obj (cReply r))] rfl rfl rfl rfl rfl (s_callX (r2 := PV.ref 3 0 none) (nx1 := 4) (H2 := []) (H3 := [(3,oB true 1 enc8 (bytesL r.vals))]) [] [] rfl rfl rfl (handed_of (by decide) trivial) rfl rfl rfl rfl rfl rfl (w_octet_Bytes r.vals false (by omega)) rfl (dist_of rfl) rfl rfl rfl rfl ⟨rfl,rfl,rfl⟩) rfl rfl (d_op (x_run [(75,PV.ref 2 0 none),(78,PV.ref 3 0 none)] [0,1,2,3,4,5,6] [(3,oB true 1 enc8 (bytesL r.vals))] [(2,oB true 1 enc8 ([u8I r.fn] ++ put2 r.sub))] [(4,oB true 1 enc8 (([u8I r.fn] ++ put2 r.sub) ++ (bytesL r.vals))),(3,oB true 1 enc8 (bytesL r.vals))] [(4,oB true 1 enc8 (([u8I r.fn] ++ put2 r.sub) ++ (bytesL r.vals)))] [(4,oB true 1 enc8 (([u8I r.fn] ++ put2 r.sub) ++ (bytesL r.vals))),(3,oB true 1 enc8 (bytesL r.vals)),(1,oB false 1 enc8 [u8I r.fn]),(0,.obj (cReply r))] rfl rfl rfl rfl rfl rfl (s_appR0 (f := enc8) (l := [u8I r.fn] ++ put2 r.sub) (xs := bytesL r.vals) tab_51 rfl tab_5 ⟨rfl,by decide,by decide⟩ (srcM tab_51 rfl (hM_ref0 (f := enc8) rfl rfl)) rfl rfl (by (simp; omega)) ⟨rfl,rfl,rfl⟩) rfl ⟨rfl,trivial⟩ rfl rfl (d_op ?_)))))
  refine x_run0 [(79,PV.ref 4 0 none)] (.range 8) rfl rfl rfl rfl (s_assign rfl ⟨rfl,rfl,rfl⟩) (d_end ⟨by kernel_rfl, ?_⟩)
  refine q_block (q_then (w_seq (w_R (qm hnt rfl rfl (qo hnt rfl (s_callX (r2 := pS 1 true enc8 (([u8I r.fn] ++ put2 r.sub) ++ (bytesL r.vals))) (nx1 := 5) (H2 := [(4,oB false 1 enc8 (([u8I r.fn] ++ put2 r.sub) ++ (bytesL r.vals))),(3,oB true 1 enc8 (bytesL r.vals)),(1,oB false 1 enc8 [u8I r.fn]),(0,.obj (cReply r))]) (H3 := [(4,oB false 1 enc8 (([u8I r.fn] ++ put2 r.sub) ++ (bytesL r.vals))),(3,oB true 1 enc8 (bytesL r.vals)),(1,oB false 1 enc8 [u8I r.fn]),(0,.obj (cReply r))]) [] [] rfl rfl rfl (handed_of (by decide) trivial) rfl rfl rfl rfl rfl rfl (w_slices_Clip_byte_byte (([u8I r.fn] ++ put2 r.sub) ++ (bytesL r.vals)) false) rfl (dist_of rfl) rfl rfl rfl rfl ?_))))))
  refine qa hnt rfl rfl (qa hnt rfl rfl (r_set [(2,pS 1 true enc8 (([u8I r.fn] ++ put2 r.sub) ++ (bytesL r.vals))),(3,pI 0)] [(4,oB false 1 enc8 (([u8I r.fn] ++ put2 r.sub) ++ (bytesL r.vals))),(3,oB true 1 enc8 (bytesL r.vals)),(1,oB false 1 enc8 [u8I r.fn]),(0,.obj (cReply r))] 5 ⟨rfl,rfl,trivial⟩ rfl rfl (r_end (q_then (w_le (s := 2) (y := pS 1 false enc8 (([u8I r.fn] ++ put2 r.sub) ++ (bytesL r.vals))) rfl (le_loose) ?_)))))
  refine w_le (s := 2) (y := pS 1 false enc8 (layE r)) rfl (le_of_eq (congrArg (fun z => pS 1 false enc8 z) (show (([u8I r.fn] ++ put2 r.sub) ++ (bytesL r.vals)) = (layE r) by (rw [hlr,lay_fn h0,layT_8 (by omega) hv1]; simp; done)))) (w_le (s := 3) (y := pI (goodR r)) rfl (le_of_eq (congrArg pI (show 0 = (goodR r) by simp [*]))) (w_ret ?_))
  exact fin_plain (ret_tmp rfl (ret_tmp rfl ret_nil)) rfl rfl ⟨rfl,rfl,rfl⟩
 have c11_ := c11
 try simp only [sB] at c11
 refine join1 (fun (bb3 : Bool) => bb3 = ((decide (r.fn = 15)) || (decide (r.fn = 16)))) (fun (bb3 : Bool) => [(1,PV.ptr 0 0),(5,PV.ref 1 0 none),(28,pI r.fn),(80,pB bb3)]) 2 (fun (bb3 : Bool) => [(0,.obj (cReply r)),(1,oB true 1 enc8 [u8I r.fn])]) ?_ ?_
 ·refine w_seq (w_R (qo hnt rfl (s_eql rfl rfl ?_)))
  refine qa hnt rfl rfl (r_end (q_then (w_if rfl (fun c12 => ?_) (fun c12 => ?_))))
  ·have c12_ := c12
   try simp only [sB] at c12
   refine w_skip (q_then (⟨(decide (r.fn = 15)), ?_,⟨[(0,0),(1,1)],by rw [hk]; decide,⟨⟨_,rfl,rfl,rfl⟩,⟨_,rfl,rfl,rfl⟩,⟨_,rfl,rfl,rfl⟩,⟨_,rfl,rfl,rfl⟩,trivial⟩,⟨⟨_,_,rfl,rfl,rfl,rfl⟩,⟨_,_,rfl,rfl,rfl,rfl⟩,trivial⟩,by rw [hk]; decide⟩⟩))
   simp only [c12_,Bool.true_or,Bool.false_or]
  have c12_ := c12
  try simp only [sB] at c12
  refine w_R (qo hnt rfl (s_eql rfl rfl ?_))
  refine qa hnt rfl rfl (r_end (q_then (⟨(decide (r.fn = 16)), ?_,⟨[(0,0),(1,1)],by rw [hk]; decide,⟨⟨_,rfl,rfl,rfl⟩,⟨_,rfl,rfl,rfl⟩,⟨_,rfl,rfl,rfl⟩,⟨_,rfl,rfl,rfl⟩,trivial⟩,⟨⟨_,_,rfl,rfl,rfl,rfl⟩,⟨_,_,rfl,rfl,rfl,rfl⟩,trivial⟩,by rw [hk]; decide⟩⟩)))
  simp only [c12_,Bool.true_or,Bool.false_or]
 intro bb3 hbb3
 subst hbb3
 refine w_if rfl (fun c13 => ?_) (fun c13 => ?_)
 ·have c13_ := c13
  try simp only [sB,Bool.or_eq_true,Bool.or_eq_false_iff] at c13
  refine W_drawn tabOk mixed hnt [[],[],[1],[0,1,2],[],[4],[0,1,2,3,4,5],[0,1,2,3,4,5,6]] (by kernel_rfl) (d_op (x_run0 [(5,PV.ref 1 0 none)] [] rfl rfl rfl rfl (s_move rfl ⟨rfl,rfl,rfl⟩) (d_op (x_run0 [(1,PV.ptr 0 0)] [] rfl rfl rfl rfl (s_fa_ptr tab_53 rfl rfl tab_3 (by decide) rfl ⟨rfl,rfl,rfl⟩) (d_op ?_)))))
  refine xL [(84,PV.ptr 0 2)] [1] [(0,.obj (cReply r))] rfl rfl rfl rfl rfl (s_load_ptr1 tab_3 rfl rfl rfl rfl rfl ⟨rfl,rfl,rfl⟩) ⟨rfl,trivial⟩ rfl (d_op (xT [(83,PV.ref 1 0 none),(85,pI r.at_)] [0,1,2] [(1,oB true 1 enc8 [u8I r.fn])] [(2,oB true 1 enc8 ([u8I r.fn] ++ put2 r.at_)),(1,oB false 1 enc8 [u8I r.fn])] [(0,.obj (cReply r))] rfl rfl rfl rfl rfl (s_callX (r2 := PV.ref 2 0 none) (nx1 := 3) (H2 := [(1,oB false 1 enc8 [u8I r.fn])]) (H3 := [(2,oB true 1 enc8 ([u8I r.fn] ++ put2 r.at_)),(1,oB false 1 enc8 [u8I r.fn])]) [] [] rfl rfl rfl (handed_of (by decide) trivial) rfl rfl rfl rfl rfl rfl (w_octet_Put [u8I r.fn] false r.at_ (by (simp; done))) rfl (dist_of rfl) rfl rfl rfl rfl ⟨rfl,rfl,rfl⟩) rfl rfl (d_op (x_run0 [(1,PV.ptr 0 0)] [] rfl rfl rfl rfl (s_fa_ptr tab_53 rfl rfl tab_3 (by decide) rfl ⟨rfl,rfl,rfl⟩) (d_op ?_)))))
  refine xL [(87,PV.ptr 0 3)] [4] [(0,.obj (cReply r))] rfl rfl rfl rfl rfl (s_load_ptr1 tab_3 rfl rfl rfl rfl rfl ⟨rfl,rfl,rfl⟩) ⟨rfl,trivial⟩ rfl (d_op (xT [(86,PV.ref 2 0 none),(88,pI r.count)] [0,1,2,3,4,5] [(2,oB true 1 enc8 ([u8I r.fn] ++ put2 r.at_))] [(3,oB true 1 enc8 (([u8I r.fn] ++ put2 r.at_) ++ put2 r.count)),(2,oB false 1 enc8 ([u8I r.fn] ++ put2 r.at_))] [(1,oB false 1 enc8 [u8I r.fn]),(0,.obj (cReply r))] rfl rfl rfl rfl rfl (s_callX (r2 := PV.ref 3 0 none) (nx1 := 4) (H2 := [(2,oB false 1 enc8 ([u8I r.fn] ++ put2 r.at_))]) (H3 := [(3,oB true 1 enc8 (([u8I r.fn] ++ put2 r.at_) ++ put2 r.count)),(2,oB false 1 enc8 ([u8I r.fn] ++ put2 r.at_))]) [] [] rfl rfl rfl (handed_of (by decide) trivial) rfl rfl rfl rfl rfl rfl (w_octet_Put ([u8I r.fn] ++ put2 r.at_) false r.count (by (simp; done))) rfl (dist_of rfl) rfl rfl rfl rfl ⟨rfl,rfl,rfl⟩) rfl rfl (d_op (x_run0 [(89,PV.ref 3 0 none)] [0,1,2,3,4,5,6] rfl rfl rfl rfl (s_assign rfl ⟨rfl,rfl,rfl⟩) (d_end ⟨by kernel_rfl, ?_⟩)))))
  refine q_block (q_then (w_seq (w_R (qm hnt rfl rfl (qo hnt rfl (s_callX (r2 := pS 1 true enc8 (([u8I r.fn] ++ put2 r.at_) ++ put2 r.count)) (nx1 := 4) (H2 := [(3,oB false 1 enc8 (([u8I r.fn] ++ put2 r.at_) ++ put2 r.count)),(2,oB false 1 enc8 ([u8I r.fn] ++ put2 r.at_)),(1,oB false 1 enc8 [u8I r.fn]),(0,.obj (cReply r))]) (H3 := [(3,oB false 1 enc8 (([u8I r.fn] ++ put2 r.at_) ++ put2 r.count)),(2,oB false 1 enc8 ([u8I r.fn] ++ put2 r.at_)),(1,oB false 1 enc8 [u8I r.fn]),(0,.obj (cReply r))]) [] [] rfl rfl rfl (handed_of (by decide) trivial) rfl rfl rfl rfl rfl rfl (w_slices_Clip_byte_byte (([u8I r.fn] ++ put2 r.at_) ++ put2 r.count) false) rfl (dist_of rfl) rfl rfl rfl rfl ?_))))))
  refine qa hnt rfl rfl (qa hnt rfl rfl (r_set [(2,pS 1 true enc8 (([u8I r.fn] ++ put2 r.at_) ++ put2 r.count)),(3,pI 0)] [(3,oB false 1 enc8 (([u8I r.fn] ++ put2 r.at_) ++ put2 r.count)),(2,oB false 1 enc8 ([u8I r.fn] ++ put2 r.at_)),(1,oB false 1 enc8 [u8I r.fn]),(0,.obj (cReply r))] 4 ⟨rfl,rfl,trivial⟩ rfl rfl (r_end (q_then (w_le (s := 2) (y := pS 1 false enc8 (([u8I r.fn] ++ put2 r.at_) ++ put2 r.count)) rfl (le_loose) ?_)))))
  refine w_le (s := 2) (y := pS 1 false enc8 (layE r)) rfl (le_of_eq (congrArg (fun z => pS 1 false enc8 z) (show (([u8I r.fn] ++ put2 r.at_) ++ put2 r.count) = (layE r) by (rw [hlr,lay_fn h0,layT_15 (by omega)]; simp; done)))) (w_le (s := 3) (y := pI (goodR r)) rfl (le_of_eq (congrArg pI (show 0 = (goodR r) by simp [*]))) (w_ret ?_))
  exact fin_plain (ret_tmp rfl (ret_tmp rfl ret_nil)) rfl rfl ⟨rfl,rfl,rfl⟩
 have c13_ := c13
 try simp only [sB,Bool.or_eq_true,Bool.or_eq_false_iff] at c13
 refine w_seq (w_R (qo hnt rfl (s_eql rfl rfl ?_)))
 refine qa hnt rfl rfl (r_end (q_then (w_if rfl (fun c14 => ?_) (fun c14 => ?_))))
 ·have c14_ := c14
  try simp only [sB] at c14
  refine W_drawn tabOk mixed hnt [[],[],[1],[0,1,2],[],[4],[4,5],[0,1,2,3,4,5,6],[],[8],[8,9],(.range 11),(.range 12)] (by kernel_rfl) (d_op (x_run0 [(5,PV.ref 1 0 none)] [] rfl rfl rfl rfl (s_move rfl ⟨rfl,rfl,rfl⟩) (d_op (x_run0 [(1,PV.ptr 0 0)] [] rfl rfl rfl rfl (s_fa_ptr tab_53 rfl rfl tab_3 (by decide) rfl ⟨rfl,rfl,rfl⟩) (d_op ?_)))))
  refine xL [(93,PV.ptr 0 2)] [1] [(0,.obj (cReply r))] rfl rfl rfl rfl rfl (s_load_ptr1 tab_3 rfl rfl rfl rfl rfl ⟨rfl,rfl,rfl⟩) ⟨rfl,trivial⟩ rfl (d_op (xT [(92,PV.ref 1 0 none),(94,pI r.at_)] [0,1,2] [(1,oB true 1 enc8 [u8I r.fn])] [(2,oB true 1 enc8 ([u8I r.fn] ++ put2 r.at_)),(1,oB false 1 enc8 [u8I r.fn])] [(0,.obj (cReply r))] rfl rfl rfl rfl rfl (s_callX (r2 := PV.ref 2 0 none) (nx1 := 3) (H2 := [(1,oB false 1 enc8 [u8I r.fn])]) (H3 := [(2,oB true 1 enc8 ([u8I r.fn] ++ put2 r.at_)),(1,oB false 1 enc8 [u8I r.fn])]) [] [] rfl rfl rfl (handed_of (by decide) trivial) rfl rfl rfl rfl rfl rfl (w_octet_Put [u8I r.fn] false r.at_ (by (simp; done))) rfl (dist_of rfl) rfl rfl rfl rfl ⟨rfl,rfl,rfl⟩) rfl rfl (d_op (x_run0 [(1,PV.ptr 0 0)] [] rfl rfl rfl rfl (s_fa_ptr tab_53 rfl rfl tab_44 (by decide) rfl ⟨rfl,rfl,rfl⟩) (d_op ?_)))))
  refine xL [(96,PV.ptr 0 7)] [4] [(0,.obj (cReply r))] rfl rfl rfl rfl rfl (s_load_ptr1 tab_44 rfl rfl rfl rfl rfl ⟨rfl,rfl,rfl⟩) ⟨rfl,trivial⟩ rfl (d_op (x_run0 [(97,p16 r.and_)] [4,5] rfl rfl rfl rfl (s_cvN (a := UInt16.toNat r.and_) tab_44 tab_3 rfl rfl rfl (by omega) (by have := lt16 r.and_; omega) ⟨rfl,rfl,rfl⟩) (d_op (xT [(95,PV.ref 2 0 none),(98,pN (UInt16.toNat r.and_))] [0,1,2,3,4,5,6] [(2,oB true 1 enc8 ([u8I r.fn] ++ put2 r.at_))] [(3,oB true 1 enc8 (([u8I r.fn] ++ put2 r.at_) ++ put2 ((UInt16.toNat r.and_ : Nat) : Int))),(2,oB false 1 enc8 ([u8I r.fn] ++ put2 r.at_))] [(1,oB false 1 enc8 [u8I r.fn]),(0,.obj (cReply r))] rfl rfl rfl rfl rfl (s_callX (r2 := PV.ref 3 0 none) (nx1 := 4) (H2 := [(2,oB false 1 enc8 ([u8I r.fn] ++ put2 r.at_))]) (H3 := [(3,oB true 1 enc8 (([u8I r.fn] ++ put2 r.at_) ++ put2 ((UInt16.toNat r.and_ : Nat) : Int))),(2,oB false 1 enc8 ([u8I r.fn] ++ put2 r.at_))]) [] [] rfl rfl rfl (handed_of (by decide) trivial) rfl rfl rfl rfl rfl rfl (w_octet_Put ([u8I r.fn] ++ put2 r.at_) false ((UInt16.toNat r.and_ : Nat) : Int) (by (simp; done))) rfl (dist_of rfl) rfl rfl rfl rfl ⟨rfl,rfl,rfl⟩) rfl rfl (d_op ?_)))))
  refine x_run0 [(1,PV.ptr 0 0)] [] rfl rfl rfl rfl (s_fa_ptr tab_53 rfl rfl tab_44 (by decide) rfl ⟨rfl,rfl,rfl⟩) (d_op (xL [(100,PV.ptr 0 8)] [8] [(0,.obj (cReply r))] rfl rfl rfl rfl rfl (s_load_ptr1 tab_44 rfl rfl rfl rfl rfl ⟨rfl,rfl,rfl⟩) ⟨rfl,trivial⟩ rfl (d_op (x_run0 [(101,p16 r.or_)] [8,9] rfl rfl rfl rfl (s_cvN (a := UInt16.toNat r.or_) tab_44 tab_3 rfl rfl rfl (by omega) (by have := lt16 r.or_; omega) ⟨rfl,rfl,rfl⟩) (d_op ?_)))))
  refine xT [(99,PV.ref 3 0 none),(102,pN (UInt16.toNat r.or_))] (.range 11) [(3,oB true 1 enc8 (([u8I r.fn] ++ put2 r.at_) ++ put2 ((UInt16.toNat r.and_ : Nat) : Int)))] [(4,oB true 1 enc8 ((([u8I r.fn] ++ put2 r.at_) ++ put2 ((UInt16.toNat r.and_ : Nat) : Int)) ++ put2 ((UInt16.toNat r.or_ : Nat) : Int))),(3,oB false 1 enc8 (([u8I r.fn] ++ put2 r.at_) ++ put2 ((UInt16.toNat r.and_ : Nat) : Int)))] [(2,oB false 1 enc8 ([u8I r.fn] ++ put2 r.at_)),(1,oB false 1 enc8 [u8I r.fn]),(0,.obj (cReply r))] rfl rfl rfl rfl rfl (s_callX (r2 := PV.ref 4 0 none) (nx1 := 5) (H2 := [(3,oB false 1 enc8 (([u8I r.fn] ++ put2 r.at_) ++ put2 ((UInt16.toNat r.and_ : Nat) : Int)))]) (H3 := [(4,oB true 1 enc8 ((([u8I r.fn] ++ put2 r.at_) ++ put2 ((UInt16.toNat r.and_ : Nat) : Int)) ++ put2 ((UInt16.toNat r.or_ : Nat) : Int))),(3,oB false 1 enc8 (([u8I r.fn] ++ put2 r.at_) ++ put2 ((UInt16.toNat r.and_ : Nat) : Int)))]) [] [] rfl rfl rfl (handed_of (by decide) trivial) rfl rfl rfl rfl rfl rfl (w_octet_Put (([u8I r.fn] ++ put2 r.at_) ++ put2 ((UInt16.toNat r.and_ : Nat) : Int)) false ((UInt16.toNat r.or_ : Nat) : Int) (by (simp; done))) rfl (dist_of rfl) rfl rfl rfl rfl ⟨rfl,rfl,rfl⟩) rfl rfl (d_op (x_run0 [(103,PV.ref 4 0 none)] (.range 12) rfl rfl rfl rfl (s_assign rfl ⟨rfl,rfl,rfl⟩) (d_end ⟨by kernel_rfl, ?_⟩)))
  refine q_block (q_then (w_seq (w_R (qm hnt rfl rfl (qo hnt rfl (s_callX (r2 := pS 1 true enc8 ((([u8I r.fn] ++ put2 r.at_) ++ put2 ((UInt16.toNat r.and_ : Nat) : Int)) ++ put2 ((UInt16.toNat r.or_ : Nat) : Int))) (nx1 := 5) (H2 := [(4,oB false 1 enc8 ((([u8I r.fn] ++ put2 r.at_) ++ put2 ((UInt16.toNat r.and_ : Nat) : Int)) ++ put2 ((UInt16.toNat r.or_ : Nat) : Int))),(3,oB false 1 enc8 (([u8I r.fn] ++ put2 r.at_) ++ put2 ((UInt16.toNat r.and_ : Nat) : Int))),(2,oB false 1 enc8 ([u8I r.fn] ++ put2 r.at_)),(1,oB false 1 enc8 [u8I r.fn]),(0,.obj (cReply r))]) (H3 := [(4,oB false 1 enc8 ((([u8I r.fn] ++ put2 r.at_) ++ put2 ((UInt16.toNat r.and_ : Nat) : Int)) ++ put2 ((UInt16.toNat r.or_ : Nat) : Int))),(3,oB false 1 enc8 (([u8I r.fn] ++ put2 r.at_) ++ put2 ((UInt16.toNat r.and_ : Nat) : Int))),(2,oB false 1 enc8 ([u8I r.fn] ++ put2 r.at_)),(1,oB false 1 enc8 [u8I r.fn]),(0,.obj (cReply r))]) [] [] rfl rfl rfl (handed_of (by decide) trivial) rfl rfl rfl rfl rfl rfl (w_slices_Clip_byte_byte ((([u8I r.fn] ++ put2 r.at_) ++ put2 ((UInt16.toNat r.and_ : Nat) : Int)) ++ put2 ((UInt16.toNat r.or_ : Nat) : Int)) false) rfl (dist_of rfl) rfl rfl rfl rfl ?_))))))
  refine qa hnt rfl rfl (qa hnt rfl rfl (r_set [(2,pS 1 true enc8 ((([u8I r.fn] ++ put2 r.at_) ++ put2 ((UInt16.toNat r.and_ : Nat) : Int)) ++ put2 ((UInt16.toNat r.or_ : Nat) : Int))),(3,pI 0)] [(4,oB false 1 enc8 ((([u8I r.fn] ++ put2 r.at_) ++ put2 ((UInt16.toNat r.and_ : Nat) : Int)) ++ put2 ((UInt16.toNat r.or_ : Nat) : Int))),(3,oB false 1 enc8 (([u8I r.fn] ++ put2 r.at_) ++ put2 ((UInt16.toNat r.and_ : Nat) : Int))),(2,oB false 1 enc8 ([u8I r.fn] ++ put2 r.at_)),(1,oB false 1 enc8 [u8I r.fn]),(0,.obj (cReply r))] 5 ⟨rfl,rfl,trivial⟩ rfl rfl (r_end (q_then (w_le (s := 2) (y := pS 1 false enc8 ((([u8I r.fn] ++ put2 r.at_) ++ put2 ((UInt16.toNat r.and_ : Nat) : Int)) ++ put2 ((UInt16.toNat r.or_ : Nat) : Int))) rfl (le_loose) ?_)))))
  refine w_le (s := 2) (y := pS 1 false enc8 (layE r)) rfl (le_of_eq (congrArg (fun z => pS 1 false enc8 z) (show ((([u8I r.fn] ++ put2 r.at_) ++ put2 ((UInt16.toNat r.and_ : Nat) : Int)) ++ put2 ((UInt16.toNat r.or_ : Nat) : Int)) = (layE r) by (rw [hlr,lay_fn h0,layT_22 (by omega)]; simp; done)))) (w_le (s := 3) (y := pI (goodR r)) rfl (le_of_eq (congrArg pI (show 0 = (goodR r) by simp [*]))) (w_ret ?_))
  exact fin_plain (ret_tmp rfl (ret_tmp rfl ret_nil)) rfl rfl ⟨rfl,rfl,rfl⟩
 have c14_ := c14
 try simp only [sB] at c14
 refine w_seq (w_R (qo hnt rfl (s_eql rfl rfl ?_)))
 refine qa hnt rfl rfl (r_end (q_then (w_if rfl (fun c15 => ?_) (fun c15 => ?_))))
 ·have c15_ := c15
  try simp only [sB] at c15
  refine w_R (qo hnt rfl (s_fa_ptr tab_53 rfl rfl tab_3 (by decide) rfl ?_))
  refine qo hnt rfl (s_load_ptr1 tab_3 rfl rfl rfl rfl rfl ?_)
  refine qo hnt rfl (s_fa_ptr tab_53 rfl rfl tab_51 (by decide) rfl ?_)
  refine qo hnt rfl (s_load_ptr1 tab_51 rfl rfl rfl rfl rfl ?_)
  refine qo hnt rfl (s_callX (r2 := PV.ref 2 0 none) (nx1 := 3) (H2 := [(0,.obj (cReply r)),(1,oB true 1 enc8 [u8I r.fn])]) (H3 := [(2,oB true 1 enc8 (u8I r.fn :: rowX r.data)),(0,.obj (cReply r)),(1,oB true 1 enc8 [u8I r.fn])]) [] [] rfl rfl rfl (handed_of (by decide) trivial) rfl rfl rfl rfl rfl rfl (w_reply_counted r.fn r.data false (by omega)) rfl (dist_of rfl) rfl rfl rfl rfl ?_)
  refine qa hnt rfl rfl (r_set [(5,PV.ref 2 0 none)] [(2,oB true 1 enc8 (u8I r.fn :: rowX r.data)),(0,.obj (cReply r)),(1,oB true 1 enc8 [u8I r.fn])] 3 ⟨rfl,trivial⟩ rfl rfl (r_end (q_block (q_then (w_seq ?_)))))
  refine w_R (qm hnt rfl rfl (qo hnt rfl (s_callX (r2 := pS 1 true enc8 (u8I r.fn :: rowX r.data)) (nx1 := 3) (H2 := [(2,oB false 1 enc8 (u8I r.fn :: rowX r.data)),(0,.obj (cReply r)),(1,oB true 1 enc8 [u8I r.fn])]) (H3 := [(2,oB false 1 enc8 (u8I r.fn :: rowX r.data)),(0,.obj (cReply r)),(1,oB true 1 enc8 [u8I r.fn])]) [] [] rfl rfl rfl (handed_of (by decide) trivial) rfl rfl rfl rfl rfl rfl (w_slices_Clip_byte_byte (u8I r.fn :: rowX r.data) false) rfl (dist_of rfl) rfl rfl rfl rfl ?_)))
  refine qa hnt rfl rfl (qa hnt rfl rfl (r_set [(2,pS 1 true enc8 (u8I r.fn :: rowX r.data)),(3,pI 0)] [(2,oB false 1 enc8 (u8I r.fn :: rowX r.data)),(0,.obj (cReply r)),(1,oB true 1 enc8 [u8I r.fn])] 3 ⟨rfl,rfl,trivial⟩ rfl rfl (r_end (q_then (w_le (s := 2) (y := pS 1 false enc8 (u8I r.fn :: rowX r.data)) rfl (le_loose) ?_)))))
  refine w_le (s := 2) (y := pS 1 false enc8 (layE r)) rfl (le_of_eq (congrArg (fun z => pS 1 false enc8 z) (show (u8I r.fn :: rowX r.data) = (layE r) by (rw [hlr,lay_fn h0,layT_17 (by omega)]; done)))) (w_le (s := 3) (y := pI (goodR r)) rfl (le_of_eq (congrArg pI (show 0 = (goodR r) by simp [*]))) (w_ret ?_))
  exact fin_plain (ret_tmp rfl (ret_tmp rfl ret_nil)) rfl rfl ⟨rfl,rfl,rfl⟩
 have c15_ := c15
 try simp only [sB] at c15
 refine w_skip (q_block (q_then (w_seq (w_R (qm hnt rfl rfl ?_)))))
 refine qo hnt rfl (s_callX (r2 := pS 1 true enc8 [u8I r.fn]) (nx1 := 2) (H2 := [(1,oB false 1 enc8 [u8I r.fn]),(0,.obj (cReply r))]) (H3 := [(1,oB false 1 enc8 [u8I r.fn]),(0,.obj (cReply r))]) [] [] rfl rfl rfl (handed_of (by decide) trivial) rfl rfl rfl rfl rfl rfl (w_slices_Clip_byte_byte [u8I r.fn] false) rfl (dist_of rfl) rfl rfl rfl rfl ?_)
 refine qa hnt rfl rfl (qa hnt rfl rfl (r_set [(2,pS 1 true enc8 [u8I r.fn]),(3,pI 0)] [(1,oB false 1 enc8 [u8I r.fn]),(0,.obj (cReply r))] 2 ⟨rfl,rfl,trivial⟩ rfl rfl (r_end (q_then (w_le (s := 2) (y := pS 1 false enc8 [u8I r.fn]) rfl (le_loose) ?_)))))
 refine w_le (s := 2) (y := pS 1 false enc8 (layE r)) rfl (le_of_eq (congrArg (fun z => pS 1 false enc8 z) (show ([u8I r.fn] : List UInt8) = (layE r) by ((exfalso; omega))))) (w_le (s := 3) (y := pI (goodR r)) rfl (le_of_eq (congrArg pI (show 0 = (goodR r) by ((exfalso; omega))))) (w_ret ?_))
 exact fin_plain (ret_tmp rfl (ret_tmp rfl ret_nil)) rfl rfl ⟨rfl,rfl,rfl⟩
theorem w_burgageref3_lay (r : TReply) (hr : r.bits.length ≤ 140737488351232 ∧ r.vals.length ≤ 140737488351232 ∧ r.data.length ≤ 140737488351232) (hg0 : goodR r = 0) :
    T Try.prog 56 [PV.f (eReply r)] 0 [] (Ret (PV.ref 0 0 none) 1 [(0,oB false 1 enc8 (layR r))]) := by
 refine t_fun tabOk (n := 70) (rs := [.tmp 2]) Try.func56 rfl rfl rfl rfl (Nat.le_of_ble_eq_true rfl) ?_
 intro c hnt hk
 have hlr : layR r = layR r := rfl
 have hgf := good_fn hg0
 refine w_seq (w_R (qo hnt rfl (s_box rfl rfl ?_)))
 refine qa hnt rfl rfl (r_set [(1,PV.ptr 0 0)] [(0,.obj (cReply r))] 1 ⟨rfl,trivial⟩ rfl rfl (r_end (q_then (w_seq (w_R ?_)))))
 refine qo hnt rfl (s_fa_ptr tab_53 rfl rfl tab_3 (by decide) rfl ?_)
 refine qo hnt rfl (s_load_ptr1 tab_3 rfl rfl rfl rfl rfl ?_)
 refine qo hnt rfl (s_cv8 tab_3 tab_5 rfl rfl rfl ?_)
 refine qo hnt rfl (s_mkM (f := enc8) [u8I r.fn] tab_51 rfl tab_5 ⟨rfl,by decide⟩ (by decide) rfl rfl rfl rfl ?_)
 refine qa hnt rfl rfl (r_set [(1,PV.ptr 0 0),(3,PV.ref 1 0 none)] [(1,oB true 1 enc8 [u8I r.fn]),(0,.obj (cReply r))] 2 ⟨rfl,rfl,trivial⟩ rfl rfl (r_end (q_then (w_seq (w_seq ?_)))))
 refine w_R (qo hnt rfl (s_fa_ptr tab_53 rfl rfl tab_3 (by decide) rfl ?_))
 refine qo hnt rfl (s_load_ptr1 tab_3 rfl rfl rfl rfl rfl ?_)
 refine qo hnt rfl (s_neq rfl rfl ?_)
 refine r_end (q_then (w_if rfl (fun c1 => ?_) (fun c1 => ?_)))
 ·have c1_ := c1
  try simp only [sB] at c1
  refine w_seq (w_R (qo hnt rfl (s_fa_ptr tab_53 rfl rfl tab_3 (by decide) rfl ?_)))
  refine qo hnt rfl (s_load_ptr1 tab_3 rfl rfl rfl rfl rfl ?_)
  obtain ⟨fnn,hfn⟩ : ∃ n : Nat,r.fn = (n : Int) := ⟨r.fn.toNat,by omega⟩
  have hfo := or_128 hgf
  have hfo2 : fnn ||| 128 = fnn + 128 := by rw [hfn] at hfo; simpa using hfo
  refine r_eq (s := 12) (y := pN fnn) rfl (congrArg pI (show r.fn = ((fnn : Nat) : Int) by exact hfn)) (qo hnt rfl (s_orN (a := fnn) (b := 128) rfl rfl (by omega) (by omega) (by omega) ?_))
  refine qo hnt rfl (s_cv8N (a := fnn ||| 128) tab_3 tab_5 rfl rfl rfl (by omega) ?_)
  refine qo hnt rfl (s_fa_ptr tab_53 rfl rfl tab_3 (by decide) rfl ?_)
  refine qo hnt rfl (s_load_ptr1 tab_3 rfl rfl rfl rfl rfl ?_)
  refine qo hnt rfl (s_cv8 tab_3 tab_5 rfl rfl rfl ?_)
  refine qo hnt rfl (s_mkM (f := enc8) [UInt8.ofNat (fnn ||| 128),u8I r.code] tab_51 rfl tab_5 ⟨rfl,by decide⟩ (by decide) rfl rfl rfl rfl ?_)
  refine qa hnt rfl rfl (r_set [(2,PV.ref 2 0 none)] [(2,oB true 1 enc8 [UInt8.ofNat (fnn ||| 128),u8I r.code]),(1,oB true 1 enc8 [u8I r.fn]),(0,.obj (cReply r))] 3 ⟨rfl,trivial⟩ rfl rfl (r_end (q_then (w_low (n := 2) rfl (w_H (H' := [(2,oB false 1 enc8 (layR r)),(1,oB true 1 enc8 [u8I r.fn]),(0,.obj (cReply r))]) (congrArg (fun z => ([(2,oB false 1 enc8 z),(1,oB true 1 enc8 [u8I r.fn]),(0,.obj (cReply r))] : Heap)) (show [UInt8.ofNat (fnn ||| 128),u8I r.code] = layR r by (rw [lay_code (by first|assumption|simpa using c2_),hfn]; rfl))) ?_)))))
  refine w_ret (q_then_ret ?_)
  exact fin_names (nx1 := 1) (H1 := [(0,oB false 1 enc8 (layR r))]) [(0,2)] (ret_tmp rfl ret_nil) rfl (by decide) ⟨⟨_,_,rfl,rfl,rfl,rfl⟩,trivial⟩ (by decide) rfl ⟨rfl,rfl,rfl⟩
 have c1_ := c1
 try simp only [sB] at c1
 refine w_skip (q_then (w_seq (w_seq ?_)))
 have h0 : r.code = 0 := by exact c1
 have hsh : ShapeA r := by rcases goodR_zero hg0 with ⟨h,_⟩|⟨_,_,h⟩; exact absurd h0 h; exact h
 have hcf : hasF r.fn = true := by rcases goodR_zero hg0 with ⟨h,_⟩|⟨_,h,_⟩; exact absurd h0 h; exact h
 have hcf2 := hasF_of hcf
 have h5b := hsh.ob
 have h6v := hsh.ov
 have hlb := hsh.lb
 have hlv := hsh.lv
 have hld := hsh.ld
 refine w_R (qo hnt rfl (s_fa_ptr tab_53 rfl rfl tab_3 (by decide) rfl ?_))
 refine qo hnt rfl (s_load_ptr1 tab_3 rfl rfl rfl rfl rfl ?_)
 refine r_end (q_then (w_block (join1 (fun (bb1 : Bool) => bb1 = ((decide (r.fn = 1)) || (decide (r.fn = 2)))) (fun (bb1 : Bool) => [(1,PV.ptr 0 0),(3,PV.ref 1 0 none),(20,pI r.fn),(21,pB bb1)]) 2 (fun (bb1 : Bool) => [(0,.obj (cReply r)),(1,oB true 1 enc8 [u8I r.fn])]) ?_ ?_)))
 ·refine w_seq (w_R (qo hnt rfl (s_eql rfl rfl ?_)))
  refine qa hnt rfl rfl (r_end (q_then (w_if rfl (fun c2 => ?_) (fun c2 => ?_))))
  ·have c2_ := c2
   try simp only [sB] at c2
   refine w_skip (q_then (⟨(decide (r.fn = 1)), ?_,⟨[(0,0),(1,1)],by rw [hk]; decide,⟨⟨_,rfl,rfl,rfl⟩,⟨_,rfl,rfl,rfl⟩,⟨_,rfl,rfl,rfl⟩,⟨_,rfl,rfl,rfl⟩,trivial⟩,⟨⟨_,_,rfl,rfl,rfl,rfl⟩,⟨_,_,rfl,rfl,rfl,rfl⟩,trivial⟩,by rw [hk]; decide⟩⟩))
   simp only [c2_,Bool.true_or,Bool.false_or]
  have c2_ := c2
  try simp only [sB] at c2
  refine w_R (qo hnt rfl (s_eql rfl rfl ?_))
  refine qa hnt rfl rfl (r_end (q_then (⟨(decide (r.fn = 2)), ?_,⟨[(0,0),(1,1)],by rw [hk]; decide,⟨⟨_,rfl,rfl,rfl⟩,⟨_,rfl,rfl,rfl⟩,⟨_,rfl,rfl,rfl⟩,⟨_,rfl,rfl,rfl⟩,trivial⟩,⟨⟨_,_,rfl,rfl,rfl,rfl⟩,⟨_,_,rfl,rfl,rfl,rfl⟩,trivial⟩,by rw [hk]; decide⟩⟩)))
  simp only [c2_,Bool.true_or,Bool.false_or]
 intro bb1 hbb1
 subst hbb1
 refine w_if rfl (fun c3 => ?_) (fun c3 => ?_)
 ·have c3_ := c3
  try simp only [sB,Bool.or_eq_true,Bool.or_eq_false_iff] at c3
  refine w_seq (w_R (qm hnt rfl rfl (qo hnt rfl (s_fa_ptr tab_53 rfl rfl tab_42 (by decide) rfl ?_))))
  refine qo hnt rfl (s_load_ptr1 tab_42 rfl rfl rfl rfl rfl ?_)
  refine qo hnt rfl (s_callX (r2 := PV.ref 2 0 none) (nx1 := 3) (H2 := [(0,.obj (cReply r)),(1,oB true 1 enc8 [u8I r.fn])]) (H3 := [(2,oB true 1 enc8 (packL r.bits)),(0,.obj (cReply r)),(1,oB true 1 enc8 [u8I r.fn])]) [] [] rfl rfl rfl (handed_of (by decide) trivial) rfl rfl rfl rfl rfl rfl (w_burgageref1_Pack r.bits false (by omega)) rfl (dist_of rfl) rfl rfl rfl rfl ?_)
  refine qo hnt rfl (s_callX (r2 := PV.ref 3 0 none) (nx1 := 4) (H2 := [(2,oB false 1 enc8 (packL r.bits)),(0,.obj (cReply r)),(1,oB true 1 enc8 [u8I r.fn])]) (H3 := [(3,oB true 1 enc8 ([u8I r.fn] ++ rowX (packL r.bits))),(2,oB false 1 enc8 (packL r.bits)),(0,.obj (cReply r))]) [1] [oB true 1 enc8 [u8I r.fn]] rfl rfl rfl (handed_of (by decide) ⟨rfl,trivial⟩) rfl rfl rfl rfl rfl rfl (w_burgageref3_row [u8I r.fn] true (packL r.bits) false (by (simp; done)) (by (simp; omega))) rfl (dist_of rfl) rfl rfl rfl rfl ?_)
  refine qa hnt rfl rfl (r_set [(2,PV.ref 3 0 none)] [(3,oB true 1 enc8 ([u8I r.fn] ++ rowX (packL r.bits))),(2,oB false 1 enc8 (packL r.bits)),(0,.obj (cReply r))] 4 ⟨rfl,trivial⟩ rfl rfl (r_end (q_then (w_low (n := 3) rfl (w_H (H' := [(3,oB false 1 enc8 (layR r)),(2,oB false 1 enc8 (packL r.bits)),(0,.obj (cReply r))]) (congrArg (fun z => ([(3,oB false 1 enc8 z),(2,oB false 1 enc8 (packL r.bits)),(0,.obj (cReply r))] : Heap)) (show [u8I r.fn] ++ rowX (packL r.bits) = layR r by (rw [lay_fn h0,layT_1 (by omega)]; simp; done))) ?_)))))
  refine w_ret (q_block_ret (q_then_ret ?_))
  exact fin_names (nx1 := 1) (H1 := [(0,oB false 1 enc8 (layR r))]) [(0,3)] (ret_tmp rfl ret_nil) rfl (by decide) ⟨⟨_,_,rfl,rfl,rfl,rfl⟩,trivial⟩ (by decide) rfl ⟨rfl,rfl,rfl⟩
 have c3_ := c3
 try simp only [sB,Bool.or_eq_true,Bool.or_eq_false_iff] at c3
 refine join1 (fun (bb2 : Bool) => bb2 = ((decide (r.fn = 3)) || ((decide (r.fn = 4)) || (decide (r.fn = 23))))) (fun (bb2 : Bool) => [(1,PV.ptr 0 0),(3,PV.ref 1 0 none),(20,pI r.fn),(29,pB bb2)]) 2 (fun (bb2 : Bool) => [(0,.obj (cReply r)),(1,oB true 1 enc8 [u8I r.fn])]) ?_ ?_
 ·refine w_seq (w_R (qo hnt rfl (s_eql rfl rfl ?_)))
  refine qa hnt rfl rfl (r_end (q_then (w_if rfl (fun c4 => ?_) (fun c4 => ?_))))
  ·have c4_ := c4
   try simp only [sB] at c4
   refine w_skip (q_then (⟨(decide (r.fn = 3)), ?_,⟨[(0,0),(1,1)],by rw [hk]; decide,⟨⟨_,rfl,rfl,rfl⟩,⟨_,rfl,rfl,rfl⟩,⟨_,rfl,rfl,rfl⟩,⟨_,rfl,rfl,rfl⟩,trivial⟩,⟨⟨_,_,rfl,rfl,rfl,rfl⟩,⟨_,_,rfl,rfl,rfl,rfl⟩,trivial⟩,by rw [hk]; decide⟩⟩))
   simp only [c4_,Bool.true_or,Bool.false_or]
  have c4_ := c4
  try simp only [sB] at c4
  refine w_seq (w_R (qo hnt rfl (s_eql rfl rfl ?_)))
  refine qa hnt rfl rfl (r_end (q_then (w_if rfl (fun c5 => ?_) (fun c5 => ?_))))
  ·have c5_ := c5
   try simp only [sB] at c5
   refine w_skip (q_then (⟨(decide (r.fn = 4)), ?_,⟨[(0,0),(1,1)],by rw [hk]; decide,⟨⟨_,rfl,rfl,rfl⟩,⟨_,rfl,rfl,rfl⟩,⟨_,rfl,rfl,rfl⟩,⟨_,rfl,rfl,rfl⟩,trivial⟩,⟨⟨_,_,rfl,rfl,rfl,rfl⟩,⟨_,_,rfl,rfl,rfl,rfl⟩,trivial⟩,by rw [hk]; decide⟩⟩))
   simp only [c4_,c5_,Bool.true_or,Bool.false_or]
  have c5_ := c5
  try simp only [sB] at c5
  refine w_R (qo hnt rfl (s_eql rfl rfl ?_))
  refine qa hnt rfl rfl (r_end (q_then (⟨(decide (r.fn = 23)), ?_,⟨[(0,0),(1,1)],by rw [hk]; decide,⟨⟨_,rfl,rfl,rfl⟩,⟨_,rfl,rfl,rfl⟩,⟨_,rfl,rfl,rfl⟩,⟨_,rfl,rfl,rfl⟩,trivial⟩,⟨⟨_,_,rfl,rfl,rfl,rfl⟩,⟨_,_,rfl,rfl,rfl,rfl⟩,trivial⟩,by rw [hk]; decide⟩⟩)))
  simp only [c4_,c5_,Bool.true_or,Bool.false_or]
 intro bb2 hbb2
 subst hbb2
 refine w_if rfl (fun c6 => ?_) (fun c6 => ?_)
 ·have c6_ := c6
  try simp only [sB,Bool.or_eq_true,Bool.or_eq_false_iff] at c6
  refine w_seq (w_R (qm hnt rfl rfl (qo hnt rfl (s_fa_ptr tab_53 rfl rfl tab_43 (by decide) rfl ?_))))
  refine qo hnt rfl (s_load_ptr1 tab_43 rfl rfl rfl rfl rfl ?_)
  refine qo hnt rfl (s_callX (r2 := PV.ref 2 0 none) (nx1 := 3) (H2 := [(0,.obj (cReply r)),(1,oB true 1 enc8 [u8I r.fn])]) (H3 := [(2,oB true 1 enc8 (bytesL r.vals)),(0,.obj (cReply r)),(1,oB true 1 enc8 [u8I r.fn])]) [] [] rfl rfl rfl (handed_of (by decide) trivial) rfl rfl rfl rfl rfl rfl (w_burgageref1_Bytes r.vals false (by omega)) rfl (dist_of rfl) rfl rfl rfl rfl ?_)
  refine qo hnt rfl (s_callX (r2 := PV.ref 3 0 none) (nx1 := 4) (H2 := [(2,oB false 1 enc8 (bytesL r.vals)),(0,.obj (cReply r)),(1,oB true 1 enc8 [u8I r.fn])]) (H3 := [(3,oB true 1 enc8 ([u8I r.fn] ++ rowX (bytesL r.vals))),(2,oB false 1 enc8 (bytesL r.vals)),(0,.obj (cReply r))]) [1] [oB true 1 enc8 [u8I r.fn]] rfl rfl rfl (handed_of (by decide) ⟨rfl,trivial⟩) rfl rfl rfl rfl rfl rfl (w_burgageref3_row [u8I r.fn] true (bytesL r.vals) false (by (simp; done)) (by (simp; omega))) rfl (dist_of rfl) rfl rfl rfl rfl ?_)
  refine qa hnt rfl rfl (r_set [(2,PV.ref 3 0 none)] [(3,oB true 1 enc8 ([u8I r.fn] ++ rowX (bytesL r.vals))),(2,oB false 1 enc8 (bytesL r.vals)),(0,.obj (cReply r))] 4 ⟨rfl,trivial⟩ rfl rfl (r_end (q_then (w_low (n := 3) rfl (w_H (H' := [(3,oB false 1 enc8 (layR r)),(2,oB false 1 enc8 (bytesL r.vals)),(0,.obj (cReply r))]) (congrArg (fun z => ([(3,oB false 1 enc8 z),(2,oB false 1 enc8 (bytesL r.vals)),(0,.obj (cReply r))] : Heap)) (show [u8I r.fn] ++ rowX (bytesL r.vals) = layR r by (rw [lay_fn h0,layT_3 (by omega)]; simp; done))) ?_)))))
  refine w_ret (q_block_ret (q_then_ret ?_))
  exact fin_names (nx1 := 1) (H1 := [(0,oB false 1 enc8 (layR r))]) [(0,3)] (ret_tmp rfl ret_nil) rfl (by decide) ⟨⟨_,_,rfl,rfl,rfl,rfl⟩,trivial⟩ (by decide) rfl ⟨rfl,rfl,rfl⟩
 have c6_ := c6
 try simp only [sB,Bool.or_eq_true,Bool.or_eq_false_iff] at c6
 refine join1 (fun (bb3 : Bool) => bb3 = ((decide (r.fn = 15)) || (decide (r.fn = 16)))) (fun (bb3 : Bool) => [(1,PV.ptr 0 0),(3,PV.ref 1 0 none),(20,pI r.fn),(38,pB bb3)]) 2 (fun (bb3 : Bool) => [(0,.obj (cReply r)),(1,oB true 1 enc8 [u8I r.fn])]) ?_ ?_
 ·refine w_seq (w_R (qo hnt rfl (s_eql rfl rfl ?_)))
  refine qa hnt rfl rfl (r_end (q_then (w_if rfl (fun c7 => ?_) (fun c7 => ?_))))
  ·have c7_ := c7
   try simp only [sB] at c7
   refine w_skip (q_then (⟨(decide (r.fn = 15)), ?_,⟨[(0,0),(1,1)],by rw [hk]; decide,⟨⟨_,rfl,rfl,rfl⟩,⟨_,rfl,rfl,rfl⟩,⟨_,rfl,rfl,rfl⟩,⟨_,rfl,rfl,rfl⟩,trivial⟩,⟨⟨_,_,rfl,rfl,rfl,rfl⟩,⟨_,_,rfl,rfl,rfl,rfl⟩,trivial⟩,by rw [hk]; decide⟩⟩))
   simp only [c7_,Bool.true_or,Bool.false_or]
  have c7_ := c7
  try simp only [sB] at c7
  refine w_R (qo hnt rfl (s_eql rfl rfl ?_))
  refine qa hnt rfl rfl (r_end (q_then (⟨(decide (r.fn = 16)), ?_,⟨[(0,0),(1,1)],by rw [hk]; decide,⟨⟨_,rfl,rfl,rfl⟩,⟨_,rfl,rfl,rfl⟩,⟨_,rfl,rfl,rfl⟩,⟨_,rfl,rfl,rfl⟩,trivial⟩,⟨⟨_,_,rfl,rfl,rfl,rfl⟩,⟨_,_,rfl,rfl,rfl,rfl⟩,trivial⟩,by rw [hk]; decide⟩⟩)))
  simp only [c7_,Bool.true_or,Bool.false_or]
 intro bb3 hbb3
 subst hbb3
 refine w_if rfl (fun c8 => ?_) (fun c8 => ?_)
 ·have c8_ := c8
  try simp only [sB,Bool.or_eq_true,Bool.or_eq_false_iff] at c8
  refine w_seq (W_drawn tabOk mixed hnt [[],[],[1],[0,1,2],[],[4],[0,1,2,3,4,5],[0,1,2,3,4,5,6]] (by kernel_rfl) (d_op (x_run0 [(3,PV.ref 1 0 none)] [] rfl rfl rfl rfl (s_move rfl ⟨rfl,rfl,rfl⟩) (d_op (x_run0 [(1,PV.ptr 0 0)] [] rfl rfl rfl rfl (s_fa_ptr tab_53 rfl rfl tab_3 (by decide) rfl ⟨rfl,rfl,rfl⟩) ?_)))))
  refine d_op (xL [(42,PV.ptr 0 2)] [1] [(0,.obj (cReply r))] rfl rfl rfl rfl rfl (s_load_ptr1 tab_3 rfl rfl rfl rfl rfl ⟨rfl,rfl,rfl⟩) ⟨rfl,trivial⟩ rfl (d_op (xT [(41,PV.ref 1 0 none),(43,pI r.at_)] [0,1,2] [(1,oB true 1 enc8 [u8I r.fn])] [(2,oB true 1 enc8 ([u8I r.fn] ++ put2 r.at_)),(1,oB false 1 enc8 [u8I r.fn])] [(0,.obj (cReply r))] rfl rfl rfl rfl rfl (s_callX (r2 := PV.ref 2 0 none) (nx1 := 3) (H2 := [(1,oB false 1 enc8 [u8I r.fn])]) (H3 := [(2,oB true 1 enc8 ([u8I r.fn] ++ put2 r.at_)),(1,oB false 1 enc8 [u8I r.fn])]) [] [] rfl rfl rfl (handed_of (by decide) trivial) rfl rfl rfl rfl rfl rfl (w_burgageref1_Put [u8I r.fn] false r.at_ (by (simp; done))) rfl (dist_of rfl) rfl rfl rfl rfl ⟨rfl,rfl,rfl⟩) rfl rfl (d_op (x_run0 [(1,PV.ptr 0 0)] [] rfl rfl rfl rfl (s_fa_ptr tab_53 rfl rfl tab_3 (by decide) rfl ⟨rfl,rfl,rfl⟩) ?_)))))
  refine d_op (xL [(45,PV.ptr 0 3)] [4] [(0,.obj (cReply r))] rfl rfl rfl rfl rfl (s_load_ptr1 tab_3 rfl rfl rfl rfl rfl ⟨rfl,rfl,rfl⟩) ⟨rfl,trivial⟩ rfl (d_op (xT [(44,PV.ref 2 0 none),(46,pI r.count)] [0,1,2,3,4,5] [(2,oB true 1 enc8 ([u8I r.fn] ++ put2 r.at_))] [(3,oB true 1 enc8 (([u8I r.fn] ++ put2 r.at_) ++ put2 r.count)),(2,oB false 1 enc8 ([u8I r.fn] ++ put2 r.at_))] [(1,oB false 1 enc8 [u8I r.fn]),(0,.obj (cReply r))] rfl rfl rfl rfl rfl (s_callX (r2 := PV.ref 3 0 none) (nx1 := 4) (H2 := [(2,oB false 1 enc8 ([u8I r.fn] ++ put2 r.at_))]) (H3 := [(3,oB true 1 enc8 (([u8I r.fn] ++ put2 r.at_) ++ put2 r.count)),(2,oB false 1 enc8 ([u8I r.fn] ++ put2 r.at_))]) [] [] rfl rfl rfl (handed_of (by decide) trivial) rfl rfl rfl rfl rfl rfl (w_burgageref1_Put ([u8I r.fn] ++ put2 r.at_) false r.count (by (simp; done))) rfl (dist_of rfl) rfl rfl rfl rfl ⟨rfl,rfl,rfl⟩) rfl rfl (d_op (x_run0 [(47,PV.ref 3 0 none)] [0,1,2,3,4,5,6] rfl rfl rfl rfl (s_assign rfl ⟨rfl,rfl,rfl⟩) ?_)))))
  refine d_end ⟨by kernel_rfl, ?_⟩
  refine q_then (w_low (n := 3) rfl (w_H (H' := [(3,oB false 1 enc8 (layR r)),(2,oB false 1 enc8 ([u8I r.fn] ++ put2 r.at_)),(1,oB false 1 enc8 [u8I r.fn]),(0,.obj (cReply r))]) (congrArg (fun z => ([(3,oB false 1 enc8 z),(2,oB false 1 enc8 ([u8I r.fn] ++ put2 r.at_)),(1,oB false 1 enc8 [u8I r.fn]),(0,.obj (cReply r))] : Heap)) (show ([u8I r.fn] ++ put2 r.at_) ++ put2 r.count = layR r by (rw [lay_fn h0,layT_15 (by omega)]; simp; done))) (w_ret (q_block_ret (q_then_ret ?_)))))
  exact fin_names (nx1 := 1) (H1 := [(0,oB false 1 enc8 (layR r))]) [(0,3)] (ret_tmp rfl ret_nil) rfl (by decide) ⟨⟨_,_,rfl,rfl,rfl,rfl⟩,trivial⟩ (by decide) rfl ⟨rfl,rfl,rfl⟩
 have c8_ := c8
 try simp only [sB,Bool.or_eq_true,Bool.or_eq_false_iff] at c8
 refine w_seq (w_R (qo hnt rfl (s_eql rfl rfl ?_)))
 refine qa hnt rfl rfl (r_end (q_then (w_if rfl (fun c9 => ?_) (fun c9 => ?_))))
 ·have c9_ := c9
  try simp only [sB] at c9
  refine w_seq (w_R (qm hnt rfl rfl (qo hnt rfl (s_fa_ptr tab_53 rfl rfl tab_51 (by decide) rfl ?_))))
  refine qo hnt rfl (s_load_ptr1 tab_51 rfl rfl rfl rfl rfl ?_)
  refine qo hnt rfl (s_callX (r2 := PV.ref 2 0 none) (nx1 := 3) (H2 := [(0,.obj (cReply r)),(1,oB true 1 enc8 [u8I r.fn])]) (H3 := [(2,oB true 1 enc8 ([u8I r.fn] ++ rowX r.data)),(0,.obj (cReply r))]) [1] [oB true 1 enc8 [u8I r.fn]] rfl rfl rfl (handed_of (by decide) ⟨rfl,trivial⟩) rfl rfl rfl rfl rfl rfl (w_burgageref3_row [u8I r.fn] true r.data false (by (simp; done)) (by omega)) rfl (dist_of rfl) rfl rfl rfl rfl ?_)
  refine qa hnt rfl rfl (r_set [(2,PV.ref 2 0 none)] [(2,oB true 1 enc8 ([u8I r.fn] ++ rowX r.data)),(0,.obj (cReply r))] 3 ⟨rfl,trivial⟩ rfl rfl (r_end (q_then (w_low (n := 2) rfl (w_H (H' := [(2,oB false 1 enc8 (layR r)),(0,.obj (cReply r))]) (congrArg (fun z => ([(2,oB false 1 enc8 z),(0,.obj (cReply r))] : Heap)) (show [u8I r.fn] ++ rowX r.data = layR r by (rw [lay_fn h0,layT_17 (by omega)]; simp; done))) ?_)))))
  refine w_ret (q_block_ret (q_then_ret ?_))
  exact fin_names (nx1 := 1) (H1 := [(0,oB false 1 enc8 (layR r))]) [(0,2)] (ret_tmp rfl ret_nil) rfl (by decide) ⟨⟨_,_,rfl,rfl,rfl,rfl⟩,trivial⟩ (by decide) rfl ⟨rfl,rfl,rfl⟩
 have c9_ := c9
 try simp only [sB] at c9
 refine w_skip (q_block (q_then (w_seq (w_R (qo hnt rfl (s_fa_ptr tab_53 rfl rfl tab_3 (by decide) rfl ?_))))))
 refine qo hnt rfl (s_load_ptr1 tab_3 rfl rfl rfl rfl rfl ?_)
 refine qo hnt rfl (s_fa_ptr tab_53 rfl rfl tab_3 (by decide) rfl ?_)
 refine qo hnt rfl (s_load_ptr1 tab_3 rfl rfl rfl rfl rfl ?_)
 refine qo hnt rfl (s_fa_ptr tab_53 rfl rfl tab_3 (by decide) rfl ?_)
 refine qo hnt rfl (s_load_ptr1 tab_3 rfl rfl rfl rfl rfl ?_)
 refine qo hnt rfl (s_fa_ptr tab_53 rfl rfl tab_42 (by decide) rfl ?_)
 refine qo hnt rfl (s_load_ptr1 tab_42 rfl rfl rfl rfl rfl ?_)
 refine qo hnt rfl (s_fa_ptr tab_53 rfl rfl tab_43 (by decide) rfl ?_)
 refine qo hnt rfl (s_load_ptr1 tab_43 rfl rfl rfl rfl rfl ?_)
 refine qo hnt rfl (s_fa_ptr tab_53 rfl rfl tab_44 (by decide) rfl ?_)
 refine qo hnt rfl (s_load_ptr1 tab_44 rfl rfl rfl rfl rfl ?_)
 refine qo hnt rfl (s_fa_ptr tab_53 rfl rfl tab_44 (by decide) rfl ?_)
 refine qo hnt rfl (s_load_ptr1 tab_44 rfl rfl rfl rfl rfl ?_)
 refine qo hnt rfl (s_build tab_46 rfl rfl (b_cons rfl tab_3 rfl rfl rfl (Nat.le_of_ble_eq_true rfl) (b_cons rfl tab_3 rfl rfl rfl (Nat.le_of_ble_eq_true rfl) (b_cons rfl tab_3 rfl rfl rfl (Nat.le_of_ble_eq_true rfl) (b_cons rfl tab_42 rfl rfl rfl (Nat.le_of_ble_eq_true rfl) (b_cons rfl tab_43 rfl rfl rfl (Nat.le_of_ble_eq_true rfl) (b_cons rfl tab_44 rfl rfl rfl (Nat.le_of_ble_eq_true rfl) (b_cons rfl tab_44 rfl rfl rfl (Nat.le_of_ble_eq_true rfl) (b_nilN (cs' := [pI r.fn,pI r.at_,pI 0,pI 0,pI r.sub,pS 1 false encBo r.bits,pS 1 false enc16 r.vals,p16 r.and_,p16 r.or_]) rfl ?_)))))))))
 refine qo hnt rfl (s_callX (r2 := PV.ref 2 0 none) (nx1 := 3) (H2 := [(0,.obj (cReply r)),(1,oB true 1 enc8 [u8I r.fn])]) (H3 := [(2,oB false 1 enc8 (writeR (⟨r.fn,r.at_,0,0,r.sub,r.bits,r.vals,r.and_,r.or_⟩ : TRequest))),(0,.obj (cReply r)),(1,oB true 1 enc8 [u8I r.fn])]) [] [] rfl rfl rfl (handed_of (by decide) trivial) rfl rfl rfl rfl rfl rfl (w_burgageref3_write (⟨r.fn,r.at_,0,0,r.sub,r.bits,r.vals,r.and_,r.or_⟩ : TRequest) (by show r.bits.length ≤ _; omega) (by show r.vals.length ≤ _; omega) (by intro h; have := h5b h; show 1 ≤ r.bits.length; omega) (by intro h; have := h6v h; show 1 ≤ r.vals.length; omega)) rfl (dist_of rfl) rfl rfl rfl rfl ?_)
 refine qa hnt rfl rfl (r_set [(2,PV.ref 2 0 none)] [(2,oB false 1 enc8 (writeR (⟨r.fn,r.at_,0,0,r.sub,r.bits,r.vals,r.and_,r.or_⟩ : TRequest))),(0,.obj (cReply r)),(1,oB true 1 enc8 [u8I r.fn])] 3 ⟨rfl,trivial⟩ rfl rfl (r_end (q_then (w_H (H' := [(2,oB false 1 enc8 (layR r)),(0,.obj (cReply r)),(1,oB true 1 enc8 [u8I r.fn])]) (congrArg (fun z => ([(2,oB false 1 enc8 z),(0,.obj (cReply r)),(1,oB true 1 enc8 [u8I r.fn])] : Heap)) (show writeR (⟨r.fn,r.at_,0,0,r.sub,r.bits,r.vals,r.and_,r.or_⟩ : TRequest) = layR r by (rw [lay_write hg0 h0 (by omega)]; done))) (w_ret ?_)))))
 exact fin_names (nx1 := 1) (H1 := [(0,oB false 1 enc8 (layR r))]) [(0,2)] (ret_tmp rfl ret_nil) rfl (by decide) ⟨⟨_,_,rfl,rfl,rfl,rfl⟩,trivial⟩ (by decide) rfl ⟨rfl,rfl,rfl⟩
theorem w_burgageref3_Lay (r : TReply) (hr : r.bits.length ≤ 140737488351232 ∧ r.vals.length ≤ 140737488351232 ∧ r.data.length ≤ 140737488351232) :
    T Try.prog 22 [PV.f (eReply r)] 0 [] (Ret (PV.tup [PV.ref 0 0 none,pI (goodR r)]) 1 [(0,oB false 1 enc8 (layE r))]) := by
 refine t_fun tabOk (n := 12) (rs := [.tmp 2,.tmp 3]) Try.func22 rfl rfl rfl rfl (Nat.le_of_ble_eq_true rfl) ?_
 intro c hnt hk
 refine w_seq (w_R (qo hnt rfl (s_box rfl rfl ?_)))
 refine qa hnt rfl rfl (qa hnt rfl rfl (r_set [(1,PV.ptr 0 0)] [(0,.obj (cReply r))] 1 ⟨rfl,trivial⟩ rfl rfl (r_end (q_then (w_seq ?_)))))
 refine w_seq (w_R (qo hnt rfl (s_load_ptr tab_53 rfl rfl rfl (Nat.le_of_ble_eq_true rfl) ?_)))
 refine qo hnt rfl (s_callF rfl rfl rfl (w_burgageref3_Good r (by omega)) rfl ?_)
 refine qa hnt rfl rfl (r_end (q_then (w_seq (w_R (qm hnt rfl rfl ?_)))))
 refine qo hnt rfl (s_neq rfl rfl ?_)
 refine r_end (q_then (w_if rfl (fun c1 => ?_) (fun c1 => ?_)))
 ·have c1_ := c1
  try simp only [sB] at c1
  refine w_seq (w_R (qm hnt rfl rfl (qa hnt rfl rfl (qa hnt rfl rfl (r_end ?_)))))
  refine q_then (w_adopt (s := 2) (sz := 1) rfl (w_low (n := 1) rfl (w_H (H' := [(1,oB false 1 enc8 (layE r)),(0,.obj (cReply r))]) (congrArg (fun z => ([(1,oB false 1 enc8 z),(0,.obj (cReply r))] : Heap)) (show ([] : List UInt8) = layE r by rw [layE_no (by first|assumption|simpa using c1_)])) (w_ret (q_then_ret ?_)))))
  exact fin_names (nx1 := 1) (H1 := [(0,oB false 1 enc8 (layE r))]) [(0,1)] (ret_tmp rfl (ret_tmp rfl ret_nil)) rfl (by decide) ⟨⟨_,_,rfl,rfl,rfl,rfl⟩,trivial⟩ (by decide) rfl ⟨rfl,rfl,rfl⟩
 have c1_ := c1
 try simp only [sB] at c1
 refine w_skip (q_then (w_seq ?_))
 have hg0 : goodR r = 0 := by exact c1
 have hlr := layE_yes hg0
 refine w_R (qo hnt rfl (s_load_ptr tab_53 rfl rfl rfl (Nat.le_of_ble_eq_true rfl) ?_))
 refine qo hnt rfl (s_callX (r2 := PV.ref 1 0 none) (nx1 := 2) (H2 := [(0,.obj (cReply r))]) (H3 := [(1,oB false 1 enc8 (layR r)),(0,.obj (cReply r))]) [] [] rfl rfl rfl (handed_of (by decide) trivial) rfl rfl rfl rfl rfl rfl (w_burgageref3_lay r (by omega) (by omega)) rfl (dist_of rfl) rfl rfl rfl rfl ?_)
 refine qa hnt rfl rfl (qa hnt rfl rfl (r_set [(2,PV.ref 1 0 none),(3,pI 0)] [(1,oB false 1 enc8 (layR r)),(0,.obj (cReply r))] 2 ⟨rfl,rfl,trivial⟩ rfl rfl (r_end (q_then (w_le (s := 3) (y := pI (goodR r)) rfl (le_of_eq (congrArg pI (show 0 = (goodR r) by simp [*]))) ?_)))))
 refine w_H (H' := [(1,oB false 1 enc8 (layE r)),(0,.obj (cReply r))]) (congrArg (fun z => ([(1,oB false 1 enc8 z),(0,.obj (cReply r))] : Heap)) (show layR r = layE r by rw [hlr])) (w_ret ?_)
 exact fin_names (nx1 := 1) (H1 := [(0,oB false 1 enc8 (layE r))]) [(0,1)] (ret_tmp rfl (ret_tmp rfl ret_nil)) rfl (by decide) ⟨⟨_,_,rfl,rfl,rfl,rfl⟩,trivial⟩ (by decide) rfl ⟨rfl,rfl,rfl⟩
end Go.Proofs.Ytljkbpgcglomfaa
set_option linter.unusedVariables false
namespace Go.Proofs.Ytljkbpgcglomfaa
open Go Go.Proofs.Ytljkbpgcglomfaa.Pv
theorem bopV_len8 (b : List UInt8) (n : Int) : (bopV b n).length ≤ 8 * b.length := by
  unfold bopV; split
  · rename_i h
    have h2 := of_decide_eq_true h
    simp; omega
  · simp
theorem takeP_len {b : List UInt8} {q : TRequest} (hb : b.length ≤ 140737488351232) (hq : b.length ≤ 17592186043904 ∨ q.count ≤ 140737488351232) : (takeP b q).bits.length ≤ 140737488351232 ∧ (takeP b q).vals.length ≤ 140737488351232 ∧ (takeP b q).data.length ≤ 140737488351232 := by
  have h1 := bopV_len8 (b.drop (min b.length 2)) q.count
  have h2 := bopV_len (b.drop (min b.length 2)) q.count
  have h3 := wordsV_len (b.drop (min b.length 2))
  have h4 : (b.drop (min b.length 2)).length ≤ b.length := by rw [List.length_drop]; omega
  have h5 : (bopV (b.drop (min b.length 2)) q.count).length ≤ 140737488351232 := by rcases hq with h|h <;> omega
  unfold takeP
  simp only
  repeat' split
  all_goals first|exact ⟨h5,Nat.zero_le _,Nat.zero_le _⟩|exact ⟨Nat.zero_le _,by simp only; omega,Nat.zero_le _⟩|exact ⟨Nat.zero_le _,Nat.zero_le _,by simp only; omega⟩|exact ⟨Nat.zero_le _,Nat.zero_le _,Nat.zero_le _⟩|exact ⟨by simp,by simp,by simp⟩
end Go.Proofs.Ytljkbpgcglomfaa
