/- What the law JoinRight needs, and no more: merged out of texts of this session by a program of it (wip/tools/prune.py). -/
import Derived.Test.YtlcmbkkimgdnmaaGreatQJoinRight2
set_option linter.unusedVariables false
set_option linter.unusedSimpArgs false
set_option maxRecDepth 10000
set_option maxHeartbeats 1000000
namespace Go.Proofs.YtlcmbkkimgdnmaaGreat
open Go Go.Proofs.YtlcmbkkimgdnmaaGreat.Pv
theorem w_pdu_within (n : Int)  :
    T Tryz.prog 81 [pI n] 0 [] (Ret (pB (aY n)) 0 []) := by
 refine bn aF (n := 9) (rs := [.tmp 2]) Tryz.func81 Z Z Z Z (nb Z) ?_
 intro c N hk
 refine sr (ae N Z Z (sr (xa N 7 [.o 3,.b 2 [.o 2],.o 1] [] [(2,pB ((decide (0 ≤ n)) && (decide (n ≤ 65535))))] 0 [] (re (aq (s := 2) Z (congrArg pB (show ((decide (0 ≤ n)) && (decide (n ≤ 65535))) = (aY n) by unfold aY; apply Bool.eq_iff_iff.2; simp only [Bool.and_eq_true,Bool.or_eq_true,Bool.not_eq_true',decide_eq_true_eq,decide_eq_false_iff_not,u16z]; try omega)) ?_)))))
 exact w_ret fp
theorem w_reply_within (n : Int)  :
    T Tryz.prog 55 [pI n] 0 [] (Ret (pB (aY n)) 0 []) := by
 refine bn aF (n := 9) (rs := [.tmp 2]) Tryz.func55 Z Z Z Z (nb Z) ?_
 intro c N hk
 refine sr (ae N Z Z (sr (xa N 7 [.o 3,.b 2 [.o 2],.o 1] [] [(2,pB ((decide (0 ≤ n)) && (decide (n ≤ 65535))))] 0 [] (re (aq (s := 2) Z (congrArg pB (show ((decide (0 ≤ n)) && (decide (n ≤ 65535))) = (aY n) by unfold aY; apply Bool.eq_iff_iff.2; simp only [Bool.and_eq_true,Bool.or_eq_true,Bool.not_eq_true',decide_eq_true_eq,decide_eq_false_iff_not,u16z]; try omega)) ?_)))))
 exact w_ret fp
theorem oE (n : Int)  :
    T Tryz.prog 79 [pI n] 0 [] (Ret (pB (bO n)) 0 []) := by
 refine bn aF (n := 17) (rs := [.tmp 2]) Tryz.func79 Z Z Z Z (nb Z) ?_
 intro c N hk
 refine sr (ae N Z Z (an (sr (qm N Z Z (re (aP (an (sr ?_))))))))
 refine xp N 2 [.o 2] [] [(4,pB (decide (n = 1)))] (re (av Z (fun c1 => ?_) (fun c1 => ?_)))
 ·have c1_ := c1
  try simp only [sB] at c1
  refine aw (ak (av Z (fun _ => ?_) (fun e => absurd (e.symm.trans c1_) (by decide))))
  exact sr (ae N Z Z (aq (s := 2) Z (congrArg pB (show true = (bO n) by exact (decide_eq_true (by omega)).symm)) (w_ret (am (af fp)))))
 have c1_ := c1
 try simp only [sB] at c1
 refine sr (qo N Z (bF Z Z ?_))
 refine ae N Z Z (av Z (fun c2 => ?_) (fun c2 => ?_))
 ·have c2_ := c2
  try simp only [sB] at c2
  refine aw (ak (av Z (fun _ => ?_) (fun e => absurd (e.symm.trans c2_) (by decide))))
  exact sr (ae N Z Z (aq (s := 2) Z (congrArg pB (show true = (bO n) by exact (decide_eq_true (by omega)).symm)) (w_ret (am (af fp)))))
 have c2_ := c2
 try simp only [sB] at c2
 refine sr (qo N Z (bF Z Z ?_))
 refine ae N Z Z (av Z (fun c3 => ?_) (fun c3 => ?_))
 ·have c3_ := c3
  try simp only [sB] at c3
  refine aw (ak (av Z (fun _ => ?_) (fun e => absurd (e.symm.trans c3_) (by decide))))
  exact sr (ae N Z Z (aq (s := 2) Z (congrArg pB (show true = (bO n) by exact (decide_eq_true (by omega)).symm)) (w_ret (am (af fp)))))
 have c3_ := c3
 try simp only [sB] at c3
 refine sr (qo N Z (bF Z Z ?_))
 refine ae N Z Z (av Z (fun c4 => ?_) (fun c4 => ?_))
 ·have c4_ := c4
  try simp only [sB] at c4
  refine aw (ak (av Z (fun _ => ?_) (fun e => absurd (e.symm.trans c4_) (by decide))))
  exact sr (ae N Z Z (aq (s := 2) Z (congrArg pB (show true = (bO n) by exact (decide_eq_true (by omega)).symm)) (w_ret (am (af fp)))))
 have c4_ := c4
 try simp only [sB] at c4
 refine sr (qo N Z (bF Z Z ?_))
 refine ae N Z Z (av Z (fun c5 => ?_) (fun c5 => ?_))
 ·have c5_ := c5
  try simp only [sB] at c5
  refine aw (ak (av Z (fun _ => ?_) (fun e => absurd (e.symm.trans c5_) (by decide))))
  exact sr (ae N Z Z (aq (s := 2) Z (congrArg pB (show true = (bO n) by exact (decide_eq_true (by omega)).symm)) (w_ret (am (af fp)))))
 have c5_ := c5
 try simp only [sB] at c5
 refine sr (qo N Z (bF Z Z ?_))
 refine ae N Z Z (av Z (fun c6 => ?_) (fun c6 => ?_))
 ·have c6_ := c6
  try simp only [sB] at c6
  refine aw (ak (av Z (fun _ => ?_) (fun e => absurd (e.symm.trans c6_) (by decide))))
  exact sr (ae N Z Z (aq (s := 2) Z (congrArg pB (show true = (bO n) by exact (decide_eq_true (by omega)).symm)) (w_ret (am (af fp)))))
 have c6_ := c6
 try simp only [sB] at c6
 refine sr (qo N Z (bF Z Z ?_))
 refine ae N Z Z (av Z (fun c7 => ?_) (fun c7 => ?_))
 ·have c7_ := c7
  try simp only [sB] at c7
  refine aw (ak (av Z (fun _ => ?_) (fun e => absurd (e.symm.trans c7_) (by decide))))
  exact sr (ae N Z Z (aq (s := 2) Z (congrArg pB (show true = (bO n) by exact (decide_eq_true (by omega)).symm)) (w_ret (am (af fp)))))
 have c7_ := c7
 try simp only [sB] at c7
 refine sr (qo N Z (bF Z Z ?_))
 refine ae N Z Z (av Z (fun c8 => ?_) (fun c8 => ?_))
 ·have c8_ := c8
  try simp only [sB] at c8
  refine aw (ak (av Z (fun _ => ?_) (fun e => absurd (e.symm.trans c8_) (by decide))))
  exact sr (ae N Z Z (aq (s := 2) Z (congrArg pB (show true = (bO n) by exact (decide_eq_true (by omega)).symm)) (w_ret (am (af fp)))))
 have c8_ := c8
 try simp only [sB] at c8
 refine sr (qo N Z (bF Z Z ?_))
 refine ae N Z Z (av Z (fun c9 => ?_) (fun c9 => ?_))
 ·have c9_ := c9
  try simp only [sB] at c9
  refine aw (ak (av Z (fun _ => ?_) (fun e => absurd (e.symm.trans c9_) (by decide))))
  exact sr (ae N Z Z (aq (s := 2) Z (congrArg pB (show true = (bO n) by exact (decide_eq_true (by omega)).symm)) (w_ret (am (af fp)))))
 have c9_ := c9
 try simp only [sB] at c9
 refine sr (qo N Z (bF Z Z ?_))
 refine ae N Z Z (av Z (fun c10 => ?_) (fun c10 => ?_))
 ·have c10_ := c10
  try simp only [sB] at c10
  refine aw (ak (av Z (fun _ => ?_) (fun e => absurd (e.symm.trans c10_) (by decide))))
  exact sr (ae N Z Z (aq (s := 2) Z (congrArg pB (show true = (bO n) by exact (decide_eq_true (by omega)).symm)) (w_ret (am (af fp)))))
 have c10_ := c10
 try simp only [sB] at c10
 refine sr (qo N Z (bF Z Z ?_))
 refine ae N Z Z (av Z (fun c11 => ?_) (fun c11 => ?_))
 ·have c11_ := c11
  try simp only [sB] at c11
  refine aw (ak (av Z (fun _ => ?_) (fun e => absurd (e.symm.trans c11_) (by decide))))
  exact sr (ae N Z Z (aq (s := 2) Z (congrArg pB (show true = (bO n) by exact (decide_eq_true (by omega)).symm)) (w_ret (am (af fp)))))
 have c11_ := c11
 try simp only [sB] at c11
 refine bk (qo N Z (bF Z Z ?_))
 refine ae N Z Z (av Z (fun c12 => ?_) (fun c12 => ?_))
 ·try simp only [sB] at c12
  exact sr (ae N Z Z (aq (s := 2) Z (congrArg pB (show true = (bO n) by exact (decide_eq_true (by omega)).symm)) (w_ret (am (af fp)))))
 try simp only [sB] at c12
 exact aw (aG (ak (sr (ae N Z Z (aq (s := 2) Z (congrArg pB (show false = (bO n) by exact (decide_eq_false (by omega)).symm)) (w_ret fp))))))
theorem sC (n : Int)  :
    T Tryz.prog 93 [pI n] 0 [] (Ret (pB (decide (1 ≤ n ∧ n ≤ 4))) 0 []) := by
 refine bn aF (n := 9) (rs := [.tmp 2]) Tryz.func93 Z Z Z Z (nb Z) ?_
 intro c N hk
 refine sr (ae N Z Z (sr (xa N 7 [.o 3,.b 2 [.o 2],.o 1] [] [(2,pB ((decide (1 ≤ n)) && (decide (n ≤ 4))))] 0 [] (re (aq (s := 2) Z (congrArg pB (show ((decide (1 ≤ n)) && (decide (n ≤ 4))) = (decide (1 ≤ n ∧ n ≤ 4)) by apply Bool.eq_iff_iff.2; simp only [Bool.and_eq_true,Bool.or_eq_true,Bool.not_eq_true',decide_eq_true_eq,decide_eq_false_iff_not,u16z]; try omega)) ?_)))))
 exact w_ret fp
theorem tT (r : TRequest) (hb : r.bits.length ≤ 140737488351232) (hv : r.vals.length ≤ 140737488351232) :
    T Tryz.prog 82 [PV.f (bx r)] 0 [] (Ret (pI (gh r)) 0 []) := by
 refine bn aF (n := 11) (rs := [.tmp 2]) Tryz.func82 Z Z Z Z (nb Z) ?_
 intro c N hk
 refine sr (qo N Z (cu Z Z ?_))
 refine qa N Z Z (aE [(1,PV.ptr 0 0)] [(0,.obj (cd r))] 1 ⟨Z,trivial⟩ Z Z (re (an (sr (xp N 2 [.o 2] [] [(4,pI r.fn)] ?_)))))
 refine re (aP (sr (xp N 2 [.o 2] [] [(5,pB (decide (r.fn = 5)))] (re (av Z (fun c1 => ?_) (fun c1 => ?_))))))
 ·try simp only [sB] at c1
  exact sr (ae N Z Z (aq (s := 2) Z (congrArg pI (show 1 = (gh r) by unfold gh; (repeat' split) <;> rfl)) (w_ret (am (af fp)))))
 try simp only [sB] at c1
 refine sr (xp N 2 [.o 2] [] [(7,pB (decide (r.fn = 15)))] (re (av Z (fun c2 => ?_) (fun c2 => ?_))))
 ·try simp only [sB] at c2
  refine sr (xp N 3 [.o 3] [] [(2,pI r.count)] (re (aq (s := 2) Z (congrArg pI (show r.count = (gh r) by unfold gh; (repeat' split) <;> first|rfl|omega)) (w_ret (am ?_)))))
  exact af fp
 try simp only [sB] at c2
 exact aw (aG (ak (sr (ae N Z Z (aq (s := 2) Z (congrArg pI (show 0 = (gh r) by unfold gh; (repeat' split) <;> first|rfl|omega)) (w_ret fp))))))
theorem tS (r : TRequest) (hb : r.bits.length ≤ 140737488351232) (hv : r.vals.length ≤ 140737488351232) :
    T Tryz.prog 83 [PV.f (bx r)] 0 [] (Ret (pI (eQ r)) 0 []) := by
 refine bn aF (n := 17) (rs := [.tmp 2]) Tryz.func83 Z Z Z Z (nb Z) ?_
 intro c N hk
 refine sr (qo N Z (cu Z Z ?_))
 refine qa N Z Z (aE [(1,PV.ptr 0 0)] [(0,.obj (cd r))] 1 ⟨Z,trivial⟩ Z Z (re (an (sr (xp N 2 [.o 2] [] [(4,pI r.fn)] ?_)))))
 refine re (aP (an (sr (xp N 2 [.o 2] [] [(5,pB (decide (r.fn = 6)))] (re ?_)))))
 refine av Z (fun c1 => ?_) (fun c1 => ?_)
 ·have c1_ := c1
  try simp only [sB] at c1
  refine aw (ak (av Z (fun _ => ?_) (fun e => absurd (e.symm.trans c1_) (by decide))))
  exact sr (ae N Z Z (aq (s := 2) Z (congrArg pI (show 1 = (eQ r) by unfold eQ; (repeat' split) <;> first|rfl|omega)) (w_ret (am (af fp)))))
 have c1_ := c1
 try simp only [sB] at c1
 refine bk (qo N Z (bF Z Z ?_))
 refine ae N Z Z (av Z (fun c2 => ?_) (fun c2 => ?_))
 ·try simp only [sB] at c2
  exact sr (ae N Z Z (aq (s := 2) Z (congrArg pI (show 1 = (eQ r) by unfold eQ; (repeat' split) <;> first|rfl|omega)) (w_ret (am (af fp)))))
 try simp only [sB] at c2
 refine sr (xp N 2 [.o 2] [] [(8,pB (decide (r.fn = 16)))] (re (av Z (fun c3 => ?_) (fun c3 => ?_))))
 ·try simp only [sB] at c3
  refine sr (xp N 3 [.o 3] [] [(2,pI r.count)] (re (aq (s := 2) Z (congrArg pI (show r.count = (eQ r) by unfold eQ; (repeat' split) <;> first|rfl|omega)) (w_ret (am ?_)))))
  exact af fp
 try simp only [sB] at c3
 refine sr (qo N Z (bF Z Z ?_))
 refine ae N Z Z (av Z (fun c4 => ?_) (fun c4 => ?_))
 ·try simp only [sB] at c4
  refine sr (xp N 4 [.o 2,.c (pN r.vals.length),.o 1] [cC aj r.vals] [(2,pN r.vals.length)] ?_ (hc := ⟨lenC_ok _ _,trivial⟩))
  exact re (aq (s := 2) Z (congrArg pI (show ((r.vals.length : Nat) : Int) = (eQ r) by unfold eQ; (repeat' split) <;> first|rfl|omega)) (w_ret (am (af fp))))
 try simp only [sB] at c4
 exact aw (aG (ak (sr (ae N Z Z (aq (s := 2) Z (congrArg pI (show 0 = (eQ r) by unfold eQ; (repeat' split) <;> first|rfl|omega)) (w_ret fp))))))
theorem qX (r : TRequest) (hb : r.bits.length ≤ 140737488351232) (hv : r.vals.length ≤ 140737488351232) :
    T Tryz.prog 80 [PV.f (bx r)] 0 [] (Ret (pB (fZ r)) 0 []) := by
 refine bn aF (n := 82) (rs := [.tmp 2]) Tryz.func80 Z Z Z Z (nb Z) ?_
 intro c N hk
 refine sr (qo N Z (cu Z Z ?_))
 let Y2 : Nat × PV := (1,PV.ptr 0 0)
 refine qa N Z Z (aE [Y2] [(0,.obj (cd r))] 1 ⟨Z,trivial⟩ Z Z (re (sr (xp N 9 [.o 4,.b 3 [.o 3],.o 1] [] [(3,pB ((!decide (r.fn = 8)) && (!decide (r.fn = 17))))] (re ?_)))))
 refine sr (xp N 2 [.o 2] [] [(15,pI r.fn)] (qo N Z (aO Z Z Z (sC r.fn) Z ?_)))
 let Y0 : Nat × PV := (5,pB (decide (r.fn = 22)))
 refine xp N 16 [.o 1,.b 3 [.o 3],.o 1,.b 3 [.o 3],.o 1,.b 3 [.o 3],.o 1] [] [(4,pB ((((decide (1 ≤ r.fn ∧ r.fn ≤ 4)) || (decide (r.fn = 15))) || (decide (r.fn = 16))) || (decide (r.fn = 23))))] (re (sr (xp N 4 [.o 4] [] [Y0] (re (sr ?_)))))
 let Y1 : Nat × PV := (41,pB (((!decide (r.fn = 8)) && (!decide (r.fn = 17))) || (decide (r.at_ = 0))))
 refine xp N 7 [.o 2,.b 3 [.o 3],.o 1] [] [Y1] (cy 7 [Y2,Y0,(48,pB ((((!decide (r.fn = 8)) && (!decide (r.fn = 17))) || (decide (r.at_ = 0))) && (((((decide (1 ≤ r.fn ∧ r.fn ≤ 4)) || (decide (r.fn = 15))) || (decide (r.fn = 16))) || (decide (r.fn = 23))) || (decide (r.count = 0)))))] ?_ ?_)
 ·refine bS aF N Z Z Z (fun g6 => ?_) (fun g6 => ?_)
  ·have g6' := g6
   try simp only [sB] at g6'
   refine qm N Z Z (ry N Z Z Z g6 (qm N Z Z (cy 4 [Y2,Y0,Y1,(47,pB (((((decide (1 ≤ r.fn ∧ r.fn ≤ 4)) || (decide (r.fn = 15))) || (decide (r.fn = 16))) || (decide (r.fn = 23))) || (decide (r.count = 0))))] ?_ ?_)))
   ·refine bS aF N Z Z Z (fun g7 => ?_) (fun g7 => ?_)
    ·have g7' := g7
     try simp only [sB] at g7'
     refine qo N Z (aX bc Z Z aD (by decide) Z ?_)
     refine ry N Z Z Z g7 (qo N Z (bp aD Z Z Z Z Z ?_))
     refine ry N Z Z Z g7 (qo N Z (bF Z Z ?_))
     refine ry N Z Z Z g6 (qo N Z (bd Z g7 Z ?_))
     refine bh (s := 47) Z (dA g7) ?_
     exact bC ⟨⟨Z,Z,Z,Z,trivial⟩,Z,Z⟩
    ·have g7' := g7
     try simp only [sB] at g7'
     refine rn N Z Z Z g7 (rn N Z Z Z g7 (ry N Z Z Z g6 (qo N Z (bg Z g7 Z ?_))))
     refine bh (s := 47) (y := pB (((((decide (1 ≤ r.fn ∧ r.fn ≤ 4)) || (decide (r.fn = 15))) || (decide (r.fn = 16))) || (decide (r.fn = 23))) || (decide (r.count = 0)))) Z (dz _ g7) ?_
     exact bC ⟨⟨Z,Z,Z,Z,trivial⟩,Z,Z⟩
   ·refine qo N Z (bg Z g6 Z ?_)
    refine bh (s := 48) Z (dI g6) ?_
    exact bC ⟨⟨Z,Z,Z,trivial⟩,Z,Z⟩
  ·have g6' := g6
   try simp only [sB] at g6'
   refine rn N Z Z Z g6 (ru N Z Z Z (ru N Z Z Z (ru N Z Z Z (rn N Z Z Z g6 (qo N Z (bd Z g6 Z ?_))))))
   refine bh (s := 48) (y := pB ((((!decide (r.fn = 8)) && (!decide (r.fn = 17))) || (decide (r.at_ = 0))) && (((((decide (1 ≤ r.fn ∧ r.fn ≤ 4)) || (decide (r.fn = 15))) || (decide (r.fn = 16))) || (decide (r.fn = 23))) || (decide (r.count = 0))))) Z (dJ _ g6) ?_
   exact bC ⟨⟨Z,Z,Z,trivial⟩,Z,Z⟩
 ·refine qm N Z Z (cy 9 [Y2,Y0,(58,pB (((((!decide (r.fn = 8)) && (!decide (r.fn = 17))) || (decide (r.at_ = 0))) && (((((decide (1 ≤ r.fn ∧ r.fn ≤ 4)) || (decide (r.fn = 15))) || (decide (r.fn = 16))) || (decide (r.fn = 23))) || (decide (r.count = 0)))) && ((decide (r.fn = 23)) || (decide (r.wAt = 0)))))] ?_ ?_)
  ·refine bS aF N Z Z Z (fun g8 => ?_) (fun g8 => ?_)
   ·have g8' := g8
    try simp only [sB] at g8'
    refine qo N Z (aX bc Z Z aD (by decide) Z ?_)
    refine ry N Z Z Z g8 (qo N Z (bp aD Z Z Z Z Z ?_))
    refine ry N Z Z Z g8 (qo N Z (bF Z Z ?_))
    refine ry N Z Z Z g8 (qm N Z Z (cy 4 [Y2,Y0,(49,pB ((((!decide (r.fn = 8)) && (!decide (r.fn = 17))) || (decide (r.at_ = 0))) && (((((decide (1 ≤ r.fn ∧ r.fn ≤ 4)) || (decide (r.fn = 15))) || (decide (r.fn = 16))) || (decide (r.fn = 23))) || (decide (r.count = 0))))),(57,pB ((decide (r.fn = 23)) || (decide (r.wAt = 0))))] ?_ ?_))
    ·refine bS aF N Z Z Z (fun g9 => ?_) (fun g9 => ?_)
     ·have g9' := g9
      try simp only [sB] at g9'
      refine qo N Z (aX bc Z Z aD (by decide) Z ?_)
      refine ry N Z Z Z g9 (qo N Z (bp aD Z Z Z Z Z ?_))
      refine ry N Z Z Z g9 (qo N Z (bF Z Z ?_))
      refine ry N Z Z Z g8 (qo N Z (bd Z g9 Z ?_))
      refine bh (s := 57) Z (dA g9) ?_
      exact bC ⟨⟨Z,Z,Z,Z,trivial⟩,Z,Z⟩
     ·have g9' := g9
      try simp only [sB] at g9'
      refine rn N Z Z Z g9 (rn N Z Z Z g9 (ry N Z Z Z g8 (qo N Z (bg Z g9 Z ?_))))
      refine bh (s := 57) (y := pB ((decide (r.fn = 23)) || (decide (r.wAt = 0)))) Z (dz _ g9) ?_
      exact bC ⟨⟨Z,Z,Z,Z,trivial⟩,Z,Z⟩
    ·refine qo N Z (bg Z g8 Z ?_)
     refine bh (s := 58) Z (dI g8) ?_
     exact bC ⟨⟨Z,Z,Z,trivial⟩,Z,Z⟩
   ·have g8' := g8
    try simp only [sB] at g8'
    refine rn N Z Z Z g8 (rn N Z Z Z g8 (rn N Z Z Z g8 (ru N Z Z Z (ru N Z Z Z (ru N Z Z Z (rn N Z Z Z g8 (qo N Z (bd Z g8 Z ?_))))))))
    refine bh (s := 58) (y := pB (((((!decide (r.fn = 8)) && (!decide (r.fn = 17))) || (decide (r.at_ = 0))) && (((((decide (1 ≤ r.fn ∧ r.fn ≤ 4)) || (decide (r.fn = 15))) || (decide (r.fn = 16))) || (decide (r.fn = 23))) || (decide (r.count = 0)))) && ((decide (r.fn = 23)) || (decide (r.wAt = 0))))) Z (dJ _ g8) ?_
    exact bC ⟨⟨Z,Z,Z,trivial⟩,Z,Z⟩
  ·refine qm N Z Z (cy 9 [Y2,Y0,(68,pB ((((((!decide (r.fn = 8)) && (!decide (r.fn = 17))) || (decide (r.at_ = 0))) && (((((decide (1 ≤ r.fn ∧ r.fn ≤ 4)) || (decide (r.fn = 15))) || (decide (r.fn = 16))) || (decide (r.fn = 23))) || (decide (r.count = 0)))) && ((decide (r.fn = 23)) || (decide (r.wAt = 0)))) && ((decide (r.fn = 8)) || (decide (r.sub = 0)))))] ?_ ?_)
   ·refine bS aF N Z Z Z (fun g10 => ?_) (fun g10 => ?_)
    ·have g10' := g10
     try simp only [sB] at g10'
     refine qo N Z (aX bc Z Z aD (by decide) Z ?_)
     refine ry N Z Z Z g10 (qo N Z (bp aD Z Z Z Z Z ?_))
     refine ry N Z Z Z g10 (qo N Z (bF Z Z ?_))
     refine ry N Z Z Z g10 (qm N Z Z (cy 4 [Y2,Y0,(59,pB (((((!decide (r.fn = 8)) && (!decide (r.fn = 17))) || (decide (r.at_ = 0))) && (((((decide (1 ≤ r.fn ∧ r.fn ≤ 4)) || (decide (r.fn = 15))) || (decide (r.fn = 16))) || (decide (r.fn = 23))) || (decide (r.count = 0)))) && ((decide (r.fn = 23)) || (decide (r.wAt = 0))))),(67,pB ((decide (r.fn = 8)) || (decide (r.sub = 0))))] ?_ ?_))
     ·refine bS aF N Z Z Z (fun g11 => ?_) (fun g11 => ?_)
      ·have g11' := g11
       try simp only [sB] at g11'
       refine qo N Z (aX bc Z Z aD (by decide) Z ?_)
       refine ry N Z Z Z g11 (qo N Z (bp aD Z Z Z Z Z ?_))
       refine ry N Z Z Z g11 (qo N Z (bF Z Z ?_))
       refine ry N Z Z Z g10 (qo N Z (bd Z g11 Z ?_))
       refine bh (s := 67) Z (dA g11) ?_
       exact bC ⟨⟨Z,Z,Z,Z,trivial⟩,Z,Z⟩
      ·have g11' := g11
       try simp only [sB] at g11'
       refine rn N Z Z Z g11 (rn N Z Z Z g11 (ry N Z Z Z g10 (qo N Z (bg Z g11 Z ?_))))
       refine bh (s := 67) (y := pB ((decide (r.fn = 8)) || (decide (r.sub = 0)))) Z (dz _ g11) ?_
       exact bC ⟨⟨Z,Z,Z,Z,trivial⟩,Z,Z⟩
     ·refine qo N Z (bg Z g10 Z ?_)
      refine bh (s := 68) Z (dI g10) ?_
      exact bC ⟨⟨Z,Z,Z,trivial⟩,Z,Z⟩
    ·have g10' := g10
     try simp only [sB] at g10'
     refine rn N Z Z Z g10 (rn N Z Z Z g10 (rn N Z Z Z g10 (ru N Z Z Z (ru N Z Z Z (ru N Z Z Z (rn N Z Z Z g10 (qo N Z (bd Z g10 Z ?_))))))))
     refine bh (s := 68) (y := pB ((((((!decide (r.fn = 8)) && (!decide (r.fn = 17))) || (decide (r.at_ = 0))) && (((((decide (1 ≤ r.fn ∧ r.fn ≤ 4)) || (decide (r.fn = 15))) || (decide (r.fn = 16))) || (decide (r.fn = 23))) || (decide (r.count = 0)))) && ((decide (r.fn = 23)) || (decide (r.wAt = 0)))) && ((decide (r.fn = 8)) || (decide (r.sub = 0))))) Z (dJ _ g10) ?_
     exact bC ⟨⟨Z,Z,Z,trivial⟩,Z,Z⟩
   ·refine qm N Z Z (cy 12 [(81,pB (((((((!decide (r.fn = 8)) && (!decide (r.fn = 17))) || (decide (r.at_ = 0))) && (((((decide (1 ≤ r.fn ∧ r.fn ≤ 4)) || (decide (r.fn = 15))) || (decide (r.fn = 16))) || (decide (r.fn = 23))) || (decide (r.count = 0)))) && ((decide (r.fn = 23)) || (decide (r.wAt = 0)))) && ((decide (r.fn = 8)) || (decide (r.sub = 0)))) && ((decide (r.fn = 22)) || ((decide (r.and_ = 0)) && (decide (r.or_ = 0))))))] ?_ ?_)
    ·refine bS aF N Z Z Z (fun g12 => ?_) (fun g12 => ?_)
     ·have g12' := g12
      try simp only [sB] at g12'
      let Y : Nat × PV := (69,pB ((((((!decide (r.fn = 8)) && (!decide (r.fn = 17))) || (decide (r.at_ = 0))) && (((((decide (1 ≤ r.fn ∧ r.fn ≤ 4)) || (decide (r.fn = 15))) || (decide (r.fn = 16))) || (decide (r.fn = 23))) || (decide (r.count = 0)))) && ((decide (r.fn = 23)) || (decide (r.wAt = 0)))) && ((decide (r.fn = 8)) || (decide (r.sub = 0)))))
      refine qm N Z Z (ry N Z Z Z g12 (qm N Z Z (cy 9 [Y,(80,pB ((decide (r.fn = 22)) || ((decide (r.and_ = 0)) && (decide (r.or_ = 0)))))] ?_ ?_)))
      ·refine bS aF N Z Z Z (fun g13 => ?_) (fun g13 => ?_)
       ·have g13' := g13
        try simp only [sB] at g13'
        refine qo N Z (aX bc Z Z bE (by decide) Z ?_)
        refine ry N Z Z Z g13 (qo N Z (bp bE Z Z Z Z Z ?_))
        refine ry N Z Z Z g13 (qo N Z (te (a := r.and_) (b := 0) Z Z ?_))
        refine ry N Z Z Z g13 (qm N Z Z (cy 4 [Y,(71,pB (decide (r.fn = 22))),(79,pB ((decide (r.and_ = 0)) && (decide (r.or_ = 0))))] ?_ ?_))
        ·refine bS aF N Z Z Z (fun g14 => ?_) (fun g14 => ?_)
         ·have g14' := g14
          try simp only [sB] at g14'
          refine qo N Z (aX bc Z Z bE (by decide) Z ?_)
          refine ry N Z Z Z g14 (qo N Z (bp bE Z Z Z Z Z ?_))
          refine ry N Z Z Z g14 (qo N Z (te (a := r.or_) (b := 0) Z Z ?_))
          refine ry N Z Z Z g13 (qo N Z (bg Z g14 Z ?_))
          refine bh (s := 79) Z (dI g14) ?_
          exact bC ⟨⟨Z,Z,Z,trivial⟩,Z,Z⟩
         ·have g14' := g14
          try simp only [sB] at g14'
          refine rn N Z Z Z g14 (rn N Z Z Z g14 (ry N Z Z Z g13 (qo N Z (bd Z g14 Z ?_))))
          refine bh (s := 79) (y := pB ((decide (r.and_ = 0)) && (decide (r.or_ = 0)))) Z (dJ _ g14) ?_
          exact bC ⟨⟨Z,Z,Z,trivial⟩,Z,Z⟩
        ·refine ry N Z Z Z g12 (qo N Z (bd Z g13 Z ?_))
         refine bh (s := 80) Z (dA g13) ?_
         exact bC ⟨⟨Z,Z,trivial⟩,Z,Z⟩
       ·have g13' := g13
        try simp only [sB] at g13'
        refine rn N Z Z Z g13 (rn N Z Z Z g13 (rn N Z Z Z g13 (ru N Z Z Z (ru N Z Z Z (ru N Z Z Z (rn N Z Z Z g13 (ry N Z Z Z g12 (qo N Z (bg Z g13 Z ?_)))))))))
        refine bh (s := 80) (y := pB ((decide (r.fn = 22)) || ((decide (r.and_ = 0)) && (decide (r.or_ = 0))))) Z (dz _ g13) ?_
        exact bC ⟨⟨Z,Z,trivial⟩,Z,Z⟩
      ·refine qo N Z (bg Z g12 Z ?_)
       refine bh (s := 81) Z (dI g12) ?_
       exact bC ⟨⟨Z,trivial⟩,Z,Z⟩
     ·have g12' := g12
      try simp only [sB] at g12'
      refine rn N Z Z Z g12 (ru N Z Z Z (ru N Z Z Z (ru N Z Z Z (ru N Z Z Z (ru N Z Z Z (ru N Z Z Z (ru N Z Z Z (ru N Z Z Z (rn N Z Z Z g12 ?_)))))))))
      refine qo N Z (bd Z g12 Z ?_)
      refine bh (s := 81) (y := pB (((((((!decide (r.fn = 8)) && (!decide (r.fn = 17))) || (decide (r.at_ = 0))) && (((((decide (1 ≤ r.fn ∧ r.fn ≤ 4)) || (decide (r.fn = 15))) || (decide (r.fn = 16))) || (decide (r.fn = 23))) || (decide (r.count = 0)))) && ((decide (r.fn = 23)) || (decide (r.wAt = 0)))) && ((decide (r.fn = 8)) || (decide (r.sub = 0)))) && ((decide (r.fn = 22)) || ((decide (r.and_ = 0)) && (decide (r.or_ = 0)))))) Z (dJ _ g12) ?_
      exact bC ⟨⟨Z,trivial⟩,Z,Z⟩
    ·exact ae N Z Z (aq (s := 2) Z (congrArg pB (show (((((((!decide (r.fn = 8)) && (!decide (r.fn = 17))) || (decide (r.at_ = 0))) && (((((decide (1 ≤ r.fn ∧ r.fn ≤ 4)) || (decide (r.fn = 15))) || (decide (r.fn = 16))) || (decide (r.fn = 23))) || (decide (r.count = 0)))) && ((decide (r.fn = 23)) || (decide (r.wAt = 0)))) && ((decide (r.fn = 8)) || (decide (r.sub = 0)))) && ((decide (r.fn = 22)) || ((decide (r.and_ = 0)) && (decide (r.or_ = 0))))) = (fZ r) by unfold fZ; apply Bool.eq_iff_iff.2; simp only [Bool.and_eq_true,Bool.or_eq_true,Bool.not_eq_true',decide_eq_true_eq,decide_eq_false_iff_not,u16z]; try omega)) (w_ret fp))
theorem mQ (r : TRequest) (hb : r.bits.length ≤ 140737488351232) (hv : r.vals.length ≤ 140737488351232) :
    T Tryz.prog 68 [PV.f (bx r)] 0 [] (Ret (pI (bK r)) 0 []) := by
 refine bn aF (n := 63) (rs := [.tmp 2]) Tryz.func68 Z Z Z Z (nb Z) ?_
 intro c N hk
 refine sr (qo N Z (cu Z Z ?_))
 let Y2 : ah := [(0,.obj (cd r))]
 let Y3 : Nat × PV := (1,PV.ptr 0 0)
 refine qa N Z Z (aE [Y3] Y2 1 ⟨Z,trivial⟩ Z Z (re (an (aP (sr ?_)))))
 refine xp N 2 [.o 2] [] [(5,pI r.fn)] (qo N Z (aO Z Z Z (oE r.fn) Z ?_))
 refine xp N 2 [.o 2] [] [(3,pB (!(bO r.fn)))] (re (av Z (fun c1 => ?_) (fun c1 => ?_)))
 ·have c1_ := c1
  try simp only [sB] at c1
  exact sr (ae N Z Z (aq (s := 2) Z (congrArg pI (show 15 = (bK r) by exact (jV c1_).symm)) (w_ret (am (af fp)))))
 have c1_ := c1
 try simp only [sB] at c1
 refine sr (xp N 1 [.o 1] [] [(9,PV.f (bx r))] (qo N Z (aO Z Z Z (qX r (by omega) (by omega)) Z ?_)))
 refine xp N 26 [.o 2,.b 4 [.o 2,.c (pB (aY r.at_)),.o 1],.o 1,.b 4 [.o 2,.c (pB (aY r.wAt)),.o 1],.o 1,.b 4 [.o 2,.c (pB (aY r.sub)),.o 1],.o 1,.b 4 [.o 2,.c (pB (aY r.count)),.o 1],.o 1] [(!(fZ r)) = false → AllP [T Tryz.prog 81 [pI r.at_] 0 [] (Ret (pB (aY r.at_)) 0 [])],((!(fZ r)) || (!(aY r.at_))) = false → AllP [T Tryz.prog 81 [pI r.wAt] 0 [] (Ret (pB (aY r.wAt)) 0 [])],(((!(fZ r)) || (!(aY r.at_))) || (!(aY r.wAt))) = false → AllP [T Tryz.prog 81 [pI r.sub] 0 [] (Ret (pB (aY r.sub)) 0 [])],((((!(fZ r)) || (!(aY r.at_))) || (!(aY r.wAt))) || (!(aY r.sub))) = false → AllP [T Tryz.prog 81 [pI r.count] 0 [] (Ret (pB (aY r.count)) 0 [])]] [(8,pB (((((!(fZ r)) || (!(aY r.at_))) || (!(aY r.wAt))) || (!(aY r.sub))) || (!(aY r.count))))] ?_ (hc := ⟨by intro hq; (try simp only [sB] at hq); exact ⟨(w_pdu_within r.at_),trivial⟩,by intro hq; (try simp only [sB] at hq); exact ⟨(w_pdu_within r.wAt),trivial⟩,by intro hq; (try simp only [sB] at hq); exact ⟨(w_pdu_within r.sub),trivial⟩,by intro hq; (try simp only [sB] at hq); exact ⟨(w_pdu_within r.count),trivial⟩,trivial⟩)
 refine re (av Z (fun c2 => ?_) (fun c2 => ?_))
 ·have c2_ := c2
  try simp only [sB] at c2
  exact sr (ae N Z Z (aq (s := 2) Z (congrArg pI (show 12 = (bK r) by exact (kq c1 (fun h => Bool.noConfusion (c2_.symm.trans h.1))).symm)) (w_ret (am (af fp)))))
 have c2_ := c2
 try simp only [sB] at c2
 refine an (cK N (xq 7 [.o 2,.c (pN r.bits.length),.o 1,.c (pI (gh r)),.o 2] [cC ar r.bits,T Tryz.prog 82 [PV.f (bx r)] 0 [] (Ret (pI (gh r)) 0 [])] ?_ (hc := ⟨lenC_ok _ _,(tT r (by omega) (by omega)),trivial⟩)))
 let Y : Nat × PV := (43,pB (!decide (((r.bits.length : Nat) : Int) = gh r)))
 refine xi 43 [Y,Y3] Z (fun g5 => ?_) (fun g5 => ?_)
 ·have g5' := g5
  try simp only [sB] at g5'
  refine bU [Y,Y3] [] [] [] Y2 (aX bc Z Z bf (by decide) Z ⟨Z,Z,Z⟩) (cw 43 [Y,(44,PV.ptr 0 6)] Z g5 (bU [Y,(44,PV.ptr 0 6)] Y2 [] Y2 Y2 (bp bf Z Z Z Z Z ⟨Z,Z,Z⟩) ?_ (hs := ⟨Z,trivial⟩)))
  refine cw 43 [Y,(45,pS 1 false aj r.vals)] Z g5 (bU [Y,(45,pS 1 false aj r.vals)] [] [] [] Y2 (ca (l := r.vals) bf Z (cf (f := aj) Z) ⟨Z,Z,Z⟩) (cw 43 [Y,Y3] Z g5 (bU [Y,Y3] Y2 [] Y2 Y2 (bj bc Z Z Z (nb Z) ⟨Z,Z,Z⟩) ?_ (hs := ⟨Z,trivial⟩))))
  refine cw 43 [Y,(47,PV.f (bx r))] Z g5 (bU [Y,(47,PV.f (bx r))] [] [] [] Y2 (aO Z Z Z (tS r (by omega) (by omega)) Z ⟨Z,Z,Z⟩) (cw 43 [Y,(46,pN r.vals.length),(48,pI (eQ r))] Z g5 (bU [Y,(46,pN r.vals.length),(48,pI (eQ r))] [] [] [] Y2 (el Z Z ⟨Z,Z,Z⟩) (xk [Y,(49,pB (!decide (((r.vals.length : Nat) : Int) = eQ r)))] [] [] [] Y2 (bd Z g5 Z ⟨Z,Z,Z⟩) (xq 1 [.o 1] [] ?_)))))
  let Y0 : Nat × PV := (51,pB (!decide (((r.vals.length : Nat) : Int) = eQ r)))
  refine xi 51 [Y0,Y3] Z (fun g6 => ?_) (fun g6 => ?_)
  ·have g6' := g6
   try simp only [sB] at g6'
   refine bU [Y0,Y3] [] [] [] Y2 (aX bc Z Z bT (by decide) Z ⟨Z,Z,Z⟩) (cw 51 [Y0,(52,PV.ptr 0 5)] Z g6 (bU [Y0,(52,PV.ptr 0 5)] Y2 [] Y2 Y2 (bp bT Z Z Z Z Z ⟨Z,Z,Z⟩) ?_ (hs := ⟨Z,trivial⟩)))
   refine cw 51 [Y0,(53,pS 1 false ar r.bits)] Z g6 (bU [Y0,(53,pS 1 false ar r.bits)] [] [] [] Y2 (ca (l := r.bits) bT Z (cf (f := ar) Z) ⟨Z,Z,Z⟩) (cw 51 [Y0,(54,pN r.bits.length)] Z g6 (bU [Y0,(54,pN r.bits.length)] [] [] [] Y2 (gM Z Z ⟨Z,Z,Z⟩) (xk [Y0,(55,pB (decide (2040 < ((r.bits.length : Nat) : Int))))] [] [] [] Y2 (bd Z g6 Z ⟨Z,Z,Z⟩) (xq 1 [.o 1] [] ?_)))))
   let Y1 : Nat × PV := (57,pB (decide (2040 < ((r.bits.length : Nat) : Int))))
   refine xi 57 [Y1,Y3] Z (fun g7 => ?_) (fun g7 => ?_)
   ·have g7' := g7
    try simp only [sB] at g7'
    refine bU [Y1,Y3] [] [] [] Y2 (aX bc Z Z bf (by decide) Z ⟨Z,Z,Z⟩) (cw 57 [Y1,(58,PV.ptr 0 6)] Z g7 (bU [Y1,(58,PV.ptr 0 6)] Y2 [] Y2 Y2 (bp bf Z Z Z Z Z ⟨Z,Z,Z⟩) ?_ (hs := ⟨Z,trivial⟩)))
    refine cw 57 [Y1,(59,pS 1 false aj r.vals)] Z g7 (bU [Y1,(59,pS 1 false aj r.vals)] [] [] [] Y2 (ca (l := r.vals) bf Z (cf (f := aj) Z) ⟨Z,Z,Z⟩) (cw 57 [Y1,(60,pN r.vals.length)] Z g7 (bU [Y1,(60,pN r.vals.length)] [] [] [] Y2 (gM Z Z ⟨Z,Z,Z⟩) (xk [Y1,(61,pB (decide (127 < ((r.vals.length : Nat) : Int))))] [] [] [] Y2 (bd Z g7 Z ⟨Z,Z,Z⟩) (xq 1 [.o 1] [] ?_)))))
    refine xe [(36,pB (decide (127 < ((r.vals.length : Nat) : Int))))] (re (av Z (fun c3 => ?_) (fun c3 => ?_)))
    ·try simp only [sB] at c3
     exact sr (ae N Z Z (aq (s := 2) Z (congrArg pI (show 12 = (bK r) by exact (kq c1 (fun h => by omega)).symm)) (w_ret (am (af fp)))))
    try simp only [sB] at c3
    exact aw (aG (ak (sr (ae N Z Z (aq (s := 2) Z (congrArg pI (show 0 = (bK r) by exact (zg c1 c2_ (by omega) (by omega) (by omega) (by omega)).symm)) (w_ret fp))))))
   have g7' := g7
   try simp only [sB] at g7'
   refine dj 57 [Y1,(58,aZ)] Z g7 (dj 57 [Y1,(59,aZ)] Z g7 (dj 57 [Y1,(60,aZ)] Z g7 (xk [Y1,(61,aZ)] [] [] [] Y2 (bg Z g7 Z ⟨Z,Z,Z⟩) (xq 1 [.o 1] [] (xe [(36,pB true)] ?_)))))
   refine re (av Z (fun _ => ?_) (fun e => absurd e (by decide)))
   exact sr (ae N Z Z (aq (s := 2) Z (congrArg pI (show 12 = (bK r) by exact (kq c1 (fun h => by omega)).symm)) (w_ret (am (af fp)))))
  have g6' := g6
  try simp only [sB] at g6'
  refine dj 51 [Y0,(52,aZ)] Z g6 (dj 51 [Y0,(53,aZ)] Z g6 (dj 51 [Y0,(54,aZ)] Z g6 (xk [Y0,(55,aZ)] [] [] [] Y2 (bg Z g6 Z ⟨Z,Z,Z⟩) (xq 7 [.o 7] [] (xe [(36,pB true)] ?_)))))
  refine re (av Z (fun _ => ?_) (fun e => absurd e (by decide)))
  exact sr (ae N Z Z (aq (s := 2) Z (congrArg pI (show 12 = (bK r) by exact (kq c1 (fun h => by omega)).symm)) (w_ret (am (af fp)))))
 have g5' := g5
 try simp only [sB] at g5'
 refine dj 43 [Y,(44,aZ)] Z g5 (dj 43 [Y,(45,aZ)] Z g5 (dj 43 [Y,Y3] Z g5 (dj 43 [Y,(47,aZ)] Z g5 (dj 43 [Y,(46,aZ),(48,aZ)] Z g5 (xk [Y,(49,aZ)] [] [] [] Y2 (bg Z g5 Z ⟨Z,Z,Z⟩) ?_)))))
 refine xq 13 [.o 13] [] (xe [(36,pB true)] (re (av Z (fun _ => ?_) (fun e => absurd e (by decide)))))
 exact sr (ae N Z Z (aq (s := 2) Z (congrArg pI (show 12 = (bK r) by exact (kq c1 (fun h => by omega)).symm)) (w_ret (am (af fp)))))
theorem w_burgageref3_bits (s : List Bool) (cl_s : Bool) (m : List Bool) (cl_m : Bool) (hs : s.length ≤ 140737488355328) :
    T Tryz.prog 41 [pS 1 cl_s ar s,pS 1 cl_m ar m] 0 [] (Ret (pB (decide (s = m))) 0 []) := by
 refine bn aF (n := 26) (rs := [.tmp 4]) Tryz.func41 Z Z Z Z (nb Z) ?_
 intro c N hk
 refine sr (ae N Z Z (an (sr (xp N 5 [.o 1,.c (pN s.length),.o 1,.c (pN m.length),.o 1] [cC ar s,cC ar m] [(10,pB (!decide (((s.length : Nat) : Int) = ((m.length : Nat) : Int))))] ?_ (hc := ⟨lenC_ok _ _,lenC_ok _ _,trivial⟩)))))
 refine re (av Z (fun c1 => ?_) (fun c1 => ?_))
 ·try simp only [sB] at c1
  have hne : s ≠ m := fun e => by subst e; simp at c1
  exact sr (ae N Z Z (aq (s := 4) Z (congrArg pB (show false = (decide (s = m)) by simp [hne])) (w_ret (af fp))))
 try simp only [sB] at c1
 have hlm : s.length = m.length := by omega
 refine aw (ak (an (sr (qm N Z Z (qo N Z (ca (l := s) bT Z (cf (f := ar) Z) ?_))))))
 refine qm N Z Z (re (aP (gu (fun (i : Nat) => i ≤ s.length ∧ s.take i = m.take i) (fun (i : Nat) => [(0,pS 1 cl_s ar s),(1,pS 1 cl_m ar m),(12,pN s.length),(13,pN i)]) 0 (fun (i : Nat) => []) (fun (i : Nat) => s.length - i) (0) ?_ ⟨[],Z,⟨⟨_,Z,Z,Z⟩,⟨_,Z,Z,Z⟩,⟨_,Z,Z,Z⟩,⟨_,Z,Z,Z⟩,trivial⟩,trivial,by rw [hk]; decide⟩ ?_)))
 · exact ⟨Nat.zero_le _,by simp⟩
 ·intro i hI
  obtain ⟨hi,ht⟩ := hI
  refine sr (qo N Z (cZ Z Z ?_))
  refine re (an (av Z (fun c2 => ?_) (fun c2 => ?_)))
  ·try simp only [sB] at c2
   refine aw (ak (an (aP (sr (xp N 2 [.o 2] [] [(5,pN i)] ?_)))))
   refine re (an (cK N (xq 2 [.o 2] [] ?_)))
   obtain ⟨e1,he1⟩ := bl s (i := i) (by omega)
   refine xk [(16,pS 1 cl_s ar s),(17,pN i)] [] [] [] [] (cA (q := i) (b := e1) (f := ar) bT Z dE Z Z (by omega) Z he1 ⟨Z,Z,Z⟩) (xq 3 [.o 3] [] ?_)
   obtain ⟨e2,he2⟩ := bl m (i := i) (by omega)
   refine xk [(20,pS 1 cl_m ar m),(21,pN i)] [] [] [] [] (cA (q := i) (b := e2) (f := ar) bT Z dE Z Z (by omega) Z he2 ⟨Z,Z,Z⟩) (xq 2 [.o 2] [] (xe [(0,pS 1 cl_s ar s),(1,pS 1 cl_m ar m),(12,pN s.length),(13,pN i),(24,pB (!(e1 == e2)))] (re (av Z (fun c3 => ?_) (fun c3 => ?_)))))
   ·try simp only [sB] at c3
    have hne : s ≠ m := fun e => by subst e; rw [he1] at he2; cases he2; simp at c3
    exact sr (ae N Z Z (aq (s := 4) Z (congrArg pB (show false = (decide (s = m)) by simp [hne])) (w_ret (am (af (af (am (af fp))))))))
   try simp only [sB] at c3
   have c3e : e1 = e2 := by simpa using c3
   refine aw (aG (ak (bk (qo N Z (cm (a := i) (b := 1) Z Z (by omega) (by omega) (by omega) ?_)))))
   refine qm N Z Z (re (⟨(i + 1), ?_, ?_,⟨[],Z,⟨⟨_,Z,Z,Z⟩,⟨_,Z,Z,Z⟩,⟨_,Z,Z,Z⟩,⟨_,Z,Z,Z⟩,trivial⟩,trivial,by rw [hk]; decide⟩⟩))
   ·refine ⟨by omega, ?_⟩
    rw [List.take_add_one,List.take_add_one,he1,he2,ht,c3e]
   · omega
  try simp only [sB] at c2
  have h1 : s.take i = s := List.take_of_length_le (by omega)
  have h2 : m.take i = m := List.take_of_length_le (by omega)
  have he : s = m := by rw [← h1,← h2,ht]
  exact cG (aL (aL (bq (ak (sr (ae N Z Z (aq (s := 4) Z (congrArg pB (show true = (decide (s = m)) by simp [he])) (w_ret fp))))))))
theorem w_burgageref3_vals (s : List UInt16) (cl_s : Bool) (m : List UInt16) (cl_m : Bool) (hs : s.length ≤ 140737488355328) :
    T Tryz.prog 42 [pS 1 cl_s aj s,pS 1 cl_m aj m] 0 [] (Ret (pB (decide (s = m))) 0 []) := by
 refine bn aF (n := 26) (rs := [.tmp 4]) Tryz.func42 Z Z Z Z (nb Z) ?_
 intro c N hk
 refine sr (ae N Z Z (an (sr (xp N 5 [.o 1,.c (pN s.length),.o 1,.c (pN m.length),.o 1] [cC aj s,cC aj m] [(10,pB (!decide (((s.length : Nat) : Int) = ((m.length : Nat) : Int))))] ?_ (hc := ⟨lenC_ok _ _,lenC_ok _ _,trivial⟩)))))
 refine re (av Z (fun c1 => ?_) (fun c1 => ?_))
 ·try simp only [sB] at c1
  have hne : s ≠ m := fun e => by subst e; simp at c1
  exact sr (ae N Z Z (aq (s := 4) Z (congrArg pB (show false = (decide (s = m)) by simp [hne])) (w_ret (af fp))))
 try simp only [sB] at c1
 have hlm : s.length = m.length := by omega
 refine aw (ak (an (sr (qm N Z Z (qo N Z (ca (l := s) bf Z (cf (f := aj) Z) ?_))))))
 refine qm N Z Z (re (aP (gu (fun (i : Nat) => i ≤ s.length ∧ s.take i = m.take i) (fun (i : Nat) => [(0,pS 1 cl_s aj s),(1,pS 1 cl_m aj m),(12,pN s.length),(13,pN i)]) 0 (fun (i : Nat) => []) (fun (i : Nat) => s.length - i) (0) ?_ ⟨[],Z,⟨⟨_,Z,Z,Z⟩,⟨_,Z,Z,Z⟩,⟨_,Z,Z,Z⟩,⟨_,Z,Z,Z⟩,trivial⟩,trivial,by rw [hk]; decide⟩ ?_)))
 · exact ⟨Nat.zero_le _,by simp⟩
 ·intro i hI
  obtain ⟨hi,ht⟩ := hI
  refine sr (qo N Z (cZ Z Z ?_))
  refine re (an (av Z (fun c2 => ?_) (fun c2 => ?_)))
  ·try simp only [sB] at c2
   refine aw (ak (an (aP (sr (xp N 2 [.o 2] [] [(5,pN i)] ?_)))))
   refine re (an (cK N (xq 2 [.o 2] [] ?_)))
   obtain ⟨e1,he1⟩ := bl s (i := i) (by omega)
   refine xk [(16,pS 1 cl_s aj s),(17,pN i)] [] [] [] [] (cA (q := i) (b := e1) (f := aj) bf Z bE Z Z (by omega) Z he1 ⟨Z,Z,Z⟩) (xq 3 [.o 3] [] ?_)
   obtain ⟨e2,he2⟩ := bl m (i := i) (by omega)
   refine xk [(20,pS 1 cl_m aj m),(21,pN i)] [] [] [] [] (cA (q := i) (b := e2) (f := aj) bf Z bE Z Z (by omega) Z he2 ⟨Z,Z,Z⟩) (xq 2 [.o 1,.c (pB (!decide (e1 = e2)))] [qC e1 e2] ?_ (hc := ⟨nk _ _,trivial⟩))
   refine xe [(0,pS 1 cl_s aj s),(1,pS 1 cl_m aj m),(12,pN s.length),(13,pN i),(24,pB (!decide (e1 = e2)))] (re (av Z (fun c3 => ?_) (fun c3 => ?_)))
   ·try simp only [sB] at c3
    have hne : s ≠ m := fun e => by subst e; rw [he1] at he2; cases he2; simp at c3
    exact sr (ae N Z Z (aq (s := 4) Z (congrArg pB (show false = (decide (s = m)) by simp [hne])) (w_ret (am (af (af (am (af fp))))))))
   try simp only [sB] at c3
   have c3e : e1 = e2 := by simpa using c3
   refine aw (aG (ak (bk (qo N Z (cm (a := i) (b := 1) Z Z (by omega) (by omega) (by omega) ?_)))))
   refine qm N Z Z (re (⟨(i + 1), ?_, ?_,⟨[],Z,⟨⟨_,Z,Z,Z⟩,⟨_,Z,Z,Z⟩,⟨_,Z,Z,Z⟩,⟨_,Z,Z,Z⟩,trivial⟩,trivial,by rw [hk]; decide⟩⟩))
   ·refine ⟨by omega, ?_⟩
    rw [List.take_add_one,List.take_add_one,he1,he2,ht,c3e]
   · omega
  try simp only [sB] at c2
  have h1 : s.take i = s := List.take_of_length_le (by omega)
  have h2 : m.take i = m := List.take_of_length_le (by omega)
  have he : s = m := by rw [← h1,← h2,ht]
  exact cG (aL (aL (bq (ak (sr (ae N Z Z (aq (s := 4) Z (congrArg pB (show true = (decide (s = m)) by simp [he])) (w_ret fp))))))))
theorem Bw (n : Int) : inS (aV n) 97 = decide (n = 1 ∨ n = 2 ∨ n = 3 ∨ n = 4 ∨ n = 5 ∨ n = 6 ∨ n = 15 ∨ n = 16 ∨ n = 22 ∨ n = 23) ∧ inS (aV n) 99 = decide (n = 1 ∨ n = 2 ∨ n = 3 ∨ n = 4 ∨ n = 15 ∨ n = 16 ∨ n = 23) := by
  by_cases h : n = 1 ∨ n = 2 ∨ n = 3 ∨ n = 4 ∨ n = 5 ∨ n = 6 ∨ n = 8 ∨ n = 15 ∨ n = 16 ∨ n = 22 ∨ n = 23
  · rcases h with h|h|h|h|h|h|h|h|h|h|h <;> subst h <;> decide
  · have e : aV n = [] := by
      unfold aV
      rw [if_neg (by omega),if_neg (by omega),if_neg (by omega),if_neg (by omega),if_neg (by omega),if_neg (by omega),if_neg (by omega),if_neg (by omega)]
    have i0 : ∀ c,inS [] c = false := fun c => rfl
    rw [e,i0,i0]
    exact ⟨(decide_eq_false (by omega)).symm,(decide_eq_false (by omega)).symm⟩
def cJ (b : List UInt8) (k : Nat) : List UInt16 := if b.length ≤ k then [] else fd (b.drop k)
def fo (b : List UInt8) (k : Nat) : List UInt16 := if b.length ≤ k then [] else fd ((b.take (b.length - (b.length - k) % 2)).drop k)
def eY (f : Int) (b : List UInt8) : Int := if f = 1 ∨ f = 2 ∨ f = 3 ∨ f = 4 ∨ f = 5 ∨ f = 6 ∨ f = 15 ∨ f = 16 ∨ f = 22 ∨ f = 23 then bA b 1 else 0
def cM (f : Int) (b : List UInt8) : Int := if f = 1 ∨ f = 2 ∨ f = 3 ∨ f = 4 ∨ f = 15 ∨ f = 16 ∨ f = 23 then bA b 3 else 0
def cL (b : List UInt8) : TRequest :=
  let f : Int := (((b.getD 0 0).toNat : Nat) : Int)
  if f = 5 then ⟨f,eY f b,cM f b,0,0,[!decide (bA b 3 = 0)],[],0,0⟩
  else if f = 6 then ⟨f,eY f b,cM f b,0,0,[],cJ b 3,0,0⟩
  else if f = 8 then ⟨f,eY f b,cM f b,0,bA b 1,[],cJ b 3,0,0⟩
  else if f = 15 then ⟨f,eY f b,cM f b,0,0,(if 6 < b.length then dh (b.drop 6) (cM f b) else []),[],0,0⟩
  else if f = 16 then ⟨f,eY f b,cM f b,0,0,[],cJ b 6,0,0⟩
  else if f = 22 then ⟨f,eY f b,cM f b,0,0,[],[],bV (bA b 3),bV (bA b 5)⟩
  else if f = 23 then ⟨f,eY f b,cM f b,bA b 5,0,[],cJ b 10,0,0⟩
  else ⟨f,eY f b,cM f b,0,0,[],[],0,0⟩
def ex (b : List UInt8) : TRequest :=
  let f : Int := (((b.getD 0 0).toNat : Nat) : Int)
  if f = 17 then ⟨f,0,0,0,0,[],[],0,0⟩
  else if f = 8 then ⟨f,0,0,0,bA b 1,[],fo b 3,0,0⟩
  else if f = 5 then ⟨f,bA b 1,0,0,0,[decide (bA b 3 = 65280)],[],0,0⟩
  else if f = 6 then ⟨f,bA b 1,0,0,0,[],fo b 3,0,0⟩
  else if f = 22 then ⟨f,bA b 1,0,0,0,[],[],bV (bA b 3),bV (bA b 5)⟩
  else if f = 15 then ⟨f,bA b 1,bA b 3,0,0,(if 6 ≤ b.length then dh (b.drop 6) (bA b 3) else []),[],0,0⟩
  else if f = 16 then ⟨f,bA b 1,bA b 3,0,0,[],fo b 6,0,0⟩
  else if f = 23 then ⟨f,bA b 1,bA b 3,bA b 5,0,[],fo b 10,0,0⟩
  else ⟨f,bA b 1,bA b 3,0,0,[],[],0,0⟩
theorem nj {a : Int} (h : 0 ≤ a ∧ a ≤ 65535) : (bz (a / 2 ^ 8)).toNat * 256 + (bz a).toNat = a.toNat := by
  rw [ky,ky]; omega
theorem ir {x : UInt8}{a : Int}{r : List UInt8} (h : 0 ≤ a ∧ a ≤ 65535) : bA (x :: (aJ a ++ r)) 1 = a := by
  unfold bA
  rw [if_pos (by unfold gg; simp; omega)]
  have e : mi (x :: (aJ a ++ r)) (Int.toNat 1) = (bz (a / 2 ^ 8)).toNat * 256 + (bz a).toNat := rfl
  rw [e,nj h]; omega
theorem iq {x : UInt8}{a c : Int}{r : List UInt8} (h : 0 ≤ c ∧ c ≤ 65535) : bA (x :: (aJ a ++ (aJ c ++ r))) 3 = c := by
  unfold bA
  rw [if_pos (by unfold gg; simp; omega)]
  have e : mi (x :: (aJ a ++ (aJ c ++ r))) (Int.toNat 3) = (bz (c / 2 ^ 8)).toNat * 256 + (bz c).toNat := rfl
  rw [e,nj h]; omega
theorem vJ {x : UInt8}{a c d : Int}{r : List UInt8} (h : 0 ≤ d ∧ d ≤ 65535) : bA (x :: (aJ a ++ (aJ c ++ (aJ d ++ r)))) 5 = d := by
  unfold bA
  rw [if_pos (by unfold gg; simp; omega)]
  have e : mi (x :: (aJ a ++ (aJ c ++ (aJ d ++ r)))) (Int.toNat 5) = (bz (d / 2 ^ 8)).toNat * 256 + (bz d).toNat := rfl
  rw [e,nj h]; omega
theorem qd (v : UInt16) : bW [v] = aJ ((v.toNat : Nat) : Int) := by
  have hv := v.toNat_lt
  have e1 : (v >>> UInt16.ofNat 8).toUInt8 = bz (((v.toNat : Nat) : Int) / 2 ^ 8) := by
    apply UInt8.toNat_inj.1
    rw [UInt16.toNat_toUInt8,UInt16.toNat_shiftRight,ky]
    have : (UInt16.ofNat 8).toNat % 16 = 8 := rfl
    rw [this,Nat.shiftRight_eq_div_pow]; omega
  have e2 : v.toUInt8 = bz ((v.toNat : Nat) : Int) := by
    apply UInt8.toNat_inj.1
    rw [UInt16.toNat_toUInt8,ky]; omega
  have e0 : bW [v] = [(v >>> UInt16.ofNat 8).toUInt8,v.toUInt8] := rfl
  rw [e0,e1,e2]; rfl
theorem jH {b : List UInt8}{k : Nat}{l : List UInt16} (h : b.drop k = bW l) (hb : b.length = k + 2 * l.length) (hl : 0 < l.length ∨ b.length ≤ k) : cJ b k = l ∧ fo b k = l := by
  have w := mN l
  unfold cJ fo
  by_cases h0 : b.length ≤ k
  · rw [if_pos h0,if_pos h0]
    have : l = [] := List.eq_nil_of_length_eq_zero (by omega)
    rw [this]; exact ⟨rfl,rfl⟩
  · rw [if_neg h0,if_neg h0]
    have e : b.length - (b.length - k) % 2 = b.length := by omega
    rw [e,List.take_length,h]
    exact ⟨w.2,w.2⟩
theorem oW {f : Int} (h : bO f = true) : (((bz f).toNat : Nat) : Int) = f := by
  have := hasF_of h
  rw [ky]; omega
theorem kY {l : List UInt16} (h : l.length = 1) : ∃ v,l = [v] := by
  match l,h with
  | [v],_ => exact ⟨v,rfl⟩
theorem xL {l : List Bool} (h : l.length = 1) : ∃ v,l = [v] := by
  match l,h with
  | [v],_ => exact ⟨v,rfl⟩
theorem lR (v : UInt16) : bV ((v.toNat : Nat) : Int) = v := by
  apply UInt16.toNat_inj.1
  have := v.toNat_lt
  rw [tW]; omega
theorem eP (x : UInt8) (r : List UInt8) : (x :: r).getD 0 0 = x := rfl
theorem sU {q : TRequest} (h : bK q = 0) : cL (cx q) = q ∧ ex (cx q) = q := by
  obtain ⟨hf,hs⟩ := cR h
  obtain ⟨wa,wc,ww,ws,za,zc,zw,zs,zm,hb,hv⟩ := hs
  have hfb := oW hf
  have hc := hasF_of hf
  obtain ⟨f,at_,count,wAt,sub,bits,vals,and_,or_⟩ := q
  simp only at *
  have z0 : ∀ x : UInt16,x.toNat = 0 → x = 0 := fun x hx => UInt16.toNat_inj.1 hx
  have nb : bits.length = 0 → bits = [] := List.eq_nil_of_length_eq_zero
  have nv : vals.length = 0 → vals = [] := List.eq_nil_of_length_eq_zero
  by_cases k1 : f = 1 ∨ f = 2 ∨ f = 3 ∨ f = 4
  · rw [qR (by exact k1)]
    rw [if_neg (by omega),if_neg (by omega)] at hb
    rw [if_neg (by omega),if_neg (by omega),if_neg (by omega)] at hv
    have e1 : bA (bz f :: (aJ at_ ++ aJ count)) 1 = at_ := ir wa
    have e3 : bA (bz f :: (aJ at_ ++ aJ count)) 3 = count := by have := iq (x := bz f) (a := at_) (r := []) wc; rwa [List.append_nil] at this
    have m := zm (by omega)
    unfold cL ex eY cM
    simp only [eP,hfb,e1,e3]
    constructor
    · repeat rw [if_neg (by omega)]
      rw [if_pos (by omega),if_pos (by omega),zw (by omega),zs (by omega),nb hb,nv hv,z0 _ m.1,z0 _ m.2]
    · repeat rw [if_neg (by omega)]
      rw [zw (by omega),zs (by omega),nb hb,nv hv,z0 _ m.1,z0 _ m.2]
  have hc2 : f = 5 ∨ f = 6 ∨ f = 8 ∨ f = 15 ∨ f = 16 ∨ f = 17 ∨ f = 22 ∨ f = 23 := by omega
  clear hc
  rcases hc2 with k|k|k|k|k|k|k|k <;> subst k
  · obtain ⟨e,he⟩ := xL (by simpa using hb)
    have hv0 := nv (by simpa using hv)
    have m := zm (by decide)
    rw [m0 rfl (e := e) (by simp [he])]
    have c0 := zc (by decide)
    subst he; subst hv0
    have e1 : bA (bz 5 :: (aJ at_ ++ aJ (if e = true then 65280 else 0))) 1 = at_ := ir wa
    have e3 : bA (bz 5 :: (aJ at_ ++ aJ (if e = true then 65280 else 0))) 3 = (if e = true then 65280 else 0) := by have := iq (x := bz 5) (a := at_) (c := if e = true then 65280 else 0) (r := []) (by split <;> decide); rwa [List.append_nil] at this
    unfold cL ex eY cM
    simp only [eP,hfb,e1,e3]
    rw [c0,zw (by decide),zs (by decide),z0 _ m.1,z0 _ m.2]
    cases e <;> exact ⟨rfl,rfl⟩
  · obtain ⟨e,he⟩ := kY (by simpa using hv)
    have hb0 := nb (by simpa using hb)
    have m := zm (by decide)
    rw [qQ rfl (e := e) (by simp [he])]
    have c0 := zc (by decide)
    subst he; subst hb0
    have e1 : bA (bz 6 :: (aJ at_ ++ aJ ((e.toNat : Nat) : Int))) 1 = at_ := ir wa
    obtain ⟨w1,w2⟩ := jH (b := bz 6 :: (aJ at_ ++ aJ ((e.toNat : Nat) : Int))) (k := 3) (l := [e]) (by rw [qd]; rfl) rfl (.inl (by simp))
    unfold cL ex eY cM
    simp only [eP,hfb,e1,w1,w2]
    rw [c0,zw (by decide),zs (by decide),z0 _ m.1,z0 _ m.2]
    exact ⟨rfl,rfl⟩
  · obtain ⟨e,he⟩ := kY (by simpa using hv)
    have hb0 := nb (by simpa using hb)
    have m := zm (by decide)
    rw [qP rfl (e := e) (by simp [he])]
    have c0 := zc (by decide)
    subst he; subst hb0
    have e1 : bA (bz 8 :: (aJ sub ++ aJ ((e.toNat : Nat) : Int))) 1 = sub := ir ws
    obtain ⟨w1,w2⟩ := jH (b := bz 8 :: (aJ sub ++ aJ ((e.toNat : Nat) : Int))) (k := 3) (l := [e]) (by rw [qd]; rfl) rfl (.inl (by simp))
    unfold cL ex eY cM
    simp only [eP,hfb,e1,w1,w2]
    rw [c0,zw (by decide),za (by decide),z0 _ m.1,z0 _ m.2]
    exact ⟨rfl,rfl⟩
  · have hb1 : (bits.length : Int) = count ∧ bits.length ≤ 2040 := by simpa using hb
    have hv0 := nv (by simpa using hv)
    have m := zm (by decide)
    rw [pu rfl]
    subst hv0
    have e1 : bA (bz 15 :: (aJ at_ ++ (aJ count ++ cY (packL bits)))) 1 = at_ := ir wa
    have e3 : bA (bz 15 :: (aJ at_ ++ (aJ count ++ cY (packL bits)))) 3 = count := iq wc
    have d6 : (bz 15 :: (aJ at_ ++ (aJ count ++ cY (packL bits)))).drop 6 = packL bits := rfl
    have hl : (bz 15 :: (aJ at_ ++ (aJ count ++ cY (packL bits)))).length = 6 + (bits.length + 7) / 8 := by simp; omega
    have ob := (pM bits).2
    rw [hb1.1] at ob
    have ea : eY 15 (bz 15 :: (aJ at_ ++ (aJ count ++ cY (packL bits)))) = at_ := by unfold eY; rw [if_pos (by simp),e1]
    have ec : cM 15 (bz 15 :: (aJ at_ ++ (aJ count ++ cY (packL bits)))) = count := by unfold cM; rw [if_pos (by simp),e3]
    unfold cL ex
    simp only [eP,hfb,e1,e3,d6,ea,ec,ob]
    rw [hl,zw (by decide),zs (by decide),z0 _ m.1,z0 _ m.2]
    constructor
    · by_cases h6 : 6 < 6 + (bits.length + 7) / 8
      · rw [if_pos h6]; rfl
      · rw [if_neg h6,nb (by omega)]; rfl
    · rw [if_pos (show 6 ≤ 6 + (bits.length + 7) / 8 by omega)]; rfl
  · have hv1 : (vals.length : Int) = count ∧ vals.length ≤ 127 := by simpa using hv
    have hb0 := nb (by simpa using hb)
    have m := zm (by decide)
    rw [pt rfl]
    subst hb0
    have e1 : bA (bz 16 :: (aJ at_ ++ (aJ count ++ cY (bW vals)))) 1 = at_ := ir wa
    have e3 : bA (bz 16 :: (aJ at_ ++ (aJ count ++ cY (bW vals)))) 3 = count := iq wc
    have hl : (bz 16 :: (aJ at_ ++ (aJ count ++ cY (bW vals)))).length = 6 + 2 * vals.length := by simp; omega
    obtain ⟨w1,w2⟩ := jH (b := bz 16 :: (aJ at_ ++ (aJ count ++ cY (bW vals)))) (k := 6) (l := vals) rfl hl (by omega)
    unfold cL ex eY cM
    simp only [eP,hfb,e1,e3,w1,w2]
    rw [zw (by decide),zs (by decide),z0 _ m.1,z0 _ m.2]
    exact ⟨rfl,rfl⟩
  · have hv0 := nv (by simpa using hv)
    have hb0 := nb (by simpa using hb)
    have m := zm (by decide)
    rw [pp (by simp)]
    subst hb0; subst hv0
    unfold cL ex eY cM
    simp only [eP,hfb]
    rw [za (by decide),zc (by decide),zw (by decide),zs (by decide),z0 _ m.1,z0 _ m.2]
    exact ⟨rfl,rfl⟩
  · have hv0 := nv (by simpa using hv)
    have hb0 := nb (by simpa using hb)
    rw [pr rfl]
    subst hb0; subst hv0
    have ha := and_.toNat_lt
    have ho := or_.toNat_lt
    have e1 : bA (bz 22 :: (aJ at_ ++ (aJ ((and_.toNat : Nat) : Int) ++ aJ ((or_.toNat : Nat) : Int)))) 1 = at_ := ir wa
    have e3 : bA (bz 22 :: (aJ at_ ++ (aJ ((and_.toNat : Nat) : Int) ++ aJ ((or_.toNat : Nat) : Int)))) 3 = ((and_.toNat : Nat) : Int) := iq (by omega)
    have e5 : bA (bz 22 :: (aJ at_ ++ (aJ ((and_.toNat : Nat) : Int) ++ aJ ((or_.toNat : Nat) : Int)))) 5 = ((or_.toNat : Nat) : Int) := by have := vJ (x := bz 22) (a := at_) (c := ((and_.toNat : Nat) : Int)) (d := ((or_.toNat : Nat) : Int)) (r := []) (by omega); rwa [List.append_nil] at this
    unfold cL ex eY cM
    simp only [eP,hfb,e1,e3,e5,lR]
    rw [zc (by decide),zw (by decide),zs (by decide)]
    exact ⟨rfl,rfl⟩
  · have hv1 : vals.length ≤ 127 := by simpa using hv
    have hb0 := nb (by simpa using hb)
    have m := zm (by decide)
    rw [pq rfl]
    subst hb0
    have e1 : bA (bz 23 :: (aJ at_ ++ (aJ count ++ (aJ wAt ++ (aJ ((vals.length : Nat) : Int) ++ cY (bW vals)))))) 1 = at_ := ir wa
    have e3 : bA (bz 23 :: (aJ at_ ++ (aJ count ++ (aJ wAt ++ (aJ ((vals.length : Nat) : Int) ++ cY (bW vals)))))) 3 = count := iq wc
    have e5 : bA (bz 23 :: (aJ at_ ++ (aJ count ++ (aJ wAt ++ (aJ ((vals.length : Nat) : Int) ++ cY (bW vals)))))) 5 = wAt := vJ ww
    have hl : (bz 23 :: (aJ at_ ++ (aJ count ++ (aJ wAt ++ (aJ ((vals.length : Nat) : Int) ++ cY (bW vals)))))).length = 10 + 2 * vals.length := by simp; omega
    obtain ⟨w1,w2⟩ := jH (b := bz 23 :: (aJ at_ ++ (aJ count ++ (aJ wAt ++ (aJ ((vals.length : Nat) : Int) ++ cY (bW vals)))))) (k := 10) (l := vals) rfl hl (by omega)
    unfold cL ex eY cM
    simp only [eP,hfb,e1,e3,e5,w1,w2]
    rw [zs (by decide),z0 _ m.1,z0 _ m.2]
    exact ⟨rfl,rfl⟩
def d8 (q : TRequest) : Bool := decide ((q.fn = 1 ∨ q.fn = 2 → 1 ≤ q.count ∧ q.count ≤ 2000) ∧ (q.fn = 3 ∨ q.fn = 4 → 1 ≤ q.count ∧ q.count ≤ 125) ∧ (q.fn = 15 → 1 ≤ q.count ∧ q.count ≤ 1968) ∧ (q.fn = 16 → 1 ≤ q.count ∧ q.count ≤ 123) ∧
  (q.fn = 23 → (1 ≤ q.count ∧ q.count ≤ 125) ∧ 1 ≤ q.vals.length ∧ q.vals.length ≤ 121))
def ck (q : TRequest) : Bool := decide (bK q = 0) && d8 q
theorem xE {b : List UInt8}{e : UInt8} (h0 : b.getD 0 0 = e) (h : ((e.toNat : Nat) : Int) = 5) : cL b = ⟨((e.toNat : Nat) : Int),eY ((e.toNat : Nat) : Int) b,cM ((e.toNat : Nat) : Int) b,0,0,[!decide (bA b 3 = 0)],[],0,0⟩ := by
  unfold cL; simp only [h0]; rw [if_pos h]
theorem xD {b : List UInt8}{e : UInt8} (h0 : b.getD 0 0 = e) (h : ((e.toNat : Nat) : Int) = 6) : cL b = ⟨((e.toNat : Nat) : Int),eY ((e.toNat : Nat) : Int) b,cM ((e.toNat : Nat) : Int) b,0,0,[],cJ b 3,0,0⟩ := by
  unfold cL; simp only [h0]; rw [if_neg (by omega),if_pos h]
theorem xC {b : List UInt8}{e : UInt8} (h0 : b.getD 0 0 = e) (h : ((e.toNat : Nat) : Int) = 8) : cL b = ⟨((e.toNat : Nat) : Int),eY ((e.toNat : Nat) : Int) b,cM ((e.toNat : Nat) : Int) b,0,bA b 1,[],cJ b 3,0,0⟩ := by
  unfold cL; simp only [h0]; rw [if_neg (by omega),if_neg (by omega),if_pos h]
theorem vH {b : List UInt8}{e : UInt8} (h0 : b.getD 0 0 = e) (h : ((e.toNat : Nat) : Int) = 15) : cL b = ⟨((e.toNat : Nat) : Int),eY ((e.toNat : Nat) : Int) b,cM ((e.toNat : Nat) : Int) b,0,0,(if 6 < b.length then dh (b.drop 6) (cM ((e.toNat : Nat) : Int) b) else []),[],0,0⟩ := by
  unfold cL; simp only [h0]; rw [if_neg (by omega),if_neg (by omega),if_neg (by omega),if_pos h]
theorem vG {b : List UInt8}{e : UInt8} (h0 : b.getD 0 0 = e) (h : ((e.toNat : Nat) : Int) = 16) : cL b = ⟨((e.toNat : Nat) : Int),eY ((e.toNat : Nat) : Int) b,cM ((e.toNat : Nat) : Int) b,0,0,[],cJ b 6,0,0⟩ := by
  unfold cL; simp only [h0]; rw [if_neg (by omega),if_neg (by omega),if_neg (by omega),if_neg (by omega),if_pos h]
theorem vF {b : List UInt8}{e : UInt8} (h0 : b.getD 0 0 = e) (h : ((e.toNat : Nat) : Int) = 22) : cL b = ⟨((e.toNat : Nat) : Int),eY ((e.toNat : Nat) : Int) b,cM ((e.toNat : Nat) : Int) b,0,0,[],[],bV (bA b 3),bV (bA b 5)⟩ := by
  unfold cL; simp only [h0]; rw [if_neg (by omega),if_neg (by omega),if_neg (by omega),if_neg (by omega),if_neg (by omega),if_pos h]
theorem vE {b : List UInt8}{e : UInt8} (h0 : b.getD 0 0 = e) (h : ((e.toNat : Nat) : Int) = 23) : cL b = ⟨((e.toNat : Nat) : Int),eY ((e.toNat : Nat) : Int) b,cM ((e.toNat : Nat) : Int) b,bA b 5,0,[],cJ b 10,0,0⟩ := by
  unfold cL; simp only [h0]; rw [if_neg (by omega),if_neg (by omega),if_neg (by omega),if_neg (by omega),if_neg (by omega),if_neg (by omega),if_pos h]
theorem vD {b : List UInt8}{e : UInt8} (h0 : b.getD 0 0 = e) (h : ((e.toNat : Nat) : Int) ≠ 5 ∧ ((e.toNat : Nat) : Int) ≠ 6 ∧ ((e.toNat : Nat) : Int) ≠ 8 ∧ ((e.toNat : Nat) : Int) ≠ 15 ∧ ((e.toNat : Nat) : Int) ≠ 16 ∧ ((e.toNat : Nat) : Int) ≠ 22 ∧ ((e.toNat : Nat) : Int) ≠ 23) : cL b = ⟨((e.toNat : Nat) : Int),eY ((e.toNat : Nat) : Int) b,cM ((e.toNat : Nat) : Int) b,0,0,[],[],0,0⟩ := by
  unfold cL; simp only [h0]; rw [if_neg (by omega),if_neg (by omega),if_neg (by omega),if_neg (by omega),if_neg (by omega),if_neg (by omega),if_neg (by omega)]
theorem xF {b : List UInt8}{e : UInt8} (h0 : b.getD 0 0 = e) (h : ((e.toNat : Nat) : Int) = 8) : ex b = ⟨((e.toNat : Nat) : Int),0,0,0,bA b 1,[],fo b 3,0,0⟩ := by
  unfold ex; simp only [h0]; rw [if_neg (by omega),if_pos h]
theorem r9 {b : List UInt8}{e : UInt8} (h0 : b.getD 0 0 = e) (h : ((e.toNat : Nat) : Int) = 5) : ex b = ⟨((e.toNat : Nat) : Int),bA b 1,0,0,0,[decide (bA b 3 = 65280)],[],0,0⟩ := by
  unfold ex; simp only [h0]; rw [if_neg (by omega),if_neg (by omega),if_pos h]
theorem r8 {b : List UInt8}{e : UInt8} (h0 : b.getD 0 0 = e) (h : ((e.toNat : Nat) : Int) = 6) : ex b = ⟨((e.toNat : Nat) : Int),bA b 1,0,0,0,[],fo b 3,0,0⟩ := by
  unfold ex; simp only [h0]; rw [if_neg (by omega),if_neg (by omega),if_neg (by omega),if_pos h]
theorem pQ {b : List UInt8}{e : UInt8} (h0 : b.getD 0 0 = e) (h : ((e.toNat : Nat) : Int) = 22) : ex b = ⟨((e.toNat : Nat) : Int),bA b 1,0,0,0,[],[],bV (bA b 3),bV (bA b 5)⟩ := by
  unfold ex; simp only [h0]; rw [if_neg (by omega),if_neg (by omega),if_neg (by omega),if_neg (by omega),if_pos h]
theorem zN (b : List UInt8) (k : Int) : 0 ≤ bA b k ∧ bA b k ≤ 65535 := by
  unfold bA; split
  · have := zP b k.toNat; omega
  · omega
theorem sn (b : List UInt8) (n : Int) : (dh b n).length ≤ n.toNat := by unfold dh; split <;> simp
theorem nO (b : List UInt8) : (fd b).length ≤ b.length := by
  unfold fd; split
  · rw [jl]; omega
  · simp
theorem mP (b : List UInt8) (k : Nat) : (cJ b k).length ≤ b.length ∧ (fo b k).length ≤ b.length := by
  unfold cJ fo
  split
  · simp
  · have h1 := nO (b.drop k)
    have h2 := nO ((b.take (b.length - (b.length - k) % 2)).drop k)
    rw [List.length_drop] at h1 h2
    rw [List.length_take] at h2
    exact ⟨by omega,by omega⟩
theorem pU (f : Int) (b : List UInt8) : 0 ≤ cM f b ∧ cM f b ≤ 65535 := by
  unfold cM; split
  · exact zN b 3
  · omega
theorem ur (b : List UInt8) : (cL b).bits.length ≤ 65536 ∧ (cL b).vals.length ≤ b.length := by
  have w := fun k => (mP b k).1
  have g := pU (((b.getD 0 0).toNat : Nat) : Int) b
  have v := sn (b.drop 6) (cM (((b.getD 0 0).toNat : Nat) : Int) b)
  unfold cL
  simp only
  repeat' split
  all_goals first|exact ⟨Nat.zero_le _,w _⟩|exact ⟨by simp only; omega,Nat.zero_le _⟩|exact ⟨Nat.zero_le _,Nat.zero_le _⟩|exact ⟨by simp,Nat.zero_le _⟩
section
variable {g : List UInt8 → TRequest}{b : List UInt8}
end
theorem p9 {q : TRequest} (h : ¬ bK q = 0) : ck q = false := by unfold ck; rw [decide_eq_false h]; rfl
theorem dg {q : TRequest} (h : bK q = 0) : ck q = d8 q := by unfold ck; rw [decide_eq_true h]; rfl
theorem dl (b : List UInt8) (cl_b : Bool) (k : Int) (hb : b.length ≤ 140737488351232) (hk0 : k ≤ 9223372036854775807) :
    T Tryz.prog 37 [pS 1 cl_b az b,pI k] 0 [] (Ret (pI (bA b k)) 0 []) := by
 refine bn aF (n := 14) (rs := [.tmp 4]) Tryz.func37 Z Z Z Z (nb Z) ?_
 intro c N hk
 refine sr (ae N Z Z (sr (qm N Z Z (qm N Z Z (qo N Z (aO Z Z Z (mK b cl_b k (by omega) (by omega)) Z ?_))))))
 exact xp N 5 [.o 5] [] [(5,pI (bA b k))] (re (sr (qm N Z Z (ae N Z Z (w_ret fp)))))
theorem er (b : List UInt8) (cl_b : Bool) (k : Nat) (hb : b.length ≤ 140737488351232) (hk : k ≤ 100) :
    T Tryz.prog 39 [pS 1 cl_b az b,pN k] 0 [] (Ret (pS 1 false aj (cJ b k)) 0 []) := by
 refine bn aF (n := 19) (rs := [.tmp 4]) Tryz.func39 Z Z Z Z (nb Z) ?_
 intro c N hk
 refine sr (ae N Z Z (an (sr (qm N Z Z (qm N Z Z (qo N Z (ca (l := b) tab_38 Z (cf (f := az) Z) ?_)))))))
 refine qo N Z (jy Z Z ?_)
 refine re (av Z (fun c1 => ?_) (fun c1 => ?_))
 ·try simp only [sB] at c1
  exact sr (ae N Z Z (dw (s := 4) (y := pS 1 false aj []) Z (ax 1 false) (aq (s := 4) Z (congrArg (fun z => pS 1 false aj z) (show ([] : List UInt16) = (cJ b k) by (unfold cJ; rw [if_pos (by omega)]; done))) (w_ret (af fp)))))
 try simp only [sB] at c1
 refine aw (ak (sr (qm N Z Z (qm N Z Z (qo N Z (gl (a := k) (f := az) (l := b) tab_38 Z tab_5 ⟨Z,by decide⟩ Z (cD Z (by omega)) (by omega) ?_))))))
 refine qo N Z (aO Z Z Z (lH (b.drop k) cl_b (by (simp; omega))) Z ?_)
 refine xp N 5 [.o 5] [] [(5,pS 1 false aj (fd (b.drop k)))] (re (sr (qm N Z Z (ae N Z Z (aq (s := 4) Z (congrArg (fun z => pS 1 false aj z) (show (fd (b.drop k)) = (cJ b k) by (unfold cJ; rw [if_neg (by omega)]; done))) ?_)))))
 exact w_ret fp
theorem lF (b : List UInt8) (cl_b : Bool) (G : TRequest) (hG : G = cL b) (hb : b.length ≤ 140737488351232) (h1 : 1 ≤ b.length) :
    T Tryz.prog 40 [pS 1 cl_b az b] 0 [] (Ret (PV.f (bx G)) 0 []) := by
 refine bn aF (n := 83) (rs := [.cell 2 33]) Tryz.func40 Z Z Z Z (nb Z) ?_
 intro c N hk
 refine sr (qo N Z (cg bc ?_))
 let Ya0 : Nat × Pv.Obj := (0,.obj [pI 0,pI 0,pI 0,pI 0,pI 0,aH,aH,au 0,au 0])
 let Ya2 : Nat × PV := (0,pS 1 cl_b az b)
 refine aE [Ya2,(2,PV.ptr 0 0)] [Ya0] 1 ⟨Z,Z,trivial⟩ Z Z (re (sr (qm N Z Z ?_)))
 obtain ⟨e1,he1⟩ := bl b (i := 0) (by omega)
 refine qo N Z (cA (q := 0) (b := e1) (f := az) tab_38 Z tab_5 Z Z (by omega) Z he1 ?_)
 refine xm N 5 [.o 5] [bu ((UInt8.toNat e1 : Nat) : Int)] [(3,PV.ptr 1 0)] 2 [(1,.obj [pN (UInt8.toNat e1),pI 0,pI 0,pI 0,pI 0,aH,aH,au 0,au 0]),Ya0] ?_ (hc := ⟨by unfold bu; have := kb e1; omega,trivial⟩)
 refine re (an ?_)
 have hb0 : b.getD 0 0 = e1 := by rw [List.getD_eq_getElem?_getD,he1]; rfl
 have ia := Bw ((UInt8.toNat e1 : Nat) : Int)
 refine bk (xp N 2 [.o 2] [] [(11,pN (UInt8.toNat e1))] (qo N Z (aO Z Z Z (iU ((UInt8.toNat e1 : Nat) : Int)) Z ?_)))
 let Y : Nat × Pv.Obj := (1,.obj [pI 0,pI 0,pI 0,pI 0,pI 0,aH,aH,au 0,au 0])
 let Y0 : Nat × PV := (2,PV.ptr 1 0)
 let Ya : Nat × PV := (3,PV.ptr 0 0)
 refine ae N Z Z (qF (fun (va : Int) => va = eY ((e1.toNat : Nat) : Int) b) (fun (va : Int) => [Ya2,Y0,Ya,(4,pT (aV ((UInt8.toNat e1 : Nat) : Int)))]) 2 (fun (va : Int) => [(0,.obj [pN (UInt8.toNat e1),pI va,pI 0,pI 0,pI 0,aH,aH,au 0,au 0]),Y]) ?_ ?_)
 ·refine sr (qm N Z Z (qo N Z (aO Z Z Z (cp (aV ((UInt8.toNat e1 : Nat) : Int)) 97 (by have := fe ((e1.toNat : Nat) : Int); omega)) Z ?_)))
  refine re (av Z (fun c1 => ?_) (fun c1 => ?_))
  ·try simp only [sB] at c1
   refine bk (qm N Z Z (qo N Z (aO Z Z Z (dl b cl_b 1 (by omega) (by omega)) Z ?_)))
   refine qo N Z (aX bc Z Z aD (by decide) Z ?_)
   refine qo N Z (aC aD Z Z Z Z Z (nb Z) ?_)
   refine re (⟨(bA b 1), ?_,⟨[(0,1),(1,0)],by rw [hk]; decide,⟨⟨_,rfl,rfl,rfl⟩,⟨_,rfl,rfl,rfl⟩,⟨_,rfl,rfl,rfl⟩,⟨_,rfl,rfl,rfl⟩,trivial⟩,⟨⟨_,_,rfl,rfl,rfl,rfl⟩,⟨_,_,rfl,rfl,rfl,rfl⟩,trivial⟩,by rw [hk]; decide⟩⟩)
   (unfold eY; rw [if_pos (by have := ia.1; rw [c1] at this; exact of_decide_eq_true this.symm)]; done)
  try simp only [sB] at c1
  refine aw (ak (⟨(0), ?_,⟨[(0,1),(1,0)],by rw [hk]; decide,⟨⟨_,rfl,rfl,rfl⟩,⟨_,rfl,rfl,rfl⟩,⟨_,rfl,rfl,rfl⟩,⟨_,rfl,rfl,rfl⟩,trivial⟩,⟨⟨_,_,rfl,rfl,rfl,rfl⟩,⟨_,_,rfl,rfl,rfl,rfl⟩,trivial⟩,by rw [hk]; decide⟩⟩))
  (unfold eY; rw [if_neg (by have := ia.1; rw [c1] at this; exact of_decide_eq_false this.symm)]; done)
 intro va hva
 refine yk (fun (vb : Int) (vc : Int) => vb = eY ((e1.toNat : Nat) : Int) b ∧ vc = cM ((e1.toNat : Nat) : Int) b) (fun (vb : Int) (vc : Int) => [Ya2,Y0,Ya]) 2 (fun (vb : Int) (vc : Int) => [(0,.obj [pN (UInt8.toNat e1),pI vb,pI vc,pI 0,pI 0,aH,aH,au 0,au 0]),Y]) ?_ ?_
 ·refine sr (qm N Z Z (qo N Z (aO Z Z Z (cp (aV ((UInt8.toNat e1 : Nat) : Int)) 99 (by have := fe ((e1.toNat : Nat) : Int); omega)) Z ?_)))
  refine re (av Z (fun c2 => ?_) (fun c2 => ?_))
  ·try simp only [sB] at c2
   refine bk (qm N Z Z (qo N Z (aO Z Z Z (dl b cl_b 3 (by omega) (by omega)) Z ?_)))
   refine qo N Z (aX bc Z Z aD (by decide) Z ?_)
   refine qo N Z (aC aD Z Z Z Z Z (nb Z) ?_)
   refine re (⟨(va),(bA b 3), ?_,⟨[(0,0),(1,1)],by rw [hk]; decide,⟨⟨_,rfl,rfl,rfl⟩,⟨_,rfl,rfl,rfl⟩,⟨_,rfl,rfl,rfl⟩,trivial⟩,⟨⟨_,_,rfl,rfl,rfl,rfl⟩,⟨_,_,rfl,rfl,rfl,rfl⟩,trivial⟩,by rw [hk]; decide⟩⟩)
   (exact ⟨hva,by unfold cM; rw [if_pos (by have := ia.2; rw [c2] at this; exact of_decide_eq_true this.symm)]⟩)
  try simp only [sB] at c2
  refine aw (ak (⟨(va),(0), ?_,⟨[(0,0),(1,1)],by rw [hk]; decide,⟨⟨_,rfl,rfl,rfl⟩,⟨_,rfl,rfl,rfl⟩,⟨_,rfl,rfl,rfl⟩,trivial⟩,⟨⟨_,_,rfl,rfl,rfl,rfl⟩,⟨_,_,rfl,rfl,rfl,rfl⟩,trivial⟩,by rw [hk]; decide⟩⟩))
  (exact ⟨hva,by unfold cM; rw [if_neg (by have := ia.2; rw [c2] at this; exact of_decide_eq_false this.symm)]⟩)
 intro vb vc hvc
 refine an (sr (xp N 2 [.o 2] [] [(24,pN (UInt8.toNat e1))] (re (aP (an ?_)))))
 obtain ⟨hvb,hvd⟩ := hvc
 have hcl := pU ((e1.toNat : Nat) : Int) b
 refine bk (qo N Z (bF Z Z ?_))
 refine ae N Z Z (av Z (fun c3 => ?_) (fun c3 => ?_))
 ·try simp only [sB] at c3
  rw [xE hb0 (by omega)] at hG
  refine bk (qm N Z Z (qo N Z (aO Z Z Z (dl b cl_b 3 (by omega) (by omega)) Z ?_)))
  refine qo N Z (el Z Z ?_)
  refine qo N Z (bM (f := ar) [!decide (bA b 3 = 0)] bT Z dE ⟨Z,by decide⟩ (by decide) Z Z Z Z ?_)
  refine qo N Z (aX bc Z Z bT (by decide) Z ?_)
  refine qo N Z (aC bT Z Z Z Z Z (nb Z) ?_)
  let Y8 : Nat × Pv.Obj := (0,.obj [pN (UInt8.toNat e1),pI vb,pI vc,pI 0,pI 0,PV.ref 2 0 none,aH,au 0,au 0])
  let Ya1 : Nat × Pv.Obj := (2,oB true 1 ar [!decide (bA b 3 = 0)])
  refine aE [Y0,Ya] [Y8,Ya1,Y] 3 ⟨Z,Z,trivial⟩ Z Z (bG (aG (ak (sr (qo N Z (bj bc Z Z Z (nb Z) ?_))))))
  refine qo N Z (aC bc Z Z Z Z Z (nb Z) ?_)
  refine aE [Y0] [(1,.obj [pN (UInt8.toNat e1),pI vb,pI vc,pI 0,pI 0,PV.ref 2 0 none,aH,au 0,au 0]),Y8,Ya1] 3 ⟨Z,trivial⟩ Z Z (re (gF (n := 1) (j := 5) Z Z Z Z ?_))
  have hz1 : ([!decide (bA b 3 = 0)] : List Bool) = G.bits := by ((rw [hG]; done))
  refine bH (n := 1) (ds := [pN (UInt8.toNat e1),pI vb,pI vc,pI 0,pI 0,pS 1 false ar G.bits,aH,au 0,au 0]) Z ⟨le_refl _,le_refl _,le_refl _,le_refl _,le_refl _,le_of_eq (congrArg (fun z => pS 1 false ar z) hz1),le_refl _,le_refl _,le_refl _,trivial⟩ ?_
  have hz2 : ((UInt8.toNat e1 : Nat) : Int) = G.fn ∧ vb = G.at_ ∧ vc = G.count ∧ 0 = G.wAt ∧ 0 = G.sub ∧ ([] : List UInt16) = G.vals ∧ 0 = G.and_ ∧ 0 = G.or_ := by and_intros <;> (first|(rw [hG]; done)|(rw [hG]; exact hvb)|(rw [hG]; exact hvd))
  exact bH (n := 1) (ds := cd G) Z ⟨le_of_eq (congrArg pI hz2.1),le_of_eq (congrArg pI hz2.2.1),le_of_eq (congrArg pI hz2.2.2.1),le_of_eq (congrArg pI hz2.2.2.2.1),le_of_eq (congrArg pI hz2.2.2.2.2.1),le_refl _,be (ax 1 false) (le_of_eq (congrArg (fun z => pS 1 false aj z) hz2.2.2.2.2.2.1)),le_of_eq (congrArg au hz2.2.2.2.2.2.2.1),le_of_eq (congrArg au hz2.2.2.2.2.2.2.2),trivial⟩ (w_ret fp)
 try simp only [sB] at c3
 refine sr (qo N Z (bF Z Z ?_))
 refine ae N Z Z (av Z (fun c4 => ?_) (fun c4 => ?_))
 ·try simp only [sB] at c4
  rw [xD hb0 (by omega)] at hG
  refine bk (qm N Z Z (qo N Z (aO Z Z Z (er b cl_b 3 (by omega) (by omega)) Z ?_)))
  refine qo N Z (aX bc Z Z bf (by decide) Z ?_)
  refine qo N Z (aC bf Z Z Z Z Z (nb Z) ?_)
  let Y6 : Nat × Pv.Obj := (0,.obj [pN (UInt8.toNat e1),pI vb,pI vc,pI 0,pI 0,aH,pS 1 false aj (cJ b 3),au 0,au 0])
  refine aE [Y0,Ya] [Y6,Y] 2 ⟨Z,Z,trivial⟩ Z Z (bG (aG (ak (sr (qo N Z (bj bc Z Z Z (nb Z) ?_))))))
  refine qo N Z (aC bc Z Z Z Z Z (nb Z) ?_)
  refine aE [Y0] [(1,.obj [pN (UInt8.toNat e1),pI vb,pI vc,pI 0,pI 0,aH,pS 1 false aj (cJ b 3),au 0,au 0]),Y6] 2 ⟨Z,trivial⟩ Z Z (re ?_)
  have hz3 : ((UInt8.toNat e1 : Nat) : Int) = G.fn ∧ vb = G.at_ ∧ vc = G.count ∧ 0 = G.wAt ∧ 0 = G.sub ∧ ([] : List Bool) = G.bits ∧ (cJ b 3) = G.vals ∧ 0 = G.and_ ∧ 0 = G.or_ := by and_intros <;> (first|(rw [hG]; done)|(rw [hG]; exact hvb)|(rw [hG]; exact hvd))
  exact bH (n := 1) (ds := cd G) Z ⟨le_of_eq (congrArg pI hz3.1),le_of_eq (congrArg pI hz3.2.1),le_of_eq (congrArg pI hz3.2.2.1),le_of_eq (congrArg pI hz3.2.2.2.1),le_of_eq (congrArg pI hz3.2.2.2.2.1),be (ax 1 false) (le_of_eq (congrArg (fun z => pS 1 false ar z) hz3.2.2.2.2.2.1)),le_of_eq (congrArg (fun z => pS 1 false aj z) hz3.2.2.2.2.2.2.1),le_of_eq (congrArg au hz3.2.2.2.2.2.2.2.1),le_of_eq (congrArg au hz3.2.2.2.2.2.2.2.2),trivial⟩ (w_ret fp)
 try simp only [sB] at c4
 refine sr (qo N Z (bF Z Z ?_))
 refine ae N Z Z (av Z (fun c5 => ?_) (fun c5 => ?_))
 ·try simp only [sB] at c5
  rw [xC hb0 (by omega)] at hG
  refine bk (qm N Z Z (qo N Z (aO Z Z Z (dl b cl_b 1 (by omega) (by omega)) Z ?_)))
  refine qm N Z Z (qo N Z (aO Z Z Z (er b cl_b 3 (by omega) (by omega)) Z ?_))
  let Y3 : Nat × Pv.Obj := (0,.obj [pN (UInt8.toNat e1),pI vb,pI vc,pI 0,pI (bA b 1),aH,pS 1 false aj (cJ b 3),au 0,au 0])
  refine xm N 4 [.o 4] [] [] 2 [Y3,Y] (bG (aG (ak (sr (qo N Z (bj bc Z Z Z (nb Z) ?_))))))
  refine qo N Z (aC bc Z Z Z Z Z (nb Z) ?_)
  refine aE [Y0] [(1,.obj [pN (UInt8.toNat e1),pI vb,pI vc,pI 0,pI (bA b 1),aH,pS 1 false aj (cJ b 3),au 0,au 0]),Y3] 2 ⟨Z,trivial⟩ Z Z (re ?_)
  have hz4 : ((UInt8.toNat e1 : Nat) : Int) = G.fn ∧ vb = G.at_ ∧ vc = G.count ∧ 0 = G.wAt ∧ (bA b 1) = G.sub ∧ ([] : List Bool) = G.bits ∧ (cJ b 3) = G.vals ∧ 0 = G.and_ ∧ 0 = G.or_ := by and_intros <;> (first|(rw [hG]; done)|(rw [hG]; exact hvb)|(rw [hG]; exact hvd))
  exact bH (n := 1) (ds := cd G) Z ⟨le_of_eq (congrArg pI hz4.1),le_of_eq (congrArg pI hz4.2.1),le_of_eq (congrArg pI hz4.2.2.1),le_of_eq (congrArg pI hz4.2.2.2.1),le_of_eq (congrArg pI hz4.2.2.2.2.1),be (ax 1 false) (le_of_eq (congrArg (fun z => pS 1 false ar z) hz4.2.2.2.2.2.1)),le_of_eq (congrArg (fun z => pS 1 false aj z) hz4.2.2.2.2.2.2.1),le_of_eq (congrArg au hz4.2.2.2.2.2.2.2.1),le_of_eq (congrArg au hz4.2.2.2.2.2.2.2.2),trivial⟩ (w_ret fp)
 try simp only [sB] at c5
 refine sr (qo N Z (bF Z Z ?_))
 let Y9 : Nat × Pv.Obj := (0,.obj [pN (UInt8.toNat e1),pI vb,pI vc,pI 0,pI 0,aH,aH,au 0,au 0])
 let Y1 : ah := [(1,.obj [pN (UInt8.toNat e1),pI vb,pI vc,pI 0,pI 0,aH,aH,au 0,au 0]),Y9]
 refine ae N Z Z (av Z (fun c6 => ?_) (fun c6 => ?_))
 ·try simp only [sB] at c6
  rw [vH hb0 (by omega)] at hG
  refine sr (qm N Z Z (qo N Z (ca (l := b) tab_38 Z (cf (f := az) Z) ?_)))
  refine qo N Z (gM Z Z ?_)
  refine re (av Z (fun c7 => ?_) (fun c7 => ?_))
  ·try simp only [sB] at c7
   rw [if_pos (by omega)] at hG
   let Y4 : Nat × Pv.Obj := (0,.obj [pN (UInt8.toNat e1),pI vb,pI vc,pI 0,pI 0,pS 1 false ar (dh (b.drop 6) vc),aH,au 0,au 0])
   refine cK N (xq 1 [.o 1] [] (xk [(51,pS 1 cl_b az b)] [] [] [] [Y9,Y] (gl (a := 6) (f := az) (l := b) tab_38 Z tab_5 ⟨Z,by decide⟩ Z (cD Z (by omega)) (by omega) ⟨Z,Z,Z⟩) (xd 8 [.o 2,.c (PV.tup [pS 1 false ar (dh (b.drop 6) vc),pB (di (b.drop 6) vc)]),.o 5] [T Tryz.prog 38 [pS 1 cl_b az (b.drop 6),pI vc] 0 [] (Ret (PV.tup [pS 1 false ar (dh (b.drop 6) vc),pB (di (b.drop 6) vc)]) 0 [])] 2 [Y4,Y] ?_ (hc := ⟨(kS (b.drop 6) cl_b vc (by rw [List.length_drop]; omega) (by omega)),trivial⟩))))
   refine xe [Y0,Ya] (bG (aG (ak (sr (qo N Z (bj bc Z Z Z (nb Z) ?_))))))
   refine qo N Z (aC bc Z Z Z Z Z (nb Z) ?_)
   refine aE [Y0] [(1,.obj [pN (UInt8.toNat e1),pI vb,pI vc,pI 0,pI 0,pS 1 false ar (dh (b.drop 6) vc),aH,au 0,au 0]),Y4] 2 ⟨Z,trivial⟩ Z Z (re ?_)
   have hz5 : ((UInt8.toNat e1 : Nat) : Int) = G.fn ∧ vb = G.at_ ∧ vc = G.count ∧ 0 = G.wAt ∧ 0 = G.sub ∧ (dh (b.drop 6) vc) = G.bits ∧ ([] : List UInt16) = G.vals ∧ 0 = G.and_ ∧ 0 = G.or_ := by and_intros <;> (first|(rw [hG]; done)|(rw [hG]; exact hvb)|(rw [hG]; exact hvd)|(rw [hG,hvd]; done))
   exact bH (n := 1) (ds := cd G) Z ⟨le_of_eq (congrArg pI hz5.1),le_of_eq (congrArg pI hz5.2.1),le_of_eq (congrArg pI hz5.2.2.1),le_of_eq (congrArg pI hz5.2.2.2.1),le_of_eq (congrArg pI hz5.2.2.2.2.1),le_of_eq (congrArg (fun z => pS 1 false ar z) hz5.2.2.2.2.2.1),be (ax 1 false) (le_of_eq (congrArg (fun z => pS 1 false aj z) hz5.2.2.2.2.2.2.1)),le_of_eq (congrArg au hz5.2.2.2.2.2.2.2.1),le_of_eq (congrArg au hz5.2.2.2.2.2.2.2.2),trivial⟩ (w_ret fp)
  try simp only [sB] at c7
  rw [if_neg (by omega)] at hG
  refine aw (aG (ak (sr (qo N Z (bj bc Z Z Z (nb Z) ?_)))))
  refine qo N Z (aC bc Z Z Z Z Z (nb Z) ?_)
  refine aE [Y0] Y1 2 ⟨Z,trivial⟩ Z Z (re ?_)
  have hz6 : ((UInt8.toNat e1 : Nat) : Int) = G.fn ∧ vb = G.at_ ∧ vc = G.count ∧ 0 = G.wAt ∧ 0 = G.sub ∧ ([] : List Bool) = G.bits ∧ ([] : List UInt16) = G.vals ∧ 0 = G.and_ ∧ 0 = G.or_ := by and_intros <;> (first|(rw [hG]; done)|(rw [hG]; exact hvb)|(rw [hG]; exact hvd))
  exact bH (n := 1) (ds := cd G) Z ⟨le_of_eq (congrArg pI hz6.1),le_of_eq (congrArg pI hz6.2.1),le_of_eq (congrArg pI hz6.2.2.1),le_of_eq (congrArg pI hz6.2.2.2.1),le_of_eq (congrArg pI hz6.2.2.2.2.1),be (ax 1 false) (le_of_eq (congrArg (fun z => pS 1 false ar z) hz6.2.2.2.2.2.1)),be (ax 1 false) (le_of_eq (congrArg (fun z => pS 1 false aj z) hz6.2.2.2.2.2.2.1)),le_of_eq (congrArg au hz6.2.2.2.2.2.2.2.1),le_of_eq (congrArg au hz6.2.2.2.2.2.2.2.2),trivial⟩ (w_ret fp)
 try simp only [sB] at c6
 refine sr (qo N Z (bF Z Z ?_))
 refine ae N Z Z (av Z (fun c8 => ?_) (fun c8 => ?_))
 ·try simp only [sB] at c8
  rw [vG hb0 (by omega)] at hG
  refine bk (qm N Z Z (qo N Z (aO Z Z Z (er b cl_b 6 (by omega) (by omega)) Z ?_)))
  refine qo N Z (aX bc Z Z bf (by decide) Z ?_)
  refine qo N Z (aC bf Z Z Z Z Z (nb Z) ?_)
  let Y7 : Nat × Pv.Obj := (0,.obj [pN (UInt8.toNat e1),pI vb,pI vc,pI 0,pI 0,aH,pS 1 false aj (cJ b 6),au 0,au 0])
  refine aE [Y0,Ya] [Y7,Y] 2 ⟨Z,Z,trivial⟩ Z Z (bG (aG (ak (sr (qo N Z (bj bc Z Z Z (nb Z) ?_))))))
  refine qo N Z (aC bc Z Z Z Z Z (nb Z) ?_)
  refine aE [Y0] [(1,.obj [pN (UInt8.toNat e1),pI vb,pI vc,pI 0,pI 0,aH,pS 1 false aj (cJ b 6),au 0,au 0]),Y7] 2 ⟨Z,trivial⟩ Z Z (re ?_)
  have hz7 : ((UInt8.toNat e1 : Nat) : Int) = G.fn ∧ vb = G.at_ ∧ vc = G.count ∧ 0 = G.wAt ∧ 0 = G.sub ∧ ([] : List Bool) = G.bits ∧ (cJ b 6) = G.vals ∧ 0 = G.and_ ∧ 0 = G.or_ := by and_intros <;> (first|(rw [hG]; done)|(rw [hG]; exact hvb)|(rw [hG]; exact hvd))
  exact bH (n := 1) (ds := cd G) Z ⟨le_of_eq (congrArg pI hz7.1),le_of_eq (congrArg pI hz7.2.1),le_of_eq (congrArg pI hz7.2.2.1),le_of_eq (congrArg pI hz7.2.2.2.1),le_of_eq (congrArg pI hz7.2.2.2.2.1),be (ax 1 false) (le_of_eq (congrArg (fun z => pS 1 false ar z) hz7.2.2.2.2.2.1)),le_of_eq (congrArg (fun z => pS 1 false aj z) hz7.2.2.2.2.2.2.1),le_of_eq (congrArg au hz7.2.2.2.2.2.2.2.1),le_of_eq (congrArg au hz7.2.2.2.2.2.2.2.2),trivial⟩ (w_ret fp)
 try simp only [sB] at c8
 refine sr (qo N Z (bF Z Z ?_))
 refine ae N Z Z (av Z (fun c9 => ?_) (fun c9 => ?_))
 ·try simp only [sB] at c9
  rw [vF hb0 (by omega)] at hG
  refine bk (qm N Z Z (qo N Z (aO Z Z Z (dl b cl_b 3 (by omega) (by omega)) Z ?_)))
  refine qo N Z (iY aD bE Z Z Z ?_)
  refine qm N Z Z (qo N Z (aO Z Z Z (dl b cl_b 5 (by omega) (by omega)) Z ?_))
  refine qo N Z (iY aD bE Z Z Z ?_)
  let Y5 : Nat × Pv.Obj := (0,.obj [pN (UInt8.toNat e1),pI vb,pI vc,pI 0,pI 0,aH,aH,au (bV (bA b 3)),au (bV (bA b 5))])
  refine xm N 4 [.o 4] [] [] 2 [Y5,Y] (bG (aG (ak (sr (qo N Z (bj bc Z Z Z (nb Z) ?_))))))
  refine qo N Z (aC bc Z Z Z Z Z (nb Z) ?_)
  refine aE [Y0] [(1,.obj [pN (UInt8.toNat e1),pI vb,pI vc,pI 0,pI 0,aH,aH,au (bV (bA b 3)),au (bV (bA b 5))]),Y5] 2 ⟨Z,trivial⟩ Z Z (re ?_)
  have hz8 : ((UInt8.toNat e1 : Nat) : Int) = G.fn ∧ vb = G.at_ ∧ vc = G.count ∧ 0 = G.wAt ∧ 0 = G.sub ∧ ([] : List Bool) = G.bits ∧ ([] : List UInt16) = G.vals ∧ (bV (bA b 3)) = G.and_ ∧ (bV (bA b 5)) = G.or_ := by and_intros <;> (first|(rw [hG]; done)|(rw [hG]; exact hvb)|(rw [hG]; exact hvd))
  exact bH (n := 1) (ds := cd G) Z ⟨le_of_eq (congrArg pI hz8.1),le_of_eq (congrArg pI hz8.2.1),le_of_eq (congrArg pI hz8.2.2.1),le_of_eq (congrArg pI hz8.2.2.2.1),le_of_eq (congrArg pI hz8.2.2.2.2.1),be (ax 1 false) (le_of_eq (congrArg (fun z => pS 1 false ar z) hz8.2.2.2.2.2.1)),be (ax 1 false) (le_of_eq (congrArg (fun z => pS 1 false aj z) hz8.2.2.2.2.2.2.1)),le_of_eq (congrArg au hz8.2.2.2.2.2.2.2.1),le_of_eq (congrArg au hz8.2.2.2.2.2.2.2.2),trivial⟩ (w_ret fp)
 try simp only [sB] at c9
 refine sr (qo N Z (bF Z Z ?_))
 refine ae N Z Z (av Z (fun c10 => ?_) (fun c10 => ?_))
 ·try simp only [sB] at c10
  rw [vE hb0 (by omega)] at hG
  refine bk (qm N Z Z (qo N Z (aO Z Z Z (dl b cl_b 5 (by omega) (by omega)) Z ?_)))
  refine qm N Z Z (qo N Z (aO Z Z Z (er b cl_b 10 (by omega) (by omega)) Z ?_))
  let Y2 : Nat × Pv.Obj := (0,.obj [pN (UInt8.toNat e1),pI vb,pI vc,pI (bA b 5),pI 0,aH,pS 1 false aj (cJ b 10),au 0,au 0])
  refine xm N 4 [.o 4] [] [] 2 [Y2,Y] (bG (aG (ak (sr (qo N Z (bj bc Z Z Z (nb Z) ?_))))))
  refine qo N Z (aC bc Z Z Z Z Z (nb Z) ?_)
  refine aE [Y0] [(1,.obj [pN (UInt8.toNat e1),pI vb,pI vc,pI (bA b 5),pI 0,aH,pS 1 false aj (cJ b 10),au 0,au 0]),Y2] 2 ⟨Z,trivial⟩ Z Z (re ?_)
  have hz9 : ((UInt8.toNat e1 : Nat) : Int) = G.fn ∧ vb = G.at_ ∧ vc = G.count ∧ (bA b 5) = G.wAt ∧ 0 = G.sub ∧ ([] : List Bool) = G.bits ∧ (cJ b 10) = G.vals ∧ 0 = G.and_ ∧ 0 = G.or_ := by and_intros <;> (first|(rw [hG]; done)|(rw [hG]; exact hvb)|(rw [hG]; exact hvd))
  exact bH (n := 1) (ds := cd G) Z ⟨le_of_eq (congrArg pI hz9.1),le_of_eq (congrArg pI hz9.2.1),le_of_eq (congrArg pI hz9.2.2.1),le_of_eq (congrArg pI hz9.2.2.2.1),le_of_eq (congrArg pI hz9.2.2.2.2.1),be (ax 1 false) (le_of_eq (congrArg (fun z => pS 1 false ar z) hz9.2.2.2.2.2.1)),le_of_eq (congrArg (fun z => pS 1 false aj z) hz9.2.2.2.2.2.2.1),le_of_eq (congrArg au hz9.2.2.2.2.2.2.2.1),le_of_eq (congrArg au hz9.2.2.2.2.2.2.2.2),trivial⟩ (w_ret fp)
 try simp only [sB] at c10
 rw [vD hb0 (by omega)] at hG
 refine aw (aG (ak (sr (qo N Z (bj bc Z Z Z (nb Z) ?_)))))
 refine qo N Z (aC bc Z Z Z Z Z (nb Z) ?_)
 refine aE [Y0] Y1 2 ⟨Z,trivial⟩ Z Z (re ?_)
 have hz10 : ((UInt8.toNat e1 : Nat) : Int) = G.fn ∧ vb = G.at_ ∧ vc = G.count ∧ 0 = G.wAt ∧ 0 = G.sub ∧ ([] : List Bool) = G.bits ∧ ([] : List UInt16) = G.vals ∧ 0 = G.and_ ∧ 0 = G.or_ := by and_intros <;> (first|(rw [hG]; done)|(rw [hG]; exact hvb)|(rw [hG]; exact hvd))
 exact bH (n := 1) (ds := cd G) Z ⟨le_of_eq (congrArg pI hz10.1),le_of_eq (congrArg pI hz10.2.1),le_of_eq (congrArg pI hz10.2.2.1),le_of_eq (congrArg pI hz10.2.2.2.1),le_of_eq (congrArg pI hz10.2.2.2.2.1),be (ax 1 false) (le_of_eq (congrArg (fun z => pS 1 false ar z) hz10.2.2.2.2.2.1)),be (ax 1 false) (le_of_eq (congrArg (fun z => pS 1 false aj z) hz10.2.2.2.2.2.2.1)),le_of_eq (congrArg au hz10.2.2.2.2.2.2.2.1),le_of_eq (congrArg au hz10.2.2.2.2.2.2.2.2),trivial⟩ (w_ret fp)
theorem kR (r : TRequest) (hb : r.bits.length ≤ 140737488351232) (hv : r.vals.length ≤ 140737488351232) :
    T Tryz.prog 28 [PV.f (bx r)] 0 [] (Ret (pB (ck r)) 0 []) := by
 refine bn aF (n := 65) (rs := [.tmp 2]) Tryz.func28 Z Z Z Z (nb Z) ?_
 intro c N hk
 refine sr (qo N Z (cu Z Z ?_))
 refine qa N Z Z (aE [(1,PV.ptr 0 0)] [(0,.obj (cd r))] 1 ⟨Z,trivial⟩ Z Z (re (an (sr (xp N 1 [.o 1] [] [(4,PV.f (bx r))] ?_)))))
 refine qo N Z (aO Z Z Z (lG r (by omega) (by omega)) Z ?_)
 refine qo N Z (el Z Z ?_)
 refine re (av Z (fun c1 => ?_) (fun c1 => ?_))
 ·have c1_ := c1
  try simp only [sB] at c1
  exact sr (ae N Z Z (aq (s := 2) Z (congrArg pB (show false = (ck r) by exact (p9 (by assumption)).symm)) (w_ret (af fp))))
 have c1_ := c1
 try simp only [sB] at c1
 refine aw (ak (sr (xp N 3 [.o 3] [] [(3,pI r.count)] (re (an ?_)))))
 refine sr (xp N 2 [.o 2] [] [(10,pI r.fn)] (re (aP (an (sr ?_)))))
 let Y : aI := [(2,pB ((decide (1 ≤ r.count)) && (decide (r.count ≤ 2000))))]
 refine xp N 2 [.o 2] [] [(11,pB (decide (r.fn = 1)))] (re (av Z (fun c2 => ?_) (fun c2 => ?_)))
 ·have c2_ := c2
  try simp only [sB] at c2
  refine aw (ak (av Z (fun _ => ?_) (fun e => absurd (e.symm.trans c2_) (by decide))))
  refine sr (xp N 7 [.o 3,.b 2 [.o 2],.o 1] [] Y (re (aq (s := 2) Z (congrArg pB (show ((decide (1 ≤ r.count)) && (decide (r.count ≤ 2000))) = (ck r) by (rw [dg (by first|assumption|simpa using c1_)]; unfold d8; first|exact (decide_eq_true (by omega)).symm|exact (decide_eq_false (by omega)).symm|(apply Bool.eq_iff_iff.2; simp only [Bool.and_eq_true,Bool.or_eq_true,decide_eq_true_eq,Bool.not_eq_true',decide_eq_false_iff_not]; try omega)))) (w_ret (am ?_)))))
  exact af fp
 have c2_ := c2
 try simp only [sB] at c2
 refine bk (qo N Z (bF Z Z ?_))
 refine ae N Z Z (av Z (fun c3 => ?_) (fun c3 => ?_))
 ·have c3_ := c3
  try simp only [sB] at c3
  refine sr (xp N 7 [.o 3,.b 2 [.o 2],.o 1] [] Y (re (aq (s := 2) Z (congrArg pB (show ((decide (1 ≤ r.count)) && (decide (r.count ≤ 2000))) = (ck r) by (rw [dg (by first|assumption|simpa using c1_)]; unfold d8; first|exact (decide_eq_true (by omega)).symm|exact (decide_eq_false (by omega)).symm|(apply Bool.eq_iff_iff.2; simp only [Bool.and_eq_true,Bool.or_eq_true,decide_eq_true_eq,Bool.not_eq_true',decide_eq_false_iff_not]; try omega)))) (w_ret (am ?_)))))
  exact af fp
 have c3_ := c3
 try simp only [sB] at c3
 let Y0 : aI := [(2,pB ((decide (1 ≤ r.count)) && (decide (r.count ≤ 125))))]
 refine an (sr (xp N 2 [.o 2] [] [(20,pB (decide (r.fn = 3)))] (re (av Z (fun c4 => ?_) (fun c4 => ?_)))))
 ·have c4_ := c4
  try simp only [sB] at c4
  refine aw (ak (av Z (fun _ => ?_) (fun e => absurd (e.symm.trans c4_) (by decide))))
  refine sr (xp N 7 [.o 3,.b 2 [.o 2],.o 1] [] Y0 (re (aq (s := 2) Z (congrArg pB (show ((decide (1 ≤ r.count)) && (decide (r.count ≤ 125))) = (ck r) by (rw [dg (by first|assumption|simpa using c1_)]; unfold d8; first|exact (decide_eq_true (by omega)).symm|exact (decide_eq_false (by omega)).symm|(apply Bool.eq_iff_iff.2; simp only [Bool.and_eq_true,Bool.or_eq_true,decide_eq_true_eq,Bool.not_eq_true',decide_eq_false_iff_not]; try omega)))) (w_ret (am ?_)))))
  exact af fp
 have c4_ := c4
 try simp only [sB] at c4
 refine bk (qo N Z (bF Z Z ?_))
 refine ae N Z Z (av Z (fun c5 => ?_) (fun c5 => ?_))
 ·have c5_ := c5
  try simp only [sB] at c5
  refine sr (xp N 7 [.o 3,.b 2 [.o 2],.o 1] [] Y0 (re (aq (s := 2) Z (congrArg pB (show ((decide (1 ≤ r.count)) && (decide (r.count ≤ 125))) = (ck r) by (rw [dg (by first|assumption|simpa using c1_)]; unfold d8; first|exact (decide_eq_true (by omega)).symm|exact (decide_eq_false (by omega)).symm|(apply Bool.eq_iff_iff.2; simp only [Bool.and_eq_true,Bool.or_eq_true,decide_eq_true_eq,Bool.not_eq_true',decide_eq_false_iff_not]; try omega)))) (w_ret (am ?_)))))
  exact af fp
 have c5_ := c5
 try simp only [sB] at c5
 refine sr (qo N Z (bF Z Z ?_))
 refine ae N Z Z (av Z (fun c6 => ?_) (fun c6 => ?_))
 ·have c6_ := c6
  try simp only [sB] at c6
  refine sr (xp N 7 [.o 3,.b 2 [.o 2],.o 1] [] [(2,pB ((decide (1 ≤ r.count)) && (decide (r.count ≤ 1968))))] (re (aq (s := 2) Z (congrArg pB (show ((decide (1 ≤ r.count)) && (decide (r.count ≤ 1968))) = (ck r) by (rw [dg (by first|assumption|simpa using c1_)]; unfold d8; first|exact (decide_eq_true (by omega)).symm|exact (decide_eq_false (by omega)).symm|(apply Bool.eq_iff_iff.2; simp only [Bool.and_eq_true,Bool.or_eq_true,decide_eq_true_eq,Bool.not_eq_true',decide_eq_false_iff_not]; try omega)))) (w_ret (am ?_)))))
  exact af fp
 have c6_ := c6
 try simp only [sB] at c6
 refine sr (qo N Z (bF Z Z ?_))
 refine ae N Z Z (av Z (fun c7 => ?_) (fun c7 => ?_))
 ·have c7_ := c7
  try simp only [sB] at c7
  refine sr (xp N 7 [.o 3,.b 2 [.o 2],.o 1] [] [(2,pB ((decide (1 ≤ r.count)) && (decide (r.count ≤ 123))))] (re (aq (s := 2) Z (congrArg pB (show ((decide (1 ≤ r.count)) && (decide (r.count ≤ 123))) = (ck r) by (rw [dg (by first|assumption|simpa using c1_)]; unfold d8; first|exact (decide_eq_true (by omega)).symm|exact (decide_eq_false (by omega)).symm|(apply Bool.eq_iff_iff.2; simp only [Bool.and_eq_true,Bool.or_eq_true,decide_eq_true_eq,Bool.not_eq_true',decide_eq_false_iff_not]; try omega)))) (w_ret (am ?_)))))
  exact af fp
 have c7_ := c7
 try simp only [sB] at c7
 refine sr (qo N Z (bF Z Z ?_))
 refine ae N Z Z (av Z (fun c8 => ?_) (fun c8 => ?_))
 ·have c8_ := c8
  try simp only [sB] at c8
  refine sr (xp N 19 [.o 3,.b 2 [.o 2],.o 1,.b 4 [.o 2,.c (pN r.vals.length),.o 1],.o 1,.b 4 [.o 2,.c (pN r.vals.length),.o 1],.o 1] [((decide (1 ≤ r.count)) && (decide (r.count ≤ 125))) = true → AllP [cC aj r.vals],(((decide (1 ≤ r.count)) && (decide (r.count ≤ 125))) && (decide (1 ≤ ((r.vals.length : Nat) : Int)))) = true → AllP [cC aj r.vals]] [(2,pB ((((decide (1 ≤ r.count)) && (decide (r.count ≤ 125))) && (decide (1 ≤ ((r.vals.length : Nat) : Int)))) && (decide (((r.vals.length : Nat) : Int) ≤ 121))))] ?_ (hc := ⟨by intro hq; (try simp only [sB] at hq); exact ⟨lenC_ok _ _,trivial⟩,by intro hq; (try simp only [sB] at hq); exact ⟨lenC_ok _ _,trivial⟩,trivial⟩))
  exact re (aq (s := 2) Z (congrArg pB (show ((((decide (1 ≤ r.count)) && (decide (r.count ≤ 125))) && (decide (1 ≤ ((r.vals.length : Nat) : Int)))) && (decide (((r.vals.length : Nat) : Int) ≤ 121))) = (ck r) by (rw [dg (by first|assumption|simpa using c1_)]; unfold d8; first|exact (decide_eq_true (by omega)).symm|exact (decide_eq_false (by omega)).symm|(apply Bool.eq_iff_iff.2; simp only [Bool.and_eq_true,Bool.or_eq_true,decide_eq_true_eq,Bool.not_eq_true',decide_eq_false_iff_not]; try omega)))) (w_ret (am (af fp))))
 have c8_ := c8
 try simp only [sB] at c8
 exact aw (aG (ak (sr (ae N Z Z (aq (s := 2) Z (congrArg pB (show true = (ck r) by (rw [dg (by first|assumption|simpa using c1_)]; unfold d8; first|exact (decide_eq_true (by omega)).symm|exact (decide_eq_false (by omega)).symm|(apply Bool.eq_iff_iff.2; simp only [Bool.and_eq_true,Bool.or_eq_true,decide_eq_true_eq,Bool.not_eq_true',decide_eq_false_iff_not]; try omega)))) (w_ret fp))))))
theorem qY (r : TRequest) (hb : r.bits.length ≤ 140737488351232) (hv : r.vals.length ≤ 140737488351232) :
    T Tryz.prog 69 [PV.f (bx r)] 0 [] (Ret (pB (ck r)) 0 []) := by
 refine bn aF (n := 40) (rs := [.tmp 2]) Tryz.func69 Z Z Z Z (nb Z) ?_
 intro c N hk
 refine sr (qo N Z (cu Z Z ?_))
 refine qa N Z Z (aE [(1,PV.ptr 0 0)] [(0,.obj (cd r))] 1 ⟨Z,trivial⟩ Z Z (re (an (sr (xp N 1 [.o 1] [] [(4,PV.f (bx r))] ?_)))))
 refine qo N Z (aO Z Z Z (mQ r (by omega) (by omega)) Z ?_)
 refine qo N Z (el Z Z ?_)
 refine re (av Z (fun c1 => ?_) (fun c1 => ?_))
 ·have c1_ := c1
  try simp only [sB] at c1
  exact sr (ae N Z Z (aq (s := 2) Z (congrArg pB (show false = (ck r) by exact (p9 (by assumption)).symm)) (w_ret (af fp))))
 have c1_ := c1
 try simp only [sB] at c1
 refine aw (ak (sr (ae N Z Z (an (sr ?_)))))
 refine xp N 2 [.o 2] [] [(8,pI r.fn)] (re (aP (an (sr (xp N 2 [.o 2] [] [(9,pB (decide (r.fn = 1)))] ?_)))))
 let Y0 : aI := [(2,pB ((decide (1 ≤ r.count)) && (decide (r.count ≤ 2000))))]
 refine re (av Z (fun c2 => ?_) (fun c2 => ?_))
 ·have c2_ := c2
  try simp only [sB] at c2
  refine aw (ak (av Z (fun _ => ?_) (fun e => absurd (e.symm.trans c2_) (by decide))))
  refine bk (qa N Z Z (bG (aG (ak (sr ?_)))))
  exact xp N 10 [.o 4,.b 4 [.o 4],.o 1] [] Y0 (re (aq (s := 2) Z (congrArg pB (show ((decide (1 ≤ r.count)) && (decide (r.count ≤ 2000))) = (ck r) by (rw [dg (by first|assumption|simpa using c1_)]; unfold d8; first|exact (decide_eq_true (by omega)).symm|exact (decide_eq_false (by omega)).symm|(apply Bool.eq_iff_iff.2; simp only [Bool.and_eq_true,Bool.or_eq_true,decide_eq_true_eq,Bool.not_eq_true',decide_eq_false_iff_not]; try omega)))) (w_ret fp)))
 have c2_ := c2
 try simp only [sB] at c2
 refine bk (qo N Z (bF Z Z ?_))
 refine ae N Z Z (av Z (fun c3 => ?_) (fun c3 => ?_))
 ·have c3_ := c3
  try simp only [sB] at c3
  refine bk (qa N Z Z (bG (aG (ak (sr ?_)))))
  exact xp N 10 [.o 4,.b 4 [.o 4],.o 1] [] Y0 (re (aq (s := 2) Z (congrArg pB (show ((decide (1 ≤ r.count)) && (decide (r.count ≤ 2000))) = (ck r) by (rw [dg (by first|assumption|simpa using c1_)]; unfold d8; first|exact (decide_eq_true (by omega)).symm|exact (decide_eq_false (by omega)).symm|(apply Bool.eq_iff_iff.2; simp only [Bool.and_eq_true,Bool.or_eq_true,decide_eq_true_eq,Bool.not_eq_true',decide_eq_false_iff_not]; try omega)))) (w_ret fp)))
 have c3_ := c3
 try simp only [sB] at c3
 let Y : aI := [(2,pB ((decide (1 ≤ r.count)) && (decide (r.count ≤ 125))))]
 refine an (sr (xp N 2 [.o 2] [] [(12,pB (decide (r.fn = 3)))] (re (av Z (fun c4 => ?_) (fun c4 => ?_)))))
 ·have c4_ := c4
  try simp only [sB] at c4
  refine aw (ak (av Z (fun _ => ?_) (fun e => absurd (e.symm.trans c4_) (by decide))))
  refine bk (qa N Z Z (bG (aG (ak (sr ?_)))))
  exact xp N 10 [.o 4,.b 4 [.o 4],.o 1] [] Y (re (aq (s := 2) Z (congrArg pB (show ((decide (1 ≤ r.count)) && (decide (r.count ≤ 125))) = (ck r) by (rw [dg (by first|assumption|simpa using c1_)]; unfold d8; first|exact (decide_eq_true (by omega)).symm|exact (decide_eq_false (by omega)).symm|(apply Bool.eq_iff_iff.2; simp only [Bool.and_eq_true,Bool.or_eq_true,decide_eq_true_eq,Bool.not_eq_true',decide_eq_false_iff_not]; try omega)))) (w_ret fp)))
 have c4_ := c4
 try simp only [sB] at c4
 refine bk (qo N Z (bF Z Z ?_))
 refine ae N Z Z (av Z (fun c5 => ?_) (fun c5 => ?_))
 ·have c5_ := c5
  try simp only [sB] at c5
  refine bk (qa N Z Z (bG (aG (ak (sr ?_)))))
  exact xp N 10 [.o 4,.b 4 [.o 4],.o 1] [] Y (re (aq (s := 2) Z (congrArg pB (show ((decide (1 ≤ r.count)) && (decide (r.count ≤ 125))) = (ck r) by (rw [dg (by first|assumption|simpa using c1_)]; unfold d8; first|exact (decide_eq_true (by omega)).symm|exact (decide_eq_false (by omega)).symm|(apply Bool.eq_iff_iff.2; simp only [Bool.and_eq_true,Bool.or_eq_true,decide_eq_true_eq,Bool.not_eq_true',decide_eq_false_iff_not]; try omega)))) (w_ret fp)))
 have c5_ := c5
 try simp only [sB] at c5
 refine sr (qo N Z (bF Z Z ?_))
 refine ae N Z Z (av Z (fun c6 => ?_) (fun c6 => ?_))
 ·have c6_ := c6
  try simp only [sB] at c6
  refine bk (qa N Z Z (bG (aG (ak (sr ?_)))))
  exact xp N 10 [.o 4,.b 4 [.o 4],.o 1] [] [(2,pB ((decide (1 ≤ r.count)) && (decide (r.count ≤ 1968))))] (re (aq (s := 2) Z (congrArg pB (show ((decide (1 ≤ r.count)) && (decide (r.count ≤ 1968))) = (ck r) by (rw [dg (by first|assumption|simpa using c1_)]; unfold d8; first|exact (decide_eq_true (by omega)).symm|exact (decide_eq_false (by omega)).symm|(apply Bool.eq_iff_iff.2; simp only [Bool.and_eq_true,Bool.or_eq_true,decide_eq_true_eq,Bool.not_eq_true',decide_eq_false_iff_not]; try omega)))) (w_ret fp)))
 have c6_ := c6
 try simp only [sB] at c6
 refine sr (qo N Z (bF Z Z ?_))
 refine ae N Z Z (av Z (fun c7 => ?_) (fun c7 => ?_))
 ·have c7_ := c7
  try simp only [sB] at c7
  refine bk (qa N Z Z (bG (aG (ak (sr ?_)))))
  exact xp N 10 [.o 4,.b 4 [.o 4],.o 1] [] [(2,pB ((decide (1 ≤ r.count)) && (decide (r.count ≤ 123))))] (re (aq (s := 2) Z (congrArg pB (show ((decide (1 ≤ r.count)) && (decide (r.count ≤ 123))) = (ck r) by (rw [dg (by first|assumption|simpa using c1_)]; unfold d8; first|exact (decide_eq_true (by omega)).symm|exact (decide_eq_false (by omega)).symm|(apply Bool.eq_iff_iff.2; simp only [Bool.and_eq_true,Bool.or_eq_true,decide_eq_true_eq,Bool.not_eq_true',decide_eq_false_iff_not]; try omega)))) (w_ret fp)))
 have c7_ := c7
 try simp only [sB] at c7
 refine sr (qo N Z (bF Z Z ?_))
 refine ae N Z Z (av Z (fun c8 => ?_) (fun c8 => ?_))
 ·have c8_ := c8
  try simp only [sB] at c8
  refine an (sr (xp N 10 [.o 2,.c (pN r.vals.length),.o 2,.b 4 [.o 2,.c (pN r.vals.length),.o 1]] [cC aj r.vals,(decide (((r.vals.length : Nat) : Int) < 1)) = false → AllP [cC aj r.vals]] [(30,pB ((decide (((r.vals.length : Nat) : Int) < 1)) || (decide (121 < ((r.vals.length : Nat) : Int)))))] ?_ (hc := ⟨lenC_ok _ _,by intro hq; (try simp only [sB] at hq); exact ⟨lenC_ok _ _,trivial⟩,trivial⟩)))
  refine re (av Z (fun c9 => ?_) (fun c9 => ?_))
  ·have c9_ := c9
   try simp only [sB] at c9
   try simp only [Bool.or_eq_true,decide_eq_true_eq] at c9
   exact sr (ae N Z Z (aq (s := 2) Z (congrArg pB (show false = (ck r) by (rw [dg (by first|assumption|simpa using c1_)]; unfold d8; first|exact (decide_eq_true (by omega)).symm|exact (decide_eq_false (by omega)).symm|(apply Bool.eq_iff_iff.2; simp only [Bool.and_eq_true,Bool.or_eq_true,decide_eq_true_eq,Bool.not_eq_true',decide_eq_false_iff_not]; try omega)))) (w_ret (af (am (af fp))))))
  have c9_ := c9
  try simp only [sB] at c9
  try simp only [Bool.or_eq_false_iff,decide_eq_false_iff_not] at c9
  refine aw (ak (bk (qa N Z Z (bG (aG (ak (sr ?_)))))))
  exact xp N 10 [.o 4,.b 4 [.o 4],.o 1] [] Y (re (aq (s := 2) Z (congrArg pB (show ((decide (1 ≤ r.count)) && (decide (r.count ≤ 125))) = (ck r) by (rw [dg (by first|assumption|simpa using c1_)]; unfold d8; first|exact (decide_eq_true (by omega)).symm|exact (decide_eq_false (by omega)).symm|(apply Bool.eq_iff_iff.2; simp only [Bool.and_eq_true,Bool.or_eq_true,decide_eq_true_eq,Bool.not_eq_true',decide_eq_false_iff_not]; try omega)))) (w_ret fp)))
 have c8_ := c8
 try simp only [sB] at c8
 exact sr (ae N Z Z (aq (s := 2) Z (congrArg pB (show true = (ck r) by (rw [dg (by first|assumption|simpa using c1_)]; unfold d8; first|exact (decide_eq_true (by omega)).symm|exact (decide_eq_false (by omega)).symm|(apply Bool.eq_iff_iff.2; simp only [Bool.and_eq_true,Bool.or_eq_true,decide_eq_true_eq,Bool.not_eq_true',decide_eq_false_iff_not]; try omega)))) (w_ret (am (af fp)))))
def d4 (a b c d : Int) (s : Int) : Int := if s = 0 then a else if s = 1 then b else if s = 2 then c else d
structure WInv (lo : Int) (l : List TWindow) (v f : Int → Int) : Prop where
  vb : ∀ s,0 ≤ s ∧ s ≤ 3 → 0 ≤ v s ∧ v s ≤ 23 * l.length
  fb : ∀ s,0 ≤ s ∧ s ≤ 3 → lo ≤ f s ∧ f s ≤ lo + 20 * l.length
  mem : ∀ w ∈ l,(0 ≤ w.space ∧ w.space ≤ 3) ∧ 1 ≤ w.count ∧ 0 ≤ w.virtual ∧ lo ≤ w.physical ∧ w.virtual + w.count ≤ v w.space ∧ w.physical + w.count ≤ f w.space
  row : l.Pairwise fun x y => x.space = y.space → x.virtual + x.count ≤ y.virtual ∧ x.physical + x.count ≤ y.physical
theorem WInv.nil (lo : Int) : WInv lo [] (d4 0 0 0 0) (d4 lo lo lo lo) := by
  refine ⟨fun s _ => ?_,fun s _ => ?_,fun w hw => by simp at hw,List.Pairwise.nil⟩
  · unfold d4; simp
  · unfold d4; simp
theorem WInv.step {lo : Int}{l : List TWindow}{v f v' f' : Int → Int} (h : WInv lo l v f) {s d e n : Int} (hs : 0 ≤ s ∧ s ≤ 3) (hd : 0 ≤ d ∧ d ≤ 5) (he : 0 ≤ e ∧ e ≤ 2) (hn : 1 ≤ n ∧ n ≤ 18)
    (hv : ∀ x,0 ≤ x ∧ x ≤ 3 → v' x = if x = s then v s + d + n else v x) (hf : ∀ x,0 ≤ x ∧ x ≤ 3 → f' x = if x = s then f s + e + n else f x) : WInv lo (l ++ [⟨s,v s + d,f s + e,n⟩]) v' f' := by
  obtain ⟨vb,fb,mem,row⟩ := h
  have hl : ((l ++ [(⟨s,v s + d,f s + e,n⟩ : TWindow)]).length : Int) = l.length + 1 := by simp
  refine ⟨fun x hx => ?_,fun x hx => ?_,fun w hw => ?_, ?_⟩
  · rw [hv x hx,hl]; have h1 := vb x hx; have h2 := vb s hs; split <;> omega
  · rw [hf x hx,hl]; have h1 := fb x hx; have h2 := fb s hs; split <;> omega
  · have hvb := vb s hs
    have hfb := fb s hs
    rcases List.mem_append.1 hw with h|h
    · obtain ⟨a,b,c,c2,g,k⟩ := mem w h
      rw [hv _ a,hf _ a]
      refine ⟨a,b,c,c2, ?_, ?_⟩
      · split
        · rename_i hx; rw [hx] at g; omega
        · exact g
      · split
        · rename_i hx; rw [hx] at k; omega
        · exact k
    · have h := List.mem_singleton.1 h
      subst h
      simp only
      rw [hv _ hs,hf _ hs,if_pos rfl,if_pos rfl]
      exact ⟨hs,by omega,by omega,by omega,by omega,by omega⟩
  · rw [List.pairwise_append]
    refine ⟨row,List.pairwise_singleton _ _,fun x hx y hy hxy => ?_⟩
    have hy := List.mem_singleton.1 hy
    subst hy
    obtain ⟨a,b,c,c2,g,k⟩ := mem x hx
    simp only at hxy ⊢
    rw [hxy] at g k
    omega
theorem WInv.step0 {lo v0 v1 v2 v3 f0 f1 f2 f3 d e n : Int}{l : List TWindow} (h : WInv lo l (d4 v0 v1 v2 v3) (d4 f0 f1 f2 f3)) (hd : 0 ≤ d ∧ d ≤ 5) (he : 0 ≤ e ∧ e ≤ 2) (hn : 1 ≤ n ∧ n ≤ 18) :
    WInv lo (l ++ [⟨0,v0 + d,f0 + e,n⟩]) (d4 (v0 + d + n) v1 v2 v3) (d4 (f0 + e + n) f1 f2 f3) :=
  h.step (s := 0) (by decide) hd he hn (fun x hx => by unfold d4; (repeat' split) <;> omega) (fun x hx => by unfold d4; (repeat' split) <;> omega)
theorem WInv.step1 {lo v0 v1 v2 v3 f0 f1 f2 f3 d e n : Int}{l : List TWindow} (h : WInv lo l (d4 v0 v1 v2 v3) (d4 f0 f1 f2 f3)) (hd : 0 ≤ d ∧ d ≤ 5) (he : 0 ≤ e ∧ e ≤ 2) (hn : 1 ≤ n ∧ n ≤ 18) :
    WInv lo (l ++ [⟨1,v1 + d,f1 + e,n⟩]) (d4 v0 (v1 + d + n) v2 v3) (d4 f0 (f1 + e + n) f2 f3) :=
  h.step (s := 1) (by decide) hd he hn (fun x hx => by unfold d4; (repeat' split) <;> omega) (fun x hx => by unfold d4; (repeat' split) <;> omega)
theorem WInv.step2 {lo v0 v1 v2 v3 f0 f1 f2 f3 d e n : Int}{l : List TWindow} (h : WInv lo l (d4 v0 v1 v2 v3) (d4 f0 f1 f2 f3)) (hd : 0 ≤ d ∧ d ≤ 5) (he : 0 ≤ e ∧ e ≤ 2) (hn : 1 ≤ n ∧ n ≤ 18) :
    WInv lo (l ++ [⟨2,v2 + d,f2 + e,n⟩]) (d4 v0 v1 (v2 + d + n) v3) (d4 f0 f1 (f2 + e + n) f3) :=
  h.step (s := 2) (by decide) hd he hn (fun x hx => by unfold d4; (repeat' split) <;> omega) (fun x hx => by unfold d4; (repeat' split) <;> omega)
theorem WInv.step3 {lo v0 v1 v2 v3 f0 f1 f2 f3 d e n : Int}{l : List TWindow} (h : WInv lo l (d4 v0 v1 v2 v3) (d4 f0 f1 f2 f3)) (hd : 0 ≤ d ∧ d ≤ 5) (he : 0 ≤ e ∧ e ≤ 2) (hn : 1 ≤ n ∧ n ≤ 18) :
    WInv lo (l ++ [⟨3,v3 + d,f3 + e,n⟩]) (d4 v0 v1 v2 (v3 + d + n)) (d4 f0 f1 f2 (f3 + e + n)) :=
  h.step (s := 3) (by decide) hd he hn (fun x hx => by unfold d4; (repeat' split) <;> omega) (fun x hx => by unfold d4; (repeat' split) <;> omega)
structure WinsOk (l : List TWindow) : Prop where
  len : l.length ≤ 6
  right : ∀ w ∈ l,winR w = true ∧ w.virtual + w.count ≤ 138
  row : l.Pairwise fun x y => x.space = y.space → x.virtual + x.count ≤ y.virtual ∧ x.physical + x.count ≤ y.physical
theorem WInv.ok {lo : Int}{l : List TWindow}{v f : Int → Int} (h : WInv lo l v f) (hl : l.length ≤ 6) (hlo : 0 ≤ lo ∧ lo ≤ 384) : WinsOk l := by
  refine ⟨hl,fun w hw => ?_,h.row⟩
  obtain ⟨a,b,c,c2,g,k⟩ := h.mem w hw
  have h1 := h.vb w.space a
  have h2 := h.fb w.space a
  exact ⟨(iA w).2 ⟨a,by omega,by omega⟩,by omega⟩
theorem WinsOk.two {l : List TWindow} (h : WinsOk l) {i j : Nat}{a b : TWindow} (hj : j < i) (ha : l[i]? = some a) (hb : l[j]? = some b) (hs : a.space = b.space) : b.virtual + b.count ≤ a.virtual ∧ b.physical + b.count ≤ a.physical := by
  obtain ⟨h1,rfl⟩ := List.getElem?_eq_some_iff.1 ha
  obtain ⟨h2,rfl⟩ := List.getElem?_eq_some_iff.1 hb
  exact List.pairwise_iff_getElem.1 h.row j i h2 h1 hj hs.symm
theorem tk {a b : TSpan} (h : b.at_ + b.count ≤ a.at_) : cr a b = false := by
  rw [Bool.eq_false_iff]
  intro hm
  have := (un a b).1 hm
  omega
theorem WinsOk.own {l : List TWindow} (h : WinsOk l) : ui l = true := by
  refine zn fun i j a b hj ha hb => ?_
  by_cases hs : a.space = b.space
  · obtain ⟨h1,h2⟩ := h.two hj ha hb hs
    unfold oq um
    rw [tk (a := pSp a) (b := pSp b) h2,tk (a := vSp a) (b := vSp b) h1] <;> rfl
  · unfold oq um
    rw [decide_eq_false hs]
    simp
structure TabG (X : TTable) : Prop where
  len : 1 ≤ X.tenants.length ∧ X.tenants.length ≤ 4
  wins : ∀ p ∈ X.tenants,WinsOk p.windows
def LK : List TWindow := [⟨3,0,100,4⟩,⟨3,4,50,4⟩]
theorem qD : (ofL LK 3).map vSp = [⟨0,4⟩,⟨4,4⟩] := by decide
theorem yj : dr [⟨0,4⟩,⟨4,4⟩] ⟨2,4⟩ = some [⟨2,2⟩,⟨4,2⟩] := by
  unfold dr
  rw [if_pos (by decide),iy (i := 0) (x := ⟨0,4⟩) (by decide) (by decide) rfl (by decide),iy (i := 1) (x := ⟨4,4⟩) (by decide) (by decide) rfl (by decide),kf (by decide)] <;> rfl
theorem Cr : bN LK 3 2 4 = true := by unfold bN cz; rw [qD,yj]; rfl
theorem Cq : mapL LK 3 2 4 = [⟨2,102,2⟩,⟨4,50,2⟩] := by unfold mapL d5 cE; rw [qD,yj]; decide
section
variable {l : List TWindow}{s : Int}
end
theorem zy {l : List TWindow}{s a n : Int}{x : TPiece} (h : x ∈ mapL l s a n) : 0 ≤ x.at_ ∧ x.at_ ≤ 65536 ∧ 1 ≤ x.count ∧ x.count ≤ 65536 ∧ 0 ≤ x.physical ∧ x.physical ≤ 512 := by
  unfold mapL at h
  obtain ⟨p,hp,rfl⟩ := List.mem_map.1 h
  obtain ⟨i,w,_,_,_,_,hpc,m1,m2,m3,v1,v2,v3,v4,v5⟩ := iB hp
  have hb := (iA w).1 m1
  rw [hpc]
  simp only
  omega
section
variable {Q : Int → Prop}{a n k z : Nat}
end
def iG (F n : Int) : Bool := decide (dx .and .u32 (F / 2 ^ n.toNat) 1 = 0)
def pR (l : List TWindow) (q : TRequest) : List TPiece :=
  if q.fn = 1 then mapL l 0 q.at_ q.count else if q.fn = 2 then mapL l 1 q.at_ q.count else if q.fn = 3 then mapL l 3 q.at_ q.count else if q.fn = 4 then mapL l 2 q.at_ q.count
  else if q.fn = 22 then mapL l 3 q.at_ 1 else if q.fn = 23 then mapL l 3 q.at_ q.count else []
def pW (l : List TWindow) (q : TRequest) : List TPiece :=
  if q.fn = 5 then mapL l 0 q.at_ 1 else if q.fn = 6 then mapL l 3 q.at_ 1 else if q.fn = 15 then mapL l 0 q.at_ q.count else if q.fn = 16 then mapL l 3 q.at_ q.count
  else if q.fn = 22 then mapL l 3 q.at_ 1 else if q.fn = 23 then mapL l 3 q.wAt ((q.vals.length : Nat) : Int) else []
def dH (l : List TWindow) (q : TRequest) : Bool :=
  if q.fn = 1 then bN l 0 q.at_ q.count else if q.fn = 2 then bN l 1 q.at_ q.count else if q.fn = 3 then bN l 3 q.at_ q.count else if q.fn = 4 then bN l 2 q.at_ q.count
  else if q.fn = 5 then bN l 0 q.at_ 1 else if q.fn = 6 then bN l 3 q.at_ 1 else if q.fn = 15 then bN l 0 q.at_ q.count else if q.fn = 16 then bN l 3 q.at_ q.count
  else if q.fn = 22 then bN l 3 q.at_ 1 else if q.fn = 23 then bN l 3 q.wAt ((q.vals.length : Nat) : Int) && bN l 3 q.at_ q.count else true
def bL (F : Int) (l : List TWindow) (q : TRequest) : Int :=
  if bK q = 15 ∨ iG F q.fn = true then 1 else if ck q = false then 3 else if dH l q = false then 2 else if 6 < (pW l q).length + (pR l q).length then 4 else 0
def cN (f : Int) (p : TPiece) : TPart := ⟨⟨f,p.physical,p.count,0,0,[],[],0,0⟩,false⟩
def dc (q : TRequest) (p : TPiece) : TPart :=
  if q.fn = 5 then ⟨⟨5,p.physical,0,0,0,q.bits,[],0,0⟩,true⟩
  else if q.fn = 6 then ⟨⟨6,p.physical,0,0,0,[],q.vals,0,0⟩,true⟩
  else if q.fn = 15 then ⟨⟨15,p.physical,p.count,0,0,(q.bits.drop (p.at_ - q.at_).toNat).take p.count.toNat,[],0,0⟩,true⟩
  else if q.fn = 16 then ⟨⟨16,p.physical,p.count,0,0,[],(q.vals.drop (p.at_ - q.at_).toNat).take p.count.toNat,0,0⟩,true⟩
  else ⟨⟨16,p.physical,p.count,0,0,[],(q.vals.drop (p.at_ - q.wAt).toNat).take p.count.toNat,0,0⟩,true⟩
def Ci : TPiece := ⟨0,0,0⟩
def fj (l : List TWindow) (q : TRequest) : List TPart :=
  if q.fn = 22 then [⟨⟨3,((pR l q).getD 0 Ci).physical,1,0,0,[],[],0,0⟩,false⟩,⟨⟨6,((pR l q).getD 0 Ci).physical,0,0,0,[],[0],0,0⟩,true⟩]
  else (pW l q).map (dc q) ++ (pR l q).map (cN (if q.fn = 23 then 3 else q.fn))
def splitP (F : Int) (l : List TWindow) (q : TRequest) : List TPart × Int := if bL F l q = 0 then (fj l q,0) else ([],bL F l q)
def cW (n : Int) : Int := if n = 1 ∨ n = 5 ∨ n = 15 then 0 else if n = 2 then 1 else if n = 4 then 2 else 3
theorem BR {n : Int} (h : n = 1 ∨ n = 5 ∨ n = 15) : cW n = 0 := by unfold cW; rw [if_pos h]
theorem BQ {n : Int} (h : n = 2) : cW n = 1 := by unfold cW; rw [if_neg (by omega),if_pos h]
theorem BP {n : Int} (h : n = 4) : cW n = 2 := by unfold cW; rw [if_neg (by omega),if_neg (by omega),if_pos h]
theorem nU {n : Int} (h : ¬ (n = 1 ∨ n = 5 ∨ n = 15) ∧ n ≠ 2 ∧ n ≠ 4) : cW n = 3 := by unfold cW; rw [if_neg (by omega),if_neg (by omega),if_neg (by omega)]
def dP (n : Int) : Bool := decide (n = 8) || decide (n = 17)
section
variable {l : List TWindow}{q : TRequest}
theorem jc (h : q.fn = 1 ∨ q.fn = 2 ∨ q.fn = 3 ∨ q.fn = 4) : pW l q = [] ∧ pR l q = mapL l (cW q.fn) q.at_ q.count ∧ dH l q = bN l (cW q.fn) q.at_ q.count := by
  unfold pW pR dH cW; rcases h with h|h|h|h <;> rw [h] <;> exact ⟨rfl,rfl,rfl⟩
theorem gL (h : q.fn = 5 ∨ q.fn = 6) : pW l q = mapL l (cW q.fn) q.at_ 1 ∧ pR l q = [] ∧ dH l q = bN l (cW q.fn) q.at_ 1 := by
  unfold pW pR dH cW; rcases h with h|h <;> rw [h] <;> exact ⟨rfl,rfl,rfl⟩
theorem gt (h : q.fn = 15 ∨ q.fn = 16) : pW l q = mapL l (cW q.fn) q.at_ q.count ∧ pR l q = [] ∧ dH l q = bN l (cW q.fn) q.at_ q.count := by
  unfold pW pR dH cW; rcases h with h|h <;> rw [h] <;> exact ⟨rfl,rfl,rfl⟩
theorem iC (h : q.fn = 22) : pW l q = mapL l 3 q.at_ 1 ∧ pR l q = mapL l 3 q.at_ 1 ∧ dH l q = bN l 3 q.at_ 1 := by
  unfold pW pR dH; rw [h]; exact ⟨rfl,rfl,rfl⟩
theorem gX (h : q.fn = 23) : pW l q = mapL l 3 q.wAt ((q.vals.length : Nat) : Int) ∧ pR l q = mapL l 3 q.at_ q.count ∧ dH l q = (bN l 3 q.wAt ((q.vals.length : Nat) : Int) && bN l 3 q.at_ q.count) := by
  unfold pW pR dH; rw [h]; exact ⟨rfl,rfl,rfl⟩
theorem ik (h : ¬ (q.fn = 1 ∨ q.fn = 2 ∨ q.fn = 3 ∨ q.fn = 4 ∨ q.fn = 5 ∨ q.fn = 6 ∨ q.fn = 15 ∨ q.fn = 16 ∨ q.fn = 22 ∨ q.fn = 23)) : pW l q = [] ∧ pR l q = [] ∧ dH l q = true := by
  unfold pW pR dH
  rw [if_neg (by omega),if_neg (by omega),if_neg (by omega),if_neg (by omega),if_neg (by omega),if_neg (by omega),if_neg (by omega),if_neg (by omega),if_neg (by omega),if_neg (by omega),if_neg (by omega),if_neg (by omega),if_neg (by omega),if_neg (by omega),if_neg (by omega),if_neg (by omega),if_neg (by omega),if_neg (by omega),if_neg (by omega),if_neg (by omega),if_neg (by omega),if_neg (by omega)]
  exact ⟨rfl,rfl,rfl⟩
end
section
variable {F : Int}{l : List TWindow}{q : TRequest}
theorem mI (h : bK q = 15 ∨ iG F q.fn = true) : bL F l q = 1 := by unfold bL; rw [if_pos h]
theorem o8 (h : ¬ (bK q = 15 ∨ iG F q.fn = true)) (h2 : ck q = false) : bL F l q = 3 := by unfold bL; rw [if_neg h,if_pos h2]
theorem tF (h : ¬ (bK q = 15 ∨ iG F q.fn = true)) (h2 : ck q = true) (h3 : dH l q = false) : bL F l q = 2 := by unfold bL; rw [if_neg h,if_neg (by simp [h2]),if_pos h3]
theorem tE (h : ¬ (bK q = 15 ∨ iG F q.fn = true)) (h2 : ck q = true) (h3 : dH l q = true) (h4 : 6 < (pW l q).length + (pR l q).length) : bL F l q = 4 := by unfold bL; rw [if_neg h,if_neg (by simp [h2]),if_neg (by simp [h3]),if_pos h4]
theorem jF (h : ¬ (bK q = 15 ∨ iG F q.fn = true)) (h2 : ck q = true) (h3 : dH l q = true) (h4 : ¬ 6 < (pW l q).length + (pR l q).length) : bL F l q = 0 := by unfold bL; rw [if_neg h,if_neg (by simp [h2]),if_neg (by simp [h3]),if_neg h4]
theorem gx (h : bL F l q = 0) : ¬ (bK q = 15 ∨ iG F q.fn = true) ∧ ck q = true ∧ dH l q = true ∧ (pW l q).length + (pR l q).length ≤ 6 := by
  unfold bL at h
  split at h
  · cases h
  · rename_i h1
    split at h
    · cases h
    · rename_i h2
      split at h
      · cases h
      · rename_i h3
        split at h
        · cases h
        · rename_i h4
          exact ⟨h1,by simpa using h2,by simpa using h3,by omega⟩
theorem eL (h : ck q = true) : bK q = 0 := by
  unfold ck at h
  rw [Bool.and_eq_true] at h
  exact of_decide_eq_true h.1
theorem gQ (h : ¬ bL F l q = 0) : splitP F l q = ([],bL F l q) := by unfold splitP; rw [if_neg h]
theorem eJ (h : bL F l q = 0) : splitP F l q = (fj l q,0) := by unfold splitP; rw [if_pos h]
theorem zx {s a n : Int} (h : bN l s a n = false) : mapL l s a n = [] := by
  unfold mapL d5 cE
  unfold bN cz at h
  rw [Option.isSome_eq_false_iff,Option.isNone_iff_eq_none] at h
  rw [h]; rfl
def sk : Int → List TSpan → Int → Prop
  | v,[],e => v = e
  | v,p :: t,e => p.at_ = v ∧ 1 ≤ p.count ∧ sk (v + p.count) t e
theorem mZ (L : List TSpan) (e : Int) : ∀ (n : Nat) (v : Int) (os : List TSpan),(e - v).toNat ≤ n → v ≤ e → dZ L e v = some os → sk v os e
  | n,v,os,hn,hve,h => by
    rw [dZ] at h
    split at h
    · rename_i hv
      split at h
      · cases h
      · rename_i i hi
        split at h
        · rename_i hlt
          simp only [Option.map_eq_some_iff] at h
          obtain ⟨t,h1,rfl⟩ := h
          match n,hn with
          | 0,hn => omega
          | n + 1,hn =>
            refine ⟨rfl,by simp only; omega, ?_⟩
            simp only
            rw [show v + (min ((L.getD i lA).at_ + (L.getD i lA).count) e - v) = min ((L.getD i lA).at_ + (L.getD i lA).count) e by omega]
            exact mZ L e n _ t (by omega) (by omega) h1
        · cases h
    · cases h; exact (by omega : v = e)
def eI : List TPiece → Int
  | [] => 0
  | p :: t => p.count + eI t
theorem sG (a b : List TPiece) : eI (a ++ b) = eI a + eI b := by
  induction a with
  | nil => simp [eI]
  | cons p t ih => simp only [List.cons_append,eI,ih]; omega
def kH : Int → List TPiece → Int → Prop
  | v,[],e => v = e
  | v,p :: t,e => p.at_ = v ∧ 1 ≤ p.count ∧ kH (v + p.count) t e
theorem qc {g : TSpan → TPiece} : ∀ {os : List TSpan}{v e : Int},(∀ p ∈ os,(g p).at_ = p.at_ ∧ (g p).count = p.count) → sk v os e → kH v (os.map g) e
  | [],v,e,_,h => h
  | p :: t,v,e,hg,⟨h1,h2,h3⟩ => by
    obtain ⟨g1,g2⟩ := hg p List.mem_cons_self
    refine ⟨by rw [g1,h1],by rw [g2]; exact h2, ?_⟩
    rw [g2]
    exact qc (fun q hq => hg q (List.mem_cons_of_mem _ hq)) h3
theorem chain_at : ∀ {os : List TPiece}{v e : Int},kH v os e → ∀ {j : Nat}{p : TPiece},os[j]? = some p → p.at_ = v + eI (os.take j) ∧ 1 ≤ p.count ∧ p.at_ + p.count ≤ e
  | [],v,e,_,j,p,h => by simp at h
  | x :: t,v,e,⟨h1,h2,h3⟩,0,p,h => by
    simp only [List.getElem?_cons_zero,Option.some.injEq] at h
    subst h
    refine ⟨by simp [eI,h1],h2, ?_⟩
    have := chain_end h3
    omega
  | x :: t,v,e,⟨h1,h2,h3⟩,j + 1,p,h => by
    rw [List.getElem?_cons_succ] at h
    obtain ⟨a,b,c⟩ := chain_at h3 h
    refine ⟨?_,b,c⟩
    rw [a,List.take_succ_cons]
    simp only [eI]; omega
where
  chain_end : ∀ {os : List TPiece}{v e : Int},kH v os e → v ≤ e
    | [],v,e,h => by have h : v = e := h; omega
    | p :: t,v,e,⟨_,h2,h3⟩ => by have := chain_end h3; omega
theorem qb : ∀ {os : List TPiece}{v e : Int},kH v os e → eI os = e - v
  | [],v,e,h => by have h : v = e := h; simp [eI]; omega
  | p :: t,v,e,⟨h1,h2,h3⟩ => by have := qb h3; simp only [eI]; omega
theorem vi {s a n : Int}{p : TSpan} (hp : p ∈ d5 l s a n) : (jb (ofL l s) p).at_ = p.at_ ∧ (jb (ofL l s) p).count = p.count := by
  obtain ⟨i,w,_,_,_,_,hpc,_⟩ := iB hp
  rw [hpc]; exact ⟨rfl,rfl⟩
theorem mf {s a n : Int} (h : bN l s a n = true) : kH a (mapL l s a n) (a + n) := by
  unfold bN cz dr at h
  split at h
  case isFalse => cases h
  rename_i hsp
  have h1 := (cP _).1 hsp.1
  cases hg : dZ ((ofL l s).map vSp) (a + n) a with
  | none => simp only at h; rw [hg] at h; cases h
  | some os =>
    have hcv : d5 l s a n = os := by unfold d5 cE dr; rw [if_pos hsp]; simp only; rw [hg]; rfl
    have hc := mZ _ _ _ a os (Nat.le_refl _) (by simp only at h1; omega) hg
    unfold mapL
    rw [hcv]
    exact qc (fun p hp => vi (by rw [hcv]; exact hp)) hc
theorem nm {s a n : Int}{j : Nat}{x : TPiece} (h : (mapL l s a n)[j]? = some x) : bN l s a n = true ∧ x.at_ = a + eI ((mapL l s a n).take j) ∧ 1 ≤ x.count ∧ a ≤ x.at_ ∧ x.at_ + x.count ≤ a + n ∧
    ∃ w ∈ ofL l s,winR w = true ∧ w.space = s ∧ w ∈ l ∧ w.physical ≤ x.physical ∧ x.physical + x.count ≤ w.physical + w.count := by
  cases hok : bN l s a n with
  | false => rw [zx hok] at h; simp at h
  | true =>
    obtain ⟨h1,h2,h3⟩ := chain_at (mf hok) h
    unfold mapL at h
    rw [List.getElem?_map] at h
    obtain ⟨p,hp,rfl⟩ := Option.map_eq_some_iff.1 h
    have hm := List.mem_of_getElem? hp
    obtain ⟨i,w,hw,_,_,_,hpc,m1,m2,m3,v1,v2,v3,v4,v5⟩ := iB hm
    refine ⟨rfl,h1,h2,by rw [hpc]; exact v4,h3,w,List.mem_of_getElem? hw,m1,m2,m3, ?_⟩
    rw [hpc]; simp only; omega
theorem rV {s a : Int} (h : bN l s a 1 = true) : (mapL l s a 1).length = 1 ∧ ∀ x,(mapL l s a 1)[0]? = some x → x.count = 1 := by
  have hc := mf h
  match hm : mapL l s a 1,hc with
  | [],hc => have hc : a = a + 1 := hc; omega
  | [p],⟨h1,h2,h3⟩ =>
    have h3 : a + p.count = a + 1 := h3
    exact ⟨rfl,fun x hx => by simp at hx; subst hx; omega⟩
  | p :: q :: t,⟨h1,h2,h3,h4,h5⟩ =>
    have := chain_at.chain_end h5
    omega
theorem xj (l : List TWindow) (s a n : Int) : (mapL l s a n).length ≤ 2147483648 := by unfold mapL; rw [List.length_map]; exact nA _ _ _ _
end
theorem zW {q : TRequest} (h : ((!decide (bK q = 0)) || (!(ck q))) = true) : ck q = false := by
  cases hc : ck q with
  | false => rfl
  | true => rw [eL hc,hc] at h; cases h
theorem xb {q : TRequest} (h : ¬ bK q = 15) : bO q.fn = true := by
  cases hf : bO q.fn with
  | true => rfl
  | false => exact absurd (jV (by rw [hf]; rfl)) h
theorem w9 {q : TRequest} (h : bO q.fn = false) : bK q = 15 := jV (by rw [h]; rfl)
theorem sO {q : TRequest} (h : bO q.fn = true) : ¬ bK q = 15 := by
  intro h2
  unfold bK at h2
  rw [if_neg (by simp [h])] at h2
  split at h2
  · cases h2
  · split at h2 <;> cases h2
theorem gw {q : TRequest} (h : ck q = true) : bO q.fn = true := (cR (eL h)).1
def jr (n a b : Int) : Int := if n = 5 ∨ n = 6 then 1 else if n = 22 then 2 else a + b
theorem vS {n a b : Int} (h : n = 5 ∨ n = 6) : jr n a b = 1 := by unfold jr; rw [if_pos h]
theorem tH {n a b : Int} (h : n = 22) : jr n a b = 2 := by unfold jr; rw [if_neg (by omega),if_pos h]
theorem vT {n a b : Int} (h : ¬ (n = 5 ∨ n = 6 ∨ n = 22)) : jr n a b = a + b := by unfold jr; rw [if_neg (by omega),if_neg (by omega)]
def dN (n : Int) : Int := if n = 1 then 0 else if n = 2 then 1 else if n = 3 then 3 else if n = 4 then 2 else if n = 22 ∨ n = 23 then 3 else -1
def dK (n : Int) : Int := if n = 5 ∨ n = 15 then 0 else if n = 6 ∨ n = 16 then 3 else if n = 22 ∨ n = 23 then 3 else -1
def dU (q : TRequest) : Int := if q.fn = 1 ∨ q.fn = 2 ∨ q.fn = 3 ∨ q.fn = 4 ∨ q.fn = 22 ∨ q.fn = 23 then q.at_ else 0
def dT (q : TRequest) : Int := if q.fn = 1 ∨ q.fn = 2 ∨ q.fn = 3 ∨ q.fn = 4 ∨ q.fn = 23 then q.count else if q.fn = 22 then 1 else 0
def dQ (q : TRequest) : Int := if q.fn = 5 ∨ q.fn = 6 ∨ q.fn = 15 ∨ q.fn = 16 ∨ q.fn = 22 then q.at_ else if q.fn = 23 then q.wAt else 0
def dR (q : TRequest) : Int := if q.fn = 5 ∨ q.fn = 6 ∨ q.fn = 22 then 1 else if q.fn = 15 ∨ q.fn = 16 then q.count else if q.fn = 23 then ((q.vals.length : Nat) : Int) else 0
section
variable {l : List TWindow}{q : TRequest}
theorem gW (h : bO q.fn = true) : pR l q = (if 0 ≤ dN q.fn then mapL l (dN q.fn) (dU q) (dT q) else []) ∧ pW l q = (if 0 ≤ dK q.fn then mapL l (dK q.fn) (dQ q) (dR q) else []) ∧
    dH l q = ((if 0 ≤ dN q.fn then bN l (dN q.fn) (dU q) (dT q) else true) && (if 0 ≤ dK q.fn then bN l (dK q.fn) (dQ q) (dR q) else true)) := by
  unfold pR pW dH dN dK dU dT dQ dR
  rcases hasF_of h with h|h|h|h|h|h|h|h|h|h|h|h <;> rw [h] <;> refine ⟨rfl,rfl, ?_⟩
  case inr.inr.inr.inr.inr.inr.inr.inr.inr.inr.inl => exact (Bool.and_self _).symm
  case inr.inr.inr.inr.inr.inr.inr.inr.inr.inr.inr => exact Bool.and_comm _ _
  all_goals first|rfl|exact (Bool.and_true _).symm|exact (Bool.true_and _).symm
theorem vf (h : bO q.fn = true) (h2 : 0 ≤ dN q.fn) : mapL l (dN q.fn) (dU q) (dT q) = pR l q := by rw [(gW h).1,if_pos h2]
theorem vg (h : bO q.fn = true) (h2 : ¬ 0 ≤ dN q.fn) : [] = pR l q := by rw [(gW h).1,if_neg h2]
theorem vd (h : bO q.fn = true) (h2 : 0 ≤ dK q.fn) : mapL l (dK q.fn) (dQ q) (dR q) = pW l q := by rw [(gW h).2.1,if_pos h2]
theorem ve (h : bO q.fn = true) (h2 : ¬ 0 ≤ dK q.fn) : [] = pW l q := by rw [(gW h).2.1,if_neg h2]
theorem zh (h : bO q.fn = true) (h2 : 0 ≤ dN q.fn) (h3 : 0 ≤ dK q.fn) : (bN l (dN q.fn) (dU q) (dT q) && bN l (dK q.fn) (dQ q) (dR q)) = dH l q := by rw [(gW h).2.2,if_pos h2,if_pos h3]
theorem zi (h : bO q.fn = true) (h2 : 0 ≤ dN q.fn) (h3 : ¬ 0 ≤ dK q.fn) : bN l (dN q.fn) (dU q) (dT q) = dH l q := by rw [(gW h).2.2,if_pos h2,if_neg h3,Bool.and_true]
theorem zj (h : bO q.fn = true) (h2 : ¬ 0 ≤ dN q.fn) (h3 : 0 ≤ dK q.fn) : bN l (dK q.fn) (dQ q) (dR q) = dH l q := by rw [(gW h).2.2,if_neg h2,if_pos h3,Bool.true_and]
theorem zk (h : bO q.fn = true) (h2 : ¬ 0 ≤ dN q.fn) (h3 : ¬ 0 ≤ dK q.fn) : true = dH l q := by rw [(gW h).2.2,if_neg h2,if_neg h3]; rfl
theorem jz (h : q.fn = 5 ∨ q.fn = 6 ∨ q.fn = 22) (h2 : dH l q = true) : (pW l q).length = 1 ∧ (∀ x,(pW l q)[0]? = some x → x.count = 1) ∧ (q.fn = 22 → pR l q = pW l q) ∧ (q.fn ≠ 22 → pR l q = []) := by
  by_cases h22 : q.fn = 22
  · obtain ⟨a,b,c⟩ := iC (l := l) h22
    rw [c] at h2
    have := rV h2
    rw [a,b]
    exact ⟨this.1,this.2,fun _ => rfl,fun hn => absurd h22 hn⟩
  · obtain ⟨a,b,c⟩ := gL (l := l) (q := q) (by omega)
    rw [c] at h2
    have := rV h2
    rw [a,b]
    exact ⟨this.1,this.2,fun hn => absurd hn h22,fun _ => rfl⟩
theorem xJ (hf : bO q.fn = true) (h2 : dH l q = true) : ((!(dP q.fn)) && decide (6 < jr q.fn (((pR l q).length : Nat) : Int) (((pW l q).length : Nat) : Int))) = decide (6 < (pW l q).length + (pR l q).length) := by
  have hc := hasF_of hf
  by_cases h5 : q.fn = 5 ∨ q.fn = 6 ∨ q.fn = 22
  · obtain ⟨a,_,b,c⟩ := jz h5 h2
    by_cases h22 : q.fn = 22
    · rw [tH h22,b h22,a]; simp
    · rw [vS (by omega),c h22,a]; simp
  · rw [vT (by omega)]
    unfold dP
    by_cases h8 : q.fn = 8 ∨ q.fn = 17
    · obtain ⟨a,b,_⟩ := ik (l := l) (q := q) (by omega)
      rw [a,b]; simp
    · have e8 : decide (q.fn = 8) = false := decide_eq_false (by omega)
      have e17 : decide (q.fn = 17) = false := decide_eq_false (by omega)
      rw [e8,e17]
      simp only [Bool.or_false,Bool.not_false,Bool.true_and]
      apply decide_eq_decide.2; omega
theorem rO (hc : ck q = true) {i : Nat}{x : TPiece} (h : (pW l q)[i]? = some x) : 1 ≤ x.count ∧ x.count ≤ 65536 ∧ 0 ≤ x.physical ∧ x.physical + x.count ≤ 512 ∧ (q.fn = 5 ∨ q.fn = 6 ∨ q.fn = 15 ∨ q.fn = 16 ∨ q.fn = 22 ∨ q.fn = 23) ∧
    (q.fn = 15 → q.at_ ≤ x.at_ ∧ x.at_ + x.count ≤ q.at_ + q.count ∧ (q.bits.length : Int) = q.count ∧ x.at_ - q.at_ = eI ((pW l q).take i)) ∧ (q.fn = 16 → q.at_ ≤ x.at_ ∧ x.at_ + x.count ≤ q.at_ + q.count ∧ (q.vals.length : Int) = q.count ∧ x.at_ - q.at_ = eI ((pW l q).take i)) ∧
    (q.fn = 23 → q.wAt ≤ x.at_ ∧ x.at_ + x.count ≤ q.wAt + ((q.vals.length : Nat) : Int) ∧ x.at_ - q.wAt = eI ((pW l q).take i)) := by
  have hr := eL hc
  have hh := hasF_of (cR hr).1
  have hs := (cR hr).2
  have hsb := hs.bits
  have hsv := hs.vals
  have key : ∀ {s a n : Int},pW l q = mapL l s a n → bN l s a n = true ∧ x.at_ = a + eI ((pW l q).take i) ∧ 1 ≤ x.count ∧ a ≤ x.at_ ∧ x.at_ + x.count ≤ a + n ∧ 0 ≤ x.physical ∧ x.physical + x.count ≤ 512 := by
    intro s a n e
    rw [e] at h ⊢
    obtain ⟨k1,k2,k3,k4,k5,w,hw,m1,m2,m3,m4,m5⟩ := nm h
    have := (iA w).1 m1
    exact ⟨k1,k2,k3,k4,k5,by omega,by omega⟩
  by_cases h5 : q.fn = 5 ∨ q.fn = 6
  · obtain ⟨_,k2,k3,k4,k5,k6,k7⟩ := key (gL (l := l) h5).1
    exact ⟨k3,by omega,k6,k7,by omega,by omega,by omega,by omega⟩
  by_cases h15 : q.fn = 15 ∨ q.fn = 16
  · obtain ⟨_,k2,k3,k4,k5,k6,k7⟩ := key (gt (l := l) h15).1
    refine ⟨k3,by omega,k6,k7,by omega,fun h => ⟨k4,k5, ?_,by omega⟩,fun h => ⟨k4,k5, ?_,by omega⟩,by omega⟩
    · rw [if_neg (by omega),if_pos h] at hsb; exact hsb.1
    · rw [if_neg (by omega),if_pos h] at hsv; exact hsv.1
  by_cases h22 : q.fn = 22
  · obtain ⟨_,k2,k3,k4,k5,k6,k7⟩ := key (iC (l := l) h22).1
    exact ⟨k3,by omega,k6,k7,by omega,by omega,by omega,by omega⟩
  by_cases h23 : q.fn = 23
  · obtain ⟨_,k2,k3,k4,k5,k6,k7⟩ := key (gX (l := l) h23).1
    exact ⟨k3,by omega,k6,k7,by omega,by omega,by omega,fun _ => ⟨k4,k5,by omega⟩⟩
  · by_cases h1 : q.fn = 1 ∨ q.fn = 2 ∨ q.fn = 3 ∨ q.fn = 4
    · rw [(jc (l := l) h1).1] at h; simp at h
    · rw [(ik (l := l) (q := q) (by omega)).1] at h; simp at h
theorem qB (l : List TWindow) (q : TRequest) : (pW l q).length ≤ 2147483648 ∧ (pR l q).length ≤ 2147483648 := by
  have h := xj
  unfold pW pR
  constructor
  · repeat' split
    all_goals first|exact h _ _ _ _|exact Nat.zero_le _
  · repeat' split
    all_goals first|exact h _ _ _ _|exact Nat.zero_le _
variable {p : TPiece}
theorem kw (h : q.fn = 5) : dc q p = ⟨⟨5,p.physical,0,0,0,q.bits,[],0,0⟩,true⟩ := by unfold dc; rw [if_pos h]
theorem kv (h : q.fn = 6) : dc q p = ⟨⟨6,p.physical,0,0,0,[],q.vals,0,0⟩,true⟩ := by unfold dc; rw [if_neg (by omega),if_pos h]
theorem jN (h : q.fn = 15) : dc q p = ⟨⟨15,p.physical,p.count,0,0,(q.bits.drop (p.at_ - q.at_).toNat).take p.count.toNat,[],0,0⟩,true⟩ := by unfold dc; rw [if_neg (by omega),if_neg (by omega),if_pos h]
theorem jM (h : q.fn = 16) : dc q p = ⟨⟨16,p.physical,p.count,0,0,[],(q.vals.drop (p.at_ - q.at_).toNat).take p.count.toNat,0,0⟩,true⟩ := by unfold dc; rw [if_neg (by omega),if_neg (by omega),if_neg (by omega),if_pos h]
theorem jL (h : q.fn = 23) : dc q p = ⟨⟨16,p.physical,p.count,0,0,[],(q.vals.drop (p.at_ - q.wAt).toNat).take p.count.toNat,0,0⟩,true⟩ := by unfold dc; rw [if_neg (by omega),if_neg (by omega),if_neg (by omega),if_neg (by omega)]
theorem px (q : TRequest) (p : TPiece) : (⟨(dc q p).request,true⟩ : TPart) = dc q p := by
  unfold dc
  repeat' split
  all_goals rfl
theorem xf (h : q.fn = 22) {x : TPiece} (hx : (pR l q)[0]? = some x) (hc : x.count = 1) : fj l q = [cN 3 x,⟨⟨6,x.physical,0,0,0,[],[0],0,0⟩,true⟩] := by
  unfold fj cN
  rw [if_pos h,List.getD_eq_getElem?_getD,hx,hc]; rfl
theorem mb (h : q.fn = 22) {x : TPiece} (hx : (pR l q)[0]? = some x) : fj l q = [⟨⟨3,x.physical,1,0,0,[],[],0,0⟩,false⟩,⟨⟨6,x.physical,0,0,0,[],[0],0,0⟩,true⟩] := by
  unfold fj
  rw [if_pos h,List.getD_eq_getElem?_getD,hx]; rfl
theorem eA (h : ¬ q.fn = 22) : fj l q = (pW l q).map (dc q) ++ (pR l q).map (cN (if q.fn = 23 then 3 else q.fn)) := by unfold fj; rw [if_neg h]
theorem zS {α : Type} (l : List α) {d n e : Nat} (h : e = d + n) : (l.take e).drop d = (l.drop d).take n := by
  subst h
  rw [List.drop_take,Nat.add_sub_cancel_left]
theorem si {α : Type} (l : List α) {d a b n : Int} (h : d = a - b) (hd : 0 ≤ d) (hn : 0 ≤ n) : (l.take (d + n).toNat).drop d.toNat = (l.drop (a - b).toNat).take n.toNat := by
  subst h
  exact zS l (by omega)
theorem wT {m : List TPiece}{i : Nat}{x : TPiece} (h : m[i]? = some x) {d : Int} (hd : d = eI (m.take i)) : d + x.count = eI (m.take (i + 1)) := by
  rw [List.take_add_one,h,sG,hd]
  simp [eI]
variable {F : Int}
theorem uV (h : ((!decide (bL F l q = 0)) || dP q.fn) = true) : splitP F l q = ([],bL F l q) := by
  by_cases h0 : bL F l q = 0
  · rw [h0] at h
    have hl : dP q.fn = true := by simpa using h
    unfold dP at hl
    simp only [Bool.or_eq_true,decide_eq_true_eq] at hl
    obtain ⟨a,b,_⟩ := ik (l := l) (q := q) (by omega)
    rw [eJ h0,eA (by omega),a,b,h0]; rfl
  · exact gQ h0
theorem nT (h : ((!decide (bL F l q = 0)) || dP q.fn) = false) : bL F l q = 0 ∧ q.fn ≠ 8 ∧ q.fn ≠ 17 := by
  rw [Bool.or_eq_false_iff] at h
  obtain ⟨h1,h2⟩ := h
  unfold dP at h2
  rw [Bool.or_eq_false_iff] at h2
  exact ⟨by simpa using h1,of_decide_eq_false h2.1,of_decide_eq_false h2.2⟩
theorem tg (hc : ck q = true) (h : q.fn = 5 ∨ q.fn = 6) (h2 : dH l q = true) {x : TPiece} (hx : (pW l q)[0]? = some x) : fj l q = [⟨⟨q.fn,x.physical,0,0,0,q.bits,q.vals,0,0⟩,true⟩] := by
  obtain ⟨a,_,_,c⟩ := jz (l := l) (q := q) (by omega) h2
  have hs := (cR (eL hc)).2
  have hsb := hs.bits
  have hsv := hs.vals
  have hw : pW l q = [x] := by
    match hm : pW l q,a with
    | [y],_ => rw [hm] at hx; simp at hx; rw [hx]
  rw [eA (by omega),hw,c (by omega)]
  rcases h with h|h
  · rw [if_neg (by omega),if_neg (by omega),if_neg (by omega)] at hsv
    rw [List.map_singleton,kw h,h,List.eq_nil_of_length_eq_zero hsv]; rfl
  · rw [if_neg (by omega),if_neg (by omega)] at hsb
    rw [List.map_singleton,kv h,h,List.eq_nil_of_length_eq_zero hsb]; rfl
theorem pw (q : TRequest) (p : TPiece) : (dc q p).request.bits.length ≤ q.bits.length ∧ (dc q p).request.vals.length ≤ q.vals.length := by
  unfold dc
  repeat' split
  all_goals first|exact ⟨Nat.le_refl _,Nat.zero_le _⟩|exact ⟨Nat.zero_le _,Nat.le_refl _⟩|exact ⟨by simp only [List.length_take,List.length_drop]; omega,Nat.zero_le _⟩|exact ⟨Nat.zero_le _,by simp only [List.length_take,List.length_drop]; omega⟩
theorem j0 (F : Int) (l : List TWindow) (q : TRequest) : (splitP F l q).1.length ≤ 6 ∧ ∀ p ∈ (splitP F l q).1,p.request.bits.length ≤ 2040 ∧ p.request.vals.length ≤ 127 := by
  by_cases h0 : bL F l q = 0
  · obtain ⟨hno,hcy,hpy,hle⟩ := gx h0
    have hsm := iL (cR (eL hcy)).2
    rw [eJ h0]
    by_cases h22 : q.fn = 22
    · unfold fj
      rw [if_pos h22]
      refine ⟨by simp,fun p hp => ?_⟩
      simp only [List.mem_cons,List.not_mem_nil,or_false] at hp
      rcases hp with rfl|rfl
      · exact ⟨Nat.zero_le _,Nat.zero_le _⟩
      · exact ⟨Nat.zero_le _,by simp⟩
    · rw [eA h22]
      refine ⟨by simp; omega,fun p hp => ?_⟩
      simp only at hp
      rcases List.mem_append.1 hp with h|h
      · obtain ⟨x,_,rfl⟩ := List.mem_map.1 h
        have := pw q x
        omega
      · obtain ⟨x,_,rfl⟩ := List.mem_map.1 h
        exact ⟨Nat.zero_le _,Nat.zero_le _⟩
  · rw [gQ h0]
    exact ⟨Nat.zero_le _,fun p hp => by cases hp⟩
end
theorem jI (n : Int)  :
    T Tryz.prog 71 [pI n] 0 [] (Ret (pI (cW n)) 0 []) := by
 refine bn aF (n := 12) (rs := [.tmp 2]) Tryz.func71 Z Z Z Z (nb Z) ?_
 intro c N hk
 refine sr (ae N Z Z (an (sr (qm N Z Z (re (aP ?_))))))
 refine xo N 4 [[.o 2],[.o 2],[.o 2]] [] ((decide (n = 1)) || ((decide (n = 5)) || (decide (n = 15)))) (av Z (fun c3 => ?_) (fun c3 => ?_))
 ·try simp only [sB,Bool.or_eq_true,Bool.or_eq_false_iff] at c3
  exact sr (ae N Z Z (aq (s := 2) Z (congrArg pI (show 0 = (cW n) by exact (BR (by omega)).symm)) (w_ret (am (af fp)))))
 try simp only [sB,Bool.or_eq_true,Bool.or_eq_false_iff] at c3
 refine sr (xp N 2 [.o 2] [] [(8,pB (decide (n = 2)))] (re (av Z (fun c4 => ?_) (fun c4 => ?_))))
 ·try simp only [sB] at c4
  exact sr (ae N Z Z (aq (s := 2) Z (congrArg pI (show 1 = (cW n) by exact (BQ (by omega)).symm)) (w_ret (am (af fp)))))
 try simp only [sB] at c4
 refine sr (xp N 2 [.o 2] [] [(10,pB (decide (n = 4)))] (re (av Z (fun c5 => ?_) (fun c5 => ?_))))
 ·try simp only [sB] at c5
  exact sr (ae N Z Z (aq (s := 2) Z (congrArg pI (show 2 = (cW n) by exact (BP (by omega)).symm)) (w_ret (am (af fp)))))
 try simp only [sB] at c5
 exact aw (aG (ak (sr (ae N Z Z (aq (s := 2) Z (congrArg pI (show 3 = (cW n) by exact (nU (by omega)).symm)) (w_ret fp))))))
theorem w_burgageref14_local (n : Int)  :
    T Tryz.prog 30 [pI n] 0 [] (Ret (pB (dP n)) 0 []) := by
 refine bn aF (n := 9) (rs := [.tmp 2]) Tryz.func30 Z Z Z Z (nb Z) ?_
 intro c N hk
 refine sr (ae N Z Z (sr (xa N 7 [.o 3,.b 2 [.o 2],.o 1] [] [(2,pB ((decide (n = 8)) || (decide (n = 17))))] 0 [] (re (aq (s := 2) Z (congrArg pB (show ((decide (n = 8)) || (decide (n = 17))) = (dP n) by rfl)) ?_)))))
 exact w_ret fp
theorem q6 (q : TRequest)  :
    T Tryz.prog 20 [PV.f (bx q)] 0 [] (Ret (pB (dP q.fn)) 0 []) := by
 refine bn aF (n := 11) (rs := [.tmp 2]) Tryz.func20 Z Z Z Z (nb Z) ?_
 intro c N hk
 refine sr (qo N Z (cu Z Z ?_))
 refine qa N Z Z (aE [(1,PV.ptr 0 0)] [(0,.obj (cd q))] 1 ⟨Z,trivial⟩ Z Z (re (sr (xp N 9 [.o 4,.b 3 [.o 3],.o 1] [] [(2,pB ((decide (q.fn = 8)) || (decide (q.fn = 17))))] (re ?_)))))
 exact aq (s := 2) Z (congrArg pB (show ((decide (q.fn = 8)) || (decide (q.fn = 17))) = (dP q.fn) by rfl)) (w_ret fp)
theorem kW (q : TRequest)  :
    T Tryz.prog 10 [PV.f (bx q)] 0 [] (Ret (pB (dP q.fn)) 0 []) := by
 refine bn aF (n := 6) (rs := [.tmp 2]) Tryz.func10 Z Z Z Z (nb Z) ?_
 intro c N hk
 refine sr (qo N Z (cu Z Z ?_))
 refine qa N Z Z (aE [(1,PV.ptr 0 0)] [(0,.obj (cd q))] 1 ⟨Z,trivial⟩ Z Z (re (sr (xp N 2 [.o 2] [] [(4,pI q.fn)] (qo N Z (aO Z Z Z (w_burgageref14_local q.fn) Z ?_))))))
 exact ae N Z Z (w_ret fp)
theorem lw (t : TTenant) (q : TRequest) (ht : t.windows.length ≤ 1000) (hb : q.bits.length ≤ 140737488351232) (hv : q.vals.length ≤ 70368744175616) (hc : bO q.fn = true) :
    T Tryz.prog 46 [PV.f (cn t),PV.f (bx q)] 0 [] (Ret (PV.tup [pS 3 false aU (pW t.windows q),pS 3 false aU (pR t.windows q),pB (dH t.windows q)]) 0 []) := by
 refine bn aF (n := 96) (rs := [.tmp 4,.tmp 5,.tmp 6]) Tryz.func46 Z Z Z Z (nb Z) ?_
 intro c N hk
 let Y : ah := [(1,.obj (cd q)),(0,.obj (fc t))]
 refine sr (xm N 5 [.o 5] [] [(2,PV.ptr 0 0),(3,PV.ptr 1 0),(4,aH),(5,aH)] 2 Y (re (sr (xp N 3 [.o 3] [] [(7,pS 4 false aR t.windows)] (re ?_)))))
 refine an (an ?_)
 have hfo := hasF_of hc
 let Y2 : Nat × PV := (6,pB (bN t.windows (cW q.fn) q.at_ q.count))
 refine bk (xp N 2 [.o 2] [] [(12,pI q.fn)] (re (aP (xo N 13 [[.o 2],[.o 2],[.o 2],[.o 2]] [] ((decide (q.fn = 1)) || ((decide (q.fn = 2)) || ((decide (q.fn = 3)) || (decide (q.fn = 4))))) (av Z (fun c4 => ?_) (fun c4 => ?_))))))
 ·try simp only [sB,Bool.or_eq_true,Bool.or_eq_false_iff] at c4
  refine cK N (xq 14 [.o 3,.c (pI (cW q.fn)),.o 4,.c (PV.tup [pS 3 true aU (mapL t.windows (cW q.fn) q.at_ q.count),pB (bN t.windows (cW q.fn) q.at_ q.count)]),.o 5] [T Tryz.prog 71 [pI q.fn] 0 [] (Ret (pI (cW q.fn)) 0 []),T Tryz.prog 70 [pS 4 false aR t.windows,pI (cW q.fn),pI q.at_,pI q.count] 0 [] (Ret (PV.tup [pS 3 true aU (mapL t.windows (cW q.fn) q.at_ q.count),pB (bN t.windows (cW q.fn) q.at_ q.count)]) 0 [])] ?_ (hc := ⟨(jI q.fn),(fB t.windows false (cW q.fn) q.at_ q.count (by omega)),trivial⟩))
  refine xe [(4,aH),(5,pS 3 true aU (mapL t.windows (cW q.fn) q.at_ q.count)),Y2] (bG (aG (ak (sr (qm N Z Z ?_)))))
  refine qm N Z Z (qm N Z Z (qa N Z Z (qa N Z Z (ae N Z Z (dw (s := 4) (y := pS 3 false aU []) Z (ax 3 false) (aq (s := 4) Z (congrArg (fun z => pS 3 false aU z) (show ([] : List TPiece) = (pW t.windows q) by (rw [(jc (by omega)).1]; done))) (dw (s := 5) (y := pS 3 false aU (mapL t.windows (cW q.fn) q.at_ q.count)) Z (dB) (aq (s := 5) Z (congrArg (fun z => pS 3 false aU z) (show (mapL t.windows (cW q.fn) q.at_ q.count) = (pR t.windows q) by (rw [(jc (by omega)).2.1]; done))) (aq (s := 6) Z (congrArg pB (show (bN t.windows (cW q.fn) q.at_ q.count) = (dH t.windows q) by (rw [(jc (by omega)).2.2]; done))) ?_)))))))))
  exact w_ret fp
 try simp only [sB,Bool.or_eq_true,Bool.or_eq_false_iff] at c4
 refine xo N 30 [[.o 2],[.o 2]] [] ((decide (q.fn = 5)) || (decide (q.fn = 6))) (av Z (fun c6 => ?_) (fun c6 => ?_))
 ·try simp only [sB,Bool.or_eq_true,Bool.or_eq_false_iff] at c6
  refine cK N (xq 12 [.o 3,.c (pI (cW q.fn)),.o 2,.c (PV.tup [pS 3 true aU (mapL t.windows (cW q.fn) q.at_ 1),pB (bN t.windows (cW q.fn) q.at_ 1)]),.o 5] [T Tryz.prog 71 [pI q.fn] 0 [] (Ret (pI (cW q.fn)) 0 []),T Tryz.prog 70 [pS 4 false aR t.windows,pI (cW q.fn),pI q.at_,pI 1] 0 [] (Ret (PV.tup [pS 3 true aU (mapL t.windows (cW q.fn) q.at_ 1),pB (bN t.windows (cW q.fn) q.at_ 1)]) 0 [])] ?_ (hc := ⟨(jI q.fn),(fB t.windows false (cW q.fn) q.at_ 1 (by omega)),trivial⟩))
  refine xe [(4,pS 3 true aU (mapL t.windows (cW q.fn) q.at_ 1)),(5,aH),(6,pB (bN t.windows (cW q.fn) q.at_ 1))] (bG (aG (ak (sr (qm N Z Z ?_)))))
  refine qm N Z Z (qm N Z Z (qa N Z Z (qa N Z Z (ae N Z Z (dw (s := 4) (y := pS 3 false aU (mapL t.windows (cW q.fn) q.at_ 1)) Z (dB) (aq (s := 4) Z (congrArg (fun z => pS 3 false aU z) (show (mapL t.windows (cW q.fn) q.at_ 1) = (pW t.windows q) by (rw [(gL (by omega)).1]; done))) (dw (s := 5) (y := pS 3 false aU []) Z (ax 3 false) (aq (s := 5) Z (congrArg (fun z => pS 3 false aU z) (show ([] : List TPiece) = (pR t.windows q) by (rw [(gL (by omega)).2.1]; done))) (aq (s := 6) Z (congrArg pB (show (bN t.windows (cW q.fn) q.at_ 1) = (dH t.windows q) by (rw [(gL (by omega)).2.2]; done))) ?_)))))))))
  exact w_ret fp
 try simp only [sB,Bool.or_eq_true,Bool.or_eq_false_iff] at c6
 refine xo N 43 [[.o 2],[.o 2]] [] ((decide (q.fn = 15)) || (decide (q.fn = 16))) (av Z (fun c8 => ?_) (fun c8 => ?_))
 ·try simp only [sB,Bool.or_eq_true,Bool.or_eq_false_iff] at c8
  refine cK N (xq 14 [.o 3,.c (pI (cW q.fn)),.o 4,.c (PV.tup [pS 3 true aU (mapL t.windows (cW q.fn) q.at_ q.count),pB (bN t.windows (cW q.fn) q.at_ q.count)]),.o 5] [T Tryz.prog 71 [pI q.fn] 0 [] (Ret (pI (cW q.fn)) 0 []),T Tryz.prog 70 [pS 4 false aR t.windows,pI (cW q.fn),pI q.at_,pI q.count] 0 [] (Ret (PV.tup [pS 3 true aU (mapL t.windows (cW q.fn) q.at_ q.count),pB (bN t.windows (cW q.fn) q.at_ q.count)]) 0 [])] ?_ (hc := ⟨(jI q.fn),(fB t.windows false (cW q.fn) q.at_ q.count (by omega)),trivial⟩))
  refine xe [(4,pS 3 true aU (mapL t.windows (cW q.fn) q.at_ q.count)),(5,aH),Y2] (bG (aG (ak (sr (qm N Z Z ?_)))))
  refine qm N Z Z (qm N Z Z (qa N Z Z (qa N Z Z (ae N Z Z (dw (s := 4) (y := pS 3 false aU (mapL t.windows (cW q.fn) q.at_ q.count)) Z (dB) (aq (s := 4) Z (congrArg (fun z => pS 3 false aU z) (show (mapL t.windows (cW q.fn) q.at_ q.count) = (pW t.windows q) by (rw [(gt (by omega)).1]; done))) (dw (s := 5) (y := pS 3 false aU []) Z (ax 3 false) (aq (s := 5) Z (congrArg (fun z => pS 3 false aU z) (show ([] : List TPiece) = (pR t.windows q) by (rw [(gt (by omega)).2.1]; done))) (aq (s := 6) Z (congrArg pB (show (bN t.windows (cW q.fn) q.at_ q.count) = (dH t.windows q) by (rw [(gt (by omega)).2.2]; done))) ?_)))))))))
  exact w_ret fp
 try simp only [sB,Bool.or_eq_true,Bool.or_eq_false_iff] at c8
 refine sr (qo N Z (bF Z Z ?_))
 refine ae N Z Z (av Z (fun c9 => ?_) (fun c9 => ?_))
 ·try simp only [sB] at c9
  refine sr (xp N 3 [.o 3] [] [(61,pS 4 false aR t.windows),(63,pI q.at_)] (qo N Z (aO Z Z Z (fB t.windows false 3 q.at_ 1 (by omega)) Z ?_)))
  refine qm N Z Z (qo N Z (cX Z Z ?_))
  refine qo N Z (cX Z Z ?_)
  refine qa N Z Z (ae N Z Z (bk (qm N Z Z (qa N Z Z (bG (aG (ak (sr (qm N Z Z ?_)))))))))
  refine qm N Z Z (qm N Z Z (qa N Z Z (qa N Z Z (ae N Z Z (dw (s := 4) (y := pS 3 false aU (mapL t.windows 3 q.at_ 1)) Z (dB) (aq (s := 4) Z (congrArg (fun z => pS 3 false aU z) (show (mapL t.windows 3 q.at_ 1) = (pW t.windows q) by (rw [(iC (by omega)).1]; done))) (dw (s := 5) (y := pS 3 false aU (mapL t.windows 3 q.at_ 1)) Z (dB) (aq (s := 5) Z (congrArg (fun z => pS 3 false aU z) (show (mapL t.windows 3 q.at_ 1) = (pR t.windows q) by (rw [(iC (by omega)).2.1]; done))) (aq (s := 6) Z (congrArg pB (show (bN t.windows 3 q.at_ 1) = (dH t.windows q) by (rw [(iC (by omega)).2.2]; done))) ?_)))))))))
  exact w_ret fp
 try simp only [sB] at c9
 refine sr (qo N Z (bF Z Z ?_))
 refine ae N Z Z (av Z (fun c10 => ?_) (fun c10 => ?_))
 ·try simp only [sB] at c10
  refine sr (ae N Z Z (sr (xp N 6 [.o 5,.c (pN q.vals.length)] [cC aj q.vals] [(71,pS 4 false aR t.windows),(73,pI q.wAt),(76,pN q.vals.length)] ?_ (hc := ⟨lenC_ok _ _,trivial⟩))))
  refine qo N Z (aO Z Z Z (fB t.windows false 3 q.wAt ((q.vals.length : Nat) : Int) (by omega)) Z ?_)
  refine qm N Z Z (qo N Z (cX Z Z ?_))
  refine qo N Z (cX Z Z ?_)
  refine qa N Z Z (ae N Z Z (sr (xp N 5 [.o 5] [] [(81,pS 4 false aR t.windows),(83,pI q.at_),(85,pI q.count)] (qo N Z (aO Z Z Z (fB t.windows false 3 q.at_ q.count (by omega)) Z ?_)))))
  refine qm N Z Z (qo N Z (cX Z Z ?_))
  refine qo N Z (cX Z Z ?_)
  let Y0 : Nat × PV := (4,pS 3 true aU (mapL t.windows 3 q.wAt ((q.vals.length : Nat) : Int)))
  let Y1 : Nat × PV := (5,pS 3 true aU (mapL t.windows 3 q.at_ q.count))
  refine qa N Z Z (qa N Z Z (aE [Y0,Y1,(6,pB (bN t.windows 3 q.wAt ((q.vals.length : Nat) : Int))),(8,pB (bN t.windows 3 q.at_ q.count))] Y 2 ⟨Z,Z,Z,Z,trivial⟩ Z Z (re (bk (xa N 5 [.o 2,.b 1 [.o 1],.o 1] [] [Y0,Y1,(6,pB ((bN t.windows 3 q.wAt ((q.vals.length : Nat) : Int)) && (bN t.windows 3 q.at_ q.count)))] 2 Y ?_)))))
  refine bG (aG (ak (sr (qm N Z Z (qm N Z Z (qm N Z Z (qa N Z Z (qa N Z Z (ae N Z Z ?_)))))))))
  exact dw (s := 4) (y := pS 3 false aU (mapL t.windows 3 q.wAt ((q.vals.length : Nat) : Int))) Z (dB) (aq (s := 4) Z (congrArg (fun z => pS 3 false aU z) (show (mapL t.windows 3 q.wAt ((q.vals.length : Nat) : Int)) = (pW t.windows q) by (rw [(gX (by omega)).1]; done))) (dw (s := 5) (y := pS 3 false aU (mapL t.windows 3 q.at_ q.count)) Z (dB) (aq (s := 5) Z (congrArg (fun z => pS 3 false aU z) (show (mapL t.windows 3 q.at_ q.count) = (pR t.windows q) by (rw [(gX (by omega)).2.1]; done))) (aq (s := 6) Z (congrArg pB (show ((bN t.windows 3 q.wAt ((q.vals.length : Nat) : Int)) && (bN t.windows 3 q.at_ q.count)) = (dH t.windows q) by (rw [(gX (by omega)).2.2]; done))) (w_ret fp)))))
 try simp only [sB] at c10
 refine bk (qa N Z Z (bG (aG (ak (sr ?_)))))
 refine xa N 6 [.o 6] [] [(4,aH),(5,aH),(6,pB true)] 2 Y (re (dw (s := 4) (y := pS 3 false aU []) Z (ax 3 false) (aq (s := 4) Z (congrArg (fun z => pS 3 false aU z) (show ([] : List TPiece) = (pW t.windows q) by (rw [(ik (by omega)).1]; done))) (dw (s := 5) (y := pS 3 false aU []) Z (ax 3 false) (aq (s := 5) Z (congrArg (fun z => pS 3 false aU z) (show ([] : List TPiece) = (pR t.windows q) by (rw [(ik (by omega)).2.1]; done))) ?_)))))
 exact aq (s := 6) Z (congrArg pB (show true = (dH t.windows q) by (rw [(ik (by omega)).2.2]; done))) (w_ret fp)
theorem sD (t : TTenant) (q : TRequest) (ht : t.windows.length ≤ 1000) (hb : q.bits.length ≤ 140737488351232) (hv : q.vals.length ≤ 70368744175616) :
    T Tryz.prog 45 [PV.f (cn t),PV.f (bx q)] 0 [] (Ret (pI (bL t.functions t.windows q)) 0 []) := by
 refine bn aF (n := 48) (rs := [.tmp 4]) Tryz.func45 Z Z Z Z (nb Z) ?_
 intro c N hk
 refine sr (qo N Z (cu Z Z ?_))
 refine qo N Z (cu Z Z ?_)
 let Y : ah := [(1,.obj (cd q)),(0,.obj (fc t))]
 refine qa N Z Z (aE [(2,PV.ptr 0 0),(3,PV.ptr 1 0)] Y 2 ⟨Z,Z,trivial⟩ Z Z (re (sr (xp N 1 [.o 1] [] [(9,PV.f (bx q))] (qo N Z (aO Z Z Z (mQ q (by omega) (by omega)) Z ?_))))))
 refine ae N Z Z (an (aP (sr (xp N 3 [.o 3] [] [(14,pB (decide (bK q = 15)))] (bS aF N Z Z Z (fun g1 => ?_) (fun g1 => ?_))))))
 ·have g1' := g1
  try simp only [sB] at g1'
  refine qo N Z (aX dG Z Z jS (by decide) Z ?_)
  refine bh (s := 14) Z (congrArg pB g1) (xp N 3 [.o 3] [] [(16,pK .u32 t.functions),(18,pI q.fn)] ?_)
  have hfo := hasF_of (xb (by simpa using g1))
  obtain ⟨fnn,hfn⟩ : ∃ n : Nat,q.fn = (n : Int) := ⟨q.fn.toNat,by omega⟩
  have hfnl : fnn < 32 := by omega
  have hfb : iG t.functions q.fn = decide (dx .and .u32 (t.functions / 2 ^ fnn) 1 = 0) := by unfold iG; rw [hfn,Int.toNat_natCast]
  refine bh (s := 18) Z (congrArg pI (show q.fn = ((fnn : Nat) : Int) by exact hfn)) (ry N Z Z Z Z (qo N Z (rB fnn Z Z (by show _ < (32 : Nat); omega) ?_)))
  refine ry N Z Z Z Z (qo N Z (qx Z Z ?_))
  refine xp N 3 [.o 3] [] [(11,pB (decide (dx .and .u32 (t.functions / 2 ^ fnn) 1 = 0)))] (re (av Z (fun c1 => ?_) (fun c1 => ?_)))
  ·have c1_ := c1
   try simp only [sB] at c1
   exact sr (ae N Z Z (aq (s := 4) Z (congrArg pI (show 1 = (bL t.functions t.windows q) by exact (mI (.inr (hfb.trans c1_))).symm)) (w_ret (am (af fp)))))
  have c1_ := c1
  try simp only [sB] at c1
  have hno : ¬ (bK q = 15 ∨ iG t.functions q.fn = true) := by rintro (h|h); exact absurd h (by simpa using g1); rw [hfb,c1_] at h; cases h
  refine sr (xp N 3 [.o 3] [] [(26,pB (!decide (bK q = 0)))] (bS aF N Z Z Z (fun g2 => ?_) (fun g2 => ?_)))
  ·have g2' := g2
   try simp only [sB] at g2'
   refine qo N Z (bj bc Z Z Z (nb Z) ?_)
   refine bh (s := 26) Z (congrArg pB g2) (ry N Z Z Z Z (qo N Z (aO Z Z Z (qY q (by omega) (by omega)) Z ?_)))
   refine xp N 3 [.o 3] [] [(23,pB (!(ck q)))] (re (av Z (fun c2 => ?_) (fun c2 => ?_)))
   ·have c2_ := c2
    try simp only [sB] at c2
    exact sr (ae N Z Z (aq (s := 4) Z (congrArg pI (show 3 = (bL t.functions t.windows q) by exact (o8 hno (by simpa using c2_)).symm)) (w_ret (am (af fp)))))
   have c2_ := c2
   try simp only [sB] at c2
   refine aw (aG (ak (an ?_)))
   have hcy : ck q = true := by simpa using c2_
   have hpl := qB t.windows q
   refine bk (xp N 2 [.o 2] [] [(32,PV.f (cn t)),(33,PV.f (bx q))] (qo N Z (aO Z Z Z (lw t q (by omega) (by omega) (by omega) (by exact gw hcy)) Z ?_)))
   refine xp N 7 [.o 7] [] [(6,pS 3 false aU (pW t.windows q)),(7,pS 3 false aU (pR t.windows q)),(8,pB (dH t.windows q))] (re (an (aP (sr (xp N 3 [.o 3] [] [(38,pB (!(dH t.windows q)))] ?_)))))
   refine re (av Z (fun c3 => ?_) (fun c3 => ?_))
   ·have c3_ := c3
    try simp only [sB] at c3
    exact sr (ae N Z Z (aq (s := 4) Z (congrArg pI (show 2 = (bL t.functions t.windows q) by exact (tF hno hcy (by simpa using c3_)).symm)) (w_ret (am (af fp)))))
   have c3_ := c3
   try simp only [sB] at c3
   have hpy : dH t.windows q = true := by simpa using c3_
   refine sr (qm N Z Z (qo N Z (ca (l := pW t.windows q) fT Z (cf (f := aU) Z) ?_)))
   refine qm N Z Z (qo N Z (ca (l := pR t.windows q) fT Z (cf (f := aU) Z) ?_))
   refine qo N Z (cm (a := (pW t.windows q).length) (b := (pR t.windows q).length) Z Z (by omega) (by omega) (by omega) ?_)
   refine qo N Z (gM Z Z ?_)
   refine ae N Z Z (av Z (fun c4 => ?_) (fun c4 => ?_))
   ·try simp only [sB] at c4
    exact sr (qa N Z Z (aE [(4,pI 4)] Y 2 ⟨Z,trivial⟩ Z Z (re (aq (s := 4) Z (congrArg pI (show 4 = (bL t.functions t.windows q) by exact (tE hno hcy hpy (by omega)).symm)) (w_ret (am (af fp)))))))
   try simp only [sB] at c4
   exact aw (aG (ak (sr (qa N Z Z (aE [(4,pI 0)] Y 2 ⟨Z,trivial⟩ Z Z (re (aq (s := 4) Z (congrArg pI (show 0 = (bL t.functions t.windows q) by exact (jF hno hcy hpy (by omega)).symm)) (w_ret fp))))))))
  have g2' := g2
  try simp only [sB] at g2'
  refine bh (s := 26) Z (congrArg pB g2) (xp N 4 [.o 4] [] [(23,pB true)] (re (av Z (fun _ => ?_) (fun e => absurd e (by decide)))))
  exact sr (ae N Z Z (aq (s := 4) Z (congrArg pI (show 3 = (bL t.functions t.windows q) by (exact (o8 hno (zW (by rw [g2]; rfl))).symm))) (w_ret (am (af fp)))))
 have g1' := g1
 try simp only [sB] at g1'
 refine bh (s := 14) Z (congrArg pB g1) (xp N 3 [.o 3] [] [(16,aZ),(18,aZ)] (xp N 5 [.o 5] [] [(11,pB true)] (re (av Z (fun _ => ?_) (fun e => absurd e (by decide))))))
 exact sr (ae N Z Z (aq (s := 4) Z (congrArg pI (show 1 = (bL t.functions t.windows q) by exact (mI (.inl (of_decide_eq_true g1))).symm)) (w_ret (am (af fp)))))
theorem kU (q : TRequest) (a : Int) (b : Int) (h1 : 0 ≤ a ∧ a ≤ 2147483648) (h2 : 0 ≤ b ∧ b ≤ 2147483648) :
    T Tryz.prog 31 [PV.f (bx q),pI a,pI b] 0 [] (Ret (pI (jr q.fn a b)) 0 []) := by
 refine bn aF (n := 17) (rs := [.tmp 6]) Tryz.func31 Z Z Z Z (nb Z) ?_
 intro c N hk
 refine sr (qo N Z (cu Z Z ?_))
 refine qa N Z Z (aE [(1,pI a),(2,pI b),(3,PV.ptr 0 0)] [(0,.obj (cd q))] 1 ⟨Z,Z,Z,trivial⟩ Z Z (re (an (sr (xp N 2 [.o 2] [] [(8,pI q.fn)] ?_)))))
 refine re (aP (xo N 9 [[.o 2],[.o 2]] [] ((decide (q.fn = 5)) || (decide (q.fn = 6))) (av Z (fun c2 => ?_) (fun c2 => ?_))))
 ·try simp only [sB,Bool.or_eq_true,Bool.or_eq_false_iff] at c2
  exact sr (ae N Z Z (aq (s := 6) Z (congrArg pI (show 1 = (jr q.fn a b) by exact (vS (by omega)).symm)) (w_ret (am (af fp)))))
 try simp only [sB,Bool.or_eq_true,Bool.or_eq_false_iff] at c2
 refine sr (qo N Z (bF Z Z ?_))
 refine ae N Z Z (av Z (fun c3 => ?_) (fun c3 => ?_))
 ·try simp only [sB] at c3
  exact sr (ae N Z Z (aq (s := 6) Z (congrArg pI (show 2 = (jr q.fn a b) by exact (tH (by omega)).symm)) (w_ret (am (af fp)))))
 try simp only [sB] at c3
 refine aw (aG (ak (sr (xp N 4 [.o 4] [bu (a + b)] [(6,pI (a + b))] ?_ (hc := ⟨by unfold bu; (omega),trivial⟩)))))
 exact re (aq (s := 6) Z (congrArg pI (show (a + b) = (jr q.fn a b) by exact (vT (by omega)).symm)) (w_ret fp))
theorem kO (n : Int)  :
    T Tryz.prog 57 [pI n] 0 [] (Ret (PV.tup [pI (dN n),pI (dK n)]) 0 []) := by
 refine bn aF (n := 22) (rs := [.tmp 2,.tmp 3]) Tryz.func57 Z Z Z Z (nb Z) ?_
 intro c N hk
 refine sr (xp N 2 [.o 2] [] [] (re (an (sr (qm N Z Z ?_)))))
 refine re (aP (sr (xp N 2 [.o 2] [] [(5,pB (decide (n = 1)))] (re (av Z (fun c1 => ?_) (fun c1 => ?_))))))
 ·try simp only [sB] at c1
  exact sr (qa N Z Z (ae N Z Z (aq (s := 2) Z (congrArg pI (show 0 = (dN n) by (unfold dN; rw [if_pos (by omega)]; done))) (aq (s := 3) Z (congrArg pI (show (-1) = (dK n) by (unfold dK; rw [if_neg (by omega),if_neg (by omega),if_neg (by omega)]; done))) (w_ret (am (af fp)))))))
 try simp only [sB] at c1
 refine sr (xp N 2 [.o 2] [] [(7,pB (decide (n = 2)))] (re (av Z (fun c2 => ?_) (fun c2 => ?_))))
 ·try simp only [sB] at c2
  exact sr (qa N Z Z (ae N Z Z (aq (s := 2) Z (congrArg pI (show 1 = (dN n) by (unfold dN; rw [if_neg (by omega),if_pos (by omega)]; done))) (aq (s := 3) Z (congrArg pI (show (-1) = (dK n) by (unfold dK; rw [if_neg (by omega),if_neg (by omega),if_neg (by omega)]; done))) (w_ret (am (af fp)))))))
 try simp only [sB] at c2
 refine sr (xp N 2 [.o 2] [] [(9,pB (decide (n = 3)))] (re (av Z (fun c3 => ?_) (fun c3 => ?_))))
 ·try simp only [sB] at c3
  exact sr (qa N Z Z (ae N Z Z (aq (s := 2) Z (congrArg pI (show 3 = (dN n) by (unfold dN; rw [if_neg (by omega),if_neg (by omega),if_pos (by omega)]; done))) (aq (s := 3) Z (congrArg pI (show (-1) = (dK n) by (unfold dK; rw [if_neg (by omega),if_neg (by omega),if_neg (by omega)]; done))) (w_ret (am (af fp)))))))
 try simp only [sB] at c3
 refine sr (xp N 2 [.o 2] [] [(11,pB (decide (n = 4)))] (re (av Z (fun c4 => ?_) (fun c4 => ?_))))
 ·try simp only [sB] at c4
  exact sr (qa N Z Z (ae N Z Z (aq (s := 2) Z (congrArg pI (show 2 = (dN n) by (unfold dN; rw [if_neg (by omega),if_neg (by omega),if_neg (by omega),if_pos (by omega)]; done))) (aq (s := 3) Z (congrArg pI (show (-1) = (dK n) by (unfold dK; rw [if_neg (by omega),if_neg (by omega),if_neg (by omega)]; done))) (w_ret (am (af fp)))))))
 try simp only [sB] at c4
 refine xo N 13 [[.o 2],[.o 2]] [] ((decide (n = 5)) || (decide (n = 15))) (av Z (fun c6 => ?_) (fun c6 => ?_))
 ·try simp only [sB,Bool.or_eq_true,Bool.or_eq_false_iff] at c6
  exact sr (qa N Z Z (ae N Z Z (aq (s := 2) Z (congrArg pI (show (-1) = (dN n) by (unfold dN; rw [if_neg (by omega),if_neg (by omega),if_neg (by omega),if_neg (by omega),if_neg (by omega)]; done))) (aq (s := 3) Z (congrArg pI (show 0 = (dK n) by (unfold dK; rw [if_pos (by omega)]; done))) (w_ret (am (af fp)))))))
 try simp only [sB,Bool.or_eq_true,Bool.or_eq_false_iff] at c6
 refine xo N 16 [[.o 2],[.o 2]] [] ((decide (n = 6)) || (decide (n = 16))) (av Z (fun c8 => ?_) (fun c8 => ?_))
 ·try simp only [sB,Bool.or_eq_true,Bool.or_eq_false_iff] at c8
  exact sr (qa N Z Z (ae N Z Z (aq (s := 2) Z (congrArg pI (show (-1) = (dN n) by (unfold dN; rw [if_neg (by omega),if_neg (by omega),if_neg (by omega),if_neg (by omega),if_neg (by omega)]; done))) (aq (s := 3) Z (congrArg pI (show 3 = (dK n) by (unfold dK; rw [if_neg (by omega),if_pos (by omega)]; done))) (w_ret (am (af fp)))))))
 try simp only [sB,Bool.or_eq_true,Bool.or_eq_false_iff] at c8
 refine xo N 19 [[.o 2],[.o 2]] [] ((decide (n = 22)) || (decide (n = 23))) (av Z (fun c10 => ?_) (fun c10 => ?_))
 ·try simp only [sB,Bool.or_eq_true,Bool.or_eq_false_iff] at c10
  exact sr (qa N Z Z (ae N Z Z (aq (s := 2) Z (congrArg pI (show 3 = (dN n) by (unfold dN; rw [if_neg (by omega),if_neg (by omega),if_neg (by omega),if_neg (by omega),if_pos (by omega)]; done))) (aq (s := 3) Z (congrArg pI (show 3 = (dK n) by (unfold dK; rw [if_neg (by omega),if_neg (by omega),if_pos (by omega)]; done))) (w_ret (am (af fp)))))))
 try simp only [sB,Bool.or_eq_true,Bool.or_eq_false_iff] at c10
 exact aw (aG (ak (sr (qa N Z Z (ae N Z Z (aq (s := 2) Z (congrArg pI (show (-1) = (dN n) by (unfold dN; rw [if_neg (by omega),if_neg (by omega),if_neg (by omega),if_neg (by omega),if_neg (by omega)]; done))) (aq (s := 3) Z (congrArg pI (show (-1) = (dK n) by (unfold dK; rw [if_neg (by omega),if_neg (by omega),if_neg (by omega)]; done))) (w_ret fp))))))))
theorem lC (q : TRequest) (hv : q.vals.length ≤ 70368744175616) :
    T Tryz.prog 58 [PV.f (bx q)] 0 [] (Ret (PV.tup [pI (dU q),pI (dT q),pI (dQ q),pI (dR q)]) 0 []) := by
 refine bn aF (n := 46) (rs := [.tmp 2,.tmp 3,.tmp 4,.tmp 5]) Tryz.func58 Z Z Z Z (nb Z) ?_
 intro c N hk
 refine sr (xm N 5 [.o 5] [] [(1,PV.ptr 0 0)] 1 [(0,.obj (cd q))] (re (an (sr (xp N 2 [.o 2] [] [(7,pI q.fn)] ?_)))))
 refine re (aP (xo N 8 [[.o 2],[.o 2],[.o 2],[.o 2]] [] ((decide (q.fn = 1)) || ((decide (q.fn = 2)) || ((decide (q.fn = 3)) || (decide (q.fn = 4))))) (av Z (fun c4 => ?_) (fun c4 => ?_))))
 ·try simp only [sB,Bool.or_eq_true,Bool.or_eq_false_iff] at c4
  refine an (cK N (xq 8 [.o 8] [] (xe [(2,pI q.at_),(3,pI q.count),(4,pI 0),(5,pI 0)] (re (aq (s := 2) Z (congrArg pI (show q.at_ = (dU q) by (unfold dU; rw [if_pos (by omega)]; done))) ?_)))))
  exact aq (s := 3) Z (congrArg pI (show q.count = (dT q) by (unfold dT; rw [if_pos (by omega)]; done))) (aq (s := 4) Z (congrArg pI (show 0 = (dQ q) by (unfold dQ; rw [if_neg (by omega),if_neg (by omega)]; done))) (aq (s := 5) Z (congrArg pI (show 0 = (dR q) by (unfold dR; rw [if_neg (by omega),if_neg (by omega),if_neg (by omega)]; done))) (w_ret (am (af fp)))))
 try simp only [sB,Bool.or_eq_true,Bool.or_eq_false_iff] at c4
 refine xo N 17 [[.o 2],[.o 2]] [] ((decide (q.fn = 5)) || (decide (q.fn = 6))) (av Z (fun c6 => ?_) (fun c6 => ?_))
 ·try simp only [sB,Bool.or_eq_true,Bool.or_eq_false_iff] at c6
  refine an (cK N (xq 6 [.o 6] [] (xe [(2,pI 0),(3,pI 0),(4,pI q.at_),(5,pI 1)] (re (aq (s := 2) Z (congrArg pI (show 0 = (dU q) by (unfold dU; rw [if_neg (by omega)]; done))) ?_)))))
  exact aq (s := 3) Z (congrArg pI (show 0 = (dT q) by (unfold dT; rw [if_neg (by omega),if_neg (by omega)]; done))) (aq (s := 4) Z (congrArg pI (show q.at_ = (dQ q) by (unfold dQ; rw [if_pos (by omega)]; done))) (aq (s := 5) Z (congrArg pI (show 1 = (dR q) by (unfold dR; rw [if_pos (by omega)]; done))) (w_ret (am (af fp)))))
 try simp only [sB,Bool.or_eq_true,Bool.or_eq_false_iff] at c6
 refine xo N 22 [[.o 2],[.o 2]] [] ((decide (q.fn = 15)) || (decide (q.fn = 16))) (av Z (fun c8 => ?_) (fun c8 => ?_))
 ·try simp only [sB,Bool.or_eq_true,Bool.or_eq_false_iff] at c8
  refine an (cK N (xq 8 [.o 8] [] (xe [(2,pI 0),(3,pI 0),(4,pI q.at_),(5,pI q.count)] (re (aq (s := 2) Z (congrArg pI (show 0 = (dU q) by (unfold dU; rw [if_neg (by omega)]; done))) ?_)))))
  exact aq (s := 3) Z (congrArg pI (show 0 = (dT q) by (unfold dT; rw [if_neg (by omega),if_neg (by omega)]; done))) (aq (s := 4) Z (congrArg pI (show q.at_ = (dQ q) by (unfold dQ; rw [if_pos (by omega)]; done))) (aq (s := 5) Z (congrArg pI (show q.count = (dR q) by (unfold dR; rw [if_neg (by omega),if_pos (by omega)]; done))) (w_ret (am (af fp)))))
 try simp only [sB,Bool.or_eq_true,Bool.or_eq_false_iff] at c8
 refine sr (qo N Z (bF Z Z ?_))
 refine ae N Z Z (av Z (fun c9 => ?_) (fun c9 => ?_))
 ·try simp only [sB] at c9
  refine an (cK N (xq 8 [.o 8] [] (xe [(2,pI q.at_),(3,pI 1),(4,pI q.at_),(5,pI 1)] (re (aq (s := 2) Z (congrArg pI (show q.at_ = (dU q) by (unfold dU; rw [if_pos (by omega)]; done))) ?_)))))
  exact aq (s := 3) Z (congrArg pI (show 1 = (dT q) by (unfold dT; rw [if_neg (by omega),if_pos (by omega)]; done))) (aq (s := 4) Z (congrArg pI (show q.at_ = (dQ q) by (unfold dQ; rw [if_pos (by omega)]; done))) (aq (s := 5) Z (congrArg pI (show 1 = (dR q) by (unfold dR; rw [if_pos (by omega)]; done))) (w_ret (am (af fp)))))
 try simp only [sB] at c9
 refine sr (qo N Z (bF Z Z ?_))
 refine ae N Z Z (av Z (fun c10 => ?_) (fun c10 => ?_))
 ·try simp only [sB] at c10
  refine an (cK N (xq 13 [.o 8,.c (pN q.vals.length),.o 4] [cC aj q.vals] ?_ (hc := ⟨lenC_ok _ _,trivial⟩)))
  refine xe [(2,pI q.at_),(3,pI q.count),(4,pI q.wAt),(5,pN q.vals.length)] (re (aq (s := 2) Z (congrArg pI (show q.at_ = (dU q) by (unfold dU; rw [if_pos (by omega)]; done))) (aq (s := 3) Z (congrArg pI (show q.count = (dT q) by (unfold dT; rw [if_pos (by omega)]; done))) (aq (s := 4) Z (congrArg pI (show q.wAt = (dQ q) by (unfold dQ; rw [if_neg (by omega),if_pos (by omega)]; done))) (aq (s := 5) Z (congrArg pI (show ((q.vals.length : Nat) : Int) = (dR q) by (unfold dR; rw [if_neg (by omega),if_neg (by omega),if_pos (by omega)]; done))) ?_)))))
  exact w_ret (am (af fp))
 try simp only [sB] at c10
 refine aw (aG (ak (sr (xp N 4 [.o 4] [] [(2,pI 0),(3,pI 0),(4,pI 0),(5,pI 0)] (re ?_)))))
 exact aq (s := 2) Z (congrArg pI (show 0 = (dU q) by (unfold dU; rw [if_neg (by omega)]; done))) (aq (s := 3) Z (congrArg pI (show 0 = (dT q) by (unfold dT; rw [if_neg (by omega),if_neg (by omega)]; done))) (aq (s := 4) Z (congrArg pI (show 0 = (dQ q) by (unfold dQ; rw [if_neg (by omega),if_neg (by omega)]; done))) (aq (s := 5) Z (congrArg pI (show 0 = (dR q) by (unfold dR; rw [if_neg (by omega),if_neg (by omega),if_neg (by omega)]; done))) (w_ret fp))))
theorem gR (t : TTenant) (q : TRequest) (ht : t.windows.length ≤ 1000) (hb : q.bits.length ≤ 140737488351232) (hv : q.vals.length ≤ 70368744175616) (hc : bO q.fn = true) :
    T Tryz.prog 29 [PV.f (cn t),PV.f (bx q)] 0 [] (Ret (PV.tup [pS 3 false aU (pR t.windows q),pS 3 false aU (pW t.windows q),pB (dH t.windows q)]) 0 []) := by
 refine bn aF (n := 58) (rs := [.tmp 4,.tmp 5,.tmp 6]) Tryz.func29 Z Z Z Z (nb Z) ?_
 intro c N hk
 let Y0 : ah := [(1,.obj (cd q)),(0,.obj (fc t))]
 refine sr (xm N 5 [.o 5] [] [(2,PV.ptr 0 0),(3,PV.ptr 1 0)] 2 Y0 (re (sr (xp N 2 [.o 2] [] [(19,pI q.fn)] (qo N Z (aO Z Z Z (kO q.fn) Z ?_))))))
 refine xp N 5 [.o 5] [] [(7,pI (dN q.fn)),(8,pI (dK q.fn))] (re (sr (xp N 1 [.o 1] [] [(24,PV.f (bx q))] (qo N Z (aO Z Z Z (lC q (by omega)) Z ?_)))))
 refine xp N 9 [.o 9] [] [(9,pI (dU q)),(10,pI (dT q)),(11,pI (dQ q)),(12,pI (dR q))] (re (sr (qa N Z Z (ae N Z Z (sr ?_)))))
 refine qa N Z Z (ae N Z Z (an (sr (qm N Z Z (qo N Z (jy Z Z ?_))))))
 let Y2 : aI := [(45,pS 4 false aR t.windows),(46,pI (dK q.fn)),(47,pI (dQ q)),(48,pI (dR q))]
 let Y3 : Nat × PV := (5,pS 3 false aU (mapL t.windows (dK q.fn) (dQ q) (dR q)))
 refine re (av Z (fun c1 => ?_) (fun c1 => ?_))
 ·try simp only [sB] at c1
  refine bk (xp N 5 [.o 5] [] [(34,pS 4 false aR t.windows),(35,pI (dN q.fn)),(36,pI (dU q)),(37,pI (dT q))] (qo N Z (aO Z Z Z (gy t.windows false (dN q.fn) (dU q) (dT q) (by omega)) Z ?_)))
  refine qm N Z Z (qo N Z (cX Z Z ?_))
  refine qo N Z (cX Z Z ?_)
  refine qa N Z Z (ae N Z Z (an (sr (qm N Z Z (qo N Z (jy Z Z ?_))))))
  let Y4 : Nat × PV := (4,pS 3 false aU (mapL t.windows (dN q.fn) (dU q) (dT q)))
  refine re (av Z (fun c2 => ?_) (fun c2 => ?_))
  ·try simp only [sB] at c2
   refine bk (xp N 5 [.o 5] [] Y2 (qo N Z (aO Z Z Z (gy t.windows false (dK q.fn) (dQ q) (dR q) (by omega)) Z ?_)))
   refine qm N Z Z (qo N Z (cX Z Z ?_))
   refine qo N Z (cX Z Z ?_)
   refine qa N Z Z (qa N Z Z (aE [(13,pS 3 false aU (mapL t.windows (dN q.fn) (dU q) (dT q))),(14,pS 3 false aU (mapL t.windows (dK q.fn) (dQ q) (dR q))),(15,pB (bN t.windows (dN q.fn) (dU q) (dT q))),(16,pB (bN t.windows (dK q.fn) (dQ q) (dR q)))] Y0 2 ⟨Z,Z,Z,Z,trivial⟩ Z Z (re (sr (xp N 9 [.o 4,.b 1 [.o 1],.o 3] [] [Y4,Y3,(6,pB ((bN t.windows (dN q.fn) (dU q) (dT q)) && (bN t.windows (dK q.fn) (dQ q) (dR q))))] ?_)))))
   exact re (aq (s := 4) Z (congrArg (fun z => pS 3 false aU z) (show (mapL t.windows (dN q.fn) (dU q) (dT q)) = (pR t.windows q) by exact vf hc (by omega))) (aq (s := 5) Z (congrArg (fun z => pS 3 false aU z) (show (mapL t.windows (dK q.fn) (dQ q) (dR q)) = (pW t.windows q) by exact vd hc (by omega))) (aq (s := 6) Z (congrArg pB (show ((bN t.windows (dN q.fn) (dU q) (dT q)) && (bN t.windows (dK q.fn) (dQ q) (dR q))) = (dH t.windows q) by exact zh hc (by omega) (by omega))) (w_ret fp))))
  try simp only [sB] at c2
  let Y : aI := [Y4,(5,aH),(6,pB ((bN t.windows (dN q.fn) (dU q) (dT q)) && true))]
  refine aw (ak (sr (xp N 9 [.o 4,.b 1 [.o 1],.o 3] [] Y (aE Y Y0 2 ⟨Z,Z,Z,trivial⟩ Z Z (re ?_)))))
  exact aq (s := 4) Z (congrArg (fun z => pS 3 false aU z) (show (mapL t.windows (dN q.fn) (dU q) (dT q)) = (pR t.windows q) by exact vf hc (by omega))) (dw (s := 5) (y := pS 3 false aU []) Z (ax 3 false) (aq (s := 5) Z (congrArg (fun z => pS 3 false aU z) (show ([] : List TPiece) = (pW t.windows q) by exact ve hc (by omega))) (aq (s := 6) Z (congrArg pB (show ((bN t.windows (dN q.fn) (dU q) (dT q)) && true) = (dH t.windows q) by exact (Bool.and_true _).trans (zi hc (by omega) (by omega)))) (w_ret fp))))
 try simp only [sB] at c1
 refine aw (ak (an (sr (qm N Z Z (qo N Z (jy Z Z ?_))))))
 refine re (av Z (fun c3 => ?_) (fun c3 => ?_))
 ·try simp only [sB] at c3
  refine bk (xp N 5 [.o 5] [] Y2 (qo N Z (aO Z Z Z (gy t.windows false (dK q.fn) (dQ q) (dR q) (by omega)) Z ?_)))
  refine qm N Z Z (qo N Z (cX Z Z ?_))
  refine qo N Z (cX Z Z ?_)
  let Y1 : aI := [(4,aH),Y3,(6,pB (bN t.windows (dK q.fn) (dQ q) (dR q)))]
  refine qa N Z Z (ae N Z Z (sr (xp N 9 [.o 9] [] Y1 (aE Y1 Y0 2 ⟨Z,Z,Z,trivial⟩ Z Z (re ?_)))))
  exact dw (s := 4) (y := pS 3 false aU []) Z (ax 3 false) (aq (s := 4) Z (congrArg (fun z => pS 3 false aU z) (show ([] : List TPiece) = (pR t.windows q) by exact vg hc (by omega))) (aq (s := 5) Z (congrArg (fun z => pS 3 false aU z) (show (mapL t.windows (dK q.fn) (dQ q) (dR q)) = (pW t.windows q) by exact vd hc (by omega))) (aq (s := 6) Z (congrArg pB (show (bN t.windows (dK q.fn) (dQ q) (dR q)) = (dH t.windows q) by exact zj hc (by omega) (by omega))) (w_ret fp))))
 try simp only [sB] at c3
 refine aw (ak (sr (xp N 9 [.o 9] [] [(4,aH),(5,aH),(6,pB true)] (re (dw (s := 4) (y := pS 3 false aU []) Z (ax 3 false) ?_)))))
 exact aq (s := 4) Z (congrArg (fun z => pS 3 false aU z) (show ([] : List TPiece) = (pR t.windows q) by exact vg hc (by omega))) (dw (s := 5) (y := pS 3 false aU []) Z (ax 3 false) (aq (s := 5) Z (congrArg (fun z => pS 3 false aU z) (show ([] : List TPiece) = (pW t.windows q) by exact ve hc (by omega))) (aq (s := 6) Z (congrArg pB (show true = (dH t.windows q) by exact zk hc (by omega) (by omega))) (w_ret fp))))
theorem iz (t : TTenant) (q : TRequest) (ht : t.windows.length ≤ 1000) (hb : q.bits.length ≤ 140737488351232) (hv : q.vals.length ≤ 70368744175616) :
    T Tryz.prog 8 [PV.f (cn t),PV.f (bx q)] 0 [] (Ret (pI (bL t.functions t.windows q)) 0 []) := by
 refine bn aF (n := 47) (rs := [.tmp 4]) Tryz.func8 Z Z Z Z (nb Z) ?_
 intro c N hk
 refine sr (qo N Z (cu Z Z ?_))
 refine qo N Z (cu Z Z ?_)
 let Y0 : ah := [(1,.obj (cd q)),(0,.obj (fc t))]
 refine qa N Z Z (aE [(2,PV.ptr 0 0),(3,PV.ptr 1 0)] Y0 2 ⟨Z,Z,trivial⟩ Z Z (re (an (sr (xp N 2 [.o 2] [] [(9,pI q.fn)] ?_)))))
 refine qo N Z (aO Z Z Z (gz q.fn) Z ?_)
 refine xp N 2 [.o 2] [] [(12,pB (!(bO q.fn)))] (bS aF N Z Z Z (fun g1 => ?_) (fun g1 => ?_))
 ·have g1' := g1
  try simp only [sB] at g1'
  refine qo N Z (aX dG Z Z jS (by decide) Z ?_)
  refine bh (s := 12) Z (congrArg pB g1) (xp N 3 [.o 3] [] [(14,pK .u32 t.functions),(16,pI q.fn)] ?_)
  have hfo := hasF_of (by simpa using g1)
  obtain ⟨fnn,hfn⟩ : ∃ n : Nat,q.fn = (n : Int) := ⟨q.fn.toNat,by omega⟩
  have hfnl : fnn < 32 := by omega
  have hfb : iG t.functions q.fn = decide (dx .and .u32 (t.functions / 2 ^ fnn) 1 = 0) := by unfold iG; rw [hfn,Int.toNat_natCast]
  refine bh (s := 16) Z (congrArg pI (show q.fn = ((fnn : Nat) : Int) by exact hfn)) (ry N Z Z Z Z (qo N Z (qw aD jR Z Z Z Z (by exact ⟨by omega,by show _ < (18446744073709551616 : Int); omega⟩) ?_)))
  refine ry N Z Z Z Z (qo N Z (rB fnn Z Z (by show _ < (32 : Nat); omega) ?_))
  refine ry N Z Z Z Z (qo N Z (qx Z Z ?_))
  refine xp N 2 [.o 2] [] [(21,pB (decide (dx .and .u32 (t.functions / 2 ^ fnn) 1 = 0)))] (re (av Z (fun c1 => ?_) (fun c1 => ?_)))
  ·have c1_ := c1
   try simp only [sB] at c1
   exact sr (ae N Z Z (aq (s := 4) Z (congrArg pI (show 1 = (bL t.functions t.windows q) by exact (mI (.inr (hfb.trans c1_))).symm)) (w_ret (af fp))))
  have c1_ := c1
  try simp only [sB] at c1
  have hno : ¬ (bK q = 15 ∨ iG t.functions q.fn = true) := by rintro (h|h); exact absurd h (sO (by simpa using g1)); rw [hfb,c1_] at h; cases h
  refine aw (ak (an (sr (xp N 1 [.o 1] [] [(22,PV.f (bx q))] (qo N Z (aO Z Z Z (kR q (by omega) (by omega)) Z ?_))))))
  refine qo N Z (eO Z ?_)
  refine re (av Z (fun c2 => ?_) (fun c2 => ?_))
  ·have c2_ := c2
   try simp only [sB] at c2
   exact sr (ae N Z Z (aq (s := 4) Z (congrArg pI (show 3 = (bL t.functions t.windows q) by exact (o8 hno (by simpa using c2_)).symm)) (w_ret (af fp))))
  have c2_ := c2
  try simp only [sB] at c2
  refine aw (ak (an ?_))
  have hcy : ck q = true := by simpa using c2_
  have hpl := qB t.windows q
  refine bk (xp N 2 [.o 2] [] [(26,PV.f (cn t)),(27,PV.f (bx q))] (qo N Z (aO Z Z Z (gR t q (by omega) (by omega) (by omega) (by exact gw hcy)) Z ?_)))
  refine xp N 7 [.o 7] [] [(5,pS 3 false aU (pR t.windows q)),(6,pS 3 false aU (pW t.windows q)),(7,pB (dH t.windows q))] (re (an (sr (qm N Z Z (qo N Z (eO Z ?_))))))
  refine re (av Z (fun c3 => ?_) (fun c3 => ?_))
  ·have c3_ := c3
   try simp only [sB] at c3
   exact sr (ae N Z Z (aq (s := 4) Z (congrArg pI (show 2 = (bL t.functions t.windows q) by exact (tF hno hcy (by simpa using c3_)).symm)) (w_ret (af fp))))
  have c3_ := c3
  try simp only [sB] at c3
  have hpy : dH t.windows q = true := by simpa using c3_
  have hcs := xJ (gw hcy) hpy
  refine aw (ak (an (sr (xp N 2 [.o 2] [] [(35,pI q.fn)] (qo N Z (aO Z Z Z (w_burgageref14_local q.fn) Z ?_))))))
  refine xp N 2 [.o 2] [] [(38,pB (!(dP q.fn)))] (bS aF N Z Z Z (fun g2 => ?_) (fun g2 => ?_))
  ·have g2' := g2
   try simp only [sB] at g2'
   refine qo N Z (bj bc Z Z Z (nb Z) ?_)
   refine bh (s := 38) Z (congrArg pB g2) (xp N 4 [.o 1,.c (pN ((pR t.windows q).length)),.o 1,.c (pN ((pW t.windows q).length))] [cC aU (pR t.windows q),cC aU (pW t.windows q)] [(41,pN ((pR t.windows q).length)),(43,pN ((pW t.windows q).length))] ?_ (hc := ⟨lenC_ok _ _,lenC_ok _ _,trivial⟩))
   refine ry N Z Z Z Z (qo N Z (aO Z Z Z (kU q (((pR t.windows q).length : Nat) : Int) (((pW t.windows q).length : Nat) : Int) (by omega) (by omega)) Z ?_))
   let Y : aI := [(46,pB (decide (6 < jr q.fn (((pR t.windows q).length : Nat) : Int) (((pW t.windows q).length : Nat) : Int))))]
   refine xp N 2 [.o 2] [] Y (aE Y Y0 2 ⟨Z,trivial⟩ Z Z (re (av Z (fun c4 => ?_) (fun c4 => ?_))))
   ·have c4_ := c4
    try simp only [sB] at c4
    have h4y : decide (6 < (pW t.windows q).length + (pR t.windows q).length) = true := by rw [← hcs,g2,c4_]; rfl
    exact sr (ae N Z Z (aq (s := 4) Z (congrArg pI (show 4 = (bL t.functions t.windows q) by exact (tE hno hcy hpy (of_decide_eq_true h4y)).symm)) (w_ret (af fp))))
   have c4_ := c4
   try simp only [sB] at c4
   have h4y : decide (6 < (pW t.windows q).length + (pR t.windows q).length) = false := by rw [← hcs,g2,c4_]; rfl
   exact aw (ak (sr (ae N Z Z (aq (s := 4) Z (congrArg pI (show 0 = (bL t.functions t.windows q) by exact (jF hno hcy hpy (of_decide_eq_false h4y)).symm)) (w_ret fp)))))
  have g2' := g2
  try simp only [sB] at g2'
  have h4y : decide (6 < (pW t.windows q).length + (pR t.windows q).length) = false := by rw [← hcs,g2]; rfl
  refine bh (s := 38) Z (congrArg pB g2) (xp N 7 [.o 7] [] [(46,pB false)] (re (av Z (fun e => absurd e (by decide)) (fun _ => ?_))))
  exact aw (ak (sr (ae N Z Z (aq (s := 4) Z (congrArg pI (show 0 = (bL t.functions t.windows q) by exact (jF hno hcy hpy (of_decide_eq_false h4y)).symm)) (w_ret fp)))))
 have g1' := g1
 try simp only [sB] at g1'
 refine bh (s := 12) Z (congrArg pB g1) (xp N 3 [.o 3] [] [(14,aZ),(16,aZ)] (xp N 5 [.o 5] [] [(21,pB true)] (re (av Z (fun _ => ?_) (fun e => absurd e (by decide))))))
 exact sr (ae N Z Z (aq (s := 4) Z (congrArg pI (show 1 = (bL t.functions t.windows q) by exact (mI (.inl (w9 (by simpa using g1)))).symm)) (w_ret (af fp))))
theorem kj (f : Int) (p : TPiece)  :
    T Tryz.prog 47 [pI f,PV.f (aU p)] 0 [] (Ret (PV.f (bJ (cN f p))) 0 []) := by
 refine bn aF (n := 12) (rs := [.cell 4 68]) Tryz.func47 Z Z Z Z (nb Z) ?_
 intro c N hk
 refine sr (qo N Z (cu Z Z ?_))
 refine qo N Z (cg fU ?_)
 refine aE [(0,pI f),(3,PV.ptr 0 0),(4,PV.ptr 1 0)] [(1,.obj [pI 0,pI 0,pI 0,pI 0,pI 0,aH,aH,au 0,au 0,pB false]),(0,.obj (fG p))] 2 ⟨Z,Z,Z,trivial⟩ Z Z (re (sr (xm N 8 [.o 8] [] [] 2 [(1,.obj [pI f,pI p.physical,pI p.count,pI 0,pI 0,aH,aH,au 0,au 0,pB false]),(0,.obj (fG p))] (re (bH (n := 1) (ds := uC (cN f p)) Z ⟨le_of_eq (congrArg pI (show f = ((cN f p).request.fn) by rfl)),le_of_eq (congrArg pI (show p.physical = ((cN f p).request.at_) by rfl)),le_of_eq (congrArg pI (show p.count = ((cN f p).request.count) by rfl)),le_of_eq (congrArg pI (show 0 = ((cN f p).request.wAt) by rfl)),le_of_eq (congrArg pI (show 0 = ((cN f p).request.sub) by rfl)),be (ax 1 false) (le_of_eq (congrArg (fun z => pS 1 false ar z) (show ([] : List Bool) = ((cN f p).request.bits) by rfl))),be (ax 1 false) (le_of_eq (congrArg (fun z => pS 1 false aj z) (show ([] : List UInt16) = ((cN f p).request.vals) by rfl))),le_of_eq (congrArg au (show 0 = ((cN f p).request.and_) by rfl)),le_of_eq (congrArg au (show 0 = ((cN f p).request.or_) by rfl)),le_of_eq (congrArg pB (show false = ((cN f p).write) by rfl)),trivial⟩ ?_)))))
 exact w_ret fp
theorem qZ (t : TTenant) (q : TRequest) (S : List TPart × Int) (hS : S = splitP t.functions t.windows q) (ht : t.windows.length ≤ 1000) (hb : q.bits.length ≤ 140737488351232) (hv : q.vals.length ≤ 70368744175616) :
    T Tryz.prog 18 [PV.f (cn t),PV.f (bx q)] 0 [] (Ret (PV.tup [pS 10 false bJ S.1,pI S.2]) 0 []) := by
 refine bn aF (n := 155) (rs := [.tmp 4,.tmp 5]) Tryz.func18 Z Z Z Z (nb Z) ?_
 intro c N hk
 let Y0 : Nat × Pv.Obj := (1,.obj (cd q))
 let Ya2 : Nat × PV := (3,PV.ptr 1 0)
 refine sr (xm N 4 [.o 4] [] [(2,PV.ptr 0 0),Ya2] 2 [Y0,(0,.obj (fc t))] (re (an (sr (xp N 2 [.o 2] [] [(18,PV.f (cn t)),(19,PV.f (bx q))] ?_)))))
 refine qo N Z (aO Z Z Z (sD t q (by omega) (by omega) (by omega)) Z ?_)
 refine ae N Z Z (sr (qm N Z Z (qo N Z (el Z Z ?_))))
 refine re (av Z (fun c1 => ?_) (fun c1 => ?_))
 ·have c1_ := c1
  try simp only [sB] at c1
  have hcn : ¬ bL t.functions t.windows q = 0 := by simpa using c1_
  rw [gQ hcn] at hS
  exact sr (qm N Z Z (qa N Z Z (ae N Z Z (dw (s := 4) (y := pS 10 false bJ []) Z (ax 10 false) (aq (s := 4) Z (congrArg (fun z => pS 10 false bJ z) (show ([] : List TPart) = S.1 by (rw [hS]; done))) (aq (s := 5) Z (congrArg pI (show (bL t.functions t.windows q) = S.2 by (rw [hS]; done))) (w_ret (af fp))))))))
 have c1_ := c1
 try simp only [sB] at c1
 refine aw (ak (an ?_))
 have hc0 : bL t.functions t.windows q = 0 := by simpa using c1_
 obtain ⟨hno,hcy,hpy,hle6⟩ := gx hc0
 rw [eJ hc0] at hS
 have hpl := qB t.windows q
 have hsm := iL (cR (eL hcy)).2
 refine bk (ae N Z Z (sr (xp N 2 [.o 2] [] [(25,PV.f (cn t)),(26,PV.f (bx q))] (qo N Z (aO Z Z Z (lw t q (by omega) (by omega) (by omega) (by exact gw hcy)) Z ?_)))))
 let Y6 : Nat × PV := (9,pS 3 false aU (pR t.windows q))
 refine xp N 7 [.o 7] [] [(8,pS 3 false aU (pW t.windows q)),Y6] (re (an (sr (xp N 3 [.o 3] [] [(33,pB (decide (q.fn = 22)))] (re ?_)))))
 refine av Z (fun c2 => ?_) (fun c2 => ?_)
 ·try simp only [sB] at c2
  refine an ?_
  obtain ⟨h1l,h1c,hrw,_⟩ := jz (l := t.windows) (q := q) (by omega) hpy
  have hrw2 := hrw (by omega)
  have hrl : (pR t.windows q).length = 1 := by rw [hrw2]; exact h1l
  have hrc : ∀ x,(pR t.windows q)[0]? = some x → x.count = 1 := by rw [hrw2]; exact h1c
  refine bk (qm N Z Z ?_)
  obtain ⟨e1,he1⟩ := bl (pR t.windows q) (i := 0) (by omega)
  refine qo N Z (cA (q := 0) (b := e1) (f := aU) fT Z gU Z Z (by omega) Z he1 ?_)
  refine xp N 3 [.o 3] [] [(11,pI e1.physical)] (re (sr (qm N Z Z (qo N Z (cA (q := 0) (b := e1) (f := aU) fT Z gU Z Z (by omega) Z he1 ?_)))))
  refine qo N Z (gk gU Z Z Z ?_)
  refine qo N Z (aO Z Z Z (kj 3 e1) Z ?_)
  refine qm N Z Z (qo N Z (bM (f := aj) ([0] : List UInt16) bf Z bE ⟨Z,by decide⟩ (by decide) Z Z Z Z ?_))
  refine xp N 2 [.o 2] [] [(45,PV.agg [pI 6,pI e1.physical,pI 0,pI 0,pI 0,aH,PV.ref 2 0 none,au 0,au 0,pB true])] (lj (s := 45) Z Z (jq (s := 45) (y := PV.f (bJ (⟨(⟨6,e1.physical,0,0,0,[],([0] : List UInt16),0,0⟩ : TRequest),true⟩ : TPart))) Z (ed (FLe.agg ⟨FLe.refl _,FLe.refl _,FLe.refl _,FLe.refl _,FLe.refl _,FLe.nil 1 false,FLe.refl _,FLe.refl _,FLe.refl _,FLe.refl _,trivial⟩)) (qo N Z (bM (f := bJ) [cN 3 e1,(⟨(⟨6,e1.physical,0,0,0,[],([0] : List UInt16),0,0⟩ : TRequest),true⟩ : TPart)] fC Z fU ⟨Z,by decide⟩ (by decide) Z Z Z Z ?_))))
  exact qa N Z Z (qa N Z Z (aE [(4,PV.ref 3 0 none),(5,pI 0)] [(3,oB true 10 bJ ([cN 3 e1,(⟨(⟨6,e1.physical,0,0,0,[],([0] : List UInt16),0,0⟩ : TRequest),true⟩ : TPart)])),(2,oB false 1 aj ([0] : List UInt16)),Y0,(0,.obj (fc t))] 4 ⟨Z,Z,trivial⟩ Z Z (re (gE (s := 4) (f := bJ) Z Z gG (aq (s := 4) Z (congrArg (fun z => pS 10 false bJ z) (show ([cN 3 e1,(⟨(⟨6,e1.physical,0,0,0,[],([0] : List UInt16),0,0⟩ : TRequest),true⟩ : TPart)] : List TPart) = S.1 by (rw [hS]; exact (xf (by omega) he1 (hrc _ he1)).symm))) (aq (s := 5) Z (congrArg pI (show 0 = S.2 by (rw [hS]; done))) (w_ret (af fp))))))))
 try simp only [sB] at c2
 refine aw (ak (an (sr (qm N Z Z (qo N Z (ca (l := pW t.windows q) fT Z (cf (f := aU) Z) ?_))))))
 let Ya : Nat × PV := (47,pS 3 false aU (pW t.windows q))
 let Ya0 : Nat × PV := (48,pN ((pW t.windows q).length))
 let Ya4 : Nat × PV := (7,PV.ref 0 0 none)
 refine qm N Z Z (re (aP (dD (s := 7) (sz := 10) Z (gf (fun (os : List TPart) (i : Nat) => i ≤ (pW t.windows q).length ∧ os = ((pW t.windows q).take i).map (dc q)) (fun (os : List TPart) (i : Nat) => [Ya2,Ya4,Y6,Ya,Ya0,(49,pN i)]) 2 (fun (os : List TPart) (i : Nat) => [(0,oB true 10 bJ os),Y0]) (fun (os : List TPart) (i : Nat) => (pW t.windows q).length - i) (([] : List TPart)) (0) ?_ ⟨[(0,2),(1,1)],by rw [hk]; decide,⟨⟨_,rfl,rfl,rfl⟩,⟨_,rfl,rfl,rfl⟩,⟨_,rfl,rfl,rfl⟩,⟨_,rfl,rfl,rfl⟩,⟨_,rfl,rfl,rfl⟩,⟨_,rfl,rfl,rfl⟩,trivial⟩,⟨⟨_,_,rfl,rfl,rfl,rfl⟩,⟨_,_,rfl,rfl,rfl,rfl⟩,trivial⟩,by rw [hk]; decide⟩ ?_))))
 · exact ⟨by omega,rfl⟩
 ·intro os i hI
  obtain ⟨hi,hos⟩ := hI
  have hol : os.length ≤ 6 := by rw [hos]; simp; omega
  refine sr (qo N Z (cZ Z Z ?_))
  refine re (an (av Z (fun c3 => ?_) (fun c3 => ?_)))
  ·try simp only [sB] at c3
   refine aw (ak (an (aP (sr ?_))))
   obtain ⟨e2,he2⟩ := bl (pW t.windows q) (i := i) (by omega)
   refine qo N Z (cA (q := i) (b := e2) (f := aU) fT Z gU Z Z (by omega) Z he2 ?_)
   let Y3 : Nat × Pv.Obj := (0,oB true 10 bJ os)
   let Y4 : Nat × Pv.Obj := (2,.obj (fG e2))
   refine xm N 3 [.o 3] [] [(13,PV.ptr 2 0)] 3 [Y4,Y3,Y0] (re (an ?_))
   obtain ⟨wc1,wc2,wp0,wp1,wfn,w15,w16,w23⟩ := rO hcy he2
   obtain ⟨w1,hw1⟩ : ∃ z,z = dc q e2 := ⟨_,rfl⟩
   let Y1 : Nat × Pv.Obj := (3,.obj [pI q.fn,pI e2.physical,pI e2.count,pI 0,pI 0,aH,aH,au 0,au 0])
   let Y : ah := [Y1,Y4,Y3,Y0]
   refine bk (xm N 9 [.o 9] [] [(14,PV.ptr 3 0)] 4 Y (re (uq (True) ([Ya2,(7,PV.ref 2 0 none),Y6,(14,PV.ptr 0 0),Ya,Ya0,(49,pN i)]) 3 ([(0,.obj [pI w1.request.fn,pI w1.request.at_,pI w1.request.count,pI w1.request.wAt,pI w1.request.sub,pS 1 false ar w1.request.bits,pS 1 false aj w1.request.vals,au w1.request.and_,au w1.request.or_]),Y0,(2,oB true 10 bJ os)]) ?_ ?_)))
   ·refine sr (xp N 2 [.o 2] [] [(61,pI q.fn)] (re (aP (sr (xp N 2 [.o 2] [] [(62,pB (decide (q.fn = 5)))] ?_)))))
    refine re (av Z (fun c4 => ?_) (fun c4 => ?_))
    ·try simp only [sB] at c4
     refine bk (xp N 2 [.o 2] [] [(65,pS 1 false ar q.bits)] (qo N Z (aN 5 (PV.ref 4 0 none) [(4,oB true 1 ar q.bits),Y1,Y4,Y3,Y0] [] (eV q.bits false (by omega)) ?_)))
     refine xm N 4 [.o 4] [] [] 5 [(3,.obj [pI q.fn,pI e2.physical,pI 0,pI 0,pI 0,PV.ref 4 0 none,aH,au 0,au 0]),(4,oB true 1 ar q.bits),Y4,Y3,Y0] (kD (n := 3) (j := 5) Z Z Z Z ?_)
     have hz1 : q.bits = w1.request.bits := by ((rw [hw1,kw (by omega)] <;> (first|rfl|omega)))
     refine eF (n := 3) (ds := [pI q.fn,pI e2.physical,pI 0,pI 0,pI 0,pS 1 false ar w1.request.bits,aH,au 0,au 0]) Z ⟨le_refl _,le_refl _,le_refl _,le_refl _,le_refl _,le_of_eq (congrArg (fun z => pS 1 false ar z) hz1),le_refl _,le_refl _,le_refl _,trivial⟩ ?_
     have hz2 : q.fn = w1.request.fn ∧ e2.physical = w1.request.at_ ∧ 0 = w1.request.count ∧ 0 = w1.request.wAt ∧ 0 = w1.request.sub ∧ ([] : List UInt16) = w1.request.vals ∧ 0 = w1.request.and_ ∧ 0 = w1.request.or_ := by and_intros <;> ((rw [hw1,kw (by omega)] <;> (first|rfl|omega)))
     refine eF (n := 3) (ds := [pI w1.request.fn,pI w1.request.at_,pI w1.request.count,pI w1.request.wAt,pI w1.request.sub,pS 1 false ar w1.request.bits,pS 1 false aj w1.request.vals,au w1.request.and_,au w1.request.or_]) Z ⟨le_of_eq (congrArg pI hz2.1),le_of_eq (congrArg pI hz2.2.1),le_of_eq (congrArg pI hz2.2.2.1),le_of_eq (congrArg pI hz2.2.2.2.1),le_of_eq (congrArg pI hz2.2.2.2.2.1),le_refl _,be (ax 1 false) (le_of_eq (congrArg (fun z => pS 1 false aj z) hz2.2.2.2.2.2.1)),le_of_eq (congrArg au hz2.2.2.2.2.2.2.1),le_of_eq (congrArg au hz2.2.2.2.2.2.2.2),trivial⟩ (bG (aG (ak (⟨?_,⟨[(0,3),(1,1),(2,0)],by rw [hk]; decide,⟨⟨_,rfl,rfl,rfl⟩,⟨_,rfl,rfl,rfl⟩,⟨_,rfl,rfl,rfl⟩,⟨_,rfl,rfl,rfl⟩,⟨_,rfl,rfl,rfl⟩,⟨_,rfl,rfl,rfl⟩,⟨_,rfl,rfl,rfl⟩,trivial⟩,⟨⟨_,_,rfl,rfl,rfl,rfl⟩,⟨_,_,rfl,rfl,rfl,rfl⟩,⟨_,_,rfl,rfl,rfl,rfl⟩,trivial⟩,by rw [hk]; decide⟩⟩))))
     trivial
    try simp only [sB] at c4
    refine sr (xp N 2 [.o 2] [] [(69,pB (decide (q.fn = 6)))] (re (av Z (fun c5 => ?_) (fun c5 => ?_))))
    ·try simp only [sB] at c5
     refine bk (xp N 2 [.o 2] [] [(72,pS 1 false aj q.vals)] (qo N Z (aN 5 (PV.ref 4 0 none) [(4,oB true 1 aj q.vals),Y1,Y4,Y3,Y0] [] (dC q.vals false (by omega)) ?_)))
     refine xm N 4 [.o 4] [] [] 5 [(3,.obj [pI q.fn,pI e2.physical,pI 0,pI 0,pI 0,aH,PV.ref 4 0 none,au 0,au 0]),(4,oB true 1 aj q.vals),Y4,Y3,Y0] (kD (n := 3) (j := 6) Z Z Z Z ?_)
     have hz3 : q.vals = w1.request.vals := by ((rw [hw1,kv (by omega)] <;> (first|rfl|omega)))
     refine eF (n := 3) (ds := [pI q.fn,pI e2.physical,pI 0,pI 0,pI 0,aH,pS 1 false aj w1.request.vals,au 0,au 0]) Z ⟨le_refl _,le_refl _,le_refl _,le_refl _,le_refl _,le_refl _,le_of_eq (congrArg (fun z => pS 1 false aj z) hz3),le_refl _,le_refl _,trivial⟩ ?_
     have hz4 : q.fn = w1.request.fn ∧ e2.physical = w1.request.at_ ∧ 0 = w1.request.count ∧ 0 = w1.request.wAt ∧ 0 = w1.request.sub ∧ ([] : List Bool) = w1.request.bits ∧ 0 = w1.request.and_ ∧ 0 = w1.request.or_ := by and_intros <;> ((rw [hw1,kv (by omega)] <;> (first|rfl|omega)))
     refine eF (n := 3) (ds := [pI w1.request.fn,pI w1.request.at_,pI w1.request.count,pI w1.request.wAt,pI w1.request.sub,pS 1 false ar w1.request.bits,pS 1 false aj w1.request.vals,au w1.request.and_,au w1.request.or_]) Z ⟨le_of_eq (congrArg pI hz4.1),le_of_eq (congrArg pI hz4.2.1),le_of_eq (congrArg pI hz4.2.2.1),le_of_eq (congrArg pI hz4.2.2.2.1),le_of_eq (congrArg pI hz4.2.2.2.2.1),be (ax 1 false) (le_of_eq (congrArg (fun z => pS 1 false ar z) hz4.2.2.2.2.2.1)),le_refl _,le_of_eq (congrArg au hz4.2.2.2.2.2.2.1),le_of_eq (congrArg au hz4.2.2.2.2.2.2.2),trivial⟩ (bG (aG (ak (⟨?_,⟨[(0,3),(1,1),(2,0)],by rw [hk]; decide,⟨⟨_,rfl,rfl,rfl⟩,⟨_,rfl,rfl,rfl⟩,⟨_,rfl,rfl,rfl⟩,⟨_,rfl,rfl,rfl⟩,⟨_,rfl,rfl,rfl⟩,⟨_,rfl,rfl,rfl⟩,⟨_,rfl,rfl,rfl⟩,trivial⟩,⟨⟨_,_,rfl,rfl,rfl,rfl⟩,⟨_,_,rfl,rfl,rfl,rfl⟩,⟨_,_,rfl,rfl,rfl,rfl⟩,trivial⟩,by rw [hk]; decide⟩⟩))))
     trivial
    try simp only [sB] at c5
    refine sr (qo N Z (bF Z Z ?_))
    let Y2 : aI := [Ya2,Ya4,Y6,(14,PV.ptr 3 0),Ya,Ya0,(49,pN i)]
    refine ae N Z Z (av Z (fun c6 => ?_) (fun c6 => ?_))
    ·try simp only [sB] at c6
     refine cK N (xq 7 [.o 7] [bu (e2.at_ - q.at_)] ?_ (hc := ⟨by unfold bu; (omega),trivial⟩))
     let Y7 : Nat × Pv.Obj := (4,oB true 1 ar ((q.bits.drop (Int.toNat (e2.at_ - q.at_))).take (Int.toNat e2.count)))
     refine xk [(79,pS 1 false ar q.bits),(84,pI (e2.at_ - q.at_))] [] [] [] Y (gl (a := Int.toNat (e2.at_ - q.at_)) (f := ar) (l := q.bits) bT Z dE ⟨Z,by decide⟩ Z (cD Z (by omega)) (by omega) ⟨Z,Z,Z⟩) (xq 2 [.o 2] [] (xk [(85,pS 1 false ar (q.bits.drop (Int.toNat (e2.at_ - q.at_)))),(87,pI e2.count)] [] [] [] Y (j7 (b := Int.toNat e2.count) (f := ar) (l := q.bits.drop (Int.toNat (e2.at_ - q.at_))) bT Z dE ⟨Z,by decide⟩ Z (cD Z (by omega)) (by rw [List.length_drop]; omega) ⟨Z,Z,Z⟩) (xk [(88,pS 1 false ar ((q.bits.drop (Int.toNat (e2.at_ - q.at_))).take (Int.toNat e2.count)))] [] [] [Y7] [Y7,Y1,Y4,Y3,Y0] (aN 5 (PV.ref 4 0 none) _ [] (eV ((q.bits.drop (Int.toNat (e2.at_ - q.at_))).take (Int.toNat e2.count)) false (by simp; omega)) ⟨Z,Z,Z⟩) (xd 2 [.o 2] [] 5 [(3,.obj [pI q.fn,pI e2.physical,pI e2.count,pI 0,pI 0,PV.ref 4 0 none,aH,au 0,au 0]),Y7,Y4,Y3,Y0] (xe Y2 ?_)))))
     refine kD (n := 3) (j := 5) Z Z Z Z ?_
     have hz5 : ((q.bits.drop (Int.toNat (e2.at_ - q.at_))).take (Int.toNat e2.count)) = w1.request.bits := by ((rw [hw1,jN (by omega)] <;> (first|rfl|omega)))
     refine eF (n := 3) (ds := [pI q.fn,pI e2.physical,pI e2.count,pI 0,pI 0,pS 1 false ar w1.request.bits,aH,au 0,au 0]) Z ⟨le_refl _,le_refl _,le_refl _,le_refl _,le_refl _,le_of_eq (congrArg (fun z => pS 1 false ar z) hz5),le_refl _,le_refl _,le_refl _,trivial⟩ ?_
     have hz6 : q.fn = w1.request.fn ∧ e2.physical = w1.request.at_ ∧ e2.count = w1.request.count ∧ 0 = w1.request.wAt ∧ 0 = w1.request.sub ∧ ([] : List UInt16) = w1.request.vals ∧ 0 = w1.request.and_ ∧ 0 = w1.request.or_ := by and_intros <;> ((rw [hw1,jN (by omega)] <;> (first|rfl|omega)))
     refine eF (n := 3) (ds := [pI w1.request.fn,pI w1.request.at_,pI w1.request.count,pI w1.request.wAt,pI w1.request.sub,pS 1 false ar w1.request.bits,pS 1 false aj w1.request.vals,au w1.request.and_,au w1.request.or_]) Z ⟨le_of_eq (congrArg pI hz6.1),le_of_eq (congrArg pI hz6.2.1),le_of_eq (congrArg pI hz6.2.2.1),le_of_eq (congrArg pI hz6.2.2.2.1),le_of_eq (congrArg pI hz6.2.2.2.2.1),le_refl _,be (ax 1 false) (le_of_eq (congrArg (fun z => pS 1 false aj z) hz6.2.2.2.2.2.1)),le_of_eq (congrArg au hz6.2.2.2.2.2.2.1),le_of_eq (congrArg au hz6.2.2.2.2.2.2.2),trivial⟩ (bG (aG (ak (⟨?_,⟨[(0,3),(1,1),(2,0)],by rw [hk]; decide,⟨⟨_,rfl,rfl,rfl⟩,⟨_,rfl,rfl,rfl⟩,⟨_,rfl,rfl,rfl⟩,⟨_,rfl,rfl,rfl⟩,⟨_,rfl,rfl,rfl⟩,⟨_,rfl,rfl,rfl⟩,⟨_,rfl,rfl,rfl⟩,trivial⟩,⟨⟨_,_,rfl,rfl,rfl,rfl⟩,⟨_,_,rfl,rfl,rfl,rfl⟩,⟨_,_,rfl,rfl,rfl,rfl⟩,trivial⟩,by rw [hk]; decide⟩⟩))))
     trivial
    try simp only [sB] at c6
    refine sr (qo N Z (bF Z Z ?_))
    refine ae N Z Z (av Z (fun c7 => ?_) (fun c7 => ?_))
    ·try simp only [sB] at c7
     refine cK N (xq 7 [.o 7] [bu (e2.at_ - q.at_)] ?_ (hc := ⟨by unfold bu; (omega),trivial⟩))
     let Y8 : Nat × Pv.Obj := (4,oB true 1 aj ((q.vals.drop (Int.toNat (e2.at_ - q.at_))).take (Int.toNat e2.count)))
     refine xk [(94,pS 1 false aj q.vals),(99,pI (e2.at_ - q.at_))] [] [] [] Y (gl (a := Int.toNat (e2.at_ - q.at_)) (f := aj) (l := q.vals) bf Z bE ⟨Z,by decide⟩ Z (cD Z (by omega)) (by omega) ⟨Z,Z,Z⟩) (xq 2 [.o 2] [] (xk [(100,pS 1 false aj (q.vals.drop (Int.toNat (e2.at_ - q.at_)))),(102,pI e2.count)] [] [] [] Y (j7 (b := Int.toNat e2.count) (f := aj) (l := q.vals.drop (Int.toNat (e2.at_ - q.at_))) bf Z bE ⟨Z,by decide⟩ Z (cD Z (by omega)) (by rw [List.length_drop]; omega) ⟨Z,Z,Z⟩) (xk [(103,pS 1 false aj ((q.vals.drop (Int.toNat (e2.at_ - q.at_))).take (Int.toNat e2.count)))] [] [] [Y8] [Y8,Y1,Y4,Y3,Y0] (aN 5 (PV.ref 4 0 none) _ [] (dC ((q.vals.drop (Int.toNat (e2.at_ - q.at_))).take (Int.toNat e2.count)) false (by simp; omega)) ⟨Z,Z,Z⟩) (xd 2 [.o 2] [] 5 [(3,.obj [pI q.fn,pI e2.physical,pI e2.count,pI 0,pI 0,aH,PV.ref 4 0 none,au 0,au 0]),Y8,Y4,Y3,Y0] (xe Y2 ?_)))))
     refine kD (n := 3) (j := 6) Z Z Z Z ?_
     have hz7 : ((q.vals.drop (Int.toNat (e2.at_ - q.at_))).take (Int.toNat e2.count)) = w1.request.vals := by ((rw [hw1,jM (by omega)] <;> (first|rfl|omega)))
     refine eF (n := 3) (ds := [pI q.fn,pI e2.physical,pI e2.count,pI 0,pI 0,aH,pS 1 false aj w1.request.vals,au 0,au 0]) Z ⟨le_refl _,le_refl _,le_refl _,le_refl _,le_refl _,le_refl _,le_of_eq (congrArg (fun z => pS 1 false aj z) hz7),le_refl _,le_refl _,trivial⟩ ?_
     have hz8 : q.fn = w1.request.fn ∧ e2.physical = w1.request.at_ ∧ e2.count = w1.request.count ∧ 0 = w1.request.wAt ∧ 0 = w1.request.sub ∧ ([] : List Bool) = w1.request.bits ∧ 0 = w1.request.and_ ∧ 0 = w1.request.or_ := by and_intros <;> ((rw [hw1,jM (by omega)] <;> (first|rfl|omega)))
     refine eF (n := 3) (ds := [pI w1.request.fn,pI w1.request.at_,pI w1.request.count,pI w1.request.wAt,pI w1.request.sub,pS 1 false ar w1.request.bits,pS 1 false aj w1.request.vals,au w1.request.and_,au w1.request.or_]) Z ⟨le_of_eq (congrArg pI hz8.1),le_of_eq (congrArg pI hz8.2.1),le_of_eq (congrArg pI hz8.2.2.1),le_of_eq (congrArg pI hz8.2.2.2.1),le_of_eq (congrArg pI hz8.2.2.2.2.1),be (ax 1 false) (le_of_eq (congrArg (fun z => pS 1 false ar z) hz8.2.2.2.2.2.1)),le_refl _,le_of_eq (congrArg au hz8.2.2.2.2.2.2.1),le_of_eq (congrArg au hz8.2.2.2.2.2.2.2),trivial⟩ (bG (aG (ak (⟨?_,⟨[(0,3),(1,1),(2,0)],by rw [hk]; decide,⟨⟨_,rfl,rfl,rfl⟩,⟨_,rfl,rfl,rfl⟩,⟨_,rfl,rfl,rfl⟩,⟨_,rfl,rfl,rfl⟩,⟨_,rfl,rfl,rfl⟩,⟨_,rfl,rfl,rfl⟩,⟨_,rfl,rfl,rfl⟩,trivial⟩,⟨⟨_,_,rfl,rfl,rfl,rfl⟩,⟨_,_,rfl,rfl,rfl,rfl⟩,⟨_,_,rfl,rfl,rfl,rfl⟩,trivial⟩,by rw [hk]; decide⟩⟩))))
     trivial
    try simp only [sB] at c7
    refine sr (qo N Z (bF Z Z ?_))
    refine ae N Z Z (av Z (fun c8 => ?_) (fun c8 => ?_))
    ·try simp only [sB] at c8
     refine cK N (xq 7 [.o 7] [bu (e2.at_ - q.wAt)] ?_ (hc := ⟨by unfold bu; (omega),trivial⟩))
     let Y9 : Nat × Pv.Obj := (4,oB true 1 aj ((q.vals.drop (Int.toNat (e2.at_ - q.wAt))).take (Int.toNat e2.count)))
     refine xk [(109,pS 1 false aj q.vals),(114,pI (e2.at_ - q.wAt))] [] [] [] Y (gl (a := Int.toNat (e2.at_ - q.wAt)) (f := aj) (l := q.vals) bf Z bE ⟨Z,by decide⟩ Z (cD Z (by omega)) (by omega) ⟨Z,Z,Z⟩) (xq 2 [.o 2] [] (xk [(115,pS 1 false aj (q.vals.drop (Int.toNat (e2.at_ - q.wAt)))),(117,pI e2.count)] [] [] [] Y (j7 (b := Int.toNat e2.count) (f := aj) (l := q.vals.drop (Int.toNat (e2.at_ - q.wAt))) bf Z bE ⟨Z,by decide⟩ Z (cD Z (by omega)) (by rw [List.length_drop]; omega) ⟨Z,Z,Z⟩) (xk [(118,pS 1 false aj ((q.vals.drop (Int.toNat (e2.at_ - q.wAt))).take (Int.toNat e2.count)))] [] [] [Y9] [Y9,Y1,Y4,Y3,Y0] (aN 5 (PV.ref 4 0 none) _ [] (dC ((q.vals.drop (Int.toNat (e2.at_ - q.wAt))).take (Int.toNat e2.count)) false (by simp; omega)) ⟨Z,Z,Z⟩) (xd 4 [.o 4] [] 5 [(3,.obj [pI 16,pI e2.physical,pI e2.count,pI 0,pI 0,aH,PV.ref 4 0 none,au 0,au 0]),Y9,Y4,Y3,Y0] (xe Y2 ?_)))))
     refine kD (n := 3) (j := 6) Z Z Z Z ?_
     have hz9 : ((q.vals.drop (Int.toNat (e2.at_ - q.wAt))).take (Int.toNat e2.count)) = w1.request.vals := by ((rw [hw1,jL (by omega)] <;> (first|rfl|omega)))
     refine eF (n := 3) (ds := [pI 16,pI e2.physical,pI e2.count,pI 0,pI 0,aH,pS 1 false aj w1.request.vals,au 0,au 0]) Z ⟨le_refl _,le_refl _,le_refl _,le_refl _,le_refl _,le_refl _,le_of_eq (congrArg (fun z => pS 1 false aj z) hz9),le_refl _,le_refl _,trivial⟩ ?_
     have hz10 : 16 = w1.request.fn ∧ e2.physical = w1.request.at_ ∧ e2.count = w1.request.count ∧ 0 = w1.request.wAt ∧ 0 = w1.request.sub ∧ ([] : List Bool) = w1.request.bits ∧ 0 = w1.request.and_ ∧ 0 = w1.request.or_ := by and_intros <;> ((rw [hw1,jL (by omega)] <;> (first|rfl|omega)))
     refine eF (n := 3) (ds := [pI w1.request.fn,pI w1.request.at_,pI w1.request.count,pI w1.request.wAt,pI w1.request.sub,pS 1 false ar w1.request.bits,pS 1 false aj w1.request.vals,au w1.request.and_,au w1.request.or_]) Z ⟨le_of_eq (congrArg pI hz10.1),le_of_eq (congrArg pI hz10.2.1),le_of_eq (congrArg pI hz10.2.2.1),le_of_eq (congrArg pI hz10.2.2.2.1),le_of_eq (congrArg pI hz10.2.2.2.2.1),be (ax 1 false) (le_of_eq (congrArg (fun z => pS 1 false ar z) hz10.2.2.2.2.2.1)),le_refl _,le_of_eq (congrArg au hz10.2.2.2.2.2.2.1),le_of_eq (congrArg au hz10.2.2.2.2.2.2.2),trivial⟩ (bG (aG (ak (⟨?_,⟨[(0,3),(1,1),(2,0)],by rw [hk]; decide,⟨⟨_,rfl,rfl,rfl⟩,⟨_,rfl,rfl,rfl⟩,⟨_,rfl,rfl,rfl⟩,⟨_,rfl,rfl,rfl⟩,⟨_,rfl,rfl,rfl⟩,⟨_,rfl,rfl,rfl⟩,⟨_,rfl,rfl,rfl⟩,trivial⟩,⟨⟨_,_,rfl,rfl,rfl,rfl⟩,⟨_,_,rfl,rfl,rfl,rfl⟩,⟨_,_,rfl,rfl,rfl,rfl⟩,trivial⟩,by rw [hk]; decide⟩⟩))))
     trivial
    try simp only [sB] at c8
    have hz11 : q.fn = w1.request.fn ∧ e2.physical = w1.request.at_ ∧ e2.count = w1.request.count ∧ 0 = w1.request.wAt ∧ 0 = w1.request.sub ∧ ([] : List Bool) = w1.request.bits ∧ ([] : List UInt16) = w1.request.vals ∧ 0 = w1.request.and_ ∧ 0 = w1.request.or_ := by and_intros <;> ((exfalso; omega))
    refine bH (n := 3) (ds := [pI w1.request.fn,pI w1.request.at_,pI w1.request.count,pI w1.request.wAt,pI w1.request.sub,pS 1 false ar w1.request.bits,pS 1 false aj w1.request.vals,au w1.request.and_,au w1.request.or_]) Z ⟨le_of_eq (congrArg pI hz11.1),le_of_eq (congrArg pI hz11.2.1),le_of_eq (congrArg pI hz11.2.2.1),le_of_eq (congrArg pI hz11.2.2.2.1),le_of_eq (congrArg pI hz11.2.2.2.2.1),be (ax 1 false) (le_of_eq (congrArg (fun z => pS 1 false ar z) hz11.2.2.2.2.2.1)),be (ax 1 false) (le_of_eq (congrArg (fun z => pS 1 false aj z) hz11.2.2.2.2.2.2.1)),le_of_eq (congrArg au hz11.2.2.2.2.2.2.2.1),le_of_eq (congrArg au hz11.2.2.2.2.2.2.2.2),trivial⟩ (aw (aG (ak (⟨?_,⟨[(0,3),(1,1),(2,0)],by rw [hk]; decide,⟨⟨_,rfl,rfl,rfl⟩,⟨_,rfl,rfl,rfl⟩,⟨_,rfl,rfl,rfl⟩,⟨_,rfl,rfl,rfl⟩,⟨_,rfl,rfl,rfl⟩,⟨_,rfl,rfl,rfl⟩,⟨_,rfl,rfl,rfl⟩,trivial⟩,⟨⟨_,_,rfl,rfl,rfl,rfl⟩,⟨_,_,rfl,rfl,rfl,rfl⟩,⟨_,_,rfl,rfl,rfl,rfl⟩,trivial⟩,by rw [hk]; decide⟩⟩))))
    trivial
   intro hJ
   let Y5 : Nat × Pv.Obj := (0,.obj [pI w1.request.fn,pI w1.request.at_,pI w1.request.count,pI w1.request.wAt,pI w1.request.sub,pS 1 true ar w1.request.bits,pS 1 true aj w1.request.vals,au w1.request.and_,au w1.request.or_])
   refine an (cK N (xd 10 [.o 2,.c (pS 1 true ar w1.request.bits),.o 2,.c (pS 1 true aj w1.request.vals),.o 4] [T Tryz.prog 50 [pS 1 false ar w1.request.bits] 0 [] (Ret (pS 1 true ar w1.request.bits) 0 []),T Tryz.prog 51 [pS 1 false aj w1.request.vals] 0 [] (Ret (pS 1 true aj w1.request.vals) 0 [])] 3 [Y5,Y0,(2,oB true 10 bJ os)] ?_ (hc := ⟨(eZ w1.request.bits false),(eH w1.request.vals false),trivial⟩)))
   refine xe [Ya2,(7,PV.ref 2 0 none),Y6,(14,PV.ptr 0 0),Ya,Ya0,(49,pN i)] (re (bk (qm N Z Z (qo N Z (bj bc Z Z Z (nb Z) ?_)))))
   refine qo N Z (bX fU Z Z (br Z bc Z Z Z (nb Z) (br Z dE Z Z Z (nb Z) (dp ?_))))
   refine jq (s := 132) (y := PV.f (bJ (⟨(⟨w1.request.fn,w1.request.at_,w1.request.count,w1.request.wAt,w1.request.sub,w1.request.bits,w1.request.vals,w1.request.and_,w1.request.or_⟩ : TRequest),true⟩ : TPart))) Z (ed (FLe.agg ⟨FLe.refl _,FLe.refl _,FLe.refl _,FLe.refl _,FLe.refl _,FLe.loose,FLe.loose,FLe.refl _,FLe.refl _,FLe.refl _,trivial⟩)) (qo N Z (bM (f := bJ) [(⟨(⟨w1.request.fn,w1.request.at_,w1.request.count,w1.request.wAt,w1.request.sub,w1.request.bits,w1.request.vals,w1.request.and_,w1.request.or_⟩ : TRequest),true⟩ : TPart)] fC Z fU ⟨Z,by decide⟩ (by decide) Z Z Z Z ?_))
   refine qo N Z (bZ (f := bJ) (l := os) (xs := [(⟨(⟨w1.request.fn,w1.request.at_,w1.request.count,w1.request.wAt,w1.request.sub,w1.request.bits,w1.request.vals,w1.request.and_,w1.request.or_⟩ : TRequest),true⟩ : TPart)]) fC Z fU ⟨Z,by decide,by decide⟩ (da fC Z (ct (f := bJ) Z Z)) Z Z (by (simp; omega)) ?_)
   refine qa N Z Z (aE [Ya2,(7,PV.ref 4 0 none),Y6,Ya,Ya0,(49,pN i)] [(4,oB true 10 bJ (os ++ [(⟨(⟨w1.request.fn,w1.request.at_,w1.request.count,w1.request.wAt,w1.request.sub,w1.request.bits,w1.request.vals,w1.request.and_,w1.request.or_⟩ : TRequest),true⟩ : TPart)])),(3,oB true 10 bJ [(⟨(⟨w1.request.fn,w1.request.at_,w1.request.count,w1.request.wAt,w1.request.sub,w1.request.bits,w1.request.vals,w1.request.and_,w1.request.or_⟩ : TRequest),true⟩ : TPart)]),Y5,Y0] 5 ⟨Z,Z,Z,Z,Z,Z,trivial⟩ Z Z (bG (aG (ak (bk (qo N Z (cm (a := i) (b := 1) Z Z (by omega) (by omega) (by omega) ?_)))))))
   refine qm N Z Z (re (⟨(os ++ [(⟨(⟨w1.request.fn,w1.request.at_,w1.request.count,w1.request.wAt,w1.request.sub,w1.request.bits,w1.request.vals,w1.request.and_,w1.request.or_⟩ : TRequest),true⟩ : TPart)]),(i + 1), ?_, ?_,⟨[(0,4),(1,1)],by rw [hk]; decide,⟨⟨_,rfl,rfl,rfl⟩,⟨_,rfl,rfl,rfl⟩,⟨_,rfl,rfl,rfl⟩,⟨_,rfl,rfl,rfl⟩,⟨_,rfl,rfl,rfl⟩,⟨_,rfl,rfl,rfl⟩,trivial⟩,⟨⟨_,_,rfl,rfl,rfl,rfl⟩,⟨_,_,rfl,rfl,rfl,rfl⟩,trivial⟩,by rw [hk]; decide⟩⟩))
   ·refine ⟨by omega, ?_⟩
    rw [hos,List.take_add_one,he2,List.map_append]
    exact congrArg (fun z => ((pW t.windows q).take i).map (dc q) ++ [z]) (by rw [hw1]; exact px q e2)
   · omega
  try simp only [sB] at c3
  refine cG (aL (aL (bq (ak (an (sr (qm N Z Z (qo N Z (ca (l := pR t.windows q) fT Z (cf (f := aU) Z) ?_)))))))))
  let Ya3 : Nat × PV := (136,pS 3 false aU (pR t.windows q))
  refine qm N Z Z (re (aP (gf (fun (os5 : List TPart) (j : Nat) => j ≤ (pR t.windows q).length ∧ os5 = (pW t.windows q).map (dc q) ++ ((pR t.windows q).take j).map (cN (if q.fn = 23 then 3 else q.fn))) (fun (os5 : List TPart) (j : Nat) => [Ya2,Ya4,Ya3,(137,pN ((pR t.windows q).length)),(138,pN j)]) 2 (fun (os5 : List TPart) (j : Nat) => [(0,oB true 10 bJ os5),Y0]) (fun (os5 : List TPart) (j : Nat) => (pR t.windows q).length - j) (os) (0) ?_ ⟨[(0,0),(1,1)],by rw [hk]; decide,⟨⟨_,rfl,rfl,rfl⟩,⟨_,rfl,rfl,rfl⟩,⟨_,rfl,rfl,rfl⟩,⟨_,rfl,rfl,rfl⟩,⟨_,rfl,rfl,rfl⟩,trivial⟩,⟨⟨_,_,rfl,rfl,rfl,rfl⟩,⟨_,_,rfl,rfl,rfl,rfl⟩,trivial⟩,by rw [hk]; decide⟩ ?_)))
  · exact ⟨by omega,by rw [hos,show i = (pW t.windows q).length by omega,List.take_length]; simp⟩
  ·intro os5 j hJ
   obtain ⟨hj,ho5⟩ := hJ
   have hol5 : os5.length ≤ 6 := by rw [ho5]; simp; omega
   refine sr (qo N Z (cZ Z Z ?_))
   refine re (an (av Z (fun c9 => ?_) (fun c9 => ?_)))
   ·try simp only [sB] at c9
    refine aw (ak (an (aP (sr ?_))))
    obtain ⟨e3,he3⟩ := bl (pR t.windows q) (i := j) (by omega)
    refine qo N Z (cA (q := j) (b := e3) (f := aU) fT Z gU Z Z (by omega) Z he3 ?_)
    refine xm N 3 [.o 3] [] [(16,PV.ptr 2 0)] 3 [(2,.obj (fG e3)),(0,oB true 10 bJ os5),Y0] (re (sr (xp N 3 [.o 3] [] [(17,pI q.fn)] (re (an ?_)))))
    refine sr (qm N Z Z (qo N Z (bF Z Z ?_)))
    let Ya1 : aI := [Ya2,(7,PV.ref 4 0 none),Ya3,(137,pN ((pR t.windows q).length)),(138,pN j)]
    refine re (av Z (fun c10 => ?_) (fun c10 => ?_))
    ·try simp only [sB] at c10
     refine bk (ae N Z Z (bk (xp N 3 [.o 3] [] [(146,PV.ref 0 0 none),(147,pI 3),(148,PV.f (aU e3))] (qo N Z (aO Z Z Z (kj 3 e3) Z ?_)))))
     refine qo N Z (bM (f := bJ) [cN 3 e3] fC Z fU ⟨Z,by decide⟩ (by decide) Z Z Z Z ?_)
     refine qo N Z (bZ (f := bJ) (l := os5) (xs := [cN 3 e3]) fC Z fU ⟨Z,by decide,by decide⟩ (da fC Z (ct (f := bJ) Z Z)) Z Z (by (simp; omega)) ?_)
     refine qa N Z Z (aE Ya1 [(4,oB true 10 bJ (os5 ++ [cN 3 e3])),(3,oB true 10 bJ [cN 3 e3]),(2,.obj (fG e3)),Y0] 5 ⟨Z,Z,Z,Z,Z,trivial⟩ Z Z (bG (aG (ak (bk (qo N Z (cm (a := j) (b := 1) Z Z (by omega) (by omega) (by omega) ?_)))))))
     refine qm N Z Z (re (⟨(os5 ++ [cN 3 e3]),(j + 1), ?_, ?_,⟨[(0,4),(1,1)],by rw [hk]; decide,⟨⟨_,rfl,rfl,rfl⟩,⟨_,rfl,rfl,rfl⟩,⟨_,rfl,rfl,rfl⟩,⟨_,rfl,rfl,rfl⟩,⟨_,rfl,rfl,rfl⟩,trivial⟩,⟨⟨_,_,rfl,rfl,rfl,rfl⟩,⟨_,_,rfl,rfl,rfl,rfl⟩,trivial⟩,by rw [hk]; decide⟩⟩))
     ·refine ⟨by omega, ?_⟩
      rw [ho5,List.take_add_one,he3,List.map_append,← List.append_assoc]
      (rw [if_pos (by omega)]; rfl)
     · omega
    try simp only [sB] at c10
    refine aw (ak (bk (xp N 3 [.o 3] [] [(146,PV.ref 0 0 none),(147,pI q.fn),(148,PV.f (aU e3))] (qo N Z (aO Z Z Z (kj q.fn e3) Z ?_)))))
    refine qo N Z (bM (f := bJ) [cN q.fn e3] fC Z fU ⟨Z,by decide⟩ (by decide) Z Z Z Z ?_)
    refine qo N Z (bZ (f := bJ) (l := os5) (xs := [cN q.fn e3]) fC Z fU ⟨Z,by decide,by decide⟩ (da fC Z (ct (f := bJ) Z Z)) Z Z (by (simp; omega)) ?_)
    refine qa N Z Z (aE Ya1 [(4,oB true 10 bJ (os5 ++ [cN q.fn e3])),(3,oB true 10 bJ [cN q.fn e3]),(2,.obj (fG e3)),Y0] 5 ⟨Z,Z,Z,Z,Z,trivial⟩ Z Z (bG (aG (ak (bk (qo N Z (cm (a := j) (b := 1) Z Z (by omega) (by omega) (by omega) ?_)))))))
    refine qm N Z Z (re (⟨(os5 ++ [cN q.fn e3]),(j + 1), ?_, ?_,⟨[(0,4),(1,1)],by rw [hk]; decide,⟨⟨_,rfl,rfl,rfl⟩,⟨_,rfl,rfl,rfl⟩,⟨_,rfl,rfl,rfl⟩,⟨_,rfl,rfl,rfl⟩,⟨_,rfl,rfl,rfl⟩,trivial⟩,⟨⟨_,_,rfl,rfl,rfl,rfl⟩,⟨_,_,rfl,rfl,rfl,rfl⟩,trivial⟩,by rw [hk]; decide⟩⟩))
    ·refine ⟨by omega, ?_⟩
     rw [ho5,List.take_add_one,he3,List.map_append,← List.append_assoc]
     (rw [if_neg (by omega)]; rfl)
    · omega
   try simp only [sB] at c9
   refine cG (aL (aL (bq (ak (an ?_)))))
   have hpe : os5 = fj t.windows q := by rw [ho5,show j = (pR t.windows q).length by omega,List.take_length,eA (by omega)]
   refine bk (qm N Z Z (qo N Z (aN 2 (pS 10 true bJ os5) [(0,oB false 10 bJ os5),Y0] [] (gD os5 false) ?_)))
   exact qa N Z Z (qa N Z Z (aE [(4,pS 10 true bJ os5),(5,pI 0)] [(0,oB false 10 bJ os5),Y0] 2 ⟨Z,Z,trivial⟩ Z Z (re (dw (s := 4) (y := pS 10 false bJ os5) Z (dB) (aq (s := 4) Z (congrArg (fun z => pS 10 false bJ z) (show os5 = S.1 by (rw [hS]; exact hpe))) (aq (s := 5) Z (congrArg pI (show 0 = S.2 by (rw [hS]; done))) (w_ret fp)))))))
theorem kV (t : TTenant) (q : TRequest) (S : List TPart × Int) (hS : S = splitP t.functions t.windows q) (ht : t.windows.length ≤ 1000) (hb : q.bits.length ≤ 140737488351232) (hv : q.vals.length ≤ 70368744175616) :
    T Tryz.prog 25 [PV.f (cn t),PV.f (bx q)] 0 [] (Ret (PV.tup [pS 10 false bJ S.1,pI S.2]) 0 []) := by
 refine bn aF (n := 139) (rs := [.tmp 4,.tmp 5]) Tryz.func25 Z Z Z Z (nb Z) ?_
 intro c N hk
 let Y0 : Nat × Pv.Obj := (1,.obj (cd q))
 let Y8 : Nat × Pv.Obj := (0,.obj (fc t))
 let Ya1 : Nat × PV := (3,PV.ptr 1 0)
 refine sr (xm N 4 [.o 4] [] [(2,PV.ptr 0 0),Ya1] 2 [Y0,Y8] (re (an (sr (xp N 2 [.o 2] [] [(20,PV.f (cn t)),(21,PV.f (bx q))] ?_)))))
 refine qo N Z (aO Z Z Z (iz t q (by omega) (by omega) (by omega)) Z ?_)
 refine ae N Z Z (sr (xp N 7 [.o 3,.b 3 [.o 2,.c (pB (dP q.fn))]] [(!decide (bL t.functions t.windows q = 0)) = false → AllP [T Tryz.prog 30 [pI q.fn] 0 [] (Ret (pB (dP q.fn)) 0 [])]] [(29,pB ((!decide (bL t.functions t.windows q = 0)) || (dP q.fn)))] ?_ (hc := ⟨by intro hq; (try simp only [sB] at hq); exact ⟨(w_burgageref14_local q.fn),trivial⟩,trivial⟩)))
 refine re (av Z (fun c1 => ?_) (fun c1 => ?_))
 ·have c1_ := c1
  try simp only [sB] at c1
  rw [uV c1_] at hS
  exact sr (qm N Z Z (qa N Z Z (ae N Z Z (dw (s := 4) (y := pS 10 false bJ []) Z (ax 10 false) (aq (s := 4) Z (congrArg (fun z => pS 10 false bJ z) (show ([] : List TPart) = S.1 by (rw [hS]; done))) (aq (s := 5) Z (congrArg pI (show (bL t.functions t.windows q) = S.2 by (rw [hS]; done))) (w_ret (af fp))))))))
 have c1_ := c1
 try simp only [sB] at c1
 refine aw (ak (an ?_))
 obtain ⟨hc0,hn8,hn17⟩ := nT c1_
 obtain ⟨hno,hcy,hpy,hle6⟩ := gx hc0
 rw [eJ hc0] at hS
 have hpl := qB t.windows q
 have hsm := iL (cR (eL hcy)).2
 refine bk (xp N 2 [.o 2] [] [(32,PV.f (cn t)),(33,PV.f (bx q))] (qo N Z (aO Z Z Z (gR t q (by omega) (by omega) (by omega) (by exact gw hcy)) Z ?_)))
 let Y2 : Nat × PV := (7,pS 3 false aU (pR t.windows q))
 refine xp N 7 [.o 7] [] [Y2,(8,pS 3 false aU (pW t.windows q))] (re (sr (ae N Z Z (an (sr ?_)))))
 refine xp N 2 [.o 2] [] [(39,pI q.fn)] (re (aP (xo N 40 [[.o 2],[.o 2]] [] ((decide (q.fn = 5)) || (decide (q.fn = 6))) (av Z (fun c3 => ?_) (fun c3 => ?_)))))
 ·try simp only [sB,Bool.or_eq_true,Bool.or_eq_false_iff] at c3
  refine an ?_
  obtain ⟨h1l,h1c,hrw,_⟩ := jz (l := t.windows) (q := q) (by omega) hpy
  refine cK N (xq 3 [.o 3] [] ?_)
  obtain ⟨e1,he1⟩ := bl (pW t.windows q) (i := 0) (by omega)
  let Y6 : Nat × Pv.Obj := (2,.obj [pI q.fn,pI e1.physical,pI 0,pI 0,pI 0,pS 1 false ar q.bits,pS 1 false aj q.vals,au 0,au 0])
  refine xk [(45,pS 3 false aU (pW t.windows q))] [] [] [] [Y0,Y8] (cA (q := 0) (b := e1) (f := aU) gH Z gT Z Z (by omega) Z he1 ⟨Z,Z,Z⟩) (xd 9 [.o 9] [] 3 [Y6,Y0,Y8] (xe [(11,PV.ptr 2 0)] (re (sr (xp N 2 [.o 2] [] [(55,PV.f (.agg [ay q.fn,ay e1.physical,ay 0,ay 0,ay 0,FV.sl 1 false (List.map ar q.bits),FV.sl 1 false (List.map aj q.vals),aj 0,aj 0,ar true]))] ?_)))))
  refine qo N Z (bM (f := bJ) [(⟨(⟨q.fn,e1.physical,0,0,0,q.bits,q.vals,0,0⟩ : TRequest),true⟩ : TPart)] gJ Z gI ⟨Z,by decide⟩ (by decide) Z Z Z Z ?_)
  exact qa N Z Z (qa N Z Z (aE [(4,PV.ref 3 0 none),(5,pI 0)] [(3,oB true 10 bJ [(⟨(⟨q.fn,e1.physical,0,0,0,q.bits,q.vals,0,0⟩ : TRequest),true⟩ : TPart)]),Y6,Y0,Y8] 4 ⟨Z,Z,trivial⟩ Z Z (re (gE (s := 4) (f := bJ) Z Z gG (aq (s := 4) Z (congrArg (fun z => pS 10 false bJ z) (show ([(⟨(⟨q.fn,e1.physical,0,0,0,q.bits,q.vals,0,0⟩ : TRequest),true⟩ : TPart)] : List TPart) = S.1 by (rw [hS]; exact (tg hcy (by omega) hpy he1).symm))) (aq (s := 5) Z (congrArg pI (show 0 = S.2 by (rw [hS]; done))) (w_ret (am (af fp)))))))))
 try simp only [sB,Bool.or_eq_true,Bool.or_eq_false_iff] at c3
 refine sr (qo N Z (bF Z Z ?_))
 refine ae N Z Z (av Z (fun c4 => ?_) (fun c4 => ?_))
 ·try simp only [sB] at c4
  refine an ?_
  obtain ⟨h1l,h1c,hrw,_⟩ := jz (l := t.windows) (q := q) (by omega) hpy
  have hrw2 := hrw (by omega)
  have hrl : (pR t.windows q).length = 1 := by rw [hrw2]; exact h1l
  have hrc : ∀ x,(pR t.windows q)[0]? = some x → x.count = 1 := by rw [hrw2]; exact h1c
  refine bk (qm N Z Z ?_)
  obtain ⟨e2,he2⟩ := bl (pW t.windows q) (i := 0) (by omega)
  refine qo N Z (cA (q := 0) (b := e2) (f := aU) gH Z gT Z Z (by omega) Z he2 ?_)
  refine xp N 2 [.o 2] [] [(62,pI e2.physical)] (qo N Z (bM (f := aj) ([0] : List UInt16) bf Z bE ⟨Z,by decide⟩ (by decide) Z Z Z Z ?_))
  let Y9 : Nat × Pv.Obj := (3,.obj [pI 6,pI e2.physical,pI 0,pI 0,pI 0,aH,PV.ref 2 0 none,au 0,au 0])
  let Y : ah := [Y9,(2,oB true 1 aj ([0] : List UInt16)),Y0,Y8]
  refine xm N 3 [.o 3] [] [(12,PV.ptr 3 0)] 4 Y (re (an (cK N (xq 1 [.o 1] [] ?_))))
  obtain ⟨e3,he3⟩ := bl (pR t.windows q) (i := 0) (by omega)
  refine xk [(65,pS 3 false aU (pR t.windows q))] [] [] [] Y (cA (q := 0) (b := e3) (f := aU) gH Z gT Z Z (by omega) Z he3 ⟨Z,Z,Z⟩) (xq 2 [.o 2] [] ?_)
  have h23 : e2 = e3 := by have h9 := he3; rw [hrw2,he2] at h9; exact Option.some.inj h9
  let Y3 : Nat × Pv.Obj := (4,oB true 10 bJ ([(⟨(⟨3,e3.physical,1,0,0,[],[],0,0⟩ : TRequest),false⟩ : TPart),(⟨(⟨6,e2.physical,0,0,0,[],([0] : List UInt16),0,0⟩ : TRequest),true⟩ : TPart)]))
  let Ya3 : Nat × Pv.Obj := (2,oB false 1 aj ([0] : List UInt16))
  refine xq 1 [.o 1] [] (xk [(69,PV.f (.agg [ay 3,ay e3.physical,ay 1,ay 0,ay 0,FV.v (.slice none 0 0),FV.v (.slice none 0 0),aj 0,aj 0]))] [] [] [] Y (bX gI Z Z (br Z bc Z Z Z (nb Z) (br Z dE Z Z Z (nb Z) (vZ [pI 3,pI e3.physical,pI 1,pI 0,pI 0,pS 1 false ar [],pS 1 false aj [],au 0,au 0,pB false] ⟨le_refl _,le_refl _,le_refl _,le_refl _,le_refl _,oS 1 false,oS 1 false,le_refl _,le_refl _,le_refl _,trivial⟩ ⟨Z,Z,Z⟩)))) (xq 1 [.o 1] [] (xk [(71,PV.agg [pI 6,pI e2.physical,pI 0,pI 0,pI 0,aH,PV.ref 2 0 none,au 0,au 0])] [] [] [] Y (bX gI Z Z (br Z bc Z Z Z (nb Z) (br Z dE Z Z Z (nb Z) (vZ [pI 6,pI e2.physical,pI 0,pI 0,pI 0,pS 1 false ar [],PV.ref 2 0 none,au 0,au 0,pB true] ⟨le_refl _,le_refl _,le_refl _,le_refl _,le_refl _,oS 1 false,le_refl _,le_refl _,le_refl _,le_refl _,trivial⟩ ⟨Z,Z,Z⟩)))) (xk [(70,PV.f (.agg [ay 3,ay e3.physical,ay 1,ay 0,ay 0,FV.sl 1 false (List.map ar []),FV.sl 1 false (List.map aj []),aj 0,aj 0,ar false])),(72,PV.agg [pI 6,pI e2.physical,pI 0,pI 0,pI 0,pS 1 false ar [],PV.ref 2 0 none,au 0,au 0,pB true])] [] [(2,oB true 1 aj ([0] : List UInt16))] [Y3,Ya3] [Y3,Ya3,Y9,Y0,Y8] (bM (f := bJ) [(⟨(⟨3,e3.physical,1,0,0,[],[],0,0⟩ : TRequest),false⟩ : TPart),(⟨(⟨6,e2.physical,0,0,0,[],([0] : List UInt16),0,0⟩ : TRequest),true⟩ : TPart)] gJ Z gI ⟨Z,by decide⟩ (by decide) Z Z Z Z ⟨Z,Z,Z⟩) (xq 2 [.o 2] [] ?_)))))
  refine xe [(4,PV.ref 4 0 none),(5,pI 0)] (re (gE (s := 4) (f := bJ) Z Z gG (aq (s := 4) Z (congrArg (fun z => pS 10 false bJ z) (show ([(⟨(⟨3,e3.physical,1,0,0,[],[],0,0⟩ : TRequest),false⟩ : TPart),(⟨(⟨6,e2.physical,0,0,0,[],([0] : List UInt16),0,0⟩ : TRequest),true⟩ : TPart)] : List TPart) = S.1 by (rw [hS,h23]; exact (mb (by omega) he3).symm))) (aq (s := 5) Z (congrArg pI (show 0 = S.2 by (rw [hS]; done))) (w_ret ?_)))))
  exact am (af fp)
 try simp only [sB] at c4
 refine aw (aG (ak (sr (ae N Z Z (an (sr (qm N Z Z (qo N Z (ca (l := pW t.windows q) gH Z (cf (f := aU) Z) ?_)))))))))
 let Y5 : Nat × PV := (74,pS 3 false aU (pW t.windows q))
 let Y7 : Nat × PV := (75,pN ((pW t.windows q).length))
 let Ya0 : Nat × PV := (10,PV.ref 0 0 none)
 refine qm N Z Z (re (aP (dD (s := 10) (sz := 10) Z (iP (fun (os : List TPart) (dn : Int) (i : Nat) => i ≤ (pW t.windows q).length ∧ os = ((pW t.windows q).take i).map (dc q) ∧ dn = eI ((pW t.windows q).take i)) (fun (os : List TPart) (dn : Int) (i : Nat) => [Ya1,Y2,Ya0,(13,pI dn),Y5,Y7,(76,pN i)]) 2 (fun (os : List TPart) (dn : Int) (i : Nat) => [(0,oB true 10 bJ os),Y0]) (fun (os : List TPart) (dn : Int) (i : Nat) => (pW t.windows q).length - i) (([] : List TPart)) (0) (0) ?_ ⟨[(0,2),(1,1)],by rw [hk]; decide,⟨⟨_,rfl,rfl,rfl⟩,⟨_,rfl,rfl,rfl⟩,⟨_,rfl,rfl,rfl⟩,⟨_,rfl,rfl,rfl⟩,⟨_,rfl,rfl,rfl⟩,⟨_,rfl,rfl,rfl⟩,⟨_,rfl,rfl,rfl⟩,trivial⟩,⟨⟨_,_,rfl,rfl,rfl,rfl⟩,⟨_,_,rfl,rfl,rfl,rfl⟩,trivial⟩,by rw [hk]; decide⟩ ?_))))
 · exact ⟨by omega,rfl,rfl⟩
 ·intro os dn i hI
  obtain ⟨hi,hos,hdn⟩ := hI
  have hol : os.length ≤ 6 := by rw [hos]; simp; omega
  refine sr (qo N Z (cZ Z Z ?_))
  let Ya : Nat × Pv.Obj := (0,oB true 10 bJ os)
  refine re (an (av Z (fun c5 => ?_) (fun c5 => ?_)))
  ·try simp only [sB] at c5
   refine aw (ak (an (aP (sr ?_))))
   obtain ⟨e4,he4⟩ := bl (pW t.windows q) (i := i) (by omega)
   refine qo N Z (cA (q := i) (b := e4) (f := aU) gH Z gT Z Z (by omega) Z he4 ?_)
   refine xm N 3 [.o 3] [] [(15,PV.ptr 2 0)] 3 [(2,.obj (fG e4)),Ya,Y0] (re (an ?_))
   obtain ⟨wc1,wc2,wp0,wp1,wfn,w15,w16,w23⟩ := rO hcy he4
   obtain ⟨w1,hw1⟩ : ∃ z,z = dc q e4 := ⟨_,rfl⟩
   let Y1 : Nat × Pv.Obj := (0,.obj [pI w1.request.fn,pI w1.request.at_,pI w1.request.count,pI w1.request.wAt,pI w1.request.sub,pS 1 false ar w1.request.bits,pS 1 false aj w1.request.vals,au w1.request.and_,au w1.request.or_])
   let Y4 : ah := [(3,.obj [pI 16,pI e4.physical,pI e4.count,pI 0,pI 0,aH,aH,au 0,au 0]),(2,.obj (fG e4)),Ya,Y0]
   refine bk (xm N 7 [.o 7] [] [(16,PV.ptr 3 0)] 4 Y4 (re (uq (True) ([Ya1,Y2,(10,PV.ref 2 0 none),(13,pI dn),(15,PV.ptr 3 0),(16,PV.ptr 0 0),Y5,Y7,(76,pN i)]) 4 ([Y1,Y0,(2,oB true 10 bJ os),(3,.obj (fG e4))]) ?_ ?_)))
   ·refine sr (xp N 3 [.o 3] [] [(87,pB (decide (q.fn = 15)))] (re (av Z (fun c6 => ?_) (fun c6 => ?_))))
    ·try simp only [sB] at c6
     refine cK N (xq 7 [.o 7] [bu (dn + e4.count)] ?_ (hc := ⟨by unfold bu; (omega),trivial⟩))
     refine xk [(89,pS 1 false ar q.bits),(90,pI dn),(94,pI (dn + e4.count))] [] [] [] Y4 (rF (a := Int.toNat dn) (b := Int.toNat (dn + e4.count)) (f := ar) (l := q.bits) bT Z dE ⟨Z,by decide⟩ Z (cD Z (by omega)) (cD Z (by omega)) (by omega) ⟨Z,Z,Z⟩) (xd 4 [.o 4] [] 4 [(3,.obj [pI 15,pI e4.physical,pI e4.count,pI 0,pI 0,pS 1 false ar ((q.bits.take (Int.toNat (dn + e4.count))).drop (Int.toNat dn)),aH,au 0,au 0]),(2,.obj (fG e4)),Ya,Y0] (xe [Ya1,Y2,Ya0,(13,pI dn),(15,PV.ptr 2 0),(16,PV.ptr 3 0),Y5,Y7,(76,pN i)] ?_))
     have hz1 : 15 = w1.request.fn ∧ e4.physical = w1.request.at_ ∧ e4.count = w1.request.count ∧ 0 = w1.request.wAt ∧ 0 = w1.request.sub ∧ ((q.bits.take (Int.toNat (dn + e4.count))).drop (Int.toNat dn)) = w1.request.bits ∧ ([] : List UInt16) = w1.request.vals ∧ 0 = w1.request.and_ ∧ 0 = w1.request.or_ := by and_intros <;> ((rw [hw1,jN (by omega)] <;> (first|rfl|omega|exact si _ (by omega) (by omega) (by omega))))
     refine eF (n := 3) (ds := [pI w1.request.fn,pI w1.request.at_,pI w1.request.count,pI w1.request.wAt,pI w1.request.sub,pS 1 false ar w1.request.bits,pS 1 false aj w1.request.vals,au w1.request.and_,au w1.request.or_]) Z ⟨le_of_eq (congrArg pI hz1.1),le_of_eq (congrArg pI hz1.2.1),le_of_eq (congrArg pI hz1.2.2.1),le_of_eq (congrArg pI hz1.2.2.2.1),le_of_eq (congrArg pI hz1.2.2.2.2.1),le_of_eq (congrArg (fun z => pS 1 false ar z) hz1.2.2.2.2.2.1),be (ax 1 false) (le_of_eq (congrArg (fun z => pS 1 false aj z) hz1.2.2.2.2.2.2.1)),le_of_eq (congrArg au hz1.2.2.2.2.2.2.2.1),le_of_eq (congrArg au hz1.2.2.2.2.2.2.2.2),trivial⟩ (re (⟨?_,⟨[(0,3),(1,1),(2,0),(3,2)],by rw [hk]; decide,⟨⟨_,rfl,rfl,rfl⟩,⟨_,rfl,rfl,rfl⟩,⟨_,rfl,rfl,rfl⟩,⟨_,rfl,rfl,rfl⟩,⟨_,rfl,rfl,rfl⟩,⟨_,rfl,rfl,rfl⟩,⟨_,rfl,rfl,rfl⟩,⟨_,rfl,rfl,rfl⟩,⟨_,rfl,rfl,rfl⟩,trivial⟩,⟨⟨_,_,rfl,rfl,rfl,rfl⟩,⟨_,_,rfl,rfl,rfl,rfl⟩,⟨_,_,rfl,rfl,rfl,rfl⟩,⟨_,_,rfl,rfl,rfl,rfl⟩,trivial⟩,by rw [hk]; decide⟩⟩))
     trivial
    try simp only [sB] at c6
    refine bk (xp N 7 [.o 7] [bu (dn + e4.count)] [(99,pS 1 false aj q.vals),(100,pI dn),(104,pI (dn + e4.count))] ?_ (hc := ⟨by unfold bu; (omega),trivial⟩))
    refine qo N Z (rF (a := Int.toNat dn) (b := Int.toNat (dn + e4.count)) (f := aj) (l := q.vals) bf Z bE ⟨Z,by decide⟩ Z (cD Z (by omega)) (cD Z (by omega)) (by omega) ?_)
    refine qo N Z (aX bc Z Z bf (by decide) Z ?_)
    refine qo N Z (aC bf Z Z Z Z Z (nb Z) ?_)
    have hz2 : 16 = w1.request.fn ∧ e4.physical = w1.request.at_ ∧ e4.count = w1.request.count ∧ 0 = w1.request.wAt ∧ 0 = w1.request.sub ∧ ([] : List Bool) = w1.request.bits ∧ ((q.vals.take (Int.toNat (dn + e4.count))).drop (Int.toNat dn)) = w1.request.vals ∧ 0 = w1.request.and_ ∧ 0 = w1.request.or_ := by and_intros <;> ((have h1623 : q.fn = 16 ∨ q.fn = 23 := (by omega);  rcases h1623 with h16|h16; (rw [hw1,jM h16] <;> (first|rfl|omega|exact si _ (by omega) (by omega) (by omega))); (rw [hw1,jL h16] <;> (first|rfl|omega|exact si _ (by omega) (by omega) (by omega)))))
    refine eF (n := 3) (ds := [pI w1.request.fn,pI w1.request.at_,pI w1.request.count,pI w1.request.wAt,pI w1.request.sub,pS 1 false ar w1.request.bits,pS 1 false aj w1.request.vals,au w1.request.and_,au w1.request.or_]) Z ⟨le_of_eq (congrArg pI hz2.1),le_of_eq (congrArg pI hz2.2.1),le_of_eq (congrArg pI hz2.2.2.1),le_of_eq (congrArg pI hz2.2.2.2.1),le_of_eq (congrArg pI hz2.2.2.2.2.1),be (ax 1 false) (le_of_eq (congrArg (fun z => pS 1 false ar z) hz2.2.2.2.2.2.1)),le_of_eq (congrArg (fun z => pS 1 false aj z) hz2.2.2.2.2.2.2.1),le_of_eq (congrArg au hz2.2.2.2.2.2.2.2.1),le_of_eq (congrArg au hz2.2.2.2.2.2.2.2.2),trivial⟩ (re (⟨?_,⟨[(0,3),(1,1),(2,0),(3,2)],by rw [hk]; decide,⟨⟨_,rfl,rfl,rfl⟩,⟨_,rfl,rfl,rfl⟩,⟨_,rfl,rfl,rfl⟩,⟨_,rfl,rfl,rfl⟩,⟨_,rfl,rfl,rfl⟩,⟨_,rfl,rfl,rfl⟩,⟨_,rfl,rfl,rfl⟩,⟨_,rfl,rfl,rfl⟩,⟨_,rfl,rfl,rfl⟩,trivial⟩,⟨⟨_,_,rfl,rfl,rfl,rfl⟩,⟨_,_,rfl,rfl,rfl,rfl⟩,⟨_,_,rfl,rfl,rfl,rfl⟩,⟨_,_,rfl,rfl,rfl,rfl⟩,trivial⟩,by rw [hk]; decide⟩⟩))
    trivial
   intro hJ
   refine sr (qm N Z Z (qo N Z (bj bc Z Z Z (nb Z) ?_)))
   refine qo N Z (bX gI Z Z (br Z bc Z Z Z (nb Z) (br Z dE Z Z Z (nb Z) (dp ?_))))
   refine qo N Z (bM (f := bJ) [(⟨(⟨w1.request.fn,w1.request.at_,w1.request.count,w1.request.wAt,w1.request.sub,w1.request.bits,w1.request.vals,w1.request.and_,w1.request.or_⟩ : TRequest),true⟩ : TPart)] gJ Z gI ⟨Z,by decide⟩ (by decide) Z Z Z Z ?_)
   refine qo N Z (bZ (f := bJ) (l := os) (xs := [(⟨(⟨w1.request.fn,w1.request.at_,w1.request.count,w1.request.wAt,w1.request.sub,w1.request.bits,w1.request.vals,w1.request.and_,w1.request.or_⟩ : TRequest),true⟩ : TPart)]) gJ Z gI ⟨Z,by decide,by decide⟩ (da gJ Z (ct (f := bJ) Z Z)) Z Z (by (simp; omega)) ?_)
   refine qa N Z Z (aE [Ya1,Y2,(10,PV.ref 5 0 none),(13,pI dn),(15,PV.ptr 3 0),Y5,Y7,(76,pN i)] [(5,oB true 10 bJ (os ++ [(⟨(⟨w1.request.fn,w1.request.at_,w1.request.count,w1.request.wAt,w1.request.sub,w1.request.bits,w1.request.vals,w1.request.and_,w1.request.or_⟩ : TRequest),true⟩ : TPart)])),(4,oB true 10 bJ [(⟨(⟨w1.request.fn,w1.request.at_,w1.request.count,w1.request.wAt,w1.request.sub,w1.request.bits,w1.request.vals,w1.request.and_,w1.request.or_⟩ : TRequest),true⟩ : TPart)]),Y1,Y0,(3,.obj (fG e4))] 6 ⟨Z,Z,Z,Z,Z,Z,Z,Z,trivial⟩ Z Z (re (bk (qm N Z Z (qo N Z (aX gT Z Z aD (by decide) Z ?_))))))
   refine qo N Z (bp aD Z Z Z Z Z ?_)
   refine qo N Z (gm (r := dn + e4.count) Z Z Z (by omega) ?_)
   refine qa N Z Z (bG (aG (ak (bk (qo N Z (cm (a := i) (b := 1) Z Z (by omega) (by omega) (by omega) ?_))))))
   refine qm N Z Z (re (⟨(os ++ [(⟨(⟨w1.request.fn,w1.request.at_,w1.request.count,w1.request.wAt,w1.request.sub,w1.request.bits,w1.request.vals,w1.request.and_,w1.request.or_⟩ : TRequest),true⟩ : TPart)]),(dn + e4.count),(i + 1), ?_, ?_,⟨[(0,5),(1,1)],by rw [hk]; decide,⟨⟨_,rfl,rfl,rfl⟩,⟨_,rfl,rfl,rfl⟩,⟨_,rfl,rfl,rfl⟩,⟨_,rfl,rfl,rfl⟩,⟨_,rfl,rfl,rfl⟩,⟨_,rfl,rfl,rfl⟩,⟨_,rfl,rfl,rfl⟩,trivial⟩,⟨⟨_,_,rfl,rfl,rfl,rfl⟩,⟨_,_,rfl,rfl,rfl,rfl⟩,trivial⟩,by rw [hk]; decide⟩⟩))
   ·refine ⟨by omega, ?_,wT he4 hdn⟩
    rw [hos,List.take_add_one,he4,List.map_append]
    exact congrArg (fun z => ((pW t.windows q).take i).map (dc q) ++ [z]) (by rw [hw1]; exact px q e4)
   · omega
  try simp only [sB] at c5
  refine cG (aL (aL (bq (ak (sr ?_)))))
  refine xp N 3 [.o 3] [] [(17,pI q.fn)] (re (qF (fun (fv : Int) => fv = (if q.fn = 23 then 3 else q.fn)) (fun (fv : Int) => [Y2,Ya0,(17,pI fv)]) 1 (fun (fv : Int) => [Ya]) ?_ ?_))
  ·refine sr (qm N Z Z (qo N Z (bF Z Z ?_)))
   refine re (av Z (fun c7 => ?_) (fun c7 => ?_))
   ·try simp only [sB] at c7
    refine bk (ae N Z Z (⟨(3), ?_,⟨[(0,0)],by rw [hk]; decide,⟨⟨_,rfl,rfl,rfl⟩,⟨_,rfl,rfl,rfl⟩,⟨_,rfl,rfl,rfl⟩,trivial⟩,⟨⟨_,_,rfl,rfl,rfl,rfl⟩,trivial⟩,by rw [hk]; decide⟩⟩))
    exact (if_pos (by omega)).symm
   try simp only [sB] at c7
   refine aw (ak (⟨(q.fn), ?_,⟨[(0,0)],by rw [hk]; decide,⟨⟨_,rfl,rfl,rfl⟩,⟨_,rfl,rfl,rfl⟩,⟨_,rfl,rfl,rfl⟩,trivial⟩,⟨⟨_,_,rfl,rfl,rfl,rfl⟩,trivial⟩,by rw [hk]; decide⟩⟩))
   exact (if_neg (by omega)).symm
  intro fv hfv
  refine an (sr (qm N Z Z (qo N Z (ca (l := pR t.windows q) gH Z (cf (f := aU) Z) ?_))))
  let Ya2 : Nat × PV := (121,pS 3 false aU (pR t.windows q))
  refine qm N Z Z (re (aP (gf (fun (os5 : List TPart) (j : Nat) => j ≤ (pR t.windows q).length ∧ os5 = (pW t.windows q).map (dc q) ++ ((pR t.windows q).take j).map (cN (if q.fn = 23 then 3 else q.fn))) (fun (os5 : List TPart) (j : Nat) => [Ya0,(17,pI fv),Ya2,(122,pN ((pR t.windows q).length)),(123,pN j)]) 1 (fun (os5 : List TPart) (j : Nat) => [(0,oB true 10 bJ os5)]) (fun (os5 : List TPart) (j : Nat) => (pR t.windows q).length - j) (os) (0) ?_ ⟨[(0,0)],by rw [hk]; decide,⟨⟨_,rfl,rfl,rfl⟩,⟨_,rfl,rfl,rfl⟩,⟨_,rfl,rfl,rfl⟩,⟨_,rfl,rfl,rfl⟩,⟨_,rfl,rfl,rfl⟩,trivial⟩,⟨⟨_,_,rfl,rfl,rfl,rfl⟩,trivial⟩,by rw [hk]; decide⟩ ?_)))
  · exact ⟨by omega,by rw [hos,show i = (pW t.windows q).length by omega,List.take_length]; simp⟩
  ·intro os5 j hJ
   obtain ⟨hj,ho5⟩ := hJ
   have hol5 : os5.length ≤ 6 := by rw [ho5]; simp; omega
   refine sr (qo N Z (cZ Z Z ?_))
   refine re (an (av Z (fun c8 => ?_) (fun c8 => ?_)))
   ·try simp only [sB] at c8
    refine aw (ak (an (aP (sr ?_))))
    obtain ⟨e5,he5⟩ := bl (pR t.windows q) (i := j) (by omega)
    refine qo N Z (cA (q := j) (b := e5) (f := aU) gH Z gT Z Z (by omega) Z he5 ?_)
    refine xm N 3 [.o 3] [] [(19,PV.ptr 1 0)] 2 [(1,.obj (fG e5)),(0,oB true 10 bJ os5)] (re (bk (xp N 8 [.o 8] [] [(127,PV.ref 0 0 none),(134,PV.f (.agg [ay fv,ay e5.physical,ay e5.count,ay 0,ay 0,FV.v (.slice none 0 0),FV.v (.slice none 0 0),aj 0,aj 0,ar false]))] (jq (s := 134) (y := PV.f (bJ (⟨(⟨fv,e5.physical,e5.count,0,0,[],[],0,0⟩ : TRequest),false⟩ : TPart))) Z (ed (FLe.agg ⟨FLe.refl _,FLe.refl _,FLe.refl _,FLe.refl _,FLe.refl _,FLe.nil 1 false,FLe.nil 1 false,FLe.refl _,FLe.refl _,FLe.refl _,trivial⟩)) (qo N Z (bM (f := bJ) [(⟨(⟨fv,e5.physical,e5.count,0,0,[],[],0,0⟩ : TRequest),false⟩ : TPart)] gJ Z gI ⟨Z,by decide⟩ (by decide) Z Z Z Z ?_))))))
    refine qo N Z (bZ (f := bJ) (l := os5) (xs := [(⟨(⟨fv,e5.physical,e5.count,0,0,[],[],0,0⟩ : TRequest),false⟩ : TPart)]) gJ Z gI ⟨Z,by decide,by decide⟩ (da gJ Z (ct (f := bJ) Z Z)) Z Z (by (simp; omega)) ?_)
    refine qa N Z Z (aE [(10,PV.ref 3 0 none),(17,pI fv),Ya2,(122,pN ((pR t.windows q).length)),(123,pN j)] [(3,oB true 10 bJ (os5 ++ ([(⟨(⟨fv,e5.physical,e5.count,0,0,[],[],0,0⟩ : TRequest),false⟩ : TPart)]))),(2,oB true 10 bJ ([(⟨(⟨fv,e5.physical,e5.count,0,0,[],[],0,0⟩ : TRequest),false⟩ : TPart)])),(1,.obj (fG e5))] 4 ⟨Z,Z,Z,Z,Z,trivial⟩ Z Z (bG (aG (ak (bk (qo N Z (cm (a := j) (b := 1) Z Z (by omega) (by omega) (by omega) ?_)))))))
    refine qm N Z Z (re (⟨(os5 ++ ([(⟨(⟨fv,e5.physical,e5.count,0,0,[],[],0,0⟩ : TRequest),false⟩ : TPart)])),(j + 1), ?_, ?_,⟨[(0,3)],by rw [hk]; decide,⟨⟨_,rfl,rfl,rfl⟩,⟨_,rfl,rfl,rfl⟩,⟨_,rfl,rfl,rfl⟩,⟨_,rfl,rfl,rfl⟩,⟨_,rfl,rfl,rfl⟩,trivial⟩,⟨⟨_,_,rfl,rfl,rfl,rfl⟩,trivial⟩,by rw [hk]; decide⟩⟩))
    ·refine ⟨by omega, ?_⟩
     rw [ho5,List.take_add_one,he5,List.map_append,← List.append_assoc]
     rw [hfv]; rfl
    · omega
   try simp only [sB] at c8
   refine cG (aL (aL (bq (ak (sr ?_)))))
   exact xp N 3 [.o 3] [] [(4,PV.ref 0 0 none),(5,pI 0)] (re (gE (s := 4) (f := bJ) Z Z gG (aq (s := 4) Z (congrArg (fun z => pS 10 false bJ z) (show os5 = S.1 by (rw [hS]; exact (show os5 = fj t.windows q by rw [ho5,show j = (pR t.windows q).length by omega,List.take_length,eA (by omega)])))) (aq (s := 5) Z (congrArg pI (show 0 = S.2 by (rw [hS]; done))) (w_ret fp)))))
def aB (fn code : Int) : TReply := ⟨((fn % 2 ^ 7).toNat : Int),((code % 2 ^ 8).toNat : Int),0,0,0,[],[],0,0,[]⟩
section
variable {m e b u : Int}{q : TRequest}
end
theorem ey (n : Int) (k : Int)  :
    T Tryz.prog 19 [pI n,pI k] 0 [] (Ret (PV.f (aK (aB n k))) 0 []) := by
 refine bn aF (n := 10) (rs := [.cell 4 40]) Tryz.func19 Z Z Z Z (nb Z) ?_
 intro c N hk
 refine sr (qo N Z (cg aM ?_))
 refine aE [(0,pI n),(1,pI k),(4,PV.ptr 0 0)] [(0,.obj [pI 0,pI 0,pI 0,pI 0,pI 0,aH,aH,au 0,au 0,aH])] 1 ⟨Z,Z,Z,trivial⟩ Z Z (re (sr (qm N Z Z (qo N Z (jC 7 (by decide) Z Z (by decide) ?_)))))
 refine qm N Z Z (qo N Z (jC 8 (by decide) Z Z (by decide) ?_))
 exact xm N 2 [.o 2] [] [] 1 [(0,.obj [pN ((n % 2 ^ 7).toNat),pN ((k % 2 ^ 8).toNat),pI 0,pI 0,pI 0,aH,aH,au 0,au 0,aH])] (re (bH (n := 0) (ds := bm (aB n k)) Z ⟨le_of_eq (congrArg pI (show (((n % 2 ^ 7).toNat : Nat) : Int) = ((aB n k).fn) by rfl)),le_of_eq (congrArg pI (show (((k % 2 ^ 8).toNat : Nat) : Int) = ((aB n k).code) by rfl)),le_of_eq (congrArg pI (show 0 = ((aB n k).at_) by rfl)),le_of_eq (congrArg pI (show 0 = ((aB n k).count) by rfl)),le_of_eq (congrArg pI (show 0 = ((aB n k).sub) by rfl)),be (ax 1 false) (le_of_eq (congrArg (fun z => pS 1 false ar z) (show ([] : List Bool) = ((aB n k).bits) by rfl))),be (ax 1 false) (le_of_eq (congrArg (fun z => pS 1 false aj z) (show ([] : List UInt16) = ((aB n k).vals) by rfl))),le_of_eq (congrArg au (show 0 = ((aB n k).and_) by rfl)),le_of_eq (congrArg au (show 0 = ((aB n k).or_) by rfl)),be (ax 1 false) (le_of_eq (congrArg (fun z => pS 1 false az z) (show ([] : List UInt8) = ((aB n k).data) by rfl))),trivial⟩ (w_ret fp)))
theorem kQ (n : Int) (k : Int)  :
    T Tryz.prog 26 [pI n,pI k] 0 [] (Ret (PV.f (aK (aB n k))) 0 []) := by
 refine bn aF (n := 10) (rs := [.cell 4 40]) Tryz.func26 Z Z Z Z (nb Z) ?_
 intro c N hk
 refine sr (qo N Z (cg aM ?_))
 refine aE [(0,pI n),(1,pI k),(4,PV.ptr 0 0)] [(0,.obj [pI 0,pI 0,pI 0,pI 0,pI 0,aH,aH,au 0,au 0,aH])] 1 ⟨Z,Z,Z,trivial⟩ Z Z (re (sr (qm N Z Z (qo N Z (jC 7 (by decide) Z Z (by decide) ?_)))))
 refine qm N Z Z (qo N Z (jC 8 (by decide) Z Z (by decide) ?_))
 exact xm N 2 [.o 2] [] [] 1 [(0,.obj [pN ((n % 2 ^ 7).toNat),pN ((k % 2 ^ 8).toNat),pI 0,pI 0,pI 0,aH,aH,au 0,au 0,aH])] (re (bH (n := 0) (ds := bm (aB n k)) Z ⟨le_of_eq (congrArg pI (show (((n % 2 ^ 7).toNat : Nat) : Int) = ((aB n k).fn) by rfl)),le_of_eq (congrArg pI (show (((k % 2 ^ 8).toNat : Nat) : Int) = ((aB n k).code) by rfl)),le_of_eq (congrArg pI (show 0 = ((aB n k).at_) by rfl)),le_of_eq (congrArg pI (show 0 = ((aB n k).count) by rfl)),le_of_eq (congrArg pI (show 0 = ((aB n k).sub) by rfl)),be (ax 1 false) (le_of_eq (congrArg (fun z => pS 1 false ar z) (show ([] : List Bool) = ((aB n k).bits) by rfl))),be (ax 1 false) (le_of_eq (congrArg (fun z => pS 1 false aj z) (show ([] : List UInt16) = ((aB n k).vals) by rfl))),le_of_eq (congrArg au (show 0 = ((aB n k).and_) by rfl)),le_of_eq (congrArg au (show 0 = ((aB n k).or_) by rfl)),be (ax 1 false) (le_of_eq (congrArg (fun z => pS 1 false az z) (show ([] : List UInt8) = ((aB n k).data) by rfl))),trivial⟩ (w_ret fp)))
theorem f9 (a : TReply) (b : TReply) (ha : a.bits.length ≤ 140737488351232 ∧ a.vals.length ≤ 140737488351232 ∧ a.data.length ≤ 140737488351232) :
    T Tryz.prog 14 [PV.f (aK a),PV.f (aK b)] 0 [] (Ret (pB (decide (a = b))) 0 []) := by
 refine bn aF (n := 75) (rs := [.tmp 4]) Tryz.func14 Z Z Z Z (nb Z) ?_
 intro c N hk
 refine sr (qo N Z (cu Z Z ?_))
 refine qo N Z (cu Z Z ?_)
 refine qa N Z Z (aE [(2,PV.ptr 0 0),(3,PV.ptr 1 0)] [(1,.obj (bm b)),(0,.obj (bm a))] 2 ⟨Z,Z,trivial⟩ Z Z (re (sr (xp N 62 [.o 6,.b 5 [.o 5],.o 1,.b 5 [.o 5],.o 1,.b 5 [.o 5],.o 1,.b 5 [.o 5],.o 1,.b 5 [.o 4,.c (pB (decide (a.and_ = b.and_)))],.o 1,.b 5 [.o 4,.c (pB (decide (a.or_ = b.or_)))],.o 1,.b 5 [.o 4,.c (pB (decide (a.bits = b.bits)))],.o 1,.b 5 [.o 4,.c (pB (decide (a.vals = b.vals)))],.o 1] [(((((decide (a.fn = b.fn)) && (decide (a.code = b.code))) && (decide (a.at_ = b.at_))) && (decide (a.count = b.count))) && (decide (a.sub = b.sub))) = true → AllP [oh a.and_ b.and_],((((((decide (a.fn = b.fn)) && (decide (a.code = b.code))) && (decide (a.at_ = b.at_))) && (decide (a.count = b.count))) && (decide (a.sub = b.sub))) && (decide (a.and_ = b.and_))) = true → AllP [oh a.or_ b.or_],(((((((decide (a.fn = b.fn)) && (decide (a.code = b.code))) && (decide (a.at_ = b.at_))) && (decide (a.count = b.count))) && (decide (a.sub = b.sub))) && (decide (a.and_ = b.and_))) && (decide (a.or_ = b.or_))) = true → AllP [T Tryz.prog 41 [pS 1 false ar a.bits,pS 1 false ar b.bits] 0 [] (Ret (pB (decide (a.bits = b.bits))) 0 [])],((((((((decide (a.fn = b.fn)) && (decide (a.code = b.code))) && (decide (a.at_ = b.at_))) && (decide (a.count = b.count))) && (decide (a.sub = b.sub))) && (decide (a.and_ = b.and_))) && (decide (a.or_ = b.or_))) && (decide (a.bits = b.bits))) = true → AllP [T Tryz.prog 42 [pS 1 false aj a.vals,pS 1 false aj b.vals] 0 [] (Ret (pB (decide (a.vals = b.vals))) 0 [])]] [(66,pB (((((((((decide (a.fn = b.fn)) && (decide (a.code = b.code))) && (decide (a.at_ = b.at_))) && (decide (a.count = b.count))) && (decide (a.sub = b.sub))) && (decide (a.and_ = b.and_))) && (decide (a.or_ = b.or_))) && (decide (a.bits = b.bits))) && (decide (a.vals = b.vals))))] ?_ (hc := ⟨by intro hq; (try simp only [sB] at hq); exact ⟨eqC16_ok _ _,trivial⟩,by intro hq; (try simp only [sB] at hq); exact ⟨eqC16_ok _ _,trivial⟩,by intro hq; (try simp only [sB] at hq); exact ⟨(w_burgageref3_bits a.bits false b.bits false (by omega)),trivial⟩,by intro hq; (try simp only [sB] at hq); exact ⟨(w_burgageref3_vals a.vals false b.vals false (by omega)),trivial⟩,trivial⟩)))))
 refine cy 8 [(74,pB ((((((((((decide (a.fn = b.fn)) && (decide (a.code = b.code))) && (decide (a.at_ = b.at_))) && (decide (a.count = b.count))) && (decide (a.sub = b.sub))) && (decide (a.and_ = b.and_))) && (decide (a.or_ = b.or_))) && (decide (a.bits = b.bits))) && (decide (a.vals = b.vals))) && (decide (a.data = b.data))))] ?_ ?_
 ·refine bS aF N Z Z Z (fun g9 => ?_) (fun g9 => ?_)
  ·have g9' := g9
   try simp only [sB] at g9'
   refine qo N Z (aX aM Z Z tab_38 (by decide) Z ?_)
   refine ry N Z Z Z g9 (qo N Z (bp tab_38 Z Z Z Z Z ?_))
   refine ry N Z Z Z g9 (qo N Z (qv tab_38 mC Z tab_5 Z Z (cf (f := az) Z) ?_))
   refine ry N Z Z Z g9 (qo N Z (aX aM Z Z tab_38 (by decide) Z ?_))
   refine ry N Z Z Z g9 (qo N Z (bp tab_38 Z Z Z Z Z ?_))
   refine ry N Z Z Z g9 (qo N Z (qv tab_38 mC Z tab_5 Z Z (cf (f := az) Z) ?_))
   refine ry N Z Z Z g9 (qo N Z (wY (l := a.data) (m := b.data) Z Z ?_))
   refine qo N Z (bg Z g9 Z ?_)
   refine bh (s := 74) Z (dI g9) ?_
   exact bC ⟨⟨Z,trivial⟩,Z,Z⟩
  ·have g9' := g9
   try simp only [sB] at g9'
   refine rn N Z Z Z g9 (rn N Z Z Z g9 (rn N Z Z Z g9 (rn N Z Z Z g9 (rn N Z Z Z g9 (rn N Z Z Z g9 (qo N Z (bd Z g9 Z ?_)))))))
   refine bh (s := 74) (y := pB ((((((((((decide (a.fn = b.fn)) && (decide (a.code = b.code))) && (decide (a.at_ = b.at_))) && (decide (a.count = b.count))) && (decide (a.sub = b.sub))) && (decide (a.and_ = b.and_))) && (decide (a.or_ = b.or_))) && (decide (a.bits = b.bits))) && (decide (a.vals = b.vals))) && (decide (a.data = b.data)))) Z (dJ _ g9) ?_
   exact bC ⟨⟨Z,trivial⟩,Z,Z⟩
 ·exact ae N Z Z (aq (s := 4) Z (congrArg pB (show ((((((((((decide (a.fn = b.fn)) && (decide (a.code = b.code))) && (decide (a.at_ = b.at_))) && (decide (a.count = b.count))) && (decide (a.sub = b.sub))) && (decide (a.and_ = b.and_))) && (decide (a.or_ = b.or_))) && (decide (a.bits = b.bits))) && (decide (a.vals = b.vals))) && (decide (a.data = b.data))) = (decide (a = b)) by apply Bool.eq_iff_iff.2; simp only [Bool.and_eq_true,decide_eq_true_eq]; cases a; cases b; simp only [TReply.mk.injEq]; constructor <;> (intro h; simp_all))) (w_ret fp))
structure CodeA (r : TReply) : Prop where
  code : 1 ≤ r.code ∧ r.code ≤ 255
  fn : 0 ≤ r.fn ∧ r.fn ≤ 127
  rest : r = ⟨r.fn,r.code,0,0,0,[],[],0,0,[]⟩
structure ShapeA (r : TReply) : Prop where
  wa : 0 ≤ r.at_ ∧ r.at_ ≤ 65535
  wc : 0 ≤ r.count ∧ r.count ≤ 65535
  ws : 0 ≤ r.sub ∧ r.sub ≤ 65535
  za : ¬ (r.fn = 5 ∨ r.fn = 6 ∨ r.fn = 15 ∨ r.fn = 16 ∨ r.fn = 22) → r.at_ = 0
  zc : ¬ (r.fn = 15 ∨ r.fn = 16) → r.count = 0
  zs : r.fn ≠ 8 → r.sub = 0
  zm : r.fn ≠ 22 → r.and_.toNat = 0 ∧ r.or_.toNat = 0
  zb : ¬ (r.fn = 1 ∨ r.fn = 2 ∨ r.fn = 5) → r.bits.length = 0
  zv : ¬ (r.fn = 3 ∨ r.fn = 4 ∨ r.fn = 23 ∨ r.fn = 6 ∨ r.fn = 8) → r.vals.length = 0
  zd : r.fn ≠ 17 → r.data.length = 0
  ob : r.fn = 5 → r.bits.length = 1
  ov : r.fn = 6 ∨ r.fn = 8 → r.vals.length = 1
  lb : r.bits.length ≤ 2040
  lv : r.vals.length ≤ 127
  ld : r.data.length ≤ 250
instance (r : TReply) : Decidable (CodeA r) := decidable_of_iff ((1 ≤ r.code ∧ r.code ≤ 255) ∧ (0 ≤ r.fn ∧ r.fn ≤ 127) ∧ r = ⟨r.fn,r.code,0,0,0,[],[],0,0,[]⟩) ⟨fun h => ⟨h.1,h.2.1,h.2.2⟩,fun h => ⟨h.1,h.2,h.3⟩⟩
instance (r : TReply) : Decidable (ShapeA r) := decidable_of_iff ((0 ≤ r.at_ ∧ r.at_ ≤ 65535) ∧ (0 ≤ r.count ∧ r.count ≤ 65535) ∧ (0 ≤ r.sub ∧ r.sub ≤ 65535) ∧ (¬ (r.fn = 5 ∨ r.fn = 6 ∨ r.fn = 15 ∨ r.fn = 16 ∨ r.fn = 22) → r.at_ = 0) ∧ (¬ (r.fn = 15 ∨ r.fn = 16) → r.count = 0) ∧ (r.fn ≠ 8 → r.sub = 0) ∧
    (r.fn ≠ 22 → r.and_.toNat = 0 ∧ r.or_.toNat = 0) ∧ (¬ (r.fn = 1 ∨ r.fn = 2 ∨ r.fn = 5) → r.bits.length = 0) ∧ (¬ (r.fn = 3 ∨ r.fn = 4 ∨ r.fn = 23 ∨ r.fn = 6 ∨ r.fn = 8) → r.vals.length = 0) ∧ (r.fn ≠ 17 → r.data.length = 0) ∧ (r.fn = 5 → r.bits.length = 1) ∧ (r.fn = 6 ∨ r.fn = 8 → r.vals.length = 1) ∧
    r.bits.length ≤ 2040 ∧ r.vals.length ≤ 127 ∧ r.data.length ≤ 250)
  ⟨fun ⟨a,b,c,d,e,f,g,h,i,j,k,l,m,n,o⟩ => ⟨a,b,c,d,e,f,g,h,i,j,k,l,m,n,o⟩,fun ⟨a,b,c,d,e,f,g,h,i,j,k,l,m,n,o⟩ => ⟨a,b,c,d,e,f,g,h,i,j,k,l,m,n,o⟩⟩
def bI (r : TReply) : Int := if r.code ≠ 0 then (if CodeA r then 0 else 12) else if bO r.fn = false then 15 else if ShapeA r then 0 else 12
theorem tu {r : TReply} (h : r.code ≠ 0) (h2 : CodeA r) : bI r = 0 := by unfold bI; rw [if_pos h,if_pos h2]
theorem tt {r : TReply} (h : r.code ≠ 0) (h2 : ¬ CodeA r) : bI r = 12 := by unfold bI; rw [if_pos h,if_neg h2]
theorem tr {r : TReply} (h : r.code = 0) (h2 : bO r.fn = false) : bI r = 15 := by unfold bI; rw [if_neg (by omega),if_pos h2]
theorem jE {r : TReply} (h : r.code = 0) (h2 : bO r.fn = true) (h3 : ShapeA r) : bI r = 0 := by unfold bI; rw [if_neg (by omega),if_neg (by simp [h2]),if_pos h3]
theorem jD {r : TReply} (h : r.code = 0) (h2 : bO r.fn = true) (h3 : ¬ ShapeA r) : bI r = 12 := by unfold bI; rw [if_neg (by omega),if_neg (by simp [h2]),if_neg h3]
theorem goodR_zero {r : TReply} (h : bI r = 0) : (r.code ≠ 0 ∧ CodeA r) ∨ (r.code = 0 ∧ bO r.fn = true ∧ ShapeA r) := by
  by_cases h0 : r.code = 0
  · cases hf : bO r.fn with
    | false => rw [tr h0 hf] at h; cases h
    | true =>
      by_cases hs : ShapeA r
      · exact .inr ⟨h0,rfl,hs⟩
      · rw [jD h0 hf hs] at h; cases h
  · by_cases hs : CodeA r
    · exact .inl ⟨h0,hs⟩
    · rw [tt h0 hs] at h; cases h
def eX (r : TReply) : List UInt8 :=
  if r.fn = 1 ∨ r.fn = 2 then cY (packL r.bits)
  else if r.fn = 3 ∨ r.fn = 4 ∨ r.fn = 23 then cY (bW r.vals)
  else if r.fn = 5 then aJ r.at_ ++ aJ (if r.bits.getD 0 false = true then 65280 else 0)
  else if r.fn = 6 then aJ r.at_ ++ aJ (((r.vals.getD 0 0).toNat : Nat) : Int)
  else if r.fn = 8 then aJ r.sub ++ aJ (((r.vals.getD 0 0).toNat : Nat) : Int)
  else if r.fn = 15 ∨ r.fn = 16 then aJ r.at_ ++ aJ r.count
  else if r.fn = 17 then cY r.data
  else if r.fn = 22 then aJ r.at_ ++ (aJ ((r.and_.toNat : Nat) : Int) ++ aJ ((r.or_.toNat : Nat) : Int))
  else []
def cQ (r : TReply) : List UInt8 := if r.code ≠ 0 then [UInt8.ofNat (r.fn.toNat ||| 128),bz r.code] else bz r.fn :: eX r
def il (r : TReply) : List UInt8 := if bI r = 0 then cQ r else []
theorem B8 : ∀ n : Fin 128,n.val ||| 128 = n.val + 128 := by decide
theorem rQ {x : Int} (h : 0 ≤ x ∧ x ≤ 127) : x.toNat ||| 128 = x.toNat + 128 := B8 ⟨x.toNat,by omega⟩
def dY (r : TReply) (q : TRequest) : Prop := r.code = 0 → ((r.fn = 1 ∨ r.fn = 2) → (r.bits.length : Int) = q.count) ∧ ((r.fn = 3 ∨ r.fn = 4 ∨ r.fn = 23) → (r.vals.length : Int) = q.count)
instance (r : TReply) (q : TRequest) : Decidable (dY r q) := by unfold dY; infer_instance
def kJ : TReply := ⟨0,0,0,0,0,[],[],0,0,[]⟩
def gY (b : List UInt8) (f : Int) : Prop := 0 ≤ f ∧ ((((b.getD 0 0).toNat : Nat) : Int) = f ∨ f < 128 ∧ (((b.getD 0 0).toNat : Nat) : Int) = f + 128)
instance (b : List UInt8) (f : Int) : Decidable (gY b f) := by unfold gY; infer_instance
def dS (g : List UInt8 → TRequest → TReply) (b : List UInt8) (q : TRequest) : TReply × Int :=
  if b.length = 0 then (kJ,13) else if ¬ gY b q.fn then (kJ,12)
  else if bI (g b q) = 0 ∧ cQ (g b q) = b ∧ dY (g b q) q then (g b q,0) else (kJ,12)
def jA (b : List UInt8) : Int := if 1 < b.length then (((b.getD 1 0).toNat : Nat) : Int) else 0
def dd (b : List UInt8) (q : TRequest) : TReply :=
  let f : Int := (((b.getD 0 0).toNat : Nat) : Int)
  if 128 ≤ f then ⟨(((b.getD 0 0).toNat % 2 ^ 7 : Nat) : Int),jA b,0,0,0,[],[],0,0,[]⟩
  else if f = 1 ∨ f = 2 then ⟨f,0,0,0,0,(if 1 < b.length then dh (b.drop 2) q.count else []),[],0,0,[]⟩
  else if f = 3 ∨ f = 4 ∨ f = 23 then ⟨f,0,0,0,0,[],cJ b 2,0,0,[]⟩
  else if f = 15 ∨ f = 16 then ⟨f,0,bA b 1,bA b 3,0,[],[],0,0,[]⟩
  else if f = 17 then ⟨f,0,0,0,0,[],[],0,0,(if 1 < b.length then b.drop 2 else [])⟩
  else ⟨f,0,(if f = 8 then 0 else bA b 1),0,(cL b).sub,(cL b).bits,(cL b).vals,(cL b).and_,(cL b).or_,[]⟩
def gq (b : List UInt8) (q : TRequest) : TReply :=
  let f : Int := (((b.getD 0 0).toNat : Nat) : Int)
  if 128 ≤ f then ⟨f - 128,jA b,0,0,0,[],[],0,0,[]⟩
  else if f = 1 ∨ f = 2 then ⟨f,0,0,0,0,dh (b.drop (min b.length 2)) q.count,[],0,0,[]⟩
  else if f = 3 ∨ f = 4 ∨ f = 23 then ⟨f,0,0,0,0,[],fd (b.drop (min b.length 2)),0,0,[]⟩
  else if f = 5 then ⟨f,0,bA b 1,0,0,[decide (bA b 3 = 65280)],[],0,0,[]⟩
  else if f = 6 then ⟨f,0,bA b 1,0,0,[],[bV (bA b 3)],0,0,[]⟩
  else if f = 8 then ⟨f,0,0,0,bA b 1,[],[bV (bA b 3)],0,0,[]⟩
  else if f = 15 ∨ f = 16 then ⟨f,0,bA b 1,bA b 3,0,[],[],0,0,[]⟩
  else if f = 22 then ⟨f,0,bA b 1,0,0,[],[],bV (bA b 3),bV (bA b 5),[]⟩
  else if f = 17 then ⟨f,0,0,0,0,[],[],0,0,b.drop (min b.length 2)⟩
  else ⟨f,0,0,0,0,[],[],0,0,[]⟩
theorem ke {x y : UInt8}{r : List UInt8} : (x :: y :: r).drop 2 = r := rfl
theorem uQ {r : TReply}{q : TRequest} (h0 : r.code ≠ 0) (h : CodeA r) : dd (cQ r) q = r ∧ gq (cQ r) q = r := by
  obtain ⟨hc,hf,hr⟩ := h
  obtain ⟨f,c,at_,count,sub,bits,vals,and_,or_,data⟩ := r
  simp only at *
  injection hr with e1 e2 e3 e4 e5 e6 e7 e8 e9 e10
  subst e3; subst e4; subst e5; subst e6; subst e7; subst e8; subst e9; subst e10
  have hl : cQ (⟨f,c,0,0,0,[],[],0,0,[]⟩ : TReply) = [UInt8.ofNat (f.toNat ||| 128),bz c] := by unfold cQ; rw [if_pos h0]
  rw [hl,rQ hf]
  have h1 : (UInt8.ofNat (f.toNat + 128)).toNat = f.toNat + 128 := by rw [UInt8.toNat_ofNat']; omega
  have h2 : jA [UInt8.ofNat (f.toNat + 128),bz c] = c := by
    unfold jA
    rw [if_pos (by simp)]
    have : ((([UInt8.ofNat (f.toNat + 128),bz c] : List UInt8).getD 1 0).toNat : Int) = ((bz c).toNat : Int) := rfl
    rw [this,ky]; omega
  unfold dd gq
  simp only [eP,h1,h2]
  rw [if_pos (by omega),if_pos (by omega)]
  have h3 : (((f.toNat + 128) % 2 ^ 7 : Nat) : Int) = f := by omega
  have h4 : (((f.toNat + 128 : Nat)) : Int) - 128 = f := by omega
  rw [h3,h4]
  exact ⟨rfl,rfl⟩
theorem m7 {r : TReply}{q : TRequest} (h : bI r = 0) (hq : dY r q) : dd (cQ r) q = r ∧ gq (cQ r) q = r := by
  rcases goodR_zero h with ⟨h0,hs⟩|⟨h0,hf,hs⟩
  · exact uQ h0 hs
  have hfb := oW hf
  have hc := hasF_of hf
  obtain ⟨cb,cv⟩ := hq h0
  obtain ⟨wa,wc,ws,za,zc,zs,zm,zb,zv,zd,ob,ov,lb,lv,ld⟩ := hs
  obtain ⟨f,c,at_,count,sub,bits,vals,and_,or_,data⟩ := r
  simp only at *
  subst h0
  have z0 : ∀ x : UInt16,x.toNat = 0 → x = 0 := fun x hx => UInt16.toNat_inj.1 hx
  have hl : cQ (⟨f,0,at_,count,sub,bits,vals,and_,or_,data⟩ : TReply) = bz f :: eX ⟨f,0,at_,count,sub,bits,vals,and_,or_,data⟩ := by unfold cQ; rw [if_neg (by simp)]
  rw [hl]
  by_cases k1 : f = 1 ∨ f = 2
  · have hv0 := List.eq_nil_of_length_eq_zero (zv (by omega))
    have hd0 := List.eq_nil_of_length_eq_zero (zd (by omega))
    have m := zm (by omega)
    subst hv0; subst hd0
    rw [za (by omega),zc (by omega),zs (by omega),z0 _ m.1,z0 _ m.2]
    have e : eX (⟨f,0,0,0,0,bits,[],0,0,[]⟩ : TReply) = UInt8.ofNat (packL bits).length :: packL bits := by unfold eX; rw [if_pos k1]; rfl
    rw [e]
    have ob2 := (pM bits).2
    rw [cb k1] at ob2
    unfold dd gq
    simp only [eP,hfb,List.length_cons]
    constructor
    · rw [if_neg (by omega),if_pos k1,if_pos (show 1 < (packL bits).length + 1 + 1 by omega),ke,ob2]
    · rw [if_neg (by omega),if_pos k1,show min ((packL bits).length + 1 + 1) 2 = 2 by omega,ke,ob2]
  by_cases k3 : f = 3 ∨ f = 4 ∨ f = 23
  · have hb0 := List.eq_nil_of_length_eq_zero (zb (by omega))
    have hd0 := List.eq_nil_of_length_eq_zero (zd (by omega))
    have m := zm (by omega)
    subst hb0; subst hd0
    rw [za (by omega),zc (by omega),zs (by omega),z0 _ m.1,z0 _ m.2]
    have e : eX (⟨f,0,0,0,0,[],vals,0,0,[]⟩ : TReply) = UInt8.ofNat (bW vals).length :: bW vals := by unfold eX; rw [if_neg k1,if_pos k3]; rfl
    rw [e]
    obtain ⟨w1,w2⟩ := jH (b := bz f :: UInt8.ofNat (bW vals).length :: bW vals) (k := 2) (l := vals) rfl (by simp; omega) (by simp; omega)
    have w3 := (mN vals).2
    unfold dd gq
    simp only [eP,hfb,w1]
    constructor
    · rw [if_neg (by omega),if_neg k1,if_pos k3]
    · rw [if_neg (by omega),if_neg k1,if_pos k3,show min (bz f :: UInt8.ofNat (bW vals).length :: bW vals).length 2 = 2 by simp,ke,w3]
  by_cases k15 : f = 15 ∨ f = 16
  · have hb0 := List.eq_nil_of_length_eq_zero (zb (by omega))
    have hv0 := List.eq_nil_of_length_eq_zero (zv (by omega))
    have hd0 := List.eq_nil_of_length_eq_zero (zd (by omega))
    have m := zm (by omega)
    subst hb0; subst hv0; subst hd0
    rw [zs (by omega),z0 _ m.1,z0 _ m.2]
    have e : eX (⟨f,0,at_,count,0,[],[],0,0,[]⟩ : TReply) = aJ at_ ++ aJ count := by
      unfold eX; rw [if_neg k1,if_neg k3,if_neg (show ¬ f = 5 by omega),if_neg (show ¬ f = 6 by omega),if_neg (show ¬ f = 8 by omega),if_pos k15]
    rw [e]
    have e1 : bA (bz f :: (aJ at_ ++ aJ count)) 1 = at_ := ir wa
    have e3 : bA (bz f :: (aJ at_ ++ aJ count)) 3 = count := by have := iq (x := bz f) (a := at_) (r := []) wc; rwa [List.append_nil] at this
    unfold dd gq
    simp only [eP,hfb,e1,e3]
    constructor
    · rw [if_neg (by omega),if_neg k1,if_neg k3,if_pos k15]
    · rw [if_neg (by omega),if_neg k1,if_neg k3,if_neg (by omega),if_neg (by omega),if_neg (by omega),if_pos k15]
  by_cases k17 : f = 17
  · subst k17
    have hb0 := List.eq_nil_of_length_eq_zero (zb (by omega))
    have hv0 := List.eq_nil_of_length_eq_zero (zv (by omega))
    have m := zm (by omega)
    subst hb0; subst hv0
    rw [za (by omega),zc (by omega),zs (by omega),z0 _ m.1,z0 _ m.2]
    have e : eX (⟨17,0,0,0,0,[],[],0,0,data⟩ : TReply) = UInt8.ofNat data.length :: data := rfl
    rw [e]
    unfold dd gq
    simp only [eP,hfb,List.length_cons]
    rw [if_pos (show 1 < data.length + 1 + 1 by omega),show min (data.length + 1 + 1) 2 = 2 by omega,ke]
    exact ⟨rfl,rfl⟩
  have hd0 := List.eq_nil_of_length_eq_zero (zd (by omega))
  have hc0 := zc (by omega)
  subst hd0; subst hc0
  have hR : bK (⟨f,at_,0,0,sub,bits,vals,and_,or_⟩ : TRequest) = 0 := by
    refine (cU (q := ⟨f,at_,0,0,sub,bits,vals,and_,or_⟩) hf).2 ⟨wa,wc,wc,ws,fun h => za (by simp only at h; omega),fun _ => rfl,fun _ => rfl,zs,zm, ?_, ?_⟩
    · simp only
      by_cases k : f = 5
      · rw [if_pos k]; exact ob k
      · rw [if_neg k,if_neg (by omega)]; exact zb (by omega)
    · simp only
      by_cases k : f = 6 ∨ f = 8
      · rw [if_pos k]; exact ov k
      · rw [if_neg k,if_neg (by omega),if_neg (by omega)]; exact zv (by omega)
  have hW : bz f :: eX (⟨f,0,at_,0,sub,bits,vals,and_,or_,[]⟩ : TReply) = cx (⟨f,at_,0,0,sub,bits,vals,and_,or_⟩ : TRequest) := by
    unfold eX cx fR
    simp only
    rw [if_neg k1,if_neg k3,if_neg (by omega : ¬ (f = 1 ∨ f = 2 ∨ f = 3 ∨ f = 4))]
    have k22 : f = 5 ∨ f = 6 ∨ f = 8 ∨ f = 22 := by omega
    rcases k22 with k|k|k|k <;> subst k <;> rfl
  obtain ⟨g1,g2⟩ := sU hR
  rw [← hW] at g1 g2
  obtain ⟨X,hX⟩ : ∃ z,z = bz f :: eX (⟨f,0,at_,0,sub,bits,vals,and_,or_,[]⟩ : TReply) := ⟨_,rfl⟩
  rw [← hX] at g1 g2 ⊢
  have hX0 : X.getD 0 0 = bz f := by rw [hX]; rfl
  have k22 : f = 5 ∨ f = 6 ∨ f = 8 ∨ f = 22 := by omega
  have hXa : f ≠ 8 → bA X 1 = at_ := fun h8 => by
    have hg := g2
    rcases k22 with k|k|k|k
    · rw [r9 hX0 (by omega)] at hg; injection hg
    · rw [r8 hX0 (by omega)] at hg; injection hg
    · exact absurd k h8
    · rw [pQ hX0 (by omega)] at hg; injection hg
  constructor
  · unfold dd
    simp only [hX0,hfb,g1]
    rw [if_neg (by omega),if_neg k1,if_neg k3,if_neg k15,if_neg k17]
    by_cases k8 : f = 8
    · rw [if_pos k8,za (by omega)]
    · rw [if_neg k8,hXa k8]
  · unfold gq
    simp only [hX0,hfb]
    rw [if_neg (by omega),if_neg k1,if_neg k3]
    have hg := g2
    rcases k22 with k|k|k|k <;> subst k
    · rw [r9 hX0 (by omega)] at hg; injection hg with i1 i2 i3 i4 i5 i6 i7 i8 i9
      rw [if_pos rfl,i2,i6,← i5,← i7,← i8,← i9]
    · obtain ⟨e,he⟩ := kY (ov (by omega))
      rw [r8 hX0 (by omega)] at hg; injection hg with i1 i2 i3 i4 i5 i6 i7 i8 i9
      have hx : X = bz 6 :: (aJ at_ ++ (aJ ((e.toNat : Nat) : Int) ++ [])) := by rw [hX,he,List.append_nil]; rfl
      have he2 := e.toNat_lt
      have e3 : bA X 3 = ((e.toNat : Nat) : Int) := by rw [hx]; exact iq (by omega)
      rw [if_neg (by decide),if_pos rfl,i2,e3,lR,← i5,← i6,← i8,← i9,he]
    · obtain ⟨e,he⟩ := kY (ov (by omega))
      rw [xF hX0 (by omega)] at hg; injection hg with i1 i2 i3 i4 i5 i6 i7 i8 i9
      have hx : X = bz 8 :: (aJ sub ++ (aJ ((e.toNat : Nat) : Int) ++ [])) := by rw [hX,he,List.append_nil]; rfl
      have he2 := e.toNat_lt
      have e3 : bA X 3 = ((e.toNat : Nat) : Int) := by rw [hx]; exact iq (by omega)
      rw [if_neg (by decide),if_neg (by decide),if_pos rfl,i5,e3,lR,← i2,← i6,← i8,← i9,he]
    · rw [pQ hX0 (by omega)] at hg; injection hg with i1 i2 i3 i4 i5 i6 i7 i8 i9
      rw [if_neg (by decide),if_neg (by decide),if_neg (by decide),if_neg (by decide),if_pos rfl,i2,i8,i9,← i5,← i6,← i7]
theorem uP (b : List UInt8) (q : TRequest) : dS gq b q = dS dd b q := by
  unfold dS
  split
  · rfl
  · split
    · rfl
    · by_cases h : bI (dd b q) = 0 ∧ cQ (dd b q) = b ∧ dY (dd b q) q
      · have e := (m7 h.1 h.2.2).2
        rw [h.2.1] at e
        rw [if_pos h,e,if_pos h]
      · by_cases h2 : bI (gq b q) = 0 ∧ cQ (gq b q) = b ∧ dY (gq b q) q
        · have e := (m7 h2.1 h2.2.2).1
          rw [h2.2.1] at e
          rw [e] at h
          exact absurd h2 h
        · rw [if_neg h,if_neg h2]
def bw (r : TReply) : TReply :=
  if r.fn = 1 ∨ r.fn = 2 then ⟨r.fn,0,0,0,0,r.bits,[],0,0,[]⟩
  else if r.fn = 3 ∨ r.fn = 4 ∨ r.fn = 23 then ⟨r.fn,0,0,0,0,[],r.vals,0,0,[]⟩
  else if r.fn = 5 then ⟨r.fn,0,r.at_,0,0,r.bits,[],0,0,[]⟩
  else if r.fn = 6 then ⟨r.fn,0,r.at_,0,0,[],r.vals,0,0,[]⟩
  else if r.fn = 8 then ⟨r.fn,0,0,0,r.sub,[],r.vals,0,0,[]⟩
  else if r.fn = 15 ∨ r.fn = 16 then ⟨r.fn,0,r.at_,r.count,0,[],[],0,0,[]⟩
  else if r.fn = 22 then ⟨r.fn,0,r.at_,0,0,[],[],r.and_,r.or_,[]⟩
  else if r.fn = 17 then ⟨r.fn,0,0,0,0,[],[],0,0,r.data⟩
  else kJ
theorem t8 {r : TReply} (hf : bO r.fn = true) (h0 : r.code = 0) : ShapeA r ↔ r = bw r ∧ (0 ≤ r.at_ ∧ r.at_ ≤ 65535) ∧ (0 ≤ r.sub ∧ r.sub ≤ 65535) ∧ (0 ≤ r.count ∧ r.count ≤ 65535) ∧ (r.fn = 5 → r.bits.length = 1) ∧ (r.fn = 6 ∨ r.fn = 8 → r.vals.length = 1) ∧ r.bits.length ≤ 2040 ∧ r.vals.length ≤ 127 ∧ r.data.length ≤ 250 := by
  have hc := hasF_of hf
  obtain ⟨f,c,at_,count,sub,bits,vals,and_,or_,data⟩ := r
  simp only at *
  subst h0
  have z0 : ∀ x : UInt16,x.toNat = 0 → x = 0 := fun x hx => UInt16.toNat_inj.1 hx
  constructor
  · rintro ⟨wa,wc,ws,za,zc,zs,zm,zb,zv,zd,ob,ov,lb,lv,ld⟩
    refine ⟨?_,wa,ws,wc,ob,ov,lb,lv,ld⟩
    simp only at za zc zs zm zb zv zd
    have zm1 : f ≠ 22 → and_ = 0 := fun h => z0 _ (zm h).1
    have zm2 : f ≠ 22 → or_ = 0 := fun h => z0 _ (zm h).2
    have zb1 : ¬ (f = 1 ∨ f = 2 ∨ f = 5) → bits = [] := fun h => List.eq_nil_of_length_eq_zero (zb h)
    have zv1 : ¬ (f = 3 ∨ f = 4 ∨ f = 23 ∨ f = 6 ∨ f = 8) → vals = [] := fun h => List.eq_nil_of_length_eq_zero (zv h)
    have zd1 : f ≠ 17 → data = [] := fun h => List.eq_nil_of_length_eq_zero (zd h)
    clear zm zb zv zd
    rcases hc with h|h|h|h|h|h|h|h|h|h|h|h <;> subst h <;> simp_all [bw]
  · rintro ⟨he,wa,ws,wc,ob,ov,lb,lv,ld⟩
    rcases hc with h|h|h|h|h|h|h|h|h|h|h|h <;> subst h <;> simp [bw] at he <;> (obtain ⟨rfl,he⟩ := he <;> skip) <;> exact ⟨wa,wc,ws,by simp_all,by simp_all,by simp_all,by simp_all,by simp_all,by simp_all,by simp_all,ob,ov,lb,lv,ld⟩
def aW (n : Int) : List UInt8 := if n = 1 ∨ n = 2 then [98] else if n = 3 ∨ n = 4 ∨ n = 23 then [118] else if n = 5 then [97,98] else if n = 6 then [97,118] else if n = 8 then [115,118] else if n = 15 ∨ n = 16 then [97,99] else if n = 17 then [100] else [97,109]
theorem fL (n : Int) : (aW n).length ≤ 4 := by
  unfold aW
  repeat' split
  all_goals simp
theorem Cy {n : Int} (h : bO n = true) : inS (aW n) 97 = decide (n = 5 ∨ n = 6 ∨ n = 15 ∨ n = 16 ∨ n = 22) ∧ inS (aW n) 99 = decide (n = 15 ∨ n = 16) ∧ inS (aW n) 115 = decide (n = 8) ∧ inS (aW n) 98 = decide (n = 1 ∨ n = 2 ∨ n = 5) ∧
    inS (aW n) 118 = decide (n = 3 ∨ n = 4 ∨ n = 23 ∨ n = 6 ∨ n = 8) ∧ inS (aW n) 109 = decide (n = 22) ∧ inS (aW n) 100 = decide (n = 17) := by
  rcases hasF_of h with h|h|h|h|h|h|h|h|h|h|h|h <;> subst h <;> decide
theorem Bz (n : Int) : inS (aW n) 97 = decide (¬ (n = 1 ∨ n = 2 ∨ n = 3 ∨ n = 4 ∨ n = 23 ∨ n = 8 ∨ n = 17)) := by
  by_cases h : n = 1 ∨ n = 2 ∨ n = 3 ∨ n = 4 ∨ n = 23 ∨ n = 8 ∨ n = 17 ∨ n = 5 ∨ n = 6 ∨ n = 15 ∨ n = 16
  · rcases h with h|h|h|h|h|h|h|h|h|h|h <;> subst h <;> decide
  · have e : aW n = [97,109] := by
      unfold aW
      rw [if_neg (by omega),if_neg (by omega),if_neg (by omega),if_neg (by omega),if_neg (by omega),if_neg (by omega),if_neg (by omega)]
    rw [e,decide_eq_true (by omega)] <;> rfl
def ph (r : TReply) : Bool := (((((((!(inS (aW r.fn) 97)) && (!decide (r.at_ = 0))) || ((!(inS (aW r.fn) 99)) && (!decide (r.count = 0)))) || ((!(inS (aW r.fn) 115)) && (!decide (r.sub = 0)))) || ((!(inS (aW r.fn) 98)) && decide (0 < ((r.bits.length : Nat) : Int)))) || ((!(inS (aW r.fn) 118)) && decide (0 < ((r.vals.length : Nat) : Int)))) ||
  ((!(inS (aW r.fn) 109)) && ((!decide (r.and_ = 0)) || (!decide (r.or_ = 0))))) || ((!(inS (aW r.fn) 100)) && decide (0 < ((r.data.length : Nat) : Int)))
def pf (r : TReply) : Bool := (((((((!(aY r.at_)) || (!(aY r.count))) || (!(aY r.sub))) || (decide (r.fn = 5) && (!decide (((r.bits.length : Nat) : Int) = 1)))) || ((decide (r.fn = 6) || decide (r.fn = 8)) && (!decide (((r.vals.length : Nat) : Int) = 1)))) || decide (2040 < ((r.bits.length : Nat) : Int))) || decide (127 < ((r.vals.length : Nat) : Int))) || decide (250 < ((r.data.length : Nat) : Int))
theorem lc {r : TReply} (hf : bO r.fn = true) : ShapeA r ↔ ph r = false ∧ pf r = false := by
  have hc := hasF_of hf
  obtain ⟨ia,ic,is,ib,iv,im,id⟩ := Cy hf
  have hz := @u16z r.and_
  have hz2 := @u16z r.or_
  unfold ph pf
  rw [ia,ic,is,ib,iv,im,id]
  simp only [Bool.or_eq_false_iff,Bool.and_eq_false_iff,Bool.not_eq_false',decide_eq_true_eq,decide_eq_false_iff_not,aY,hz,hz2]
  constructor
  · rintro ⟨wa,wc,ws,za,zc,zs,zm,zb,zv,zd,ob,ov,lb,lv,ld⟩
    refine ⟨⟨⟨⟨⟨⟨⟨by omega,by omega⟩,by omega⟩,by omega⟩,by omega⟩,by omega⟩,by omega⟩,⟨⟨⟨⟨⟨⟨⟨wa,wc⟩,ws⟩,by omega⟩,by omega⟩,by omega⟩,by omega⟩,by omega⟩⟩
  · rintro ⟨⟨⟨⟨⟨⟨⟨a1,a2⟩,a3⟩,a4⟩,a5⟩,a6⟩,a7⟩,⟨⟨⟨⟨⟨⟨⟨wa,wc⟩,ws⟩,b4⟩,b5⟩,b6⟩,b7⟩,b8⟩⟩
    exact ⟨wa,wc,ws,by omega,by omega,by omega,by omega,by omega,by omega,by omega,by omega,by omega,by omega,by omega,by omega⟩
theorem zL {r : TReply} (h0 : r.code = 0) (hf : bO r.fn = true) (h : ph r = true) : bI r = 12 := jD h0 hf fun hs => by rw [((lc hf).1 hs).1] at h; cases h
theorem zK {r : TReply} (h0 : r.code = 0) (hf : bO r.fn = true) (h : pf r = true) : bI r = 12 := jD h0 hf fun hs => by rw [((lc hf).1 hs).2] at h; cases h
theorem zJ {r : TReply} (h0 : r.code = 0) (hf : bO r.fn = true) (h : ph r = false) (h2 : pf r = false) : bI r = 0 := jE h0 hf ((lc hf).2 ⟨h,h2⟩)
theorem tq {r : TReply} (h : bI r = 0) : 0 ≤ r.fn ∧ r.fn ≤ 127 := by
  rcases goodR_zero h with ⟨_,hs⟩|⟨_,hf,_⟩
  · exact hs.fn
  · have := hasF_of hf; omega
theorem rY {r : TReply} (h : bI r = 0) : 1 ≤ (cQ r).length ∧ (cQ r).length ≤ 257 := by
  rcases goodR_zero h with ⟨h0,hs⟩|⟨h0,hf,hs⟩
  · unfold cQ; rw [if_pos h0]; simp
  · obtain ⟨wa,wc,ws,za,zc,zs,zm,zb,zv,zd,ob,ov,lb,lv,ld⟩ := hs
    unfold cQ eX
    rw [if_neg (by simp [h0])]
    refine ⟨by simp, ?_⟩
    repeat' split
    all_goals simp only [List.length_cons,List.length_append,sR,sN,ij,js,List.length_nil]
    all_goals omega
theorem nq {r : TReply} (h : bI r = 0) : il r = cQ r := by unfold il; rw [if_pos h]
theorem tp {r : TReply} (h : ¬ bI r = 0) : il r = [] := by unfold il; rw [if_neg h]
theorem xw (r : TReply) : (il r).length ≤ 257 := by
  by_cases h : bI r = 0
  · rw [nq h]; exact (rY h).2
  · rw [tp h]; simp
theorem r6 {r : TReply} (h : bI r = 0) : ((((cQ r).getD 0 0).toNat : Nat) : Int) = if r.code ≠ 0 then r.fn + 128 else r.fn := by
  rcases goodR_zero h with ⟨h0,hs⟩|⟨h0,hf,hs⟩
  · have hf := hs.fn
    rw [if_pos h0]; unfold cQ; rw [if_pos h0,eP,rQ hf,UInt8.toNat_ofNat']; omega
  · rw [if_neg (by simp [h0])]; unfold cQ; rw [if_neg (by simp [h0]),eP]; exact oW hf
theorem v6 {r : TReply}{f : Int} (h : bI r = 0) (hf : r.fn = f) : gY (cQ r) f := by
  have h1 := r6 h
  have h2 := tq h
  unfold gY
  rw [h1]
  split <;> omega
theorem uR {r : TReply}{q : TRequest} (h : bI r = 0) (hf : r.fn = q.fn) (hc : dY r q) : dS gq (il r) q = (r,0) := by
  have hl := rY h
  have e := (m7 h hc).2
  rw [nq h]
  unfold dS
  rw [if_neg (by omega),if_neg (by simp [v6 h hf]),e,if_pos ⟨h,rfl,hc⟩]
section
variable {g : List UInt8 → TRequest → TReply}{b : List UInt8}{q : TRequest}
theorem kz (h : b.length = 0) : dS g b q = (kJ,13) := by unfold dS; rw [if_pos h]
theorem s5 (h : ¬ b.length = 0) {e : UInt8} (h0 : b.getD 0 0 = e) (h2 : ¬ (0 ≤ q.fn ∧ (((e.toNat : Nat) : Int) = q.fn ∨ q.fn < 128 ∧ ((e.toNat : Nat) : Int) = q.fn + 128))) : dS g b q = (kJ,12) := by
  subst h0; unfold dS; rw [if_neg h,if_pos (show ¬ gY b q.fn from h2)]
theorem ez (h : ¬ b.length = 0) {e : UInt8} (h0 : b.getD 0 0 = e) (h2 : 0 ≤ q.fn ∧ (((e.toNat : Nat) : Int) = q.fn ∨ q.fn < 128 ∧ ((e.toNat : Nat) : Int) = q.fn + 128)) {G : TReply} (hG : G = g b q) (h3 : bI G = 0 → cQ G = b → ¬ dY G q) : dS g b q = (kJ,12) := by
  subst h0; subst hG; unfold dS; rw [if_neg h,if_neg (show ¬ ¬ gY b q.fn from fun hn => hn h2),if_neg (fun h => h3 h.1 h.2.1 h.2.2)]
theorem dL (h : ¬ b.length = 0) {e : UInt8} (h0 : b.getD 0 0 = e) (h2 : 0 ≤ q.fn ∧ (((e.toNat : Nat) : Int) = q.fn ∨ q.fn < 128 ∧ ((e.toNat : Nat) : Int) = q.fn + 128)) {G : TReply} (hG : G = g b q) (h3 : bI G = 0) (h4 : cQ G = b) (h5 : dY G q) : dS g b q = (G,0) := by
  subst h0; subst hG; unfold dS; rw [if_neg h,if_neg (show ¬ ¬ gY b q.fn from fun hn => hn h2),if_pos ⟨h3,h4,h5⟩]
end
section
variable {q : TRequest} (hq : bK q = 0)
include hq
theorem zz : 0 ≤ q.fn ∧ q.fn ≤ 127 := by
  have := hasF_of (cR hq).1; omega
theorem tl {c : Int} (hc : 1 ≤ c ∧ c ≤ 255) : bI (aB q.fn c) = 0 ∧ dY (aB q.fn c) q ∧ (aB q.fn c).fn = q.fn := by
  have hf := zz hq
  have e : aB q.fn c = ⟨q.fn,c,0,0,0,[],[],0,0,[]⟩ := by
    unfold aB
    have e1 : (((q.fn % 2 ^ 7).toNat : Nat) : Int) = q.fn := by omega
    have e2 : (((c % 2 ^ 8).toNat : Nat) : Int) = c := by omega
    rw [e1,e2]
  rw [e]
  exact ⟨tu (by simp only; omega) ⟨by simp only; omega,by simp only; omega,rfl⟩,fun h => absurd h (by simp only; omega),rfl⟩
theorem vr {os : List Bool} (hf : q.fn = 1 ∨ q.fn = 2) (hl : (os.length : Int) = q.count) (hs : os.length ≤ 2040) : bI ⟨q.fn,0,0,0,0,os,[],0,0,[]⟩ = 0 ∧ dY ⟨q.fn,0,0,0,0,os,[],0,0,[]⟩ q := by
  refine ⟨jE rfl (cR hq).1 ⟨by simp,by simp,by simp,fun _ => rfl,fun _ => rfl,fun _ => rfl,fun _ => ⟨rfl,rfl⟩,fun h => ?_,fun _ => rfl,fun _ => rfl,fun h => ?_,fun h => ?_,hs,by simp,by simp⟩,fun _ => ⟨fun _ => hl,fun h => ?_⟩⟩
  all_goals (simp only at h; omega)
theorem vq {os : List UInt16} (hf : q.fn = 3 ∨ q.fn = 4 ∨ q.fn = 23) (hl : (os.length : Int) = q.count) (hs : os.length ≤ 127) : bI ⟨q.fn,0,0,0,0,[],os,0,0,[]⟩ = 0 ∧ dY ⟨q.fn,0,0,0,0,[],os,0,0,[]⟩ q := by
  refine ⟨jE rfl (cR hq).1 ⟨by simp,by simp,by simp,fun _ => rfl,fun _ => rfl,fun _ => rfl,fun _ => ⟨rfl,rfl⟩,fun _ => rfl,fun h => ?_,fun _ => rfl,fun h => ?_,fun h => ?_,by simp,hs,by simp⟩,fun _ => ⟨fun h => ?_,fun _ => hl⟩⟩
  all_goals (simp only at h; omega)
theorem tn (hf : q.fn = 15 ∨ q.fn = 16) : bI ⟨q.fn,0,q.at_,q.count,0,[],[],0,0,[]⟩ = 0 ∧ dY ⟨q.fn,0,q.at_,q.count,0,[],[],0,0,[]⟩ q := by
  obtain ⟨_,hs⟩ := cR hq
  refine ⟨jE rfl (cR hq).1 ⟨hs.wa,hs.wc,by simp,fun h => ?_,fun h => ?_,fun _ => rfl,fun _ => ⟨rfl,rfl⟩,fun _ => rfl,fun _ => rfl,fun _ => rfl,fun h => ?_,fun h => ?_,by simp,by simp,by simp⟩,fun _ => ⟨fun h => ?_,fun h => ?_⟩⟩
  all_goals (simp only at h; omega)
theorem n8 (hf : ¬ (q.fn = 1 ∨ q.fn = 2 ∨ q.fn = 3 ∨ q.fn = 4 ∨ q.fn = 23 ∨ q.fn = 15 ∨ q.fn = 16 ∨ q.fn = 17)) : bI ⟨q.fn,0,q.at_,0,q.sub,q.bits,q.vals,q.and_,q.or_,[]⟩ = 0 ∧ dY ⟨q.fn,0,q.at_,0,q.sub,q.bits,q.vals,q.and_,q.or_,[]⟩ q := by
  obtain ⟨hh,hs⟩ := cR hq
  have hc := hasF_of hh
  have hsm := iL hs
  obtain ⟨wa,wc,ww,ws,za,zc,zw,zs,zm,hb,hv⟩ := hs
  refine ⟨jE rfl hh ⟨wa,by simp,ws,fun h => za (by simp only at h; omega),fun _ => rfl,zs,zm,fun h => ?_,fun h => ?_,fun _ => rfl,fun h => ?_,fun h => ?_,hsm.1,hsm.2,by simp⟩,fun _ => ⟨fun h => ?_,fun h => ?_⟩⟩
  · simp only at h; rw [if_neg (by omega),if_neg (by omega)] at hb; exact hb
  · simp only at h; rw [if_neg (by omega),if_neg (by omega),if_neg (by omega)] at hv; exact hv
  · simp only at h; rw [if_pos (by omega)] at hb; exact hb
  · simp only at h; rw [if_pos (by omega)] at hv; exact hv
  all_goals (simp only at h; omega)
end
def uE (r : TReply) (lo : Int) : Bool := ((((decide (r.code < lo)) || (decide (255 < r.code))) || (decide (r.fn < 0))) || (decide (127 < r.fn))) || (!(decide (r = (⟨r.fn,r.code,0,0,0,[],[],0,0,[]⟩ : TReply))))
def qJ (r : TReply) : Bool := (((!(decide (r = (bw r)))) || (!(aY r.at_))) || (!(aY r.sub))) || (!(aY r.count))
def qI (r : TReply) : Bool := ((decide (r.fn = 5)) && (!decide (((r.bits.length : Nat) : Int) = 1))) || (((decide (r.fn = 6)) || (decide (r.fn = 8))) && (!decide (((r.vals.length : Nat) : Int) = 1)))
def qH (r : TReply) : Bool := ((decide (2040 < ((r.bits.length : Nat) : Int))) || (decide (127 < ((r.vals.length : Nat) : Int)))) || (decide (250 < ((r.data.length : Nat) : Int)))
section
variable {r : TReply}{lo : Int}
theorem sq (hlo : lo = 0 ∨ lo = 1) (h0 : r.code ≠ 0) : uE r lo = false ↔ CodeA r := by
  unfold uE
  simp only [Bool.or_eq_false_iff,Bool.not_eq_false',decide_eq_true_eq,decide_eq_false_iff_not]
  constructor
  · rintro ⟨⟨⟨⟨a,b⟩,c⟩,d⟩,e⟩
    exact ⟨⟨by omega,by omega⟩,⟨by omega,by omega⟩,e⟩
  · rintro ⟨a,b,c⟩
    exact ⟨⟨⟨⟨by omega,by omega⟩,by omega⟩,by omega⟩,c⟩
theorem tx (hlo : lo = 0 ∨ lo = 1) (h1 : (!decide (r.code = 0)) = true) (h2 : uE r lo = true) : bI r = 12 := by
  have h0 : r.code ≠ 0 := by simpa using h1
  exact tt h0 fun h => by rw [(sq hlo h0).2 h] at h2; cases h2
theorem tw (hlo : lo = 0 ∨ lo = 1) (h1 : (!decide (r.code = 0)) = true) (h2 : uE r lo = false) : bI r = 0 := by
  have h0 : r.code ≠ 0 := by simpa using h1
  exact tu h0 ((sq hlo h0).1 h2)
theorem tv (h1 : (!decide (r.code = 0)) = false) (h3 : (!(bO r.fn)) = true) : bI r = 15 := tr (by simpa using h1) (by simpa using h3)
theorem lu (h0 : r.code = 0) (hf : bO r.fn = true) : ShapeA r ↔ qJ r = false ∧ qI r = false ∧ qH r = false := by
  rw [t8 hf h0]
  unfold qJ qI qH
  simp only [Bool.or_eq_false_iff,Bool.and_eq_false_iff,Bool.not_eq_false',decide_eq_true_eq,decide_eq_false_iff_not,aY]
  constructor
  · rintro ⟨a,b,c,d,e,f,g,h,i⟩
    exact ⟨⟨⟨⟨a,b⟩,c⟩,d⟩,⟨by omega,by omega⟩,⟨⟨by omega,by omega⟩,by omega⟩⟩
  · rintro ⟨⟨⟨⟨a,b⟩,c⟩,d⟩,⟨e,f⟩,⟨⟨g,h⟩,i⟩⟩
    exact ⟨a,b,c,d,by omega,by omega,by omega,by omega,by omega⟩
theorem zI (h1 : (!decide (r.code = 0)) = false) (h3 : (!(bO r.fn)) = false) (h4 : qJ r = true) : bI r = 12 := by
  have h0 : r.code = 0 := by simpa using h1
  have hf : bO r.fn = true := by simpa using h3
  exact jD h0 hf fun hs => by rw [((lu h0 hf).1 hs).1] at h4; cases h4
theorem zH (h1 : (!decide (r.code = 0)) = false) (h3 : (!(bO r.fn)) = false) (h4 : qI r = true) : bI r = 12 := by
  have h0 : r.code = 0 := by simpa using h1
  have hf : bO r.fn = true := by simpa using h3
  exact jD h0 hf fun hs => by rw [((lu h0 hf).1 hs).2.1] at h4; cases h4
theorem zG (h1 : (!decide (r.code = 0)) = false) (h3 : (!(bO r.fn)) = false) (h4 : qH r = true) : bI r = 12 := by
  have h0 : r.code = 0 := by simpa using h1
  have hf : bO r.fn = true := by simpa using h3
  exact jD h0 hf fun hs => by rw [((lu h0 hf).1 hs).2.2] at h4; cases h4
theorem zF (h1 : (!decide (r.code = 0)) = false) (h3 : (!(bO r.fn)) = false) (h4 : qJ r = false) (h5 : qI r = false) (h6 : qH r = false) : bI r = 0 := by
  have h0 : r.code = 0 := by simpa using h1
  have hf : bO r.fn = true := by simpa using h3
  exact jE h0 hf ((lu h0 hf).2 ⟨h4,h5,h6⟩)
theorem zE (h1 : (!decide (r.code = 0)) = false) (h3 : (!(bO r.fn)) = false) (h4 : ph r = true) : bI r = 12 := zL (by simpa using h1) (by simpa using h3) h4
theorem zD (h1 : (!decide (r.code = 0)) = false) (h3 : (!(bO r.fn)) = false) (h4 : pf r = true) : bI r = 12 := zK (by simpa using h1) (by simpa using h3) h4
theorem zC (h1 : (!decide (r.code = 0)) = false) (h3 : (!(bO r.fn)) = false) (h4 : ph r = false) (h5 : pf r = false) : bI r = 0 := zJ (by simpa using h1) (by simpa using h3) h4 h5
theorem xv (h : r.code ≠ 0) : cQ r = [UInt8.ofNat (r.fn.toNat ||| 128),bz r.code] := by unfold cQ; rw [if_pos h]
theorem mh (h : r.code = 0) : cQ r = bz r.fn :: eX r := by unfold cQ; rw [if_neg (by simp [h])]
theorem Bv (h : r.fn = 1 ∨ r.fn = 2) : eX r = cY (packL r.bits) := by unfold eX; rw [if_pos h]
theorem Bu (h : r.fn = 3 ∨ r.fn = 4 ∨ r.fn = 23) : eX r = cY (bW r.vals) := by unfold eX; rw [if_neg (by omega),if_pos h]
theorem zB (h : r.fn = 15 ∨ r.fn = 16) : eX r = aJ r.at_ ++ aJ r.count := by unfold eX; rw [if_neg (by omega),if_neg (by omega),if_neg (by omega),if_neg (by omega),if_neg (by omega),if_pos h]
theorem zA (h : r.fn = 17) : eX r = cY r.data := by unfold eX; rw [if_neg (by omega),if_neg (by omega),if_neg (by omega),if_neg (by omega),if_neg (by omega),if_neg (by omega),if_pos h]
end
theorem vz {r : TReply} (h : bI r = 0) (h0 : r.code = 0) (hk : ¬ (r.fn = 1 ∨ r.fn = 2 ∨ r.fn = 3 ∨ r.fn = 4 ∨ r.fn = 23 ∨ r.fn = 15 ∨ r.fn = 16 ∨ r.fn = 17)) : cQ r = cx (⟨r.fn,r.at_,0,0,r.sub,r.bits,r.vals,r.and_,r.or_⟩ : TRequest) := by
  rcases goodR_zero h with ⟨hn,_⟩|⟨_,hf,_⟩
  · exact absurd h0 hn
  have hc := hasF_of hf
  obtain ⟨f,c,at_,count,sub,bits,vals,and_,or_,data⟩ := r
  simp only at *
  have k22 : f = 5 ∨ f = 6 ∨ f = 8 ∨ f = 22 := by omega
  rw [mh h0]
  unfold eX cx fR
  rcases k22 with k|k|k|k <;> subst k <;> rfl
end Go.Proofs.YtlcmbkkimgdnmaaGreat
